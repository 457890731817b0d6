/- The functions of the program as functions of Lean, that its code does what they say, and what they answer; part E. -/
import Derived.Test.YtdjagncoefjfeaaGreatCaD

namespace Go.Proofs.YtdjagncoefjfeaaGreat
set_option linter.all false
section
open Go Go.Proofs.YtdjagncoefjfeaaGreat.Shv Go.Sort
set_option maxRecDepth 100000
theorem De{b n:Nat}(h:b<=n):1+max 0 b<=n+1:=by omega
theorem aeD{a b n:Nat}(c:a<=n)(d:b<=n):1+max a b<=n+1:=by omega
theorem r'{a b n:Nat}(h:1+max a b<=n):1<=n:=by omega
theorem abc:∀(m n:Nat),n<=m->(dQ n).length<=(dQ m).length:=by
 intro m;induction m using Nat.strongRecOn with
 |ind m ih=>
  intro n h;by_cases aG:n<128
  . rw[pH aG];exact oc m
  . have a:¬m<128:=(by omega);rw[ob aG,ob a,gi,gi];exact Nat.succ_le_succ (ih (m/128) (by omega) (n/128) (Nat.div_le_div_right h))
theorem adt(n:Nat)(a b:Bool):(dQ (2*n+if a then 1 else 0)).length=(dQ (2*n+if b then 1 else 0)).length:=by
 have key:∀c:Bool,(dQ (2*n+if c then 1 else 0)).length=(dQ (2*n)).length:=λc=>by
  cases c with
  |false=>rfl
  |true=>
   show(dQ (2*n+1)).length=_;by_cases h:2*n<128
   . rw[pH h,pH (by omega)];rfl
   . rw[ob h,ob (by omega),gi,gi];rw[show(2*n+1)/128=2*n/128 by omega]
 rw[key a,key b]
theorem wu{a b:ak}(h:a.length<=b.length):(c7 a).length<=(c7 b).length:=by
 unfold c7;rw[cm,cm];exact Nat.add_le_add (abc _ _ h) h
theorem It{n:Nat}(a b:Bool){p q:ak}(h:p.length<=q.length):(eX n a p).length<=(eX n b q).length:=by
 unfold eX;rw[cm,cm,adt n a b];exact Nat.add_le_add (dV _) (wu h)
theorem Jb:∀(l:List cS) (E:List Fd),l.Pairwise (λa b=>a.ad<b.ad)->(∀f,f∈l->0<=f.ad)->E.Pairwise (λa b=>a.id<b.id)->
 (∀e,e∈E->∃f,f∈l/\f.ad.toNat=e.id/\e.text.length<=(nP f).length)->(E.flatMap Fd.text).length<=(l.flatMap nP).length
 |[],[],_,_,_,_=>by simp
 |[],e::E,_,_,_,h=>by
  obtain⟨f,p,_⟩:=h e (.head _);cases p
 |f::l,[],_,_,_,_=>by simp
 |f::l,e::E,af,h0,dM,h=>by
  rw[h5]at af;have m:∀f,f∈l->0<=f.ad:=λg aq=>h0 g (.tail _ aq);have q:=h0 f (.head _);have o:∀{i:List Fd},(∀x,x∈i->f.ad.toNat<x.id)->(∀x,x∈i->∃g,g∈f::l/\g.ad.toNat=x.id/\x.text.length<=(nP g).length)->∀x,x∈i->∃g,g∈l/\g.ad.toNat=x.id/\x.text.length<=(nP g).length:=λ{i} a b x d=>by
   obtain⟨g,c,j,k⟩:=b x d;rcases eK.1 c with rfl|c
   . have:=a x d;omega
   . exact⟨g,c,j,k⟩
  obtain⟨g,c,j,k⟩:=h e (.head _);by_cases he:f.ad.toNat=e.id
  . have aq:g=f:=by
     rcases eK.1 c with rfl|c
     . rfl
     . have:=af.1 g c;omega
    subst aq;have n:=(h5.1 dM)
    have:=Jb l E af.2 m n.2 (o (λx d=>by have:=n.1 x d;omega) λx d=>h x (.tail _ d));simp only[eZ,cm];omega
  . have aC:f.ad.toNat<e.id:=by
     rcases eK.1 c with rfl|c
     . omega
     . have:=af.1 g c;omega
    have:=Jb l (e::E) af.2 m dM (o (λx d=>by
     rcases eK.1 d with rfl|d
     . exact aC
     . have:=(h5.1 dM).1 x d;omega) h)
    simp only[eZ,cm]at this⊢;omega
variable{f:ak->Option I}{t:Int}{L:List ak}
section
variable {ts:List ai}
theorem MY:∀{l:List ak} {m:List I},cf f l=some m->(∀q,q∈l->∀v,f q=some v->(bp ts t v).length<=q.length)->((bt ts t m).flatMap c7).length<=(l.flatMap c7).length
 |[],m,h,_=>by cases h;rw[bt];simp
 |q::l,m,h,a=>by
  simp only[cf]at h;split at h
  . rename_i b j c d;cases h;rw[bt];have h1:=wu (a q (.head _) b c);have i:=MY d λg e=>a g (.tail _ e);simp only[eZ,cm];omega
  . cases h
theorem Nr{k:Int}{g:ak->Option I}:∀{l:List ak} {ks d:List I},cf f (e6 l)=some ks->cf g (fk l)=some d->(∀q,q∈l->∀v,(f q=some v->(bp ts k v).length<=q.length)/\(g q=some v->(bp ts t v).length<=q.length))->(fi (bt ts k ks) (bt ts t d)).length<=(l.flatMap c7).length
 |[],ks,d,h1,c,_=>by cases h1;rw[bt,fi];simp;intros;simp_all
 |[q],ks,d,h1,c,_=>by cases h1;rw[bt,fi];simp;intros;simp_all
 |a::b::l,ks,d,h1,c,h=>by
  simp only[e6,fk,cf]at h1 c;split at h1
  . rename_i x p m e;cases h1;split at c
    . rename_i y r n i;cases c;rw[bt,bt,fi];have aM:=wu ((h a (.head _) x).1 m);have o:=wu ((h b (.tail _ (.head _)) y).2 n);have di:=Nr e i λq j=>h q (.tail _ (.tail _ j));simp only[eZ,cm];omega
    . cases c
  . cases h1
def E5(ts:List ai)(n:Nat):Prop:=∀(t:Int) (p:ak) (v:I),p.length<=90000->0<=t->t<ts.length->cX ts n t p=some v->(bp ts t v).length<=p.length/\dJ ts t v<=n
theorem ael(H:c8 ts){n:Nat}(ih:E5 ts n):E5 ts (n+1):=by
 intro t p v z t0 t1 h;rw[tJ]at h;have M:t.toNat<ts.length:=by omega
 have g:=bg M aJ;have ct:=H.gS;obtain⟨aC,aD⟩:=ct.S.K _ g;have aM:=λv=>@xa ts t v;have an:=λv=>@xc ts t v;have di:=λv=>@xd ts t v;have hL:=λv=>@xe ts t v;have jR:=λv=>@qq ts t v;have oZ:=λv=>@oD ts t v;have BK:=λv=>@oE ts t v;have e8:=λv=>@oF ts t v;have V:=λv=>@oG ts t v;have I:=λv=>pP (ts:=ts) t v;have C:=λv a b=>@Aa ts t v a b;generalize ts.getD t.toNat aJ=x at*;unfold qp at h;by_cases k1:x.Kind=1
 . rw[ae k1]at h;unfold w6 at h;split at h
   . cases h;exact⟨by rw[aM _ k1];simp,by rw[C _ rfl rfl];omega⟩
   . split at h
     . rename_i ax;cases h;exact⟨by rw[aM _ k1,ax];simp,by rw[C _ rfl rfl];omega⟩
     . cases h
 rw[al k1]at h;by_cases k2:x.Kind=2
 . rw[ae k2]at h;unfold w7 at h;cases B:gD p with
   |none=>rw[B]at h;cases h
   |some m=>
    rw[B]at h;dsimp only at h;split at h
    . cases h;refine⟨?_,by rw[C _ rfl rfl];omega⟩;rw[an _ k2];show(fb (fE (h' m)).toNat).length<=_;rw[aee,NO B];exact dV _
    . cases h
 rw[al k2]at h;by_cases k3:x.Kind=3
 . rw[ae k3]at h;unfold w8 at h;split at h
   . cases h;exact⟨by rw[di _ k3];exact dV _,by rw[C _ rfl rfl];omega⟩
   . cases h
 rw[al k3]at h;by_cases k4:x.Kind=4
 . rw[ae k4]at h;unfold w9 at h;cases B:gD p with
   |none=>rw[B]at h;cases h
   |some m=>
    rw[B]at h;dsimp only at h;split at h
    . cases h;refine⟨?_,by rw[C _ rfl rfl];omega⟩;rw[hL _ k4];show(fb (m:Int).toNat).length<=_;rw[a7,NO B];exact dV _
    . cases h
 rw[al k4]at h;by_cases k9:x.Kind=9
 . rw[ae k9]at h;obtain⟨k,s⟩:=ct.elem g (by omega);cases p with
   |nil=>
    cases h;refine⟨?_,by rw[C _ rfl rfl];omega⟩;rw[V _ k9];show(match bt ts x.aF []with|[]=>[]|p::_=>1::p).length<=_;rw[bt];simp
   |cons c q=>
    simp only[mj]at h;split at h
    . obtain⟨w,ay,rfl⟩:=kR.1 h;obtain⟨R,F⟩:=ih _ _ _ (by simp at z;omega) k s ay;constructor
      . rw[V _ k9];show(match bt ts x.aF [w]with|[]=>[]|p::_=>1::p).length<=_;rw[bt];simp only[gi];omega
      . rw[I,ae rfl,bx,bx];have:dD ts x.aF [w]<=n:=zA λy d=>by rcases eK.1 d with rfl|d;exact F;cases d
        exact De this
    . cases h
 rw[al k9]at h;by_cases k6:x.Kind=6
 . rw[ae k6]at h;unfold qn at h;cases P:jB p with
   |none=>rw[P]at h;cases h
   |some a=>
    obtain⟨id,q⟩:=a;rw[P]at h;dsimp only at h;have ao:=PK P;have aI:q.length+(dQ id.toNat).length=p.length:=by rw[ao,cm];omega
    have aH:=oc id.toNat;cases bw:cB x.ah id with
    |some m=>
     rw[bw]at h;obtain⟨w,aA,rfl⟩:=kR.1 h;obtain⟨i,aK⟩:=j' bw;obtain⟨R,F⟩:=ih _ _ _ (by omega) (ct.mem g i).1 (ct.mem g i).2 aA;constructor
     . rw[oZ _ k6];dsimp only;rw[bw];dsimp only;rw[bt,B9,cm];omega
     . rw[I,ae rfl,bx,ae k6];dsimp only;rw[bw];dsimp only;have:dD ts m.aw [w]<=n:=zA λy d=>by rcases eK.1 d with rfl|d;exact F;cases d
       exact De this
    |none=>
     rw[bw]at h;dsimp only at h;split at h
     . cases h;constructor
       . rw[oZ _ k6];dsimp only;rw[bw];simp only[fB,B9,cm];omega
       . rw[C _ rfl rfl];omega
     . cases h
 rw[al k6]at h;by_cases k7:x.Kind=7
 . rw[ae k7]at h;unfold nh at h;obtain⟨k,s⟩:=ct.elem g (by omega);cases u:ia p with
   |none=>rw[u]at h;cases h
   |some l=>
    rw[u]at h;dsimp only at h;obtain⟨o,aj,ak,am⟩:=th z;have af:(∀q,q∈l->q.length<=p.length)/\l.length<=p.length:=(by grind);split at h
    . obtain⟨m,i,rfl⟩:=kR.1 h;constructor
      . rw[BK _ k7];have:=MY i λq O v E=>(ih _ _ _ (by have:=af.1 q O;omega) k s E).1
        rwa [EH z u]at this
      . rw[I,ae rfl,bx,bx];have:dD ts x.aF m<=n:=zA λy d=>by
         obtain⟨q,J,L⟩:=pN i y d;exact(ih _ _ _ (by have:=af.1 q J;omega) k s L).2
        exact De this
    . cases h
 rw[al k7]at h;by_cases k8:x.Kind=8
 . rw[ae k8]at h;unfold qo at h;obtain⟨k,s⟩:=ct.elem g (by omega);obtain⟨d1,d2⟩:=ct.key g k8;cases u:ia p with
   |none=>rw[u]at h;cases h
   |some l=>
    rw[u]at h;dsimp only at h;obtain⟨o,aj,ak,am⟩:=th z;have af:(∀q,q∈l->q.length<=p.length)/\l.length<=p.length:=(by grind);split at h
    . split at h
      . rename_i ks aa;split at h
        . obtain⟨m,i,rfl⟩:=kR.1 h;constructor
          . rw[e8 _ k8];have:=Nr aa i λq O v=>⟨λE=>(ih _ _ _ (by have:=af.1 q O;omega) d1 d2 E).1,λE=>(ih _ _ _ (by have:=af.1 q O;omega) k s E).1⟩
            rwa [EH z u]at this
          . rw[I,al (show ¬x.Kind=5 by omega),al (show ¬x.Kind=6 by omega)];dsimp only;have N:dD ts x.aF m<=n:=zA λy d=>by
             obtain⟨q,J,L⟩:=pN i y d;exact(ih _ _ _ (by have:=af.1 q (EC J);omega) k s L).2
            have au:(if ks=[]then 0 else 1)<=n:=by
             cases ks with
             |nil=>exact hv _
             |cons y ks=>
              obtain⟨q,J,L⟩:=pN aa y (.head _);have:=(ih _ _ _ (by have:=af.1 q (Ab J);omega) d1 d2 L).2;rw[pP]at this;show 1<=n;exact r' this
            exact aeD au N
        . cases h
      . cases h
    . cases h
 rw[al k8]at h;have k5:x.Kind=5:=by omega
 unfold ng at h;obtain⟨X,aE⟩:=ct.S.A _ g (.inl k5);cases af:iO p with
 |none=>rw[af]at h;cases h
 |some l=>
  rw[af]at h;dsimp only at h;obtain⟨o,aj,ak,am⟩:=Em z;have D:(∀f,f∈l->f.Data.length<=p.length/\cn f.ad)/\l.Pairwise (λa b=>a.ad<b.ad)/\l.length<=p.length:=by grind
  split at h
  . rename_i G Z;split at h
    . cases h;have ag:jP x.ah (fa x l):=NQ D.2.1 (λf Q=>(D.1 f Q).2);have aG:=qO Z;have ai:∀j,j<x.ah.length->dc (x.ah.getD j aB) (G.getD j av)=false->∃f,f∈l/\f.ad=(x.ah.getD j aB).ad/\(bp ts (x.ah.getD j aB).aw (G.getD j av)).length<=f.Data.length/\dJ ts (x.ah.getD j aB).aw (G.getD j av)<=n:=λj M ab=>by
       have aq:=Ij aB av Z j M;have N:=bg M aB;generalize x.ah.getD j aB=m at*;generalize G.getD j av=w at*;unfold ef at aq;split at aq
       . rename_i f Y;have W:=BY Y;have ap:f.ad=m.ad:=by have:=List.find?_some Y;simpa using this
         obtain⟨R,F⟩:=ih _ _ _ (by have:=(D.1 f W).1;omega) (ct.mem g N).1 (ct.mem g N).2 aq;exact⟨f,W,ap,R,F⟩
       . split at aq
         . rename_i ar;cases aq;unfold dc at ab;simp[ar]at ab
         . cases aq
      constructor
      . rw[jR _ k5];dsimp only;rw[<-NY z af];refine Jb l _ D.2.1 (λf Q=>by have:=(D.1 f Q).2;unfold cn at this;omega) (Ig (vC X ag) (IL X ag)) λe he=>?_;rw[(kK fq _).mem_iff]at he;unfold fg at he;rcases hQ.1 he with he|he
        . obtain⟨j,T,az,U,rfl⟩:=Dp he;obtain⟨f,f1,f2,f3,_⟩:=ai j T U;refine⟨f,f1,by rw[f2],?_⟩;show(eX _ _ _).length<=(eX _ _ _).length;rw[f2];exact It _ _ f3
        . obtain⟨a,a1,rfl⟩:=e0.1 he;obtain⟨f,f1,f2,rfl⟩:=HW a1;refine⟨f,f1,rfl,?_⟩;exact It (n:=f.ad.toNat) false f.cg (dV _)
      . rw[I,ae rfl,ae k5];have:=NT (ts:=ts) (r:=n) (ms:=x.ah) (l:=G) λj T az U=>by
         obtain⟨f,_,_,_,f4⟩:=ai j T U;exact f4
        exact De this
    . cases h
  . cases h
theorem Pj(H:c8 ts):∀n,E5 ts n
 |0=>λt p v _ _ _ h=>by rw[Ac]at h;cases h
 |n+1=>ael H (Pj H n)
def lO(ts:List ai)(t:Int)(v:I):Prop:=(bp ts t (cO v)).length<=(bp ts t v).length/\dJ ts t (cO v)<=dJ ts t v
theorem HQ:∀{l:List I},(∀y,y∈l->lO ts t y)->((bt ts t (l.map cO)).flatMap c7).length<=((bt ts t l).flatMap c7).length/\dD ts t (l.map cO)<=dD ts t l
 |[],_=>by simp
 |v::l,h=>by
  obtain⟨a,b⟩:=HQ (l:=l) λy e=>h y (.tail _ e);obtain⟨c,d⟩:=h v (.head _);have:=wu c;rw[fB,bt,bt,dD,dD,eZ,eZ,cm,cm];omega
theorem PU{k t:Int}:∀{ks l:List I},(∀y,y∈l->lO ts t y)->(fi (bt ts k ks) (bt ts t (l.map cO))).length<=(fi (bt ts k ks) (bt ts t l)).length
 |[],l,_=>by rw[bt];simp[fi]
 |a::ks,[],_=>by simp
 |a::ks,v::l,h=>by
  have:=PU (k:=k) (ks:=ks) (l:=l) λy b=>h y (.tail _ b);have:=wu (h v (.head _)).1;rw[fB,bt,bt,bt];simp only[fi,cm];omega
theorem Pk:∀{ms:List aS} {l:List I},(∀i,i<ms.length->i<l.length->lO ts (ms.getD i aB).aw (l.getD i av)/\(dc (ms.getD i aB) (l.getD i av)=true->cO (l.getD i av)=l.getD i av))->
 ((dm ts ms (l.map cO)).flatMap Fd.text).length<=((dm ts ms l).flatMap Fd.text).length/\fc ts ms (l.map cO)<=fc ts ms l
 |[],l,_=>by rw[dm,fc]<;>simp
 |m::ms,[],_=>by simp
 |m::ms,v::l,h=>by
  obtain⟨a,b⟩:=Pk (ms:=ms) (l:=l) λi h1 g=>h (i+1) (by simpa using h1) (by simpa using g);obtain⟨⟨c,d⟩,e⟩:=h 0 (by simp) (by simp);simp only[jy]at c d e;rw[fB,dm,dm,fc,fc];by_cases f:dc m v=true
  . rw[e f,ae f,ae f,ae f,ae f];exact⟨a,b⟩
  . rw[al f,al f,eZ,cm];have q:(Fd.text ⟨m.ad.toNat,m.cg,bp ts m.aw (cO v)⟩).length<=(Fd.text ⟨m.ad.toNat,m.cg,bp ts m.aw v⟩).length:=It _ _ c;by_cases g:dc m (cO v)=true
    . rw[ae g,ae g];omega
    . rw[al g,al g,eZ,cm];omega
theorem aeE(H:c8 ts){v:I}(k:bJ v):∀t,bY ts false t v->lO ts t v:=by
 have O:=H.V.hx H.T;induction k with
 |mk v hs h1 W X Z Y aa c' af ag ai ab q=>
  intro t F;obtain⟨⟨Q,R,S,U⟩,E⟩:=(eJ _ _ _).1 F;have G:t.toNat<ts.length:=by omega
  have u:=bg G aJ;have f:=pP (ts:=ts) t v;have g:=pP (ts:=ts) t (cO v);have n:=mP v;have same:v.aj=[]->¬v.Kind=5->lO ts t v:=λa b=>by
   have e:cO v=v:=by rw[n,a,al b];cases v;simp_all
   unfold lO;rw[e];exact⟨dV _,dV _⟩
  rcases E with h|h|h|h|h|h|h|h|h
  . exact same h.2.2.2.2.2.1 (by omega)
  . exact same h.2.2.2.2.2.1 (by omega)
  . exact same h.2.2.2.2.2.1 (by omega)
  . exact same h.2.2.2.2.2.1 (by omega)
  . obtain⟨a1,a2,a3,a4,a5,j,r,o⟩:=h;obtain⟨f1,f2⟩:=hJ.1 o;have bC:(ts.getD t.toNat aJ).Kind=5:=(by omega);obtain⟨A,B⟩:=Pk (ts:=ts) (ms:=(ts.getD t.toNat aJ).ah) (l:=v.aj) λi x L=>by
     have J:=bg L av;refine⟨q _ J _ (f2 i x),λK=>?_⟩;obtain⟨M,N⟩:=SA K;have w:=bg x aB;rw[N];exact Y7 ((H.T _ u).iK _ w) _ (H.D _ u _ w M)
    rw[ae bC]at f g;unfold lO;rw[f,g,qq bC,qq bC,y4 (kK _ _),y4 (kK _ _),n];unfold fg;simp only[a1,b5,mf,lD,B5,cm];omega
  . obtain⟨a1,a2,a3,a4,a5,j⟩:=h;have bC:(ts.getD t.toNat aJ).Kind=6:=(by omega);cases bw:cB (ts.getD t.toNat aJ).ah v.ad with
    |none=>
     rw[bw]at j;exact same j.2.2.2.1 (by omega)
    |some m=>
     rw[bw]at j;obtain⟨b1,b2,b3⟩:=j;obtain⟨a,s⟩:∃a,v.aj=[a]:=by
      match k:v.aj,b2 with
      |[a],_=>exact⟨a,rfl⟩
     obtain⟨c,d⟩:=q a (by rw[s];exact .head _) m.aw (cF.1 b3 a (by rw[s];exact .head _));rw[al (show ¬(ts.getD t.toNat aJ).Kind=5 by omega),ae bC]at f g;unfold lO;rw[f,g,oD bC,oD bC,n];simp only[bw,s,fB,mf,bt,dD,B9,cm];omega
  . obtain⟨a1,a2,a3,a4,a5,j,r,o,a9⟩:=h;have bC:(ts.getD t.toNat aJ).Kind=7:=(by omega);obtain⟨A,B⟩:=HQ (ts:=ts) (t:=(ts.getD t.toNat aJ).aF) (l:=v.aj) λy p=>q y p _ (cF.1 a9 y p);rw[al (show ¬(ts.getD t.toNat aJ).Kind=5 by omega),al (show ¬(ts.getD t.toNat aJ).Kind=6 by omega)]at f g;unfold lO;rw[f,g,oE bC,oE bC,n];dsimp only;omega
  . obtain⟨a1,a2,a3,a4,a5,j,r,o,a9,C,P⟩:=h;have bC:(ts.getD t.toNat aJ).Kind=8:=(by omega);have z:∀y,y∈v.aj->lO ts (ts.getD t.toNat aJ).aF y:=λy p=>q y p _ (cF.1 C y p);obtain⟨A,B⟩:=HQ z;rw[al (show ¬(ts.getD t.toNat aJ).Kind=5 by omega),al (show ¬(ts.getD t.toNat aJ).Kind=6 by omega)]at f g;unfold lO;rw[f,g,oF bC,oF bC,n];dsimp only;exact⟨PU z,by omega⟩
  . obtain⟨a1,a2,a3,a4,a5,j,r,o,a9⟩:=h;have bC:(ts.getD t.toNat aJ).Kind=9:=by omega
    match k:v.aj,o with
    |[],_=>exact same k (by omega)
    |[a],_=>
     obtain⟨c,d⟩:=q a (by rw[k];exact .head _) (ts.getD t.toNat aJ).aF (cF.1 a9 a (by rw[k];exact .head _));rw[al (show ¬(ts.getD t.toNat aJ).Kind=5 by omega),al (show ¬(ts.getD t.toNat aJ).Kind=6 by omega)]at f g;unfold lO;rw[f,g,oG bC,oG bC,n];simp only[k,fB,mf,bt,dD,gi];omega
theorem afe(H:c8 ts)(ht:0<=t/\t<ts.length){m:ak}:∀v,gI ts t m=(v,0)->bY ts true t (cO v)->gy ts 3000 t (cO v):=λv h k=>by
 rcases LJ ts t m with⟨e,he,g⟩|⟨x,g,_,j,i⟩
 . rw[g]at h;exact absurd (ee Prod.snd h) he
 . rw[g]at h;have:x=v:=ee Prod.fst h;subst this;obtain⟨a,b⟩:=Pj H 200 t m x (by omega) ht.1 ht.2 i;obtain⟨c,d,_⟩:=Nc H ht j i;obtain⟨e,f⟩:=aeE H d t c;exact oz H 3000 (En d) k (.inl (by omega)) (.inl (by omega))
end
section
variable {tw tr:List ai}{t rt:Int}(dh:c8 tw)(cQ:c8 tr)(ht:0<=t/\t<tw.length)(ag:0<=rt/\rt<tr.length)
include dh cQ ht ag
theorem adu(m:ak):∃x u o e,oK tw tr t rt m x u o e/\(e≠0->o=[]):=by
 rcases MX dh cQ ht ag (m:=m) (afe dh ht)with⟨_,h⟩|⟨x,_,F,⟨_,h⟩|⟨_,⟨_,h⟩|⟨_,⟨_,h⟩|⟨_,⟨_,h⟩|⟨u,_,G,⟨_,h⟩|⟨_,⟨a,l2⟩,h⟩⟩⟩⟩⟩⟩
 . exact⟨_,_,_,_,h,λ_=>rfl⟩
 . exact⟨_,_,_,_,h,λ_=>rfl⟩
 . exact⟨_,_,_,_,h,λ_=>rfl⟩
 . exact⟨_,_,_,_,h,λ_=>rfl⟩
 . exact⟨_,_,_,_,h,λ_=>rfl⟩
 . exact⟨_,_,_,_,h,λ_=>rfl⟩
 . exact⟨_,_,_,_,h,λh=>absurd rfl h⟩
theorem abd(m:ak):∃c e,mK (eo tw t,eo tr rt,m)=some (c,e)/\C6 (eo tw t,eo tr rt,m)=some (c.message,e):=by
 obtain⟨x,u,o,e,⟨h1,f⟩,_⟩:=adu dh cQ ht ag m;rw[pE,(HP dh cQ ht ag).1]at h1;simp only[aU,ao,de,db,bZ,b9]at h1;obtain⟨⟨c,d⟩,b,a⟩:=rX.1 h1;simp only[I.aV,dp,dv]at a;obtain⟨a,rfl⟩:=a;refine⟨c,d,b,?_⟩;rw[C6,f,show c.message=o from ee eR.message a];rfl
def Ba(L:List ak):(Int×Int) ⊕ List ak->(Int×Int×List ak) ⊕ (List ak×List ak)
 |.inl p=>.inl (p.1,p.2,L)
 |.inr l=>.inr (L,l)
theorem Ns{L:List ak}(d:L.length<=1000):∀(k i:Nat) (acc:List ak),i+k=L.length->acc.length<=i->
 ∃o,q4 ((L.length:Int),(i:Int),L,eo tw t,eo tr rt,acc)=some (Ba L o)/\rH ((i:Int),L,eo tw t,eo tr rt,acc)=some (Ba L o)/\(∀l,o= .inr l->l.length=acc.length+k)
 |0,i,acc,g,f=>by
  refine⟨.inr acc,?_,?_,λl h=>by cases h;rfl⟩
  . rw[q4,ch];rfl
  . rw[rH,ch];rfl
 |k+1,i,acc,g,f=>by
  have aC:i<L.length:=by omega
  obtain⟨c,e,h1,b⟩:=abd dh cQ ht ag (L.getD i []);have j:decide ((i:Int)<(L.length:Int))=true:=by simp;omega
  have l2:decide (i<L.length)=true:=by simp;omega
  rw[q4,rH];simp only[j,l2,b5,a7,aP aC,h1,b,aU,ao];by_cases h0:e=0
  . subst h0;obtain⟨o,m,n,p⟩:=Ns d k (i+1) (acc++[c.message]) (by omega) (by simp;omega);have a:room 16 (acc++[c.message]).length=true:=cN;refine⟨o,?_,?_,λl h=>by rw[p l h];simp;omega⟩
    . simp only[de,db,bZ,b9,a,b5];rw[bE];exact m
    . simp only[de,db,bZ,b9,a,b5];rw[bE];exact n
  . refine⟨.inl ((i:Int),e),?_,?_,λl h=>by cases h⟩
    . simp[h0,Ba]
    . simp[h0,Ba]
theorem adv(a:L.length<=1000):∃l n e,DP (eo tw t,eo tr rt,L)=some (l,n,e,L)/\CK (eo tw t,eo tr rt,L)=some (l,n,e,L)/\l.length<=L.length:=by
 obtain⟨i,j⟩:=HP dh cQ ht ag;obtain⟨o,b,d,g⟩:=Ns dh cQ ht ag a L.length 0 [] (by omega) (by simp);have c:q4 ((L.length:Int),0,L,eo tw t,eo tr rt,[])=_:=b;have f:rH (0,L,eo tw t,eo tr rt,[])=_:=d;rw[DP,CK,i,j];simp only[aU,ao,de,db,bZ,b9,c,f];cases o with
 |inl p=>exact⟨_,_,_,rfl,rfl,by simp⟩
 |inr l=>
  have:=g l rfl;exact⟨l,_,_,rfl,rfl,by simp at this;omega⟩
end
theorem PV{l:List ak}(af:l.length<=1000):∀(k i:Nat),i+k=l.length->qJ (l,l,(l.length:Int),(i:Int))=some (.inr ())
 |0,i,a=>by rw[qJ,ch]
 |k+1,i,a=>by
  have aC:i<l.length:=by omega
  rw[qJ,bA,ae (aP aC),ae (aP aC),bz,bE];exact PV af k (i+1) (by omega)
theorem iL{l:List ak}(af:l.length<=1000):Ct (l,l)=some true:=by
 have h0:=PV af l.length 0 (by omega);have a:qJ (l,l,(l.length:Int),0)=_:=h0;rw[Ct,bz,a];rfl
theorem listed(a:L.length<=4)(w r:cY):∀(k i:Nat) (acc:List ak),i+k=L.length->acc.length<=i+1->
 nW (L,(L.length:Int),(i:Int),w,r,acc)=some (.inl true)\/∃l,nW (L,(L.length:Int),(i:Int),w,r,acc)=some (.inr (w,r,l))/\l.length<=10
 |0,i,acc,c,b=>by
  right;refine⟨acc,?_,by omega⟩;rw[nW,ch]
 |k+1,i,acc,c,b=>by
  have aC:i<L.length:=by omega
  rw[nW,bA,ae (aP aC),a7];simp only[aU,ao];by_cases h:400<((L.getD i []).length:Int)
  . rw[ae (by simpa using h)];exact .inl rfl
  . rw[al (by simpa using h),ae (cN),bE];exact listed a w r k (i+1) _ (by omega) (by simp;omega)
theorem aeF{c:nI}(g:xl c.C)(L:List ak):AB (c,L)=some true:=by
 rw[AB];rcases ahs g with⟨w,r,m,e⟩|⟨tw,tr,t,v,e,C⟩
 . rw[e];simp only[aU,ao,Tn];rfl
 . rw[e];simp only[aU,ao,Tn,db,dW];by_cases d:4<(L.length:Int)
   . rw[ae (by simpa using d)]
   rw[al (by simpa using d)];rcases listed (L:=L) (by omega) (eo tw t) (eo tr t) L.length 0 [bp tw t v] (by omega) (by simp)with h|⟨l,h,af⟩
   . have b:nW (L,(L.length:Int),0,eo tw t,eo tr t,[bp tw t v])=_:=h;rw[b];rfl
   . have b:nW (L,(L.length:Int),0,eo tw t,eo tr t,[bp tw t v])=_:=h;rw[b];have i:oj 16 l=some (l,l):=by
      unfold oj fx;rw[ae (mS (cN (by omega) (by omega)))];rfl
     obtain⟨a,n,cZ,h1,f,j⟩:=adv C.W C.R C.t1 C.t2 (L:=l) (by omega);simp only[ao,i];rw[gM,h1];simp only[ao];rw[gM,f];simp only[ao];rw[gM];simp[iL (l:=a) (by omega)]
theorem ahf(h:aO cR.D [.nm Gw,.slice .str])(a:Ok cR [.nm Gw,.slice .str] h):AB h=some true:=match h,a with
 |(c,L),a=>aeF (ads (aeb a)) L
end
end Go.Proofs.YtdjagncoefjfeaaGreat
