/- The functions of the program as functions of Lean, that its code does what they say, and what they answer; part E. -/
import Derived.Test.YtdjagncoefjfeaaGreatCtD

namespace Go.Proofs.YtdjagncoefjfeaaGreat
set_option linter.all false
section
open Go Go.Proofs.YtdjagncoefjfeaaGreat.Shv Go.Sort
set_option maxRecDepth 100000
theorem De{b n:Nat}(h:b<=n):1+max 0 b<=n+1:=by omega
theorem aeW{a b n:Nat}(c:a<=n)(d:b<=n):1+max a b<=n+1:=by omega
theorem sd{a b n:Nat}(h:1+max a b<=n):1<=n:=by omega
theorem acz:∀(m n:Nat),n<=m->(dP n).length<=(dP m).length:=by
 intro m;induction m using Nat.strongRecOn with
 |ind m ih=>
  intro n h;by_cases aH:n<128
  . rw[pO aH];exact om m
  . have a:¬m<128:=(by omega);rw[oj aH,oj a,gA,gA];exact Nat.succ_le_succ (ih (m/128) (by omega) (n/128) (Nat.div_le_div_right h))
theorem acU(n:Nat)(a b:Bool):(dP (2*n+if a then 1 else 0)).length=(dP (2*n+if b then 1 else 0)).length:=by
 have key:∀c:Bool,(dP (2*n+if c then 1 else 0)).length=(dP (2*n)).length:=λc=>by
  cases c with
  |false=>rfl
  |true=>
   show(dP (2*n+1)).length=_;by_cases h:2*n<128
   . rw[pO h,pO (by omega)];rfl
   . rw[oj h,oj (by omega),gA,gA];rw[show(2*n+1)/128=2*n/128 by omega]
 rw[key a,key b]
theorem vN{a b:ak}(h:a.length<=b.length):(da a).length<=(da b).length:=by
 unfold da;rw[cq,cq];exact Nat.add_le_add (acz _ _ h) h
theorem ID{n:Nat}(a b:Bool){p q:ak}(h:p.length<=q.length):(eW n a p).length<=(eW n b q).length:=by
 unfold eW;rw[cq,cq,acU n a b];exact Nat.add_le_add (d' _) (vN h)
theorem IM:∀(l:List cT) (E:List Fd),l.Pairwise (λa b=>a.ad<b.ad)->(∀f,f∈l->0<=f.ad)->E.Pairwise (λa b=>a.id<b.id)->
 (∀e,e∈E->∃f,f∈l/\f.ad.toNat=e.id/\e.text.length<=(nU f).length)->(E.flatMap Fd.text).length<=(l.flatMap nU).length
 |[],[],_,_,_,_=>by simp
 |[],e::E,_,_,_,h=>by
  obtain⟨f,p,_⟩:=h e (.head _);cases p
 |f::l,[],_,_,_,_=>by simp
 |f::l,e::E,af,h0,dL,h=>by
  rw[h6]at af;have m:∀f,f∈l->0<=f.ad:=λg aq=>h0 g (.tail _ aq);have q:=h0 f (.head _);have o:∀{i:List Fd},(∀x,x∈i->f.ad.toNat<x.id)->(∀x,x∈i->∃g,g∈f::l/\g.ad.toNat=x.id/\x.text.length<=(nU g).length)->∀x,x∈i->∃g,g∈l/\g.ad.toNat=x.id/\x.text.length<=(nU g).length:=λ{i} a b x d=>by
   obtain⟨g,c,j,k⟩:=b x d;rcases eJ.1 c with rfl|c
   . have:=a x d;omega
   . exact⟨g,c,j,k⟩
  obtain⟨g,c,j,k⟩:=h e (.head _);by_cases he:f.ad.toNat=e.id
  . have aq:g=f:=by
     rcases eJ.1 c with rfl|c
     . rfl
     . have:=af.1 g c;omega
    subst aq;have n:=(h6.1 dL)
    have:=IM l E af.2 m n.2 (o (λx d=>by have:=n.1 x d;omega) λx d=>h x (.tail _ d));simp only[eY,cq];omega
  . have aB:f.ad.toNat<e.id:=by
     rcases eJ.1 c with rfl|c
     . omega
     . have:=af.1 g c;omega
    have:=IM l (e::E) af.2 m dL (o (λx d=>by
     rcases eJ.1 d with rfl|d
     . exact aB
     . have:=(h6.1 dL).1 x d;omega) h)
    simp only[eY,cq]at this⊢;omega
variable{t:Int}{f:ak->Option I}
section
variable {ts:List ai}
theorem Mt:∀{l:List ak} {m:List I},cg f l=some m->(∀q,q∈l->∀v,f q=some v->(bo ts t v).length<=q.length)->((bt ts t m).flatMap da).length<=(l.flatMap da).length
 |[],m,h,_=>by cases h;rw[bt];simp
 |q::l,m,h,a=>by
  simp only[cg]at h;split at h
  . rename_i b j c d;cases h;rw[bt];have h1:=vN (a q (.head _) b c);have i:=Mt d λg e=>a g (.tail _ e);simp only[eY,cq];omega
  . cases h
theorem Ng{k:Int}{g:ak->Option I}:∀{l:List ak} {ks d:List I},cg f (e5 l)=some ks->cg g (fh l)=some d->(∀q,q∈l->∀v,(f q=some v->(bo ts k v).length<=q.length)/\(g q=some v->(bo ts t v).length<=q.length))->(fg (bt ts k ks) (bt ts t d)).length<=(l.flatMap da).length
 |[],ks,d,h1,c,_=>by cases h1;rw[bt,fg];simp;intros;simp_all
 |[q],ks,d,h1,c,_=>by cases h1;rw[bt,fg];simp;intros;simp_all
 |a::b::l,ks,d,h1,c,h=>by
  simp only[e5,fh,cg]at h1 c;split at h1
  . rename_i x p m e;cases h1;split at c
    . rename_i y r n i;cases c;rw[bt,bt,fg];have aN:=vN ((h a (.head _) x).1 m);have o:=vN ((h b (.tail _ (.head _)) y).2 n);have dx:=Ng e i λq j=>h q (.tail _ (.tail _ j));simp only[eY,cq];omega
    . cases c
  . cases h1
def Fa(ts:List ai)(n:Nat):Prop:=∀(t:Int) (p:ak) (v:I),p.length<=90000->0<=t->t<ts.length->cY ts n t p=some v->(bo ts t v).length<=p.length/\dH ts t v<=n
theorem adP(H:c' ts){n:Nat}(ih:Fa ts n):Fa ts (n+1):=by
 intro t p v z t0 t1 h;rw[tJ]at h;have M:t.toNat<ts.length:=by omega
 have g:=bd M aK;have cv:=H.gT;obtain⟨aA,aB⟩:=cv.S.K _ g;have aN:=λv=>@xk ts t v;have am:=λv=>@xl ts t v;have dx:=λv=>@xm ts t v;have hI:=λv=>@xn ts t v;have jT:=λv=>@qt ts t v;have o7:=λv=>@oL ts t v;have BL:=λv=>@oM ts t v;have e8:=λv=>@oN ts t v;have lW:=λv=>@oO ts t v;have I:=λv=>pW (ts:=ts) t v;have C:=λv a b=>@Ag ts t v a b;generalize ts.getD t.toNat aK=x at*;unfold qs at h;by_cases k1:x.Kind=1
 . rw[ae k1]at h;unfold xg at h;split at h
   . cases h;exact⟨by rw[aN _ k1];simp,by rw[C _ rfl rfl];omega⟩
   . split at h
     . rename_i au;cases h;exact⟨by rw[aN _ k1,au];simp,by rw[C _ rfl rfl];omega⟩
     . cases h
 rw[al k1]at h;by_cases k2:x.Kind=2
 . rw[ae k2]at h;unfold xh at h;cases B:gD p with
   |none=>rw[B]at h;cases h
   |some m=>
    rw[B]at h;dsimp only at h;split at h
    . cases h;refine⟨?_,by rw[C _ rfl rfl];omega⟩;rw[am _ k2];show(fb (fE (ia m)).toNat).length<=_;rw[aev,Nk B];exact d' _
    . cases h
 rw[al k2]at h;by_cases k3:x.Kind=3
 . rw[ae k3]at h;unfold xi at h;split at h
   . cases h;exact⟨by rw[dx _ k3];exact d' _,by rw[C _ rfl rfl];omega⟩
   . cases h
 rw[al k3]at h;by_cases k4:x.Kind=4
 . rw[ae k4]at h;unfold xj at h;cases B:gD p with
   |none=>rw[B]at h;cases h
   |some m=>
    rw[B]at h;dsimp only at h;split at h
    . cases h;refine⟨?_,by rw[C _ rfl rfl];omega⟩;rw[hI _ k4];show(fb (m:Int).toNat).length<=_;rw[aZ,Nk B];exact d' _
    . cases h
 rw[al k4]at h;by_cases k9:x.Kind=9
 . rw[ae k9]at h;obtain⟨k,s⟩:=cv.elem g (by omega);cases p with
   |nil=>
    cases h;refine⟨?_,by rw[C _ rfl rfl];omega⟩;rw[lW _ k9];show(match bt ts x.aF []with|[]=>[]|p::_=>1::p).length<=_;rw[bt];simp
   |cons c q=>
    simp only[mn]at h;split at h
    . obtain⟨w,ax,rfl⟩:=kQ.1 h;obtain⟨R,F⟩:=ih _ _ _ (by simp at z;omega) k s ax;constructor
      . rw[lW _ k9];show(match bt ts x.aF [w]with|[]=>[]|p::_=>1::p).length<=_;rw[bt];simp only[gA];omega
      . rw[I,ae rfl,bB,bB];have:dC ts x.aF [w]<=n:=zF λy d=>by rcases eJ.1 d with rfl|d;exact F;cases d
        exact De this
    . cases h
 rw[al k9]at h;by_cases k6:x.Kind=6
 . rw[ae k6]at h;unfold qp at h;cases P:jA p with
   |none=>rw[P]at h;cases h
   |some a=>
    obtain⟨id,q⟩:=a;rw[P]at h;dsimp only at h;have an:=Qa P;have aH:q.length+(dP id.toNat).length=p.length:=by rw[an,cq];omega
    have aG:=om id.toNat;cases bx:cB x.ah id with
    |some m=>
     rw[bx]at h;obtain⟨w,az,rfl⟩:=kQ.1 h;obtain⟨i,aI⟩:=kf bx;obtain⟨R,F⟩:=ih _ _ _ (by omega) (cv.mem g i).1 (cv.mem g i).2 az;constructor
     . rw[o7 _ k6];dsimp only;rw[bx];dsimp only;rw[bt,B8,cq];omega
     . rw[I,ae rfl,bB,ae k6];dsimp only;rw[bx];dsimp only;have:dC ts m.aw [w]<=n:=zF λy d=>by rcases eJ.1 d with rfl|d;exact F;cases d
       exact De this
    |none=>
     rw[bx]at h;dsimp only at h;split at h
     . cases h;constructor
       . rw[o7 _ k6];dsimp only;rw[bx];simp only[gB,B8,cq];omega
       . rw[C _ rfl rfl];omega
     . cases h
 rw[al k6]at h;by_cases k7:x.Kind=7
 . rw[ae k7]at h;unfold nn at h;obtain⟨k,s⟩:=cv.elem g (by omega);cases u:ib p with
   |none=>rw[u]at h;cases h
   |some l=>
    rw[u]at h;dsimp only at h;obtain⟨o,ai,aj,ak⟩:=tZ z;have af:(∀q,q∈l->q.length<=p.length)/\l.length<=p.length:=(by grind);split at h
    . obtain⟨m,i,rfl⟩:=kQ.1 h;constructor
      . rw[BL _ k7];have:=Mt i λq O v E=>(ih _ _ _ (by have:=af.1 q O;omega) k s E).1
        rwa [EM z u]at this
      . rw[I,ae rfl,bB,bB];have:dC ts x.aF m<=n:=zF λy d=>by
         obtain⟨q,J,L⟩:=pU i y d;exact(ih _ _ _ (by have:=af.1 q J;omega) k s L).2
        exact De this
    . cases h
 rw[al k7]at h;by_cases k8:x.Kind=8
 . rw[ae k8]at h;unfold qq at h;obtain⟨k,s⟩:=cv.elem g (by omega);obtain⟨d1,d2⟩:=cv.key g k8;cases u:ib p with
   |none=>rw[u]at h;cases h
   |some l=>
    rw[u]at h;dsimp only at h;obtain⟨o,ai,aj,ak⟩:=tZ z;have af:(∀q,q∈l->q.length<=p.length)/\l.length<=p.length:=(by grind);split at h
    . split at h
      . rename_i ks Z;split at h
        . obtain⟨m,i,rfl⟩:=kQ.1 h;constructor
          . rw[e8 _ k8];have:=Ng Z i λq O v=>⟨λE=>(ih _ _ _ (by have:=af.1 q O;omega) d1 d2 E).1,λE=>(ih _ _ _ (by have:=af.1 q O;omega) k s E).1⟩
            rwa [EM z u]at this
          . rw[I,al (show ¬x.Kind=5 by omega),al (show ¬x.Kind=6 by omega)];dsimp only;have N:dC ts x.aF m<=n:=zF λy d=>by
             obtain⟨q,J,L⟩:=pU i y d;exact(ih _ _ _ (by have:=af.1 q (D0 J);omega) k s L).2
            have ar:(if ks=[]then 0 else 1)<=n:=by
             cases ks with
             |nil=>exact hR _
             |cons y ks=>
              obtain⟨q,J,L⟩:=pU Z y (.head _);have:=(ih _ _ _ (by have:=af.1 q (Ah J);omega) d1 d2 L).2;rw[pW]at this;show 1<=n;exact sd this
            exact aeW ar N
        . cases h
      . cases h
    . cases h
 rw[al k8]at h;have k5:x.Kind=5:=by omega
 unfold nk at h;obtain⟨W,aD⟩:=cv.S.A _ g (.inl k5);cases af:iI p with
 |none=>rw[af]at h;cases h
 |some l=>
  rw[af]at h;dsimp only at h;obtain⟨o,ai,aj,ak⟩:=Et z;have D:(∀f,f∈l->f.Data.length<=p.length/\cm f.ad)/\l.Pairwise (λa b=>a.ad<b.ad)/\l.length<=p.length:=by grind
  split at h
  . rename_i G Y;split at h
    . cases h;have ab:jR x.ah (fa x l):=Nn D.2.1 (λf Q=>(D.1 f Q).2);have aE:=qS Y;have ag:∀j,j<x.ah.length->di (x.ah.getD j aC) (G.getD j av)=false->∃f,f∈l/\f.ad=(x.ah.getD j aC).ad/\(bo ts (x.ah.getD j aC).aw (G.getD j av)).length<=f.Data.length/\dH ts (x.ah.getD j aC).aw (G.getD j av)<=n:=λj M aa=>by
       have aq:=I7 aC av Y j M;have N:=bd M aC;generalize x.ah.getD j aC=m at*;generalize G.getD j av=w at*;unfold eg at aq;split at aq
       . rename_i f X;have V:=Ck X;have ao:f.ad=m.ad:=by have:=List.find?_some X;simpa using this
         obtain⟨R,F⟩:=ih _ _ _ (by have:=(D.1 f V).1;omega) (cv.mem g N).1 (cv.mem g N).2 aq;exact⟨f,V,ao,R,F⟩
       . split at aq
         . rename_i ap;cases aq;unfold di at aa;simp[ap]at aa
         . cases aq
      constructor
      . rw[jT _ k5];dsimp only;rw[<-Pt z af];refine IM l _ D.2.1 (λf Q=>by have:=(D.1 f Q).2;unfold cm at this;omega) (HO (wu W ab) (HY W ab)) λe he=>?_;rw[(kL fm _).mem_iff]at he;unfold fe at he;rcases hQ.1 he with he|he
        . obtain⟨j,T,ay,U,rfl⟩:=Du he;obtain⟨f,f1,f2,f3,_⟩:=ag j T U;refine⟨f,f1,by rw[f2],?_⟩;show(eW _ _ _).length<=(eW _ _ _).length;rw[f2];exact ID _ _ f3
        . obtain⟨a,a1,rfl⟩:=e'.1 he;obtain⟨f,f1,f2,rfl⟩:=H3 a1;refine⟨f,f1,rfl,?_⟩;exact ID (n:=f.ad.toNat) false f.ch (d' _)
      . rw[I,ae rfl,ae k5];have:=Nq (ts:=ts) (r:=n) (ms:=x.ah) (l:=G) λj T ay U=>by
         obtain⟨f,_,_,_,f4⟩:=ag j T U;exact f4
        exact De this
    . cases h
  . cases h
theorem PC(H:c' ts):∀n,Fa ts n
 |0=>λt p v _ _ _ h=>by rw[zs]at h;cases h
 |n+1=>adP H (PC H n)
def lM(ts:List ai)(t:Int)(v:I):Prop:=(bo ts t (cQ v)).length<=(bo ts t v).length/\dH ts t (cQ v)<=dH ts t v
theorem Ja:∀{l:List I},(∀y,y∈l->lM ts t y)->((bt ts t (l.map cQ)).flatMap da).length<=((bt ts t l).flatMap da).length/\dC ts t (l.map cQ)<=dC ts t l
 |[],_=>by simp
 |v::l,h=>by
  obtain⟨a,b⟩:=Ja (l:=l) λy e=>h y (.tail _ e);obtain⟨c,d⟩:=h v (.head _);have:=vN c;rw[gB,bt,bt,dC,dC,eY,eY,cq,cq];omega
theorem PS{k t:Int}:∀{ks l:List I},(∀y,y∈l->lM ts t y)->(fg (bt ts k ks) (bt ts t (l.map cQ))).length<=(fg (bt ts k ks) (bt ts t l)).length
 |[],l,_=>by rw[bt];simp[fg]
 |a::ks,[],_=>by simp
 |a::ks,v::l,h=>by
  have:=PS (k:=k) (ks:=ks) (l:=l) λy b=>h y (.tail _ b);have:=vN (h v (.head _)).1;rw[gB,bt,bt,bt];simp only[fg,cq];omega
theorem PD:∀{ms:List aU} {l:List I},(∀i,i<ms.length->i<l.length->lM ts (ms.getD i aC).aw (l.getD i av)/\(di (ms.getD i aC) (l.getD i av)=true->cQ (l.getD i av)=l.getD i av))->
 ((dm ts ms (l.map cQ)).flatMap Fd.text).length<=((dm ts ms l).flatMap Fd.text).length/\fc ts ms (l.map cQ)<=fc ts ms l
 |[],l,_=>by rw[dm,fc]<;>simp
 |m::ms,[],_=>by simp
 |m::ms,v::l,h=>by
  obtain⟨a,b⟩:=PD (ms:=ms) (l:=l) λi h1 g=>h (i+1) (by simpa using h1) (by simpa using g);obtain⟨⟨c,d⟩,e⟩:=h 0 (by simp) (by simp);simp only[jv]at c d e;rw[gB,dm,dm,fc,fc];by_cases f:di m v=true
  . rw[e f,ae f,ae f,ae f,ae f];exact⟨a,b⟩
  . rw[al f,al f,eY,cq];have q:(Fd.text ⟨m.ad.toNat,m.ch,bo ts m.aw (cQ v)⟩).length<=(Fd.text ⟨m.ad.toNat,m.ch,bo ts m.aw v⟩).length:=ID _ _ c;by_cases g:di m (cQ v)=true
    . rw[ae g,ae g];omega
    . rw[al g,al g,eY,cq];omega
theorem aeX(H:c' ts){v:I}(k:bK v):∀t,bX ts false t v->lM ts t v:=by
 have O:=H.V.hr H.T;induction k with
 |mk v hs h1 W X Z Y aa dc af ag ai ab q=>
  intro t F;obtain⟨⟨Q,R,S,U⟩,E⟩:=(eH _ _ _).1 F;have G:t.toNat<ts.length:=by omega
  have u:=bd G aK;have f:=pW (ts:=ts) t v;have g:=pW (ts:=ts) t (cQ v);have n:=mT v;have same:v.aj=[]->¬v.Kind=5->lM ts t v:=λa b=>by
   have e:cQ v=v:=by rw[n,a,al b];cases v;simp_all
   unfold lM;rw[e];exact⟨d' _,d' _⟩
  rcases E with h|h|h|h|h|h|h|h|h
  . exact same h.2.2.2.2.2.1 (by omega)
  . exact same h.2.2.2.2.2.1 (by omega)
  . exact same h.2.2.2.2.2.1 (by omega)
  . exact same h.2.2.2.2.2.1 (by omega)
  . obtain⟨a1,a2,a3,a4,a5,j,r,o⟩:=h;obtain⟨f1,f2⟩:=hG.1 o;have bD:(ts.getD t.toNat aK).Kind=5:=(by omega);obtain⟨A,B⟩:=PD (ts:=ts) (ms:=(ts.getD t.toNat aK).ah) (l:=v.aj) λi x L=>by
     have J:=bd L av;refine⟨q _ J _ (f2 i x),λK=>?_⟩;obtain⟨M,N⟩:=SX K;have w:=bd x aC;rw[N];exact YN ((H.T _ u).iG _ w) _ (H.D _ u _ w M)
    rw[ae bD]at f g;unfold lM;rw[f,g,qt bD,qt bD,za (kL _ _),za (kL _ _),n];unfold fe;simp only[a1,b5,mj,mg,B3,cq];omega
  . obtain⟨a1,a2,a3,a4,a5,j⟩:=h;have bD:(ts.getD t.toNat aK).Kind=6:=(by omega);cases bx:cB (ts.getD t.toNat aK).ah v.ad with
    |none=>
     rw[bx]at j;exact same j.2.2.2.1 (by omega)
    |some m=>
     rw[bx]at j;obtain⟨b1,b2,b3⟩:=j;obtain⟨a,s⟩:∃a,v.aj=[a]:=by
      match k:v.aj,b2 with
      |[a],_=>exact⟨a,rfl⟩
     obtain⟨c,d⟩:=q a (by rw[s];exact .head _) m.aw (cI.1 b3 a (by rw[s];exact .head _));rw[al (show ¬(ts.getD t.toNat aK).Kind=5 by omega),ae bD]at f g;unfold lM;rw[f,g,oL bD,oL bD,n];simp only[bx,s,gB,mj,bt,dC,B8,cq];omega
  . obtain⟨a1,a2,a3,a4,a5,j,r,o,a9⟩:=h;have bD:(ts.getD t.toNat aK).Kind=7:=(by omega);obtain⟨A,B⟩:=Ja (ts:=ts) (t:=(ts.getD t.toNat aK).aF) (l:=v.aj) λy p=>q y p _ (cI.1 a9 y p);rw[al (show ¬(ts.getD t.toNat aK).Kind=5 by omega),al (show ¬(ts.getD t.toNat aK).Kind=6 by omega)]at f g;unfold lM;rw[f,g,oM bD,oM bD,n];dsimp only;omega
  . obtain⟨a1,a2,a3,a4,a5,j,r,o,a9,C,P⟩:=h;have bD:(ts.getD t.toNat aK).Kind=8:=(by omega);have z:∀y,y∈v.aj->lM ts (ts.getD t.toNat aK).aF y:=λy p=>q y p _ (cI.1 C y p);obtain⟨A,B⟩:=Ja z;rw[al (show ¬(ts.getD t.toNat aK).Kind=5 by omega),al (show ¬(ts.getD t.toNat aK).Kind=6 by omega)]at f g;unfold lM;rw[f,g,oN bD,oN bD,n];dsimp only;exact⟨PS z,by omega⟩
  . obtain⟨a1,a2,a3,a4,a5,j,r,o,a9⟩:=h;have bD:(ts.getD t.toNat aK).Kind=9:=by omega
    match k:v.aj,o with
    |[],_=>exact same k (by omega)
    |[a],_=>
     obtain⟨c,d⟩:=q a (by rw[k];exact .head _) (ts.getD t.toNat aK).aF (cI.1 a9 a (by rw[k];exact .head _));rw[al (show ¬(ts.getD t.toNat aK).Kind=5 by omega),al (show ¬(ts.getD t.toNat aK).Kind=6 by omega)]at f g;unfold lM;rw[f,g,oO bD,oO bD,n];simp only[k,gB,mj,bt,dC,gA];omega
theorem afv(H:c' ts)(ht:0<=t/\t<ts.length){m:ak}:∀v,gJ ts t m=(v,0)->bX ts true t (cQ v)->gu ts 3000 t (cQ v):=λv h k=>by
 rcases LZ ts t m with⟨e,he,g⟩|⟨x,g,_,j,i⟩
 . rw[g]at h;exact absurd (eu Prod.snd h) he
 . rw[g]at h;have:x=v:=eu Prod.fst h;subst this;obtain⟨a,b⟩:=PC H 200 t m x (by omega) ht.1 ht.2 i;obtain⟨c,d,_⟩:=Nw H ht j i;obtain⟨e,f⟩:=aeX H d t c;exact oH H 3000 (Eu d) k (.inl (by omega)) (.inl (by omega))
end
section
variable {tw tr:List ai}{t rt:Int}(dn:c' tw)(cN:c' tr)(ht:0<=t/\t<tw.length)(ag:0<=rt/\rt<tr.length)
include dn cN ht ag
theorem acV(m:ak):∃x u o e,oR tw tr t rt m x u o e/\(e≠0->o=[]):=by
 rcases Mr dn cN ht ag (m:=m) (afv dn ht)with⟨_,h⟩|⟨x,_,F,⟨_,h⟩|⟨_,⟨_,h⟩|⟨_,⟨_,h⟩|⟨_,⟨_,h⟩|⟨u,_,G,⟨_,h⟩|⟨_,⟨a,l2⟩,h⟩⟩⟩⟩⟩⟩
 . exact⟨_,_,_,_,h,λ_=>rfl⟩
 . exact⟨_,_,_,_,h,λ_=>rfl⟩
 . exact⟨_,_,_,_,h,λ_=>rfl⟩
 . exact⟨_,_,_,_,h,λ_=>rfl⟩
 . exact⟨_,_,_,_,h,λ_=>rfl⟩
 . exact⟨_,_,_,_,h,λ_=>rfl⟩
 . exact⟨_,_,_,_,h,λh=>absurd rfl h⟩
theorem acA(m:ak):∃c e,mO (e2 tw t,e2 tr rt,m)=some (c,e)/\C' (e2 tw t,e2 tr rt,m)=some (c.message,e):=by
 obtain⟨x,u,o,e,⟨h1,f⟩,_⟩:=acV dn cN ht ag m;rw[pL,(Nf dn cN ht ag).1]at h1;simp only[aS,ao,dd,c8,bY,b6]at h1;obtain⟨⟨c,d⟩,b,a⟩:=uw.1 h1;simp only[I.aV,dG,dV]at a;obtain⟨a,rfl⟩:=a;refine⟨c,d,b,?_⟩;rw[C',f,show c.message=o from eu eP.message a];rfl
end
theorem PT{l:List ak}(af:l.length<=1000):∀(k i:Nat),i+k=l.length->vk (l,l,(l.length:Int),(i:Int))=some (.inr ())
 |0,i,a=>by rw[vk,b']
 |k+1,i,a=>by
  have aB:i<l.length:=by omega
  rw[vk,br,ae (aP aB),ae (aP aB),bw,bC];exact PT af k (i+1) (by omega)
theorem i'{l:List ak}(af:l.length<=1000):TH (l,l)=some true:=by
 have h0:=PT af l.length 0 (by omega);have a:vk (l,l,(l.length:Int),0)=_:=h0;rw[TH,bw,a];rfl
theorem listed{L:List ak}(cX:L.length<=4)(w r:cD):∀(k i:Nat) (acc:List ak),i+k=L.length->acc.length<=i+1->
 yo (L,(L.length:Int),(i:Int),w,r,acc)=some (.inl true)\/∃l,yo (L,(L.length:Int),(i:Int),w,r,acc)=some (.inr (w,r,l))/\l.length<=10
 |0,i,acc,b,a=>by
  right;refine⟨acc,?_,by omega⟩;rw[yo,b']
 |k+1,i,acc,b,a=>by
  have aB:i<L.length:=by omega
  rw[yo,br,ae (aP aB),aZ];simp only[aS,ao];by_cases h:400<((L.getD i []).length:Int)
  . rw[ae (by simpa using h)];exact .inl rfl
  . rw[al (by simpa using h),ae (cO),bC];exact listed cX w r k (i+1) _ (by omega) (by simp;omega)
def Bj(t:Int)(r:cD):Prop:=∃ts,r=e2 ts t/\c' ts/\0<=t/\t<ts.length
section
variable {t:Int}{L:List cD}(cX:L.length<=1000)(h:∀r,r∈L->Bj t r)
include cX h
theorem JJ:∀(k i:Nat),i+k=L.length->ka (L,(L.length:Int),(i:Int))=some (.inr ())
 |0,i,a=>by rw[ka,b']
 |k+1,i,a=>by
  have aB:i<L.length:=by omega
  obtain⟨ts,e,H,t0,t1⟩:=h _ (bd aB lv);rw[ka,br,ae (aP aB),aZ,e,(wc H ⟨t0,t1⟩).1];simp only[aS,ao,dd,c8,bY,b6];rw[bC];exact JJ k (i+1) (by omega)
theorem L5(m:ak):∀(k i:Nat),i+k=L.length->rA (L,m,(i:Int))=some (.inr (L,m))
 |0,i,a=>by rw[rA,b']
 |k+1,i,a=>by
  have aB:i<L.length:=by omega
  obtain⟨ts,e,H,t0,t1⟩:=h _ (bd aB lv);rw[rA,br,ae (aP aB),ae (aP aB),aZ,e];show(jJ ((⟨ts⟩:aT),t)>>=_)=_;rw[(wc H ⟨t0,t1⟩).2];simp only[aS,ao,dd,c8,bY,b6];rw[bC];exact L5 m k (i+1) (by omega)
def uX(L:List cD):(Int×Int) ⊕ ak->(ak×Int×Int) ⊕ (List cD×ak)
 |.inl p=>.inl ([],p.1,p.2)
 |.inr m=>.inr (L,m)
theorem Oy:∀(k i:Nat) (m:ak),i+k+1=L.length->
 ∃o,rL (L,m,((L.length-1:Nat):Int),(i:Int))=some (uX L o)/\rB (L,m,((i+1:Nat):Int))=some (uX L o)
 |0,i,m,g=>by
  refine⟨.inr m,?_,?_⟩
  . rw[rL,b'];rfl
  . rw[rB,b'];rfl
 |k+1,i,m,g=>by
  have h1:i<L.length:=by omega
  have a:i+1<L.length:=by omega
  obtain⟨tw,aN,dn,a0,a1⟩:=h _ (bd h1 lv);obtain⟨tr,f,cN,b0,b1⟩:=h _ (bd a lv);obtain⟨c,e,b,d⟩:=acA dn cN ⟨a0,a1⟩ ⟨b0,b1⟩ m;have d1:decide ((i:Int)<((L.length-1:Nat):Int))=true:=by simp;omega
  have d2:decide (((i+1:Nat):Int)<(L.length:Int))=true:=by simp;omega
  have s1:c9 .i64 ((i+1:Nat):Int) 1=(i:Int):=by rw[gS];omega
  rw[rL,rB];simp only[d1,d2,s1,b5,aZ,aP h1,aP a,aS,ao];rw[bC];simp only[aZ,aP a,b5,aN,f,b,d,ao];by_cases h0:e=0
  . subst h0;obtain⟨o,j,l⟩:=Oy k (i+1) c.message (by omega);refine⟨o,?_,?_⟩
    . simp only[dd,c8,bY,b6];exact j
    . simp only[dd,c8,bY,b6];rw[bC];exact l
  . refine⟨.inl ((i:Int),e),?_,?_⟩
    . simp[h0,uX]
    . simp[h0,uX]
theorem acW(m:ak):∃r,CQ (L,m)=some r/\Da (L,m)=some r:=by
 rw[CQ,Da];by_cases a:(L.length:Int)<2
 . rw[ae (by simpa using a),ae (by simpa using a)];exact⟨_,rfl,rfl⟩
 rw[al (by simpa using a),al (by simpa using a)];have f:ka (L,(L.length:Int),0)=_:=JJ cX h L.length 0 (by omega);have g:rA (L,m,0)=_:=L5 cX h m L.length 0 (by omega);have s1:c9 .i64 (L.length:Int) 1=((L.length-1:Nat):Int):=by rw[gS];omega
 obtain⟨o,b,d⟩:=Oy cX h (L.length-1) 0 m (by omega);have c:rL (L,m,((L.length-1:Nat):Int),0)=_:=b;have e:rB (L,m,1)=_:=d;rw[wo,f,g];simp only[aS,ao,dd,c8,bY,b6,s1,c,e];cases o with
 |inl p=>exact⟨_,rfl,rfl⟩
 |inr l=>exact⟨(l,((L.length-1:Nat):Int),0),by simp only[uX,s1],by simp only[uX,s1]⟩
end
theorem PE{L:List cD}(cX:L.length<=100)(h:∀r,r∈L->Bj t r)(m:ak):∀(k i:Nat),i+k=L.length+1->qL (m,L,((L.length+1:Nat):Int),(i:Int))=some (.inr ())
 |0,i,c=>by rw[qL,b']
 |k+1,i,c=>by
  have b:dZ L 0 (i:Int)=L.take i:=by simp[dZ]
  have hs:dN 0 (i:Int) L.length=true:=ij.2 (by omega);have d:(L.take i).length<=1000:=by rw[oF];omega
  obtain⟨r,e,f⟩:=acW d (λr ag=>h r (r0 ag)) m;have a:fj 32 (L.take i)=some (L.take i):=by
   unfold fj;rw[ae (mW (cO (by omega) (by omega)))]
  rw[qL,br,ae hs,b,a];simp only[aS,ao,e,f,hs,b5,dd,c8,dW,bY,b6];rw[bC];exact PE cX h m k (i+1) (by omega)
theorem PU{t:Int}{m:ak}{A B:List iY}{w:cD}(j:w.aw=t)(f:A.length<=reachBytes/\∀c,c∈A->nu c)(dj:B.length<=reachBytes/\∀c,c∈B->nu c):
 ∀(k i:Nat) (L:List cD) (aJ:List fu),i+k=2->L.length<=i+2->(∀r,r∈L->Bj t r)->ku aJ->0<=t->t<aJ.length->
 n1 (m,A,B,(i:Int),w,L,aJ)=some (.inl true)\/∃L',n1 (m,A,B,(i:Int),w,L,aJ)=some (.inr (m,L'))/\L'.length<=4/\∀r,r∈L'->Bj t r
 |0,i,L,aJ,b,af,cX,aH,t0,t1=>by
  right;refine⟨L,?_,by omega,cX⟩;rw[n1,b']
 |k+1,i,L,aJ,b,af,cX,aH,t0,t1=>by
  have g:([A,B].getD i []).length<=reachBytes/\∀c,c∈[A,B].getD i []->nu c:=by
   match i,b with
   |0,_=>exact f
   |1,_=>exact dj
   |i+2,b=>omega
  obtain⟨n,d1,d3,d2⟩:=IB (d:=⟨aJ⟩) aH g.1 g.2;rw[n1,br,ae (aP (by omega)),aZ,d2];simp only[aS,ao];rcases of_eq d1.xK with e|⟨l,e,_,_,l2,_⟩
  . rw[e];exact .inl rfl
  . rcases Cm d1.xK with a|⟨o,a,cN⟩
    . rw[e]at a;cases a
    . rw[e]at a;have:l=o:=by injection a with q;injection q with q _;injection q
      subst this;rw[e];simp only[ao,c8,bY,b6];rw[ae (cO),bC,j];refine PU j f dj k (i+1) _ n.dI (by omega) (by simp;omega) (λr ag=>?_) d1 t0 (by rw[d3];exact t1);rcases hQ.1 ag with ag|ag
      . exact cX r ag
      . rw[oC.1 ag];exact⟨l,rfl,cN,t0,by rw[l2,d3];exact t1⟩
theorem aaz{c:nN}(a:xv c.C){x:tf}(i:x.qx.length<=reachBytes/\∀c,c∈x.qx->nu c)(dj:x.ft.length<=reachBytes/\∀c,c∈x.ft->nu c):Aj (c,x)=some true:=by
 rw[Aj];rcases ahJ a with⟨w,r,m,e⟩|⟨tw,tr,t,v,e,C,af⟩
 . rw[e];simp only[aS,ao,Tz];rfl
 . obtain⟨b,d1,d3,d2⟩:=IB (d:=c.C.D.S) a.n a.l a.c;rw[e];simp only[aS,ao,Tz,c8,dW];split
   . rfl
   . rw[d2];simp only[ao]
     rcases PU (m:=bo tw t v) (w:=e2 tw t) rfl i dj 2 0 [e2 tw t,e2 tr t] b.dI (by omega) (by simp) (λr ag=>by
      rcases eJ.1 ag with rfl|ag
      . exact⟨tw,rfl,C.W,C.t1.1,C.t1.2⟩
      . rw[oC.1 ag]
        exact⟨tr,rfl,C.R,C.t2.1,C.t2.2⟩) d1 C.t1.1 (by rw[d3,<-af];exact C.t1.2)with h|⟨L',h,h1,g⟩
     . have f:n1 (bo tw t v,x.qx,x.ft,0,e2 tw t,[e2 tw t,e2 tr t],b.dI)=_:=h;rw[f];rfl
     . have f:n1 (bo tw t v,x.qx,x.ft,0,e2 tw t,[e2 tw t,e2 tr t],b.dI)=_:=h;rw[f];have j:=PE (by omega) g (bo tw t v) (L'.length+1) 0 (by omega);have k:qL (bo tw t v,L',((L'.length+1:Nat):Int),0)=_:=j;simp only[ao];rw[bC,k];rfl
theorem ahw(h:aO cy.D [.nm GF,.nm Is])(g:Ok cy [.nm GF,.nm Is] h):Aj h=some true:=by
 have f:∀{l:List iY},WF cy ⟨.slice (.nm C6),l⟩->l.length<=reachBytes/\∀c,c∈l->nu c:=λ{l} j=>by
  obtain⟨a,_,i⟩:=tg (t:= .nm C6) j;refine⟨a,λx e=>?_⟩;have b:=i x e;exact⟨A3 (b ⟨.int .u8,x.Kind⟩ (.head _)),A3 (b ⟨.int .u8,x.Node⟩ (.tail _ (.head _))),A3 (b ⟨.int .u8,x.A⟩ (.tail _ (.tail _ (.head _)))),A3 (b ⟨.int .u8,x.B⟩ (.tail _ (.tail _ (.tail _ (.head _)))))⟩
 have e:∀d,d∈cy.oa Is h.2->WF cy d:=ahO (aeK g);exact aaz (acT (aeJ g)) (f (e _ (.head _))) (f (e _ (.tail _ (.head _))))
end
end Go.Proofs.YtdjagncoefjfeaaGreat
