/- The functions of the program as functions of Lean, that its code does what they say, and what they answer; part C. -/
import Derived.Test.YtdjagncoefjfeaaGreatCaB

namespace Go.Proofs.YtdjagncoefjfeaaGreat
set_option linter.all false
section
open Go Go.Proofs.YtdjagncoefjfeaaGreat.Shv Go.Sort
set_option maxRecDepth 100000
def dr(o:Option Bool)(P:Prop):Prop:=∃r,o=some r/\(r=true↔P)
variable{o:Option Bool}{P Q:Prop}{L:Nat->Option (Bool ⊕ Unit)}{α:Type}{id t code b2:Int}{v:I}{Ms ms:List aS}{x:ai}{w j c a:Nat}{ts:List ai}{odd pl a1:Bool}{p a3:ak}{ks:List I}{path b1:ar}{f:ak->Option I}
theorem dr.imp(h:dr o P)(e:P↔Q):dr o Q:=by grind
theorem dr.of{b:Bool}(e:b=true↔P):dr (some b) P:=⟨b,rfl,e⟩
theorem dr.loop{n:Nat}{p:Nat->Bool}{g:Unit}{o:Option (Bool ⊕ Unit)}(h0:o=L 0)(f:∀i,i<n->L i=if p i then L (i+1)else some (.inl false))(e:L n=some (.inr g)):
 dr (o>>=λo=>match o with|.inl x=>some x|.inr _=>some true) (∀i,i<n->p i=true):=by
 subst h0;rcases scan L n p (.inl false) (.inr g) f e with⟨h1,a⟩|⟨h1,j,a,c⟩
 . rw[h1];exact⟨true,rfl,by simpa using a⟩
 . rw[h1];refine⟨false,rfl,?_⟩;constructor
   . intro h;cases h
   . intro h;have:=h j a;rw[c]at this;cases this
theorem D5(f:α->Int)(d:α):∀l:List α,l.Pairwise (λa b=>f a<f b)↔∀i,i+1<l.length->f (l.getD i d)<f (l.getD (i+1) d)
 |[]=>by simp
 |[a]=>by simp
 |a::b::l=>by
  rw[h5,D5 f d (b::l)];constructor
  . rintro ⟨h1,c⟩ i e
    cases i with
    |zero=>exact h1 b (.head _)
    |succ i=>exact c i (by simpa using e)
  . intro h;have c:∀i,i+1<(b::l).length->f ((b::l).getD i d)<f ((b::l).getD (i+1) d):=λi e=>h (i+1) (by simpa using e);refine⟨λx j=>?_,c⟩;have h0:=h 0 (by simp);simp only[jy,wI]at h0;have g:=(D5 f d (b::l)).2 c;rw[h5]at g;grind
section
variable {ts:List ai}
def EY(ts:List ai)(x:I):Prop:=∀t pl,dr (iF ((⟨ts⟩:aT),t,x,pl)) (bY ts pl t x)
theorem L6{l:List I}(af:l.length<=reachBytes)(ih:∀x,x∈l->EY ts x)(t:Int)(pl:Bool):dr (nL ((⟨ts⟩:aT),t,l,pl)) (e4 ts pl t l):=by
 have ag:=dB af;let p:Nat->Bool:=λi=>(iF ((⟨ts⟩:aT),t,l.getD i av,pl)).getD false;have b:∀i,i<l.length->iF ((⟨ts⟩:aT),t,l.getD i av,pl)=some (p i)/\(p i=true↔bY ts pl t (l.getD i av)):=by
  intro i a;obtain⟨r,h1,d⟩:=ih _ (bg a av) t pl;grind
 rw[nL];refine(dr.loop (L:=λi=>kB (t,l,pl,(i:Int),ts)) (n:=l.length) (p:=p) (g:=()) rfl (λi a=>?_) ?_).imp ?_
 . show kB (t,l,pl,(i:Int),ts)=if p i then kB (t,l,pl,((i+1:Nat):Int),ts)else _
   rw[kB,bA,ae (aP a)];simp only[I.aV,a7];rw[(b i a).1,bE];grind
 . show kB (t,l,pl,(l.length:Int),ts)=_;rw[kB,bz]
 . rw[cF];constructor
   . intro h x c;obtain⟨i,a,rfl⟩:=e3 c;grind
   grind
theorem tC{l:List aS}{r:Int×Bool}(h:ui l id r):(r.2=true/\∃j:Nat,j<l.length/\r.1=(j:Int)/\cB l id=some (l.getD j aB)/\(l.getD j aB).ad=id)\/(r.2=false/\cB l id=none):=by
 rcases h with⟨j,h1,a,c,rfl⟩|⟨h1,rfl⟩
 . refine .inl ⟨rfl,j,h1,rfl,?_,a⟩;unfold cB;rw[Ch];refine⟨by rw[dO];exact a,j,h1,(du h1 _).symm,λk e=>?_⟩;grind
 . refine .inr ⟨rfl,?_⟩;unfold cB;rw[yB];intro m b;obtain⟨i,d,rfl⟩:=e3 b;grind
theorem abC{t:ai}(ht:t.ah.length<9223372036854775807){l:List bX}(af:l.length<=reachBytes):dr (qU (t,l)) (jP t.ah l):=by
 have ag:=dB af;rw[qU];let p:Nat->Bool:=λi=>!((hh (t,(l.getD i bW).ad)).getD (0,false)).2&&(bif decide (1<=(l.getD i bW).ad)then decide ((l.getD i bW).ad<=1000)else false)&&(!(decide ((0:Int)<(i:Int))) || !(decide ((l.getD i bW).ad<=(l.getD (dq .i64 (i:Int) 1).toNat bW).ad)));refine(dr.loop (L:=λi=>j4 (l,(i:Int),t)) (n:=l.length) (p:=p) (g:=()) rfl (λi c=>?_) ?_).imp ?_
 . show j4 (l,(i:Int),t)=if p i then j4 (l,((i+1:Nat):Int),t)else _
   obtain⟨r,h1,d,_⟩:=mO (t:=t) (l.getD i bW).ad ht;have f:p i=(!r.2&&(bif decide (1<=(l.getD i bW).ad)then decide ((l.getD i bW).ad<=1000)else false)&&(!(decide ((0:Int)<(i:Int))) || !(decide ((l.getD i bW).ad<=(l.getD (dq .i64 (i:Int) 1).toNat bW).ad)))):=(by simp only[p,h1,qf]);rw[f,j4,bA,ae (aP c)];simp only[a7];rw[d,bE];have o:jr ((l.getD i bW).ad,r.2)=some ((!r.2)&&(bif decide (1<=(l.getD i bW).ad)then decide ((l.getD i bW).ad<=1000)else false)):=by
    rw[jr];grind
   show(if aH (i:Int) l.length then jr ((l.getD i bW).ad,r.2)>>=_ else none)=_;rw[ae (aP c),o]
   exact KL ((!r.2)&&(bif decide (1<=(l.getD i bW).ad)then decide ((l.getD i bW).ad<=1000)else false)) (aH (i:Int) l.length) (decide ((0:Int)<(i:Int))) (dq .i64 (i:Int) 1) (λj=>aH j l.length) (λj=>decide ((l.getD i bW).ad<=(l.getD j.toNat bW).ad)) _ _ (aP c) (λk=>by
    have:0<i:=by simp at k;omega
    show aH _ _=true
    rw[qN this (by omega)];exact aP (by omega))
 . show j4 (l,(l.length:Int),t)=_;rw[j4,bz]
 . unfold jP;rw[D5 (λa:bX=>a.ad) bW];have key:∀i,i<l.length->(p i=true↔(cn (l.getD i bW).ad/\cB t.ah (l.getD i bW).ad=none)/\(i=0\/(l.getD (i-1) bW).ad<(l.getD i bW).ad)):=by
    intro i c;obtain⟨r,h1,d,m⟩:=mO (t:=t) (l.getD i bW).ad ht;have f:p i=(!r.2&&(bif decide (1<=(l.getD i bW).ad)then decide ((l.getD i bW).ad<=1000)else false)&&(!(decide ((0:Int)<(i:Int))) || !(decide ((l.getD i bW).ad<=(l.getD (dq .i64 (i:Int) 1).toNat bW).ad)))):=(by simp only[p,h1,qf]);rw[f];have aG:r.2=false↔cB t.ah (l.getD i bW).ad=none:=by
     rcases tC m with⟨a,j,_,_,b,_⟩|⟨a,b⟩
     . grind
     grind
    rw[<-aG];unfold cn;by_cases h0:i=0
    . grind
    . have k:decide ((0:Int)<(i:Int))=true:=by simp;omega
      rw[k,qN (by omega) (by omega),a7];grind
   constructor
   . intro h;refine⟨λi c=>?_,λx q=>?_⟩
     . grind
     . obtain⟨i,c,rfl⟩:=e3 q;simp_all
   . rintro ⟨h1,d⟩ i c
     refine(key i c).2 ⟨d _ (bg c bW),?_⟩;by_cases h0:i=0
     . omega
     . right;have:=h1 (i-1) (by omega);have e:i-1+1=i:=(by omega);grind
theorem ZA{t:ai}(af:v.aj.length=t.ah.length)(ag:t.ah.length<9223372036854775807)(ih:∀x,x∈v.aj->EY ts x)(pl:Bool):
 dr (jb (pl,0,ts,v,t.Kind,t.Name,t.bF,t.bH,t.Max,t.bh,t.ah,t.Key,t.aF,t.Open)>>=λo=>match o with|.inl c=>some c|.inr _=>some true) (hy ts pl t.ah v.aj):=by
 let p:Nat->Bool:=λi=>(iF ((⟨ts⟩:aT),(t.ah.getD i aB).aw,v.aj.getD i av,pl)).getD false;have b:∀i,i<t.ah.length->iF ((⟨ts⟩:aT),(t.ah.getD i aB).aw,v.aj.getD i av,pl)=some (p i)/\(p i=true↔bY ts pl (t.ah.getD i aB).aw (v.aj.getD i av)):=by
  intro i a;obtain⟨r,h1,d⟩:=ih _ (bg (by omega:i<v.aj.length) av) (t.ah.getD i aB).aw pl;grind
 refine(dr.loop (L:=λi=>jb (pl,(i:Int),ts,v,t.Kind,t.Name,t.bF,t.bH,t.Max,t.bh,t.ah,t.Key,t.aF,t.Open)) (n:=t.ah.length) (p:=p) (g:=()) rfl (λi a=>?_) ?_).imp ?_
 . show jb (pl,(i:Int),ts,v,t.Kind,t.Name,t.bF,t.bH,t.Max,t.bh,t.ah,t.Key,t.aF,t.Open)=if p i then jb (pl,((i+1:Nat):Int),ts,v,t.Kind,t.Name,t.bF,t.bH,t.Max,t.bh,t.ah,t.Key,t.aF,t.Open)else _
   rw[jb,bA,ae (aP a),ae (aP (by omega))];simp only[a7,I.aV];rw[(b i a).1,bE];cases p i<;>rfl
 . show jb (pl,(t.ah.length:Int),ts,v,t.Kind,t.Name,t.bF,t.bH,t.Max,t.bh,t.ah,t.Key,t.aF,t.Open)=_;rw[jb,ch]
 . rw[hJ];constructor
   . intro h;exact⟨af,λi a=>(b i a).2.1 (h i a)⟩
   . rintro ⟨_,h⟩ i a;exact(b i a).2.2 (h i a)
theorem abD(ag:v.ay.length<9223372036854775807)(b:∀x,x∈v.ay->bJ x):
 dr (hW (1,v)>>=λk=>match k with|.inl l=>some l|.inr _=>some true) (jN v.ay):=by
 by_cases h0:v.ay.length=0
 . rw[hW,al (by simp[h0])];refine⟨true,rfl,?_⟩;unfold jN;simp only[true_iff];intro i a;omega
 refine(dr.loop (L:=λi=>hW (((i+1:Nat):Int),v)) (n:=v.ay.length-1) (p:=λi=>!(decide (0<=ha (v.ay.getD i av) (v.ay.getD (i+1) av)))) (g:=()) rfl (λi a=>?_) ?_).imp ?_
 . show hW (((i+1:Nat):Int),v)=if _ then hW (((i+1+1:Nat):Int),v)else _
   have f:dq .i64 ((i+1:Nat):Int) 1=(i:Int):=by rw[qN (by omega) (by omega)];simp
   obtain⟨r,c,d⟩:=DD (we (b _ (bg (by omega:i<v.ay.length) av))) (we (b _ (bg (by omega:i+1<v.ay.length) av)));have j:ha (v.ay.getD i av) (v.ay.getD (i+1) av)=r:=by unfold ha;rw[c];rfl
   rw[j,hW,bA];simp only[aU,ao];rw[f,ae (aP (by omega)),ae (aP (by omega))];simp only[a7,I.aV];rw[d,bE];simp only[ao];cases decide (0<=r)<;>rfl
 . have e:v.ay.length-1+1=v.ay.length:=(by omega);show hW (((v.ay.length-1+1:Nat):Int),v)=_;rw[e,hW,bz]
 . unfold jN;constructor
   . intro h i a;have:=h i (by omega);simpa using this
   . intro h i a;have:=h i (by omega);simpa using this
theorem eJ(pl:Bool)(t:Int)(v:I):bY ts pl t v↔
 (0<=t/\t<ts.length/\v.Kind=(ts.getD t.toNat aJ).Kind/\(pl=true->v.Rest=[]))/\
 (v.Kind=1/\v.bd=0/\v.bl=[]/\v.ad=0/\v.ay=[]/\v.aj=[]/\v.Rest=[]\/
 v.Kind=2/\v.bN=false/\v.bl=[]/\v.ad=0/\v.ay=[]/\v.aj=[]/\v.Rest=[]/\(ts.getD t.toNat aJ).bF<=v.bd/\v.bd<=(ts.getD t.toNat aJ).bH\/
 v.Kind=3/\v.bN=false/\v.bd=0/\v.ad=0/\v.ay=[]/\v.aj=[]/\v.Rest=[]/\(v.bl.length:Int)<=(ts.getD t.toNat aJ).Max\/
 v.Kind=4/\v.bN=false/\v.bd=0/\v.bl=[]/\v.ay=[]/\v.aj=[]/\v.Rest=[]/\((∃y,y∈(ts.getD t.toNat aJ).bh/\y.ad=v.ad)\/(ts.getD t.toNat aJ).Open=true/\pl=false/\cn v.ad)\/
 v.Kind=5/\v.bN=false/\v.bd=0/\v.bl=[]/\v.ad=0/\v.ay=[]/\jP (ts.getD t.toNat aJ).ah v.Rest/\hy ts pl (ts.getD t.toNat aJ).ah v.aj\/
 v.Kind=6/\v.bN=false/\v.bd=0/\v.bl=[]/\v.ay=[]/\(match cB (ts.getD t.toNat aJ).ah v.ad with
  |some m=>v.Rest=[]/\v.aj.length=1/\e4 ts pl m.aw v.aj
  |none=>(ts.getD t.toNat aJ).Open=true/\pl=false/\cn v.ad/\v.aj=[]/\∃d,v.Rest=[⟨v.ad,d⟩])\/
 v.Kind=7/\v.bN=false/\v.bd=0/\v.bl=[]/\v.ad=0/\v.ay=[]/\v.Rest=[]/\(v.aj.length:Int)<=(ts.getD t.toNat aJ).Max/\e4 ts pl (ts.getD t.toNat aJ).aF v.aj\/
 v.Kind=8/\v.bN=false/\v.bd=0/\v.bl=[]/\v.ad=0/\v.Rest=[]/\(v.ay.length:Int)<=(ts.getD t.toNat aJ).Max/\v.aj.length=v.ay.length/\e4 ts pl (ts.getD t.toNat aJ).Key v.ay/\e4 ts pl (ts.getD t.toNat aJ).aF v.aj/\jN v.ay\/
 v.Kind=9/\v.bN=false/\v.bd=0/\v.bl=[]/\v.ad=0/\v.ay=[]/\v.Rest=[]/\v.aj.length<=1/\e4 ts pl (ts.getD t.toNat aJ).aF v.aj):=by
 cases v;rw[bY];try exact Iff.rfl
end
def lP(v:I):Prop:=(v.Kind=1\/v.bN=false)/\(v.Kind=2\/v.bd=0)/\(v.Kind=3\/v.bl=[])/\((v.Kind=4\/v.Kind=6)\/v.ad=0)/\(v.Kind=8\/v.ay=[])/\(5<=v.Kind\/v.aj=[])/\((v.Kind=5\/v.Kind=6)\/v.Rest=[])
theorem abE(v:I):dr (tX v) (lP v):=by
 rw[tX];refine .of ?_;unfold lP;have e:∀{α:Type} (l:List α),((l.length:Int)=0)↔l=[]:=λl=>by simp_all
 grind
theorem afc{z b:Bool}{c:Prop}(d:z=true↔c)(a:b=false↔Q)(e:dr o P):dr (if(bif (bif false then true else(!z))then true else b)then some false else o) (c/\Q/\P):=by
 obtain⟨r,rfl,h⟩:=e;cases z with
 |false=>
  refine⟨false,rfl,?_⟩;grind
 |true=>
  cases b with
  |true=>refine⟨false,rfl,?_⟩;simp at a;simp[a]
  |false=>refine⟨r,rfl,?_⟩;simp at d a;simp[d,a,h]
theorem uX{q:Bool}(c:q=true↔Q)(a:dr o P):dr (some q>>=λt244=>(if t244 then o else some false)>>=λb=>some (bif t244 then b else false)) (Q/\P):=by
 obtain⟨r,rfl,h⟩:=a;refine⟨q&&r,by cases q<;>cases r<;>rfl,?_⟩;grind
theorem aeV{A:Bool}{f L:Option Bool}{c e d:Prop}(a:A=true↔c)(ag:dr f e)(g:A=true->dr L d):
 dr (some (!A)>>=λt107=>(if !t107 then f else some false)>>=λj=>if(bif t107 then true else(!j)) then some false else L) (c/\e/\d):=by
 obtain⟨q,rfl,b⟩:=ag;cases A with
 |false=>refine⟨false,rfl,?_⟩;simp at a;simp[a]
 |true=>
  obtain⟨m,rfl,i⟩:=g rfl;cases q with
  |false=>refine⟨false,rfl,?_⟩;simp at b;simp[b]
  |true=>refine⟨m,rfl,?_⟩;simp at a b;simp[a,b,i]
theorem aeW{c:Bool}{j g L:Option Bool}{d e oP f:Prop}(m:c=false↔d)(b:dr j e)(a:dr g oP)(l:dr L f):
 dr (some c>>=λt239=>(if !t239 then j else some false)>>=λo=>some (bif t239 then true else(!o))>>=λt249=>(if !t249 then g else some false)>>=λp=>if(bif t249 then true else(!p)) then some false else L) (d/\e/\oP/\f):=by
 obtain⟨k,rfl,b⟩:=b;obtain⟨i,rfl,a⟩:=a;obtain⟨q,rfl,n⟩:=l;rw[<-m,<-b,<-a,<-n];cases c<;>cases k<;>cases i<;>exact⟨_,rfl,by simp⟩
theorem Dn{l:List c3}{r:Int×Bool}(h:wT l id r):r.2=true↔∃y,y∈l/\y.ad=id:=by
 rcases h with⟨j,h1,b,c,rfl⟩|⟨h1,rfl⟩
 . grind
 . constructor
   . grind
   . rintro ⟨y,a,he⟩
     obtain⟨i,d,rfl⟩:=e3 a;grind
section
variable {ts:List ai}(aG:ts.length<9223372036854775807)(c9:∀t,t∈ts->e1 t)(bC:∀t,t∈ts->om t.Kind)
include aG c9 bC in
theorem zw(ay:bJ v):EY ts v:=by
 induction ay with
 |mk v hs h1 Z aa ar aE aF c' aG aI aK aA V=>
  intro t pl;rw[iF];by_cases af:(bif decide (t<0)then true else decide (((⟨ts⟩:aT).Types.length:Int)<=t))=true
  . rw[ae af];refine⟨false,rfl,?_⟩;rw[eJ];grind
  . rw[al af];have aq:0<=t/\t<ts.length:=(by grind);obtain⟨j,rfl⟩:∃j:Nat,t=(j:Int):=⟨t.toNat,by omega⟩
    have Q:j<ts.length:=(by omega);rw[ae (aP Q)];simp only[eJ,a7,I.aV];have U:=c9 _ (bg Q aJ);have T:=bC _ (bg Q aJ);generalize ts.getD j aJ=x at U T⊢;have D:=dB (ij U.gX);have ag:=dB (ij U.syms);by_cases C:v.Kind=x.Kind
    . obtain⟨z,z1,z2⟩:=abE v;have O:=L6 (ts:=ts) Z V;have au:=L6 (ts:=ts) h1 aA;show dr ((if !(!(v.Kind=x.Kind:Bool)) then tX v else some false)>>=_) _;rw[ae (by simp[C]),z1];obtain⟨K,N,L,H,M,S,Ms,u,E,l⟩:=x;obtain⟨n,B,cv,w,ad,p,i,R⟩:=v;simp only at C;subst C;simp only at T D ag h1 Z aa z1;have G:(bif pl then decide (0<(R.length:Int))else false)=false↔(pl=true->R=[]):=(by simp_all);have ao:n=1\/n=2\/n=3\/n=4\/n=5\/n=6\/n=7\/n=8\/n=9:=by unfold om at T;omega
      have cut:∀ {o:Option Bool} {P W:Prop},dr o P->((lP ⟨n,B,cv,w,ad,p,i,R⟩/\(pl = true->R = [])/\P) ↔ W)->
       dr (some z>>=λr=>if(bif (bif false then true else(!r))then true else bif pl then (0<(R.length:Int):Bool)else false) then some false else o) W:=λax az=>(afc z2 G ax).imp az
      have s:(0:Int)<=j/\(j:Int)<ts.length:=aq;rcases ao with rfl|rfl|rfl|rfl|rfl|rfl|rfl|rfl|rfl
      . exact cut (P:=True) (.of (b:=true) (by simp)) (by unfold lP;simp[s];grind)
      . exact cut (P:=L<=cv/\cv<=H) (.of (b:=bif decide (L<=cv)then decide (cv<=H)else false) (by by_cases g:L<=cv<;>simp[g])) (by unfold lP;simp[s];grind)
      . exact cut (P:=(w.length:Int)<=M) (.of (b:=decide ((w.length:Int)<=M)) (by simp)) (by unfold lP;simp[s];grind)
      . obtain⟨r,_,X,J⟩:=q9 (t:=⟨4,N,L,H,M,S,Ms,u,E,l⟩) ad ag;have ab:jr (ad,false)=some (bif decide (1<=ad)then decide (ad<=1000)else false):=(by rfl);have aj:=FB X l pl _ (λb=>jr (ad,b)) ab;have hs:=Dn J;simp only at hs;refine cut (P:=(∃y,y∈S/\y.ad=ad)\/l=true/\pl=false/\cn ad) ⟨_,aj,?_⟩ (by unfold lP;simp[s];grind);rw[<-hs];unfold cn;grind
      . refine cut (P:=i.length=Ms.length/\jP Ms R/\hy ts pl Ms i) ?_ (by
         have:hy ts pl Ms i->i.length=Ms.length:=λh=>(hJ.1 h).1
         unfold lP;simp[s];grind)
        exact aeV (A:=decide ((i.length:Int)=(Ms.length:Int))) (by simp;omega) (abC (t:=⟨5,N,L,H,M,S,Ms,u,E,l⟩) D aa) (λak=>ZA (ts:=ts) (t:=⟨5,N,L,H,M,S,Ms,u,E,l⟩) (v:=⟨5,B,cv,w,ad,p,i,R⟩) (KG ak) D V pl)
      . obtain⟨r,_,X,J⟩:=mO (t:=⟨6,N,L,H,M,S,Ms,u,E,l⟩) ad D;have ab:∀b,b=false->jr (ad,b)=some (bif decide (1<=ad)then decide (ad<=1000)else false):=by
         intro b G;subst G;rfl
        have am:decide ((R.length:Int)=1)=true->aH 0 R.length=true:=by
         intro h;have:=gY h;exact aP (k:=0) (by omega)
        refine cut (P:=match cB Ms ad with
         |some m=>R=[]/\i.length=1/\e4 ts pl m.aw i
         |none=>l=true/\pl=false/\cn ad/\i=[]/\∃d,R=[⟨ad,d⟩]) ?_ (by
          unfold lP;simp[s]
          grind)
        obtain⟨aL,kl⟩:=r;show dr (hE (⟨6,N,L,H,M,S,Ms,u,E,l⟩,ad)>>=_) _;rw[X];rcases tC J with⟨e,k,k1,k2,k3,k4⟩|⟨e,k3⟩
        . simp only at e k1 k2 k3 k4;subst e;subst k2;rw[k3];have an:∃f:Bool,((bif decide ((i.length:Int)=1)then decide ((R.length:Int)=0)else false)=true->iF ((⟨ts⟩:aT),(Ms.getD (k:Int).toNat aB).aw,i.getD (0:Int).toNat av,pl)=some f)/\(i.length=1->(f=true↔e4 ts pl (Ms.getD k aB).aw i)):=by
           by_cases F:i.length=1
           . obtain⟨f,f1,f2⟩:=V (i.getD 0 av) (bg (by omega:0<i.length) av) (Ms.getD k aB).aw pl;refine⟨f,λ_=>f1,λ_=>?_⟩;rw[f2]
             match i,F with
             |[y],_=>rw[cF];simp
           . refine⟨false,λh=>?_,λh=>absurd h F⟩;grind
          obtain⟨f,f1,f2⟩:=an;have ap:(bif decide ((i.length:Int)=1)then decide ((R.length:Int)=0)else false)=true->aH (k:Int) Ms.length=true/\aH 0 i.length=true:=by
           intro aD;refine⟨aP k1,?_⟩;by_cases F:i.length=1
           . exact aP (k:=0) (by omega)
           grind
          refine⟨_,FC _ (aH (k:Int) Ms.length) (aH 0 i.length) f f1 ap,?_⟩;by_cases Y:i.length=1
          . simp_all
          grind
        . simp only at e k3;subst e;rw[k3];refine⟨_,FD (bif l then(!pl)else false) (bif decide (1<=ad)then decide (ad<=1000)else false) (decide ((i.length:Int)=0)) (decide ((R.length:Int)=1)) (aH 0 R.length) (decide ((R.getD (0:Int).toNat bW).ad=ad)) am,?_⟩;unfold cn
          match R with
          |[]=>simp
          |[⟨aC,rd⟩]=>cases l<;>cases pl<;>by_cases Y:1<=ad<;>by_cases ah:ad<=1000<;>cases i<;>by_cases ai:aC=ad<;>simp[Y,ah,ai]<;>omega
          |a::b::c=>simp;omega
      . exact cut (P:=(i.length:Int)<=M/\e4 ts pl E i) (uX (by simp) (O E pl)) (by unfold lP;simp[s];grind)
      . refine cut (P:=((p.length:Int)<=M/\i.length=p.length)/\e4 ts pl u p/\e4 ts pl E i/\jN p) ?_ (by unfold lP;simp[s];grind);refine aeW (c:=bif decide (M<(p.length:Int))then true else(!(decide ((i.length:Int)=(p.length:Int))))) ?_ (au u pl) (O E pl) (abD (v:=⟨8,B,cv,w,ad,p,i,R⟩) (dB h1) ar);grind
      . exact cut (P:=i.length<=1/\e4 ts pl E i) (uX (q:=decide ((i.length:Int)<=1)) (by simp;omega) (O E pl)) (by unfold lP;simp[s];grind)
    . refine⟨false,by simp[C],?_⟩;grind
end
theorem ahI{n:Nat}(h:n<=70368744177664):room 1 n=true:=by
 unfold room ka eI;grind
theorem P9{n:Nat}(h:n<=2199023255552:=by simp;omega):room 24 n=true:=by
 unfold room ka eI;grind
theorem bws{s b:ak}(h:b.length+s.length<=70368744177664:=by omega):ta (s,b)=some ((s.length:Int),b++s):=by
 rw[ta];simp only[aU,ao];rw[gM,ae (ahI h)];rfl
theorem E9(b:ak):yg b=some b:=by rw[yg,ae (by simp[hN])]
theorem zH(a b:Nat):iq (a:Int) (b:Int)=((max a b:Nat):Int):=by unfold iq;omega
theorem eF{l:List α}{i:Nat}(h:i<l.length)(d:α):l.drop i=l.getD i d::l.drop (i+1):=by simp_all
def im(f:Fd):gz:=⟨(f.id:Int),f.text⟩
theorem aaL{m:aS}(a:bJ m.bB)(v:I):CL (m,v)=some (dc m v):=by
 rw[CL];unfold dc;cases c:m.bV with
 |false=>simp
 |true=>
  obtain⟨r,h1,b⟩:=Kz a v;simp only[I.aV];grind
theorem OM{m:aS}(a:bJ v)(c:m.bV=true):jI (v,m.bB)=some (dc m v):=by
 obtain⟨r,h1,b⟩:=D3 a m.bB;rw[h1];unfold dc;grind
section
variable {ts:List ai}
def oS(ts:List ai)(x:I)(t:Int):Prop:=∀L D:Nat,1<=L->L+wt x<=1125899906842624->j3 (t,x,(L:Int),ts,(D:Int))=some (bp ts t x,ts,((max D (L+dJ ts t x-1):Nat):Int))
theorem Ld:∀{ms:List aS} {l:List I},(dm ts ms l).length<=ms.length
 |[],l=>by
  rw[dm]
  . simp
  grind
 |m::ms,[]=>by
  rw[dm]
  . simp
  grind
 |m::ms,v::l=>by
  rw[dm];have:=Ld (ms:=ms) (l:=l);grind
theorem tO(t:Int)(v:I):1<=dJ ts t v:=by
 cases v;rw[dJ];omega
theorem P'(p:Ms.length<=1000)(c:∀m,m∈Ms->bJ m.bB)(d:∀m,m∈Ms->cn m.ad)(af:v.aj.length=Ms.length)(e:∀x,x∈v.aj->∀t,(bp ts t x).length<=70368744177664)
 (g:∀i,i<Ms.length->dc (Ms.getD i aB) (v.aj.getD i av)=false->oS ts (v.aj.getD i av) (Ms.getD i aB).aw)(L:Nat)(l:1<=L)(o:L+cH v.aj<1125899906842624):
 ∀(k i:Nat) (D:Nat) (acc:List gz),i+k=Ms.length->L<=D->acc.length+k<=100000->
 rq ((L:Int),Ms,(Ms.length:Int),(i:Int),ts,(D:Int),v,acc)=some (ts,((max D (L+fc ts (Ms.drop i) (v.aj.drop i)):Nat):Int),v,acc++(dm ts (Ms.drop i) (v.aj.drop i)).map im)
 |0,i,D,acc,r,j,q=>by
  rw[rq,ch,I.aV,en (by omega:Ms.length<=i)];rw[fc,dm]
  . simp;omega
  . grind
  grind
 |k+1,i,D,acc,r,j,q=>by
  have aC:i<Ms.length:=by omega
  have a:i<v.aj.length:=by omega
  rw[rq,bA,ae (aP aC)];simp only[aU,ao,a7,I.aV,ju];rw[ae (aP a),aaL (c _ (bg aC aB))];rw[eF aC aB,eF a av,fc,dm];have u:=P' p c d af e g L l o k (i+1);cases s:dc (Ms.getD i aB) (v.aj.getD i av)with
  |true=>
   simp only[ao,db,bZ,b9,b5];rw[bE];grind
  |false=>
   have f:v.aj.getD i av∈v.aj:=bg a av;have z:=fv f;have dj:=g i aC s (L+1) D (by omega) (by omega);have w:=tO (ts:=ts) (Ms.getD i aB).aw (v.aj.getD i av);have b:=d _ (bg aC aB);obtain⟨n,aG⟩:∃n:Nat,(Ms.getD i aB).ad=(n:Int):=⟨(Ms.getD i aB).ad.toNat,by unfold cn at b;omega⟩
   simp only[ao,eV,b5,bZ,b9];have y:=e _ f (Ms.getD i aB).aw;have aM:aN .i64 (L:Int) 1=((L+1:Nat):Int):=bE;rw[ae (aP a),aM,dj];simp only[ao];rw[aG,Ic (by unfold cn at b;omega)];simp only[ao];rw[ae (P9),bE,u _ _ (by omega) (by omega) (by simp;omega)];have:(⟨(n:Int),eX n (Ms.getD i aB).cg (bp ts (Ms.getD i aB).aw (v.aj.getD i av))⟩:gz)=im ⟨(n:Int).toNat,(Ms.getD i aB).cg,bp ts (Ms.getD i aB).aw (v.aj.getD i av)⟩:=(by rfl);simp_all
theorem Qa{R:List bX}(ag:∀x,x∈R->cn x.ad/\x.Data.length<=reachBytes)(b:R.length<=2199023255552)(D:Int):∀(k i:Nat) (acc:List gz),i+k=R.length->acc.length+k<=2199023255552->
 rn (R,(R.length:Int),(i:Int),ts,D,acc)=some (ts,D,acc++((R.drop i).map jX).map im)
 |0,i,acc,e,c=>by
  rw[rn,ch,en (by omega:R.length<=i)];simp
 |k+1,i,acc,e,c=>by
  have aC:i<R.length:=by omega
  obtain⟨a,d⟩:=ag _ (bg aC bW);obtain⟨n,aG⟩:∃n:Nat,(R.getD i bW).ad=(n:Int):=⟨(R.getD i bW).ad.toNat,by unfold cn at a;omega⟩
  unfold reachBytes at d;rw[rn,bA,ae (aP aC)];simp only[aU,ao,a7];rw[aG,Ic (by unfold cn at a;omega)];simp only[ao];rw[ae (P9),bE,Qa ag b D k (i+1) _ (by omega) (by simp;omega),eF aC bW];have:(⟨(n:Int),eX n false (R.getD i bW).Data⟩:gz)=im (jX (R.getD i bW)):=by
   show _=(⟨(((R.getD i bW).ad.toNat:Nat):Int),eX (R.getD i bW).ad.toNat false (R.getD i bW).Data⟩:gz);grind
  grind
theorem Qb{l:List Fd}(D:Int):∀(k i:Nat) (b:ak),i+k=l.length->l.length<=2199023255552->b.length+((l.drop i).flatMap Fd.text).length<=70368744177664->
 rp ((l.length:Int),(i:Int),ts,D,l.map im,b)=some (ts,D,b++(l.drop i).flatMap Fd.text)
 |0,i,b,c,_,a=>by
  rw[rp,ch,en (by omega:l.length<=i)];simp
 |k+1,i,b,c,af,a=>by
  have aC:i<l.length:=by omega
  rw[rp,bA,ae (aP (by simp;omega)),bA];rw[eF aC default]at a⊢;simp only[eZ,cm]at a⊢;have aq:(l.map im).getD i wj=im (l.getD i default):=hY im l i default wj aC;simp only[a7,aq];have:(im (l.getD i default)).text=(l.getD i default).text:=rfl;rw[this,bws];simp only[aU,ao];rw[bE,Qb D k (i+1) _ (by omega) af (by rw[cm];omega)];simp
end
structure iS (ts:List ai):Prop where
 n:ts.length<=1000
 T:∀t,t∈ts->e1 t
 K:∀t,t∈ts->om t.Kind
 M:Qk ts
 A:∀x,x∈ts->(x.Kind=5\/x.Kind=6)->gQ x.ah/\x.ah.length<=16
 S:∀x,x∈ts->x.Kind=4->∀y,y∈x.bh->cn y.ad
 qx:∀x,x∈ts->x.Kind=8->1<=(ts.getD x.Key.toNat aJ).Kind/\(ts.getD x.Key.toNat aJ).Kind<=4
section
variable {ts:List ai}
theorem xa{t:Int}{v:I}(h:(ts.getD t.toNat aJ).Kind=1):bp ts t v=if v.bN then[1]else[]:=by cases v;rw[bp];simp only[h];rfl
theorem xc{t:Int}{v:I}(h:(ts.getD t.toNat aJ).Kind=2):bp ts t v=fb (fE v.bd).toNat:=by cases v;rw[bp];simp only[h];rfl
theorem xd{t:Int}{v:I}(h:(ts.getD t.toNat aJ).Kind=3):bp ts t v=v.bl:=by cases v;rw[bp];simp only[h];rfl
theorem xe{t:Int}{v:I}(h:(ts.getD t.toNat aJ).Kind=4):bp ts t v=fb v.ad.toNat:=by cases v;rw[bp];simp only[h];rfl
theorem qq{t:Int}{v:I}(h:(ts.getD t.toNat aJ).Kind=5):bp ts t v=(gW fq (fg ts (ts.getD t.toNat aJ).ah v.aj v.Rest)).flatMap Fd.text:=by cases v;rw[bp];simp only[h];rfl
theorem oD{t:Int}{v:I}(h:(ts.getD t.toNat aJ).Kind=6):bp ts t v=dQ v.ad.toNat++(match cB (ts.getD t.toNat aJ).ah v.ad with
 |some m=>(bt ts m.aw v.aj).headD []
 |none=>(v.Rest.map bX.Data).headD []):=by
 cases v;rw[bp];simp only[h];rfl
theorem oE{t:Int}{v:I}(h:(ts.getD t.toNat aJ).Kind=7):bp ts t v=(bt ts (ts.getD t.toNat aJ).aF v.aj).flatMap c7:=by cases v;rw[bp];simp only[h];rfl
theorem oF{t:Int}{v:I}(h:(ts.getD t.toNat aJ).Kind=8):bp ts t v=fi (bt ts (ts.getD t.toNat aJ).Key v.ay) (bt ts (ts.getD t.toNat aJ).aF v.aj):=by cases v;rw[bp];simp only[h];rfl
theorem oG{t:Int}{v:I}(h:(ts.getD t.toNat aJ).Kind=9):bp ts t v=match bt ts (ts.getD t.toNat aJ).aF v.aj with
 |[]=>[]
 |p::_=>1::p:=by
 cases v;rw[bp];simp only[h];rfl
theorem pP(t:Int)(v:I):dJ ts t v=1+max (if v.ay=[]then 0 else 1) (if(ts.getD t.toNat aJ).Kind=5 then fc ts (ts.getD t.toNat aJ).ah v.aj
 else if(ts.getD t.toNat aJ).Kind=6 then(match cB (ts.getD t.toNat aJ).ah v.ad with
  |some m=>dD ts m.aw v.aj
  |none=>0)
 else dD ts (ts.getD t.toNat aJ).aF v.aj):=by
 cases v;rw[dJ];try rfl
theorem Aa{t:Int}{v:I}(c:v.ay=[])(b:v.aj=[]):dJ ts t v=1:=by
 rw[pP,c,b];have h1:dD ts (ts.getD t.toNat aJ).aF []=0:=by rw[dD]
 have a:fc ts (ts.getD t.toNat aJ).ah []=0:=by rw[fc];intros;simp_all
 rw[h1,a]
 have d:(match cB (ts.getD t.toNat aJ).ah v.ad with
  |some m=>dD ts m.aw []
  |none=>0)=0:=by
  split
  . rw[dD]
  . rfl
 grind
theorem Le(b:¬x.Kind=8)(d:∀y,y∈v.aj->(bp ts x.aF y).length<=1000000000000000)(e:∀y,y∈v.aj->oS ts y x.aF)(af:v.aj.length<=reachBytes)(L:Nat)(g:1<=L)(j:L+cH v.aj<1125899906842624):
 ∀(k i D:Nat) (acc:ak),i+k=v.aj.length->L<=D->acc.length+((bt ts x.aF (v.aj.drop i)).flatMap c7).length<=70368744177664->
 lS ((L:Int),v.aj,(v.aj.length:Int),(i:Int),ts,(D:Int),v,x,acc)=some (ts,((max D (L+dD ts x.aF (v.aj.drop i)):Nat):Int),acc++(bt ts x.aF (v.aj.drop i)).flatMap c7)
 |0,i,D,acc,l,f,c=>by
  rw[lS,ch,en (by omega:v.aj.length<=i),dD,bt];simp;omega
 |k+1,i,D,acc,l,f,c=>by
  have aC:i<v.aj.length:=by omega
  have ag:=dB af;have a:v.aj.getD i av∈v.aj:=bg aC av;have o:=fv a;rw[eF aC av,bt,eZ,cm]at c;have n:=d _ a;have dj:=e _ a (L+1) D (by omega) (by omega);have m:=tO (ts:=ts) x.aF (v.aj.getD i av);have aM:aN .i64 (L:Int) 1=((L+1:Nat):Int):=bE;rw[lS,bA,ae (aP aC)];simp only[aU,ao,a7,I.aV];rw[al (by simp[b]),aM,dj];simp only[ao];rw[Ez];simp only[ao];rw[bws];simp only[ao];rw[bE,Le b d e af L g j k (i+1) _ _ (by omega) (by omega) (by rw[cm];omega),eF aC av,dD,bt,eZ,ir];grind
theorem L7(d:x.Kind=8)(r:v.aj.length=v.ay.length)(g:∀y,y∈v.aj->(bp ts x.aF y).length<=1000000000000000)(j:∀y,y∈v.ay->(bp ts x.Key y).length<=1000000000000000)
 (l:∀y,y∈v.aj->oS ts y x.aF)(m:∀y,y∈v.ay->oS ts y x.Key)(h1:∀y,y∈v.ay->dJ ts x.Key y=1)(af:v.aj.length<=reachBytes)(L:Nat)(o:1<=L)(p:L+cH v.aj+cH v.ay<1125899906842624):
 ∀(k i D:Nat) (acc:ak),i+k=v.aj.length->L<=D->acc.length+(fi (bt ts x.Key (v.ay.drop i)) (bt ts x.aF (v.aj.drop i))).length<=70368744177664->
 lS ((L:Int),v.aj,(v.aj.length:Int),(i:Int),ts,(D:Int),v,x,acc)=some (ts,((max D (L+max (if v.ay.drop i=[]then 0 else 1) (dD ts x.aF (v.aj.drop i))):Nat):Int),acc++fi (bt ts x.Key (v.ay.drop i)) (bt ts x.aF (v.aj.drop i)))
 |0,i,D,acc,q,n,f=>by
  rw[lS,ch,en (by omega:v.aj.length<=i),en (by omega:v.ay.length<=i),dD,bt,bt,fi]
  . simp;omega
  grind
 |k+1,i,D,acc,q,n,f=>by
  have aC:i<v.aj.length:=by omega
  have a:i<v.ay.length:=by omega
  have ag:=dB af;have c:v.aj.getD i av∈v.aj:=bg aC av;have b:v.ay.getD i av∈v.ay:=bg a av;have w:=fv c;have z:=fv b;rw[eF aC av,eF a av,bt,bt,fi,cm,cm]at f;have t:=g _ c;have u:=j _ b;have e:=m _ b (L+1) D (by omega) (by omega);rw[h1 _ b]at e;have dj:=l _ c (L+1) (max D (L+1+1-1)) (by omega) (by omega);have s:=tO (ts:=ts) x.aF (v.aj.getD i av);have aM:aN .i64 (L:Int) 1=((L+1:Nat):Int):=bE;rw[lS,bA,ae (aP aC)];simp only[aU,ao,a7,I.aV];rw[ae (by simp[d]),ae (aP a),aM,e];simp only[ao];rw[Ez];simp only[ao];rw[bws];simp only[ao];rw[dj];simp only[ao];rw[Ez];simp only[ao];rw[bws (by rw[cm];omega)];simp only[ao];rw[bE,L7 d r g j l m h1 af L o p k (i+1) _ _ (by omega) (by omega) (by rw[cm,cm];omega),eF aC av,eF a av,dD,bt,bt,fi,ir,ir];grind
end
section
variable {ts:List ai}(H:iS ts)
theorem wg(H:iS ts)(a:bJ v)(b:wt v<=1099511627776)(t:Int):(bp ts t v).length<=23089744183296:=by
 have:=ab' H.M a b t;omega
theorem abF{l:List I}{r:List bX}(h:gQ ms)(ag:jP ms r):Gx ((fg ts ms l r).map im)=some ((gW fq (fg ts ms l r)).map im):=by
 have e:∀a b:Fd,lH (im a) (im b)=fq a b:=λa b=>by unfold lH fq im;simp
 have d:SWO lH:=by refine⟨λx=>?_,λx y z h1 c=>?_,λx y z h1 c=>?_⟩<;>simp[lH]at*<;>omega
 have f:ke lH ((fg ts ms l r).map im)=true:=by
  have h0:=vC (ts:=ts) (l:=l) h ag;generalize fg ts ms l r=q at h0;induction q with
  |nil=>rfl
  |cons a q ih=>
   simp only[ke,cC,dH,fB]at h0⊢;grind
 unfold Gx;rw[Ow d f,L3 im e]
theorem BT{D L b:Nat}(h:w=1+b):max (max D L) (L+b)=max D (L+w-1):=by omega
theorem aho{D L b:Nat}(h:w=1+b):max (max D L) (L+1+b-1)=max D (L+w-1):=by omega
theorem Sr{b:Nat}(h:w=1+max 0 b):w=1+b:=by omega
theorem ac'(n:∀m,m∈x.ah->bJ m.bB)(e:gQ x.ah)(O:x.ah.length<=16)(c:jP x.ah v.Rest)(p:v.aj.length=x.ah.length)
 (A:∀y,y∈v.Rest->y.Data.length<=reachBytes)(s:∀x,x∈v.aj->∀t,(bp ts t x).length<=23089744183296)
 (k:∀i,i<x.ah.length->oS ts (v.aj.getD i av) (x.ah.getD i aB).aw)
 (N:((gW fq (fg ts x.ah v.aj v.Rest)).flatMap Fd.text).length<=23089744183296)
 (L D:Nat)(g:1<=L)(H:L<=D)(J:L+cH v.aj<1125899906842624)(M:(v.Rest.map λx=>x.Data.length+1).sum<=1099511627776):
 Co (x,v,(L:Int),ts,(D:Int))=some ((gW fq (fg ts x.ah v.aj v.Rest)).flatMap Fd.text,ts,((max D (L+fc ts x.ah v.aj):Nat):Int)):=by
 have w:=e.2;have j:∀y,y∈v.Rest->cn y.ad/\y.Data.length<=reachBytes:=λy b=>⟨(c.2 y b).1,A y b⟩
 have K:v.Rest.length<=(v.Rest.map λx=>x.Data.length+1).sum:=by
  generalize v.Rest=R;induction R with
  |nil=>simp
  |cons a R ih=>simp only[gi,fB,ox];omega
 have P:=Ld (ts:=ts) (ms:=x.ah) (l:=v.aj);have B:=P' (ts:=ts) (Ms:=x.ah) (v:=v) (by omega) n w p (λy b t=>by have:=s y b t;omega) (λi o _=>k i o) L g (by omega) x.ah.length 0 D [] (by omega) (by omega) (by simp;omega);have C:rq ((L:Int),x.ah,(x.ah.length:Int),0,ts,(D:Int),v,[])=_:=B;rw[Co];simp only[I.aV];rw[C];simp only[aU,ao,fU,fT];generalize ((max D (L+fc ts x.ah v.aj):Nat):Int)=d;have E:=Qa (ts:=ts) (R:=v.Rest) j (by omega) d v.Rest.length 0 ((dm ts x.ah v.aj).map im) (by omega) (by simp;omega);have F:rn (v.Rest,(v.Rest.length:Int),0,ts,d,(dm ts x.ah v.aj).map im)=_:=E;rw[F];simp only[ao,fU];rw[<-r2];have hs:=abF (ts:=ts) (l:=v.aj) e c;have r:(fg ts x.ah v.aj v.Rest).length<=2199023255552:=by unfold fg;simp;omega
 have cZ:dm ts x.ah v.aj++v.Rest.map jX=fg ts x.ah v.aj v.Rest:=rfl;rw[cZ];generalize fg ts x.ah v.aj v.Rest=q at*;rw[hs];simp only[ao];have f:=kK fq q;rw[ae (by simp[f.length_eq])];have u:(gW fq q).length<=2199023255552:=by rw[f.length_eq];exact r
 generalize gW fq q=z at*;have Q:=Qb (ts:=ts) (l:=z) d z.length 0 [] (hR _) u (by simp only[fU,h6];omega);have G:rp (((z.map im).length:Int),0,ts,d,z.map im,[])=some (ts,d,[]++(z.drop 0).flatMap Fd.text):=by grind
 rw[G];simp only[ao,E9,fU,fT]
theorem abG(A:x.ah.length<9223372036854775807)(B:gQ x.ah)(l: -9223372036854775808<=v.ad/\v.ad<=9223372036854775807)
 (a:match cB x.ah v.ad with
  |some m=>v.Rest=[]/\v.aj.length=1/\e4 ts false m.aw v.aj
  |none=>x.Open=true/\True/\cn v.ad/\v.aj=[]/\∃d,v.Rest=[⟨v.ad,d⟩])
 (E:∀y,y∈v.Rest->y.Data.length<=reachBytes)(z:∀x,x∈v.aj->∀t,(bp ts t x).length<=23089744183296)
 (w:∀x,x∈v.aj->∀t,bY ts false t x->oS ts x t)
 (L D:Nat)(J:1<=L)(H:L<=D)(K:L+cH v.aj<1125899906842624):
 yn (x,v,(L:Int),ts,(D:Int)) = some (dQ v.ad.toNat++(match cB x.ah v.ad with
  |some m=>(bt ts m.aw v.aj).headD []
  |none=>(v.Rest.map bX.Data).headD []),ts,((max D (L+(match cB x.ah v.ad with
  |some m=>dD ts m.aw v.aj
  |none=>0)):Nat):Int)):=by
 obtain⟨r,p,_,g⟩:=mO (t:=x) v.ad A;rcases tC g with⟨e,q,o,F,c,G⟩|⟨e,c⟩
 . rw[c]at a;rw[c];simp only at a⊢;obtain⟨d1,d2,d3⟩:=a;have b:=B.2 _ (bg o aB);rw[G]at b;obtain⟨n,aG⟩:∃n:Nat,v.ad=(n:Int):=⟨v.ad.toNat,by unfold cn at b;omega⟩
   rw[yn];simp only[I.aV];rw[p,aG,hA (by unfold cn at b;omega),uh (by unfold cn at b;omega)];simp only[aU,ao];rw[al (by simp[e]),F,ae (aP o)]
   match b:v.aj,d2 with
   |[y],_=>
    have f:y∈v.aj:=by rw[b];exact .head _
    have i:aH 0 ([y]:List I).length=true:=aP (k:=0) (by simp);have O:=fv f;have g:=cF.1 d3 y f;have dj:=w y f _ g (L+1) D (by omega) (by omega);have aM:aN .i64 (L:Int) 1=((L+1:Nat):Int):=bE;rw[ae i,aM];simp only[a7,r3,jy];rw[dj];have N:=z y f (x.ah.getD q aB).aw;have C:=j8 (n:=n) (by rw[aG]at l;omega);simp only[ao];rw[ae (gf)];have M:=tO (ts:=ts) (x.ah.getD q aB).aw y;have u:dD ts (x.ah.getD q aB).aw [y]=dJ ts (x.ah.getD q aB).aw y:=by
     have cZ:dD ts (x.ah.getD q aB).aw []=0:=by rw[dD]
     rw[dD,cZ];omega
    have s:bt ts (x.ah.getD q aB).aw [y]=[bp ts (x.ah.getD q aB).aw y]:=by rw[bt,bt]
    have e:max D (L+1+dJ ts (x.ah.getD q aB).aw y-1)=max D (L+dJ ts (x.ah.getD q aB).aw y):=(by omega);rw[s,u,e];rfl
 . rw[c]at a;rw[c];simp only at a⊢;obtain⟨d1,d2,d3,d4,d,d5⟩:=a;obtain⟨n,aG⟩:∃n:Nat,v.ad=(n:Int):=⟨v.ad.toNat,by unfold cn at d3;omega⟩
   have j:=E ⟨v.ad,d⟩ (by rw[d5];exact .head _);simp only at j;unfold reachBytes at j;have C:=j8 (n:=n) (by rw[aG]at l;omega);rw[yn];simp only[I.aV];rw[p,d5,aG,hA (by unfold cn at d3;omega),uh (by unfold cn at d3;omega)];simp only[aU,ao];have i:aH 0 ([⟨(n:Int),d⟩]:List bX).length=true:=aP (k:=0) (by simp);rw[ae (by simp[e]),ae i];simp only[r3,jy];rw[ae (gf)];have e:max D (L+0)=D:=(by omega);rw[e];rfl
set_option maxHeartbeats 400000 in
theorem ada(H:iS ts)(aW:bJ v):wt v<=1099511627776->∀t,bY ts false t v->oS ts v t:=by
 induction aW with
 |mk v hs h1 O aE ag M U c' Y aA a1 a0 aZ=>
  intro aY t r L D K a5;have aL:bJ v:= .mk v hs h1 O aE ag M U c' Y aA a1;have a':=fD v;have G:∀x,x∈v.aj->∀t,(bp ts t x).length<=23089744183296:=λx o t=>wg H (M x o) (by have:=fv o;omega) t;have aV:∀x,x∈v.ay->∀t,(bp ts t x).length<=23089744183296:=λx o t=>wg H (ag x o) (by have:=fv o;omega) t;have F:∀x,x∈v.aj->∀t,bY ts false t x->oS ts x t:=λx o t=>aZ x o (by have:=fv o;omega) t;have aO:∀x,x∈v.ay->∀t,bY ts false t x->oS ts x t:=λx o t=>a0 x o (by have:=fv o;omega) t;have Q:=wg H aL aY t;obtain⟨⟨a3,a4,q,_⟩,r⟩:=(eJ _ _ _).1 r;obtain⟨j,rfl⟩:∃j:Nat,t=(j:Int):=⟨t.toNat,by omega⟩
  have ab:j<ts.length:=by omega
  rw[j3];simp only[aU,ao];rw[ae (aP ab),zH];simp only[a7,I.aV]at r q⊢;have J:=bg ab aJ;have C:=pP (ts:=ts) (j:Int) v;have aX:=@xa ts (j:Int) v;have ap:=@xc ts (j:Int) v;have aq:=@xd ts (j:Int) v;have ar:=@xe ts (j:Int) v;have V:=@qq ts (j:Int) v;have au:=@oD ts (j:Int) v;have W:=@oE ts (j:Int) v;have X:=@oF ts (j:Int) v;have ax:=@oG ts (j:Int) v;simp only[a7]at C aX ap aq ar V au W X ax;have Z:=H.A _ J;have aK:=H.qx _ J;have aI:=H.S _ J;generalize ts.getD j aJ=x at*;have am:¬x.Kind=5->¬x.Kind=6->v.ay=[]->dJ ts (j:Int) v=1+dD ts x.aF v.aj:=λa b c=>by grind
  have N:v.ay=[]->v.aj=[]->max D (L+dJ ts (j:Int) v-1)=max D L:=λa b=>by rw[Aa a b];omega
  rcases r with⟨k,s,u,w,l,g,B⟩|⟨k,s,u,w,l,g,B,p,E⟩|⟨k,s,u,w,l,g,B,p⟩|⟨k,s,u,w,l,g,B,p⟩|⟨k,s,u,w,l,g,B,p⟩|⟨k,s,u,w,l,g⟩|⟨k,s,u,w,l,g,B,p,E⟩|⟨k,s,u,w,l,g,B,p,E,aB,a2⟩|⟨k,s,u,w,l,g,B,p,E⟩<;>rw[k]at q
  . grind
  . have d:=q.symm;rw[al (by simp[d]),ae (by simp[d]),ap d,N l g,DV Y];simp only[ao];have az:=Az Y;obtain⟨n,aG⟩:∃n:Nat,fE v.bd=(n:Int):=⟨(fE v.bd).toNat,by unfold fE;split<;>omega⟩
    rw[aG,ou]at az;rw[aG,DW az];rfl
  . have d:=q.symm;rw[al (by simp[d]),al (by simp[d]),ae (by simp[d]),aq d,N l g]
  . have d:=q.symm;rw[al (by simp[d]),al (by simp[d]),al (by simp[d]),ae (by simp[d]),ar d,N l g]
    obtain⟨n,aG⟩:∃n:Nat,v.ad=(n:Int):=⟨v.ad.toNat,by
     rcases p with⟨y,f,he⟩|⟨_,_,he⟩
     . have:=aI d y f;unfold cn at this;omega
     . unfold cn at he;omega⟩
    rw[aG,hA,DW (by omega),ou];rfl
  . have d:=q.symm;rw[al (by simp[d]),al (by simp[d]),al (by simp[d]),al (by simp[d]),ae (by simp[d]),V d];obtain⟨R,an⟩:=Z (.inl d);obtain⟨aR,aS⟩:=hJ.1 p;rw[ac' (H.T _ J).iK R an B aR (λy f=>U y f) G (λi M=>F _ (bg (by omega) av) _ (aS i M)) (by rw[<-V d];exact Q) L (max D L) K (by omega) (by omega) (by omega)];simp only[ao];rw[ae d,ae g]at C;have e:max (max D L) (L+fc ts x.ah v.aj)=max D (L+dJ ts (j:Int) v-1):=BT (Sr C);rw[e]
  . have d:=q.symm;rw[al (by simp[d]),al (by simp[d]),al (by simp[d]),al (by simp[d]),al (by simp[d]),ae (by simp[d]),au d];obtain⟨R,an⟩:=Z (.inr d);rw[al (show ¬x.Kind=5 by omega),ae d,ae l]at C;rw[abG (dB (ij (H.T _ J).gX)) R aA g (λy f=>U y f) G F L (max D L) K (by omega) (by omega)];simp only[ao]
    exact ee (λz:Nat=>(some (dQ v.ad.toNat++(match cB x.ah v.ad with
     |some m=>(bt ts m.aw v.aj).headD []
     |none=>(v.Rest.map bX.Data).headD []),ts,(z:Int)):Option (ak×List ai×Int))) (BT (D:=D) (L:=L) (Sr C))
  . have d:=q.symm;rw[al (by simp[d]),al (by simp[d]),al (by simp[d]),al (by simp[d]),al (by simp[d]),al (by simp[d]),al (by simp[d])];have r:=cF.1 E;rw[W d]at Q;have:=Le (x:=x) (v:=v) (by omega) (λy f=>by have:=G y f x.aF;omega) (λy f=>F y f x.aF (r y f)) O L K (by omega) v.aj.length 0 (max D L) [] (by omega) (by omega) (by simp only[fU,h6];omega);have h0:lS ((L:Int),v.aj,(v.aj.length:Int),0,ts,((max D L:Nat):Int),v,x,[])=_:=this;rw[h0];simp only[ao,E9];have af:=am (by omega) (by omega) g;have e:max (max D L) (L+dD ts x.aF v.aj)=max D (L+dJ ts (j:Int) v-1):=BT af;rw[W d,fU,fT,e]
  . have d:=q.symm;rw[al (by simp[d]),al (by simp[d]),al (by simp[d]),al (by simp[d]),al (by simp[d]),al (by simp[d]),al (by simp[d])];have r:=cF.1 aB;have aa:=cF.1 E;rw[X d]at Q;obtain⟨ba,bb⟩:=aK d;have aT:∀y,y∈v.ay->dJ ts x.Key y=1:=λy f=>by
     obtain⟨⟨_,_,b3,_⟩,b⟩:=(eJ _ _ _).1 (aa y f);apply Aa<;>grind
    have:=L7 (x:=x) (v:=v) d p (λy f=>by have:=G y f x.aF;omega) (λy f=>by have:=aV y f x.Key;omega) (λy f=>F y f x.aF (r y f)) (λy f=>aO y f x.Key (aa y f)) aT O L K (by omega) v.aj.length 0 (max D L) [] (by omega) (by omega) (by simp only[fU,h6];omega);have h0:lS ((L:Int),v.aj,(v.aj.length:Int),0,ts,((max D L:Nat):Int),v,x,[])=_:=this;rw[h0];simp only[ao,E9];rw[al (show ¬x.Kind=5 by omega),al (show ¬x.Kind=6 by omega)]at C;simp only[fU,fT];have e:max (max D L) (L+max (if v.ay=[]then 0 else 1) (dD ts x.aF v.aj))=max D (L+dJ ts (j:Int) v-1):=BT C;rw[X d,e]
  . have d:=q.symm;rw[al (by simp[d]),al (by simp[d]),al (by simp[d]),al (by simp[d]),al (by simp[d]),al (by simp[d]),ae (by simp[d]),ax d];have r:=cF.1 E
    match P:v.aj,p with
    |[],_=>rw[gM,N g P,bt]
    |[y],_=>
     have f:y∈v.aj:=by rw[P];exact .head _
     have aQ:aH 0 ([y]:List I).length=true:=aP (k:=0) (by simp);rw[bz,ae aQ];have a9:=fv f;have dj:=F y f x.aF (r y f) (L+1) (max D L) (by omega) (by omega);have aM:aN .i64 (L:Int) 1=((L+1:Nat):Int):=bE;rw[aM];simp only[r3,jy];rw[dj];have a8:=G y f x.aF;simp only[ao];rw[ae (gf (by simp;omega))];have af:=am (by omega) (by omega) g;rw[P]at af;have a6:=tO (ts:=ts) x.aF y;have aD:dD ts x.aF [y]=dJ ts x.aF y:=by
      have cZ:dD ts x.aF []=0:=by rw[dD]
      rw[dD,cZ];omega
     have aC:bt ts x.aF [y]=[bp ts x.aF y]:=by rw[bt,bt]
     rw[aD]at af;have e:max (max D L) (L+1+dJ ts x.aF y-1)=max D (L+dJ ts (j:Int) v-1):=aho af;rw[aC,e];rfl
    |a::b::c,h=>simp at h
end
section
variable {ts:List ai}
def iR(ts:List ai)(x:I)(t:Int):Prop:=i' ((⟨ts⟩:aT),t,x)=some (bp ts t x)
def oR(ts:List ai)(x:I)(t:Int):Prop:=mE ((⟨ts⟩:aT),t,x)=some ((dJ ts t x:Nat):Int)
theorem L8(b:∀y,y∈v.aj->(bp ts x.aF y).length<=1000000000000000)(d:∀y,y∈v.aj->iR ts y x.aF)(af:v.aj.length<=reachBytes):
 ∀(k i:Nat) (acc:ak),i+k=v.aj.length->acc.length+((bt ts x.aF (v.aj.drop i)).flatMap c7).length<=70368744177664->
 sN (acc,(i:Int),ts,v,x)=some (acc++(bt ts x.aF (v.aj.drop i)).flatMap c7)
 |0,i,acc,e,a=>by
  rw[sN,ch,en (by omega:v.aj.length<=i),bt];simp
 |k+1,i,acc,e,a=>by
  have aC:i<v.aj.length:=by omega
  have ag:=dB af;have c:v.aj.getD i av∈v.aj:=bg aC av;rw[eF aC av,bt,eZ,cm]at a;have f:=b _ c;have dj:=d _ c;unfold iR at dj;rw[sN,bA,ae (aP aC)];simp only[aU,ao,a7,I.aV];rw[dj];simp only[ao];rw[DQ];simp only[ao];rw[ae (gf),bE,L8 b d af k (i+1) _ (by omega) (by rw[cm];omega),eF aC av,bt,eZ,ir]
theorem N6(n:v.aj.length=v.ay.length)(d:∀y,y∈v.aj->(bp ts x.aF y).length<=1000000000000000)(e:∀y,y∈v.ay->(bp ts x.Key y).length<=1000000000000000)
 (j:∀y,y∈v.aj->iR ts y x.aF)(l:∀y,y∈v.ay->iR ts y x.Key)(af:v.aj.length<=reachBytes):
 ∀(k i:Nat) (acc:ak),i+k=v.aj.length->acc.length+(fi (bt ts x.Key (v.ay.drop i)) (bt ts x.aF (v.aj.drop i))).length<=70368744177664->
 sO (acc,(i:Int),ts,v,x)=some (acc++fi (bt ts x.Key (v.ay.drop i)) (bt ts x.aF (v.aj.drop i)))
 |0,i,acc,m,c=>by
  rw[sO,ch,en (by omega:v.aj.length<=i),en (by omega:v.ay.length<=i),bt,bt,fi]
  . simp
  grind
 |k+1,i,acc,m,c=>by
  have aC:i<v.aj.length:=by omega
  have a:i<v.ay.length:=by omega
  have ag:=dB af;have f:v.aj.getD i av∈v.aj:=bg aC av;have g:v.ay.getD i av∈v.ay:=bg a av;rw[eF aC av,eF a av,bt,bt,fi,cm,cm]at c;have o:=d _ f;have p:=e _ g;have dj:=j _ f;have b:=l _ g;unfold iR at dj b;rw[sO,bA,ae (aP a)];simp only[aU,ao,a7,I.aV];rw[b];simp only[ao];rw[DQ];simp only[ao];rw[ae (gf),ae (aP aC),dj];simp only[ao];rw[DQ];simp only[ao];rw[ae (gf (by rw[cm];omega)),bE,N6 n d e j l af k (i+1) _ (by omega) (by rw[cm,cm];omega),eF aC av,eF a av,bt,bt,fi,ir,ir]
def lv(R:List bX)(n:Nat):List Fd:=(R.filter λx=>decide (x.ad=(n:Int))).map jX
theorem aaM{a:bX}{l:List bX}{n:Nat}(h:a.ad=(n:Int)):lv (a::l) n=jX a::lv l n:=by unfold lv;rw[List.filter_cons,ae (by rw[h];simp),fB]
theorem abH{a:bX}{l:List bX}{n:Nat}(h:¬a.ad=(n:Int)):lv (a::l) n=lv l n:=by unfold lv;rw[List.filter_cons,al (by simpa using h)]
theorem ahD{d:Type}{m:aS}{w:I}(b:bJ w)(A B:Option d):
 ((if !(!m.bV) then jI (w,m.bB)else some false).bind λc=>if(bif (!m.bV)then true else(!c)) then A else B)=if dc m w then B else A:=by
 cases a:m.bV with
 |false=>
  have:dc m w=false:=by unfold dc;rw[a];rfl
  rw[this];rfl
 |true=>
  have:=OM b a;simp only[db,eV,b5,this];cases dc m w<;>rfl
theorem Im(ag:∀y,y∈v.Rest->y.Data.length<=reachBytes)(c:v.Rest.length<=reachBytes)(n:Nat)(aG:n<=1000):
 ∀(k i:Nat) (b:ak),i+k=v.Rest.length->b.length+((lv (v.Rest.drop i) n).flatMap Fd.text).length<=70368744177664->
 mY (b,(n:Int),(i:Int),ts,v,x)=some (b++(lv (v.Rest.drop i) n).flatMap Fd.text,(n:Int),ts,v,x)
 |0,i,b,f,a=>by
  rw[mY,ch,en (by omega:v.Rest.length<=i),I.aV];simp[lv]
 |k+1,i,b,f,a=>by
  have aC:i<v.Rest.length:=by omega
  have g:=dB c;have d:=ag _ (bg aC bW);unfold reachBytes at d;rw[eF aC bW]at a;rw[mY,bA,ae (aP aC)];simp only[aU,ao,a7,I.aV];rw[eF aC bW];by_cases e:(v.Rest.getD i bW).ad=(n:Int)
  . rw[aaM e,eZ]at a⊢;have ht:(jX (v.Rest.getD i bW)).text=eX n false (v.Rest.getD i bW).Data:=by unfold jX Fd.text;rw[e];rfl
    rw[ht,cm]at a;rw[ae (by rw[e];simp),ae (aP aC),Jq (by omega) (by omega)];simp only[ao];rw[ae (gf),bE,Im ag c n aG k (i+1) _ (by omega) (by rw[cm];omega),ht,ir]
  . rw[abH e]at a⊢;rw[al (by simpa using e),bE,Im ag c n aG k (i+1) _ (by omega) a]
noncomputable def xZ (ts:List ai)(x:ai)(v:I)(n:Nat):List Fd:=(fg ts x.ah v.aj v.Rest).filter λf=>decide (f.id=n)
theorem I5{x:ai}(q:x.ah.length<9223372036854775807)(s:gQ x.ah)(w:jP x.ah v.Rest)(l:v.aj.length=x.ah.length)
 (ag:∀y,y∈v.Rest->y.Data.length<=reachBytes)(g:v.Rest.length<=reachBytes)(u:∀y,y∈v.aj->bJ y)(o:∀x,x∈v.aj->∀t,(bp ts t x).length<=23089744183296)
 (z:∀i,i<x.ah.length->iR ts (v.aj.getD i av) (x.ah.getD i aB).aw):
 ∀(k n:Nat) (b:ak),n+k=1001->1<=n->b.length+(((List.range' n k).flatMap (xZ ts x v)).flatMap Fd.text).length<=70368744177664->
 o7 (b,(n:Int),ts,v,x)=some (b++((List.range' n k).flatMap (xZ ts x v)).flatMap Fd.text)
 |0,n,b,H,h1,a=>by
  rw[o7,ch];simp
 |k+1,n,b,H,h1,a=>by
  have J:∀y,y∈v.Rest->0<=y.ad:=λy M=>by have:=(w.2 y M).1;unfold cn at this;omega
  have aq:xZ ts x v n=((dm ts x.ah v.aj).filter λf=>decide (f.id=n))++lv v.Rest n:=by
   unfold xZ fg lv;rw[List.filter_append,Y2 _ _ J]
  rw[F2,eZ,B5,aq,B5]at a⊢;simp only[cm]at a;rw[o7,bA];obtain⟨r,_,P,G⟩:=mO (t:=x) (n:Int) q;simp only[aU,ao,a7,I.aV];rw[P];simp only[ao];have A:∀c:ak,c.length+((lv v.Rest n).flatMap Fd.text).length<=70368744177664->mY (c,(n:Int),0,ts,v,x)=some (c++(lv v.Rest n).flatMap Fd.text,(n:Int),ts,v,x):=λc h=>by
   have:=Im (ts:=ts) (x:=x) ag g n (by omega) v.Rest.length 0 c (by omega) (by simpa using h);grind
  rcases tC G with⟨e,j,B,N,F,O⟩|⟨e,F⟩
  . have p:j<v.aj.length:=(by omega);have C:v.aj.getD j av∈v.aj:=bg p av;have d:=KM (ts:=ts) (OK s) l B (n:=n) (by rw[O];simp);rw[ae e,N,ae (aP B)];rw[ae (by rw[aP p];rfl)];simp only[a7];rw[ahD (u _ C)];have E:=I5 q s w l ag g u o z k (n+1);cases D:dc (x.ah.getD j aB) (v.aj.getD j av)with
    |true=>
     rw[D,ae rfl]at d;rw[d]at a⊢;rw[ae rfl,A b (by omega)];simp only[ao,I.aV];rw[bE,E _ (by omega) (by omega) (by rw[cm];omega)];simp
    |false=>
     rw[D,bz]at d;rw[d]at a⊢;have Q:=o _ C (x.ah.getD j aB).aw;have dj:=z j B;unfold iR at dj;have ht:([⟨n,(x.ah.getD j aB).cg,bp ts (x.ah.getD j aB).aw (v.aj.getD j av)⟩]:List Fd).flatMap Fd.text=eX n (x.ah.getD j aB).cg (bp ts (x.ah.getD j aB).aw (v.aj.getD j av)):=by simp only[eZ,List.flatMap_nil,lD];rfl
     rw[ht]at a⊢;rw[bz,ae (aP p),dj];simp only[ao];rw[Jq (by omega) (by omega)];simp only[ao];rw[ae (gf),A _ (by rw[cm];omega)];simp only[ao,I.aV];rw[bE,E _ (by omega) (by omega) (by rw[cm,cm];omega)];grind
  . have L:((dm ts x.ah v.aj).filter λf=>decide (f.id=n))=[]:=Kf λm K=>by
     have:=nQ F m K;omega
    rw[L]at a⊢;rw[al (by simp[e]),A b (by omega)];simp only[ao,I.aV];rw[bE,I5 q s w l ag g u o z k (n+1) _ (by omega) (by omega) (by rw[cm];omega)];simp
theorem ad'{c:Type}{m:aS}{w:I}(b:bJ w)(A B:Option c):
 ((if m.bV then jI (w,m.bB)else some false).bind λr=>if(bif m.bV then r else false) then A else B)=if dc m w then A else B:=by
 cases a:m.bV with
 |false=>
  have:dc m w=false:=by unfold dc;rw[a];rfl
  rw[this];rfl
 |true=>
  have:=OM b a;simp only[b5,this];cases dc m w<;>rfl
theorem L9(bc:¬x.Kind=5)(a:¬x.Kind=6)(c:∀y,y∈v.aj->oR ts y x.aF)(af:v.aj.length<=reachBytes):
 ∀(k i b:Nat),i+k=v.aj.length->hV ((b:Int),(i:Int),ts,v,x)=some (((max b (dD ts x.aF (v.aj.drop i)):Nat):Int),v)
 |0,i,b,d=>by rw[hV,ch,en (by omega:v.aj.length<=i),dD,I.aV,Nat.max_zero]
 |k+1,i,b,d=>by
  have aC:i<v.aj.length:=by omega
  have ag:=dB af;have dj:=c _ (bg aC av);unfold oR at dj;rw[hV,bA,al (by simp[bc]),al (by simp[a]),ae (aP aC)];simp only[a7,I.aV];rw[dj];simp only[aU,ao];rw[zH,bE,L9 bc a c af k (i+1) _ (by omega),eF aC av,dD,Nat.max_assoc]
theorem N7(bc:x.Kind=5)(g:v.aj.length=x.ah.length)(c:∀y,y∈v.aj->bJ y)(e:∀i,i<x.ah.length->oR ts (v.aj.getD i av) (x.ah.getD i aB).aw)(af:v.aj.length<=reachBytes):
 ∀(k i b:Nat),i+k=v.aj.length->hV ((b:Int),(i:Int),ts,v,x)=some (((max b (fc ts (x.ah.drop i) (v.aj.drop i)):Nat):Int),v)
 |0,i,b,f=>by
  rw[hV,ch,en (by omega:v.aj.length<=i),I.aV,en (by omega:x.ah.length<=i)];rw[fc]
  . grind
  grind
 |k+1,i,b,f=>by
  have aC:i<v.aj.length:=by omega
  have a:i<x.ah.length:=by omega
  have ag:=dB af;have j:=bg aC av;have dj:=e i a;unfold oR at dj;rw[hV,bA,ae (by simp[bc]),ae (aP a)];simp only[aU,ao,a7,I.aV];rw[ae (by rw[aP aC];rfl),ad' (c _ j)];have d:=N7 bc g c e af k (i+1);rw[eF aC av,eF a aB,fc];cases l:dc (x.ah.getD i aB) (v.aj.getD i av)with
  |true=>rw[ae rfl,bE,d _ (by omega),ae rfl]
  |false=>
   rw[bz,al (by simp[bc]),ae (aP aC),dj];simp only[ao];rw[zH,bE,d _ (by omega),bz,Nat.max_assoc]
theorem N8(a:x.Kind=6)(d:j<x.ah.length)(c:hE (x,v.ad)=some ((j:Int),true))(e:∀y,y∈v.aj->oR ts y (x.ah.getD j aB).aw)(af:v.aj.length<=reachBytes):
 ∀(k i b:Nat),i+k=v.aj.length->hV ((b:Int),(i:Int),ts,v,x)=some (((max b (dD ts (x.ah.getD j aB).aw (v.aj.drop i)):Nat):Int),v)
 |0,i,b,f=>by rw[hV,ch,en (by omega:v.aj.length<=i),dD,I.aV,Nat.max_zero]
 |k+1,i,b,f=>by
  have aC:i<v.aj.length:=by omega
  have ag:=dB af;have dj:=e _ (bg aC av);unfold oR at dj;rw[hV,bA,al (by simp[a]),ae (by simp[a]),c];simp only[aU,ao,a7,I.aV];rw[ae (aP d),ae (aP aC),dj];simp only[ao];rw[zH,bE,N8 a d c e af k (i+1) _ (by omega),eF aC av,dD,Nat.max_assoc]
theorem D6{b:Nat}(f:hV (0,0,ts,v,x)=some (((max 0 b:Nat):Int),v))(g:b<1152921504606846976)(d:w=1+max (if v.ay=[]then 0 else 1) b):
 (hV (0,0,ts,v,x)>>=λo=>if (0<(o.2.ay.length:Int):Bool) then some (aN .i64 1 (iq o.1 1))else some (aN .i64 1 o.1))=some (w:Int):=by
 rw[f];simp only[aU,ao];by_cases c:v.ay=[]
 . rw[al (by simp[c])];rw[ae c]at d;have:aN .i64 1 ((max 0 b:Nat):Int)=((1+max 0 b:Nat):Int):=wc (a:=1) (by omega);rw[this,d]
 . rw[ae (by
    have:0<v.ay.length:=uz.2 c
    grind)]
   rw[al c]at d;have e:iq ((max 0 b:Nat):Int) 1=((max 1 b:Nat):Int):=by
    have:=zH (max 0 b) 1;grind
   rw[e];have:aN .i64 1 ((max 1 b:Nat):Int)=((1+max 1 b:Nat):Int):=wc (a:=1) (by omega);rw[this,d]
theorem adb(H:iS ts)(V:bJ v):wt v<=1099511627776->∀t,bY ts false t v->oR ts v t:=by
 induction V with
 |mk v hs h1 F ah ak O am c' aq ar au ap W=>
  intro an t z;have ao:=fD v;have G:∀x,x∈v.aj->∀t,bY ts false t x->oR ts x t:=λx L t=>W x L (by have:=fv L;omega) t;obtain⟨⟨ab,af,w,_⟩,z⟩:=(eJ _ _ _).1 z;obtain⟨j,rfl⟩:∃j:Nat,t=(j:Int):=⟨t.toNat,by omega⟩
  have K:j<ts.length:=by omega
  unfold oR;rw[mE,ae (aP K)];simp only[a7,I.aV]at z w⊢;have M:=bg K aJ;have f:=pP (ts:=ts) (j:Int) v;simp only[a7]at f;have ai:=H.A _ M;have U:=dB (ij (H.T _ M).gX);generalize ts.getD j aJ=x at*;have b1:∀E,dD ts E v.aj<1152921504606846976:=λE=>by have:=GY ts v.aj E;omega
  have b2:∀E,fc ts E v.aj<1152921504606846976:=λE=>by have:=GX ts v.aj E;omega
  have D:¬x.Kind=5->¬x.Kind=6->(∀y,y∈v.aj->bY ts false x.aF y)->(hV (0,0,ts,v,x)>>=λo=>if (0<(o.2.ay.length:Int):Bool) then some (aN .i64 1 (iq o.1 1))else some (aN .i64 1 o.1))=some ((dJ ts (j:Int) v:Nat):Int):=by
   intro a b c;have u:=L9 (ts:=ts) (x:=x) (v:=v) a b (λy C=>G y C _ (c y C)) F v.aj.length 0 0 (by omega);rw[al a,al b]at f;exact D6 u (b1 _) f
  rcases z with⟨k,g,l,m,n,d,p⟩|⟨k,g,l,m,n,d,p,s,B⟩|⟨k,g,l,m,n,d,p,s⟩|⟨k,g,l,m,n,d,p,s⟩|⟨k,g,l,m,n,d,p,s⟩|⟨k,g,l,m,n,d⟩|⟨k,g,l,m,n,d,p,s,B⟩|⟨k,g,l,m,n,d,p,s,B,N,aa⟩|⟨k,g,l,m,n,d,p,s,B⟩<;>rw[k]at w
  . grind
  . grind
  . grind
  . grind
  . obtain⟨R,S⟩:=hJ.1 s;have u:=N7 (ts:=ts) (x:=x) (v:=v) w.symm R O (λi P=>G _ (bg (by omega) av) _ (S i P)) F v.aj.length 0 0 (by omega);rw[ae w.symm]at f;exact D6 u (b2 _) f
  . rw[al (show ¬x.Kind=5 by omega),ae w.symm]at f;obtain⟨r,_,Z,z⟩:=mO (t:=x) v.ad U;rcases tC z with⟨e,q,X,Y,J,aw⟩|⟨e,J⟩
    . rw[J]at d f;simp only at d f;obtain⟨d1,d2,d3⟩:=d;have ag:r=((q:Int),true):=by rw[<-Y,<-e]
      have u:=N8 (ts:=ts) (x:=x) (v:=v) w.symm X (by rw[Z,ag]) (λy C=>G y C _ (cF.1 d3 y C)) F v.aj.length 0 0 (by omega);exact D6 u (b1 _) f
    . rw[J]at d f;simp only at d f;have Q:v.aj=[]:=d.2.2.2.1;have u:hV (0,0,ts,v,x)=some (((max 0 0:Nat):Int),v):=by rw[hV,al (by simp[Q]),I.aV];rfl
      exact D6 u (by omega) f
  . exact D (by omega) (by omega) (cF.1 B)
  . exact D (by omega) (by omega) (cF.1 N)
  . exact D (by omega) (by omega) (cF.1 B)
set_option maxHeartbeats 400000 in
theorem D7(H:iS ts)(aT:bJ v):wt v<=1099511627776->∀t,bY ts false t v->iR ts v t:=by
 induction aT with
 |mk v hs h1 Q Z ag R U c' X Y aZ aY aX=>
  intro aW t p;have aD:bJ v:= .mk v hs h1 Q Z ag R U c' X Y aZ;have a6:=fD v;have K:∀x,x∈v.aj->∀t,(bp ts t x).length<=23089744183296:=λx s t=>wg H (R x s) (by have:=fv s;omega) t;have aO:∀x,x∈v.ay->∀t,(bp ts t x).length<=23089744183296:=λx s t=>wg H (ag x s) (by have:=fv s;omega) t;have G:∀x,x∈v.aj->∀t,bY ts false t x->iR ts x t:=λx s t=>aX x s (by have:=fv s;omega) t;have aE:∀x,x∈v.ay->∀t,bY ts false t x->iR ts x t:=λx s t=>aY x s (by have:=fv s;omega) t;have N:=wg H aD aW t;obtain⟨⟨a4,a5,P,_⟩,p⟩:=(eJ _ _ _).1 p;obtain⟨j,rfl⟩:∃j:Nat,t=(j:Int):=⟨t.toNat,by omega⟩
  have af:j<ts.length:=by omega
  unfold iR;rw[i',ae (aP af)];simp only[aU,ao,a7,I.aV]at p P⊢;have W:=bg af aJ;have aV:=@xa ts (j:Int) v;have am:=@xc ts (j:Int) v;have an:=@xd ts (j:Int) v;have ap:=@xe ts (j:Int) v;have V:=@qq ts (j:Int) v;have aq:=@oD ts (j:Int) v;have ar:=@oE ts (j:Int) v;have au:=@oF ts (j:Int) v;have ax:=@oG ts (j:Int) v;simp only[a7]at aV am an ap V aq ar au ax;have aa:=H.A _ W;have aI:=H.S _ W;have ai:=dB (ij (H.T _ W).gX);generalize ts.getD j aJ=x at*;rcases p with⟨k,z,B,C,D,o,u⟩|⟨k,z,B,C,D,o,u,w,F⟩|⟨k,z,B,C,D,o,u,w⟩|⟨k,z,B,C,D,o,u,w⟩|⟨k,z,B,C,D,o,u,w⟩|⟨k,z,B,C,D,o⟩|⟨k,z,B,C,D,o,u,w,F⟩|⟨k,z,B,C,D,o,u,w,F,aC,a3⟩|⟨k,z,B,C,D,o,u,w,F⟩<;>rw[k]at P<;>have g:=P.symm
  . grind
  . rw[al (by simp[g]),ae (by simp[g]),am g,uj X];simp only[ao];have az:=Az X;obtain⟨n,aG⟩:∃n:Nat,fE v.bd=(n:Int):=⟨(fE v.bd).toNat,by unfold fE;split<;>omega⟩
    rw[aG,ou]at az;rw[aG,LB az];rfl
  . rw[al (by simp[g]),al (by simp[g]),ae (by simp[g]),an g]
  . rw[al (by simp[g]),al (by simp[g]),al (by simp[g]),ae (by simp[g]),ap g]
    obtain⟨n,aG⟩:∃n:Nat,v.ad=(n:Int):=⟨v.ad.toNat,by
     rcases w with⟨y,m,he⟩|⟨_,_,he⟩
     . have:=aI g y m;unfold cn at this;omega
     . unfold cn at he;omega⟩
    rw[aG,hA,LB (by omega),ou];rfl
  . rw[al (by simp[g]),al (by simp[g]),al (by simp[g]),al (by simp[g]),al (by simp[g]),al (by simp[g]),al (by simp[g]),al (by simp[g]),V g];obtain⟨L,aQ⟩:=aa (.inl g);obtain⟨aM,aN⟩:=hJ.1 w;rw[V g]at N;have ak:=X3 (vC (ts:=ts) (l:=v.aj) L u) (λy m=>Kb L u m);have cZ:(λn=>(fg ts x.ah v.aj v.Rest).filter λf=>decide (f.id=n))=xZ ts x v:=rfl;rw[cZ]at ak;rw[ak]at N⊢;have:=I5 (ts:=ts) ai L u aM (λy m=>U y m) Z R K (λi aL=>G _ (bg (by omega) av) _ (aN i aL)) 1000 1 [] (by omega) (by omega) (by simp only[h6];omega);have h0:o7 ([],1,ts,v,x)=_:=this;rw[h0];rfl
  . rw[al (by simp[g]),al (by simp[g]),al (by simp[g]),al (by simp[g]),al (by simp[g]),ae (by simp[g]),aq g];obtain⟨L,aQ⟩:=aa (.inr g);obtain⟨r,_,a2,p⟩:=mO (t:=x) v.ad ai;rcases tC p with⟨e,q,aA,a0,M,a1⟩|⟨e,M⟩
    . rw[M]at o;rw[M];simp only at o⊢;obtain⟨d1,d2,d3⟩:=o;have E:=L.2 _ (bg aA aB);rw[a1]at E;obtain⟨n,aG⟩:∃n:Nat,v.ad=(n:Int):=⟨v.ad.toNat,by unfold cn at E;omega⟩
      rw[al (by simp[d1]),a2,aG,hA (by unfold cn at E;omega),z' (by unfold cn at E;omega)];simp only[ao];rw[a0,ae (aP aA)]
      match E:v.aj,d2 with
      |[y],_=>
       have m:y∈v.aj:=by rw[E];exact .head _
       have J:aH 0 ([y]:List I).length=true:=aP (k:=0) (by simp);have p:=cF.1 d3 y m;have dj:=G y m _ p;unfold iR at dj;rw[ae J];simp only[a7,r3,jy];rw[dj];have aR:=K y m (x.ah.getD q aB).aw;have aS:=j8 (n:=n) (by rw[aG]at Y;omega);simp only[ao];rw[ae (gf)];have O:bt ts (x.ah.getD q aB).aw [y]=[bp ts (x.ah.getD q aB).aw y]:=by rw[bt,bt]
       rw[O];rfl
    . rw[M]at o;rw[M];simp only at o⊢;obtain⟨d1,d2,d3,d4,d,d5⟩:=o;obtain⟨n,aG⟩:∃n:Nat,v.ad=(n:Int):=⟨v.ad.toNat,by unfold cn at d3;omega⟩
      have ab:=U ⟨v.ad,d⟩ (by rw[d5];exact .head _);simp only at ab;unfold reachBytes at ab;have aS:=j8 (n:=n) (by rw[aG]at Y;omega);rw[d5,aG,gM,hA (by unfold cn at d3;omega),z' (by unfold cn at d3;omega)];simp only[ao];have J:aH 0 ([⟨(n:Int),d⟩]:List bX).length=true:=aP (k:=0) (by simp);rw[ae J];simp only[r3,jy];rw[ae (gf)];rfl
  . rw[al (by simp[g]),al (by simp[g]),al (by simp[g]),al (by simp[g]),al (by simp[g]),al (by simp[g]),ae (by simp[g])];have p:=cF.1 F;rw[ar g]at N⊢;have:=L8 (ts:=ts) (x:=x) (v:=v) (λy m=>by have:=K y m x.aF;omega) (λy m=>G y m x.aF (p y m)) Q v.aj.length 0 [] (by omega) (by simp only[fU,h6];omega);have h0:sN ([],0,ts,v,x)=_:=this;rw[h0];rfl
  . rw[al (by simp[g]),al (by simp[g]),al (by simp[g]),al (by simp[g]),al (by simp[g]),al (by simp[g]),al (by simp[g]),ae (by simp[g])];have p:=cF.1 aC;have aK:=cF.1 F;rw[au g]at N⊢;have:=N6 (ts:=ts) (x:=x) (v:=v) w (λy m=>by have:=K y m x.aF;omega) (λy m=>by have:=aO y m x.Key;omega) (λy m=>G y m x.aF (p y m)) (λy m=>aE y m x.Key (aK y m)) Q v.aj.length 0 [] (by omega) (by simp only[fU,h6];omega);have h0:sO ([],0,ts,v,x)=_:=this;rw[h0];rfl
  . rw[al (by simp[g]),al (by simp[g]),al (by simp[g]),al (by simp[g]),ae (by simp[g]),ax g];have p:=cF.1 F
    match E:v.aj,w with
    |[],_=>rw[gM,bt]
    |[y],_=>
     have m:y∈v.aj:=by rw[E];exact .head _
     have J:aH 0 ([y]:List I).length=true:=aP (k:=0) (by simp);rw[bz,ae J];have dj:=G y m x.aF (p y m);unfold iR at dj;simp only[r3,jy];rw[dj];have aR:=K y m x.aF;simp only[ao];rw[ae (gf (by simp;omega))];have O:bt ts x.aF [y]=[bp ts x.aF y]:=by rw[bt,bt]
     rw[O];rfl
    |a::b::c,h=>simp at h
end
theorem dr.qj{a b:α}(h:eW o a b):dr o (a=b):=h
theorem E7{j k l:Option Bool}{f g i:Prop}(h1:dr j f)(d:dr k g)(e:dr l i):
 dr (j>>=λm=>(if m then k else some false)>>=λn=>some (bif m then n else false)>>=λt53=>(if t53 then l else some false)>>=λo=>some (bif t53 then o else false)) (f/\g/\i):=by
 obtain⟨a,rfl,h1⟩:=h1;obtain⟨b,rfl,d⟩:=d;obtain⟨c,rfl,e⟩:=e;rw[<-h1,<-d,<-e];cases a<;>cases b<;>cases c<;>exact⟨_,rfl,by simp⟩
theorem Qc(h:dr o P):dr (o>>=λr=>some r) P:=by grind
def pW(a:Bool)(Ms:List aS):Prop:=(∀m,m∈Ms->mw a m=false)/\(a=false\/0<Ms.length)/\gQ Ms/\(∀m,m∈Ms->nm m.Name=true)/\(Ms.map (·.Name)).Nodup/\Ms.length<=16
def AA(S:List c3):Prop:=0<S.length/\(S.Pairwise (λa b=>a.ad<b.ad)/\∀y,y∈S->cn y.ad)/\(∀y,y∈S->nm y.Name=true)/\(S.map (·.Name)).Nodup/\S.length<=16
theorem aaN{l:List ak}:l.Nodup↔∀i,i<l.length->(l.take i).contains (l.getD i [])=false:=by
 unfold List.Nodup;rw[rW];constructor
 . intro h i a;apply F1.2;intro c;obtain⟨k,b,he⟩:=(p8 (by omega)).1 c;grind
 . intro h k i d a b he;have:=h i a;rw[F1]at this;apply this;refine(p8 (by omega)).2 ⟨k,b,?_⟩;grind
theorem N9(f:α->Int)(g:α->ak)(d:α)(l:List α):(∀i,i<l.length->kf (l.map f) (l.map g) i=true)↔(l.Pairwise (λa b=>f a<f b)/\∀x,x∈l->cn (f x))/\(∀x,x∈l->nm (g x)=true)/\(l.map g).Nodup:=by
 rw[D5 f d,aaN];have key:∀i,i<l.length->(kf (l.map f) (l.map g) i=true↔cn (f (l.getD i d))/\(i=0\/f (l.getD (i-1) d)<f (l.getD i d))/\nm (g (l.getD i d))=true/\((l.map g).take i).contains ((l.map g).getD i [])=false):=by
  intro i c;unfold kf cn;grind
 constructor
 . intro h;refine⟨⟨λi c=>?_,λx j=>?_⟩,λx j=>?_,λi c=>?_⟩
   . grind
   . obtain⟨i,c,rfl⟩:=e3 j;grind
   . obtain⟨i,c,rfl⟩:=e3 j;grind
   grind
 . rintro ⟨⟨h1,k⟩,m,n⟩ i c
   refine(key i c).2 ⟨k _ (bg c d),?_,m _ (bg c d),n i (by simpa using c)⟩;by_cases h0:i=0
   . omega
   . right;have:=h1 (i-1) (by omega);have e:i-1+1=i:=(by omega);grind
theorem Lf{t:ai}(h:e1 t):dr (t' t) ((∀m,m∈t.ah->mw (decide (t.Kind=6)) m=false)/\(t.Kind=5\/0<t.ah.length)/\gQ t.ah/\(∀m,m∈t.ah->nm m.Name=true)/\(t.ah.map (·.Name)).Nodup/\t.ah.length<=16):=by
 obtain⟨r,h1,a⟩:=KD h;refine⟨r,h1,a.trans ?_⟩;rw[N9 (λm:aS=>m.ad) (λm:aS=>m.Name) aB];have e:(∀i,i<t.ah.length->mw (decide (t.Kind=6)) (t.ah.getD i aB)=false)↔∀m,m∈t.ah->mw (decide (t.Kind=6)) m=false:=by
  constructor
  . intro h m b;obtain⟨i,c,rfl⟩:=e3 b;grind
  grind
 rw[e];unfold gQ;grind
theorem abI{l:List c3}(af:l.length*24<=reachBytes):dr (vx l) (AA l):=by
 obtain⟨r,h1,a⟩:=OH af;refine⟨r,h1,a.trans ?_⟩;rw[N9 (λm:c3=>m.ad) (λm:c3=>m.Name) dL];unfold AA;grind
def gk(t:ai):Prop:=
 (t.Kind=1/\t.Name=[]/\t.bF=0/\t.bH=0/\t.Max=0/\t.bh=[]/\t.ah=[]/\t.Key=0/\t.aF=0/\t.Open=false)\/
 (t.Kind=2/\t.Name=[]/\t.bF<=t.bH/\t.Max=0/\t.bh=[]/\t.ah=[]/\t.Key=0/\t.aF=0/\t.Open=false)\/
 (t.Kind=3/\t.Name=[]/\t.bF=0/\t.bH=0/\(0<=t.Max/\t.Max<=200)/\t.bh=[]/\t.ah=[]/\t.Key=0/\t.aF=0/\t.Open=false)\/
 (t.Kind=4/\nm t.Name=true/\t.bF=0/\t.bH=0/\t.Max=0/\AA t.bh/\t.ah=[]/\t.Key=0/\t.aF=0)\/
 (t.Kind=5/\nm t.Name=true/\t.bF=0/\t.bH=0/\t.Max=0/\t.bh=[]/\pW false t.ah/\t.Key=0/\t.aF=0/\t.Open=false)\/
 (t.Kind=6/\nm t.Name=true/\t.bF=0/\t.bH=0/\t.Max=0/\t.bh=[]/\pW true t.ah/\t.Key=0/\t.aF=0)\/
 (t.Kind=7/\t.Name=[]/\t.bF=0/\t.bH=0/\(0<=t.Max/\t.Max<=50)/\t.bh=[]/\t.ah=[]/\t.Key=0/\t.Open=false)\/
 (t.Kind=8/\t.Name=[]/\t.bF=0/\t.bH=0/\(0<=t.Max/\t.Max<=50)/\t.bh=[]/\t.ah=[]/\t.Open=false)\/
 (t.Kind=9/\t.Name=[]/\t.bF=0/\t.bH=0/\t.Max=0/\t.bh=[]/\t.ah=[]/\t.Key=0/\t.Open=false)
theorem abJ{t:ai}(h:e1 t):dr (gA t) (gk t):=by
 have f:e1 (⟨0,[],0,0,0,[],[],0,0,false⟩:ai):=⟨by simp,by simp,by simp⟩
 obtain⟨c,N,L,H,M,S,Ms,K,E,b⟩:=t;have aI:=h.syms;have d:=h.gX;have e:=h.iK;simp only at aI d e;by_cases k1:c=1
 . subst k1;have a:=iW (a:=(⟨0,N,L,H,M,S,Ms,K,E,b⟩:ai)) ⟨aI,d,e⟩ (⟨0,[],0,0,0,[],[],0,0,false⟩:ai);refine(Qc (dr.qj a)).imp ?_;unfold gk;simp
 by_cases k2:c=2
 . subst k2;have a:=iW (a:=(⟨0,N,0,0,M,S,Ms,K,E,b⟩:ai)) ⟨aI,d,e⟩ (⟨0,[],0,0,0,[],[],0,0,false⟩:ai);refine(uX (q:=decide (L<=H)) (Q:=L<=H) (by simp) (dr.qj a)).imp (Q:=gk ⟨2,N,L,H,M,S,Ms,K,E,b⟩) ?_;unfold gk;grind
 by_cases k3:c=3
 . subst k3;have a:=iW (a:=(⟨0,N,L,H,0,S,Ms,K,E,b⟩:ai)) ⟨aI,d,e⟩ (⟨0,[],0,0,0,[],[],0,0,false⟩:ai);refine(uX (q:=bif decide (0<=M)then decide (M<=200)else false) (Q:=0<=M/\M<=200) (by by_cases g:0<=M<;>simp[g]) (dr.qj a)).imp (Q:=gk ⟨3,N,L,H,M,S,Ms,K,E,b⟩) ?_;unfold gk;grind
 by_cases k4:c=4
 . subst k4;have a:=iW (a:=(⟨0,[],L,H,M,[],Ms,K,E,false⟩:ai)) ⟨by simp,d,e⟩ (⟨0,[],0,0,0,[],[],0,0,false⟩:ai);refine(E7 (⟨nm N,tS N,Iff.rfl⟩:dr (kH N) (nm N=true)) (abI aI) (dr.qj a)).imp (Q:=gk ⟨4,N,L,H,M,S,Ms,K,E,b⟩) ?_;unfold gk;grind
 by_cases k5:c=5
 . subst k5;have a:=iW (a:=(⟨0,[],L,H,M,S,[],K,E,bif b then decide ((5:Int)=5)else false⟩:ai)) ⟨aI,by simp,by simp⟩ (⟨0,[],0,0,0,[],[],0,0,false⟩:ai);refine(E7 (⟨nm N,tS N,Iff.rfl⟩:dr (kH N) (nm N=true)) (Lf h) (dr.qj a)).imp (Q:=gk ⟨5,N,L,H,M,S,Ms,K,E,b⟩) ?_;unfold gk pW;grind
 by_cases k6:c=6
 . subst k6;have a:=iW (a:=(⟨0,[],L,H,M,S,[],K,E,bif b then decide ((6:Int)=5)else false⟩:ai)) ⟨aI,by simp,by simp⟩ (⟨0,[],0,0,0,[],[],0,0,false⟩:ai);refine(E7 (⟨nm N,tS N,Iff.rfl⟩:dr (kH N) (nm N=true)) (Lf h) (dr.qj a)).imp (Q:=gk ⟨6,N,L,H,M,S,Ms,K,E,b⟩) ?_;unfold gk pW;grind
 by_cases k7:c=7
 . subst k7;have a:=iW (a:=(⟨0,N,L,H,0,S,Ms,K,0,b⟩:ai)) ⟨aI,d,e⟩ (⟨0,[],0,0,0,[],[],0,0,false⟩:ai);refine(uX (q:=bif decide (0<=M)then decide (M<=50)else false) (Q:=0<=M/\M<=50) (by by_cases g:0<=M<;>simp[g]) (dr.qj a)).imp (Q:=gk ⟨7,N,L,H,M,S,Ms,K,E,b⟩) ?_;unfold gk;grind
 by_cases k8:c=8
 . subst k8;have a:=iW (a:=(⟨0,N,L,H,0,S,Ms,0,0,b⟩:ai)) ⟨aI,d,e⟩ (⟨0,[],0,0,0,[],[],0,0,false⟩:ai);refine(uX (q:=bif decide (0<=M)then decide (M<=50)else false) (Q:=0<=M/\M<=50) (by by_cases g:0<=M<;>simp[g]) (dr.qj a)).imp (Q:=gk ⟨8,N,L,H,M,S,Ms,K,E,b⟩) ?_;unfold gk;grind
 by_cases k9:c=9
 . subst k9;have a:=iW (a:=(⟨0,N,L,H,M,S,Ms,K,0,b⟩:ai)) ⟨aI,d,e⟩ (⟨0,[],0,0,0,[],[],0,0,false⟩:ai);refine(Qc (dr.qj a)).imp (Q:=gk ⟨9,N,L,H,M,S,Ms,K,E,b⟩) ?_;unfold gk;simp
 refine⟨false,by simp[gA,k1,k2,k3,k4,k5,k6,k7,k8,k9],?_⟩;unfold gk;grind
structure ns (ts:List ai):Prop where
 n:ts.length<=32
 F:∀t,t∈ts->gk t
 D:∀i,i<ts.length->(!(decide ((ts.getD i aJ).Name=[]))&&((ts.map (·.Name)).take i).contains (ts.getD i aJ).Name)=false
 U:∀t,t∈ts->∀u,u∈fl t->0<=u/\u<ts.length
 qx:∀t,t∈ts->t.Kind=8->1<=(ts.getD t.Key.toNat aJ).Kind/\(ts.getD t.Key.toNat aJ).Kind<=4
theorem aaO(c9:∀t,t∈ts->e1 t){i:Nat}(e:i<ts.length):r9 ts i=none↔gk (ts.getD i aJ)/\(!(decide ((ts.getD i aJ).Name=[]))&&((ts.map (·.Name)).take i).contains (ts.getD i aJ).Name)=false/\(∀u,u∈fl (ts.getD i aJ)->0<=u/\u<ts.length)/\
 ((ts.getD i aJ).Kind=8->1<=(ts.getD (ts.getD i aJ).Key.toNat aJ).Kind/\(ts.getD (ts.getD i aJ).Key.toNat aJ).Kind<=4):=by
 obtain⟨r,f1,f2⟩:=abJ (c9 _ (bg e aJ));rw[Ie rfl f1,<-f2];have a:(fl (ts.getD i aJ)).any (lF ts.length)=false↔∀u,u∈fl (ts.getD i aJ)->0<=u/\u<ts.length:=by
  rw[List.any_eq_false];constructor
  . intro h u a;have:=h u a;unfold lF at this;grind
  . intro h u a;have:=h u a;unfold lF;grind
 rw[<-a];generalize (fl (ts.getD i aJ)).any (lF ts.length)=b;generalize (!(decide ((ts.getD i aJ).Name=[]))&&((ts.map (·.Name)).take i).contains (ts.getD i aJ).Name)=c;have f:(decide ((ts.getD i aJ).Kind=8) && !(s' (ts.getD (ts.getD i aJ).Key.toNat aJ).Kind))=false↔((ts.getD i aJ).Kind=8->1<=(ts.getD (ts.getD i aJ).Key.toNat aJ).Kind/\(ts.getD (ts.getD i aJ).Key.toNat aJ).Kind<=4):=by
  unfold s';grind
 rw[<-f];generalize (decide ((ts.getD i aJ).Kind=8) && !(s' (ts.getD (ts.getD i aJ).Key.toNat aJ).Kind))=d;cases r<;>cases b<;>cases c<;>cases d<;>simp
theorem pK(c9:∀t,t∈ts->e1 t)(h:ns ts):pC (⟨ts⟩:aT)=some 0/\vn (⟨ts⟩:aT)=some 0:=by
 obtain⟨e,h1,c,_,b,_⟩:=ZP (s:=⟨ts⟩) (by have:=h.n;unfold reachBytes;show ts.length<=_;omega) c9;have cZ:e=0:=b ⟨h.n,λi a=>(aaO c9 a).2 ⟨h.F _ (bg a aJ),h.D i a,h.U _ (bg a aJ),h.qx _ (bg a aJ)⟩⟩;grind
theorem ns.hx(c9:∀t,t∈ts->e1 t)(h:ns ts):iS ts:=by
 refine⟨by have:=h.n;omega,c9,λt ht=>?_,λt ht m c=>?_,λt ht f=>?_,λt ht f y j=>?_,h.qx⟩
 . have:=h.F t ht;unfold gk at this;unfold om;omega
 . have:=h.F t ht;unfold gk at this;have o:t.ah≠[]:=by intro e;rw[e]at c;cases c
   have:pW false t.ah\/pW true t.ah:=(by grind);rcases this with a|a
   . exact(a.2.2.1.2 m c).2
   . exact(a.2.2.1.2 m c).2
 . have:=h.F t ht;unfold gk at this;have:pW false t.ah\/pW true t.ah:=(by grind);rcases this with a|a
   . exact⟨a.2.2.1,a.2.2.2.2.2⟩
   . exact⟨a.2.2.1,a.2.2.2.2.2⟩
 . have:=h.F t ht;unfold gk at this;have:AA t.bh:=(by grind);exact this.2.1.2 y j
def uH(l:List bX):Nat:=(l.map λx=>x.Data.length).sum
theorem aca(l:List bX):(l.map λx=>x.Data.length+1).sum=uH l+l.length:=by
 unfold uH;induction l with
 |nil=>rfl
 |cons a l ih=>simp only[fB,ox,gi];omega
def Left(n:Int)(w:Nat)(m:Int):Prop:=m<=n/\-1000000000000000<=m/\(0<=m->(w:Int)+m<=n)
theorem Ma(af:v.Rest.length<=reachBytes)(b:∀x,x∈v.Rest->x.Data.length<=reachBytes):∀(k i:Nat) (n:Int),i+k=v.Rest.length->n<=3000->-1000000000000000<=n->∃m,rC (n,(i:Int),v)=some (m,v)/\Left n (uH (v.Rest.drop i)) m
 |0,i,n,f,c,a=>⟨n,by
  rw[rC,al,I.aV];intro h;have g:¬(i:Int)<(v.Rest.length:Int):=by omega
  simp[g]at h,by
  rw[en (by omega:v.Rest.length<=i)]
  exact⟨by omega,a,λ_=>by simp[uH]⟩⟩
 |k+1,i,n,f,c,a=>by
  have aC:i<v.Rest.length:=by omega
  have ag:=dB af;have d:=b _ (bg aC bW);unfold reachBytes at d;have g:(i:Int)<(v.Rest.length:Int):=by omega
  rw[rC];by_cases h0:0<=n
  . rw[ae (by simp[g,h0]),ae (aP aC)];simp only[a7,I.aV];rw[hK,bE];obtain⟨m,j,p,l,o⟩:=Ma af b k (i+1) (n-((v.Rest.getD i bW).Data.length:Int)) (by omega) (by omega) (by omega);refine⟨m,j,by omega,l,λh=>?_⟩;have:=o h;rw[eF aC bW];have e:uH (v.Rest.getD i bW::v.Rest.drop (i+1))=(v.Rest.getD i bW).Data.length+uH (v.Rest.drop (i+1)):=by unfold uH;simp only[fB,ox]
    rw[e];omega
  . refine⟨n,?_,by omega,a,λh=>absurd h h0⟩;rw[al (by simp[g,h0]),I.aV]
theorem Mb(af:v.ay.length<=reachBytes)(ih:∀x,x∈v.ay->∀n,0<=n->n<=3000->∃m,nF (x,n)=some m/\Left n (wt x) m):∀(k i:Nat) (n:Int),i+k=v.ay.length->n<=3000->-1000000000000000<=n->∃m,sT (n,(i:Int),v)=some (m,v)/\Left n (cH (v.ay.drop i)) m
 |0,i,n,d,c,b=>⟨n,by
  rw[sT,al,I.aV];intro h;have g:¬(i:Int)<(v.ay.length:Int):=by omega
  simp[g]at h,by
  rw[en (by omega:v.ay.length<=i),gH]
  exact⟨by omega,b,λ_=>by simp⟩⟩
 |k+1,i,n,d,c,b=>by
  have aC:i<v.ay.length:=by omega
  have ag:=dB af;have g:(i:Int)<(v.ay.length:Int):=by omega
  rw[sT];by_cases h0:0<=n
  . obtain⟨a,a1,a2,a3,a4⟩:=ih _ (bg aC av) n h0 c;rw[ae (by simp[g,h0]),ae (aP aC)];simp only[a7,I.aV];rw[a1];simp only[aU,ao];rw[bE];obtain⟨m,e,l,f,j⟩:=Mb af ih k (i+1) a (by omega) (by omega) (by omega);refine⟨m,e,by omega,f,λh=>?_⟩;have:=j h;have:=a4 (by omega);rw[eF aC av,hi];omega
  . refine⟨n,?_,by omega,b,λh=>absurd h h0⟩;rw[al (by simp[g,h0]),I.aV]
theorem Mc(af:v.aj.length<=reachBytes)(ih:∀x,x∈v.aj->∀n,0<=n->n<=3000->∃m,nF (x,n)=some m/\Left n (wt x) m):∀(k i:Nat) (n:Int),i+k=v.aj.length->n<=3000->-1000000000000000<=n->∃m,sU (n,(i:Int),v)=some m/\Left n (cH (v.aj.drop i)) m
 |0,i,n,d,c,b=>⟨n,by
  rw[sU,al];intro h;have g:¬(i:Int)<(v.aj.length:Int):=by omega
  simp[g]at h,by
  rw[en (by omega:v.aj.length<=i),gH]
  exact⟨by omega,b,λ_=>by simp⟩⟩
 |k+1,i,n,d,c,b=>by
  have aC:i<v.aj.length:=by omega
  have ag:=dB af;have g:(i:Int)<(v.aj.length:Int):=by omega
  rw[sU];by_cases h0:0<=n
  . obtain⟨a,a1,a2,a3,a4⟩:=ih _ (bg aC av) n h0 c;rw[ae (by simp[g,h0]),ae (aP aC)];simp only[a7,I.aV];rw[a1];simp only[aU,ao];rw[bE];obtain⟨m,e,l,f,j⟩:=Mc af ih k (i+1) a (by omega) (by omega) (by omega);refine⟨m,e,by omega,f,λh=>?_⟩;have:=j h;have:=a4 (by omega);rw[eF aC av,hi];omega
  . refine⟨n,?_,by omega,b,λh=>absurd h h0⟩;rw[al (by simp[g,h0])]
theorem ahR(r:bJ v):∀n:Int,0<=n->n<=3000->∃m,nF (v,n)=some m/\Left n (wt v) m:=by
 induction r with
 |mk v hs h1 o d x w q c' y z A t s=>
  intro n h0 aG;have aM:aN .i64 (aN .i64 10 (v.bl.length:Int)) (v.Rest.length:Int)=((10+v.bl.length+v.Rest.length:Nat):Int):=by
   have a1:=dB hs;have a2:=dB d;unfold reachBytes at hs d;have:aN .i64 10 (v.bl.length:Int)=((10+v.bl.length:Nat):Int):=wc (a:=10) (by omega);rw[this,wc (by omega)]
  unfold reachBytes at hs;have p:=d;unfold reachBytes at p;have l:dq .i64 n ((10+v.bl.length+v.Rest.length:Nat):Int)=n-((10+v.bl.length+v.Rest.length:Nat):Int):=hK;obtain⟨a,a1,a2,a3,a4⟩:=Ma d q v.Rest.length 0 (n-((10+v.bl.length+v.Rest.length:Nat):Int)) (by omega) (by omega) (by omega);obtain⟨b,b1,b2,b3,b4⟩:=Mb h1 t v.ay.length 0 a (by omega) (by omega) (by omega);obtain⟨c,g,u,j,k⟩:=Mc o s v.aj.length 0 b (by omega) (by omega) (by omega);have e:rC (n-((10+v.bl.length+v.Rest.length:Nat):Int),0,v)=_:=a1;have f:sT (a,0,v)=_:=b1;have i:sU (b,0,v)=_:=g;refine⟨c,?_,by omega,j,λh=>?_⟩
  . rw[nF];simp only[I.aV];rw[aM,l,e];simp only[aU,ao,I.aV];rw[f];simp only[ao,I.aV];rw[i];rfl
  . have:=k h;have:=b4 (by omega);have:=a4 (by omega);rw[fD,aca];grind
theorem Hp(a:bJ v):∃b,vm v=some b/\(b=true->wt v<=3000):=by
 obtain⟨m,c,e,f,d⟩:=ahR a 3000 (by omega) (by omega);rw[vm];simp only[I.aV];rw[c];refine⟨decide (0<=m),rfl,λh=>?_⟩;have h0:0<=m:=gY h;have:=d h0;omega
theorem Y3(aG:ts.length<9223372036854775807)(c9:∀t,t∈ts->e1 t)(bC:∀t,t∈ts->om t.Kind)(b:bJ v)(t:Int):dr (vp ((⟨ts⟩:aT),t,v)) (bY ts true t v):=by
 obtain⟨r,h1,a⟩:=zw aG c9 bC b t true;refine⟨r,?_,a⟩;rw[vp];simp only[I.aV];rw[h1];rfl
def aea(ts:List ai)(ms:List aS):Prop:=∀m,m∈ms->m.bV=true->bY ts true m.aw m.bB
theorem aeb{t u:aL}{r:List aL}{h:aO cR.D (t::u::r)}(b:Ok cR (t::u::r) h):∀d,d∈t.row cR h.1->WF cR d:=λd a=>b ⟨t,h.1⟩ (FY ..) d a
theorem ade(H:iS ts)(b:bJ v)(c:wt v<=1099511627776)(a:bY ts false t v):
 j3 (t,v,1,ts,0)=some (bp ts t v,ts,((dJ ts t v:Nat):Int)):=by
 have h:=ada H b c t a 1 0 (by omega) (by omega);have d:=tO (ts:=ts) t v;have e:max 0 (1+dJ ts t v-1)=dJ ts t v:=by omega
 rw[e]at h;exact h
noncomputable def ly (ts:List ai)(t:Int)(v:I):ak×Int:=
 if 4096<(bp ts t v).length\/200<dJ ts t v then([],3)else(bp ts t v,0)
abbrev fF:=dx
abbrev eS:=bu
abbrev afd:=jc
theorem uq{a:Int}(h:¬a=0):(!(decide (a=0)))=true:=by simp[h]
theorem hl{x m:Int}(h:0<=x:=by omega)(a:0<=m:=by omega):b6 x m=x%m:=by unfold b6;rw[Int.tmod_eq_emod_of_nonneg h]
theorem adG{x:Int}(h:0<=x)(a:x<=255):fC .u8 x 4=x/4:=by
 unfold fC;rw[yJ h,IntKind.wrap_u8];omega
theorem lx{x:Int}(h:cw x):bU .i64 x=x:=by
 unfold bU cw at*;rw[IntKind.wrap_i64];omega
theorem IQ{k:Int}(h:0<=k/\k<=25):mR (bU .i32 (aN .i64 97 k))=[UInt8.ofNat (97+k.toNat)]:=by
 have key:∀k:Nat,k<26->mR (bU .i32 (aN .i64 97 (k:Int)))=[UInt8.ofNat (97+k)]:=by decide+kernel
 grind
theorem adH{k:Int}(h:0<=k/\k<=25):mR (bU .i32 (aN .i64 65 k))=[UInt8.ofNat (65+k.toNat)]:=by
 have key:∀k:Nat,k<26->mR (bU .i32 (aN .i64 65 (k:Int)))=[UInt8.ofNat (65+k)]:=by decide+kernel
 grind
theorem Kg{s:ak}(h0:s≠[])(af:s.length<=24)(h:∀i:Nat,i<s.length->mT (fw s i)=true):nm s=true:=by
 have key:∀k i:Nat,i+k=s.length->lh (s,(s.length:Int),(i:Int))=some (.inr ()):=by
  intro k;induction k with
  |zero=>intro i d;rw[lh,ch]
  |succ k ih=>
   intro i d;rw[lh,bA,ae (aP (by omega)),DA,h i (by omega)];simp only[aU,ao,db];rw[ae (by rw[aP (by omega)];rfl),bE];exact ih (i+1) (by omega)
 have a:0<s.length:=uz.2 h0;have b:=h 0 a;have e:aH 0 s.length=true:=aP (k:=0) a;have ht:(bif decide (s=[])then true else decide (24<(s.length:Int)))=false:=by grind
 have f:lh (s,(s.length:Int),0)=some (.inr ()):=key s.length 0 (by omega);have c:mT (fw s 0)=true:=b;unfold nm;rw[kH];simp only[aU,ao];rw[ht,e,DA,c];grind
theorem adI(h:65<=c/\c<=90\/97<=c/\c<=122):nm [UInt8.ofNat c]=true:=by
 refine Kg (by simp) (by simp) λi a=>?_;have:i=0:=by simp at a;omega
 subst this;have e:fw [UInt8.ofNat c] ((0:Nat):Int)=(c:Int):=by
  rw[re];simp only[jy];rw[ln]
 rw[e];unfold mT;simp;omega
theorem Qd{b:Nat}(d:97<=b/\b<=122)(h:97<=c/\c<=122):nm [UInt8.ofNat b,UInt8.ofNat c]=true:=by
 refine Kg (by simp) (by simp) λi a=>?_;have:i=0\/i=1:=by simp at a;omega
 rcases this with rfl|rfl
 . rw[re];simp only[jy];rw[ln];unfold mT;simp;omega
 . rw[re];simp only[wI,jy];rw[ln];unfold mT;simp;omega
def da(x:Int):Prop:=0<=x/\x<=255
structure oO (x:fF):Prop where
 k:da x.Kind
 a:da x.A
 b:da x.B
 c:da x.C
 p:∀q,q∈x.c0->da q.ad/\da q.aw/\da q.hb
 l:x.c0.length<=reachBytes
def ek(aK:List fF)(i:Int):Int:=1+(aK.getD i.toNat eS).Kind%9
section
variable {aK:List fF}(cz:∀x,x∈aK->oO x)(bc:aK.length<=5)
include cz bc in
theorem rL{i:Int}(h0:0<=i)(h1:i<aK.length):qS ((⟨aK⟩:et),i)=some (ek aK i)/\1<=ek aK i/\ek aK i<=9:=by
 obtain⟨j,rfl⟩:∃j:Nat,i=(j:Int):=⟨i.toNat,by omega⟩
 have c:=(cz _ (bg (by omega:j<aK.length) eS)).k;unfold ek;rw[a7];obtain⟨a,b⟩:=c;refine⟨?_,by omega,by omega⟩;rw[qS,ae (aP (by omega:j<aK.length)),a7,hl a,lx ⟨by omega,by omega⟩,kc]
def E6(aK:List fF)(i u:Int):Prop:=0<=u/\u<aK.length/\(7<=ek aK u\/u<i)
include cz bc in
theorem MC:∀(k i:Nat),i+k=aK.length->n1 ((aK.length:Int),(i:Int),aK)=some (.inr ())\/∃u:Int,n1 ((aK.length:Int),(i:Int),aK)=some (.inl u)/\0<=u/\u<aK.length/\7<=ek aK u
 |0,i,b=>.inl (by rw[n1,ch])
 |k+1,i,b=>by
  obtain⟨e,_,_⟩:=rL cz bc (i:=(i:Int)) (by omega) (by omega);rw[n1,bA,e];simp only[aU,ao,ys];by_cases a:7<=ek aK i
  . grind
  . rw[al (by simpa using a),bE];exact MC k (i+1) (by omega)
include cz bc in
theorem abK(h1:1<=aK.length){i:Int}(o:0<=i/\i<aK.length)(g:da code):∃u,yt ((⟨aK⟩:et),i,code)=some u/\(u<0\/E6 aK i u):=by
 have m:bU .i64 code=code:=lx ⟨by unfold da at g;omega,by unfold da at g;omega⟩;obtain⟨l,n⟩:=g;have d:0<=code%(aK.length:Int):=me _ (by omega);have j:code%(aK.length:Int)<aK.length:=ma _ (by omega);rw[yt];simp only[aU,ao];rw[ae (uq (by omega)),m,hl l];obtain⟨e,_,_⟩:=rL cz bc d j;rw[e];simp only[ao,ys];by_cases f:7<=ek aK (code%(aK.length:Int))
 . rw[ae (by simp[f])];exact⟨_,rfl,.inr ⟨d,j,.inl f⟩⟩
 . by_cases aC:code%(aK.length:Int)<i
   . rw[ae (by simp[aC])];exact⟨_,rfl,.inr ⟨d,j,.inr aC⟩⟩
   . rw[al (by simp[f,aC])];by_cases k:0<i
     . rw[ae (by simpa using k),bA,hl d];have a0:0<=code%(aK.length:Int)%i:=me _ (by omega);have a1:code%(aK.length:Int)%i<i:=ma _ (by omega);exact⟨_,rfl,.inr ⟨a0,by omega,.inr a1⟩⟩
     . rw[al (by simpa using k)];have h0:=MC cz bc aK.length 0 (by omega);have cZ:n1 ((aK.length:Int),((0:Nat):Int),aK)=n1 ((aK.length:Int),0,aK):=rfl;rw[cZ]at h0;rcases h0 with h|⟨u,h,a,b,c⟩
       . grind
       . rw[h];exact⟨u,rfl,.inr ⟨a,b,.inl c⟩⟩
def oN(aK:List fF)(u:Int):Prop:=0<=u/\u<aK.length/\1<=ek aK u/\ek aK u<=4
include cz bc in
theorem Qe{code:Int}(l:da code)(h1:1<=aK.length):∀(k i:Nat),i+k=aK.length->(nD (code,(aK.length:Int),(i:Int),aK)=some (.inr ())/\∀m:Nat,i<=m->m<aK.length->¬oN aK ((code+m)%(aK.length:Int)))\/∃u:Int,nD (code,(aK.length:Int),(i:Int),aK)=some (.inl u)/\oN aK u
 |0,i,n=>.inl ⟨by rw[nD,ch],λm a b=>by omega⟩
 |k+1,i,n=>by
  obtain⟨g,j⟩:=l;have d:0<=(code+i)%(aK.length:Int):=me _ (by omega);have f:(code+i)%(aK.length:Int)<aK.length:=ma _ (by omega);obtain⟨e,aM,p⟩:=rL cz bc d f;rw[nD,bA,ae (uq (by omega)),lx ⟨by omega,by omega⟩,kc,hl];simp only[aU,ao];rw[e];simp only[ao,yk];by_cases c:ek aK ((code+i)%(aK.length:Int))<=4
  . rw[ae (by simp[aM,c])];exact .inr ⟨_,rfl,d,f,aM,c⟩
  . rw[al (by simp[c]),bE];rcases Qe ⟨g,j⟩ h1 k (i+1) (by omega)with⟨a,b⟩|h
    . refine .inl ⟨a,λm q r=>?_⟩;by_cases o:m=i
      . subst o;rintro ⟨_,_,_,h⟩;exact c h
      grind
    grind
include cz bc in
theorem Qf(b:da code)(h1:1<=aK.length):∃u,tY ((⟨aK⟩:et),code)=some u/\((u= -1/\∀w,¬oN aK w)\/oN aK u):=by
 rw[tY];have h0:=Qe cz bc b h1 aK.length 0 (by omega);have cZ:nD (code,(aK.length:Int),((0:Nat):Int),aK)=nD (code,(aK.length:Int),0,aK):=rfl;rw[cZ]at h0;rcases h0 with⟨h,a⟩|⟨u,h,a⟩
 . rw[h];refine⟨-1,rfl,.inl ⟨rfl,λw d=>?_⟩⟩;have f:=d;obtain⟨jC,g,_⟩:=f;have c:0<=(w-code)%(aK.length:Int):=me _ (by omega);have i:(w-code)%(aK.length:Int)<aK.length:=ma _ (by omega);refine a ((w-code)%(aK.length:Int)).toNat (by omega) (by omega) ?_;have e:(code+(((w-code)%(aK.length:Int)).toNat:Int))%(aK.length:Int)=w:=by
    rw[yz c,Int.add_emod_emod];have:code+(w-code)=w:=(by omega);rw[this];exact Int.emod_eq_of_lt jC g
   grind
 grind
theorem IS{x:fF}(h:oO x):p3 x=some (x.A%7-3):=by
 have:=h.a;unfold da at this;rw[p3,hl this.1,lx ⟨by omega,by omega⟩,hK]
theorem Oa{x:fF}(h:oO x):tT x=some (x.A%7-3+x.B%6):=by
 have d:=h.a;have c:=h.b;unfold da at d c;rw[tT,IS h];simp only[aU,ao];rw[hl c.1,lx ⟨by omega,by omega⟩,kc]
def uQ(l:ar)(n:Int):Prop:=l.Pairwise (· < ·)/\∀x,x∈l->1<=x/\x<=n
theorem IT{x:fF}:∀(k i:Nat) (acc:ar),i+k=6->uQ acc i->acc.length<=i->∃l,pY ((i:Int),x,acc)=some l/\uQ l 6/\l.length<=6
 |0,i,acc,f,c,af=>⟨acc,by rw[pY,ch],⟨c.1,λy d=>by have:=c.2 y d;omega⟩,by omega⟩
 |k+1,i,acc,f,c,af=>by
  have e:uQ acc ((i+1:Nat):Int):=⟨c.1,λy d=>by have:=c.2 y d;omega⟩
  rw[pY,bA,gM];simp only[aU,ao];rw[bE];split
  . rw[ae (cN)];refine IT k (i+1) _ (by omega) ⟨?_,λy d=>?_⟩ (by simp;omega)
    . rw[FX];refine⟨c.1,by simp,λa h1 b g=>?_⟩;have:=c.2 a h1;grind
    . rcases hQ.1 d with h|h
      . have:=c.2 y h;omega
      grind
  . exact IT k (i+1) acc (by omega) e (by omega)
theorem adJ(x:fF):∃l,nJ x=some l/\uQ l 6/\1<=l.length/\l.length<=6:=by
 obtain⟨l,h1,d,e⟩:=IT (x:=x) 6 0 [] (by omega) ⟨.nil,λy b=>by cases b⟩ (by simp);have c:pY (0,x,[])=some l:=h1;rw[nJ,c];simp only[aU,ao];cases l with
 |nil=>
  rw[gM,ae (cN (by omega) (by simp))];exact⟨_,rfl,⟨by simp,λy b=>by simp at b;omega⟩,by simp,by simp⟩
 |cons a l=>grind
def kg(x:fF):ar:=(nJ x).getD []
theorem vc(x:fF):nJ x=some (kg x)/\uQ (kg x) 6/\1<=(kg x).length/\(kg x).length<=6:=by
 obtain⟨l,h1,a⟩:=adJ x;unfold kg;grind
def mr(k:Int)(x:fF)(key:Prop)(v:I):Prop:=
 v.ay=[]/\v.aj=[]/\v.Rest=[]/\
 (k=1/\v.Kind=1/\v.bd=0/\v.bl=[]/\v.ad=0\/
  k=2/\v.Kind=2/\v.bN=false/\v.bl=[]/\v.ad=0/\x.A%7-3<=v.bd/\v.bd<=x.A%7-3+x.B%6\/
  k=3/\v.Kind=3/\v.bN=false/\v.bd=0/\v.ad=0/\(v.bl.length:Int)<=x.A%4\/
  k=4/\v.Kind=4/\v.bN=false/\v.bd=0/\v.bl=[]/\v.ad∈kg x\/
  7<=k/\v.bN=false/\v.bd=0/\v.bl=[]/\v.ad=0/\(v.Kind=k/\(k=8->key)\/k=8/\v.Kind=7/\¬key))
def Init(aK:List fF)(t:Int)(v:I):Prop:=mr (ek aK t) (aK.getD t.toNat eS) (∃w,oN aK w) v
include cz bc in
theorem aaP(h1:1<=aK.length)(ht:0<=t/\t<aK.length)(p:da code):∃r,yl ((⟨aK⟩:et),t,code)=some r/\(r.2=false->r.1=av)/\(r.2=true->Init aK t r.1):=by
 obtain⟨j,rfl⟩:∃j:Nat,t=(j:Int):=⟨t.toNat,by omega⟩
 have l:j<aK.length:=by omega
 have c:=cz _ (bg l eS);obtain⟨e,k1,k9⟩:=rL cz bc ht.1 ht.2;obtain⟨u,C,D⟩:=Qf cz bc (code:=0) ⟨by omega,by omega⟩ h1;obtain⟨d,I⟩:=p;rw[yl,ae (aP l)];simp only[aU,ao,a7];rw[e];simp only[ao];unfold Init;simp only[a7];have y:=vc (aK.getD j eS);generalize ek aK (j:Int)=k at*;generalize aK.getD j eS=x at*;have i:=c.a;have o:=c.b;unfold da at i o;have s:k=1\/k=2\/k=3\/k=4\/k=5\/k=6\/k=7\/k=8\/k=9:=by omega
 rcases s with rfl|rfl|rfl|rfl|rfl|rfl|rfl|rfl|rfl
 . exact⟨_,rfl,λh=>(by cases h),λ_=>by unfold mr;simp⟩
 . have el:=IS c;have n:=Oa c;have aM:aN .i64 (dq .i64 (x.A%7-3+x.B%6) (x.A%7-3)) 1=x.B%6+1:=by rw[hK,kc];omega
   have m:b6 (bU .i64 code) (x.B%6+1)=code%(x.B%6+1):=by rw[lx ⟨by omega,by omega⟩,hl d]
   have G:0<=code%(x.B%6+1):=me _ (by omega);have H:code%(x.B%6+1)<x.B%6+1:=ma _ (by omega);have di:aN .i64 (x.A%7-3) (code%(x.B%6+1))=x.A%7-3+code%(x.B%6+1):=kc;simp only[Int.reduceEq,dk,de,bZ,b9,b5,ao,dW,ev];rw[el];simp only[aU,ao];rw[n];simp only[ao];rw[aM,bA,m,di];exact⟨_,rfl,λh=>(by cases h),λ_=>by unfold mr;simp;omega⟩
 . simp only[Int.reduceEq,dk,de,bZ,b9,b5,ao,dW,ev];rw[hl i.1,hl d];by_cases g:0<x.A%4
   . by_cases f:code%2=1
     . rw[ae (by simp[g,f])];exact⟨_,rfl,λh=>(by cases h),λ_=>by unfold mr;simp;omega⟩
     . rw[al (by simp[f])];exact⟨_,rfl,λh=>(by cases h),λ_=>by unfold mr;simp;omega⟩
   . rw[al (by simp[g])];exact⟨_,rfl,λh=>(by cases h),λ_=>by unfold mr;simp;omega⟩
 . obtain⟨F,J,K,L⟩:=y;simp only[Int.reduceEq,dk,de,bZ,b9,b5,ao,dW,ev];rw[F];simp only[aU,ao];have G:0<=code%((kg x).length:Int):=me _ (by omega);have H:code%((kg x).length:Int)<((kg x).length:Int):=ma _ (by omega);rw[ae (uq (by omega)),lx ⟨by omega,by omega⟩,hl d];obtain⟨q,z⟩:∃q:Nat,code%((kg x).length:Int)=(q:Int):=⟨(code%((kg x).length:Int)).toNat,by omega⟩
   rw[z,ae (aP (by omega)),a7];exact⟨_,rfl,λh=>(by cases h),λ_=>by unfold mr;simp;rw[<-FM];exact bg (by omega) 0⟩
 . exact⟨_,rfl,λ_=>rfl,λh=>by cases h⟩
 . exact⟨_,rfl,λ_=>rfl,λh=>by cases h⟩
 . exact⟨_,rfl,λh=>(by cases h),λ_=>by unfold mr;simp⟩
 . simp only[Int.reduceEq,dk,de,bZ,b9,b5,ao,dW,ev];rw[C];rcases D with⟨rfl,a⟩|a
   . exact⟨_,rfl,λh=>(by cases h),λ_=>by unfold mr;simp;exactλw E=>a w E⟩
   . have v:¬u<0:=by have:=a.1;omega
     simp only[aU,ao];rw[al (by simp[v])];exact⟨_,rfl,λh=>(by cases h),λ_=>by unfold mr;simp;exact⟨u,a⟩⟩
 . exact⟨_,rfl,λh=>(by cases h),λ_=>by unfold mr;simp⟩
structure uS (aK:List fF)(i:Int)(record:Bool)(m:aS):Prop where
 id:1<=m.ad/\m.ad<=12
 name:m.Name=[UInt8.ofNat 109,UInt8.ofNat (97+m.ad.toNat)]
 sb:E6 aK i m.aw
 gg:m.cg=true->m.bV=false
 un:record=false->m.cg=false/\m.bV=false
 St:m.bV=false->m.bB=av
 kd:m.bV=true->Init aK m.aw m.bB
include cz bc in
theorem Nw(h1:1<=aK.length){i:Int}(o:0<=i/\i<aK.length){x:fF}(f:oO x)(record:Bool){id:Int}(d:1<=id/\id<=12){acc:List aS}(v:acc.length<=12):
 ∀(k j:Nat),j+k=x.c0.length->∃l,ru (i,record,id,(j:Int),aK,x,acc)=some (i,record,id,aK,x,acc++l)/\l.length<=1/\∀m,m∈l->m.ad=id/\uS aK i record m
 |0,j,w=>⟨[],by rw[ru,ch];simp,by simp,λm z=>by cases z⟩
 |k+1,j,w=>by
  have aC:j<x.c0.length:=by omega
  have ag:=dB f.l;obtain⟨E,F,G⟩:=f.p _ (bg aC afd);obtain⟨u,C,N⟩:=abK cz bc h1 o F;rw[ru,bA,ae (aP aC)];simp only[aU,ao,a7];have D:yt ((⟨aK⟩:et),i,(x.c0.getD j jc).aw)=some u:=C;rw[D];simp only[ao];generalize q:x.c0.getD j jc=p;have P:da p.ad:=by rw[<-q];exact E
  have H:da p.hb:=by rw[<-q];exact G
  obtain⟨f1,f2⟩:=H;have aM:b6 p.hb 4=p.hb%4:=hl f1;have t:fC .u8 p.hb 4=p.hb/4:=adG f1 f2;have M:=Nw h1 o f record d v k (j+1) (by omega);by_cases s:(bif (!(decide (aN .i64 1 (bU .i64 (b6 p.ad 12))=id)))then true else decide (u<0))=true
  . rw[ae s,bE];exact M
  . rw[al s];have c:E6 aK i u:=(by grind);have B:=IQ (k:=id) ⟨by omega,by omega⟩;rw[B];have A:([109]++[UInt8.ofNat (97+id.toNat)]:ak)=[UInt8.ofNat 109,UInt8.ofNat (97+id.toNat)]:=rfl;rw[ae (gf (by simp)),A,aM,t];obtain⟨r,J,K,L⟩:=aaP cz bc h1 ⟨c.1,c.2.1⟩ (code:=p.hb/4) ⟨by omega,by omega⟩;have e:∀m:aS,room 160 (acc++[m]).length=true:=λm=>cN;have done:∀m:aS,m.ad=id->uS aK i record m->∃l,(some (i,record,id,aK,x,acc++[m]):Option (Int×Bool×Int×List fF×fF×List aS))=some (i,record,id,aK,x,acc++l)/\l.length<=1/\∀m,m∈l->m.ad=id/\uS aK i record m:=λm a b=>⟨[m],rfl,by simp,λy O=>by grind⟩
    cases record with
    |false=>
     simp only[dW,bZ,b9];rw[ae (e _)];exact done _ rfl ⟨d,rfl,c,λh=>(by cases h),λ_=>⟨rfl,rfl⟩,λ_=>rfl,λh=>by cases h⟩
    |true=>
     simp only[ev];by_cases g:p.hb%4=1
     . rw[ae (by simpa using g),ch,ae (e _)];exact done _ rfl ⟨d,rfl,c,λ_=>rfl,λh=>(by cases h),λ_=>rfl,λh=>by cases h⟩
     . rw[al (by simpa using g)];by_cases n:2<=p.hb%4
       . rw[ae (by simpa using n),J];simp only[ao,I.aV];rw[ae (e _)];exact done _ rfl ⟨d,rfl,c,λh=>(by cases h),λh=>(by cases h),K,L⟩
       . rw[al (by simpa using n),ae (e _)];exact done _ rfl ⟨d,rfl,c,λh=>(by cases h),λh=>(by cases h),λ_=>rfl,λh=>by cases h⟩
def uT(aK:List fF)(i:Int)(record:Bool)(l:List aS):Prop:=l.Pairwise (λa b=>a.ad<b.ad)/\(∀m,m∈l->uS aK i record m)/\l.length<=12
include cz bc in
theorem Nx(h1:1<=aK.length){i:Int}(f:0<=i/\i<aK.length){x:fF}(j:oO x)(record:Bool):∀(k id:Nat) (acc:List aS),id+k=13->1<=id->
 acc.Pairwise (λa b=>a.ad<b.ad)->(∀m,m∈acc->uS aK i record m/\m.ad<id)->acc.length<id->∃l,rA (i,record,(id:Int),aK,x,acc)=some l/\uT aK i record l
 |0,id,acc,n,h0,d,e,af=>⟨acc,by rw[rA,ch],d,λm g=>(e m g).1,by omega⟩
 |k+1,id,acc,n,h0,d,e,af=>by
  rw[rA,bA];obtain⟨l,o,l2,s⟩:=Nw cz bc h1 f j record (id:=(id:Int)) ⟨by omega,by omega⟩ (acc:=acc) (by omega) x.c0.length 0 (by omega);have p:ru (i,record,(id:Int),0,aK,x,acc)=_:=o;rw[p];simp only[aU,ao];rw[bE];refine Nx h1 f j record k (id+1) _ (by omega) (by omega) ?_ (λm g=>?_) (by simp;omega)
  . rw[FX];refine⟨d,?_,λa q b r=>?_⟩
    . match l,l2 with
      |[],_=>exact .nil
      |[a],_=>simp
      |a::b::c,h=>simp at h
    grind
  grind
include cz bc in
theorem Ny(h1:1<=aK.length){i:Int}(b:0<=i/\i<aK.length)(record:Bool):∃l,s5 ((⟨aK⟩:et),i,record)=some l/\uT aK i record l:=by
 obtain⟨j,rfl⟩:∃j:Nat,i=(j:Int):=⟨i.toNat,by omega⟩
 have a:j<aK.length:=by omega
 have d:=cz _ (bg a eS);obtain⟨l,e,l2⟩:=Nx cz bc h1 b d record 12 1 [] (by omega) (by omega) .nil (λm c=>by cases c) (by simp);refine⟨l,?_,l2⟩;have f:rA ((j:Int),record,1,aK,aK.getD j eS,[])=some l:=e;rw[s5,ae (aP a),a7];grind
def qm(l:ar):List c3:=l.map λj=>⟨j,[UInt8.ofNat 115,UInt8.ofNat (97+j.toNat)]⟩
theorem Ob{l:ar}(af:l.length<=6)(ag:∀x,x∈l->1<=x/\x<=6)(n i:Int)(b:List fF)(b1:Int)(b2:ak)(b3 b4 a c d:Int)(e:Bool)(f:List ai):∀(k j:Nat) (acc:List c3),j+k=l.length->acc.length<=j->
 po (n,i,l,(j:Int),b,b1,b2,b3,b4,a,c,d,e,f,acc)=some (n,i,b,b1,b2,b3,b4,a,c,d,e,f,acc++qm (l.drop j))
 |0,j,acc,m,g=>by
  rw[po,ch,en (by omega:l.length<=j)];simp[qm]
 |k+1,j,acc,m,g=>by
  have aC:j<l.length:=by omega
  have o:=ag _ (bg aC 0);rw[po,bA,ae (aP aC),ae (aP aC)];simp only[aU,ao,a7];rw[IQ ⟨by omega,by omega⟩,ae (gf (by simp)),ae (cN),bE,Ob af ag n i b b1 b2 b3 b4 a c d e f k (j+1) _ (by omega) (by simp;omega),eF aC 0];simp[qm]
def fr(aK:List fF)(i:Int)(t:ai):Prop:=
 let x:=aK.getD i.toNat eS;let n:=(aK.length:Int)
 let a:=[UInt8.ofNat (65+i.toNat)]
 (ek aK i=1/\t=⟨1,[],0,0,0,[],[],0,0,false⟩)\/
 (ek aK i=2/\t=⟨2,[],x.A%7-3,x.A%7-3+x.B%6,0,[],[],0,0,false⟩)\/
 (ek aK i=3/\t=⟨3,[],0,0,x.A%4,[],[],0,0,false⟩)\/
 (ek aK i=4/\∃o,t=⟨4,a,0,0,0,qm (kg x),[],0,0,o⟩)\/
 (ek aK i=5/\∃l,uT aK i true l/\t=⟨5,a,0,0,0,[],l,0,0,false⟩)\/
 (ek aK i=6/\t=⟨5,a,0,0,0,[],[],0,0,false⟩)\/
 (ek aK i=6/\∃l o,uT aK i false l/\0<l.length/\t=⟨6,a,0,0,0,[],l,0,0,o⟩)\/
 (ek aK i=7/\t=⟨7,[],0,0,x.A%4,[],[],0,x.C%n,false⟩)\/
 (ek aK i=8/\(∀w,¬oN aK w)/\t=⟨7,[],0,0,x.A%4,[],[],0,x.C%n,false⟩)\/
 (ek aK i=8/\∃k,oN aK k/\t=⟨8,[],0,0,x.A%4,[],[],k,x.C%n,false⟩)\/
 (ek aK i=9/\t=⟨9,[],0,0,0,[],[],0,x.C%n,false⟩)
include cz bc in
theorem Sx(h1:1<=aK.length):∀(k i:Nat) (acc:List ai),i+k=aK.length->acc.length=i->(∀j,j<i->fr aK (j:Int) (acc.getD j aJ))->
 ∃l,fO ((aK.length:Int),(i:Int),aK,acc)=some l/\l.length=aK.length/\∀j,j<aK.length->fr aK (j:Int) (l.getD j aJ)
 |0,i,acc,E,af,v=>⟨acc,by rw[fO,ch],by omega,λj F=>v j (by omega)⟩
 |k+1,i,acc,E,af,v=>by
  have aC:i<aK.length:=by omega
  have m:=cz _ (bg aC eS);obtain⟨e,k1,k9⟩:=rL cz bc (i:=(i:Int)) (by omega) (by omega);have next:∀t:ai,fr aK (i:Int) t->∃l,(if room 120 (acc++[t]).length then fO ((aK.length:Int),aN .i64 (i:Int) 1,aK,acc++[t])else none)=some l/\l.length=aK.length/\∀j,j<aK.length->fr aK (j:Int) (l.getD j aJ):=by
   intro t ht;rw[ae (cN),bE];refine Sx h1 k (i+1) _ (by omega) (by simp;omega) λj F=>?_;grind
  rw[fO,bA,ae (aP aC)];simp only[aU,ao,a7];rw[e];simp only[ao,j5];have q:=adH (k:=(i:Int)) ⟨by omega,by omega⟩;have c9:∀t,fr aK (i:Int) t->fr aK (i:Int) t:=λt h=>h;have⟨s,z,gc⟩:da (aK.getD i eS).A/\da (aK.getD i eS).B/\da (aK.getD i eS).C:=⟨m.a,m.b,m.c⟩
  have n:(!(decide ((aK.length:Int)=0)))=true:=uq (by omega);have o:bU .i64 (b6 (aK.getD i eS).A 4)=(aK.getD i eS).A%4:=by
   unfold da at s;rw[hl s.1,lx ⟨by omega,by omega⟩]
  have p:b6 (bU .i64 (aK.getD i eS).C) (aK.length:Int)=(aK.getD i eS).C%(aK.length:Int):=by
   unfold da at gc;rw[lx ⟨by omega,by omega⟩,hl gc.1]
  have D:ek aK (i:Int)=1\/ek aK (i:Int)=2\/ek aK (i:Int)=3\/ek aK (i:Int)=4\/ek aK (i:Int)=5\/ek aK (i:Int)=6\/ek aK (i:Int)=7\/ek aK (i:Int)=8\/ek aK (i:Int)=9:=by omega
  rcases D with d|d|d|d|d|d|d|d|d<;>rw[d] <;>
   simp only[Int.reduceEq,dk,de,bZ,b9,b5,ao,dW,ev]
  . exact next _ (by unfold fr;simp[d])
  . have el:=IS m;have w:=Oa m;have y:p3 (aK.getD i bu)=_:=el;have x:tT (aK.getD i bu)=_:=w;rw[y];simp only[ao];rw[x];simp only[ao];exact next _ (by unfold fr;simp only[a7];exact .inr (.inl ⟨d,by first|trivial|rfl⟩))
  . have f:bU .i64 (b6 (aK.getD i bu).A 4)=_:=o;rw[f];exact next _ (by unfold fr;simp only[a7];exact .inr (.inr (.inl ⟨d,by first|trivial|rfl⟩)))
  . obtain⟨H,J,O,K⟩:=vc (aK.getD i eS);have I:nJ (aK.getD i bu)=_:=H;rw[I];simp only[ao];have hs:=Ob (l:=kg (aK.getD i eS)) K J.2 (aK.length:Int) (i:Int) aK 4 (mR (bU .i32 (aN .i64 65 (i:Int)))) 0 0 0 0 0 (decide (b6 (aK.getD i eS).B 2=1)) acc (kg (aK.getD i eS)).length 0 [] (by omega) (by simp);have G:po ((aK.length:Int),(i:Int),kg (aK.getD i eS),0,aK,4,mR (bU .i32 (aN .i64 65 (i:Int))),0,0,0,0,0,decide (b6 (aK.getD i bu).B 2=1),acc,[])=_:=hs;rw[G];simp only[ao,fU,fT];rw[q];exact next _ (by unfold fr;simp only[a7];exact .inr (.inr (.inr (.inl ⟨d,_,rfl⟩))))
  . obtain⟨l,r,l2⟩:=Ny cz bc h1 (i:=(i:Int)) ⟨by omega,by omega⟩ true;rw[r];simp only[ao];rw[q];exact next _ (by unfold fr;simp only[a7];exact .inr (.inr (.inr (.inr (.inl ⟨d,l,l2,rfl⟩)))))
  . obtain⟨l,r,l2⟩:=Ny cz bc h1 (i:=(i:Int)) ⟨by omega,by omega⟩ false;rw[r];simp only[ao];rw[q];by_cases h0:l.length=0
    . rw[ae (by simp[h0])];exact next _ (by unfold fr;simp only[a7];exact .inr (.inr (.inr (.inr (.inr (.inl ⟨d,by first|trivial|rfl⟩))))))
    . rw[al (by simp;intro h;rw[h]at h0;simp at h0)];exact next _ (by unfold fr;simp only[a7];exact .inr (.inr (.inr (.inr (.inr (.inr (.inl ⟨d,l,_,l2,by omega,rfl⟩)))))))
  . have f:bU .i64 (b6 (aK.getD i bu).A 4)=_:=o;have g:b6 (bU .i64 (aK.getD i bu).C) (aK.length:Int)=_:=p;rw[ae n,f,g];exact next _ (by unfold fr;simp only[a7];exact .inr (.inr (.inr (.inr (.inr (.inr (.inr (.inl ⟨d,by first|trivial|rfl⟩))))))))
  . have f:bU .i64 (b6 (aK.getD i bu).A 4)=_:=o;have g:b6 (bU .i64 (aK.getD i bu).C) (aK.length:Int)=_:=p;obtain⟨u,L,N⟩:=Qf cz bc z h1;have M:tY ((⟨aK⟩:et),(aK.getD i bu).B)=some u:=L;rw[M];simp only[ao];rw[ae n,f,g];rcases N with⟨rfl,a⟩|a
    . rw[gM];exact next _ (by unfold fr;simp only[a7];exact .inr (.inr (.inr (.inr (.inr (.inr (.inr (.inr (.inl ⟨d,a,by first|trivial|rfl⟩)))))))))
    . rw[al (by have:=a.1;simp;omega)];exact next _ (by unfold fr;simp only[a7];exact .inr (.inr (.inr (.inr (.inr (.inr (.inr (.inr (.inr (.inl ⟨d,u,a,rfl⟩))))))))))
  . have g:b6 (bU .i64 (aK.getD i bu).C) (aK.length:Int)=_:=p;rw[ae n,g];exact next _ (by unfold fr;simp only[a7];exact .inr (.inr (.inr (.inr (.inr (.inr (.inr (.inr (.inr (.inr ⟨d,by first|trivial|rfl⟩))))))))))
end
def uO(d:et):Prop:=d.ei.length<=reachBytes/\∀x,x∈d.ei->oO x
theorem of_eq{d:et}(a:uO d):q0 d=some (⟨[]⟩,false)\/∃l,q0 d=some (⟨l⟩,true)/\1<=d.ei.length/\d.ei.length<=5/\l.length=d.ei.length/\∀j,j<d.ei.length->fr d.ei (j:Int) (l.getD j aJ):=by
 rw[q0];simp only[aU,ao];by_cases h:1<=d.ei.length/\d.ei.length<=5
 . obtain⟨l,c,l2,e⟩:=Sx a.2 h.2 h.1 d.ei.length 0 [] (by omega) rfl (λj b=>by omega);grind
 grind
structure c8 (ts:List ai):Prop where
 c':1<=ts.length
 fA:ts.length<=5
 T:∀t,t∈ts->e1 t
 V:ns ts
 D:∀t,t∈ts->aea ts t.ah
 R:∀i:Nat,i<ts.length->∀m,m∈(ts.getD i aJ).ah->0<=m.aw/\m.aw<ts.length/\(7<=(ts.getD m.aw.toNat aJ).Kind\/m.aw<i)
 L:∀t,t∈ts->t.Kind=2->-3<=t.bF/\t.bH<=8
 M:∀t,t∈ts->t.Max<=3
 cv:∀t,t∈ts->(∀m,m∈t.ah->m.ad<=12)/\(∀y,y∈t.bh->y.ad<=6)/\t.ah.length<=12
 W:∀t,t∈ts->∀m,m∈t.ah->m.bV=true->wt m.bB<=13
theorem pM(c:v.ay=[])(b:v.aj=[])(ag:v.Rest=[])(hs:v.bl.length<=1000)(c':cw v.Kind)(d:cw v.bd)(e:cw v.ad):bJ v:=by
 refine .mk v (by unfold reachBytes;omega) (by rw[c];simp) (by rw[b];simp) (by rw[ag];simp) (λx a=>?_) (λx a=>?_) (λx a=>?_) c' d e (λx a=>?_)
 . grind
 . grind
 . grind
 grind
theorem Sz:bJ av:=pM rfl rfl rfl (by simp[av]) (by unfold cw av;simp) (by unfold cw av;simp) (by unfold cw av;simp)
theorem Oc(b:v.ay=[])(a:v.aj=[])(ag:v.Rest=[]):wt v=10+v.bl.length:=by
 rw[fD,b,a,ag,gH];simp
section
variable {aK:List fF}(cz:∀x,x∈aK->oO x)(bc:aK.length<=5)(h1:1<=aK.length){l:List ai}(af:l.length=aK.length)(c9:∀j,j<aK.length->fr aK (j:Int) (l.getD j aJ))
include cz bc in
theorem Od(ht:0<=t/\t<aK.length)(h:Init aK t v):bJ v/\wt v<=13:=by
 obtain⟨a,b,c,h⟩:=h;obtain⟨j,rfl⟩:∃j:Nat,t=(j:Int):=⟨t.toNat,by omega⟩
 have d:=cz _ (bg (by omega:j<aK.length) eS);obtain⟨_,k1,k9⟩:=rL cz bc ht.1 ht.2;rw[a7]at h;have f:=d.a;have g:=d.b;have i:=(vc (aK.getD j eS)).2.1.2;unfold da at f g;rw[Oc a b c];have hs:v.bl.length<=3:=by grind
 refine⟨pM a b c (by omega) ?_ ?_ ?_,by omega⟩
 . unfold cw;rcases h with h|h|h|h|h<;>omega
 . unfold cw;rcases h with⟨_,_,e,_⟩|⟨_,_,_,_,_,e⟩|⟨_,_,_,e,_⟩|⟨_,_,_,e,_⟩|⟨_,_,e,_⟩<;>omega
 . unfold cw;grind
include cz bc in
theorem Kh{i:Int}{r:Bool}(h:uT aK i r Ms):pW (!r) Ms\/(r=false/\Ms=[]):=by
 obtain⟨a,b,c⟩:=h;by_cases h0:r=false/\Ms=[]
 . grind
 left;refine⟨λm d=>?_,?_,⟨a,λm d=>?_⟩,λm d=>?_,?_,by omega⟩
 . have q:=b m d;unfold mw;have s:m.bV=false->pV m.bB=true:=λh=>by
    rw[q.St h];have k:eW (lX (av,av)) av av:=Dm Sz av;obtain⟨w,v,z⟩:=k;unfold pV;grind
   have o:=q.gg;have p:=q.un;grind
 . grind
 . have:=(b m d).id;exact⟨by omega,by omega⟩
 . have q:=b m d;have:=q.id;rw[q.name];exact Qd (by omega) (by omega)
 . unfold List.Nodup;rw[ov];refine a.imp_of_mem λ{x y} l n aC=>?_;have f:=b x l;have g:=b y n;have t:=f.id;have u:=g.id;rw[f.name,g.name];intro e;simp only[yE,qc,rV]at e;have j:=ee UInt8.toNat e;rw[ln,ln]at j;omega
theorem Ki{l:ar}(h:uQ l 6)(h1:1<=l.length)(d:l.length<=6):AA (qm l)/\(∀y,y∈qm l->y.ad<=6):=by
 unfold qm;refine⟨⟨by simp;omega,⟨?_,λy b=>?_⟩,λy b=>?_,?_,by simp;omega⟩,λy b=>?_⟩
 . rw[ov];exact h.1
 . obtain⟨x,a,rfl⟩:=e0.1 b;have:=h.2 x a;exact⟨this.1,by show x<=1000;omega⟩
 . obtain⟨x,a,rfl⟩:=e0.1 b;have:=h.2 x a;exact Qd (by omega) (by omega)
 . unfold List.Nodup;rw[ov,ov];refine h.1.imp_of_mem λ{x y} a b aC=>?_;have f:=h.2 x a;have g:=h.2 y b;intro e;simp only[yE,qc,rV]at e;have c:=ee UInt8.toNat e;rw[ln,ln]at c;omega
 . obtain⟨x,a,rfl⟩:=e0.1 b;exact(h.2 x a).2
theorem Oe{i:Int}{t:ai}(h:fr aK i t):(ek aK i<=5\/ek aK i=7\/ek aK i=9->t.Kind=ek aK i)/\(ek aK i=6->t.Kind=5\/t.Kind=6)/\(ek aK i=8->(t.Kind=8/\∃w,oN aK w)\/(t.Kind=7/\¬∃w,oN aK w)):=by
 unfold fr at h;rcases h with⟨k,rfl⟩|⟨k,rfl⟩|⟨k,rfl⟩|⟨k,_,rfl⟩|⟨k,_,_,rfl⟩|⟨k,rfl⟩|⟨k,_,_,_,_,rfl⟩|⟨k,rfl⟩|⟨k,a,rfl⟩|⟨k,w,a,rfl⟩|⟨k,rfl⟩<;>simp[k]
 . omega
 grind
theorem Ip{i:Int}{t:ai}(h:fr aK i t):t.ah=[]\/∃r,uT aK i r t.ah:=by
 unfold fr at h;rcases h with⟨k,rfl⟩|⟨k,rfl⟩|⟨k,rfl⟩|⟨k,_,rfl⟩|⟨k,_,a,rfl⟩|⟨k,rfl⟩|⟨k,_,_,a,_,rfl⟩|⟨k,rfl⟩|⟨k,a,rfl⟩|⟨k,w,a,rfl⟩|⟨k,rfl⟩
 . grind
 . grind
 . grind
 . grind
 . grind
 . grind
 . grind
 . grind
 . grind
 . grind
 grind
include cz bc h1 af c9 in
theorem acb:c8 l:=by
 have n:∀{P:ai->Prop},(∀j,j<aK.length->P (l.getD j aJ))->∀t,t∈l->P t:=λaj t ht=>by
  obtain⟨i,g,rfl⟩:=e3 ht;grind
 have B:∀j,j<aK.length->oO (aK.getD j eS):=λj d=>cz _ (bg d eS);have E:∀j,j<aK.length->∀m,m∈(l.getD j aJ).ah->∃r,uS aK (j:Int) r m:=λj d m f=>by
  rcases Ip (c9 j d)with h|⟨r,_,h,_⟩
  . grind
  grind
 have Z:∀t,t∈l->e1 t:=n λj d=>by
  have f:=E j d;have ht:=c9 j d;have af:(l.getD j aJ).ah.length<=12:=by
   rcases Ip ht with h|⟨r,_,_,h⟩
   . rw[h];simp
   . exact h
  have ag:(l.getD j aJ).bh.length<=6:=by
   have g:=(vc (aK.getD j eS)).2.2.2;unfold fr at ht;rcases ht with⟨k,e⟩|⟨k,e⟩|⟨k,e⟩|⟨k,_,e⟩|⟨k,_,_,e⟩|⟨k,e⟩|⟨k,_,_,_,_,e⟩|⟨k,e⟩|⟨k,_,e⟩|⟨k,_,_,e⟩|⟨k,e⟩<;>rw[e]
   case inr.inr.inr.inl=>simp only[a7,qm,iu];exact g
   all_goals simp
  refine⟨by unfold reachBytes;omega,by unfold reachBytes;omega,λm Y=>?_⟩;obtain⟨r,q⟩:=f m Y;by_cases D:m.bV=true
  . exact(Od cz bc ⟨q.sb.1,q.sb.2.1⟩ (q.kd D)).1
  . rw[q.St (by simpa using D)];exact Sz
 have al:∀u:Int,0<=u->u<aK.length->7<=ek aK u->7<=(l.getD u.toNat aJ).Kind:=λu h0 A I=>by
  obtain⟨j,rfl⟩:∃j:Nat,u=(j:Int):=⟨u.toNat,by omega⟩
  rw[a7];obtain⟨_,_,k9⟩:=rL cz bc h0 A;obtain⟨a,b,c⟩:=Oe (c9 j (by omega));omega
 have aa:ns l:=by
  refine⟨by omega,n λj d=>?_,λj d=>?_,n λj d=>?_,n λj d F=>?_⟩
  . have ht:=c9 j d;have z:=vc (aK.getD j eS);have s:=(B j d).a;have J:=(B j d).b;have G:nm [UInt8.ofNat (65+j)]=true:=adI (by omega);unfold da at s J;unfold fr at ht;simp only[a7]at ht;generalize [UInt8.ofNat (65+j)]=an at G ht;unfold gk;rcases ht with⟨k,e⟩|⟨k,e⟩|⟨k,e⟩|⟨k,_,e⟩|⟨k,Ms,a,e⟩|⟨k,e⟩|⟨k,Ms,_,a,a0,e⟩|⟨k,e⟩|⟨k,_,e⟩|⟨k,_,_,e⟩|⟨k,e⟩<;>rw[e]
    . simp
    . simp;omega
    . simp;omega
    . simp;exact⟨G,(Ki z.2.1 z.2.2.1 z.2.2.2).1⟩
    . simp;refine⟨G,?_⟩;rcases Kh cz bc a with h|⟨h,_⟩
      . exact h
      . cases h
    . simp;exact⟨G,λm f=>(by cases f),.inl rfl,⟨.nil,λm f=>by cases f⟩,λm f=>(by cases f),by simp,by simp⟩
    . simp;refine⟨G,?_⟩;rcases Kh cz bc a with h|⟨_,h⟩
      . exact h
      grind
    . simp;omega
    . simp;omega
    . simp;omega
    . simp
  ·
   have T:∀k,k<aK.length->(l.getD k aJ).Name=[]\/(l.getD k aJ).Name=[UInt8.ofNat (65+k)]:=λk R=>by
    have ht:=c9 k R;unfold fr at ht;simp only[a7]at ht;rcases ht with⟨k,e⟩|⟨k,e⟩|⟨k,e⟩|⟨k,_,e⟩|⟨k,Ms,a,e⟩|⟨k,e⟩|⟨k,Ms,_,a,a0,e⟩|⟨k,e⟩|⟨k,_,e⟩|⟨k,_,_,e⟩|⟨k,e⟩<;>rw[e]<;>simp
   rcases T j (by omega)with h|h
   . rw[h];simp
   . rw[h];simp only[Bool.and_eq_false_iff];right;apply F1.2;intro K;obtain⟨k,R,he⟩:=(p8).1 K;have aq:(l.map (·.Name)).getD k []=(l.getD k aJ).Name:=hY (·.Name) l k aJ [] (by omega);rw[aq]at he;rcases T k (by omega)with O|O
     . grind
     . rw[O]at he;simp only[yE,qc]at he;have p:=ee UInt8.toNat he;rw[ln,ln]at p;omega
  . intro u A;have f:=E j d;have K:=(B j d).c;unfold da at K;have U:0<=(aK.getD j eS).C%(aK.length:Int):=me _ (by omega);have V:(aK.getD j eS).C%(aK.length:Int)<aK.length:=ma _ (by omega);have ht:=c9 j d;unfold fr at ht;simp only[a7]at ht;generalize (aK.getD j eS).C%(aK.length:Int)=ae at U V ht;unfold fl at A;simp only[hQ,e0]at A;rcases A with(⟨m,h,rfl⟩|h)|h
    . obtain⟨r,q⟩:=f m h;have:=q.sb.1;have:=q.sb.2.1;omega
    . split at h
      . rename_i F;have:u=(l.getD j aJ).Key:=(by simpa using h);rw[this];rcases ht with⟨k,e⟩|⟨k,e⟩|⟨k,e⟩|⟨k,_,e⟩|⟨k,Ms,a,e⟩|⟨k,e⟩|⟨k,Ms,_,a,a0,e⟩|⟨k,e⟩|⟨k,_,e⟩|⟨k,w,a,e⟩|⟨k,e⟩<;>rw[e]at F⊢<;>simp at F⊢;obtain⟨jC,ab,_⟩:=a;omega
      . cases h
    . split at h
      . rename_i I;have:u=(l.getD j aJ).aF:=(by simpa using h);rw[this];rcases ht with⟨k,e⟩|⟨k,e⟩|⟨k,e⟩|⟨k,_,e⟩|⟨k,Ms,a,e⟩|⟨k,e⟩|⟨k,Ms,_,a,a0,e⟩|⟨k,e⟩|⟨k,_,e⟩|⟨k,w,a,e⟩|⟨k,e⟩<;>rw[e]at I⊢<;>simp at I⊢<;>omega
      . cases h
  . have ht:=c9 j d;unfold fr at ht;simp only[a7]at ht;rcases ht with⟨k,e⟩|⟨k,e⟩|⟨k,e⟩|⟨k,_,e⟩|⟨k,Ms,a,e⟩|⟨k,e⟩|⟨k,Ms,_,a,a0,e⟩|⟨k,e⟩|⟨k,_,e⟩|⟨k,w,a,e⟩|⟨k,e⟩<;>rw[e]at F⊢<;>simp at F⊢;obtain⟨jC,ab,ar,au⟩:=a;obtain⟨q,rfl⟩:∃q:Nat,w=(q:Int):=⟨w.toNat,by omega⟩
    obtain⟨a,_,_⟩:=Oe (c9 q (by omega));have:=a (.inl (by omega));simp_all
 refine⟨by omega,by omega,Z,aa,n λj d m f D=>?_,λj d m f=>?_,n λj d Q=>?_,n λj d=>?_,n λj d=>⟨λm f=>?_,λy L=>?_,?_⟩,n λj d m f D=>?_⟩
 . obtain⟨r,q⟩:=E j d m f;have g:=q.kd D;obtain⟨M,N,_⟩:=q.sb;generalize m.bB=v at g;obtain⟨u,A⟩:∃u:Nat,m.aw=(u:Int):=⟨m.aw.toNat,by omega⟩
   rw[A]at g M N⊢;have ht:=c9 u (by omega);obtain⟨a,b,c,g⟩:=g;rw[eJ];simp only[a7]at g⊢;unfold fr at ht;simp only[a7]at ht;have X:((l.length:Nat):Int)=aK.length:=(by omega);rw[X];generalize l.getD u aJ=x at ht⊢;rw[a,b,c];have ap:∀t,e4 l true t []:=λt=>by rw[e4];trivial
   have ak:jN []:=λi g=>by simp at g
   have S:=B u (by omega);generalize aK.getD u eS=am at ht g S;rcases g with⟨k,aM,p,di,hL⟩|⟨k,aM,p,di,hL,jR,oZ⟩|⟨k,aM,p,di,hL,jR⟩|⟨k,aM,p,di,hL,jR⟩|⟨k,aM,p,di,hL,jR⟩
   . rw[k]at ht;grind
   . rw[k]at ht;grind
   . rw[k]at ht;grind
   . rw[k]at ht;simp only[Int.reduceEq,false_and,rV,or_false,false_or]at ht;obtain⟨o,rfl⟩:=ht;rw[aM,p,di,hL];simp;refine⟨by omega,⟨v.ad,[UInt8.ofNat 115,UInt8.ofNat (97+v.ad.toNat)]⟩,?_,rfl⟩;unfold qm;grind
   . rw[aM,p,di,hL];have k9:ek aK (u:Int)<=9:=(rL cz bc M N).2.2;have W:ek aK (u:Int)=7\/ek aK (u:Int)=8\/ek aK (u:Int)=9:=(by omega);have s:=S.a;unfold da at s;rcases W with H|H|H
     . rw[H]at ht jR;grind
     . rw[H]at ht jR;grind
     . rw[H]at ht jR;grind
 . obtain⟨r,q⟩:=E j (by omega) m f;obtain⟨M,N,ao⟩:=q.sb;grind
 . have ht:=c9 j d;have s:=(B j d).a;have J:=(B j d).b;unfold da at s J;unfold fr at ht;simp only[a7]at ht;rcases ht with⟨k,e⟩|⟨k,e⟩|⟨k,e⟩|⟨k,_,e⟩|⟨k,Ms,a,e⟩|⟨k,e⟩|⟨k,Ms,_,a,a0,e⟩|⟨k,e⟩|⟨k,_,e⟩|⟨k,w,a,e⟩|⟨k,e⟩<;>rw[e]at Q⊢<;>simp at Q⊢;omega
 . have ht:=c9 j d;have s:=(B j d).a;unfold da at s;unfold fr at ht;simp only[a7]at ht;rcases ht with⟨k,e⟩|⟨k,e⟩|⟨k,e⟩|⟨k,_,e⟩|⟨k,Ms,a,e⟩|⟨k,e⟩|⟨k,Ms,_,a,a0,e⟩|⟨k,e⟩|⟨k,_,e⟩|⟨k,w,a,e⟩|⟨k,e⟩<;>rw[e]<;>simp<;>omega
 . obtain⟨r,q⟩:=E j d m f;exact q.id.2
 . have ht:=c9 j d;have z:=vc (aK.getD j eS);unfold fr at ht;simp only[a7]at ht;rcases ht with⟨k,e⟩|⟨k,e⟩|⟨k,e⟩|⟨k,_,e⟩|⟨k,Ms,a,e⟩|⟨k,e⟩|⟨k,Ms,_,a,a0,e⟩|⟨k,e⟩|⟨k,_,e⟩|⟨k,w,a,e⟩|⟨k,e⟩<;>rw[e]at L<;>simp at L;exact(Ki z.2.1 z.2.2.1 z.2.2.2).2 y L
 . rcases Ip (c9 j d)with h|⟨r,_,_,h⟩
   . rw[h];simp
   . exact h
 . obtain⟨r,q⟩:=E j d m f;exact(Od cz bc ⟨q.sb.1,q.sb.2.1⟩ (q.kd D)).2
end
theorem F5{d:et}(g:uO d):q0 d=some (⟨[]⟩,false)\/∃l,q0 d=some (⟨l⟩,true)/\c8 l:=by
 rcases of_eq g with h|⟨l,a,b,c,e,f⟩
 . exact .inl h
 . exact .inr ⟨l,a,acb g.2 c b e f⟩
def fu(a C:ar):Prop:=a.length<=C.length/\∀c,c∈a->c∈C
theorem fu.refl(C:ar):fu C C:=⟨dV _,λ_ h=>h⟩
theorem fu.trans{A B C:ar}(h:fu A B)(k:fu B C):fu A C:=⟨gv h.1 k.1,λc a=>k.2 c (h.2 c a)⟩
def gN(C:ar):Prop:=∀c,c∈C->da c
theorem gN.dP{A B:ar}(h:gN B)(k:fu A B):gN A:=λc a=>h c (k.2 c a)
section
variable {ts:List ai}
theorem lp{n:Int}(aG:1<=n/\n<=1000){C:ar}(ct:gN C)(af:C.length<=1000)(odd:Bool):
 ∃r b,iZ (n,ts,C,odd)=some (r,ts,b,odd)/\0<=r/\r<n/\fu b C/\(r=0/\b=[]/\C=[]\/b.length+1=C.length):=by
 rw[iZ];cases C with
 |nil=>
  rw[gM];exact⟨0,[],rfl,by omega,by omega,fu.refl _,.inl ⟨rfl,rfl,rfl⟩⟩
 |cons c C=>
  have d:=ct c (.head _);unfold da at d;have h0:aH 0 (c::C).length=true:=aP (k:=0) (by simp);have h1:dY 1 ((c::C).length:Int) (c::C).length=true:=jM (a:=1) (by simp) (by simp);have e:ej (c::C) 1 ((c::C).length:Int)=C:=by
   have:=nV (c::C) 1;grind
  rw[ch,ae h0,ae (uq (by omega)),ae h1,e];simp only[r3,jy];rw[lx ⟨by omega,by omega⟩,hl d.1];exact⟨_,C,rfl,me _ (by omega),ma _ (by omega),⟨by simp,λx f=>.tail _ f⟩,.inr (by simp)⟩
theorem IU{C:ar}(ct:gN C)(af:C.length<=1000)(odd:Bool):
 ∃o a,vI (ts,C,odd)=some (o,ts,a,odd)/\(odd=false->o=false)/\fu a C:=by
 rw[vI];cases odd with
 |false=>exact⟨false,C,rfl,λ_=>rfl,fu.refl _⟩
 |true=>
  obtain⟨r,a,h1,_,_,b,_⟩:=lp (ts:=ts) (n:=4) ⟨by omega,by omega⟩ ct af true;rw[ae rfl,h1];exact⟨_,a,rfl,λh=>(by cases h),b⟩
theorem adf(b:x.ah.length<9223372036854775807)(hs:x.bh.length<9223372036854775807)(n:Int):dr (CE (x,n)) ((∃m,m∈x.ah/\m.ad=n)\/∃y,y∈x.bh/\y.ad=n):=by
 obtain⟨r,_,c,a⟩:=mO (t:=x) n b;obtain⟨s,_,d,aq⟩:=q9 (t:=x) n hs;rw[CE,c];simp only[aU,ao];rw[d];refine⟨_,rfl,?_⟩;have h1:=Dn aq;have f:r.2=true↔∃m,m∈x.ah/\m.ad=n:=by
  rcases tC a with⟨e,j,g,_,_,i⟩|⟨e,q⟩
  . grind
  . rw[e];have:=nQ q;grind
 grind
theorem Kj(c:x.ah.length<9223372036854775807)(hs:x.bh.length<9223372036854775807)(d:∀m,m∈x.ah->m.ad<=12)(e:∀y,y∈x.bh->y.ad<=6)(C:ar)(odd:Bool):
 ∀(k:Nat) (n:Int),1<=n->n<=14->13<=n+k->∃a,vG (n,ts,C,odd,x)=some (a,ts,C,odd)/\1<=a/\a<=14/\(∀m,m∈x.ah->m.ad≠a)/\(∀y,y∈x.bh->y.ad≠a)
 |k,n,h1,g,b=>by
  obtain⟨r,f,j⟩:=adf c hs n;rw[vG,f];simp only[aU,ao];cases r with
  |false=>grind
  |true=>
   have i:n<=12:=(by grind);rw[ae rfl,kc]
   match k,b with
   |0,b=>omega
   |k+1,b=>exact Kj c hs d e C odd k (n+1) (by omega) (by omega) (by omega)
theorem Ir(e:x.ah.length<9223372036854775807)(hs:x.bh.length<9223372036854775807)(b:∀m,m∈x.ah->m.ad<=12)(d:∀y,y∈x.bh->y.ad<=6){C:ar}(ct:gN C)(af:C.length<=1000)(odd:Bool):
 ∃n a,rk (x,ts,C,odd)=some (n,ts,a,odd)/\cn n/\cB x.ah n=none/\fu a C:=by
 obtain⟨r,a,h1,i,j,c,_⟩:=lp (ts:=ts) (n:=14) ⟨by omega,by omega⟩ ct af odd;obtain⟨n,c',k,l,g,_⟩:=Kj (ts:=ts) e hs b d a odd 12 (1+r) (by omega) (by omega) (by omega);refine⟨n,a,?_,⟨by omega,by omega⟩,?_,c⟩
 . rw[rk,h1];simp only[aU,ao];rw[kc,c'];rfl
 . unfold cB;rw[yB];intro m f;simpa using g m f
theorem Nz{n:Int}{C:ar}(ct:gN C)(af:C.length<=1000)(odd:Bool):∃d a,vJ (n,ts,C,odd)=some (⟨n,d⟩,ts,a,odd)/\d.length<=3/\fu a C:=by
 obtain⟨r,a,h1,b,c,e,_⟩:=lp (ts:=ts) (n:=4) ⟨by omega,by omega⟩ ct af odd;obtain⟨k,rfl⟩:∃k:Nat,r=(k:Int):=⟨r.toNat,by omega⟩
 rw[vJ];simp only[aU,ao];rw[h1];simp only[ao];rw[ae (aP (by simp;omega)),a7];grind
theorem Of(odd:Bool):∀(k:Nat) (s:ak) (C:ar),k<=100->gN C->C.length<=1000->s.length+k<=100->∃b a,tb (s,(k:Int),ts,C,odd)=some (b,ts,a,odd)/\b.length<=s.length+k/\fu a C
 |0,s,C,g,ct,af,hs=>⟨s,C,by rw[tb,bz],by omega,fu.refl _⟩
 |k+1,s,C,g,ct,af,hs=>by
  obtain⟨r,a,h1,f,j,c,_⟩:=lp (ts:=ts) (n:=3) ⟨by omega,by omega⟩ ct af odd;have i:decide ((0:Int)<((k+1:Nat):Int))=true:=by rw[dO];omega
  have e:dq .i64 ((k+1:Nat):Int) 1=(k:Int):=by rw[hK];omega
  rw[tb,ae i,h1];simp only[aU,ao];rw[IQ ⟨f,by omega⟩,ae (gf (by simp;omega)),e];obtain⟨b,d,a1,a2,a3⟩:=Of odd k (s++[UInt8.ofNat (97+r.toNat)]) a (by omega) (ct.dP c) (by have:=c.1;omega) (by simp;omega);exact⟨b,d,a1,by simp at a2;omega,a3.trans c⟩
theorem adg{most:Int}(f:0<=most/\most<=1000){C:ar}(ct:gN C)(af:C.length<=1000)(odd:Bool):∃s a,Cu (most,ts,C,odd)=some (s,ts,a,odd)/\(s.length:Int)<=most/\s.length<=3/\fu a C:=by
 have em:aN .i64 (jf most 3) 1=min most 3+1:=by
  have:jf most 3=min most 3:=rfl;rw[this,kc]
 obtain⟨r,a,h1,d,e,b,_⟩:=lp (ts:=ts) (n:=min most 3+1) ⟨by omega,by omega⟩ ct af odd;obtain⟨k,rfl⟩:∃k:Nat,r=(k:Int):=⟨r.toNat,by omega⟩
 obtain⟨s,c,a1,a2,a3⟩:=Of (ts:=ts) odd k [] a (by omega) (ct.dP b) (by have:=b.1;omega) (by simp;omega);refine⟨s,c,?_,by simp at a2;omega,by simp at a2;omega,a3.trans b⟩;rw[Cu,em,h1];grind
end
theorem TB:∀a b:ak,Op.bytesLess a b=false->a≠b->Op.bytesLess b a=true
 |[],[],_,h=>absurd rfl h
 |[],y::b,h,_=>by simp[Op.bytesLess]at h
 |x::a,[],h,_=>by simp[Op.bytesLess]
 |x::a,y::b,h,d=>by
  simp only[Op.bytesLess]at h⊢;by_cases h1:x<y
  . grind
  . by_cases c:y<x
    . simp[c]
    . have e:x=y:=(by grind);subst e;have ag:Op.bytesLess a b=false:=(by simpa using h);have:=TB a b ag (λe=>d (by rw[e]));simp[this]
theorem vV{a b:I}(c:cw a.bd)(d:cw b.bd):n9 (a,b)=some (ha a b):=by
 obtain⟨r,h1,e⟩:=DD c d;unfold ha;grind
theorem abL{a b:I}(d:cw a.bd)(f:cw b.bd)(h:0<ha a b):ha b a<0:=by
 have h1:=vV d f;have c:=vV f d;generalize ha a b=r at h h1;generalize ha b a=q at c;rw[n9]at h1 c;by_cases l:a.Kind=b.Kind
 . rw[al (by simp[l])]at h1 c;by_cases k1:a.Kind=1
   . have g:b.Kind=1:=(by omega);rw[ae (by simp[k1])]at h1;rw[ae (by simp[g])]at c;simp only[kE,fy]at h1 c;grind
   . have g:¬b.Kind=1:=(by omega);rw[al (by simp[k1])]at h1;rw[al (by simp[g])]at c;by_cases k2:a.Kind=2
     . have i:b.Kind=2:=(by omega);rw[ae (by simp[k2]),uj d,uj f]at h1;rw[ae (by simp[i]),uj d,uj f]at c;simp only[aU,ao,kE]at h1 c;by_cases e:a.bd=b.bd
       . grind
       . have o:fE a.bd≠fE b.bd:=λh=>e (OI h);grind
     . have i:¬b.Kind=2:=(by omega);rw[al (by simp[k2])]at h1;rw[al (by simp[i])]at c;by_cases k3:a.Kind=3
       . have j:b.Kind=3:=(by omega);rw[ae (by simp[k3])]at h1;rw[ae (by simp[j])]at c;simp only[aU,ao,kE]at h1 c;by_cases af:a.bl.length=b.bl.length
         . rw[al (by simp[af])]at h1 c;by_cases e:a.bl=b.bl
           . grind
           . have n:¬b.bl=a.bl:=λh=>e h.symm;cases k:Op.bytesLess a.bl b.bl with
             |true=>simp[e,k]at h1;omega
             |false=>
              have:=TB _ _ k e;grind
         grind
       . have j:¬b.Kind=3:=(by omega);rw[al (by simp[k3])]at h1;rw[al (by simp[j])]at c;by_cases k4:a.Kind=4
         . have m:b.Kind=4:=(by omega);rw[ae (by simp[k4])]at h1;rw[ae (by simp[m])]at c;simp only[aU,ao,kE]at h1 c;grind
         grind
 grind
theorem SK{key item:I}(af:v.ay.length<1000000)(l:∀x,x∈v.ay->cw x.bd)(n:cw key.bd)(a:Int)(b:Bool)(c:Int)(d:ak)(e:Int):∀(k i:Nat),i+k=v.ay.length->
 (∀j,j<i->ha (v.ay.getD j av) key<0)->∃m:Nat,m<=v.ay.length/\rE ((i:Int),v,key,item,a,b,c,d,e)=some ((m:Int),v,key,item,a,b,c,d,e)/\(∀j,j<m->ha (v.ay.getD j av) key<0)/\(m<v.ay.length->0<=ha (v.ay.getD m av) key)
 |0,i,p,g=>by
  have f:decide ((i:Int)<(v.ay.length:Int))=false:=by simp;omega
  refine⟨i,by omega,?_,g,λh=>by omega⟩;rw[rE];simp only[aU,ao,f,eV,Bool.or_true,b5,bZ,b9,dW,I.aV]
 |k+1,i,p,g=>by
  have aC:i<v.ay.length:=by omega
  have f:decide ((i:Int)<(v.ay.length:Int))=true:=by simp;omega
  have o:=vV (l _ (bg aC av)) n;rw[rE];simp only[aU,ao,f,db,jg,b5,ev,I.aV,a7];rw[ae (aP aC),o];simp only[ao];by_cases q:ha (v.ay.getD i av) key<0
  . rw[ae (by simpa using q),bE];refine SK af l n a b c d e k (i+1) (by omega) λj r=>?_;grind
  grind
theorem tH:∀(a b:List I),cH (a++b)=cH a+cH b
 |[],b=>by rw[gH];simp
 |x::a,b=>by rw[uA,hi,hi,tH a b];omega
theorem NA{l:List α}{m:Nat}{x d:α}(a:m<=l.length)(i:Nat):(l.take m++(x::l.drop m)).getD i d=if i<m then l.getD i d else if i=m then x else l.getD (i-1) d:=by grind
theorem adK{key item:I}(af:v.ay.length<1000)(z:v.aj.length=v.ay.length)(l:∀x,x∈v.ay->cw x.bd)(n:cw key.bd)(g:jN v.ay):
 ∃ks b,CH (v,key,item)=some ⟨v.Kind,v.bN,v.bd,v.bl,v.ad,ks,b,v.Rest⟩/\b.length=ks.length/\ks.length<=v.ay.length+1/\jN ks/\(∀x,x∈ks->x∈v.ay\/x=key)/\(∀x,x∈b->x∈v.aj\/x=item)/\cH ks+cH b<=cH v.ay+cH v.aj+wt key+wt item:=by
 obtain⟨m,f,B,G,D⟩:=SK (item:=item) (by omega) l n 0 false 0 [] 0 v.ay.length 0 (by omega) (λj F=>by omega);have C:rE (0,v,key,item,0,false,0,[],0)=_:=B;rw[CH];simp only[I.aV];rw[C];simp only[aU,ao,I.aV];have ins:∀(r:m<v.ay.length->0<ha (v.ay.getD m av) key),∃ks b,(some (⟨v.Kind,v.bN,v.bd,v.bl,v.ad,v.ay.take m++(key::v.ay.drop m),v.aj.take m++(item::v.aj.drop m),v.Rest⟩:I):Option I)=some ⟨v.Kind,v.bN,v.bd,v.bl,v.ad,ks,b,v.Rest⟩/\b.length=ks.length/\ks.length<=v.ay.length+1/\jN ks/\(∀x,x∈ks->x∈v.ay\/x=key)/\(∀x,x∈b->x∈v.aj\/x=item)/\cH ks+cH b<=cH v.ay+cH v.aj+wt key+wt item:=by
  intro r;refine⟨_,_,rfl,by simp;omega,by simp;omega,λi y=>?_,λx c=>?_,λx c=>?_,?_⟩
  . rw[NA f,NA f];have A:(v.ay.take m++(key::v.ay.drop m)).length=v.ay.length+1:=by simp;omega
    rw[A]at y;by_cases h1:i+1<m
    . rw[fz,ae h1];exact g i (by omega)
    . by_cases p:i+1=m
      . grind
      . by_cases q:i=m
        . rw[bx,ae q,al h1,al p];have e:i+1-1=m:=(by omega);rw[e];exact abL (l _ (bg (by omega) av)) n (r (by omega))
        . rw[bx,al q,al h1,al p];have:=g (i-1) (by omega);grind
  . grind
  . grind
  . rw[tH,tH,hi,hi];have aM:cH v.ay=cH (v.ay.take m)+cH (v.ay.drop m):=by rw[<-tH,yL]
    have E:cH v.aj=cH (v.aj.take m)+cH (v.aj.drop m):=by rw[<-tH,yL]
    omega
 have s1:dY 0 (m:Int) v.ay.length=true:=jM (a:=0) (by omega) f;have s:dY (m:Int) (v.ay.length:Int) v.ay.length=true:=jM f (by omega);have t:dY 0 (m:Int) v.aj.length=true:=jM (a:=0) (by omega) (by omega);have u:dY (m:Int) (v.aj.length:Int) v.aj.length=true:=jM (by omega) (by omega);have build:∀{o:Option I->Prop},o (some (⟨v.Kind,v.bN,v.bd,v.bl,v.ad,v.ay.take m++(key::v.ay.drop m),v.aj.take m++(item::v.aj.drop m),v.Rest⟩:I))->o (some (⟨v.Kind,v.bN,v.bd,v.bl,v.ad,v.ay.take m++(key::v.ay.drop m),v.aj.take m++(item::v.aj.drop m),v.Rest⟩:I)):=λh=>h;by_cases d:m<v.ay.length
 . have k:decide ((m:Int)<(v.ay.length:Int))=true:=by simp;omega
   have w:=vV (l _ (bg d av)) n;simp only[k,db,jg,b5,ev,a7];rw[ae (aP d),w];simp only[ao];by_cases h0:ha (v.ay.getD m av) key=0
   . rw[ae (by simpa using h0)];refine⟨v.ay,v.aj,by cases v;rfl,z,by omega,g,λx c=>.inl c,λx c=>.inl c,by omega⟩
   . rw[al (by simpa using h0),ae s1,ae (cN (by omega) (by simp[ej];omega))];rw[ae (cN (by omega) (by simp[ej];omega)),ae s,ae (cN (by omega) (by simp[ej];omega)),ae t,ae (cN (by omega) (by simp[ej];omega)),ae (cN (by omega) (by simp[ej];omega)),ae u,ae (cN (by omega) (by simp[ej];omega))];rw[tF,tF,nV,nV];simp only[fT,ir,List.singleton_append];exact ins λ_=>by have:=D d;omega
 . have k:decide ((m:Int)<(v.ay.length:Int))=false:=by simp;omega
   simp only[k,eV,Bool.or_true,b5,bZ,b9,dW,ao];rw[ae s1,ae (cN (by omega) (by simp[ej];omega))];rw[ae (cN (by omega) (by simp[ej];omega)),ae s,ae (cN (by omega) (by simp[ej];omega)),ae t,ae (cN (by omega) (by simp[ej];omega)),ae (cN (by omega) (by simp[ej];omega)),ae u,ae (cN (by omega) (by simp[ej];omega))];rw[tF,tF,nV,nV];simp only[fT,ir,List.singleton_append];exact ins λh=>absurd h d
section
variable {ts:List ai}
mutual
theorem oC:∀(v:I) (t:Int),bY ts true t v->bY ts false t v
 |⟨k,b,i,s,id,ks,e,r⟩,t,h=>by
  rw[bY]at h⊢;obtain⟨⟨h1,p,q,B⟩,bc⟩:=h;have w:=GS e;have D:=GS ks;have E:=S5 e;refine⟨⟨h1,p,q,λh=>by cases h⟩,?_⟩
  have A:(match cB (ts.getD t.toNat aJ).ah id with
   |some m=>r=[]/\e.length=1/\e4 ts true m.aw e
   |none=>(ts.getD t.toNat aJ).Open=true/\true=false/\cn id/\e=[]/\∃d,r=[⟨id,d⟩])->(match cB (ts.getD t.toNat aJ).ah id with
   |some m=>r=[]/\e.length=1/\e4 ts false m.aw e
   |none=>(ts.getD t.toNat aJ).Open=true/\false=false/\cn id/\e=[]/\∃d,r=[⟨id,d⟩]):=by
   split
   . rintro ⟨a,b,c⟩;exact⟨a,b,w _ c⟩
   . rintro ⟨_,b,_⟩;cases b
  rcases bc with h|h|h|⟨a1,a2,a3,a4,a5,f,j,o⟩|⟨a1,a2,a3,a4,a5,f,j,o⟩|⟨a1,a2,a3,a4,a5,f⟩|⟨a1,a2,a3,a4,a5,f,j,o,a9⟩|⟨a1,a2,a3,a4,a5,f,j,o,a9,x,y⟩|⟨a1,a2,a3,a4,a5,f,j,o,a9⟩
  . exact .inl h
  . grind
  . grind
  . grind
  . grind
  . grind
  . grind
  . grind
  grind
theorem GS:∀(l:List I) (t:Int),e4 ts true t l->e4 ts false t l
 |[],t,h=>by rw[e4];trivial
 |v::l,t,h=>by
  rw[e4]at h⊢;exact⟨oC v t h.1,GS l t h.2⟩
theorem S5:∀(l:List I) (ms:List aS),hy ts true ms l->hy ts false ms l
 |[],[],h=>by rw[hy];trivial
 |[],m::ms,h=>by
  have:hy ts true (m::ms) []=False:=by rw[hy]<;>(intros;simp_all)
  grind
 |v::l,[],h=>by
  have:hy ts true [] (v::l)=False:=by rw[hy]<;>(intros;simp_all)
  grind
 |v::l,m::ms,h=>by
  rw[hy]at h⊢;exact⟨oC v m.aw h.1,S5 l ms h.2⟩
end
theorem acd(h:bY ts true t v)(pl:Bool):bY ts pl t v:=by
 cases pl with
 |true=>exact h
 |false=>exact oC v t h
def kl(ts:List ai)(t:Nat):Nat:=if 7<=(ts.getD t aJ).Kind then 0 else t+1
def gj:Nat->Nat
 |0=>20
 |n+1=>12*gj n+20
theorem EV{a:Nat}:∀{b:Nat},a<=b->gj a<=gj b
 |0,h=>by have:a = 0:= by omega
          subst this;omega
 |b+1,h=>by
  by_cases e:a=b+1
  . grind
  . have:=EV (a:=a) (b:=b) (by omega);simp only[gj];omega
theorem EU(r:Nat):20<=gj r:=EV (a:=0) (hv _)
theorem xk:gj 5=5429060:=rfl
def mu(ts:List ai)(odd:Bool)(C:ar)(r:Nat)(t:Int):Prop:=∃v a,jH (t,ts,C,odd)=some (v,ts,a,odd)/\bY ts (!odd) t v/\bJ v/\fu a C/\wt v+32574360*a.length<=gj r+32574360*C.length
theorem Qg {odd:Bool}{c r:Nat}(G:c<=1000){x:ai}(E:x.ah.length<=12)(s:∀m,m∈x.ah->(∀C,gN C->C.length<=c->mu ts odd C r m.aw)/\(m.bV=true->bY ts true m.aw m.bB/\bJ m.bB/\wt m.bB<=13))
 (a0:Int)(a1:Bool)(a2:Int)(a3:ak)(a4:Int)(v0:Int)(v1:Bool)(g:Int)(v3:ak)(v4:Int):
 ∀(k i:Nat) (C:ar) (acc:List I),i+k=x.ah.length->gN C->C.length<=c->acc.length=i->(∀j,j<i->bY ts (!odd) (x.ah.getD j aB).aw (acc.getD j av))->(∀y,y∈acc->bJ y)->
 ∃a b,mX ((i:Int),ts,C,odd,a0,a1,a2,a3,a4,x.Kind,x.Name,x.bF,x.bH,x.Max,x.bh,x.ah,x.Key,x.aF,x.Open,v0,v1,g,v3,v4,acc)=some (ts,b,odd,a0,a1,a2,a3,a4,x.Kind,x.Name,x.bF,x.bH,x.Max,x.bh,x.ah,x.Key,x.aF,x.Open,v0,v1,g,v3,v4,a)/\
  a.length=x.ah.length/\(∀j,j<x.ah.length->bY ts (!odd) (x.ah.getD j aB).aw (a.getD j av))/\(∀y,y∈a->bJ y)/\fu b C/\cH a+32574360*b.length<=cH acc+k*gj r+32574360*C.length
 |0,i,C,acc,K,ct,af,F,p,l=>⟨acc,C,by rw[mX,ch],by omega,λj L=>p j (by omega),l,fu.refl _,by omega⟩
 |k+1,i,C,acc,K,ct,af,F,p,l=>by
  have aC:i<x.ah.length:=by omega
  obtain⟨t,J⟩:=s _ (bg aC aB);have next:∀ (w:I) (d:ar),bY ts (!odd) (x.ah.getD i aB).aw w->bJ w->fu d C->wt w+32574360*d.length<=gj r+32574360*C.length->
   ∃a b,(if room 120 (acc++[w]).length then mX (aN .i64 (i:Int) 1,ts,d,odd,a0,a1,a2,a3,a4,x.Kind,x.Name,x.bF,x.bH,x.Max,x.bh,x.ah,x.Key,x.aF,x.Open,v0,v1,g,v3,v4,acc++[w])else none)=some (ts,b,odd,a0,a1,a2,a3,a4,x.Kind,x.Name,x.bF,x.bH,x.Max,x.bh,x.ah,x.Key,x.aF,x.Open,v0,v1,g,v3,v4,a)/\
    a.length=x.ah.length/\(∀j,j<x.ah.length->bY ts (!odd) (x.ah.getD j aB).aw (a.getD j av))/\(∀y,y∈a->bJ y)/\fu b C/\cH a+32574360*b.length<=cH acc+(k+1)*gj r+32574360*C.length:=by
   intro w d P M hs Q;rw[ae (cN),bE]
   obtain⟨a,b,b1,b2,b3,b4,B,D⟩:=Qg G E s a0 a1 a2 a3 a4 v0 v1 g v3 v4 k (i+1) d (acc++[w]) (by omega) (ct.dP hs) (by have:=hs.1;omega) (by simp;omega) (λj L=>by
    grind) (λy N=>by
    rcases hQ.1 N with h|h
    . exact l y h
    . have:y=w:=by simpa using h
      subst this;exact M)
   refine⟨a,b,b1,b2,b3,b4,B.trans hs,?_⟩;rw[tH,hi,gH]at D;have e:(k+1)*gj r=k*gj r+gj r:=Nat.succ_mul _ _;omega
  rw[mX,bA,ae (aP aC)];simp only[aU,ao,a7,I.aV];cases H:(x.ah.getD i aB).bV with
  |true=>
   obtain⟨f1,f2,f3⟩:=J H;obtain⟨q,d,c',R,S,f,fA⟩:=lp (ts:=ts) (n:=3) ⟨by omega,by omega⟩ ct (by omega) odd;rw[ae rfl,c'];simp only[ao,ev];by_cases h0:q=0
   . rw[ae (by simpa using h0)];have:=f.1;have:=EU r;rw[ae (aP aC)];exact next _ d (acd f1 _) f2 f (by omega)
   . rw[al (by simpa using h0),ae (aP aC)];obtain⟨w,o,u,v,z,A,O⟩:=t d (ct.dP f) (by have:=f.1;omega);rw[u];simp only[ao,I.aV];have:=f.1;exact next w o v z (A.trans f) (by omega)
  |false=>
   rw[bz,bz,ae (aP aC)];obtain⟨w,o,u,v,z,A,O⟩:=t C ct af;grind
theorem Og{r:Nat}(m:c<=1000)(dM:∀C,gN C->C.length<=c->mu ts odd C r x.aF)
 (a0:Int)(a1:Bool)(a2:Int)(a3:ak)(a4:Int)(v0:Int)(v1:Bool)(f:Int)(v3:ak)(v4:Int):
 ∀(k:Nat) (C:ar) (acc:List I),acc.length+k<=100->gN C->C.length<=c->(∀y,y∈acc->bY ts (!odd) x.aF y/\bJ y)->
 ∃a b,qK ((k:Int),ts,C,odd,a0,a1,a2,a3,a4,x.Kind,x.Name,x.bF,x.bH,x.Max,x.bh,x.ah,x.Key,x.aF,x.Open,v0,v1,f,v3,v4,acc)=some (ts,b,odd,a0,a1,a2,a3,a4,v0,v1,f,v3,v4,a)/\
  a.length=acc.length+k/\(∀y,y∈a->bY ts (!odd) x.aF y/\bJ y)/\fu b C/\cH a+32574360*b.length<=cH acc+k*gj r+32574360*C.length
 |0,C,acc,l,ct,af,g=>⟨acc,C,by rw[qK,bz],by omega,g,fu.refl _,by omega⟩
 |k+1,C,acc,l,ct,af,g=>by
  have n:decide ((0:Int)<((k+1:Nat):Int))=true:=by rw[dO];omega
  have e:dq .i64 ((k+1:Nat):Int) 1=(k:Int):=by rw[hK];omega
  obtain⟨w,i,o,q,s,d,t⟩:=dM C ct af;rw[qK,ae n,o];simp only[aU,ao,I.aV];rw[ae (cN),e];obtain⟨a,b,b1,b2,b3,b4,j⟩:=Og m dM a0 a1 a2 a3 a4 v0 v1 f v3 v4 k i (acc++[w]) (by simp;omega) (ct.dP d) (by have:=d.1;omega) (λy p=>by grind);refine⟨a,b,b1,by simp at b2;omega,b3,b4.trans d,?_⟩;rw[tH,hi,gH]at j;grind
theorem Qh {odd:Bool}{c r:Nat}(E:c<=1000){x:ai}(bC:∀C,gN C->C.length<=c->mu ts odd C r x.Key)(dM:∀C,gN C->C.length<=c->mu ts odd C r x.aF)
 (a0:Int)(a1:Bool)(a2:Int)(a3:ak)(a4:Int)(v0:Int)(v1:Bool)(j:Int)(v3:ak)(v4:Int)(R:List bX):
 ∀(k:Nat) (C:ar) (ks a:List I),ks.length+k<=100->a.length=ks.length->gN C->C.length<=c->(∀y,y∈ks->bY ts (!odd) x.Key y/\bJ y)->(∀y,y∈a->bY ts (!odd) x.aF y/\bJ y)->jN ks->
 ∃b d f,rj ((k:Int),ts,C,odd,a0,a1,a2,a3,a4,x.Kind,x.Name,x.bF,x.bH,x.Max,x.bh,x.ah,x.Key,x.aF,x.Open,v0,v1,j,v3,v4,ks,a,R)=some (ts,f,odd,a0,a1,a2,a3,a4,v0,v1,j,v3,v4,b,d,R)/\
  b.length<=ks.length+k/\d.length=b.length/\(∀y,y∈b->bY ts (!odd) x.Key y/\bJ y)/\(∀y,y∈d->bY ts (!odd) x.aF y/\bJ y)/\jN b/\fu f C/\cH b+cH d+32574360*f.length<=cH ks+cH a+2*(k*gj r)+32574360*C.length
 |0,C,ks,a,D,n,ct,af,m,aq,l=>⟨ks,a,C,by rw[rj,bz],by omega,n,m,aq,l,fu.refl _,by omega⟩
 |k+1,C,ks,a,D,n,ct,af,m,aq,l=>by
  have F:decide ((0:Int)<((k+1:Nat):Int))=true:=by rw[dO];omega
  have e:dq .i64 ((k+1:Nat):Int) 1=(k:Int):=by rw[hK];omega
  obtain⟨w,s,J,W,K,i,X⟩:=bC C ct af;have U:=i.1;obtain⟨z,t,c',L,M,o,fA⟩:=dM s (ct.dP i) (by omega);have V:=o.1;obtain⟨H,G,p,N,O,P,Q,q,S⟩:=adK (v:=⟨v0,v1,j,v3,v4,ks,a,R⟩) (key:=w) (item:=z) (by show ks.length<1000;omega) n (λy g=>we (m y g).2) (we K) l;simp only at p O Q q S;rw[rj,ae F,J];simp only[aU,ao,I.aV];rw[c'];simp only[ao,I.aV];rw[p];simp only[ao];rw[e]
  obtain⟨b,d,f,b1,b2,b3,b4,u,A,B,T⟩:=Qh E bC dM a0 a1 a2 a3 a4 v0 v1 j v3 v4 R k t H G (by omega) N ((ct.dP i).dP o) (by omega) (λy g=>by
   grind) (λy g=>by
   rcases q y g with h|h
   . exact aq y h
   . subst h;exact⟨L,M⟩) P
  refine⟨b,d,f,b1,by omega,b3,b4,u,A,B.trans (o.trans i),?_⟩;grind
theorem uk(hs:v.bl.length<=1000)(c:∀x,x∈v.ay->bJ x)(b:∀x,x∈v.aj->bJ x)(h1:v.ay.length<=1000)(f:v.aj.length<=1000)(g:v.Rest.length<=1000)(ag:∀x,x∈v.Rest->x.Data.length<=1000/\cw x.ad)(c':cw v.Kind)(d:cw v.bd)(e:cw v.ad):bJ v:=
 .mk v (by unfold reachBytes;omega) (by unfold reachBytes;omega) (by unfold reachBytes;omega) (by unfold reachBytes;omega) c b (λx a=>by have:=(ag x a).1;unfold reachBytes;omega) c' d e (λx a=>(ag x a).2)
theorem tP{n:Int}(h:cn n):cw n:=by unfold cn at h;unfold cw;omega
def Bd(ts:List ai)(odd:Bool)(c r:Nat):Prop:=∀t:Nat,t<ts.length->kl ts t<=r->∀C,gN C->C.length<=c->mu ts odd C r (t:Int)
theorem IV(H:c8 ts){t:Nat}(ht:t<ts.length:=by omega):kl ts t<=5:=by
 unfold kl;have:=H.fA;grind
theorem mu.up{C:ar}{r:Nat}(h:mu ts odd C r t)(ag:r<=a):mu ts odd C a t:=by
 obtain⟨v,c,h1,e,f,j,bc⟩:=h;exact⟨v,c,h1,e,f,j,by have:=EV ag;omega⟩
theorem adh(H:c8 ts){r:Nat}(bK:c<=60)(bd:∀aV,aV<c->Bd ts odd aV 5)(be:∀G,G<r->Bd ts odd c G):Bd ts odd c r:=by
 intro t ht bQ C ct af;have X:=bg ht aJ;have bw:=H.V.F _ X;have c9:=H.T _ X;have bO:=H.M _ X;obtain⟨aG,aI,aW⟩:=H.cv _ X;have bp:=H.R t ht;have bo:=H.L _ X;have au:=H.V.U _ X;have bm:=H.D _ X;have dj:=H.W _ X;have bt:kl ts t=if 7<=(ts.getD t aJ).Kind then 0 else t+1:=rfl
 unfold mu;rw[jH,ae (aP ht)];simp only[aU,ao,a7];have Q:=λv=>eJ (ts:=ts) (!odd) (t:Int) v;simp only[a7]at Q;generalize bW:ts.getD t aJ=x at*;have bD:=EU r;have E:(0:Int)<=t/\(t:Int)<ts.length:=by omega
 have ab:∀(v:I) (z:ar),v.ay=[]->v.aj=[]->v.Rest=[]->v.bl.length<=3->fu z C->wt v+32574360*z.length<=gj r+32574360*C.length:=λv z a b c d e=>by rw[Oc a b c];have:=e.1;omega
 have below:∀l:ar,l.length+1=C.length->∀u:Int,0<=u->u<ts.length->∀p,gN p->p.length<=l.length->mu ts odd p 5 u:=λl h1 u bU bV p N O=>by
  obtain⟨k,rfl⟩:∃k:Nat,u=(k:Int):=⟨u.toNat,by omega⟩
  exact bd l.length (by omega) k (by omega) (IV H) p N O
 have ba:x.Kind=5\/x.Kind=6->1<=r/\∀m,m∈x.ah->∀p,gN p->p.length<=c->mu ts odd p (r-1) m.aw:=λbL=>by
  have bR:kl ts t=t+1:=by rw[bt,bx]
  refine⟨by omega,λm P p N O=>?_⟩;obtain⟨a,b,bj⟩:=bp m P;obtain⟨k,bs⟩:∃k:Nat,m.aw=(k:Int):=⟨m.aw.toNat,by omega⟩
  rw[bs]at bj⊢;refine be (r-1) (by omega) k (by omega) ?_ p N O;have:kl ts k<=t:=by
   unfold kl;grind
  omega
 have aR:x.bh.length<9223372036854775807:=dB (ij c9.syms);have aL:x.ah.length<9223372036854775807:=dB (ij c9.gX);unfold gk at bw;rcases bw with⟨k,_⟩|⟨k,f1,f2,_⟩|⟨k,f1,f2,f3,f4,_⟩|⟨k,f1,f2,f3,f4,f5,_⟩|⟨k,f1,f2,f3,f4,f5,f6,_⟩|⟨k,f1,f2,f3,f4,f5,f6,_⟩|⟨k,f1,f2,f3,f4,_⟩|⟨k,f1,f2,f3,f4,_⟩|⟨k,_⟩
 . obtain⟨q,l,c',Z,aa,g,fA⟩:=lp (ts:=ts) (n:=2) ⟨by omega,by omega⟩ ct (by omega) odd;rw[ae (by simp[k]),c'];refine⟨_,l,rfl,?_,pM rfl rfl rfl (by simp) (by simp[cw,k]) (by simp[cw]) (by simp[cw]),g,ab _ _ rfl rfl rfl (by simp) g⟩;grind
 . obtain⟨q,l,c',Z,aa,g,fA⟩:=lp (ts:=ts) (n:=256) ⟨by omega,by omega⟩ ct (by omega) odd;have bG:=bo k;have aM:aN .i64 (dq .i64 x.bH x.bF) 1=x.bH-x.bF+1:=by rw[hK,kc]
   have bX:0<=q%(x.bH-x.bF+1):=me _ (by omega);have bZ:q%(x.bH-x.bF+1)<x.bH-x.bF+1:=ma _ (by omega);rw[al (by simp[k]),ae (by simp[k]),c'];simp only[ao];rw[aM,ae (uq (by omega)),hl Z,kc];refine⟨_,l,rfl,?_,pM rfl rfl rfl (by simp) (by simp[cw,k]) (by simp only[cw];omega) (by simp[cw]),g,ab _ _ rfl rfl rfl (by simp) g⟩;grind
 . obtain⟨s,l,c',Z,aa,g⟩:=adg (ts:=ts) (most:=x.Max) ⟨f4.1,by omega⟩ ct (by omega) odd;rw[al (by simp[k]),al (by simp[k]),ae (by simp[k]),c'];refine⟨_,l,rfl,?_,pM rfl rfl rfl (by show s.length<=1000;omega) (by simp[cw,k]) (by simp[cw]) (by simp[cw]),g,ab _ _ rfl rfl rfl aa g⟩;grind
 . have bT:=f5.1;have bS:=f5.2.2.2.2;have a6:=f5.2.1.2;obtain⟨q,l,c',Z,aa,g,fA⟩:=lp (ts:=ts) (n:=(x.bh.length:Int)) ⟨by omega,by omega⟩ ct (by omega) odd;obtain⟨j,rfl⟩:∃j:Nat,q=(j:Int):=⟨q.toNat,by omega⟩
   have am:=g.1;have J:j<x.bh.length:=(by omega);have f:=bg J dL;rw[al (by simp[k]),al (by simp[k]),al (by simp[k]),ae (by simp[k]),c'];simp only[ao];rw[ae (aP J)];simp only[a7];cases bA:x.Open with
   |false=>
    rw[bz,bz];refine⟨_,l,rfl,?_,pM rfl rfl rfl (by simp) (by simp[cw,k]) (by simp[cw]) (tP (a6 _ f)),g,ab _ _ rfl rfl rfl (by simp) g⟩;grind
   |true=>
    obtain⟨o,p,ap,bb,A⟩:=IU (ts:=ts) (ct.dP g) (by omega) odd;have av:=A.1;rw[ae rfl,ap];simp only[ao,ev];cases o with
    |false=>
     rw[bz];refine⟨_,p,rfl,?_,pM rfl rfl rfl (by simp) (by simp[cw,k]) (by simp[cw]) (tP (a6 _ f)),(A.trans g),ab _ _ rfl rfl rfl (by simp) (A.trans g)⟩;grind
    |true=>
     have aQ:odd=true:=(by grind);obtain⟨n,aC,aq,ai,bc,K⟩:=Ir (ts:=ts) aL aR aG aI ((ct.dP g).dP A) (by omega) odd;rw[ae rfl,aq];refine⟨_,aC,rfl,?_,pM rfl rfl rfl (by simp) (by simp[cw,k]) (by simp[cw]) (tP ai),K.trans (A.trans g),ab _ _ rfl rfl rfl (by simp) (K.trans (A.trans g))⟩;grind
 . obtain⟨bB,aO⟩:=ba (.inl k);obtain⟨acc,l,b1,b2,b3,b4,B,ak⟩:=Qg (ts:=ts) (odd:=odd) (c:=c) (r:=r-1) (by omega) (x:=x) aW (λm P=>⟨aO m P,λaY=>⟨bm m P aY,c9.iK m P,dj m P aY⟩⟩) 0 false 0 [] 0 x.Kind false 0 [] 0 x.ah.length 0 C [] (by omega) ct af rfl (λj J=>by omega) (λy f=>by cases f);have bi:mX (0,ts,C,odd,0,false,0,[],0,x.Kind,x.Name,x.bF,x.bH,x.Max,x.bh,x.ah,x.Key,x.aF,x.Open,x.Kind,false,0,[],0,[])=_:=b1;have am:=B.1;have bE:gj r=12*gj (r-1)+20:=by
    obtain⟨G,rfl⟩:∃G,r=G+1:=⟨r-1,by omega⟩
    rfl
   have bN:x.ah.length*gj (r-1)<=12*gj (r-1):=eY _ aW;rw[gH]at ak;have aZ:hy ts (!odd) x.ah acc:=hJ.2 ⟨b2,b3⟩;rw[al (by simp[k]),al (by simp[k]),al (by simp[k]),al (by simp[k]),ae (by simp[k]),bi];simp only[ao];obtain⟨o,p,ap,bb,A⟩:=IU (ts:=ts) (ct.dP B) (by omega) odd;have av:=A.1;rw[ap];simp only[ao];cases o with
   |false=>
    rw[bz];refine⟨_,p,rfl,?_,uk (by simp) (λy f=>by cases f) b4 (by simp) (by show acc.length<=1000;omega) (by simp) (λy f=>by cases f) (by simp[cw,k]) (by simp[cw]) (by simp[cw]),A.trans B,?_⟩
    . exact(Q _).2 ⟨⟨E.1,E.2,rfl,λ_=>rfl⟩,.inr (.inr (.inr (.inr (.inl ⟨k,rfl,rfl,rfl,rfl,rfl,⟨.nil,λy f=>by cases f⟩,aZ⟩))))⟩
    . rw[fD];simp only[gH,h6,mf,uv];omega
   |true=>
    have aQ:odd=true:=(by grind);obtain⟨n,aC,aq,ai,bc,K⟩:=Ir (ts:=ts) aL aR aG aI ((ct.dP B).dP A) (by omega) odd;have bu:=K.1;obtain⟨d,aD,d1,d2,d3⟩:=Nz (ts:=ts) (n:=n) (((ct.dP B).dP A).dP K) (by omega) odd;have bv:=d3.1;rw[ae rfl,EA,aq];simp only[ao];rw[d1];simp only[ao];refine⟨_,aD,rfl,?_,uk (by simp) (λy f=>by cases f) b4 (by simp) (by show acc.length<=1000;omega) (by simp) (λy f=>?_) (by simp[cw,k]) (by simp[cw]) (by simp[cw]),d3.trans (K.trans (A.trans B)),?_⟩
    . refine(Q _).2 ⟨⟨E.1,E.2,rfl,λh=>by simp[aQ]at h⟩,.inr (.inr (.inr (.inr (.inl ⟨k,rfl,rfl,rfl,rfl,rfl,⟨by simp,λy f=>?_⟩,aZ⟩))))⟩;grind
    . have:y=⟨n,d⟩:=(by simpa using f);subst this;exact⟨by show d.length<=1000;omega,tP ai⟩
    . rw[fD];simp only[gH,h6,fB,mf,ox,uv];omega
 . obtain⟨bB,aO⟩:=ba (.inr k);have bI:0<x.ah.length:=by
    rcases f6.2.1 with h|h
    . cases h
    . exact h
   have bC:gj (r-1)+20<=gj r:=by
    obtain⟨G,rfl⟩:∃G,r=G+1:=⟨r-1,by omega⟩
    have:=EU G;show gj G+20<=12*gj G+20;omega
   have bf:∀ aA,fu aA C->∃ v z,(Option.bind (iZ ((x.ah.length:Int),ts,aA,odd)) λag=>if aH ag.1 x.ah.length then
    (jH ((x.ah.getD ag.1.toNat aB).aw,ag.2.1,ag.2.2.1,ag.2.2.2)).bind λaz=>
     some ((⟨x.Kind,false,0,[],(x.ah.getD ag.1.toNat aB).ad,[],[az.1],[]⟩:I),az.2.1,az.2.2.1,az.2.2.2)
    else none)=some (v,ts,z,odd)/\bY ts (!odd) (t:Int) v/\bJ v/\fu z C/\wt v+32574360*z.length<=gj r+32574360*C.length:=by
    intro aA ax;have bM:=ax.1;obtain⟨q,l,c',Z,aa,g,fA⟩:=lp (ts:=ts) (n:=(x.ah.length:Int)) ⟨by omega,by omega⟩ (ct.dP ax) (by omega) odd;obtain⟨j,rfl⟩:∃j:Nat,q=(j:Int):=⟨q.toNat,by omega⟩
    have am:=g.1;have J:j<x.ah.length:=(by omega);have P:=bg J aB;obtain⟨w,p,aS,a8,a9,an,a'⟩:=aO _ P l ((ct.dP ax).dP g) (by omega);have av:=an.1;rw[c'];simp only[ao];rw[ae (aP J)];simp only[a7];rw[aS];simp only[ao];have bn:=f6.2.2.1.2 _ P;refine⟨_,p,rfl,?_,uk (by simp) (λy f=>by cases f) (λy f=>?_) (by simp) (by simp) (by simp) (λy f=>by cases f) (by simp[cw,k]) (by simp[cw]) (tP bn),an.trans (g.trans ax),?_⟩
    . refine(Q _).2 ⟨⟨E.1,E.2,rfl,λ_=>rfl⟩,.inr (.inr (.inr (.inr (.inr (.inl ⟨k,rfl,rfl,rfl,rfl,?_⟩)))))⟩;have br:cB x.ah (x.ah.getD j aB).ad=some (x.ah.getD j aB):=by
       unfold cB;rw[Ch];refine⟨by simp,j,J,(du J _).symm,λi aK=>?_⟩;have bP:=rW.1 f6.2.2.1.1 i j (by omega) J aK;rw[du J];simp;omega
      simp only[br];refine⟨by first|rfl|trivial,by first|rfl|trivial,?_⟩;rw[cF];intro y f;have:y=w:=(by simpa using f);subst this;exact a8
    . have:y=w:=(by simpa using f);subst this;exact a9
    . rw[fD];simp only[hi,gH,h6,mf,uv];omega
   rw[al (by simp[k]),al (by simp[k]),al (by simp[k]),al (by simp[k]),al (by simp[k]),ae (by simp[k])];simp only[I.aV];cases bA:x.Open with
   |false=>
    rw[bz,bz];obtain⟨v,z,a1,a2,a3,a4,a5⟩:=bf C (fu.refl _);grind
   |true=>
    obtain⟨o,p,ap,bb,A⟩:=IU (ts:=ts) ct (by omega) odd;have av:=A.1;rw[ae rfl,ap];simp only[ao,ev];cases o with
    |false=>grind
    |true=>
     have aQ:odd=true:=(by grind);obtain⟨n,aC,aq,ai,bc,K⟩:=Ir (ts:=ts) aL aR aG aI (ct.dP A) (by omega) odd;have bu:=K.1;obtain⟨d,aD,d1,d2,d3⟩:=Nz (ts:=ts) (n:=n) ((ct.dP A).dP K) (by omega) odd;have bv:=d3.1;rw[ae rfl,aq];simp only[ao];rw[d1];simp only[ao];refine⟨_,aD,rfl,?_,uk (by simp) (λy f=>by cases f) (λy f=>by cases f) (by simp) (by simp) (by simp) (λy f=>?_) (by simp[cw,k]) (by simp[cw]) (tP ai),d3.trans (K.trans A),?_⟩
     . grind
     . have:y=⟨n,d⟩:=(by simpa using f);subst this;exact⟨by show d.length<=1000;omega,tP ai⟩
     . rw[fD];simp only[gH,h6,fB,mf,ox,uv];omega
 . have em:aN .i64 (jf x.Max 3) 1=min x.Max 3+1:=by
    have:jf x.Max 3=min x.Max 3:=rfl;rw[this,kc]
   have S:0<=x.aF/\x.aF<ts.length:=au x.aF (by unfold fl;simp[k]);obtain⟨q,l,c',Z,aa,g,fA⟩:=lp (ts:=ts) (n:=min x.Max 3+1) ⟨by omega,by omega⟩ ct (by omega) odd;obtain⟨j,rfl⟩:∃j:Nat,q=(j:Int):=⟨q.toNat,by omega⟩
   have am:=g.1;have loop:∃acc z,qK ((j:Int),ts,l,odd,0,false,0,[],0,x.Kind,x.Name,x.bF,x.bH,x.Max,x.bh,x.ah,x.Key,x.aF,x.Open,x.Kind,false,0,[],0,[])=some (ts,z,odd,0,false,0,[],0,x.Kind,false,0,[],0,acc)/\acc.length=j/\(∀y,y∈acc->bY ts (!odd) x.aF y/\bJ y)/\fu z C/\10+cH acc+32574360*z.length<=gj r+32574360*C.length:=by
    rcases fA with⟨h0,h1,bk⟩|h1
    . have:j=0:=(by omega);subst this;refine⟨[],l,by rw[qK,bz],rfl,λy f=>(by cases f),g,?_⟩;rw[gH];omega
    . obtain⟨acc,z,b1,b2,b3,b4,B⟩:=Og (ts:=ts) (odd:=odd) (c:=l.length) (r:=5) (by omega) (x:=x) (λp N O=>below l h1 x.aF S.1 S.2 p N O) 0 false 0 [] 0 x.Kind false 0 [] 0 j l [] (by simp;omega) (ct.dP g) (by omega) (λy f=>by cases f);refine⟨acc,z,b1,by simpa using b2,b3,b4.trans g,?_⟩;rw[gH,xk]at B;omega
   obtain⟨acc,z,b1,b2,b3,b4,B⟩:=loop;rw[al (by simp[k]),al (by simp[k]),al (by simp[k]),al (by simp[k]),al (by simp[k]),al (by simp[k]),ae (by simp[k]),em,c'];simp only[ao];rw[b1];simp only[ao];refine⟨_,z,rfl,?_,uk (by simp) (λy f=>by cases f) (λy f=>(b3 y f).2) (by simp) (by show acc.length<=1000;omega) (by simp) (λy f=>by cases f) (by simp[cw,k]) (by simp[cw]) (by simp[cw]),b4,?_⟩
   . exact(Q _).2 ⟨⟨E.1,E.2,rfl,λ_=>rfl⟩,.inr (.inr (.inr (.inr (.inr (.inr (.inl ⟨k,rfl,rfl,rfl,rfl,rfl,rfl,by show(acc.length:Int)<=x.Max;omega,cF.2 λy f=>(b3 y f).1⟩))))))⟩
   . rw[fD];simp only[gH,h6,mf,uv];omega
 . have em:aN .i64 (jf x.Max 3) 1=min x.Max 3+1:=by
    have:jf x.Max 3=min x.Max 3:=rfl;rw[this,kc]
   have S:0<=x.aF/\x.aF<ts.length:=au x.aF (by unfold fl;simp[k]);have a0:0<=x.Key/\x.Key<ts.length:=au x.Key (by unfold fl;simp[k]);obtain⟨q,l,c',Z,aa,g,fA⟩:=lp (ts:=ts) (n:=min x.Max 3+1) ⟨by omega,by omega⟩ ct (by omega) odd;obtain⟨j,rfl⟩:∃j:Nat,q=(j:Int):=⟨q.toNat,by omega⟩
   have am:=g.1;have aX:jN []:=λi aK=>by simp at aK
   have loop:∃ks Y z,rj ((j:Int),ts,l,odd,0,false,0,[],0,x.Kind,x.Name,x.bF,x.bH,x.Max,x.bh,x.ah,x.Key,x.aF,x.Open,x.Kind,false,0,[],0,[],[],[])=some (ts,z,odd,0,false,0,[],0,x.Kind,false,0,[],0,ks,Y,[])/\ks.length<=j/\Y.length=ks.length/\(∀y,y∈ks->bY ts (!odd) x.Key y/\bJ y)/\(∀y,y∈Y->bY ts (!odd) x.aF y/\bJ y)/\jN ks/\fu z C/\10+cH ks+cH Y+32574360*z.length<=gj r+32574360*C.length:=by
    rcases fA with⟨h0,h1,bk⟩|h1
    . have:j=0:=(by omega);subst this;refine⟨[],[],l,by rw[rj,bz],by simp,rfl,λy f=>(by cases f),λy f=>(by cases f),aX,g,?_⟩;rw[gH];omega
    . obtain⟨ks,Y,z,b1,b2,b3,b4,B,ak,aE,aT⟩:=Qh (ts:=ts) (odd:=odd) (c:=l.length) (r:=5) (by omega) (x:=x) (λp N O=>below l h1 x.Key a0.1 a0.2 p N O) (λp N O=>below l h1 x.aF S.1 S.2 p N O) 0 false 0 [] 0 x.Kind false 0 [] 0 [] j l [] [] (by simp;omega) rfl (ct.dP g) (by omega) (λy f=>by cases f) (λy f=>by cases f) aX;refine⟨ks,Y,z,b1,by simpa using b2,b3,b4,B,ak,aE.trans g,?_⟩;rw[gH,xk]at aT;omega
   obtain⟨ks,Y,z,b1,b2,b3,b4,B,ak,aE,aT⟩:=loop;rw[al (by simp[k]),al (by simp[k]),al (by simp[k]),al (by simp[k]),al (by simp[k]),al (by simp[k]),al (by simp[k]),ae (by simp[k]),em,c'];simp only[ao];rw[b1];simp only[ao];refine⟨_,z,rfl,?_,uk (by simp) (λy f=>(b4 y f).2) (λy f=>(B y f).2) (by show ks.length<=1000;omega) (by show Y.length<=1000;omega) (by simp) (λy f=>by cases f) (by simp[cw,k]) (by simp[cw]) (by simp[cw]),aE,?_⟩
   . exact(Q _).2 ⟨⟨E.1,E.2,rfl,λ_=>rfl⟩,.inr (.inr (.inr (.inr (.inr (.inr (.inr (.inl ⟨k,rfl,rfl,rfl,rfl,rfl,by show(ks.length:Int)<=x.Max;omega,b3,cF.2 λy f=>(b4 y f).1,cF.2 λy f=>(B y f).1,ak⟩)))))))⟩
   . rw[fD];grind
 . have S:0<=x.aF/\x.aF<ts.length:=au x.aF (by unfold fl;simp[k]);obtain⟨q,l,c',Z,aa,g,fA⟩:=lp (ts:=ts) (n:=2) ⟨by omega,by omega⟩ ct (by omega) odd;have am:=g.1;rw[al (by simp[k]),al (by simp[k]),al (by simp[k]),al (by simp[k]),al (by simp[k]),al (by simp[k]),al (by simp[k]),al (by simp[k]),c'];simp only[ao,I.aV];by_cases h1:q=1
   . have bq:l.length+1=C.length:=(by omega);obtain⟨w,p,aS,a8,a9,an,a'⟩:=below l bq x.aF S.1 S.2 l (ct.dP g) (by omega);have av:=an.1;rw[xk]at a';rw[ae (by simpa using h1),aS];simp only[ao];refine⟨_,p,rfl,?_,uk (by simp) (λy f=>by cases f) (λy f=>?_) (by simp) (by simp) (by simp) (λy f=>by cases f) (by simp[cw,k]) (by simp[cw]) (by simp[cw]),an.trans g,?_⟩
     . refine(Q _).2 ⟨⟨E.1,E.2,rfl,λ_=>rfl⟩,.inr (.inr (.inr (.inr (.inr (.inr (.inr (.inr ⟨k,rfl,rfl,rfl,rfl,rfl,rfl,by simp,cF.2 λy f=>?_⟩)))))))⟩;grind
     . grind
     . rw[fD];simp only[hi,gH,h6,mf,uv];omega
   . rw[al (by simpa using h1)];refine⟨_,l,rfl,?_,pM rfl rfl rfl (by simp) (by simp[cw,k]) (by simp[cw]) (by simp[cw]),g,ab _ _ rfl rfl rfl (by simp) g⟩;exact(Q _).2 ⟨⟨E.1,E.2,rfl,λ_=>rfl⟩,.inr (.inr (.inr (.inr (.inr (.inr (.inr (.inr ⟨k,rfl,rfl,rfl,rfl,rfl,rfl,by simp,cF.2 λy f=>by cases f⟩)))))))⟩
theorem PG(H:c8 ts):∀(c:Nat),c<=60->∀r,Bd ts odd c r:=by
 intro c;induction c using Nat.strongRecOn with
 |ind c d=>
  intro b r;induction r using Nat.strongRecOn with
  |ind r e=>exact adh H b (λa h=>d a h (by omega) 5) (λf h=>e f h)
theorem acI(H:c8 ts)(ht:0<=t/\t<ts.length){C:ar}(ct:gN C)(af:C.length<=reachBytes):∃v,zh ((⟨ts⟩:aT),t,C)=some v/\bY ts true t v/\bJ v/\wt v<=2147483648:=by
 obtain⟨j,rfl⟩:∃j:Nat,t=(j:Int):=⟨t.toNat,by omega⟩
 have ag:=dB af;have g:jf 60 (C.length:Int)=((min 60 C.length:Nat):Int):=H' 60 C.length;have hs:gN (C.take (min 60 C.length)):=λc e=>ct c (uy e);have f:(C.take (min 60 C.length)).length<=60:=by rw[qg];omega
 have i:dY 0 ((min 60 C.length:Nat):Int) C.length=true:=jM (a:=0) (by omega) (by omega);obtain⟨v,k,h1,b,d,l,bc⟩:=PG H (odd:=false) 60 (by omega) 5 j (by omega) (IV H) _ hs f;rw[zh];simp only[aU,ao];rw[g,ae i,tF,h1];refine⟨v,by simp only[ao,I.aV],b,d,?_⟩;rw[xk]at bc;omega
theorem aaQ(H:c8 ts)(ht:0<=t/\t<ts.length){C:ar}(ct:gN C)(af:C.length<=reachBytes):∃v,ym ((⟨ts⟩:aT),t,C)=some v/\bY ts false t v/\bJ v/\wt v<=2147483648:=by
 obtain⟨j,rfl⟩:∃j:Nat,t=(j:Int):=⟨t.toNat,by omega⟩
 have ag:=dB af;have g:jf 60 (C.length:Int)=((min 60 C.length:Nat):Int):=H' 60 C.length;have hs:gN (C.take (min 60 C.length)):=λc e=>ct c (uy e);have f:(C.take (min 60 C.length)).length<=60:=by rw[qg];omega
 have i:dY 0 ((min 60 C.length:Nat):Int) C.length=true:=jM (a:=0) (by omega) (by omega);obtain⟨v,k,h1,b,d,l,bc⟩:=PG H (odd:=true) 60 (by omega) 5 j (by omega) (IV H) _ hs f;rw[ym];simp only[aU,ao];rw[g,ae i,tF,h1];refine⟨v,by simp only[ao,I.aV],b,d,?_⟩;rw[xk]at bc;omega
end
structure EX (d:lg):Prop where
 s:uO d.S
 t:da d.T
 c:gN d.C
 l:d.C.length<=reachBytes
theorem aht{d:lg}(a:EX d):(∃s t v w,p5 d=some (s,t,v,w,false))\/
 ∃ts t v w,p5 d=some (⟨ts⟩,t,v,w,true)/\c8 ts/\(0<=t/\t<ts.length)/\(bY ts true t v/\bJ v/\wt v<=2147483648)/\(bY ts false t w/\bJ w/\wt w<=2147483648):=by
 rw[p5];rcases F5 a.s with h|⟨l,h,H⟩
 . rw[h];exact .inl ⟨_,_,_,_,rfl⟩
 . right;have j:=H.c';have k:=H.fA;have ht:=a.t;unfold da at ht;have b:0<=d.T%(l.length:Int):=me _ (by omega);have e:d.T%(l.length:Int)<l.length:=ma _ (by omega);obtain⟨v,v1,f⟩:=acI H ⟨b,e⟩ a.c a.l;obtain⟨w,g,i⟩:=aaQ H ⟨b,e⟩ a.c a.l;rw[h];simp only[aU,ao];rw[bz,ae (uq (by omega)),lx ⟨by omega,by omega⟩,hl ht.1,v1];simp only[ao];rw[g];exact⟨l,_,v,w,by simp only[ao,I.aV],H,⟨b,e⟩,f,i⟩
theorem NB(H:iS ts)(a:bJ v)(t:Int)(pl:Bool):dr (j7 ((⟨ts⟩:aT),t,v,pl)) (bY ts pl t v):=by
 obtain⟨r,h1,c⟩:=zw (by have:=H.n;omega) H.T H.K a t pl;obtain⟨q,d,b⟩:=Lz (by have:=H.n;omega) H.T H.K a t pl;rw[h1]at b;have:r=q:=mc b;subst this;exact⟨r,d,c⟩
theorem HJ(c9:∀t,t∈ts->e1 t)(gV:ns ts)(c:bJ v)(a:bY ts false t v):ub ((⟨ts⟩:aT),t,v)=some 0:=by
 have H:=gV.hx c9;obtain⟨v1,_⟩:=pK c9 gV;obtain⟨⟨f,g,_⟩,_⟩:=(eJ _ _ _).1 a;obtain⟨r,d,e⟩:=NB H c t false;have ag:=e.2 a;subst ag;have b:¬((bif decide (t<0)then true else decide (((⟨ts⟩:aT).Types.length:Int)<=t))=true):=by grind
 rw[ub,GP];simp only[KH,I.aV];rw[v1];show((if(bif (t<0:Bool)then true else (((⟨ts⟩:aT).Types.length:Int)<=t:Bool)) then some (4:Int)else some 0)>>=_)=_;rw[al b];show(tG ((⟨ts⟩:aT),t,v)>>=_)=_;rw[tG];simp only[I.aV];rw[d];rfl
theorem MD(c9:∀t,t∈ts->e1 t)(gV:ns ts)(e:bJ v)(b:bY ts false t v):tR ((⟨ts⟩:aT),t,v)=some 0:=by
 have a:=gV.hx c9;obtain⟨⟨i,j,_⟩,_⟩:=(eJ _ _ _).1 b;obtain⟨q,f,g⟩:=zw (by have:=a.n;omega) c9 a.K e t false;have ag:=g.2 b;subst ag;have c:¬t<0:=by omega
 have d:¬(ts.length:Int)<=t:=by omega
 rw[tR,(pK c9 gV).2];simp only[aU,ao];rw[bz,al (by simp[c,d]),GD];simp only[I.aV];rw[f];rfl
theorem aaR(c9:∀t,t∈ts->e1 t)(gV:ns ts)(b:bJ v)(a:bY ts false t v):ub ((⟨ts⟩:aT),t,v)=some 0/\tR ((⟨ts⟩:aT),t,v)=some 0:=⟨HJ c9 gV b a,MD c9 gV b a⟩
theorem Ig{l:List Fd}(d:ke fq l=true)(aG:l.Pairwise (λa b=>a.id≠b.id)):(gW fq l).Pairwise (λa b=>a.id<b.id):=by
 have h1:=DJ OL l;have c:(gW fq l).Pairwise (λa b=>a.id≠b.id):=(kK fq l).symm.pairwise aG (λ{a b} h=>λe=>h e.symm);refine(h1.and c).imp λ{a b} h=>?_;have:=h.1;have:=h.2;simp only[fq,FO]at*;omega
theorem IL{l:List I}{r:List bX}(h:gQ ms)(ag:jP ms r):(fg ts ms l r).Pairwise (λa b=>a.id≠b.id):=by
 have:=vC (ts:=ts) (l:=l) h ag;have key:∀q:List Fd,ke fq q=true->q.Pairwise (λa b=>a.id≠b.id):=by
  intro q;induction q with
  |nil=>intro _;exact .nil
  |cons a q ih=>
   intro h;simp only[ke,cC,dH,iv,fq,dO]at h;rw[h5];grind
 grind
def o1(f:Fd):cS:=⟨(f.id:Int),f.c,f.p⟩
theorem ME:∀(l:List Fd) (last:Nat) (b:List cS),l.Pairwise (λa b=>a.id<b.id)->(∀f,f∈l->last<f.id/\f.id<=1000)->(l.flatMap Fd.text).length<=100000->b.length+l.length<=90000->
 gb ((last:Int),l.flatMap Fd.text,b)=some (.inr (b++l.map o1))
 |[],last,b,_,_,_,_=>by
  rw[gb,bz];simp
 |f::l,last,b,d,ag,af,e=>by
  rw[h5]at d;obtain⟨h1,i⟩:=ag f (.head _);rw[eZ]at af⊢;have ht:f.text=eX f.id f.c f.p:=rfl;rw[ht]at af⊢;rw[YY h1 i af (by simp at e;omega)];have j:(l.flatMap Fd.text).length<=100000:=by rw[cm]at af;omega
  rw[ME l f.id _ d.2 (λg aq=>⟨d.1 g aq,(ag g (.tail _ aq)).2⟩) j (by simp at e⊢;omega)];simp[o1]
theorem aaS{a:ak}{b:List ak}(h:(c7 p++a).length<=100000)(i:b.length<=90000):hG (c7 p++a,b)=hG (a,b++[p]):=by
 have g:p.length<=100000:=by simp only[c7,cm]at h;omega
 have e:c7 p++a≠[]:=by
  intro d;have c:=ee List.length d;have:=oc p.length;simp only[c7,cm,h6]at c;omega
 rw[hG,ae (by simp only[r0,FO];exact e),l5,Js g];simp only[aU,ao];have f:¬((!(dS (some (p,a))).2.2)=true):=by simp[dS]
 have ag:room 16 (b++[(dS (some (p,a))).1]).length=true:=cN;rw[al f,ae ag];rfl
theorem NC:∀(l:List ak) (b:List ak),(l.flatMap c7).length<=100000->b.length+l.length<=90000->hG (l.flatMap c7,b)=some (.inr (b++l))
 |[],b,_,_=>by
  rw[hG,bz];simp
 |p::l,b,af,a=>by
  rw[eZ]at af⊢;rw[aaS af (by simp at a;omega),NC l _ (by rw[cm]at af;omega) (by simp at a⊢;omega)];simp
def ml:List ak->List ak->List ak
 |k::ks,v::vs=>k::v::ml ks vs
 |_,_=>[]
theorem HT:∀a b,fi a b=(ml a b).flatMap c7
 |[],b=>by simp[fi,ml]
 |k::ks,[]=>by simp[fi,ml]
 |k::ks,v::vs=>by simp[fi,ml,HT ks vs]
theorem MF:∀a b:List ak,a.length=b.length->(ml a b).length=a.length+b.length
 |[],[],_=>rfl
 |k::ks,v::vs,h=>by
  simp only[ml,gi];have:=MF ks vs (by simpa using h);omega
theorem aaT(p:ak):1<=(c7 p).length:=by
 have:=oc p.length;unfold c7;rw[cm];omega
theorem KN:∀l:List ak,l.length<=(l.flatMap c7).length
 |[]=>by simp
 |p::l=>by
  have:=KN l;have:=aaT p;grind
theorem ace(f:Fd):1<=f.text.length:=by
 have:=oc (2*f.id+(if f.c then 1 else 0));unfold Fd.text eX;rw[cm];omega
theorem KO:∀l:List Fd,l.length<=(l.flatMap Fd.text).length
 |[]=>by simp
 |p::l=>by
  have:=KO l;have:=ace p;grind
theorem MG{f:Fd}:∀{l:List Fd},f∈l->f.p.length<=(l.flatMap Fd.text).length
 |g::l,h=>by
  rw[eZ,cm];rcases eK.1 h with rfl|h
  . have:f.p.length<=f.text.length:=by unfold Fd.text eX c7;simp only[cm];omega
    omega
  . have:=MG h;omega
theorem Oh{d:et}(h:WF cR ⟨.slice (.nm vl),d.ei⟩):uO d:=by
 obtain⟨a,_,c⟩:=vT (t:= .nm vl) h;refine⟨a,λx p=>?_⟩;have e:=c x p;have b:∀{n:Int},WF cR ⟨.int .u8,n⟩->da n:=λ{n} h=>by
  cases h with
  |int k n h=>
   simp[Lit.wf,IntKind.min,IntKind.max,IntKind.bits,IntKind.signed]at h;unfold da;omega
 have g:=e ⟨.int .u8,x.Kind⟩ (.head _);have i:=e ⟨.int .u8,x.A⟩ (.tail _ (.head _));have j:=e ⟨.int .u8,x.B⟩ (.tail _ (.tail _ (.head _)));have l:=e ⟨.int .u8,x.C⟩ (.tail _ (.tail _ (.tail _ (.head _))));have m:=e ⟨.slice (.nm Da),x.c0⟩ (.tail _ (.tail _ (.tail _ (.tail _ (.head _)))));obtain⟨r,_,s⟩:=vT (t:= .nm Da) m;refine⟨b g,b i,b j,b l,λq o=>?_,r⟩;have f:=s q o;exact⟨b (f ⟨.int .u8,q.ad⟩ (.head _)),b (f ⟨.int .u8,q.aw⟩ (.tail _ (.head _))),b (f ⟨.int .u8,q.hb⟩ (.tail _ (.tail _ (.head _))))⟩
theorem acf{d:lg}(h:∀c,c∈cR.o2 WU d->WF cR c):EX d:=by
 have e:=h ⟨.slice (.nm vl),d.S.ei⟩ (.head _);have f:=h ⟨.int .u8,d.T⟩ (.tail _ (.head _));have g:=h ⟨.slice (.int .u8),d.C⟩ (.tail _ (.tail _ (.head _)));obtain⟨a,_,c⟩:=vT (t:= .int .u8) g;have b:∀{n:Int},WF cR ⟨.int .u8,n⟩->da n:=λ{n} h=>by
  cases h with
  |int k n h=>
   simp[Lit.wf,IntKind.min,IntKind.max,IntKind.bits,IntKind.signed]at h;unfold da;omega
 exact⟨Oh e,b f,λn aG=>b (c n aG ⟨.int .u8,n⟩ (.head _)),a⟩
def gh(n:Nat):ak->Nat
 |[]=>n
 |c::s=>gh (n*256+c.toNat) s
theorem Sc:∀(s:ak) (n k:Nat),n<256^k->gh n s<256^(k+s.length)
 |[],n,k,h=>by simpa[gh]using h
 |c::s,n,k,h=>by
  have a:c.toNat<256:=B' c;have h1:n*256+c.toNat<256^(k+1):=by rw[yH];omega
  have:=Sc s _ (k+1) h1;simp only[gh,gi];grind
theorem ahM{n:Nat}(h:n<72057594037927936):nd .u64 (n:Int) 8=((n*256:Nat):Int):=by
 unfold nd;have e:((2:Int)^min (8:Int).toNat IntKind.u64.bits)=256:=by decide
 rw[e];have:(n:Int)*256=((n*256:Nat):Int):=by push_cast;rfl
 rw[this];exact kV
theorem acJ{b:Nat}(c:a<72057594037927936)(d:b<256):r5 .u64 ((a*256:Nat):Int) (b:Int)=((a*256+b:Nat):Int):=by
 have e:(BitVec.ofInt 64 ((a*256:Nat):Int) ||| BitVec.ofInt 64 (b:Int)).toNat=a*256+b:=by
  rw[wG,wG,BitVec.toNat_or,wJ,wJ,w5,ow (by omega),ow (by omega)];have h:=Nat.shiftLeft_add_eq_or_of_lt (show b<2^8 by omega) a;rw[Nat.shiftLeft_eq]at h;exact h.symm
 show IntKind.u64.wrap (((BitVec.ofInt 64 ((a*256:Nat):Int) ||| BitVec.ofInt 64 (b:Int)).toNat:Nat):Int)=_;rw[e];exact kV
theorem adL:(256:Nat)^8=18446744073709551616:=by decide
theorem zx{s:ak}(hs:s.length<=8):∀(k i n:Nat),i+k=s.length->n<256^i->mF (s,(n:Int),(s.length:Int),(i:Int))=some ((gh n (s.drop i):Nat):Int)
 |0,i,n,c,aG=>by
  rw[mF,ch,en (by omega:s.length<=i)];rfl
 |k+1,i,n,c,aG=>by
  have aC:i<s.length:=by omega
  have b:=zZ s i;have a:n<72057594037927936:=by
   have:(256:Nat)^i<=256^7:=wH (by omega) (by omega);omega
  rw[mF,bA,ae (aP aC),ahM a,re,hA,acJ a b,bE,zx hs k (i+1) _ (by omega) (by rw[yH];omega),eF aC 0];rfl
theorem Ih{s:ak}(hs:s.length<=8):∀(k i n:Nat),i+k=s.length->n<256^i->pa (s,(n:Int),(i:Int))=some ((gh n (s.drop i):Nat):Int)
 |0,i,n,a,aG=>by
  rw[pa,ch,en (by omega:s.length<=i)];rfl
 |k+1,i,n,a,aG=>by
  have aC:i<s.length:=by omega
  have c:=zZ s i;have d:n<72057594037927936:=by
   have:(256:Nat)^i<=256^7:=wH (by omega) (by omega);omega
  have aM:gB .u64 (n:Int) 256=((n*256:Nat):Int):=uo (b:=256) (by omega);rw[pa,bA,ae (aP aC),aM,re,hA,su (by omega),bE,Ih hs k (i+1) _ (by omega) (by rw[yH];omega),eF aC 0];rfl
def gD(s:ak):Option Nat:=if s.head?=some 0\/8<s.length then none else some (gh 0 s)
theorem DX{s:ak}{n:Nat}(h:gD s=some n):n<18446744073709551616:=by
 unfold gD at h;split at h
 . cases h
 . rename_i aa;cases h;have:=Sc s 0 0 (by simp);have a:(256:Nat)^(0+s.length)<=256^8:=wH (by omega) (by omega);omega
theorem DC{s:ak}(h:s≠[]):(fw s 0=0)↔s.head?=some 0:=by
 cases s with
 |nil=>exact absurd rfl h
 |cons c s=>
  have:fw (c::s) 0=(c.toNat:Int):=re (c::s) 0;rw[this];simp only[List.head?_cons,dp];constructor
  . intro h;exact UInt8.toNat_inj.1 (by simpa using h)
  simp_all
theorem acK(s:ak):∃r,ua s=some r/\(r.2=0->∃n,gD s=some n/\r.1=(n:Int))/\(r.2≠0->gD s=none):=by
 rw[ua];simp only[aU,ao];by_cases h0:s=[]
 . subst h0;have aM:mF ([],0,((([]:ak)).length:Int),0)=some ((gh 0 []:Nat):Int):=zx (s:=[]) (by simp) 0 0 0 rfl (by simp);refine⟨(((gh 0 []:Nat):Int),0),?_,λ_=>⟨0,rfl,rfl⟩,λh=>absurd rfl h⟩;grind
 . have e:0<s.length:=uz.2 h0;have d:aH 0 s.length=true:=aP (k:=0) e;have c:(!(decide (s=[])))=true:=(by simp[h0]);rw[c,d];simp only[Cg,b5,ev];by_cases a:fw s 0=0
   . rw[ae (by simp[a])];refine⟨_,rfl,λh=>(by cases h),λ_=>?_⟩;unfold gD;rw[ae (.inl ((DC h0).1 a))]
   . rw[al (by simp[a])];by_cases b:8<s.length
     . rw[bA];refine⟨_,rfl,λh=>(by cases h),λ_=>?_⟩;unfold gD;rw[ae (.inr b)]
     . have aM:mF (s,0,(s.length:Int),0)=some ((gh 0 s:Nat):Int):=zx (by omega) s.length 0 0 (by omega) (by simp);rw[ch,aM];refine⟨_,rfl,λ_=>⟨gh 0 s,?_,rfl⟩,λh=>absurd rfl h⟩;unfold gD;rw[al]
       rintro (h|h)
       . exact a ((DC h0).2 h)
       omega
theorem aaU(s:ak):∃r,ua s=some r/\C5 s=some r/\(r.2=0->∃n,gD s=some n/\r.1=(n:Int))/\(r.2≠0->gD s=none):=by
 rw[ua,C5];simp only[aU,ao];by_cases h0:s=[]
 . subst h0;have aM:mF ([],0,((([]:ak)).length:Int),0)=some ((gh 0 []:Nat):Int):=zx (s:=[]) (by simp) 0 0 0 rfl (by simp);have c:pa ([],0,0)=some ((gh 0 []:Nat):Int):=Ih (s:=[]) (by simp) 0 0 0 rfl (by simp);refine⟨(((gh 0 []:Nat):Int),0),?_,?_,λ_=>⟨0,rfl,rfl⟩,λh=>absurd rfl h⟩
   . grind
   grind
 . have i:0<s.length:=uz.2 h0;have g:aH 0 s.length=true:=aP (k:=0) i;have e:decide ((0:Int)<(s.length:Int))=true:=by simp;omega
   have f:(!(decide (s=[])))=true:=(by simp[h0]);rw[e,f,g];simp only[Cg,b5,ev];by_cases b:fw s 0=0
   . have a:decide (fw s 0=0)=true:=(by simp[b]);rw[ae a,ae a];refine⟨_,rfl,rfl,λh=>(by cases h),λ_=>?_⟩;unfold gD;rw[ae (.inl ((DC h0).1 b))]
   . have a:¬(decide (fw s 0=0)=true):=(by simp[b]);rw[al a,al a];by_cases d:8<s.length
     . have:decide ((8:Int)<(s.length:Int))=true:=by simp;omega
       rw[ae this,ae this];refine⟨_,rfl,rfl,λh=>(by cases h),λ_=>?_⟩;unfold gD;rw[ae (.inr d)]
     . have:¬(decide ((8:Int)<(s.length:Int))=true):=by simp;omega
       rw[al this,al this];have aM:mF (s,0,(s.length:Int),0)=some ((gh 0 s:Nat):Int):=zx (by omega) s.length 0 0 (by omega) (by simp);have c:pa (s,0,0)=some ((gh 0 s:Nat):Int):=Ih (by omega) s.length 0 0 (by omega) (by simp);rw[aM,c];refine⟨_,rfl,rfl,λ_=>⟨gh 0 s,?_,rfl⟩,λh=>absurd rfl h⟩;unfold gD;rw[al]
       rintro (h|h)
       . exact b ((DC h0).2 h)
       omega
def h'(n:Nat):Int:=if n%2=0 then((n/2:Nat):Int)else -((n/2:Nat):Int)-1
theorem acL{n:Int}(h:cw n):h' (fE n).toNat=n:=by
 unfold h' fE cw at*;omega
theorem adM{n:Nat}(h:n<18446744073709551616):C2 (n:Int)=some (h' n):=by
 rw[C2];have aM:b6 (n:Int) 2=((n%2:Nat):Int):=AK (b:=2);have a:fC .u64 (n:Int) 2=((n/2:Nat):Int):=uD h;rw[aM,a,jD];unfold h';by_cases h0:n%2=0
 . grind
 . have di:dq .i64 0 ((n/2:Nat):Int)= -((n/2:Nat):Int):=by rw[hK];omega
   rw[ch,al h0,di,hK]
theorem aeU{n:Nat}(h:n<18446744073709551616):Bj .u64 (n:Int) 1=((n%2:Nat):Int):=by
 have e:(BitVec.ofInt 64 (n:Int) &&& BitVec.ofInt 64 (1:Int)).toNat=n%2:=by grind
 show IntKind.u64.wrap (((BitVec.ofInt 64 (n:Int) &&& BitVec.ofInt 64 (1:Int)).toNat:Nat):Int)=_;rw[e];exact kV
theorem ahN{n:Nat}:lG .u64 (n:Int) 1=((n/2:Nat):Int):=by
 unfold lG;have:((2:Int)^min (1:Int).toNat IntKind.u64.bits)=2:=by decide
 grind
theorem abM(h:a<9223372036854775808):uM .i64 (a:Int) 0=(a:Int):=by
 have e:(BitVec.ofInt 64 (a:Int) ^^^ BitVec.ofInt 64 (0:Int)).toNat=a:=by grind
 show IntKind.i64.wrap (((BitVec.ofInt 64 (a:Int) ^^^ BitVec.ofInt 64 (0:Int)).toNat:Nat):Int)=_;rw[e,IntKind.wrap_i64];omega
theorem abN(h:a<9223372036854775808):uM .i64 (a:Int) (-1)= -(a:Int)-1:=by
 have e:(BitVec.ofInt 64 (a:Int) ^^^ BitVec.ofInt 64 (-1:Int)).toNat=18446744073709551615-a:=by
  have h1:BitVec.ofInt 64 (-1:Int)=BitVec.allOnes 64:=by decide
  rw[h1,wG,BitVec.xor_allOnes,BitVec.toNat_not,wJ,w5,ow (by omega)]
 all_goals (try omega)
 show IntKind.i64.wrap (((BitVec.ofInt 64 (a:Int) ^^^ BitVec.ofInt 64 (-1:Int)).toNat:Nat):Int)=_;rw[e,IntKind.wrap_i64];omega
theorem adN{n:Nat}(h:n<18446744073709551616):CI (n:Int)=some (h' n):=by
 rw[CI,ahN,aeU h,jD,jD,hK];unfold h';by_cases h0:n%2=0
 . rw[ae h0,h0];have:(0:Int)-((0:Nat):Int)=0:=rfl;rw[this,abM (by omega)]
 . have h1:n%2=1:=(by omega);rw[al h0,h1];have:(0:Int)-((1:Nat):Int)= -1:=rfl;rw[this,abN (by omega)]
def ia(p:ak):Option (List ak):=match ll p with
 |some (l,e)=>if e=0 then some l else none
 |none=>none
def iO(p:ak):Option (List cS):=match lV p with
 |some (l,e)=>if e=0 then some l else none
 |none=>none
def jB(p:ak):Option (Int×ak):=match l0 p with
 |some (id,q,e)=>if e=0 then some (id,q)else none
 |none=>none
theorem MH:∀(n:Nat) (s:ak) (b l:List ak),s.length<=n->s.length+b.length<=100000->hG (s,b)=some (.inr l)->∀q,q∈l->q∈b\/q.length<=s.length
 |n,s,b,l,aG,f,h=>by
  rw[hG]at h;by_cases h0:s=[]
  . grind
  . rw[ae (by simp[h0]),l5]at h;simp only[aU,ao]at h;cases a:iA s with
    |none=>
     rw[a]at h;simp[dS]at h
    |some r=>
     obtain⟨x,c⟩:=r;rw[a]at h;have af:=nS a;have d:¬((!(dS (some (x,c))).2.2)=true):=(by simp[dS]);have ag:room 16 (b++[(dS (some (x,c))).1]).length=true:=cN;rw[al d,ae ag]at h;intro q e
     match n,aG with
     |0,aG=>omega
     |n+1,aG=>
      have:=MH n c _ l (by omega) (by simp;omega) h q e;rcases this with h|h
      . rcases hQ.1 h with h|h
        . exact .inl h
        . right;have:q=x:=(by simpa[dS]using h);grind
      omega
theorem Kk:∀(n:Nat) (s:ak) (last:Nat) (b l:List cS),s.length<=n->s.length+b.length<=100000->gb ((last:Int),s,b)=some (.inr l)->
 ∃c,l=b++c/\(∀f,f∈c->f.Data.length<=s.length/\(last:Int)<f.ad/\f.ad<=1000)/\c.Pairwise (λa b=>a.ad<b.ad)
 |n,s,last,b,l,aG,u,h=>by
  rw[gb]at h;by_cases h0:s=[]
  . simp_all
  . rw[ae (by simp[h0])]at h;rcases lI s with⟨e,he,aq⟩|⟨m,k,aq,w,j,o⟩
    . rw[oa he aq]at h;simp at h
    . rw[l4 aq j]at h;simp only[aU,ao,uD o]at h;by_cases v:((m/2:Nat):Int)<=(last:Int)\/1000<((m/2:Nat):Int)
      . grind
      . have:¬((bif bif (!true)then true else decide (((m/2:Nat):Int)<=(last:Int))then true else decide (1000<((m/2:Nat):Int)))=true):=(by grind);rw[al this,l5 (by rw[mb];omega)]at h;simp only[ao]at h;cases g:iA (s.drop k)with
        |none=>
         rw[g]at h;simp[dS]at h
        |some r=>
         obtain⟨x,d⟩:=r;rw[g]at h;have af:=nS g;rw[mb]at af;have p:¬((!(dS (some (x,d))).2.2)=true):=(by simp[dS]);have q:bU .i64 ((m/2:Nat):Int)=((m/2:Nat):Int):=jD;rw[al p,q]at h;have ag:room 32 (b++[(⟨((m/2:Nat):Int),decide (b6 (m:Int) 2=1),(dS (some (x,d))).1⟩:cS)]).length=true:=cN;rw[ae ag]at h
         match n,aG with
         |0,aG=>omega
         |n+1,aG=>
          obtain⟨c,e,h1,t⟩:=Kk n d (m/2) _ l (by omega) (by simp;omega) h;refine⟨⟨((m/2:Nat):Int),decide (b6 (m:Int) 2=1),(dS (some (x,d))).1⟩::c,by rw[e];simp,λf i=>?_,?_⟩
          . rcases eK.1 i with rfl|i
            . refine⟨by show x.length<=_;omega,by show(last:Int)<((m/2:Nat):Int);omega,by show((m/2:Nat):Int)<=1000;omega⟩
            grind
          grind
theorem th(b:p.length<=90000):∃o,ll p=some o/\(o.2=0->ia p=some o.1/\(∀q,q∈o.1->q.length<=p.length)/\o.1.length<=p.length)/\(o.2≠0->ia p=none):=by
 obtain⟨o,h1,a⟩:=acG b;refine⟨o,h1,λh0=>⟨?_,?_,a⟩,λh0=>?_⟩
 . unfold ia;rw[h1];grind
 . obtain⟨d,a1,_⟩:=Ia p.length p [] (by omega) (by simp;omega);rw[ll,a1]at h1;cases d with
   |inl e=>grind
   |inr l=>
    have:o=(l,0):=(mc h1).symm;subst this;intro q c;rcases MH p.length p [] l (by omega) (by simp;omega) a1 q c with h|h
    . cases h
    . exact h
 . unfold ia;rw[h1];grind
theorem Kl(a:p.length<=90000):∃o,ll p=some o/\vo p=some o/\(o.2=0->ia p=some o.1/\(∀q,q∈o.1->q.length<=p.length)/\o.1.length<=p.length)/\(o.2≠0->ia p=none):=by
 obtain⟨o,h1,b⟩:=th a;exact⟨o,h1,by rw[acH a,h1],b⟩
theorem Em(k:p.length<=90000):∃o,lV p=some o/\(o.2=0->iO p=some o.1/\(∀f,f∈o.1->f.Data.length<=p.length/\cn f.ad)/\o.1.Pairwise (λa b=>a.ad<b.ad)/\o.1.length<=p.length)/\(o.2≠0->iO p=none):=by
 obtain⟨o,h1,i⟩:=aan k;obtain⟨d,a1,_⟩:=Lr p.length p 0 [] (by omega) (by simp;omega);have key:o.2=0->(∀f,f∈o.1->f.Data.length<=p.length/\cn f.ad)/\o.1.Pairwise (λa b=>a.ad<b.ad):=by
  intro h0;have c:=h1;have g:gb (0,p,[])=some d:=a1;rw[lV,g]at c;cases d with
  |inl e=>
   have:o=([],e):=(mc c).symm;simp_all
  |inr l=>
   have:o=(l,0):=(mc c).symm;subst this;obtain⟨m,e,b1,b2⟩:=Kk p.length p 0 [] l (by omega) (by simp;omega) a1;have:l=m:=(by simpa using e);subst this;exact⟨λf j=>by have:=b1 f j;exact⟨this.1,by omega,this.2.2⟩,b2⟩
 refine⟨o,h1,λh0=>⟨?_,(key h0).1,(key h0).2,i⟩,λh0=>?_⟩
 . unfold iO;rw[h1];grind
 . unfold iO;rw[h1];grind
theorem Y4(c:p.length<=90000):∃o,lV p=some o/\yM p=some o/\(o.2=0->iO p=some o.1/\(∀f,f∈o.1->f.Data.length<=p.length/\cn f.ad)/\o.1.Pairwise (λa b=>a.ad<b.ad)/\o.1.length<=p.length)/\(o.2≠0->iO p=none):=by
 obtain⟨o,h1,d⟩:=Em c;exact⟨o,h1,by rw[abx c,h1],d⟩
theorem IW(p:ak):∃o,l0 p=some o/\(o.2.2=0->jB p=some (o.1,o.2.1)/\o.2.1.length<=p.length/\cn o.1)/\(o.2.2≠0->jB p=none):=by
 obtain⟨o,h1⟩:=ad1 p;have key:o.2.2=0->o.2.1.length<=p.length/\cn o.1:=by
  intro h0;have a:=h1;rw[l0]at a;rcases lI p with⟨e,he,aq⟩|⟨m,k,aq,f,c,g⟩
  . rw[oa he aq]at a;grind
  . rw[l4 aq c]at a;simp only[aU,ao]at a;by_cases d:(m:Int)<1\/1000<(m:Int)
    . grind
    . have b:¬((bif bif (!true)then true else decide ((m:Int)<1)then true else decide (1000<(m:Int)))=true):=(by grind);rw[al b,jD]at a;have:o=((m:Int),p.drop k,0):=(mc a).symm;subst this;exact⟨by show(p.drop k).length<=_;rw[mb];omega,by omega,by show(m:Int)<=1000;omega⟩
 refine⟨o,h1,λh0=>⟨?_,(key h0).1,(key h0).2⟩,λh0=>?_⟩
 . unfold jB;rw[h1];grind
 . unfold jB;rw[h1];grind
theorem acg(p:ak):∃o,l0 p=some o/\zo p=some o/\(o.2.2=0->jB p=some (o.1,o.2.1)/\o.2.1.length<=p.length/\cn o.1)/\(o.2.2≠0->jB p=none):=by
 obtain⟨o,h1,a⟩:=IW p;obtain⟨b,a1,a2⟩:=ad2 p;rw[h1]at a1;rw[<-mc a1]at a2;exact⟨o,h1,a2,a⟩
theorem I6:∀(s:ak) (n:Nat) (b:UInt8),gh n (s++[b])=gh n s*256+b.toNat
 |[],n,b=>by simp[gh]
 |a::s,n,b=>by
  simp only[uA,gh];exact I6 s _ b
theorem acM(n:Nat):gh 0 (fb n)=n:=by
 induction n using Nat.strongRecOn with
 |ind n ih=>
  rw[fb];split
  . rename_i h;subst h;rfl
  . rw[I6,ih (n/256) (by omega),ln];omega
theorem abO:∀(n:Nat),¬(fb n).head?=some 0:=by
 intro n;induction n using Nat.strongRecOn with
 |ind n ih=>
  rw[fb];split
  . simp
  . rename_i h;have:=ih (n/256) (by omega);by_cases f:n<256
    . have:n/256=0:=(by omega);rw[this,fb,ae rfl];simp only[fT,List.head?_cons,dp];intro d;have c:=ee UInt8.toNat d;rw[ln]at c;grind
    . have e:fb (n/256)≠[]:=by rw[fb,bx];simp
      cases b:fb (n/256)with
      |nil=>exact absurd b e
      |cons a l=>rw[b]at this;simpa using this
theorem ND{n:Nat}(h:n<18446744073709551616):gD (fb n)=some n:=by
 unfold gD;have h1:=abO n;have a:=vU 8 n (by rw[adL];exact h)
 rw [al (by rintro (h|h)
            . exact h1 h
            . omega),acM]
theorem acN{a b:List bX}(c:a.Pairwise (λx y=>x.ad<y.ad))(d:b.Pairwise (λx y=>x.ad<y.ad))(h:∀x,x∈a↔x∈b):a=b:=by
 have g:a.Nodup:=c.imp λ{x y} h e=>by subst e;omega
 have i:b.Nodup:=d.imp λ{x y} h e=>by subst e;omega
 have f:a.Perm b:=(List.perm_ext_iff_of_nodup g i).2 h;exact List.Perm.eq_of_pairwise (le:=λx y:bX=>x.ad<y.ad) (λx y _ _ h1 j=>by omega) c d f
theorem ach{l m:List I}(af:l.length=m.length)(h:∀i,i<l.length->l.getD i av=m.getD i av):l=m:=by
 apply B8 af;grind
theorem Y5(p:ak):p.length<=(c7 p).length:=by unfold c7;rw[cm];omega
theorem DE:∀{l:List ak},p∈l->p.length<=(l.flatMap c7).length
 |q::l,h=>by
  rw[eZ,cm];rcases eK.1 h with rfl|h
  . have:=Y5 p;omega
  . have:=DE h;omega
theorem Dp{ts:List ai}:∀{ms:List aS} {l:List I} {x:Fd},x∈dm ts ms l->∃j,j<ms.length/\j<l.length/\dc (ms.getD j aB) (l.getD j av)=false/\x=⟨(ms.getD j aB).ad.toNat,(ms.getD j aB).cg,bp ts (ms.getD j aB).aw (l.getD j av)⟩
 |[],l,x,h=>by
  rw[dm]at h
  . cases h
  grind
 |m::ms,[],x,h=>by
  rw[dm]at h
  . cases h
  grind
 |m::ms,v::l,x,h=>by
  rw[dm]at h;split at h
  . obtain⟨j,h1,a,b,c⟩:=Dp h;exact⟨j+1,by simpa using h1,by simpa using a,by simpa using b,by simpa using c⟩
  . rename_i d;rcases eK.1 h with rfl|h
    . exact⟨0,by simp,by simp,by simpa using d,rfl⟩
    . obtain⟨j,h1,a,b,c⟩:=Dp h;exact⟨j+1,by simpa using h1,by simpa using a,by simpa using b,by simpa using c⟩
theorem qR(h:gQ ms){a b:aS}(c:a∈ms)(d:b∈ms)(e:a.ad=b.ad):a=b:=by
 obtain⟨i,f,rfl⟩:=e3 c;obtain⟨j,g,rfl⟩:=e3 d;have key:=rW.1 h.1;grind
theorem j'{m:aS}(h:cB ms id=some m):m∈ms/\m.ad=id:=
 ⟨BY h,by simpa using List.find?_some h⟩
theorem NF(c:gQ ms){m:aS}(h:m∈ms):cB ms m.ad=some m:=by
 cases a:cB ms m.ad with
 |none=>exact absurd rfl (nQ a m h)
 |some q=>
  obtain⟨h1,b⟩:=j' a;rw[qR c h1 h b]
theorem tI{ts:List ai}{t:Int}:∀{l:List I} {x:I},x∈l->dJ ts t x<=dD ts t l
 |v::l,x,h=>by
  rw[dD];rcases eK.1 h with rfl|h
  . omega
  . have:=tI (ts:=ts) (t:=t) h;omega
theorem HU{ts:List ai}:∀{ms:List aS} {l:List I} {j:Nat},j<ms.length->j<l.length->dc (ms.getD j aB) (l.getD j av)=false->dJ ts (ms.getD j aB).aw (l.getD j av)<=fc ts ms l
 |m::ms,v::l,0,_,_,a=>by
  simp only[jy]at a⊢;rw[fc,al (by rw[a];simp)];omega
 |m::ms,v::l,j+1,h1,b,a=>by
  simp only[wI]at a⊢;have:=HU (ts:=ts) (by simpa using h1) (by simpa using b) a;rw[fc];grind
theorem Oi{l:List ak}(h:(l.flatMap c7).length<=90000):ia (l.flatMap c7)=some l:=by
 have af:=KN l;have:=NC l [] (by omega) (by simp;omega);unfold ia;rw[ll,this];rfl
theorem aci{l:List Fd}(d:l.Pairwise (λa b=>a.id<b.id))(ag:∀f,f∈l->1<=f.id/\f.id<=1000)(h:(l.flatMap Fd.text).length<=90000):iO (l.flatMap Fd.text)=some (l.map o1):=by
 have af:=KO l;have bw:=ME l 0 [] d (λf h=>⟨by have:=ag f h;omega,(ag f h).2⟩) (by omega) (by simp;omega);have c:gb (0,l.flatMap Fd.text,[])=some (.inr (l.map o1)):=by simpa using bw
 unfold iO;rw[lV,c];rfl
theorem PH{n:Nat}(h:1<=n/\n<=1000)(c:ak):jB (dQ n++c)=some ((n:Int),c):=by
 unfold jB;have d:=l4 (I4 (n:=n) (by omega) c) (by simp);rw[l0,d];simp only[aU,ao];have a:¬(n:Int)<1:=by omega
 have b:¬(1000:Int)<(n:Int):=by omega
 rw[al (by simp only[a,b,db,dk,dW,bZ,not_false_eq_true]),jD];simp
theorem LD{l:List I}{i:Nat}(h:i<l.length):(bt ts t l).getD i []=bp ts t (l.getD i av):=by
 rw[DB,hY (bp ts t) l i av [] h]
theorem IX{b n r:Nat}(h:a=1+max n b)(ag:a<=r+1)(d:c<=b):c<=r:=by omega
theorem acO{b r:Nat}(h:a=1+max 1 b)(ag:a<=r+1)(d:c=1):c<=r:=by omega
def sn(ts:List ai)(t:Int)(v:I):Prop:=bY ts false t v/\bJ v/\wt v<=2147483648
theorem acj{a:I}(h:bJ a)(b:I):eW (CD (a,b)) a b:=by
 obtain⟨r,h1,c⟩:=D3 h b;refine⟨r,?_,c⟩;rw[CD];simp only[I.aV];rw[h1];rfl
theorem ack{a:I}(h:bJ a)(b:I):eW (pD (a,b)) a b:=Kz h b
mutual
def cO:I->I
 |⟨k,b,i,s,id,ks,a,r⟩=>⟨k,b,i,s,id,ks,AZ a,if k=5 then[]else r⟩
def AZ:List I->List I
 |[]=>[]
 |v::l=>cO v::AZ l
end
theorem KP:∀l:List I,AZ l=l.map cO
 |[]=>by rw[AZ];rfl
 |v::l=>by rw[AZ,KP l];rfl
theorem mP(v:I):cO v=⟨v.Kind,v.bN,v.bd,v.bl,v.ad,v.ay,v.aj.map cO,if v.Kind=5 then[]else v.Rest⟩:=by
 cases v;rw[cO,KP]
theorem Oj{l:List bX}(h:l.Pairwise λa b=>a.ad<b.ad)(n:Nat)(h1:∀x,x∈l->1<=x.ad/\x.ad<=n):l.length<=n:=by
 have key:∀(l:List bX) (m:Int),l.Pairwise (λa b=>a.ad<b.ad)->(∀x,x∈l->m<x.ad/\x.ad<=n)->m<=n->(l.length:Int)<=n-m:=by
  intro l;induction l with
  |nil=>intro m _ _ h;simp;omega
  |cons x l ih=>
   intro m e d aG;have c:=d x (.head _);have:=ih x.ad (h5.1 e).2 (λy f=>⟨(h5.1 e).1 y f,(d y (.tail _ f)).2⟩) c.2;rw[gi];omega
 have:=key l 0 h (λx c=>⟨by have:=h1 x c;omega,(h1 x c).2⟩) (by omega);omega
section
variable {ts:List ai}
theorem abU(H:c8 ts)(j:bY ts pl t v):v.ay.length<=20/\v.aj.length<=20/\v.Rest.length<=1000:=by
 obtain⟨⟨l,m,n,o⟩,i⟩:=(eJ _ _ _).1 j;have e:=bg (by omega:t.toNat<ts.length) aJ;generalize q:ts.getD t.toNat aJ=x at*;have p:=H.M x e;have g:=H.cv x e;rcases i with h|h|h|h|h|h|h|h|h
 . obtain⟨a1,a2,a3,a4,a5,a,b⟩:=h;rw[a5,a,b];simp
 . obtain⟨a1,a2,a3,a4,a5,a,b,c⟩:=h;rw[a5,a,b];simp
 . obtain⟨a1,a2,a3,a4,a5,a,b,c⟩:=h;rw[a5,a,b];simp
 . obtain⟨a1,a2,a3,a4,a5,a,b,c⟩:=h;rw[a5,a,b];simp
 . obtain⟨a1,a2,a3,a4,a5,a,b,c⟩:=h;have:=(hJ.1 c).1;refine⟨by rw[a];simp,by have:=g.2.2;omega,Oj b.1 1000 λy k=>?_⟩;have:=(b.2 y k).1;unfold cn at this;omega
 . obtain⟨a1,a2,a3,a4,a5,a⟩:=h;split at a
   . obtain⟨b1,b2,b3⟩:=a;rw[a5,b1,b2];simp
   . obtain⟨b1,b2,b3,b4,d,f⟩:=a;rw[a5,b4,f];simp
 . obtain⟨a1,a2,a3,a4,a5,a,b,c,a9⟩:=h;rw[a,b];simp;omega
 . obtain⟨a1,a2,a3,a4,a5,a,b,c,a9⟩:=h;rw[a];simp;omega
 . obtain⟨a1,a2,a3,a4,a5,a,b,c,a9⟩:=h;rw[a,b];simp;omega
structure EZ (ts:List ai):Prop where
 T:∀t,t∈ts->e1 t
 V:ns ts
theorem c8.g(H:c8 ts):EZ ts:=⟨H.T,H.V⟩
inductive np:I->Prop
 |mk (v:I) (k:v.ay.length<=1000) (i:v.aj.length<=1000) (BP:∀x,x∈v.aj->np x):np v
theorem np.items(h:np v):∀x,x∈v.aj->np x:=by
 cases h with
 |mk _ _ _ h=>exact h
theorem Ol(f:np v)(j:bY ts pl t v):v.ay.length<=1000/\v.aj.length<=1000/\v.Rest.length<=1000:=by
 have⟨k,i⟩:v.ay.length<=1000/\v.aj.length<=1000:=by cases f with|mk _ k i _=>exact⟨k,i⟩
 refine⟨k,i,?_⟩;obtain⟨_,g⟩:=(eJ _ _ _).1 j;rcases g with h|h|h|h|h|h|h|h|h
 . rw[h.2.2.2.2.2.2];simp
 . rw[h.2.2.2.2.2.2.1];simp
 . rw[h.2.2.2.2.2.2.1];simp
 . rw[h.2.2.2.2.2.2.1];simp
 . obtain⟨a1,a2,a3,a4,a5,a,b,c⟩:=h;refine Oj b.1 1000 λy l=>?_;have:=(b.2 y l).1;unfold cn at this;omega
 . obtain⟨a1,a2,a3,a4,a5,a⟩:=h;split at a
   . obtain⟨b1,b2,b3⟩:=a;rw[b1];simp
   . obtain⟨b1,b2,b3,b4,d,e⟩:=a;rw[e];simp
 . rw[h.2.2.2.2.2.2.1];simp
 . obtain⟨a1,a2,a3,a4,a5,a,b,c,a9⟩:=h;rw[a];simp
 . rw[h.2.2.2.2.2.2.1];simp
def gZ(x:ai)(v:I)(i:Nat):Int:=if x.Kind=5 then(x.ah.getD i aB).aw else if x.Kind=6 then((cB x.ah v.ad).getD aB).aw else x.aF
def ql(x:ai)(v:I)(i:Nat):Int:=if x.Kind=5 then(x.ah.getD i aB).ad else if x.Kind=6 then v.ad else i
theorem zy(j:bY ts pl t v):∀i,i<v.aj.length->bY ts pl (gZ (ts.getD t.toNat aJ) v i) (v.aj.getD i av):=by
 obtain⟨⟨n,o,p,q⟩,g⟩:=(eJ _ _ _).1 j;generalize r:ts.getD t.toNat aJ=x at*;intro i a;have d:=bg a av;unfold gZ;rcases g with h|h|h|h|h|h|h|h|h
 . rw[h.2.2.2.2.2.1]at a;cases a
 . rw[h.2.2.2.2.2.1]at a;cases a
 . rw[h.2.2.2.2.2.1]at a;cases a
 . rw[h.2.2.2.2.2.1]at a;cases a
 . obtain⟨a1,a2,a3,a4,a5,b,e,c⟩:=h;rw[fz];obtain⟨b1,b2⟩:=hJ.1 c;exact b2 i (by omega)
 . obtain⟨a1,a2,a3,a4,a5,b⟩:=h;rw[bx,fz];split at b
   . rename_i m k;rw[k];exact cF.1 b.2.2 _ d
   . rw[b.2.2.2.1]at a;cases a
 . obtain⟨a1,a2,a3,a4,a5,b,e,c,a9⟩:=h;rw[bx,bx];exact cF.1 a9 _ d
 . obtain⟨a1,a2,a3,a4,a5,b,e,c,a9,f,l⟩:=h;rw[bx,bx];exact cF.1 f _ d
 . obtain⟨a1,a2,a3,a4,a5,b,e,c,a9⟩:=h;rw[bx,bx];exact cF.1 a9 _ d
theorem abV(f:α->α)(l:List α){i:Nat}(a:i<l.length)(d:α):((l.take i).map f++l.drop i).set i (f (l.getD i d))=(l.take (i+1)).map f++l.drop (i+1):=by
 rw[du a];have h1:((l.take i).map f).length=i:=by simp;omega
 rw[List.set_append_right _ _ (by omega),h1,Cb,lB a,List.set_cons_zero,F0,r2,e' a,ir];rfl
theorem abW(f:α->α)(l:List α){i:Nat}(a:i<l.length)(d:α):((l.take i).map f++l.drop i).getD i d=l.getD i d:=by
 have h1:((l.take i).map f).length=i:=by simp;omega
 rw[FM,wF (by omega),h1,Cb,lB a,du a];rfl
theorem Kc{l:List I}(af:l.length<=1000)(h:∀y,y∈l->pk y=some (cO y)){a0 a2 a4 b0 b4:Int}{b1:Bool}{b3:ak}{r:List bX}:∀(k i:Nat),i+k=l.length->
 rr ((i:Int),a0,a1,a2,a3,a4,r,b0,b1,b2,b3,b4,ks,(l.take i).map cO++l.drop i)=some (a0,a1,a2,a3,a4,r,b0,b1,b2,b3,b4,ks,l.map cO)
 |0,i,a=>by
  rw[rr,ch,qd (by omega),en (by omega),lD]
 |k+1,i,a=>by
  have aC:i<l.length:=by omega
  have aG:((l.take i).map cO++l.drop i).length=l.length:=by simp;omega
  rw[rr,aG,bA,ae (aP aC),a7,bA,abW cO l aC av];simp only[I.aV];rw[h _ (bg aC av)];simp only[aU,ao,I.aV];rw[ae (aP aC),bA,abV cO l aC av,bE];exact Kc af h k (i+1) (by omega)
theorem acP(H:c8 ts)(d:bJ v):∀{pl:Bool} {t:Int},bY ts pl t v->np v:=by
 induction d with
 |mk v hs h1 f g k j l c' p q r m e=>
  intro pl t a;obtain⟨n,l2,o⟩:=abU H a;exact .mk v (by omega) (by omega) λy c=>by
   obtain⟨i,b,rfl⟩:=e3 c;have:=zy a i b;rw[du b]at this;exact e _ c this
theorem abP(f:bJ v):∀t,np v->bY ts false t v->pk v=some (cO v):=by
 induction f with
 |mk v hs h1 k m o n p c' w x z q g=>
  intro t b c;obtain⟨s,l2,u⟩:=Ol b c;have j:∀y,y∈v.aj->pk y=some (cO y):=λy a=>by
   obtain⟨i,d,rfl⟩:=e3 a;have:=zy c i d;rw[du d]at this;exact g _ a _ (b.items _ a) this
  have e:C' v=some (v.Kind,v.bN,v.bd,v.bl,v.ad,v.ay,v.aj,v.Rest):=by
   rw[C'];simp only[fT];rw[ae (cN (by omega) (by omega)),ae (cN (by omega) (by omega)),ae (cN (by omega) (by omega))]
  rw[pk];simp only[I.aV];rw[e,mP];simp only[aU,ao];have L:=λ(r:List bX)=>Kc (l:=v.aj) (by omega) j (a0:=v.Kind) (a1:=v.bN) (a2:=v.bd) (a3:=v.bl) (a4:=v.ad) (b0:=0) (b1:=false) (b2:=0) (b3:=[]) (b4:=0) (r:=r) (ks:=v.ay) v.aj.length 0 (by omega);have L':∀r:List bX,rr (0,v.Kind,v.bN,v.bd,v.bl,v.ad,r,0,false,0,[],0,v.ay,v.aj)=_:=L;by_cases bc:v.Kind=5
  . rw[ae (by simp[bc]),L',ae bc];rfl
  . rw[al (by simp[bc]),L',al bc];rfl
def qw(x:ai)(v:I):Prop:=x.Kind=4->∃y,y∈x.bh/\y.ad=v.ad
theorem KQ(d:e1 x)(v:I):∃b,mM (x,v)=some b/\(b=false↔qw x v):=by
 rw[mM];unfold qw;by_cases a:x.Kind=4
 . rw[al (by simp[a])];obtain⟨r,g,_,k⟩:=q9 (t:=x) v.ad (by have:=d.1;have:=dB (dV reachBytes);omega);rw[g];refine⟨!r.2,rfl,?_⟩;rcases k with⟨j,e,f,n,rfl⟩|⟨q,rfl⟩
   . simp only[db,true_iff];exactλ_=>⟨_,bg e dL,f⟩
   . simp only[eV,Bool.true_eq_false,false_iff];intro h;obtain⟨y,l,m⟩:=h a;obtain⟨i,c,rfl⟩:=e3 l;exact absurd m (by have:=q i c;rwa [du c]at this)
 . rw[ae (by simp[a])];exact⟨false,rfl,by simp[a]⟩
theorem abQ(c9:∀t,t∈ts->e1 t)(af:v.ay.length<=1000)(c:v.ay≠[]->0<=x.Key/\x.Key<ts.length):∃b,Dl ((⟨ts⟩:aT),x,v)=some b/\(b=false↔∀k,k∈v.ay->qw (ts.getD x.Key.toNat aJ) k):=by
 have f:∀i,i<v.ay.length->∃b,mM (ts.getD x.Key.toNat aJ,v.ay.getD i av)=some b/\(b=false↔qw (ts.getD x.Key.toNat aJ) (v.ay.getD i av)):=λi a=>
  KQ (c9 _ (bg (by have:=c (by intro h;rw[h]at a;cases a);omega) aJ)) _
 have o:∀i,i<v.ay.length->CA (v.ay.getD i av,ts,x)=(mM (ts.getD x.Key.toNat aJ,v.ay.getD i av)).map λb=>(b,ts,x):=λi a=>by
  rw[CA];have q:=c (by intro h;rw[h]at a;cases a);rw[ae (by simp[aH];omega)];simp only[I.aV];cases mM (ts.getD x.Key.toNat aJ,v.ay.getD i av)<;>rfl
 have h:=qM (λi=>px (v.ay,(v.ay.length:Int),(i:Int),ts,x)) v.ay.length (λi=>(mM (ts.getD x.Key.toNat aJ,v.ay.getD i av))==some true) (λi=>.inl ((i:Int),ts,x)) (.inr (ts,x))
  (λi a=>by
   obtain⟨b,b1,_⟩:=f i a;rw[px,bA,ae (aP a),a7];simp only[I.aV];rw[o i a,b1];simp only[jV,aU,ao];rw[bE]
   cases b<;>simp)
  (by rw[px,bz])
 have cZ:px (v.ay,(v.ay.length:Int),((0:Nat):Int),ts,x)=px (v.ay,(v.ay.length:Int),0,ts,x):=rfl;simp only[cZ]at h;rw[Dl,GR,GW];rcases h with⟨j,h1,m,p,e⟩|⟨h1,e⟩
 . rw[e];refine⟨true,?_,?_⟩
   . have:decide ((0:Int)<=(j:Int))=true:=(by simp);simp only[aU,ao,this]
   . obtain⟨b,b1,b2⟩:=f j h1;have n:b=true:=by
      have g:(mM (ts.getD x.Key.toNat aJ,v.ay.getD j av)==some true)=true:=m;rw[b1]at g;simpa using g
     constructor
     . intro h;cases h
     . intro h;have:=b2.2 (h _ (bg h1 av));rw[n]at this;cases this
 . rw[e];refine⟨false,rfl,?_⟩;constructor
   . intro _ k c;obtain⟨i,a,rfl⟩:=e3 c;obtain⟨b,b1,b2⟩:=f i a;have l:(mM (ts.getD x.Key.toNat aJ,v.ay.getD i av)==some true)=false:=h1 i a;rw[b1]at l;have:b=false:=by cases b<;>simp_all
     rw[<-du a (d:=av)];exact b2.1 this
   . intro _;rfl
theorem Y6(e:gQ x.ah)(af:x.ah.length<=1000){m:aS}(bw:cB x.ah id=some m):∃j,j<x.ah.length/\hh (x,id)=some ((j:Int),true)/\x.ah.getD j aB=m:=by
 obtain⟨c,d⟩:=j' bw;obtain⟨r,g,k⟩:=vy (t:=x) (id:=id) (by omega);rcases k with⟨j,b,f,_,rfl⟩|⟨q,_⟩
 . exact⟨j,b,g,qR e (bg b aB) c (by rw[f,d])⟩
 . obtain⟨i,a,rfl⟩:=e3 c;exact absurd d (by have:=q i a;rwa [du a]at this)
def kU(x:ai)(v:I)(i:Nat):List iH:=(List.range i).map λj=>(⟨gZ x v j,ql x v j⟩:iH)
theorem abX(x:ai)(v:I)(i:Nat):kU x v i++[(⟨gZ x v i,ql x v i⟩:iH)]=kU x v (i+1):=by
 unfold kU;rw[List.range_succ,r2];rfl
theorem D8(x:ai)(v:I)(i:Nat):(kU x v i).length=i:=by unfold kU;simp
theorem acQ(x:ai)(v:I){i n:Nat}(h:i<n):(kU x v n).getD i Ha=⟨gZ x v i,ql x v i⟩:=by
 rw[du (by rw[D8];exact h)];unfold kU;simp
theorem NG(af:v.aj.length<=1000)(bc:x.Kind=5->v.aj.length<=x.ah.length)(b:x.Kind=6->0<v.aj.length->∃m,cB x.ah v.ad=some m)(a:x.Kind=6->gQ x.ah/\x.ah.length<=16):∀(k i:Nat),i+k=v.aj.length->
 nN ((v.aj.length:Int),(i:Int),x,v,kU x v i)=some (kU x v v.aj.length)
 |0,i,c=>by
  rw[nN,ch];have:i=v.aj.length:=by omega
  rw[this]
 |k+1,i,c=>by
  have ih:=NG af bc b a k (i+1) (by omega);have hs:=abX x v i;have ag:∀s:iH,room 16 (kU x v i++[s]).length=true:=λs=>cN (by omega) (by simp[D8];omega);rw[nN,bA,bE];simp only[aU,ao,I.aV];by_cases k5:x.Kind=5
  . have aC:i<x.ah.length:=by have:=bc k5;omega
    rw[ae (by simp[k5]),ae (aP aC),ae (aP aC),ae (ag _),a7];have e:(⟨(x.ah.getD i aB).aw,(x.ah.getD i aB).ad⟩:iH)=⟨gZ x v i,ql x v i⟩:=by unfold gZ ql;rw[ae k5,ae k5]
    rw[e,hs];exact ih
  . rw[al (by simp[k5])];by_cases k6:x.Kind=6
    . obtain⟨m,bw⟩:=b k6 (by omega);obtain⟨j,d,f,g⟩:=Y6 (a k6).1 (by have:=(a k6).2;omega) bw;rw[ae (by simp[k6]),f];simp only[ao];rw[ae (aP d),ae (ag _),a7,g];have e:(⟨m.aw,v.ad⟩:iH)=⟨gZ x v i,ql x v i⟩:=by unfold gZ ql;rw[al k5,ae k6,al k5,ae k6,bw];rfl
      rw[e,hs];exact ih
    . rw[al (by simp[k6]),ae (ag _)];have e:(⟨x.aF,(i:Int)⟩:iH)=⟨gZ x v i,ql x v i⟩:=by unfold gZ ql;rw[al k5,al k6,al k5,al k6]
      rw[e,hs];exact ih
theorem abR(H:iS ts)(d:bY ts pl t v)(af:v.aj.length<=1000):DO (ts.getD t.toNat aJ,v)=some (kU (ts.getD t.toNat aJ) v v.aj.length):=by
 obtain⟨⟨g,i,j,k⟩,b⟩:=(eJ _ _ _).1 d;have f:=bg (by omega:t.toNat<ts.length) aJ;generalize l:ts.getD t.toNat aJ=x at*;rw[DO];simp only[I.aV]
 have:= NG (x:= x) (v:= v) af (λk5=>by
  rcases b with h|h|h|h|h|h|h|h|h
  case inr.inr.inr.inr.inl=>have:=(hJ.1 h.2.2.2.2.2.2.2).1;omega
  all_goals (have:=h.1;omega)) (λk6 c=>by
  rcases b with h|h|h|h|h|h|h|h|h
  case inr.inr.inr.inr.inr.inl=>
   obtain⟨a1,a2,a3,a4,a5,a⟩:=h;split at a
   . rename_i m e;exact⟨m,e⟩
   . rw[a.2.2.2.1]at c;cases c
  all_goals (have:=h.1;omega)) (λk6=>H.A x f (.inr k6)) v.aj.length 0 (by omega)
 have h0:nN ((v.aj.length:Int),0,x,v,[])=_:=this;rw[h0];rfl
def zeroV:I:=⟨0,false,0,[],0,[],[],[]⟩
def DY(ts:List ai)(t:Int)(v:I):Prop:=∃b,(b=true↔bY ts true t (cO v))/\lY ((⟨ts⟩:aT),t,v)=some (if b then(cO v,true)else(zeroV,false))
theorem NH{x:ai}{v:I}(af:v.aj.length<=1000)(h:∀i,i<v.aj.length->DY ts (gZ x v i) (v.aj.getD i av)){z0 z2 z4 a0 a2 a4:Int}{z1 a1:Bool}{z3 a3:ak}{ks:List I}:∀(k i:Nat),i+k=v.aj.length->
 (q2 (kU x v v.aj.length,(v.aj.length:Int),(i:Int),ts,v,z0,z1,z2,z3,z4,a0,a1,a2,a3,a4,ks,(v.aj.take i).map cO)=some (.inr (z0,z1,z2,z3,z4,a0,a1,a2,a3,a4,ks,v.aj.map cO))/\∀j,i<=j->j<v.aj.length->bY ts true (gZ x v j) (cO (v.aj.getD j av)))\/
 (q2 (kU x v v.aj.length,(v.aj.length:Int),(i:Int),ts,v,z0,z1,z2,z3,z4,a0,a1,a2,a3,a4,ks,(v.aj.take i).map cO)=some (.inl (false,0,false,0,[],0))/\∃j,j<v.aj.length/\¬bY ts true (gZ x v j) (cO (v.aj.getD j av)))
 |0,i,f=>.inl ⟨by rw[q2,ch,qd (by omega)],λj h1 d=>by omega⟩
 |k+1,i,f=>by
  have aC:i<v.aj.length:=by omega
  obtain⟨b,b1,b2⟩:=h i aC;rw[q2,bA,ae (aP (by rw[D8];exact aC)),ae (aP aC),a7,acQ x v aC];simp only[I.aV];rw[b2];cases b with
  |false=>exact .inr ⟨rfl,i,aC,λq=>by have:=b1.2 q;cases this⟩
  |true=>
   have e:(v.aj.take i).map cO++[cO (v.aj.getD i av)]=(v.aj.take (i+1)).map cO:=by
    rw[F0,r2,e' aC,du aC];rfl
   simp only[aU,ao,b5,db,I.aV];rw[bz,ae (cN),bE,e];rcases NH af h (z0:=z0) (z1:=z1) (z2:=z2) (z3:=z3) (z4:=z4) (a0:=a0) (a1:=a1) (a2:=a2) (a3:=a3) (a4:=a4) (ks:=ks) k (i+1) (by omega)with⟨a,c⟩|⟨a,c⟩
   . refine .inl ⟨a,λj h1 d=>?_⟩;by_cases g:j=i
     . subst g;exact b1.1 rfl
     . exact c j (by omega) d
   . exact .inr ⟨a,c⟩
theorem abY{k:I}(g:bY ts false t k)(h1:1<=(ts.getD t.toNat aJ).Kind/\(ts.getD t.toNat aJ).Kind<=4)(i:qw (ts.getD t.toNat aJ) k):bY ts true t k:=by
 obtain⟨⟨a,b,c,l⟩,f⟩:=(eJ _ _ _).1 g;rw[eJ];rcases f with h|h|h|h|h|h|h|h|h
 . exact⟨⟨a,b,c,λ_=>h.2.2.2.2.2.2⟩,.inl h⟩
 . exact⟨⟨a,b,c,λ_=>h.2.2.2.2.2.2.1⟩,.inr (.inl h)⟩
 . exact⟨⟨a,b,c,λ_=>h.2.2.2.2.2.2.1⟩,.inr (.inr (.inl h))⟩
 . obtain⟨a1,a2,a3,a4,a5,e,d,j⟩:=h;exact⟨⟨a,b,c,λ_=>d⟩,.inr (.inr (.inr (.inl ⟨a1,a2,a3,a4,a5,e,d,.inl (i (by omega))⟩)))⟩
 all_goals (have:=h.1;omega)
theorem MI{k:I}(b:bY ts true t k):qw (ts.getD t.toNat aJ) k:=by
 obtain⟨⟨c,d,e,f⟩,a⟩:=(eJ _ _ _).1 b;intro g;rcases a with h|h|h|h|h|h|h|h|h
 case inr.inr.inr.inl=>
  rcases h.2.2.2.2.2.2.2 with h|h
  . exact h
  . cases h.2.1
 all_goals (have:=h.1;omega)
theorem abS(x:ai)(v:I)(j:Nat):gZ x (cO v) j=gZ x v j:=by
 unfold gZ;rw[mP]
theorem LF{l:List I}(h:j<l.length):(l.map cO).getD j av=cO (l.getD j av):=by
 rw[du h,du (by simpa using h)];simp
theorem abT(H:iS ts)(C:bY ts false t v):bY ts true t (cO v)↔
 qw (ts.getD t.toNat aJ) v/\(∀k,k∈v.ay->qw (ts.getD (ts.getD t.toNat aJ).Key.toNat aJ) k)/\¬((ts.getD t.toNat aJ).Kind=6/\v.aj.length=0)/\∀j,j<v.aj.length->bY ts true (gZ (ts.getD t.toNat aJ) v j) (cO (v.aj.getD j av)):=by
 obtain⟨⟨g,l,n,L⟩,B⟩:=(eJ _ _ _).1 C;have G:=bg (by omega:t.toNat<ts.length) aJ;constructor
 . intro h;have D:=zy h;have E:=MI h;have A:(cO v).ad=v.ad:=by rw[mP]
   have p:(cO v).ay=v.ay:=by rw[mP]
   have r:(cO v).aj=v.aj.map cO:=by rw[mP]
   obtain⟨⟨_,_,f3,f4⟩,s⟩:=(eJ _ _ _).1 h;refine⟨λz=>by have:=E z;rwa [A]at this,λk c=>?_,?_,λj o=>?_⟩
   . rcases s with h|h|h|h|h|h|h|h|h
     case inr.inr.inr.inr.inr.inr.inr.inl=>
      have:=h.2.2.2.2.2.2.2.2.1;rw[p]at this;exact MI (cF.1 this _ c)
     case inr.inr.inr.inr.inr.inl=>have:=h.2.2.2.2.1;rw[p]at this;rw[this]at c;cases c
     case inl=>have:=h.2.2.2.2.1;rw[p]at this;rw[this]at c;cases c
     case inr.inl=>have:=h.2.2.2.2.1;rw[p]at this;rw[this]at c;cases c
     case inr.inr.inl=>have:=h.2.2.2.2.1;rw[p]at this;rw[this]at c;cases c
     case inr.inr.inr.inl=>have:=h.2.2.2.2.1;rw[p]at this;rw[this]at c;cases c
     all_goals (have:=h.2.2.2.2.2.1;rw[p]at this;rw[this]at c;cases c)
   . intro⟨k6,N⟩;rcases s with h|h|h|h|h|h|h|h|h
     case inr.inr.inr.inr.inr.inl=>
      obtain⟨a1,a2,a3,a4,a5,a⟩:=h;split at a
      . have:=a.2.1;rw[r,iu]at this;omega
      . cases a.2.1
     all_goals (have:=h.1;omega)
   . have:=D j (by rw[r,iu];exact o)
     rwa [abS,r,LF o]at this
 . intro⟨c,F,J,o⟩;rw[mP,eJ];dsimp only;generalize M:ts.getD t.toNat aJ=x at*;rcases B with h|h|h|h|h|h|h|h|h
   . obtain⟨a1,a2,a3,a4,a5,a,b⟩:=h;rw[bx,a,b];exact⟨⟨g,l,n,λ_=>rfl⟩,.inl ⟨a1,a2,a3,a4,a5,rfl,rfl⟩⟩
   . obtain⟨a1,a2,a3,a4,a5,a,b,d⟩:=h;rw[bx,a,b];exact⟨⟨g,l,n,λ_=>rfl⟩,.inr (.inl ⟨a1,a2,a3,a4,a5,rfl,rfl,d⟩)⟩
   . obtain⟨a1,a2,a3,a4,a5,a,b,d⟩:=h;rw[bx,a,b];exact⟨⟨g,l,n,λ_=>rfl⟩,.inr (.inr (.inl ⟨a1,a2,a3,a4,a5,rfl,rfl,d⟩))⟩
   . obtain⟨a1,a2,a3,a4,a5,a,b,d⟩:=h;rw[bx,a,b];exact⟨⟨g,l,n,λ_=>rfl⟩,.inr (.inr (.inr (.inl ⟨a1,a2,a3,a4,a5,rfl,rfl,.inl (c (by omega))⟩)))⟩
   . obtain⟨a1,a2,a3,a4,a5,a,b,d⟩:=h;rw[ae a1];obtain⟨b1,b2⟩:=hJ.1 d;refine⟨⟨g,l,n,λ_=>rfl⟩,.inr (.inr (.inr (.inr (.inl ⟨a1,a2,a3,a4,a5,a,⟨List.Pairwise.nil,λy f=>(by cases f)⟩,hJ.2 ⟨by rw[iu];exact b1,λi e=>?_⟩⟩))))⟩;have:=o i (by omega);unfold gZ at this;rw[fz]at this;rw[LF (by omega)];exact this
   . obtain⟨a1,a2,a3,a4,a5,a⟩:=h;rw[bx];cases bw:cB x.ah v.ad with
     |none=>
      rw[bw]at a;exact absurd ⟨by omega,by rw[a.2.2.2.1];rfl⟩ J
     |some m=>
      rw[bw]at a;obtain⟨b1,b2,b3⟩:=a;refine⟨⟨g,l,n,λ_=>b1⟩,.inr (.inr (.inr (.inr (.inr (.inl ⟨a1,a2,a3,a4,a5,b1,by rw[iu];exact b2,cF.2 λy f=>?_⟩)))))⟩;obtain⟨w,q,rfl⟩:=e0.1 f;obtain⟨i,e,rfl⟩:=e3 q;have:=o i e;unfold gZ at this;rw[bx,fz,bw,du e]at this;exact this
   . obtain⟨a1,a2,a3,a4,a5,a,b,d,a9⟩:=h;rw[bx];refine⟨⟨g,l,n,λ_=>b⟩,.inr (.inr (.inr (.inr (.inr (.inr (.inl ⟨a1,a2,a3,a4,a5,a,b,by rw[iu];exact d,cF.2 λy f=>?_⟩))))))⟩;obtain⟨w,q,rfl⟩:=e0.1 f;obtain⟨i,e,rfl⟩:=e3 q;have:=o i e;unfold gZ at this;rw[bx,bx,du e]at this;exact this
   . obtain⟨a1,a2,a3,a4,a5,a,b,d,a9,K,u⟩:=h;rw[bx];refine⟨⟨g,l,n,λ_=>a⟩,.inr (.inr (.inr (.inr (.inr (.inr (.inr (.inl ⟨a1,a2,a3,a4,a5,a,b,by rw[iu];exact d,cF.2 λy f=>abY (cF.1 a9 y f) (H.qx x G (by omega)) (F y f),cF.2 λy f=>?_,u⟩)))))))⟩;obtain⟨w,q,rfl⟩:=e0.1 f;obtain⟨i,e,rfl⟩:=e3 q;have:=o i e;unfold gZ at this;rw[bx,bx,du e]at this;exact this
   . obtain⟨a1,a2,a3,a4,a5,a,b,d,a9⟩:=h;rw[bx];refine⟨⟨g,l,n,λ_=>b⟩,.inr (.inr (.inr (.inr (.inr (.inr (.inr (.inr ⟨a1,a2,a3,a4,a5,a,b,by rw[iu];exact d,cF.2 λy f=>?_⟩)))))))⟩;obtain⟨w,q,rfl⟩:=e0.1 f;obtain⟨i,e,rfl⟩:=e3 q;have:=o i e;unfold gZ at this;rw[bx,bx,du e]at this;exact this
theorem abf(c:bY ts pl t v):v.ay≠[]->0<=(ts.getD t.toNat aJ).Key/\(ts.getD t.toNat aJ).Key<ts.length:=by
 obtain⟨_,b⟩:=(eJ _ _ _).1 c;intro aG;rcases b with h|h|h|h|h|h|h|h|h
 case inr.inr.inr.inr.inr.inr.inr.inl=>
  obtain⟨a1,a2,a3,a4,a5,f,g,i,a9,_⟩:=h;cases a:v.ay with
  |nil=>exact absurd a aG
  |cons k l=>
   have:=cF.1 a9 k (by rw[a];exact .head _);obtain⟨⟨d,e,_⟩,_⟩:=(eJ _ _ _).1 this;exact⟨d,e⟩
 case inl=>exact absurd h.2.2.2.2.1 aG
 case inr.inl=>exact absurd h.2.2.2.2.1 aG
 case inr.inr.inl=>exact absurd h.2.2.2.2.1 aG
 case inr.inr.inr.inl=>exact absurd h.2.2.2.2.1 aG
 case inr.inr.inr.inr.inr.inl=>exact absurd h.2.2.2.2.1 aG
 all_goals exact absurd h.2.2.2.2.2.1 aG
theorem abg(H:EZ ts)(M:bJ v):∀t,np v->bY ts false t v->DY ts t v:=by
 have S:=H.V.hx H.T;induction M with
 |mk v hs h1 s aa af ab ah c' am an ap ai N=>
  intro t g c;obtain⟨ak,l2,al⟩:=Ol g c;obtain⟨⟨W,X,Y,Z⟩,_⟩:=(eJ _ _ _).1 c;have p:t.toNat<ts.length:=by omega
  have J:=bg p aJ;have e:=abT S c;have K:=abR S c (by omega);have G:∀i,i<v.aj.length->DY ts (gZ (ts.getD t.toNat aJ) v i) (v.aj.getD i av):=λi o=>N _ (bg o av) _ (g.items _ (bg o av)) (zy c i o);obtain⟨U,s1,z⟩:=KQ (H.T _ J) v;obtain⟨R,k1,k2⟩:=abQ H.T (x:=ts.getD t.toNat aJ) (v:=v) (by omega) (abf c);generalize m:ts.getD t.toNat aJ=x at*;have k:∀(P:Prop),¬bY ts true t (cO v)->lY ((⟨ts⟩:aT),t,v)=some (zeroV,false)->DY ts t v:=λ_ h1 s=>⟨false,by simp[h1],by rw[s];rfl⟩
  have l:aH t ts.length=true:=by simp[aH];omega
  have L:∀b,(bif decide (x.Kind=6)then decide ((v.aj.length:Int)=0)else false)=b->(b=true↔x.Kind=6/\v.aj.length=0):=by
   intro b E;rw[<-E];by_cases C:x.Kind=6<;>simp[C]
  obtain⟨A,r⟩:∃b,(bif decide (x.Kind=6)then decide ((v.aj.length:Int)=0)else false)=b:=⟨_,rfl⟩
  have w:=L A r;cases U with
  |true=>
   refine k True (λh=>?_) ?_
   . have:=z.2 (e.1 h).1;cases this
   . rw[lY,ae l];simp only[aU,ao,I.aV,m];rw[s1];rfl
  |false=>
   cases R with
   |true=>
    refine k True (λh=>?_) ?_
    . have:=k2.2 (e.1 h).2.1;cases this
    . rw[lY,ae l];simp only[aU,ao,I.aV,m];rw[s1];simp only[ao,eV,b5];rw[k1];rfl
   |false=>
    cases A with
    |true=>
     refine k True (λh=>(e.1 h).2.2.1 (w.1 rfl)) ?_;rw[lY,ae l];simp only[aU,ao,I.aV,m];rw[s1];simp only[ao,eV,b5];rw[k1,r];rfl
    |false=>
     have g:=NH (x:=x) (v:=v) (by omega) G (z0:=0) (z1:=false) (z2:=0) (z3:=[]) (z4:=0) (a0:=v.Kind) (a1:=v.bN) (a2:=v.bd) (a3:=v.bl) (a4:=v.ad) (ks:=v.ay) v.aj.length 0 (by omega)
     have u:∀ f,q2 (kU x v v.aj.length,(v.aj.length:Int),0,ts,v,0,false,0,[],0,v.Kind,v.bN,v.bd,v.bl,v.ad,v.ay,[]) = some f->lY ((⟨ts⟩:aT),t,v) = (match f with
      |.inl d=>some ((⟨d.2.1,d.2.2.1,d.2.2.2.1,d.2.2.2.2.1,d.2.2.2.2.2,[],[],[]⟩:I),d.1)
      |.inr a=>some ((⟨a.2.2.2.2.2.1,a.2.2.2.2.2.2.1,a.2.2.2.2.2.2.2.1,a.2.2.2.2.2.2.2.2.1,a.2.2.2.2.2.2.2.2.2.1,a.2.2.2.2.2.2.2.2.2.2.1,a.2.2.2.2.2.2.2.2.2.2.2,[]⟩:I),true)):=by
      intro f D;rw[lY,ae l];simp only[aU,ao,I.aV,m];rw[s1];simp only[ao,eV,b5];rw[k1,r];simp only[ao,dW];have F:fx 120 v.ay=some v.ay:=by unfold fx;rw[ae (mS (cN (by omega) (by omega)))]
      rw[bz,F];simp only[ao];rw[K];simp only[ao,D8];rw[D];cases f<;>rfl
     rcases g with⟨n,B⟩|⟨n,j,O,Q⟩
     . have y:bY ts true t (cO v):=e.2 ⟨z.1 rfl,k2.1 rfl,λh=>(by have:=w.2 h;cases this),λj p=>B j (hv _) p⟩;refine⟨true,by simp[y],?_⟩;rw[u _ n,ae rfl];have ag:(cO v).Rest=[]:=by
        obtain⟨⟨_,_,_,q⟩,_⟩:=(eJ _ _ _).1 y;exact q rfl
       have:(⟨v.Kind,v.bN,v.bd,v.bl,v.ad,v.ay,v.aj.map cO,[]⟩:I)=cO v:=by
        rw[mP]at ag⊢;dsimp only at ag;rw[ag]
       show some ((⟨v.Kind,v.bN,v.bd,v.bl,v.ad,v.ay,v.aj.map cO,[]⟩:I),true)=_;rw[this]
     . refine k True (λh=>Q ((e.1 h).2.2.2 j O)) ?_;rw[u _ n];rfl
end
theorem En(f:bJ v):bJ (cO v):=by
 induction f with
 |mk v hs h1 b c d m e c' j k l n i=>
  rw[mP];have ag:∀x,x∈(if v.Kind=5 then[]else v.Rest)->x∈v.Rest:=λx a=>by
   by_cases bc:v.Kind=5
   . rw[ae bc]at a;cases a
   . rwa [al bc]at a
  refine .mk _ hs h1 (by show(v.aj.map cO).length<=_;rw[iu];exact b) ?_ d (λx a=>?_) (λx a=>e x (ag x a)) c' j k (λx a=>l x (ag x a))
  . show(if v.Kind=5 then[]else v.Rest).length<=_;by_cases bc:v.Kind=5
    . rw[ae bc];exact hv _
    . rw[al bc];exact c
  . obtain⟨w,g,rfl⟩:=e0.1 a;exact i w g
theorem Y7(c:bJ v):∀t,bY ts true t v->cO v=v:=by
 induction c with
 |mk v hs h1 e f j g k c' m n o l d=>
  intro t a;obtain⟨⟨_,_,_,ag⟩,_⟩:=(eJ _ _ _).1 a;have ag:=ag rfl;have b:v.aj.map cO=v.aj:=by
   refine B8 (by simp) λi a1 a2=>?_;have:=zy a i a2;rw[du a2]at this;rw[List.getElem_map];exact d _ (B7 a2) _ this
  rw[mP,b,ag];cases v;simp at ag;simp[ag]
theorem abh(H:EZ ts)(a:bJ v)(d:np v)(c:bY ts false t v):
 ∃b,(b=true↔bY ts true t (cO v))/\nl ((⟨ts⟩:aT),t,v)=some (if b then(cO v,0)else(zeroV,12))/\vq ((⟨ts⟩:aT),t,v)=some (if b then(cO v,0)else(zeroV,12)):=by
 have S:=H.V.hx H.T;obtain⟨b,b1,b2⟩:=abg H a t d c;obtain⟨_,f⟩:=aaR H.T H.V a c;obtain⟨v1,_⟩:=pK H.T H.V;obtain⟨⟨u,w,_⟩,_⟩:=(eJ _ _ _).1 c;have k:¬(bif decide (t<0)then true else decide ((ts.length:Int)<=t))=true:=by
  have h1:¬t<0:=by omega
  have i:¬(ts.length:Int)<=t:=by omega
  simp[h1,i]
 have m:CT ((⟨ts⟩:aT),t)=some 0:=by
  rw[CT];simp only[KH];rw[v1];simp only[aU,ao];rw[bz,al k]
 have bw:tG ((⟨ts⟩:aT),t,v)=some true:=by
  obtain⟨q,o,p⟩:=Lz (by have:=S.n;omega) H.T S.K a t false;obtain⟨x,e,s⟩:=zw (by have:=S.n;omega) H.T S.K a t false;have g:x=q:=by rw[p]at e;exact(mc e).symm
  have l:q=true:=by rw[<-g];exact s.2 c
  rw[tG];simp only[I.aV];rw[o,l];rfl
 have j:CU ((⟨ts⟩:aT),t,v)=some 0:=by
  rw[CU];simp only[I.aV];rw[m];simp only[aU,ao];rw[bz,bw];rfl
 refine⟨b,b1,?_,?_⟩
 . rw[nl];simp only[I.aV];rw[j];simp only[aU,ao];rw[bz,b2];cases b<;>simp[zeroV,I.aV]
 . rw[vq];simp only[I.aV];rw[f];simp only[aU,ao];rw[bz,abP a t d c];simp only[ao,I.aV];obtain⟨q,r,y⟩:=Y3 (by have:=S.n;omega) H.T S.K (En a) t;rw[r];have:q=b:=by
    cases q<;>cases b<;>simp_all
   subst this;cases q<;>simp[zeroV]
theorem aaV(H:c8 ts)(c:bJ v)(a:bY ts false t v):
 ∃b,(b=true↔bY ts true t (cO v))/\nl ((⟨ts⟩:aT),t,v)=some (if b then(cO v,0)else(zeroV,12))/\vq ((⟨ts⟩:aT),t,v)=some (if b then(cO v,0)else(zeroV,12)):=abh H.g c (acP H c a) a
def cf{α c:Type}(f:α->Option c):List α->Option (List c)
 |[]=>some []
 |a::l=>match f a,cf f l with
  |some b,some m=>some (b::m)
  |_,_=>none
def e6{α:Type}:List α->List α
 |a::_::l=>a::e6 l
 |_=>[]
def fk{α:Type}:List α->List α
 |_::b::l=>b::fk l
 |_=>[]
def oT(ks:List I):Bool:=(List.range (ks.length-1)).all λi=>decide (ha (ks.getD i av) (ks.getD (i+1) av)<0)
theorem vW:oT ks=true↔jN ks:=by
 unfold oT jN;grind
def cX(ts:List ai):Nat->Int->ak->Option I
 |0,_,_=>none
 |n+1,t,p=>
  let x:=ts.getD t.toNat aJ
  if x.Kind=1 then(if p=[]then some ⟨1,false,0,[],0,[],[],[]⟩else if p=[1]then some ⟨1,true,0,[],0,[],[],[]⟩else none)else if x.Kind=2 then(match gD p with
   |some m=>if x.bF<=h' m/\h' m<=x.bH then some ⟨2,false,h' m,[],0,[],[],[]⟩else none
   |none=>none)
  else if x.Kind=3 then(if(p.length:Int)<=x.Max then some ⟨3,false,0,p,0,[],[],[]⟩else none)else if x.Kind=4 then(match gD p with
   |some m=>if 1<=m/\m<=1000/\((x.bh.any λy=>decide (y.ad=(m:Int)))||x.Open)=true then some ⟨4,false,0,[],(m:Int),[],[],[]⟩else none
   |none=>none)
  else if x.Kind=9 then(match p with
   |[]=>some ⟨9,false,0,[],0,[],[],[]⟩
   |c::q=>if c=1 then(cX ts n x.aF q).map λv=>⟨9,false,0,[],0,[],[v],[]⟩else none)
  else if x.Kind=6 then(match jB p with
   |some (id,q)=>(match cB x.ah id with
    |some m=>(cX ts n m.aw q).map λv=>⟨6,false,0,[],id,[],[v],[]⟩
    |none=>if x.Open then some ⟨6,false,0,[],id,[],[],[⟨id,q⟩]⟩else none)
   |none=>none)
  else if x.Kind=7 then(match ia p with
   |some l=>if(l.length:Int)<=x.Max then(cf (cX ts n x.aF) l).map λa=>⟨7,false,0,[],0,[],a,[]⟩else none
   |none=>none)
  else if x.Kind=8 then(match ia p with
   |some l=>if l.length%2 = 0/\((l.length/2:Nat):Int)<=x.Max then (match cf (cX ts n x.Key) (e6 l) with
    |some ks=>if oT ks then(cf (cX ts n x.aF) (fk l)).map λa=>⟨8,false,0,[],0,ks,a,[]⟩else none
    |none=>none)else none
   |none=>none)
  else(match iO p with
   |some l=>(match cf (λm:aS=>match l.find? (λf=>decide (f.ad = m.ad)) with
    |some f=>cX ts n m.aw f.Data
    |none=>if m.bV then some m.bB else none) x.ah with
    |some a=>if(l.all λf=>(cB x.ah f.ad).isSome || !f.cg) then some ⟨5,false,0,[],0,[],a,(l.filter λf=>!(cB x.ah f.ad).isSome).map λf=>⟨f.ad,f.Data⟩⟩else none
    |none=>none)
   |none=>none)
section
variable {ts:List ai}
def fK(ts:List ai)(b1:ar)(b2:Int)(path:ar)(o:Option I)(r:Option (I×Bool×List ai×ar×Int×ar)):Prop:=
 (∀v,o=some v->r=some (v,true,ts,b1,b2,path))/\(o=none->∃w f1 f2,r=some (w,false,ts,f1,f2,path))
theorem zz(b:path.length<=1000)(a:Int)(b1:ar)(b2:Int):hF (a,ts,b1,b2,path)=some ((⟨0,false,0,[],0,[],[],[]⟩:I),false,ts,a,path,path):=by
 rw[hF];unfold oj fx;rw[ae (mS (cN (by omega) (by omega)))];simp
theorem vX{step:Int}{o:Option I}(e:path.length<=1000)(h:fK ts b1 b2 (path++[step]) o (pc (t,p,ts,b1,b2,path++[step]))):
 fK ts b1 b2 path o (ja (step,t,p,ts,b1,b2,path)):=by
 have key:∀w b f1 f2,pc (t,p,ts,b1,b2,path++[step])=some (w,b,ts,f1,f2,path++[step])->ja (step,t,p,ts,b1,b2,path)=some (w,b,ts,f1,f2,path):=by
  intro w b f1 f2 a;rw[ja];simp only[aU,ao];rw[ae (cN),a];simp only[ao,I.aV];have aM:dq .i64 ((path++[step]).length:Int) 1=(path.length:Int):=by rw[hK (by simp<;>omega) (by simp<;>omega)];simp
  rw[aM];have d:dY 0 (path.length:Int) (path++[step]).length=true:=iJ.2 (by simp;omega);simp_all
 refine⟨λv c=>key _ _ _ _ (h.1 v c),λaG=>?_⟩;obtain⟨w,f1,f2,a⟩:=h.2 aG;exact⟨w,f1,f2,key _ _ _ _ a⟩
theorem qO{c:Type}{f:α->Option c}:∀{l:List α} {m:List c},cf f l=some m->m.length=l.length
 |[],m,h=>by rw[cf]at h;cases h;rfl
 |a::l,m,h=>by
  rw[cf]at h;split at h
  . rename_i b e h1 d;cases h;rw[gi,gi,qO d]
  . cases h
theorem NI{l:List ak}(af:l.length<=90000)(h:∀q,q∈l->∀step b1 b2,fK ts b1 b2 path (f q) (ja (step,x.aF,q,ts,b1,b2,path)))
 {z0 z2 z4 a0 a2 a4:Int}{z1 a1:Bool}{z3 a3:ak}{b1:ar}{b2:Int}:∀(k i:Nat) (acc:List I),i+k=l.length->acc.length=i->
 (∀m,cf f (l.drop i)=some m->sP (l,(l.length:Int),(i:Int),ts,b1,b2,x,z0,z1,z2,z3,z4,a0,a1,a2,a3,a4,path,acc)=some (.inr (ts,b1,b2,z0,z1,z2,z3,z4,a0,a1,a2,a3,a4,path,acc++m)))/\
 (cf f (l.drop i)=none->∃w f1 f2,sP (l,(l.length:Int),(i:Int),ts,b1,b2,x,z0,z1,z2,z3,z4,a0,a1,a2,a3,a4,path,acc)=some (.inl (false,ts,f1,f2,w,path)))
 |0,i,acc,d,c=>by
  rw[sP,ch,en (by omega),cf];grind
 |k+1,i,acc,d,c=>by
  have aC:i<l.length:=by omega
  have a:=h _ (bg aC []) (i:Int) b1 b2;have e:l.drop i=l.getD i []::l.drop (i+1):=by rw[du aC];exact lB aC
  rw[sP,bA,ae (aP aC),a7,e,cf];cases b:f (l.getD i [])with
  |none=>
   obtain⟨w,f1,f2,n⟩:=a.2 b;simp_all
  |some v=>
   rw[a.1 v b];simp only[aU,ao,I.aV,db];rw[bz,ae (cN),bE];obtain⟨o,j⟩:=NI af h (z0:=z0) (z1:=z1) (z2:=z2) (z3:=z3) (z4:=z4) (a0:=a0) (a1:=a1) (a2:=a2) (a3:=a3) (a4:=a4) (b1:=b1) (b2:=b2) k (i+1) (acc++[v]) (by omega) (by simp;omega);cases hs:cf f (l.drop (i+1))with
   |none=>exact⟨λm g=>by simp at g,λ_=>j hs⟩
   |some p=>grind
end
theorem EB{l:List I}{i:Nat}(a:i<l.length):l.set i (l.getD i av)=l:=by simp_all
variable{z1:Bool}{z3:ak}
theorem MJ{a0 a2 a4 z0 z2 z4:Int}{l l2:List I}{r:List bX}(af:l.length<=5000000000000)(h:∀y,y∈l->jK y=some y):∀(k i:Nat),i+k=l.length->
 tU ((l.length:Int),(i:Int),a0,a1,a2,a3,a4,z0,z1,z2,z3,z4,l,l2,r)=some (a0,a1,a2,a3,a4,z0,z1,z2,z3,z4,l,l2,r)
 |0,i,a=>by rw[tU,ch]
 |k+1,i,a=>by
  have aC:i<l.length:=by omega
  rw[tU,bA,ae (aP aC),a7,bA];simp only[I.aV];rw[h _ (bg aC av)];simp only[aU,ao,I.aV];rw[ae (aP aC),bA,bE,EB aC];exact MJ af h k (i+1) (by omega)
theorem MK{a0 a2 a4 z0 z2 z4:Int}{l l2:List I}{r:List bX}(af:l.length<=5000000000000)(h:∀y,y∈l->jK y=some y):∀(k i:Nat),i+k=l.length->
 tV ((l.length:Int),(i:Int),a0,a1,a2,a3,a4,z0,z1,z2,z3,z4,l,l2,r)=some (a0,a1,a2,a3,a4,z0,z1,z2,z3,z4,l2,l,r)
 |0,i,a=>by rw[tV,ch]
 |k+1,i,a=>by
  have aC:i<l.length:=by omega
  rw[tV,bA,ae (aP aC),a7,bA];simp only[I.aV];rw[h _ (bg aC av)];simp only[aU,ao,I.aV];rw[ae (aP aC),bA,bE,EB aC];exact MK af h k (i+1) (by omega)
theorem A0:∀l:List I,l.length<=cH l
 |[]=>by simp
 |v::l=>by
  rw[hi,fD,gi];have:=A0 l;omega
theorem NJ(l:List bX):l.length<=(l.map λx=>x.Data.length+1).sum:=by
 induction l with
 |nil=>simp
 |cons a l ih=>simp only[fB,ox,gi];omega
theorem wU{k n:Nat}(a:k<=1000:=by omega)(h:n<=1000000000:=by omega):room k n=true:=by
 unfold room ka eI;simp only[cC,dO];refine⟨?_,by omega⟩;have:(2*n+192)*k<=2000000192*1000:=Nat.mul_le_mul (by omega) a;omega
theorem abi(j:bJ v):wt v<=1000000000->jK v=some v:=by
 induction j with
 |mk v hs h1 o p s q t c' A B C m k=>
  intro u;have w:=fD v;have x:=A0 v.ay;have l2:=A0 v.aj;have z:=NJ v.Rest;have kk:∀y,y∈v.ay->jK y=some y:=λy a=>m y a (by have:=fv a;omega);have n:∀y,y∈v.aj->jK y=some y:=λy a=>k y a (by have:=fv a;omega);have f:fx 120 v.ay=some v.ay:=by unfold fx;rw[ae (mS (wU))]
  have g:fx 120 v.aj=some v.aj:=by unfold fx;rw[ae (mS (wU))]
  have i:fx 24 v.Rest=some v.Rest:=by unfold fx;rw[ae (mS (wU))]
  have b:=MJ (a0:=v.Kind) (a1:=v.bN) (a2:=v.bd) (a3:=v.bl) (a4:=v.ad) (z0:=0) (z1:=false) (z2:=0) (z3:=[]) (z4:=0) (l:=v.ay) (l2:=v.aj) (r:=v.Rest) (by omega) kk v.ay.length 0 (by omega);have d:=MK (a0:=v.Kind) (a1:=v.bN) (a2:=v.bd) (a3:=v.bl) (a4:=v.ad) (z0:=0) (z1:=false) (z2:=0) (z3:=[]) (z4:=0) (l:=v.aj) (l2:=v.ay) (r:=v.Rest) (by omega) n v.aj.length 0 (by omega);have c:tU ((v.ay.length:Int),0,v.Kind,v.bN,v.bd,v.bl,v.ad,0,false,0,[],0,v.ay,v.aj,v.Rest)=_:=b;have e:tV ((v.aj.length:Int),0,v.Kind,v.bN,v.bd,v.bl,v.ad,0,false,0,[],0,v.aj,v.ay,v.Rest)=_:=d;rw[jK,f,g,i];simp only[aU,ao];rw[c];simp only[ao];rw[e];simp only[ao];cases v;rfl
section
variable {ts:List ai}
def xn(ts:List ai)(n:Nat):Prop:=∀(t:Int) (p:ak) (b1:ar) (b2:Int) (path:ar),0<=t->t<ts.length->p.length<=4096->path.length+n=200->
 fK ts b1 b2 path (cX ts n t p) (pc (t,p,ts,b1,b2,path))
theorem jL(a:path.length<=1000)(b:Int)(b1:ar)(b2:Int):fK ts b1 b2 path none (hF (b,ts,b1,b2,path)>>=λr=>some (I.eta r.1,r.2.1,r.2.2.1,r.2.2.2.2.2,r.2.2.2.1,r.2.2.2.2.1)):=by
 refine⟨λv h=>(by cases h),λ_=>?_⟩;rw[zz a];simp_all
theorem FG(c:gQ x.ah)(af:x.ah.length<=1000){m:aS}(bw:cB x.ah id=some m):∃j,j<x.ah.length/\hh (x,id)=some ((j:Int),true)/\x.ah.getD j aB=m:=by
 obtain⟨b,e⟩:=j' bw;obtain⟨r,f,g⟩:=vy (t:=x) (id:=id) (by omega);rcases g with⟨j,a,d,_,rfl⟩|⟨q,_⟩
 . exact⟨j,a,f,qR c (bg a aB) b (by rw[d,e])⟩
 . obtain⟨i,k,rfl⟩:=e3 b;grind
theorem abj(H:iS ts){n:Nat}(ih:xn ts n)(i:x∈ts)(k6:x.Kind=6)(c9:∀m,m∈x.ah->0<=m.aw/\m.aw<ts.length)(D:p.length<=4096)(E:path.length+(n+1)=200):
 fK ts b1 b2 path (match jB p with
  |some (id,q)=>(match cB x.ah id with
   |some m=>(cX ts n m.aw q).map λv=>⟨6,false,0,[],id,[],[v],[]⟩
   |none=>if x.Open then some ⟨6,false,0,[],id,[],[],[⟨id,q⟩]⟩else none)
  |none=>none) (C4 (x,p,ts,b1,b2,path)):=by
 obtain⟨o,l,s,u⟩:=IW p;rw[C4,l];simp only[aU,ao];by_cases h0:o.2.2=0
 . obtain⟨v1,F,v3⟩:=s h0;rw[al (by simp[h0]),v1];dsimp only;obtain⟨f,B⟩:=H.A x i (.inr k6);cases bw:cB x.ah o.1 with
   |some m=>
    obtain⟨j,a,b,k⟩:=FG f (by omega) bw;rw[b];simp only[ao];rw[ae trivial,ae (aP a),a7,k];obtain⟨t1,t2⟩:=c9 m (j' bw).1;have c:=vX (step:=o.1) (path:=path) (by omega) (ih m.aw o.2.1 b1 b2 (path++[o.1]) t1 t2 (by omega) (by simp;omega));cases d:cX ts n m.aw o.2.1 with
    |none=>
     obtain⟨w,f1,f2,g⟩:=c.2 d;rw[g];exact⟨λv h=>by simp at h,λ_=>⟨_,_,_,rfl⟩⟩
    |some v=>
     rw[c.1 v d]
     exact⟨λe h=>by
      have:e=⟨6,false,0,[],o.1,[],[v],[]⟩:=(by simpa using h.symm);rw[this]
      simp[I.aV,k6],λh=>by simp at h⟩
   |none=>
    obtain⟨r,y,z⟩:=vy (t:=x) (id:=o.1) (by omega);have ag:r=(0,false):=by
     rcases z with⟨j,a,b,_,_⟩|⟨_,q⟩
     . exact absurd b (nQ bw _ (bg a aB))
     . exact q
    rw[y,ag];cases C:x.Open with
    |false=>
     simp only[ao,bZ,b9,eV,b5,eq_self];exact jL (by omega) _ _ _
    |true=>
     simp only[ao,bZ,b9,db,b5,eq_self];exact⟨λe h=>(by cases h;rw[k6]),λh=>(by cases h)⟩
 . rw[ae (by simp[h0]),u h0];exact jL (by omega) _ _ _
end
theorem LG{l:List α}(h:2*j+1<l.length)(d:α):e6 (l.drop (2*j))=l.getD (2*j) d::e6 (l.drop (2*(j+1))):=by
 rw[lB (by omega:2*j<l.length),lB h,e6,du (by omega)];rfl
theorem ML{l:List α}(h:2*j+1<l.length)(d:α):fk (l.drop (2*j))=l.getD (2*j+1) d::fk (l.drop (2*(j+1))):=by
 rw[lB (by omega:2*j<l.length),lB h,fk,du h];rfl
theorem Qm{i:Nat}(h:i<1000000):aN .i64 (i:Int) 2=((i+2:Nat):Int):=by
 have:=wc (a:=i) (b:=2) (by omega);exact this
section
variable {ts:List ai}
theorem NK{l:List ak}(af:l.length<=90000)(he:l.length%2=0)(h:∀q,q∈l->∀step b1 b2,fK ts b1 b2 path (f q) (ja (step,x.Key,q,ts,b1,b2,path)))
 {z0 z2 z4 a0 a2 a4:Int}{z1 a1:Bool}{z3 a3:ak}{b1:ar}{b2:Int}:∀(k j:Nat) (acc:List I),2*(j+k)=l.length->acc.length=j->
 (∀m,cf f (e6 (l.drop (2*j)))=some m->tf (l,((2*j:Nat):Int),ts,b1,b2,x,z0,z1,z2,z3,z4,a0,a1,a2,a3,a4,path,acc)=some (.inr (l,ts,b1,b2,x,z0,z1,z2,z3,z4,a0,a1,a2,a3,a4,path,acc++m)))/\
 (cf f (e6 (l.drop (2*j)))=none->∃w f1 f2,tf (l,((2*j:Nat):Int),ts,b1,b2,x,z0,z1,z2,z3,z4,a0,a1,a2,a3,a4,path,acc)=some (.inl (false,ts,f1,f2,w,path)))
 |0,j,acc,e,d=>by
  rw[tf,ch,en (by omega),show e6 ([]:List ak)=[]from rfl,cf];grind
 |k+1,j,acc,e,d=>by
  have aC:2*j<l.length:=by omega
  have a:=h _ (bg aC []) (fC .i64 ((2*j:Nat):Int) 2) b1 b2;rw[tf,bA,ae (aP aC),a7,LG (by omega) [],cf];cases b:f (l.getD (2*j) [])with
  |none=>
   obtain⟨w,f1,f2,n⟩:=a.2 b;simp_all
  |some v=>
   rw[a.1 v b];simp only[aU,ao,I.aV,db];rw[bz,ae (cN),Qm (by omega)];obtain⟨o,i⟩:=NK af he h (z0:=z0) (z1:=z1) (z2:=z2) (z3:=z3) (z4:=z4) (a0:=a0) (a1:=a1) (a2:=a2) (a3:=a3) (a4:=a4) (b1:=b1) (b2:=b2) k (j+1) (acc++[v]) (by omega) (by simp;omega);have c:2*j+2=2*(j+1):=(by omega);rw[c];cases hs:cf f (e6 (l.drop (2*(j+1))))with
   |none=>exact⟨λm g=>by simp at g,λ_=>i hs⟩
   |some p=>grind
theorem MM{l:List ak}(af:l.length<=90000)(he:l.length%2=0)(h:∀q,q∈l->∀step b1 b2,fK ts b1 b2 path (f q) (ja (step,x.aF,q,ts,b1,b2,path)))
 {z0 z2 z4 a0 a2 a4:Int}{z1 a1:Bool}{z3 a3:ak}{b1:ar}{b2:Int}{ks:List I}:∀(k j:Nat) (acc:List I),2*(j+k)=l.length->acc.length=j->
 (∀m,cf f (fk (l.drop (2*j)))=some m->tg (l,((2*j+1:Nat):Int),ts,b1,b2,x,z0,z1,z2,z3,z4,a0,a1,a2,a3,a4,path,ks,acc)=some (.inr (ts,b1,b2,z0,z1,z2,z3,z4,a0,a1,a2,a3,a4,path,ks,acc++m)))/\
 (cf f (fk (l.drop (2*j)))=none->∃w f1 f2,tg (l,((2*j+1:Nat):Int),ts,b1,b2,x,z0,z1,z2,z3,z4,a0,a1,a2,a3,a4,path,ks,acc)=some (.inl (false,ts,f1,f2,w,path)))
 |0,j,acc,e,d=>by
  rw[tg,ch,en (by omega),show fk ([]:List ak)=[]from rfl,cf];grind
 |k+1,j,acc,e,d=>by
  have aC:2*j+1<l.length:=by omega
  have a:=h _ (bg aC []) (fC .i64 ((2*j+1:Nat):Int) 2) b1 b2;rw[tg,bA,ae (aP aC),a7,ML aC [],cf];cases b:f (l.getD (2*j+1) [])with
  |none=>
   obtain⟨w,f1,f2,n⟩:=a.2 b;simp_all
  |some v=>
   rw[a.1 v b];simp only[aU,ao,I.aV,db];rw[bz,ae (cN),Qm (by omega)];obtain⟨o,i⟩:=MM af he h (z0:=z0) (z1:=z1) (z2:=z2) (z3:=z3) (z4:=z4) (a0:=a0) (a1:=a1) (a2:=a2) (a3:=a3) (a4:=a4) (b1:=b1) (b2:=b2) (ks:=ks) k (j+1) (acc++[v]) (by omega) (by simp;omega);have c:2*j+1+2=2*(j+1)+1:=(by omega);rw[c];cases hs:cf f (fk (l.drop (2*(j+1))))with
   |none=>exact⟨λm g=>by simp at g,λ_=>i hs⟩
   |some p=>grind
end
end
end Go.Proofs.YtdjagncoefjfeaaGreat
