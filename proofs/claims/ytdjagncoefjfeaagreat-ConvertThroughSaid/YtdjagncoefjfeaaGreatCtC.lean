/- The functions of the program as functions of Lean, that its code does what they say, and what they answer; part C. -/
import Derived.Test.YtdjagncoefjfeaaGreatCtB

namespace Go.Proofs.YtdjagncoefjfeaaGreat
set_option linter.all false
section
open Go Go.Proofs.YtdjagncoefjfeaaGreat.Shv Go.Sort
set_option maxRecDepth 100000
def dr(o:Option Bool)(P:Prop):Prop:=∃r,o=some r/\(r=true↔P)
variable{o:Option Bool}{P Q:Prop}{L:Nat->Option (Bool ⊕ Unit)}{α:Type}{id t code b2:Int}{v:I}{Ms ms:List aU}{x:ai}{w j c a:Nat}{ts:List ai}{odd pl a1:Bool}{p a3:ak}{ks:List I}{path b1:ar}{f:ak->Option I}
theorem dr.imp(h:dr o P)(e:P↔Q):dr o Q:=by grind
theorem dr.of{b:Bool}(e:b=true↔P):dr (some b) P:=⟨b,rfl,e⟩
theorem dr.loop{n:Nat}{p:Nat->Bool}{g:Unit}{o:Option (Bool ⊕ Unit)}(h0:o=L 0)(f:∀i,i<n->L i=if p i then L (i+1)else some (.inl false))(e:L n=some (.inr g)):
 dr (o>>=λo=>match o with|.inl x=>some x|.inr _=>some true) (∀i,i<n->p i=true):=by
 subst h0;rcases scan L n p (.inl false) (.inr g) f e with⟨h1,a⟩|⟨h1,j,a,c⟩
 . rw[h1];exact⟨true,rfl,by simpa using a⟩
 . rw[h1];refine⟨false,rfl,?_⟩;constructor
   . intro h;cases h
   . intro h;have:=h j a;rw[c]at this;cases this
theorem D9(f:α->Int)(d:α):∀l:List α,l.Pairwise (λa b=>f a<f b)↔∀i,i+1<l.length->f (l.getD i d)<f (l.getD (i+1) d)
 |[]=>by simp
 |[a]=>by simp
 |a::b::l=>by
  rw[h6,D9 f d (b::l)];constructor
  . rintro ⟨h1,c⟩ i e
    cases i with
    |zero=>exact h1 b (.head _)
    |succ i=>exact c i (by simpa using e)
  . intro h;have c:∀i,i+1<(b::l).length->f ((b::l).getD i d)<f ((b::l).getD (i+1) d):=λi e=>h (i+1) (by simpa using e);refine⟨λx j=>?_,c⟩;have h0:=h 0 (by simp);simp only[jv,wQ]at h0;have g:=(D9 f d (b::l)).2 c;rw[h6]at g;grind
section
variable {ts:List ai}
def E4(ts:List ai)(x:I):Prop:=∀t pl,dr (iC ((⟨ts⟩:aT),t,x,pl)) (bX ts pl t x)
theorem NI{l:List I}(af:l.length<=reachBytes)(ih:∀x,x∈l->E4 ts x)(t:Int)(pl:Bool):dr (nQ ((⟨ts⟩:aT),t,l,pl)) (e3 ts pl t l):=by
 have ag:=dA af;let p:Nat->Bool:=λi=>(iC ((⟨ts⟩:aT),t,l.getD i av,pl)).getD false;have b:∀i,i<l.length->iC ((⟨ts⟩:aT),t,l.getD i av,pl)=some (p i)/\(p i=true↔bX ts pl t (l.getD i av)):=by
  intro i a;obtain⟨r,h1,d⟩:=ih _ (bd a av) t pl;grind
 rw[nQ];refine(dr.loop (L:=λi=>kE (t,l,pl,(i:Int),ts)) (n:=l.length) (p:=p) (g:=()) rfl (λi a=>?_) ?_).imp ?_
 . show kE (t,l,pl,(i:Int),ts)=if p i then kE (t,l,pl,((i+1:Nat):Int),ts)else _
   rw[kE,br,ae (aP a)];simp only[I.aV,aZ];rw[(b i a).1,bC];grind
 . show kE (t,l,pl,(l.length:Int),ts)=_;rw[kE,bw]
 . rw[cI];constructor
   . intro h x c;obtain⟨i,a,rfl⟩:=e1 c;grind
   grind
theorem tC{l:List aU}{r:Int×Bool}(h:uj l id r):(r.2=true/\∃j:Nat,j<l.length/\r.1=(j:Int)/\cB l id=some (l.getD j aC)/\(l.getD j aC).ad=id)\/(r.2=false/\cB l id=none):=by
 rcases h with⟨j,h1,a,c,rfl⟩|⟨h1,rfl⟩
 . refine .inl ⟨rfl,j,h1,rfl,?_,a⟩;unfold cB;rw[Cd];refine⟨by rw[eT];exact a,j,h1,(dv h1 _).symm,λk e=>?_⟩;grind
 . refine .inr ⟨rfl,?_⟩;unfold cB;rw[yD];intro m b;obtain⟨i,d,rfl⟩:=e1 b;grind
theorem abR{t:ai}(ht:t.ah.length<9223372036854775807){l:List bW}(af:l.length<=reachBytes):dr (qY (t,l)) (jR t.ah l):=by
 have ag:=dA af;rw[qY];let p:Nat->Bool:=λi=>!((hg (t,(l.getD i bV).ad)).getD (0,false)).2&&(bif decide (1<=(l.getD i bV).ad)then decide ((l.getD i bV).ad<=1000)else false)&&(!(decide ((0:Int)<(i:Int))) || !(decide ((l.getD i bV).ad<=(l.getD (c9 .i64 (i:Int) 1).toNat bV).ad)));refine(dr.loop (L:=λi=>j9 (l,(i:Int),t)) (n:=l.length) (p:=p) (g:=()) rfl (λi c=>?_) ?_).imp ?_
 . show j9 (l,(i:Int),t)=if p i then j9 (l,((i+1:Nat):Int),t)else _
   obtain⟨r,h1,d,_⟩:=mS (t:=t) (l.getD i bV).ad ht;have f:p i=(!r.2&&(bif decide (1<=(l.getD i bV).ad)then decide ((l.getD i bV).ad<=1000)else false)&&(!(decide ((0:Int)<(i:Int))) || !(decide ((l.getD i bV).ad<=(l.getD (c9 .i64 (i:Int) 1).toNat bV).ad)))):=(by simp only[p,h1,wI]);rw[f,j9,br,ae (aP c)];simp only[aZ];rw[d,bC];have o:jl ((l.getD i bV).ad,r.2)=some ((!r.2)&&(bif decide (1<=(l.getD i bV).ad)then decide ((l.getD i bV).ad<=1000)else false)):=by
    rw[jl];grind
   show(if aG (i:Int) l.length then jl ((l.getD i bV).ad,r.2)>>=_ else none)=_;rw[ae (aP c),o]
   exact K1 ((!r.2)&&(bif decide (1<=(l.getD i bV).ad)then decide ((l.getD i bV).ad<=1000)else false)) (aG (i:Int) l.length) (decide ((0:Int)<(i:Int))) (c9 .i64 (i:Int) 1) (λj=>aG j l.length) (λj=>decide ((l.getD i bV).ad<=(l.getD j.toNat bV).ad)) _ _ (aP c) (λk=>by
    have:0<i:=by simp at k;omega
    show aG _ _=true
    rw[qR this (by omega)];exact aP (by omega))
 . show j9 (l,(l.length:Int),t)=_;rw[j9,bw]
 . unfold jR;rw[D9 (λa:bW=>a.ad) bV];have key:∀i,i<l.length->(p i=true↔(cm (l.getD i bV).ad/\cB t.ah (l.getD i bV).ad=none)/\(i=0\/(l.getD (i-1) bV).ad<(l.getD i bV).ad)):=by
    intro i c;obtain⟨r,h1,d,m⟩:=mS (t:=t) (l.getD i bV).ad ht;have f:p i=(!r.2&&(bif decide (1<=(l.getD i bV).ad)then decide ((l.getD i bV).ad<=1000)else false)&&(!(decide ((0:Int)<(i:Int))) || !(decide ((l.getD i bV).ad<=(l.getD (c9 .i64 (i:Int) 1).toNat bV).ad)))):=(by simp only[p,h1,wI]);rw[f];have aH:r.2=false↔cB t.ah (l.getD i bV).ad=none:=by
     rcases tC m with⟨a,j,_,_,b,_⟩|⟨a,b⟩
     . grind
     grind
    rw[<-aH];unfold cm;by_cases h0:i=0
    . grind
    . have k:decide ((0:Int)<(i:Int))=true:=by simp;omega
      rw[k,qR (by omega) (by omega),aZ];grind
   constructor
   . intro h;refine⟨λi c=>?_,λx q=>?_⟩
     . grind
     . obtain⟨i,c,rfl⟩:=e1 q;simp_all
   . rintro ⟨h1,d⟩ i c
     refine(key i c).2 ⟨d _ (bd c bV),?_⟩;by_cases h0:i=0
     . omega
     . right;have:=h1 (i-1) (by omega);have e:i-1+1=i:=(by omega);grind
theorem aa0{t:ai}(af:v.aj.length=t.ah.length)(ag:t.ah.length<9223372036854775807)(ih:∀x,x∈v.aj->E4 ts x)(pl:Bool):
 dr (iX (pl,0,ts,v,t.Kind,t.Name,t.bE,t.bH,t.Max,t.bh,t.ah,t.Key,t.aF,t.Open)>>=λo=>match o with|.inl c=>some c|.inr _=>some true) (hv ts pl t.ah v.aj):=by
 let p:Nat->Bool:=λi=>(iC ((⟨ts⟩:aT),(t.ah.getD i aC).aw,v.aj.getD i av,pl)).getD false;have b:∀i,i<t.ah.length->iC ((⟨ts⟩:aT),(t.ah.getD i aC).aw,v.aj.getD i av,pl)=some (p i)/\(p i=true↔bX ts pl (t.ah.getD i aC).aw (v.aj.getD i av)):=by
  intro i a;obtain⟨r,h1,d⟩:=ih _ (bd (by omega:i<v.aj.length) av) (t.ah.getD i aC).aw pl;grind
 refine(dr.loop (L:=λi=>iX (pl,(i:Int),ts,v,t.Kind,t.Name,t.bE,t.bH,t.Max,t.bh,t.ah,t.Key,t.aF,t.Open)) (n:=t.ah.length) (p:=p) (g:=()) rfl (λi a=>?_) ?_).imp ?_
 . show iX (pl,(i:Int),ts,v,t.Kind,t.Name,t.bE,t.bH,t.Max,t.bh,t.ah,t.Key,t.aF,t.Open)=if p i then iX (pl,((i+1:Nat):Int),ts,v,t.Kind,t.Name,t.bE,t.bH,t.Max,t.bh,t.ah,t.Key,t.aF,t.Open)else _
   rw[iX,br,ae (aP a),ae (aP (by omega))];simp only[aZ,I.aV];rw[(b i a).1,bC];cases p i<;>rfl
 . show iX (pl,(t.ah.length:Int),ts,v,t.Kind,t.Name,t.bE,t.bH,t.Max,t.bh,t.ah,t.Key,t.aF,t.Open)=_;rw[iX,b']
 . rw[hG];constructor
   . intro h;exact⟨af,λi a=>(b i a).2.1 (h i a)⟩
   . rintro ⟨_,h⟩ i a;exact(b i a).2.2 (h i a)
theorem abd(ag:v.ay.length<9223372036854775807)(b:∀x,x∈v.ay->bK x):
 dr (hX (1,v)>>=λk=>match k with|.inl l=>some l|.inr _=>some true) (jP v.ay):=by
 by_cases h0:v.ay.length=0
 . rw[hX,al (by simp[h0])];refine⟨true,rfl,?_⟩;unfold jP;simp only[true_iff];intro i a;omega
 refine(dr.loop (L:=λi=>hX (((i+1:Nat):Int),v)) (n:=v.ay.length-1) (p:=λi=>!(decide (0<=g' (v.ay.getD i av) (v.ay.getD (i+1) av)))) (g:=()) rfl (λi a=>?_) ?_).imp ?_
 . show hX (((i+1:Nat):Int),v)=if _ then hX (((i+1+1:Nat):Int),v)else _
   have f:c9 .i64 ((i+1:Nat):Int) 1=(i:Int):=by rw[qR (by omega) (by omega)];simp
   obtain⟨r,c,d⟩:=DJ (wV (b _ (bd (by omega:i<v.ay.length) av))) (wV (b _ (bd (by omega:i+1<v.ay.length) av)));have j:g' (v.ay.getD i av) (v.ay.getD (i+1) av)=r:=by unfold g';rw[c];rfl
   rw[j,hX,br];simp only[aS,ao];rw[f,ae (aP (by omega)),ae (aP (by omega))];simp only[aZ,I.aV];rw[d,bC];simp only[ao];cases decide (0<=r)<;>rfl
 . have e:v.ay.length-1+1=v.ay.length:=(by omega);show hX (((v.ay.length-1+1:Nat):Int),v)=_;rw[e,hX,bw]
 . unfold jP;constructor
   . intro h i a;have:=h i (by omega);simpa using this
   . intro h i a;have:=h i (by omega);simpa using this
theorem eH(pl:Bool)(t:Int)(v:I):bX ts pl t v↔
 (0<=t/\t<ts.length/\v.Kind=(ts.getD t.toNat aK).Kind/\(pl=true->v.Rest=[]))/\
 (v.Kind=1/\v.bc=0/\v.bl=[]/\v.ad=0/\v.ay=[]/\v.aj=[]/\v.Rest=[]\/
 v.Kind=2/\v.bN=false/\v.bl=[]/\v.ad=0/\v.ay=[]/\v.aj=[]/\v.Rest=[]/\(ts.getD t.toNat aK).bE<=v.bc/\v.bc<=(ts.getD t.toNat aK).bH\/
 v.Kind=3/\v.bN=false/\v.bc=0/\v.ad=0/\v.ay=[]/\v.aj=[]/\v.Rest=[]/\(v.bl.length:Int)<=(ts.getD t.toNat aK).Max\/
 v.Kind=4/\v.bN=false/\v.bc=0/\v.bl=[]/\v.ay=[]/\v.aj=[]/\v.Rest=[]/\((∃y,y∈(ts.getD t.toNat aK).bh/\y.ad=v.ad)\/(ts.getD t.toNat aK).Open=true/\pl=false/\cm v.ad)\/
 v.Kind=5/\v.bN=false/\v.bc=0/\v.bl=[]/\v.ad=0/\v.ay=[]/\jR (ts.getD t.toNat aK).ah v.Rest/\hv ts pl (ts.getD t.toNat aK).ah v.aj\/
 v.Kind=6/\v.bN=false/\v.bc=0/\v.bl=[]/\v.ay=[]/\(match cB (ts.getD t.toNat aK).ah v.ad with
  |some m=>v.Rest=[]/\v.aj.length=1/\e3 ts pl m.aw v.aj
  |none=>(ts.getD t.toNat aK).Open=true/\pl=false/\cm v.ad/\v.aj=[]/\∃d,v.Rest=[⟨v.ad,d⟩])\/
 v.Kind=7/\v.bN=false/\v.bc=0/\v.bl=[]/\v.ad=0/\v.ay=[]/\v.Rest=[]/\(v.aj.length:Int)<=(ts.getD t.toNat aK).Max/\e3 ts pl (ts.getD t.toNat aK).aF v.aj\/
 v.Kind=8/\v.bN=false/\v.bc=0/\v.bl=[]/\v.ad=0/\v.Rest=[]/\(v.ay.length:Int)<=(ts.getD t.toNat aK).Max/\v.aj.length=v.ay.length/\e3 ts pl (ts.getD t.toNat aK).Key v.ay/\e3 ts pl (ts.getD t.toNat aK).aF v.aj/\jP v.ay\/
 v.Kind=9/\v.bN=false/\v.bc=0/\v.bl=[]/\v.ad=0/\v.ay=[]/\v.Rest=[]/\v.aj.length<=1/\e3 ts pl (ts.getD t.toNat aK).aF v.aj):=by
 cases v;rw[bX];try exact Iff.rfl
end
def lN(v:I):Prop:=(v.Kind=1\/v.bN=false)/\(v.Kind=2\/v.bc=0)/\(v.Kind=3\/v.bl=[])/\((v.Kind=4\/v.Kind=6)\/v.ad=0)/\(v.Kind=8\/v.ay=[])/\(5<=v.Kind\/v.aj=[])/\((v.Kind=5\/v.Kind=6)\/v.Rest=[])
theorem abe(v:I):dr (tX v) (lN v):=by
 rw[tX];refine .of ?_;unfold lN;have e:∀{α:Type} (l:List α),((l.length:Int)=0)↔l=[]:=λl=>by simp_all
 grind
theorem aft{z b:Bool}{c:Prop}(d:z=true↔c)(a:b=false↔Q)(e:dr o P):dr (if(bif (bif false then true else(!z))then true else b)then some false else o) (c/\Q/\P):=by
 obtain⟨r,rfl,h⟩:=e;cases z with
 |false=>
  refine⟨false,rfl,?_⟩;grind
 |true=>
  cases b with
  |true=>refine⟨false,rfl,?_⟩;simp at a;simp[a]
  |false=>refine⟨r,rfl,?_⟩;simp at d a;simp[d,a,h]
theorem uZ{q:Bool}(c:q=true↔Q)(a:dr o P):dr (some q>>=λt244=>(if t244 then o else some false)>>=λb=>some (bif t244 then b else false)) (Q/\P):=by
 obtain⟨r,rfl,h⟩:=a;refine⟨q&&r,by cases q<;>cases r<;>rfl,?_⟩;grind
theorem afb{A:Bool}{f L:Option Bool}{c e d:Prop}(a:A=true↔c)(ag:dr f e)(g:A=true->dr L d):
 dr (some (!A)>>=λt107=>(if !t107 then f else some false)>>=λj=>if(bif t107 then true else(!j)) then some false else L) (c/\e/\d):=by
 obtain⟨q,rfl,b⟩:=ag;cases A with
 |false=>refine⟨false,rfl,?_⟩;simp at a;simp[a]
 |true=>
  obtain⟨m,rfl,i⟩:=g rfl;cases q with
  |false=>refine⟨false,rfl,?_⟩;simp at b;simp[b]
  |true=>refine⟨m,rfl,?_⟩;simp at a b;simp[a,b,i]
theorem afc{c:Bool}{j g L:Option Bool}{d e oW f:Prop}(l:c=false↔d)(b:dr j e)(a:dr g oW)(cX:dr L f):
 dr (some c>>=λt239=>(if !t239 then j else some false)>>=λn=>some (bif t239 then true else(!n))>>=λt249=>(if !t249 then g else some false)>>=λo=>if(bif t249 then true else(!o)) then some false else L) (d/\e/\oW/\f):=by
 obtain⟨k,rfl,b⟩:=b;obtain⟨i,rfl,a⟩:=a;obtain⟨q,rfl,m⟩:=cX;rw[<-l,<-b,<-a,<-m];cases c<;>cases k<;>cases i<;>exact⟨_,rfl,by simp⟩
theorem Dt{l:List c3}{r:Int×Bool}(h:wF l id r):r.2=true↔∃y,y∈l/\y.ad=id:=by
 rcases h with⟨j,h1,b,c,rfl⟩|⟨h1,rfl⟩
 . grind
 . constructor
   . grind
   . rintro ⟨y,a,he⟩
     obtain⟨i,d,rfl⟩:=e1 a;grind
section
variable {ts:List ai}(aH:ts.length<9223372036854775807)(db:∀t,t∈ts->eZ t)(bD:∀t,t∈ts->ox t.Kind)
include aH db bD in
theorem zB(ay:bK v):E4 ts v:=by
 induction ay with
 |mk v hs h1 Z aa ar aE aF dc aH aI aJ aA V=>
  intro t pl;rw[iC];by_cases af:(bif decide (t<0)then true else decide (((⟨ts⟩:aT).Types.length:Int)<=t))=true
  . rw[ae af];refine⟨false,rfl,?_⟩;rw[eH];grind
  . rw[al af];have aq:0<=t/\t<ts.length:=(by grind);obtain⟨j,rfl⟩:∃j:Nat,t=(j:Int):=⟨t.toNat,by omega⟩
    have Q:j<ts.length:=(by omega);rw[ae (aP Q)];simp only[eH,aZ,I.aV];have U:=db _ (bd Q aK);have T:=bD _ (bd Q aK);generalize ts.getD j aK=x at U T⊢;have D:=dA (ig U.gY);have ag:=dA (ig U.syms);by_cases C:v.Kind=x.Kind
    . obtain⟨z,z1,z2⟩:=abe v;have O:=NI (ts:=ts) Z V;have au:=NI (ts:=ts) h1 aA;show dr ((if !(!(v.Kind=x.Kind:Bool)) then tX v else some false)>>=_) _;rw[ae (by simp[C]),z1];obtain⟨K,N,L,H,M,S,Ms,u,E,l⟩:=x;obtain⟨n,B,cw,w,ad,p,i,R⟩:=v;simp only at C;subst C;simp only at T D ag h1 Z aa z1;have G:(bif pl then decide (0<(R.length:Int))else false)=false↔(pl=true->R=[]):=(by simp_all);have ao:n=1\/n=2\/n=3\/n=4\/n=5\/n=6\/n=7\/n=8\/n=9:=by unfold ox at T;omega
      have cut:∀ {o:Option Bool} {P W:Prop},dr o P->((lN ⟨n,B,cw,w,ad,p,i,R⟩/\(pl = true->R = [])/\P) ↔ W)->
       dr (some z>>=λr=>if(bif (bif false then true else(!r))then true else bif pl then (0<(R.length:Int):Bool)else false) then some false else o) W:=λax az=>(aft z2 G ax).imp az
      have s:(0:Int)<=j/\(j:Int)<ts.length:=aq;rcases ao with rfl|rfl|rfl|rfl|rfl|rfl|rfl|rfl|rfl
      . exact cut (P:=True) (.of (b:=true) (by simp)) (by unfold lN;simp[s];grind)
      . exact cut (P:=L<=cw/\cw<=H) (.of (b:=bif decide (L<=cw)then decide (cw<=H)else false) (by by_cases g:L<=cw<;>simp[g])) (by unfold lN;simp[s];grind)
      . exact cut (P:=(w.length:Int)<=M) (.of (b:=decide ((w.length:Int)<=M)) (by simp)) (by unfold lN;simp[s];grind)
      . obtain⟨r,_,X,J⟩:=rb (t:=⟨4,N,L,H,M,S,Ms,u,E,l⟩) ad ag;have ab:jl (ad,false)=some (bif decide (1<=ad)then decide (ad<=1000)else false):=(by rfl);have aj:=FG X l pl _ (λb=>jl (ad,b)) ab;have hs:=Dt J;simp only at hs;refine cut (P:=(∃y,y∈S/\y.ad=ad)\/l=true/\pl=false/\cm ad) ⟨_,aj,?_⟩ (by unfold lN;simp[s];grind);rw[<-hs];unfold cm;grind
      . refine cut (P:=i.length=Ms.length/\jR Ms R/\hv ts pl Ms i) ?_ (by
         have:hv ts pl Ms i->i.length=Ms.length:=λh=>(hG.1 h).1
         unfold lN;simp[s];grind)
        exact afb (A:=decide ((i.length:Int)=(Ms.length:Int))) (by simp;omega) (abR (t:=⟨5,N,L,H,M,S,Ms,u,E,l⟩) D aa) (λak=>aa0 (ts:=ts) (t:=⟨5,N,L,H,M,S,Ms,u,E,l⟩) (v:=⟨5,B,cw,w,ad,p,i,R⟩) (Kp ak) D V pl)
      . obtain⟨r,_,X,J⟩:=mS (t:=⟨6,N,L,H,M,S,Ms,u,E,l⟩) ad D;have ab:∀b,b=false->jl (ad,b)=some (bif decide (1<=ad)then decide (ad<=1000)else false):=by
         intro b G;subst G;rfl
        have am:decide ((R.length:Int)=1)=true->aG 0 R.length=true:=by
         intro h;have:=gM h;exact aP (k:=0) (by omega)
        refine cut (P:=match cB Ms ad with
         |some m=>R=[]/\i.length=1/\e3 ts pl m.aw i
         |none=>l=true/\pl=false/\cm ad/\i=[]/\∃d,R=[⟨ad,d⟩]) ?_ (by
          unfold lN;simp[s]
          grind)
        obtain⟨aL,ko⟩:=r;show dr (hC (⟨6,N,L,H,M,S,Ms,u,E,l⟩,ad)>>=_) _;rw[X];rcases tC J with⟨e,k,k1,k2,k3,k4⟩|⟨e,k3⟩
        . simp only at e k1 k2 k3 k4;subst e;subst k2;rw[k3];have an:∃f:Bool,((bif decide ((i.length:Int)=1)then decide ((R.length:Int)=0)else false)=true->iC ((⟨ts⟩:aT),(Ms.getD (k:Int).toNat aC).aw,i.getD (0:Int).toNat av,pl)=some f)/\(i.length=1->(f=true↔e3 ts pl (Ms.getD k aC).aw i)):=by
           by_cases F:i.length=1
           . obtain⟨f,f1,f2⟩:=V (i.getD 0 av) (bd (by omega:0<i.length) av) (Ms.getD k aC).aw pl;refine⟨f,λ_=>f1,λ_=>?_⟩;rw[f2]
             match i,F with
             |[y],_=>rw[cI];simp
           . refine⟨false,λh=>?_,λh=>absurd h F⟩;grind
          obtain⟨f,f1,f2⟩:=an;have ap:(bif decide ((i.length:Int)=1)then decide ((R.length:Int)=0)else false)=true->aG (k:Int) Ms.length=true/\aG 0 i.length=true:=by
           intro aD;refine⟨aP k1,?_⟩;by_cases F:i.length=1
           . exact aP (k:=0) (by omega)
           grind
          refine⟨_,FH _ (aG (k:Int) Ms.length) (aG 0 i.length) f f1 ap,?_⟩;by_cases Y:i.length=1
          . simp_all
          grind
        . simp only at e k3;subst e;rw[k3];refine⟨_,FI (bif l then(!pl)else false) (bif decide (1<=ad)then decide (ad<=1000)else false) (decide ((i.length:Int)=0)) (decide ((R.length:Int)=1)) (aG 0 R.length) (decide ((R.getD (0:Int).toNat bV).ad=ad)) am,?_⟩;unfold cm
          match R with
          |[]=>simp
          |[⟨aB,rd⟩]=>cases l<;>cases pl<;>by_cases Y:1<=ad<;>by_cases ah:ad<=1000<;>cases i<;>by_cases ai:aB=ad<;>simp[Y,ah,ai]<;>omega
          |a::b::c=>simp;omega
      . exact cut (P:=(i.length:Int)<=M/\e3 ts pl E i) (uZ (by simp) (O E pl)) (by unfold lN;simp[s];grind)
      . refine cut (P:=((p.length:Int)<=M/\i.length=p.length)/\e3 ts pl u p/\e3 ts pl E i/\jP p) ?_ (by unfold lN;simp[s];grind);refine afc (c:=bif decide (M<(p.length:Int))then true else(!(decide ((i.length:Int)=(p.length:Int))))) ?_ (au u pl) (O E pl) (abd (v:=⟨8,B,cw,w,ad,p,i,R⟩) (dA h1) ar);grind
      . exact cut (P:=i.length<=1/\e3 ts pl E i) (uZ (q:=decide ((i.length:Int)<=1)) (by simp;omega) (O E pl)) (by unfold lN;simp[s];grind)
    . refine⟨false,by simp[C],?_⟩;grind
end
theorem ah0{n:Nat}(h:n<=70368744177664):room 1 n=true:=by
 unfold room hZ dY;grind
theorem PX{n:Nat}(h:n<=2199023255552:=by simp;omega):room 24 n=true:=by
 unfold room hZ dY;grind
theorem bws{s b:ak}(h:b.length+s.length<=70368744177664:=by omega):ta (s,b)=some ((s.length:Int),b++s):=by
 rw[ta];simp only[aS,ao];rw[hO,ae (ah0 h)];rfl
theorem Ff(b:ak):yr b=some b:=by rw[yr,ae (by simp[hK])]
theorem zM(a b:Nat):iq (a:Int) (b:Int)=((max a b:Nat):Int):=by unfold iq;omega
theorem eE{l:List α}{i:Nat}(h:i<l.length)(d:α):l.drop i=l.getD i d::l.drop (i+1):=by simp_all
def im(f:Fd):gv:=⟨(f.id:Int),f.text⟩
theorem aa1{m:aU}(a:bK m.bA)(v:I):CR (m,v)=some (di m v):=by
 rw[CR];unfold di;cases c:m.bU with
 |false=>simp
 |true=>
  obtain⟨r,h1,b⟩:=KO a v;simp only[I.aV];grind
theorem Oq{m:aU}(a:bK v)(c:m.bU=true):jH (v,m.bA)=some (di m v):=by
 obtain⟨r,h1,b⟩:=D7 a m.bA;rw[h1];unfold di;grind
section
variable {ts:List ai}
def oZ(ts:List ai)(x:I)(t:Int):Prop:=∀L D:Nat,1<=L->L+wt x<=1125899906842624->j8 (t,x,(L:Int),ts,(D:Int))=some (bo ts t x,ts,((max D (L+dH ts t x-1):Nat):Int))
theorem MR:∀{ms:List aU} {l:List I},(dm ts ms l).length<=ms.length
 |[],l=>by
  rw[dm]
  . simp
  grind
 |m::ms,[]=>by
  rw[dm]
  . simp
  grind
 |m::ms,v::l=>by
  rw[dm];have:=MR (ms:=ms) (l:=l);grind
theorem th(t:Int)(v:I):1<=dH ts t v:=by
 cases v;rw[dH];omega
theorem PY(o:Ms.length<=1000)(c:∀m,m∈Ms->bK m.bA)(d:∀m,m∈Ms->cm m.ad)(af:v.aj.length=Ms.length)(e:∀x,x∈v.aj->∀t,(bo ts t x).length<=70368744177664)
 (g:∀i,i<Ms.length->di (Ms.getD i aC) (v.aj.getD i av)=false->oZ ts (v.aj.getD i av) (Ms.getD i aC).aw)(L:Nat)(cX:1<=L)(l:L+cK v.aj<1125899906842624):
 ∀(k i:Nat) (D:Nat) (acc:List gv),i+k=Ms.length->L<=D->acc.length+k<=100000->
 ru ((L:Int),Ms,(Ms.length:Int),(i:Int),ts,(D:Int),v,acc)=some (ts,((max D (L+fc ts (Ms.drop i) (v.aj.drop i)):Nat):Int),v,acc++(dm ts (Ms.drop i) (v.aj.drop i)).map im)
 |0,i,D,acc,q,j,p=>by
  rw[ru,b',I.aV,en (by omega:Ms.length<=i)];rw[fc,dm]
  . simp;omega
  . grind
  grind
 |k+1,i,D,acc,q,j,p=>by
  have aB:i<Ms.length:=by omega
  have a:i<v.aj.length:=by omega
  rw[ru,br,ae (aP aB)];simp only[aS,ao,aZ,I.aV,jo];rw[ae (aP a),aa1 (c _ (bd aB aC))];rw[eE aB aC,eE a av,fc,dm];have s:=PY o c d af e g L cX l k (i+1);cases r:di (Ms.getD i aC) (v.aj.getD i av)with
  |true=>
   simp only[ao,c8,bY,b6,b5];rw[bC];grind
  |false=>
   have f:v.aj.getD i av∈v.aj:=bd a av;have y:=fx f;have dp:=g i aB r (L+1) D (by omega) (by omega);have u:=th (ts:=ts) (Ms.getD i aC).aw (v.aj.getD i av);have b:=d _ (bd aB aC);obtain⟨n,aH⟩:∃n:Nat,(Ms.getD i aC).ad=(n:Int):=⟨(Ms.getD i aC).ad.toNat,by unfold cm at b;omega⟩
   simp only[ao,eU,b5,bY,b6];have w:=e _ f (Ms.getD i aC).aw;have aN:aM .i64 (L:Int) 1=((L+1:Nat):Int):=bC;rw[ae (aP a),aN,dp];simp only[ao];rw[aH,HM (by unfold cm at b;omega)];simp only[ao];rw[ae (PX),bC,s _ _ (by omega) (by omega) (by simp;omega)];have:(⟨(n:Int),eW n (Ms.getD i aC).ch (bo ts (Ms.getD i aC).aw (v.aj.getD i av))⟩:gv)=im ⟨(n:Int).toNat,(Ms.getD i aC).ch,bo ts (Ms.getD i aC).aw (v.aj.getD i av)⟩:=(by rfl);simp_all
theorem PZ{R:List bW}(ag:∀x,x∈R->cm x.ad/\x.Data.length<=reachBytes)(b:R.length<=2199023255552)(D:Int):∀(k i:Nat) (acc:List gv),i+k=R.length->acc.length+k<=2199023255552->
 rq (R,(R.length:Int),(i:Int),ts,D,acc)=some (ts,D,acc++((R.drop i).map jY).map im)
 |0,i,acc,e,c=>by
  rw[rq,b',en (by omega:R.length<=i)];simp
 |k+1,i,acc,e,c=>by
  have aB:i<R.length:=by omega
  obtain⟨a,d⟩:=ag _ (bd aB bV);obtain⟨n,aH⟩:∃n:Nat,(R.getD i bV).ad=(n:Int):=⟨(R.getD i bV).ad.toNat,by unfold cm at a;omega⟩
  unfold reachBytes at d;rw[rq,br,ae (aP aB)];simp only[aS,ao,aZ];rw[aH,HM (by unfold cm at a;omega)];simp only[ao];rw[ae (PX),bC,PZ ag b D k (i+1) _ (by omega) (by simp;omega),eE aB bV];have:(⟨(n:Int),eW n false (R.getD i bV).Data⟩:gv)=im (jY (R.getD i bV)):=by
   show _=(⟨(((R.getD i bV).ad.toNat:Nat):Int),eW (R.getD i bV).ad.toNat false (R.getD i bV).Data⟩:gv);grind
  grind
theorem P0{l:List Fd}(D:Int):∀(k i:Nat) (b:ak),i+k=l.length->l.length<=2199023255552->b.length+((l.drop i).flatMap Fd.text).length<=70368744177664->
 rr ((l.length:Int),(i:Int),ts,D,l.map im,b)=some (ts,D,b++(l.drop i).flatMap Fd.text)
 |0,i,b,c,_,a=>by
  rw[rr,b',en (by omega:l.length<=i)];simp
 |k+1,i,b,c,af,a=>by
  have aB:i<l.length:=by omega
  rw[rr,br,ae (aP (by simp;omega)),br];rw[eE aB default]at a⊢;simp only[eY,cq]at a⊢;have aq:(l.map im).getD i wx=im (l.getD i default):=h2 im l i default wx aB;simp only[aZ,aq];have:(im (l.getD i default)).text=(l.getD i default).text:=rfl;rw[this,bws];simp only[aS,ao];rw[bC,P0 D k (i+1) _ (by omega) af (by rw[cq];omega)];simp
end
structure iM (ts:List ai):Prop where
 n:ts.length<=1000
 T:∀t,t∈ts->eZ t
 K:∀t,t∈ts->ox t.Kind
 M:QE ts
 A:∀x,x∈ts->(x.Kind=5\/x.Kind=6)->gQ x.ah/\x.ah.length<=16
 S:∀x,x∈ts->x.Kind=4->∀y,y∈x.bh->cm y.ad
 qA:∀x,x∈ts->x.Kind=8->1<=(ts.getD x.Key.toNat aK).Kind/\(ts.getD x.Key.toNat aK).Kind<=4
section
variable {ts:List ai}
theorem xk{t:Int}{v:I}(h:(ts.getD t.toNat aK).Kind=1):bo ts t v=if v.bN then[1]else[]:=by cases v;rw[bo];simp only[h];rfl
theorem xl{t:Int}{v:I}(h:(ts.getD t.toNat aK).Kind=2):bo ts t v=fb (fE v.bc).toNat:=by cases v;rw[bo];simp only[h];rfl
theorem xm{t:Int}{v:I}(h:(ts.getD t.toNat aK).Kind=3):bo ts t v=v.bl:=by cases v;rw[bo];simp only[h];rfl
theorem xn{t:Int}{v:I}(h:(ts.getD t.toNat aK).Kind=4):bo ts t v=fb v.ad.toNat:=by cases v;rw[bo];simp only[h];rfl
theorem qt{t:Int}{v:I}(h:(ts.getD t.toNat aK).Kind=5):bo ts t v=(gX fm (fe ts (ts.getD t.toNat aK).ah v.aj v.Rest)).flatMap Fd.text:=by cases v;rw[bo];simp only[h];rfl
theorem oL{t:Int}{v:I}(h:(ts.getD t.toNat aK).Kind=6):bo ts t v=dP v.ad.toNat++(match cB (ts.getD t.toNat aK).ah v.ad with
 |some m=>(bt ts m.aw v.aj).headD []
 |none=>(v.Rest.map bW.Data).headD []):=by
 cases v;rw[bo];simp only[h];rfl
theorem oM{t:Int}{v:I}(h:(ts.getD t.toNat aK).Kind=7):bo ts t v=(bt ts (ts.getD t.toNat aK).aF v.aj).flatMap da:=by cases v;rw[bo];simp only[h];rfl
theorem oN{t:Int}{v:I}(h:(ts.getD t.toNat aK).Kind=8):bo ts t v=fg (bt ts (ts.getD t.toNat aK).Key v.ay) (bt ts (ts.getD t.toNat aK).aF v.aj):=by cases v;rw[bo];simp only[h];rfl
theorem oO{t:Int}{v:I}(h:(ts.getD t.toNat aK).Kind=9):bo ts t v=match bt ts (ts.getD t.toNat aK).aF v.aj with
 |[]=>[]
 |p::_=>1::p:=by
 cases v;rw[bo];simp only[h];rfl
theorem pW(t:Int)(v:I):dH ts t v=1+max (if v.ay=[]then 0 else 1) (if(ts.getD t.toNat aK).Kind=5 then fc ts (ts.getD t.toNat aK).ah v.aj
 else if(ts.getD t.toNat aK).Kind=6 then(match cB (ts.getD t.toNat aK).ah v.ad with
  |some m=>dC ts m.aw v.aj
  |none=>0)
 else dC ts (ts.getD t.toNat aK).aF v.aj):=by
 cases v;rw[dH];try rfl
theorem Ag{t:Int}{v:I}(c:v.ay=[])(b:v.aj=[]):dH ts t v=1:=by
 rw[pW,c,b];have h1:dC ts (ts.getD t.toNat aK).aF []=0:=by rw[dC]
 have a:fc ts (ts.getD t.toNat aK).ah []=0:=by rw[fc];intros;simp_all
 rw[h1,a]
 have d:(match cB (ts.getD t.toNat aK).ah v.ad with
  |some m=>dC ts m.aw []
  |none=>0)=0:=by
  split
  . rw[dC]
  . rfl
 grind
theorem MS(b:¬x.Kind=8)(d:∀y,y∈v.aj->(bo ts x.aF y).length<=1000000000000000)(e:∀y,y∈v.aj->oZ ts y x.aF)(af:v.aj.length<=reachBytes)(L:Nat)(cX:1<=L)(g:L+cK v.aj<1125899906842624):
 ∀(k i D:Nat) (acc:ak),i+k=v.aj.length->L<=D->acc.length+((bt ts x.aF (v.aj.drop i)).flatMap da).length<=70368744177664->
 lQ ((L:Int),v.aj,(v.aj.length:Int),(i:Int),ts,(D:Int),v,x,acc)=some (ts,((max D (L+dC ts x.aF (v.aj.drop i)):Nat):Int),acc++(bt ts x.aF (v.aj.drop i)).flatMap da)
 |0,i,D,acc,j,f,c=>by
  rw[lQ,b',en (by omega:v.aj.length<=i),dC,bt];simp;omega
 |k+1,i,D,acc,j,f,c=>by
  have aB:i<v.aj.length:=by omega
  have ag:=dA af;have a:v.aj.getD i av∈v.aj:=bd aB av;have n:=fx a;rw[eE aB av,bt,eY,cq]at c;have m:=d _ a;have dp:=e _ a (L+1) D (by omega) (by omega);have l:=th (ts:=ts) x.aF (v.aj.getD i av);have aN:aM .i64 (L:Int) 1=((L+1:Nat):Int):=bC;rw[lQ,br,ae (aP aB)];simp only[aS,ao,aZ,I.aV];rw[al (by simp[b]),aN,dp];simp only[ao];rw[EF];simp only[ao];rw[bws];simp only[ao];rw[bC,MS b d e af L cX g k (i+1) _ _ (by omega) (by omega) (by rw[cq];omega),eE aB av,dC,bt,eY,ir];grind
theorem NJ(d:x.Kind=8)(q:v.aj.length=v.ay.length)(g:∀y,y∈v.aj->(bo ts x.aF y).length<=1000000000000000)(j:∀y,y∈v.ay->(bo ts x.Key y).length<=1000000000000000)
 (l:∀y,y∈v.aj->oZ ts y x.aF)(m:∀y,y∈v.ay->oZ ts y x.Key)(h1:∀y,y∈v.ay->dH ts x.Key y=1)(af:v.aj.length<=reachBytes)(L:Nat)(cX:1<=L)(o:L+cK v.aj+cK v.ay<1125899906842624):
 ∀(k i D:Nat) (acc:ak),i+k=v.aj.length->L<=D->acc.length+(fg (bt ts x.Key (v.ay.drop i)) (bt ts x.aF (v.aj.drop i))).length<=70368744177664->
 lQ ((L:Int),v.aj,(v.aj.length:Int),(i:Int),ts,(D:Int),v,x,acc)=some (ts,((max D (L+max (if v.ay.drop i=[]then 0 else 1) (dC ts x.aF (v.aj.drop i))):Nat):Int),acc++fg (bt ts x.Key (v.ay.drop i)) (bt ts x.aF (v.aj.drop i)))
 |0,i,D,acc,p,n,f=>by
  rw[lQ,b',en (by omega:v.aj.length<=i),en (by omega:v.ay.length<=i),dC,bt,bt,fg]
  . simp;omega
  grind
 |k+1,i,D,acc,p,n,f=>by
  have aB:i<v.aj.length:=by omega
  have a:i<v.ay.length:=by omega
  have ag:=dA af;have c:v.aj.getD i av∈v.aj:=bd aB av;have b:v.ay.getD i av∈v.ay:=bd a av;have u:=fx c;have w:=fx b;rw[eE aB av,eE a av,bt,bt,fg,cq,cq]at f;have s:=g _ c;have t:=j _ b;have e:=m _ b (L+1) D (by omega) (by omega);rw[h1 _ b]at e;have dp:=l _ c (L+1) (max D (L+1+1-1)) (by omega) (by omega);have r:=th (ts:=ts) x.aF (v.aj.getD i av);have aN:aM .i64 (L:Int) 1=((L+1:Nat):Int):=bC;rw[lQ,br,ae (aP aB)];simp only[aS,ao,aZ,I.aV];rw[ae (by simp[d]),ae (aP a),aN,e];simp only[ao];rw[EF];simp only[ao];rw[bws];simp only[ao];rw[dp];simp only[ao];rw[EF];simp only[ao];rw[bws (by rw[cq];omega)];simp only[ao];rw[bC,NJ d q g j l m h1 af L cX o k (i+1) _ _ (by omega) (by omega) (by rw[cq,cq];omega),eE aB av,eE a av,dC,bt,bt,fg,ir,ir];grind
end
section
variable {ts:List ai}(H:iM ts)
theorem wW(H:iM ts)(a:bK v)(b:wt v<=1099511627776)(t:Int):(bo ts t v).length<=23089744183296:=by
 have:=abZ H.M a b t;omega
theorem abf{l:List I}{r:List bW}(h:gQ ms)(ag:jR ms r):GG ((fe ts ms l r).map im)=some ((gX fm (fe ts ms l r)).map im):=by
 have e:∀a b:Fd,lF (im a) (im b)=fm a b:=λa b=>by unfold lF fm im;simp
 have d:SWO lF:=by refine⟨λx=>?_,λx y z h1 c=>?_,λx y z h1 c=>?_⟩<;>simp[lF]at*<;>omega
 have f:ki lF ((fe ts ms l r).map im)=true:=by
  have h0:=wu (ts:=ts) (l:=l) h ag;generalize fe ts ms l r=q at h0;induction q with
  |nil=>rfl
  |cons a q ih=>
   simp only[ki,c5,fK,gB]at h0⊢;grind
 unfold GG;rw[OP d f,NF im e]
theorem BU{D L b:Nat}(h:w=1+b):max (max D L) (L+b)=max D (L+w-1):=by omega
theorem ahF{D L b:Nat}(h:w=1+b):max (max D L) (L+1+b-1)=max D (L+w-1):=by omega
theorem SM{b:Nat}(h:w=1+max 0 b):w=1+b:=by omega
theorem aec(k:∀m,m∈x.ah->bK m.bA)(e:gQ x.ah)(N:x.ah.length<=16)(c:jR x.ah v.Rest)(o:v.aj.length=x.ah.length)
 (w:∀y,y∈v.Rest->y.Data.length<=reachBytes)(r:∀x,x∈v.aj->∀t,(bo ts t x).length<=23089744183296)
 (j:∀i,i<x.ah.length->oZ ts (v.aj.getD i av) (x.ah.getD i aC).aw)
 (M:((gX fm (fe ts x.ah v.aj v.Rest)).flatMap Fd.text).length<=23089744183296)
 (L D:Nat)(cX:1<=L)(G:L<=D)(H:L+cK v.aj<1125899906842624)(K:(v.Rest.map λx=>x.Data.length+1).sum<=1099511627776):
 C3 (x,v,(L:Int),ts,(D:Int))=some ((gX fm (fe ts x.ah v.aj v.Rest)).flatMap Fd.text,ts,((max D (L+fc ts x.ah v.aj):Nat):Int)):=by
 have u:=e.2;have g:∀y,y∈v.Rest->cm y.ad/\y.Data.length<=reachBytes:=λy b=>⟨(c.2 y b).1,w y b⟩
 have J:v.Rest.length<=(v.Rest.map λx=>x.Data.length+1).sum:=by
  generalize v.Rest=R;induction R with
  |nil=>simp
  |cons a R ih=>simp only[gA,gB,oG];omega
 have O:=MR (ts:=ts) (ms:=x.ah) (l:=v.aj);have A:=PY (ts:=ts) (Ms:=x.ah) (v:=v) (by omega) k u o (λy b t=>by have:=r y b t;omega) (λi n _=>j i n) L cX (by omega) x.ah.length 0 D [] (by omega) (by omega) (by simp;omega);have B:ru ((L:Int),x.ah,(x.ah.length:Int),0,ts,(D:Int),v,[])=_:=A;rw[C3];simp only[I.aV];rw[B];simp only[aS,ao,fT,fS];generalize ((max D (L+fc ts x.ah v.aj):Nat):Int)=d;have C:=PZ (ts:=ts) (R:=v.Rest) g (by omega) d v.Rest.length 0 ((dm ts x.ah v.aj).map im) (by omega) (by simp;omega);have E:rq (v.Rest,(v.Rest.length:Int),0,ts,d,(dm ts x.ah v.aj).map im)=_:=C;rw[E];simp only[ao,fT];rw[<-r3];have hs:=abf (ts:=ts) (l:=v.aj) e c;have p:(fe ts x.ah v.aj v.Rest).length<=2199023255552:=by unfold fe;simp;omega
 have c4:dm ts x.ah v.aj++v.Rest.map jY=fe ts x.ah v.aj v.Rest:=rfl;rw[c4];generalize fe ts x.ah v.aj v.Rest=q at*;rw[hs];simp only[ao];have f:=kL fm q;rw[ae (by simp[f.length_eq])];have s:(gX fm q).length<=2199023255552:=by rw[f.length_eq];exact p
 generalize gX fm q=z at*;have P:=P0 (ts:=ts) (l:=z) d z.length 0 [] (h7 _) s (by simp only[fT,jw];omega);have F:rr (((z.map im).length:Int),0,ts,d,z.map im,[])=some (ts,d,[]++(z.drop 0).flatMap Fd.text):=by grind
 rw[F];simp only[ao,Ff,fT,fS]
theorem abg(A:x.ah.length<9223372036854775807)(B:gQ x.ah)(l: -9223372036854775808<=v.ad/\v.ad<=9223372036854775807)
 (a:match cB x.ah v.ad with
  |some m=>v.Rest=[]/\v.aj.length=1/\e3 ts false m.aw v.aj
  |none=>x.Open=true/\True/\cm v.ad/\v.aj=[]/\∃d,v.Rest=[⟨v.ad,d⟩])
 (E:∀y,y∈v.Rest->y.Data.length<=reachBytes)(z:∀x,x∈v.aj->∀t,(bo ts t x).length<=23089744183296)
 (w:∀x,x∈v.aj->∀t,bX ts false t x->oZ ts x t)
 (L D:Nat)(cX:1<=L)(H:L<=D)(J:L+cK v.aj<1125899906842624):
 yy (x,v,(L:Int),ts,(D:Int)) = some (dP v.ad.toNat++(match cB x.ah v.ad with
  |some m=>(bt ts m.aw v.aj).headD []
  |none=>(v.Rest.map bW.Data).headD []),ts,((max D (L+(match cB x.ah v.ad with
  |some m=>dC ts m.aw v.aj
  |none=>0)):Nat):Int)):=by
 obtain⟨r,p,_,g⟩:=mS (t:=x) v.ad A;rcases tC g with⟨e,q,o,F,c,G⟩|⟨e,c⟩
 . rw[c]at a;rw[c];simp only at a⊢;obtain⟨d1,d2,d3⟩:=a;have b:=B.2 _ (bd o aC);rw[G]at b;obtain⟨n,aH⟩:∃n:Nat,v.ad=(n:Int):=⟨v.ad.toNat,by unfold cm at b;omega⟩
   rw[yy];simp only[I.aV];rw[p,aH,hy (by unfold cm at b;omega),ui (by unfold cm at b;omega)];simp only[aS,ao];rw[al (by simp[e]),F,ae (aP o)]
   match b:v.aj,d2 with
   |[y],_=>
    have f:y∈v.aj:=by rw[b];exact .head _
    have i:aG 0 ([y]:List I).length=true:=aP (k:=0) (by simp);have N:=fx f;have g:=cI.1 d3 y f;have dp:=w y f _ g (L+1) D (by omega) (by omega);have aN:aM .i64 (L:Int) 1=((L+1:Nat):Int):=bC;rw[ae i,aN];simp only[aZ,r4,jv];rw[dp];have M:=z y f (x.ah.getD q aC).aw;have C:=kd (n:=n) (by rw[aH]at l;omega);simp only[ao];rw[ae (gb)];have K:=th (ts:=ts) (x.ah.getD q aC).aw y;have u:dC ts (x.ah.getD q aC).aw [y]=dH ts (x.ah.getD q aC).aw y:=by
     have c4:dC ts (x.ah.getD q aC).aw []=0:=by rw[dC]
     rw[dC,c4];omega
    have s:bt ts (x.ah.getD q aC).aw [y]=[bo ts (x.ah.getD q aC).aw y]:=by rw[bt,bt]
    have e:max D (L+1+dH ts (x.ah.getD q aC).aw y-1)=max D (L+dH ts (x.ah.getD q aC).aw y):=(by omega);rw[s,u,e];rfl
 . rw[c]at a;rw[c];simp only at a⊢;obtain⟨d1,d2,d3,d4,d,d5⟩:=a;obtain⟨n,aH⟩:∃n:Nat,v.ad=(n:Int):=⟨v.ad.toNat,by unfold cm at d3;omega⟩
   have j:=E ⟨v.ad,d⟩ (by rw[d5];exact .head _);simp only at j;unfold reachBytes at j;have C:=kd (n:=n) (by rw[aH]at l;omega);rw[yy];simp only[I.aV];rw[p,d5,aH,hy (by unfold cm at d3;omega),ui (by unfold cm at d3;omega)];simp only[aS,ao];have i:aG 0 ([⟨(n:Int),d⟩]:List bW).length=true:=aP (k:=0) (by simp);rw[ae (by simp[e]),ae i];simp only[r4,jv];rw[ae (gb)];have e:max D (L+0)=D:=(by omega);rw[e];rfl
set_option maxHeartbeats 400000 in
theorem aed(H:iM ts)(aV:bK v):wt v<=1099511627776->∀t,bX ts false t v->oZ ts v t:=by
 induction aV with
 |mk v hs h1 N aD ab K R dc X az a1 a0 aY=>
  intro aX t r L D cX a5;have aJ:bK v:= .mk v hs h1 N aD ab K R dc X az a1;have a9:=fD v;have G:∀x,x∈v.aj->∀t,(bo ts t x).length<=23089744183296:=λx o t=>wW H (K x o) (by have:=fx o;omega) t;have aU:∀x,x∈v.ay->∀t,(bo ts t x).length<=23089744183296:=λx o t=>wW H (ab x o) (by have:=fx o;omega) t;have F:∀x,x∈v.aj->∀t,bX ts false t x->oZ ts x t:=λx o t=>aY x o (by have:=fx o;omega) t;have aL:∀x,x∈v.ay->∀t,bX ts false t x->oZ ts x t:=λx o t=>a0 x o (by have:=fx o;omega) t;have P:=wW H aJ aX t;obtain⟨⟨a3,a4,q,_⟩,r⟩:=(eH _ _ _).1 r;obtain⟨j,rfl⟩:∃j:Nat,t=(j:Int):=⟨t.toNat,by omega⟩
  have aa:j<ts.length:=by omega
  rw[j8];simp only[aS,ao];rw[ae (aP aa),zM];simp only[aZ,I.aV]at r q⊢;have J:=bd aa aK;have C:=pW (ts:=ts) (j:Int) v;have aW:=@xk ts (j:Int) v;have an:=@xl ts (j:Int) v;have ap:=@xm ts (j:Int) v;have aq:=@xn ts (j:Int) v;have U:=@qt ts (j:Int) v;have ar:=@oL ts (j:Int) v;have V:=@oM ts (j:Int) v;have W:=@oN ts (j:Int) v;have au:=@oO ts (j:Int) v;simp only[aZ]at C aW an ap aq U ar V W au;have Y:=H.A _ J;have aE:=H.qA _ J;have aI:=H.S _ J;generalize ts.getD j aK=x at*;have ag:¬x.Kind=5->¬x.Kind=6->v.ay=[]->dH ts (j:Int) v=1+dC ts x.aF v.aj:=λa b c=>by grind
  have M:v.ay=[]->v.aj=[]->max D (L+dH ts (j:Int) v-1)=max D L:=λa b=>by rw[Ag a b];omega
  rcases r with⟨k,s,u,w,l,g,B⟩|⟨k,s,u,w,l,g,B,p,E⟩|⟨k,s,u,w,l,g,B,p⟩|⟨k,s,u,w,l,g,B,p⟩|⟨k,s,u,w,l,g,B,p⟩|⟨k,s,u,w,l,g⟩|⟨k,s,u,w,l,g,B,p,E⟩|⟨k,s,u,w,l,g,B,p,E,aA,a2⟩|⟨k,s,u,w,l,g,B,p,E⟩<;>rw[k]at q
  . grind
  . have d:=q.symm;rw[al (by simp[d]),ae (by simp[d]),an d,M l g,EI X];simp only[ao];have ax:=AF X;obtain⟨n,aH⟩:∃n:Nat,fE v.bc=(n:Int):=⟨(fE v.bc).toNat,by unfold fE;split<;>omega⟩
    rw[aH,mb]at ax;rw[aH,EJ ax];rfl
  . have d:=q.symm;rw[al (by simp[d]),al (by simp[d]),ae (by simp[d]),ap d,M l g]
  . have d:=q.symm;rw[al (by simp[d]),al (by simp[d]),al (by simp[d]),ae (by simp[d]),aq d,M l g]
    obtain⟨n,aH⟩:∃n:Nat,v.ad=(n:Int):=⟨v.ad.toNat,by
     rcases p with⟨y,f,he⟩|⟨_,_,he⟩
     . have:=aI d y f;unfold cm at this;omega
     . unfold cm at he;omega⟩
    rw[aH,hy,EJ (by omega),mb];rfl
  . have d:=q.symm;rw[al (by simp[d]),al (by simp[d]),al (by simp[d]),al (by simp[d]),ae (by simp[d]),U d];obtain⟨Q,am⟩:=Y (.inl d);obtain⟨aQ,aR⟩:=hG.1 p;rw[aec (H.T _ J).iG Q am B aQ (λy f=>R y f) G (λi K=>F _ (bd (by omega) av) _ (aR i K)) (by rw[<-U d];exact P) L (max D L) cX (by omega) (by omega) (by omega)];simp only[ao];rw[ae d,ae g]at C;have e:max (max D L) (L+fc ts x.ah v.aj)=max D (L+dH ts (j:Int) v-1):=BU (SM C);rw[e]
  . have d:=q.symm;rw[al (by simp[d]),al (by simp[d]),al (by simp[d]),al (by simp[d]),al (by simp[d]),ae (by simp[d]),ar d];obtain⟨Q,am⟩:=Y (.inr d);rw[al (show ¬x.Kind=5 by omega),ae d,ae l]at C;rw[abg (dA (ig (H.T _ J).gY)) Q az g (λy f=>R y f) G F L (max D L) cX (by omega) (by omega)];simp only[ao]
    exact eu (λz:Nat=>(some (dP v.ad.toNat++(match cB x.ah v.ad with
     |some m=>(bt ts m.aw v.aj).headD []
     |none=>(v.Rest.map bW.Data).headD []),ts,(z:Int)):Option (ak×List ai×Int))) (BU (D:=D) (L:=L) (SM C))
  . have d:=q.symm;rw[al (by simp[d]),al (by simp[d]),al (by simp[d]),al (by simp[d]),al (by simp[d]),al (by simp[d]),al (by simp[d])];have r:=cI.1 E;rw[V d]at P;have:=MS (x:=x) (v:=v) (by omega) (λy f=>by have:=G y f x.aF;omega) (λy f=>F y f x.aF (r y f)) N L cX (by omega) v.aj.length 0 (max D L) [] (by omega) (by omega) (by simp only[fT,jw];omega);have h0:lQ ((L:Int),v.aj,(v.aj.length:Int),0,ts,((max D L:Nat):Int),v,x,[])=_:=this;rw[h0];simp only[ao,Ff];have af:=ag (by omega) (by omega) g;have e:max (max D L) (L+dC ts x.aF v.aj)=max D (L+dH ts (j:Int) v-1):=BU af;rw[V d,fT,fS,e]
  . have d:=q.symm;rw[al (by simp[d]),al (by simp[d]),al (by simp[d]),al (by simp[d]),al (by simp[d]),al (by simp[d]),al (by simp[d])];have r:=cI.1 aA;have Z:=cI.1 E;rw[W d]at P;obtain⟨a',ba⟩:=aE d;have aT:∀y,y∈v.ay->dH ts x.Key y=1:=λy f=>by
     obtain⟨⟨_,_,b3,_⟩,b⟩:=(eH _ _ _).1 (Z y f);apply Ag<;>grind
    have:=NJ (x:=x) (v:=v) d p (λy f=>by have:=G y f x.aF;omega) (λy f=>by have:=aU y f x.Key;omega) (λy f=>F y f x.aF (r y f)) (λy f=>aL y f x.Key (Z y f)) aT N L cX (by omega) v.aj.length 0 (max D L) [] (by omega) (by omega) (by simp only[fT,jw];omega);have h0:lQ ((L:Int),v.aj,(v.aj.length:Int),0,ts,((max D L:Nat):Int),v,x,[])=_:=this;rw[h0];simp only[ao,Ff];rw[al (show ¬x.Kind=5 by omega),al (show ¬x.Kind=6 by omega)]at C;simp only[fT,fS];have e:max (max D L) (L+max (if v.ay=[]then 0 else 1) (dC ts x.aF v.aj))=max D (L+dH ts (j:Int) v-1):=BU C;rw[W d,e]
  . have d:=q.symm;rw[al (by simp[d]),al (by simp[d]),al (by simp[d]),al (by simp[d]),al (by simp[d]),al (by simp[d]),ae (by simp[d]),au d];have r:=cI.1 E
    match O:v.aj,p with
    |[],_=>rw[hO,M g O,bt]
    |[y],_=>
     have f:y∈v.aj:=by rw[O];exact .head _
     have aO:aG 0 ([y]:List I).length=true:=aP (k:=0) (by simp);rw[bw,ae aO];have a8:=fx f;have dp:=F y f x.aF (r y f) (L+1) (max D L) (by omega) (by omega);have aN:aM .i64 (L:Int) 1=((L+1:Nat):Int):=bC;rw[aN];simp only[r4,jv];rw[dp];have a7:=G y f x.aF;simp only[ao];rw[ae (gb (by simp;omega))];have af:=ag (by omega) (by omega) g;rw[O]at af;have a6:=th (ts:=ts) x.aF y;have aC:dC ts x.aF [y]=dH ts x.aF y:=by
      have c4:dC ts x.aF []=0:=by rw[dC]
      rw[dC,c4];omega
     have aB:bt ts x.aF [y]=[bo ts x.aF y]:=by rw[bt,bt]
     rw[aC]at af;have e:max (max D L) (L+1+dH ts x.aF y-1)=max D (L+dH ts (j:Int) v-1):=ahF af;rw[aB,e];rfl
    |a::b::c,h=>simp at h
end
section
variable {ts:List ai}
def iL(ts:List ai)(x:I)(t:Int):Prop:=iV ((⟨ts⟩:aT),t,x)=some (bo ts t x)
def oY(ts:List ai)(x:I)(t:Int):Prop:=mJ ((⟨ts⟩:aT),t,x)=some ((dH ts t x:Nat):Int)
theorem NK(b:∀y,y∈v.aj->(bo ts x.aF y).length<=1000000000000000)(d:∀y,y∈v.aj->iL ts y x.aF)(af:v.aj.length<=reachBytes):
 ∀(k i:Nat) (acc:ak),i+k=v.aj.length->acc.length+((bt ts x.aF (v.aj.drop i)).flatMap da).length<=70368744177664->
 sQ (acc,(i:Int),ts,v,x)=some (acc++(bt ts x.aF (v.aj.drop i)).flatMap da)
 |0,i,acc,e,a=>by
  rw[sQ,b',en (by omega:v.aj.length<=i),bt];simp
 |k+1,i,acc,e,a=>by
  have aB:i<v.aj.length:=by omega
  have ag:=dA af;have c:v.aj.getD i av∈v.aj:=bd aB av;rw[eE aB av,bt,eY,cq]at a;have f:=b _ c;have dp:=d _ c;unfold iL at dp;rw[sQ,br,ae (aP aB)];simp only[aS,ao,aZ,I.aV];rw[dp];simp only[ao];rw[Dg];simp only[ao];rw[ae (gb),bC,NK b d af k (i+1) _ (by omega) (by rw[cq];omega),eE aB av,bt,eY,ir]
theorem Ot(n:v.aj.length=v.ay.length)(d:∀y,y∈v.aj->(bo ts x.aF y).length<=1000000000000000)(e:∀y,y∈v.ay->(bo ts x.Key y).length<=1000000000000000)
 (j:∀y,y∈v.aj->iL ts y x.aF)(l:∀y,y∈v.ay->iL ts y x.Key)(af:v.aj.length<=reachBytes):
 ∀(k i:Nat) (acc:ak),i+k=v.aj.length->acc.length+(fg (bt ts x.Key (v.ay.drop i)) (bt ts x.aF (v.aj.drop i))).length<=70368744177664->
 sR (acc,(i:Int),ts,v,x)=some (acc++fg (bt ts x.Key (v.ay.drop i)) (bt ts x.aF (v.aj.drop i)))
 |0,i,acc,m,c=>by
  rw[sR,b',en (by omega:v.aj.length<=i),en (by omega:v.ay.length<=i),bt,bt,fg]
  . simp
  grind
 |k+1,i,acc,m,c=>by
  have aB:i<v.aj.length:=by omega
  have a:i<v.ay.length:=by omega
  have ag:=dA af;have f:v.aj.getD i av∈v.aj:=bd aB av;have g:v.ay.getD i av∈v.ay:=bd a av;rw[eE aB av,eE a av,bt,bt,fg,cq,cq]at c;have o:=d _ f;have p:=e _ g;have dp:=j _ f;have b:=l _ g;unfold iL at dp b;rw[sR,br,ae (aP a)];simp only[aS,ao,aZ,I.aV];rw[b];simp only[ao];rw[Dg];simp only[ao];rw[ae (gb),ae (aP aB),dp];simp only[ao];rw[Dg];simp only[ao];rw[ae (gb (by rw[cq];omega)),bC,Ot n d e j l af k (i+1) _ (by omega) (by rw[cq,cq];omega),eE aB av,eE a av,bt,bt,fg,ir,ir]
def lx(R:List bW)(n:Nat):List Fd:=(R.filter λx=>decide (x.ad=(n:Int))).map jY
theorem aa2{a:bW}{l:List bW}{n:Nat}(h:a.ad=(n:Int)):lx (a::l) n=jY a::lx l n:=by unfold lx;rw[List.filter_cons,ae (by rw[h];simp),gB]
theorem abh{a:bW}{l:List bW}{n:Nat}(h:¬a.ad=(n:Int)):lx (a::l) n=lx l n:=by unfold lx;rw[List.filter_cons,al (by simpa using h)]
theorem ahV{d:Type}{m:aU}{w:I}(b:bK w)(A B:Option d):
 ((if !(!m.bU) then jH (w,m.bA)else some false).bind λc=>if(bif (!m.bU)then true else(!c)) then A else B)=if di m w then B else A:=by
 cases a:m.bU with
 |false=>
  have:di m w=false:=by unfold di;rw[a];rfl
  rw[this];rfl
 |true=>
  have:=Oq b a;simp only[c8,eU,b5,this];cases di m w<;>rfl
theorem Iv(ag:∀y,y∈v.Rest->y.Data.length<=reachBytes)(c:v.Rest.length<=reachBytes)(n:Nat)(aH:n<=1000):
 ∀(k i:Nat) (b:ak),i+k=v.Rest.length->b.length+((lx (v.Rest.drop i) n).flatMap Fd.text).length<=70368744177664->
 mE (b,(n:Int),(i:Int),ts,v,x)=some (b++(lx (v.Rest.drop i) n).flatMap Fd.text,(n:Int),ts,v,x)
 |0,i,b,f,a=>by
  rw[mE,b',en (by omega:v.Rest.length<=i),I.aV];simp[lx]
 |k+1,i,b,f,a=>by
  have aB:i<v.Rest.length:=by omega
  have g:=dA c;have d:=ag _ (bd aB bV);unfold reachBytes at d;rw[eE aB bV]at a;rw[mE,br,ae (aP aB)];simp only[aS,ao,aZ,I.aV];rw[eE aB bV];by_cases e:(v.Rest.getD i bV).ad=(n:Int)
  . rw[aa2 e,eY]at a⊢;have ht:(jY (v.Rest.getD i bV)).text=eW n false (v.Rest.getD i bV).Data:=by unfold jY Fd.text;rw[e];rfl
    rw[ht,cq]at a;rw[ae (by rw[e];simp),ae (aP aB),KY (by omega) (by omega)];simp only[ao];rw[ae (gb),bC,Iv ag c n aH k (i+1) _ (by omega) (by rw[cq];omega),ht,ir]
  . rw[abh e]at a⊢;rw[al (by simpa using e),bC,Iv ag c n aH k (i+1) _ (by omega) a]
noncomputable def x' (ts:List ai)(x:ai)(v:I)(n:Nat):List Fd:=(fe ts x.ah v.aj v.Rest).filter λf=>decide (f.id=n)
theorem Jm{x:ai}(q:x.ah.length<9223372036854775807)(s:gQ x.ah)(w:jR x.ah v.Rest)(l:v.aj.length=x.ah.length)
 (ag:∀y,y∈v.Rest->y.Data.length<=reachBytes)(g:v.Rest.length<=reachBytes)(u:∀y,y∈v.aj->bK y)(o:∀x,x∈v.aj->∀t,(bo ts t x).length<=23089744183296)
 (z:∀i,i<x.ah.length->iL ts (v.aj.getD i av) (x.ah.getD i aC).aw):
 ∀(k n:Nat) (b:ak),n+k=1001->1<=n->b.length+(((List.range' n k).flatMap (x' ts x v)).flatMap Fd.text).length<=70368744177664->
 pe (b,(n:Int),ts,v,x)=some (b++((List.range' n k).flatMap (x' ts x v)).flatMap Fd.text)
 |0,n,b,H,h1,a=>by
  rw[pe,b'];simp
 |k+1,n,b,H,h1,a=>by
  have J:∀y,y∈v.Rest->0<=y.ad:=λy M=>by have:=(w.2 y M).1;unfold cm at this;omega
  have aq:x' ts x v n=((dm ts x.ah v.aj).filter λf=>decide (f.id=n))++lx v.Rest n:=by
   unfold x' fe lx;rw[List.filter_append,YI _ _ J]
  rw[B6,eY,B3,aq,B3]at a⊢;simp only[cq]at a;rw[pe,br];obtain⟨r,_,P,G⟩:=mS (t:=x) (n:Int) q;simp only[aS,ao,aZ,I.aV];rw[P];simp only[ao];have A:∀c:ak,c.length+((lx v.Rest n).flatMap Fd.text).length<=70368744177664->mE (c,(n:Int),0,ts,v,x)=some (c++(lx v.Rest n).flatMap Fd.text,(n:Int),ts,v,x):=λc h=>by
   have:=Iv (ts:=ts) (x:=x) ag g n (by omega) v.Rest.length 0 c (by omega) (by simpa using h);grind
  rcases tC G with⟨e,j,B,N,F,O⟩|⟨e,F⟩
  . have p:j<v.aj.length:=(by omega);have C:v.aj.getD j av∈v.aj:=bd p av;have d:=K3 (ts:=ts) (On s) l B (n:=n) (by rw[O];simp);rw[ae e,N,ae (aP B)];rw[ae (by rw[aP p];rfl)];simp only[aZ];rw[ahV (u _ C)];have E:=Jm q s w l ag g u o z k (n+1);cases D:di (x.ah.getD j aC) (v.aj.getD j av)with
    |true=>
     rw[D,ae rfl]at d;rw[d]at a⊢;rw[ae rfl,A b (by omega)];simp only[ao,I.aV];rw[bC,E _ (by omega) (by omega) (by rw[cq];omega)];simp
    |false=>
     rw[D,bw]at d;rw[d]at a⊢;have Q:=o _ C (x.ah.getD j aC).aw;have dp:=z j B;unfold iL at dp;have ht:([⟨n,(x.ah.getD j aC).ch,bo ts (x.ah.getD j aC).aw (v.aj.getD j av)⟩]:List Fd).flatMap Fd.text=eW n (x.ah.getD j aC).ch (bo ts (x.ah.getD j aC).aw (v.aj.getD j av)):=by simp only[eY,List.flatMap_nil,mg];rfl
     rw[ht]at a⊢;rw[bw,ae (aP p),dp];simp only[ao];rw[KY (by omega) (by omega)];simp only[ao];rw[ae (gb),A _ (by rw[cq];omega)];simp only[ao,I.aV];rw[bC,E _ (by omega) (by omega) (by rw[cq,cq];omega)];grind
  . have L:((dm ts x.ah v.aj).filter λf=>decide (f.id=n))=[]:=LM λm K=>by
     have:=nW F m K;omega
    rw[L]at a⊢;rw[al (by simp[e]),A b (by omega)];simp only[ao,I.aV];rw[bC,Jm q s w l ag g u o z k (n+1) _ (by omega) (by omega) (by rw[cq];omega)];simp
theorem aeH{c:Type}{m:aU}{w:I}(b:bK w)(A B:Option c):
 ((if m.bU then jH (w,m.bA)else some false).bind λr=>if(bif m.bU then r else false) then A else B)=if di m w then A else B:=by
 cases a:m.bU with
 |false=>
  have:di m w=false:=by unfold di;rw[a];rfl
  rw[this];rfl
 |true=>
  have:=Oq b a;simp only[b5,this];cases di m w<;>rfl
theorem NL(bf:¬x.Kind=5)(a:¬x.Kind=6)(c:∀y,y∈v.aj->oY ts y x.aF)(af:v.aj.length<=reachBytes):
 ∀(k i b:Nat),i+k=v.aj.length->hW ((b:Int),(i:Int),ts,v,x)=some (((max b (dC ts x.aF (v.aj.drop i)):Nat):Int),v)
 |0,i,b,d=>by rw[hW,b',en (by omega:v.aj.length<=i),dC,I.aV,Nat.max_zero]
 |k+1,i,b,d=>by
  have aB:i<v.aj.length:=by omega
  have ag:=dA af;have dp:=c _ (bd aB av);unfold oY at dp;rw[hW,br,al (by simp[bf]),al (by simp[a]),ae (aP aB)];simp only[aZ,I.aV];rw[dp];simp only[aS,ao];rw[zM,bC,NL bf a c af k (i+1) _ (by omega),eE aB av,dC,Nat.max_assoc]
theorem Ou(bf:x.Kind=5)(g:v.aj.length=x.ah.length)(c:∀y,y∈v.aj->bK y)(e:∀i,i<x.ah.length->oY ts (v.aj.getD i av) (x.ah.getD i aC).aw)(af:v.aj.length<=reachBytes):
 ∀(k i b:Nat),i+k=v.aj.length->hW ((b:Int),(i:Int),ts,v,x)=some (((max b (fc ts (x.ah.drop i) (v.aj.drop i)):Nat):Int),v)
 |0,i,b,f=>by
  rw[hW,b',en (by omega:v.aj.length<=i),I.aV,en (by omega:x.ah.length<=i)];rw[fc]
  . grind
  grind
 |k+1,i,b,f=>by
  have aB:i<v.aj.length:=by omega
  have a:i<x.ah.length:=by omega
  have ag:=dA af;have j:=bd aB av;have dp:=e i a;unfold oY at dp;rw[hW,br,ae (by simp[bf]),ae (aP a)];simp only[aS,ao,aZ,I.aV];rw[ae (by rw[aP aB];rfl),aeH (c _ j)];have d:=Ou bf g c e af k (i+1);rw[eE aB av,eE a aC,fc];cases l:di (x.ah.getD i aC) (v.aj.getD i av)with
  |true=>rw[ae rfl,bC,d _ (by omega),ae rfl]
  |false=>
   rw[bw,al (by simp[bf]),ae (aP aB),dp];simp only[ao];rw[zM,bC,d _ (by omega),bw,Nat.max_assoc]
theorem Ov(a:x.Kind=6)(d:j<x.ah.length)(c:hC (x,v.ad)=some ((j:Int),true))(e:∀y,y∈v.aj->oY ts y (x.ah.getD j aC).aw)(af:v.aj.length<=reachBytes):
 ∀(k i b:Nat),i+k=v.aj.length->hW ((b:Int),(i:Int),ts,v,x)=some (((max b (dC ts (x.ah.getD j aC).aw (v.aj.drop i)):Nat):Int),v)
 |0,i,b,f=>by rw[hW,b',en (by omega:v.aj.length<=i),dC,I.aV,Nat.max_zero]
 |k+1,i,b,f=>by
  have aB:i<v.aj.length:=by omega
  have ag:=dA af;have dp:=e _ (bd aB av);unfold oY at dp;rw[hW,br,al (by simp[a]),ae (by simp[a]),c];simp only[aS,ao,aZ,I.aV];rw[ae (aP d),ae (aP aB),dp];simp only[ao];rw[zM,bC,Ov a d c e af k (i+1) _ (by omega),eE aB av,dC,Nat.max_assoc]
theorem D'{b:Nat}(cX:hW (0,0,ts,v,x)=some (((max 0 b:Nat):Int),v))(f:b<1152921504606846976)(d:w=1+max (if v.ay=[]then 0 else 1) b):
 (hW (0,0,ts,v,x)>>=λo=>if (0<(o.2.ay.length:Int):Bool) then some (aM .i64 1 (iq o.1 1))else some (aM .i64 1 o.1))=some (w:Int):=by
 rw[cX];simp only[aS,ao];by_cases c:v.ay=[]
 . rw[al (by simp[c])];rw[ae c]at d;have:aM .i64 1 ((max 0 b:Nat):Int)=((1+max 0 b:Nat):Int):=wU (a:=1) (by omega);rw[this,d]
 . rw[ae (by
    have:0<v.ay.length:=ux.2 c
    grind)]
   rw[al c]at d;have e:iq ((max 0 b:Nat):Int) 1=((max 1 b:Nat):Int):=by
    have:=zM (max 0 b) 1;grind
   rw[e];have:aM .i64 1 ((max 1 b:Nat):Int)=((1+max 1 b:Nat):Int):=wU (a:=1) (by omega);rw[this,d]
theorem aee(H:iM ts)(U:bK v):wt v<=1099511627776->∀t,bX ts false t v->oY ts v t:=by
 induction U with
 |mk v hs h1 D af ai N ak dc ap aq ar ao V=>
  intro am t w;have an:=fD v;have F:∀x,x∈v.aj->∀t,bX ts false t x->oY ts x t:=λx K t=>V x K (by have:=fx K;omega) t;obtain⟨⟨aa,ab,u,_⟩,w⟩:=(eH _ _ _).1 w;obtain⟨j,rfl⟩:∃j:Nat,t=(j:Int):=⟨t.toNat,by omega⟩
  have J:j<ts.length:=by omega
  unfold oY;rw[mJ,ae (aP J)];simp only[aZ,I.aV]at w u⊢;have L:=bd J aK;have f:=pW (ts:=ts) (j:Int) v;simp only[aZ]at f;have ah:=H.A _ L;have S:=dA (ig (H.T _ L).gY);generalize ts.getD j aK=x at*;have b1:∀E,dC ts E v.aj<1152921504606846976:=λE=>by have:=GX ts v.aj E;omega
  have b2:∀E,fc ts E v.aj<1152921504606846976:=λE=>by have:=GW ts v.aj E;omega
  have C:¬x.Kind=5->¬x.Kind=6->(∀y,y∈v.aj->bX ts false x.aF y)->(hW (0,0,ts,v,x)>>=λo=>if (0<(o.2.ay.length:Int):Bool) then some (aM .i64 1 (iq o.1 1))else some (aM .i64 1 o.1))=some ((dH ts (j:Int) v:Nat):Int):=by
   intro a b c;have cX:=NL (ts:=ts) (x:=x) (v:=v) a b (λy B=>F y B _ (c y B)) D v.aj.length 0 0 (by omega);rw[al a,al b]at f;exact D' cX (b1 _) f
  rcases w with⟨k,g,l,m,n,d,p⟩|⟨k,g,l,m,n,d,p,s,z⟩|⟨k,g,l,m,n,d,p,s⟩|⟨k,g,l,m,n,d,p,s⟩|⟨k,g,l,m,n,d,p,s⟩|⟨k,g,l,m,n,d⟩|⟨k,g,l,m,n,d,p,s,z⟩|⟨k,g,l,m,n,d,p,s,z,M,Z⟩|⟨k,g,l,m,n,d,p,s,z⟩<;>rw[k]at u
  . grind
  . grind
  . grind
  . grind
  . obtain⟨Q,R⟩:=hG.1 s;have cX:=Ou (ts:=ts) (x:=x) (v:=v) u.symm Q N (λi O=>F _ (bd (by omega) av) _ (R i O)) D v.aj.length 0 0 (by omega);rw[ae u.symm]at f;exact D' cX (b2 _) f
  . rw[al (show ¬x.Kind=5 by omega),ae u.symm]at f;obtain⟨r,_,Y,w⟩:=mS (t:=x) v.ad S;rcases tC w with⟨e,q,W,X,G,au⟩|⟨e,G⟩
    . rw[G]at d f;simp only at d f;obtain⟨d1,d2,d3⟩:=d;have ag:r=((q:Int),true):=by rw[<-X,<-e]
      have cX:=Ov (ts:=ts) (x:=x) (v:=v) u.symm W (by rw[Y,ag]) (λy B=>F y B _ (cI.1 d3 y B)) D v.aj.length 0 0 (by omega);exact D' cX (b1 _) f
    . rw[G]at d f;simp only at d f;have P:v.aj=[]:=d.2.2.2.1;have cX:hW (0,0,ts,v,x)=some (((max 0 0:Nat):Int),v):=by rw[hW,al (by simp[P]),I.aV];rfl
      exact D' cX (by omega) f
  . exact C (by omega) (by omega) (cI.1 z)
  . exact C (by omega) (by omega) (cI.1 M)
  . exact C (by omega) (by omega) (cI.1 z)
set_option maxHeartbeats 400000 in
theorem Ea(H:iM ts)(aU:bK v):wt v<=1099511627776->∀t,bX ts false t v->iL ts v t:=by
 induction aU with
 |mk v hs h1 Q Z ag R U dc X Y a0 aY aX=>
  intro aW t p;have aD:bK v:= .mk v hs h1 Q Z ag R U dc X Y a0;have a7:=fD v;have K:∀x,x∈v.aj->∀t,(bo ts t x).length<=23089744183296:=λx s t=>wW H (R x s) (by have:=fx s;omega) t;have aO:∀x,x∈v.ay->∀t,(bo ts t x).length<=23089744183296:=λx s t=>wW H (ag x s) (by have:=fx s;omega) t;have G:∀x,x∈v.aj->∀t,bX ts false t x->iL ts x t:=λx s t=>aX x s (by have:=fx s;omega) t;have aE:∀x,x∈v.ay->∀t,bX ts false t x->iL ts x t:=λx s t=>aY x s (by have:=fx s;omega) t;have N:=wW H aD aW t;obtain⟨⟨a5,a6,P,_⟩,p⟩:=(eH _ _ _).1 p;obtain⟨j,rfl⟩:∃j:Nat,t=(j:Int):=⟨t.toNat,by omega⟩
  have af:j<ts.length:=by omega
  unfold iL;rw[iV,ae (aP af)];simp only[aS,ao,aZ,I.aV]at p P⊢;have W:=bd af aK;have aV:=@xk ts (j:Int) v;have am:=@xl ts (j:Int) v;have an:=@xm ts (j:Int) v;have ap:=@xn ts (j:Int) v;have V:=@qt ts (j:Int) v;have aq:=@oL ts (j:Int) v;have ar:=@oM ts (j:Int) v;have au:=@oN ts (j:Int) v;have ax:=@oO ts (j:Int) v;simp only[aZ]at aV am an ap V aq ar au ax;have aa:=H.A _ W;have aI:=H.S _ W;have ai:=dA (ig (H.T _ W).gY);generalize ts.getD j aK=x at*;rcases p with⟨k,z,B,C,D,o,u⟩|⟨k,z,B,C,D,o,u,w,F⟩|⟨k,z,B,C,D,o,u,w⟩|⟨k,z,B,C,D,o,u,w⟩|⟨k,z,B,C,D,o,u,w⟩|⟨k,z,B,C,D,o⟩|⟨k,z,B,C,D,o,u,w,F⟩|⟨k,z,B,C,D,o,u,w,F,aB,a4⟩|⟨k,z,B,C,D,o,u,w,F⟩<;>rw[k]at P<;>have g:=P.symm
  . grind
  . rw[al (by simp[g]),ae (by simp[g]),am g,uk X];simp only[ao];have az:=AF X;obtain⟨n,aH⟩:∃n:Nat,fE v.bc=(n:Int):=⟨(fE v.bc).toNat,by unfold fE;split<;>omega⟩
    rw[aH,mb]at az;rw[aH,MN az];rfl
  . rw[al (by simp[g]),al (by simp[g]),ae (by simp[g]),an g]
  . rw[al (by simp[g]),al (by simp[g]),al (by simp[g]),ae (by simp[g]),ap g]
    obtain⟨n,aH⟩:∃n:Nat,v.ad=(n:Int):=⟨v.ad.toNat,by
     rcases w with⟨y,m,he⟩|⟨_,_,he⟩
     . have:=aI g y m;unfold cm at this;omega
     . unfold cm at he;omega⟩
    rw[aH,hy,MN (by omega),mb];rfl
  . rw[al (by simp[g]),al (by simp[g]),al (by simp[g]),al (by simp[g]),al (by simp[g]),al (by simp[g]),al (by simp[g]),al (by simp[g]),V g];obtain⟨L,aQ⟩:=aa (.inl g);obtain⟨aM,aN⟩:=hG.1 w;rw[V g]at N;have ak:=Ye (wu (ts:=ts) (l:=v.aj) L u) (λy m=>JG L u m);have c4:(λn=>(fe ts x.ah v.aj v.Rest).filter λf=>decide (f.id=n))=x' ts x v:=rfl;rw[c4]at ak;rw[ak]at N⊢;have:=Jm (ts:=ts) ai L u aM (λy m=>U y m) Z R K (λi aL=>G _ (bd (by omega) av) _ (aN i aL)) 1000 1 [] (by omega) (by omega) (by simp only[jw];omega);have h0:pe ([],1,ts,v,x)=_:=this;rw[h0];rfl
  . rw[al (by simp[g]),al (by simp[g]),al (by simp[g]),al (by simp[g]),al (by simp[g]),ae (by simp[g]),aq g];obtain⟨L,aQ⟩:=aa (.inr g);obtain⟨r,_,a3,p⟩:=mS (t:=x) v.ad ai;rcases tC p with⟨e,q,aA,a1,M,a2⟩|⟨e,M⟩
    . rw[M]at o;rw[M];simp only at o⊢;obtain⟨d1,d2,d3⟩:=o;have E:=L.2 _ (bd aA aC);rw[a2]at E;obtain⟨n,aH⟩:∃n:Nat,v.ad=(n:Int):=⟨v.ad.toNat,by unfold cm at E;omega⟩
      rw[al (by simp[d1]),a3,aH,hy (by unfold cm at E;omega),Af (by unfold cm at E;omega)];simp only[ao];rw[a1,ae (aP aA)]
      match E:v.aj,d2 with
      |[y],_=>
       have m:y∈v.aj:=by rw[E];exact .head _
       have J:aG 0 ([y]:List I).length=true:=aP (k:=0) (by simp);have p:=cI.1 d3 y m;have dp:=G y m _ p;unfold iL at dp;rw[ae J];simp only[aZ,r4,jv];rw[dp];have aR:=K y m (x.ah.getD q aC).aw;have aT:=kd (n:=n) (by rw[aH]at Y;omega);simp only[ao];rw[ae (gb)];have O:bt ts (x.ah.getD q aC).aw [y]=[bo ts (x.ah.getD q aC).aw y]:=by rw[bt,bt]
       rw[O];rfl
    . rw[M]at o;rw[M];simp only at o⊢;obtain⟨d1,d2,d3,d4,d,d5⟩:=o;obtain⟨n,aH⟩:∃n:Nat,v.ad=(n:Int):=⟨v.ad.toNat,by unfold cm at d3;omega⟩
      have ab:=U ⟨v.ad,d⟩ (by rw[d5];exact .head _);simp only at ab;unfold reachBytes at ab;have aT:=kd (n:=n) (by rw[aH]at Y;omega);rw[d5,aH,hO,hy (by unfold cm at d3;omega),Af (by unfold cm at d3;omega)];simp only[ao];have J:aG 0 ([⟨(n:Int),d⟩]:List bW).length=true:=aP (k:=0) (by simp);rw[ae J];simp only[r4,jv];rw[ae (gb)];rfl
  . rw[al (by simp[g]),al (by simp[g]),al (by simp[g]),al (by simp[g]),al (by simp[g]),al (by simp[g]),ae (by simp[g])];have p:=cI.1 F;rw[ar g]at N⊢;have:=NK (ts:=ts) (x:=x) (v:=v) (λy m=>by have:=K y m x.aF;omega) (λy m=>G y m x.aF (p y m)) Q v.aj.length 0 [] (by omega) (by simp only[fT,jw];omega);have h0:sQ ([],0,ts,v,x)=_:=this;rw[h0];rfl
  . rw[al (by simp[g]),al (by simp[g]),al (by simp[g]),al (by simp[g]),al (by simp[g]),al (by simp[g]),al (by simp[g]),ae (by simp[g])];have p:=cI.1 aB;have aJ:=cI.1 F;rw[au g]at N⊢;have:=Ot (ts:=ts) (x:=x) (v:=v) w (λy m=>by have:=K y m x.aF;omega) (λy m=>by have:=aO y m x.Key;omega) (λy m=>G y m x.aF (p y m)) (λy m=>aE y m x.Key (aJ y m)) Q v.aj.length 0 [] (by omega) (by simp only[fT,jw];omega);have h0:sR ([],0,ts,v,x)=_:=this;rw[h0];rfl
  . rw[al (by simp[g]),al (by simp[g]),al (by simp[g]),al (by simp[g]),ae (by simp[g]),ax g];have p:=cI.1 F
    match E:v.aj,w with
    |[],_=>rw[hO,bt]
    |[y],_=>
     have m:y∈v.aj:=by rw[E];exact .head _
     have J:aG 0 ([y]:List I).length=true:=aP (k:=0) (by simp);rw[bw,ae J];have dp:=G y m x.aF (p y m);unfold iL at dp;simp only[r4,jv];rw[dp];have aR:=K y m x.aF;simp only[ao];rw[ae (gb (by simp;omega))];have O:bt ts x.aF [y]=[bo ts x.aF y]:=by rw[bt,bt]
     rw[O];rfl
    |a::b::c,h=>simp at h
end
theorem dr.qm{a b:α}(h:eV o a b):dr o (a=b):=h
theorem Fc{j k l:Option Bool}{f g i:Prop}(h1:dr j f)(d:dr k g)(e:dr l i):
 dr (j>>=λm=>(if m then k else some false)>>=λn=>some (bif m then n else false)>>=λt53=>(if t53 then l else some false)>>=λo=>some (bif t53 then o else false)) (f/\g/\i):=by
 obtain⟨a,rfl,h1⟩:=h1;obtain⟨b,rfl,d⟩:=d;obtain⟨c,rfl,e⟩:=e;rw[<-h1,<-d,<-e];cases a<;>cases b<;>cases c<;>exact⟨_,rfl,by simp⟩
theorem P1(h:dr o P):dr (o>>=λr=>some r) P:=by grind
def p3(a:Bool)(Ms:List aU):Prop:=(∀m,m∈Ms->mA a m=false)/\(a=false\/0<Ms.length)/\gQ Ms/\(∀m,m∈Ms->nm m.Name=true)/\(Ms.map (·.Name)).Nodup/\Ms.length<=16
def AG(S:List c3):Prop:=0<S.length/\(S.Pairwise (λa b=>a.ad<b.ad)/\∀y,y∈S->cm y.ad)/\(∀y,y∈S->nm y.Name=true)/\(S.map (·.Name)).Nodup/\S.length<=16
theorem aa3{l:List ak}:l.Nodup↔∀i,i<l.length->(l.take i).contains (l.getD i [])=false:=by
 unfold List.Nodup;rw[wN];constructor
 . intro h i a;apply F5.2;intro c;obtain⟨k,b,he⟩:=(qf (by omega)).1 c;grind
 . intro h k i d a b he;have:=h i a;rw[F5]at this;apply this;refine(qf (by omega)).2 ⟨k,b,?_⟩;grind
theorem Ow(f:α->Int)(g:α->ak)(d:α)(l:List α):(∀i,i<l.length->kj (l.map f) (l.map g) i=true)↔(l.Pairwise (λa b=>f a<f b)/\∀x,x∈l->cm (f x))/\(∀x,x∈l->nm (g x)=true)/\(l.map g).Nodup:=by
 rw[D9 f d,aa3];have key:∀i,i<l.length->(kj (l.map f) (l.map g) i=true↔cm (f (l.getD i d))/\(i=0\/f (l.getD (i-1) d)<f (l.getD i d))/\nm (g (l.getD i d))=true/\((l.map g).take i).contains ((l.map g).getD i [])=false):=by
  intro i c;unfold kj cm;grind
 constructor
 . intro h;refine⟨⟨λi c=>?_,λx j=>?_⟩,λx j=>?_,λi c=>?_⟩
   . grind
   . obtain⟨i,c,rfl⟩:=e1 j;grind
   . obtain⟨i,c,rfl⟩:=e1 j;grind
   grind
 . rintro ⟨⟨h1,k⟩,m,n⟩ i c
   refine(key i c).2 ⟨k _ (bd c d),?_,m _ (bd c d),n i (by simpa using c)⟩;by_cases h0:i=0
   . omega
   . right;have:=h1 (i-1) (by omega);have e:i-1+1=i:=(by omega);grind
theorem MT{t:ai}(h:eZ t):dr (tk t) ((∀m,m∈t.ah->mA (decide (t.Kind=6)) m=false)/\(t.Kind=5\/0<t.ah.length)/\gQ t.ah/\(∀m,m∈t.ah->nm m.Name=true)/\(t.ah.map (·.Name)).Nodup/\t.ah.length<=16):=by
 obtain⟨r,h1,a⟩:=Km h;refine⟨r,h1,a.trans ?_⟩;rw[Ow (λm:aU=>m.ad) (λm:aU=>m.Name) aC];have e:(∀i,i<t.ah.length->mA (decide (t.Kind=6)) (t.ah.getD i aC)=false)↔∀m,m∈t.ah->mA (decide (t.Kind=6)) m=false:=by
  constructor
  . intro h m b;obtain⟨i,c,rfl⟩:=e1 b;grind
  grind
 rw[e];unfold gQ;grind
theorem abi{l:List c3}(af:l.length*24<=reachBytes):dr (wj l) (AG l):=by
 obtain⟨r,h1,a⟩:=Oj af;refine⟨r,h1,a.trans ?_⟩;rw[Ow (λm:c3=>m.ad) (λm:c3=>m.Name) dK];unfold AG;grind
def gj(t:ai):Prop:=
 (t.Kind=1/\t.Name=[]/\t.bE=0/\t.bH=0/\t.Max=0/\t.bh=[]/\t.ah=[]/\t.Key=0/\t.aF=0/\t.Open=false)\/
 (t.Kind=2/\t.Name=[]/\t.bE<=t.bH/\t.Max=0/\t.bh=[]/\t.ah=[]/\t.Key=0/\t.aF=0/\t.Open=false)\/
 (t.Kind=3/\t.Name=[]/\t.bE=0/\t.bH=0/\(0<=t.Max/\t.Max<=200)/\t.bh=[]/\t.ah=[]/\t.Key=0/\t.aF=0/\t.Open=false)\/
 (t.Kind=4/\nm t.Name=true/\t.bE=0/\t.bH=0/\t.Max=0/\AG t.bh/\t.ah=[]/\t.Key=0/\t.aF=0)\/
 (t.Kind=5/\nm t.Name=true/\t.bE=0/\t.bH=0/\t.Max=0/\t.bh=[]/\p3 false t.ah/\t.Key=0/\t.aF=0/\t.Open=false)\/
 (t.Kind=6/\nm t.Name=true/\t.bE=0/\t.bH=0/\t.Max=0/\t.bh=[]/\p3 true t.ah/\t.Key=0/\t.aF=0)\/
 (t.Kind=7/\t.Name=[]/\t.bE=0/\t.bH=0/\(0<=t.Max/\t.Max<=50)/\t.bh=[]/\t.ah=[]/\t.Key=0/\t.Open=false)\/
 (t.Kind=8/\t.Name=[]/\t.bE=0/\t.bH=0/\(0<=t.Max/\t.Max<=50)/\t.bh=[]/\t.ah=[]/\t.Open=false)\/
 (t.Kind=9/\t.Name=[]/\t.bE=0/\t.bH=0/\t.Max=0/\t.bh=[]/\t.ah=[]/\t.Key=0/\t.Open=false)
theorem abj{t:ai}(h:eZ t):dr (gw t) (gj t):=by
 have f:eZ (⟨0,[],0,0,0,[],[],0,0,false⟩:ai):=⟨by simp,by simp,by simp⟩
 obtain⟨c,N,L,H,M,S,Ms,K,E,b⟩:=t;have aI:=h.syms;have d:=h.gY;have e:=h.iG;simp only at aI d e;by_cases k1:c=1
 . subst k1;have a:=iR (a:=(⟨0,N,L,H,M,S,Ms,K,E,b⟩:ai)) ⟨aI,d,e⟩ (⟨0,[],0,0,0,[],[],0,0,false⟩:ai);refine(P1 (dr.qm a)).imp ?_;unfold gj;simp
 by_cases k2:c=2
 . subst k2;have a:=iR (a:=(⟨0,N,0,0,M,S,Ms,K,E,b⟩:ai)) ⟨aI,d,e⟩ (⟨0,[],0,0,0,[],[],0,0,false⟩:ai);refine(uZ (q:=decide (L<=H)) (Q:=L<=H) (by simp) (dr.qm a)).imp (Q:=gj ⟨2,N,L,H,M,S,Ms,K,E,b⟩) ?_;unfold gj;grind
 by_cases k3:c=3
 . subst k3;have a:=iR (a:=(⟨0,N,L,H,0,S,Ms,K,E,b⟩:ai)) ⟨aI,d,e⟩ (⟨0,[],0,0,0,[],[],0,0,false⟩:ai);refine(uZ (q:=bif decide (0<=M)then decide (M<=200)else false) (Q:=0<=M/\M<=200) (by by_cases g:0<=M<;>simp[g]) (dr.qm a)).imp (Q:=gj ⟨3,N,L,H,M,S,Ms,K,E,b⟩) ?_;unfold gj;grind
 by_cases k4:c=4
 . subst k4;have a:=iR (a:=(⟨0,[],L,H,M,[],Ms,K,E,false⟩:ai)) ⟨by simp,d,e⟩ (⟨0,[],0,0,0,[],[],0,0,false⟩:ai);refine(Fc (⟨nm N,tO N,Iff.rfl⟩:dr (kJ N) (nm N=true)) (abi aI) (dr.qm a)).imp (Q:=gj ⟨4,N,L,H,M,S,Ms,K,E,b⟩) ?_;unfold gj;grind
 by_cases k5:c=5
 . subst k5;have a:=iR (a:=(⟨0,[],L,H,M,S,[],K,E,bif b then decide ((5:Int)=5)else false⟩:ai)) ⟨aI,by simp,by simp⟩ (⟨0,[],0,0,0,[],[],0,0,false⟩:ai);refine(Fc (⟨nm N,tO N,Iff.rfl⟩:dr (kJ N) (nm N=true)) (MT h) (dr.qm a)).imp (Q:=gj ⟨5,N,L,H,M,S,Ms,K,E,b⟩) ?_;unfold gj p3;grind
 by_cases k6:c=6
 . subst k6;have a:=iR (a:=(⟨0,[],L,H,M,S,[],K,E,bif b then decide ((6:Int)=5)else false⟩:ai)) ⟨aI,by simp,by simp⟩ (⟨0,[],0,0,0,[],[],0,0,false⟩:ai);refine(Fc (⟨nm N,tO N,Iff.rfl⟩:dr (kJ N) (nm N=true)) (MT h) (dr.qm a)).imp (Q:=gj ⟨6,N,L,H,M,S,Ms,K,E,b⟩) ?_;unfold gj p3;grind
 by_cases k7:c=7
 . subst k7;have a:=iR (a:=(⟨0,N,L,H,0,S,Ms,K,0,b⟩:ai)) ⟨aI,d,e⟩ (⟨0,[],0,0,0,[],[],0,0,false⟩:ai);refine(uZ (q:=bif decide (0<=M)then decide (M<=50)else false) (Q:=0<=M/\M<=50) (by by_cases g:0<=M<;>simp[g]) (dr.qm a)).imp (Q:=gj ⟨7,N,L,H,M,S,Ms,K,E,b⟩) ?_;unfold gj;grind
 by_cases k8:c=8
 . subst k8;have a:=iR (a:=(⟨0,N,L,H,0,S,Ms,0,0,b⟩:ai)) ⟨aI,d,e⟩ (⟨0,[],0,0,0,[],[],0,0,false⟩:ai);refine(uZ (q:=bif decide (0<=M)then decide (M<=50)else false) (Q:=0<=M/\M<=50) (by by_cases g:0<=M<;>simp[g]) (dr.qm a)).imp (Q:=gj ⟨8,N,L,H,M,S,Ms,K,E,b⟩) ?_;unfold gj;grind
 by_cases k9:c=9
 . subst k9;have a:=iR (a:=(⟨0,N,L,H,M,S,Ms,K,0,b⟩:ai)) ⟨aI,d,e⟩ (⟨0,[],0,0,0,[],[],0,0,false⟩:ai);refine(P1 (dr.qm a)).imp (Q:=gj ⟨9,N,L,H,M,S,Ms,K,E,b⟩) ?_;unfold gj;simp
 refine⟨false,by simp[gw,k1,k2,k3,k4,k5,k6,k7,k8,k9],?_⟩;unfold gj;grind
structure nz (ts:List ai):Prop where
 n:ts.length<=32
 F:∀t,t∈ts->gj t
 D:∀i,i<ts.length->(!(decide ((ts.getD i aK).Name=[]))&&((ts.map (·.Name)).take i).contains (ts.getD i aK).Name)=false
 U:∀t,t∈ts->∀u,u∈fi t->0<=u/\u<ts.length
 qA:∀t,t∈ts->t.Kind=8->1<=(ts.getD t.Key.toNat aK).Kind/\(ts.getD t.Key.toNat aK).Kind<=4
theorem aa4(db:∀t,t∈ts->eZ t){i:Nat}(e:i<ts.length):sb ts i=none↔gj (ts.getD i aK)/\(!(decide ((ts.getD i aK).Name=[]))&&((ts.map (·.Name)).take i).contains (ts.getD i aK).Name)=false/\(∀u,u∈fi (ts.getD i aK)->0<=u/\u<ts.length)/\
 ((ts.getD i aK).Kind=8->1<=(ts.getD (ts.getD i aK).Key.toNat aK).Kind/\(ts.getD (ts.getD i aK).Key.toNat aK).Kind<=4):=by
 obtain⟨r,f1,f2⟩:=abj (db _ (bd e aK));rw[HN rfl f1,<-f2];have a:(fi (ts.getD i aK)).any (lD ts.length)=false↔∀u,u∈fi (ts.getD i aK)->0<=u/\u<ts.length:=by
  rw[List.any_eq_false];constructor
  . intro h u a;have:=h u a;unfold lD at this;grind
  . intro h u a;have:=h u a;unfold lD;grind
 rw[<-a];generalize (fi (ts.getD i aK)).any (lD ts.length)=b;generalize (!(decide ((ts.getD i aK).Name=[]))&&((ts.map (·.Name)).take i).contains (ts.getD i aK).Name)=c;have f:(decide ((ts.getD i aK).Kind=8) && !(s9 (ts.getD (ts.getD i aK).Key.toNat aK).Kind))=false↔((ts.getD i aK).Kind=8->1<=(ts.getD (ts.getD i aK).Key.toNat aK).Kind/\(ts.getD (ts.getD i aK).Key.toNat aK).Kind<=4):=by
  unfold s9;grind
 rw[<-f];generalize (decide ((ts.getD i aK).Kind=8) && !(s9 (ts.getD (ts.getD i aK).Key.toNat aK).Kind))=d;cases r<;>cases b<;>cases c<;>cases d<;>simp
theorem pR(db:∀t,t∈ts->eZ t)(h:nz ts):pJ (⟨ts⟩:aT)=some 0/\vz (⟨ts⟩:aT)=some 0:=by
 obtain⟨e,h1,c,_,b,_⟩:=aaY (s:=⟨ts⟩) (by have:=h.n;unfold reachBytes;show ts.length<=_;omega) db;have c4:e=0:=b ⟨h.n,λi a=>(aa4 db a).2 ⟨h.F _ (bd a aK),h.D i a,h.U _ (bd a aK),h.qA _ (bd a aK)⟩⟩;grind
theorem nz.hr(db:∀t,t∈ts->eZ t)(h:nz ts):iM ts:=by
 refine⟨by have:=h.n;omega,db,λt ht=>?_,λt ht m c=>?_,λt ht f=>?_,λt ht f y j=>?_,h.qA⟩
 . have:=h.F t ht;unfold gj at this;unfold ox;omega
 . have:=h.F t ht;unfold gj at this;have o:t.ah≠[]:=by intro e;rw[e]at c;cases c
   have:p3 false t.ah\/p3 true t.ah:=(by grind);rcases this with a|a
   . exact(a.2.2.1.2 m c).2
   . exact(a.2.2.1.2 m c).2
 . have:=h.F t ht;unfold gj at this;have:p3 false t.ah\/p3 true t.ah:=(by grind);rcases this with a|a
   . exact⟨a.2.2.1,a.2.2.2.2.2⟩
   . exact⟨a.2.2.1,a.2.2.2.2.2⟩
 . have:=h.F t ht;unfold gj at this;have:AG t.bh:=(by grind);exact this.2.1.2 y j
def uH(l:List bW):Nat:=(l.map λx=>x.Data.length).sum
theorem adg(l:List bW):(l.map λx=>x.Data.length+1).sum=uH l+l.length:=by
 unfold uH;induction l with
 |nil=>rfl
 |cons a l ih=>simp only[gB,oG,gA];omega
def Left(n:Int)(w:Nat)(m:Int):Prop:=m<=n/\-1000000000000000<=m/\(0<=m->(w:Int)+m<=n)
theorem NM(af:v.Rest.length<=reachBytes)(b:∀x,x∈v.Rest->x.Data.length<=reachBytes):∀(k i:Nat) (n:Int),i+k=v.Rest.length->n<=3000->-1000000000000000<=n->∃m,rG (n,(i:Int),v)=some (m,v)/\Left n (uH (v.Rest.drop i)) m
 |0,i,n,f,c,a=>⟨n,by
  rw[rG,al,I.aV];intro h;have g:¬(i:Int)<(v.Rest.length:Int):=by omega
  simp[g]at h,by
  rw[en (by omega:v.Rest.length<=i)]
  exact⟨by omega,a,λ_=>by simp[uH]⟩⟩
 |k+1,i,n,f,c,a=>by
  have aB:i<v.Rest.length:=by omega
  have ag:=dA af;have d:=b _ (bd aB bV);unfold reachBytes at d;have g:(i:Int)<(v.Rest.length:Int):=by omega
  rw[rG];by_cases h0:0<=n
  . rw[ae (by simp[g,h0]),ae (aP aB)];simp only[aZ,I.aV];rw[gS,bC];obtain⟨m,j,p,l,o⟩:=NM af b k (i+1) (n-((v.Rest.getD i bV).Data.length:Int)) (by omega) (by omega) (by omega);refine⟨m,j,by omega,l,λh=>?_⟩;have:=o h;rw[eE aB bV];have e:uH (v.Rest.getD i bV::v.Rest.drop (i+1))=(v.Rest.getD i bV).Data.length+uH (v.Rest.drop (i+1)):=by unfold uH;simp only[gB,oG]
    rw[e];omega
  . refine⟨n,?_,by omega,a,λh=>absurd h h0⟩;rw[al (by simp[g,h0]),I.aV]
theorem NN(af:v.ay.length<=reachBytes)(ih:∀x,x∈v.ay->∀n,0<=n->n<=3000->∃m,nK (x,n)=some m/\Left n (wt x) m):∀(k i:Nat) (n:Int),i+k=v.ay.length->n<=3000->-1000000000000000<=n->∃m,sW (n,(i:Int),v)=some (m,v)/\Left n (cK (v.ay.drop i)) m
 |0,i,n,d,c,b=>⟨n,by
  rw[sW,al,I.aV];intro h;have g:¬(i:Int)<(v.ay.length:Int):=by omega
  simp[g]at h,by
  rw[en (by omega:v.ay.length<=i),gH]
  exact⟨by omega,b,λ_=>by simp⟩⟩
 |k+1,i,n,d,c,b=>by
  have aB:i<v.ay.length:=by omega
  have ag:=dA af;have g:(i:Int)<(v.ay.length:Int):=by omega
  rw[sW];by_cases h0:0<=n
  . obtain⟨a,a1,a2,a3,a4⟩:=ih _ (bd aB av) n h0 c;rw[ae (by simp[g,h0]),ae (aP aB)];simp only[aZ,I.aV];rw[a1];simp only[aS,ao];rw[bC];obtain⟨m,e,l,f,j⟩:=NN af ih k (i+1) a (by omega) (by omega) (by omega);refine⟨m,e,by omega,f,λh=>?_⟩;have:=j h;have:=a4 (by omega);rw[eE aB av,hh];omega
  . refine⟨n,?_,by omega,b,λh=>absurd h h0⟩;rw[al (by simp[g,h0]),I.aV]
theorem NO(af:v.aj.length<=reachBytes)(ih:∀x,x∈v.aj->∀n,0<=n->n<=3000->∃m,nK (x,n)=some m/\Left n (wt x) m):∀(k i:Nat) (n:Int),i+k=v.aj.length->n<=3000->-1000000000000000<=n->∃m,sX (n,(i:Int),v)=some m/\Left n (cK (v.aj.drop i)) m
 |0,i,n,d,c,b=>⟨n,by
  rw[sX,al];intro h;have g:¬(i:Int)<(v.aj.length:Int):=by omega
  simp[g]at h,by
  rw[en (by omega:v.aj.length<=i),gH]
  exact⟨by omega,b,λ_=>by simp⟩⟩
 |k+1,i,n,d,c,b=>by
  have aB:i<v.aj.length:=by omega
  have ag:=dA af;have g:(i:Int)<(v.aj.length:Int):=by omega
  rw[sX];by_cases h0:0<=n
  . obtain⟨a,a1,a2,a3,a4⟩:=ih _ (bd aB av) n h0 c;rw[ae (by simp[g,h0]),ae (aP aB)];simp only[aZ,I.aV];rw[a1];simp only[aS,ao];rw[bC];obtain⟨m,e,l,f,j⟩:=NO af ih k (i+1) a (by omega) (by omega) (by omega);refine⟨m,e,by omega,f,λh=>?_⟩;have:=j h;have:=a4 (by omega);rw[eE aB av,hh];omega
  . refine⟨n,?_,by omega,b,λh=>absurd h h0⟩;rw[al (by simp[g,h0])]
theorem ah9(r:bK v):∀n:Int,0<=n->n<=3000->∃m,nK (v,n)=some m/\Left n (wt v) m:=by
 induction r with
 |mk v hs h1 o d x w q dc y z A t s=>
  intro n h0 aH;have aN:aM .i64 (aM .i64 10 (v.bl.length:Int)) (v.Rest.length:Int)=((10+v.bl.length+v.Rest.length:Nat):Int):=by
   have a1:=dA hs;have a2:=dA d;unfold reachBytes at hs d;have:aM .i64 10 (v.bl.length:Int)=((10+v.bl.length:Nat):Int):=wU (a:=10) (by omega);rw[this,wU (by omega)]
  unfold reachBytes at hs;have p:=d;unfold reachBytes at p;have l:c9 .i64 n ((10+v.bl.length+v.Rest.length:Nat):Int)=n-((10+v.bl.length+v.Rest.length:Nat):Int):=gS;obtain⟨a,a1,a2,a3,a4⟩:=NM d q v.Rest.length 0 (n-((10+v.bl.length+v.Rest.length:Nat):Int)) (by omega) (by omega) (by omega);obtain⟨b,b1,b2,b3,b4⟩:=NN h1 t v.ay.length 0 a (by omega) (by omega) (by omega);obtain⟨c,g,u,j,k⟩:=NO o s v.aj.length 0 b (by omega) (by omega) (by omega);have e:rG (n-((10+v.bl.length+v.Rest.length:Nat):Int),0,v)=_:=a1;have f:sW (a,0,v)=_:=b1;have i:sX (b,0,v)=_:=g;refine⟨c,?_,by omega,j,λh=>?_⟩
  . rw[nK];simp only[I.aV];rw[aN,l,e];simp only[aS,ao,I.aV];rw[f];simp only[ao,I.aV];rw[i];rfl
  . have:=k h;have:=b4 (by omega);have:=a4 (by omega);rw[fD,adg];grind
theorem Hu(a:bK v):∃b,vy v=some b/\(b=true->wt v<=3000):=by
 obtain⟨m,c,e,f,d⟩:=ah9 a 3000 (by omega) (by omega);rw[vy];simp only[I.aV];rw[c];refine⟨decide (0<=m),rfl,λh=>?_⟩;have h0:0<=m:=gM h;have:=d h0;omega
theorem YJ(aH:ts.length<9223372036854775807)(db:∀t,t∈ts->eZ t)(bD:∀t,t∈ts->ox t.Kind)(b:bK v)(t:Int):dr (vB ((⟨ts⟩:aT),t,v)) (bX ts true t v):=by
 obtain⟨r,h1,a⟩:=zB aH db bD b t true;refine⟨r,?_,a⟩;rw[vB];simp only[I.aV];rw[h1];rfl
def aeI(ts:List ai)(ms:List aU):Prop:=∀m,m∈ms->m.bU=true->bX ts true m.aw m.bA
theorem ahO{t:aL}{x:t.den cy.D}(h:Ok cy [t] x):∀d,d∈t.row cy x->WF cy d:=λd a=>h ⟨t,x⟩ (B4 ..) d a
theorem aeJ{t u:aL}{r:List aL}{h:aO cy.D (t::u::r)}(b:Ok cy (t::u::r) h):∀d,d∈t.row cy h.1->WF cy d:=λd a=>b ⟨t,h.1⟩ (B4 ..) d a
theorem aeK{t u:aL}{r:List aL}{h:aO cy.D (t::u::r)}(e:Ok cy (t::u::r) h):Ok cy (u::r) h.2:=λc a d b=>e c (B0 _ a) d b
theorem aef(H:iM ts)(b:bK v)(c:wt v<=1099511627776)(a:bX ts false t v):
 j8 (t,v,1,ts,0)=some (bo ts t v,ts,((dH ts t v:Nat):Int)):=by
 have h:=aed H b c t a 1 0 (by omega) (by omega);have d:=th (ts:=ts) t v;have e:max 0 (1+dH ts t v-1)=dH ts t v:=by omega
 rw[e]at h;exact h
noncomputable def lz (ts:List ai)(t:Int)(v:I):ak×Int:=
 if 4096<(bo ts t v).length\/200<dH ts t v then([],3)else(bo ts t v,0)
abbrev fu:=du
abbrev eQ:=bu
abbrev afu:=iP
theorem ur{a:Int}(h:¬a=0):(!(decide (a=0)))=true:=by simp[h]
theorem hj{x m:Int}(h:0<=x:=by omega)(a:0<=m:=by omega):b7 x m=x%m:=by unfold b7;rw[Int.tmod_eq_emod_of_nonneg h]
theorem aeL{x:Int}(h:0<=x)(a:x<=255):fC .u8 x 4=x/4:=by
 unfold fC;rw[Cg h,IntKind.wrap_u8];omega
theorem ly{x:Int}(h:cx x):bT .i64 x=x:=by
 unfold bT cx at*;rw[IntKind.wrap_i64];omega
theorem IZ{k:Int}(h:0<=k/\k<=25):mV (bT .i32 (aM .i64 97 k))=[UInt8.ofNat (97+k.toNat)]:=by
 have key:∀k:Nat,k<26->mV (bT .i32 (aM .i64 97 (k:Int)))=[UInt8.ofNat (97+k)]:=by decide+kernel
 grind
theorem aeM{k:Int}(h:0<=k/\k<=25):mV (bT .i32 (aM .i64 65 k))=[UInt8.ofNat (65+k.toNat)]:=by
 have key:∀k:Nat,k<26->mV (bT .i32 (aM .i64 65 (k:Int)))=[UInt8.ofNat (65+k)]:=by decide+kernel
 grind
theorem LN{s:ak}(h0:s≠[])(af:s.length<=24)(h:∀i:Nat,i<s.length->mX (fI s i)=true):nm s=true:=by
 have key:∀k i:Nat,i+k=s.length->lg (s,(s.length:Int),(i:Int))=some (.inr ()):=by
  intro k;induction k with
  |zero=>intro i d;rw[lg,b']
  |succ k ih=>
   intro i d;rw[lg,br,ae (aP (by omega)),Ep,h i (by omega)];simp only[aS,ao,c8];rw[ae (by rw[aP (by omega)];rfl),bC];exact ih (i+1) (by omega)
 have a:0<s.length:=ux.2 h0;have b:=h 0 a;have e:aG 0 s.length=true:=aP (k:=0) a;have ht:(bif decide (s=[])then true else decide (24<(s.length:Int)))=false:=by grind
 have f:lg (s,(s.length:Int),0)=some (.inr ()):=key s.length 0 (by omega);have c:mX (fI s 0)=true:=b;unfold nm;rw[kJ];simp only[aS,ao];rw[ht,e,Ep,c];grind
theorem aeN(h:65<=c/\c<=90\/97<=c/\c<=122):nm [UInt8.ofNat c]=true:=by
 refine LN (by simp) (by simp) λi a=>?_;have:i=0:=by simp at a;omega
 subst this;have e:fI [UInt8.ofNat c] ((0:Nat):Int)=(c:Int):=by
  rw[rj];simp only[jv];rw[ll]
 rw[e];unfold mX;simp;omega
theorem P2{b:Nat}(d:97<=b/\b<=122)(h:97<=c/\c<=122):nm [UInt8.ofNat b,UInt8.ofNat c]=true:=by
 refine LN (by simp) (by simp) λi a=>?_;have:i=0\/i=1:=by simp at a;omega
 rcases this with rfl|rfl
 . rw[rj];simp only[jv];rw[ll];unfold mX;simp;omega
 . rw[rj];simp only[wQ,jv];rw[ll];unfold mX;simp;omega
def de(x:Int):Prop:=0<=x/\x<=255
structure oV (x:fu):Prop where
 k:de x.Kind
 a:de x.A
 b:de x.B
 c:de x.C
 p:∀q,q∈x.c0->de q.ad/\de q.aw/\de q.ha
 l:x.c0.length<=reachBytes
def ek(aJ:List fu)(i:Int):Int:=1+(aJ.getD i.toNat eQ).Kind%9
section
variable {aJ:List fu}(cE:∀x,x∈aJ->oV x)(bf:aJ.length<=5)
include cE bf in
theorem rM{i:Int}(h0:0<=i)(h1:i<aJ.length):qW ((⟨aJ⟩:ej),i)=some (ek aJ i)/\1<=ek aJ i/\ek aJ i<=9:=by
 obtain⟨j,rfl⟩:∃j:Nat,i=(j:Int):=⟨i.toNat,by omega⟩
 have c:=(cE _ (bd (by omega:j<aJ.length) eQ)).k;unfold ek;rw[aZ];obtain⟨a,b⟩:=c;refine⟨?_,by omega,by omega⟩;rw[qW,ae (aP (by omega:j<aJ.length)),aZ,hj a,ly ⟨by omega,by omega⟩,kh (by omega) (by omega)]
def Fb(aJ:List fu)(i u:Int):Prop:=0<=u/\u<aJ.length/\(7<=ek aJ u\/u<i)
include cE bf in
theorem MU:∀(k i:Nat),i+k=aJ.length->n9 ((aJ.length:Int),(i:Int),aJ)=some (.inr ())\/∃u:Int,n9 ((aJ.length:Int),(i:Int),aJ)=some (.inl u)/\0<=u/\u<aJ.length/\7<=ek aJ u
 |0,i,b=>.inl (by rw[n9,b'])
 |k+1,i,b=>by
  obtain⟨e,_,_⟩:=rM cE bf (i:=(i:Int)) (by omega) (by omega);rw[n9,br,e];simp only[aS,ao,yg];by_cases a:7<=ek aJ i
  . grind
  . rw[al (by simpa using a),bC];exact MU k (i+1) (by omega)
include cE bf in
theorem abk(h1:1<=aJ.length){i:Int}(o:0<=i/\i<aJ.length)(g:de code):∃u,yh ((⟨aJ⟩:ej),i,code)=some u/\(u<0\/Fb aJ i u):=by
 have m:bT .i64 code=code:=ly ⟨by unfold de at g;omega,by unfold de at g;omega⟩;obtain⟨l,n⟩:=g;have d:0<=code%(aJ.length:Int):=mi _ (by omega);have j:code%(aJ.length:Int)<aJ.length:=ma _ (by omega);rw[yh];simp only[aS,ao];rw[ae (ur (by omega)),m,hj l];obtain⟨e,_,_⟩:=rM cE bf d j;rw[e];simp only[ao,yg];by_cases f:7<=ek aJ (code%(aJ.length:Int))
 . rw[ae (by simp[f])];exact⟨_,rfl,.inr ⟨d,j,.inl f⟩⟩
 . by_cases aB:code%(aJ.length:Int)<i
   . rw[ae (by simp[aB])];exact⟨_,rfl,.inr ⟨d,j,.inr aB⟩⟩
   . rw[al (by simp[f,aB])];by_cases k:0<i
     . rw[ae (by simpa using k),br,hj d];have a0:0<=code%(aJ.length:Int)%i:=mi _ (by omega);have a1:code%(aJ.length:Int)%i<i:=ma _ (by omega);exact⟨_,rfl,.inr ⟨a0,by omega,.inr a1⟩⟩
     . rw[al (by simpa using k)];have h0:=MU cE bf aJ.length 0 (by omega);have c4:n9 ((aJ.length:Int),((0:Nat):Int),aJ)=n9 ((aJ.length:Int),0,aJ):=rfl;rw[c4]at h0;rcases h0 with h|⟨u,h,a,b,c⟩
       . grind
       . rw[h];exact⟨u,rfl,.inr ⟨a,b,.inl c⟩⟩
def oU(aJ:List fu)(u:Int):Prop:=0<=u/\u<aJ.length/\1<=ek aJ u/\ek aJ u<=4
include cE bf in
theorem P3{code:Int}(l:de code)(h1:1<=aJ.length):∀(k i:Nat),i+k=aJ.length->(nI (code,(aJ.length:Int),(i:Int),aJ)=some (.inr ())/\∀m:Nat,i<=m->m<aJ.length->¬oU aJ ((code+m)%(aJ.length:Int)))\/∃u:Int,nI (code,(aJ.length:Int),(i:Int),aJ)=some (.inl u)/\oU aJ u
 |0,i,n=>.inl ⟨by rw[nI,b'],λm a b=>by omega⟩
 |k+1,i,n=>by
  obtain⟨g,j⟩:=l;have d:0<=(code+i)%(aJ.length:Int):=mi _ (by omega);have f:(code+i)%(aJ.length:Int)<aJ.length:=ma _ (by omega);obtain⟨e,aN,lW⟩:=rM cE bf d f;rw[nI,br,ae (ur (by omega)),ly ⟨by omega,by omega⟩,kh (by omega) (by omega),hj];simp only[aS,ao];rw[e];simp only[ao,yv];by_cases c:ek aJ ((code+i)%(aJ.length:Int))<=4
  . rw[ae (by simp[aN,c])];exact .inr ⟨_,rfl,d,f,aN,c⟩
  . rw[al (by simp[c]),bC];rcases P3 ⟨g,j⟩ h1 k (i+1) (by omega)with⟨a,b⟩|h
    . refine .inl ⟨a,λm p q=>?_⟩;by_cases o:m=i
      . subst o;rintro ⟨_,_,_,h⟩;exact c h
      grind
    grind
include cE bf in
theorem P4(b:de code)(h1:1<=aJ.length):∃u,tY ((⟨aJ⟩:ej),code)=some u/\((u= -1/\∀w,¬oU aJ w)\/oU aJ u):=by
 rw[tY];have h0:=P3 cE bf b h1 aJ.length 0 (by omega);have c4:nI (code,(aJ.length:Int),((0:Nat):Int),aJ)=nI (code,(aJ.length:Int),0,aJ):=rfl;rw[c4]at h0;rcases h0 with⟨h,a⟩|⟨u,h,a⟩
 . rw[h];refine⟨-1,rfl,.inl ⟨rfl,λw d=>?_⟩⟩;have f:=d;obtain⟨jB,g,_⟩:=f;have c:0<=(w-code)%(aJ.length:Int):=mi _ (by omega);have i:(w-code)%(aJ.length:Int)<aJ.length:=ma _ (by omega);refine a ((w-code)%(aJ.length:Int)).toNat (by omega) (by omega) ?_;have e:(code+(((w-code)%(aJ.length:Int)).toNat:Int))%(aJ.length:Int)=w:=by
    rw[yA c,Int.add_emod_emod];have:code+(w-code)=w:=(by omega);rw[this];exact Int.emod_eq_of_lt jB g
   grind
 grind
theorem I0{x:fu}(h:oV x):qa x=some (x.A%7-3):=by
 have:=h.a;unfold de at this;rw[qa,hj this.1,ly ⟨by omega,by omega⟩,gS]
theorem Ox{x:fu}(h:oV x):tT x=some (x.A%7-3+x.B%6):=by
 have d:=h.a;have c:=h.b;unfold de at d c;rw[tT,I0 h];simp only[aS,ao];rw[hj c.1,ly ⟨by omega,by omega⟩,kh (by omega) (by omega)]
def uR(l:ar)(n:Int):Prop:=l.Pairwise (· < ·)/\∀x,x∈l->1<=x/\x<=n
theorem I1{x:fu}:∀(k i:Nat) (acc:ar),i+k=6->uR acc i->acc.length<=i->∃l,p6 ((i:Int),x,acc)=some l/\uR l 6/\l.length<=6
 |0,i,acc,f,c,af=>⟨acc,by rw[p6,b'],⟨c.1,λy d=>by have:=c.2 y d;omega⟩,by omega⟩
 |k+1,i,acc,f,c,af=>by
  have e:uR acc ((i+1:Nat):Int):=⟨c.1,λy d=>by have:=c.2 y d;omega⟩
  rw[p6,br,hO];simp only[aS,ao];rw[bC];split
  . rw[ae (cO)];refine I1 k (i+1) _ (by omega) ⟨?_,λy d=>?_⟩ (by simp;omega)
    . rw[F3];refine⟨c.1,by simp,λa h1 b g=>?_⟩;have:=c.2 a h1;grind
    . rcases hQ.1 d with h|h
      . have:=c.2 y h;omega
      grind
  . exact I1 k (i+1) acc (by omega) e (by omega)
theorem aeO(x:fu):∃l,nO x=some l/\uR l 6/\1<=l.length/\l.length<=6:=by
 obtain⟨l,h1,d,e⟩:=I1 (x:=x) 6 0 [] (by omega) ⟨.nil,λy b=>by cases b⟩ (by simp);have c:p6 (0,x,[])=some l:=h1;rw[nO,c];simp only[aS,ao];cases l with
 |nil=>
  rw[hO,ae (cO (by omega) (by simp))];exact⟨_,rfl,⟨by simp,λy b=>by simp at b;omega⟩,by simp,by simp⟩
 |cons a l=>grind
def kl(x:fu):ar:=(nO x).getD []
theorem vf(x:fu):nO x=some (kl x)/\uR (kl x) 6/\1<=(kl x).length/\(kl x).length<=6:=by
 obtain⟨l,h1,a⟩:=aeO x;unfold kl;grind
def mw(k:Int)(x:fu)(key:Prop)(v:I):Prop:=
 v.ay=[]/\v.aj=[]/\v.Rest=[]/\
 (k=1/\v.Kind=1/\v.bc=0/\v.bl=[]/\v.ad=0\/
  k=2/\v.Kind=2/\v.bN=false/\v.bl=[]/\v.ad=0/\x.A%7-3<=v.bc/\v.bc<=x.A%7-3+x.B%6\/
  k=3/\v.Kind=3/\v.bN=false/\v.bc=0/\v.ad=0/\(v.bl.length:Int)<=x.A%4\/
  k=4/\v.Kind=4/\v.bN=false/\v.bc=0/\v.bl=[]/\v.ad∈kl x\/
  7<=k/\v.bN=false/\v.bc=0/\v.bl=[]/\v.ad=0/\(v.Kind=k/\(k=8->key)\/k=8/\v.Kind=7/\¬key))
def Init(aJ:List fu)(t:Int)(v:I):Prop:=mw (ek aJ t) (aJ.getD t.toNat eQ) (∃w,oU aJ w) v
include cE bf in
theorem aa5(h1:1<=aJ.length)(ht:0<=t/\t<aJ.length)(p:de code):∃r,yw ((⟨aJ⟩:ej),t,code)=some r/\(r.2=false->r.1=av)/\(r.2=true->Init aJ t r.1):=by
 obtain⟨j,rfl⟩:∃j:Nat,t=(j:Int):=⟨t.toNat,by omega⟩
 have l:j<aJ.length:=by omega
 have c:=cE _ (bd l eQ);obtain⟨e,k1,k9⟩:=rM cE bf ht.1 ht.2;obtain⟨u,C,D⟩:=P4 cE bf (code:=0) ⟨by omega,by omega⟩ h1;obtain⟨d,I⟩:=p;rw[yw,ae (aP l)];simp only[aS,ao,aZ];rw[e];simp only[ao];unfold Init;simp only[aZ];have y:=vf (aJ.getD j eQ);generalize ek aJ (j:Int)=k at*;generalize aJ.getD j eQ=x at*;have i:=c.a;have o:=c.b;unfold de at i o;have s:k=1\/k=2\/k=3\/k=4\/k=5\/k=6\/k=7\/k=8\/k=9:=by omega
 rcases s with rfl|rfl|rfl|rfl|rfl|rfl|rfl|rfl|rfl
 . exact⟨_,rfl,λh=>(by cases h),λ_=>by unfold mw;simp⟩
 . have el:=I0 c;have n:=Ox c;have aN:aM .i64 (c9 .i64 (x.A%7-3+x.B%6) (x.A%7-3)) 1=x.B%6+1:=by rw[gS,kh (by omega) (by omega)];omega
   have m:b7 (bT .i64 code) (x.B%6+1)=code%(x.B%6+1):=by rw[ly ⟨by omega,by omega⟩,hj d]
   have G:0<=code%(x.B%6+1):=mi _ (by omega);have H:code%(x.B%6+1)<x.B%6+1:=ma _ (by omega);have dx:aM .i64 (x.A%7-3) (code%(x.B%6+1))=x.A%7-3+code%(x.B%6+1):=kh (by omega) (by omega);simp only[Int.reduceEq,dk,dd,bY,b6,b5,ao,dW,et];rw[el];simp only[aS,ao];rw[n];simp only[ao];rw[aN,br,m,dx];exact⟨_,rfl,λh=>(by cases h),λ_=>by unfold mw;simp;omega⟩
 . simp only[Int.reduceEq,dk,dd,bY,b6,b5,ao,dW,et];rw[hj i.1,hj d];by_cases g:0<x.A%4
   . by_cases f:code%2=1
     . rw[ae (by simp[g,f])];exact⟨_,rfl,λh=>(by cases h),λ_=>by unfold mw;simp;omega⟩
     . rw[al (by simp[f])];exact⟨_,rfl,λh=>(by cases h),λ_=>by unfold mw;simp;omega⟩
   . rw[al (by simp[g])];exact⟨_,rfl,λh=>(by cases h),λ_=>by unfold mw;simp;omega⟩
 . obtain⟨F,J,K,L⟩:=y;simp only[Int.reduceEq,dk,dd,bY,b6,b5,ao,dW,et];rw[F];simp only[aS,ao];have G:0<=code%((kl x).length:Int):=mi _ (by omega);have H:code%((kl x).length:Int)<((kl x).length:Int):=ma _ (by omega);rw[ae (ur (by omega)),ly ⟨by omega,by omega⟩,hj d];obtain⟨q,z⟩:∃q:Nat,code%((kl x).length:Int)=(q:Int):=⟨(code%((kl x).length:Int)).toNat,by omega⟩
   rw[z,ae (aP (by omega)),aZ];exact⟨_,rfl,λh=>(by cases h),λ_=>by unfold mw;simp;rw[<-FR];exact bd (by omega) 0⟩
 . exact⟨_,rfl,λ_=>rfl,λh=>by cases h⟩
 . exact⟨_,rfl,λ_=>rfl,λh=>by cases h⟩
 . exact⟨_,rfl,λh=>(by cases h),λ_=>by unfold mw;simp⟩
 . simp only[Int.reduceEq,dk,dd,bY,b6,b5,ao,dW,et];rw[C];rcases D with⟨rfl,a⟩|a
   . exact⟨_,rfl,λh=>(by cases h),λ_=>by unfold mw;simp;exactλw E=>a w E⟩
   . have v:¬u<0:=by have:=a.1;omega
     simp only[aS,ao];rw[al (by simp[v])];exact⟨_,rfl,λh=>(by cases h),λ_=>by unfold mw;simp;exact⟨u,a⟩⟩
 . exact⟨_,rfl,λh=>(by cases h),λ_=>by unfold mw;simp⟩
structure uT (aJ:List fu)(i:Int)(record:Bool)(m:aU):Prop where
 id:1<=m.ad/\m.ad<=12
 name:m.Name=[UInt8.ofNat 109,UInt8.ofNat (97+m.ad.toNat)]
 sf:Fb aJ i m.aw
 gg:m.ch=true->m.bU=false
 un:record=false->m.ch=false/\m.bU=false
 SO:m.bU=false->m.bA=av
 ke:m.bU=true->Init aJ m.aw m.bA
include cE bf in
theorem NP(h1:1<=aJ.length){i:Int}(o:0<=i/\i<aJ.length){x:fu}(f:oV x)(record:Bool){id:Int}(d:1<=id/\id<=12){acc:List aU}(v:acc.length<=12):
 ∀(k j:Nat),j+k=x.c0.length->∃l,ry (i,record,id,(j:Int),aJ,x,acc)=some (i,record,id,aJ,x,acc++l)/\l.length<=1/\∀m,m∈l->m.ad=id/\uT aJ i record m
 |0,j,w=>⟨[],by rw[ry,b'];simp,by simp,λm z=>by cases z⟩
 |k+1,j,w=>by
  have aB:j<x.c0.length:=by omega
  have ag:=dA f.l;obtain⟨E,F,G⟩:=f.p _ (bd aB afu);obtain⟨u,C,N⟩:=abk cE bf h1 o F;rw[ry,br,ae (aP aB)];simp only[aS,ao,aZ];have D:yh ((⟨aJ⟩:ej),i,(x.c0.getD j iP).aw)=some u:=C;rw[D];simp only[ao];generalize q:x.c0.getD j iP=p;have P:de p.ad:=by rw[<-q];exact E
  have H:de p.ha:=by rw[<-q];exact G
  obtain⟨f1,f2⟩:=H;have aN:b7 p.ha 4=p.ha%4:=hj f1;have t:fC .u8 p.ha 4=p.ha/4:=aeL f1 f2;have M:=NP h1 o f record d v k (j+1) (by omega);by_cases s:(bif (!(decide (aM .i64 1 (bT .i64 (b7 p.ad 12))=id)))then true else decide (u<0))=true
  . rw[ae s,bC];exact M
  . rw[al s];have c:Fb aJ i u:=(by grind);have B:=IZ (k:=id) ⟨by omega,by omega⟩;rw[B];have A:([109]++[UInt8.ofNat (97+id.toNat)]:ak)=[UInt8.ofNat 109,UInt8.ofNat (97+id.toNat)]:=rfl;rw[ae (gb (by simp)),A,aN,t];obtain⟨r,J,K,L⟩:=aa5 cE bf h1 ⟨c.1,c.2.1⟩ (code:=p.ha/4) ⟨by omega,by omega⟩;have e:∀m:aU,room 160 (acc++[m]).length=true:=λm=>cO;have done:∀m:aU,m.ad=id->uT aJ i record m->∃l,(some (i,record,id,aJ,x,acc++[m]):Option (Int×Bool×Int×List fu×fu×List aU))=some (i,record,id,aJ,x,acc++l)/\l.length<=1/\∀m,m∈l->m.ad=id/\uT aJ i record m:=λm a b=>⟨[m],rfl,by simp,λy O=>by grind⟩
    cases record with
    |false=>
     simp only[dW,bY,b6];rw[ae (e _)];exact done _ rfl ⟨d,rfl,c,λh=>(by cases h),λ_=>⟨rfl,rfl⟩,λ_=>rfl,λh=>by cases h⟩
    |true=>
     simp only[et];by_cases g:p.ha%4=1
     . rw[ae (by simpa using g),b',ae (e _)];exact done _ rfl ⟨d,rfl,c,λ_=>rfl,λh=>(by cases h),λ_=>rfl,λh=>by cases h⟩
     . rw[al (by simpa using g)];by_cases n:2<=p.ha%4
       . rw[ae (by simpa using n),J];simp only[ao,I.aV];rw[ae (e _)];exact done _ rfl ⟨d,rfl,c,λh=>(by cases h),λh=>(by cases h),K,L⟩
       . rw[al (by simpa using n),ae (e _)];exact done _ rfl ⟨d,rfl,c,λh=>(by cases h),λh=>(by cases h),λ_=>rfl,λh=>by cases h⟩
def uU(aJ:List fu)(i:Int)(record:Bool)(l:List aU):Prop:=l.Pairwise (λa b=>a.ad<b.ad)/\(∀m,m∈l->uT aJ i record m)/\l.length<=12
include cE bf in
theorem NQ(h1:1<=aJ.length){i:Int}(f:0<=i/\i<aJ.length){x:fu}(j:oV x)(record:Bool):∀(k id:Nat) (acc:List aU),id+k=13->1<=id->
 acc.Pairwise (λa b=>a.ad<b.ad)->(∀m,m∈acc->uT aJ i record m/\m.ad<id)->acc.length<id->∃l,rE (i,record,(id:Int),aJ,x,acc)=some l/\uU aJ i record l
 |0,id,acc,n,h0,d,e,af=>⟨acc,by rw[rE,b'],d,λm g=>(e m g).1,by omega⟩
 |k+1,id,acc,n,h0,d,e,af=>by
  rw[rE,br];obtain⟨l,o,l2,s⟩:=NP cE bf h1 f j record (id:=(id:Int)) ⟨by omega,by omega⟩ (acc:=acc) (by omega) x.c0.length 0 (by omega);have p:ry (i,record,(id:Int),0,aJ,x,acc)=_:=o;rw[p];simp only[aS,ao];rw[bC];refine NQ h1 f j record k (id+1) _ (by omega) (by omega) ?_ (λm g=>?_) (by simp;omega)
  . rw[F3];refine⟨d,?_,λa q b r=>?_⟩
    . match l,l2 with
      |[],_=>exact .nil
      |[a],_=>simp
      |a::b::c,h=>simp at h
    grind
  grind
include cE bf in
theorem NR(h1:1<=aJ.length){i:Int}(b:0<=i/\i<aJ.length)(record:Bool):∃l,s8 ((⟨aJ⟩:ej),i,record)=some l/\uU aJ i record l:=by
 obtain⟨j,rfl⟩:∃j:Nat,i=(j:Int):=⟨i.toNat,by omega⟩
 have a:j<aJ.length:=by omega
 have d:=cE _ (bd a eQ);obtain⟨l,e,l2⟩:=NQ cE bf h1 b d record 12 1 [] (by omega) (by omega) .nil (λm c=>by cases c) (by simp);refine⟨l,?_,l2⟩;have f:rE ((j:Int),record,1,aJ,aJ.getD j eQ,[])=some l:=e;rw[s8,ae (aP a),aZ];grind
def qo(l:ar):List c3:=l.map λj=>⟨j,[UInt8.ofNat 115,UInt8.ofNat (97+j.toNat)]⟩
theorem N3{l:ar}(af:l.length<=6)(ag:∀x,x∈l->1<=x/\x<=6)(n i:Int)(b:List fu)(b1:Int)(b2:ak)(b3 b4 a c d:Int)(e:Bool)(f:List ai):∀(k j:Nat) (acc:List c3),j+k=l.length->acc.length<=j->
 pz (n,i,l,(j:Int),b,b1,b2,b3,b4,a,c,d,e,f,acc)=some (n,i,b,b1,b2,b3,b4,a,c,d,e,f,acc++qo (l.drop j))
 |0,j,acc,m,g=>by
  rw[pz,b',en (by omega:l.length<=j)];simp[qo]
 |k+1,j,acc,m,g=>by
  have aB:j<l.length:=by omega
  have o:=ag _ (bd aB 0);rw[pz,br,ae (aP aB),ae (aP aB)];simp only[aS,ao,aZ];rw[IZ ⟨by omega,by omega⟩,ae (gb (by simp)),ae (cO),bC,N3 af ag n i b b1 b2 b3 b4 a c d e f k (j+1) _ (by omega) (by simp;omega),eE aB 0];simp[qo]
def fr(aJ:List fu)(i:Int)(t:ai):Prop:=
 let x:=aJ.getD i.toNat eQ;let n:=(aJ.length:Int)
 let a:=[UInt8.ofNat (65+i.toNat)]
 (ek aJ i=1/\t=⟨1,[],0,0,0,[],[],0,0,false⟩)\/
 (ek aJ i=2/\t=⟨2,[],x.A%7-3,x.A%7-3+x.B%6,0,[],[],0,0,false⟩)\/
 (ek aJ i=3/\t=⟨3,[],0,0,x.A%4,[],[],0,0,false⟩)\/
 (ek aJ i=4/\∃o,t=⟨4,a,0,0,0,qo (kl x),[],0,0,o⟩)\/
 (ek aJ i=5/\∃l,uU aJ i true l/\t=⟨5,a,0,0,0,[],l,0,0,false⟩)\/
 (ek aJ i=6/\t=⟨5,a,0,0,0,[],[],0,0,false⟩)\/
 (ek aJ i=6/\∃l o,uU aJ i false l/\0<l.length/\t=⟨6,a,0,0,0,[],l,0,0,o⟩)\/
 (ek aJ i=7/\t=⟨7,[],0,0,x.A%4,[],[],0,x.C%n,false⟩)\/
 (ek aJ i=8/\(∀w,¬oU aJ w)/\t=⟨7,[],0,0,x.A%4,[],[],0,x.C%n,false⟩)\/
 (ek aJ i=8/\∃k,oU aJ k/\t=⟨8,[],0,0,x.A%4,[],[],k,x.C%n,false⟩)\/
 (ek aJ i=9/\t=⟨9,[],0,0,0,[],[],0,x.C%n,false⟩)
include cE bf in
theorem SS(h1:1<=aJ.length):∀(k i:Nat) (acc:List ai),i+k=aJ.length->acc.length=i->(∀j,j<i->fr aJ (j:Int) (acc.getD j aK))->
 ∃l,fP ((aJ.length:Int),(i:Int),aJ,acc)=some l/\l.length=aJ.length/\∀j,j<aJ.length->fr aJ (j:Int) (l.getD j aK)
 |0,i,acc,E,af,v=>⟨acc,by rw[fP,b'],by omega,λj F=>v j (by omega)⟩
 |k+1,i,acc,E,af,v=>by
  have aB:i<aJ.length:=by omega
  have m:=cE _ (bd aB eQ);obtain⟨e,k1,k9⟩:=rM cE bf (i:=(i:Int)) (by omega) (by omega);have next:∀t:ai,fr aJ (i:Int) t->∃l,(if room 120 (acc++[t]).length then fP ((aJ.length:Int),aM .i64 (i:Int) 1,aJ,acc++[t])else none)=some l/\l.length=aJ.length/\∀j,j<aJ.length->fr aJ (j:Int) (l.getD j aK):=by
   intro t ht;rw[ae (cO),bC];refine SS h1 k (i+1) _ (by omega) (by simp;omega) λj F=>?_;grind
  rw[fP,br,ae (aP aB)];simp only[aS,ao,aZ];rw[e];simp only[ao,j'];have q:=aeM (k:=(i:Int)) ⟨by omega,by omega⟩;have db:∀t,fr aJ (i:Int) t->fr aJ (i:Int) t:=λt h=>h;have⟨s,z,gc⟩:de (aJ.getD i eQ).A/\de (aJ.getD i eQ).B/\de (aJ.getD i eQ).C:=⟨m.a,m.b,m.c⟩
  have n:(!(decide ((aJ.length:Int)=0)))=true:=ur (by omega);have o:bT .i64 (b7 (aJ.getD i eQ).A 4)=(aJ.getD i eQ).A%4:=by
   unfold de at s;rw[hj s.1,ly ⟨by omega,by omega⟩]
  have p:b7 (bT .i64 (aJ.getD i eQ).C) (aJ.length:Int)=(aJ.getD i eQ).C%(aJ.length:Int):=by
   unfold de at gc;rw[ly ⟨by omega,by omega⟩,hj gc.1]
  have D:ek aJ (i:Int)=1\/ek aJ (i:Int)=2\/ek aJ (i:Int)=3\/ek aJ (i:Int)=4\/ek aJ (i:Int)=5\/ek aJ (i:Int)=6\/ek aJ (i:Int)=7\/ek aJ (i:Int)=8\/ek aJ (i:Int)=9:=by omega
  rcases D with d|d|d|d|d|d|d|d|d<;>rw[d] <;>
   simp only[Int.reduceEq,dk,dd,bY,b6,b5,ao,dW,et]
  . exact next _ (by unfold fr;simp[d])
  . have el:=I0 m;have w:=Ox m;have y:qa (aJ.getD i bu)=_:=el;have x:tT (aJ.getD i bu)=_:=w;rw[y];simp only[ao];rw[x];simp only[ao];exact next _ (by unfold fr;simp only[aZ];exact .inr (.inl ⟨d,by first|trivial|rfl⟩))
  . have f:bT .i64 (b7 (aJ.getD i bu).A 4)=_:=o;rw[f];exact next _ (by unfold fr;simp only[aZ];exact .inr (.inr (.inl ⟨d,by first|trivial|rfl⟩)))
  . obtain⟨H,J,O,K⟩:=vf (aJ.getD i eQ);have I:nO (aJ.getD i bu)=_:=H;rw[I];simp only[ao];have hs:=N3 (l:=kl (aJ.getD i eQ)) K J.2 (aJ.length:Int) (i:Int) aJ 4 (mV (bT .i32 (aM .i64 65 (i:Int)))) 0 0 0 0 0 (decide (b7 (aJ.getD i eQ).B 2=1)) acc (kl (aJ.getD i eQ)).length 0 [] (by omega) (by simp);have G:pz ((aJ.length:Int),(i:Int),kl (aJ.getD i eQ),0,aJ,4,mV (bT .i32 (aM .i64 65 (i:Int))),0,0,0,0,0,decide (b7 (aJ.getD i bu).B 2=1),acc,[])=_:=hs;rw[G];simp only[ao,fT,fS];rw[q];exact next _ (by unfold fr;simp only[aZ];exact .inr (.inr (.inr (.inl ⟨d,_,rfl⟩))))
  . obtain⟨l,r,l2⟩:=NR cE bf h1 (i:=(i:Int)) ⟨by omega,by omega⟩ true;rw[r];simp only[ao];rw[q];exact next _ (by unfold fr;simp only[aZ];exact .inr (.inr (.inr (.inr (.inl ⟨d,l,l2,rfl⟩)))))
  . obtain⟨l,r,l2⟩:=NR cE bf h1 (i:=(i:Int)) ⟨by omega,by omega⟩ false;rw[r];simp only[ao];rw[q];by_cases h0:l.length=0
    . rw[ae (by simp[h0])];exact next _ (by unfold fr;simp only[aZ];exact .inr (.inr (.inr (.inr (.inr (.inl ⟨d,by first|trivial|rfl⟩))))))
    . rw[al (by simp;intro h;rw[h]at h0;simp at h0)];exact next _ (by unfold fr;simp only[aZ];exact .inr (.inr (.inr (.inr (.inr (.inr (.inl ⟨d,l,_,l2,by omega,rfl⟩)))))))
  . have f:bT .i64 (b7 (aJ.getD i bu).A 4)=_:=o;have g:b7 (bT .i64 (aJ.getD i bu).C) (aJ.length:Int)=_:=p;rw[ae n,f,g];exact next _ (by unfold fr;simp only[aZ];exact .inr (.inr (.inr (.inr (.inr (.inr (.inr (.inl ⟨d,by first|trivial|rfl⟩))))))))
  . have f:bT .i64 (b7 (aJ.getD i bu).A 4)=_:=o;have g:b7 (bT .i64 (aJ.getD i bu).C) (aJ.length:Int)=_:=p;obtain⟨u,L,N⟩:=P4 cE bf z h1;have M:tY ((⟨aJ⟩:ej),(aJ.getD i bu).B)=some u:=L;rw[M];simp only[ao];rw[ae n,f,g];rcases N with⟨rfl,a⟩|a
    . rw[hO];exact next _ (by unfold fr;simp only[aZ];exact .inr (.inr (.inr (.inr (.inr (.inr (.inr (.inr (.inl ⟨d,a,by first|trivial|rfl⟩)))))))))
    . rw[al (by have:=a.1;simp;omega)];exact next _ (by unfold fr;simp only[aZ];exact .inr (.inr (.inr (.inr (.inr (.inr (.inr (.inr (.inr (.inl ⟨d,u,a,rfl⟩))))))))))
  . have g:b7 (bT .i64 (aJ.getD i bu).C) (aJ.length:Int)=_:=p;rw[ae n,g];exact next _ (by unfold fr;simp only[aZ];exact .inr (.inr (.inr (.inr (.inr (.inr (.inr (.inr (.inr (.inr ⟨d,by first|trivial|rfl⟩))))))))))
end
def uP(d:ej):Prop:=d.dI.length<=reachBytes/\∀x,x∈d.dI->oV x
theorem of_eq{d:ej}(a:uP d):qb d=some (⟨[]⟩,false)\/∃l,qb d=some (⟨l⟩,true)/\1<=d.dI.length/\d.dI.length<=5/\l.length=d.dI.length/\∀j,j<d.dI.length->fr d.dI (j:Int) (l.getD j aK):=by
 rw[qb];simp only[aS,ao];by_cases h:1<=d.dI.length/\d.dI.length<=5
 . obtain⟨l,c,l2,e⟩:=SS a.2 h.2 h.1 d.dI.length 0 [] (by omega) rfl (λj b=>by omega);grind
 grind
structure c' (ts:List ai):Prop where
 dc:1<=ts.length
 fB:ts.length<=5
 T:∀t,t∈ts->eZ t
 V:nz ts
 D:∀t,t∈ts->aeI ts t.ah
 R:∀i:Nat,i<ts.length->∀m,m∈(ts.getD i aK).ah->0<=m.aw/\m.aw<ts.length/\(7<=(ts.getD m.aw.toNat aK).Kind\/m.aw<i)
 L:∀t,t∈ts->t.Kind=2->-3<=t.bE/\t.bH<=8
 M:∀t,t∈ts->t.Max<=3
 cw:∀t,t∈ts->(∀m,m∈t.ah->m.ad<=12)/\(∀y,y∈t.bh->y.ad<=6)/\t.ah.length<=12
 W:∀t,t∈ts->∀m,m∈t.ah->m.bU=true->wt m.bA<=13
theorem pT(c:v.ay=[])(b:v.aj=[])(ag:v.Rest=[])(hs:v.bl.length<=1000)(dc:cx v.Kind)(d:cx v.bc)(e:cx v.ad):bK v:=by
 refine .mk v (by unfold reachBytes;omega) (by rw[c];simp) (by rw[b];simp) (by rw[ag];simp) (λx a=>?_) (λx a=>?_) (λx a=>?_) dc d e (λx a=>?_)
 . grind
 . grind
 . grind
 grind
theorem SV:bK av:=pT rfl rfl rfl (by simp[av]) (by unfold cx av;simp) (by unfold cx av;simp) (by unfold cx av;simp)
theorem N4(b:v.ay=[])(a:v.aj=[])(ag:v.Rest=[]):wt v=10+v.bl.length:=by
 rw[fD,b,a,ag,gH];simp
section
variable {aJ:List fu}(cE:∀x,x∈aJ->oV x)(bf:aJ.length<=5)(h1:1<=aJ.length){l:List ai}(af:l.length=aJ.length)(db:∀j,j<aJ.length->fr aJ (j:Int) (l.getD j aK))
include cE bf in
theorem N5(ht:0<=t/\t<aJ.length)(h:Init aJ t v):bK v/\wt v<=13:=by
 obtain⟨a,b,c,h⟩:=h;obtain⟨j,rfl⟩:∃j:Nat,t=(j:Int):=⟨t.toNat,by omega⟩
 have d:=cE _ (bd (by omega:j<aJ.length) eQ);obtain⟨_,k1,k9⟩:=rM cE bf ht.1 ht.2;rw[aZ]at h;have f:=d.a;have g:=d.b;have i:=(vf (aJ.getD j eQ)).2.1.2;unfold de at f g;rw[N4 a b c];have hs:v.bl.length<=3:=by grind
 refine⟨pT a b c (by omega) ?_ ?_ ?_,by omega⟩
 . unfold cx;rcases h with h|h|h|h|h<;>omega
 . unfold cx;rcases h with⟨_,_,e,_⟩|⟨_,_,_,_,_,e⟩|⟨_,_,_,e,_⟩|⟨_,_,_,e,_⟩|⟨_,_,e,_⟩<;>omega
 . unfold cx;grind
include cE bf in
theorem LO{i:Int}{r:Bool}(h:uU aJ i r Ms):p3 (!r) Ms\/(r=false/\Ms=[]):=by
 obtain⟨a,b,c⟩:=h;by_cases h0:r=false/\Ms=[]
 . grind
 left;refine⟨λm d=>?_,?_,⟨a,λm d=>?_⟩,λm d=>?_,?_,by omega⟩
 . have q:=b m d;unfold mA;have s:m.bU=false->p2 m.bA=true:=λh=>by
    rw[q.SO h];have k:eV (lV (av,av)) av av:=Ds SV av;obtain⟨w,v,z⟩:=k;unfold p2;grind
   have o:=q.gg;have p:=q.un;grind
 . grind
 . have:=(b m d).id;exact⟨by omega,by omega⟩
 . have q:=b m d;have:=q.id;rw[q.name];exact P2 (by omega) (by omega)
 . unfold List.Nodup;rw[oD];refine a.imp_of_mem λ{x y} l n aB=>?_;have f:=b x l;have g:=b y n;have t:=f.id;have u:=g.id;rw[f.name,g.name];intro e;simp only[List.cons.injEq,qj,rZ]at e;have j:=eu UInt8.toNat e;rw[ll,ll]at j;omega
theorem LP{l:ar}(h:uR l 6)(h1:1<=l.length)(d:l.length<=6):AG (qo l)/\(∀y,y∈qo l->y.ad<=6):=by
 unfold qo;refine⟨⟨by simp;omega,⟨?_,λy b=>?_⟩,λy b=>?_,?_,by simp;omega⟩,λy b=>?_⟩
 . rw[oD];exact h.1
 . obtain⟨x,a,rfl⟩:=e'.1 b;have:=h.2 x a;exact⟨this.1,by show x<=1000;omega⟩
 . obtain⟨x,a,rfl⟩:=e'.1 b;have:=h.2 x a;exact P2 (by omega) (by omega)
 . unfold List.Nodup;rw[oD,oD];refine h.1.imp_of_mem λ{x y} a b aB=>?_;have f:=h.2 x a;have g:=h.2 y b;intro e;simp only[List.cons.injEq,qj,rZ]at e;have c:=eu UInt8.toNat e;rw[ll,ll]at c;omega
 . obtain⟨x,a,rfl⟩:=e'.1 b;exact(h.2 x a).2
theorem N6{i:Int}{t:ai}(h:fr aJ i t):(ek aJ i<=5\/ek aJ i=7\/ek aJ i=9->t.Kind=ek aJ i)/\(ek aJ i=6->t.Kind=5\/t.Kind=6)/\(ek aJ i=8->(t.Kind=8/\∃w,oU aJ w)\/(t.Kind=7/\¬∃w,oU aJ w)):=by
 unfold fr at h;rcases h with⟨k,rfl⟩|⟨k,rfl⟩|⟨k,rfl⟩|⟨k,_,rfl⟩|⟨k,_,_,rfl⟩|⟨k,rfl⟩|⟨k,_,_,_,_,rfl⟩|⟨k,rfl⟩|⟨k,a,rfl⟩|⟨k,w,a,rfl⟩|⟨k,rfl⟩<;>simp[k]
 . omega
 grind
theorem Iw{i:Int}{t:ai}(h:fr aJ i t):t.ah=[]\/∃r,uU aJ i r t.ah:=by
 unfold fr at h;rcases h with⟨k,rfl⟩|⟨k,rfl⟩|⟨k,rfl⟩|⟨k,_,rfl⟩|⟨k,_,a,rfl⟩|⟨k,rfl⟩|⟨k,_,_,a,_,rfl⟩|⟨k,rfl⟩|⟨k,a,rfl⟩|⟨k,w,a,rfl⟩|⟨k,rfl⟩
 . grind
 . grind
 . grind
 . grind
 . grind
 . grind
 . grind
 . grind
 . grind
 . grind
 grind
include cE bf h1 af db in
theorem adh:c' l:=by
 have n:∀{P:ai->Prop},(∀j,j<aJ.length->P (l.getD j aK))->∀t,t∈l->P t:=λaj t ht=>by
  obtain⟨i,g,rfl⟩:=e1 ht;grind
 have B:∀j,j<aJ.length->oV (aJ.getD j eQ):=λj d=>cE _ (bd d eQ);have E:∀j,j<aJ.length->∀m,m∈(l.getD j aK).ah->∃r,uT aJ (j:Int) r m:=λj d m f=>by
  rcases Iw (db j d)with h|⟨r,_,h,_⟩
  . grind
  grind
 have Z:∀t,t∈l->eZ t:=n λj d=>by
  have f:=E j d;have ht:=db j d;have af:(l.getD j aK).ah.length<=12:=by
   rcases Iw ht with h|⟨r,_,_,h⟩
   . rw[h];simp
   . exact h
  have ag:(l.getD j aK).bh.length<=6:=by
   have g:=(vf (aJ.getD j eQ)).2.2.2;unfold fr at ht;rcases ht with⟨k,e⟩|⟨k,e⟩|⟨k,e⟩|⟨k,_,e⟩|⟨k,_,_,e⟩|⟨k,e⟩|⟨k,_,_,_,_,e⟩|⟨k,e⟩|⟨k,_,e⟩|⟨k,_,_,e⟩|⟨k,e⟩<;>rw[e]
   case inr.inr.inr.inl=>simp only[aZ,qo,km];exact g
   all_goals simp
  refine⟨by unfold reachBytes;omega,by unfold reachBytes;omega,λm Y=>?_⟩;obtain⟨r,q⟩:=f m Y;by_cases D:m.bU=true
  . exact(N5 cE bf ⟨q.sf.1,q.sf.2.1⟩ (q.ke D)).1
  . rw[q.SO (by simpa using D)];exact SV
 have al:∀u:Int,0<=u->u<aJ.length->7<=ek aJ u->7<=(l.getD u.toNat aK).Kind:=λu h0 A I=>by
  obtain⟨j,rfl⟩:∃j:Nat,u=(j:Int):=⟨u.toNat,by omega⟩
  rw[aZ];obtain⟨_,_,k9⟩:=rM cE bf h0 A;obtain⟨a,b,c⟩:=N6 (db j (by omega));omega
 have aa:nz l:=by
  refine⟨by omega,n λj d=>?_,λj d=>?_,n λj d=>?_,n λj d F=>?_⟩
  . have ht:=db j d;have z:=vf (aJ.getD j eQ);have s:=(B j d).a;have J:=(B j d).b;have G:nm [UInt8.ofNat (65+j)]=true:=aeN (by omega);unfold de at s J;unfold fr at ht;simp only[aZ]at ht;generalize [UInt8.ofNat (65+j)]=an at G ht;unfold gj;rcases ht with⟨k,e⟩|⟨k,e⟩|⟨k,e⟩|⟨k,_,e⟩|⟨k,Ms,a,e⟩|⟨k,e⟩|⟨k,Ms,_,a,a0,e⟩|⟨k,e⟩|⟨k,_,e⟩|⟨k,_,_,e⟩|⟨k,e⟩<;>rw[e]
    . simp
    . simp;omega
    . simp;omega
    . simp;exact⟨G,(LP z.2.1 z.2.2.1 z.2.2.2).1⟩
    . simp;refine⟨G,?_⟩;rcases LO cE bf a with h|⟨h,_⟩
      . exact h
      . cases h
    . simp;exact⟨G,λm f=>(by cases f),.inl rfl,⟨.nil,λm f=>by cases f⟩,λm f=>(by cases f),by simp,by simp⟩
    . simp;refine⟨G,?_⟩;rcases LO cE bf a with h|⟨_,h⟩
      . exact h
      grind
    . simp;omega
    . simp;omega
    . simp;omega
    . simp
  ·
   have T:∀k,k<aJ.length->(l.getD k aK).Name=[]\/(l.getD k aK).Name=[UInt8.ofNat (65+k)]:=λk R=>by
    have ht:=db k R;unfold fr at ht;simp only[aZ]at ht;rcases ht with⟨k,e⟩|⟨k,e⟩|⟨k,e⟩|⟨k,_,e⟩|⟨k,Ms,a,e⟩|⟨k,e⟩|⟨k,Ms,_,a,a0,e⟩|⟨k,e⟩|⟨k,_,e⟩|⟨k,_,_,e⟩|⟨k,e⟩<;>rw[e]<;>simp
   rcases T j (by omega)with h|h
   . rw[h];simp
   . rw[h];simp only[Bool.and_eq_false_iff];right;apply F5.2;intro K;obtain⟨k,R,he⟩:=(qf).1 K;have aq:(l.map (·.Name)).getD k []=(l.getD k aK).Name:=h2 (·.Name) l k aK [] (by omega);rw[aq]at he;rcases T k (by omega)with O|O
     . grind
     . rw[O]at he;simp only[List.cons.injEq,qj]at he;have p:=eu UInt8.toNat he;rw[ll,ll]at p;omega
  . intro u A;have f:=E j d;have K:=(B j d).c;unfold de at K;have U:0<=(aJ.getD j eQ).C%(aJ.length:Int):=mi _ (by omega);have V:(aJ.getD j eQ).C%(aJ.length:Int)<aJ.length:=ma _ (by omega);have ht:=db j d;unfold fr at ht;simp only[aZ]at ht;generalize (aJ.getD j eQ).C%(aJ.length:Int)=ae at U V ht;unfold fi at A;simp only[hQ,e']at A;rcases A with(⟨m,h,rfl⟩|h)|h
    . obtain⟨r,q⟩:=f m h;have:=q.sf.1;have:=q.sf.2.1;omega
    . split at h
      . rename_i F;have:u=(l.getD j aK).Key:=(by simpa using h);rw[this];rcases ht with⟨k,e⟩|⟨k,e⟩|⟨k,e⟩|⟨k,_,e⟩|⟨k,Ms,a,e⟩|⟨k,e⟩|⟨k,Ms,_,a,a0,e⟩|⟨k,e⟩|⟨k,_,e⟩|⟨k,w,a,e⟩|⟨k,e⟩<;>rw[e]at F⊢<;>simp at F⊢;obtain⟨jB,ab,_⟩:=a;omega
      . cases h
    . split at h
      . rename_i I;have:u=(l.getD j aK).aF:=(by simpa using h);rw[this];rcases ht with⟨k,e⟩|⟨k,e⟩|⟨k,e⟩|⟨k,_,e⟩|⟨k,Ms,a,e⟩|⟨k,e⟩|⟨k,Ms,_,a,a0,e⟩|⟨k,e⟩|⟨k,_,e⟩|⟨k,w,a,e⟩|⟨k,e⟩<;>rw[e]at I⊢<;>simp at I⊢<;>omega
      . cases h
  . have ht:=db j d;unfold fr at ht;simp only[aZ]at ht;rcases ht with⟨k,e⟩|⟨k,e⟩|⟨k,e⟩|⟨k,_,e⟩|⟨k,Ms,a,e⟩|⟨k,e⟩|⟨k,Ms,_,a,a0,e⟩|⟨k,e⟩|⟨k,_,e⟩|⟨k,w,a,e⟩|⟨k,e⟩<;>rw[e]at F⊢<;>simp at F⊢;obtain⟨jB,ab,ar,au⟩:=a;obtain⟨q,rfl⟩:∃q:Nat,w=(q:Int):=⟨w.toNat,by omega⟩
    obtain⟨a,_,_⟩:=N6 (db q (by omega));have:=a (.inl (by omega));simp_all
 refine⟨by omega,by omega,Z,aa,n λj d m f D=>?_,λj d m f=>?_,n λj d Q=>?_,n λj d=>?_,n λj d=>⟨λm f=>?_,λy L=>?_,?_⟩,n λj d m f D=>?_⟩
 . obtain⟨r,q⟩:=E j d m f;have g:=q.ke D;obtain⟨M,N,_⟩:=q.sf;generalize m.bA=v at g;obtain⟨u,A⟩:∃u:Nat,m.aw=(u:Int):=⟨m.aw.toNat,by omega⟩
   rw[A]at g M N⊢;have ht:=db u (by omega);obtain⟨a,b,c,g⟩:=g;rw[eH];simp only[aZ]at g⊢;unfold fr at ht;simp only[aZ]at ht;have X:((l.length:Nat):Int)=aJ.length:=(by omega);rw[X];generalize l.getD u aK=x at ht⊢;rw[a,b,c];have ap:∀t,e3 l true t []:=λt=>by rw[e3];trivial
   have ak:jP []:=λi g=>by simp at g
   have S:=B u (by omega);generalize aJ.getD u eQ=am at ht g S;rcases g with⟨k,aN,p,dx,hI⟩|⟨k,aN,p,dx,hI,jT,o7⟩|⟨k,aN,p,dx,hI,jT⟩|⟨k,aN,p,dx,hI,jT⟩|⟨k,aN,p,dx,hI,jT⟩
   . rw[k]at ht;grind
   . rw[k]at ht;grind
   . rw[k]at ht;grind
   . rw[k]at ht;simp only[Int.reduceEq,false_and,rZ,or_false,false_or]at ht;obtain⟨o,rfl⟩:=ht;rw[aN,p,dx,hI];simp;refine⟨by omega,⟨v.ad,[UInt8.ofNat 115,UInt8.ofNat (97+v.ad.toNat)]⟩,?_,rfl⟩;unfold qo;grind
   . rw[aN,p,dx,hI];have k9:ek aJ (u:Int)<=9:=(rM cE bf M N).2.2;have W:ek aJ (u:Int)=7\/ek aJ (u:Int)=8\/ek aJ (u:Int)=9:=(by omega);have s:=S.a;unfold de at s;rcases W with H|H|H
     . rw[H]at ht jT;grind
     . rw[H]at ht jT;grind
     . rw[H]at ht jT;grind
 . obtain⟨r,q⟩:=E j (by omega) m f;obtain⟨M,N,ao⟩:=q.sf;grind
 . have ht:=db j d;have s:=(B j d).a;have J:=(B j d).b;unfold de at s J;unfold fr at ht;simp only[aZ]at ht;rcases ht with⟨k,e⟩|⟨k,e⟩|⟨k,e⟩|⟨k,_,e⟩|⟨k,Ms,a,e⟩|⟨k,e⟩|⟨k,Ms,_,a,a0,e⟩|⟨k,e⟩|⟨k,_,e⟩|⟨k,w,a,e⟩|⟨k,e⟩<;>rw[e]at Q⊢<;>simp at Q⊢;omega
 . have ht:=db j d;have s:=(B j d).a;unfold de at s;unfold fr at ht;simp only[aZ]at ht;rcases ht with⟨k,e⟩|⟨k,e⟩|⟨k,e⟩|⟨k,_,e⟩|⟨k,Ms,a,e⟩|⟨k,e⟩|⟨k,Ms,_,a,a0,e⟩|⟨k,e⟩|⟨k,_,e⟩|⟨k,w,a,e⟩|⟨k,e⟩<;>rw[e]<;>simp<;>omega
 . obtain⟨r,q⟩:=E j d m f;exact q.id.2
 . have ht:=db j d;have z:=vf (aJ.getD j eQ);unfold fr at ht;simp only[aZ]at ht;rcases ht with⟨k,e⟩|⟨k,e⟩|⟨k,e⟩|⟨k,_,e⟩|⟨k,Ms,a,e⟩|⟨k,e⟩|⟨k,Ms,_,a,a0,e⟩|⟨k,e⟩|⟨k,_,e⟩|⟨k,w,a,e⟩|⟨k,e⟩<;>rw[e]at L<;>simp at L;exact(LP z.2.1 z.2.2.1 z.2.2.2).2 y L
 . rcases Iw (db j d)with h|⟨r,_,_,h⟩
   . rw[h];simp
   . exact h
 . obtain⟨r,q⟩:=E j d m f;exact(N5 cE bf ⟨q.sf.1,q.sf.2.1⟩ (q.ke D)).2
end
theorem Cm{d:ej}(g:uP d):qb d=some (⟨[]⟩,false)\/∃l,qb d=some (⟨l⟩,true)/\c' l:=by
 rcases of_eq g with h|⟨l,a,b,c,e,f⟩
 . exact .inl h
 . exact .inr ⟨l,a,adh g.2 c b e f⟩
def fv(a C:ar):Prop:=a.length<=C.length/\∀c,c∈a->c∈C
theorem fv.refl(C:ar):fv C C:=⟨d' _,λ_ h=>h⟩
theorem fv.trans{A B C:ar}(h:fv A B)(k:fv B C):fv A C:=⟨gp h.1 k.1,λc a=>k.2 c (h.2 c a)⟩
def gN(C:ar):Prop:=∀c,c∈C->de c
theorem gN.dO{A B:ar}(h:gN B)(k:fv A B):gN A:=λc a=>h c (k.2 c a)
section
variable {ts:List ai}
theorem lp{n:Int}(aH:1<=n/\n<=1000){C:ar}(cv:gN C)(af:C.length<=1000)(odd:Bool):
 ∃r b,iU (n,ts,C,odd)=some (r,ts,b,odd)/\0<=r/\r<n/\fv b C/\(r=0/\b=[]/\C=[]\/b.length+1=C.length):=by
 rw[iU];cases C with
 |nil=>
  rw[hO];exact⟨0,[],rfl,by omega,by omega,fv.refl _,.inl ⟨rfl,rfl,rfl⟩⟩
 |cons c C=>
  have d:=cv c (.head _);unfold de at d;have h0:aG 0 (c::C).length=true:=aP (k:=0) (by simp);have h1:dN 1 ((c::C).length:Int) (c::C).length=true:=jO (a:=1) (by simp) (by simp);have e:dZ (c::C) 1 ((c::C).length:Int)=C:=by
   have:=oh (c::C) 1;grind
  rw[b',ae h0,ae (ur (by omega)),ae h1,e];simp only[r4,jv];rw[ly ⟨by omega,by omega⟩,hj d.1];exact⟨_,C,rfl,mi _ (by omega),ma _ (by omega),⟨by simp,λx f=>.tail _ f⟩,.inr (by simp)⟩
theorem I2{C:ar}(cv:gN C)(af:C.length<=1000)(odd:Bool):
 ∃o a,vm (ts,C,odd)=some (o,ts,a,odd)/\(odd=false->o=false)/\fv a C:=by
 rw[vm];cases odd with
 |false=>exact⟨false,C,rfl,λ_=>rfl,fv.refl _⟩
 |true=>
  obtain⟨r,a,h1,_,_,b,_⟩:=lp (ts:=ts) (n:=4) ⟨by omega,by omega⟩ cv af true;rw[ae rfl,h1];exact⟨_,a,rfl,λh=>(by cases h),b⟩
theorem aeg(b:x.ah.length<9223372036854775807)(hs:x.bh.length<9223372036854775807)(n:Int):dr (CK (x,n)) ((∃m,m∈x.ah/\m.ad=n)\/∃y,y∈x.bh/\y.ad=n):=by
 obtain⟨r,_,c,a⟩:=mS (t:=x) n b;obtain⟨s,_,d,aq⟩:=rb (t:=x) n hs;rw[CK,c];simp only[aS,ao];rw[d];refine⟨_,rfl,?_⟩;have h1:=Dt aq;have f:r.2=true↔∃m,m∈x.ah/\m.ad=n:=by
  rcases tC a with⟨e,j,g,_,_,i⟩|⟨e,q⟩
  . grind
  . rw[e];have:=nW q;grind
 grind
theorem LQ(c:x.ah.length<9223372036854775807)(hs:x.bh.length<9223372036854775807)(d:∀m,m∈x.ah->m.ad<=12)(e:∀y,y∈x.bh->y.ad<=6)(C:ar)(odd:Bool):
 ∀(k:Nat) (n:Int),1<=n->n<=14->13<=n+k->∃a,vj (n,ts,C,odd,x)=some (a,ts,C,odd)/\1<=a/\a<=14/\(∀m,m∈x.ah->m.ad≠a)/\(∀y,y∈x.bh->y.ad≠a)
 |k,n,h1,g,b=>by
  obtain⟨r,f,j⟩:=aeg c hs n;rw[vj,f];simp only[aS,ao];cases r with
  |false=>grind
  |true=>
   have i:n<=12:=(by grind);rw[ae rfl,kh (by omega) (by omega)]
   match k,b with
   |0,b=>omega
   |k+1,b=>exact LQ c hs d e C odd k (n+1) (by omega) (by omega) (by omega)
theorem Iz(e:x.ah.length<9223372036854775807)(hs:x.bh.length<9223372036854775807)(b:∀m,m∈x.ah->m.ad<=12)(d:∀y,y∈x.bh->y.ad<=6){C:ar}(cv:gN C)(af:C.length<=1000)(odd:Bool):
 ∃n a,rm (x,ts,C,odd)=some (n,ts,a,odd)/\cm n/\cB x.ah n=none/\fv a C:=by
 obtain⟨r,a,h1,i,j,c,_⟩:=lp (ts:=ts) (n:=14) ⟨by omega,by omega⟩ cv af odd;obtain⟨n,dc,k,l,g,_⟩:=LQ (ts:=ts) e hs b d a odd 12 (1+r) (by omega) (by omega) (by omega);refine⟨n,a,?_,⟨by omega,by omega⟩,?_,c⟩
 . rw[rm,h1];simp only[aS,ao];rw[kh (by omega) (by omega),dc];rfl
 . unfold cB;rw[yD];intro m f;simpa using g m f
theorem NS{n:Int}{C:ar}(cv:gN C)(af:C.length<=1000)(odd:Bool):∃d a,vn (n,ts,C,odd)=some (⟨n,d⟩,ts,a,odd)/\d.length<=3/\fv a C:=by
 obtain⟨r,a,h1,b,c,e,_⟩:=lp (ts:=ts) (n:=4) ⟨by omega,by omega⟩ cv af odd;obtain⟨k,rfl⟩:∃k:Nat,r=(k:Int):=⟨r.toNat,by omega⟩
 rw[vn];simp only[aS,ao];rw[h1];simp only[ao];rw[ae (aP (by simp;omega)),aZ];grind
theorem N7(odd:Bool):∀(k:Nat) (s:ak) (C:ar),k<=100->gN C->C.length<=1000->s.length+k<=100->∃b a,tb (s,(k:Int),ts,C,odd)=some (b,ts,a,odd)/\b.length<=s.length+k/\fv a C
 |0,s,C,g,cv,af,hs=>⟨s,C,by rw[tb,bw],by omega,fv.refl _⟩
 |k+1,s,C,g,cv,af,hs=>by
  obtain⟨r,a,h1,f,j,c,_⟩:=lp (ts:=ts) (n:=3) ⟨by omega,by omega⟩ cv af odd;have i:decide ((0:Int)<((k+1:Nat):Int))=true:=by rw[eT];omega
  have e:c9 .i64 ((k+1:Nat):Int) 1=(k:Int):=by rw[gS];omega
  rw[tb,ae i,h1];simp only[aS,ao];rw[IZ ⟨f,by omega⟩,ae (gb (by simp;omega)),e];obtain⟨b,d,a1,a2,a3⟩:=N7 odd k (s++[UInt8.ofNat (97+r.toNat)]) a (by omega) (cv.dO c) (by have:=c.1;omega) (by simp;omega);exact⟨b,d,a1,by simp at a2;omega,a3.trans c⟩
theorem aeh{most:Int}(f:0<=most/\most<=1000){C:ar}(cv:gN C)(af:C.length<=1000)(odd:Bool):∃s a,Cn (most,ts,C,odd)=some (s,ts,a,odd)/\(s.length:Int)<=most/\s.length<=3/\fv a C:=by
 have em:aM .i64 (ja most 3) 1=min most 3+1:=by
  have:ja most 3=min most 3:=rfl;rw[this,kh (by omega) (by omega)]
 obtain⟨r,a,h1,d,e,b,_⟩:=lp (ts:=ts) (n:=min most 3+1) ⟨by omega,by omega⟩ cv af odd;obtain⟨k,rfl⟩:∃k:Nat,r=(k:Int):=⟨r.toNat,by omega⟩
 obtain⟨s,c,a1,a2,a3⟩:=N7 (ts:=ts) odd k [] a (by omega) (cv.dO b) (by have:=b.1;omega) (by simp;omega);refine⟨s,c,?_,by simp at a2;omega,by simp at a2;omega,a3.trans b⟩;rw[Cn,em,h1];grind
end
theorem TU:∀a b:ak,Op.bytesLess a b=false->a≠b->Op.bytesLess b a=true
 |[],[],_,h=>absurd rfl h
 |[],y::b,h,_=>by simp[Op.bytesLess]at h
 |x::a,[],h,_=>by simp[Op.bytesLess]
 |x::a,y::b,h,d=>by
  simp only[Op.bytesLess]at h⊢;by_cases h1:x<y
  . grind
  . by_cases c:y<x
    . simp[c]
    . have e:x=y:=(by grind);subst e;have ag:Op.bytesLess a b=false:=(by simpa using h);have:=TU a b ag (λe=>d (by rw[e]));simp[this]
theorem v'{a b:I}(c:cx a.bc)(d:cx b.bc):oe (a,b)=some (g' a b):=by
 obtain⟨r,h1,e⟩:=DJ c d;unfold g';grind
theorem abl{a b:I}(d:cx a.bc)(f:cx b.bc)(h:0<g' a b):g' b a<0:=by
 have h1:=v' d f;have c:=v' f d;generalize g' a b=r at h h1;generalize g' b a=q at c;rw[oe]at h1 c;by_cases l:a.Kind=b.Kind
 . rw[al (by simp[l])]at h1 c;by_cases k1:a.Kind=1
   . have g:b.Kind=1:=(by omega);rw[ae (by simp[k1])]at h1;rw[ae (by simp[g])]at c;simp only[kG,fy]at h1 c;grind
   . have g:¬b.Kind=1:=(by omega);rw[al (by simp[k1])]at h1;rw[al (by simp[g])]at c;by_cases k2:a.Kind=2
     . have i:b.Kind=2:=(by omega);rw[ae (by simp[k2]),uk d,uk f]at h1;rw[ae (by simp[i]),uk d,uk f]at c;simp only[aS,ao,kG]at h1 c;by_cases e:a.bc=b.bc
       . grind
       . have o:fE a.bc≠fE b.bc:=λh=>e (Ol h);grind
     . have i:¬b.Kind=2:=(by omega);rw[al (by simp[k2])]at h1;rw[al (by simp[i])]at c;by_cases k3:a.Kind=3
       . have j:b.Kind=3:=(by omega);rw[ae (by simp[k3])]at h1;rw[ae (by simp[j])]at c;simp only[aS,ao,kG]at h1 c;by_cases af:a.bl.length=b.bl.length
         . rw[al (by simp[af])]at h1 c;by_cases e:a.bl=b.bl
           . grind
           . have n:¬b.bl=a.bl:=λh=>e h.symm;cases k:Op.bytesLess a.bl b.bl with
             |true=>simp[e,k]at h1;omega
             |false=>
              have:=TU _ _ k e;grind
         grind
       . have j:¬b.Kind=3:=(by omega);rw[al (by simp[k3])]at h1;rw[al (by simp[j])]at c;by_cases k4:a.Kind=4
         . have m:b.Kind=4:=(by omega);rw[ae (by simp[k4])]at h1;rw[ae (by simp[m])]at c;simp only[aS,ao,kG]at h1 c;grind
         grind
 grind
theorem S7{key item:I}(af:v.ay.length<1000000)(l:∀x,x∈v.ay->cx x.bc)(n:cx key.bc)(a:Int)(b:Bool)(c:Int)(d:ak)(e:Int):∀(k i:Nat),i+k=v.ay.length->
 (∀j,j<i->g' (v.ay.getD j av) key<0)->∃m:Nat,m<=v.ay.length/\rI ((i:Int),v,key,item,a,b,c,d,e)=some ((m:Int),v,key,item,a,b,c,d,e)/\(∀j,j<m->g' (v.ay.getD j av) key<0)/\(m<v.ay.length->0<=g' (v.ay.getD m av) key)
 |0,i,p,g=>by
  have f:decide ((i:Int)<(v.ay.length:Int))=false:=by simp;omega
  refine⟨i,by omega,?_,g,λh=>by omega⟩;rw[rI];simp only[aS,ao,f,eU,Bool.or_true,b5,bY,b6,dW,I.aV]
 |k+1,i,p,g=>by
  have aB:i<v.ay.length:=by omega
  have f:decide ((i:Int)<(v.ay.length:Int))=true:=by simp;omega
  have o:=v' (l _ (bd aB av)) n;rw[rI];simp only[aS,ao,f,c8,jb,b5,et,I.aV,aZ];rw[ae (aP aB),o];simp only[ao];by_cases q:g' (v.ay.getD i av) key<0
  . rw[ae (by simpa using q),bC];refine S7 af l n a b c d e k (i+1) (by omega) λj r=>?_;grind
  grind
theorem tH:∀(a b:List I),cK (a++b)=cK a+cK b
 |[],b=>by rw[gH];simp
 |x::a,b=>by rw[uz,hh,hh,tH a b];omega
theorem NT{l:List α}{m:Nat}{x d:α}(a:m<=l.length)(i:Nat):(l.take m++(x::l.drop m)).getD i d=if i<m then l.getD i d else if i=m then x else l.getD (i-1) d:=by grind
theorem aeP{key item:I}(af:v.ay.length<1000)(z:v.aj.length=v.ay.length)(l:∀x,x∈v.ay->cx x.bc)(n:cx key.bc)(g:jP v.ay):
 ∃ks b,CN (v,key,item)=some ⟨v.Kind,v.bN,v.bc,v.bl,v.ad,ks,b,v.Rest⟩/\b.length=ks.length/\ks.length<=v.ay.length+1/\jP ks/\(∀x,x∈ks->x∈v.ay\/x=key)/\(∀x,x∈b->x∈v.aj\/x=item)/\cK ks+cK b<=cK v.ay+cK v.aj+wt key+wt item:=by
 obtain⟨m,f,B,G,D⟩:=S7 (item:=item) (by omega) l n 0 false 0 [] 0 v.ay.length 0 (by omega) (λj F=>by omega);have C:rI (0,v,key,item,0,false,0,[],0)=_:=B;rw[CN];simp only[I.aV];rw[C];simp only[aS,ao,I.aV];have ins:∀(r:m<v.ay.length->0<g' (v.ay.getD m av) key),∃ks b,(some (⟨v.Kind,v.bN,v.bc,v.bl,v.ad,v.ay.take m++(key::v.ay.drop m),v.aj.take m++(item::v.aj.drop m),v.Rest⟩:I):Option I)=some ⟨v.Kind,v.bN,v.bc,v.bl,v.ad,ks,b,v.Rest⟩/\b.length=ks.length/\ks.length<=v.ay.length+1/\jP ks/\(∀x,x∈ks->x∈v.ay\/x=key)/\(∀x,x∈b->x∈v.aj\/x=item)/\cK ks+cK b<=cK v.ay+cK v.aj+wt key+wt item:=by
  intro r;refine⟨_,_,rfl,by simp;omega,by simp;omega,λi y=>?_,λx c=>?_,λx c=>?_,?_⟩
  . rw[NT f,NT f];have A:(v.ay.take m++(key::v.ay.drop m)).length=v.ay.length+1:=by simp;omega
    rw[A]at y;by_cases h1:i+1<m
    . rw[fz,ae h1];exact g i (by omega)
    . by_cases p:i+1=m
      . grind
      . by_cases q:i=m
        . rw[bB,ae q,al h1,al p];have e:i+1-1=m:=(by omega);rw[e];exact abl (l _ (bd (by omega) av)) n (r (by omega))
        . rw[bB,al q,al h1,al p];have:=g (i-1) (by omega);grind
  . grind
  . grind
  . rw[tH,tH,hh,hh];have aN:cK v.ay=cK (v.ay.take m)+cK (v.ay.drop m):=by rw[<-tH,yM]
    have E:cK v.aj=cK (v.aj.take m)+cK (v.aj.drop m):=by rw[<-tH,yM]
    omega
 have s1:dN 0 (m:Int) v.ay.length=true:=jO (a:=0) (by omega) f;have s:dN (m:Int) (v.ay.length:Int) v.ay.length=true:=jO f (by omega);have t:dN 0 (m:Int) v.aj.length=true:=jO (a:=0) (by omega) (by omega);have u:dN (m:Int) (v.aj.length:Int) v.aj.length=true:=jO (by omega) (by omega);have build:∀{o:Option I->Prop},o (some (⟨v.Kind,v.bN,v.bc,v.bl,v.ad,v.ay.take m++(key::v.ay.drop m),v.aj.take m++(item::v.aj.drop m),v.Rest⟩:I))->o (some (⟨v.Kind,v.bN,v.bc,v.bl,v.ad,v.ay.take m++(key::v.ay.drop m),v.aj.take m++(item::v.aj.drop m),v.Rest⟩:I)):=λh=>h;by_cases d:m<v.ay.length
 . have k:decide ((m:Int)<(v.ay.length:Int))=true:=by simp;omega
   have w:=v' (l _ (bd d av)) n;simp only[k,c8,jb,b5,et,aZ];rw[ae (aP d),w];simp only[ao];by_cases h0:g' (v.ay.getD m av) key=0
   . rw[ae (by simpa using h0)];refine⟨v.ay,v.aj,by cases v;rfl,z,by omega,g,λx c=>.inl c,λx c=>.inl c,by omega⟩
   . rw[al (by simpa using h0),ae s1,ae (cO (by omega) (by simp[dZ];omega))];rw[ae (cO (by omega) (by simp[dZ];omega)),ae s,ae (cO (by omega) (by simp[dZ];omega)),ae t,ae (cO (by omega) (by simp[dZ];omega)),ae (cO (by omega) (by simp[dZ];omega)),ae u,ae (cO (by omega) (by simp[dZ];omega))];rw[tF,tF,oh,oh];simp only[fS,ir,List.singleton_append];exact ins λ_=>by have:=D d;omega
 . have k:decide ((m:Int)<(v.ay.length:Int))=false:=by simp;omega
   simp only[k,eU,Bool.or_true,b5,bY,b6,dW,ao];rw[ae s1,ae (cO (by omega) (by simp[dZ];omega))];rw[ae (cO (by omega) (by simp[dZ];omega)),ae s,ae (cO (by omega) (by simp[dZ];omega)),ae t,ae (cO (by omega) (by simp[dZ];omega)),ae (cO (by omega) (by simp[dZ];omega)),ae u,ae (cO (by omega) (by simp[dZ];omega))];rw[tF,tF,oh,oh];simp only[fS,ir,List.singleton_append];exact ins λh=>absurd h d
section
variable {ts:List ai}
mutual
theorem oK:∀(v:I) (t:Int),bX ts true t v->bX ts false t v
 |⟨k,b,i,s,id,ks,e,r⟩,t,h=>by
  rw[bX]at h⊢;obtain⟨⟨h1,p,q,B⟩,bf⟩:=h;have w:=GV e;have D:=GV ks;have E:=Tp e;refine⟨⟨h1,p,q,λh=>by cases h⟩,?_⟩
  have A:(match cB (ts.getD t.toNat aK).ah id with
   |some m=>r=[]/\e.length=1/\e3 ts true m.aw e
   |none=>(ts.getD t.toNat aK).Open=true/\true=false/\cm id/\e=[]/\∃d,r=[⟨id,d⟩])->(match cB (ts.getD t.toNat aK).ah id with
   |some m=>r=[]/\e.length=1/\e3 ts false m.aw e
   |none=>(ts.getD t.toNat aK).Open=true/\false=false/\cm id/\e=[]/\∃d,r=[⟨id,d⟩]):=by
   split
   . rintro ⟨a,b,c⟩;exact⟨a,b,w _ c⟩
   . rintro ⟨_,b,_⟩;cases b
  rcases bf with h|h|h|⟨a1,a2,a3,a4,a5,f,j,o⟩|⟨a1,a2,a3,a4,a5,f,j,o⟩|⟨a1,a2,a3,a4,a5,f⟩|⟨a1,a2,a3,a4,a5,f,j,o,a9⟩|⟨a1,a2,a3,a4,a5,f,j,o,a9,x,y⟩|⟨a1,a2,a3,a4,a5,f,j,o,a9⟩
  . exact .inl h
  . grind
  . grind
  . grind
  . grind
  . grind
  . grind
  . grind
  grind
theorem GV:∀(l:List I) (t:Int),e3 ts true t l->e3 ts false t l
 |[],t,h=>by rw[e3];trivial
 |v::l,t,h=>by
  rw[e3]at h⊢;exact⟨oK v t h.1,GV l t h.2⟩
theorem Tp:∀(l:List I) (ms:List aU),hv ts true ms l->hv ts false ms l
 |[],[],h=>by rw[hv];trivial
 |[],m::ms,h=>by
  have:hv ts true (m::ms) []=False:=by rw[hv]<;>(intros;simp_all)
  grind
 |v::l,[],h=>by
  have:hv ts true [] (v::l)=False:=by rw[hv]<;>(intros;simp_all)
  grind
 |v::l,m::ms,h=>by
  rw[hv]at h⊢;exact⟨oK v m.aw h.1,Tp l ms h.2⟩
end
theorem adi(h:bX ts true t v)(pl:Bool):bX ts pl t v:=by
 cases pl with
 |true=>exact h
 |false=>exact oK v t h
def ko(ts:List ai)(t:Nat):Nat:=if 7<=(ts.getD t aK).Kind then 0 else t+1
def gi:Nat->Nat
 |0=>20
 |n+1=>12*gi n+20
theorem E1{a:Nat}:∀{b:Nat},a<=b->gi a<=gi b
 |0,h=>by have:a = 0:= by omega
          subst this;omega
 |b+1,h=>by
  by_cases e:a=b+1
  . grind
  . have:=E1 (a:=a) (b:=b) (by omega);simp only[gi];omega
theorem E0(r:Nat):20<=gi r:=E1 (a:=0) (hR _)
theorem xu:gi 5=5429060:=rfl
def mx(ts:List ai)(odd:Bool)(C:ar)(r:Nat)(t:Int):Prop:=∃v a,jG (t,ts,C,odd)=some (v,ts,a,odd)/\bX ts (!odd) t v/\bK v/\fv a C/\wt v+32574360*a.length<=gi r+32574360*C.length
theorem P5 {odd:Bool}{c r:Nat}(G:c<=1000){x:ai}(E:x.ah.length<=12)(s:∀m,m∈x.ah->(∀C,gN C->C.length<=c->mx ts odd C r m.aw)/\(m.bU=true->bX ts true m.aw m.bA/\bK m.bA/\wt m.bA<=13))
 (a0:Int)(a1:Bool)(a2:Int)(a3:ak)(a4:Int)(v0:Int)(v1:Bool)(g:Int)(v3:ak)(v4:Int):
 ∀(k i:Nat) (C:ar) (acc:List I),i+k=x.ah.length->gN C->C.length<=c->acc.length=i->(∀j,j<i->bX ts (!odd) (x.ah.getD j aC).aw (acc.getD j av))->(∀y,y∈acc->bK y)->
 ∃a b,na ((i:Int),ts,C,odd,a0,a1,a2,a3,a4,x.Kind,x.Name,x.bE,x.bH,x.Max,x.bh,x.ah,x.Key,x.aF,x.Open,v0,v1,g,v3,v4,acc)=some (ts,b,odd,a0,a1,a2,a3,a4,x.Kind,x.Name,x.bE,x.bH,x.Max,x.bh,x.ah,x.Key,x.aF,x.Open,v0,v1,g,v3,v4,a)/\
  a.length=x.ah.length/\(∀j,j<x.ah.length->bX ts (!odd) (x.ah.getD j aC).aw (a.getD j av))/\(∀y,y∈a->bK y)/\fv b C/\cK a+32574360*b.length<=cK acc+k*gi r+32574360*C.length
 |0,i,C,acc,K,cv,af,F,p,l=>⟨acc,C,by rw[na,b'],by omega,λj L=>p j (by omega),l,fv.refl _,by omega⟩
 |k+1,i,C,acc,K,cv,af,F,p,l=>by
  have aB:i<x.ah.length:=by omega
  obtain⟨t,J⟩:=s _ (bd aB aC);have next:∀ (w:I) (d:ar),bX ts (!odd) (x.ah.getD i aC).aw w->bK w->fv d C->wt w+32574360*d.length<=gi r+32574360*C.length->
   ∃a b,(if room 120 (acc++[w]).length then na (aM .i64 (i:Int) 1,ts,d,odd,a0,a1,a2,a3,a4,x.Kind,x.Name,x.bE,x.bH,x.Max,x.bh,x.ah,x.Key,x.aF,x.Open,v0,v1,g,v3,v4,acc++[w])else none)=some (ts,b,odd,a0,a1,a2,a3,a4,x.Kind,x.Name,x.bE,x.bH,x.Max,x.bh,x.ah,x.Key,x.aF,x.Open,v0,v1,g,v3,v4,a)/\
    a.length=x.ah.length/\(∀j,j<x.ah.length->bX ts (!odd) (x.ah.getD j aC).aw (a.getD j av))/\(∀y,y∈a->bK y)/\fv b C/\cK a+32574360*b.length<=cK acc+(k+1)*gi r+32574360*C.length:=by
   intro w d P M hs Q;rw[ae (cO),bC]
   obtain⟨a,b,b1,b2,b3,b4,B,D⟩:=P5 G E s a0 a1 a2 a3 a4 v0 v1 g v3 v4 k (i+1) d (acc++[w]) (by omega) (cv.dO hs) (by have:=hs.1;omega) (by simp;omega) (λj L=>by
    grind) (λy N=>by
    rcases hQ.1 N with h|h
    . exact l y h
    . have:y=w:=by simpa using h
      subst this;exact M)
   refine⟨a,b,b1,b2,b3,b4,B.trans hs,?_⟩;rw[tH,hh,gH]at D;have e:(k+1)*gi r=k*gi r+gi r:=Nat.succ_mul _ _;omega
  rw[na,br,ae (aP aB)];simp only[aS,ao,aZ,I.aV];cases H:(x.ah.getD i aC).bU with
  |true=>
   obtain⟨f1,f2,f3⟩:=J H;obtain⟨q,d,dc,R,S,f,fB⟩:=lp (ts:=ts) (n:=3) ⟨by omega,by omega⟩ cv (by omega) odd;rw[ae rfl,dc];simp only[ao,et];by_cases h0:q=0
   . rw[ae (by simpa using h0)];have:=f.1;have:=E0 r;rw[ae (aP aB)];exact next _ d (adi f1 _) f2 f (by omega)
   . rw[al (by simpa using h0),ae (aP aB)];obtain⟨w,o,u,v,z,A,O⟩:=t d (cv.dO f) (by have:=f.1;omega);rw[u];simp only[ao,I.aV];have:=f.1;exact next w o v z (A.trans f) (by omega)
  |false=>
   rw[bw,bw,ae (aP aB)];obtain⟨w,o,u,v,z,A,O⟩:=t C cv af;grind
theorem N8{r:Nat}(m:c<=1000)(dL:∀C,gN C->C.length<=c->mx ts odd C r x.aF)
 (a0:Int)(a1:Bool)(a2:Int)(a3:ak)(a4:Int)(v0:Int)(v1:Bool)(f:Int)(v3:ak)(v4:Int):
 ∀(k:Nat) (C:ar) (acc:List I),acc.length+k<=100->gN C->C.length<=c->(∀y,y∈acc->bX ts (!odd) x.aF y/\bK y)->
 ∃a b,rk ((k:Int),ts,C,odd,a0,a1,a2,a3,a4,x.Kind,x.Name,x.bE,x.bH,x.Max,x.bh,x.ah,x.Key,x.aF,x.Open,v0,v1,f,v3,v4,acc)=some (ts,b,odd,a0,a1,a2,a3,a4,v0,v1,f,v3,v4,a)/\
  a.length=acc.length+k/\(∀y,y∈a->bX ts (!odd) x.aF y/\bK y)/\fv b C/\cK a+32574360*b.length<=cK acc+k*gi r+32574360*C.length
 |0,C,acc,l,cv,af,g=>⟨acc,C,by rw[rk,bw],by omega,g,fv.refl _,by omega⟩
 |k+1,C,acc,l,cv,af,g=>by
  have n:decide ((0:Int)<((k+1:Nat):Int))=true:=by rw[eT];omega
  have e:c9 .i64 ((k+1:Nat):Int) 1=(k:Int):=by rw[gS];omega
  obtain⟨w,i,o,q,s,d,t⟩:=dL C cv af;rw[rk,ae n,o];simp only[aS,ao,I.aV];rw[ae (cO),e];obtain⟨a,b,b1,b2,b3,b4,j⟩:=N8 m dL a0 a1 a2 a3 a4 v0 v1 f v3 v4 k i (acc++[w]) (by simp;omega) (cv.dO d) (by have:=d.1;omega) (λy p=>by grind);refine⟨a,b,b1,by simp at b2;omega,b3,b4.trans d,?_⟩;rw[tH,hh,gH]at j;grind
theorem P6 {odd:Bool}{c r:Nat}(E:c<=1000){x:ai}(bD:∀C,gN C->C.length<=c->mx ts odd C r x.Key)(dL:∀C,gN C->C.length<=c->mx ts odd C r x.aF)
 (a0:Int)(a1:Bool)(a2:Int)(a3:ak)(a4:Int)(v0:Int)(v1:Bool)(j:Int)(v3:ak)(v4:Int)(R:List bW):
 ∀(k:Nat) (C:ar) (ks a:List I),ks.length+k<=100->a.length=ks.length->gN C->C.length<=c->(∀y,y∈ks->bX ts (!odd) x.Key y/\bK y)->(∀y,y∈a->bX ts (!odd) x.aF y/\bK y)->jP ks->
 ∃b d f,rl ((k:Int),ts,C,odd,a0,a1,a2,a3,a4,x.Kind,x.Name,x.bE,x.bH,x.Max,x.bh,x.ah,x.Key,x.aF,x.Open,v0,v1,j,v3,v4,ks,a,R)=some (ts,f,odd,a0,a1,a2,a3,a4,v0,v1,j,v3,v4,b,d,R)/\
  b.length<=ks.length+k/\d.length=b.length/\(∀y,y∈b->bX ts (!odd) x.Key y/\bK y)/\(∀y,y∈d->bX ts (!odd) x.aF y/\bK y)/\jP b/\fv f C/\cK b+cK d+32574360*f.length<=cK ks+cK a+2*(k*gi r)+32574360*C.length
 |0,C,ks,a,D,n,cv,af,m,aq,l=>⟨ks,a,C,by rw[rl,bw],by omega,n,m,aq,l,fv.refl _,by omega⟩
 |k+1,C,ks,a,D,n,cv,af,m,aq,l=>by
  have F:decide ((0:Int)<((k+1:Nat):Int))=true:=by rw[eT];omega
  have e:c9 .i64 ((k+1:Nat):Int) 1=(k:Int):=by rw[gS];omega
  obtain⟨w,s,J,W,K,i,X⟩:=bD C cv af;have U:=i.1;obtain⟨z,t,dc,L,M,o,fB⟩:=dL s (cv.dO i) (by omega);have V:=o.1;obtain⟨H,G,p,N,O,P,Q,q,S⟩:=aeP (v:=⟨v0,v1,j,v3,v4,ks,a,R⟩) (key:=w) (item:=z) (by show ks.length<1000;omega) n (λy g=>wV (m y g).2) (wV K) l;simp only at p O Q q S;rw[rl,ae F,J];simp only[aS,ao,I.aV];rw[dc];simp only[ao,I.aV];rw[p];simp only[ao];rw[e]
  obtain⟨b,d,f,b1,b2,b3,b4,u,A,B,T⟩:=P6 E bD dL a0 a1 a2 a3 a4 v0 v1 j v3 v4 R k t H G (by omega) N ((cv.dO i).dO o) (by omega) (λy g=>by
   grind) (λy g=>by
   rcases q y g with h|h
   . exact aq y h
   . subst h;exact⟨L,M⟩) P
  refine⟨b,d,f,b1,by omega,b3,b4,u,A,B.trans (o.trans i),?_⟩;grind
theorem um(hs:v.bl.length<=1000)(c:∀x,x∈v.ay->bK x)(b:∀x,x∈v.aj->bK x)(h1:v.ay.length<=1000)(f:v.aj.length<=1000)(g:v.Rest.length<=1000)(ag:∀x,x∈v.Rest->x.Data.length<=1000/\cx x.ad)(dc:cx v.Kind)(d:cx v.bc)(e:cx v.ad):bK v:=
 .mk v (by unfold reachBytes;omega) (by unfold reachBytes;omega) (by unfold reachBytes;omega) (by unfold reachBytes;omega) c b (λx a=>by have:=(ag x a).1;unfold reachBytes;omega) dc d e (λx a=>(ag x a).2)
theorem ti{n:Int}(h:cm n):cx n:=by unfold cm at h;unfold cx;omega
def Bd(ts:List ai)(odd:Bool)(c r:Nat):Prop:=∀t:Nat,t<ts.length->ko ts t<=r->∀C,gN C->C.length<=c->mx ts odd C r (t:Int)
theorem I3(H:c' ts){t:Nat}(ht:t<ts.length:=by omega):ko ts t<=5:=by
 unfold ko;have:=H.fB;grind
theorem mx.up{C:ar}{r:Nat}(h:mx ts odd C r t)(ag:r<=a):mx ts odd C a t:=by
 obtain⟨v,c,h1,e,f,j,bf⟩:=h;exact⟨v,c,h1,e,f,j,by have:=E1 ag;omega⟩
theorem aei(H:c' ts){r:Nat}(bI:c<=60)(be:∀aV,aV<c->Bd ts odd aV 5)(bf:∀G,G<r->Bd ts odd c G):Bd ts odd c r:=by
 intro t ht bP C cv af;have X:=bd ht aK;have bx:=H.V.F _ X;have db:=H.T _ X;have bN:=H.M _ X;obtain⟨aH,aI,aW⟩:=H.cw _ X;have bo:=H.R t ht;have cX:=H.L _ X;have au:=H.V.U _ X;have bm:=H.D _ X;have dp:=H.W _ X;have bs:ko ts t=if 7<=(ts.getD t aK).Kind then 0 else t+1:=rfl
 unfold mx;rw[jG,ae (aP ht)];simp only[aS,ao,aZ];have Q:=λv=>eH (ts:=ts) (!odd) (t:Int) v;simp only[aZ]at Q;generalize bV:ts.getD t aK=x at*;have bC:=E0 r;have E:(0:Int)<=t/\(t:Int)<ts.length:=by omega
 have ab:∀(v:I) (z:ar),v.ay=[]->v.aj=[]->v.Rest=[]->v.bl.length<=3->fv z C->wt v+32574360*z.length<=gi r+32574360*C.length:=λv z a b c d e=>by rw[N4 a b c];have:=e.1;omega
 have below:∀l:ar,l.length+1=C.length->∀u:Int,0<=u->u<ts.length->∀p,gN p->p.length<=l.length->mx ts odd p 5 u:=λl h1 u bT bU p N O=>by
  obtain⟨k,rfl⟩:∃k:Nat,u=(k:Int):=⟨u.toNat,by omega⟩
  exact be l.length (by omega) k (by omega) (I3 H) p N O
 have ba:x.Kind=5\/x.Kind=6->1<=r/\∀m,m∈x.ah->∀p,gN p->p.length<=c->mx ts odd p (r-1) m.aw:=λbJ=>by
  have bQ:ko ts t=t+1:=by rw[bs,bB]
  refine⟨by omega,λm P p N O=>?_⟩;obtain⟨a,b,bj⟩:=bo m P;obtain⟨k,br⟩:∃k:Nat,m.aw=(k:Int):=⟨m.aw.toNat,by omega⟩
  rw[br]at bj⊢;refine bf (r-1) (by omega) k (by omega) ?_ p N O;have:ko ts k<=t:=by
   unfold ko;grind
  omega
 have aR:x.bh.length<9223372036854775807:=dA (ig db.syms);have aL:x.ah.length<9223372036854775807:=dA (ig db.gY);unfold gj at bx;rcases bx with⟨k,_⟩|⟨k,f1,f2,_⟩|⟨k,f1,f2,f3,f4,_⟩|⟨k,f1,f2,f3,f4,f5,_⟩|⟨k,f1,f2,f3,f4,f5,f6,_⟩|⟨k,f1,f2,f3,f4,f5,f6,_⟩|⟨k,f1,f2,f3,f4,_⟩|⟨k,f1,f2,f3,f4,_⟩|⟨k,_⟩
 . obtain⟨q,l,dc,Z,aa,g,fB⟩:=lp (ts:=ts) (n:=2) ⟨by omega,by omega⟩ cv (by omega) odd;rw[ae (by simp[k]),dc];refine⟨_,l,rfl,?_,pT rfl rfl rfl (by simp) (by simp[cx,k]) (by simp[cx]) (by simp[cx]),g,ab _ _ rfl rfl rfl (by simp) g⟩;grind
 . obtain⟨q,l,dc,Z,aa,g,fB⟩:=lp (ts:=ts) (n:=256) ⟨by omega,by omega⟩ cv (by omega) odd;have bF:=cX k;have aN:aM .i64 (c9 .i64 x.bH x.bE) 1=x.bH-x.bE+1:=by rw[gS,kh (by omega) (by omega)]
   have bW:0<=q%(x.bH-x.bE+1):=mi _ (by omega);have bY:q%(x.bH-x.bE+1)<x.bH-x.bE+1:=ma _ (by omega);rw[al (by simp[k]),ae (by simp[k]),dc];simp only[ao];rw[aN,ae (ur (by omega)),hj Z,kh (by omega) (by omega)];refine⟨_,l,rfl,?_,pT rfl rfl rfl (by simp) (by simp[cx,k]) (by simp only[cx];omega) (by simp[cx]),g,ab _ _ rfl rfl rfl (by simp) g⟩;grind
 . obtain⟨s,l,dc,Z,aa,g⟩:=aeh (ts:=ts) (most:=x.Max) ⟨f4.1,by omega⟩ cv (by omega) odd;rw[al (by simp[k]),al (by simp[k]),ae (by simp[k]),dc];refine⟨_,l,rfl,?_,pT rfl rfl rfl (by show s.length<=1000;omega) (by simp[cx,k]) (by simp[cx]) (by simp[cx]),g,ab _ _ rfl rfl rfl aa g⟩;grind
 . have bS:=f5.1;have bR:=f5.2.2.2.2;have a7:=f5.2.1.2;obtain⟨q,l,dc,Z,aa,g,fB⟩:=lp (ts:=ts) (n:=(x.bh.length:Int)) ⟨by omega,by omega⟩ cv (by omega) odd;obtain⟨j,rfl⟩:∃j:Nat,q=(j:Int):=⟨q.toNat,by omega⟩
   have am:=g.1;have J:j<x.bh.length:=(by omega);have f:=bd J dK;rw[al (by simp[k]),al (by simp[k]),al (by simp[k]),ae (by simp[k]),dc];simp only[ao];rw[ae (aP J)];simp only[aZ];cases bv:x.Open with
   |false=>
    rw[bw,bw];refine⟨_,l,rfl,?_,pT rfl rfl rfl (by simp) (by simp[cx,k]) (by simp[cx]) (ti (a7 _ f)),g,ab _ _ rfl rfl rfl (by simp) g⟩;grind
   |true=>
    obtain⟨o,p,ap,bb,A⟩:=I2 (ts:=ts) (cv.dO g) (by omega) odd;have av:=A.1;rw[ae rfl,ap];simp only[ao,et];cases o with
    |false=>
     rw[bw];refine⟨_,p,rfl,?_,pT rfl rfl rfl (by simp) (by simp[cx,k]) (by simp[cx]) (ti (a7 _ f)),(A.trans g),ab _ _ rfl rfl rfl (by simp) (A.trans g)⟩;grind
    |true=>
     have aQ:odd=true:=(by grind);obtain⟨n,aB,aq,ai,bc,K⟩:=Iz (ts:=ts) aL aR aH aI ((cv.dO g).dO A) (by omega) odd;rw[ae rfl,aq];refine⟨_,aB,rfl,?_,pT rfl rfl rfl (by simp) (by simp[cx,k]) (by simp[cx]) (ti ai),K.trans (A.trans g),ab _ _ rfl rfl rfl (by simp) (K.trans (A.trans g))⟩;grind
 . obtain⟨bz,aO⟩:=ba (.inl k);obtain⟨acc,l,b1,b2,b3,b4,B,ak⟩:=P5 (ts:=ts) (odd:=odd) (c:=c) (r:=r-1) (by omega) (x:=x) aW (λm P=>⟨aO m P,λaY=>⟨bm m P aY,db.iG m P,dp m P aY⟩⟩) 0 false 0 [] 0 x.Kind false 0 [] 0 x.ah.length 0 C [] (by omega) cv af rfl (λj J=>by omega) (λy f=>by cases f);have bi:na (0,ts,C,odd,0,false,0,[],0,x.Kind,x.Name,x.bE,x.bH,x.Max,x.bh,x.ah,x.Key,x.aF,x.Open,x.Kind,false,0,[],0,[])=_:=b1;have am:=B.1;have bD:gi r=12*gi (r-1)+20:=by
    obtain⟨G,rfl⟩:∃G,r=G+1:=⟨r-1,by omega⟩
    rfl
   have bM:x.ah.length*gi (r-1)<=12*gi (r-1):=eX _ aW;rw[gH]at ak;have a0:hv ts (!odd) x.ah acc:=hG.2 ⟨b2,b3⟩;rw[al (by simp[k]),al (by simp[k]),al (by simp[k]),al (by simp[k]),ae (by simp[k]),bi];simp only[ao];obtain⟨o,p,ap,bb,A⟩:=I2 (ts:=ts) (cv.dO B) (by omega) odd;have av:=A.1;rw[ap];simp only[ao];cases o with
   |false=>
    rw[bw];refine⟨_,p,rfl,?_,um (by simp) (λy f=>by cases f) b4 (by simp) (by show acc.length<=1000;omega) (by simp) (λy f=>by cases f) (by simp[cx,k]) (by simp[cx]) (by simp[cx]),A.trans B,?_⟩
    . exact(Q _).2 ⟨⟨E.1,E.2,rfl,λ_=>rfl⟩,.inr (.inr (.inr (.inr (.inl ⟨k,rfl,rfl,rfl,rfl,rfl,⟨.nil,λy f=>by cases f⟩,a0⟩))))⟩
    . rw[fD];simp only[gH,jw,mj,uv];omega
   |true=>
    have aQ:odd=true:=(by grind);obtain⟨n,aB,aq,ai,bc,K⟩:=Iz (ts:=ts) aL aR aH aI ((cv.dO B).dO A) (by omega) odd;have bt:=K.1;obtain⟨d,aD,d1,d2,d3⟩:=NS (ts:=ts) (n:=n) (((cv.dO B).dO A).dO K) (by omega) odd;have bu:=d3.1;rw[ae rfl,EG,aq];simp only[ao];rw[d1];simp only[ao];refine⟨_,aD,rfl,?_,um (by simp) (λy f=>by cases f) b4 (by simp) (by show acc.length<=1000;omega) (by simp) (λy f=>?_) (by simp[cx,k]) (by simp[cx]) (by simp[cx]),d3.trans (K.trans (A.trans B)),?_⟩
    . refine(Q _).2 ⟨⟨E.1,E.2,rfl,λh=>by simp[aQ]at h⟩,.inr (.inr (.inr (.inr (.inl ⟨k,rfl,rfl,rfl,rfl,rfl,⟨by simp,λy f=>?_⟩,a0⟩))))⟩;grind
    . have:y=⟨n,d⟩:=(by simpa using f);subst this;exact⟨by show d.length<=1000;omega,ti ai⟩
    . rw[fD];simp only[gH,jw,gB,mj,oG,uv];omega
 . obtain⟨bz,aO⟩:=ba (.inr k);have bG:0<x.ah.length:=by
    rcases f6.2.1 with h|h
    . cases h
    . exact h
   have bA:gi (r-1)+20<=gi r:=by
    obtain⟨G,rfl⟩:∃G,r=G+1:=⟨r-1,by omega⟩
    have:=E0 G;show gi G+20<=12*gi G+20;omega
   have bg:∀ aA,fv aA C->∃ v z,(Option.bind (iU ((x.ah.length:Int),ts,aA,odd)) λag=>if aG ag.1 x.ah.length then
    (jG ((x.ah.getD ag.1.toNat aC).aw,ag.2.1,ag.2.2.1,ag.2.2.2)).bind λaz=>
     some ((⟨x.Kind,false,0,[],(x.ah.getD ag.1.toNat aC).ad,[],[az.1],[]⟩:I),az.2.1,az.2.2.1,az.2.2.2)
    else none)=some (v,ts,z,odd)/\bX ts (!odd) (t:Int) v/\bK v/\fv z C/\wt v+32574360*z.length<=gi r+32574360*C.length:=by
    intro aA ax;have bL:=ax.1;obtain⟨q,l,dc,Z,aa,g,fB⟩:=lp (ts:=ts) (n:=(x.ah.length:Int)) ⟨by omega,by omega⟩ (cv.dO ax) (by omega) odd;obtain⟨j,rfl⟩:∃j:Nat,q=(j:Int):=⟨q.toNat,by omega⟩
    have am:=g.1;have J:j<x.ah.length:=(by omega);have P:=bd J aC;obtain⟨w,p,aT,a8,a9,an,a'⟩:=aO _ P l ((cv.dO ax).dO g) (by omega);have av:=an.1;rw[dc];simp only[ao];rw[ae (aP J)];simp only[aZ];rw[aT];simp only[ao];have bn:=f6.2.2.1.2 _ P;refine⟨_,p,rfl,?_,um (by simp) (λy f=>by cases f) (λy f=>?_) (by simp) (by simp) (by simp) (λy f=>by cases f) (by simp[cx,k]) (by simp[cx]) (ti bn),an.trans (g.trans ax),?_⟩
    . refine(Q _).2 ⟨⟨E.1,E.2,rfl,λ_=>rfl⟩,.inr (.inr (.inr (.inr (.inr (.inl ⟨k,rfl,rfl,rfl,rfl,?_⟩)))))⟩;have bq:cB x.ah (x.ah.getD j aC).ad=some (x.ah.getD j aC):=by
       unfold cB;rw[Cd];refine⟨by simp,j,J,(dv J _).symm,λi aJ=>?_⟩;have bO:=wN.1 f6.2.2.1.1 i j (by omega) J aJ;rw[dv J];simp;omega
      simp only[bq];refine⟨by first|rfl|trivial,by first|rfl|trivial,?_⟩;rw[cI];intro y f;have:y=w:=(by simpa using f);subst this;exact a8
    . have:y=w:=(by simpa using f);subst this;exact a9
    . rw[fD];simp only[hh,gH,jw,mj,uv];omega
   rw[al (by simp[k]),al (by simp[k]),al (by simp[k]),al (by simp[k]),al (by simp[k]),ae (by simp[k])];simp only[I.aV];cases bv:x.Open with
   |false=>
    rw[bw,bw];obtain⟨v,z,a1,a2,a3,a4,a5⟩:=bg C (fv.refl _);grind
   |true=>
    obtain⟨o,p,ap,bb,A⟩:=I2 (ts:=ts) cv (by omega) odd;have av:=A.1;rw[ae rfl,ap];simp only[ao,et];cases o with
    |false=>grind
    |true=>
     have aQ:odd=true:=(by grind);obtain⟨n,aB,aq,ai,bc,K⟩:=Iz (ts:=ts) aL aR aH aI (cv.dO A) (by omega) odd;have bt:=K.1;obtain⟨d,aD,d1,d2,d3⟩:=NS (ts:=ts) (n:=n) ((cv.dO A).dO K) (by omega) odd;have bu:=d3.1;rw[ae rfl,aq];simp only[ao];rw[d1];simp only[ao];refine⟨_,aD,rfl,?_,um (by simp) (λy f=>by cases f) (λy f=>by cases f) (by simp) (by simp) (by simp) (λy f=>?_) (by simp[cx,k]) (by simp[cx]) (ti ai),d3.trans (K.trans A),?_⟩
     . grind
     . have:y=⟨n,d⟩:=(by simpa using f);subst this;exact⟨by show d.length<=1000;omega,ti ai⟩
     . rw[fD];simp only[gH,jw,gB,mj,oG,uv];omega
 . have em:aM .i64 (ja x.Max 3) 1=min x.Max 3+1:=by
    have:ja x.Max 3=min x.Max 3:=rfl;rw[this,kh (by omega) (by omega)]
   have S:0<=x.aF/\x.aF<ts.length:=au x.aF (by unfold fi;simp[k]);obtain⟨q,l,dc,Z,aa,g,fB⟩:=lp (ts:=ts) (n:=min x.Max 3+1) ⟨by omega,by omega⟩ cv (by omega) odd;obtain⟨j,rfl⟩:∃j:Nat,q=(j:Int):=⟨q.toNat,by omega⟩
   have am:=g.1;have loop:∃acc z,rk ((j:Int),ts,l,odd,0,false,0,[],0,x.Kind,x.Name,x.bE,x.bH,x.Max,x.bh,x.ah,x.Key,x.aF,x.Open,x.Kind,false,0,[],0,[])=some (ts,z,odd,0,false,0,[],0,x.Kind,false,0,[],0,acc)/\acc.length=j/\(∀y,y∈acc->bX ts (!odd) x.aF y/\bK y)/\fv z C/\10+cK acc+32574360*z.length<=gi r+32574360*C.length:=by
    rcases fB with⟨h0,h1,bk⟩|h1
    . have:j=0:=(by omega);subst this;refine⟨[],l,by rw[rk,bw],rfl,λy f=>(by cases f),g,?_⟩;rw[gH];omega
    . obtain⟨acc,z,b1,b2,b3,b4,B⟩:=N8 (ts:=ts) (odd:=odd) (c:=l.length) (r:=5) (by omega) (x:=x) (λp N O=>below l h1 x.aF S.1 S.2 p N O) 0 false 0 [] 0 x.Kind false 0 [] 0 j l [] (by simp;omega) (cv.dO g) (by omega) (λy f=>by cases f);refine⟨acc,z,b1,by simpa using b2,b3,b4.trans g,?_⟩;rw[gH,xu]at B;omega
   obtain⟨acc,z,b1,b2,b3,b4,B⟩:=loop;rw[al (by simp[k]),al (by simp[k]),al (by simp[k]),al (by simp[k]),al (by simp[k]),al (by simp[k]),ae (by simp[k]),em,dc];simp only[ao];rw[b1];simp only[ao];refine⟨_,z,rfl,?_,um (by simp) (λy f=>by cases f) (λy f=>(b3 y f).2) (by simp) (by show acc.length<=1000;omega) (by simp) (λy f=>by cases f) (by simp[cx,k]) (by simp[cx]) (by simp[cx]),b4,?_⟩
   . exact(Q _).2 ⟨⟨E.1,E.2,rfl,λ_=>rfl⟩,.inr (.inr (.inr (.inr (.inr (.inr (.inl ⟨k,rfl,rfl,rfl,rfl,rfl,rfl,by show(acc.length:Int)<=x.Max;omega,cI.2 λy f=>(b3 y f).1⟩))))))⟩
   . rw[fD];simp only[gH,jw,mj,uv];omega
 . have em:aM .i64 (ja x.Max 3) 1=min x.Max 3+1:=by
    have:ja x.Max 3=min x.Max 3:=rfl;rw[this,kh (by omega) (by omega)]
   have S:0<=x.aF/\x.aF<ts.length:=au x.aF (by unfold fi;simp[k]);have a6:0<=x.Key/\x.Key<ts.length:=au x.Key (by unfold fi;simp[k]);obtain⟨q,l,dc,Z,aa,g,fB⟩:=lp (ts:=ts) (n:=min x.Max 3+1) ⟨by omega,by omega⟩ cv (by omega) odd;obtain⟨j,rfl⟩:∃j:Nat,q=(j:Int):=⟨q.toNat,by omega⟩
   have am:=g.1;have aX:jP []:=λi aJ=>by simp at aJ
   have loop:∃ks Y z,rl ((j:Int),ts,l,odd,0,false,0,[],0,x.Kind,x.Name,x.bE,x.bH,x.Max,x.bh,x.ah,x.Key,x.aF,x.Open,x.Kind,false,0,[],0,[],[],[])=some (ts,z,odd,0,false,0,[],0,x.Kind,false,0,[],0,ks,Y,[])/\ks.length<=j/\Y.length=ks.length/\(∀y,y∈ks->bX ts (!odd) x.Key y/\bK y)/\(∀y,y∈Y->bX ts (!odd) x.aF y/\bK y)/\jP ks/\fv z C/\10+cK ks+cK Y+32574360*z.length<=gi r+32574360*C.length:=by
    rcases fB with⟨h0,h1,bk⟩|h1
    . have:j=0:=(by omega);subst this;refine⟨[],[],l,by rw[rl,bw],by simp,rfl,λy f=>(by cases f),λy f=>(by cases f),aX,g,?_⟩;rw[gH];omega
    . obtain⟨ks,Y,z,b1,b2,b3,b4,B,ak,aE,aU⟩:=P6 (ts:=ts) (odd:=odd) (c:=l.length) (r:=5) (by omega) (x:=x) (λp N O=>below l h1 x.Key a6.1 a6.2 p N O) (λp N O=>below l h1 x.aF S.1 S.2 p N O) 0 false 0 [] 0 x.Kind false 0 [] 0 [] j l [] [] (by simp;omega) rfl (cv.dO g) (by omega) (λy f=>by cases f) (λy f=>by cases f) aX;refine⟨ks,Y,z,b1,by simpa using b2,b3,b4,B,ak,aE.trans g,?_⟩;rw[gH,xu]at aU;omega
   obtain⟨ks,Y,z,b1,b2,b3,b4,B,ak,aE,aU⟩:=loop;rw[al (by simp[k]),al (by simp[k]),al (by simp[k]),al (by simp[k]),al (by simp[k]),al (by simp[k]),al (by simp[k]),ae (by simp[k]),em,dc];simp only[ao];rw[b1];simp only[ao];refine⟨_,z,rfl,?_,um (by simp) (λy f=>(b4 y f).2) (λy f=>(B y f).2) (by show ks.length<=1000;omega) (by show Y.length<=1000;omega) (by simp) (λy f=>by cases f) (by simp[cx,k]) (by simp[cx]) (by simp[cx]),aE,?_⟩
   . exact(Q _).2 ⟨⟨E.1,E.2,rfl,λ_=>rfl⟩,.inr (.inr (.inr (.inr (.inr (.inr (.inr (.inl ⟨k,rfl,rfl,rfl,rfl,rfl,by show(ks.length:Int)<=x.Max;omega,b3,cI.2 λy f=>(b4 y f).1,cI.2 λy f=>(B y f).1,ak⟩)))))))⟩
   . rw[fD];grind
 . have S:0<=x.aF/\x.aF<ts.length:=au x.aF (by unfold fi;simp[k]);obtain⟨q,l,dc,Z,aa,g,fB⟩:=lp (ts:=ts) (n:=2) ⟨by omega,by omega⟩ cv (by omega) odd;have am:=g.1;rw[al (by simp[k]),al (by simp[k]),al (by simp[k]),al (by simp[k]),al (by simp[k]),al (by simp[k]),al (by simp[k]),al (by simp[k]),dc];simp only[ao,I.aV];by_cases h1:q=1
   . have bp:l.length+1=C.length:=(by omega);obtain⟨w,p,aT,a8,a9,an,a'⟩:=below l bp x.aF S.1 S.2 l (cv.dO g) (by omega);have av:=an.1;rw[xu]at a';rw[ae (by simpa using h1),aT];simp only[ao];refine⟨_,p,rfl,?_,um (by simp) (λy f=>by cases f) (λy f=>?_) (by simp) (by simp) (by simp) (λy f=>by cases f) (by simp[cx,k]) (by simp[cx]) (by simp[cx]),an.trans g,?_⟩
     . refine(Q _).2 ⟨⟨E.1,E.2,rfl,λ_=>rfl⟩,.inr (.inr (.inr (.inr (.inr (.inr (.inr (.inr ⟨k,rfl,rfl,rfl,rfl,rfl,rfl,by simp,cI.2 λy f=>?_⟩)))))))⟩;grind
     . grind
     . rw[fD];simp only[hh,gH,jw,mj,uv];omega
   . rw[al (by simpa using h1)];refine⟨_,l,rfl,?_,pT rfl rfl rfl (by simp) (by simp[cx,k]) (by simp[cx]) (by simp[cx]),g,ab _ _ rfl rfl rfl (by simp) g⟩;exact(Q _).2 ⟨⟨E.1,E.2,rfl,λ_=>rfl⟩,.inr (.inr (.inr (.inr (.inr (.inr (.inr (.inr ⟨k,rfl,rfl,rfl,rfl,rfl,rfl,by simp,cI.2 λy f=>by cases f⟩)))))))⟩
theorem P7(H:c' ts):∀(c:Nat),c<=60->∀r,Bd ts odd c r:=by
 intro c;induction c using Nat.strongRecOn with
 |ind c d=>
  intro b r;induction r using Nat.strongRecOn with
  |ind r e=>exact aei H b (λa h=>d a h (by omega) 5) (λf h=>e f h)
theorem aej(H:c' ts)(ht:0<=t/\t<ts.length){C:ar}(cv:gN C)(af:C.length<=reachBytes):∃v,yT ((⟨ts⟩:aT),t,C)=some v/\bX ts true t v/\bK v/\wt v<=2147483648:=by
 obtain⟨j,rfl⟩:∃j:Nat,t=(j:Int):=⟨t.toNat,by omega⟩
 have ag:=dA af;have g:ja 60 (C.length:Int)=((min 60 C.length:Nat):Int):=Ih 60 C.length;have hs:gN (C.take (min 60 C.length)):=λc e=>cv c (r0 e);have f:(C.take (min 60 C.length)).length<=60:=by rw[oF];omega
 have i:dN 0 ((min 60 C.length:Nat):Int) C.length=true:=jO (a:=0) (by omega) (by omega);obtain⟨v,k,h1,b,d,l,bf⟩:=P7 H (odd:=false) 60 (by omega) 5 j (by omega) (I3 H) _ hs f;rw[yT];simp only[aS,ao];rw[g,ae i,tF,h1];refine⟨v,by simp only[ao,I.aV],b,d,?_⟩;rw[xu]at bf;omega
theorem aa6(H:c' ts)(ht:0<=t/\t<ts.length){C:ar}(cv:gN C)(af:C.length<=reachBytes):∃v,yx ((⟨ts⟩:aT),t,C)=some v/\bX ts false t v/\bK v/\wt v<=2147483648:=by
 obtain⟨j,rfl⟩:∃j:Nat,t=(j:Int):=⟨t.toNat,by omega⟩
 have ag:=dA af;have g:ja 60 (C.length:Int)=((min 60 C.length:Nat):Int):=Ih 60 C.length;have hs:gN (C.take (min 60 C.length)):=λc e=>cv c (r0 e);have f:(C.take (min 60 C.length)).length<=60:=by rw[oF];omega
 have i:dN 0 ((min 60 C.length:Nat):Int) C.length=true:=jO (a:=0) (by omega) (by omega);obtain⟨v,k,h1,b,d,l,bf⟩:=P7 H (odd:=true) 60 (by omega) 5 j (by omega) (I3 H) _ hs f;rw[yx];simp only[aS,ao];rw[g,ae i,tF,h1];refine⟨v,by simp only[ao,I.aV],b,d,?_⟩;rw[xu]at bf;omega
end
structure E3 (d:lf):Prop where
 s:uP d.S
 t:de d.T
 c:gN d.C
 l:d.C.length<=reachBytes
theorem ahK{d:lf}(a:E3 d):(∃s t v w,qc d=some (s,t,v,w,false))\/
 ∃ts t v w,qc d=some (⟨ts⟩,t,v,w,true)/\c' ts/\(0<=t/\t<ts.length)/\(bX ts true t v/\bK v/\wt v<=2147483648)/\(bX ts false t w/\bK w/\wt w<=2147483648):=by
 rw[qc];rcases Cm a.s with h|⟨l,h,H⟩
 . rw[h];exact .inl ⟨_,_,_,_,rfl⟩
 . right;have j:=H.dc;have k:=H.fB;have ht:=a.t;unfold de at ht;have b:0<=d.T%(l.length:Int):=mi _ (by omega);have e:d.T%(l.length:Int)<l.length:=ma _ (by omega);obtain⟨v,v1,f⟩:=aej H ⟨b,e⟩ a.c a.l;obtain⟨w,g,i⟩:=aa6 H ⟨b,e⟩ a.c a.l;rw[h];simp only[aS,ao];rw[bw,ae (ur (by omega)),ly ⟨by omega,by omega⟩,hj ht.1,v1];simp only[ao];rw[g];exact⟨l,_,v,w,by simp only[ao,I.aV],H,⟨b,e⟩,f,i⟩
theorem NU(H:iM ts)(a:bK v)(t:Int)(pl:Bool):dr (kc ((⟨ts⟩:aT),t,v,pl)) (bX ts pl t v):=by
 obtain⟨r,h1,c⟩:=zB (by have:=H.n;omega) H.T H.K a t pl;obtain⟨q,d,b⟩:=ML (by have:=H.n;omega) H.T H.K a t pl;rw[h1]at b;have:r=q:=mh b;subst this;exact⟨r,d,c⟩
theorem Hc(db:∀t,t∈ts->eZ t)(gW:nz ts)(c:bK v)(a:bX ts false t v):tm ((⟨ts⟩:aT),t,v)=some 0:=by
 have H:=gW.hr db;obtain⟨v1,_⟩:=pR db gW;obtain⟨⟨f,g,_⟩,_⟩:=(eH _ _ _).1 a;obtain⟨r,d,e⟩:=NU H c t false;have ag:=e.2 a;subst ag;have b:¬((bif decide (t<0)then true else decide (((⟨ts⟩:aT).Types.length:Int)<=t))=true):=by grind
 rw[tm,Hx];simp only[Kq,I.aV];rw[v1];show((if(bif (t<0:Bool)then true else (((⟨ts⟩:aT).Types.length:Int)<=t:Bool)) then some (4:Int)else some 0)>>=_)=_;rw[al b];show(tG ((⟨ts⟩:aT),t,v)>>=_)=_;rw[tG];simp only[I.aV];rw[d];rfl
theorem MV(db:∀t,t∈ts->eZ t)(gW:nz ts)(e:bK v)(b:bX ts false t v):tS ((⟨ts⟩:aT),t,v)=some 0:=by
 have a:=gW.hr db;obtain⟨⟨i,j,_⟩,_⟩:=(eH _ _ _).1 b;obtain⟨q,f,g⟩:=zB (by have:=a.n;omega) db a.K e t false;have ag:=g.2 b;subst ag;have c:¬t<0:=by omega
 have d:¬(ts.length:Int)<=t:=by omega
 rw[tS,(pR db gW).2];simp only[aS,ao];rw[bw,al (by simp[c,d]),GN];simp only[I.aV];rw[f];rfl
theorem aa7(db:∀t,t∈ts->eZ t)(gW:nz ts)(b:bK v)(a:bX ts false t v):tm ((⟨ts⟩:aT),t,v)=some 0/\tS ((⟨ts⟩:aT),t,v)=some 0:=⟨Hc db gW b a,MV db gW b a⟩
theorem HO{l:List Fd}(d:ki fm l=true)(aH:l.Pairwise (λa b=>a.id≠b.id)):(gX fm l).Pairwise (λa b=>a.id<b.id):=by
 have h1:=DP Oo l;have c:(gX fm l).Pairwise (λa b=>a.id≠b.id):=(kL fm l).symm.pairwise aH (λ{a b} h=>λe=>h e.symm);refine(h1.and c).imp λ{a b} h=>?_;have:=h.1;have:=h.2;simp only[fm,FW]at*;omega
theorem HY{l:List I}{r:List bW}(h:gQ ms)(ag:jR ms r):(fe ts ms l r).Pairwise (λa b=>a.id≠b.id):=by
 have:=wu (ts:=ts) (l:=l) h ag;have key:∀q:List Fd,ki fm q=true->q.Pairwise (λa b=>a.id≠b.id):=by
  intro q;induction q with
  |nil=>intro _;exact .nil
  |cons a q ih=>
   intro h;simp only[ki,c5,fK,me,fm,eT]at h;rw[h6];grind
 grind
def o9(f:Fd):cT:=⟨(f.id:Int),f.c,f.p⟩
theorem MW:∀(l:List Fd) (last:Nat) (b:List cT),l.Pairwise (λa b=>a.id<b.id)->(∀f,f∈l->last<f.id/\f.id<=1000)->(l.flatMap Fd.text).length<=100000->b.length+l.length<=90000->
 ga ((last:Int),l.flatMap Fd.text,b)=some (.inr (b++l.map o9))
 |[],last,b,_,_,_,_=>by
  rw[ga,bw];simp
 |f::l,last,b,d,ag,af,e=>by
  rw[h6]at d;obtain⟨h1,i⟩:=ag f (.head _);rw[eY]at af⊢;have ht:f.text=eW f.id f.c f.p:=rfl;rw[ht]at af⊢;rw[Zb h1 i af (by simp at e;omega)];have j:(l.flatMap Fd.text).length<=100000:=by rw[cq]at af;omega
  rw[MW l f.id _ d.2 (λg aq=>⟨d.1 g aq,(ag g (.tail _ aq)).2⟩) j (by simp at e⊢;omega)];simp[o9]
theorem aam{a:ak}{b:List ak}(h:(da p++a).length<=100000)(i:b.length<=90000):hE (da p++a,b)=hE (a,b++[p]):=by
 have g:p.length<=100000:=by simp only[da,cq]at h;omega
 have e:da p++a≠[]:=by
  intro d;have c:=eu List.length d;have:=om p.length;simp only[da,cq,jw]at c;omega
 rw[hE,ae (by simp only[uy,FW];exact e),l3,KZ g];simp only[aS,ao];have f:¬((!(dR (some (p,a))).2.2)=true):=by simp[dR]
 have ag:room 16 (b++[(dR (some (p,a))).1]).length=true:=cO;rw[al f,ae ag];rfl
theorem NV:∀(l:List ak) (b:List ak),(l.flatMap da).length<=100000->b.length+l.length<=90000->hE (l.flatMap da,b)=some (.inr (b++l))
 |[],b,_,_=>by
  rw[hE,bw];simp
 |p::l,b,af,a=>by
  rw[eY]at af⊢;rw[aam af (by simp at a;omega),NV l _ (by rw[cq]at af;omega) (by simp at a⊢;omega)];simp
def mo:List ak->List ak->List ak
 |k::ks,v::vs=>k::v::mo ks vs
 |_,_=>[]
theorem HZ:∀a b,fg a b=(mo a b).flatMap da
 |[],b=>by simp[fg,mo]
 |k::ks,[]=>by simp[fg,mo]
 |k::ks,v::vs=>by simp[fg,mo,HZ ks vs]
theorem MX:∀a b:List ak,a.length=b.length->(mo a b).length=a.length+b.length
 |[],[],_=>rfl
 |k::ks,v::vs,h=>by
  simp only[mo,gA];have:=MX ks vs (by simpa using h);omega
theorem aan(p:ak):1<=(da p).length:=by
 have:=om p.length;unfold da;rw[cq];omega
theorem K4:∀l:List ak,l.length<=(l.flatMap da).length
 |[]=>by simp
 |p::l=>by
  have:=K4 l;have:=aan p;grind
theorem adj(f:Fd):1<=f.text.length:=by
 have:=om (2*f.id+(if f.c then 1 else 0));unfold Fd.text eW;rw[cq];omega
theorem K5:∀l:List Fd,l.length<=(l.flatMap Fd.text).length
 |[]=>by simp
 |p::l=>by
  have:=K5 l;have:=adj p;grind
theorem MY{f:Fd}:∀{l:List Fd},f∈l->f.p.length<=(l.flatMap Fd.text).length
 |g::l,h=>by
  rw[eY,cq];rcases eJ.1 h with rfl|h
  . have:f.p.length<=f.text.length:=by unfold Fd.text eW da;simp only[cq];omega
    omega
  . have:=MY h;omega
theorem N9{d:ej}(h:WF cy ⟨.slice (.nm vx),d.dI⟩):uP d:=by
 obtain⟨a,_,c⟩:=tg (t:= .nm vx) h;refine⟨a,λx p=>?_⟩;have e:=c x p;have b:∀{n:Int},WF cy ⟨.int .u8,n⟩->de n:=λ{n} h=>by
  cases h with
  |int k n h=>
   simp[Lit.wf,IntKind.min,IntKind.max,IntKind.bits,IntKind.signed]at h;unfold de;omega
 have g:=e ⟨.int .u8,x.Kind⟩ (.head _);have i:=e ⟨.int .u8,x.A⟩ (.tail _ (.head _));have j:=e ⟨.int .u8,x.B⟩ (.tail _ (.tail _ (.head _)));have l:=e ⟨.int .u8,x.C⟩ (.tail _ (.tail _ (.tail _ (.head _))));have m:=e ⟨.slice (.nm CE),x.c0⟩ (.tail _ (.tail _ (.tail _ (.tail _ (.head _)))));obtain⟨r,_,s⟩:=tg (t:= .nm CE) m;refine⟨b g,b i,b j,b l,λq o=>?_,r⟩;have f:=s q o;exact⟨b (f ⟨.int .u8,q.ad⟩ (.head _)),b (f ⟨.int .u8,q.aw⟩ (.tail _ (.head _))),b (f ⟨.int .u8,q.ha⟩ (.tail _ (.tail _ (.head _))))⟩
theorem adk{d:lf}(h:∀c,c∈cy.oa Ws d->WF cy c):E3 d:=by
 have e:=h ⟨.slice (.nm vx),d.S.dI⟩ (.head _);have f:=h ⟨.int .u8,d.T⟩ (.tail _ (.head _));have g:=h ⟨.slice (.int .u8),d.C⟩ (.tail _ (.tail _ (.head _)));obtain⟨a,_,c⟩:=tg (t:= .int .u8) g;have b:∀{n:Int},WF cy ⟨.int .u8,n⟩->de n:=λ{n} h=>by
  cases h with
  |int k n h=>
   simp[Lit.wf,IntKind.min,IntKind.max,IntKind.bits,IntKind.signed]at h;unfold de;omega
 exact⟨N9 e,b f,λn aH=>b (c n aH ⟨.int .u8,n⟩ (.head _)),a⟩
def gh(n:Nat):ak->Nat
 |[]=>n
 |c::s=>gh (n*256+c.toNat) s
theorem Sy:∀(s:ak) (n k:Nat),n<256^k->gh n s<256^(k+s.length)
 |[],n,k,h=>by simpa[gh]using h
 |c::s,n,k,h=>by
  have a:c.toNat<256:=B9 c;have h1:n*256+c.toNat<256^(k+1):=by rw[yK];omega
  have:=Sy s _ (k+1) h1;simp only[gh,gA];grind
theorem ah4{n:Nat}(h:n<72057594037927936):nj .u64 (n:Int) 8=((n*256:Nat):Int):=by
 unfold nj;have e:((2:Int)^min (8:Int).toNat IntKind.u64.bits)=256:=by decide
 rw[e];have:(n:Int)*256=((n*256:Nat):Int):=by push_cast;rfl
 rw[this];exact kX (by omega) (by omega)
theorem aek{b:Nat}(c:a<72057594037927936)(d:b<256):r7 .u64 ((a*256:Nat):Int) (b:Int)=((a*256+b:Nat):Int):=by
 have e:(BitVec.ofInt 64 ((a*256:Nat):Int) ||| BitVec.ofInt 64 (b:Int)).toNat=a*256+b:=by
  rw[wO,wO,BitVec.toNat_or,yC,yC,Gu,oE (by omega),oE (by omega)];have h:=Nat.shiftLeft_add_eq_or_of_lt (show b<2^8 by omega) a;rw[Nat.shiftLeft_eq]at h;exact h.symm
 show IntKind.u64.wrap (((BitVec.ofInt 64 ((a*256:Nat):Int) ||| BitVec.ofInt 64 (b:Int)).toNat:Nat):Int)=_;rw[e];exact kX (by omega) (by omega)
theorem aeQ:(256:Nat)^8=18446744073709551616:=by decide
theorem zC{s:ak}(hs:s.length<=8):∀(k i n:Nat),i+k=s.length->n<256^i->mK (s,(n:Int),(s.length:Int),(i:Int))=some ((gh n (s.drop i):Nat):Int)
 |0,i,n,c,aH=>by
  rw[mK,b',en (by omega:s.length<=i)];rfl
 |k+1,i,n,c,aH=>by
  have aB:i<s.length:=by omega
  have b:=Ae s i;have a:n<72057594037927936:=by
   have:(256:Nat)^i<=256^7:=wP (by omega) (by omega);omega
  rw[mK,br,ae (aP aB),ah4 a,rj,hy,aek a b,bC,zC hs k (i+1) _ (by omega) (by rw[yK];omega),eE aB 0];rfl
theorem HP{s:ak}(hs:s.length<=8):∀(k i n:Nat),i+k=s.length->n<256^i->pj (s,(n:Int),(i:Int))=some ((gh n (s.drop i):Nat):Int)
 |0,i,n,a,aH=>by
  rw[pj,b',en (by omega:s.length<=i)];rfl
 |k+1,i,n,a,aH=>by
  have aB:i<s.length:=by omega
  have c:=Ae s i;have d:n<72057594037927936:=by
   have:(256:Nat)^i<=256^7:=wP (by omega) (by omega);omega
  have aN:gz .u64 (n:Int) 256=((n*256:Nat):Int):=uo (b:=256) (by omega);rw[pj,br,ae (aP aB),aN,rj,hy,sw (by omega),bC,HP hs k (i+1) _ (by omega) (by rw[yK];omega),eE aB 0];rfl
def gD(s:ak):Option Nat:=if s.head?=some 0\/8<s.length then none else some (gh 0 s)
theorem EK{s:ak}{n:Nat}(h:gD s=some n):n<18446744073709551616:=by
 unfold gD at h;split at h
 . cases h
 . rename_i aa;cases h;have:=Sy s 0 0 (by simp);have a:(256:Nat)^(0+s.length)<=256^8:=wP (by omega) (by omega);omega
theorem Es{s:ak}(h:s≠[]):(fI s 0=0)↔s.head?=some 0:=by
 cases s with
 |nil=>exact absurd rfl h
 |cons c s=>
  have:fI (c::s) 0=(c.toNat:Int):=rj (c::s) 0;rw[this];simp only[List.head?_cons,dG];constructor
  . intro h;exact UInt8.toNat_inj.1 (by simpa using h)
  simp_all
theorem ael(s:ak):∃r,tl s=some r/\(r.2=0->∃n,gD s=some n/\r.1=(n:Int))/\(r.2≠0->gD s=none):=by
 rw[tl];simp only[aS,ao];by_cases h0:s=[]
 . subst h0;have aN:mK ([],0,((([]:ak)).length:Int),0)=some ((gh 0 []:Nat):Int):=zC (s:=[]) (by simp) 0 0 0 rfl (by simp);refine⟨(((gh 0 []:Nat):Int),0),?_,λ_=>⟨0,rfl,rfl⟩,λh=>absurd rfl h⟩;grind
 . have e:0<s.length:=ux.2 h0;have d:aG 0 s.length=true:=aP (k:=0) e;have c:(!(decide (s=[])))=true:=(by simp[h0]);rw[c,d];simp only[Cc,b5,et];by_cases a:fI s 0=0
   . rw[ae (by simp[a])];refine⟨_,rfl,λh=>(by cases h),λ_=>?_⟩;unfold gD;rw[ae (.inl ((Es h0).1 a))]
   . rw[al (by simp[a])];by_cases b:8<s.length
     . rw[br];refine⟨_,rfl,λh=>(by cases h),λ_=>?_⟩;unfold gD;rw[ae (.inr b)]
     . have aN:mK (s,0,(s.length:Int),0)=some ((gh 0 s:Nat):Int):=zC (by omega) s.length 0 0 (by omega) (by simp);rw[b',aN];refine⟨_,rfl,λ_=>⟨gh 0 s,?_,rfl⟩,λh=>absurd rfl h⟩;unfold gD;rw[al]
       rintro (h|h)
       . exact a ((Es h0).2 h)
       omega
theorem aao(s:ak):∃r,tl s=some r/\C9 s=some r/\(r.2=0->∃n,gD s=some n/\r.1=(n:Int))/\(r.2≠0->gD s=none):=by
 rw[tl,C9];simp only[aS,ao];by_cases h0:s=[]
 . subst h0;have aN:mK ([],0,((([]:ak)).length:Int),0)=some ((gh 0 []:Nat):Int):=zC (s:=[]) (by simp) 0 0 0 rfl (by simp);have c:pj ([],0,0)=some ((gh 0 []:Nat):Int):=HP (s:=[]) (by simp) 0 0 0 rfl (by simp);refine⟨(((gh 0 []:Nat):Int),0),?_,?_,λ_=>⟨0,rfl,rfl⟩,λh=>absurd rfl h⟩
   . grind
   grind
 . have i:0<s.length:=ux.2 h0;have g:aG 0 s.length=true:=aP (k:=0) i;have e:decide ((0:Int)<(s.length:Int))=true:=by simp;omega
   have f:(!(decide (s=[])))=true:=(by simp[h0]);rw[e,f,g];simp only[Cc,b5,et];by_cases b:fI s 0=0
   . have a:decide (fI s 0=0)=true:=(by simp[b]);rw[ae a,ae a];refine⟨_,rfl,rfl,λh=>(by cases h),λ_=>?_⟩;unfold gD;rw[ae (.inl ((Es h0).1 b))]
   . have a:¬(decide (fI s 0=0)=true):=(by simp[b]);rw[al a,al a];by_cases d:8<s.length
     . have:decide ((8:Int)<(s.length:Int))=true:=by simp;omega
       rw[ae this,ae this];refine⟨_,rfl,rfl,λh=>(by cases h),λ_=>?_⟩;unfold gD;rw[ae (.inr d)]
     . have:¬(decide ((8:Int)<(s.length:Int))=true):=by simp;omega
       rw[al this,al this];have aN:mK (s,0,(s.length:Int),0)=some ((gh 0 s:Nat):Int):=zC (by omega) s.length 0 0 (by omega) (by simp);have c:pj (s,0,0)=some ((gh 0 s:Nat):Int):=HP (by omega) s.length 0 0 (by omega) (by simp);rw[aN,c];refine⟨_,rfl,rfl,λ_=>⟨gh 0 s,?_,rfl⟩,λh=>absurd rfl h⟩;unfold gD;rw[al]
       rintro (h|h)
       . exact b ((Es h0).2 h)
       omega
def ia(n:Nat):Int:=if n%2=0 then((n/2:Nat):Int)else -((n/2:Nat):Int)-1
theorem aem{n:Int}(h:cx n):ia (fE n).toNat=n:=by
 unfold ia fE cx at*;omega
theorem aeR{n:Nat}(h:n<18446744073709551616):C5 (n:Int)=some (ia n):=by
 rw[C5];have aN:b7 (n:Int) 2=((n%2:Nat):Int):=AO (b:=2);have a:fC .u64 (n:Int) 2=((n/2:Nat):Int):=uD h;rw[aN,a,jC];unfold ia;by_cases h0:n%2=0
 . grind
 . have dx:c9 .i64 0 ((n/2:Nat):Int)= -((n/2:Nat):Int):=by rw[gS];omega
   rw[b',al h0,dx,gS]
theorem afa{n:Nat}(h:n<18446744073709551616):Bk .u64 (n:Int) 1=((n%2:Nat):Int):=by
 have e:(BitVec.ofInt 64 (n:Int) &&& BitVec.ofInt 64 (1:Int)).toNat=n%2:=by grind
 show IntKind.u64.wrap (((BitVec.ofInt 64 (n:Int) &&& BitVec.ofInt 64 (1:Int)).toNat:Nat):Int)=_;rw[e];exact kX (by omega) (by omega)
theorem ah5{n:Nat}:lE .u64 (n:Int) 1=((n/2:Nat):Int):=by
 unfold lE;have:((2:Int)^min (1:Int).toNat IntKind.u64.bits)=2:=by decide
 grind
theorem abm(h:a<9223372036854775808):uM .i64 (a:Int) 0=(a:Int):=by
 have e:(BitVec.ofInt 64 (a:Int) ^^^ BitVec.ofInt 64 (0:Int)).toNat=a:=by grind
 show IntKind.i64.wrap (((BitVec.ofInt 64 (a:Int) ^^^ BitVec.ofInt 64 (0:Int)).toNat:Nat):Int)=_;rw[e,IntKind.wrap_i64];omega
theorem abn(h:a<9223372036854775808):uM .i64 (a:Int) (-1)= -(a:Int)-1:=by
 have e:(BitVec.ofInt 64 (a:Int) ^^^ BitVec.ofInt 64 (-1:Int)).toNat=18446744073709551615-a:=by
  have h1:BitVec.ofInt 64 (-1:Int)=BitVec.allOnes 64:=by decide
  rw[h1,wO,BitVec.xor_allOnes,BitVec.toNat_not,yC,Gu,oE (by omega)]
 all_goals (try omega)
 show IntKind.i64.wrap (((BitVec.ofInt 64 (a:Int) ^^^ BitVec.ofInt 64 (-1:Int)).toNat:Nat):Int)=_;rw[e,IntKind.wrap_i64];omega
theorem aeS{n:Nat}(h:n<18446744073709551616):CO (n:Int)=some (ia n):=by
 rw[CO,ah5,afa h,jC,jC,gS];unfold ia;by_cases h0:n%2=0
 . rw[ae h0,h0];have:(0:Int)-((0:Nat):Int)=0:=rfl;rw[this,abm (by omega)]
 . have h1:n%2=1:=(by omega);rw[al h0,h1];have:(0:Int)-((1:Nat):Int)= -1:=rfl;rw[this,abn (by omega)]
def ib(p:ak):Option (List ak):=match lk p with
 |some (l,e)=>if e=0 then some l else none
 |none=>none
def iI(p:ak):Option (List cT):=match lT p with
 |some (l,e)=>if e=0 then some l else none
 |none=>none
def jA(p:ak):Option (Int×ak):=match lY p with
 |some (id,q,e)=>if e=0 then some (id,q)else none
 |none=>none
theorem MZ:∀(n:Nat) (s:ak) (b l:List ak),s.length<=n->s.length+b.length<=100000->hE (s,b)=some (.inr l)->∀q,q∈l->q∈b\/q.length<=s.length
 |n,s,b,l,aH,f,h=>by
  rw[hE]at h;by_cases h0:s=[]
  . grind
  . rw[ae (by simp[h0]),l3]at h;simp only[aS,ao]at h;cases a:iy s with
    |none=>
     rw[a]at h;simp[dR]at h
    |some r=>
     obtain⟨x,c⟩:=r;rw[a]at h;have af:=nY a;have d:¬((!(dR (some (x,c))).2.2)=true):=(by simp[dR]);have ag:room 16 (b++[(dR (some (x,c))).1]).length=true:=cO;rw[al d,ae ag]at h;intro q e
     match n,aH with
     |0,aH=>omega
     |n+1,aH=>
      have:=MZ n c _ l (by omega) (by simp;omega) h q e;rcases this with h|h
      . rcases hQ.1 h with h|h
        . exact .inl h
        . right;have:q=x:=(by simpa[dR]using h);grind
      omega
theorem LR:∀(n:Nat) (s:ak) (last:Nat) (b l:List cT),s.length<=n->s.length+b.length<=100000->ga ((last:Int),s,b)=some (.inr l)->
 ∃c,l=b++c/\(∀f,f∈c->f.Data.length<=s.length/\(last:Int)<f.ad/\f.ad<=1000)/\c.Pairwise (λa b=>a.ad<b.ad)
 |n,s,last,b,l,aH,u,h=>by
  rw[ga]at h;by_cases h0:s=[]
  . simp_all
  . rw[ae (by simp[h0])]at h;rcases lG s with⟨e,he,aq⟩|⟨m,k,aq,w,j,o⟩
    . rw[oi he aq]at h;simp at h
    . rw[l0 aq j]at h;simp only[aS,ao,uD o]at h;by_cases v:((m/2:Nat):Int)<=(last:Int)\/1000<((m/2:Nat):Int)
      . grind
      . have:¬((bif bif (!true)then true else decide (((m/2:Nat):Int)<=(last:Int))then true else decide (1000<((m/2:Nat):Int)))=true):=(by grind);rw[al this,l3 (by rw[mc];omega)]at h;simp only[ao]at h;cases g:iy (s.drop k)with
        |none=>
         rw[g]at h;simp[dR]at h
        |some r=>
         obtain⟨x,d⟩:=r;rw[g]at h;have af:=nY g;rw[mc]at af;have p:¬((!(dR (some (x,d))).2.2)=true):=(by simp[dR]);have q:bT .i64 ((m/2:Nat):Int)=((m/2:Nat):Int):=jC;rw[al p,q]at h;have ag:room 32 (b++[(⟨((m/2:Nat):Int),decide (b7 (m:Int) 2=1),(dR (some (x,d))).1⟩:cT)]).length=true:=cO;rw[ae ag]at h
         match n,aH with
         |0,aH=>omega
         |n+1,aH=>
          obtain⟨c,e,h1,t⟩:=LR n d (m/2) _ l (by omega) (by simp;omega) h;refine⟨⟨((m/2:Nat):Int),decide (b7 (m:Int) 2=1),(dR (some (x,d))).1⟩::c,by rw[e];simp,λf i=>?_,?_⟩
          . rcases eJ.1 i with rfl|i
            . refine⟨by show x.length<=_;omega,by show(last:Int)<((m/2:Nat):Int);omega,by show((m/2:Nat):Int)<=1000;omega⟩
            grind
          grind
theorem tZ(b:p.length<=90000):∃o,lk p=some o/\(o.2=0->ib p=some o.1/\(∀q,q∈o.1->q.length<=p.length)/\o.1.length<=p.length)/\(o.2≠0->ib p=none):=by
 obtain⟨o,h1,a⟩:=acg b;refine⟨o,h1,λh0=>⟨?_,?_,a⟩,λh0=>?_⟩
 . unfold ib;rw[h1];grind
 . obtain⟨d,a1,_⟩:=HK p.length p [] (by omega) (by simp;omega);rw[lk,a1]at h1;cases d with
   |inl e=>grind
   |inr l=>
    have:o=(l,0):=(mh h1).symm;subst this;intro q c;rcases MZ p.length p [] l (by omega) (by simp;omega) a1 q c with h|h
    . cases h
    . exact h
 . unfold ib;rw[h1];grind
theorem LS(a:p.length<=90000):∃o,lk p=some o/\vA p=some o/\(o.2=0->ib p=some o.1/\(∀q,q∈o.1->q.length<=p.length)/\o.1.length<=p.length)/\(o.2≠0->ib p=none):=by
 obtain⟨o,h1,b⟩:=tZ a;exact⟨o,h1,by rw[ach a,h1],b⟩
theorem Et(k:p.length<=90000):∃o,lT p=some o/\(o.2=0->iI p=some o.1/\(∀f,f∈o.1->f.Data.length<=p.length/\cm f.ad)/\o.1.Pairwise (λa b=>a.ad<b.ad)/\o.1.length<=p.length)/\(o.2≠0->iI p=none):=by
 obtain⟨o,h1,i⟩:=abL k;obtain⟨d,a1,_⟩:=LK p.length p 0 [] (by omega) (by simp;omega);have key:o.2=0->(∀f,f∈o.1->f.Data.length<=p.length/\cm f.ad)/\o.1.Pairwise (λa b=>a.ad<b.ad):=by
  intro h0;have c:=h1;have g:ga (0,p,[])=some d:=a1;rw[lT,g]at c;cases d with
  |inl e=>
   have:o=([],e):=(mh c).symm;simp_all
  |inr l=>
   have:o=(l,0):=(mh c).symm;subst this;obtain⟨m,e,b1,b2⟩:=LR p.length p 0 [] l (by omega) (by simp;omega) a1;have:l=m:=(by simpa using e);subst this;exact⟨λf j=>by have:=b1 f j;exact⟨this.1,by omega,this.2.2⟩,b2⟩
 refine⟨o,h1,λh0=>⟨?_,(key h0).1,(key h0).2,i⟩,λh0=>?_⟩
 . unfold iI;rw[h1];grind
 . unfold iI;rw[h1];grind
theorem YK(c:p.length<=90000):∃o,lT p=some o/\zf p=some o/\(o.2=0->iI p=some o.1/\(∀f,f∈o.1->f.Data.length<=p.length/\cm f.ad)/\o.1.Pairwise (λa b=>a.ad<b.ad)/\o.1.length<=p.length)/\(o.2≠0->iI p=none):=by
 obtain⟨o,h1,d⟩:=Et c;exact⟨o,h1,by rw[abM c,h1],d⟩
theorem I4(p:ak):∃o,lY p=some o/\(o.2.2=0->jA p=some (o.1,o.2.1)/\o.2.1.length<=p.length/\cm o.1)/\(o.2.2≠0->jA p=none):=by
 obtain⟨o,h1⟩:=adL p;have key:o.2.2=0->o.2.1.length<=p.length/\cm o.1:=by
  intro h0;have a:=h1;rw[lY]at a;rcases lG p with⟨e,he,aq⟩|⟨m,k,aq,f,c,g⟩
  . rw[oi he aq]at a;grind
  . rw[l0 aq c]at a;simp only[aS,ao]at a;by_cases d:(m:Int)<1\/1000<(m:Int)
    . grind
    . have b:¬((bif bif (!true)then true else decide ((m:Int)<1)then true else decide (1000<(m:Int)))=true):=(by grind);rw[al b,jC]at a;have:o=((m:Int),p.drop k,0):=(mh a).symm;subst this;exact⟨by show(p.drop k).length<=_;rw[mc];omega,by omega,by show(m:Int)<=1000;omega⟩
 refine⟨o,h1,λh0=>⟨?_,(key h0).1,(key h0).2⟩,λh0=>?_⟩
 . unfold jA;rw[h1];grind
 . unfold jA;rw[h1];grind
theorem adl(p:ak):∃o,lY p=some o/\yZ p=some o/\(o.2.2=0->jA p=some (o.1,o.2.1)/\o.2.1.length<=p.length/\cm o.1)/\(o.2.2≠0->jA p=none):=by
 obtain⟨o,h1,a⟩:=I4 p;obtain⟨b,a1,a2⟩:=adM p;rw[h1]at a1;rw[<-mh a1]at a2;exact⟨o,h1,a2,a⟩
theorem Jn:∀(s:ak) (n:Nat) (b:UInt8),gh n (s++[b])=gh n s*256+b.toNat
 |[],n,b=>by simp[gh]
 |a::s,n,b=>by
  simp only[uz,gh];exact Jn s _ b
theorem aen(n:Nat):gh 0 (fb n)=n:=by
 induction n using Nat.strongRecOn with
 |ind n ih=>
  rw[fb];split
  . rename_i h;subst h;rfl
  . rw[Jn,ih (n/256) (by omega),ll];omega
theorem abo:∀(n:Nat),¬(fb n).head?=some 0:=by
 intro n;induction n using Nat.strongRecOn with
 |ind n ih=>
  rw[fb];split
  . simp
  . rename_i h;have:=ih (n/256) (by omega);by_cases f:n<256
    . have:n/256=0:=(by omega);rw[this,fb,ae rfl];simp only[fS,List.head?_cons,dG];intro d;have c:=eu UInt8.toNat d;rw[ll]at c;grind
    . have e:fb (n/256)≠[]:=by rw[fb,bB];simp
      cases b:fb (n/256)with
      |nil=>exact absurd b e
      |cons a l=>rw[b]at this;simpa using this
theorem NW{n:Nat}(h:n<18446744073709551616):gD (fb n)=some n:=by
 unfold gD;have h1:=abo n;have a:=v8 8 n (by rw[aeQ];exact h)
 rw [al (by rintro (h|h)
            . exact h1 h
            . omega),aen]
theorem aeo{a b:List bW}(c:a.Pairwise (λx y=>x.ad<y.ad))(d:b.Pairwise (λx y=>x.ad<y.ad))(h:∀x,x∈a↔x∈b):a=b:=by
 have g:a.Nodup:=c.imp λ{x y} h e=>by subst e;omega
 have i:b.Nodup:=d.imp λ{x y} h e=>by subst e;omega
 have f:a.Perm b:=(List.perm_ext_iff_of_nodup g i).2 h;exact List.Perm.eq_of_pairwise (le:=λx y:bW=>x.ad<y.ad) (λx y _ _ h1 j=>by omega) c d f
theorem adm{l m:List I}(af:l.length=m.length)(h:∀i,i<l.length->l.getD i av=m.getD i av):l=m:=by
 apply B7 af;grind
theorem YL(p:ak):p.length<=(da p).length:=by unfold da;rw[cq];omega
theorem DK:∀{l:List ak},p∈l->p.length<=(l.flatMap da).length
 |q::l,h=>by
  rw[eY,cq];rcases eJ.1 h with rfl|h
  . have:=YL p;omega
  . have:=DK h;omega
theorem Du{ts:List ai}:∀{ms:List aU} {l:List I} {x:Fd},x∈dm ts ms l->∃j,j<ms.length/\j<l.length/\di (ms.getD j aC) (l.getD j av)=false/\x=⟨(ms.getD j aC).ad.toNat,(ms.getD j aC).ch,bo ts (ms.getD j aC).aw (l.getD j av)⟩
 |[],l,x,h=>by
  rw[dm]at h
  . cases h
  grind
 |m::ms,[],x,h=>by
  rw[dm]at h
  . cases h
  grind
 |m::ms,v::l,x,h=>by
  rw[dm]at h;split at h
  . obtain⟨j,h1,a,b,c⟩:=Du h;exact⟨j+1,by simpa using h1,by simpa using a,by simpa using b,by simpa using c⟩
  . rename_i d;rcases eJ.1 h with rfl|h
    . exact⟨0,by simp,by simp,by simpa using d,rfl⟩
    . obtain⟨j,h1,a,b,c⟩:=Du h;exact⟨j+1,by simpa using h1,by simpa using a,by simpa using b,by simpa using c⟩
theorem rP(h:gQ ms){a b:aU}(c:a∈ms)(d:b∈ms)(e:a.ad=b.ad):a=b:=by
 obtain⟨i,f,rfl⟩:=e1 c;obtain⟨j,g,rfl⟩:=e1 d;have key:=wN.1 h.1;grind
theorem kf{m:aU}(h:cB ms id=some m):m∈ms/\m.ad=id:=
 ⟨Ck h,by simpa using List.find?_some h⟩
theorem NX(c:gQ ms){m:aU}(h:m∈ms):cB ms m.ad=some m:=by
 cases a:cB ms m.ad with
 |none=>exact absurd rfl (nW a m h)
 |some q=>
  obtain⟨h1,b⟩:=kf a;rw[rP c h1 h b]
theorem tI{ts:List ai}{t:Int}:∀{l:List I} {x:I},x∈l->dH ts t x<=dC ts t l
 |v::l,x,h=>by
  rw[dC];rcases eJ.1 h with rfl|h
  . omega
  . have:=tI (ts:=ts) (t:=t) h;omega
theorem H0{ts:List ai}:∀{ms:List aU} {l:List I} {j:Nat},j<ms.length->j<l.length->di (ms.getD j aC) (l.getD j av)=false->dH ts (ms.getD j aC).aw (l.getD j av)<=fc ts ms l
 |m::ms,v::l,0,_,_,a=>by
  simp only[jv]at a⊢;rw[fc,al (by rw[a];simp)];omega
 |m::ms,v::l,j+1,h1,b,a=>by
  simp only[wQ]at a⊢;have:=H0 (ts:=ts) (by simpa using h1) (by simpa using b) a;rw[fc];grind
theorem Oa{l:List ak}(h:(l.flatMap da).length<=90000):ib (l.flatMap da)=some l:=by
 have af:=K4 l;have:=NV l [] (by omega) (by simp;omega);unfold ib;rw[lk,this];rfl
theorem adn{l:List Fd}(d:l.Pairwise (λa b=>a.id<b.id))(ag:∀f,f∈l->1<=f.id/\f.id<=1000)(h:(l.flatMap Fd.text).length<=90000):iI (l.flatMap Fd.text)=some (l.map o9):=by
 have af:=K5 l;have bx:=MW l 0 [] d (λf h=>⟨by have:=ag f h;omega,(ag f h).2⟩) (by omega) (by simp;omega);have c:ga (0,l.flatMap Fd.text,[])=some (.inr (l.map o9)):=by simpa using bx
 unfold iI;rw[lT,c];rfl
theorem P8{n:Nat}(h:1<=n/\n<=1000)(c:ak):jA (dP n++c)=some ((n:Int),c):=by
 unfold jA;have d:=l0 (Jl (n:=n) (by omega) c) (by simp);rw[lY,d];simp only[aS,ao];have a:¬(n:Int)<1:=by omega
 have b:¬(1000:Int)<(n:Int):=by omega
 rw[al (by simp only[a,b,c8,dk,dW,bY,not_false_eq_true]),jC];simp
theorem LU{l:List I}{i:Nat}(h:i<l.length):(bt ts t l).getD i []=bo ts t (l.getD i av):=by
 rw[Er,h2 (bo ts t) l i av [] h]
theorem I5{b n r:Nat}(h:a=1+max n b)(ag:a<=r+1)(d:c<=b):c<=r:=by omega
theorem aep{b r:Nat}(h:a=1+max 1 b)(ag:a<=r+1)(d:c=1):c<=r:=by omega
def sr(ts:List ai)(t:Int)(v:I):Prop:=bX ts false t v/\bK v/\wt v<=2147483648
theorem ado{a:I}(h:bK a)(b:I):eV (CJ (a,b)) a b:=by
 obtain⟨r,h1,c⟩:=D7 h b;refine⟨r,?_,c⟩;rw[CJ];simp only[I.aV];rw[h1];rfl
theorem adp{a:I}(h:bK a)(b:I):eV (pK (a,b)) a b:=KO h b
mutual
def cQ:I->I
 |⟨k,b,i,s,id,ks,a,r⟩=>⟨k,b,i,s,id,ks,A2 a,if k=5 then[]else r⟩
def A2:List I->List I
 |[]=>[]
 |v::l=>cQ v::A2 l
end
theorem K6:∀l:List I,A2 l=l.map cQ
 |[]=>by rw[A2];rfl
 |v::l=>by rw[A2,K6 l];rfl
theorem mT(v:I):cQ v=⟨v.Kind,v.bN,v.bc,v.bl,v.ad,v.ay,v.aj.map cQ,if v.Kind=5 then[]else v.Rest⟩:=by
 cases v;rw[cQ,K6]
theorem Ob{l:List bW}(h:l.Pairwise λa b=>a.ad<b.ad)(n:Nat)(h1:∀x,x∈l->1<=x.ad/\x.ad<=n):l.length<=n:=by
 have key:∀(l:List bW) (m:Int),l.Pairwise (λa b=>a.ad<b.ad)->(∀x,x∈l->m<x.ad/\x.ad<=n)->m<=n->(l.length:Int)<=n-m:=by
  intro l;induction l with
  |nil=>intro m _ _ h;simp;omega
  |cons x l ih=>
   intro m e d aH;have c:=d x (.head _);have:=ih x.ad (h6.1 e).2 (λy f=>⟨(h6.1 e).1 y f,(d y (.tail _ f)).2⟩) c.2;rw[gA];omega
 have:=key l 0 h (λx c=>⟨by have:=h1 x c;omega,(h1 x c).2⟩) (by omega);omega
section
variable {ts:List ai}
theorem adq(H:c' ts)(j:bX ts pl t v):v.ay.length<=20/\v.aj.length<=20/\v.Rest.length<=1000:=by
 obtain⟨⟨l,m,n,o⟩,i⟩:=(eH _ _ _).1 j;have e:=bd (by omega:t.toNat<ts.length) aK;generalize q:ts.getD t.toNat aK=x at*;have p:=H.M x e;have g:=H.cw x e;rcases i with h|h|h|h|h|h|h|h|h
 . obtain⟨a1,a2,a3,a4,a5,a,b⟩:=h;rw[a5,a,b];simp
 . obtain⟨a1,a2,a3,a4,a5,a,b,c⟩:=h;rw[a5,a,b];simp
 . obtain⟨a1,a2,a3,a4,a5,a,b,c⟩:=h;rw[a5,a,b];simp
 . obtain⟨a1,a2,a3,a4,a5,a,b,c⟩:=h;rw[a5,a,b];simp
 . obtain⟨a1,a2,a3,a4,a5,a,b,c⟩:=h;have:=(hG.1 c).1;refine⟨by rw[a];simp,by have:=g.2.2;omega,Ob b.1 1000 λy k=>?_⟩;have:=(b.2 y k).1;unfold cm at this;omega
 . obtain⟨a1,a2,a3,a4,a5,a⟩:=h;split at a
   . obtain⟨b1,b2,b3⟩:=a;rw[a5,b1,b2];simp
   . obtain⟨b1,b2,b3,b4,d,f⟩:=a;rw[a5,b4,f];simp
 . obtain⟨a1,a2,a3,a4,a5,a,b,c,a9⟩:=h;rw[a,b];simp;omega
 . obtain⟨a1,a2,a3,a4,a5,a,b,c,a9⟩:=h;rw[a];simp;omega
 . obtain⟨a1,a2,a3,a4,a5,a,b,c,a9⟩:=h;rw[a,b];simp;omega
structure E5 (ts:List ai):Prop where
 T:∀t,t∈ts->eZ t
 V:nz ts
theorem c'.g(H:c' ts):E5 ts:=⟨H.T,H.V⟩
inductive nw:I->Prop
 |mk (v:I) (k:v.ay.length<=1000) (i:v.aj.length<=1000) (BQ:∀x,x∈v.aj->nw x):nw v
theorem nw.items(h:nw v):∀x,x∈v.aj->nw x:=by
 cases h with
 |mk _ _ _ h=>exact h
theorem Oc(cX:nw v)(g:bX ts pl t v):v.ay.length<=1000/\v.aj.length<=1000/\v.Rest.length<=1000:=by
 have⟨k,i⟩:v.ay.length<=1000/\v.aj.length<=1000:=by cases cX with|mk _ k i _=>exact⟨k,i⟩
 refine⟨k,i,?_⟩;obtain⟨_,f⟩:=(eH _ _ _).1 g;rcases f with h|h|h|h|h|h|h|h|h
 . rw[h.2.2.2.2.2.2];simp
 . rw[h.2.2.2.2.2.2.1];simp
 . rw[h.2.2.2.2.2.2.1];simp
 . rw[h.2.2.2.2.2.2.1];simp
 . obtain⟨a1,a2,a3,a4,a5,a,b,c⟩:=h;refine Ob b.1 1000 λy j=>?_;have:=(b.2 y j).1;unfold cm at this;omega
 . obtain⟨a1,a2,a3,a4,a5,a⟩:=h;split at a
   . obtain⟨b1,b2,b3⟩:=a;rw[b1];simp
   . obtain⟨b1,b2,b3,b4,d,e⟩:=a;rw[e];simp
 . rw[h.2.2.2.2.2.2.1];simp
 . obtain⟨a1,a2,a3,a4,a5,a,b,c,a9⟩:=h;rw[a];simp
 . rw[h.2.2.2.2.2.2.1];simp
def gZ(x:ai)(v:I)(i:Nat):Int:=if x.Kind=5 then(x.ah.getD i aC).aw else if x.Kind=6 then((cB x.ah v.ad).getD aC).aw else x.aF
def qn(x:ai)(v:I)(i:Nat):Int:=if x.Kind=5 then(x.ah.getD i aC).ad else if x.Kind=6 then v.ad else i
theorem zD(j:bX ts pl t v):∀i,i<v.aj.length->bX ts pl (gZ (ts.getD t.toNat aK) v i) (v.aj.getD i av):=by
 obtain⟨⟨n,o,p,q⟩,g⟩:=(eH _ _ _).1 j;generalize r:ts.getD t.toNat aK=x at*;intro i a;have d:=bd a av;unfold gZ;rcases g with h|h|h|h|h|h|h|h|h
 . rw[h.2.2.2.2.2.1]at a;cases a
 . rw[h.2.2.2.2.2.1]at a;cases a
 . rw[h.2.2.2.2.2.1]at a;cases a
 . rw[h.2.2.2.2.2.1]at a;cases a
 . obtain⟨a1,a2,a3,a4,a5,b,e,c⟩:=h;rw[fz];obtain⟨b1,b2⟩:=hG.1 c;exact b2 i (by omega)
 . obtain⟨a1,a2,a3,a4,a5,b⟩:=h;rw[bB,fz];split at b
   . rename_i m k;rw[k];exact cI.1 b.2.2 _ d
   . rw[b.2.2.2.1]at a;cases a
 . obtain⟨a1,a2,a3,a4,a5,b,e,c,a9⟩:=h;rw[bB,bB];exact cI.1 a9 _ d
 . obtain⟨a1,a2,a3,a4,a5,b,e,c,a9,f,l⟩:=h;rw[bB,bB];exact cI.1 f _ d
 . obtain⟨a1,a2,a3,a4,a5,b,e,c,a9⟩:=h;rw[bB,bB];exact cI.1 a9 _ d
theorem adr(f:α->α)(l:List α){i:Nat}(a:i<l.length)(d:α):((l.take i).map f++l.drop i).set i (f (l.getD i d))=(l.take (i+1)).map f++l.drop (i+1):=by
 rw[dv a];have h1:((l.take i).map f).length=i:=by simp;omega
 rw[List.set_append_right _ _ (by omega),h1,Ca,lB a,List.set_cons_zero,F4,r3,e9 a,ir];rfl
theorem ads(f:α->α)(l:List α){i:Nat}(a:i<l.length)(d:α):((l.take i).map f++l.drop i).getD i d=l.getD i d:=by
 have h1:((l.take i).map f).length=i:=by simp;omega
 rw[FR,wL (by omega),h1,Ca,lB a,dv a];rfl
theorem JH{l:List I}(af:l.length<=1000)(h:∀y,y∈l->px y=some (cQ y)){a0 a2 a4 b0 b4:Int}{b1:Bool}{b3:ak}{r:List bW}:∀(k i:Nat),i+k=l.length->
 rv ((i:Int),a0,a1,a2,a3,a4,r,b0,b1,b2,b3,b4,ks,(l.take i).map cQ++l.drop i)=some (a0,a1,a2,a3,a4,r,b0,b1,b2,b3,b4,ks,l.map cQ)
 |0,i,a=>by
  rw[rv,b',qk (by omega),en (by omega),mg]
 |k+1,i,a=>by
  have aB:i<l.length:=by omega
  have aH:((l.take i).map cQ++l.drop i).length=l.length:=by simp;omega
  rw[rv,aH,br,ae (aP aB),aZ,br,ads cQ l aB av];simp only[I.aV];rw[h _ (bd aB av)];simp only[aS,ao,I.aV];rw[ae (aP aB),br,adr cQ l aB av,bC];exact JH af h k (i+1) (by omega)
theorem aeq(H:c' ts)(d:bK v):∀{pl:Bool} {t:Int},bX ts pl t v->nw v:=by
 induction d with
 |mk v hs h1 f g k j l dc p q r m e=>
  intro pl t a;obtain⟨n,l2,o⟩:=adq H a;exact .mk v (by omega) (by omega) λy c=>by
   obtain⟨i,b,rfl⟩:=e1 c;have:=zD a i b;rw[dv b]at this;exact e _ c this
theorem abp(e:bK v):∀t,nw v->bX ts false t v->px v=some (cQ v):=by
 induction e with
 |mk v hs h1 j k n m o dc u w x p f=>
  intro t cX b;obtain⟨q,l2,s⟩:=Oc cX b;have g:∀y,y∈v.aj->px y=some (cQ y):=λy a=>by
   obtain⟨i,c,rfl⟩:=e1 a;have:=zD b i c;rw[dv c]at this;exact f _ a _ (cX.items _ a) this
  have d:CD v=some (v.Kind,v.bN,v.bc,v.bl,v.ad,v.ay,v.aj,v.Rest):=by
   rw[CD];simp only[fS];rw[ae (cO (by omega) (by omega)),ae (cO (by omega) (by omega)),ae (cO (by omega) (by omega))]
  rw[px];simp only[I.aV];rw[d,mT];simp only[aS,ao];have L:=λ(r:List bW)=>JH (l:=v.aj) (by omega) g (a0:=v.Kind) (a1:=v.bN) (a2:=v.bc) (a3:=v.bl) (a4:=v.ad) (b0:=0) (b1:=false) (b2:=0) (b3:=[]) (b4:=0) (r:=r) (ks:=v.ay) v.aj.length 0 (by omega);have L':∀r:List bW,rv (0,v.Kind,v.bN,v.bc,v.bl,v.ad,r,0,false,0,[],0,v.ay,v.aj)=_:=L;by_cases bf:v.Kind=5
  . rw[ae (by simp[bf]),L',ae bf];rfl
  . rw[al (by simp[bf]),L',al bf];rfl
def qz(x:ai)(v:I):Prop:=x.Kind=4->∃y,y∈x.bh/\y.ad=v.ad
theorem K8(d:eZ x)(v:I):∃b,mQ (x,v)=some b/\(b=false↔qz x v):=by
 rw[mQ];unfold qz;by_cases a:x.Kind=4
 . rw[al (by simp[a])];obtain⟨r,g,_,k⟩:=rb (t:=x) v.ad (by have:=d.1;have:=dA (d' reachBytes);omega);rw[g];refine⟨!r.2,rfl,?_⟩;rcases k with⟨j,e,f,n,rfl⟩|⟨q,rfl⟩
   . simp only[c8,true_iff];exactλ_=>⟨_,bd e dK,f⟩
   . simp only[eU,Bool.true_eq_false,false_iff];intro h;obtain⟨y,l,m⟩:=h a;obtain⟨i,c,rfl⟩:=e1 l;exact absurd m (by have:=q i c;rwa [dv c]at this)
 . rw[ae (by simp[a])];exact⟨false,rfl,by simp[a]⟩
theorem abq(db:∀t,t∈ts->eZ t)(af:v.ay.length<=1000)(c:v.ay≠[]->0<=x.Key/\x.Key<ts.length):∃b,Dr ((⟨ts⟩:aT),x,v)=some b/\(b=false↔∀k,k∈v.ay->qz (ts.getD x.Key.toNat aK) k):=by
 have f:∀i,i<v.ay.length->∃b,mQ (ts.getD x.Key.toNat aK,v.ay.getD i av)=some b/\(b=false↔qz (ts.getD x.Key.toNat aK) (v.ay.getD i av)):=λi a=>
  K8 (db _ (bd (by have:=c (by intro h;rw[h]at a;cases a);omega) aK)) _
 have o:∀i,i<v.ay.length->DG (v.ay.getD i av,ts,x)=(mQ (ts.getD x.Key.toNat aK,v.ay.getD i av)).map λb=>(b,ts,x):=λi a=>by
  rw[DG];have q:=c (by intro h;rw[h]at a;cases a);rw[ae (by simp[aG];omega)];simp only[I.aV];cases mQ (ts.getD x.Key.toNat aK,v.ay.getD i av)<;>rfl
 have h:=qQ (λi=>pE (v.ay,(v.ay.length:Int),(i:Int),ts,x)) v.ay.length (λi=>(mQ (ts.getD x.Key.toNat aK,v.ay.getD i av))==some true) (λi=>.inl ((i:Int),ts,x)) (.inr (ts,x))
  (λi a=>by
   obtain⟨b,b1,_⟩:=f i a;rw[pE,br,ae (aP a),aZ];simp only[I.aV];rw[o i a,b1];simp only[mf,aS,ao];rw[bC]
   cases b<;>simp)
  (by rw[pE,bw])
 have c4:pE (v.ay,(v.ay.length:Int),((0:Nat):Int),ts,x)=pE (v.ay,(v.ay.length:Int),0,ts,x):=rfl;simp only[c4]at h;rw[Dr,GY,G1];rcases h with⟨j,h1,m,p,e⟩|⟨h1,e⟩
 . rw[e];refine⟨true,?_,?_⟩
   . have:decide ((0:Int)<=(j:Int))=true:=(by simp);simp only[aS,ao,this]
   . obtain⟨b,b1,b2⟩:=f j h1;have n:b=true:=by
      have g:(mQ (ts.getD x.Key.toNat aK,v.ay.getD j av)==some true)=true:=m;rw[b1]at g;simpa using g
     constructor
     . intro h;cases h
     . intro h;have:=b2.2 (h _ (bd h1 av));rw[n]at this;cases this
 . rw[e];refine⟨false,rfl,?_⟩;constructor
   . intro _ k c;obtain⟨i,a,rfl⟩:=e1 c;obtain⟨b,b1,b2⟩:=f i a;have l:(mQ (ts.getD x.Key.toNat aK,v.ay.getD i av)==some true)=false:=h1 i a;rw[b1]at l;have:b=false:=by cases b<;>simp_all
     rw[<-dv a (d:=av)];exact b2.1 this
   . intro _;rfl
theorem YM(e:gQ x.ah)(af:x.ah.length<=1000){m:aU}(bx:cB x.ah id=some m):∃j,j<x.ah.length/\hg (x,id)=some ((j:Int),true)/\x.ah.getD j aC=m:=by
 obtain⟨c,d⟩:=kf bx;obtain⟨r,g,k⟩:=wk (t:=x) (id:=id) (by omega);rcases k with⟨j,b,f,_,rfl⟩|⟨q,_⟩
 . exact⟨j,b,g,rP e (bd b aC) c (by rw[f,d])⟩
 . obtain⟨i,a,rfl⟩:=e1 c;exact absurd d (by have:=q i a;rwa [dv a]at this)
def kV(x:ai)(v:I)(i:Nat):List iE:=(List.range i).map λj=>(⟨gZ x v j,qn x v j⟩:iE)
theorem adt(x:ai)(v:I)(i:Nat):kV x v i++[(⟨gZ x v i,qn x v i⟩:iE)]=kV x v (i+1):=by
 unfold kV;rw[List.range_succ,r3];rfl
theorem Eb(x:ai)(v:I)(i:Nat):(kV x v i).length=i:=by unfold kV;simp
theorem aer(x:ai)(v:I){i n:Nat}(h:i<n):(kV x v n).getD i It=⟨gZ x v i,qn x v i⟩:=by
 rw[dv (by rw[Eb];exact h)];unfold kV;simp
theorem NY(af:v.aj.length<=1000)(bf:x.Kind=5->v.aj.length<=x.ah.length)(b:x.Kind=6->0<v.aj.length->∃m,cB x.ah v.ad=some m)(a:x.Kind=6->gQ x.ah/\x.ah.length<=16):∀(k i:Nat),i+k=v.aj.length->
 nT ((v.aj.length:Int),(i:Int),x,v,kV x v i)=some (kV x v v.aj.length)
 |0,i,c=>by
  rw[nT,b'];have:i=v.aj.length:=by omega
  rw[this]
 |k+1,i,c=>by
  have ih:=NY af bf b a k (i+1) (by omega);have hs:=adt x v i;have ag:∀s:iE,room 16 (kV x v i++[s]).length=true:=λs=>cO (by omega) (by simp[Eb];omega);rw[nT,br,bC];simp only[aS,ao,I.aV];by_cases k5:x.Kind=5
  . have aB:i<x.ah.length:=by have:=bf k5;omega
    rw[ae (by simp[k5]),ae (aP aB),ae (aP aB),ae (ag _),aZ];have e:(⟨(x.ah.getD i aC).aw,(x.ah.getD i aC).ad⟩:iE)=⟨gZ x v i,qn x v i⟩:=by unfold gZ qn;rw[ae k5,ae k5]
    rw[e,hs];exact ih
  . rw[al (by simp[k5])];by_cases k6:x.Kind=6
    . obtain⟨m,bx⟩:=b k6 (by omega);obtain⟨j,d,f,g⟩:=YM (a k6).1 (by have:=(a k6).2;omega) bx;rw[ae (by simp[k6]),f];simp only[ao];rw[ae (aP d),ae (ag _),aZ,g];have e:(⟨m.aw,v.ad⟩:iE)=⟨gZ x v i,qn x v i⟩:=by unfold gZ qn;rw[al k5,ae k6,al k5,ae k6,bx];rfl
      rw[e,hs];exact ih
    . rw[al (by simp[k6]),ae (ag _)];have e:(⟨x.aF,(i:Int)⟩:iE)=⟨gZ x v i,qn x v i⟩:=by unfold gZ qn;rw[al k5,al k6,al k5,al k6]
      rw[e,hs];exact ih
theorem abr(H:iM ts)(d:bX ts pl t v)(af:v.aj.length<=1000):Df (ts.getD t.toNat aK,v)=some (kV (ts.getD t.toNat aK) v v.aj.length):=by
 obtain⟨⟨g,i,j,k⟩,b⟩:=(eH _ _ _).1 d;have f:=bd (by omega:t.toNat<ts.length) aK;generalize l:ts.getD t.toNat aK=x at*;rw[Df];simp only[I.aV]
 have:= NY (x:= x) (v:= v) af (λk5=>by
  rcases b with h|h|h|h|h|h|h|h|h
  case inr.inr.inr.inr.inl=>have:=(hG.1 h.2.2.2.2.2.2.2).1;omega
  all_goals (have:=h.1;omega)) (λk6 c=>by
  rcases b with h|h|h|h|h|h|h|h|h
  case inr.inr.inr.inr.inr.inl=>
   obtain⟨a1,a2,a3,a4,a5,a⟩:=h;split at a
   . rename_i m e;exact⟨m,e⟩
   . rw[a.2.2.2.1]at c;cases c
  all_goals (have:=h.1;omega)) (λk6=>H.A x f (.inr k6)) v.aj.length 0 (by omega)
 have h0:nT ((v.aj.length:Int),0,x,v,[])=_:=this;rw[h0];rfl
def zeroV:I:=⟨0,false,0,[],0,[],[],[]⟩
def EL(ts:List ai)(t:Int)(v:I):Prop:=∃b,(b=true↔bX ts true t (cQ v))/\lX ((⟨ts⟩:aT),t,v)=some (if b then(cQ v,true)else(zeroV,false))
theorem NZ{x:ai}{v:I}(af:v.aj.length<=1000)(h:∀i,i<v.aj.length->EL ts (gZ x v i) (v.aj.getD i av)){z0 z2 z4 a0 a2 a4:Int}{z1 a1:Bool}{z3 a3:ak}{ks:List I}:∀(k i:Nat),i+k=v.aj.length->
 (q5 (kV x v v.aj.length,(v.aj.length:Int),(i:Int),ts,v,z0,z1,z2,z3,z4,a0,a1,a2,a3,a4,ks,(v.aj.take i).map cQ)=some (.inr (z0,z1,z2,z3,z4,a0,a1,a2,a3,a4,ks,v.aj.map cQ))/\∀j,i<=j->j<v.aj.length->bX ts true (gZ x v j) (cQ (v.aj.getD j av)))\/
 (q5 (kV x v v.aj.length,(v.aj.length:Int),(i:Int),ts,v,z0,z1,z2,z3,z4,a0,a1,a2,a3,a4,ks,(v.aj.take i).map cQ)=some (.inl (false,0,false,0,[],0))/\∃j,j<v.aj.length/\¬bX ts true (gZ x v j) (cQ (v.aj.getD j av)))
 |0,i,f=>.inl ⟨by rw[q5,b',qk (by omega)],λj h1 d=>by omega⟩
 |k+1,i,f=>by
  have aB:i<v.aj.length:=by omega
  obtain⟨b,b1,b2⟩:=h i aB;rw[q5,br,ae (aP (by rw[Eb];exact aB)),ae (aP aB),aZ,aer x v aB];simp only[I.aV];rw[b2];cases b with
  |false=>exact .inr ⟨rfl,i,aB,λq=>by have:=b1.2 q;cases this⟩
  |true=>
   have e:(v.aj.take i).map cQ++[cQ (v.aj.getD i av)]=(v.aj.take (i+1)).map cQ:=by
    rw[F4,r3,e9 aB,dv aB];rfl
   simp only[aS,ao,b5,c8,I.aV];rw[bw,ae (cO),bC,e];rcases NZ af h (z0:=z0) (z1:=z1) (z2:=z2) (z3:=z3) (z4:=z4) (a0:=a0) (a1:=a1) (a2:=a2) (a3:=a3) (a4:=a4) (ks:=ks) k (i+1) (by omega)with⟨a,c⟩|⟨a,c⟩
   . refine .inl ⟨a,λj h1 d=>?_⟩;by_cases g:j=i
     . subst g;exact b1.1 rfl
     . exact c j (by omega) d
   . exact .inr ⟨a,c⟩
theorem adu{k:I}(g:bX ts false t k)(h1:1<=(ts.getD t.toNat aK).Kind/\(ts.getD t.toNat aK).Kind<=4)(i:qz (ts.getD t.toNat aK) k):bX ts true t k:=by
 obtain⟨⟨a,b,c,l⟩,f⟩:=(eH _ _ _).1 g;rw[eH];rcases f with h|h|h|h|h|h|h|h|h
 . exact⟨⟨a,b,c,λ_=>h.2.2.2.2.2.2⟩,.inl h⟩
 . exact⟨⟨a,b,c,λ_=>h.2.2.2.2.2.2.1⟩,.inr (.inl h)⟩
 . exact⟨⟨a,b,c,λ_=>h.2.2.2.2.2.2.1⟩,.inr (.inr (.inl h))⟩
 . obtain⟨a1,a2,a3,a4,a5,e,d,j⟩:=h;exact⟨⟨a,b,c,λ_=>d⟩,.inr (.inr (.inr (.inl ⟨a1,a2,a3,a4,a5,e,d,.inl (i (by omega))⟩)))⟩
 all_goals (have:=h.1;omega)
theorem M0{k:I}(b:bX ts true t k):qz (ts.getD t.toNat aK) k:=by
 obtain⟨⟨c,d,e,f⟩,a⟩:=(eH _ _ _).1 b;intro g;rcases a with h|h|h|h|h|h|h|h|h
 case inr.inr.inr.inl=>
  rcases h.2.2.2.2.2.2.2 with h|h
  . exact h
  . cases h.2.1
 all_goals (have:=h.1;omega)
theorem abt(x:ai)(v:I)(j:Nat):gZ x (cQ v) j=gZ x v j:=by
 unfold gZ;rw[mT]
theorem LV{l:List I}(h:j<l.length):(l.map cQ).getD j av=cQ (l.getD j av):=by
 rw[dv h,dv (by simpa using h)];simp
theorem abu(H:iM ts)(C:bX ts false t v):bX ts true t (cQ v)↔
 qz (ts.getD t.toNat aK) v/\(∀k,k∈v.ay->qz (ts.getD (ts.getD t.toNat aK).Key.toNat aK) k)/\¬((ts.getD t.toNat aK).Kind=6/\v.aj.length=0)/\∀j,j<v.aj.length->bX ts true (gZ (ts.getD t.toNat aK) v j) (cQ (v.aj.getD j av)):=by
 obtain⟨⟨g,l,n,L⟩,B⟩:=(eH _ _ _).1 C;have G:=bd (by omega:t.toNat<ts.length) aK;constructor
 . intro h;have D:=zD h;have E:=M0 h;have A:(cQ v).ad=v.ad:=by rw[mT]
   have p:(cQ v).ay=v.ay:=by rw[mT]
   have r:(cQ v).aj=v.aj.map cQ:=by rw[mT]
   obtain⟨⟨_,_,f3,f4⟩,s⟩:=(eH _ _ _).1 h;refine⟨λz=>by have:=E z;rwa [A]at this,λk c=>?_,?_,λj o=>?_⟩
   . rcases s with h|h|h|h|h|h|h|h|h
     case inr.inr.inr.inr.inr.inr.inr.inl=>
      have:=h.2.2.2.2.2.2.2.2.1;rw[p]at this;exact M0 (cI.1 this _ c)
     case inr.inr.inr.inr.inr.inl=>have:=h.2.2.2.2.1;rw[p]at this;rw[this]at c;cases c
     case inl=>have:=h.2.2.2.2.1;rw[p]at this;rw[this]at c;cases c
     case inr.inl=>have:=h.2.2.2.2.1;rw[p]at this;rw[this]at c;cases c
     case inr.inr.inl=>have:=h.2.2.2.2.1;rw[p]at this;rw[this]at c;cases c
     case inr.inr.inr.inl=>have:=h.2.2.2.2.1;rw[p]at this;rw[this]at c;cases c
     all_goals (have:=h.2.2.2.2.2.1;rw[p]at this;rw[this]at c;cases c)
   . intro⟨k6,N⟩;rcases s with h|h|h|h|h|h|h|h|h
     case inr.inr.inr.inr.inr.inl=>
      obtain⟨a1,a2,a3,a4,a5,a⟩:=h;split at a
      . have:=a.2.1;rw[r,km]at this;omega
      . cases a.2.1
     all_goals (have:=h.1;omega)
   . have:=D j (by rw[r,km];exact o)
     rwa [abt,r,LV o]at this
 . intro⟨c,F,J,o⟩;rw[mT,eH];dsimp only;generalize M:ts.getD t.toNat aK=x at*;rcases B with h|h|h|h|h|h|h|h|h
   . obtain⟨a1,a2,a3,a4,a5,a,b⟩:=h;rw[bB,a,b];exact⟨⟨g,l,n,λ_=>rfl⟩,.inl ⟨a1,a2,a3,a4,a5,rfl,rfl⟩⟩
   . obtain⟨a1,a2,a3,a4,a5,a,b,d⟩:=h;rw[bB,a,b];exact⟨⟨g,l,n,λ_=>rfl⟩,.inr (.inl ⟨a1,a2,a3,a4,a5,rfl,rfl,d⟩)⟩
   . obtain⟨a1,a2,a3,a4,a5,a,b,d⟩:=h;rw[bB,a,b];exact⟨⟨g,l,n,λ_=>rfl⟩,.inr (.inr (.inl ⟨a1,a2,a3,a4,a5,rfl,rfl,d⟩))⟩
   . obtain⟨a1,a2,a3,a4,a5,a,b,d⟩:=h;rw[bB,a,b];exact⟨⟨g,l,n,λ_=>rfl⟩,.inr (.inr (.inr (.inl ⟨a1,a2,a3,a4,a5,rfl,rfl,.inl (c (by omega))⟩)))⟩
   . obtain⟨a1,a2,a3,a4,a5,a,b,d⟩:=h;rw[ae a1];obtain⟨b1,b2⟩:=hG.1 d;refine⟨⟨g,l,n,λ_=>rfl⟩,.inr (.inr (.inr (.inr (.inl ⟨a1,a2,a3,a4,a5,a,⟨List.Pairwise.nil,λy f=>(by cases f)⟩,hG.2 ⟨by rw[km];exact b1,λi e=>?_⟩⟩))))⟩;have:=o i (by omega);unfold gZ at this;rw[fz]at this;rw[LV (by omega)];exact this
   . obtain⟨a1,a2,a3,a4,a5,a⟩:=h;rw[bB];cases bx:cB x.ah v.ad with
     |none=>
      rw[bx]at a;exact absurd ⟨by omega,by rw[a.2.2.2.1];rfl⟩ J
     |some m=>
      rw[bx]at a;obtain⟨b1,b2,b3⟩:=a;refine⟨⟨g,l,n,λ_=>b1⟩,.inr (.inr (.inr (.inr (.inr (.inl ⟨a1,a2,a3,a4,a5,b1,by rw[km];exact b2,cI.2 λy f=>?_⟩)))))⟩;obtain⟨w,q,rfl⟩:=e'.1 f;obtain⟨i,e,rfl⟩:=e1 q;have:=o i e;unfold gZ at this;rw[bB,fz,bx,dv e]at this;exact this
   . obtain⟨a1,a2,a3,a4,a5,a,b,d,a9⟩:=h;rw[bB];refine⟨⟨g,l,n,λ_=>b⟩,.inr (.inr (.inr (.inr (.inr (.inr (.inl ⟨a1,a2,a3,a4,a5,a,b,by rw[km];exact d,cI.2 λy f=>?_⟩))))))⟩;obtain⟨w,q,rfl⟩:=e'.1 f;obtain⟨i,e,rfl⟩:=e1 q;have:=o i e;unfold gZ at this;rw[bB,bB,dv e]at this;exact this
   . obtain⟨a1,a2,a3,a4,a5,a,b,d,a9,K,u⟩:=h;rw[bB];refine⟨⟨g,l,n,λ_=>a⟩,.inr (.inr (.inr (.inr (.inr (.inr (.inr (.inl ⟨a1,a2,a3,a4,a5,a,b,by rw[km];exact d,cI.2 λy f=>adu (cI.1 a9 y f) (H.qA x G (by omega)) (F y f),cI.2 λy f=>?_,u⟩)))))))⟩;obtain⟨w,q,rfl⟩:=e'.1 f;obtain⟨i,e,rfl⟩:=e1 q;have:=o i e;unfold gZ at this;rw[bB,bB,dv e]at this;exact this
   . obtain⟨a1,a2,a3,a4,a5,a,b,d,a9⟩:=h;rw[bB];refine⟨⟨g,l,n,λ_=>b⟩,.inr (.inr (.inr (.inr (.inr (.inr (.inr (.inr ⟨a1,a2,a3,a4,a5,a,b,by rw[km];exact d,cI.2 λy f=>?_⟩)))))))⟩;obtain⟨w,q,rfl⟩:=e'.1 f;obtain⟨i,e,rfl⟩:=e1 q;have:=o i e;unfold gZ at this;rw[bB,bB,dv e]at this;exact this
theorem aa8(c:bX ts pl t v):v.ay≠[]->0<=(ts.getD t.toNat aK).Key/\(ts.getD t.toNat aK).Key<ts.length:=by
 obtain⟨_,b⟩:=(eH _ _ _).1 c;intro aH;rcases b with h|h|h|h|h|h|h|h|h
 case inr.inr.inr.inr.inr.inr.inr.inl=>
  obtain⟨a1,a2,a3,a4,a5,f,g,i,a9,_⟩:=h;cases a:v.ay with
  |nil=>exact absurd a aH
  |cons k l=>
   have:=cI.1 a9 k (by rw[a];exact .head _);obtain⟨⟨d,e,_⟩,_⟩:=(eH _ _ _).1 this;exact⟨d,e⟩
 case inl=>exact absurd h.2.2.2.2.1 aH
 case inr.inl=>exact absurd h.2.2.2.2.1 aH
 case inr.inr.inl=>exact absurd h.2.2.2.2.1 aH
 case inr.inr.inr.inl=>exact absurd h.2.2.2.2.1 aH
 case inr.inr.inr.inr.inr.inl=>exact absurd h.2.2.2.2.1 aH
 all_goals exact absurd h.2.2.2.2.2.1 aH
theorem aa9(H:E5 ts)(L:bK v):∀t,nw v->bX ts false t v->EL ts t v:=by
 have S:=H.V.hr H.T;induction L with
 |mk v hs h1 r Z ab aa af dc al am an ah M=>
  intro t cX c;obtain⟨ai,l2,ak⟩:=Oc cX c;obtain⟨⟨U,W,X,Y⟩,_⟩:=(eH _ _ _).1 c;have o:t.toNat<ts.length:=by omega
  have G:=bd o aK;have e:=abu S c;have J:=abr S c (by omega);have F:∀i,i<v.aj.length->EL ts (gZ (ts.getD t.toNat aK) v i) (v.aj.getD i av):=λi n=>M _ (bd n av) _ (cX.items _ (bd n av)) (zD c i n);obtain⟨R,s1,y⟩:=K8 (H.T _ G) v;obtain⟨Q,k1,k2⟩:=abq H.T (x:=ts.getD t.toNat aK) (v:=v) (by omega) (aa8 c);generalize l:ts.getD t.toNat aK=x at*;have g:∀(P:Prop),¬bX ts true t (cQ v)->lX ((⟨ts⟩:aT),t,v)=some (zeroV,false)->EL ts t v:=λ_ h1 r=>⟨false,by simp[h1],by rw[r];rfl⟩
  have k:aG t ts.length=true:=by simp[aG];omega
  have K:∀b,(bif decide (x.Kind=6)then decide ((v.aj.length:Int)=0)else false)=b->(b=true↔x.Kind=6/\v.aj.length=0):=by
   intro b D;rw[<-D];by_cases B:x.Kind=6<;>simp[B]
  obtain⟨z,p⟩:∃b,(bif decide (x.Kind=6)then decide ((v.aj.length:Int)=0)else false)=b:=⟨_,rfl⟩
  have u:=K z p;cases R with
  |true=>
   refine g True (λh=>?_) ?_
   . have:=y.2 (e.1 h).1;cases this
   . rw[lX,ae k];simp only[aS,ao,I.aV,l];rw[s1];rfl
  |false=>
   cases Q with
   |true=>
    refine g True (λh=>?_) ?_
    . have:=k2.2 (e.1 h).2.1;cases this
    . rw[lX,ae k];simp only[aS,ao,I.aV,l];rw[s1];simp only[ao,eU,b5];rw[k1];rfl
   |false=>
    cases z with
    |true=>
     refine g True (λh=>(e.1 h).2.2.1 (u.1 rfl)) ?_;rw[lX,ae k];simp only[aS,ao,I.aV,l];rw[s1];simp only[ao,eU,b5];rw[k1,p];rfl
    |false=>
     have cX:=NZ (x:=x) (v:=v) (by omega) F (z0:=0) (z1:=false) (z2:=0) (z3:=[]) (z4:=0) (a0:=v.Kind) (a1:=v.bN) (a2:=v.bc) (a3:=v.bl) (a4:=v.ad) (ks:=v.ay) v.aj.length 0 (by omega)
     have s:∀ f,q5 (kV x v v.aj.length,(v.aj.length:Int),0,ts,v,0,false,0,[],0,v.Kind,v.bN,v.bc,v.bl,v.ad,v.ay,[]) = some f->lX ((⟨ts⟩:aT),t,v) = (match f with
      |.inl d=>some ((⟨d.2.1,d.2.2.1,d.2.2.2.1,d.2.2.2.2.1,d.2.2.2.2.2,[],[],[]⟩:I),d.1)
      |.inr a=>some ((⟨a.2.2.2.2.2.1,a.2.2.2.2.2.2.1,a.2.2.2.2.2.2.2.1,a.2.2.2.2.2.2.2.2.1,a.2.2.2.2.2.2.2.2.2.1,a.2.2.2.2.2.2.2.2.2.2.1,a.2.2.2.2.2.2.2.2.2.2.2,[]⟩:I),true)):=by
      intro f C;rw[lX,ae k];simp only[aS,ao,I.aV,l];rw[s1];simp only[ao,eU,b5];rw[k1,p];simp only[ao,dW];have E:fj 120 v.ay=some v.ay:=by unfold fj;rw[ae (mW (cO (by omega) (by omega)))]
      rw[bw,E];simp only[ao];rw[J];simp only[ao,Eb];rw[C];cases f<;>rfl
     rcases cX with⟨m,A⟩|⟨m,j,N,O⟩
     . have w:bX ts true t (cQ v):=e.2 ⟨y.1 rfl,k2.1 rfl,λh=>(by have:=u.2 h;cases this),λj o=>A j (hR _) o⟩;refine⟨true,by simp[w],?_⟩;rw[s _ m,ae rfl];have ag:(cQ v).Rest=[]:=by
        obtain⟨⟨_,_,_,q⟩,_⟩:=(eH _ _ _).1 w;exact q rfl
       have:(⟨v.Kind,v.bN,v.bc,v.bl,v.ad,v.ay,v.aj.map cQ,[]⟩:I)=cQ v:=by
        rw[mT]at ag⊢;dsimp only at ag;rw[ag]
       show some ((⟨v.Kind,v.bN,v.bc,v.bl,v.ad,v.ay,v.aj.map cQ,[]⟩:I),true)=_;rw[this]
     . refine g True (λh=>O ((e.1 h).2.2.2 j N)) ?_;rw[s _ m];rfl
end
theorem Eu(f:bK v):bK (cQ v):=by
 induction f with
 |mk v hs h1 b c d m e dc j k l n i=>
  rw[mT];have ag:∀x,x∈(if v.Kind=5 then[]else v.Rest)->x∈v.Rest:=λx a=>by
   by_cases bf:v.Kind=5
   . rw[ae bf]at a;cases a
   . rwa [al bf]at a
  refine .mk _ hs h1 (by show(v.aj.map cQ).length<=_;rw[km];exact b) ?_ d (λx a=>?_) (λx a=>e x (ag x a)) dc j k (λx a=>l x (ag x a))
  . show(if v.Kind=5 then[]else v.Rest).length<=_;by_cases bf:v.Kind=5
    . rw[ae bf];exact hR _
    . rw[al bf];exact c
  . obtain⟨w,g,rfl⟩:=e'.1 a;exact i w g
theorem YN(c:bK v):∀t,bX ts true t v->cQ v=v:=by
 induction c with
 |mk v hs h1 e f j g k dc m n o l d=>
  intro t a;obtain⟨⟨_,_,_,ag⟩,_⟩:=(eH _ _ _).1 a;have ag:=ag rfl;have b:v.aj.map cQ=v.aj:=by
   refine B7 (by simp) λi a1 a2=>?_;have:=zD a i a2;rw[dv a2]at this;rw[List.getElem_map];exact d _ (yF a2) _ this
  rw[mT,b,ag];cases v;simp at ag;simp[ag]
theorem aa'(H:E5 ts)(a:bK v)(cX:nw v)(c:bX ts false t v):
 ∃b,(b=true↔bX ts true t (cQ v))/\wB ((⟨ts⟩:aT),t,v)=some (if b then(cQ v,0)else(zeroV,12))/\vC ((⟨ts⟩:aT),t,v)=some (if b then(cQ v,0)else(zeroV,12)):=by
 have S:=H.V.hr H.T;obtain⟨b,b1,b2⟩:=aa9 H a t cX c;obtain⟨_,e⟩:=aa7 H.T H.V a c;obtain⟨v1,_⟩:=pR H.T H.V;obtain⟨⟨s,u,_⟩,_⟩:=(eH _ _ _).1 c;have j:¬(bif decide (t<0)then true else decide ((ts.length:Int)<=t))=true:=by
  have h1:¬t<0:=by omega
  have g:¬(ts.length:Int)<=t:=by omega
  simp[h1,g]
 have l:CZ ((⟨ts⟩:aT),t)=some 0:=by
  rw[CZ];simp only[Kq];rw[v1];simp only[aS,ao];rw[bw,al j]
 have bx:tG ((⟨ts⟩:aT),t,v)=some true:=by
  obtain⟨q,m,o⟩:=ML (by have:=S.n;omega) H.T S.K a t false;obtain⟨x,d,r⟩:=zB (by have:=S.n;omega) H.T S.K a t false;have f:x=q:=by rw[o]at d;exact(mh d).symm
  have k:q=true:=by rw[<-f];exact r.2 c
  rw[tG];simp only[I.aV];rw[m,k];rfl
 have i:Cy ((⟨ts⟩:aT),t,v)=some 0:=by
  rw[Cy];simp only[I.aV];rw[l];simp only[aS,ao];rw[bw,bx];rfl
 refine⟨b,b1,?_,?_⟩
 . rw[wB];simp only[I.aV];rw[i];simp only[aS,ao];rw[bw,b2];cases b<;>simp[zeroV,I.aV]
 . rw[vC];simp only[I.aV];rw[e];simp only[aS,ao];rw[bw,abp a t cX c];simp only[ao,I.aV];obtain⟨q,p,w⟩:=YJ (by have:=S.n;omega) H.T S.K (Eu a) t;rw[p];have:q=b:=by
    cases q<;>cases b<;>simp_all
   subst this;cases q<;>simp[zeroV]
theorem aap(H:c' ts)(c:bK v)(a:bX ts false t v):
 ∃b,(b=true↔bX ts true t (cQ v))/\wB ((⟨ts⟩:aT),t,v)=some (if b then(cQ v,0)else(zeroV,12))/\vC ((⟨ts⟩:aT),t,v)=some (if b then(cQ v,0)else(zeroV,12)):=aa' H.g c (aeq H c a) a
def cg{α c:Type}(f:α->Option c):List α->Option (List c)
 |[]=>some []
 |a::l=>match f a,cg f l with
  |some b,some m=>some (b::m)
  |_,_=>none
def e5{α:Type}:List α->List α
 |a::_::l=>a::e5 l
 |_=>[]
def fh{α:Type}:List α->List α
 |_::b::l=>b::fh l
 |_=>[]
def o0(ks:List I):Bool:=(List.range (ks.length-1)).all λi=>decide (g' (ks.getD i av) (ks.getD (i+1) av)<0)
theorem wa:o0 ks=true↔jP ks:=by
 unfold o0 jP;grind
def cY(ts:List ai):Nat->Int->ak->Option I
 |0,_,_=>none
 |n+1,t,p=>
  let x:=ts.getD t.toNat aK
  if x.Kind=1 then(if p=[]then some ⟨1,false,0,[],0,[],[],[]⟩else if p=[1]then some ⟨1,true,0,[],0,[],[],[]⟩else none)else if x.Kind=2 then(match gD p with
   |some m=>if x.bE<=ia m/\ia m<=x.bH then some ⟨2,false,ia m,[],0,[],[],[]⟩else none
   |none=>none)
  else if x.Kind=3 then(if(p.length:Int)<=x.Max then some ⟨3,false,0,p,0,[],[],[]⟩else none)else if x.Kind=4 then(match gD p with
   |some m=>if 1<=m/\m<=1000/\((x.bh.any λy=>decide (y.ad=(m:Int)))||x.Open)=true then some ⟨4,false,0,[],(m:Int),[],[],[]⟩else none
   |none=>none)
  else if x.Kind=9 then(match p with
   |[]=>some ⟨9,false,0,[],0,[],[],[]⟩
   |c::q=>if c=1 then(cY ts n x.aF q).map λv=>⟨9,false,0,[],0,[],[v],[]⟩else none)
  else if x.Kind=6 then(match jA p with
   |some (id,q)=>(match cB x.ah id with
    |some m=>(cY ts n m.aw q).map λv=>⟨6,false,0,[],id,[],[v],[]⟩
    |none=>if x.Open then some ⟨6,false,0,[],id,[],[],[⟨id,q⟩]⟩else none)
   |none=>none)
  else if x.Kind=7 then(match ib p with
   |some l=>if(l.length:Int)<=x.Max then(cg (cY ts n x.aF) l).map λa=>⟨7,false,0,[],0,[],a,[]⟩else none
   |none=>none)
  else if x.Kind=8 then(match ib p with
   |some l=>if l.length%2 = 0/\((l.length/2:Nat):Int)<=x.Max then (match cg (cY ts n x.Key) (e5 l) with
    |some ks=>if o0 ks then(cg (cY ts n x.aF) (fh l)).map λa=>⟨8,false,0,[],0,ks,a,[]⟩else none
    |none=>none)else none
   |none=>none)
  else(match iI p with
   |some l=>(match cg (λm:aU=>match l.find? (λf=>decide (f.ad = m.ad)) with
    |some f=>cY ts n m.aw f.Data
    |none=>if m.bU then some m.bA else none) x.ah with
    |some a=>if(l.all λf=>(cB x.ah f.ad).isSome || !f.ch) then some ⟨5,false,0,[],0,[],a,(l.filter λf=>!(cB x.ah f.ad).isSome).map λf=>⟨f.ad,f.Data⟩⟩else none
    |none=>none)
   |none=>none)
section
variable {ts:List ai}
def fM(ts:List ai)(b1:ar)(b2:Int)(path:ar)(o:Option I)(r:Option (I×Bool×List ai×ar×Int×ar)):Prop:=
 (∀v,o=some v->r=some (v,true,ts,b1,b2,path))/\(o=none->∃w f1 f2,r=some (w,false,ts,f1,f2,path))
theorem zE(b:path.length<=1000)(a:Int)(b1:ar)(b2:Int):hD (a,ts,b1,b2,path)=some ((⟨0,false,0,[],0,[],[],[]⟩:I),false,ts,a,path,path):=by
 rw[hD];unfold uf fj;rw[ae (mW (cO (by omega) (by omega)))];simp
theorem wb{step:Int}{o:Option I}(e:path.length<=1000)(h:fM ts b1 b2 (path++[step]) o (pn (t,p,ts,b1,b2,path++[step]))):
 fM ts b1 b2 path o (iW (step,t,p,ts,b1,b2,path)):=by
 have key:∀w b f1 f2,pn (t,p,ts,b1,b2,path++[step])=some (w,b,ts,f1,f2,path++[step])->iW (step,t,p,ts,b1,b2,path)=some (w,b,ts,f1,f2,path):=by
  intro w b f1 f2 a;rw[iW];simp only[aS,ao];rw[ae (cO),a];simp only[ao,I.aV];have aN:c9 .i64 ((path++[step]).length:Int) 1=(path.length:Int):=by rw[gS (by simp<;>omega) (by simp<;>omega)];simp
  rw[aN];have d:dN 0 (path.length:Int) (path++[step]).length=true:=ij.2 (by simp;omega);simp_all
 refine⟨λv c=>key _ _ _ _ (h.1 v c),λaH=>?_⟩;obtain⟨w,f1,f2,a⟩:=h.2 aH;exact⟨w,f1,f2,key _ _ _ _ a⟩
theorem qS{c:Type}{f:α->Option c}:∀{l:List α} {m:List c},cg f l=some m->m.length=l.length
 |[],m,h=>by rw[cg]at h;cases h;rfl
 |a::l,m,h=>by
  rw[cg]at h;split at h
  . rename_i b e h1 d;cases h;rw[gA,gA,qS d]
  . cases h
theorem N0{l:List ak}(af:l.length<=90000)(h:∀q,q∈l->∀step b1 b2,fM ts b1 b2 path (f q) (iW (step,x.aF,q,ts,b1,b2,path)))
 {z0 z2 z4 a0 a2 a4:Int}{z1 a1:Bool}{z3 a3:ak}{b1:ar}{b2:Int}:∀(k i:Nat) (acc:List I),i+k=l.length->acc.length=i->
 (∀m,cg f (l.drop i)=some m->sS (l,(l.length:Int),(i:Int),ts,b1,b2,x,z0,z1,z2,z3,z4,a0,a1,a2,a3,a4,path,acc)=some (.inr (ts,b1,b2,z0,z1,z2,z3,z4,a0,a1,a2,a3,a4,path,acc++m)))/\
 (cg f (l.drop i)=none->∃w f1 f2,sS (l,(l.length:Int),(i:Int),ts,b1,b2,x,z0,z1,z2,z3,z4,a0,a1,a2,a3,a4,path,acc)=some (.inl (false,ts,f1,f2,w,path)))
 |0,i,acc,d,c=>by
  rw[sS,b',en (by omega),cg];grind
 |k+1,i,acc,d,c=>by
  have aB:i<l.length:=by omega
  have a:=h _ (bd aB []) (i:Int) b1 b2;have e:l.drop i=l.getD i []::l.drop (i+1):=by rw[dv aB];exact lB aB
  rw[sS,br,ae (aP aB),aZ,e,cg];cases b:f (l.getD i [])with
  |none=>
   obtain⟨w,f1,f2,n⟩:=a.2 b;simp_all
  |some v=>
   rw[a.1 v b];simp only[aS,ao,I.aV,c8];rw[bw,ae (cO),bC];obtain⟨o,j⟩:=N0 af h (z0:=z0) (z1:=z1) (z2:=z2) (z3:=z3) (z4:=z4) (a0:=a0) (a1:=a1) (a2:=a2) (a3:=a3) (a4:=a4) (b1:=b1) (b2:=b2) k (i+1) (acc++[v]) (by omega) (by simp;omega);cases hs:cg f (l.drop (i+1))with
   |none=>exact⟨λm g=>by simp at g,λ_=>j hs⟩
   |some p=>grind
end
theorem DZ{l:List I}{i:Nat}(a:i<l.length):l.set i (l.getD i av)=l:=by simp_all
variable{z1:Bool}{z3:ak}
theorem M1{a0 a2 a4 z0 z2 z4:Int}{l l2:List I}{r:List bW}(af:l.length<=5000000000000)(h:∀y,y∈l->jK y=some y):∀(k i:Nat),i+k=l.length->
 tU ((l.length:Int),(i:Int),a0,a1,a2,a3,a4,z0,z1,z2,z3,z4,l,l2,r)=some (a0,a1,a2,a3,a4,z0,z1,z2,z3,z4,l,l2,r)
 |0,i,a=>by rw[tU,b']
 |k+1,i,a=>by
  have aB:i<l.length:=by omega
  rw[tU,br,ae (aP aB),aZ,br];simp only[I.aV];rw[h _ (bd aB av)];simp only[aS,ao,I.aV];rw[ae (aP aB),br,bC,DZ aB];exact M1 af h k (i+1) (by omega)
theorem M3{a0 a2 a4 z0 z2 z4:Int}{l l2:List I}{r:List bW}(af:l.length<=5000000000000)(h:∀y,y∈l->jK y=some y):∀(k i:Nat),i+k=l.length->
 tV ((l.length:Int),(i:Int),a0,a1,a2,a3,a4,z0,z1,z2,z3,z4,l,l2,r)=some (a0,a1,a2,a3,a4,z0,z1,z2,z3,z4,l2,l,r)
 |0,i,a=>by rw[tV,b']
 |k+1,i,a=>by
  have aB:i<l.length:=by omega
  rw[tV,br,ae (aP aB),aZ,br];simp only[I.aV];rw[h _ (bd aB av)];simp only[aS,ao,I.aV];rw[ae (aP aB),br,bC,DZ aB];exact M3 af h k (i+1) (by omega)
theorem A4:∀l:List I,l.length<=cK l
 |[]=>by simp
 |v::l=>by
  rw[hh,fD,gA];have:=A4 l;omega
theorem N1(l:List bW):l.length<=(l.map λx=>x.Data.length+1).sum:=by
 induction l with
 |nil=>simp
 |cons a l ih=>simp only[gB,oG,gA];omega
theorem wG{k n:Nat}(a:k<=1000:=by omega)(h:n<=1000000000:=by omega):room k n=true:=by
 unfold room hZ dY;simp only[c5,eT];refine⟨?_,by omega⟩;have:(2*n+192)*k<=2000000192*1000:=Nat.mul_le_mul (by omega) a;omega
theorem aba(j:bK v):wt v<=1000000000->jK v=some v:=by
 induction j with
 |mk v hs h1 o p s q t dc A B C m k=>
  intro u;have w:=fD v;have x:=A4 v.ay;have l2:=A4 v.aj;have z:=N1 v.Rest;have kk:∀y,y∈v.ay->jK y=some y:=λy a=>m y a (by have:=fx a;omega);have n:∀y,y∈v.aj->jK y=some y:=λy a=>k y a (by have:=fx a;omega);have f:fj 120 v.ay=some v.ay:=by unfold fj;rw[ae (mW (wG))]
  have g:fj 120 v.aj=some v.aj:=by unfold fj;rw[ae (mW (wG))]
  have i:fj 24 v.Rest=some v.Rest:=by unfold fj;rw[ae (mW (wG))]
  have b:=M1 (a0:=v.Kind) (a1:=v.bN) (a2:=v.bc) (a3:=v.bl) (a4:=v.ad) (z0:=0) (z1:=false) (z2:=0) (z3:=[]) (z4:=0) (l:=v.ay) (l2:=v.aj) (r:=v.Rest) (by omega) kk v.ay.length 0 (by omega);have d:=M3 (a0:=v.Kind) (a1:=v.bN) (a2:=v.bc) (a3:=v.bl) (a4:=v.ad) (z0:=0) (z1:=false) (z2:=0) (z3:=[]) (z4:=0) (l:=v.aj) (l2:=v.ay) (r:=v.Rest) (by omega) n v.aj.length 0 (by omega);have c:tU ((v.ay.length:Int),0,v.Kind,v.bN,v.bc,v.bl,v.ad,0,false,0,[],0,v.ay,v.aj,v.Rest)=_:=b;have e:tV ((v.aj.length:Int),0,v.Kind,v.bN,v.bc,v.bl,v.ad,0,false,0,[],0,v.aj,v.ay,v.Rest)=_:=d;rw[jK,f,g,i];simp only[aS,ao];rw[c];simp only[ao];rw[e];simp only[ao];cases v;rfl
section
variable {ts:List ai}
def xx(ts:List ai)(n:Nat):Prop:=∀(t:Int) (p:ak) (b1:ar) (b2:Int) (path:ar),0<=t->t<ts.length->p.length<=4096->path.length+n=200->
 fM ts b1 b2 path (cY ts n t p) (pn (t,p,ts,b1,b2,path))
theorem jM(a:path.length<=1000)(b:Int)(b1:ar)(b2:Int):fM ts b1 b2 path none (hD (b,ts,b1,b2,path)>>=λr=>some (I.eta r.1,r.2.1,r.2.2.1,r.2.2.2.2.2,r.2.2.2.1,r.2.2.2.2.1)):=by
 refine⟨λv h=>(by cases h),λ_=>?_⟩;rw[zE a];simp_all
theorem FL(c:gQ x.ah)(af:x.ah.length<=1000){m:aU}(bx:cB x.ah id=some m):∃j,j<x.ah.length/\hg (x,id)=some ((j:Int),true)/\x.ah.getD j aC=m:=by
 obtain⟨b,e⟩:=kf bx;obtain⟨r,f,g⟩:=wk (t:=x) (id:=id) (by omega);rcases g with⟨j,a,d,_,rfl⟩|⟨q,_⟩
 . exact⟨j,a,f,rP c (bd a aC) b (by rw[d,e])⟩
 . obtain⟨i,k,rfl⟩:=e1 b;grind
theorem abb(H:iM ts){n:Nat}(ih:xx ts n)(i:x∈ts)(k6:x.Kind=6)(db:∀m,m∈x.ah->0<=m.aw/\m.aw<ts.length)(D:p.length<=4096)(E:path.length+(n+1)=200):
 fM ts b1 b2 path (match jA p with
  |some (id,q)=>(match cB x.ah id with
   |some m=>(cY ts n m.aw q).map λv=>⟨6,false,0,[],id,[],[v],[]⟩
   |none=>if x.Open then some ⟨6,false,0,[],id,[],[],[⟨id,q⟩]⟩else none)
  |none=>none) (C7 (x,p,ts,b1,b2,path)):=by
 obtain⟨o,l,s,u⟩:=I4 p;rw[C7,l];simp only[aS,ao];by_cases h0:o.2.2=0
 . obtain⟨v1,F,v3⟩:=s h0;rw[al (by simp[h0]),v1];dsimp only;obtain⟨f,B⟩:=H.A x i (.inr k6);cases bx:cB x.ah o.1 with
   |some m=>
    obtain⟨j,a,b,k⟩:=FL f (by omega) bx;rw[b];simp only[ao];rw[ae trivial,ae (aP a),aZ,k];obtain⟨t1,t2⟩:=db m (kf bx).1;have c:=wb (step:=o.1) (path:=path) (by omega) (ih m.aw o.2.1 b1 b2 (path++[o.1]) t1 t2 (by omega) (by simp;omega));cases d:cY ts n m.aw o.2.1 with
    |none=>
     obtain⟨w,f1,f2,g⟩:=c.2 d;rw[g];exact⟨λv h=>by simp at h,λ_=>⟨_,_,_,rfl⟩⟩
    |some v=>
     rw[c.1 v d]
     exact⟨λe h=>by
      have:e=⟨6,false,0,[],o.1,[],[v],[]⟩:=(by simpa using h.symm);rw[this]
      simp[I.aV,k6],λh=>by simp at h⟩
   |none=>
    obtain⟨r,y,z⟩:=wk (t:=x) (id:=o.1) (by omega);have ag:r=(0,false):=by
     rcases z with⟨j,a,b,_,_⟩|⟨_,q⟩
     . exact absurd b (nW bx _ (bd a aC))
     . exact q
    rw[y,ag];cases C:x.Open with
    |false=>
     simp only[ao,bY,b6,eU,b5,eq_self];exact jM (by omega) _ _ _
    |true=>
     simp only[ao,bY,b6,c8,b5,eq_self];exact⟨λe h=>(by cases h;rw[k6]),λh=>(by cases h)⟩
 . rw[ae (by simp[h0]),u h0];exact jM (by omega) _ _ _
end
theorem LW{l:List α}(h:2*j+1<l.length)(d:α):e5 (l.drop (2*j))=l.getD (2*j) d::e5 (l.drop (2*(j+1))):=by
 rw[lB (by omega:2*j<l.length),lB h,e5,dv (by omega)];rfl
theorem M4{l:List α}(h:2*j+1<l.length)(d:α):fh (l.drop (2*j))=l.getD (2*j+1) d::fh (l.drop (2*(j+1))):=by
 rw[lB (by omega:2*j<l.length),lB h,fh,dv h];rfl
theorem QG{i:Nat}(h:i<1000000):aM .i64 (i:Int) 2=((i+2:Nat):Int):=by
 have:=wU (a:=i) (b:=2) (by omega);exact this
section
variable {ts:List ai}
theorem N2{l:List ak}(af:l.length<=90000)(he:l.length%2=0)(h:∀q,q∈l->∀step b1 b2,fM ts b1 b2 path (f q) (iW (step,x.Key,q,ts,b1,b2,path)))
 {z0 z2 z4 a0 a2 a4:Int}{z1 a1:Bool}{z3 a3:ak}{b1:ar}{b2:Int}:∀(k j:Nat) (acc:List I),2*(j+k)=l.length->acc.length=j->
 (∀m,cg f (e5 (l.drop (2*j)))=some m->sO (l,((2*j:Nat):Int),ts,b1,b2,x,z0,z1,z2,z3,z4,a0,a1,a2,a3,a4,path,acc)=some (.inr (l,ts,b1,b2,x,z0,z1,z2,z3,z4,a0,a1,a2,a3,a4,path,acc++m)))/\
 (cg f (e5 (l.drop (2*j)))=none->∃w f1 f2,sO (l,((2*j:Nat):Int),ts,b1,b2,x,z0,z1,z2,z3,z4,a0,a1,a2,a3,a4,path,acc)=some (.inl (false,ts,f1,f2,w,path)))
 |0,j,acc,e,d=>by
  rw[sO,b',en (by omega),show e5 ([]:List ak)=[]from rfl,cg];grind
 |k+1,j,acc,e,d=>by
  have aB:2*j<l.length:=by omega
  have a:=h _ (bd aB []) (fC .i64 ((2*j:Nat):Int) 2) b1 b2;rw[sO,br,ae (aP aB),aZ,LW (by omega) [],cg];cases b:f (l.getD (2*j) [])with
  |none=>
   obtain⟨w,f1,f2,n⟩:=a.2 b;simp_all
  |some v=>
   rw[a.1 v b];simp only[aS,ao,I.aV,c8];rw[bw,ae (cO),QG (by omega)];obtain⟨o,i⟩:=N2 af he h (z0:=z0) (z1:=z1) (z2:=z2) (z3:=z3) (z4:=z4) (a0:=a0) (a1:=a1) (a2:=a2) (a3:=a3) (a4:=a4) (b1:=b1) (b2:=b2) k (j+1) (acc++[v]) (by omega) (by simp;omega);have c:2*j+2=2*(j+1):=(by omega);rw[c];cases hs:cg f (e5 (l.drop (2*(j+1))))with
   |none=>exact⟨λm g=>by simp at g,λ_=>i hs⟩
   |some p=>grind
theorem M5{l:List ak}(af:l.length<=90000)(he:l.length%2=0)(h:∀q,q∈l->∀step b1 b2,fM ts b1 b2 path (f q) (iW (step,x.aF,q,ts,b1,b2,path)))
 {z0 z2 z4 a0 a2 a4:Int}{z1 a1:Bool}{z3 a3:ak}{b1:ar}{b2:Int}{ks:List I}:∀(k j:Nat) (acc:List I),2*(j+k)=l.length->acc.length=j->
 (∀m,cg f (fh (l.drop (2*j)))=some m->sP (l,((2*j+1:Nat):Int),ts,b1,b2,x,z0,z1,z2,z3,z4,a0,a1,a2,a3,a4,path,ks,acc)=some (.inr (ts,b1,b2,z0,z1,z2,z3,z4,a0,a1,a2,a3,a4,path,ks,acc++m)))/\
 (cg f (fh (l.drop (2*j)))=none->∃w f1 f2,sP (l,((2*j+1:Nat):Int),ts,b1,b2,x,z0,z1,z2,z3,z4,a0,a1,a2,a3,a4,path,ks,acc)=some (.inl (false,ts,f1,f2,w,path)))
 |0,j,acc,e,d=>by
  rw[sP,b',en (by omega),show fh ([]:List ak)=[]from rfl,cg];grind
 |k+1,j,acc,e,d=>by
  have aB:2*j+1<l.length:=by omega
  have a:=h _ (bd aB []) (fC .i64 ((2*j+1:Nat):Int) 2) b1 b2;rw[sP,br,ae (aP aB),aZ,M4 aB [],cg];cases b:f (l.getD (2*j+1) [])with
  |none=>
   obtain⟨w,f1,f2,n⟩:=a.2 b;simp_all
  |some v=>
   rw[a.1 v b];simp only[aS,ao,I.aV,c8];rw[bw,ae (cO),QG (by omega)];obtain⟨o,i⟩:=M5 af he h (z0:=z0) (z1:=z1) (z2:=z2) (z3:=z3) (z4:=z4) (a0:=a0) (a1:=a1) (a2:=a2) (a3:=a3) (a4:=a4) (b1:=b1) (b2:=b2) (ks:=ks) k (j+1) (acc++[v]) (by omega) (by simp;omega);have c:2*j+1+2=2*(j+1)+1:=(by omega);rw[c];cases hs:cg f (fh (l.drop (2*(j+1))))with
   |none=>exact⟨λm g=>by simp at g,λ_=>i hs⟩
   |some p=>grind
end
end
end Go.Proofs.YtdjagncoefjfeaaGreat
