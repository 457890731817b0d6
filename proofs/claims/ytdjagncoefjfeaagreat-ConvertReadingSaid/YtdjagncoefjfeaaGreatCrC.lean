/- The functions of the program as functions of Lean, that its code does what they say, and what they answer; part C. -/
import Derived.Test.YtdjagncoefjfeaaGreatCrB

namespace Go.Proofs.YtdjagncoefjfeaaGreat
set_option linter.all false
section
open Go Go.Proofs.YtdjagncoefjfeaaGreat.Shv Go.Sort
set_option maxRecDepth 100000
def lE(v:I):Prop:=(v.Kind=1\/v.bL=false)/\(v.Kind=2\/v.bf=0)/\(v.Kind=3\/v.bn=[])/\((v.Kind=4\/v.Kind=6)\/v.ad=0)/\(v.Kind=8\/v.aw=[])/\(5<=v.Kind\/v.ai=[])/\((v.Kind=5\/v.Kind=6)\/v.Rest=[])
theorem aax(v:I):dk (tK v) (lE v):=by
 rw[tK];refine .of ?_;unfold lE;have e:∀{α:Type} (l:List α),((l.length:Int)=0)↔l=[]:=λl=>by simp_all
 grind
variable{o:Option Bool}{P:Prop}{id t code b2:Int}{v:I}{α:Type}{Ms ms:List aR}{x:ah}{w j c a:Nat}{ts:List ah}{odd pl a1:Bool}{p a3:aj}{ks:List I}{path b1:aq}{f:aj->Option I}
variable{Q:Prop}{z3:aj}{z1:Bool}
theorem aeu{z b:Bool}{c:Prop}(d:z=true↔c)(a:b=false↔Q)(e:dk o P):dk (if(bif (bif false then true else(!z))then true else b)then some false else o) (c/\Q/\P):=by
 obtain⟨r,rfl,h⟩:=e;cases z with
 |false=>
  refine⟨false,rfl,?_⟩;grind
 |true=>
  cases b with
  |true=>refine⟨false,rfl,?_⟩;simp at a;simp[a]
  |false=>refine⟨r,rfl,?_⟩;simp at d a;simp[d,a,h]
theorem uS{q:Bool}(c:q=true↔Q)(a:dk o P):dk (some q>>=λt244=>(if t244 then o else some false)>>=λb=>some (bif t244 then b else false)) (Q/\P):=by
 obtain⟨r,rfl,h⟩:=a;refine⟨q&&r,by cases q<;>cases r<;>rfl,?_⟩;grind
theorem aec{A:Bool}{f L:Option Bool}{c e d:Prop}(a:A=true↔c)(j:dk f e)(g:A=true->dk L d):
 dk (some (!A)>>=λt107=>(if !t107 then f else some false)>>=λk=>if(bif t107 then true else(!k)) then some false else L) (c/\e/\d):=by
 obtain⟨q,rfl,b⟩:=j;cases A with
 |false=>refine⟨false,rfl,?_⟩;simp at a;simp[a]
 |true=>
  obtain⟨m,rfl,i⟩:=g rfl;cases q with
  |false=>refine⟨false,rfl,?_⟩;simp at b;simp[b]
  |true=>refine⟨m,rfl,?_⟩;simp at a b;simp[a,b,i]
theorem aed{c:Bool}{j g L:Option Bool}{d e oL f:Prop}(m:c=false↔d)(b:dk j e)(a:dk g oL)(l:dk L f):
 dk (some c>>=λt239=>(if !t239 then j else some false)>>=λo=>some (bif t239 then true else(!o))>>=λt249=>(if !t249 then g else some false)>>=λp=>if(bif t249 then true else(!p)) then some false else L) (d/\e/\oL/\f):=by
 obtain⟨k,rfl,b⟩:=b;obtain⟨i,rfl,a⟩:=a;obtain⟨q,rfl,n⟩:=l;rw[<-m,<-b,<-a,<-n];cases c<;>cases k<;>cases i<;>exact⟨_,rfl,by simp⟩
theorem DH{l:List c4}{r:Int×Bool}(h:wM l id r):r.2=true↔∃y,y∈l/\y.ad=id:=by
 rcases h with⟨j,h1,b,c,rfl⟩|⟨h1,rfl⟩
 . grind
 . constructor
   . grind
   . rintro ⟨y,a,he⟩
     obtain⟨i,d,rfl⟩:=e5 a;grind
section
variable {ts:List ah}(aE:ts.length<9223372036854775807)(c8:∀t,t∈ts->e3 t)(bD:∀t,t∈ts->oh t.Kind)
include aE c8 bD in
theorem Ag(aC:bK v):EB ts v:=by
 induction aC with
 |mk v hs h1 aa ab az aJ aK c9 aL aM aO aE X=>
  intro t pl;rw[iK];by_cases ag:(bif decide (t<0)then true else decide (((⟨ts⟩:aS).Types.length:Int)<=t))=true
  . rw[ae ag];refine⟨false,rfl,?_⟩;rw[eL];grind
  . rw[ak ag];have ax:0<=t/\t<ts.length:=(by grind);obtain⟨j,rfl⟩:∃j:Nat,t=(j:Int):=⟨t.toNat,by omega⟩
    have T:j<ts.length:=(by omega);rw[ae (aQ T)];simp only[eL,bc,I.aU];have V:=c8 _ (bg T aN);have U:=bD _ (bg T aN);generalize ts.getD j aN=x at V U⊢;have F:=dB (iv V.gY);have ah:=dB (iv V.syms);by_cases D:v.Kind=x.Kind
    . obtain⟨z,z1,z2⟩:=aax v;have Q:=Mk (ts:=ts) aa X;have aA:=Mk (ts:=ts) h1 aE;show dk ((if !(!(v.Kind=x.Kind:Bool)) then tK v else some false)>>=_) _;rw[ae (by simp[D]),z1];obtain⟨K,N,L,H,M,S,Ms,u,E,l⟩:=x;obtain⟨n,B,cA,w,ad,p,i,R⟩:=v;simp only at D;subst D;simp only at U F ah h1 aa ab z1;have J:(bif pl then decide (0<(R.length:Int))else false)=false↔(pl=true->R=[]):=(by simp_all);have ar:n=1\/n=2\/n=3\/n=4\/n=5\/n=6\/n=7\/n=8\/n=9:=by unfold oh at U;omega
      have cut:∀ {o:Option Bool} {P W:Prop},dk o P->((lE ⟨n,B,cA,w,ad,p,i,R⟩/\(pl = true->R = [])/\P) ↔ W)->
       dk (some z>>=λr=>if(bif (bif false then true else(!r))then true else bif pl then (0<(R.length:Int):Bool)else false) then some false else o) W:=λaB aD=>(aeu z2 J aB).imp aD
      have s:(0:Int)<=j/\(j:Int)<ts.length:=ax;rcases ar with rfl|rfl|rfl|rfl|rfl|rfl|rfl|rfl|rfl
      . exact cut (P:=True) (.of (b:=true) (by simp)) (by unfold lE;simp[s];grind)
      . exact cut (P:=L<=cA/\cA<=H) (.of (b:=bif decide (L<=cA)then decide (cA<=H)else false) (by by_cases g:L<=cA<;>simp[g])) (by unfold lE;simp[s];grind)
      . exact cut (P:=(w.length:Int)<=M) (.of (b:=decide ((w.length:Int)<=M)) (by simp)) (by unfold lE;simp[s];grind)
      . obtain⟨r,_,Y,O⟩:=qW (t:=⟨4,N,L,H,M,S,Ms,u,E,l⟩) ad ah;have af:jv (ad,false)=some (bif decide (1<=ad)then decide (ad<=1000)else false):=(by rfl);have an:=Ff Y l pl _ (λb=>jv (ad,b)) af;have hs:=DH O;simp only at hs;refine cut (P:=(∃y,y∈S/\y.ad=ad)\/l=true/\pl=false/\cj ad) ⟨_,an,?_⟩ (by unfold lE;simp[s];grind);rw[<-hs];unfold cj;grind
      . refine cut (P:=i.length=Ms.length/\jU Ms R/\hC ts pl Ms i) ?_ (by
         have:hC ts pl Ms i->i.length=Ms.length:=λh=>(h9.1 h).1
         unfold lE;simp[s];grind)
        exact aec (A:=decide ((i.length:Int)=(Ms.length:Int))) (by simp;omega) (aav (t:=⟨5,N,L,H,M,S,Ms,u,E,l⟩) F ab) (λao=>ZY (ts:=ts) (t:=⟨5,N,L,H,M,S,Ms,u,E,l⟩) (v:=⟨5,B,cA,w,ad,p,i,R⟩) (Kk ao) F X pl)
      . obtain⟨r,_,Y,O⟩:=mI (t:=⟨6,N,L,H,M,S,Ms,u,E,l⟩) ad F;have af:∀b,b=false->jv (ad,b)=some (bif decide (1<=ad)then decide (ad<=1000)else false):=by
         intro b J;subst J;rfl
        have ap:decide ((R.length:Int)=1)=true->aH 0 R.length=true:=by
         intro h;have:=gZ h;exact aQ (k:=0) (by omega)
        refine cut (P:=match cz Ms ad with
         |some m=>R=[]/\i.length=1/\e7 ts pl m.av i
         |none=>l=true/\pl=false/\cj ad/\i=[]/\∃d,R=[⟨ad,d⟩]) ?_ (by
          unfold lE;simp[s]
          grind)
        obtain⟨aP,kq⟩:=r;show dk (hJ (⟨6,N,L,H,M,S,Ms,u,E,l⟩,ad)>>=_) _;rw[Y];rcases tj O with⟨e,k,ai,aj,C,aF⟩|⟨e,C⟩
        . simp only at e ai aj C aF;subst e;subst aj;rw[C];have aq:∃f:Bool,((bif decide ((i.length:Int)=1)then decide ((R.length:Int)=0)else false)=true->iK ((⟨ts⟩:aS),(Ms.getD (k:Int).toNat ay).av,i.getD (0:Int).toNat au,pl)=some f)/\(i.length=1->(f=true↔e7 ts pl (Ms.getD k ay).av i)):=by
           by_cases G:i.length=1
           . obtain⟨f,f1,f2⟩:=X (i.getD 0 au) (bg (by omega:0<i.length) au) (Ms.getD k ay).av pl;refine⟨f,λ_=>f1,λ_=>?_⟩;rw[f2]
             match i,G with
             |[y],_=>rw[cN];simp
           . refine⟨false,λh=>?_,λh=>absurd h G⟩;grind
          obtain⟨f,f1,f2⟩:=aq;have aw:(bif decide ((i.length:Int)=1)then decide ((R.length:Int)=0)else false)=true->aH (k:Int) Ms.length=true/\aH 0 i.length=true:=by
           intro aI;refine⟨aQ ai,?_⟩;by_cases G:i.length=1
           . exact aQ (k:=0) (by omega)
           grind
          refine⟨_,Fg _ (aH (k:Int) Ms.length) (aH 0 i.length) f f1 aw,?_⟩;by_cases Z:i.length=1
          . simp_all
          grind
        . simp only at e C;subst e;rw[C];refine⟨_,Fh (bif l then(!pl)else false) (bif decide (1<=ad)then decide (ad<=1000)else false) (decide ((i.length:Int)=0)) (decide ((R.length:Int)=1)) (aH 0 R.length) (decide ((R.getD (0:Int).toNat b5).ad=ad)) ap,?_⟩;unfold cj
          match R with
          |[]=>simp
          |[⟨aG,rd⟩]=>cases l<;>cases pl<;>by_cases Z:1<=ad<;>by_cases al:ad<=1000<;>cases i<;>by_cases am:aG=ad<;>simp[Z,al,am]<;>omega
          |a::b::c=>simp;omega
      . exact cut (P:=(i.length:Int)<=M/\e7 ts pl E i) (uS (by simp) (Q E pl)) (by unfold lE;simp[s];grind)
      . refine cut (P:=((p.length:Int)<=M/\i.length=p.length)/\e7 ts pl u p/\e7 ts pl E i/\jS p) ?_ (by unfold lE;simp[s];grind);refine aed (c:=bif decide (M<(p.length:Int))then true else(!(decide ((i.length:Int)=(p.length:Int))))) ?_ (aA u pl) (Q E pl) (aaw (v:=⟨8,B,cA,w,ad,p,i,R⟩) (dB h1) az);grind
      . exact cut (P:=i.length<=1/\e7 ts pl E i) (uS (q:=decide ((i.length:Int)<=1)) (by simp;omega) (Q E pl)) (by unfold lE;simp[s];grind)
    . refine⟨false,by simp[D],?_⟩;grind
end
theorem agT{n:Nat}(h:n<=70368744177664):room 1 n=true:=by
 unfold room kf eH;grind
theorem OO{n:Nat}(h:n<=2199023255552:=by simp;omega):room 24 n=true:=by
 unfold room kf eH;grind
theorem bws{s b:aj}(h:b.length+s.length<=70368744177664:=by omega):sY (s,b)=some ((s.length:Int),b++s):=by
 rw[sY];simp only[aT,ao];rw[hT,ae (agT h)];rfl
theorem EM(b:aj):yO b=some b:=by rw[yO,ae (by simp[hR])]
theorem zB(a b:Nat):iz (a:Int) (b:Int)=((max a b:Nat):Int):=by unfold iz;omega
theorem eB{l:List α}{i:Nat}(h:i<l.length)(d:α):l.drop i=l.getD i d::l.drop (i+1):=by simp_all
def ix(f:Fd):gC:=⟨(f.id:Int),f.text⟩
theorem ZZ{m:aR}(a:bK m.bu)(v:I):C1 (m,v)=some (c7 m v):=by
 rw[C1];unfold c7;cases c:m.bZ with
 |false=>simp
 |true=>
  obtain⟨r,h1,b⟩:=K3 a v;simp only[I.aU];grind
theorem On{m:aR}(a:bK v)(c:m.bZ=true):jM (v,m.bu)=some (c7 m v):=by
 obtain⟨r,h1,b⟩:=Ea a m.bu;rw[h1];unfold c7;grind
section
variable {ts:List ah}
def oO(ts:List ah)(x:I)(t:Int):Prop:=∀L D:Nat,1<=L->L+wt x<=1125899906842624->j8 (t,x,(L:Int),ts,(D:Int))=some (br ts t x,ts,((max D (L+dL ts t x-1):Nat):Int))
theorem Lj:∀{ms:List aR} {l:List I},(dd ts ms l).length<=ms.length
 |[],l=>by
  rw[dd]
  . simp
  grind
 |m::ms,[]=>by
  rw[dd]
  . simp
  grind
 |m::ms,v::l=>by
  rw[dd];have:=Lj (ms:=ms) (l:=l);grind
theorem qF(t:Int)(v:I):1<=dL ts t v:=by
 cases v;rw[dL];omega
theorem OP(p:Ms.length<=1000)(c:∀m,m∈Ms->bK m.bu)(d:∀m,m∈Ms->cj m.ad)(af:v.ai.length=Ms.length)(e:∀x,x∈v.ai->∀t,(br ts t x).length<=70368744177664)
 (g:∀i,i<Ms.length->c7 (Ms.getD i ay) (v.ai.getD i au)=false->oO ts (v.ai.getD i au) (Ms.getD i ay).av)(L:Nat)(l:1<=L)(o:L+cK v.ai<1125899906842624):
 ∀(k i:Nat) (D:Nat) (acc:List gC),i+k=Ms.length->L<=D->acc.length+k<=100000->
 rb ((L:Int),Ms,(Ms.length:Int),(i:Int),ts,(D:Int),v,acc)=some (ts,((max D (L+fD ts (Ms.drop i) (v.ai.drop i)):Nat):Int),v,acc++(dd ts (Ms.drop i) (v.ai.drop i)).map ix)
 |0,i,D,acc,r,j,q=>by
  rw[rb,cp,I.aU,en (by omega:Ms.length<=i)];rw[fD,dd]
  . simp;omega
  . grind
  grind
 |k+1,i,D,acc,r,j,q=>by
  have aC:i<Ms.length:=by omega
  have a:i<v.ai.length:=by omega
  rw[rb,bz,ae (aQ aC)];simp only[aT,ao,bc,I.aU,jz];rw[ae (aQ a),ZZ (c _ (bg aC ay))];rw[eB aC ay,eB a au,fD,dd];have u:=OP p c d af e g L l o k (i+1);cases s:c7 (Ms.getD i ay) (v.ai.getD i au)with
  |true=>
   simp only[ao,dn,bV,b7,bS];rw[bH];grind
  |false=>
   have f:v.ai.getD i au∈v.ai:=bg a au;have z:=e' f;have dm:=g i aC s (L+1) D (by omega) (by omega);have w:=qF (ts:=ts) (Ms.getD i ay).av (v.ai.getD i au);have b:=d _ (bg aC ay);obtain⟨n,aE⟩:∃n:Nat,(Ms.getD i ay).ad=(n:Int):=⟨(Ms.getD i ay).ad.toNat,by unfold cj at b;omega⟩
   simp only[ao,eN,bS,bV,b7];have y:=e _ f (Ms.getD i ay).av;have aI:aM .i64 (L:Int) 1=((L+1:Nat):Int):=bH;rw[ae (aQ a),aI,dm];simp only[ao];rw[aE,H5 (by unfold cj at b;omega)];simp only[ao];rw[ae (OO),bH,u _ _ (by omega) (by omega) (by simp;omega)];have:(⟨(n:Int),fa n (Ms.getD i ay).cf (br ts (Ms.getD i ay).av (v.ai.getD i au))⟩:gC)=ix ⟨(n:Int).toNat,(Ms.getD i ay).cf,br ts (Ms.getD i ay).av (v.ai.getD i au)⟩:=(by rfl);simp_all
theorem OQ{R:List bX}(b:∀x,x∈R->cj x.ad/\x.Data.length<=reachBytes)(c:R.length<=2199023255552)(D:Int):∀(k i:Nat) (acc:List gC),i+k=R.length->acc.length+k<=2199023255552->
 q' (R,(R.length:Int),(i:Int),ts,D,acc)=some (ts,D,acc++((R.drop i).map j0).map ix)
 |0,i,acc,f,d=>by
  rw[q',cp,en (by omega:R.length<=i)];simp
 |k+1,i,acc,f,d=>by
  have aC:i<R.length:=by omega
  obtain⟨a,e⟩:=b _ (bg aC b5);obtain⟨n,aE⟩:∃n:Nat,(R.getD i b5).ad=(n:Int):=⟨(R.getD i b5).ad.toNat,by unfold cj at a;omega⟩
  unfold reachBytes at e;rw[q',bz,ae (aQ aC)];simp only[aT,ao,bc];rw[aE,H5 (by unfold cj at a;omega)];simp only[ao];rw[ae (OO),bH,OQ b c D k (i+1) _ (by omega) (by simp;omega),eB aC b5];have:(⟨(n:Int),fa n false (R.getD i b5).Data⟩:gC)=ix (j0 (R.getD i b5)):=by
   show _=(⟨(((R.getD i b5).ad.toNat:Nat):Int),fa (R.getD i b5).ad.toNat false (R.getD i b5).Data⟩:gC);grind
  grind
theorem OR{l:List Fd}(D:Int):∀(k i:Nat) (b:aj),i+k=l.length->l.length<=2199023255552->b.length+((l.drop i).flatMap Fd.text).length<=70368744177664->
 ra ((l.length:Int),(i:Int),ts,D,l.map ix,b)=some (ts,D,b++(l.drop i).flatMap Fd.text)
 |0,i,b,c,_,a=>by
  rw[ra,cp,en (by omega:l.length<=i)];simp
 |k+1,i,b,c,af,a=>by
  have aC:i<l.length:=by omega
  rw[ra,bz,ae (aQ (by simp;omega)),bz];rw[eB aC default]at a⊢;simp only[eX,cJ]at a⊢;have al:(l.map ix).getD i vv=ix (l.getD i default):=ia ix l i default vv aC;simp only[bc,al];have:(ix (l.getD i default)).text=(l.getD i default).text:=rfl;rw[this,bws];simp only[aT,ao];rw[bH,OR D k (i+1) _ (by omega) af (by rw[cJ];omega)];simp
end
structure iV (ts:List ah):Prop where
 n:ts.length<=1000
 T:∀t,t∈ts->e3 t
 K:∀t,t∈ts->oh t.Kind
 M:PW ts
 A:∀x,x∈ts->(x.Kind=5\/x.Kind=6)->gT x.ag/\x.ag.length<=16
 S:∀x,x∈ts->x.Kind=4->∀y,y∈x.bj->cj y.ad
 qo:∀x,x∈ts->x.Kind=8->1<=(ts.getD x.Key.toNat aN).Kind/\(ts.getD x.Key.toNat aN).Kind<=4
section
variable {ts:List ah}
theorem uy{t:Int}{v:I}(h:(ts.getD t.toNat aN).Kind=1):br ts t v=if v.bL then[1]else[]:=by cases v;rw[br];simp only[h];rfl
theorem uz{t:Int}{v:I}(h:(ts.getD t.toNat aN).Kind=2):br ts t v=fe (fF v.bf).toNat:=by cases v;rw[br];simp only[h];rfl
theorem uA{t:Int}{v:I}(h:(ts.getD t.toNat aN).Kind=3):br ts t v=v.bn:=by cases v;rw[br];simp only[h];rfl
theorem uB{t:Int}{v:I}(h:(ts.getD t.toNat aN).Kind=4):br ts t v=fe v.ad.toNat:=by cases v;rw[br];simp only[h];rfl
theorem w3{t:Int}{v:I}(h:(ts.getD t.toNat aN).Kind=5):br ts t v=(gX fp (fk ts (ts.getD t.toNat aN).ag v.ai v.Rest)).flatMap Fd.text:=by cases v;rw[br];simp only[h];rfl
theorem uC{t:Int}{v:I}(h:(ts.getD t.toNat aN).Kind=6):br ts t v=dM v.ad.toNat++(match cz (ts.getD t.toNat aN).ag v.ad with
 |some m=>(bF ts m.av v.ai).headD []
 |none=>(v.Rest.map bX.Data).headD []):=by
 cases v;rw[br];simp only[h];rfl
theorem uD{t:Int}{v:I}(h:(ts.getD t.toNat aN).Kind=7):br ts t v=(bF ts (ts.getD t.toNat aN).aG v.ai).flatMap dg:=by cases v;rw[br];simp only[h];rfl
theorem uE{t:Int}{v:I}(h:(ts.getD t.toNat aN).Kind=8):br ts t v=gj (bF ts (ts.getD t.toNat aN).Key v.aw) (bF ts (ts.getD t.toNat aN).aG v.ai):=by cases v;rw[br];simp only[h];rfl
theorem uF{t:Int}{v:I}(h:(ts.getD t.toNat aN).Kind=9):br ts t v=match bF ts (ts.getD t.toNat aN).aG v.ai with
 |[]=>[]
 |p::_=>1::p:=by
 cases v;rw[br];simp only[h];rfl
theorem tF(t:Int)(v:I):dL ts t v=1+max (if v.aw=[]then 0 else 1) (if(ts.getD t.toNat aN).Kind=5 then fD ts (ts.getD t.toNat aN).ag v.ai
 else if(ts.getD t.toNat aN).Kind=6 then(match cz (ts.getD t.toNat aN).ag v.ad with
  |some m=>dR ts m.av v.ai
  |none=>0)
 else dR ts (ts.getD t.toNat aN).aG v.ai):=by
 cases v;rw[dL];try rfl
theorem zV{t:Int}{v:I}(c:v.aw=[])(b:v.ai=[]):dL ts t v=1:=by
 rw[tF,c,b];have h1:dR ts (ts.getD t.toNat aN).aG []=0:=by rw[dR]
 have a:fD ts (ts.getD t.toNat aN).ag []=0:=by rw[fD];intros;simp_all
 rw[h1,a]
 have d:(match cz (ts.getD t.toNat aN).ag v.ad with
  |some m=>dR ts m.av []
  |none=>0)=0:=by
  split
  . rw[dR]
  . rfl
 grind
theorem Lk(b:¬x.Kind=8)(d:∀y,y∈v.ai->(br ts x.aG y).length<=1000000000000000)(e:∀y,y∈v.ai->oO ts y x.aG)(af:v.ai.length<=reachBytes)(L:Nat)(g:1<=L)(j:L+cK v.ai<1125899906842624):
 ∀(k i D:Nat) (acc:aj),i+k=v.ai.length->L<=D->acc.length+((bF ts x.aG (v.ai.drop i)).flatMap dg).length<=70368744177664->
 lI ((L:Int),v.ai,(v.ai.length:Int),(i:Int),ts,(D:Int),v,x,acc)=some (ts,((max D (L+dR ts x.aG (v.ai.drop i)):Nat):Int),acc++(bF ts x.aG (v.ai.drop i)).flatMap dg)
 |0,i,D,acc,l,f,c=>by
  rw[lI,cp,en (by omega:v.ai.length<=i),dR,bF];simp;omega
 |k+1,i,D,acc,l,f,c=>by
  have aC:i<v.ai.length:=by omega
  have o:=dB af;have a:v.ai.getD i au∈v.ai:=bg aC au;have p:=e' a;rw[eB aC au,bF,eX,cJ]at c;have n:=d _ a;have dm:=e _ a (L+1) D (by omega) (by omega);have m:=qF (ts:=ts) x.aG (v.ai.getD i au);have aI:aM .i64 (L:Int) 1=((L+1:Nat):Int):=bH;rw[lI,bz,ae (aQ aC)];simp only[aT,ao,bc,I.aU];rw[ak (by simp[b]),aI,dm];simp only[ao];rw[Ds];simp only[ao];rw[bws];simp only[ao];rw[bH,Lk b d e af L g j k (i+1) _ _ (by omega) (by omega) (by rw[cJ];omega),eB aC au,dR,bF,eX,hz];grind
theorem Ml(d:x.Kind=8)(r:v.ai.length=v.aw.length)(g:∀y,y∈v.ai->(br ts x.aG y).length<=1000000000000000)(j:∀y,y∈v.aw->(br ts x.Key y).length<=1000000000000000)
 (l:∀y,y∈v.ai->oO ts y x.aG)(m:∀y,y∈v.aw->oO ts y x.Key)(h1:∀y,y∈v.aw->dL ts x.Key y=1)(af:v.ai.length<=reachBytes)(L:Nat)(o:1<=L)(p:L+cK v.ai+cK v.aw<1125899906842624):
 ∀(k i D:Nat) (acc:aj),i+k=v.ai.length->L<=D->acc.length+(gj (bF ts x.Key (v.aw.drop i)) (bF ts x.aG (v.ai.drop i))).length<=70368744177664->
 lI ((L:Int),v.ai,(v.ai.length:Int),(i:Int),ts,(D:Int),v,x,acc)=some (ts,((max D (L+max (if v.aw.drop i=[]then 0 else 1) (dR ts x.aG (v.ai.drop i))):Nat):Int),acc++gj (bF ts x.Key (v.aw.drop i)) (bF ts x.aG (v.ai.drop i)))
 |0,i,D,acc,q,n,f=>by
  rw[lI,cp,en (by omega:v.ai.length<=i),en (by omega:v.aw.length<=i),dR,bF,bF,gj]
  . simp;omega
  grind
 |k+1,i,D,acc,q,n,f=>by
  have aC:i<v.ai.length:=by omega
  have a:i<v.aw.length:=by omega
  have w:=dB af;have c:v.ai.getD i au∈v.ai:=bg aC au;have b:v.aw.getD i au∈v.aw:=bg a au;have z:=e' c;have A:=e' b;rw[eB aC au,eB a au,bF,bF,gj,cJ,cJ]at f;have t:=g _ c;have u:=j _ b;have e:=m _ b (L+1) D (by omega) (by omega);rw[h1 _ b]at e;have dm:=l _ c (L+1) (max D (L+1+1-1)) (by omega) (by omega);have s:=qF (ts:=ts) x.aG (v.ai.getD i au);have aI:aM .i64 (L:Int) 1=((L+1:Nat):Int):=bH;rw[lI,bz,ae (aQ aC)];simp only[aT,ao,bc,I.aU];rw[ae (by simp[d]),ae (aQ a),aI,e];simp only[ao];rw[Ds];simp only[ao];rw[bws];simp only[ao];rw[dm];simp only[ao];rw[Ds];simp only[ao];rw[bws (by rw[cJ];omega)];simp only[ao];rw[bH,Ml d r g j l m h1 af L o p k (i+1) _ _ (by omega) (by omega) (by rw[cJ,cJ];omega),eB aC au,eB a au,dR,bF,bF,gj,hz,hz];grind
end
section
variable {ts:List ah}(H:iV ts)
theorem v8(H:iV ts)(a:bK v)(b:wt v<=1099511627776)(t:Int):(br ts t v).length<=23089744183296:=by
 have:=aa9 H.M a b t;omega
theorem aay{l:List I}{r:List bX}(h:gT ms)(g:jU ms r):GU ((fk ts ms l r).map ix)=some ((gX fp (fk ts ms l r)).map ix):=by
 have e:∀a b:Fd,lB (ix a) (ix b)=fp a b:=λa b=>by unfold lB fp ix;simp
 have d:SWO lB:=by refine⟨λx=>?_,λx y z h1 c=>?_,λx y z h1 c=>?_⟩<;>simp[lB]at*<;>omega
 have f:kh lB ((fk ts ms l r).map ix)=true:=by
  have h0:=vt (ts:=ts) (l:=l) h g;generalize fk ts ms l r=q at h0;induction q with
  |nil=>rfl
  |cons a q ih=>
   simp only[kh,cd,c0,fu]at h0⊢;grind
 unfold GU;rw[Nn d f,Mh ix e]
theorem BF{D L b:Nat}(h:w=1+b):max (max D L) (L+b)=max D (L+w-1):=by omega
theorem agz{D L b:Nat}(h:w=1+b):max (max D L) (L+1+b-1)=max D (L+w-1):=by omega
theorem RW{b:Nat}(h:w=1+max 0 b):w=1+b:=by omega
theorem adk(n:∀m,m∈x.ag->bK m.bu)(e:gT x.ag)(O:x.ag.length<=16)(c:jU x.ag v.Rest)(p:v.ai.length=x.ag.length)
 (A:∀y,y∈v.Rest->y.Data.length<=reachBytes)(s:∀x,x∈v.ai->∀t,(br ts t x).length<=23089744183296)
 (k:∀i,i<x.ag.length->oO ts (v.ai.getD i au) (x.ag.getD i ay).av)
 (N:((gX fp (fk ts x.ag v.ai v.Rest)).flatMap Fd.text).length<=23089744183296)
 (L D:Nat)(g:1<=L)(H:L<=D)(J:L+cK v.ai<1125899906842624)(M:(v.Rest.map λx=>x.Data.length+1).sum<=1099511627776):
 Ch (x,v,(L:Int),ts,(D:Int))=some ((gX fp (fk ts x.ag v.ai v.Rest)).flatMap Fd.text,ts,((max D (L+fD ts x.ag v.ai):Nat):Int)):=by
 have w:=e.2;have j:∀y,y∈v.Rest->cj y.ad/\y.Data.length<=reachBytes:=λy b=>⟨(c.2 y b).1,A y b⟩
 have K:v.Rest.length<=(v.Rest.map λx=>x.Data.length+1).sum:=by
  generalize v.Rest=R;induction R with
  |nil=>simp
  |cons a R ih=>simp only[gQ,fu,oy];omega
 have P:=Lj (ts:=ts) (ms:=x.ag) (l:=v.ai);have B:=OP (ts:=ts) (Ms:=x.ag) (v:=v) (by omega) n w p (λy b t=>by have:=s y b t;omega) (λi o _=>k i o) L g (by omega) x.ag.length 0 D [] (by omega) (by omega) (by simp;omega);have C:rb ((L:Int),x.ag,(x.ag.length:Int),0,ts,(D:Int),v,[])=_:=B;rw[Ch];simp only[I.aU];rw[C];simp only[aT,ao,fL,fZ];generalize ((max D (L+fD ts x.ag v.ai):Nat):Int)=d;have E:=OQ (ts:=ts) (R:=v.Rest) j (by omega) d v.Rest.length 0 ((dd ts x.ag v.ai).map ix) (by omega) (by simp;omega);have F:q' (v.Rest,(v.Rest.length:Int),0,ts,d,(dd ts x.ag v.ai).map ix)=_:=E;rw[F];simp only[ao,fL];rw[<-qf];have hs:=aay (ts:=ts) (l:=v.ai) e c;have r:(fk ts x.ag v.ai v.Rest).length<=2199023255552:=by unfold fk;simp;omega
 have cW:dd ts x.ag v.ai++v.Rest.map j0=fk ts x.ag v.ai v.Rest:=rfl;rw[cW];generalize fk ts x.ag v.ai v.Rest=q at*;rw[hs];simp only[ao];have f:=mK fp q;rw[ae (by simp[f.length_eq])];have u:(gX fp q).length<=2199023255552:=by rw[f.length_eq];exact r
 generalize gX fp q=z at*;have Q:=OR (ts:=ts) (l:=z) d z.length 0 [] (gm _) u (by simp only[fL,ij];omega);have G:ra (((z.map ix).length:Int),0,ts,d,z.map ix,[])=some (ts,d,[]++(z.drop 0).flatMap Fd.text):=by grind
 rw[G];simp only[ao,EM,fL,fZ]
theorem aaz(A:x.ag.length<9223372036854775807)(B:gT x.ag)(l: -9223372036854775808<=v.ad/\v.ad<=9223372036854775807)
 (a:match cz x.ag v.ad with
  |some m=>v.Rest=[]/\v.ai.length=1/\e7 ts false m.av v.ai
  |none=>x.Open=true/\True/\cj v.ad/\v.ai=[]/\∃d,v.Rest=[⟨v.ad,d⟩])
 (E:∀y,y∈v.Rest->y.Data.length<=reachBytes)(z:∀x,x∈v.ai->∀t,(br ts t x).length<=23089744183296)
 (w:∀x,x∈v.ai->∀t,b6 ts false t x->oO ts x t)
 (L D:Nat)(J:1<=L)(H:L<=D)(K:L+cK v.ai<1125899906842624):
 x5 (x,v,(L:Int),ts,(D:Int)) = some (dM v.ad.toNat++(match cz x.ag v.ad with
  |some m=>(bF ts m.av v.ai).headD []
  |none=>(v.Rest.map bX.Data).headD []),ts,((max D (L+(match cz x.ag v.ad with
  |some m=>dR ts m.av v.ai
  |none=>0)):Nat):Int)):=by
 obtain⟨r,p,_,g⟩:=mI (t:=x) v.ad A;rcases tj g with⟨e,q,o,F,c,G⟩|⟨e,c⟩
 . rw[c]at a;rw[c];simp only at a⊢;obtain⟨d1,d2,d3⟩:=a;have b:=B.2 _ (bg o ay);rw[G]at b;obtain⟨n,aE⟩:∃n:Nat,v.ad=(n:Int):=⟨v.ad.toNat,by unfold cj at b;omega⟩
   rw[x5];simp only[I.aU];rw[p,aE,hE (by unfold cj at b;omega),tV (by unfold cj at b;omega)];simp only[aT,ao];rw[ak (by simp[e]),F,ae (aQ o)]
   match b:v.ai,d2 with
   |[y],_=>
    have f:y∈v.ai:=by rw[b];exact .head _
    have i:aH 0 ([y]:List I).length=true:=aQ (k:=0) (by simp);have O:=e' f;have g:=cN.1 d3 y f;have dm:=w y f _ g (L+1) D (by omega) (by omega);have aI:aM .i64 (L:Int) 1=((L+1:Nat):Int):=bH;rw[ae i,aI];simp only[bc,rH,km];rw[dm];have N:=z y f (x.ag.getD q ay).av;have C:=kc (n:=n) (by rw[aE]at l;omega);simp only[ao];rw[ae (gf)];have M:=qF (ts:=ts) (x.ag.getD q ay).av y;have u:dR ts (x.ag.getD q ay).av [y]=dL ts (x.ag.getD q ay).av y:=by
     have cW:dR ts (x.ag.getD q ay).av []=0:=by rw[dR]
     rw[dR,cW];omega
    have s:bF ts (x.ag.getD q ay).av [y]=[br ts (x.ag.getD q ay).av y]:=by rw[bF,bF]
    have e:max D (L+1+dL ts (x.ag.getD q ay).av y-1)=max D (L+dL ts (x.ag.getD q ay).av y):=(by omega);rw[s,u,e];rfl
 . rw[c]at a;rw[c];simp only at a⊢;obtain⟨d1,d2,d3,d4,d,d5⟩:=a;obtain⟨n,aE⟩:∃n:Nat,v.ad=(n:Int):=⟨v.ad.toNat,by unfold cj at d3;omega⟩
   have j:=E ⟨v.ad,d⟩ (by rw[d5];exact .head _);simp only at j;unfold reachBytes at j;have C:=kc (n:=n) (by rw[aE]at l;omega);rw[x5];simp only[I.aU];rw[p,d5,aE,hE (by unfold cj at d3;omega),tV (by unfold cj at d3;omega)];simp only[aT,ao];have i:aH 0 ([⟨(n:Int),d⟩]:List bX).length=true:=aQ (k:=0) (by simp);rw[ae (by simp[e]),ae i];simp only[rH,km];rw[ae (gf)];have e:max D (L+0)=D:=(by omega);rw[e];rfl
set_option maxHeartbeats 400000 in
theorem adl(H:iV ts)(aW:bK v):wt v<=1099511627776->∀t,b6 ts false t v->oO ts v t:=by
 induction aW with
 |mk v hs h1 O aJ al M U c9 Y aA a1 a0 aZ=>
  intro aY t r L D K a5;have aL:bK v:= .mk v hs h1 O aJ al M U c9 Y aA a1;have a9:=fw v;have G:∀x,x∈v.ai->∀t,(br ts t x).length<=23089744183296:=λx o t=>v8 H (M x o) (by have:=e' o;omega) t;have aV:∀x,x∈v.aw->∀t,(br ts t x).length<=23089744183296:=λx o t=>v8 H (al x o) (by have:=e' o;omega) t;have F:∀x,x∈v.ai->∀t,b6 ts false t x->oO ts x t:=λx o t=>aZ x o (by have:=e' o;omega) t;have aO:∀x,x∈v.aw->∀t,b6 ts false t x->oO ts x t:=λx o t=>a0 x o (by have:=e' o;omega) t;have Q:=v8 H aL aY t;obtain⟨⟨a3,a4,q,_⟩,r⟩:=(eL _ _ _).1 r;obtain⟨j,rfl⟩:∃j:Nat,t=(j:Int):=⟨t.toNat,by omega⟩
  have ab:j<ts.length:=by omega
  rw[j8];simp only[aT,ao];rw[ae (aQ ab),zB];simp only[bc,I.aU]at r q⊢;have J:=bg ab aN;have C:=tF (ts:=ts) (j:Int) v;have aX:=@uy ts (j:Int) v;have ap:=@uz ts (j:Int) v;have aq:=@uA ts (j:Int) v;have ar:=@uB ts (j:Int) v;have V:=@w3 ts (j:Int) v;have ax:=@uC ts (j:Int) v;have W:=@uD ts (j:Int) v;have X:=@uE ts (j:Int) v;have ay:=@uF ts (j:Int) v;simp only[bc]at C aX ap aq ar V ax W X ay;have Z:=H.A _ J;have aK:=H.qo _ J;have aF:=H.S _ J;generalize ts.getD j aN=x at*;have am:¬x.Kind=5->¬x.Kind=6->v.aw=[]->dL ts (j:Int) v=1+dR ts x.aG v.ai:=λa b c=>by grind
  have N:v.aw=[]->v.ai=[]->max D (L+dL ts (j:Int) v-1)=max D L:=λa b=>by rw[zV a b];omega
  rcases r with⟨k,s,u,w,l,g,B⟩|⟨k,s,u,w,l,g,B,p,E⟩|⟨k,s,u,w,l,g,B,p⟩|⟨k,s,u,w,l,g,B,p⟩|⟨k,s,u,w,l,g,B,p⟩|⟨k,s,u,w,l,g⟩|⟨k,s,u,w,l,g,B,p,E⟩|⟨k,s,u,w,l,g,B,p,E,aB,a2⟩|⟨k,s,u,w,l,g,B,p,E⟩<;>rw[k]at q
  . grind
  . have d:=q.symm;rw[ak (by simp[d]),ae (by simp[d]),ap d,N l g,DY Y];simp only[ao];have az:=wN Y;obtain⟨n,aE⟩:∃n:Nat,fF v.bf=(n:Int):=⟨(fF v.bf).toNat,by unfold fF;split<;>omega⟩
    rw[aE,ou]at az;rw[aE,DZ az];rfl
  . have d:=q.symm;rw[ak (by simp[d]),ak (by simp[d]),ae (by simp[d]),aq d,N l g]
  . have d:=q.symm;rw[ak (by simp[d]),ak (by simp[d]),ak (by simp[d]),ae (by simp[d]),ar d,N l g]
    obtain⟨n,aE⟩:∃n:Nat,v.ad=(n:Int):=⟨v.ad.toNat,by
     rcases p with⟨y,f,he⟩|⟨_,_,he⟩
     . have:=aF d y f;unfold cj at this;omega
     . unfold cj at he;omega⟩
    rw[aE,hE,DZ (by omega),ou];rfl
  . have d:=q.symm;rw[ak (by simp[d]),ak (by simp[d]),ak (by simp[d]),ak (by simp[d]),ae (by simp[d]),V d];obtain⟨R,an⟩:=Z (.inl d);obtain⟨aR,aS⟩:=h9.1 p;rw[adk (H.T _ J).jf R an B aR (λy f=>U y f) G (λi M=>F _ (bg (by omega) au) _ (aS i M)) (by rw[<-V d];exact Q) L (max D L) K (by omega) (by omega) (by omega)];simp only[ao];rw[ae d,ae g]at C;have e:max (max D L) (L+fD ts x.ag v.ai)=max D (L+dL ts (j:Int) v-1):=BF (RW C);rw[e]
  . have d:=q.symm;rw[ak (by simp[d]),ak (by simp[d]),ak (by simp[d]),ak (by simp[d]),ak (by simp[d]),ae (by simp[d]),ax d];obtain⟨R,an⟩:=Z (.inr d);rw[ak (show ¬x.Kind=5 by omega),ae d,ae l]at C;rw[aaz (dB (iv (H.T _ J).gY)) R aA g (λy f=>U y f) G F L (max D L) K (by omega) (by omega)];simp only[ao]
    exact dX (λz:Nat=>(some (dM v.ad.toNat++(match cz x.ag v.ad with
     |some m=>(bF ts m.av v.ai).headD []
     |none=>(v.Rest.map bX.Data).headD []),ts,(z:Int)):Option (aj×List ah×Int))) (BF (D:=D) (L:=L) (RW C))
  . have d:=q.symm;rw[ak (by simp[d]),ak (by simp[d]),ak (by simp[d]),ak (by simp[d]),ak (by simp[d]),ak (by simp[d]),ak (by simp[d])];have r:=cN.1 E;rw[W d]at Q;have:=Lk (x:=x) (v:=v) (by omega) (λy f=>by have:=G y f x.aG;omega) (λy f=>F y f x.aG (r y f)) O L K (by omega) v.ai.length 0 (max D L) [] (by omega) (by omega) (by simp only[fL,ij];omega);have h0:lI ((L:Int),v.ai,(v.ai.length:Int),0,ts,((max D L:Nat):Int),v,x,[])=_:=this;rw[h0];simp only[ao,EM];have af:=am (by omega) (by omega) g;have e:max (max D L) (L+dR ts x.aG v.ai)=max D (L+dL ts (j:Int) v-1):=BF af;rw[W d,fL,fZ,e]
  . have d:=q.symm;rw[ak (by simp[d]),ak (by simp[d]),ak (by simp[d]),ak (by simp[d]),ak (by simp[d]),ak (by simp[d]),ak (by simp[d])];have r:=cN.1 aB;have aa:=cN.1 E;rw[X d]at Q;obtain⟨a',ba⟩:=aK d;have aU:∀y,y∈v.aw->dL ts x.Key y=1:=λy f=>by
     obtain⟨⟨_,_,b3,_⟩,b⟩:=(eL _ _ _).1 (aa y f);apply zV<;>grind
    have:=Ml (x:=x) (v:=v) d p (λy f=>by have:=G y f x.aG;omega) (λy f=>by have:=aV y f x.Key;omega) (λy f=>F y f x.aG (r y f)) (λy f=>aO y f x.Key (aa y f)) aU O L K (by omega) v.ai.length 0 (max D L) [] (by omega) (by omega) (by simp only[fL,ij];omega);have h0:lI ((L:Int),v.ai,(v.ai.length:Int),0,ts,((max D L:Nat):Int),v,x,[])=_:=this;rw[h0];simp only[ao,EM];rw[ak (show ¬x.Kind=5 by omega),ak (show ¬x.Kind=6 by omega)]at C;simp only[fL,fZ];have e:max (max D L) (L+max (if v.aw=[]then 0 else 1) (dR ts x.aG v.ai))=max D (L+dL ts (j:Int) v-1):=BF C;rw[X d,e]
  . have d:=q.symm;rw[ak (by simp[d]),ak (by simp[d]),ak (by simp[d]),ak (by simp[d]),ak (by simp[d]),ak (by simp[d]),ae (by simp[d]),ay d];have r:=cN.1 E
    match P:v.ai,p with
    |[],_=>rw[hT,N g P,bF]
    |[y],_=>
     have f:y∈v.ai:=by rw[P];exact .head _
     have aP:aH 0 ([y]:List I).length=true:=aQ (k:=0) (by simp);rw[bx,ae aP];have a8:=e' f;have dm:=F y f x.aG (r y f) (L+1) (max D L) (by omega) (by omega);have aI:aM .i64 (L:Int) 1=((L+1:Nat):Int):=bH;rw[aI];simp only[rH,km];rw[dm];have a7:=G y f x.aG;simp only[ao];rw[ae (gf (by simp;omega))];have af:=am (by omega) (by omega) g;rw[P]at af;have a6:=qF (ts:=ts) x.aG y;have aD:dR ts x.aG [y]=dL ts x.aG y:=by
      have cW:dR ts x.aG []=0:=by rw[dR]
      rw[dR,cW];omega
     have aC:bF ts x.aG [y]=[br ts x.aG y]:=by rw[bF,bF]
     rw[aD]at af;have e:max (max D L) (L+1+dL ts x.aG y-1)=max D (L+dL ts (j:Int) v-1):=agz af;rw[aC,e];rfl
    |a::b::c,h=>simp at h
end
section
variable {ts:List ah}
def iU(ts:List ah)(x:I)(t:Int):Prop:=ju ((⟨ts⟩:aS),t,x)=some (br ts t x)
def oN(ts:List ah)(x:I)(t:Int):Prop:=mA ((⟨ts⟩:aS),t,x)=some ((dL ts t x:Nat):Int)
theorem Mm(b:∀y,y∈v.ai->(br ts x.aG y).length<=1000000000000000)(d:∀y,y∈v.ai->iU ts y x.aG)(af:v.ai.length<=reachBytes):
 ∀(k i:Nat) (acc:aj),i+k=v.ai.length->acc.length+((bF ts x.aG (v.ai.drop i)).flatMap dg).length<=70368744177664->
 sx (acc,(i:Int),ts,v,x)=some (acc++(bF ts x.aG (v.ai.drop i)).flatMap dg)
 |0,i,acc,e,a=>by
  rw[sx,cp,en (by omega:v.ai.length<=i),bF];simp
 |k+1,i,acc,e,a=>by
  have aC:i<v.ai.length:=by omega
  have g:=dB af;have c:v.ai.getD i au∈v.ai:=bg aC au;rw[eB aC au,bF,eX,cJ]at a;have f:=b _ c;have dm:=d _ c;unfold iU at dm;rw[sx,bz,ae (aQ aC)];simp only[aT,ao,bc,I.aU];rw[dm];simp only[ao];rw[Ct];simp only[ao];rw[ae (gf),bH,Mm b d af k (i+1) _ (by omega) (by rw[cJ];omega),eB aC au,bF,eX,hz]
theorem Oo(n:v.ai.length=v.aw.length)(d:∀y,y∈v.ai->(br ts x.aG y).length<=1000000000000000)(e:∀y,y∈v.aw->(br ts x.Key y).length<=1000000000000000)
 (j:∀y,y∈v.ai->iU ts y x.aG)(l:∀y,y∈v.aw->iU ts y x.Key)(af:v.ai.length<=reachBytes):
 ∀(k i:Nat) (acc:aj),i+k=v.ai.length->acc.length+(gj (bF ts x.Key (v.aw.drop i)) (bF ts x.aG (v.ai.drop i))).length<=70368744177664->
 sy (acc,(i:Int),ts,v,x)=some (acc++gj (bF ts x.Key (v.aw.drop i)) (bF ts x.aG (v.ai.drop i)))
 |0,i,acc,m,c=>by
  rw[sy,cp,en (by omega:v.ai.length<=i),en (by omega:v.aw.length<=i),bF,bF,gj]
  . simp
  grind
 |k+1,i,acc,m,c=>by
  have aC:i<v.ai.length:=by omega
  have a:i<v.aw.length:=by omega
  have q:=dB af;have f:v.ai.getD i au∈v.ai:=bg aC au;have g:v.aw.getD i au∈v.aw:=bg a au;rw[eB aC au,eB a au,bF,bF,gj,cJ,cJ]at c;have o:=d _ f;have p:=e _ g;have dm:=j _ f;have b:=l _ g;unfold iU at dm b;rw[sy,bz,ae (aQ a)];simp only[aT,ao,bc,I.aU];rw[b];simp only[ao];rw[Ct];simp only[ao];rw[ae (gf),ae (aQ aC),dm];simp only[ao];rw[Ct];simp only[ao];rw[ae (gf (by rw[cJ];omega)),bH,Oo n d e j l af k (i+1) _ (by omega) (by rw[cJ,cJ];omega),eB aC au,eB a au,bF,bF,gj,hz,hz]
def ln(R:List bX)(n:Nat):List Fd:=(R.filter λx=>decide (x.ad=(n:Int))).map j0
theorem Z0{a:bX}{l:List bX}{n:Nat}(h:a.ad=(n:Int)):ln (a::l) n=j0 a::ln l n:=by unfold ln;rw[BW,ae (by rw[h];simp),fu]
theorem aaA{a:bX}{l:List bX}{n:Nat}(h:¬a.ad=(n:Int)):ln (a::l) n=ln l n:=by unfold ln;rw[BW,ak (by simpa using h)]
theorem agO{d:Type}{m:aR}{w:I}(b:bK w)(A B:Option d):
 ((if !(!m.bZ) then jM (w,m.bu)else some false).bind λc=>if(bif (!m.bZ)then true else(!c)) then A else B)=if c7 m w then B else A:=by
 cases a:m.bZ with
 |false=>
  have:c7 m w=false:=by unfold c7;rw[a];rfl
  rw[this];rfl
 |true=>
  have:=On b a;simp only[dn,eN,bS,this];cases c7 m w<;>rfl
theorem Hu(d:∀y,y∈v.Rest->y.Data.length<=reachBytes)(c:v.Rest.length<=reachBytes)(n:Nat)(aE:n<=1000):
 ∀(k i:Nat) (b:aj),i+k=v.Rest.length->b.length+((ln (v.Rest.drop i) n).flatMap Fd.text).length<=70368744177664->
 mv (b,(n:Int),(i:Int),ts,v,x)=some (b++(ln (v.Rest.drop i) n).flatMap Fd.text,(n:Int),ts,v,x)
 |0,i,b,g,a=>by
  rw[mv,cp,en (by omega:v.Rest.length<=i),I.aU];simp[ln]
 |k+1,i,b,g,a=>by
  have aC:i<v.Rest.length:=by omega
  have j:=dB c;have f:=d _ (bg aC b5);unfold reachBytes at f;rw[eB aC b5]at a;rw[mv,bz,ae (aQ aC)];simp only[aT,ao,bc,I.aU];rw[eB aC b5];by_cases e:(v.Rest.getD i b5).ad=(n:Int)
  . rw[Z0 e,eX]at a⊢;have ht:(j0 (v.Rest.getD i b5)).text=fa n false (v.Rest.getD i b5).Data:=by unfold j0 Fd.text;rw[e];rfl
    rw[ht,cJ]at a;rw[ae (by rw[e];simp),ae (aQ aC),Jw (by omega) (by omega)];simp only[ao];rw[ae (gf),bH,Hu d c n aE k (i+1) _ (by omega) (by rw[cJ];omega),ht,hz]
  . rw[aaA e]at a⊢;rw[ak (by simpa using e),bH,Hu d c n aE k (i+1) _ (by omega) a]
noncomputable def xN (ts:List ah)(x:ah)(v:I)(n:Nat):List Fd:=(fk ts x.ag v.ai v.Rest).filter λf=>decide (f.id=n)
theorem HU{x:ah}(q:x.ag.length<9223372036854775807)(s:gT x.ag)(z:jU x.ag v.Rest)(l:v.ai.length=x.ag.length)
 (w:∀y,y∈v.Rest->y.Data.length<=reachBytes)(g:v.Rest.length<=reachBytes)(u:∀y,y∈v.ai->bK y)(o:∀x,x∈v.ai->∀t,(br ts t x).length<=23089744183296)
 (A:∀i,i<x.ag.length->iU ts (v.ai.getD i au) (x.ag.getD i ay).av):
 ∀(k n:Nat) (b:aj),n+k=1001->1<=n->b.length+(((List.range' n k).flatMap (xN ts x v)).flatMap Fd.text).length<=70368744177664->
 o1 (b,(n:Int),ts,v,x)=some (b++((List.range' n k).flatMap (xN ts x v)).flatMap Fd.text)
 |0,n,b,J,h1,a=>by
  rw[o1,cp];simp
 |k+1,n,b,J,h1,a=>by
  have K:∀y,y∈v.Rest->0<=y.ad:=λy N=>by have:=(z.2 y N).1;unfold cj at this;omega
  have al:xN ts x v n=((dd ts x.ag v.ai).filter λf=>decide (f.id=n))++ln v.Rest n:=by
   unfold xN fk ln;rw[List.filter_append,Zd _ _ K]
  rw[FI,eX,FC,al,FC]at a⊢;simp only[cJ]at a;rw[o1,bz];obtain⟨r,_,Q,H⟩:=mI (t:=x) (n:Int) q;simp only[aT,ao,bc,I.aU];rw[Q];simp only[ao];have B:∀c:aj,c.length+((ln v.Rest n).flatMap Fd.text).length<=70368744177664->mv (c,(n:Int),0,ts,v,x)=some (c++(ln v.Rest n).flatMap Fd.text,(n:Int),ts,v,x):=λc h=>by
   have:=Hu (ts:=ts) (x:=x) w g n (by omega) v.Rest.length 0 c (by omega) (by simpa using h);grind
  rcases tj H with⟨e,j,C,O,G,P⟩|⟨e,G⟩
  . have p:j<v.ai.length:=(by omega);have D:v.ai.getD j au∈v.ai:=bg p au;have d:=JA (ts:=ts) (Ol s) l C (n:=n) (by rw[P];simp);rw[ae e,O,ae (aQ C)];rw[ae (by rw[aQ p];rfl)];simp only[bc];rw[agO (u _ D)];have F:=HU q s z l w g u o A k (n+1);cases E:c7 (x.ag.getD j ay) (v.ai.getD j au)with
    |true=>
     rw[E,ae rfl]at d;rw[d]at a⊢;rw[ae rfl,B b (by omega)];simp only[ao,I.aU];rw[bH,F _ (by omega) (by omega) (by rw[cJ];omega)];simp
    |false=>
     rw[E,bx]at d;rw[d]at a⊢;have R:=o _ D (x.ag.getD j ay).av;have dm:=A j C;unfold iU at dm;have ht:([⟨n,(x.ag.getD j ay).cf,br ts (x.ag.getD j ay).av (v.ai.getD j au)⟩]:List Fd).flatMap Fd.text=fa n (x.ag.getD j ay).cf (br ts (x.ag.getD j ay).av (v.ai.getD j au)):=by simp only[eX,List.flatMap_nil,l4];rfl
     rw[ht]at a⊢;rw[bx,ae (aQ p),dm];simp only[ao];rw[Jw (by omega) (by omega)];simp only[ao];rw[ae (gf),B _ (by rw[cJ];omega)];simp only[ao,I.aU];rw[bH,F _ (by omega) (by omega) (by rw[cJ,cJ];omega)];grind
  . have M:((dd ts x.ag v.ai).filter λf=>decide (f.id=n))=[]:=Kp λm L=>by
     have:=nI G m L;omega
    rw[M]at a⊢;rw[ak (by simp[e]),B b (by omega)];simp only[ao,I.aU];rw[bH,HU q s z l w g u o A k (n+1) _ (by omega) (by omega) (by rw[cJ];omega)];simp
theorem adJ{c:Type}{m:aR}{w:I}(b:bK w)(A B:Option c):
 ((if m.bZ then jM (w,m.bu)else some false).bind λr=>if(bif m.bZ then r else false) then A else B)=if c7 m w then A else B:=by
 cases a:m.bZ with
 |false=>
  have:c7 m w=false:=by unfold c7;rw[a];rfl
  rw[this];rfl
 |true=>
  have:=On b a;simp only[bS,this];cases c7 m w<;>rfl
theorem Mn(bb:¬x.Kind=5)(a:¬x.Kind=6)(c:∀y,y∈v.ai->oN ts y x.aG)(af:v.ai.length<=reachBytes):
 ∀(k i b:Nat),i+k=v.ai.length->h5 ((b:Int),(i:Int),ts,v,x)=some (((max b (dR ts x.aG (v.ai.drop i)):Nat):Int),v)
 |0,i,b,d=>by rw[h5,cp,en (by omega:v.ai.length<=i),dR,I.aU,Nat.max_zero]
 |k+1,i,b,d=>by
  have aC:i<v.ai.length:=by omega
  have e:=dB af;have dm:=c _ (bg aC au);unfold oN at dm;rw[h5,bz,ak (by simp[bb]),ak (by simp[a]),ae (aQ aC)];simp only[bc,I.aU];rw[dm];simp only[aT,ao];rw[zB,bH,Mn bb a c af k (i+1) _ (by omega),eB aC au,dR,Nat.max_assoc]
theorem Oq(bb:x.Kind=5)(g:v.ai.length=x.ag.length)(c:∀y,y∈v.ai->bK y)(e:∀i,i<x.ag.length->oN ts (v.ai.getD i au) (x.ag.getD i ay).av)(af:v.ai.length<=reachBytes):
 ∀(k i b:Nat),i+k=v.ai.length->h5 ((b:Int),(i:Int),ts,v,x)=some (((max b (fD ts (x.ag.drop i) (v.ai.drop i)):Nat):Int),v)
 |0,i,b,f=>by
  rw[h5,cp,en (by omega:v.ai.length<=i),I.aU,en (by omega:x.ag.length<=i)];rw[fD]
  . grind
  grind
 |k+1,i,b,f=>by
  have aC:i<v.ai.length:=by omega
  have a:i<x.ag.length:=by omega
  have m:=dB af;have j:=bg aC au;have dm:=e i a;unfold oN at dm;rw[h5,bz,ae (by simp[bb]),ae (aQ a)];simp only[aT,ao,bc,I.aU];rw[ae (by rw[aQ aC];rfl),adJ (c _ j)];have d:=Oq bb g c e af k (i+1);rw[eB aC au,eB a ay,fD];cases l:c7 (x.ag.getD i ay) (v.ai.getD i au)with
  |true=>rw[ae rfl,bH,d _ (by omega),ae rfl]
  |false=>
   rw[bx,ak (by simp[bb]),ae (aQ aC),dm];simp only[ao];rw[zB,bH,d _ (by omega),bx,Nat.max_assoc]
theorem Ot(a:x.Kind=6)(d:j<x.ag.length)(c:hJ (x,v.ad)=some ((j:Int),true))(e:∀y,y∈v.ai->oN ts y (x.ag.getD j ay).av)(af:v.ai.length<=reachBytes):
 ∀(k i b:Nat),i+k=v.ai.length->h5 ((b:Int),(i:Int),ts,v,x)=some (((max b (dR ts (x.ag.getD j ay).av (v.ai.drop i)):Nat):Int),v)
 |0,i,b,f=>by rw[h5,cp,en (by omega:v.ai.length<=i),dR,I.aU,Nat.max_zero]
 |k+1,i,b,f=>by
  have aC:i<v.ai.length:=by omega
  have g:=dB af;have dm:=e _ (bg aC au);unfold oN at dm;rw[h5,bz,ak (by simp[a]),ae (by simp[a]),c];simp only[aT,ao,bc,I.aU];rw[ae (aQ d),ae (aQ aC),dm];simp only[ao];rw[zB,bH,Ot a d c e af k (i+1) _ (by omega),eB aC au,dR,Nat.max_assoc]
theorem Ec{b:Nat}(f:h5 (0,0,ts,v,x)=some (((max 0 b:Nat):Int),v))(g:b<1152921504606846976)(d:w=1+max (if v.aw=[]then 0 else 1) b):
 (h5 (0,0,ts,v,x)>>=λo=>if (0<(o.2.aw.length:Int):Bool) then some (aM .i64 1 (iz o.1 1))else some (aM .i64 1 o.1))=some (w:Int):=by
 rw[f];simp only[aT,ao];by_cases c:v.aw=[]
 . rw[ak (by simp[c])];rw[ae c]at d;have:aM .i64 1 ((max 0 b:Nat):Int)=((1+max 0 b:Nat):Int):=vZ (a:=1) (by omega);rw[this,d]
 . rw[ae (by
    have:0<v.aw.length:=uh.2 c
    grind)]
   rw[ak c]at d;have e:iz ((max 0 b:Nat):Int) 1=((max 1 b:Nat):Int):=by
    have:=zB (max 0 b) 1;grind
   rw[e];have:aM .i64 1 ((max 1 b:Nat):Int)=((1+max 1 b:Nat):Int):=vZ (a:=1) (by omega);rw[this,d]
theorem adm(H:iV ts)(W:bK v):wt v<=1099511627776->∀t,b6 ts false t v->oN ts v t:=by
 induction W with
 |mk v hs h1 F ah al O am c9 aq ar av ap X=>
  intro an t z;have ao:=fw v;have G:∀x,x∈v.ai->∀t,b6 ts false t x->oN ts x t:=λx L t=>X x L (by have:=e' L;omega) t;obtain⟨⟨af,ag,w,_⟩,z⟩:=(eL _ _ _).1 z;obtain⟨j,rfl⟩:∃j:Nat,t=(j:Int):=⟨t.toNat,by omega⟩
  have K:j<ts.length:=by omega
  unfold oN;rw[mA,ae (aQ K)];simp only[bc,I.aU]at z w⊢;have M:=bg K aN;have f:=tF (ts:=ts) (j:Int) v;simp only[bc]at f;have aj:=H.A _ M;have U:=dB (iv (H.T _ M).gY);generalize ts.getD j aN=x at*;have b1:∀E,dR ts E v.ai<1152921504606846976:=λE=>by have:=G3 ts v.ai E;omega
  have b2:∀E,fD ts E v.ai<1152921504606846976:=λE=>by have:=G2 ts v.ai E;omega
  have D:¬x.Kind=5->¬x.Kind=6->(∀y,y∈v.ai->b6 ts false x.aG y)->(h5 (0,0,ts,v,x)>>=λo=>if (0<(o.2.aw.length:Int):Bool) then some (aM .i64 1 (iz o.1 1))else some (aM .i64 1 o.1))=some ((dL ts (j:Int) v:Nat):Int):=by
   intro a b c;have u:=Mn (ts:=ts) (x:=x) (v:=v) a b (λy C=>G y C _ (c y C)) F v.ai.length 0 0 (by omega);rw[ak a,ak b]at f;exact Ec u (b1 _) f
  rcases z with⟨k,g,l,m,n,d,p⟩|⟨k,g,l,m,n,d,p,s,B⟩|⟨k,g,l,m,n,d,p,s⟩|⟨k,g,l,m,n,d,p,s⟩|⟨k,g,l,m,n,d,p,s⟩|⟨k,g,l,m,n,d⟩|⟨k,g,l,m,n,d,p,s,B⟩|⟨k,g,l,m,n,d,p,s,B,N,ab⟩|⟨k,g,l,m,n,d,p,s,B⟩<;>rw[k]at w
  . grind
  . grind
  . grind
  . grind
  . obtain⟨R,S⟩:=h9.1 s;have u:=Oq (ts:=ts) (x:=x) (v:=v) w.symm R O (λi P=>G _ (bg (by omega) au) _ (S i P)) F v.ai.length 0 0 (by omega);rw[ae w.symm]at f;exact Ec u (b2 _) f
  . rw[ak (show ¬x.Kind=5 by omega),ae w.symm]at f;obtain⟨r,_,aa,z⟩:=mI (t:=x) v.ad U;rcases tj z with⟨e,q,Y,Z,J,ax⟩|⟨e,J⟩
    . rw[J]at d f;simp only at d f;obtain⟨d1,d2,d3⟩:=d;have V:r=((q:Int),true):=by rw[<-Z,<-e]
      have u:=Ot (ts:=ts) (x:=x) (v:=v) w.symm Y (by rw[aa,V]) (λy C=>G y C _ (cN.1 d3 y C)) F v.ai.length 0 0 (by omega);exact Ec u (b1 _) f
    . rw[J]at d f;simp only at d f;have Q:v.ai=[]:=d.2.2.2.1;have u:h5 (0,0,ts,v,x)=some (((max 0 0:Nat):Int),v):=by rw[h5,ak (by simp[Q]),I.aU];rfl
      exact Ec u (by omega) f
  . exact D (by omega) (by omega) (cN.1 B)
  . exact D (by omega) (by omega) (cN.1 N)
  . exact D (by omega) (by omega) (cN.1 B)
set_option maxHeartbeats 400000 in
theorem Ed(H:iV ts)(aU:bK v):wt v<=1099511627776->∀t,b6 ts false t v->iU ts v t:=by
 induction aU with
 |mk v hs h1 Q Z ah R U c9 X Y aZ aY aX=>
  intro aW t p;have aD:bK v:= .mk v hs h1 Q Z ah R U c9 X Y aZ;have a6:=fw v;have K:∀x,x∈v.ai->∀t,(br ts t x).length<=23089744183296:=λx s t=>v8 H (R x s) (by have:=e' s;omega) t;have aO:∀x,x∈v.aw->∀t,(br ts t x).length<=23089744183296:=λx s t=>v8 H (ah x s) (by have:=e' s;omega) t;have G:∀x,x∈v.ai->∀t,b6 ts false t x->iU ts x t:=λx s t=>aX x s (by have:=e' s;omega) t;have aI:∀x,x∈v.aw->∀t,b6 ts false t x->iU ts x t:=λx s t=>aY x s (by have:=e' s;omega) t;have N:=v8 H aD aW t;obtain⟨⟨a4,a5,P,_⟩,p⟩:=(eL _ _ _).1 p;obtain⟨j,rfl⟩:∃j:Nat,t=(j:Int):=⟨t.toNat,by omega⟩
  have af:j<ts.length:=by omega
  unfold iU;rw[ju,ae (aQ af)];simp only[aT,ao,bc,I.aU]at p P⊢;have W:=bg af aN;have aV:=@uy ts (j:Int) v;have am:=@uz ts (j:Int) v;have an:=@uA ts (j:Int) v;have ap:=@uB ts (j:Int) v;have V:=@w3 ts (j:Int) v;have aq:=@uC ts (j:Int) v;have ar:=@uD ts (j:Int) v;have ax:=@uE ts (j:Int) v;have az:=@uF ts (j:Int) v;simp only[bc]at aV am an ap V aq ar ax az;have aa:=H.A _ W;have aF:=H.S _ W;have aj:=dB (iv (H.T _ W).gY);generalize ts.getD j aN=x at*;rcases p with⟨k,z,B,C,D,o,u⟩|⟨k,z,B,C,D,o,u,w,F⟩|⟨k,z,B,C,D,o,u,w⟩|⟨k,z,B,C,D,o,u,w⟩|⟨k,z,B,C,D,o,u,w⟩|⟨k,z,B,C,D,o⟩|⟨k,z,B,C,D,o,u,w,F⟩|⟨k,z,B,C,D,o,u,w,F,aC,a3⟩|⟨k,z,B,C,D,o,u,w,F⟩<;>rw[k]at P<;>have g:=P.symm
  . grind
  . rw[ak (by simp[g]),ae (by simp[g]),am g,tX X];simp only[ao];have aA:=wN X;obtain⟨n,aE⟩:∃n:Nat,fF v.bf=(n:Int):=⟨(fF v.bf).toNat,by unfold fF;split<;>omega⟩
    rw[aE,ou]at aA;rw[aE,Lf aA];rfl
  . rw[ak (by simp[g]),ak (by simp[g]),ae (by simp[g]),an g]
  . rw[ak (by simp[g]),ak (by simp[g]),ak (by simp[g]),ae (by simp[g]),ap g]
    obtain⟨n,aE⟩:∃n:Nat,v.ad=(n:Int):=⟨v.ad.toNat,by
     rcases w with⟨y,m,he⟩|⟨_,_,he⟩
     . have:=aF g y m;unfold cj at this;omega
     . unfold cj at he;omega⟩
    rw[aE,hE,Lf (by omega),ou];rfl
  . rw[ak (by simp[g]),ak (by simp[g]),ak (by simp[g]),ak (by simp[g]),ak (by simp[g]),ak (by simp[g]),ak (by simp[g]),ak (by simp[g]),V g];obtain⟨L,aP⟩:=aa (.inl g);obtain⟨aL,aM⟩:=h9.1 w;rw[V g]at N;have al:=W1 (vt (ts:=ts) (l:=v.ai) L u) (λy m=>GR L u m);have cW:(λn=>(fk ts x.ag v.ai v.Rest).filter λf=>decide (f.id=n))=xN ts x v:=rfl;rw[cW]at al;rw[al]at N⊢;have:=HU (ts:=ts) aj L u aL (λy m=>U y m) Z R K (λi aK=>G _ (bg (by omega) au) _ (aM i aK)) 1000 1 [] (by omega) (by omega) (by simp only[ij];omega);have h0:o1 ([],1,ts,v,x)=_:=this;rw[h0];rfl
  . rw[ak (by simp[g]),ak (by simp[g]),ak (by simp[g]),ak (by simp[g]),ak (by simp[g]),ae (by simp[g]),aq g];obtain⟨L,aP⟩:=aa (.inr g);obtain⟨r,_,a2,p⟩:=mI (t:=x) v.ad aj;rcases tj p with⟨e,q,aB,a0,M,a1⟩|⟨e,M⟩
    . rw[M]at o;rw[M];simp only at o⊢;obtain⟨d1,d2,d3⟩:=o;have E:=L.2 _ (bg aB ay);rw[a1]at E;obtain⟨n,aE⟩:∃n:Nat,v.ad=(n:Int):=⟨v.ad.toNat,by unfold cj at E;omega⟩
      rw[ak (by simp[d1]),a2,aE,hE (by unfold cj at E;omega),yV (by unfold cj at E;omega)];simp only[ao];rw[a0,ae (aQ aB)]
      match E:v.ai,d2 with
      |[y],_=>
       have m:y∈v.ai:=by rw[E];exact .head _
       have J:aH 0 ([y]:List I).length=true:=aQ (k:=0) (by simp);have p:=cN.1 d3 y m;have dm:=G y m _ p;unfold iU at dm;rw[ae J];simp only[bc,rH,km];rw[dm];have aR:=K y m (x.ag.getD q ay).av;have aS:=kc (n:=n) (by rw[aE]at Y;omega);simp only[ao];rw[ae (gf)];have O:bF ts (x.ag.getD q ay).av [y]=[br ts (x.ag.getD q ay).av y]:=by rw[bF,bF]
       rw[O];rfl
    . rw[M]at o;rw[M];simp only at o⊢;obtain⟨d1,d2,d3,d4,d,d5⟩:=o;obtain⟨n,aE⟩:∃n:Nat,v.ad=(n:Int):=⟨v.ad.toNat,by unfold cj at d3;omega⟩
      have ab:=U ⟨v.ad,d⟩ (by rw[d5];exact .head _);simp only at ab;unfold reachBytes at ab;have aS:=kc (n:=n) (by rw[aE]at Y;omega);rw[d5,aE,hT,hE (by unfold cj at d3;omega),yV (by unfold cj at d3;omega)];simp only[ao];have J:aH 0 ([⟨(n:Int),d⟩]:List bX).length=true:=aQ (k:=0) (by simp);rw[ae J];simp only[rH,km];rw[ae (gf)];rfl
  . rw[ak (by simp[g]),ak (by simp[g]),ak (by simp[g]),ak (by simp[g]),ak (by simp[g]),ak (by simp[g]),ae (by simp[g])];have p:=cN.1 F;rw[ar g]at N⊢;have:=Mm (ts:=ts) (x:=x) (v:=v) (λy m=>by have:=K y m x.aG;omega) (λy m=>G y m x.aG (p y m)) Q v.ai.length 0 [] (by omega) (by simp only[fL,ij];omega);have h0:sx ([],0,ts,v,x)=_:=this;rw[h0];rfl
  . rw[ak (by simp[g]),ak (by simp[g]),ak (by simp[g]),ak (by simp[g]),ak (by simp[g]),ak (by simp[g]),ak (by simp[g]),ae (by simp[g])];have p:=cN.1 aC;have aJ:=cN.1 F;rw[ax g]at N⊢;have:=Oo (ts:=ts) (x:=x) (v:=v) w (λy m=>by have:=K y m x.aG;omega) (λy m=>by have:=aO y m x.Key;omega) (λy m=>G y m x.aG (p y m)) (λy m=>aI y m x.Key (aJ y m)) Q v.ai.length 0 [] (by omega) (by simp only[fL,ij];omega);have h0:sy ([],0,ts,v,x)=_:=this;rw[h0];rfl
  . rw[ak (by simp[g]),ak (by simp[g]),ak (by simp[g]),ak (by simp[g]),ae (by simp[g]),az g];have p:=cN.1 F
    match E:v.ai,w with
    |[],_=>rw[hT,bF]
    |[y],_=>
     have m:y∈v.ai:=by rw[E];exact .head _
     have J:aH 0 ([y]:List I).length=true:=aQ (k:=0) (by simp);rw[bx,ae J];have dm:=G y m x.aG (p y m);unfold iU at dm;simp only[rH,km];rw[dm];have aR:=K y m x.aG;simp only[ao];rw[ae (gf (by simp;omega))];have O:bF ts x.aG [y]=[br ts x.aG y]:=by rw[bF,bF]
     rw[O];rfl
    |a::b::c,h=>simp at h
end
theorem dk.qh{a b:α}(h:eY o a b):dk o (a=b):=h
theorem EK{j k l:Option Bool}{f g i:Prop}(h1:dk j f)(d:dk k g)(e:dk l i):
 dk (j>>=λm=>(if m then k else some false)>>=λn=>some (bif m then n else false)>>=λt53=>(if t53 then l else some false)>>=λo=>some (bif t53 then o else false)) (f/\g/\i):=by
 obtain⟨a,rfl,h1⟩:=h1;obtain⟨b,rfl,d⟩:=d;obtain⟨c,rfl,e⟩:=e;rw[<-h1,<-d,<-e];cases a<;>cases b<;>cases c<;>exact⟨_,rfl,by simp⟩
theorem OS(h:dk o P):dk (o>>=λr=>some r) P:=by grind
def pS(a:Bool)(Ms:List aR):Prop:=(∀m,m∈Ms->mm a m=false)/\(a=false\/0<Ms.length)/\gT Ms/\(∀m,m∈Ms->nm m.Name=true)/\(Ms.map (·.Name)).Nodup/\Ms.length<=16
def Ar(S:List c4):Prop:=0<S.length/\(S.Pairwise (λa b=>a.ad<b.ad)/\∀y,y∈S->cj y.ad)/\(∀y,y∈S->nm y.Name=true)/\(S.map (·.Name)).Nodup/\S.length<=16
theorem Z1{l:List aj}:l.Nodup↔∀i,i<l.length->(l.take i).contains (l.getD i [])=false:=by
 unfold List.Nodup;rw[rJ];constructor
 . intro h i a;apply FH.2;intro c;obtain⟨k,b,he⟩:=(p4 (by omega)).1 c;grind
 . intro h k i d a b he;have:=h i a;rw[FH]at this;apply this;refine(p4 (by omega)).2 ⟨k,b,?_⟩;grind
theorem Ou(f:α->Int)(g:α->aj)(d:α)(l:List α):(∀i,i<l.length->kj (l.map f) (l.map g) i=true)↔(l.Pairwise (λa b=>f a<f b)/\∀x,x∈l->cj (f x))/\(∀x,x∈l->nm (g x)=true)/\(l.map g).Nodup:=by
 rw[Eb f d,Z1];have key:∀i,i<l.length->(kj (l.map f) (l.map g) i=true↔cj (f (l.getD i d))/\(i=0\/f (l.getD (i-1) d)<f (l.getD i d))/\nm (g (l.getD i d))=true/\((l.map g).take i).contains ((l.map g).getD i [])=false):=by
  intro i c;unfold kj cj;grind
 constructor
 . intro h;refine⟨⟨λi c=>?_,λx j=>?_⟩,λx j=>?_,λi c=>?_⟩
   . grind
   . obtain⟨i,c,rfl⟩:=e5 j;grind
   . obtain⟨i,c,rfl⟩:=e5 j;grind
   grind
 . rintro ⟨⟨h1,k⟩,m,n⟩ i c
   refine(key i c).2 ⟨k _ (bg c d),?_,m _ (bg c d),n i (by simpa using c)⟩;by_cases h0:i=0
   . omega
   . right;have:=h1 (i-1) (by omega);have e:i-1+1=i:=(by omega);grind
theorem Ll{t:ah}(h:e3 t):dk (tO t) ((∀m,m∈t.ag->mm (decide (t.Kind=6)) m=false)/\(t.Kind=5\/0<t.ag.length)/\gT t.ag/\(∀m,m∈t.ag->nm m.Name=true)/\(t.ag.map (·.Name)).Nodup/\t.ag.length<=16):=by
 obtain⟨r,h1,a⟩:=Kh h;refine⟨r,h1,a.trans ?_⟩;rw[Ou (λm:aR=>m.ad) (λm:aR=>m.Name) ay];have e:(∀i,i<t.ag.length->mm (decide (t.Kind=6)) (t.ag.getD i ay)=false)↔∀m,m∈t.ag->mm (decide (t.Kind=6)) m=false:=by
  constructor
  . intro h m b;obtain⟨i,c,rfl⟩:=e5 b;grind
  grind
 rw[e];unfold gT;grind
theorem aaB{l:List c4}(af:l.length*24<=reachBytes):dk (vn l) (Ar l):=by
 obtain⟨r,h1,a⟩:=M4 af;refine⟨r,h1,a.trans ?_⟩;rw[Ou (λm:c4=>m.ad) (λm:c4=>m.Name) dN];unfold Ar;grind
def gq(t:ah):Prop:=
 (t.Kind=1/\t.Name=[]/\t.bC=0/\t.bG=0/\t.Max=0/\t.bj=[]/\t.ag=[]/\t.Key=0/\t.aG=0/\t.Open=false)\/
 (t.Kind=2/\t.Name=[]/\t.bC<=t.bG/\t.Max=0/\t.bj=[]/\t.ag=[]/\t.Key=0/\t.aG=0/\t.Open=false)\/
 (t.Kind=3/\t.Name=[]/\t.bC=0/\t.bG=0/\(0<=t.Max/\t.Max<=200)/\t.bj=[]/\t.ag=[]/\t.Key=0/\t.aG=0/\t.Open=false)\/
 (t.Kind=4/\nm t.Name=true/\t.bC=0/\t.bG=0/\t.Max=0/\Ar t.bj/\t.ag=[]/\t.Key=0/\t.aG=0)\/
 (t.Kind=5/\nm t.Name=true/\t.bC=0/\t.bG=0/\t.Max=0/\t.bj=[]/\pS false t.ag/\t.Key=0/\t.aG=0/\t.Open=false)\/
 (t.Kind=6/\nm t.Name=true/\t.bC=0/\t.bG=0/\t.Max=0/\t.bj=[]/\pS true t.ag/\t.Key=0/\t.aG=0)\/
 (t.Kind=7/\t.Name=[]/\t.bC=0/\t.bG=0/\(0<=t.Max/\t.Max<=50)/\t.bj=[]/\t.ag=[]/\t.Key=0/\t.Open=false)\/
 (t.Kind=8/\t.Name=[]/\t.bC=0/\t.bG=0/\(0<=t.Max/\t.Max<=50)/\t.bj=[]/\t.ag=[]/\t.Open=false)\/
 (t.Kind=9/\t.Name=[]/\t.bC=0/\t.bG=0/\t.Max=0/\t.bj=[]/\t.ag=[]/\t.Key=0/\t.Open=false)
theorem aaC{t:ah}(h:e3 t):dk (gD t) (gq t):=by
 have p:e3 (⟨0,[],0,0,0,[],[],0,0,false⟩:ah):=⟨by simp,by simp,by simp⟩
 obtain⟨c,N,L,H,M,S,Ms,K,E,b⟩:=t;have aF:=h.syms;have d:=h.gY;have e:=h.jf;simp only at aF d e;by_cases f:c=1
 . subst f;have a:=iZ (a:=(⟨0,N,L,H,M,S,Ms,K,E,b⟩:ah)) ⟨aF,d,e⟩ (⟨0,[],0,0,0,[],[],0,0,false⟩:ah);refine(OS (dk.qh a)).imp ?_;unfold gq;simp
 by_cases i:c=2
 . subst i;have a:=iZ (a:=(⟨0,N,0,0,M,S,Ms,K,E,b⟩:ah)) ⟨aF,d,e⟩ (⟨0,[],0,0,0,[],[],0,0,false⟩:ah);refine(uS (q:=decide (L<=H)) (Q:=L<=H) (by simp) (dk.qh a)).imp (Q:=gq ⟨2,N,L,H,M,S,Ms,K,E,b⟩) ?_;unfold gq;grind
 by_cases j:c=3
 . subst j;have a:=iZ (a:=(⟨0,N,L,H,0,S,Ms,K,E,b⟩:ah)) ⟨aF,d,e⟩ (⟨0,[],0,0,0,[],[],0,0,false⟩:ah);refine(uS (q:=bif decide (0<=M)then decide (M<=200)else false) (Q:=0<=M/\M<=200) (by by_cases g:0<=M<;>simp[g]) (dk.qh a)).imp (Q:=gq ⟨3,N,L,H,M,S,Ms,K,E,b⟩) ?_;unfold gq;grind
 by_cases k:c=4
 . subst k;have a:=iZ (a:=(⟨0,[],L,H,M,[],Ms,K,E,false⟩:ah)) ⟨by simp,d,e⟩ (⟨0,[],0,0,0,[],[],0,0,false⟩:ah);refine(EK (⟨nm N,tJ N,Iff.rfl⟩:dk (kQ N) (nm N=true)) (aaB aF) (dk.qh a)).imp (Q:=gq ⟨4,N,L,H,M,S,Ms,K,E,b⟩) ?_;unfold gq;grind
 by_cases l:c=5
 . subst l;have a:=iZ (a:=(⟨0,[],L,H,M,S,[],K,E,bif b then decide ((5:Int)=5)else false⟩:ah)) ⟨aF,by simp,by simp⟩ (⟨0,[],0,0,0,[],[],0,0,false⟩:ah);refine(EK (⟨nm N,tJ N,Iff.rfl⟩:dk (kQ N) (nm N=true)) (Ll h) (dk.qh a)).imp (Q:=gq ⟨5,N,L,H,M,S,Ms,K,E,b⟩) ?_;unfold gq pS;grind
 by_cases m:c=6
 . subst m;have a:=iZ (a:=(⟨0,[],L,H,M,S,[],K,E,bif b then decide ((6:Int)=5)else false⟩:ah)) ⟨aF,by simp,by simp⟩ (⟨0,[],0,0,0,[],[],0,0,false⟩:ah);refine(EK (⟨nm N,tJ N,Iff.rfl⟩:dk (kQ N) (nm N=true)) (Ll h) (dk.qh a)).imp (Q:=gq ⟨6,N,L,H,M,S,Ms,K,E,b⟩) ?_;unfold gq pS;grind
 by_cases e4:c=7
 . subst e4;have a:=iZ (a:=(⟨0,N,L,H,0,S,Ms,K,0,b⟩:ah)) ⟨aF,d,e⟩ (⟨0,[],0,0,0,[],[],0,0,false⟩:ah);refine(uS (q:=bif decide (0<=M)then decide (M<=50)else false) (Q:=0<=M/\M<=50) (by by_cases g:0<=M<;>simp[g]) (dk.qh a)).imp (Q:=gq ⟨7,N,L,H,M,S,Ms,K,E,b⟩) ?_;unfold gq;grind
 by_cases n:c=8
 . subst n;have a:=iZ (a:=(⟨0,N,L,H,0,S,Ms,0,0,b⟩:ah)) ⟨aF,d,e⟩ (⟨0,[],0,0,0,[],[],0,0,false⟩:ah);refine(uS (q:=bif decide (0<=M)then decide (M<=50)else false) (Q:=0<=M/\M<=50) (by by_cases g:0<=M<;>simp[g]) (dk.qh a)).imp (Q:=gq ⟨8,N,L,H,M,S,Ms,K,E,b⟩) ?_;unfold gq;grind
 by_cases o:c=9
 . subst o;have a:=iZ (a:=(⟨0,N,L,H,M,S,Ms,K,0,b⟩:ah)) ⟨aF,d,e⟩ (⟨0,[],0,0,0,[],[],0,0,false⟩:ah);refine(OS (dk.qh a)).imp (Q:=gq ⟨9,N,L,H,M,S,Ms,K,E,b⟩) ?_;unfold gq;simp
 refine⟨false,by simp[gD,f,i,j,k,l,m,e4,n,o],?_⟩;unfold gq;grind
structure nk (ts:List ah):Prop where
 n:ts.length<=32
 F:∀t,t∈ts->gq t
 D:∀i,i<ts.length->(!(decide ((ts.getD i aN).Name=[]))&&((ts.map (·.Name)).take i).contains (ts.getD i aN).Name)=false
 U:∀t,t∈ts->∀u,u∈fj t->0<=u/\u<ts.length
 qo:∀t,t∈ts->t.Kind=8->1<=(ts.getD t.Key.toNat aN).Kind/\(ts.getD t.Key.toNat aN).Kind<=4
theorem Z2(c8:∀t,t∈ts->e3 t){i:Nat}(e:i<ts.length):rV ts i=none↔gq (ts.getD i aN)/\(!(decide ((ts.getD i aN).Name=[]))&&((ts.map (·.Name)).take i).contains (ts.getD i aN).Name)=false/\(∀u,u∈fj (ts.getD i aN)->0<=u/\u<ts.length)/\
 ((ts.getD i aN).Kind=8->1<=(ts.getD (ts.getD i aN).Key.toNat aN).Kind/\(ts.getD (ts.getD i aN).Key.toNat aN).Kind<=4):=by
 obtain⟨r,f1,f2⟩:=aaC (c8 _ (bg e aN));rw[H6 rfl f1,<-f2];have a:(fj (ts.getD i aN)).any (lz ts.length)=false↔∀u,u∈fj (ts.getD i aN)->0<=u/\u<ts.length:=by
  rw[FF];constructor
  . intro h u a;have:=h u a;unfold lz at this;grind
  . intro h u a;have:=h u a;unfold lz;grind
 rw[<-a];generalize (fj (ts.getD i aN)).any (lz ts.length)=b;generalize (!(decide ((ts.getD i aN).Name=[]))&&((ts.map (·.Name)).take i).contains (ts.getD i aN).Name)=c;have f:(decide ((ts.getD i aN).Kind=8) && !(sX (ts.getD (ts.getD i aN).Key.toNat aN).Kind))=false↔((ts.getD i aN).Kind=8->1<=(ts.getD (ts.getD i aN).Key.toNat aN).Kind/\(ts.getD (ts.getD i aN).Key.toNat aN).Kind<=4):=by
  unfold sX;grind
 rw[<-f];generalize (decide ((ts.getD i aN).Kind=8) && !(sX (ts.getD (ts.getD i aN).Key.toNat aN).Kind))=d;cases r<;>cases b<;>cases c<;>cases d<;>simp
theorem pG(c8:∀t,t∈ts->e3 t)(h:nk ts):pw (⟨ts⟩:aS)=some 0/\vf (⟨ts⟩:aS)=some 0:=by
 obtain⟨e,h1,c,_,b,_⟩:=ZW (s:=⟨ts⟩) (by have:=h.n;unfold reachBytes;show ts.length<=_;omega) c8;have cW:e=0:=b ⟨h.n,λi a=>(Z2 c8 a).2 ⟨h.F _ (bg a aN),h.D i a,h.U _ (bg a aN),h.qo _ (bg a aN)⟩⟩;grind
theorem nk.hB(c8:∀t,t∈ts->e3 t)(h:nk ts):iV ts:=by
 refine⟨by have:=h.n;omega,c8,λt ht=>?_,λt ht m c=>?_,λt ht f=>?_,λt ht f y j=>?_,h.qo⟩
 . have:=h.F t ht;unfold gq at this;unfold oh;omega
 . have:=h.F t ht;unfold gq at this;have o:t.ag≠[]:=by intro e;rw[e]at c;cases c
   have:pS false t.ag\/pS true t.ag:=(by grind);rcases this with a|a
   . exact(a.2.2.1.2 m c).2
   . exact(a.2.2.1.2 m c).2
 . have:=h.F t ht;unfold gq at this;have:pS false t.ag\/pS true t.ag:=(by grind);rcases this with a|a
   . exact⟨a.2.2.1,a.2.2.2.2.2⟩
   . exact⟨a.2.2.1,a.2.2.2.2.2⟩
 . have:=h.F t ht;unfold gq at this;have:Ar t.bj:=(by grind);exact this.2.1.2 y j
def uo(l:List bX):Nat:=(l.map λx=>x.Data.length).sum
theorem aa'(l:List bX):(l.map λx=>x.Data.length+1).sum=uo l+l.length:=by
 unfold uo;induction l with
 |nil=>rfl
 |cons a l ih=>simp only[fu,oy,gQ];omega
def Left(n:Int)(w:Nat)(m:Int):Prop:=m<=n/\-1000000000000000<=m/\(0<=m->(w:Int)+m<=n)
theorem Mo(af:v.Rest.length<=reachBytes)(b:∀x,x∈v.Rest->x.Data.length<=reachBytes):∀(k i:Nat) (n:Int),i+k=v.Rest.length->n<=3000->-1000000000000000<=n->∃m,rl (n,(i:Int),v)=some (m,v)/\Left n (uo (v.Rest.drop i)) m
 |0,i,n,f,c,a=>⟨n,by
  rw[rl,ak,I.aU];intro h;have g:¬(i:Int)<(v.Rest.length:Int):=by omega
  simp[g]at h,by
  rw[en (by omega:v.Rest.length<=i)]
  exact⟨by omega,a,λ_=>by simp[uo]⟩⟩
 |k+1,i,n,f,c,a=>by
  have aC:i<v.Rest.length:=by omega
  have p:=dB af;have d:=b _ (bg aC b5);unfold reachBytes at d;have g:(i:Int)<(v.Rest.length:Int):=by omega
  rw[rl];by_cases h0:0<=n
  . rw[ae (by simp[g,h0]),ae (aQ aC)];simp only[bc,I.aU];rw[hP,bH];obtain⟨m,j,q,l,o⟩:=Mo af b k (i+1) (n-((v.Rest.getD i b5).Data.length:Int)) (by omega) (by omega) (by omega);refine⟨m,j,by omega,l,λh=>?_⟩;have:=o h;rw[eB aC b5];have e:uo (v.Rest.getD i b5::v.Rest.drop (i+1))=(v.Rest.getD i b5).Data.length+uo (v.Rest.drop (i+1)):=by unfold uo;simp only[fu,oy]
    rw[e];omega
  . refine⟨n,?_,by omega,a,λh=>absurd h h0⟩;rw[ak (by simp[g,h0]),I.aU]
theorem Mp(af:v.aw.length<=reachBytes)(ih:∀x,x∈v.aw->∀n,0<=n->n<=3000->∃m,nz (x,n)=some m/\Left n (wt x) m):∀(k i:Nat) (n:Int),i+k=v.aw.length->n<=3000->-1000000000000000<=n->∃m,sE (n,(i:Int),v)=some (m,v)/\Left n (cK (v.aw.drop i)) m
 |0,i,n,d,c,b=>⟨n,by
  rw[sE,ak,I.aU];intro h;have g:¬(i:Int)<(v.aw.length:Int):=by omega
  simp[g]at h,by
  rw[en (by omega:v.aw.length<=i),gM]
  exact⟨by omega,b,λ_=>by simp⟩⟩
 |k+1,i,n,d,c,b=>by
  have aC:i<v.aw.length:=by omega
  have l:=dB af;have g:(i:Int)<(v.aw.length:Int):=by omega
  rw[sE];by_cases h0:0<=n
  . obtain⟨a,a1,a2,a3,a4⟩:=ih _ (bg aC au) n h0 c;rw[ae (by simp[g,h0]),ae (aQ aC)];simp only[bc,I.aU];rw[a1];simp only[aT,ao];rw[bH];obtain⟨m,e,o,f,j⟩:=Mp af ih k (i+1) a (by omega) (by omega) (by omega);refine⟨m,e,by omega,f,λh=>?_⟩;have:=j h;have:=a4 (by omega);rw[eB aC au,hn];omega
  . refine⟨n,?_,by omega,b,λh=>absurd h h0⟩;rw[ak (by simp[g,h0]),I.aU]
theorem Mq(af:v.ai.length<=reachBytes)(ih:∀x,x∈v.ai->∀n,0<=n->n<=3000->∃m,nz (x,n)=some m/\Left n (wt x) m):∀(k i:Nat) (n:Int),i+k=v.ai.length->n<=3000->-1000000000000000<=n->∃m,sF (n,(i:Int),v)=some m/\Left n (cK (v.ai.drop i)) m
 |0,i,n,d,c,b=>⟨n,by
  rw[sF,ak];intro h;have g:¬(i:Int)<(v.ai.length:Int):=by omega
  simp[g]at h,by
  rw[en (by omega:v.ai.length<=i),gM]
  exact⟨by omega,b,λ_=>by simp⟩⟩
 |k+1,i,n,d,c,b=>by
  have aC:i<v.ai.length:=by omega
  have l:=dB af;have g:(i:Int)<(v.ai.length:Int):=by omega
  rw[sF];by_cases h0:0<=n
  . obtain⟨a,a1,a2,a3,a4⟩:=ih _ (bg aC au) n h0 c;rw[ae (by simp[g,h0]),ae (aQ aC)];simp only[bc,I.aU];rw[a1];simp only[aT,ao];rw[bH];obtain⟨m,e,o,f,j⟩:=Mq af ih k (i+1) a (by omega) (by omega) (by omega);refine⟨m,e,by omega,f,λh=>?_⟩;have:=j h;have:=a4 (by omega);rw[eB aC au,hn];omega
  . refine⟨n,?_,by omega,b,λh=>absurd h h0⟩;rw[ak (by simp[g,h0])]
theorem ag2(r:bK v):∀n:Int,0<=n->n<=3000->∃m,nz (v,n)=some m/\Left n (wt v) m:=by
 induction r with
 |mk v hs h1 o d x w q c9 y z A t s=>
  intro n h0 aE;have aI:aM .i64 (aM .i64 10 (v.bn.length:Int)) (v.Rest.length:Int)=((10+v.bn.length+v.Rest.length:Nat):Int):=by
   have a1:=dB hs;have a2:=dB d;unfold reachBytes at hs d;have:aM .i64 10 (v.bn.length:Int)=((10+v.bn.length:Nat):Int):=vZ (a:=10) (by omega);rw[this,vZ (by omega)]
  unfold reachBytes at hs;have p:=d;unfold reachBytes at p;have l:dj .i64 n ((10+v.bn.length+v.Rest.length:Nat):Int)=n-((10+v.bn.length+v.Rest.length:Nat):Int):=hP;obtain⟨a,a1,a2,a3,a4⟩:=Mo d q v.Rest.length 0 (n-((10+v.bn.length+v.Rest.length:Nat):Int)) (by omega) (by omega) (by omega);obtain⟨b,b1,b2,b3,b4⟩:=Mp h1 t v.aw.length 0 a (by omega) (by omega) (by omega);obtain⟨c,g,u,j,k⟩:=Mq o s v.ai.length 0 b (by omega) (by omega) (by omega);have e:rl (n-((10+v.bn.length+v.Rest.length:Nat):Int),0,v)=_:=a1;have f:sE (a,0,v)=_:=b1;have i:sF (b,0,v)=_:=g;refine⟨c,?_,by omega,j,λh=>?_⟩
  . rw[nz];simp only[I.aU];rw[aI,l,e];simp only[aT,ao,I.aU];rw[f];simp only[ao,I.aU];rw[i];rfl
  . have:=k h;have:=b4 (by omega);have:=a4 (by omega);rw[fw,aa'];grind
theorem Ze(a:bK v):∃b,B4 v=some b/\(b=true->wt v<=3000):=by
 obtain⟨m,c,e,f,d⟩:=ag2 a 3000 (by omega) (by omega);rw[B4];simp only[I.aU];rw[c];refine⟨decide (0<=m),rfl,λh=>?_⟩;have h0:0<=m:=gZ h;have:=d h0;omega
theorem Zf(aE:ts.length<9223372036854775807)(c8:∀t,t∈ts->e3 t)(bD:∀t,t∈ts->oh t.Kind)(b:bK v)(t:Int):dk (vh ((⟨ts⟩:aS),t,v)) (b6 ts true t v):=by
 obtain⟨r,h1,a⟩:=Ag aE c8 bD b t true;refine⟨r,?_,a⟩;rw[vh];simp only[I.aU];rw[h1];rfl
def adK(ts:List ah)(ms:List aR):Prop:=∀m,m∈ms->m.bZ=true->b6 ts true m.av m.bu
theorem agH{t:aK}{x:t.den cY.D}(h:Ok cY [t] x):∀d,d∈t.row cY x->WF cY d:=λd a=>h ⟨t,x⟩ (FD ..) d a
theorem adn(H:iV ts)(b:bK v)(c:wt v<=1099511627776)(a:b6 ts false t v):
 j8 (t,v,1,ts,0)=some (br ts t v,ts,((dL ts t v:Nat):Int)):=by
 have h:=adl H b c t a 1 0 (by omega) (by omega);have d:=qF (ts:=ts) t v;have e:max 0 (1+dL ts t v-1)=dL ts t v:=by omega
 rw[e]at h;exact h
noncomputable def ki (ts:List ah)(t:Int)(v:I):aj×Int:=
 if 4096<(br ts t v).length\/200<dL ts t v then([],3)else(br ts t v,0)
abbrev fG:=dx
abbrev eS:=bt
abbrev aev:=je
theorem ub{a:Int}(h:¬a=0):(!(decide (a=0)))=true:=by simp[h]
theorem ho{x m:Int}(h:0<=x:=by omega)(a:0<=m:=by omega):b' x m=x%m:=by unfold b';rw[Int.tmod_eq_emod_of_nonneg h]
theorem adL{x:Int}(h:0<=x)(a:x<=255):fC .u8 x 4=x/4:=by
 unfold fC;rw[yG h,IntKind.wrap_u8];omega
theorem lo{x:Int}(h:cy x):bY .i64 x=x:=by
 unfold bY cy at*;rw[IntKind.wrap_i64];omega
theorem I6{k:Int}(h:0<=k/\k<=25):mL (bY .i32 (aM .i64 97 k))=[UInt8.ofNat (97+k.toNat)]:=by
 have key:∀k:Nat,k<26->mL (bY .i32 (aM .i64 97 (k:Int)))=[UInt8.ofNat (97+k)]:=by decide+kernel
 grind
theorem adM{k:Int}(h:0<=k/\k<=25):mL (bY .i32 (aM .i64 65 k))=[UInt8.ofNat (65+k.toNat)]:=by
 have key:∀k:Nat,k<26->mL (bY .i32 (aM .i64 65 (k:Int)))=[UInt8.ofNat (65+k)]:=by decide+kernel
 grind
theorem Kq{s:aj}(h0:s≠[])(af:s.length<=24)(h:∀i:Nat,i<s.length->mM (fz s i)=true):nm s=true:=by
 have key:∀k i:Nat,i+k=s.length->k' (s,(s.length:Int),(i:Int))=some (.inr ()):=by
  intro k;induction k with
  |zero=>intro i d;rw[k',cp]
  |succ k ih=>
   intro i d;rw[k',bz,ae (aQ (by omega)),Dc,h i (by omega)];simp only[aT,ao,dn];rw[ae (by rw[aQ (by omega)];rfl),bH];exact ih (i+1) (by omega)
 have a:0<s.length:=uh.2 h0;have b:=h 0 a;have e:aH 0 s.length=true:=aQ (k:=0) a;have ht:(bif decide (s=[])then true else decide (24<(s.length:Int)))=false:=by grind
 have f:k' (s,(s.length:Int),0)=some (.inr ()):=key s.length 0 (by omega);have c:mM (fz s 0)=true:=b;unfold nm;rw[kQ];simp only[aT,ao];rw[ht,e,Dc,c];grind
theorem adN(h:65<=c/\c<=90\/97<=c/\c<=122):nm [UInt8.ofNat c]=true:=by
 refine Kq (by simp) (by simp) λi a=>?_;have:i=0:=by simp at a;omega
 subst this;have e:fz [UInt8.ofNat c] ((0:Nat):Int)=(c:Int):=by
  rw[qZ];simp only[km];rw[lg]
 rw[e];unfold mM;simp;omega
theorem PD{b:Nat}(d:97<=b/\b<=122)(h:97<=c/\c<=122):nm [UInt8.ofNat b,UInt8.ofNat c]=true:=by
 refine Kq (by simp) (by simp) λi a=>?_;have:i=0\/i=1:=by simp at a;omega
 rcases this with rfl|rfl
 . rw[qZ];simp only[km];rw[lg];unfold mM;simp;omega
 . rw[qZ];simp only[yq,km];rw[lg];unfold mM;simp;omega
def c'(x:Int):Prop:=0<=x/\x<=255
structure oK (x:fG):Prop where
 k:c' x.Kind
 a:c' x.A
 b:c' x.B
 c:c' x.C
 p:∀q,q∈x.c1->c' q.ad/\c' q.av/\c' q.hd
 l:x.c1.length<=reachBytes
def ek(aJ:List fG)(i:Int):Int:=1+(aJ.getD i.toNat eS).Kind%9
section
variable {aJ:List fG}(cr:∀x,x∈aJ->oK x)(bb:aJ.length<=5)
include cr bb in
theorem rz{i:Int}(h0:0<=i)(h1:i<aJ.length):ry ((⟨aJ⟩:et),i)=some (ek aJ i)/\1<=ek aJ i/\ek aJ i<=9:=by
 obtain⟨j,rfl⟩:∃j:Nat,i=(j:Int):=⟨i.toNat,by omega⟩
 have c:=(cr _ (bg (by omega:j<aJ.length) eS)).k;unfold ek;rw[bc];obtain⟨a,b⟩:=c;refine⟨?_,by omega,by omega⟩;rw[ry,ae (aQ (by omega:j<aJ.length)),bc,ho a,lo ⟨by omega,by omega⟩,kg]
def EJ(aJ:List fG)(i u:Int):Prop:=0<=u/\u<aJ.length/\(7<=ek aJ u\/u<i)
include cr bb in
theorem Lm:∀(k i:Nat),i+k=aJ.length->nV ((aJ.length:Int),(i:Int),aJ)=some (.inr ())\/∃u:Int,nV ((aJ.length:Int),(i:Int),aJ)=some (.inl u)/\0<=u/\u<aJ.length/\7<=ek aJ u
 |0,i,b=>.inl (by rw[nV,cp])
 |k+1,i,b=>by
  obtain⟨e,_,_⟩:=rz cr bb (i:=(i:Int)) (by omega) (by omega);rw[nV,bz,e];simp only[aT,ao,x9];by_cases a:7<=ek aJ i
  . grind
  . rw[ak (by simpa using a),bH];exact Lm k (i+1) (by omega)
include cr bb in
theorem aaD(h1:1<=aJ.length){i:Int}(o:0<=i/\i<aJ.length)(g:c' code):∃u,x' ((⟨aJ⟩:et),i,code)=some u/\(u<0\/EJ aJ i u):=by
 have m:bY .i64 code=code:=lo ⟨by unfold c' at g;omega,by unfold c' at g;omega⟩;obtain⟨l,n⟩:=g;have d:0<=code%(aJ.length:Int):=l6 _ (by omega);have j:code%(aJ.length:Int)<aJ.length:=l1 _ (by omega);rw[x'];simp only[aT,ao];rw[ae (ub (by omega)),m,ho l];obtain⟨e,_,_⟩:=rz cr bb d j;rw[e];simp only[ao,x9];by_cases f:7<=ek aJ (code%(aJ.length:Int))
 . rw[ae (by simp[f])];exact⟨_,rfl,.inr ⟨d,j,.inl f⟩⟩
 . by_cases aC:code%(aJ.length:Int)<i
   . rw[ae (by simp[aC])];exact⟨_,rfl,.inr ⟨d,j,.inr aC⟩⟩
   . rw[ak (by simp[f,aC])];by_cases k:0<i
     . rw[ae (by simpa using k),bz,ho d];have a0:0<=code%(aJ.length:Int)%i:=l6 _ (by omega);have a1:code%(aJ.length:Int)%i<i:=l1 _ (by omega);exact⟨_,rfl,.inr ⟨a0,by omega,.inr a1⟩⟩
     . rw[ak (by simpa using k)];have h0:=Lm cr bb aJ.length 0 (by omega);have cW:nV ((aJ.length:Int),((0:Nat):Int),aJ)=nV ((aJ.length:Int),0,aJ):=rfl;rw[cW]at h0;rcases h0 with h|⟨u,h,a,b,c⟩
       . grind
       . rw[h];exact⟨u,rfl,.inr ⟨a,b,.inl c⟩⟩
def oJ(aJ:List fG)(u:Int):Prop:=0<=u/\u<aJ.length/\1<=ek aJ u/\ek aJ u<=4
include cr bb in
theorem PE{code:Int}(l:c' code)(h1:1<=aJ.length):∀(k i:Nat),i+k=aJ.length->(nw (code,(aJ.length:Int),(i:Int),aJ)=some (.inr ())/\∀m:Nat,i<=m->m<aJ.length->¬oJ aJ ((code+m)%(aJ.length:Int)))\/∃u:Int,nw (code,(aJ.length:Int),(i:Int),aJ)=some (.inl u)/\oJ aJ u
 |0,i,n=>.inl ⟨by rw[nw,cp],λm a b=>by omega⟩
 |k+1,i,n=>by
  obtain⟨g,j⟩:=l;have d:0<=(code+i)%(aJ.length:Int):=l6 _ (by omega);have f:(code+i)%(aJ.length:Int)<aJ.length:=l1 _ (by omega);obtain⟨e,aI,p⟩:=rz cr bb d f;rw[nw,bz,ae (ub (by omega)),lo ⟨by omega,by omega⟩,kg,ho];simp only[aT,ao];rw[e];simp only[ao,yT];by_cases c:ek aJ ((code+i)%(aJ.length:Int))<=4
  . rw[ae (by simp[aI,c])];exact .inr ⟨_,rfl,d,f,aI,c⟩
  . rw[ak (by simp[c]),bH];rcases PE ⟨g,j⟩ h1 k (i+1) (by omega)with⟨a,b⟩|h
    . refine .inl ⟨a,λm q r=>?_⟩;by_cases o:m=i
      . subst o;rintro ⟨_,_,_,h⟩;exact c h
      grind
    grind
include cr bb in
theorem PF(b:c' code)(h1:1<=aJ.length):∃u,tL ((⟨aJ⟩:et),code)=some u/\((u= -1/\∀w,¬oJ aJ w)\/oJ aJ u):=by
 rw[tL];have h0:=PE cr bb b h1 aJ.length 0 (by omega);have cW:nw (code,(aJ.length:Int),((0:Nat):Int),aJ)=nw (code,(aJ.length:Int),0,aJ):=rfl;rw[cW]at h0;rcases h0 with⟨h,a⟩|⟨u,h,a⟩
 . rw[h];refine⟨-1,rfl,.inl ⟨rfl,λw d=>?_⟩⟩;have f:=d;obtain⟨jH,g,_⟩:=f;have c:0<=(w-code)%(aJ.length:Int):=l6 _ (by omega);have i:(w-code)%(aJ.length:Int)<aJ.length:=l1 _ (by omega);refine a ((w-code)%(aJ.length:Int)).toNat (by omega) (by omega) ?_;have e:(code+(((w-code)%(aJ.length:Int)).toNat:Int))%(aJ.length:Int)=w:=by
    rw[yr c,Int.add_emod_emod];have:code+(w-code)=w:=(by omega);rw[this];exact Int.emod_eq_of_lt jH g
   grind
 grind
theorem I7{x:fG}(h:oK x):pZ x=some (x.A%7-3):=by
 have:=h.a;unfold c' at this;rw[pZ,ho this.1,lo ⟨by omega,by omega⟩,hP]
theorem Ov{x:fG}(h:oK x):sV x=some (x.A%7-3+x.B%6):=by
 have d:=h.a;have c:=h.b;unfold c' at d c;rw[sV,I7 h];simp only[aT,ao];rw[ho c.1,lo ⟨by omega,by omega⟩,kg]
def uL(l:aq)(n:Int):Prop:=l.Pairwise (· < ·)/\∀x,x∈l->1<=x/\x<=n
theorem I8{x:fG}:∀(k i:Nat) (acc:aq),i+k=6->uL acc i->acc.length<=i->∃l,pT ((i:Int),x,acc)=some l/\uL l 6/\l.length<=6
 |0,i,acc,f,c,af=>⟨acc,by rw[pT,cp],⟨c.1,λy d=>by have:=c.2 y d;omega⟩,by omega⟩
 |k+1,i,acc,f,c,af=>by
  have e:uL acc ((i+1:Nat):Int):=⟨c.1,λy d=>by have:=c.2 y d;omega⟩
  rw[pT,bz,hT];simp only[aT,ao];rw[bH];split
  . rw[ae (cS)];refine I8 k (i+1) _ (by omega) ⟨?_,λy d=>?_⟩ (by simp;omega)
    . rw[FB];refine⟨c.1,by simp,λa h1 b g=>?_⟩;have:=c.2 a h1;grind
    . rcases fY.1 d with h|h
      . have:=c.2 y h;omega
      grind
  . exact I8 k (i+1) acc (by omega) e (by omega)
theorem adO(x:fG):∃l,nC x=some l/\uL l 6/\1<=l.length/\l.length<=6:=by
 obtain⟨l,h1,d,e⟩:=I8 (x:=x) 6 0 [] (by omega) ⟨.nil,λy b=>by cases b⟩ (by simp);have c:pT (0,x,[])=some l:=h1;rw[nC,c];simp only[aT,ao];cases l with
 |nil=>
  rw[hT,ae (cS (by omega) (by simp))];exact⟨_,rfl,⟨by simp,λy b=>by simp at b;omega⟩,by simp,by simp⟩
 |cons a l=>grind
def kl(x:fG):aq:=(nC x).getD []
theorem u7(x:fG):nC x=some (kl x)/\uL (kl x) 6/\1<=(kl x).length/\(kl x).length<=6:=by
 obtain⟨l,h1,a⟩:=adO x;unfold kl;grind
def mj(k:Int)(x:fG)(key:Prop)(v:I):Prop:=
 v.aw=[]/\v.ai=[]/\v.Rest=[]/\
 (k=1/\v.Kind=1/\v.bf=0/\v.bn=[]/\v.ad=0\/
  k=2/\v.Kind=2/\v.bL=false/\v.bn=[]/\v.ad=0/\x.A%7-3<=v.bf/\v.bf<=x.A%7-3+x.B%6\/
  k=3/\v.Kind=3/\v.bL=false/\v.bf=0/\v.ad=0/\(v.bn.length:Int)<=x.A%4\/
  k=4/\v.Kind=4/\v.bL=false/\v.bf=0/\v.bn=[]/\v.ad∈kl x\/
  7<=k/\v.bL=false/\v.bf=0/\v.bn=[]/\v.ad=0/\(v.Kind=k/\(k=8->key)\/k=8/\v.Kind=7/\¬key))
def Init(aJ:List fG)(t:Int)(v:I):Prop:=mj (ek aJ t) (aJ.getD t.toNat eS) (∃w,oJ aJ w) v
include cr bb in
theorem Z3(h1:1<=aJ.length)(ht:0<=t/\t<aJ.length)(p:c' code):∃r,x3 ((⟨aJ⟩:et),t,code)=some r/\(r.2=false->r.1=au)/\(r.2=true->Init aJ t r.1):=by
 obtain⟨j,rfl⟩:∃j:Nat,t=(j:Int):=⟨t.toNat,by omega⟩
 have l:j<aJ.length:=by omega
 have c:=cr _ (bg l eS);obtain⟨e,M,N⟩:=rz cr bb ht.1 ht.2;obtain⟨u,C,D⟩:=PF cr bb (code:=0) ⟨by omega,by omega⟩ h1;obtain⟨d,I⟩:=p;rw[x3,ae (aQ l)];simp only[aT,ao,bc];rw[e];simp only[ao];unfold Init;simp only[bc];have y:=u7 (aJ.getD j eS);generalize ek aJ (j:Int)=k at*;generalize aJ.getD j eS=x at*;have i:=c.a;have o:=c.b;unfold c' at i o;have s:k=1\/k=2\/k=3\/k=4\/k=5\/k=6\/k=7\/k=8\/k=9:=by omega
 rcases s with rfl|rfl|rfl|rfl|rfl|rfl|rfl|rfl|rfl
 . exact⟨_,rfl,λh=>(by cases h),λ_=>by unfold mj;simp⟩
 . have el:=I7 c;have n:=Ov c;have aI:aM .i64 (dj .i64 (x.A%7-3+x.B%6) (x.A%7-3)) 1=x.B%6+1:=by rw[hP,kg];omega
   have m:b' (bY .i64 code) (x.B%6+1)=code%(x.B%6+1):=by rw[lo ⟨by omega,by omega⟩,ho d]
   have G:0<=code%(x.B%6+1):=l6 _ (by omega);have H:code%(x.B%6+1)<x.B%6+1:=l1 _ (by omega);have dh:aM .i64 (x.A%7-3) (code%(x.B%6+1))=x.A%7-3+code%(x.B%6+1):=kg;simp only[Int.reduceEq,di,dp,bV,b7,bS,ao,dW,ev];rw[el];simp only[aT,ao];rw[n];simp only[ao];rw[aI,bz,m,dh];exact⟨_,rfl,λh=>(by cases h),λ_=>by unfold mj;simp;omega⟩
 . simp only[Int.reduceEq,di,dp,bV,b7,bS,ao,dW,ev];rw[ho i.1,ho d];by_cases g:0<x.A%4
   . by_cases f:code%2=1
     . rw[ae (by simp[g,f])];exact⟨_,rfl,λh=>(by cases h),λ_=>by unfold mj;simp;omega⟩
     . rw[ak (by simp[f])];exact⟨_,rfl,λh=>(by cases h),λ_=>by unfold mj;simp;omega⟩
   . rw[ak (by simp[g])];exact⟨_,rfl,λh=>(by cases h),λ_=>by unfold mj;simp;omega⟩
 . obtain⟨F,J,K,L⟩:=y;simp only[Int.reduceEq,di,dp,bV,b7,bS,ao,dW,ev];rw[F];simp only[aT,ao];have G:0<=code%((kl x).length:Int):=l6 _ (by omega);have H:code%((kl x).length:Int)<((kl x).length:Int):=l1 _ (by omega);rw[ae (ub (by omega)),lo ⟨by omega,by omega⟩,ho d];obtain⟨q,z⟩:∃q:Nat,code%((kl x).length:Int)=(q:Int):=⟨(code%((kl x).length:Int)).toNat,by omega⟩
   rw[z,ae (aQ (by omega)),bc];exact⟨_,rfl,λh=>(by cases h),λ_=>by unfold mj;simp;rw[<-Fq];exact bg (by omega) 0⟩
 . exact⟨_,rfl,λ_=>rfl,λh=>by cases h⟩
 . exact⟨_,rfl,λ_=>rfl,λh=>by cases h⟩
 . exact⟨_,rfl,λh=>(by cases h),λ_=>by unfold mj;simp⟩
 . simp only[Int.reduceEq,di,dp,bV,b7,bS,ao,dW,ev];rw[C];rcases D with⟨rfl,a⟩|a
   . exact⟨_,rfl,λh=>(by cases h),λ_=>by unfold mj;simp;exactλw E=>a w E⟩
   . have v:¬u<0:=by have:=a.1;omega
     simp only[aT,ao];rw[ak (by simp[v])];exact⟨_,rfl,λh=>(by cases h),λ_=>by unfold mj;simp;exact⟨u,a⟩⟩
 . exact⟨_,rfl,λh=>(by cases h),λ_=>by unfold mj;simp⟩
structure uN (aJ:List fG)(i:Int)(record:Bool)(m:aR):Prop where
 id:1<=m.ad/\m.ad<=12
 name:m.Name=[UInt8.ofNat 109,UInt8.ofNat (97+m.ad.toNat)]
 rY:EJ aJ i m.av
 gh:m.cf=true->m.bZ=false
 un:record=false->m.cf=false/\m.bZ=false
 RY:m.bZ=false->m.bu=au
 ke:m.bZ=true->Init aJ m.av m.bu
include cr bb in
theorem Mr(h1:1<=aJ.length){i:Int}(o:0<=i/\i<aJ.length){x:fG}(f:oK x)(record:Bool){id:Int}(d:1<=id/\id<=12){acc:List aR}(v:acc.length<=12):
 ∀(k j:Nat),j+k=x.c1.length->∃l,re (i,record,id,(j:Int),aJ,x,acc)=some (i,record,id,aJ,x,acc++l)/\l.length<=1/\∀m,m∈l->m.ad=id/\uN aJ i record m
 |0,j,w=>⟨[],by rw[re,cp];simp,by simp,λm z=>by cases z⟩
 |k+1,j,w=>by
  have aC:j<x.c1.length:=by omega
  have N:=dB f.l;obtain⟨E,F,G⟩:=f.p _ (bg aC aev);obtain⟨u,C,O⟩:=aaD cr bb h1 o F;rw[re,bz,ae (aQ aC)];simp only[aT,ao,bc];have D:x' ((⟨aJ⟩:et),i,(x.c1.getD j je).av)=some u:=C;rw[D];simp only[ao];generalize q:x.c1.getD j je=p;have Q:c' p.ad:=by rw[<-q];exact E
  have H:c' p.hd:=by rw[<-q];exact G
  obtain⟨f1,f2⟩:=H;have aI:b' p.hd 4=p.hd%4:=ho f1;have t:fC .u8 p.hd 4=p.hd/4:=adL f1 f2;have M:=Mr h1 o f record d v k (j+1) (by omega);by_cases s:(bif (!(decide (aM .i64 1 (bY .i64 (b' p.ad 12))=id)))then true else decide (u<0))=true
  . rw[ae s,bH];exact M
  . rw[ak s];have c:EJ aJ i u:=(by grind);have B:=I6 (k:=id) ⟨by omega,by omega⟩;rw[B];have A:([109]++[UInt8.ofNat (97+id.toNat)]:aj)=[UInt8.ofNat 109,UInt8.ofNat (97+id.toNat)]:=rfl;rw[ae (gf (by simp)),A,aI,t];obtain⟨r,J,K,L⟩:=Z3 cr bb h1 ⟨c.1,c.2.1⟩ (code:=p.hd/4) ⟨by omega,by omega⟩;have e:∀m:aR,room 160 (acc++[m]).length=true:=λm=>cS;have done:∀m:aR,m.ad=id->uN aJ i record m->∃l,(some (i,record,id,aJ,x,acc++[m]):Option (Int×Bool×Int×List fG×fG×List aR))=some (i,record,id,aJ,x,acc++l)/\l.length<=1/\∀m,m∈l->m.ad=id/\uN aJ i record m:=λm a b=>⟨[m],rfl,by simp,λy P=>by grind⟩
    cases record with
    |false=>
     simp only[dW,bV,b7];rw[ae (e _)];exact done _ rfl ⟨d,rfl,c,λh=>(by cases h),λ_=>⟨rfl,rfl⟩,λ_=>rfl,λh=>by cases h⟩
    |true=>
     simp only[ev];by_cases g:p.hd%4=1
     . rw[ae (by simpa using g),cp,ae (e _)];exact done _ rfl ⟨d,rfl,c,λ_=>rfl,λh=>(by cases h),λ_=>rfl,λh=>by cases h⟩
     . rw[ak (by simpa using g)];by_cases n:2<=p.hd%4
       . rw[ae (by simpa using n),J];simp only[ao,I.aU];rw[ae (e _)];exact done _ rfl ⟨d,rfl,c,λh=>(by cases h),λh=>(by cases h),K,L⟩
       . rw[ak (by simpa using n),ae (e _)];exact done _ rfl ⟨d,rfl,c,λh=>(by cases h),λh=>(by cases h),λ_=>rfl,λh=>by cases h⟩
def uO(aJ:List fG)(i:Int)(record:Bool)(l:List aR):Prop:=l.Pairwise (λa b=>a.ad<b.ad)/\(∀m,m∈l->uN aJ i record m)/\l.length<=12
include cr bb in
theorem Mt(h1:1<=aJ.length){i:Int}(f:0<=i/\i<aJ.length){x:fG}(j:oK x)(record:Bool):∀(k id:Nat) (acc:List aR),id+k=13->1<=id->
 acc.Pairwise (λa b=>a.ad<b.ad)->(∀m,m∈acc->uN aJ i record m/\m.ad<id)->acc.length<id->∃l,rj (i,record,(id:Int),aJ,x,acc)=some l/\uO aJ i record l
 |0,id,acc,n,h0,d,e,af=>⟨acc,by rw[rj,cp],d,λm g=>(e m g).1,by omega⟩
 |k+1,id,acc,n,h0,d,e,af=>by
  rw[rj,bz];obtain⟨l,o,l2,s⟩:=Mr cr bb h1 f j record (id:=(id:Int)) ⟨by omega,by omega⟩ (acc:=acc) (by omega) x.c1.length 0 (by omega);have p:re (i,record,(id:Int),0,aJ,x,acc)=_:=o;rw[p];simp only[aT,ao];rw[bH];refine Mt h1 f j record k (id+1) _ (by omega) (by omega) ?_ (λm g=>?_) (by simp;omega)
  . rw[FB];refine⟨d,?_,λa q b r=>?_⟩
    . match l,l2 with
      |[],_=>exact .nil
      |[a],_=>simp
      |a::b::c,h=>simp at h
    grind
  grind
include cr bb in
theorem Mu(h1:1<=aJ.length){i:Int}(b:0<=i/\i<aJ.length)(record:Bool):∃l,sO ((⟨aJ⟩:et),i,record)=some l/\uO aJ i record l:=by
 obtain⟨j,rfl⟩:∃j:Nat,i=(j:Int):=⟨i.toNat,by omega⟩
 have a:j<aJ.length:=by omega
 have d:=cr _ (bg a eS);obtain⟨l,e,l2⟩:=Mt cr bb h1 b d record 12 1 [] (by omega) (by omega) .nil (λm c=>by cases c) (by simp);refine⟨l,?_,l2⟩;have f:rj ((j:Int),record,1,aJ,aJ.getD j eS,[])=some l:=e;rw[sO,ae (aQ a),bc];grind
def qj(l:aq):List c4:=l.map λj=>⟨j,[UInt8.ofNat 115,UInt8.ofNat (97+j.toNat)]⟩
theorem Ow{l:aq}(af:l.length<=6)(g:∀x,x∈l->1<=x/\x<=6)(n i:Int)(b:List fG)(b1:Int)(b2:aj)(b3 b4 a c d:Int)(e:Bool)(f:List ah):∀(k j:Nat) (acc:List c4),j+k=l.length->acc.length<=j->
 pe (n,i,l,(j:Int),b,b1,b2,b3,b4,a,c,d,e,f,acc)=some (n,i,b,b1,b2,b3,b4,a,c,d,e,f,acc++qj (l.drop j))
 |0,j,acc,o,m=>by
  rw[pe,cp,en (by omega:l.length<=j)];simp[qj]
 |k+1,j,acc,o,m=>by
  have aC:j<l.length:=by omega
  have p:=g _ (bg aC 0);rw[pe,bz,ae (aQ aC),ae (aQ aC)];simp only[aT,ao,bc];rw[I6 ⟨by omega,by omega⟩,ae (gf (by simp)),ae (cS),bH,Ow af g n i b b1 b2 b3 b4 a c d e f k (j+1) _ (by omega) (by simp;omega),eB aC 0];simp[qj]
def fq(aJ:List fG)(i:Int)(t:ah):Prop:=
 let x:=aJ.getD i.toNat eS;let n:=(aJ.length:Int)
 let a:=[UInt8.ofNat (65+i.toNat)]
 (ek aJ i=1/\t=⟨1,[],0,0,0,[],[],0,0,false⟩)\/
 (ek aJ i=2/\t=⟨2,[],x.A%7-3,x.A%7-3+x.B%6,0,[],[],0,0,false⟩)\/
 (ek aJ i=3/\t=⟨3,[],0,0,x.A%4,[],[],0,0,false⟩)\/
 (ek aJ i=4/\∃o,t=⟨4,a,0,0,0,qj (kl x),[],0,0,o⟩)\/
 (ek aJ i=5/\∃l,uO aJ i true l/\t=⟨5,a,0,0,0,[],l,0,0,false⟩)\/
 (ek aJ i=6/\t=⟨5,a,0,0,0,[],[],0,0,false⟩)\/
 (ek aJ i=6/\∃l o,uO aJ i false l/\0<l.length/\t=⟨6,a,0,0,0,[],l,0,0,o⟩)\/
 (ek aJ i=7/\t=⟨7,[],0,0,x.A%4,[],[],0,x.C%n,false⟩)\/
 (ek aJ i=8/\(∀w,¬oJ aJ w)/\t=⟨7,[],0,0,x.A%4,[],[],0,x.C%n,false⟩)\/
 (ek aJ i=8/\∃k,oJ aJ k/\t=⟨8,[],0,0,x.A%4,[],[],k,x.C%n,false⟩)\/
 (ek aJ i=9/\t=⟨9,[],0,0,0,[],[],0,x.C%n,false⟩)
include cr bb in
theorem R3(h1:1<=aJ.length):∀(k i:Nat) (acc:List ah),i+k=aJ.length->acc.length=i->(∀j,j<i->fq aJ (j:Int) (acc.getD j aN))->
 ∃l,fT ((aJ.length:Int),(i:Int),aJ,acc)=some l/\l.length=aJ.length/\∀j,j<aJ.length->fq aJ (j:Int) (l.getD j aN)
 |0,i,acc,E,af,v=>⟨acc,by rw[fT,cp],by omega,λj F=>v j (by omega)⟩
 |k+1,i,acc,E,af,v=>by
  have aC:i<aJ.length:=by omega
  have m:=cr _ (bg aC eS);obtain⟨e,P,Q⟩:=rz cr bb (i:=(i:Int)) (by omega) (by omega);have next:∀t:ah,fq aJ (i:Int) t->∃l,(if room 120 (acc++[t]).length then fT ((aJ.length:Int),aM .i64 (i:Int) 1,aJ,acc++[t])else none)=some l/\l.length=aJ.length/\∀j,j<aJ.length->fq aJ (j:Int) (l.getD j aN):=by
   intro t ht;rw[ae (cS),bH];refine R3 h1 k (i+1) _ (by omega) (by simp;omega) λj F=>?_;grind
  rw[fT,bz,ae (aQ aC)];simp only[aT,ao,bc];rw[e];simp only[ao,j'];have q:=adM (k:=(i:Int)) ⟨by omega,by omega⟩;have c8:∀t,fq aJ (i:Int) t->fq aJ (i:Int) t:=λt h=>h;have⟨s,z,gc⟩:c' (aJ.getD i eS).A/\c' (aJ.getD i eS).B/\c' (aJ.getD i eS).C:=⟨m.a,m.b,m.c⟩
  have n:(!(decide ((aJ.length:Int)=0)))=true:=ub (by omega);have o:bY .i64 (b' (aJ.getD i eS).A 4)=(aJ.getD i eS).A%4:=by
   unfold c' at s;rw[ho s.1,lo ⟨by omega,by omega⟩]
  have p:b' (bY .i64 (aJ.getD i eS).C) (aJ.length:Int)=(aJ.getD i eS).C%(aJ.length:Int):=by
   unfold c' at gc;rw[lo ⟨by omega,by omega⟩,ho gc.1]
  have D:ek aJ (i:Int)=1\/ek aJ (i:Int)=2\/ek aJ (i:Int)=3\/ek aJ (i:Int)=4\/ek aJ (i:Int)=5\/ek aJ (i:Int)=6\/ek aJ (i:Int)=7\/ek aJ (i:Int)=8\/ek aJ (i:Int)=9:=by omega
  rcases D with d|d|d|d|d|d|d|d|d<;>rw[d] <;>
   simp only[Int.reduceEq,di,dp,bV,b7,bS,ao,dW,ev]
  . exact next _ (by unfold fq;simp[d])
  . have el:=I7 m;have w:=Ov m;have y:pZ (aJ.getD i bt)=_:=el;have x:sV (aJ.getD i bt)=_:=w;rw[y];simp only[ao];rw[x];simp only[ao];exact next _ (by unfold fq;simp only[bc];exact .inr (.inl ⟨d,by first|trivial|rfl⟩))
  . have f:bY .i64 (b' (aJ.getD i bt).A 4)=_:=o;rw[f];exact next _ (by unfold fq;simp only[bc];exact .inr (.inr (.inl ⟨d,by first|trivial|rfl⟩)))
  . obtain⟨H,J,O,K⟩:=u7 (aJ.getD i eS);have I:nC (aJ.getD i bt)=_:=H;rw[I];simp only[ao];have hs:=Ow (l:=kl (aJ.getD i eS)) K J.2 (aJ.length:Int) (i:Int) aJ 4 (mL (bY .i32 (aM .i64 65 (i:Int)))) 0 0 0 0 0 (decide (b' (aJ.getD i eS).B 2=1)) acc (kl (aJ.getD i eS)).length 0 [] (by omega) (by simp);have G:pe ((aJ.length:Int),(i:Int),kl (aJ.getD i eS),0,aJ,4,mL (bY .i32 (aM .i64 65 (i:Int))),0,0,0,0,0,decide (b' (aJ.getD i bt).B 2=1),acc,[])=_:=hs;rw[G];simp only[ao,fL,fZ];rw[q];exact next _ (by unfold fq;simp only[bc];exact .inr (.inr (.inr (.inl ⟨d,_,rfl⟩))))
  . obtain⟨l,r,l2⟩:=Mu cr bb h1 (i:=(i:Int)) ⟨by omega,by omega⟩ true;rw[r];simp only[ao];rw[q];exact next _ (by unfold fq;simp only[bc];exact .inr (.inr (.inr (.inr (.inl ⟨d,l,l2,rfl⟩)))))
  . obtain⟨l,r,l2⟩:=Mu cr bb h1 (i:=(i:Int)) ⟨by omega,by omega⟩ false;rw[r];simp only[ao];rw[q];by_cases h0:l.length=0
    . rw[ae (by simp[h0])];exact next _ (by unfold fq;simp only[bc];exact .inr (.inr (.inr (.inr (.inr (.inl ⟨d,by first|trivial|rfl⟩))))))
    . rw[ak (by simp;intro h;rw[h]at h0;simp at h0)];exact next _ (by unfold fq;simp only[bc];exact .inr (.inr (.inr (.inr (.inr (.inr (.inl ⟨d,l,_,l2,by omega,rfl⟩)))))))
  . have f:bY .i64 (b' (aJ.getD i bt).A 4)=_:=o;have g:b' (bY .i64 (aJ.getD i bt).C) (aJ.length:Int)=_:=p;rw[ae n,f,g];exact next _ (by unfold fq;simp only[bc];exact .inr (.inr (.inr (.inr (.inr (.inr (.inr (.inl ⟨d,by first|trivial|rfl⟩))))))))
  . have f:bY .i64 (b' (aJ.getD i bt).A 4)=_:=o;have g:b' (bY .i64 (aJ.getD i bt).C) (aJ.length:Int)=_:=p;obtain⟨u,L,N⟩:=PF cr bb z h1;have M:tL ((⟨aJ⟩:et),(aJ.getD i bt).B)=some u:=L;rw[M];simp only[ao];rw[ae n,f,g];rcases N with⟨rfl,a⟩|a
    . rw[hT];exact next _ (by unfold fq;simp only[bc];exact .inr (.inr (.inr (.inr (.inr (.inr (.inr (.inr (.inl ⟨d,a,by first|trivial|rfl⟩)))))))))
    . rw[ak (by have:=a.1;simp;omega)];exact next _ (by unfold fq;simp only[bc];exact .inr (.inr (.inr (.inr (.inr (.inr (.inr (.inr (.inr (.inl ⟨d,u,a,rfl⟩))))))))))
  . have g:b' (bY .i64 (aJ.getD i bt).C) (aJ.length:Int)=_:=p;rw[ae n,g];exact next _ (by unfold fq;simp only[bc];exact .inr (.inr (.inr (.inr (.inr (.inr (.inr (.inr (.inr (.inr ⟨d,by first|trivial|rfl⟩))))))))))
end
def uJ(d:et):Prop:=d.ej.length<=reachBytes/\∀x,x∈d.ej->oK x
theorem of_eq{d:et}(a:uJ d):qN d=some (⟨[]⟩,false)\/∃l,qN d=some (⟨l⟩,true)/\1<=d.ej.length/\d.ej.length<=5/\l.length=d.ej.length/\∀j,j<d.ej.length->fq d.ej (j:Int) (l.getD j aN):=by
 rw[qN];simp only[aT,ao];by_cases h:1<=d.ej.length/\d.ej.length<=5
 . obtain⟨l,c,l2,e⟩:=R3 a.2 h.2 h.1 d.ej.length 0 [] (by omega) rfl (λj b=>by omega);grind
 grind
structure da (ts:List ah):Prop where
 c9:1<=ts.length
 ft:ts.length<=5
 T:∀t,t∈ts->e3 t
 V:nk ts
 D:∀t,t∈ts->adK ts t.ag
 R:∀i:Nat,i<ts.length->∀m,m∈(ts.getD i aN).ag->0<=m.av/\m.av<ts.length/\(7<=(ts.getD m.av.toNat aN).Kind\/m.av<i)
 L:∀t,t∈ts->t.Kind=2->-3<=t.bC/\t.bG<=8
 M:∀t,t∈ts->t.Max<=3
 cA:∀t,t∈ts->(∀m,m∈t.ag->m.ad<=12)/\(∀y,y∈t.bj->y.ad<=6)/\t.ag.length<=12
 W:∀t,t∈ts->∀m,m∈t.ag->m.bZ=true->wt m.bu<=13
theorem pI(c:v.aw=[])(b:v.ai=[])(d:v.Rest=[])(hs:v.bn.length<=1000)(c9:cy v.Kind)(e:cy v.bf)(f:cy v.ad):bK v:=by
 refine .mk v (by unfold reachBytes;omega) (by rw[c];simp) (by rw[b];simp) (by rw[d];simp) (λx a=>?_) (λx a=>?_) (λx a=>?_) c9 e f (λx a=>?_)
 . grind
 . grind
 . grind
 grind
theorem R4:bK au:=pI rfl rfl rfl (by simp[au]) (by unfold cy au;simp) (by unfold cy au;simp) (by unfold cy au;simp)
theorem Ox(b:v.aw=[])(a:v.ai=[])(c:v.Rest=[]):wt v=10+v.bn.length:=by
 rw[fw,b,a,c,gM];simp
section
variable {aJ:List fG}(cr:∀x,x∈aJ->oK x)(bb:aJ.length<=5)(h1:1<=aJ.length){l:List ah}(af:l.length=aJ.length)(c8:∀j,j<aJ.length->fq aJ (j:Int) (l.getD j aN))
include cr bb in
theorem Oy(ht:0<=t/\t<aJ.length)(h:Init aJ t v):bK v/\wt v<=13:=by
 obtain⟨a,b,c,h⟩:=h;obtain⟨j,rfl⟩:∃j:Nat,t=(j:Int):=⟨t.toNat,by omega⟩
 have d:=cr _ (bg (by omega:j<aJ.length) eS);obtain⟨_,k,l⟩:=rz cr bb ht.1 ht.2;rw[bc]at h;have f:=d.a;have g:=d.b;have i:=(u7 (aJ.getD j eS)).2.1.2;unfold c' at f g;rw[Ox a b c];have hs:v.bn.length<=3:=by grind
 refine⟨pI a b c (by omega) ?_ ?_ ?_,by omega⟩
 . unfold cy;rcases h with h|h|h|h|h<;>omega
 . unfold cy;rcases h with⟨_,_,e,_⟩|⟨_,_,_,_,_,e⟩|⟨_,_,_,e,_⟩|⟨_,_,_,e,_⟩|⟨_,_,e,_⟩<;>omega
 . unfold cy;grind
include cr bb in
theorem Kr{i:Int}{r:Bool}(h:uO aJ i r Ms):pS (!r) Ms\/(r=false/\Ms=[]):=by
 obtain⟨a,b,c⟩:=h;by_cases h0:r=false/\Ms=[]
 . grind
 left;refine⟨λm d=>?_,?_,⟨a,λm d=>?_⟩,λm d=>?_,?_,by omega⟩
 . have q:=b m d;unfold mm;have s:m.bZ=false->pR m.bu=true:=λh=>by
    rw[q.RY h];have k:eY (lN (au,au)) au au:=DG R4 au;obtain⟨w,v,z⟩:=k;unfold pR;grind
   have o:=q.gh;have p:=q.un;grind
 . grind
 . have:=(b m d).id;exact⟨by omega,by omega⟩
 . have q:=b m d;have:=q.id;rw[q.name];exact PD (by omega) (by omega)
 . unfold List.Nodup;rw[ov];refine a.imp_of_mem λ{x y} l n aC=>?_;have f:=b x l;have g:=b y n;have t:=f.id;have u:=g.id;rw[f.name,g.name];intro e;simp only[yw,qa,rI]at e;have j:=dX UInt8.toNat e;rw[lg,lg]at j;omega
theorem Ks{l:aq}(h:uL l 6)(h1:1<=l.length)(d:l.length<=6):Ar (qj l)/\(∀y,y∈qj l->y.ad<=6):=by
 unfold qj;refine⟨⟨by simp;omega,⟨?_,λy b=>?_⟩,λy b=>?_,?_,by simp;omega⟩,λy b=>?_⟩
 . rw[ov];exact h.1
 . obtain⟨x,a,rfl⟩:=eJ.1 b;have:=h.2 x a;exact⟨this.1,by show x<=1000;omega⟩
 . obtain⟨x,a,rfl⟩:=eJ.1 b;have:=h.2 x a;exact PD (by omega) (by omega)
 . unfold List.Nodup;rw[ov,ov];refine h.1.imp_of_mem λ{x y} a b aC=>?_;have f:=h.2 x a;have g:=h.2 y b;intro e;simp only[yw,qa,rI]at e;have c:=dX UInt8.toNat e;rw[lg,lg]at c;omega
 . obtain⟨x,a,rfl⟩:=eJ.1 b;exact(h.2 x a).2
theorem OA{i:Int}{t:ah}(h:fq aJ i t):(ek aJ i<=5\/ek aJ i=7\/ek aJ i=9->t.Kind=ek aJ i)/\(ek aJ i=6->t.Kind=5\/t.Kind=6)/\(ek aJ i=8->(t.Kind=8/\∃w,oJ aJ w)\/(t.Kind=7/\¬∃w,oJ aJ w)):=by
 unfold fq at h;rcases h with⟨k,rfl⟩|⟨k,rfl⟩|⟨k,rfl⟩|⟨k,_,rfl⟩|⟨k,_,_,rfl⟩|⟨k,rfl⟩|⟨k,_,_,_,_,rfl⟩|⟨k,rfl⟩|⟨k,a,rfl⟩|⟨k,w,a,rfl⟩|⟨k,rfl⟩<;>simp[k]
 . omega
 grind
theorem Hv{i:Int}{t:ah}(h:fq aJ i t):t.ag=[]\/∃r,uO aJ i r t.ag:=by
 unfold fq at h;rcases h with⟨k,rfl⟩|⟨k,rfl⟩|⟨k,rfl⟩|⟨k,_,rfl⟩|⟨k,_,a,rfl⟩|⟨k,rfl⟩|⟨k,_,_,a,_,rfl⟩|⟨k,rfl⟩|⟨k,a,rfl⟩|⟨k,w,a,rfl⟩|⟨k,rfl⟩
 . grind
 . grind
 . grind
 . grind
 . grind
 . grind
 . grind
 . grind
 . grind
 . grind
 grind
include cr bb h1 af c8 in
theorem aba:da l:=by
 have n:∀{P:ah->Prop},(∀j,j<aJ.length->P (l.getD j aN))->∀t,t∈l->P t:=λak t ht=>by
  obtain⟨i,g,rfl⟩:=e5 ht;grind
 have B:∀j,j<aJ.length->oK (aJ.getD j eS):=λj d=>cr _ (bg d eS);have E:∀j,j<aJ.length->∀m,m∈(l.getD j aN).ag->∃r,uN aJ (j:Int) r m:=λj d m f=>by
  rcases Hv (c8 j d)with h|⟨r,_,h,_⟩
  . grind
  grind
 have aa:∀t,t∈l->e3 t:=n λj d=>by
  have f:=E j d;have ht:=c8 j d;have ai:(l.getD j aN).ag.length<=12:=by
   rcases Hv ht with h|⟨r,_,_,h⟩
   . rw[h];simp
   . exact h
  have aj:(l.getD j aN).bj.length<=6:=by
   have g:=(u7 (aJ.getD j eS)).2.2.2;unfold fq at ht;rcases ht with⟨k,e⟩|⟨k,e⟩|⟨k,e⟩|⟨k,_,e⟩|⟨k,_,_,e⟩|⟨k,e⟩|⟨k,_,_,_,_,e⟩|⟨k,e⟩|⟨k,_,e⟩|⟨k,_,_,e⟩|⟨k,e⟩<;>rw[e]
   case inr.inr.inr.inl=>simp only[bc,qj,gH];exact g
   all_goals simp
  refine⟨by unfold reachBytes;omega,by unfold reachBytes;omega,λm Y=>?_⟩;obtain⟨r,q⟩:=f m Y;by_cases D:m.bZ=true
  . exact(Oy cr bb ⟨q.rY.1,q.rY.2.1⟩ (q.ke D)).1
  . rw[q.RY (by simpa using D)];exact R4
 have an:∀u:Int,0<=u->u<aJ.length->7<=ek aJ u->7<=(l.getD u.toNat aN).Kind:=λu h0 A I=>by
  obtain⟨j,rfl⟩:∃j:Nat,u=(j:Int):=⟨u.toNat,by omega⟩
  rw[bc];obtain⟨_,_,Z⟩:=rz cr bb h0 A;obtain⟨a,b,c⟩:=OA (c8 j (by omega));omega
 have ab:nk l:=by
  refine⟨by omega,n λj d=>?_,λj d=>?_,n λj d=>?_,n λj d F=>?_⟩
  . have ht:=c8 j d;have z:=u7 (aJ.getD j eS);have s:=(B j d).a;have J:=(B j d).b;have G:nm [UInt8.ofNat (65+j)]=true:=adN (by omega);unfold c' at s J;unfold fq at ht;simp only[bc]at ht;generalize [UInt8.ofNat (65+j)]=ap at G ht;unfold gq;rcases ht with⟨k,e⟩|⟨k,e⟩|⟨k,e⟩|⟨k,_,e⟩|⟨k,Ms,a,e⟩|⟨k,e⟩|⟨k,Ms,_,a,a0,e⟩|⟨k,e⟩|⟨k,_,e⟩|⟨k,_,_,e⟩|⟨k,e⟩<;>rw[e]
    . simp
    . simp;omega
    . simp;omega
    . simp;exact⟨G,(Ks z.2.1 z.2.2.1 z.2.2.2).1⟩
    . simp;refine⟨G,?_⟩;rcases Kr cr bb a with h|⟨h,_⟩
      . exact h
      . cases h
    . simp;exact⟨G,λm f=>(by cases f),.inl rfl,⟨.nil,λm f=>by cases f⟩,λm f=>(by cases f),by simp,by simp⟩
    . simp;refine⟨G,?_⟩;rcases Kr cr bb a with h|⟨_,h⟩
      . exact h
      grind
    . simp;omega
    . simp;omega
    . simp;omega
    . simp
  ·
   have T:∀k,k<aJ.length->(l.getD k aN).Name=[]\/(l.getD k aN).Name=[UInt8.ofNat (65+k)]:=λk R=>by
    have ht:=c8 k R;unfold fq at ht;simp only[bc]at ht;rcases ht with⟨k,e⟩|⟨k,e⟩|⟨k,e⟩|⟨k,_,e⟩|⟨k,Ms,a,e⟩|⟨k,e⟩|⟨k,Ms,_,a,a0,e⟩|⟨k,e⟩|⟨k,_,e⟩|⟨k,_,_,e⟩|⟨k,e⟩<;>rw[e]<;>simp
   rcases T j (by omega)with h|h
   . rw[h];simp
   . rw[h];simp only[Fx];right;apply FH.2;intro K;obtain⟨k,R,he⟩:=(p4).1 K;have al:(l.map (·.Name)).getD k []=(l.getD k aN).Name:=ia (·.Name) l k aN [] (by omega);rw[al]at he;rcases T k (by omega)with O|O
     . grind
     . rw[O]at he;simp only[yw,qa]at he;have p:=dX UInt8.toNat he;rw[lg,lg]at p;omega
  . intro u A;have f:=E j d;have K:=(B j d).c;unfold c' at K;have U:0<=(aJ.getD j eS).C%(aJ.length:Int):=l6 _ (by omega);have V:(aJ.getD j eS).C%(aJ.length:Int)<aJ.length:=l1 _ (by omega);have ht:=c8 j d;unfold fq at ht;simp only[bc]at ht;generalize (aJ.getD j eS).C%(aJ.length:Int)=af at U V ht;unfold fj at A;simp only[fY,eJ]at A;rcases A with(⟨m,h,rfl⟩|h)|h
    . obtain⟨r,q⟩:=f m h;have:=q.rY.1;have:=q.rY.2.1;omega
    . split at h
      . rename_i F;have:u=(l.getD j aN).Key:=(by simpa using h);rw[this];rcases ht with⟨k,e⟩|⟨k,e⟩|⟨k,e⟩|⟨k,_,e⟩|⟨k,Ms,a,e⟩|⟨k,e⟩|⟨k,Ms,_,a,a0,e⟩|⟨k,e⟩|⟨k,_,e⟩|⟨k,w,a,e⟩|⟨k,e⟩<;>rw[e]at F⊢<;>simp at F⊢;obtain⟨jH,ae,_⟩:=a;omega
      . cases h
    . split at h
      . rename_i I;have:u=(l.getD j aN).aG:=(by simpa using h);rw[this];rcases ht with⟨k,e⟩|⟨k,e⟩|⟨k,e⟩|⟨k,_,e⟩|⟨k,Ms,a,e⟩|⟨k,e⟩|⟨k,Ms,_,a,a0,e⟩|⟨k,e⟩|⟨k,_,e⟩|⟨k,w,a,e⟩|⟨k,e⟩<;>rw[e]at I⊢<;>simp at I⊢<;>omega
      . cases h
  . have ht:=c8 j d;unfold fq at ht;simp only[bc]at ht;rcases ht with⟨k,e⟩|⟨k,e⟩|⟨k,e⟩|⟨k,_,e⟩|⟨k,Ms,a,e⟩|⟨k,e⟩|⟨k,Ms,_,a,a0,e⟩|⟨k,e⟩|⟨k,_,e⟩|⟨k,w,a,e⟩|⟨k,e⟩<;>rw[e]at F⊢<;>simp at F⊢;obtain⟨jH,ae,au,aw⟩:=a;obtain⟨q,rfl⟩:∃q:Nat,w=(q:Int):=⟨w.toNat,by omega⟩
    obtain⟨a,_,_⟩:=OA (c8 q (by omega));have:=a (.inl (by omega));simp_all
 refine⟨by omega,by omega,aa,ab,n λj d m f D=>?_,λj d m f=>?_,n λj d Q=>?_,n λj d=>?_,n λj d=>⟨λm f=>?_,λy L=>?_,?_⟩,n λj d m f D=>?_⟩
 . obtain⟨r,q⟩:=E j d m f;have g:=q.ke D;obtain⟨M,N,_⟩:=q.rY;generalize m.bu=v at g;obtain⟨u,A⟩:∃u:Nat,m.av=(u:Int):=⟨m.av.toNat,by omega⟩
   rw[A]at g M N⊢;have ht:=c8 u (by omega);obtain⟨a,b,c,g⟩:=g;rw[eL];simp only[bc]at g⊢;unfold fq at ht;simp only[bc]at ht;have X:((l.length:Nat):Int)=aJ.length:=(by omega);rw[X];generalize l.getD u aN=x at ht⊢;rw[a,b,c];have ar:∀t,e7 l true t []:=λt=>by rw[e7];trivial
   have am:jS []:=λi g=>by simp at g
   have S:=B u (by omega);generalize aJ.getD u eS=ao at ht g S;rcases g with⟨k,aI,p,dh,gx⟩|⟨k,aI,p,dh,gx,jW,oU⟩|⟨k,aI,p,dh,gx,jW⟩|⟨k,aI,p,dh,gx,jW⟩|⟨k,aI,p,dh,gx,jW⟩
   . rw[k]at ht;grind
   . rw[k]at ht;grind
   . rw[k]at ht;grind
   . rw[k]at ht;simp only[Int.reduceEq,false_and,rI,or_false,false_or]at ht;obtain⟨o,rfl⟩:=ht;rw[aI,p,dh,gx];simp;refine⟨by omega,⟨v.ad,[UInt8.ofNat 115,UInt8.ofNat (97+v.ad.toNat)]⟩,?_,rfl⟩;unfold qj;grind
   . rw[aI,p,dh,gx];have Z:ek aJ (u:Int)<=9:=(rz cr bb M N).2.2;have W:ek aJ (u:Int)=7\/ek aJ (u:Int)=8\/ek aJ (u:Int)=9:=(by omega);have s:=S.a;unfold c' at s;rcases W with H|H|H
     . rw[H]at ht jW;grind
     . rw[H]at ht jW;grind
     . rw[H]at ht jW;grind
 . obtain⟨r,q⟩:=E j (by omega) m f;obtain⟨M,N,aq⟩:=q.rY;grind
 . have ht:=c8 j d;have s:=(B j d).a;have J:=(B j d).b;unfold c' at s J;unfold fq at ht;simp only[bc]at ht;rcases ht with⟨k,e⟩|⟨k,e⟩|⟨k,e⟩|⟨k,_,e⟩|⟨k,Ms,a,e⟩|⟨k,e⟩|⟨k,Ms,_,a,a0,e⟩|⟨k,e⟩|⟨k,_,e⟩|⟨k,w,a,e⟩|⟨k,e⟩<;>rw[e]at Q⊢<;>simp at Q⊢;omega
 . have ht:=c8 j d;have s:=(B j d).a;unfold c' at s;unfold fq at ht;simp only[bc]at ht;rcases ht with⟨k,e⟩|⟨k,e⟩|⟨k,e⟩|⟨k,_,e⟩|⟨k,Ms,a,e⟩|⟨k,e⟩|⟨k,Ms,_,a,a0,e⟩|⟨k,e⟩|⟨k,_,e⟩|⟨k,w,a,e⟩|⟨k,e⟩<;>rw[e]<;>simp<;>omega
 . obtain⟨r,q⟩:=E j d m f;exact q.id.2
 . have ht:=c8 j d;have z:=u7 (aJ.getD j eS);unfold fq at ht;simp only[bc]at ht;rcases ht with⟨k,e⟩|⟨k,e⟩|⟨k,e⟩|⟨k,_,e⟩|⟨k,Ms,a,e⟩|⟨k,e⟩|⟨k,Ms,_,a,a0,e⟩|⟨k,e⟩|⟨k,_,e⟩|⟨k,w,a,e⟩|⟨k,e⟩<;>rw[e]at L<;>simp at L;exact(Ks z.2.1 z.2.2.1 z.2.2.2).2 y L
 . rcases Hv (c8 j d)with h|⟨r,_,_,h⟩
   . rw[h];simp
   . exact h
 . obtain⟨r,q⟩:=E j d m f;exact(Oy cr bb ⟨q.rY.1,q.rY.2.1⟩ (q.ke D)).2
end
theorem FM{d:et}(g:uJ d):qN d=some (⟨[]⟩,false)\/∃l,qN d=some (⟨l⟩,true)/\da l:=by
 rcases of_eq g with h|⟨l,a,b,c,e,f⟩
 . exact .inl h
 . exact .inr ⟨l,a,aba g.2 c b e f⟩
def fx(a C:aq):Prop:=a.length<=C.length/\∀c,c∈a->c∈C
theorem fx.refl(C:aq):fx C C:=⟨dU _,λ_ h=>h⟩
theorem fx.trans{A B C:aq}(h:fx A B)(k:fx B C):fx A C:=⟨g' h.1 k.1,λc a=>k.2 c (h.2 c a)⟩
def gR(C:aq):Prop:=∀c,c∈C->c' c
theorem gR.dI{A B:aq}(h:gR B)(k:fx A B):gR A:=λc a=>h c (k.2 c a)
section
variable {ts:List ah}
theorem lj{n:Int}(aE:1<=n/\n<=1000){C:aq}(cx:gR C)(af:C.length<=1000)(odd:Bool):
 ∃r b,jb (n,ts,C,odd)=some (r,ts,b,odd)/\0<=r/\r<n/\fx b C/\(r=0/\b=[]/\C=[]\/b.length+1=C.length):=by
 rw[jb];cases C with
 |nil=>
  rw[hT];exact⟨0,[],rfl,by omega,by omega,fx.refl _,.inl ⟨rfl,rfl,rfl⟩⟩
 |cons c C=>
  have d:=cx c (.head _);unfold c' at d;have h0:aH 0 (c::C).length=true:=aQ (k:=0) (by simp);have h1:dY 1 ((c::C).length:Int) (c::C).length=true:=jR (a:=1) (by simp) (by simp);have e:ef (c::C) 1 ((c::C).length:Int)=C:=by
   have:=nO (c::C) 1;grind
  rw[cp,ae h0,ae (ub (by omega)),ae h1,e];simp only[rH,km];rw[lo ⟨by omega,by omega⟩,ho d.1];exact⟨_,C,rfl,l6 _ (by omega),l1 _ (by omega),⟨by simp,λx f=>.tail _ f⟩,.inr (by simp)⟩
theorem I9{C:aq}(cx:gR C)(af:C.length<=1000)(odd:Bool):
 ∃o a,vF (ts,C,odd)=some (o,ts,a,odd)/\(odd=false->o=false)/\fx a C:=by
 rw[vF];cases odd with
 |false=>exact⟨false,C,rfl,λ_=>rfl,fx.refl _⟩
 |true=>
  obtain⟨r,a,h1,_,_,b,_⟩:=lj (ts:=ts) (n:=4) ⟨by omega,by omega⟩ cx af true;rw[ae rfl,h1];exact⟨_,a,rfl,λh=>(by cases h),b⟩
theorem ado(b:x.ag.length<9223372036854775807)(hs:x.bj.length<9223372036854775807)(n:Int):dk (B8 (x,n)) ((∃m,m∈x.ag/\m.ad=n)\/∃y,y∈x.bj/\y.ad=n):=by
 obtain⟨r,_,c,a⟩:=mI (t:=x) n b;obtain⟨s,_,d,al⟩:=qW (t:=x) n hs;rw[B8,c];simp only[aT,ao];rw[d];refine⟨_,rfl,?_⟩;have h1:=DH al;have f:r.2=true↔∃m,m∈x.ag/\m.ad=n:=by
  rcases tj a with⟨e,j,g,_,_,i⟩|⟨e,q⟩
  . grind
  . rw[e];have:=nI q;grind
 grind
theorem Kt(c:x.ag.length<9223372036854775807)(hs:x.bj.length<9223372036854775807)(d:∀m,m∈x.ag->m.ad<=12)(e:∀y,y∈x.bj->y.ad<=6)(C:aq)(odd:Bool):
 ∀(k:Nat) (n:Int),1<=n->n<=14->13<=n+k->∃a,vD (n,ts,C,odd,x)=some (a,ts,C,odd)/\1<=a/\a<=14/\(∀m,m∈x.ag->m.ad≠a)/\(∀y,y∈x.bj->y.ad≠a)
 |k,n,h1,g,b=>by
  obtain⟨r,f,j⟩:=ado c hs n;rw[vD,f];simp only[aT,ao];cases r with
  |false=>grind
  |true=>
   have i:n<=12:=(by grind);rw[ae rfl,kg]
   match k,b with
   |0,b=>omega
   |k+1,b=>exact Kt c hs d e C odd k (n+1) (by omega) (by omega) (by omega)
theorem Hw(e:x.ag.length<9223372036854775807)(hs:x.bj.length<9223372036854775807)(b:∀m,m∈x.ag->m.ad<=12)(d:∀y,y∈x.bj->y.ad<=6){C:aq}(cx:gR C)(af:C.length<=1000)(odd:Bool):
 ∃n a,q7 (x,ts,C,odd)=some (n,ts,a,odd)/\cj n/\cz x.ag n=none/\fx a C:=by
 obtain⟨r,a,h1,i,j,c,_⟩:=lj (ts:=ts) (n:=14) ⟨by omega,by omega⟩ cx af odd;obtain⟨n,c9,k,l,g,_⟩:=Kt (ts:=ts) e hs b d a odd 12 (1+r) (by omega) (by omega) (by omega);refine⟨n,a,?_,⟨by omega,by omega⟩,?_,c⟩
 . rw[q7,h1];simp only[aT,ao];rw[kg,c9];rfl
 . unfold cz;rw[yt];intro m f;simpa using g m f
theorem Mv{n:Int}{C:aq}(cx:gR C)(af:C.length<=1000)(odd:Bool):∃d a,vG (n,ts,C,odd)=some (⟨n,d⟩,ts,a,odd)/\d.length<=3/\fx a C:=by
 obtain⟨r,a,h1,b,c,e,_⟩:=lj (ts:=ts) (n:=4) ⟨by omega,by omega⟩ cx af odd;obtain⟨k,rfl⟩:∃k:Nat,r=(k:Int):=⟨r.toNat,by omega⟩
 rw[vG];simp only[aT,ao];rw[h1];simp only[ao];rw[ae (aQ (by simp;omega)),bc];grind
theorem OB(odd:Bool):∀(k:Nat) (s:aj) (C:aq),k<=100->gR C->C.length<=1000->s.length+k<=100->∃b a,sZ (s,(k:Int),ts,C,odd)=some (b,ts,a,odd)/\b.length<=s.length+k/\fx a C
 |0,s,C,g,cx,af,hs=>⟨s,C,by rw[sZ,bx],by omega,fx.refl _⟩
 |k+1,s,C,g,cx,af,hs=>by
  obtain⟨r,a,h1,f,j,c,_⟩:=lj (ts:=ts) (n:=3) ⟨by omega,by omega⟩ cx af odd;have i:decide ((0:Int)<((k+1:Nat):Int))=true:=by rw[dw];omega
  have e:dj .i64 ((k+1:Nat):Int) 1=(k:Int):=by rw[hP];omega
  rw[sZ,ae i,h1];simp only[aT,ao];rw[I6 ⟨f,by omega⟩,ae (gf (by simp;omega)),e];obtain⟨b,d,a1,a2,a3⟩:=OB odd k (s++[UInt8.ofNat (97+r.toNat)]) a (by omega) (cx.dI c) (by have:=c.1;omega) (by simp;omega);exact⟨b,d,a1,by simp at a2;omega,a3.trans c⟩
theorem adp{most:Int}(f:0<=most/\most<=1000){C:aq}(cx:gR C)(af:C.length<=1000)(odd:Bool):∃s a,Cb (most,ts,C,odd)=some (s,ts,a,odd)/\(s.length:Int)<=most/\s.length<=3/\fx a C:=by
 have em:aM .i64 (ji most 3) 1=min most 3+1:=by
  have:ji most 3=min most 3:=rfl;rw[this,kg]
 obtain⟨r,a,h1,d,e,b,_⟩:=lj (ts:=ts) (n:=min most 3+1) ⟨by omega,by omega⟩ cx af odd;obtain⟨k,rfl⟩:∃k:Nat,r=(k:Int):=⟨r.toNat,by omega⟩
 obtain⟨s,c,a1,a2,a3⟩:=OB (ts:=ts) odd k [] a (by omega) (cx.dI b) (by have:=b.1;omega) (by simp;omega);refine⟨s,c,?_,by simp at a2;omega,by simp at a2;omega,a3.trans b⟩;rw[Cb,em,h1];grind
end
theorem TG:∀a b:aj,Op.bytesLess a b=false->a≠b->Op.bytesLess b a=true
 |[],[],_,h=>absurd rfl h
 |[],y::b,h,_=>by simp[Op.bytesLess]at h
 |x::a,[],h,_=>by simp[Op.bytesLess]
 |x::a,y::b,h,d=>by
  simp only[Op.bytesLess]at h⊢;by_cases h1:x<y
  . grind
  . by_cases c:y<x
    . simp[c]
    . have e:x=y:=(by grind);subst e;have f:Op.bytesLess a b=false:=(by simpa using h);have:=TG a b f (λe=>d (by rw[e]));simp[this]
theorem vQ{a b:I}(c:cy a.bf)(d:cy b.bf):n0 (a,b)=some (hc a b):=by
 obtain⟨r,h1,e⟩:=CJ c d;unfold hc;grind
theorem aaE{a b:I}(d:cy a.bf)(f:cy b.bf)(h:0<hc a b):hc b a<0:=by
 have h1:=vQ d f;have c:=vQ f d;generalize hc a b=r at h h1;generalize hc b a=q at c;rw[n0]at h1 c;by_cases o:a.Kind=b.Kind
 . rw[ak (by simp[o])]at h1 c;by_cases l:a.Kind=1
   . have g:b.Kind=1:=(by omega);rw[ae (by simp[l])]at h1;rw[ae (by simp[g])]at c;simp only[kM,fB]at h1 c;grind
   . have g:¬b.Kind=1:=(by omega);rw[ak (by simp[l])]at h1;rw[ak (by simp[g])]at c;by_cases m:a.Kind=2
     . have i:b.Kind=2:=(by omega);rw[ae (by simp[m]),tX d,tX f]at h1;rw[ae (by simp[i]),tX d,tX f]at c;simp only[aT,ao,kM]at h1 c;by_cases e:a.bf=b.bf
       . grind
       . have u:fF a.bf≠fF b.bf:=λh=>e (M5 h);grind
     . have i:¬b.Kind=2:=(by omega);rw[ak (by simp[m])]at h1;rw[ak (by simp[i])]at c;by_cases n:a.Kind=3
       . have j:b.Kind=3:=(by omega);rw[ae (by simp[n])]at h1;rw[ae (by simp[j])]at c;simp only[aT,ao,kM]at h1 c;by_cases af:a.bn.length=b.bn.length
         . rw[ak (by simp[af])]at h1 c;by_cases e:a.bn=b.bn
           . grind
           . have t:¬b.bn=a.bn:=λh=>e h.symm;cases k:Op.bytesLess a.bn b.bn with
             |true=>simp[e,k]at h1;omega
             |false=>
              have:=TG _ _ k e;grind
         grind
       . have j:¬b.Kind=3:=(by omega);rw[ak (by simp[n])]at h1;rw[ak (by simp[j])]at c;by_cases p:a.Kind=4
         . have s:b.Kind=4:=(by omega);rw[ae (by simp[p])]at h1;rw[ae (by simp[s])]at c;simp only[aT,ao,kM]at h1 c;grind
         grind
 grind
theorem Se{key item:I}(af:v.aw.length<1000000)(l:∀x,x∈v.aw->cy x.bf)(n:cy key.bf)(a:Int)(b:Bool)(c:Int)(d:aj)(e:Int):∀(k i:Nat),i+k=v.aw.length->
 (∀j,j<i->hc (v.aw.getD j au) key<0)->∃m:Nat,m<=v.aw.length/\rp ((i:Int),v,key,item,a,b,c,d,e)=some ((m:Int),v,key,item,a,b,c,d,e)/\(∀j,j<m->hc (v.aw.getD j au) key<0)/\(m<v.aw.length->0<=hc (v.aw.getD m au) key)
 |0,i,p,g=>by
  have f:decide ((i:Int)<(v.aw.length:Int))=false:=by simp;omega
  refine⟨i,by omega,?_,g,λh=>by omega⟩;rw[rp];simp only[aT,ao,f,eN,Bool.or_true,bS,bV,b7,dW,I.aU]
 |k+1,i,p,g=>by
  have aC:i<v.aw.length:=by omega
  have f:decide ((i:Int)<(v.aw.length:Int))=true:=by simp;omega
  have o:=vQ (l _ (bg aC au)) n;rw[rp];simp only[aT,ao,f,dn,jj,bS,ev,I.aU,bc];rw[ae (aQ aC),o];simp only[ao];by_cases q:hc (v.aw.getD i au) key<0
  . rw[ae (by simpa using q),bH];refine Se af l n a b c d e k (i+1) (by omega) λj r=>?_;grind
  grind
theorem tp:∀(a b:List I),cK (a++b)=cK a+cK b
 |[],b=>by rw[gM];simp
 |x::a,b=>by rw[rM,hn,hn,tp a b];omega
theorem Mw{l:List α}{m:Nat}{x d:α}(a:m<=l.length)(i:Nat):(l.take m++(x::l.drop m)).getD i d=if i<m then l.getD i d else if i=m then x else l.getD (i-1) d:=by grind
theorem adP{key item:I}(af:v.aw.length<1000)(z:v.ai.length=v.aw.length)(l:∀x,x∈v.aw->cy x.bf)(n:cy key.bf)(g:jS v.aw):
 ∃ks b,CY (v,key,item)=some ⟨v.Kind,v.bL,v.bf,v.bn,v.ad,ks,b,v.Rest⟩/\b.length=ks.length/\ks.length<=v.aw.length+1/\jS ks/\(∀x,x∈ks->x∈v.aw\/x=key)/\(∀x,x∈b->x∈v.ai\/x=item)/\cK ks+cK b<=cK v.aw+cK v.ai+wt key+wt item:=by
 obtain⟨m,f,B,G,D⟩:=Se (item:=item) (by omega) l n 0 false 0 [] 0 v.aw.length 0 (by omega) (λj F=>by omega);have C:rp (0,v,key,item,0,false,0,[],0)=_:=B;rw[CY];simp only[I.aU];rw[C];simp only[aT,ao,I.aU];have ins:∀(r:m<v.aw.length->0<hc (v.aw.getD m au) key),∃ks b,(some (⟨v.Kind,v.bL,v.bf,v.bn,v.ad,v.aw.take m++(key::v.aw.drop m),v.ai.take m++(item::v.ai.drop m),v.Rest⟩:I):Option I)=some ⟨v.Kind,v.bL,v.bf,v.bn,v.ad,ks,b,v.Rest⟩/\b.length=ks.length/\ks.length<=v.aw.length+1/\jS ks/\(∀x,x∈ks->x∈v.aw\/x=key)/\(∀x,x∈b->x∈v.ai\/x=item)/\cK ks+cK b<=cK v.aw+cK v.ai+wt key+wt item:=by
  intro r;refine⟨_,_,rfl,by simp;omega,by simp;omega,λi y=>?_,λx c=>?_,λx c=>?_,?_⟩
  . rw[Mw f,Mw f];have A:(v.aw.take m++(key::v.aw.drop m)).length=v.aw.length+1:=by simp;omega
    rw[A]at y;by_cases h1:i+1<m
    . rw[eT,ae h1];exact g i (by omega)
    . by_cases p:i+1=m
      . grind
      . by_cases q:i=m
        . rw[a8,ae q,ak h1,ak p];have e:i+1-1=m:=(by omega);rw[e];exact aaE (l _ (bg (by omega) au)) n (r (by omega))
        . rw[a8,ak q,ak h1,ak p];have:=g (i-1) (by omega);grind
  . grind
  . grind
  . rw[tp,tp,hn,hn];have aI:cK v.aw=cK (v.aw.take m)+cK (v.aw.drop m):=by rw[<-tp,yp]
    have E:cK v.ai=cK (v.ai.take m)+cK (v.ai.drop m):=by rw[<-tp,yp]
    omega
 have s1:dY 0 (m:Int) v.aw.length=true:=jR (a:=0) (by omega) f;have s:dY (m:Int) (v.aw.length:Int) v.aw.length=true:=jR f (by omega);have t:dY 0 (m:Int) v.ai.length=true:=jR (a:=0) (by omega) (by omega);have u:dY (m:Int) (v.ai.length:Int) v.ai.length=true:=jR (by omega) (by omega);have build:∀{o:Option I->Prop},o (some (⟨v.Kind,v.bL,v.bf,v.bn,v.ad,v.aw.take m++(key::v.aw.drop m),v.ai.take m++(item::v.ai.drop m),v.Rest⟩:I))->o (some (⟨v.Kind,v.bL,v.bf,v.bn,v.ad,v.aw.take m++(key::v.aw.drop m),v.ai.take m++(item::v.ai.drop m),v.Rest⟩:I)):=λh=>h;by_cases d:m<v.aw.length
 . have k:decide ((m:Int)<(v.aw.length:Int))=true:=by simp;omega
   have w:=vQ (l _ (bg d au)) n;simp only[k,dn,jj,bS,ev,bc];rw[ae (aQ d),w];simp only[ao];by_cases h0:hc (v.aw.getD m au) key=0
   . rw[ae (by simpa using h0)];refine⟨v.aw,v.ai,by cases v;rfl,z,by omega,g,λx c=>.inl c,λx c=>.inl c,by omega⟩
   . rw[ak (by simpa using h0),ae s1,ae (cS (by omega) (by simp[ef];omega))];rw[ae (cS (by omega) (by simp[ef];omega)),ae s,ae (cS (by omega) (by simp[ef];omega)),ae t,ae (cS (by omega) (by simp[ef];omega)),ae (cS (by omega) (by simp[ef];omega)),ae u,ae (cS (by omega) (by simp[ef];omega))];rw[tm,tm,nO,nO];simp only[fZ,hz,List.singleton_append];exact ins λ_=>by have:=D d;omega
 . have k:decide ((m:Int)<(v.aw.length:Int))=false:=by simp;omega
   simp only[k,eN,Bool.or_true,bS,bV,b7,dW,ao];rw[ae s1,ae (cS (by omega) (by simp[ef];omega))];rw[ae (cS (by omega) (by simp[ef];omega)),ae s,ae (cS (by omega) (by simp[ef];omega)),ae t,ae (cS (by omega) (by simp[ef];omega)),ae (cS (by omega) (by simp[ef];omega)),ae u,ae (cS (by omega) (by simp[ef];omega))];rw[tm,tm,nO,nO];simp only[fZ,hz,List.singleton_append];exact ins λh=>absurd h d
section
variable {ts:List ah}
mutual
theorem mY:∀(v:I) (t:Int),b6 ts true t v->b6 ts false t v
 |⟨k,b,i,s,id,ks,e,r⟩,t,h=>by
  rw[b6]at h⊢;obtain⟨⟨h1,p,q,z⟩,bb⟩:=h;have w:=GY e;have A:=GY ks;have B:=St e;refine⟨⟨h1,p,q,λh=>by cases h⟩,?_⟩
  have y:(match cz (ts.getD t.toNat aN).ag id with
   |some m=>r=[]/\e.length=1/\e7 ts true m.av e
   |none=>(ts.getD t.toNat aN).Open=true/\true=false/\cj id/\e=[]/\∃d,r=[⟨id,d⟩])->(match cz (ts.getD t.toNat aN).ag id with
   |some m=>r=[]/\e.length=1/\e7 ts false m.av e
   |none=>(ts.getD t.toNat aN).Open=true/\false=false/\cj id/\e=[]/\∃d,r=[⟨id,d⟩]):=by
   split
   . rintro ⟨a,b,c⟩;exact⟨a,b,w _ c⟩
   . rintro ⟨_,b,_⟩;cases b
  rcases bb with h|h|h|⟨a1,a2,a3,a4,a5,f,j,o⟩|⟨a1,a2,a3,a4,a5,f,j,o⟩|⟨a1,a2,a3,a4,a5,f⟩|⟨a1,a2,a3,a4,a5,f,j,o,a9⟩|⟨a1,a2,a3,a4,a5,f,j,o,a9,u,x⟩|⟨a1,a2,a3,a4,a5,f,j,o,a9⟩
  . exact .inl h
  . grind
  . grind
  . grind
  . grind
  . grind
  . grind
  . grind
  grind
theorem GY:∀(l:List I) (t:Int),e7 ts true t l->e7 ts false t l
 |[],t,h=>by rw[e7];trivial
 |v::l,t,h=>by
  rw[e7]at h⊢;exact⟨mY v t h.1,GY l t h.2⟩
theorem St:∀(l:List I) (ms:List aR),hC ts true ms l->hC ts false ms l
 |[],[],h=>by rw[hC];trivial
 |[],m::ms,h=>by
  have:hC ts true (m::ms) []=False:=by rw[hC]<;>(intros;simp_all)
  grind
 |v::l,[],h=>by
  have:hC ts true [] (v::l)=False:=by rw[hC]<;>(intros;simp_all)
  grind
 |v::l,m::ms,h=>by
  rw[hC]at h⊢;exact⟨mY v m.av h.1,St l ms h.2⟩
end
theorem abb(h:b6 ts true t v)(pl:Bool):b6 ts pl t v:=by
 cases pl with
 |true=>exact h
 |false=>exact mY v t h
def kq(ts:List ah)(t:Nat):Nat:=if 7<=(ts.getD t aN).Kind then 0 else t+1
def gp:Nat->Nat
 |0=>20
 |n+1=>12*gp n+20
theorem Ex{a:Nat}:∀{b:Nat},a<=b->gp a<=gp b
 |0,h=>by have:a = 0:= by omega
          subst this;omega
 |b+1,h=>by
  by_cases e:a=b+1
  . grind
  . have:=Ex (a:=a) (b:=b) (by omega);simp only[gp];omega
theorem Ew(r:Nat):20<=gp r:=Ex (a:=0) (hA _)
theorem w9:gp 5=5429060:=rfl
def ml(ts:List ah)(odd:Bool)(C:aq)(r:Nat)(t:Int):Prop:=∃v a,jL (t,ts,C,odd)=some (v,ts,a,odd)/\b6 ts (!odd) t v/\bK v/\fx a C/\wt v+32574360*a.length<=gp r+32574360*C.length
theorem PG {odd:Bool}{c r:Nat}(G:c<=1000){x:ah}(E:x.ag.length<=12)(s:∀m,m∈x.ag->(∀C,gR C->C.length<=c->ml ts odd C r m.av)/\(m.bZ=true->b6 ts true m.av m.bu/\bK m.bu/\wt m.bu<=13))
 (a0:Int)(a1:Bool)(a2:Int)(a3:aj)(a4:Int)(v0:Int)(v1:Bool)(g:Int)(v3:aj)(v4:Int):
 ∀(k i:Nat) (C:aq) (acc:List I),i+k=x.ag.length->gR C->C.length<=c->acc.length=i->(∀j,j<i->b6 ts (!odd) (x.ag.getD j ay).av (acc.getD j au))->(∀y,y∈acc->bK y)->
 ∃a b,mu ((i:Int),ts,C,odd,a0,a1,a2,a3,a4,x.Kind,x.Name,x.bC,x.bG,x.Max,x.bj,x.ag,x.Key,x.aG,x.Open,v0,v1,g,v3,v4,acc)=some (ts,b,odd,a0,a1,a2,a3,a4,x.Kind,x.Name,x.bC,x.bG,x.Max,x.bj,x.ag,x.Key,x.aG,x.Open,v0,v1,g,v3,v4,a)/\
  a.length=x.ag.length/\(∀j,j<x.ag.length->b6 ts (!odd) (x.ag.getD j ay).av (a.getD j au))/\(∀y,y∈a->bK y)/\fx b C/\cK a+32574360*b.length<=cK acc+k*gp r+32574360*C.length
 |0,i,C,acc,K,cx,af,F,p,l=>⟨acc,C,by rw[mu,cp],by omega,λj L=>p j (by omega),l,fx.refl _,by omega⟩
 |k+1,i,C,acc,K,cx,af,F,p,l=>by
  have aC:i<x.ag.length:=by omega
  obtain⟨t,J⟩:=s _ (bg aC ay);have next:∀ (w:I) (d:aq),b6 ts (!odd) (x.ag.getD i ay).av w->bK w->fx d C->wt w+32574360*d.length<=gp r+32574360*C.length->
   ∃a b,(if room 120 (acc++[w]).length then mu (aM .i64 (i:Int) 1,ts,d,odd,a0,a1,a2,a3,a4,x.Kind,x.Name,x.bC,x.bG,x.Max,x.bj,x.ag,x.Key,x.aG,x.Open,v0,v1,g,v3,v4,acc++[w])else none)=some (ts,b,odd,a0,a1,a2,a3,a4,x.Kind,x.Name,x.bC,x.bG,x.Max,x.bj,x.ag,x.Key,x.aG,x.Open,v0,v1,g,v3,v4,a)/\
    a.length=x.ag.length/\(∀j,j<x.ag.length->b6 ts (!odd) (x.ag.getD j ay).av (a.getD j au))/\(∀y,y∈a->bK y)/\fx b C/\cK a+32574360*b.length<=cK acc+(k+1)*gp r+32574360*C.length:=by
   intro w d P M hs Q;rw[ae (cS),bH]
   obtain⟨a,b,b1,b2,b3,b4,B,D⟩:=PG G E s a0 a1 a2 a3 a4 v0 v1 g v3 v4 k (i+1) d (acc++[w]) (by omega) (cx.dI hs) (by have:=hs.1;omega) (by simp;omega) (λj L=>by
    grind) (λy N=>by
    rcases fY.1 N with h|h
    . exact l y h
    . have:y=w:=by simpa using h
      subst this;exact M)
   refine⟨a,b,b1,b2,b3,b4,B.trans hs,?_⟩;rw[tp,hn,gM]at D;have e:(k+1)*gp r=k*gp r+gp r:=Nat.succ_mul _ _;omega
  rw[mu,bz,ae (aQ aC)];simp only[aT,ao,bc,I.aU];cases H:(x.ag.getD i ay).bZ with
  |true=>
   obtain⟨f1,f2,f3⟩:=J H;obtain⟨q,d,c9,R,S,f,ft⟩:=lj (ts:=ts) (n:=3) ⟨by omega,by omega⟩ cx (by omega) odd;rw[ae rfl,c9];simp only[ao,ev];by_cases h0:q=0
   . rw[ae (by simpa using h0)];have:=f.1;have:=Ew r;rw[ae (aQ aC)];exact next _ d (abb f1 _) f2 f (by omega)
   . rw[ak (by simpa using h0),ae (aQ aC)];obtain⟨w,o,u,v,z,A,O⟩:=t d (cx.dI f) (by have:=f.1;omega);rw[u];simp only[ao,I.aU];have:=f.1;exact next w o v z (A.trans f) (by omega)
  |false=>
   rw[bx,bx,ae (aQ aC)];obtain⟨w,o,u,v,z,A,O⟩:=t C cx af;grind
theorem OC{r:Nat}(m:c<=1000)(dD:∀C,gR C->C.length<=c->ml ts odd C r x.aG)
 (a0:Int)(a1:Bool)(a2:Int)(a3:aj)(a4:Int)(v0:Int)(v1:Bool)(f:Int)(v3:aj)(v4:Int):
 ∀(k:Nat) (C:aq) (acc:List I),acc.length+k<=100->gR C->C.length<=c->(∀y,y∈acc->b6 ts (!odd) x.aG y/\bK y)->
 ∃a b,q5 ((k:Int),ts,C,odd,a0,a1,a2,a3,a4,x.Kind,x.Name,x.bC,x.bG,x.Max,x.bj,x.ag,x.Key,x.aG,x.Open,v0,v1,f,v3,v4,acc)=some (ts,b,odd,a0,a1,a2,a3,a4,v0,v1,f,v3,v4,a)/\
  a.length=acc.length+k/\(∀y,y∈a->b6 ts (!odd) x.aG y/\bK y)/\fx b C/\cK a+32574360*b.length<=cK acc+k*gp r+32574360*C.length
 |0,C,acc,l,cx,af,g=>⟨acc,C,by rw[q5,bx],by omega,g,fx.refl _,by omega⟩
 |k+1,C,acc,l,cx,af,g=>by
  have n:decide ((0:Int)<((k+1:Nat):Int))=true:=by rw[dw];omega
  have e:dj .i64 ((k+1:Nat):Int) 1=(k:Int):=by rw[hP];omega
  obtain⟨w,i,o,q,s,d,t⟩:=dD C cx af;rw[q5,ae n,o];simp only[aT,ao,I.aU];rw[ae (cS),e];obtain⟨a,b,b1,b2,b3,b4,j⟩:=OC m dD a0 a1 a2 a3 a4 v0 v1 f v3 v4 k i (acc++[w]) (by simp;omega) (cx.dI d) (by have:=d.1;omega) (λy p=>by grind);refine⟨a,b,b1,by simp at b2;omega,b3,b4.trans d,?_⟩;rw[tp,hn,gM]at j;grind
theorem PH {odd:Bool}{c r:Nat}(E:c<=1000){x:ah}(bD:∀C,gR C->C.length<=c->ml ts odd C r x.Key)(dD:∀C,gR C->C.length<=c->ml ts odd C r x.aG)
 (a0:Int)(a1:Bool)(a2:Int)(a3:aj)(a4:Int)(v0:Int)(v1:Bool)(j:Int)(v3:aj)(v4:Int)(R:List bX):
 ∀(k:Nat) (C:aq) (ks a:List I),ks.length+k<=100->a.length=ks.length->gR C->C.length<=c->(∀y,y∈ks->b6 ts (!odd) x.Key y/\bK y)->(∀y,y∈a->b6 ts (!odd) x.aG y/\bK y)->jS ks->
 ∃b d f,q6 ((k:Int),ts,C,odd,a0,a1,a2,a3,a4,x.Kind,x.Name,x.bC,x.bG,x.Max,x.bj,x.ag,x.Key,x.aG,x.Open,v0,v1,j,v3,v4,ks,a,R)=some (ts,f,odd,a0,a1,a2,a3,a4,v0,v1,j,v3,v4,b,d,R)/\
  b.length<=ks.length+k/\d.length=b.length/\(∀y,y∈b->b6 ts (!odd) x.Key y/\bK y)/\(∀y,y∈d->b6 ts (!odd) x.aG y/\bK y)/\jS b/\fx f C/\cK b+cK d+32574360*f.length<=cK ks+cK a+2*(k*gp r)+32574360*C.length
 |0,C,ks,a,D,n,cx,af,m,al,l=>⟨ks,a,C,by rw[q6,bx],by omega,n,m,al,l,fx.refl _,by omega⟩
 |k+1,C,ks,a,D,n,cx,af,m,al,l=>by
  have F:decide ((0:Int)<((k+1:Nat):Int))=true:=by rw[dw];omega
  have e:dj .i64 ((k+1:Nat):Int) 1=(k:Int):=by rw[hP];omega
  obtain⟨w,s,J,W,K,i,X⟩:=bD C cx af;have U:=i.1;obtain⟨z,t,c9,L,M,o,ft⟩:=dD s (cx.dI i) (by omega);have V:=o.1;obtain⟨H,G,p,N,O,P,Q,q,S⟩:=adP (v:=⟨v0,v1,j,v3,v4,ks,a,R⟩) (key:=w) (item:=z) (by show ks.length<1000;omega) n (λy g=>v7 (m y g).2) (v7 K) l;simp only at p O Q q S;rw[q6,ae F,J];simp only[aT,ao,I.aU];rw[c9];simp only[ao,I.aU];rw[p];simp only[ao];rw[e]
  obtain⟨b,d,f,b1,b2,b3,b4,u,A,B,T⟩:=PH E bD dD a0 a1 a2 a3 a4 v0 v1 j v3 v4 R k t H G (by omega) N ((cx.dI i).dI o) (by omega) (λy g=>by
   grind) (λy g=>by
   rcases q y g with h|h
   . exact al y h
   . subst h;exact⟨L,M⟩) P
  refine⟨b,d,f,b1,by omega,b3,b4,u,A,B.trans (o.trans i),?_⟩;grind
theorem tY(hs:v.bn.length<=1000)(d:∀x,x∈v.aw->bK x)(c:∀x,x∈v.ai->bK x)(h1:v.aw.length<=1000)(g:v.ai.length<=1000)(i:v.Rest.length<=1000)(b:∀x,x∈v.Rest->x.Data.length<=1000/\cy x.ad)(c9:cy v.Kind)(e:cy v.bf)(f:cy v.ad):bK v:=
 .mk v (by unfold reachBytes;omega) (by unfold reachBytes;omega) (by unfold reachBytes;omega) (by unfold reachBytes;omega) d c (λx a=>by have:=(b x a).1;unfold reachBytes;omega) c9 e f (λx a=>(b x a).2)
theorem tz{n:Int}(h:cj n):cy n:=by unfold cj at h;unfold cy;omega
def A4(ts:List ah)(odd:Bool)(c r:Nat):Prop:=∀t:Nat,t<ts.length->kq ts t<=r->∀C,gR C->C.length<=c->ml ts odd C r (t:Int)
theorem I'(H:da ts){t:Nat}(ht:t<ts.length:=by omega):kq ts t<=5:=by
 unfold kq;have:=H.ft;grind
theorem ml.up{C:aq}{r:Nat}(h:ml ts odd C r t)(o:r<=a):ml ts odd C a t:=by
 obtain⟨v,c,h1,e,f,j,bb⟩:=h;exact⟨v,c,h1,e,f,j,by have:=Ex o;omega⟩
theorem adq(H:da ts){r:Nat}(bJ:c<=60)(be:∀aV,aV<c->A4 ts odd aV 5)(bf:∀G,G<r->A4 ts odd c G):A4 ts odd c r:=by
 intro t ht bQ C cx af;have X:=bg ht aN;have bw:=H.V.F _ X;have c8:=H.T _ X;have bO:=H.M _ X;obtain⟨aF,aJ,aW⟩:=H.cA _ X;have bq:=H.R t ht;have bp:=H.L _ X;have au:=H.V.U _ X;have bm:=H.D _ X;have dm:=H.W _ X;have bu:kq ts t=if 7<=(ts.getD t aN).Kind then 0 else t+1:=rfl
 unfold ml;rw[jL,ae (aQ ht)];simp only[aT,ao,bc];have Q:=λv=>eL (ts:=ts) (!odd) (t:Int) v;simp only[bc]at Q;generalize bW:ts.getD t aN=x at*;have bE:=Ew r;have E:(0:Int)<=t/\(t:Int)<ts.length:=by omega
 have ab:∀(v:I) (z:aq),v.aw=[]->v.ai=[]->v.Rest=[]->v.bn.length<=3->fx z C->wt v+32574360*z.length<=gp r+32574360*C.length:=λv z a b c d e=>by rw[Ox a b c];have:=e.1;omega
 have below:∀l:aq,l.length+1=C.length->∀u:Int,0<=u->u<ts.length->∀p,gR p->p.length<=l.length->ml ts odd p 5 u:=λl h1 u bU bV p N O=>by
  obtain⟨k,rfl⟩:∃k:Nat,u=(k:Int):=⟨u.toNat,by omega⟩
  exact be l.length (by omega) k (by omega) (I' H) p N O
 have ba:x.Kind=5\/x.Kind=6->1<=r/\∀m,m∈x.ag->∀p,gR p->p.length<=c->ml ts odd p (r-1) m.av:=λbL=>by
  have bR:kq ts t=t+1:=by rw[bu,a8]
  refine⟨by omega,λm P p N O=>?_⟩;obtain⟨a,b,bk⟩:=bq m P;obtain⟨k,bt⟩:∃k:Nat,m.av=(k:Int):=⟨m.av.toNat,by omega⟩
  rw[bt]at bk⊢;refine bf (r-1) (by omega) k (by omega) ?_ p N O;have:kq ts k<=t:=by
   unfold kq;grind
  omega
 have aR:x.bj.length<9223372036854775807:=dB (iv c8.syms);have aL:x.ag.length<9223372036854775807:=dB (iv c8.gY);unfold gq at bw;rcases bw with⟨k,_⟩|⟨k,f1,f2,_⟩|⟨k,f1,f2,f3,f4,_⟩|⟨k,f1,f2,f3,f4,f5,_⟩|⟨k,f1,f2,f3,f4,f5,f6,_⟩|⟨k,f1,f2,f3,f4,f5,f6,_⟩|⟨k,f1,f2,f3,f4,_⟩|⟨k,f1,f2,f3,f4,_⟩|⟨k,_⟩
 . obtain⟨q,l,c9,Z,aa,g,ft⟩:=lj (ts:=ts) (n:=2) ⟨by omega,by omega⟩ cx (by omega) odd;rw[ae (by simp[k]),c9];refine⟨_,l,rfl,?_,pI rfl rfl rfl (by simp) (by simp[cy,k]) (by simp[cy]) (by simp[cy]),g,ab _ _ rfl rfl rfl (by simp) g⟩;grind
 . obtain⟨q,l,c9,Z,aa,g,ft⟩:=lj (ts:=ts) (n:=256) ⟨by omega,by omega⟩ cx (by omega) odd;have bH:=bp k;have aI:aM .i64 (dj .i64 x.bG x.bC) 1=x.bG-x.bC+1:=by rw[hP,kg]
   have bX:0<=q%(x.bG-x.bC+1):=l6 _ (by omega);have bY:q%(x.bG-x.bC+1)<x.bG-x.bC+1:=l1 _ (by omega);rw[ak (by simp[k]),ae (by simp[k]),c9];simp only[ao];rw[aI,ae (ub (by omega)),ho Z,kg];refine⟨_,l,rfl,?_,pI rfl rfl rfl (by simp) (by simp[cy,k]) (by simp only[cy];omega) (by simp[cy]),g,ab _ _ rfl rfl rfl (by simp) g⟩;grind
 . obtain⟨s,l,c9,Z,aa,g⟩:=adp (ts:=ts) (most:=x.Max) ⟨f4.1,by omega⟩ cx (by omega) odd;rw[ak (by simp[k]),ak (by simp[k]),ae (by simp[k]),c9];refine⟨_,l,rfl,?_,pI rfl rfl rfl (by show s.length<=1000;omega) (by simp[cy,k]) (by simp[cy]) (by simp[cy]),g,ab _ _ rfl rfl rfl aa g⟩;grind
 . have bT:=f5.1;have bS:=f5.2.2.2.2;have a6:=f5.2.1.2;obtain⟨q,l,c9,Z,aa,g,ft⟩:=lj (ts:=ts) (n:=(x.bj.length:Int)) ⟨by omega,by omega⟩ cx (by omega) odd;obtain⟨j,rfl⟩:∃j:Nat,q=(j:Int):=⟨q.toNat,by omega⟩
   have am:=g.1;have J:j<x.bj.length:=(by omega);have f:=bg J dN;rw[ak (by simp[k]),ak (by simp[k]),ak (by simp[k]),ae (by simp[k]),c9];simp only[ao];rw[ae (aQ J)];simp only[bc];cases bA:x.Open with
   |false=>
    rw[bx,bx];refine⟨_,l,rfl,?_,pI rfl rfl rfl (by simp) (by simp[cy,k]) (by simp[cy]) (tz (a6 _ f)),g,ab _ _ rfl rfl rfl (by simp) g⟩;grind
   |true=>
    obtain⟨o,p,ap,bb,A⟩:=I9 (ts:=ts) (cx.dI g) (by omega) odd;have ax:=A.1;rw[ae rfl,ap];simp only[ao,ev];cases o with
    |false=>
     rw[bx];refine⟨_,p,rfl,?_,pI rfl rfl rfl (by simp) (by simp[cy,k]) (by simp[cy]) (tz (a6 _ f)),(A.trans g),ab _ _ rfl rfl rfl (by simp) (A.trans g)⟩;grind
    |true=>
     have aP:odd=true:=(by grind);obtain⟨n,aC,ar,aj,bd,K⟩:=Hw (ts:=ts) aL aR aF aJ ((cx.dI g).dI A) (by omega) odd;rw[ae rfl,ar];refine⟨_,aC,rfl,?_,pI rfl rfl rfl (by simp) (by simp[cy,k]) (by simp[cy]) (tz aj),K.trans (A.trans g),ab _ _ rfl rfl rfl (by simp) (K.trans (A.trans g))⟩;grind
 . obtain⟨bB,aO⟩:=ba (.inl k);obtain⟨acc,l,b1,b2,b3,b4,B,al⟩:=PG (ts:=ts) (odd:=odd) (c:=c) (r:=r-1) (by omega) (x:=x) aW (λm P=>⟨aO m P,λaY=>⟨bm m P aY,c8.jf m P,dm m P aY⟩⟩) 0 false 0 [] 0 x.Kind false 0 [] 0 x.ag.length 0 C [] (by omega) cx af rfl (λj J=>by omega) (λy f=>by cases f);have bi:mu (0,ts,C,odd,0,false,0,[],0,x.Kind,x.Name,x.bC,x.bG,x.Max,x.bj,x.ag,x.Key,x.aG,x.Open,x.Kind,false,0,[],0,[])=_:=b1;have am:=B.1;have bF:gp r=12*gp (r-1)+20:=by
    obtain⟨G,rfl⟩:∃G,r=G+1:=⟨r-1,by omega⟩
    rfl
   have bN:x.ag.length*gp (r-1)<=12*gp (r-1):=e2 _ aW;rw[gM]at al;have aZ:hC ts (!odd) x.ag acc:=h9.2 ⟨b2,b3⟩;rw[ak (by simp[k]),ak (by simp[k]),ak (by simp[k]),ak (by simp[k]),ae (by simp[k]),bi];simp only[ao];obtain⟨o,p,ap,bb,A⟩:=I9 (ts:=ts) (cx.dI B) (by omega) odd;have ax:=A.1;rw[ap];simp only[ao];cases o with
   |false=>
    rw[bx];refine⟨_,p,rfl,?_,tY (by simp) (λy f=>by cases f) b4 (by simp) (by show acc.length<=1000;omega) (by simp) (λy f=>by cases f) (by simp[cy,k]) (by simp[cy]) (by simp[cy]),A.trans B,?_⟩
    . exact(Q _).2 ⟨⟨E.1,E.2,rfl,λ_=>rfl⟩,.inr (.inr (.inr (.inr (.inl ⟨k,rfl,rfl,rfl,rfl,rfl,⟨.nil,λy f=>by cases f⟩,aZ⟩))))⟩
    . rw[fw];simp only[gM,ij,p',ud];omega
   |true=>
    have aP:odd=true:=(by grind);obtain⟨n,aC,ar,aj,bd,K⟩:=Hw (ts:=ts) aL aR aF aJ ((cx.dI B).dI A) (by omega) odd;have bv:=K.1;obtain⟨d,aD,d1,d2,d3⟩:=Mv (ts:=ts) (n:=n) (((cx.dI B).dI A).dI K) (by omega) odd;have bz:=d3.1;rw[ae rfl,Dt,ar];simp only[ao];rw[d1];simp only[ao];refine⟨_,aD,rfl,?_,tY (by simp) (λy f=>by cases f) b4 (by simp) (by show acc.length<=1000;omega) (by simp) (λy f=>?_) (by simp[cy,k]) (by simp[cy]) (by simp[cy]),d3.trans (K.trans (A.trans B)),?_⟩
    . refine(Q _).2 ⟨⟨E.1,E.2,rfl,λh=>by simp[aP]at h⟩,.inr (.inr (.inr (.inr (.inl ⟨k,rfl,rfl,rfl,rfl,rfl,⟨by simp,λy f=>?_⟩,aZ⟩))))⟩;grind
    . have:y=⟨n,d⟩:=(by simpa using f);subst this;exact⟨by show d.length<=1000;omega,tz aj⟩
    . rw[fw];simp only[gM,ij,fu,p',oy,ud];omega
 . obtain⟨bB,aO⟩:=ba (.inr k);have bI:0<x.ag.length:=by
    rcases f6.2.1 with h|h
    . cases h
    . exact h
   have bD:gp (r-1)+20<=gp r:=by
    obtain⟨G,rfl⟩:∃G,r=G+1:=⟨r-1,by omega⟩
    have:=Ew G;show gp G+20<=12*gp G+20;omega
   have bh:∀ aB,fx aB C->∃ v z,(Option.bind (jb ((x.ag.length:Int),ts,aB,odd)) λah=>if aH ah.1 x.ag.length then
    (jL ((x.ag.getD ah.1.toNat ay).av,ah.2.1,ah.2.2.1,ah.2.2.2)).bind λaA=>
     some ((⟨x.Kind,false,0,[],(x.ag.getD ah.1.toNat ay).ad,[],[aA.1],[]⟩:I),aA.2.1,aA.2.2.1,aA.2.2.2)
    else none)=some (v,ts,z,odd)/\b6 ts (!odd) (t:Int) v/\bK v/\fx z C/\wt v+32574360*z.length<=gp r+32574360*C.length:=by
    intro aB az;have bM:=az.1;obtain⟨q,l,c9,Z,aa,g,ft⟩:=lj (ts:=ts) (n:=(x.ag.length:Int)) ⟨by omega,by omega⟩ (cx.dI az) (by omega) odd;obtain⟨j,rfl⟩:∃j:Nat,q=(j:Int):=⟨q.toNat,by omega⟩
    have am:=g.1;have J:j<x.ag.length:=(by omega);have P:=bg J ay;obtain⟨w,p,aS,a7,a9,an,a'⟩:=aO _ P l ((cx.dI az).dI g) (by omega);have ax:=an.1;rw[c9];simp only[ao];rw[ae (aQ J)];simp only[bc];rw[aS];simp only[ao];have bo:=f6.2.2.1.2 _ P;refine⟨_,p,rfl,?_,tY (by simp) (λy f=>by cases f) (λy f=>?_) (by simp) (by simp) (by simp) (λy f=>by cases f) (by simp[cy,k]) (by simp[cy]) (tz bo),an.trans (g.trans az),?_⟩
    . refine(Q _).2 ⟨⟨E.1,E.2,rfl,λ_=>rfl⟩,.inr (.inr (.inr (.inr (.inr (.inl ⟨k,rfl,rfl,rfl,rfl,?_⟩)))))⟩;have bs:cz x.ag (x.ag.getD j ay).ad=some (x.ag.getD j ay):=by
       unfold cz;rw[B1];refine⟨by simp,j,J,(du J _).symm,λi aK=>?_⟩;have bP:=rJ.1 f6.2.2.1.1 i j (by omega) J aK;rw[du J];simp;omega
      simp only[bs];refine⟨by first|rfl|trivial,by first|rfl|trivial,?_⟩;rw[cN];intro y f;have:y=w:=(by simpa using f);subst this;exact a7
    . have:y=w:=(by simpa using f);subst this;exact a9
    . rw[fw];simp only[hn,gM,ij,p',ud];omega
   rw[ak (by simp[k]),ak (by simp[k]),ak (by simp[k]),ak (by simp[k]),ak (by simp[k]),ae (by simp[k])];simp only[I.aU];cases bA:x.Open with
   |false=>
    rw[bx,bx];obtain⟨v,z,a1,a2,a3,a4,a5⟩:=bh C (fx.refl _);grind
   |true=>
    obtain⟨o,p,ap,bb,A⟩:=I9 (ts:=ts) cx (by omega) odd;have ax:=A.1;rw[ae rfl,ap];simp only[ao,ev];cases o with
    |false=>grind
    |true=>
     have aP:odd=true:=(by grind);obtain⟨n,aC,ar,aj,bd,K⟩:=Hw (ts:=ts) aL aR aF aJ (cx.dI A) (by omega) odd;have bv:=K.1;obtain⟨d,aD,d1,d2,d3⟩:=Mv (ts:=ts) (n:=n) ((cx.dI A).dI K) (by omega) odd;have bz:=d3.1;rw[ae rfl,ar];simp only[ao];rw[d1];simp only[ao];refine⟨_,aD,rfl,?_,tY (by simp) (λy f=>by cases f) (λy f=>by cases f) (by simp) (by simp) (by simp) (λy f=>?_) (by simp[cy,k]) (by simp[cy]) (tz aj),d3.trans (K.trans A),?_⟩
     . grind
     . have:y=⟨n,d⟩:=(by simpa using f);subst this;exact⟨by show d.length<=1000;omega,tz aj⟩
     . rw[fw];simp only[gM,ij,fu,p',oy,ud];omega
 . have em:aM .i64 (ji x.Max 3) 1=min x.Max 3+1:=by
    have:ji x.Max 3=min x.Max 3:=rfl;rw[this,kg]
   have S:0<=x.aG/\x.aG<ts.length:=au x.aG (by unfold fj;simp[k]);obtain⟨q,l,c9,Z,aa,g,ft⟩:=lj (ts:=ts) (n:=min x.Max 3+1) ⟨by omega,by omega⟩ cx (by omega) odd;obtain⟨j,rfl⟩:∃j:Nat,q=(j:Int):=⟨q.toNat,by omega⟩
   have am:=g.1;have loop:∃acc z,q5 ((j:Int),ts,l,odd,0,false,0,[],0,x.Kind,x.Name,x.bC,x.bG,x.Max,x.bj,x.ag,x.Key,x.aG,x.Open,x.Kind,false,0,[],0,[])=some (ts,z,odd,0,false,0,[],0,x.Kind,false,0,[],0,acc)/\acc.length=j/\(∀y,y∈acc->b6 ts (!odd) x.aG y/\bK y)/\fx z C/\10+cK acc+32574360*z.length<=gp r+32574360*C.length:=by
    rcases ft with⟨h0,h1,bl⟩|h1
    . have:j=0:=(by omega);subst this;refine⟨[],l,by rw[q5,bx],rfl,λy f=>(by cases f),g,?_⟩;rw[gM];omega
    . obtain⟨acc,z,b1,b2,b3,b4,B⟩:=OC (ts:=ts) (odd:=odd) (c:=l.length) (r:=5) (by omega) (x:=x) (λp N O=>below l h1 x.aG S.1 S.2 p N O) 0 false 0 [] 0 x.Kind false 0 [] 0 j l [] (by simp;omega) (cx.dI g) (by omega) (λy f=>by cases f);refine⟨acc,z,b1,by simpa using b2,b3,b4.trans g,?_⟩;rw[gM,w9]at B;omega
   obtain⟨acc,z,b1,b2,b3,b4,B⟩:=loop;rw[ak (by simp[k]),ak (by simp[k]),ak (by simp[k]),ak (by simp[k]),ak (by simp[k]),ak (by simp[k]),ae (by simp[k]),em,c9];simp only[ao];rw[b1];simp only[ao];refine⟨_,z,rfl,?_,tY (by simp) (λy f=>by cases f) (λy f=>(b3 y f).2) (by simp) (by show acc.length<=1000;omega) (by simp) (λy f=>by cases f) (by simp[cy,k]) (by simp[cy]) (by simp[cy]),b4,?_⟩
   . exact(Q _).2 ⟨⟨E.1,E.2,rfl,λ_=>rfl⟩,.inr (.inr (.inr (.inr (.inr (.inr (.inl ⟨k,rfl,rfl,rfl,rfl,rfl,rfl,by show(acc.length:Int)<=x.Max;omega,cN.2 λy f=>(b3 y f).1⟩))))))⟩
   . rw[fw];simp only[gM,ij,p',ud];omega
 . have em:aM .i64 (ji x.Max 3) 1=min x.Max 3+1:=by
    have:ji x.Max 3=min x.Max 3:=rfl;rw[this,kg]
   have S:0<=x.aG/\x.aG<ts.length:=au x.aG (by unfold fj;simp[k]);have a0:0<=x.Key/\x.Key<ts.length:=au x.Key (by unfold fj;simp[k]);obtain⟨q,l,c9,Z,aa,g,ft⟩:=lj (ts:=ts) (n:=min x.Max 3+1) ⟨by omega,by omega⟩ cx (by omega) odd;obtain⟨j,rfl⟩:∃j:Nat,q=(j:Int):=⟨q.toNat,by omega⟩
   have am:=g.1;have aX:jS []:=λi aK=>by simp at aK
   have loop:∃ks Y z,q6 ((j:Int),ts,l,odd,0,false,0,[],0,x.Kind,x.Name,x.bC,x.bG,x.Max,x.bj,x.ag,x.Key,x.aG,x.Open,x.Kind,false,0,[],0,[],[],[])=some (ts,z,odd,0,false,0,[],0,x.Kind,false,0,[],0,ks,Y,[])/\ks.length<=j/\Y.length=ks.length/\(∀y,y∈ks->b6 ts (!odd) x.Key y/\bK y)/\(∀y,y∈Y->b6 ts (!odd) x.aG y/\bK y)/\jS ks/\fx z C/\10+cK ks+cK Y+32574360*z.length<=gp r+32574360*C.length:=by
    rcases ft with⟨h0,h1,bl⟩|h1
    . have:j=0:=(by omega);subst this;refine⟨[],[],l,by rw[q6,bx],by simp,rfl,λy f=>(by cases f),λy f=>(by cases f),aX,g,?_⟩;rw[gM];omega
    . obtain⟨ks,Y,z,b1,b2,b3,b4,B,al,aE,aU⟩:=PH (ts:=ts) (odd:=odd) (c:=l.length) (r:=5) (by omega) (x:=x) (λp N O=>below l h1 x.Key a0.1 a0.2 p N O) (λp N O=>below l h1 x.aG S.1 S.2 p N O) 0 false 0 [] 0 x.Kind false 0 [] 0 [] j l [] [] (by simp;omega) rfl (cx.dI g) (by omega) (λy f=>by cases f) (λy f=>by cases f) aX;refine⟨ks,Y,z,b1,by simpa using b2,b3,b4,B,al,aE.trans g,?_⟩;rw[gM,w9]at aU;omega
   obtain⟨ks,Y,z,b1,b2,b3,b4,B,al,aE,aU⟩:=loop;rw[ak (by simp[k]),ak (by simp[k]),ak (by simp[k]),ak (by simp[k]),ak (by simp[k]),ak (by simp[k]),ak (by simp[k]),ae (by simp[k]),em,c9];simp only[ao];rw[b1];simp only[ao];refine⟨_,z,rfl,?_,tY (by simp) (λy f=>(b4 y f).2) (λy f=>(B y f).2) (by show ks.length<=1000;omega) (by show Y.length<=1000;omega) (by simp) (λy f=>by cases f) (by simp[cy,k]) (by simp[cy]) (by simp[cy]),aE,?_⟩
   . exact(Q _).2 ⟨⟨E.1,E.2,rfl,λ_=>rfl⟩,.inr (.inr (.inr (.inr (.inr (.inr (.inr (.inl ⟨k,rfl,rfl,rfl,rfl,rfl,by show(ks.length:Int)<=x.Max;omega,b3,cN.2 λy f=>(b4 y f).1,cN.2 λy f=>(B y f).1,al⟩)))))))⟩
   . rw[fw];grind
 . have S:0<=x.aG/\x.aG<ts.length:=au x.aG (by unfold fj;simp[k]);obtain⟨q,l,c9,Z,aa,g,ft⟩:=lj (ts:=ts) (n:=2) ⟨by omega,by omega⟩ cx (by omega) odd;have am:=g.1;rw[ak (by simp[k]),ak (by simp[k]),ak (by simp[k]),ak (by simp[k]),ak (by simp[k]),ak (by simp[k]),ak (by simp[k]),ak (by simp[k]),c9];simp only[ao,I.aU];by_cases h1:q=1
   . have br:l.length+1=C.length:=(by omega);obtain⟨w,p,aS,a7,a9,an,a'⟩:=below l br x.aG S.1 S.2 l (cx.dI g) (by omega);have ax:=an.1;rw[w9]at a';rw[ae (by simpa using h1),aS];simp only[ao];refine⟨_,p,rfl,?_,tY (by simp) (λy f=>by cases f) (λy f=>?_) (by simp) (by simp) (by simp) (λy f=>by cases f) (by simp[cy,k]) (by simp[cy]) (by simp[cy]),an.trans g,?_⟩
     . refine(Q _).2 ⟨⟨E.1,E.2,rfl,λ_=>rfl⟩,.inr (.inr (.inr (.inr (.inr (.inr (.inr (.inr ⟨k,rfl,rfl,rfl,rfl,rfl,rfl,by simp,cN.2 λy f=>?_⟩)))))))⟩;grind
     . grind
     . rw[fw];simp only[hn,gM,ij,p',ud];omega
   . rw[ak (by simpa using h1)];refine⟨_,l,rfl,?_,pI rfl rfl rfl (by simp) (by simp[cy,k]) (by simp[cy]) (by simp[cy]),g,ab _ _ rfl rfl rfl (by simp) g⟩;exact(Q _).2 ⟨⟨E.1,E.2,rfl,λ_=>rfl⟩,.inr (.inr (.inr (.inr (.inr (.inr (.inr (.inr ⟨k,rfl,rfl,rfl,rfl,rfl,rfl,by simp,cN.2 λy f=>by cases f⟩)))))))⟩
theorem PI(H:da ts):∀(c:Nat),c<=60->∀r,A4 ts odd c r:=by
 intro c;induction c using Nat.strongRecOn with
 |ind c d=>
  intro b r;induction r using Nat.strongRecOn with
  |ind r e=>exact adq H b (λa h=>d a h (by omega) 5) (λf h=>e f h)
theorem adr(H:da ts)(ht:0<=t/\t<ts.length){C:aq}(cx:gR C)(af:C.length<=reachBytes):∃v,xY ((⟨ts⟩:aS),t,C)=some v/\b6 ts true t v/\bK v/\wt v<=2147483648:=by
 obtain⟨j,rfl⟩:∃j:Nat,t=(j:Int):=⟨t.toNat,by omega⟩
 have m:=dB af;have g:ji 60 (C.length:Int)=((min 60 C.length:Nat):Int):=H2 60 C.length;have hs:gR (C.take (min 60 C.length)):=λc e=>cx c (qc e);have f:(C.take (min 60 C.length)).length<=60:=by rw[ox];omega
 have i:dY 0 ((min 60 C.length:Nat):Int) C.length=true:=jR (a:=0) (by omega) (by omega);obtain⟨v,k,h1,b,d,l,bb⟩:=PI H (odd:=false) 60 (by omega) 5 j (by omega) (I' H) _ hs f;rw[xY];simp only[aT,ao];rw[g,ae i,tm,h1];refine⟨v,by simp only[ao,I.aU],b,d,?_⟩;rw[w9]at bb;omega
theorem Z4(H:da ts)(ht:0<=t/\t<ts.length){C:aq}(cx:gR C)(af:C.length<=reachBytes):∃v,x4 ((⟨ts⟩:aS),t,C)=some v/\b6 ts false t v/\bK v/\wt v<=2147483648:=by
 obtain⟨j,rfl⟩:∃j:Nat,t=(j:Int):=⟨t.toNat,by omega⟩
 have m:=dB af;have g:ji 60 (C.length:Int)=((min 60 C.length:Nat):Int):=H2 60 C.length;have hs:gR (C.take (min 60 C.length)):=λc e=>cx c (qc e);have f:(C.take (min 60 C.length)).length<=60:=by rw[ox];omega
 have i:dY 0 ((min 60 C.length:Nat):Int) C.length=true:=jR (a:=0) (by omega) (by omega);obtain⟨v,k,h1,b,d,l,bb⟩:=PI H (odd:=true) 60 (by omega) 5 j (by omega) (I' H) _ hs f;rw[x4];simp only[aT,ao];rw[g,ae i,tm,h1];refine⟨v,by simp only[ao,I.aU],b,d,?_⟩;rw[w9]at bb;omega
end
structure EA (d:k9):Prop where
 s:uJ d.S
 t:c' d.T
 c:gR d.C
 l:d.C.length<=reachBytes
theorem agD{d:k9}(a:EA d):(∃s t v w,qO d=some (s,t,v,w,false))\/
 ∃ts t v w,qO d=some (⟨ts⟩,t,v,w,true)/\da ts/\(0<=t/\t<ts.length)/\(b6 ts true t v/\bK v/\wt v<=2147483648)/\(b6 ts false t w/\bK w/\wt w<=2147483648):=by
 rw[qO];rcases FM a.s with h|⟨l,h,H⟩
 . rw[h];exact .inl ⟨_,_,_,_,rfl⟩
 . right;have j:=H.c9;have k:=H.ft;have ht:=a.t;unfold c' at ht;have b:0<=d.T%(l.length:Int):=l6 _ (by omega);have e:d.T%(l.length:Int)<l.length:=l1 _ (by omega);obtain⟨v,v1,f⟩:=adr H ⟨b,e⟩ a.c a.l;obtain⟨w,g,i⟩:=Z4 H ⟨b,e⟩ a.c a.l;rw[h];simp only[aT,ao];rw[bx,ae (ub (by omega)),lo ⟨by omega,by omega⟩,ho ht.1,v1];simp only[ao];rw[g];exact⟨l,_,v,w,by simp only[ao,I.aU],H,⟨b,e⟩,f,i⟩
theorem Mx(H:iV ts)(a:bK v)(t:Int)(pl:Bool):dk (kb ((⟨ts⟩:aS),t,v,pl)) (b6 ts pl t v):=by
 obtain⟨r,h1,c⟩:=Ag (by have:=H.n;omega) H.T H.K a t pl;obtain⟨q,d,b⟩:=Ld (by have:=H.n;omega) H.T H.K a t pl;rw[h1]at b;have:r=q:=l5 b;subst this;exact⟨r,d,c⟩
theorem Gt(c8:∀t,t∈ts->e3 t)(gy:nk ts)(d:bK v)(a:b6 ts false t v):tQ ((⟨ts⟩:aS),t,v)=some 0:=by
 have H:=gy.hB c8;obtain⟨v1,_⟩:=pG c8 gy;obtain⟨⟨g,i,_⟩,_⟩:=(eL _ _ _).1 a;obtain⟨r,e,f⟩:=Mx H d t false;have c:=f.2 a;subst c;have b:¬((bif decide (t<0)then true else decide (((⟨ts⟩:aS).Types.length:Int)<=t))=true):=by grind
 rw[tQ,GA];simp only[Kl,I.aU];rw[v1];show((if(bif (t<0:Bool)then true else (((⟨ts⟩:aS).Types.length:Int)<=t:Bool)) then some (4:Int)else some 0)>>=_)=_;rw[ak b];show(tn ((⟨ts⟩:aS),t,v)>>=_)=_;rw[tn];simp only[I.aU];rw[e];rfl
theorem Ln(c8:∀t,t∈ts->e3 t)(gy:nk ts)(f:bK v)(b:b6 ts false t v):sU ((⟨ts⟩:aS),t,v)=some 0:=by
 have a:=gy.hB c8;obtain⟨⟨j,k,_⟩,_⟩:=(eL _ _ _).1 b;obtain⟨q,g,i⟩:=Ag (by have:=a.n;omega) c8 a.K f t false;have e:=i.2 b;subst e;have c:¬t<0:=by omega
 have d:¬(ts.length:Int)<=t:=by omega
 rw[sU,(pG c8 gy).2];simp only[aT,ao];rw[bx,ak (by simp[c,d]),G4];simp only[I.aU];rw[g];rfl
theorem Z5(c8:∀t,t∈ts->e3 t)(gy:nk ts)(b:bK v)(a:b6 ts false t v):tQ ((⟨ts⟩:aS),t,v)=some 0/\sU ((⟨ts⟩:aS),t,v)=some 0:=⟨Gt c8 gy b a,Ln c8 gy b a⟩
theorem H7{l:List Fd}(d:kh fp l=true)(aE:l.Pairwise (λa b=>a.id≠b.id)):(gX fp l).Pairwise (λa b=>a.id<b.id):=by
 have h1:=CP Om l;have c:(gX fp l).Pairwise (λa b=>a.id≠b.id):=(mK fp l).symm.pairwise aE (λ{a b} h=>λe=>h e.symm);refine(h1.and c).imp λ{a b} h=>?_;have:=h.1;have:=h.2;simp only[fp,yo]at*;omega
theorem Iz{l:List I}{r:List bX}(h:gT ms)(c:jU ms r):(fk ts ms l r).Pairwise (λa b=>a.id≠b.id):=by
 have:=vt (ts:=ts) (l:=l) h c;have key:∀q:List Fd,kh fp q=true->q.Pairwise (λa b=>a.id≠b.id):=by
  intro q;induction q with
  |nil=>intro _;exact .nil
  |cons a q ih=>
   intro h;simp only[kh,cd,c0,hW,fp,dw]at h;rw[hV];grind
 grind
def jD(f:Fd):cO:=⟨(f.id:Int),f.c,f.p⟩
theorem Lo:∀(l:List Fd) (last:Nat) (b:List cO),l.Pairwise (λa b=>a.id<b.id)->(∀f,f∈l->last<f.id/\f.id<=1000)->(l.flatMap Fd.text).length<=100000->b.length+l.length<=90000->
 gg ((last:Int),l.flatMap Fd.text,b)=some (.inr (b++l.map jD))
 |[],last,b,_,_,_,_=>by
  rw[gg,bx];simp
 |f::l,last,b,d,i,af,e=>by
  rw[hV]at d;obtain⟨h1,j⟩:=i f (.head _);rw[eX]at af⊢;have ht:f.text=fa f.id f.c f.p:=rfl;rw[ht]at af⊢;rw[XT h1 j af (by simp at e;omega)];have k:(l.flatMap Fd.text).length<=100000:=by rw[cJ]at af;omega
  rw[Lo l f.id _ d.2 (λg al=>⟨d.1 g al,(i g (.tail _ al)).2⟩) k (by simp at e⊢;omega)];simp[jD]
theorem Z6{a:aj}{b:List aj}(h:(dg p++a).length<=100000)(j:b.length<=90000):hL (dg p++a,b)=hL (a,b++[p]):=by
 have g:p.length<=100000:=by simp only[dg,cJ]at h;omega
 have e:dg p++a≠[]:=by
  intro d;have c:=dX List.length d;have:=nR p.length;simp only[dg,cJ,ij]at c;omega
 rw[hL,ae (by simp only[qe,yo];exact e),lV,Jx g];simp only[aT,ao];have f:¬((!(dT (some (p,a))).2.2)=true):=by simp[dT]
 have i:room 16 (b++[(dT (some (p,a))).1]).length=true:=cS;rw[ak f,ae i];rfl
theorem LZ:∀(l:List aj) (b:List aj),(l.flatMap dg).length<=100000->b.length+l.length<=90000->hL (l.flatMap dg,b)=some (.inr (b++l))
 |[],b,_,_=>by
  rw[hL,bx];simp
 |p::l,b,af,a=>by
  rw[eX]at af⊢;rw[Z6 af (by simp at a;omega),LZ l _ (by rw[cJ]at af;omega) (by simp at a⊢;omega)];simp
def j2:List aj->List aj->List aj
 |k::ks,v::vs=>k::v::j2 ks vs
 |_,_=>[]
theorem zW:∀a b,gj a b=(j2 a b).flatMap dg
 |[],b=>by simp[gj,j2]
 |k::ks,[]=>by simp[gj,j2]
 |k::ks,v::vs=>by simp[gj,j2,zW ks vs]
theorem IA:∀a b:List aj,a.length=b.length->(j2 a b).length=a.length+b.length
 |[],[],_=>rfl
 |k::ks,v::vs,h=>by
  simp only[j2,gQ];have:=IA ks vs (by simpa using h);omega
theorem Z7(p:aj):1<=(dg p).length:=by
 have:=nR p.length;unfold dg;rw[cJ];omega
theorem JB:∀l:List aj,l.length<=(l.flatMap dg).length
 |[]=>by simp
 |p::l=>by
  have:=JB l;have:=Z7 p;grind
theorem abc(f:Fd):1<=f.text.length:=by
 have:=nR (2*f.id+(if f.c then 1 else 0));unfold Fd.text fa;rw[cJ];omega
theorem JC:∀l:List Fd,l.length<=(l.flatMap Fd.text).length
 |[]=>by simp
 |p::l=>by
  have:=JC l;have:=abc p;grind
theorem Lp{f:Fd}:∀{l:List Fd},f∈l->f.p.length<=(l.flatMap Fd.text).length
 |g::l,h=>by
  rw[eX,cJ];rcases eU.1 h with rfl|h
  . have:f.p.length<=f.text.length:=by unfold Fd.text fa dg;simp only[cJ];omega
    omega
  . have:=Lp h;omega
theorem OD{d:et}(h:WF cY ⟨.slice (.nm ve),d.ej⟩):uJ d:=by
 obtain⟨a,_,c⟩:=vO (t:= .nm ve) h;refine⟨a,λx p=>?_⟩;have e:=c x p;have b:∀{n:Int},WF cY ⟨.int .u8,n⟩->c' n:=λ{n} h=>by
  cases h with
  |int k n h=>
   simp[Lit.wf,IntKind.min,IntKind.max,IntKind.bits,IntKind.signed]at h;unfold c';omega
 have g:=e ⟨.int .u8,x.Kind⟩ (.head _);have i:=e ⟨.int .u8,x.A⟩ (.tail _ (.head _));have j:=e ⟨.int .u8,x.B⟩ (.tail _ (.tail _ (.head _)));have l:=e ⟨.int .u8,x.C⟩ (.tail _ (.tail _ (.tail _ (.head _))));have m:=e ⟨.slice (.nm B3),x.c1⟩ (.tail _ (.tail _ (.tail _ (.tail _ (.head _)))));obtain⟨r,_,s⟩:=vO (t:= .nm B3) m;refine⟨b g,b i,b j,b l,λq o=>?_,r⟩;have f:=s q o;exact⟨b (f ⟨.int .u8,q.ad⟩ (.head _)),b (f ⟨.int .u8,q.av⟩ (.tail _ (.head _))),b (f ⟨.int .u8,q.hd⟩ (.tail _ (.tail _ (.head _))))⟩
theorem abd{d:k9}(h:∀c,c∈cY.sw VL d->WF cY c):EA d:=by
 have e:=h ⟨.slice (.nm ve),d.S.ej⟩ (.head _);have f:=h ⟨.int .u8,d.T⟩ (.tail _ (.head _));have g:=h ⟨.slice (.int .u8),d.C⟩ (.tail _ (.tail _ (.head _)));obtain⟨a,_,c⟩:=vO (t:= .int .u8) g;have b:∀{n:Int},WF cY ⟨.int .u8,n⟩->c' n:=λ{n} h=>by
  cases h with
  |int k n h=>
   simp[Lit.wf,IntKind.min,IntKind.max,IntKind.bits,IntKind.signed]at h;unfold c';omega
 exact⟨OD e,b f,λn aE=>b (c n aE ⟨.int .u8,n⟩ (.head _)),a⟩
def gi(n:Nat):aj->Nat
 |[]=>n
 |c::s=>gi (n*256+c.toNat) s
theorem RI:∀(s:aj) (n k:Nat),n<256^k->gi n s<256^(k+s.length)
 |[],n,k,h=>by simpa[gi]using h
 |c::s,n,k,h=>by
  have a:c.toNat<256:=BX c;have h1:n*256+c.toNat<256^(k+1):=by rw[yD];omega
  have:=RI s _ (k+1) h1;simp only[gi,gQ];grind
theorem agX{n:Nat}(h:n<72057594037927936):mX .u64 (n:Int) 8=((n*256:Nat):Int):=by
 unfold mX;have e:((2:Int)^min (8:Int).toNat IntKind.u64.bits)=256:=by decide
 rw[e];have:(n:Int)*256=((n*256:Nat):Int):=by push_cast;rfl
 rw[this];exact kZ
theorem ads{b:Nat}(c:a<72057594037927936)(d:b<256):rQ .u64 ((a*256:Nat):Int) (b:Int)=((a*256+b:Nat):Int):=by
 have e:(BitVec.ofInt 64 ((a*256:Nat):Int) ||| BitVec.ofInt 64 (b:Int)).toNat=a*256+b:=by
  rw[wK,wK,BitVec.toNat_or,wD,wD,w2,ow (by omega),ow (by omega)];have h:=Nat.shiftLeft_add_eq_or_of_lt (show b<2^8 by omega) a;rw[Nat.shiftLeft_eq]at h;exact h.symm
 show IntKind.u64.wrap (((BitVec.ofInt 64 ((a*256:Nat):Int) ||| BitVec.ofInt 64 (b:Int)).toNat:Nat):Int)=_;rw[e];exact kZ
theorem adQ:(256:Nat)^8=18446744073709551616:=by decide
theorem Ah{s:aj}(hs:s.length<=8):∀(k i n:Nat),i+k=s.length->n<256^i->mB (s,(n:Int),(s.length:Int),(i:Int))=some ((gi n (s.drop i):Nat):Int)
 |0,i,n,c,aE=>by
  rw[mB,cp,en (by omega:s.length<=i)];rfl
 |k+1,i,n,c,aE=>by
  have aC:i<s.length:=by omega
  have b:=yU s i;have a:n<72057594037927936:=by
   have:(256:Nat)^i<=256^7:=wL (by omega) (by omega);omega
  rw[mB,bz,ae (aQ aC),agX a,qZ,hE,ads a b,bH,Ah hs k (i+1) _ (by omega) (by rw[yD];omega),eB aC 0];rfl
theorem H8{s:aj}(hs:s.length<=8):∀(k i n:Nat),i+k=s.length->n<256^i->o5 (s,(n:Int),(i:Int))=some ((gi n (s.drop i):Nat):Int)
 |0,i,n,a,aE=>by
  rw[o5,cp,en (by omega:s.length<=i)];rfl
 |k+1,i,n,a,aE=>by
  have aC:i<s.length:=by omega
  have c:=yU s i;have d:n<72057594037927936:=by
   have:(256:Nat)^i<=256^7:=wL (by omega) (by omega);omega
  have aI:gF .u64 (n:Int) 256=((n*256:Nat):Int):=ua (b:=256) (by omega);rw[o5,bz,ae (aQ aC),aI,qZ,hE,sa (by omega),bH,H8 hs k (i+1) _ (by omega) (by rw[yD];omega),eB aC 0];rfl
def gJ(s:aj):Option Nat:=if s.head?=some 0\/8<s.length then none else some (gi 0 s)
theorem D0{s:aj}{n:Nat}(h:gJ s=some n):n<18446744073709551616:=by
 unfold gJ at h;split at h
 . cases h
 . rename_i aa;cases h;have:=RI s 0 0 (by simp);have a:(256:Nat)^(0+s.length)<=256^8:=wL (by omega) (by omega);omega
theorem De{s:aj}(h:s≠[]):(fz s 0=0)↔s.head?=some 0:=by
 cases s with
 |nil=>exact absurd rfl h
 |cons c s=>
  have:fz (c::s) 0=(c.toNat:Int):=qZ (c::s) 0;rw[this];simp only[List.head?_cons,bI];constructor
  . intro h;exact UInt8.toNat_inj.1 (by simpa using h)
  simp_all
theorem adt(s:aj):∃r,tP s=some r/\(r.2=0->∃n,gJ s=some n/\r.1=(n:Int))/\(r.2≠0->gJ s=none):=by
 rw[tP];simp only[aT,ao];by_cases h0:s=[]
 . subst h0;have aI:mB ([],0,((([]:aj)).length:Int),0)=some ((gi 0 []:Nat):Int):=Ah (s:=[]) (by simp) 0 0 0 rfl (by simp);refine⟨(((gi 0 []:Nat):Int),0),?_,λ_=>⟨0,rfl,rfl⟩,λh=>absurd rfl h⟩;grind
 . have e:0<s.length:=uh.2 h0;have d:aH 0 s.length=true:=aQ (k:=0) e;have c:(!(decide (s=[])))=true:=(by simp[h0]);rw[c,d];simp only[B0,bS,ev];by_cases a:fz s 0=0
   . rw[ae (by simp[a])];refine⟨_,rfl,λh=>(by cases h),λ_=>?_⟩;unfold gJ;rw[ae (.inl ((De h0).1 a))]
   . rw[ak (by simp[a])];by_cases b:8<s.length
     . rw[bz];refine⟨_,rfl,λh=>(by cases h),λ_=>?_⟩;unfold gJ;rw[ae (.inr b)]
     . have aI:mB (s,0,(s.length:Int),0)=some ((gi 0 s:Nat):Int):=Ah (by omega) s.length 0 0 (by omega) (by simp);rw[cp,aI];refine⟨_,rfl,λ_=>⟨gi 0 s,?_,rfl⟩,λh=>absurd rfl h⟩;unfold gJ;rw[ak]
       rintro (h|h)
       . exact a ((De h0).2 h)
       omega
theorem Z8(s:aj):∃r,tP s=some r/\Cm s=some r/\(r.2=0->∃n,gJ s=some n/\r.1=(n:Int))/\(r.2≠0->gJ s=none):=by
 rw[tP,Cm];simp only[aT,ao];by_cases h0:s=[]
 . subst h0;have aI:mB ([],0,((([]:aj)).length:Int),0)=some ((gi 0 []:Nat):Int):=Ah (s:=[]) (by simp) 0 0 0 rfl (by simp);have c:o5 ([],0,0)=some ((gi 0 []:Nat):Int):=H8 (s:=[]) (by simp) 0 0 0 rfl (by simp);refine⟨(((gi 0 []:Nat):Int),0),?_,?_,λ_=>⟨0,rfl,rfl⟩,λh=>absurd rfl h⟩
   . grind
   grind
 . have i:0<s.length:=uh.2 h0;have g:aH 0 s.length=true:=aQ (k:=0) i;have e:decide ((0:Int)<(s.length:Int))=true:=by simp;omega
   have f:(!(decide (s=[])))=true:=(by simp[h0]);rw[e,f,g];simp only[B0,bS,ev];by_cases b:fz s 0=0
   . have a:decide (fz s 0=0)=true:=(by simp[b]);rw[ae a,ae a];refine⟨_,rfl,rfl,λh=>(by cases h),λ_=>?_⟩;unfold gJ;rw[ae (.inl ((De h0).1 b))]
   . have a:¬(decide (fz s 0=0)=true):=(by simp[b]);rw[ak a,ak a];by_cases d:8<s.length
     . have:decide ((8:Int)<(s.length:Int))=true:=by simp;omega
       rw[ae this,ae this];refine⟨_,rfl,rfl,λh=>(by cases h),λ_=>?_⟩;unfold gJ;rw[ae (.inr d)]
     . have:¬(decide ((8:Int)<(s.length:Int))=true):=by simp;omega
       rw[ak this,ak this];have aI:mB (s,0,(s.length:Int),0)=some ((gi 0 s:Nat):Int):=Ah (by omega) s.length 0 0 (by omega) (by simp);have c:o5 (s,0,0)=some ((gi 0 s:Nat):Int):=H8 (by omega) s.length 0 0 (by omega) (by simp);rw[aI,c];refine⟨_,rfl,rfl,λ_=>⟨gi 0 s,?_,rfl⟩,λh=>absurd rfl h⟩;unfold gJ;rw[ak]
       rintro (h|h)
       . exact b ((De h0).2 h)
       omega
def iq(n:Nat):Int:=if n%2=0 then((n/2:Nat):Int)else -((n/2:Nat):Int)-1
theorem OE{n:Int}(h:cy n):iq (fF n).toNat=n:=by
 unfold iq fF cy at*;omega
theorem adR{n:Nat}(h:n<18446744073709551616):Cj (n:Int)=some (iq n):=by
 rw[Cj];have aI:b' (n:Int) 2=((n%2:Nat):Int):=Az (b:=2);have a:fC .u64 (n:Int) 2=((n/2:Nat):Int):=uj h;rw[aI,a,jI];unfold iq;by_cases h0:n%2=0
 . grind
 . have dh:dj .i64 0 ((n/2:Nat):Int)= -((n/2:Nat):Int):=by rw[hP];omega
   rw[cp,ak h0,dh,hP]
theorem aeb{n:Nat}(h:n<18446744073709551616):A9 .u64 (n:Int) 1=((n%2:Nat):Int):=by
 have e:(BitVec.ofInt 64 (n:Int) &&& BitVec.ofInt 64 (1:Int)).toNat=n%2:=by grind
 show IntKind.u64.wrap (((BitVec.ofInt 64 (n:Int) &&& BitVec.ofInt 64 (1:Int)).toNat:Nat):Int)=_;rw[e];exact kZ
theorem agY{n:Nat}:lA .u64 (n:Int) 1=((n/2:Nat):Int):=by
 unfold lA;have:((2:Int)^min (1:Int).toNat IntKind.u64.bits)=2:=by decide
 grind
theorem aaF(h:a<9223372036854775808):uH .i64 (a:Int) 0=(a:Int):=by
 have e:(BitVec.ofInt 64 (a:Int) ^^^ BitVec.ofInt 64 (0:Int)).toNat=a:=by grind
 show IntKind.i64.wrap (((BitVec.ofInt 64 (a:Int) ^^^ BitVec.ofInt 64 (0:Int)).toNat:Nat):Int)=_;rw[e,IntKind.wrap_i64];omega
theorem aaG(h:a<9223372036854775808):uH .i64 (a:Int) (-1)= -(a:Int)-1:=by
 have e:(BitVec.ofInt 64 (a:Int) ^^^ BitVec.ofInt 64 (-1:Int)).toNat=18446744073709551615-a:=by
  have h1:BitVec.ofInt 64 (-1:Int)=BitVec.allOnes 64:=by decide
  rw[h1,wK,BitVec.xor_allOnes,BitVec.toNat_not,wD,w2,ow (by omega)]
 all_goals (try omega)
 show IntKind.i64.wrap (((BitVec.ofInt 64 (a:Int) ^^^ BitVec.ofInt 64 (-1:Int)).toNat:Nat):Int)=_;rw[e,IntKind.wrap_i64];omega
theorem adS{n:Nat}(h:n<18446744073709551616):CZ (n:Int)=some (iq n):=by
 rw[CZ,agY,aeb h,jI,jI,hP];unfold iq;by_cases h0:n%2=0
 . rw[ae h0,h0];have:(0:Int)-((0:Nat):Int)=0:=rfl;rw[this,aaF (by omega)]
 . have h1:n%2=1:=(by omega);rw[ak h0,h1];have:(0:Int)-((1:Nat):Int)= -1:=rfl;rw[this,aaG (by omega)]
def ir(p:aj):Option (List aj):=match lf p with
 |some (l,e)=>if e=0 then some l else none
 |none=>none
def iS(p:aj):Option (List cO):=match lL p with
 |some (l,e)=>if e=0 then some l else none
 |none=>none
def jG(p:aj):Option (Int×aj):=match lR p with
 |some (id,q,e)=>if e=0 then some (id,q)else none
 |none=>none
theorem Lq:∀(n:Nat) (s:aj) (b l:List aj),s.length<=n->s.length+b.length<=100000->hL (s,b)=some (.inr l)->∀q,q∈l->q∈b\/q.length<=s.length
 |n,s,b,l,aE,g,h=>by
  rw[hL]at h;by_cases h0:s=[]
  . grind
  . rw[ae (by simp[h0]),lV]at h;simp only[aT,ao]at h;cases a:iE s with
    |none=>
     rw[a]at h;simp[dT]at h
    |some r=>
     obtain⟨x,c⟩:=r;rw[a]at h;have af:=nJ a;have d:¬((!(dT (some (x,c))).2.2)=true):=(by simp[dT]);have f:room 16 (b++[(dT (some (x,c))).1]).length=true:=cS;rw[ak d,ae f]at h;intro q e
     match n,aE with
     |0,aE=>omega
     |n+1,aE=>
      have:=Lq n c _ l (by omega) (by simp;omega) h q e;rcases this with h|h
      . rcases fY.1 h with h|h
        . exact .inl h
        . right;have:q=x:=(by simpa[dT]using h);grind
      omega
theorem Ku:∀(n:Nat) (s:aj) (last:Nat) (b l:List cO),s.length<=n->s.length+b.length<=100000->gg ((last:Int),s,b)=some (.inr l)->
 ∃c,l=b++c/\(∀f,f∈c->f.Data.length<=s.length/\(last:Int)<f.ad/\f.ad<=1000)/\c.Pairwise (λa b=>a.ad<b.ad)
 |n,s,last,b,l,aE,v,h=>by
  rw[gg]at h;by_cases h0:s=[]
  . simp_all
  . rw[ae (by simp[h0])]at h;rcases lC s with⟨e,he,al⟩|⟨m,k,al,y,j,o⟩
    . rw[nP he al]at h;simp at h
    . rw[lU al j]at h;simp only[aT,ao,uj o]at h;by_cases w:((m/2:Nat):Int)<=(last:Int)\/1000<((m/2:Nat):Int)
      . grind
      . have:¬((bif bif (!true)then true else decide (((m/2:Nat):Int)<=(last:Int))then true else decide (1000<((m/2:Nat):Int)))=true):=(by grind);rw[ak this,lV (by rw[l3];omega)]at h;simp only[ao]at h;cases g:iE (s.drop k)with
        |none=>
         rw[g]at h;simp[dT]at h
        |some r=>
         obtain⟨x,d⟩:=r;rw[g]at h;have af:=nJ g;rw[l3]at af;have p:¬((!(dT (some (x,d))).2.2)=true):=(by simp[dT]);have t:bY .i64 ((m/2:Nat):Int)=((m/2:Nat):Int):=jI;rw[ak p,t]at h;have q:room 32 (b++[(⟨((m/2:Nat):Int),decide (b' (m:Int) 2=1),(dT (some (x,d))).1⟩:cO)]).length=true:=cS;rw[ae q]at h
         match n,aE with
         |0,aE=>omega
         |n+1,aE=>
          obtain⟨c,e,h1,u⟩:=Ku n d (m/2) _ l (by omega) (by simp;omega) h;refine⟨⟨((m/2:Nat):Int),decide (b' (m:Int) 2=1),(dT (some (x,d))).1⟩::c,by rw[e];simp,λf i=>?_,?_⟩
          . rcases eU.1 i with rfl|i
            . refine⟨by show x.length<=_;omega,by show(last:Int)<((m/2:Nat):Int);omega,by show((m/2:Nat):Int)<=1000;omega⟩
            grind
          grind
theorem tA(b:p.length<=90000):∃o,lf p=some o/\(o.2=0->ir p=some o.1/\(∀q,q∈o.1->q.length<=p.length)/\o.1.length<=p.length)/\(o.2≠0->ir p=none):=by
 obtain⟨o,h1,a⟩:=abl b;refine⟨o,h1,λh0=>⟨?_,?_,a⟩,λh0=>?_⟩
 . unfold ir;rw[h1];grind
 . obtain⟨d,a1,_⟩:=H3 p.length p [] (by omega) (by simp;omega);rw[lf,a1]at h1;cases d with
   |inl e=>grind
   |inr l=>
    have:o=(l,0):=(l5 h1).symm;subst this;intro q c;rcases Lq p.length p [] l (by omega) (by simp;omega) a1 q c with h|h
    . cases h
    . exact h
 . unfold ir;rw[h1];grind
theorem Kv(a:p.length<=90000):∃o,lf p=some o/\vg p=some o/\(o.2=0->ir p=some o.1/\(∀q,q∈o.1->q.length<=p.length)/\o.1.length<=p.length)/\(o.2≠0->ir p=none):=by
 obtain⟨o,h1,b⟩:=tA a;exact⟨o,h1,by rw[abm a,h1],b⟩
theorem Df(k:p.length<=90000):∃o,lL p=some o/\(o.2=0->iS p=some o.1/\(∀f,f∈o.1->f.Data.length<=p.length/\cj f.ad)/\o.1.Pairwise (λa b=>a.ad<b.ad)/\o.1.length<=p.length)/\(o.2≠0->iS p=none):=by
 obtain⟨o,h1,i⟩:=aap k;obtain⟨d,a1,_⟩:=LS p.length p 0 [] (by omega) (by simp;omega);have key:o.2=0->(∀f,f∈o.1->f.Data.length<=p.length/\cj f.ad)/\o.1.Pairwise (λa b=>a.ad<b.ad):=by
  intro h0;have c:=h1;have g:gg (0,p,[])=some d:=a1;rw[lL,g]at c;cases d with
  |inl e=>
   have:o=([],e):=(l5 c).symm;simp_all
  |inr l=>
   have:o=(l,0):=(l5 c).symm;subst this;obtain⟨m,e,b1,b2⟩:=Ku p.length p 0 [] l (by omega) (by simp;omega) a1;have:l=m:=(by simpa using e);subst this;exact⟨λf j=>by have:=b1 f j;exact⟨this.1,by omega,this.2.2⟩,b2⟩
 refine⟨o,h1,λh0=>⟨?_,(key h0).1,(key h0).2,i⟩,λh0=>?_⟩
 . unfold iS;rw[h1];grind
 . unfold iS;rw[h1];grind
theorem Zg(c:p.length<=90000):∃o,lL p=some o/\ye p=some o/\(o.2=0->iS p=some o.1/\(∀f,f∈o.1->f.Data.length<=p.length/\cj f.ad)/\o.1.Pairwise (λa b=>a.ad<b.ad)/\o.1.length<=p.length)/\(o.2≠0->iS p=none):=by
 obtain⟨o,h1,d⟩:=Df c;exact⟨o,h1,by rw[aaq c,h1],d⟩
theorem Ja(p:aj):∃o,lR p=some o/\(o.2.2=0->jG p=some (o.1,o.2.1)/\o.2.1.length<=p.length/\cj o.1)/\(o.2.2≠0->jG p=none):=by
 obtain⟨o,h1⟩:=acN p;have key:o.2.2=0->o.2.1.length<=p.length/\cj o.1:=by
  intro h0;have a:=h1;rw[lR]at a;rcases lC p with⟨e,he,al⟩|⟨m,k,al,f,c,g⟩
  . rw[nP he al]at a;grind
  . rw[lU al c]at a;simp only[aT,ao]at a;by_cases d:(m:Int)<1\/1000<(m:Int)
    . grind
    . have b:¬((bif bif (!true)then true else decide ((m:Int)<1)then true else decide (1000<(m:Int)))=true):=(by grind);rw[ak b,jI]at a;have:o=((m:Int),p.drop k,0):=(l5 a).symm;subst this;exact⟨by show(p.drop k).length<=_;rw[l3];omega,by omega,by show(m:Int)<=1000;omega⟩
 refine⟨o,h1,λh0=>⟨?_,(key h0).1,(key h0).2⟩,λh0=>?_⟩
 . unfold jG;rw[h1];grind
 . unfold jG;rw[h1];grind
theorem ack(p:aj):∃o,lR p=some o/\zk p=some o/\(o.2.2=0->jG p=some (o.1,o.2.1)/\o.2.1.length<=p.length/\cj o.1)/\(o.2.2≠0->jG p=none):=by
 obtain⟨o,h1,a⟩:=Ja p;obtain⟨b,a1,a2⟩:=acO p;rw[h1]at a1;rw[<-l5 a1]at a2;exact⟨o,h1,a2,a⟩
theorem HV:∀(s:aj) (n:Nat) (b:UInt8),gi n (s++[b])=gi n s*256+b.toNat
 |[],n,b=>by simp[gi]
 |a::s,n,b=>by
  simp only[rM,gi];exact HV s _ b
theorem adu(n:Nat):gi 0 (fe n)=n:=by
 induction n using Nat.strongRecOn with
 |ind n ih=>
  rw[fe];split
  . rename_i h;subst h;rfl
  . rw[HV,ih (n/256) (by omega),lg];omega
theorem aaH:∀(n:Nat),¬(fe n).head?=some 0:=by
 intro n;induction n using Nat.strongRecOn with
 |ind n ih=>
  rw[fe];split
  . simp
  . rename_i h;have:=ih (n/256) (by omega);by_cases f:n<256
    . have:n/256=0:=(by omega);rw[this,fe,ae rfl];simp only[fZ,List.head?_cons,bI];intro d;have c:=dX UInt8.toNat d;rw[lg]at c;grind
    . have e:fe (n/256)≠[]:=by rw[fe,a8];simp
      cases b:fe (n/256)with
      |nil=>exact absurd b e
      |cons a l=>rw[b]at this;simpa using this
theorem Du{n:Nat}(h:n<18446744073709551616):gJ (fe n)=some n:=by
 unfold gJ;have h1:=aaH n;have a:=vP 8 n (by rw[adQ];exact h)
 rw [ak (by rintro (h|h)
            . exact h1 h
            . omega),adu]
theorem adv{a b:List bX}(c:a.Pairwise (λx y=>x.ad<y.ad))(d:b.Pairwise (λx y=>x.ad<y.ad))(h:∀x,x∈a↔x∈b):a=b:=by
 have g:a.Nodup:=c.imp λ{x y} h e=>by subst e;omega
 have i:b.Nodup:=d.imp λ{x y} h e=>by subst e;omega
 have f:a.Perm b:=(List.perm_ext_iff_of_nodup g i).2 h;exact List.Perm.eq_of_pairwise (le:=λx y:bX=>x.ad<y.ad) (λx y _ _ h1 j=>by omega) c d f
theorem acm{l m:List I}(af:l.length=m.length)(h:∀i,i<l.length->l.getD i au=m.getD i au):l=m:=by
 apply BV af;grind
theorem Zh(p:aj):p.length<=(dg p).length:=by unfold dg;rw[cJ];omega
theorem CK:∀{l:List aj},p∈l->p.length<=(l.flatMap dg).length
 |q::l,h=>by
  rw[eX,cJ];rcases eU.1 h with rfl|h
  . have:=Zh p;omega
  . have:=CK h;omega
theorem DI{ts:List ah}:∀{ms:List aR} {l:List I} {x:Fd},x∈dd ts ms l->∃j,j<ms.length/\j<l.length/\c7 (ms.getD j ay) (l.getD j au)=false/\x=⟨(ms.getD j ay).ad.toNat,(ms.getD j ay).cf,br ts (ms.getD j ay).av (l.getD j au)⟩
 |[],l,x,h=>by
  rw[dd]at h
  . cases h
  grind
 |m::ms,[],x,h=>by
  rw[dd]at h
  . cases h
  grind
 |m::ms,v::l,x,h=>by
  rw[dd]at h;split at h
  . obtain⟨j,h1,a,b,c⟩:=DI h;exact⟨j+1,by simpa using h1,by simpa using a,by simpa using b,by simpa using c⟩
  . rename_i d;rcases eU.1 h with rfl|h
    . exact⟨0,by simp,by simp,by simpa using d,rfl⟩
    . obtain⟨j,h1,a,b,c⟩:=DI h;exact⟨j+1,by simpa using h1,by simpa using a,by simpa using b,by simpa using c⟩
theorem pJ(h:gT ms){a b:aR}(c:a∈ms)(d:b∈ms)(e:a.ad=b.ad):a=b:=by
 obtain⟨i,f,rfl⟩:=e5 c;obtain⟨j,g,rfl⟩:=e5 d;have key:=rJ.1 h.1;grind
theorem jP{m:aR}(h:cz ms id=some m):m∈ms/\m.ad=id:=
 ⟨BK h,by simpa using List.find?_some h⟩
theorem H9(c:gT ms){m:aR}(h:m∈ms):cz ms m.ad=some m:=by
 cases a:cz ms m.ad with
 |none=>exact absurd rfl (nI a m h)
 |some q=>
  obtain⟨h1,b⟩:=jP a;rw[pJ c h1 h b]
theorem pC{ts:List ah}{t:Int}:∀{l:List I} {x:I},x∈l->dL ts t x<=dR ts t l
 |v::l,x,h=>by
  rw[dR];rcases eU.1 h with rfl|h
  . omega
  . have:=pC (ts:=ts) (t:=t) h;omega
theorem IB{ts:List ah}:∀{ms:List aR} {l:List I} {j:Nat},j<ms.length->j<l.length->c7 (ms.getD j ay) (l.getD j au)=false->dL ts (ms.getD j ay).av (l.getD j au)<=fD ts ms l
 |m::ms,v::l,0,_,_,a=>by
  simp only[km]at a⊢;rw[fD,ak (by rw[a];simp)];omega
 |m::ms,v::l,j+1,h1,b,a=>by
  simp only[yq]at a⊢;have:=IB (ts:=ts) (by simpa using h1) (by simpa using b) a;rw[fD];grind
theorem Ee{l:List aj}(h:(l.flatMap dg).length<=90000):ir (l.flatMap dg)=some l:=by
 have af:=JB l;have:=LZ l [] (by omega) (by simp;omega);unfold ir;rw[lf,this];rfl
theorem L0{l:List Fd}(e:l.Pairwise (λa b=>a.id<b.id))(c:∀f,f∈l->1<=f.id/\f.id<=1000)(h:(l.flatMap Fd.text).length<=90000):iS (l.flatMap Fd.text)=some (l.map jD):=by
 have af:=JC l;have bw:=Lo l 0 [] e (λf h=>⟨by have:=c f h;omega,(c f h).2⟩) (by omega) (by simp;omega);have d:gg (0,l.flatMap Fd.text,[])=some (.inr (l.map jD)):=by simpa using bw
 unfold iS;rw[lL,d];rfl
theorem Jb{n:Nat}(h:1<=n/\n<=1000)(c:aj):jG (dM n++c)=some ((n:Int),c):=by
 unfold jG;have d:=lU (Ir (n:=n) (by omega) c) (by simp);rw[lR,d];simp only[aT,ao];have a:¬(n:Int)<1:=by omega
 have b:¬(1000:Int)<(n:Int):=by omega
 rw[ak (by simp only[a,b,dn,di,dW,bV,not_false_eq_true]),jI];simp
theorem Hx{l:List I}{i:Nat}(h:i<l.length):(bF ts t l).getD i []=br ts t (l.getD i au):=by
 rw[Dd,ia (br ts t) l i au [] h]
theorem wO{b n r:Nat}(h:a=1+max n b)(e:a<=r+1)(d:c<=b):c<=r:=by omega
theorem OF{b r:Nat}(h:a=1+max 1 b)(e:a<=r+1)(d:c=1):c<=r:=by omega
def r8(ts:List ah)(t:Int)(v:I):Prop:=b6 ts false t v/\bK v/\wt v<=2147483648
theorem L1{a:I}(h:bK a)(b:I):eY (yI (a,b)) a b:=by
 obtain⟨r,h1,c⟩:=Ea h b;refine⟨r,?_,c⟩;rw[yI];simp only[I.aU];rw[h1];rfl
theorem acn{a:I}(h:bK a)(b:I):eY (px (a,b)) a b:=K3 h b
mutual
def dq:I->I
 |⟨k,b,i,s,id,ks,a,r⟩=>⟨k,b,i,s,id,ks,AP a,if k=5 then[]else r⟩
def AP:List I->List I
 |[]=>[]
 |v::l=>dq v::AP l
end
theorem JD:∀l:List I,AP l=l.map dq
 |[]=>by rw[AP];rfl
 |v::l=>by rw[AP,JD l];rfl
theorem nK(v:I):dq v=⟨v.Kind,v.bL,v.bf,v.bn,v.ad,v.aw,v.ai.map dq,if v.Kind=5 then[]else v.Rest⟩:=by
 cases v;rw[dq,JD]
theorem OG{l:List bX}(h:l.Pairwise λa b=>a.ad<b.ad)(n:Nat)(h1:∀x,x∈l->1<=x.ad/\x.ad<=n):l.length<=n:=by
 have key:∀(l:List bX) (m:Int),l.Pairwise (λa b=>a.ad<b.ad)->(∀x,x∈l->m<x.ad/\x.ad<=n)->m<=n->(l.length:Int)<=n-m:=by
  intro l;induction l with
  |nil=>intro m _ _ h;simp;omega
  |cons x l ih=>
   intro m e d aE;have c:=d x (.head _);have:=ih x.ad (hV.1 e).2 (λy f=>⟨(hV.1 e).1 y f,(d y (.tail _ f)).2⟩) c.2;rw[gQ];omega
 have:=key l 0 h (λx c=>⟨by have:=h1 x c;omega,(h1 x c).2⟩) (by omega);omega
section
variable {ts:List ah}
theorem aco(H:da ts)(j:b6 ts pl t v):v.aw.length<=20/\v.ai.length<=20/\v.Rest.length<=1000:=by
 obtain⟨⟨l,m,n,o⟩,i⟩:=(eL _ _ _).1 j;have e:=bg (by omega:t.toNat<ts.length) aN;generalize q:ts.getD t.toNat aN=x at*;have p:=H.M x e;have g:=H.cA x e;rcases i with h|h|h|h|h|h|h|h|h
 . obtain⟨a1,a2,a3,a4,a5,a,b⟩:=h;rw[a5,a,b];simp
 . obtain⟨a1,a2,a3,a4,a5,a,b,c⟩:=h;rw[a5,a,b];simp
 . obtain⟨a1,a2,a3,a4,a5,a,b,c⟩:=h;rw[a5,a,b];simp
 . obtain⟨a1,a2,a3,a4,a5,a,b,c⟩:=h;rw[a5,a,b];simp
 . obtain⟨a1,a2,a3,a4,a5,a,b,c⟩:=h;have:=(h9.1 c).1;refine⟨by rw[a];simp,by have:=g.2.2;omega,OG b.1 1000 λy k=>?_⟩;have:=(b.2 y k).1;unfold cj at this;omega
 . obtain⟨a1,a2,a3,a4,a5,a⟩:=h;split at a
   . obtain⟨b1,b2,b3⟩:=a;rw[a5,b1,b2];simp
   . obtain⟨b1,b2,b3,b4,d,f⟩:=a;rw[a5,b4,f];simp
 . obtain⟨a1,a2,a3,a4,a5,a,b,c,a9⟩:=h;rw[a,b];simp;omega
 . obtain⟨a1,a2,a3,a4,a5,a,b,c,a9⟩:=h;rw[a];simp;omega
 . obtain⟨a1,a2,a3,a4,a5,a,b,c,a9⟩:=h;rw[a,b];simp;omega
structure EC (ts:List ah):Prop where
 T:∀t,t∈ts->e3 t
 V:nk ts
theorem da.g(H:da ts):EC ts:=⟨H.T,H.V⟩
inductive nh:I->Prop
 |mk (v:I) (k:v.aw.length<=1000) (i:v.ai.length<=1000) (BC:∀x,x∈v.ai->nh x):nh v
theorem nh.items(h:nh v):∀x,x∈v.ai->nh x:=by
 cases h with
 |mk _ _ _ h=>exact h
theorem OH(f:nh v)(j:b6 ts pl t v):v.aw.length<=1000/\v.ai.length<=1000/\v.Rest.length<=1000:=by
 have⟨k,i⟩:v.aw.length<=1000/\v.ai.length<=1000:=by cases f with|mk _ k i _=>exact⟨k,i⟩
 refine⟨k,i,?_⟩;obtain⟨_,g⟩:=(eL _ _ _).1 j;rcases g with h|h|h|h|h|h|h|h|h
 . rw[h.2.2.2.2.2.2];simp
 . rw[h.2.2.2.2.2.2.1];simp
 . rw[h.2.2.2.2.2.2.1];simp
 . rw[h.2.2.2.2.2.2.1];simp
 . obtain⟨a1,a2,a3,a4,a5,a,b,c⟩:=h;refine OG b.1 1000 λy l=>?_;have:=(b.2 y l).1;unfold cj at this;omega
 . obtain⟨a1,a2,a3,a4,a5,a⟩:=h;split at a
   . obtain⟨b1,b2,b3⟩:=a;rw[b1];simp
   . obtain⟨b1,b2,b3,b4,d,e⟩:=a;rw[e];simp
 . rw[h.2.2.2.2.2.2.1];simp
 . obtain⟨a1,a2,a3,a4,a5,a,b,c,a9⟩:=h;rw[a];simp
 . rw[h.2.2.2.2.2.2.1];simp
def hb(x:ah)(v:I)(i:Nat):Int:=if x.Kind=5 then(x.ag.getD i ay).av else if x.Kind=6 then((cz x.ag v.ad).getD ay).av else x.aG
def qi(x:ah)(v:I)(i:Nat):Int:=if x.Kind=5 then(x.ag.getD i ay).ad else if x.Kind=6 then v.ad else i
theorem Ai(j:b6 ts pl t v):∀i,i<v.ai.length->b6 ts pl (hb (ts.getD t.toNat aN) v i) (v.ai.getD i au):=by
 obtain⟨⟨n,o,p,q⟩,g⟩:=(eL _ _ _).1 j;generalize r:ts.getD t.toNat aN=x at*;intro i a;have d:=bg a au;unfold hb;rcases g with h|h|h|h|h|h|h|h|h
 . rw[h.2.2.2.2.2.1]at a;cases a
 . rw[h.2.2.2.2.2.1]at a;cases a
 . rw[h.2.2.2.2.2.1]at a;cases a
 . rw[h.2.2.2.2.2.1]at a;cases a
 . obtain⟨a1,a2,a3,a4,a5,b,e,c⟩:=h;rw[eT];obtain⟨b1,b2⟩:=h9.1 c;exact b2 i (by omega)
 . obtain⟨a1,a2,a3,a4,a5,b⟩:=h;rw[a8,eT];split at b
   . rename_i m k;rw[k];exact cN.1 b.2.2 _ d
   . rw[b.2.2.2.1]at a;cases a
 . obtain⟨a1,a2,a3,a4,a5,b,e,c,a9⟩:=h;rw[a8,a8];exact cN.1 a9 _ d
 . obtain⟨a1,a2,a3,a4,a5,b,e,c,a9,f,l⟩:=h;rw[a8,a8];exact cN.1 f _ d
 . obtain⟨a1,a2,a3,a4,a5,b,e,c,a9⟩:=h;rw[a8,a8];exact cN.1 a9 _ d
theorem acp(f:α->α)(l:List α){i:Nat}(a:i<l.length)(d:α):((l.take i).map f++l.drop i).set i (f (l.getD i d))=(l.take (i+1)).map f++l.drop (i+1):=by
 rw[du a];have h1:((l.take i).map f).length=i:=by simp;omega
 rw[List.set_append_right _ _ (by omega),h1,BZ,lr a,List.set_cons_zero,FG,qf,eI a,hz];rfl
theorem acq(f:α->α)(l:List α){i:Nat}(a:i<l.length)(d:α):((l.take i).map f++l.drop i).getD i d=l.getD i d:=by
 have h1:((l.take i).map f).length=i:=by simp;omega
 rw[Fq,qb (by omega),h1,BZ,lr a,du a];rfl
theorem JN{l:List I}(af:l.length<=1000)(h:∀y,y∈l->vI y=some (dq y)){a0 a2 a4 b0 b4:Int}{b1:Bool}{b3:aj}{r:List bX}:∀(k i:Nat),i+k=l.length->
 s7 ((i:Int),a0,a1,a2,a3,a4,r,b0,b1,b2,b3,b4,ks,(l.take i).map dq++l.drop i)=some (a0,a1,a2,a3,a4,r,b0,b1,b2,b3,b4,ks,l.map dq)
 |0,i,a=>by
  rw[s7,cp,oq (by omega),en (by omega),l4]
 |k+1,i,a=>by
  have aC:i<l.length:=by omega
  have aE:((l.take i).map dq++l.drop i).length=l.length:=by simp;omega
  rw[s7,aE,bz,ae (aQ aC),bc,bz,acq dq l aC au];simp only[I.aU];rw[h _ (bg aC au)];simp only[aT,ao,I.aU];rw[ae (aQ aC),bz,acp dq l aC au,bH];exact JN af h k (i+1) (by omega)
theorem adw(H:da ts)(d:bK v):∀{pl:Bool} {t:Int},b6 ts pl t v->nh v:=by
 induction d with
 |mk v hs h1 f g k j l c9 p q r m e=>
  intro pl t a;obtain⟨n,l2,o⟩:=aco H a;exact .mk v (by omega) (by omega) λy c=>by
   obtain⟨i,b,rfl⟩:=e5 c;have:=Ai a i b;rw[du b]at this;exact e _ c this
theorem aaI(f:bK v):∀t,nh v->b6 ts false t v->vI v=some (dq v):=by
 induction f with
 |mk v hs h1 k m o n p c9 w x z q g=>
  intro t b c;obtain⟨s,l2,u⟩:=OH b c;have j:∀y,y∈v.ai->vI y=some (dq y):=λy a=>by
   obtain⟨i,d,rfl⟩:=e5 a;have:=Ai c i d;rw[du d]at this;exact g _ a _ (b.items _ a) this
  have e:Gh v=some (v.Kind,v.bL,v.bf,v.bn,v.ad,v.aw,v.ai,v.Rest):=by
   rw[Gh];simp only[fZ];rw[ae (cS (by omega) (by omega)),ae (cS (by omega) (by omega)),ae (cS (by omega) (by omega))]
  rw[vI];simp only[I.aU];rw[e,nK];simp only[aT,ao];have L:=λ(r:List bX)=>JN (l:=v.ai) (by omega) j (a0:=v.Kind) (a1:=v.bL) (a2:=v.bf) (a3:=v.bn) (a4:=v.ad) (b0:=0) (b1:=false) (b2:=0) (b3:=[]) (b4:=0) (r:=r) (ks:=v.aw) v.ai.length 0 (by omega);have L':∀r:List bX,s7 (0,v.Kind,v.bL,v.bf,v.bn,v.ad,r,0,false,0,[],0,v.aw,v.ai)=_:=L;by_cases bb:v.Kind=5
  . rw[ae (by simp[bb]),L',ae bb];rfl
  . rw[ak (by simp[bb]),L',ak bb];rfl
def qn(x:ah)(v:I):Prop:=x.Kind=4->∃y,y∈x.bj/\y.ad=v.ad
theorem JE(d:e3 x)(v:I):∃b,mG (x,v)=some b/\(b=false↔qn x v):=by
 rw[mG];unfold qn;by_cases a:x.Kind=4
 . rw[ak (by simp[a])];obtain⟨r,g,_,k⟩:=qW (t:=x) v.ad (by have:=d.1;have:=dB (dU reachBytes);omega);rw[g];refine⟨!r.2,rfl,?_⟩;rcases k with⟨j,e,f,n,rfl⟩|⟨q,rfl⟩
   . simp only[dn,true_iff];exactλ_=>⟨_,bg e dN,f⟩
   . simp only[eN,Bool.true_eq_false,false_iff];intro h;obtain⟨y,l,m⟩:=h a;obtain⟨i,c,rfl⟩:=e5 l;exact absurd m (by have:=q i c;rwa [du c]at this)
 . rw[ae (by simp[a])];exact⟨false,rfl,by simp[a]⟩
theorem aaJ(c8:∀t,t∈ts->e3 t)(af:v.aw.length<=1000)(c:v.aw≠[]->0<=x.Key/\x.Key<ts.length):∃b,DF ((⟨ts⟩:aS),x,v)=some b/\(b=false↔∀k,k∈v.aw->qn (ts.getD x.Key.toNat aN) k):=by
 have f:∀i,i<v.aw.length->∃b,mG (ts.getD x.Key.toNat aN,v.aw.getD i au)=some b/\(b=false↔qn (ts.getD x.Key.toNat aN) (v.aw.getD i au)):=λi a=>
  JE (c8 _ (bg (by have:=c (by intro h;rw[h]at a;cases a);omega) aN)) _
 have o:∀i,i<v.aw.length->CG (v.aw.getD i au,ts,x)=(mG (ts.getD x.Key.toNat aN,v.aw.getD i au)).map λb=>(b,ts,x):=λi a=>by
  rw[CG];have q:=c (by intro h;rw[h]at a;cases a);rw[ae (by simp[aH];omega)];simp only[I.aU];cases mG (ts.getD x.Key.toNat aN,v.aw.getD i au)<;>rfl
 have h:=q3 (λi=>po (v.aw,(v.aw.length:Int),(i:Int),ts,x)) v.aw.length (λi=>(mG (ts.getD x.Key.toNat aN,v.aw.getD i au))==some true) (λi=>.inl ((i:Int),ts,x)) (.inr (ts,x))
  (λi a=>by
   obtain⟨b,b1,_⟩:=f i a;rw[po,bz,ae (aQ a),bc];simp only[I.aU];rw[o i a,b1];simp only[gk,aT,ao];rw[bH]
   cases b<;>simp)
  (by rw[po,bx])
 have cW:po (v.aw,(v.aw.length:Int),((0:Nat):Int),ts,x)=po (v.aw,(v.aw.length:Int),0,ts,x):=rfl;simp only[cW]at h;rw[DF,Gj,Gm];rcases h with⟨j,h1,m,p,e⟩|⟨h1,e⟩
 . rw[e];refine⟨true,?_,?_⟩
   . have:decide ((0:Int)<=(j:Int))=true:=(by simp);simp only[aT,ao,this]
   . obtain⟨b,b1,b2⟩:=f j h1;have n:b=true:=by
      have g:(mG (ts.getD x.Key.toNat aN,v.aw.getD j au)==some true)=true:=m;rw[b1]at g;simpa using g
     constructor
     . intro h;cases h
     . intro h;have:=b2.2 (h _ (bg h1 au));rw[n]at this;cases this
 . rw[e];refine⟨false,rfl,?_⟩;constructor
   . intro _ k c;obtain⟨i,a,rfl⟩:=e5 c;obtain⟨b,b1,b2⟩:=f i a;have l:(mG (ts.getD x.Key.toNat aN,v.aw.getD i au)==some true)=false:=h1 i a;rw[b1]at l;have:b=false:=by cases b<;>simp_all
     rw[<-du a (d:=au)];exact b2.1 this
   . intro _;rfl
theorem Zi(e:gT x.ag)(af:x.ag.length<=1000){m:aR}(bw:cz x.ag id=some m):∃j,j<x.ag.length/\hl (x,id)=some ((j:Int),true)/\x.ag.getD j ay=m:=by
 obtain⟨c,d⟩:=jP bw;obtain⟨r,g,k⟩:=vo (t:=x) (id:=id) (by omega);rcases k with⟨j,b,f,_,rfl⟩|⟨q,_⟩
 . exact⟨j,b,g,pJ e (bg b ay) c (by rw[f,d])⟩
 . obtain⟨i,a,rfl⟩:=e5 c;exact absurd d (by have:=q i a;rwa [du a]at this)
def kY(x:ah)(v:I)(i:Nat):List iL:=(List.range i).map λj=>(⟨hb x v j,qi x v j⟩:iL)
theorem acr(x:ah)(v:I)(i:Nat):kY x v i++[(⟨hb x v i,qi x v i⟩:iL)]=kY x v (i+1):=by
 unfold kY;rw[List.range_succ,qf];rfl
theorem Ef(x:ah)(v:I)(i:Nat):(kY x v i).length=i:=by unfold kY;simp
theorem adx(x:ah)(v:I){i n:Nat}(h:i<n):(kY x v n).getD i Hs=⟨hb x v i,qi x v i⟩:=by
 rw[du (by rw[Ef];exact h)];unfold kY;simp
theorem L2(af:v.ai.length<=1000)(bb:x.Kind=5->v.ai.length<=x.ag.length)(f:x.Kind=6->0<v.ai.length->∃m,cz x.ag v.ad=some m)(c:x.Kind=6->gT x.ag/\x.ag.length<=16):∀(k i:Nat),i+k=v.ai.length->
 nG ((v.ai.length:Int),(i:Int),x,v,kY x v i)=some (kY x v v.ai.length)
 |0,i,g=>by
  rw[nG,cp];have:i=v.ai.length:=by omega
  rw[this]
 |k+1,i,g=>by
  have ih:=L2 af bb f c k (i+1) (by omega);have hs:=acr x v i;have d:∀s:iL,room 16 (kY x v i++[s]).length=true:=λs=>cS (by omega) (by simp[Ef];omega);rw[nG,bz,bH];simp only[aT,ao,I.aU];by_cases a:x.Kind=5
  . have aC:i<x.ag.length:=by have:=bb a;omega
    rw[ae (by simp[a]),ae (aQ aC),ae (aQ aC),ae (d _),bc];have e:(⟨(x.ag.getD i ay).av,(x.ag.getD i ay).ad⟩:iL)=⟨hb x v i,qi x v i⟩:=by unfold hb qi;rw[ae a,ae a]
    rw[e,hs];exact ih
  . rw[ak (by simp[a])];by_cases b:x.Kind=6
    . obtain⟨m,bw⟩:=f b (by omega);obtain⟨j,l,n,o⟩:=Zi (c b).1 (by have:=(c b).2;omega) bw;rw[ae (by simp[b]),n];simp only[ao];rw[ae (aQ l),ae (d _),bc,o];have e:(⟨m.av,v.ad⟩:iL)=⟨hb x v i,qi x v i⟩:=by unfold hb qi;rw[ak a,ae b,ak a,ae b,bw];rfl
      rw[e,hs];exact ih
    . rw[ak (by simp[b]),ae (d _)];have e:(⟨x.aG,(i:Int)⟩:iL)=⟨hb x v i,qi x v i⟩:=by unfold hb qi;rw[ak a,ak b,ak a,ak b]
      rw[e,hs];exact ih
theorem aad(H:iV ts)(e:b6 ts pl t v)(af:v.ai.length<=1000):Cs (ts.getD t.toNat aN,v)=some (kY (ts.getD t.toNat aN) v v.ai.length):=by
 obtain⟨⟨i,j,k,l⟩,b⟩:=(eL _ _ _).1 e;have g:=bg (by omega:t.toNat<ts.length) aN;generalize n:ts.getD t.toNat aN=x at*;rw[Cs];simp only[I.aU]
 have:= L2 (x:= x) (v:= v) af (λo=>by
  rcases b with h|h|h|h|h|h|h|h|h
  case inr.inr.inr.inr.inl=>have:=(h9.1 h.2.2.2.2.2.2.2).1;omega
  all_goals (have:=h.1;omega)) (λd c=>by
  rcases b with h|h|h|h|h|h|h|h|h
  case inr.inr.inr.inr.inr.inl=>
   obtain⟨a1,a2,a3,a4,a5,a⟩:=h;split at a
   . rename_i m f;exact⟨m,f⟩
   . rw[a.2.2.2.1]at c;cases c
  all_goals (have:=h.1;omega)) (λd=>H.A x g (.inr d)) v.ai.length 0 (by omega)
 have h0:nG ((v.ai.length:Int),0,x,v,[])=_:=this;rw[h0];rfl
def zeroV:I:=⟨0,false,0,[],0,[],[],[]⟩
def D1(ts:List ah)(t:Int)(v:I):Prop:=∃b,(b=true↔b6 ts true t (dq v))/\lO ((⟨ts⟩:aS),t,v)=some (if b then(dq v,true)else(zeroV,false))
theorem L3{x:ah}{v:I}(af:v.ai.length<=1000)(h:∀i,i<v.ai.length->D1 ts (hb x v i) (v.ai.getD i au)){z0 z2 z4 a0 a2 a4:Int}{z1 a1:Bool}{z3 a3:aj}{ks:List I}:∀(k i:Nat),i+k=v.ai.length->
 (qQ (kY x v v.ai.length,(v.ai.length:Int),(i:Int),ts,v,z0,z1,z2,z3,z4,a0,a1,a2,a3,a4,ks,(v.ai.take i).map dq)=some (.inr (z0,z1,z2,z3,z4,a0,a1,a2,a3,a4,ks,v.ai.map dq))/\∀j,i<=j->j<v.ai.length->b6 ts true (hb x v j) (dq (v.ai.getD j au)))\/
 (qQ (kY x v v.ai.length,(v.ai.length:Int),(i:Int),ts,v,z0,z1,z2,z3,z4,a0,a1,a2,a3,a4,ks,(v.ai.take i).map dq)=some (.inl (false,0,false,0,[],0))/\∃j,j<v.ai.length/\¬b6 ts true (hb x v j) (dq (v.ai.getD j au)))
 |0,i,f=>.inl ⟨by rw[qQ,cp,oq (by omega)],λj h1 d=>by omega⟩
 |k+1,i,f=>by
  have aC:i<v.ai.length:=by omega
  obtain⟨b,b1,b2⟩:=h i aC;rw[qQ,bz,ae (aQ (by rw[Ef];exact aC)),ae (aQ aC),bc,adx x v aC];simp only[I.aU];rw[b2];cases b with
  |false=>exact .inr ⟨rfl,i,aC,λq=>by have:=b1.2 q;cases this⟩
  |true=>
   have e:(v.ai.take i).map dq++[dq (v.ai.getD i au)]=(v.ai.take (i+1)).map dq:=by
    rw[FG,qf,eI aC,du aC];rfl
   simp only[aT,ao,bS,dn,I.aU];rw[bx,ae (cS),bH,e];rcases L3 af h (z0:=z0) (z1:=z1) (z2:=z2) (z3:=z3) (z4:=z4) (a0:=a0) (a1:=a1) (a2:=a2) (a3:=a3) (a4:=a4) (ks:=ks) k (i+1) (by omega)with⟨a,c⟩|⟨a,c⟩
   . refine .inl ⟨a,λj h1 d=>?_⟩;by_cases g:j=i
     . subst g;exact b1.1 rfl
     . exact c j (by omega) d
   . exact .inr ⟨a,c⟩
theorem acs{k:I}(g:b6 ts false t k)(h1:1<=(ts.getD t.toNat aN).Kind/\(ts.getD t.toNat aN).Kind<=4)(i:qn (ts.getD t.toNat aN) k):b6 ts true t k:=by
 obtain⟨⟨a,b,c,l⟩,f⟩:=(eL _ _ _).1 g;rw[eL];rcases f with h|h|h|h|h|h|h|h|h
 . exact⟨⟨a,b,c,λ_=>h.2.2.2.2.2.2⟩,.inl h⟩
 . exact⟨⟨a,b,c,λ_=>h.2.2.2.2.2.2.1⟩,.inr (.inl h)⟩
 . exact⟨⟨a,b,c,λ_=>h.2.2.2.2.2.2.1⟩,.inr (.inr (.inl h))⟩
 . obtain⟨a1,a2,a3,a4,a5,e,d,j⟩:=h;exact⟨⟨a,b,c,λ_=>d⟩,.inr (.inr (.inr (.inl ⟨a1,a2,a3,a4,a5,e,d,.inl (i (by omega))⟩)))⟩
 all_goals (have:=h.1;omega)
theorem Lr{k:I}(b:b6 ts true t k):qn (ts.getD t.toNat aN) k:=by
 obtain⟨⟨c,d,e,f⟩,a⟩:=(eL _ _ _).1 b;intro g;rcases a with h|h|h|h|h|h|h|h|h
 case inr.inr.inr.inl=>
  rcases h.2.2.2.2.2.2.2 with h|h
  . exact h
  . cases h.2.1
 all_goals (have:=h.1;omega)
theorem aae(x:ah)(v:I)(j:Nat):hb x (dq v) j=hb x v j:=by
 unfold hb;rw[nK]
theorem Kw{l:List I}(h:j<l.length):(l.map dq).getD j au=dq (l.getD j au):=by
 rw[du h,du (by simpa using h)];simp
theorem aaf(H:iV ts)(C:b6 ts false t v):b6 ts true t (dq v)↔
 qn (ts.getD t.toNat aN) v/\(∀k,k∈v.aw->qn (ts.getD (ts.getD t.toNat aN).Key.toNat aN) k)/\¬((ts.getD t.toNat aN).Kind=6/\v.ai.length=0)/\∀j,j<v.ai.length->b6 ts true (hb (ts.getD t.toNat aN) v j) (dq (v.ai.getD j au)):=by
 obtain⟨⟨g,l,n,L⟩,B⟩:=(eL _ _ _).1 C;have G:=bg (by omega:t.toNat<ts.length) aN;constructor
 . intro h;have D:=Ai h;have E:=Lr h;have A:(dq v).ad=v.ad:=by rw[nK]
   have p:(dq v).aw=v.aw:=by rw[nK]
   have r:(dq v).ai=v.ai.map dq:=by rw[nK]
   obtain⟨⟨_,_,f3,f4⟩,s⟩:=(eL _ _ _).1 h;refine⟨λz=>by have:=E z;rwa [A]at this,λk c=>?_,?_,λj o=>?_⟩
   . rcases s with h|h|h|h|h|h|h|h|h
     case inr.inr.inr.inr.inr.inr.inr.inl=>
      have:=h.2.2.2.2.2.2.2.2.1;rw[p]at this;exact Lr (cN.1 this _ c)
     case inr.inr.inr.inr.inr.inl=>have:=h.2.2.2.2.1;rw[p]at this;rw[this]at c;cases c
     case inl=>have:=h.2.2.2.2.1;rw[p]at this;rw[this]at c;cases c
     case inr.inl=>have:=h.2.2.2.2.1;rw[p]at this;rw[this]at c;cases c
     case inr.inr.inl=>have:=h.2.2.2.2.1;rw[p]at this;rw[this]at c;cases c
     case inr.inr.inr.inl=>have:=h.2.2.2.2.1;rw[p]at this;rw[this]at c;cases c
     all_goals (have:=h.2.2.2.2.2.1;rw[p]at this;rw[this]at c;cases c)
   . intro⟨O,N⟩;rcases s with h|h|h|h|h|h|h|h|h
     case inr.inr.inr.inr.inr.inl=>
      obtain⟨a1,a2,a3,a4,a5,a⟩:=h;split at a
      . have:=a.2.1;rw[r,gH]at this;omega
      . cases a.2.1
     all_goals (have:=h.1;omega)
   . have:=D j (by rw[r,gH];exact o)
     rwa [aae,r,Kw o]at this
 . intro⟨c,F,J,o⟩;rw[nK,eL];dsimp only;generalize M:ts.getD t.toNat aN=x at*;rcases B with h|h|h|h|h|h|h|h|h
   . obtain⟨a1,a2,a3,a4,a5,a,b⟩:=h;rw[a8,a,b];exact⟨⟨g,l,n,λ_=>rfl⟩,.inl ⟨a1,a2,a3,a4,a5,rfl,rfl⟩⟩
   . obtain⟨a1,a2,a3,a4,a5,a,b,d⟩:=h;rw[a8,a,b];exact⟨⟨g,l,n,λ_=>rfl⟩,.inr (.inl ⟨a1,a2,a3,a4,a5,rfl,rfl,d⟩)⟩
   . obtain⟨a1,a2,a3,a4,a5,a,b,d⟩:=h;rw[a8,a,b];exact⟨⟨g,l,n,λ_=>rfl⟩,.inr (.inr (.inl ⟨a1,a2,a3,a4,a5,rfl,rfl,d⟩))⟩
   . obtain⟨a1,a2,a3,a4,a5,a,b,d⟩:=h;rw[a8,a,b];exact⟨⟨g,l,n,λ_=>rfl⟩,.inr (.inr (.inr (.inl ⟨a1,a2,a3,a4,a5,rfl,rfl,.inl (c (by omega))⟩)))⟩
   . obtain⟨a1,a2,a3,a4,a5,a,b,d⟩:=h;rw[ae a1];obtain⟨b1,b2⟩:=h9.1 d;refine⟨⟨g,l,n,λ_=>rfl⟩,.inr (.inr (.inr (.inr (.inl ⟨a1,a2,a3,a4,a5,a,⟨List.Pairwise.nil,λy f=>(by cases f)⟩,h9.2 ⟨by rw[gH];exact b1,λi e=>?_⟩⟩))))⟩;have:=o i (by omega);unfold hb at this;rw[eT]at this;rw[Kw (by omega)];exact this
   . obtain⟨a1,a2,a3,a4,a5,a⟩:=h;rw[a8];cases bw:cz x.ag v.ad with
     |none=>
      rw[bw]at a;exact absurd ⟨by omega,by rw[a.2.2.2.1];rfl⟩ J
     |some m=>
      rw[bw]at a;obtain⟨b1,b2,b3⟩:=a;refine⟨⟨g,l,n,λ_=>b1⟩,.inr (.inr (.inr (.inr (.inr (.inl ⟨a1,a2,a3,a4,a5,b1,by rw[gH];exact b2,cN.2 λy f=>?_⟩)))))⟩;obtain⟨w,q,rfl⟩:=eJ.1 f;obtain⟨i,e,rfl⟩:=e5 q;have:=o i e;unfold hb at this;rw[a8,eT,bw,du e]at this;exact this
   . obtain⟨a1,a2,a3,a4,a5,a,b,d,a9⟩:=h;rw[a8];refine⟨⟨g,l,n,λ_=>b⟩,.inr (.inr (.inr (.inr (.inr (.inr (.inl ⟨a1,a2,a3,a4,a5,a,b,by rw[gH];exact d,cN.2 λy f=>?_⟩))))))⟩;obtain⟨w,q,rfl⟩:=eJ.1 f;obtain⟨i,e,rfl⟩:=e5 q;have:=o i e;unfold hb at this;rw[a8,a8,du e]at this;exact this
   . obtain⟨a1,a2,a3,a4,a5,a,b,d,a9,K,u⟩:=h;rw[a8];refine⟨⟨g,l,n,λ_=>a⟩,.inr (.inr (.inr (.inr (.inr (.inr (.inr (.inl ⟨a1,a2,a3,a4,a5,a,b,by rw[gH];exact d,cN.2 λy f=>acs (cN.1 a9 y f) (H.qo x G (by omega)) (F y f),cN.2 λy f=>?_,u⟩)))))))⟩;obtain⟨w,q,rfl⟩:=eJ.1 f;obtain⟨i,e,rfl⟩:=e5 q;have:=o i e;unfold hb at this;rw[a8,a8,du e]at this;exact this
   . obtain⟨a1,a2,a3,a4,a5,a,b,d,a9⟩:=h;rw[a8];refine⟨⟨g,l,n,λ_=>b⟩,.inr (.inr (.inr (.inr (.inr (.inr (.inr (.inr ⟨a1,a2,a3,a4,a5,a,b,by rw[gH];exact d,cN.2 λy f=>?_⟩)))))))⟩;obtain⟨w,q,rfl⟩:=eJ.1 f;obtain⟨i,e,rfl⟩:=e5 q;have:=o i e;unfold hb at this;rw[a8,a8,du e]at this;exact this
theorem aag(c:b6 ts pl t v):v.aw≠[]->0<=(ts.getD t.toNat aN).Key/\(ts.getD t.toNat aN).Key<ts.length:=by
 obtain⟨_,b⟩:=(eL _ _ _).1 c;intro aE;rcases b with h|h|h|h|h|h|h|h|h
 case inr.inr.inr.inr.inr.inr.inr.inl=>
  obtain⟨a1,a2,a3,a4,a5,f,g,i,a9,_⟩:=h;cases a:v.aw with
  |nil=>exact absurd a aE
  |cons k l=>
   have:=cN.1 a9 k (by rw[a];exact .head _);obtain⟨⟨d,e,_⟩,_⟩:=(eL _ _ _).1 this;exact⟨d,e⟩
 case inl=>exact absurd h.2.2.2.2.1 aE
 case inr.inl=>exact absurd h.2.2.2.2.1 aE
 case inr.inr.inl=>exact absurd h.2.2.2.2.1 aE
 case inr.inr.inr.inl=>exact absurd h.2.2.2.2.1 aE
 case inr.inr.inr.inr.inr.inl=>exact absurd h.2.2.2.2.1 aE
 all_goals exact absurd h.2.2.2.2.2.1 aE
theorem aah(H:EC ts)(Q:bK v):∀t,nh v->b6 ts false t v->D1 ts t v:=by
 have S:=H.V.hB H.T;induction Q with
 |mk v hs h1 w ag aj ah ak c9 ap aq ar al R=>
  intro t g c;obtain⟨am,l2,an⟩:=OH g c;obtain⟨⟨Z,aa,ab,af⟩,_⟩:=(eL _ _ _).1 c;have p:t.toNat<ts.length:=by omega
  have M:=bg p aN;have e:=aaf S c;have N:=aad S c (by omega);have L:∀i,i<v.ai.length->D1 ts (hb (ts.getD t.toNat aN) v i) (v.ai.getD i au):=λi o=>R _ (bg o au) _ (g.items _ (bg o au)) (Ai c i o);obtain⟨Y,s1,C⟩:=JE (H.T _ M) v;obtain⟨X,u,B⟩:=aaJ H.T (x:=ts.getD t.toNat aN) (v:=v) (by omega) (aag c);generalize m:ts.getD t.toNat aN=x at*;have k:∀(P:Prop),¬b6 ts true t (dq v)->lO ((⟨ts⟩:aS),t,v)=some (zeroV,false)->D1 ts t v:=λ_ h1 w=>⟨false,by simp[h1],by rw[w];rfl⟩
  have l:aH t ts.length=true:=by simp[aH];omega
  have O:∀b,(bif decide (x.Kind=6)then decide ((v.ai.length:Int)=0)else false)=b->(b=true↔x.Kind=6/\v.ai.length=0):=by
   intro b J;rw[<-J];by_cases F:x.Kind=6<;>simp[F]
  obtain⟨D,s⟩:∃b,(bif decide (x.Kind=6)then decide ((v.ai.length:Int)=0)else false)=b:=⟨_,rfl⟩
  have z:=O D s;cases Y with
  |true=>
   refine k True (λh=>?_) ?_
   . have:=C.2 (e.1 h).1;cases this
   . rw[lO,ae l];simp only[aT,ao,I.aU,m];rw[s1];rfl
  |false=>
   cases X with
   |true=>
    refine k True (λh=>?_) ?_
    . have:=B.2 (e.1 h).2.1;cases this
    . rw[lO,ae l];simp only[aT,ao,I.aU,m];rw[s1];simp only[ao,eN,bS];rw[u];rfl
   |false=>
    cases D with
    |true=>
     refine k True (λh=>(e.1 h).2.2.1 (z.1 rfl)) ?_;rw[lO,ae l];simp only[aT,ao,I.aU,m];rw[s1];simp only[ao,eN,bS];rw[u,s];rfl
    |false=>
     have g:=L3 (x:=x) (v:=v) (by omega) L (z0:=0) (z1:=false) (z2:=0) (z3:=[]) (z4:=0) (a0:=v.Kind) (a1:=v.bL) (a2:=v.bf) (a3:=v.bn) (a4:=v.ad) (ks:=v.aw) v.ai.length 0 (by omega)
     have y:∀ f,qQ (kY x v v.ai.length,(v.ai.length:Int),0,ts,v,0,false,0,[],0,v.Kind,v.bL,v.bf,v.bn,v.ad,v.aw,[]) = some f->lO ((⟨ts⟩:aS),t,v) = (match f with
      |.inl d=>some ((⟨d.2.1,d.2.2.1,d.2.2.2.1,d.2.2.2.2.1,d.2.2.2.2.2,[],[],[]⟩:I),d.1)
      |.inr a=>some ((⟨a.2.2.2.2.2.1,a.2.2.2.2.2.2.1,a.2.2.2.2.2.2.2.1,a.2.2.2.2.2.2.2.2.1,a.2.2.2.2.2.2.2.2.2.1,a.2.2.2.2.2.2.2.2.2.2.1,a.2.2.2.2.2.2.2.2.2.2.2,[]⟩:I),true)):=by
      intro f G;rw[lO,ae l];simp only[aT,ao,I.aU,m];rw[s1];simp only[ao,eN,bS];rw[u,s];simp only[ao,dW];have K:fK 120 v.aw=some v.aw:=by unfold fK;rw[ae (oa (cS (by omega) (by omega)))]
      rw[bx,K];simp only[ao];rw[N];simp only[ao,Ef];rw[G];cases f<;>rfl
     rcases g with⟨n,E⟩|⟨n,j,U,W⟩
     . have A:b6 ts true t (dq v):=e.2 ⟨C.1 rfl,B.1 rfl,λh=>(by have:=z.2 h;cases this),λj p=>E j (hA _) p⟩;refine⟨true,by simp[A],?_⟩;rw[y _ n,ae rfl];have r:(dq v).Rest=[]:=by
        obtain⟨⟨_,_,_,q⟩,_⟩:=(eL _ _ _).1 A;exact q rfl
       have:(⟨v.Kind,v.bL,v.bf,v.bn,v.ad,v.aw,v.ai.map dq,[]⟩:I)=dq v:=by
        rw[nK]at r⊢;dsimp only at r;rw[r]
       show some ((⟨v.Kind,v.bL,v.bf,v.bn,v.ad,v.aw,v.ai.map dq,[]⟩:I),true)=_;rw[this]
     . refine k True (λh=>W ((e.1 h).2.2.2 j U)) ?_;rw[y _ n];rfl
end
theorem Ls(g:bK v):bK (dq v):=by
 induction g with
 |mk v hs h1 c d e n f c9 k l m o j=>
  rw[nK];have b:∀x,x∈(if v.Kind=5 then[]else v.Rest)->x∈v.Rest:=λx a=>by
   by_cases bb:v.Kind=5
   . rw[ae bb]at a;cases a
   . rwa [ak bb]at a
  refine .mk _ hs h1 (by show(v.ai.map dq).length<=_;rw[gH];exact c) ?_ e (λx a=>?_) (λx a=>f x (b x a)) c9 k l (λx a=>m x (b x a))
  . show(if v.Kind=5 then[]else v.Rest).length<=_;by_cases bb:v.Kind=5
    . rw[ae bb];exact hA _
    . rw[ak bb];exact d
  . obtain⟨w,i,rfl⟩:=eJ.1 a;exact j w i
theorem Zj(d:bK v):∀t,b6 ts true t v->dq v=v:=by
 induction d with
 |mk v hs h1 f g k j l c9 n o p m e=>
  intro t b;obtain⟨⟨_,_,_,a⟩,_⟩:=(eL _ _ _).1 b;have a:=a rfl;have c:v.ai.map dq=v.ai:=by
   refine BV (by simp) λi a1 a2=>?_;have:=Ai b i a2;rw[du a2]at this;rw[List.getElem_map];exact e _ (BU a2) _ this
  rw[nK,c,a];cases v;simp at a;simp[a]
theorem aai(H:EC ts)(a:bK v)(d:nh v)(c:b6 ts false t v):
 ∃b,(b=true↔b6 ts true t (dq v))/\vz ((⟨ts⟩:aS),t,v)=some (if b then(dq v,0)else(zeroV,12))/\ym ((⟨ts⟩:aS),t,v)=some (if b then(dq v,0)else(zeroV,12)):=by
 have S:=H.V.hB H.T;obtain⟨b,b1,b2⟩:=aah H a t d c;obtain⟨_,f⟩:=Z5 H.T H.V a c;obtain⟨v1,_⟩:=pG H.T H.V;obtain⟨⟨u,w,_⟩,_⟩:=(eL _ _ _).1 c;have k:¬(bif decide (t<0)then true else decide ((ts.length:Int)<=t))=true:=by
  have h1:¬t<0:=by omega
  have i:¬(ts.length:Int)<=t:=by omega
  simp[h1,i]
 have m:Cx ((⟨ts⟩:aS),t)=some 0:=by
  rw[Cx];simp only[Kl];rw[v1];simp only[aT,ao];rw[bx,ak k]
 have bw:tn ((⟨ts⟩:aS),t,v)=some true:=by
  obtain⟨q,o,p⟩:=Ld (by have:=S.n;omega) H.T S.K a t false;obtain⟨x,e,s⟩:=Ag (by have:=S.n;omega) H.T S.K a t false;have g:x=q:=by rw[p]at e;exact(l5 e).symm
  have l:q=true:=by rw[<-g];exact s.2 c
  rw[tn];simp only[I.aU];rw[o,l];rfl
 have j:Cy ((⟨ts⟩:aS),t,v)=some 0:=by
  rw[Cy];simp only[I.aU];rw[m];simp only[aT,ao];rw[bx,bw];rfl
 refine⟨b,b1,?_,?_⟩
 . rw[vz];simp only[I.aU];rw[j];simp only[aT,ao];rw[bx,b2];cases b<;>simp[zeroV,I.aU]
 . rw[ym];simp only[I.aU];rw[f];simp only[aT,ao];rw[bx,aaI a t d c];simp only[ao,I.aU];obtain⟨q,r,y⟩:=Zf (by have:=S.n;omega) H.T S.K (Ls a) t;rw[r];have:q=b:=by
    cases q<;>cases b<;>simp_all
   subst this;cases q<;>simp[zeroV]
theorem Z9(H:da ts)(c:bK v)(a:b6 ts false t v):
 ∃b,(b=true↔b6 ts true t (dq v))/\vz ((⟨ts⟩:aS),t,v)=some (if b then(dq v,0)else(zeroV,12))/\ym ((⟨ts⟩:aS),t,v)=some (if b then(dq v,0)else(zeroV,12)):=aai H.g c (adw H c a) a
def ch{α c:Type}(f:α->Option c):List α->Option (List c)
 |[]=>some []
 |a::l=>match f a,ch f l with
  |some b,some m=>some (b::m)
  |_,_=>none
def e0{α:Type}:List α->List α
 |a::_::l=>a::e0 l
 |_=>[]
def e6{α:Type}:List α->List α
 |_::b::l=>b::e6 l
 |_=>[]
def oP(ks:List I):Bool:=(List.range (ks.length-1)).all λi=>decide (hc (ks.getD i au) (ks.getD (i+1) au)<0)
theorem tB:oP ks=true↔jS ks:=by
 unfold oP jS;grind
def cP(ts:List ah):Nat->Int->aj->Option I
 |0,_,_=>none
 |n+1,t,p=>
  let x:=ts.getD t.toNat aN
  if x.Kind=1 then(if p=[]then some ⟨1,false,0,[],0,[],[],[]⟩else if p=[1]then some ⟨1,true,0,[],0,[],[],[]⟩else none)else if x.Kind=2 then(match gJ p with
   |some m=>if x.bC<=iq m/\iq m<=x.bG then some ⟨2,false,iq m,[],0,[],[],[]⟩else none
   |none=>none)
  else if x.Kind=3 then(if(p.length:Int)<=x.Max then some ⟨3,false,0,p,0,[],[],[]⟩else none)else if x.Kind=4 then(match gJ p with
   |some m=>if 1<=m/\m<=1000/\((x.bj.any λy=>decide (y.ad=(m:Int)))||x.Open)=true then some ⟨4,false,0,[],(m:Int),[],[],[]⟩else none
   |none=>none)
  else if x.Kind=9 then(match p with
   |[]=>some ⟨9,false,0,[],0,[],[],[]⟩
   |c::q=>if c=1 then(cP ts n x.aG q).map λv=>⟨9,false,0,[],0,[],[v],[]⟩else none)
  else if x.Kind=6 then(match jG p with
   |some (id,q)=>(match cz x.ag id with
    |some m=>(cP ts n m.av q).map λv=>⟨6,false,0,[],id,[],[v],[]⟩
    |none=>if x.Open then some ⟨6,false,0,[],id,[],[],[⟨id,q⟩]⟩else none)
   |none=>none)
  else if x.Kind=7 then(match ir p with
   |some l=>if(l.length:Int)<=x.Max then(ch (cP ts n x.aG) l).map λa=>⟨7,false,0,[],0,[],a,[]⟩else none
   |none=>none)
  else if x.Kind=8 then(match ir p with
   |some l=>if l.length%2 = 0/\((l.length/2:Nat):Int)<=x.Max then (match ch (cP ts n x.Key) (e0 l) with
    |some ks=>if oP ks then(ch (cP ts n x.aG) (e6 l)).map λa=>⟨8,false,0,[],0,ks,a,[]⟩else none
    |none=>none)else none
   |none=>none)
  else(match iS p with
   |some l=>(match ch (λm:aR=>match l.find? (λf=>decide (f.ad = m.ad)) with
    |some f=>cP ts n m.av f.Data
    |none=>if m.bZ then some m.bu else none) x.ag with
    |some a=>if(l.all λf=>(cz x.ag f.ad).isSome || !f.cf) then some ⟨5,false,0,[],0,[],a,(l.filter λf=>!(cz x.ag f.ad).isSome).map λf=>⟨f.ad,f.Data⟩⟩else none
    |none=>none)
   |none=>none)
section
variable {ts:List ah}
def fN(ts:List ah)(b1:aq)(b2:Int)(path:aq)(o:Option I)(r:Option (I×Bool×List ah×aq×Int×aq)):Prop:=
 (∀v,o=some v->r=some (v,true,ts,b1,b2,path))/\(o=none->∃w f1 f2,r=some (w,false,ts,f1,f2,path))
theorem Aj(b:path.length<=1000)(a:Int)(b1:aq)(b2:Int):hK (a,ts,b1,b2,path)=some ((⟨0,false,0,[],0,[],[],[]⟩:I),false,ts,a,path,path):=by
 rw[hK];unfold tb fK;rw[ae (oa (cS (by omega) (by omega)))];simp
theorem vR{step:Int}{o:Option I}(e:path.length<=1000)(h:fN ts b1 b2 (path++[step]) o (o7 (t,p,ts,b1,b2,path++[step]))):
 fN ts b1 b2 path o (jc (step,t,p,ts,b1,b2,path)):=by
 have key:∀w b f1 f2,o7 (t,p,ts,b1,b2,path++[step])=some (w,b,ts,f1,f2,path++[step])->jc (step,t,p,ts,b1,b2,path)=some (w,b,ts,f1,f2,path):=by
  intro w b f1 f2 a;rw[jc];simp only[aT,ao];rw[ae (cS),a];simp only[ao,I.aU];have aI:dj .i64 ((path++[step]).length:Int) 1=(path.length:Int):=by rw[hP (by simp<;>omega) (by simp<;>omega)];simp
  rw[aI];have d:dY 0 (path.length:Int) (path++[step]).length=true:=iN.2 (by simp;omega);simp_all
 refine⟨λv c=>key _ _ _ _ (h.1 v c),λaE=>?_⟩;obtain⟨w,f1,f2,a⟩:=h.2 aE;exact⟨w,f1,f2,key _ _ _ _ a⟩
theorem qA{c:Type}{f:α->Option c}:∀{l:List α} {m:List c},ch f l=some m->m.length=l.length
 |[],m,h=>by rw[ch]at h;cases h;rfl
 |a::l,m,h=>by
  rw[ch]at h;split at h
  . rename_i b e h1 d;cases h;rw[gQ,gQ,qA d]
  . cases h
theorem L4{l:List aj}(af:l.length<=90000)(h:∀q,q∈l->∀step b1 b2,fN ts b1 b2 path (f q) (jc (step,x.aG,q,ts,b1,b2,path)))
 {z0 z2 z4 a0 a2 a4:Int}{z1 a1:Bool}{z3 a3:aj}{b1:aq}{b2:Int}:∀(k i:Nat) (acc:List I),i+k=l.length->acc.length=i->
 (∀m,ch f (l.drop i)=some m->sA (l,(l.length:Int),(i:Int),ts,b1,b2,x,z0,z1,z2,z3,z4,a0,a1,a2,a3,a4,path,acc)=some (.inr (ts,b1,b2,z0,z1,z2,z3,z4,a0,a1,a2,a3,a4,path,acc++m)))/\
 (ch f (l.drop i)=none->∃w f1 f2,sA (l,(l.length:Int),(i:Int),ts,b1,b2,x,z0,z1,z2,z3,z4,a0,a1,a2,a3,a4,path,acc)=some (.inl (false,ts,f1,f2,w,path)))
 |0,i,acc,d,c=>by
  rw[sA,cp,en (by omega),ch];grind
 |k+1,i,acc,d,c=>by
  have aC:i<l.length:=by omega
  have a:=h _ (bg aC []) (i:Int) b1 b2;have e:l.drop i=l.getD i []::l.drop (i+1):=by rw[du aC];exact lr aC
  rw[sA,bz,ae (aQ aC),bc,e,ch];cases b:f (l.getD i [])with
  |none=>
   obtain⟨w,f1,f2,n⟩:=a.2 b;simp_all
  |some v=>
   rw[a.1 v b];simp only[aT,ao,I.aU,dn];rw[bx,ae (cS),bH];obtain⟨o,j⟩:=L4 af h (z0:=z0) (z1:=z1) (z2:=z2) (z3:=z3) (z4:=z4) (a0:=a0) (a1:=a1) (a2:=a2) (a3:=a3) (a4:=a4) (b1:=b1) (b2:=b2) k (i+1) (acc++[v]) (by omega) (by simp;omega);cases hs:ch f (l.drop (i+1))with
   |none=>exact⟨λm g=>by simp at g,λ_=>j hs⟩
   |some p=>grind
end
theorem Dv{l:List I}{i:Nat}(a:i<l.length):l.set i (l.getD i au)=l:=by simp_all
theorem Lt{a0 a2 a4 z0 z2 z4:Int}{l l2:List I}{r:List bX}(af:l.length<=5000000000000)(h:∀y,y∈l->jO y=some y):∀(k i:Nat),i+k=l.length->
 sW ((l.length:Int),(i:Int),a0,a1,a2,a3,a4,z0,z1,z2,z3,z4,l,l2,r)=some (a0,a1,a2,a3,a4,z0,z1,z2,z3,z4,l,l2,r)
 |0,i,a=>by rw[sW,cp]
 |k+1,i,a=>by
  have aC:i<l.length:=by omega
  rw[sW,bz,ae (aQ aC),bc,bz];simp only[I.aU];rw[h _ (bg aC au)];simp only[aT,ao,I.aU];rw[ae (aQ aC),bz,bH,Dv aC];exact Lt af h k (i+1) (by omega)
theorem Lu{a0 a2 a4 z0 z2 z4:Int}{l l2:List I}{r:List bX}(af:l.length<=5000000000000)(h:∀y,y∈l->jO y=some y):∀(k i:Nat),i+k=l.length->
 tH ((l.length:Int),(i:Int),a0,a1,a2,a3,a4,z0,z1,z2,z3,z4,l,l2,r)=some (a0,a1,a2,a3,a4,z0,z1,z2,z3,z4,l2,l,r)
 |0,i,a=>by rw[tH,cp]
 |k+1,i,a=>by
  have aC:i<l.length:=by omega
  rw[tH,bz,ae (aQ aC),bc,bz];simp only[I.aU];rw[h _ (bg aC au)];simp only[aT,ao,I.aU];rw[ae (aQ aC),bz,bH,Dv aC];exact Lu af h k (i+1) (by omega)
theorem na:∀l:List I,l.length<=cK l
 |[]=>by simp
 |v::l=>by
  rw[hn,fw,gQ];have:=na l;omega
theorem L5(l:List bX):l.length<=(l.map λx=>x.Data.length+1).sum:=by
 induction l with
 |nil=>simp
 |cons a l ih=>simp only[fu,oy,gQ];omega
theorem wP{k n:Nat}(a:k<=1000:=by omega)(h:n<=1000000000:=by omega):room k n=true:=by
 unfold room kf eH;simp only[cd,dw];refine⟨?_,by omega⟩;have:(2*n+192)*k<=2000000192*1000:=Nat.mul_le_mul (by omega) a;omega
theorem aaj(j:bK v):wt v<=1000000000->jO v=some v:=by
 induction j with
 |mk v hs h1 o p s q t c9 A B C m k=>
  intro u;have w:=fw v;have x:=na v.aw;have l2:=na v.ai;have z:=L5 v.Rest;have kk:∀y,y∈v.aw->jO y=some y:=λy a=>m y a (by have:=e' a;omega);have n:∀y,y∈v.ai->jO y=some y:=λy a=>k y a (by have:=e' a;omega);have f:fK 120 v.aw=some v.aw:=by unfold fK;rw[ae (oa (wP))]
  have g:fK 120 v.ai=some v.ai:=by unfold fK;rw[ae (oa (wP))]
  have i:fK 24 v.Rest=some v.Rest:=by unfold fK;rw[ae (oa (wP))]
  have b:=Lt (a0:=v.Kind) (a1:=v.bL) (a2:=v.bf) (a3:=v.bn) (a4:=v.ad) (z0:=0) (z1:=false) (z2:=0) (z3:=[]) (z4:=0) (l:=v.aw) (l2:=v.ai) (r:=v.Rest) (by omega) kk v.aw.length 0 (by omega);have d:=Lu (a0:=v.Kind) (a1:=v.bL) (a2:=v.bf) (a3:=v.bn) (a4:=v.ad) (z0:=0) (z1:=false) (z2:=0) (z3:=[]) (z4:=0) (l:=v.ai) (l2:=v.aw) (r:=v.Rest) (by omega) n v.ai.length 0 (by omega);have c:sW ((v.aw.length:Int),0,v.Kind,v.bL,v.bf,v.bn,v.ad,0,false,0,[],0,v.aw,v.ai,v.Rest)=_:=b;have e:tH ((v.ai.length:Int),0,v.Kind,v.bL,v.bf,v.bn,v.ad,0,false,0,[],0,v.ai,v.aw,v.Rest)=_:=d;rw[jO,f,g,i];simp only[aT,ao];rw[c];simp only[ao];rw[e];simp only[ao];cases v;rfl
section
variable {ts:List ah}
def xc(ts:List ah)(n:Nat):Prop:=∀(t:Int) (p:aj) (b1:aq) (b2:Int) (path:aq),0<=t->t<ts.length->p.length<=4096->path.length+n=200->
 fN ts b1 b2 path (cP ts n t p) (o7 (t,p,ts,b1,b2,path))
theorem jQ(a:path.length<=1000)(b:Int)(b1:aq)(b2:Int):fN ts b1 b2 path none (hK (b,ts,b1,b2,path)>>=λr=>some (I.eta r.1,r.2.1,r.2.2.1,r.2.2.2.2.2,r.2.2.2.1,r.2.2.2.2.1)):=by
 refine⟨λv h=>(by cases h),λ_=>?_⟩;rw[Aj a];simp_all
theorem Fk(c:gT x.ag)(af:x.ag.length<=1000){m:aR}(bw:cz x.ag id=some m):∃j,j<x.ag.length/\hl (x,id)=some ((j:Int),true)/\x.ag.getD j ay=m:=by
 obtain⟨b,e⟩:=jP bw;obtain⟨r,f,g⟩:=vo (t:=x) (id:=id) (by omega);rcases g with⟨j,a,d,_,rfl⟩|⟨q,_⟩
 . exact⟨j,a,f,pJ c (bg a ay) b (by rw[d,e])⟩
 . obtain⟨i,k,rfl⟩:=e5 b;grind
theorem aak(H:iV ts){n:Nat}(ih:xc ts n)(l:x∈ts)(c:x.Kind=6)(c8:∀m,m∈x.ag->0<=m.av/\m.av<ts.length)(F:p.length<=4096)(G:path.length+(n+1)=200):
 fN ts b1 b2 path (match jG p with
  |some (id,q)=>(match cz x.ag id with
   |some m=>(cP ts n m.av q).map λv=>⟨6,false,0,[],id,[],[v],[]⟩
   |none=>if x.Open then some ⟨6,false,0,[],id,[],[],[⟨id,q⟩]⟩else none)
  |none=>none) (Cl (x,p,ts,b1,b2,path)):=by
 obtain⟨o,u,y,z⟩:=Ja p;rw[Cl,u];simp only[aT,ao];by_cases h0:o.2.2=0
 . obtain⟨v1,J,v3⟩:=y h0;rw[ak (by simp[h0]),v1];dsimp only;obtain⟨g,D⟩:=H.A x l (.inr c);cases bw:cz x.ag o.1 with
   |some m=>
    obtain⟨j,a,b,s⟩:=Fk g (by omega) bw;rw[b];simp only[ao];rw[ae trivial,ae (aQ a),bc,s];obtain⟨t1,t2⟩:=c8 m (jP bw).1;have d:=vR (step:=o.1) (path:=path) (by omega) (ih m.av o.2.1 b1 b2 (path++[o.1]) t1 t2 (by omega) (by simp;omega));cases e:cP ts n m.av o.2.1 with
    |none=>
     obtain⟨w,f1,f2,k⟩:=d.2 e;rw[k];exact⟨λv h=>by simp at h,λ_=>⟨_,_,_,rfl⟩⟩
    |some v=>
     rw[d.1 v e]
     exact⟨λf h=>by
      have:f=⟨6,false,0,[],o.1,[],[v],[]⟩:=(by simpa using h.symm);rw[this]
      simp[I.aU,c],λh=>by simp at h⟩
   |none=>
    obtain⟨r,B,C⟩:=vo (t:=x) (id:=o.1) (by omega);have i:r=(0,false):=by
     rcases C with⟨j,a,b,_,_⟩|⟨_,q⟩
     . exact absurd b (nI bw _ (bg a ay))
     . exact q
    rw[B,i];cases E:x.Open with
    |false=>
     simp only[ao,bV,b7,eN,bS,eq_self];exact jQ (by omega) _ _ _
    |true=>
     simp only[ao,bV,b7,dn,bS,eq_self];exact⟨λf h=>(by cases h;rw[c]),λh=>(by cases h)⟩
 . rw[ae (by simp[h0]),z h0];exact jQ (by omega) _ _ _
end
theorem Kx{l:List α}(h:2*j+1<l.length)(d:α):e0 (l.drop (2*j))=l.getD (2*j) d::e0 (l.drop (2*(j+1))):=by
 rw[lr (by omega:2*j<l.length),lr h,e0,du (by omega)];rfl
theorem Lv{l:List α}(h:2*j+1<l.length)(d:α):e6 (l.drop (2*j))=l.getD (2*j+1) d::e6 (l.drop (2*(j+1))):=by
 rw[lr (by omega:2*j<l.length),lr h,e6,du h];rfl
theorem PY{i:Nat}(h:i<1000000):aM .i64 (i:Int) 2=((i+2:Nat):Int):=by
 have:=vZ (a:=i) (b:=2) (by omega);exact this
section
variable {ts:List ah}
theorem L6{l:List aj}(af:l.length<=90000)(he:l.length%2=0)(h:∀q,q∈l->∀step b1 b2,fN ts b1 b2 path (f q) (jc (step,x.Key,q,ts,b1,b2,path)))
 {z0 z2 z4 a0 a2 a4:Int}{z1 a1:Bool}{z3 a3:aj}{b1:aq}{b2:Int}:∀(k j:Nat) (acc:List I),2*(j+k)=l.length->acc.length=j->
 (∀m,ch f (e0 (l.drop (2*j)))=some m->s5 (l,((2*j:Nat):Int),ts,b1,b2,x,z0,z1,z2,z3,z4,a0,a1,a2,a3,a4,path,acc)=some (.inr (l,ts,b1,b2,x,z0,z1,z2,z3,z4,a0,a1,a2,a3,a4,path,acc++m)))/\
 (ch f (e0 (l.drop (2*j)))=none->∃w f1 f2,s5 (l,((2*j:Nat):Int),ts,b1,b2,x,z0,z1,z2,z3,z4,a0,a1,a2,a3,a4,path,acc)=some (.inl (false,ts,f1,f2,w,path)))
 |0,j,acc,e,d=>by
  rw[s5,cp,en (by omega),show e0 ([]:List aj)=[]from rfl,ch];grind
 |k+1,j,acc,e,d=>by
  have aC:2*j<l.length:=by omega
  have a:=h _ (bg aC []) (fC .i64 ((2*j:Nat):Int) 2) b1 b2;rw[s5,bz,ae (aQ aC),bc,Kx (by omega) [],ch];cases b:f (l.getD (2*j) [])with
  |none=>
   obtain⟨w,f1,f2,n⟩:=a.2 b;simp_all
  |some v=>
   rw[a.1 v b];simp only[aT,ao,I.aU,dn];rw[bx,ae (cS),PY (by omega)];obtain⟨o,i⟩:=L6 af he h (z0:=z0) (z1:=z1) (z2:=z2) (z3:=z3) (z4:=z4) (a0:=a0) (a1:=a1) (a2:=a2) (a3:=a3) (a4:=a4) (b1:=b1) (b2:=b2) k (j+1) (acc++[v]) (by omega) (by simp;omega);have c:2*j+2=2*(j+1):=(by omega);rw[c];cases hs:ch f (e0 (l.drop (2*(j+1))))with
   |none=>exact⟨λm g=>by simp at g,λ_=>i hs⟩
   |some p=>grind
theorem Lw{l:List aj}(af:l.length<=90000)(he:l.length%2=0)(h:∀q,q∈l->∀step b1 b2,fN ts b1 b2 path (f q) (jc (step,x.aG,q,ts,b1,b2,path)))
 {z0 z2 z4 a0 a2 a4:Int}{z1 a1:Bool}{z3 a3:aj}{b1:aq}{b2:Int}{ks:List I}:∀(k j:Nat) (acc:List I),2*(j+k)=l.length->acc.length=j->
 (∀m,ch f (e6 (l.drop (2*j)))=some m->s6 (l,((2*j+1:Nat):Int),ts,b1,b2,x,z0,z1,z2,z3,z4,a0,a1,a2,a3,a4,path,ks,acc)=some (.inr (ts,b1,b2,z0,z1,z2,z3,z4,a0,a1,a2,a3,a4,path,ks,acc++m)))/\
 (ch f (e6 (l.drop (2*j)))=none->∃w f1 f2,s6 (l,((2*j+1:Nat):Int),ts,b1,b2,x,z0,z1,z2,z3,z4,a0,a1,a2,a3,a4,path,ks,acc)=some (.inl (false,ts,f1,f2,w,path)))
 |0,j,acc,e,d=>by
  rw[s6,cp,en (by omega),show e6 ([]:List aj)=[]from rfl,ch];grind
 |k+1,j,acc,e,d=>by
  have aC:2*j+1<l.length:=by omega
  have a:=h _ (bg aC []) (fC .i64 ((2*j+1:Nat):Int) 2) b1 b2;rw[s6,bz,ae (aQ aC),bc,Lv aC [],ch];cases b:f (l.getD (2*j+1) [])with
  |none=>
   obtain⟨w,f1,f2,n⟩:=a.2 b;simp_all
  |some v=>
   rw[a.1 v b];simp only[aT,ao,I.aU,dn];rw[bx,ae (cS),PY (by omega)];obtain⟨o,i⟩:=Lw af he h (z0:=z0) (z1:=z1) (z2:=z2) (z3:=z3) (z4:=z4) (a0:=a0) (a1:=a1) (a2:=a2) (a3:=a3) (a4:=a4) (b1:=b1) (b2:=b2) (ks:=ks) k (j+1) (acc++[v]) (by omega) (by simp;omega);have c:2*j+1+2=2*(j+1)+1:=(by omega);rw[c];cases hs:ch f (e6 (l.drop (2*(j+1))))with
   |none=>exact⟨λm g=>by simp at g,λ_=>i hs⟩
   |some p=>grind
theorem ady{a b:I}(c:cy a.bf)(d:cy b.bf):p3 (a,b)=some (hc a b):=by
 obtain⟨r,e,f⟩:=CJ c d;have:=vQ c d;grind
theorem OI{x:ah}(c:path.length<=1000){l:List aj}(a:∀y,y∈ks->cy y.bf)(af:ks.length<=90000)
 {z0 z2 z4 a0 a2 a4:Int}{z1 a1:Bool}{z3 a3:aj}{b1:aq}{b2:Int}:∀(k i:Nat),ks.length-(i+1)=k->
 ((∀m,i<=m->m+1<ks.length->hc (ks.getD m au) (ks.getD (m+1) au)<0)/\q9 (l,((i+1:Nat):Int),ts,b1,b2,x,z0,z1,z2,z3,z4,a0,a1,a2,a3,a4,path,ks)=some (.inr (l,ts,b1,b2,x,z0,z1,z2,z3,z4,a0,a1,a2,a3,a4,path,ks)))\/
 ((∃m,m+1<ks.length/\¬hc (ks.getD m au) (ks.getD (m+1) au)<0)/\∃w f1 f2,q9 (l,((i+1:Nat):Int),ts,b1,b2,x,z0,z1,z2,z3,z4,a0,a1,a2,a3,a4,path,ks)=some (.inl (false,ts,f2,w,path,f1)))
 |0,i,d=>by
  rw[q9,cp];grind
 |k+1,i,d=>by
  have aC:i+1<ks.length:=by omega
  have aI:dj .i64 ((i+1:Nat):Int) 1=(i:Int):=by rw[hP];omega
  rw[q9,bz,aI];simp only[aT,ao];rw[ae (aQ (by omega)),bz,ae (aQ aC),bz,bc,bc];simp only[I.aU];rw[ady (a _ (bg (by omega) au)) (a _ (bg aC au))];simp only[ao];by_cases b:hc (ks.getD i au) (ks.getD (i+1) au)<0
  . rw[ak (by simpa using b),bH];rcases OI c a af (x:=x) (l:=l) (z0:=z0) (z1:=z1) (z2:=z2) (z3:=z3) (z4:=z4) (a0:=a0) (a1:=a1) (a2:=a2) (a3:=a3) (a4:=a4) (b1:=b1) (b2:=b2) k (i+1) (by omega)with⟨h1,e⟩|h
    . grind
    grind
  . rw[ae (by simpa using b),Aj c];grind
theorem OJ{m:Nat}(h:m<18446744073709551616):cy (iq m):=by
 unfold iq cy;omega
theorem lY:cy 0:=by unfold cy;omega
def mi(o:Option I):Prop:=∀v,o=some v->cy v.bf
theorem mi.ite{c:Prop}[Decidable c]{a b:Option I}(e:c->mi a)(f:¬c->mi b):mi (if c then a else b):=by grind
theorem mi.no:mi none:=λv h=>(by cases h)
theorem mi.zero{k i:Int}{b:Bool}{s:aj}{a:List I}{r:List bX}:mi (some ⟨k,b,0,s,i,ks,a,r⟩):=λv h=>(by cases h;exact lY)
theorem mi.map{α:Type}{o:Option α}{k i:Int}{b:Bool}{s:aj}{ks a:α->List I}{r:List bX}:mi (o.map λv=>⟨k,b,0,s,i,ks v,a v,r⟩):=λv h=>by obtain⟨_,_,rfl⟩:=kV.1 h;exact lY
theorem L7{n:Nat}(h:cP ts n t p=some v):cy v.bf:=by
 have key:mi (cP ts n t p):=by
  cases n with
  |zero=>unfold cP;exact .no
  |succ n=>
   unfold cP;refine .ite (λ_=>.ite (λ_=>.zero) λ_=>.ite (λ_=>.zero) λ_=>.no) λ_=>?_;refine .ite (λ_=>?_) λ_=>?_
   . cases b:gJ p with
     |none=>exact .no
     |some m=>exact .ite (λ_=>λv h=>(by cases h;exact OJ (D0 b))) λ_=>.no
   refine .ite (λ_=>.ite (λ_=>.zero) λ_=>.no) λ_=>?_;refine .ite (λ_=>?_) λ_=>?_
   . cases b:gJ p with
     |none=>exact .no
     |some m=>exact .ite (λ_=>.zero) λ_=>.no
   refine .ite (λ_=>?_) λ_=>?_
   . cases p with
     |nil=>exact .zero
     |cons c q=>exact .ite (λ_=>.map) λ_=>.no
   refine .ite (λ_=>?_) λ_=>?_
   . cases jG p with
     |none=>exact .no
     |some a=>
      obtain⟨id,q⟩:=a;dsimp only;cases cz (ts.getD t.toNat aN).ag id with
      |none=>exact .ite (λ_=>.zero) λ_=>.no
      |some m=>exact .map
   refine .ite (λ_=>?_) λ_=>?_
   . cases ir p with
     |none=>exact .no
     |some l=>exact .ite (λ_=>.map) λ_=>.no
   refine .ite (λ_=>?_) λ_=>?_
   . cases ir p with
     |none=>exact .no
     |some l=>
      refine .ite (λ_=>?_) λ_=>.no;cases ch (cP ts n (ts.getD t.toNat aN).Key) (e0 l)with
      |none=>exact .no
      |some ks=>exact .ite (λ_=>.map) λ_=>.no
   . cases iS p with
     |none=>exact .no
     |some l=>
      dsimp only;split
      . exact .ite (λ_=>.zero) λ_=>.no
      . exact .no
 exact key v h
theorem pK{d:Type}{f:α->Option d}:∀{l:List α} {m:List d},ch f l=some m->∀y,y∈m->∃a,a∈l/\f a=some y
 |[],m,h,y,c=>by rw[ch]at h;cases h;cases c
 |a::l,m,h,y,c=>by
  rw[ch]at h;split at h
  . rename_i b k h1 e;cases h;rcases eU.1 c with rfl|c
    . grind
    . obtain⟨g,i,j⟩:=pK e y c;grind
  . cases h
theorem zX:∀{l:List α} {y:α},y∈e0 l->y∈l
 |[],y,h=>by cases h
 |[_],y,h=>by cases h
 |a::b::l,y,h=>by
  rcases eU.1 h with rfl|h
  . grind
  . exact .tail _ (.tail _ (zX h))
theorem IC:∀(l:List α),(e0 l).length<=l.length
 |[]=>dU _
 |[_]=>hA _
 |a::b::l=>by
  show(e0 l).length+1<=l.length+1+1;have:=IC l;omega
theorem Sf(h:a<1000000):fC .i64 (a:Int) 2=((a/2:Nat):Int):=by
 unfold fC;have e:(a:Int).tdiv 2=((a/2:Nat):Int):=by rw[yG (by omega)];omega
 rw[e];exact jI
theorem Ts{n:Nat}(ih:xc ts n)(J:x.Kind=8)(bD:0<=x.Key/\x.Key<ts.length)(dD:0<=x.aG/\x.aG<ts.length)(P:p.length<=4096)(Q:path.length+(n+1)=200):
 fN ts b1 b2 path (match ir p with
  |some l=>if l.length%2 = 0/\((l.length/2:Nat):Int)<=x.Max then (match ch (cP ts n x.Key) (e0 l) with
   |some ks=>if oP ks then(ch (cP ts n x.aG) (e6 l)).map λs=>(⟨8,false,0,[],0,ks,s,[]⟩:I)else none
   |none=>none)else none
  |none=>none) (yR (x,p,ts,b1,b2,path)):=by
 obtain⟨o,M,N,O⟩:=tA (p:=p) (by omega);rw[yR,M];simp only[aT,ao];by_cases h0:o.2=0
 . obtain⟨v1,z,v3⟩:=N h0;rw[v1];dsimp only;have G:b' (o.1.length:Int) 2=((o.1.length%2:Nat):Int):=by rw[ho];omega
   rw[G,Sf (by omega)];by_cases he:o.1.length%2=0
   . have b:¬(bif (!(decide (o.2=0)))then true else(!(decide (((o.1.length%2:Nat):Int)=0))))=true:=(by grind);rw[ak b];by_cases t:((o.1.length/2:Nat):Int)<=x.Max
     . rw[ae (show o.1.length%2=0/\((o.1.length/2:Nat):Int)<=x.Max from⟨he,t⟩),ak (show ¬decide (x.Max<((o.1.length/2:Nat):Int))=true by simp only[dw];omega)];have D:∀q,q∈o.1->∀step b1 b2,fN ts b1 b2 path (cP ts n x.Key q) (jc (step,x.Key,q,ts,b1,b2,path)):=λq k step b1 b2=>
        vR (by omega) (ih x.Key q b1 b2 (path++[step]) bD.1 bD.2 (by have:=z q k;omega) (by simp;omega))
       have j:∀q,q∈o.1->∀step b1 b2,fN ts b1 b2 path (cP ts n x.aG q) (jc (step,x.aG,q,ts,b1,b2,path)):=λq k step b1 b2=>
        vR (by omega) (ih x.aG q b1 b2 (path++[step]) dD.1 dD.2 (by have:=z q k;omega) (by simp;omega))
       obtain⟨gK,c⟩:=L6 (x:=x) (l:=o.1) (by omega) he D (z0:=0) (z1:=false) (z2:=0) (z3:=[]) (z4:=0) (a0:=x.Kind) (a1:=false) (a2:=0) (a3:=[]) (a4:=0) (b1:=b1) (b2:=b2) (o.1.length/2) 0 [] (by omega) rfl;have d0:o.1.drop (2*0)=o.1:=rfl;rw[d0]at gK c;have z0:((2*0:Nat):Int)=0:=rfl;rw[z0]at gK c;cases hs:ch (cP ts n x.Key) (e0 o.1)with
       |none=>
        obtain⟨w,f1,f2,r⟩:=c hs;rw[r];exact⟨λv h=>(by cases h),λ_=>⟨_,_,_,rfl⟩⟩
       |some ks=>
        rw[gK ks hs];simp only[ao,fZ];have E:∀y,y∈ks->cy y.bf:=λy H=>by
         obtain⟨a,_,C⟩:=pK hs y H;exact L7 C
        have F:ks.length<=90000:=by
         have:=qA hs;have:=IC o.1;omega
        have B:=OI (ts:=ts) (x:=x) (path:=path) (by omega) (l:=o.1) E F (z0:=0) (z1:=false) (z2:=0) (z3:=[]) (z4:=0) (a0:=x.Kind) (a1:=false) (a2:=0) (a3:=[]) (a4:=0) (b1:=b1) (b2:=b2) _ 0 rfl;have z1:((0+1:Nat):Int)=1:=rfl;rw[z1]at B;rcases B with⟨A,d⟩|⟨⟨m,K,L⟩,w,f1,f2,d⟩
        . have g:oP ks=true:=tB.2 λi j=>A i (hA _) j;rw[ae g,d];simp only[ao];obtain⟨e,f⟩:=Lw (x:=x) (l:=o.1) (by omega) he j (z0:=0) (z1:=false) (z2:=0) (z3:=[]) (z4:=0) (a0:=x.Kind) (a1:=false) (a2:=0) (a3:=[]) (a4:=0) (b1:=b1) (b2:=b2) (ks:=ks) (o.1.length/2) 0 [] (by omega) rfl;rw[d0]at e f;have z2:((2*0+1:Nat):Int)=1:=rfl;rw[z2]at e f;cases u:ch (cP ts n x.aG) (e6 o.1)with
          |none=>
           obtain⟨w,f1,f2,r⟩:=f u;rw[r];exact⟨λv h=>(by cases h),λ_=>⟨_,_,_,rfl⟩⟩
          |some s=>
           rw[e s u];exact⟨λv h=>(by cases h;simp[J]),λh=>(by cases h)⟩
        . have g:¬oP ks=true:=λh=>L (tB.1 h m K);rw[ak g,d];exact⟨λv h=>(by cases h),λ_=>⟨I.eta w,f1,f2,rfl⟩⟩
     . rw[ak (show ¬(o.1.length%2=0/\((o.1.length/2:Nat):Int)<=x.Max)fromλh=>t h.2),ae (show decide (x.Max<((o.1.length/2:Nat):Int))=true by simp only[dw];omega)];exact jQ (by omega) _ _ _
   . have b:(bif (!(decide (o.2=0)))then true else(!(decide (((o.1.length%2:Nat):Int)=0))))=true:=(by grind);rw[ak (show ¬(o.1.length%2=0/\((o.1.length/2:Nat):Int)<=x.Max)fromλh=>he h.1),ae b];exact jQ (by omega) _ _ _
 . have b:(bif (!(decide (o.2=0)))then true else(!(decide (b' (o.1.length:Int) 2=0))))=true:=(by simp[h0]);rw[ae b,O h0];exact jQ (by omega) _ _ _
end
end
end Go.Proofs.YtdjagncoefjfeaaGreat
