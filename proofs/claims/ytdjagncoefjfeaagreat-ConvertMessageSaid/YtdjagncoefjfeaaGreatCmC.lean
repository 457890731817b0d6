/- The functions of the program as functions of Lean, that its code does what they say, and what they answer; part C. -/
import Derived.Test.YtdjagncoefjfeaaGreatCmB

namespace Go.Proofs.YtdjagncoefjfeaaGreat
set_option linter.all false
section
open Go Go.Proofs.YtdjagncoefjfeaaGreat.Shv Go.Sort
set_option maxRecDepth 100000
def lz(v:I):Prop:=(v.Kind=1\/v.bL=false)/\(v.Kind=2\/v.bc=0)/\(v.Kind=3\/v.bn=[])/\((v.Kind=4\/v.Kind=6)\/v.ae=0)/\(v.Kind=8\/v.av=[])/\(5<=v.Kind\/v.ai=[])/\((v.Kind=5\/v.Kind=6)\/v.Rest=[])
theorem aaV(v:I):dg (sG v) (lz v):=by
 rw[sG];refine .of ?_;unfold lz;have e:∀{α:Type} (l:List α),((l.length:Int)=0)↔l=[]:=λl=>by simp_all
 grind
variable{P:Prop}{o:Option Bool}{id t code b2:Int}{v:I}{α:Type}{Ms ms:List aS}{x:ah}{w j c a:Nat}{ts:List ah}{odd pl a1:Bool}{p a3:aj}{ks:List I}{path b1:aq}{f:aj->Option I}
variable{Q:Prop}{z1:Bool}{z3:aj}
theorem aed{z b:Bool}{c:Prop}(d:z=true↔c)(a:b=false↔Q)(e:dg o P):dg (if(bif (bif false then true else(!z))then true else b)then some false else o) (c/\Q/\P):=by
 obtain⟨r,rfl,h⟩:=e;cases z with
 |false=>
  refine⟨false,rfl,?_⟩;grind
 |true=>
  cases b with
  |true=>refine⟨false,rfl,?_⟩;simp at a;simp[a]
  |false=>refine⟨r,rfl,?_⟩;simp at d a;simp[d,a,h]
theorem uo{q:Bool}(c:q=true↔Q)(a:dg o P):dg (some q>>=λt244=>(if t244 then o else some false)>>=λb=>some (bif t244 then b else false)) (Q/\P):=by
 obtain⟨r,rfl,h⟩:=a;refine⟨q&&r,by cases q<;>cases r<;>rfl,?_⟩;grind
theorem adW{A:Bool}{f L:Option Bool}{c e d:Prop}(a:A=true↔c)(j:dg f e)(g:A=true->dg L d):
 dg (some (!A)>>=λt107=>(if !t107 then f else some false)>>=λk=>if(bif t107 then true else(!k)) then some false else L) (c/\e/\d):=by
 obtain⟨q,rfl,b⟩:=j;cases A with
 |false=>refine⟨false,rfl,?_⟩;simp at a;simp[a]
 |true=>
  obtain⟨m,rfl,i⟩:=g rfl;cases q with
  |false=>refine⟨false,rfl,?_⟩;simp at b;simp[b]
  |true=>refine⟨m,rfl,?_⟩;simp at a b;simp[a,b,i]
theorem adX{c:Bool}{j g L:Option Bool}{d e oC f:Prop}(m:c=false↔d)(b:dg j e)(a:dg g oC)(l:dg L f):
 dg (some c>>=λt239=>(if !t239 then j else some false)>>=λo=>some (bif t239 then true else(!o))>>=λt249=>(if !t249 then g else some false)>>=λp=>if(bif t249 then true else(!p)) then some false else L) (d/\e/\oC/\f):=by
 obtain⟨k,rfl,b⟩:=b;obtain⟨i,rfl,a⟩:=a;obtain⟨q,rfl,n⟩:=l;rw[<-m,<-b,<-a,<-n];cases c<;>cases k<;>cases i<;>exact⟨_,rfl,by simp⟩
theorem Cw{l:List c4}{r:Int×Bool}(h:vS l id r):r.2=true↔∃y,y∈l/\y.ae=id:=by
 rcases h with⟨j,h1,b,c,rfl⟩|⟨h1,rfl⟩
 . grind
 . constructor
   . grind
   . rintro ⟨y,a,he⟩
     obtain⟨i,d,rfl⟩:=eZ a;grind
section
variable {ts:List ah}(aD:ts.length<9223372036854775807)(c7:∀t,t∈ts->eX t)(bH:∀t,t∈ts->n3 t.Kind)
include aD c7 bH in
theorem yM(aB:bM v):El ts v:=by
 induction aB with
 |mk v hs h1 aa ab ay aJ aK c' aL aM aO aD X=>
  intro t pl;rw[iH];by_cases ag:(bif decide (t<0)then true else decide (((⟨ts⟩:aR).Types.length:Int)<=t))=true
  . rw[ad ag];refine⟨false,rfl,?_⟩;rw[eU];grind
  . rw[ak ag];have ax:0<=t/\t<ts.length:=(by grind);obtain⟨j,rfl⟩:∃j:Nat,t=(j:Int):=⟨t.toNat,by omega⟩
    have T:j<ts.length:=(by omega);rw[ad (aQ T)];simp only[eU,bd,I.aU];have V:=c7 _ (bk T aN);have U:=bH _ (bk T aN);generalize ts.getD j aN=x at V U⊢;have F:=dz (il V.gQ);have ah:=dz (il V.syms);by_cases D:v.Kind=x.Kind
    . obtain⟨z,z1,z2⟩:=aaV v;have Q:=Mf (ts:=ts) aa X;have az:=Mf (ts:=ts) h1 aD;show dg ((if !(!(v.Kind=x.Kind:Bool)) then sG v else some false)>>=_) _;rw[ad (by simp[D]),z1];obtain⟨K,N,L,H,M,S,Ms,u,E,l⟩:=x;obtain⟨n,B,cy,w,ae,p,i,R⟩:=v;simp only at D;subst D;simp only at U F ah h1 aa ab z1;have J:(bif pl then decide (0<(R.length:Int))else false)=false↔(pl=true->R=[]):=(by simp_all);have ar:n=1\/n=2\/n=3\/n=4\/n=5\/n=6\/n=7\/n=8\/n=9:=by unfold n3 at U;omega
      have cut:∀ {o:Option Bool} {P W:Prop},dg o P->((lz ⟨n,B,cy,w,ae,p,i,R⟩/\(pl = true->R = [])/\P) ↔ W)->
       dg (some z>>=λr=>if(bif (bif false then true else(!r))then true else bif pl then (0<(R.length:Int):Bool)else false) then some false else o) W:=λaA aC=>(aed z2 J aA).imp aC
      have s:(0:Int)<=j/\(j:Int)<ts.length:=ax;rcases ar with rfl|rfl|rfl|rfl|rfl|rfl|rfl|rfl|rfl
      . exact cut (P:=True) (.of (b:=true) (by simp)) (by unfold lz;simp[s];grind)
      . exact cut (P:=L<=cy/\cy<=H) (.of (b:=bif decide (L<=cy)then decide (cy<=H)else false) (by by_cases g:L<=cy<;>simp[g])) (by unfold lz;simp[s];grind)
      . exact cut (P:=(w.length:Int)<=M) (.of (b:=decide ((w.length:Int)<=M)) (by simp)) (by unfold lz;simp[s];grind)
      . obtain⟨r,_,Y,O⟩:=qF (t:=⟨4,N,L,H,M,S,Ms,u,E,l⟩) ae ah;have af:jt (ae,false)=some (bif decide (1<=ae)then decide (ae<=1000)else false):=(by rfl);have an:=EY Y l pl _ (λb=>jt (ae,b)) af;have hs:=Cw O;simp only at hs;refine cut (P:=(∃y,y∈S/\y.ae=ae)\/l=true/\pl=false/\cr ae) ⟨_,an,?_⟩ (by unfold lz;simp[s];grind);rw[<-hs];unfold cr;grind
      . refine cut (P:=i.length=Ms.length/\kc Ms R/\hq ts pl Ms i) ?_ (by
         have:hq ts pl Ms i->i.length=Ms.length:=λh=>(ik.1 h).1
         unfold lz;simp[s];grind)
        exact adW (A:=decide ((i.length:Int)=(Ms.length:Int))) (by simp;omega) (aaT (t:=⟨5,N,L,H,M,S,Ms,u,E,l⟩) F ab) (λao=>Y9 (ts:=ts) (t:=⟨5,N,L,H,M,S,Ms,u,E,l⟩) (v:=⟨5,B,cy,w,ae,p,i,R⟩) (Kh ao) F X pl)
      . obtain⟨r,_,Y,O⟩:=mx (t:=⟨6,N,L,H,M,S,Ms,u,E,l⟩) ae F;have af:∀b,b=false->jt (ae,b)=some (bif decide (1<=ae)then decide (ae<=1000)else false):=by
         intro b J;subst J;rfl
        have ap:decide ((R.length:Int)=1)=true->aH 0 R.length=true:=by
         intro h;have:=gR h;exact aQ (k:=0) (by omega)
        refine cut (P:=match cH Ms ae with
         |some m=>R=[]/\i.length=1/\e0 ts pl m.aw i
         |none=>l=true/\pl=false/\cr ae/\i=[]/\∃d,R=[⟨ae,d⟩]) ?_ (by
          unfold lz;simp[s]
          grind)
        obtain⟨aP,kj⟩:=r;show dg (hA (⟨6,N,L,H,M,S,Ms,u,E,l⟩,ae)>>=_) _;rw[Y];rcases tB O with⟨e,k,ai,aj,C,aF⟩|⟨e,C⟩
        . simp only at e ai aj C aF;subst e;subst aj;rw[C];have aq:∃f:Bool,((bif decide ((i.length:Int)=1)then decide ((R.length:Int)=0)else false)=true->iH ((⟨ts⟩:aR),(Ms.getD (k:Int).toNat aE).aw,i.getD (0:Int).toNat au,pl)=some f)/\(i.length=1->(f=true↔e0 ts pl (Ms.getD k aE).aw i)):=by
           by_cases G:i.length=1
           . obtain⟨f,f1,f2⟩:=X (i.getD 0 au) (bk (by omega:0<i.length) au) (Ms.getD k aE).aw pl;refine⟨f,λ_=>f1,λ_=>?_⟩;rw[f2]
             match i,G with
             |[y],_=>rw[cW];simp
           . refine⟨false,λh=>?_,λh=>absurd h G⟩;grind
          obtain⟨f,f1,f2⟩:=aq;have av:(bif decide ((i.length:Int)=1)then decide ((R.length:Int)=0)else false)=true->aH (k:Int) Ms.length=true/\aH 0 i.length=true:=by
           intro aI;refine⟨aQ ai,?_⟩;by_cases G:i.length=1
           . exact aQ (k:=0) (by omega)
           grind
          refine⟨_,EZ _ (aH (k:Int) Ms.length) (aH 0 i.length) f f1 av,?_⟩;by_cases Z:i.length=1
          . simp_all
          grind
        . simp only at e C;subst e;rw[C];refine⟨_,E0 (bif l then(!pl)else false) (bif decide (1<=ae)then decide (ae<=1000)else false) (decide ((i.length:Int)=0)) (decide ((R.length:Int)=1)) (aH 0 R.length) (decide ((R.getD (0:Int).toNat bX).ae=ae)) ap,?_⟩;unfold cr
          match R with
          |[]=>simp
          |[⟨aG,rd⟩]=>cases l<;>cases pl<;>by_cases Z:1<=ae<;>by_cases al:ae<=1000<;>cases i<;>by_cases am:aG=ae<;>simp[Z,al,am]<;>omega
          |a::b::c=>simp;omega
      . exact cut (P:=(i.length:Int)<=M/\e0 ts pl E i) (uo (by simp) (Q E pl)) (by unfold lz;simp[s];grind)
      . refine cut (P:=((p.length:Int)<=M/\i.length=p.length)/\e0 ts pl u p/\e0 ts pl E i/\jL p) ?_ (by unfold lz;simp[s];grind);refine adX (c:=bif decide (M<(p.length:Int))then true else(!(decide ((i.length:Int)=(p.length:Int))))) ?_ (az u pl) (Q E pl) (aaU (v:=⟨8,B,cy,w,ae,p,i,R⟩) (dz h1) ay);grind
      . exact cut (P:=i.length<=1/\e0 ts pl E i) (uo (q:=decide ((i.length:Int)<=1)) (by simp;omega) (Q E pl)) (by unfold lz;simp[s];grind)
    . refine⟨false,by simp[D],?_⟩;grind
end
theorem agI{n:Nat}(h:n<=70368744177664):room 1 n=true:=by
 unfold room j8 eG;grind
theorem OT{n:Nat}(h:n<=2199023255552:=by simp;omega):room 24 n=true:=by
 unfold room j8 eG;grind
theorem bws{s b:aj}(h:b.length+s.length<=70368744177664:=by omega):se (s,b)=some ((s.length:Int),b++s):=by
 rw[se];simp only[aT,ao];rw[hM,ad (agI h)];rfl
theorem Ew(b:aj):xI b=some b:=by rw[xI,ad (by simp[hJ])]
theorem zW(a b:Nat):iv (a:Int) (b:Int)=((max a b:Nat):Int):=by unfold iv;omega
theorem eB{l:List α}{i:Nat}(h:i<l.length)(d:α):l.drop i=l.getD i d::l.drop (i+1):=by simp_all
def ir(f:Fd):gr:=⟨(f.id:Int),f.text⟩
theorem Y'{m:aS}(a:bM m.bw)(v:I):BS (m,v)=some (dK m v):=by
 rw[BS];unfold dK;cases c:m.bZ with
 |false=>simp
 |true=>
  obtain⟨r,h1,b⟩:=IS a v;simp only[I.aU];grind
theorem MF{m:aS}(a:bM v)(c:m.bZ=true):jG (v,m.bw)=some (dK m v):=by
 obtain⟨r,h1,b⟩:=Ds a m.bw;rw[h1];unfold dK;grind
section
variable {ts:List ah}
def oF(ts:List ah)(x:I)(t:Int):Prop:=∀L D:Nat,1<=L->L+wt x<=1125899906842624->j1 (t,x,(L:Int),ts,(D:Int))=some (bG ts t x,ts,((max D (L+et ts t x-1):Nat):Int))
theorem Lc:∀{ms:List aS} {l:List I},(dH ts ms l).length<=ms.length
 |[],l=>by
  rw[dH]
  . simp
  grind
 |m::ms,[]=>by
  rw[dH]
  . simp
  grind
 |m::ms,v::l=>by
  rw[dH];have:=Lc (ms:=ms) (l:=l);grind
theorem s7(t:Int)(v:I):1<=et ts t v:=by
 cases v;rw[et];omega
theorem OU(p:Ms.length<=1000)(c:∀m,m∈Ms->bM m.bw)(d:∀m,m∈Ms->cr m.ae)(af:v.ai.length=Ms.length)(e:∀x,x∈v.ai->∀t,(bG ts t x).length<=70368744177664)
 (g:∀i,i<Ms.length->dK (Ms.getD i aE) (v.ai.getD i au)=false->oF ts (v.ai.getD i au) (Ms.getD i aE).aw)(L:Nat)(l:1<=L)(o:L+cI v.ai<1125899906842624):
 ∀(k i:Nat) (D:Nat) (acc:List gr),i+k=Ms.length->L<=D->acc.length+k<=100000->
 qv ((L:Int),Ms,(Ms.length:Int),(i:Int),ts,(D:Int),v,acc)=some (ts,((max D (L+gU ts (Ms.drop i) (v.ai.drop i)):Nat):Int),v,acc++(dH ts (Ms.drop i) (v.ai.drop i)).map ir)
 |0,i,D,acc,r,j,q=>by
  rw[qv,cl,I.aU,ee (by omega:Ms.length<=i)];rw[gU,dH]
  . simp;omega
  . grind
  grind
 |k+1,i,D,acc,r,j,q=>by
  have aB:i<Ms.length:=by omega
  have a:i<v.ai.length:=by omega
  rw[qv,bu,ad (aQ aB)];simp only[aT,ao,bd,I.aU,jw];rw[ad (aQ a),Y' (c _ (bk aB aE))];rw[eB aB aE,eB a au,gU,dH];have u:=OU p c d af e g L l o k (i+1);cases s:dK (Ms.getD i aE) (v.ai.getD i au)with
  |true=>
   simp only[ao,dp,bV,b6,bS];rw[bD];grind
  |false=>
   have f:v.ai.getD i au∈v.ai:=bk a au;have z:=e' f;have di:=g i aB s (L+1) D (by omega) (by omega);have w:=s7 (ts:=ts) (Ms.getD i aE).aw (v.ai.getD i au);have b:=d _ (bk aB aE);obtain⟨n,aD⟩:∃n:Nat,(Ms.getD i aE).ae=(n:Int):=⟨(Ms.getD i aE).ae.toNat,by unfold cr at b;omega⟩
   simp only[ao,eN,bS,bV,b6];have y:=e _ f (Ms.getD i aE).aw;have aK:aM .i64 (L:Int) 1=((L+1:Nat):Int):=bD;rw[ad (aQ a),aK,di];simp only[ao];rw[aD,Is (by unfold cr at b;omega)];simp only[ao];rw[ad (OT),bD,u _ _ (by omega) (by omega) (by simp;omega)];have:(⟨(n:Int),fD n (Ms.getD i aE).cp (bG ts (Ms.getD i aE).aw (v.ai.getD i au))⟩:gr)=ir ⟨(n:Int).toNat,(Ms.getD i aE).cp,bG ts (Ms.getD i aE).aw (v.ai.getD i au)⟩:=(by rfl);simp_all
theorem OV{R:List bY}(b:∀x,x∈R->cr x.ae/\x.Data.length<=reachBytes)(c:R.length<=2199023255552)(D:Int):∀(k i:Nat) (acc:List gr),i+k=R.length->acc.length+k<=2199023255552->
 qt (R,(R.length:Int),(i:Int),ts,D,acc)=some (ts,D,acc++((R.drop i).map jT).map ir)
 |0,i,acc,f,d=>by
  rw[qt,cl,ee (by omega:R.length<=i)];simp
 |k+1,i,acc,f,d=>by
  have aB:i<R.length:=by omega
  obtain⟨a,e⟩:=b _ (bk aB bX);obtain⟨n,aD⟩:∃n:Nat,(R.getD i bX).ae=(n:Int):=⟨(R.getD i bX).ae.toNat,by unfold cr at a;omega⟩
  unfold reachBytes at e;rw[qt,bu,ad (aQ aB)];simp only[aT,ao,bd];rw[aD,Is (by unfold cr at a;omega)];simp only[ao];rw[ad (OT),bD,OV b c D k (i+1) _ (by omega) (by simp;omega),eB aB bX];have:(⟨(n:Int),fD n false (R.getD i bX).Data⟩:gr)=ir (jT (R.getD i bX)):=by
   show _=(⟨(((R.getD i bX).ae.toNat:Nat):Int),fD (R.getD i bX).ae.toNat false (R.getD i bX).Data⟩:gr);grind
  grind
theorem Oa{l:List Fd}(D:Int):∀(k i:Nat) (b:aj),i+k=l.length->l.length<=2199023255552->b.length+((l.drop i).flatMap Fd.text).length<=70368744177664->
 qu ((l.length:Int),(i:Int),ts,D,l.map ir,b)=some (ts,D,b++(l.drop i).flatMap Fd.text)
 |0,i,b,c,_,a=>by
  rw[qu,cl,ee (by omega:l.length<=i)];simp
 |k+1,i,b,c,af,a=>by
  have aB:i<l.length:=by omega
  rw[qu,bu,ad (aQ (by simp;omega)),bu];rw[eB aB default]at a⊢;simp only[e6,c2]at a⊢;have al:(l.map ir).getD i uY=ir (l.getD i default):=h3 ir l i default uY aB;simp only[bd,al];have:(ir (l.getD i default)).text=(l.getD i default).text:=rfl;rw[this,bws];simp only[aT,ao];rw[bD,Oa D k (i+1) _ (by omega) af (by rw[c2];omega)];simp
end
structure iQ (ts:List ah):Prop where
 n:ts.length<=1000
 T:∀t,t∈ts->eX t
 K:∀t,t∈ts->n3 t.Kind
 M:OY ts
 A:∀x,x∈ts->(x.Kind=5\/x.Kind=6)->gJ x.ag/\x.ag.length<=16
 S:∀x,x∈ts->x.Kind=4->∀y,y∈x.bg->cr y.ae
 rV:∀x,x∈ts->x.Kind=8->1<=(ts.getD x.Key.toNat aN).Kind/\(ts.getD x.Key.toNat aN).Kind<=4
section
variable {ts:List ah}
theorem Ax{t:Int}{v:I}(h:(ts.getD t.toNat aN).Kind=1):bG ts t v=if v.bL then[1]else[]:=by cases v;rw[bG];simp only[h];rfl
theorem Ay{t:Int}{v:I}(h:(ts.getD t.toNat aN).Kind=2):bG ts t v=gG (gf v.bc).toNat:=by cases v;rw[bG];simp only[h];rfl
theorem Az{t:Int}{v:I}(h:(ts.getD t.toNat aN).Kind=3):bG ts t v=v.bn:=by cases v;rw[bG];simp only[h];rfl
theorem AA{t:Int}{v:I}(h:(ts.getD t.toNat aN).Kind=4):bG ts t v=gG v.ae.toNat:=by cases v;rw[bG];simp only[h];rfl
theorem AB{t:Int}{v:I}(h:(ts.getD t.toNat aN).Kind=5):bG ts t v=(gP fj (fr ts (ts.getD t.toNat aN).ag v.ai v.Rest)).flatMap Fd.text:=by cases v;rw[bG];simp only[h];rfl
theorem AD{t:Int}{v:I}(h:(ts.getD t.toNat aN).Kind=6):bG ts t v=eE v.ae.toNat++(match cH (ts.getD t.toNat aN).ag v.ae with
 |some m=>(b7 ts m.aw v.ai).headD []
 |none=>(v.Rest.map bY.Data).headD []):=by
 cases v;rw[bG];simp only[h];rfl
theorem AE{t:Int}{v:I}(h:(ts.getD t.toNat aN).Kind=7):bG ts t v=(b7 ts (ts.getD t.toNat aN).aG v.ai).flatMap dB:=by cases v;rw[bG];simp only[h];rfl
theorem AF{t:Int}{v:I}(h:(ts.getD t.toNat aN).Kind=8):bG ts t v=gO (b7 ts (ts.getD t.toNat aN).Key v.av) (b7 ts (ts.getD t.toNat aN).aG v.ai):=by cases v;rw[bG];simp only[h];rfl
theorem AG{t:Int}{v:I}(h:(ts.getD t.toNat aN).Kind=9):bG ts t v=match b7 ts (ts.getD t.toNat aN).aG v.ai with
 |[]=>[]
 |p::_=>1::p:=by
 cases v;rw[bG];simp only[h];rfl
theorem Du(t:Int)(v:I):et ts t v=1+max (if v.av=[]then 0 else 1) (if(ts.getD t.toNat aN).Kind=5 then gU ts (ts.getD t.toNat aN).ag v.ai
 else if(ts.getD t.toNat aN).Kind=6 then(match cH (ts.getD t.toNat aN).ag v.ae with
  |some m=>eJ ts m.aw v.ai
  |none=>0)
 else eJ ts (ts.getD t.toNat aN).aG v.ai):=by
 cases v;rw[et];try rfl
theorem Ht(c:v.av=[])(b:v.ai=[]):et ts t v=1:=by
 rw[Du,c,b];have h1:eJ ts (ts.getD t.toNat aN).aG []=0:=by rw[eJ]
 have a:gU ts (ts.getD t.toNat aN).ag []=0:=by rw[gU];intros;simp_all
 rw[h1,a]
 have d:(match cH (ts.getD t.toNat aN).ag v.ae with
  |some m=>eJ ts m.aw []
  |none=>0)=0:=by
  split
  . rw[eJ]
  . rfl
 grind
theorem Ld(b:¬x.Kind=8)(d:∀y,y∈v.ai->(bG ts x.aG y).length<=1000000000000000)(e:∀y,y∈v.ai->oF ts y x.aG)(af:v.ai.length<=reachBytes)(L:Nat)(g:1<=L)(j:L+cI v.ai<1125899906842624):
 ∀(k i D:Nat) (acc:aj),i+k=v.ai.length->L<=D->acc.length+((b7 ts x.aG (v.ai.drop i)).flatMap dB).length<=70368744177664->
 lD ((L:Int),v.ai,(v.ai.length:Int),(i:Int),ts,(D:Int),v,x,acc)=some (ts,((max D (L+eJ ts x.aG (v.ai.drop i)):Nat):Int),acc++(b7 ts x.aG (v.ai.drop i)).flatMap dB)
 |0,i,D,acc,l,f,c=>by
  rw[lD,cl,ee (by omega:v.ai.length<=i),eJ,b7];simp;omega
 |k+1,i,D,acc,l,f,c=>by
  have aB:i<v.ai.length:=by omega
  have o:=dz af;have a:v.ai.getD i au∈v.ai:=bk aB au;have p:=e' a;rw[eB aB au,b7,e6,c2]at c;have n:=d _ a;have di:=e _ a (L+1) D (by omega) (by omega);have m:=s7 (ts:=ts) x.aG (v.ai.getD i au);have aK:aM .i64 (L:Int) 1=((L+1:Nat):Int):=bD;rw[lD,bu,ad (aQ aB)];simp only[aT,ao,bd,I.aU];rw[ak (by simp[b]),aK,di];simp only[ao];rw[Dg];simp only[ao];rw[bws];simp only[ao];rw[bD,Ld b d e af L g j k (i+1) _ _ (by omega) (by omega) (by rw[c2];omega),eB aB au,eJ,b7,e6,hp];grind
theorem Mg(d:x.Kind=8)(r:v.ai.length=v.av.length)(g:∀y,y∈v.ai->(bG ts x.aG y).length<=1000000000000000)(j:∀y,y∈v.av->(bG ts x.Key y).length<=1000000000000000)
 (l:∀y,y∈v.ai->oF ts y x.aG)(m:∀y,y∈v.av->oF ts y x.Key)(h1:∀y,y∈v.av->et ts x.Key y=1)(af:v.ai.length<=reachBytes)(L:Nat)(o:1<=L)(p:L+cI v.ai+cI v.av<1125899906842624):
 ∀(k i D:Nat) (acc:aj),i+k=v.ai.length->L<=D->acc.length+(gO (b7 ts x.Key (v.av.drop i)) (b7 ts x.aG (v.ai.drop i))).length<=70368744177664->
 lD ((L:Int),v.ai,(v.ai.length:Int),(i:Int),ts,(D:Int),v,x,acc)=some (ts,((max D (L+max (if v.av.drop i=[]then 0 else 1) (eJ ts x.aG (v.ai.drop i))):Nat):Int),acc++gO (b7 ts x.Key (v.av.drop i)) (b7 ts x.aG (v.ai.drop i)))
 |0,i,D,acc,q,n,f=>by
  rw[lD,cl,ee (by omega:v.ai.length<=i),ee (by omega:v.av.length<=i),eJ,b7,b7,gO]
  . simp;omega
  grind
 |k+1,i,D,acc,q,n,f=>by
  have aB:i<v.ai.length:=by omega
  have a:i<v.av.length:=by omega
  have w:=dz af;have c:v.ai.getD i au∈v.ai:=bk aB au;have b:v.av.getD i au∈v.av:=bk a au;have z:=e' c;have A:=e' b;rw[eB aB au,eB a au,b7,b7,gO,c2,c2]at f;have t:=g _ c;have u:=j _ b;have e:=m _ b (L+1) D (by omega) (by omega);rw[h1 _ b]at e;have di:=l _ c (L+1) (max D (L+1+1-1)) (by omega) (by omega);have s:=s7 (ts:=ts) x.aG (v.ai.getD i au);have aK:aM .i64 (L:Int) 1=((L+1:Nat):Int):=bD;rw[lD,bu,ad (aQ aB)];simp only[aT,ao,bd,I.aU];rw[ad (by simp[d]),ad (aQ a),aK,e];simp only[ao];rw[Dg];simp only[ao];rw[bws];simp only[ao];rw[di];simp only[ao];rw[Dg];simp only[ao];rw[bws (by rw[c2];omega)];simp only[ao];rw[bD,Mg d r g j l m h1 af L o p k (i+1) _ _ (by omega) (by omega) (by rw[c2,c2];omega),eB aB au,eB a au,eJ,b7,b7,gO,hp,hp];grind
end
section
variable {ts:List ah}(H:iQ ts)
theorem vG(H:iQ ts)(a:bM v)(b:wt v<=1099511627776)(t:Int):(bG ts t v).length<=23089744183296:=by
 have:=abP H.M a b t;omega
theorem aaW{l:List I}{r:List bY}(h:gJ ms)(g:kc ms r):Ge ((fr ts ms l r).map ir)=some ((gP fj (fr ts ms l r)).map ir):=by
 have e:∀a b:Fd,lu (ir a) (ir b)=fj a b:=λa b=>by unfold lu fj ir;simp
 have d:SWO lu:=by refine⟨λx=>?_,λx y z h1 c=>?_,λx y z h1 c=>?_⟩<;>simp[lu]at*<;>omega
 have f:ka lu ((fr ts ms l r).map ir)=true:=by
  have h0:=zb (ts:=ts) (l:=l) h g;generalize fr ts ms l r=q at h0;induction q with
  |nil=>rfl
  |cons a q ih=>
   simp only[ka,cd,cY,gz]at h0⊢;grind
 unfold Ge;rw[M' d f,Mc ir e]
theorem By{D L b:Nat}(h:w=1+b):max (max D L) (L+b)=max D (L+w-1):=by omega
theorem agn{D L b:Nat}(h:w=1+b):max (max D L) (L+1+b-1)=max D (L+w-1):=by omega
theorem Q0{b:Nat}(h:w=1+max 0 b):w=1+b:=by omega
theorem acf(n:∀m,m∈x.ag->bM m.bw)(e:gJ x.ag)(O:x.ag.length<=16)(c:kc x.ag v.Rest)(p:v.ai.length=x.ag.length)
 (A:∀y,y∈v.Rest->y.Data.length<=reachBytes)(s:∀x,x∈v.ai->∀t,(bG ts t x).length<=23089744183296)
 (k:∀i,i<x.ag.length->oF ts (v.ai.getD i au) (x.ag.getD i aE).aw)
 (N:((gP fj (fr ts x.ag v.ai v.Rest)).flatMap Fd.text).length<=23089744183296)
 (L D:Nat)(g:1<=L)(H:L<=D)(J:L+cI v.ai<1125899906842624)(M:(v.Rest.map λx=>x.Data.length+1).sum<=1099511627776):
 B0 (x,v,(L:Int),ts,(D:Int))=some ((gP fj (fr ts x.ag v.ai v.Rest)).flatMap Fd.text,ts,((max D (L+gU ts x.ag v.ai):Nat):Int)):=by
 have w:=e.2;have j:∀y,y∈v.Rest->cr y.ae/\y.Data.length<=reachBytes:=λy b=>⟨(c.2 y b).1,A y b⟩
 have K:v.Rest.length<=(v.Rest.map λx=>x.Data.length+1).sum:=by
  generalize v.Rest=R;induction R with
  |nil=>simp
  |cons a R ih=>simp only[iw,gz,oj];omega
 have P:=Lc (ts:=ts) (ms:=x.ag) (l:=v.ai);have B:=OU (ts:=ts) (Ms:=x.ag) (v:=v) (by omega) n w p (λy b t=>by have:=s y b t;omega) (λi o _=>k i o) L g (by omega) x.ag.length 0 D [] (by omega) (by omega) (by simp;omega);have C:qv ((L:Int),x.ag,(x.ag.length:Int),0,ts,(D:Int),v,[])=_:=B;rw[B0];simp only[I.aU];rw[C];simp only[aT,ao,fE,fR];generalize ((max D (L+gU ts x.ag v.ai):Nat):Int)=d;have E:=OV (ts:=ts) (R:=v.Rest) j (by omega) d v.Rest.length 0 ((dH ts x.ag v.ai).map ir) (by omega) (by simp;omega);have F:qt (v.Rest,(v.Rest.length:Int),0,ts,d,(dH ts x.ag v.ai).map ir)=_:=E;rw[F];simp only[ao,fE];rw[<-p4];have hs:=aaW (ts:=ts) (l:=v.ai) e c;have r:(fr ts x.ag v.ai v.Rest).length<=2199023255552:=by unfold fr;simp;omega
 have cX:dH ts x.ag v.ai++v.Rest.map jT=fr ts x.ag v.ai v.Rest:=rfl;rw[cX];generalize fr ts x.ag v.ai v.Rest=q at*;rw[hs];simp only[ao];have f:=nA fj q;rw[ad (by simp[f.length_eq])];have u:(gP fj q).length<=2199023255552:=by rw[f.length_eq];exact r
 generalize gP fj q=z at*;have Q:=Oa (ts:=ts) (l:=z) d z.length 0 [] (ga _) u (by simp only[fE,h8];omega);have G:qu (((z.map ir).length:Int),0,ts,d,z.map ir,[])=some (ts,d,[]++(z.drop 0).flatMap Fd.text):=by grind
 rw[G];simp only[ao,Ew,fE,fR]
theorem aaX(A:x.ag.length<9223372036854775807)(B:gJ x.ag)(l: -9223372036854775808<=v.ae/\v.ae<=9223372036854775807)
 (a:match cH x.ag v.ae with
  |some m=>v.Rest=[]/\v.ai.length=1/\e0 ts false m.aw v.ai
  |none=>x.Open=true/\True/\cr v.ae/\v.ai=[]/\∃d,v.Rest=[⟨v.ae,d⟩])
 (E:∀y,y∈v.Rest->y.Data.length<=reachBytes)(z:∀x,x∈v.ai->∀t,(bG ts t x).length<=23089744183296)
 (w:∀x,x∈v.ai->∀t,b5 ts false t x->oF ts x t)
 (L D:Nat)(J:1<=L)(H:L<=D)(K:L+cI v.ai<1125899906842624):
 yC (x,v,(L:Int),ts,(D:Int)) = some (eE v.ae.toNat++(match cH x.ag v.ae with
  |some m=>(b7 ts m.aw v.ai).headD []
  |none=>(v.Rest.map bY.Data).headD []),ts,((max D (L+(match cH x.ag v.ae with
  |some m=>eJ ts m.aw v.ai
  |none=>0)):Nat):Int)):=by
 obtain⟨r,p,_,g⟩:=mx (t:=x) v.ae A;rcases tB g with⟨e,q,o,F,c,G⟩|⟨e,c⟩
 . rw[c]at a;rw[c];simp only at a⊢;obtain⟨d1,d2,d3⟩:=a;have b:=B.2 _ (bk o aE);rw[G]at b;obtain⟨n,aD⟩:∃n:Nat,v.ae=(n:Int):=⟨v.ae.toNat,by unfold cr at b;omega⟩
   rw[yC];simp only[I.aU];rw[p,aD,hv (by unfold cr at b;omega),tj (by unfold cr at b;omega)];simp only[aT,ao];rw[ak (by simp[e]),F,ad (aQ o)]
   match b:v.ai,d2 with
   |[y],_=>
    have f:y∈v.ai:=by rw[b];exact .head _
    have i:aH 0 ([y]:List I).length=true:=aQ (k:=0) (by simp);have O:=e' f;have g:=cW.1 d3 y f;have di:=w y f _ g (L+1) D (by omega) (by omega);have aK:aM .i64 (L:Int) 1=((L+1:Nat):Int):=bD;rw[ad i,aK];simp only[bd,rq,kf];rw[di];have N:=z y f (x.ag.getD q aE).aw;have C:=j6 (n:=n) (by rw[aD]at l;omega);simp only[ao];rw[ad (fW)];have M:=s7 (ts:=ts) (x.ag.getD q aE).aw y;have u:eJ ts (x.ag.getD q aE).aw [y]=et ts (x.ag.getD q aE).aw y:=by
     have cX:eJ ts (x.ag.getD q aE).aw []=0:=by rw[eJ]
     rw[eJ,cX];omega
    have s:b7 ts (x.ag.getD q aE).aw [y]=[bG ts (x.ag.getD q aE).aw y]:=by rw[b7,b7]
    have e:max D (L+1+et ts (x.ag.getD q aE).aw y-1)=max D (L+et ts (x.ag.getD q aE).aw y):=(by omega);rw[s,u,e];rfl
 . rw[c]at a;rw[c];simp only at a⊢;obtain⟨d1,d2,d3,d4,d,d5⟩:=a;obtain⟨n,aD⟩:∃n:Nat,v.ae=(n:Int):=⟨v.ae.toNat,by unfold cr at d3;omega⟩
   have j:=E ⟨v.ae,d⟩ (by rw[d5];exact .head _);simp only at j;unfold reachBytes at j;have C:=j6 (n:=n) (by rw[aD]at l;omega);rw[yC];simp only[I.aU];rw[p,d5,aD,hv (by unfold cr at d3;omega),tj (by unfold cr at d3;omega)];simp only[aT,ao];have i:aH 0 ([⟨(n:Int),d⟩]:List bY).length=true:=aQ (k:=0) (by simp);rw[ad (by simp[e]),ad i];simp only[rq,kf];rw[ad (fW)];have e:max D (L+0)=D:=(by omega);rw[e];rfl
set_option maxHeartbeats 400000 in
theorem acg(H:iQ ts)(aW:bM v):wt v<=1099511627776->∀t,b5 ts false t v->oF ts v t:=by
 induction aW with
 |mk v hs h1 O aI al M U c' Y aA a1 a0 aZ=>
  intro aY t r L D K a5;have aL:bM v:= .mk v hs h1 O aI al M U c' Y aA a1;have a9:=fx v;have G:∀x,x∈v.ai->∀t,(bG ts t x).length<=23089744183296:=λx o t=>vG H (M x o) (by have:=e' o;omega) t;have aV:∀x,x∈v.av->∀t,(bG ts t x).length<=23089744183296:=λx o t=>vG H (al x o) (by have:=e' o;omega) t;have F:∀x,x∈v.ai->∀t,b5 ts false t x->oF ts x t:=λx o t=>aZ x o (by have:=e' o;omega) t;have aO:∀x,x∈v.av->∀t,b5 ts false t x->oF ts x t:=λx o t=>a0 x o (by have:=e' o;omega) t;have Q:=vG H aL aY t;obtain⟨⟨a3,a4,q,_⟩,r⟩:=(eU _ _ _).1 r;obtain⟨j,rfl⟩:∃j:Nat,t=(j:Int):=⟨t.toNat,by omega⟩
  have ab:j<ts.length:=by omega
  rw[j1];simp only[aT,ao];rw[ad (aQ ab),zW];simp only[bd,I.aU]at r q⊢;have J:=bk ab aN;have C:=Du (ts:=ts) (j:Int) v;have aX:=@Ax ts (j:Int) v;have ap:=@Ay ts (j:Int) v;have aq:=@Az ts (j:Int) v;have ar:=@AA ts (j:Int) v;have V:=@AB ts (j:Int) v;have ax:=@AD ts (j:Int) v;have W:=@AE ts (j:Int) v;have X:=@AF ts (j:Int) v;have ay:=@AG ts (j:Int) v;simp only[bd]at C aX ap aq ar V ax W X ay;have Z:=H.A _ J;have aJ:=H.rV _ J;have aF:=H.S _ J;generalize ts.getD j aN=x at*;have am:¬x.Kind=5->¬x.Kind=6->v.av=[]->et ts (j:Int) v=1+eJ ts x.aG v.ai:=λa b c=>by grind
  have N:v.av=[]->v.ai=[]->max D (L+et ts (j:Int) v-1)=max D L:=λa b=>by rw[Ht a b];omega
  rcases r with⟨k,s,u,w,l,g,B⟩|⟨k,s,u,w,l,g,B,p,E⟩|⟨k,s,u,w,l,g,B,p⟩|⟨k,s,u,w,l,g,B,p⟩|⟨k,s,u,w,l,g,B,p⟩|⟨k,s,u,w,l,g⟩|⟨k,s,u,w,l,g,B,p,E⟩|⟨k,s,u,w,l,g,B,p,E,aB,a2⟩|⟨k,s,u,w,l,g,B,p,E⟩<;>rw[k]at q
  . grind
  . have d:=q.symm;rw[ak (by simp[d]),ad (by simp[d]),ap d,N l g,D5 Y];simp only[ao];have az:=Ak Y;obtain⟨n,aD⟩:∃n:Nat,gf v.bc=(n:Int):=⟨(gf v.bc).toNat,by unfold gf;split<;>omega⟩
    rw[aD,od]at az;rw[aD,D6 az];rfl
  . have d:=q.symm;rw[ak (by simp[d]),ak (by simp[d]),ad (by simp[d]),aq d,N l g]
  . have d:=q.symm;rw[ak (by simp[d]),ak (by simp[d]),ak (by simp[d]),ad (by simp[d]),ar d,N l g]
    obtain⟨n,aD⟩:∃n:Nat,v.ae=(n:Int):=⟨v.ae.toNat,by
     rcases p with⟨y,f,he⟩|⟨_,_,he⟩
     . have:=aF d y f;unfold cr at this;omega
     . unfold cr at he;omega⟩
    rw[aD,hv,D6 (by omega),od];rfl
  . have d:=q.symm;rw[ak (by simp[d]),ak (by simp[d]),ak (by simp[d]),ak (by simp[d]),ad (by simp[d]),V d];obtain⟨R,an⟩:=Z (.inl d);obtain⟨aR,aS⟩:=ik.1 p;rw[acf (H.T _ J).jb R an B aR (λy f=>U y f) G (λi M=>F _ (bk (by omega) au) _ (aS i M)) (by rw[<-V d];exact Q) L (max D L) K (by omega) (by omega) (by omega)];simp only[ao];rw[ad d,ad g]at C;have e:max (max D L) (L+gU ts x.ag v.ai)=max D (L+et ts (j:Int) v-1):=By (Q0 C);rw[e]
  . have d:=q.symm;rw[ak (by simp[d]),ak (by simp[d]),ak (by simp[d]),ak (by simp[d]),ak (by simp[d]),ad (by simp[d]),ax d];obtain⟨R,an⟩:=Z (.inr d);rw[ak (show ¬x.Kind=5 by omega),ad d,ad l]at C;rw[aaX (dz (il (H.T _ J).gQ)) R aA g (λy f=>U y f) G F L (max D L) K (by omega) (by omega)];simp only[ao]
    exact ep (λz:Nat=>(some (eE v.ae.toNat++(match cH x.ag v.ae with
     |some m=>(b7 ts m.aw v.ai).headD []
     |none=>(v.Rest.map bY.Data).headD []),ts,(z:Int)):Option (aj×List ah×Int))) (By (D:=D) (L:=L) (Q0 C))
  . have d:=q.symm;rw[ak (by simp[d]),ak (by simp[d]),ak (by simp[d]),ak (by simp[d]),ak (by simp[d]),ak (by simp[d]),ak (by simp[d])];have r:=cW.1 E;rw[W d]at Q;have:=Ld (x:=x) (v:=v) (by omega) (λy f=>by have:=G y f x.aG;omega) (λy f=>F y f x.aG (r y f)) O L K (by omega) v.ai.length 0 (max D L) [] (by omega) (by omega) (by simp only[fE,h8];omega);have h0:lD ((L:Int),v.ai,(v.ai.length:Int),0,ts,((max D L:Nat):Int),v,x,[])=_:=this;rw[h0];simp only[ao,Ew];have af:=am (by omega) (by omega) g;have e:max (max D L) (L+eJ ts x.aG v.ai)=max D (L+et ts (j:Int) v-1):=By af;rw[W d,fE,fR,e]
  . have d:=q.symm;rw[ak (by simp[d]),ak (by simp[d]),ak (by simp[d]),ak (by simp[d]),ak (by simp[d]),ak (by simp[d]),ak (by simp[d])];have r:=cW.1 aB;have aa:=cW.1 E;rw[X d]at Q;obtain⟨a',ba⟩:=aJ d;have aU:∀y,y∈v.av->et ts x.Key y=1:=λy f=>by
     obtain⟨⟨_,_,b3,_⟩,b⟩:=(eU _ _ _).1 (aa y f);apply Ht<;>grind
    have:=Mg (x:=x) (v:=v) d p (λy f=>by have:=G y f x.aG;omega) (λy f=>by have:=aV y f x.Key;omega) (λy f=>F y f x.aG (r y f)) (λy f=>aO y f x.Key (aa y f)) aU O L K (by omega) v.ai.length 0 (max D L) [] (by omega) (by omega) (by simp only[fE,h8];omega);have h0:lD ((L:Int),v.ai,(v.ai.length:Int),0,ts,((max D L:Nat):Int),v,x,[])=_:=this;rw[h0];simp only[ao,Ew];rw[ak (show ¬x.Kind=5 by omega),ak (show ¬x.Kind=6 by omega)]at C;simp only[fE,fR];have e:max (max D L) (L+max (if v.av=[]then 0 else 1) (eJ ts x.aG v.ai))=max D (L+et ts (j:Int) v-1):=By C;rw[X d,e]
  . have d:=q.symm;rw[ak (by simp[d]),ak (by simp[d]),ak (by simp[d]),ak (by simp[d]),ak (by simp[d]),ak (by simp[d]),ad (by simp[d]),ay d];have r:=cW.1 E
    match P:v.ai,p with
    |[],_=>rw[hM,N g P,b7]
    |[y],_=>
     have f:y∈v.ai:=by rw[P];exact .head _
     have aP:aH 0 ([y]:List I).length=true:=aQ (k:=0) (by simp);rw[bt,ad aP];have a8:=e' f;have di:=F y f x.aG (r y f) (L+1) (max D L) (by omega) (by omega);have aK:aM .i64 (L:Int) 1=((L+1:Nat):Int):=bD;rw[aK];simp only[rq,kf];rw[di];have a7:=G y f x.aG;simp only[ao];rw[ad (fW (by simp;omega))];have af:=am (by omega) (by omega) g;rw[P]at af;have a6:=s7 (ts:=ts) x.aG y;have aE:eJ ts x.aG [y]=et ts x.aG y:=by
      have cX:eJ ts x.aG []=0:=by rw[eJ]
      rw[eJ,cX];omega
     have aC:b7 ts x.aG [y]=[bG ts x.aG y]:=by rw[b7,b7]
     rw[aE]at af;have e:max (max D L) (L+1+et ts x.aG y-1)=max D (L+et ts (j:Int) v-1):=agn af;rw[aC,e];rfl
    |a::b::c,h=>simp at h
end
section
variable {ts:List ah}
def iP(ts:List ah)(x:I)(t:Int):Prop:=iY ((⟨ts⟩:aR),t,x)=some (bG ts t x)
def oE(ts:List ah)(x:I)(t:Int):Prop:=ml ((⟨ts⟩:aR),t,x)=some ((et ts t x:Nat):Int)
theorem Mh(b:∀y,y∈v.ai->(bG ts x.aG y).length<=1000000000000000)(d:∀y,y∈v.ai->iP ts y x.aG)(af:v.ai.length<=reachBytes):
 ∀(k i:Nat) (acc:aj),i+k=v.ai.length->acc.length+((b7 ts x.aG (v.ai.drop i)).flatMap dB).length<=70368744177664->
 sR (acc,(i:Int),ts,v,x)=some (acc++(b7 ts x.aG (v.ai.drop i)).flatMap dB)
 |0,i,acc,e,a=>by
  rw[sR,cl,ee (by omega:v.ai.length<=i),b7];simp
 |k+1,i,acc,e,a=>by
  have aB:i<v.ai.length:=by omega
  have g:=dz af;have c:v.ai.getD i au∈v.ai:=bk aB au;rw[eB aB au,b7,e6,c2]at a;have f:=b _ c;have di:=d _ c;unfold iP at di;rw[sR,bu,ad (aQ aB)];simp only[aT,ao,bd,I.aU];rw[di];simp only[ao];rw[CM];simp only[ao];rw[ad (fW),bD,Mh b d af k (i+1) _ (by omega) (by rw[c2];omega),eB aB au,b7,e6,hp]
theorem MG(n:v.ai.length=v.av.length)(d:∀y,y∈v.ai->(bG ts x.aG y).length<=1000000000000000)(e:∀y,y∈v.av->(bG ts x.Key y).length<=1000000000000000)
 (j:∀y,y∈v.ai->iP ts y x.aG)(l:∀y,y∈v.av->iP ts y x.Key)(af:v.ai.length<=reachBytes):
 ∀(k i:Nat) (acc:aj),i+k=v.ai.length->acc.length+(gO (b7 ts x.Key (v.av.drop i)) (b7 ts x.aG (v.ai.drop i))).length<=70368744177664->
 sS (acc,(i:Int),ts,v,x)=some (acc++gO (b7 ts x.Key (v.av.drop i)) (b7 ts x.aG (v.ai.drop i)))
 |0,i,acc,m,c=>by
  rw[sS,cl,ee (by omega:v.ai.length<=i),ee (by omega:v.av.length<=i),b7,b7,gO]
  . simp
  grind
 |k+1,i,acc,m,c=>by
  have aB:i<v.ai.length:=by omega
  have a:i<v.av.length:=by omega
  have q:=dz af;have f:v.ai.getD i au∈v.ai:=bk aB au;have g:v.av.getD i au∈v.av:=bk a au;rw[eB aB au,eB a au,b7,b7,gO,c2,c2]at c;have o:=d _ f;have p:=e _ g;have di:=j _ f;have b:=l _ g;unfold iP at di b;rw[sS,bu,ad (aQ a)];simp only[aT,ao,bd,I.aU];rw[b];simp only[ao];rw[CM];simp only[ao];rw[ad (fW),ad (aQ aB),di];simp only[ao];rw[CM];simp only[ao];rw[ad (fW (by rw[c2];omega)),bD,MG n d e j l af k (i+1) _ (by omega) (by rw[c2,c2];omega),eB aB au,eB a au,b7,b7,gO,hp,hp]
def lb(R:List bY)(n:Nat):List Fd:=(R.filter λx=>decide (x.ae=(n:Int))).map jT
theorem Za{a:bY}{l:List bY}{n:Nat}(h:a.ae=(n:Int)):lb (a::l) n=jT a::lb l n:=by unfold lb;rw[List.filter_cons,ad (by rw[h];simp),gz]
theorem aaY{a:bY}{l:List bY}{n:Nat}(h:¬a.ae=(n:Int)):lb (a::l) n=lb l n:=by unfold lb;rw[List.filter_cons,ak (by simpa using h)]
theorem agD{d:Type}{m:aS}{w:I}(b:bM w)(A B:Option d):
 ((if !(!m.bZ) then jG (w,m.bw)else some false).bind λc=>if(bif (!m.bZ)then true else(!c)) then A else B)=if dK m w then B else A:=by
 cases a:m.bZ with
 |false=>
  have:dK m w=false:=by unfold dK;rw[a];rfl
  rw[this];rfl
 |true=>
  have:=MF b a;simp only[dp,eN,bS,this];cases dK m w<;>rfl
theorem HN(d:∀y,y∈v.Rest->y.Data.length<=reachBytes)(c:v.Rest.length<=reachBytes)(n:Nat)(aD:n<=1000):
 ∀(k i:Nat) (b:aj),i+k=v.Rest.length->b.length+((lb (v.Rest.drop i) n).flatMap Fd.text).length<=70368744177664->
 mF (b,(n:Int),(i:Int),ts,v,x)=some (b++(lb (v.Rest.drop i) n).flatMap Fd.text,(n:Int),ts,v,x)
 |0,i,b,g,a=>by
  rw[mF,cl,ee (by omega:v.Rest.length<=i),I.aU];simp[lb]
 |k+1,i,b,g,a=>by
  have aB:i<v.Rest.length:=by omega
  have j:=dz c;have f:=d _ (bk aB bX);unfold reachBytes at f;rw[eB aB bX]at a;rw[mF,bu,ad (aQ aB)];simp only[aT,ao,bd,I.aU];rw[eB aB bX];by_cases e:(v.Rest.getD i bX).ae=(n:Int)
  . rw[Za e,e6]at a⊢;have ht:(jT (v.Rest.getD i bX)).text=fD n false (v.Rest.getD i bX).Data:=by unfold jT Fd.text;rw[e];rfl
    rw[ht,c2]at a;rw[ad (by rw[e];simp),ad (aQ aB),Jp (by omega) (by omega)];simp only[ao];rw[ad (fW),bD,HN d c n aD k (i+1) _ (by omega) (by rw[c2];omega),ht,hp]
  . rw[aaY e]at a⊢;rw[ak (by simpa using e),bD,HN d c n aD k (i+1) _ (by omega) a]
noncomputable def xu (ts:List ah)(x:ah)(v:I)(n:Nat):List Fd:=(fr ts x.ag v.ai v.Rest).filter λf=>decide (f.id=n)
theorem HU{x:ah}(q:x.ag.length<9223372036854775807)(s:gJ x.ag)(z:kc x.ag v.Rest)(l:v.ai.length=x.ag.length)
 (w:∀y,y∈v.Rest->y.Data.length<=reachBytes)(g:v.Rest.length<=reachBytes)(u:∀y,y∈v.ai->bM y)(o:∀x,x∈v.ai->∀t,(bG ts t x).length<=23089744183296)
 (A:∀i,i<x.ag.length->iP ts (v.ai.getD i au) (x.ag.getD i aE).aw):
 ∀(k n:Nat) (b:aj),n+k=1001->1<=n->b.length+(((List.range' n k).flatMap (xu ts x v)).flatMap Fd.text).length<=70368744177664->
 po (b,(n:Int),ts,v,x)=some (b++((List.range' n k).flatMap (xu ts x v)).flatMap Fd.text)
 |0,n,b,J,h1,a=>by
  rw[po,cl];simp
 |k+1,n,b,J,h1,a=>by
  have K:∀y,y∈v.Rest->0<=y.ae:=λy N=>by have:=(z.2 y N).1;unfold cr at this;omega
  have al:xu ts x v n=((dH ts x.ag v.ai).filter λf=>decide (f.id=n))++lb v.Rest n:=by
   unfold xu fr lb;rw[List.filter_append,X4 _ _ K]
  rw[Fs,e6,Fj,al,Fj]at a⊢;simp only[c2]at a;rw[po,bu];obtain⟨r,_,Q,H⟩:=mx (t:=x) (n:Int) q;simp only[aT,ao,bd,I.aU];rw[Q];simp only[ao];have B:∀c:aj,c.length+((lb v.Rest n).flatMap Fd.text).length<=70368744177664->mF (c,(n:Int),0,ts,v,x)=some (c++(lb v.Rest n).flatMap Fd.text,(n:Int),ts,v,x):=λc h=>by
   have:=HN (ts:=ts) (x:=x) w g n (by omega) v.Rest.length 0 c (by omega) (by simpa using h);grind
  rcases tB H with⟨e,j,C,O,G,P⟩|⟨e,G⟩
  . have p:j<v.ai.length:=(by omega);have D:v.ai.getD j au∈v.ai:=bk p au;have d:=Ju (ts:=ts) (MD s) l C (n:=n) (by rw[P];simp);rw[ad e,O,ad (aQ C)];rw[ad (by rw[aQ p];rfl)];simp only[bd];rw[agD (u _ D)];have F:=HU q s z l w g u o A k (n+1);cases E:dK (x.ag.getD j aE) (v.ai.getD j au)with
    |true=>
     rw[E,ad rfl]at d;rw[d]at a⊢;rw[ad rfl,B b (by omega)];simp only[ao,I.aU];rw[bD,F _ (by omega) (by omega) (by rw[c2];omega)];simp
    |false=>
     rw[E,bt]at d;rw[d]at a⊢;have R:=o _ D (x.ag.getD j aE).aw;have di:=A j C;unfold iP at di;have ht:([⟨n,(x.ag.getD j aE).cp,bG ts (x.ag.getD j aE).aw (v.ai.getD j au)⟩]:List Fd).flatMap Fd.text=fD n (x.ag.getD j aE).cp (bG ts (x.ag.getD j aE).aw (v.ai.getD j au)):=by simp only[e6,List.flatMap_nil,lX];rfl
     rw[ht]at a⊢;rw[bt,ad (aQ p),di];simp only[ao];rw[Jp (by omega) (by omega)];simp only[ao];rw[ad (fW),B _ (by rw[c2];omega)];simp only[ao,I.aU];rw[bD,F _ (by omega) (by omega) (by rw[c2,c2];omega)];grind
  . have M:((dH ts x.ag v.ai).filter λf=>decide (f.id=n))=[]:=Km λm L=>by
     have:=nz G m L;omega
    rw[M]at a⊢;rw[ak (by simp[e]),B b (by omega)];simp only[ao,I.aU];rw[bD,HU q s z l w g u o A k (n+1) _ (by omega) (by omega) (by rw[c2];omega)];simp
theorem adf{c:Type}{m:aS}{w:I}(b:bM w)(A B:Option c):
 ((if m.bZ then jG (w,m.bw)else some false).bind λr=>if(bif m.bZ then r else false) then A else B)=if dK m w then A else B:=by
 cases a:m.bZ with
 |false=>
  have:dK m w=false:=by unfold dK;rw[a];rfl
  rw[this];rfl
 |true=>
  have:=MF b a;simp only[bS,this];cases dK m w<;>rfl
theorem Mi(ba:¬x.Kind=5)(a:¬x.Kind=6)(c:∀y,y∈v.ai->oE ts y x.aG)(af:v.ai.length<=reachBytes):
 ∀(k i b:Nat),i+k=v.ai.length->hW ((b:Int),(i:Int),ts,v,x)=some (((max b (eJ ts x.aG (v.ai.drop i)):Nat):Int),v)
 |0,i,b,d=>by rw[hW,cl,ee (by omega:v.ai.length<=i),eJ,I.aU,Nat.max_zero]
 |k+1,i,b,d=>by
  have aB:i<v.ai.length:=by omega
  have e:=dz af;have di:=c _ (bk aB au);unfold oE at di;rw[hW,bu,ak (by simp[ba]),ak (by simp[a]),ad (aQ aB)];simp only[bd,I.aU];rw[di];simp only[aT,ao];rw[zW,bD,Mi ba a c af k (i+1) _ (by omega),eB aB au,eJ,Nat.max_assoc]
theorem MH(ba:x.Kind=5)(g:v.ai.length=x.ag.length)(c:∀y,y∈v.ai->bM y)(e:∀i,i<x.ag.length->oE ts (v.ai.getD i au) (x.ag.getD i aE).aw)(af:v.ai.length<=reachBytes):
 ∀(k i b:Nat),i+k=v.ai.length->hW ((b:Int),(i:Int),ts,v,x)=some (((max b (gU ts (x.ag.drop i) (v.ai.drop i)):Nat):Int),v)
 |0,i,b,f=>by
  rw[hW,cl,ee (by omega:v.ai.length<=i),I.aU,ee (by omega:x.ag.length<=i)];rw[gU]
  . grind
  grind
 |k+1,i,b,f=>by
  have aB:i<v.ai.length:=by omega
  have a:i<x.ag.length:=by omega
  have m:=dz af;have j:=bk aB au;have di:=e i a;unfold oE at di;rw[hW,bu,ad (by simp[ba]),ad (aQ a)];simp only[aT,ao,bd,I.aU];rw[ad (by rw[aQ aB];rfl),adf (c _ j)];have d:=MH ba g c e af k (i+1);rw[eB aB au,eB a aE,gU];cases l:dK (x.ag.getD i aE) (v.ai.getD i au)with
  |true=>rw[ad rfl,bD,d _ (by omega),ad rfl]
  |false=>
   rw[bt,ak (by simp[ba]),ad (aQ aB),di];simp only[ao];rw[zW,bD,d _ (by omega),bt,Nat.max_assoc]
theorem MI(a:x.Kind=6)(d:j<x.ag.length)(c:hA (x,v.ae)=some ((j:Int),true))(e:∀y,y∈v.ai->oE ts y (x.ag.getD j aE).aw)(af:v.ai.length<=reachBytes):
 ∀(k i b:Nat),i+k=v.ai.length->hW ((b:Int),(i:Int),ts,v,x)=some (((max b (eJ ts (x.ag.getD j aE).aw (v.ai.drop i)):Nat):Int),v)
 |0,i,b,f=>by rw[hW,cl,ee (by omega:v.ai.length<=i),eJ,I.aU,Nat.max_zero]
 |k+1,i,b,f=>by
  have aB:i<v.ai.length:=by omega
  have g:=dz af;have di:=e _ (bk aB au);unfold oE at di;rw[hW,bu,ak (by simp[a]),ad (by simp[a]),c];simp only[aT,ao,bd,I.aU];rw[ad (aQ d),ad (aQ aB),di];simp only[ao];rw[zW,bD,MI a d c e af k (i+1) _ (by omega),eB aB au,eJ,Nat.max_assoc]
theorem Dv{b:Nat}(f:hW (0,0,ts,v,x)=some (((max 0 b:Nat):Int),v))(g:b<1152921504606846976)(d:w=1+max (if v.av=[]then 0 else 1) b):
 (hW (0,0,ts,v,x)>>=λo=>if (0<(o.2.av.length:Int):Bool) then some (aM .i64 1 (iv o.1 1))else some (aM .i64 1 o.1))=some (w:Int):=by
 rw[f];simp only[aT,ao];by_cases c:v.av=[]
 . rw[ak (by simp[c])];rw[ad c]at d;have:aM .i64 1 ((max 0 b:Nat):Int)=((1+max 0 b:Nat):Int):=vE (a:=1) (by omega);rw[this,d]
 . rw[ad (by
    have:0<v.av.length:=tR.2 c
    grind)]
   rw[ak c]at d;have e:iv ((max 0 b:Nat):Int) 1=((max 1 b:Nat):Int):=by
    have:=zW (max 0 b) 1;grind
   rw[e];have:aM .i64 1 ((max 1 b:Nat):Int)=((1+max 1 b:Nat):Int):=vE (a:=1) (by omega);rw[this,d]
theorem ach(H:iQ ts)(W:bM v):wt v<=1099511627776->∀t,b5 ts false t v->oE ts v t:=by
 induction W with
 |mk v hs h1 F ah al O am c' aq ar aw ap X=>
  intro an t z;have ao:=fx v;have G:∀x,x∈v.ai->∀t,b5 ts false t x->oE ts x t:=λx L t=>X x L (by have:=e' L;omega) t;obtain⟨⟨af,ag,w,_⟩,z⟩:=(eU _ _ _).1 z;obtain⟨j,rfl⟩:∃j:Nat,t=(j:Int):=⟨t.toNat,by omega⟩
  have K:j<ts.length:=by omega
  unfold oE;rw[ml,ad (aQ K)];simp only[bd,I.aU]at z w⊢;have M:=bk K aN;have f:=Du (ts:=ts) (j:Int) v;simp only[bd]at f;have aj:=H.A _ M;have U:=dz (il (H.T _ M).gQ);generalize ts.getD j aN=x at*;have b1:∀E,eJ ts E v.ai<1152921504606846976:=λE=>by have:=GY ts v.ai E;omega
  have b2:∀E,gU ts E v.ai<1152921504606846976:=λE=>by have:=GX ts v.ai E;omega
  have D:¬x.Kind=5->¬x.Kind=6->(∀y,y∈v.ai->b5 ts false x.aG y)->(hW (0,0,ts,v,x)>>=λo=>if (0<(o.2.av.length:Int):Bool) then some (aM .i64 1 (iv o.1 1))else some (aM .i64 1 o.1))=some ((et ts (j:Int) v:Nat):Int):=by
   intro a b c;have u:=Mi (ts:=ts) (x:=x) (v:=v) a b (λy C=>G y C _ (c y C)) F v.ai.length 0 0 (by omega);rw[ak a,ak b]at f;exact Dv u (b1 _) f
  rcases z with⟨k,g,l,m,n,d,p⟩|⟨k,g,l,m,n,d,p,s,B⟩|⟨k,g,l,m,n,d,p,s⟩|⟨k,g,l,m,n,d,p,s⟩|⟨k,g,l,m,n,d,p,s⟩|⟨k,g,l,m,n,d⟩|⟨k,g,l,m,n,d,p,s,B⟩|⟨k,g,l,m,n,d,p,s,B,N,ab⟩|⟨k,g,l,m,n,d,p,s,B⟩<;>rw[k]at w
  . grind
  . grind
  . grind
  . grind
  . obtain⟨R,S⟩:=ik.1 s;have u:=MH (ts:=ts) (x:=x) (v:=v) w.symm R O (λi P=>G _ (bk (by omega) au) _ (S i P)) F v.ai.length 0 0 (by omega);rw[ad w.symm]at f;exact Dv u (b2 _) f
  . rw[ak (show ¬x.Kind=5 by omega),ad w.symm]at f;obtain⟨r,_,aa,z⟩:=mx (t:=x) v.ae U;rcases tB z with⟨e,q,Y,Z,J,ax⟩|⟨e,J⟩
    . rw[J]at d f;simp only at d f;obtain⟨d1,d2,d3⟩:=d;have V:r=((q:Int),true):=by rw[<-Z,<-e]
      have u:=MI (ts:=ts) (x:=x) (v:=v) w.symm Y (by rw[aa,V]) (λy C=>G y C _ (cW.1 d3 y C)) F v.ai.length 0 0 (by omega);exact Dv u (b1 _) f
    . rw[J]at d f;simp only at d f;have Q:v.ai=[]:=d.2.2.2.1;have u:hW (0,0,ts,v,x)=some (((max 0 0:Nat):Int),v):=by rw[hW,ak (by simp[Q]),I.aU];rfl
      exact Dv u (by omega) f
  . exact D (by omega) (by omega) (cW.1 B)
  . exact D (by omega) (by omega) (cW.1 N)
  . exact D (by omega) (by omega) (cW.1 B)
set_option maxHeartbeats 400000 in
theorem Dw(H:iQ ts)(aU:bM v):wt v<=1099511627776->∀t,b5 ts false t v->iP ts v t:=by
 induction aU with
 |mk v hs h1 Q Z ah R U c' X Y aZ aY aX=>
  intro aW t p;have aC:bM v:= .mk v hs h1 Q Z ah R U c' X Y aZ;have a6:=fx v;have K:∀x,x∈v.ai->∀t,(bG ts t x).length<=23089744183296:=λx s t=>vG H (R x s) (by have:=e' s;omega) t;have aO:∀x,x∈v.av->∀t,(bG ts t x).length<=23089744183296:=λx s t=>vG H (ah x s) (by have:=e' s;omega) t;have G:∀x,x∈v.ai->∀t,b5 ts false t x->iP ts x t:=λx s t=>aX x s (by have:=e' s;omega) t;have aI:∀x,x∈v.av->∀t,b5 ts false t x->iP ts x t:=λx s t=>aY x s (by have:=e' s;omega) t;have N:=vG H aC aW t;obtain⟨⟨a4,a5,P,_⟩,p⟩:=(eU _ _ _).1 p;obtain⟨j,rfl⟩:∃j:Nat,t=(j:Int):=⟨t.toNat,by omega⟩
  have af:j<ts.length:=by omega
  unfold iP;rw[iY,ad (aQ af)];simp only[aT,ao,bd,I.aU]at p P⊢;have W:=bk af aN;have aV:=@Ax ts (j:Int) v;have am:=@Ay ts (j:Int) v;have an:=@Az ts (j:Int) v;have ap:=@AA ts (j:Int) v;have V:=@AB ts (j:Int) v;have aq:=@AD ts (j:Int) v;have ar:=@AE ts (j:Int) v;have ax:=@AF ts (j:Int) v;have ay:=@AG ts (j:Int) v;simp only[bd]at aV am an ap V aq ar ax ay;have aa:=H.A _ W;have aF:=H.S _ W;have aj:=dz (il (H.T _ W).gQ);generalize ts.getD j aN=x at*;rcases p with⟨k,z,B,C,D,o,u⟩|⟨k,z,B,C,D,o,u,w,F⟩|⟨k,z,B,C,D,o,u,w⟩|⟨k,z,B,C,D,o,u,w⟩|⟨k,z,B,C,D,o,u,w⟩|⟨k,z,B,C,D,o⟩|⟨k,z,B,C,D,o,u,w,F⟩|⟨k,z,B,C,D,o,u,w,F,aB,a3⟩|⟨k,z,B,C,D,o,u,w,F⟩<;>rw[k]at P<;>have g:=P.symm
  . grind
  . rw[ak (by simp[g]),ad (by simp[g]),am g,tl X];simp only[ao];have az:=Ak X;obtain⟨n,aD⟩:∃n:Nat,gf v.bc=(n:Int):=⟨(gf v.bc).toNat,by unfold gf;split<;>omega⟩
    rw[aD,od]at az;rw[aD,K9 az];rfl
  . rw[ak (by simp[g]),ak (by simp[g]),ad (by simp[g]),an g]
  . rw[ak (by simp[g]),ak (by simp[g]),ak (by simp[g]),ad (by simp[g]),ap g]
    obtain⟨n,aD⟩:∃n:Nat,v.ae=(n:Int):=⟨v.ae.toNat,by
     rcases w with⟨y,m,he⟩|⟨_,_,he⟩
     . have:=aF g y m;unfold cr at this;omega
     . unfold cr at he;omega⟩
    rw[aD,hv,K9 (by omega),od];rfl
  . rw[ak (by simp[g]),ak (by simp[g]),ak (by simp[g]),ak (by simp[g]),ak (by simp[g]),ak (by simp[g]),ak (by simp[g]),ak (by simp[g]),V g];obtain⟨L,aP⟩:=aa (.inl g);obtain⟨aL,aM⟩:=ik.1 w;rw[V g]at N;have al:=Xd (zb (ts:=ts) (l:=v.ai) L u) (λy m=>SM L u m);have cX:(λn=>(fr ts x.ag v.ai v.Rest).filter λf=>decide (f.id=n))=xu ts x v:=rfl;rw[cX]at al;rw[al]at N⊢;have:=HU (ts:=ts) aj L u aL (λy m=>U y m) Z R K (λi aK=>G _ (bk (by omega) au) _ (aM i aK)) 1000 1 [] (by omega) (by omega) (by simp only[h8];omega);have h0:po ([],1,ts,v,x)=_:=this;rw[h0];rfl
  . rw[ak (by simp[g]),ak (by simp[g]),ak (by simp[g]),ak (by simp[g]),ak (by simp[g]),ad (by simp[g]),aq g];obtain⟨L,aP⟩:=aa (.inr g);obtain⟨r,_,a2,p⟩:=mx (t:=x) v.ae aj;rcases tB p with⟨e,q,aA,a0,M,a1⟩|⟨e,M⟩
    . rw[M]at o;rw[M];simp only at o⊢;obtain⟨d1,d2,d3⟩:=o;have E:=L.2 _ (bk aA aE);rw[a1]at E;obtain⟨n,aD⟩:∃n:Nat,v.ae=(n:Int):=⟨v.ae.toNat,by unfold cr at E;omega⟩
      rw[ak (by simp[d1]),a2,aD,hv (by unfold cr at E;omega),y1 (by unfold cr at E;omega)];simp only[ao];rw[a0,ad (aQ aA)]
      match E:v.ai,d2 with
      |[y],_=>
       have m:y∈v.ai:=by rw[E];exact .head _
       have J:aH 0 ([y]:List I).length=true:=aQ (k:=0) (by simp);have p:=cW.1 d3 y m;have di:=G y m _ p;unfold iP at di;rw[ad J];simp only[bd,rq,kf];rw[di];have aR:=K y m (x.ag.getD q aE).aw;have aS:=j6 (n:=n) (by rw[aD]at Y;omega);simp only[ao];rw[ad (fW)];have O:b7 ts (x.ag.getD q aE).aw [y]=[bG ts (x.ag.getD q aE).aw y]:=by rw[b7,b7]
       rw[O];rfl
    . rw[M]at o;rw[M];simp only at o⊢;obtain⟨d1,d2,d3,d4,d,d5⟩:=o;obtain⟨n,aD⟩:∃n:Nat,v.ae=(n:Int):=⟨v.ae.toNat,by unfold cr at d3;omega⟩
      have ab:=U ⟨v.ae,d⟩ (by rw[d5];exact .head _);simp only at ab;unfold reachBytes at ab;have aS:=j6 (n:=n) (by rw[aD]at Y;omega);rw[d5,aD,hM,hv (by unfold cr at d3;omega),y1 (by unfold cr at d3;omega)];simp only[ao];have J:aH 0 ([⟨(n:Int),d⟩]:List bY).length=true:=aQ (k:=0) (by simp);rw[ad J];simp only[rq,kf];rw[ad (fW)];rfl
  . rw[ak (by simp[g]),ak (by simp[g]),ak (by simp[g]),ak (by simp[g]),ak (by simp[g]),ak (by simp[g]),ad (by simp[g])];have p:=cW.1 F;rw[ar g]at N⊢;have:=Mh (ts:=ts) (x:=x) (v:=v) (λy m=>by have:=K y m x.aG;omega) (λy m=>G y m x.aG (p y m)) Q v.ai.length 0 [] (by omega) (by simp only[fE,h8];omega);have h0:sR ([],0,ts,v,x)=_:=this;rw[h0];rfl
  . rw[ak (by simp[g]),ak (by simp[g]),ak (by simp[g]),ak (by simp[g]),ak (by simp[g]),ak (by simp[g]),ak (by simp[g]),ad (by simp[g])];have p:=cW.1 aB;have aJ:=cW.1 F;rw[ax g]at N⊢;have:=MG (ts:=ts) (x:=x) (v:=v) w (λy m=>by have:=K y m x.aG;omega) (λy m=>by have:=aO y m x.Key;omega) (λy m=>G y m x.aG (p y m)) (λy m=>aI y m x.Key (aJ y m)) Q v.ai.length 0 [] (by omega) (by simp only[fE,h8];omega);have h0:sS ([],0,ts,v,x)=_:=this;rw[h0];rfl
  . rw[ak (by simp[g]),ak (by simp[g]),ak (by simp[g]),ak (by simp[g]),ad (by simp[g]),ay g];have p:=cW.1 F
    match E:v.ai,w with
    |[],_=>rw[hM,b7]
    |[y],_=>
     have m:y∈v.ai:=by rw[E];exact .head _
     have J:aH 0 ([y]:List I).length=true:=aQ (k:=0) (by simp);rw[bt,ad J];have di:=G y m x.aG (p y m);unfold iP at di;simp only[rq,kf];rw[di];have aR:=K y m x.aG;simp only[ao];rw[ad (fW (by simp;omega))];have O:b7 ts x.aG [y]=[bG ts x.aG y]:=by rw[b7,b7]
     rw[O];rfl
    |a::b::c,h=>simp at h
end
theorem dg.p7{a b:α}(h:eT o a b):dg o (a=b):=h
theorem Eu{j k l:Option Bool}{f g i:Prop}(h1:dg j f)(d:dg k g)(e:dg l i):
 dg (j>>=λm=>(if m then k else some false)>>=λn=>some (bif m then n else false)>>=λt53=>(if t53 then l else some false)>>=λo=>some (bif t53 then o else false)) (f/\g/\i):=by
 obtain⟨a,rfl,h1⟩:=h1;obtain⟨b,rfl,d⟩:=d;obtain⟨c,rfl,e⟩:=e;rw[<-h1,<-d,<-e];cases a<;>cases b<;>cases c<;>exact⟨_,rfl,by simp⟩
theorem Ob(h:dg o P):dg (o>>=λr=>some r) P:=by grind
def pH(a:Bool)(Ms:List aS):Prop:=(∀m,m∈Ms->mb a m=false)/\(a=false\/0<Ms.length)/\gJ Ms/\(∀m,m∈Ms->nm m.Name=true)/\(Ms.map (·.Name)).Nodup/\Ms.length<=16
def An(S:List c4):Prop:=0<S.length/\(S.Pairwise (λa b=>a.ae<b.ae)/\∀y,y∈S->cr y.ae)/\(∀y,y∈S->nm y.Name=true)/\(S.map (·.Name)).Nodup/\S.length<=16
theorem Zb{l:List aj}:l.Nodup↔∀i,i<l.length->(l.take i).contains (l.getD i [])=false:=by
 unfold List.Nodup;rw[ru];constructor
 . intro h i a;apply Fp.2;intro c;obtain⟨k,b,he⟩:=(pP (by omega)).1 c;grind
 . intro h k i d a b he;have:=h i a;rw[Fp]at this;apply this;refine(pP (by omega)).2 ⟨k,b,?_⟩;grind
theorem MJ(f:α->Int)(g:α->aj)(d:α)(l:List α):(∀i,i<l.length->kd (l.map f) (l.map g) i=true)↔(l.Pairwise (λa b=>f a<f b)/\∀x,x∈l->cr (f x))/\(∀x,x∈l->nm (g x)=true)/\(l.map g).Nodup:=by
 rw[Dt f d,Zb];have key:∀i,i<l.length->(kd (l.map f) (l.map g) i=true↔cr (f (l.getD i d))/\(i=0\/f (l.getD (i-1) d)<f (l.getD i d))/\nm (g (l.getD i d))=true/\((l.map g).take i).contains ((l.map g).getD i [])=false):=by
  intro i c;unfold kd cr;grind
 constructor
 . intro h;refine⟨⟨λi c=>?_,λx j=>?_⟩,λx j=>?_,λi c=>?_⟩
   . grind
   . obtain⟨i,c,rfl⟩:=eZ j;grind
   . obtain⟨i,c,rfl⟩:=eZ j;grind
   grind
 . rintro ⟨⟨h1,k⟩,m,n⟩ i c
   refine(key i c).2 ⟨k _ (bk c d),?_,m _ (bk c d),n i (by simpa using c)⟩;by_cases h0:i=0
   . omega
   . right;have:=h1 (i-1) (by omega);have e:i-1+1=i:=(by omega);grind
theorem Le{t:ah}(h:eX t):dg (sJ t) ((∀m,m∈t.ag->mb (decide (t.Kind=6)) m=false)/\(t.Kind=5\/0<t.ag.length)/\gJ t.ag/\(∀m,m∈t.ag->nm m.Name=true)/\(t.ag.map (·.Name)).Nodup/\t.ag.length<=16):=by
 obtain⟨r,h1,a⟩:=Ke h;refine⟨r,h1,a.trans ?_⟩;rw[MJ (λm:aS=>m.ae) (λm:aS=>m.Name) aE];have e:(∀i,i<t.ag.length->mb (decide (t.Kind=6)) (t.ag.getD i aE)=false)↔∀m,m∈t.ag->mb (decide (t.Kind=6)) m=false:=by
  constructor
  . intro h m b;obtain⟨i,c,rfl⟩:=eZ b;grind
  grind
 rw[e];unfold gJ;grind
theorem aaZ{l:List c4}(af:l.length*24<=reachBytes):dg (vA l) (An l):=by
 obtain⟨r,h1,a⟩:=MA af;refine⟨r,h1,a.trans ?_⟩;rw[MJ (λm:c4=>m.ae) (λm:c4=>m.Name) dL];unfold An;grind
def gh(t:ah):Prop:=
 (t.Kind=1/\t.Name=[]/\t.bA=0/\t.bC=0/\t.Max=0/\t.bg=[]/\t.ag=[]/\t.Key=0/\t.aG=0/\t.Open=false)\/
 (t.Kind=2/\t.Name=[]/\t.bA<=t.bC/\t.Max=0/\t.bg=[]/\t.ag=[]/\t.Key=0/\t.aG=0/\t.Open=false)\/
 (t.Kind=3/\t.Name=[]/\t.bA=0/\t.bC=0/\(0<=t.Max/\t.Max<=200)/\t.bg=[]/\t.ag=[]/\t.Key=0/\t.aG=0/\t.Open=false)\/
 (t.Kind=4/\nm t.Name=true/\t.bA=0/\t.bC=0/\t.Max=0/\An t.bg/\t.ag=[]/\t.Key=0/\t.aG=0)\/
 (t.Kind=5/\nm t.Name=true/\t.bA=0/\t.bC=0/\t.Max=0/\t.bg=[]/\pH false t.ag/\t.Key=0/\t.aG=0/\t.Open=false)\/
 (t.Kind=6/\nm t.Name=true/\t.bA=0/\t.bC=0/\t.Max=0/\t.bg=[]/\pH true t.ag/\t.Key=0/\t.aG=0)\/
 (t.Kind=7/\t.Name=[]/\t.bA=0/\t.bC=0/\(0<=t.Max/\t.Max<=50)/\t.bg=[]/\t.ag=[]/\t.Key=0/\t.Open=false)\/
 (t.Kind=8/\t.Name=[]/\t.bA=0/\t.bC=0/\(0<=t.Max/\t.Max<=50)/\t.bg=[]/\t.ag=[]/\t.Open=false)\/
 (t.Kind=9/\t.Name=[]/\t.bA=0/\t.bC=0/\t.Max=0/\t.bg=[]/\t.ag=[]/\t.Key=0/\t.Open=false)
theorem aa0{t:ah}(h:eX t):dg (gu t) (gh t):=by
 have p:eX (⟨0,[],0,0,0,[],[],0,0,false⟩:ah):=⟨by simp,by simp,by simp⟩
 obtain⟨c,N,L,H,M,S,Ms,K,E,b⟩:=t;have aF:=h.syms;have d:=h.gQ;have e:=h.jb;simp only at aF d e;by_cases f:c=1
 . subst f;have a:=iU (a:=(⟨0,N,L,H,M,S,Ms,K,E,b⟩:ah)) ⟨aF,d,e⟩ (⟨0,[],0,0,0,[],[],0,0,false⟩:ah);refine(Ob (dg.p7 a)).imp ?_;unfold gh;simp
 by_cases i:c=2
 . subst i;have a:=iU (a:=(⟨0,N,0,0,M,S,Ms,K,E,b⟩:ah)) ⟨aF,d,e⟩ (⟨0,[],0,0,0,[],[],0,0,false⟩:ah);refine(uo (q:=decide (L<=H)) (Q:=L<=H) (by simp) (dg.p7 a)).imp (Q:=gh ⟨2,N,L,H,M,S,Ms,K,E,b⟩) ?_;unfold gh;grind
 by_cases j:c=3
 . subst j;have a:=iU (a:=(⟨0,N,L,H,0,S,Ms,K,E,b⟩:ah)) ⟨aF,d,e⟩ (⟨0,[],0,0,0,[],[],0,0,false⟩:ah);refine(uo (q:=bif decide (0<=M)then decide (M<=200)else false) (Q:=0<=M/\M<=200) (by by_cases g:0<=M<;>simp[g]) (dg.p7 a)).imp (Q:=gh ⟨3,N,L,H,M,S,Ms,K,E,b⟩) ?_;unfold gh;grind
 by_cases k:c=4
 . subst k;have a:=iU (a:=(⟨0,[],L,H,M,[],Ms,K,E,false⟩:ah)) ⟨by simp,d,e⟩ (⟨0,[],0,0,0,[],[],0,0,false⟩:ah);refine(Eu (⟨nm N,tu N,Iff.rfl⟩:dg (kG N) (nm N=true)) (aaZ aF) (dg.p7 a)).imp (Q:=gh ⟨4,N,L,H,M,S,Ms,K,E,b⟩) ?_;unfold gh;grind
 by_cases l:c=5
 . subst l;have a:=iU (a:=(⟨0,[],L,H,M,S,[],K,E,bif b then decide ((5:Int)=5)else false⟩:ah)) ⟨aF,by simp,by simp⟩ (⟨0,[],0,0,0,[],[],0,0,false⟩:ah);refine(Eu (⟨nm N,tu N,Iff.rfl⟩:dg (kG N) (nm N=true)) (Le h) (dg.p7 a)).imp (Q:=gh ⟨5,N,L,H,M,S,Ms,K,E,b⟩) ?_;unfold gh pH;grind
 by_cases m:c=6
 . subst m;have a:=iU (a:=(⟨0,[],L,H,M,S,[],K,E,bif b then decide ((6:Int)=5)else false⟩:ah)) ⟨aF,by simp,by simp⟩ (⟨0,[],0,0,0,[],[],0,0,false⟩:ah);refine(Eu (⟨nm N,tu N,Iff.rfl⟩:dg (kG N) (nm N=true)) (Le h) (dg.p7 a)).imp (Q:=gh ⟨6,N,L,H,M,S,Ms,K,E,b⟩) ?_;unfold gh pH;grind
 by_cases fi:c=7
 . subst fi;have a:=iU (a:=(⟨0,N,L,H,0,S,Ms,K,0,b⟩:ah)) ⟨aF,d,e⟩ (⟨0,[],0,0,0,[],[],0,0,false⟩:ah);refine(uo (q:=bif decide (0<=M)then decide (M<=50)else false) (Q:=0<=M/\M<=50) (by by_cases g:0<=M<;>simp[g]) (dg.p7 a)).imp (Q:=gh ⟨7,N,L,H,M,S,Ms,K,E,b⟩) ?_;unfold gh;grind
 by_cases n:c=8
 . subst n;have a:=iU (a:=(⟨0,N,L,H,0,S,Ms,0,0,b⟩:ah)) ⟨aF,d,e⟩ (⟨0,[],0,0,0,[],[],0,0,false⟩:ah);refine(uo (q:=bif decide (0<=M)then decide (M<=50)else false) (Q:=0<=M/\M<=50) (by by_cases g:0<=M<;>simp[g]) (dg.p7 a)).imp (Q:=gh ⟨8,N,L,H,M,S,Ms,K,E,b⟩) ?_;unfold gh;grind
 by_cases o:c=9
 . subst o;have a:=iU (a:=(⟨0,N,L,H,M,S,Ms,K,0,b⟩:ah)) ⟨aF,d,e⟩ (⟨0,[],0,0,0,[],[],0,0,false⟩:ah);refine(Ob (dg.p7 a)).imp (Q:=gh ⟨9,N,L,H,M,S,Ms,K,E,b⟩) ?_;unfold gh;simp
 refine⟨false,by simp[gu,f,i,j,k,l,m,fi,n,o],?_⟩;unfold gh;grind
structure mZ (ts:List ah):Prop where
 n:ts.length<=32
 F:∀t,t∈ts->gh t
 D:∀i,i<ts.length->(!(decide ((ts.getD i aN).Name=[]))&&((ts.map (·.Name)).take i).contains (ts.getD i aN).Name)=false
 U:∀t,t∈ts->∀u,u∈e9 t->0<=u/\u<ts.length
 rV:∀t,t∈ts->t.Kind=8->1<=(ts.getD t.Key.toNat aN).Kind/\(ts.getD t.Key.toNat aN).Kind<=4
theorem YF(c7:∀t,t∈ts->eX t){i:Nat}(e:i<ts.length):rG ts i=none↔gh (ts.getD i aN)/\(!(decide ((ts.getD i aN).Name=[]))&&((ts.map (·.Name)).take i).contains (ts.getD i aN).Name)=false/\(∀u,u∈e9 (ts.getD i aN)->0<=u/\u<ts.length)/\
 ((ts.getD i aN).Kind=8->1<=(ts.getD (ts.getD i aN).Key.toNat aN).Kind/\(ts.getD (ts.getD i aN).Key.toNat aN).Kind<=4):=by
 obtain⟨r,f1,f2⟩:=aa0 (c7 _ (bk e aN));rw[It rfl f1,<-f2];have a:(e9 (ts.getD i aN)).any (lq ts.length)=false↔∀u,u∈e9 (ts.getD i aN)->0<=u/\u<ts.length:=by
  rw[Fm];constructor
  . intro h u a;have:=h u a;unfold lq at this;grind
  . intro h u a;have:=h u a;unfold lq;grind
 rw[<-a];generalize (e9 (ts.getD i aN)).any (lq ts.length)=b;generalize (!(decide ((ts.getD i aN).Name=[]))&&((ts.map (·.Name)).take i).contains (ts.getD i aN).Name)=c;have f:(decide ((ts.getD i aN).Kind=8) && !(sQ (ts.getD (ts.getD i aN).Key.toNat aN).Kind))=false↔((ts.getD i aN).Kind=8->1<=(ts.getD (ts.getD i aN).Key.toNat aN).Kind/\(ts.getD (ts.getD i aN).Key.toNat aN).Kind<=4):=by
  unfold sQ;grind
 rw[<-f];generalize (decide ((ts.getD i aN).Kind=8) && !(sQ (ts.getD (ts.getD i aN).Key.toNat aN).Kind))=d;cases r<;>cases b<;>cases c<;>cases d<;>simp
theorem px(c7:∀t,t∈ts->eX t)(h:mZ ts):pT (⟨ts⟩:aR)=some 0/\vq (⟨ts⟩:aR)=some 0:=by
 obtain⟨e,h1,c,_,b,_⟩:=Y7 (s:=⟨ts⟩) (by have:=h.n;unfold reachBytes;show ts.length<=_;omega) c7;have cX:e=0:=b ⟨h.n,λi a=>(YF c7 a).2 ⟨h.F _ (bk a aN),h.D i a,h.U _ (bk a aN),h.rV _ (bk a aN)⟩⟩;grind
theorem mZ.ic(c7:∀t,t∈ts->eX t)(h:mZ ts):iQ ts:=by
 refine⟨by have:=h.n;omega,c7,λt ht=>?_,λt ht m c=>?_,λt ht f=>?_,λt ht f y j=>?_,h.rV⟩
 . have:=h.F t ht;unfold gh at this;unfold n3;omega
 . have:=h.F t ht;unfold gh at this;have o:t.ag≠[]:=by intro e;rw[e]at c;cases c
   have:pH false t.ag\/pH true t.ag:=(by grind);rcases this with a|a
   . exact(a.2.2.1.2 m c).2
   . exact(a.2.2.1.2 m c).2
 . have:=h.F t ht;unfold gh at this;have:pH false t.ag\/pH true t.ag:=(by grind);rcases this with a|a
   . exact⟨a.2.2.1,a.2.2.2.2.2⟩
   . exact⟨a.2.2.1,a.2.2.2.2.2⟩
 . have:=h.F t ht;unfold gh at this;have:An t.bg:=(by grind);exact this.2.1.2 y j
def tX(l:List bY):Nat:=(l.map λx=>x.Data.length).sum
theorem abQ(l:List bY):(l.map λx=>x.Data.length+1).sum=tX l+l.length:=by
 unfold tX;induction l with
 |nil=>rfl
 |cons a l ih=>simp only[gz,oj,iw];omega
def Left(n:Int)(w:Nat)(m:Int):Prop:=m<=n/\-1000000000000000<=m/\(0<=m->(w:Int)+m<=n)
theorem Mj(af:v.Rest.length<=reachBytes)(b:∀x,x∈v.Rest->x.Data.length<=reachBytes):∀(k i:Nat) (n:Int),i+k=v.Rest.length->n<=3000->-1000000000000000<=n->∃m,q3 (n,(i:Int),v)=some (m,v)/\Left n (tX (v.Rest.drop i)) m
 |0,i,n,f,c,a=>⟨n,by
  rw[q3,ak,I.aU];intro h;have g:¬(i:Int)<(v.Rest.length:Int):=by omega
  simp[g]at h,by
  rw[ee (by omega:v.Rest.length<=i)]
  exact⟨by omega,a,λ_=>by simp[tX]⟩⟩
 |k+1,i,n,f,c,a=>by
  have aB:i<v.Rest.length:=by omega
  have p:=dz af;have d:=b _ (bk aB bX);unfold reachBytes at d;have g:(i:Int)<(v.Rest.length:Int):=by omega
  rw[q3];by_cases h0:0<=n
  . rw[ad (by simp[g,h0]),ad (aQ aB)];simp only[bd,I.aU];rw[hG,bD];obtain⟨m,j,q,l,o⟩:=Mj af b k (i+1) (n-((v.Rest.getD i bX).Data.length:Int)) (by omega) (by omega) (by omega);refine⟨m,j,by omega,l,λh=>?_⟩;have:=o h;rw[eB aB bX];have e:tX (v.Rest.getD i bX::v.Rest.drop (i+1))=(v.Rest.getD i bX).Data.length+tX (v.Rest.drop (i+1)):=by unfold tX;simp only[gz,oj]
    rw[e];omega
  . refine⟨n,?_,by omega,a,λh=>absurd h h0⟩;rw[ak (by simp[g,h0]),I.aU]
theorem Mk(af:v.av.length<=reachBytes)(ih:∀x,x∈v.av->∀n,0<=n->n<=3000->∃m,nX (x,n)=some m/\Left n (wt x) m):∀(k i:Nat) (n:Int),i+k=v.av.length->n<=3000->-1000000000000000<=n->∃m,sX (n,(i:Int),v)=some (m,v)/\Left n (cI (v.av.drop i)) m
 |0,i,n,d,c,b=>⟨n,by
  rw[sX,ak,I.aU];intro h;have g:¬(i:Int)<(v.av.length:Int):=by omega
  simp[g]at h,by
  rw[ee (by omega:v.av.length<=i),gD]
  exact⟨by omega,b,λ_=>by simp⟩⟩
 |k+1,i,n,d,c,b=>by
  have aB:i<v.av.length:=by omega
  have l:=dz af;have g:(i:Int)<(v.av.length:Int):=by omega
  rw[sX];by_cases h0:0<=n
  . obtain⟨a,a1,a2,a3,a4⟩:=ih _ (bk aB au) n h0 c;rw[ad (by simp[g,h0]),ad (aQ aB)];simp only[bd,I.aU];rw[a1];simp only[aT,ao];rw[bD];obtain⟨m,e,o,f,j⟩:=Mk af ih k (i+1) a (by omega) (by omega) (by omega);refine⟨m,e,by omega,f,λh=>?_⟩;have:=j h;have:=a4 (by omega);rw[eB aB au,hb];omega
  . refine⟨n,?_,by omega,b,λh=>absurd h h0⟩;rw[ak (by simp[g,h0]),I.aU]
theorem Ml(af:v.ai.length<=reachBytes)(ih:∀x,x∈v.ai->∀n,0<=n->n<=3000->∃m,nX (x,n)=some m/\Left n (wt x) m):∀(k i:Nat) (n:Int),i+k=v.ai.length->n<=3000->-1000000000000000<=n->∃m,sY (n,(i:Int),v)=some m/\Left n (cI (v.ai.drop i)) m
 |0,i,n,d,c,b=>⟨n,by
  rw[sY,ak];intro h;have g:¬(i:Int)<(v.ai.length:Int):=by omega
  simp[g]at h,by
  rw[ee (by omega:v.ai.length<=i),gD]
  exact⟨by omega,b,λ_=>by simp⟩⟩
 |k+1,i,n,d,c,b=>by
  have aB:i<v.ai.length:=by omega
  have l:=dz af;have g:(i:Int)<(v.ai.length:Int):=by omega
  rw[sY];by_cases h0:0<=n
  . obtain⟨a,a1,a2,a3,a4⟩:=ih _ (bk aB au) n h0 c;rw[ad (by simp[g,h0]),ad (aQ aB)];simp only[bd,I.aU];rw[a1];simp only[aT,ao];rw[bD];obtain⟨m,e,o,f,j⟩:=Ml af ih k (i+1) a (by omega) (by omega) (by omega);refine⟨m,e,by omega,f,λh=>?_⟩;have:=j h;have:=a4 (by omega);rw[eB aB au,hb];omega
  . refine⟨n,?_,by omega,b,λh=>absurd h h0⟩;rw[ak (by simp[g,h0])]
theorem agR(r:bM v):∀n:Int,0<=n->n<=3000->∃m,nX (v,n)=some m/\Left n (wt v) m:=by
 induction r with
 |mk v hs h1 o d x w q c' y z A t s=>
  intro n h0 aD;have aK:aM .i64 (aM .i64 10 (v.bn.length:Int)) (v.Rest.length:Int)=((10+v.bn.length+v.Rest.length:Nat):Int):=by
   have a1:=dz hs;have a2:=dz d;unfold reachBytes at hs d;have:aM .i64 10 (v.bn.length:Int)=((10+v.bn.length:Nat):Int):=vE (a:=10) (by omega);rw[this,vE (by omega)]
  unfold reachBytes at hs;have p:=d;unfold reachBytes at p;have l:df .i64 n ((10+v.bn.length+v.Rest.length:Nat):Int)=n-((10+v.bn.length+v.Rest.length:Nat):Int):=hG;obtain⟨a,a1,a2,a3,a4⟩:=Mj d q v.Rest.length 0 (n-((10+v.bn.length+v.Rest.length:Nat):Int)) (by omega) (by omega) (by omega);obtain⟨b,b1,b2,b3,b4⟩:=Mk h1 t v.av.length 0 a (by omega) (by omega) (by omega);obtain⟨c,g,u,j,k⟩:=Ml o s v.ai.length 0 b (by omega) (by omega) (by omega);have e:q3 (n-((10+v.bn.length+v.Rest.length:Nat):Int),0,v)=_:=a1;have f:sX (a,0,v)=_:=b1;have i:sY (b,0,v)=_:=g;refine⟨c,?_,by omega,j,λh=>?_⟩
  . rw[nX];simp only[I.aU];rw[aK,l,e];simp only[aT,ao,I.aU];rw[f];simp only[ao,I.aU];rw[i];rfl
  . have:=k h;have:=b4 (by omega);have:=a4 (by omega);rw[fx,abQ];grind
theorem Gp(a:bM v):∃b,vp v=some b/\(b=true->wt v<=3000):=by
 obtain⟨m,c,e,f,d⟩:=agR a 3000 (by omega) (by omega);rw[vp];simp only[I.aU];rw[c];refine⟨decide (0<=m),rfl,λh=>?_⟩;have h0:0<=m:=gR h;have:=d h0;omega
theorem X5(aD:ts.length<9223372036854775807)(c7:∀t,t∈ts->eX t)(bH:∀t,t∈ts->n3 t.Kind)(b:bM v)(t:Int):dg (vt ((⟨ts⟩:aR),t,v)) (b5 ts true t v):=by
 obtain⟨r,h1,a⟩:=yM aD c7 bH b t true;refine⟨r,?_,a⟩;rw[vt];simp only[I.aU];rw[h1];rfl
def adg(ts:List ah)(ms:List aS):Prop:=∀m,m∈ms->m.bZ=true->b5 ts true m.aw m.bw
theorem agw{t:aJ}{x:t.den cN.D}(h:Ok cN [t] x):∀d,d∈t.row cN x->WF cN d:=λd a=>h ⟨t,x⟩ (Fk ..) d a
theorem aci(H:iQ ts)(b:bM v)(c:wt v<=1099511627776)(a:b5 ts false t v):
 j1 (t,v,1,ts,0)=some (bG ts t v,ts,((et ts t v:Nat):Int)):=by
 have h:=acg H b c t a 1 0 (by omega) (by omega);have d:=s7 (ts:=ts) t v;have e:max 0 (1+et ts t v-1)=et ts t v:=by omega
 rw[e]at h;exact h
noncomputable def lg (ts:List ah)(t:Int)(v:I):aj×Int:=
 if 4096<(bG ts t v).length\/200<et ts t v then([],3)else(bG ts t v,0)
abbrev fy:=dr
abbrev eQ:=br
abbrev aee:=ja
theorem tK{a:Int}(h:¬a=0):(!(decide (a=0)))=true:=by simp[h]
theorem hc{x m:Int}(h:0<=x:=by omega)(a:0<=m:=by omega):b' x m=x%m:=by unfold b';rw[Int.tmod_eq_emod_of_nonneg h]
theorem adh{x:Int}(h:0<=x)(a:x<=255):fv .u8 x 4=x/4:=by
 unfold fv;rw[yu h,IntKind.wrap_u8];omega
theorem lf{x:Int}(h:cw x):bW .i64 x=x:=by
 unfold bW cw at*;rw[IntKind.wrap_i64];omega
theorem H'{k:Int}(h:0<=k/\k<=25):mz (bW .i32 (aM .i64 97 k))=[UInt8.ofNat (97+k.toNat)]:=by
 have key:∀k:Nat,k<26->mz (bW .i32 (aM .i64 97 (k:Int)))=[UInt8.ofNat (97+k)]:=by decide+kernel
 grind
theorem acI{k:Int}(h:0<=k/\k<=25):mz (bW .i32 (aM .i64 65 k))=[UInt8.ofNat (65+k.toNat)]:=by
 have key:∀k:Nat,k<26->mz (bW .i32 (aM .i64 65 (k:Int)))=[UInt8.ofNat (65+k)]:=by decide+kernel
 grind
theorem Kn{s:aj}(h0:s≠[])(af:s.length<=24)(h:∀i:Nat,i<s.length->mA (fq s i)=true):nm s=true:=by
 have key:∀k i:Nat,i+k=s.length->k3 (s,(s.length:Int),(i:Int))=some (.inr ()):=by
  intro k;induction k with
  |zero=>intro i d;rw[k3,cl]
  |succ k ih=>
   intro i d;rw[k3,bu,ad (aQ (by omega)),DH,h i (by omega)];simp only[aT,ao,dp];rw[ad (by rw[aQ (by omega)];rfl),bD];exact ih (i+1) (by omega)
 have a:0<s.length:=tR.2 h0;have b:=h 0 a;have e:aH 0 s.length=true:=aQ (k:=0) a;have ht:(bif decide (s=[])then true else decide (24<(s.length:Int)))=false:=by grind
 have f:k3 (s,(s.length:Int),0)=some (.inr ()):=key s.length 0 (by omega);have c:mA (fq s 0)=true:=b;unfold nm;rw[kG];simp only[aT,ao];rw[ht,e,DH,c];grind
theorem acJ(h:65<=c/\c<=90\/97<=c/\c<=122):nm [UInt8.ofNat c]=true:=by
 refine Kn (by simp) (by simp) λi a=>?_;have:i=0:=by simp at a;omega
 subst this;have e:fq [UInt8.ofNat c] ((0:Nat):Int)=(c:Int):=by
  rw[qI];simp only[kf];rw[k7]
 rw[e];unfold mA;simp;omega
theorem Oc{b:Nat}(d:97<=b/\b<=122)(h:97<=c/\c<=122):nm [UInt8.ofNat b,UInt8.ofNat c]=true:=by
 refine Kn (by simp) (by simp) λi a=>?_;have:i=0\/i=1:=by simp at a;omega
 rcases this with rfl|rfl
 . rw[qI];simp only[kf];rw[k7];unfold mA;simp;omega
 . rw[qI];simp only[ye,kf];rw[k7];unfold mA;simp;omega
def c8(x:Int):Prop:=0<=x/\x<=255
structure oB (x:fy):Prop where
 k:c8 x.Kind
 a:c8 x.A
 b:c8 x.B
 c:c8 x.C
 p:∀q,q∈x.c0->c8 q.ae/\c8 q.aw/\c8 q.gV
 l:x.c0.length<=reachBytes
def ed(aI:List fy)(i:Int):Int:=1+(aI.getD i.toNat eQ).Kind%9
section
variable {aI:List fy}(cq:∀x,x∈aI->oB x)(ba:aI.length<=5)
include cq ba in
theorem rl{i:Int}(h0:0<=i)(h1:i<aI.length):ra ((⟨aI⟩:ek),i)=some (ed aI i)/\1<=ed aI i/\ed aI i<=9:=by
 obtain⟨j,rfl⟩:∃j:Nat,i=(j:Int):=⟨i.toNat,by omega⟩
 have c:=(cq _ (bk (by omega:j<aI.length) eQ)).k;unfold ed;rw[bd];obtain⟨a,b⟩:=c;refine⟨?_,by omega,by omega⟩;rw[ra,ad (aQ (by omega:j<aI.length)),bd,hc a,lf ⟨by omega,by omega⟩,j']
def Et(aI:List fy)(i u:Int):Prop:=0<=u/\u<aI.length/\(7<=ed aI u\/u<i)
include cq ba in
theorem Lf:∀(k i:Nat),i+k=aI.length->nK ((aI.length:Int),(i:Int),aI)=some (.inr ())\/∃u:Int,nK ((aI.length:Int),(i:Int),aI)=some (.inl u)/\0<=u/\u<aI.length/\7<=ed aI u
 |0,i,b=>.inl (by rw[nK,cl])
 |k+1,i,b=>by
  obtain⟨e,_,_⟩:=rl cq ba (i:=(i:Int)) (by omega) (by omega);rw[nK,bu,e];simp only[aT,ao,yH];by_cases a:7<=ed aI i
  . grind
  . rw[ak (by simpa using a),bD];exact Lf k (i+1) (by omega)
include cq ba in
theorem aa1(h1:1<=aI.length){i:Int}(o:0<=i/\i<aI.length)(g:c8 code):∃u,yJ ((⟨aI⟩:ek),i,code)=some u/\(u<0\/Et aI i u):=by
 have m:bW .i64 code=code:=lf ⟨by unfold c8 at g;omega,by unfold c8 at g;omega⟩;obtain⟨l,n⟩:=g;have d:0<=code%(aI.length:Int):=lZ _ (by omega);have j:code%(aI.length:Int)<aI.length:=lV _ (by omega);rw[yJ];simp only[aT,ao];rw[ad (tK (by omega)),m,hc l];obtain⟨e,_,_⟩:=rl cq ba d j;rw[e];simp only[ao,yH];by_cases f:7<=ed aI (code%(aI.length:Int))
 . rw[ad (by simp[f])];exact⟨_,rfl,.inr ⟨d,j,.inl f⟩⟩
 . by_cases aB:code%(aI.length:Int)<i
   . rw[ad (by simp[aB])];exact⟨_,rfl,.inr ⟨d,j,.inr aB⟩⟩
   . rw[ak (by simp[f,aB])];by_cases k:0<i
     . rw[ad (by simpa using k),bu,hc d];have a0:0<=code%(aI.length:Int)%i:=lZ _ (by omega);have a1:code%(aI.length:Int)%i<i:=lV _ (by omega);exact⟨_,rfl,.inr ⟨a0,by omega,.inr a1⟩⟩
     . rw[ak (by simpa using k)];have h0:=Lf cq ba aI.length 0 (by omega);have cX:nK ((aI.length:Int),((0:Nat):Int),aI)=nK ((aI.length:Int),0,aI):=rfl;rw[cX]at h0;rcases h0 with h|⟨u,h,a,b,c⟩
       . grind
       . rw[h];exact⟨u,rfl,.inr ⟨a,b,.inl c⟩⟩
def oA(aI:List fy)(u:Int):Prop:=0<=u/\u<aI.length/\1<=ed aI u/\ed aI u<=4
include cq ba in
theorem Od{code:Int}(l:c8 code)(h1:1<=aI.length):∀(k i:Nat),i+k=aI.length->(nV (code,(aI.length:Int),(i:Int),aI)=some (.inr ())/\∀m:Nat,i<=m->m<aI.length->¬oA aI ((code+m)%(aI.length:Int)))\/∃u:Int,nV (code,(aI.length:Int),(i:Int),aI)=some (.inl u)/\oA aI u
 |0,i,n=>.inl ⟨by rw[nV,cl],λm a b=>by omega⟩
 |k+1,i,n=>by
  obtain⟨g,j⟩:=l;have d:0<=(code+i)%(aI.length:Int):=lZ _ (by omega);have f:(code+i)%(aI.length:Int)<aI.length:=lV _ (by omega);obtain⟨e,aK,p⟩:=rl cq ba d f;rw[nV,bu,ad (tK (by omega)),lf ⟨by omega,by omega⟩,j',hc];simp only[aT,ao];rw[e];simp only[ao,yz];by_cases c:ed aI ((code+i)%(aI.length:Int))<=4
  . rw[ad (by simp[aK,c])];exact .inr ⟨_,rfl,d,f,aK,c⟩
  . rw[ak (by simp[c]),bD];rcases Od ⟨g,j⟩ h1 k (i+1) (by omega)with⟨a,b⟩|h
    . refine .inl ⟨a,λm q r=>?_⟩;by_cases o:m=i
      . subst o;rintro ⟨_,_,_,h⟩;exact c h
      grind
    grind
include cq ba in
theorem Oe(b:c8 code)(h1:1<=aI.length):∃u,sH ((⟨aI⟩:ek),code)=some u/\((u= -1/\∀w,¬oA aI w)\/oA aI u):=by
 rw[sH];have h0:=Od cq ba b h1 aI.length 0 (by omega);have cX:nV (code,(aI.length:Int),((0:Nat):Int),aI)=nV (code,(aI.length:Int),0,aI):=rfl;rw[cX]at h0;rcases h0 with⟨h,a⟩|⟨u,h,a⟩
 . rw[h];refine⟨-1,rfl,.inl ⟨rfl,λw d=>?_⟩⟩;have f:=d;obtain⟨jB,g,_⟩:=f;have c:0<=(w-code)%(aI.length:Int):=lZ _ (by omega);have i:(w-code)%(aI.length:Int)<aI.length:=lV _ (by omega);refine a ((w-code)%(aI.length:Int)).toNat (by omega) (by omega) ?_;have e:(code+(((w-code)%(aI.length:Int)).toNat:Int))%(aI.length:Int)=w:=by
    rw[yf c,Int.add_emod_emod];have:code+(w-code)=w:=(by omega);rw[this];exact Int.emod_eq_of_lt jB g
   grind
 grind
theorem Ia{x:fy}(h:oB x):pJ x=some (x.A%7-3):=by
 have:=h.a;unfold c8 at this;rw[pJ,hc this.1,lf ⟨by omega,by omega⟩,hG]
theorem MK{x:fy}(h:oB x):sC x=some (x.A%7-3+x.B%6):=by
 have d:=h.a;have c:=h.b;unfold c8 at d c;rw[sC,Ia h];simp only[aT,ao];rw[hc c.1,lf ⟨by omega,by omega⟩,j']
def uf(l:aq)(n:Int):Prop:=l.Pairwise (· < ·)/\∀x,x∈l->1<=x/\x<=n
theorem Ib{x:fy}:∀(k i:Nat) (acc:aq),i+k=6->uf acc i->acc.length<=i->∃l,o8 ((i:Int),x,acc)=some l/\uf l 6/\l.length<=6
 |0,i,acc,f,c,af=>⟨acc,by rw[o8,cl],⟨c.1,λy d=>by have:=c.2 y d;omega⟩,by omega⟩
 |k+1,i,acc,f,c,af=>by
  have e:uf acc ((i+1:Nat):Int):=⟨c.1,λy d=>by have:=c.2 y d;omega⟩
  rw[o8,bu,hM];simp only[aT,ao];rw[bD];split
  . rw[ad (cP)];refine Ib k (i+1) _ (by omega) ⟨?_,λy d=>?_⟩ (by simp;omega)
    . rw[Fi];refine⟨c.1,by simp,λa h1 b g=>?_⟩;have:=c.2 a h1;grind
    . rcases f'.1 d with h|h
      . have:=c.2 y h;omega
      grind
  . exact Ib k (i+1) acc (by omega) e (by omega)
theorem acK(x:fy):∃l,nq x=some l/\uf l 6/\1<=l.length/\l.length<=6:=by
 obtain⟨l,h1,d,e⟩:=Ib (x:=x) 6 0 [] (by omega) ⟨.nil,λy b=>by cases b⟩ (by simp);have c:o8 (0,x,[])=some l:=h1;rw[nq,c];simp only[aT,ao];cases l with
 |nil=>
  rw[hM,ad (cP (by omega) (by simp))];exact⟨_,rfl,⟨by simp,λy b=>by simp at b;omega⟩,by simp,by simp⟩
 |cons a l=>grind
def ke(x:fy):aq:=(nq x).getD []
theorem uI(x:fy):nq x=some (ke x)/\uf (ke x) 6/\1<=(ke x).length/\(ke x).length<=6:=by
 obtain⟨l,h1,a⟩:=acK x;unfold ke;grind
def l'(k:Int)(x:fy)(key:Prop)(v:I):Prop:=
 v.av=[]/\v.ai=[]/\v.Rest=[]/\
 (k=1/\v.Kind=1/\v.bc=0/\v.bn=[]/\v.ae=0\/
  k=2/\v.Kind=2/\v.bL=false/\v.bn=[]/\v.ae=0/\x.A%7-3<=v.bc/\v.bc<=x.A%7-3+x.B%6\/
  k=3/\v.Kind=3/\v.bL=false/\v.bc=0/\v.ae=0/\(v.bn.length:Int)<=x.A%4\/
  k=4/\v.Kind=4/\v.bL=false/\v.bc=0/\v.bn=[]/\v.ae∈ke x\/
  7<=k/\v.bL=false/\v.bc=0/\v.bn=[]/\v.ae=0/\(v.Kind=k/\(k=8->key)\/k=8/\v.Kind=7/\¬key))
def Init(aI:List fy)(t:Int)(v:I):Prop:=l' (ed aI t) (aI.getD t.toNat eQ) (∃w,oA aI w) v
include cq ba in
theorem YG(h1:1<=aI.length)(ht:0<=t/\t<aI.length)(p:c8 code):∃r,yA ((⟨aI⟩:ek),t,code)=some r/\(r.2=false->r.1=au)/\(r.2=true->Init aI t r.1):=by
 obtain⟨j,rfl⟩:∃j:Nat,t=(j:Int):=⟨t.toNat,by omega⟩
 have l:j<aI.length:=by omega
 have c:=cq _ (bk l eQ);obtain⟨e,M,N⟩:=rl cq ba ht.1 ht.2;obtain⟨u,C,D⟩:=Oe cq ba (code:=0) ⟨by omega,by omega⟩ h1;obtain⟨d,I⟩:=p;rw[yA,ad (aQ l)];simp only[aT,ao,bd];rw[e];simp only[ao];unfold Init;simp only[bd];have y:=uI (aI.getD j eQ);generalize ed aI (j:Int)=k at*;generalize aI.getD j eQ=x at*;have i:=c.a;have o:=c.b;unfold c8 at i o;have s:k=1\/k=2\/k=3\/k=4\/k=5\/k=6\/k=7\/k=8\/k=9:=by omega
 rcases s with rfl|rfl|rfl|rfl|rfl|rfl|rfl|rfl|rfl
 . exact⟨_,rfl,λh=>(by cases h),λ_=>by unfold l';simp⟩
 . have el:=Ia c;have n:=MK c;have aK:aM .i64 (df .i64 (x.A%7-3+x.B%6) (x.A%7-3)) 1=x.B%6+1:=by rw[hG,j'];omega
   have m:b' (bW .i64 code) (x.B%6+1)=code%(x.B%6+1):=by rw[lf ⟨by omega,by omega⟩,hc d]
   have G:0<=code%(x.B%6+1):=lZ _ (by omega);have H:code%(x.B%6+1)<x.B%6+1:=lV _ (by omega);have c9:aM .i64 (x.A%7-3) (code%(x.B%6+1))=x.A%7-3+code%(x.B%6+1):=j';simp only[Int.reduceEq,de,dq,bV,b6,bS,ao,dX,eo];rw[el];simp only[aT,ao];rw[n];simp only[ao];rw[aK,bu,m,c9];exact⟨_,rfl,λh=>(by cases h),λ_=>by unfold l';simp;omega⟩
 . simp only[Int.reduceEq,de,dq,bV,b6,bS,ao,dX,eo];rw[hc i.1,hc d];by_cases g:0<x.A%4
   . by_cases f:code%2=1
     . rw[ad (by simp[g,f])];exact⟨_,rfl,λh=>(by cases h),λ_=>by unfold l';simp;omega⟩
     . rw[ak (by simp[f])];exact⟨_,rfl,λh=>(by cases h),λ_=>by unfold l';simp;omega⟩
   . rw[ak (by simp[g])];exact⟨_,rfl,λh=>(by cases h),λ_=>by unfold l';simp;omega⟩
 . obtain⟨F,J,K,L⟩:=y;simp only[Int.reduceEq,de,dq,bV,b6,bS,ao,dX,eo];rw[F];simp only[aT,ao];have G:0<=code%((ke x).length:Int):=lZ _ (by omega);have H:code%((ke x).length:Int)<((ke x).length:Int):=lV _ (by omega);rw[ad (tK (by omega)),lf ⟨by omega,by omega⟩,hc d];obtain⟨q,z⟩:∃q:Nat,code%((ke x).length:Int)=(q:Int):=⟨(code%((ke x).length:Int)).toNat,by omega⟩
   rw[z,ad (aQ (by omega)),bd];exact⟨_,rfl,λh=>(by cases h),λ_=>by unfold l';simp;rw[<-E8];exact bk (by omega) 0⟩
 . exact⟨_,rfl,λ_=>rfl,λh=>by cases h⟩
 . exact⟨_,rfl,λ_=>rfl,λh=>by cases h⟩
 . exact⟨_,rfl,λh=>(by cases h),λ_=>by unfold l';simp⟩
 . simp only[Int.reduceEq,de,dq,bV,b6,bS,ao,dX,eo];rw[C];rcases D with⟨rfl,a⟩|a
   . exact⟨_,rfl,λh=>(by cases h),λ_=>by unfold l';simp;exactλw E=>a w E⟩
   . have v:¬u<0:=by have:=a.1;omega
     simp only[aT,ao];rw[ak (by simp[v])];exact⟨_,rfl,λh=>(by cases h),λ_=>by unfold l';simp;exact⟨u,a⟩⟩
 . exact⟨_,rfl,λh=>(by cases h),λ_=>by unfold l';simp⟩
structure uh (aI:List fy)(i:Int)(record:Bool)(m:aS):Prop where
 id:1<=m.ae/\m.ae<=12
 name:m.Name=[UInt8.ofNat 109,UInt8.ofNat (97+m.ae.toNat)]
 rI:Et aI i m.aw
 fY:m.cp=true->m.bZ=false
 un:record=false->m.cp=false/\m.bZ=false
 Q2:m.bZ=false->m.bw=au
 kb:m.bZ=true->Init aI m.aw m.bw
include cq ba in
theorem Mm(h1:1<=aI.length){i:Int}(o:0<=i/\i<aI.length){x:fy}(f:oB x)(record:Bool){id:Int}(d:1<=id/\id<=12){acc:List aS}(v:acc.length<=12):
 ∀(k j:Nat),j+k=x.c0.length->∃l,qX (i,record,id,(j:Int),aI,x,acc)=some (i,record,id,aI,x,acc++l)/\l.length<=1/\∀m,m∈l->m.ae=id/\uh aI i record m
 |0,j,w=>⟨[],by rw[qX,cl];simp,by simp,λm z=>by cases z⟩
 |k+1,j,w=>by
  have aB:j<x.c0.length:=by omega
  have N:=dz f.l;obtain⟨E,F,G⟩:=f.p _ (bk aB aee);obtain⟨u,C,O⟩:=aa1 cq ba h1 o F;rw[qX,bu,ad (aQ aB)];simp only[aT,ao,bd];have D:yJ ((⟨aI⟩:ek),i,(x.c0.getD j ja).aw)=some u:=C;rw[D];simp only[ao];generalize q:x.c0.getD j ja=p;have Q:c8 p.ae:=by rw[<-q];exact E
  have H:c8 p.gV:=by rw[<-q];exact G
  obtain⟨f1,f2⟩:=H;have aK:b' p.gV 4=p.gV%4:=hc f1;have t:fv .u8 p.gV 4=p.gV/4:=adh f1 f2;have M:=Mm h1 o f record d v k (j+1) (by omega);by_cases s:(bif (!(decide (aM .i64 1 (bW .i64 (b' p.ae 12))=id)))then true else decide (u<0))=true
  . rw[ad s,bD];exact M
  . rw[ak s];have c:Et aI i u:=(by grind);have B:=H' (k:=id) ⟨by omega,by omega⟩;rw[B];have A:([109]++[UInt8.ofNat (97+id.toNat)]:aj)=[UInt8.ofNat 109,UInt8.ofNat (97+id.toNat)]:=rfl;rw[ad (fW (by simp)),A,aK,t];obtain⟨r,J,K,L⟩:=YG cq ba h1 ⟨c.1,c.2.1⟩ (code:=p.gV/4) ⟨by omega,by omega⟩;have e:∀m:aS,room 160 (acc++[m]).length=true:=λm=>cP;have done:∀m:aS,m.ae=id->uh aI i record m->∃l,(some (i,record,id,aI,x,acc++[m]):Option (Int×Bool×Int×List fy×fy×List aS))=some (i,record,id,aI,x,acc++l)/\l.length<=1/\∀m,m∈l->m.ae=id/\uh aI i record m:=λm a b=>⟨[m],rfl,by simp,λy P=>by grind⟩
    cases record with
    |false=>
     simp only[dX,bV,b6];rw[ad (e _)];exact done _ rfl ⟨d,rfl,c,λh=>(by cases h),λ_=>⟨rfl,rfl⟩,λ_=>rfl,λh=>by cases h⟩
    |true=>
     simp only[eo];by_cases g:p.gV%4=1
     . rw[ad (by simpa using g),cl,ad (e _)];exact done _ rfl ⟨d,rfl,c,λ_=>rfl,λh=>(by cases h),λ_=>rfl,λh=>by cases h⟩
     . rw[ak (by simpa using g)];by_cases n:2<=p.gV%4
       . rw[ad (by simpa using n),J];simp only[ao,I.aU];rw[ad (e _)];exact done _ rfl ⟨d,rfl,c,λh=>(by cases h),λh=>(by cases h),K,L⟩
       . rw[ak (by simpa using n),ad (e _)];exact done _ rfl ⟨d,rfl,c,λh=>(by cases h),λh=>(by cases h),λ_=>rfl,λh=>by cases h⟩
def ui(aI:List fy)(i:Int)(record:Bool)(l:List aS):Prop:=l.Pairwise (λa b=>a.ae<b.ae)/\(∀m,m∈l->uh aI i record m)/\l.length<=12
include cq ba in
theorem Mn(h1:1<=aI.length){i:Int}(f:0<=i/\i<aI.length){x:fy}(j:oB x)(record:Bool):∀(k id:Nat) (acc:List aS),id+k=13->1<=id->
 acc.Pairwise (λa b=>a.ae<b.ae)->(∀m,m∈acc->uh aI i record m/\m.ae<id)->acc.length<id->∃l,q1 (i,record,(id:Int),aI,x,acc)=some l/\ui aI i record l
 |0,id,acc,n,h0,d,e,af=>⟨acc,by rw[q1,cl],d,λm g=>(e m g).1,by omega⟩
 |k+1,id,acc,n,h0,d,e,af=>by
  rw[q1,bu];obtain⟨l,o,l2,s⟩:=Mm cq ba h1 f j record (id:=(id:Int)) ⟨by omega,by omega⟩ (acc:=acc) (by omega) x.c0.length 0 (by omega);have p:qX (i,record,(id:Int),0,aI,x,acc)=_:=o;rw[p];simp only[aT,ao];rw[bD];refine Mn h1 f j record k (id+1) _ (by omega) (by omega) ?_ (λm g=>?_) (by simp;omega)
  . rw[Fi];refine⟨d,?_,λa q b r=>?_⟩
    . match l,l2 with
      |[],_=>exact .nil
      |[a],_=>simp
      |a::b::c,h=>simp at h
    grind
  grind
include cq ba in
theorem Mo(h1:1<=aI.length){i:Int}(b:0<=i/\i<aI.length)(record:Bool):∃l,su ((⟨aI⟩:ek),i,record)=some l/\ui aI i record l:=by
 obtain⟨j,rfl⟩:∃j:Nat,i=(j:Int):=⟨i.toNat,by omega⟩
 have a:j<aI.length:=by omega
 have d:=cq _ (bk a eQ);obtain⟨l,e,l2⟩:=Mn cq ba h1 b d record 12 1 [] (by omega) (by omega) .nil (λm c=>by cases c) (by simp);refine⟨l,?_,l2⟩;have f:q1 ((j:Int),record,1,aI,aI.getD j eQ,[])=some l:=e;rw[su,ad (aQ a),bd];grind
def p9(l:aq):List c4:=l.map λj=>⟨j,[UInt8.ofNat 115,UInt8.ofNat (97+j.toNat)]⟩
theorem ML{l:aq}(af:l.length<=6)(g:∀x,x∈l->1<=x/\x<=6)(n i:Int)(b:List fy)(b1:Int)(b2:aj)(b3 b4 a c d:Int)(e:Bool)(f:List ah):∀(k j:Nat) (acc:List c4),j+k=l.length->acc.length<=j->
 o3 (n,i,l,(j:Int),b,b1,b2,b3,b4,a,c,d,e,f,acc)=some (n,i,b,b1,b2,b3,b4,a,c,d,e,f,acc++p9 (l.drop j))
 |0,j,acc,o,m=>by
  rw[o3,cl,ee (by omega:l.length<=j)];simp[p9]
 |k+1,j,acc,o,m=>by
  have aB:j<l.length:=by omega
  have p:=g _ (bk aB 0);rw[o3,bu,ad (aQ aB),ad (aQ aB)];simp only[aT,ao,bd];rw[H' ⟨by omega,by omega⟩,ad (fW (by simp)),ad (cP),bD,ML af g n i b b1 b2 b3 b4 a c d e f k (j+1) _ (by omega) (by simp;omega),eB aB 0];simp[p9]
def fg(aI:List fy)(i:Int)(t:ah):Prop:=
 let x:=aI.getD i.toNat eQ;let n:=(aI.length:Int)
 let a:=[UInt8.ofNat (65+i.toNat)]
 (ed aI i=1/\t=⟨1,[],0,0,0,[],[],0,0,false⟩)\/
 (ed aI i=2/\t=⟨2,[],x.A%7-3,x.A%7-3+x.B%6,0,[],[],0,0,false⟩)\/
 (ed aI i=3/\t=⟨3,[],0,0,x.A%4,[],[],0,0,false⟩)\/
 (ed aI i=4/\∃o,t=⟨4,a,0,0,0,p9 (ke x),[],0,0,o⟩)\/
 (ed aI i=5/\∃l,ui aI i true l/\t=⟨5,a,0,0,0,[],l,0,0,false⟩)\/
 (ed aI i=6/\t=⟨5,a,0,0,0,[],[],0,0,false⟩)\/
 (ed aI i=6/\∃l o,ui aI i false l/\0<l.length/\t=⟨6,a,0,0,0,[],l,0,0,o⟩)\/
 (ed aI i=7/\t=⟨7,[],0,0,x.A%4,[],[],0,x.C%n,false⟩)\/
 (ed aI i=8/\(∀w,¬oA aI w)/\t=⟨7,[],0,0,x.A%4,[],[],0,x.C%n,false⟩)\/
 (ed aI i=8/\∃k,oA aI k/\t=⟨8,[],0,0,x.A%4,[],[],k,x.C%n,false⟩)\/
 (ed aI i=9/\t=⟨9,[],0,0,0,[],[],0,x.C%n,false⟩)
include cq ba in
theorem Q7(h1:1<=aI.length):∀(k i:Nat) (acc:List ah),i+k=aI.length->acc.length=i->(∀j,j<i->fg aI (j:Int) (acc.getD j aN))->
 ∃l,fM ((aI.length:Int),(i:Int),aI,acc)=some l/\l.length=aI.length/\∀j,j<aI.length->fg aI (j:Int) (l.getD j aN)
 |0,i,acc,E,af,v=>⟨acc,by rw[fM,cl],by omega,λj F=>v j (by omega)⟩
 |k+1,i,acc,E,af,v=>by
  have aB:i<aI.length:=by omega
  have m:=cq _ (bk aB eQ);obtain⟨e,P,Q⟩:=rl cq ba (i:=(i:Int)) (by omega) (by omega);have next:∀t:ah,fg aI (i:Int) t->∃l,(if room 120 (acc++[t]).length then fM ((aI.length:Int),aM .i64 (i:Int) 1,aI,acc++[t])else none)=some l/\l.length=aI.length/\∀j,j<aI.length->fg aI (j:Int) (l.getD j aN):=by
   intro t ht;rw[ad (cP),bD];refine Q7 h1 k (i+1) _ (by omega) (by simp;omega) λj F=>?_;grind
  rw[fM,bu,ad (aQ aB)];simp only[aT,ao,bd];rw[e];simp only[ao,j3];have q:=acI (k:=(i:Int)) ⟨by omega,by omega⟩;have c7:∀t,fg aI (i:Int) t->fg aI (i:Int) t:=λt h=>h;have⟨s,z,gc⟩:c8 (aI.getD i eQ).A/\c8 (aI.getD i eQ).B/\c8 (aI.getD i eQ).C:=⟨m.a,m.b,m.c⟩
  have n:(!(decide ((aI.length:Int)=0)))=true:=tK (by omega);have o:bW .i64 (b' (aI.getD i eQ).A 4)=(aI.getD i eQ).A%4:=by
   unfold c8 at s;rw[hc s.1,lf ⟨by omega,by omega⟩]
  have p:b' (bW .i64 (aI.getD i eQ).C) (aI.length:Int)=(aI.getD i eQ).C%(aI.length:Int):=by
   unfold c8 at gc;rw[lf ⟨by omega,by omega⟩,hc gc.1]
  have D:ed aI (i:Int)=1\/ed aI (i:Int)=2\/ed aI (i:Int)=3\/ed aI (i:Int)=4\/ed aI (i:Int)=5\/ed aI (i:Int)=6\/ed aI (i:Int)=7\/ed aI (i:Int)=8\/ed aI (i:Int)=9:=by omega
  rcases D with d|d|d|d|d|d|d|d|d<;>rw[d] <;>
   simp only[Int.reduceEq,de,dq,bV,b6,bS,ao,dX,eo]
  . exact next _ (by unfold fg;simp[d])
  . have el:=Ia m;have w:=MK m;have y:pJ (aI.getD i br)=_:=el;have x:sC (aI.getD i br)=_:=w;rw[y];simp only[ao];rw[x];simp only[ao];exact next _ (by unfold fg;simp only[bd];exact .inr (.inl ⟨d,by first|trivial|rfl⟩))
  . have f:bW .i64 (b' (aI.getD i br).A 4)=_:=o;rw[f];exact next _ (by unfold fg;simp only[bd];exact .inr (.inr (.inl ⟨d,by first|trivial|rfl⟩)))
  . obtain⟨H,J,O,K⟩:=uI (aI.getD i eQ);have I:nq (aI.getD i br)=_:=H;rw[I];simp only[ao];have hs:=ML (l:=ke (aI.getD i eQ)) K J.2 (aI.length:Int) (i:Int) aI 4 (mz (bW .i32 (aM .i64 65 (i:Int)))) 0 0 0 0 0 (decide (b' (aI.getD i eQ).B 2=1)) acc (ke (aI.getD i eQ)).length 0 [] (by omega) (by simp);have G:o3 ((aI.length:Int),(i:Int),ke (aI.getD i eQ),0,aI,4,mz (bW .i32 (aM .i64 65 (i:Int))),0,0,0,0,0,decide (b' (aI.getD i br).B 2=1),acc,[])=_:=hs;rw[G];simp only[ao,fE,fR];rw[q];exact next _ (by unfold fg;simp only[bd];exact .inr (.inr (.inr (.inl ⟨d,_,rfl⟩))))
  . obtain⟨l,r,l2⟩:=Mo cq ba h1 (i:=(i:Int)) ⟨by omega,by omega⟩ true;rw[r];simp only[ao];rw[q];exact next _ (by unfold fg;simp only[bd];exact .inr (.inr (.inr (.inr (.inl ⟨d,l,l2,rfl⟩)))))
  . obtain⟨l,r,l2⟩:=Mo cq ba h1 (i:=(i:Int)) ⟨by omega,by omega⟩ false;rw[r];simp only[ao];rw[q];by_cases h0:l.length=0
    . rw[ad (by simp[h0])];exact next _ (by unfold fg;simp only[bd];exact .inr (.inr (.inr (.inr (.inr (.inl ⟨d,by first|trivial|rfl⟩))))))
    . rw[ak (by simp;intro h;rw[h]at h0;simp at h0)];exact next _ (by unfold fg;simp only[bd];exact .inr (.inr (.inr (.inr (.inr (.inr (.inl ⟨d,l,_,l2,by omega,rfl⟩)))))))
  . have f:bW .i64 (b' (aI.getD i br).A 4)=_:=o;have g:b' (bW .i64 (aI.getD i br).C) (aI.length:Int)=_:=p;rw[ad n,f,g];exact next _ (by unfold fg;simp only[bd];exact .inr (.inr (.inr (.inr (.inr (.inr (.inr (.inl ⟨d,by first|trivial|rfl⟩))))))))
  . have f:bW .i64 (b' (aI.getD i br).A 4)=_:=o;have g:b' (bW .i64 (aI.getD i br).C) (aI.length:Int)=_:=p;obtain⟨u,L,N⟩:=Oe cq ba z h1;have M:sH ((⟨aI⟩:ek),(aI.getD i br).B)=some u:=L;rw[M];simp only[ao];rw[ad n,f,g];rcases N with⟨rfl,a⟩|a
    . rw[hM];exact next _ (by unfold fg;simp only[bd];exact .inr (.inr (.inr (.inr (.inr (.inr (.inr (.inr (.inl ⟨d,a,by first|trivial|rfl⟩)))))))))
    . rw[ak (by have:=a.1;simp;omega)];exact next _ (by unfold fg;simp only[bd];exact .inr (.inr (.inr (.inr (.inr (.inr (.inr (.inr (.inr (.inl ⟨d,u,a,rfl⟩))))))))))
  . have g:b' (bW .i64 (aI.getD i br).C) (aI.length:Int)=_:=p;rw[ad n,g];exact next _ (by unfold fg;simp only[bd];exact .inr (.inr (.inr (.inr (.inr (.inr (.inr (.inr (.inr (.inr ⟨d,by first|trivial|rfl⟩))))))))))
end
def ud(d:ek):Prop:=d.ec.length<=reachBytes/\∀x,x∈d.ec->oB x
theorem of_eq{d:ek}(a:ud d):qx d=some (⟨[]⟩,false)\/∃l,qx d=some (⟨l⟩,true)/\1<=d.ec.length/\d.ec.length<=5/\l.length=d.ec.length/\∀j,j<d.ec.length->fg d.ec (j:Int) (l.getD j aN):=by
 rw[qx];simp only[aT,ao];by_cases h:1<=d.ec.length/\d.ec.length<=5
 . obtain⟨l,c,l2,e⟩:=Q7 a.2 h.2 h.1 d.ec.length 0 [] (by omega) rfl (λj b=>by omega);grind
 grind
structure dj (ts:List ah):Prop where
 c':1<=ts.length
 fk:ts.length<=5
 T:∀t,t∈ts->eX t
 V:mZ ts
 D:∀t,t∈ts->adg ts t.ag
 R:∀i:Nat,i<ts.length->∀m,m∈(ts.getD i aN).ag->0<=m.aw/\m.aw<ts.length/\(7<=(ts.getD m.aw.toNat aN).Kind\/m.aw<i)
 L:∀t,t∈ts->t.Kind=2->-3<=t.bA/\t.bC<=8
 M:∀t,t∈ts->t.Max<=3
 cy:∀t,t∈ts->(∀m,m∈t.ag->m.ae<=12)/\(∀y,y∈t.bg->y.ae<=6)/\t.ag.length<=12
 W:∀t,t∈ts->∀m,m∈t.ag->m.bZ=true->wt m.bw<=13
theorem pA(c:v.av=[])(b:v.ai=[])(d:v.Rest=[])(hs:v.bn.length<=1000)(c':cw v.Kind)(e:cw v.bc)(f:cw v.ae):bM v:=by
 refine .mk v (by unfold reachBytes;omega) (by rw[c];simp) (by rw[b];simp) (by rw[d];simp) (λx a=>?_) (λx a=>?_) (λx a=>?_) c' e f (λx a=>?_)
 . grind
 . grind
 . grind
 grind
theorem Q8:bM au:=pA rfl rfl rfl (by simp[au]) (by unfold cw au;simp) (by unfold cw au;simp) (by unfold cw au;simp)
theorem MM(b:v.av=[])(a:v.ai=[])(c:v.Rest=[]):wt v=10+v.bn.length:=by
 rw[fx,b,a,c,gD];simp
section
variable {aI:List fy}(cq:∀x,x∈aI->oB x)(ba:aI.length<=5)(h1:1<=aI.length){l:List ah}(af:l.length=aI.length)(c7:∀j,j<aI.length->fg aI (j:Int) (l.getD j aN))
include cq ba in
theorem MN(ht:0<=t/\t<aI.length)(h:Init aI t v):bM v/\wt v<=13:=by
 obtain⟨a,b,c,h⟩:=h;obtain⟨j,rfl⟩:∃j:Nat,t=(j:Int):=⟨t.toNat,by omega⟩
 have d:=cq _ (bk (by omega:j<aI.length) eQ);obtain⟨_,k,l⟩:=rl cq ba ht.1 ht.2;rw[bd]at h;have f:=d.a;have g:=d.b;have i:=(uI (aI.getD j eQ)).2.1.2;unfold c8 at f g;rw[MM a b c];have hs:v.bn.length<=3:=by grind
 refine⟨pA a b c (by omega) ?_ ?_ ?_,by omega⟩
 . unfold cw;rcases h with h|h|h|h|h<;>omega
 . unfold cw;rcases h with⟨_,_,e,_⟩|⟨_,_,_,_,_,e⟩|⟨_,_,_,e,_⟩|⟨_,_,_,e,_⟩|⟨_,_,e,_⟩<;>omega
 . unfold cw;grind
include cq ba in
theorem Ko{i:Int}{r:Bool}(h:ui aI i r Ms):pH (!r) Ms\/(r=false/\Ms=[]):=by
 obtain⟨a,b,c⟩:=h;by_cases h0:r=false/\Ms=[]
 . grind
 left;refine⟨λm d=>?_,?_,⟨a,λm d=>?_⟩,λm d=>?_,?_,by omega⟩
 . have q:=b m d;unfold mb;have s:m.bZ=false->pG m.bw=true:=λh=>by
    rw[q.Q2 h];have k:eT (lI (au,au)) au au:=Cv Q8 au;obtain⟨w,v,z⟩:=k;unfold pG;grind
   have o:=q.fY;have p:=q.un;grind
 . grind
 . have:=(b m d).id;exact⟨by omega,by omega⟩
 . have q:=b m d;have:=q.id;rw[q.name];exact Oc (by omega) (by omega)
 . unfold List.Nodup;rw[oe];refine a.imp_of_mem λ{x y} l n aB=>?_;have f:=b x l;have g:=b y n;have t:=f.id;have u:=g.id;rw[f.name,g.name];intro e;simp only[yj,pZ,rr]at e;have j:=ep UInt8.toNat e;rw[k7,k7]at j;omega
theorem Kp{l:aq}(h:uf l 6)(h1:1<=l.length)(d:l.length<=6):An (p9 l)/\(∀y,y∈p9 l->y.ae<=6):=by
 unfold p9;refine⟨⟨by simp;omega,⟨?_,λy b=>?_⟩,λy b=>?_,?_,by simp;omega⟩,λy b=>?_⟩
 . rw[oe];exact h.1
 . obtain⟨x,a,rfl⟩:=eO.1 b;have:=h.2 x a;exact⟨this.1,by show x<=1000;omega⟩
 . obtain⟨x,a,rfl⟩:=eO.1 b;have:=h.2 x a;exact Oc (by omega) (by omega)
 . unfold List.Nodup;rw[oe,oe];refine h.1.imp_of_mem λ{x y} a b aB=>?_;have f:=h.2 x a;have g:=h.2 y b;intro e;simp only[yj,pZ,rr]at e;have c:=ep UInt8.toNat e;rw[k7,k7]at c;omega
 . obtain⟨x,a,rfl⟩:=eO.1 b;exact(h.2 x a).2
theorem MO{i:Int}{t:ah}(h:fg aI i t):(ed aI i<=5\/ed aI i=7\/ed aI i=9->t.Kind=ed aI i)/\(ed aI i=6->t.Kind=5\/t.Kind=6)/\(ed aI i=8->(t.Kind=8/\∃w,oA aI w)\/(t.Kind=7/\¬∃w,oA aI w)):=by
 unfold fg at h;rcases h with⟨k,rfl⟩|⟨k,rfl⟩|⟨k,rfl⟩|⟨k,_,rfl⟩|⟨k,_,_,rfl⟩|⟨k,rfl⟩|⟨k,_,_,_,_,rfl⟩|⟨k,rfl⟩|⟨k,a,rfl⟩|⟨k,w,a,rfl⟩|⟨k,rfl⟩<;>simp[k]
 . omega
 grind
theorem Hb{i:Int}{t:ah}(h:fg aI i t):t.ag=[]\/∃r,ui aI i r t.ag:=by
 unfold fg at h;rcases h with⟨k,rfl⟩|⟨k,rfl⟩|⟨k,rfl⟩|⟨k,_,rfl⟩|⟨k,_,a,rfl⟩|⟨k,rfl⟩|⟨k,_,_,a,_,rfl⟩|⟨k,rfl⟩|⟨k,a,rfl⟩|⟨k,w,a,rfl⟩|⟨k,rfl⟩
 . grind
 . grind
 . grind
 . grind
 . grind
 . grind
 . grind
 . grind
 . grind
 . grind
 grind
include cq ba h1 af c7 in
theorem abR:dj l:=by
 have n:∀{P:ah->Prop},(∀j,j<aI.length->P (l.getD j aN))->∀t,t∈l->P t:=λak t ht=>by
  obtain⟨i,g,rfl⟩:=eZ ht;grind
 have B:∀j,j<aI.length->oB (aI.getD j eQ):=λj d=>cq _ (bk d eQ);have E:∀j,j<aI.length->∀m,m∈(l.getD j aN).ag->∃r,uh aI (j:Int) r m:=λj d m f=>by
  rcases Hb (c7 j d)with h|⟨r,_,h,_⟩
  . grind
  grind
 have aa:∀t,t∈l->eX t:=n λj d=>by
  have f:=E j d;have ht:=c7 j d;have ai:(l.getD j aN).ag.length<=12:=by
   rcases Hb ht with h|⟨r,_,_,h⟩
   . rw[h];simp
   . exact h
  have aj:(l.getD j aN).bg.length<=6:=by
   have g:=(uI (aI.getD j eQ)).2.2.2;unfold fg at ht;rcases ht with⟨k,e⟩|⟨k,e⟩|⟨k,e⟩|⟨k,_,e⟩|⟨k,_,_,e⟩|⟨k,e⟩|⟨k,_,_,_,_,e⟩|⟨k,e⟩|⟨k,_,e⟩|⟨k,_,_,e⟩|⟨k,e⟩<;>rw[e]
   case inr.inr.inr.inl=>simp only[bd,p9,gy];exact g
   all_goals simp
  refine⟨by unfold reachBytes;omega,by unfold reachBytes;omega,λm Y=>?_⟩;obtain⟨r,q⟩:=f m Y;by_cases D:m.bZ=true
  . exact(MN cq ba ⟨q.rI.1,q.rI.2.1⟩ (q.kb D)).1
  . rw[q.Q2 (by simpa using D)];exact Q8
 have an:∀u:Int,0<=u->u<aI.length->7<=ed aI u->7<=(l.getD u.toNat aN).Kind:=λu h0 A I=>by
  obtain⟨j,rfl⟩:∃j:Nat,u=(j:Int):=⟨u.toNat,by omega⟩
  rw[bd];obtain⟨_,_,Z⟩:=rl cq ba h0 A;obtain⟨a,b,c⟩:=MO (c7 j (by omega));omega
 have ab:mZ l:=by
  refine⟨by omega,n λj d=>?_,λj d=>?_,n λj d=>?_,n λj d F=>?_⟩
  . have ht:=c7 j d;have z:=uI (aI.getD j eQ);have s:=(B j d).a;have J:=(B j d).b;have G:nm [UInt8.ofNat (65+j)]=true:=acJ (by omega);unfold c8 at s J;unfold fg at ht;simp only[bd]at ht;generalize [UInt8.ofNat (65+j)]=ap at G ht;unfold gh;rcases ht with⟨k,e⟩|⟨k,e⟩|⟨k,e⟩|⟨k,_,e⟩|⟨k,Ms,a,e⟩|⟨k,e⟩|⟨k,Ms,_,a,a0,e⟩|⟨k,e⟩|⟨k,_,e⟩|⟨k,_,_,e⟩|⟨k,e⟩<;>rw[e]
    . simp
    . simp;omega
    . simp;omega
    . simp;exact⟨G,(Kp z.2.1 z.2.2.1 z.2.2.2).1⟩
    . simp;refine⟨G,?_⟩;rcases Ko cq ba a with h|⟨h,_⟩
      . exact h
      . cases h
    . simp;exact⟨G,λm f=>(by cases f),.inl rfl,⟨.nil,λm f=>by cases f⟩,λm f=>(by cases f),by simp,by simp⟩
    . simp;refine⟨G,?_⟩;rcases Ko cq ba a with h|⟨_,h⟩
      . exact h
      grind
    . simp;omega
    . simp;omega
    . simp;omega
    . simp
  ·
   have T:∀k,k<aI.length->(l.getD k aN).Name=[]\/(l.getD k aN).Name=[UInt8.ofNat (65+k)]:=λk R=>by
    have ht:=c7 k R;unfold fg at ht;simp only[bd]at ht;rcases ht with⟨k,e⟩|⟨k,e⟩|⟨k,e⟩|⟨k,_,e⟩|⟨k,Ms,a,e⟩|⟨k,e⟩|⟨k,Ms,_,a,a0,e⟩|⟨k,e⟩|⟨k,_,e⟩|⟨k,_,_,e⟩|⟨k,e⟩<;>rw[e]<;>simp
   rcases T j (by omega)with h|h
   . rw[h];simp
   . rw[h];simp only[Ff];right;apply Fp.2;intro K;obtain⟨k,R,he⟩:=(pP).1 K;have al:(l.map (·.Name)).getD k []=(l.getD k aN).Name:=h3 (·.Name) l k aN [] (by omega);rw[al]at he;rcases T k (by omega)with O|O
     . grind
     . rw[O]at he;simp only[yj,pZ]at he;have p:=ep UInt8.toNat he;rw[k7,k7]at p;omega
  . intro u A;have f:=E j d;have K:=(B j d).c;unfold c8 at K;have U:0<=(aI.getD j eQ).C%(aI.length:Int):=lZ _ (by omega);have V:(aI.getD j eQ).C%(aI.length:Int)<aI.length:=lV _ (by omega);have ht:=c7 j d;unfold fg at ht;simp only[bd]at ht;generalize (aI.getD j eQ).C%(aI.length:Int)=af at U V ht;unfold e9 at A;simp only[f',eO]at A;rcases A with(⟨m,h,rfl⟩|h)|h
    . obtain⟨r,q⟩:=f m h;have:=q.rI.1;have:=q.rI.2.1;omega
    . split at h
      . rename_i F;have:u=(l.getD j aN).Key:=(by simpa using h);rw[this];rcases ht with⟨k,e⟩|⟨k,e⟩|⟨k,e⟩|⟨k,_,e⟩|⟨k,Ms,a,e⟩|⟨k,e⟩|⟨k,Ms,_,a,a0,e⟩|⟨k,e⟩|⟨k,_,e⟩|⟨k,w,a,e⟩|⟨k,e⟩<;>rw[e]at F⊢<;>simp at F⊢;obtain⟨jB,ad,_⟩:=a;omega
      . cases h
    . split at h
      . rename_i I;have:u=(l.getD j aN).aG:=(by simpa using h);rw[this];rcases ht with⟨k,e⟩|⟨k,e⟩|⟨k,e⟩|⟨k,_,e⟩|⟨k,Ms,a,e⟩|⟨k,e⟩|⟨k,Ms,_,a,a0,e⟩|⟨k,e⟩|⟨k,_,e⟩|⟨k,w,a,e⟩|⟨k,e⟩<;>rw[e]at I⊢<;>simp at I⊢<;>omega
      . cases h
  . have ht:=c7 j d;unfold fg at ht;simp only[bd]at ht;rcases ht with⟨k,e⟩|⟨k,e⟩|⟨k,e⟩|⟨k,_,e⟩|⟨k,Ms,a,e⟩|⟨k,e⟩|⟨k,Ms,_,a,a0,e⟩|⟨k,e⟩|⟨k,_,e⟩|⟨k,w,a,e⟩|⟨k,e⟩<;>rw[e]at F⊢<;>simp at F⊢;obtain⟨jB,ad,au,av⟩:=a;obtain⟨q,rfl⟩:∃q:Nat,w=(q:Int):=⟨w.toNat,by omega⟩
    obtain⟨a,_,_⟩:=MO (c7 q (by omega));have:=a (.inl (by omega));simp_all
 refine⟨by omega,by omega,aa,ab,n λj d m f D=>?_,λj d m f=>?_,n λj d Q=>?_,n λj d=>?_,n λj d=>⟨λm f=>?_,λy L=>?_,?_⟩,n λj d m f D=>?_⟩
 . obtain⟨r,q⟩:=E j d m f;have g:=q.kb D;obtain⟨M,N,_⟩:=q.rI;generalize m.bw=v at g;obtain⟨u,A⟩:∃u:Nat,m.aw=(u:Int):=⟨m.aw.toNat,by omega⟩
   rw[A]at g M N⊢;have ht:=c7 u (by omega);obtain⟨a,b,c,g⟩:=g;rw[eU];simp only[bd]at g⊢;unfold fg at ht;simp only[bd]at ht;have X:((l.length:Nat):Int)=aI.length:=(by omega);rw[X];generalize l.getD u aN=x at ht⊢;rw[a,b,c];have ar:∀t,e0 l true t []:=λt=>by rw[e0];trivial
   have am:jL []:=λi g=>by simp at g
   have S:=B u (by omega);generalize aI.getD u eQ=ao at ht g S;rcases g with⟨k,aK,p,c9,iq⟩|⟨k,aK,p,c9,iq,kL,uB⟩|⟨k,aK,p,c9,iq,kL⟩|⟨k,aK,p,c9,iq,kL⟩|⟨k,aK,p,c9,iq,kL⟩
   . rw[k]at ht;grind
   . rw[k]at ht;grind
   . rw[k]at ht;grind
   . rw[k]at ht;simp only[Int.reduceEq,false_and,rr,or_false,false_or]at ht;obtain⟨o,rfl⟩:=ht;rw[aK,p,c9,iq];simp;refine⟨by omega,⟨v.ae,[UInt8.ofNat 115,UInt8.ofNat (97+v.ae.toNat)]⟩,?_,rfl⟩;unfold p9;grind
   . rw[aK,p,c9,iq];have Z:ed aI (u:Int)<=9:=(rl cq ba M N).2.2;have W:ed aI (u:Int)=7\/ed aI (u:Int)=8\/ed aI (u:Int)=9:=(by omega);have s:=S.a;unfold c8 at s;rcases W with H|H|H
     . rw[H]at ht kL;grind
     . rw[H]at ht kL;grind
     . rw[H]at ht kL;grind
 . obtain⟨r,q⟩:=E j (by omega) m f;obtain⟨M,N,aq⟩:=q.rI;grind
 . have ht:=c7 j d;have s:=(B j d).a;have J:=(B j d).b;unfold c8 at s J;unfold fg at ht;simp only[bd]at ht;rcases ht with⟨k,e⟩|⟨k,e⟩|⟨k,e⟩|⟨k,_,e⟩|⟨k,Ms,a,e⟩|⟨k,e⟩|⟨k,Ms,_,a,a0,e⟩|⟨k,e⟩|⟨k,_,e⟩|⟨k,w,a,e⟩|⟨k,e⟩<;>rw[e]at Q⊢<;>simp at Q⊢;omega
 . have ht:=c7 j d;have s:=(B j d).a;unfold c8 at s;unfold fg at ht;simp only[bd]at ht;rcases ht with⟨k,e⟩|⟨k,e⟩|⟨k,e⟩|⟨k,_,e⟩|⟨k,Ms,a,e⟩|⟨k,e⟩|⟨k,Ms,_,a,a0,e⟩|⟨k,e⟩|⟨k,_,e⟩|⟨k,w,a,e⟩|⟨k,e⟩<;>rw[e]<;>simp<;>omega
 . obtain⟨r,q⟩:=E j d m f;exact q.id.2
 . have ht:=c7 j d;have z:=uI (aI.getD j eQ);unfold fg at ht;simp only[bd]at ht;rcases ht with⟨k,e⟩|⟨k,e⟩|⟨k,e⟩|⟨k,_,e⟩|⟨k,Ms,a,e⟩|⟨k,e⟩|⟨k,Ms,_,a,a0,e⟩|⟨k,e⟩|⟨k,_,e⟩|⟨k,w,a,e⟩|⟨k,e⟩<;>rw[e]at L<;>simp at L;exact(Kp z.2.1 z.2.2.1 z.2.2.2).2 y L
 . rcases Hb (c7 j d)with h|⟨r,_,_,h⟩
   . rw[h];simp
   . exact h
 . obtain⟨r,q⟩:=E j d m f;exact(MN cq ba ⟨q.rI.1,q.rI.2.1⟩ (q.kb D)).2
end
theorem Fx{d:ek}(g:ud d):qx d=some (⟨[]⟩,false)\/∃l,qx d=some (⟨l⟩,true)/\dj l:=by
 rcases of_eq g with h|⟨l,a,b,c,e,f⟩
 . exact .inl h
 . exact .inr ⟨l,a,abR g.2 c b e f⟩
def fm(a C:aq):Prop:=a.length<=C.length/\∀c,c∈a->c∈C
theorem fm.refl(C:aq):fm C C:=⟨ef _,λ_ h=>h⟩
theorem fm.trans{A B C:aq}(h:fm A B)(k:fm B C):fm A C:=⟨h9 h.1 k.1,λc a=>k.2 c (h.2 c a)⟩
def gH(C:aq):Prop:=∀c,c∈C->c8 c
theorem gH.dG{A B:aq}(h:gH B)(k:fm A B):gH A:=λc a=>h c (k.2 c a)
section
variable {ts:List ah}
theorem k9{n:Int}(aD:1<=n/\n<=1000){C:aq}(cL:gH C)(af:C.length<=1000)(odd:Bool):
 ∃r b,iX (n,ts,C,odd)=some (r,ts,b,odd)/\0<=r/\r<n/\fm b C/\(r=0/\b=[]/\C=[]\/b.length+1=C.length):=by
 rw[iX];cases C with
 |nil=>
  rw[hM];exact⟨0,[],rfl,by omega,by omega,fm.refl _,.inl ⟨rfl,rfl,rfl⟩⟩
 |cons c C=>
  have d:=cL c (.head _);unfold c8 at d;have h0:aH 0 (c::C).length=true:=aQ (k:=0) (by simp);have h1:dS 1 ((c::C).length:Int) (c::C).length=true:=jK (a:=1) (by simp) (by simp);have e:d' (c::C) 1 ((c::C).length:Int)=C:=by
   have:=nE (c::C) 1;grind
  rw[cl,ad h0,ad (tK (by omega)),ad h1,e];simp only[rq,kf];rw[lf ⟨by omega,by omega⟩,hc d.1];exact⟨_,C,rfl,lZ _ (by omega),lV _ (by omega),⟨by simp,λx f=>.tail _ f⟩,.inr (by simp)⟩
theorem Ic{C:aq}(cL:gH C)(af:C.length<=1000)(odd:Bool):
 ∃o a,uN (ts,C,odd)=some (o,ts,a,odd)/\(odd=false->o=false)/\fm a C:=by
 rw[uN];cases odd with
 |false=>exact⟨false,C,rfl,λ_=>rfl,fm.refl _⟩
 |true=>
  obtain⟨r,a,h1,_,_,b,_⟩:=k9 (ts:=ts) (n:=4) ⟨by omega,by omega⟩ cL af true;rw[ad rfl,h1];exact⟨_,a,rfl,λh=>(by cases h),b⟩
theorem acj(b:x.ag.length<9223372036854775807)(hs:x.bg.length<9223372036854775807)(n:Int):dg (Cf (x,n)) ((∃m,m∈x.ag/\m.ae=n)\/∃y,y∈x.bg/\y.ae=n):=by
 obtain⟨r,_,c,a⟩:=mx (t:=x) n b;obtain⟨s,_,d,al⟩:=qF (t:=x) n hs;rw[Cf,c];simp only[aT,ao];rw[d];refine⟨_,rfl,?_⟩;have h1:=Cw al;have f:r.2=true↔∃m,m∈x.ag/\m.ae=n:=by
  rcases tB a with⟨e,j,g,_,_,i⟩|⟨e,q⟩
  . grind
  . rw[e];have:=nz q;grind
 grind
theorem Kr(c:x.ag.length<9223372036854775807)(hs:x.bg.length<9223372036854775807)(d:∀m,m∈x.ag->m.ae<=12)(e:∀y,y∈x.bg->y.ae<=6)(C:aq)(odd:Bool):
 ∀(k:Nat) (n:Int),1<=n->n<=14->13<=n+k->∃a,uL (n,ts,C,odd,x)=some (a,ts,C,odd)/\1<=a/\a<=14/\(∀m,m∈x.ag->m.ae≠a)/\(∀y,y∈x.bg->y.ae≠a)
 |k,n,h1,g,b=>by
  obtain⟨r,f,j⟩:=acj c hs n;rw[uL,f];simp only[aT,ao];cases r with
  |false=>grind
  |true=>
   have i:n<=12:=(by grind);rw[ad rfl,j']
   match k,b with
   |0,b=>omega
   |k+1,b=>exact Kr c hs d e C odd k (n+1) (by omega) (by omega) (by omega)
theorem Hc(e:x.ag.length<9223372036854775807)(hs:x.bg.length<9223372036854775807)(b:∀m,m∈x.ag->m.ae<=12)(d:∀y,y∈x.bg->y.ae<=6){C:aq}(cL:gH C)(af:C.length<=1000)(odd:Bool):
 ∃n a,qp (x,ts,C,odd)=some (n,ts,a,odd)/\cr n/\cH x.ag n=none/\fm a C:=by
 obtain⟨r,a,h1,i,j,c,_⟩:=k9 (ts:=ts) (n:=14) ⟨by omega,by omega⟩ cL af odd;obtain⟨n,c',k,l,g,_⟩:=Kr (ts:=ts) e hs b d a odd 12 (1+r) (by omega) (by omega) (by omega);refine⟨n,a,?_,⟨by omega,by omega⟩,?_,c⟩
 . rw[qp,h1];simp only[aT,ao];rw[j',c'];rfl
 . unfold cH;rw[yg];intro m f;simpa using g m f
theorem Mp{n:Int}{C:aq}(cL:gH C)(af:C.length<=1000)(odd:Bool):∃d a,uO (n,ts,C,odd)=some (⟨n,d⟩,ts,a,odd)/\d.length<=3/\fm a C:=by
 obtain⟨r,a,h1,b,c,e,_⟩:=k9 (ts:=ts) (n:=4) ⟨by omega,by omega⟩ cL af odd;obtain⟨k,rfl⟩:∃k:Nat,r=(k:Int):=⟨r.toNat,by omega⟩
 rw[uO];simp only[aT,ao];rw[h1];simp only[ao];rw[ad (aQ (by simp;omega)),bd];grind
theorem MP(odd:Bool):∀(k:Nat) (s:aj) (C:aq),k<=100->gH C->C.length<=1000->s.length+k<=100->∃b a,sf (s,(k:Int),ts,C,odd)=some (b,ts,a,odd)/\b.length<=s.length+k/\fm a C
 |0,s,C,g,cL,af,hs=>⟨s,C,by rw[sf,bt],by omega,fm.refl _⟩
 |k+1,s,C,g,cL,af,hs=>by
  obtain⟨r,a,h1,f,j,c,_⟩:=k9 (ts:=ts) (n:=3) ⟨by omega,by omega⟩ cL af odd;have i:decide ((0:Int)<((k+1:Nat):Int))=true:=by rw[dn];omega
  have e:df .i64 ((k+1:Nat):Int) 1=(k:Int):=by rw[hG];omega
  rw[sf,ad i,h1];simp only[aT,ao];rw[H' ⟨f,by omega⟩,ad (fW (by simp;omega)),e];obtain⟨b,d,a1,a2,a3⟩:=MP odd k (s++[UInt8.ofNat (97+r.toNat)]) a (by omega) (cL.dG c) (by have:=c.1;omega) (by simp;omega);exact⟨b,d,a1,by simp at a2;omega,a3.trans c⟩
theorem abT{most:Int}(f:0<=most/\most<=1000){C:aq}(cL:gH C)(af:C.length<=1000)(odd:Bool):∃s a,Cq (most,ts,C,odd)=some (s,ts,a,odd)/\(s.length:Int)<=most/\s.length<=3/\fm a C:=by
 have em:aM .i64 (je most 3) 1=min most 3+1:=by
  have:je most 3=min most 3:=rfl;rw[this,j']
 obtain⟨r,a,h1,d,e,b,_⟩:=k9 (ts:=ts) (n:=min most 3+1) ⟨by omega,by omega⟩ cL af odd;obtain⟨k,rfl⟩:∃k:Nat,r=(k:Int):=⟨r.toNat,by omega⟩
 obtain⟨s,c,a1,a2,a3⟩:=MP (ts:=ts) odd k [] a (by omega) (cL.dG b) (by have:=b.1;omega) (by simp;omega);refine⟨s,c,?_,by simp at a2;omega,by simp at a2;omega,a3.trans b⟩;rw[Cq,em,h1];grind
end
theorem Sc:∀a b:aj,Op.bytesLess a b=false->a≠b->Op.bytesLess b a=true
 |[],[],_,h=>absurd rfl h
 |[],y::b,h,_=>by simp[Op.bytesLess]at h
 |x::a,[],h,_=>by simp[Op.bytesLess]
 |x::a,y::b,h,d=>by
  simp only[Op.bytesLess]at h⊢;by_cases h1:x<y
  . grind
  . by_cases c:y<x
    . simp[c]
    . have e:x=y:=(by grind);subst e;have f:Op.bytesLess a b=false:=(by simpa using h);have:=Sc a b f (λe=>d (by rw[e]));simp[this]
theorem nl{a b:I}(c:cw a.bc)(d:cw b.bc):nP (a,b)=some (gT a b):=by
 obtain⟨r,h1,e⟩:=CA c d;unfold gT;grind
theorem aa2{a b:I}(d:cw a.bc)(f:cw b.bc)(h:0<gT a b):gT b a<0:=by
 have h1:=nl d f;have c:=nl f d;generalize gT a b=r at h h1;generalize gT b a=q at c;rw[nP]at h1 c;by_cases o:a.Kind=b.Kind
 . rw[ak (by simp[o])]at h1 c;by_cases l:a.Kind=1
   . have g:b.Kind=1:=(by omega);rw[ad (by simp[l])]at h1;rw[ad (by simp[g])]at c;simp only[kD,ft]at h1 c;grind
   . have g:¬b.Kind=1:=(by omega);rw[ak (by simp[l])]at h1;rw[ak (by simp[g])]at c;by_cases m:a.Kind=2
     . have i:b.Kind=2:=(by omega);rw[ad (by simp[m]),tl d,tl f]at h1;rw[ad (by simp[i]),tl d,tl f]at c;simp only[aT,ao,kD]at h1 c;by_cases e:a.bc=b.bc
       . grind
       . have u:gf a.bc≠gf b.bc:=λh=>e (MB h);grind
     . have i:¬b.Kind=2:=(by omega);rw[ak (by simp[m])]at h1;rw[ak (by simp[i])]at c;by_cases n:a.Kind=3
       . have j:b.Kind=3:=(by omega);rw[ad (by simp[n])]at h1;rw[ad (by simp[j])]at c;simp only[aT,ao,kD]at h1 c;by_cases af:a.bn.length=b.bn.length
         . rw[ak (by simp[af])]at h1 c;by_cases e:a.bn=b.bn
           . grind
           . have t:¬b.bn=a.bn:=λh=>e h.symm;cases k:Op.bytesLess a.bn b.bn with
             |true=>simp[e,k]at h1;omega
             |false=>
              have:=Sc _ _ k e;grind
         grind
       . have j:¬b.Kind=3:=(by omega);rw[ak (by simp[n])]at h1;rw[ak (by simp[j])]at c;by_cases p:a.Kind=4
         . have s:b.Kind=4:=(by omega);rw[ad (by simp[p])]at h1;rw[ad (by simp[s])]at c;simp only[aT,ao,kD]at h1 c;grind
         grind
 grind
theorem Ri{key item:I}(af:v.av.length<1000000)(l:∀x,x∈v.av->cw x.bc)(n:cw key.bc)(a:Int)(b:Bool)(c:Int)(d:aj)(e:Int):∀(k i:Nat),i+k=v.av.length->
 (∀j,j<i->gT (v.av.getD j au) key<0)->∃m:Nat,m<=v.av.length/\q5 ((i:Int),v,key,item,a,b,c,d,e)=some ((m:Int),v,key,item,a,b,c,d,e)/\(∀j,j<m->gT (v.av.getD j au) key<0)/\(m<v.av.length->0<=gT (v.av.getD m au) key)
 |0,i,p,g=>by
  have f:decide ((i:Int)<(v.av.length:Int))=false:=by simp;omega
  refine⟨i,by omega,?_,g,λh=>by omega⟩;rw[q5];simp only[aT,ao,f,eN,Bool.or_true,bS,bV,b6,dX,I.aU]
 |k+1,i,p,g=>by
  have aB:i<v.av.length:=by omega
  have f:decide ((i:Int)<(v.av.length:Int))=true:=by simp;omega
  have o:=nl (l _ (bk aB au)) n;rw[q5];simp only[aT,ao,f,dp,jg,bS,eo,I.aU,bd];rw[ad (aQ aB),o];simp only[ao];by_cases q:gT (v.av.getD i au) key<0
  . rw[ad (by simpa using q),bD];refine Ri af l n a b c d e k (i+1) (by omega) λj r=>?_;grind
  grind
theorem tG:∀(a b:List I),cI (a++b)=cI a+cI b
 |[],b=>by rw[gD];simp
 |x::a,b=>by rw[rz,hb,hb,tG a b];omega
theorem Mq{l:List α}{m:Nat}{x d:α}(a:m<=l.length)(i:Nat):(l.take m++(x::l.drop m)).getD i d=if i<m then l.getD i d else if i=m then x else l.getD (i-1) d:=by grind
theorem acL{key item:I}(af:v.av.length<1000)(z:v.ai.length=v.av.length)(l:∀x,x∈v.av->cw x.bc)(n:cw key.bc)(g:jL v.av):
 ∃ks b,Ci (v,key,item)=some ⟨v.Kind,v.bL,v.bc,v.bn,v.ae,ks,b,v.Rest⟩/\b.length=ks.length/\ks.length<=v.av.length+1/\jL ks/\(∀x,x∈ks->x∈v.av\/x=key)/\(∀x,x∈b->x∈v.ai\/x=item)/\cI ks+cI b<=cI v.av+cI v.ai+wt key+wt item:=by
 obtain⟨m,f,B,G,D⟩:=Ri (item:=item) (by omega) l n 0 false 0 [] 0 v.av.length 0 (by omega) (λj F=>by omega);have C:q5 (0,v,key,item,0,false,0,[],0)=_:=B;rw[Ci];simp only[I.aU];rw[C];simp only[aT,ao,I.aU];have ins:∀(r:m<v.av.length->0<gT (v.av.getD m au) key),∃ks b,(some (⟨v.Kind,v.bL,v.bc,v.bn,v.ae,v.av.take m++(key::v.av.drop m),v.ai.take m++(item::v.ai.drop m),v.Rest⟩:I):Option I)=some ⟨v.Kind,v.bL,v.bc,v.bn,v.ae,ks,b,v.Rest⟩/\b.length=ks.length/\ks.length<=v.av.length+1/\jL ks/\(∀x,x∈ks->x∈v.av\/x=key)/\(∀x,x∈b->x∈v.ai\/x=item)/\cI ks+cI b<=cI v.av+cI v.ai+wt key+wt item:=by
  intro r;refine⟨_,_,rfl,by simp;omega,by simp;omega,λi y=>?_,λx c=>?_,λx c=>?_,?_⟩
  . rw[Mq f,Mq f];have A:(v.av.take m++(key::v.av.drop m)).length=v.av.length+1:=by simp;omega
    rw[A]at y;by_cases h1:i+1<m
    . rw[fu,ad h1];exact g i (by omega)
    . by_cases p:i+1=m
      . grind
      . by_cases q:i=m
        . rw[bq,ad q,ak h1,ak p];have e:i+1-1=m:=(by omega);rw[e];exact aa2 (l _ (bk (by omega) au)) n (r (by omega))
        . rw[bq,ak q,ak h1,ak p];have:=g (i-1) (by omega);grind
  . grind
  . grind
  . rw[tG,tG,hb,hb];have aK:cI v.av=cI (v.av.take m)+cI (v.av.drop m):=by rw[<-tG,yd]
    have E:cI v.ai=cI (v.ai.take m)+cI (v.ai.drop m):=by rw[<-tG,yd]
    omega
 have s1:dS 0 (m:Int) v.av.length=true:=jK (a:=0) (by omega) f;have s:dS (m:Int) (v.av.length:Int) v.av.length=true:=jK f (by omega);have t:dS 0 (m:Int) v.ai.length=true:=jK (a:=0) (by omega) (by omega);have u:dS (m:Int) (v.ai.length:Int) v.ai.length=true:=jK (by omega) (by omega);have build:∀{o:Option I->Prop},o (some (⟨v.Kind,v.bL,v.bc,v.bn,v.ae,v.av.take m++(key::v.av.drop m),v.ai.take m++(item::v.ai.drop m),v.Rest⟩:I))->o (some (⟨v.Kind,v.bL,v.bc,v.bn,v.ae,v.av.take m++(key::v.av.drop m),v.ai.take m++(item::v.ai.drop m),v.Rest⟩:I)):=λh=>h;by_cases d:m<v.av.length
 . have k:decide ((m:Int)<(v.av.length:Int))=true:=by simp;omega
   have w:=nl (l _ (bk d au)) n;simp only[k,dp,jg,bS,eo,bd];rw[ad (aQ d),w];simp only[ao];by_cases h0:gT (v.av.getD m au) key=0
   . rw[ad (by simpa using h0)];refine⟨v.av,v.ai,by cases v;rfl,z,by omega,g,λx c=>.inl c,λx c=>.inl c,by omega⟩
   . rw[ak (by simpa using h0),ad s1,ad (cP (by omega) (by simp[d'];omega))];rw[ad (cP (by omega) (by simp[d'];omega)),ad s,ad (cP (by omega) (by simp[d'];omega)),ad t,ad (cP (by omega) (by simp[d'];omega)),ad (cP (by omega) (by simp[d'];omega)),ad u,ad (cP (by omega) (by simp[d'];omega))];rw[tE,tE,nE,nE];simp only[fR,hp,List.singleton_append];exact ins λ_=>by have:=D d;omega
 . have k:decide ((m:Int)<(v.av.length:Int))=false:=by simp;omega
   simp only[k,eN,Bool.or_true,bS,bV,b6,dX,ao];rw[ad s1,ad (cP (by omega) (by simp[d'];omega))];rw[ad (cP (by omega) (by simp[d'];omega)),ad s,ad (cP (by omega) (by simp[d'];omega)),ad t,ad (cP (by omega) (by simp[d'];omega)),ad (cP (by omega) (by simp[d'];omega)),ad u,ad (cP (by omega) (by simp[d'];omega))];rw[tE,tE,nE,nE];simp only[fR,hp,List.singleton_append];exact ins λh=>absurd h d
section
variable {ts:List ah}
mutual
theorem ov:∀(v:I) (t:Int),b5 ts true t v->b5 ts false t v
 |⟨k,b,i,s,id,ks,e,r⟩,t,h=>by
  rw[b5]at h⊢;obtain⟨⟨h1,p,q,z⟩,ba⟩:=h;have w:=GS e;have A:=GS ks;have B:=RB e;refine⟨⟨h1,p,q,λh=>by cases h⟩,?_⟩
  have y:(match cH (ts.getD t.toNat aN).ag id with
   |some m=>r=[]/\e.length=1/\e0 ts true m.aw e
   |none=>(ts.getD t.toNat aN).Open=true/\true=false/\cr id/\e=[]/\∃d,r=[⟨id,d⟩])->(match cH (ts.getD t.toNat aN).ag id with
   |some m=>r=[]/\e.length=1/\e0 ts false m.aw e
   |none=>(ts.getD t.toNat aN).Open=true/\false=false/\cr id/\e=[]/\∃d,r=[⟨id,d⟩]):=by
   split
   . rintro ⟨a,b,c⟩;exact⟨a,b,w _ c⟩
   . rintro ⟨_,b,_⟩;cases b
  rcases ba with h|h|h|⟨a1,a2,a3,a4,a5,f,j,o⟩|⟨a1,a2,a3,a4,a5,f,j,o⟩|⟨a1,a2,a3,a4,a5,f⟩|⟨a1,a2,a3,a4,a5,f,j,o,a9⟩|⟨a1,a2,a3,a4,a5,f,j,o,a9,u,x⟩|⟨a1,a2,a3,a4,a5,f,j,o,a9⟩
  . exact .inl h
  . grind
  . grind
  . grind
  . grind
  . grind
  . grind
  . grind
  grind
theorem GS:∀(l:List I) (t:Int),e0 ts true t l->e0 ts false t l
 |[],t,h=>by rw[e0];trivial
 |v::l,t,h=>by
  rw[e0]at h⊢;exact⟨ov v t h.1,GS l t h.2⟩
theorem RB:∀(l:List I) (ms:List aS),hq ts true ms l->hq ts false ms l
 |[],[],h=>by rw[hq];trivial
 |[],m::ms,h=>by
  have:hq ts true (m::ms) []=False:=by rw[hq]<;>(intros;simp_all)
  grind
 |v::l,[],h=>by
  have:hq ts true [] (v::l)=False:=by rw[hq]<;>(intros;simp_all)
  grind
 |v::l,m::ms,h=>by
  rw[hq]at h⊢;exact⟨ov v m.aw h.1,RB l ms h.2⟩
end
theorem abS(h:b5 ts true t v)(pl:Bool):b5 ts pl t v:=by
 cases pl with
 |true=>exact h
 |false=>exact ov v t h
def kj(ts:List ah)(t:Nat):Nat:=if 7<=(ts.getD t aN).Kind then 0 else t+1
def gg:Nat->Nat
 |0=>20
 |n+1=>12*gg n+20
theorem Ei{a:Nat}:∀{b:Nat},a<=b->gg a<=gg b
 |0,h=>by have:a = 0:= by omega
          subst this;omega
 |b+1,h=>by
  by_cases e:a=b+1
  . grind
  . have:=Ei (a:=a) (b:=b) (by omega);simp only[gg];omega
theorem Eh(r:Nat):20<=gg r:=Ei (a:=0) (h' _)
theorem wN:gg 5=5429060:=rfl
def ma(ts:List ah)(odd:Bool)(C:aq)(r:Nat)(t:Int):Prop:=∃v a,jF (t,ts,C,odd)=some (v,ts,a,odd)/\b5 ts (!odd) t v/\bM v/\fm a C/\wt v+32574360*a.length<=gg r+32574360*C.length
theorem Of {odd:Bool}{c r:Nat}(G:c<=1000){x:ah}(E:x.ag.length<=12)(s:∀m,m∈x.ag->(∀C,gH C->C.length<=c->ma ts odd C r m.aw)/\(m.bZ=true->b5 ts true m.aw m.bw/\bM m.bw/\wt m.bw<=13))
 (a0:Int)(a1:Bool)(a2:Int)(a3:aj)(a4:Int)(v0:Int)(v1:Bool)(g:Int)(v3:aj)(v4:Int):
 ∀(k i:Nat) (C:aq) (acc:List I),i+k=x.ag.length->gH C->C.length<=c->acc.length=i->(∀j,j<i->b5 ts (!odd) (x.ag.getD j aE).aw (acc.getD j au))->(∀y,y∈acc->bM y)->
 ∃a b,mE ((i:Int),ts,C,odd,a0,a1,a2,a3,a4,x.Kind,x.Name,x.bA,x.bC,x.Max,x.bg,x.ag,x.Key,x.aG,x.Open,v0,v1,g,v3,v4,acc)=some (ts,b,odd,a0,a1,a2,a3,a4,x.Kind,x.Name,x.bA,x.bC,x.Max,x.bg,x.ag,x.Key,x.aG,x.Open,v0,v1,g,v3,v4,a)/\
  a.length=x.ag.length/\(∀j,j<x.ag.length->b5 ts (!odd) (x.ag.getD j aE).aw (a.getD j au))/\(∀y,y∈a->bM y)/\fm b C/\cI a+32574360*b.length<=cI acc+k*gg r+32574360*C.length
 |0,i,C,acc,K,cL,af,F,p,l=>⟨acc,C,by rw[mE,cl],by omega,λj L=>p j (by omega),l,fm.refl _,by omega⟩
 |k+1,i,C,acc,K,cL,af,F,p,l=>by
  have aB:i<x.ag.length:=by omega
  obtain⟨t,J⟩:=s _ (bk aB aE);have next:∀ (w:I) (d:aq),b5 ts (!odd) (x.ag.getD i aE).aw w->bM w->fm d C->wt w+32574360*d.length<=gg r+32574360*C.length->
   ∃a b,(if room 120 (acc++[w]).length then mE (aM .i64 (i:Int) 1,ts,d,odd,a0,a1,a2,a3,a4,x.Kind,x.Name,x.bA,x.bC,x.Max,x.bg,x.ag,x.Key,x.aG,x.Open,v0,v1,g,v3,v4,acc++[w])else none)=some (ts,b,odd,a0,a1,a2,a3,a4,x.Kind,x.Name,x.bA,x.bC,x.Max,x.bg,x.ag,x.Key,x.aG,x.Open,v0,v1,g,v3,v4,a)/\
    a.length=x.ag.length/\(∀j,j<x.ag.length->b5 ts (!odd) (x.ag.getD j aE).aw (a.getD j au))/\(∀y,y∈a->bM y)/\fm b C/\cI a+32574360*b.length<=cI acc+(k+1)*gg r+32574360*C.length:=by
   intro w d P M hs Q;rw[ad (cP),bD]
   obtain⟨a,b,b1,b2,b3,b4,B,D⟩:=Of G E s a0 a1 a2 a3 a4 v0 v1 g v3 v4 k (i+1) d (acc++[w]) (by omega) (cL.dG hs) (by have:=hs.1;omega) (by simp;omega) (λj L=>by
    grind) (λy N=>by
    rcases f'.1 N with h|h
    . exact l y h
    . have:y=w:=by simpa using h
      subst this;exact M)
   refine⟨a,b,b1,b2,b3,b4,B.trans hs,?_⟩;rw[tG,hb,gD]at D;have e:(k+1)*gg r=k*gg r+gg r:=Nat.succ_mul _ _;omega
  rw[mE,bu,ad (aQ aB)];simp only[aT,ao,bd,I.aU];cases H:(x.ag.getD i aE).bZ with
  |true=>
   obtain⟨f1,f2,f3⟩:=J H;obtain⟨q,d,c',R,S,f,fk⟩:=k9 (ts:=ts) (n:=3) ⟨by omega,by omega⟩ cL (by omega) odd;rw[ad rfl,c'];simp only[ao,eo];by_cases h0:q=0
   . rw[ad (by simpa using h0)];have:=f.1;have:=Eh r;rw[ad (aQ aB)];exact next _ d (abS f1 _) f2 f (by omega)
   . rw[ak (by simpa using h0),ad (aQ aB)];obtain⟨w,o,u,v,z,A,O⟩:=t d (cL.dG f) (by have:=f.1;omega);rw[u];simp only[ao,I.aU];have:=f.1;exact next w o v z (A.trans f) (by omega)
  |false=>
   rw[bt,bt,ad (aQ aB)];obtain⟨w,o,u,v,z,A,O⟩:=t C cL af;grind
theorem MQ{r:Nat}(m:c<=1000)(dR:∀C,gH C->C.length<=c->ma ts odd C r x.aG)
 (a0:Int)(a1:Bool)(a2:Int)(a3:aj)(a4:Int)(v0:Int)(v1:Bool)(f:Int)(v3:aj)(v4:Int):
 ∀(k:Nat) (C:aq) (acc:List I),acc.length+k<=100->gH C->C.length<=c->(∀y,y∈acc->b5 ts (!odd) x.aG y/\bM y)->
 ∃a b,qn ((k:Int),ts,C,odd,a0,a1,a2,a3,a4,x.Kind,x.Name,x.bA,x.bC,x.Max,x.bg,x.ag,x.Key,x.aG,x.Open,v0,v1,f,v3,v4,acc)=some (ts,b,odd,a0,a1,a2,a3,a4,v0,v1,f,v3,v4,a)/\
  a.length=acc.length+k/\(∀y,y∈a->b5 ts (!odd) x.aG y/\bM y)/\fm b C/\cI a+32574360*b.length<=cI acc+k*gg r+32574360*C.length
 |0,C,acc,l,cL,af,g=>⟨acc,C,by rw[qn,bt],by omega,g,fm.refl _,by omega⟩
 |k+1,C,acc,l,cL,af,g=>by
  have n:decide ((0:Int)<((k+1:Nat):Int))=true:=by rw[dn];omega
  have e:df .i64 ((k+1:Nat):Int) 1=(k:Int):=by rw[hG];omega
  obtain⟨w,i,o,q,s,d,t⟩:=dR C cL af;rw[qn,ad n,o];simp only[aT,ao,I.aU];rw[ad (cP),e];obtain⟨a,b,b1,b2,b3,b4,j⟩:=MQ m dR a0 a1 a2 a3 a4 v0 v1 f v3 v4 k i (acc++[w]) (by simp;omega) (cL.dG d) (by have:=d.1;omega) (λy p=>by grind);refine⟨a,b,b1,by simp at b2;omega,b3,b4.trans d,?_⟩;rw[tG,hb,gD]at j;grind
theorem Og {odd:Bool}{c r:Nat}(E:c<=1000){x:ah}(bH:∀C,gH C->C.length<=c->ma ts odd C r x.Key)(dR:∀C,gH C->C.length<=c->ma ts odd C r x.aG)
 (a0:Int)(a1:Bool)(a2:Int)(a3:aj)(a4:Int)(v0:Int)(v1:Bool)(j:Int)(v3:aj)(v4:Int)(R:List bY):
 ∀(k:Nat) (C:aq) (ks a:List I),ks.length+k<=100->a.length=ks.length->gH C->C.length<=c->(∀y,y∈ks->b5 ts (!odd) x.Key y/\bM y)->(∀y,y∈a->b5 ts (!odd) x.aG y/\bM y)->jL ks->
 ∃b d f,qo ((k:Int),ts,C,odd,a0,a1,a2,a3,a4,x.Kind,x.Name,x.bA,x.bC,x.Max,x.bg,x.ag,x.Key,x.aG,x.Open,v0,v1,j,v3,v4,ks,a,R)=some (ts,f,odd,a0,a1,a2,a3,a4,v0,v1,j,v3,v4,b,d,R)/\
  b.length<=ks.length+k/\d.length=b.length/\(∀y,y∈b->b5 ts (!odd) x.Key y/\bM y)/\(∀y,y∈d->b5 ts (!odd) x.aG y/\bM y)/\jL b/\fm f C/\cI b+cI d+32574360*f.length<=cI ks+cI a+2*(k*gg r)+32574360*C.length
 |0,C,ks,a,D,n,cL,af,m,al,l=>⟨ks,a,C,by rw[qo,bt],by omega,n,m,al,l,fm.refl _,by omega⟩
 |k+1,C,ks,a,D,n,cL,af,m,al,l=>by
  have F:decide ((0:Int)<((k+1:Nat):Int))=true:=by rw[dn];omega
  have e:df .i64 ((k+1:Nat):Int) 1=(k:Int):=by rw[hG];omega
  obtain⟨w,s,J,W,K,i,X⟩:=bH C cL af;have U:=i.1;obtain⟨z,t,c',L,M,o,fk⟩:=dR s (cL.dG i) (by omega);have V:=o.1;obtain⟨H,G,p,N,O,P,Q,q,S⟩:=acL (v:=⟨v0,v1,j,v3,v4,ks,a,R⟩) (key:=w) (item:=z) (by show ks.length<1000;omega) n (λy g=>vF (m y g).2) (vF K) l;simp only at p O Q q S;rw[qo,ad F,J];simp only[aT,ao,I.aU];rw[c'];simp only[ao,I.aU];rw[p];simp only[ao];rw[e]
  obtain⟨b,d,f,b1,b2,b3,b4,u,A,B,T⟩:=Og E bH dR a0 a1 a2 a3 a4 v0 v1 j v3 v4 R k t H G (by omega) N ((cL.dG i).dG o) (by omega) (λy g=>by
   grind) (λy g=>by
   rcases q y g with h|h
   . exact al y h
   . subst h;exact⟨L,M⟩) P
  refine⟨b,d,f,b1,by omega,b3,b4,u,A,B.trans (o.trans i),?_⟩;grind
theorem tm(hs:v.bn.length<=1000)(d:∀x,x∈v.av->bM x)(c:∀x,x∈v.ai->bM x)(h1:v.av.length<=1000)(g:v.ai.length<=1000)(i:v.Rest.length<=1000)(b:∀x,x∈v.Rest->x.Data.length<=1000/\cw x.ae)(c':cw v.Kind)(e:cw v.bc)(f:cw v.ae):bM v:=
 .mk v (by unfold reachBytes;omega) (by unfold reachBytes;omega) (by unfold reachBytes;omega) (by unfold reachBytes;omega) d c (λx a=>by have:=(b x a).1;unfold reachBytes;omega) c' e f (λx a=>(b x a).2)
theorem s8{n:Int}(h:cr n):cw n:=by unfold cr at h;unfold cw;omega
def AW(ts:List ah)(odd:Bool)(c r:Nat):Prop:=∀t:Nat,t<ts.length->kj ts t<=r->∀C,gH C->C.length<=c->ma ts odd C r (t:Int)
theorem Ie(H:dj ts){t:Nat}(ht:t<ts.length:=by omega):kj ts t<=5:=by
 unfold kj;have:=H.fk;grind
theorem ma.up{C:aq}{r:Nat}(h:ma ts odd C r t)(o:r<=a):ma ts odd C a t:=by
 obtain⟨v,c,h1,e,f,j,ba⟩:=h;exact⟨v,c,h1,e,f,j,by have:=Ei o;omega⟩
theorem abU(H:dj ts){r:Nat}(bJ:c<=60)(bc:∀aV,aV<c->AW ts odd aV 5)(be:∀G,G<r->AW ts odd c G):AW ts odd c r:=by
 intro t ht bQ C cL af;have X:=bk ht aN;have bE:=H.V.F _ X;have c7:=H.T _ X;have bO:=H.M _ X;obtain⟨aF,aI,aW⟩:=H.cy _ X;have bp:=H.R t ht;have bo:=H.L _ X;have au:=H.V.U _ X;have bl:=H.D _ X;have di:=H.W _ X;have bv:kj ts t=if 7<=(ts.getD t aN).Kind then 0 else t+1:=rfl
 unfold ma;rw[jF,ad (aQ ht)];simp only[aT,ao,bd];have Q:=λv=>eU (ts:=ts) (!odd) (t:Int) v;simp only[bd]at Q;generalize bW:ts.getD t aN=x at*;have bF:=Eh r;have E:(0:Int)<=t/\(t:Int)<ts.length:=by omega
 have ab:∀(v:I) (z:aq),v.av=[]->v.ai=[]->v.Rest=[]->v.bn.length<=3->fm z C->wt v+32574360*z.length<=gg r+32574360*C.length:=λv z a b c d e=>by rw[MM a b c];have:=e.1;omega
 have below:∀l:aq,l.length+1=C.length->∀u:Int,0<=u->u<ts.length->∀p,gH p->p.length<=l.length->ma ts odd p 5 u:=λl h1 u bU bV p N O=>by
  obtain⟨k,rfl⟩:∃k:Nat,u=(k:Int):=⟨u.toNat,by omega⟩
  exact bc l.length (by omega) k (by omega) (Ie H) p N O
 have a':x.Kind=5\/x.Kind=6->1<=r/\∀m,m∈x.ag->∀p,gH p->p.length<=c->ma ts odd p (r-1) m.aw:=λbK=>by
  have bR:kj ts t=t+1:=by rw[bv,bq]
  refine⟨by omega,λm P p N O=>?_⟩;obtain⟨a,b,bi⟩:=bp m P;obtain⟨k,bu⟩:∃k:Nat,m.aw=(k:Int):=⟨m.aw.toNat,by omega⟩
  rw[bu]at bi⊢;refine be (r-1) (by omega) k (by omega) ?_ p N O;have:kj ts k<=t:=by
   unfold kj;grind
  omega
 have aR:x.bg.length<9223372036854775807:=dz (il c7.syms);have aL:x.ag.length<9223372036854775807:=dz (il c7.gQ);unfold gh at bE;rcases bE with⟨k,_⟩|⟨k,f1,f2,_⟩|⟨k,f1,f2,f3,f4,_⟩|⟨k,f1,f2,f3,f4,f5,_⟩|⟨k,f1,f2,f3,f4,f5,f6,_⟩|⟨k,f1,f2,f3,f4,f5,f6,_⟩|⟨k,f1,f2,f3,f4,_⟩|⟨k,f1,f2,f3,f4,_⟩|⟨k,_⟩
 . obtain⟨q,l,c',Z,aa,g,fk⟩:=k9 (ts:=ts) (n:=2) ⟨by omega,by omega⟩ cL (by omega) odd;rw[ad (by simp[k]),c'];refine⟨_,l,rfl,?_,pA rfl rfl rfl (by simp) (by simp[cw,k]) (by simp[cw]) (by simp[cw]),g,ab _ _ rfl rfl rfl (by simp) g⟩;grind
 . obtain⟨q,l,c',Z,aa,g,fk⟩:=k9 (ts:=ts) (n:=256) ⟨by omega,by omega⟩ cL (by omega) odd;have bH:=bo k;have aK:aM .i64 (df .i64 x.bC x.bA) 1=x.bC-x.bA+1:=by rw[hG,j']
   have bX:0<=q%(x.bC-x.bA+1):=lZ _ (by omega);have bY:q%(x.bC-x.bA+1)<x.bC-x.bA+1:=lV _ (by omega);rw[ak (by simp[k]),ad (by simp[k]),c'];simp only[ao];rw[aK,ad (tK (by omega)),hc Z,j'];refine⟨_,l,rfl,?_,pA rfl rfl rfl (by simp) (by simp[cw,k]) (by simp only[cw];omega) (by simp[cw]),g,ab _ _ rfl rfl rfl (by simp) g⟩;grind
 . obtain⟨s,l,c',Z,aa,g⟩:=abT (ts:=ts) (most:=x.Max) ⟨f4.1,by omega⟩ cL (by omega) odd;rw[ak (by simp[k]),ak (by simp[k]),ad (by simp[k]),c'];refine⟨_,l,rfl,?_,pA rfl rfl rfl (by show s.length<=1000;omega) (by simp[cw,k]) (by simp[cw]) (by simp[cw]),g,ab _ _ rfl rfl rfl aa g⟩;grind
 . have bT:=f5.1;have bS:=f5.2.2.2.2;have a6:=f5.2.1.2;obtain⟨q,l,c',Z,aa,g,fk⟩:=k9 (ts:=ts) (n:=(x.bg.length:Int)) ⟨by omega,by omega⟩ cL (by omega) odd;obtain⟨j,rfl⟩:∃j:Nat,q=(j:Int):=⟨q.toNat,by omega⟩
   have am:=g.1;have J:j<x.bg.length:=(by omega);have f:=bk J dL;rw[ak (by simp[k]),ak (by simp[k]),ak (by simp[k]),ad (by simp[k]),c'];simp only[ao];rw[ad (aQ J)];simp only[bd];cases bz:x.Open with
   |false=>
    rw[bt,bt];refine⟨_,l,rfl,?_,pA rfl rfl rfl (by simp) (by simp[cw,k]) (by simp[cw]) (s8 (a6 _ f)),g,ab _ _ rfl rfl rfl (by simp) g⟩;grind
   |true=>
    obtain⟨o,p,ap,ba,A⟩:=Ic (ts:=ts) (cL.dG g) (by omega) odd;have ax:=A.1;rw[ad rfl,ap];simp only[ao,eo];cases o with
    |false=>
     rw[bt];refine⟨_,p,rfl,?_,pA rfl rfl rfl (by simp) (by simp[cw,k]) (by simp[cw]) (s8 (a6 _ f)),(A.trans g),ab _ _ rfl rfl rfl (by simp) (A.trans g)⟩;grind
    |true=>
     have aP:odd=true:=(by grind);obtain⟨n,aB,ar,aj,bb,K⟩:=Hc (ts:=ts) aL aR aF aI ((cL.dG g).dG A) (by omega) odd;rw[ad rfl,ar];refine⟨_,aB,rfl,?_,pA rfl rfl rfl (by simp) (by simp[cw,k]) (by simp[cw]) (s8 aj),K.trans (A.trans g),ab _ _ rfl rfl rfl (by simp) (K.trans (A.trans g))⟩;grind
 . obtain⟨bB,aO⟩:=a' (.inl k);obtain⟨acc,l,b1,b2,b3,b4,B,al⟩:=Of (ts:=ts) (odd:=odd) (c:=c) (r:=r-1) (by omega) (x:=x) aW (λm P=>⟨aO m P,λaY=>⟨bl m P aY,c7.jb m P,di m P aY⟩⟩) 0 false 0 [] 0 x.Kind false 0 [] 0 x.ag.length 0 C [] (by omega) cL af rfl (λj J=>by omega) (λy f=>by cases f);have bh:mE (0,ts,C,odd,0,false,0,[],0,x.Kind,x.Name,x.bA,x.bC,x.Max,x.bg,x.ag,x.Key,x.aG,x.Open,x.Kind,false,0,[],0,[])=_:=b1;have am:=B.1;have bG:gg r=12*gg (r-1)+20:=by
    obtain⟨G,rfl⟩:∃G,r=G+1:=⟨r-1,by omega⟩
    rfl
   have bN:x.ag.length*gg (r-1)<=12*gg (r-1):=eW _ aW;rw[gD]at al;have aZ:hq ts (!odd) x.ag acc:=ik.2 ⟨b2,b3⟩;rw[ak (by simp[k]),ak (by simp[k]),ak (by simp[k]),ak (by simp[k]),ad (by simp[k]),bh];simp only[ao];obtain⟨o,p,ap,ba,A⟩:=Ic (ts:=ts) (cL.dG B) (by omega) odd;have ax:=A.1;rw[ap];simp only[ao];cases o with
   |false=>
    rw[bt];refine⟨_,p,rfl,?_,tm (by simp) (λy f=>by cases f) b4 (by simp) (by show acc.length<=1000;omega) (by simp) (λy f=>by cases f) (by simp[cw,k]) (by simp[cw]) (by simp[cw]),A.trans B,?_⟩
    . exact(Q _).2 ⟨⟨E.1,E.2,rfl,λ_=>rfl⟩,.inr (.inr (.inr (.inr (.inl ⟨k,rfl,rfl,rfl,rfl,rfl,⟨.nil,λy f=>by cases f⟩,aZ⟩))))⟩
    . rw[fx];simp only[gD,h8,pY,tN];omega
   |true=>
    have aP:odd=true:=(by grind);obtain⟨n,aB,ar,aj,bb,K⟩:=Hc (ts:=ts) aL aR aF aI ((cL.dG B).dG A) (by omega) odd;have bw:=K.1;obtain⟨d,aC,d1,d2,d3⟩:=Mp (ts:=ts) (n:=n) (((cL.dG B).dG A).dG K) (by omega) odd;have bx:=d3.1;rw[ad rfl,Dh,ar];simp only[ao];rw[d1];simp only[ao];refine⟨_,aC,rfl,?_,tm (by simp) (λy f=>by cases f) b4 (by simp) (by show acc.length<=1000;omega) (by simp) (λy f=>?_) (by simp[cw,k]) (by simp[cw]) (by simp[cw]),d3.trans (K.trans (A.trans B)),?_⟩
    . refine(Q _).2 ⟨⟨E.1,E.2,rfl,λh=>by simp[aP]at h⟩,.inr (.inr (.inr (.inr (.inl ⟨k,rfl,rfl,rfl,rfl,rfl,⟨by simp,λy f=>?_⟩,aZ⟩))))⟩;grind
    . have:y=⟨n,d⟩:=(by simpa using f);subst this;exact⟨by show d.length<=1000;omega,s8 aj⟩
    . rw[fx];simp only[gD,h8,gz,pY,oj,tN];omega
 . obtain⟨bB,aO⟩:=a' (.inr k);have bI:0<x.ag.length:=by
    rcases f6.2.1 with h|h
    . cases h
    . exact h
   have bD:gg (r-1)+20<=gg r:=by
    obtain⟨G,rfl⟩:∃G,r=G+1:=⟨r-1,by omega⟩
    have:=Eh G;show gg G+20<=12*gg G+20;omega
   have bf:∀ aA,fm aA C->∃ v z,(Option.bind (iX ((x.ag.length:Int),ts,aA,odd)) λah=>if aH ah.1 x.ag.length then
    (jF ((x.ag.getD ah.1.toNat aE).aw,ah.2.1,ah.2.2.1,ah.2.2.2)).bind λaz=>
     some ((⟨x.Kind,false,0,[],(x.ag.getD ah.1.toNat aE).ae,[],[az.1],[]⟩:I),az.2.1,az.2.2.1,az.2.2.2)
    else none)=some (v,ts,z,odd)/\b5 ts (!odd) (t:Int) v/\bM v/\fm z C/\wt v+32574360*z.length<=gg r+32574360*C.length:=by
    intro aA ay;have bL:=ay.1;obtain⟨q,l,c',Z,aa,g,fk⟩:=k9 (ts:=ts) (n:=(x.ag.length:Int)) ⟨by omega,by omega⟩ (cL.dG ay) (by omega) odd;obtain⟨j,rfl⟩:∃j:Nat,q=(j:Int):=⟨q.toNat,by omega⟩
    have am:=g.1;have J:j<x.ag.length:=(by omega);have P:=bk J aE;obtain⟨w,p,aS,a7,a8,an,a9⟩:=aO _ P l ((cL.dG ay).dG g) (by omega);have ax:=an.1;rw[c'];simp only[ao];rw[ad (aQ J)];simp only[bd];rw[aS];simp only[ao];have bm:=f6.2.2.1.2 _ P;refine⟨_,p,rfl,?_,tm (by simp) (λy f=>by cases f) (λy f=>?_) (by simp) (by simp) (by simp) (λy f=>by cases f) (by simp[cw,k]) (by simp[cw]) (s8 bm),an.trans (g.trans ay),?_⟩
    . refine(Q _).2 ⟨⟨E.1,E.2,rfl,λ_=>rfl⟩,.inr (.inr (.inr (.inr (.inr (.inl ⟨k,rfl,rfl,rfl,rfl,?_⟩)))))⟩;have bs:cH x.ag (x.ag.getD j aE).ae=some (x.ag.getD j aE):=by
       unfold cH;rw[BQ];refine⟨by simp,j,J,(dv J _).symm,λi aJ=>?_⟩;have bP:=ru.1 f6.2.2.1.1 i j (by omega) J aJ;rw[dv J];simp;omega
      simp only[bs];refine⟨by first|rfl|trivial,by first|rfl|trivial,?_⟩;rw[cW];intro y f;have:y=w:=(by simpa using f);subst this;exact a7
    . have:y=w:=(by simpa using f);subst this;exact a8
    . rw[fx];simp only[hb,gD,h8,pY,tN];omega
   rw[ak (by simp[k]),ak (by simp[k]),ak (by simp[k]),ak (by simp[k]),ak (by simp[k]),ad (by simp[k])];simp only[I.aU];cases bz:x.Open with
   |false=>
    rw[bt,bt];obtain⟨v,z,a1,a2,a3,a4,a5⟩:=bf C (fm.refl _);grind
   |true=>
    obtain⟨o,p,ap,ba,A⟩:=Ic (ts:=ts) cL (by omega) odd;have ax:=A.1;rw[ad rfl,ap];simp only[ao,eo];cases o with
    |false=>grind
    |true=>
     have aP:odd=true:=(by grind);obtain⟨n,aB,ar,aj,bb,K⟩:=Hc (ts:=ts) aL aR aF aI (cL.dG A) (by omega) odd;have bw:=K.1;obtain⟨d,aC,d1,d2,d3⟩:=Mp (ts:=ts) (n:=n) ((cL.dG A).dG K) (by omega) odd;have bx:=d3.1;rw[ad rfl,ar];simp only[ao];rw[d1];simp only[ao];refine⟨_,aC,rfl,?_,tm (by simp) (λy f=>by cases f) (λy f=>by cases f) (by simp) (by simp) (by simp) (λy f=>?_) (by simp[cw,k]) (by simp[cw]) (s8 aj),d3.trans (K.trans A),?_⟩
     . grind
     . have:y=⟨n,d⟩:=(by simpa using f);subst this;exact⟨by show d.length<=1000;omega,s8 aj⟩
     . rw[fx];simp only[gD,h8,gz,pY,oj,tN];omega
 . have em:aM .i64 (je x.Max 3) 1=min x.Max 3+1:=by
    have:je x.Max 3=min x.Max 3:=rfl;rw[this,j']
   have S:0<=x.aG/\x.aG<ts.length:=au x.aG (by unfold e9;simp[k]);obtain⟨q,l,c',Z,aa,g,fk⟩:=k9 (ts:=ts) (n:=min x.Max 3+1) ⟨by omega,by omega⟩ cL (by omega) odd;obtain⟨j,rfl⟩:∃j:Nat,q=(j:Int):=⟨q.toNat,by omega⟩
   have am:=g.1;have loop:∃acc z,qn ((j:Int),ts,l,odd,0,false,0,[],0,x.Kind,x.Name,x.bA,x.bC,x.Max,x.bg,x.ag,x.Key,x.aG,x.Open,x.Kind,false,0,[],0,[])=some (ts,z,odd,0,false,0,[],0,x.Kind,false,0,[],0,acc)/\acc.length=j/\(∀y,y∈acc->b5 ts (!odd) x.aG y/\bM y)/\fm z C/\10+cI acc+32574360*z.length<=gg r+32574360*C.length:=by
    rcases fk with⟨h0,h1,bj⟩|h1
    . have:j=0:=(by omega);subst this;refine⟨[],l,by rw[qn,bt],rfl,λy f=>(by cases f),g,?_⟩;rw[gD];omega
    . obtain⟨acc,z,b1,b2,b3,b4,B⟩:=MQ (ts:=ts) (odd:=odd) (c:=l.length) (r:=5) (by omega) (x:=x) (λp N O=>below l h1 x.aG S.1 S.2 p N O) 0 false 0 [] 0 x.Kind false 0 [] 0 j l [] (by simp;omega) (cL.dG g) (by omega) (λy f=>by cases f);refine⟨acc,z,b1,by simpa using b2,b3,b4.trans g,?_⟩;rw[gD,wN]at B;omega
   obtain⟨acc,z,b1,b2,b3,b4,B⟩:=loop;rw[ak (by simp[k]),ak (by simp[k]),ak (by simp[k]),ak (by simp[k]),ak (by simp[k]),ak (by simp[k]),ad (by simp[k]),em,c'];simp only[ao];rw[b1];simp only[ao];refine⟨_,z,rfl,?_,tm (by simp) (λy f=>by cases f) (λy f=>(b3 y f).2) (by simp) (by show acc.length<=1000;omega) (by simp) (λy f=>by cases f) (by simp[cw,k]) (by simp[cw]) (by simp[cw]),b4,?_⟩
   . exact(Q _).2 ⟨⟨E.1,E.2,rfl,λ_=>rfl⟩,.inr (.inr (.inr (.inr (.inr (.inr (.inl ⟨k,rfl,rfl,rfl,rfl,rfl,rfl,by show(acc.length:Int)<=x.Max;omega,cW.2 λy f=>(b3 y f).1⟩))))))⟩
   . rw[fx];simp only[gD,h8,pY,tN];omega
 . have em:aM .i64 (je x.Max 3) 1=min x.Max 3+1:=by
    have:je x.Max 3=min x.Max 3:=rfl;rw[this,j']
   have S:0<=x.aG/\x.aG<ts.length:=au x.aG (by unfold e9;simp[k]);have a0:0<=x.Key/\x.Key<ts.length:=au x.Key (by unfold e9;simp[k]);obtain⟨q,l,c',Z,aa,g,fk⟩:=k9 (ts:=ts) (n:=min x.Max 3+1) ⟨by omega,by omega⟩ cL (by omega) odd;obtain⟨j,rfl⟩:∃j:Nat,q=(j:Int):=⟨q.toNat,by omega⟩
   have am:=g.1;have aX:jL []:=λi aJ=>by simp at aJ
   have loop:∃ks Y z,qo ((j:Int),ts,l,odd,0,false,0,[],0,x.Kind,x.Name,x.bA,x.bC,x.Max,x.bg,x.ag,x.Key,x.aG,x.Open,x.Kind,false,0,[],0,[],[],[])=some (ts,z,odd,0,false,0,[],0,x.Kind,false,0,[],0,ks,Y,[])/\ks.length<=j/\Y.length=ks.length/\(∀y,y∈ks->b5 ts (!odd) x.Key y/\bM y)/\(∀y,y∈Y->b5 ts (!odd) x.aG y/\bM y)/\jL ks/\fm z C/\10+cI ks+cI Y+32574360*z.length<=gg r+32574360*C.length:=by
    rcases fk with⟨h0,h1,bj⟩|h1
    . have:j=0:=(by omega);subst this;refine⟨[],[],l,by rw[qo,bt],by simp,rfl,λy f=>(by cases f),λy f=>(by cases f),aX,g,?_⟩;rw[gD];omega
    . obtain⟨ks,Y,z,b1,b2,b3,b4,B,al,aD,aU⟩:=Og (ts:=ts) (odd:=odd) (c:=l.length) (r:=5) (by omega) (x:=x) (λp N O=>below l h1 x.Key a0.1 a0.2 p N O) (λp N O=>below l h1 x.aG S.1 S.2 p N O) 0 false 0 [] 0 x.Kind false 0 [] 0 [] j l [] [] (by simp;omega) rfl (cL.dG g) (by omega) (λy f=>by cases f) (λy f=>by cases f) aX;refine⟨ks,Y,z,b1,by simpa using b2,b3,b4,B,al,aD.trans g,?_⟩;rw[gD,wN]at aU;omega
   obtain⟨ks,Y,z,b1,b2,b3,b4,B,al,aD,aU⟩:=loop;rw[ak (by simp[k]),ak (by simp[k]),ak (by simp[k]),ak (by simp[k]),ak (by simp[k]),ak (by simp[k]),ak (by simp[k]),ad (by simp[k]),em,c'];simp only[ao];rw[b1];simp only[ao];refine⟨_,z,rfl,?_,tm (by simp) (λy f=>(b4 y f).2) (λy f=>(B y f).2) (by show ks.length<=1000;omega) (by show Y.length<=1000;omega) (by simp) (λy f=>by cases f) (by simp[cw,k]) (by simp[cw]) (by simp[cw]),aD,?_⟩
   . exact(Q _).2 ⟨⟨E.1,E.2,rfl,λ_=>rfl⟩,.inr (.inr (.inr (.inr (.inr (.inr (.inr (.inl ⟨k,rfl,rfl,rfl,rfl,rfl,by show(ks.length:Int)<=x.Max;omega,b3,cW.2 λy f=>(b4 y f).1,cW.2 λy f=>(B y f).1,al⟩)))))))⟩
   . rw[fx];grind
 . have S:0<=x.aG/\x.aG<ts.length:=au x.aG (by unfold e9;simp[k]);obtain⟨q,l,c',Z,aa,g,fk⟩:=k9 (ts:=ts) (n:=2) ⟨by omega,by omega⟩ cL (by omega) odd;have am:=g.1;rw[ak (by simp[k]),ak (by simp[k]),ak (by simp[k]),ak (by simp[k]),ak (by simp[k]),ak (by simp[k]),ak (by simp[k]),ak (by simp[k]),c'];simp only[ao,I.aU];by_cases h1:q=1
   . have br:l.length+1=C.length:=(by omega);obtain⟨w,p,aS,a7,a8,an,a9⟩:=below l br x.aG S.1 S.2 l (cL.dG g) (by omega);have ax:=an.1;rw[wN]at a9;rw[ad (by simpa using h1),aS];simp only[ao];refine⟨_,p,rfl,?_,tm (by simp) (λy f=>by cases f) (λy f=>?_) (by simp) (by simp) (by simp) (λy f=>by cases f) (by simp[cw,k]) (by simp[cw]) (by simp[cw]),an.trans g,?_⟩
     . refine(Q _).2 ⟨⟨E.1,E.2,rfl,λ_=>rfl⟩,.inr (.inr (.inr (.inr (.inr (.inr (.inr (.inr ⟨k,rfl,rfl,rfl,rfl,rfl,rfl,by simp,cW.2 λy f=>?_⟩)))))))⟩;grind
     . grind
     . rw[fx];simp only[hb,gD,h8,pY,tN];omega
   . rw[ak (by simpa using h1)];refine⟨_,l,rfl,?_,pA rfl rfl rfl (by simp) (by simp[cw,k]) (by simp[cw]) (by simp[cw]),g,ab _ _ rfl rfl rfl (by simp) g⟩;exact(Q _).2 ⟨⟨E.1,E.2,rfl,λ_=>rfl⟩,.inr (.inr (.inr (.inr (.inr (.inr (.inr (.inr ⟨k,rfl,rfl,rfl,rfl,rfl,rfl,by simp,cW.2 λy f=>by cases f⟩)))))))⟩
theorem Oh(H:dj ts):∀(c:Nat),c<=60->∀r,AW ts odd c r:=by
 intro c;induction c using Nat.strongRecOn with
 |ind c d=>
  intro b r;induction r using Nat.strongRecOn with
  |ind r e=>exact abU H b (λa h=>d a h (by omega) 5) (λf h=>e f h)
theorem abV(H:dj ts)(ht:0<=t/\t<ts.length){C:aq}(cL:gH C)(af:C.length<=reachBytes):∃v,x3 ((⟨ts⟩:aR),t,C)=some v/\b5 ts true t v/\bM v/\wt v<=2147483648:=by
 obtain⟨j,rfl⟩:∃j:Nat,t=(j:Int):=⟨t.toNat,by omega⟩
 have m:=dz af;have g:je 60 (C.length:Int)=((min 60 C.length:Nat):Int):=Ip 60 C.length;have hs:gH (C.take (min 60 C.length)):=λc e=>cL c (p1 e);have f:(C.take (min 60 C.length)).length<=60:=by rw[oh];omega
 have i:dS 0 ((min 60 C.length:Nat):Int) C.length=true:=jK (a:=0) (by omega) (by omega);obtain⟨v,k,h1,b,d,l,ba⟩:=Oh H (odd:=false) 60 (by omega) 5 j (by omega) (Ie H) _ hs f;rw[x3];simp only[aT,ao];rw[g,ad i,tE,h1];refine⟨v,by simp only[ao,I.aU],b,d,?_⟩;rw[wN]at ba;omega
theorem YH(H:dj ts)(ht:0<=t/\t<ts.length){C:aq}(cL:gH C)(af:C.length<=reachBytes):∃v,yB ((⟨ts⟩:aR),t,C)=some v/\b5 ts false t v/\bM v/\wt v<=2147483648:=by
 obtain⟨j,rfl⟩:∃j:Nat,t=(j:Int):=⟨t.toNat,by omega⟩
 have m:=dz af;have g:je 60 (C.length:Int)=((min 60 C.length:Nat):Int):=Ip 60 C.length;have hs:gH (C.take (min 60 C.length)):=λc e=>cL c (p1 e);have f:(C.take (min 60 C.length)).length<=60:=by rw[oh];omega
 have i:dS 0 ((min 60 C.length:Nat):Int) C.length=true:=jK (a:=0) (by omega) (by omega);obtain⟨v,k,h1,b,d,l,ba⟩:=Oh H (odd:=true) 60 (by omega) 5 j (by omega) (Ie H) _ hs f;rw[yB];simp only[aT,ao];rw[g,ad i,tE,h1];refine⟨v,by simp only[ao,I.aU],b,d,?_⟩;rw[wN]at ba;omega
end
structure Ek (d:k2):Prop where
 s:ud d.S
 t:c8 d.T
 c:gH d.C
 l:d.C.length<=reachBytes
theorem ags{d:k2}(a:Ek d):(∃s t v w,pM d=some (s,t,v,w,false))\/
 ∃ts t v w,pM d=some (⟨ts⟩,t,v,w,true)/\dj ts/\(0<=t/\t<ts.length)/\(b5 ts true t v/\bM v/\wt v<=2147483648)/\(b5 ts false t w/\bM w/\wt w<=2147483648):=by
 rw[pM];rcases Fx a.s with h|⟨l,h,H⟩
 . rw[h];exact .inl ⟨_,_,_,_,rfl⟩
 . right;have j:=H.c';have k:=H.fk;have ht:=a.t;unfold c8 at ht;have b:0<=d.T%(l.length:Int):=lZ _ (by omega);have e:d.T%(l.length:Int)<l.length:=lV _ (by omega);obtain⟨v,v1,f⟩:=abV H ⟨b,e⟩ a.c a.l;obtain⟨w,g,i⟩:=YH H ⟨b,e⟩ a.c a.l;rw[h];simp only[aT,ao];rw[bt,ad (tK (by omega)),lf ⟨by omega,by omega⟩,hc ht.1,v1];simp only[ao];rw[g];exact⟨l,_,v,w,by simp only[ao,I.aU],H,⟨b,e⟩,f,i⟩
theorem LC(H:iQ ts)(a:bM v)(t:Int)(pl:Bool):dg (j5 ((⟨ts⟩:aR),t,v,pl)) (b5 ts pl t v):=by
 obtain⟨r,h1,c⟩:=yM (by have:=H.n;omega) H.T H.K a t pl;obtain⟨q,d,b⟩:=K7 (by have:=H.n;omega) H.T H.K a t pl;rw[h1]at b;have:r=q:=lY b;subst this;exact⟨r,d,c⟩
theorem Gw(c7:∀t,t∈ts->eX t)(gN:mZ ts)(d:bM v)(a:b5 ts false t v):sL ((⟨ts⟩:aR),t,v)=some 0:=by
 have H:=gN.ic c7;obtain⟨v1,_⟩:=px c7 gN;obtain⟨⟨g,i,_⟩,_⟩:=(eU _ _ _).1 a;obtain⟨r,e,f⟩:=LC H d t false;have c:=f.2 a;subst c;have b:¬((bif decide (t<0)then true else decide (((⟨ts⟩:aR).Types.length:Int)<=t))=true):=by grind
 rw[sL,GU];simp only[Ki,I.aU];rw[v1];show((if(bif (t<0:Bool)then true else (((⟨ts⟩:aR).Types.length:Int)<=t:Bool)) then some (4:Int)else some 0)>>=_)=_;rw[ak b];show(tF ((⟨ts⟩:aR),t,v)>>=_)=_;rw[tF];simp only[I.aU];rw[e];rfl
theorem Lg(c7:∀t,t∈ts->eX t)(gN:mZ ts)(f:bM v)(b:b5 ts false t v):sB ((⟨ts⟩:aR),t,v)=some 0:=by
 have a:=gN.ic c7;obtain⟨⟨j,k,_⟩,_⟩:=(eU _ _ _).1 b;obtain⟨q,g,i⟩:=yM (by have:=a.n;omega) c7 a.K f t false;have e:=i.2 b;subst e;have c:¬t<0:=by omega
 have d:¬(ts.length:Int)<=t:=by omega
 rw[sB,(px c7 gN).2];simp only[aT,ao];rw[bt,ak (by simp[c,d]),Gk];simp only[I.aU];rw[g];rfl
theorem YI(c7:∀t,t∈ts->eX t)(gN:mZ ts)(b:bM v)(a:b5 ts false t v):sL ((⟨ts⟩:aR),t,v)=some 0/\sB ((⟨ts⟩:aR),t,v)=some 0:=⟨Gw c7 gN b a,Lg c7 gN b a⟩
theorem LD{l:List Fd}(d:ka fj l=true)(aD:l.Pairwise (λa b=>a.id≠b.id)):(gP fj l).Pairwise (λa b=>a.id<b.id):=by
 have h1:=CG ME l;have c:(gP fj l).Pairwise (λa b=>a.id≠b.id):=(nA fj l).symm.pairwise aD (λ{a b} h=>λe=>h e.symm);refine(h1.and c).imp λ{a b} h=>?_;have:=h.1;have:=h.2;simp only[fj,yc]at*;omega
theorem Lh{l:List I}{r:List bY}(h:gJ ms)(c:kc ms r):(fr ts ms l r).Pairwise (λa b=>a.id≠b.id):=by
 have:=zb (ts:=ts) (l:=l) h c;have key:∀q:List Fd,ka fj q=true->q.Pairwise (λa b=>a.id≠b.id):=by
  intro q;induction q with
  |nil=>intro _;exact .nil
  |cons a q ih=>
   intro h;simp only[ka,cd,cY,hO,fj,dn]at h;rw[jf];grind
 grind
def oM(f:Fd):cQ:=⟨(f.id:Int),f.c,f.p⟩
theorem Li:∀(l:List Fd) (last:Nat) (b:List cQ),l.Pairwise (λa b=>a.id<b.id)->(∀f,f∈l->last<f.id/\f.id<=1000)->(l.flatMap Fd.text).length<=100000->b.length+l.length<=90000->
 fX ((last:Int),l.flatMap Fd.text,b)=some (.inr (b++l.map oM))
 |[],last,b,_,_,_,_=>by
  rw[fX,bt];simp
 |f::l,last,b,d,i,af,e=>by
  rw[jf]at d;obtain⟨h1,j⟩:=i f (.head _);rw[e6]at af⊢;have ht:f.text=fD f.id f.c f.p:=rfl;rw[ht]at af⊢;rw[X0 h1 j af (by simp at e;omega)];have k:(l.flatMap Fd.text).length<=100000:=by rw[c2]at af;omega
  rw[Li l f.id _ d.2 (λg al=>⟨d.1 g al,(i g (.tail _ al)).2⟩) k (by simp at e⊢;omega)];simp[oM]
theorem YJ{a:aj}{b:List aj}(h:(dB p++a).length<=100000)(j:b.length<=90000):hC (dB p++a,b)=hC (a,b++[p]):=by
 have g:p.length<=100000:=by simp only[dB,c2]at h;omega
 have e:dB p++a≠[]:=by
  intro d;have c:=ep List.length d;have:=qQ p.length;simp only[dB,c2,h8]at c;omega
 rw[hC,ad (by simp only[p3,yc];exact e),lP,Jq g];simp only[aT,ao];have f:¬((!(dP (some (p,a))).2.2)=true):=by simp[dP]
 have i:room 16 (b++[(dP (some (p,a))).1]).length=true:=cP;rw[ak f,ad i];rfl
theorem LF:∀(l:List aj) (b:List aj),(l.flatMap dB).length<=100000->b.length+l.length<=90000->hC (l.flatMap dB,b)=some (.inr (b++l))
 |[],b,_,_=>by
  rw[hC,bt];simp
 |p::l,b,af,a=>by
  rw[e6]at af⊢;rw[YJ af (by simp at a;omega),LF l _ (by rw[c2]at af;omega) (by simp at a⊢;omega)];simp
def l5:List aj->List aj->List aj
 |k::ks,v::vs=>k::v::l5 ks vs
 |_,_=>[]
theorem Hu:∀a b,gO a b=(l5 a b).flatMap dB
 |[],b=>by simp[gO,l5]
 |k::ks,[]=>by simp[gO,l5]
 |k::ks,v::vs=>by simp[gO,l5,Hu ks vs]
theorem Lj:∀a b:List aj,a.length=b.length->(l5 a b).length=a.length+b.length
 |[],[],_=>rfl
 |k::ks,v::vs,h=>by
  simp only[l5,iw];have:=Lj ks vs (by simpa using h);omega
theorem YK(p:aj):1<=(dB p).length:=by
 have:=qQ p.length;unfold dB;rw[c2];omega
theorem Jv:∀l:List aj,l.length<=(l.flatMap dB).length
 |[]=>by simp
 |p::l=>by
  have:=Jv l;have:=YK p;grind
theorem abe(f:Fd):1<=f.text.length:=by
 have:=qQ (2*f.id+(if f.c then 1 else 0));unfold Fd.text fD;rw[c2];omega
theorem Jw:∀l:List Fd,l.length<=(l.flatMap Fd.text).length
 |[]=>by simp
 |p::l=>by
  have:=Jw l;have:=abe p;grind
theorem Lk{f:Fd}:∀{l:List Fd},f∈l->f.p.length<=(l.flatMap Fd.text).length
 |g::l,h=>by
  rw[e6,c2];rcases fe.1 h with rfl|h
  . have:f.p.length<=f.text.length:=by unfold Fd.text fD dB;simp only[c2];omega
    omega
  . have:=Lk h;omega
theorem MR{d:ek}(h:WF cN ⟨.slice (.nm vo),d.ec⟩):ud d:=by
 obtain⟨a,_,c⟩:=vW (t:= .nm vo) h;refine⟨a,λx p=>?_⟩;have e:=c x p;have b:∀{n:Int},WF cN ⟨.int .u8,n⟩->c8 n:=λ{n} h=>by
  cases h with
  |int k n h=>
   simp[Lit.wf,IntKind.min,IntKind.max,IntKind.bits,IntKind.signed]at h;unfold c8;omega
 have g:=e ⟨.int .u8,x.Kind⟩ (.head _);have i:=e ⟨.int .u8,x.A⟩ (.tail _ (.head _));have j:=e ⟨.int .u8,x.B⟩ (.tail _ (.tail _ (.head _)));have l:=e ⟨.int .u8,x.C⟩ (.tail _ (.tail _ (.tail _ (.head _))));have m:=e ⟨.slice (.nm B'),x.c0⟩ (.tail _ (.tail _ (.tail _ (.tail _ (.head _)))));obtain⟨r,_,s⟩:=vW (t:= .nm B') m;refine⟨b g,b i,b j,b l,λq o=>?_,r⟩;have f:=s q o;exact⟨b (f ⟨.int .u8,q.ae⟩ (.head _)),b (f ⟨.int .u8,q.aw⟩ (.tail _ (.head _))),b (f ⟨.int .u8,q.gV⟩ (.tail _ (.tail _ (.head _))))⟩
theorem abf{d:k2}(h:∀c,c∈cN.oO V8 d->WF cN c):Ek d:=by
 have e:=h ⟨.slice (.nm vo),d.S.ec⟩ (.head _);have f:=h ⟨.int .u8,d.T⟩ (.tail _ (.head _));have g:=h ⟨.slice (.int .u8),d.C⟩ (.tail _ (.tail _ (.head _)));obtain⟨a,_,c⟩:=vW (t:= .int .u8) g;have b:∀{n:Int},WF cN ⟨.int .u8,n⟩->c8 n:=λ{n} h=>by
  cases h with
  |int k n h=>
   simp[Lit.wf,IntKind.min,IntKind.max,IntKind.bits,IntKind.signed]at h;unfold c8;omega
 exact⟨MR e,b f,λn aD=>b (c n aD ⟨.int .u8,n⟩ (.head _)),a⟩
def hK(n:Nat):aj->Nat
 |[]=>n
 |c::s=>hK (n*256+c.toNat) s
theorem QM:∀(s:aj) (n k:Nat),n<256^k->hK n s<256^(k+s.length)
 |[],n,k,h=>by simpa[hK]using h
 |c::s,n,k,h=>by
  have a:c.toNat<256:=UInt8.toNat_lt c;have h1:n*256+c.toNat<256^(k+1):=by rw[yq];omega
  have:=QM s _ (k+1) h1;simp only[hK,iw];grind
theorem agM{n:Nat}(h:n<72057594037927936):mO .u64 (n:Int) 8=((n*256:Nat):Int):=by
 unfold mO;have e:((2:Int)^min (8:Int).toNat IntKind.u64.bits)=256:=by decide
 rw[e];have:(n:Int)*256=((n*256:Nat):Int):=by push_cast;rfl
 rw[this];exact kS
theorem abW{b:Nat}(c:a<72057594037927936)(d:b<256):rC .u64 ((a*256:Nat):Int) (b:Int)=((a*256+b:Nat):Int):=by
 have e:(BitVec.ofInt 64 ((a*256:Nat):Int) ||| BitVec.ofInt 64 (b:Int)).toNat=a*256+b:=by
  rw[wq,wq,BitVec.toNat_or,wg,wg,wH,og (by omega),og (by omega)];have h:=Nat.shiftLeft_add_eq_or_of_lt (show b<2^8 by omega) a;rw[Nat.shiftLeft_eq]at h;exact h.symm
 show IntKind.u64.wrap (((BitVec.ofInt 64 ((a*256:Nat):Int) ||| BitVec.ofInt 64 (b:Int)).toNat:Nat):Int)=_;rw[e];exact kS
theorem acM:(256:Nat)^8=18446744073709551616:=by decide
theorem yN{s:aj}(hs:s.length<=8):∀(k i n:Nat),i+k=s.length->n<256^i->mm (s,(n:Int),(s.length:Int),(i:Int))=some ((hK n (s.drop i):Nat):Int)
 |0,i,n,c,aD=>by
  rw[mm,cl,ee (by omega:s.length<=i)];rfl
 |k+1,i,n,c,aD=>by
  have aB:i<s.length:=by omega
  have b:=y0 s i;have a:n<72057594037927936:=by
   have:(256:Nat)^i<=256^7:=wu (by omega) (by omega);omega
  rw[mm,bu,ad (aQ aB),agM a,qI,hv,abW a b,bD,yN hs k (i+1) _ (by omega) (by rw[yq];omega),eB aB 0];rfl
theorem Iu{s:aj}(hs:s.length<=8):∀(k i n:Nat),i+k=s.length->n<256^i->oS (s,(n:Int),(i:Int))=some ((hK n (s.drop i):Nat):Int)
 |0,i,n,a,aD=>by
  rw[oS,cl,ee (by omega:s.length<=i)];rfl
 |k+1,i,n,a,aD=>by
  have aB:i<s.length:=by omega
  have c:=y0 s i;have d:n<72057594037927936:=by
   have:(256:Nat)^i<=256^7:=wu (by omega) (by omega);omega
  have aK:gw .u64 (n:Int) 256=((n*256:Nat):Int):=tJ (b:=256) (by omega);rw[oS,bu,ad (aQ aB),aK,qI,hv,rY (by omega),bD,Iu hs k (i+1) _ (by omega) (by rw[yq];omega),eB aB 0];rfl
def hS(s:aj):Option Nat:=if s.head?=some 0\/8<s.length then none else some (hK 0 s)
theorem D7{s:aj}{n:Nat}(h:hS s=some n):n<18446744073709551616:=by
 unfold hS at h;split at h
 . cases h
 . rename_i aa;cases h;have:=QM s 0 0 (by simp);have a:(256:Nat)^(0+s.length)<=256^8:=wu (by omega) (by omega);omega
theorem DJ{s:aj}(h:s≠[]):(fq s 0=0)↔s.head?=some 0:=by
 cases s with
 |nil=>exact absurd rfl h
 |cons c s=>
  have:fq (c::s) 0=(c.toNat:Int):=qI (c::s) 0;rw[this];simp only[List.head?_cons,bF];constructor
  . intro h;exact UInt8.toNat_inj.1 (by simpa using h)
  simp_all
theorem abX(s:aj):∃r,sK s=some r/\(r.2=0->∃n,hS s=some n/\r.1=(n:Int))/\(r.2≠0->hS s=none):=by
 rw[sK];simp only[aT,ao];by_cases h0:s=[]
 . subst h0;have aK:mm ([],0,((([]:aj)).length:Int),0)=some ((hK 0 []:Nat):Int):=yN (s:=[]) (by simp) 0 0 0 rfl (by simp);refine⟨(((hK 0 []:Nat):Int),0),?_,λ_=>⟨0,rfl,rfl⟩,λh=>absurd rfl h⟩;grind
 . have e:0<s.length:=tR.2 h0;have d:aH 0 s.length=true:=aQ (k:=0) e;have c:(!(decide (s=[])))=true:=(by simp[h0]);rw[c,d];simp only[BP,bS,eo];by_cases a:fq s 0=0
   . rw[ad (by simp[a])];refine⟨_,rfl,λh=>(by cases h),λ_=>?_⟩;unfold hS;rw[ad (.inl ((DJ h0).1 a))]
   . rw[ak (by simp[a])];by_cases b:8<s.length
     . rw[bu];refine⟨_,rfl,λh=>(by cases h),λ_=>?_⟩;unfold hS;rw[ad (.inr b)]
     . have aK:mm (s,0,(s.length:Int),0)=some ((hK 0 s:Nat):Int):=yN (by omega) s.length 0 0 (by omega) (by simp);rw[cl,aK];refine⟨_,rfl,λ_=>⟨hK 0 s,?_,rfl⟩,λh=>absurd rfl h⟩;unfold hS;rw[ak]
       rintro (h|h)
       . exact a ((DJ h0).2 h)
       omega
theorem YL(s:aj):∃r,sK s=some r/\B5 s=some r/\(r.2=0->∃n,hS s=some n/\r.1=(n:Int))/\(r.2≠0->hS s=none):=by
 rw[sK,B5];simp only[aT,ao];by_cases h0:s=[]
 . subst h0;have aK:mm ([],0,((([]:aj)).length:Int),0)=some ((hK 0 []:Nat):Int):=yN (s:=[]) (by simp) 0 0 0 rfl (by simp);have c:oS ([],0,0)=some ((hK 0 []:Nat):Int):=Iu (s:=[]) (by simp) 0 0 0 rfl (by simp);refine⟨(((hK 0 []:Nat):Int),0),?_,?_,λ_=>⟨0,rfl,rfl⟩,λh=>absurd rfl h⟩
   . grind
   grind
 . have i:0<s.length:=tR.2 h0;have g:aH 0 s.length=true:=aQ (k:=0) i;have e:decide ((0:Int)<(s.length:Int))=true:=by simp;omega
   have f:(!(decide (s=[])))=true:=(by simp[h0]);rw[e,f,g];simp only[BP,bS,eo];by_cases b:fq s 0=0
   . have a:decide (fq s 0=0)=true:=(by simp[b]);rw[ad a,ad a];refine⟨_,rfl,rfl,λh=>(by cases h),λ_=>?_⟩;unfold hS;rw[ad (.inl ((DJ h0).1 b))]
   . have a:¬(decide (fq s 0=0)=true):=(by simp[b]);rw[ak a,ak a];by_cases d:8<s.length
     . have:decide ((8:Int)<(s.length:Int))=true:=by simp;omega
       rw[ad this,ad this];refine⟨_,rfl,rfl,λh=>(by cases h),λ_=>?_⟩;unfold hS;rw[ad (.inr d)]
     . have:¬(decide ((8:Int)<(s.length:Int))=true):=by simp;omega
       rw[ak this,ak this];have aK:mm (s,0,(s.length:Int),0)=some ((hK 0 s:Nat):Int):=yN (by omega) s.length 0 0 (by omega) (by simp);have c:oS (s,0,0)=some ((hK 0 s:Nat):Int):=Iu (by omega) s.length 0 0 (by omega) (by simp);rw[aK,c];refine⟨_,rfl,rfl,λ_=>⟨hK 0 s,?_,rfl⟩,λh=>absurd rfl h⟩;unfold hS;rw[ak]
       rintro (h|h)
       . exact b ((DJ h0).2 h)
       omega
def jk(n:Nat):Int:=if n%2=0 then((n/2:Nat):Int)else -((n/2:Nat):Int)-1
theorem abY{n:Int}(h:cw n):jk (gf n).toNat=n:=by
 unfold jk gf cw at*;omega
theorem acN{n:Nat}(h:n<18446744073709551616):B2 (n:Int)=some (jk n):=by
 rw[B2];have aK:b' (n:Int) 2=((n%2:Nat):Int):=Am (b:=2);have a:fv .u64 (n:Int) 2=((n/2:Nat):Int):=tT h;rw[aK,a,jC];unfold jk;by_cases h0:n%2=0
 . grind
 . have c9:df .i64 0 ((n/2:Nat):Int)= -((n/2:Nat):Int):=by rw[hG];omega
   rw[cl,ak h0,c9,hG]
theorem adV{n:Nat}(h:n<18446744073709551616):A1 .u64 (n:Int) 1=((n%2:Nat):Int):=by
 have e:(BitVec.ofInt 64 (n:Int) &&& BitVec.ofInt 64 (1:Int)).toNat=n%2:=by grind
 show IntKind.u64.wrap (((BitVec.ofInt 64 (n:Int) &&& BitVec.ofInt 64 (1:Int)).toNat:Nat):Int)=_;rw[e];exact kS
theorem agN{n:Nat}:lr .u64 (n:Int) 1=((n/2:Nat):Int):=by
 unfold lr;have:((2:Int)^min (1:Int).toNat IntKind.u64.bits)=2:=by decide
 grind
theorem aa3(h:a<9223372036854775808):ub .i64 (a:Int) 0=(a:Int):=by
 have e:(BitVec.ofInt 64 (a:Int) ^^^ BitVec.ofInt 64 (0:Int)).toNat=a:=by grind
 show IntKind.i64.wrap (((BitVec.ofInt 64 (a:Int) ^^^ BitVec.ofInt 64 (0:Int)).toNat:Nat):Int)=_;rw[e,IntKind.wrap_i64];omega
theorem aa4(h:a<9223372036854775808):ub .i64 (a:Int) (-1)= -(a:Int)-1:=by
 have e:(BitVec.ofInt 64 (a:Int) ^^^ BitVec.ofInt 64 (-1:Int)).toNat=18446744073709551615-a:=by
  have h1:BitVec.ofInt 64 (-1:Int)=BitVec.allOnes 64:=by decide
  rw[h1,wq,BitVec.xor_allOnes,BitVec.toNat_not,wg,wH,og (by omega)]
 all_goals (try omega)
 show IntKind.i64.wrap (((BitVec.ofInt 64 (a:Int) ^^^ BitVec.ofInt 64 (-1:Int)).toNat:Nat):Int)=_;rw[e,IntKind.wrap_i64];omega
theorem acO{n:Nat}(h:n<18446744073709551616):Cj (n:Int)=some (jk n):=by
 rw[Cj,agN,adV h,jC,jC,hG];unfold jk;by_cases h0:n%2=0
 . rw[ad h0,h0];have:(0:Int)-((0:Nat):Int)=0:=rfl;rw[this,aa3 (by omega)]
 . have h1:n%2=1:=(by omega);rw[ak h0,h1];have:(0:Int)-((1:Nat):Int)= -1:=rfl;rw[this,aa4 (by omega)]
def iN(p:aj):Option (List aj):=match k6 p with
 |some (l,e)=>if e=0 then some l else none
 |none=>none
def jl(p:aj):Option (List cQ):=match lG p with
 |some (l,e)=>if e=0 then some l else none
 |none=>none
def jV(p:aj):Option (Int×aj):=match lL p with
 |some (id,q,e)=>if e=0 then some (id,q)else none
 |none=>none
theorem Ll:∀(n:Nat) (s:aj) (b l:List aj),s.length<=n->s.length+b.length<=100000->hC (s,b)=some (.inr l)->∀q,q∈l->q∈b\/q.length<=s.length
 |n,s,b,l,aD,g,h=>by
  rw[hC]at h;by_cases h0:s=[]
  . grind
  . rw[ad (by simp[h0]),lP]at h;simp only[aT,ao]at h;cases a:iB s with
    |none=>
     rw[a]at h;simp[dP]at h
    |some r=>
     obtain⟨x,c⟩:=r;rw[a]at h;have af:=nB a;have d:¬((!(dP (some (x,c))).2.2)=true):=(by simp[dP]);have f:room 16 (b++[(dP (some (x,c))).1]).length=true:=cP;rw[ak d,ad f]at h;intro q e
     match n,aD with
     |0,aD=>omega
     |n+1,aD=>
      have:=Ll n c _ l (by omega) (by simp;omega) h q e;rcases this with h|h
      . rcases f'.1 h with h|h
        . exact .inl h
        . right;have:q=x:=(by simpa[dP]using h);grind
      omega
theorem Ks:∀(n:Nat) (s:aj) (last:Nat) (b l:List cQ),s.length<=n->s.length+b.length<=100000->fX ((last:Int),s,b)=some (.inr l)->
 ∃c,l=b++c/\(∀f,f∈c->f.Data.length<=s.length/\(last:Int)<f.ae/\f.ae<=1000)/\c.Pairwise (λa b=>a.ae<b.ae)
 |n,s,last,b,l,aD,v,h=>by
  rw[fX]at h;by_cases h0:s=[]
  . simp_all
  . rw[ad (by simp[h0])]at h;rcases lv s with⟨e,he,al⟩|⟨m,k,al,y,j,o⟩
    . rw[nF he al]at h;simp at h
    . rw[lO al j]at h;simp only[aT,ao,tT o]at h;by_cases w:((m/2:Nat):Int)<=(last:Int)\/1000<((m/2:Nat):Int)
      . grind
      . have:¬((bif bif (!true)then true else decide (((m/2:Nat):Int)<=(last:Int))then true else decide (1000<((m/2:Nat):Int)))=true):=(by grind);rw[ak this,lP (by rw[lW];omega)]at h;simp only[ao]at h;cases g:iB (s.drop k)with
        |none=>
         rw[g]at h;simp[dP]at h
        |some r=>
         obtain⟨x,d⟩:=r;rw[g]at h;have af:=nB g;rw[lW]at af;have p:¬((!(dP (some (x,d))).2.2)=true):=(by simp[dP]);have t:bW .i64 ((m/2:Nat):Int)=((m/2:Nat):Int):=jC;rw[ak p,t]at h;have q:room 32 (b++[(⟨((m/2:Nat):Int),decide (b' (m:Int) 2=1),(dP (some (x,d))).1⟩:cQ)]).length=true:=cP;rw[ad q]at h
         match n,aD with
         |0,aD=>omega
         |n+1,aD=>
          obtain⟨c,e,h1,u⟩:=Ks n d (m/2) _ l (by omega) (by simp;omega) h;refine⟨⟨((m/2:Nat):Int),decide (b' (m:Int) 2=1),(dP (some (x,d))).1⟩::c,by rw[e];simp,λf i=>?_,?_⟩
          . rcases fe.1 i with rfl|i
            . refine⟨by show x.length<=_;omega,by show(last:Int)<((m/2:Nat):Int);omega,by show((m/2:Nat):Int)<=1000;omega⟩
            grind
          grind
theorem zN(b:p.length<=90000):∃o,k6 p=some o/\(o.2=0->iN p=some o.1/\(∀q,q∈o.1->q.length<=p.length)/\o.1.length<=p.length)/\(o.2≠0->iN p=none):=by
 obtain⟨o,h1,a⟩:=abF b;refine⟨o,h1,λh0=>⟨?_,?_,a⟩,λh0=>?_⟩
 . unfold iN;rw[h1];grind
 . obtain⟨d,a1,_⟩:=Iq p.length p [] (by omega) (by simp;omega);rw[k6,a1]at h1;cases d with
   |inl e=>grind
   |inr l=>
    have:o=(l,0):=(lY h1).symm;subst this;intro q c;rcases Ll p.length p [] l (by omega) (by simp;omega) a1 q c with h|h
    . cases h
    . exact h
 . unfold iN;rw[h1];grind
theorem Kt(a:p.length<=90000):∃o,k6 p=some o/\vr p=some o/\(o.2=0->iN p=some o.1/\(∀q,q∈o.1->q.length<=p.length)/\o.1.length<=p.length)/\(o.2≠0->iN p=none):=by
 obtain⟨o,h1,b⟩:=zN a;exact⟨o,h1,by rw[abG a,h1],b⟩
theorem Hv(k:p.length<=90000):∃o,lG p=some o/\(o.2=0->jl p=some o.1/\(∀f,f∈o.1->f.Data.length<=p.length/\cr f.ae)/\o.1.Pairwise (λa b=>a.ae<b.ae)/\o.1.length<=p.length)/\(o.2≠0->jl p=none):=by
 obtain⟨o,h1,i⟩:=aaN k;obtain⟨d,a1,_⟩:=JF p.length p 0 [] (by omega) (by simp;omega);have key:o.2=0->(∀f,f∈o.1->f.Data.length<=p.length/\cr f.ae)/\o.1.Pairwise (λa b=>a.ae<b.ae):=by
  intro h0;have c:=h1;have g:fX (0,p,[])=some d:=a1;rw[lG,g]at c;cases d with
  |inl e=>
   have:o=([],e):=(lY c).symm;simp_all
  |inr l=>
   have:o=(l,0):=(lY c).symm;subst this;obtain⟨m,e,b1,b2⟩:=Ks p.length p 0 [] l (by omega) (by simp;omega) a1;have:l=m:=(by simpa using e);subst this;exact⟨λf j=>by have:=b1 f j;exact⟨this.1,by omega,this.2.2⟩,b2⟩
 refine⟨o,h1,λh0=>⟨?_,(key h0).1,(key h0).2,i⟩,λh0=>?_⟩
 . unfold jl;rw[h1];grind
 . unfold jl;rw[h1];grind
theorem X6(c:p.length<=90000):∃o,lG p=some o/\xT p=some o/\(o.2=0->jl p=some o.1/\(∀f,f∈o.1->f.Data.length<=p.length/\cr f.ae)/\o.1.Pairwise (λa b=>a.ae<b.ae)/\o.1.length<=p.length)/\(o.2≠0->jl p=none):=by
 obtain⟨o,h1,d⟩:=Hv c;exact⟨o,h1,by rw[aaO c,h1],d⟩
theorem Ig(p:aj):∃o,lL p=some o/\(o.2.2=0->jV p=some (o.1,o.2.1)/\o.2.1.length<=p.length/\cr o.1)/\(o.2.2≠0->jV p=none):=by
 obtain⟨o,h1⟩:=ac6 p;have key:o.2.2=0->o.2.1.length<=p.length/\cr o.1:=by
  intro h0;have a:=h1;rw[lL]at a;rcases lv p with⟨e,he,al⟩|⟨m,k,al,f,c,g⟩
  . rw[nF he al]at a;grind
  . rw[lO al c]at a;simp only[aT,ao]at a;by_cases d:(m:Int)<1\/1000<(m:Int)
    . grind
    . have b:¬((bif bif (!true)then true else decide ((m:Int)<1)then true else decide (1000<(m:Int)))=true):=(by grind);rw[ak b,jC]at a;have:o=((m:Int),p.drop k,0):=(lY a).symm;subst this;exact⟨by show(p.drop k).length<=_;rw[lW];omega,by omega,by show(m:Int)<=1000;omega⟩
 refine⟨o,h1,λh0=>⟨?_,(key h0).1,(key h0).2⟩,λh0=>?_⟩
 . unfold jV;rw[h1];grind
 . unfold jV;rw[h1];grind
theorem abg(p:aj):∃o,lL p=some o/\x9 p=some o/\(o.2.2=0->jV p=some (o.1,o.2.1)/\o.2.1.length<=p.length/\cr o.1)/\(o.2.2≠0->jV p=none):=by
 obtain⟨o,h1,a⟩:=Ig p;obtain⟨b,a1,a2⟩:=ac7 p;rw[h1]at a1;rw[<-lY a1]at a2;exact⟨o,h1,a2,a⟩
theorem MS:∀(s:aj) (n:Nat) (b:UInt8),hK n (s++[b])=hK n s*256+b.toNat
 |[],n,b=>by simp[hK]
 |a::s,n,b=>by
  simp only[rz,hK];exact MS s _ b
theorem abZ(n:Nat):hK 0 (gG n)=n:=by
 induction n using Nat.strongRecOn with
 |ind n ih=>
  rw[gG];split
  . rename_i h;subst h;rfl
  . rw[MS,ih (n/256) (by omega),k7];omega
theorem aa5:∀(n:Nat),¬(gG n).head?=some 0:=by
 intro n;induction n using Nat.strongRecOn with
 |ind n ih=>
  rw[gG];split
  . simp
  . rename_i h;have:=ih (n/256) (by omega);by_cases f:n<256
    . have:n/256=0:=(by omega);rw[this,gG,ad rfl];simp only[fR,List.head?_cons,bF];intro d;have c:=ep UInt8.toNat d;rw[k7]at c;grind
    . have e:gG (n/256)≠[]:=by rw[gG,bq];simp
      cases b:gG (n/256)with
      |nil=>exact absurd b e
      |cons a l=>rw[b]at this;simpa using this
theorem LG{n:Nat}(h:n<18446744073709551616):hS (gG n)=some n:=by
 unfold hS;have h1:=aa5 n;have a:=vX 8 n (by rw[acM];exact h)
 rw [ak (by rintro (h|h)
            . exact h1 h
            . omega),abZ]
theorem ab0{a b:List bY}(c:a.Pairwise (λx y=>x.ae<y.ae))(d:b.Pairwise (λx y=>x.ae<y.ae))(h:∀x,x∈a↔x∈b):a=b:=by
 have g:a.Nodup:=c.imp λ{x y} h e=>by subst e;omega
 have i:b.Nodup:=d.imp λ{x y} h e=>by subst e;omega
 have f:a.Perm b:=(List.perm_ext_iff_of_nodup g i).2 h;exact List.Perm.eq_of_pairwise (le:=λx y:bY=>x.ae<y.ae) (λx y _ _ h1 j=>by omega) c d f
theorem abh{l m:List I}(af:l.length=m.length)(h:∀i,i<l.length->l.getD i au=m.getD i au):l=m:=by
 apply Ft af;grind
theorem X7(p:aj):p.length<=(dB p).length:=by unfold dB;rw[c2];omega
theorem CB:∀{l:List aj},p∈l->p.length<=(l.flatMap dB).length
 |q::l,h=>by
  rw[e6,c2];rcases fe.1 h with rfl|h
  . have:=X7 p;omega
  . have:=CB h;omega
theorem Hd{ts:List ah}:∀{ms:List aS} {l:List I} {x:Fd},x∈dH ts ms l->∃j,j<ms.length/\j<l.length/\dK (ms.getD j aE) (l.getD j au)=false/\x=⟨(ms.getD j aE).ae.toNat,(ms.getD j aE).cp,bG ts (ms.getD j aE).aw (l.getD j au)⟩
 |[],l,x,h=>by
  rw[dH]at h
  . cases h
  grind
 |m::ms,[],x,h=>by
  rw[dH]at h
  . cases h
  grind
 |m::ms,v::l,x,h=>by
  rw[dH]at h;split at h
  . obtain⟨j,h1,a,b,c⟩:=Hd h;exact⟨j+1,by simpa using h1,by simpa using a,by simpa using b,by simpa using c⟩
  . rename_i d;rcases fe.1 h with rfl|h
    . exact⟨0,by simp,by simp,by simpa using d,rfl⟩
    . obtain⟨j,h1,a,b,c⟩:=Hd h;exact⟨j+1,by simpa using h1,by simpa using a,by simpa using b,by simpa using c⟩
theorem qR(h:gJ ms){a b:aS}(c:a∈ms)(d:b∈ms)(e:a.ae=b.ae):a=b:=by
 obtain⟨i,f,rfl⟩:=eZ c;obtain⟨j,g,rfl⟩:=eZ d;have key:=ru.1 h.1;grind
theorem kI{m:aS}(h:cH ms id=some m):m∈ms/\m.ae=id:=
 ⟨E9 h,by simpa using List.find?_some h⟩
theorem LH(c:gJ ms){m:aS}(h:m∈ms):cH ms m.ae=some m:=by
 cases a:cH ms m.ae with
 |none=>exact absurd rfl (nz a m h)
 |some q=>
  obtain⟨h1,b⟩:=kI a;rw[qR c h1 h b]
theorem yV{ts:List ah}{t:Int}:∀{l:List I} {x:I},x∈l->et ts t x<=eJ ts t l
 |v::l,x,h=>by
  rw[eJ];rcases fe.1 h with rfl|h
  . omega
  . have:=yV (ts:=ts) (t:=t) h;omega
theorem Lm{ts:List ah}:∀{ms:List aS} {l:List I} {j:Nat},j<ms.length->j<l.length->dK (ms.getD j aE) (l.getD j au)=false->et ts (ms.getD j aE).aw (l.getD j au)<=gU ts ms l
 |m::ms,v::l,0,_,_,a=>by
  simp only[kf]at a⊢;rw[gU,ak (by rw[a];simp)];omega
 |m::ms,v::l,j+1,h1,b,a=>by
  simp only[ye]at a⊢;have:=Lm (ts:=ts) (by simpa using h1) (by simpa using b) a;rw[gU];grind
theorem MT{l:List aj}(h:(l.flatMap dB).length<=90000):iN (l.flatMap dB)=some l:=by
 have af:=Jv l;have:=LF l [] (by omega) (by simp;omega);unfold iN;rw[k6,this];rfl
theorem abi{l:List Fd}(e:l.Pairwise (λa b=>a.id<b.id))(c:∀f,f∈l->1<=f.id/\f.id<=1000)(h:(l.flatMap Fd.text).length<=90000):jl (l.flatMap Fd.text)=some (l.map oM):=by
 have af:=Jw l;have bE:=Li l 0 [] e (λf h=>⟨by have:=c f h;omega,(c f h).2⟩) (by omega) (by simp;omega);have d:fX (0,l.flatMap Fd.text,[])=some (.inr (l.map oM)):=by simpa using bE
 unfold jl;rw[lG,d];rfl
theorem Oi{n:Nat}(h:1<=n/\n<=1000)(c:aj):jV (eE n++c)=some ((n:Int),c):=by
 unfold jV;have d:=lO (HS (n:=n) (by omega) c) (by simp);rw[lL,d];simp only[aT,ao];have a:¬(n:Int)<1:=by omega
 have b:¬(1000:Int)<(n:Int):=by omega
 rw[ak (by simp only[a,b,dp,de,dX,bV,not_false_eq_true]),jC];simp
theorem Ku{l:List I}{i:Nat}(h:i<l.length):(b7 ts t l).getD i []=bG ts t (l.getD i au):=by
 rw[DI,h3 (bG ts t) l i au [] h]
theorem HO{b n r:Nat}(h:a=1+max n b)(e:a<=r+1)(d:c<=b):c<=r:=by omega
theorem adi{b r:Nat}(h:a=1+max 1 b)(e:a<=r+1)(d:c=1):c<=r:=by omega
def rU(ts:List ah)(t:Int)(v:I):Prop:=b5 ts false t v/\bM v/\wt v<=2147483648
theorem abj{a:I}(h:bM a)(b:I):eT (Ce (a,b)) a b:=by
 obtain⟨r,h1,c⟩:=Ds h b;refine⟨r,?_,c⟩;rw[Ce];simp only[I.aU];rw[h1];rfl
theorem abk{a:I}(h:bM a)(b:I):eT (pU (a,b)) a b:=IS h b
mutual
def dw:I->I
 |⟨k,b,i,s,id,ks,a,r⟩=>⟨k,b,i,s,id,ks,AI a,if k=5 then[]else r⟩
def AI:List I->List I
 |[]=>[]
 |v::l=>dw v::AI l
end
theorem Jx:∀l:List I,AI l=l.map dw
 |[]=>by rw[AI];rfl
 |v::l=>by rw[AI,Jx l];rfl
theorem py(v:I):dw v=⟨v.Kind,v.bL,v.bc,v.bn,v.ae,v.av,v.ai.map dw,if v.Kind=5 then[]else v.Rest⟩:=by
 cases v;rw[dw,Jx]
theorem MU{l:List bY}(h:l.Pairwise λa b=>a.ae<b.ae)(n:Nat)(h1:∀x,x∈l->1<=x.ae/\x.ae<=n):l.length<=n:=by
 have key:∀(l:List bY) (m:Int),l.Pairwise (λa b=>a.ae<b.ae)->(∀x,x∈l->m<x.ae/\x.ae<=n)->m<=n->(l.length:Int)<=n-m:=by
  intro l;induction l with
  |nil=>intro m _ _ h;simp;omega
  |cons x l ih=>
   intro m e d aD;have c:=d x (.head _);have:=ih x.ae (jf.1 e).2 (λy f=>⟨(jf.1 e).1 y f,(d y (.tail _ f)).2⟩) c.2;rw[iw];omega
 have:=key l 0 h (λx c=>⟨by have:=h1 x c;omega,(h1 x c).2⟩) (by omega);omega
section
variable {ts:List ah}
theorem abl(H:dj ts)(j:b5 ts pl t v):v.av.length<=20/\v.ai.length<=20/\v.Rest.length<=1000:=by
 obtain⟨⟨l,m,n,o⟩,i⟩:=(eU _ _ _).1 j;have e:=bk (by omega:t.toNat<ts.length) aN;generalize q:ts.getD t.toNat aN=x at*;have p:=H.M x e;have g:=H.cy x e;rcases i with h|h|h|h|h|h|h|h|h
 . obtain⟨a1,a2,a3,a4,a5,a,b⟩:=h;rw[a5,a,b];simp
 . obtain⟨a1,a2,a3,a4,a5,a,b,c⟩:=h;rw[a5,a,b];simp
 . obtain⟨a1,a2,a3,a4,a5,a,b,c⟩:=h;rw[a5,a,b];simp
 . obtain⟨a1,a2,a3,a4,a5,a,b,c⟩:=h;rw[a5,a,b];simp
 . obtain⟨a1,a2,a3,a4,a5,a,b,c⟩:=h;have:=(ik.1 c).1;refine⟨by rw[a];simp,by have:=g.2.2;omega,MU b.1 1000 λy k=>?_⟩;have:=(b.2 y k).1;unfold cr at this;omega
 . obtain⟨a1,a2,a3,a4,a5,a⟩:=h;split at a
   . obtain⟨b1,b2,b3⟩:=a;rw[a5,b1,b2];simp
   . obtain⟨b1,b2,b3,b4,d,f⟩:=a;rw[a5,b4,f];simp
 . obtain⟨a1,a2,a3,a4,a5,a,b,c,a9⟩:=h;rw[a,b];simp;omega
 . obtain⟨a1,a2,a3,a4,a5,a,b,c,a9⟩:=h;rw[a];simp;omega
 . obtain⟨a1,a2,a3,a4,a5,a,b,c,a9⟩:=h;rw[a,b];simp;omega
structure Em (ts:List ah):Prop where
 T:∀t,t∈ts->eX t
 V:mZ ts
theorem dj.g(H:dj ts):Em ts:=⟨H.T,H.V⟩
inductive mW:I->Prop
 |mk (v:I) (k:v.av.length<=1000) (i:v.ai.length<=1000) (Bv:∀x,x∈v.ai->mW x):mW v
theorem mW.items(h:mW v):∀x,x∈v.ai->mW x:=by
 cases h with
 |mk _ _ _ h=>exact h
theorem Mr(f:mW v)(j:b5 ts pl t v):v.av.length<=1000/\v.ai.length<=1000/\v.Rest.length<=1000:=by
 have⟨k,i⟩:v.av.length<=1000/\v.ai.length<=1000:=by cases f with|mk _ k i _=>exact⟨k,i⟩
 refine⟨k,i,?_⟩;obtain⟨_,g⟩:=(eU _ _ _).1 j;rcases g with h|h|h|h|h|h|h|h|h
 . rw[h.2.2.2.2.2.2];simp
 . rw[h.2.2.2.2.2.2.1];simp
 . rw[h.2.2.2.2.2.2.1];simp
 . rw[h.2.2.2.2.2.2.1];simp
 . obtain⟨a1,a2,a3,a4,a5,a,b,c⟩:=h;refine MU b.1 1000 λy l=>?_;have:=(b.2 y l).1;unfold cr at this;omega
 . obtain⟨a1,a2,a3,a4,a5,a⟩:=h;split at a
   . obtain⟨b1,b2,b3⟩:=a;rw[b1];simp
   . obtain⟨b1,b2,b3,b4,d,e⟩:=a;rw[e];simp
 . rw[h.2.2.2.2.2.2.1];simp
 . obtain⟨a1,a2,a3,a4,a5,a,b,c,a9⟩:=h;rw[a];simp
 . rw[h.2.2.2.2.2.2.1];simp
def gS(x:ah)(v:I)(i:Nat):Int:=if x.Kind=5 then(x.ag.getD i aE).aw else if x.Kind=6 then((cH x.ag v.ae).getD aE).aw else x.aG
def p8(x:ah)(v:I)(i:Nat):Int:=if x.Kind=5 then(x.ag.getD i aE).ae else if x.Kind=6 then v.ae else i
theorem Di(j:b5 ts pl t v):∀i,i<v.ai.length->b5 ts pl (gS (ts.getD t.toNat aN) v i) (v.ai.getD i au):=by
 obtain⟨⟨n,o,p,q⟩,g⟩:=(eU _ _ _).1 j;generalize r:ts.getD t.toNat aN=x at*;intro i a;have d:=bk a au;unfold gS;rcases g with h|h|h|h|h|h|h|h|h
 . rw[h.2.2.2.2.2.1]at a;cases a
 . rw[h.2.2.2.2.2.1]at a;cases a
 . rw[h.2.2.2.2.2.1]at a;cases a
 . rw[h.2.2.2.2.2.1]at a;cases a
 . obtain⟨a1,a2,a3,a4,a5,b,e,c⟩:=h;rw[fu];obtain⟨b1,b2⟩:=ik.1 c;exact b2 i (by omega)
 . obtain⟨a1,a2,a3,a4,a5,b⟩:=h;rw[bq,fu];split at b
   . rename_i m k;rw[k];exact cW.1 b.2.2 _ d
   . rw[b.2.2.2.1]at a;cases a
 . obtain⟨a1,a2,a3,a4,a5,b,e,c,a9⟩:=h;rw[bq,bq];exact cW.1 a9 _ d
 . obtain⟨a1,a2,a3,a4,a5,b,e,c,a9,f,l⟩:=h;rw[bq,bq];exact cW.1 f _ d
 . obtain⟨a1,a2,a3,a4,a5,b,e,c,a9⟩:=h;rw[bq,bq];exact cW.1 a9 _ d
theorem abm(f:α->α)(l:List α){i:Nat}(a:i<l.length)(d:α):((l.take i).map f++l.drop i).set i (f (l.getD i d))=(l.take (i+1)).map f++l.drop (i+1):=by
 rw[dv a];have h1:((l.take i).map f).length=i:=by simp;omega
 rw[List.set_append_right _ _ (by omega),h1,BO,lk a,List.set_cons_zero,Fo,p4,eH a,hp];rfl
theorem abn(f:α->α)(l:List α){i:Nat}(a:i<l.length)(d:α):((l.take i).map f++l.drop i).getD i d=l.getD i d:=by
 have h1:((l.take i).map f).length=i:=by simp;omega
 rw[E8,p0 (by omega),h1,BO,lk a,dv a];rfl
theorem SN{l:List I}(af:l.length<=1000)(h:∀y,y∈l->o1 y=some (dw y)){a0 a2 a4 b0 b4:Int}{b1:Bool}{b3:aj}{r:List bY}:∀(k i:Nat),i+k=l.length->
 qW ((i:Int),a0,a1,a2,a3,a4,r,b0,b1,b2,b3,b4,ks,(l.take i).map dw++l.drop i)=some (a0,a1,a2,a3,a4,r,b0,b1,b2,b3,b4,ks,l.map dw)
 |0,i,a=>by
  rw[qW,cl,ob (by omega),ee (by omega),lX]
 |k+1,i,a=>by
  have aB:i<l.length:=by omega
  have aD:((l.take i).map dw++l.drop i).length=l.length:=by simp;omega
  rw[qW,aD,bu,ad (aQ aB),bd,bu,abn dw l aB au];simp only[I.aU];rw[h _ (bk aB au)];simp only[aT,ao,I.aU];rw[ad (aQ aB),bu,abm dw l aB au,bD];exact SN af h k (i+1) (by omega)
theorem adj(H:dj ts)(d:bM v):∀{pl:Bool} {t:Int},b5 ts pl t v->mW v:=by
 induction d with
 |mk v hs h1 f g k j l c' p q r m e=>
  intro pl t a;obtain⟨n,l2,o⟩:=abl H a;exact .mk v (by omega) (by omega) λy c=>by
   obtain⟨i,b,rfl⟩:=eZ c;have:=Di a i b;rw[dv b]at this;exact e _ c this
theorem aa6(f:bM v):∀t,mW v->b5 ts false t v->o1 v=some (dw v):=by
 induction f with
 |mk v hs h1 k m o n p c' w x z q g=>
  intro t b c;obtain⟨s,l2,u⟩:=Mr b c;have j:∀y,y∈v.ai->o1 y=some (dw y):=λy a=>by
   obtain⟨i,d,rfl⟩:=eZ a;have:=Di c i d;rw[dv d]at this;exact g _ a _ (b.items _ a) this
  have e:B9 v=some (v.Kind,v.bL,v.bc,v.bn,v.ae,v.av,v.ai,v.Rest):=by
   rw[B9];simp only[fR];rw[ad (cP (by omega) (by omega)),ad (cP (by omega) (by omega)),ad (cP (by omega) (by omega))]
  rw[o1];simp only[I.aU];rw[e,py];simp only[aT,ao];have L:=λ(r:List bY)=>SN (l:=v.ai) (by omega) j (a0:=v.Kind) (a1:=v.bL) (a2:=v.bc) (a3:=v.bn) (a4:=v.ae) (b0:=0) (b1:=false) (b2:=0) (b3:=[]) (b4:=0) (r:=r) (ks:=v.av) v.ai.length 0 (by omega);have L':∀r:List bY,qW (0,v.Kind,v.bL,v.bc,v.bn,v.ae,r,0,false,0,[],0,v.av,v.ai)=_:=L;by_cases ba:v.Kind=5
  . rw[ad (by simp[ba]),L',ad ba];rfl
  . rw[ak (by simp[ba]),L',ak ba];rfl
def qd(x:ah)(v:I):Prop:=x.Kind=4->∃y,y∈x.bg/\y.ae=v.ae
theorem Jy(d:eX x)(v:I):∃b,mv (x,v)=some b/\(b=false↔qd x v):=by
 rw[mv];unfold qd;by_cases a:x.Kind=4
 . rw[ak (by simp[a])];obtain⟨r,g,_,k⟩:=qF (t:=x) v.ae (by have:=d.1;have:=dz (ef reachBytes);omega);rw[g];refine⟨!r.2,rfl,?_⟩;rcases k with⟨j,e,f,n,rfl⟩|⟨q,rfl⟩
   . simp only[dp,true_iff];exactλ_=>⟨_,bk e dL,f⟩
   . simp only[eN,Bool.true_eq_false,false_iff];intro h;obtain⟨y,l,m⟩:=h a;obtain⟨i,c,rfl⟩:=eZ l;exact absurd m (by have:=q i c;rwa [dv c]at this)
 . rw[ad (by simp[a])];exact⟨false,rfl,by simp[a]⟩
theorem aa7(c7:∀t,t∈ts->eX t)(af:v.av.length<=1000)(c:v.av≠[]->0<=x.Key/\x.Key<ts.length):∃b,Cu ((⟨ts⟩:aR),x,v)=some b/\(b=false↔∀k,k∈v.av->qd (ts.getD x.Key.toNat aN) k):=by
 have f:∀i,i<v.av.length->∃b,mv (ts.getD x.Key.toNat aN,v.av.getD i au)=some b/\(b=false↔qd (ts.getD x.Key.toNat aN) (v.av.getD i au)):=λi a=>
  Jy (c7 _ (bk (by have:=c (by intro h;rw[h]at a;cases a);omega) aN)) _
 have o:∀i,i<v.av.length->C' (v.av.getD i au,ts,x)=(mv (ts.getD x.Key.toNat aN,v.av.getD i au)).map λb=>(b,ts,x):=λi a=>by
  rw[C'];have q:=c (by intro h;rw[h]at a;cases a);rw[ad (by simp[aH];omega)];simp only[I.aU];cases mv (ts.getD x.Key.toNat aN,v.av.getD i au)<;>rfl
 have h:=qM (λi=>pd (v.av,(v.av.length:Int),(i:Int),ts,x)) v.av.length (λi=>(mv (ts.getD x.Key.toNat aN,v.av.getD i au))==some true) (λi=>.inl ((i:Int),ts,x)) (.inr (ts,x))
  (λi a=>by
   obtain⟨b,b1,_⟩:=f i a;rw[pd,bu,ad (aQ a),bd];simp only[I.aU];rw[o i a,b1];simp only[fZ,aT,ao];rw[bD]
   cases b<;>simp)
  (by rw[pd,bt])
 have cX:pd (v.av,(v.av.length:Int),((0:Nat):Int),ts,x)=pd (v.av,(v.av.length:Int),0,ts,x):=rfl;simp only[cX]at h;rw[Cu,FZ,F2];rcases h with⟨j,h1,m,p,e⟩|⟨h1,e⟩
 . rw[e];refine⟨true,?_,?_⟩
   . have:decide ((0:Int)<=(j:Int))=true:=(by simp);simp only[aT,ao,this]
   . obtain⟨b,b1,b2⟩:=f j h1;have n:b=true:=by
      have g:(mv (ts.getD x.Key.toNat aN,v.av.getD j au)==some true)=true:=m;rw[b1]at g;simpa using g
     constructor
     . intro h;cases h
     . intro h;have:=b2.2 (h _ (bk h1 au));rw[n]at this;cases this
 . rw[e];refine⟨false,rfl,?_⟩;constructor
   . intro _ k c;obtain⟨i,a,rfl⟩:=eZ c;obtain⟨b,b1,b2⟩:=f i a;have l:(mv (ts.getD x.Key.toNat aN,v.av.getD i au)==some true)=false:=h1 i a;rw[b1]at l;have:b=false:=by cases b<;>simp_all
     rw[<-dv a (d:=au)];exact b2.1 this
   . intro _;rfl
theorem X8(e:gJ x.ag)(af:x.ag.length<=1000){m:aS}(bE:cH x.ag id=some m):∃j,j<x.ag.length/\ha (x,id)=some ((j:Int),true)/\x.ag.getD j aE=m:=by
 obtain⟨c,d⟩:=kI bE;obtain⟨r,g,k⟩:=vB (t:=x) (id:=id) (by omega);rcases k with⟨j,b,f,_,rfl⟩|⟨q,_⟩
 . exact⟨j,b,g,qR e (bk b aE) c (by rw[f,d])⟩
 . obtain⟨i,a,rfl⟩:=eZ c;exact absurd d (by have:=q i a;rwa [dv a]at this)
def kR(x:ah)(v:I)(i:Nat):List iI:=(List.range i).map λj=>(⟨gS x v j,p8 x v j⟩:iI)
theorem abo(x:ah)(v:I)(i:Nat):kR x v i++[(⟨gS x v i,p8 x v i⟩:iI)]=kR x v (i+1):=by
 unfold kR;rw[List.range_succ,p4];rfl
theorem Dx(x:ah)(v:I)(i:Nat):(kR x v i).length=i:=by unfold kR;simp
theorem adk(x:ah)(v:I){i n:Nat}(h:i<n):(kR x v n).getD i HL=⟨gS x v i,p8 x v i⟩:=by
 rw[dv (by rw[Dx];exact h)];unfold kR;simp
theorem LI(af:v.ai.length<=1000)(ba:x.Kind=5->v.ai.length<=x.ag.length)(f:x.Kind=6->0<v.ai.length->∃m,cH x.ag v.ae=some m)(c:x.Kind=6->gJ x.ag/\x.ag.length<=16):∀(k i:Nat),i+k=v.ai.length->
 nv ((v.ai.length:Int),(i:Int),x,v,kR x v i)=some (kR x v v.ai.length)
 |0,i,g=>by
  rw[nv,cl];have:i=v.ai.length:=by omega
  rw[this]
 |k+1,i,g=>by
  have ih:=LI af ba f c k (i+1) (by omega);have hs:=abo x v i;have d:∀s:iI,room 16 (kR x v i++[s]).length=true:=λs=>cP (by omega) (by simp[Dx];omega);rw[nv,bu,bD];simp only[aT,ao,I.aU];by_cases a:x.Kind=5
  . have aB:i<x.ag.length:=by have:=ba a;omega
    rw[ad (by simp[a]),ad (aQ aB),ad (aQ aB),ad (d _),bd];have e:(⟨(x.ag.getD i aE).aw,(x.ag.getD i aE).ae⟩:iI)=⟨gS x v i,p8 x v i⟩:=by unfold gS p8;rw[ad a,ad a]
    rw[e,hs];exact ih
  . rw[ak (by simp[a])];by_cases b:x.Kind=6
    . obtain⟨m,bE⟩:=f b (by omega);obtain⟨j,l,n,o⟩:=X8 (c b).1 (by have:=(c b).2;omega) bE;rw[ad (by simp[b]),n];simp only[ao];rw[ad (aQ l),ad (d _),bd,o];have e:(⟨m.aw,v.ae⟩:iI)=⟨gS x v i,p8 x v i⟩:=by unfold gS p8;rw[ak a,ad b,ak a,ad b,bE];rfl
      rw[e,hs];exact ih
    . rw[ak (by simp[b]),ad (d _)];have e:(⟨x.aG,(i:Int)⟩:iI)=⟨gS x v i,p8 x v i⟩:=by unfold gS p8;rw[ak a,ak b,ak a,ak b]
      rw[e,hs];exact ih
theorem aa8(H:iQ ts)(e:b5 ts pl t v)(af:v.ai.length<=1000):CL (ts.getD t.toNat aN,v)=some (kR (ts.getD t.toNat aN) v v.ai.length):=by
 obtain⟨⟨i,j,k,l⟩,b⟩:=(eU _ _ _).1 e;have g:=bk (by omega:t.toNat<ts.length) aN;generalize n:ts.getD t.toNat aN=x at*;rw[CL];simp only[I.aU]
 have:= LI (x:= x) (v:= v) af (λo=>by
  rcases b with h|h|h|h|h|h|h|h|h
  case inr.inr.inr.inr.inl=>have:=(ik.1 h.2.2.2.2.2.2.2).1;omega
  all_goals (have:=h.1;omega)) (λd c=>by
  rcases b with h|h|h|h|h|h|h|h|h
  case inr.inr.inr.inr.inr.inl=>
   obtain⟨a1,a2,a3,a4,a5,a⟩:=h;split at a
   . rename_i m f;exact⟨m,f⟩
   . rw[a.2.2.2.1]at c;cases c
  all_goals (have:=h.1;omega)) (λd=>H.A x g (.inr d)) v.ai.length 0 (by omega)
 have h0:nv ((v.ai.length:Int),0,x,v,[])=_:=this;rw[h0];rfl
def zeroV:I:=⟨0,false,0,[],0,[],[],[]⟩
def D8(ts:List ah)(t:Int)(v:I):Prop:=∃b,(b=true↔b5 ts true t (dw v))/\lJ ((⟨ts⟩:aR),t,v)=some (if b then(dw v,true)else(zeroV,false))
theorem LJ{x:ah}{v:I}(af:v.ai.length<=1000)(h:∀i,i<v.ai.length->D8 ts (gS x v i) (v.ai.getD i au)){z0 z2 z4 a0 a2 a4:Int}{z1 a1:Bool}{z3 a3:aj}{ks:List I}:∀(k i:Nat),i+k=v.ai.length->
 (qz (kR x v v.ai.length,(v.ai.length:Int),(i:Int),ts,v,z0,z1,z2,z3,z4,a0,a1,a2,a3,a4,ks,(v.ai.take i).map dw)=some (.inr (z0,z1,z2,z3,z4,a0,a1,a2,a3,a4,ks,v.ai.map dw))/\∀j,i<=j->j<v.ai.length->b5 ts true (gS x v j) (dw (v.ai.getD j au)))\/
 (qz (kR x v v.ai.length,(v.ai.length:Int),(i:Int),ts,v,z0,z1,z2,z3,z4,a0,a1,a2,a3,a4,ks,(v.ai.take i).map dw)=some (.inl (false,0,false,0,[],0))/\∃j,j<v.ai.length/\¬b5 ts true (gS x v j) (dw (v.ai.getD j au)))
 |0,i,f=>.inl ⟨by rw[qz,cl,ob (by omega)],λj h1 d=>by omega⟩
 |k+1,i,f=>by
  have aB:i<v.ai.length:=by omega
  obtain⟨b,b1,b2⟩:=h i aB;rw[qz,bu,ad (aQ (by rw[Dx];exact aB)),ad (aQ aB),bd,adk x v aB];simp only[I.aU];rw[b2];cases b with
  |false=>exact .inr ⟨rfl,i,aB,λq=>by have:=b1.2 q;cases this⟩
  |true=>
   have e:(v.ai.take i).map dw++[dw (v.ai.getD i au)]=(v.ai.take (i+1)).map dw:=by
    rw[Fo,p4,eH aB,dv aB];rfl
   simp only[aT,ao,bS,dp,I.aU];rw[bt,ad (cP),bD,e];rcases LJ af h (z0:=z0) (z1:=z1) (z2:=z2) (z3:=z3) (z4:=z4) (a0:=a0) (a1:=a1) (a2:=a2) (a3:=a3) (a4:=a4) (ks:=ks) k (i+1) (by omega)with⟨a,c⟩|⟨a,c⟩
   . refine .inl ⟨a,λj h1 d=>?_⟩;by_cases g:j=i
     . subst g;exact b1.1 rfl
     . exact c j (by omega) d
   . exact .inr ⟨a,c⟩
theorem abp{k:I}(g:b5 ts false t k)(h1:1<=(ts.getD t.toNat aN).Kind/\(ts.getD t.toNat aN).Kind<=4)(i:qd (ts.getD t.toNat aN) k):b5 ts true t k:=by
 obtain⟨⟨a,b,c,l⟩,f⟩:=(eU _ _ _).1 g;rw[eU];rcases f with h|h|h|h|h|h|h|h|h
 . exact⟨⟨a,b,c,λ_=>h.2.2.2.2.2.2⟩,.inl h⟩
 . exact⟨⟨a,b,c,λ_=>h.2.2.2.2.2.2.1⟩,.inr (.inl h)⟩
 . exact⟨⟨a,b,c,λ_=>h.2.2.2.2.2.2.1⟩,.inr (.inr (.inl h))⟩
 . obtain⟨a1,a2,a3,a4,a5,e,d,j⟩:=h;exact⟨⟨a,b,c,λ_=>d⟩,.inr (.inr (.inr (.inl ⟨a1,a2,a3,a4,a5,e,d,.inl (i (by omega))⟩)))⟩
 all_goals (have:=h.1;omega)
theorem Ln{k:I}(b:b5 ts true t k):qd (ts.getD t.toNat aN) k:=by
 obtain⟨⟨c,d,e,f⟩,a⟩:=(eU _ _ _).1 b;intro g;rcases a with h|h|h|h|h|h|h|h|h
 case inr.inr.inr.inl=>
  rcases h.2.2.2.2.2.2.2 with h|h
  . exact h
  . cases h.2.1
 all_goals (have:=h.1;omega)
theorem aan(x:ah)(v:I)(j:Nat):gS x (dw v) j=gS x v j:=by
 unfold gS;rw[py]
theorem Kv{l:List I}(h:j<l.length):(l.map dw).getD j au=dw (l.getD j au):=by
 rw[dv h,dv (by simpa using h)];simp
theorem aao(H:iQ ts)(C:b5 ts false t v):b5 ts true t (dw v)↔
 qd (ts.getD t.toNat aN) v/\(∀k,k∈v.av->qd (ts.getD (ts.getD t.toNat aN).Key.toNat aN) k)/\¬((ts.getD t.toNat aN).Kind=6/\v.ai.length=0)/\∀j,j<v.ai.length->b5 ts true (gS (ts.getD t.toNat aN) v j) (dw (v.ai.getD j au)):=by
 obtain⟨⟨g,l,n,L⟩,B⟩:=(eU _ _ _).1 C;have G:=bk (by omega:t.toNat<ts.length) aN;constructor
 . intro h;have D:=Di h;have E:=Ln h;have A:(dw v).ae=v.ae:=by rw[py]
   have p:(dw v).av=v.av:=by rw[py]
   have r:(dw v).ai=v.ai.map dw:=by rw[py]
   obtain⟨⟨_,_,f3,f4⟩,s⟩:=(eU _ _ _).1 h;refine⟨λz=>by have:=E z;rwa [A]at this,λk c=>?_,?_,λj o=>?_⟩
   . rcases s with h|h|h|h|h|h|h|h|h
     case inr.inr.inr.inr.inr.inr.inr.inl=>
      have:=h.2.2.2.2.2.2.2.2.1;rw[p]at this;exact Ln (cW.1 this _ c)
     case inr.inr.inr.inr.inr.inl=>have:=h.2.2.2.2.1;rw[p]at this;rw[this]at c;cases c
     case inl=>have:=h.2.2.2.2.1;rw[p]at this;rw[this]at c;cases c
     case inr.inl=>have:=h.2.2.2.2.1;rw[p]at this;rw[this]at c;cases c
     case inr.inr.inl=>have:=h.2.2.2.2.1;rw[p]at this;rw[this]at c;cases c
     case inr.inr.inr.inl=>have:=h.2.2.2.2.1;rw[p]at this;rw[this]at c;cases c
     all_goals (have:=h.2.2.2.2.2.1;rw[p]at this;rw[this]at c;cases c)
   . intro⟨O,N⟩;rcases s with h|h|h|h|h|h|h|h|h
     case inr.inr.inr.inr.inr.inl=>
      obtain⟨a1,a2,a3,a4,a5,a⟩:=h;split at a
      . have:=a.2.1;rw[r,gy]at this;omega
      . cases a.2.1
     all_goals (have:=h.1;omega)
   . have:=D j (by rw[r,gy];exact o)
     rwa [aan,r,Kv o]at this
 . intro⟨c,F,J,o⟩;rw[py,eU];dsimp only;generalize M:ts.getD t.toNat aN=x at*;rcases B with h|h|h|h|h|h|h|h|h
   . obtain⟨a1,a2,a3,a4,a5,a,b⟩:=h;rw[bq,a,b];exact⟨⟨g,l,n,λ_=>rfl⟩,.inl ⟨a1,a2,a3,a4,a5,rfl,rfl⟩⟩
   . obtain⟨a1,a2,a3,a4,a5,a,b,d⟩:=h;rw[bq,a,b];exact⟨⟨g,l,n,λ_=>rfl⟩,.inr (.inl ⟨a1,a2,a3,a4,a5,rfl,rfl,d⟩)⟩
   . obtain⟨a1,a2,a3,a4,a5,a,b,d⟩:=h;rw[bq,a,b];exact⟨⟨g,l,n,λ_=>rfl⟩,.inr (.inr (.inl ⟨a1,a2,a3,a4,a5,rfl,rfl,d⟩))⟩
   . obtain⟨a1,a2,a3,a4,a5,a,b,d⟩:=h;rw[bq,a,b];exact⟨⟨g,l,n,λ_=>rfl⟩,.inr (.inr (.inr (.inl ⟨a1,a2,a3,a4,a5,rfl,rfl,.inl (c (by omega))⟩)))⟩
   . obtain⟨a1,a2,a3,a4,a5,a,b,d⟩:=h;rw[ad a1];obtain⟨b1,b2⟩:=ik.1 d;refine⟨⟨g,l,n,λ_=>rfl⟩,.inr (.inr (.inr (.inr (.inl ⟨a1,a2,a3,a4,a5,a,⟨List.Pairwise.nil,λy f=>(by cases f)⟩,ik.2 ⟨by rw[gy];exact b1,λi e=>?_⟩⟩))))⟩;have:=o i (by omega);unfold gS at this;rw[fu]at this;rw[Kv (by omega)];exact this
   . obtain⟨a1,a2,a3,a4,a5,a⟩:=h;rw[bq];cases bE:cH x.ag v.ae with
     |none=>
      rw[bE]at a;exact absurd ⟨by omega,by rw[a.2.2.2.1];rfl⟩ J
     |some m=>
      rw[bE]at a;obtain⟨b1,b2,b3⟩:=a;refine⟨⟨g,l,n,λ_=>b1⟩,.inr (.inr (.inr (.inr (.inr (.inl ⟨a1,a2,a3,a4,a5,b1,by rw[gy];exact b2,cW.2 λy f=>?_⟩)))))⟩;obtain⟨w,q,rfl⟩:=eO.1 f;obtain⟨i,e,rfl⟩:=eZ q;have:=o i e;unfold gS at this;rw[bq,fu,bE,dv e]at this;exact this
   . obtain⟨a1,a2,a3,a4,a5,a,b,d,a9⟩:=h;rw[bq];refine⟨⟨g,l,n,λ_=>b⟩,.inr (.inr (.inr (.inr (.inr (.inr (.inl ⟨a1,a2,a3,a4,a5,a,b,by rw[gy];exact d,cW.2 λy f=>?_⟩))))))⟩;obtain⟨w,q,rfl⟩:=eO.1 f;obtain⟨i,e,rfl⟩:=eZ q;have:=o i e;unfold gS at this;rw[bq,bq,dv e]at this;exact this
   . obtain⟨a1,a2,a3,a4,a5,a,b,d,a9,K,u⟩:=h;rw[bq];refine⟨⟨g,l,n,λ_=>a⟩,.inr (.inr (.inr (.inr (.inr (.inr (.inr (.inl ⟨a1,a2,a3,a4,a5,a,b,by rw[gy];exact d,cW.2 λy f=>abp (cW.1 a9 y f) (H.rV x G (by omega)) (F y f),cW.2 λy f=>?_,u⟩)))))))⟩;obtain⟨w,q,rfl⟩:=eO.1 f;obtain⟨i,e,rfl⟩:=eZ q;have:=o i e;unfold gS at this;rw[bq,bq,dv e]at this;exact this
   . obtain⟨a1,a2,a3,a4,a5,a,b,d,a9⟩:=h;rw[bq];refine⟨⟨g,l,n,λ_=>b⟩,.inr (.inr (.inr (.inr (.inr (.inr (.inr (.inr ⟨a1,a2,a3,a4,a5,a,b,by rw[gy];exact d,cW.2 λy f=>?_⟩)))))))⟩;obtain⟨w,q,rfl⟩:=eO.1 f;obtain⟨i,e,rfl⟩:=eZ q;have:=o i e;unfold gS at this;rw[bq,bq,dv e]at this;exact this
theorem aap(c:b5 ts pl t v):v.av≠[]->0<=(ts.getD t.toNat aN).Key/\(ts.getD t.toNat aN).Key<ts.length:=by
 obtain⟨_,b⟩:=(eU _ _ _).1 c;intro aD;rcases b with h|h|h|h|h|h|h|h|h
 case inr.inr.inr.inr.inr.inr.inr.inl=>
  obtain⟨a1,a2,a3,a4,a5,f,g,i,a9,_⟩:=h;cases a:v.av with
  |nil=>exact absurd a aD
  |cons k l=>
   have:=cW.1 a9 k (by rw[a];exact .head _);obtain⟨⟨d,e,_⟩,_⟩:=(eU _ _ _).1 this;exact⟨d,e⟩
 case inl=>exact absurd h.2.2.2.2.1 aD
 case inr.inl=>exact absurd h.2.2.2.2.1 aD
 case inr.inr.inl=>exact absurd h.2.2.2.2.1 aD
 case inr.inr.inr.inl=>exact absurd h.2.2.2.2.1 aD
 case inr.inr.inr.inr.inr.inl=>exact absurd h.2.2.2.2.1 aD
 all_goals exact absurd h.2.2.2.2.2.1 aD
theorem aaq(H:Em ts)(Q:bM v):∀t,mW v->b5 ts false t v->D8 ts t v:=by
 have S:=H.V.ic H.T;induction Q with
 |mk v hs h1 w ag aj ah ak c' ap aq ar al R=>
  intro t g c;obtain⟨am,l2,an⟩:=Mr g c;obtain⟨⟨Z,aa,ab,af⟩,_⟩:=(eU _ _ _).1 c;have p:t.toNat<ts.length:=by omega
  have M:=bk p aN;have e:=aao S c;have N:=aa8 S c (by omega);have L:∀i,i<v.ai.length->D8 ts (gS (ts.getD t.toNat aN) v i) (v.ai.getD i au):=λi o=>R _ (bk o au) _ (g.items _ (bk o au)) (Di c i o);obtain⟨Y,s1,C⟩:=Jy (H.T _ M) v;obtain⟨X,u,B⟩:=aa7 H.T (x:=ts.getD t.toNat aN) (v:=v) (by omega) (aap c);generalize m:ts.getD t.toNat aN=x at*;have k:∀(P:Prop),¬b5 ts true t (dw v)->lJ ((⟨ts⟩:aR),t,v)=some (zeroV,false)->D8 ts t v:=λ_ h1 w=>⟨false,by simp[h1],by rw[w];rfl⟩
  have l:aH t ts.length=true:=by simp[aH];omega
  have O:∀b,(bif decide (x.Kind=6)then decide ((v.ai.length:Int)=0)else false)=b->(b=true↔x.Kind=6/\v.ai.length=0):=by
   intro b J;rw[<-J];by_cases F:x.Kind=6<;>simp[F]
  obtain⟨D,s⟩:∃b,(bif decide (x.Kind=6)then decide ((v.ai.length:Int)=0)else false)=b:=⟨_,rfl⟩
  have z:=O D s;cases Y with
  |true=>
   refine k True (λh=>?_) ?_
   . have:=C.2 (e.1 h).1;cases this
   . rw[lJ,ad l];simp only[aT,ao,I.aU,m];rw[s1];rfl
  |false=>
   cases X with
   |true=>
    refine k True (λh=>?_) ?_
    . have:=B.2 (e.1 h).2.1;cases this
    . rw[lJ,ad l];simp only[aT,ao,I.aU,m];rw[s1];simp only[ao,eN,bS];rw[u];rfl
   |false=>
    cases D with
    |true=>
     refine k True (λh=>(e.1 h).2.2.1 (z.1 rfl)) ?_;rw[lJ,ad l];simp only[aT,ao,I.aU,m];rw[s1];simp only[ao,eN,bS];rw[u,s];rfl
    |false=>
     have g:=LJ (x:=x) (v:=v) (by omega) L (z0:=0) (z1:=false) (z2:=0) (z3:=[]) (z4:=0) (a0:=v.Kind) (a1:=v.bL) (a2:=v.bc) (a3:=v.bn) (a4:=v.ae) (ks:=v.av) v.ai.length 0 (by omega)
     have y:∀ f,qz (kR x v v.ai.length,(v.ai.length:Int),0,ts,v,0,false,0,[],0,v.Kind,v.bL,v.bc,v.bn,v.ae,v.av,[]) = some f->lJ ((⟨ts⟩:aR),t,v) = (match f with
      |.inl d=>some ((⟨d.2.1,d.2.2.1,d.2.2.2.1,d.2.2.2.2.1,d.2.2.2.2.2,[],[],[]⟩:I),d.1)
      |.inr a=>some ((⟨a.2.2.2.2.2.1,a.2.2.2.2.2.2.1,a.2.2.2.2.2.2.2.1,a.2.2.2.2.2.2.2.2.1,a.2.2.2.2.2.2.2.2.2.1,a.2.2.2.2.2.2.2.2.2.2.1,a.2.2.2.2.2.2.2.2.2.2.2,[]⟩:I),true)):=by
      intro f G;rw[lJ,ad l];simp only[aT,ao,I.aU,m];rw[s1];simp only[ao,eN,bS];rw[u,s];simp only[ao,dX];have K:fC 120 v.av=some v.av:=by unfold fC;rw[ad (nI (cP (by omega) (by omega)))]
      rw[bt,K];simp only[ao];rw[N];simp only[ao,Dx];rw[G];cases f<;>rfl
     rcases g with⟨n,E⟩|⟨n,j,U,W⟩
     . have A:b5 ts true t (dw v):=e.2 ⟨C.1 rfl,B.1 rfl,λh=>(by have:=z.2 h;cases this),λj p=>E j (h' _) p⟩;refine⟨true,by simp[A],?_⟩;rw[y _ n,ad rfl];have r:(dw v).Rest=[]:=by
        obtain⟨⟨_,_,_,q⟩,_⟩:=(eU _ _ _).1 A;exact q rfl
       have:(⟨v.Kind,v.bL,v.bc,v.bn,v.ae,v.av,v.ai.map dw,[]⟩:I)=dw v:=by
        rw[py]at r⊢;dsimp only at r;rw[r]
       show some ((⟨v.Kind,v.bL,v.bc,v.bn,v.ae,v.av,v.ai.map dw,[]⟩:I),true)=_;rw[this]
     . refine k True (λh=>W ((e.1 h).2.2.2 j U)) ?_;rw[y _ n];rfl
end
theorem Lo(g:bM v):bM (dw v):=by
 induction g with
 |mk v hs h1 c d e n f c' k l m o j=>
  rw[py];have b:∀x,x∈(if v.Kind=5 then[]else v.Rest)->x∈v.Rest:=λx a=>by
   by_cases ba:v.Kind=5
   . rw[ad ba]at a;cases a
   . rwa [ak ba]at a
  refine .mk _ hs h1 (by show(v.ai.map dw).length<=_;rw[gy];exact c) ?_ e (λx a=>?_) (λx a=>f x (b x a)) c' k l (λx a=>m x (b x a))
  . show(if v.Kind=5 then[]else v.Rest).length<=_;by_cases ba:v.Kind=5
    . rw[ad ba];exact h' _
    . rw[ak ba];exact d
  . obtain⟨w,i,rfl⟩:=eO.1 a;exact j w i
theorem aar(H:Em ts)(a:bM v)(d:mW v)(c:b5 ts false t v):
 ∃b,(b=true↔b5 ts true t (dw v))/\u2 ((⟨ts⟩:aR),t,v)=some (if b then(dw v,0)else(zeroV,12))/\vu ((⟨ts⟩:aR),t,v)=some (if b then(dw v,0)else(zeroV,12)):=by
 have S:=H.V.ic H.T;obtain⟨b,b1,b2⟩:=aaq H a t d c;obtain⟨_,f⟩:=YI H.T H.V a c;obtain⟨v1,_⟩:=px H.T H.V;obtain⟨⟨u,w,_⟩,_⟩:=(eU _ _ _).1 c;have k:¬(bif decide (t<0)then true else decide ((ts.length:Int)<=t))=true:=by
  have h1:¬t<0:=by omega
  have i:¬(ts.length:Int)<=t:=by omega
  simp[h1,i]
 have m:C1 ((⟨ts⟩:aR),t)=some 0:=by
  rw[C1];simp only[Ki];rw[v1];simp only[aT,ao];rw[bt,ak k]
 have bE:tF ((⟨ts⟩:aR),t,v)=some true:=by
  obtain⟨q,o,p⟩:=K7 (by have:=S.n;omega) H.T S.K a t false;obtain⟨x,e,s⟩:=yM (by have:=S.n;omega) H.T S.K a t false;have g:x=q:=by rw[p]at e;exact(lY e).symm
  have l:q=true:=by rw[<-g];exact s.2 c
  rw[tF];simp only[I.aU];rw[o,l];rfl
 have j:C2 ((⟨ts⟩:aR),t,v)=some 0:=by
  rw[C2];simp only[I.aU];rw[m];simp only[aT,ao];rw[bt,bE];rfl
 refine⟨b,b1,?_,?_⟩
 . rw[u2];simp only[I.aU];rw[j];simp only[aT,ao];rw[bt,b2];cases b<;>simp[zeroV,I.aU]
 . rw[vu];simp only[I.aU];rw[f];simp only[aT,ao];rw[bt,aa6 a t d c];simp only[ao,I.aU];obtain⟨q,r,y⟩:=X5 (by have:=S.n;omega) H.T S.K (Lo a) t;rw[r];have:q=b:=by
    cases q<;>cases b<;>simp_all
   subst this;cases q<;>simp[zeroV]
theorem YM(H:dj ts)(c:bM v)(a:b5 ts false t v):
 ∃b,(b=true↔b5 ts true t (dw v))/\u2 ((⟨ts⟩:aR),t,v)=some (if b then(dw v,0)else(zeroV,12))/\vu ((⟨ts⟩:aR),t,v)=some (if b then(dw v,0)else(zeroV,12)):=aar H.g c (adj H c a) a
def cn{α c:Type}(f:α->Option c):List α->Option (List c)
 |[]=>some []
 |a::l=>match f a,cn f l with
  |some b,some m=>some (b::m)
  |_,_=>none
def fc{α:Type}:List α->List α
 |a::_::l=>a::fc l
 |_=>[]
def fl{α:Type}:List α->List α
 |_::b::l=>b::fl l
 |_=>[]
def oG(ks:List I):Bool:=(List.range (ks.length-1)).all λi=>decide (gT (ks.getD i au) (ks.getD (i+1) au)<0)
theorem vY:oG ks=true↔jL ks:=by
 unfold oG jL;grind
def cZ(ts:List ah):Nat->Int->aj->Option I
 |0,_,_=>none
 |n+1,t,p=>
  let x:=ts.getD t.toNat aN
  if x.Kind=1 then(if p=[]then some ⟨1,false,0,[],0,[],[],[]⟩else if p=[1]then some ⟨1,true,0,[],0,[],[],[]⟩else none)else if x.Kind=2 then(match hS p with
   |some m=>if x.bA<=jk m/\jk m<=x.bC then some ⟨2,false,jk m,[],0,[],[],[]⟩else none
   |none=>none)
  else if x.Kind=3 then(if(p.length:Int)<=x.Max then some ⟨3,false,0,p,0,[],[],[]⟩else none)else if x.Kind=4 then(match hS p with
   |some m=>if 1<=m/\m<=1000/\((x.bg.any λy=>decide (y.ae=(m:Int)))||x.Open)=true then some ⟨4,false,0,[],(m:Int),[],[],[]⟩else none
   |none=>none)
  else if x.Kind=9 then(match p with
   |[]=>some ⟨9,false,0,[],0,[],[],[]⟩
   |c::q=>if c=1 then(cZ ts n x.aG q).map λv=>⟨9,false,0,[],0,[],[v],[]⟩else none)
  else if x.Kind=6 then(match jV p with
   |some (id,q)=>(match cH x.ag id with
    |some m=>(cZ ts n m.aw q).map λv=>⟨6,false,0,[],id,[],[v],[]⟩
    |none=>if x.Open then some ⟨6,false,0,[],id,[],[],[⟨id,q⟩]⟩else none)
   |none=>none)
  else if x.Kind=7 then(match iN p with
   |some l=>if(l.length:Int)<=x.Max then(cn (cZ ts n x.aG) l).map λa=>⟨7,false,0,[],0,[],a,[]⟩else none
   |none=>none)
  else if x.Kind=8 then(match iN p with
   |some l=>if l.length%2 = 0/\((l.length/2:Nat):Int)<=x.Max then (match cn (cZ ts n x.Key) (fc l) with
    |some ks=>if oG ks then(cn (cZ ts n x.aG) (fl l)).map λa=>⟨8,false,0,[],0,ks,a,[]⟩else none
    |none=>none)else none
   |none=>none)
  else(match jl p with
   |some l=>(match cn (λm:aS=>match l.find? (λf=>decide (f.ae = m.ae)) with
    |some f=>cZ ts n m.aw f.Data
    |none=>if m.bZ then some m.bw else none) x.ag with
    |some a=>if(l.all λf=>(cH x.ag f.ae).isSome || !f.cp) then some ⟨5,false,0,[],0,[],a,(l.filter λf=>!(cH x.ag f.ae).isSome).map λf=>⟨f.ae,f.Data⟩⟩else none
    |none=>none)
   |none=>none)
section
variable {ts:List ah}
def fG(ts:List ah)(b1:aq)(b2:Int)(path:aq)(o:Option I)(r:Option (I×Bool×List ah×aq×Int×aq)):Prop:=
 (∀v,o=some v->r=some (v,true,ts,b1,b2,path))/\(o=none->∃w f1 f2,r=some (w,false,ts,f1,f2,path))
theorem zO(b:path.length<=1000)(a:Int)(b1:aq)(b2:Int):hB (a,ts,b1,b2,path)=some ((⟨0,false,0,[],0,[],[],[]⟩:I),false,ts,a,path,path):=by
 rw[hB];unfold tg fC;rw[ad (nI (cP (by omega) (by omega)))];simp
theorem vZ{step:Int}{o:Option I}(e:path.length<=1000)(h:fG ts b1 b2 (path++[step]) o (oU (t,p,ts,b1,b2,path++[step]))):
 fG ts b1 b2 path o (iZ (step,t,p,ts,b1,b2,path)):=by
 have key:∀w b f1 f2,oU (t,p,ts,b1,b2,path++[step])=some (w,b,ts,f1,f2,path++[step])->iZ (step,t,p,ts,b1,b2,path)=some (w,b,ts,f1,f2,path):=by
  intro w b f1 f2 a;rw[iZ];simp only[aT,ao];rw[ad (cP),a];simp only[ao,I.aU];have aK:df .i64 ((path++[step]).length:Int) 1=(path.length:Int):=by rw[hG (by simp<;>omega) (by simp<;>omega)];simp
  rw[aK];have d:dS 0 (path.length:Int) (path++[step]).length=true:=iK.2 (by simp;omega);simp_all
 refine⟨λv c=>key _ _ _ _ (h.1 v c),λaD=>?_⟩;obtain⟨w,f1,f2,a⟩:=h.2 aD;exact⟨w,f1,f2,key _ _ _ _ a⟩
theorem tH{c:Type}{f:α->Option c}:∀{l:List α} {m:List c},cn f l=some m->m.length=l.length
 |[],m,h=>by rw[cn]at h;cases h;rfl
 |a::l,m,h=>by
  rw[cn]at h;split at h
  . rename_i b e h1 d;cases h;rw[iw,iw,tH d]
  . cases h
theorem LK{l:List aj}(af:l.length<=90000)(h:∀q,q∈l->∀step b1 b2,fG ts b1 b2 path (f q) (iZ (step,x.aG,q,ts,b1,b2,path)))
 {z0 z2 z4 a0 a2 a4:Int}{z1 a1:Bool}{z3 a3:aj}{b1:aq}{b2:Int}:∀(k i:Nat) (acc:List I),i+k=l.length->acc.length=i->
 (∀m,cn f (l.drop i)=some m->sT (l,(l.length:Int),(i:Int),ts,b1,b2,x,z0,z1,z2,z3,z4,a0,a1,a2,a3,a4,path,acc)=some (.inr (ts,b1,b2,z0,z1,z2,z3,z4,a0,a1,a2,a3,a4,path,acc++m)))/\
 (cn f (l.drop i)=none->∃w f1 f2,sT (l,(l.length:Int),(i:Int),ts,b1,b2,x,z0,z1,z2,z3,z4,a0,a1,a2,a3,a4,path,acc)=some (.inl (false,ts,f1,f2,w,path)))
 |0,i,acc,d,c=>by
  rw[sT,cl,ee (by omega),cn];grind
 |k+1,i,acc,d,c=>by
  have aB:i<l.length:=by omega
  have a:=h _ (bk aB []) (i:Int) b1 b2;have e:l.drop i=l.getD i []::l.drop (i+1):=by rw[dv aB];exact lk aB
  rw[sT,bu,ad (aQ aB),bd,e,cn];cases b:f (l.getD i [])with
  |none=>
   obtain⟨w,f1,f2,n⟩:=a.2 b;simp_all
  |some v=>
   rw[a.1 v b];simp only[aT,ao,I.aU,dp];rw[bt,ad (cP),bD];obtain⟨o,j⟩:=LK af h (z0:=z0) (z1:=z1) (z2:=z2) (z3:=z3) (z4:=z4) (a0:=a0) (a1:=a1) (a2:=a2) (a3:=a3) (a4:=a4) (b1:=b1) (b2:=b2) k (i+1) (acc++[v]) (by omega) (by simp;omega);cases hs:cn f (l.drop (i+1))with
   |none=>exact⟨λm g=>by simp at g,λ_=>j hs⟩
   |some p=>grind
end
theorem Dj{l:List I}{i:Nat}(a:i<l.length):l.set i (l.getD i au)=l:=by simp_all
theorem Lp{a0 a2 a4 z0 z2 z4:Int}{l l2:List I}{r:List bY}(af:l.length<=5000000000000)(h:∀y,y∈l->jI y=some y):∀(k i:Nat),i+k=l.length->
 sD ((l.length:Int),(i:Int),a0,a1,a2,a3,a4,z0,z1,z2,z3,z4,l,l2,r)=some (a0,a1,a2,a3,a4,z0,z1,z2,z3,z4,l,l2,r)
 |0,i,a=>by rw[sD,cl]
 |k+1,i,a=>by
  have aB:i<l.length:=by omega
  rw[sD,bu,ad (aQ aB),bd,bu];simp only[I.aU];rw[h _ (bk aB au)];simp only[aT,ao,I.aU];rw[ad (aQ aB),bu,bD,Dj aB];exact Lp af h k (i+1) (by omega)
theorem Lq{a0 a2 a4 z0 z2 z4:Int}{l l2:List I}{r:List bY}(af:l.length<=5000000000000)(h:∀y,y∈l->jI y=some y):∀(k i:Nat),i+k=l.length->
 sE ((l.length:Int),(i:Int),a0,a1,a2,a3,a4,z0,z1,z2,z3,z4,l,l2,r)=some (a0,a1,a2,a3,a4,z0,z1,z2,z3,z4,l2,l,r)
 |0,i,a=>by rw[sE,cl]
 |k+1,i,a=>by
  have aB:i<l.length:=by omega
  rw[sE,bu,ad (aQ aB),bd,bu];simp only[I.aU];rw[h _ (bk aB au)];simp only[aT,ao,I.aU];rw[ad (aQ aB),bu,bD,Dj aB];exact Lq af h k (i+1) (by omega)
theorem mS:∀l:List I,l.length<=cI l
 |[]=>by simp
 |v::l=>by
  rw[hb,fx,iw];have:=mS l;omega
theorem LL(l:List bY):l.length<=(l.map λx=>x.Data.length+1).sum:=by
 induction l with
 |nil=>simp
 |cons a l ih=>simp only[gz,oj,iw];omega
theorem vT{k n:Nat}(a:k<=1000:=by omega)(h:n<=1000000000:=by omega):room k n=true:=by
 unfold room j8 eG;simp only[cd,dn];refine⟨?_,by omega⟩;have:(2*n+192)*k<=2000000192*1000:=Nat.mul_le_mul (by omega) a;omega
theorem aas(j:bM v):wt v<=1000000000->jI v=some v:=by
 induction j with
 |mk v hs h1 o p s q t c' A B C m k=>
  intro u;have w:=fx v;have x:=mS v.av;have l2:=mS v.ai;have z:=LL v.Rest;have kk:∀y,y∈v.av->jI y=some y:=λy a=>m y a (by have:=e' a;omega);have n:∀y,y∈v.ai->jI y=some y:=λy a=>k y a (by have:=e' a;omega);have f:fC 120 v.av=some v.av:=by unfold fC;rw[ad (nI (vT))]
  have g:fC 120 v.ai=some v.ai:=by unfold fC;rw[ad (nI (vT))]
  have i:fC 24 v.Rest=some v.Rest:=by unfold fC;rw[ad (nI (vT))]
  have b:=Lp (a0:=v.Kind) (a1:=v.bL) (a2:=v.bc) (a3:=v.bn) (a4:=v.ae) (z0:=0) (z1:=false) (z2:=0) (z3:=[]) (z4:=0) (l:=v.av) (l2:=v.ai) (r:=v.Rest) (by omega) kk v.av.length 0 (by omega);have d:=Lq (a0:=v.Kind) (a1:=v.bL) (a2:=v.bc) (a3:=v.bn) (a4:=v.ae) (z0:=0) (z1:=false) (z2:=0) (z3:=[]) (z4:=0) (l:=v.ai) (l2:=v.av) (r:=v.Rest) (by omega) n v.ai.length 0 (by omega);have c:sD ((v.av.length:Int),0,v.Kind,v.bL,v.bc,v.bn,v.ae,0,false,0,[],0,v.av,v.ai,v.Rest)=_:=b;have e:sE ((v.ai.length:Int),0,v.Kind,v.bL,v.bc,v.bn,v.ae,0,false,0,[],0,v.ai,v.av,v.Rest)=_:=d;rw[jI,f,g,i];simp only[aT,ao];rw[c];simp only[ao];rw[e];simp only[ao];cases v;rfl
section
variable {ts:List ah}
def wQ(ts:List ah)(n:Nat):Prop:=∀(t:Int) (p:aj) (b1:aq) (b2:Int) (path:aq),0<=t->t<ts.length->p.length<=4096->path.length+n=200->
 fG ts b1 b2 path (cZ ts n t p) (oU (t,p,ts,b1,b2,path))
theorem jJ(a:path.length<=1000)(b:Int)(b1:aq)(b2:Int):fG ts b1 b2 path none (hB (b,ts,b1,b2,path)>>=λr=>some (I.eta r.1,r.2.1,r.2.2.1,r.2.2.2.2.2,r.2.2.2.1,r.2.2.2.2.1)):=by
 refine⟨λv h=>(by cases h),λ_=>?_⟩;rw[zO a];simp_all
theorem E3(c:gJ x.ag)(af:x.ag.length<=1000){m:aS}(bE:cH x.ag id=some m):∃j,j<x.ag.length/\ha (x,id)=some ((j:Int),true)/\x.ag.getD j aE=m:=by
 obtain⟨b,e⟩:=kI bE;obtain⟨r,f,g⟩:=vB (t:=x) (id:=id) (by omega);rcases g with⟨j,a,d,_,rfl⟩|⟨q,_⟩
 . exact⟨j,a,f,qR c (bk a aE) b (by rw[d,e])⟩
 . obtain⟨i,k,rfl⟩:=eZ b;grind
theorem aat(H:iQ ts){n:Nat}(ih:wQ ts n)(l:x∈ts)(c:x.Kind=6)(c7:∀m,m∈x.ag->0<=m.aw/\m.aw<ts.length)(F:p.length<=4096)(G:path.length+(n+1)=200):
 fG ts b1 b2 path (match jV p with
  |some (id,q)=>(match cH x.ag id with
   |some m=>(cZ ts n m.aw q).map λv=>⟨6,false,0,[],id,[],[v],[]⟩
   |none=>if x.Open then some ⟨6,false,0,[],id,[],[],[⟨id,q⟩]⟩else none)
  |none=>none) (B4 (x,p,ts,b1,b2,path)):=by
 obtain⟨o,u,y,z⟩:=Ig p;rw[B4,u];simp only[aT,ao];by_cases h0:o.2.2=0
 . obtain⟨v1,J,v3⟩:=y h0;rw[ak (by simp[h0]),v1];dsimp only;obtain⟨g,D⟩:=H.A x l (.inr c);cases bE:cH x.ag o.1 with
   |some m=>
    obtain⟨j,a,b,s⟩:=E3 g (by omega) bE;rw[b];simp only[ao];rw[ad trivial,ad (aQ a),bd,s];obtain⟨t1,t2⟩:=c7 m (kI bE).1;have d:=vZ (step:=o.1) (path:=path) (by omega) (ih m.aw o.2.1 b1 b2 (path++[o.1]) t1 t2 (by omega) (by simp;omega));cases e:cZ ts n m.aw o.2.1 with
    |none=>
     obtain⟨w,f1,f2,k⟩:=d.2 e;rw[k];exact⟨λv h=>by simp at h,λ_=>⟨_,_,_,rfl⟩⟩
    |some v=>
     rw[d.1 v e]
     exact⟨λf h=>by
      have:f=⟨6,false,0,[],o.1,[],[v],[]⟩:=(by simpa using h.symm);rw[this]
      simp[I.aU,c],λh=>by simp at h⟩
   |none=>
    obtain⟨r,B,C⟩:=vB (t:=x) (id:=o.1) (by omega);have i:r=(0,false):=by
     rcases C with⟨j,a,b,_,_⟩|⟨_,q⟩
     . exact absurd b (nz bE _ (bk a aE))
     . exact q
    rw[B,i];cases E:x.Open with
    |false=>
     simp only[ao,bV,b6,eN,bS,eq_self];exact jJ (by omega) _ _ _
    |true=>
     simp only[ao,bV,b6,dp,bS,eq_self];exact⟨λf h=>(by cases h;rw[c]),λh=>(by cases h)⟩
 . rw[ad (by simp[h0]),z h0];exact jJ (by omega) _ _ _
end
theorem Kw{l:List α}(h:2*j+1<l.length)(d:α):fc (l.drop (2*j))=l.getD (2*j) d::fc (l.drop (2*(j+1))):=by
 rw[lk (by omega:2*j<l.length),lk h,fc,dv (by omega)];rfl
theorem Lr{l:List α}(h:2*j+1<l.length)(d:α):fl (l.drop (2*j))=l.getD (2*j+1) d::fl (l.drop (2*(j+1))):=by
 rw[lk (by omega:2*j<l.length),lk h,fl,dv h];rfl
theorem O0{i:Nat}(h:i<1000000):aM .i64 (i:Int) 2=((i+2:Nat):Int):=by
 have:=vE (a:=i) (b:=2) (by omega);exact this
section
variable {ts:List ah}
theorem LM{l:List aj}(af:l.length<=90000)(he:l.length%2=0)(h:∀q,q∈l->∀step b1 b2,fG ts b1 b2 path (f q) (iZ (step,x.Key,q,ts,b1,b2,path)))
 {z0 z2 z4 a0 a2 a4:Int}{z1 a1:Bool}{z3 a3:aj}{b1:aq}{b2:Int}:∀(k j:Nat) (acc:List I),2*(j+k)=l.length->acc.length=j->
 (∀m,cn f (fc (l.drop (2*j)))=some m->sj (l,((2*j:Nat):Int),ts,b1,b2,x,z0,z1,z2,z3,z4,a0,a1,a2,a3,a4,path,acc)=some (.inr (l,ts,b1,b2,x,z0,z1,z2,z3,z4,a0,a1,a2,a3,a4,path,acc++m)))/\
 (cn f (fc (l.drop (2*j)))=none->∃w f1 f2,sj (l,((2*j:Nat):Int),ts,b1,b2,x,z0,z1,z2,z3,z4,a0,a1,a2,a3,a4,path,acc)=some (.inl (false,ts,f1,f2,w,path)))
 |0,j,acc,e,d=>by
  rw[sj,cl,ee (by omega),show fc ([]:List aj)=[]from rfl,cn];grind
 |k+1,j,acc,e,d=>by
  have aB:2*j<l.length:=by omega
  have a:=h _ (bk aB []) (fv .i64 ((2*j:Nat):Int) 2) b1 b2;rw[sj,bu,ad (aQ aB),bd,Kw (by omega) [],cn];cases b:f (l.getD (2*j) [])with
  |none=>
   obtain⟨w,f1,f2,n⟩:=a.2 b;simp_all
  |some v=>
   rw[a.1 v b];simp only[aT,ao,I.aU,dp];rw[bt,ad (cP),O0 (by omega)];obtain⟨o,i⟩:=LM af he h (z0:=z0) (z1:=z1) (z2:=z2) (z3:=z3) (z4:=z4) (a0:=a0) (a1:=a1) (a2:=a2) (a3:=a3) (a4:=a4) (b1:=b1) (b2:=b2) k (j+1) (acc++[v]) (by omega) (by simp;omega);have c:2*j+2=2*(j+1):=(by omega);rw[c];cases hs:cn f (fc (l.drop (2*(j+1))))with
   |none=>exact⟨λm g=>by simp at g,λ_=>i hs⟩
   |some p=>grind
theorem KH{l:List aj}(af:l.length<=90000)(he:l.length%2=0)(h:∀q,q∈l->∀step b1 b2,fG ts b1 b2 path (f q) (iZ (step,x.aG,q,ts,b1,b2,path)))
 {z0 z2 z4 a0 a2 a4:Int}{z1 a1:Bool}{z3 a3:aj}{b1:aq}{b2:Int}{ks:List I}:∀(k j:Nat) (acc:List I),2*(j+k)=l.length->acc.length=j->
 (∀m,cn f (fl (l.drop (2*j)))=some m->sP (l,((2*j+1:Nat):Int),ts,b1,b2,x,z0,z1,z2,z3,z4,a0,a1,a2,a3,a4,path,ks,acc)=some (.inr (ts,b1,b2,z0,z1,z2,z3,z4,a0,a1,a2,a3,a4,path,ks,acc++m)))/\
 (cn f (fl (l.drop (2*j)))=none->∃w f1 f2,sP (l,((2*j+1:Nat):Int),ts,b1,b2,x,z0,z1,z2,z3,z4,a0,a1,a2,a3,a4,path,ks,acc)=some (.inl (false,ts,f1,f2,w,path)))
 |0,j,acc,e,d=>by
  rw[sP,cl,ee (by omega),show fl ([]:List aj)=[]from rfl,cn];grind
 |k+1,j,acc,e,d=>by
  have aB:2*j+1<l.length:=by omega
  have a:=h _ (bk aB []) (fv .i64 ((2*j+1:Nat):Int) 2) b1 b2;rw[sP,bu,ad (aQ aB),bd,Lr aB [],cn];cases b:f (l.getD (2*j+1) [])with
  |none=>
   obtain⟨w,f1,f2,n⟩:=a.2 b;simp_all
  |some v=>
   rw[a.1 v b];simp only[aT,ao,I.aU,dp];rw[bt,ad (cP),O0 (by omega)];obtain⟨o,i⟩:=KH af he h (z0:=z0) (z1:=z1) (z2:=z2) (z3:=z3) (z4:=z4) (a0:=a0) (a1:=a1) (a2:=a2) (a3:=a3) (a4:=a4) (b1:=b1) (b2:=b2) (ks:=ks) k (j+1) (acc++[v]) (by omega) (by simp;omega);have c:2*j+1+2=2*(j+1)+1:=(by omega);rw[c];cases hs:cn f (fl (l.drop (2*(j+1))))with
   |none=>exact⟨λm g=>by simp at g,λ_=>i hs⟩
   |some p=>grind
theorem adl{a b:I}(c:cw a.bc)(d:cw b.bc):pO (a,b)=some (gT a b):=by
 obtain⟨r,e,f⟩:=CA c d;have:=nl c d;grind
theorem Mt{x:ah}(c:path.length<=1000){l:List aj}(a:∀y,y∈ks->cw y.bc)(af:ks.length<=90000)
 {z0 z2 z4 a0 a2 a4:Int}{z1 a1:Bool}{z3 a3:aj}{b1:aq}{b2:Int}:∀(k i:Nat),ks.length-(i+1)=k->
 ((∀m,i<=m->m+1<ks.length->gT (ks.getD m au) (ks.getD (m+1) au)<0)/\qs (l,((i+1:Nat):Int),ts,b1,b2,x,z0,z1,z2,z3,z4,a0,a1,a2,a3,a4,path,ks)=some (.inr (l,ts,b1,b2,x,z0,z1,z2,z3,z4,a0,a1,a2,a3,a4,path,ks)))\/
 ((∃m,m+1<ks.length/\¬gT (ks.getD m au) (ks.getD (m+1) au)<0)/\∃w f1 f2,qs (l,((i+1:Nat):Int),ts,b1,b2,x,z0,z1,z2,z3,z4,a0,a1,a2,a3,a4,path,ks)=some (.inl (false,ts,f2,w,path,f1)))
 |0,i,d=>by
  rw[qs,cl];grind
 |k+1,i,d=>by
  have aB:i+1<ks.length:=by omega
  have aK:df .i64 ((i+1:Nat):Int) 1=(i:Int):=by rw[hG];omega
  rw[qs,bu,aK];simp only[aT,ao];rw[ad (aQ (by omega)),bu,ad (aQ aB),bu,bd,bd];simp only[I.aU];rw[adl (a _ (bk (by omega) au)) (a _ (bk aB au))];simp only[ao];by_cases b:gT (ks.getD i au) (ks.getD (i+1) au)<0
  . rw[ak (by simpa using b),bD];rcases Mt c a af (x:=x) (l:=l) (z0:=z0) (z1:=z1) (z2:=z2) (z3:=z3) (z4:=z4) (a0:=a0) (a1:=a1) (a2:=a2) (a3:=a3) (a4:=a4) (b1:=b1) (b2:=b2) k (i+1) (by omega)with⟨h1,e⟩|h
    . grind
    grind
  . rw[ad (by simpa using b),zO c];grind
theorem Mu{m:Nat}(h:m<18446744073709551616):cw (jk m):=by
 unfold jk cw;omega
theorem lS:cw 0:=by unfold cw;omega
def l9(o:Option I):Prop:=∀v,o=some v->cw v.bc
theorem l9.ite{c:Prop}[Decidable c]{a b:Option I}(e:c->l9 a)(f:¬c->l9 b):l9 (if c then a else b):=by grind
theorem l9.no:l9 none:=λv h=>(by cases h)
theorem l9.zero{k i:Int}{b:Bool}{s:aj}{a:List I}{r:List bY}:l9 (some ⟨k,b,0,s,i,ks,a,r⟩):=λv h=>(by cases h;exact lS)
theorem l9.map{α:Type}{o:Option α}{k i:Int}{b:Bool}{s:aj}{ks a:α->List I}{r:List bY}:l9 (o.map λv=>⟨k,b,0,s,i,ks v,a v,r⟩):=λv h=>by obtain⟨_,_,rfl⟩:=oa.1 h;exact lS
theorem LN{n:Nat}(h:cZ ts n t p=some v):cw v.bc:=by
 have key:l9 (cZ ts n t p):=by
  cases n with
  |zero=>unfold cZ;exact .no
  |succ n=>
   unfold cZ;refine .ite (λ_=>.ite (λ_=>.zero) λ_=>.ite (λ_=>.zero) λ_=>.no) λ_=>?_;refine .ite (λ_=>?_) λ_=>?_
   . cases b:hS p with
     |none=>exact .no
     |some m=>exact .ite (λ_=>λv h=>(by cases h;exact Mu (D7 b))) λ_=>.no
   refine .ite (λ_=>.ite (λ_=>.zero) λ_=>.no) λ_=>?_;refine .ite (λ_=>?_) λ_=>?_
   . cases b:hS p with
     |none=>exact .no
     |some m=>exact .ite (λ_=>.zero) λ_=>.no
   refine .ite (λ_=>?_) λ_=>?_
   . cases p with
     |nil=>exact .zero
     |cons c q=>exact .ite (λ_=>.map) λ_=>.no
   refine .ite (λ_=>?_) λ_=>?_
   . cases jV p with
     |none=>exact .no
     |some a=>
      obtain⟨id,q⟩:=a;dsimp only;cases cH (ts.getD t.toNat aN).ag id with
      |none=>exact .ite (λ_=>.zero) λ_=>.no
      |some m=>exact .map
   refine .ite (λ_=>?_) λ_=>?_
   . cases iN p with
     |none=>exact .no
     |some l=>exact .ite (λ_=>.map) λ_=>.no
   refine .ite (λ_=>?_) λ_=>?_
   . cases iN p with
     |none=>exact .no
     |some l=>
      refine .ite (λ_=>?_) λ_=>.no;cases cn (cZ ts n (ts.getD t.toNat aN).Key) (fc l)with
      |none=>exact .no
      |some ks=>exact .ite (λ_=>.map) λ_=>.no
   . cases jl p with
     |none=>exact .no
     |some l=>
      dsimp only;split
      . exact .ite (λ_=>.zero) λ_=>.no
      . exact .no
 exact key v h
theorem v7{d:Type}{f:α->Option d}:∀{l:List α} {m:List d},cn f l=some m->∀y,y∈m->∃a,a∈l/\f a=some y
 |[],m,h,y,c=>by rw[cn]at h;cases h;cases c
 |a::l,m,h,y,c=>by
  rw[cn]at h;split at h
  . rename_i b k h1 e;cases h;rcases fe.1 c with rfl|c
    . grind
    . obtain⟨g,i,j⟩:=v7 e y c;grind
  . cases h
theorem DK:∀{l:List α} {y:α},y∈fc l->y∈l
 |[],y,h=>by cases h
 |[_],y,h=>by cases h
 |a::b::l,y,h=>by
  rcases fe.1 h with rfl|h
  . grind
  . exact .tail _ (.tail _ (DK h))
theorem Hw:∀(l:List α),(fc l).length<=l.length
 |[]=>ef _
 |[_]=>h' _
 |a::b::l=>by
  show(fc l).length+1<=l.length+1+1;have:=Hw l;omega
theorem Rj(h:a<1000000):fv .i64 (a:Int) 2=((a/2:Nat):Int):=by
 unfold fv;have e:(a:Int).tdiv 2=((a/2:Nat):Int):=by rw[yu (by omega)];omega
 rw[e];exact jC
theorem adm{n:Nat}(ih:wQ ts n)(J:x.Kind=8)(bH:0<=x.Key/\x.Key<ts.length)(dR:0<=x.aG/\x.aG<ts.length)(P:p.length<=4096)(Q:path.length+(n+1)=200):
 fG ts b1 b2 path (match iN p with
  |some l=>if l.length%2 = 0/\((l.length/2:Nat):Int)<=x.Max then (match cn (cZ ts n x.Key) (fc l) with
   |some ks=>if oG ks then(cn (cZ ts n x.aG) (fl l)).map λs=>(⟨8,false,0,[],0,ks,s,[]⟩:I)else none
   |none=>none)else none
  |none=>none) (yx (x,p,ts,b1,b2,path)):=by
 obtain⟨o,M,N,O⟩:=zN (p:=p) (by omega);rw[yx,M];simp only[aT,ao];by_cases h0:o.2=0
 . obtain⟨v1,z,v3⟩:=N h0;rw[v1];dsimp only;have G:b' (o.1.length:Int) 2=((o.1.length%2:Nat):Int):=by rw[hc];omega
   rw[G,Rj (by omega)];by_cases he:o.1.length%2=0
   . have b:¬(bif (!(decide (o.2=0)))then true else(!(decide (((o.1.length%2:Nat):Int)=0))))=true:=(by grind);rw[ak b];by_cases t:((o.1.length/2:Nat):Int)<=x.Max
     . rw[ad (show o.1.length%2=0/\((o.1.length/2:Nat):Int)<=x.Max from⟨he,t⟩),ak (show ¬decide (x.Max<((o.1.length/2:Nat):Int))=true by simp only[dn];omega)];have D:∀q,q∈o.1->∀step b1 b2,fG ts b1 b2 path (cZ ts n x.Key q) (iZ (step,x.Key,q,ts,b1,b2,path)):=λq k step b1 b2=>
        vZ (by omega) (ih x.Key q b1 b2 (path++[step]) bH.1 bH.2 (by have:=z q k;omega) (by simp;omega))
       have j:∀q,q∈o.1->∀step b1 b2,fG ts b1 b2 path (cZ ts n x.aG q) (iZ (step,x.aG,q,ts,b1,b2,path)):=λq k step b1 b2=>
        vZ (by omega) (ih x.aG q b1 b2 (path++[step]) dR.1 dR.2 (by have:=z q k;omega) (by simp;omega))
       obtain⟨gB,c⟩:=LM (x:=x) (l:=o.1) (by omega) he D (z0:=0) (z1:=false) (z2:=0) (z3:=[]) (z4:=0) (a0:=x.Kind) (a1:=false) (a2:=0) (a3:=[]) (a4:=0) (b1:=b1) (b2:=b2) (o.1.length/2) 0 [] (by omega) rfl;have d0:o.1.drop (2*0)=o.1:=rfl;rw[d0]at gB c;have z0:((2*0:Nat):Int)=0:=rfl;rw[z0]at gB c;cases hs:cn (cZ ts n x.Key) (fc o.1)with
       |none=>
        obtain⟨w,f1,f2,r⟩:=c hs;rw[r];exact⟨λv h=>(by cases h),λ_=>⟨_,_,_,rfl⟩⟩
       |some ks=>
        rw[gB ks hs];simp only[ao,fR];have E:∀y,y∈ks->cw y.bc:=λy H=>by
         obtain⟨a,_,C⟩:=v7 hs y H;exact LN C
        have F:ks.length<=90000:=by
         have:=tH hs;have:=Hw o.1;omega
        have B:=Mt (ts:=ts) (x:=x) (path:=path) (by omega) (l:=o.1) E F (z0:=0) (z1:=false) (z2:=0) (z3:=[]) (z4:=0) (a0:=x.Kind) (a1:=false) (a2:=0) (a3:=[]) (a4:=0) (b1:=b1) (b2:=b2) _ 0 rfl;have z1:((0+1:Nat):Int)=1:=rfl;rw[z1]at B;rcases B with⟨A,d⟩|⟨⟨m,K,L⟩,w,f1,f2,d⟩
        . have g:oG ks=true:=vY.2 λi j=>A i (h' _) j;rw[ad g,d];simp only[ao];obtain⟨e,f⟩:=KH (x:=x) (l:=o.1) (by omega) he j (z0:=0) (z1:=false) (z2:=0) (z3:=[]) (z4:=0) (a0:=x.Kind) (a1:=false) (a2:=0) (a3:=[]) (a4:=0) (b1:=b1) (b2:=b2) (ks:=ks) (o.1.length/2) 0 [] (by omega) rfl;rw[d0]at e f;have z2:((2*0+1:Nat):Int)=1:=rfl;rw[z2]at e f;cases u:cn (cZ ts n x.aG) (fl o.1)with
          |none=>
           obtain⟨w,f1,f2,r⟩:=f u;rw[r];exact⟨λv h=>(by cases h),λ_=>⟨_,_,_,rfl⟩⟩
          |some s=>
           rw[e s u];exact⟨λv h=>(by cases h;simp[J]),λh=>(by cases h)⟩
        . have g:¬oG ks=true:=λh=>L (vY.1 h m K);rw[ak g,d];exact⟨λv h=>(by cases h),λ_=>⟨I.eta w,f1,f2,rfl⟩⟩
     . rw[ak (show ¬(o.1.length%2=0/\((o.1.length/2:Nat):Int)<=x.Max)fromλh=>t h.2),ad (show decide (x.Max<((o.1.length/2:Nat):Int))=true by simp only[dn];omega)];exact jJ (by omega) _ _ _
   . have b:(bif (!(decide (o.2=0)))then true else(!(decide (((o.1.length%2:Nat):Int)=0))))=true:=(by grind);rw[ak (show ¬(o.1.length%2=0/\((o.1.length/2:Nat):Int)<=x.Max)fromλh=>he h.1),ad b];exact jJ (by omega) _ _ _
 . have b:(bif (!(decide (o.2=0)))then true else(!(decide (b' (o.1.length:Int) 2=0))))=true:=(by simp[h0]);rw[ad b,O h0];exact jJ (by omega) _ _ _
theorem aau{l:List cQ}(m:aS)(af:l.length<=90000):(∃j,j<l.length/\l.find? (λf=>decide (f.ae=m.ae))=some (l.getD j gj)/\xE (l,m)=some ((j:Int),m))\/
 (l.find? (λf=>decide (f.ae=m.ae))=none/\xE (l,m)=some (-1,m)):=by
 have h:=qM (λi=>pe (l,(l.length:Int),(i:Int),m)) l.length (λi=>decide ((l.getD i gj).ae=m.ae)) (λi=>.inl ((i:Int),m)) (.inr m)
  (λi a=>by
   rw[pe,bu,ad (aQ a)];simp only[aT,ao,bd,I.aU,F4]
   rw[bD])
  (by rw[pe,bt];simp only[jw])
 have cX:pe (l,(l.length:Int),((0:Nat):Int),m)=pe (l,(l.length:Int),0,m):=rfl;simp only[cX]at h;rw[xE];simp only[jw];rcases h with⟨j,h1,c,d,b⟩|⟨h1,b⟩
 . left;refine⟨j,h1,?_,by rw[b];simp only[aT,ao,jw]⟩;rw[dv h1]at c⊢;rw[BQ];refine⟨c,j,h1,rfl,λk g=>?_⟩;have:=d k g;rw[dv (by omega)]at this;simpa using this
 . right;refine⟨?_,by rw[b];simp only[aT,ao,jw]⟩;rw[yg];intro f e;obtain⟨i,a,rfl⟩:=eZ e;have:=h1 i a;rw[dv a]at this;simpa using this
def w1{a:Type}:Option a->Option (List a)->Option (List a)
 |some b,some m=>some (b::m)
 |_,_=>none
theorem vb{b:Type}(f:α->Option b)(a:α)(l:List α):cn f (a::l)=w1 (f a) (cn f l):=by rfl
def ei(f:Int->aj->Option I)(l:List cQ)(m:aS):Option I:=match l.find? (λf=>decide (f.ae=m.ae))with
 |some g=>f m.aw g.Data
 |none=>if m.bZ then some m.bw else none
theorem LO {x:ah}{path:aq}(F:path.length<=900){f:Int->aj->Option I}{l:List cQ}(af:l.length<=90000)(B:x.ag.length<=16)
 (s:∀m,m∈x.ag->m.bZ=true->jI m.bw=some m.bw)
 (h:∀m,m∈x.ag->∀q,q∈l->∀step b1 b2,fG ts b1 b2 path (f m.aw q.Data) (iZ (step,m.aw,q.Data,ts,b1,b2,path)))
 {z0 z2 z4 a0 a2 a4:Int}{z1 a1:Bool}{z3 a3:aj}{b1:aq}{b2:Int}:∀(k i:Nat) (acc:List I),i+k=x.ag.length->acc.length=i->
 (∀m,cn (ei f l) (x.ag.drop i)=some m->mG (l,x.ag,(x.ag.length:Int),(i:Int),ts,b1,b2,x,z0,z1,z2,z3,z4,a0,a1,a2,a3,a4,path,acc)=some (.inr (l,ts,b1,b2,x,z0,z1,z2,z3,z4,a0,a1,a2,a3,a4,path,acc++m)))/\
 (cn (ei f l) (x.ag.drop i)=none->∃w f1 f2,mG (l,x.ag,(x.ag.length:Int),(i:Int),ts,b1,b2,x,z0,z1,z2,z3,z4,a0,a1,a2,a3,a4,path,acc)=some (.inl (false,ts,f1,f2,w,path)))
 |0,i,acc,E,D=>by
  rw[mG,cl,ee (by omega),cn];grind
 |k+1,i,acc,E,D=>by
  have aB:i<x.ag.length:=by omega
  have u:=bk aB aE;have e:x.ag.drop i=x.ag.getD i aE::x.ag.drop (i+1):=by rw[dv aB];exact lk aB
  have go:∀v,(∀n,cn (ei f l) (x.ag.drop (i+1))=some n->mG (l,x.ag,(x.ag.length:Int),((i+1:Nat):Int),ts,b1,b2,x,z0,z1,z2,z3,z4,a0,a1,a2,a3,a4,path,acc++[v])=some (.inr (l,ts,b1,b2,x,z0,z1,z2,z3,z4,a0,a1,a2,a3,a4,path,acc++[v]++n)))/\(cn (ei f l) (x.ag.drop (i+1))=none->∃w f1 f2,mG (l,x.ag,(x.ag.length:Int),((i+1:Nat):Int),ts,b1,b2,x,z0,z1,z2,z3,z4,a0,a1,a2,a3,a4,path,acc++[v])=some (.inl (false,ts,f1,f2,w,path))):=λv=>
   LO F af B s h k (i+1) (acc++[v]) (by omega) (by simp;omega)
  rw [mG,bu,ad (aQ aB),bd,e,vb];simp only [aT,ao,jw];generalize x.ag.getD i aE = a at *;have z:∀ (v:I) (d:Option _),ei f l a = some v->d = mG (l,x.ag,(x.ag.length:Int),((i+1:Nat):Int),ts,b1,b2,x,z0,z1,z2,z3,z4,a0,a1,a2,a3,a4,path,acc++[v])->
   (∀m,w1 (ei f l a) (cn (ei f l) (x.ag.drop (i+1)))=some m->d=some (.inr (l,ts,b1,b2,x,z0,z1,z2,z3,z4,a0,a1,a2,a3,a4,path,acc++m)))/\
   (w1 (ei f l a) (cn (ei f l) (x.ag.drop (i+1)))=none->∃w f1 f2,d=some (.inl (false,ts,f1,f2,w,path))):=by
   intro v d c C;obtain⟨H,A⟩:=go v;rw[c,C];cases hs:cn (ei f l) (x.ag.drop (i+1))with
   |none=>exact⟨λm b=>(by cases b),λ_=>A hs⟩
   |some n=>
    refine⟨λm b=>?_,λh=>(by cases h)⟩;have:m=v::n:=(by cases b;rfl)
    grind
  rcases aau a af with⟨j,y,g,r⟩|⟨g,r⟩
  . rw[r];simp only[ao];rw[hM,ad (aQ y),bd];have t:=h a u _ (bk y gj) a.ae b1 b2;have p:ei f l a=f a.aw (l.getD j gj).Data:=by unfold ei;rw[g]
    cases c:f a.aw (l.getD j gj).Data with
    |none=>
     obtain⟨w,f1,f2,G⟩:=t.2 c;rw[G,p,c];exact⟨λm b=>(by cases b),λ_=>⟨w,f1,f2,by simp[I.aU]⟩⟩
    |some v=>
     rw[t.1 v c];simp only[ao,I.aU,dp];rw[bt,ad (cP),bD];grind
  . rw[r];simp only[ao];rw[bt];cases o:a.bZ with
    |true=>
     rw[ad rfl];simp only[I.aU];rw[s a u o];simp only[ao,I.aU];rw[ad (cP),bD];exact z a.bw _ (by unfold ei;rw[g];simp[o]) rfl
    |false=>
     have p:ei f l a=none:=by unfold ei;rw[g];simp[o]
     rw[bt,ad (cP),zO (by simp;omega),p];simp only[ao,I.aU];have aK:df .i64 ((path++[a.ae]).length:Int) 1=(path.length:Int):=by rw[hG (by simp<;>omega) (by simp<;>omega)];simp
     rw[aK,ad (iK.2 (by simp;omega)),hM,bd];exact⟨λm b=>(by cases b),λ_=>⟨_,_,_,by simp;exact⟨rfl,rfl,rfl⟩⟩⟩
end
end
end Go.Proofs.YtdjagncoefjfeaaGreat
