/- The functions of the program as functions of Lean, that its code does what they say, and what they answer; part C. -/
import Derived.Test.YtdjagncoefjfeaaGreatCsB

namespace Go.Proofs.YtdjagncoefjfeaaGreat
set_option linter.all false
section
open Go Go.Proofs.YtdjagncoefjfeaaGreat.Shv Go.Sort
set_option maxRecDepth 100000
def lD(v:I):Prop:=(v.Kind=1\/v.bM=false)/\(v.Kind=2\/v.bd=0)/\(v.Kind=3\/v.bl=[])/\((v.Kind=4\/v.Kind=6)\/v.af=0)/\(v.Kind=8\/v.av=[])/\(5<=v.Kind\/v.ai=[])/\((v.Kind=5\/v.Kind=6)\/v.Rest=[])
theorem aaS(v:I):dj (sK v) (lD v):=by
 rw[sK];refine .of ?_;unfold lD;have e:∀{α:Type} (l:List α),((l.length:Int)=0)↔l=[]:=λl=>by simp_all
 grind
variable{P:Prop}{o:Option Bool}{id t code b2:Int}{v:I}{α:Type}{Ms ms:List aU}{x:ah}{w j c a:Nat}{ts:List ah}{odd pl a1:Bool}{p a3:aj}{ks:List I}{path b1:aq}{f:aj->Option I}
variable{Q:Prop}{z3:aj}{z1:Bool}
theorem aea{z b:Bool}{c:Prop}(d:z=true↔c)(a:b=false↔Q)(e:dj o P):dj (if(bif (bif false then true else(!z))then true else b)then some false else o) (c/\Q/\P):=by
 obtain⟨r,rfl,h⟩:=e;cases z with
 |false=>
  refine⟨false,rfl,?_⟩;grind
 |true=>
  cases b with
  |true=>refine⟨false,rfl,?_⟩;simp at a;simp[a]
  |false=>refine⟨r,rfl,?_⟩;simp at d a;simp[d,a,h]
theorem uv{q:Bool}(c:q=true↔Q)(a:dj o P):dj (some q>>=λt244=>(if t244 then o else some false)>>=λb=>some (bif t244 then b else false)) (Q/\P):=by
 obtain⟨r,rfl,h⟩:=a;refine⟨q&&r,by cases q<;>cases r<;>rfl,?_⟩;grind
theorem adT{A:Bool}{f L:Option Bool}{c e d:Prop}(a:A=true↔c)(j:dj f e)(g:A=true->dj L d):
 dj (some (!A)>>=λt107=>(if !t107 then f else some false)>>=λk=>if(bif t107 then true else(!k)) then some false else L) (c/\e/\d):=by
 obtain⟨q,rfl,b⟩:=j;cases A with
 |false=>refine⟨false,rfl,?_⟩;simp at a;simp[a]
 |true=>
  obtain⟨m,rfl,i⟩:=g rfl;cases q with
  |false=>refine⟨false,rfl,?_⟩;simp at b;simp[b]
  |true=>refine⟨m,rfl,?_⟩;simp at a b;simp[a,b,i]
theorem adU{c:Bool}{j g L:Option Bool}{d e oz f:Prop}(m:c=false↔d)(b:dj j e)(a:dj g oz)(l:dj L f):
 dj (some c>>=λt239=>(if !t239 then j else some false)>>=λo=>some (bif t239 then true else(!o))>>=λt249=>(if !t249 then g else some false)>>=λp=>if(bif t249 then true else(!p)) then some false else L) (d/\e/\oz/\f):=by
 obtain⟨k,rfl,b⟩:=b;obtain⟨i,rfl,a⟩:=a;obtain⟨q,rfl,n⟩:=l;rw[<-m,<-b,<-a,<-n];cases c<;>cases k<;>cases i<;>exact⟨_,rfl,by simp⟩
theorem CT{l:List c6}{r:Int×Bool}(h:vU l id r):r.2=true↔∃y,y∈l/\y.af=id:=by
 rcases h with⟨j,h1,b,c,rfl⟩|⟨h1,rfl⟩
 . grind
 . constructor
   . grind
   . rintro ⟨y,a,he⟩
     obtain⟨i,d,rfl⟩:=eS a;grind
section
variable {ts:List ah}(aD:ts.length<9223372036854775807)(c':∀t,t∈ts->eZ t)(bI:∀t,t∈ts->n1 t.Kind)
include aD c' bI in
theorem y7(aB:bH v):Eh ts v:=by
 induction aB with
 |mk v hs h1 aa ab ay aJ aK db aL aM aO aE X=>
  intro t pl;rw[iJ];by_cases ag:(bif decide (t<0)then true else decide (((⟨ts⟩:aQ).Types.length:Int)<=t))=true
  . rw[ad ag];refine⟨false,rfl,?_⟩;rw[eO];grind
  . rw[al ag];have ax:0<=t/\t<ts.length:=(by grind);obtain⟨j,rfl⟩:∃j:Nat,t=(j:Int):=⟨t.toNat,by omega⟩
    have T:j<ts.length:=(by omega);rw[ad (aN T)];simp only[eO,a',I.aO];have V:=c' _ (bh T aP);have U:=bI _ (bh T aP);generalize ts.getD j aP=x at V U⊢;have F:=dy (im V.gU);have ah:=dy (im V.syms);by_cases D:v.Kind=x.Kind
    . obtain⟨z,z1,z2⟩:=aaS v;have Q:=Mm (ts:=ts) aa X;have az:=Mm (ts:=ts) h1 aE;show dj ((if !(!(v.Kind=x.Kind:Bool)) then sK v else some false)>>=_) _;rw[ad (by simp[D]),z1];obtain⟨K,N,L,H,M,S,Ms,u,E,l⟩:=x;obtain⟨n,B,cy,w,af,p,i,R⟩:=v;simp only at D;subst D;simp only at U F ah h1 aa ab z1;have J:(bif pl then decide (0<(R.length:Int))else false)=false↔(pl=true->R=[]):=(by simp_all);have av:n=1\/n=2\/n=3\/n=4\/n=5\/n=6\/n=7\/n=8\/n=9:=by unfold n1 at U;omega
      have cut:∀ {o:Option Bool} {P W:Prop},dj o P->((lD ⟨n,B,cy,w,af,p,i,R⟩/\(pl = true->R = [])/\P) ↔ W)->
       dj (some z>>=λr=>if(bif (bif false then true else(!r))then true else bif pl then (0<(R.length:Int):Bool)else false) then some false else o) W:=λaA aD=>(aea z2 J aA).imp aD
      have s:(0:Int)<=j/\(j:Int)<ts.length:=ax;rcases av with rfl|rfl|rfl|rfl|rfl|rfl|rfl|rfl|rfl
      . exact cut (P:=True) (.of (b:=true) (by simp)) (by unfold lD;simp[s];grind)
      . exact cut (P:=L<=cy/\cy<=H) (.of (b:=bif decide (L<=cy)then decide (cy<=H)else false) (by by_cases g:L<=cy<;>simp[g])) (by unfold lD;simp[s];grind)
      . exact cut (P:=(w.length:Int)<=M) (.of (b:=decide ((w.length:Int)<=M)) (by simp)) (by unfold lD;simp[s];grind)
      . obtain⟨r,_,Y,O⟩:=pr (t:=⟨4,N,L,H,M,S,Ms,u,E,l⟩) af ah;have ae:jv (af,false)=some (bif decide (1<=af)then decide (af<=1000)else false):=(by rfl);have an:=ES Y l pl _ (λb=>jv (af,b)) ae;have hs:=CT O;simp only at hs;refine cut (P:=(∃y,y∈S/\y.af=af)\/l=true/\pl=false/\cr af) ⟨_,an,?_⟩ (by unfold lD;simp[s];grind);rw[<-hs];unfold cr;grind
      . refine cut (P:=i.length=Ms.length/\ke Ms R/\hv ts pl Ms i) ?_ (by
         have:hv ts pl Ms i->i.length=Ms.length:=λh=>(h4.1 h).1
         unfold lD;simp[s];grind)
        exact adT (A:=decide ((i.length:Int)=(Ms.length:Int))) (by simp;omega) (aaQ (t:=⟨5,N,L,H,M,S,Ms,u,E,l⟩) F ab) (λao=>Yz (ts:=ts) (t:=⟨5,N,L,H,M,S,Ms,u,E,l⟩) (v:=⟨5,B,cy,w,af,p,i,R⟩) (Kn ao) F X pl)
      . obtain⟨r,_,Y,O⟩:=mD (t:=⟨6,N,L,H,M,S,Ms,u,E,l⟩) af F;have ae:∀b,b=false->jv (af,b)=some (bif decide (1<=af)then decide (af<=1000)else false):=by
         intro b J;subst J;rfl
        have ap:decide ((R.length:Int)=1)=true->aH 0 R.length=true:=by
         intro h;have:=gV h;exact aN (k:=0) (by omega)
        refine cut (P:=match cD Ms af with
         |some m=>R=[]/\i.length=1/\eT ts pl m.au i
         |none=>l=true/\pl=false/\cr af/\i=[]/\∃d,R=[⟨af,d⟩]) ?_ (by
          unfold lD;simp[s]
          grind)
        obtain⟨aR,kn⟩:=r;show dj (hC (⟨6,N,L,H,M,S,Ms,u,E,l⟩,af)>>=_) _;rw[Y];rcases tM O with⟨e,k,ai,aj,C,aF⟩|⟨e,C⟩
        . simp only at e ai aj C aF;subst e;subst aj;rw[C];have aq:∃f:Bool,((bif decide ((i.length:Int)=1)then decide ((R.length:Int)=0)else false)=true->iJ ((⟨ts⟩:aQ),(Ms.getD (k:Int).toNat aC).au,i.getD (0:Int).toNat ar,pl)=some f)/\(i.length=1->(f=true↔eT ts pl (Ms.getD k aC).au i)):=by
           by_cases G:i.length=1
           . obtain⟨f,f1,f2⟩:=X (i.getD 0 ar) (bh (by omega:0<i.length) ar) (Ms.getD k aC).au pl;refine⟨f,λ_=>f1,λ_=>?_⟩;rw[f2]
             match i,G with
             |[y],_=>rw[cU];simp
           . refine⟨false,λh=>?_,λh=>absurd h G⟩;grind
          obtain⟨f,f1,f2⟩:=aq;have aw:(bif decide ((i.length:Int)=1)then decide ((R.length:Int)=0)else false)=true->aH (k:Int) Ms.length=true/\aH 0 i.length=true:=by
           intro aI;refine⟨aN ai,?_⟩;by_cases G:i.length=1
           . exact aN (k:=0) (by omega)
           grind
          refine⟨_,ET _ (aH (k:Int) Ms.length) (aH 0 i.length) f f1 aw,?_⟩;by_cases Z:i.length=1
          . simp_all
          grind
        . simp only at e C;subst e;rw[C];refine⟨_,EU (bif l then(!pl)else false) (bif decide (1<=af)then decide (af<=1000)else false) (decide ((i.length:Int)=0)) (decide ((R.length:Int)=1)) (aH 0 R.length) (decide ((R.getD (0:Int).toNat bX).af=af)) ap,?_⟩;unfold cr
          match R with
          |[]=>simp
          |[⟨aG,rd⟩]=>cases l<;>cases pl<;>by_cases Z:1<=af<;>by_cases ak:af<=1000<;>cases i<;>by_cases am:aG=af<;>simp[Z,ak,am]<;>omega
          |a::b::c=>simp;omega
      . exact cut (P:=(i.length:Int)<=M/\eT ts pl E i) (uv (by simp) (Q E pl)) (by unfold lD;simp[s];grind)
      . refine cut (P:=((p.length:Int)<=M/\i.length=p.length)/\eT ts pl u p/\eT ts pl E i/\jM p) ?_ (by unfold lD;simp[s];grind);refine adU (c:=bif decide (M<(p.length:Int))then true else(!(decide ((i.length:Int)=(p.length:Int))))) ?_ (az u pl) (Q E pl) (aaR (v:=⟨8,B,cy,w,af,p,i,R⟩) (dy h1) ay);grind
      . exact cut (P:=i.length<=1/\eT ts pl E i) (uv (q:=decide ((i.length:Int)<=1)) (by simp;omega) (Q E pl)) (by unfold lD;simp[s];grind)
    . refine⟨false,by simp[D],?_⟩;grind
end
theorem agw{n:Nat}(h:n<=70368744177664):room 1 n=true:=by
 unfold room j' eE;grind
theorem On{n:Nat}(h:n<=2199023255552:=by simp;omega):room 24 n=true:=by
 unfold room j' eE;grind
theorem bws{s b:aj}(h:b.length+s.length<=70368744177664:=by omega):sP (s,b)=some ((s.length:Int),b++s):=by
 rw[sP];simp only[aT,ak];rw[hq,ad (agw h)];rfl
theorem Es(b:aj):yv b=some b:=by rw[yv,ad (by simp[hK])]
theorem zS(a b:Nat):ix (a:Int) (b:Int)=((max a b:Nat):Int):=by unfold ix;omega
theorem ey{l:List α}{i:Nat}(h:i<l.length)(d:α):l.drop i=l.getD i d::l.drop (i+1):=by simp_all
def iv(f:Fd):gv:=⟨(f.id:Int),f.text⟩
theorem YA{m:aU}(a:bH m.bw)(v:I):Ce (m,v)=some (dM m v):=by
 rw[Ce];unfold dM;cases c:m.bW with
 |false=>simp
 |true=>
  obtain⟨r,h1,b⟩:=Kg a v;simp only[I.aO];grind
theorem MN{m:aU}(a:bH v)(c:m.bW=true):jH (v,m.bw)=some (dM m v):=by
 obtain⟨r,h1,b⟩:=Dn a m.bw;rw[h1];unfold dM;grind
section
variable {ts:List ah}
def oD(ts:List ah)(x:I)(t:Int):Prop:=∀L D:Nat,1<=L->L+wt x<=1125899906842624->j2 (t,x,(L:Int),ts,(D:Int))=some (bA ts t x,ts,((max D (L+ep ts t x-1):Nat):Int))
theorem Lj:∀{ms:List aU} {l:List I},(dI ts ms l).length<=ms.length
 |[],l=>by
  rw[dI]
  . simp
  grind
 |m::ms,[]=>by
  rw[dI]
  . simp
  grind
 |m::ms,v::l=>by
  rw[dI];have:=Lj (ms:=ms) (l:=l);grind
theorem te(t:Int)(v:I):1<=ep ts t v:=by
 cases v;rw[ep];omega
theorem Oo(p:Ms.length<=1000)(c:∀m,m∈Ms->bH m.bw)(d:∀m,m∈Ms->cr m.af)(ae:v.ai.length=Ms.length)(e:∀x,x∈v.ai->∀t,(bA ts t x).length<=70368744177664)
 (g:∀i,i<Ms.length->dM (Ms.getD i aC) (v.ai.getD i ar)=false->oD ts (v.ai.getD i ar) (Ms.getD i aC).au)(L:Nat)(l:1<=L)(o:L+cB v.ai<1125899906842624):
 ∀(k i:Nat) (D:Nat) (acc:List gv),i+k=Ms.length->L<=D->acc.length+k<=100000->
 q6 ((L:Int),Ms,(Ms.length:Int),(i:Int),ts,(D:Int),v,acc)=some (ts,((max D (L+gY ts (Ms.drop i) (v.ai.drop i)):Nat):Int),v,acc++(dI ts (Ms.drop i) (v.ai.drop i)).map iv)
 |0,i,D,acc,r,j,q=>by
  rw[q6,ch,I.aO,ef (by omega:Ms.length<=i)];rw[gY,dI]
  . simp;omega
  . grind
  grind
 |k+1,i,D,acc,r,j,q=>by
  have ay:i<Ms.length:=by omega
  have a:i<v.ai.length:=by omega
  rw[q6,bu,ad (aN ay)];simp only[aT,ak,a',I.aO,iK];rw[ad (aN a),YA (c _ (bh ay aC))];rw[ey ay aC,ey a ar,gY,dI];have u:=Oo p c d ae e g L l o k (i+1);cases s:dM (Ms.getD i aC) (v.ai.getD i ar)with
  |true=>
   simp only[ak,cW,bK,bT,bJ];rw[bC];grind
  |false=>
   have f:v.ai.getD i ar∈v.ai:=bh a ar;have z:=e2 f;have dk:=g i ay s (L+1) D (by omega) (by omega);have w:=te (ts:=ts) (Ms.getD i aC).au (v.ai.getD i ar);have b:=d _ (bh ay aC);obtain⟨n,aD⟩:∃n:Nat,(Ms.getD i aC).af=(n:Int):=⟨(Ms.getD i aC).af.toNat,by unfold cr at b;omega⟩
   simp only[ak,eG,bJ,bK,bT];have y:=e _ f (Ms.getD i aC).au;have aK:aM .i64 (L:Int) 1=((L+1:Nat):Int):=bC;rw[ad (aN a),aK,dk];simp only[ak];rw[aD,Is (by unfold cr at b;omega)];simp only[ak];rw[ad (On),bC,u _ _ (by omega) (by omega) (by simp;omega)];have:(⟨(n:Int),fE n (Ms.getD i aC).cn (bA ts (Ms.getD i aC).au (v.ai.getD i ar))⟩:gv)=iv ⟨(n:Int).toNat,(Ms.getD i aC).cn,bA ts (Ms.getD i aC).au (v.ai.getD i ar)⟩:=(by rfl);simp_all
theorem Oq{R:List bY}(b:∀x,x∈R->cr x.af/\x.Data.length<=reachBytes)(c:R.length<=2199023255552)(D:Int):∀(k i:Nat) (acc:List gv),i+k=R.length->acc.length+k<=2199023255552->
 q4 (R,(R.length:Int),(i:Int),ts,D,acc)=some (ts,D,acc++((R.drop i).map jU).map iv)
 |0,i,acc,f,d=>by
  rw[q4,ch,ef (by omega:R.length<=i)];simp
 |k+1,i,acc,f,d=>by
  have ay:i<R.length:=by omega
  obtain⟨a,e⟩:=b _ (bh ay bX);obtain⟨n,aD⟩:∃n:Nat,(R.getD i bX).af=(n:Int):=⟨(R.getD i bX).af.toNat,by unfold cr at a;omega⟩
  unfold reachBytes at e;rw[q4,bu,ad (aN ay)];simp only[aT,ak,a'];rw[aD,Is (by unfold cr at a;omega)];simp only[ak];rw[ad (On),bC,Oq b c D k (i+1) _ (by omega) (by simp;omega),ey ay bX];have:(⟨(n:Int),fE n false (R.getD i bX).Data⟩:gv)=iv (jU (R.getD i bX)):=by
   show _=(⟨(((R.getD i bX).af.toNat:Nat):Int),fE (R.getD i bX).af.toNat false (R.getD i bX).Data⟩:gv);grind
  grind
theorem Ot{l:List Fd}(D:Int):∀(k i:Nat) (b:aj),i+k=l.length->l.length<=2199023255552->b.length+((l.drop i).flatMap Fd.text).length<=70368744177664->
 q5 ((l.length:Int),(i:Int),ts,D,l.map iv,b)=some (ts,D,b++(l.drop i).flatMap Fd.text)
 |0,i,b,c,_,a=>by
  rw[q5,ch,ef (by omega:l.length<=i)];simp
 |k+1,i,b,c,ae,a=>by
  have ay:i<l.length:=by omega
  rw[q5,bu,ad (aN (by simp;omega)),bu];rw[ey ay default]at a⊢;simp only[e7,c4]at a⊢;have ao:(l.map iv).getD i u0=iv (l.getD i default):=h6 iv l i default u0 ay;simp only[a',ao];have:(iv (l.getD i default)).text=(l.getD i default).text:=rfl;rw[this,bws];simp only[aT,ak];rw[bC,Ot D k (i+1) _ (by omega) ae (by rw[c4];omega)];simp
end
structure iF (ts:List ah):Prop where
 n:ts.length<=1000
 T:∀t,t∈ts->eZ t
 K:∀t,t∈ts->n1 t.Kind
 M:O6 ts
 A:∀x,x∈ts->(x.Kind=5\/x.Kind=6)->fy x.ag/\x.ag.length<=16
 S:∀x,x∈ts->x.Kind=4->∀y,y∈x.bg->cr y.af
 r2:∀x,x∈ts->x.Kind=8->1<=(ts.getD x.Key.toNat aP).Kind/\(ts.getD x.Key.toNat aP).Kind<=4
section
variable {ts:List ah}
theorem As{t:Int}{v:I}(h:(ts.getD t.toNat aP).Kind=1):bA ts t v=if v.bM then[1]else[]:=by cases v;rw[bA];simp only[h];rfl
theorem Au{t:Int}{v:I}(h:(ts.getD t.toNat aP).Kind=2):bA ts t v=gJ (gg v.bd).toNat:=by cases v;rw[bA];simp only[h];rfl
theorem Av{t:Int}{v:I}(h:(ts.getD t.toNat aP).Kind=3):bA ts t v=v.bl:=by cases v;rw[bA];simp only[h];rfl
theorem Aw{t:Int}{v:I}(h:(ts.getD t.toNat aP).Kind=4):bA ts t v=gJ v.af.toNat:=by cases v;rw[bA];simp only[h];rfl
theorem Ax{t:Int}{v:I}(h:(ts.getD t.toNat aP).Kind=5):bA ts t v=(gT fk (ft ts (ts.getD t.toNat aP).ag v.ai v.Rest)).flatMap Fd.text:=by cases v;rw[bA];simp only[h];rfl
theorem Ay{t:Int}{v:I}(h:(ts.getD t.toNat aP).Kind=6):bA ts t v=eB v.af.toNat++(match cD (ts.getD t.toNat aP).ag v.af with
 |some m=>(b7 ts m.au v.ai).headD []
 |none=>(v.Rest.map bY.Data).headD []):=by
 cases v;rw[bA];simp only[h];rfl
theorem Az{t:Int}{v:I}(h:(ts.getD t.toNat aP).Kind=7):bA ts t v=(b7 ts (ts.getD t.toNat aP).aG v.ai).flatMap dB:=by cases v;rw[bA];simp only[h];rfl
theorem AA{t:Int}{v:I}(h:(ts.getD t.toNat aP).Kind=8):bA ts t v=gS (b7 ts (ts.getD t.toNat aP).Key v.av) (b7 ts (ts.getD t.toNat aP).aG v.ai):=by cases v;rw[bA];simp only[h];rfl
theorem AB{t:Int}{v:I}(h:(ts.getD t.toNat aP).Kind=9):bA ts t v=match b7 ts (ts.getD t.toNat aP).aG v.ai with
 |[]=>[]
 |p::_=>1::p:=by
 cases v;rw[bA];simp only[h];rfl
theorem Dq(t:Int)(v:I):ep ts t v=1+max (if v.av=[]then 0 else 1) (if(ts.getD t.toNat aP).Kind=5 then gY ts (ts.getD t.toNat aP).ag v.ai
 else if(ts.getD t.toNat aP).Kind=6 then(match cD (ts.getD t.toNat aP).ag v.af with
  |some m=>eI ts m.au v.ai
  |none=>0)
 else eI ts (ts.getD t.toNat aP).aG v.ai):=by
 cases v;rw[ep];try rfl
theorem Hn(c:v.av=[])(b:v.ai=[]):ep ts t v=1:=by
 rw[Dq,c,b];have h1:eI ts (ts.getD t.toNat aP).aG []=0:=by rw[eI]
 have a:gY ts (ts.getD t.toNat aP).ag []=0:=by rw[gY];intros;simp_all
 rw[h1,a]
 have d:(match cD (ts.getD t.toNat aP).ag v.af with
  |some m=>eI ts m.au []
  |none=>0)=0:=by
  split
  . rw[eI]
  . rfl
 grind
theorem Lk(b:¬x.Kind=8)(d:∀y,y∈v.ai->(bA ts x.aG y).length<=1000000000000000)(e:∀y,y∈v.ai->oD ts y x.aG)(ae:v.ai.length<=reachBytes)(L:Nat)(g:1<=L)(j:L+cB v.ai<1125899906842624):
 ∀(k i D:Nat) (acc:aj),i+k=v.ai.length->L<=D->acc.length+((b7 ts x.aG (v.ai.drop i)).flatMap dB).length<=70368744177664->
 lH ((L:Int),v.ai,(v.ai.length:Int),(i:Int),ts,(D:Int),v,x,acc)=some (ts,((max D (L+eI ts x.aG (v.ai.drop i)):Nat):Int),acc++(b7 ts x.aG (v.ai.drop i)).flatMap dB)
 |0,i,D,acc,l,f,c=>by
  rw[lH,ch,ef (by omega:v.ai.length<=i),eI,b7];simp;omega
 |k+1,i,D,acc,l,f,c=>by
  have ay:i<v.ai.length:=by omega
  have o:=dy ae;have a:v.ai.getD i ar∈v.ai:=bh ay ar;have p:=e2 a;rw[ey ay ar,b7,e7,c4]at c;have n:=d _ a;have dk:=e _ a (L+1) D (by omega) (by omega);have m:=te (ts:=ts) x.aG (v.ai.getD i ar);have aK:aM .i64 (L:Int) 1=((L+1:Nat):Int):=bC;rw[lH,bu,ad (aN ay)];simp only[aT,ak,a',I.aO];rw[al (by simp[b]),aK,dk];simp only[ak];rw[Dc];simp only[ak];rw[bws];simp only[ak];rw[bC,Lk b d e ae L g j k (i+1) _ _ (by omega) (by omega) (by rw[c4];omega),ey ay ar,eI,b7,e7,hr];grind
theorem Mn(d:x.Kind=8)(r:v.ai.length=v.av.length)(g:∀y,y∈v.ai->(bA ts x.aG y).length<=1000000000000000)(j:∀y,y∈v.av->(bA ts x.Key y).length<=1000000000000000)
 (l:∀y,y∈v.ai->oD ts y x.aG)(m:∀y,y∈v.av->oD ts y x.Key)(h1:∀y,y∈v.av->ep ts x.Key y=1)(ae:v.ai.length<=reachBytes)(L:Nat)(o:1<=L)(p:L+cB v.ai+cB v.av<1125899906842624):
 ∀(k i D:Nat) (acc:aj),i+k=v.ai.length->L<=D->acc.length+(gS (b7 ts x.Key (v.av.drop i)) (b7 ts x.aG (v.ai.drop i))).length<=70368744177664->
 lH ((L:Int),v.ai,(v.ai.length:Int),(i:Int),ts,(D:Int),v,x,acc)=some (ts,((max D (L+max (if v.av.drop i=[]then 0 else 1) (eI ts x.aG (v.ai.drop i))):Nat):Int),acc++gS (b7 ts x.Key (v.av.drop i)) (b7 ts x.aG (v.ai.drop i)))
 |0,i,D,acc,q,n,f=>by
  rw[lH,ch,ef (by omega:v.ai.length<=i),ef (by omega:v.av.length<=i),eI,b7,b7,gS]
  . simp;omega
  grind
 |k+1,i,D,acc,q,n,f=>by
  have ay:i<v.ai.length:=by omega
  have a:i<v.av.length:=by omega
  have w:=dy ae;have c:v.ai.getD i ar∈v.ai:=bh ay ar;have b:v.av.getD i ar∈v.av:=bh a ar;have z:=e2 c;have A:=e2 b;rw[ey ay ar,ey a ar,b7,b7,gS,c4,c4]at f;have t:=g _ c;have u:=j _ b;have e:=m _ b (L+1) D (by omega) (by omega);rw[h1 _ b]at e;have dk:=l _ c (L+1) (max D (L+1+1-1)) (by omega) (by omega);have s:=te (ts:=ts) x.aG (v.ai.getD i ar);have aK:aM .i64 (L:Int) 1=((L+1:Nat):Int):=bC;rw[lH,bu,ad (aN ay)];simp only[aT,ak,a',I.aO];rw[ad (by simp[d]),ad (aN a),aK,e];simp only[ak];rw[Dc];simp only[ak];rw[bws];simp only[ak];rw[dk];simp only[ak];rw[Dc];simp only[ak];rw[bws (by rw[c4];omega)];simp only[ak];rw[bC,Mn d r g j l m h1 ae L o p k (i+1) _ _ (by omega) (by omega) (by rw[c4,c4];omega),ey ay ar,ey a ar,eI,b7,b7,gS,hr,hr];grind
end
section
variable {ts:List ah}(H:iF ts)
theorem vI(H:iF ts)(a:bH v)(b:wt v<=1099511627776)(t:Int):(bA ts t v).length<=23089744183296:=by
 have:=abL H.M a b t;omega
theorem aaT{l:List I}{r:List bY}(h:fy ms)(g:ke ms r):F1 ((ft ts ms l r).map iv)=some ((gT fk (ft ts ms l r)).map iv):=by
 have e:∀a b:Fd,lz (iv a) (iv b)=fk a b:=λa b=>by unfold lz fk iv;simp
 have d:SWO lz:=by refine⟨λx=>?_,λx y z h1 c=>?_,λx y z h1 c=>?_⟩<;>simp[lz]at*<;>omega
 have f:kd lz ((ft ts ms l r).map iv)=true:=by
  have h0:=xN (ts:=ts) (l:=l) h g;generalize ft ts ms l r=q at h0;induction q with
  |nil=>rfl
  |cons a q ih=>
   simp only[kd,cc,c0,gB]at h0⊢;grind
 unfold F1;rw[Ni d f,Mj iv e]
theorem Bu{D L b:Nat}(h:w=1+b):max (max D L) (L+b)=max D (L+w-1):=by omega
theorem aga{D L b:Nat}(h:w=1+b):max (max D L) (L+1+b-1)=max D (L+w-1):=by omega
theorem Q7{b:Nat}(h:w=1+max 0 b):w=1+b:=by omega
theorem aca(n:∀m,m∈x.ag->bH m.bw)(e:fy x.ag)(O:x.ag.length<=16)(c:ke x.ag v.Rest)(p:v.ai.length=x.ag.length)
 (A:∀y,y∈v.Rest->y.Data.length<=reachBytes)(s:∀x,x∈v.ai->∀t,(bA ts t x).length<=23089744183296)
 (k:∀i,i<x.ag.length->oD ts (v.ai.getD i ar) (x.ag.getD i aC).au)
 (N:((gT fk (ft ts x.ag v.ai v.Rest)).flatMap Fd.text).length<=23089744183296)
 (L D:Nat)(g:1<=L)(H:L<=D)(J:L+cB v.ai<1125899906842624)(M:(v.Rest.map λx=>x.Data.length+1).sum<=1099511627776):
 Cr (x,v,(L:Int),ts,(D:Int))=some ((gT fk (ft ts x.ag v.ai v.Rest)).flatMap Fd.text,ts,((max D (L+gY ts x.ag v.ai):Nat):Int)):=by
 have w:=e.2;have j:∀y,y∈v.Rest->cr y.af/\y.Data.length<=reachBytes:=λy b=>⟨(c.2 y b).1,A y b⟩
 have K:v.Rest.length<=(v.Rest.map λx=>x.Data.length+1).sum:=by
  generalize v.Rest=R;induction R with
  |nil=>simp
  |cons a R ih=>simp only[ia,gB,og];omega
 have P:=Lj (ts:=ts) (ms:=x.ag) (l:=v.ai);have B:=Oo (ts:=ts) (Ms:=x.ag) (v:=v) (by omega) n w p (λy b t=>by have:=s y b t;omega) (λi o _=>k i o) L g (by omega) x.ag.length 0 D [] (by omega) (by omega) (by simp;omega);have C:q6 ((L:Int),x.ag,(x.ag.length:Int),0,ts,(D:Int),v,[])=_:=B;rw[Cr];simp only[I.aO];rw[C];simp only[aT,ak,fF,fS];generalize ((max D (L+gY ts x.ag v.ai):Nat):Int)=d;have E:=Oq (ts:=ts) (R:=v.Rest) j (by omega) d v.Rest.length 0 ((dI ts x.ag v.ai).map iv) (by omega) (by simp;omega);have F:q4 (v.Rest,(v.Rest.length:Int),0,ts,d,(dI ts x.ag v.ai).map iv)=_:=E;rw[F];simp only[ak,fF];rw[<-p8];have hs:=aaT (ts:=ts) (l:=v.ai) e c;have r:(ft ts x.ag v.ai v.Rest).length<=2199023255552:=by unfold ft;simp;omega
 have cY:dI ts x.ag v.ai++v.Rest.map jU=ft ts x.ag v.ai v.Rest:=rfl;rw[cY];generalize ft ts x.ag v.ai v.Rest=q at*;rw[hs];simp only[ak];have f:=nz fk q;rw[ad (by simp[f.length_eq])];have u:(gT fk q).length<=2199023255552:=by rw[f.length_eq];exact r
 generalize gT fk q=z at*;have Q:=Ot (ts:=ts) (l:=z) d z.length 0 [] (gb _) u (by simp only[fF,ib];omega);have G:q5 (((z.map iv).length:Int),0,ts,d,z.map iv,[])=some (ts,d,[]++(z.drop 0).flatMap Fd.text):=by grind
 rw[G];simp only[ak,Es,fF,fS]
theorem aaU(A:x.ag.length<9223372036854775807)(B:fy x.ag)(l: -9223372036854775808<=v.af/\v.af<=9223372036854775807)
 (a:match cD x.ag v.af with
  |some m=>v.Rest=[]/\v.ai.length=1/\eT ts false m.au v.ai
  |none=>x.Open=true/\True/\cr v.af/\v.ai=[]/\∃d,v.Rest=[⟨v.af,d⟩])
 (E:∀y,y∈v.Rest->y.Data.length<=reachBytes)(z:∀x,x∈v.ai->∀t,(bA ts t x).length<=23089744183296)
 (w:∀x,x∈v.ai->∀t,b6 ts false t x->oD ts x t)
 (L D:Nat)(J:1<=L)(H:L<=D)(K:L+cB v.ai<1125899906842624):
 yD (x,v,(L:Int),ts,(D:Int)) = some (eB v.af.toNat++(match cD x.ag v.af with
  |some m=>(b7 ts m.au v.ai).headD []
  |none=>(v.Rest.map bY.Data).headD []),ts,((max D (L+(match cD x.ag v.af with
  |some m=>eI ts m.au v.ai
  |none=>0)):Nat):Int)):=by
 obtain⟨r,p,_,g⟩:=mD (t:=x) v.af A;rcases tM g with⟨e,q,o,F,c,G⟩|⟨e,c⟩
 . rw[c]at a;rw[c];simp only at a⊢;obtain⟨d1,d2,d3⟩:=a;have b:=B.2 _ (bh o aC);rw[G]at b;obtain⟨n,aD⟩:∃n:Nat,v.af=(n:Int):=⟨v.af.toNat,by unfold cr at b;omega⟩
   rw[yD];simp only[I.aO];rw[p,aD,hy (by unfold cr at b;omega),tv (by unfold cr at b;omega)];simp only[aT,ak];rw[al (by simp[e]),F,ad (aN o)]
   match b:v.ai,d2 with
   |[y],_=>
    have f:y∈v.ai:=by rw[b];exact .head _
    have i:aH 0 ([y]:List I).length=true:=aN (k:=0) (by simp);have O:=e2 f;have g:=cU.1 d3 y f;have dk:=w y f _ g (L+1) D (by omega) (by omega);have aK:aM .i64 (L:Int) 1=((L+1:Nat):Int):=bC;rw[ad i,aK];simp only[a',rC,ki];rw[dk];have N:=z y f (x.ag.getD q aC).au;have C:=j7 (n:=n) (by rw[aD]at l;omega);simp only[ak];rw[ad (fX)];have M:=te (ts:=ts) (x.ag.getD q aC).au y;have u:eI ts (x.ag.getD q aC).au [y]=ep ts (x.ag.getD q aC).au y:=by
     have cY:eI ts (x.ag.getD q aC).au []=0:=by rw[eI]
     rw[eI,cY];omega
    have s:b7 ts (x.ag.getD q aC).au [y]=[bA ts (x.ag.getD q aC).au y]:=by rw[b7,b7]
    have e:max D (L+1+ep ts (x.ag.getD q aC).au y-1)=max D (L+ep ts (x.ag.getD q aC).au y):=(by omega);rw[s,u,e];rfl
 . rw[c]at a;rw[c];simp only at a⊢;obtain⟨d1,d2,d3,d4,d,d5⟩:=a;obtain⟨n,aD⟩:∃n:Nat,v.af=(n:Int):=⟨v.af.toNat,by unfold cr at d3;omega⟩
   have j:=E ⟨v.af,d⟩ (by rw[d5];exact .head _);simp only at j;unfold reachBytes at j;have C:=j7 (n:=n) (by rw[aD]at l;omega);rw[yD];simp only[I.aO];rw[p,d5,aD,hy (by unfold cr at d3;omega),tv (by unfold cr at d3;omega)];simp only[aT,ak];have i:aH 0 ([⟨(n:Int),d⟩]:List bY).length=true:=aN (k:=0) (by simp);rw[ad (by simp[e]),ad i];simp only[rC,ki];rw[ad (fX)];have e:max D (L+0)=D:=(by omega);rw[e];rfl
set_option maxHeartbeats 400000 in
theorem acb(H:iF ts)(aW:bH v):wt v<=1099511627776->∀t,b6 ts false t v->oD ts v t:=by
 induction aW with
 |mk v hs h1 O aI am M U db Y aA a1 a0 aZ=>
  intro aY t r L D K a5;have aL:bH v:= .mk v hs h1 O aI am M U db Y aA a1;have a9:=fg v;have G:∀x,x∈v.ai->∀t,(bA ts t x).length<=23089744183296:=λx o t=>vI H (M x o) (by have:=e2 o;omega) t;have aV:∀x,x∈v.av->∀t,(bA ts t x).length<=23089744183296:=λx o t=>vI H (am x o) (by have:=e2 o;omega) t;have F:∀x,x∈v.ai->∀t,b6 ts false t x->oD ts x t:=λx o t=>aZ x o (by have:=e2 o;omega) t;have aO:∀x,x∈v.av->∀t,b6 ts false t x->oD ts x t:=λx o t=>a0 x o (by have:=e2 o;omega) t;have Q:=vI H aL aY t;obtain⟨⟨a3,a4,q,_⟩,r⟩:=(eO _ _ _).1 r;obtain⟨j,rfl⟩:∃j:Nat,t=(j:Int):=⟨t.toNat,by omega⟩
  have ab:j<ts.length:=by omega
  rw[j2];simp only[aT,ak];rw[ad (aN ab),zS];simp only[a',I.aO]at r q⊢;have J:=bh ab aP;have C:=Dq (ts:=ts) (j:Int) v;have aX:=@As ts (j:Int) v;have ap:=@Au ts (j:Int) v;have aq:=@Av ts (j:Int) v;have aw:=@Aw ts (j:Int) v;have V:=@Ax ts (j:Int) v;have ax:=@Ay ts (j:Int) v;have W:=@Az ts (j:Int) v;have X:=@AA ts (j:Int) v;have ay:=@AB ts (j:Int) v;simp only[a']at C aX ap aq aw V ax W X ay;have Z:=H.A _ J;have aJ:=H.r2 _ J;have aE:=H.S _ J;generalize ts.getD j aP=x at*;have an:¬x.Kind=5->¬x.Kind=6->v.av=[]->ep ts (j:Int) v=1+eI ts x.aG v.ai:=λa b c=>by grind
  have N:v.av=[]->v.ai=[]->max D (L+ep ts (j:Int) v-1)=max D L:=λa b=>by rw[Hn a b];omega
  rcases r with⟨k,s,u,w,l,g,B⟩|⟨k,s,u,w,l,g,B,p,E⟩|⟨k,s,u,w,l,g,B,p⟩|⟨k,s,u,w,l,g,B,p⟩|⟨k,s,u,w,l,g,B,p⟩|⟨k,s,u,w,l,g⟩|⟨k,s,u,w,l,g,B,p,E⟩|⟨k,s,u,w,l,g,B,p,E,aB,a2⟩|⟨k,s,u,w,l,g,B,p,E⟩<;>rw[k]at q
  . grind
  . have d:=q.symm;rw[al (by simp[d]),ad (by simp[d]),ap d,N l g,D1 Y];simp only[ak];have az:=zl Y;obtain⟨n,aD⟩:∃n:Nat,gg v.bd=(n:Int):=⟨(gg v.bd).toNat,by unfold gg;split<;>omega⟩
    rw[aD,oa]at az;rw[aD,D2 az];rfl
  . have d:=q.symm;rw[al (by simp[d]),al (by simp[d]),ad (by simp[d]),aq d,N l g]
  . have d:=q.symm;rw[al (by simp[d]),al (by simp[d]),al (by simp[d]),ad (by simp[d]),aw d,N l g]
    obtain⟨n,aD⟩:∃n:Nat,v.af=(n:Int):=⟨v.af.toNat,by
     rcases p with⟨y,f,he⟩|⟨_,_,he⟩
     . have:=aE d y f;unfold cr at this;omega
     . unfold cr at he;omega⟩
    rw[aD,hy,D2 (by omega),oa];rfl
  . have d:=q.symm;rw[al (by simp[d]),al (by simp[d]),al (by simp[d]),al (by simp[d]),ad (by simp[d]),V d];obtain⟨R,ao⟩:=Z (.inl d);obtain⟨aR,aS⟩:=h4.1 p;rw[aca (H.T _ J).jd R ao B aR (λy f=>U y f) G (λi M=>F _ (bh (by omega) ar) _ (aS i M)) (by rw[<-V d];exact Q) L (max D L) K (by omega) (by omega) (by omega)];simp only[ak];rw[ad d,ad g]at C;have e:max (max D L) (L+gY ts x.ag v.ai)=max D (L+ep ts (j:Int) v-1):=Bu (Q7 C);rw[e]
  . have d:=q.symm;rw[al (by simp[d]),al (by simp[d]),al (by simp[d]),al (by simp[d]),al (by simp[d]),ad (by simp[d]),ax d];obtain⟨R,ao⟩:=Z (.inr d);rw[al (show ¬x.Kind=5 by omega),ad d,ad l]at C;rw[aaU (dy (im (H.T _ J).gU)) R aA g (λy f=>U y f) G F L (max D L) K (by omega) (by omega)];simp only[ak]
    exact dS (λz:Nat=>(some (eB v.af.toNat++(match cD x.ag v.af with
     |some m=>(b7 ts m.au v.ai).headD []
     |none=>(v.Rest.map bY.Data).headD []),ts,(z:Int)):Option (aj×List ah×Int))) (Bu (D:=D) (L:=L) (Q7 C))
  . have d:=q.symm;rw[al (by simp[d]),al (by simp[d]),al (by simp[d]),al (by simp[d]),al (by simp[d]),al (by simp[d]),al (by simp[d])];have r:=cU.1 E;rw[W d]at Q;have:=Lk (x:=x) (v:=v) (by omega) (λy f=>by have:=G y f x.aG;omega) (λy f=>F y f x.aG (r y f)) O L K (by omega) v.ai.length 0 (max D L) [] (by omega) (by omega) (by simp only[fF,ib];omega);have h0:lH ((L:Int),v.ai,(v.ai.length:Int),0,ts,((max D L:Nat):Int),v,x,[])=_:=this;rw[h0];simp only[ak,Es];have ae:=an (by omega) (by omega) g;have e:max (max D L) (L+eI ts x.aG v.ai)=max D (L+ep ts (j:Int) v-1):=Bu ae;rw[W d,fF,fS,e]
  . have d:=q.symm;rw[al (by simp[d]),al (by simp[d]),al (by simp[d]),al (by simp[d]),al (by simp[d]),al (by simp[d]),al (by simp[d])];have r:=cU.1 aB;have aa:=cU.1 E;rw[X d]at Q;obtain⟨ba,bb⟩:=aJ d;have aU:∀y,y∈v.av->ep ts x.Key y=1:=λy f=>by
     obtain⟨⟨_,_,b3,_⟩,b⟩:=(eO _ _ _).1 (aa y f);apply Hn<;>grind
    have:=Mn (x:=x) (v:=v) d p (λy f=>by have:=G y f x.aG;omega) (λy f=>by have:=aV y f x.Key;omega) (λy f=>F y f x.aG (r y f)) (λy f=>aO y f x.Key (aa y f)) aU O L K (by omega) v.ai.length 0 (max D L) [] (by omega) (by omega) (by simp only[fF,ib];omega);have h0:lH ((L:Int),v.ai,(v.ai.length:Int),0,ts,((max D L:Nat):Int),v,x,[])=_:=this;rw[h0];simp only[ak,Es];rw[al (show ¬x.Kind=5 by omega),al (show ¬x.Kind=6 by omega)]at C;simp only[fF,fS];have e:max (max D L) (L+max (if v.av=[]then 0 else 1) (eI ts x.aG v.ai))=max D (L+ep ts (j:Int) v-1):=Bu C;rw[X d,e]
  . have d:=q.symm;rw[al (by simp[d]),al (by simp[d]),al (by simp[d]),al (by simp[d]),al (by simp[d]),al (by simp[d]),ad (by simp[d]),ay d];have r:=cU.1 E
    match P:v.ai,p with
    |[],_=>rw[hq,N g P,b7]
    |[y],_=>
     have f:y∈v.ai:=by rw[P];exact .head _
     have aQ:aH 0 ([y]:List I).length=true:=aN (k:=0) (by simp);rw[bq,ad aQ];have a8:=e2 f;have dk:=F y f x.aG (r y f) (L+1) (max D L) (by omega) (by omega);have aK:aM .i64 (L:Int) 1=((L+1:Nat):Int):=bC;rw[aK];simp only[rC,ki];rw[dk];have a7:=G y f x.aG;simp only[ak];rw[ad (fX (by simp;omega))];have ae:=an (by omega) (by omega) g;rw[P]at ae;have a6:=te (ts:=ts) x.aG y;have aF:eI ts x.aG [y]=ep ts x.aG y:=by
      have cY:eI ts x.aG []=0:=by rw[eI]
      rw[eI,cY];omega
     have aC:b7 ts x.aG [y]=[bA ts x.aG y]:=by rw[b7,b7]
     rw[aF]at ae;have e:max (max D L) (L+1+ep ts x.aG y-1)=max D (L+ep ts (j:Int) v-1):=aga ae;rw[aC,e];rfl
    |a::b::c,h=>simp at h
end
section
variable {ts:List ah}
def iS(ts:List ah)(x:I)(t:Int):Prop:=ja ((⟨ts⟩:aQ),t,x)=some (bA ts t x)
def oB(ts:List ah)(x:I)(t:Int):Prop:=mv ((⟨ts⟩:aQ),t,x)=some ((ep ts t x:Nat):Int)
theorem Mo(b:∀y,y∈v.ai->(bA ts x.aG y).length<=1000000000000000)(d:∀y,y∈v.ai->iS ts y x.aG)(ae:v.ai.length<=reachBytes):
 ∀(k i:Nat) (acc:aj),i+k=v.ai.length->acc.length+((b7 ts x.aG (v.ai.drop i)).flatMap dB).length<=70368744177664->
 sX (acc,(i:Int),ts,v,x)=some (acc++(b7 ts x.aG (v.ai.drop i)).flatMap dB)
 |0,i,acc,e,a=>by
  rw[sX,ch,ef (by omega:v.ai.length<=i),b7];simp
 |k+1,i,acc,e,a=>by
  have ay:i<v.ai.length:=by omega
  have g:=dy ae;have c:v.ai.getD i ar∈v.ai:=bh ay ar;rw[ey ay ar,b7,e7,c4]at a;have f:=b _ c;have dk:=d _ c;unfold iS at dk;rw[sX,bu,ad (aN ay)];simp only[aT,ak,a',I.aO];rw[dk];simp only[ak];rw[CH];simp only[ak];rw[ad (fX),bC,Mo b d ae k (i+1) _ (by omega) (by rw[c4];omega),ey ay ar,b7,e7,hr]
theorem MO(n:v.ai.length=v.av.length)(d:∀y,y∈v.ai->(bA ts x.aG y).length<=1000000000000000)(e:∀y,y∈v.av->(bA ts x.Key y).length<=1000000000000000)
 (j:∀y,y∈v.ai->iS ts y x.aG)(l:∀y,y∈v.av->iS ts y x.Key)(ae:v.ai.length<=reachBytes):
 ∀(k i:Nat) (acc:aj),i+k=v.ai.length->acc.length+(gS (b7 ts x.Key (v.av.drop i)) (b7 ts x.aG (v.ai.drop i))).length<=70368744177664->
 sY (acc,(i:Int),ts,v,x)=some (acc++gS (b7 ts x.Key (v.av.drop i)) (b7 ts x.aG (v.ai.drop i)))
 |0,i,acc,m,c=>by
  rw[sY,ch,ef (by omega:v.ai.length<=i),ef (by omega:v.av.length<=i),b7,b7,gS]
  . simp
  grind
 |k+1,i,acc,m,c=>by
  have ay:i<v.ai.length:=by omega
  have a:i<v.av.length:=by omega
  have q:=dy ae;have f:v.ai.getD i ar∈v.ai:=bh ay ar;have g:v.av.getD i ar∈v.av:=bh a ar;rw[ey ay ar,ey a ar,b7,b7,gS,c4,c4]at c;have o:=d _ f;have p:=e _ g;have dk:=j _ f;have b:=l _ g;unfold iS at dk b;rw[sY,bu,ad (aN a)];simp only[aT,ak,a',I.aO];rw[b];simp only[ak];rw[CH];simp only[ak];rw[ad (fX),ad (aN ay),dk];simp only[ak];rw[CH];simp only[ak];rw[ad (fX (by rw[c4];omega)),bC,MO n d e j l ae k (i+1) _ (by omega) (by rw[c4,c4];omega),ey ay ar,ey a ar,b7,b7,gS,hr,hr]
def lk(R:List bY)(n:Nat):List Fd:=(R.filter λx=>decide (x.af=(n:Int))).map jU
theorem YB{a:bY}{l:List bY}{n:Nat}(h:a.af=(n:Int)):lk (a::l) n=jU a::lk l n:=by unfold lk;rw[List.filter_cons,ad (by rw[h];simp),gB]
theorem aaV{a:bY}{l:List bY}{n:Nat}(h:¬a.af=(n:Int)):lk (a::l) n=lk l n:=by unfold lk;rw[List.filter_cons,al (by simpa using h)]
theorem agr{d:Type}{m:aU}{w:I}(b:bH w)(A B:Option d):
 ((if !(!m.bW) then jH (w,m.bw)else some false).bind λc=>if(bif (!m.bW)then true else(!c)) then A else B)=if dM m w then B else A:=by
 cases a:m.bW with
 |false=>
  have:dM m w=false:=by unfold dM;rw[a];rfl
  rw[this];rfl
 |true=>
  have:=MN b a;simp only[cW,eG,bJ,this];cases dM m w<;>rfl
theorem HH(d:∀y,y∈v.Rest->y.Data.length<=reachBytes)(c:v.Rest.length<=reachBytes)(n:Nat)(aD:n<=1000):
 ∀(k i:Nat) (b:aj),i+k=v.Rest.length->b.length+((lk (v.Rest.drop i) n).flatMap Fd.text).length<=70368744177664->
 mn (b,(n:Int),(i:Int),ts,v,x)=some (b++(lk (v.Rest.drop i) n).flatMap Fd.text,(n:Int),ts,v,x)
 |0,i,b,g,a=>by
  rw[mn,ch,ef (by omega:v.Rest.length<=i),I.aO];simp[lk]
 |k+1,i,b,g,a=>by
  have ay:i<v.Rest.length:=by omega
  have j:=dy c;have f:=d _ (bh ay bX);unfold reachBytes at f;rw[ey ay bX]at a;rw[mn,bu,ad (aN ay)];simp only[aT,ak,a',I.aO];rw[ey ay bX];by_cases e:(v.Rest.getD i bX).af=(n:Int)
  . rw[YB e,e7]at a⊢;have ht:(jU (v.Rest.getD i bX)).text=fE n false (v.Rest.getD i bX).Data:=by unfold jU Fd.text;rw[e];rfl
    rw[ht,c4]at a;rw[ad (by rw[e];simp),ad (aN ay),Ju (by omega) (by omega)];simp only[ak];rw[ad (fX),bC,HH d c n aD k (i+1) _ (by omega) (by rw[c4];omega),ht,hr]
  . rw[aaV e]at a⊢;rw[al (by simpa using e),bC,HH d c n aD k (i+1) _ (by omega) a]
noncomputable def xv (ts:List ah)(x:ah)(v:I)(n:Nat):List Fd:=(ft ts x.ag v.ai v.Rest).filter λf=>decide (f.id=n)
theorem HW{x:ah}(q:x.ag.length<9223372036854775807)(s:fy x.ag)(z:ke x.ag v.Rest)(l:v.ai.length=x.ag.length)
 (w:∀y,y∈v.Rest->y.Data.length<=reachBytes)(g:v.Rest.length<=reachBytes)(u:∀y,y∈v.ai->bH y)(o:∀x,x∈v.ai->∀t,(bA ts t x).length<=23089744183296)
 (A:∀i,i<x.ag.length->iS ts (v.ai.getD i ar) (x.ag.getD i aC).au):
 ∀(k n:Nat) (b:aj),n+k=1001->1<=n->b.length+(((List.range' n k).flatMap (xv ts x v)).flatMap Fd.text).length<=70368744177664->
 pk (b,(n:Int),ts,v,x)=some (b++((List.range' n k).flatMap (xv ts x v)).flatMap Fd.text)
 |0,n,b,J,h1,a=>by
  rw[pk,ch];simp
 |k+1,n,b,J,h1,a=>by
  have K:∀y,y∈v.Rest->0<=y.af:=λy N=>by have:=(z.2 y N).1;unfold cr at this;omega
  have ao:xv ts x v n=((dI ts x.ag v.ai).filter λf=>decide (f.id=n))++lk v.Rest n:=by
   unfold xv ft lk;rw[List.filter_append,X0 _ _ K]
  rw[Fi,e7,Fc,ao,Fc]at a⊢;simp only[c4]at a;rw[pk,bu];obtain⟨r,_,Q,H⟩:=mD (t:=x) (n:Int) q;simp only[aT,ak,a',I.aO];rw[Q];simp only[ak];have B:∀c:aj,c.length+((lk v.Rest n).flatMap Fd.text).length<=70368744177664->mn (c,(n:Int),0,ts,v,x)=some (c++(lk v.Rest n).flatMap Fd.text,(n:Int),ts,v,x):=λc h=>by
   have:=HH (ts:=ts) (x:=x) w g n (by omega) v.Rest.length 0 c (by omega) (by simpa using h);grind
  rcases tM H with⟨e,j,C,O,G,P⟩|⟨e,G⟩
  . have p:j<v.ai.length:=(by omega);have D:v.ai.getD j ar∈v.ai:=bh p ar;have d:=Jy (ts:=ts) (ML s) l C (n:=n) (by rw[P];simp);rw[ad e,O,ad (aN C)];rw[ad (by rw[aN p];rfl)];simp only[a'];rw[agr (u _ D)];have F:=HW q s z l w g u o A k (n+1);cases E:dM (x.ag.getD j aC) (v.ai.getD j ar)with
    |true=>
     rw[E,ad rfl]at d;rw[d]at a⊢;rw[ad rfl,B b (by omega)];simp only[ak,I.aO];rw[bC,F _ (by omega) (by omega) (by rw[c4];omega)];simp
    |false=>
     rw[E,bq]at d;rw[d]at a⊢;have R:=o _ D (x.ag.getD j aC).au;have dk:=A j C;unfold iS at dk;have ht:([⟨n,(x.ag.getD j aC).cn,bA ts (x.ag.getD j aC).au (v.ai.getD j ar)⟩]:List Fd).flatMap Fd.text=fE n (x.ag.getD j aC).cn (bA ts (x.ag.getD j aC).au (v.ai.getD j ar)):=by simp only[e7,List.flatMap_nil,l3];rfl
     rw[ht]at a⊢;rw[bq,ad (aN p),dk];simp only[ak];rw[Ju (by omega) (by omega)];simp only[ak];rw[ad (fX),B _ (by rw[c4];omega)];simp only[ak,I.aO];rw[bC,F _ (by omega) (by omega) (by rw[c4,c4];omega)];grind
  . have M:((dI ts x.ag v.ai).filter λf=>decide (f.id=n))=[]:=Kt λm L=>by
     have:=ny G m L;omega
    rw[M]at a⊢;rw[al (by simp[e]),B b (by omega)];simp only[ak,I.aO];rw[bC,HW q s z l w g u o A k (n+1) _ (by omega) (by omega) (by rw[c4];omega)];simp
theorem acC{c:Type}{m:aU}{w:I}(b:bH w)(A B:Option c):
 ((if m.bW then jH (w,m.bw)else some false).bind λr=>if(bif m.bW then r else false) then A else B)=if dM m w then A else B:=by
 cases a:m.bW with
 |false=>
  have:dM m w=false:=by unfold dM;rw[a];rfl
  rw[this];rfl
 |true=>
  have:=MN b a;simp only[bJ,this];cases dM m w<;>rfl
theorem Mp(ba:¬x.Kind=5)(a:¬x.Kind=6)(c:∀y,y∈v.ai->oB ts y x.aG)(ae:v.ai.length<=reachBytes):
 ∀(k i b:Nat),i+k=v.ai.length->hY ((b:Int),(i:Int),ts,v,x)=some (((max b (eI ts x.aG (v.ai.drop i)):Nat):Int),v)
 |0,i,b,d=>by rw[hY,ch,ef (by omega:v.ai.length<=i),eI,I.aO,Nat.max_zero]
 |k+1,i,b,d=>by
  have ay:i<v.ai.length:=by omega
  have e:=dy ae;have dk:=c _ (bh ay ar);unfold oB at dk;rw[hY,bu,al (by simp[ba]),al (by simp[a]),ad (aN ay)];simp only[a',I.aO];rw[dk];simp only[aT,ak];rw[zS,bC,Mp ba a c ae k (i+1) _ (by omega),ey ay ar,eI,Nat.max_assoc]
theorem MP(ba:x.Kind=5)(g:v.ai.length=x.ag.length)(c:∀y,y∈v.ai->bH y)(e:∀i,i<x.ag.length->oB ts (v.ai.getD i ar) (x.ag.getD i aC).au)(ae:v.ai.length<=reachBytes):
 ∀(k i b:Nat),i+k=v.ai.length->hY ((b:Int),(i:Int),ts,v,x)=some (((max b (gY ts (x.ag.drop i) (v.ai.drop i)):Nat):Int),v)
 |0,i,b,f=>by
  rw[hY,ch,ef (by omega:v.ai.length<=i),I.aO,ef (by omega:x.ag.length<=i)];rw[gY]
  . grind
  grind
 |k+1,i,b,f=>by
  have ay:i<v.ai.length:=by omega
  have a:i<x.ag.length:=by omega
  have m:=dy ae;have j:=bh ay ar;have dk:=e i a;unfold oB at dk;rw[hY,bu,ad (by simp[ba]),ad (aN a)];simp only[aT,ak,a',I.aO];rw[ad (by rw[aN ay];rfl),acC (c _ j)];have d:=MP ba g c e ae k (i+1);rw[ey ay ar,ey a aC,gY];cases l:dM (x.ag.getD i aC) (v.ai.getD i ar)with
  |true=>rw[ad rfl,bC,d _ (by omega),ad rfl]
  |false=>
   rw[bq,al (by simp[ba]),ad (aN ay),dk];simp only[ak];rw[zS,bC,d _ (by omega),bq,Nat.max_assoc]
theorem MQ(a:x.Kind=6)(d:j<x.ag.length)(c:hC (x,v.af)=some ((j:Int),true))(e:∀y,y∈v.ai->oB ts y (x.ag.getD j aC).au)(ae:v.ai.length<=reachBytes):
 ∀(k i b:Nat),i+k=v.ai.length->hY ((b:Int),(i:Int),ts,v,x)=some (((max b (eI ts (x.ag.getD j aC).au (v.ai.drop i)):Nat):Int),v)
 |0,i,b,f=>by rw[hY,ch,ef (by omega:v.ai.length<=i),eI,I.aO,Nat.max_zero]
 |k+1,i,b,f=>by
  have ay:i<v.ai.length:=by omega
  have g:=dy ae;have dk:=e _ (bh ay ar);unfold oB at dk;rw[hY,bu,al (by simp[a]),ad (by simp[a]),c];simp only[aT,ak,a',I.aO];rw[ad (aN d),ad (aN ay),dk];simp only[ak];rw[zS,bC,MQ a d c e ae k (i+1) _ (by omega),ey ay ar,eI,Nat.max_assoc]
theorem Dr{b:Nat}(f:hY (0,0,ts,v,x)=some (((max 0 b:Nat):Int),v))(g:b<1152921504606846976)(d:w=1+max (if v.av=[]then 0 else 1) b):
 (hY (0,0,ts,v,x)>>=λo=>if (0<(o.2.av.length:Int):Bool) then some (aM .i64 1 (ix o.1 1))else some (aM .i64 1 o.1))=some (w:Int):=by
 rw[f];simp only[aT,ak];by_cases c:v.av=[]
 . rw[al (by simp[c])];rw[ad c]at d;have:aM .i64 1 ((max 0 b:Nat):Int)=((1+max 0 b:Nat):Int):=vG (a:=1) (by omega);rw[this,d]
 . rw[ad (by
    have:0<v.av.length:=tW.2 c
    grind)]
   rw[al c]at d;have e:ix ((max 0 b:Nat):Int) 1=((max 1 b:Nat):Int):=by
    have:=zS (max 0 b) 1;grind
   rw[e];have:aM .i64 1 ((max 1 b:Nat):Int)=((1+max 1 b:Nat):Int):=vG (a:=1) (by omega);rw[this,d]
theorem acd(H:iF ts)(W:bH v):wt v<=1099511627776->∀t,b6 ts false t v->oB ts v t:=by
 induction W with
 |mk v hs h1 F ah ak O am db aq au aw ap X=>
  intro an t z;have ao:=fg v;have G:∀x,x∈v.ai->∀t,b6 ts false t x->oB ts x t:=λx L t=>X x L (by have:=e2 L;omega) t;obtain⟨⟨ae,ag,w,_⟩,z⟩:=(eO _ _ _).1 z;obtain⟨j,rfl⟩:∃j:Nat,t=(j:Int):=⟨t.toNat,by omega⟩
  have K:j<ts.length:=by omega
  unfold oB;rw[mv,ad (aN K)];simp only[a',I.aO]at z w⊢;have M:=bh K aP;have f:=Dq (ts:=ts) (j:Int) v;simp only[a']at f;have aj:=H.A _ M;have U:=dy (im (H.T _ M).gU);generalize ts.getD j aP=x at*;have b1:∀E,eI ts E v.ai<1152921504606846976:=λE=>by have:=GS ts v.ai E;omega
  have b2:∀E,gY ts E v.ai<1152921504606846976:=λE=>by have:=GR ts v.ai E;omega
  have D:¬x.Kind=5->¬x.Kind=6->(∀y,y∈v.ai->b6 ts false x.aG y)->(hY (0,0,ts,v,x)>>=λo=>if (0<(o.2.av.length:Int):Bool) then some (aM .i64 1 (ix o.1 1))else some (aM .i64 1 o.1))=some ((ep ts (j:Int) v:Nat):Int):=by
   intro a b c;have u:=Mp (ts:=ts) (x:=x) (v:=v) a b (λy C=>G y C _ (c y C)) F v.ai.length 0 0 (by omega);rw[al a,al b]at f;exact Dr u (b1 _) f
  rcases z with⟨k,g,l,m,n,d,p⟩|⟨k,g,l,m,n,d,p,s,B⟩|⟨k,g,l,m,n,d,p,s⟩|⟨k,g,l,m,n,d,p,s⟩|⟨k,g,l,m,n,d,p,s⟩|⟨k,g,l,m,n,d⟩|⟨k,g,l,m,n,d,p,s,B⟩|⟨k,g,l,m,n,d,p,s,B,N,ab⟩|⟨k,g,l,m,n,d,p,s,B⟩<;>rw[k]at w
  . grind
  . grind
  . grind
  . grind
  . obtain⟨R,S⟩:=h4.1 s;have u:=MP (ts:=ts) (x:=x) (v:=v) w.symm R O (λi P=>G _ (bh (by omega) ar) _ (S i P)) F v.ai.length 0 0 (by omega);rw[ad w.symm]at f;exact Dr u (b2 _) f
  . rw[al (show ¬x.Kind=5 by omega),ad w.symm]at f;obtain⟨r,_,aa,z⟩:=mD (t:=x) v.af U;rcases tM z with⟨e,q,Y,Z,J,ax⟩|⟨e,J⟩
    . rw[J]at d f;simp only at d f;obtain⟨d1,d2,d3⟩:=d;have V:r=((q:Int),true):=by rw[<-Z,<-e]
      have u:=MQ (ts:=ts) (x:=x) (v:=v) w.symm Y (by rw[aa,V]) (λy C=>G y C _ (cU.1 d3 y C)) F v.ai.length 0 0 (by omega);exact Dr u (b1 _) f
    . rw[J]at d f;simp only at d f;have Q:v.ai=[]:=d.2.2.2.1;have u:hY (0,0,ts,v,x)=some (((max 0 0:Nat):Int),v):=by rw[hY,al (by simp[Q]),I.aO];rfl
      exact Dr u (by omega) f
  . exact D (by omega) (by omega) (cU.1 B)
  . exact D (by omega) (by omega) (cU.1 N)
  . exact D (by omega) (by omega) (cU.1 B)
set_option maxHeartbeats 400000 in
theorem Ds(H:iF ts)(aU:bH v):wt v<=1099511627776->∀t,b6 ts false t v->iS ts v t:=by
 induction aU with
 |mk v hs h1 Q Z ah R U db X Y aZ aY aX=>
  intro aW t p;have aF:bH v:= .mk v hs h1 Q Z ah R U db X Y aZ;have a6:=fg v;have K:∀x,x∈v.ai->∀t,(bA ts t x).length<=23089744183296:=λx s t=>vI H (R x s) (by have:=e2 s;omega) t;have aO:∀x,x∈v.av->∀t,(bA ts t x).length<=23089744183296:=λx s t=>vI H (ah x s) (by have:=e2 s;omega) t;have G:∀x,x∈v.ai->∀t,b6 ts false t x->iS ts x t:=λx s t=>aX x s (by have:=e2 s;omega) t;have aI:∀x,x∈v.av->∀t,b6 ts false t x->iS ts x t:=λx s t=>aY x s (by have:=e2 s;omega) t;have N:=vI H aF aW t;obtain⟨⟨a4,a5,P,_⟩,p⟩:=(eO _ _ _).1 p;obtain⟨j,rfl⟩:∃j:Nat,t=(j:Int):=⟨t.toNat,by omega⟩
  have ae:j<ts.length:=by omega
  unfold iS;rw[ja,ad (aN ae)];simp only[aT,ak,a',I.aO]at p P⊢;have W:=bh ae aP;have aV:=@As ts (j:Int) v;have an:=@Au ts (j:Int) v;have ao:=@Av ts (j:Int) v;have ap:=@Aw ts (j:Int) v;have V:=@Ax ts (j:Int) v;have aq:=@Ay ts (j:Int) v;have aw:=@Az ts (j:Int) v;have ax:=@AA ts (j:Int) v;have ay:=@AB ts (j:Int) v;simp only[a']at aV an ao ap V aq aw ax ay;have aa:=H.A _ W;have aE:=H.S _ W;have aj:=dy (im (H.T _ W).gU);generalize ts.getD j aP=x at*;rcases p with⟨k,z,B,C,D,o,u⟩|⟨k,z,B,C,D,o,u,w,F⟩|⟨k,z,B,C,D,o,u,w⟩|⟨k,z,B,C,D,o,u,w⟩|⟨k,z,B,C,D,o,u,w⟩|⟨k,z,B,C,D,o⟩|⟨k,z,B,C,D,o,u,w,F⟩|⟨k,z,B,C,D,o,u,w,F,aB,a3⟩|⟨k,z,B,C,D,o,u,w,F⟩<;>rw[k]at P<;>have g:=P.symm
  . grind
  . rw[al (by simp[g]),ad (by simp[g]),an g,tx X];simp only[ak];have az:=zl X;obtain⟨n,aD⟩:∃n:Nat,gg v.bd=(n:Int):=⟨(gg v.bd).toNat,by unfold gg;split<;>omega⟩
    rw[aD,oa]at az;rw[aD,Lf az];rfl
  . rw[al (by simp[g]),al (by simp[g]),ad (by simp[g]),ao g]
  . rw[al (by simp[g]),al (by simp[g]),al (by simp[g]),ad (by simp[g]),ap g]
    obtain⟨n,aD⟩:∃n:Nat,v.af=(n:Int):=⟨v.af.toNat,by
     rcases w with⟨y,m,he⟩|⟨_,_,he⟩
     . have:=aE g y m;unfold cr at this;omega
     . unfold cr at he;omega⟩
    rw[aD,hy,Lf (by omega),oa];rfl
  . rw[al (by simp[g]),al (by simp[g]),al (by simp[g]),al (by simp[g]),al (by simp[g]),al (by simp[g]),al (by simp[g]),al (by simp[g]),V g];obtain⟨L,aQ⟩:=aa (.inl g);obtain⟨aL,aM⟩:=h4.1 w;rw[V g]at N;have am:=W' (xN (ts:=ts) (l:=v.ai) L u) (λy m=>SV L u m);have cY:(λn=>(ft ts x.ag v.ai v.Rest).filter λf=>decide (f.id=n))=xv ts x v:=rfl;rw[cY]at am;rw[am]at N⊢;have:=HW (ts:=ts) aj L u aL (λy m=>U y m) Z R K (λi aK=>G _ (bh (by omega) ar) _ (aM i aK)) 1000 1 [] (by omega) (by omega) (by simp only[ib];omega);have h0:pk ([],1,ts,v,x)=_:=this;rw[h0];rfl
  . rw[al (by simp[g]),al (by simp[g]),al (by simp[g]),al (by simp[g]),al (by simp[g]),ad (by simp[g]),aq g];obtain⟨L,aQ⟩:=aa (.inr g);obtain⟨r,_,a2,p⟩:=mD (t:=x) v.af aj;rcases tM p with⟨e,q,aA,a0,M,a1⟩|⟨e,M⟩
    . rw[M]at o;rw[M];simp only at o⊢;obtain⟨d1,d2,d3⟩:=o;have E:=L.2 _ (bh aA aC);rw[a1]at E;obtain⟨n,aD⟩:∃n:Nat,v.af=(n:Int):=⟨v.af.toNat,by unfold cr at E;omega⟩
      rw[al (by simp[d1]),a2,aD,hy (by unfold cr at E;omega),yX (by unfold cr at E;omega)];simp only[ak];rw[a0,ad (aN aA)]
      match E:v.ai,d2 with
      |[y],_=>
       have m:y∈v.ai:=by rw[E];exact .head _
       have J:aH 0 ([y]:List I).length=true:=aN (k:=0) (by simp);have p:=cU.1 d3 y m;have dk:=G y m _ p;unfold iS at dk;rw[ad J];simp only[a',rC,ki];rw[dk];have aR:=K y m (x.ag.getD q aC).au;have aS:=j7 (n:=n) (by rw[aD]at Y;omega);simp only[ak];rw[ad (fX)];have O:b7 ts (x.ag.getD q aC).au [y]=[bA ts (x.ag.getD q aC).au y]:=by rw[b7,b7]
       rw[O];rfl
    . rw[M]at o;rw[M];simp only at o⊢;obtain⟨d1,d2,d3,d4,d,d5⟩:=o;obtain⟨n,aD⟩:∃n:Nat,v.af=(n:Int):=⟨v.af.toNat,by unfold cr at d3;omega⟩
      have ab:=U ⟨v.af,d⟩ (by rw[d5];exact .head _);simp only at ab;unfold reachBytes at ab;have aS:=j7 (n:=n) (by rw[aD]at Y;omega);rw[d5,aD,hq,hy (by unfold cr at d3;omega),yX (by unfold cr at d3;omega)];simp only[ak];have J:aH 0 ([⟨(n:Int),d⟩]:List bY).length=true:=aN (k:=0) (by simp);rw[ad J];simp only[rC,ki];rw[ad (fX)];rfl
  . rw[al (by simp[g]),al (by simp[g]),al (by simp[g]),al (by simp[g]),al (by simp[g]),al (by simp[g]),ad (by simp[g])];have p:=cU.1 F;rw[aw g]at N⊢;have:=Mo (ts:=ts) (x:=x) (v:=v) (λy m=>by have:=K y m x.aG;omega) (λy m=>G y m x.aG (p y m)) Q v.ai.length 0 [] (by omega) (by simp only[fF,ib];omega);have h0:sX ([],0,ts,v,x)=_:=this;rw[h0];rfl
  . rw[al (by simp[g]),al (by simp[g]),al (by simp[g]),al (by simp[g]),al (by simp[g]),al (by simp[g]),al (by simp[g]),ad (by simp[g])];have p:=cU.1 aB;have aJ:=cU.1 F;rw[ax g]at N⊢;have:=MO (ts:=ts) (x:=x) (v:=v) w (λy m=>by have:=K y m x.aG;omega) (λy m=>by have:=aO y m x.Key;omega) (λy m=>G y m x.aG (p y m)) (λy m=>aI y m x.Key (aJ y m)) Q v.ai.length 0 [] (by omega) (by simp only[fF,ib];omega);have h0:sY ([],0,ts,v,x)=_:=this;rw[h0];rfl
  . rw[al (by simp[g]),al (by simp[g]),al (by simp[g]),al (by simp[g]),ad (by simp[g]),ay g];have p:=cU.1 F
    match E:v.ai,w with
    |[],_=>rw[hq,b7]
    |[y],_=>
     have m:y∈v.ai:=by rw[E];exact .head _
     have J:aH 0 ([y]:List I).length=true:=aN (k:=0) (by simp);rw[bq,ad J];have dk:=G y m x.aG (p y m);unfold iS at dk;simp only[rC,ki];rw[dk];have aR:=K y m x.aG;simp only[ak];rw[ad (fX (by simp;omega))];have O:b7 ts x.aG [y]=[bA ts x.aG y]:=by rw[b7,b7]
     rw[O];rfl
    |a::b::c,h=>simp at h
end
theorem dj.qa{a b:α}(h:eW o a b):dj o (a=b):=h
theorem Ep{j k l:Option Bool}{f g i:Prop}(h1:dj j f)(d:dj k g)(e:dj l i):
 dj (j>>=λm=>(if m then k else some false)>>=λn=>some (bif m then n else false)>>=λt53=>(if t53 then l else some false)>>=λo=>some (bif t53 then o else false)) (f/\g/\i):=by
 obtain⟨a,rfl,h1⟩:=h1;obtain⟨b,rfl,d⟩:=d;obtain⟨c,rfl,e⟩:=e;rw[<-h1,<-d,<-e];cases a<;>cases b<;>cases c<;>exact⟨_,rfl,by simp⟩
theorem Ou(h:dj o P):dj (o>>=λr=>some r) P:=by grind
def pK(a:Bool)(Ms:List aU):Prop:=(∀m,m∈Ms->mg a m=false)/\(a=false\/0<Ms.length)/\fy Ms/\(∀m,m∈Ms->nm m.Name=true)/\(Ms.map (·.Name)).Nodup/\Ms.length<=16
def Ad(S:List c6):Prop:=0<S.length/\(S.Pairwise (λa b=>a.af<b.af)/\∀y,y∈S->cr y.af)/\(∀y,y∈S->nm y.Name=true)/\(S.map (·.Name)).Nodup/\S.length<=16
theorem YC{l:List aj}:l.Nodup↔∀i,i<l.length->(l.take i).contains (l.getD i [])=false:=by
 unfold List.Nodup;rw[p4];constructor
 . intro h i a;apply Fg.2;intro c;obtain⟨k,b,he⟩:=(pU (by omega)).1 c;grind
 . intro h k i d a b he;have:=h i a;rw[Fg]at this;apply this;refine(pU (by omega)).2 ⟨k,b,?_⟩;grind
theorem MR(f:α->Int)(g:α->aj)(d:α)(l:List α):(∀i,i<l.length->kg (l.map f) (l.map g) i=true)↔(l.Pairwise (λa b=>f a<f b)/\∀x,x∈l->cr (f x))/\(∀x,x∈l->nm (g x)=true)/\(l.map g).Nodup:=by
 rw[Dp f d,YC];have key:∀i,i<l.length->(kg (l.map f) (l.map g) i=true↔cr (f (l.getD i d))/\(i=0\/f (l.getD (i-1) d)<f (l.getD i d))/\nm (g (l.getD i d))=true/\((l.map g).take i).contains ((l.map g).getD i [])=false):=by
  intro i c;unfold kg cr;grind
 constructor
 . intro h;refine⟨⟨λi c=>?_,λx j=>?_⟩,λx j=>?_,λi c=>?_⟩
   . grind
   . obtain⟨i,c,rfl⟩:=eS j;grind
   . obtain⟨i,c,rfl⟩:=eS j;grind
   grind
 . rintro ⟨⟨h1,k⟩,m,n⟩ i c
   refine(key i c).2 ⟨k _ (bh c d),?_,m _ (bh c d),n i (by simpa using c)⟩;by_cases h0:i=0
   . omega
   . right;have:=h1 (i-1) (by omega);have e:i-1+1=i:=(by omega);grind
theorem Ll{t:ah}(h:eZ t):dj (sN t) ((∀m,m∈t.ag->mg (decide (t.Kind=6)) m=false)/\(t.Kind=5\/0<t.ag.length)/\fy t.ag/\(∀m,m∈t.ag->nm m.Name=true)/\(t.ag.map (·.Name)).Nodup/\t.ag.length<=16):=by
 obtain⟨r,h1,a⟩:=Kk h;refine⟨r,h1,a.trans ?_⟩;rw[MR (λm:aU=>m.af) (λm:aU=>m.Name) aC];have e:(∀i,i<t.ag.length->mg (decide (t.Kind=6)) (t.ag.getD i aC)=false)↔∀m,m∈t.ag->mg (decide (t.Kind=6)) m=false:=by
  constructor
  . intro h m b;obtain⟨i,c,rfl⟩:=eS b;grind
  grind
 rw[e];unfold fy;grind
theorem aaW{l:List c6}(ae:l.length*24<=reachBytes):dj (uV l) (Ad l):=by
 obtain⟨r,h1,a⟩:=MI ae;refine⟨r,h1,a.trans ?_⟩;rw[MR (λm:c6=>m.af) (λm:c6=>m.Name) dN];unfold Ad;grind
def gi(t:ah):Prop:=
 (t.Kind=1/\t.Name=[]/\t.bB=0/\t.bF=0/\t.Max=0/\t.bg=[]/\t.ag=[]/\t.Key=0/\t.aG=0/\t.Open=false)\/
 (t.Kind=2/\t.Name=[]/\t.bB<=t.bF/\t.Max=0/\t.bg=[]/\t.ag=[]/\t.Key=0/\t.aG=0/\t.Open=false)\/
 (t.Kind=3/\t.Name=[]/\t.bB=0/\t.bF=0/\(0<=t.Max/\t.Max<=200)/\t.bg=[]/\t.ag=[]/\t.Key=0/\t.aG=0/\t.Open=false)\/
 (t.Kind=4/\nm t.Name=true/\t.bB=0/\t.bF=0/\t.Max=0/\Ad t.bg/\t.ag=[]/\t.Key=0/\t.aG=0)\/
 (t.Kind=5/\nm t.Name=true/\t.bB=0/\t.bF=0/\t.Max=0/\t.bg=[]/\pK false t.ag/\t.Key=0/\t.aG=0/\t.Open=false)\/
 (t.Kind=6/\nm t.Name=true/\t.bB=0/\t.bF=0/\t.Max=0/\t.bg=[]/\pK true t.ag/\t.Key=0/\t.aG=0)\/
 (t.Kind=7/\t.Name=[]/\t.bB=0/\t.bF=0/\(0<=t.Max/\t.Max<=50)/\t.bg=[]/\t.ag=[]/\t.Key=0/\t.Open=false)\/
 (t.Kind=8/\t.Name=[]/\t.bB=0/\t.bF=0/\(0<=t.Max/\t.Max<=50)/\t.bg=[]/\t.ag=[]/\t.Open=false)\/
 (t.Kind=9/\t.Name=[]/\t.bB=0/\t.bF=0/\t.Max=0/\t.bg=[]/\t.ag=[]/\t.Key=0/\t.Open=false)
theorem aaX{t:ah}(h:eZ t):dj (gw t) (gi t):=by
 have p:eZ (⟨0,[],0,0,0,[],[],0,0,false⟩:ah):=⟨by simp,by simp,by simp⟩
 obtain⟨c,N,L,H,M,S,Ms,K,E,b⟩:=t;have aE:=h.syms;have d:=h.gU;have e:=h.jd;simp only at aE d e;by_cases f:c=1
 . subst f;have a:=iX (a:=(⟨0,N,L,H,M,S,Ms,K,E,b⟩:ah)) ⟨aE,d,e⟩ (⟨0,[],0,0,0,[],[],0,0,false⟩:ah);refine(Ou (dj.qa a)).imp ?_;unfold gi;simp
 by_cases i:c=2
 . subst i;have a:=iX (a:=(⟨0,N,0,0,M,S,Ms,K,E,b⟩:ah)) ⟨aE,d,e⟩ (⟨0,[],0,0,0,[],[],0,0,false⟩:ah);refine(uv (q:=decide (L<=H)) (Q:=L<=H) (by simp) (dj.qa a)).imp (Q:=gi ⟨2,N,L,H,M,S,Ms,K,E,b⟩) ?_;unfold gi;grind
 by_cases j:c=3
 . subst j;have a:=iX (a:=(⟨0,N,L,H,0,S,Ms,K,E,b⟩:ah)) ⟨aE,d,e⟩ (⟨0,[],0,0,0,[],[],0,0,false⟩:ah);refine(uv (q:=bif decide (0<=M)then decide (M<=200)else false) (Q:=0<=M/\M<=200) (by by_cases g:0<=M<;>simp[g]) (dj.qa a)).imp (Q:=gi ⟨3,N,L,H,M,S,Ms,K,E,b⟩) ?_;unfold gi;grind
 by_cases k:c=4
 . subst k;have a:=iX (a:=(⟨0,[],L,H,M,[],Ms,K,E,false⟩:ah)) ⟨by simp,d,e⟩ (⟨0,[],0,0,0,[],[],0,0,false⟩:ah);refine(Ep (⟨nm N,tB N,Iff.rfl⟩:dj (kJ N) (nm N=true)) (aaW aE) (dj.qa a)).imp (Q:=gi ⟨4,N,L,H,M,S,Ms,K,E,b⟩) ?_;unfold gi;grind
 by_cases l:c=5
 . subst l;have a:=iX (a:=(⟨0,[],L,H,M,S,[],K,E,bif b then decide ((5:Int)=5)else false⟩:ah)) ⟨aE,by simp,by simp⟩ (⟨0,[],0,0,0,[],[],0,0,false⟩:ah);refine(Ep (⟨nm N,tB N,Iff.rfl⟩:dj (kJ N) (nm N=true)) (Ll h) (dj.qa a)).imp (Q:=gi ⟨5,N,L,H,M,S,Ms,K,E,b⟩) ?_;unfold gi pK;grind
 by_cases m:c=6
 . subst m;have a:=iX (a:=(⟨0,[],L,H,M,S,[],K,E,bif b then decide ((6:Int)=5)else false⟩:ah)) ⟨aE,by simp,by simp⟩ (⟨0,[],0,0,0,[],[],0,0,false⟩:ah);refine(Ep (⟨nm N,tB N,Iff.rfl⟩:dj (kJ N) (nm N=true)) (Ll h) (dj.qa a)).imp (Q:=gi ⟨6,N,L,H,M,S,Ms,K,E,b⟩) ?_;unfold gi pK;grind
 by_cases fj:c=7
 . subst fj;have a:=iX (a:=(⟨0,N,L,H,0,S,Ms,K,0,b⟩:ah)) ⟨aE,d,e⟩ (⟨0,[],0,0,0,[],[],0,0,false⟩:ah);refine(uv (q:=bif decide (0<=M)then decide (M<=50)else false) (Q:=0<=M/\M<=50) (by by_cases g:0<=M<;>simp[g]) (dj.qa a)).imp (Q:=gi ⟨7,N,L,H,M,S,Ms,K,E,b⟩) ?_;unfold gi;grind
 by_cases n:c=8
 . subst n;have a:=iX (a:=(⟨0,N,L,H,0,S,Ms,0,0,b⟩:ah)) ⟨aE,d,e⟩ (⟨0,[],0,0,0,[],[],0,0,false⟩:ah);refine(uv (q:=bif decide (0<=M)then decide (M<=50)else false) (Q:=0<=M/\M<=50) (by by_cases g:0<=M<;>simp[g]) (dj.qa a)).imp (Q:=gi ⟨8,N,L,H,M,S,Ms,K,E,b⟩) ?_;unfold gi;grind
 by_cases o:c=9
 . subst o;have a:=iX (a:=(⟨0,N,L,H,M,S,Ms,K,0,b⟩:ah)) ⟨aE,d,e⟩ (⟨0,[],0,0,0,[],[],0,0,false⟩:ah);refine(Ou (dj.qa a)).imp (Q:=gi ⟨9,N,L,H,M,S,Ms,K,E,b⟩) ?_;unfold gi;simp
 refine⟨false,by simp[gw,f,i,j,k,l,m,fj,n,o],?_⟩;unfold gi;grind
structure nb (ts:List ah):Prop where
 n:ts.length<=32
 F:∀t,t∈ts->gi t
 D:∀i,i<ts.length->(!(decide ((ts.getD i aP).Name=[]))&&((ts.map (·.Name)).take i).contains (ts.getD i aP).Name)=false
 U:∀t,t∈ts->∀u,u∈e' t->0<=u/\u<ts.length
 r2:∀t,t∈ts->t.Kind=8->1<=(ts.getD t.Key.toNat aP).Kind/\(ts.getD t.Key.toNat aP).Kind<=4
theorem YD(c':∀t,t∈ts->eZ t){i:Nat}(e:i<ts.length):rN ts i=none↔gi (ts.getD i aP)/\(!(decide ((ts.getD i aP).Name=[]))&&((ts.map (·.Name)).take i).contains (ts.getD i aP).Name)=false/\(∀u,u∈e' (ts.getD i aP)->0<=u/\u<ts.length)/\
 ((ts.getD i aP).Kind=8->1<=(ts.getD (ts.getD i aP).Key.toNat aP).Kind/\(ts.getD (ts.getD i aP).Key.toNat aP).Kind<=4):=by
 obtain⟨r,f1,f2⟩:=aaX (c' _ (bh e aP));rw[It rfl f1,<-f2];have a:(e' (ts.getD i aP)).any (lx ts.length)=false↔∀u,u∈e' (ts.getD i aP)->0<=u/\u<ts.length:=by
  rw[Ff];constructor
  . intro h u a;have:=h u a;unfold lx at this;grind
  . intro h u a;have:=h u a;unfold lx;grind
 rw[<-a];generalize (e' (ts.getD i aP)).any (lx ts.length)=b;generalize (!(decide ((ts.getD i aP).Name=[]))&&((ts.map (·.Name)).take i).contains (ts.getD i aP).Name)=c;have f:(decide ((ts.getD i aP).Kind=8) && !(sQ (ts.getD (ts.getD i aP).Key.toNat aP).Kind))=false↔((ts.getD i aP).Kind=8->1<=(ts.getD (ts.getD i aP).Key.toNat aP).Kind/\(ts.getD (ts.getD i aP).Key.toNat aP).Kind<=4):=by
  unfold sQ;grind
 rw[<-f];generalize (decide ((ts.getD i aP).Kind=8) && !(sQ (ts.getD (ts.getD i aP).Key.toNat aP).Kind))=d;cases r<;>cases b<;>cases c<;>cases d<;>simp
theorem pA(c':∀t,t∈ts->eZ t)(h:nb ts):pY (⟨ts⟩:aQ)=some 0/\vv (⟨ts⟩:aQ)=some 0:=by
 obtain⟨e,h1,c,_,b,_⟩:=Y5 (s:=⟨ts⟩) (by have:=h.n;unfold reachBytes;show ts.length<=_;omega) c';have cY:e=0:=b ⟨h.n,λi a=>(YD c' a).2 ⟨h.F _ (bh a aP),h.D i a,h.U _ (bh a aP),h.r2 _ (bh a aP)⟩⟩;grind
theorem nb.hT(c':∀t,t∈ts->eZ t)(h:nb ts):iF ts:=by
 refine⟨by have:=h.n;omega,c',λt ht=>?_,λt ht m c=>?_,λt ht f=>?_,λt ht f y j=>?_,h.r2⟩
 . have:=h.F t ht;unfold gi at this;unfold n1;omega
 . have:=h.F t ht;unfold gi at this;have o:t.ag≠[]:=by intro e;rw[e]at c;cases c
   have:pK false t.ag\/pK true t.ag:=(by grind);rcases this with a|a
   . exact(a.2.2.1.2 m c).2
   . exact(a.2.2.1.2 m c).2
 . have:=h.F t ht;unfold gi at this;have:pK false t.ag\/pK true t.ag:=(by grind);rcases this with a|a
   . exact⟨a.2.2.1,a.2.2.2.2.2⟩
   . exact⟨a.2.2.1,a.2.2.2.2.2⟩
 . have:=h.F t ht;unfold gi at this;have:Ad t.bg:=(by grind);exact this.2.1.2 y j
def ub(l:List bY):Nat:=(l.map λx=>x.Data.length).sum
theorem abM(l:List bY):(l.map λx=>x.Data.length+1).sum=ub l+l.length:=by
 unfold ub;induction l with
 |nil=>rfl
 |cons a l ih=>simp only[gB,og,ia];omega
def Left(n:Int)(w:Nat)(m:Int):Prop:=m<=n/\-1000000000000000<=m/\(0<=m->(w:Int)+m<=n)
theorem LB(ae:v.Rest.length<=reachBytes)(b:∀x,x∈v.Rest->x.Data.length<=reachBytes):∀(k i:Nat) (n:Int),i+k=v.Rest.length->n<=3000->-1000000000000000<=n->∃m,rj (n,(i:Int),v)=some (m,v)/\Left n (ub (v.Rest.drop i)) m
 |0,i,n,f,c,a=>⟨n,by
  rw[rj,al,I.aO];intro h;have g:¬(i:Int)<(v.Rest.length:Int):=by omega
  simp[g]at h,by
  rw[ef (by omega:v.Rest.length<=i)]
  exact⟨by omega,a,λ_=>by simp[ub]⟩⟩
 |k+1,i,n,f,c,a=>by
  have ay:i<v.Rest.length:=by omega
  have p:=dy ae;have d:=b _ (bh ay bX);unfold reachBytes at d;have g:(i:Int)<(v.Rest.length:Int):=by omega
  rw[rj];by_cases h0:0<=n
  . rw[ad (by simp[g,h0]),ad (aN ay)];simp only[a',I.aO];rw[hj,bC];obtain⟨m,j,q,l,o⟩:=LB ae b k (i+1) (n-((v.Rest.getD i bX).Data.length:Int)) (by omega) (by omega) (by omega);refine⟨m,j,by omega,l,λh=>?_⟩;have:=o h;rw[ey ay bX];have e:ub (v.Rest.getD i bX::v.Rest.drop (i+1))=(v.Rest.getD i bX).Data.length+ub (v.Rest.drop (i+1)):=by unfold ub;simp only[gB,og]
    rw[e];omega
  . refine⟨n,?_,by omega,a,λh=>absurd h h0⟩;rw[al (by simp[g,h0]),I.aO]
theorem LC(ae:v.av.length<=reachBytes)(ih:∀x,x∈v.av->∀n,0<=n->n<=3000->∃m,nW (x,n)=some m/\Left n (wt x) m):∀(k i:Nat) (n:Int),i+k=v.av.length->n<=3000->-1000000000000000<=n->∃m,sk (n,(i:Int),v)=some (m,v)/\Left n (cB (v.av.drop i)) m
 |0,i,n,d,c,b=>⟨n,by
  rw[sk,al,I.aO];intro h;have g:¬(i:Int)<(v.av.length:Int):=by omega
  simp[g]at h,by
  rw[ef (by omega:v.av.length<=i),gF]
  exact⟨by omega,b,λ_=>by simp⟩⟩
 |k+1,i,n,d,c,b=>by
  have ay:i<v.av.length:=by omega
  have l:=dy ae;have g:(i:Int)<(v.av.length:Int):=by omega
  rw[sk];by_cases h0:0<=n
  . obtain⟨a,a1,a2,a3,a4⟩:=ih _ (bh ay ar) n h0 c;rw[ad (by simp[g,h0]),ad (aN ay)];simp only[a',I.aO];rw[a1];simp only[aT,ak];rw[bC];obtain⟨m,e,o,f,j⟩:=LC ae ih k (i+1) a (by omega) (by omega) (by omega);refine⟨m,e,by omega,f,λh=>?_⟩;have:=j h;have:=a4 (by omega);rw[ey ay ar,gO];omega
  . refine⟨n,?_,by omega,b,λh=>absurd h h0⟩;rw[al (by simp[g,h0]),I.aO]
theorem LD(ae:v.ai.length<=reachBytes)(ih:∀x,x∈v.ai->∀n,0<=n->n<=3000->∃m,nW (x,n)=some m/\Left n (wt x) m):∀(k i:Nat) (n:Int),i+k=v.ai.length->n<=3000->-1000000000000000<=n->∃m,sm (n,(i:Int),v)=some m/\Left n (cB (v.ai.drop i)) m
 |0,i,n,d,c,b=>⟨n,by
  rw[sm,al];intro h;have g:¬(i:Int)<(v.ai.length:Int):=by omega
  simp[g]at h,by
  rw[ef (by omega:v.ai.length<=i),gF]
  exact⟨by omega,b,λ_=>by simp⟩⟩
 |k+1,i,n,d,c,b=>by
  have ay:i<v.ai.length:=by omega
  have l:=dy ae;have g:(i:Int)<(v.ai.length:Int):=by omega
  rw[sm];by_cases h0:0<=n
  . obtain⟨a,a1,a2,a3,a4⟩:=ih _ (bh ay ar) n h0 c;rw[ad (by simp[g,h0]),ad (aN ay)];simp only[a',I.aO];rw[a1];simp only[aT,ak];rw[bC];obtain⟨m,e,o,f,j⟩:=LD ae ih k (i+1) a (by omega) (by omega) (by omega);refine⟨m,e,by omega,f,λh=>?_⟩;have:=j h;have:=a4 (by omega);rw[ey ay ar,gO];omega
  . refine⟨n,?_,by omega,b,λh=>absurd h h0⟩;rw[al (by simp[g,h0])]
theorem agF(r:bH v):∀n:Int,0<=n->n<=3000->∃m,nW (v,n)=some m/\Left n (wt v) m:=by
 induction r with
 |mk v hs h1 o d x w q db y z A t s=>
  intro n h0 aD;have aK:aM .i64 (aM .i64 10 (v.bl.length:Int)) (v.Rest.length:Int)=((10+v.bl.length+v.Rest.length:Nat):Int):=by
   have a1:=dy hs;have a2:=dy d;unfold reachBytes at hs d;have:aM .i64 10 (v.bl.length:Int)=((10+v.bl.length:Nat):Int):=vG (a:=10) (by omega);rw[this,vG (by omega)]
  unfold reachBytes at hs;have p:=d;unfold reachBytes at p;have l:dh .i64 n ((10+v.bl.length+v.Rest.length:Nat):Int)=n-((10+v.bl.length+v.Rest.length:Nat):Int):=hj;obtain⟨a,a1,a2,a3,a4⟩:=LB d q v.Rest.length 0 (n-((10+v.bl.length+v.Rest.length:Nat):Int)) (by omega) (by omega) (by omega);obtain⟨b,b1,b2,b3,b4⟩:=LC h1 t v.av.length 0 a (by omega) (by omega) (by omega);obtain⟨c,g,u,j,k⟩:=LD o s v.ai.length 0 b (by omega) (by omega) (by omega);have e:rj (n-((10+v.bl.length+v.Rest.length:Nat):Int),0,v)=_:=a1;have f:sk (a,0,v)=_:=b1;have i:sm (b,0,v)=_:=g;refine⟨c,?_,by omega,j,λh=>?_⟩
  . rw[nW];simp only[I.aO];rw[aK,l,e];simp only[aT,ak,I.aO];rw[f];simp only[ak,I.aO];rw[i];rfl
  . have:=k h;have:=b4 (by omega);have:=a4 (by omega);rw[fg,abM];grind
theorem GH(a:bH v):∃b,vu v=some b/\(b=true->wt v<=3000):=by
 obtain⟨m,c,e,f,d⟩:=agF a 3000 (by omega) (by omega);rw[vu];simp only[I.aO];rw[c];refine⟨decide (0<=m),rfl,λh=>?_⟩;have h0:0<=m:=gV h;have:=d h0;omega
theorem X1(aD:ts.length<9223372036854775807)(c':∀t,t∈ts->eZ t)(bI:∀t,t∈ts->n1 t.Kind)(b:bH v)(t:Int):dj (vx ((⟨ts⟩:aQ),t,v)) (b6 ts true t v):=by
 obtain⟨r,h1,a⟩:=y7 aD c' bI b t true;refine⟨r,?_,a⟩;rw[vx];simp only[I.aO];rw[h1];rfl
def acD(ts:List ah)(ms:List aU):Prop:=∀m,m∈ms->m.bW=true->b6 ts true m.au m.bw
theorem agk{t:aJ}{x:t.den cO.D}(h:Ok cO [t] x):∀d,d∈t.row cO x->WF cO d:=λd a=>h ⟨t,x⟩ (Fe ..) d a
theorem abN(H:iF ts)(b:bH v)(c:wt v<=1099511627776)(a:b6 ts false t v):
 j2 (t,v,1,ts,0)=some (bA ts t v,ts,((ep ts t v:Nat):Int)):=by
 have h:=acb H b c t a 1 0 (by omega) (by omega);have d:=te (ts:=ts) t v;have e:max 0 (1+ep ts t v-1)=ep ts t v:=by omega
 rw[e]at h;exact h
noncomputable def kf (ts:List ah)(t:Int)(v:I):aj×Int:=
 if 4096<(bA ts t v).length\/200<ep ts t v then([],3)else(bA ts t v,0)
abbrev fz:=dr
abbrev eP:=br
abbrev aeb:=iV
theorem tP{a:Int}(h:¬a=0):(!(decide (a=0)))=true:=by simp[h]
theorem hf{x m:Int}(h:0<=x:=by omega)(a:0<=m:=by omega):b' x m=x%m:=by unfold b';rw[Int.tmod_eq_emod_of_nonneg h]
theorem acE{x:Int}(h:0<=x)(a:x<=255):fw .u8 x 4=x/4:=by
 unfold fw;rw[yr h,IntKind.wrap_u8];omega
theorem ll{x:Int}(h:cw x):bV .i64 x=x:=by
 unfold bV cw at*;rw[IntKind.wrap_i64];omega
theorem Ic{k:Int}(h:0<=k/\k<=25):mF (bV .i32 (aM .i64 97 k))=[UInt8.ofNat (97+k.toNat)]:=by
 have key:∀k:Nat,k<26->mF (bV .i32 (aM .i64 97 (k:Int)))=[UInt8.ofNat (97+k)]:=by decide+kernel
 grind
theorem acF{k:Int}(h:0<=k/\k<=25):mF (bV .i32 (aM .i64 65 k))=[UInt8.ofNat (65+k.toNat)]:=by
 have key:∀k:Nat,k<26->mF (bV .i32 (aM .i64 65 (k:Int)))=[UInt8.ofNat (65+k)]:=by decide+kernel
 grind
theorem Ku{s:aj}(h0:s≠[])(ae:s.length<=24)(h:∀i:Nat,i<s.length->mG (fr s i)=true):nm s=true:=by
 have key:∀k i:Nat,i+k=s.length->k8 (s,(s.length:Int),(i:Int))=some (.inr ()):=by
  intro k;induction k with
  |zero=>intro i d;rw[k8,ch]
  |succ k ih=>
   intro i d;rw[k8,bu,ad (aN (by omega)),DD,h i (by omega)];simp only[aT,ak,cW];rw[ad (by rw[aN (by omega)];rfl),bC];exact ih (i+1) (by omega)
 have a:0<s.length:=tW.2 h0;have b:=h 0 a;have e:aH 0 s.length=true:=aN (k:=0) a;have ht:(bif decide (s=[])then true else decide (24<(s.length:Int)))=false:=by grind
 have f:k8 (s,(s.length:Int),0)=some (.inr ()):=key s.length 0 (by omega);have c:mG (fr s 0)=true:=b;unfold nm;rw[kJ];simp only[aT,ak];rw[ht,e,DD,c];grind
theorem acG(h:65<=c/\c<=90\/97<=c/\c<=122):nm [UInt8.ofNat c]=true:=by
 refine Ku (by simp) (by simp) λi a=>?_;have:i=0:=by simp at a;omega
 subst this;have e:fr [UInt8.ofNat c] ((0:Nat):Int)=(c:Int):=by
  rw[qV];simp only[ki];rw[lb]
 rw[e];unfold mG;simp;omega
theorem Ov{b:Nat}(d:97<=b/\b<=122)(h:97<=c/\c<=122):nm [UInt8.ofNat b,UInt8.ofNat c]=true:=by
 refine Ku (by simp) (by simp) λi a=>?_;have:i=0\/i=1:=by simp at a;omega
 rcases this with rfl|rfl
 . rw[qV];simp only[ki];rw[lb];unfold mG;simp;omega
 . rw[qV];simp only[yc,ki];rw[lb];unfold mG;simp;omega
def da(x:Int):Prop:=0<=x/\x<=255
structure oy (x:fz):Prop where
 k:da x.Kind
 a:da x.A
 b:da x.B
 c:da x.C
 p:∀q,q∈x.c2->da q.af/\da q.au/\da q.gZ
 l:x.c2.length<=reachBytes
def ee(aI:List fz)(i:Int):Int:=1+(aI.getD i.toNat eP).Kind%9
section
variable {aI:List fz}(cp:∀x,x∈aI->oy x)(ba:aI.length<=5)
include cp ba in
theorem ry{i:Int}(h0:0<=i)(h1:i<aI.length):ru ((⟨aI⟩:ek),i)=some (ee aI i)/\1<=ee aI i/\ee aI i<=9:=by
 obtain⟨j,rfl⟩:∃j:Nat,i=(j:Int):=⟨i.toNat,by omega⟩
 have c:=(cp _ (bh (by omega:j<aI.length) eP)).k;unfold ee;rw[a'];obtain⟨a,b⟩:=c;refine⟨?_,by omega,by omega⟩;rw[ru,ad (aN (by omega:j<aI.length)),a',hf a,ll ⟨by omega,by omega⟩,kb]
def Eo(aI:List fz)(i u:Int):Prop:=0<=u/\u<aI.length/\(7<=ee aI u\/u<i)
include cp ba in
theorem Lm:∀(k i:Nat),i+k=aI.length->nM ((aI.length:Int),(i:Int),aI)=some (.inr ())\/∃u:Int,nM ((aI.length:Int),(i:Int),aI)=some (.inl u)/\0<=u/\u<aI.length/\7<=ee aI u
 |0,i,b=>.inl (by rw[nM,ch])
 |k+1,i,b=>by
  obtain⟨e,_,_⟩:=ry cp ba (i:=(i:Int)) (by omega) (by omega);rw[nM,bu,e];simp only[aT,ak,yH];by_cases a:7<=ee aI i
  . grind
  . rw[al (by simpa using a),bC];exact Lm k (i+1) (by omega)
include cp ba in
theorem aaY(h1:1<=aI.length){i:Int}(o:0<=i/\i<aI.length)(g:da code):∃u,yI ((⟨aI⟩:ek),i,code)=some u/\(u<0\/Eo aI i u):=by
 have m:bV .i64 code=code:=ll ⟨by unfold da at g;omega,by unfold da at g;omega⟩;obtain⟨l,n⟩:=g;have d:0<=code%(aI.length:Int):=l4 _ (by omega);have j:code%(aI.length:Int)<aI.length:=l0 _ (by omega);rw[yI];simp only[aT,ak];rw[ad (tP (by omega)),m,hf l];obtain⟨e,_,_⟩:=ry cp ba d j;rw[e];simp only[ak,yH];by_cases f:7<=ee aI (code%(aI.length:Int))
 . rw[ad (by simp[f])];exact⟨_,rfl,.inr ⟨d,j,.inl f⟩⟩
 . by_cases ay:code%(aI.length:Int)<i
   . rw[ad (by simp[ay])];exact⟨_,rfl,.inr ⟨d,j,.inr ay⟩⟩
   . rw[al (by simp[f,ay])];by_cases k:0<i
     . rw[ad (by simpa using k),bu,hf d];have a0:0<=code%(aI.length:Int)%i:=l4 _ (by omega);have a1:code%(aI.length:Int)%i<i:=l0 _ (by omega);exact⟨_,rfl,.inr ⟨a0,by omega,.inr a1⟩⟩
     . rw[al (by simpa using k)];have h0:=Lm cp ba aI.length 0 (by omega);have cY:nM ((aI.length:Int),((0:Nat):Int),aI)=nM ((aI.length:Int),0,aI):=rfl;rw[cY]at h0;rcases h0 with h|⟨u,h,a,b,c⟩
       . grind
       . rw[h];exact⟨u,rfl,.inr ⟨a,b,.inl c⟩⟩
def ox(aI:List fz)(u:Int):Prop:=0<=u/\u<aI.length/\1<=ee aI u/\ee aI u<=4
include cp ba in
theorem Ow{code:Int}(l:da code)(h1:1<=aI.length):∀(k i:Nat),i+k=aI.length->(nT (code,(aI.length:Int),(i:Int),aI)=some (.inr ())/\∀m:Nat,i<=m->m<aI.length->¬ox aI ((code+m)%(aI.length:Int)))\/∃u:Int,nT (code,(aI.length:Int),(i:Int),aI)=some (.inl u)/\ox aI u
 |0,i,n=>.inl ⟨by rw[nT,ch],λm a b=>by omega⟩
 |k+1,i,n=>by
  obtain⟨g,j⟩:=l;have d:0<=(code+i)%(aI.length:Int):=l4 _ (by omega);have f:(code+i)%(aI.length:Int)<aI.length:=l0 _ (by omega);obtain⟨e,aK,p⟩:=ry cp ba d f;rw[nT,bu,ad (tP (by omega)),ll ⟨by omega,by omega⟩,kb,hf];simp only[aT,ak];rw[e];simp only[ak,yA];by_cases c:ee aI ((code+i)%(aI.length:Int))<=4
  . rw[ad (by simp[aK,c])];exact .inr ⟨_,rfl,d,f,aK,c⟩
  . rw[al (by simp[c]),bC];rcases Ow ⟨g,j⟩ h1 k (i+1) (by omega)with⟨a,b⟩|h
    . refine .inl ⟨a,λm q r=>?_⟩;by_cases o:m=i
      . subst o;rintro ⟨_,_,_,h⟩;exact c h
      grind
    grind
include cp ba in
theorem Ox(b:da code)(h1:1<=aI.length):∃u,sL ((⟨aI⟩:ek),code)=some u/\((u= -1/\∀w,¬ox aI w)\/ox aI u):=by
 rw[sL];have h0:=Ow cp ba b h1 aI.length 0 (by omega);have cY:nT (code,(aI.length:Int),((0:Nat):Int),aI)=nT (code,(aI.length:Int),0,aI):=rfl;rw[cY]at h0;rcases h0 with⟨h,a⟩|⟨u,h,a⟩
 . rw[h];refine⟨-1,rfl,.inl ⟨rfl,λw d=>?_⟩⟩;have f:=d;obtain⟨jC,g,_⟩:=f;have c:0<=(w-code)%(aI.length:Int):=l4 _ (by omega);have i:(w-code)%(aI.length:Int)<aI.length:=l0 _ (by omega);refine a ((w-code)%(aI.length:Int)).toNat (by omega) (by omega) ?_;have e:(code+(((w-code)%(aI.length:Int)).toNat:Int))%(aI.length:Int)=w:=by
    rw[yd c,Int.add_emod_emod];have:code+(w-code)=w:=(by omega);rw[this];exact Int.emod_eq_of_lt jC g
   grind
 grind
theorem Ie{x:fz}(h:oy x):pO x=some (x.A%7-3):=by
 have:=h.a;unfold da at this;rw[pO,hf this.1,ll ⟨by omega,by omega⟩,hj]
theorem MS{x:fz}(h:oy x):sG x=some (x.A%7-3+x.B%6):=by
 have d:=h.a;have c:=h.b;unfold da at d c;rw[sG,Ie h];simp only[aT,ak];rw[hf c.1,ll ⟨by omega,by omega⟩,kb]
def uj(l:aq)(n:Int):Prop:=l.Pairwise (· < ·)/\∀x,x∈l->1<=x/\x<=n
theorem HJ{x:fz}:∀(k i:Nat) (acc:aq),i+k=6->uj acc i->acc.length<=i->∃l,o4 ((i:Int),x,acc)=some l/\uj l 6/\l.length<=6
 |0,i,acc,f,c,ae=>⟨acc,by rw[o4,ch],⟨c.1,λy d=>by have:=c.2 y d;omega⟩,by omega⟩
 |k+1,i,acc,f,c,ae=>by
  have e:uj acc ((i+1:Nat):Int):=⟨c.1,λy d=>by have:=c.2 y d;omega⟩
  rw[o4,bu,hq];simp only[aT,ak];rw[bC];split
  . rw[ad (cL)];refine HJ k (i+1) _ (by omega) ⟨?_,λy d=>?_⟩ (by simp;omega)
    . rw[Fb];refine⟨c.1,by simp,λa h1 b g=>?_⟩;have:=c.2 a h1;grind
    . rcases ga.1 d with h|h
      . have:=c.2 y h;omega
      grind
  . exact HJ k (i+1) acc (by omega) e (by omega)
theorem acH(x:fz):∃l,np x=some l/\uj l 6/\1<=l.length/\l.length<=6:=by
 obtain⟨l,h1,d,e⟩:=HJ (x:=x) 6 0 [] (by omega) ⟨.nil,λy b=>by cases b⟩ (by simp);have c:o4 (0,x,[])=some l:=h1;rw[np,c];simp only[aT,ak];cases l with
 |nil=>
  rw[hq,ad (cL (by omega) (by simp))];exact⟨_,rfl,⟨by simp,λy b=>by simp at b;omega⟩,by simp,by simp⟩
 |cons a l=>grind
def kh(x:fz):aq:=(np x).getD []
theorem uM(x:fz):np x=some (kh x)/\uj (kh x) 6/\1<=(kh x).length/\(kh x).length<=6:=by
 obtain⟨l,h1,a⟩:=acH x;unfold kh;grind
def me(k:Int)(x:fz)(key:Prop)(v:I):Prop:=
 v.av=[]/\v.ai=[]/\v.Rest=[]/\
 (k=1/\v.Kind=1/\v.bd=0/\v.bl=[]/\v.af=0\/
  k=2/\v.Kind=2/\v.bM=false/\v.bl=[]/\v.af=0/\x.A%7-3<=v.bd/\v.bd<=x.A%7-3+x.B%6\/
  k=3/\v.Kind=3/\v.bM=false/\v.bd=0/\v.af=0/\(v.bl.length:Int)<=x.A%4\/
  k=4/\v.Kind=4/\v.bM=false/\v.bd=0/\v.bl=[]/\v.af∈kh x\/
  7<=k/\v.bM=false/\v.bd=0/\v.bl=[]/\v.af=0/\(v.Kind=k/\(k=8->key)\/k=8/\v.Kind=7/\¬key))
def Init(aI:List fz)(t:Int)(v:I):Prop:=me (ee aI t) (aI.getD t.toNat eP) (∃w,ox aI w) v
include cp ba in
theorem YE(h1:1<=aI.length)(ht:0<=t/\t<aI.length)(p:da code):∃r,yB ((⟨aI⟩:ek),t,code)=some r/\(r.2=false->r.1=ar)/\(r.2=true->Init aI t r.1):=by
 obtain⟨j,rfl⟩:∃j:Nat,t=(j:Int):=⟨t.toNat,by omega⟩
 have l:j<aI.length:=by omega
 have c:=cp _ (bh l eP);obtain⟨e,M,N⟩:=ry cp ba ht.1 ht.2;obtain⟨u,C,D⟩:=Ox cp ba (code:=0) ⟨by omega,by omega⟩ h1;obtain⟨d,I⟩:=p;rw[yB,ad (aN l)];simp only[aT,ak,a'];rw[e];simp only[ak];unfold Init;simp only[a'];have y:=uM (aI.getD j eP);generalize ee aI (j:Int)=k at*;generalize aI.getD j eP=x at*;have i:=c.a;have o:=c.b;unfold da at i o;have s:k=1\/k=2\/k=3\/k=4\/k=5\/k=6\/k=7\/k=8\/k=9:=by omega
 rcases s with rfl|rfl|rfl|rfl|rfl|rfl|rfl|rfl|rfl
 . exact⟨_,rfl,λh=>(by cases h),λ_=>by unfold me;simp⟩
 . have el:=Ie c;have n:=MS c;have aK:aM .i64 (dh .i64 (x.A%7-3+x.B%6) (x.A%7-3)) 1=x.B%6+1:=by rw[hj,kb];omega
   have m:b' (bV .i64 code) (x.B%6+1)=code%(x.B%6+1):=by rw[ll ⟨by omega,by omega⟩,hf d]
   have G:0<=code%(x.B%6+1):=l4 _ (by omega);have H:code%(x.B%6+1)<x.B%6+1:=l0 _ (by omega);have dn:aM .i64 (x.A%7-3) (code%(x.B%6+1))=x.A%7-3+code%(x.B%6+1):=kb;simp only[Int.reduceEq,cZ,c9,bK,bT,bJ,ak,dV,dK];rw[el];simp only[aT,ak];rw[n];simp only[ak];rw[aK,bu,m,dn];exact⟨_,rfl,λh=>(by cases h),λ_=>by unfold me;simp;omega⟩
 . simp only[Int.reduceEq,cZ,c9,bK,bT,bJ,ak,dV,dK];rw[hf i.1,hf d];by_cases g:0<x.A%4
   . by_cases f:code%2=1
     . rw[ad (by simp[g,f])];exact⟨_,rfl,λh=>(by cases h),λ_=>by unfold me;simp;omega⟩
     . rw[al (by simp[f])];exact⟨_,rfl,λh=>(by cases h),λ_=>by unfold me;simp;omega⟩
   . rw[al (by simp[g])];exact⟨_,rfl,λh=>(by cases h),λ_=>by unfold me;simp;omega⟩
 . obtain⟨F,J,K,L⟩:=y;simp only[Int.reduceEq,cZ,c9,bK,bT,bJ,ak,dV,dK];rw[F];simp only[aT,ak];have G:0<=code%((kh x).length:Int):=l4 _ (by omega);have H:code%((kh x).length:Int)<((kh x).length:Int):=l0 _ (by omega);rw[ad (tP (by omega)),ll ⟨by omega,by omega⟩,hf d];obtain⟨q,z⟩:∃q:Nat,code%((kh x).length:Int)=(q:Int):=⟨(code%((kh x).length:Int)).toNat,by omega⟩
   rw[z,ad (aN (by omega)),a'];exact⟨_,rfl,λh=>(by cases h),λ_=>by unfold me;simp;rw[<-E2];exact bh (by omega) 0⟩
 . exact⟨_,rfl,λ_=>rfl,λh=>by cases h⟩
 . exact⟨_,rfl,λ_=>rfl,λh=>by cases h⟩
 . exact⟨_,rfl,λh=>(by cases h),λ_=>by unfold me;simp⟩
 . simp only[Int.reduceEq,cZ,c9,bK,bT,bJ,ak,dV,dK];rw[C];rcases D with⟨rfl,a⟩|a
   . exact⟨_,rfl,λh=>(by cases h),λ_=>by unfold me;simp;exactλw E=>a w E⟩
   . have v:¬u<0:=by have:=a.1;omega
     simp only[aT,ak];rw[al (by simp[v])];exact⟨_,rfl,λh=>(by cases h),λ_=>by unfold me;simp;exact⟨u,a⟩⟩
 . exact⟨_,rfl,λh=>(by cases h),λ_=>by unfold me;simp⟩
structure um (aI:List fz)(i:Int)(record:Bool)(m:aU):Prop where
 id:1<=m.af/\m.af<=12
 name:m.Name=[UInt8.ofNat 109,UInt8.ofNat (97+m.af.toNat)]
 rP:Eo aI i m.au
 fZ:m.cn=true->m.bW=false
 un:record=false->m.cn=false/\m.bW=false
 Q9:m.bW=false->m.bw=ar
 kc:m.bW=true->Init aI m.au m.bw
include cp ba in
theorem LF(h1:1<=aI.length){i:Int}(o:0<=i/\i<aI.length){x:fz}(f:oy x)(record:Bool){id:Int}(d:1<=id/\id<=12){acc:List aU}(v:acc.length<=12):
 ∀(k j:Nat),j+k=x.c2.length->∃l,q8 (i,record,id,(j:Int),aI,x,acc)=some (i,record,id,aI,x,acc++l)/\l.length<=1/\∀m,m∈l->m.af=id/\um aI i record m
 |0,j,w=>⟨[],by rw[q8,ch];simp,by simp,λm z=>by cases z⟩
 |k+1,j,w=>by
  have ay:j<x.c2.length:=by omega
  have N:=dy f.l;obtain⟨E,F,G⟩:=f.p _ (bh ay aeb);obtain⟨u,C,O⟩:=aaY cp ba h1 o F;rw[q8,bu,ad (aN ay)];simp only[aT,ak,a'];have D:yI ((⟨aI⟩:ek),i,(x.c2.getD j iV).au)=some u:=C;rw[D];simp only[ak];generalize q:x.c2.getD j iV=p;have Q:da p.af:=by rw[<-q];exact E
  have H:da p.gZ:=by rw[<-q];exact G
  obtain⟨f1,f2⟩:=H;have aK:b' p.gZ 4=p.gZ%4:=hf f1;have t:fw .u8 p.gZ 4=p.gZ/4:=acE f1 f2;have M:=LF h1 o f record d v k (j+1) (by omega);by_cases s:(bif (!(decide (aM .i64 1 (bV .i64 (b' p.af 12))=id)))then true else decide (u<0))=true
  . rw[ad s,bC];exact M
  . rw[al s];have c:Eo aI i u:=(by grind);have B:=Ic (k:=id) ⟨by omega,by omega⟩;rw[B];have A:([109]++[UInt8.ofNat (97+id.toNat)]:aj)=[UInt8.ofNat 109,UInt8.ofNat (97+id.toNat)]:=rfl;rw[ad (fX (by simp)),A,aK,t];obtain⟨r,J,K,L⟩:=YE cp ba h1 ⟨c.1,c.2.1⟩ (code:=p.gZ/4) ⟨by omega,by omega⟩;have e:∀m:aU,room 160 (acc++[m]).length=true:=λm=>cL;have done:∀m:aU,m.af=id->um aI i record m->∃l,(some (i,record,id,aI,x,acc++[m]):Option (Int×Bool×Int×List fz×fz×List aU))=some (i,record,id,aI,x,acc++l)/\l.length<=1/\∀m,m∈l->m.af=id/\um aI i record m:=λm a b=>⟨[m],rfl,by simp,λy P=>by grind⟩
    cases record with
    |false=>
     simp only[dV,bK,bT];rw[ad (e _)];exact done _ rfl ⟨d,rfl,c,λh=>(by cases h),λ_=>⟨rfl,rfl⟩,λ_=>rfl,λh=>by cases h⟩
    |true=>
     simp only[dK];by_cases g:p.gZ%4=1
     . rw[ad (by simpa using g),ch,ad (e _)];exact done _ rfl ⟨d,rfl,c,λ_=>rfl,λh=>(by cases h),λ_=>rfl,λh=>by cases h⟩
     . rw[al (by simpa using g)];by_cases n:2<=p.gZ%4
       . rw[ad (by simpa using n),J];simp only[ak,I.aO];rw[ad (e _)];exact done _ rfl ⟨d,rfl,c,λh=>(by cases h),λh=>(by cases h),K,L⟩
       . rw[al (by simpa using n),ad (e _)];exact done _ rfl ⟨d,rfl,c,λh=>(by cases h),λh=>(by cases h),λ_=>rfl,λh=>by cases h⟩
def uo(aI:List fz)(i:Int)(record:Bool)(l:List aU):Prop:=l.Pairwise (λa b=>a.af<b.af)/\(∀m,m∈l->um aI i record m)/\l.length<=12
include cp ba in
theorem LG(h1:1<=aI.length){i:Int}(f:0<=i/\i<aI.length){x:fz}(j:oy x)(record:Bool):∀(k id:Nat) (acc:List aU),id+k=13->1<=id->
 acc.Pairwise (λa b=>a.af<b.af)->(∀m,m∈acc->um aI i record m/\m.af<id)->acc.length<id->∃l,rf (i,record,(id:Int),aI,x,acc)=some l/\uo aI i record l
 |0,id,acc,n,h0,d,e,ae=>⟨acc,by rw[rf,ch],d,λm g=>(e m g).1,by omega⟩
 |k+1,id,acc,n,h0,d,e,ae=>by
  rw[rf,bu];obtain⟨l,o,l2,s⟩:=LF cp ba h1 f j record (id:=(id:Int)) ⟨by omega,by omega⟩ (acc:=acc) (by omega) x.c2.length 0 (by omega);have p:q8 (i,record,(id:Int),0,aI,x,acc)=_:=o;rw[p];simp only[aT,ak];rw[bC];refine LG h1 f j record k (id+1) _ (by omega) (by omega) ?_ (λm g=>?_) (by simp;omega)
  . rw[Fb];refine⟨d,?_,λa q b r=>?_⟩
    . match l,l2 with
      |[],_=>exact .nil
      |[a],_=>simp
      |a::b::c,h=>simp at h
    grind
  grind
include cp ba in
theorem LH(h1:1<=aI.length){i:Int}(b:0<=i/\i<aI.length)(record:Bool):∃l,sB ((⟨aI⟩:ek),i,record)=some l/\uo aI i record l:=by
 obtain⟨j,rfl⟩:∃j:Nat,i=(j:Int):=⟨i.toNat,by omega⟩
 have a:j<aI.length:=by omega
 have d:=cp _ (bh a eP);obtain⟨l,e,l2⟩:=LG cp ba h1 b d record 12 1 [] (by omega) (by omega) .nil (λm c=>by cases c) (by simp);refine⟨l,?_,l2⟩;have f:rf ((j:Int),record,1,aI,aI.getD j eP,[])=some l:=e;rw[sB,ad (aN a),a'];grind
def qc(l:aq):List c6:=l.map λj=>⟨j,[UInt8.ofNat 115,UInt8.ofNat (97+j.toNat)]⟩
theorem MT{l:aq}(ae:l.length<=6)(g:∀x,x∈l->1<=x/\x<=6)(n i:Int)(b:List fz)(b1:Int)(b2:aj)(b3 b4 a c d:Int)(e:Bool)(f:List ah):∀(k j:Nat) (acc:List c6),j+k=l.length->acc.length<=j->
 oX (n,i,l,(j:Int),b,b1,b2,b3,b4,a,c,d,e,f,acc)=some (n,i,b,b1,b2,b3,b4,a,c,d,e,f,acc++qc (l.drop j))
 |0,j,acc,o,m=>by
  rw[oX,ch,ef (by omega:l.length<=j)];simp[qc]
 |k+1,j,acc,o,m=>by
  have ay:j<l.length:=by omega
  have p:=g _ (bh ay 0);rw[oX,bu,ad (aN ay),ad (aN ay)];simp only[aT,ak,a'];rw[Ic ⟨by omega,by omega⟩,ad (fX (by simp)),ad (cL),bC,MT ae g n i b b1 b2 b3 b4 a c d e f k (j+1) _ (by omega) (by simp;omega),ey ay 0];simp[qc]
def fh(aI:List fz)(i:Int)(t:ah):Prop:=
 let x:=aI.getD i.toNat eP;let n:=(aI.length:Int)
 let a:=[UInt8.ofNat (65+i.toNat)]
 (ee aI i=1/\t=⟨1,[],0,0,0,[],[],0,0,false⟩)\/
 (ee aI i=2/\t=⟨2,[],x.A%7-3,x.A%7-3+x.B%6,0,[],[],0,0,false⟩)\/
 (ee aI i=3/\t=⟨3,[],0,0,x.A%4,[],[],0,0,false⟩)\/
 (ee aI i=4/\∃o,t=⟨4,a,0,0,0,qc (kh x),[],0,0,o⟩)\/
 (ee aI i=5/\∃l,uo aI i true l/\t=⟨5,a,0,0,0,[],l,0,0,false⟩)\/
 (ee aI i=6/\t=⟨5,a,0,0,0,[],[],0,0,false⟩)\/
 (ee aI i=6/\∃l o,uo aI i false l/\0<l.length/\t=⟨6,a,0,0,0,[],l,0,0,o⟩)\/
 (ee aI i=7/\t=⟨7,[],0,0,x.A%4,[],[],0,x.C%n,false⟩)\/
 (ee aI i=8/\(∀w,¬ox aI w)/\t=⟨7,[],0,0,x.A%4,[],[],0,x.C%n,false⟩)\/
 (ee aI i=8/\∃k,ox aI k/\t=⟨8,[],0,0,x.A%4,[],[],k,x.C%n,false⟩)\/
 (ee aI i=9/\t=⟨9,[],0,0,0,[],[],0,x.C%n,false⟩)
include cp ba in
theorem Re(h1:1<=aI.length):∀(k i:Nat) (acc:List ah),i+k=aI.length->acc.length=i->(∀j,j<i->fh aI (j:Int) (acc.getD j aP))->
 ∃l,fN ((aI.length:Int),(i:Int),aI,acc)=some l/\l.length=aI.length/\∀j,j<aI.length->fh aI (j:Int) (l.getD j aP)
 |0,i,acc,E,ae,v=>⟨acc,by rw[fN,ch],by omega,λj F=>v j (by omega)⟩
 |k+1,i,acc,E,ae,v=>by
  have ay:i<aI.length:=by omega
  have m:=cp _ (bh ay eP);obtain⟨e,P,Q⟩:=ry cp ba (i:=(i:Int)) (by omega) (by omega);have next:∀t:ah,fh aI (i:Int) t->∃l,(if room 120 (acc++[t]).length then fN ((aI.length:Int),aM .i64 (i:Int) 1,aI,acc++[t])else none)=some l/\l.length=aI.length/\∀j,j<aI.length->fh aI (j:Int) (l.getD j aP):=by
   intro t ht;rw[ad (cL),bC];refine Re h1 k (i+1) _ (by omega) (by simp;omega) λj F=>?_;grind
  rw[fN,bu,ad (aN ay)];simp only[aT,ak,a'];rw[e];simp only[ak,j4];have q:=acF (k:=(i:Int)) ⟨by omega,by omega⟩;have c':∀t,fh aI (i:Int) t->fh aI (i:Int) t:=λt h=>h;have⟨s,z,gc⟩:da (aI.getD i eP).A/\da (aI.getD i eP).B/\da (aI.getD i eP).C:=⟨m.a,m.b,m.c⟩
  have n:(!(decide ((aI.length:Int)=0)))=true:=tP (by omega);have o:bV .i64 (b' (aI.getD i eP).A 4)=(aI.getD i eP).A%4:=by
   unfold da at s;rw[hf s.1,ll ⟨by omega,by omega⟩]
  have p:b' (bV .i64 (aI.getD i eP).C) (aI.length:Int)=(aI.getD i eP).C%(aI.length:Int):=by
   unfold da at gc;rw[ll ⟨by omega,by omega⟩,hf gc.1]
  have D:ee aI (i:Int)=1\/ee aI (i:Int)=2\/ee aI (i:Int)=3\/ee aI (i:Int)=4\/ee aI (i:Int)=5\/ee aI (i:Int)=6\/ee aI (i:Int)=7\/ee aI (i:Int)=8\/ee aI (i:Int)=9:=by omega
  rcases D with d|d|d|d|d|d|d|d|d<;>rw[d] <;>
   simp only[Int.reduceEq,cZ,c9,bK,bT,bJ,ak,dV,dK]
  . exact next _ (by unfold fh;simp[d])
  . have el:=Ie m;have w:=MS m;have y:pO (aI.getD i br)=_:=el;have x:sG (aI.getD i br)=_:=w;rw[y];simp only[ak];rw[x];simp only[ak];exact next _ (by unfold fh;simp only[a'];exact .inr (.inl ⟨d,by first|trivial|rfl⟩))
  . have f:bV .i64 (b' (aI.getD i br).A 4)=_:=o;rw[f];exact next _ (by unfold fh;simp only[a'];exact .inr (.inr (.inl ⟨d,by first|trivial|rfl⟩)))
  . obtain⟨H,J,O,K⟩:=uM (aI.getD i eP);have I:np (aI.getD i br)=_:=H;rw[I];simp only[ak];have hs:=MT (l:=kh (aI.getD i eP)) K J.2 (aI.length:Int) (i:Int) aI 4 (mF (bV .i32 (aM .i64 65 (i:Int)))) 0 0 0 0 0 (decide (b' (aI.getD i eP).B 2=1)) acc (kh (aI.getD i eP)).length 0 [] (by omega) (by simp);have G:oX ((aI.length:Int),(i:Int),kh (aI.getD i eP),0,aI,4,mF (bV .i32 (aM .i64 65 (i:Int))),0,0,0,0,0,decide (b' (aI.getD i br).B 2=1),acc,[])=_:=hs;rw[G];simp only[ak,fF,fS];rw[q];exact next _ (by unfold fh;simp only[a'];exact .inr (.inr (.inr (.inl ⟨d,_,rfl⟩))))
  . obtain⟨l,r,l2⟩:=LH cp ba h1 (i:=(i:Int)) ⟨by omega,by omega⟩ true;rw[r];simp only[ak];rw[q];exact next _ (by unfold fh;simp only[a'];exact .inr (.inr (.inr (.inr (.inl ⟨d,l,l2,rfl⟩)))))
  . obtain⟨l,r,l2⟩:=LH cp ba h1 (i:=(i:Int)) ⟨by omega,by omega⟩ false;rw[r];simp only[ak];rw[q];by_cases h0:l.length=0
    . rw[ad (by simp[h0])];exact next _ (by unfold fh;simp only[a'];exact .inr (.inr (.inr (.inr (.inr (.inl ⟨d,by first|trivial|rfl⟩))))))
    . rw[al (by simp;intro h;rw[h]at h0;simp at h0)];exact next _ (by unfold fh;simp only[a'];exact .inr (.inr (.inr (.inr (.inr (.inr (.inl ⟨d,l,_,l2,by omega,rfl⟩)))))))
  . have f:bV .i64 (b' (aI.getD i br).A 4)=_:=o;have g:b' (bV .i64 (aI.getD i br).C) (aI.length:Int)=_:=p;rw[ad n,f,g];exact next _ (by unfold fh;simp only[a'];exact .inr (.inr (.inr (.inr (.inr (.inr (.inr (.inl ⟨d,by first|trivial|rfl⟩))))))))
  . have f:bV .i64 (b' (aI.getD i br).A 4)=_:=o;have g:b' (bV .i64 (aI.getD i br).C) (aI.length:Int)=_:=p;obtain⟨u,L,N⟩:=Ox cp ba z h1;have M:sL ((⟨aI⟩:ek),(aI.getD i br).B)=some u:=L;rw[M];simp only[ak];rw[ad n,f,g];rcases N with⟨rfl,a⟩|a
    . rw[hq];exact next _ (by unfold fh;simp only[a'];exact .inr (.inr (.inr (.inr (.inr (.inr (.inr (.inr (.inl ⟨d,a,by first|trivial|rfl⟩)))))))))
    . rw[al (by have:=a.1;simp;omega)];exact next _ (by unfold fh;simp only[a'];exact .inr (.inr (.inr (.inr (.inr (.inr (.inr (.inr (.inr (.inl ⟨d,u,a,rfl⟩))))))))))
  . have g:b' (bV .i64 (aI.getD i br).C) (aI.length:Int)=_:=p;rw[ad n,g];exact next _ (by unfold fh;simp only[a'];exact .inr (.inr (.inr (.inr (.inr (.inr (.inr (.inr (.inr (.inr ⟨d,by first|trivial|rfl⟩))))))))))
end
def uh(d:ek):Prop:=d.ed.length<=reachBytes/\∀x,x∈d.ed->oy x
theorem of_eq{d:ek}(a:uh d):qM d=some (⟨[]⟩,false)\/∃l,qM d=some (⟨l⟩,true)/\1<=d.ed.length/\d.ed.length<=5/\l.length=d.ed.length/\∀j,j<d.ed.length->fh d.ed (j:Int) (l.getD j aP):=by
 rw[qM];simp only[aT,ak];by_cases h:1<=d.ed.length/\d.ed.length<=5
 . obtain⟨l,c,l2,e⟩:=Re a.2 h.2 h.1 d.ed.length 0 [] (by omega) rfl (λj b=>by omega);grind
 grind
structure di (ts:List ah):Prop where
 db:1<=ts.length
 fl:ts.length<=5
 T:∀t,t∈ts->eZ t
 V:nb ts
 D:∀t,t∈ts->acD ts t.ag
 R:∀i:Nat,i<ts.length->∀m,m∈(ts.getD i aP).ag->0<=m.au/\m.au<ts.length/\(7<=(ts.getD m.au.toNat aP).Kind\/m.au<i)
 L:∀t,t∈ts->t.Kind=2->-3<=t.bB/\t.bF<=8
 M:∀t,t∈ts->t.Max<=3
 cy:∀t,t∈ts->(∀m,m∈t.ag->m.af<=12)/\(∀y,y∈t.bg->y.af<=6)/\t.ag.length<=12
 W:∀t,t∈ts->∀m,m∈t.ag->m.bW=true->wt m.bw<=13
theorem pD(c:v.av=[])(b:v.ai=[])(d:v.Rest=[])(hs:v.bl.length<=1000)(db:cw v.Kind)(e:cw v.bd)(f:cw v.af):bH v:=by
 refine .mk v (by unfold reachBytes;omega) (by rw[c];simp) (by rw[b];simp) (by rw[d];simp) (λx a=>?_) (λx a=>?_) (λx a=>?_) db e f (λx a=>?_)
 . grind
 . grind
 . grind
 grind
theorem Rf:bH ar:=pD rfl rfl rfl (by simp[ar]) (by unfold cw ar;simp) (by unfold cw ar;simp) (by unfold cw ar;simp)
theorem Mq(b:v.av=[])(a:v.ai=[])(c:v.Rest=[]):wt v=10+v.bl.length:=by
 rw[fg,b,a,c,gF];simp
section
variable {aI:List fz}(cp:∀x,x∈aI->oy x)(ba:aI.length<=5)(h1:1<=aI.length){l:List ah}(ae:l.length=aI.length)(c':∀j,j<aI.length->fh aI (j:Int) (l.getD j aP))
include cp ba in
theorem Mr(ht:0<=t/\t<aI.length)(h:Init aI t v):bH v/\wt v<=13:=by
 obtain⟨a,b,c,h⟩:=h;obtain⟨j,rfl⟩:∃j:Nat,t=(j:Int):=⟨t.toNat,by omega⟩
 have d:=cp _ (bh (by omega:j<aI.length) eP);obtain⟨_,k,l⟩:=ry cp ba ht.1 ht.2;rw[a']at h;have f:=d.a;have g:=d.b;have i:=(uM (aI.getD j eP)).2.1.2;unfold da at f g;rw[Mq a b c];have hs:v.bl.length<=3:=by grind
 refine⟨pD a b c (by omega) ?_ ?_ ?_,by omega⟩
 . unfold cw;rcases h with h|h|h|h|h<;>omega
 . unfold cw;rcases h with⟨_,_,e,_⟩|⟨_,_,_,_,_,e⟩|⟨_,_,_,e,_⟩|⟨_,_,_,e,_⟩|⟨_,_,e,_⟩<;>omega
 . unfold cw;grind
include cp ba in
theorem Kv{i:Int}{r:Bool}(h:uo aI i r Ms):pK (!r) Ms\/(r=false/\Ms=[]):=by
 obtain⟨a,b,c⟩:=h;by_cases h0:r=false/\Ms=[]
 . grind
 left;refine⟨λm d=>?_,?_,⟨a,λm d=>?_⟩,λm d=>?_,?_,by omega⟩
 . have q:=b m d;unfold mg;have s:m.bW=false->pJ m.bw=true:=λh=>by
    rw[q.Q9 h];have k:eW (lM (ar,ar)) ar ar:=CS Rf ar;obtain⟨w,v,z⟩:=k;unfold pJ;grind
   have o:=q.fZ;have p:=q.un;grind
 . grind
 . have:=(b m d).id;exact⟨by omega,by omega⟩
 . have q:=b m d;have:=q.id;rw[q.name];exact Ov (by omega) (by omega)
 . unfold List.Nodup;rw[ob];refine a.imp_of_mem λ{x y} l n ay=>?_;have f:=b x l;have g:=b y n;have t:=f.id;have u:=g.id;rw[f.name,g.name];intro e;simp only[yi,p2,rD]at e;have j:=dS UInt8.toNat e;rw[lb,lb]at j;omega
theorem Kw{l:aq}(h:uj l 6)(h1:1<=l.length)(d:l.length<=6):Ad (qc l)/\(∀y,y∈qc l->y.af<=6):=by
 unfold qc;refine⟨⟨by simp;omega,⟨?_,λy b=>?_⟩,λy b=>?_,?_,by simp;omega⟩,λy b=>?_⟩
 . rw[ob];exact h.1
 . obtain⟨x,a,rfl⟩:=eK.1 b;have:=h.2 x a;exact⟨this.1,by show x<=1000;omega⟩
 . obtain⟨x,a,rfl⟩:=eK.1 b;have:=h.2 x a;exact Ov (by omega) (by omega)
 . unfold List.Nodup;rw[ob,ob];refine h.1.imp_of_mem λ{x y} a b ay=>?_;have f:=h.2 x a;have g:=h.2 y b;intro e;simp only[yi,p2,rD]at e;have c:=dS UInt8.toNat e;rw[lb,lb]at c;omega
 . obtain⟨x,a,rfl⟩:=eK.1 b;exact(h.2 x a).2
theorem Mt{i:Int}{t:ah}(h:fh aI i t):(ee aI i<=5\/ee aI i=7\/ee aI i=9->t.Kind=ee aI i)/\(ee aI i=6->t.Kind=5\/t.Kind=6)/\(ee aI i=8->(t.Kind=8/\∃w,ox aI w)\/(t.Kind=7/\¬∃w,ox aI w)):=by
 unfold fh at h;rcases h with⟨k,rfl⟩|⟨k,rfl⟩|⟨k,rfl⟩|⟨k,_,rfl⟩|⟨k,_,_,rfl⟩|⟨k,rfl⟩|⟨k,_,_,_,_,rfl⟩|⟨k,rfl⟩|⟨k,a,rfl⟩|⟨k,w,a,rfl⟩|⟨k,rfl⟩<;>simp[k]
 . omega
 grind
theorem HI{i:Int}{t:ah}(h:fh aI i t):t.ag=[]\/∃r,uo aI i r t.ag:=by
 unfold fh at h;rcases h with⟨k,rfl⟩|⟨k,rfl⟩|⟨k,rfl⟩|⟨k,_,rfl⟩|⟨k,_,a,rfl⟩|⟨k,rfl⟩|⟨k,_,_,a,_,rfl⟩|⟨k,rfl⟩|⟨k,a,rfl⟩|⟨k,w,a,rfl⟩|⟨k,rfl⟩
 . grind
 . grind
 . grind
 . grind
 . grind
 . grind
 . grind
 . grind
 . grind
 . grind
 grind
include cp ba h1 ae c' in
theorem aa9:di l:=by
 have n:∀{P:ah->Prop},(∀j,j<aI.length->P (l.getD j aP))->∀t,t∈l->P t:=λak t ht=>by
  obtain⟨i,g,rfl⟩:=eS ht;grind
 have B:∀j,j<aI.length->oy (aI.getD j eP):=λj d=>cp _ (bh d eP);have E:∀j,j<aI.length->∀m,m∈(l.getD j aP).ag->∃r,um aI (j:Int) r m:=λj d m f=>by
  rcases HI (c' j d)with h|⟨r,_,h,_⟩
  . grind
  grind
 have aa:∀t,t∈l->eZ t:=n λj d=>by
  have f:=E j d;have ht:=c' j d;have ai:(l.getD j aP).ag.length<=12:=by
   rcases HI ht with h|⟨r,_,_,h⟩
   . rw[h];simp
   . exact h
  have aj:(l.getD j aP).bg.length<=6:=by
   have g:=(uM (aI.getD j eP)).2.2.2;unfold fh at ht;rcases ht with⟨k,e⟩|⟨k,e⟩|⟨k,e⟩|⟨k,_,e⟩|⟨k,_,_,e⟩|⟨k,e⟩|⟨k,_,_,_,_,e⟩|⟨k,e⟩|⟨k,_,e⟩|⟨k,_,_,e⟩|⟨k,e⟩<;>rw[e]
   case inr.inr.inr.inl=>simp only[a',qc,gA];exact g
   all_goals simp
  refine⟨by unfold reachBytes;omega,by unfold reachBytes;omega,λm Y=>?_⟩;obtain⟨r,q⟩:=f m Y;by_cases D:m.bW=true
  . exact(Mr cp ba ⟨q.rP.1,q.rP.2.1⟩ (q.kc D)).1
  . rw[q.Q9 (by simpa using D)];exact Rf
 have am:∀u:Int,0<=u->u<aI.length->7<=ee aI u->7<=(l.getD u.toNat aP).Kind:=λu h0 A I=>by
  obtain⟨j,rfl⟩:∃j:Nat,u=(j:Int):=⟨u.toNat,by omega⟩
  rw[a'];obtain⟨_,_,Z⟩:=ry cp ba h0 A;obtain⟨a,b,c⟩:=Mt (c' j (by omega));omega
 have ab:nb l:=by
  refine⟨by omega,n λj d=>?_,λj d=>?_,n λj d=>?_,n λj d F=>?_⟩
  . have ht:=c' j d;have z:=uM (aI.getD j eP);have s:=(B j d).a;have J:=(B j d).b;have G:nm [UInt8.ofNat (65+j)]=true:=acG (by omega);unfold da at s J;unfold fh at ht;simp only[a']at ht;generalize [UInt8.ofNat (65+j)]=ap at G ht;unfold gi;rcases ht with⟨k,e⟩|⟨k,e⟩|⟨k,e⟩|⟨k,_,e⟩|⟨k,Ms,a,e⟩|⟨k,e⟩|⟨k,Ms,_,a,a0,e⟩|⟨k,e⟩|⟨k,_,e⟩|⟨k,_,_,e⟩|⟨k,e⟩<;>rw[e]
    . simp
    . simp;omega
    . simp;omega
    . simp;exact⟨G,(Kw z.2.1 z.2.2.1 z.2.2.2).1⟩
    . simp;refine⟨G,?_⟩;rcases Kv cp ba a with h|⟨h,_⟩
      . exact h
      . cases h
    . simp;exact⟨G,λm f=>(by cases f),.inl rfl,⟨.nil,λm f=>by cases f⟩,λm f=>(by cases f),by simp,by simp⟩
    . simp;refine⟨G,?_⟩;rcases Kv cp ba a with h|⟨_,h⟩
      . exact h
      grind
    . simp;omega
    . simp;omega
    . simp;omega
    . simp
  ·
   have T:∀k,k<aI.length->(l.getD k aP).Name=[]\/(l.getD k aP).Name=[UInt8.ofNat (65+k)]:=λk R=>by
    have ht:=c' k R;unfold fh at ht;simp only[a']at ht;rcases ht with⟨k,e⟩|⟨k,e⟩|⟨k,e⟩|⟨k,_,e⟩|⟨k,Ms,a,e⟩|⟨k,e⟩|⟨k,Ms,_,a,a0,e⟩|⟨k,e⟩|⟨k,_,e⟩|⟨k,_,_,e⟩|⟨k,e⟩<;>rw[e]<;>simp
   rcases T j (by omega)with h|h
   . rw[h];simp
   . rw[h];simp only[E9];right;apply Fg.2;intro K;obtain⟨k,R,he⟩:=(pU).1 K;have ao:(l.map (·.Name)).getD k []=(l.getD k aP).Name:=h6 (·.Name) l k aP [] (by omega);rw[ao]at he;rcases T k (by omega)with O|O
     . grind
     . rw[O]at he;simp only[yi,p2]at he;have p:=dS UInt8.toNat he;rw[lb,lb]at p;omega
  . intro u A;have f:=E j d;have K:=(B j d).c;unfold da at K;have U:0<=(aI.getD j eP).C%(aI.length:Int):=l4 _ (by omega);have V:(aI.getD j eP).C%(aI.length:Int)<aI.length:=l0 _ (by omega);have ht:=c' j d;unfold fh at ht;simp only[a']at ht;generalize (aI.getD j eP).C%(aI.length:Int)=ae at U V ht;unfold e' at A;simp only[ga,eK]at A;rcases A with(⟨m,h,rfl⟩|h)|h
    . obtain⟨r,q⟩:=f m h;have:=q.rP.1;have:=q.rP.2.1;omega
    . split at h
      . rename_i F;have:u=(l.getD j aP).Key:=(by simpa using h);rw[this];rcases ht with⟨k,e⟩|⟨k,e⟩|⟨k,e⟩|⟨k,_,e⟩|⟨k,Ms,a,e⟩|⟨k,e⟩|⟨k,Ms,_,a,a0,e⟩|⟨k,e⟩|⟨k,_,e⟩|⟨k,w,a,e⟩|⟨k,e⟩<;>rw[e]at F⊢<;>simp at F⊢;obtain⟨jC,ad,_⟩:=a;omega
      . cases h
    . split at h
      . rename_i I;have:u=(l.getD j aP).aG:=(by simpa using h);rw[this];rcases ht with⟨k,e⟩|⟨k,e⟩|⟨k,e⟩|⟨k,_,e⟩|⟨k,Ms,a,e⟩|⟨k,e⟩|⟨k,Ms,_,a,a0,e⟩|⟨k,e⟩|⟨k,_,e⟩|⟨k,w,a,e⟩|⟨k,e⟩<;>rw[e]at I⊢<;>simp at I⊢<;>omega
      . cases h
  . have ht:=c' j d;unfold fh at ht;simp only[a']at ht;rcases ht with⟨k,e⟩|⟨k,e⟩|⟨k,e⟩|⟨k,_,e⟩|⟨k,Ms,a,e⟩|⟨k,e⟩|⟨k,Ms,_,a,a0,e⟩|⟨k,e⟩|⟨k,_,e⟩|⟨k,w,a,e⟩|⟨k,e⟩<;>rw[e]at F⊢<;>simp at F⊢;obtain⟨jC,ad,av,aw⟩:=a;obtain⟨q,rfl⟩:∃q:Nat,w=(q:Int):=⟨w.toNat,by omega⟩
    obtain⟨a,_,_⟩:=Mt (c' q (by omega));have:=a (.inl (by omega));simp_all
 refine⟨by omega,by omega,aa,ab,n λj d m f D=>?_,λj d m f=>?_,n λj d Q=>?_,n λj d=>?_,n λj d=>⟨λm f=>?_,λy L=>?_,?_⟩,n λj d m f D=>?_⟩
 . obtain⟨r,q⟩:=E j d m f;have g:=q.kc D;obtain⟨M,N,_⟩:=q.rP;generalize m.bw=v at g;obtain⟨u,A⟩:∃u:Nat,m.au=(u:Int):=⟨m.au.toNat,by omega⟩
   rw[A]at g M N⊢;have ht:=c' u (by omega);obtain⟨a,b,c,g⟩:=g;rw[eO];simp only[a']at g⊢;unfold fh at ht;simp only[a']at ht;have X:((l.length:Nat):Int)=aI.length:=(by omega);rw[X];generalize l.getD u aP=x at ht⊢;rw[a,b,c];have ar:∀t,eT l true t []:=λt=>by rw[eT];trivial
   have al:jM []:=λi g=>by simp at g
   have S:=B u (by omega);generalize aI.getD u eP=an at ht g S;rcases g with⟨k,aK,p,dn,iu⟩|⟨k,aK,p,dn,iu,iN,uF⟩|⟨k,aK,p,dn,iu,iN⟩|⟨k,aK,p,dn,iu,iN⟩|⟨k,aK,p,dn,iu,iN⟩
   . rw[k]at ht;grind
   . rw[k]at ht;grind
   . rw[k]at ht;grind
   . rw[k]at ht;simp only[Int.reduceEq,false_and,rD,or_false,false_or]at ht;obtain⟨o,rfl⟩:=ht;rw[aK,p,dn,iu];simp;refine⟨by omega,⟨v.af,[UInt8.ofNat 115,UInt8.ofNat (97+v.af.toNat)]⟩,?_,rfl⟩;unfold qc;grind
   . rw[aK,p,dn,iu];have Z:ee aI (u:Int)<=9:=(ry cp ba M N).2.2;have W:ee aI (u:Int)=7\/ee aI (u:Int)=8\/ee aI (u:Int)=9:=(by omega);have s:=S.a;unfold da at s;rcases W with H|H|H
     . rw[H]at ht iN;grind
     . rw[H]at ht iN;grind
     . rw[H]at ht iN;grind
 . obtain⟨r,q⟩:=E j (by omega) m f;obtain⟨M,N,aq⟩:=q.rP;grind
 . have ht:=c' j d;have s:=(B j d).a;have J:=(B j d).b;unfold da at s J;unfold fh at ht;simp only[a']at ht;rcases ht with⟨k,e⟩|⟨k,e⟩|⟨k,e⟩|⟨k,_,e⟩|⟨k,Ms,a,e⟩|⟨k,e⟩|⟨k,Ms,_,a,a0,e⟩|⟨k,e⟩|⟨k,_,e⟩|⟨k,w,a,e⟩|⟨k,e⟩<;>rw[e]at Q⊢<;>simp at Q⊢;omega
 . have ht:=c' j d;have s:=(B j d).a;unfold da at s;unfold fh at ht;simp only[a']at ht;rcases ht with⟨k,e⟩|⟨k,e⟩|⟨k,e⟩|⟨k,_,e⟩|⟨k,Ms,a,e⟩|⟨k,e⟩|⟨k,Ms,_,a,a0,e⟩|⟨k,e⟩|⟨k,_,e⟩|⟨k,w,a,e⟩|⟨k,e⟩<;>rw[e]<;>simp<;>omega
 . obtain⟨r,q⟩:=E j d m f;exact q.id.2
 . have ht:=c' j d;have z:=uM (aI.getD j eP);unfold fh at ht;simp only[a']at ht;rcases ht with⟨k,e⟩|⟨k,e⟩|⟨k,e⟩|⟨k,_,e⟩|⟨k,Ms,a,e⟩|⟨k,e⟩|⟨k,Ms,_,a,a0,e⟩|⟨k,e⟩|⟨k,_,e⟩|⟨k,w,a,e⟩|⟨k,e⟩<;>rw[e]at L<;>simp at L;exact(Kw z.2.1 z.2.2.1 z.2.2.2).2 y L
 . rcases HI (c' j d)with h|⟨r,_,_,h⟩
   . rw[h];simp
   . exact h
 . obtain⟨r,q⟩:=E j d m f;exact(Mr cp ba ⟨q.rP.1,q.rP.2.1⟩ (q.kc D)).2
end
theorem Fo{d:ek}(g:uh d):qM d=some (⟨[]⟩,false)\/∃l,qM d=some (⟨l⟩,true)/\di l:=by
 rcases of_eq g with h|⟨l,a,b,c,e,f⟩
 . exact .inl h
 . exact .inr ⟨l,a,aa9 g.2 c b e f⟩
def fp(a C:aq):Prop:=a.length<=C.length/\∀c,c∈a->c∈C
theorem fp.refl(C:aq):fp C C:=⟨ea _,λ_ h=>h⟩
theorem fp.trans{A B C:aq}(h:fp A B)(k:fp B C):fp A C:=⟨hP h.1 k.1,λc a=>k.2 c (h.2 c a)⟩
def gK(C:aq):Prop:=∀c,c∈C->da c
theorem gK.dH{A B:aq}(h:gK B)(k:fp A B):gK A:=λc a=>h c (k.2 c a)
section
variable {ts:List ah}
theorem lg{n:Int}(aD:1<=n/\n<=1000){C:aq}(cM:gK C)(ae:C.length<=1000)(odd:Bool):
 ∃r b,i' (n,ts,C,odd)=some (r,ts,b,odd)/\0<=r/\r<n/\fp b C/\(r=0/\b=[]/\C=[]\/b.length+1=C.length):=by
 rw[i'];cases C with
 |nil=>
  rw[hq];exact⟨0,[],rfl,by omega,by omega,fp.refl _,.inl ⟨rfl,rfl,rfl⟩⟩
 |cons c C=>
  have d:=cM c (.head _);unfold da at d;have h0:aH 0 (c::C).length=true:=aN (k:=0) (by simp);have h1:dU 1 ((c::C).length:Int) (c::C).length=true:=jL (a:=1) (by simp) (by simp);have e:d' (c::C) 1 ((c::C).length:Int)=C:=by
   have:=nD (c::C) 1;grind
  rw[ch,ad h0,ad (tP (by omega)),ad h1,e];simp only[rC,ki];rw[ll ⟨by omega,by omega⟩,hf d.1];exact⟨_,C,rfl,l4 _ (by omega),l0 _ (by omega),⟨by simp,λx f=>.tail _ f⟩,.inr (by simp)⟩
theorem HK{C:aq}(cM:gK C)(ae:C.length<=1000)(odd:Bool):
 ∃o a,vj (ts,C,odd)=some (o,ts,a,odd)/\(odd=false->o=false)/\fp a C:=by
 rw[vj];cases odd with
 |false=>exact⟨false,C,rfl,λ_=>rfl,fp.refl _⟩
 |true=>
  obtain⟨r,a,h1,_,_,b,_⟩:=lg (ts:=ts) (n:=4) ⟨by omega,by omega⟩ cM ae true;rw[ad rfl,h1];exact⟨_,a,rfl,λh=>(by cases h),b⟩
theorem abO(b:x.ag.length<9223372036854775807)(hs:x.bg.length<9223372036854775807)(n:Int):dj (B9 (x,n)) ((∃m,m∈x.ag/\m.af=n)\/∃y,y∈x.bg/\y.af=n):=by
 obtain⟨r,_,c,a⟩:=mD (t:=x) n b;obtain⟨s,_,d,ao⟩:=pr (t:=x) n hs;rw[B9,c];simp only[aT,ak];rw[d];refine⟨_,rfl,?_⟩;have h1:=CT ao;have f:r.2=true↔∃m,m∈x.ag/\m.af=n:=by
  rcases tM a with⟨e,j,g,_,_,i⟩|⟨e,q⟩
  . grind
  . rw[e];have:=ny q;grind
 grind
theorem Kx(c:x.ag.length<9223372036854775807)(hs:x.bg.length<9223372036854775807)(d:∀m,m∈x.ag->m.af<=12)(e:∀y,y∈x.bg->y.af<=6)(C:aq)(odd:Bool):
 ∀(k:Nat) (n:Int),1<=n->n<=14->13<=n+k->∃a,uS (n,ts,C,odd,x)=some (a,ts,C,odd)/\1<=a/\a<=14/\(∀m,m∈x.ag->m.af≠a)/\(∀y,y∈x.bg->y.af≠a)
 |k,n,h1,g,b=>by
  obtain⟨r,f,j⟩:=abO c hs n;rw[uS,f];simp only[aT,ak];cases r with
  |false=>grind
  |true=>
   have i:n<=12:=(by grind);rw[ad rfl,kb]
   match k,b with
   |0,b=>omega
   |k+1,b=>exact Kx c hs d e C odd k (n+1) (by omega) (by omega) (by omega)
theorem G7(e:x.ag.length<9223372036854775807)(hs:x.bg.length<9223372036854775807)(b:∀m,m∈x.ag->m.af<=12)(d:∀y,y∈x.bg->y.af<=6){C:aq}(cM:gK C)(ae:C.length<=1000)(odd:Bool):
 ∃n a,qv (x,ts,C,odd)=some (n,ts,a,odd)/\cr n/\cD x.ag n=none/\fp a C:=by
 obtain⟨r,a,h1,i,j,c,_⟩:=lg (ts:=ts) (n:=14) ⟨by omega,by omega⟩ cM ae odd;obtain⟨n,db,k,l,g,_⟩:=Kx (ts:=ts) e hs b d a odd 12 (1+r) (by omega) (by omega) (by omega);refine⟨n,a,?_,⟨by omega,by omega⟩,?_,c⟩
 . rw[qv,h1];simp only[aT,ak];rw[kb,db];rfl
 . unfold cD;rw[ye];intro m f;simpa using g m f
theorem LI{n:Int}{C:aq}(cM:gK C)(ae:C.length<=1000)(odd:Bool):∃d a,vk (n,ts,C,odd)=some (⟨n,d⟩,ts,a,odd)/\d.length<=3/\fp a C:=by
 obtain⟨r,a,h1,b,c,e,_⟩:=lg (ts:=ts) (n:=4) ⟨by omega,by omega⟩ cM ae odd;obtain⟨k,rfl⟩:∃k:Nat,r=(k:Int):=⟨r.toNat,by omega⟩
 rw[vk];simp only[aT,ak];rw[h1];simp only[ak];rw[ad (aN (by simp;omega)),a'];grind
theorem Mu(odd:Bool):∀(k:Nat) (s:aj) (C:aq),k<=100->gK C->C.length<=1000->s.length+k<=100->∃b a,sR (s,(k:Int),ts,C,odd)=some (b,ts,a,odd)/\b.length<=s.length+k/\fp a C
 |0,s,C,g,cM,ae,hs=>⟨s,C,by rw[sR,bq],by omega,fp.refl _⟩
 |k+1,s,C,g,cM,ae,hs=>by
  obtain⟨r,a,h1,f,j,c,_⟩:=lg (ts:=ts) (n:=3) ⟨by omega,by omega⟩ cM ae odd;have i:decide ((0:Int)<((k+1:Nat):Int))=true:=by rw[dq];omega
  have e:dh .i64 ((k+1:Nat):Int) 1=(k:Int):=by rw[hj];omega
  rw[sR,ad i,h1];simp only[aT,ak];rw[Ic ⟨f,by omega⟩,ad (fX (by simp;omega)),e];obtain⟨b,d,a1,a2,a3⟩:=Mu odd k (s++[UInt8.ofNat (97+r.toNat)]) a (by omega) (cM.dH c) (by have:=c.1;omega) (by simp;omega);exact⟨b,d,a1,by simp at a2;omega,a3.trans c⟩
theorem abP{most:Int}(f:0<=most/\most<=1000){C:aq}(cM:gK C)(ae:C.length<=1000)(odd:Bool):∃s a,Cn (most,ts,C,odd)=some (s,ts,a,odd)/\(s.length:Int)<=most/\s.length<=3/\fp a C:=by
 have em:aM .i64 (jg most 3) 1=min most 3+1:=by
  have:jg most 3=min most 3:=rfl;rw[this,kb]
 obtain⟨r,a,h1,d,e,b,_⟩:=lg (ts:=ts) (n:=min most 3+1) ⟨by omega,by omega⟩ cM ae odd;obtain⟨k,rfl⟩:∃k:Nat,r=(k:Int):=⟨r.toNat,by omega⟩
 obtain⟨s,c,a1,a2,a3⟩:=Mu (ts:=ts) odd k [] a (by omega) (cM.dH b) (by have:=b.1;omega) (by simp;omega);refine⟨s,c,?_,by simp at a2;omega,by simp at a2;omega,a3.trans b⟩;rw[Cn,em,h1];grind
end
theorem Sj:∀a b:aj,Op.bytesLess a b=false->a≠b->Op.bytesLess b a=true
 |[],[],_,h=>absurd rfl h
 |[],y::b,h,_=>by simp[Op.bytesLess]at h
 |x::a,[],h,_=>by simp[Op.bytesLess]
 |x::a,y::b,h,d=>by
  simp only[Op.bytesLess]at h⊢;by_cases h1:x<y
  . grind
  . by_cases c:y<x
    . simp[c]
    . have e:x=y:=(by grind);subst e;have f:Op.bytesLess a b=false:=(by simpa using h);have:=Sj a b f (λe=>d (by rw[e]));simp[this]
theorem v'{a b:I}(c:cw a.bd)(d:cw b.bd):nQ (a,b)=some (gX a b):=by
 obtain⟨r,h1,e⟩:=C8 c d;unfold gX;grind
theorem aaZ{a b:I}(d:cw a.bd)(f:cw b.bd)(h:0<gX a b):gX b a<0:=by
 have h1:=v' d f;have c:=v' f d;generalize gX a b=r at h h1;generalize gX b a=q at c;rw[nQ]at h1 c;by_cases o:a.Kind=b.Kind
 . rw[al (by simp[o])]at h1 c;by_cases l:a.Kind=1
   . have g:b.Kind=1:=(by omega);rw[ad (by simp[l])]at h1;rw[ad (by simp[g])]at c;simp only[kG,fu]at h1 c;grind
   . have g:¬b.Kind=1:=(by omega);rw[al (by simp[l])]at h1;rw[al (by simp[g])]at c;by_cases m:a.Kind=2
     . have i:b.Kind=2:=(by omega);rw[ad (by simp[m]),tx d,tx f]at h1;rw[ad (by simp[i]),tx d,tx f]at c;simp only[aT,ak,kG]at h1 c;by_cases e:a.bd=b.bd
       . grind
       . have u:gg a.bd≠gg b.bd:=λh=>e (MJ h);grind
     . have i:¬b.Kind=2:=(by omega);rw[al (by simp[m])]at h1;rw[al (by simp[i])]at c;by_cases n:a.Kind=3
       . have j:b.Kind=3:=(by omega);rw[ad (by simp[n])]at h1;rw[ad (by simp[j])]at c;simp only[aT,ak,kG]at h1 c;by_cases ae:a.bl.length=b.bl.length
         . rw[al (by simp[ae])]at h1 c;by_cases e:a.bl=b.bl
           . grind
           . have t:¬b.bl=a.bl:=λh=>e h.symm;cases k:Op.bytesLess a.bl b.bl with
             |true=>simp[e,k]at h1;omega
             |false=>
              have:=Sj _ _ k e;grind
         grind
       . have j:¬b.Kind=3:=(by omega);rw[al (by simp[n])]at h1;rw[al (by simp[j])]at c;by_cases p:a.Kind=4
         . have s:b.Kind=4:=(by omega);rw[ad (by simp[p])]at h1;rw[ad (by simp[s])]at c;simp only[aT,ak,kG]at h1 c;grind
         grind
 grind
theorem Rp{key item:I}(ae:v.av.length<1000000)(l:∀x,x∈v.av->cw x.bd)(n:cw key.bd)(a:Int)(b:Bool)(c:Int)(d:aj)(e:Int):∀(k i:Nat),i+k=v.av.length->
 (∀j,j<i->gX (v.av.getD j ar) key<0)->∃m:Nat,m<=v.av.length/\rm ((i:Int),v,key,item,a,b,c,d,e)=some ((m:Int),v,key,item,a,b,c,d,e)/\(∀j,j<m->gX (v.av.getD j ar) key<0)/\(m<v.av.length->0<=gX (v.av.getD m ar) key)
 |0,i,p,g=>by
  have f:decide ((i:Int)<(v.av.length:Int))=false:=by simp;omega
  refine⟨i,by omega,?_,g,λh=>by omega⟩;rw[rm];simp only[aT,ak,f,eG,Bool.or_true,bJ,bK,bT,dV,I.aO]
 |k+1,i,p,g=>by
  have ay:i<v.av.length:=by omega
  have f:decide ((i:Int)<(v.av.length:Int))=true:=by simp;omega
  have o:=v' (l _ (bh ay ar)) n;rw[rm];simp only[aT,ak,f,cW,ji,bJ,dK,I.aO,a'];rw[ad (aN ay),o];simp only[ak];by_cases q:gX (v.av.getD i ar) key<0
  . rw[ad (by simpa using q),bC];refine Rp ae l n a b c d e k (i+1) (by omega) λj r=>?_;grind
  grind
theorem s9:∀(a b:List I),cB (a++b)=cB a+cB b
 |[],b=>by rw[gF];simp
 |x::a,b=>by rw[rG,gO,gO,s9 a b];omega
theorem LJ{l:List α}{m:Nat}{x d:α}(a:m<=l.length)(i:Nat):(l.take m++(x::l.drop m)).getD i d=if i<m then l.getD i d else if i=m then x else l.getD (i-1) d:=by grind
theorem acI{key item:I}(ae:v.av.length<1000)(z:v.ai.length=v.av.length)(l:∀x,x∈v.av->cw x.bd)(n:cw key.bd)(g:jM v.av):
 ∃ks b,Cb (v,key,item)=some ⟨v.Kind,v.bM,v.bd,v.bl,v.af,ks,b,v.Rest⟩/\b.length=ks.length/\ks.length<=v.av.length+1/\jM ks/\(∀x,x∈ks->x∈v.av\/x=key)/\(∀x,x∈b->x∈v.ai\/x=item)/\cB ks+cB b<=cB v.av+cB v.ai+wt key+wt item:=by
 obtain⟨m,f,B,G,D⟩:=Rp (item:=item) (by omega) l n 0 false 0 [] 0 v.av.length 0 (by omega) (λj F=>by omega);have C:rm (0,v,key,item,0,false,0,[],0)=_:=B;rw[Cb];simp only[I.aO];rw[C];simp only[aT,ak,I.aO];have ins:∀(r:m<v.av.length->0<gX (v.av.getD m ar) key),∃ks b,(some (⟨v.Kind,v.bM,v.bd,v.bl,v.af,v.av.take m++(key::v.av.drop m),v.ai.take m++(item::v.ai.drop m),v.Rest⟩:I):Option I)=some ⟨v.Kind,v.bM,v.bd,v.bl,v.af,ks,b,v.Rest⟩/\b.length=ks.length/\ks.length<=v.av.length+1/\jM ks/\(∀x,x∈ks->x∈v.av\/x=key)/\(∀x,x∈b->x∈v.ai\/x=item)/\cB ks+cB b<=cB v.av+cB v.ai+wt key+wt item:=by
  intro r;refine⟨_,_,rfl,by simp;omega,by simp;omega,λi y=>?_,λx c=>?_,λx c=>?_,?_⟩
  . rw[LJ f,LJ f];have A:(v.av.take m++(key::v.av.drop m)).length=v.av.length+1:=by simp;omega
    rw[A]at y;by_cases h1:i+1<m
    . rw[fv,ad h1];exact g i (by omega)
    . by_cases p:i+1=m
      . grind
      . by_cases q:i=m
        . rw[bp,ad q,al h1,al p];have e:i+1-1=m:=(by omega);rw[e];exact aaZ (l _ (bh (by omega) ar)) n (r (by omega))
        . rw[bp,al q,al h1,al p];have:=g (i-1) (by omega);grind
  . grind
  . grind
  . rw[s9,s9,gO,gO];have aK:cB v.av=cB (v.av.take m)+cB (v.av.drop m):=by rw[<-s9,yb]
    have E:cB v.ai=cB (v.ai.take m)+cB (v.ai.drop m):=by rw[<-s9,yb]
    omega
 have s1:dU 0 (m:Int) v.av.length=true:=jL (a:=0) (by omega) f;have s:dU (m:Int) (v.av.length:Int) v.av.length=true:=jL f (by omega);have t:dU 0 (m:Int) v.ai.length=true:=jL (a:=0) (by omega) (by omega);have u:dU (m:Int) (v.ai.length:Int) v.ai.length=true:=jL (by omega) (by omega);have build:∀{o:Option I->Prop},o (some (⟨v.Kind,v.bM,v.bd,v.bl,v.af,v.av.take m++(key::v.av.drop m),v.ai.take m++(item::v.ai.drop m),v.Rest⟩:I))->o (some (⟨v.Kind,v.bM,v.bd,v.bl,v.af,v.av.take m++(key::v.av.drop m),v.ai.take m++(item::v.ai.drop m),v.Rest⟩:I)):=λh=>h;by_cases d:m<v.av.length
 . have k:decide ((m:Int)<(v.av.length:Int))=true:=by simp;omega
   have w:=v' (l _ (bh d ar)) n;simp only[k,cW,ji,bJ,dK,a'];rw[ad (aN d),w];simp only[ak];by_cases h0:gX (v.av.getD m ar) key=0
   . rw[ad (by simpa using h0)];refine⟨v.av,v.ai,by cases v;rfl,z,by omega,g,λx c=>.inl c,λx c=>.inl c,by omega⟩
   . rw[al (by simpa using h0),ad s1,ad (cL (by omega) (by simp[d'];omega))];rw[ad (cL (by omega) (by simp[d'];omega)),ad s,ad (cL (by omega) (by simp[d'];omega)),ad t,ad (cL (by omega) (by simp[d'];omega)),ad (cL (by omega) (by simp[d'];omega)),ad u,ad (cL (by omega) (by simp[d'];omega))];rw[s7,s7,nD,nD];simp only[fS,hr,List.singleton_append];exact ins λ_=>by have:=D d;omega
 . have k:decide ((m:Int)<(v.av.length:Int))=false:=by simp;omega
   simp only[k,eG,Bool.or_true,bJ,bK,bT,dV,ak];rw[ad s1,ad (cL (by omega) (by simp[d'];omega))];rw[ad (cL (by omega) (by simp[d'];omega)),ad s,ad (cL (by omega) (by simp[d'];omega)),ad t,ad (cL (by omega) (by simp[d'];omega)),ad (cL (by omega) (by simp[d'];omega)),ad u,ad (cL (by omega) (by simp[d'];omega))];rw[s7,s7,nD,nD];simp only[fS,hr,List.singleton_append];exact ins λh=>absurd h d
section
variable {ts:List ah}
mutual
theorem oq:∀(v:I) (t:Int),b6 ts true t v->b6 ts false t v
 |⟨k,b,i,s,id,ks,e,r⟩,t,h=>by
  rw[b6]at h⊢;obtain⟨⟨h1,p,q,z⟩,ba⟩:=h;have w:=GN e;have A:=GN ks;have B:=RI e;refine⟨⟨h1,p,q,λh=>by cases h⟩,?_⟩
  have y:(match cD (ts.getD t.toNat aP).ag id with
   |some m=>r=[]/\e.length=1/\eT ts true m.au e
   |none=>(ts.getD t.toNat aP).Open=true/\true=false/\cr id/\e=[]/\∃d,r=[⟨id,d⟩])->(match cD (ts.getD t.toNat aP).ag id with
   |some m=>r=[]/\e.length=1/\eT ts false m.au e
   |none=>(ts.getD t.toNat aP).Open=true/\false=false/\cr id/\e=[]/\∃d,r=[⟨id,d⟩]):=by
   split
   . rintro ⟨a,b,c⟩;exact⟨a,b,w _ c⟩
   . rintro ⟨_,b,_⟩;cases b
  rcases ba with h|h|h|⟨a1,a2,a3,a4,a5,f,j,o⟩|⟨a1,a2,a3,a4,a5,f,j,o⟩|⟨a1,a2,a3,a4,a5,f⟩|⟨a1,a2,a3,a4,a5,f,j,o,a9⟩|⟨a1,a2,a3,a4,a5,f,j,o,a9,u,x⟩|⟨a1,a2,a3,a4,a5,f,j,o,a9⟩
  . exact .inl h
  . grind
  . grind
  . grind
  . grind
  . grind
  . grind
  . grind
  grind
theorem GN:∀(l:List I) (t:Int),eT ts true t l->eT ts false t l
 |[],t,h=>by rw[eT];trivial
 |v::l,t,h=>by
  rw[eT]at h⊢;exact⟨oq v t h.1,GN l t h.2⟩
theorem RI:∀(l:List I) (ms:List aU),hv ts true ms l->hv ts false ms l
 |[],[],h=>by rw[hv];trivial
 |[],m::ms,h=>by
  have:hv ts true (m::ms) []=False:=by rw[hv]<;>(intros;simp_all)
  grind
 |v::l,[],h=>by
  have:hv ts true [] (v::l)=False:=by rw[hv]<;>(intros;simp_all)
  grind
 |v::l,m::ms,h=>by
  rw[hv]at h⊢;exact⟨oq v m.au h.1,RI l ms h.2⟩
end
theorem aa'(h:b6 ts true t v)(pl:Bool):b6 ts pl t v:=by
 cases pl with
 |true=>exact h
 |false=>exact oq v t h
def kn(ts:List ah)(t:Nat):Nat:=if 7<=(ts.getD t aP).Kind then 0 else t+1
def gh:Nat->Nat
 |0=>20
 |n+1=>12*gh n+20
theorem Ee{a:Nat}:∀{b:Nat},a<=b->gh a<=gh b
 |0,h=>by have:a = 0:= by omega
          subst this;omega
 |b+1,h=>by
  by_cases e:a=b+1
  . grind
  . have:=Ee (a:=a) (b:=b) (by omega);simp only[gh];omega
theorem Ed(r:Nat):20<=gh r:=Ee (a:=0) (ic _)
theorem wQ:gh 5=5429060:=rfl
def mf(ts:List ah)(odd:Bool)(C:aq)(r:Nat)(t:Int):Prop:=∃v a,jG (t,ts,C,odd)=some (v,ts,a,odd)/\b6 ts (!odd) t v/\bH v/\fp a C/\wt v+32574360*a.length<=gh r+32574360*C.length
theorem Oy {odd:Bool}{c r:Nat}(G:c<=1000){x:ah}(E:x.ag.length<=12)(s:∀m,m∈x.ag->(∀C,gK C->C.length<=c->mf ts odd C r m.au)/\(m.bW=true->b6 ts true m.au m.bw/\bH m.bw/\wt m.bw<=13))
 (a0:Int)(a1:Bool)(a2:Int)(a3:aj)(a4:Int)(v0:Int)(v1:Bool)(g:Int)(v3:aj)(v4:Int):
 ∀(k i:Nat) (C:aq) (acc:List I),i+k=x.ag.length->gK C->C.length<=c->acc.length=i->(∀j,j<i->b6 ts (!odd) (x.ag.getD j aC).au (acc.getD j ar))->(∀y,y∈acc->bH y)->
 ∃a b,mm ((i:Int),ts,C,odd,a0,a1,a2,a3,a4,x.Kind,x.Name,x.bB,x.bF,x.Max,x.bg,x.ag,x.Key,x.aG,x.Open,v0,v1,g,v3,v4,acc)=some (ts,b,odd,a0,a1,a2,a3,a4,x.Kind,x.Name,x.bB,x.bF,x.Max,x.bg,x.ag,x.Key,x.aG,x.Open,v0,v1,g,v3,v4,a)/\
  a.length=x.ag.length/\(∀j,j<x.ag.length->b6 ts (!odd) (x.ag.getD j aC).au (a.getD j ar))/\(∀y,y∈a->bH y)/\fp b C/\cB a+32574360*b.length<=cB acc+k*gh r+32574360*C.length
 |0,i,C,acc,K,cM,ae,F,p,l=>⟨acc,C,by rw[mm,ch],by omega,λj L=>p j (by omega),l,fp.refl _,by omega⟩
 |k+1,i,C,acc,K,cM,ae,F,p,l=>by
  have ay:i<x.ag.length:=by omega
  obtain⟨t,J⟩:=s _ (bh ay aC);have next:∀ (w:I) (d:aq),b6 ts (!odd) (x.ag.getD i aC).au w->bH w->fp d C->wt w+32574360*d.length<=gh r+32574360*C.length->
   ∃a b,(if room 120 (acc++[w]).length then mm (aM .i64 (i:Int) 1,ts,d,odd,a0,a1,a2,a3,a4,x.Kind,x.Name,x.bB,x.bF,x.Max,x.bg,x.ag,x.Key,x.aG,x.Open,v0,v1,g,v3,v4,acc++[w])else none)=some (ts,b,odd,a0,a1,a2,a3,a4,x.Kind,x.Name,x.bB,x.bF,x.Max,x.bg,x.ag,x.Key,x.aG,x.Open,v0,v1,g,v3,v4,a)/\
    a.length=x.ag.length/\(∀j,j<x.ag.length->b6 ts (!odd) (x.ag.getD j aC).au (a.getD j ar))/\(∀y,y∈a->bH y)/\fp b C/\cB a+32574360*b.length<=cB acc+(k+1)*gh r+32574360*C.length:=by
   intro w d P M hs Q;rw[ad (cL),bC]
   obtain⟨a,b,b1,b2,b3,b4,B,D⟩:=Oy G E s a0 a1 a2 a3 a4 v0 v1 g v3 v4 k (i+1) d (acc++[w]) (by omega) (cM.dH hs) (by have:=hs.1;omega) (by simp;omega) (λj L=>by
    grind) (λy N=>by
    rcases ga.1 N with h|h
    . exact l y h
    . have:y=w:=by simpa using h
      subst this;exact M)
   refine⟨a,b,b1,b2,b3,b4,B.trans hs,?_⟩;rw[s9,gO,gF]at D;have e:(k+1)*gh r=k*gh r+gh r:=Nat.succ_mul _ _;omega
  rw[mm,bu,ad (aN ay)];simp only[aT,ak,a',I.aO];cases H:(x.ag.getD i aC).bW with
  |true=>
   obtain⟨f1,f2,f3⟩:=J H;obtain⟨q,d,db,R,S,f,fl⟩:=lg (ts:=ts) (n:=3) ⟨by omega,by omega⟩ cM (by omega) odd;rw[ad rfl,db];simp only[ak,dK];by_cases h0:q=0
   . rw[ad (by simpa using h0)];have:=f.1;have:=Ed r;rw[ad (aN ay)];exact next _ d (aa' f1 _) f2 f (by omega)
   . rw[al (by simpa using h0),ad (aN ay)];obtain⟨w,o,u,v,z,A,O⟩:=t d (cM.dH f) (by have:=f.1;omega);rw[u];simp only[ak,I.aO];have:=f.1;exact next w o v z (A.trans f) (by omega)
  |false=>
   rw[bq,bq,ad (aN ay)];obtain⟨w,o,u,v,z,A,O⟩:=t C cM ae;grind
theorem Mv{r:Nat}(m:c<=1000)(dG:∀C,gK C->C.length<=c->mf ts odd C r x.aG)
 (a0:Int)(a1:Bool)(a2:Int)(a3:aj)(a4:Int)(v0:Int)(v1:Bool)(f:Int)(v3:aj)(v4:Int):
 ∀(k:Nat) (C:aq) (acc:List I),acc.length+k<=100->gK C->C.length<=c->(∀y,y∈acc->b6 ts (!odd) x.aG y/\bH y)->
 ∃a b,qt ((k:Int),ts,C,odd,a0,a1,a2,a3,a4,x.Kind,x.Name,x.bB,x.bF,x.Max,x.bg,x.ag,x.Key,x.aG,x.Open,v0,v1,f,v3,v4,acc)=some (ts,b,odd,a0,a1,a2,a3,a4,v0,v1,f,v3,v4,a)/\
  a.length=acc.length+k/\(∀y,y∈a->b6 ts (!odd) x.aG y/\bH y)/\fp b C/\cB a+32574360*b.length<=cB acc+k*gh r+32574360*C.length
 |0,C,acc,l,cM,ae,g=>⟨acc,C,by rw[qt,bq],by omega,g,fp.refl _,by omega⟩
 |k+1,C,acc,l,cM,ae,g=>by
  have n:decide ((0:Int)<((k+1:Nat):Int))=true:=by rw[dq];omega
  have e:dh .i64 ((k+1:Nat):Int) 1=(k:Int):=by rw[hj];omega
  obtain⟨w,i,o,q,s,d,t⟩:=dG C cM ae;rw[qt,ad n,o];simp only[aT,ak,I.aO];rw[ad (cL),e];obtain⟨a,b,b1,b2,b3,b4,j⟩:=Mv m dG a0 a1 a2 a3 a4 v0 v1 f v3 v4 k i (acc++[w]) (by simp;omega) (cM.dH d) (by have:=d.1;omega) (λy p=>by grind);refine⟨a,b,b1,by simp at b2;omega,b3,b4.trans d,?_⟩;rw[s9,gO,gF]at j;grind
theorem Oz {odd:Bool}{c r:Nat}(E:c<=1000){x:ah}(bI:∀C,gK C->C.length<=c->mf ts odd C r x.Key)(dG:∀C,gK C->C.length<=c->mf ts odd C r x.aG)
 (a0:Int)(a1:Bool)(a2:Int)(a3:aj)(a4:Int)(v0:Int)(v1:Bool)(j:Int)(v3:aj)(v4:Int)(R:List bY):
 ∀(k:Nat) (C:aq) (ks a:List I),ks.length+k<=100->a.length=ks.length->gK C->C.length<=c->(∀y,y∈ks->b6 ts (!odd) x.Key y/\bH y)->(∀y,y∈a->b6 ts (!odd) x.aG y/\bH y)->jM ks->
 ∃b d f,qu ((k:Int),ts,C,odd,a0,a1,a2,a3,a4,x.Kind,x.Name,x.bB,x.bF,x.Max,x.bg,x.ag,x.Key,x.aG,x.Open,v0,v1,j,v3,v4,ks,a,R)=some (ts,f,odd,a0,a1,a2,a3,a4,v0,v1,j,v3,v4,b,d,R)/\
  b.length<=ks.length+k/\d.length=b.length/\(∀y,y∈b->b6 ts (!odd) x.Key y/\bH y)/\(∀y,y∈d->b6 ts (!odd) x.aG y/\bH y)/\jM b/\fp f C/\cB b+cB d+32574360*f.length<=cB ks+cB a+2*(k*gh r)+32574360*C.length
 |0,C,ks,a,D,n,cM,ae,m,ao,l=>⟨ks,a,C,by rw[qu,bq],by omega,n,m,ao,l,fp.refl _,by omega⟩
 |k+1,C,ks,a,D,n,cM,ae,m,ao,l=>by
  have F:decide ((0:Int)<((k+1:Nat):Int))=true:=by rw[dq];omega
  have e:dh .i64 ((k+1:Nat):Int) 1=(k:Int):=by rw[hj];omega
  obtain⟨w,s,J,W,K,i,X⟩:=bI C cM ae;have U:=i.1;obtain⟨z,t,db,L,M,o,fl⟩:=dG s (cM.dH i) (by omega);have V:=o.1;obtain⟨H,G,p,N,O,P,Q,q,S⟩:=acI (v:=⟨v0,v1,j,v3,v4,ks,a,R⟩) (key:=w) (item:=z) (by show ks.length<1000;omega) n (λy g=>vH (m y g).2) (vH K) l;simp only at p O Q q S;rw[qu,ad F,J];simp only[aT,ak,I.aO];rw[db];simp only[ak,I.aO];rw[p];simp only[ak];rw[e]
  obtain⟨b,d,f,b1,b2,b3,b4,u,A,B,T⟩:=Oz E bI dG a0 a1 a2 a3 a4 v0 v1 j v3 v4 R k t H G (by omega) N ((cM.dH i).dH o) (by omega) (λy g=>by
   grind) (λy g=>by
   rcases q y g with h|h
   . exact ao y h
   . subst h;exact⟨L,M⟩) P
  refine⟨b,d,f,b1,by omega,b3,b4,u,A,B.trans (o.trans i),?_⟩;grind
theorem s4(hs:v.bl.length<=1000)(d:∀x,x∈v.av->bH x)(c:∀x,x∈v.ai->bH x)(h1:v.av.length<=1000)(g:v.ai.length<=1000)(i:v.Rest.length<=1000)(b:∀x,x∈v.Rest->x.Data.length<=1000/\cw x.af)(db:cw v.Kind)(e:cw v.bd)(f:cw v.af):bH v:=
 .mk v (by unfold reachBytes;omega) (by unfold reachBytes;omega) (by unfold reachBytes;omega) (by unfold reachBytes;omega) d c (λx a=>by have:=(b x a).1;unfold reachBytes;omega) db e f (λx a=>(b x a).2)
theorem tf{n:Int}(h:cr n):cw n:=by unfold cr at h;unfold cw;omega
def AS(ts:List ah)(odd:Bool)(c r:Nat):Prop:=∀t:Nat,t<ts.length->kn ts t<=r->∀C,gK C->C.length<=c->mf ts odd C r (t:Int)
theorem HL(H:di ts){t:Nat}(ht:t<ts.length:=by omega):kn ts t<=5:=by
 unfold kn;have:=H.fl;grind
theorem mf.up{C:aq}{r:Nat}(h:mf ts odd C r t)(o:r<=a):mf ts odd C a t:=by
 obtain⟨v,c,h1,e,f,j,ba⟩:=h;exact⟨v,c,h1,e,f,j,by have:=Ee o;omega⟩
theorem abQ(H:di ts){r:Nat}(bK:c<=60)(bd:∀aV,aV<c->AS ts odd aV 5)(be:∀G,G<r->AS ts odd c G):AS ts odd c r:=by
 intro t ht bQ C cM ae;have X:=bh ht aP;have bD:=H.V.F _ X;have c':=H.T _ X;have bO:=H.M _ X;obtain⟨aF,aI,aW⟩:=H.cy _ X;have br:=H.R t ht;have bo:=H.L _ X;have aw:=H.V.U _ X;have bm:=H.D _ X;have dk:=H.W _ X;have bv:kn ts t=if 7<=(ts.getD t aP).Kind then 0 else t+1:=rfl
 unfold mf;rw[jG,ad (aN ht)];simp only[aT,ak,a'];have Q:=λv=>eO (ts:=ts) (!odd) (t:Int) v;simp only[a']at Q;generalize bW:ts.getD t aP=x at*;have bE:=Ed r;have E:(0:Int)<=t/\(t:Int)<ts.length:=by omega
 have ab:∀(v:I) (z:aq),v.av=[]->v.ai=[]->v.Rest=[]->v.bl.length<=3->fp z C->wt v+32574360*z.length<=gh r+32574360*C.length:=λv z a b c d e=>by rw[Mq a b c];have:=e.1;omega
 have below:∀l:aq,l.length+1=C.length->∀u:Int,0<=u->u<ts.length->∀p,gK p->p.length<=l.length->mf ts odd p 5 u:=λl h1 u bU bV p N O=>by
  obtain⟨k,rfl⟩:∃k:Nat,u=(k:Int):=⟨u.toNat,by omega⟩
  exact bd l.length (by omega) k (by omega) (HL H) p N O
 have ba:x.Kind=5\/x.Kind=6->1<=r/\∀m,m∈x.ag->∀p,gK p->p.length<=c->mf ts odd p (r-1) m.au:=λbL=>by
  have bR:kn ts t=t+1:=by rw[bv,bp]
  refine⟨by omega,λm P p N O=>?_⟩;obtain⟨a,b,bj⟩:=br m P;obtain⟨k,bu⟩:∃k:Nat,m.au=(k:Int):=⟨m.au.toNat,by omega⟩
  rw[bu]at bj⊢;refine be (r-1) (by omega) k (by omega) ?_ p N O;have:kn ts k<=t:=by
   unfold kn;grind
  omega
 have aR:x.bg.length<9223372036854775807:=dy (im c'.syms);have aL:x.ag.length<9223372036854775807:=dy (im c'.gU);unfold gi at bD;rcases bD with⟨k,_⟩|⟨k,f1,f2,_⟩|⟨k,f1,f2,f3,f4,_⟩|⟨k,f1,f2,f3,f4,f5,_⟩|⟨k,f1,f2,f3,f4,f5,f6,_⟩|⟨k,f1,f2,f3,f4,f5,f6,_⟩|⟨k,f1,f2,f3,f4,_⟩|⟨k,f1,f2,f3,f4,_⟩|⟨k,_⟩
 . obtain⟨q,l,db,Z,aa,g,fl⟩:=lg (ts:=ts) (n:=2) ⟨by omega,by omega⟩ cM (by omega) odd;rw[ad (by simp[k]),db];refine⟨_,l,rfl,?_,pD rfl rfl rfl (by simp) (by simp[cw,k]) (by simp[cw]) (by simp[cw]),g,ab _ _ rfl rfl rfl (by simp) g⟩;grind
 . obtain⟨q,l,db,Z,aa,g,fl⟩:=lg (ts:=ts) (n:=256) ⟨by omega,by omega⟩ cM (by omega) odd;have bI:=bo k;have aK:aM .i64 (dh .i64 x.bF x.bB) 1=x.bF-x.bB+1:=by rw[hj,kb]
   have bX:0<=q%(x.bF-x.bB+1):=l4 _ (by omega);have bY:q%(x.bF-x.bB+1)<x.bF-x.bB+1:=l0 _ (by omega);rw[al (by simp[k]),ad (by simp[k]),db];simp only[ak];rw[aK,ad (tP (by omega)),hf Z,kb];refine⟨_,l,rfl,?_,pD rfl rfl rfl (by simp) (by simp[cw,k]) (by simp only[cw];omega) (by simp[cw]),g,ab _ _ rfl rfl rfl (by simp) g⟩;grind
 . obtain⟨s,l,db,Z,aa,g⟩:=abP (ts:=ts) (most:=x.Max) ⟨f4.1,by omega⟩ cM (by omega) odd;rw[al (by simp[k]),al (by simp[k]),ad (by simp[k]),db];refine⟨_,l,rfl,?_,pD rfl rfl rfl (by show s.length<=1000;omega) (by simp[cw,k]) (by simp[cw]) (by simp[cw]),g,ab _ _ rfl rfl rfl aa g⟩;grind
 . have bT:=f5.1;have bS:=f5.2.2.2.2;have a6:=f5.2.1.2;obtain⟨q,l,db,Z,aa,g,fl⟩:=lg (ts:=ts) (n:=(x.bg.length:Int)) ⟨by omega,by omega⟩ cM (by omega) odd;obtain⟨j,rfl⟩:∃j:Nat,q=(j:Int):=⟨q.toNat,by omega⟩
   have an:=g.1;have J:j<x.bg.length:=(by omega);have f:=bh J dN;rw[al (by simp[k]),al (by simp[k]),al (by simp[k]),ad (by simp[k]),db];simp only[ak];rw[ad (aN J)];simp only[a'];cases bz:x.Open with
   |false=>
    rw[bq,bq];refine⟨_,l,rfl,?_,pD rfl rfl rfl (by simp) (by simp[cw,k]) (by simp[cw]) (tf (a6 _ f)),g,ab _ _ rfl rfl rfl (by simp) g⟩;grind
   |true=>
    obtain⟨o,p,ap,bb,A⟩:=HK (ts:=ts) (cM.dH g) (by omega) odd;have ax:=A.1;rw[ad rfl,ap];simp only[ak,dK];cases o with
    |false=>
     rw[bq];refine⟨_,p,rfl,?_,pD rfl rfl rfl (by simp) (by simp[cw,k]) (by simp[cw]) (tf (a6 _ f)),(A.trans g),ab _ _ rfl rfl rfl (by simp) (A.trans g)⟩;grind
    |true=>
     have aQ:odd=true:=(by grind);obtain⟨n,aB,ar,aj,bc,K⟩:=G7 (ts:=ts) aL aR aF aI ((cM.dH g).dH A) (by omega) odd;rw[ad rfl,ar];refine⟨_,aB,rfl,?_,pD rfl rfl rfl (by simp) (by simp[cw,k]) (by simp[cw]) (tf aj),K.trans (A.trans g),ab _ _ rfl rfl rfl (by simp) (K.trans (A.trans g))⟩;grind
 . obtain⟨bA,aO⟩:=ba (.inl k);obtain⟨acc,l,b1,b2,b3,b4,B,am⟩:=Oy (ts:=ts) (odd:=odd) (c:=c) (r:=r-1) (by omega) (x:=x) aW (λm P=>⟨aO m P,λaY=>⟨bm m P aY,c'.jd m P,dk m P aY⟩⟩) 0 false 0 [] 0 x.Kind false 0 [] 0 x.ag.length 0 C [] (by omega) cM ae rfl (λj J=>by omega) (λy f=>by cases f);have bi:mm (0,ts,C,odd,0,false,0,[],0,x.Kind,x.Name,x.bB,x.bF,x.Max,x.bg,x.ag,x.Key,x.aG,x.Open,x.Kind,false,0,[],0,[])=_:=b1;have an:=B.1;have bG:gh r=12*gh (r-1)+20:=by
    obtain⟨G,rfl⟩:∃G,r=G+1:=⟨r-1,by omega⟩
    rfl
   have bN:x.ag.length*gh (r-1)<=12*gh (r-1):=eY _ aW;rw[gF]at am;have aZ:hv ts (!odd) x.ag acc:=h4.2 ⟨b2,b3⟩;rw[al (by simp[k]),al (by simp[k]),al (by simp[k]),al (by simp[k]),ad (by simp[k]),bi];simp only[ak];obtain⟨o,p,ap,bb,A⟩:=HK (ts:=ts) (cM.dH B) (by omega) odd;have ax:=A.1;rw[ap];simp only[ak];cases o with
   |false=>
    rw[bq];refine⟨_,p,rfl,?_,s4 (by simp) (λy f=>by cases f) b4 (by simp) (by show acc.length<=1000;omega) (by simp) (λy f=>by cases f) (by simp[cw,k]) (by simp[cw]) (by simp[cw]),A.trans B,?_⟩
    . exact(Q _).2 ⟨⟨E.1,E.2,rfl,λ_=>rfl⟩,.inr (.inr (.inr (.inr (.inl ⟨k,rfl,rfl,rfl,rfl,rfl,⟨.nil,λy f=>by cases f⟩,aZ⟩))))⟩
    . rw[fg];simp only[gF,ib,p1,tS];omega
   |true=>
    have aQ:odd=true:=(by grind);obtain⟨n,aB,ar,aj,bc,K⟩:=G7 (ts:=ts) aL aR aF aI ((cM.dH B).dH A) (by omega) odd;have bw:=K.1;obtain⟨d,aD,d1,d2,d3⟩:=LI (ts:=ts) (n:=n) (((cM.dH B).dH A).dH K) (by omega) odd;have bx:=d3.1;rw[ad rfl,Dd,ar];simp only[ak];rw[d1];simp only[ak];refine⟨_,aD,rfl,?_,s4 (by simp) (λy f=>by cases f) b4 (by simp) (by show acc.length<=1000;omega) (by simp) (λy f=>?_) (by simp[cw,k]) (by simp[cw]) (by simp[cw]),d3.trans (K.trans (A.trans B)),?_⟩
    . refine(Q _).2 ⟨⟨E.1,E.2,rfl,λh=>by simp[aQ]at h⟩,.inr (.inr (.inr (.inr (.inl ⟨k,rfl,rfl,rfl,rfl,rfl,⟨by simp,λy f=>?_⟩,aZ⟩))))⟩;grind
    . have:y=⟨n,d⟩:=(by simpa using f);subst this;exact⟨by show d.length<=1000;omega,tf aj⟩
    . rw[fg];simp only[gF,ib,gB,p1,og,tS];omega
 . obtain⟨bA,aO⟩:=ba (.inr k);have bJ:0<x.ag.length:=by
    rcases f6.2.1 with h|h
    . cases h
    . exact h
   have bC:gh (r-1)+20<=gh r:=by
    obtain⟨G,rfl⟩:∃G,r=G+1:=⟨r-1,by omega⟩
    have:=Ed G;show gh G+20<=12*gh G+20;omega
   have bf:∀ aA,fp aA C->∃ v z,(Option.bind (i' ((x.ag.length:Int),ts,aA,odd)) λah=>if aH ah.1 x.ag.length then
    (jG ((x.ag.getD ah.1.toNat aC).au,ah.2.1,ah.2.2.1,ah.2.2.2)).bind λaz=>
     some ((⟨x.Kind,false,0,[],(x.ag.getD ah.1.toNat aC).af,[],[az.1],[]⟩:I),az.2.1,az.2.2.1,az.2.2.2)
    else none)=some (v,ts,z,odd)/\b6 ts (!odd) (t:Int) v/\bH v/\fp z C/\wt v+32574360*z.length<=gh r+32574360*C.length:=by
    intro aA ay;have bM:=ay.1;obtain⟨q,l,db,Z,aa,g,fl⟩:=lg (ts:=ts) (n:=(x.ag.length:Int)) ⟨by omega,by omega⟩ (cM.dH ay) (by omega) odd;obtain⟨j,rfl⟩:∃j:Nat,q=(j:Int):=⟨q.toNat,by omega⟩
    have an:=g.1;have J:j<x.ag.length:=(by omega);have P:=bh J aC;obtain⟨w,p,aS,a7,a8,ao,a9⟩:=aO _ P l ((cM.dH ay).dH g) (by omega);have ax:=ao.1;rw[db];simp only[ak];rw[ad (aN J)];simp only[a'];rw[aS];simp only[ak];have bn:=f6.2.2.1.2 _ P;refine⟨_,p,rfl,?_,s4 (by simp) (λy f=>by cases f) (λy f=>?_) (by simp) (by simp) (by simp) (λy f=>by cases f) (by simp[cw,k]) (by simp[cw]) (tf bn),ao.trans (g.trans ay),?_⟩
    . refine(Q _).2 ⟨⟨E.1,E.2,rfl,λ_=>rfl⟩,.inr (.inr (.inr (.inr (.inr (.inl ⟨k,rfl,rfl,rfl,rfl,?_⟩)))))⟩;have bt:cD x.ag (x.ag.getD j aC).af=some (x.ag.getD j aC):=by
       unfold cD;rw[BN];refine⟨by simp,j,J,(dc J _).symm,λi aJ=>?_⟩;have bP:=p4.1 f6.2.2.1.1 i j (by omega) J aJ;rw[dc J];simp;omega
      simp only[bt];refine⟨by first|rfl|trivial,by first|rfl|trivial,?_⟩;rw[cU];intro y f;have:y=w:=(by simpa using f);subst this;exact a7
    . have:y=w:=(by simpa using f);subst this;exact a8
    . rw[fg];simp only[gO,gF,ib,p1,tS];omega
   rw[al (by simp[k]),al (by simp[k]),al (by simp[k]),al (by simp[k]),al (by simp[k]),ad (by simp[k])];simp only[I.aO];cases bz:x.Open with
   |false=>
    rw[bq,bq];obtain⟨v,z,a1,a2,a3,a4,a5⟩:=bf C (fp.refl _);grind
   |true=>
    obtain⟨o,p,ap,bb,A⟩:=HK (ts:=ts) cM (by omega) odd;have ax:=A.1;rw[ad rfl,ap];simp only[ak,dK];cases o with
    |false=>grind
    |true=>
     have aQ:odd=true:=(by grind);obtain⟨n,aB,ar,aj,bc,K⟩:=G7 (ts:=ts) aL aR aF aI (cM.dH A) (by omega) odd;have bw:=K.1;obtain⟨d,aD,d1,d2,d3⟩:=LI (ts:=ts) (n:=n) ((cM.dH A).dH K) (by omega) odd;have bx:=d3.1;rw[ad rfl,ar];simp only[ak];rw[d1];simp only[ak];refine⟨_,aD,rfl,?_,s4 (by simp) (λy f=>by cases f) (λy f=>by cases f) (by simp) (by simp) (by simp) (λy f=>?_) (by simp[cw,k]) (by simp[cw]) (tf aj),d3.trans (K.trans A),?_⟩
     . grind
     . have:y=⟨n,d⟩:=(by simpa using f);subst this;exact⟨by show d.length<=1000;omega,tf aj⟩
     . rw[fg];simp only[gF,ib,gB,p1,og,tS];omega
 . have em:aM .i64 (jg x.Max 3) 1=min x.Max 3+1:=by
    have:jg x.Max 3=min x.Max 3:=rfl;rw[this,kb]
   have S:0<=x.aG/\x.aG<ts.length:=aw x.aG (by unfold e';simp[k]);obtain⟨q,l,db,Z,aa,g,fl⟩:=lg (ts:=ts) (n:=min x.Max 3+1) ⟨by omega,by omega⟩ cM (by omega) odd;obtain⟨j,rfl⟩:∃j:Nat,q=(j:Int):=⟨q.toNat,by omega⟩
   have an:=g.1;have loop:∃acc z,qt ((j:Int),ts,l,odd,0,false,0,[],0,x.Kind,x.Name,x.bB,x.bF,x.Max,x.bg,x.ag,x.Key,x.aG,x.Open,x.Kind,false,0,[],0,[])=some (ts,z,odd,0,false,0,[],0,x.Kind,false,0,[],0,acc)/\acc.length=j/\(∀y,y∈acc->b6 ts (!odd) x.aG y/\bH y)/\fp z C/\10+cB acc+32574360*z.length<=gh r+32574360*C.length:=by
    rcases fl with⟨h0,h1,bk⟩|h1
    . have:j=0:=(by omega);subst this;refine⟨[],l,by rw[qt,bq],rfl,λy f=>(by cases f),g,?_⟩;rw[gF];omega
    . obtain⟨acc,z,b1,b2,b3,b4,B⟩:=Mv (ts:=ts) (odd:=odd) (c:=l.length) (r:=5) (by omega) (x:=x) (λp N O=>below l h1 x.aG S.1 S.2 p N O) 0 false 0 [] 0 x.Kind false 0 [] 0 j l [] (by simp;omega) (cM.dH g) (by omega) (λy f=>by cases f);refine⟨acc,z,b1,by simpa using b2,b3,b4.trans g,?_⟩;rw[gF,wQ]at B;omega
   obtain⟨acc,z,b1,b2,b3,b4,B⟩:=loop;rw[al (by simp[k]),al (by simp[k]),al (by simp[k]),al (by simp[k]),al (by simp[k]),al (by simp[k]),ad (by simp[k]),em,db];simp only[ak];rw[b1];simp only[ak];refine⟨_,z,rfl,?_,s4 (by simp) (λy f=>by cases f) (λy f=>(b3 y f).2) (by simp) (by show acc.length<=1000;omega) (by simp) (λy f=>by cases f) (by simp[cw,k]) (by simp[cw]) (by simp[cw]),b4,?_⟩
   . exact(Q _).2 ⟨⟨E.1,E.2,rfl,λ_=>rfl⟩,.inr (.inr (.inr (.inr (.inr (.inr (.inl ⟨k,rfl,rfl,rfl,rfl,rfl,rfl,by show(acc.length:Int)<=x.Max;omega,cU.2 λy f=>(b3 y f).1⟩))))))⟩
   . rw[fg];simp only[gF,ib,p1,tS];omega
 . have em:aM .i64 (jg x.Max 3) 1=min x.Max 3+1:=by
    have:jg x.Max 3=min x.Max 3:=rfl;rw[this,kb]
   have S:0<=x.aG/\x.aG<ts.length:=aw x.aG (by unfold e';simp[k]);have a0:0<=x.Key/\x.Key<ts.length:=aw x.Key (by unfold e';simp[k]);obtain⟨q,l,db,Z,aa,g,fl⟩:=lg (ts:=ts) (n:=min x.Max 3+1) ⟨by omega,by omega⟩ cM (by omega) odd;obtain⟨j,rfl⟩:∃j:Nat,q=(j:Int):=⟨q.toNat,by omega⟩
   have an:=g.1;have aX:jM []:=λi aJ=>by simp at aJ
   have loop:∃ks Y z,qu ((j:Int),ts,l,odd,0,false,0,[],0,x.Kind,x.Name,x.bB,x.bF,x.Max,x.bg,x.ag,x.Key,x.aG,x.Open,x.Kind,false,0,[],0,[],[],[])=some (ts,z,odd,0,false,0,[],0,x.Kind,false,0,[],0,ks,Y,[])/\ks.length<=j/\Y.length=ks.length/\(∀y,y∈ks->b6 ts (!odd) x.Key y/\bH y)/\(∀y,y∈Y->b6 ts (!odd) x.aG y/\bH y)/\jM ks/\fp z C/\10+cB ks+cB Y+32574360*z.length<=gh r+32574360*C.length:=by
    rcases fl with⟨h0,h1,bk⟩|h1
    . have:j=0:=(by omega);subst this;refine⟨[],[],l,by rw[qu,bq],by simp,rfl,λy f=>(by cases f),λy f=>(by cases f),aX,g,?_⟩;rw[gF];omega
    . obtain⟨ks,Y,z,b1,b2,b3,b4,B,am,aE,aU⟩:=Oz (ts:=ts) (odd:=odd) (c:=l.length) (r:=5) (by omega) (x:=x) (λp N O=>below l h1 x.Key a0.1 a0.2 p N O) (λp N O=>below l h1 x.aG S.1 S.2 p N O) 0 false 0 [] 0 x.Kind false 0 [] 0 [] j l [] [] (by simp;omega) rfl (cM.dH g) (by omega) (λy f=>by cases f) (λy f=>by cases f) aX;refine⟨ks,Y,z,b1,by simpa using b2,b3,b4,B,am,aE.trans g,?_⟩;rw[gF,wQ]at aU;omega
   obtain⟨ks,Y,z,b1,b2,b3,b4,B,am,aE,aU⟩:=loop;rw[al (by simp[k]),al (by simp[k]),al (by simp[k]),al (by simp[k]),al (by simp[k]),al (by simp[k]),al (by simp[k]),ad (by simp[k]),em,db];simp only[ak];rw[b1];simp only[ak];refine⟨_,z,rfl,?_,s4 (by simp) (λy f=>(b4 y f).2) (λy f=>(B y f).2) (by show ks.length<=1000;omega) (by show Y.length<=1000;omega) (by simp) (λy f=>by cases f) (by simp[cw,k]) (by simp[cw]) (by simp[cw]),aE,?_⟩
   . exact(Q _).2 ⟨⟨E.1,E.2,rfl,λ_=>rfl⟩,.inr (.inr (.inr (.inr (.inr (.inr (.inr (.inl ⟨k,rfl,rfl,rfl,rfl,rfl,by show(ks.length:Int)<=x.Max;omega,b3,cU.2 λy f=>(b4 y f).1,cU.2 λy f=>(B y f).1,am⟩)))))))⟩
   . rw[fg];grind
 . have S:0<=x.aG/\x.aG<ts.length:=aw x.aG (by unfold e';simp[k]);obtain⟨q,l,db,Z,aa,g,fl⟩:=lg (ts:=ts) (n:=2) ⟨by omega,by omega⟩ cM (by omega) odd;have an:=g.1;rw[al (by simp[k]),al (by simp[k]),al (by simp[k]),al (by simp[k]),al (by simp[k]),al (by simp[k]),al (by simp[k]),al (by simp[k]),db];simp only[ak,I.aO];by_cases h1:q=1
   . have bs:l.length+1=C.length:=(by omega);obtain⟨w,p,aS,a7,a8,ao,a9⟩:=below l bs x.aG S.1 S.2 l (cM.dH g) (by omega);have ax:=ao.1;rw[wQ]at a9;rw[ad (by simpa using h1),aS];simp only[ak];refine⟨_,p,rfl,?_,s4 (by simp) (λy f=>by cases f) (λy f=>?_) (by simp) (by simp) (by simp) (λy f=>by cases f) (by simp[cw,k]) (by simp[cw]) (by simp[cw]),ao.trans g,?_⟩
     . refine(Q _).2 ⟨⟨E.1,E.2,rfl,λ_=>rfl⟩,.inr (.inr (.inr (.inr (.inr (.inr (.inr (.inr ⟨k,rfl,rfl,rfl,rfl,rfl,rfl,by simp,cU.2 λy f=>?_⟩)))))))⟩;grind
     . grind
     . rw[fg];simp only[gO,gF,ib,p1,tS];omega
   . rw[al (by simpa using h1)];refine⟨_,l,rfl,?_,pD rfl rfl rfl (by simp) (by simp[cw,k]) (by simp[cw]) (by simp[cw]),g,ab _ _ rfl rfl rfl (by simp) g⟩;exact(Q _).2 ⟨⟨E.1,E.2,rfl,λ_=>rfl⟩,.inr (.inr (.inr (.inr (.inr (.inr (.inr (.inr ⟨k,rfl,rfl,rfl,rfl,rfl,rfl,by simp,cU.2 λy f=>by cases f⟩)))))))⟩
theorem OA(H:di ts):∀(c:Nat),c<=60->∀r,AS ts odd c r:=by
 intro c;induction c using Nat.strongRecOn with
 |ind c d=>
  intro b r;induction r using Nat.strongRecOn with
  |ind r e=>exact abQ H b (λa h=>d a h (by omega) 5) (λf h=>e f h)
theorem abR(H:di ts)(ht:0<=t/\t<ts.length){C:aq}(cM:gK C)(ae:C.length<=reachBytes):∃v,xZ ((⟨ts⟩:aQ),t,C)=some v/\b6 ts true t v/\bH v/\wt v<=2147483648:=by
 obtain⟨j,rfl⟩:∃j:Nat,t=(j:Int):=⟨t.toNat,by omega⟩
 have m:=dy ae;have g:jg 60 (C.length:Int)=((min 60 C.length:Nat):Int):=Ip 60 C.length;have hs:gK (C.take (min 60 C.length)):=λc e=>cM c (p5 e);have f:(C.take (min 60 C.length)).length<=60:=by rw[od];omega
 have i:dU 0 ((min 60 C.length:Nat):Int) C.length=true:=jL (a:=0) (by omega) (by omega);obtain⟨v,k,h1,b,d,l,ba⟩:=OA H (odd:=false) 60 (by omega) 5 j (by omega) (HL H) _ hs f;rw[xZ];simp only[aT,ak];rw[g,ad i,s7,h1];refine⟨v,by simp only[ak,I.aO],b,d,?_⟩;rw[wQ]at ba;omega
theorem YF(H:di ts)(ht:0<=t/\t<ts.length){C:aq}(cM:gK C)(ae:C.length<=reachBytes):∃v,yC ((⟨ts⟩:aQ),t,C)=some v/\b6 ts false t v/\bH v/\wt v<=2147483648:=by
 obtain⟨j,rfl⟩:∃j:Nat,t=(j:Int):=⟨t.toNat,by omega⟩
 have m:=dy ae;have g:jg 60 (C.length:Int)=((min 60 C.length:Nat):Int):=Ip 60 C.length;have hs:gK (C.take (min 60 C.length)):=λc e=>cM c (p5 e);have f:(C.take (min 60 C.length)).length<=60:=by rw[od];omega
 have i:dU 0 ((min 60 C.length:Nat):Int) C.length=true:=jL (a:=0) (by omega) (by omega);obtain⟨v,k,h1,b,d,l,ba⟩:=OA H (odd:=true) 60 (by omega) 5 j (by omega) (HL H) _ hs f;rw[yC];simp only[aT,ak];rw[g,ad i,s7,h1];refine⟨v,by simp only[ak,I.aO],b,d,?_⟩;rw[wQ]at ba;omega
end
structure Eg (d:k7):Prop where
 s:uh d.S
 t:da d.T
 c:gK d.C
 l:d.C.length<=reachBytes
theorem agf{d:k7}(a:Eg d):(∃s t v w,pR d=some (s,t,v,w,false))\/
 ∃ts t v w,pR d=some (⟨ts⟩,t,v,w,true)/\di ts/\(0<=t/\t<ts.length)/\(b6 ts true t v/\bH v/\wt v<=2147483648)/\(b6 ts false t w/\bH w/\wt w<=2147483648):=by
 rw[pR];rcases Fo a.s with h|⟨l,h,H⟩
 . rw[h];exact .inl ⟨_,_,_,_,rfl⟩
 . right;have j:=H.db;have k:=H.fl;have ht:=a.t;unfold da at ht;have b:0<=d.T%(l.length:Int):=l4 _ (by omega);have e:d.T%(l.length:Int)<l.length:=l0 _ (by omega);obtain⟨v,v1,f⟩:=abR H ⟨b,e⟩ a.c a.l;obtain⟨w,g,i⟩:=YF H ⟨b,e⟩ a.c a.l;rw[h];simp only[aT,ak];rw[bq,ad (tP (by omega)),ll ⟨by omega,by omega⟩,hf ht.1,v1];simp only[ak];rw[g];exact⟨l,_,v,w,by simp only[ak,I.aO],H,⟨b,e⟩,f,i⟩
theorem LK(H:iF ts)(a:bH v)(t:Int)(pl:Bool):dj (j6 ((⟨ts⟩:aQ),t,v,pl)) (b6 ts pl t v):=by
 obtain⟨r,h1,c⟩:=y7 (by have:=H.n;omega) H.T H.K a t pl;obtain⟨q,d,b⟩:=Ld (by have:=H.n;omega) H.T H.K a t pl;rw[h1]at b;have:r=q:=kR b;subst this;exact⟨r,d,c⟩
theorem Gp(c':∀t,t∈ts->eZ t)(gR:nb ts)(d:bH v)(a:b6 ts false t v):tz ((⟨ts⟩:aQ),t,v)=some 0:=by
 have H:=gR.hT c';obtain⟨v1,_⟩:=pA c' gR;obtain⟨⟨g,i,_⟩,_⟩:=(eO _ _ _).1 a;obtain⟨r,e,f⟩:=LK H d t false;have c:=f.2 a;subst c;have b:¬((bif decide (t<0)then true else decide (((⟨ts⟩:aQ).Types.length:Int)<=t))=true):=by grind
 rw[tz,GL];simp only[Ko,I.aO];rw[v1];show((if(bif (t<0:Bool)then true else (((⟨ts⟩:aQ).Types.length:Int)<=t:Bool)) then some (4:Int)else some 0)>>=_)=_;rw[al b];show(s8 ((⟨ts⟩:aQ),t,v)>>=_)=_;rw[s8];simp only[I.aO];rw[e];rfl
theorem Ln(c':∀t,t∈ts->eZ t)(gR:nb ts)(f:bH v)(b:b6 ts false t v):sF ((⟨ts⟩:aQ),t,v)=some 0:=by
 have a:=gR.hT c';obtain⟨⟨j,k,_⟩,_⟩:=(eO _ _ _).1 b;obtain⟨q,g,i⟩:=y7 (by have:=a.n;omega) c' a.K f t false;have e:=i.2 b;subst e;have c:¬t<0:=by omega
 have d:¬(ts.length:Int)<=t:=by omega
 rw[sF,(pA c' gR).2];simp only[aT,ak];rw[bq,al (by simp[c,d]),Ga];simp only[I.aO];rw[g];rfl
theorem YG(c':∀t,t∈ts->eZ t)(gR:nb ts)(b:bH v)(a:b6 ts false t v):tz ((⟨ts⟩:aQ),t,v)=some 0/\sF ((⟨ts⟩:aQ),t,v)=some 0:=⟨Gp c' gR b a,Ln c' gR b a⟩
theorem LL{l:List Fd}(d:kd fk l=true)(aD:l.Pairwise (λa b=>a.id≠b.id)):(gT fk l).Pairwise (λa b=>a.id<b.id):=by
 have h1:=CB MM l;have c:(gT fk l).Pairwise (λa b=>a.id≠b.id):=(nz fk l).symm.pairwise aD (λ{a b} h=>λe=>h e.symm);refine(h1.and c).imp λ{a b} h=>?_;have:=h.1;have:=h.2;simp only[fk,ya]at*;omega
theorem Lo{l:List I}{r:List bY}(h:fy ms)(c:ke ms r):(ft ts ms l r).Pairwise (λa b=>a.id≠b.id):=by
 have:=xN (ts:=ts) (l:=l) h c;have key:∀q:List Fd,kd fk q=true->q.Pairwise (λa b=>a.id≠b.id):=by
  intro q;induction q with
  |nil=>intro _;exact .nil
  |cons a q ih=>
   intro h;simp only[kd,cc,c0,hO,fk,dq]at h;rw[jh];grind
 grind
def oK(f:Fd):cQ:=⟨(f.id:Int),f.c,f.p⟩
theorem Lp:∀(l:List Fd) (last:Nat) (b:List cQ),l.Pairwise (λa b=>a.id<b.id)->(∀f,f∈l->last<f.id/\f.id<=1000)->(l.flatMap Fd.text).length<=100000->b.length+l.length<=90000->
 fY ((last:Int),l.flatMap Fd.text,b)=some (.inr (b++l.map oK))
 |[],last,b,_,_,_,_=>by
  rw[fY,bq];simp
 |f::l,last,b,d,i,ae,e=>by
  rw[jh]at d;obtain⟨h1,j⟩:=i f (.head _);rw[e7]at ae⊢;have ht:f.text=fE f.id f.c f.p:=rfl;rw[ht]at ae⊢;rw[XW h1 j ae (by simp at e;omega)];have k:(l.flatMap Fd.text).length<=100000:=by rw[c4]at ae;omega
  rw[Lp l f.id _ d.2 (λg ao=>⟨d.1 g ao,(i g (.tail _ ao)).2⟩) k (by simp at e⊢;omega)];simp[oK]
theorem YH{a:aj}{b:List aj}(h:(dB p++a).length<=100000)(j:b.length<=90000):hE (dB p++a,b)=hE (a,b++[p]):=by
 have g:p.length<=100000:=by simp only[dB,c4]at h;omega
 have e:dB p++a≠[]:=by
  intro d;have c:=dS List.length d;have:=q3 p.length;simp only[dB,c4,ib]at c;omega
 rw[hE,ad (by simp only[p7,ya];exact e),lT,Jv g];simp only[aT,ak];have f:¬((!(dR (some (p,a))).2.2)=true):=by simp[dR]
 have i:room 16 (b++[(dR (some (p,a))).1]).length=true:=cL;rw[al f,ad i];rfl
theorem LM:∀(l:List aj) (b:List aj),(l.flatMap dB).length<=100000->b.length+l.length<=90000->hE (l.flatMap dB,b)=some (.inr (b++l))
 |[],b,_,_=>by
  rw[hE,bq];simp
 |p::l,b,ae,a=>by
  rw[e7]at ae⊢;rw[YH ae (by simp at a;omega),LM l _ (by rw[c4]at ae;omega) (by simp at a⊢;omega)];simp
def l9:List aj->List aj->List aj
 |k::ks,v::vs=>k::v::l9 ks vs
 |_,_=>[]
theorem Ho:∀a b,gS a b=(l9 a b).flatMap dB
 |[],b=>by simp[gS,l9]
 |k::ks,[]=>by simp[gS,l9]
 |k::ks,v::vs=>by simp[gS,l9,Ho ks vs]
theorem Lq:∀a b:List aj,a.length=b.length->(l9 a b).length=a.length+b.length
 |[],[],_=>rfl
 |k::ks,v::vs,h=>by
  simp only[l9,ia];have:=Lq ks vs (by simpa using h);omega
theorem YI(p:aj):1<=(dB p).length:=by
 have:=q3 p.length;unfold dB;rw[c4];omega
theorem Jz:∀l:List aj,l.length<=(l.flatMap dB).length
 |[]=>by simp
 |p::l=>by
  have:=Jz l;have:=YI p;grind
theorem aba(f:Fd):1<=f.text.length:=by
 have:=q3 (2*f.id+(if f.c then 1 else 0));unfold Fd.text fE;rw[c4];omega
theorem JA:∀l:List Fd,l.length<=(l.flatMap Fd.text).length
 |[]=>by simp
 |p::l=>by
  have:=JA l;have:=aba p;grind
theorem KG{f:Fd}:∀{l:List Fd},f∈l->f.p.length<=(l.flatMap Fd.text).length
 |g::l,h=>by
  rw[e7,c4];rcases fe.1 h with rfl|h
  . have:f.p.length<=f.text.length:=by unfold Fd.text fE dB;simp only[c4];omega
    omega
  . have:=KG h;omega
theorem Mw{d:ek}(h:WF cO ⟨.slice (.nm vt),d.ed⟩):uh d:=by
 obtain⟨a,_,c⟩:=v7 (t:= .nm vt) h;refine⟨a,λx p=>?_⟩;have e:=c x p;have b:∀{n:Int},WF cO ⟨.int .u8,n⟩->da n:=λ{n} h=>by
  cases h with
  |int k n h=>
   simp[Lit.wf,IntKind.min,IntKind.max,IntKind.bits,IntKind.signed]at h;unfold da;omega
 have g:=e ⟨.int .u8,x.Kind⟩ (.head _);have i:=e ⟨.int .u8,x.A⟩ (.tail _ (.head _));have j:=e ⟨.int .u8,x.B⟩ (.tail _ (.tail _ (.head _)));have l:=e ⟨.int .u8,x.C⟩ (.tail _ (.tail _ (.tail _ (.head _))));have m:=e ⟨.slice (.nm B5),x.c2⟩ (.tail _ (.tail _ (.tail _ (.tail _ (.head _)))));obtain⟨r,_,s⟩:=v7 (t:= .nm B5) m;refine⟨b g,b i,b j,b l,λq o=>?_,r⟩;have f:=s q o;exact⟨b (f ⟨.int .u8,q.af⟩ (.head _)),b (f ⟨.int .u8,q.au⟩ (.tail _ (.head _))),b (f ⟨.int .u8,q.gZ⟩ (.tail _ (.tail _ (.head _))))⟩
theorem abb{d:k7}(h:∀c,c∈cO.oM Vm d->WF cO c):Eg d:=by
 have e:=h ⟨.slice (.nm vt),d.S.ed⟩ (.head _);have f:=h ⟨.int .u8,d.T⟩ (.tail _ (.head _));have g:=h ⟨.slice (.int .u8),d.C⟩ (.tail _ (.tail _ (.head _)));obtain⟨a,_,c⟩:=v7 (t:= .int .u8) g;have b:∀{n:Int},WF cO ⟨.int .u8,n⟩->da n:=λ{n} h=>by
  cases h with
  |int k n h=>
   simp[Lit.wf,IntKind.min,IntKind.max,IntKind.bits,IntKind.signed]at h;unfold da;omega
 exact⟨Mw e,b f,λn aD=>b (c n aD ⟨.int .u8,n⟩ (.head _)),a⟩
def hL(n:Nat):aj->Nat
 |[]=>n
 |c::s=>hL (n*256+c.toNat) s
theorem QT:∀(s:aj) (n k:Nat),n<256^k->hL n s<256^(k+s.length)
 |[],n,k,h=>by simpa[hL]using h
 |c::s,n,k,h=>by
  have a:c.toNat<256:=UInt8.toNat_lt c;have h1:n*256+c.toNat<256^(k+1):=by rw[yo];omega
  have:=QT s _ (k+1) h1;simp only[hL,ia];grind
theorem agA{n:Nat}(h:n<72057594037927936):mR .u64 (n:Int) 8=((n*256:Nat):Int):=by
 unfold mR;have e:((2:Int)^min (8:Int).toNat IntKind.u64.bits)=256:=by decide
 rw[e];have:(n:Int)*256=((n*256:Nat):Int):=by push_cast;rfl
 rw[this];exact kU
theorem abS{b:Nat}(c:a<72057594037927936)(d:b<256):rJ .u64 ((a*256:Nat):Int) (b:Int)=((a*256+b:Nat):Int):=by
 have e:(BitVec.ofInt 64 ((a*256:Nat):Int) ||| BitVec.ofInt 64 (b:Int)).toNat=a*256+b:=by
  rw[wx,wx,BitVec.toNat_or,wi,wi,wK,oc (by omega),oc (by omega)];have h:=Nat.shiftLeft_add_eq_or_of_lt (show b<2^8 by omega) a;rw[Nat.shiftLeft_eq]at h;exact h.symm
 show IntKind.u64.wrap (((BitVec.ofInt 64 ((a*256:Nat):Int) ||| BitVec.ofInt 64 (b:Int)).toNat:Nat):Int)=_;rw[e];exact kU
theorem acJ:(256:Nat)^8=18446744073709551616:=by decide
theorem y8{s:aj}(hs:s.length<=8):∀(k i n:Nat),i+k=s.length->n<256^i->mw (s,(n:Int),(s.length:Int),(i:Int))=some ((hL n (s.drop i):Nat):Int)
 |0,i,n,c,aD=>by
  rw[mw,ch,ef (by omega:s.length<=i)];rfl
 |k+1,i,n,c,aD=>by
  have ay:i<s.length:=by omega
  have b:=yW s i;have a:n<72057594037927936:=by
   have:(256:Nat)^i<=256^7:=wy (by omega) (by omega);omega
  rw[mw,bu,ad (aN ay),agA a,qV,hy,abS a b,bC,y8 hs k (i+1) _ (by omega) (by rw[yo];omega),ey ay 0];rfl
theorem Iu{s:aj}(hs:s.length<=8):∀(k i n:Nat),i+k=s.length->n<256^i->oN (s,(n:Int),(i:Int))=some ((hL n (s.drop i):Nat):Int)
 |0,i,n,a,aD=>by
  rw[oN,ch,ef (by omega:s.length<=i)];rfl
 |k+1,i,n,a,aD=>by
  have ay:i<s.length:=by omega
  have c:=yW s i;have d:n<72057594037927936:=by
   have:(256:Nat)^i<=256^7:=wy (by omega) (by omega);omega
  have aK:gy .u64 (n:Int) 256=((n*256:Nat):Int):=tO (b:=256) (by omega);rw[oN,bu,ad (aN ay),aK,qV,hy,r5 (by omega),bC,Iu hs k (i+1) _ (by omega) (by rw[yo];omega),ey ay 0];rfl
def hU(s:aj):Option Nat:=if s.head?=some 0\/8<s.length then none else some (hL 0 s)
theorem D3{s:aj}{n:Nat}(h:hU s=some n):n<18446744073709551616:=by
 unfold hU at h;split at h
 . cases h
 . rename_i aa;cases h;have:=QT s 0 0 (by simp);have a:(256:Nat)^(0+s.length)<=256^8:=wy (by omega) (by omega);omega
theorem DF{s:aj}(h:s≠[]):(fr s 0=0)↔s.head?=some 0:=by
 cases s with
 |nil=>exact absurd rfl h
 |cons c s=>
  have:fr (c::s) 0=(c.toNat:Int):=qV (c::s) 0;rw[this];simp only[List.head?_cons,bG];constructor
  . intro h;exact UInt8.toNat_inj.1 (by simpa using h)
  simp_all
theorem abT(s:aj):∃r,sO s=some r/\(r.2=0->∃n,hU s=some n/\r.1=(n:Int))/\(r.2≠0->hU s=none):=by
 rw[sO];simp only[aT,ak];by_cases h0:s=[]
 . subst h0;have aK:mw ([],0,((([]:aj)).length:Int),0)=some ((hL 0 []:Nat):Int):=y8 (s:=[]) (by simp) 0 0 0 rfl (by simp);refine⟨(((hL 0 []:Nat):Int),0),?_,λ_=>⟨0,rfl,rfl⟩,λh=>absurd rfl h⟩;grind
 . have e:0<s.length:=tW.2 h0;have d:aH 0 s.length=true:=aN (k:=0) e;have c:(!(decide (s=[])))=true:=(by simp[h0]);rw[c,d];simp only[BM,bJ,dK];by_cases a:fr s 0=0
   . rw[ad (by simp[a])];refine⟨_,rfl,λh=>(by cases h),λ_=>?_⟩;unfold hU;rw[ad (.inl ((DF h0).1 a))]
   . rw[al (by simp[a])];by_cases b:8<s.length
     . rw[bu];refine⟨_,rfl,λh=>(by cases h),λ_=>?_⟩;unfold hU;rw[ad (.inr b)]
     . have aK:mw (s,0,(s.length:Int),0)=some ((hL 0 s:Nat):Int):=y8 (by omega) s.length 0 0 (by omega) (by simp);rw[ch,aK];refine⟨_,rfl,λ_=>⟨hL 0 s,?_,rfl⟩,λh=>absurd rfl h⟩;unfold hU;rw[al]
       rintro (h|h)
       . exact a ((DF h0).2 h)
       omega
theorem ZJ(s:aj):∃r,sO s=some r/\BY s=some r/\(r.2=0->∃n,hU s=some n/\r.1=(n:Int))/\(r.2≠0->hU s=none):=by
 rw[sO,BY];simp only[aT,ak];by_cases h0:s=[]
 . subst h0;have aK:mw ([],0,((([]:aj)).length:Int),0)=some ((hL 0 []:Nat):Int):=y8 (s:=[]) (by simp) 0 0 0 rfl (by simp);have c:oN ([],0,0)=some ((hL 0 []:Nat):Int):=Iu (s:=[]) (by simp) 0 0 0 rfl (by simp);refine⟨(((hL 0 []:Nat):Int),0),?_,?_,λ_=>⟨0,rfl,rfl⟩,λh=>absurd rfl h⟩
   . grind
   grind
 . have i:0<s.length:=tW.2 h0;have g:aH 0 s.length=true:=aN (k:=0) i;have e:decide ((0:Int)<(s.length:Int))=true:=by simp;omega
   have f:(!(decide (s=[])))=true:=(by simp[h0]);rw[e,f,g];simp only[BM,bJ,dK];by_cases b:fr s 0=0
   . have a:decide (fr s 0=0)=true:=(by simp[b]);rw[ad a,ad a];refine⟨_,rfl,rfl,λh=>(by cases h),λ_=>?_⟩;unfold hU;rw[ad (.inl ((DF h0).1 b))]
   . have a:¬(decide (fr s 0=0)=true):=(by simp[b]);rw[al a,al a];by_cases d:8<s.length
     . have:decide ((8:Int)<(s.length:Int))=true:=by simp;omega
       rw[ad this,ad this];refine⟨_,rfl,rfl,λh=>(by cases h),λ_=>?_⟩;unfold hU;rw[ad (.inr d)]
     . have:¬(decide ((8:Int)<(s.length:Int))=true):=by simp;omega
       rw[al this,al this];have aK:mw (s,0,(s.length:Int),0)=some ((hL 0 s:Nat):Int):=y8 (by omega) s.length 0 0 (by omega) (by simp);have c:oN (s,0,0)=some ((hL 0 s:Nat):Int):=Iu (by omega) s.length 0 0 (by omega) (by simp);rw[aK,c];refine⟨_,rfl,rfl,λ_=>⟨hL 0 s,?_,rfl⟩,λh=>absurd rfl h⟩;unfold hU;rw[al]
       rintro (h|h)
       . exact b ((DF h0).2 h)
       omega
def jm(n:Nat):Int:=if n%2=0 then((n/2:Nat):Int)else -((n/2:Nat):Int)-1
theorem abU{n:Int}(h:cw n):jm (gg n).toNat=n:=by
 unfold jm gg cw at*;omega
theorem acK{n:Nat}(h:n<18446744073709551616):BV (n:Int)=some (jm n):=by
 rw[BV];have aK:b' (n:Int) 2=((n%2:Nat):Int):=Aj (b:=2);have a:fw .u64 (n:Int) 2=((n/2:Nat):Int):=tY h;rw[aK,a,jD];unfold jm;by_cases h0:n%2=0
 . grind
 . have dn:dh .i64 0 ((n/2:Nat):Int)= -((n/2:Nat):Int):=by rw[hj];omega
   rw[ch,al h0,dn,hj]
theorem adS{n:Nat}(h:n<18446744073709551616):AX .u64 (n:Int) 1=((n%2:Nat):Int):=by
 have e:(BitVec.ofInt 64 (n:Int) &&& BitVec.ofInt 64 (1:Int)).toNat=n%2:=by grind
 show IntKind.u64.wrap (((BitVec.ofInt 64 (n:Int) &&& BitVec.ofInt 64 (1:Int)).toNat:Nat):Int)=_;rw[e];exact kU
theorem agB{n:Nat}:ly .u64 (n:Int) 1=((n/2:Nat):Int):=by
 unfold ly;have:((2:Int)^min (1:Int).toNat IntKind.u64.bits)=2:=by decide
 grind
theorem aa0(h:a<9223372036854775808):uf .i64 (a:Int) 0=(a:Int):=by
 have e:(BitVec.ofInt 64 (a:Int) ^^^ BitVec.ofInt 64 (0:Int)).toNat=a:=by grind
 show IntKind.i64.wrap (((BitVec.ofInt 64 (a:Int) ^^^ BitVec.ofInt 64 (0:Int)).toNat:Nat):Int)=_;rw[e,IntKind.wrap_i64];omega
theorem aa1(h:a<9223372036854775808):uf .i64 (a:Int) (-1)= -(a:Int)-1:=by
 have e:(BitVec.ofInt 64 (a:Int) ^^^ BitVec.ofInt 64 (-1:Int)).toNat=18446744073709551615-a:=by
  have h1:BitVec.ofInt 64 (-1:Int)=BitVec.allOnes 64:=by decide
  rw[h1,wx,BitVec.xor_allOnes,BitVec.toNat_not,wi,wK,oc (by omega)]
 all_goals (try omega)
 show IntKind.i64.wrap (((BitVec.ofInt 64 (a:Int) ^^^ BitVec.ofInt 64 (-1:Int)).toNat:Nat):Int)=_;rw[e,IntKind.wrap_i64];omega
theorem acL{n:Nat}(h:n<18446744073709551616):Cc (n:Int)=some (jm n):=by
 rw[Cc,agB,adS h,jD,jD,hj];unfold jm;by_cases h0:n%2=0
 . rw[ad h0,h0];have:(0:Int)-((0:Nat):Int)=0:=rfl;rw[this,aa0 (by omega)]
 . have h1:n%2=1:=(by omega);rw[al h0,h1];have:(0:Int)-((1:Nat):Int)= -1:=rfl;rw[this,aa1 (by omega)]
def iQ(p:aj):Option (List aj):=match la p with
 |some (l,e)=>if e=0 then some l else none
 |none=>none
def jn(p:aj):Option (List cQ):=match lK p with
 |some (l,e)=>if e=0 then some l else none
 |none=>none
def jW(p:aj):Option (Int×aj):=match lP p with
 |some (id,q,e)=>if e=0 then some (id,q)else none
 |none=>none
theorem KH:∀(n:Nat) (s:aj) (b l:List aj),s.length<=n->s.length+b.length<=100000->hE (s,b)=some (.inr l)->∀q,q∈l->q∈b\/q.length<=s.length
 |n,s,b,l,aD,g,h=>by
  rw[hE]at h;by_cases h0:s=[]
  . grind
  . rw[ad (by simp[h0]),lT]at h;simp only[aT,ak]at h;cases a:iC s with
    |none=>
     rw[a]at h;simp[dR]at h
    |some r=>
     obtain⟨x,c⟩:=r;rw[a]at h;have ae:=nA a;have d:¬((!(dR (some (x,c))).2.2)=true):=(by simp[dR]);have f:room 16 (b++[(dR (some (x,c))).1]).length=true:=cL;rw[al d,ad f]at h;intro q e
     match n,aD with
     |0,aD=>omega
     |n+1,aD=>
      have:=KH n c _ l (by omega) (by simp;omega) h q e;rcases this with h|h
      . rcases ga.1 h with h|h
        . exact .inl h
        . right;have:q=x:=(by simpa[dR]using h);grind
      omega
theorem Ky:∀(n:Nat) (s:aj) (last:Nat) (b l:List cQ),s.length<=n->s.length+b.length<=100000->fY ((last:Int),s,b)=some (.inr l)->
 ∃c,l=b++c/\(∀f,f∈c->f.Data.length<=s.length/\(last:Int)<f.af/\f.af<=1000)/\c.Pairwise (λa b=>a.af<b.af)
 |n,s,last,b,l,aD,v,h=>by
  rw[fY]at h;by_cases h0:s=[]
  . simp_all
  . rw[ad (by simp[h0])]at h;rcases lA s with⟨e,he,ao⟩|⟨m,k,ao,y,j,o⟩
    . rw[nE he ao]at h;simp at h
    . rw[lS ao j]at h;simp only[aT,ak,tY o]at h;by_cases w:((m/2:Nat):Int)<=(last:Int)\/1000<((m/2:Nat):Int)
      . grind
      . have:¬((bif bif (!true)then true else decide (((m/2:Nat):Int)<=(last:Int))then true else decide (1000<((m/2:Nat):Int)))=true):=(by grind);rw[al this,lT (by rw[l1];omega)]at h;simp only[ak]at h;cases g:iC (s.drop k)with
        |none=>
         rw[g]at h;simp[dR]at h
        |some r=>
         obtain⟨x,d⟩:=r;rw[g]at h;have ae:=nA g;rw[l1]at ae;have p:¬((!(dR (some (x,d))).2.2)=true):=(by simp[dR]);have t:bV .i64 ((m/2:Nat):Int)=((m/2:Nat):Int):=jD;rw[al p,t]at h;have q:room 32 (b++[(⟨((m/2:Nat):Int),decide (b' (m:Int) 2=1),(dR (some (x,d))).1⟩:cQ)]).length=true:=cL;rw[ad q]at h
         match n,aD with
         |0,aD=>omega
         |n+1,aD=>
          obtain⟨c,e,h1,u⟩:=Ky n d (m/2) _ l (by omega) (by simp;omega) h;refine⟨⟨((m/2:Nat):Int),decide (b' (m:Int) 2=1),(dR (some (x,d))).1⟩::c,by rw[e];simp,λf i=>?_,?_⟩
          . rcases fe.1 i with rfl|i
            . refine⟨by show x.length<=_;omega,by show(last:Int)<((m/2:Nat):Int);omega,by show((m/2:Nat):Int)<=1000;omega⟩
            grind
          grind
theorem yK(b:p.length<=90000):∃o,la p=some o/\(o.2=0->iQ p=some o.1/\(∀q,q∈o.1->q.length<=p.length)/\o.1.length<=p.length)/\(o.2≠0->iQ p=none):=by
 obtain⟨o,h1,a⟩:=abB b;refine⟨o,h1,λh0=>⟨?_,?_,a⟩,λh0=>?_⟩
 . unfold iQ;rw[h1];grind
 . obtain⟨d,a1,_⟩:=Iq p.length p [] (by omega) (by simp;omega);rw[la,a1]at h1;cases d with
   |inl e=>grind
   |inr l=>
    have:o=(l,0):=(kR h1).symm;subst this;intro q c;rcases KH p.length p [] l (by omega) (by simp;omega) a1 q c with h|h
    . cases h
    . exact h
 . unfold iQ;rw[h1];grind
theorem Kz(a:p.length<=90000):∃o,la p=some o/\vw p=some o/\(o.2=0->iQ p=some o.1/\(∀q,q∈o.1->q.length<=p.length)/\o.1.length<=p.length)/\(o.2≠0->iQ p=none):=by
 obtain⟨o,h1,b⟩:=yK a;exact⟨o,h1,by rw[abC a,h1],b⟩
theorem Hp(k:p.length<=90000):∃o,lK p=some o/\(o.2=0->jn p=some o.1/\(∀f,f∈o.1->f.Data.length<=p.length/\cr f.af)/\o.1.Pairwise (λa b=>a.af<b.af)/\o.1.length<=p.length)/\(o.2≠0->jn p=none):=by
 obtain⟨o,h1,i⟩:=aaK k;obtain⟨d,a1,_⟩:=K6 p.length p 0 [] (by omega) (by simp;omega);have key:o.2=0->(∀f,f∈o.1->f.Data.length<=p.length/\cr f.af)/\o.1.Pairwise (λa b=>a.af<b.af):=by
  intro h0;have c:=h1;have g:fY (0,p,[])=some d:=a1;rw[lK,g]at c;cases d with
  |inl e=>
   have:o=([],e):=(kR c).symm;simp_all
  |inr l=>
   have:o=(l,0):=(kR c).symm;subst this;obtain⟨m,e,b1,b2⟩:=Ky p.length p 0 [] l (by omega) (by simp;omega) a1;have:l=m:=(by simpa using e);subst this;exact⟨λf j=>by have:=b1 f j;exact⟨this.1,by omega,this.2.2⟩,b2⟩
 refine⟨o,h1,λh0=>⟨?_,(key h0).1,(key h0).2,i⟩,λh0=>?_⟩
 . unfold jn;rw[h1];grind
 . unfold jn;rw[h1];grind
theorem X2(c:p.length<=90000):∃o,lK p=some o/\xR p=some o/\(o.2=0->jn p=some o.1/\(∀f,f∈o.1->f.Data.length<=p.length/\cr f.af)/\o.1.Pairwise (λa b=>a.af<b.af)/\o.1.length<=p.length)/\(o.2≠0->jn p=none):=by
 obtain⟨o,h1,d⟩:=Hp c;exact⟨o,h1,by rw[aaL c,h1],d⟩
theorem HM(p:aj):∃o,lP p=some o/\(o.2.2=0->jW p=some (o.1,o.2.1)/\o.2.1.length<=p.length/\cr o.1)/\(o.2.2≠0->jW p=none):=by
 obtain⟨o,h1⟩:=ac3 p;have key:o.2.2=0->o.2.1.length<=p.length/\cr o.1:=by
  intro h0;have a:=h1;rw[lP]at a;rcases lA p with⟨e,he,ao⟩|⟨m,k,ao,f,c,g⟩
  . rw[nE he ao]at a;grind
  . rw[lS ao c]at a;simp only[aT,ak]at a;by_cases d:(m:Int)<1\/1000<(m:Int)
    . grind
    . have b:¬((bif bif (!true)then true else decide ((m:Int)<1)then true else decide (1000<(m:Int)))=true):=(by grind);rw[al b,jD]at a;have:o=((m:Int),p.drop k,0):=(kR a).symm;subst this;exact⟨by show(p.drop k).length<=_;rw[l1];omega,by omega,by show(m:Int)<=1000;omega⟩
 refine⟨o,h1,λh0=>⟨?_,(key h0).1,(key h0).2⟩,λh0=>?_⟩
 . unfold jW;rw[h1];grind
 . unfold jW;rw[h1];grind
theorem abc(p:aj):∃o,lP p=some o/\x4 p=some o/\(o.2.2=0->jW p=some (o.1,o.2.1)/\o.2.1.length<=p.length/\cr o.1)/\(o.2.2≠0->jW p=none):=by
 obtain⟨o,h1,a⟩:=HM p;obtain⟨b,a1,a2⟩:=ac4 p;rw[h1]at a1;rw[<-kR a1]at a2;exact⟨o,h1,a2,a⟩
theorem Mx:∀(s:aj) (n:Nat) (b:UInt8),hL n (s++[b])=hL n s*256+b.toNat
 |[],n,b=>by simp[hL]
 |a::s,n,b=>by
  simp only[rG,hL];exact Mx s _ b
theorem ada(n:Nat):hL 0 (gJ n)=n:=by
 induction n using Nat.strongRecOn with
 |ind n ih=>
  rw[gJ];split
  . rename_i h;subst h;rfl
  . rw[Mx,ih (n/256) (by omega),lb];omega
theorem aa2:∀(n:Nat),¬(gJ n).head?=some 0:=by
 intro n;induction n using Nat.strongRecOn with
 |ind n ih=>
  rw[gJ];split
  . simp
  . rename_i h;have:=ih (n/256) (by omega);by_cases f:n<256
    . have:n/256=0:=(by omega);rw[this,gJ,ad rfl];simp only[fS,List.head?_cons,bG];intro d;have c:=dS UInt8.toNat d;rw[lb]at c;grind
    . have e:gJ (n/256)≠[]:=by rw[gJ,bp];simp
      cases b:gJ (n/256)with
      |nil=>exact absurd b e
      |cons a l=>rw[b]at this;simpa using this
theorem LN{n:Nat}(h:n<18446744073709551616):hU (gJ n)=some n:=by
 unfold hU;have h1:=aa2 n;have a:=v8 8 n (by rw[acJ];exact h)
 rw [al (by rintro (h|h)
            . exact h1 h
            . omega),ada]
theorem adb{a b:List bY}(c:a.Pairwise (λx y=>x.af<y.af))(d:b.Pairwise (λx y=>x.af<y.af))(h:∀x,x∈a↔x∈b):a=b:=by
 have g:a.Nodup:=c.imp λ{x y} h e=>by subst e;omega
 have i:b.Nodup:=d.imp λ{x y} h e=>by subst e;omega
 have f:a.Perm b:=(List.perm_ext_iff_of_nodup g i).2 h;exact List.Perm.eq_of_pairwise (le:=λx y:bY=>x.af<y.af) (λx y _ _ h1 j=>by omega) c d f
theorem abd{l m:List I}(ae:l.length=m.length)(h:∀i,i<l.length->l.getD i ar=m.getD i ar):l=m:=by
 apply Fj ae;grind
theorem X3(p:aj):p.length<=(dB p).length:=by unfold dB;rw[c4];omega
theorem C9:∀{l:List aj},p∈l->p.length<=(l.flatMap dB).length
 |q::l,h=>by
  rw[e7,c4];rcases fe.1 h with rfl|h
  . have:=X3 p;omega
  . have:=C9 h;omega
theorem G8{ts:List ah}:∀{ms:List aU} {l:List I} {x:Fd},x∈dI ts ms l->∃j,j<ms.length/\j<l.length/\dM (ms.getD j aC) (l.getD j ar)=false/\x=⟨(ms.getD j aC).af.toNat,(ms.getD j aC).cn,bA ts (ms.getD j aC).au (l.getD j ar)⟩
 |[],l,x,h=>by
  rw[dI]at h
  . cases h
  grind
 |m::ms,[],x,h=>by
  rw[dI]at h
  . cases h
  grind
 |m::ms,v::l,x,h=>by
  rw[dI]at h;split at h
  . obtain⟨j,h1,a,b,c⟩:=G8 h;exact⟨j+1,by simpa using h1,by simpa using a,by simpa using b,by simpa using c⟩
  . rename_i d;rcases fe.1 h with rfl|h
    . exact⟨0,by simp,by simp,by simpa using d,rfl⟩
    . obtain⟨j,h1,a,b,c⟩:=G8 h;exact⟨j+1,by simpa using h1,by simpa using a,by simpa using b,by simpa using c⟩
theorem qz(h:fy ms){a b:aU}(c:a∈ms)(d:b∈ms)(e:a.af=b.af):a=b:=by
 obtain⟨i,f,rfl⟩:=eS c;obtain⟨j,g,rfl⟩:=eS d;have key:=p4.1 h.1;grind
theorem j9{m:aU}(h:cD ms id=some m):m∈ms/\m.af=id:=
 ⟨E3 h,by simpa using List.find?_some h⟩
theorem LO(c:fy ms){m:aU}(h:m∈ms):cD ms m.af=some m:=by
 cases a:cD ms m.af with
 |none=>exact absurd rfl (ny a m h)
 |some q=>
  obtain⟨h1,b⟩:=j9 a;rw[qz c h1 h b]
theorem yQ{ts:List ah}{t:Int}:∀{l:List I} {x:I},x∈l->ep ts t x<=eI ts t l
 |v::l,x,h=>by
  rw[eI];rcases fe.1 h with rfl|h
  . omega
  . have:=yQ (ts:=ts) (t:=t) h;omega
theorem KI{ts:List ah}:∀{ms:List aU} {l:List I} {j:Nat},j<ms.length->j<l.length->dM (ms.getD j aC) (l.getD j ar)=false->ep ts (ms.getD j aC).au (l.getD j ar)<=gY ts ms l
 |m::ms,v::l,0,_,_,a=>by
  simp only[ki]at a⊢;rw[gY,al (by rw[a];simp)];omega
 |m::ms,v::l,j+1,h1,b,a=>by
  simp only[yc]at a⊢;have:=KI (ts:=ts) (by simpa using h1) (by simpa using b) a;rw[gY];grind
theorem My{l:List aj}(h:(l.flatMap dB).length<=90000):iQ (l.flatMap dB)=some l:=by
 have ae:=Jz l;have:=LM l [] (by omega) (by simp;omega);unfold iQ;rw[la,this];rfl
theorem abe{l:List Fd}(e:l.Pairwise (λa b=>a.id<b.id))(c:∀f,f∈l->1<=f.id/\f.id<=1000)(h:(l.flatMap Fd.text).length<=90000):jn (l.flatMap Fd.text)=some (l.map oK):=by
 have ae:=JA l;have bD:=Lp l 0 [] e (λf h=>⟨by have:=c f h;omega,(c f h).2⟩) (by omega) (by simp;omega);have d:fY (0,l.flatMap Fd.text,[])=some (.inr (l.map oK)):=by simpa using bD
 unfold jn;rw[lK,d];rfl
theorem OB{n:Nat}(h:1<=n/\n<=1000)(c:aj):jW (eB n++c)=some ((n:Int),c):=by
 unfold jW;have d:=lS (HU (n:=n) (by omega) c) (by simp);rw[lP,d];simp only[aT,ak];have a:¬(n:Int)<1:=by omega
 have b:¬(1000:Int)<(n:Int):=by omega
 rw[al (by simp only[a,b,cW,cZ,dV,bK,not_false_eq_true]),jD];simp
theorem KA{l:List I}{i:Nat}(h:i<l.length):(b7 ts t l).getD i []=bA ts t (l.getD i ar):=by
 rw[DE,h6 (bA ts t) l i ar [] h]
theorem HN{b n r:Nat}(h:a=1+max n b)(e:a<=r+1)(d:c<=b):c<=r:=by omega
theorem ade{b r:Nat}(h:a=1+max 1 b)(e:a<=r+1)(d:c=1):c<=r:=by omega
def r1(ts:List ah)(t:Int)(v:I):Prop:=b6 ts false t v/\bH v/\wt v<=2147483648
theorem abf{a:I}(h:bH a)(b:I):eW (F7 (a,b)) a b:=by
 obtain⟨r,h1,c⟩:=Dn h b;refine⟨r,?_,c⟩;rw[F7];simp only[I.aO];rw[h1];rfl
theorem LP{a:I}(h:bH a)(b:I):eW (pq (a,b)) a b:=Kg h b
mutual
def dw:I->I
 |⟨k,b,i,s,id,ks,a,r⟩=>⟨k,b,i,s,id,ks,AE a,if k=5 then[]else r⟩
def AE:List I->List I
 |[]=>[]
 |v::l=>dw v::AE l
end
theorem JB:∀l:List I,AE l=l.map dw
 |[]=>by rw[AE];rfl
 |v::l=>by rw[AE,JB l];rfl
theorem pB(v:I):dw v=⟨v.Kind,v.bM,v.bd,v.bl,v.af,v.av,v.ai.map dw,if v.Kind=5 then[]else v.Rest⟩:=by
 cases v;rw[dw,JB]
theorem NN{l:List bY}(h:l.Pairwise λa b=>a.af<b.af)(n:Nat)(h1:∀x,x∈l->1<=x.af/\x.af<=n):l.length<=n:=by
 have key:∀(l:List bY) (m:Int),l.Pairwise (λa b=>a.af<b.af)->(∀x,x∈l->m<x.af/\x.af<=n)->m<=n->(l.length:Int)<=n-m:=by
  intro l;induction l with
  |nil=>intro m _ _ h;simp;omega
  |cons x l ih=>
   intro m e d aD;have c:=d x (.head _);have:=ih x.af (jh.1 e).2 (λy f=>⟨(jh.1 e).1 y f,(d y (.tail _ f)).2⟩) c.2;rw[ia];omega
 have:=key l 0 h (λx c=>⟨by have:=h1 x c;omega,(h1 x c).2⟩) (by omega);omega
section
variable {ts:List ah}
theorem abg(H:di ts)(j:b6 ts pl t v):v.av.length<=20/\v.ai.length<=20/\v.Rest.length<=1000:=by
 obtain⟨⟨l,m,n,o⟩,i⟩:=(eO _ _ _).1 j;have e:=bh (by omega:t.toNat<ts.length) aP;generalize q:ts.getD t.toNat aP=x at*;have p:=H.M x e;have g:=H.cy x e;rcases i with h|h|h|h|h|h|h|h|h
 . obtain⟨a1,a2,a3,a4,a5,a,b⟩:=h;rw[a5,a,b];simp
 . obtain⟨a1,a2,a3,a4,a5,a,b,c⟩:=h;rw[a5,a,b];simp
 . obtain⟨a1,a2,a3,a4,a5,a,b,c⟩:=h;rw[a5,a,b];simp
 . obtain⟨a1,a2,a3,a4,a5,a,b,c⟩:=h;rw[a5,a,b];simp
 . obtain⟨a1,a2,a3,a4,a5,a,b,c⟩:=h;have:=(h4.1 c).1;refine⟨by rw[a];simp,by have:=g.2.2;omega,NN b.1 1000 λy k=>?_⟩;have:=(b.2 y k).1;unfold cr at this;omega
 . obtain⟨a1,a2,a3,a4,a5,a⟩:=h;split at a
   . obtain⟨b1,b2,b3⟩:=a;rw[a5,b1,b2];simp
   . obtain⟨b1,b2,b3,b4,d,f⟩:=a;rw[a5,b4,f];simp
 . obtain⟨a1,a2,a3,a4,a5,a,b,c,a9⟩:=h;rw[a,b];simp;omega
 . obtain⟨a1,a2,a3,a4,a5,a,b,c,a9⟩:=h;rw[a];simp;omega
 . obtain⟨a1,a2,a3,a4,a5,a,b,c,a9⟩:=h;rw[a,b];simp;omega
structure Ei (ts:List ah):Prop where
 T:∀t,t∈ts->eZ t
 V:nb ts
theorem di.g(H:di ts):Ei ts:=⟨H.T,H.V⟩
inductive mZ:I->Prop
 |mk (v:I) (k:v.av.length<=1000) (i:v.ai.length<=1000) (Br:∀x,x∈v.ai->mZ x):mZ v
theorem mZ.items(h:mZ v):∀x,x∈v.ai->mZ x:=by
 cases h with
 |mk _ _ _ h=>exact h
theorem NO(f:mZ v)(j:b6 ts pl t v):v.av.length<=1000/\v.ai.length<=1000/\v.Rest.length<=1000:=by
 have⟨k,i⟩:v.av.length<=1000/\v.ai.length<=1000:=by cases f with|mk _ k i _=>exact⟨k,i⟩
 refine⟨k,i,?_⟩;obtain⟨_,g⟩:=(eO _ _ _).1 j;rcases g with h|h|h|h|h|h|h|h|h
 . rw[h.2.2.2.2.2.2];simp
 . rw[h.2.2.2.2.2.2.1];simp
 . rw[h.2.2.2.2.2.2.1];simp
 . rw[h.2.2.2.2.2.2.1];simp
 . obtain⟨a1,a2,a3,a4,a5,a,b,c⟩:=h;refine NN b.1 1000 λy l=>?_;have:=(b.2 y l).1;unfold cr at this;omega
 . obtain⟨a1,a2,a3,a4,a5,a⟩:=h;split at a
   . obtain⟨b1,b2,b3⟩:=a;rw[b1];simp
   . obtain⟨b1,b2,b3,b4,d,e⟩:=a;rw[e];simp
 . rw[h.2.2.2.2.2.2.1];simp
 . obtain⟨a1,a2,a3,a4,a5,a,b,c,a9⟩:=h;rw[a];simp
 . rw[h.2.2.2.2.2.2.1];simp
def gW(x:ah)(v:I)(i:Nat):Int:=if x.Kind=5 then(x.ag.getD i aC).au else if x.Kind=6 then((cD x.ag v.af).getD aC).au else x.aG
def qb(x:ah)(v:I)(i:Nat):Int:=if x.Kind=5 then(x.ag.getD i aC).af else if x.Kind=6 then v.af else i
theorem De(j:b6 ts pl t v):∀i,i<v.ai.length->b6 ts pl (gW (ts.getD t.toNat aP) v i) (v.ai.getD i ar):=by
 obtain⟨⟨n,o,p,q⟩,g⟩:=(eO _ _ _).1 j;generalize r:ts.getD t.toNat aP=x at*;intro i a;have d:=bh a ar;unfold gW;rcases g with h|h|h|h|h|h|h|h|h
 . rw[h.2.2.2.2.2.1]at a;cases a
 . rw[h.2.2.2.2.2.1]at a;cases a
 . rw[h.2.2.2.2.2.1]at a;cases a
 . rw[h.2.2.2.2.2.1]at a;cases a
 . obtain⟨a1,a2,a3,a4,a5,b,e,c⟩:=h;rw[fv];obtain⟨b1,b2⟩:=h4.1 c;exact b2 i (by omega)
 . obtain⟨a1,a2,a3,a4,a5,b⟩:=h;rw[bp,fv];split at b
   . rename_i m k;rw[k];exact cU.1 b.2.2 _ d
   . rw[b.2.2.2.1]at a;cases a
 . obtain⟨a1,a2,a3,a4,a5,b,e,c,a9⟩:=h;rw[bp,bp];exact cU.1 a9 _ d
 . obtain⟨a1,a2,a3,a4,a5,b,e,c,a9,f,l⟩:=h;rw[bp,bp];exact cU.1 f _ d
 . obtain⟨a1,a2,a3,a4,a5,b,e,c,a9⟩:=h;rw[bp,bp];exact cU.1 a9 _ d
theorem abh(f:α->α)(l:List α){i:Nat}(a:i<l.length)(d:α):((l.take i).map f++l.drop i).set i (f (l.getD i d))=(l.take (i+1)).map f++l.drop (i+1):=by
 rw[dc a];have h1:((l.take i).map f).length=i:=by simp;omega
 rw[List.set_append_right _ _ (by omega),h1,BL,lp a,List.set_cons_zero,yg,p8,eF a,hr];rfl
theorem abi(f:α->α)(l:List α){i:Nat}(a:i<l.length)(d:α):((l.take i).map f++l.drop i).getD i d=l.getD i d:=by
 have h1:((l.take i).map f).length=i:=by simp;omega
 rw[E2,p3 (by omega),h1,BL,lp a,dc a];rfl
theorem SX{l:List I}(ae:l.length<=1000)(h:∀y,y∈l->oV y=some (dw y)){a0 a2 a4 b0 b4:Int}{b1:Bool}{b3:aj}{r:List bY}:∀(k i:Nat),i+k=l.length->
 q7 ((i:Int),a0,a1,a2,a3,a4,r,b0,b1,b2,b3,b4,ks,(l.take i).map dw++l.drop i)=some (a0,a1,a2,a3,a4,r,b0,b1,b2,b3,b4,ks,l.map dw)
 |0,i,a=>by
  rw[q7,ch,lX (by omega),ef (by omega),l3]
 |k+1,i,a=>by
  have ay:i<l.length:=by omega
  have aD:((l.take i).map dw++l.drop i).length=l.length:=by simp;omega
  rw[q7,aD,bu,ad (aN ay),a',bu,abi dw l ay ar];simp only[I.aO];rw[h _ (bh ay ar)];simp only[aT,ak,I.aO];rw[ad (aN ay),bu,abh dw l ay ar,bC];exact SX ae h k (i+1) (by omega)
theorem adf(H:di ts)(d:bH v):∀{pl:Bool} {t:Int},b6 ts pl t v->mZ v:=by
 induction d with
 |mk v hs h1 f g k j l db p q r m e=>
  intro pl t a;obtain⟨n,l2,o⟩:=abg H a;exact .mk v (by omega) (by omega) λy c=>by
   obtain⟨i,b,rfl⟩:=eS c;have:=De a i b;rw[dc b]at this;exact e _ c this
theorem aah(f:bH v):∀t,mZ v->b6 ts false t v->oV v=some (dw v):=by
 induction f with
 |mk v hs h1 k m o n p db w x z q g=>
  intro t b c;obtain⟨s,l2,u⟩:=NO b c;have j:∀y,y∈v.ai->oV y=some (dw y):=λy a=>by
   obtain⟨i,d,rfl⟩:=eS a;have:=De c i d;rw[dc d]at this;exact g _ a _ (b.items _ a) this
  have e:B3 v=some (v.Kind,v.bM,v.bd,v.bl,v.af,v.av,v.ai,v.Rest):=by
   rw[B3];simp only[fS];rw[ad (cL (by omega) (by omega)),ad (cL (by omega) (by omega)),ad (cL (by omega) (by omega))]
  rw[oV];simp only[I.aO];rw[e,pB];simp only[aT,ak];have L:=λ(r:List bY)=>SX (l:=v.ai) (by omega) j (a0:=v.Kind) (a1:=v.bM) (a2:=v.bd) (a3:=v.bl) (a4:=v.af) (b0:=0) (b1:=false) (b2:=0) (b3:=[]) (b4:=0) (r:=r) (ks:=v.av) v.ai.length 0 (by omega);have L':∀r:List bY,q7 (0,v.Kind,v.bM,v.bd,v.bl,v.af,r,0,false,0,[],0,v.av,v.ai)=_:=L;by_cases ba:v.Kind=5
  . rw[ad (by simp[ba]),L',ad ba];rfl
  . rw[al (by simp[ba]),L',al ba];rfl
def qi(x:ah)(v:I):Prop:=x.Kind=4->∃y,y∈x.bg/\y.af=v.af
theorem IS(d:eZ x)(v:I):∃b,mB (x,v)=some b/\(b=false↔qi x v):=by
 rw[mB];unfold qi;by_cases a:x.Kind=4
 . rw[al (by simp[a])];obtain⟨r,g,_,k⟩:=pr (t:=x) v.af (by have:=d.1;have:=dy (ea reachBytes);omega);rw[g];refine⟨!r.2,rfl,?_⟩;rcases k with⟨j,e,f,n,rfl⟩|⟨q,rfl⟩
   . simp only[cW,true_iff];exactλ_=>⟨_,bh e dN,f⟩
   . simp only[eG,Bool.true_eq_false,false_iff];intro h;obtain⟨y,l,m⟩:=h a;obtain⟨i,c,rfl⟩:=eS l;exact absurd m (by have:=q i c;rwa [dc c]at this)
 . rw[ad (by simp[a])];exact⟨false,rfl,by simp[a]⟩
theorem aai(c':∀t,t∈ts->eZ t)(ae:v.av.length<=1000)(c:v.av≠[]->0<=x.Key/\x.Key<ts.length):∃b,CR ((⟨ts⟩:aQ),x,v)=some b/\(b=false↔∀k,k∈v.av->qi (ts.getD x.Key.toNat aP) k):=by
 have f:∀i,i<v.av.length->∃b,mB (ts.getD x.Key.toNat aP,v.av.getD i ar)=some b/\(b=false↔qi (ts.getD x.Key.toNat aP) (v.av.getD i ar)):=λi a=>
  IS (c' _ (bh (by have:=c (by intro h;rw[h]at a;cases a);omega) aP)) _
 have o:∀i,i<v.av.length->C5 (v.av.getD i ar,ts,x)=(mB (ts.getD x.Key.toNat aP,v.av.getD i ar)).map λb=>(b,ts,x):=λi a=>by
  rw[C5];have q:=c (by intro h;rw[h]at a;cases a);rw[ad (by simp[aH];omega)];simp only[I.aO];cases mB (ts.getD x.Key.toNat aP,v.av.getD i ar)<;>rfl
 have h:=qZ (λi=>pb (v.av,(v.av.length:Int),(i:Int),ts,x)) v.av.length (λi=>(mB (ts.getD x.Key.toNat aP,v.av.getD i ar))==some true) (λi=>.inl ((i:Int),ts,x)) (.inr (ts,x))
  (λi a=>by
   obtain⟨b,b1,_⟩:=f i a;rw[pb,bu,ad (aN a),a'];simp only[I.aO];rw[o i a,b1];simp only[f',aT,ak];rw[bC]
   cases b<;>simp)
  (by rw[pb,bq])
 have cY:pb (v.av,(v.av.length:Int),((0:Nat):Int),ts,x)=pb (v.av,(v.av.length:Int),0,ts,x):=rfl;simp only[cY]at h;rw[CR,Gf,FQ];rcases h with⟨j,h1,m,p,e⟩|⟨h1,e⟩
 . rw[e];refine⟨true,?_,?_⟩
   . have:decide ((0:Int)<=(j:Int))=true:=(by simp);simp only[aT,ak,this]
   . obtain⟨b,b1,b2⟩:=f j h1;have n:b=true:=by
      have g:(mB (ts.getD x.Key.toNat aP,v.av.getD j ar)==some true)=true:=m;rw[b1]at g;simpa using g
     constructor
     . intro h;cases h
     . intro h;have:=b2.2 (h _ (bh h1 ar));rw[n]at this;cases this
 . rw[e];refine⟨false,rfl,?_⟩;constructor
   . intro _ k c;obtain⟨i,a,rfl⟩:=eS c;obtain⟨b,b1,b2⟩:=f i a;have l:(mB (ts.getD x.Key.toNat aP,v.av.getD i ar)==some true)=false:=h1 i a;rw[b1]at l;have:b=false:=by cases b<;>simp_all
     rw[<-dc a (d:=ar)];exact b2.1 this
   . intro _;rfl
theorem X4(e:fy x.ag)(ae:x.ag.length<=1000){m:aU}(bD:cD x.ag id=some m):∃j,j<x.ag.length/\gN (x,id)=some ((j:Int),true)/\x.ag.getD j aC=m:=by
 obtain⟨c,d⟩:=j9 bD;obtain⟨r,g,k⟩:=tC (t:=x) (id:=id) (by omega);rcases k with⟨j,b,f,_,rfl⟩|⟨q,_⟩
 . exact⟨j,b,g,qz e (bh b aC) c (by rw[f,d])⟩
 . obtain⟨i,a,rfl⟩:=eS c;exact absurd d (by have:=q i a;rwa [dc a]at this)
def kT(x:ah)(v:I)(i:Nat):List iL:=(List.range i).map λj=>(⟨gW x v j,qb x v j⟩:iL)
theorem abj(x:ah)(v:I)(i:Nat):kT x v i++[(⟨gW x v i,qb x v i⟩:iL)]=kT x v (i+1):=by
 unfold kT;rw[List.range_succ,p8];rfl
theorem Dt(x:ah)(v:I)(i:Nat):(kT x v i).length=i:=by unfold kT;simp
theorem adg(x:ah)(v:I){i n:Nat}(h:i<n):(kT x v n).getD i HF=⟨gW x v i,qb x v i⟩:=by
 rw[dc (by rw[Dt];exact h)];unfold kT;simp
theorem LQ(ae:v.ai.length<=1000)(ba:x.Kind=5->v.ai.length<=x.ag.length)(f:x.Kind=6->0<v.ai.length->∃m,cD x.ag v.af=some m)(c:x.Kind=6->fy x.ag/\x.ag.length<=16):∀(k i:Nat),i+k=v.ai.length->
 nu ((v.ai.length:Int),(i:Int),x,v,kT x v i)=some (kT x v v.ai.length)
 |0,i,g=>by
  rw[nu,ch];have:i=v.ai.length:=by omega
  rw[this]
 |k+1,i,g=>by
  have ih:=LQ ae ba f c k (i+1) (by omega);have hs:=abj x v i;have d:∀s:iL,room 16 (kT x v i++[s]).length=true:=λs=>cL (by omega) (by simp[Dt];omega);rw[nu,bu,bC];simp only[aT,ak,I.aO];by_cases a:x.Kind=5
  . have ay:i<x.ag.length:=by have:=ba a;omega
    rw[ad (by simp[a]),ad (aN ay),ad (aN ay),ad (d _),a'];have e:(⟨(x.ag.getD i aC).au,(x.ag.getD i aC).af⟩:iL)=⟨gW x v i,qb x v i⟩:=by unfold gW qb;rw[ad a,ad a]
    rw[e,hs];exact ih
  . rw[al (by simp[a])];by_cases b:x.Kind=6
    . obtain⟨m,bD⟩:=f b (by omega);obtain⟨j,l,n,o⟩:=X4 (c b).1 (by have:=(c b).2;omega) bD;rw[ad (by simp[b]),n];simp only[ak];rw[ad (aN l),ad (d _),a',o];have e:(⟨m.au,v.af⟩:iL)=⟨gW x v i,qb x v i⟩:=by unfold gW qb;rw[al a,ad b,al a,ad b,bD];rfl
      rw[e,hs];exact ih
    . rw[al (by simp[b]),ad (d _)];have e:(⟨x.aG,(i:Int)⟩:iL)=⟨gW x v i,qb x v i⟩:=by unfold gW qb;rw[al a,al b,al a,al b]
      rw[e,hs];exact ih
theorem aaj(H:iF ts)(e:b6 ts pl t v)(ae:v.ai.length<=1000):CG (ts.getD t.toNat aP,v)=some (kT (ts.getD t.toNat aP) v v.ai.length):=by
 obtain⟨⟨i,j,k,l⟩,b⟩:=(eO _ _ _).1 e;have g:=bh (by omega:t.toNat<ts.length) aP;generalize n:ts.getD t.toNat aP=x at*;rw[CG];simp only[I.aO]
 have:= LQ (x:= x) (v:= v) ae (λo=>by
  rcases b with h|h|h|h|h|h|h|h|h
  case inr.inr.inr.inr.inl=>have:=(h4.1 h.2.2.2.2.2.2.2).1;omega
  all_goals (have:=h.1;omega)) (λd c=>by
  rcases b with h|h|h|h|h|h|h|h|h
  case inr.inr.inr.inr.inr.inl=>
   obtain⟨a1,a2,a3,a4,a5,a⟩:=h;split at a
   . rename_i m f;exact⟨m,f⟩
   . rw[a.2.2.2.1]at c;cases c
  all_goals (have:=h.1;omega)) (λd=>H.A x g (.inr d)) v.ai.length 0 (by omega)
 have h0:nu ((v.ai.length:Int),0,x,v,[])=_:=this;rw[h0];rfl
def zeroV:I:=⟨0,false,0,[],0,[],[],[]⟩
def D4(ts:List ah)(t:Int)(v:I):Prop:=∃b,(b=true↔b6 ts true t (dw v))/\lN ((⟨ts⟩:aQ),t,v)=some (if b then(dw v,true)else(zeroV,false))
theorem LR{x:ah}{v:I}(ae:v.ai.length<=1000)(h:∀i,i<v.ai.length->D4 ts (gW x v i) (v.ai.getD i ar)){z0 z2 z4 a0 a2 a4:Int}{z1 a1:Bool}{z3 a3:aj}{ks:List I}:∀(k i:Nat),i+k=v.ai.length->
 (qO (kT x v v.ai.length,(v.ai.length:Int),(i:Int),ts,v,z0,z1,z2,z3,z4,a0,a1,a2,a3,a4,ks,(v.ai.take i).map dw)=some (.inr (z0,z1,z2,z3,z4,a0,a1,a2,a3,a4,ks,v.ai.map dw))/\∀j,i<=j->j<v.ai.length->b6 ts true (gW x v j) (dw (v.ai.getD j ar)))\/
 (qO (kT x v v.ai.length,(v.ai.length:Int),(i:Int),ts,v,z0,z1,z2,z3,z4,a0,a1,a2,a3,a4,ks,(v.ai.take i).map dw)=some (.inl (false,0,false,0,[],0))/\∃j,j<v.ai.length/\¬b6 ts true (gW x v j) (dw (v.ai.getD j ar)))
 |0,i,f=>.inl ⟨by rw[qO,ch,lX (by omega)],λj h1 d=>by omega⟩
 |k+1,i,f=>by
  have ay:i<v.ai.length:=by omega
  obtain⟨b,b1,b2⟩:=h i ay;rw[qO,bu,ad (aN (by rw[Dt];exact ay)),ad (aN ay),a',adg x v ay];simp only[I.aO];rw[b2];cases b with
  |false=>exact .inr ⟨rfl,i,ay,λq=>by have:=b1.2 q;cases this⟩
  |true=>
   have e:(v.ai.take i).map dw++[dw (v.ai.getD i ar)]=(v.ai.take (i+1)).map dw:=by
    rw[yg,p8,eF ay,dc ay];rfl
   simp only[aT,ak,bJ,cW,I.aO];rw[bq,ad (cL),bC,e];rcases LR ae h (z0:=z0) (z1:=z1) (z2:=z2) (z3:=z3) (z4:=z4) (a0:=a0) (a1:=a1) (a2:=a2) (a3:=a3) (a4:=a4) (ks:=ks) k (i+1) (by omega)with⟨a,c⟩|⟨a,c⟩
   . refine .inl ⟨a,λj h1 d=>?_⟩;by_cases g:j=i
     . subst g;exact b1.1 rfl
     . exact c j (by omega) d
   . exact .inr ⟨a,c⟩
theorem abk{k:I}(g:b6 ts false t k)(h1:1<=(ts.getD t.toNat aP).Kind/\(ts.getD t.toNat aP).Kind<=4)(i:qi (ts.getD t.toNat aP) k):b6 ts true t k:=by
 obtain⟨⟨a,b,c,l⟩,f⟩:=(eO _ _ _).1 g;rw[eO];rcases f with h|h|h|h|h|h|h|h|h
 . exact⟨⟨a,b,c,λ_=>h.2.2.2.2.2.2⟩,.inl h⟩
 . exact⟨⟨a,b,c,λ_=>h.2.2.2.2.2.2.1⟩,.inr (.inl h)⟩
 . exact⟨⟨a,b,c,λ_=>h.2.2.2.2.2.2.1⟩,.inr (.inr (.inl h))⟩
 . obtain⟨a1,a2,a3,a4,a5,e,d,j⟩:=h;exact⟨⟨a,b,c,λ_=>d⟩,.inr (.inr (.inr (.inl ⟨a1,a2,a3,a4,a5,e,d,.inl (i (by omega))⟩)))⟩
 all_goals (have:=h.1;omega)
theorem KJ{k:I}(b:b6 ts true t k):qi (ts.getD t.toNat aP) k:=by
 obtain⟨⟨c,d,e,f⟩,a⟩:=(eO _ _ _).1 b;intro g;rcases a with h|h|h|h|h|h|h|h|h
 case inr.inr.inr.inl=>
  rcases h.2.2.2.2.2.2.2 with h|h
  . exact h
  . cases h.2.1
 all_goals (have:=h.1;omega)
theorem aak(x:ah)(v:I)(j:Nat):gW x (dw v) j=gW x v j:=by
 unfold gW;rw[pB]
theorem JK{l:List I}(h:j<l.length):(l.map dw).getD j ar=dw (l.getD j ar):=by
 rw[dc h,dc (by simpa using h)];simp
theorem aal(H:iF ts)(C:b6 ts false t v):b6 ts true t (dw v)↔
 qi (ts.getD t.toNat aP) v/\(∀k,k∈v.av->qi (ts.getD (ts.getD t.toNat aP).Key.toNat aP) k)/\¬((ts.getD t.toNat aP).Kind=6/\v.ai.length=0)/\∀j,j<v.ai.length->b6 ts true (gW (ts.getD t.toNat aP) v j) (dw (v.ai.getD j ar)):=by
 obtain⟨⟨g,l,n,L⟩,B⟩:=(eO _ _ _).1 C;have G:=bh (by omega:t.toNat<ts.length) aP;constructor
 . intro h;have D:=De h;have E:=KJ h;have A:(dw v).af=v.af:=by rw[pB]
   have p:(dw v).av=v.av:=by rw[pB]
   have r:(dw v).ai=v.ai.map dw:=by rw[pB]
   obtain⟨⟨_,_,f3,f4⟩,s⟩:=(eO _ _ _).1 h;refine⟨λz=>by have:=E z;rwa [A]at this,λk c=>?_,?_,λj o=>?_⟩
   . rcases s with h|h|h|h|h|h|h|h|h
     case inr.inr.inr.inr.inr.inr.inr.inl=>
      have:=h.2.2.2.2.2.2.2.2.1;rw[p]at this;exact KJ (cU.1 this _ c)
     case inr.inr.inr.inr.inr.inl=>have:=h.2.2.2.2.1;rw[p]at this;rw[this]at c;cases c
     case inl=>have:=h.2.2.2.2.1;rw[p]at this;rw[this]at c;cases c
     case inr.inl=>have:=h.2.2.2.2.1;rw[p]at this;rw[this]at c;cases c
     case inr.inr.inl=>have:=h.2.2.2.2.1;rw[p]at this;rw[this]at c;cases c
     case inr.inr.inr.inl=>have:=h.2.2.2.2.1;rw[p]at this;rw[this]at c;cases c
     all_goals (have:=h.2.2.2.2.2.1;rw[p]at this;rw[this]at c;cases c)
   . intro⟨O,N⟩;rcases s with h|h|h|h|h|h|h|h|h
     case inr.inr.inr.inr.inr.inl=>
      obtain⟨a1,a2,a3,a4,a5,a⟩:=h;split at a
      . have:=a.2.1;rw[r,gA]at this;omega
      . cases a.2.1
     all_goals (have:=h.1;omega)
   . have:=D j (by rw[r,gA];exact o)
     rwa [aak,r,JK o]at this
 . intro⟨c,F,J,o⟩;rw[pB,eO];dsimp only;generalize M:ts.getD t.toNat aP=x at*;rcases B with h|h|h|h|h|h|h|h|h
   . obtain⟨a1,a2,a3,a4,a5,a,b⟩:=h;rw[bp,a,b];exact⟨⟨g,l,n,λ_=>rfl⟩,.inl ⟨a1,a2,a3,a4,a5,rfl,rfl⟩⟩
   . obtain⟨a1,a2,a3,a4,a5,a,b,d⟩:=h;rw[bp,a,b];exact⟨⟨g,l,n,λ_=>rfl⟩,.inr (.inl ⟨a1,a2,a3,a4,a5,rfl,rfl,d⟩)⟩
   . obtain⟨a1,a2,a3,a4,a5,a,b,d⟩:=h;rw[bp,a,b];exact⟨⟨g,l,n,λ_=>rfl⟩,.inr (.inr (.inl ⟨a1,a2,a3,a4,a5,rfl,rfl,d⟩))⟩
   . obtain⟨a1,a2,a3,a4,a5,a,b,d⟩:=h;rw[bp,a,b];exact⟨⟨g,l,n,λ_=>rfl⟩,.inr (.inr (.inr (.inl ⟨a1,a2,a3,a4,a5,rfl,rfl,.inl (c (by omega))⟩)))⟩
   . obtain⟨a1,a2,a3,a4,a5,a,b,d⟩:=h;rw[ad a1];obtain⟨b1,b2⟩:=h4.1 d;refine⟨⟨g,l,n,λ_=>rfl⟩,.inr (.inr (.inr (.inr (.inl ⟨a1,a2,a3,a4,a5,a,⟨List.Pairwise.nil,λy f=>(by cases f)⟩,h4.2 ⟨by rw[gA];exact b1,λi e=>?_⟩⟩))))⟩;have:=o i (by omega);unfold gW at this;rw[fv]at this;rw[JK (by omega)];exact this
   . obtain⟨a1,a2,a3,a4,a5,a⟩:=h;rw[bp];cases bD:cD x.ag v.af with
     |none=>
      rw[bD]at a;exact absurd ⟨by omega,by rw[a.2.2.2.1];rfl⟩ J
     |some m=>
      rw[bD]at a;obtain⟨b1,b2,b3⟩:=a;refine⟨⟨g,l,n,λ_=>b1⟩,.inr (.inr (.inr (.inr (.inr (.inl ⟨a1,a2,a3,a4,a5,b1,by rw[gA];exact b2,cU.2 λy f=>?_⟩)))))⟩;obtain⟨w,q,rfl⟩:=eK.1 f;obtain⟨i,e,rfl⟩:=eS q;have:=o i e;unfold gW at this;rw[bp,fv,bD,dc e]at this;exact this
   . obtain⟨a1,a2,a3,a4,a5,a,b,d,a9⟩:=h;rw[bp];refine⟨⟨g,l,n,λ_=>b⟩,.inr (.inr (.inr (.inr (.inr (.inr (.inl ⟨a1,a2,a3,a4,a5,a,b,by rw[gA];exact d,cU.2 λy f=>?_⟩))))))⟩;obtain⟨w,q,rfl⟩:=eK.1 f;obtain⟨i,e,rfl⟩:=eS q;have:=o i e;unfold gW at this;rw[bp,bp,dc e]at this;exact this
   . obtain⟨a1,a2,a3,a4,a5,a,b,d,a9,K,u⟩:=h;rw[bp];refine⟨⟨g,l,n,λ_=>a⟩,.inr (.inr (.inr (.inr (.inr (.inr (.inr (.inl ⟨a1,a2,a3,a4,a5,a,b,by rw[gA];exact d,cU.2 λy f=>abk (cU.1 a9 y f) (H.r2 x G (by omega)) (F y f),cU.2 λy f=>?_,u⟩)))))))⟩;obtain⟨w,q,rfl⟩:=eK.1 f;obtain⟨i,e,rfl⟩:=eS q;have:=o i e;unfold gW at this;rw[bp,bp,dc e]at this;exact this
   . obtain⟨a1,a2,a3,a4,a5,a,b,d,a9⟩:=h;rw[bp];refine⟨⟨g,l,n,λ_=>b⟩,.inr (.inr (.inr (.inr (.inr (.inr (.inr (.inr ⟨a1,a2,a3,a4,a5,a,b,by rw[gA];exact d,cU.2 λy f=>?_⟩)))))))⟩;obtain⟨w,q,rfl⟩:=eK.1 f;obtain⟨i,e,rfl⟩:=eS q;have:=o i e;unfold gW at this;rw[bp,bp,dc e]at this;exact this
theorem aam(c:b6 ts pl t v):v.av≠[]->0<=(ts.getD t.toNat aP).Key/\(ts.getD t.toNat aP).Key<ts.length:=by
 obtain⟨_,b⟩:=(eO _ _ _).1 c;intro aD;rcases b with h|h|h|h|h|h|h|h|h
 case inr.inr.inr.inr.inr.inr.inr.inl=>
  obtain⟨a1,a2,a3,a4,a5,f,g,i,a9,_⟩:=h;cases a:v.av with
  |nil=>exact absurd a aD
  |cons k l=>
   have:=cU.1 a9 k (by rw[a];exact .head _);obtain⟨⟨d,e,_⟩,_⟩:=(eO _ _ _).1 this;exact⟨d,e⟩
 case inl=>exact absurd h.2.2.2.2.1 aD
 case inr.inl=>exact absurd h.2.2.2.2.1 aD
 case inr.inr.inl=>exact absurd h.2.2.2.2.1 aD
 case inr.inr.inr.inl=>exact absurd h.2.2.2.2.1 aD
 case inr.inr.inr.inr.inr.inl=>exact absurd h.2.2.2.2.1 aD
 all_goals exact absurd h.2.2.2.2.2.1 aD
theorem aan(H:Ei ts)(Q:bH v):∀t,mZ v->b6 ts false t v->D4 ts t v:=by
 have S:=H.V.hT H.T;induction Q with
 |mk v hs h1 w ag aj ah al db ap aq au am R=>
  intro t g c;obtain⟨an,l2,ao⟩:=NO g c;obtain⟨⟨Z,aa,ab,ae⟩,_⟩:=(eO _ _ _).1 c;have p:t.toNat<ts.length:=by omega
  have M:=bh p aP;have e:=aal S c;have N:=aaj S c (by omega);have L:∀i,i<v.ai.length->D4 ts (gW (ts.getD t.toNat aP) v i) (v.ai.getD i ar):=λi o=>R _ (bh o ar) _ (g.items _ (bh o ar)) (De c i o);obtain⟨Y,s1,C⟩:=IS (H.T _ M) v;obtain⟨X,u,B⟩:=aai H.T (x:=ts.getD t.toNat aP) (v:=v) (by omega) (aam c);generalize m:ts.getD t.toNat aP=x at*;have k:∀(P:Prop),¬b6 ts true t (dw v)->lN ((⟨ts⟩:aQ),t,v)=some (zeroV,false)->D4 ts t v:=λ_ h1 w=>⟨false,by simp[h1],by rw[w];rfl⟩
  have l:aH t ts.length=true:=by simp[aH];omega
  have O:∀b,(bif decide (x.Kind=6)then decide ((v.ai.length:Int)=0)else false)=b->(b=true↔x.Kind=6/\v.ai.length=0):=by
   intro b J;rw[<-J];by_cases F:x.Kind=6<;>simp[F]
  obtain⟨D,s⟩:∃b,(bif decide (x.Kind=6)then decide ((v.ai.length:Int)=0)else false)=b:=⟨_,rfl⟩
  have z:=O D s;cases Y with
  |true=>
   refine k True (λh=>?_) ?_
   . have:=C.2 (e.1 h).1;cases this
   . rw[lN,ad l];simp only[aT,ak,I.aO,m];rw[s1];rfl
  |false=>
   cases X with
   |true=>
    refine k True (λh=>?_) ?_
    . have:=B.2 (e.1 h).2.1;cases this
    . rw[lN,ad l];simp only[aT,ak,I.aO,m];rw[s1];simp only[ak,eG,bJ];rw[u];rfl
   |false=>
    cases D with
    |true=>
     refine k True (λh=>(e.1 h).2.2.1 (z.1 rfl)) ?_;rw[lN,ad l];simp only[aT,ak,I.aO,m];rw[s1];simp only[ak,eG,bJ];rw[u,s];rfl
    |false=>
     have g:=LR (x:=x) (v:=v) (by omega) L (z0:=0) (z1:=false) (z2:=0) (z3:=[]) (z4:=0) (a0:=v.Kind) (a1:=v.bM) (a2:=v.bd) (a3:=v.bl) (a4:=v.af) (ks:=v.av) v.ai.length 0 (by omega)
     have y:∀ f,qO (kT x v v.ai.length,(v.ai.length:Int),0,ts,v,0,false,0,[],0,v.Kind,v.bM,v.bd,v.bl,v.af,v.av,[]) = some f->lN ((⟨ts⟩:aQ),t,v) = (match f with
      |.inl d=>some ((⟨d.2.1,d.2.2.1,d.2.2.2.1,d.2.2.2.2.1,d.2.2.2.2.2,[],[],[]⟩:I),d.1)
      |.inr a=>some ((⟨a.2.2.2.2.2.1,a.2.2.2.2.2.2.1,a.2.2.2.2.2.2.2.1,a.2.2.2.2.2.2.2.2.1,a.2.2.2.2.2.2.2.2.2.1,a.2.2.2.2.2.2.2.2.2.2.1,a.2.2.2.2.2.2.2.2.2.2.2,[]⟩:I),true)):=by
      intro f G;rw[lN,ad l];simp only[aT,ak,I.aO,m];rw[s1];simp only[ak,eG,bJ];rw[u,s];simp only[ak,dV];have K:fD 120 v.av=some v.av:=by unfold fD;rw[ad (nH (cL (by omega) (by omega)))]
      rw[bq,K];simp only[ak];rw[N];simp only[ak,Dt];rw[G];cases f<;>rfl
     rcases g with⟨n,E⟩|⟨n,j,U,W⟩
     . have A:b6 ts true t (dw v):=e.2 ⟨C.1 rfl,B.1 rfl,λh=>(by have:=z.2 h;cases this),λj p=>E j (ic _) p⟩;refine⟨true,by simp[A],?_⟩;rw[y _ n,ad rfl];have r:(dw v).Rest=[]:=by
        obtain⟨⟨_,_,_,q⟩,_⟩:=(eO _ _ _).1 A;exact q rfl
       have:(⟨v.Kind,v.bM,v.bd,v.bl,v.af,v.av,v.ai.map dw,[]⟩:I)=dw v:=by
        rw[pB]at r⊢;dsimp only at r;rw[r]
       show some ((⟨v.Kind,v.bM,v.bd,v.bl,v.af,v.av,v.ai.map dw,[]⟩:I),true)=_;rw[this]
     . refine k True (λh=>W ((e.1 h).2.2.2 j U)) ?_;rw[y _ n];rfl
end
theorem Hq(g:bH v):bH (dw v):=by
 induction g with
 |mk v hs h1 c d e n f db k l m o j=>
  rw[pB];have b:∀x,x∈(if v.Kind=5 then[]else v.Rest)->x∈v.Rest:=λx a=>by
   by_cases ba:v.Kind=5
   . rw[ad ba]at a;cases a
   . rwa [al ba]at a
  refine .mk _ hs h1 (by show(v.ai.map dw).length<=_;rw[gA];exact c) ?_ e (λx a=>?_) (λx a=>f x (b x a)) db k l (λx a=>m x (b x a))
  . show(if v.Kind=5 then[]else v.Rest).length<=_;by_cases ba:v.Kind=5
    . rw[ad ba];exact ic _
    . rw[al ba];exact d
  . obtain⟨w,i,rfl⟩:=eK.1 a;exact j w i
theorem aao(H:Ei ts)(a:bH v)(d:mZ v)(c:b6 ts false t v):
 ∃b,(b=true↔b6 ts true t (dw v))/\u4 ((⟨ts⟩:aQ),t,v)=some (if b then(dw v,0)else(zeroV,12))/\rq ((⟨ts⟩:aQ),t,v)=some (if b then(dw v,0)else(zeroV,12)):=by
 have S:=H.V.hT H.T;obtain⟨b,b1,b2⟩:=aan H a t d c;obtain⟨_,f⟩:=YG H.T H.V a c;obtain⟨v1,_⟩:=pA H.T H.V;obtain⟨⟨u,w,_⟩,_⟩:=(eO _ _ _).1 c;have k:¬(bif decide (t<0)then true else decide ((ts.length:Int)<=t))=true:=by
  have h1:¬t<0:=by omega
  have i:¬(ts.length:Int)<=t:=by omega
  simp[h1,i]
 have m:BU ((⟨ts⟩:aQ),t)=some 0:=by
  rw[BU];simp only[Ko];rw[v1];simp only[aT,ak];rw[bq,al k]
 have bD:s8 ((⟨ts⟩:aQ),t,v)=some true:=by
  obtain⟨q,o,p⟩:=Ld (by have:=S.n;omega) H.T S.K a t false;obtain⟨x,e,s⟩:=y7 (by have:=S.n;omega) H.T S.K a t false;have g:x=q:=by rw[p]at e;exact(kR e).symm
  have l:q=true:=by rw[<-g];exact s.2 c
  rw[s8];simp only[I.aO];rw[o,l];rfl
 have j:CX ((⟨ts⟩:aQ),t,v)=some 0:=by
  rw[CX];simp only[I.aO];rw[m];simp only[aT,ak];rw[bq,bD];rfl
 refine⟨b,b1,?_,?_⟩
 . rw[u4];simp only[I.aO];rw[j];simp only[aT,ak];rw[bq,b2];cases b<;>simp[zeroV,I.aO]
 . rw[rq];simp only[I.aO];rw[f];simp only[aT,ak];rw[bq,aah a t d c];simp only[ak,I.aO];obtain⟨q,r,y⟩:=X1 (by have:=S.n;omega) H.T S.K (Hq a) t;rw[r];have:q=b:=by
    cases q<;>cases b<;>simp_all
   subst this;cases q<;>simp[zeroV]
theorem JL(H:di ts)(c:bH v)(a:b6 ts false t v):
 ∃b,(b=true↔b6 ts true t (dw v))/\u4 ((⟨ts⟩:aQ),t,v)=some (if b then(dw v,0)else(zeroV,12))/\rq ((⟨ts⟩:aQ),t,v)=some (if b then(dw v,0)else(zeroV,12)):=aao H.g c (adf H c a) a
def cm{α c:Type}(f:α->Option c):List α->Option (List c)
 |[]=>some []
 |a::l=>match f a,cm f l with
  |some b,some m=>some (b::m)
  |_,_=>none
def fc{α:Type}:List α->List α
 |a::_::l=>a::fc l
 |_=>[]
def fm{α:Type}:List α->List α
 |_::b::l=>b::fm l
 |_=>[]
def oE(ks:List I):Bool:=(List.range (ks.length-1)).all λi=>decide (gX (ks.getD i ar) (ks.getD (i+1) ar)<0)
theorem wa:oE ks=true↔jM ks:=by
 unfold oE jM;grind
def c1(ts:List ah):Nat->Int->aj->Option I
 |0,_,_=>none
 |n+1,t,p=>
  let x:=ts.getD t.toNat aP
  if x.Kind=1 then(if p=[]then some ⟨1,false,0,[],0,[],[],[]⟩else if p=[1]then some ⟨1,true,0,[],0,[],[],[]⟩else none)else if x.Kind=2 then(match hU p with
   |some m=>if x.bB<=jm m/\jm m<=x.bF then some ⟨2,false,jm m,[],0,[],[],[]⟩else none
   |none=>none)
  else if x.Kind=3 then(if(p.length:Int)<=x.Max then some ⟨3,false,0,p,0,[],[],[]⟩else none)else if x.Kind=4 then(match hU p with
   |some m=>if 1<=m/\m<=1000/\((x.bg.any λy=>decide (y.af=(m:Int)))||x.Open)=true then some ⟨4,false,0,[],(m:Int),[],[],[]⟩else none
   |none=>none)
  else if x.Kind=9 then(match p with
   |[]=>some ⟨9,false,0,[],0,[],[],[]⟩
   |c::q=>if c=1 then(c1 ts n x.aG q).map λv=>⟨9,false,0,[],0,[],[v],[]⟩else none)
  else if x.Kind=6 then(match jW p with
   |some (id,q)=>(match cD x.ag id with
    |some m=>(c1 ts n m.au q).map λv=>⟨6,false,0,[],id,[],[v],[]⟩
    |none=>if x.Open then some ⟨6,false,0,[],id,[],[],[⟨id,q⟩]⟩else none)
   |none=>none)
  else if x.Kind=7 then(match iQ p with
   |some l=>if(l.length:Int)<=x.Max then(cm (c1 ts n x.aG) l).map λa=>⟨7,false,0,[],0,[],a,[]⟩else none
   |none=>none)
  else if x.Kind=8 then(match iQ p with
   |some l=>if l.length%2 = 0/\((l.length/2:Nat):Int)<=x.Max then (match cm (c1 ts n x.Key) (fc l) with
    |some ks=>if oE ks then(cm (c1 ts n x.aG) (fm l)).map λa=>⟨8,false,0,[],0,ks,a,[]⟩else none
    |none=>none)else none
   |none=>none)
  else(match jn p with
   |some l=>(match cm (λm:aU=>match l.find? (λf=>decide (f.af = m.af)) with
    |some f=>c1 ts n m.au f.Data
    |none=>if m.bW then some m.bw else none) x.ag with
    |some a=>if(l.all λf=>(cD x.ag f.af).isSome || !f.cn) then some ⟨5,false,0,[],0,[],a,(l.filter λf=>!(cD x.ag f.af).isSome).map λf=>⟨f.af,f.Data⟩⟩else none
    |none=>none)
   |none=>none)
section
variable {ts:List ah}
def fH(ts:List ah)(b1:aq)(b2:Int)(path:aq)(o:Option I)(r:Option (I×Bool×List ah×aq×Int×aq)):Prop:=
 (∀v,o=some v->r=some (v,true,ts,b1,b2,path))/\(o=none->∃w f1 f2,r=some (w,false,ts,f1,f2,path))
theorem yL(b:path.length<=1000)(a:Int)(b1:aq)(b2:Int):hD (a,ts,b1,b2,path)=some ((⟨0,false,0,[],0,[],[],[]⟩:I),false,ts,a,path,path):=by
 rw[hD];unfold tp fD;rw[ad (nH (cL (by omega) (by omega)))];simp
theorem wb{step:Int}{o:Option I}(e:path.length<=1000)(h:fH ts b1 b2 (path++[step]) o (oP (t,p,ts,b1,b2,path++[step]))):
 fH ts b1 b2 path o (jb (step,t,p,ts,b1,b2,path)):=by
 have key:∀w b f1 f2,oP (t,p,ts,b1,b2,path++[step])=some (w,b,ts,f1,f2,path++[step])->jb (step,t,p,ts,b1,b2,path)=some (w,b,ts,f1,f2,path):=by
  intro w b f1 f2 a;rw[jb];simp only[aT,ak];rw[ad (cL),a];simp only[ak,I.aO];have aK:dh .i64 ((path++[step]).length:Int) 1=(path.length:Int):=by rw[hj (by simp<;>omega) (by simp<;>omega)];simp
  rw[aK];have d:dU 0 (path.length:Int) (path++[step]).length=true:=iq.2 (by simp;omega);simp_all
 refine⟨λv c=>key _ _ _ _ (h.1 v c),λaD=>?_⟩;obtain⟨w,f1,f2,a⟩:=h.2 aD;exact⟨w,f1,f2,key _ _ _ _ a⟩
theorem s'{c:Type}{f:α->Option c}:∀{l:List α} {m:List c},cm f l=some m->m.length=l.length
 |[],m,h=>by rw[cm]at h;cases h;rfl
 |a::l,m,h=>by
  rw[cm]at h;split at h
  . rename_i b e h1 d;cases h;rw[ia,ia,s' d]
  . cases h
theorem LS{l:List aj}(ae:l.length<=90000)(h:∀q,q∈l->∀step b1 b2,fH ts b1 b2 path (f q) (jb (step,x.aG,q,ts,b1,b2,path)))
 {z0 z2 z4 a0 a2 a4:Int}{z1 a1:Bool}{z3 a3:aj}{b1:aq}{b2:Int}:∀(k i:Nat) (acc:List I),i+k=l.length->acc.length=i->
 (∀m,cm f (l.drop i)=some m->sZ (l,(l.length:Int),(i:Int),ts,b1,b2,x,z0,z1,z2,z3,z4,a0,a1,a2,a3,a4,path,acc)=some (.inr (ts,b1,b2,z0,z1,z2,z3,z4,a0,a1,a2,a3,a4,path,acc++m)))/\
 (cm f (l.drop i)=none->∃w f1 f2,sZ (l,(l.length:Int),(i:Int),ts,b1,b2,x,z0,z1,z2,z3,z4,a0,a1,a2,a3,a4,path,acc)=some (.inl (false,ts,f1,f2,w,path)))
 |0,i,acc,d,c=>by
  rw[sZ,ch,ef (by omega),cm];grind
 |k+1,i,acc,d,c=>by
  have ay:i<l.length:=by omega
  have a:=h _ (bh ay []) (i:Int) b1 b2;have e:l.drop i=l.getD i []::l.drop (i+1):=by rw[dc ay];exact lp ay
  rw[sZ,bu,ad (aN ay),a',e,cm];cases b:f (l.getD i [])with
  |none=>
   obtain⟨w,f1,f2,n⟩:=a.2 b;simp_all
  |some v=>
   rw[a.1 v b];simp only[aT,ak,I.aO,cW];rw[bq,ad (cL),bC];obtain⟨o,j⟩:=LS ae h (z0:=z0) (z1:=z1) (z2:=z2) (z3:=z3) (z4:=z4) (a0:=a0) (a1:=a1) (a2:=a2) (a3:=a3) (a4:=a4) (b1:=b1) (b2:=b2) k (i+1) (acc++[v]) (by omega) (by simp;omega);cases hs:cm f (l.drop (i+1))with
   |none=>exact⟨λm g=>by simp at g,λ_=>j hs⟩
   |some p=>grind
end
theorem Df{l:List I}{i:Nat}(a:i<l.length):l.set i (l.getD i ar)=l:=by simp_all
theorem KK{a0 a2 a4 z0 z2 z4:Int}{l l2:List I}{r:List bY}(ae:l.length<=5000000000000)(h:∀y,y∈l->jJ y=some y):∀(k i:Nat),i+k=l.length->
 sH ((l.length:Int),(i:Int),a0,a1,a2,a3,a4,z0,z1,z2,z3,z4,l,l2,r)=some (a0,a1,a2,a3,a4,z0,z1,z2,z3,z4,l,l2,r)
 |0,i,a=>by rw[sH,ch]
 |k+1,i,a=>by
  have ay:i<l.length:=by omega
  rw[sH,bu,ad (aN ay),a',bu];simp only[I.aO];rw[h _ (bh ay ar)];simp only[aT,ak,I.aO];rw[ad (aN ay),bu,bC,Df ay];exact KK ae h k (i+1) (by omega)
theorem KL{a0 a2 a4 z0 z2 z4:Int}{l l2:List I}{r:List bY}(ae:l.length<=5000000000000)(h:∀y,y∈l->jJ y=some y):∀(k i:Nat),i+k=l.length->
 sI ((l.length:Int),(i:Int),a0,a1,a2,a3,a4,z0,z1,z2,z3,z4,l,l2,r)=some (a0,a1,a2,a3,a4,z0,z1,z2,z3,z4,l2,l,r)
 |0,i,a=>by rw[sI,ch]
 |k+1,i,a=>by
  have ay:i<l.length:=by omega
  rw[sI,bu,ad (aN ay),a',bu];simp only[I.aO];rw[h _ (bh ay ar)];simp only[aT,ak,I.aO];rw[ad (aN ay),bu,bC,Df ay];exact KL ae h k (i+1) (by omega)
theorem mV:∀l:List I,l.length<=cB l
 |[]=>by simp
 |v::l=>by
  rw[gO,fg,ia];have:=mV l;omega
theorem LU(l:List bY):l.length<=(l.map λx=>x.Data.length+1).sum:=by
 induction l with
 |nil=>simp
 |cons a l ih=>simp only[gB,og,ia];omega
theorem vV{k n:Nat}(a:k<=1000:=by omega)(h:n<=1000000000:=by omega):room k n=true:=by
 unfold room j' eE;simp only[cc,dq];refine⟨?_,by omega⟩;have:(2*n+192)*k<=2000000192*1000:=Nat.mul_le_mul (by omega) a;omega
theorem aap(j:bH v):wt v<=1000000000->jJ v=some v:=by
 induction j with
 |mk v hs h1 o p s q t db A B C m k=>
  intro u;have w:=fg v;have x:=mV v.av;have l2:=mV v.ai;have z:=LU v.Rest;have kk:∀y,y∈v.av->jJ y=some y:=λy a=>m y a (by have:=e2 a;omega);have n:∀y,y∈v.ai->jJ y=some y:=λy a=>k y a (by have:=e2 a;omega);have f:fD 120 v.av=some v.av:=by unfold fD;rw[ad (nH (vV))]
  have g:fD 120 v.ai=some v.ai:=by unfold fD;rw[ad (nH (vV))]
  have i:fD 24 v.Rest=some v.Rest:=by unfold fD;rw[ad (nH (vV))]
  have b:=KK (a0:=v.Kind) (a1:=v.bM) (a2:=v.bd) (a3:=v.bl) (a4:=v.af) (z0:=0) (z1:=false) (z2:=0) (z3:=[]) (z4:=0) (l:=v.av) (l2:=v.ai) (r:=v.Rest) (by omega) kk v.av.length 0 (by omega);have d:=KL (a0:=v.Kind) (a1:=v.bM) (a2:=v.bd) (a3:=v.bl) (a4:=v.af) (z0:=0) (z1:=false) (z2:=0) (z3:=[]) (z4:=0) (l:=v.ai) (l2:=v.av) (r:=v.Rest) (by omega) n v.ai.length 0 (by omega);have c:sH ((v.av.length:Int),0,v.Kind,v.bM,v.bd,v.bl,v.af,0,false,0,[],0,v.av,v.ai,v.Rest)=_:=b;have e:sI ((v.ai.length:Int),0,v.Kind,v.bM,v.bd,v.bl,v.af,0,false,0,[],0,v.ai,v.av,v.Rest)=_:=d;rw[jJ,f,g,i];simp only[aT,ak];rw[c];simp only[ak];rw[e];simp only[ak];cases v;rfl
section
variable {ts:List ah}
def wT(ts:List ah)(n:Nat):Prop:=∀(t:Int) (p:aj) (b1:aq) (b2:Int) (path:aq),0<=t->t<ts.length->p.length<=4096->path.length+n=200->
 fH ts b1 b2 path (c1 ts n t p) (oP (t,p,ts,b1,b2,path))
theorem jK(a:path.length<=1000)(b:Int)(b1:aq)(b2:Int):fH ts b1 b2 path none (hD (b,ts,b1,b2,path)>>=λr=>some (I.eta r.1,r.2.1,r.2.2.1,r.2.2.2.2.2,r.2.2.2.1,r.2.2.2.2.1)):=by
 refine⟨λv h=>(by cases h),λ_=>?_⟩;rw[yL a];simp_all
theorem EX(c:fy x.ag)(ae:x.ag.length<=1000){m:aU}(bD:cD x.ag id=some m):∃j,j<x.ag.length/\gN (x,id)=some ((j:Int),true)/\x.ag.getD j aC=m:=by
 obtain⟨b,e⟩:=j9 bD;obtain⟨r,f,g⟩:=tC (t:=x) (id:=id) (by omega);rcases g with⟨j,a,d,_,rfl⟩|⟨q,_⟩
 . exact⟨j,a,f,qz c (bh a aC) b (by rw[d,e])⟩
 . obtain⟨i,k,rfl⟩:=eS b;grind
theorem aaq(H:iF ts){n:Nat}(ih:wT ts n)(l:x∈ts)(c:x.Kind=6)(c':∀m,m∈x.ag->0<=m.au/\m.au<ts.length)(F:p.length<=4096)(G:path.length+(n+1)=200):
 fH ts b1 b2 path (match jW p with
  |some (id,q)=>(match cD x.ag id with
   |some m=>(c1 ts n m.au q).map λv=>⟨6,false,0,[],id,[],[v],[]⟩
   |none=>if x.Open then some ⟨6,false,0,[],id,[],[],[⟨id,q⟩]⟩else none)
  |none=>none) (BX (x,p,ts,b1,b2,path)):=by
 obtain⟨o,u,y,z⟩:=HM p;rw[BX,u];simp only[aT,ak];by_cases h0:o.2.2=0
 . obtain⟨v1,J,v3⟩:=y h0;rw[al (by simp[h0]),v1];dsimp only;obtain⟨g,D⟩:=H.A x l (.inr c);cases bD:cD x.ag o.1 with
   |some m=>
    obtain⟨j,a,b,s⟩:=EX g (by omega) bD;rw[b];simp only[ak];rw[ad trivial,ad (aN a),a',s];obtain⟨t1,t2⟩:=c' m (j9 bD).1;have d:=wb (step:=o.1) (path:=path) (by omega) (ih m.au o.2.1 b1 b2 (path++[o.1]) t1 t2 (by omega) (by simp;omega));cases e:c1 ts n m.au o.2.1 with
    |none=>
     obtain⟨w,f1,f2,k⟩:=d.2 e;rw[k];exact⟨λv h=>by simp at h,λ_=>⟨_,_,_,rfl⟩⟩
    |some v=>
     rw[d.1 v e]
     exact⟨λf h=>by
      have:f=⟨6,false,0,[],o.1,[],[v],[]⟩:=(by simpa using h.symm);rw[this]
      simp[I.aO,c],λh=>by simp at h⟩
   |none=>
    obtain⟨r,B,C⟩:=tC (t:=x) (id:=o.1) (by omega);have i:r=(0,false):=by
     rcases C with⟨j,a,b,_,_⟩|⟨_,q⟩
     . exact absurd b (ny bD _ (bh a aC))
     . exact q
    rw[B,i];cases E:x.Open with
    |false=>
     simp only[ak,bK,bT,eG,bJ,eq_self];exact jK (by omega) _ _ _
    |true=>
     simp only[ak,bK,bT,cW,bJ,eq_self];exact⟨λf h=>(by cases h;rw[c]),λh=>(by cases h)⟩
 . rw[ad (by simp[h0]),z h0];exact jK (by omega) _ _ _
end
theorem JM{l:List α}(h:2*j+1<l.length)(d:α):fc (l.drop (2*j))=l.getD (2*j) d::fc (l.drop (2*(j+1))):=by
 rw[lp (by omega:2*j<l.length),lp h,fc,dc (by omega)];rfl
theorem KM{l:List α}(h:2*j+1<l.length)(d:α):fm (l.drop (2*j))=l.getD (2*j+1) d::fm (l.drop (2*(j+1))):=by
 rw[lp (by omega:2*j<l.length),lp h,fm,dc h];rfl
theorem O8{i:Nat}(h:i<1000000):aM .i64 (i:Int) 2=((i+2:Nat):Int):=by
 have:=vG (a:=i) (b:=2) (by omega);exact this
section
variable {ts:List ah}
theorem LV{l:List aj}(ae:l.length<=90000)(he:l.length%2=0)(h:∀q,q∈l->∀step b1 b2,fH ts b1 b2 path (f q) (jb (step,x.Key,q,ts,b1,b2,path)))
 {z0 z2 z4 a0 a2 a4:Int}{z1 a1:Bool}{z3 a3:aj}{b1:aq}{b2:Int}:∀(k j:Nat) (acc:List I),2*(j+k)=l.length->acc.length=j->
 (∀m,cm f (fc (l.drop (2*j)))=some m->sV (l,((2*j:Nat):Int),ts,b1,b2,x,z0,z1,z2,z3,z4,a0,a1,a2,a3,a4,path,acc)=some (.inr (l,ts,b1,b2,x,z0,z1,z2,z3,z4,a0,a1,a2,a3,a4,path,acc++m)))/\
 (cm f (fc (l.drop (2*j)))=none->∃w f1 f2,sV (l,((2*j:Nat):Int),ts,b1,b2,x,z0,z1,z2,z3,z4,a0,a1,a2,a3,a4,path,acc)=some (.inl (false,ts,f1,f2,w,path)))
 |0,j,acc,e,d=>by
  rw[sV,ch,ef (by omega),show fc ([]:List aj)=[]from rfl,cm];grind
 |k+1,j,acc,e,d=>by
  have ay:2*j<l.length:=by omega
  have a:=h _ (bh ay []) (fw .i64 ((2*j:Nat):Int) 2) b1 b2;rw[sV,bu,ad (aN ay),a',JM (by omega) [],cm];cases b:f (l.getD (2*j) [])with
  |none=>
   obtain⟨w,f1,f2,n⟩:=a.2 b;simp_all
  |some v=>
   rw[a.1 v b];simp only[aT,ak,I.aO,cW];rw[bq,ad (cL),O8 (by omega)];obtain⟨o,i⟩:=LV ae he h (z0:=z0) (z1:=z1) (z2:=z2) (z3:=z3) (z4:=z4) (a0:=a0) (a1:=a1) (a2:=a2) (a3:=a3) (a4:=a4) (b1:=b1) (b2:=b2) k (j+1) (acc++[v]) (by omega) (by simp;omega);have c:2*j+2=2*(j+1):=(by omega);rw[c];cases hs:cm f (fc (l.drop (2*(j+1))))with
   |none=>exact⟨λm g=>by simp at g,λ_=>i hs⟩
   |some p=>grind
theorem KN{l:List aj}(ae:l.length<=90000)(he:l.length%2=0)(h:∀q,q∈l->∀step b1 b2,fH ts b1 b2 path (f q) (jb (step,x.aG,q,ts,b1,b2,path)))
 {z0 z2 z4 a0 a2 a4:Int}{z1 a1:Bool}{z3 a3:aj}{b1:aq}{b2:Int}{ks:List I}:∀(k j:Nat) (acc:List I),2*(j+k)=l.length->acc.length=j->
 (∀m,cm f (fm (l.drop (2*j)))=some m->sW (l,((2*j+1:Nat):Int),ts,b1,b2,x,z0,z1,z2,z3,z4,a0,a1,a2,a3,a4,path,ks,acc)=some (.inr (ts,b1,b2,z0,z1,z2,z3,z4,a0,a1,a2,a3,a4,path,ks,acc++m)))/\
 (cm f (fm (l.drop (2*j)))=none->∃w f1 f2,sW (l,((2*j+1:Nat):Int),ts,b1,b2,x,z0,z1,z2,z3,z4,a0,a1,a2,a3,a4,path,ks,acc)=some (.inl (false,ts,f1,f2,w,path)))
 |0,j,acc,e,d=>by
  rw[sW,ch,ef (by omega),show fm ([]:List aj)=[]from rfl,cm];grind
 |k+1,j,acc,e,d=>by
  have ay:2*j+1<l.length:=by omega
  have a:=h _ (bh ay []) (fw .i64 ((2*j+1:Nat):Int) 2) b1 b2;rw[sW,bu,ad (aN ay),a',KM ay [],cm];cases b:f (l.getD (2*j+1) [])with
  |none=>
   obtain⟨w,f1,f2,n⟩:=a.2 b;simp_all
  |some v=>
   rw[a.1 v b];simp only[aT,ak,I.aO,cW];rw[bq,ad (cL),O8 (by omega)];obtain⟨o,i⟩:=KN ae he h (z0:=z0) (z1:=z1) (z2:=z2) (z3:=z3) (z4:=z4) (a0:=a0) (a1:=a1) (a2:=a2) (a3:=a3) (a4:=a4) (b1:=b1) (b2:=b2) (ks:=ks) k (j+1) (acc++[v]) (by omega) (by simp;omega);have c:2*j+1+2=2*(j+1)+1:=(by omega);rw[c];cases hs:cm f (fm (l.drop (2*(j+1))))with
   |none=>exact⟨λm g=>by simp at g,λ_=>i hs⟩
   |some p=>grind
theorem adh{a b:I}(c:cw a.bd)(d:cw b.bd):pT (a,b)=some (gX a b):=by
 obtain⟨r,e,f⟩:=C8 c d;have:=v' c d;grind
theorem NP{x:ah}(c:path.length<=1000){l:List aj}(a:∀y,y∈ks->cw y.bd)(ae:ks.length<=90000)
 {z0 z2 z4 a0 a2 a4:Int}{z1 a1:Bool}{z3 a3:aj}{b1:aq}{b2:Int}:∀(k i:Nat),ks.length-(i+1)=k->
 ((∀m,i<=m->m+1<ks.length->gX (ks.getD m ar) (ks.getD (m+1) ar)<0)/\qx (l,((i+1:Nat):Int),ts,b1,b2,x,z0,z1,z2,z3,z4,a0,a1,a2,a3,a4,path,ks)=some (.inr (l,ts,b1,b2,x,z0,z1,z2,z3,z4,a0,a1,a2,a3,a4,path,ks)))\/
 ((∃m,m+1<ks.length/\¬gX (ks.getD m ar) (ks.getD (m+1) ar)<0)/\∃w f1 f2,qx (l,((i+1:Nat):Int),ts,b1,b2,x,z0,z1,z2,z3,z4,a0,a1,a2,a3,a4,path,ks)=some (.inl (false,ts,f2,w,path,f1)))
 |0,i,d=>by
  rw[qx,ch];grind
 |k+1,i,d=>by
  have ay:i+1<ks.length:=by omega
  have aK:dh .i64 ((i+1:Nat):Int) 1=(i:Int):=by rw[hj];omega
  rw[qx,bu,aK];simp only[aT,ak];rw[ad (aN (by omega)),bu,ad (aN ay),bu,a',a'];simp only[I.aO];rw[adh (a _ (bh (by omega) ar)) (a _ (bh ay ar))];simp only[ak];by_cases b:gX (ks.getD i ar) (ks.getD (i+1) ar)<0
  . rw[al (by simpa using b),bC];rcases NP c a ae (x:=x) (l:=l) (z0:=z0) (z1:=z1) (z2:=z2) (z3:=z3) (z4:=z4) (a0:=a0) (a1:=a1) (a2:=a2) (a3:=a3) (a4:=a4) (b1:=b1) (b2:=b2) k (i+1) (by omega)with⟨h1,e⟩|h
    . grind
    grind
  . rw[ad (by simpa using b),yL c];grind
theorem NQ{m:Nat}(h:m<18446744073709551616):cw (jm m):=by
 unfold jm cw;omega
theorem lW:cw 0:=by unfold cw;omega
def mc(o:Option I):Prop:=∀v,o=some v->cw v.bd
theorem mc.ite{c:Prop}[Decidable c]{a b:Option I}(e:c->mc a)(f:¬c->mc b):mc (if c then a else b):=by grind
theorem mc.no:mc none:=λv h=>(by cases h)
theorem mc.zero{k i:Int}{b:Bool}{s:aj}{a:List I}{r:List bY}:mc (some ⟨k,b,0,s,i,ks,a,r⟩):=λv h=>(by cases h;exact lW)
theorem mc.map{α:Type}{o:Option α}{k i:Int}{b:Bool}{s:aj}{ks a:α->List I}{r:List bY}:mc (o.map λv=>⟨k,b,0,s,i,ks v,a v,r⟩):=λv h=>by obtain⟨_,_,rfl⟩:=n9.1 h;exact lW
theorem LW{n:Nat}(h:c1 ts n t p=some v):cw v.bd:=by
 have key:mc (c1 ts n t p):=by
  cases n with
  |zero=>unfold c1;exact .no
  |succ n=>
   unfold c1;refine .ite (λ_=>.ite (λ_=>.zero) λ_=>.ite (λ_=>.zero) λ_=>.no) λ_=>?_;refine .ite (λ_=>?_) λ_=>?_
   . cases b:hU p with
     |none=>exact .no
     |some m=>exact .ite (λ_=>λv h=>(by cases h;exact NQ (D3 b))) λ_=>.no
   refine .ite (λ_=>.ite (λ_=>.zero) λ_=>.no) λ_=>?_;refine .ite (λ_=>?_) λ_=>?_
   . cases b:hU p with
     |none=>exact .no
     |some m=>exact .ite (λ_=>.zero) λ_=>.no
   refine .ite (λ_=>?_) λ_=>?_
   . cases p with
     |nil=>exact .zero
     |cons c q=>exact .ite (λ_=>.map) λ_=>.no
   refine .ite (λ_=>?_) λ_=>?_
   . cases jW p with
     |none=>exact .no
     |some a=>
      obtain⟨id,q⟩:=a;dsimp only;cases cD (ts.getD t.toNat aP).ag id with
      |none=>exact .ite (λ_=>.zero) λ_=>.no
      |some m=>exact .map
   refine .ite (λ_=>?_) λ_=>?_
   . cases iQ p with
     |none=>exact .no
     |some l=>exact .ite (λ_=>.map) λ_=>.no
   refine .ite (λ_=>?_) λ_=>?_
   . cases iQ p with
     |none=>exact .no
     |some l=>
      refine .ite (λ_=>?_) λ_=>.no;cases cm (c1 ts n (ts.getD t.toNat aP).Key) (fc l)with
      |none=>exact .no
      |some ks=>exact .ite (λ_=>.map) λ_=>.no
   . cases jn p with
     |none=>exact .no
     |some l=>
      dsimp only;split
      . exact .ite (λ_=>.zero) λ_=>.no
      . exact .no
 exact key v h
theorem wc{d:Type}{f:α->Option d}:∀{l:List α} {m:List d},cm f l=some m->∀y,y∈m->∃a,a∈l/\f a=some y
 |[],m,h,y,c=>by rw[cm]at h;cases h;cases c
 |a::l,m,h,y,c=>by
  rw[cm]at h;split at h
  . rename_i b k h1 e;cases h;rcases fe.1 c with rfl|c
    . grind
    . obtain⟨g,i,j⟩:=wc e y c;grind
  . cases h
theorem DG:∀{l:List α} {y:α},y∈fc l->y∈l
 |[],y,h=>by cases h
 |[_],y,h=>by cases h
 |a::b::l,y,h=>by
  rcases fe.1 h with rfl|h
  . grind
  . exact .tail _ (.tail _ (DG h))
theorem Hr:∀(l:List α),(fc l).length<=l.length
 |[]=>ea _
 |[_]=>ic _
 |a::b::l=>by
  show(fc l).length+1<=l.length+1+1;have:=Hr l;omega
theorem Rq(h:a<1000000):fw .i64 (a:Int) 2=((a/2:Nat):Int):=by
 unfold fw;have e:(a:Int).tdiv 2=((a/2:Nat):Int):=by rw[yr (by omega)];omega
 rw[e];exact jD
theorem adi{n:Nat}(ih:wT ts n)(J:x.Kind=8)(bI:0<=x.Key/\x.Key<ts.length)(dG:0<=x.aG/\x.aG<ts.length)(P:p.length<=4096)(Q:path.length+(n+1)=200):
 fH ts b1 b2 path (match iQ p with
  |some l=>if l.length%2 = 0/\((l.length/2:Nat):Int)<=x.Max then (match cm (c1 ts n x.Key) (fc l) with
   |some ks=>if oE ks then(cm (c1 ts n x.aG) (fm l)).map λs=>(⟨8,false,0,[],0,ks,s,[]⟩:I)else none
   |none=>none)else none
  |none=>none) (yx (x,p,ts,b1,b2,path)):=by
 obtain⟨o,M,N,O⟩:=yK (p:=p) (by omega);rw[yx,M];simp only[aT,ak];by_cases h0:o.2=0
 . obtain⟨v1,z,v3⟩:=N h0;rw[v1];dsimp only;have G:b' (o.1.length:Int) 2=((o.1.length%2:Nat):Int):=by rw[hf];omega
   rw[G,Rq (by omega)];by_cases he:o.1.length%2=0
   . have b:¬(bif (!(decide (o.2=0)))then true else(!(decide (((o.1.length%2:Nat):Int)=0))))=true:=(by grind);rw[al b];by_cases t:((o.1.length/2:Nat):Int)<=x.Max
     . rw[ad (show o.1.length%2=0/\((o.1.length/2:Nat):Int)<=x.Max from⟨he,t⟩),al (show ¬decide (x.Max<((o.1.length/2:Nat):Int))=true by simp only[dq];omega)];have D:∀q,q∈o.1->∀step b1 b2,fH ts b1 b2 path (c1 ts n x.Key q) (jb (step,x.Key,q,ts,b1,b2,path)):=λq k step b1 b2=>
        wb (by omega) (ih x.Key q b1 b2 (path++[step]) bI.1 bI.2 (by have:=z q k;omega) (by simp;omega))
       have j:∀q,q∈o.1->∀step b1 b2,fH ts b1 b2 path (c1 ts n x.aG q) (jb (step,x.aG,q,ts,b1,b2,path)):=λq k step b1 b2=>
        wb (by omega) (ih x.aG q b1 b2 (path++[step]) dG.1 dG.2 (by have:=z q k;omega) (by simp;omega))
       obtain⟨gD,c⟩:=LV (x:=x) (l:=o.1) (by omega) he D (z0:=0) (z1:=false) (z2:=0) (z3:=[]) (z4:=0) (a0:=x.Kind) (a1:=false) (a2:=0) (a3:=[]) (a4:=0) (b1:=b1) (b2:=b2) (o.1.length/2) 0 [] (by omega) rfl;have d0:o.1.drop (2*0)=o.1:=rfl;rw[d0]at gD c;have z0:((2*0:Nat):Int)=0:=rfl;rw[z0]at gD c;cases hs:cm (c1 ts n x.Key) (fc o.1)with
       |none=>
        obtain⟨w,f1,f2,r⟩:=c hs;rw[r];exact⟨λv h=>(by cases h),λ_=>⟨_,_,_,rfl⟩⟩
       |some ks=>
        rw[gD ks hs];simp only[ak,fS];have E:∀y,y∈ks->cw y.bd:=λy H=>by
         obtain⟨a,_,C⟩:=wc hs y H;exact LW C
        have F:ks.length<=90000:=by
         have:=s' hs;have:=Hr o.1;omega
        have B:=NP (ts:=ts) (x:=x) (path:=path) (by omega) (l:=o.1) E F (z0:=0) (z1:=false) (z2:=0) (z3:=[]) (z4:=0) (a0:=x.Kind) (a1:=false) (a2:=0) (a3:=[]) (a4:=0) (b1:=b1) (b2:=b2) _ 0 rfl;have z1:((0+1:Nat):Int)=1:=rfl;rw[z1]at B;rcases B with⟨A,d⟩|⟨⟨m,K,L⟩,w,f1,f2,d⟩
        . have g:oE ks=true:=wa.2 λi j=>A i (ic _) j;rw[ad g,d];simp only[ak];obtain⟨e,f⟩:=KN (x:=x) (l:=o.1) (by omega) he j (z0:=0) (z1:=false) (z2:=0) (z3:=[]) (z4:=0) (a0:=x.Kind) (a1:=false) (a2:=0) (a3:=[]) (a4:=0) (b1:=b1) (b2:=b2) (ks:=ks) (o.1.length/2) 0 [] (by omega) rfl;rw[d0]at e f;have z2:((2*0+1:Nat):Int)=1:=rfl;rw[z2]at e f;cases u:cm (c1 ts n x.aG) (fm o.1)with
          |none=>
           obtain⟨w,f1,f2,r⟩:=f u;rw[r];exact⟨λv h=>(by cases h),λ_=>⟨_,_,_,rfl⟩⟩
          |some s=>
           rw[e s u];exact⟨λv h=>(by cases h;simp[J]),λh=>(by cases h)⟩
        . have g:¬oE ks=true:=λh=>L (wa.1 h m K);rw[al g,d];exact⟨λv h=>(by cases h),λ_=>⟨I.eta w,f1,f2,rfl⟩⟩
     . rw[al (show ¬(o.1.length%2=0/\((o.1.length/2:Nat):Int)<=x.Max)fromλh=>t h.2),ad (show decide (x.Max<((o.1.length/2:Nat):Int))=true by simp only[dq];omega)];exact jK (by omega) _ _ _
   . have b:(bif (!(decide (o.2=0)))then true else(!(decide (((o.1.length%2:Nat):Int)=0))))=true:=(by grind);rw[al (show ¬(o.1.length%2=0/\((o.1.length/2:Nat):Int)<=x.Max)fromλh=>he h.1),ad b];exact jK (by omega) _ _ _
 . have b:(bif (!(decide (o.2=0)))then true else(!(decide (b' (o.1.length:Int) 2=0))))=true:=(by simp[h0]);rw[ad b,O h0];exact jK (by omega) _ _ _
theorem aar{l:List cQ}(m:aU)(ae:l.length<=90000):(∃j,j<l.length/\l.find? (λf=>decide (f.af=m.af))=some (l.getD j gk)/\xF (l,m)=some ((j:Int),m))\/
 (l.find? (λf=>decide (f.af=m.af))=none/\xF (l,m)=some (-1,m)):=by
 have h:=qZ (λi=>pc (l,(l.length:Int),(i:Int),m)) l.length (λi=>decide ((l.getD i gk).af=m.af)) (λi=>.inl ((i:Int),m)) (.inr m)
  (λi a=>by
   rw[pc,bu,ad (aN a)];simp only[aT,ak,a',I.aO,FT]
   rw[bC])
  (by rw[pc,bq];simp only[iK])
 have cY:pc (l,(l.length:Int),((0:Nat):Int),m)=pc (l,(l.length:Int),0,m):=rfl;simp only[cY]at h;rw[xF];simp only[iK];rcases h with⟨j,h1,c,d,b⟩|⟨h1,b⟩
 . left;refine⟨j,h1,?_,by rw[b];simp only[aT,ak,iK]⟩;rw[dc h1]at c⊢;rw[BN];refine⟨c,j,h1,rfl,λk g=>?_⟩;have:=d k g;rw[dc (by omega)]at this;simpa using this
 . right;refine⟨?_,by rw[b];simp only[aT,ak,iK]⟩;rw[ye];intro f e;obtain⟨i,a,rfl⟩:=eS e;have:=h1 i a;rw[dc a]at this;simpa using this
def w4{a:Type}:Option a->Option (List a)->Option (List a)
 |some b,some m=>some (b::m)
 |_,_=>none
theorem vd{b:Type}(f:α->Option b)(a:α)(l:List α):cm f (a::l)=w4 (f a) (cm f l):=by rfl
def ei(f:Int->aj->Option I)(l:List cQ)(m:aU):Option I:=match l.find? (λf=>decide (f.af=m.af))with
 |some g=>f m.au g.Data
 |none=>if m.bW then some m.bw else none
theorem LX {x:ah}{path:aq}(F:path.length<=900){f:Int->aj->Option I}{l:List cQ}(ae:l.length<=90000)(B:x.ag.length<=16)
 (s:∀m,m∈x.ag->m.bW=true->jJ m.bw=some m.bw)
 (h:∀m,m∈x.ag->∀q,q∈l->∀step b1 b2,fH ts b1 b2 path (f m.au q.Data) (jb (step,m.au,q.Data,ts,b1,b2,path)))
 {z0 z2 z4 a0 a2 a4:Int}{z1 a1:Bool}{z3 a3:aj}{b1:aq}{b2:Int}:∀(k i:Nat) (acc:List I),i+k=x.ag.length->acc.length=i->
 (∀m,cm (ei f l) (x.ag.drop i)=some m->mo (l,x.ag,(x.ag.length:Int),(i:Int),ts,b1,b2,x,z0,z1,z2,z3,z4,a0,a1,a2,a3,a4,path,acc)=some (.inr (l,ts,b1,b2,x,z0,z1,z2,z3,z4,a0,a1,a2,a3,a4,path,acc++m)))/\
 (cm (ei f l) (x.ag.drop i)=none->∃w f1 f2,mo (l,x.ag,(x.ag.length:Int),(i:Int),ts,b1,b2,x,z0,z1,z2,z3,z4,a0,a1,a2,a3,a4,path,acc)=some (.inl (false,ts,f1,f2,w,path)))
 |0,i,acc,E,D=>by
  rw[mo,ch,ef (by omega),cm];grind
 |k+1,i,acc,E,D=>by
  have ay:i<x.ag.length:=by omega
  have u:=bh ay aC;have e:x.ag.drop i=x.ag.getD i aC::x.ag.drop (i+1):=by rw[dc ay];exact lp ay
  have go:∀v,(∀n,cm (ei f l) (x.ag.drop (i+1))=some n->mo (l,x.ag,(x.ag.length:Int),((i+1:Nat):Int),ts,b1,b2,x,z0,z1,z2,z3,z4,a0,a1,a2,a3,a4,path,acc++[v])=some (.inr (l,ts,b1,b2,x,z0,z1,z2,z3,z4,a0,a1,a2,a3,a4,path,acc++[v]++n)))/\(cm (ei f l) (x.ag.drop (i+1))=none->∃w f1 f2,mo (l,x.ag,(x.ag.length:Int),((i+1:Nat):Int),ts,b1,b2,x,z0,z1,z2,z3,z4,a0,a1,a2,a3,a4,path,acc++[v])=some (.inl (false,ts,f1,f2,w,path))):=λv=>
   LX F ae B s h k (i+1) (acc++[v]) (by omega) (by simp;omega)
  rw [mo,bu,ad (aN ay),a',e,vd];simp only [aT,ak,iK];generalize x.ag.getD i aC = a at *;have z:∀ (v:I) (d:Option _),ei f l a = some v->d = mo (l,x.ag,(x.ag.length:Int),((i+1:Nat):Int),ts,b1,b2,x,z0,z1,z2,z3,z4,a0,a1,a2,a3,a4,path,acc++[v])->
   (∀m,w4 (ei f l a) (cm (ei f l) (x.ag.drop (i+1)))=some m->d=some (.inr (l,ts,b1,b2,x,z0,z1,z2,z3,z4,a0,a1,a2,a3,a4,path,acc++m)))/\
   (w4 (ei f l a) (cm (ei f l) (x.ag.drop (i+1)))=none->∃w f1 f2,d=some (.inl (false,ts,f1,f2,w,path))):=by
   intro v d c C;obtain⟨H,A⟩:=go v;rw[c,C];cases hs:cm (ei f l) (x.ag.drop (i+1))with
   |none=>exact⟨λm b=>(by cases b),λ_=>A hs⟩
   |some n=>
    refine⟨λm b=>?_,λh=>(by cases h)⟩;have:m=v::n:=(by cases b;rfl)
    grind
  rcases aar a ae with⟨j,y,g,r⟩|⟨g,r⟩
  . rw[r];simp only[ak];rw[hq,ad (aN y),a'];have t:=h a u _ (bh y gk) a.af b1 b2;have p:ei f l a=f a.au (l.getD j gk).Data:=by unfold ei;rw[g]
    cases c:f a.au (l.getD j gk).Data with
    |none=>
     obtain⟨w,f1,f2,G⟩:=t.2 c;rw[G,p,c];exact⟨λm b=>(by cases b),λ_=>⟨w,f1,f2,by simp[I.aO]⟩⟩
    |some v=>
     rw[t.1 v c];simp only[ak,I.aO,cW];rw[bq,ad (cL),bC];grind
  . rw[r];simp only[ak];rw[bq];cases o:a.bW with
    |true=>
     rw[ad rfl];simp only[I.aO];rw[s a u o];simp only[ak,I.aO];rw[ad (cL),bC];exact z a.bw _ (by unfold ei;rw[g];simp[o]) rfl
    |false=>
     have p:ei f l a=none:=by unfold ei;rw[g];simp[o]
     rw[bq,ad (cL),yL (by simp;omega),p];simp only[ak,I.aO];have aK:dh .i64 ((path++[a.af]).length:Int) 1=(path.length:Int):=by rw[hj (by simp<;>omega) (by simp<;>omega)];simp
     rw[aK,ad (iq.2 (by simp;omega)),hq,a'];exact⟨λm b=>(by cases b),λ_=>⟨_,_,_,by simp;exact⟨rfl,rfl,rfl⟩⟩⟩
end
end
end Go.Proofs.YtdjagncoefjfeaaGreat
