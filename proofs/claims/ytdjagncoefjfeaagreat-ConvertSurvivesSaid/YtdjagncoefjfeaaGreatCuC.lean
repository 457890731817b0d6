/- The functions of the program as functions of Lean, that its code does what they say, and what they answer; part C. -/
import Derived.Test.YtdjagncoefjfeaaGreatCuB

namespace Go.Proofs.YtdjagncoefjfeaaGreat
set_option linter.all false
section
open Go Go.Proofs.YtdjagncoefjfeaaGreat.Shv Go.Sort
set_option maxRecDepth 100000
def lz(v:I):Prop:=(v.Kind=1\/v.bL=false)/\(v.Kind=2\/v.bc=0)/\(v.Kind=3\/v.bn=[])/\((v.Kind=4\/v.Kind=6)\/v.ae=0)/\(v.Kind=8\/v.aw=[])/\(5<=v.Kind\/v.ai=[])/\((v.Kind=5\/v.Kind=6)\/v.Rest=[])
theorem aaX(v:I):df (sI v) (lz v):=by
 rw[sI];refine .of ?_;unfold lz;have e:∀{α:Type} (l:List α),((l.length:Int)=0)↔l=[]:=λl=>by simp_all
 grind
variable{o:Option Bool}{P:Prop}{id t code b2:Int}{v:I}{α:Type}{Ms ms:List aS}{x:ah}{w j c a:Nat}{ts:List ah}{odd pl a1:Bool}{p a3:aj}{ks:List I}{path b1:aq}{f:aj->Option I}
variable{Q:Prop}{z1:Bool}{z3:aj}
theorem aed{z b:Bool}{c:Prop}(d:z=true↔c)(a:b=false↔Q)(e:df o P):df (if(bif (bif false then true else(!z))then true else b)then some false else o) (c/\Q/\P):=by
 obtain⟨r,rfl,h⟩:=e;cases z with
 |false=>
  refine⟨false,rfl,?_⟩;grind
 |true=>
  cases b with
  |true=>refine⟨false,rfl,?_⟩;simp at a;simp[a]
  |false=>refine⟨r,rfl,?_⟩;simp at d a;simp[d,a,h]
theorem uq{q:Bool}(c:q=true↔Q)(a:df o P):df (some q>>=λt244=>(if t244 then o else some false)>>=λb=>some (bif t244 then b else false)) (Q/\P):=by
 obtain⟨r,rfl,h⟩:=a;refine⟨q&&r,by cases q<;>cases r<;>rfl,?_⟩;grind
theorem adW{A:Bool}{f L:Option Bool}{c e d:Prop}(a:A=true↔c)(j:df f e)(g:A=true->df L d):
 df (some (!A)>>=λt107=>(if !t107 then f else some false)>>=λk=>if(bif t107 then true else(!k)) then some false else L) (c/\e/\d):=by
 obtain⟨q,rfl,b⟩:=j;cases A with
 |false=>refine⟨false,rfl,?_⟩;simp at a;simp[a]
 |true=>
  obtain⟨m,rfl,i⟩:=g rfl;cases q with
  |false=>refine⟨false,rfl,?_⟩;simp at b;simp[b]
  |true=>refine⟨m,rfl,?_⟩;simp at a b;simp[a,b,i]
theorem adX{c:Bool}{j g L:Option Bool}{d e oC f:Prop}(m:c=false↔d)(b:df j e)(a:df g oC)(l:df L f):
 df (some c>>=λt239=>(if !t239 then j else some false)>>=λo=>some (bif t239 then true else(!o))>>=λt249=>(if !t249 then g else some false)>>=λp=>if(bif t249 then true else(!p)) then some false else L) (d/\e/\oC/\f):=by
 obtain⟨k,rfl,b⟩:=b;obtain⟨i,rfl,a⟩:=a;obtain⟨q,rfl,n⟩:=l;rw[<-m,<-b,<-a,<-n];cases c<;>cases k<;>cases i<;>exact⟨_,rfl,by simp⟩
theorem Cx{l:List c4}{r:Int×Bool}(h:vT l id r):r.2=true↔∃y,y∈l/\y.ae=id:=by
 rcases h with⟨j,h1,b,c,rfl⟩|⟨h1,rfl⟩
 . grind
 . constructor
   . grind
   . rintro ⟨y,a,he⟩
     obtain⟨i,d,rfl⟩:=eZ a;grind
section
variable {ts:List ah}(aD:ts.length<9223372036854775807)(c7:∀t,t∈ts->eX t)(bH:∀t,t∈ts->n3 t.Kind)
include aD c7 bH in
theorem yO(aB:bM v):Em ts v:=by
 induction aB with
 |mk v hs h1 aa ab ay aJ aK c9 aL aM aO aD X=>
  intro t pl;rw[iH];by_cases ag:(bif decide (t<0)then true else decide (((⟨ts⟩:aR).Types.length:Int)<=t))=true
  . rw[ad ag];refine⟨false,rfl,?_⟩;rw[eU];grind
  . rw[ak ag];have ax:0<=t/\t<ts.length:=(by grind);obtain⟨j,rfl⟩:∃j:Nat,t=(j:Int):=⟨t.toNat,by omega⟩
    have T:j<ts.length:=(by omega);rw[ad (aQ T)];simp only[eU,bd,I.aU];have V:=c7 _ (bk T aN);have U:=bH _ (bk T aN);generalize ts.getD j aN=x at V U⊢;have F:=dz (il V.gT);have ah:=dz (il V.syms);by_cases D:v.Kind=x.Kind
    . obtain⟨z,z1,z2⟩:=aaX v;have Q:=Mo (ts:=ts) aa X;have az:=Mo (ts:=ts) h1 aD;show df ((if !(!(v.Kind=x.Kind:Bool)) then sI v else some false)>>=_) _;rw[ad (by simp[D]),z1];obtain⟨K,N,L,H,M,S,Ms,u,E,l⟩:=x;obtain⟨n,B,cy,w,ae,p,i,R⟩:=v;simp only at D;subst D;simp only at U F ah h1 aa ab z1;have J:(bif pl then decide (0<(R.length:Int))else false)=false↔(pl=true->R=[]):=(by simp_all);have ar:n=1\/n=2\/n=3\/n=4\/n=5\/n=6\/n=7\/n=8\/n=9:=by unfold n3 at U;omega
      have cut:∀ {o:Option Bool} {P W:Prop},df o P->((lz ⟨n,B,cy,w,ae,p,i,R⟩/\(pl = true->R = [])/\P) ↔ W)->
       df (some z>>=λr=>if(bif (bif false then true else(!r))then true else bif pl then (0<(R.length:Int):Bool)else false) then some false else o) W:=λaA aC=>(aed z2 J aA).imp aC
      have s:(0:Int)<=j/\(j:Int)<ts.length:=ax;rcases ar with rfl|rfl|rfl|rfl|rfl|rfl|rfl|rfl|rfl
      . exact cut (P:=True) (.of (b:=true) (by simp)) (by unfold lz;simp[s];grind)
      . exact cut (P:=L<=cy/\cy<=H) (.of (b:=bif decide (L<=cy)then decide (cy<=H)else false) (by by_cases g:L<=cy<;>simp[g])) (by unfold lz;simp[s];grind)
      . exact cut (P:=(w.length:Int)<=M) (.of (b:=decide ((w.length:Int)<=M)) (by simp)) (by unfold lz;simp[s];grind)
      . obtain⟨r,_,Y,O⟩:=qJ (t:=⟨4,N,L,H,M,S,Ms,u,E,l⟩) ae ah;have af:jt (ae,false)=some (bif decide (1<=ae)then decide (ae<=1000)else false):=(by rfl);have an:=EZ Y l pl _ (λb=>jt (ae,b)) af;have hs:=Cx O;simp only at hs;refine cut (P:=(∃y,y∈S/\y.ae=ae)\/l=true/\pl=false/\cr ae) ⟨_,an,?_⟩ (by unfold lz;simp[s];grind);rw[<-hs];unfold cr;grind
      . refine cut (P:=i.length=Ms.length/\kc Ms R/\hr ts pl Ms i) ?_ (by
         have:hr ts pl Ms i->i.length=Ms.length:=λh=>(ik.1 h).1
         unfold lz;simp[s];grind)
        exact adW (A:=decide ((i.length:Int)=(Ms.length:Int))) (by simp;omega) (aaV (t:=⟨5,N,L,H,M,S,Ms,u,E,l⟩) F ab) (λao=>Zb (ts:=ts) (t:=⟨5,N,L,H,M,S,Ms,u,E,l⟩) (v:=⟨5,B,cy,w,ae,p,i,R⟩) (Ks ao) F X pl)
      . obtain⟨r,_,Y,O⟩:=mx (t:=⟨6,N,L,H,M,S,Ms,u,E,l⟩) ae F;have af:∀b,b=false->jt (ae,b)=some (bif decide (1<=ae)then decide (ae<=1000)else false):=by
         intro b J;subst J;rfl
        have ap:decide ((R.length:Int)=1)=true->aH 0 R.length=true:=by
         intro h;have:=gU h;exact aQ (k:=0) (by omega)
        refine cut (P:=match cH Ms ae with
         |some m=>R=[]/\i.length=1/\e0 ts pl m.av i
         |none=>l=true/\pl=false/\cr ae/\i=[]/\∃d,R=[⟨ae,d⟩]) ?_ (by
          unfold lz;simp[s]
          grind)
        obtain⟨aP,kj⟩:=r;show df (hB (⟨6,N,L,H,M,S,Ms,u,E,l⟩,ae)>>=_) _;rw[Y];rcases tC O with⟨e,k,ai,aj,C,aF⟩|⟨e,C⟩
        . simp only at e ai aj C aF;subst e;subst aj;rw[C];have aq:∃f:Bool,((bif decide ((i.length:Int)=1)then decide ((R.length:Int)=0)else false)=true->iH ((⟨ts⟩:aR),(Ms.getD (k:Int).toNat aE).av,i.getD (0:Int).toNat au,pl)=some f)/\(i.length=1->(f=true↔e0 ts pl (Ms.getD k aE).av i)):=by
           by_cases G:i.length=1
           . obtain⟨f,f1,f2⟩:=X (i.getD 0 au) (bk (by omega:0<i.length) au) (Ms.getD k aE).av pl;refine⟨f,λ_=>f1,λ_=>?_⟩;rw[f2]
             match i,G with
             |[y],_=>rw[cX];simp
           . refine⟨false,λh=>?_,λh=>absurd h G⟩;grind
          obtain⟨f,f1,f2⟩:=aq;have aw:(bif decide ((i.length:Int)=1)then decide ((R.length:Int)=0)else false)=true->aH (k:Int) Ms.length=true/\aH 0 i.length=true:=by
           intro aI;refine⟨aQ ai,?_⟩;by_cases G:i.length=1
           . exact aQ (k:=0) (by omega)
           grind
          refine⟨_,E0 _ (aH (k:Int) Ms.length) (aH 0 i.length) f f1 aw,?_⟩;by_cases Z:i.length=1
          . simp_all
          grind
        . simp only at e C;subst e;rw[C];refine⟨_,E1 (bif l then(!pl)else false) (bif decide (1<=ae)then decide (ae<=1000)else false) (decide ((i.length:Int)=0)) (decide ((R.length:Int)=1)) (aH 0 R.length) (decide ((R.getD (0:Int).toNat bX).ae=ae)) ap,?_⟩;unfold cr
          match R with
          |[]=>simp
          |[⟨aG,rd⟩]=>cases l<;>cases pl<;>by_cases Z:1<=ae<;>by_cases al:ae<=1000<;>cases i<;>by_cases am:aG=ae<;>simp[Z,al,am]<;>omega
          |a::b::c=>simp;omega
      . exact cut (P:=(i.length:Int)<=M/\e0 ts pl E i) (uq (by simp) (Q E pl)) (by unfold lz;simp[s];grind)
      . refine cut (P:=((p.length:Int)<=M/\i.length=p.length)/\e0 ts pl u p/\e0 ts pl E i/\jL p) ?_ (by unfold lz;simp[s];grind);refine adX (c:=bif decide (M<(p.length:Int))then true else(!(decide ((i.length:Int)=(p.length:Int))))) ?_ (az u pl) (Q E pl) (aaW (v:=⟨8,B,cy,w,ae,p,i,R⟩) (dz h1) ay);grind
      . exact cut (P:=i.length<=1/\e0 ts pl E i) (uq (q:=decide ((i.length:Int)<=1)) (by simp;omega) (Q E pl)) (by unfold lz;simp[s];grind)
    . refine⟨false,by simp[D],?_⟩;grind
end
theorem agJ{n:Nat}(h:n<=70368744177664):room 1 n=true:=by
 unfold room j8 eG;grind
theorem Ol{n:Nat}(h:n<=2199023255552:=by simp;omega):room 24 n=true:=by
 unfold room j8 eG;grind
theorem bws{s b:aj}(h:b.length+s.length<=70368744177664:=by omega):sh (s,b)=some ((s.length:Int),b++s):=by
 rw[sh];simp only[aT,ao];rw[hN,ad (agJ h)];rfl
theorem Ex(b:aj):xJ b=some b:=by rw[xJ,ad (by simp[hK])]
theorem zY(a b:Nat):iv (a:Int) (b:Int)=((max a b:Nat):Int):=by unfold iv;omega
theorem eB{l:List α}{i:Nat}(h:i<l.length)(d:α):l.drop i=l.getD i d::l.drop (i+1):=by simp_all
def ir(f:Fd):gr:=⟨(f.id:Int),f.text⟩
theorem YF{m:aS}(a:bM m.bw)(v:I):BU (m,v)=some (dK m v):=by
 rw[BU];unfold dK;cases c:m.bZ with
 |false=>simp
 |true=>
  obtain⟨r,h1,b⟩:=Kl a v;simp only[I.aU];grind
theorem MQ{m:aS}(a:bM v)(c:m.bZ=true):jG (v,m.bw)=some (dK m v):=by
 obtain⟨r,h1,b⟩:=Dt a m.bw;rw[h1];unfold dK;grind
section
variable {ts:List ah}
def oF(ts:List ah)(x:I)(t:Int):Prop:=∀L D:Nat,1<=L->L+wt x<=1125899906842624->j1 (t,x,(L:Int),ts,(D:Int))=some (bG ts t x,ts,((max D (L+et ts t x-1):Nat):Int))
theorem Ll:∀{ms:List aS} {l:List I},(dH ts ms l).length<=ms.length
 |[],l=>by
  rw[dH]
  . simp
  grind
 |m::ms,[]=>by
  rw[dH]
  . simp
  grind
 |m::ms,v::l=>by
  rw[dH];have:=Ll (ms:=ms) (l:=l);grind
theorem s8(t:Int)(v:I):1<=et ts t v:=by
 cases v;rw[et];omega
theorem Om(p:Ms.length<=1000)(c:∀m,m∈Ms->bM m.bw)(d:∀m,m∈Ms->cr m.ae)(af:v.ai.length=Ms.length)(e:∀x,x∈v.ai->∀t,(bG ts t x).length<=70368744177664)
 (g:∀i,i<Ms.length->dK (Ms.getD i aE) (v.ai.getD i au)=false->oF ts (v.ai.getD i au) (Ms.getD i aE).av)(L:Nat)(l:1<=L)(o:L+cI v.ai<1125899906842624):
 ∀(k i:Nat) (D:Nat) (acc:List gr),i+k=Ms.length->L<=D->acc.length+k<=100000->
 qZ ((L:Int),Ms,(Ms.length:Int),(i:Int),ts,(D:Int),v,acc)=some (ts,((max D (L+gX ts (Ms.drop i) (v.ai.drop i)):Nat):Int),v,acc++(dH ts (Ms.drop i) (v.ai.drop i)).map ir)
 |0,i,D,acc,r,j,q=>by
  rw[qZ,cl,I.aU,ee (by omega:Ms.length<=i)];rw[gX,dH]
  . simp;omega
  . grind
  grind
 |k+1,i,D,acc,r,j,q=>by
  have aB:i<Ms.length:=by omega
  have a:i<v.ai.length:=by omega
  rw[qZ,bu,ad (aQ aB)];simp only[aT,ao,bd,I.aU,jw];rw[ad (aQ a),YF (c _ (bk aB aE))];rw[eB aB aE,eB a au,gX,dH];have u:=Om p c d af e g L l o k (i+1);cases s:dK (Ms.getD i aE) (v.ai.getD i au)with
  |true=>
   simp only[ao,di,bU,b6,bS];rw[bD];grind
  |false=>
   have f:v.ai.getD i au∈v.ai:=bk a au;have z:=fa f;have dh:=g i aB s (L+1) D (by omega) (by omega);have w:=s8 (ts:=ts) (Ms.getD i aE).av (v.ai.getD i au);have b:=d _ (bk aB aE);obtain⟨n,aD⟩:∃n:Nat,(Ms.getD i aE).ae=(n:Int):=⟨(Ms.getD i aE).ae.toNat,by unfold cr at b;omega⟩
   simp only[ao,eN,bS,bU,b6];have y:=e _ f (Ms.getD i aE).av;have aK:aM .i64 (L:Int) 1=((L+1:Nat):Int):=bD;rw[ad (aQ a),aK,dh];simp only[ao];rw[aD,IA (by unfold cr at b;omega)];simp only[ao];rw[ad (Ol),bD,u _ _ (by omega) (by omega) (by simp;omega)];have:(⟨(n:Int),fD n (Ms.getD i aE).cp (bG ts (Ms.getD i aE).av (v.ai.getD i au))⟩:gr)=ir ⟨(n:Int).toNat,(Ms.getD i aE).cp,bG ts (Ms.getD i aE).av (v.ai.getD i au)⟩:=(by rfl);simp_all
theorem On{R:List bY}(b:∀x,x∈R->cr x.ae/\x.Data.length<=reachBytes)(c:R.length<=2199023255552)(D:Int):∀(k i:Nat) (acc:List gr),i+k=R.length->acc.length+k<=2199023255552->
 qv (R,(R.length:Int),(i:Int),ts,D,acc)=some (ts,D,acc++((R.drop i).map jT).map ir)
 |0,i,acc,f,d=>by
  rw[qv,cl,ee (by omega:R.length<=i)];simp
 |k+1,i,acc,f,d=>by
  have aB:i<R.length:=by omega
  obtain⟨a,e⟩:=b _ (bk aB bX);obtain⟨n,aD⟩:∃n:Nat,(R.getD i bX).ae=(n:Int):=⟨(R.getD i bX).ae.toNat,by unfold cr at a;omega⟩
  unfold reachBytes at e;rw[qv,bu,ad (aQ aB)];simp only[aT,ao,bd];rw[aD,IA (by unfold cr at a;omega)];simp only[ao];rw[ad (Ol),bD,On b c D k (i+1) _ (by omega) (by simp;omega),eB aB bX];have:(⟨(n:Int),fD n false (R.getD i bX).Data⟩:gr)=ir (jT (R.getD i bX)):=by
   show _=(⟨(((R.getD i bX).ae.toNat:Nat):Int),fD (R.getD i bX).ae.toNat false (R.getD i bX).Data⟩:gr);grind
  grind
theorem Oo{l:List Fd}(D:Int):∀(k i:Nat) (b:aj),i+k=l.length->l.length<=2199023255552->b.length+((l.drop i).flatMap Fd.text).length<=70368744177664->
 qY ((l.length:Int),(i:Int),ts,D,l.map ir,b)=some (ts,D,b++(l.drop i).flatMap Fd.text)
 |0,i,b,c,_,a=>by
  rw[qY,cl,ee (by omega:l.length<=i)];simp
 |k+1,i,b,c,af,a=>by
  have aB:i<l.length:=by omega
  rw[qY,bu,ad (aQ (by simp;omega)),bu];rw[eB aB default]at a⊢;simp only[e7,c2]at a⊢;have al:(l.map ir).getD i uZ=ir (l.getD i default):=h3 ir l i default uZ aB;simp only[bd,al];have:(ir (l.getD i default)).text=(l.getD i default).text:=rfl;rw[this,bws];simp only[aT,ao];rw[bD,Oo D k (i+1) _ (by omega) af (by rw[c2];omega)];simp
end
structure iQ (ts:List ah):Prop where
 n:ts.length<=1000
 T:∀t,t∈ts->eX t
 K:∀t,t∈ts->n3 t.Kind
 M:O8 ts
 A:∀x,x∈ts->(x.Kind=5\/x.Kind=6)->gM x.ag/\x.ag.length<=16
 S:∀x,x∈ts->x.Kind=4->∀y,y∈x.bg->cr y.ae
 rX:∀x,x∈ts->x.Kind=8->1<=(ts.getD x.Key.toNat aN).Kind/\(ts.getD x.Key.toNat aN).Kind<=4
section
variable {ts:List ah}
theorem Az{t:Int}{v:I}(h:(ts.getD t.toNat aN).Kind=1):bG ts t v=if v.bL then[1]else[]:=by cases v;rw[bG];simp only[h];rfl
theorem AA{t:Int}{v:I}(h:(ts.getD t.toNat aN).Kind=2):bG ts t v=gJ (gf v.bc).toNat:=by cases v;rw[bG];simp only[h];rfl
theorem AB{t:Int}{v:I}(h:(ts.getD t.toNat aN).Kind=3):bG ts t v=v.bn:=by cases v;rw[bG];simp only[h];rfl
theorem AD{t:Int}{v:I}(h:(ts.getD t.toNat aN).Kind=4):bG ts t v=gJ v.ae.toNat:=by cases v;rw[bG];simp only[h];rfl
theorem AE{t:Int}{v:I}(h:(ts.getD t.toNat aN).Kind=5):bG ts t v=(gS fk (ft ts (ts.getD t.toNat aN).ag v.ai v.Rest)).flatMap Fd.text:=by cases v;rw[bG];simp only[h];rfl
theorem AF{t:Int}{v:I}(h:(ts.getD t.toNat aN).Kind=6):bG ts t v=eE v.ae.toNat++(match cH (ts.getD t.toNat aN).ag v.ae with
 |some m=>(b7 ts m.av v.ai).headD []
 |none=>(v.Rest.map bY.Data).headD []):=by
 cases v;rw[bG];simp only[h];rfl
theorem AG{t:Int}{v:I}(h:(ts.getD t.toNat aN).Kind=7):bG ts t v=(b7 ts (ts.getD t.toNat aN).aG v.ai).flatMap dB:=by cases v;rw[bG];simp only[h];rfl
theorem AH{t:Int}{v:I}(h:(ts.getD t.toNat aN).Kind=8):bG ts t v=gR (b7 ts (ts.getD t.toNat aN).Key v.aw) (b7 ts (ts.getD t.toNat aN).aG v.ai):=by cases v;rw[bG];simp only[h];rfl
theorem AI{t:Int}{v:I}(h:(ts.getD t.toNat aN).Kind=9):bG ts t v=match b7 ts (ts.getD t.toNat aN).aG v.ai with
 |[]=>[]
 |p::_=>1::p:=by
 cases v;rw[bG];simp only[h];rfl
theorem Dv(t:Int)(v:I):et ts t v=1+max (if v.aw=[]then 0 else 1) (if(ts.getD t.toNat aN).Kind=5 then gX ts (ts.getD t.toNat aN).ag v.ai
 else if(ts.getD t.toNat aN).Kind=6 then(match cH (ts.getD t.toNat aN).ag v.ae with
  |some m=>eJ ts m.av v.ai
  |none=>0)
 else eJ ts (ts.getD t.toNat aN).aG v.ai):=by
 cases v;rw[et];try rfl
theorem Hx(c:v.aw=[])(b:v.ai=[]):et ts t v=1:=by
 rw[Dv,c,b];have h1:eJ ts (ts.getD t.toNat aN).aG []=0:=by rw[eJ]
 have a:gX ts (ts.getD t.toNat aN).ag []=0:=by rw[gX];intros;simp_all
 rw[h1,a]
 have d:(match cH (ts.getD t.toNat aN).ag v.ae with
  |some m=>eJ ts m.av []
  |none=>0)=0:=by
  split
  . rw[eJ]
  . rfl
 grind
theorem Lm(b:¬x.Kind=8)(d:∀y,y∈v.ai->(bG ts x.aG y).length<=1000000000000000)(e:∀y,y∈v.ai->oF ts y x.aG)(af:v.ai.length<=reachBytes)(L:Nat)(g:1<=L)(j:L+cI v.ai<1125899906842624):
 ∀(k i D:Nat) (acc:aj),i+k=v.ai.length->L<=D->acc.length+((b7 ts x.aG (v.ai.drop i)).flatMap dB).length<=70368744177664->
 lD ((L:Int),v.ai,(v.ai.length:Int),(i:Int),ts,(D:Int),v,x,acc)=some (ts,((max D (L+eJ ts x.aG (v.ai.drop i)):Nat):Int),acc++(b7 ts x.aG (v.ai.drop i)).flatMap dB)
 |0,i,D,acc,l,f,c=>by
  rw[lD,cl,ee (by omega:v.ai.length<=i),eJ,b7];simp;omega
 |k+1,i,D,acc,l,f,c=>by
  have aB:i<v.ai.length:=by omega
  have o:=dz af;have a:v.ai.getD i au∈v.ai:=bk aB au;have p:=fa a;rw[eB aB au,b7,e7,c2]at c;have n:=d _ a;have dh:=e _ a (L+1) D (by omega) (by omega);have m:=s8 (ts:=ts) x.aG (v.ai.getD i au);have aK:aM .i64 (L:Int) 1=((L+1:Nat):Int):=bD;rw[lD,bu,ad (aQ aB)];simp only[aT,ao,bd,I.aU];rw[ak (by simp[b]),aK,dh];simp only[ao];rw[Dh];simp only[ao];rw[bws];simp only[ao];rw[bD,Lm b d e af L g j k (i+1) _ _ (by omega) (by omega) (by rw[c2];omega),eB aB au,eJ,b7,e7,hq];grind
theorem Mp(d:x.Kind=8)(r:v.ai.length=v.aw.length)(g:∀y,y∈v.ai->(bG ts x.aG y).length<=1000000000000000)(j:∀y,y∈v.aw->(bG ts x.Key y).length<=1000000000000000)
 (l:∀y,y∈v.ai->oF ts y x.aG)(m:∀y,y∈v.aw->oF ts y x.Key)(h1:∀y,y∈v.aw->et ts x.Key y=1)(af:v.ai.length<=reachBytes)(L:Nat)(o:1<=L)(p:L+cI v.ai+cI v.aw<1125899906842624):
 ∀(k i D:Nat) (acc:aj),i+k=v.ai.length->L<=D->acc.length+(gR (b7 ts x.Key (v.aw.drop i)) (b7 ts x.aG (v.ai.drop i))).length<=70368744177664->
 lD ((L:Int),v.ai,(v.ai.length:Int),(i:Int),ts,(D:Int),v,x,acc)=some (ts,((max D (L+max (if v.aw.drop i=[]then 0 else 1) (eJ ts x.aG (v.ai.drop i))):Nat):Int),acc++gR (b7 ts x.Key (v.aw.drop i)) (b7 ts x.aG (v.ai.drop i)))
 |0,i,D,acc,q,n,f=>by
  rw[lD,cl,ee (by omega:v.ai.length<=i),ee (by omega:v.aw.length<=i),eJ,b7,b7,gR]
  . simp;omega
  grind
 |k+1,i,D,acc,q,n,f=>by
  have aB:i<v.ai.length:=by omega
  have a:i<v.aw.length:=by omega
  have w:=dz af;have c:v.ai.getD i au∈v.ai:=bk aB au;have b:v.aw.getD i au∈v.aw:=bk a au;have z:=fa c;have A:=fa b;rw[eB aB au,eB a au,b7,b7,gR,c2,c2]at f;have t:=g _ c;have u:=j _ b;have e:=m _ b (L+1) D (by omega) (by omega);rw[h1 _ b]at e;have dh:=l _ c (L+1) (max D (L+1+1-1)) (by omega) (by omega);have s:=s8 (ts:=ts) x.aG (v.ai.getD i au);have aK:aM .i64 (L:Int) 1=((L+1:Nat):Int):=bD;rw[lD,bu,ad (aQ aB)];simp only[aT,ao,bd,I.aU];rw[ad (by simp[d]),ad (aQ a),aK,e];simp only[ao];rw[Dh];simp only[ao];rw[bws];simp only[ao];rw[dh];simp only[ao];rw[Dh];simp only[ao];rw[bws (by rw[c2];omega)];simp only[ao];rw[bD,Mp d r g j l m h1 af L o p k (i+1) _ _ (by omega) (by omega) (by rw[c2,c2];omega),eB aB au,eB a au,eJ,b7,b7,gR,hq,hq];grind
end
section
variable {ts:List ah}(H:iQ ts)
theorem vH(H:iQ ts)(a:bM v)(b:wt v<=1099511627776)(t:Int):(bG ts t v).length<=23089744183296:=by
 have:=abR H.M a b t;omega
theorem aaY{l:List I}{r:List bY}(h:gM ms)(g:kc ms r):Gf ((ft ts ms l r).map ir)=some ((gS fk (ft ts ms l r)).map ir):=by
 have e:∀a b:Fd,lu (ir a) (ir b)=fk a b:=λa b=>by unfold lu fk ir;simp
 have d:SWO lu:=by refine⟨λx=>?_,λx y z h1 c=>?_,λx y z h1 c=>?_⟩<;>simp[lu]at*<;>omega
 have f:ka lu ((ft ts ms l r).map ir)=true:=by
  have h0:=zd (ts:=ts) (l:=l) h g;generalize ft ts ms l r=q at h0;induction q with
  |nil=>rfl
  |cons a q ih=>
   simp only[ka,cd,cY,gz]at h0⊢;grind
 unfold Gf;rw[Nl d f,Ml ir e]
theorem BA{D L b:Nat}(h:w=1+b):max (max D L) (L+b)=max D (L+w-1):=by omega
theorem ago{D L b:Nat}(h:w=1+b):max (max D L) (L+1+b-1)=max D (L+w-1):=by omega
theorem Q9{b:Nat}(h:w=1+max 0 b):w=1+b:=by omega
theorem acf(n:∀m,m∈x.ag->bM m.bw)(e:gM x.ag)(O:x.ag.length<=16)(c:kc x.ag v.Rest)(p:v.ai.length=x.ag.length)
 (A:∀y,y∈v.Rest->y.Data.length<=reachBytes)(s:∀x,x∈v.ai->∀t,(bG ts t x).length<=23089744183296)
 (k:∀i,i<x.ag.length->oF ts (v.ai.getD i au) (x.ag.getD i aE).av)
 (N:((gS fk (ft ts x.ag v.ai v.Rest)).flatMap Fd.text).length<=23089744183296)
 (L D:Nat)(g:1<=L)(H:L<=D)(J:L+cI v.ai<1125899906842624)(M:(v.Rest.map λx=>x.Data.length+1).sum<=1099511627776):
 B3 (x,v,(L:Int),ts,(D:Int))=some ((gS fk (ft ts x.ag v.ai v.Rest)).flatMap Fd.text,ts,((max D (L+gX ts x.ag v.ai):Nat):Int)):=by
 have w:=e.2;have j:∀y,y∈v.Rest->cr y.ae/\y.Data.length<=reachBytes:=λy b=>⟨(c.2 y b).1,A y b⟩
 have K:v.Rest.length<=(v.Rest.map λx=>x.Data.length+1).sum:=by
  generalize v.Rest=R;induction R with
  |nil=>simp
  |cons a R ih=>simp only[iw,gz,oj];omega
 have P:=Ll (ts:=ts) (ms:=x.ag) (l:=v.ai);have B:=Om (ts:=ts) (Ms:=x.ag) (v:=v) (by omega) n w p (λy b t=>by have:=s y b t;omega) (λi o _=>k i o) L g (by omega) x.ag.length 0 D [] (by omega) (by omega) (by simp;omega);have C:qZ ((L:Int),x.ag,(x.ag.length:Int),0,ts,(D:Int),v,[])=_:=B;rw[B3];simp only[I.aU];rw[C];simp only[aT,ao,fE,fR];generalize ((max D (L+gX ts x.ag v.ai):Nat):Int)=d;have E:=On (ts:=ts) (R:=v.Rest) j (by omega) d v.Rest.length 0 ((dH ts x.ag v.ai).map ir) (by omega) (by simp;omega);have F:qv (v.Rest,(v.Rest.length:Int),0,ts,d,(dH ts x.ag v.ai).map ir)=_:=E;rw[F];simp only[ao,fE];rw[<-p6];have hs:=aaY (ts:=ts) (l:=v.ai) e c;have r:(ft ts x.ag v.ai v.Rest).length<=2199023255552:=by unfold ft;simp;omega
 have cV:dH ts x.ag v.ai++v.Rest.map jT=ft ts x.ag v.ai v.Rest:=rfl;rw[cV];generalize ft ts x.ag v.ai v.Rest=q at*;rw[hs];simp only[ao];have f:=nA fk q;rw[ad (by simp[f.length_eq])];have u:(gS fk q).length<=2199023255552:=by rw[f.length_eq];exact r
 generalize gS fk q=z at*;have Q:=Oo (ts:=ts) (l:=z) d z.length 0 [] (ga _) u (by simp only[fE,h8];omega);have G:qY (((z.map ir).length:Int),0,ts,d,z.map ir,[])=some (ts,d,[]++(z.drop 0).flatMap Fd.text):=by grind
 rw[G];simp only[ao,Ex,fE,fR]
theorem aaZ(A:x.ag.length<9223372036854775807)(B:gM x.ag)(l: -9223372036854775808<=v.ae/\v.ae<=9223372036854775807)
 (a:match cH x.ag v.ae with
  |some m=>v.Rest=[]/\v.ai.length=1/\e0 ts false m.av v.ai
  |none=>x.Open=true/\True/\cr v.ae/\v.ai=[]/\∃d,v.Rest=[⟨v.ae,d⟩])
 (E:∀y,y∈v.Rest->y.Data.length<=reachBytes)(z:∀x,x∈v.ai->∀t,(bG ts t x).length<=23089744183296)
 (w:∀x,x∈v.ai->∀t,b5 ts false t x->oF ts x t)
 (L D:Nat)(J:1<=L)(H:L<=D)(K:L+cI v.ai<1125899906842624):
 yD (x,v,(L:Int),ts,(D:Int)) = some (eE v.ae.toNat++(match cH x.ag v.ae with
  |some m=>(b7 ts m.av v.ai).headD []
  |none=>(v.Rest.map bY.Data).headD []),ts,((max D (L+(match cH x.ag v.ae with
  |some m=>eJ ts m.av v.ai
  |none=>0)):Nat):Int)):=by
 obtain⟨r,p,_,g⟩:=mx (t:=x) v.ae A;rcases tC g with⟨e,q,o,F,c,G⟩|⟨e,c⟩
 . rw[c]at a;rw[c];simp only at a⊢;obtain⟨d1,d2,d3⟩:=a;have b:=B.2 _ (bk o aE);rw[G]at b;obtain⟨n,aD⟩:∃n:Nat,v.ae=(n:Int):=⟨v.ae.toNat,by unfold cr at b;omega⟩
   rw[yD];simp only[I.aU];rw[p,aD,hx (by unfold cr at b;omega),tk (by unfold cr at b;omega)];simp only[aT,ao];rw[ak (by simp[e]),F,ad (aQ o)]
   match b:v.ai,d2 with
   |[y],_=>
    have f:y∈v.ai:=by rw[b];exact .head _
    have i:aH 0 ([y]:List I).length=true:=aQ (k:=0) (by simp);have O:=fa f;have g:=cX.1 d3 y f;have dh:=w y f _ g (L+1) D (by omega) (by omega);have aK:aM .i64 (L:Int) 1=((L+1:Nat):Int):=bD;rw[ad i,aK];simp only[bd,ru,kf];rw[dh];have N:=z y f (x.ag.getD q aE).av;have C:=j6 (n:=n) (by rw[aD]at l;omega);simp only[ao];rw[ad (fW)];have M:=s8 (ts:=ts) (x.ag.getD q aE).av y;have u:eJ ts (x.ag.getD q aE).av [y]=et ts (x.ag.getD q aE).av y:=by
     have cV:eJ ts (x.ag.getD q aE).av []=0:=by rw[eJ]
     rw[eJ,cV];omega
    have s:b7 ts (x.ag.getD q aE).av [y]=[bG ts (x.ag.getD q aE).av y]:=by rw[b7,b7]
    have e:max D (L+1+et ts (x.ag.getD q aE).av y-1)=max D (L+et ts (x.ag.getD q aE).av y):=(by omega);rw[s,u,e];rfl
 . rw[c]at a;rw[c];simp only at a⊢;obtain⟨d1,d2,d3,d4,d,d5⟩:=a;obtain⟨n,aD⟩:∃n:Nat,v.ae=(n:Int):=⟨v.ae.toNat,by unfold cr at d3;omega⟩
   have j:=E ⟨v.ae,d⟩ (by rw[d5];exact .head _);simp only at j;unfold reachBytes at j;have C:=j6 (n:=n) (by rw[aD]at l;omega);rw[yD];simp only[I.aU];rw[p,d5,aD,hx (by unfold cr at d3;omega),tk (by unfold cr at d3;omega)];simp only[aT,ao];have i:aH 0 ([⟨(n:Int),d⟩]:List bY).length=true:=aQ (k:=0) (by simp);rw[ad (by simp[e]),ad i];simp only[ru,kf];rw[ad (fW)];have e:max D (L+0)=D:=(by omega);rw[e];rfl
set_option maxHeartbeats 400000 in
theorem acg(H:iQ ts)(aW:bM v):wt v<=1099511627776->∀t,b5 ts false t v->oF ts v t:=by
 induction aW with
 |mk v hs h1 O aI al M U c9 Y aA a1 a0 aZ=>
  intro aY t r L D K a5;have aL:bM v:= .mk v hs h1 O aI al M U c9 Y aA a1;have a9:=fx v;have G:∀x,x∈v.ai->∀t,(bG ts t x).length<=23089744183296:=λx o t=>vH H (M x o) (by have:=fa o;omega) t;have aV:∀x,x∈v.aw->∀t,(bG ts t x).length<=23089744183296:=λx o t=>vH H (al x o) (by have:=fa o;omega) t;have F:∀x,x∈v.ai->∀t,b5 ts false t x->oF ts x t:=λx o t=>aZ x o (by have:=fa o;omega) t;have aO:∀x,x∈v.aw->∀t,b5 ts false t x->oF ts x t:=λx o t=>a0 x o (by have:=fa o;omega) t;have Q:=vH H aL aY t;obtain⟨⟨a3,a4,q,_⟩,r⟩:=(eU _ _ _).1 r;obtain⟨j,rfl⟩:∃j:Nat,t=(j:Int):=⟨t.toNat,by omega⟩
  have ab:j<ts.length:=by omega
  rw[j1];simp only[aT,ao];rw[ad (aQ ab),zY];simp only[bd,I.aU]at r q⊢;have J:=bk ab aN;have C:=Dv (ts:=ts) (j:Int) v;have aX:=@Az ts (j:Int) v;have ap:=@AA ts (j:Int) v;have aq:=@AB ts (j:Int) v;have ar:=@AD ts (j:Int) v;have V:=@AE ts (j:Int) v;have ax:=@AF ts (j:Int) v;have W:=@AG ts (j:Int) v;have X:=@AH ts (j:Int) v;have ay:=@AI ts (j:Int) v;simp only[bd]at C aX ap aq ar V ax W X ay;have Z:=H.A _ J;have aJ:=H.rX _ J;have aF:=H.S _ J;generalize ts.getD j aN=x at*;have am:¬x.Kind=5->¬x.Kind=6->v.aw=[]->et ts (j:Int) v=1+eJ ts x.aG v.ai:=λa b c=>by grind
  have N:v.aw=[]->v.ai=[]->max D (L+et ts (j:Int) v-1)=max D L:=λa b=>by rw[Hx a b];omega
  rcases r with⟨k,s,u,w,l,g,B⟩|⟨k,s,u,w,l,g,B,p,E⟩|⟨k,s,u,w,l,g,B,p⟩|⟨k,s,u,w,l,g,B,p⟩|⟨k,s,u,w,l,g,B,p⟩|⟨k,s,u,w,l,g⟩|⟨k,s,u,w,l,g,B,p,E⟩|⟨k,s,u,w,l,g,B,p,E,aB,a2⟩|⟨k,s,u,w,l,g,B,p,E⟩<;>rw[k]at q
  . grind
  . have d:=q.symm;rw[ak (by simp[d]),ad (by simp[d]),ap d,N l g,D6 Y];simp only[ao];have az:=Ao Y;obtain⟨n,aD⟩:∃n:Nat,gf v.bc=(n:Int):=⟨(gf v.bc).toNat,by unfold gf;split<;>omega⟩
    rw[aD,od]at az;rw[aD,D7 az];rfl
  . have d:=q.symm;rw[ak (by simp[d]),ak (by simp[d]),ad (by simp[d]),aq d,N l g]
  . have d:=q.symm;rw[ak (by simp[d]),ak (by simp[d]),ak (by simp[d]),ad (by simp[d]),ar d,N l g]
    obtain⟨n,aD⟩:∃n:Nat,v.ae=(n:Int):=⟨v.ae.toNat,by
     rcases p with⟨y,f,he⟩|⟨_,_,he⟩
     . have:=aF d y f;unfold cr at this;omega
     . unfold cr at he;omega⟩
    rw[aD,hx,D7 (by omega),od];rfl
  . have d:=q.symm;rw[ak (by simp[d]),ak (by simp[d]),ak (by simp[d]),ak (by simp[d]),ad (by simp[d]),V d];obtain⟨R,an⟩:=Z (.inl d);obtain⟨aR,aS⟩:=ik.1 p;rw[acf (H.T _ J).jb R an B aR (λy f=>U y f) G (λi M=>F _ (bk (by omega) au) _ (aS i M)) (by rw[<-V d];exact Q) L (max D L) K (by omega) (by omega) (by omega)];simp only[ao];rw[ad d,ad g]at C;have e:max (max D L) (L+gX ts x.ag v.ai)=max D (L+et ts (j:Int) v-1):=BA (Q9 C);rw[e]
  . have d:=q.symm;rw[ak (by simp[d]),ak (by simp[d]),ak (by simp[d]),ak (by simp[d]),ak (by simp[d]),ad (by simp[d]),ax d];obtain⟨R,an⟩:=Z (.inr d);rw[ak (show ¬x.Kind=5 by omega),ad d,ad l]at C;rw[aaZ (dz (il (H.T _ J).gT)) R aA g (λy f=>U y f) G F L (max D L) K (by omega) (by omega)];simp only[ao]
    exact ep (λz:Nat=>(some (eE v.ae.toNat++(match cH x.ag v.ae with
     |some m=>(b7 ts m.av v.ai).headD []
     |none=>(v.Rest.map bY.Data).headD []),ts,(z:Int)):Option (aj×List ah×Int))) (BA (D:=D) (L:=L) (Q9 C))
  . have d:=q.symm;rw[ak (by simp[d]),ak (by simp[d]),ak (by simp[d]),ak (by simp[d]),ak (by simp[d]),ak (by simp[d]),ak (by simp[d])];have r:=cX.1 E;rw[W d]at Q;have:=Lm (x:=x) (v:=v) (by omega) (λy f=>by have:=G y f x.aG;omega) (λy f=>F y f x.aG (r y f)) O L K (by omega) v.ai.length 0 (max D L) [] (by omega) (by omega) (by simp only[fE,h8];omega);have h0:lD ((L:Int),v.ai,(v.ai.length:Int),0,ts,((max D L:Nat):Int),v,x,[])=_:=this;rw[h0];simp only[ao,Ex];have af:=am (by omega) (by omega) g;have e:max (max D L) (L+eJ ts x.aG v.ai)=max D (L+et ts (j:Int) v-1):=BA af;rw[W d,fE,fR,e]
  . have d:=q.symm;rw[ak (by simp[d]),ak (by simp[d]),ak (by simp[d]),ak (by simp[d]),ak (by simp[d]),ak (by simp[d]),ak (by simp[d])];have r:=cX.1 aB;have aa:=cX.1 E;rw[X d]at Q;obtain⟨a',ba⟩:=aJ d;have aU:∀y,y∈v.aw->et ts x.Key y=1:=λy f=>by
     obtain⟨⟨_,_,b3,_⟩,b⟩:=(eU _ _ _).1 (aa y f);apply Hx<;>grind
    have:=Mp (x:=x) (v:=v) d p (λy f=>by have:=G y f x.aG;omega) (λy f=>by have:=aV y f x.Key;omega) (λy f=>F y f x.aG (r y f)) (λy f=>aO y f x.Key (aa y f)) aU O L K (by omega) v.ai.length 0 (max D L) [] (by omega) (by omega) (by simp only[fE,h8];omega);have h0:lD ((L:Int),v.ai,(v.ai.length:Int),0,ts,((max D L:Nat):Int),v,x,[])=_:=this;rw[h0];simp only[ao,Ex];rw[ak (show ¬x.Kind=5 by omega),ak (show ¬x.Kind=6 by omega)]at C;simp only[fE,fR];have e:max (max D L) (L+max (if v.aw=[]then 0 else 1) (eJ ts x.aG v.ai))=max D (L+et ts (j:Int) v-1):=BA C;rw[X d,e]
  . have d:=q.symm;rw[ak (by simp[d]),ak (by simp[d]),ak (by simp[d]),ak (by simp[d]),ak (by simp[d]),ak (by simp[d]),ad (by simp[d]),ay d];have r:=cX.1 E
    match P:v.ai,p with
    |[],_=>rw[hN,N g P,b7]
    |[y],_=>
     have f:y∈v.ai:=by rw[P];exact .head _
     have aP:aH 0 ([y]:List I).length=true:=aQ (k:=0) (by simp);rw[bt,ad aP];have a8:=fa f;have dh:=F y f x.aG (r y f) (L+1) (max D L) (by omega) (by omega);have aK:aM .i64 (L:Int) 1=((L+1:Nat):Int):=bD;rw[aK];simp only[ru,kf];rw[dh];have a7:=G y f x.aG;simp only[ao];rw[ad (fW (by simp;omega))];have af:=am (by omega) (by omega) g;rw[P]at af;have a6:=s8 (ts:=ts) x.aG y;have aE:eJ ts x.aG [y]=et ts x.aG y:=by
      have cV:eJ ts x.aG []=0:=by rw[eJ]
      rw[eJ,cV];omega
     have aC:b7 ts x.aG [y]=[bG ts x.aG y]:=by rw[b7,b7]
     rw[aE]at af;have e:max (max D L) (L+1+et ts x.aG y-1)=max D (L+et ts (j:Int) v-1):=ago af;rw[aC,e];rfl
    |a::b::c,h=>simp at h
end
section
variable {ts:List ah}
def iP(ts:List ah)(x:I)(t:Int):Prop:=iY ((⟨ts⟩:aR),t,x)=some (bG ts t x)
def oE(ts:List ah)(x:I)(t:Int):Prop:=ml ((⟨ts⟩:aR),t,x)=some ((et ts t x:Nat):Int)
theorem Mq(b:∀y,y∈v.ai->(bG ts x.aG y).length<=1000000000000000)(d:∀y,y∈v.ai->iP ts y x.aG)(af:v.ai.length<=reachBytes):
 ∀(k i:Nat) (acc:aj),i+k=v.ai.length->acc.length+((b7 ts x.aG (v.ai.drop i)).flatMap dB).length<=70368744177664->
 sU (acc,(i:Int),ts,v,x)=some (acc++(b7 ts x.aG (v.ai.drop i)).flatMap dB)
 |0,i,acc,e,a=>by
  rw[sU,cl,ee (by omega:v.ai.length<=i),b7];simp
 |k+1,i,acc,e,a=>by
  have aB:i<v.ai.length:=by omega
  have g:=dz af;have c:v.ai.getD i au∈v.ai:=bk aB au;rw[eB aB au,b7,e7,c2]at a;have f:=b _ c;have dh:=d _ c;unfold iP at dh;rw[sU,bu,ad (aQ aB)];simp only[aT,ao,bd,I.aU];rw[dh];simp only[ao];rw[CN];simp only[ao];rw[ad (fW),bD,Mq b d af k (i+1) _ (by omega) (by rw[c2];omega),eB aB au,b7,e7,hq]
theorem MR(n:v.ai.length=v.aw.length)(d:∀y,y∈v.ai->(bG ts x.aG y).length<=1000000000000000)(e:∀y,y∈v.aw->(bG ts x.Key y).length<=1000000000000000)
 (j:∀y,y∈v.ai->iP ts y x.aG)(l:∀y,y∈v.aw->iP ts y x.Key)(af:v.ai.length<=reachBytes):
 ∀(k i:Nat) (acc:aj),i+k=v.ai.length->acc.length+(gR (b7 ts x.Key (v.aw.drop i)) (b7 ts x.aG (v.ai.drop i))).length<=70368744177664->
 sV (acc,(i:Int),ts,v,x)=some (acc++gR (b7 ts x.Key (v.aw.drop i)) (b7 ts x.aG (v.ai.drop i)))
 |0,i,acc,m,c=>by
  rw[sV,cl,ee (by omega:v.ai.length<=i),ee (by omega:v.aw.length<=i),b7,b7,gR]
  . simp
  grind
 |k+1,i,acc,m,c=>by
  have aB:i<v.ai.length:=by omega
  have a:i<v.aw.length:=by omega
  have q:=dz af;have f:v.ai.getD i au∈v.ai:=bk aB au;have g:v.aw.getD i au∈v.aw:=bk a au;rw[eB aB au,eB a au,b7,b7,gR,c2,c2]at c;have o:=d _ f;have p:=e _ g;have dh:=j _ f;have b:=l _ g;unfold iP at dh b;rw[sV,bu,ad (aQ a)];simp only[aT,ao,bd,I.aU];rw[b];simp only[ao];rw[CN];simp only[ao];rw[ad (fW),ad (aQ aB),dh];simp only[ao];rw[CN];simp only[ao];rw[ad (fW (by rw[c2];omega)),bD,MR n d e j l af k (i+1) _ (by omega) (by rw[c2,c2];omega),eB aB au,eB a au,b7,b7,gR,hq,hq]
def lb(R:List bY)(n:Nat):List Fd:=(R.filter λx=>decide (x.ae=(n:Int))).map jT
theorem YG{a:bY}{l:List bY}{n:Nat}(h:a.ae=(n:Int)):lb (a::l) n=jT a::lb l n:=by unfold lb;rw[List.filter_cons,ad (by rw[h];simp),gz]
theorem aa0{a:bY}{l:List bY}{n:Nat}(h:¬a.ae=(n:Int)):lb (a::l) n=lb l n:=by unfold lb;rw[List.filter_cons,ak (by simpa using h)]
theorem agE{d:Type}{m:aS}{w:I}(b:bM w)(A B:Option d):
 ((if !(!m.bZ) then jG (w,m.bw)else some false).bind λc=>if(bif (!m.bZ)then true else(!c)) then A else B)=if dK m w then B else A:=by
 cases a:m.bZ with
 |false=>
  have:dK m w=false:=by unfold dK;rw[a];rfl
  rw[this];rfl
 |true=>
  have:=MQ b a;simp only[di,eN,bS,this];cases dK m w<;>rfl
theorem Hc(d:∀y,y∈v.Rest->y.Data.length<=reachBytes)(c:v.Rest.length<=reachBytes)(n:Nat)(aD:n<=1000):
 ∀(k i:Nat) (b:aj),i+k=v.Rest.length->b.length+((lb (v.Rest.drop i) n).flatMap Fd.text).length<=70368744177664->
 mF (b,(n:Int),(i:Int),ts,v,x)=some (b++(lb (v.Rest.drop i) n).flatMap Fd.text,(n:Int),ts,v,x)
 |0,i,b,g,a=>by
  rw[mF,cl,ee (by omega:v.Rest.length<=i),I.aU];simp[lb]
 |k+1,i,b,g,a=>by
  have aB:i<v.Rest.length:=by omega
  have j:=dz c;have f:=d _ (bk aB bX);unfold reachBytes at f;rw[eB aB bX]at a;rw[mF,bu,ad (aQ aB)];simp only[aT,ao,bd,I.aU];rw[eB aB bX];by_cases e:(v.Rest.getD i bX).ae=(n:Int)
  . rw[YG e,e7]at a⊢;have ht:(jT (v.Rest.getD i bX)).text=fD n false (v.Rest.getD i bX).Data:=by unfold jT Fd.text;rw[e];rfl
    rw[ht,c2]at a;rw[ad (by rw[e];simp),ad (aQ aB),JB (by omega) (by omega)];simp only[ao];rw[ad (fW),bD,Hc d c n aD k (i+1) _ (by omega) (by rw[c2];omega),ht,hq]
  . rw[aa0 e]at a⊢;rw[ak (by simpa using e),bD,Hc d c n aD k (i+1) _ (by omega) a]
noncomputable def xv (ts:List ah)(x:ah)(v:I)(n:Nat):List Fd:=(ft ts x.ag v.ai v.Rest).filter λf=>decide (f.id=n)
theorem H3{x:ah}(q:x.ag.length<9223372036854775807)(s:gM x.ag)(z:kc x.ag v.Rest)(l:v.ai.length=x.ag.length)
 (w:∀y,y∈v.Rest->y.Data.length<=reachBytes)(g:v.Rest.length<=reachBytes)(u:∀y,y∈v.ai->bM y)(o:∀x,x∈v.ai->∀t,(bG ts t x).length<=23089744183296)
 (A:∀i,i<x.ag.length->iP ts (v.ai.getD i au) (x.ag.getD i aE).av):
 ∀(k n:Nat) (b:aj),n+k=1001->1<=n->b.length+(((List.range' n k).flatMap (xv ts x v)).flatMap Fd.text).length<=70368744177664->
 oQ (b,(n:Int),ts,v,x)=some (b++((List.range' n k).flatMap (xv ts x v)).flatMap Fd.text)
 |0,n,b,J,h1,a=>by
  rw[oQ,cl];simp
 |k+1,n,b,J,h1,a=>by
  have K:∀y,y∈v.Rest->0<=y.ae:=λy N=>by have:=(z.2 y N).1;unfold cr at this;omega
  have al:xv ts x v n=((dH ts x.ag v.ai).filter λf=>decide (f.id=n))++lb v.Rest n:=by
   unfold xv ft lb;rw[List.filter_append,X6 _ _ K]
  rw[Ft,e7,Fk,al,Fk]at a⊢;simp only[c2]at a;rw[oQ,bu];obtain⟨r,_,Q,H⟩:=mx (t:=x) (n:Int) q;simp only[aT,ao,bd,I.aU];rw[Q];simp only[ao];have B:∀c:aj,c.length+((lb v.Rest n).flatMap Fd.text).length<=70368744177664->mF (c,(n:Int),0,ts,v,x)=some (c++(lb v.Rest n).flatMap Fd.text,(n:Int),ts,v,x):=λc h=>by
   have:=Hc (ts:=ts) (x:=x) w g n (by omega) v.Rest.length 0 c (by omega) (by simpa using h);grind
  rcases tC H with⟨e,j,C,O,G,P⟩|⟨e,G⟩
  . have p:j<v.ai.length:=(by omega);have D:v.ai.getD j au∈v.ai:=bk p au;have d:=JF (ts:=ts) (MO s) l C (n:=n) (by rw[P];simp);rw[ad e,O,ad (aQ C)];rw[ad (by rw[aQ p];rfl)];simp only[bd];rw[agE (u _ D)];have F:=H3 q s z l w g u o A k (n+1);cases E:dK (x.ag.getD j aE) (v.ai.getD j au)with
    |true=>
     rw[E,ad rfl]at d;rw[d]at a⊢;rw[ad rfl,B b (by omega)];simp only[ao,I.aU];rw[bD,F _ (by omega) (by omega) (by rw[c2];omega)];simp
    |false=>
     rw[E,bt]at d;rw[d]at a⊢;have R:=o _ D (x.ag.getD j aE).av;have dh:=A j C;unfold iP at dh;have ht:([⟨n,(x.ag.getD j aE).cp,bG ts (x.ag.getD j aE).av (v.ai.getD j au)⟩]:List Fd).flatMap Fd.text=fD n (x.ag.getD j aE).cp (bG ts (x.ag.getD j aE).av (v.ai.getD j au)):=by simp only[e7,List.flatMap_nil,lX];rfl
     rw[ht]at a⊢;rw[bt,ad (aQ p),dh];simp only[ao];rw[JB (by omega) (by omega)];simp only[ao];rw[ad (fW),B _ (by rw[c2];omega)];simp only[ao,I.aU];rw[bD,F _ (by omega) (by omega) (by rw[c2,c2];omega)];grind
  . have M:((dH ts x.ag v.ai).filter λf=>decide (f.id=n))=[]:=Ky λm L=>by
     have:=nz G m L;omega
    rw[M]at a⊢;rw[ak (by simp[e]),B b (by omega)];simp only[ao,I.aU];rw[bD,H3 q s z l w g u o A k (n+1) _ (by omega) (by omega) (by rw[c2];omega)];simp
theorem adf{c:Type}{m:aS}{w:I}(b:bM w)(A B:Option c):
 ((if m.bZ then jG (w,m.bw)else some false).bind λr=>if(bif m.bZ then r else false) then A else B)=if dK m w then A else B:=by
 cases a:m.bZ with
 |false=>
  have:dK m w=false:=by unfold dK;rw[a];rfl
  rw[this];rfl
 |true=>
  have:=MQ b a;simp only[bS,this];cases dK m w<;>rfl
theorem Mr(ba:¬x.Kind=5)(a:¬x.Kind=6)(c:∀y,y∈v.ai->oE ts y x.aG)(af:v.ai.length<=reachBytes):
 ∀(k i b:Nat),i+k=v.ai.length->hW ((b:Int),(i:Int),ts,v,x)=some (((max b (eJ ts x.aG (v.ai.drop i)):Nat):Int),v)
 |0,i,b,d=>by rw[hW,cl,ee (by omega:v.ai.length<=i),eJ,I.aU,Nat.max_zero]
 |k+1,i,b,d=>by
  have aB:i<v.ai.length:=by omega
  have e:=dz af;have dh:=c _ (bk aB au);unfold oE at dh;rw[hW,bu,ak (by simp[ba]),ak (by simp[a]),ad (aQ aB)];simp only[bd,I.aU];rw[dh];simp only[aT,ao];rw[zY,bD,Mr ba a c af k (i+1) _ (by omega),eB aB au,eJ,Nat.max_assoc]
theorem MS(ba:x.Kind=5)(g:v.ai.length=x.ag.length)(c:∀y,y∈v.ai->bM y)(e:∀i,i<x.ag.length->oE ts (v.ai.getD i au) (x.ag.getD i aE).av)(af:v.ai.length<=reachBytes):
 ∀(k i b:Nat),i+k=v.ai.length->hW ((b:Int),(i:Int),ts,v,x)=some (((max b (gX ts (x.ag.drop i) (v.ai.drop i)):Nat):Int),v)
 |0,i,b,f=>by
  rw[hW,cl,ee (by omega:v.ai.length<=i),I.aU,ee (by omega:x.ag.length<=i)];rw[gX]
  . grind
  grind
 |k+1,i,b,f=>by
  have aB:i<v.ai.length:=by omega
  have a:i<x.ag.length:=by omega
  have m:=dz af;have j:=bk aB au;have dh:=e i a;unfold oE at dh;rw[hW,bu,ad (by simp[ba]),ad (aQ a)];simp only[aT,ao,bd,I.aU];rw[ad (by rw[aQ aB];rfl),adf (c _ j)];have d:=MS ba g c e af k (i+1);rw[eB aB au,eB a aE,gX];cases l:dK (x.ag.getD i aE) (v.ai.getD i au)with
  |true=>rw[ad rfl,bD,d _ (by omega),ad rfl]
  |false=>
   rw[bt,ak (by simp[ba]),ad (aQ aB),dh];simp only[ao];rw[zY,bD,d _ (by omega),bt,Nat.max_assoc]
theorem MT(a:x.Kind=6)(d:j<x.ag.length)(c:hB (x,v.ae)=some ((j:Int),true))(e:∀y,y∈v.ai->oE ts y (x.ag.getD j aE).av)(af:v.ai.length<=reachBytes):
 ∀(k i b:Nat),i+k=v.ai.length->hW ((b:Int),(i:Int),ts,v,x)=some (((max b (eJ ts (x.ag.getD j aE).av (v.ai.drop i)):Nat):Int),v)
 |0,i,b,f=>by rw[hW,cl,ee (by omega:v.ai.length<=i),eJ,I.aU,Nat.max_zero]
 |k+1,i,b,f=>by
  have aB:i<v.ai.length:=by omega
  have g:=dz af;have dh:=e _ (bk aB au);unfold oE at dh;rw[hW,bu,ak (by simp[a]),ad (by simp[a]),c];simp only[aT,ao,bd,I.aU];rw[ad (aQ d),ad (aQ aB),dh];simp only[ao];rw[zY,bD,MT a d c e af k (i+1) _ (by omega),eB aB au,eJ,Nat.max_assoc]
theorem Dw{b:Nat}(f:hW (0,0,ts,v,x)=some (((max 0 b:Nat):Int),v))(g:b<1152921504606846976)(d:w=1+max (if v.aw=[]then 0 else 1) b):
 (hW (0,0,ts,v,x)>>=λo=>if (0<(o.2.aw.length:Int):Bool) then some (aM .i64 1 (iv o.1 1))else some (aM .i64 1 o.1))=some (w:Int):=by
 rw[f];simp only[aT,ao];by_cases c:v.aw=[]
 . rw[ak (by simp[c])];rw[ad c]at d;have:aM .i64 1 ((max 0 b:Nat):Int)=((1+max 0 b:Nat):Int):=vF (a:=1) (by omega);rw[this,d]
 . rw[ad (by
    have:0<v.aw.length:=tS.2 c
    grind)]
   rw[ak c]at d;have e:iv ((max 0 b:Nat):Int) 1=((max 1 b:Nat):Int):=by
    have:=zY (max 0 b) 1;grind
   rw[e];have:aM .i64 1 ((max 1 b:Nat):Int)=((1+max 1 b:Nat):Int):=vF (a:=1) (by omega);rw[this,d]
theorem ach(H:iQ ts)(W:bM v):wt v<=1099511627776->∀t,b5 ts false t v->oE ts v t:=by
 induction W with
 |mk v hs h1 F ah al O am c9 aq ar av ap X=>
  intro an t z;have ao:=fx v;have G:∀x,x∈v.ai->∀t,b5 ts false t x->oE ts x t:=λx L t=>X x L (by have:=fa L;omega) t;obtain⟨⟨af,ag,w,_⟩,z⟩:=(eU _ _ _).1 z;obtain⟨j,rfl⟩:∃j:Nat,t=(j:Int):=⟨t.toNat,by omega⟩
  have K:j<ts.length:=by omega
  unfold oE;rw[ml,ad (aQ K)];simp only[bd,I.aU]at z w⊢;have M:=bk K aN;have f:=Dv (ts:=ts) (j:Int) v;simp only[bd]at f;have aj:=H.A _ M;have U:=dz (il (H.T _ M).gT);generalize ts.getD j aN=x at*;have b1:∀E,eJ ts E v.ai<1152921504606846976:=λE=>by have:=GZ ts v.ai E;omega
  have b2:∀E,gX ts E v.ai<1152921504606846976:=λE=>by have:=GY ts v.ai E;omega
  have D:¬x.Kind=5->¬x.Kind=6->(∀y,y∈v.ai->b5 ts false x.aG y)->(hW (0,0,ts,v,x)>>=λo=>if (0<(o.2.aw.length:Int):Bool) then some (aM .i64 1 (iv o.1 1))else some (aM .i64 1 o.1))=some ((et ts (j:Int) v:Nat):Int):=by
   intro a b c;have u:=Mr (ts:=ts) (x:=x) (v:=v) a b (λy C=>G y C _ (c y C)) F v.ai.length 0 0 (by omega);rw[ak a,ak b]at f;exact Dw u (b1 _) f
  rcases z with⟨k,g,l,m,n,d,p⟩|⟨k,g,l,m,n,d,p,s,B⟩|⟨k,g,l,m,n,d,p,s⟩|⟨k,g,l,m,n,d,p,s⟩|⟨k,g,l,m,n,d,p,s⟩|⟨k,g,l,m,n,d⟩|⟨k,g,l,m,n,d,p,s,B⟩|⟨k,g,l,m,n,d,p,s,B,N,ab⟩|⟨k,g,l,m,n,d,p,s,B⟩<;>rw[k]at w
  . grind
  . grind
  . grind
  . grind
  . obtain⟨R,S⟩:=ik.1 s;have u:=MS (ts:=ts) (x:=x) (v:=v) w.symm R O (λi P=>G _ (bk (by omega) au) _ (S i P)) F v.ai.length 0 0 (by omega);rw[ad w.symm]at f;exact Dw u (b2 _) f
  . rw[ak (show ¬x.Kind=5 by omega),ad w.symm]at f;obtain⟨r,_,aa,z⟩:=mx (t:=x) v.ae U;rcases tC z with⟨e,q,Y,Z,J,ax⟩|⟨e,J⟩
    . rw[J]at d f;simp only at d f;obtain⟨d1,d2,d3⟩:=d;have V:r=((q:Int),true):=by rw[<-Z,<-e]
      have u:=MT (ts:=ts) (x:=x) (v:=v) w.symm Y (by rw[aa,V]) (λy C=>G y C _ (cX.1 d3 y C)) F v.ai.length 0 0 (by omega);exact Dw u (b1 _) f
    . rw[J]at d f;simp only at d f;have Q:v.ai=[]:=d.2.2.2.1;have u:hW (0,0,ts,v,x)=some (((max 0 0:Nat):Int),v):=by rw[hW,ak (by simp[Q]),I.aU];rfl
      exact Dw u (by omega) f
  . exact D (by omega) (by omega) (cX.1 B)
  . exact D (by omega) (by omega) (cX.1 N)
  . exact D (by omega) (by omega) (cX.1 B)
set_option maxHeartbeats 400000 in
theorem Dx(H:iQ ts)(aU:bM v):wt v<=1099511627776->∀t,b5 ts false t v->iP ts v t:=by
 induction aU with
 |mk v hs h1 Q Z ah R U c9 X Y aZ aY aX=>
  intro aW t p;have aC:bM v:= .mk v hs h1 Q Z ah R U c9 X Y aZ;have a6:=fx v;have K:∀x,x∈v.ai->∀t,(bG ts t x).length<=23089744183296:=λx s t=>vH H (R x s) (by have:=fa s;omega) t;have aO:∀x,x∈v.aw->∀t,(bG ts t x).length<=23089744183296:=λx s t=>vH H (ah x s) (by have:=fa s;omega) t;have G:∀x,x∈v.ai->∀t,b5 ts false t x->iP ts x t:=λx s t=>aX x s (by have:=fa s;omega) t;have aI:∀x,x∈v.aw->∀t,b5 ts false t x->iP ts x t:=λx s t=>aY x s (by have:=fa s;omega) t;have N:=vH H aC aW t;obtain⟨⟨a4,a5,P,_⟩,p⟩:=(eU _ _ _).1 p;obtain⟨j,rfl⟩:∃j:Nat,t=(j:Int):=⟨t.toNat,by omega⟩
  have af:j<ts.length:=by omega
  unfold iP;rw[iY,ad (aQ af)];simp only[aT,ao,bd,I.aU]at p P⊢;have W:=bk af aN;have aV:=@Az ts (j:Int) v;have am:=@AA ts (j:Int) v;have an:=@AB ts (j:Int) v;have ap:=@AD ts (j:Int) v;have V:=@AE ts (j:Int) v;have aq:=@AF ts (j:Int) v;have ar:=@AG ts (j:Int) v;have ax:=@AH ts (j:Int) v;have ay:=@AI ts (j:Int) v;simp only[bd]at aV am an ap V aq ar ax ay;have aa:=H.A _ W;have aF:=H.S _ W;have aj:=dz (il (H.T _ W).gT);generalize ts.getD j aN=x at*;rcases p with⟨k,z,B,C,D,o,u⟩|⟨k,z,B,C,D,o,u,w,F⟩|⟨k,z,B,C,D,o,u,w⟩|⟨k,z,B,C,D,o,u,w⟩|⟨k,z,B,C,D,o,u,w⟩|⟨k,z,B,C,D,o⟩|⟨k,z,B,C,D,o,u,w,F⟩|⟨k,z,B,C,D,o,u,w,F,aB,a3⟩|⟨k,z,B,C,D,o,u,w,F⟩<;>rw[k]at P<;>have g:=P.symm
  . grind
  . rw[ak (by simp[g]),ad (by simp[g]),am g,tm X];simp only[ao];have az:=Ao X;obtain⟨n,aD⟩:∃n:Nat,gf v.bc=(n:Int):=⟨(gf v.bc).toNat,by unfold gf;split<;>omega⟩
    rw[aD,od]at az;rw[aD,Lh az];rfl
  . rw[ak (by simp[g]),ak (by simp[g]),ad (by simp[g]),an g]
  . rw[ak (by simp[g]),ak (by simp[g]),ak (by simp[g]),ad (by simp[g]),ap g]
    obtain⟨n,aD⟩:∃n:Nat,v.ae=(n:Int):=⟨v.ae.toNat,by
     rcases w with⟨y,m,he⟩|⟨_,_,he⟩
     . have:=aF g y m;unfold cr at this;omega
     . unfold cr at he;omega⟩
    rw[aD,hx,Lh (by omega),od];rfl
  . rw[ak (by simp[g]),ak (by simp[g]),ak (by simp[g]),ak (by simp[g]),ak (by simp[g]),ak (by simp[g]),ak (by simp[g]),ak (by simp[g]),V g];obtain⟨L,aP⟩:=aa (.inl g);obtain⟨aL,aM⟩:=ik.1 w;rw[V g]at N;have al:=Xf (zd (ts:=ts) (l:=v.ai) L u) (λy m=>SZ L u m);have cV:(λn=>(ft ts x.ag v.ai v.Rest).filter λf=>decide (f.id=n))=xv ts x v:=rfl;rw[cV]at al;rw[al]at N⊢;have:=H3 (ts:=ts) aj L u aL (λy m=>U y m) Z R K (λi aK=>G _ (bk (by omega) au) _ (aM i aK)) 1000 1 [] (by omega) (by omega) (by simp only[h8];omega);have h0:oQ ([],1,ts,v,x)=_:=this;rw[h0];rfl
  . rw[ak (by simp[g]),ak (by simp[g]),ak (by simp[g]),ak (by simp[g]),ak (by simp[g]),ad (by simp[g]),aq g];obtain⟨L,aP⟩:=aa (.inr g);obtain⟨r,_,a2,p⟩:=mx (t:=x) v.ae aj;rcases tC p with⟨e,q,aA,a0,M,a1⟩|⟨e,M⟩
    . rw[M]at o;rw[M];simp only at o⊢;obtain⟨d1,d2,d3⟩:=o;have E:=L.2 _ (bk aA aE);rw[a1]at E;obtain⟨n,aD⟩:∃n:Nat,v.ae=(n:Int):=⟨v.ae.toNat,by unfold cr at E;omega⟩
      rw[ak (by simp[d1]),a2,aD,hx (by unfold cr at E;omega),y3 (by unfold cr at E;omega)];simp only[ao];rw[a0,ad (aQ aA)]
      match E:v.ai,d2 with
      |[y],_=>
       have m:y∈v.ai:=by rw[E];exact .head _
       have J:aH 0 ([y]:List I).length=true:=aQ (k:=0) (by simp);have p:=cX.1 d3 y m;have dh:=G y m _ p;unfold iP at dh;rw[ad J];simp only[bd,ru,kf];rw[dh];have aR:=K y m (x.ag.getD q aE).av;have aS:=j6 (n:=n) (by rw[aD]at Y;omega);simp only[ao];rw[ad (fW)];have O:b7 ts (x.ag.getD q aE).av [y]=[bG ts (x.ag.getD q aE).av y]:=by rw[b7,b7]
       rw[O];rfl
    . rw[M]at o;rw[M];simp only at o⊢;obtain⟨d1,d2,d3,d4,d,d5⟩:=o;obtain⟨n,aD⟩:∃n:Nat,v.ae=(n:Int):=⟨v.ae.toNat,by unfold cr at d3;omega⟩
      have ab:=U ⟨v.ae,d⟩ (by rw[d5];exact .head _);simp only at ab;unfold reachBytes at ab;have aS:=j6 (n:=n) (by rw[aD]at Y;omega);rw[d5,aD,hN,hx (by unfold cr at d3;omega),y3 (by unfold cr at d3;omega)];simp only[ao];have J:aH 0 ([⟨(n:Int),d⟩]:List bY).length=true:=aQ (k:=0) (by simp);rw[ad J];simp only[ru,kf];rw[ad (fW)];rfl
  . rw[ak (by simp[g]),ak (by simp[g]),ak (by simp[g]),ak (by simp[g]),ak (by simp[g]),ak (by simp[g]),ad (by simp[g])];have p:=cX.1 F;rw[ar g]at N⊢;have:=Mq (ts:=ts) (x:=x) (v:=v) (λy m=>by have:=K y m x.aG;omega) (λy m=>G y m x.aG (p y m)) Q v.ai.length 0 [] (by omega) (by simp only[fE,h8];omega);have h0:sU ([],0,ts,v,x)=_:=this;rw[h0];rfl
  . rw[ak (by simp[g]),ak (by simp[g]),ak (by simp[g]),ak (by simp[g]),ak (by simp[g]),ak (by simp[g]),ak (by simp[g]),ad (by simp[g])];have p:=cX.1 aB;have aJ:=cX.1 F;rw[ax g]at N⊢;have:=MR (ts:=ts) (x:=x) (v:=v) w (λy m=>by have:=K y m x.aG;omega) (λy m=>by have:=aO y m x.Key;omega) (λy m=>G y m x.aG (p y m)) (λy m=>aI y m x.Key (aJ y m)) Q v.ai.length 0 [] (by omega) (by simp only[fE,h8];omega);have h0:sV ([],0,ts,v,x)=_:=this;rw[h0];rfl
  . rw[ak (by simp[g]),ak (by simp[g]),ak (by simp[g]),ak (by simp[g]),ad (by simp[g]),ay g];have p:=cX.1 F
    match E:v.ai,w with
    |[],_=>rw[hN,b7]
    |[y],_=>
     have m:y∈v.ai:=by rw[E];exact .head _
     have J:aH 0 ([y]:List I).length=true:=aQ (k:=0) (by simp);rw[bt,ad J];have dh:=G y m x.aG (p y m);unfold iP at dh;simp only[ru,kf];rw[dh];have aR:=K y m x.aG;simp only[ao];rw[ad (fW (by simp;omega))];have O:b7 ts x.aG [y]=[bG ts x.aG y]:=by rw[b7,b7]
     rw[O];rfl
    |a::b::c,h=>simp at h
end
theorem df.p9{a b:α}(h:eT o a b):df o (a=b):=h
theorem Ev{j k l:Option Bool}{f g i:Prop}(h1:df j f)(d:df k g)(e:df l i):
 df (j>>=λm=>(if m then k else some false)>>=λn=>some (bif m then n else false)>>=λt53=>(if t53 then l else some false)>>=λo=>some (bif t53 then o else false)) (f/\g/\i):=by
 obtain⟨a,rfl,h1⟩:=h1;obtain⟨b,rfl,d⟩:=d;obtain⟨c,rfl,e⟩:=e;rw[<-h1,<-d,<-e];cases a<;>cases b<;>cases c<;>exact⟨_,rfl,by simp⟩
theorem Oq(h:df o P):df (o>>=λr=>some r) P:=by grind
def pJ(a:Bool)(Ms:List aS):Prop:=(∀m,m∈Ms->mb a m=false)/\(a=false\/0<Ms.length)/\gM Ms/\(∀m,m∈Ms->nm m.Name=true)/\(Ms.map (·.Name)).Nodup/\Ms.length<=16
def Ap(S:List c4):Prop:=0<S.length/\(S.Pairwise (λa b=>a.ae<b.ae)/\∀y,y∈S->cr y.ae)/\(∀y,y∈S->nm y.Name=true)/\(S.map (·.Name)).Nodup/\S.length<=16
theorem YH{l:List aj}:l.Nodup↔∀i,i<l.length->(l.take i).contains (l.getD i [])=false:=by
 unfold List.Nodup;rw[ry];constructor
 . intro h i a;apply Fq.2;intro c;obtain⟨k,b,he⟩:=(pU (by omega)).1 c;grind
 . intro h k i d a b he;have:=h i a;rw[Fq]at this;apply this;refine(pU (by omega)).2 ⟨k,b,?_⟩;grind
theorem MU(f:α->Int)(g:α->aj)(d:α)(l:List α):(∀i,i<l.length->kd (l.map f) (l.map g) i=true)↔(l.Pairwise (λa b=>f a<f b)/\∀x,x∈l->cr (f x))/\(∀x,x∈l->nm (g x)=true)/\(l.map g).Nodup:=by
 rw[Du f d,YH];have key:∀i,i<l.length->(kd (l.map f) (l.map g) i=true↔cr (f (l.getD i d))/\(i=0\/f (l.getD (i-1) d)<f (l.getD i d))/\nm (g (l.getD i d))=true/\((l.map g).take i).contains ((l.map g).getD i [])=false):=by
  intro i c;unfold kd cr;grind
 constructor
 . intro h;refine⟨⟨λi c=>?_,λx j=>?_⟩,λx j=>?_,λi c=>?_⟩
   . grind
   . obtain⟨i,c,rfl⟩:=eZ j;grind
   . obtain⟨i,c,rfl⟩:=eZ j;grind
   grind
 . rintro ⟨⟨h1,k⟩,m,n⟩ i c
   refine(key i c).2 ⟨k _ (bk c d),?_,m _ (bk c d),n i (by simpa using c)⟩;by_cases h0:i=0
   . omega
   . right;have:=h1 (i-1) (by omega);have e:i-1+1=i:=(by omega);grind
theorem Ln{t:ah}(h:eX t):df (sL t) ((∀m,m∈t.ag->mb (decide (t.Kind=6)) m=false)/\(t.Kind=5\/0<t.ag.length)/\gM t.ag/\(∀m,m∈t.ag->nm m.Name=true)/\(t.ag.map (·.Name)).Nodup/\t.ag.length<=16):=by
 obtain⟨r,h1,a⟩:=Kp h;refine⟨r,h1,a.trans ?_⟩;rw[MU (λm:aS=>m.ae) (λm:aS=>m.Name) aE];have e:(∀i,i<t.ag.length->mb (decide (t.Kind=6)) (t.ag.getD i aE)=false)↔∀m,m∈t.ag->mb (decide (t.Kind=6)) m=false:=by
  constructor
  . intro h m b;obtain⟨i,c,rfl⟩:=eZ b;grind
  grind
 rw[e];unfold gM;grind
theorem aa1{l:List c4}(af:l.length*24<=reachBytes):df (vB l) (Ap l):=by
 obtain⟨r,h1,a⟩:=ML af;refine⟨r,h1,a.trans ?_⟩;rw[MU (λm:c4=>m.ae) (λm:c4=>m.Name) dL];unfold Ap;grind
def gh(t:ah):Prop:=
 (t.Kind=1/\t.Name=[]/\t.bA=0/\t.bC=0/\t.Max=0/\t.bg=[]/\t.ag=[]/\t.Key=0/\t.aG=0/\t.Open=false)\/
 (t.Kind=2/\t.Name=[]/\t.bA<=t.bC/\t.Max=0/\t.bg=[]/\t.ag=[]/\t.Key=0/\t.aG=0/\t.Open=false)\/
 (t.Kind=3/\t.Name=[]/\t.bA=0/\t.bC=0/\(0<=t.Max/\t.Max<=200)/\t.bg=[]/\t.ag=[]/\t.Key=0/\t.aG=0/\t.Open=false)\/
 (t.Kind=4/\nm t.Name=true/\t.bA=0/\t.bC=0/\t.Max=0/\Ap t.bg/\t.ag=[]/\t.Key=0/\t.aG=0)\/
 (t.Kind=5/\nm t.Name=true/\t.bA=0/\t.bC=0/\t.Max=0/\t.bg=[]/\pJ false t.ag/\t.Key=0/\t.aG=0/\t.Open=false)\/
 (t.Kind=6/\nm t.Name=true/\t.bA=0/\t.bC=0/\t.Max=0/\t.bg=[]/\pJ true t.ag/\t.Key=0/\t.aG=0)\/
 (t.Kind=7/\t.Name=[]/\t.bA=0/\t.bC=0/\(0<=t.Max/\t.Max<=50)/\t.bg=[]/\t.ag=[]/\t.Key=0/\t.Open=false)\/
 (t.Kind=8/\t.Name=[]/\t.bA=0/\t.bC=0/\(0<=t.Max/\t.Max<=50)/\t.bg=[]/\t.ag=[]/\t.Open=false)\/
 (t.Kind=9/\t.Name=[]/\t.bA=0/\t.bC=0/\t.Max=0/\t.bg=[]/\t.ag=[]/\t.Key=0/\t.Open=false)
theorem aa2{t:ah}(h:eX t):df (gu t) (gh t):=by
 have p:eX (⟨0,[],0,0,0,[],[],0,0,false⟩:ah):=⟨by simp,by simp,by simp⟩
 obtain⟨c,N,L,H,M,S,Ms,K,E,b⟩:=t;have aF:=h.syms;have d:=h.gT;have e:=h.jb;simp only at aF d e;by_cases f:c=1
 . subst f;have a:=iU (a:=(⟨0,N,L,H,M,S,Ms,K,E,b⟩:ah)) ⟨aF,d,e⟩ (⟨0,[],0,0,0,[],[],0,0,false⟩:ah);refine(Oq (df.p9 a)).imp ?_;unfold gh;simp
 by_cases i:c=2
 . subst i;have a:=iU (a:=(⟨0,N,0,0,M,S,Ms,K,E,b⟩:ah)) ⟨aF,d,e⟩ (⟨0,[],0,0,0,[],[],0,0,false⟩:ah);refine(uq (q:=decide (L<=H)) (Q:=L<=H) (by simp) (df.p9 a)).imp (Q:=gh ⟨2,N,L,H,M,S,Ms,K,E,b⟩) ?_;unfold gh;grind
 by_cases j:c=3
 . subst j;have a:=iU (a:=(⟨0,N,L,H,0,S,Ms,K,E,b⟩:ah)) ⟨aF,d,e⟩ (⟨0,[],0,0,0,[],[],0,0,false⟩:ah);refine(uq (q:=bif decide (0<=M)then decide (M<=200)else false) (Q:=0<=M/\M<=200) (by by_cases g:0<=M<;>simp[g]) (df.p9 a)).imp (Q:=gh ⟨3,N,L,H,M,S,Ms,K,E,b⟩) ?_;unfold gh;grind
 by_cases k:c=4
 . subst k;have a:=iU (a:=(⟨0,[],L,H,M,[],Ms,K,E,false⟩:ah)) ⟨by simp,d,e⟩ (⟨0,[],0,0,0,[],[],0,0,false⟩:ah);refine(Ev (⟨nm N,tv N,Iff.rfl⟩:df (kG N) (nm N=true)) (aa1 aF) (df.p9 a)).imp (Q:=gh ⟨4,N,L,H,M,S,Ms,K,E,b⟩) ?_;unfold gh;grind
 by_cases l:c=5
 . subst l;have a:=iU (a:=(⟨0,[],L,H,M,S,[],K,E,bif b then decide ((5:Int)=5)else false⟩:ah)) ⟨aF,by simp,by simp⟩ (⟨0,[],0,0,0,[],[],0,0,false⟩:ah);refine(Ev (⟨nm N,tv N,Iff.rfl⟩:df (kG N) (nm N=true)) (Ln h) (df.p9 a)).imp (Q:=gh ⟨5,N,L,H,M,S,Ms,K,E,b⟩) ?_;unfold gh pJ;grind
 by_cases m:c=6
 . subst m;have a:=iU (a:=(⟨0,[],L,H,M,S,[],K,E,bif b then decide ((6:Int)=5)else false⟩:ah)) ⟨aF,by simp,by simp⟩ (⟨0,[],0,0,0,[],[],0,0,false⟩:ah);refine(Ev (⟨nm N,tv N,Iff.rfl⟩:df (kG N) (nm N=true)) (Ln h) (df.p9 a)).imp (Q:=gh ⟨6,N,L,H,M,S,Ms,K,E,b⟩) ?_;unfold gh pJ;grind
 by_cases fj:c=7
 . subst fj;have a:=iU (a:=(⟨0,N,L,H,0,S,Ms,K,0,b⟩:ah)) ⟨aF,d,e⟩ (⟨0,[],0,0,0,[],[],0,0,false⟩:ah);refine(uq (q:=bif decide (0<=M)then decide (M<=50)else false) (Q:=0<=M/\M<=50) (by by_cases g:0<=M<;>simp[g]) (df.p9 a)).imp (Q:=gh ⟨7,N,L,H,M,S,Ms,K,E,b⟩) ?_;unfold gh;grind
 by_cases n:c=8
 . subst n;have a:=iU (a:=(⟨0,N,L,H,0,S,Ms,0,0,b⟩:ah)) ⟨aF,d,e⟩ (⟨0,[],0,0,0,[],[],0,0,false⟩:ah);refine(uq (q:=bif decide (0<=M)then decide (M<=50)else false) (Q:=0<=M/\M<=50) (by by_cases g:0<=M<;>simp[g]) (df.p9 a)).imp (Q:=gh ⟨8,N,L,H,M,S,Ms,K,E,b⟩) ?_;unfold gh;grind
 by_cases o:c=9
 . subst o;have a:=iU (a:=(⟨0,N,L,H,M,S,Ms,K,0,b⟩:ah)) ⟨aF,d,e⟩ (⟨0,[],0,0,0,[],[],0,0,false⟩:ah);refine(Oq (df.p9 a)).imp (Q:=gh ⟨9,N,L,H,M,S,Ms,K,E,b⟩) ?_;unfold gh;simp
 refine⟨false,by simp[gu,f,i,j,k,l,m,fj,n,o],?_⟩;unfold gh;grind
structure mZ (ts:List ah):Prop where
 n:ts.length<=32
 F:∀t,t∈ts->gh t
 D:∀i,i<ts.length->(!(decide ((ts.getD i aN).Name=[]))&&((ts.map (·.Name)).take i).contains (ts.getD i aN).Name)=false
 U:∀t,t∈ts->∀u,u∈e' t->0<=u/\u<ts.length
 rX:∀t,t∈ts->t.Kind=8->1<=(ts.getD t.Key.toNat aN).Kind/\(ts.getD t.Key.toNat aN).Kind<=4
theorem YI(c7:∀t,t∈ts->eX t){i:Nat}(e:i<ts.length):rI ts i=none↔gh (ts.getD i aN)/\(!(decide ((ts.getD i aN).Name=[]))&&((ts.map (·.Name)).take i).contains (ts.getD i aN).Name)=false/\(∀u,u∈e' (ts.getD i aN)->0<=u/\u<ts.length)/\
 ((ts.getD i aN).Kind=8->1<=(ts.getD (ts.getD i aN).Key.toNat aN).Kind/\(ts.getD (ts.getD i aN).Key.toNat aN).Kind<=4):=by
 obtain⟨r,f1,f2⟩:=aa2 (c7 _ (bk e aN));rw[ID rfl f1,<-f2];have a:(e' (ts.getD i aN)).any (lq ts.length)=false↔∀u,u∈e' (ts.getD i aN)->0<=u/\u<ts.length:=by
  rw[Fo];constructor
  . intro h u a;have:=h u a;unfold lq at this;grind
  . intro h u a;have:=h u a;unfold lq;grind
 rw[<-a];generalize (e' (ts.getD i aN)).any (lq ts.length)=b;generalize (!(decide ((ts.getD i aN).Name=[]))&&((ts.map (·.Name)).take i).contains (ts.getD i aN).Name)=c;have f:(decide ((ts.getD i aN).Kind=8) && !(sR (ts.getD (ts.getD i aN).Key.toNat aN).Kind))=false↔((ts.getD i aN).Kind=8->1<=(ts.getD (ts.getD i aN).Key.toNat aN).Kind/\(ts.getD (ts.getD i aN).Key.toNat aN).Kind<=4):=by
  unfold sR;grind
 rw[<-f];generalize (decide ((ts.getD i aN).Kind=8) && !(sR (ts.getD (ts.getD i aN).Key.toNat aN).Kind))=d;cases r<;>cases b<;>cases c<;>cases d<;>simp
theorem pz(c7:∀t,t∈ts->eX t)(h:mZ ts):pq (⟨ts⟩:aR)=some 0/\vr (⟨ts⟩:aR)=some 0:=by
 obtain⟨e,h1,c,_,b,_⟩:=Y' (s:=⟨ts⟩) (by have:=h.n;unfold reachBytes;show ts.length<=_;omega) c7;have cV:e=0:=b ⟨h.n,λi a=>(YI c7 a).2 ⟨h.F _ (bk a aN),h.D i a,h.U _ (bk a aN),h.rX _ (bk a aN)⟩⟩;grind
theorem mZ.ic(c7:∀t,t∈ts->eX t)(h:mZ ts):iQ ts:=by
 refine⟨by have:=h.n;omega,c7,λt ht=>?_,λt ht m c=>?_,λt ht f=>?_,λt ht f y j=>?_,h.rX⟩
 . have:=h.F t ht;unfold gh at this;unfold n3;omega
 . have:=h.F t ht;unfold gh at this;have o:t.ag≠[]:=by intro e;rw[e]at c;cases c
   have:pJ false t.ag\/pJ true t.ag:=(by grind);rcases this with a|a
   . exact(a.2.2.1.2 m c).2
   . exact(a.2.2.1.2 m c).2
 . have:=h.F t ht;unfold gh at this;have:pJ false t.ag\/pJ true t.ag:=(by grind);rcases this with a|a
   . exact⟨a.2.2.1,a.2.2.2.2.2⟩
   . exact⟨a.2.2.1,a.2.2.2.2.2⟩
 . have:=h.F t ht;unfold gh at this;have:Ap t.bg:=(by grind);exact this.2.1.2 y j
def tY(l:List bY):Nat:=(l.map λx=>x.Data.length).sum
theorem abS(l:List bY):(l.map λx=>x.Data.length+1).sum=tY l+l.length:=by
 unfold tY;induction l with
 |nil=>rfl
 |cons a l ih=>simp only[gz,oj,iw];omega
def Left(n:Int)(w:Nat)(m:Int):Prop:=m<=n/\-1000000000000000<=m/\(0<=m->(w:Int)+m<=n)
theorem Mt(af:v.Rest.length<=reachBytes)(b:∀x,x∈v.Rest->x.Data.length<=reachBytes):∀(k i:Nat) (n:Int),i+k=v.Rest.length->n<=3000->-1000000000000000<=n->∃m,q7 (n,(i:Int),v)=some (m,v)/\Left n (tY (v.Rest.drop i)) m
 |0,i,n,f,c,a=>⟨n,by
  rw[q7,ak,I.aU];intro h;have g:¬(i:Int)<(v.Rest.length:Int):=by omega
  simp[g]at h,by
  rw[ee (by omega:v.Rest.length<=i)]
  exact⟨by omega,a,λ_=>by simp[tY]⟩⟩
 |k+1,i,n,f,c,a=>by
  have aB:i<v.Rest.length:=by omega
  have p:=dz af;have d:=b _ (bk aB bX);unfold reachBytes at d;have g:(i:Int)<(v.Rest.length:Int):=by omega
  rw[q7];by_cases h0:0<=n
  . rw[ad (by simp[g,h0]),ad (aQ aB)];simp only[bd,I.aU];rw[hI,bD];obtain⟨m,j,q,l,o⟩:=Mt af b k (i+1) (n-((v.Rest.getD i bX).Data.length:Int)) (by omega) (by omega) (by omega);refine⟨m,j,by omega,l,λh=>?_⟩;have:=o h;rw[eB aB bX];have e:tY (v.Rest.getD i bX::v.Rest.drop (i+1))=(v.Rest.getD i bX).Data.length+tY (v.Rest.drop (i+1)):=by unfold tY;simp only[gz,oj]
    rw[e];omega
  . refine⟨n,?_,by omega,a,λh=>absurd h h0⟩;rw[ak (by simp[g,h0]),I.aU]
theorem Mu(af:v.aw.length<=reachBytes)(ih:∀x,x∈v.aw->∀n,0<=n->n<=3000->∃m,nW (x,n)=some m/\Left n (wt x) m):∀(k i:Nat) (n:Int),i+k=v.aw.length->n<=3000->-1000000000000000<=n->∃m,s0 (n,(i:Int),v)=some (m,v)/\Left n (cI (v.aw.drop i)) m
 |0,i,n,d,c,b=>⟨n,by
  rw[s0,ak,I.aU];intro h;have g:¬(i:Int)<(v.aw.length:Int):=by omega
  simp[g]at h,by
  rw[ee (by omega:v.aw.length<=i),gE]
  exact⟨by omega,b,λ_=>by simp⟩⟩
 |k+1,i,n,d,c,b=>by
  have aB:i<v.aw.length:=by omega
  have l:=dz af;have g:(i:Int)<(v.aw.length:Int):=by omega
  rw[s0];by_cases h0:0<=n
  . obtain⟨a,a1,a2,a3,a4⟩:=ih _ (bk aB au) n h0 c;rw[ad (by simp[g,h0]),ad (aQ aB)];simp only[bd,I.aU];rw[a1];simp only[aT,ao];rw[bD];obtain⟨m,e,o,f,j⟩:=Mu af ih k (i+1) a (by omega) (by omega) (by omega);refine⟨m,e,by omega,f,λh=>?_⟩;have:=j h;have:=a4 (by omega);rw[eB aB au,hf];omega
  . refine⟨n,?_,by omega,b,λh=>absurd h h0⟩;rw[ak (by simp[g,h0]),I.aU]
theorem Mv(af:v.ai.length<=reachBytes)(ih:∀x,x∈v.ai->∀n,0<=n->n<=3000->∃m,nW (x,n)=some m/\Left n (wt x) m):∀(k i:Nat) (n:Int),i+k=v.ai.length->n<=3000->-1000000000000000<=n->∃m,s3 (n,(i:Int),v)=some m/\Left n (cI (v.ai.drop i)) m
 |0,i,n,d,c,b=>⟨n,by
  rw[s3,ak];intro h;have g:¬(i:Int)<(v.ai.length:Int):=by omega
  simp[g]at h,by
  rw[ee (by omega:v.ai.length<=i),gE]
  exact⟨by omega,b,λ_=>by simp⟩⟩
 |k+1,i,n,d,c,b=>by
  have aB:i<v.ai.length:=by omega
  have l:=dz af;have g:(i:Int)<(v.ai.length:Int):=by omega
  rw[s3];by_cases h0:0<=n
  . obtain⟨a,a1,a2,a3,a4⟩:=ih _ (bk aB au) n h0 c;rw[ad (by simp[g,h0]),ad (aQ aB)];simp only[bd,I.aU];rw[a1];simp only[aT,ao];rw[bD];obtain⟨m,e,o,f,j⟩:=Mv af ih k (i+1) a (by omega) (by omega) (by omega);refine⟨m,e,by omega,f,λh=>?_⟩;have:=j h;have:=a4 (by omega);rw[eB aB au,hf];omega
  . refine⟨n,?_,by omega,b,λh=>absurd h h0⟩;rw[ak (by simp[g,h0])]
theorem agS(r:bM v):∀n:Int,0<=n->n<=3000->∃m,nW (v,n)=some m/\Left n (wt v) m:=by
 induction r with
 |mk v hs h1 o d x w q c9 y z A t s=>
  intro n h0 aD;have aK:aM .i64 (aM .i64 10 (v.bn.length:Int)) (v.Rest.length:Int)=((10+v.bn.length+v.Rest.length:Nat):Int):=by
   have a1:=dz hs;have a2:=dz d;unfold reachBytes at hs d;have:aM .i64 10 (v.bn.length:Int)=((10+v.bn.length:Nat):Int):=vF (a:=10) (by omega);rw[this,vF (by omega)]
  unfold reachBytes at hs;have p:=d;unfold reachBytes at p;have l:de .i64 n ((10+v.bn.length+v.Rest.length:Nat):Int)=n-((10+v.bn.length+v.Rest.length:Nat):Int):=hI;obtain⟨a,a1,a2,a3,a4⟩:=Mt d q v.Rest.length 0 (n-((10+v.bn.length+v.Rest.length:Nat):Int)) (by omega) (by omega) (by omega);obtain⟨b,b1,b2,b3,b4⟩:=Mu h1 t v.aw.length 0 a (by omega) (by omega) (by omega);obtain⟨c,g,u,j,k⟩:=Mv o s v.ai.length 0 b (by omega) (by omega) (by omega);have e:q7 (n-((10+v.bn.length+v.Rest.length:Nat):Int),0,v)=_:=a1;have f:s0 (a,0,v)=_:=b1;have i:s3 (b,0,v)=_:=g;refine⟨c,?_,by omega,j,λh=>?_⟩
  . rw[nW];simp only[I.aU];rw[aK,l,e];simp only[aT,ao,I.aU];rw[f];simp only[ao,I.aU];rw[i];rfl
  . have:=k h;have:=b4 (by omega);have:=a4 (by omega);rw[fx,abS];grind
theorem HA(a:bM v):∃b,vq v=some b/\(b=true->wt v<=3000):=by
 obtain⟨m,c,e,f,d⟩:=agS a 3000 (by omega) (by omega);rw[vq];simp only[I.aU];rw[c];refine⟨decide (0<=m),rfl,λh=>?_⟩;have h0:0<=m:=gU h;have:=d h0;omega
theorem X7(aD:ts.length<9223372036854775807)(c7:∀t,t∈ts->eX t)(bH:∀t,t∈ts->n3 t.Kind)(b:bM v)(t:Int):df (vu ((⟨ts⟩:aR),t,v)) (b5 ts true t v):=by
 obtain⟨r,h1,a⟩:=yO aD c7 bH b t true;refine⟨r,?_,a⟩;rw[vu];simp only[I.aU];rw[h1];rfl
def adg(ts:List ah)(ms:List aS):Prop:=∀m,m∈ms->m.bZ=true->b5 ts true m.av m.bw
theorem agx{t:aJ}{x:t.den cO.D}(h:Ok cO [t] x):∀d,d∈t.row cO x->WF cO d:=λd a=>h ⟨t,x⟩ (Fl ..) d a
theorem aci(H:iQ ts)(b:bM v)(c:wt v<=1099511627776)(a:b5 ts false t v):
 j1 (t,v,1,ts,0)=some (bG ts t v,ts,((et ts t v:Nat):Int)):=by
 have h:=acg H b c t a 1 0 (by omega) (by omega);have d:=s8 (ts:=ts) t v;have e:max 0 (1+et ts t v-1)=et ts t v:=by omega
 rw[e]at h;exact h
noncomputable def lg (ts:List ah)(t:Int)(v:I):aj×Int:=
 if 4096<(bG ts t v).length\/200<et ts t v then([],3)else(bG ts t v,0)
abbrev fy:=dr
abbrev eQ:=br
abbrev aee:=ja
theorem tL{a:Int}(h:¬a=0):(!(decide (a=0)))=true:=by simp[h]
theorem hg{x m:Int}(h:0<=x:=by omega)(a:0<=m:=by omega):b' x m=x%m:=by unfold b';rw[Int.tmod_eq_emod_of_nonneg h]
theorem adh{x:Int}(h:0<=x)(a:x<=255):fv .u8 x 4=x/4:=by
 unfold fv;rw[yv h,IntKind.wrap_u8];omega
theorem lf{x:Int}(h:cw x):bW .i64 x=x:=by
 unfold bW cw at*;rw[IntKind.wrap_i64];omega
theorem Ik{k:Int}(h:0<=k/\k<=25):mz (bW .i32 (aM .i64 97 k))=[UInt8.ofNat (97+k.toNat)]:=by
 have key:∀k:Nat,k<26->mz (bW .i32 (aM .i64 97 (k:Int)))=[UInt8.ofNat (97+k)]:=by decide+kernel
 grind
theorem acI{k:Int}(h:0<=k/\k<=25):mz (bW .i32 (aM .i64 65 k))=[UInt8.ofNat (65+k.toNat)]:=by
 have key:∀k:Nat,k<26->mz (bW .i32 (aM .i64 65 (k:Int)))=[UInt8.ofNat (65+k)]:=by decide+kernel
 grind
theorem Kz{s:aj}(h0:s≠[])(af:s.length<=24)(h:∀i:Nat,i<s.length->mA (fr s i)=true):nm s=true:=by
 have key:∀k i:Nat,i+k=s.length->k3 (s,(s.length:Int),(i:Int))=some (.inr ()):=by
  intro k;induction k with
  |zero=>intro i d;rw[k3,cl]
  |succ k ih=>
   intro i d;rw[k3,bu,ad (aQ (by omega)),DI,h i (by omega)];simp only[aT,ao,di];rw[ad (by rw[aQ (by omega)];rfl),bD];exact ih (i+1) (by omega)
 have a:0<s.length:=tS.2 h0;have b:=h 0 a;have e:aH 0 s.length=true:=aQ (k:=0) a;have ht:(bif decide (s=[])then true else decide (24<(s.length:Int)))=false:=by grind
 have f:k3 (s,(s.length:Int),0)=some (.inr ()):=key s.length 0 (by omega);have c:mA (fr s 0)=true:=b;unfold nm;rw[kG];simp only[aT,ao];rw[ht,e,DI,c];grind
theorem acJ(h:65<=c/\c<=90\/97<=c/\c<=122):nm [UInt8.ofNat c]=true:=by
 refine Kz (by simp) (by simp) λi a=>?_;have:i=0:=by simp at a;omega
 subst this;have e:fr [UInt8.ofNat c] ((0:Nat):Int)=(c:Int):=by
  rw[qM];simp only[kf];rw[k7]
 rw[e];unfold mA;simp;omega
theorem Ot{b:Nat}(d:97<=b/\b<=122)(h:97<=c/\c<=122):nm [UInt8.ofNat b,UInt8.ofNat c]=true:=by
 refine Kz (by simp) (by simp) λi a=>?_;have:i=0\/i=1:=by simp at a;omega
 rcases this with rfl|rfl
 . rw[qM];simp only[kf];rw[k7];unfold mA;simp;omega
 . rw[qM];simp only[yf,kf];rw[k7];unfold mA;simp;omega
def c8(x:Int):Prop:=0<=x/\x<=255
structure oB (x:fy):Prop where
 k:c8 x.Kind
 a:c8 x.A
 b:c8 x.B
 c:c8 x.C
 p:∀q,q∈x.c0->c8 q.ae/\c8 q.av/\c8 q.gY
 l:x.c0.length<=reachBytes
def ed(aI:List fy)(i:Int):Int:=1+(aI.getD i.toNat eQ).Kind%9
section
variable {aI:List fy}(cq:∀x,x∈aI->oB x)(ba:aI.length<=5)
include cq ba in
theorem rn{i:Int}(h0:0<=i)(h1:i<aI.length):rh ((⟨aI⟩:ek),i)=some (ed aI i)/\1<=ed aI i/\ed aI i<=9:=by
 obtain⟨j,rfl⟩:∃j:Nat,i=(j:Int):=⟨i.toNat,by omega⟩
 have c:=(cq _ (bk (by omega:j<aI.length) eQ)).k;unfold ed;rw[bd];obtain⟨a,b⟩:=c;refine⟨?_,by omega,by omega⟩;rw[rh,ad (aQ (by omega:j<aI.length)),bd,hg a,lf ⟨by omega,by omega⟩,j']
def Eu(aI:List fy)(i u:Int):Prop:=0<=u/\u<aI.length/\(7<=ed aI u\/u<i)
include cq ba in
theorem Lo:∀(k i:Nat),i+k=aI.length->nJ ((aI.length:Int),(i:Int),aI)=some (.inr ())\/∃u:Int,nJ ((aI.length:Int),(i:Int),aI)=some (.inl u)/\0<=u/\u<aI.length/\7<=ed aI u
 |0,i,b=>.inl (by rw[nJ,cl])
 |k+1,i,b=>by
  obtain⟨e,_,_⟩:=rn cq ba (i:=(i:Int)) (by omega) (by omega);rw[nJ,bu,e];simp only[aT,ao,yI];by_cases a:7<=ed aI i
  . grind
  . rw[ak (by simpa using a),bD];exact Lo k (i+1) (by omega)
include cq ba in
theorem aa3(h1:1<=aI.length){i:Int}(o:0<=i/\i<aI.length)(g:c8 code):∃u,yK ((⟨aI⟩:ek),i,code)=some u/\(u<0\/Eu aI i u):=by
 have m:bW .i64 code=code:=lf ⟨by unfold c8 at g;omega,by unfold c8 at g;omega⟩;obtain⟨l,n⟩:=g;have d:0<=code%(aI.length:Int):=lZ _ (by omega);have j:code%(aI.length:Int)<aI.length:=lV _ (by omega);rw[yK];simp only[aT,ao];rw[ad (tL (by omega)),m,hg l];obtain⟨e,_,_⟩:=rn cq ba d j;rw[e];simp only[ao,yI];by_cases f:7<=ed aI (code%(aI.length:Int))
 . rw[ad (by simp[f])];exact⟨_,rfl,.inr ⟨d,j,.inl f⟩⟩
 . by_cases aB:code%(aI.length:Int)<i
   . rw[ad (by simp[aB])];exact⟨_,rfl,.inr ⟨d,j,.inr aB⟩⟩
   . rw[ak (by simp[f,aB])];by_cases k:0<i
     . rw[ad (by simpa using k),bu,hg d];have a0:0<=code%(aI.length:Int)%i:=lZ _ (by omega);have a1:code%(aI.length:Int)%i<i:=lV _ (by omega);exact⟨_,rfl,.inr ⟨a0,by omega,.inr a1⟩⟩
     . rw[ak (by simpa using k)];have h0:=Lo cq ba aI.length 0 (by omega);have cV:nJ ((aI.length:Int),((0:Nat):Int),aI)=nJ ((aI.length:Int),0,aI):=rfl;rw[cV]at h0;rcases h0 with h|⟨u,h,a,b,c⟩
       . grind
       . rw[h];exact⟨u,rfl,.inr ⟨a,b,.inl c⟩⟩
def oA(aI:List fy)(u:Int):Prop:=0<=u/\u<aI.length/\1<=ed aI u/\ed aI u<=4
include cq ba in
theorem Ou{code:Int}(l:c8 code)(h1:1<=aI.length):∀(k i:Nat),i+k=aI.length->(nU (code,(aI.length:Int),(i:Int),aI)=some (.inr ())/\∀m:Nat,i<=m->m<aI.length->¬oA aI ((code+m)%(aI.length:Int)))\/∃u:Int,nU (code,(aI.length:Int),(i:Int),aI)=some (.inl u)/\oA aI u
 |0,i,n=>.inl ⟨by rw[nU,cl],λm a b=>by omega⟩
 |k+1,i,n=>by
  obtain⟨g,j⟩:=l;have d:0<=(code+i)%(aI.length:Int):=lZ _ (by omega);have f:(code+i)%(aI.length:Int)<aI.length:=lV _ (by omega);obtain⟨e,aK,p⟩:=rn cq ba d f;rw[nU,bu,ad (tL (by omega)),lf ⟨by omega,by omega⟩,j',hg];simp only[aT,ao];rw[e];simp only[ao,yA];by_cases c:ed aI ((code+i)%(aI.length:Int))<=4
  . rw[ad (by simp[aK,c])];exact .inr ⟨_,rfl,d,f,aK,c⟩
  . rw[ak (by simp[c]),bD];rcases Ou ⟨g,j⟩ h1 k (i+1) (by omega)with⟨a,b⟩|h
    . refine .inl ⟨a,λm q r=>?_⟩;by_cases o:m=i
      . subst o;rintro ⟨_,_,_,h⟩;exact c h
      grind
    grind
include cq ba in
theorem Ov(b:c8 code)(h1:1<=aI.length):∃u,sJ ((⟨aI⟩:ek),code)=some u/\((u= -1/\∀w,¬oA aI w)\/oA aI u):=by
 rw[sJ];have h0:=Ou cq ba b h1 aI.length 0 (by omega);have cV:nU (code,(aI.length:Int),((0:Nat):Int),aI)=nU (code,(aI.length:Int),0,aI):=rfl;rw[cV]at h0;rcases h0 with⟨h,a⟩|⟨u,h,a⟩
 . rw[h];refine⟨-1,rfl,.inl ⟨rfl,λw d=>?_⟩⟩;have f:=d;obtain⟨jB,g,_⟩:=f;have c:0<=(w-code)%(aI.length:Int):=lZ _ (by omega);have i:(w-code)%(aI.length:Int)<aI.length:=lV _ (by omega);refine a ((w-code)%(aI.length:Int)).toNat (by omega) (by omega) ?_;have e:(code+(((w-code)%(aI.length:Int)).toNat:Int))%(aI.length:Int)=w:=by
    rw[yg c,Int.add_emod_emod];have:code+(w-code)=w:=(by omega);rw[this];exact Int.emod_eq_of_lt jB g
   grind
 grind
theorem Il{x:fy}(h:oB x):pN x=some (x.A%7-3):=by
 have:=h.a;unfold c8 at this;rw[pN,hg this.1,lf ⟨by omega,by omega⟩,hI]
theorem MV{x:fy}(h:oB x):sE x=some (x.A%7-3+x.B%6):=by
 have d:=h.a;have c:=h.b;unfold c8 at d c;rw[sE,Il h];simp only[aT,ao];rw[hg c.1,lf ⟨by omega,by omega⟩,j']
def ug(l:aq)(n:Int):Prop:=l.Pairwise (· < ·)/\∀x,x∈l->1<=x/\x<=n
theorem HP{x:fy}:∀(k i:Nat) (acc:aq),i+k=6->ug acc i->acc.length<=i->∃l,o' ((i:Int),x,acc)=some l/\ug l 6/\l.length<=6
 |0,i,acc,f,c,af=>⟨acc,by rw[o',cl],⟨c.1,λy d=>by have:=c.2 y d;omega⟩,by omega⟩
 |k+1,i,acc,f,c,af=>by
  have e:ug acc ((i+1:Nat):Int):=⟨c.1,λy d=>by have:=c.2 y d;omega⟩
  rw[o',bu,hN];simp only[aT,ao];rw[bD];split
  . rw[ad (cQ)];refine HP k (i+1) _ (by omega) ⟨?_,λy d=>?_⟩ (by simp;omega)
    . rw[Fj];refine⟨c.1,by simp,λa h1 b g=>?_⟩;have:=c.2 a h1;grind
    . rcases f'.1 d with h|h
      . have:=c.2 y h;omega
      grind
  . exact HP k (i+1) acc (by omega) e (by omega)
theorem acK(x:fy):∃l,np x=some l/\ug l 6/\1<=l.length/\l.length<=6:=by
 obtain⟨l,h1,d,e⟩:=HP (x:=x) 6 0 [] (by omega) ⟨.nil,λy b=>by cases b⟩ (by simp);have c:o' (0,x,[])=some l:=h1;rw[np,c];simp only[aT,ao];cases l with
 |nil=>
  rw[hN,ad (cQ (by omega) (by simp))];exact⟨_,rfl,⟨by simp,λy b=>by simp at b;omega⟩,by simp,by simp⟩
 |cons a l=>grind
def ke(x:fy):aq:=(np x).getD []
theorem uJ(x:fy):np x=some (ke x)/\ug (ke x) 6/\1<=(ke x).length/\(ke x).length<=6:=by
 obtain⟨l,h1,a⟩:=acK x;unfold ke;grind
def l'(k:Int)(x:fy)(key:Prop)(v:I):Prop:=
 v.aw=[]/\v.ai=[]/\v.Rest=[]/\
 (k=1/\v.Kind=1/\v.bc=0/\v.bn=[]/\v.ae=0\/
  k=2/\v.Kind=2/\v.bL=false/\v.bn=[]/\v.ae=0/\x.A%7-3<=v.bc/\v.bc<=x.A%7-3+x.B%6\/
  k=3/\v.Kind=3/\v.bL=false/\v.bc=0/\v.ae=0/\(v.bn.length:Int)<=x.A%4\/
  k=4/\v.Kind=4/\v.bL=false/\v.bc=0/\v.bn=[]/\v.ae∈ke x\/
  7<=k/\v.bL=false/\v.bc=0/\v.bn=[]/\v.ae=0/\(v.Kind=k/\(k=8->key)\/k=8/\v.Kind=7/\¬key))
def Init(aI:List fy)(t:Int)(v:I):Prop:=l' (ed aI t) (aI.getD t.toNat eQ) (∃w,oA aI w) v
include cq ba in
theorem YJ(h1:1<=aI.length)(ht:0<=t/\t<aI.length)(p:c8 code):∃r,yB ((⟨aI⟩:ek),t,code)=some r/\(r.2=false->r.1=au)/\(r.2=true->Init aI t r.1):=by
 obtain⟨j,rfl⟩:∃j:Nat,t=(j:Int):=⟨t.toNat,by omega⟩
 have l:j<aI.length:=by omega
 have c:=cq _ (bk l eQ);obtain⟨e,M,N⟩:=rn cq ba ht.1 ht.2;obtain⟨u,C,D⟩:=Ov cq ba (code:=0) ⟨by omega,by omega⟩ h1;obtain⟨d,I⟩:=p;rw[yB,ad (aQ l)];simp only[aT,ao,bd];rw[e];simp only[ao];unfold Init;simp only[bd];have y:=uJ (aI.getD j eQ);generalize ed aI (j:Int)=k at*;generalize aI.getD j eQ=x at*;have i:=c.a;have o:=c.b;unfold c8 at i o;have s:k=1\/k=2\/k=3\/k=4\/k=5\/k=6\/k=7\/k=8\/k=9:=by omega
 rcases s with rfl|rfl|rfl|rfl|rfl|rfl|rfl|rfl|rfl
 . exact⟨_,rfl,λh=>(by cases h),λ_=>by unfold l';simp⟩
 . have el:=Il c;have n:=MV c;have aK:aM .i64 (de .i64 (x.A%7-3+x.B%6) (x.A%7-3)) 1=x.B%6+1:=by rw[hI,j'];omega
   have m:b' (bW .i64 code) (x.B%6+1)=code%(x.B%6+1):=by rw[lf ⟨by omega,by omega⟩,hg d]
   have G:0<=code%(x.B%6+1):=lZ _ (by omega);have H:code%(x.B%6+1)<x.B%6+1:=lV _ (by omega);have dm:aM .i64 (x.A%7-3) (code%(x.B%6+1))=x.A%7-3+code%(x.B%6+1):=j';simp only[Int.reduceEq,dd,dq,bU,b6,bS,ao,dS,eo];rw[el];simp only[aT,ao];rw[n];simp only[ao];rw[aK,bu,m,dm];exact⟨_,rfl,λh=>(by cases h),λ_=>by unfold l';simp;omega⟩
 . simp only[Int.reduceEq,dd,dq,bU,b6,bS,ao,dS,eo];rw[hg i.1,hg d];by_cases g:0<x.A%4
   . by_cases f:code%2=1
     . rw[ad (by simp[g,f])];exact⟨_,rfl,λh=>(by cases h),λ_=>by unfold l';simp;omega⟩
     . rw[ak (by simp[f])];exact⟨_,rfl,λh=>(by cases h),λ_=>by unfold l';simp;omega⟩
   . rw[ak (by simp[g])];exact⟨_,rfl,λh=>(by cases h),λ_=>by unfold l';simp;omega⟩
 . obtain⟨F,J,K,L⟩:=y;simp only[Int.reduceEq,dd,dq,bU,b6,bS,ao,dS,eo];rw[F];simp only[aT,ao];have G:0<=code%((ke x).length:Int):=lZ _ (by omega);have H:code%((ke x).length:Int)<((ke x).length:Int):=lV _ (by omega);rw[ad (tL (by omega)),lf ⟨by omega,by omega⟩,hg d];obtain⟨q,z⟩:∃q:Nat,code%((ke x).length:Int)=(q:Int):=⟨(code%((ke x).length:Int)).toNat,by omega⟩
   rw[z,ad (aQ (by omega)),bd];exact⟨_,rfl,λh=>(by cases h),λ_=>by unfold l';simp;rw[<-E9];exact bk (by omega) 0⟩
 . exact⟨_,rfl,λ_=>rfl,λh=>by cases h⟩
 . exact⟨_,rfl,λ_=>rfl,λh=>by cases h⟩
 . exact⟨_,rfl,λh=>(by cases h),λ_=>by unfold l';simp⟩
 . simp only[Int.reduceEq,dd,dq,bU,b6,bS,ao,dS,eo];rw[C];rcases D with⟨rfl,a⟩|a
   . exact⟨_,rfl,λh=>(by cases h),λ_=>by unfold l';simp;exactλw E=>a w E⟩
   . have v:¬u<0:=by have:=a.1;omega
     simp only[aT,ao];rw[ak (by simp[v])];exact⟨_,rfl,λh=>(by cases h),λ_=>by unfold l';simp;exact⟨u,a⟩⟩
 . exact⟨_,rfl,λh=>(by cases h),λ_=>by unfold l';simp⟩
structure ui (aI:List fy)(i:Int)(record:Bool)(m:aS):Prop where
 id:1<=m.ae/\m.ae<=12
 name:m.Name=[UInt8.ofNat 109,UInt8.ofNat (97+m.ae.toNat)]
 rK:Eu aI i m.av
 fY:m.cp=true->m.bZ=false
 un:record=false->m.cp=false/\m.bZ=false
 Ra:m.bZ=false->m.bw=au
 kb:m.bZ=true->Init aI m.av m.bw
include cq ba in
theorem Mw(h1:1<=aI.length){i:Int}(o:0<=i/\i<aI.length){x:fy}(f:oB x)(record:Bool){id:Int}(d:1<=id/\id<=12){acc:List aS}(v:acc.length<=12):
 ∀(k j:Nat),j+k=x.c0.length->∃l,q1 (i,record,id,(j:Int),aI,x,acc)=some (i,record,id,aI,x,acc++l)/\l.length<=1/\∀m,m∈l->m.ae=id/\ui aI i record m
 |0,j,w=>⟨[],by rw[q1,cl];simp,by simp,λm z=>by cases z⟩
 |k+1,j,w=>by
  have aB:j<x.c0.length:=by omega
  have N:=dz f.l;obtain⟨E,F,G⟩:=f.p _ (bk aB aee);obtain⟨u,C,O⟩:=aa3 cq ba h1 o F;rw[q1,bu,ad (aQ aB)];simp only[aT,ao,bd];have D:yK ((⟨aI⟩:ek),i,(x.c0.getD j ja).av)=some u:=C;rw[D];simp only[ao];generalize q:x.c0.getD j ja=p;have Q:c8 p.ae:=by rw[<-q];exact E
  have H:c8 p.gY:=by rw[<-q];exact G
  obtain⟨f1,f2⟩:=H;have aK:b' p.gY 4=p.gY%4:=hg f1;have t:fv .u8 p.gY 4=p.gY/4:=adh f1 f2;have M:=Mw h1 o f record d v k (j+1) (by omega);by_cases s:(bif (!(decide (aM .i64 1 (bW .i64 (b' p.ae 12))=id)))then true else decide (u<0))=true
  . rw[ad s,bD];exact M
  . rw[ak s];have c:Eu aI i u:=(by grind);have B:=Ik (k:=id) ⟨by omega,by omega⟩;rw[B];have A:([109]++[UInt8.ofNat (97+id.toNat)]:aj)=[UInt8.ofNat 109,UInt8.ofNat (97+id.toNat)]:=rfl;rw[ad (fW (by simp)),A,aK,t];obtain⟨r,J,K,L⟩:=YJ cq ba h1 ⟨c.1,c.2.1⟩ (code:=p.gY/4) ⟨by omega,by omega⟩;have e:∀m:aS,room 160 (acc++[m]).length=true:=λm=>cQ;have done:∀m:aS,m.ae=id->ui aI i record m->∃l,(some (i,record,id,aI,x,acc++[m]):Option (Int×Bool×Int×List fy×fy×List aS))=some (i,record,id,aI,x,acc++l)/\l.length<=1/\∀m,m∈l->m.ae=id/\ui aI i record m:=λm a b=>⟨[m],rfl,by simp,λy P=>by grind⟩
    cases record with
    |false=>
     simp only[dS,bU,b6];rw[ad (e _)];exact done _ rfl ⟨d,rfl,c,λh=>(by cases h),λ_=>⟨rfl,rfl⟩,λ_=>rfl,λh=>by cases h⟩
    |true=>
     simp only[eo];by_cases g:p.gY%4=1
     . rw[ad (by simpa using g),cl,ad (e _)];exact done _ rfl ⟨d,rfl,c,λ_=>rfl,λh=>(by cases h),λ_=>rfl,λh=>by cases h⟩
     . rw[ak (by simpa using g)];by_cases n:2<=p.gY%4
       . rw[ad (by simpa using n),J];simp only[ao,I.aU];rw[ad (e _)];exact done _ rfl ⟨d,rfl,c,λh=>(by cases h),λh=>(by cases h),K,L⟩
       . rw[ak (by simpa using n),ad (e _)];exact done _ rfl ⟨d,rfl,c,λh=>(by cases h),λh=>(by cases h),λ_=>rfl,λh=>by cases h⟩
def uj(aI:List fy)(i:Int)(record:Bool)(l:List aS):Prop:=l.Pairwise (λa b=>a.ae<b.ae)/\(∀m,m∈l->ui aI i record m)/\l.length<=12
include cq ba in
theorem LI(h1:1<=aI.length){i:Int}(f:0<=i/\i<aI.length){x:fy}(j:oB x)(record:Bool):∀(k id:Nat) (acc:List aS),id+k=13->1<=id->
 acc.Pairwise (λa b=>a.ae<b.ae)->(∀m,m∈acc->ui aI i record m/\m.ae<id)->acc.length<id->∃l,q5 (i,record,(id:Int),aI,x,acc)=some l/\uj aI i record l
 |0,id,acc,n,h0,d,e,af=>⟨acc,by rw[q5,cl],d,λm g=>(e m g).1,by omega⟩
 |k+1,id,acc,n,h0,d,e,af=>by
  rw[q5,bu];obtain⟨l,o,l2,s⟩:=Mw cq ba h1 f j record (id:=(id:Int)) ⟨by omega,by omega⟩ (acc:=acc) (by omega) x.c0.length 0 (by omega);have p:q1 (i,record,(id:Int),0,aI,x,acc)=_:=o;rw[p];simp only[aT,ao];rw[bD];refine LI h1 f j record k (id+1) _ (by omega) (by omega) ?_ (λm g=>?_) (by simp;omega)
  . rw[Fj];refine⟨d,?_,λa q b r=>?_⟩
    . match l,l2 with
      |[],_=>exact .nil
      |[a],_=>simp
      |a::b::c,h=>simp at h
    grind
  grind
include cq ba in
theorem LJ(h1:1<=aI.length){i:Int}(b:0<=i/\i<aI.length)(record:Bool):∃l,sw ((⟨aI⟩:ek),i,record)=some l/\uj aI i record l:=by
 obtain⟨j,rfl⟩:∃j:Nat,i=(j:Int):=⟨i.toNat,by omega⟩
 have a:j<aI.length:=by omega
 have d:=cq _ (bk a eQ);obtain⟨l,e,l2⟩:=LI cq ba h1 b d record 12 1 [] (by omega) (by omega) .nil (λm c=>by cases c) (by simp);refine⟨l,?_,l2⟩;have f:q5 ((j:Int),record,1,aI,aI.getD j eQ,[])=some l:=e;rw[sw,ad (aQ a),bd];grind
def qa(l:aq):List c4:=l.map λj=>⟨j,[UInt8.ofNat 115,UInt8.ofNat (97+j.toNat)]⟩
theorem MW{l:aq}(af:l.length<=6)(g:∀x,x∈l->1<=x/\x<=6)(n i:Int)(b:List fy)(b1:Int)(b2:aj)(b3 b4 a c d:Int)(e:Bool)(f:List ah):∀(k j:Nat) (acc:List c4),j+k=l.length->acc.length<=j->
 o5 (n,i,l,(j:Int),b,b1,b2,b3,b4,a,c,d,e,f,acc)=some (n,i,b,b1,b2,b3,b4,a,c,d,e,f,acc++qa (l.drop j))
 |0,j,acc,o,m=>by
  rw[o5,cl,ee (by omega:l.length<=j)];simp[qa]
 |k+1,j,acc,o,m=>by
  have aB:j<l.length:=by omega
  have p:=g _ (bk aB 0);rw[o5,bu,ad (aQ aB),ad (aQ aB)];simp only[aT,ao,bd];rw[Ik ⟨by omega,by omega⟩,ad (fW (by simp)),ad (cQ),bD,MW af g n i b b1 b2 b3 b4 a c d e f k (j+1) _ (by omega) (by simp;omega),eB aB 0];simp[qa]
def fh(aI:List fy)(i:Int)(t:ah):Prop:=
 let x:=aI.getD i.toNat eQ;let n:=(aI.length:Int)
 let a:=[UInt8.ofNat (65+i.toNat)]
 (ed aI i=1/\t=⟨1,[],0,0,0,[],[],0,0,false⟩)\/
 (ed aI i=2/\t=⟨2,[],x.A%7-3,x.A%7-3+x.B%6,0,[],[],0,0,false⟩)\/
 (ed aI i=3/\t=⟨3,[],0,0,x.A%4,[],[],0,0,false⟩)\/
 (ed aI i=4/\∃o,t=⟨4,a,0,0,0,qa (ke x),[],0,0,o⟩)\/
 (ed aI i=5/\∃l,uj aI i true l/\t=⟨5,a,0,0,0,[],l,0,0,false⟩)\/
 (ed aI i=6/\t=⟨5,a,0,0,0,[],[],0,0,false⟩)\/
 (ed aI i=6/\∃l o,uj aI i false l/\0<l.length/\t=⟨6,a,0,0,0,[],l,0,0,o⟩)\/
 (ed aI i=7/\t=⟨7,[],0,0,x.A%4,[],[],0,x.C%n,false⟩)\/
 (ed aI i=8/\(∀w,¬oA aI w)/\t=⟨7,[],0,0,x.A%4,[],[],0,x.C%n,false⟩)\/
 (ed aI i=8/\∃k,oA aI k/\t=⟨8,[],0,0,x.A%4,[],[],k,x.C%n,false⟩)\/
 (ed aI i=9/\t=⟨9,[],0,0,0,[],[],0,x.C%n,false⟩)
include cq ba in
theorem Rg(h1:1<=aI.length):∀(k i:Nat) (acc:List ah),i+k=aI.length->acc.length=i->(∀j,j<i->fh aI (j:Int) (acc.getD j aN))->
 ∃l,fM ((aI.length:Int),(i:Int),aI,acc)=some l/\l.length=aI.length/\∀j,j<aI.length->fh aI (j:Int) (l.getD j aN)
 |0,i,acc,E,af,v=>⟨acc,by rw[fM,cl],by omega,λj F=>v j (by omega)⟩
 |k+1,i,acc,E,af,v=>by
  have aB:i<aI.length:=by omega
  have m:=cq _ (bk aB eQ);obtain⟨e,P,Q⟩:=rn cq ba (i:=(i:Int)) (by omega) (by omega);have next:∀t:ah,fh aI (i:Int) t->∃l,(if room 120 (acc++[t]).length then fM ((aI.length:Int),aM .i64 (i:Int) 1,aI,acc++[t])else none)=some l/\l.length=aI.length/\∀j,j<aI.length->fh aI (j:Int) (l.getD j aN):=by
   intro t ht;rw[ad (cQ),bD];refine Rg h1 k (i+1) _ (by omega) (by simp;omega) λj F=>?_;grind
  rw[fM,bu,ad (aQ aB)];simp only[aT,ao,bd];rw[e];simp only[ao,j3];have q:=acI (k:=(i:Int)) ⟨by omega,by omega⟩;have c7:∀t,fh aI (i:Int) t->fh aI (i:Int) t:=λt h=>h;have⟨s,z,gc⟩:c8 (aI.getD i eQ).A/\c8 (aI.getD i eQ).B/\c8 (aI.getD i eQ).C:=⟨m.a,m.b,m.c⟩
  have n:(!(decide ((aI.length:Int)=0)))=true:=tL (by omega);have o:bW .i64 (b' (aI.getD i eQ).A 4)=(aI.getD i eQ).A%4:=by
   unfold c8 at s;rw[hg s.1,lf ⟨by omega,by omega⟩]
  have p:b' (bW .i64 (aI.getD i eQ).C) (aI.length:Int)=(aI.getD i eQ).C%(aI.length:Int):=by
   unfold c8 at gc;rw[lf ⟨by omega,by omega⟩,hg gc.1]
  have D:ed aI (i:Int)=1\/ed aI (i:Int)=2\/ed aI (i:Int)=3\/ed aI (i:Int)=4\/ed aI (i:Int)=5\/ed aI (i:Int)=6\/ed aI (i:Int)=7\/ed aI (i:Int)=8\/ed aI (i:Int)=9:=by omega
  rcases D with d|d|d|d|d|d|d|d|d<;>rw[d] <;>
   simp only[Int.reduceEq,dd,dq,bU,b6,bS,ao,dS,eo]
  . exact next _ (by unfold fh;simp[d])
  . have el:=Il m;have w:=MV m;have y:pN (aI.getD i br)=_:=el;have x:sE (aI.getD i br)=_:=w;rw[y];simp only[ao];rw[x];simp only[ao];exact next _ (by unfold fh;simp only[bd];exact .inr (.inl ⟨d,by first|trivial|rfl⟩))
  . have f:bW .i64 (b' (aI.getD i br).A 4)=_:=o;rw[f];exact next _ (by unfold fh;simp only[bd];exact .inr (.inr (.inl ⟨d,by first|trivial|rfl⟩)))
  . obtain⟨H,J,O,K⟩:=uJ (aI.getD i eQ);have I:np (aI.getD i br)=_:=H;rw[I];simp only[ao];have hs:=MW (l:=ke (aI.getD i eQ)) K J.2 (aI.length:Int) (i:Int) aI 4 (mz (bW .i32 (aM .i64 65 (i:Int)))) 0 0 0 0 0 (decide (b' (aI.getD i eQ).B 2=1)) acc (ke (aI.getD i eQ)).length 0 [] (by omega) (by simp);have G:o5 ((aI.length:Int),(i:Int),ke (aI.getD i eQ),0,aI,4,mz (bW .i32 (aM .i64 65 (i:Int))),0,0,0,0,0,decide (b' (aI.getD i br).B 2=1),acc,[])=_:=hs;rw[G];simp only[ao,fE,fR];rw[q];exact next _ (by unfold fh;simp only[bd];exact .inr (.inr (.inr (.inl ⟨d,_,rfl⟩))))
  . obtain⟨l,r,l2⟩:=LJ cq ba h1 (i:=(i:Int)) ⟨by omega,by omega⟩ true;rw[r];simp only[ao];rw[q];exact next _ (by unfold fh;simp only[bd];exact .inr (.inr (.inr (.inr (.inl ⟨d,l,l2,rfl⟩)))))
  . obtain⟨l,r,l2⟩:=LJ cq ba h1 (i:=(i:Int)) ⟨by omega,by omega⟩ false;rw[r];simp only[ao];rw[q];by_cases h0:l.length=0
    . rw[ad (by simp[h0])];exact next _ (by unfold fh;simp only[bd];exact .inr (.inr (.inr (.inr (.inr (.inl ⟨d,by first|trivial|rfl⟩))))))
    . rw[ak (by simp;intro h;rw[h]at h0;simp at h0)];exact next _ (by unfold fh;simp only[bd];exact .inr (.inr (.inr (.inr (.inr (.inr (.inl ⟨d,l,_,l2,by omega,rfl⟩)))))))
  . have f:bW .i64 (b' (aI.getD i br).A 4)=_:=o;have g:b' (bW .i64 (aI.getD i br).C) (aI.length:Int)=_:=p;rw[ad n,f,g];exact next _ (by unfold fh;simp only[bd];exact .inr (.inr (.inr (.inr (.inr (.inr (.inr (.inl ⟨d,by first|trivial|rfl⟩))))))))
  . have f:bW .i64 (b' (aI.getD i br).A 4)=_:=o;have g:b' (bW .i64 (aI.getD i br).C) (aI.length:Int)=_:=p;obtain⟨u,L,N⟩:=Ov cq ba z h1;have M:sJ ((⟨aI⟩:ek),(aI.getD i br).B)=some u:=L;rw[M];simp only[ao];rw[ad n,f,g];rcases N with⟨rfl,a⟩|a
    . rw[hN];exact next _ (by unfold fh;simp only[bd];exact .inr (.inr (.inr (.inr (.inr (.inr (.inr (.inr (.inl ⟨d,a,by first|trivial|rfl⟩)))))))))
    . rw[ak (by have:=a.1;simp;omega)];exact next _ (by unfold fh;simp only[bd];exact .inr (.inr (.inr (.inr (.inr (.inr (.inr (.inr (.inr (.inl ⟨d,u,a,rfl⟩))))))))))
  . have g:b' (bW .i64 (aI.getD i br).C) (aI.length:Int)=_:=p;rw[ad n,g];exact next _ (by unfold fh;simp only[bd];exact .inr (.inr (.inr (.inr (.inr (.inr (.inr (.inr (.inr (.inr ⟨d,by first|trivial|rfl⟩))))))))))
end
def ue(d:ek):Prop:=d.ec.length<=reachBytes/\∀x,x∈d.ec->oB x
theorem of_eq{d:ek}(a:ue d):qB d=some (⟨[]⟩,false)\/∃l,qB d=some (⟨l⟩,true)/\1<=d.ec.length/\d.ec.length<=5/\l.length=d.ec.length/\∀j,j<d.ec.length->fh d.ec (j:Int) (l.getD j aN):=by
 rw[qB];simp only[aT,ao];by_cases h:1<=d.ec.length/\d.ec.length<=5
 . obtain⟨l,c,l2,e⟩:=Rg a.2 h.2 h.1 d.ec.length 0 [] (by omega) rfl (λj b=>by omega);grind
 grind
structure dj (ts:List ah):Prop where
 c9:1<=ts.length
 fl:ts.length<=5
 T:∀t,t∈ts->eX t
 V:mZ ts
 D:∀t,t∈ts->adg ts t.ag
 R:∀i:Nat,i<ts.length->∀m,m∈(ts.getD i aN).ag->0<=m.av/\m.av<ts.length/\(7<=(ts.getD m.av.toNat aN).Kind\/m.av<i)
 L:∀t,t∈ts->t.Kind=2->-3<=t.bA/\t.bC<=8
 M:∀t,t∈ts->t.Max<=3
 cy:∀t,t∈ts->(∀m,m∈t.ag->m.ae<=12)/\(∀y,y∈t.bg->y.ae<=6)/\t.ag.length<=12
 W:∀t,t∈ts->∀m,m∈t.ag->m.bZ=true->wt m.bw<=13
theorem pC(c:v.aw=[])(b:v.ai=[])(d:v.Rest=[])(hs:v.bn.length<=1000)(c9:cw v.Kind)(e:cw v.bc)(f:cw v.ae):bM v:=by
 refine .mk v (by unfold reachBytes;omega) (by rw[c];simp) (by rw[b];simp) (by rw[d];simp) (λx a=>?_) (λx a=>?_) (λx a=>?_) c9 e f (λx a=>?_)
 . grind
 . grind
 . grind
 grind
theorem Rh:bM au:=pC rfl rfl rfl (by simp[au]) (by unfold cw au;simp) (by unfold cw au;simp) (by unfold cw au;simp)
theorem MX(b:v.aw=[])(a:v.ai=[])(c:v.Rest=[]):wt v=10+v.bn.length:=by
 rw[fx,b,a,c,gE];simp
section
variable {aI:List fy}(cq:∀x,x∈aI->oB x)(ba:aI.length<=5)(h1:1<=aI.length){l:List ah}(af:l.length=aI.length)(c7:∀j,j<aI.length->fh aI (j:Int) (l.getD j aN))
include cq ba in
theorem MY(ht:0<=t/\t<aI.length)(h:Init aI t v):bM v/\wt v<=13:=by
 obtain⟨a,b,c,h⟩:=h;obtain⟨j,rfl⟩:∃j:Nat,t=(j:Int):=⟨t.toNat,by omega⟩
 have d:=cq _ (bk (by omega:j<aI.length) eQ);obtain⟨_,k,l⟩:=rn cq ba ht.1 ht.2;rw[bd]at h;have f:=d.a;have g:=d.b;have i:=(uJ (aI.getD j eQ)).2.1.2;unfold c8 at f g;rw[MX a b c];have hs:v.bn.length<=3:=by grind
 refine⟨pC a b c (by omega) ?_ ?_ ?_,by omega⟩
 . unfold cw;rcases h with h|h|h|h|h<;>omega
 . unfold cw;rcases h with⟨_,_,e,_⟩|⟨_,_,_,_,_,e⟩|⟨_,_,_,e,_⟩|⟨_,_,_,e,_⟩|⟨_,_,e,_⟩<;>omega
 . unfold cw;grind
include cq ba in
theorem KA{i:Int}{r:Bool}(h:uj aI i r Ms):pJ (!r) Ms\/(r=false/\Ms=[]):=by
 obtain⟨a,b,c⟩:=h;by_cases h0:r=false/\Ms=[]
 . grind
 left;refine⟨λm d=>?_,?_,⟨a,λm d=>?_⟩,λm d=>?_,?_,by omega⟩
 . have q:=b m d;unfold mb;have s:m.bZ=false->pI m.bw=true:=λh=>by
    rw[q.Ra h];have k:eT (lI (au,au)) au au:=Cw Rh au;obtain⟨w,v,z⟩:=k;unfold pI;grind
   have o:=q.fY;have p:=q.un;grind
 . grind
 . have:=(b m d).id;exact⟨by omega,by omega⟩
 . have q:=b m d;have:=q.id;rw[q.name];exact Ot (by omega) (by omega)
 . unfold List.Nodup;rw[oe];refine a.imp_of_mem λ{x y} l n aB=>?_;have f:=b x l;have g:=b y n;have t:=f.id;have u:=g.id;rw[f.name,g.name];intro e;simp only[yk,p1,rv]at e;have j:=ep UInt8.toNat e;rw[k7,k7]at j;omega
theorem KB{l:aq}(h:ug l 6)(h1:1<=l.length)(d:l.length<=6):Ap (qa l)/\(∀y,y∈qa l->y.ae<=6):=by
 unfold qa;refine⟨⟨by simp;omega,⟨?_,λy b=>?_⟩,λy b=>?_,?_,by simp;omega⟩,λy b=>?_⟩
 . rw[oe];exact h.1
 . obtain⟨x,a,rfl⟩:=eO.1 b;have:=h.2 x a;exact⟨this.1,by show x<=1000;omega⟩
 . obtain⟨x,a,rfl⟩:=eO.1 b;have:=h.2 x a;exact Ot (by omega) (by omega)
 . unfold List.Nodup;rw[oe,oe];refine h.1.imp_of_mem λ{x y} a b aB=>?_;have f:=h.2 x a;have g:=h.2 y b;intro e;simp only[yk,p1,rv]at e;have c:=ep UInt8.toNat e;rw[k7,k7]at c;omega
 . obtain⟨x,a,rfl⟩:=eO.1 b;exact(h.2 x a).2
theorem MZ{i:Int}{t:ah}(h:fh aI i t):(ed aI i<=5\/ed aI i=7\/ed aI i=9->t.Kind=ed aI i)/\(ed aI i=6->t.Kind=5\/t.Kind=6)/\(ed aI i=8->(t.Kind=8/\∃w,oA aI w)\/(t.Kind=7/\¬∃w,oA aI w)):=by
 unfold fh at h;rcases h with⟨k,rfl⟩|⟨k,rfl⟩|⟨k,rfl⟩|⟨k,_,rfl⟩|⟨k,_,_,rfl⟩|⟨k,rfl⟩|⟨k,_,_,_,_,rfl⟩|⟨k,rfl⟩|⟨k,a,rfl⟩|⟨k,w,a,rfl⟩|⟨k,rfl⟩<;>simp[k]
 . omega
 grind
theorem Hd{i:Int}{t:ah}(h:fh aI i t):t.ag=[]\/∃r,uj aI i r t.ag:=by
 unfold fh at h;rcases h with⟨k,rfl⟩|⟨k,rfl⟩|⟨k,rfl⟩|⟨k,_,rfl⟩|⟨k,_,a,rfl⟩|⟨k,rfl⟩|⟨k,_,_,a,_,rfl⟩|⟨k,rfl⟩|⟨k,a,rfl⟩|⟨k,w,a,rfl⟩|⟨k,rfl⟩
 . grind
 . grind
 . grind
 . grind
 . grind
 . grind
 . grind
 . grind
 . grind
 . grind
 grind
include cq ba h1 af c7 in
theorem abe:dj l:=by
 have n:∀{P:ah->Prop},(∀j,j<aI.length->P (l.getD j aN))->∀t,t∈l->P t:=λak t ht=>by
  obtain⟨i,g,rfl⟩:=eZ ht;grind
 have B:∀j,j<aI.length->oB (aI.getD j eQ):=λj d=>cq _ (bk d eQ);have E:∀j,j<aI.length->∀m,m∈(l.getD j aN).ag->∃r,ui aI (j:Int) r m:=λj d m f=>by
  rcases Hd (c7 j d)with h|⟨r,_,h,_⟩
  . grind
  grind
 have aa:∀t,t∈l->eX t:=n λj d=>by
  have f:=E j d;have ht:=c7 j d;have ai:(l.getD j aN).ag.length<=12:=by
   rcases Hd ht with h|⟨r,_,_,h⟩
   . rw[h];simp
   . exact h
  have aj:(l.getD j aN).bg.length<=6:=by
   have g:=(uJ (aI.getD j eQ)).2.2.2;unfold fh at ht;rcases ht with⟨k,e⟩|⟨k,e⟩|⟨k,e⟩|⟨k,_,e⟩|⟨k,_,_,e⟩|⟨k,e⟩|⟨k,_,_,_,_,e⟩|⟨k,e⟩|⟨k,_,e⟩|⟨k,_,_,e⟩|⟨k,e⟩<;>rw[e]
   case inr.inr.inr.inl=>simp only[bd,qa,gy];exact g
   all_goals simp
  refine⟨by unfold reachBytes;omega,by unfold reachBytes;omega,λm Y=>?_⟩;obtain⟨r,q⟩:=f m Y;by_cases D:m.bZ=true
  . exact(MY cq ba ⟨q.rK.1,q.rK.2.1⟩ (q.kb D)).1
  . rw[q.Ra (by simpa using D)];exact Rh
 have an:∀u:Int,0<=u->u<aI.length->7<=ed aI u->7<=(l.getD u.toNat aN).Kind:=λu h0 A I=>by
  obtain⟨j,rfl⟩:∃j:Nat,u=(j:Int):=⟨u.toNat,by omega⟩
  rw[bd];obtain⟨_,_,Z⟩:=rn cq ba h0 A;obtain⟨a,b,c⟩:=MZ (c7 j (by omega));omega
 have ab:mZ l:=by
  refine⟨by omega,n λj d=>?_,λj d=>?_,n λj d=>?_,n λj d F=>?_⟩
  . have ht:=c7 j d;have z:=uJ (aI.getD j eQ);have s:=(B j d).a;have J:=(B j d).b;have G:nm [UInt8.ofNat (65+j)]=true:=acJ (by omega);unfold c8 at s J;unfold fh at ht;simp only[bd]at ht;generalize [UInt8.ofNat (65+j)]=ap at G ht;unfold gh;rcases ht with⟨k,e⟩|⟨k,e⟩|⟨k,e⟩|⟨k,_,e⟩|⟨k,Ms,a,e⟩|⟨k,e⟩|⟨k,Ms,_,a,a0,e⟩|⟨k,e⟩|⟨k,_,e⟩|⟨k,_,_,e⟩|⟨k,e⟩<;>rw[e]
    . simp
    . simp;omega
    . simp;omega
    . simp;exact⟨G,(KB z.2.1 z.2.2.1 z.2.2.2).1⟩
    . simp;refine⟨G,?_⟩;rcases KA cq ba a with h|⟨h,_⟩
      . exact h
      . cases h
    . simp;exact⟨G,λm f=>(by cases f),.inl rfl,⟨.nil,λm f=>by cases f⟩,λm f=>(by cases f),by simp,by simp⟩
    . simp;refine⟨G,?_⟩;rcases KA cq ba a with h|⟨_,h⟩
      . exact h
      grind
    . simp;omega
    . simp;omega
    . simp;omega
    . simp
  ·
   have T:∀k,k<aI.length->(l.getD k aN).Name=[]\/(l.getD k aN).Name=[UInt8.ofNat (65+k)]:=λk R=>by
    have ht:=c7 k R;unfold fh at ht;simp only[bd]at ht;rcases ht with⟨k,e⟩|⟨k,e⟩|⟨k,e⟩|⟨k,_,e⟩|⟨k,Ms,a,e⟩|⟨k,e⟩|⟨k,Ms,_,a,a0,e⟩|⟨k,e⟩|⟨k,_,e⟩|⟨k,_,_,e⟩|⟨k,e⟩<;>rw[e]<;>simp
   rcases T j (by omega)with h|h
   . rw[h];simp
   . rw[h];simp only[Fg];right;apply Fq.2;intro K;obtain⟨k,R,he⟩:=(pU).1 K;have al:(l.map (·.Name)).getD k []=(l.getD k aN).Name:=h3 (·.Name) l k aN [] (by omega);rw[al]at he;rcases T k (by omega)with O|O
     . grind
     . rw[O]at he;simp only[yk,p1]at he;have p:=ep UInt8.toNat he;rw[k7,k7]at p;omega
  . intro u A;have f:=E j d;have K:=(B j d).c;unfold c8 at K;have U:0<=(aI.getD j eQ).C%(aI.length:Int):=lZ _ (by omega);have V:(aI.getD j eQ).C%(aI.length:Int)<aI.length:=lV _ (by omega);have ht:=c7 j d;unfold fh at ht;simp only[bd]at ht;generalize (aI.getD j eQ).C%(aI.length:Int)=af at U V ht;unfold e' at A;simp only[f',eO]at A;rcases A with(⟨m,h,rfl⟩|h)|h
    . obtain⟨r,q⟩:=f m h;have:=q.rK.1;have:=q.rK.2.1;omega
    . split at h
      . rename_i F;have:u=(l.getD j aN).Key:=(by simpa using h);rw[this];rcases ht with⟨k,e⟩|⟨k,e⟩|⟨k,e⟩|⟨k,_,e⟩|⟨k,Ms,a,e⟩|⟨k,e⟩|⟨k,Ms,_,a,a0,e⟩|⟨k,e⟩|⟨k,_,e⟩|⟨k,w,a,e⟩|⟨k,e⟩<;>rw[e]at F⊢<;>simp at F⊢;obtain⟨jB,ad,_⟩:=a;omega
      . cases h
    . split at h
      . rename_i I;have:u=(l.getD j aN).aG:=(by simpa using h);rw[this];rcases ht with⟨k,e⟩|⟨k,e⟩|⟨k,e⟩|⟨k,_,e⟩|⟨k,Ms,a,e⟩|⟨k,e⟩|⟨k,Ms,_,a,a0,e⟩|⟨k,e⟩|⟨k,_,e⟩|⟨k,w,a,e⟩|⟨k,e⟩<;>rw[e]at I⊢<;>simp at I⊢<;>omega
      . cases h
  . have ht:=c7 j d;unfold fh at ht;simp only[bd]at ht;rcases ht with⟨k,e⟩|⟨k,e⟩|⟨k,e⟩|⟨k,_,e⟩|⟨k,Ms,a,e⟩|⟨k,e⟩|⟨k,Ms,_,a,a0,e⟩|⟨k,e⟩|⟨k,_,e⟩|⟨k,w,a,e⟩|⟨k,e⟩<;>rw[e]at F⊢<;>simp at F⊢;obtain⟨jB,ad,au,aw⟩:=a;obtain⟨q,rfl⟩:∃q:Nat,w=(q:Int):=⟨w.toNat,by omega⟩
    obtain⟨a,_,_⟩:=MZ (c7 q (by omega));have:=a (.inl (by omega));simp_all
 refine⟨by omega,by omega,aa,ab,n λj d m f D=>?_,λj d m f=>?_,n λj d Q=>?_,n λj d=>?_,n λj d=>⟨λm f=>?_,λy L=>?_,?_⟩,n λj d m f D=>?_⟩
 . obtain⟨r,q⟩:=E j d m f;have g:=q.kb D;obtain⟨M,N,_⟩:=q.rK;generalize m.bw=v at g;obtain⟨u,A⟩:∃u:Nat,m.av=(u:Int):=⟨m.av.toNat,by omega⟩
   rw[A]at g M N⊢;have ht:=c7 u (by omega);obtain⟨a,b,c,g⟩:=g;rw[eU];simp only[bd]at g⊢;unfold fh at ht;simp only[bd]at ht;have X:((l.length:Nat):Int)=aI.length:=(by omega);rw[X];generalize l.getD u aN=x at ht⊢;rw[a,b,c];have ar:∀t,e0 l true t []:=λt=>by rw[e0];trivial
   have am:jL []:=λi g=>by simp at g
   have S:=B u (by omega);generalize aI.getD u eQ=ao at ht g S;rcases g with⟨k,aK,p,dm,iq⟩|⟨k,aK,p,dm,iq,kL,uC⟩|⟨k,aK,p,dm,iq,kL⟩|⟨k,aK,p,dm,iq,kL⟩|⟨k,aK,p,dm,iq,kL⟩
   . rw[k]at ht;grind
   . rw[k]at ht;grind
   . rw[k]at ht;grind
   . rw[k]at ht;simp only[Int.reduceEq,false_and,rv,or_false,false_or]at ht;obtain⟨o,rfl⟩:=ht;rw[aK,p,dm,iq];simp;refine⟨by omega,⟨v.ae,[UInt8.ofNat 115,UInt8.ofNat (97+v.ae.toNat)]⟩,?_,rfl⟩;unfold qa;grind
   . rw[aK,p,dm,iq];have Z:ed aI (u:Int)<=9:=(rn cq ba M N).2.2;have W:ed aI (u:Int)=7\/ed aI (u:Int)=8\/ed aI (u:Int)=9:=(by omega);have s:=S.a;unfold c8 at s;rcases W with H|H|H
     . rw[H]at ht kL;grind
     . rw[H]at ht kL;grind
     . rw[H]at ht kL;grind
 . obtain⟨r,q⟩:=E j (by omega) m f;obtain⟨M,N,aq⟩:=q.rK;grind
 . have ht:=c7 j d;have s:=(B j d).a;have J:=(B j d).b;unfold c8 at s J;unfold fh at ht;simp only[bd]at ht;rcases ht with⟨k,e⟩|⟨k,e⟩|⟨k,e⟩|⟨k,_,e⟩|⟨k,Ms,a,e⟩|⟨k,e⟩|⟨k,Ms,_,a,a0,e⟩|⟨k,e⟩|⟨k,_,e⟩|⟨k,w,a,e⟩|⟨k,e⟩<;>rw[e]at Q⊢<;>simp at Q⊢;omega
 . have ht:=c7 j d;have s:=(B j d).a;unfold c8 at s;unfold fh at ht;simp only[bd]at ht;rcases ht with⟨k,e⟩|⟨k,e⟩|⟨k,e⟩|⟨k,_,e⟩|⟨k,Ms,a,e⟩|⟨k,e⟩|⟨k,Ms,_,a,a0,e⟩|⟨k,e⟩|⟨k,_,e⟩|⟨k,w,a,e⟩|⟨k,e⟩<;>rw[e]<;>simp<;>omega
 . obtain⟨r,q⟩:=E j d m f;exact q.id.2
 . have ht:=c7 j d;have z:=uJ (aI.getD j eQ);unfold fh at ht;simp only[bd]at ht;rcases ht with⟨k,e⟩|⟨k,e⟩|⟨k,e⟩|⟨k,_,e⟩|⟨k,Ms,a,e⟩|⟨k,e⟩|⟨k,Ms,_,a,a0,e⟩|⟨k,e⟩|⟨k,_,e⟩|⟨k,w,a,e⟩|⟨k,e⟩<;>rw[e]at L<;>simp at L;exact(KB z.2.1 z.2.2.1 z.2.2.2).2 y L
 . rcases Hd (c7 j d)with h|⟨r,_,_,h⟩
   . rw[h];simp
   . exact h
 . obtain⟨r,q⟩:=E j d m f;exact(MY cq ba ⟨q.rK.1,q.rK.2.1⟩ (q.kb D)).2
end
theorem Fy{d:ek}(g:ue d):qB d=some (⟨[]⟩,false)\/∃l,qB d=some (⟨l⟩,true)/\dj l:=by
 rcases of_eq g with h|⟨l,a,b,c,e,f⟩
 . exact .inl h
 . exact .inr ⟨l,a,abe g.2 c b e f⟩
def fp(a C:aq):Prop:=a.length<=C.length/\∀c,c∈a->c∈C
theorem fp.refl(C:aq):fp C C:=⟨ef _,λ_ h=>h⟩
theorem fp.trans{A B C:aq}(h:fp A B)(k:fp B C):fp A C:=⟨h9 h.1 k.1,λc a=>k.2 c (h.2 c a)⟩
def gK(C:aq):Prop:=∀c,c∈C->c8 c
theorem gK.dG{A B:aq}(h:gK B)(k:fp A B):gK A:=λc a=>h c (k.2 c a)
section
variable {ts:List ah}
theorem k9{n:Int}(aD:1<=n/\n<=1000){C:aq}(cL:gK C)(af:C.length<=1000)(odd:Bool):
 ∃r b,iX (n,ts,C,odd)=some (r,ts,b,odd)/\0<=r/\r<n/\fp b C/\(r=0/\b=[]/\C=[]\/b.length+1=C.length):=by
 rw[iX];cases C with
 |nil=>
  rw[hN];exact⟨0,[],rfl,by omega,by omega,fp.refl _,.inl ⟨rfl,rfl,rfl⟩⟩
 |cons c C=>
  have d:=cL c (.head _);unfold c8 at d;have h0:aH 0 (c::C).length=true:=aQ (k:=0) (by simp);have h1:dT 1 ((c::C).length:Int) (c::C).length=true:=jK (a:=1) (by simp) (by simp);have e:d' (c::C) 1 ((c::C).length:Int)=C:=by
   have:=nE (c::C) 1;grind
  rw[cl,ad h0,ad (tL (by omega)),ad h1,e];simp only[ru,kf];rw[lf ⟨by omega,by omega⟩,hg d.1];exact⟨_,C,rfl,lZ _ (by omega),lV _ (by omega),⟨by simp,λx f=>.tail _ f⟩,.inr (by simp)⟩
theorem HQ{C:aq}(cL:gK C)(af:C.length<=1000)(odd:Bool):
 ∃o a,uO (ts,C,odd)=some (o,ts,a,odd)/\(odd=false->o=false)/\fp a C:=by
 rw[uO];cases odd with
 |false=>exact⟨false,C,rfl,λ_=>rfl,fp.refl _⟩
 |true=>
  obtain⟨r,a,h1,_,_,b,_⟩:=k9 (ts:=ts) (n:=4) ⟨by omega,by omega⟩ cL af true;rw[ad rfl,h1];exact⟨_,a,rfl,λh=>(by cases h),b⟩
theorem acj(b:x.ag.length<9223372036854775807)(hs:x.bg.length<9223372036854775807)(n:Int):df (Ch (x,n)) ((∃m,m∈x.ag/\m.ae=n)\/∃y,y∈x.bg/\y.ae=n):=by
 obtain⟨r,_,c,a⟩:=mx (t:=x) n b;obtain⟨s,_,d,al⟩:=qJ (t:=x) n hs;rw[Ch,c];simp only[aT,ao];rw[d];refine⟨_,rfl,?_⟩;have h1:=Cx al;have f:r.2=true↔∃m,m∈x.ag/\m.ae=n:=by
  rcases tC a with⟨e,j,g,_,_,i⟩|⟨e,q⟩
  . grind
  . rw[e];have:=nz q;grind
 grind
theorem KC(c:x.ag.length<9223372036854775807)(hs:x.bg.length<9223372036854775807)(d:∀m,m∈x.ag->m.ae<=12)(e:∀y,y∈x.bg->y.ae<=6)(C:aq)(odd:Bool):
 ∀(k:Nat) (n:Int),1<=n->n<=14->13<=n+k->∃a,uM (n,ts,C,odd,x)=some (a,ts,C,odd)/\1<=a/\a<=14/\(∀m,m∈x.ag->m.ae≠a)/\(∀y,y∈x.bg->y.ae≠a)
 |k,n,h1,g,b=>by
  obtain⟨r,f,j⟩:=acj c hs n;rw[uM,f];simp only[aT,ao];cases r with
  |false=>grind
  |true=>
   have i:n<=12:=(by grind);rw[ad rfl,j']
   match k,b with
   |0,b=>omega
   |k+1,b=>exact KC c hs d e C odd k (n+1) (by omega) (by omega) (by omega)
theorem He(e:x.ag.length<9223372036854775807)(hs:x.bg.length<9223372036854775807)(b:∀m,m∈x.ag->m.ae<=12)(d:∀y,y∈x.bg->y.ae<=6){C:aq}(cL:gK C)(af:C.length<=1000)(odd:Bool):
 ∃n a,qs (x,ts,C,odd)=some (n,ts,a,odd)/\cr n/\cH x.ag n=none/\fp a C:=by
 obtain⟨r,a,h1,i,j,c,_⟩:=k9 (ts:=ts) (n:=14) ⟨by omega,by omega⟩ cL af odd;obtain⟨n,c9,k,l,g,_⟩:=KC (ts:=ts) e hs b d a odd 12 (1+r) (by omega) (by omega) (by omega);refine⟨n,a,?_,⟨by omega,by omega⟩,?_,c⟩
 . rw[qs,h1];simp only[aT,ao];rw[j',c9];rfl
 . unfold cH;rw[yh];intro m f;simpa using g m f
theorem LK{n:Int}{C:aq}(cL:gK C)(af:C.length<=1000)(odd:Bool):∃d a,uP (n,ts,C,odd)=some (⟨n,d⟩,ts,a,odd)/\d.length<=3/\fp a C:=by
 obtain⟨r,a,h1,b,c,e,_⟩:=k9 (ts:=ts) (n:=4) ⟨by omega,by omega⟩ cL af odd;obtain⟨k,rfl⟩:∃k:Nat,r=(k:Int):=⟨r.toNat,by omega⟩
 rw[uP];simp only[aT,ao];rw[h1];simp only[ao];rw[ad (aQ (by simp;omega)),bd];grind
theorem Mx(odd:Bool):∀(k:Nat) (s:aj) (C:aq),k<=100->gK C->C.length<=1000->s.length+k<=100->∃b a,si (s,(k:Int),ts,C,odd)=some (b,ts,a,odd)/\b.length<=s.length+k/\fp a C
 |0,s,C,g,cL,af,hs=>⟨s,C,by rw[si,bt],by omega,fp.refl _⟩
 |k+1,s,C,g,cL,af,hs=>by
  obtain⟨r,a,h1,f,j,c,_⟩:=k9 (ts:=ts) (n:=3) ⟨by omega,by omega⟩ cL af odd;have i:decide ((0:Int)<((k+1:Nat):Int))=true:=by rw[dp];omega
  have e:de .i64 ((k+1:Nat):Int) 1=(k:Int):=by rw[hI];omega
  rw[si,ad i,h1];simp only[aT,ao];rw[Ik ⟨f,by omega⟩,ad (fW (by simp;omega)),e];obtain⟨b,d,a1,a2,a3⟩:=Mx odd k (s++[UInt8.ofNat (97+r.toNat)]) a (by omega) (cL.dG c) (by have:=c.1;omega) (by simp;omega);exact⟨b,d,a1,by simp at a2;omega,a3.trans c⟩
theorem abT{most:Int}(f:0<=most/\most<=1000){C:aq}(cL:gK C)(af:C.length<=1000)(odd:Bool):∃s a,Cs (most,ts,C,odd)=some (s,ts,a,odd)/\(s.length:Int)<=most/\s.length<=3/\fp a C:=by
 have em:aM .i64 (je most 3) 1=min most 3+1:=by
  have:je most 3=min most 3:=rfl;rw[this,j']
 obtain⟨r,a,h1,d,e,b,_⟩:=k9 (ts:=ts) (n:=min most 3+1) ⟨by omega,by omega⟩ cL af odd;obtain⟨k,rfl⟩:∃k:Nat,r=(k:Int):=⟨r.toNat,by omega⟩
 obtain⟨s,c,a1,a2,a3⟩:=Mx (ts:=ts) odd k [] a (by omega) (cL.dG b) (by have:=b.1;omega) (by simp;omega);refine⟨s,c,?_,by simp at a2;omega,by simp at a2;omega,a3.trans b⟩;rw[Cs,em,h1];grind
end
theorem RS:∀a b:aj,Op.bytesLess a b=false->a≠b->Op.bytesLess b a=true
 |[],[],_,h=>absurd rfl h
 |[],y::b,h,_=>by simp[Op.bytesLess]at h
 |x::a,[],h,_=>by simp[Op.bytesLess]
 |x::a,y::b,h,d=>by
  simp only[Op.bytesLess]at h⊢;by_cases h1:x<y
  . grind
  . by_cases c:y<x
    . simp[c]
    . have e:x=y:=(by grind);subst e;have f:Op.bytesLess a b=false:=(by simpa using h);have:=RS a b f (λe=>d (by rw[e]));simp[this]
theorem nl{a b:I}(c:cw a.bc)(d:cw b.bc):nO (a,b)=some (gW a b):=by
 obtain⟨r,h1,e⟩:=CB c d;unfold gW;grind
theorem aa4{a b:I}(d:cw a.bc)(f:cw b.bc)(h:0<gW a b):gW b a<0:=by
 have h1:=nl d f;have c:=nl f d;generalize gW a b=r at h h1;generalize gW b a=q at c;rw[nO]at h1 c;by_cases o:a.Kind=b.Kind
 . rw[ak (by simp[o])]at h1 c;by_cases l:a.Kind=1
   . have g:b.Kind=1:=(by omega);rw[ad (by simp[l])]at h1;rw[ad (by simp[g])]at c;simp only[kD,e6]at h1 c;grind
   . have g:¬b.Kind=1:=(by omega);rw[ak (by simp[l])]at h1;rw[ak (by simp[g])]at c;by_cases m:a.Kind=2
     . have i:b.Kind=2:=(by omega);rw[ad (by simp[m]),tm d,tm f]at h1;rw[ad (by simp[i]),tm d,tm f]at c;simp only[aT,ao,kD]at h1 c;by_cases e:a.bc=b.bc
       . grind
       . have u:gf a.bc≠gf b.bc:=λh=>e (MM h);grind
     . have i:¬b.Kind=2:=(by omega);rw[ak (by simp[m])]at h1;rw[ak (by simp[i])]at c;by_cases n:a.Kind=3
       . have j:b.Kind=3:=(by omega);rw[ad (by simp[n])]at h1;rw[ad (by simp[j])]at c;simp only[aT,ao,kD]at h1 c;by_cases af:a.bn.length=b.bn.length
         . rw[ak (by simp[af])]at h1 c;by_cases e:a.bn=b.bn
           . grind
           . have t:¬b.bn=a.bn:=λh=>e h.symm;cases k:Op.bytesLess a.bn b.bn with
             |true=>simp[e,k]at h1;omega
             |false=>
              have:=RS _ _ k e;grind
         grind
       . have j:¬b.Kind=3:=(by omega);rw[ak (by simp[n])]at h1;rw[ak (by simp[j])]at c;by_cases p:a.Kind=4
         . have s:b.Kind=4:=(by omega);rw[ad (by simp[p])]at h1;rw[ad (by simp[s])]at c;simp only[aT,ao,kD]at h1 c;grind
         grind
 grind
theorem Rr{key item:I}(af:v.aw.length<1000000)(l:∀x,x∈v.aw->cw x.bc)(n:cw key.bc)(a:Int)(b:Bool)(c:Int)(d:aj)(e:Int):∀(k i:Nat),i+k=v.aw.length->
 (∀j,j<i->gW (v.aw.getD j au) key<0)->∃m:Nat,m<=v.aw.length/\q9 ((i:Int),v,key,item,a,b,c,d,e)=some ((m:Int),v,key,item,a,b,c,d,e)/\(∀j,j<m->gW (v.aw.getD j au) key<0)/\(m<v.aw.length->0<=gW (v.aw.getD m au) key)
 |0,i,p,g=>by
  have f:decide ((i:Int)<(v.aw.length:Int))=false:=by simp;omega
  refine⟨i,by omega,?_,g,λh=>by omega⟩;rw[q9];simp only[aT,ao,f,eN,Bool.or_true,bS,bU,b6,dS,I.aU]
 |k+1,i,p,g=>by
  have aB:i<v.aw.length:=by omega
  have f:decide ((i:Int)<(v.aw.length:Int))=true:=by simp;omega
  have o:=nl (l _ (bk aB au)) n;rw[q9];simp only[aT,ao,f,di,jg,bS,eo,I.aU,bd];rw[ad (aQ aB),o];simp only[ao];by_cases q:gW (v.aw.getD i au) key<0
  . rw[ad (by simpa using q),bD];refine Rr af l n a b c d e k (i+1) (by omega) λj r=>?_;grind
  grind
theorem tH:∀(a b:List I),cI (a++b)=cI a+cI b
 |[],b=>by rw[gE];simp
 |x::a,b=>by rw[rB,hf,hf,tH a b];omega
theorem LL{l:List α}{m:Nat}{x d:α}(a:m<=l.length)(i:Nat):(l.take m++(x::l.drop m)).getD i d=if i<m then l.getD i d else if i=m then x else l.getD (i-1) d:=by grind
theorem acL{key item:I}(af:v.aw.length<1000)(z:v.ai.length=v.aw.length)(l:∀x,x∈v.aw->cw x.bc)(n:cw key.bc)(g:jL v.aw):
 ∃ks b,Ck (v,key,item)=some ⟨v.Kind,v.bL,v.bc,v.bn,v.ae,ks,b,v.Rest⟩/\b.length=ks.length/\ks.length<=v.aw.length+1/\jL ks/\(∀x,x∈ks->x∈v.aw\/x=key)/\(∀x,x∈b->x∈v.ai\/x=item)/\cI ks+cI b<=cI v.aw+cI v.ai+wt key+wt item:=by
 obtain⟨m,f,B,G,D⟩:=Rr (item:=item) (by omega) l n 0 false 0 [] 0 v.aw.length 0 (by omega) (λj F=>by omega);have C:q9 (0,v,key,item,0,false,0,[],0)=_:=B;rw[Ck];simp only[I.aU];rw[C];simp only[aT,ao,I.aU];have ins:∀(r:m<v.aw.length->0<gW (v.aw.getD m au) key),∃ks b,(some (⟨v.Kind,v.bL,v.bc,v.bn,v.ae,v.aw.take m++(key::v.aw.drop m),v.ai.take m++(item::v.ai.drop m),v.Rest⟩:I):Option I)=some ⟨v.Kind,v.bL,v.bc,v.bn,v.ae,ks,b,v.Rest⟩/\b.length=ks.length/\ks.length<=v.aw.length+1/\jL ks/\(∀x,x∈ks->x∈v.aw\/x=key)/\(∀x,x∈b->x∈v.ai\/x=item)/\cI ks+cI b<=cI v.aw+cI v.ai+wt key+wt item:=by
  intro r;refine⟨_,_,rfl,by simp;omega,by simp;omega,λi y=>?_,λx c=>?_,λx c=>?_,?_⟩
  . rw[LL f,LL f];have A:(v.aw.take m++(key::v.aw.drop m)).length=v.aw.length+1:=by simp;omega
    rw[A]at y;by_cases h1:i+1<m
    . rw[fu,ad h1];exact g i (by omega)
    . by_cases p:i+1=m
      . grind
      . by_cases q:i=m
        . rw[bq,ad q,ak h1,ak p];have e:i+1-1=m:=(by omega);rw[e];exact aa4 (l _ (bk (by omega) au)) n (r (by omega))
        . rw[bq,ak q,ak h1,ak p];have:=g (i-1) (by omega);grind
  . grind
  . grind
  . rw[tH,tH,hf,hf];have aK:cI v.aw=cI (v.aw.take m)+cI (v.aw.drop m):=by rw[<-tH,ye]
    have E:cI v.ai=cI (v.ai.take m)+cI (v.ai.drop m):=by rw[<-tH,ye]
    omega
 have s1:dT 0 (m:Int) v.aw.length=true:=jK (a:=0) (by omega) f;have s:dT (m:Int) (v.aw.length:Int) v.aw.length=true:=jK f (by omega);have t:dT 0 (m:Int) v.ai.length=true:=jK (a:=0) (by omega) (by omega);have u:dT (m:Int) (v.ai.length:Int) v.ai.length=true:=jK (by omega) (by omega);have build:∀{o:Option I->Prop},o (some (⟨v.Kind,v.bL,v.bc,v.bn,v.ae,v.aw.take m++(key::v.aw.drop m),v.ai.take m++(item::v.ai.drop m),v.Rest⟩:I))->o (some (⟨v.Kind,v.bL,v.bc,v.bn,v.ae,v.aw.take m++(key::v.aw.drop m),v.ai.take m++(item::v.ai.drop m),v.Rest⟩:I)):=λh=>h;by_cases d:m<v.aw.length
 . have k:decide ((m:Int)<(v.aw.length:Int))=true:=by simp;omega
   have w:=nl (l _ (bk d au)) n;simp only[k,di,jg,bS,eo,bd];rw[ad (aQ d),w];simp only[ao];by_cases h0:gW (v.aw.getD m au) key=0
   . rw[ad (by simpa using h0)];refine⟨v.aw,v.ai,by cases v;rfl,z,by omega,g,λx c=>.inl c,λx c=>.inl c,by omega⟩
   . rw[ak (by simpa using h0),ad s1,ad (cQ (by omega) (by simp[d'];omega))];rw[ad (cQ (by omega) (by simp[d'];omega)),ad s,ad (cQ (by omega) (by simp[d'];omega)),ad t,ad (cQ (by omega) (by simp[d'];omega)),ad (cQ (by omega) (by simp[d'];omega)),ad u,ad (cQ (by omega) (by simp[d'];omega))];rw[tF,tF,nE,nE];simp only[fR,hq,List.singleton_append];exact ins λ_=>by have:=D d;omega
 . have k:decide ((m:Int)<(v.aw.length:Int))=false:=by simp;omega
   simp only[k,eN,Bool.or_true,bS,bU,b6,dS,ao];rw[ad s1,ad (cQ (by omega) (by simp[d'];omega))];rw[ad (cQ (by omega) (by simp[d'];omega)),ad s,ad (cQ (by omega) (by simp[d'];omega)),ad t,ad (cQ (by omega) (by simp[d'];omega)),ad (cQ (by omega) (by simp[d'];omega)),ad u,ad (cQ (by omega) (by simp[d'];omega))];rw[tF,tF,nE,nE];simp only[fR,hq,List.singleton_append];exact ins λh=>absurd h d
section
variable {ts:List ah}
mutual
theorem ov:∀(v:I) (t:Int),b5 ts true t v->b5 ts false t v
 |⟨k,b,i,s,id,ks,e,r⟩,t,h=>by
  rw[b5]at h⊢;obtain⟨⟨h1,p,q,z⟩,ba⟩:=h;have w:=GU e;have A:=GU ks;have B:=RK e;refine⟨⟨h1,p,q,λh=>by cases h⟩,?_⟩
  have y:(match cH (ts.getD t.toNat aN).ag id with
   |some m=>r=[]/\e.length=1/\e0 ts true m.av e
   |none=>(ts.getD t.toNat aN).Open=true/\true=false/\cr id/\e=[]/\∃d,r=[⟨id,d⟩])->(match cH (ts.getD t.toNat aN).ag id with
   |some m=>r=[]/\e.length=1/\e0 ts false m.av e
   |none=>(ts.getD t.toNat aN).Open=true/\false=false/\cr id/\e=[]/\∃d,r=[⟨id,d⟩]):=by
   split
   . rintro ⟨a,b,c⟩;exact⟨a,b,w _ c⟩
   . rintro ⟨_,b,_⟩;cases b
  rcases ba with h|h|h|⟨a1,a2,a3,a4,a5,f,j,o⟩|⟨a1,a2,a3,a4,a5,f,j,o⟩|⟨a1,a2,a3,a4,a5,f⟩|⟨a1,a2,a3,a4,a5,f,j,o,a9⟩|⟨a1,a2,a3,a4,a5,f,j,o,a9,u,x⟩|⟨a1,a2,a3,a4,a5,f,j,o,a9⟩
  . exact .inl h
  . grind
  . grind
  . grind
  . grind
  . grind
  . grind
  . grind
  grind
theorem GU:∀(l:List I) (t:Int),e0 ts true t l->e0 ts false t l
 |[],t,h=>by rw[e0];trivial
 |v::l,t,h=>by
  rw[e0]at h⊢;exact⟨ov v t h.1,GU l t h.2⟩
theorem RK:∀(l:List I) (ms:List aS),hr ts true ms l->hr ts false ms l
 |[],[],h=>by rw[hr];trivial
 |[],m::ms,h=>by
  have:hr ts true (m::ms) []=False:=by rw[hr]<;>(intros;simp_all)
  grind
 |v::l,[],h=>by
  have:hr ts true [] (v::l)=False:=by rw[hr]<;>(intros;simp_all)
  grind
 |v::l,m::ms,h=>by
  rw[hr]at h⊢;exact⟨ov v m.av h.1,RK l ms h.2⟩
end
theorem abf(h:b5 ts true t v)(pl:Bool):b5 ts pl t v:=by
 cases pl with
 |true=>exact h
 |false=>exact ov v t h
def kj(ts:List ah)(t:Nat):Nat:=if 7<=(ts.getD t aN).Kind then 0 else t+1
def gg:Nat->Nat
 |0=>20
 |n+1=>12*gg n+20
theorem Ej{a:Nat}:∀{b:Nat},a<=b->gg a<=gg b
 |0,h=>by have:a = 0:= by omega
          subst this;omega
 |b+1,h=>by
  by_cases e:a=b+1
  . grind
  . have:=Ej (a:=a) (b:=b) (by omega);simp only[gg];omega
theorem Ei(r:Nat):20<=gg r:=Ej (a:=0) (h' _)
theorem wO:gg 5=5429060:=rfl
def ma(ts:List ah)(odd:Bool)(C:aq)(r:Nat)(t:Int):Prop:=∃v a,jF (t,ts,C,odd)=some (v,ts,a,odd)/\b5 ts (!odd) t v/\bM v/\fp a C/\wt v+32574360*a.length<=gg r+32574360*C.length
theorem Ow {odd:Bool}{c r:Nat}(G:c<=1000){x:ah}(E:x.ag.length<=12)(s:∀m,m∈x.ag->(∀C,gK C->C.length<=c->ma ts odd C r m.av)/\(m.bZ=true->b5 ts true m.av m.bw/\bM m.bw/\wt m.bw<=13))
 (a0:Int)(a1:Bool)(a2:Int)(a3:aj)(a4:Int)(v0:Int)(v1:Bool)(g:Int)(v3:aj)(v4:Int):
 ∀(k i:Nat) (C:aq) (acc:List I),i+k=x.ag.length->gK C->C.length<=c->acc.length=i->(∀j,j<i->b5 ts (!odd) (x.ag.getD j aE).av (acc.getD j au))->(∀y,y∈acc->bM y)->
 ∃a b,mE ((i:Int),ts,C,odd,a0,a1,a2,a3,a4,x.Kind,x.Name,x.bA,x.bC,x.Max,x.bg,x.ag,x.Key,x.aG,x.Open,v0,v1,g,v3,v4,acc)=some (ts,b,odd,a0,a1,a2,a3,a4,x.Kind,x.Name,x.bA,x.bC,x.Max,x.bg,x.ag,x.Key,x.aG,x.Open,v0,v1,g,v3,v4,a)/\
  a.length=x.ag.length/\(∀j,j<x.ag.length->b5 ts (!odd) (x.ag.getD j aE).av (a.getD j au))/\(∀y,y∈a->bM y)/\fp b C/\cI a+32574360*b.length<=cI acc+k*gg r+32574360*C.length
 |0,i,C,acc,K,cL,af,F,p,l=>⟨acc,C,by rw[mE,cl],by omega,λj L=>p j (by omega),l,fp.refl _,by omega⟩
 |k+1,i,C,acc,K,cL,af,F,p,l=>by
  have aB:i<x.ag.length:=by omega
  obtain⟨t,J⟩:=s _ (bk aB aE);have next:∀ (w:I) (d:aq),b5 ts (!odd) (x.ag.getD i aE).av w->bM w->fp d C->wt w+32574360*d.length<=gg r+32574360*C.length->
   ∃a b,(if room 120 (acc++[w]).length then mE (aM .i64 (i:Int) 1,ts,d,odd,a0,a1,a2,a3,a4,x.Kind,x.Name,x.bA,x.bC,x.Max,x.bg,x.ag,x.Key,x.aG,x.Open,v0,v1,g,v3,v4,acc++[w])else none)=some (ts,b,odd,a0,a1,a2,a3,a4,x.Kind,x.Name,x.bA,x.bC,x.Max,x.bg,x.ag,x.Key,x.aG,x.Open,v0,v1,g,v3,v4,a)/\
    a.length=x.ag.length/\(∀j,j<x.ag.length->b5 ts (!odd) (x.ag.getD j aE).av (a.getD j au))/\(∀y,y∈a->bM y)/\fp b C/\cI a+32574360*b.length<=cI acc+(k+1)*gg r+32574360*C.length:=by
   intro w d P M hs Q;rw[ad (cQ),bD]
   obtain⟨a,b,b1,b2,b3,b4,B,D⟩:=Ow G E s a0 a1 a2 a3 a4 v0 v1 g v3 v4 k (i+1) d (acc++[w]) (by omega) (cL.dG hs) (by have:=hs.1;omega) (by simp;omega) (λj L=>by
    grind) (λy N=>by
    rcases f'.1 N with h|h
    . exact l y h
    . have:y=w:=by simpa using h
      subst this;exact M)
   refine⟨a,b,b1,b2,b3,b4,B.trans hs,?_⟩;rw[tH,hf,gE]at D;have e:(k+1)*gg r=k*gg r+gg r:=Nat.succ_mul _ _;omega
  rw[mE,bu,ad (aQ aB)];simp only[aT,ao,bd,I.aU];cases H:(x.ag.getD i aE).bZ with
  |true=>
   obtain⟨f1,f2,f3⟩:=J H;obtain⟨q,d,c9,R,S,f,fl⟩:=k9 (ts:=ts) (n:=3) ⟨by omega,by omega⟩ cL (by omega) odd;rw[ad rfl,c9];simp only[ao,eo];by_cases h0:q=0
   . rw[ad (by simpa using h0)];have:=f.1;have:=Ei r;rw[ad (aQ aB)];exact next _ d (abf f1 _) f2 f (by omega)
   . rw[ak (by simpa using h0),ad (aQ aB)];obtain⟨w,o,u,v,z,A,O⟩:=t d (cL.dG f) (by have:=f.1;omega);rw[u];simp only[ao,I.aU];have:=f.1;exact next w o v z (A.trans f) (by omega)
  |false=>
   rw[bt,bt,ad (aQ aB)];obtain⟨w,o,u,v,z,A,O⟩:=t C cL af;grind
theorem My{r:Nat}(m:c<=1000)(dR:∀C,gK C->C.length<=c->ma ts odd C r x.aG)
 (a0:Int)(a1:Bool)(a2:Int)(a3:aj)(a4:Int)(v0:Int)(v1:Bool)(f:Int)(v3:aj)(v4:Int):
 ∀(k:Nat) (C:aq) (acc:List I),acc.length+k<=100->gK C->C.length<=c->(∀y,y∈acc->b5 ts (!odd) x.aG y/\bM y)->
 ∃a b,qp ((k:Int),ts,C,odd,a0,a1,a2,a3,a4,x.Kind,x.Name,x.bA,x.bC,x.Max,x.bg,x.ag,x.Key,x.aG,x.Open,v0,v1,f,v3,v4,acc)=some (ts,b,odd,a0,a1,a2,a3,a4,v0,v1,f,v3,v4,a)/\
  a.length=acc.length+k/\(∀y,y∈a->b5 ts (!odd) x.aG y/\bM y)/\fp b C/\cI a+32574360*b.length<=cI acc+k*gg r+32574360*C.length
 |0,C,acc,l,cL,af,g=>⟨acc,C,by rw[qp,bt],by omega,g,fp.refl _,by omega⟩
 |k+1,C,acc,l,cL,af,g=>by
  have n:decide ((0:Int)<((k+1:Nat):Int))=true:=by rw[dp];omega
  have e:de .i64 ((k+1:Nat):Int) 1=(k:Int):=by rw[hI];omega
  obtain⟨w,i,o,q,s,d,t⟩:=dR C cL af;rw[qp,ad n,o];simp only[aT,ao,I.aU];rw[ad (cQ),e];obtain⟨a,b,b1,b2,b3,b4,j⟩:=My m dR a0 a1 a2 a3 a4 v0 v1 f v3 v4 k i (acc++[w]) (by simp;omega) (cL.dG d) (by have:=d.1;omega) (λy p=>by grind);refine⟨a,b,b1,by simp at b2;omega,b3,b4.trans d,?_⟩;rw[tH,hf,gE]at j;grind
theorem Ox {odd:Bool}{c r:Nat}(E:c<=1000){x:ah}(bH:∀C,gK C->C.length<=c->ma ts odd C r x.Key)(dR:∀C,gK C->C.length<=c->ma ts odd C r x.aG)
 (a0:Int)(a1:Bool)(a2:Int)(a3:aj)(a4:Int)(v0:Int)(v1:Bool)(j:Int)(v3:aj)(v4:Int)(R:List bY):
 ∀(k:Nat) (C:aq) (ks a:List I),ks.length+k<=100->a.length=ks.length->gK C->C.length<=c->(∀y,y∈ks->b5 ts (!odd) x.Key y/\bM y)->(∀y,y∈a->b5 ts (!odd) x.aG y/\bM y)->jL ks->
 ∃b d f,qq ((k:Int),ts,C,odd,a0,a1,a2,a3,a4,x.Kind,x.Name,x.bA,x.bC,x.Max,x.bg,x.ag,x.Key,x.aG,x.Open,v0,v1,j,v3,v4,ks,a,R)=some (ts,f,odd,a0,a1,a2,a3,a4,v0,v1,j,v3,v4,b,d,R)/\
  b.length<=ks.length+k/\d.length=b.length/\(∀y,y∈b->b5 ts (!odd) x.Key y/\bM y)/\(∀y,y∈d->b5 ts (!odd) x.aG y/\bM y)/\jL b/\fp f C/\cI b+cI d+32574360*f.length<=cI ks+cI a+2*(k*gg r)+32574360*C.length
 |0,C,ks,a,D,n,cL,af,m,al,l=>⟨ks,a,C,by rw[qq,bt],by omega,n,m,al,l,fp.refl _,by omega⟩
 |k+1,C,ks,a,D,n,cL,af,m,al,l=>by
  have F:decide ((0:Int)<((k+1:Nat):Int))=true:=by rw[dp];omega
  have e:de .i64 ((k+1:Nat):Int) 1=(k:Int):=by rw[hI];omega
  obtain⟨w,s,J,W,K,i,X⟩:=bH C cL af;have U:=i.1;obtain⟨z,t,c9,L,M,o,fl⟩:=dR s (cL.dG i) (by omega);have V:=o.1;obtain⟨H,G,p,N,O,P,Q,q,S⟩:=acL (v:=⟨v0,v1,j,v3,v4,ks,a,R⟩) (key:=w) (item:=z) (by show ks.length<1000;omega) n (λy g=>vG (m y g).2) (vG K) l;simp only at p O Q q S;rw[qq,ad F,J];simp only[aT,ao,I.aU];rw[c9];simp only[ao,I.aU];rw[p];simp only[ao];rw[e]
  obtain⟨b,d,f,b1,b2,b3,b4,u,A,B,T⟩:=Ox E bH dR a0 a1 a2 a3 a4 v0 v1 j v3 v4 R k t H G (by omega) N ((cL.dG i).dG o) (by omega) (λy g=>by
   grind) (λy g=>by
   rcases q y g with h|h
   . exact al y h
   . subst h;exact⟨L,M⟩) P
  refine⟨b,d,f,b1,by omega,b3,b4,u,A,B.trans (o.trans i),?_⟩;grind
theorem tn(hs:v.bn.length<=1000)(d:∀x,x∈v.aw->bM x)(c:∀x,x∈v.ai->bM x)(h1:v.aw.length<=1000)(g:v.ai.length<=1000)(i:v.Rest.length<=1000)(b:∀x,x∈v.Rest->x.Data.length<=1000/\cw x.ae)(c9:cw v.Kind)(e:cw v.bc)(f:cw v.ae):bM v:=
 .mk v (by unfold reachBytes;omega) (by unfold reachBytes;omega) (by unfold reachBytes;omega) (by unfold reachBytes;omega) d c (λx a=>by have:=(b x a).1;unfold reachBytes;omega) c9 e f (λx a=>(b x a).2)
theorem s9{n:Int}(h:cr n):cw n:=by unfold cr at h;unfold cw;omega
def AY(ts:List ah)(odd:Bool)(c r:Nat):Prop:=∀t:Nat,t<ts.length->kj ts t<=r->∀C,gK C->C.length<=c->ma ts odd C r (t:Int)
theorem HR(H:dj ts){t:Nat}(ht:t<ts.length:=by omega):kj ts t<=5:=by
 unfold kj;have:=H.fl;grind
theorem ma.up{C:aq}{r:Nat}(h:ma ts odd C r t)(o:r<=a):ma ts odd C a t:=by
 obtain⟨v,c,h1,e,f,j,ba⟩:=h;exact⟨v,c,h1,e,f,j,by have:=Ej o;omega⟩
theorem abU(H:dj ts){r:Nat}(bJ:c<=60)(bc:∀aV,aV<c->AY ts odd aV 5)(be:∀G,G<r->AY ts odd c G):AY ts odd c r:=by
 intro t ht bQ C cL af;have X:=bk ht aN;have bE:=H.V.F _ X;have c7:=H.T _ X;have bO:=H.M _ X;obtain⟨aF,aI,aW⟩:=H.cy _ X;have bp:=H.R t ht;have bo:=H.L _ X;have au:=H.V.U _ X;have bl:=H.D _ X;have dh:=H.W _ X;have bv:kj ts t=if 7<=(ts.getD t aN).Kind then 0 else t+1:=rfl
 unfold ma;rw[jF,ad (aQ ht)];simp only[aT,ao,bd];have Q:=λv=>eU (ts:=ts) (!odd) (t:Int) v;simp only[bd]at Q;generalize bW:ts.getD t aN=x at*;have bF:=Ei r;have E:(0:Int)<=t/\(t:Int)<ts.length:=by omega
 have ab:∀(v:I) (z:aq),v.aw=[]->v.ai=[]->v.Rest=[]->v.bn.length<=3->fp z C->wt v+32574360*z.length<=gg r+32574360*C.length:=λv z a b c d e=>by rw[MX a b c];have:=e.1;omega
 have below:∀l:aq,l.length+1=C.length->∀u:Int,0<=u->u<ts.length->∀p,gK p->p.length<=l.length->ma ts odd p 5 u:=λl h1 u bU bV p N O=>by
  obtain⟨k,rfl⟩:∃k:Nat,u=(k:Int):=⟨u.toNat,by omega⟩
  exact bc l.length (by omega) k (by omega) (HR H) p N O
 have a':x.Kind=5\/x.Kind=6->1<=r/\∀m,m∈x.ag->∀p,gK p->p.length<=c->ma ts odd p (r-1) m.av:=λbK=>by
  have bR:kj ts t=t+1:=by rw[bv,bq]
  refine⟨by omega,λm P p N O=>?_⟩;obtain⟨a,b,bi⟩:=bp m P;obtain⟨k,bu⟩:∃k:Nat,m.av=(k:Int):=⟨m.av.toNat,by omega⟩
  rw[bu]at bi⊢;refine be (r-1) (by omega) k (by omega) ?_ p N O;have:kj ts k<=t:=by
   unfold kj;grind
  omega
 have aR:x.bg.length<9223372036854775807:=dz (il c7.syms);have aL:x.ag.length<9223372036854775807:=dz (il c7.gT);unfold gh at bE;rcases bE with⟨k,_⟩|⟨k,f1,f2,_⟩|⟨k,f1,f2,f3,f4,_⟩|⟨k,f1,f2,f3,f4,f5,_⟩|⟨k,f1,f2,f3,f4,f5,f6,_⟩|⟨k,f1,f2,f3,f4,f5,f6,_⟩|⟨k,f1,f2,f3,f4,_⟩|⟨k,f1,f2,f3,f4,_⟩|⟨k,_⟩
 . obtain⟨q,l,c9,Z,aa,g,fl⟩:=k9 (ts:=ts) (n:=2) ⟨by omega,by omega⟩ cL (by omega) odd;rw[ad (by simp[k]),c9];refine⟨_,l,rfl,?_,pC rfl rfl rfl (by simp) (by simp[cw,k]) (by simp[cw]) (by simp[cw]),g,ab _ _ rfl rfl rfl (by simp) g⟩;grind
 . obtain⟨q,l,c9,Z,aa,g,fl⟩:=k9 (ts:=ts) (n:=256) ⟨by omega,by omega⟩ cL (by omega) odd;have bH:=bo k;have aK:aM .i64 (de .i64 x.bC x.bA) 1=x.bC-x.bA+1:=by rw[hI,j']
   have bX:0<=q%(x.bC-x.bA+1):=lZ _ (by omega);have bY:q%(x.bC-x.bA+1)<x.bC-x.bA+1:=lV _ (by omega);rw[ak (by simp[k]),ad (by simp[k]),c9];simp only[ao];rw[aK,ad (tL (by omega)),hg Z,j'];refine⟨_,l,rfl,?_,pC rfl rfl rfl (by simp) (by simp[cw,k]) (by simp only[cw];omega) (by simp[cw]),g,ab _ _ rfl rfl rfl (by simp) g⟩;grind
 . obtain⟨s,l,c9,Z,aa,g⟩:=abT (ts:=ts) (most:=x.Max) ⟨f4.1,by omega⟩ cL (by omega) odd;rw[ak (by simp[k]),ak (by simp[k]),ad (by simp[k]),c9];refine⟨_,l,rfl,?_,pC rfl rfl rfl (by show s.length<=1000;omega) (by simp[cw,k]) (by simp[cw]) (by simp[cw]),g,ab _ _ rfl rfl rfl aa g⟩;grind
 . have bT:=f5.1;have bS:=f5.2.2.2.2;have a6:=f5.2.1.2;obtain⟨q,l,c9,Z,aa,g,fl⟩:=k9 (ts:=ts) (n:=(x.bg.length:Int)) ⟨by omega,by omega⟩ cL (by omega) odd;obtain⟨j,rfl⟩:∃j:Nat,q=(j:Int):=⟨q.toNat,by omega⟩
   have am:=g.1;have J:j<x.bg.length:=(by omega);have f:=bk J dL;rw[ak (by simp[k]),ak (by simp[k]),ak (by simp[k]),ad (by simp[k]),c9];simp only[ao];rw[ad (aQ J)];simp only[bd];cases bz:x.Open with
   |false=>
    rw[bt,bt];refine⟨_,l,rfl,?_,pC rfl rfl rfl (by simp) (by simp[cw,k]) (by simp[cw]) (s9 (a6 _ f)),g,ab _ _ rfl rfl rfl (by simp) g⟩;grind
   |true=>
    obtain⟨o,p,ap,ba,A⟩:=HQ (ts:=ts) (cL.dG g) (by omega) odd;have ax:=A.1;rw[ad rfl,ap];simp only[ao,eo];cases o with
    |false=>
     rw[bt];refine⟨_,p,rfl,?_,pC rfl rfl rfl (by simp) (by simp[cw,k]) (by simp[cw]) (s9 (a6 _ f)),(A.trans g),ab _ _ rfl rfl rfl (by simp) (A.trans g)⟩;grind
    |true=>
     have aP:odd=true:=(by grind);obtain⟨n,aB,ar,aj,bb,K⟩:=He (ts:=ts) aL aR aF aI ((cL.dG g).dG A) (by omega) odd;rw[ad rfl,ar];refine⟨_,aB,rfl,?_,pC rfl rfl rfl (by simp) (by simp[cw,k]) (by simp[cw]) (s9 aj),K.trans (A.trans g),ab _ _ rfl rfl rfl (by simp) (K.trans (A.trans g))⟩;grind
 . obtain⟨bB,aO⟩:=a' (.inl k);obtain⟨acc,l,b1,b2,b3,b4,B,al⟩:=Ow (ts:=ts) (odd:=odd) (c:=c) (r:=r-1) (by omega) (x:=x) aW (λm P=>⟨aO m P,λaY=>⟨bl m P aY,c7.jb m P,dh m P aY⟩⟩) 0 false 0 [] 0 x.Kind false 0 [] 0 x.ag.length 0 C [] (by omega) cL af rfl (λj J=>by omega) (λy f=>by cases f);have bh:mE (0,ts,C,odd,0,false,0,[],0,x.Kind,x.Name,x.bA,x.bC,x.Max,x.bg,x.ag,x.Key,x.aG,x.Open,x.Kind,false,0,[],0,[])=_:=b1;have am:=B.1;have bG:gg r=12*gg (r-1)+20:=by
    obtain⟨G,rfl⟩:∃G,r=G+1:=⟨r-1,by omega⟩
    rfl
   have bN:x.ag.length*gg (r-1)<=12*gg (r-1):=eW _ aW;rw[gE]at al;have aZ:hr ts (!odd) x.ag acc:=ik.2 ⟨b2,b3⟩;rw[ak (by simp[k]),ak (by simp[k]),ak (by simp[k]),ak (by simp[k]),ad (by simp[k]),bh];simp only[ao];obtain⟨o,p,ap,ba,A⟩:=HQ (ts:=ts) (cL.dG B) (by omega) odd;have ax:=A.1;rw[ap];simp only[ao];cases o with
   |false=>
    rw[bt];refine⟨_,p,rfl,?_,tn (by simp) (λy f=>by cases f) b4 (by simp) (by show acc.length<=1000;omega) (by simp) (λy f=>by cases f) (by simp[cw,k]) (by simp[cw]) (by simp[cw]),A.trans B,?_⟩
    . exact(Q _).2 ⟨⟨E.1,E.2,rfl,λ_=>rfl⟩,.inr (.inr (.inr (.inr (.inl ⟨k,rfl,rfl,rfl,rfl,rfl,⟨.nil,λy f=>by cases f⟩,aZ⟩))))⟩
    . rw[fx];simp only[gE,h8,p0,tO];omega
   |true=>
    have aP:odd=true:=(by grind);obtain⟨n,aB,ar,aj,bb,K⟩:=He (ts:=ts) aL aR aF aI ((cL.dG B).dG A) (by omega) odd;have bw:=K.1;obtain⟨d,aC,d1,d2,d3⟩:=LK (ts:=ts) (n:=n) (((cL.dG B).dG A).dG K) (by omega) odd;have bx:=d3.1;rw[ad rfl,Di,ar];simp only[ao];rw[d1];simp only[ao];refine⟨_,aC,rfl,?_,tn (by simp) (λy f=>by cases f) b4 (by simp) (by show acc.length<=1000;omega) (by simp) (λy f=>?_) (by simp[cw,k]) (by simp[cw]) (by simp[cw]),d3.trans (K.trans (A.trans B)),?_⟩
    . refine(Q _).2 ⟨⟨E.1,E.2,rfl,λh=>by simp[aP]at h⟩,.inr (.inr (.inr (.inr (.inl ⟨k,rfl,rfl,rfl,rfl,rfl,⟨by simp,λy f=>?_⟩,aZ⟩))))⟩;grind
    . have:y=⟨n,d⟩:=(by simpa using f);subst this;exact⟨by show d.length<=1000;omega,s9 aj⟩
    . rw[fx];simp only[gE,h8,gz,p0,oj,tO];omega
 . obtain⟨bB,aO⟩:=a' (.inr k);have bI:0<x.ag.length:=by
    rcases f6.2.1 with h|h
    . cases h
    . exact h
   have bD:gg (r-1)+20<=gg r:=by
    obtain⟨G,rfl⟩:∃G,r=G+1:=⟨r-1,by omega⟩
    have:=Ei G;show gg G+20<=12*gg G+20;omega
   have bf:∀ aA,fp aA C->∃ v z,(Option.bind (iX ((x.ag.length:Int),ts,aA,odd)) λah=>if aH ah.1 x.ag.length then
    (jF ((x.ag.getD ah.1.toNat aE).av,ah.2.1,ah.2.2.1,ah.2.2.2)).bind λaz=>
     some ((⟨x.Kind,false,0,[],(x.ag.getD ah.1.toNat aE).ae,[],[az.1],[]⟩:I),az.2.1,az.2.2.1,az.2.2.2)
    else none)=some (v,ts,z,odd)/\b5 ts (!odd) (t:Int) v/\bM v/\fp z C/\wt v+32574360*z.length<=gg r+32574360*C.length:=by
    intro aA ay;have bL:=ay.1;obtain⟨q,l,c9,Z,aa,g,fl⟩:=k9 (ts:=ts) (n:=(x.ag.length:Int)) ⟨by omega,by omega⟩ (cL.dG ay) (by omega) odd;obtain⟨j,rfl⟩:∃j:Nat,q=(j:Int):=⟨q.toNat,by omega⟩
    have am:=g.1;have J:j<x.ag.length:=(by omega);have P:=bk J aE;obtain⟨w,p,aS,a7,a8,an,a9⟩:=aO _ P l ((cL.dG ay).dG g) (by omega);have ax:=an.1;rw[c9];simp only[ao];rw[ad (aQ J)];simp only[bd];rw[aS];simp only[ao];have bm:=f6.2.2.1.2 _ P;refine⟨_,p,rfl,?_,tn (by simp) (λy f=>by cases f) (λy f=>?_) (by simp) (by simp) (by simp) (λy f=>by cases f) (by simp[cw,k]) (by simp[cw]) (s9 bm),an.trans (g.trans ay),?_⟩
    . refine(Q _).2 ⟨⟨E.1,E.2,rfl,λ_=>rfl⟩,.inr (.inr (.inr (.inr (.inr (.inl ⟨k,rfl,rfl,rfl,rfl,?_⟩)))))⟩;have bs:cH x.ag (x.ag.getD j aE).ae=some (x.ag.getD j aE):=by
       unfold cH;rw[BS];refine⟨by simp,j,J,(dv J _).symm,λi aJ=>?_⟩;have bP:=ry.1 f6.2.2.1.1 i j (by omega) J aJ;rw[dv J];simp;omega
      simp only[bs];refine⟨by first|rfl|trivial,by first|rfl|trivial,?_⟩;rw[cX];intro y f;have:y=w:=(by simpa using f);subst this;exact a7
    . have:y=w:=(by simpa using f);subst this;exact a8
    . rw[fx];simp only[hf,gE,h8,p0,tO];omega
   rw[ak (by simp[k]),ak (by simp[k]),ak (by simp[k]),ak (by simp[k]),ak (by simp[k]),ad (by simp[k])];simp only[I.aU];cases bz:x.Open with
   |false=>
    rw[bt,bt];obtain⟨v,z,a1,a2,a3,a4,a5⟩:=bf C (fp.refl _);grind
   |true=>
    obtain⟨o,p,ap,ba,A⟩:=HQ (ts:=ts) cL (by omega) odd;have ax:=A.1;rw[ad rfl,ap];simp only[ao,eo];cases o with
    |false=>grind
    |true=>
     have aP:odd=true:=(by grind);obtain⟨n,aB,ar,aj,bb,K⟩:=He (ts:=ts) aL aR aF aI (cL.dG A) (by omega) odd;have bw:=K.1;obtain⟨d,aC,d1,d2,d3⟩:=LK (ts:=ts) (n:=n) ((cL.dG A).dG K) (by omega) odd;have bx:=d3.1;rw[ad rfl,ar];simp only[ao];rw[d1];simp only[ao];refine⟨_,aC,rfl,?_,tn (by simp) (λy f=>by cases f) (λy f=>by cases f) (by simp) (by simp) (by simp) (λy f=>?_) (by simp[cw,k]) (by simp[cw]) (s9 aj),d3.trans (K.trans A),?_⟩
     . grind
     . have:y=⟨n,d⟩:=(by simpa using f);subst this;exact⟨by show d.length<=1000;omega,s9 aj⟩
     . rw[fx];simp only[gE,h8,gz,p0,oj,tO];omega
 . have em:aM .i64 (je x.Max 3) 1=min x.Max 3+1:=by
    have:je x.Max 3=min x.Max 3:=rfl;rw[this,j']
   have S:0<=x.aG/\x.aG<ts.length:=au x.aG (by unfold e';simp[k]);obtain⟨q,l,c9,Z,aa,g,fl⟩:=k9 (ts:=ts) (n:=min x.Max 3+1) ⟨by omega,by omega⟩ cL (by omega) odd;obtain⟨j,rfl⟩:∃j:Nat,q=(j:Int):=⟨q.toNat,by omega⟩
   have am:=g.1;have loop:∃acc z,qp ((j:Int),ts,l,odd,0,false,0,[],0,x.Kind,x.Name,x.bA,x.bC,x.Max,x.bg,x.ag,x.Key,x.aG,x.Open,x.Kind,false,0,[],0,[])=some (ts,z,odd,0,false,0,[],0,x.Kind,false,0,[],0,acc)/\acc.length=j/\(∀y,y∈acc->b5 ts (!odd) x.aG y/\bM y)/\fp z C/\10+cI acc+32574360*z.length<=gg r+32574360*C.length:=by
    rcases fl with⟨h0,h1,bj⟩|h1
    . have:j=0:=(by omega);subst this;refine⟨[],l,by rw[qp,bt],rfl,λy f=>(by cases f),g,?_⟩;rw[gE];omega
    . obtain⟨acc,z,b1,b2,b3,b4,B⟩:=My (ts:=ts) (odd:=odd) (c:=l.length) (r:=5) (by omega) (x:=x) (λp N O=>below l h1 x.aG S.1 S.2 p N O) 0 false 0 [] 0 x.Kind false 0 [] 0 j l [] (by simp;omega) (cL.dG g) (by omega) (λy f=>by cases f);refine⟨acc,z,b1,by simpa using b2,b3,b4.trans g,?_⟩;rw[gE,wO]at B;omega
   obtain⟨acc,z,b1,b2,b3,b4,B⟩:=loop;rw[ak (by simp[k]),ak (by simp[k]),ak (by simp[k]),ak (by simp[k]),ak (by simp[k]),ak (by simp[k]),ad (by simp[k]),em,c9];simp only[ao];rw[b1];simp only[ao];refine⟨_,z,rfl,?_,tn (by simp) (λy f=>by cases f) (λy f=>(b3 y f).2) (by simp) (by show acc.length<=1000;omega) (by simp) (λy f=>by cases f) (by simp[cw,k]) (by simp[cw]) (by simp[cw]),b4,?_⟩
   . exact(Q _).2 ⟨⟨E.1,E.2,rfl,λ_=>rfl⟩,.inr (.inr (.inr (.inr (.inr (.inr (.inl ⟨k,rfl,rfl,rfl,rfl,rfl,rfl,by show(acc.length:Int)<=x.Max;omega,cX.2 λy f=>(b3 y f).1⟩))))))⟩
   . rw[fx];simp only[gE,h8,p0,tO];omega
 . have em:aM .i64 (je x.Max 3) 1=min x.Max 3+1:=by
    have:je x.Max 3=min x.Max 3:=rfl;rw[this,j']
   have S:0<=x.aG/\x.aG<ts.length:=au x.aG (by unfold e';simp[k]);have a0:0<=x.Key/\x.Key<ts.length:=au x.Key (by unfold e';simp[k]);obtain⟨q,l,c9,Z,aa,g,fl⟩:=k9 (ts:=ts) (n:=min x.Max 3+1) ⟨by omega,by omega⟩ cL (by omega) odd;obtain⟨j,rfl⟩:∃j:Nat,q=(j:Int):=⟨q.toNat,by omega⟩
   have am:=g.1;have aX:jL []:=λi aJ=>by simp at aJ
   have loop:∃ks Y z,qq ((j:Int),ts,l,odd,0,false,0,[],0,x.Kind,x.Name,x.bA,x.bC,x.Max,x.bg,x.ag,x.Key,x.aG,x.Open,x.Kind,false,0,[],0,[],[],[])=some (ts,z,odd,0,false,0,[],0,x.Kind,false,0,[],0,ks,Y,[])/\ks.length<=j/\Y.length=ks.length/\(∀y,y∈ks->b5 ts (!odd) x.Key y/\bM y)/\(∀y,y∈Y->b5 ts (!odd) x.aG y/\bM y)/\jL ks/\fp z C/\10+cI ks+cI Y+32574360*z.length<=gg r+32574360*C.length:=by
    rcases fl with⟨h0,h1,bj⟩|h1
    . have:j=0:=(by omega);subst this;refine⟨[],[],l,by rw[qq,bt],by simp,rfl,λy f=>(by cases f),λy f=>(by cases f),aX,g,?_⟩;rw[gE];omega
    . obtain⟨ks,Y,z,b1,b2,b3,b4,B,al,aD,aU⟩:=Ox (ts:=ts) (odd:=odd) (c:=l.length) (r:=5) (by omega) (x:=x) (λp N O=>below l h1 x.Key a0.1 a0.2 p N O) (λp N O=>below l h1 x.aG S.1 S.2 p N O) 0 false 0 [] 0 x.Kind false 0 [] 0 [] j l [] [] (by simp;omega) rfl (cL.dG g) (by omega) (λy f=>by cases f) (λy f=>by cases f) aX;refine⟨ks,Y,z,b1,by simpa using b2,b3,b4,B,al,aD.trans g,?_⟩;rw[gE,wO]at aU;omega
   obtain⟨ks,Y,z,b1,b2,b3,b4,B,al,aD,aU⟩:=loop;rw[ak (by simp[k]),ak (by simp[k]),ak (by simp[k]),ak (by simp[k]),ak (by simp[k]),ak (by simp[k]),ak (by simp[k]),ad (by simp[k]),em,c9];simp only[ao];rw[b1];simp only[ao];refine⟨_,z,rfl,?_,tn (by simp) (λy f=>(b4 y f).2) (λy f=>(B y f).2) (by show ks.length<=1000;omega) (by show Y.length<=1000;omega) (by simp) (λy f=>by cases f) (by simp[cw,k]) (by simp[cw]) (by simp[cw]),aD,?_⟩
   . exact(Q _).2 ⟨⟨E.1,E.2,rfl,λ_=>rfl⟩,.inr (.inr (.inr (.inr (.inr (.inr (.inr (.inl ⟨k,rfl,rfl,rfl,rfl,rfl,by show(ks.length:Int)<=x.Max;omega,b3,cX.2 λy f=>(b4 y f).1,cX.2 λy f=>(B y f).1,al⟩)))))))⟩
   . rw[fx];grind
 . have S:0<=x.aG/\x.aG<ts.length:=au x.aG (by unfold e';simp[k]);obtain⟨q,l,c9,Z,aa,g,fl⟩:=k9 (ts:=ts) (n:=2) ⟨by omega,by omega⟩ cL (by omega) odd;have am:=g.1;rw[ak (by simp[k]),ak (by simp[k]),ak (by simp[k]),ak (by simp[k]),ak (by simp[k]),ak (by simp[k]),ak (by simp[k]),ak (by simp[k]),c9];simp only[ao,I.aU];by_cases h1:q=1
   . have br:l.length+1=C.length:=(by omega);obtain⟨w,p,aS,a7,a8,an,a9⟩:=below l br x.aG S.1 S.2 l (cL.dG g) (by omega);have ax:=an.1;rw[wO]at a9;rw[ad (by simpa using h1),aS];simp only[ao];refine⟨_,p,rfl,?_,tn (by simp) (λy f=>by cases f) (λy f=>?_) (by simp) (by simp) (by simp) (λy f=>by cases f) (by simp[cw,k]) (by simp[cw]) (by simp[cw]),an.trans g,?_⟩
     . refine(Q _).2 ⟨⟨E.1,E.2,rfl,λ_=>rfl⟩,.inr (.inr (.inr (.inr (.inr (.inr (.inr (.inr ⟨k,rfl,rfl,rfl,rfl,rfl,rfl,by simp,cX.2 λy f=>?_⟩)))))))⟩;grind
     . grind
     . rw[fx];simp only[hf,gE,h8,p0,tO];omega
   . rw[ak (by simpa using h1)];refine⟨_,l,rfl,?_,pC rfl rfl rfl (by simp) (by simp[cw,k]) (by simp[cw]) (by simp[cw]),g,ab _ _ rfl rfl rfl (by simp) g⟩;exact(Q _).2 ⟨⟨E.1,E.2,rfl,λ_=>rfl⟩,.inr (.inr (.inr (.inr (.inr (.inr (.inr (.inr ⟨k,rfl,rfl,rfl,rfl,rfl,rfl,by simp,cX.2 λy f=>by cases f⟩)))))))⟩
theorem Oy(H:dj ts):∀(c:Nat),c<=60->∀r,AY ts odd c r:=by
 intro c;induction c using Nat.strongRecOn with
 |ind c d=>
  intro b r;induction r using Nat.strongRecOn with
  |ind r e=>exact abU H b (λa h=>d a h (by omega) 5) (λf h=>e f h)
theorem abV(H:dj ts)(ht:0<=t/\t<ts.length){C:aq}(cL:gK C)(af:C.length<=reachBytes):∃v,x5 ((⟨ts⟩:aR),t,C)=some v/\b5 ts true t v/\bM v/\wt v<=2147483648:=by
 obtain⟨j,rfl⟩:∃j:Nat,t=(j:Int):=⟨t.toNat,by omega⟩
 have m:=dz af;have g:je 60 (C.length:Int)=((min 60 C.length:Nat):Int):=Ix 60 C.length;have hs:gK (C.take (min 60 C.length)):=λc e=>cL c (p3 e);have f:(C.take (min 60 C.length)).length<=60:=by rw[oh];omega
 have i:dT 0 ((min 60 C.length:Nat):Int) C.length=true:=jK (a:=0) (by omega) (by omega);obtain⟨v,k,h1,b,d,l,ba⟩:=Oy H (odd:=false) 60 (by omega) 5 j (by omega) (HR H) _ hs f;rw[x5];simp only[aT,ao];rw[g,ad i,tF,h1];refine⟨v,by simp only[ao,I.aU],b,d,?_⟩;rw[wO]at ba;omega
theorem YK(H:dj ts)(ht:0<=t/\t<ts.length){C:aq}(cL:gK C)(af:C.length<=reachBytes):∃v,yC ((⟨ts⟩:aR),t,C)=some v/\b5 ts false t v/\bM v/\wt v<=2147483648:=by
 obtain⟨j,rfl⟩:∃j:Nat,t=(j:Int):=⟨t.toNat,by omega⟩
 have m:=dz af;have g:je 60 (C.length:Int)=((min 60 C.length:Nat):Int):=Ix 60 C.length;have hs:gK (C.take (min 60 C.length)):=λc e=>cL c (p3 e);have f:(C.take (min 60 C.length)).length<=60:=by rw[oh];omega
 have i:dT 0 ((min 60 C.length:Nat):Int) C.length=true:=jK (a:=0) (by omega) (by omega);obtain⟨v,k,h1,b,d,l,ba⟩:=Oy H (odd:=true) 60 (by omega) 5 j (by omega) (HR H) _ hs f;rw[yC];simp only[aT,ao];rw[g,ad i,tF,h1];refine⟨v,by simp only[ao,I.aU],b,d,?_⟩;rw[wO]at ba;omega
end
structure El (d:k2):Prop where
 s:ue d.S
 t:c8 d.T
 c:gK d.C
 l:d.C.length<=reachBytes
theorem agt{d:k2}(a:El d):(∃s t v w,pQ d=some (s,t,v,w,false))\/
 ∃ts t v w,pQ d=some (⟨ts⟩,t,v,w,true)/\dj ts/\(0<=t/\t<ts.length)/\(b5 ts true t v/\bM v/\wt v<=2147483648)/\(b5 ts false t w/\bM w/\wt w<=2147483648):=by
 rw[pQ];rcases Fy a.s with h|⟨l,h,H⟩
 . rw[h];exact .inl ⟨_,_,_,_,rfl⟩
 . right;have j:=H.c9;have k:=H.fl;have ht:=a.t;unfold c8 at ht;have b:0<=d.T%(l.length:Int):=lZ _ (by omega);have e:d.T%(l.length:Int)<l.length:=lV _ (by omega);obtain⟨v,v1,f⟩:=abV H ⟨b,e⟩ a.c a.l;obtain⟨w,g,i⟩:=YK H ⟨b,e⟩ a.c a.l;rw[h];simp only[aT,ao];rw[bt,ad (tL (by omega)),lf ⟨by omega,by omega⟩,hg ht.1,v1];simp only[ao];rw[g];exact⟨l,_,v,w,by simp only[ao,I.aU],H,⟨b,e⟩,f,i⟩
theorem LM(H:iQ ts)(a:bM v)(t:Int)(pl:Bool):df (j5 ((⟨ts⟩:aR),t,v,pl)) (b5 ts pl t v):=by
 obtain⟨r,h1,c⟩:=yO (by have:=H.n;omega) H.T H.K a t pl;obtain⟨q,d,b⟩:=Lf (by have:=H.n;omega) H.T H.K a t pl;rw[h1]at b;have:r=q:=lY b;subst this;exact⟨r,d,c⟩
theorem Gy(c7:∀t,t∈ts->eX t)(gQ:mZ ts)(d:bM v)(a:b5 ts false t v):sN ((⟨ts⟩:aR),t,v)=some 0:=by
 have H:=gQ.ic c7;obtain⟨v1,_⟩:=pz c7 gQ;obtain⟨⟨g,i,_⟩,_⟩:=(eU _ _ _).1 a;obtain⟨r,e,f⟩:=LM H d t false;have c:=f.2 a;subst c;have b:¬((bif decide (t<0)then true else decide (((⟨ts⟩:aR).Types.length:Int)<=t))=true):=by grind
 rw[sN,GV];simp only[Kt,I.aU];rw[v1];show((if(bif (t<0:Bool)then true else (((⟨ts⟩:aR).Types.length:Int)<=t:Bool)) then some (4:Int)else some 0)>>=_)=_;rw[ak b];show(tG ((⟨ts⟩:aR),t,v)>>=_)=_;rw[tG];simp only[I.aU];rw[e];rfl
theorem Lp(c7:∀t,t∈ts->eX t)(gQ:mZ ts)(f:bM v)(b:b5 ts false t v):sD ((⟨ts⟩:aR),t,v)=some 0:=by
 have a:=gQ.ic c7;obtain⟨⟨j,k,_⟩,_⟩:=(eU _ _ _).1 b;obtain⟨q,g,i⟩:=yO (by have:=a.n;omega) c7 a.K f t false;have e:=i.2 b;subst e;have c:¬t<0:=by omega
 have d:¬(ts.length:Int)<=t:=by omega
 rw[sD,(pz c7 gQ).2];simp only[aT,ao];rw[bt,ak (by simp[c,d]),Gl];simp only[I.aU];rw[g];rfl
theorem YL(c7:∀t,t∈ts->eX t)(gQ:mZ ts)(b:bM v)(a:b5 ts false t v):sN ((⟨ts⟩:aR),t,v)=some 0/\sD ((⟨ts⟩:aR),t,v)=some 0:=⟨Gy c7 gQ b a,Lp c7 gQ b a⟩
theorem LN{l:List Fd}(d:ka fk l=true)(aD:l.Pairwise (λa b=>a.id≠b.id)):(gS fk l).Pairwise (λa b=>a.id<b.id):=by
 have h1:=CH MP l;have c:(gS fk l).Pairwise (λa b=>a.id≠b.id):=(nA fk l).symm.pairwise aD (λ{a b} h=>λe=>h e.symm);refine(h1.and c).imp λ{a b} h=>?_;have:=h.1;have:=h.2;simp only[fk,yd]at*;omega
theorem Lq{l:List I}{r:List bY}(h:gM ms)(c:kc ms r):(ft ts ms l r).Pairwise (λa b=>a.id≠b.id):=by
 have:=zd (ts:=ts) (l:=l) h c;have key:∀q:List Fd,ka fk q=true->q.Pairwise (λa b=>a.id≠b.id):=by
  intro q;induction q with
  |nil=>intro _;exact .nil
  |cons a q ih=>
   intro h;simp only[ka,cd,cY,hP,fk,dp]at h;rw[jf];grind
 grind
def oN(f:Fd):cR:=⟨(f.id:Int),f.c,f.p⟩
theorem Lr:∀(l:List Fd) (last:Nat) (b:List cR),l.Pairwise (λa b=>a.id<b.id)->(∀f,f∈l->last<f.id/\f.id<=1000)->(l.flatMap Fd.text).length<=100000->b.length+l.length<=90000->
 fX ((last:Int),l.flatMap Fd.text,b)=some (.inr (b++l.map oN))
 |[],last,b,_,_,_,_=>by
  rw[fX,bt];simp
 |f::l,last,b,d,i,af,e=>by
  rw[jf]at d;obtain⟨h1,j⟩:=i f (.head _);rw[e7]at af⊢;have ht:f.text=fD f.id f.c f.p:=rfl;rw[ht]at af⊢;rw[X2 h1 j af (by simp at e;omega)];have k:(l.flatMap Fd.text).length<=100000:=by rw[c2]at af;omega
  rw[Lr l f.id _ d.2 (λg al=>⟨d.1 g al,(i g (.tail _ al)).2⟩) k (by simp at e⊢;omega)];simp[oN]
theorem YM{a:aj}{b:List aj}(h:(dB p++a).length<=100000)(j:b.length<=90000):hD (dB p++a,b)=hD (a,b++[p]):=by
 have g:p.length<=100000:=by simp only[dB,c2]at h;omega
 have e:dB p++a≠[]:=by
  intro d;have c:=ep List.length d;have:=qU p.length;simp only[dB,c2,h8]at c;omega
 rw[hD,ad (by simp only[p5,yd];exact e),lP,JC g];simp only[aT,ao];have f:¬((!(dP (some (p,a))).2.2)=true):=by simp[dP]
 have i:room 16 (b++[(dP (some (p,a))).1]).length=true:=cQ;rw[ak f,ad i];rfl
theorem LO:∀(l:List aj) (b:List aj),(l.flatMap dB).length<=100000->b.length+l.length<=90000->hD (l.flatMap dB,b)=some (.inr (b++l))
 |[],b,_,_=>by
  rw[hD,bt];simp
 |p::l,b,af,a=>by
  rw[e7]at af⊢;rw[YM af (by simp at a;omega),LO l _ (by rw[c2]at af;omega) (by simp at a⊢;omega)];simp
def l5:List aj->List aj->List aj
 |k::ks,v::vs=>k::v::l5 ks vs
 |_,_=>[]
theorem Hy:∀a b,gR a b=(l5 a b).flatMap dB
 |[],b=>by simp[gR,l5]
 |k::ks,[]=>by simp[gR,l5]
 |k::ks,v::vs=>by simp[gR,l5,Hy ks vs]
theorem Ls:∀a b:List aj,a.length=b.length->(l5 a b).length=a.length+b.length
 |[],[],_=>rfl
 |k::ks,v::vs,h=>by
  simp only[l5,iw];have:=Ls ks vs (by simpa using h);omega
theorem YN(p:aj):1<=(dB p).length:=by
 have:=qU p.length;unfold dB;rw[c2];omega
theorem JG:∀l:List aj,l.length<=(l.flatMap dB).length
 |[]=>by simp
 |p::l=>by
  have:=JG l;have:=YN p;grind
theorem abg(f:Fd):1<=f.text.length:=by
 have:=qU (2*f.id+(if f.c then 1 else 0));unfold Fd.text fD;rw[c2];omega
theorem JH:∀l:List Fd,l.length<=(l.flatMap Fd.text).length
 |[]=>by simp
 |p::l=>by
  have:=JH l;have:=abg p;grind
theorem Lt{f:Fd}:∀{l:List Fd},f∈l->f.p.length<=(l.flatMap Fd.text).length
 |g::l,h=>by
  rw[e7,c2];rcases fg.1 h with rfl|h
  . have:f.p.length<=f.text.length:=by unfold Fd.text fD dB;simp only[c2];omega
    omega
  . have:=Lt h;omega
theorem Mz{d:ek}(h:WF cO ⟨.slice (.nm vp),d.ec⟩):ue d:=by
 obtain⟨a,_,c⟩:=vX (t:= .nm vp) h;refine⟨a,λx p=>?_⟩;have e:=c x p;have b:∀{n:Int},WF cO ⟨.int .u8,n⟩->c8 n:=λ{n} h=>by
  cases h with
  |int k n h=>
   simp[Lit.wf,IntKind.min,IntKind.max,IntKind.bits,IntKind.signed]at h;unfold c8;omega
 have g:=e ⟨.int .u8,x.Kind⟩ (.head _);have i:=e ⟨.int .u8,x.A⟩ (.tail _ (.head _));have j:=e ⟨.int .u8,x.B⟩ (.tail _ (.tail _ (.head _)));have l:=e ⟨.int .u8,x.C⟩ (.tail _ (.tail _ (.tail _ (.head _))));have m:=e ⟨.slice (.nm Cc),x.c0⟩ (.tail _ (.tail _ (.tail _ (.tail _ (.head _)))));obtain⟨r,_,s⟩:=vX (t:= .nm Cc) m;refine⟨b g,b i,b j,b l,λq o=>?_,r⟩;have f:=s q o;exact⟨b (f ⟨.int .u8,q.ae⟩ (.head _)),b (f ⟨.int .u8,q.av⟩ (.tail _ (.head _))),b (f ⟨.int .u8,q.gY⟩ (.tail _ (.tail _ (.head _))))⟩
theorem abh{d:k2}(h:∀c,c∈cO.oP Vs d->WF cO c):El d:=by
 have e:=h ⟨.slice (.nm vp),d.S.ec⟩ (.head _);have f:=h ⟨.int .u8,d.T⟩ (.tail _ (.head _));have g:=h ⟨.slice (.int .u8),d.C⟩ (.tail _ (.tail _ (.head _)));obtain⟨a,_,c⟩:=vX (t:= .int .u8) g;have b:∀{n:Int},WF cO ⟨.int .u8,n⟩->c8 n:=λ{n} h=>by
  cases h with
  |int k n h=>
   simp[Lit.wf,IntKind.min,IntKind.max,IntKind.bits,IntKind.signed]at h;unfold c8;omega
 exact⟨Mz e,b f,λn aD=>b (c n aD ⟨.int .u8,n⟩ (.head _)),a⟩
def hL(n:Nat):aj->Nat
 |[]=>n
 |c::s=>hL (n*256+c.toNat) s
theorem QV:∀(s:aj) (n k:Nat),n<256^k->hL n s<256^(k+s.length)
 |[],n,k,h=>by simpa[hL]using h
 |c::s,n,k,h=>by
  have a:c.toNat<256:=UInt8.toNat_lt c;have h1:n*256+c.toNat<256^(k+1):=by rw[yr];omega
  have:=QV s _ (k+1) h1;simp only[hL,iw];grind
theorem agN{n:Nat}(h:n<72057594037927936):mO .u64 (n:Int) 8=((n*256:Nat):Int):=by
 unfold mO;have e:((2:Int)^min (8:Int).toNat IntKind.u64.bits)=256:=by decide
 rw[e];have:(n:Int)*256=((n*256:Nat):Int):=by push_cast;rfl
 rw[this];exact kS
theorem abW{b:Nat}(c:a<72057594037927936)(d:b<256):rE .u64 ((a*256:Nat):Int) (b:Int)=((a*256+b:Nat):Int):=by
 have e:(BitVec.ofInt 64 ((a*256:Nat):Int) ||| BitVec.ofInt 64 (b:Int)).toNat=a*256+b:=by
  rw[wu,wu,BitVec.toNat_or,wh,wh,wI,og (by omega),og (by omega)];have h:=Nat.shiftLeft_add_eq_or_of_lt (show b<2^8 by omega) a;rw[Nat.shiftLeft_eq]at h;exact h.symm
 show IntKind.u64.wrap (((BitVec.ofInt 64 ((a*256:Nat):Int) ||| BitVec.ofInt 64 (b:Int)).toNat:Nat):Int)=_;rw[e];exact kS
theorem acM:(256:Nat)^8=18446744073709551616:=by decide
theorem zO{s:aj}(hs:s.length<=8):∀(k i n:Nat),i+k=s.length->n<256^i->mm (s,(n:Int),(s.length:Int),(i:Int))=some ((hL n (s.drop i):Nat):Int)
 |0,i,n,c,aD=>by
  rw[mm,cl,ee (by omega:s.length<=i)];rfl
 |k+1,i,n,c,aD=>by
  have aB:i<s.length:=by omega
  have b:=y2 s i;have a:n<72057594037927936:=by
   have:(256:Nat)^i<=256^7:=wv (by omega) (by omega);omega
  rw[mm,bu,ad (aQ aB),agN a,qM,hx,abW a b,bD,zO hs k (i+1) _ (by omega) (by rw[yr];omega),eB aB 0];rfl
theorem IE{s:aj}(hs:s.length<=8):∀(k i n:Nat),i+k=s.length->n<256^i->oU (s,(n:Int),(i:Int))=some ((hL n (s.drop i):Nat):Int)
 |0,i,n,a,aD=>by
  rw[oU,cl,ee (by omega:s.length<=i)];rfl
 |k+1,i,n,a,aD=>by
  have aB:i<s.length:=by omega
  have c:=y2 s i;have d:n<72057594037927936:=by
   have:(256:Nat)^i<=256^7:=wv (by omega) (by omega);omega
  have aK:gw .u64 (n:Int) 256=((n*256:Nat):Int):=tK (b:=256) (by omega);rw[oU,bu,ad (aQ aB),aK,qM,hx,r0 (by omega),bD,IE hs k (i+1) _ (by omega) (by rw[yr];omega),eB aB 0];rfl
def hS(s:aj):Option Nat:=if s.head?=some 0\/8<s.length then none else some (hL 0 s)
theorem D8{s:aj}{n:Nat}(h:hS s=some n):n<18446744073709551616:=by
 unfold hS at h;split at h
 . cases h
 . rename_i aa;cases h;have:=QV s 0 0 (by simp);have a:(256:Nat)^(0+s.length)<=256^8:=wv (by omega) (by omega);omega
theorem DK{s:aj}(h:s≠[]):(fr s 0=0)↔s.head?=some 0:=by
 cases s with
 |nil=>exact absurd rfl h
 |cons c s=>
  have:fr (c::s) 0=(c.toNat:Int):=qM (c::s) 0;rw[this];simp only[List.head?_cons,bF];constructor
  . intro h;exact UInt8.toNat_inj.1 (by simpa using h)
  simp_all
theorem abX(s:aj):∃r,sM s=some r/\(r.2=0->∃n,hS s=some n/\r.1=(n:Int))/\(r.2≠0->hS s=none):=by
 rw[sM];simp only[aT,ao];by_cases h0:s=[]
 . subst h0;have aK:mm ([],0,((([]:aj)).length:Int),0)=some ((hL 0 []:Nat):Int):=zO (s:=[]) (by simp) 0 0 0 rfl (by simp);refine⟨(((hL 0 []:Nat):Int),0),?_,λ_=>⟨0,rfl,rfl⟩,λh=>absurd rfl h⟩;grind
 . have e:0<s.length:=tS.2 h0;have d:aH 0 s.length=true:=aQ (k:=0) e;have c:(!(decide (s=[])))=true:=(by simp[h0]);rw[c,d];simp only[BR,bS,eo];by_cases a:fr s 0=0
   . rw[ad (by simp[a])];refine⟨_,rfl,λh=>(by cases h),λ_=>?_⟩;unfold hS;rw[ad (.inl ((DK h0).1 a))]
   . rw[ak (by simp[a])];by_cases b:8<s.length
     . rw[bu];refine⟨_,rfl,λh=>(by cases h),λ_=>?_⟩;unfold hS;rw[ad (.inr b)]
     . have aK:mm (s,0,(s.length:Int),0)=some ((hL 0 s:Nat):Int):=zO (by omega) s.length 0 0 (by omega) (by simp);rw[cl,aK];refine⟨_,rfl,λ_=>⟨hL 0 s,?_,rfl⟩,λh=>absurd rfl h⟩;unfold hS;rw[ak]
       rintro (h|h)
       . exact a ((DK h0).2 h)
       omega
theorem YO(s:aj):∃r,sM s=some r/\B8 s=some r/\(r.2=0->∃n,hS s=some n/\r.1=(n:Int))/\(r.2≠0->hS s=none):=by
 rw[sM,B8];simp only[aT,ao];by_cases h0:s=[]
 . subst h0;have aK:mm ([],0,((([]:aj)).length:Int),0)=some ((hL 0 []:Nat):Int):=zO (s:=[]) (by simp) 0 0 0 rfl (by simp);have c:oU ([],0,0)=some ((hL 0 []:Nat):Int):=IE (s:=[]) (by simp) 0 0 0 rfl (by simp);refine⟨(((hL 0 []:Nat):Int),0),?_,?_,λ_=>⟨0,rfl,rfl⟩,λh=>absurd rfl h⟩
   . grind
   grind
 . have i:0<s.length:=tS.2 h0;have g:aH 0 s.length=true:=aQ (k:=0) i;have e:decide ((0:Int)<(s.length:Int))=true:=by simp;omega
   have f:(!(decide (s=[])))=true:=(by simp[h0]);rw[e,f,g];simp only[BR,bS,eo];by_cases b:fr s 0=0
   . have a:decide (fr s 0=0)=true:=(by simp[b]);rw[ad a,ad a];refine⟨_,rfl,rfl,λh=>(by cases h),λ_=>?_⟩;unfold hS;rw[ad (.inl ((DK h0).1 b))]
   . have a:¬(decide (fr s 0=0)=true):=(by simp[b]);rw[ak a,ak a];by_cases d:8<s.length
     . have:decide ((8:Int)<(s.length:Int))=true:=by simp;omega
       rw[ad this,ad this];refine⟨_,rfl,rfl,λh=>(by cases h),λ_=>?_⟩;unfold hS;rw[ad (.inr d)]
     . have:¬(decide ((8:Int)<(s.length:Int))=true):=by simp;omega
       rw[ak this,ak this];have aK:mm (s,0,(s.length:Int),0)=some ((hL 0 s:Nat):Int):=zO (by omega) s.length 0 0 (by omega) (by simp);have c:oU (s,0,0)=some ((hL 0 s:Nat):Int):=IE (by omega) s.length 0 0 (by omega) (by simp);rw[aK,c];refine⟨_,rfl,rfl,λ_=>⟨hL 0 s,?_,rfl⟩,λh=>absurd rfl h⟩;unfold hS;rw[ak]
       rintro (h|h)
       . exact b ((DK h0).2 h)
       omega
def jk(n:Nat):Int:=if n%2=0 then((n/2:Nat):Int)else -((n/2:Nat):Int)-1
theorem abY{n:Int}(h:cw n):jk (gf n).toNat=n:=by
 unfold jk gf cw at*;omega
theorem acN{n:Nat}(h:n<18446744073709551616):B5 (n:Int)=some (jk n):=by
 rw[B5];have aK:b' (n:Int) 2=((n%2:Nat):Int):=An (b:=2);have a:fv .u64 (n:Int) 2=((n/2:Nat):Int):=tU h;rw[aK,a,jC];unfold jk;by_cases h0:n%2=0
 . grind
 . have dm:de .i64 0 ((n/2:Nat):Int)= -((n/2:Nat):Int):=by rw[hI];omega
   rw[cl,ak h0,dm,hI]
theorem adV{n:Nat}(h:n<18446744073709551616):A3 .u64 (n:Int) 1=((n%2:Nat):Int):=by
 have e:(BitVec.ofInt 64 (n:Int) &&& BitVec.ofInt 64 (1:Int)).toNat=n%2:=by grind
 show IntKind.u64.wrap (((BitVec.ofInt 64 (n:Int) &&& BitVec.ofInt 64 (1:Int)).toNat:Nat):Int)=_;rw[e];exact kS
theorem agO{n:Nat}:lr .u64 (n:Int) 1=((n/2:Nat):Int):=by
 unfold lr;have:((2:Int)^min (1:Int).toNat IntKind.u64.bits)=2:=by decide
 grind
theorem aa5(h:a<9223372036854775808):uc .i64 (a:Int) 0=(a:Int):=by
 have e:(BitVec.ofInt 64 (a:Int) ^^^ BitVec.ofInt 64 (0:Int)).toNat=a:=by grind
 show IntKind.i64.wrap (((BitVec.ofInt 64 (a:Int) ^^^ BitVec.ofInt 64 (0:Int)).toNat:Nat):Int)=_;rw[e,IntKind.wrap_i64];omega
theorem aa6(h:a<9223372036854775808):uc .i64 (a:Int) (-1)= -(a:Int)-1:=by
 have e:(BitVec.ofInt 64 (a:Int) ^^^ BitVec.ofInt 64 (-1:Int)).toNat=18446744073709551615-a:=by
  have h1:BitVec.ofInt 64 (-1:Int)=BitVec.allOnes 64:=by decide
  rw[h1,wu,BitVec.xor_allOnes,BitVec.toNat_not,wh,wI,og (by omega)]
 all_goals (try omega)
 show IntKind.i64.wrap (((BitVec.ofInt 64 (a:Int) ^^^ BitVec.ofInt 64 (-1:Int)).toNat:Nat):Int)=_;rw[e,IntKind.wrap_i64];omega
theorem acO{n:Nat}(h:n<18446744073709551616):Cl (n:Int)=some (jk n):=by
 rw[Cl,agO,adV h,jC,jC,hI];unfold jk;by_cases h0:n%2=0
 . rw[ad h0,h0];have:(0:Int)-((0:Nat):Int)=0:=rfl;rw[this,aa5 (by omega)]
 . have h1:n%2=1:=(by omega);rw[ak h0,h1];have:(0:Int)-((1:Nat):Int)= -1:=rfl;rw[this,aa6 (by omega)]
def iN(p:aj):Option (List aj):=match k6 p with
 |some (l,e)=>if e=0 then some l else none
 |none=>none
def jl(p:aj):Option (List cR):=match lG p with
 |some (l,e)=>if e=0 then some l else none
 |none=>none
def jV(p:aj):Option (Int×aj):=match lL p with
 |some (id,q,e)=>if e=0 then some (id,q)else none
 |none=>none
theorem Lu:∀(n:Nat) (s:aj) (b l:List aj),s.length<=n->s.length+b.length<=100000->hD (s,b)=some (.inr l)->∀q,q∈l->q∈b\/q.length<=s.length
 |n,s,b,l,aD,g,h=>by
  rw[hD]at h;by_cases h0:s=[]
  . grind
  . rw[ad (by simp[h0]),lP]at h;simp only[aT,ao]at h;cases a:iB s with
    |none=>
     rw[a]at h;simp[dP]at h
    |some r=>
     obtain⟨x,c⟩:=r;rw[a]at h;have af:=nB a;have d:¬((!(dP (some (x,c))).2.2)=true):=(by simp[dP]);have f:room 16 (b++[(dP (some (x,c))).1]).length=true:=cQ;rw[ak d,ad f]at h;intro q e
     match n,aD with
     |0,aD=>omega
     |n+1,aD=>
      have:=Lu n c _ l (by omega) (by simp;omega) h q e;rcases this with h|h
      . rcases f'.1 h with h|h
        . exact .inl h
        . right;have:q=x:=(by simpa[dP]using h);grind
      omega
theorem KD:∀(n:Nat) (s:aj) (last:Nat) (b l:List cR),s.length<=n->s.length+b.length<=100000->fX ((last:Int),s,b)=some (.inr l)->
 ∃c,l=b++c/\(∀f,f∈c->f.Data.length<=s.length/\(last:Int)<f.ae/\f.ae<=1000)/\c.Pairwise (λa b=>a.ae<b.ae)
 |n,s,last,b,l,aD,v,h=>by
  rw[fX]at h;by_cases h0:s=[]
  . simp_all
  . rw[ad (by simp[h0])]at h;rcases lv s with⟨e,he,al⟩|⟨m,k,al,y,j,o⟩
    . rw[nF he al]at h;simp at h
    . rw[lO al j]at h;simp only[aT,ao,tU o]at h;by_cases w:((m/2:Nat):Int)<=(last:Int)\/1000<((m/2:Nat):Int)
      . grind
      . have:¬((bif bif (!true)then true else decide (((m/2:Nat):Int)<=(last:Int))then true else decide (1000<((m/2:Nat):Int)))=true):=(by grind);rw[ak this,lP (by rw[lW];omega)]at h;simp only[ao]at h;cases g:iB (s.drop k)with
        |none=>
         rw[g]at h;simp[dP]at h
        |some r=>
         obtain⟨x,d⟩:=r;rw[g]at h;have af:=nB g;rw[lW]at af;have p:¬((!(dP (some (x,d))).2.2)=true):=(by simp[dP]);have t:bW .i64 ((m/2:Nat):Int)=((m/2:Nat):Int):=jC;rw[ak p,t]at h;have q:room 32 (b++[(⟨((m/2:Nat):Int),decide (b' (m:Int) 2=1),(dP (some (x,d))).1⟩:cR)]).length=true:=cQ;rw[ad q]at h
         match n,aD with
         |0,aD=>omega
         |n+1,aD=>
          obtain⟨c,e,h1,u⟩:=KD n d (m/2) _ l (by omega) (by simp;omega) h;refine⟨⟨((m/2:Nat):Int),decide (b' (m:Int) 2=1),(dP (some (x,d))).1⟩::c,by rw[e];simp,λf i=>?_,?_⟩
          . rcases fg.1 i with rfl|i
            . refine⟨by show x.length<=_;omega,by show(last:Int)<((m/2:Nat):Int);omega,by show((m/2:Nat):Int)<=1000;omega⟩
            grind
          grind
theorem zP(b:p.length<=90000):∃o,k6 p=some o/\(o.2=0->iN p=some o.1/\(∀q,q∈o.1->q.length<=p.length)/\o.1.length<=p.length)/\(o.2≠0->iN p=none):=by
 obtain⟨o,h1,a⟩:=abH b;refine⟨o,h1,λh0=>⟨?_,?_,a⟩,λh0=>?_⟩
 . unfold iN;rw[h1];grind
 . obtain⟨d,a1,_⟩:=Iy p.length p [] (by omega) (by simp;omega);rw[k6,a1]at h1;cases d with
   |inl e=>grind
   |inr l=>
    have:o=(l,0):=(lY h1).symm;subst this;intro q c;rcases Lu p.length p [] l (by omega) (by simp;omega) a1 q c with h|h
    . cases h
    . exact h
 . unfold iN;rw[h1];grind
theorem KE(a:p.length<=90000):∃o,k6 p=some o/\vt p=some o/\(o.2=0->iN p=some o.1/\(∀q,q∈o.1->q.length<=p.length)/\o.1.length<=p.length)/\(o.2≠0->iN p=none):=by
 obtain⟨o,h1,b⟩:=zP a;exact⟨o,h1,by rw[abI a,h1],b⟩
theorem Hz(k:p.length<=90000):∃o,lG p=some o/\(o.2=0->jl p=some o.1/\(∀f,f∈o.1->f.Data.length<=p.length/\cr f.ae)/\o.1.Pairwise (λa b=>a.ae<b.ae)/\o.1.length<=p.length)/\(o.2≠0->jl p=none):=by
 obtain⟨o,h1,i⟩:=aaP k;obtain⟨d,a1,_⟩:=JO p.length p 0 [] (by omega) (by simp;omega);have key:o.2=0->(∀f,f∈o.1->f.Data.length<=p.length/\cr f.ae)/\o.1.Pairwise (λa b=>a.ae<b.ae):=by
  intro h0;have c:=h1;have g:fX (0,p,[])=some d:=a1;rw[lG,g]at c;cases d with
  |inl e=>
   have:o=([],e):=(lY c).symm;simp_all
  |inr l=>
   have:o=(l,0):=(lY c).symm;subst this;obtain⟨m,e,b1,b2⟩:=KD p.length p 0 [] l (by omega) (by simp;omega) a1;have:l=m:=(by simpa using e);subst this;exact⟨λf j=>by have:=b1 f j;exact⟨this.1,by omega,this.2.2⟩,b2⟩
 refine⟨o,h1,λh0=>⟨?_,(key h0).1,(key h0).2,i⟩,λh0=>?_⟩
 . unfold jl;rw[h1];grind
 . unfold jl;rw[h1];grind
theorem X8(c:p.length<=90000):∃o,lG p=some o/\xU p=some o/\(o.2=0->jl p=some o.1/\(∀f,f∈o.1->f.Data.length<=p.length/\cr f.ae)/\o.1.Pairwise (λa b=>a.ae<b.ae)/\o.1.length<=p.length)/\(o.2≠0->jl p=none):=by
 obtain⟨o,h1,d⟩:=Hz c;exact⟨o,h1,by rw[aaQ c,h1],d⟩
theorem HS(p:aj):∃o,lL p=some o/\(o.2.2=0->jV p=some (o.1,o.2.1)/\o.2.1.length<=p.length/\cr o.1)/\(o.2.2≠0->jV p=none):=by
 obtain⟨o,h1⟩:=ac6 p;have key:o.2.2=0->o.2.1.length<=p.length/\cr o.1:=by
  intro h0;have a:=h1;rw[lL]at a;rcases lv p with⟨e,he,al⟩|⟨m,k,al,f,c,g⟩
  . rw[nF he al]at a;grind
  . rw[lO al c]at a;simp only[aT,ao]at a;by_cases d:(m:Int)<1\/1000<(m:Int)
    . grind
    . have b:¬((bif bif (!true)then true else decide ((m:Int)<1)then true else decide (1000<(m:Int)))=true):=(by grind);rw[ak b,jC]at a;have:o=((m:Int),p.drop k,0):=(lY a).symm;subst this;exact⟨by show(p.drop k).length<=_;rw[lW];omega,by omega,by show(m:Int)<=1000;omega⟩
 refine⟨o,h1,λh0=>⟨?_,(key h0).1,(key h0).2⟩,λh0=>?_⟩
 . unfold jV;rw[h1];grind
 . unfold jV;rw[h1];grind
theorem abi(p:aj):∃o,lL p=some o/\ya p=some o/\(o.2.2=0->jV p=some (o.1,o.2.1)/\o.2.1.length<=p.length/\cr o.1)/\(o.2.2≠0->jV p=none):=by
 obtain⟨o,h1,a⟩:=HS p;obtain⟨b,a1,a2⟩:=ac7 p;rw[h1]at a1;rw[<-lY a1]at a2;exact⟨o,h1,a2,a⟩
theorem MA:∀(s:aj) (n:Nat) (b:UInt8),hL n (s++[b])=hL n s*256+b.toNat
 |[],n,b=>by simp[hL]
 |a::s,n,b=>by
  simp only[rB,hL];exact MA s _ b
theorem abZ(n:Nat):hL 0 (gJ n)=n:=by
 induction n using Nat.strongRecOn with
 |ind n ih=>
  rw[gJ];split
  . rename_i h;subst h;rfl
  . rw[MA,ih (n/256) (by omega),k7];omega
theorem aa7:∀(n:Nat),¬(gJ n).head?=some 0:=by
 intro n;induction n using Nat.strongRecOn with
 |ind n ih=>
  rw[gJ];split
  . simp
  . rename_i h;have:=ih (n/256) (by omega);by_cases f:n<256
    . have:n/256=0:=(by omega);rw[this,gJ,ad rfl];simp only[fR,List.head?_cons,bF];intro d;have c:=ep UInt8.toNat d;rw[k7]at c;grind
    . have e:gJ (n/256)≠[]:=by rw[gJ,bq];simp
      cases b:gJ (n/256)with
      |nil=>exact absurd b e
      |cons a l=>rw[b]at this;simpa using this
theorem LP{n:Nat}(h:n<18446744073709551616):hS (gJ n)=some n:=by
 unfold hS;have h1:=aa7 n;have a:=vY 8 n (by rw[acM];exact h)
 rw [ak (by rintro (h|h)
            . exact h1 h
            . omega),abZ]
theorem ab0{a b:List bY}(c:a.Pairwise (λx y=>x.ae<y.ae))(d:b.Pairwise (λx y=>x.ae<y.ae))(h:∀x,x∈a↔x∈b):a=b:=by
 have g:a.Nodup:=c.imp λ{x y} h e=>by subst e;omega
 have i:b.Nodup:=d.imp λ{x y} h e=>by subst e;omega
 have f:a.Perm b:=(List.perm_ext_iff_of_nodup g i).2 h;exact List.Perm.eq_of_pairwise (le:=λx y:bY=>x.ae<y.ae) (λx y _ _ h1 j=>by omega) c d f
theorem abj{l m:List I}(af:l.length=m.length)(h:∀i,i<l.length->l.getD i au=m.getD i au):l=m:=by
 apply Fu af;grind
theorem X9(p:aj):p.length<=(dB p).length:=by unfold dB;rw[c2];omega
theorem CC:∀{l:List aj},p∈l->p.length<=(l.flatMap dB).length
 |q::l,h=>by
  rw[e7,c2];rcases fg.1 h with rfl|h
  . have:=X9 p;omega
  . have:=CC h;omega
theorem Hf{ts:List ah}:∀{ms:List aS} {l:List I} {x:Fd},x∈dH ts ms l->∃j,j<ms.length/\j<l.length/\dK (ms.getD j aE) (l.getD j au)=false/\x=⟨(ms.getD j aE).ae.toNat,(ms.getD j aE).cp,bG ts (ms.getD j aE).av (l.getD j au)⟩
 |[],l,x,h=>by
  rw[dH]at h
  . cases h
  grind
 |m::ms,[],x,h=>by
  rw[dH]at h
  . cases h
  grind
 |m::ms,v::l,x,h=>by
  rw[dH]at h;split at h
  . obtain⟨j,h1,a,b,c⟩:=Hf h;exact⟨j+1,by simpa using h1,by simpa using a,by simpa using b,by simpa using c⟩
  . rename_i d;rcases fg.1 h with rfl|h
    . exact⟨0,by simp,by simp,by simpa using d,rfl⟩
    . obtain⟨j,h1,a,b,c⟩:=Hf h;exact⟨j+1,by simpa using h1,by simpa using a,by simpa using b,by simpa using c⟩
theorem qV(h:gM ms){a b:aS}(c:a∈ms)(d:b∈ms)(e:a.ae=b.ae):a=b:=by
 obtain⟨i,f,rfl⟩:=eZ c;obtain⟨j,g,rfl⟩:=eZ d;have key:=ry.1 h.1;grind
theorem kI{m:aS}(h:cH ms id=some m):m∈ms/\m.ae=id:=
 ⟨E' h,by simpa using List.find?_some h⟩
theorem LQ(c:gM ms){m:aS}(h:m∈ms):cH ms m.ae=some m:=by
 cases a:cH ms m.ae with
 |none=>exact absurd rfl (nz a m h)
 |some q=>
  obtain⟨h1,b⟩:=kI a;rw[qV c h1 h b]
theorem yX{ts:List ah}{t:Int}:∀{l:List I} {x:I},x∈l->et ts t x<=eJ ts t l
 |v::l,x,h=>by
  rw[eJ];rcases fg.1 h with rfl|h
  . omega
  . have:=yX (ts:=ts) (t:=t) h;omega
theorem Lv{ts:List ah}:∀{ms:List aS} {l:List I} {j:Nat},j<ms.length->j<l.length->dK (ms.getD j aE) (l.getD j au)=false->et ts (ms.getD j aE).av (l.getD j au)<=gX ts ms l
 |m::ms,v::l,0,_,_,a=>by
  simp only[kf]at a⊢;rw[gX,ak (by rw[a];simp)];omega
 |m::ms,v::l,j+1,h1,b,a=>by
  simp only[yf]at a⊢;have:=Lv (ts:=ts) (by simpa using h1) (by simpa using b) a;rw[gX];grind
theorem MB{l:List aj}(h:(l.flatMap dB).length<=90000):iN (l.flatMap dB)=some l:=by
 have af:=JG l;have:=LO l [] (by omega) (by simp;omega);unfold iN;rw[k6,this];rfl
theorem abk{l:List Fd}(e:l.Pairwise (λa b=>a.id<b.id))(c:∀f,f∈l->1<=f.id/\f.id<=1000)(h:(l.flatMap Fd.text).length<=90000):jl (l.flatMap Fd.text)=some (l.map oN):=by
 have af:=JH l;have bE:=Lr l 0 [] e (λf h=>⟨by have:=c f h;omega,(c f h).2⟩) (by omega) (by simp;omega);have d:fX (0,l.flatMap Fd.text,[])=some (.inr (l.map oN)):=by simpa using bE
 unfold jl;rw[lG,d];rfl
theorem Oz{n:Nat}(h:1<=n/\n<=1000)(c:aj):jV (eE n++c)=some ((n:Int),c):=by
 unfold jV;have d:=lO (H0 (n:=n) (by omega) c) (by simp);rw[lL,d];simp only[aT,ao];have a:¬(n:Int)<1:=by omega
 have b:¬(1000:Int)<(n:Int):=by omega
 rw[ak (by simp only[a,b,di,dd,dS,bU,not_false_eq_true]),jC];simp
theorem KF{l:List I}{i:Nat}(h:i<l.length):(b7 ts t l).getD i []=bG ts t (l.getD i au):=by
 rw[DJ,h3 (bG ts t) l i au [] h]
theorem HT{b n r:Nat}(h:a=1+max n b)(e:a<=r+1)(d:c<=b):c<=r:=by omega
theorem adi{b r:Nat}(h:a=1+max 1 b)(e:a<=r+1)(d:c=1):c<=r:=by omega
def rW(ts:List ah)(t:Int)(v:I):Prop:=b5 ts false t v/\bM v/\wt v<=2147483648
theorem LR{a:I}(h:bM a)(b:I):eT (x2 (a,b)) a b:=by
 obtain⟨r,h1,c⟩:=Dt h b;refine⟨r,?_,c⟩;rw[x2];simp only[I.aU];rw[h1];rfl
theorem LS{a:I}(h:bM a)(b:I):eT (nx (a,b)) a b:=Kl h b
mutual
def dw:I->I
 |⟨k,b,i,s,id,ks,a,r⟩=>⟨k,b,i,s,id,ks,AK a,if k=5 then[]else r⟩
def AK:List I->List I
 |[]=>[]
 |v::l=>dw v::AK l
end
theorem IY:∀l:List I,AK l=l.map dw
 |[]=>by rw[AK];rfl
 |v::l=>by rw[AK,IY l];rfl
theorem pA(v:I):dw v=⟨v.Kind,v.bL,v.bc,v.bn,v.ae,v.aw,v.ai.map dw,if v.Kind=5 then[]else v.Rest⟩:=by
 cases v;rw[dw,IY]
theorem MC{l:List bY}(h:l.Pairwise λa b=>a.ae<b.ae)(n:Nat)(h1:∀x,x∈l->1<=x.ae/\x.ae<=n):l.length<=n:=by
 have key:∀(l:List bY) (m:Int),l.Pairwise (λa b=>a.ae<b.ae)->(∀x,x∈l->m<x.ae/\x.ae<=n)->m<=n->(l.length:Int)<=n-m:=by
  intro l;induction l with
  |nil=>intro m _ _ h;simp;omega
  |cons x l ih=>
   intro m e d aD;have c:=d x (.head _);have:=ih x.ae (jf.1 e).2 (λy f=>⟨(jf.1 e).1 y f,(d y (.tail _ f)).2⟩) c.2;rw[iw];omega
 have:=key l 0 h (λx c=>⟨by have:=h1 x c;omega,(h1 x c).2⟩) (by omega);omega
section
variable {ts:List ah}
theorem abl(H:dj ts)(j:b5 ts pl t v):v.aw.length<=20/\v.ai.length<=20/\v.Rest.length<=1000:=by
 obtain⟨⟨l,m,n,o⟩,i⟩:=(eU _ _ _).1 j;have e:=bk (by omega:t.toNat<ts.length) aN;generalize q:ts.getD t.toNat aN=x at*;have p:=H.M x e;have g:=H.cy x e;rcases i with h|h|h|h|h|h|h|h|h
 . obtain⟨a1,a2,a3,a4,a5,a,b⟩:=h;rw[a5,a,b];simp
 . obtain⟨a1,a2,a3,a4,a5,a,b,c⟩:=h;rw[a5,a,b];simp
 . obtain⟨a1,a2,a3,a4,a5,a,b,c⟩:=h;rw[a5,a,b];simp
 . obtain⟨a1,a2,a3,a4,a5,a,b,c⟩:=h;rw[a5,a,b];simp
 . obtain⟨a1,a2,a3,a4,a5,a,b,c⟩:=h;have:=(ik.1 c).1;refine⟨by rw[a];simp,by have:=g.2.2;omega,MC b.1 1000 λy k=>?_⟩;have:=(b.2 y k).1;unfold cr at this;omega
 . obtain⟨a1,a2,a3,a4,a5,a⟩:=h;split at a
   . obtain⟨b1,b2,b3⟩:=a;rw[a5,b1,b2];simp
   . obtain⟨b1,b2,b3,b4,d,f⟩:=a;rw[a5,b4,f];simp
 . obtain⟨a1,a2,a3,a4,a5,a,b,c,a9⟩:=h;rw[a,b];simp;omega
 . obtain⟨a1,a2,a3,a4,a5,a,b,c,a9⟩:=h;rw[a];simp;omega
 . obtain⟨a1,a2,a3,a4,a5,a,b,c,a9⟩:=h;rw[a,b];simp;omega
structure En (ts:List ah):Prop where
 T:∀t,t∈ts->eX t
 V:mZ ts
theorem dj.g(H:dj ts):En ts:=⟨H.T,H.V⟩
inductive mW:I->Prop
 |mk (v:I) (k:v.aw.length<=1000) (i:v.ai.length<=1000) (Bx:∀x,x∈v.ai->mW x):mW v
theorem mW.items(h:mW v):∀x,x∈v.ai->mW x:=by
 cases h with
 |mk _ _ _ h=>exact h
theorem MD(f:mW v)(j:b5 ts pl t v):v.aw.length<=1000/\v.ai.length<=1000/\v.Rest.length<=1000:=by
 have⟨k,i⟩:v.aw.length<=1000/\v.ai.length<=1000:=by cases f with|mk _ k i _=>exact⟨k,i⟩
 refine⟨k,i,?_⟩;obtain⟨_,g⟩:=(eU _ _ _).1 j;rcases g with h|h|h|h|h|h|h|h|h
 . rw[h.2.2.2.2.2.2];simp
 . rw[h.2.2.2.2.2.2.1];simp
 . rw[h.2.2.2.2.2.2.1];simp
 . rw[h.2.2.2.2.2.2.1];simp
 . obtain⟨a1,a2,a3,a4,a5,a,b,c⟩:=h;refine MC b.1 1000 λy l=>?_;have:=(b.2 y l).1;unfold cr at this;omega
 . obtain⟨a1,a2,a3,a4,a5,a⟩:=h;split at a
   . obtain⟨b1,b2,b3⟩:=a;rw[b1];simp
   . obtain⟨b1,b2,b3,b4,d,e⟩:=a;rw[e];simp
 . rw[h.2.2.2.2.2.2.1];simp
 . obtain⟨a1,a2,a3,a4,a5,a,b,c,a9⟩:=h;rw[a];simp
 . rw[h.2.2.2.2.2.2.1];simp
def gV(x:ah)(v:I)(i:Nat):Int:=if x.Kind=5 then(x.ag.getD i aE).av else if x.Kind=6 then((cH x.ag v.ae).getD aE).av else x.aG
def p'(x:ah)(v:I)(i:Nat):Int:=if x.Kind=5 then(x.ag.getD i aE).ae else if x.Kind=6 then v.ae else i
theorem Dj(j:b5 ts pl t v):∀i,i<v.ai.length->b5 ts pl (gV (ts.getD t.toNat aN) v i) (v.ai.getD i au):=by
 obtain⟨⟨n,o,p,q⟩,g⟩:=(eU _ _ _).1 j;generalize r:ts.getD t.toNat aN=x at*;intro i a;have d:=bk a au;unfold gV;rcases g with h|h|h|h|h|h|h|h|h
 . rw[h.2.2.2.2.2.1]at a;cases a
 . rw[h.2.2.2.2.2.1]at a;cases a
 . rw[h.2.2.2.2.2.1]at a;cases a
 . rw[h.2.2.2.2.2.1]at a;cases a
 . obtain⟨a1,a2,a3,a4,a5,b,e,c⟩:=h;rw[fu];obtain⟨b1,b2⟩:=ik.1 c;exact b2 i (by omega)
 . obtain⟨a1,a2,a3,a4,a5,b⟩:=h;rw[bq,fu];split at b
   . rename_i m k;rw[k];exact cX.1 b.2.2 _ d
   . rw[b.2.2.2.1]at a;cases a
 . obtain⟨a1,a2,a3,a4,a5,b,e,c,a9⟩:=h;rw[bq,bq];exact cX.1 a9 _ d
 . obtain⟨a1,a2,a3,a4,a5,b,e,c,a9,f,l⟩:=h;rw[bq,bq];exact cX.1 f _ d
 . obtain⟨a1,a2,a3,a4,a5,b,e,c,a9⟩:=h;rw[bq,bq];exact cX.1 a9 _ d
theorem abm(f:α->α)(l:List α){i:Nat}(a:i<l.length)(d:α):((l.take i).map f++l.drop i).set i (f (l.getD i d))=(l.take (i+1)).map f++l.drop (i+1):=by
 rw[dv a];have h1:((l.take i).map f).length=i:=by simp;omega
 rw[List.set_append_right _ _ (by omega),h1,BQ,lk a,List.set_cons_zero,Fp,p6,eH a,hq];rfl
theorem abn(f:α->α)(l:List α){i:Nat}(a:i<l.length)(d:α):((l.take i).map f++l.drop i).getD i d=l.getD i d:=by
 have h1:((l.take i).map f).length=i:=by simp;omega
 rw[E9,p2 (by omega),h1,BQ,lk a,dv a];rfl
theorem S0{l:List I}(af:l.length<=1000)(h:∀y,y∈l->o3 y=some (dw y)){a0 a2 a4 b0 b4:Int}{b1:Bool}{b3:aj}{r:List bY}:∀(k i:Nat),i+k=l.length->
 q0 ((i:Int),a0,a1,a2,a3,a4,r,b0,b1,b2,b3,b4,ks,(l.take i).map dw++l.drop i)=some (a0,a1,a2,a3,a4,r,b0,b1,b2,b3,b4,ks,l.map dw)
 |0,i,a=>by
  rw[q0,cl,ob (by omega),ee (by omega),lX]
 |k+1,i,a=>by
  have aB:i<l.length:=by omega
  have aD:((l.take i).map dw++l.drop i).length=l.length:=by simp;omega
  rw[q0,aD,bu,ad (aQ aB),bd,bu,abn dw l aB au];simp only[I.aU];rw[h _ (bk aB au)];simp only[aT,ao,I.aU];rw[ad (aQ aB),bu,abm dw l aB au,bD];exact S0 af h k (i+1) (by omega)
theorem adj(H:dj ts)(d:bM v):∀{pl:Bool} {t:Int},b5 ts pl t v->mW v:=by
 induction d with
 |mk v hs h1 f g k j l c9 p q r m e=>
  intro pl t a;obtain⟨n,l2,o⟩:=abl H a;exact .mk v (by omega) (by omega) λy c=>by
   obtain⟨i,b,rfl⟩:=eZ c;have:=Dj a i b;rw[dv b]at this;exact e _ c this
theorem aa8(f:bM v):∀t,mW v->b5 ts false t v->o3 v=some (dw v):=by
 induction f with
 |mk v hs h1 k m o n p c9 w x z q g=>
  intro t b c;obtain⟨s,l2,u⟩:=MD b c;have j:∀y,y∈v.ai->o3 y=some (dw y):=λy a=>by
   obtain⟨i,d,rfl⟩:=eZ a;have:=Dj c i d;rw[dv d]at this;exact g _ a _ (b.items _ a) this
  have e:Cb v=some (v.Kind,v.bL,v.bc,v.bn,v.ae,v.aw,v.ai,v.Rest):=by
   rw[Cb];simp only[fR];rw[ad (cQ (by omega) (by omega)),ad (cQ (by omega) (by omega)),ad (cQ (by omega) (by omega))]
  rw[o3];simp only[I.aU];rw[e,pA];simp only[aT,ao];have L:=λ(r:List bY)=>S0 (l:=v.ai) (by omega) j (a0:=v.Kind) (a1:=v.bL) (a2:=v.bc) (a3:=v.bn) (a4:=v.ae) (b0:=0) (b1:=false) (b2:=0) (b3:=[]) (b4:=0) (r:=r) (ks:=v.aw) v.ai.length 0 (by omega);have L':∀r:List bY,q0 (0,v.Kind,v.bL,v.bc,v.bn,v.ae,r,0,false,0,[],0,v.aw,v.ai)=_:=L;by_cases ba:v.Kind=5
  . rw[ad (by simp[ba]),L',ad ba];rfl
  . rw[ak (by simp[ba]),L',ak ba];rfl
def qf(x:ah)(v:I):Prop:=x.Kind=4->∃y,y∈x.bg/\y.ae=v.ae
theorem IZ(d:eX x)(v:I):∃b,mv (x,v)=some b/\(b=false↔qf x v):=by
 rw[mv];unfold qf;by_cases a:x.Kind=4
 . rw[ak (by simp[a])];obtain⟨r,g,_,k⟩:=qJ (t:=x) v.ae (by have:=d.1;have:=dz (ef reachBytes);omega);rw[g];refine⟨!r.2,rfl,?_⟩;rcases k with⟨j,e,f,n,rfl⟩|⟨q,rfl⟩
   . simp only[di,true_iff];exactλ_=>⟨_,bk e dL,f⟩
   . simp only[eN,Bool.true_eq_false,false_iff];intro h;obtain⟨y,l,m⟩:=h a;obtain⟨i,c,rfl⟩:=eZ l;exact absurd m (by have:=q i c;rwa [dv c]at this)
 . rw[ad (by simp[a])];exact⟨false,rfl,by simp[a]⟩
theorem aan(c7:∀t,t∈ts->eX t)(af:v.aw.length<=1000)(c:v.aw≠[]->0<=x.Key/\x.Key<ts.length):∃b,Cv ((⟨ts⟩:aR),x,v)=some b/\(b=false↔∀k,k∈v.aw->qf (ts.getD x.Key.toNat aN) k):=by
 have f:∀i,i<v.aw.length->∃b,mv (ts.getD x.Key.toNat aN,v.aw.getD i au)=some b/\(b=false↔qf (ts.getD x.Key.toNat aN) (v.aw.getD i au)):=λi a=>
  IZ (c7 _ (bk (by have:=c (by intro h;rw[h]at a;cases a);omega) aN)) _
 have o:∀i,i<v.aw.length->Da (v.aw.getD i au,ts,x)=(mv (ts.getD x.Key.toNat aN,v.aw.getD i au)).map λb=>(b,ts,x):=λi a=>by
  rw[Da];have q:=c (by intro h;rw[h]at a;cases a);rw[ad (by simp[aH];omega)];simp only[I.aU];cases mv (ts.getD x.Key.toNat aN,v.aw.getD i au)<;>rfl
 have h:=qQ (λi=>pe (v.aw,(v.aw.length:Int),(i:Int),ts,x)) v.aw.length (λi=>(mv (ts.getD x.Key.toNat aN,v.aw.getD i au))==some true) (λi=>.inl ((i:Int),ts,x)) (.inr (ts,x))
  (λi a=>by
   obtain⟨b,b1,_⟩:=f i a;rw[pe,bu,ad (aQ a),bd];simp only[I.aU];rw[o i a,b1];simp only[fZ,aT,ao];rw[bD]
   cases b<;>simp)
  (by rw[pe,bt])
 have cV:pe (v.aw,(v.aw.length:Int),((0:Nat):Int),ts,x)=pe (v.aw,(v.aw.length:Int),0,ts,x):=rfl;simp only[cV]at h;rw[Cv,F0,F3];rcases h with⟨j,h1,m,p,e⟩|⟨h1,e⟩
 . rw[e];refine⟨true,?_,?_⟩
   . have:decide ((0:Int)<=(j:Int))=true:=(by simp);simp only[aT,ao,this]
   . obtain⟨b,b1,b2⟩:=f j h1;have n:b=true:=by
      have g:(mv (ts.getD x.Key.toNat aN,v.aw.getD j au)==some true)=true:=m;rw[b1]at g;simpa using g
     constructor
     . intro h;cases h
     . intro h;have:=b2.2 (h _ (bk h1 au));rw[n]at this;cases this
 . rw[e];refine⟨false,rfl,?_⟩;constructor
   . intro _ k c;obtain⟨i,a,rfl⟩:=eZ c;obtain⟨b,b1,b2⟩:=f i a;have l:(mv (ts.getD x.Key.toNat aN,v.aw.getD i au)==some true)=false:=h1 i a;rw[b1]at l;have:b=false:=by cases b<;>simp_all
     rw[<-dv a (d:=au)];exact b2.1 this
   . intro _;rfl
theorem X'(e:gM x.ag)(af:x.ag.length<=1000){m:aS}(bE:cH x.ag id=some m):∃j,j<x.ag.length/\hd (x,id)=some ((j:Int),true)/\x.ag.getD j aE=m:=by
 obtain⟨c,d⟩:=kI bE;obtain⟨r,g,k⟩:=vC (t:=x) (id:=id) (by omega);rcases k with⟨j,b,f,_,rfl⟩|⟨q,_⟩
 . exact⟨j,b,g,qV e (bk b aE) c (by rw[f,d])⟩
 . obtain⟨i,a,rfl⟩:=eZ c;exact absurd d (by have:=q i a;rwa [dv a]at this)
def kR(x:ah)(v:I)(i:Nat):List iI:=(List.range i).map λj=>(⟨gV x v j,p' x v j⟩:iI)
theorem abo(x:ah)(v:I)(i:Nat):kR x v i++[(⟨gV x v i,p' x v i⟩:iI)]=kR x v (i+1):=by
 unfold kR;rw[List.range_succ,p6];rfl
theorem Dy(x:ah)(v:I)(i:Nat):(kR x v i).length=i:=by unfold kR;simp
theorem adk(x:ah)(v:I){i n:Nat}(h:i<n):(kR x v n).getD i HN=⟨gV x v i,p' x v i⟩:=by
 rw[dv (by rw[Dy];exact h)];unfold kR;simp
theorem LU(af:v.ai.length<=1000)(ba:x.Kind=5->v.ai.length<=x.ag.length)(f:x.Kind=6->0<v.ai.length->∃m,cH x.ag v.ae=some m)(c:x.Kind=6->gM x.ag/\x.ag.length<=16):∀(k i:Nat),i+k=v.ai.length->
 nu ((v.ai.length:Int),(i:Int),x,v,kR x v i)=some (kR x v v.ai.length)
 |0,i,g=>by
  rw[nu,cl];have:i=v.ai.length:=by omega
  rw[this]
 |k+1,i,g=>by
  have ih:=LU af ba f c k (i+1) (by omega);have hs:=abo x v i;have d:∀s:iI,room 16 (kR x v i++[s]).length=true:=λs=>cQ (by omega) (by simp[Dy];omega);rw[nu,bu,bD];simp only[aT,ao,I.aU];by_cases a:x.Kind=5
  . have aB:i<x.ag.length:=by have:=ba a;omega
    rw[ad (by simp[a]),ad (aQ aB),ad (aQ aB),ad (d _),bd];have e:(⟨(x.ag.getD i aE).av,(x.ag.getD i aE).ae⟩:iI)=⟨gV x v i,p' x v i⟩:=by unfold gV p';rw[ad a,ad a]
    rw[e,hs];exact ih
  . rw[ak (by simp[a])];by_cases b:x.Kind=6
    . obtain⟨m,bE⟩:=f b (by omega);obtain⟨j,l,n,o⟩:=X' (c b).1 (by have:=(c b).2;omega) bE;rw[ad (by simp[b]),n];simp only[ao];rw[ad (aQ l),ad (d _),bd,o];have e:(⟨m.av,v.ae⟩:iI)=⟨gV x v i,p' x v i⟩:=by unfold gV p';rw[ak a,ad b,ak a,ad b,bE];rfl
      rw[e,hs];exact ih
    . rw[ak (by simp[b]),ad (d _)];have e:(⟨x.aG,(i:Int)⟩:iI)=⟨gV x v i,p' x v i⟩:=by unfold gV p';rw[ak a,ak b,ak a,ak b]
      rw[e,hs];exact ih
theorem aao(H:iQ ts)(e:b5 ts pl t v)(af:v.ai.length<=1000):CM (ts.getD t.toNat aN,v)=some (kR (ts.getD t.toNat aN) v v.ai.length):=by
 obtain⟨⟨i,j,k,l⟩,b⟩:=(eU _ _ _).1 e;have g:=bk (by omega:t.toNat<ts.length) aN;generalize n:ts.getD t.toNat aN=x at*;rw[CM];simp only[I.aU]
 have:= LU (x:= x) (v:= v) af (λo=>by
  rcases b with h|h|h|h|h|h|h|h|h
  case inr.inr.inr.inr.inl=>have:=(ik.1 h.2.2.2.2.2.2.2).1;omega
  all_goals (have:=h.1;omega)) (λd c=>by
  rcases b with h|h|h|h|h|h|h|h|h
  case inr.inr.inr.inr.inr.inl=>
   obtain⟨a1,a2,a3,a4,a5,a⟩:=h;split at a
   . rename_i m f;exact⟨m,f⟩
   . rw[a.2.2.2.1]at c;cases c
  all_goals (have:=h.1;omega)) (λd=>H.A x g (.inr d)) v.ai.length 0 (by omega)
 have h0:nu ((v.ai.length:Int),0,x,v,[])=_:=this;rw[h0];rfl
def zeroV:I:=⟨0,false,0,[],0,[],[],[]⟩
def D9(ts:List ah)(t:Int)(v:I):Prop:=∃b,(b=true↔b5 ts true t (dw v))/\lJ ((⟨ts⟩:aR),t,v)=some (if b then(dw v,true)else(zeroV,false))
theorem LV{x:ah}{v:I}(af:v.ai.length<=1000)(h:∀i,i<v.ai.length->D9 ts (gV x v i) (v.ai.getD i au)){z0 z2 z4 a0 a2 a4:Int}{z1 a1:Bool}{z3 a3:aj}{ks:List I}:∀(k i:Nat),i+k=v.ai.length->
 (qD (kR x v v.ai.length,(v.ai.length:Int),(i:Int),ts,v,z0,z1,z2,z3,z4,a0,a1,a2,a3,a4,ks,(v.ai.take i).map dw)=some (.inr (z0,z1,z2,z3,z4,a0,a1,a2,a3,a4,ks,v.ai.map dw))/\∀j,i<=j->j<v.ai.length->b5 ts true (gV x v j) (dw (v.ai.getD j au)))\/
 (qD (kR x v v.ai.length,(v.ai.length:Int),(i:Int),ts,v,z0,z1,z2,z3,z4,a0,a1,a2,a3,a4,ks,(v.ai.take i).map dw)=some (.inl (false,0,false,0,[],0))/\∃j,j<v.ai.length/\¬b5 ts true (gV x v j) (dw (v.ai.getD j au)))
 |0,i,f=>.inl ⟨by rw[qD,cl,ob (by omega)],λj h1 d=>by omega⟩
 |k+1,i,f=>by
  have aB:i<v.ai.length:=by omega
  obtain⟨b,b1,b2⟩:=h i aB;rw[qD,bu,ad (aQ (by rw[Dy];exact aB)),ad (aQ aB),bd,adk x v aB];simp only[I.aU];rw[b2];cases b with
  |false=>exact .inr ⟨rfl,i,aB,λq=>by have:=b1.2 q;cases this⟩
  |true=>
   have e:(v.ai.take i).map dw++[dw (v.ai.getD i au)]=(v.ai.take (i+1)).map dw:=by
    rw[Fp,p6,eH aB,dv aB];rfl
   simp only[aT,ao,bS,di,I.aU];rw[bt,ad (cQ),bD,e];rcases LV af h (z0:=z0) (z1:=z1) (z2:=z2) (z3:=z3) (z4:=z4) (a0:=a0) (a1:=a1) (a2:=a2) (a3:=a3) (a4:=a4) (ks:=ks) k (i+1) (by omega)with⟨a,c⟩|⟨a,c⟩
   . refine .inl ⟨a,λj h1 d=>?_⟩;by_cases g:j=i
     . subst g;exact b1.1 rfl
     . exact c j (by omega) d
   . exact .inr ⟨a,c⟩
theorem abp{k:I}(g:b5 ts false t k)(h1:1<=(ts.getD t.toNat aN).Kind/\(ts.getD t.toNat aN).Kind<=4)(i:qf (ts.getD t.toNat aN) k):b5 ts true t k:=by
 obtain⟨⟨a,b,c,l⟩,f⟩:=(eU _ _ _).1 g;rw[eU];rcases f with h|h|h|h|h|h|h|h|h
 . exact⟨⟨a,b,c,λ_=>h.2.2.2.2.2.2⟩,.inl h⟩
 . exact⟨⟨a,b,c,λ_=>h.2.2.2.2.2.2.1⟩,.inr (.inl h)⟩
 . exact⟨⟨a,b,c,λ_=>h.2.2.2.2.2.2.1⟩,.inr (.inr (.inl h))⟩
 . obtain⟨a1,a2,a3,a4,a5,e,d,j⟩:=h;exact⟨⟨a,b,c,λ_=>d⟩,.inr (.inr (.inr (.inl ⟨a1,a2,a3,a4,a5,e,d,.inl (i (by omega))⟩)))⟩
 all_goals (have:=h.1;omega)
theorem Lw{k:I}(b:b5 ts true t k):qf (ts.getD t.toNat aN) k:=by
 obtain⟨⟨c,d,e,f⟩,a⟩:=(eU _ _ _).1 b;intro g;rcases a with h|h|h|h|h|h|h|h|h
 case inr.inr.inr.inl=>
  rcases h.2.2.2.2.2.2.2 with h|h
  . exact h
  . cases h.2.1
 all_goals (have:=h.1;omega)
theorem aap(x:ah)(v:I)(j:Nat):gV x (dw v) j=gV x v j:=by
 unfold gV;rw[pA]
theorem KG{l:List I}(h:j<l.length):(l.map dw).getD j au=dw (l.getD j au):=by
 rw[dv h,dv (by simpa using h)];simp
theorem aaq(H:iQ ts)(C:b5 ts false t v):b5 ts true t (dw v)↔
 qf (ts.getD t.toNat aN) v/\(∀k,k∈v.aw->qf (ts.getD (ts.getD t.toNat aN).Key.toNat aN) k)/\¬((ts.getD t.toNat aN).Kind=6/\v.ai.length=0)/\∀j,j<v.ai.length->b5 ts true (gV (ts.getD t.toNat aN) v j) (dw (v.ai.getD j au)):=by
 obtain⟨⟨g,l,n,L⟩,B⟩:=(eU _ _ _).1 C;have G:=bk (by omega:t.toNat<ts.length) aN;constructor
 . intro h;have D:=Dj h;have E:=Lw h;have A:(dw v).ae=v.ae:=by rw[pA]
   have p:(dw v).aw=v.aw:=by rw[pA]
   have r:(dw v).ai=v.ai.map dw:=by rw[pA]
   obtain⟨⟨_,_,f3,f4⟩,s⟩:=(eU _ _ _).1 h;refine⟨λz=>by have:=E z;rwa [A]at this,λk c=>?_,?_,λj o=>?_⟩
   . rcases s with h|h|h|h|h|h|h|h|h
     case inr.inr.inr.inr.inr.inr.inr.inl=>
      have:=h.2.2.2.2.2.2.2.2.1;rw[p]at this;exact Lw (cX.1 this _ c)
     case inr.inr.inr.inr.inr.inl=>have:=h.2.2.2.2.1;rw[p]at this;rw[this]at c;cases c
     case inl=>have:=h.2.2.2.2.1;rw[p]at this;rw[this]at c;cases c
     case inr.inl=>have:=h.2.2.2.2.1;rw[p]at this;rw[this]at c;cases c
     case inr.inr.inl=>have:=h.2.2.2.2.1;rw[p]at this;rw[this]at c;cases c
     case inr.inr.inr.inl=>have:=h.2.2.2.2.1;rw[p]at this;rw[this]at c;cases c
     all_goals (have:=h.2.2.2.2.2.1;rw[p]at this;rw[this]at c;cases c)
   . intro⟨O,N⟩;rcases s with h|h|h|h|h|h|h|h|h
     case inr.inr.inr.inr.inr.inl=>
      obtain⟨a1,a2,a3,a4,a5,a⟩:=h;split at a
      . have:=a.2.1;rw[r,gy]at this;omega
      . cases a.2.1
     all_goals (have:=h.1;omega)
   . have:=D j (by rw[r,gy];exact o)
     rwa [aap,r,KG o]at this
 . intro⟨c,F,J,o⟩;rw[pA,eU];dsimp only;generalize M:ts.getD t.toNat aN=x at*;rcases B with h|h|h|h|h|h|h|h|h
   . obtain⟨a1,a2,a3,a4,a5,a,b⟩:=h;rw[bq,a,b];exact⟨⟨g,l,n,λ_=>rfl⟩,.inl ⟨a1,a2,a3,a4,a5,rfl,rfl⟩⟩
   . obtain⟨a1,a2,a3,a4,a5,a,b,d⟩:=h;rw[bq,a,b];exact⟨⟨g,l,n,λ_=>rfl⟩,.inr (.inl ⟨a1,a2,a3,a4,a5,rfl,rfl,d⟩)⟩
   . obtain⟨a1,a2,a3,a4,a5,a,b,d⟩:=h;rw[bq,a,b];exact⟨⟨g,l,n,λ_=>rfl⟩,.inr (.inr (.inl ⟨a1,a2,a3,a4,a5,rfl,rfl,d⟩))⟩
   . obtain⟨a1,a2,a3,a4,a5,a,b,d⟩:=h;rw[bq,a,b];exact⟨⟨g,l,n,λ_=>rfl⟩,.inr (.inr (.inr (.inl ⟨a1,a2,a3,a4,a5,rfl,rfl,.inl (c (by omega))⟩)))⟩
   . obtain⟨a1,a2,a3,a4,a5,a,b,d⟩:=h;rw[ad a1];obtain⟨b1,b2⟩:=ik.1 d;refine⟨⟨g,l,n,λ_=>rfl⟩,.inr (.inr (.inr (.inr (.inl ⟨a1,a2,a3,a4,a5,a,⟨List.Pairwise.nil,λy f=>(by cases f)⟩,ik.2 ⟨by rw[gy];exact b1,λi e=>?_⟩⟩))))⟩;have:=o i (by omega);unfold gV at this;rw[fu]at this;rw[KG (by omega)];exact this
   . obtain⟨a1,a2,a3,a4,a5,a⟩:=h;rw[bq];cases bE:cH x.ag v.ae with
     |none=>
      rw[bE]at a;exact absurd ⟨by omega,by rw[a.2.2.2.1];rfl⟩ J
     |some m=>
      rw[bE]at a;obtain⟨b1,b2,b3⟩:=a;refine⟨⟨g,l,n,λ_=>b1⟩,.inr (.inr (.inr (.inr (.inr (.inl ⟨a1,a2,a3,a4,a5,b1,by rw[gy];exact b2,cX.2 λy f=>?_⟩)))))⟩;obtain⟨w,q,rfl⟩:=eO.1 f;obtain⟨i,e,rfl⟩:=eZ q;have:=o i e;unfold gV at this;rw[bq,fu,bE,dv e]at this;exact this
   . obtain⟨a1,a2,a3,a4,a5,a,b,d,a9⟩:=h;rw[bq];refine⟨⟨g,l,n,λ_=>b⟩,.inr (.inr (.inr (.inr (.inr (.inr (.inl ⟨a1,a2,a3,a4,a5,a,b,by rw[gy];exact d,cX.2 λy f=>?_⟩))))))⟩;obtain⟨w,q,rfl⟩:=eO.1 f;obtain⟨i,e,rfl⟩:=eZ q;have:=o i e;unfold gV at this;rw[bq,bq,dv e]at this;exact this
   . obtain⟨a1,a2,a3,a4,a5,a,b,d,a9,K,u⟩:=h;rw[bq];refine⟨⟨g,l,n,λ_=>a⟩,.inr (.inr (.inr (.inr (.inr (.inr (.inr (.inl ⟨a1,a2,a3,a4,a5,a,b,by rw[gy];exact d,cX.2 λy f=>abp (cX.1 a9 y f) (H.rX x G (by omega)) (F y f),cX.2 λy f=>?_,u⟩)))))))⟩;obtain⟨w,q,rfl⟩:=eO.1 f;obtain⟨i,e,rfl⟩:=eZ q;have:=o i e;unfold gV at this;rw[bq,bq,dv e]at this;exact this
   . obtain⟨a1,a2,a3,a4,a5,a,b,d,a9⟩:=h;rw[bq];refine⟨⟨g,l,n,λ_=>b⟩,.inr (.inr (.inr (.inr (.inr (.inr (.inr (.inr ⟨a1,a2,a3,a4,a5,a,b,by rw[gy];exact d,cX.2 λy f=>?_⟩)))))))⟩;obtain⟨w,q,rfl⟩:=eO.1 f;obtain⟨i,e,rfl⟩:=eZ q;have:=o i e;unfold gV at this;rw[bq,bq,dv e]at this;exact this
theorem aar(c:b5 ts pl t v):v.aw≠[]->0<=(ts.getD t.toNat aN).Key/\(ts.getD t.toNat aN).Key<ts.length:=by
 obtain⟨_,b⟩:=(eU _ _ _).1 c;intro aD;rcases b with h|h|h|h|h|h|h|h|h
 case inr.inr.inr.inr.inr.inr.inr.inl=>
  obtain⟨a1,a2,a3,a4,a5,f,g,i,a9,_⟩:=h;cases a:v.aw with
  |nil=>exact absurd a aD
  |cons k l=>
   have:=cX.1 a9 k (by rw[a];exact .head _);obtain⟨⟨d,e,_⟩,_⟩:=(eU _ _ _).1 this;exact⟨d,e⟩
 case inl=>exact absurd h.2.2.2.2.1 aD
 case inr.inl=>exact absurd h.2.2.2.2.1 aD
 case inr.inr.inl=>exact absurd h.2.2.2.2.1 aD
 case inr.inr.inr.inl=>exact absurd h.2.2.2.2.1 aD
 case inr.inr.inr.inr.inr.inl=>exact absurd h.2.2.2.2.1 aD
 all_goals exact absurd h.2.2.2.2.2.1 aD
theorem aas(H:En ts)(Q:bM v):∀t,mW v->b5 ts false t v->D9 ts t v:=by
 have S:=H.V.ic H.T;induction Q with
 |mk v hs h1 w ag aj ah ak c9 ap aq ar al R=>
  intro t g c;obtain⟨am,l2,an⟩:=MD g c;obtain⟨⟨Z,aa,ab,af⟩,_⟩:=(eU _ _ _).1 c;have p:t.toNat<ts.length:=by omega
  have M:=bk p aN;have e:=aaq S c;have N:=aao S c (by omega);have L:∀i,i<v.ai.length->D9 ts (gV (ts.getD t.toNat aN) v i) (v.ai.getD i au):=λi o=>R _ (bk o au) _ (g.items _ (bk o au)) (Dj c i o);obtain⟨Y,s1,C⟩:=IZ (H.T _ M) v;obtain⟨X,u,B⟩:=aan H.T (x:=ts.getD t.toNat aN) (v:=v) (by omega) (aar c);generalize m:ts.getD t.toNat aN=x at*;have k:∀(P:Prop),¬b5 ts true t (dw v)->lJ ((⟨ts⟩:aR),t,v)=some (zeroV,false)->D9 ts t v:=λ_ h1 w=>⟨false,by simp[h1],by rw[w];rfl⟩
  have l:aH t ts.length=true:=by simp[aH];omega
  have O:∀b,(bif decide (x.Kind=6)then decide ((v.ai.length:Int)=0)else false)=b->(b=true↔x.Kind=6/\v.ai.length=0):=by
   intro b J;rw[<-J];by_cases F:x.Kind=6<;>simp[F]
  obtain⟨D,s⟩:∃b,(bif decide (x.Kind=6)then decide ((v.ai.length:Int)=0)else false)=b:=⟨_,rfl⟩
  have z:=O D s;cases Y with
  |true=>
   refine k True (λh=>?_) ?_
   . have:=C.2 (e.1 h).1;cases this
   . rw[lJ,ad l];simp only[aT,ao,I.aU,m];rw[s1];rfl
  |false=>
   cases X with
   |true=>
    refine k True (λh=>?_) ?_
    . have:=B.2 (e.1 h).2.1;cases this
    . rw[lJ,ad l];simp only[aT,ao,I.aU,m];rw[s1];simp only[ao,eN,bS];rw[u];rfl
   |false=>
    cases D with
    |true=>
     refine k True (λh=>(e.1 h).2.2.1 (z.1 rfl)) ?_;rw[lJ,ad l];simp only[aT,ao,I.aU,m];rw[s1];simp only[ao,eN,bS];rw[u,s];rfl
    |false=>
     have g:=LV (x:=x) (v:=v) (by omega) L (z0:=0) (z1:=false) (z2:=0) (z3:=[]) (z4:=0) (a0:=v.Kind) (a1:=v.bL) (a2:=v.bc) (a3:=v.bn) (a4:=v.ae) (ks:=v.aw) v.ai.length 0 (by omega)
     have y:∀ f,qD (kR x v v.ai.length,(v.ai.length:Int),0,ts,v,0,false,0,[],0,v.Kind,v.bL,v.bc,v.bn,v.ae,v.aw,[]) = some f->lJ ((⟨ts⟩:aR),t,v) = (match f with
      |.inl d=>some ((⟨d.2.1,d.2.2.1,d.2.2.2.1,d.2.2.2.2.1,d.2.2.2.2.2,[],[],[]⟩:I),d.1)
      |.inr a=>some ((⟨a.2.2.2.2.2.1,a.2.2.2.2.2.2.1,a.2.2.2.2.2.2.2.1,a.2.2.2.2.2.2.2.2.1,a.2.2.2.2.2.2.2.2.2.1,a.2.2.2.2.2.2.2.2.2.2.1,a.2.2.2.2.2.2.2.2.2.2.2,[]⟩:I),true)):=by
      intro f G;rw[lJ,ad l];simp only[aT,ao,I.aU,m];rw[s1];simp only[ao,eN,bS];rw[u,s];simp only[ao,dS];have K:fC 120 v.aw=some v.aw:=by unfold fC;rw[ad (nI (cQ (by omega) (by omega)))]
      rw[bt,K];simp only[ao];rw[N];simp only[ao,Dy];rw[G];cases f<;>rfl
     rcases g with⟨n,E⟩|⟨n,j,U,W⟩
     . have A:b5 ts true t (dw v):=e.2 ⟨C.1 rfl,B.1 rfl,λh=>(by have:=z.2 h;cases this),λj p=>E j (h' _) p⟩;refine⟨true,by simp[A],?_⟩;rw[y _ n,ad rfl];have r:(dw v).Rest=[]:=by
        obtain⟨⟨_,_,_,q⟩,_⟩:=(eU _ _ _).1 A;exact q rfl
       have:(⟨v.Kind,v.bL,v.bc,v.bn,v.ae,v.aw,v.ai.map dw,[]⟩:I)=dw v:=by
        rw[pA]at r⊢;dsimp only at r;rw[r]
       show some ((⟨v.Kind,v.bL,v.bc,v.bn,v.ae,v.aw,v.ai.map dw,[]⟩:I),true)=_;rw[this]
     . refine k True (λh=>W ((e.1 h).2.2.2 j U)) ?_;rw[y _ n];rfl
end
theorem KM(g:bM v):bM (dw v):=by
 induction g with
 |mk v hs h1 c d e n f c9 k l m o j=>
  rw[pA];have b:∀x,x∈(if v.Kind=5 then[]else v.Rest)->x∈v.Rest:=λx a=>by
   by_cases ba:v.Kind=5
   . rw[ad ba]at a;cases a
   . rwa [ak ba]at a
  refine .mk _ hs h1 (by show(v.ai.map dw).length<=_;rw[gy];exact c) ?_ e (λx a=>?_) (λx a=>f x (b x a)) c9 k l (λx a=>m x (b x a))
  . show(if v.Kind=5 then[]else v.Rest).length<=_;by_cases ba:v.Kind=5
    . rw[ad ba];exact h' _
    . rw[ak ba];exact d
  . obtain⟨w,i,rfl⟩:=eO.1 a;exact j w i
theorem aat(H:En ts)(a:bM v)(d:mW v)(c:b5 ts false t v):
 ∃b,(b=true↔b5 ts true t (dw v))/\u3 ((⟨ts⟩:aR),t,v)=some (if b then(dw v,0)else(zeroV,12))/\vv ((⟨ts⟩:aR),t,v)=some (if b then(dw v,0)else(zeroV,12)):=by
 have S:=H.V.ic H.T;obtain⟨b,b1,b2⟩:=aas H a t d c;obtain⟨_,f⟩:=YL H.T H.V a c;obtain⟨v1,_⟩:=pz H.T H.V;obtain⟨⟨u,w,_⟩,_⟩:=(eU _ _ _).1 c;have k:¬(bif decide (t<0)then true else decide ((ts.length:Int)<=t))=true:=by
  have h1:¬t<0:=by omega
  have i:¬(ts.length:Int)<=t:=by omega
  simp[h1,i]
 have m:C2 ((⟨ts⟩:aR),t)=some 0:=by
  rw[C2];simp only[Kt];rw[v1];simp only[aT,ao];rw[bt,ak k]
 have bE:tG ((⟨ts⟩:aR),t,v)=some true:=by
  obtain⟨q,o,p⟩:=Lf (by have:=S.n;omega) H.T S.K a t false;obtain⟨x,e,s⟩:=yO (by have:=S.n;omega) H.T S.K a t false;have g:x=q:=by rw[p]at e;exact(lY e).symm
  have l:q=true:=by rw[<-g];exact s.2 c
  rw[tG];simp only[I.aU];rw[o,l];rfl
 have j:C3 ((⟨ts⟩:aR),t,v)=some 0:=by
  rw[C3];simp only[I.aU];rw[m];simp only[aT,ao];rw[bt,bE];rfl
 refine⟨b,b1,?_,?_⟩
 . rw[u3];simp only[I.aU];rw[j];simp only[aT,ao];rw[bt,b2];cases b<;>simp[zeroV,I.aU]
 . rw[vv];simp only[I.aU];rw[f];simp only[aT,ao];rw[bt,aa8 a t d c];simp only[ao,I.aU];obtain⟨q,r,y⟩:=X7 (by have:=S.n;omega) H.T S.K (KM a) t;rw[r];have:q=b:=by
    cases q<;>cases b<;>simp_all
   subst this;cases q<;>simp[zeroV]
theorem ZP(H:dj ts)(c:bM v)(a:b5 ts false t v):
 ∃b,(b=true↔b5 ts true t (dw v))/\u3 ((⟨ts⟩:aR),t,v)=some (if b then(dw v,0)else(zeroV,12))/\vv ((⟨ts⟩:aR),t,v)=some (if b then(dw v,0)else(zeroV,12)):=aat H.g c (adj H c a) a
def cn{α c:Type}(f:α->Option c):List α->Option (List c)
 |[]=>some []
 |a::l=>match f a,cn f l with
  |some b,some m=>some (b::m)
  |_,_=>none
def fe{α:Type}:List α->List α
 |a::_::l=>a::fe l
 |_=>[]
def fm{α:Type}:List α->List α
 |_::b::l=>b::fm l
 |_=>[]
def oG(ks:List I):Bool:=(List.range (ks.length-1)).all λi=>decide (gW (ks.getD i au) (ks.getD (i+1) au)<0)
theorem vZ:oG ks=true↔jL ks:=by
 unfold oG jL;grind
def cZ(ts:List ah):Nat->Int->aj->Option I
 |0,_,_=>none
 |n+1,t,p=>
  let x:=ts.getD t.toNat aN
  if x.Kind=1 then(if p=[]then some ⟨1,false,0,[],0,[],[],[]⟩else if p=[1]then some ⟨1,true,0,[],0,[],[],[]⟩else none)else if x.Kind=2 then(match hS p with
   |some m=>if x.bA<=jk m/\jk m<=x.bC then some ⟨2,false,jk m,[],0,[],[],[]⟩else none
   |none=>none)
  else if x.Kind=3 then(if(p.length:Int)<=x.Max then some ⟨3,false,0,p,0,[],[],[]⟩else none)else if x.Kind=4 then(match hS p with
   |some m=>if 1<=m/\m<=1000/\((x.bg.any λy=>decide (y.ae=(m:Int)))||x.Open)=true then some ⟨4,false,0,[],(m:Int),[],[],[]⟩else none
   |none=>none)
  else if x.Kind=9 then(match p with
   |[]=>some ⟨9,false,0,[],0,[],[],[]⟩
   |c::q=>if c=1 then(cZ ts n x.aG q).map λv=>⟨9,false,0,[],0,[],[v],[]⟩else none)
  else if x.Kind=6 then(match jV p with
   |some (id,q)=>(match cH x.ag id with
    |some m=>(cZ ts n m.av q).map λv=>⟨6,false,0,[],id,[],[v],[]⟩
    |none=>if x.Open then some ⟨6,false,0,[],id,[],[],[⟨id,q⟩]⟩else none)
   |none=>none)
  else if x.Kind=7 then(match iN p with
   |some l=>if(l.length:Int)<=x.Max then(cn (cZ ts n x.aG) l).map λa=>⟨7,false,0,[],0,[],a,[]⟩else none
   |none=>none)
  else if x.Kind=8 then(match iN p with
   |some l=>if l.length%2 = 0/\((l.length/2:Nat):Int)<=x.Max then (match cn (cZ ts n x.Key) (fe l) with
    |some ks=>if oG ks then(cn (cZ ts n x.aG) (fm l)).map λa=>⟨8,false,0,[],0,ks,a,[]⟩else none
    |none=>none)else none
   |none=>none)
  else(match jl p with
   |some l=>(match cn (λm:aS=>match l.find? (λf=>decide (f.ae = m.ae)) with
    |some f=>cZ ts n m.av f.Data
    |none=>if m.bZ then some m.bw else none) x.ag with
    |some a=>if(l.all λf=>(cH x.ag f.ae).isSome || !f.cp) then some ⟨5,false,0,[],0,[],a,(l.filter λf=>!(cH x.ag f.ae).isSome).map λf=>⟨f.ae,f.Data⟩⟩else none
    |none=>none)
   |none=>none)
section
variable {ts:List ah}
def fG(ts:List ah)(b1:aq)(b2:Int)(path:aq)(o:Option I)(r:Option (I×Bool×List ah×aq×Int×aq)):Prop:=
 (∀v,o=some v->r=some (v,true,ts,b1,b2,path))/\(o=none->∃w f1 f2,r=some (w,false,ts,f1,f2,path))
theorem zQ(b:path.length<=1000)(a:Int)(b1:aq)(b2:Int):hC (a,ts,b1,b2,path)=some ((⟨0,false,0,[],0,[],[],[]⟩:I),false,ts,a,path,path):=by
 rw[hC];unfold th fC;rw[ad (nI (cQ (by omega) (by omega)))];simp
theorem v7{step:Int}{o:Option I}(e:path.length<=1000)(h:fG ts b1 b2 (path++[step]) o (oW (t,p,ts,b1,b2,path++[step]))):
 fG ts b1 b2 path o (iZ (step,t,p,ts,b1,b2,path)):=by
 have key:∀w b f1 f2,oW (t,p,ts,b1,b2,path++[step])=some (w,b,ts,f1,f2,path++[step])->iZ (step,t,p,ts,b1,b2,path)=some (w,b,ts,f1,f2,path):=by
  intro w b f1 f2 a;rw[iZ];simp only[aT,ao];rw[ad (cQ),a];simp only[ao,I.aU];have aK:de .i64 ((path++[step]).length:Int) 1=(path.length:Int):=by rw[hI (by simp<;>omega) (by simp<;>omega)];simp
  rw[aK];have d:dT 0 (path.length:Int) (path++[step]).length=true:=iK.2 (by simp;omega);simp_all
 refine⟨λv c=>key _ _ _ _ (h.1 v c),λaD=>?_⟩;obtain⟨w,f1,f2,a⟩:=h.2 aD;exact⟨w,f1,f2,key _ _ _ _ a⟩
theorem tI{c:Type}{f:α->Option c}:∀{l:List α} {m:List c},cn f l=some m->m.length=l.length
 |[],m,h=>by rw[cn]at h;cases h;rfl
 |a::l,m,h=>by
  rw[cn]at h;split at h
  . rename_i b e h1 d;cases h;rw[iw,iw,tI d]
  . cases h
theorem LW{l:List aj}(af:l.length<=90000)(h:∀q,q∈l->∀step b1 b2,fG ts b1 b2 path (f q) (iZ (step,x.aG,q,ts,b1,b2,path)))
 {z0 z2 z4 a0 a2 a4:Int}{z1 a1:Bool}{z3 a3:aj}{b1:aq}{b2:Int}:∀(k i:Nat) (acc:List I),i+k=l.length->acc.length=i->
 (∀m,cn f (l.drop i)=some m->sW (l,(l.length:Int),(i:Int),ts,b1,b2,x,z0,z1,z2,z3,z4,a0,a1,a2,a3,a4,path,acc)=some (.inr (ts,b1,b2,z0,z1,z2,z3,z4,a0,a1,a2,a3,a4,path,acc++m)))/\
 (cn f (l.drop i)=none->∃w f1 f2,sW (l,(l.length:Int),(i:Int),ts,b1,b2,x,z0,z1,z2,z3,z4,a0,a1,a2,a3,a4,path,acc)=some (.inl (false,ts,f1,f2,w,path)))
 |0,i,acc,d,c=>by
  rw[sW,cl,ee (by omega),cn];grind
 |k+1,i,acc,d,c=>by
  have aB:i<l.length:=by omega
  have a:=h _ (bk aB []) (i:Int) b1 b2;have e:l.drop i=l.getD i []::l.drop (i+1):=by rw[dv aB];exact lk aB
  rw[sW,bu,ad (aQ aB),bd,e,cn];cases b:f (l.getD i [])with
  |none=>
   obtain⟨w,f1,f2,n⟩:=a.2 b;simp_all
  |some v=>
   rw[a.1 v b];simp only[aT,ao,I.aU,di];rw[bt,ad (cQ),bD];obtain⟨o,j⟩:=LW af h (z0:=z0) (z1:=z1) (z2:=z2) (z3:=z3) (z4:=z4) (a0:=a0) (a1:=a1) (a2:=a2) (a3:=a3) (a4:=a4) (b1:=b1) (b2:=b2) k (i+1) (acc++[v]) (by omega) (by simp;omega);cases hs:cn f (l.drop (i+1))with
   |none=>exact⟨λm g=>by simp at g,λ_=>j hs⟩
   |some p=>grind
end
theorem Dk{l:List I}{i:Nat}(a:i<l.length):l.set i (l.getD i au)=l:=by simp_all
theorem KN{a0 a2 a4 z0 z2 z4:Int}{l l2:List I}{r:List bY}(af:l.length<=5000000000000)(h:∀y,y∈l->jI y=some y):∀(k i:Nat),i+k=l.length->
 sF ((l.length:Int),(i:Int),a0,a1,a2,a3,a4,z0,z1,z2,z3,z4,l,l2,r)=some (a0,a1,a2,a3,a4,z0,z1,z2,z3,z4,l,l2,r)
 |0,i,a=>by rw[sF,cl]
 |k+1,i,a=>by
  have aB:i<l.length:=by omega
  rw[sF,bu,ad (aQ aB),bd,bu];simp only[I.aU];rw[h _ (bk aB au)];simp only[aT,ao,I.aU];rw[ad (aQ aB),bu,bD,Dk aB];exact KN af h k (i+1) (by omega)
theorem KO{a0 a2 a4 z0 z2 z4:Int}{l l2:List I}{r:List bY}(af:l.length<=5000000000000)(h:∀y,y∈l->jI y=some y):∀(k i:Nat),i+k=l.length->
 sG ((l.length:Int),(i:Int),a0,a1,a2,a3,a4,z0,z1,z2,z3,z4,l,l2,r)=some (a0,a1,a2,a3,a4,z0,z1,z2,z3,z4,l2,l,r)
 |0,i,a=>by rw[sG,cl]
 |k+1,i,a=>by
  have aB:i<l.length:=by omega
  rw[sG,bu,ad (aQ aB),bd,bu];simp only[I.aU];rw[h _ (bk aB au)];simp only[aT,ao,I.aU];rw[ad (aQ aB),bu,bD,Dk aB];exact KO af h k (i+1) (by omega)
theorem mS:∀l:List I,l.length<=cI l
 |[]=>by simp
 |v::l=>by
  rw[hf,fx,iw];have:=mS l;omega
theorem LX(l:List bY):l.length<=(l.map λx=>x.Data.length+1).sum:=by
 induction l with
 |nil=>simp
 |cons a l ih=>simp only[gz,oj,iw];omega
theorem vU{k n:Nat}(a:k<=1000:=by omega)(h:n<=1000000000:=by omega):room k n=true:=by
 unfold room j8 eG;simp only[cd,dp];refine⟨?_,by omega⟩;have:(2*n+192)*k<=2000000192*1000:=Nat.mul_le_mul (by omega) a;omega
theorem aau(j:bM v):wt v<=1000000000->jI v=some v:=by
 induction j with
 |mk v hs h1 o p s q t c9 A B C m k=>
  intro u;have w:=fx v;have x:=mS v.aw;have l2:=mS v.ai;have z:=LX v.Rest;have kk:∀y,y∈v.aw->jI y=some y:=λy a=>m y a (by have:=fa a;omega);have n:∀y,y∈v.ai->jI y=some y:=λy a=>k y a (by have:=fa a;omega);have f:fC 120 v.aw=some v.aw:=by unfold fC;rw[ad (nI (vU))]
  have g:fC 120 v.ai=some v.ai:=by unfold fC;rw[ad (nI (vU))]
  have i:fC 24 v.Rest=some v.Rest:=by unfold fC;rw[ad (nI (vU))]
  have b:=KN (a0:=v.Kind) (a1:=v.bL) (a2:=v.bc) (a3:=v.bn) (a4:=v.ae) (z0:=0) (z1:=false) (z2:=0) (z3:=[]) (z4:=0) (l:=v.aw) (l2:=v.ai) (r:=v.Rest) (by omega) kk v.aw.length 0 (by omega);have d:=KO (a0:=v.Kind) (a1:=v.bL) (a2:=v.bc) (a3:=v.bn) (a4:=v.ae) (z0:=0) (z1:=false) (z2:=0) (z3:=[]) (z4:=0) (l:=v.ai) (l2:=v.aw) (r:=v.Rest) (by omega) n v.ai.length 0 (by omega);have c:sF ((v.aw.length:Int),0,v.Kind,v.bL,v.bc,v.bn,v.ae,0,false,0,[],0,v.aw,v.ai,v.Rest)=_:=b;have e:sG ((v.ai.length:Int),0,v.Kind,v.bL,v.bc,v.bn,v.ae,0,false,0,[],0,v.ai,v.aw,v.Rest)=_:=d;rw[jI,f,g,i];simp only[aT,ao];rw[c];simp only[ao];rw[e];simp only[ao];cases v;rfl
section
variable {ts:List ah}
def wR(ts:List ah)(n:Nat):Prop:=∀(t:Int) (p:aj) (b1:aq) (b2:Int) (path:aq),0<=t->t<ts.length->p.length<=4096->path.length+n=200->
 fG ts b1 b2 path (cZ ts n t p) (oW (t,p,ts,b1,b2,path))
theorem jJ(a:path.length<=1000)(b:Int)(b1:aq)(b2:Int):fG ts b1 b2 path none (hC (b,ts,b1,b2,path)>>=λr=>some (I.eta r.1,r.2.1,r.2.2.1,r.2.2.2.2.2,r.2.2.2.1,r.2.2.2.2.1)):=by
 refine⟨λv h=>(by cases h),λ_=>?_⟩;rw[zQ a];simp_all
theorem E4(c:gM x.ag)(af:x.ag.length<=1000){m:aS}(bE:cH x.ag id=some m):∃j,j<x.ag.length/\hd (x,id)=some ((j:Int),true)/\x.ag.getD j aE=m:=by
 obtain⟨b,e⟩:=kI bE;obtain⟨r,f,g⟩:=vC (t:=x) (id:=id) (by omega);rcases g with⟨j,a,d,_,rfl⟩|⟨q,_⟩
 . exact⟨j,a,f,qV c (bk a aE) b (by rw[d,e])⟩
 . obtain⟨i,k,rfl⟩:=eZ b;grind
theorem aav(H:iQ ts){n:Nat}(ih:wR ts n)(l:x∈ts)(c:x.Kind=6)(c7:∀m,m∈x.ag->0<=m.av/\m.av<ts.length)(F:p.length<=4096)(G:path.length+(n+1)=200):
 fG ts b1 b2 path (match jV p with
  |some (id,q)=>(match cH x.ag id with
   |some m=>(cZ ts n m.av q).map λv=>⟨6,false,0,[],id,[],[v],[]⟩
   |none=>if x.Open then some ⟨6,false,0,[],id,[],[],[⟨id,q⟩]⟩else none)
  |none=>none) (B7 (x,p,ts,b1,b2,path)):=by
 obtain⟨o,u,y,z⟩:=HS p;rw[B7,u];simp only[aT,ao];by_cases h0:o.2.2=0
 . obtain⟨v1,J,v3⟩:=y h0;rw[ak (by simp[h0]),v1];dsimp only;obtain⟨g,D⟩:=H.A x l (.inr c);cases bE:cH x.ag o.1 with
   |some m=>
    obtain⟨j,a,b,s⟩:=E4 g (by omega) bE;rw[b];simp only[ao];rw[ad trivial,ad (aQ a),bd,s];obtain⟨t1,t2⟩:=c7 m (kI bE).1;have d:=v7 (step:=o.1) (path:=path) (by omega) (ih m.av o.2.1 b1 b2 (path++[o.1]) t1 t2 (by omega) (by simp;omega));cases e:cZ ts n m.av o.2.1 with
    |none=>
     obtain⟨w,f1,f2,k⟩:=d.2 e;rw[k];exact⟨λv h=>by simp at h,λ_=>⟨_,_,_,rfl⟩⟩
    |some v=>
     rw[d.1 v e]
     exact⟨λf h=>by
      have:f=⟨6,false,0,[],o.1,[],[v],[]⟩:=(by simpa using h.symm);rw[this]
      simp[I.aU,c],λh=>by simp at h⟩
   |none=>
    obtain⟨r,B,C⟩:=vC (t:=x) (id:=o.1) (by omega);have i:r=(0,false):=by
     rcases C with⟨j,a,b,_,_⟩|⟨_,q⟩
     . exact absurd b (nz bE _ (bk a aE))
     . exact q
    rw[B,i];cases E:x.Open with
    |false=>
     simp only[ao,bU,b6,eN,bS,eq_self];exact jJ (by omega) _ _ _
    |true=>
     simp only[ao,bU,b6,di,bS,eq_self];exact⟨λf h=>(by cases h;rw[c]),λh=>(by cases h)⟩
 . rw[ad (by simp[h0]),z h0];exact jJ (by omega) _ _ _
end
theorem JQ{l:List α}(h:2*j+1<l.length)(d:α):fe (l.drop (2*j))=l.getD (2*j) d::fe (l.drop (2*(j+1))):=by
 rw[lk (by omega:2*j<l.length),lk h,fe,dv (by omega)];rfl
theorem KP{l:List α}(h:2*j+1<l.length)(d:α):fm (l.drop (2*j))=l.getD (2*j+1) d::fm (l.drop (2*(j+1))):=by
 rw[lk (by omega:2*j<l.length),lk h,fm,dv h];rfl
theorem O'{i:Nat}(h:i<1000000):aM .i64 (i:Int) 2=((i+2:Nat):Int):=by
 have:=vF (a:=i) (b:=2) (by omega);exact this
section
variable {ts:List ah}
theorem LY{l:List aj}(af:l.length<=90000)(he:l.length%2=0)(h:∀q,q∈l->∀step b1 b2,fG ts b1 b2 path (f q) (iZ (step,x.Key,q,ts,b1,b2,path)))
 {z0 z2 z4 a0 a2 a4:Int}{z1 a1:Bool}{z3 a3:aj}{b1:aq}{b2:Int}:∀(k j:Nat) (acc:List I),2*(j+k)=l.length->acc.length=j->
 (∀m,cn f (fe (l.drop (2*j)))=some m->sS (l,((2*j:Nat):Int),ts,b1,b2,x,z0,z1,z2,z3,z4,a0,a1,a2,a3,a4,path,acc)=some (.inr (l,ts,b1,b2,x,z0,z1,z2,z3,z4,a0,a1,a2,a3,a4,path,acc++m)))/\
 (cn f (fe (l.drop (2*j)))=none->∃w f1 f2,sS (l,((2*j:Nat):Int),ts,b1,b2,x,z0,z1,z2,z3,z4,a0,a1,a2,a3,a4,path,acc)=some (.inl (false,ts,f1,f2,w,path)))
 |0,j,acc,e,d=>by
  rw[sS,cl,ee (by omega),show fe ([]:List aj)=[]from rfl,cn];grind
 |k+1,j,acc,e,d=>by
  have aB:2*j<l.length:=by omega
  have a:=h _ (bk aB []) (fv .i64 ((2*j:Nat):Int) 2) b1 b2;rw[sS,bu,ad (aQ aB),bd,JQ (by omega) [],cn];cases b:f (l.getD (2*j) [])with
  |none=>
   obtain⟨w,f1,f2,n⟩:=a.2 b;simp_all
  |some v=>
   rw[a.1 v b];simp only[aT,ao,I.aU,di];rw[bt,ad (cQ),O' (by omega)];obtain⟨o,i⟩:=LY af he h (z0:=z0) (z1:=z1) (z2:=z2) (z3:=z3) (z4:=z4) (a0:=a0) (a1:=a1) (a2:=a2) (a3:=a3) (a4:=a4) (b1:=b1) (b2:=b2) k (j+1) (acc++[v]) (by omega) (by simp;omega);have c:2*j+2=2*(j+1):=(by omega);rw[c];cases hs:cn f (fe (l.drop (2*(j+1))))with
   |none=>exact⟨λm g=>by simp at g,λ_=>i hs⟩
   |some p=>grind
theorem KQ{l:List aj}(af:l.length<=90000)(he:l.length%2=0)(h:∀q,q∈l->∀step b1 b2,fG ts b1 b2 path (f q) (iZ (step,x.aG,q,ts,b1,b2,path)))
 {z0 z2 z4 a0 a2 a4:Int}{z1 a1:Bool}{z3 a3:aj}{b1:aq}{b2:Int}{ks:List I}:∀(k j:Nat) (acc:List I),2*(j+k)=l.length->acc.length=j->
 (∀m,cn f (fm (l.drop (2*j)))=some m->sT (l,((2*j+1:Nat):Int),ts,b1,b2,x,z0,z1,z2,z3,z4,a0,a1,a2,a3,a4,path,ks,acc)=some (.inr (ts,b1,b2,z0,z1,z2,z3,z4,a0,a1,a2,a3,a4,path,ks,acc++m)))/\
 (cn f (fm (l.drop (2*j)))=none->∃w f1 f2,sT (l,((2*j+1:Nat):Int),ts,b1,b2,x,z0,z1,z2,z3,z4,a0,a1,a2,a3,a4,path,ks,acc)=some (.inl (false,ts,f1,f2,w,path)))
 |0,j,acc,e,d=>by
  rw[sT,cl,ee (by omega),show fm ([]:List aj)=[]from rfl,cn];grind
 |k+1,j,acc,e,d=>by
  have aB:2*j+1<l.length:=by omega
  have a:=h _ (bk aB []) (fv .i64 ((2*j+1:Nat):Int) 2) b1 b2;rw[sT,bu,ad (aQ aB),bd,KP aB [],cn];cases b:f (l.getD (2*j+1) [])with
  |none=>
   obtain⟨w,f1,f2,n⟩:=a.2 b;simp_all
  |some v=>
   rw[a.1 v b];simp only[aT,ao,I.aU,di];rw[bt,ad (cQ),O' (by omega)];obtain⟨o,i⟩:=KQ af he h (z0:=z0) (z1:=z1) (z2:=z2) (z3:=z3) (z4:=z4) (a0:=a0) (a1:=a1) (a2:=a2) (a3:=a3) (a4:=a4) (b1:=b1) (b2:=b2) (ks:=ks) k (j+1) (acc++[v]) (by omega) (by simp;omega);have c:2*j+1+2=2*(j+1)+1:=(by omega);rw[c];cases hs:cn f (fm (l.drop (2*(j+1))))with
   |none=>exact⟨λm g=>by simp at g,λ_=>i hs⟩
   |some p=>grind
theorem adl{a b:I}(c:cw a.bc)(d:cw b.bc):pS (a,b)=some (gW a b):=by
 obtain⟨r,e,f⟩:=CB c d;have:=nl c d;grind
theorem ME{x:ah}(c:path.length<=1000){l:List aj}(a:∀y,y∈ks->cw y.bc)(af:ks.length<=90000)
 {z0 z2 z4 a0 a2 a4:Int}{z1 a1:Bool}{z3 a3:aj}{b1:aq}{b2:Int}:∀(k i:Nat),ks.length-(i+1)=k->
 ((∀m,i<=m->m+1<ks.length->gW (ks.getD m au) (ks.getD (m+1) au)<0)/\qu (l,((i+1:Nat):Int),ts,b1,b2,x,z0,z1,z2,z3,z4,a0,a1,a2,a3,a4,path,ks)=some (.inr (l,ts,b1,b2,x,z0,z1,z2,z3,z4,a0,a1,a2,a3,a4,path,ks)))\/
 ((∃m,m+1<ks.length/\¬gW (ks.getD m au) (ks.getD (m+1) au)<0)/\∃w f1 f2,qu (l,((i+1:Nat):Int),ts,b1,b2,x,z0,z1,z2,z3,z4,a0,a1,a2,a3,a4,path,ks)=some (.inl (false,ts,f2,w,path,f1)))
 |0,i,d=>by
  rw[qu,cl];grind
 |k+1,i,d=>by
  have aB:i+1<ks.length:=by omega
  have aK:de .i64 ((i+1:Nat):Int) 1=(i:Int):=by rw[hI];omega
  rw[qu,bu,aK];simp only[aT,ao];rw[ad (aQ (by omega)),bu,ad (aQ aB),bu,bd,bd];simp only[I.aU];rw[adl (a _ (bk (by omega) au)) (a _ (bk aB au))];simp only[ao];by_cases b:gW (ks.getD i au) (ks.getD (i+1) au)<0
  . rw[ak (by simpa using b),bD];rcases ME c a af (x:=x) (l:=l) (z0:=z0) (z1:=z1) (z2:=z2) (z3:=z3) (z4:=z4) (a0:=a0) (a1:=a1) (a2:=a2) (a3:=a3) (a4:=a4) (b1:=b1) (b2:=b2) k (i+1) (by omega)with⟨h1,e⟩|h
    . grind
    grind
  . rw[ad (by simpa using b),zQ c];grind
theorem NT{m:Nat}(h:m<18446744073709551616):cw (jk m):=by
 unfold jk cw;omega
theorem lS:cw 0:=by unfold cw;omega
def l9(o:Option I):Prop:=∀v,o=some v->cw v.bc
theorem l9.ite{c:Prop}[Decidable c]{a b:Option I}(e:c->l9 a)(f:¬c->l9 b):l9 (if c then a else b):=by grind
theorem l9.no:l9 none:=λv h=>(by cases h)
theorem l9.zero{k i:Int}{b:Bool}{s:aj}{a:List I}{r:List bY}:l9 (some ⟨k,b,0,s,i,ks,a,r⟩):=λv h=>(by cases h;exact lS)
theorem l9.map{α:Type}{o:Option α}{k i:Int}{b:Bool}{s:aj}{ks a:α->List I}{r:List bY}:l9 (o.map λv=>⟨k,b,0,s,i,ks v,a v,r⟩):=λv h=>by obtain⟨_,_,rfl⟩:=oa.1 h;exact lS
theorem LZ{n:Nat}(h:cZ ts n t p=some v):cw v.bc:=by
 have key:l9 (cZ ts n t p):=by
  cases n with
  |zero=>unfold cZ;exact .no
  |succ n=>
   unfold cZ;refine .ite (λ_=>.ite (λ_=>.zero) λ_=>.ite (λ_=>.zero) λ_=>.no) λ_=>?_;refine .ite (λ_=>?_) λ_=>?_
   . cases b:hS p with
     |none=>exact .no
     |some m=>exact .ite (λ_=>λv h=>(by cases h;exact NT (D8 b))) λ_=>.no
   refine .ite (λ_=>.ite (λ_=>.zero) λ_=>.no) λ_=>?_;refine .ite (λ_=>?_) λ_=>?_
   . cases b:hS p with
     |none=>exact .no
     |some m=>exact .ite (λ_=>.zero) λ_=>.no
   refine .ite (λ_=>?_) λ_=>?_
   . cases p with
     |nil=>exact .zero
     |cons c q=>exact .ite (λ_=>.map) λ_=>.no
   refine .ite (λ_=>?_) λ_=>?_
   . cases jV p with
     |none=>exact .no
     |some a=>
      obtain⟨id,q⟩:=a;dsimp only;cases cH (ts.getD t.toNat aN).ag id with
      |none=>exact .ite (λ_=>.zero) λ_=>.no
      |some m=>exact .map
   refine .ite (λ_=>?_) λ_=>?_
   . cases iN p with
     |none=>exact .no
     |some l=>exact .ite (λ_=>.map) λ_=>.no
   refine .ite (λ_=>?_) λ_=>?_
   . cases iN p with
     |none=>exact .no
     |some l=>
      refine .ite (λ_=>?_) λ_=>.no;cases cn (cZ ts n (ts.getD t.toNat aN).Key) (fe l)with
      |none=>exact .no
      |some ks=>exact .ite (λ_=>.map) λ_=>.no
   . cases jl p with
     |none=>exact .no
     |some l=>
      dsimp only;split
      . exact .ite (λ_=>.zero) λ_=>.no
      . exact .no
 exact key v h
theorem v8{d:Type}{f:α->Option d}:∀{l:List α} {m:List d},cn f l=some m->∀y,y∈m->∃a,a∈l/\f a=some y
 |[],m,h,y,c=>by rw[cn]at h;cases h;cases c
 |a::l,m,h,y,c=>by
  rw[cn]at h;split at h
  . rename_i b k h1 e;cases h;rcases fg.1 c with rfl|c
    . grind
    . obtain⟨g,i,j⟩:=v8 e y c;grind
  . cases h
theorem DL:∀{l:List α} {y:α},y∈fe l->y∈l
 |[],y,h=>by cases h
 |[_],y,h=>by cases h
 |a::b::l,y,h=>by
  rcases fg.1 h with rfl|h
  . grind
  . exact .tail _ (.tail _ (DL h))
theorem G7:∀(l:List α),(fe l).length<=l.length
 |[]=>ef _
 |[_]=>h' _
 |a::b::l=>by
  show(fe l).length+1<=l.length+1+1;have:=G7 l;omega
theorem Rs(h:a<1000000):fv .i64 (a:Int) 2=((a/2:Nat):Int):=by
 unfold fv;have e:(a:Int).tdiv 2=((a/2:Nat):Int):=by rw[yv (by omega)];omega
 rw[e];exact jC
theorem adm{n:Nat}(ih:wR ts n)(J:x.Kind=8)(bH:0<=x.Key/\x.Key<ts.length)(dR:0<=x.aG/\x.aG<ts.length)(P:p.length<=4096)(Q:path.length+(n+1)=200):
 fG ts b1 b2 path (match iN p with
  |some l=>if l.length%2 = 0/\((l.length/2:Nat):Int)<=x.Max then (match cn (cZ ts n x.Key) (fe l) with
   |some ks=>if oG ks then(cn (cZ ts n x.aG) (fm l)).map λs=>(⟨8,false,0,[],0,ks,s,[]⟩:I)else none
   |none=>none)else none
  |none=>none) (yy (x,p,ts,b1,b2,path)):=by
 obtain⟨o,M,N,O⟩:=zP (p:=p) (by omega);rw[yy,M];simp only[aT,ao];by_cases h0:o.2=0
 . obtain⟨v1,z,v3⟩:=N h0;rw[v1];dsimp only;have G:b' (o.1.length:Int) 2=((o.1.length%2:Nat):Int):=by rw[hg];omega
   rw[G,Rs (by omega)];by_cases he:o.1.length%2=0
   . have b:¬(bif (!(decide (o.2=0)))then true else(!(decide (((o.1.length%2:Nat):Int)=0))))=true:=(by grind);rw[ak b];by_cases t:((o.1.length/2:Nat):Int)<=x.Max
     . rw[ad (show o.1.length%2=0/\((o.1.length/2:Nat):Int)<=x.Max from⟨he,t⟩),ak (show ¬decide (x.Max<((o.1.length/2:Nat):Int))=true by simp only[dp];omega)];have D:∀q,q∈o.1->∀step b1 b2,fG ts b1 b2 path (cZ ts n x.Key q) (iZ (step,x.Key,q,ts,b1,b2,path)):=λq k step b1 b2=>
        v7 (by omega) (ih x.Key q b1 b2 (path++[step]) bH.1 bH.2 (by have:=z q k;omega) (by simp;omega))
       have j:∀q,q∈o.1->∀step b1 b2,fG ts b1 b2 path (cZ ts n x.aG q) (iZ (step,x.aG,q,ts,b1,b2,path)):=λq k step b1 b2=>
        v7 (by omega) (ih x.aG q b1 b2 (path++[step]) dR.1 dR.2 (by have:=z q k;omega) (by simp;omega))
       obtain⟨gC,c⟩:=LY (x:=x) (l:=o.1) (by omega) he D (z0:=0) (z1:=false) (z2:=0) (z3:=[]) (z4:=0) (a0:=x.Kind) (a1:=false) (a2:=0) (a3:=[]) (a4:=0) (b1:=b1) (b2:=b2) (o.1.length/2) 0 [] (by omega) rfl;have d0:o.1.drop (2*0)=o.1:=rfl;rw[d0]at gC c;have z0:((2*0:Nat):Int)=0:=rfl;rw[z0]at gC c;cases hs:cn (cZ ts n x.Key) (fe o.1)with
       |none=>
        obtain⟨w,f1,f2,r⟩:=c hs;rw[r];exact⟨λv h=>(by cases h),λ_=>⟨_,_,_,rfl⟩⟩
       |some ks=>
        rw[gC ks hs];simp only[ao,fR];have E:∀y,y∈ks->cw y.bc:=λy H=>by
         obtain⟨a,_,C⟩:=v8 hs y H;exact LZ C
        have F:ks.length<=90000:=by
         have:=tI hs;have:=G7 o.1;omega
        have B:=ME (ts:=ts) (x:=x) (path:=path) (by omega) (l:=o.1) E F (z0:=0) (z1:=false) (z2:=0) (z3:=[]) (z4:=0) (a0:=x.Kind) (a1:=false) (a2:=0) (a3:=[]) (a4:=0) (b1:=b1) (b2:=b2) _ 0 rfl;have z1:((0+1:Nat):Int)=1:=rfl;rw[z1]at B;rcases B with⟨A,d⟩|⟨⟨m,K,L⟩,w,f1,f2,d⟩
        . have g:oG ks=true:=vZ.2 λi j=>A i (h' _) j;rw[ad g,d];simp only[ao];obtain⟨e,f⟩:=KQ (x:=x) (l:=o.1) (by omega) he j (z0:=0) (z1:=false) (z2:=0) (z3:=[]) (z4:=0) (a0:=x.Kind) (a1:=false) (a2:=0) (a3:=[]) (a4:=0) (b1:=b1) (b2:=b2) (ks:=ks) (o.1.length/2) 0 [] (by omega) rfl;rw[d0]at e f;have z2:((2*0+1:Nat):Int)=1:=rfl;rw[z2]at e f;cases u:cn (cZ ts n x.aG) (fm o.1)with
          |none=>
           obtain⟨w,f1,f2,r⟩:=f u;rw[r];exact⟨λv h=>(by cases h),λ_=>⟨_,_,_,rfl⟩⟩
          |some s=>
           rw[e s u];exact⟨λv h=>(by cases h;simp[J]),λh=>(by cases h)⟩
        . have g:¬oG ks=true:=λh=>L (vZ.1 h m K);rw[ak g,d];exact⟨λv h=>(by cases h),λ_=>⟨I.eta w,f1,f2,rfl⟩⟩
     . rw[ak (show ¬(o.1.length%2=0/\((o.1.length/2:Nat):Int)<=x.Max)fromλh=>t h.2),ad (show decide (x.Max<((o.1.length/2:Nat):Int))=true by simp only[dp];omega)];exact jJ (by omega) _ _ _
   . have b:(bif (!(decide (o.2=0)))then true else(!(decide (((o.1.length%2:Nat):Int)=0))))=true:=(by grind);rw[ak (show ¬(o.1.length%2=0/\((o.1.length/2:Nat):Int)<=x.Max)fromλh=>he h.1),ad b];exact jJ (by omega) _ _ _
 . have b:(bif (!(decide (o.2=0)))then true else(!(decide (b' (o.1.length:Int) 2=0))))=true:=(by simp[h0]);rw[ad b,O h0];exact jJ (by omega) _ _ _
theorem aaw{l:List cR}(m:aS)(af:l.length<=90000):(∃j,j<l.length/\l.find? (λf=>decide (f.ae=m.ae))=some (l.getD j gj)/\xF (l,m)=some ((j:Int),m))\/
 (l.find? (λf=>decide (f.ae=m.ae))=none/\xF (l,m)=some (-1,m)):=by
 have h:=qQ (λi=>pf (l,(l.length:Int),(i:Int),m)) l.length (λi=>decide ((l.getD i gj).ae=m.ae)) (λi=>.inl ((i:Int),m)) (.inr m)
  (λi a=>by
   rw[pf,bu,ad (aQ a)];simp only[aT,ao,bd,I.aU,F5]
   rw[bD])
  (by rw[pf,bt];simp only[jw])
 have cV:pf (l,(l.length:Int),((0:Nat):Int),m)=pf (l,(l.length:Int),0,m):=rfl;simp only[cV]at h;rw[xF];simp only[jw];rcases h with⟨j,h1,c,d,b⟩|⟨h1,b⟩
 . left;refine⟨j,h1,?_,by rw[b];simp only[aT,ao,jw]⟩;rw[dv h1]at c⊢;rw[BS];refine⟨c,j,h1,rfl,λk g=>?_⟩;have:=d k g;rw[dv (by omega)]at this;simpa using this
 . right;refine⟨?_,by rw[b];simp only[aT,ao,jw]⟩;rw[yh];intro f e;obtain⟨i,a,rfl⟩:=eZ e;have:=h1 i a;rw[dv a]at this;simpa using this
def w2{a:Type}:Option a->Option (List a)->Option (List a)
 |some b,some m=>some (b::m)
 |_,_=>none
theorem vc{b:Type}(f:α->Option b)(a:α)(l:List α):cn f (a::l)=w2 (f a) (cn f l):=by rfl
def ei(f:Int->aj->Option I)(l:List cR)(m:aS):Option I:=match l.find? (λf=>decide (f.ae=m.ae))with
 |some g=>f m.av g.Data
 |none=>if m.bZ then some m.bw else none
theorem L0 {x:ah}{path:aq}(F:path.length<=900){f:Int->aj->Option I}{l:List cR}(af:l.length<=90000)(B:x.ag.length<=16)
 (s:∀m,m∈x.ag->m.bZ=true->jI m.bw=some m.bw)
 (h:∀m,m∈x.ag->∀q,q∈l->∀step b1 b2,fG ts b1 b2 path (f m.av q.Data) (iZ (step,m.av,q.Data,ts,b1,b2,path)))
 {z0 z2 z4 a0 a2 a4:Int}{z1 a1:Bool}{z3 a3:aj}{b1:aq}{b2:Int}:∀(k i:Nat) (acc:List I),i+k=x.ag.length->acc.length=i->
 (∀m,cn (ei f l) (x.ag.drop i)=some m->mG (l,x.ag,(x.ag.length:Int),(i:Int),ts,b1,b2,x,z0,z1,z2,z3,z4,a0,a1,a2,a3,a4,path,acc)=some (.inr (l,ts,b1,b2,x,z0,z1,z2,z3,z4,a0,a1,a2,a3,a4,path,acc++m)))/\
 (cn (ei f l) (x.ag.drop i)=none->∃w f1 f2,mG (l,x.ag,(x.ag.length:Int),(i:Int),ts,b1,b2,x,z0,z1,z2,z3,z4,a0,a1,a2,a3,a4,path,acc)=some (.inl (false,ts,f1,f2,w,path)))
 |0,i,acc,E,D=>by
  rw[mG,cl,ee (by omega),cn];grind
 |k+1,i,acc,E,D=>by
  have aB:i<x.ag.length:=by omega
  have u:=bk aB aE;have e:x.ag.drop i=x.ag.getD i aE::x.ag.drop (i+1):=by rw[dv aB];exact lk aB
  have go:∀v,(∀n,cn (ei f l) (x.ag.drop (i+1))=some n->mG (l,x.ag,(x.ag.length:Int),((i+1:Nat):Int),ts,b1,b2,x,z0,z1,z2,z3,z4,a0,a1,a2,a3,a4,path,acc++[v])=some (.inr (l,ts,b1,b2,x,z0,z1,z2,z3,z4,a0,a1,a2,a3,a4,path,acc++[v]++n)))/\(cn (ei f l) (x.ag.drop (i+1))=none->∃w f1 f2,mG (l,x.ag,(x.ag.length:Int),((i+1:Nat):Int),ts,b1,b2,x,z0,z1,z2,z3,z4,a0,a1,a2,a3,a4,path,acc++[v])=some (.inl (false,ts,f1,f2,w,path))):=λv=>
   L0 F af B s h k (i+1) (acc++[v]) (by omega) (by simp;omega)
  rw [mG,bu,ad (aQ aB),bd,e,vc];simp only [aT,ao,jw];generalize x.ag.getD i aE = a at *;have z:∀ (v:I) (d:Option _),ei f l a = some v->d = mG (l,x.ag,(x.ag.length:Int),((i+1:Nat):Int),ts,b1,b2,x,z0,z1,z2,z3,z4,a0,a1,a2,a3,a4,path,acc++[v])->
   (∀m,w2 (ei f l a) (cn (ei f l) (x.ag.drop (i+1)))=some m->d=some (.inr (l,ts,b1,b2,x,z0,z1,z2,z3,z4,a0,a1,a2,a3,a4,path,acc++m)))/\
   (w2 (ei f l a) (cn (ei f l) (x.ag.drop (i+1)))=none->∃w f1 f2,d=some (.inl (false,ts,f1,f2,w,path))):=by
   intro v d c C;obtain⟨H,A⟩:=go v;rw[c,C];cases hs:cn (ei f l) (x.ag.drop (i+1))with
   |none=>exact⟨λm b=>(by cases b),λ_=>A hs⟩
   |some n=>
    refine⟨λm b=>?_,λh=>(by cases h)⟩;have:m=v::n:=(by cases b;rfl)
    grind
  rcases aaw a af with⟨j,y,g,r⟩|⟨g,r⟩
  . rw[r];simp only[ao];rw[hN,ad (aQ y),bd];have t:=h a u _ (bk y gj) a.ae b1 b2;have p:ei f l a=f a.av (l.getD j gj).Data:=by unfold ei;rw[g]
    cases c:f a.av (l.getD j gj).Data with
    |none=>
     obtain⟨w,f1,f2,G⟩:=t.2 c;rw[G,p,c];exact⟨λm b=>(by cases b),λ_=>⟨w,f1,f2,by simp[I.aU]⟩⟩
    |some v=>
     rw[t.1 v c];simp only[ao,I.aU,di];rw[bt,ad (cQ),bD];grind
  . rw[r];simp only[ao];rw[bt];cases o:a.bZ with
    |true=>
     rw[ad rfl];simp only[I.aU];rw[s a u o];simp only[ao,I.aU];rw[ad (cQ),bD];exact z a.bw _ (by unfold ei;rw[g];simp[o]) rfl
    |false=>
     have p:ei f l a=none:=by unfold ei;rw[g];simp[o]
     rw[bt,ad (cQ),zQ (by simp;omega),p];simp only[ao,I.aU];have aK:de .i64 ((path++[a.ae]).length:Int) 1=(path.length:Int):=by rw[hI (by simp<;>omega) (by simp<;>omega)];simp
     rw[aK,ad (iK.2 (by simp;omega)),hN,bd];exact⟨λm b=>(by cases b),λ_=>⟨_,_,_,by simp;exact⟨rfl,rfl,rfl⟩⟩⟩
end
end
end Go.Proofs.YtdjagncoefjfeaaGreat
