/- The functions of the program as functions of Lean, that its code does what they say, and what they answer; part D. -/
import Derived.Test.YtdjagncoefjfeaaGreatCkC

namespace Go.Proofs.YtdjagncoefjfeaaGreat
set_option linter.all false
section
open Go Go.Proofs.YtdjagncoefjfeaaGreat.Shv Go.Sort
set_option maxRecDepth 100000
variable{id z0 z2 z4 t b2 L rt:Int}{x y:ai}{v:I}{z1 a1:Bool}{z3 p a3 q:aj}{ts tw tr:List ai}{ks l2:List I}{path b1:ao}{o:Option I}{α c:Type}{f:aj->Option I}{j:Nat}{a:Option (I×Bool×List ai×ao×Int×ao)}{F:iT}{ms:List aR}{aL:List fC}
section
variable {ts:List ai}
theorem P1(a:fV x.af)(ah:x.af.length<=1000){m:aR}(bn:cw x.af id=some m):∃j,j<x.af.length/\fw (x,id)=some ((j:Int),true)/\x.af.getD j aw=m:=by
 obtain⟨j,b,c,d⟩:=M7 a ah bn;obtain⟨r,e,f,_⟩:=ma (t:=x) id (by omega);refine⟨j,b,?_,d⟩;rw[f,<-e,c]
theorem aeD(d:fV x.af)(ah:x.af.length<=1000){i:Nat}(a:i<x.af.length):fw (x,(x.af.getD i aw).ad)=some ((i:Int),true):=by
 have g:=aZ a aw;obtain⟨r,e,f⟩:=Ah (t:=x) (id:=(x.af.getD i aw).ad) (by omega);rw[e];rcases f with⟨j,h1,b,c,rfl⟩|⟨h1,_⟩
 . have:j=i:=by
    rw[dd h1,dd a]at b;rcases CJ j i with h|h|h
    . have:=uN.1 d.1 j i h1 a h;omega
    . exact h
    . exact absurd rfl (c i h)
   rw[this]
 . exact absurd rfl (h1 i a)
mutual
theorem Hl(t:Int):∀(v:I) (q:ln),q∈eK ts t v->q.1.length<=wt v
 |⟨k,b,i,s,id,ks,c,r⟩,q,a=>by
  rw[eK]at a;rw[wt];rcases eR.1 a with rfl|a
  . exact iq _
  . have:=Hm _ _ _ c q a;omega
theorem Hm(x:ai)(id:Int)(i:Nat):∀(l:List I) (q:ln),q∈hd ts x id i l->q.1.length<=cx l
 |[],q,a=>by rw[hd]at a;cases a
 |v::l,q,a=>by
  rw[hd]at a;rw[cx];rcases hb.1 a with a|a
  . obtain⟨w,e,rfl⟩:=eS.1 a;have h1:=ajB _ v w e;show w.1.length+1<=_;omega
  . have:=Hm x id (i+1) l q a;omega
theorem ajB(t:Int):∀(v:I) (q:ln),q∈eK ts t v->q.1.length+1<=wt v
 |⟨k,b,i,s,id,ks,c,r⟩,q,a=>by
  rw[eK]at a;rw[wt];rcases eR.1 a with rfl|a
  . show 0+1<=_;omega
  . have:=Hm _ _ _ c q a;omega
end
theorem Jh{x:ai}{id:Int}:∀{l:List I} {i:Nat} {q:ln},q∈hd ts x id i l->∃j,j<l.length/\∃w,w∈eK ts (Hc x id (i+j)) (l.getD j ar)/\q=(Dm x id (i+j)::w.1,w.2)
 |[],i,q,a=>by rw[hd]at a;cases a
 |v::l,i,q,a=>by
  rw[hd]at a;rcases hb.1 a with a|a
  . obtain⟨w,b,rfl⟩:=eS.1 a;exact⟨0,by simp,w,b,rfl⟩
  . obtain⟨j,e,w,c,d⟩:=Jh a;refine⟨j+1,by simp;omega,w,?_,?_⟩
    . rw[show i+(j+1)=i+1+j from by omega];exact c
    . rw[show i+(j+1)=i+1+j from by omega];exact d
theorem aeE{pl:Bool}(l:bC v):∀t,bO ts pl t v->∀q,q∈eK ts t v->bO ts pl q.2.1 q.2.2/\bC q.2.2:=by
 induction l with
 |mk v hs h1 e f i g k cZ n o p r m=>
  intro t b q a;rw[AG]at a;rcases eR.1 a with rfl|a
  . exact⟨b,.mk v hs h1 e f i g k cZ n o p⟩
  . obtain⟨j,c,w,d,rfl⟩:=Jh a;rw[gC]at d;exact m _ (aZ c ar) _ (oO b j c) w d
theorem P2{n i5:Int}{v:I}{x:ai}{l:List ao}(a:∀q,q∈l->q.length<=10000000000)(b:l.length<=50000000000):∀(k i:Nat) (acc:List ao),i+k=l.length->acc.length+k<=50000000000->
 mi (i5,n,l,(i:Int),ts,v,acc,x)=some (i5,ts,v,acc++(l.drop i).map (λq=>n::q),x)
 |0,i,acc,d,c=>by
  rw[mi,cr,ei (by omega)];simp[I.aP]
 |k+1,i,acc,d,c=>by
  have aC:i<l.length:=by omega
  have h1:=a _ (aZ aC []);rw[mi,bE,ae (aH aC),aV];simp only[aS,ak,I.aP];rw[ae (jv (by omega) (by rw[cc];show 1+_<=_;omega)),ae (jv (by omega) (by rw[cc];show acc.length+1<=_;omega)),bA (by omega)];have ih:=P2 (n:=n) (i5:=i5) (v:=v) (x:=x) a b k (i+1) (acc++[n::l.getD i []]) (by omega) (by rw[cc];show acc.length+1+k<=_;omega);have e:([n]++l.getD i []:ao)=n::l.getD i []:=rfl;rw[e,ih,jB aC,iJ,dd aC,gg];rfl
def Bi(ts:List ai)(t:Int)(v:I):Prop:=ng ((⟨ts⟩:aO),t,v)=some ((eK ts t v).map Prod.fst)
theorem P3 {x:ai}{v:I}(ah:v.ag.length<=1000)(bf:x.Kind=5->v.ag.length<=x.af.length)(c:x.Kind=6->0<v.ag.length->∃m,cw x.af v.ad=some m)(a:x.Kind=6->fV x.af/\x.af.length<=16)
 (h:∀i,i<v.ag.length->Bi ts (dG x v i) (v.ag.getD i ar))(u:cx v.ag<=5000000000):∀(k i:Nat) (acc:List ao),i+k=v.ag.length->acc.length+cx (v.ag.drop i)<=20000000000->
 n5 ((i:Int),ts,v,acc,x)=some (acc++(hd ts x v.ad i (v.ag.drop i)).map Prod.fst)
 |0,i,acc,p,g=>by
  rw[n5,cr,ei (by omega),hd];simp
 |k+1,i,acc,p,g=>by
  have aC:i<v.ag.length:=by omega
  have E:=A7 aC;have C:=It v.ag i;have d:=h i aC;unfold Bi at d;have D:((eK ts (dG x v i) (v.ag.getD i ar)).map Prod.fst).length<=wt (v.ag.getD i ar):=by rw[jc];exact u2 _ _
  have s:=λ(n:Int)=>P2 (ts:=ts) (n:=n) (i5:=(i:Int)) (v:=v) (x:=x) (l:=(eK ts (dG x v i) (v.ag.getD i ar)).map Prod.fst) (λq t=>by
   obtain⟨w,y,rfl⟩:=eS.1 t;have:=Hl _ _ _ y
   omega) (by omega) _ 0 acc (gC _) (by omega)
  have ih:=P3 ah bf c a h u k (i+1) (acc++((eK ts (dG x v i) (v.ag.getD i ar)).map Prod.fst).map (λq=>gi x v i::q)) (by omega) (by rw[cc,jc];omega);have b:∀T N,T=dG x v i->N=gi x v i->(ng ((⟨ts⟩:aO),T,v.ag.getD i ar)>>=λr=>mi ((i:Int),N,r,0,ts,v,acc,x)>>=λo=>n5 (aK .i64 o.1 1,o.2.1,o.2.2.1,o.2.2.2.1,o.2.2.2.2))=some (acc++(hd ts x v.ad i (v.ag.drop i)).map Prod.fst):=by
   intro T N cS cq;rw[cS,cq,d];simp only[aS,ak];have h0:=s (gi x v i);rw[fc]at h0;have f:mi ((i:Int),gi x v i,(eK ts (dG x v i) (v.ag.getD i ar)).map Prod.fst,0,ts,v,acc,x)=_:=h0;rw[f];simp only[ak];rw[bA (by omega),ih,JF x v aC,qC,gg];simp[List.map_map,Function.comp_def]
  rw[n5,bE];simp only[I.aP];by_cases k5:x.Kind=5
  . have e:i<x.af.length:=by have:=bf k5;omega
    rw[ae (by simp[k5]),ae (aH e),ae (aH e),al (by simp[k5]),ae (aH aC),aV];exact b _ _ (by unfold dG;rw[ae k5]) (by unfold gi;rw[ae k5])
  . rw[al (by simp[k5])];by_cases k6:x.Kind=6
    . obtain⟨m,bn⟩:=c k6 (by omega);obtain⟨j,z,A,B⟩:=P1 (a k6).1 (by have:=(a k6).2;omega) bn;rw[ae (by simp[k6]),A];simp only[aS,ak];rw[ae (aH z),ae (aH aC),aV,aV,B];exact b _ _ (by unfold dG;rw[al k5,ae k6,bn];rfl) (by unfold gi;rw[al k5,ae k6])
    . rw[al (by simp[k6]),ae (aH aC),aV];exact b _ _ (by unfold dG;rw[al k5,al k6]) (by unfold gi;rw[al k5,al k6])
theorem adG(H:nO ts)(j:bC v):∀t,jH v->bO ts false t v->wt v<=5000000000->Bi ts t v:=by
 have S:=H.V.fR H.T;induction j with
 |mk v hs h1 p q u s y cZ G J K D k=>
  intro t c a z;obtain⟨E,l2,F⟩:=AF c a;obtain⟨⟨l,m,n,o⟩,r⟩:=(dO _ _ _).1 a;have g:=aZ (by omega:t.toNat<ts.length) aG;have B:=eV v;have f:∀i,i<v.ag.length->Bi ts _ _:=λi d=>by
   have b:=aZ d ar;exact k _ b _ (c.items _ b) (oO a i d) (by have:=e2 b;omega)
  have e:ay t ts.length=true:=by grind[ay]
  unfold Bi;rw[ng,ae e,AG];generalize C:ts.getD _ aG=x at*;simp only[I.aP]
  have:=P3 (by omega) (λk5=>by
   grind[gV]) (λk6 w=>by
   grind) (λk6=>S.A x g (.inr k6)) f (by omega) v.ag.length 0 [[]] (by simp) (by grind)
  grind
theorem ags(S:hj ts)(D:bC v):∀t,bO ts false t v->∀q,q∈eK ts t v->∀pre:ao,pre.length+q.1.length<=100000000000->
 nh (t,pre++q.1,(pre.length:Int),ts,v,z0,z1,z2,z3,z4)=some (.inr (q.2.1,q.2.2,z0,z1,z2,z3,z4)):=by
 induction D with
 |mk v hs h1 O P b Q T cZ W X Y U F=>
  intro t l q d pre R;rw[AG]at d;rcases eR.1 d with rfl|d
  . rw[nh,bz];grind[I.aP]
  . obtain⟨j,a,w,r,rfl⟩:=Jh d;rw[gC]at r;have B:=oO l j a;obtain⟨⟨K,L,M,N⟩,g⟩:=(dO _ _ _).1 l;have p:=aZ (by omega:t.toNat<ts.length) aG;have u:ay t ts.length=true:=by simp[ay];omega
    generalize E:ts.getD t.toNat aG=x at*;rw[gC];generalize aJ:Dm x v.ad j=n at*;have ih:=F _ (aZ a ar) _ B w r (pre++[n]) (by grind);have aM:(pre++[n]:ao)++w.1=pre++n::w.1:=(by simp);have s:((pre++[n]:ao).length:Int)=((pre.length+1:Nat):Int):=by simp
    rw[aM,s]at ih;have c2:(pre++n::w.1:ao).getD pre.length 0=n:=by
     simp
    rw[nh,bE,ae u];simp only[aS,ak,E,I.aP];rw[ae (aH (by simp)),aV,c2,bA (by omega)];have i:n=gi x v j:=by rw[ajo];exact aJ.symm
    by_cases k5:x.Kind=5
    . have c:=S.A x p (.inl k5);have o:j<x.af.length:=by
       rcases g with h|h|h|h|h|h|h|h|h
       case inr.inr.inr.inr.inl=>grind[gV]
       all_goals (have:=h.1;omega)
      have cq:n=(x.af.getD j aw).ad:=by rw[i];unfold gi;rw[ae k5]
      have cS:(x.af.getD j aw).av=dG x v j:=by unfold dG;rw[ae k5]
      have k:=aeD c.1 (by have:=c.2;omega) o;rw[<-cq]at k;rw[ae (by simp[k5]),k];simp only[ak];rw[ae trivial,ae (aH o),bz,ae (aH a),aV,cS];grind
    . rw[al (by simp[k5])];by_cases k6:x.Kind=6
      . have c:=S.A x p (.inr k6);have z:j=0/\∃m,cw x.af v.ad=some m:=by
         rcases g with h|h|h|h|h|h|h|h|h
         case inr.inr.inr.inr.inr.inl=>
          obtain⟨a1,a2,a3,a4,a5,e⟩:=h;split at e
          . rename_i m C;exact⟨by have:=e.2.1;omega,m,C⟩
          . rw[e.2.2.2.1]at a;cases a
         all_goals (have:=h.1;omega)
        obtain⟨rfl,m,bn⟩:=z;obtain⟨V,G,H,J⟩:=P1 c.1 (by have:=c.2;omega) bn;have cq:n=v.ad:=by rw[i];unfold gi;rw[al k5,ae k6]
        have cS:m.av=dG x v 0:=by unfold dG;rw[al k5,ae k6,bn];rfl
        have y:ay 0 v.ag.length=true:=aH a;rw[ae (by simp[k6]),cq,H];simp only[ak];rw[hQ,ae (aH G),ae y,aV,J,cS,show(0:Int).toNat=0 from rfl,<-cq];exact ih
      . rw[al (by simp[k6])];have cq:n=(j:Int):=by rw[i];unfold gi;rw[al k5,al k6]
        have cS:x.aD=dG x v j:=by unfold dG;rw[al k5,al k6]
        have b:x.Kind=7\/x.Kind=8\/x.Kind=9:=by
         rcases g with h|h|h|h|h|h|h|h|h
         . rw[h.2.2.2.2.2.1]at a;cases a
         . rw[h.2.2.2.2.2.1]at a;cases a
         . rw[h.2.2.2.2.2.1]at a;cases a
         . rw[h.2.2.2.2.2.1]at a;cases a
         all_goals (have:=h.1;omega)
        rw[cq]at ih⊢;have f:(bif decide ((0:Int)<=(j:Int))then decide ((j:Int)<(v.ag.length:Int))else false)=true:=by
         have:(j:Int)<(v.ag.length:Int):=(by omega);simp[this]
        rcases b with b|b|b
        . rw[b];simp only[Int.reduceEq,dc,c6,bM,eq_self,bW,b6];rw[ae f,bz,ae (aH a),aV,cS];exact ih
        . rw[b];simp only[Int.reduceEq,dc,c6,bM,eq_self,bW,b6];rw[ae f,bz,ae (aH a),aV,cS];exact ih
        . rw[b];simp only[Int.reduceEq,dc,c6,bM,eq_self,bW,b6];rw[ae f,bz,ae (aH a),aV,cS];exact ih
theorem afZ(S:hj ts)(a:bC v)(b:bO ts false t v){q:ln}(c:q∈eK ts t v)(aJ:q.1.length<=100000000000):D2 ((⟨ts⟩:aO),t,v,q.1)=some (q.2.2,q.2.1,0):=by
 obtain⟨x,d,e⟩:=uI (by have:=S.n;omega) S.T S.K a t false;have bn:vP (⟨ts⟩,t,v)=some true:=by
  grind[vP,I.aP]
 rw[D2];simp[I.aP];have:=ags S a t b q c [] (z0:=0) (z1:=false) (z2:=0) (z3:=[]) (z4:=0) (by grind);grind
theorem wY{b:Bool}(h:b=true↔nS ts x v):lQ ts x v=b:=by
 rw[yP,D5];grind
theorem abB(a:eW x)(v:I):∃r,oh (x,v.ad)=some r/\((!r.2)=true↔¬(∃y,y∈x.bj/\y.ad=v.ad)):=by
 obtain⟨r,_,f,b⟩:=p0 (t:=x) v.ad (by have:=a.1;have:=dx (eI _);omega);rcases b with⟨j,c,d,e,rfl⟩|⟨q,rfl⟩
 . grind
 grind[List.getElem_of_mem]
theorem Pq(S:hj ts)(a:bO ts false t v)(o:(ts.getD t.toNat aG).Kind≠8):qd ((⟨ts⟩:aO),t,v)=some (lQ ts (ts.getD t.toNat aG) v):=by
 obtain⟨⟨j,l,m,n⟩,p⟩:=(dO _ _ _).1 a;have d:=aZ (by omega:t.toNat<ts.length) aG;have c:ay t ts.length=true:=by simp[ay];omega
 generalize e:ts.getD t.toNat aG=x at*;have q:v.aB=[]:=by
  grind
 have s:∀k,k∈v.aB->jG (ts.getD x.Key.toNat aG) k:=by grind
 have u:decide (0<(v.Rest.length:Int))=true↔v.Rest≠[]:=by
  cases v.Rest<;>grind
 rw[qd,ae c];simp only[aS,ak,e,I.aP];by_cases k5:x.Kind=5
 . rw[k5];simp only[Int.reduceEq,dc,c6,bM,eq_self,bW,b6];rw[wY];grind[nS,jG]
 . by_cases k6:x.Kind=6
   . rw[k6];simp only[Int.reduceEq,dc,c6,bM,eq_self,bW,b6];rw[wY];grind[nS,jG]
   . have w:v.Rest=[]:=by
      grind
     have fu:decide (x.Kind=5)=false:=(by grind);have f:decide (x.Kind=6)=false:=(by grind);have g:decide (x.Kind=8)=false:=(by grind);simp only[fu,f,g,bW,b6];by_cases k4:x.Kind=4
     . obtain⟨r,i,y⟩:=abB (S.T x d) v;rw[ae (by simp[k4]),i];simp only[ak];rw[wY (b:=!r.2)];grind[nS,jG]
     simp_all[al,wY,nS,jG,bW,false_iff]
theorem P9{x:ai}{k:I}(a:bO ts false t k)(h1:1<=(ts.getD t.toNat aG).Kind/\(ts.getD t.toNat aG).Kind<=4):lQ ts (ts.getD t.toNat aG) k=true↔¬jG (ts.getD t.toNat aG) k:=by
 grind[dO,D5,nS]
theorem afB(S:hj ts)(u:bC v)(o:bO ts false t v):qd ((⟨ts⟩:aO),t,v)=some (lQ ts (ts.getD t.toNat aG) v):=by
 by_cases g:(ts.getD t.toNat aG).Kind=8
 . obtain⟨⟨z,A,B,C⟩,D⟩:=(dO _ _ _).1 o;have s:=aZ (by omega:t.toNat<ts.length) aG;have q:ay t ts.length=true:=(by grind[ay]);have l:=S.o6 _ s g;generalize w:ts.getD t.toNat aG=x at*;have p:v.Rest=[]/\e0 ts false x.Key v.aB:=by
    grind
   obtain⟨F,d⟩:=p;have E:=by
    cases u with
    |mk v hs h1=>exact dx h1
   have h:=ns (λi=>pD ((i:Int),ts,v,x)) v.aB.length _ _ (.inr ())
    (λi a=>by
     have c:=cD.1 d _ (aZ a ar);rw[pD,ae (by grind),ae (aH a),aV,bA (by omega)];simp only[I.aP];rw[Pq S c (by omega)]
     rfl)
    (by simp_all[pD,al])
   have cQ:pD (((0:Nat):Int),ts,v,x)=pD (0,ts,v,x):=rfl;simp only[cQ]at h;rw[qd,ae q];simp only[aS,ak,w,I.aP];rw[g];rcases h with⟨j,e,y,_,f⟩|⟨e,f⟩
   . rw[f,wY (b:=true)]
     . rfl
     . simp only[true_iff];have r:=cD.1 d _ (aZ e ar);exact .inr (.inr λn=>(P9 (x:=x) r l).1 y (n _ (aZ e ar)))
   . rw[f,wY (b:=false)]
     . rfl
     . simp only[bW,false_iff];intro h;rcases h with h|h|h
       . grind
       . exact h λk4=>absurd k4 (by omega)
       . refine h λk m=>?_;obtain⟨i,a,rfl⟩:=e3 m;have c:=cD.1 d _ m;exact Classical.byContradiction λaJ=>by
          have:=(P9 (x:=x) c l).2 aJ;simp_all
 grind[Pq]
theorem I1(S:hj ts)(b:bC v)(a:bO ts false t v)(e:wt v<=5000000000):∀(k i:Nat) (acc:List ao),i+k=(eK ts t v).length->acc.length+k<=50000000000->
 qa (t,(eK ts t v).map Prod.fst,(i:Int),ts,v,acc)=some (acc++((eK ts t v).drop i).filterMap (hc ts []))
 |0,i,acc,g,f=>by
  simp_all[qa,al,ei]
 |k+1,i,acc,g,f=>by
  have aC:i<(eK ts t v).length:=by omega
  have d:i<((eK ts t v).map Prod.fst).length:=by grind
  have l:=u2 (ts:=ts) t v;have c:=yN aC;obtain⟨f1,f2⟩:=aeE b t a _ c;have m:=Hl t v _ c;have aM:((eK ts t v).map Prod.fst).getD i []=(eK ts t v)[i].1:=by grind
  rw[qa,ae (by grind),ae (aH d),aV,aM];simp only[I.aP];rw[afZ S b a c (by omega)];simp only[aS,ak,I.aP];rw[afB S f2 f1];simp only[ak];rw[bA (by omega),jB aC,GF];have hs:hc ts [] (eK ts t v)[i]=if lQ ts (ts.getD (eK ts t v)[i].2.1.toNat aG) (eK ts t v)[i].2.2 then some (eK ts t v)[i].1 else none:=by rfl
  rw[hs];cases j:lQ ts _ _ with
  |true=>
   rw[ae rfl,ae (aH d),ae (jv (by simp) (by grind)),ae rfl];rw[I1 S b a e k _ _ (by omega) (by grind),gg];rfl
  |false=>
   exact I1 S b a e k (i+1) acc (by omega) (by omega)
end
theorem Y1(H:nO ts)(a:bC v)(b:bO ts false t v):tb ((⟨ts⟩:aO),t,v)=some 0:=by
 have S:=H.V.fR H.T;obtain⟨v1,_⟩:=oJ H.T H.V;obtain⟨⟨c,d,_⟩,_⟩:=(dO _ _ _).1 b;have e:vZ (⟨ts⟩,t)=some 0:=by
  simp_all[vZ]
 have bn:p2 (⟨ts⟩,t,v)=some true:=by
  obtain⟨q,f,g⟩:=JS (by have:=S.n;omega) H.T S.K a t false;obtain⟨x,i,j⟩:=uI (by have:=S.n;omega) H.T S.K a t false;grind[p2,I.aP]
 simp_all[tb,I.aP,bn]
noncomputable def se (ts:List ai)(t:Int)(v:I):List ao:=(eK ts t v).filterMap (hc ts [])
theorem adH(H:nO ts)(b:bC v)(c:jH v)(a:bO ts false t v)(d:wt v<=5000000000):
 wh ((⟨ts⟩:aO),t,v)=some (se ts t v,0)/\wE ((⟨ts⟩:aO),t,v)=some (se ts t v,0):=by
 have S:=H.V.fR H.T;obtain⟨_,e⟩:=N2 H.T H.V b a;constructor
 . rw[wh];simp[I.aP];rw[Y1 H b a];rw[adF H b c a (by omega)];rfl
 . rw[wE];simp[I.aP];rw[e];have f:=adG H b t c a d;have ah:=u2 (ts:=ts) t v;have g:=I1 S b a d _ 0 [] (gC _) (by grind);have i:qa (t,(eK ts t v).map _,0,ts,v,[])=_:=g;rw[f];simp;rw[i];rfl
theorem abC(H:c8 ts)(b:bC v)(a:bO ts false t v)(c:wt v<=5000000000):
 wh ((⟨ts⟩:aO),t,v)=some (se ts t v,0)/\wE ((⟨ts⟩:aO),t,v)=some (se ts t v,0):=adH H.g b (P7 H b a) a c
def cg{α c:Type}(f:α->Option c):List α->Option (List c)
 |[]=>some []
 |a::l=>match f a,cg f l with
  |some b,some m=>some (b::m)
  |_,_=>none
def fk{α:Type}:List α->List α
 |a::_::l=>a::fk l
 |_=>[]
def e5{α:Type}:List α->List α
 |_::b::l=>b::e5 l
 |_=>[]
def o'(ks:List I):Bool:=(List.range (ks.length-1)).all λi=>decide (hT (ks.getD i ar) (ks.getD (i+1) ar)<0)
theorem wL:o' ks=true↔jX ks:=by
 unfold o' jX;grind
def cK(ts:List ai):Nat->Int->aj->Option I
 |0,_,_=>none
 |n+1,t,p=>
  let x:=ts.getD t.toNat aG
  if x.Kind=1 then(if p=[]then some ⟨1,false,0,[],0,[],[],[]⟩else if p=[1]then some ⟨1,true,0,[],0,[],[],[]⟩else none)else if x.Kind=2 then(match hU p with
   |some m=>if x.bJ<=ji m/\ji m<=x.bN then some ⟨2,false,ji m,[],0,[],[],[]⟩else none
   |none=>none)
  else if x.Kind=3 then(if(p.length:Int)<=x.Max then some ⟨3,false,0,p,0,[],[],[]⟩else none)else if x.Kind=4 then(match hU p with
   |some m=>if 1<=m/\m<=1000/\((x.bj.any λy=>decide (y.ad=(m:Int)))||x.Open)=true then some ⟨4,false,0,[],(m:Int),[],[],[]⟩else none
   |none=>none)
  else if x.Kind=9 then(match p with
   |[]=>some ⟨9,false,0,[],0,[],[],[]⟩
   |c::q=>if c=1 then(cK ts n x.aD q).map λv=>⟨9,false,0,[],0,[],[v],[]⟩else none)
  else if x.Kind=6 then(match j8 p with
   |some (id,q)=>(match cw x.af id with
    |some m=>(cK ts n m.av q).map λv=>⟨6,false,0,[],id,[],[v],[]⟩
    |none=>if x.Open then some ⟨6,false,0,[],id,[],[],[⟨id,q⟩]⟩else none)
   |none=>none)
  else if x.Kind=7 then(match iK p with
   |some l=>if(l.length:Int)<=x.Max then(cg (cK ts n x.aD) l).map λa=>⟨7,false,0,[],0,[],a,[]⟩else none
   |none=>none)
  else if x.Kind=8 then(match iK p with
   |some l=>if l.length%2 = 0/\((l.length/2:Nat):Int)<=x.Max then (match cg (cK ts n x.Key) (fk l) with
    |some ks=>if o' ks then(cg (cK ts n x.aD) (e5 l)).map λa=>⟨8,false,0,[],0,ks,a,[]⟩else none
    |none=>none)else none
   |none=>none)
  else(match jj p with
   |some l=>(match cg (λm:aR=>match l.find? (λf=>decide (f.ad = m.ad)) with
    |some f=>cK ts n m.av f.Data
    |none=>if m.bu then some m.bm else none) x.af with
    |some a=>if(l.all λf=>(cw x.af f.ad).isSome || !f.b8) then some ⟨5,false,0,[],0,[],a,(l.filter λf=>!(cw x.af f.ad).isSome).map λf=>⟨f.ad,f.Data⟩⟩else none
    |none=>none)
   |none=>none)
section
variable {ts:List ai}
def fJ(ts:List ai)(b1:ao)(b2:Int)(path:ao)(o:Option I)(r:Option (I×Bool×List ai×ao×Int×ao)):Prop:=
 (∀v,o=some v->r=some (v,true,ts,b1,b2,path))/\(o=none->∃w f1 f2,r=some (w,false,ts,f1,f2,path))
theorem A8(b:path.length<=1000)(a:Int)(b1:ao)(b2:Int):hC (a,ts,b1,b2,path)=some ((⟨0,false,0,[],0,[],[],[]⟩:I),false,ts,a,path,path):=by
 rw[hC];unfold ud eO;rw[ae (lA (cV (by omega) (by omega)))];simp
theorem wM{step:Int}(e:path.length<=1000)(h:fJ ts b1 b2 (path++[step]) o (p4 (t,p,ts,b1,b2,path++[step]))):
 fJ ts b1 b2 path o (iQ (step,t,p,ts,b1,b2,path)):=by
 have key:∀w b f1 f2,p4 (t,p,ts,b1,b2,path++[step])=some (w,b,ts,f1,f2,path++[step])->iQ (step,t,p,ts,b1,b2,path)=some (w,b,ts,f1,f2,path):=by
  intro w b f1 f2 a;rw[iQ];simp only[aS,ak];rw[ae (cV),a];simp only[ak,I.aP];have aM:di .i64 ((path++[step]).length:Int) 1=(path.length:Int):=by rw[hJ (by simp<;>omega) (by simp<;>omega)];simp
  rw[aM];have d:d' 0 (path.length:Int) (path++[step]).length=true:=iF.2 (by simp;omega);simp_all
 refine⟨λv c=>key _ _ _ _ (h.1 v c),λaJ=>?_⟩;obtain⟨w,f1,f2,a⟩:=h.2 aJ;exact⟨w,f1,f2,key _ _ _ _ a⟩
theorem qj{f:α->Option c}:∀{l:List α} {m:List c},cg f l=some m->m.length=l.length
 |[],m,h=>by rw[cg]at h;cases h;rfl
 |a::l,m,h=>by
  rw[cg]at h;split at h
  . rename_i b e h1 d;cases h;rw[h8,h8,qj d]
  . cases h
theorem Pr{l:List aj}(ah:l.length<=90000)(h:∀q,q∈l->∀step b1 b2,fJ ts b1 b2 path (f q) (iQ (step,x.aD,q,ts,b1,b2,path)))
 {z0 z2 z4 a0 a2 a4:Int}{z1 a1:Bool}{z3 a3:aj}{b1:ao}{b2:Int}:∀(k i:Nat) (acc:List I),i+k=l.length->acc.length=i->
 (∀m,cg f (l.drop i)=some m->tL (l,(l.length:Int),(i:Int),ts,b1,b2,x,z0,z1,z2,z3,z4,a0,a1,a2,a3,a4,path,acc)=some (.inr (ts,b1,b2,z0,z1,z2,z3,z4,a0,a1,a2,a3,a4,path,acc++m)))/\
 (cg f (l.drop i)=none->∃w f1 f2,tL (l,(l.length:Int),(i:Int),ts,b1,b2,x,z0,z1,z2,z3,z4,a0,a1,a2,a3,a4,path,acc)=some (.inl (false,ts,f1,f2,w,path)))
 |0,i,acc,d,c=>by
  rw[tL,cr,ei (by omega),cg];grind
 |k+1,i,acc,d,c=>by
  have aC:i<l.length:=by omega
  have a:=h _ (aZ aC []) (i:Int) b1 b2;have e:l.drop i=l.getD i []::l.drop (i+1):=by rw[dd aC];exact jB aC
  rw[tL,bE,ae (aH aC),aV,e,cg];cases b:f (l.getD i [])with
  |none=>
   obtain⟨w,f1,f2,n⟩:=a.2 b;simp_all
  |some v=>
   rw[a.1 v b];simp only[aS,ak,I.aP,de];rw[bz,ae (cV),bA (by omega)];obtain⟨o,j⟩:=Pr ah h (z0:=z0) (z1:=z1) (z2:=z2) (z3:=z3) (z4:=z4) (a0:=a0) (a1:=a1) (a2:=a2) (a3:=a3) (a4:=a4) (b1:=b1) (b2:=b2) k (i+1) (acc++[v]) (by omega) (by simp;omega);cases hs:cg f (l.drop (i+1))with
   |none=>exact⟨λm g=>by simp at g,λ_=>j hs⟩
   |some p=>grind
end
theorem D6{l:List I}{i:Nat}(a:i<l.length):l.set i (l.getD i ar)=l:=by simp_all
variable{a2 a4 a0:Int}
theorem O1{l:List I}{r:List bQ}(ah:l.length<=5000000000000)(h:∀y,y∈l->jR y=some y):∀(k i:Nat),i+k=l.length->
 tu ((l.length:Int),(i:Int),a0,a1,a2,a3,a4,z0,z1,z2,z3,z4,l,l2,r)=some (a0,a1,a2,a3,a4,z0,z1,z2,z3,z4,l,l2,r)
 |0,i,a=>by rw[tu,cr]
 |k+1,i,a=>by
  have aC:i<l.length:=by omega
  rw[tu,bE,ae (aH aC),aV,bE];simp only[I.aP];rw[h _ (aZ aC ar)];simp only[aS,ak,I.aP];rw[ae (aH aC),bE,bA (by omega),D6 aC];exact O1 ah h k (i+1) (by omega)
theorem O2{l:List I}{r:List bQ}(ah:l.length<=5000000000000)(h:∀y,y∈l->jR y=some y):∀(k i:Nat),i+k=l.length->
 tv ((l.length:Int),(i:Int),a0,a1,a2,a3,a4,z0,z1,z2,z3,z4,l,l2,r)=some (a0,a1,a2,a3,a4,z0,z1,z2,z3,z4,l2,l,r)
 |0,i,a=>by rw[tv,cr]
 |k+1,i,a=>by
  have aC:i<l.length:=by omega
  rw[tv,bE,ae (aH aC),aV,bE];simp only[I.aP];rw[h _ (aZ aC ar)];simp only[aS,ak,I.aP];rw[ae (aH aC),bE,bA (by omega),D6 aC];exact O2 ah h k (i+1) (by omega)
theorem BG:∀l:List I,l.length<=cx l
 |[]=>by simp
 |v::l=>by
  rw[gW,eV,h8];have:=BG l;omega
theorem Ps(l:List bQ):l.length<=(l.map λx=>x.Data.length+1).sum:=by
 induction l with
 |nil=>simp
 |cons a l ih=>simp only[iJ,qD,h8];omega
theorem wI{k n:Nat}(a:k<=1000:=by omega)(h:n<=1000000000:=by omega):room k n=true:=by
 unfold room hF dT;simp only[c7,e4];refine⟨?_,by omega⟩;have:(2*n+192)*k<=2000000192*1000:=CN (by omega) a;omega
theorem adI(j:bC v):wt v<=1000000000->jR v=some v:=by
 induction j with
 |mk v hs h1 o p s q t cZ A B C m k=>
  intro u;have w:=eV v;have x:=BG v.aB;have l2:=BG v.ag;have z:=Ps v.Rest;have kk:∀y,y∈v.aB->jR y=some y:=λy a=>m y a (by have:=e2 a;omega);have n:∀y,y∈v.ag->jR y=some y:=λy a=>k y a (by have:=e2 a;omega);have f:eO 120 v.aB=some v.aB:=by unfold eO;rw[ae (lA (wI))]
  have g:eO 120 v.ag=some v.ag:=by unfold eO;rw[ae (lA (wI))]
  have i:eO 24 v.Rest=some v.Rest:=by unfold eO;rw[ae (lA (wI))]
  have b:=O1 (a0:=v.Kind) (a1:=v.bS) (a2:=v.bg) (a3:=v.bt) (a4:=v.ad) (z0:=0) (z1:=false) (z2:=0) (z3:=[]) (z4:=0) (l:=v.aB) (l2:=v.ag) (r:=v.Rest) (by omega) kk v.aB.length 0 (by omega);have d:=O2 (a0:=v.Kind) (a1:=v.bS) (a2:=v.bg) (a3:=v.bt) (a4:=v.ad) (z0:=0) (z1:=false) (z2:=0) (z3:=[]) (z4:=0) (l:=v.ag) (l2:=v.aB) (r:=v.Rest) (by omega) n v.ag.length 0 (by omega);have c:tu ((v.aB.length:Int),0,v.Kind,v.bS,v.bg,v.bt,v.ad,0,false,0,[],0,v.aB,v.ag,v.Rest)=_:=b;have e:tv ((v.ag.length:Int),0,v.Kind,v.bS,v.bg,v.bt,v.ad,0,false,0,[],0,v.ag,v.aB,v.Rest)=_:=d;rw[jR,f,g,i];simp only[aS,ak];rw[c];simp only[ak];rw[e];simp only[ak];cases v;rfl
section
variable {ts:List ai}
def xV(ts:List ai)(n:Nat):Prop:=∀(t:Int) (p:aj) (b1:ao) (b2:Int) (path:ao),0<=t->t<ts.length->p.length<=4096->path.length+n=200->
 fJ ts b1 b2 path (cK ts n t p) (p4 (t,p,ts,b1,b2,path))
theorem jU(a:path.length<=1000)(b:Int)(b1:ao)(b2:Int):fJ ts b1 b2 path none (hC (b,ts,b1,b2,path)>>=λr=>some (I.eta r.1,r.2.1,r.2.2.1,r.2.2.2.2.2,r.2.2.2.1,r.2.2.2.2.1)):=by
 refine⟨λv h=>(by cases h),λ_=>?_⟩;rw[A8 a];simp_all
theorem Gi(c:fV x.af)(ah:x.af.length<=1000){m:aR}(bn:cw x.af id=some m):∃j,j<x.af.length/\gr (x,id)=some ((j:Int),true)/\x.af.getD j aw=m:=by
 obtain⟨b,e⟩:=jT bn;obtain⟨r,f,g⟩:=vW (t:=x) (id:=id) (by omega);rcases g with⟨j,a,d,_,rfl⟩|⟨q,_⟩
 . exact⟨j,a,f,qm c (aZ a aw) b (by rw[d,e])⟩
 . obtain⟨i,k,rfl⟩:=e3 b;grind
theorem adJ(H:hj ts){n:Nat}(ih:xV ts n)(k:x∈ts)(k6:x.Kind=6)(cS:∀m,m∈x.af->0<=m.av/\m.av<ts.length)(E:p.length<=4096)(F:path.length+(n+1)=200):
 fJ ts b1 b2 path (match j8 p with
  |some (id,q)=>(match cw x.af id with
   |some m=>(cK ts n m.av q).map λv=>⟨6,false,0,[],id,[],[v],[]⟩
   |none=>if x.Open then some ⟨6,false,0,[],id,[],[],[⟨id,q⟩]⟩else none)
  |none=>none) (C4 (x,p,ts,b1,b2,path)):=by
 obtain⟨o,s,u,y⟩:=Ke p;rw[C4,s];simp only[aS,ak];by_cases h0:o.2.2=0
 . obtain⟨v1,G,v3⟩:=u h0;rw[al (by simp[h0]),v1];dsimp only;obtain⟨f,C⟩:=H.A x k (.inr k6);cases bn:cw x.af o.1 with
   |some m=>
    obtain⟨j,a,b,l⟩:=Gi f (by omega) bn;rw[b];simp only[ak];rw[ae trivial,ae (aH a),aV,l];obtain⟨t1,t2⟩:=cS m (jT bn).1;have c:=wM (step:=o.1) (path:=path) (by omega) (ih m.av o.2.1 b1 b2 (path++[o.1]) t1 t2 (by omega) (by simp;omega));cases d:cK ts n m.av o.2.1 with
    |none=>
     obtain⟨w,f1,f2,i⟩:=c.2 d;rw[i];exact⟨λv h=>by simp at h,λ_=>⟨_,_,_,rfl⟩⟩
    |some v=>
     rw[c.1 v d]
     exact⟨λe h=>by
      have:e=⟨6,false,0,[],o.1,[],[v],[]⟩:=(by simpa using h.symm);rw[this]
      simp[I.aP,k6],λh=>by simp at h⟩
   |none=>
    obtain⟨r,z,B⟩:=vW (t:=x) (id:=o.1) (by omega);have g:r=(0,false):=by
     rcases B with⟨j,a,b,_,_⟩|⟨_,q⟩
     . exact absurd b (oG bn _ (aZ a aw))
     . exact q
    rw[z,g];cases D:x.Open with
    |false=>
     simp only[ak,bW,b6,en,bM,eq_self];exact jU (by omega) _ _ _
    |true=>
     simp only[ak,bW,b6,de,bM,eq_self];exact⟨λe h=>(by cases h;rw[k6]),λh=>(by cases h)⟩
 . rw[ae (by simp[h0]),y h0];exact jU (by omega) _ _ _
end
theorem N6{l:List α}(h:2*j+1<l.length)(d:α):fk (l.drop (2*j))=l.getD (2*j) d::fk (l.drop (2*(j+1))):=by
 rw[jB (by omega:2*j<l.length),jB h,fk,dd (by omega)];rfl
theorem O3{l:List α}(h:2*j+1<l.length)(d:α):e5 (l.drop (2*j))=l.getD (2*j+1) d::e5 (l.drop (2*(j+1))):=by
 rw[jB (by omega:2*j<l.length),jB h,e5,dd h];rfl
theorem Sz{i:Nat}(h:i<1000000):aK .i64 (i:Int) 2=((i+2:Nat):Int):=by
 have:=wV (a:=i) (b:=2) (by omega);exact this
section
variable {ts:List ai}
theorem Pt{l:List aj}(ah:l.length<=90000)(he:l.length%2=0)(h:∀q,q∈l->∀step b1 b2,fJ ts b1 b2 path (f q) (iQ (step,x.Key,q,ts,b1,b2,path)))
 {z0 z2 z4 a0 a2 a4:Int}{z1 a1:Bool}{z3 a3:aj}{b1:ao}{b2:Int}:∀(k j:Nat) (acc:List I),2*(j+k)=l.length->acc.length=j->
 (∀m,cg f (fk (l.drop (2*j)))=some m->s5 (l,((2*j:Nat):Int),ts,b1,b2,x,z0,z1,z2,z3,z4,a0,a1,a2,a3,a4,path,acc)=some (.inr (l,ts,b1,b2,x,z0,z1,z2,z3,z4,a0,a1,a2,a3,a4,path,acc++m)))/\
 (cg f (fk (l.drop (2*j)))=none->∃w f1 f2,s5 (l,((2*j:Nat):Int),ts,b1,b2,x,z0,z1,z2,z3,z4,a0,a1,a2,a3,a4,path,acc)=some (.inl (false,ts,f1,f2,w,path)))
 |0,j,acc,e,d=>by
  rw[s5,cr,ei (by omega),show fk ([]:List aj)=[]from rfl,cg];grind
 |k+1,j,acc,e,d=>by
  have aC:2*j<l.length:=by omega
  have a:=h _ (aZ aC []) (fB .i64 ((2*j:Nat):Int) 2) b1 b2;rw[s5,bE,ae (aH aC),aV,N6 (by omega) [],cg];cases b:f (l.getD (2*j) [])with
  |none=>
   obtain⟨w,f1,f2,n⟩:=a.2 b;simp_all
  |some v=>
   rw[a.1 v b];simp only[aS,ak,I.aP,de];rw[bz,ae (cV),Sz (by omega)];obtain⟨o,i⟩:=Pt ah he h (z0:=z0) (z1:=z1) (z2:=z2) (z3:=z3) (z4:=z4) (a0:=a0) (a1:=a1) (a2:=a2) (a3:=a3) (a4:=a4) (b1:=b1) (b2:=b2) k (j+1) (acc++[v]) (by omega) (by simp;omega);have c:2*j+2=2*(j+1):=(by omega);rw[c];cases hs:cg f (fk (l.drop (2*(j+1))))with
   |none=>exact⟨λm g=>by simp at g,λ_=>i hs⟩
   |some p=>grind
theorem O4{l:List aj}(ah:l.length<=90000)(he:l.length%2=0)(h:∀q,q∈l->∀step b1 b2,fJ ts b1 b2 path (f q) (iQ (step,x.aD,q,ts,b1,b2,path)))
 {z0 z2 z4 a0 a2 a4:Int}{z1 a1:Bool}{z3 a3:aj}{b1:ao}{b2:Int}{ks:List I}:∀(k j:Nat) (acc:List I),2*(j+k)=l.length->acc.length=j->
 (∀m,cg f (e5 (l.drop (2*j)))=some m->s6 (l,((2*j+1:Nat):Int),ts,b1,b2,x,z0,z1,z2,z3,z4,a0,a1,a2,a3,a4,path,ks,acc)=some (.inr (ts,b1,b2,z0,z1,z2,z3,z4,a0,a1,a2,a3,a4,path,ks,acc++m)))/\
 (cg f (e5 (l.drop (2*j)))=none->∃w f1 f2,s6 (l,((2*j+1:Nat):Int),ts,b1,b2,x,z0,z1,z2,z3,z4,a0,a1,a2,a3,a4,path,ks,acc)=some (.inl (false,ts,f1,f2,w,path)))
 |0,j,acc,e,d=>by
  rw[s6,cr,ei (by omega),show e5 ([]:List aj)=[]from rfl,cg];grind
 |k+1,j,acc,e,d=>by
  have aC:2*j+1<l.length:=by omega
  have a:=h _ (aZ aC []) (fB .i64 ((2*j+1:Nat):Int) 2) b1 b2;rw[s6,bE,ae (aH aC),aV,O3 aC [],cg];cases b:f (l.getD (2*j+1) [])with
  |none=>
   obtain⟨w,f1,f2,n⟩:=a.2 b;simp_all
  |some v=>
   rw[a.1 v b];simp only[aS,ak,I.aP,de];rw[bz,ae (cV),Sz (by omega)];obtain⟨o,i⟩:=O4 ah he h (z0:=z0) (z1:=z1) (z2:=z2) (z3:=z3) (z4:=z4) (a0:=a0) (a1:=a1) (a2:=a2) (a3:=a3) (a4:=a4) (b1:=b1) (b2:=b2) (ks:=ks) k (j+1) (acc++[v]) (by omega) (by simp;omega);have c:2*j+1+2=2*(j+1)+1:=(by omega);rw[c];cases hs:cg f (e5 (l.drop (2*(j+1))))with
   |none=>exact⟨λm g=>by simp at g,λ_=>i hs⟩
   |some p=>grind
theorem afC{a b:I}(c:cy a.bg)(d:cy b.bg):pT (a,b)=some (hT a b):=by
 obtain⟨r,e,f⟩:=DF c d;have:=wK c d;grind
theorem P'{x:ai}(c:path.length<=1000){l:List aj}(a:∀y,y∈ks->cy y.bg)(ah:ks.length<=90000)
 {z0 z2 z4 a0 a2 a4:Int}{z1 a1:Bool}{z3 a3:aj}{b1:ao}{b2:Int}:∀(k i:Nat),ks.length-(i+1)=k->
 ((∀m,i<=m->m+1<ks.length->hT (ks.getD m ar) (ks.getD (m+1) ar)<0)/\rG (l,((i+1:Nat):Int),ts,b1,b2,x,z0,z1,z2,z3,z4,a0,a1,a2,a3,a4,path,ks)=some (.inr (l,ts,b1,b2,x,z0,z1,z2,z3,z4,a0,a1,a2,a3,a4,path,ks)))\/
 ((∃m,m+1<ks.length/\¬hT (ks.getD m ar) (ks.getD (m+1) ar)<0)/\∃w f1 f2,rG (l,((i+1:Nat):Int),ts,b1,b2,x,z0,z1,z2,z3,z4,a0,a1,a2,a3,a4,path,ks)=some (.inl (false,ts,f2,w,path,f1)))
 |0,i,d=>by
  rw[rG,cr];grind
 |k+1,i,d=>by
  have aC:i+1<ks.length:=by omega
  have aM:di .i64 ((i+1:Nat):Int) 1=(i:Int):=by rw[hJ (by omega) (by omega)];omega
  rw[rG,bE,aM];simp only[aS,ak];rw[ae (aH (by omega)),bE,ae (aH aC),bE,aV,aV];simp only[I.aP];rw[afC (a _ (aZ (by omega) ar)) (a _ (aZ aC ar))];simp only[ak];by_cases b:hT (ks.getD i ar) (ks.getD (i+1) ar)<0
  . rw[al (by simpa using b),bA (by omega)];rcases P' c a ah (x:=x) (l:=l) (z0:=z0) (z1:=z1) (z2:=z2) (z3:=z3) (z4:=z4) (a0:=a0) (a1:=a1) (a2:=a2) (a3:=a3) (a4:=a4) (b1:=b1) (b2:=b2) k (i+1) (by omega)with⟨h1,e⟩|h
    . grind
    grind
  . rw[ae (by simpa using b),A8 c];grind
theorem Qa{m:Nat}(h:m<18446744073709551616):cy (ji m):=by
 unfold ji cy;omega
theorem mv:cy 0:=by unfold cy;omega
def mL(o:Option I):Prop:=∀v,o=some v->cy v.bg
theorem mL.ite{c:Prop}[Decidable c]{a b:Option I}(e:c->mL a)(f:¬c->mL b):mL (if c then a else b):=by grind
theorem mL.no:mL none:=λv h=>(by cases h)
theorem mL.zero{k i:Int}{b:Bool}{s:aj}{a:List I}{r:List bQ}:mL (some ⟨k,b,0,s,i,ks,a,r⟩):=λv h=>(by cases h;exact mv)
theorem mL.map{α:Type}{o:Option α}{k i:Int}{b:Bool}{s:aj}{ks a:α->List I}{r:List bQ}:mL (o.map λv=>⟨k,b,0,s,i,ks v,a v,r⟩):=λv h=>by obtain⟨_,_,rfl⟩:=oT.1 h;exact mv
theorem Pu{n:Nat}(h:cK ts n t p=some v):cy v.bg:=by
 have key:mL (cK ts n t p):=by
  cases n with
  |zero=>unfold cK;exact .no
  |succ n=>
   unfold cK;refine .ite (λ_=>.ite (λ_=>.zero) λ_=>.ite (λ_=>.zero) λ_=>.no) λ_=>?_;refine .ite (λ_=>?_) λ_=>?_
   . cases b:hU p with
     |none=>exact .no
     |some m=>exact .ite (λ_=>λv h=>(by cases h;exact Qa (E4 b))) λ_=>.no
   refine .ite (λ_=>.ite (λ_=>.zero) λ_=>.no) λ_=>?_;refine .ite (λ_=>?_) λ_=>?_
   . cases b:hU p with
     |none=>exact .no
     |some m=>exact .ite (λ_=>.zero) λ_=>.no
   refine .ite (λ_=>?_) λ_=>?_
   . cases p with
     |nil=>exact .zero
     |cons c q=>exact .ite (λ_=>.map) λ_=>.no
   refine .ite (λ_=>?_) λ_=>?_
   . cases j8 p with
     |none=>exact .no
     |some a=>
      obtain⟨id,q⟩:=a;dsimp only;cases cw (ts.getD t.toNat aG).af id with
      |none=>exact .ite (λ_=>.zero) λ_=>.no
      |some m=>exact .map
   refine .ite (λ_=>?_) λ_=>?_
   . cases iK p with
     |none=>exact .no
     |some l=>exact .ite (λ_=>.map) λ_=>.no
   refine .ite (λ_=>?_) λ_=>?_
   . cases iK p with
     |none=>exact .no
     |some l=>
      refine .ite (λ_=>?_) λ_=>.no;cases cg (cK ts n (ts.getD t.toNat aG).Key) (fk l)with
      |none=>exact .no
      |some ks=>exact .ite (λ_=>.map) λ_=>.no
   . cases jj p with
     |none=>exact .no
     |some l=>
      dsimp only;split
      . exact .ite (λ_=>.zero) λ_=>.no
      . exact .no
 exact key v h
theorem wN{d:Type}{f:α->Option d}:∀{l:List α} {m:List d},cg f l=some m->∀y,y∈m->∃a,a∈l/\f a=some y
 |[],m,h,y,c=>by rw[cg]at h;cases h;cases c
 |a::l,m,h,y,c=>by
  rw[cg]at h;split at h
  . rename_i b i h1 e;cases h;rcases eR.1 c with rfl|c
    . grind
    . obtain⟨g,k1,k2⟩:=wN e y c;grind
  . cases h
theorem Eg:∀{l:List α} {y:α},y∈fk l->y∈l
 |[],y,h=>by cases h
 |[_],y,h=>by cases h
 |a::b::l,y,h=>by
  rcases eR.1 h with rfl|h
  . grind
  . exact .tail _ (.tail _ (Eg h))
theorem Ji:∀(l:List α),(fk l).length<=l.length
 |[]=>eI _
 |[_]=>iq _
 |a::b::l=>by
  show(fk l).length+1<=l.length+1+1;have:=Ji l;omega
theorem UZ{a:Nat}(h:a<1000000):fB .i64 (a:Int) 2=((a/2:Nat):Int):=by
 unfold fB;have e:(a:Int).tdiv 2=((a/2:Nat):Int):=by rw[Int.tdiv_eq_ediv_of_nonneg (by omega)];omega
 rw[e];exact jF
theorem afD{n:Nat}(ih:xV ts n)(k8:x.Kind=8)(bD:0<=x.Key/\x.Key<ts.length)(ec:0<=x.aD/\x.aD<ts.length)(O:p.length<=4096)(P:path.length+(n+1)=200):
 fJ ts b1 b2 path (match iK p with
  |some l=>if l.length%2 = 0/\((l.length/2:Nat):Int)<=x.Max then (match cg (cK ts n x.Key) (fk l) with
   |some ks=>if o' ks then(cg (cK ts n x.aD) (e5 l)).map λs=>(⟨8,false,0,[],0,ks,s,[]⟩:I)else none
   |none=>none)else none
  |none=>none) (zq (x,p,ts,b1,b2,path)):=by
 obtain⟨o,L,M,N⟩:=A6 (p:=p) (by omega);rw[zq,L];simp only[aS,ak];by_cases h0:o.2=0
 . obtain⟨v1,z,v3⟩:=M h0;rw[v1];dsimp only;have G:b9 (o.1.length:Int) 2=((o.1.length%2:Nat):Int):=by rw[hp];omega
   rw[G,UZ (by omega)];by_cases he:o.1.length%2=0
   . have b:¬(bif (!(decide (o.2=0)))then true else(!(decide (((o.1.length%2:Nat):Int)=0))))=true:=(by grind);rw[al b];by_cases t:((o.1.length/2:Nat):Int)<=x.Max
     . rw[ae (show o.1.length%2=0/\((o.1.length/2:Nat):Int)<=x.Max from⟨he,t⟩),al (show ¬decide (x.Max<((o.1.length/2:Nat):Int))=true by simp only[e4];omega)];have D:∀q,q∈o.1->∀step b1 b2,fJ ts b1 b2 path (cK ts n x.Key q) (iQ (step,x.Key,q,ts,b1,b2,path)):=λq k step b1 b2=>
        wM (by omega) (ih x.Key q b1 b2 (path++[step]) bD.1 bD.2 (by have:=z q k;omega) (by simp;omega))
       have j:∀q,q∈o.1->∀step b1 b2,fJ ts b1 b2 path (cK ts n x.aD q) (iQ (step,x.aD,q,ts,b1,b2,path)):=λq k step b1 b2=>
        wM (by omega) (ih x.aD q b1 b2 (path++[step]) ec.1 ec.2 (by have:=z q k;omega) (by simp;omega))
       obtain⟨gG,c⟩:=Pt (x:=x) (l:=o.1) (by omega) he D (z0:=0) (z1:=false) (z2:=0) (z3:=[]) (z4:=0) (a0:=x.Kind) (a1:=false) (a2:=0) (a3:=[]) (a4:=0) (b1:=b1) (b2:=b2) (o.1.length/2) 0 [] (by omega) rfl;have d0:o.1.drop (2*0)=o.1:=rfl;rw[d0]at gG c;have z0:((2*0:Nat):Int)=0:=rfl;rw[z0]at gG c;cases hs:cg (cK ts n x.Key) (fk o.1)with
       |none=>
        obtain⟨w,f1,f2,r⟩:=c hs;rw[r];exact⟨λv h=>(by cases h),λ_=>⟨_,_,_,rfl⟩⟩
       |some ks=>
        rw[gG ks hs];simp only[ak,fH];have E:∀y,y∈ks->cy y.bg:=λy H=>by
         obtain⟨a,_,C⟩:=wN hs y H;exact Pu C
        have F:ks.length<=90000:=by
         have:=qj hs;have:=Ji o.1;omega
        have B:=P' (ts:=ts) (x:=x) (path:=path) (by omega) (l:=o.1) E F (z0:=0) (z1:=false) (z2:=0) (z3:=[]) (z4:=0) (a0:=x.Kind) (a1:=false) (a2:=0) (a3:=[]) (a4:=0) (b1:=b1) (b2:=b2) _ 0 rfl;have z1:((0+1:Nat):Int)=1:=rfl;rw[z1]at B;rcases B with⟨A,d⟩|⟨⟨m,J,K⟩,w,f1,f2,d⟩
        . have g:o' ks=true:=wL.2 λi j=>A i (iq _) j;rw[ae g,d];simp only[ak];obtain⟨e,f⟩:=O4 (x:=x) (l:=o.1) (by omega) he j (z0:=0) (z1:=false) (z2:=0) (z3:=[]) (z4:=0) (a0:=x.Kind) (a1:=false) (a2:=0) (a3:=[]) (a4:=0) (b1:=b1) (b2:=b2) (ks:=ks) (o.1.length/2) 0 [] (by omega) rfl;rw[d0]at e f;have z2:((2*0+1:Nat):Int)=1:=rfl;rw[z2]at e f;cases u:cg (cK ts n x.aD) (e5 o.1)with
          |none=>
           obtain⟨w,f1,f2,r⟩:=f u;rw[r];exact⟨λv h=>(by cases h),λ_=>⟨_,_,_,rfl⟩⟩
          |some s=>
           rw[e s u];exact⟨λv h=>(by cases h;simp[k8]),λh=>(by cases h)⟩
        . have g:¬o' ks=true:=λh=>K (wL.1 h m J);rw[al g,d];exact⟨λv h=>(by cases h),λ_=>⟨I.eta w,f1,f2,rfl⟩⟩
     . rw[al (show ¬(o.1.length%2=0/\((o.1.length/2:Nat):Int)<=x.Max)fromλh=>t h.2),ae (show decide (x.Max<((o.1.length/2:Nat):Int))=true by simp only[e4];omega)];exact jU (by omega) _ _ _
   . have b:(bif (!(decide (o.2=0)))then true else(!(decide (((o.1.length%2:Nat):Int)=0))))=true:=(by grind);rw[al (show ¬(o.1.length%2=0/\((o.1.length/2:Nat):Int)<=x.Max)fromλh=>he h.1),ae b];exact jU (by omega) _ _ _
 . have b:(bif (!(decide (o.2=0)))then true else(!(decide (b9 (o.1.length:Int) 2=0))))=true:=(by simp[h0]);rw[ae b,N h0];exact jU (by omega) _ _ _
theorem adK{l:List cP}(m:aR)(ah:l.length<=90000):(∃j,j<l.length/\l.find? (λf=>decide (f.ad=m.ad))=some (l.getD j gm)/\yJ (l,m)=some ((j:Int),m))\/
 (l.find? (λf=>decide (f.ad=m.ad))=none/\yJ (l,m)=some (-1,m)):=by
 have h:=ns (λi=>pq (l,(l.length:Int),(i:Int),m)) l.length (λi=>decide ((l.getD i gm).ad=m.ad)) (λi=>.inl ((i:Int),m)) (.inr m)
  (λi a=>by
   rw[pq,bE,ae (aH a)];simp only[aS,ak,aV,I.aP,HS]
   rw[bA (by omega)])
  (by rw[pq,bz];simp only[gw])
 have cQ:pq (l,(l.length:Int),((0:Nat):Int),m)=pq (l,(l.length:Int),0,m):=rfl;simp only[cQ]at h;rw[yJ];simp only[gw];rcases h with⟨j,h1,c,d,b⟩|⟨h1,b⟩
 . left;refine⟨j,h1,?_,by rw[b];simp only[aS,ak,gw]⟩;rw[dd h1]at c⊢;rw[yT];refine⟨c,j,h1,rfl,λk g=>?_⟩;have:=d k g;rw[dd (by omega)]at this;simpa using this
 . right;refine⟨?_,by rw[b];simp only[aS,ak,gw]⟩;rw[CI];intro f e;obtain⟨i,a,rfl⟩:=e3 e;have:=h1 i a;rw[dd a]at this;simpa using this
def x5{a:Type}:Option a->Option (List a)->Option (List a)
 |some b,some m=>some (b::m)
 |_,_=>none
theorem uB{b:Type}(f:α->Option b)(a:α)(l:List α):cg f (a::l)=x5 (f a) (cg f l):=by rfl
def ee(f:Int->aj->Option I)(l:List cP)(m:aR):Option I:=match l.find? (λf=>decide (f.ad=m.ad))with
 |some g=>f m.av g.Data
 |none=>if m.bu then some m.bm else none
theorem Pv {x:ai}{path:ao}(F:path.length<=900){f:Int->aj->Option I}{l:List cP}(ah:l.length<=90000)(B:x.af.length<=16)
 (s:∀m,m∈x.af->m.bu=true->jR m.bm=some m.bm)
 (h:∀m,m∈x.af->∀q,q∈l->∀step b1 b2,fJ ts b1 b2 path (f m.av q.Data) (iQ (step,m.av,q.Data,ts,b1,b2,path)))
 {z0 z2 z4 a0 a2 a4:Int}{z1 a1:Bool}{z3 a3:aj}{b1:ao}{b2:Int}:∀(k i:Nat) (acc:List I),i+k=x.af.length->acc.length=i->
 (∀m,cg (ee f l) (x.af.drop i)=some m->mX (l,x.af,(x.af.length:Int),(i:Int),ts,b1,b2,x,z0,z1,z2,z3,z4,a0,a1,a2,a3,a4,path,acc)=some (.inr (l,ts,b1,b2,x,z0,z1,z2,z3,z4,a0,a1,a2,a3,a4,path,acc++m)))/\
 (cg (ee f l) (x.af.drop i)=none->∃w f1 f2,mX (l,x.af,(x.af.length:Int),(i:Int),ts,b1,b2,x,z0,z1,z2,z3,z4,a0,a1,a2,a3,a4,path,acc)=some (.inl (false,ts,f1,f2,w,path)))
 |0,i,acc,E,D=>by
  rw[mX,cr,ei (by omega),cg];grind
 |k+1,i,acc,E,D=>by
  have aC:i<x.af.length:=by omega
  have u:=aZ aC aw;have e:x.af.drop i=x.af.getD i aw::x.af.drop (i+1):=by rw[dd aC];exact jB aC
  have go:∀v,(∀n,cg (ee f l) (x.af.drop (i+1))=some n->mX (l,x.af,(x.af.length:Int),((i+1:Nat):Int),ts,b1,b2,x,z0,z1,z2,z3,z4,a0,a1,a2,a3,a4,path,acc++[v])=some (.inr (l,ts,b1,b2,x,z0,z1,z2,z3,z4,a0,a1,a2,a3,a4,path,acc++[v]++n)))/\(cg (ee f l) (x.af.drop (i+1))=none->∃w f1 f2,mX (l,x.af,(x.af.length:Int),((i+1:Nat):Int),ts,b1,b2,x,z0,z1,z2,z3,z4,a0,a1,a2,a3,a4,path,acc++[v])=some (.inl (false,ts,f1,f2,w,path))):=λv=>
   Pv F ah B s h k (i+1) (acc++[v]) (by omega) (by simp;omega)
  rw [mX,bE,ae (aH aC),aV,e,uB];simp only [aS,ak,gw];generalize x.af.getD i aw = a at *;have z:∀ (v:I) (d:Option _),ee f l a = some v->d = mX (l,x.af,(x.af.length:Int),((i+1:Nat):Int),ts,b1,b2,x,z0,z1,z2,z3,z4,a0,a1,a2,a3,a4,path,acc++[v])->
   (∀m,x5 (ee f l a) (cg (ee f l) (x.af.drop (i+1)))=some m->d=some (.inr (l,ts,b1,b2,x,z0,z1,z2,z3,z4,a0,a1,a2,a3,a4,path,acc++m)))/\
   (x5 (ee f l a) (cg (ee f l) (x.af.drop (i+1)))=none->∃w f1 f2,d=some (.inl (false,ts,f1,f2,w,path))):=by
   intro v d c C;obtain⟨H,A⟩:=go v;rw[c,C];cases hs:cg (ee f l) (x.af.drop (i+1))with
   |none=>exact⟨λm b=>(by cases b),λ_=>A hs⟩
   |some n=>
    refine⟨λm b=>?_,λh=>(by cases h)⟩;have:m=v::n:=(by cases b;rfl)
    grind
  rcases adK a ah with⟨j,y,g,r⟩|⟨g,r⟩
  . rw[r];simp only[ak];rw[hQ,ae (aH y),aV];have t:=h a u _ (aZ y gm) a.ad b1 b2;have p:ee f l a=f a.av (l.getD j gm).Data:=by unfold ee;rw[g]
    cases c:f a.av (l.getD j gm).Data with
    |none=>
     obtain⟨w,f1,f2,G⟩:=t.2 c;rw[G,p,c];exact⟨λm b=>(by cases b),λ_=>⟨w,f1,f2,by simp[I.aP]⟩⟩
    |some v=>
     rw[t.1 v c];simp only[ak,I.aP,de];rw[bz,ae (cV),bA (by omega)];grind
  . rw[r];simp only[ak];rw[bz];cases o:a.bu with
    |true=>
     rw[ae rfl];simp only[I.aP];rw[s a u o];simp only[ak,I.aP];rw[ae (cV),bA (by omega)];exact z a.bm _ (by unfold ee;rw[g];simp[o]) rfl
    |false=>
     have p:ee f l a=none:=by unfold ee;rw[g];simp[o]
     rw[bz,ae (cV),A8 (by simp;omega),p];simp only[ak,I.aP];have aM:di .i64 ((path++[a.ad]).length:Int) 1=(path.length:Int):=by rw[hJ (by simp<;>omega) (by simp<;>omega)];simp
     rw[aM,ae (iF.2 (by simp;omega)),hQ,aV];exact⟨λm b=>(by cases b),λ_=>⟨_,_,_,by simp;exact⟨rfl,rfl,rfl⟩⟩⟩
theorem aiK(d:x.af.length<=1000)(c:fV x.af)(id:Int):∃r,gr (x,id)=some r/\r.2=(cw x.af id).isSome:=by
 cases bn:cw x.af id with
 |some m=>
  obtain⟨j,a,b,g⟩:=Gi c d bn;grind
 |none=>
  obtain⟨r,e,f⟩:=vW (t:=x) (id:=id) (by omega);refine⟨r,e,?_⟩;rcases f with⟨j,a,b,_,_⟩|⟨_,q⟩
  . exact absurd b (oG bn _ (aZ a aw))
  grind
def fQ(x:ai)(f:cP):Bool:=(cw x.af f.ad).isSome || !f.b8
def fh(x:ai)(l:List cP):List bQ:=(l.filter λf=>!(cw x.af f.ad).isSome).map λf=>⟨f.ad,f.Data⟩
theorem I8(j:path.length<=900)(c:x.af.length<=1000)(b:fV x.af){l:List cP}(ah:l.length<=90000)
 {z0 z2 z4 a0 a2 a4:Int}{z1 a1:Bool}{z3 a3:aj}{b1:ao}{b2:Int}{its:List I}:∀(k i:Nat) (acc:List bQ),i+k=l.length->acc.length<=i->
 ((l.drop i).all (fQ x)=true->pv (l,(l.length:Int),(i:Int),ts,b1,b2,x,z0,z1,z2,z3,z4,a0,a1,a2,a3,a4,path,its,acc)=some (.inr (ts,b1,b2,z0,z1,z2,z3,z4,a0,a1,a2,a3,a4,path,its,acc++fh x (l.drop i))))/\
 ((l.drop i).all (fQ x)=false->∃w f1 f2,pv (l,(l.length:Int),(i:Int),ts,b1,b2,x,z0,z1,z2,z3,z4,a0,a1,a2,a3,a4,path,its,acc)=some (.inl (false,ts,f2,w,path,f1)))
 |0,i,acc,p,n=>by
  rw[pv,cr,ei (by omega)];exact⟨λ_=>by simp[fh],λh=>by simp at h⟩
 |k+1,i,acc,p,n=>by
  have aC:i<l.length:=by omega
  have e:l.drop i=l.getD i gm::l.drop (i+1):=by rw[dd aC];exact jB aC
  obtain⟨r,q,m⟩:=aiK c b (l.getD i gm).ad;rw[pv,bE,ae (aH aC),aV,e];simp only[aS,ak];generalize l.getD i gm=f at*;rw[q];simp only[ak];have o:(f::l.drop (i+1)).all (fQ x)=(fQ x f&&(l.drop (i+1)).all (fQ x)):=rfl;rw[o];cases hs:(cw x.af f.ad).isSome with
  |true=>
   have a:fQ x f=true:=by unfold fQ;rw[hs];rfl
   have d:fh x (f::l.drop (i+1))=fh x (l.drop (i+1)):=by unfold fh;rw[Gu (by rw[hs];simp)]
   rw[m,hs,ae rfl,a,d,bA (by omega),nC];exact I8 j c b ah k (i+1) acc (by omega) (by omega)
  |false=>
   rw[m,hs,bz];cases g:f.b8 with
   |true=>
    have a:fQ x f=false:=by unfold fQ;rw[hs,g];rfl
    rw[ae rfl,ae (cV),A8 (by simp;omega),a];simp only[ak,I.aP];have aM:di .i64 ((path++[f.ad]).length:Int) 1=(path.length:Int):=by rw[hJ (by simp<;>omega) (by simp<;>omega)];simp
    rw[aM,ae (iF.2 (by simp;omega)),hQ,aV];simp_all
   |false=>
    have a:fQ x f=true:=by unfold fQ;rw[hs,g];rfl
    have d:fh x (f::l.drop (i+1))=⟨f.ad,f.Data⟩::fh x (l.drop (i+1)):=by unfold fh;rw[Gv (by rw[hs];rfl)];rfl
    rw[bz,ae (cV),a,d,bA (by omega),nC];have:=I8 j c b ah (z0:=z0) (z1:=z1) (z2:=z2) (z3:=z3) (z4:=z4) (a0:=a0) (a1:=a1) (a2:=a2) (a3:=a3) (a4:=a4) (b1:=b1) (b2:=b2) (its:=its) k (i+1) (acc++[⟨f.ad,f.Data⟩]) (by omega) (by simp;omega);grind
theorem abD(H:hj ts)(g:∀x,x∈ts->∀m,m∈x.af->m.bu=true->jR m.bm=some m.bm){n:Nat}(ih:xV ts n)(e:x∈ts)(k5:x.Kind=5)(cS:∀m,m∈x.af->0<=m.av/\m.av<ts.length)(E:p.length<=4096)(F:path.length+(n+1)=200):
 (∀l,jj p=some l->∀a,cg (ee (cK ts n) l) x.af=some a->l.all (fQ x)=true->zs (x,p,ts,b1,b2,path)=some (⟨5,false,0,[],0,[],a,fh x l⟩,true,ts,b1,b2,path))/\
 ((jj p=none\/(∃l,jj p=some l/\(cg (ee (cK ts n) l) x.af=none\/l.all (fQ x)=false)))->∃w f1 f2,zs (x,p,ts,b1,b2,path)=some (w,false,ts,f1,f2,path)):=by
 obtain⟨i,C⟩:=H.A x e (.inl k5);obtain⟨o,u,v,y⟩:=JW (p:=p) (by omega);rw[zs,u];simp only[aS,ak];by_cases h0:o.2=0
 . obtain⟨v1,z,v3,v4⟩:=v h0;rw[al (by simp[h0]),v1];have D:=H.T x e;have j:∀m,m∈x.af->m.bu=true->jR m.bm=some m.bm:=λm b r=>g x e m b r;have au:∀m,m∈x.af->∀q,q∈o.1->∀step b1 b2,fJ ts b1 b2 path (cK ts n m.av q.Data) (iQ (step,m.av,q.Data,ts,b1,b2,path)):=λm b q t step b1 b2=>
    wM (by omega) (ih m.av q.Data b1 b2 (path++[step]) (cS m b).1 (cS m b).2 (by have:=(z q t).1;omega) (by simp;omega))
   obtain⟨gG,c⟩:=Pv (x:=x) (path:=path) (by omega) (f:=cK ts n) (l:=o.1) (by omega) (by omega) j au (z0:=0) (z1:=false) (z2:=0) (z3:=[]) (z4:=0) (a0:=x.Kind) (a1:=false) (a2:=0) (a3:=[]) (a4:=0) (b1:=b1) (b2:=b2) x.af.length 0 [] (by omega) rfl;rw[fc]at gG c;have z0:((0:Nat):Int)=0:=rfl;rw[z0]at gG c;have B:=λits=>I8 (ts:=ts) (x:=x) (path:=path) (by omega) (by omega) i (l:=o.1) (by omega) (z0:=0) (z1:=false) (z2:=0) (z3:=[]) (z4:=0) (a0:=x.Kind) (a1:=false) (a2:=0) (a3:=[]) (a4:=0) (b1:=b1) (b2:=b2) (its:=its) o.1.length 0 [] (by omega) (eI _);rw[fc,z0]at B;constructor
   . intro l ah a s k;cases ah;rw[gG a s];simp only[ak,fH];rw[(B a).1 k];simp[k5]
   . intro h;rcases h with h|⟨l,ah,h⟩
     . cases h
     . cases ah;cases hs:cg (ee (cK ts n) o.1) x.af with
       |none=>
        obtain⟨w,f1,f2,d⟩:=c hs;rw[d];exact⟨_,_,_,rfl⟩
       |some a=>
        rcases h with h|h
        . rw[hs]at h;cases h
        . obtain⟨w,f1,f2,d⟩:=(B a).2 h;rw[gG a hs];simp only[ak,fH];rw[d];exact⟨I.eta w,f1,f2,rfl⟩
 . rw[ae (by simp[h0]),y h0];constructor
   . intro l ah;cases ah
   . intro _;rw[A8 (by omega)];exact⟨_,_,_,rfl⟩
end
structure jm (ts:List ai):Prop where
 S:hj ts
 V:nT ts
 W:∀x,x∈ts->∀m,m∈x.af->m.bu=true->jR m.bm=some m.bm
theorem c8.gy(H:c8 ts):jm ts:=⟨H.V.fR H.T,H.V,λx c m a e=>adI ((H.T x c).3 m a) (by have:=H.W x c m a e;omega)⟩
section
variable {ts:List ai}
theorem jm.mem(H:jm ts)(c:x∈ts){m:aR}(a:m∈x.af):0<=m.av/\m.av<ts.length:=
 H.V.U x c m.av (by unfold fm;simp;exact .inl ⟨m,a,rfl⟩)
theorem jm.elem(H:jm ts)(c:x∈ts)(a:7<=x.Kind):0<=x.aD/\x.aD<ts.length:=
 H.V.U x c x.aD (by unfold fm;simp[a])
theorem jm.key(H:jm ts)(c:x∈ts)(a:x.Kind=8):0<=x.Key/\x.Key<ts.length:=
 H.V.U x c x.Key (by unfold fm;simp[a])
def ez:I:=⟨0,false,0,[],0,[],[],[]⟩
abbrev o3:=Int->aj->Option I
def xK(p:aj):Option I:=if p=[]then some ⟨1,false,0,[],0,[],[],[]⟩else if p=[1]then some ⟨1,true,0,[],0,[],[],[]⟩else none
def xL(x:ai)(p:aj):Option I:=match hU p with
 |some m=>if x.bJ<=ji m/\ji m<=x.bN then some ⟨2,false,ji m,[],0,[],[],[]⟩else none
 |none=>none
def xM(x:ai)(p:aj):Option I:=if(p.length:Int)<=x.Max then some ⟨3,false,0,p,0,[],[],[]⟩else none
def xN(x:ai)(p:aj):Option I:=match hU p with
 |some m=>if 1<=m/\m<=1000/\((x.bj.any λy=>decide (y.ad=(m:Int)))||x.Open)=true then some ⟨4,false,0,[],(m:Int),[],[],[]⟩else none
 |none=>none
def mH(f:o3)(x:ai):aj->Option I
 |[]=>some ⟨9,false,0,[],0,[],[],[]⟩
 |c::q=>if c=1 then(f x.aD q).map λv=>⟨9,false,0,[],0,[],[v],[]⟩else none
def qJ(f:o3)(x:ai)(p:aj):Option I:=match j8 p with
 |some (id,q)=>(match cw x.af id with
  |some m=>(f m.av q).map λv=>⟨6,false,0,[],id,[],[v],[]⟩
  |none=>if x.Open then some ⟨6,false,0,[],id,[],[],[⟨id,q⟩]⟩else none)
 |none=>none
def nI(f:o3)(x:ai)(p:aj):Option I:=match iK p with
 |some l=>if(l.length:Int)<=x.Max then(cg (f x.aD) l).map λa=>⟨7,false,0,[],0,[],a,[]⟩else none
 |none=>none
def qK(f:o3)(x:ai)(p:aj):Option I:=match iK p with
 |some l=>if l.length%2 = 0/\((l.length/2:Nat):Int)<=x.Max then (match cg (f x.Key) (fk l) with
  |some ks=>if o' ks then(cg (f x.aD) (e5 l)).map λa=>⟨8,false,0,[],0,ks,a,[]⟩else none
  |none=>none)else none
 |none=>none
def nH(f:o3)(x:ai)(p:aj):Option I:=match jj p with
 |some l=>(match cg (ee f l) x.af with
  |some a=>if l.all (fQ x) then some ⟨5,false,0,[],0,[],a,fh x l⟩else none
  |none=>none)
 |none=>none
def kC(f:o3)(x:ai)(p:aj):Option I:=
 if x.Kind=1 then xK p else if x.Kind=2 then xL x p else if x.Kind=3 then xM x p else if x.Kind=4 then xN x p else if x.Kind=9 then mH f x p else if x.Kind=6 then qJ f x p else if x.Kind=7 then nI f x p else if x.Kind=8 then qK f x p else nH f x p
theorem zW(t:Int)(p:aj):cK ts 0 t p=none:=by rw[cK.eq_def]
theorem uC(n:Nat)(t:Int)(p:aj):cK ts (n+1) t p=kC (cK ts n) (ts.getD t.toNat aG) p:=by rfl
theorem fJ.eta(h:fJ ts b1 b2 path o a):
 fJ ts b1 b2 path o (a>>=λr=>some (I.eta r.1,r.2.1,r.2.2.1,r.2.2.2.1,r.2.2.2.2.1,r.2.2.2.2.2)):=by
 refine⟨λv c=>?_,λaJ=>?_⟩
 . rw[h.1 v c];simp[I.aP]
 . obtain⟨w,f1,f2,e⟩:=h.2 aJ;exact⟨w,f1,f2,by rw[e];simp[I.aP]⟩
theorem fJ.one(v:I):fJ ts b1 b2 path (some v) (some (v,true,ts,b1,b2,path)):=⟨λa h=>by cases h;rfl,λh=>by cases h⟩
theorem fJ.cast{c:Option I}(e:o=c)(h:fJ ts b1 b2 path o a):fJ ts b1 b2 path c a:=e▸h
theorem Kw{l:List c1}{m:Nat}:(∃y,y∈l/\y.ad=(m:Int))↔(l.any λy=>decide (y.ad=(m:Int)))=true:=by grind
theorem adL(H:jm ts){n:Nat}(ih:xV ts n)(g:x∈ts)(k7:x.Kind=7)(s:p.length<=4096)(t:path.length+(n+1)=200):
 fJ ts b1 b2 path (nI (cK ts n) x p) (C7 (x,p,ts,b1,b2,path)):=by
 obtain⟨o,j,k,m⟩:=A6 (p:=p) (by omega);obtain⟨aM,c⟩:=H.elem g (by omega);rw[C7,j];unfold nI;simp only[aS,ak];by_cases h0:o.2=0
 . obtain⟨v1,r,v3⟩:=k h0;rw[al (by simp[h0]),v1];dsimp only;by_cases b:(o.1.length:Int)<=x.Max
   . rw[ae b,cr];have d:∀q,q∈o.1->∀step b1 b2,fJ ts b1 b2 path (cK ts n x.aD q) (iQ (step,x.aD,q,ts,b1,b2,path)):=λq e step b1 b2=>
      wM (by omega) (ih x.aD q b1 b2 (path++[step]) aM c (by have:=r q e;omega) (by simp;omega))
     obtain⟨gG,a⟩:=Pr (x:=x) (l:=o.1) (by omega) d (z0:=0) (z1:=false) (z2:=0) (z3:=[]) (z4:=0) (a0:=x.Kind) (a1:=false) (a2:=0) (a3:=[]) (a4:=0) (b1:=b1) (b2:=b2) o.1.length 0 [] (by omega) rfl;rw[fc]at gG a;have z0:((0:Nat):Int)=0:=rfl;rw[z0]at gG a;cases hs:cg (cK ts n x.aD) o.1 with
     |none=>
      obtain⟨w,f1,f2,f⟩:=a hs;rw[f];exact⟨λv h=>by simp at h,λ_=>⟨_,_,_,rfl⟩⟩
     |some i=>
      rw[gG i hs];exact⟨λu h=>by grind,λh=>by simp at h⟩
   . rw[al b,bE];exact jU (by omega) _ _ _
 . rw[ae (by simp[h0]),m h0];exact jU (by omega) _ _ _
theorem Qb(H:jm ts):∀n,n<=200->xV ts n
 |0,_=>λt p b1 b2 path t0 t1 d f=>by
  rw[p4,bE,zW];exact jU (by omega) _ _ _
 |n+1,aJ=>λt p b1 b2 path t0 t1 d f=>by
  have ih:=Qb H n (by omega);obtain⟨j,rfl⟩:=CY t0;have C:j<ts.length:=by omega
  rw[p4,cr,ae (aH C),uC,aV];have a:=aZ C aG;generalize ts.getD j aG=x at*;obtain⟨Z,aa⟩:=H.S.K x a;have P:x.bj.length<9223372036854775807:=dx (ig (H.S.T x a).1);unfold kC;simp only[aS,ak];obtain⟨u,E,F,G⟩:=afw p;by_cases k1:x.Kind=1
  . rw[ae k1,ae (show decide (x.Kind=1)=true by simpa using k1)];unfold xK;by_cases h0:p=[]
    . rw[ae h0,al (by simp[h0]),k1,h0];exact .one _
    . by_cases h1:p=[1]
      . rw[al h0,ae h1,al (by simp[h1]),k1,h1];exact .one _
      . rw[al h0,al h1,ae (by simp[h0,h1])];exact jU (by omega) _ _ _
  rw[al k1,al (show ¬decide (x.Kind=1)=true by simpa using k1)];by_cases k2:x.Kind=2
  . rw[ae k2,ae (show decide (x.Kind=2)=true by simpa using k2),E];unfold xL;simp only[ak];by_cases h0:u.2=0
    . obtain⟨m,g,s⟩:=F h0;rw[g,s,afY (E4 g),al (by simp[h0])];simp only[ak];by_cases b:x.bJ<=ji m/\ji m<=x.bN
      . rw[ae b,cr,k2];exact .one _
      . rw[al b,bE];exact jU (by omega) _ _ _
    . rw[G h0,ae (by simp[h0])];exact jU (by omega) _ _ _
  rw[al k2,al (show ¬decide (x.Kind=2)=true by simpa using k2)];by_cases k3:x.Kind=3
  . rw[ae k3,ae (show decide (x.Kind=3)=true by simpa using k3)];unfold xM;by_cases b:(p.length:Int)<=x.Max
    . rw[ae b,cr,k3];exact .one _
    . rw[al b,bE];exact jU (by omega) _ _ _
  rw[al k3,al (show ¬decide (x.Kind=3)=true by simpa using k3)];by_cases k4:x.Kind=4
  . rw[ae k4,ae (show decide (x.Kind=4)=true by simpa using k4),E];unfold xN;simp only[ak];by_cases h0:u.2=0
    . obtain⟨m,g,s⟩:=F h0;rw[g,s];dsimp only;by_cases b:1<=m/\m<=1000
      . obtain⟨q,V,_,X⟩:=p0 (t:=x) (m:Int) P;have e:bY .i64 (m:Int)=(m:Int):=jF;rw[al (show ¬(bif bif !decide (u.2=0)then true else decide ((m:Int)<1)then true else decide (1000<(m:Int)))=true by simp[h0];omega),e,V];simp only[ak];have O:q.2=(x.bj.any λy=>decide (y.ad=(m:Int))):=by
         have:=(EL X).trans Kw;grind
        rw[O,k4];by_cases A:((x.bj.any λy=>decide (y.ad=(m:Int)))||x.Open)=true
        . rw[ae (show 1<=m/\m<=1000/\((x.bj.any λy=>decide (y.ad=(m:Int)))||x.Open)=true from⟨b.1,b.2,A⟩),al]
          . exact .one _
          grind
        . rw[al (show ¬(1<=m/\m<=1000/\((x.bj.any λy=>decide (y.ad=(m:Int)))||x.Open)=true)fromλh=>A h.2.2),ae]
          . exact jU (by omega) _ _ _
          grind
      . rw[al (show ¬(1<=m/\m<=1000/\((x.bj.any λy=>decide (y.ad=(m:Int)))||x.Open)=true)fromλh=>b ⟨h.1,h.2.1⟩),ae (by simp[h0];omega)];exact jU (by omega) _ _ _
    . rw[G h0,ae (by simp[h0])];exact jU (by omega) _ _ _
  rw[al k4,al (show ¬decide (x.Kind=4)=true by simpa using k4)];by_cases k9:x.Kind=9
  . rw[ae k9,ae (show decide (x.Kind=9)=true by simpa using k9)];obtain⟨aM,M⟩:=H.elem a (by omega);cases p with
    |nil=>
     rw[hQ,mH,k9];exact .one _
    |cons c q=>
     have ah:(c::q).length=q.length+1:=rfl;have R:ay 0 (c::q).length=true:=aH (k:=0) (by simp);have b0:fY (c::q) 0=(c.toNat:Int):=rfl;have sg:d' 1 ((c::q).length:Int) (c::q).length=true:=iF.2 (by simp<;>omega);have L:et (c::q) 1 ((c::q).length:Int)=q:=by
      unfold et;simp
     rw[bz,ae R,b0,mH];by_cases o:c=1
     . subst o;rw[ae rfl,bz,ae sg,L];have B:=wM (step:=0) (path:=path) (by omega) (ih x.aD q b1 b2 (path++[0]) aM M (by simp at d;omega) (by simp;omega));cases D:cK ts n x.aD q with
       |none=>
        obtain⟨w,f1,f2,Q⟩:=B.2 D;rw[Q];exact⟨λv h=>by simp at h,λ_=>⟨_,_,_,rfl⟩⟩
       |some v=>
        rw[B.1 v D]
        exact⟨λY h=>by
         have:Y=⟨9,false,0,[],0,[],[v],[]⟩:=(by simpa using h.symm);rw[this]
         simp[I.aP,k9],λh=>by simp at h⟩
     . have N:¬((c.toNat:Int)=1):=λh=>o (UInt8.toNat.inj (by show c.toNat=1;omega));rw[al o,ae (by simpa using N)];exact jU (by omega) _ _ _
  rw[al k9,al (show ¬decide (x.Kind=9)=true by simpa using k9)];by_cases k6:x.Kind=6
  . rw[ae k6,ae (show decide (x.Kind=6)=true by simpa using k6)];refine fJ.eta (fJ.cast ?_ (adJ H.S ih a k6 (λm r=>H.mem a r) d f));rfl
  rw[al k6,al (show ¬decide (x.Kind=6)=true by simpa using k6)];by_cases k7:x.Kind=7
  . rw[ae k7,ae (show decide (x.Kind=7)=true by simpa using k7)];exact fJ.eta (adL H ih a k7 d f)
  rw[al k7,al (show ¬decide (x.Kind=7)=true by simpa using k7)];by_cases k8:x.Kind=8
  . rw[ae k8,ae (show decide (x.Kind=8)=true by simpa using k8)];refine fJ.eta (fJ.cast ?_ (afD ih k8 (H.key a k8) (H.elem a (by omega)) d f));rfl
  rw[al k8,al (show ¬decide (x.Kind=8)=true by simpa using k8)];have k5:x.Kind=5:=by omega
  obtain⟨J,i⟩:=abD H.S H.W ih a k5 (λm r=>H.mem a r) d (b1:=b1) (b2:=b2) f;refine fJ.eta ?_;unfold nH;cases ah:jj p with
  |none=>exact⟨λv h=>(by cases h),λ_=>i (.inl ah)⟩
  |some l=>
   dsimp only;cases hs:cg (ee (cK ts n) l) x.af with
   |none=>exact⟨λv h=>(by cases h),λ_=>i (.inr ⟨l,ah,.inl hs⟩)⟩
   |some U=>
    dsimp only;cases z:l.all (fQ x)with
    |true=>exact⟨λv h=>(by cases h;exact J l ah U hs z),λh=>(by cases h)⟩
    |false=>exact⟨λv h=>(by cases h),λ_=>i (.inr ⟨l,ah,.inr z⟩)⟩
end
def fE(o:Option I)(r:Option cU):Prop:=(∀v,o=some v->∃F,r=some ⟨v,F,true⟩)/\(o=none->∃F,r=some ⟨ez,F,false⟩)
theorem AH(b:path.length<=1000)(a:Int):ho (path,a)=some ⟨ez,⟨path,a⟩,false⟩:=by rw[ho,ae (cV),fH];rfl
theorem nF(a:path.length<=1000)(step:Int):l4 (path,step)=some (path++[step]):=by
 rw[l4,ae (cV)];simp only[aS,ak,fH];rw[ae (cV)]
theorem ju(a:path.length<=1000)(b:Int):fE none (ho (path,b)>>=λr=>some (⟨I.eta r.Value,r.dL,r.cj⟩:cU)):=by
 rw[AH a];exact⟨λv h=>(by cases h),λ_=>⟨_,rfl⟩⟩
theorem fE.eta{o:Option I}{a:Option cU}(h:fE o a):fE o (a>>=λr=>some (⟨I.eta r.Value,r.dL,r.cj⟩:cU)):=by
 refine⟨λv c=>?_,λaJ=>?_⟩
 . obtain⟨F,bn⟩:=h.1 v c;exact⟨F,by rw[bn];simp[I.aP]⟩
 . obtain⟨F,bn⟩:=h.2 aJ;exact⟨F,by rw[bn];rfl⟩
theorem uY(v:I):om v=some ⟨v,⟨[],0⟩,true⟩:=by rw[om,I.aP]
theorem fE.one(v:I):fE (some v) (om v>>=λr=>some (⟨I.eta r.Value,r.dL,r.cj⟩:cU)):=by
 rw[uY];exact⟨λa h=>(by cases h;exact⟨_,by simp[I.aP];rfl⟩),λh=>(by cases h)⟩
section
variable {ts:List ai}
def lW(ts:List ai)(o:Option I)(L:Int)(path:ao)(t:Int)(q:aj)(step:Int):Prop:=
 fE o (l4 (path,step)>>=λr=>jO ((⟨ts⟩:aO),t,q,aK .i64 L 1,r))
theorem lW.yes{step:Int}(h:lW ts o L path t q step)(a:path.length<=1000)(c:o=some v):∃F,jO ((⟨ts⟩:aO),t,q,aK .i64 L 1,path++[step])=some ⟨v,F,true⟩:=by
 unfold lW at h;rw[nF a]at h;exact h.1 v c
theorem lW.no{step:Int}(h:lW ts o L path t q step)(a:path.length<=1000)(c:o=none):∃F,jO ((⟨ts⟩:aO),t,q,aK .i64 L 1,path++[step])=some ⟨ez,F,false⟩:=by
 unfold lW at h;rw[nF a]at h;exact h.2 c
theorem U4(n:path.length<=900){l:List aj}(ah:l.length<=90000)(h:∀q,q∈l->∀step,lW ts (f q) L path x.aD q step)
 {z0 z2 z4 z5 z7 z9 z11:Int}{z1 z6 z8:Bool}{z3 z10:aj}:∀(k i:Nat) (acc:List I),i+k=l.length->acc.length=i->
 (∀m,cg f (l.drop i)=some m->tU (L,path,l,(i:Int),ts,x,z0,z1,z2,z3,z4,z5,z6,z7,z8,z9,z10,z11,acc)=some (.inr (z0,z1,z2,z3,z4,z5,z6,z7,z8,z9,z10,z11,acc++m)))/\
 (cg f (l.drop i)=none->∃F,tU (L,path,l,(i:Int),ts,x,z0,z1,z2,z3,z4,z5,z6,z7,z8,z9,z10,z11,acc)=some (.inl ⟨ez,F,false⟩))
 |0,i,acc,j,g=>by
  rw[tU,cr,ei (by omega),cg];grind
 |k+1,i,acc,j,g=>by
  have aC:i<l.length:=by omega
  have c:=h _ (aZ aC []) (i:Int);have e:l.drop i=l.getD i []::l.drop (i+1):=by rw[dd aC];exact jB aC
  rw[tU,bE,ae (aH aC),aV,e,uB,nF (by omega)];simp only[aS,ak];cases d:f (l.getD i [])with
  |none=>
   obtain⟨F,b⟩:=c.no (by omega) d;rw[b];exact⟨λm a=>(by cases a),λ_=>⟨F,by simp[I.aP]⟩⟩
  |some v=>
   obtain⟨F,b⟩:=c.yes (by omega) d;rw[b];simp only[ak,I.aP,de];rw[bz,ae (cV),bA (by omega)];obtain⟨r,o⟩:=U4 n ah h (z0:=z0) (z1:=z1) (z2:=z2) (z3:=z3) (z4:=z4) (z5:=z5) (z6:=z6) (z7:=z7) (z8:=z8) (z9:=z9) (z10:=z10) (z11:=z11) k (i+1) (acc++[v]) (by omega) (by simp;omega);cases hs:cg f (l.drop (i+1))with
   |none=>exact⟨λm a=>(by cases a),λ_=>o hs⟩
   |some p=>
    refine⟨λm a=>?_,λh=>(by cases h)⟩;have:m=v::p:=(by cases a;rfl)
    grind
theorem CB{i:Nat}(h:i<1000000:=by omega):gB .i64 2 (i:Int)=((2*i:Nat):Int):=by
 unfold gB;have e:(2:Int)*(i:Int)=((2*i:Nat):Int):=by omega
 rw[e];exact jF
theorem U3(i:path.length<=900){l:List aj}(ah:l.length<=90000)(h:∀q,q∈l->∀step,lW ts (f q) L path x.Key q step)
 {z0 z2 z4 z5 z7 z9 z11:Int}{z1 z6 z8:Bool}{z3 z10:aj}:∀(k j:Nat) (acc:List I),2*(j+k)=l.length->acc.length=j->
 (∀m,cg f (fk (l.drop (2*j)))=some m->s0 (L,path,l,(j:Int),ts,x,z0,z1,z2,z3,z4,z5,z6,z7,z8,z9,z10,z11,acc)=some (.inr (L,path,l,ts,x,z0,z1,z2,z3,z4,z5,z6,z7,z8,z9,z10,z11,acc++m)))/\
 (cg f (fk (l.drop (2*j)))=none->∃F,s0 (L,path,l,(j:Int),ts,x,z0,z1,z2,z3,z4,z5,z6,z7,z8,z9,z10,z11,acc)=some (.inl ⟨ez,F,false⟩))
 |0,j,acc,g,e=>by
  rw[s0,CB,cr,ei (by omega),show fk ([]:List aj)=[]from rfl,cg];grind
 |k+1,j,acc,g,e=>by
  have aC:2*j<l.length:=by omega
  have c:=h _ (aZ aC []) (j:Int);rw[s0,CB,bE];simp only[aS,ak];rw[ae (aH aC),aV,N6 (by omega) [],uB,nF (by omega)];simp only[ak];cases d:f (l.getD (2*j) [])with
  |none=>
   obtain⟨F,b⟩:=c.no (by omega) d;rw[b];exact⟨λm a=>(by cases a),λ_=>⟨F,by simp[I.aP]⟩⟩
  |some v=>
   obtain⟨F,b⟩:=c.yes (by omega) d;rw[b];simp only[ak,I.aP,de];rw[bz,ae (cV),bA (by omega)];obtain⟨p,n⟩:=U3 i ah h (z0:=z0) (z1:=z1) (z2:=z2) (z3:=z3) (z4:=z4) (z5:=z5) (z6:=z6) (z7:=z7) (z8:=z8) (z9:=z9) (z10:=z10) (z11:=z11) k (j+1) (acc++[v]) (by omega) (by simp;omega);cases hs:cg f (fk (l.drop (2*(j+1))))with
   |none=>exact⟨λm a=>(by cases a),λ_=>n hs⟩
   |some o=>
    refine⟨λm a=>?_,λh=>(by cases h)⟩;have:m=v::o:=(by cases a;rfl)
    grind
theorem RX(i:path.length<=900){l:List aj}(ah:l.length<=90000)(h:∀q,q∈l->∀step,lW ts (f q) L path x.aD q step)
 {z0 z2 z4 z5 z7 z9 z11:Int}{z1 z6 z8:Bool}{z3 z10:aj}{ks:List I}:∀(k j:Nat) (acc:List I),2*(j+k)=l.length->acc.length=j->
 (∀m,cg f (e5 (l.drop (2*j)))=some m->s3 (L,path,l,(j:Int),ts,x,z0,z1,z2,z3,z4,z5,z6,z7,z8,z9,z10,z11,ks,acc)=some (.inr (z0,z1,z2,z3,z4,z5,z6,z7,z8,z9,z10,z11,ks,acc++m)))/\
 (cg f (e5 (l.drop (2*j)))=none->∃F,s3 (L,path,l,(j:Int),ts,x,z0,z1,z2,z3,z4,z5,z6,z7,z8,z9,z10,z11,ks,acc)=some (.inl ⟨ez,F,false⟩))
 |0,j,acc,g,e=>by
  rw[s3,CB,cr,ei (by omega),show e5 ([]:List aj)=[]from rfl,cg];grind
 |k+1,j,acc,g,e=>by
  have aC:2*j+1<l.length:=by omega
  have c:=h _ (aZ aC []) (j:Int);have aM:aK .i64 ((2*j:Nat):Int) 1=((2*j+1:Nat):Int):=bA (by omega);rw[s3,CB,bE,aM];simp only[aS,ak];rw[ae (aH aC),aV,O3 aC [],uB,nF (by omega)];simp only[ak];cases d:f (l.getD (2*j+1) [])with
  |none=>
   obtain⟨F,b⟩:=c.no (by omega) d;rw[b];exact⟨λm a=>(by cases a),λ_=>⟨F,by simp[I.aP]⟩⟩
  |some v=>
   obtain⟨F,b⟩:=c.yes (by omega) d;rw[b];simp only[ak,I.aP,de];rw[bz,ae (cV),bA (by omega)];obtain⟨p,n⟩:=RX i ah h (z0:=z0) (z1:=z1) (z2:=z2) (z3:=z3) (z4:=z4) (z5:=z5) (z6:=z6) (z7:=z7) (z8:=z8) (z9:=z9) (z10:=z10) (z11:=z11) (ks:=ks) k (j+1) (acc++[v]) (by omega) (by simp;omega);cases hs:cg f (e5 (l.drop (2*(j+1))))with
   |none=>exact⟨λm a=>(by cases a),λ_=>n hs⟩
   |some o=>
    refine⟨λm a=>?_,λh=>(by cases h)⟩;have:m=v::o:=(by cases a;rfl)
    grind
theorem U0{x:ai}(c:path.length<=1000){l:List aj}(a:∀y,y∈ks->cy y.bg)(ah:ks.length<=90000){L:Int}
 {z0 z2 z4 z5 z7 z9 z11:Int}{z1 z6 z8:Bool}{z3 z10:aj}:∀(k i:Nat),ks.length-(i+1)=k->
 ((∀m,i<=m->m+1<ks.length->hT (ks.getD m ar) (ks.getD (m+1) ar)<0)/\rF (L,path,l,((i+1:Nat):Int),ts,x,z0,z1,z2,z3,z4,z5,z6,z7,z8,z9,z10,z11,ks)=some (.inr (L,path,l,ts,x,z0,z1,z2,z3,z4,z5,z6,z7,z8,z9,z10,z11,ks)))\/
 ((∃m,m+1<ks.length/\¬hT (ks.getD m ar) (ks.getD (m+1) ar)<0)/\∃F,rF (L,path,l,((i+1:Nat):Int),ts,x,z0,z1,z2,z3,z4,z5,z6,z7,z8,z9,z10,z11,ks)=some (.inl ⟨ez,F,false⟩))
 |0,i,d=>by
  rw[rF,cr];grind
 |k+1,i,d=>by
  have aC:i+1<ks.length:=by omega
  have aM:di .i64 ((i+1:Nat):Int) 1=(i:Int):=by rw[hJ (by omega) (by omega)];omega
  rw[rF,bE,aM];simp only[aS,ak];rw[ae (aH (by omega)),bE,ae (aH aC),bE,aV,aV];simp only[I.aP];rw[wK (a _ (aZ (by omega) ar)) (a _ (aZ aC ar))];simp only[ak];by_cases b:hT (ks.getD i ar) (ks.getD (i+1) ar)<0
  . rw[al (by simpa using b),bA (by omega)];rcases U0 c a ah (x:=x) (l:=l) (L:=L) (z0:=z0) (z1:=z1) (z2:=z2) (z3:=z3) (z4:=z4) (z5:=z5) (z6:=z6) (z7:=z7) (z8:=z8) (z9:=z9) (z10:=z10) (z11:=z11) k (i+1) (by omega)with⟨h1,e⟩|h
    . grind
    grind
  . rw[ae (by simpa using b),AH c];grind
theorem af0{l:List cP}(id:Int)(ah:l.length<=90000):(∃j,j<l.length/\l.find? (λf=>decide (f.ad=id))=some (l.getD j gm)/\zf (l,id)=some (j:Int))\/
 (l.find? (λf=>decide (f.ad=id))=none/\zf (l,id)=some (-1)):=by
 have h:=ns (λi=>p9 (l,id,(i:Int))) l.length (λi=>decide ((l.getD i gm).ad=id)) (λi=>.inl (i:Int)) (.inr ())
  (λi a=>by
   rw[p9,bE,ae (aH a),bA (by omega)]
   grind)
  (by rw[p9,bz])
 have cQ:p9 (l,id,((0:Nat):Int))=p9 (l,id,0):=rfl;simp only[cQ]at h;rw[zf];rcases h with⟨j,h1,c,d,b⟩|⟨h1,b⟩
 . left;refine⟨j,h1,?_,by rw[b];rfl⟩;rw[dd h1]at c⊢;rw[yT];refine⟨c,j,h1,rfl,λk g=>?_⟩;have:=d k g;rw[dd (by omega)]at this;simpa using this
 . right;refine⟨?_,by rw[b];rfl⟩;rw[CI];intro f e;obtain⟨i,a,rfl⟩:=e3 e;have:=h1 i a;rw[dd a]at this;simpa using this
theorem U6 {x:ai}{path:ao}(E:path.length<=900){f:Int->aj->Option I}{l:List cP}(ah:l.length<=90000)(z:x.af.length<=16){L:Int}
 (h:∀m,m∈x.af->∀q,q∈l->∀step,lW ts (f m.av q.Data) L path m.av q.Data step)
 {z0 z2 z4 z5 z7 z9 z11:Int}{z1 z6 z8:Bool}{z3 z10:aj}:∀(k i:Nat) (acc:List I),i+k=x.af.length->acc.length=i->
 (∀m,cg (ee f l) (x.af.drop i)=some m->mY (L,path,l,(i:Int),ts,x,z0,z1,z2,z3,z4,z5,z6,z7,z8,z9,z10,z11,acc)=some (.inr (path,l,x,z0,z1,z2,z3,z4,z5,z6,z7,z8,z9,z10,z11,acc++m)))/\
 (cg (ee f l) (x.af.drop i)=none->∃F,mY (L,path,l,(i:Int),ts,x,z0,z1,z2,z3,z4,z5,z6,z7,z8,z9,z10,z11,acc)=some (.inl ⟨ez,F,false⟩))
 |0,i,acc,C,B=>by
  rw[mY,cr,ei (by omega),cg];grind
 |k+1,i,acc,C,B=>by
  have aC:i<x.af.length:=by omega
  have D:=aZ aC aw;have e:x.af.drop i=x.af.getD i aw::x.af.drop (i+1):=by rw[dd aC];exact jB aC
  have go:∀v,(∀n,cg (ee f l) (x.af.drop (i+1))=some n->mY (L,path,l,((i+1:Nat):Int),ts,x,z0,z1,z2,z3,z4,z5,z6,z7,z8,z9,z10,z11,acc++[v])=some (.inr (path,l,x,z0,z1,z2,z3,z4,z5,z6,z7,z8,z9,z10,z11,acc++[v]++n)))/\(cg (ee f l) (x.af.drop (i+1))=none->∃F,mY (L,path,l,((i+1:Nat):Int),ts,x,z0,z1,z2,z3,z4,z5,z6,z7,z8,z9,z10,z11,acc++[v])=some (.inl ⟨ez,F,false⟩)):=λv=>
   U6 E ah z h k (i+1) (acc++[v]) (by omega) (by simp;omega)
  rw [mY,bE,ae (aH aC),aV,e,uB];simp only [aS,ak];generalize x.af.getD i aw = a at *;have w:∀ (v:I) (d:Option _),ee f l a = some v->d = mY (L,path,l,((i+1:Nat):Int),ts,x,z0,z1,z2,z3,z4,z5,z6,z7,z8,z9,z10,z11,acc++[v])->
   (∀m,x5 (ee f l a) (cg (ee f l) (x.af.drop (i+1)))=some m->d=some (.inr (path,l,x,z0,z1,z2,z3,z4,z5,z6,z7,z8,z9,z10,z11,acc++m)))/\
   (x5 (ee f l a) (cg (ee f l) (x.af.drop (i+1)))=none->∃F,d=some (.inl ⟨ez,F,false⟩)):=by
   intro v d c A;obtain⟨G,y⟩:=go v;rw[c,A];cases hs:cg (ee f l) (x.af.drop (i+1))with
   |none=>exact⟨λm b=>(by cases b),λ_=>y hs⟩
   |some n=>
    refine⟨λm b=>?_,λh=>(by cases h)⟩;have:m=v::n:=(by cases b;rfl)
    grind
  rcases af0 a.ad ah with⟨j,u,g,r⟩|⟨g,r⟩
  . rw[r];simp only[ak];rw[bz,ae (aH u),aV,nF (by omega)];have s:=h a D _ (aZ u gm) a.ad;have o:ee f l a=f a.av (l.getD j gm).Data:=by unfold ee;rw[g]
    simp only[ak];cases c:f a.av (l.getD j gm).Data with
    |none=>
     obtain⟨F,p⟩:=s.no (by omega) c;rw[p,o,c];exact⟨λm b=>(by cases b),λ_=>⟨F,by simp[I.aP]⟩⟩
    |some v=>
     obtain⟨F,p⟩:=s.yes (by omega) c;rw[p];simp only[ak,I.aP,de];rw[bz,ae (cV),bA (by omega)];grind
  . rw[r];simp only[ak];rw[hQ];cases t:a.bu with
    |true=>
     rw[bz];simp only[I.aP];rw[ae (cV),bA (by omega)];exact w a.bm _ (by unfold ee;rw[g];simp[t]) rfl
    |false=>
     have o:ee f l a=none:=by unfold ee;rw[g];simp[t]
     rw[hQ,nF (by omega),o];simp only[ak];rw[AH (by simp;omega)];simp only[ak,I.aP];exact⟨λm b=>(by cases b),λ_=>⟨_,rfl⟩⟩
theorem ai7(f:x.af.length<=1000)(id:Int):∃r,fw (x,id)=some r/\r.2=(cw x.af id).isSome:=by
 obtain⟨r,e,c⟩:=Ah (t:=x) (id:=id) (by omega);refine⟨r,e,?_⟩;cases bn:cw x.af id with
 |some m=>
  obtain⟨d,k⟩:=jT bn;rcases c with⟨j,a,b,_,rfl⟩|⟨q,_⟩
  . rfl
  . obtain⟨i,g,rfl⟩:=e3 d;grind
 |none=>
  rcases c with⟨j,a,b,_,_⟩|⟨_,q⟩
  . exact absurd b (oG bn _ (aZ a aw))
  grind
theorem G2 {x:ai}{path:ao}(g:path.length<=900)(b:x.af.length<=1000){l:List cP}(ah:l.length<=90000)
 {z0 z2 z4 z5 z7 z9 z11:Int}{z1 z6 z8:Bool}{z3 z10:aj}{its:List I}:∀(k i:Nat) (acc:List bQ),i+k=l.length->acc.length<=i->
 ((l.drop i).all (fQ x)=true->p6 (path,l,(i:Int),x,z0,z1,z2,z3,z4,z5,z6,z7,z8,z9,z10,z11,its,acc)=some (.inr (z0,z1,z2,z3,z4,z5,z6,z7,z8,z9,z10,z11,its,acc++fh x (l.drop i))))/\
 ((l.drop i).all (fQ x)=false->∃F,p6 (path,l,(i:Int),x,z0,z1,z2,z3,z4,z5,z6,z7,z8,z9,z10,z11,its,acc)=some (.inl ⟨ez,F,false⟩))
 |0,i,acc,o,m=>by
  rw[p6,cr,ei (by omega)];exact⟨λ_=>by simp[fh],λh=>by simp at h⟩
 |k+1,i,acc,o,m=>by
  have aC:i<l.length:=by omega
  have e:l.drop i=l.getD i gm::l.drop (i+1):=by rw[dd aC];exact jB aC
  obtain⟨r,p,j⟩:=ai7 b (l.getD i gm).ad;rw[p6,bE,ae (aH aC),aV,e];simp only[aS,ak];generalize l.getD i gm=f at*;rw[p];simp only[ak];have n:(f::l.drop (i+1)).all (fQ x)=(fQ x f&&(l.drop (i+1)).all (fQ x)):=rfl;rw[n];cases hs:(cw x.af f.ad).isSome with
  |true=>
   have a:fQ x f=true:=by unfold fQ;rw[hs];rfl
   have c:fh x (f::l.drop (i+1))=fh x (l.drop (i+1)):=by unfold fh;rw[Gu (by rw[hs];simp)]
   rw[j,hs,ae rfl,a,c,bA (by omega),nC];exact G2 g b ah k (i+1) acc (by omega) (by omega)
  |false=>
   rw[j,hs,bz,ae (aH aC)];cases d:f.b8 with
   |true=>
    have a:fQ x f=false:=by unfold fQ;rw[hs,d];rfl
    rw[ae rfl,ae (aH aC),nF (by omega),a];simp only[ak];rw[AH (by simp;omega)];exact⟨λh=>(by cases h),λ_=>⟨_,rfl⟩⟩
   |false=>
    have a:fQ x f=true:=by unfold fQ;rw[hs,d];rfl
    have c:fh x (f::l.drop (i+1))=⟨f.ad,f.Data⟩::fh x (l.drop (i+1)):=by unfold fh;rw[Gv (by rw[hs];rfl)];rfl
    rw[bz,ae (aH aC),ae (aH aC),ae (cV),a,c,bA (by omega),nC];have:=G2 g b ah (z0:=z0) (z1:=z1) (z2:=z2) (z3:=z3) (z4:=z4) (z5:=z5) (z6:=z6) (z7:=z7) (z8:=z8) (z9:=z9) (z10:=z10) (z11:=z11) (its:=its) k (i+1) (acc++[⟨f.ad,f.Data⟩]) (by omega) (by simp;omega);grind
def o4(ts:List ai)(n:Nat):Prop:=∀(t:Int) (p:aj) (path:ao),0<=t->t<ts.length->p.length<=4096->path.length+n<=200->
 fE (cK ts n t p) (jO ((⟨ts⟩:aO),t,p,((201-n:Nat):Int),path))
theorem o4.part{n:Nat}(ih:o4 ts n)(aJ:n+1<=200)(t0:0<=t/\t<ts.length)(a:q.length<=4096)(c:path.length+(n+1)<=200)(step:Int):
 lW ts (cK ts n t q) ((201-(n+1):Nat):Int) path t q step:=by
 unfold lW;rw[nF (by omega)];have e:aK .i64 ((201-(n+1):Nat):Int) 1=((201-n:Nat):Int):=by rw[bA (by omega)];omega
 rw[e];exact ih t q (path++[step]) t0.1 t0.2 a (by simp;omega)
theorem fE.cast{c:Option I}{a:Option cU}(e:o=c)(h:fE o a):fE c a:=e▸h
theorem fE.r8{a:Option cU}(h:a=some ⟨ez,F,false⟩):fE none a:=⟨λv h=>(by cases h),λ_=>⟨F,h⟩⟩
theorem fE.xC{a:Option cU}(h:a=some ⟨v,F,true⟩):fE (some v) a:=⟨λe c=>(by cases c;exact⟨F,h⟩),λh=>(by cases h)⟩
theorem af1(H:jm ts){n:Nat}(aJ:n+1<=200)(ih:o4 ts n)(k:x∈ts)(k6:x.Kind=6)(K:p.length<=4096)(w:path.length+(n+1)<=200):
 fE (qJ (cK ts n) x p) (DQ ((⟨ts⟩:aO),x,p,((201-(n+1):Nat):Int),path)):=by
 obtain⟨o,_,B,C,D⟩:=aew p;rw[DQ,B];simp only[aS,ak];unfold qJ;by_cases h0:o.2.2=0
 . obtain⟨v1,L,v3⟩:=C h0;obtain⟨u,G⟩:=H.S.A x k (.inr k6);rw[al (by simp[h0]),v1];dsimp only;obtain⟨r,E,s⟩:=Ah (t:=x) (id:=o.1) (by omega);rw[E];simp only[ak];cases bn:cw x.af o.1 with
   |some m=>
    dsimp only;obtain⟨d,l⟩:=jT bn;rcases s with⟨j,a,c,_,rfl⟩|⟨q,_⟩
    . have z:x.af.getD j aw=m:=qm u (aZ a aw) d (by rw[c,l]);rw[bz,bz,ae (aH a),aV,z];have e:=ih.part aJ (t:=m.av) (q:=o.2.1) (path:=path) (H.mem k d) (by omega) w o.1;rw[nF (by omega)];simp only[ak];cases g:cK ts n m.av o.2.1 with
      |none=>
       obtain⟨F,b⟩:=e.no (by omega) g;rw[b];exact .r8 rfl
      |some v=>
       obtain⟨F,b⟩:=e.yes (by omega) g;rw[b];simp only[ak];rw[bz,uY];refine fE.cast rfl (fE.xC (F:=⟨[],0⟩) ?_);simp[I.aP,k6]
    . obtain⟨i,f,rfl⟩:=e3 d;exact absurd l (by have:=q i f;rwa [dd f]at this)
   |none=>
    dsimp only;have y:r=(0,false):=by
     rcases s with⟨j,a,c,_,_⟩|⟨_,q⟩
     . exact absurd c (oG bn _ (aZ a aw))
     . exact q
    rw[y];cases J:x.Open with
    |false=>
     rw[bz,hQ];exact ju (by omega) _
    |true=>
     rw[hQ,bz,hQ,uY,k6];refine fE.xC (F:=⟨[],0⟩) ?_;simp[I.aP]
 . rw[ae (by simp[h0]),D h0];exact ju (by omega) _
theorem af2(H:jm ts){n:Nat}(aJ:n+1<=200)(ih:o4 ts n)(g:x∈ts)(k7:x.Kind=7)(s:p.length<=4096)(c:path.length+(n+1)<=200):
 fE (nI (cK ts n) x p) (DU ((⟨ts⟩:aO),x,p,((201-(n+1):Nat):Int),path)):=by
 obtain⟨o,_,j,k,m⟩:=N4 (p:=p) (by omega);rw[DU,j];unfold nI;simp only[aS,ak];by_cases h0:o.2=0
 . obtain⟨v1,r,v3⟩:=k h0;rw[v1];dsimp only;by_cases b:(o.1.length:Int)<=x.Max
   . rw[ae b,al (by simp[h0]),cr];obtain⟨gG,a⟩:=U4 (ts:=ts) (x:=x) (path:=path) (by omega) (f:=cK ts n x.aD) (l:=o.1) (by omega) (L:=((201-(n+1):Nat):Int)) (λq d step=>ih.part aJ (H.elem g (by omega)) (by have:=r q d;omega) c step)
      (z0:=0) (z1:=false) (z2:=0) (z3:=[]) (z4:=0) (z5:=0) (z6:=false) (z7:=x.Kind) (z8:=false) (z9:=0) (z10:=[]) (z11:=0) o.1.length 0 [] (by omega) rfl
     rw[fc]at gG a;have z0:((0:Nat):Int)=0:=rfl;rw[z0]at gG a;cases hs:cg (cK ts n x.aD) o.1 with
     |none=>
      obtain⟨F,e⟩:=a hs;rw[e];exact .r8 rfl
     |some i=>
      rw[gG i hs];simp only[ak];rw[uY];refine fE.cast rfl (fE.xC (F:=⟨[],0⟩) ?_);simp[I.aP,k7]
   . rw[al b,al (by simp[h0]),bE];exact ju (by omega) _
 . rw[ae (by simp[h0]),m h0];exact ju (by omega) _
theorem ai2(H:jm ts){n:Nat}(aJ:n+1<=200)(ih:o4 ts n)(u:x∈ts)(k8:x.Kind=8)(O:p.length<=4096)(s:path.length+(n+1)<=200):
 fE (qK (cK ts n) x p) (Dc ((⟨ts⟩:aO),x,p,((201-(n+1):Nat):Int),path)):=by
 obtain⟨o,_,G,J,K⟩:=N4 (p:=p) (by omega);rw[Dc,G];unfold qK;simp only[aS,ak];by_cases h0:o.2=0
 . obtain⟨v1,v,v3⟩:=J h0;rw[v1];dsimp only;have A:b9 (o.1.length:Int) 2=((o.1.length%2:Nat):Int):=by rw[hp];omega
   rw[A,UZ (by omega)];by_cases he:o.1.length%2=0
   . by_cases r:((o.1.length/2:Nat):Int)<=x.Max
     . rw[ae (show o.1.length%2=0/\((o.1.length/2:Nat):Int)<=x.Max from⟨he,r⟩),al (show ¬(bif !decide (o.2=0)then true else decide (((o.1.length%2:Nat):Int)=1))=true by rw[he,h0];simp),al (show ¬decide (x.Max<((o.1.length/2:Nat):Int))=true by simp only[e4];omega)];have z0:((0:Nat):Int)=0:=rfl;obtain⟨gG,g⟩:=U3 (ts:=ts) (x:=x) (path:=path) (by omega) (f:=cK ts n x.Key) (l:=o.1) (by omega) (L:=((201-(n+1):Nat):Int)) (λq d step=>ih.part aJ (H.key u k8) (by have:=v q d;omega) s step)
        (z0:=0) (z1:=false) (z2:=0) (z3:=[]) (z4:=0) (z5:=0) (z6:=false) (z7:=x.Kind) (z8:=false) (z9:=0) (z10:=[]) (z11:=0) (o.1.length/2) 0 [] (by omega) rfl
       rw[Nat.mul_zero,fc,z0]at gG g;cases hs:cg (cK ts n x.Key) (fk o.1)with
       |none=>
        obtain⟨F,e⟩:=g hs;rw[e];exact .r8 rfl
       |some ks=>
        have N:=qj hs;have M:=Ji o.1;rw[gG ks hs];simp only[ak,fH];have z:∀y,y∈ks->cy y.bg:=λy B=>by
         obtain⟨a,_,a2⟩:=wN hs y B;exact Pu a2
        have one:((0+1:Nat):Int)=1:=rfl;rcases U0 (ts:=ts) (x:=x) (path:=path) (by omega) (l:=o.1) (ks:=ks) z (by omega) (L:=((201-(n+1):Nat):Int))
         (z0:=0) (z1:=false) (z2:=0) (z3:=[]) (z4:=0) (z5:=0) (z6:=false) (z7:=x.Kind) (z8:=false) (z9:=0) (z10:=[]) (z11:=0) (ks.length-(0+1)) 0 rfl with⟨h1,b⟩|⟨⟨m,D,E⟩,F,b⟩
        . have c:o' ks=true:=wL.2 λi w=>h1 i (by omega) w;rw[one]at b;rw[b,ae c];simp only[ak];obtain⟨j,k⟩:=RX (ts:=ts) (x:=x) (path:=path) (by omega) (f:=cK ts n x.aD) (l:=o.1) (by omega) (L:=((201-(n+1):Nat):Int)) (λq d step=>ih.part aJ (H.elem u (by omega)) (by have:=v q d;omega) s step)
           (z0:=0) (z1:=false) (z2:=0) (z3:=[]) (z4:=0) (z5:=0) (z6:=false) (z7:=x.Kind) (z8:=false) (z9:=0) (z10:=[]) (z11:=0) (ks:=ks) (o.1.length/2) 0 [] (by omega) rfl
          rw[Nat.mul_zero,fc,z0]at j k;cases t:cg (cK ts n x.aD) (e5 o.1)with
          |none=>
           obtain⟨F,e⟩:=k t;rw[e];exact .r8 rfl
          |some C=>
           rw[j C t];simp only[ak];rw[uY];refine fE.cast rfl (fE.xC (F:=⟨[],0⟩) ?_);simp[I.aP,k8]
        . have c:¬o' ks=true:=λh=>E (wL.1 h m D);rw[one]at b;rw[b,al c];exact .r8 rfl
     . rw[al (show ¬(o.1.length%2=0/\((o.1.length/2:Nat):Int)<=x.Max)fromλh=>r h.2),al (show ¬(bif !decide (o.2=0)then true else decide (((o.1.length%2:Nat):Int)=1))=true by rw[he,h0];simp),ae (show decide (x.Max<((o.1.length/2:Nat):Int))=true by simp only[e4];omega)];exact ju (by omega) _
   . have h1:o.1.length%2=1:=(by omega);rw[al (show ¬(o.1.length%2=0/\((o.1.length/2:Nat):Int)<=x.Max)fromλh=>he h.1),ae (show(bif !decide (o.2=0)then true else decide (((o.1.length%2:Nat):Int)=1))=true by rw[h1,h0];simp)];exact ju (by omega) _
 . rw[K h0,ae (by simp[h0])];exact ju (by omega) _
theorem afE(H:jm ts){n:Nat}(aJ:n+1<=200)(ih:o4 ts n)(e:x∈ts)(k5:x.Kind=5)(w:p.length<=4096)(i:path.length+(n+1)<=200):
 fE (nH (cK ts n) x p) (DL ((⟨ts⟩:aO),x,p,((201-(n+1):Nat):Int),path)):=by
 obtain⟨u,v⟩:=H.S.A x e (.inl k5);obtain⟨o,_,k,r,s⟩:=abd (p:=p) (by omega);rw[DL,k];unfold nH;simp only[aS,ak];by_cases h0:o.2=0
 . obtain⟨v1,t,v3,v4⟩:=r h0;rw[al (by simp[h0]),v1];dsimp only;obtain⟨gG,c⟩:=U6 (ts:=ts) (x:=x) (path:=path) (by omega) (f:=cK ts n) (l:=o.1) (by omega) (by omega) (L:=((201-(n+1):Nat):Int)) (λm g q j step=>ih.part aJ (H.mem e g) (by have:=(t q j).1;omega) i step)
    (z0:=0) (z1:=false) (z2:=0) (z3:=[]) (z4:=0) (z5:=0) (z6:=false) (z7:=x.Kind) (z8:=false) (z9:=0) (z10:=[]) (z11:=0) x.af.length 0 [] (by omega) rfl
   have z0:((0:Nat):Int)=0:=rfl;rw[fc,z0]at gG c;have B:=λits=>G2 (x:=x) (path:=path) (by omega) (by omega) (l:=o.1) (by omega) (z0:=0) (z1:=false) (z2:=0) (z3:=[]) (z4:=0) (z5:=0) (z6:=false) (z7:=x.Kind) (z8:=false) (z9:=0) (z10:=[]) (z11:=0) (its:=its) o.1.length 0 [] (by omega) (eI _);rw[fc,z0]at B;cases hs:cg (ee (cK ts n) o.1) x.af with
   |none=>
    obtain⟨F,a⟩:=c hs;rw[a];exact .r8 rfl
   |some b=>
    rw[gG b hs];simp only[ak,fH];cases d:o.1.all (fQ x)with
    |true=>
     rw[(B b).1 d,ae rfl];simp only[ak];rw[uY];refine fE.cast rfl (fE.xC (F:=⟨[],0⟩) ?_);simp[I.aP,k5]
    |false=>
     obtain⟨F,a⟩:=(B b).2 d;rw[a,bz];exact .r8 rfl
 . rw[ae (by simp[h0]),s h0];exact ju (by omega) _
theorem adM(H:jm ts){n:Nat}(aJ:n+1<=200)(ih:o4 ts n):o4 ts (n+1):=λt p path t0 t1 f g=>by
 obtain⟨j,rfl⟩:=CY t0;have z:j<ts.length:=by omega
 have a:¬(200:Int)<((201-(n+1):Nat):Int):=by omega
 rw[jO,ae (aH z),uC,aV];have d:=aZ z aG;generalize ts.getD j aG=x at*;obtain⟨R,U⟩:=H.S.K x d;have M:x.bj.length<9223372036854775807:=dx (ig (H.S.T x d).1);unfold kC;obtain⟨u,_,Q,C,D⟩:=abz p;have A:y8 p=some (u.1,decide (u.2=0)):=by rw[y8,Q];rfl
 by_cases k1:x.Kind=1
 . simp only[k1,a,e4,↓reduceIte,Int.reduceEq,c6,dU,bW,aS,ak];unfold xK;by_cases h0:p=[]
   . rw[ae h0,al (by simp[h0])];simp only[h0,dc,de];exact .one _
   . by_cases h1:p=[1]
     . rw[al h0,ae h1,al (by simp[h1])];simp only[h0,c6,en];exact .one _
     . rw[al h0,al h1,ae (by simp[h0,h1])];exact ju (by omega) _
 by_cases k2:x.Kind=2
 . simp only[k2,a,e4,↓reduceIte,Int.reduceEq,c6,dU,bW,aS,ak,A];unfold xL;by_cases h0:u.2=0
   . obtain⟨m,i,r⟩:=C h0;rw[i,r,afX (E4 i),al (by simp[h0])];simp only[ak];by_cases b:x.bJ<=ji m/\ji m<=x.bN
     . rw[ae b,cr];exact .one _
     . rw[al b,bE];exact ju (by omega) _
   . rw[D h0,ae (by simp[h0])];exact ju (by omega) _
 by_cases k3:x.Kind=3
 . simp only[k3,a,e4,↓reduceIte,Int.reduceEq,c6,dU,bW,aS,ak];unfold xM;by_cases b:(p.length:Int)<=x.Max
   . rw[ae b,bl];exact .one _
   . rw[al b,fe];exact ju (by omega) _
 by_cases k4:x.Kind=4
 . simp only[k4,a,e4,↓reduceIte,Int.reduceEq,c6,dU,bW,aS,ak,A];unfold xN;by_cases h0:u.2=0
   . obtain⟨m,i,r⟩:=C h0;rw[i,r];dsimp only;by_cases b:1<=m/\m<=1000
     . obtain⟨q,_,O,P⟩:=p0 (t:=x) (m:Int) M;have e:bY .i64 (m:Int)=(m:Int):=jF;rw[al (show ¬(bif bif !decide (u.2=0)then true else decide ((m:Int)<1)then true else decide (1000<(m:Int)))=true by simp[h0];omega),e,O];simp only[ak];have L:q.2=(x.bj.any λy=>decide (y.ad=(m:Int))):=by
        have:=(EL P).trans Kw;grind
       rw[L];by_cases s:((x.bj.any λy=>decide (y.ad=(m:Int)))||x.Open)=true
       . rw[ae (show 1<=m/\m<=1000/\((x.bj.any λy=>decide (y.ad=(m:Int)))||x.Open)=true from⟨b.1,b.2,s⟩),al]
         . exact .one _
         grind
       . rw[al (show ¬(1<=m/\m<=1000/\((x.bj.any λy=>decide (y.ad=(m:Int)))||x.Open)=true)fromλh=>s h.2.2),ae]
         . exact ju (by omega) _
         grind
     . rw[al (show ¬(1<=m/\m<=1000/\((x.bj.any λy=>decide (y.ad=(m:Int)))||x.Open)=true)fromλh=>b ⟨h.1,h.2.1⟩),ae (by simp[h0];omega)];exact ju (by omega) _
   . rw[D h0,ae (by simp[h0])];exact ju (by omega) _
 by_cases k9:x.Kind=9
 . obtain⟨aM,G⟩:=H.elem d (by omega);simp only[k9,a,e4,↓reduceIte,Int.reduceEq,c6,dc,dU,ed,bW,aS,ak];cases p with
   |nil=>
    rw[bz,mH];exact .one _
   |cons c q=>
    have N:ay 0 (c::q).length=true:=aH (k:=0) (by simp);have b0:fY (c::q) 0=(c.toNat:Int):=rfl;have sg:d' 1 ((c::q).length:Int) (c::q).length=true:=iF.2 (by simp<;>omega);have E:et (c::q) 1 ((c::q).length:Int)=q:=by
     unfold et;simp
    rw[hQ,ae N,b0,mH];by_cases l:c=1
    . subst l;rw[ae rfl,bz,ae sg,E];have w:=ih.part aJ (t:=x.aD) (q:=q) (path:=path) ⟨aM,G⟩ (by simp at f;omega) g 0;rw[nF (by omega)];simp only[ak];cases B:cK ts n x.aD q with
      |none=>
       obtain⟨F,o⟩:=w.no (by omega) B;rw[o];exact .r8 rfl
      |some v=>
       obtain⟨F,o⟩:=w.yes (by omega) B;rw[o];simp only[ak];rw[bz,uY];refine fE.cast rfl (fE.xC (F:=⟨[],0⟩) ?_);simp[I.aP]
    . have J:¬((c.toNat:Int)=1):=λh=>l (UInt8.toNat.inj (by show c.toNat=1;omega));rw[al l,ae (by simpa using J)];exact ju (by omega) _
 by_cases k6:x.Kind=6
 . have:=(af1 H aJ ih d k6 f (path:=path) g).eta;simp only[k6,a,e4,↓reduceIte,Int.reduceEq,c6,dU,bW,aS,ak];exact this
 by_cases k7:x.Kind=7
 . have:=(af2 H aJ ih d k7 f (path:=path) g).eta;simp only[k7,a,e4,↓reduceIte,Int.reduceEq,c6,dU,bW,aS,ak];exact this
 by_cases k8:x.Kind=8
 . have:=(ai2 H aJ ih d k8 f (path:=path) g).eta;simp only[k8,a,e4,↓reduceIte,Int.reduceEq,c6,dU,bW,aS,ak];exact this
 have k5:x.Kind=5:=by omega
 have:=(afE H aJ ih d k5 f (path:=path) g).eta;simp only[k5,a,e4,↓reduceIte,Int.reduceEq,c6,dU,bW,aS,ak];exact this
theorem Pw(H:jm ts):∀n,n<=200->o4 ts n
 |0,_=>λt p path t0 t1 b c=>by
  obtain⟨j,rfl⟩:=CY t0;have a:j<ts.length:=by omega
  rw[jO,ae (aH a)];simp only[aS,ak];rw[hQ,zW];exact ju (by omega) _
 |n+1,aJ=>adM H aJ (Pw H n (by omega))
end
theorem RY(s:aj):∀(f i n m k:Nat),hy s f i n=((m:Int),(k:Int),0)->∃q,m=n+q*2^(7*i)/\s.drop i=ey q++s.drop k/\(0<i->0<q)
 |0,i,n,m,k,h=>by rw[hy]at h;simp at h
 |f+1,i,n,m,k,h=>by
  rw[hy]at h;split at h
  . rename_i b;have a:s.drop i=s.getD i 0::s.drop (i+1):=by rw[dd b];exact jB b
    have o:(s.getD i 0).toNat<256:=UInt8.toNat_lt _;generalize s.getD i 0=c at*;split at h
    . simp at h
    . split at h
      . rename_i d;obtain⟨q,t,j,l⟩:=RY s f (i+1) _ m k h;have r:=l (by omega);refine⟨c.toNat%128+128*q,?_,?_,λ_=>by omega⟩
        . grind
        . rw[xt (by omega),show(c.toNat%128+128*q)/128=q by omega,show(c.toNat%128+128*q)%128+128=c.toNat by omega,a,j];simp
      . rename_i d;split at h
        . simp at h
        . rename_i h0;simp only[dY,qA]at h;have g:m=n+c.toNat*2^(7*i):=by have:=h.1;exact_mod_cast this.symm
          have e:k=i+1:=by have:=h.2;exact_mod_cast this.symm
          refine⟨c.toNat,g,?_,λp=>?_⟩
          . rw[xj (by omega),a,e];simp
          omega
  . simp at h
theorem Kx{s:aj}{m k:Nat}(h:hy s 10 0 0=((m:Int),(k:Int),0)):s=ey m++s.drop k:=by
 obtain⟨q,a,b,_⟩:=RY s 10 0 0 m k h;grind
theorem O5{s a b:aj}(h:iw s=some (a,b)):s=dg a++b:=by
 unfold iw at h;rcases lR s with⟨e,he,c⟩|⟨m,k,c,j,i,l⟩
 . grind
 . have cQ:=Kx c;rw[c]at h;dsimp only at h;split at h
   . rename_i g;simp only[dF,dY]at h;obtain⟨h1,d⟩:=h;have f:a.length=m:=by
      rw[<-h1,uQ,mA];omega
     unfold dg;rw[f,gg,<-h1,<-d,Gz];simpa using cQ
   . cases h
theorem O6:∀(n:Nat) (s:aj) (b l:List aj),s.length<=n->s.length+b.length<=100000->hD (s,b)=some (.inr l)->∃c,l=b++c/\c.flatMap dg=s
 |n,s,b,l,aJ,i,h=>by
  rw[hD]at h;by_cases h0:s=[]
  . simp_all
  . rw[ae (by simp[h0]),mg]at h;simp only[aS,ak]at h;cases a:iw s with
    |none=>
     rw[a]at h;simp[dP]at h
    |some r=>
     obtain⟨x,d⟩:=r;rw[a]at h;have ah:=oI a;have f:¬((!(dP (some (x,d))).2.2)=true):=(by simp[dP]);have g:room 16 (b++[(dP (some (x,d))).1]).length=true:=cV;rw[al f,ae g]at h
     match n,aJ with
     |0,aJ=>omega
     |n+1,aJ=>
      obtain⟨c,aM,e⟩:=O6 n d _ l (by omega) (by simp;omega) h;refine⟨x::c,by rw[aM];simp[dP],?_⟩;rw[gQ,e];exact(O5 a).symm
theorem O7:∀(n:Nat) (s:aj) (b:List aj),s.length<=n->s.length+b.length<=100000->hD (s,b)=some (.inl 0)->False
 |n,s,b,aJ,f,h=>by
  rw[hD]at h;by_cases h0:s=[]
  . grind
  . rw[ae (by simp[h0]),mg]at h;simp only[aS,ak]at h;cases a:iw s with
    |none=>
     rw[a]at h;simp[dP]at h
    |some r=>
     obtain⟨x,c⟩:=r;rw[a]at h;have ah:=oI a;have d:¬((!(dP (some (x,c))).2.2)=true):=(by simp[dP]);have e:room 16 (b++[(dP (some (x,c))).1]).length=true:=cV;rw[al d,ae e]at h
     match n,aJ with
     |0,aJ=>omega
     |n+1,aJ=>exact O7 n c _ (by omega) (by simp;omega) h
theorem N7:∀(n:Nat) (s:aj) (last:Nat) (b:List cP),s.length<=n->s.length+b.length<=100000->f' ((last:Int),s,b)=some (.inl 0)->False
 |n,s,last,b,aJ,i,h=>by
  rw[f']at h;by_cases h0:s=[]
  . grind
  . rw[ae (by simp[h0])]at h;rcases lR s with⟨e,he,aq⟩|⟨m,k,aq,j,d,f⟩
    . rw[oN he aq]at h;simp at h
    . rw[mf aq d]at h;simp only[aS,ak,uW f]at h;split at h
      . cases h
      . rw[mg (by rw[mA];omega)]at h;simp only[ak]at h;cases a:iw (s.drop k)with
        |none=>
         rw[a]at h;simp[dP]at h
        |some r=>
         obtain⟨x,c⟩:=r;rw[a]at h;have ah:=oI a;rw[mA]at ah;have g:¬((!(dP (some (x,c))).2.2)=true):=(by simp[dP]);rw[al g]at h;split at h
         . match n,aJ with
           |0,aJ=>omega
           |n+1,aJ=>exact N7 n c (m/2) _ (by omega) (by simp;omega) h
         . cases h
theorem RZ(c:p.length<=90000){l:List aj}(h:iK p=some l):l.flatMap dg=p:=by
 unfold iK at h;rw[lv]at h;cases a:hD (p,[])with
 |none=>rw[a]at h;simp at h
 |some o=>
  rw[a]at h;cases o with
  |inl e=>
   by_cases he:e=0
   . simp[he]at h;exfalso;obtain⟨f,a1,_⟩:=Jz p.length p [] (by omega) (by simp;omega);exact O7 p.length p [] (by omega) (by simp;omega) (by rw[a,he])
   grind
  |inr l2=>
   have e:l2=l:=(by simpa using h);obtain⟨d,aM,b⟩:=O6 p.length p [] l2 (by omega) (by simp;omega) a;grind
def vy(f:cP):aj:=fr f.ad.toNat f.b8 f.Data
theorem N8:∀(n:Nat) (s:aj) (last:Nat) (b l:List cP),s.length<=n->s.length+b.length<=100000->f' ((last:Int),s,b)=some (.inr l)->
 ∃c,l=b++c/\c.flatMap vy=s
 |n,s,last,b,l,aJ,t,h=>by
  rw[f']at h;by_cases h0:s=[]
  . simp_all
  . rw[ae (by simp[h0])]at h;rcases lR s with⟨e,he,aq⟩|⟨m,k,aq,v,g,i⟩
    . rw[oN he aq]at h;simp at h
    . have es:=Kx aq;rw[mf aq g]at h;simp only[aS,ak,uW i]at h;by_cases u:((m/2:Nat):Int)<=(last:Int)\/1000<((m/2:Nat):Int)
      . grind
      . have:¬((bif bif (!true)then true else decide (((m/2:Nat):Int)<=(last:Int))then true else decide (1000<((m/2:Nat):Int)))=true):=(by grind);rw[al this,mg (by rw[mA];omega)]at h;simp only[ak]at h;cases a:iw (s.drop k)with
        |none=>
         rw[a]at h;simp[dP]at h
        |some r=>
         obtain⟨x,d⟩:=r;rw[a]at h;have ah:=oI a;have q:=O5 a;rw[mA]at ah;have j:¬((!(dP (some (x,d))).2.2)=true):=(by simp[dP]);have p:bY .i64 ((m/2:Nat):Int)=((m/2:Nat):Int):=jF;rw[al j,p]at h;have o:room 32 (b++[(⟨((m/2:Nat):Int),decide (b9 (m:Int) 2=1),(dP (some (x,d))).1⟩:cP)]).length=true:=cV;rw[ae o]at h
         match n,aJ with
         |0,aJ=>omega
         |n+1,aJ=>
          obtain⟨c,aM,f⟩:=N8 n d (m/2) _ l (by omega) (by simp;omega) h;refine⟨⟨((m/2:Nat):Int),decide (b9 (m:Int) 2=1),x⟩::c,by rw[aM];simp[dP],?_⟩;rw[gQ,f];unfold vy fr;have w:2*(((m/2:Nat):Int)).toNat+(if (b9 (m:Int) 2=1:Bool) then 1 else 0)=m:=by
           rw[hp];grind
          grind
theorem afF(c:p.length<=90000){l:List cP}(h:jj p=some l):l.flatMap vy=p:=by
 unfold jj at h;rw[l5]at h;have cQ:f' (0,p,[])=f' (((0:Nat):Int),p,[]):=rfl;rw[cQ]at h;cases a:f' (((0:Nat):Int),p,[])with
 |none=>rw[a]at h;simp at h
 |some o=>
  rw[a]at h;cases o with
  |inl e=>
   by_cases he:e=0
   . exfalso;exact N7 p.length p 0 [] (by omega) (by simp;omega) (by rw[a,he])
   grind
  |inr l2=>
   have e:l2=l:=(by simpa using h);obtain⟨d,aM,b⟩:=N8 p.length p 0 [] l2 (by omega) (by simp;omega) a;grind
theorem af3(h:j8 p=some (id,q)):p=ey id.toNat++q:=by
 unfold j8 at h;rw[mb]at h;rcases lR p with⟨e,he,aq⟩|⟨m,k,aq,d,a,f⟩
 . rw[oN he aq]at h;simp at h
 . have es:=Kx aq;rw[mf aq a]at h;simp only[aS,ak]at h;by_cases c:(m:Int)<1\/1000<(m:Int)
   . grind
   . have:¬((bif bif (!true)then true else decide ((m:Int)<1)then true else decide (1000<(m:Int)))=true):=(by grind);have b:bY .i64 (m:Int)=(m:Int):=jF;rw[al this,b]at h;simp only[bM,dF,dY]at h;rw[<-h.1,<-h.2];simpa using es
theorem E9{d:Type}{f:α->Option d}(d1:α)(d2:d):∀{l:List α} {m:List d},cg f l=some m->∀i,i<l.length->f (l.getD i d1)=some (m.getD i d2)
 |[],m,h,i,c=>by simp at c
 |a::l,m,h,i,c=>by
  rw[cg]at h;split at h
  . rename_i b g h1 e;cases h;cases i with
    |zero=>exact h1
    |succ i=>exact E9 d1 d2 e i (by simpa using c)
  . cases h
theorem R0:∀{l:List α},l.length%2=0->(fk l).length=l.length/2/\(e5 l).length=l.length/2
 |[],_=>⟨by simp[fk],by simp[e5]⟩
 |[a],h=>by simp at h
 |a::b::l,h=>by
  obtain⟨h1,c⟩:=R0 (l:=l) (by simp at h;omega);show(fk l).length+1=(l.length+1+1)/2/\(e5 l).length+1=(l.length+1+1)/2;omega
theorem I9:∀{l:List α} {y:α},y∈e5 l->y∈l
 |[],y,h=>by cases h
 |[_],y,h=>by cases h
 |a::b::l,y,h=>by
  rcases eR.1 h with rfl|h
  . grind
  . exact .tail _ (.tail _ (I9 h))
def nJ(l:List aj):Nat:=(l.map λq=>q.length+1).sum
theorem wZ(q:aj)(l:List aj):nJ (q::l)=q.length+1+nJ l:=by unfold nJ;simp
theorem Ky:∀(l:List aj),nJ l<=(l.flatMap dg).length
 |[]=>by simp[nJ]
 |q::l=>by
  have:=Ky l;have:=rL q.length;have e:(dg q).length=(ey q.length).length+q.length:=by unfold dg;rw[cc]
  rw[wZ,gQ,cc];omega
theorem Px:∀(l:List aj),nJ (fk l)+nJ (e5 l)<=nJ l
 |[]=>by simp[fk,e5,nJ]
 |[a]=>by simp[fk,e5,nJ]
 |a::b::l=>by
  have:=Px l;rw[fk,e5,wZ,wZ,wZ,wZ];omega
theorem E6{C:Nat}:∀{l:List aj} {m:List I},cg f l=some m->(∀q,q∈l->∀v,f q=some v->wt v<=C*(q.length+1))->cx m<=C*nJ l
 |[],m,h,_=>by rw[cg]at h;cases h;rw[gK];exact iq _
 |q::l,m,h,k=>by
  rw[cg]at h;split at h
  . rename_i b g h1 d;cases h;have a:=k q (.head _) b h1;have c:=E6 d (λq e=>k q (.tail _ e));rw[gW,wZ,Nat.mul_add];omega
  . cases h
def vx(l:List cP):Nat:=(l.map λf=>f.Data.length+1).sum
theorem Rq(f:cP)(l:List cP):vx (f::l)=f.Data.length+1+vx l:=by unfold vx;simp
theorem Rr:∀(l:List cP),vx l<=(l.flatMap vy).length
 |[]=>by simp[vx]
 |f::l=>by
  have:=Rr l;have:=rL f.Data.length;have e:(vy f).length=(ey (2*f.ad.toNat+(if f.b8 then 1 else 0))).length+((ey f.Data.length).length+f.Data.length):=by unfold vy fr dg;rw[cc,cc]
  rw[Rq,gQ,cc];omega
def ds(C d:Nat)(l:List cP)(m:aR):Nat:=match l.find? (λf=>decide (f.ad=m.ad))with
 |some f=>C*(f.Data.length+1)
 |none=>d
def aI(C d:Nat)(l:List cP)(ms:List aR):Nat:=(ms.map (ds C d l)).sum
def oX(id:Int)(A:Nat)(ms:List aR):Nat:=(ms.map λm=>if m.ad=id then A else 0).sum
theorem I'{A:Nat}:∀{ms:List aR},(∀m,m∈ms->m.ad≠id)->oX id A ms=0
 |[],_=>rfl
 |m::ms,h=>by
  have:=I' (A:=A) (λm a=>h m (.tail _ a));unfold oX at this⊢;grind
theorem R1{id:Int}{A:Nat}:∀{ms:List aR},ms.Pairwise (λa b=>a.ad<b.ad)->oX id A ms<=A
 |[],_=>iq _
 |m::ms,h=>by
  rw[jb]at h;by_cases e:m.ad=id
  . have:oX id A ms=0:=I' λx c=>by have:=h.1 x c;omega
    unfold oX at this⊢;grind
  . have:=R1 (id:=id) (A:=A) h.2;unfold oX at this⊢;grind
theorem afG(C d:Nat)(f:cP)(l:List cP)(m:aR):ds C d (f::l) m<=(if m.ad=f.ad then C*(f.Data.length+1)else 0)+ds C d l m:=by
 unfold ds;grind
theorem Rs(C d:Nat)(f:cP)(l:List cP):∀(ms:List aR),aI C d (f::l) ms<=oX f.ad (C*(f.Data.length+1)) ms+aI C d l ms
 |[]=>by simp[aI,oX]
 |m::ms=>by
  have a:=Rs C d f l ms;have b:=afG C d f l m;unfold aI oX at*;grind
theorem R2(C d:Nat):∀(ms:List aR),aI C d [] ms=d*ms.length
 |[]=>by simp[aI]
 |m::ms=>by
  have:=R2 C d ms;unfold aI at*;simp only[iJ,qD,h8];rw[this,Nat.mul_succ];have:ds C d [] m=d:=rfl;omega
theorem R3{C d:Nat}(cM:1<=C)(c:fV x.af):∀(l:List cP),aI C d l x.af+((fh x l).map λr=>r.Data.length+1).sum<=d*x.af.length+C*vx l
 |[]=>by rw[R2];simp[fh]
 |f::l=>by
  have ih:=R3 (d:=d) cM c l;have a:=Rs C d f l x.af;rw[Rq,Nat.mul_add];cases bn:cw x.af f.ad with
  |some m=>
   have b:fh x (f::l)=fh x l:=by unfold fh;rw[Gu (by rw[bn];simp)]
   rw[b];have:=R1 (id:=f.ad) (A:=C*(f.Data.length+1)) c.1;omega
  |none=>
   have b:fh x (f::l)=⟨f.ad,f.Data⟩::fh x l:=by unfold fh;rw[Gv (by rw[bn];rfl)];rfl
   have:oX f.ad (C*(f.Data.length+1)) x.af=0:=I' (oG bn);rw[b,iJ,qD];have:f.Data.length+1<=C*(f.Data.length+1):=Nat.le_mul_of_pos_left _ cM;grind
theorem Rt{C d:Nat}{f:Int->aj->Option I}{l:List cP}(i:∀(m:aR),m.bu=true->True):∀{ms:List aR} {a:List I},(∀m,m∈ms->(m.bu=true->wt m.bm<=d)/\∀g,g∈l->∀v,f m.av g.Data=some v->wt v<=C*(g.Data.length+1))->cg (ee f l) ms=some a->cx a<=aI C d l ms
 |[],a,_,h=>by rw[cg]at h;cases h;rw[gK];exact iq _
 |m::ms,a,k,h=>by
  rw[cg]at h;split at h
  . rename_i b o h1 e;cases h;have ih:=Rt (C:=C) (d:=d) i (λm j=>k m (.tail _ j)) e;have n:wt b<=ds C d l m:=by
     unfold ee at h1;unfold ds;cases c:l.find? (λf=>decide (f.ad=m.ad))with
     |some g=>
      rw[c]at h1;exact(k m (.head _)).2 g (Gq c) b h1
     |none=>grind
    unfold aI at*;rw[gW,iJ,qD];omega
  . cases h
theorem O8{l:List cP}{r:bQ}(h:r∈fh x l):∃f,f∈l/\cw x.af f.ad=none/\r=⟨f.ad,f.Data⟩:=by
 unfold fh at h;obtain⟨f,a,rfl⟩:=eS.1 h;obtain⟨h1,b⟩:=r'.1 a;refine⟨f,h1,?_,rfl⟩;simp_all
theorem aeF{l:List cP}(d:l.Pairwise (λa b=>a.ad<b.ad))(e:∀f,f∈l->cv f.ad):j0 x.af (fh x l):=by
 refine⟨?_,λr c=>?_⟩
 . unfold fh;grind
 . obtain⟨f,f1,f2,rfl⟩:=O8 c;grind
section
variable {ts:List ai}
def sC(ts:List ai)(t:Int)(p:aj)(v:I):Prop:=bO ts false t v/\bC v/\wt v<=300*(p.length+1)
theorem nx{k:Int}{b:Bool}{i:Int}{s:aj}{a:List I}{r:List bQ}(h0:0<=k/\k<=9)(h1:cy i)(d:0<=id/\id<=1000)(hs:s.length<=90000)(f:ks.length<=90000)(e:a.length<=90000)(g:r.length<=90000)
 (k1:∀x,x∈ks->bC x)(k2:∀x,x∈a->bC x)(k3:∀x,x∈r->x.Data.length<=90000/\cv x.ad):bC ⟨k,b,i,s,id,ks,a,r⟩:=by
 refine .mk _ (by unfold reachBytes;show s.length<=_;omega) (by unfold reachBytes;show ks.length<=_;omega) (by unfold reachBytes;show a.length<=_;omega) (by unfold reachBytes;show r.length<=_;omega) k1 k2 (λx c=>by have:=(k3 x c).1;unfold reachBytes;omega) ?_ h1 ?_ (λx c=>by have:=(k3 x c).2;unfold cv at this;omega)
 . show -9223372036854775808<=k/\k<=9223372036854775807;omega
 . show -9223372036854775808<=id/\id<=9223372036854775807;omega
theorem aeG(H:c8 ts){n:Nat}(ih:∀(t:Int) (p:aj) (v:I),p.length<=90000->0<=t->t<ts.length->cK ts n t p=some v->sC ts t p v)(J:p.length<=90000)(t0:0<=t)(t1:t<ts.length)(h:cK ts (n+1) t p=some v):sC ts t p v:=by
 rw[uC]at h;have aA:t.toNat<ts.length:=by omega
 have B:=aZ aA aG;have cM:=H.gy;unfold sC;rw[dO];generalize ts.getD t.toNat aG=x at*;unfold kC at h;have j9:∀(k i id:Int) (b:Bool) (s:aj),wt ⟨k,b,i,s,id,[],[],[]⟩=10+s.length:=λk i id b s=>by rw[eV,gK];simp
 by_cases k1:x.Kind=1
 . rw[ae k1]at h;have:∃b,v=⟨1,b,0,[],0,[],[],[]⟩:=by
    unfold xK at h;grind
   obtain⟨b,rfl⟩:=this;exact⟨⟨⟨t0,t1,k1.symm,λh=>by cases h⟩,.inl ⟨rfl,rfl,rfl,rfl,rfl,rfl,rfl⟩⟩,nx (by omega) mv (by omega) (by simp) (by simp) (by simp) (by simp) (by simp) (by simp) (by simp),by rw[j9];simp;omega⟩
 rw[al k1]at h;by_cases k2:x.Kind=2
 . rw[ae k2]at h;unfold xL at h;cases z:hU p with
   |none=>rw[z]at h;cases h
   |some m=>
    rw[z]at h;dsimp only at h;split at h
    . rename_i G;cases h;exact⟨⟨⟨t0,t1,k2.symm,λh=>by cases h⟩,.inr (.inl ⟨rfl,rfl,rfl,rfl,rfl,rfl,rfl,G.1,G.2⟩)⟩,nx (by omega) (Qa (E4 z)) (by omega) (by simp) (by simp) (by simp) (by simp) (by simp) (by simp) (by simp),by rw[j9];simp;omega⟩
    . cases h
 rw[al k2]at h;by_cases k3:x.Kind=3
 . rw[ae k3]at h;unfold xM at h;split at h
   . rename_i G;cases h;exact⟨⟨⟨t0,t1,k3.symm,λh=>by cases h⟩,.inr (.inr (.inl ⟨rfl,rfl,rfl,rfl,rfl,rfl,rfl,G⟩))⟩,nx (by omega) mv (by omega) (by omega) (by simp) (by simp) (by simp) (by simp) (by simp) (by simp),by rw[j9];omega⟩
   . cases h
 rw[al k3]at h;by_cases k4:x.Kind=4
 . rw[ae k4]at h;unfold xN at h;cases z:hU p with
   |none=>rw[z]at h;cases h
   |some m=>
    rw[z]at h;dsimp only at h;split at h
    . rename_i G;cases h;refine⟨⟨⟨t0,t1,k4.symm,λh=>by cases h⟩,.inr (.inr (.inr (.inl ⟨rfl,rfl,rfl,rfl,rfl,rfl,rfl,?_⟩)))⟩,nx (by omega) mv (by omega) (by simp) (by simp) (by simp) (by simp) (by simp) (by simp) (by simp),by rw[j9];simp;omega⟩;have O:=G.2.2;rw[nB]at O;rcases O with O|O
      . grind
      . exact .inr ⟨O,rfl,by unfold cv;show 1<=(m:Int)/\(m:Int)<=1000;omega⟩
    . cases h
 rw[al k4]at h;by_cases k9:x.Kind=9
 . rw[ae k9]at h;obtain⟨aM,M⟩:=cM.elem B (by omega);cases p with
   |nil=>
    rw[mH]at h;cases h;exact⟨⟨⟨t0,t1,k9.symm,λh=>by cases h⟩,.inr (.inr (.inr (.inr (.inr (.inr (.inr (.inr ⟨rfl,rfl,rfl,rfl,rfl,rfl,rfl,by simp,cD.2 (by simp)⟩)))))))⟩,nx (by omega) mv (by omega) (by simp) (by simp) (by simp) (by simp) (by simp) (by simp) (by simp),by rw[j9];simp⟩
   |cons c q=>
    rw[mH]at h;split at h
    . obtain⟨w,ak,rfl⟩:=oT.1 h;obtain⟨f1,f2,f3⟩:=ih _ _ _ (by simp at J;omega) aM M ak;refine⟨⟨⟨t0,t1,k9.symm,λh=>by cases h⟩,.inr (.inr (.inr (.inr (.inr (.inr (.inr (.inr ⟨rfl,rfl,rfl,rfl,rfl,rfl,rfl,by simp,cD.2 ?_⟩)))))))⟩,nx (by omega) mv (by omega) (by simp) (by simp) (by simp) (by simp) (by simp) ?_ (by simp),?_⟩
      . grind
      . grind
      . rw[eV];show 10+0+0+cx []+cx [w]<=_;rw[gW,gK,h8];omega
    . cases h
 rw[al k9]at h;by_cases k6:x.Kind=6
 . rw[ae k6]at h;unfold qJ at h;cases X:j8 p with
   |none=>rw[X]at h;cases h
   |some a=>
    obtain⟨id,q⟩:=a;rw[X]at h;dsimp only at h;have au:=af3 X;have aK:=rL id.toNat;have aL:q.length+1<=p.length:=by rw[au,cc];omega
    obtain⟨o,ab,ag,ai⟩:=Ke p;have az:cv id:=(by grind);unfold cv at az;cases bn:cw x.af id with
    |some m=>
     rw[bn]at h;obtain⟨w,ak,rfl⟩:=oT.1 h;obtain⟨F,aQ⟩:=jT bn;obtain⟨f1,f2,f3⟩:=ih _ _ _ (by omega) (cM.mem B F).1 (cM.mem B F).2 ak;refine⟨⟨⟨t0,t1,k6.symm,λh=>by cases h⟩,.inr (.inr (.inr (.inr (.inr (.inl ⟨rfl,rfl,rfl,rfl,rfl,?_⟩)))))⟩,nx (by omega) mv (by omega) (by simp) (by simp) (by simp) (by simp) (by simp) ?_ (by simp),?_⟩
     . show(match cw x.af id with
        |some m=>_
        |none=>_)
       rw[bn];refine⟨rfl,rfl,cD.2 ?_⟩;grind
     . grind
     . rw[eV];show 10+0+0+cx []+cx [w]<=_;rw[gW,gK];omega
    |none=>
     rw[bn]at h;dsimp only at h;split at h
     . rename_i aI;cases h;refine⟨⟨⟨t0,t1,k6.symm,λh=>by cases h⟩,.inr (.inr (.inr (.inr (.inr (.inl ⟨rfl,rfl,rfl,rfl,rfl,?_⟩)))))⟩,nx (by omega) mv (by omega) (by simp) (by simp) (by simp) (by simp) (by simp) (by simp) ?_,?_⟩
       . grind
       . grind
       . rw[eV];show 10+0+((q.length+1)+0)+cx []+cx []<=_;rw[gK];omega
     . cases h
 rw[al k6]at h;by_cases k7:x.Kind=7
 . rw[ae k7]at h;unfold nI at h;obtain⟨aM,M⟩:=cM.elem B (by omega);cases E:iK p with
   |none=>rw[E]at h;cases h
   |some l=>
    rw[E]at h;dsimp only at h;obtain⟨o,ab,ag,ai⟩:=A6 J;have ah:(∀q,q∈l->q.length<=p.length)/\l.length<=p.length:=(by grind);have V:=Ky l;rw[RZ J E]at V;split at h
    . rename_i am;obtain⟨m,F,rfl⟩:=oT.1 h;have Z:=qj F;have R:∀y,y∈m->∃q,q∈l/\sC ts x.aD q y:=λy j=>by
       obtain⟨q,N,u⟩:=wN F y j;grind
      have ap:=E6 (C:=300) F (λq U v L=>(ih _ _ _ (by have:=ah.1 q U;omega) aM M L).2.2);refine⟨⟨⟨t0,t1,k7.symm,λh=>by cases h⟩,.inr (.inr (.inr (.inr (.inr (.inr (.inl ⟨rfl,rfl,rfl,rfl,rfl,rfl,rfl,?_,cD.2 ?_⟩))))))⟩,nx (by omega) mv (by omega) (by simp) (by simp) (by omega) (by simp) (by simp) ?_ (by simp),?_⟩
      . grind
      . intro y j;obtain⟨q,_,u⟩:=R y j;exact u.1
      . intro y j;obtain⟨q,_,u⟩:=R y j;exact u.2.1
      . rw[eV];show 10+0+0+cx []+cx m<=_;rw[gK];omega
    . cases h
 rw[al k7]at h;by_cases k8:x.Kind=8
 . rw[ae k8]at h;unfold qK at h;obtain⟨aM,M⟩:=cM.elem B (by omega);obtain⟨d1,d2⟩:=cM.key B k8;cases E:iK p with
   |none=>rw[E]at h;cases h
   |some l=>
    rw[E]at h;dsimp only at h;obtain⟨o,ab,ag,ai⟩:=A6 J;have ah:(∀q,q∈l->q.length<=p.length)/\l.length<=p.length:=(by grind);have V:=Ky l;rw[RZ J E]at V;have aO:=Px l;split at h
    . rename_i am;cases hs:cg (cK ts n x.Key) (fk l)with
      |none=>rw[hs]at h;cases h
      |some ks=>
       rw[hs]at h;dsimp only at h;split at h
       . rename_i an;obtain⟨m,F,rfl⟩:=oT.1 h;have aJ:=qj hs;have Z:=qj F;obtain⟨aE,aF⟩:=R0 am.1;have ao:∀y,y∈ks->∃q,q∈fk l/\sC ts x.Key q y:=λy j=>by
          obtain⟨q,N,u⟩:=wN hs y j;exact⟨q,N,ih _ _ _ (by have:=ah.1 q (Eg N);omega) d1 d2 u⟩
         have R:∀y,y∈m->∃q,q∈e5 l/\sC ts x.aD q y:=λy j=>by
          obtain⟨q,N,u⟩:=wN F y j;exact⟨q,N,ih _ _ _ (by have:=ah.1 q (I9 N);omega) aM M u⟩
         have aP:=E6 (C:=300) hs (λq U v L=>(ih _ _ _ (by have:=ah.1 q (Eg U);omega) d1 d2 L).2.2);have ap:=E6 (C:=300) F (λq U v L=>(ih _ _ _ (by have:=ah.1 q (I9 U);omega) aM M L).2.2);refine⟨⟨⟨t0,t1,k8.symm,λh=>by cases h⟩,.inr (.inr (.inr (.inr (.inr (.inr (.inr (.inl ⟨rfl,rfl,rfl,rfl,rfl,rfl,?_,?_,cD.2 ?_,cD.2 ?_,wL.1 an⟩)))))))⟩,nx (by omega) mv (by omega) (by simp) (by omega) (by omega) (by simp) ?_ ?_ (by simp),?_⟩
         . grind
         . grind
         . intro y j;obtain⟨q,_,u⟩:=ao y j;exact u.1
         . intro y j;obtain⟨q,_,u⟩:=R y j;exact u.1
         . intro y j;obtain⟨q,_,u⟩:=ao y j;exact u.2.1
         . intro y j;obtain⟨q,_,u⟩:=R y j;exact u.2.1
         . rw[eV];grind
       . cases h
    . cases h
 rw[al k8]at h;have k5:x.Kind=5:=by obtain⟨aB,aC⟩:=cM.S.K x B;omega
 unfold nH at h;obtain⟨ax,aH⟩:=cM.S.A x B (.inl k5);cases E:jj p with
 |none=>rw[E]at h;cases h
 |some l=>
  rw[E]at h;dsimp only at h;obtain⟨o,ab,ag,ai⟩:=JW J;have ah:(∀f,f∈l->f.Data.length<=p.length/\cv f.ad)/\l.Pairwise (λa b=>a.ad<b.ad)/\l.length<=p.length:=by grind
  have V:=Rr l;rw[afF J E]at V;cases hs:cg (ee (cK ts n) l) x.af with
  |none=>rw[hs]at h;cases h
  |some aa=>
   rw[hs]at h;dsimp only at h;split at h
   . rename_i an;cases h;have Z:=qj hs;have ay:∀i,i<x.af.length->bO ts false (x.af.getD i aw).av (aa.getD i ar)/\bC (aa.getD i ar):=λi Q=>by
      have z:=aZ Q aw;have:=E9 aw ar hs i Q;unfold ee at this;cases P:l.find? (λf=>decide (f.ad=(x.af.getD i aw).ad))with
      |some g=>
       rw[P]at this;have:=ih _ _ _ (by have:=(ah.1 g (Gq P)).1;omega) (cM.mem B z).1 (cM.mem B z).2 this;exact⟨this.1,this.2.1⟩
      |none=>
       rw[P]at this;dsimp only at this;split at this
       . rename_i Y;have e:=(mC this)
         rw[<-e];exact⟨oY _ _ (H.D x B _ z Y),(H.T x B).3 _ z⟩
       . cases this
     have ap:=Rt (C:=300) (d:=13) (λ_ _=>trivial) (λm z=>⟨λY=>H.W x B m z Y,λg aq v L=>(ih _ _ _ (by have:=(ah.1 g aq).1;omega) (cM.mem B z).1 (cM.mem B z).2 L).2.2⟩) hs;have aN:=R3 (C:=300) (d:=13) (by omega) ax l;refine⟨⟨⟨t0,t1,k5.symm,λh=>by cases h⟩,.inr (.inr (.inr (.inr (.inl ⟨rfl,rfl,rfl,rfl,rfl,rfl,aeF ah.2.1 (λf P=>(ah.1 f P).2),gV.2 ⟨Z,λi Q=>(ay i Q).1⟩⟩))))⟩,nx (by omega) mv (by omega) (by simp) (by simp) (by omega) ?_ (by simp) ?_ ?_,?_⟩
     . unfold fh;grind
     . intro y j;obtain⟨i,Q,rfl⟩:=e3 j;grind
     . intro r G;obtain⟨f,f1,_,rfl⟩:=O8 G;grind
     . rw[eV];show 10+0+((fh x l).map λr=>r.Data.length+1).sum+cx []+cx aa<=_;rw[gK];omega
   . cases h
theorem Py(H:c8 ts):∀(n:Nat) (t:Int) (p:aj) (v:I),p.length<=90000->0<=t->t<ts.length->cK ts n t p=some v->sC ts t p v
 |0,t,p,v,_,_,_,h=>by rw[zW]at h;cases h
 |n+1,t,p,v,a,t0,t1,h=>aeG H (Py H n) a t0 t1 h
end
theorem Pz:∀{A B:List Fd},A.Pairwise (λa b=>a.id<b.id)->B.Pairwise (λa b=>a.id<b.id)->(∀x,x∈A↔x∈B)->A=B
 |[],[],_,_,_=>rfl
 |[],b::B,_,_,h=>by have:=(h b).2 (.head _);cases this
 |a::A,[],_,_,h=>by have:=(h a).1 (.head _);cases this
 |a::A,b::B,c,du,h=>by
  rw[jb]at c du;have e:a=b:=by grind
  subst e;rw[Pz c.2 du.2 λx=>?_];grind
theorem AI{l:List α}{y:α}(d:α)(h:y∈l):∃i,i<l.length/\l.getD i d=y:=by
 obtain⟨i,a,rfl⟩:=e3 h;exact⟨i,a,dd a d⟩
section
variable {ts:List ai}
theorem A9:∀{ms:List aR} {l:List I} {j:Nat},j<ms.length->j<l.length->dh (ms.getD j aw) (l.getD j ar)=false->
 (⟨(ms.getD j aw).ad.toNat,(ms.getD j aw).b8,bp ts (ms.getD j aw).av (l.getD j ar)⟩:Fd)∈dv ts ms l
 |[],l,j,h,_,_=>by simp at h
 |m::ms,[],j,_,h,_=>by simp at h
 |m::ms,v::l,0,_,_,h=>by
  rw[dv];grind
 |m::ms,v::l,j+1,h1,a,h=>by
  rw[dv];have:=A9 (ms:=ms) (l:=l) (j:=j) (by simpa using h1) (by simpa using a) h;grind
end
abbrev fK:=Int->I->Int->ao->I ⊕ ao
def iW{α:Type}:α ⊕ ao->List α ⊕ ao->List α ⊕ ao
 |.inr p,_=>.inr p
 |.inl _,.inr p=>.inr p
 |.inl u,.inl l=>.inl (u::l)
def h7{α a:Type}(g:α->a):α ⊕ ao->a ⊕ ao
 |.inr p=>.inr p
 |.inl u=>.inl (g u)
def mR{α a:Type}(g:α->a ⊕ ao):α ⊕ ao->a ⊕ ao
 |.inr p=>.inr p
 |.inl u=>g u
def fz(l:List aR)(id:Int):Option Nat:=l.findIdx? λm=>decide (m.ad=id)
def g'(l:List aR)(id:Int):Int×Bool:=match fz l id with
 |some j=>((j:Int),true)
 |none=>(0,false)
def eY(f:fK)(path:ao)(t rt:Int):Nat->List I->List I ⊕ ao
 |_,[]=>.inl []
 |i,v::l=>iW (f t v rt (path++[(i:Int)])) (eY f path t rt (i+1) l)
noncomputable def AX (m:aR)(w:I)(n:aR)(a:ao):I ⊕ ao->I ⊕ ao
 |.inr p=>if dh m w then .inr a else .inr p
 |.inl u=>if dh m w=true/\dh n u=false then .inr a else .inl u
noncomputable def xA (f:fK)(x:ai)(v:I)(path:ao)(n:aR):I ⊕ ao:=match fz x.af n.ad with
 |none=>if n.bu then .inl n.bm else .inr (path++[n.ad])
 |some i=>AX (x.af.getD i aw) (v.ag.getD i ar) n (path++[n.ad]) (f (x.af.getD i aw).av (v.ag.getD i ar) n.av (path++[n.ad]))
noncomputable def jf (f:fK)(x:ai)(v:I)(path:ao):List aR->List I ⊕ ao
 |[]=>.inl []
 |n::l=>iW (xA f x v path n) (jf f x v path l)
noncomputable def iu (tw:List ai)(y:ai)(path:ao):List aR->List I->List bQ ⊕ ao
 |m::ms,v::l=>if(cw y.af m.ad).isSome then iu tw y path ms l
  else if m.b8 then .inr (path++[m.ad])
  else if dh m v then iu tw y path ms l
  else iW (.inl ⟨m.ad,bp tw m.av v⟩) (iu tw y path ms l)
 |_,_=>.inl []
def jD(x y:ai)(v:I):Prop:=(x.Kind=2->y.bJ<=v.bg/\v.bg<=y.bN)/\(x.Kind=3->(v.bt.length:Int)<=y.Max)/\(x.Kind=4->(∃s,s∈y.bj/\s.ad=v.ad)\/y.Open=true)
noncomputable def xx (tw:List ai)(f:fK)(x y:ai)(v:I)(path:ao):I ⊕ ao:=
 mR (λa=>h7 (λr=>⟨5,false,0,[],0,[],a,r⟩) (iu tw y path x.af v.ag)) (jf f x v path y.af)
noncomputable def sf (tw:List ai)(f:fK)(x y:ai)(v:I)(path:ao):I ⊕ ao:=match fz x.af v.ad with
 |none=>.inr path
 |some i=>match fz y.af v.ad with
  |some k=>h7 (λu=>⟨6,false,0,[],v.ad,[],[u],[]⟩) (f (x.af.getD i aw).av (v.ag.getD 0 ar) (y.af.getD k aw).av (path++[v.ad]))
  |none=>if y.Open then .inl ⟨6,false,0,[],v.ad,[],[],[⟨v.ad,bp tw (x.af.getD i aw).av (v.ag.getD 0 ar)⟩]⟩else .inr path
def xy(f:fK)(x y:ai)(v:I)(path:ao):I ⊕ ao:=
 if(v.ag.length:Int)<=y.Max then h7 (λa=>⟨7,false,0,[],0,[],a,[]⟩) (eY f path x.aD y.aD 0 v.ag)else .inr path
def xz(f:fK)(x y:ai)(v:I)(path:ao):I ⊕ ao:=
 if(v.ag.length:Int)<=y.Max then mR (λks=>h7 (λa=>⟨8,false,0,[],0,ks,a,[]⟩) (eY f path x.aD y.aD 0 v.ag)) (eY f path x.Key y.Key 0 v.aB)else .inr path
def AW(f:fK)(x y:ai)(v:I)(path:ao):I ⊕ ao:=
 h7 (λa=>⟨9,false,0,[],0,[],a,[]⟩) (eY f path x.aD y.aD 0 v.ag)
open Classical in
noncomputable def ir (tw:List ai)(f:fK)(x y:ai)(v:I)(path:ao):I ⊕ ao:=
 if ¬x.Kind=y.Kind then .inr path
 else if x.Kind=5 then xx tw f x y v path
 else if x.Kind=6 then sf tw f x y v path
 else if x.Kind=7 then xy f x y v path
 else if x.Kind=8 then xz f x y v path
 else if x.Kind=9 then AW f x y v path
 else if jD x y v then .inl v else .inr path
noncomputable def ef (tw tr:List ai):Nat->fK
 |0=>λ_ _ _ path=>.inr path
 |n+1=>λt v rt path=>ir tw (ef tw tr n) (tw.getD t.toNat aG) (tr.getD rt.toNat aG) v path
theorem zL(n:Nat)(t:Int)(v:I)(rt:Int)(path:ao):ef tw tr (n+1) t v rt path=ir tw (ef tw tr n) (tw.getD t.toNat aG) (tr.getD rt.toNat aG) v path:=rfl
section
variable {tw:List ai}{f:fK}{x y:ai}{v:I}{path:ao}
theorem Kh(bD:¬x.Kind=y.Kind):ir tw f x y v path= .inr path:=by unfold ir;rw[ae bD]
theorem GV(bD:x.Kind=y.Kind)(h:x.Kind=5):ir tw f x y v path=xx tw f x y v path:=by unfold ir;rw[al (λh=>h bD),ae h]
theorem GW(bD:x.Kind=y.Kind)(h:x.Kind=6):ir tw f x y v path=sf tw f x y v path:=by unfold ir;rw[al (λh=>h bD),bl,ae h]
theorem GX(bD:x.Kind=y.Kind)(h:x.Kind=7):ir tw f x y v path=xy f x y v path:=by unfold ir;rw[al (λh=>h bD),bl,bl,ae h]
theorem GY(bD:x.Kind=y.Kind)(h:x.Kind=8):ir tw f x y v path=xz f x y v path:=by unfold ir;rw[al (λh=>h bD),bl,bl,bl,ae h]
theorem GZ(bD:x.Kind=y.Kind)(h:x.Kind=9):ir tw f x y v path=AW f x y v path:=by unfold ir;rw[al (λh=>h bD),bl,bl,bl,bl,ae h]
theorem rO(bD:x.Kind=y.Kind)(h:x.Kind<=4)(ah:jD x y v):ir tw f x y v path= .inl v:=by unfold ir;rw[al (λh=>h bD),bl,bl,bl,bl,bl,ae ah]
theorem wJ(bD:x.Kind=y.Kind)(h:x.Kind<=4)(ah:¬jD x y v):ir tw f x y v path= .inr path:=by unfold ir;rw[al (λh=>h bD),bl,bl,bl,bl,bl,al ah]
end
theorem PA{m:aR}{w:I}{n:aR}{a p:ao}:AX m w n a (.inr p)=if dh m w then .inr a else .inr p:=rfl
theorem PB{m:aR}{w:I}{n:aR}{a:ao}{u:I}:AX m w n a (.inl u)=if dh m w=true/\dh n u=false then .inr a else .inl u:=rfl
theorem hI{l:List aR}(h:fz l id=some j):j<l.length/\(l.getD j aw).ad=id/\∀k,k<j->(l.getD k aw).ad≠id:=by
 obtain⟨h1,a,b⟩:=List.findIdx?_eq_some_iff_getElem.1 h;refine⟨h1,?_,λk c=>?_⟩
 . rw[dd h1];simpa using a
 . rw[dd (by omega)];simpa using b k c
theorem Ru{l:List aR}(h:fz l id=none):∀k,k<l.length->(l.getD k aw).ad≠id:=λk a=>by
 have:=List.findIdx?_eq_none_iff.1 h _ (aZ a aw);simpa using this
theorem O9(l:List aR)(id:Int):uh l id (g' l id):=by
 unfold g';cases h:fz l id with
 |some j=>exact .inl ⟨j,(hI h).1,(hI h).2.1,(hI h).2.2,rfl⟩
 |none=>exact .inr ⟨Ru h,rfl⟩
theorem rP(l:List aR)(id:Int):(fz l id).isSome=(cw l id).isSome:=by
 cases h:fz l id with
 |some j=>
  obtain⟨h1,b,_⟩:=hI h;cases g:cw l id with
  |some _=>rfl
  |none=>exact absurd b (oG g _ (aZ h1 aw))
 |none=>
  cases g:cw l id with
  |none=>rfl
  |some m=>
   obtain⟨c,d⟩:=jT g;obtain⟨i,a,rfl⟩:=e3 c;exact absurd d (by rw[<-dd a aw];exact Ru h i a)
theorem Jj{a:α ⊕ ao}{b:List α ⊕ ao}{l:List α}(h:iW a b= .inl l):∃u us,a= .inl u/\b= .inl us/\l=u::us:=by
 cases a with
 |inr p=>simp[iW]at h
 |inl u=>cases b with
  |inr p=>simp[iW]at h
  |inl us=>exact⟨u,us,rfl,rfl,by simpa[iW]using h.symm⟩
theorem qn{g:α->c}{a:α ⊕ ao}{b:c}(h:h7 g a= .inl b):∃u,a= .inl u/\b=g u:=by
 cases a with
 |inr p=>simp[h7]at h
 |inl u=>exact⟨u,rfl,by simpa[h7]using h.symm⟩
theorem Eh{g:α->c ⊕ ao}{a:α ⊕ ao}{b:c}(h:mR g a= .inl b):∃u,a= .inl u/\g u= .inl b:=by
 cases a with
 |inr p=>simp[mR]at h
 |inl u=>exact⟨u,rfl,by simpa[mR]using h⟩
theorem zM{f:fK}{path:ao}{t rt:Int}:∀{l:List I} {i:Nat} {us:List I},eY f path t rt i l= .inl us->us.length=l.length/\∀j,j<l.length->f t (l.getD j ar) rt (path++[((i+j:Nat):Int)])= .inl (us.getD j ar)
 |[],i,us,h=>by
  simp only[eY,Sum.inl.injEq]at h;subst h;exact⟨rfl,λj c=>by simp at c⟩
 |v::l,i,us,h=>by
  obtain⟨u,e,h1,d,rfl⟩:=Jj h;obtain⟨a,b⟩:=zM d;refine⟨by simp[a],λj c=>?_⟩;cases j with
  |zero=>exact h1
  |succ j=>
   have:=b j (by simpa using c);rw[show i+1+j=i+(j+1) by omega]at this;exact this
theorem Jk{f:fK}{x:ai}{v:I}{path:ao}:∀{l:List aR} {us:List I},jf f x v path l= .inl us->us.length=l.length/\∀j,j<l.length->xA f x v path (l.getD j aw)= .inl (us.getD j ar)
 |[],us,h=>by
  simp only[jf,Sum.inl.injEq]at h;subst h;exact⟨rfl,λj c=>by simp at c⟩
 |n::l,us,h=>by
  obtain⟨u,e,h1,d,rfl⟩:=Jj h;obtain⟨a,b⟩:=Jk d;refine⟨by simp[a],λj c=>?_⟩;cases j with
  |zero=>exact h1
  |succ j=>exact b j (by simpa using c)
theorem PC{f:fK}{n:aR}{u:I}(h:xA f x v path n= .inl u):
 (fz x.af n.ad=none/\n.bu=true/\u=n.bm)\/∃i,fz x.af n.ad=some i/\f (x.af.getD i aw).av (v.ag.getD i ar) n.av (path++[n.ad])= .inl u/\(dh (x.af.getD i aw) (v.ag.getD i ar)=true->dh n u=true):=by
 unfold xA at h;cases b:fz x.af n.ad with
 |none=>
  simp only[b]at h;by_cases a:n.bu=true
  . rw[ae a]at h;exact .inl ⟨rfl,a,by simpa using h.symm⟩
  . rw[al a]at h;cases h
 |some i=>
  simp only[b]at h;refine .inr ⟨i,rfl,?_⟩;revert h;cases f (x.af.getD i aw).av (v.ag.getD i ar) n.av (path++[n.ad])with
  |inr p=>intro h;unfold AX at h;grind
  |inl w=>intro h;unfold AX at h;grind
theorem Ei{tw:List ai}{y:ai}{path:ao}:∀{ms:List aR} {l:List I} {r:List bQ},iu tw y path ms l= .inl r->
 r.length<=ms.length/\(r.map λa=>a.ad).Sublist (ms.map λm=>m.ad)/\∀a,a∈r->cw y.af a.ad=none/\∃j,j<ms.length/\j<l.length/\a=⟨(ms.getD j aw).ad,bp tw (ms.getD j aw).av (l.getD j ar)⟩
 |[],l,r,h=>by
  rw[iu]at h
  . cases h;simp
  . intros;simp_all
 |m::ms,[],r,h=>by
  rw[iu]at h
  . cases h;simp
  . intros;simp_all
 |m::ms,v::l,r,h=>by
  have g:∀{r},iu tw y path ms l= .inl r->r.length<=(m::ms).length/\(r.map λa=>a.ad).Sublist ((m::ms).map λm=>m.ad)/\∀a,a∈r->cw y.af a.ad=none/\∃j,j<(m::ms).length/\j<(v::l).length/\a=⟨((m::ms).getD j aw).ad,bp tw ((m::ms).getD j aw).av ((v::l).getD j ar)⟩:=λ{r} h=>by
   obtain⟨a,b,c⟩:=Ei h;refine⟨by simp;omega,by rw[iJ];exact b.cons _,λq f=>?_⟩;obtain⟨d,j,o,p,e⟩:=c q f;exact⟨d,j+1,by simp;omega,by simp;omega,e⟩
  rw[iu]at h;by_cases d:(cw y.af m.ad).isSome=true
  . rw[ae d]at h;exact g h
  rw[al d]at h;by_cases i:m.b8=true
  . rw[ae i]at h;cases h
  rw[al i]at h;by_cases k:dh m v=true
  . rw[ae k]at h;exact g h
  rw[al k]at h;obtain⟨u,us,aM,n,rfl⟩:=Jj h;cases aM;obtain⟨a,b,c⟩:=Ei n;refine⟨by simp;omega,by rw[iJ,iJ];exact b.cons₂ _,λq f=>?_⟩;rcases eR.1 f with rfl|f
  . exact⟨by simpa using d,0,by simp,by simp,rfl⟩
  . exact(g n).2.2 q f
section
variable {ts:List ai}
theorem BE{n:Nat}(h:n<16384):(ey n).length<=2:=JA 1 n (by simpa using h)
theorem w0(h:p.length<16384):(dg p).length<=p.length+2:=by
 have:=BE h;unfold dg;simp;omega
def lX(ts:List ai)(t:Int)(v:I):Prop:=(bp ts t v).length+4<=wt v
theorem Fo{t:Int}:∀{l:List I},cx l<=3000->(∀y,y∈l->lX ts t y)->((bF ts t l).flatMap dg).length<=cx l
 |[],_,_=>by rw[bF];simp
 |v::l,a,h=>by
  rw[bF,gQ,cc];rw[gW]at a⊢;have h1:=h v (.head _);unfold lX at h1;have c:=Fo (t:=t) (l:=l) (by omega) λx b=>h x (.tail _ b);have d:=w0 (p:=bp ts t v) (by omega);omega
theorem Rv{l:List I}(h:∀y,y∈l->lX ts t y):((bF ts t l).headD []).length+4<=cx l\/l=[]:=by
 cases l with
 |nil=>exact .inr rfl
 |cons v l=>
  refine .inl ?_;have h1:=h v (.head _);unfold lX at h1;rw[bF,gW];grind
theorem PD:∀{ms:List aR} {l:List I},cx l<=3000->(∀m,m∈ms->m.ad<=1000)->l.length=ms.length->(∀i,i<ms.length->lX ts (ms.getD i aw).av (l.getD i ar))->((dv ts ms l).flatMap Fd.text).length<=cx l
 |[],l,_,_,_,_=>by rw[dv]<;>simp
 |m::ms,[],_,_,ah,_=>by simp at ah
 |m::ms,v::l,c,a,ah,h=>by
  rw[gW]at c⊢;rw[dv];have h1:lX ts m.av v:=h 0 (by simp);unfold lX at h1;have e:=PD (ms:=ms) (l:=l) (by omega) (λx d=>a x (.tail _ d)) (by simpa using ah) λi b=>h (i+1) (by simpa using b);have g:=a m (.head _);split
  . omega
  . rw[gQ,cc];have a1:=w0 (p:=bp ts m.av v) (by omega);have a2:=BE (n:=2*m.ad.toNat+(if m.b8 then 1 else 0)) (by split<;>omega);have f:(Fd.text ⟨m.ad.toNat,m.b8,bp ts m.av v⟩).length<=(bp ts m.av v).length+4:=by
     show(fr m.ad.toNat m.b8 (bp ts m.av v)).length<=_;unfold fr;grind
    omega
theorem adN(H:c8 ts)(w:bC v):∀t,bO ts true t v->wt v<=3000->lX ts t v:=by
 have d:=H.V.fR H.T;induction w with
 |mk v hs h1 O P W R X cZ aa ab ae z x=>
  intro t s Y;obtain⟨⟨J,K,N,p⟩,r⟩:=(dO _ _ _).1 s;have u:t.toNat<ts.length:=by omega
  have c:=aZ u aG;have dm:=p rfl;have Z:=eV v;have a8:∀y,y∈v.aB->wt y+10<=wt v:=λy a=>by have:=e2 a;omega
  have C:∀y,y∈v.ag->wt y+10<=wt v:=λy a=>by have:=e2 a;omega
  have B:∀t,e0 ts true t v.aB->∀y,y∈v.aB->lX ts t y:=λt ht y a=>z y a t (cD.1 ht y a) (by have:=a8 y a;omega);have f:∀t,e0 ts true t v.ag->∀y,y∈v.ag->lX ts t y:=λt ht y a=>x y a t (cD.1 ht y a) (by have:=C y a;omega);unfold lX;rcases r with h|h|h|h|h|h|h|h|h
  . rw[BA (by omega)];grind
  . have Q:=H.L _ c (by omega);rw[BB (by omega)];have:=xw 1 (gF v.bg).toNat (by unfold gF;split<;>omega);omega
  . rw[BC (by omega)];omega
  . rw[BD (by omega)];have j:v.ad.toNat<256^2:=by
     rcases h.2.2.2.2.2.2.2 with⟨y,E,ah⟩|⟨_,h,_⟩
     . have:=d.S _ c (by omega) y E;unfold cv at this;omega
     . cases h
    have:=xw 2 _ j;omega
  . obtain⟨a1,a2,a3,a4,a5,b,g,e⟩:=h;obtain⟨k,D⟩:=d.A _ c (.inl (by omega));obtain⟨f1,f2⟩:=gV.1 e;rw[u3 (by omega),IF (kM _ _)];unfold e9;rw[dm,qE,h9];have:=PD (ts:=ts) (l:=v.ag) (by omega) (d.M _ c) f1 λi U=>by grind
    omega
  . obtain⟨a1,a2,a3,a4,a5,b⟩:=h;rw[sn (by omega)];cases bn:cw (ts.getD t.toNat aG).af v.ad with
    |none=>rw[bn]at b;cases b.2.1
    |some m=>
     rw[bn]at b;obtain⟨b1,b2,b3⟩:=b;obtain⟨k,D⟩:=jT bn;have j:=d.M _ c m k;have:=BE (n:=v.ad.toNat) (by omega);rw[cc];rcases Rv (f _ b3)with q|q
     . grind
     grind
  . obtain⟨a1,a2,a3,a4,a5,b,g,e,a9⟩:=h;rw[sq (by omega)];have:=Fo (l:=v.ag) (by omega) (f _ a9);omega
  . obtain⟨a1,a2,a3,a4,a5,b,g,e,a9,o,F⟩:=h;rw[sr (by omega)];have aM:=Fo (l:=v.ag) (by omega) (f _ o);have G:=Fo (l:=v.aB) (by omega) (B _ a9);have:=Fi (bF ts (ts.getD t.toNat aG).Key v.aB) (bF ts (ts.getD t.toNat aG).aD v.ag);omega
  . obtain⟨a1,a2,a3,a4,a5,b,g,e,a9⟩:=h;rw[su (by omega)];rcases Rv (f _ a9)with q|q
    . grind
    . rw[q,bF];simp;omega
end
def gI(ts:List ai):Nat->Int->I->Prop
 |0,_,_=>False
 |n+1,t,v=>((bp ts t v).length<=4096/\v.ag.length<=1000/\v.aB.length<=1000)/\
  ((ts.getD t.toNat aG).Kind=5->∀i,i<(ts.getD t.toNat aG).af.length->gI ts n ((ts.getD t.toNat aG).af.getD i aw).av (v.ag.getD i ar))/\
  ((ts.getD t.toNat aG).Kind=6->∀m,cw (ts.getD t.toNat aG).af v.ad=some m->∀y,y∈v.ag->gI ts n m.av y)/\
  (7<=(ts.getD t.toNat aG).Kind->(∀y,y∈v.ag->gI ts n (ts.getD t.toNat aG).aD y)/\∀y,y∈v.aB->gI ts n (ts.getD t.toNat aG).Key y)
section
variable {ts:List ai}
theorem gI.len{n:Nat}(h:gI ts n t v):(bp ts t v).length<=4096:=by
 cases n with
 |zero=>cases h
 |succ n=>exact h.1.1
theorem Ej(p:aj):p.length<=(dg p).length:=by unfold dg;simp
theorem Kz{t:Int}:∀{l:List I} {y:I},y∈l->(bp ts t y).length<=((bF ts t l).flatMap dg).length
 |v::l,y,h=>by
  rw[bF,gQ,cc];rcases eR.1 h with rfl|h
  . have:=Ej (bp ts t y);omega
  . have:=Kz (t:=t) h;omega
theorem Ja:∀{ms:List aR} {l:List I} (i:Nat),i<ms.length->i<l.length->dh (ms.getD i aw) (l.getD i ar)=false->(bp ts (ms.getD i aw).av (l.getD i ar)).length<=((dv ts ms l).flatMap Fd.text).length
 |m::ms,v::l,0,_,_,a=>by
  rw[dv];simp only[mw]at a⊢;rw[al (by simp[a]),gQ,cc];have c:(bp ts m.av v).length<=(Fd.text ⟨m.ad.toNat,m.b8,bp ts m.av v⟩).length:=by
   show _<=(fr m.ad.toNat m.b8 (bp ts m.av v)).length;have:=Ej (bp ts m.av v);unfold fr;simp only[cc];omega
  omega
 |m::ms,v::l,i+1,h1,b,a=>by
  have:=Ja (ms:=ms) (l:=l) i (by simpa using h1) (by simpa using b) (by simpa using a);rw[dv];simp only[CG];split
  . exact this
  . rw[gQ,cc];omega
theorem aiW{m:aR}(h:dh m v=true):m.bu=true/\v=m.bm:=by
 unfold dh at h;grind
theorem E7:∀{a b:List aj} {p:aj},a.length=b.length->p∈a\/p∈b->p.length<=(gA a b).length
 |[],[],p,_,h=>by simp at h
 |k::ks,v::vs,p,ah,h=>by
  have aM:=Ej k;have c:=Ej v;have ih:=@E7 ks vs p (by simpa using ah);simp only[gA,cc];simp only[eR]at h;grind
theorem zv:∀{l:List I} {y:I},y∈l->bp ts t y∈bF ts t l
 |v::l,y,h=>by
  rw[bF];rcases eR.1 h with rfl|h
  . simp
  . exact .tail _ (zv h)
theorem afH(c:(ts.getD t.toNat aG).Kind<=4)(b:bO ts true t v):ew ts t v=1:=by
 obtain⟨⟨_,_,k3,_⟩,a⟩:=(dO _ _ _).1 b;refine Ed ?_ ?_
 . rcases a with k|k|k|k|k|k|k|k|k
   . exact k.2.2.2.2.1
   . exact k.2.2.2.2.1
   . exact k.2.2.2.2.1
   . exact k.2.2.2.2.1
   all_goals omega
 . rcases a with k|k|k|k|k|k|k|k|k
   . exact k.2.2.2.2.2.1
   . exact k.2.2.2.2.2.1
   . exact k.2.2.2.2.2.1
   . exact k.2.2.2.2.2.1
   all_goals omega
theorem qG(H:c8 ts):∀(n:Nat) {v:I} {t:Int},bC v->bO ts true t v->(bp ts t v).length<=4096\/wt v<=3000->ew ts t v+13<=n\/wt v<=n->gI ts n t v
 |0,v,t,_,_,_,f=>by have:=afO v;omega
 |n+1,v,t,k,D,d,f=>by
  have E:=H.V.fR H.T;have ah:(bp ts t v).length<=4096:=by
   rcases d with h|h
   . exact h
   . have:=adN H k t D h;unfold lX at this;omega
  have ao:=eV v;obtain⟨⟨X,Y,Z,G⟩,J⟩:=(dO _ _ _).1 D;have K:t.toNat<ts.length:=by omega
  have w:=aZ K aG;have ak:=H.M _ w;have aj:=(H.cu _ w).2.2;have dm:=G rfl;cases k with
  |mk _ hs h1 aa ab L l an cZ aq au ax=>
  have u:wt v<=3000->∀y,y∈v.ag->wt y<=3000:=λh y c=>by have:=e2 c;omega
  have S:wt v<=3000->∀y,y∈v.aB->wt y<=3000:=λh y c=>by have:=e2 c;omega
  have z:wt v<=n+1->∀y,y∈v.ag->wt y<=n:=λh y c=>by have:=e2 c;omega
  have P:wt v<=n+1->∀y,y∈v.aB->wt y<=n:=λh y c=>by have:=e2 c;omega
  have r:=AE (ts:=ts) t v
  have bI:7<=(ts.getD t.toNat aG).Kind->∀y,y∈v.ag->ew ts (ts.getD t.toNat aG).aD y+13<=n\/wt y<=n:=λai y c=>f.imp (λf=>by
   rw[al (show ¬(ts.getD t.toNat aG).Kind=5 by omega),al (show ¬(ts.getD t.toNat aG).Kind=6 by omega)]at r;have:=uA (ts:=ts) (t:=(ts.getD t.toNat aG).aD) c
   omega) λf=>z f _ c
  have x:v.ag=[]->v.aB=[]->v.ag.length<=1000/\v.aB.length<=1000:=λa b=>by rw[a,b];simp
  unfold gI;rcases J with h|h|h|h|h|h|h|h|h
  . obtain⟨a1,a2,a3,a4,a5,g,j⟩:=h;exact⟨⟨ah,x g a5⟩,by omega,by omega,by omega⟩
  . obtain⟨a1,a2,a3,a4,a5,g,j,_⟩:=h;exact⟨⟨ah,x g a5⟩,by omega,by omega,by omega⟩
  . obtain⟨a1,a2,a3,a4,a5,g,j,_⟩:=h;exact⟨⟨ah,x g a5⟩,by omega,by omega,by omega⟩
  . obtain⟨a1,a2,a3,a4,a5,g,j,_⟩:=h;exact⟨⟨ah,x g a5⟩,by omega,by omega,by omega⟩
  . obtain⟨a1,a2,a3,a4,a5,g,j,o⟩:=h;obtain⟨f1,f2⟩:=gV.1 o;refine⟨⟨ah,by omega,by rw[g];simp⟩,λ_ i q=>?_,by omega,by omega⟩;have s:=aZ (by omega:i<v.ag.length) ar;cases A:dh ((ts.getD t.toNat aG).af.getD i aw) (v.ag.getD i ar)with
    |true=>
     obtain⟨Q,R⟩:=aiW A;have ds:=H.W _ w _ (aZ q aw) Q;rw[<-R]at ds;refine qG H n (l _ s) (f2 i q) (.inr (by omega)) (.inr ?_);rcases f with f|f
     . omega
     . exact z f _ s
    |false=>
     refine qG H n (l _ s) (f2 i q) ?_ (f.imp (λf=>by
      rw[ae (show(ts.getD t.toNat aG).Kind=5 by omega)]at r;have:=JX (ts:=ts) q (by omega:i<v.ag.length) A
      omega) λf=>z f _ s)
     rcases d with d|d
     . left;have h0:=Ja (ts:=ts) i q (by omega:i<v.ag.length) A;rw[u3 (by omega),IF (kM _ _)]at ah;unfold e9 at ah;rw[dm,qE,h9]at ah;omega
     . exact .inr (u d _ s)
  . obtain⟨a1,a2,a3,a4,a5,g⟩:=h;cases bn:cw (ts.getD t.toNat aG).af v.ad with
    |none=>rw[bn]at g;cases g.2.1
    |some m=>
     rw[bn]at g;obtain⟨b1,b2,b3⟩:=g;refine⟨⟨ah,by omega,by rw[a5];simp⟩,by omega,λ_ ap N y c=>?_,by omega⟩;cases N
     refine qG H n (l _ c) (cD.1 b3 _ c) ?_ (f.imp (λf=>by
      rw[al (show ¬(ts.getD t.toNat aG).Kind=5 by omega),ae (show(ts.getD t.toNat aG).Kind=6 by omega),bn]at r;have:=uA (ts:=ts) (t:=m.av) c;dsimp only at r
      omega) λf=>z f _ c)
     rcases d with d|d
     . left;rw[sn (by omega),bn,cc]at ah;have B:(bF ts m.av v.ag).headD []=bp ts m.av y:=by
        match k:v.ag,b2 with
        |[a],_=>rw[k]at c;rw[qB.1 c,bF,bF];rfl
       simp only[B]at ah;omega
     . exact .inr (u d _ c)
  . obtain⟨a1,a2,a3,a4,a5,g,j,o,a9⟩:=h;have C:=bI (by omega);refine⟨⟨ah,by omega,by simp_all⟩,by omega,by omega,λ_=>⟨λy c=>qG H n (l _ c) (cD.1 a9 _ c) ?_ (C _ c),λy c=>by simp_all⟩⟩;rcases d with d|d
    . left;rw[sq (by omega)]at ah;have:=Kz (ts:=ts) (t:=(ts.getD t.toNat aG).aD) c;omega
    . exact .inr (u d _ c)
  . obtain⟨a1,a2,a3,a4,a5,g,j,o,a9,F,U⟩:=h;have am:=Fi (bF ts (ts.getD t.toNat aG).Key v.aB) (bF ts (ts.getD t.toNat aG).aD v.ag)
    refine⟨⟨ah,by omega,by omega⟩,by omega,by omega,λ_=>⟨λy c=>qG H n (l _ c) (cD.1 F _ c) ?_ (bI (by omega) _ c),λy c=>qG H n (L _ c) (cD.1 a9 _ c) ?_ (f.imp (λf=>by
     have O:v.aB≠[]:=λe=>by rw[e]at c;cases c
     rw[al O]at r;have:=afH (E.o6 _ w (by omega)).2 (cD.1 a9 _ c)
     omega) λf=>P f _ c)⟩⟩
    all_goals
     rcases d with d|d
     case inr=>first|exact .inr (u d _ c)|exact .inr (S d _ c)
     left;rw[sr (by omega)]at ah;have e:(bF ts (ts.getD t.toNat aG).Key v.aB).length=(bF ts (ts.getD t.toNat aG).aD v.ag).length:=by rw[iS,iS];omega
     have:=E7 (p:=bp ts _ y) e (by first|exact .inr (zv c)|exact .inl (zv c));omega
  . obtain⟨a1,a2,a3,a4,a5,g,j,o,a9⟩:=h;have C:=bI (by omega);refine⟨⟨ah,by omega,by simp_all⟩,by omega,by omega,λ_=>⟨λy c=>qG H n (l _ c) (cD.1 a9 _ c) ?_ (C _ c),λy c=>by simp_all⟩⟩;rcases d with d|d
    . left;rw[su (by omega)]at ah;have B:bF ts (ts.getD t.toNat aG).aD v.ag=[bp ts (ts.getD t.toNat aG).aD y]:=by
       match k:v.ag,o with
       |[a],_=>rw[k]at c;rw[qB.1 c,bF,bF]
       |[],_=>rw[k]at c;cases c
      rw[B]at ah;rw[h8]at ah;omega
    . exact .inr (u d _ c)
end
section
variable {tw tr:List ai}
theorem Ts{n:Nat}{u:I}(a:(tw.getD t.toNat aG).Kind<=4)(h:ef tw tr n t v rt path= .inl u):u=v:=by
 cases n with
 |zero=>cases h
 |succ n=>
  rw[zL]at h;unfold ir at h;grind
theorem adO{f:fK}(c:∀v rt path u,f t v rt path= .inl u->u=v){i:Nat}{l us:List I}(h:eY f path t rt i l= .inl us):us=l:=by
 obtain⟨a,b⟩:=zM h;exact aex a λj d=>c _ _ _ _ (b j (by omega))
theorem aeH{l:List I}{r:List bQ}(d:fV ms)(h:iu tw y path ms l= .inl r):j0 y.af r:=by
 obtain⟨_,b,c⟩:=Ei h;refine⟨?_,λa g=>?_⟩
 . have h1:(ms.map λm=>m.ad).Pairwise (· < ·):=nA.2 d.1;grind
 . obtain⟨f,j,i,k,e⟩:=c a g;refine⟨?_,f⟩;rw[e];exact d.2 _ (aZ i aw)
theorem cv.i64{n:Int}(h:cv n): -9223372036854775808<=n/\n<=9223372036854775807:=by unfold cv at h;omega
def Ki(tr:List ai)(rt:Int)(u:I):Prop:=bC u/\bO tr false rt u
def FH(tw tr:List ai)(n:Nat):Prop:=∀{v:I},bC v->∀{t rt:Int} {path:ao} {u:I},bO tw true t v->gI tw n t v->0<=rt->rt<tr.length->ef tw tr n t v rt path= .inl u->Ki tr rt u
theorem abE(aj:c8 tw)(l:c8 tr){n:Nat}(ih:FH tw tr n):FH tw tr (n+1):=by
 intro v az t rt path u aH au s z h;unfold gI at au;obtain⟨⟨z1,z2,z3⟩,ak,am,K⟩:=au;have SW:=aj.V.fR aj.T;have cz:=l.V.fR l.T;have R:=az;have a':=eV v;obtain⟨⟨aU,aV,aW,aX⟩,aF⟩:=(dO _ _ _).1 aH;have aI:t.toNat<tw.length:=by omega
 have aJ:rt.toNat<tr.length:=by omega
 have P:=aZ aI aG;have p:=aZ aJ aG;have o:=λu=>(dO (ts:=tr) false rt u).2;rw[zL]at h;generalize ba:tw.getD t.toNat aG=x at*;generalize bb:tr.getD rt.toNat aG=y at*;cases az with
 |mk _ hs h1 aY a6 ax aa a8 cZ bf bg bh=>
 have ai:∀{t rt:Int} {i:Nat} {us:List I},e0 tw true t v.ag->(∀y,y∈v.ag->gI tw n t y)->0<=rt->rt<tr.length->eY (ef tw tr n) path t rt i v.ag= .inl us->us.length=v.ag.length/\(∀q,q∈us->bC q)/\e0 tr false rt us:=λ{t rt i us} Z c a0 a1 Q=>by
  obtain⟨a,b⟩:=zM Q;have key:∀q,q∈us->Ki tr rt q:=λq ab=>by
   obtain⟨j,G,rfl⟩:=AI ar ab;have g:=aZ (by omega:j<v.ag.length) ar;exact ih (aa _ g) (cD.1 Z _ g) (c _ g) a0 a1 (b j (by omega))
  exact⟨a,λq c=>(key q c).1,cD.2 λq c=>(key q c).2⟩
 have aL:∀t,e0 tw true t v.aB->(∀y,y∈v.aB->gI tw n t y)->(tw.getD t.toNat aG).Kind<=4->∀{rt:Int} {i:Nat} {us:List I},0<=rt->rt<tr.length->eY (ef tw tr n) path t rt i v.aB= .inl us->us=v.aB/\e0 tr false rt v.aB:=λt Z ab aK rt i us a0 a1 Q=>by
  have e:=adO (λv rt path u h=>Ts aK h) Q;subst e;obtain⟨a,b⟩:=zM Q;refine⟨rfl,cD.2 λq c=>?_⟩;obtain⟨j,G,rfl⟩:=AI ar c;exact(ih (ax _ c) (cD.1 Z _ c) (ab _ c) a0 a1 (b j G)).2
 unfold ir at h;by_cases bD:x.Kind=y.Kind
 . rw[al (by simpa using bD)]at h;rcases aF with d|d|d|d|d|d|d|d|d
   . rw[bl,bl,bl,bl,bl]at h;split at h<;>cases h;exact⟨R,o _ ⟨⟨s,z,by omega,by simp⟩,.inl d⟩⟩
   . rw[bl,bl,bl,bl,bl]at h;split at h<;>cases h;rename_i ah;exact⟨R,o _ ⟨⟨s,z,by omega,by simp⟩,.inr (.inl (by have:=ah.1 (by omega);simp_all))⟩⟩
   . rw[bl,bl,bl,bl,bl]at h;split at h<;>cases h;rename_i ah;exact⟨R,o _ ⟨⟨s,z,by omega,by simp⟩,.inr (.inr (.inl (by have:=ah.2.1 (by omega);simp_all)))⟩⟩
   . rw[bl,bl,bl,bl,bl]at h;split at h<;>cases h;rename_i ah;have M:cv v.ad:=by
      rcases d.2.2.2.2.2.2.2 with⟨y,aS,aT⟩|⟨_,h,_⟩
      . rw[<-aT];exact SW.S _ P (by omega) y aS
      . cases h
     refine⟨R,o _ ⟨⟨s,z,by omega,by simp⟩,.inr (.inr (.inr (.inl ⟨d.1,d.2.1,d.2.2.1,d.2.2.2.1,d.2.2.2.2.1,d.2.2.2.2.2.1,d.2.2.2.2.2.2.1,?_⟩)))⟩⟩;rcases ah.2.2 (by omega)with q|q
     . exact .inl q
     grind
   . obtain⟨a1,a2,a3,a4,a5,E,W,L⟩:=d;obtain⟨U,aO⟩:=SW.A _ P (.inl (by omega));obtain⟨bd,be⟩:=cz.A _ p (.inl (by omega));obtain⟨f1,f2⟩:=gV.1 L;rw[fe]at h;obtain⟨f,aM,h⟩:=Eh h;obtain⟨r,ao,rfl⟩:=qn h;obtain⟨b1,b2⟩:=Jk aM;have key:∀j,j<y.af.length->Ki tr (y.af.getD j aw).av (f.getD j ar):=λj O=>by
      have F:=aZ O aw;rcases PC (b2 j O)with⟨_,X,Y⟩|⟨i,an,X,_⟩
      . rw[Y];exact⟨(l.T _ p).iG _ F,oY _ _ (l.D _ p _ F X)⟩
      . obtain⟨d1,_,_⟩:=hI an;have g:=aZ (by omega:i<v.ag.length) ar;obtain⟨B,C⟩:=l.gy.mem p F;exact ih (aa _ g) (f2 i d1) (ak (by omega) i d1) B C X
     have ay:=aeH U ao;obtain⟨an,_,Y⟩:=Ei ao;refine⟨.mk _ (by simp) (by simp) (by show f.length<=_;unfold reachBytes;omega) (by show r.length<=_;unfold reachBytes;omega) (λq c=>by cases c) (λq c=>?_) (λq c=>?_) (by simp) (by simp) (by simp) (λq c=>(ay.2 q c).1.i64),o _ ⟨⟨s,z,by show(5:Int)=_;omega,by simp⟩,.inr (.inr (.inr (.inr (.inl ⟨rfl,rfl,rfl,rfl,rfl,rfl,ay,gV.2 ⟨b1,λj O=>(key j O).2⟩⟩))))⟩⟩
     . obtain⟨j,G,rfl⟩:=AI ar c;exact(key j (by have:f.length=_:=b1;have bc:j<f.length:=G;omega)).1
     . obtain⟨_,j,G,aN,e⟩:=Y q c;have g:=aZ aN ar;have:=(ak (by omega) j G).len;rw[e];unfold reachBytes;grind
   . obtain⟨a1,a2,a3,a4,a5,E⟩:=d;rw[bl,fe]at h;unfold sf at h;obtain⟨U,aO⟩:=SW.A _ P (.inr (by omega));cases bn:cw x.af v.ad with
     |none=>rw[bn]at E;cases E.2.1
     |some m=>
      rw[bn]at E;obtain⟨b1,b2,b3⟩:=E;have ae:=rP x.af v.ad;rw[bn]at ae;cases M:fz x.af v.ad with
      |none=>rw[M]at ae;cases ae
      |some i=>
      obtain⟨d1,d2,_⟩:=hI M;obtain⟨d3,d4⟩:=jT bn;have em:x.af.getD i aw=m:=qm U (aZ d1 aw) d3 (by rw[d2,d4]);have aq:cv v.ad:=by rw[<-d4];exact U.2 m d3
      simp only[M,em]at h;have g:=aZ (by omega:0<v.ag.length) ar;cases N:fz y.af v.ad with
      |some k=>
       simp only[N]at h;obtain⟨w,aM,rfl⟩:=qn h;obtain⟨k1,k2,_⟩:=hI N;have F:=aZ k1 aw;obtain⟨B,C⟩:=l.gy.mem p F;obtain⟨z1,z2⟩:=ih (aa _ g) (cD.1 b3 _ g) (am (by omega) _ bn _ g) B C aM;have ap:cw y.af v.ad=some (y.af.getD k aw):=by rw[<-k2];exact JE (cz.A _ p (.inr (by omega))).1 F
       refine⟨.mk _ (by simp) (by simp) (by show[w].length<=_;unfold reachBytes;simp) (by simp) (λq c=>by cases c) (λq c=>?_) (λq c=>by cases c) (by simp) (by simp) aq.i64 (λq c=>by cases c),o _ ⟨⟨s,z,by show(6:Int)=_;omega,by simp⟩,.inr (.inr (.inr (.inr (.inr (.inl ⟨rfl,rfl,rfl,rfl,rfl,?_⟩)))))⟩⟩
       . grind
       . show match cw y.af v.ad with|some m=>_|none=>_
         rw[ap];exact⟨rfl,rfl,z2,trivial⟩
      |none=>
       simp only[N]at h;split at h
       . cases h;rename_i a7;have ap:cw y.af v.ad=none:=by
          have:=rP y.af v.ad;rw[N]at this;cases c:cw y.af v.ad with
          |none=>rfl
          |some _=>rw[c]at this;cases this
         have:=(am (by omega) _ bn _ g).len;refine⟨.mk _ (by simp) (by simp) (by simp) (by show[_].length<=_;unfold reachBytes;simp) (λq c=>by cases c) (λq c=>by cases c) (λq c=>?_) (by simp) (by simp) aq.i64 (λq c=>?_),o _ ⟨⟨s,z,by show(6:Int)=_;omega,by simp⟩,.inr (.inr (.inr (.inr (.inr (.inl ⟨rfl,rfl,rfl,rfl,rfl,?_⟩)))))⟩⟩
         . rw[qB.1 c];show(bp tw _ _).length<=_;unfold reachBytes;omega
         . grind
         grind
       . cases h
   . obtain⟨a1,a2,a3,a4,a5,E,W,L,a9⟩:=d;rw[bl,bl,fe]at h;unfold xy at h;split at h
     . rename_i aE;obtain⟨f,aM,rfl⟩:=qn h;obtain⟨B,C⟩:=l.gy.elem p (by omega);obtain⟨aA,H,J⟩:=ai a9 (K (by omega)).1 B C aM;exact⟨.mk _ (by simp) (by simp) (by show f.length<=_;omega) (by simp) (λq c=>by cases c) H (λq c=>by cases c) (by simp) (by simp) (by simp) (λq c=>by cases c),o _ ⟨⟨s,z,by show(7:Int)=_;omega,by simp⟩,.inr (.inr (.inr (.inr (.inr (.inr (.inl ⟨rfl,rfl,rfl,rfl,rfl,rfl,rfl,by show(f.length:Int)<=_;omega,J⟩))))))⟩⟩
     . cases h
   . obtain⟨a1,a2,a3,a4,a5,E,W,L,a9,aC,aD⟩:=d;rw[bl,bl,bl,fe]at h;unfold xz at h;split at h
     . rename_i aE;obtain⟨ks,cQ,h⟩:=Eh h;obtain⟨f,aM,rfl⟩:=qn h;obtain⟨B,C⟩:=l.gy.elem p (by omega);obtain⟨aQ,aR⟩:=l.gy.key p (by omega);obtain⟨aA,H,J⟩:=ai aC (K (by omega)).1 B C aM;obtain⟨rfl,aP⟩:=aL _ a9 (K (by omega)).2 (SW.o6 _ P (by omega)).2 aQ aR cQ;exact⟨.mk _ (by simp) (by show v.aB.length<=_;omega) (by show f.length<=_;omega) (by simp) ax H (λq c=>by cases c) (by simp) (by simp) (by simp) (λq c=>by cases c),o _ ⟨⟨s,z,by show(8:Int)=_;omega,by simp⟩,.inr (.inr (.inr (.inr (.inr (.inr (.inr (.inl ⟨rfl,rfl,rfl,rfl,rfl,rfl,by show(v.aB.length:Int)<=_;omega,by show f.length=v.aB.length;omega,aP,J,aD⟩)))))))⟩⟩
     . cases h
   . obtain⟨a1,a2,a3,a4,a5,E,W,L,a9⟩:=d;rw[bl,bl,bl,bl,fe]at h;obtain⟨f,aM,rfl⟩:=qn h;obtain⟨B,C⟩:=l.gy.elem p (by omega);obtain⟨aA,H,J⟩:=ai a9 (K (by omega)).1 B C aM;exact⟨.mk _ (by simp) (by simp) (by show f.length<=_;omega) (by simp) (λq c=>by cases c) H (λq c=>by cases c) (by simp) (by simp) (by simp) (λq c=>by cases c),o _ ⟨⟨s,z,by show(9:Int)=_;omega,by simp⟩,.inr (.inr (.inr (.inr (.inr (.inr (.inr (.inr ⟨rfl,rfl,rfl,rfl,rfl,rfl,rfl,by show f.length<=1;omega,J⟩)))))))⟩⟩
 grind
theorem O'(b:c8 tw)(a:c8 tr):∀n,FH tw tr n
 |0=>λ_ _ _ _ _ _ _ _ _ h=>by cases h
 |n+1=>abE b a (O' b a n)
end
theorem abF{s:aO}(H:hj s.Types)(f:bC v)(i:wt v<=1099511627776)(e:bO s.Types false t v)(c:tG (s,t,v)=some 0):
 l7 (s,t,v)=some (lK s.Types t v):=by
 have h1:=afq H f i e;have d:tG ((⟨s.Types⟩:aO),t,v)=some 0:=c;rw[l7];simp only[I.aP];rw[d,h1];simp only[aS,ak];rw[bz];unfold lK;generalize bp s.Types t v=p;generalize ew s.Types t v=l;by_cases g:4096<p.length
 . rw [ae (by have:(4096:Int)<p.length:= by omega
              simp[this]),ae (.inl g)]
 . by_cases b:200<l
   . rw [ae (by have:¬ (4096:Int)<p.length:= by omega
                have a:(200:Int)<l:=by omega
                simp[this,a]),ae (.inr b)]
   . rw [al (by have:¬ (4096:Int)<p.length:= by omega
                have a:¬(200:Int)<l:=by omega
                simp[this,a]),bl]
theorem abG{s:aO}(H:hj s.Types)(b:bC v)(c:wt v<=1099511627776)(a:bO s.Types false t v)(i:rm (s,t,v)=some 0):
 rj (s,t,v)=some (lK s.Types t v):=by
 have e:iP (s,t,v)=some (bp s.Types t v):=Fl H b c t a;have f:na (s,t,v)=_:=afp H b c t a;rw[rj];simp only[I.aP];rw[i];simp only[aS,ak];rw[bz,e];simp only[ak];rw[f];unfold lK;generalize bp s.Types t v=p;generalize ew s.Types t v=l;by_cases g:4096<p.length
 . have:decide ((4096:Int)<p.length)=true:=by simp;omega
   rw[this,bz];simp only[ak,ed];rw[ae trivial,ae (.inl g)]
 . have:decide ((4096:Int)<p.length)=false:=by simp;omega
   rw[this,hQ];simp only[ak,dU];by_cases d:200<l
   . rw[bE,ae (.inr d)]
   . rw[cr,bl]
theorem PE(H:c8 ts)(a:qO ts t v):l7 ((⟨ts⟩:aO),t,v)=some (lK ts t v):=
 abF (s:=⟨ts⟩) (H.V.fR H.T) a.2.1 (fg a.2.2 (by decide)) a.1 (IZ H.T H.V a.2.1 a.1)
theorem PF(H:c8 ts)(a:qO ts t v):rj ((⟨ts⟩:aO),t,v)=some (lK ts t v):=
 abG (s:=⟨ts⟩) (H.V.fR H.T) a.2.1 (fg a.2.2 (by decide)) a.1 (OW H.T H.V a.2.1 a.1)
noncomputable def gX (ts:List ai)(t:Int)(m:aj):I×Int:=
 if t<0\/(ts.length:Int)<=t then(ez,4)else if 4096<m.length then(ez,12)else match cK ts 200 t m with
  |some v=>(v,0)
  |none=>(ez,12)
theorem N9(ts:List ai)(t:Int)(m:aj):(∃e,e≠0/\gX ts t m=(ez,e))\/∃v,gX ts t m=(v,0)/\(0<=t/\t<ts.length)/\m.length<=4096/\cK ts 200 t m=some v:=by
 unfold gX;by_cases h1:t<0\/(ts.length:Int)<=t
 . rw[ae h1];exact .inl ⟨4,by omega,rfl⟩
 . rw[al h1];by_cases a:4096<m.length
   . rw[ae a];exact .inl ⟨12,by omega,rfl⟩
   . rw[al a];cases b:cK ts 200 t m with
     |none=>exact .inl ⟨12,by omega,rfl⟩
     |some v=>exact .inr ⟨v,rfl,by omega,by omega,rfl⟩
section
variable {ts:List ai}
theorem Oa(H:jm ts)(t:Int)(m:aj):ta ((⟨ts⟩:aO),t,m)=some (gX ts t m):=by
 rw[ta,Ip,(oJ H.S.T H.V).1];simp only[aS,ak];unfold gX;by_cases h1:t<0\/(ts.length:Int)<=t
 . have c:(bif decide (t<0)then true else decide ((ts.length:Int)<=t))=true:=by rcases h1 with h1|h1<;>simp[h1]
   rw[bz,ae c,ae h1];rfl
 . have c:¬(bif decide (t<0)then true else decide ((ts.length:Int)<=t))=true:=by
    have a:¬t<0:=λh=>h1 (.inl h);have b:¬(ts.length:Int)<=t:=λh=>h1 (.inr h);simp[a,b]
   by_cases d:4096<m.length
   . rw[bz,al c,bE,al h1,ae d];rfl
   . have d1:=Qb H 200 (by omega) t m [] 0 [] (by omega) (by omega) (by omega) rfl;rw[bz,al c,cr,al h1,al d];cases e:cK ts 200 t m with
     |none=>
      obtain⟨w,f1,f2,f⟩:=d1.2 e;rw[f];rfl
     |some v=>
      rw[d1.1 v e];simp[I.aP]
theorem Ob(H:jm ts)(t:Int)(m:aj):tg ((⟨ts⟩:aO),t,m)=some (gX ts t m):=by
 have f:kK ((⟨ts⟩:aO),t)=some (if t<0\/(ts.length:Int)<=t then 4 else 0):=by
  rw[kK,(oJ H.S.T H.V).2];simp only[aS,ak];rw[bz];by_cases h1:t<0\/(ts.length:Int)<=t
  . rw[ae h1,ae];rcases h1 with h1|h1<;>simp[h1]
  . rw[al h1,al];have a:¬t<0:=λh=>h1 (.inl h);have b:¬(ts.length:Int)<=t:=λh=>h1 (.inr h);simp[a,b]
 rw[tg,Hy,f];simp only[aS,ak];unfold gX;by_cases h1:t<0\/(ts.length:Int)<=t
 . simp only[ae h1];rfl
 . by_cases d:4096<m.length
   . simp only[al h1];rw[bz,bE,ae d,AH (by simp)];rfl
   . have d2:=Pw H 200 (by omega) t m [] (by omega) (by omega) (by omega) (by simp);rw[show((201-200:Nat):Int)=1 from rfl]at d2;simp only[al h1];rw[bz,cr,al d];cases e:cK ts 200 t m with
     |none=>
      obtain⟨F,c⟩:=d2.2 e;rw[c];rfl
     |some v=>
      obtain⟨F,c⟩:=d2.1 v e;rw[c];simp[I.aP]
theorem aeI(H:c8 ts){m:aj}(ht:0<=t/\t<ts.length)(d:m.length<=4096)(h:cK ts 200 t m=some v):qO ts t v:=by
 obtain⟨a,b,c⟩:=Py H 200 t m v (by omega) ht.1 ht.2 h;exact⟨a,b,by omega⟩
end
theorem E'{m:aR}(a:bC v):tm (m,v)=some (dh m v):=by
 rw[tm];simp only[I.aP];unfold dh;cases b:m.bu with
 |false=>rfl
 |true=>
  obtain⟨r,c,d⟩:=PY a m.bm;grind
theorem Jl(h:p.length<=100000:=by omega):v7 p=some (dg p):=by
 rw[v7,hz,ug];have:=ko (n:=p.length) (by omega);simp only[aS,ak];rw[ae (ga)];rfl
theorem adP{c:Bool}(d:cv id)(h:p.length<=4096):DD (id,c,p)=some (fr id.toNat c p,0):=by
 unfold cv at d;obtain⟨n,rfl⟩:=CY (by omega:0<=id);have a:¬(n:Int)<1:=by omega
 have b:¬(1000:Int)<n:=by omega
 rw[DD,al (by simp[a,b]),cr,JB (by omega),aV];rfl
section
variable {ts:List ai}
theorem JG:∀{ms:List aR} {l:List I},((dv ts ms l).map λf=>f.id).Sublist (ms.map λm=>m.ad.toNat)
 |[],l=>by rw[dv]<;>simp
 |m::ms,[]=>by rw[dv]<;>simp
 |m::ms,v::l=>by
  rw[dv];split
  . exact(JG (ms:=ms) (l:=l)).cons _
  . exact(JG (ms:=ms) (l:=l)).cons₂ _
theorem adQ{l:List I}(c:fV ms):(dv ts ms l).Pairwise (λa b=>a.id<b.id):=by
 have h1:(ms.map λm=>m.ad.toNat).Pairwise (· < ·):=nA.2 (c.1.imp_of_mem λ{a b} d e h=>by
  have:=c.2 a d;unfold cv at this
  omega)
 exact nA.1 (h1.sublist JG)
theorem Oc(h:(ts.getD t.toNat aG).Kind=5)(c:v.Rest=[])(a:fV (ts.getD t.toNat aG).af):bp ts t v=(dv ts (ts.getD t.toNat aG).af v.ag).flatMap Fd.text:=by
 rw[u3 h];have b:j0 (ts.getD t.toNat aG).af v.Rest:=by rw[c];exact⟨.nil,λx d=>by cases d⟩
 congr 1
 have e:e9 ts (ts.getD t.toNat aG).af v.ag v.Rest=dv ts (ts.getD t.toNat aG).af v.ag:=by
  unfold e9;grind
 rw[<-e];refine Pz (D4 (um a b) (Ee a b)) ?_ λy=>(kM eQ _).mem_iff;rw[e];exact adQ a
def jJ(ts:List ai)(t:Int)(v:I):Prop:=lr ((⟨ts⟩:aO),t,v)=some (bp ts t v)
theorem UD(b:∀m,m∈ms->cv m.ad)(ah:v.ag.length=ms.length)(f:ms.length<=1000)(d:∀y,y∈v.ag->bC y)(hs:∀i,i<ms.length->dh (ms.getD i aw) (v.ag.getD i ar)=false->(bp ts (ms.getD i aw).av (v.ag.getD i ar)).length<=4096/\jJ ts (ms.getD i aw).av (v.ag.getD i ar)):
 ∀(k i:Nat) (acc:aj),i+k=ms.length->acc.length<=i*5000->
 ri (acc,ms,(ms.length:Int),(i:Int),ts,v)=some (acc++(dv ts (ms.drop i) (v.ag.drop i)).flatMap Fd.text)
 |0,i,acc,j,g=>by
  rw[ri,cr,ei (by omega:ms.length<=i),dv]
  . simp
  grind
 |k+1,i,acc,j,g=>by
  have aC:i<ms.length:=by omega
  have a:i<v.ag.length:=by omega
  have o:=aZ a ar;rw[ri,bE,ae (aH aC)];simp only[aS,ak,aV,I.aP,gw];rw[ae (aH a),E' (d _ o),eD aC aw,eD a ar,dv];have e:=λacc=>UD b ah f d hs k (i+1) acc (by omega);cases q:dh (ms.getD i aw) (v.ag.getD i ar)with
  |true=>
   simp only[ak,de,bW,b6,bM];rw[bA (by omega),e acc (by omega)]
  |false=>
   obtain⟨h1,c⟩:=hs i aC q;unfold jJ at c;simp only[ak,en,bM,bW,b6];rw[ae (aH a),c];simp only[ak];rw[adP (b _ (aZ aC aw)) (by omega)];simp only[ak];have l:=b _ (aZ aC aw);unfold cv at l;have a1:=w0 (p:=bp ts (ms.getD i aw).av (v.ag.getD i ar)) (by omega);have a2:=BE (n:=2*(ms.getD i aw).ad.toNat+(if(ms.getD i aw).b8 then 1 else 0)) (by split<;>omega);have r:(fr (ms.getD i aw).ad.toNat (ms.getD i aw).b8 (bp ts (ms.getD i aw).av (v.ag.getD i ar))).length<=5000:=by
    unfold fr;grind
   rw[ae (ga),bA (by omega),e _ (by rw[cc];omega),gg];rfl
theorem UE(b:¬x.Kind=8)(ah:v.ag.length<=3000)(hs:∀y,y∈v.ag->(bp ts x.aD y).length<=4096/\jJ ts x.aD y):
 ∀(k i:Nat) (acc:aj),i+k=v.ag.length->acc.length<=i*5000->
 lp (acc,v.ag,(v.ag.length:Int),(i:Int),ts,v,x)=some (acc++(bF ts x.aD (v.ag.drop i)).flatMap dg)
 |0,i,acc,d,c=>by
  rw[lp,cr,ei (by omega:v.ag.length<=i),bF];simp
 |k+1,i,acc,d,c=>by
  have aC:i<v.ag.length:=by omega
  obtain⟨h1,a⟩:=hs _ (aZ aC ar);unfold jJ at a;rw[lp,bE,ae (aH aC)];simp only[aS,ak,aV,I.aP];have a1:=w0 (p:=bp ts x.aD (v.ag.getD i ar)) (by omega);rw[al (by simp[b]),a];simp only[ak];rw[Jl];simp only[ak];rw[ae (ga),bA (by omega),UE b ah hs k (i+1) _ (by omega) (by rw[cc];omega),eD aC ar,bF,gQ,gg]
theorem R4(d:x.Kind=8)(j:v.ag.length=v.aB.length)(ah:v.ag.length<=3000)(hs:∀y,y∈v.ag->(bp ts x.aD y).length<=4096/\jJ ts x.aD y)(e:∀y,y∈v.aB->(bp ts x.Key y).length<=4096/\jJ ts x.Key y):
 ∀(k i:Nat) (acc:aj),i+k=v.ag.length->acc.length<=i*9000->
 lp (acc,v.ag,(v.ag.length:Int),(i:Int),ts,v,x)=some (acc++gA (bF ts x.Key (v.aB.drop i)) (bF ts x.aD (v.ag.drop i)))
 |0,i,acc,g,f=>by
  rw[lp,cr,ei (by omega:v.ag.length<=i),ei (by omega:v.aB.length<=i),bF,bF,gA]
  . simp
  grind
 |k+1,i,acc,g,f=>by
  have aC:i<v.ag.length:=by omega
  have a:i<v.aB.length:=by omega
  obtain⟨h1,b⟩:=hs _ (aZ aC ar);obtain⟨l,c⟩:=e _ (aZ a ar);unfold jJ at b c;rw[lp,bE,ae (aH aC)];simp only[aS,ak,aV,I.aP];have a1:=w0 (p:=bp ts x.aD (v.ag.getD i ar)) (by omega);have a2:=w0 (p:=bp ts x.Key (v.aB.getD i ar)) (by omega);rw[ae (by simp[d]),ae (aH a),c];simp only[ak];rw[Jl];simp only[ak];rw[ae (ga),b];simp only[ak];rw[Jl];simp only[ak];rw[ae (ga (by rw[cc];omega)),bA (by omega),R4 d j ah hs e k (i+1) _ (by omega) (by rw[cc,cc];omega),eD aC ar,eD a ar,bF,bF,gA,gg,gg]
theorem aeJ(H:hj ts)(l:bC v)(i:bO ts true t v)(k4:v.Kind<=4):kg (t,v,1,ts,0)=some (bp ts t v,ts,1):=by
 obtain⟨⟨q,r,g,_⟩,b⟩:=(dO _ _ _).1 i;have a:cy v.bg:=by cases l with|mk _ _ _ _ _ _ _ _ _ a _ _=>exact a
 obtain⟨j,rfl⟩:∃j:Nat,t=(j:Int):=⟨t.toNat,by omega⟩
 have c:j<ts.length:=by omega
 have k:=aZ c aG;have m:=@BA ts (j:Int) v;have d:=@BB ts (j:Int) v;have o:=@BC ts (j:Int) v;have e:=@BD ts (j:Int) v;rw[kg];simp only[aS,ak];rw[ae (aH c),show iI 0 1=1 by decide];simp only[aV,I.aP]at g b m d o e⊢;generalize ts.getD j aG=x at*;rcases b with h|h|h|h|h|h|h|h|h
 . grind
 . rw[al (mt gP (by omega)),ae (j5 (by omega)),d (by omega),E2 a];simp only[ak];have f:=Bf a;obtain⟨n,aJ⟩:∃n:Nat,gF v.bg=(n:Int):=⟨(gF v.bg).toNat,by unfold gF;split<;>omega⟩
   rw[aJ,aV]at f;rw[aJ,E3 f];rfl
 . grind
 . obtain⟨n,aJ,ah⟩:∃n:Nat,v.ad=(n:Int)/\n<=1000:=by
    rcases h.2.2.2.2.2.2.2 with⟨y,p,s⟩|⟨_,h,_⟩
    . have:=H.S x k (by omega) y p;unfold cv at this;grind
    . cases h
   rw[al (mt gP (by omega)),al (mt gP (by omega)),al (mt gP (by omega)),ae (j5 (by omega)),e (by omega),aJ,hz,E3 (by omega),aV];rfl
 all_goals omega
theorem afI(H:c8 ts)(b:bC v)(a:bO ts true t v)(hs:(bp ts t v).length<=4096)(k4:v.Kind<=4):l7 ((⟨ts⟩:aO),t,v)=some (bp ts t v,0):=by
 rw[l7];simp only[I.aP];rw[IZ H.T H.V b (oY _ _ a)];simp only[aS,ak];rw[bz,aeJ (H.V.fR H.T) b a k4];grind
theorem R5(H:c8 ts)(w:bC v):∀t,bO ts true t v->(bp ts t v).length<=4096->jJ ts t v:=by
 have z:=H.V.fR H.T;have P:=w;induction w with
 |mk v hs h1 ab ai L g am cZ ao ap aq Q o=>
  intro t B c;obtain⟨⟨Y,Z,aa,G⟩,J⟩:=(dO _ _ _).1 B;obtain⟨j,rfl⟩:∃j:Nat,t=(j:Int):=⟨t.toNat,by omega⟩
  have D:j<ts.length:=by omega
  have p:=aZ D aG;have dm:=G rfl;have an:=afI H P B c;have aj:=H.M _ p;have s:=(H.cu _ p).2.2;unfold jJ;rw[lr,ae (aH D)];simp only[aS,ak,I.aP];rw[aV]at*;rcases J with h|h|h|h|h|h|h|h|h
  . grind
  . grind
  . grind
  . grind
  . obtain⟨a1,a2,a3,a4,a5,d,r,f⟩:=h;obtain⟨k,R⟩:=z.A _ p (.inl (by omega));obtain⟨f1,f2⟩:=gV.1 f;rw[Oc (by rw[aV];omega) dm (by rw[aV];exact k),aV]at c
    have h0:=UD (ts:=ts) (ms:=(ts.getD j aG).af) (v:=v) k.2 f1 (by omega) g (λi C N=>by
     have E:=aZ (by omega:i<v.ag.length) ar;have ah:=fg (Ja (ts:=ts) i C (by omega) N) c
     exact⟨ah,o _ E (g _ E) _ (f2 i C) ah⟩) (ts.getD j aG).af.length 0 [] (by omega) (by simp)
    have l:ri ([],(ts.getD j aG).af,((ts.getD j aG).af.length:Int),0,ts,v)=_:=h0;rw[ae (j5 (by omega)),l];rw[Oc (by rw[aV];omega) dm (by rw[aV];exact k),aV];rfl
  . obtain⟨a1,a2,a3,a4,a5,d⟩:=h;obtain⟨k,R⟩:=z.A _ p (.inr (by omega));cases bn:cw (ts.getD j aG).af v.ad with
    |none=>rw[bn]at d;cases d.2.1
    |some m=>
     rw[bn]at d;obtain⟨b1,b2,b3⟩:=d;obtain⟨d3,d4⟩:=jT bn;obtain⟨q,S,U,W⟩:=Gi k (by omega) bn;have K:=k.2 m d3;unfold cv at K;have b:=aZ (by omega:0<v.ag.length) ar;have O:bF ts m.av v.ag=[bp ts m.av (v.ag.getD 0 ar)]:=by
      match w:v.ag,b2 with
      |[a],_=>rw[bF,bF];rfl
     have z1:(bp ts m.av (v.ag.getD 0 ar)).length<=4096:=by
      rw[sn (t:=(j:Int)) (v:=v) (by rw[aV];omega),aV,bn,cc]at c;simp only[O,List.headD_cons]at c;omega
     have z2:=o _ b (g _ b) m.av (cD.1 b3 _ b) z1;unfold jJ at z2;obtain⟨n,aJ⟩:∃n:Nat,v.ad=(n:Int):=⟨v.ad.toNat,by omega⟩
     have:=BE (n:=n) (by omega);rw[al (mt gP (by omega)),ae (j5 (by omega)),U];simp only[ak];rw[aJ,hz,ug];simp only[ak];rw[ae (aH S),ae (by rw[b2];rfl),aV,W,show(0:Int).toNat=0 from rfl,z2];simp only[ak];rw[ae (ga),sn (t:=(j:Int)) (v:=v) (by rw[aV];omega),aV,bn,aJ,aV];grind
  . obtain⟨a1,a2,a3,a4,a5,d,r,f,a9⟩:=h
    have h0:=UE (ts:=ts) (x:=ts.getD j aG) (v:=v) (by omega) (by omega) (λy b=>by
     rw[sq (by rw[aV];omega),aV]at c;have ah:=fg (Kz (ts:=ts) (t:=(ts.getD j aG).aD) b) c
     exact⟨ah,o _ b (g _ b) _ (cD.1 a9 y b) ah⟩) v.ag.length 0 [] (by omega) (by simp)
    have l:lp ([],v.ag,(v.ag.length:Int),0,ts,v,ts.getD j aG)=_:=h0;rw[al (mt gP (by omega)),al (mt gP (by omega)),al (mt gP (by omega)),ae (j5 (by omega)),ae (j5 (by omega)),l,sq (by rw[aV];omega),aV];rfl
  . obtain⟨a1,a2,a3,a4,a5,d,r,f,a9,F,X⟩:=h;rw[sr (by rw[aV];omega),aV]at c;have e:(bF ts (ts.getD j aG).Key v.aB).length=(bF ts (ts.getD j aG).aD v.ag).length:=by rw[iS,iS];omega
    have h0:=R4 (ts:=ts) (x:=ts.getD j aG) (v:=v) (by omega) f (by omega) (λy b=>by
     have ah:=fg (E7 e (.inr (zv b))) c;exact⟨ah,o _ b (g _ b) _ (cD.1 F y b) ah⟩) (λy b=>by
     have ah:=fg (E7 e (.inl (zv b))) c
     exact⟨ah,Q _ b (L _ b) _ (cD.1 a9 y b) ah⟩) v.ag.length 0 [] (by omega) (by simp)
    have l:lp ([],v.ag,(v.ag.length:Int),0,ts,v,ts.getD j aG)=_:=h0;rw[al (mt gP (by omega)),al (mt gP (by omega)),al (mt gP (by omega)),al (mt gP (by omega)),ae (j5 (by omega)),l,sr (by rw[aV];omega),aV];rfl
  . obtain⟨a1,a2,a3,a4,a5,d,r,f,a9⟩:=h;rw[al (mt gP (by omega)),al (mt gP (by omega)),ae (j5 (by omega)),su (by rw[aV];omega),aV]
    match s:v.ag,f with
    |[],_=>
     rw[wx,bz,bF];rfl
    |[a],_=>
     have u:a∈v.ag:=by rw[s];exact .head _
     have z1:(bp ts (ts.getD j aG).aD a).length<=4096:=by
      rw[su (by rw[aV];omega),aV,s,bF,bF,h8]at c;omega
     have z2:=o _ u (g _ u) _ (cD.1 a9 a u) z1;unfold jJ at z2;rw[wx,hQ,ae (show ay 0 [a].length=true from rfl)];simp only[I.aP];rw[show[a].getD (Int.toNat 0) ar=a from rfl,z2];simp only[aS,ak];rw[ae (ga (by show 1+(bp ts (ts.getD j aG).aD a).length<=_;omega)),show aK .i64 0 1=1 from by decide,wx,al (show ¬decide ((1:Int)<([a].length:Int))=true from by simp),bF,bF];rfl
end
theorem Od{l:List I}{r:List bQ}(ah:l.length<=1000000000)(h:∀y,y∈l->km y=some y):∀(k i:Nat),i+k=l.length->
 tk ((l.length:Int),(i:Int),a0,a1,a2,a3,a4,z0,z1,z2,z3,z4,l,l2,r)=some (a0,a1,a2,a3,a4,z0,z1,z2,z3,z4,l,l2,r)
 |0,i,a=>by rw[tk,cr]
 |k+1,i,a=>by
  have aC:i<l.length:=by omega
  rw[tk,bE,ae (aH aC),aV,bE];simp only[I.aP];rw[h _ (aZ aC ar)];simp only[aS,ak,I.aP];rw[ae (aH aC),bE,bA (by omega),D6 aC];exact Od ah h k (i+1) (by omega)
theorem Oe{l:List I}{r:List bQ}(ah:l.length<=1000000000)(h:∀y,y∈l->km y=some y):∀(k i:Nat),i+k=l.length->
 tl ((l.length:Int),(i:Int),a0,a1,a2,a3,a4,z0,z1,z2,z3,z4,l,l2,r)=some (a0,a1,a2,a3,a4,z0,z1,z2,z3,z4,l2,l,r)
 |0,i,a=>by rw[tl,cr]
 |k+1,i,a=>by
  have aC:i<l.length:=by omega
  rw[tl,bE,ae (aH aC),aV,bE];simp only[I.aP];rw[h _ (aZ aC ar)];simp only[aS,ak,I.aP];rw[ae (aH aC),bE,bA (by omega),D6 aC];exact Oe ah h k (i+1) (by omega)
theorem abH(j:bC v):wt v<=1000000000->km v=some v:=by
 induction j with
 |mk v hs h1 o p s q t cZ A B C m k=>
  intro u;have w:=eV v;have x:=BG v.aB;have l2:=BG v.ag;have z:=Ps v.Rest;have kk:∀y,y∈v.aB->km y=some y:=λy a=>m y a (by have:=e2 a;omega);have n:∀y,y∈v.ag->km y=some y:=λy a=>k y a (by have:=e2 a;omega);have f:eO 120 v.aB=some v.aB:=by unfold eO;rw[ae (lA (wI))]
  have g:eO 120 v.ag=some v.ag:=by unfold eO;rw[ae (lA (wI))]
  have i:eO 24 v.Rest=some v.Rest:=by unfold eO;rw[ae (lA (wI))]
  have b:=Od (a0:=v.Kind) (a1:=v.bS) (a2:=v.bg) (a3:=v.bt) (a4:=v.ad) (z0:=0) (z1:=false) (z2:=0) (z3:=[]) (z4:=0) (l:=v.aB) (l2:=v.ag) (r:=v.Rest) (by omega) kk v.aB.length 0 (by omega);have d:=Oe (a0:=v.Kind) (a1:=v.bS) (a2:=v.bg) (a3:=v.bt) (a4:=v.ad) (z0:=0) (z1:=false) (z2:=0) (z3:=[]) (z4:=0) (l:=v.ag) (l2:=v.aB) (r:=v.Rest) (by omega) n v.ag.length 0 (by omega);have c:tk ((v.aB.length:Int),0,v.Kind,v.bS,v.bg,v.bt,v.ad,0,false,0,[],0,v.aB,v.ag,v.Rest)=_:=b;have e:tl ((v.ag.length:Int),0,v.Kind,v.bS,v.bg,v.bt,v.ad,0,false,0,[],0,v.ag,v.aB,v.Rest)=_:=d;rw[km,f,g,i];simp only[aS,ak];rw[c];simp only[ak];rw[e];simp only[ak];cases v;rfl
theorem US(b:path.length<=90000)(a:ao):tj (tw,tr,a,path)=some ((⟨0,false,0,[],0,[],[],[]⟩:I),false,tw,tr,path,path):=by
 rw[tj];unfold ud eO;rw[ae (lA (cV (by omega) (by omega)))];simp
theorem EP(b:path.length<=90000)(id:Int)(a:ao):wo (id,tw,tr,a,path)=some ((⟨0,false,0,[],0,[],[],[]⟩:I),false,tw,tr,path,path++[id]):=by
 rw[wo];unfold ud eO;rw[ae (lA (cV (by omega) (by omega)))];simp only[mB,aS,ak];rw[hQ,ae (cV)]
theorem lC(ah:x.af.length<=1000)(id:Int):gr (x,id)=some (g' x.af id):=by
 obtain⟨r,a,b⟩:=vW (t:=x) (id:=id) (by omega);rw[a,Ir b (O9 _ _)]
section
variable {tw tr:List ai}
def fD(tw tr:List ai)(a path:ao):I ⊕ ao->I×Bool×List ai×List ai×ao×ao
 |.inl u=>(u,true,tw,tr,a,path)
 |.inr p=>(⟨0,false,0,[],0,[],[],[]⟩,false,tw,tr,p,path)
def FF(tw tr:List ai)(a path:ao)(acc:List I):List I ⊕ ao->(Bool×List ai×List ai×ao×ao) ⊕ (List ai×List ai×ao×List I×ao)
 |.inl us=>.inr (tw,tr,a,acc++us,path)
 |.inr p=>.inl (false,tw,tr,p,path)
def o8(tw tr:List ai)(a path:ao):List I ⊕ ao->List I×Bool×List ai×List ai×ao×ao
 |.inl us=>(us,true,tw,tr,a,path)
 |.inr p=>([],false,tw,tr,p,path)
def Part(tw tr:List ai)(f:fK)(path:ao)(t rt:Int)(v:I):Prop:=∀(step:Int) (a:ao),rl (step,t,v,rt,tw,tr,a,path)=some (fD tw tr a path (f t v rt (path++[step])))
theorem PG{step:Int}{a:ao}{o:I ⊕ ao}(c:path.length<=90000)(h:tn (t,v,rt,tw,tr,a,path++[step])=some (fD tw tr a (path++[step]) o)):rl (step,t,v,rt,tw,tr,a,path)=some (fD tw tr a path o):=by
 rw[rl];simp only[aS,ak,I.aP];rw[ae (cV),h];have aM:di .i64 ((path++[step]).length:Int) 1=(path.length:Int):=by rw[hJ (by simp<;>omega) (by simp<;>omega)];simp
 have b:d' 0 (path.length:Int) (path++[step]).length=true:=iF.2 (by simp;omega);cases o with
 |inl u=>
  simp only[ak,I.aP,fD];simp_all
 |inr p=>
  simp only[ak,I.aP,fD];simp_all
theorem LM{f:fK}{l:List I}(ah:l.length<=50000)(h:∀y,y∈l->Part tw tr f path t rt y):∀(k i:Nat) (acc:List I) (a:ao),i+k=l.length->acc.length<=i->
 tM (t,rt,l,(l.length:Int),(i:Int),tw,tr,a,acc,path)=some (FF tw tr a path acc (eY f path t rt i (l.drop i)))
 |0,i,acc,a,c,b=>by
  rw[tM,cr,ei (by omega:l.length<=i)];simp[eY,FF]
 |k+1,i,acc,a,c,b=>by
  have aC:i<l.length:=by omega
  rw[tM,bE,ae (aH aC),aV];simp only[I.aP];rw[h _ (aZ aC ar),eD aC ar,eY];cases f t (l.getD i ar) rt (path++[(i:Int)])with
  |inr p=>rfl
  |inl u=>
   simp only[aS,ak,fD,de,I.aP];rw[bz,ae (cV),bA (by omega),LM ah h k (i+1) _ a (by omega) (by simp;omega)];cases eY f path t rt (i+1) (l.drop (i+1))with
   |inr p=>rfl
   |inl us=>simp[FF,iW]
theorem zw{f:fK}{l:List I}(ah:l.length<=50000)(h:∀y,y∈l->Part tw tr f path t rt y)(a:ao):
 oi (t,l,rt,tw,tr,a,path)=some (o8 tw tr a path (eY f path t rt 0 l)):=by
 have h0:=LM ah h l.length 0 [] a (by omega) (by simp);have b:tM (t,rt,l,(l.length:Int),0,tw,tr,a,[],path)=_:=h0;rw[oi,b,fc];cases eY f path t rt 0 l with
 |inr p=>rfl
 |inl us=>rfl
def vh(tw tr:List ai)(a path:ao)(x:ai)(v:I)(y:ai)(acc:List I):List I ⊕ ao->(Bool×List ai×List ai×ao×I×ao) ⊕ (List ai×List ai×ao×ai×I×ai×Int×Bool×Int×aj×Int×Int×Bool×Int×aj×Int×ao×List I)
 |.inl us=>.inr (tw,tr,a,x,v,y,0,false,0,[],0,v.Kind,false,0,[],0,path,acc++us)
 |.inr p=>.inl (false,tw,tr,p,⟨0,false,0,[],0,[],[],[]⟩,path)
theorem Pf{f:fK}(c:path.length<=90000)(s:x.af.length<=1000)(D:y.af.length<=1000)(ah:v.ag.length=x.af.length)(r:∀q,q∈v.ag->bC q)
 (g:∀n,n∈y.af->n.bu=true->km n.bm=some n.bm)
 (h:∀i,i<x.af.length->∀n,n∈y.af->Part tw tr f path (x.af.getD i aw).av n.av (v.ag.getD i ar)/\∀p u,f (x.af.getD i aw).av (v.ag.getD i ar) n.av p= .inl u->bC u):∀(k j:Nat) (acc:List I) (a:ao),j+k=y.af.length->acc.length<=j->
 pz (y.af,(y.af.length:Int),(j:Int),tw,tr,a,x,v,y,0,false,0,[],0,v.Kind,false,0,[],0,path,acc)=some (vh tw tr a path x v y acc (jf f x v path (y.af.drop j)))
 |0,j,acc,a,B,w=>by
  rw[pz,cr,ei (by omega:y.af.length<=j)];simp[jf,vh,I.aP]
 |k+1,j,acc,a,B,w=>by
  have aC:j<y.af.length:=by omega
  have l:=aZ aC aw;have t:=λacc a=>Pf c s D ah r g h k (j+1) acc a (by omega);rw[pz,bE,ae (aH aC),aV];simp only[aS,ak,I.aP,gw];rw[lC s,eD aC aw,jf];unfold xA g';generalize aJ:y.af.getD j aw=n at*;cases bn:fz x.af n.ad with
  |none=>
   simp only[ak,en];rw[ae trivial];cases A:n.bu with
   |false=>
    simp only[en];rw[ae trivial,EP c];rfl
   |true=>
    simp only[de];rw[bz,g n l A];simp only[ak];rw[ae (cV),bA (by omega),t _ _ (by simp;omega),ae trivial];cases jf f x v path (y.af.drop (j+1))with
    |inr p=>rfl
    |inl us=>simp[vh,iW]
  |some i=>
   obtain⟨d,_,_⟩:=hI bn;have e:i<v.ag.length:=(by omega);obtain⟨E,F⟩:=h i d n l;simp only[ak,de];rw[bz,ae (aH d),ae (aH e),aV,E n.ad a];have o:=E' (m:=x.af.getD i aw) (r _ (aZ e ar));cases z:f (x.af.getD i aw).av (v.ag.getD i ar) n.av (path++[n.ad])with
   |inr p=>
    simp only[ak,fD,I.aP,en,de,Bool.and_false];rw[ae (aH d),ae (aH e),o];simp only[ak,bW,b6];rw[PA];generalize dh (x.af.getD i aw) (v.ag.getD i ar)=b at*;cases b with
    |false=>rfl
    |true=>
     simp only[ed];rw[ae trivial,EP c];rfl
   |inl u=>
    have C:=E' (m:=n) (F _ u z);simp only[ak,fD,I.aP,en,de,CO];rw[ae (aH d),ae (aH e),o];simp only[ak,bW,b6];rw[PB];generalize dh (x.af.getD i aw) (v.ag.getD i ar)=b at*;have tail:(some [u]>>=λt110=>if room 120 (acc++t110).length then pz (y.af,(y.af.length:Int),aK .i64 (j:Int) 1,tw,tr,a,x,v,y,0,false,0,[],0,v.Kind,false,0,[],0,path,acc++t110)else none)=some (vh tw tr a path x v y acc (iW (.inl u) (jf f x v path (y.af.drop (j+1))))):=by
     simp only[aS,ak];rw[ae (cV),bA (by omega),t _ _ (by simp;omega)];cases jf f x v path (y.af.drop (j+1))with
     |inr p=>rfl
     |inl us=>simp[vh,iW]
    cases b with
    |false=>grind
    |true=>
     rw[ae rfl,C];cases G:dh n u with
     |true=>grind
     |false=>
      simp only[ak,ed,dU,en,and_self,bM];rw[EP c];rfl
def BW(tw tr:List ai)(a path:ao)(v:I)(its:List I)(acc:List bQ):List bQ ⊕ ao->(Bool×List ai×List ai×I×ao×ao) ⊕ (List ai×List ai×ao×Int×Bool×Int×aj×Int×Int×Bool×Int×aj×Int×ao×List I×List bQ)
 |.inl b=>.inr (tw,tr,a,0,false,0,[],0,v.Kind,false,0,[],0,path,its,acc++b)
 |.inr p=>.inl (false,tw,tr,⟨0,false,0,[],0,[],[],[]⟩,path,p)
theorem Pg(g:path.length<=90000)(r:x.af.length<=1000)(l:y.af.length<=1000)(ah:v.ag.length=x.af.length)(j:∀q,q∈v.ag->bC q)
 (h:∀i,i<x.af.length->jJ tw (x.af.getD i aw).av (v.ag.getD i ar)){its:List I}(d:ao):∀(k i:Nat) (acc:List bQ),i+k=x.af.length->acc.length<=i->
 n0 (x.af,(x.af.length:Int),(i:Int),tw,tr,d,v,y,0,false,0,[],0,v.Kind,false,0,[],0,path,its,acc)=some (BW tw tr d path v its acc (iu tw y path (x.af.drop i) (v.ag.drop i)))
 |0,i,acc,n,m=>by
  rw[n0,cr,ei (by omega:x.af.length<=i),iu]
  . simp[BW]
  grind
 |k+1,i,acc,n,m=>by
  have aC:i<x.af.length:=by omega
  have c:i<v.ag.length:=by omega
  have e:=λacc=>Pg g r l ah j h (its:=its) d k (i+1) acc (by omega);rw[n0,bE,ae (aH aC),aV];simp only[aS,ak,I.aP,gw];rw[lC l,eD aC aw,eD c ar,iu];have hs:=rP y.af (x.af.getD i aw).ad;have o:(g' y.af (x.af.getD i aw).ad).2=(cw y.af (x.af.getD i aw).ad).isSome:=by
   rw[<-hs];unfold g';grind
  simp only[ak];rw[o];by_cases a:(cw y.af (x.af.getD i aw).ad).isSome=true
  . rw[ae a,ae a,bA (by omega),e _ (by omega)]
  rw[al a,al a];by_cases b:(x.af.getD i aw).b8=true
  . rw[ae b,ae b,EP g];rfl
  rw[al b,al b,ae (aH c),E' (j _ (aZ c ar))];simp only[ak];cases dh (x.af.getD i aw) (v.ag.getD i ar)with
  |true=>rw[bz,ae rfl,bA (by omega),e _ (by omega)]
  |false=>
   have f:=h i aC;unfold jJ at f;rw[ae (show(!false)=true from rfl),al (show ¬false=true by simp),ae (aH c),f];simp only[ak];rw[ae (cV),bA (by omega),e _ (by simp;omega)];cases iu tw y path (x.af.drop (i+1)) (v.ag.drop (i+1))with
   |inr p=>rfl
   |inl us=>simp[BW,iW]
theorem abI{f:fK}(b:path.length<=90000)(k5:v.Kind=5)(d:x.af.length<=1000)(e:y.af.length<=1000)(ah:v.ag.length=x.af.length)(c:∀q,q∈v.ag->bC q)
 (k:∀n,n∈y.af->n.bu=true->km n.bm=some n.bm)
 (h:∀i,i<x.af.length->∀n,n∈y.af->Part tw tr f path (x.af.getD i aw).av n.av (v.ag.getD i ar)/\∀p u,f (x.af.getD i aw).av (v.ag.getD i ar) n.av p= .inl u->bC u)
 (l:∀i,i<x.af.length->jJ tw (x.af.getD i aw).av (v.ag.getD i ar))(a:ao):
 y0 (x,v,y,tw,tr,a,path)=some (fD tw tr a path (xx tw f x y v path)):=by
 have h0:=Pf b d e ah c k h y.af.length 0 [] a (by omega) (by simp);have g:pz (y.af,(y.af.length:Int),0,tw,tr,a,x,v,y,0,false,0,[],0,v.Kind,false,0,[],0,path,[])=_:=h0;rw[y0];simp only[I.aP];rw[g,fc];unfold xx;cases jf f x v path y.af with
 |inr p=>rfl
 |inl its=>
  have h1:=Pg (tr:=tr) b d e ah c l (its:=its) a x.af.length 0 [] (by omega) (by simp);have j:n0 (x.af,(x.af.length:Int),0,tw,tr,a,v,y,0,false,0,[],0,v.Kind,false,0,[],0,path,its,[])=_:=h1;simp only[aS,ak,vh,fH,I.aP];rw[j,fc,fc];cases iu tw y path x.af v.ag with
  |inr p=>rfl
  |inl r=>simp only[ak,BW,fH,k5,mR,h7,fD]
theorem adR{f:fK}(g:path.length<=90000)(k6:v.Kind=6)(j:x.af.length<=1000)(l:y.af.length<=1000)(h1:v.ag.length=1){i:Nat}(a:fz x.af v.ad=some i)
 (h:∀n,n∈y.af->Part tw tr f path (x.af.getD i aw).av n.av (v.ag.getD 0 ar))
 (c:jJ tw (x.af.getD i aw).av (v.ag.getD 0 ar))(e:ao):
 y6 (x,v,y,tw,tr,e,path)=some (fD tw tr e path (sf tw f x y v path)):=by
 obtain⟨d,_,_⟩:=hI a;have b:ay 0 v.ag.length=true:=by rw[h1];rfl
 rw[y6,lC j,lC l];unfold sf g';simp only[aS,ak,I.aP,a];cases bn:fz y.af v.ad with
 |some k=>
  obtain⟨k1,_,_⟩:=hI bn;simp only;rw[ae trivial,ae (aH d),ae b,ae (aH k1),aV,aV,show(0:Int).toNat=0 from rfl,h _ (aZ k1 aw)];cases f (x.af.getD i aw).av (v.ag.getD 0 ar) (y.af.getD k aw).av (path++[v.ad])with
  |inr p=>
   simp only[ak,fD,en,h7];rw[ae trivial]
  |inl u=>
   simp only[ak,fD,de,h7,I.aP,k6];rw[bz]
 |none=>
  simp only;rw[bz];cases y.Open with
  |false=>
   simp only[en];rw[ae trivial,US g];simp only[ak,I.aP,bW,b6,fD]
  |true=>
   unfold jJ at c;simp only[de];rw[bz,ae (aH d),ae b,aV,show(0:Int).toNat=0 from rfl,c];simp only[ak,bM,fD,k6]
def BY(tw tr:List ai)(n:Nat):Prop:=∀{v:I},bC v->∀{t rt:Int} {path:ao} (a:ao),bO tw true t v->gI tw n t v->0<=rt->rt<tr.length->path.length+n<=50000->
 tn (t,v,rt,tw,tr,a,path)=some (fD tw tr a path (ef tw tr n t v rt path))
theorem adS(J:c8 tw)(g:c8 tr){n:Nat}(ih:BY tw tr n):BY tw tr (n+1):=by
 intro v aE t rt path e M au bc Y aU;unfold gI at au;obtain⟨⟨z1,ba,bb⟩,O,Q,K⟩:=au;have SW:=J.V.fR J.T;have cz:=g.V.fR g.T;have aX:=eV v;obtain⟨⟨aP,aQ,ap,aq⟩,Z⟩:=(dO _ _ _).1 M;obtain⟨j,rfl⟩:∃j:Nat,t=(j:Int):=⟨t.toNat,by omega⟩
 obtain⟨k,rfl⟩:∃k:Nat,rt=(k:Int):=⟨rt.toNat,by omega⟩
 have ab:j<tw.length:=by omega
 have ai:k<tr.length:=by omega
 have aj:=aZ ab aG;have w:=aZ ai aG;have dm:=aq rfl;cases aE with
 |mk _ hs h1 aR aT ax C aW cZ a7 a8 a'=>
 rw[tn,ae (aH ab),zL];simp only[aS,ak,aV,I.aP];rw[aV]at ap Z O Q K;rw[ae (aH ai)];have ao:∀q,q∈(tr.getD k aG).af->q.bu=true->km q.bm=some q.bm:=λq a av=>abH ((g.T _ w).iG _ a) (by have:=g.W _ w q a av;omega);generalize aY:tw.getD j aG=x at*;generalize a6:tr.getD k aG=y at*;have N:∀{t rt:Int} {q:I},q∈v.ag->bO tw true t q->gI tw n t q->0<=rt->rt<tr.length->Part tw tr (ef tw tr n) path t rt q:=λ{t rt q} a M U a0 a1 step e=>PG (by omega) (ih (C q a) e M U a0 a1 (by simp;omega));have aK:∀{t rt:Int} {q:I},q∈v.aB->bO tw true t q->gI tw n t q->0<=rt->rt<tr.length->Part tw tr (ef tw tr n) path t rt q:=λ{t rt q} a M U a0 a1 step e=>PG (by omega) (ih (ax q a) e M U a0 a1 (by simp;omega));have F:=US (tw:=tw) (tr:=tr) (path:=path) (by omega) e;by_cases bD:x.Kind=y.Kind
 . rw[al (show ¬(!(decide (x.Kind=y.Kind)))=true by simp[bD])];have P:∀{t rt:Int},v.ag=[]->oi (t,v.ag,rt,tw,tr,e,path)=some ([],true,tw,tr,e,path):=λ{t rt} he=>by
    have:=zw (tw:=tw) (tr:=tr) (f:=ef tw tr n) (path:=path) (t:=t) (rt:=rt) (l:=v.ag) (by omega) (λq a=>by rw[he]at a;cases a) e;rw[this,he];rfl
   rcases Z with h|h|h|h|h|h|h|h|h
   . obtain⟨a1,a2,a3,a4,a5,d,D⟩:=h;have b:x.Kind=1:=(by omega);have ah:jD x y v:=⟨λh=>by omega,λh=>by omega,λh=>by omega⟩
     rw[rO bD (by omega) ah];simp only[b];simp only[P d,ak,c6,bW,b6,Int.reduceEq,de,fD];cases v;simp_all
   . obtain⟨a1,a2,a3,a4,a5,d,D,E,a9⟩:=h;have b:x.Kind=2:=(by omega);by_cases ah:y.bJ<=v.bg/\v.bg<=y.bN
     . rw[rO bD (by omega) (show jD x y v from⟨λ_=>ah,λh=>by omega,λh=>by omega⟩)];simp only[b];simp only[P d,ah.1,ah.2,ak,c6,dc,bW,b6,bM,Int.reduceEq,de,ed,fD];cases v;simp_all
     . rw[wJ bD (by omega) (show ¬jD x y v fromλh=>ah (h.1 b))];have L:(bif decide (y.bJ<=v.bg)then decide (v.bg<=y.bN)else false)=false:=by
        by_cases c:y.bJ<=v.bg<;>simp[c];omega
       simp only[b,L];simp only[F,ak,dc,bM,en,fD,I.aP]
   . obtain⟨a1,a2,a3,a4,a5,d,D,E⟩:=h;have b:x.Kind=3:=(by omega);by_cases ah:(v.bt.length:Int)<=y.Max
     . rw[rO bD (by omega) (show jD x y v from⟨λh=>by omega,λ_=>ah,λh=>by omega⟩)];simp only[b];simp only[P d,ah,ak,c6,dc,bW,b6,bM,Int.reduceEq,de,ed,fD];cases v;simp_all
     . rw[wJ bD (by omega) (show ¬jD x y v fromλh=>ah (h.2.1 b))];simp only[b];simp only[F,ah,ak,dc,c6,bM,b6,Int.reduceEq,bW,en,fD,I.aP]
   . obtain⟨a1,a2,a3,a4,a5,d,D,E⟩:=h;have b:x.Kind=4:=(by omega);obtain⟨r,Y,_,aM⟩:=p0 (t:=y) v.ad (by have:=(g.T _ w).1;have:=dx (eI reachBytes);omega);have H:r.2=true↔∃s,s∈y.bj/\s.ad=v.ad:=by
      rcases aM with⟨q,o,X,_,rfl⟩|⟨q,rfl⟩
      . exact⟨λ_=>⟨_,aZ o dI,X⟩,λ_=>rfl⟩
      . constructor
        . intro h;simp at h
        intro a;obtain⟨s,s1,aN⟩:=a;obtain⟨i,C,rfl⟩:=e3 s1;exact absurd aN (by have:=q i C;rwa [dd C]at this)
     by_cases ah:(∃s,s∈y.bj/\s.ad=v.ad)\/y.Open=true
     . rw[rO bD (by omega) (show jD x y v from⟨λh=>by omega,λh=>by omega,λ_=>ah⟩)];have L:(bif r.2 then true else y.Open)=true:=by
        rcases ah with ah|ah
        . rw[H.2 ah];rfl
        . rw[ah];cases r.2<;>rfl
       simp only[b,Y];simp only[P d,L,ak,c6,dc,bW,b6,bM,Int.reduceEq,de,fD];cases v;simp_all
     . rw[wJ bD (by omega) (show ¬jD x y v fromλh=>ah (h.2.2 b))];have L:(bif r.2 then true else y.Open)=false:=by
        cases aA:r.2 with
        |true=>exact absurd (.inl (H.1 aA)) ah
        |false=>
         cases ay:y.Open with
         |true=>exact absurd (.inr ay) ah
         |false=>rfl
       simp only[b,Y];simp only[F,L,ak,dc,c6,bM,b6,Int.reduceEq,bW,en,fD,I.aP]
   . obtain⟨a1,a2,a3,a4,a5,d,D,E⟩:=h;have b:x.Kind=5:=(by omega);obtain⟨am,aF⟩:=SW.A _ aj (.inl (by omega));obtain⟨aI,aJ⟩:=cz.A _ w (.inl (by omega));obtain⟨f1,f2⟩:=gV.1 E
     have H:=abI (tw:=tw) (tr:=tr) (f:=ef tw tr n) (path:=path) (by omega) (x:=x) (y:=y) a1 (by omega) (by omega) f1 C ao (λi G q a=>by
      have z:=aZ (by omega:i<v.ag.length) ar;obtain⟨B,o⟩:=g.gy.mem w a;exact⟨N z (f2 i G) (O b i G) B o,λp u aC=>(O' J g n (C _ z) (f2 i G) (O b i G) B o aC).1⟩) (λi G=>by
      have z:=aZ (by omega:i<v.ag.length) ar
      exact R5 J (C _ z) _ (f2 i G) (O b i G).len) e
     rw[GV bD b];simp only[b,H,ak,c6,dc,bW,b6,bM,Int.reduceEq,I.aP]
   . obtain⟨a1,a2,a3,a4,a5,d⟩:=h;have b:x.Kind=6:=(by omega);obtain⟨am,aF⟩:=SW.A _ aj (.inr (by omega));obtain⟨aI,aJ⟩:=cz.A _ w (.inr (by omega));cases bn:cw x.af v.ad with
     |none=>rw[bn]at d;cases d.2.1
     |some m=>
      rw[bn]at d;obtain⟨b1,b2,b3⟩:=d;have S:=rP x.af v.ad;rw[bn]at S;cases R:fz x.af v.ad with
      |none=>rw[R]at S;cases S
      |some i=>
      obtain⟨d1,d2,_⟩:=hI R;obtain⟨d3,d4⟩:=jT bn;have em:x.af.getD i aw=m:=qm am (aZ d1 aw) d3 (by rw[d2,d4]);have z:=aZ (by omega:0<v.ag.length) ar;have aa:=cD.1 b3 _ z
      have H:=adR (tw:=tw) (tr:=tr) (f:=ef tw tr n) (path:=path) (by omega) (x:=x) (y:=y) a1 (by omega) (by omega) b2 R (λq a=>by
       obtain⟨B,o⟩:=g.gy.mem w a;rw[em]
       exact N z aa (Q b _ bn _ z) B o) (by rw[em];exact R5 J (C _ z) _ aa (Q b _ bn _ z).len) e
      rw[GW bD b];simp only[b,H,ak,c6,dc,bW,b6,bM,Int.reduceEq,I.aP]
   . obtain⟨a1,a2,a3,a4,a5,d,D,E,a9⟩:=h;have b:x.Kind=7:=(by omega);obtain⟨B,o⟩:=g.gy.elem w (by omega);have a:=zw (tw:=tw) (tr:=tr) (f:=ef tw tr n) (path:=path) (t:=x.aD) (rt:=y.aD) (l:=v.ag) (by omega) (λq a=>N a (cD.1 a9 q a) ((K (by omega)).1 q a) B o) e;rw[GX bD b];unfold xy;by_cases ah:(v.ag.length:Int)<=y.Max
     . rw[ae ah];simp only[b,a,ah,ak,c6,dc,bW,b6,bM,Int.reduceEq,de];cases eY (ef tw tr n) path x.aD y.aD 0 v.ag with
       |inr p=>rfl
       |inl us=>simp only[o8,h7,fD,de,bW,b6,a1,a2,a3,a4,a5]
     . rw[al ah];simp only[b];simp only[F,ah,ak,dc,c6,bM,b6,Int.reduceEq,bW,en,fD,I.aP]
   . obtain⟨a1,a2,a3,a4,a5,d,D,E,a9,an,aO⟩:=h;have b:x.Kind=8:=(by omega);obtain⟨B,o⟩:=g.gy.elem w (by omega);obtain⟨X,aL⟩:=g.gy.key w (by omega);have a:=zw (tw:=tw) (tr:=tr) (f:=ef tw tr n) (path:=path) (t:=x.aD) (rt:=y.aD) (l:=v.ag) (by omega) (λq a=>N a (cD.1 an q a) ((K (by omega)).1 q a) B o) e;have az:=zw (tw:=tw) (tr:=tr) (f:=ef tw tr n) (path:=path) (t:=x.Key) (rt:=y.Key) (l:=v.aB) (by omega) (λq a=>aK a (cD.1 a9 q a) ((K (by omega)).2 q a) X aL) e;rw[GY bD b];unfold xz;by_cases ah:(v.ag.length:Int)<=y.Max
     . rw[ae ah];simp only[b,az,ah,ak,c6,dc,bW,b6,bM,Int.reduceEq,de];cases eY (ef tw tr n) path x.Key y.Key 0 v.aB with
       |inr p=>rfl
       |inl ks=>
        simp only[o8,mR,de,bW,b6,a,ak];cases eY (ef tw tr n) path x.aD y.aD 0 v.ag with
        |inr p=>rfl
        |inl us=>simp only[o8,h7,fD,de,bW,b6,a1,a2,a3,a4,a5]
     . rw[al ah];simp only[b];simp only[F,ah,ak,dc,c6,bM,b6,Int.reduceEq,bW,en,fD,I.aP]
   . obtain⟨a1,a2,a3,a4,a5,d,D,E,a9⟩:=h;have b:x.Kind=9:=(by omega);obtain⟨B,o⟩:=g.gy.elem w (by omega);have a:=zw (tw:=tw) (tr:=tr) (f:=ef tw tr n) (path:=path) (t:=x.aD) (rt:=y.aD) (l:=v.ag) (by omega) (λq a=>N a (cD.1 a9 q a) ((K (by omega)).1 q a) B o) e;rw[GZ bD b];unfold AW;simp only[b,a,ak,c6,dc,bW,b6,bM,Int.reduceEq,de];cases eY (ef tw tr n) path x.aD y.aD 0 v.ag with
     |inr p=>rfl
     |inl us=>simp only[o8,h7,fD,de,bW,b6,a1,a2,a3,a4,a5]
 . rw[ae (show(!(decide (x.Kind=y.Kind)))=true by simp[bD]),Kh bD,F];simp only[ak,I.aP,fD]
theorem adT:BY tw tr 0:=by
 intro v _ _ _ _ _ _ h;cases h
theorem Ph(b:c8 tw)(a:c8 tr):∀n,BY tw tr n
 |0=>adT
 |n+1=>adS b a (Ph b a n)
end
def hA:I ⊕ ao->dE
 |.inl u=>⟨u,[],true⟩
 |.inr p=>⟨⟨0,false,0,[],0,[],[],[]⟩,p,false⟩
theorem C0(a:path.length<=90000):kT path=some (hA (.inr path)):=by
 rw[kT,ae (cV),fH];rfl
theorem Ao(a:path.length<=90000)(step:Int):q2 (path,step)=some (path++[step]):=by
 rw[q2,ae (cV),fH];simp only[aS,ak];rw[ae (cV)]
theorem GS{m:aR}(b:bC m.bm)(v:I):wm (m,v)=some (dh m v):=by
 rw[wm];simp only[I.aP];unfold dh;cases d:m.bu with
 |false=>rfl
 |true=>
  obtain⟨r,c,a⟩:=PX b v;rw[ae rfl,c];by_cases e:m.bm=v
  . have:=a.2 e;subst this;simp[e]
  . have:r=false:=by
     cases r with
     |false=>rfl
     |true=>exact absurd (a.1 rfl) e
    subst this;simp[e]
theorem lD(ah:x.af.length<=1000)(id:Int):fw (x,id)=some (g' x.af id):=by
 obtain⟨r,a,b⟩:=Ah (t:=x) (id:=id) (by omega);rw[a,Ir b (O9 _ _)]
section
variable {tw tr:List ai}
def o9(tw tr:List ai)(f:fK)(path:ao)(t rt:Int)(v:I):Prop:=∀step:Int,nj ((⟨tw⟩:aO),t,v,(⟨tr⟩:aO),rt,path++[step])=some (hA (f t v rt (path++[step])))
def BU(tw tr:List ai)(path:ao)(x y:ai)(v:I)(acc:List I):List I ⊕ ao->dE ⊕ (ao×List ai×I×List ai×Int×Bool×Int×aj×Int×Bool×ai×ai×Int×Bool×Int×aj×Int×List bQ×List I)
 |.inl us=>.inr (path,tw,v,tr,0,false,0,[],0,false,x,y,v.Kind,v.bS,v.bg,v.bt,v.ad,v.Rest,acc++us)
 |.inr p=>.inl (hA (.inr p))
theorem Pj{f:fK}(a:path.length<=90000)(ah:v.aB.length<=50000)(h:∀q,q∈v.aB->o9 tw tr f path x.Key y.Key q):∀(k i:Nat) (acc:List I),i+k=v.aB.length->acc.length<=i->
 oa (path,(i:Int),tw,v,tr,0,false,0,[],0,false,x,y,v.Kind,v.bS,v.bg,v.bt,v.ad,v.Rest,acc)=some (BU tw tr path x y v acc (eY f path x.Key y.Key i (v.aB.drop i)))
 |0,i,acc,c,b=>by
  rw[oa,cr,ei (by omega:v.aB.length<=i)];simp[eY,BU,I.aP]
 |k+1,i,acc,c,b=>by
  have aC:i<v.aB.length:=by omega
  rw[oa,bE,ae (aH aC),aV,Ao a];simp only[I.aP,aS,ak];rw[h _ (aZ aC ar),eD aC ar,eY];cases f x.Key (v.aB.getD i ar) y.Key (path++[(i:Int)])with
  |inr p=>rfl
  |inl u=>
   simp only[ak,hA,de];rw[bz,ae (cV),bA (by omega),Pj a ah h k (i+1) _ (by omega) (by simp;omega)];cases eY f path x.Key y.Key (i+1) (v.aB.drop (i+1))with
   |inr p=>rfl
   |inl us=>simp[BU,iW]
def BT(v:I)(ks acc:List I):List I ⊕ ao->dE ⊕ (Int×Bool×Int×aj×Int×Bool×Int×Bool×Int×aj×Int×List bQ×List I×List I)
 |.inl us=>.inr (0,false,0,[],0,false,v.Kind,v.bS,v.bg,v.bt,v.ad,v.Rest,ks,acc++us)
 |.inr p=>.inl (hA (.inr p))
theorem Pa{f:fK}(a:path.length<=90000)(ah:v.ag.length<=50000)(h:∀q,q∈v.ag->o9 tw tr f path x.aD y.aD q):∀(k i:Nat) (acc:List I),i+k=v.ag.length->acc.length<=i->
 ob (path,(i:Int),tw,v,tr,0,false,0,[],0,false,x,y,v.Kind,v.bS,v.bg,v.bt,v.ad,v.Rest,ks,acc)=some (BT v ks acc (eY f path x.aD y.aD i (v.ag.drop i)))
 |0,i,acc,c,b=>by
  rw[ob,cr,ei (by omega:v.ag.length<=i)];simp[eY,BT]
 |k+1,i,acc,c,b=>by
  have aC:i<v.ag.length:=by omega
  rw[ob,bE,ae (aH aC),aV,Ao a];simp only[I.aP,aS,ak];rw[h _ (aZ aC ar),eD aC ar,eY];cases f x.aD (v.ag.getD i ar) y.aD (path++[(i:Int)])with
  |inr p=>rfl
  |inl u=>
   simp only[ak,hA,de];rw[bz,ae (cV),bA (by omega),Pa a ah h k (i+1) _ (by omega) (by simp;omega)];cases eY f path x.aD y.aD (i+1) (v.ag.drop (i+1))with
   |inr p=>rfl
   |inl us=>simp[BT,iW]
def mG(f:fK)(x y:ai)(v:I)(path:ao):I ⊕ ao:=
 mR (λks=>h7 (λa=>⟨v.Kind,v.bS,v.bg,v.bt,v.ad,ks,a,v.Rest⟩) (eY f path x.aD y.aD 0 v.ag)) (eY f path x.Key y.Key 0 v.aB)
theorem uk{f:fK}(a:path.length<=90000)(e:v.aB.length<=50000)(ah:v.ag.length<=50000)(d:∀q,q∈v.aB->o9 tw tr f path x.Key y.Key q)(h:∀q,q∈v.ag->o9 tw tr f path x.aD y.aD q):
 (∃p,mG f x y v path= .inr p/\oa (path,0,tw,v,tr,0,false,0,[],0,false,x,y,v.Kind,v.bS,v.bg,v.bt,v.ad,v.Rest,[])=some (.inl (hA (.inr p))))\/
 ∃ks,oa (path,0,tw,v,tr,0,false,0,[],0,false,x,y,v.Kind,v.bS,v.bg,v.bt,v.ad,v.Rest,[])=some (.inr (path,tw,v,tr,0,false,0,[],0,false,x,y,v.Kind,v.bS,v.bg,v.bt,v.ad,v.Rest,ks))/\
  ((∃p,mG f x y v path= .inr p/\ob (path,0,tw,v,tr,0,false,0,[],0,false,x,y,v.Kind,v.bS,v.bg,v.bt,v.ad,v.Rest,ks,[])=some (.inl (hA (.inr p))))\/
  ∃us,mG f x y v path= .inl ⟨v.Kind,v.bS,v.bg,v.bt,v.ad,ks,us,v.Rest⟩/\ob (path,0,tw,v,tr,0,false,0,[],0,false,x,y,v.Kind,v.bS,v.bg,v.bt,v.ad,v.Rest,ks,[])=some (.inr (0,false,0,[],0,false,v.Kind,v.bS,v.bg,v.bt,v.ad,v.Rest,ks,us))):=by
 have h0:=Pj a e d v.aB.length 0 [] (by omega) (by simp);have b:oa (path,0,tw,v,tr,0,false,0,[],0,false,x,y,v.Kind,v.bS,v.bg,v.bt,v.ad,v.Rest,[])=_:=h0;rw[b,fc];unfold mG;cases eY f path x.Key y.Key 0 v.aB with
 |inr p=>exact .inl ⟨p,rfl,rfl⟩
 |inl ks=>
  have h1:=Pa (tw:=tw) (tr:=tr) a ah h (ks:=ks) v.ag.length 0 [] (by omega) (by simp);have c:ob (path,0,tw,v,tr,0,false,0,[],0,false,x,y,v.Kind,v.bS,v.bg,v.bt,v.ad,v.Rest,ks,[])=_:=h1;refine .inr ⟨ks,by simp[BU],?_⟩;rw[c,fc];cases eY f path x.aD y.aD 0 v.ag with
  |inr p=>exact .inl ⟨p,rfl,rfl⟩
  |inl us=>exact .inr ⟨us,rfl,by simp[BT]⟩
def vi(tw:List ai)(path:ao)(x y:ai)(v:I)(acc:List I):List I ⊕ ao->dE ⊕ (ao×List ai×ai×I×ai×Int×Bool×Int×aj×Int×Bool×Int×Bool×Int×aj×Int×List I)
 |.inl us=>.inr (path,tw,x,v,y,0,false,0,[],0,false,v.Kind,false,0,[],0,acc++us)
 |.inr p=>.inl (hA (.inr p))
theorem Pk{f:fK}{path:ao}(t:path.length<=80000)(m:x.af.length<=1000)(z:y.af.length<=1000)(ah:v.ag.length=x.af.length)
 (d:∀n,n∈x.af->bC n.bm)(e:∀n,n∈y.af->bC n.bm)
 (h:∀i,i<x.af.length->∀n,n∈y.af->o9 tw tr f path (x.af.getD i aw).av n.av (v.ag.getD i ar)):∀(k j:Nat) (acc:List I),j+k=y.af.length->acc.length<=j->
 p7 (path,(j:Int),tw,x,v,tr,y,0,false,0,[],0,false,v.Kind,false,0,[],0,acc)=some (vi tw path x y v acc (jf f x v path (y.af.drop j)))
 |0,j,acc,s,q=>by
  rw[p7,cr,ei (by omega:y.af.length<=j)];simp[jf,vi,I.aP]
 |k+1,j,acc,s,q=>by
  have aC:j<y.af.length:=by omega
  have g:=aZ aC aw;have o:=λacc=>Pk t m z ah d e h k (j+1) acc (by omega);rw[p7,bE,ae (aH aC),aV];simp only[aS,ak,I.aP,gw];rw[Ao (by omega),lD m,eD aC aw,jf];unfold xA g';have r:=e _ g;generalize aJ:y.af.getD j aw=n at*;have M:=C0 (path:=path++[n.ad]) (by simp;omega);cases bn:fz x.af n.ad with
  |none=>
   simp only[ak,en,ed];cases D:n.bu with
   |false=>
    rw[ae (show(!false)=true from rfl),M,al (show ¬false=true by simp)];rfl
   |true=>
    rw[al (show ¬(!true)=true by simp),ae trivial,ae (cV),bA (by omega),o _ (by simp;omega),ae (show true=true from rfl)];cases jf f x v path (y.af.drop (j+1))with
    |inr p=>rfl
    |inl us=>simp[vi,iW]
  |some i=>
   obtain⟨a,_,_⟩:=hI bn;have c:i<v.ag.length:=(by omega);have A:=h i a n g;simp only[ak,de,dU];rw[bz,bz,ae (aH a),ae (aH c),aV,A n.ad];have l:=GS (d _ (aZ a aw)) (v.ag.getD i ar);cases C:f (x.af.getD i aw).av (v.ag.getD i ar) n.av (path++[n.ad])with
   |inr p=>
    simp only[ak,hA,I.aP,en,de,Bool.and_false];rw[ae (aH a),ae (aH c),l];simp only[ak,bW,b6];rw[PA];generalize dh (x.af.getD i aw) (v.ag.getD i ar)=b at*;cases b with
    |false=>rfl
    |true=>
     simp only[ed];rw[ae trivial,M];rfl
   |inl u=>
    have w:=GS r u;simp only[ak,hA,I.aP,en,de,CO];rw[ae (aH a),ae (aH c),l];simp only[ak,bW,b6];rw[PB];generalize dh (x.af.getD i aw) (v.ag.getD i ar)=b at*;have tail:(some [u]>>=λt110=>if room 120 (acc++t110).length then p7 (path,aK .i64 (j:Int) 1,tw,x,v,tr,y,0,false,0,[],0,false,v.Kind,false,0,[],0,acc++t110)else none)=some (vi tw path x y v acc (iW (.inl u) (jf f x v path (y.af.drop (j+1))))):=by
     simp only[aS,ak];rw[ae (cV),bA (by omega),o _ (by simp;omega)];cases jf f x v path (y.af.drop (j+1))with
     |inr p=>rfl
     |inl us=>simp[vi,iW]
    cases b with
    |false=>
     simp only[bW,b6,ak,dU,false_and];exact tail
    |true=>
     rw[ae rfl,w];cases B:dh n u with
     |true=>
      simp only[bW,b6,ak,dU,ed,de,oS,Bool.true_eq_false];exact tail
     |false=>
      simp only[ak,ed,dU,en,and_self,bM];rw[M];rfl
def BX(v:I)(its:List I)(acc:List bQ):List bQ ⊕ ao->dE ⊕ (Int×Bool×Int×aj×Int×Bool×Int×Bool×Int×aj×Int×List I×List bQ)
 |.inl a=>.inr (0,false,0,[],0,false,v.Kind,false,0,[],0,its,acc++a)
 |.inr p=>.inl (hA (.inr p))
theorem Pl(o:path.length<=80000)(q:x.af.length<=1000)(g:y.af.length<=1000)(ah:v.ag.length=x.af.length)(e:∀n,n∈x.af->bC n.bm)
 (h:∀i,i<x.af.length->jL tw (v.ag.getD i ar) (x.af.getD i aw).av){its:List I}:∀(k i:Nat) (acc:List bQ),i+k=x.af.length->acc.length<=i->
 n4 (path,(i:Int),tw,x,v,y,0,false,0,[],0,false,v.Kind,false,0,[],0,its,acc)=some (BX v its acc (iu tw y path (x.af.drop i) (v.ag.drop i)))
 |0,i,acc,l,j=>by
  rw[n4,cr,ei (by omega:x.af.length<=i),iu]
  . simp[BX]
  . intros;simp_all
 |k+1,i,acc,l,j=>by
  have aC:i<x.af.length:=by omega
  have c:i<v.ag.length:=by omega
  have d:=λacc=>Pl o q g ah e h (its:=its) k (i+1) acc (by omega);rw[n4,bE,ae (aH aC),aV];simp only[aS,ak,I.aP,gw];rw[lD g,eD aC aw,eD c ar,iu];have hs:=rP y.af (x.af.getD i aw).ad;have m:(g' y.af (x.af.getD i aw).ad).2=(cw y.af (x.af.getD i aw).ad).isSome:=by
   rw[<-hs];unfold g';cases fz y.af (x.af.getD i aw).ad<;>rfl
  simp only[ak];rw[m];by_cases a:(cw y.af (x.af.getD i aw).ad).isSome=true
  . rw[ae a,ae a,bA (by omega),d _ (by omega)]
  rw[al a,al a];by_cases b:(x.af.getD i aw).b8=true
  . rw[ae b,ae b,Ao (by omega)];simp only[ak];rw[C0 (by simp;omega)];rfl
  rw[al b,al b,ae (aH c),GS (e _ (aZ aC aw))];simp only[ak];cases dh (x.af.getD i aw) (v.ag.getD i ar)with
  |true=>
   rw[bz,ae rfl,bA (by omega),d _ (by omega)]
  |false=>
   have f:=h i aC;unfold jL at f;rw[ae (show(!false)=true from rfl),al (show ¬false=true by simp),ae (aH c),f];simp only[ak];rw[ae (cV),bA (by omega),d _ (by simp;omega)];cases iu tw y path (x.af.drop (i+1)) (v.ag.drop (i+1))with
   |inr p=>rfl
   |inl us=>simp[BX,iW]
theorem abJ{f:fK}(b:path.length<=80000)(k5:v.Kind=5)(c:x.af.length<=1000)(d:y.af.length<=1000)(ah:v.ag.length=x.af.length)
 (a:∀n,n∈x.af->bC n.bm)(e:∀n,n∈y.af->bC n.bm)
 (h:∀i,i<x.af.length->∀n,n∈y.af->o9 tw tr f path (x.af.getD i aw).av n.av (v.ag.getD i ar))
 (k:∀i,i<x.af.length->jL tw (v.ag.getD i ar) (x.af.getD i aw).av):
 za ((⟨tw⟩:aO),x,v,(⟨tr⟩:aO),y,path)=some (hA (xx tw f x y v path)):=by
 have h0:=Pk b c d ah a e h y.af.length 0 [] (by omega) (by simp);have g:p7 (path,0,tw,x,v,tr,y,0,false,0,[],0,false,v.Kind,false,0,[],0,[])=_:=h0;rw[za];simp only[I.aP];rw[g,fc];unfold xx;cases jf f x v path y.af with
 |inr p=>rfl
 |inl its=>
  have h1:=Pl (tw:=tw) b c d ah a k (its:=its) x.af.length 0 [] (by omega) (by simp);have j:n4 (path,0,tw,x,v,y,0,false,0,[],0,false,v.Kind,false,0,[],0,its,[])=_:=h1;simp only[aS,ak,vi,fH,I.aP];rw[j,fc,fc];cases iu tw y path x.af v.ag with
  |inr p=>rfl
  |inl r=>simp only[ak,BX,fH,k5,mR,h7,hA,oz,I.aP]
theorem ac6{f:fK}(j:path.length<=80000)(k6:v.Kind=6)(e:x.af.length<=1000)(g:y.af.length<=1000)(h1:v.ag.length=1){i:Nat}(a:fz x.af v.ad=some i)
 (h:∀n,n∈y.af->o9 tw tr f path (x.af.getD i aw).av n.av (v.ag.getD 0 ar))
 (c:jL tw (v.ag.getD 0 ar) (x.af.getD i aw).av):
 zg ((⟨tw⟩:aO),x,v,(⟨tr⟩:aO),y,path)=some (hA (sf tw f x y v path)):=by
 obtain⟨d,_,_⟩:=hI a;have b:ay 0 v.ag.length=true:=by rw[h1];rfl
 rw[zg,lD e,lD g];unfold sf g';simp only[aS,ak,I.aP,a];cases bn:fz y.af v.ad with
 |some k=>
  obtain⟨k1,_,_⟩:=hI bn;simp only[de,dU];rw[bz,bz,ae (aH d),ae b,ae (aH k1),aV,aV,show(0:Int).toNat=0 from rfl,Ao (by omega)];simp only[ak];rw[h _ (aZ k1 aw)];cases f (x.af.getD i aw).av (v.ag.getD 0 ar) (y.af.getD k aw).av (path++[v.ad])with
  |inr p=>
   simp only[ak,hA,en,h7,I.aP];rw[ae trivial]
  |inl u=>
   simp only[ak,hA,de,h7,I.aP,k6,oz];rw[bz]
 |none=>
  simp only[en,ed];cases y.Open with
  |false=>
   rw[ae (show(!false)=true from rfl),C0 (by omega)];simp only[ak,I.aP,bW,b6,hA]
  |true=>
   unfold jL at c;rw[al (show ¬(!true)=true by simp),ae trivial,ae (aH d),ae b,aV,show(0:Int).toNat=0 from rfl,c];simp only[ak,bM,hA,k6,oz,I.aP]
def x0(tw tr:List ai)(n:Nat):Prop:=∀{v:I},bC v->wt v<=2147483648->∀{t rt:Int} {path:ao},bO tw true t v->gI tw n t v->0<=rt->rt<tr.length->path.length+n<=50000->
 nj ((⟨tw⟩:aO),t,v,(⟨tr⟩:aO),rt,path)=some (hA (ef tw tr n t v rt path))
theorem abK(Q:c8 tw)(o:c8 tr){n:Nat}(ih:x0 tw tr n):x0 tw tr (n+1):=by
 intro v aJ a' t rt path L au bi Z a7;unfold gI at au;obtain⟨⟨z1,bf,bh⟩,ab,ai,J⟩:=au;have SW:=Q.V.fR Q.T;have cz:=o.V.fR o.T;have ba:=eV v;obtain⟨⟨aW,aX,aA,aC⟩,aj⟩:=(dO _ _ _).1 L;obtain⟨j,rfl⟩:∃j:Nat,t=(j:Int):=⟨t.toNat,by omega⟩
 obtain⟨k,rfl⟩:∃k:Nat,rt=(k:Int):=⟨rt.toNat,by omega⟩
 have an:j<tw.length:=by omega
 have ao:k<tr.length:=by omega
 have S:=aZ an aG;have w:=aZ ao aG;have dm:=aC rfl;cases aJ with
 |mk _ hs h1 aY a6 aE G a8 cZ bc bd be=>
 rw[nj,ae (aH an),zL];simp only[aS,ak,aV,I.aP];rw[aV]at aA aj ab ai J;rw[ae (aH ao)];have ay:=(Q.T _ S).iG;have az:=(o.T _ w).iG;generalize bb:tw.getD j aG=x at*;generalize O:tr.getD k aG=y at*;have aa:∀y,y∈v.ag->wt y<=2147483648:=λy O=>by have:=e2 O;omega
 have aT:∀y,y∈v.aB->wt y<=2147483648:=λy O=>by have:=e2 O;omega
 have M:∀{t rt:Int} {q:I},q∈v.ag->bO tw true t q->gI tw n t q->0<=rt->rt<tr.length->o9 tw tr (ef tw tr n) path t rt q:=λ{t rt q} a L W a0 a1 step=>ih (G q a) (aa q a) L W a0 a1 (by simp;omega);have aO:∀{t rt:Int} {q:I},q∈v.aB->bO tw true t q->gI tw n t q->0<=rt->rt<tr.length->o9 tw tr (ef tw tr n) path t rt q:=λ{t rt q} a L W a0 a1 step=>ih (aE q a) (aT q a) L W a0 a1 (by simp;omega);have F:=C0 (path:=path) (by omega);have E:(kT path).bind (λr=>some (⟨r.Value,r.Path,r.cj⟩:dE))=some (hA (.inr path)):=by rw[F];rfl
 by_cases bD:x.Kind=y.Kind
 . rw[al (show ¬(!(decide (x.Kind=y.Kind)))=true by simp[bD])];have P:v.aB=[]->v.ag=[]->mG (ef tw tr n) x y v path= .inl v:=λaM K=>by
    unfold mG;cases v;simp_all [eY,mR,h7]
   rcases aj with h|h|h|h|h|h|h|h|h
   case' inl=>
    obtain⟨a1,a2,a3,a4,a5,d,z⟩:=h;have b:x.Kind=1:=(by omega);have ah:jD x y v:=⟨λh=>by omega,λh=>by omega,λh=>by omega⟩
    have D:=uk (tw:=tw) (tr:=tr) (f:=ef tw tr n) (path:=path) (by omega) (x:=x) (y:=y) (v:=v) (by omega) (by omega) (λq a=>by rw[a5]at a;cases a) (λq a=>by rw[d]at a;cases a);rw[rO bD (by omega) ah,<-P a5 d];simp only[b,Int.reduceEq,c6,dc,dU,ed,bW,b6,bM]
   case' inr.inl=>
    obtain⟨a1,a2,a3,a4,a5,d,z,C,a9⟩:=h;have b:x.Kind=2:=(by omega);by_cases ah:y.bJ<=v.bg/\v.bg<=y.bN
    case' neg=>
     have g:(bif decide (v.bg<y.bJ)then true else decide (y.bN<v.bg))=true:=by
      by_cases c:v.bg<y.bJ<;>simp[c];omega
     rw[wJ bD (by omega) (show ¬jD x y v fromλh=>ah (h.1 b))];simp only[b,g,Int.reduceEq,c6,dc,dU,ed,bW,b6,bM];exact E
    case' pos=>
     have g:(bif decide (v.bg<y.bJ)then true else decide (y.bN<v.bg))=false:=by
      have av:¬v.bg<y.bJ:=(by omega);have ax:¬y.bN<v.bg:=(by omega);simp[av,ax]
     have D:=uk (tw:=tw) (tr:=tr) (f:=ef tw tr n) (path:=path) (by omega) (x:=x) (y:=y) (v:=v) (by omega) (by omega) (λq a=>by rw[a5]at a;cases a) (λq a=>by rw[d]at a;cases a);rw[rO bD (by omega) (show jD x y v from⟨λ_=>ah,λh=>by omega,λh=>by omega⟩),<-P a5 d];simp only[b,g,Int.reduceEq,c6,dc,dU,ed,bW,b6,bM]
   case' inr.inr.inl=>
    obtain⟨a1,a2,a3,a4,a5,d,z,C⟩:=h;have b:x.Kind=3:=(by omega);by_cases ah:(v.bt.length:Int)<=y.Max
    case' neg=>
     have g:decide (y.Max<(v.bt.length:Int))=true:=j5 (by omega);rw[wJ bD (by omega) (show ¬jD x y v fromλh=>ah (h.2.1 b))];simp only[b,g,Int.reduceEq,c6,dc,dU,ed,bW,b6,bM];exact E
    case' pos=>
     have g:decide (y.Max<(v.bt.length:Int))=false:=uS (by omega);have D:=uk (tw:=tw) (tr:=tr) (f:=ef tw tr n) (path:=path) (by omega) (x:=x) (y:=y) (v:=v) (by omega) (by omega) (λq a=>by rw[a5]at a;cases a) (λq a=>by rw[d]at a;cases a);rw[rO bD (by omega) (show jD x y v from⟨λh=>by omega,λ_=>ah,λh=>by omega⟩),<-P a5 d];simp only[b,g,Int.reduceEq,c6,dc,dU,ed,bW,b6,bM]
   case' inr.inr.inr.inl=>
    obtain⟨a1,a2,a3,a4,a5,d,z,C⟩:=h;have b:x.Kind=4:=(by omega);obtain⟨r,_,Z,aQ⟩:=p0 (t:=y) v.ad (by have:=(o.T _ w).1;have:=dx (eI reachBytes);omega);have H:r.2=true↔∃s,s∈y.bj/\s.ad=v.ad:=by
     rcases aQ with⟨q,l,Y,_,rfl⟩|⟨q,rfl⟩
     . exact⟨λ_=>⟨_,aZ l dI,Y⟩,λ_=>rfl⟩
     . constructor
       . intro h;simp at h
       intro a;obtain⟨s,s1,aR⟩:=a;obtain⟨i,G,rfl⟩:=e3 s1;exact absurd aR (by have:=q i G;rwa [dd G]at this)
    by_cases ah:(∃s,s∈y.bj/\s.ad=v.ad)\/y.Open=true
    case' neg=>
     have g:(bif (!r.2)then(!y.Open)else false)=true:=by
      cases aI:r.2 with
      |true=>exact absurd (.inl (H.1 aI)) ah
      |false=>
       cases aF:y.Open with
       |true=>exact absurd (.inr aF) ah
       |false=>rfl
     rw[wJ bD (by omega) (show ¬jD x y v fromλh=>ah (h.2.2 b))];simp only[b,Z,g,ak,Int.reduceEq,c6,dc,dU,ed,bW,b6,bM];exact E
    case' pos=>
     have g:(bif (!r.2)then(!y.Open)else false)=false:=by
      rcases ah with ah|ah
      . rw[H.2 ah];rfl
      . rw[ah];cases r.2<;>rfl
     have D:=uk (tw:=tw) (tr:=tr) (f:=ef tw tr n) (path:=path) (by omega) (x:=x) (y:=y) (v:=v) (by omega) (by omega) (λq a=>by rw[a5]at a;cases a) (λq a=>by rw[d]at a;cases a);rw[rO bD (by omega) (show jD x y v from⟨λh=>by omega,λh=>by omega,λ_=>ah⟩),<-P a5 d];simp only[b,Z,g,ak,Int.reduceEq,c6,dc,dU,ed,bW,b6,bM]
   case' inr.inr.inr.inr.inl=>
    obtain⟨a1,a2,a3,a4,a5,d,z,C⟩:=h;have b:x.Kind=5:=(by omega);obtain⟨ap,aK⟩:=SW.A _ S (.inl (by omega));obtain⟨aL,aN⟩:=cz.A _ w (.inl (by omega));obtain⟨f1,f2⟩:=gV.1 C
    have H:=abJ (tw:=tw) (tr:=tr) (f:=ef tw tr n) (path:=path) (by omega) (x:=x) (y:=y) a1 (by omega) (by omega) f1 ay az (λi N q a=>by
     have u:=aZ (by omega:i<v.ag.length) ar;obtain⟨B,l⟩:=o.gy.mem w a;exact M u (f2 i N) (ab b i N) B l) (λi N=>by
     have u:=aZ (by omega:i<v.ag.length) ar
     exact Fl SW (G _ u) (by have:=aa _ u;omega) _ (oY _ _ (f2 i N)))
    rw[GV bD b];simp only[b,H,ak,Int.reduceEq,c6,dc,dU,ed,bW,b6,bM]
    done
   case' inr.inr.inr.inr.inr.inl=>
    obtain⟨a1,a2,a3,a4,a5,d⟩:=h;have b:x.Kind=6:=(by omega);obtain⟨ap,aK⟩:=SW.A _ S (.inr (by omega));obtain⟨aL,aN⟩:=cz.A _ w (.inr (by omega));cases bn:cw x.af v.ad with
    |none=>rw[bn]at d;cases d.2.1
    |some m=>
     rw[bn]at d;obtain⟨b1,b2,b3⟩:=d;have U:=rP x.af v.ad;rw[bn]at U;cases R:fz x.af v.ad with
     |none=>rw[R]at U;cases U
     |some i=>
     obtain⟨d1,d2,_⟩:=hI R;obtain⟨d3,d4⟩:=jT bn;have em:x.af.getD i aw=m:=qm ap (aZ d1 aw) d3 (by rw[d2,d4]);have u:=aZ (by omega:0<v.ag.length) ar;have am:=cD.1 b3 _ u
     have H:=ac6 (tw:=tw) (tr:=tr) (f:=ef tw tr n) (path:=path) (by omega) (x:=x) (y:=y) a1 (by omega) (by omega) b2 R (λq a=>by
      obtain⟨B,l⟩:=o.gy.mem w a;rw[em]
      exact M u am (ai b _ bn _ u) B l) (by rw[em];exact Fl SW (G _ u) (by have:=aa _ u;omega) _ (oY _ _ am))
     rw[GW bD b];simp only[b,H,ak,Int.reduceEq,c6,dc,dU,ed,bW,b6,bM]
    done
   case' inr.inr.inr.inr.inr.inr.inl=>
    obtain⟨a1,a2,a3,a4,a5,d,z,C,a9⟩:=h;have b:x.Kind=7:=(by omega);obtain⟨B,l⟩:=o.gy.elem w (by omega);rw[GX bD b];unfold xy;by_cases ah:(v.ag.length:Int)<=y.Max
    case' neg=>
     have g:decide (y.Max<(v.ag.length:Int))=true:=j5 (by omega);rw[al ah];simp only[b,g,Int.reduceEq,c6,dc,dU,ed,bW,b6,bM];exact E
    case' pos=>
     have g:decide (y.Max<(v.ag.length:Int))=false:=uS (by omega);have D:=uk (tw:=tw) (tr:=tr) (f:=ef tw tr n) (path:=path) (by omega) (x:=x) (y:=y) (v:=v) (by omega) (by omega) (λq a=>by rw[d]at a;cases a) (λq a=>M a (cD.1 a9 q a) ((J (by omega)).1 q a) B l);have e:(if(v.ag.length:Int)<=y.Max then h7 (λX=>(⟨7,false,0,[],0,[],X,[]⟩:I)) (eY (ef tw tr n) path x.aD y.aD 0 v.ag)else .inr path)=mG (ef tw tr n) x y v path:=by
      unfold mG;rw[ae ah,a1,a2,a3,a4,a5,d,z];rfl
     rw[e];simp only[b,g,Int.reduceEq,c6,dc,dU,ed,bW,b6,bM]
   case' inr.inr.inr.inr.inr.inr.inr.inl=>
    obtain⟨a1,a2,a3,a4,a5,d,z,C,a9,aq,aU⟩:=h;have b:x.Kind=8:=(by omega);obtain⟨B,l⟩:=o.gy.elem w (by omega);obtain⟨Y,aP⟩:=o.gy.key w (by omega);rw[GY bD b];unfold xz;by_cases ah:(v.ag.length:Int)<=y.Max
    case' neg=>
     have g:decide (y.Max<(v.ag.length:Int))=true:=j5 (by omega);rw[al ah];simp only[b,g,Int.reduceEq,c6,dc,dU,ed,bW,b6,bM];exact E
    case' pos=>
     have g:decide (y.Max<(v.ag.length:Int))=false:=uS (by omega);have D:=uk (tw:=tw) (tr:=tr) (f:=ef tw tr n) (path:=path) (by omega) (x:=x) (y:=y) (v:=v) (by omega) (by omega) (λq a=>aO a (cD.1 a9 q a) ((J (by omega)).2 q a) Y aP) (λq a=>M a (cD.1 aq q a) ((J (by omega)).1 q a) B l);have e:(if(v.ag.length:Int)<=y.Max then mR (λks=>h7 (λX=>(⟨8,false,0,[],0,ks,X,[]⟩:I)) (eY (ef tw tr n) path x.aD y.aD 0 v.ag)) (eY (ef tw tr n) path x.Key y.Key 0 v.aB)else .inr path)=mG (ef tw tr n) x y v path:=by
      unfold mG;rw[ae ah,a1,a2,a3,a4,a5,d]
     rw[e];simp only[b,g,Int.reduceEq,c6,dc,dU,ed,bW,b6,bM]
   case' inr.inr.inr.inr.inr.inr.inr.inr=>
    obtain⟨a1,a2,a3,a4,a5,d,z,C,a9⟩:=h;have b:x.Kind=9:=(by omega);obtain⟨B,l⟩:=o.gy.elem w (by omega);have D:=uk (tw:=tw) (tr:=tr) (f:=ef tw tr n) (path:=path) (by omega) (x:=x) (y:=y) (v:=v) (by omega) (by omega) (λq a=>by rw[d]at a;cases a) (λq a=>M a (cD.1 a9 q a) ((J (by omega)).1 q a) B l);have e:AW (ef tw tr n) x y v path=mG (ef tw tr n) x y v path:=by
     unfold mG AW;rw[a1,a2,a3,a4,a5,d,z];rfl
    rw[GZ bD b,e];simp only[b,Int.reduceEq,c6,dc,dU,ed,bW,b6,bM]
   all_goals
    rcases D with⟨p,aM,K⟩|⟨ks,K,⟨p,aM,c2⟩|⟨us,aM,c2⟩⟩
    . rw[aM,K];rfl
    . rw[aM,K];simp only[ak];rw[c2];rfl
    . rw[aM,K];simp only[ak];rw[c2];simp only[ak,hA,oz,I.aP]
 . rw[ae (show(!(decide (x.Kind=y.Kind)))=true by simp[bD]),Kh bD,E]
theorem abn:x0 tw tr 0:=by
 unfold x0;intro v _ _ _ _ _ _ h;cases h
theorem Pm(b:c8 tw)(a:c8 tr):∀n,x0 tw tr n
 |0=>abn
 |n+1=>abK b a (Pm b a n)
end
def xY(x:fC):Prop:=o7 x/\x.cX.length*3<=reachBytes
def ll(aL:List fC):Prop:=aL.length*32<=reachBytes/\∀x,x∈aL->xY x
def BQ(c:kX):Prop:=df c.Kind/\df c.Node/\df c.A/\df c.B
theorem ll.set(h:ll aL)(j:Nat){x:fC}(c:xY x):ll (aL.set j x):=by
 refine⟨by rw[il];exact h.1,λy a=>?_⟩;rcases CU a with a|rfl
 . exact h.2 y a
 . exact c
theorem ny(a:Int):df (IntKind.wrap .u8 a):=by
 have:IntKind.wrap .u8 a=a%256:=by rfl
 unfold df;omega
theorem G1{n:Nat}(h:n*3<=reachBytes):room 3 n=true:=by
 unfold reachBytes at h;unfold room hF dT;simp only[c7,e4];omega
theorem ai9{n:Nat}(h:n*32<=reachBytes):room 32 n=true:=by
 unfold reachBytes at h;unfold room hF dT;simp only[c7,e4];omega
theorem afJ{L:List kX}(R:L.length<=reachBytes)(F:∀c,c∈L->BQ c){i:Nat}(K:i<L.length)(h:ll aL)(aJ:0<aL.length):
 ∃I,ll I/\I.length=aL.length/\hB (L,(i:Int),aL)=hB (L,((i+1:Nat):Int),I):=by
 obtain⟨O,J,n,v⟩:=F _ (aZ K oc);have Z:=dx R;unfold df at O J n v;have X:aL.length<9223372036854775807:=by have:=h.1;unfold reachBytes at this;omega
 obtain⟨j,U,o⟩:∃j:Nat,b9 (bY .i64 (L.getD i oc).Node) (aL.length:Int)=(j:Int)/\j<aL.length:=by
  have e:b9 (bY .i64 (L.getD i oc).Node) (aL.length:Int)=(L.getD i oc).Node%(aL.length:Int):=by
   rw[lI ⟨by omega,by omega⟩,hp J.1]
  have h0:=mD (L.getD i oc).Node (by omega:(aL.length:Int)≠0);have h1:=mz (L.getD i oc).Node (by omega:(0:Int)<aL.length);exact⟨((L.getD i oc).Node%(aL.length:Int)).toNat,by rw[e];omega,by omega⟩
 obtain⟨⟨cZ,t,k,m,fu,ab⟩,M⟩:=h.2 _ (aZ o eP);have x:∀z:Nat,z<(aL.getD j eP).cX.length->df ((aL.getD j eP).cX.getD z iR).ad/\df ((aL.getD j eP).cX.getD z iR).av/\df ((aL.getD j eP).cX.getD z iR).hg:=λz G=>fu _ (aZ G _)
 rw[hB,ae (by
  have a:(i:Int)<(L.length:Int):=by omega
  simp[a,aJ]),ae (aH K),aV]
 simp only[aS,ak];rw[ae (show(!(decide ((aL.length:Int)=0)))=true from by rw[xg];exact uS (by omega)),U,ae (aH o),aV,ae (j5 o),fH,ae (G1 M),ae (j5 o)];simp only[dc,bM,o];have aM:aK .i64 (i:Int) 1=((i+1:Nat):Int):=bA (by omega);rw[aM];generalize Y:aL.getD j eP=p at*;generalize W:L.getD i oc=c at*;have g:∀{a b D:Int} {l:List mo},df a->df b->df D->(∀q,q∈l->df q.ad/\df q.av/\df q.hg)->l.length<=p.cX.length+8/\(l.length<=p.cX.length\/l.length<=8)->xY ⟨p.Kind,a,b,D,l⟩:=λ{a b D l} S T F ah aJ=>⟨⟨cZ,S,T,F,ah,by show l.length<=_;unfold reachBytes at*;omega⟩,by show l.length*3<=_;unfold reachBytes at*;omega⟩
 have gs:∀q:fC,(aL.set j q).getD j bx=q:=λq=>by rw[dd (by rw[il];exact o)];simp
 have u:∀{a:Int},0<=a/\a<=255->df a:=λh=>h;have aa:(p.cX.length:Int)<9223372036854775807:=by unfold reachBytes at M;omega
 have r:∀{l:List mo},(∀q,q∈l->df q.ad/\df q.av/\df q.hg)->l.length<=p.cX.length+8/\(l.length<=p.cX.length\/l.length<=8)->xY ⟨p.Kind,p.A,p.B,p.C,l⟩:=λ{l} h1 Q=>g t k m h1 Q;have self:p.cX.length<=p.cX.length+8/\(p.cX.length<=p.cX.length\/p.cX.length<=8):=by omega
 by_cases ah:0<p.cX.length
 . have y:(0:Int)<(p.cX.length:Int):=(by omega);obtain⟨z,G,f⟩:∃z:Nat,b9 (bY .i64 c.A) (p.cX.length:Int)=(z:Int)/\z<p.cX.length:=by
    have e:b9 (bY .i64 c.A) (p.cX.length:Int)=c.A%(p.cX.length:Int):=by
     rw[lI ⟨by omega,by omega⟩,hp n.1]
    have h0:=mD c.A (by omega:(p.cX.length:Int)≠0);have h1:=mz c.A y;exact⟨(c.A%(p.cX.length:Int)).toNat,by rw[e];omega,by omega⟩
   simp only[y,G,dc,bM,gs,List.set_set];rw[ae (show(!(decide ((p.cX.length:Int)=0)))=true from by rw[xg];exact uS (by omega))];by_cases s:b9 c.Kind 8=0
   . simp only[s,dc,bM];exact⟨_,h.set j (g (ny _) k m fu self),il,rfl⟩
   by_cases k1:b9 c.Kind 8=1
   . simp only[k1,dc,c6,Int.reduceEq,bW,bM,b6];exact⟨_,h.set j (g t (ny _) m fu self),il,rfl⟩
   by_cases k2:b9 c.Kind 8=2
   . have H:0<=b9 c.A 6:=by rw[hp n.1];omega
     simp only[k2,H,dc,c6,Int.reduceEq,bW,bM,b6];exact⟨_,h.set j (g (ny _) k m fu self),il,rfl⟩
   by_cases k3:b9 c.Kind 8=3
   . simp only[k3,dc,c6,Int.reduceEq,bW,bM,b6];exact⟨_,h.set j (g t k (ny _) fu self),il,rfl⟩
   by_cases k4:b9 c.Kind 8=4
   . by_cases k8:(p.cX.length:Int)<8
     . simp only[k4,k8,dc,c6,Int.reduceEq,bW,bM,b6];rw[ae (G1 (by rw[cc];unfold reachBytes;simp;omega))];refine⟨_,h.set j (r (λq d=>?_) (by rw[cc];simp;omega)),il,rfl⟩;rcases hb.1 d with d|d
       . exact fu q d
       . rw[qB.1 d];exact⟨u n,u v,ny _⟩
     . simp only[k4,k8,dc,c6,Int.reduceEq,bW,bM,b6];exact⟨_,h.set j (r fu self),il,rfl⟩
   by_cases k5:b9 c.Kind 8=5
   . simp only[k5,dc,c6,Int.reduceEq,bW,bM,b6];have P:aK .i64 (z:Int) 1=((z+1:Nat):Int):=bA (by omega);rw[P,ae (iF.2 (by omega)),ae (iF.2 (by omega)),aV,aV,aV,bE];refine⟨_,h.set j (r (λq d=>?_) (by rw[cc,uQ,uQ,mA];omega)),il,rfl⟩;rcases hb.1 d with d|d
     . exact fu q (uP d)
     . exact fu q (GA (uP d))
   have N:∀{w:mo},df w.ad/\df w.av/\df w.hg->xY ⟨p.Kind,p.A,p.B,p.C,p.cX.set z w⟩:=λ{w} V=>r (λq d=>by
    rcases CU d with d|rfl
    . exact fu q d
    . exact V) (by rw[il];exact self)
   by_cases k6:b9 c.Kind 8=6
   . simp only[k6,dc,c6,Int.reduceEq,bW,bM,b6];rw[ae (aH f),aV,ae (j5 f)];exact⟨_,h.set j (N (w:=⟨(p.cX.getD z iR).ad,(p.cX.getD z iR).av,c.B⟩) ⟨(x z f).1,(x z f).2.1,u v⟩),il,rfl⟩
   . simp only[s,k1,k2,k3,k4,k5,k6,c6,bW,b6];rw[ae (aH f),aV,ae (j5 f),ae (aH f),ae (j5 f)];exact⟨_,h.set j (N (w:=⟨(p.cX.getD z iR).ad,aK .u8 (p.cX.getD z iR).av c.B,(p.cX.getD z iR).hg⟩) ⟨(x z f).1,ny _,(x z f).2.2⟩),il,rfl⟩
 . have y:¬(0:Int)<(p.cX.length:Int):=(by omega);simp only[y,c6,bW,b6,gs,List.set_set];by_cases s:b9 c.Kind 8=0
   . simp only[s,dc,bM];exact⟨_,h.set j (g (ny _) k m fu self),il,rfl⟩
   by_cases k1:b9 c.Kind 8=1
   . simp only[k1,dc,c6,Int.reduceEq,bW,bM,b6];exact⟨_,h.set j (g t (ny _) m fu self),il,rfl⟩
   by_cases k2:b9 c.Kind 8=2
   . have H:0<=b9 c.A 6:=by rw[hp n.1];omega
     simp only[k2,H,dc,c6,Int.reduceEq,bW,bM,b6];exact⟨_,h.set j (g (ny _) k m fu self),il,rfl⟩
   by_cases k3:b9 c.Kind 8=3
   . simp only[k3,dc,c6,Int.reduceEq,bW,bM,b6];exact⟨_,h.set j (g t k (ny _) fu self),il,rfl⟩
   by_cases k4:b9 c.Kind 8=4
   . have k8:(p.cX.length:Int)<8:=(by omega);simp only[k4,k8,dc,c6,Int.reduceEq,bW,bM,b6];rw[ae (G1 (by rw[cc];unfold reachBytes;simp;omega))];refine⟨_,h.set j (r (λq d=>?_) (by rw[cc];simp;omega)),il,rfl⟩;rcases hb.1 d with d|d
     . exact fu q d
     . rw[qB.1 d];exact⟨u n,u v,ny _⟩
   have E:=h.set j (r fu self);by_cases k5:b9 c.Kind 8=5
   . simp only[k5,dc,c6,Int.reduceEq,bW,bM,b6];exact⟨_,E,il,rfl⟩
   by_cases k6:b9 c.Kind 8=6
   . simp only[k6,dc,c6,Int.reduceEq,bW,bM,b6];exact⟨_,E,il,rfl⟩
   . simp only[s,k1,k2,k3,k4,k5,k6,c6,bW,b6];exact⟨_,E,il,rfl⟩
theorem R6{L:List kX}(e:L.length<=reachBytes)(f:∀c,c∈L->BQ c):∀(k i:Nat) {aL:List fC},i+k=L.length->ll aL->∃d,ll d/\d.length=aL.length/\hB (L,(i:Int),aL)=some d
 |0,i,aL,l,h=>⟨aL,h,rfl,by
  have a:¬(i:Int)<(L.length:Int):=by omega
  rw[hB,al (by simp[a])]⟩
 |k+1,i,aL,l,h=>by
  by_cases aJ:0<aL.length
  . obtain⟨d,h1,j,g⟩:=afJ e f (by omega:i<L.length) h aJ;rw[g,<-j];exact R6 e f k (i+1) (by omega) h1
  . refine⟨aL,h,rfl,?_⟩;have b:decide ((0:Int)<(aL.length:Int))=false:=uS (by omega);rw[hB,b,al];cases decide ((i:Int)<(L.length:Int))<;>simp
theorem ll.FQ{d:ep}(h:ll d.eg):vb d:=⟨by have:=h.1;unfold reachBytes at*;omega,λx a=>(h.2 x a).1⟩
theorem abo{d:ep}(h:ll d.eg){L:List kX}(i:L.length<=reachBytes)(j:∀c,c∈L->BQ c):∃a,ll a.eg/\a.eg.length=d.eg.length/\C3 (d,L)=some a:=by
 obtain⟨b,h1,g,e⟩:=R6 i j L.length 0 (by omega) h;have f:hB (L,0,d.eg)=some b:=e;refine⟨⟨b⟩,h1,g,?_⟩;rw[C3,fH,ae (ai9 h.1),f];rfl
theorem afK(h:WF cR ⟨.slice (.nm wy),aL⟩):ll aL:=by
 obtain⟨a,b,c⟩:=xv (t:= .nm wy) h;have D:=P4 (d:=⟨aL⟩) h;refine⟨b,λx e=>⟨D.2 x e,?_⟩⟩;exact(xv (t:= .nm DN) (c x e ⟨.slice (.nm DN),x.cX⟩ (.tail _ (.tail _ (.tail _ (.tail _ (.head _))))))).2.1
theorem ajC{n:Int}(h:WF cR ⟨.int .u8,n⟩):df n:=by
 cases h with
 |int k n h=>
  simp[Lit.wf,IntKind.min,IntKind.max,IntKind.bits,IntKind.signed]at h;unfold df;omega
end
end Go.Proofs.YtdjagncoefjfeaaGreat
