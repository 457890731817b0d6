/- The functions of the program as functions of Lean, that its code does what they say, and what they answer; part C. -/
import Derived.Test.YtkbmjabicjpmjaaGreatDoorCeB

namespace Go.Proofs.YtkbmjabicjpmjaaGreatDoor
set_option linter.all false
section
open Go Go.Proofs.YtkbmjabicjpmjaaGreatDoor.Shv Go.Sort
set_option maxRecDepth 100000
variable{v:ab}{α:Type}{o:Option Bool}{t:af}{ts:List af}{code:Int}
section
variable {ts:List af}
set_option maxHeartbeats 400000 in
theorem KV(H:qT ts)(aF:cP v):wt v<=1099511627776->∀t,eI ts false t v->jQ ts v t:=by
 induction aF with
 |mk v hs h1 G P V J K dR N O aM aK aJ=>
  intro aI t m;have ao:cP v:= .mk v hs h1 G P V J K dR N O aM;have aT:=lp v;have B:=λx I t=>GU H (J x I) (by have:=hA I;omega) t;have az:=λx I t=>GU H (V x I) (by have:=hA I;omega) t;have w:=λx I t=>aJ x I (by have:=hA I;omega) t;have ap:=λx I t=>aK x I (by have:=hA I;omega) t;have E:=GU H ao aI t;obtain⟨⟨g1,g2,g3,_⟩,m⟩:=(jd _ _ _).1 m;obtain⟨j,rfl⟩:∃j:Nat,t=(j:Int):=⟨t.toNat,by omega⟩
  have U:j<ts.length:=by omega
  unfold jQ;rw[ki,ai (aU U)];simp only[bl,aw,bz,ab.b7]at m g3⊢;have M:=bM U aL;have aH:=@Gq ts (j:Int) v;have Y:=@Gr ts (j:Int) v;have Z:=@Gs ts (j:Int) v;have aa:=@Gt ts (j:Int) v;have L:=@Cw ts (j:Int) v;have ad:=@yS ts (j:Int) v;have af:=@yT ts (j:Int) v;have ag:=@yU ts (j:Int) v;have aj:=@yV ts (j:Int) v;simp only[bz]at aH Y Z aa L ad af ag aj;have Q:=H.A _ M;have aE:=H.S _ M;have W:=eP (jx (H.T _ M).gX);generalize ts.getD j aL=x at*;rcases m with⟨k,c1,c2,c3,c4,c5,o⟩|⟨k,c1,c2,c3,c4,c5,o,p,u⟩|⟨k,c1,c2,c3,c4,c5,o,p⟩|⟨k,c1,c2,c3,c4,c5,o,p⟩|⟨k,c1,c2,c3,c4,c5,o,p⟩|⟨k,c1,c2,c3,c4,c5⟩|⟨k,c1,c2,c3,c4,c5,o,p,u⟩|⟨k,c1,c2,c3,c4,c5,o,p,u,an,aS⟩|⟨k,c1,c2,c3,c4,c5,o,p,u⟩<;>rw[k]at g3<;>have g:=g3.symm
  . grind
  . rw[av (by grind),ai (by grind),Y g,GF N];have aW:=GH N;obtain⟨n,aV⟩:∃n:Nat,hp v.bB=(n:Int):=⟨(hp v.bB).toNat,by unfold hp;grind⟩
    grind[Int.toNat_natCast,I1]
  . rw[av (by simp[g]),av (by simp[g]),ai (by simp[g]),Z g]
  . rw[av (by simp[g]),av (by simp[g]),av (by simp[g]),ai (by simp[g]),aa g]
    obtain⟨n,aV⟩:∃n:Nat,v.ah=(n:Int):=⟨v.ah.toNat,by
     rcases p with⟨y,ak,he⟩|⟨_,_,he⟩
     . have:=aE g y ak;unfold dT at this;omega
     . unfold dT at he;omega⟩
    rw[aV,kO,I1 (by omega),ey];rfl
  . rw[av (by simp[g]),av (by simp[g]),av (by simp[g]),av (by simp[g]),av (by simp[g]),av (by simp[g]),av (by simp[g]),av (by simp[g]),L g];obtain⟨C,aA⟩:=Q (.inl g);obtain⟨ax,ay⟩:=lQ.1 p;rw[L g]at E;have X:=Wx (Fu (ts:=ts) (l:=v.ar) C o) (λy ak=>V5 C o ak);have dc:(λn=>(kA ts x.ae v.ar v.Rest).filter λf=>decide (f.id=n))=vS ts x v:=rfl;rw[dc]at X;rw[X]at E⊢;have:=GV (ts:=ts) W C o ax (λy ak=>K y ak) P J B (λi au=>w _ (bM (by omega) aR) _ (ay i au)) 1000 1 [] (by omega) (by omega) (by simp only[qx];omega);have h0:oy ([],1,ts,v,x)=_:=this;rw[h0];rfl
  . rw[av (by simp[g]),av (by simp[g]),av (by simp[g]),av (by simp[g]),av (by simp[g]),ai (by simp[g]),ad g];obtain⟨C,aA⟩:=Q (.inr g);obtain⟨r,_,aP,m⟩:=pR (t:=x) v.ah W;rcases BX m with⟨e,q,am,aN,D,aO⟩|⟨e,D⟩
    . rw[D]at c5;rw[D];simp only at c5⊢;obtain⟨d1,d2,d3⟩:=c5;have s:=C.2 _ (bM am aG);rw[aO]at s;obtain⟨n,aV⟩:∃n:Nat,v.ah=(n:Int):=⟨v.ah.toNat,by unfold dT at s;omega⟩
      rw[av (by simp[d1]),aP,aV,kO (by unfold dT at s;omega),x9 (by unfold dT at s;omega)];simp only[aw];rw[aN,ai (aU am)]
      match s:v.ar,d2 with
      |[y],_=>
       have ak:y∈v.ar:=by rw[s];exact .head _
       have z:aB 0 ([y]:List ab).length=true:=aU (k:=0) (by simp);have m:=eO.1 d3 y ak;have fc:=w y ak _ m;unfold jQ at fc;rw[ai z];simp only[bz,Int.toNat_zero,su];rw[fc];have al:=B y ak (x.ae.getD q aG).aC;have aD:=kr (n:=n) (by rw[aV]at O;omega);simp only[aw];rw[ai (gy)];have F:cz ts (x.ae.getD q aG).aC [y]=[cI ts (x.ae.getD q aG).aC y]:=by rw[cz,cz]
       rw[F];rfl
    . rw[D]at c5;rw[D];simp only at c5⊢;obtain⟨d1,d2,d3,d4,d,d5⟩:=c5;obtain⟨n,aV⟩:∃n:Nat,v.ah=(n:Int):=⟨v.ah.toNat,by unfold dT at d3;omega⟩
      have R:=K ⟨v.ah,d⟩ (by rw[d5];exact .head _);simp only at R;unfold reachBytes at R;have aD:=kr (n:=n) (by rw[aV]at O;omega);rw[d5,aV,ai (by simp),kO (by unfold dT at d3;omega),x9 (by unfold dT at d3;omega)];simp only[aw];have z:aB 0 ([⟨(n:Int),d⟩]:List cG).length=true:=aU (k:=0) (by simp);rw[ai z];simp only[Int.toNat_zero,su];rw[ai (gy)];rfl
  . rw[av (by simp[g]),av (by simp[g]),av (by simp[g]),av (by simp[g]),av (by simp[g]),av (by simp[g]),ai (by simp[g])];have m:=eO.1 u;rw[af g]at E⊢;have:=JS (ts:=ts) (x:=x) (v:=v) (λy ak=>by have:=B y ak x.aQ;omega) (λy ak=>w y ak x.aQ (m y ak)) G v.ar.length 0 [] (by omega) (by simp only[gh,qx];omega);have h0:rR ([],0,ts,v,x)=_:=this;rw[h0];rfl
  . rw[av (by simp[g]),av (by simp[g]),av (by simp[g]),av (by simp[g]),av (by simp[g]),av (by simp[g]),av (by simp[g]),ai (by simp[g])];have m:=eO.1 an;have aq:=eO.1 u;rw[ag g]at E⊢;have:=KU (ts:=ts) (x:=x) (v:=v) p (λy ak=>by have:=B y ak x.aQ;omega) (λy ak=>by have:=az y ak x.Key;omega) (λy ak=>w y ak x.aQ (m y ak)) (λy ak=>ap y ak x.Key (aq y ak)) G v.ar.length 0 [] (by omega) (by simp only[gh,qx];omega);have h0:rS ([],0,ts,v,x)=_:=this;rw[h0];rfl
  . rw[av (by simp[g]),av (by simp[g]),av (by simp[g]),av (by simp[g]),ai (by simp[g]),aj g];have m:=eO.1 u
    match s:v.ar,p with
    |[],_=>rw[ai (by simp),cz]
    |[y],_=>
     have ak:y∈v.ar:=by rw[s];exact .head _
     have z:aB 0 ([y]:List ab).length=true:=aU (k:=0) (by simp);rw[c8,ai z];have fc:=w y ak x.aQ (m y ak);unfold jQ at fc;simp only[Int.toNat_zero,su];rw[fc];have al:=B y ak x.aQ;simp only[aw];rw[ai (gy (by simp;omega))];have F:cz ts x.aQ [y]=[cI ts x.aQ y]:=by rw[cz,cz]
     rw[F];rfl
    |a::b::c,h=>simp at h
end
theorem dp.oR{a b:α}(h:eN o a b):dp o (a=b):=h
theorem CR{j k l:Option Bool}{f g i:Prop}(h1:dp j f)(d:dp k g)(e:dp l i):
 dp (j>>=λm=>(if m then k else some false)>>=λn=>some (bif m then n else false)>>=λt53=>(if t53 then l else some false)>>=λo=>some (bif t53 then o else false)) (f/\g/\i):=by
 obtain⟨a,rfl,h1⟩:=h1;obtain⟨b,rfl,d⟩:=d;obtain⟨c,rfl,e⟩:=e;rw[<-h1,<-d,<-e];cases a<;>cases b<;>cases c<;>exact⟨_,rfl,by simp⟩
theorem L2{P:Prop}(h:dp o P):dp (o>>=λr=>some r) P:=by grind
def oG(b:Bool)(a:List aY):Prop:=(∀m,m∈a->nN b m=false)/\(b=false\/0<a.length)/\jt a/\(∀m,m∈a->nm m.Name=true)/\(a.map (·.Name)).Nodup/\a.length<=16
def yr(S:List dd):Prop:=0<S.length/\(S.Pairwise (λa b=>a.ah<b.ah)/\∀y,y∈S->dT y.ah)/\(∀y,y∈S->nm y.Name=true)/\(S.map (·.Name)).Nodup/\S.length<=16
theorem XY{l:List aD}:l.Nodup↔∀i,i<l.length->(l.take i).contains (l.getD i [])=false:=by
 grind[List.pairwise_iff_getElem,pN]
theorem KW(f:α->Int)(g:α->aD)(d:α)(l:List α):(∀i,i<l.length->jH (l.map f) (l.map g) i=true)↔(l.Pairwise (λa b=>f a<f b)/\∀x,x∈l->dT (f x))/\(∀x,x∈l->nm (g x)=true)/\(l.map g).Nodup:=by
 rw[Cr f d,XY];have key:∀i,i<l.length->(jH (l.map f) (l.map g) i=true↔dT (f (l.getD i d))/\(i=0\/f (l.getD (i-1) d)<f (l.getD i d))/\nm (g (l.getD i d))=true/\((l.map g).take i).contains ((l.map g).getD i [])=false):=by
  grind[jH,dT]
 constructor
 . intro h;refine⟨⟨λi c=>?_,λx I=>?_⟩,λx I=>?_,λi c=>?_⟩
   . grind
   . grind[List.getElem_of_mem]
   . grind[List.getElem_of_mem]
   grind
 . rintro ⟨⟨h1,j⟩,k,m⟩ i c
   refine(key i c).2 ⟨j _ (bM c d),?_,k _ (bM c d),m i (by grind)⟩;by_cases h0:i=0
   . omega
   . have e:i-1+1=i:=(by omega);grind
theorem I6(h:e0 t):dp (rz t) ((∀m,m∈t.ae->nN (decide (t.Kind=6)) m=false)/\(t.Kind=5\/0<t.ae.length)/\jt t.ae/\(∀m,m∈t.ae->nm m.Name=true)/\(t.ae.map (·.Name)).Nodup/\t.ae.length<=16):=by
 obtain⟨r,h1,a⟩:=HZ h;refine⟨r,h1,a.trans ?_⟩;rw[KW _ _ aG];grind[List.getElem_of_mem,jt]
theorem Yu{l:List dd}(ag:l.length*24<=reachBytes):dp (uu l) (yr l):=by
 obtain⟨r,h1,a⟩:=KP ag;refine⟨r,h1,a.trans ?_⟩;rw[KW _ _ dB];grind[yr]
def gv(t:af):Prop:=
 (t.Kind=1/\t.Name=[]/\t.bH=0/\t.bK=0/\t.Max=0/\t.br=[]/\t.ae=[]/\t.Key=0/\t.aQ=0/\t.Open=false)\/
 (t.Kind=2/\t.Name=[]/\t.bH<=t.bK/\t.Max=0/\t.br=[]/\t.ae=[]/\t.Key=0/\t.aQ=0/\t.Open=false)\/
 (t.Kind=3/\t.Name=[]/\t.bH=0/\t.bK=0/\(0<=t.Max/\t.Max<=200)/\t.br=[]/\t.ae=[]/\t.Key=0/\t.aQ=0/\t.Open=false)\/
 (t.Kind=4/\nm t.Name=true/\t.bH=0/\t.bK=0/\t.Max=0/\yr t.br/\t.ae=[]/\t.Key=0/\t.aQ=0)\/
 (t.Kind=5/\nm t.Name=true/\t.bH=0/\t.bK=0/\t.Max=0/\t.br=[]/\oG false t.ae/\t.Key=0/\t.aQ=0/\t.Open=false)\/
 (t.Kind=6/\nm t.Name=true/\t.bH=0/\t.bK=0/\t.Max=0/\t.br=[]/\oG true t.ae/\t.Key=0/\t.aQ=0)\/
 (t.Kind=7/\t.Name=[]/\t.bH=0/\t.bK=0/\(0<=t.Max/\t.Max<=50)/\t.br=[]/\t.ae=[]/\t.Key=0/\t.Open=false)\/
 (t.Kind=8/\t.Name=[]/\t.bH=0/\t.bK=0/\(0<=t.Max/\t.Max<=50)/\t.br=[]/\t.ae=[]/\t.Open=false)\/
 (t.Kind=9/\t.Name=[]/\t.bH=0/\t.bK=0/\t.Max=0/\t.br=[]/\t.ae=[]/\t.Key=0/\t.Open=false)
theorem Yv(h:e0 t):dp (fZ t) (gv t):=by
 obtain⟨d,N,L,H,M,S,c,K,E,b⟩:=t;have aE:=h.syms;have e:=h.gX;have aj:=h.hX;simp only at aE e aj;by_cases bn:d=1
 . subst bn;have a:=ij (a:=(⟨0,N,L,H,M,S,c,K,E,b⟩:af)) ⟨aE,e,aj⟩ (⟨0,[],0,0,0,[],[],0,0,false⟩:af);refine(L2 (dp.oR a)).imp ?_;unfold gv;simp
 by_cases bt:d=2
 . subst bt;have a:=ij (a:=(⟨0,N,0,0,M,S,c,K,E,b⟩:af)) ⟨aE,e,aj⟩ (⟨0,[],0,0,0,[],[],0,0,false⟩:af);refine(sW (q:=decide (L<=H)) (Q:=L<=H) (by simp) (dp.oR a)).imp ?_;unfold gv;grind
 by_cases bY:d=3
 . subst bY;have a:=ij (a:=(⟨0,N,L,H,0,S,c,K,E,b⟩:af)) ⟨aE,e,aj⟩ (⟨0,[],0,0,0,[],[],0,0,false⟩:af);refine(sW (Q:=0<=M/\M<=200) (by by_cases g:0<=M<;>simp[g]) (dp.oR a)).imp ?_;unfold gv;grind
 by_cases cw:d=4
 . subst cw;have a:=ij (a:=(⟨0,[],L,H,M,[],c,K,E,false⟩:af)) ⟨by simp,e,aj⟩ (⟨0,[],0,0,0,[],[],0,0,false⟩:af);refine(CR (⟨nm N,si N,Iff.rfl⟩:dp (jW N) (nm N=true)) (Yu aE) (dp.oR a)).imp (Q:=gv ⟨4,N,L,H,M,S,c,K,E,b⟩) ?_;unfold gv;grind
 by_cases cW:d=5
 . subst cW;have a:=ij (a:=(⟨0,[],L,H,M,S,[],K,E,bif b then decide ((5:Int)=5)else false⟩:af)) ⟨aE,by simp,by simp⟩ (⟨0,[],0,0,0,[],[],0,0,false⟩:af);refine(CR (⟨nm N,si N,Iff.rfl⟩:dp (jW N) (nm N=true)) (I6 h) (dp.oR a)).imp ?_;unfold gv oG;grind
 by_cases dm:d=6
 . subst dm;have a:=ij (a:=(⟨0,[],L,H,M,S,[],K,E,bif b then decide ((6:Int)=5)else false⟩:af)) ⟨aE,by simp,by simp⟩ (⟨0,[],0,0,0,[],[],0,0,false⟩:af);refine(CR (⟨nm N,si N,Iff.rfl⟩:dp (jW N) (nm N=true)) (I6 h) (dp.oR a)).imp (Q:=gv ⟨6,N,L,H,M,S,c,K,E,b⟩) ?_;unfold gv oG;grind
 by_cases gq:d=7
 . subst gq;have a:=ij (a:=(⟨0,N,L,H,0,S,c,K,0,b⟩:af)) ⟨aE,e,aj⟩ (⟨0,[],0,0,0,[],[],0,0,false⟩:af);refine(sW (Q:=0<=M/\M<=50) (by by_cases g:0<=M<;>simp[g]) (dp.oR a)).imp (Q:=gv ⟨7,N,L,H,M,S,c,K,E,b⟩) ?_;unfold gv;grind
 by_cases gE:d=8
 . subst gE;have a:=ij (a:=(⟨0,N,L,H,0,S,c,0,0,b⟩:af)) ⟨aE,e,aj⟩ (⟨0,[],0,0,0,[],[],0,0,false⟩:af);refine(sW (q:=bif decide (0<=M)then decide (M<=50)else false) (Q:=0<=M/\M<=50) (by by_cases g:0<=M<;>simp[g]) (dp.oR a)).imp (Q:=gv ⟨8,N,L,H,M,S,c,K,E,b⟩) ?_;unfold gv;grind
 by_cases gr:d=9
 . subst gr;have a:=ij (a:=(⟨0,N,L,H,M,S,c,K,0,b⟩:af)) ⟨aE,e,aj⟩ (⟨0,[],0,0,0,[],[],0,0,false⟩:af);refine(L2 (dp.oR a)).imp (Q:=gv ⟨9,N,L,H,M,S,c,K,E,b⟩) ?_;unfold gv;simp
 refine⟨false,by simp[fZ,bn,bt,bY,cw,cW,dm,gq,gE,gr],?_⟩;unfold gv;grind
structure oZ (ts:List af):Prop where
 n:ts.length<=32
 F:∀t,t∈ts->gv t
 D:∀i,i<ts.length->(!(decide ((ts.getD i aL).Name=[]))&&((ts.map (·.Name)).take i).contains (ts.getD i aL).Name)=false
 U:∀t,t∈ts->∀u,u∈e9 t->0<=u/\u<ts.length
 sO:∀t,t∈ts->t.Kind=8->1<=(ts.getD t.Key.toNat aL).Kind/\(ts.getD t.Key.toNat aL).Kind<=4
theorem XZ(dy:∀t,t∈ts->e0 t){i:Nat}(a:i<ts.length):sE ts i=none↔gv (ts.getD i aL)/\(!(decide ((ts.getD i aL).Name=[]))&&((ts.map (·.Name)).take i).contains (ts.getD i aL).Name)=false/\(∀u,u∈e9 (ts.getD i aL)->0<=u/\u<ts.length)/\
 ((ts.getD i aL).Kind=8->1<=(ts.getD (ts.getD i aL).Key.toNat aL).Kind/\(ts.getD (ts.getD i aL).Key.toNat aL).Kind<=4):=by
 obtain⟨r,f1,f2⟩:=Yv (dy _ (bM a aL));rw[F1 rfl f1];grind[List.any_eq_false,oM,vV]
theorem tX(dy:∀t,t∈ts->e0 t)(h:oZ ts):oa (⟨ts⟩:a7)=some 0/\p' (⟨ts⟩:a7)=some 0:=by
 obtain⟨e,h1,c,_,b,_⟩:=XS (by have:=h.n;grind[reachBytes]) dy;have dc:=b ⟨h.n,λi a=>(XZ dy a).2 ⟨h.F _ (bM a _),h.D i a,h.U _ (bM a _),h.sO _ (bM a _)⟩⟩;grind
theorem oZ.jo(dy:∀t,t∈ts->e0 t)(h:oZ ts):qT ts:=by
 refine⟨by have:=h.n;omega,dy,λt ht=>?_,λt ht m c=>?_,λt ht e=>?_,λt ht e y ak=>?_,h.sO⟩
 . have:=h.F t ht;grind[gv,kX]
 . have:=h.F t ht;unfold gv at this;have:oG false t.ae\/oG true t.ae:=(by grind);rcases this with a|a
   . exact(a.2.2.1.2 m c).2
   . exact(a.2.2.1.2 m c).2
 . have:=h.F t ht;unfold gv at this;have:oG false t.ae\/oG true t.ae:=(by grind);rcases this with a|a
   . exact⟨a.2.2.1,a.2.2.2.2.2⟩
   . exact⟨a.2.2.1,a.2.2.2.2.2⟩
 . have:=h.F t ht;unfold gv at this;have:yr t.br:=(by grind);exact this.2.1.2 y ak
theorem WX(aV:ts.length<9223372036854775807)(dy:∀t,t∈ts->e0 t)(bE:∀t,t∈ts->kX t.Kind)(b:cP v)(t:Int):dp (tD ((⟨ts⟩:a7),t,v)) (eI ts true t v):=by
 obtain⟨r,h1,a⟩:=F2 aV dy bE b t true;refine⟨r,?_,a⟩;rw[tD];simp only[ab.b7];rw[h1];rfl
def oH(ts:List af)(ms:List aY):Prop:=∀m,m∈ms->m.bX=true->eI ts true m.aC m.bC
theorem KX{ts:List af}(aV:ts.length<9223372036854775807)(dy:∀t,t∈ts->e0 t)(bE:∀t,t∈ts->kX t.Kind){ms:List aY}(a:∀m,m∈ms->cP m.bC)(ag:ms.length<=reachBytes)(t2:Int):
 ∀(k i:Nat),i+k=ms.length->(mY (t2,ms,(i:Int),ts)=some (.inr (t2,ts))/\oH ts (ms.drop i))\/(∃e,mY (t2,ms,(i:Int),ts)=some (.inl (t2,e,1))/\¬oH ts (ms.drop i))
 |0,i,d=> .inl ⟨by rw [mY,de],by
  rw[iw (by omega:ms.length<=i)]
  intro m a;cases a⟩
 |k+1,i,d=>by
  have aF:i<ms.length:=by omega
  have l:=eP ag;have f:=bM aF aG;obtain⟨r,g,j⟩:=WX aV dy bE (a _ f) (ms.getD i aG).aC;rw[mY,cg,ai (aU aF)];simp only[bl,aw,bz,ab.b7];rw[ai (by rw[aU aF];rfl),ai (by rw[aU aF];rfl),g];have ih:=KX aV dy bE a ag t2 k (i+1) (by omega);rw[gm aF aG];have c:oH ts (ms.getD i aG::ms.drop (i+1))↔((ms.getD i aG).bX=true->eI ts true (ms.getD i aG).aC (ms.getD i aG).bC)/\oH ts (ms.drop (i+1)):=by
   unfold oH;constructor
   . intro h;exact⟨h _ (.head _),λm a=>h m (.tail _ a)⟩
   . rintro ⟨h1,b⟩ m a
     rcases fg.1 a with rfl|a
     . exact h1
     . exact b m a
  rw[c,<-j];cases aj:(ms.getD i aG).bX with
  |false=>
   simp only[bU,bN,aw,eF];rw[bO (by omega)];rcases ih with⟨h1,b⟩|⟨e,h1,b⟩
   . exact .inl ⟨h1,λh=>h.elim,b⟩
   . exact .inr ⟨e,h1,λh=>b h.2⟩
  |true=>
   cases r with
   |true=>
    simp only[bJ,aw,dX,ds,bU,bN];rw[bO (by omega)];rcases ih with⟨h1,b⟩|⟨e,h1,b⟩
    . exact .inl ⟨h1,λ_=>trivial,b⟩
    . exact .inr ⟨e,h1,λh=>b h.2⟩
   |false=>
    simp only[bJ,aw,dX,eL];rw[ai (aU aF)];exact .inr ⟨_,rfl,λh=>absurd (h.1 trivial) (by simp)⟩
theorem KY{ts:List af}(aV:ts.length<9223372036854775807)(dy:∀t,t∈ts->e0 t)(bE:∀t,t∈ts->kX t.Kind):
 ∀(k i:Nat),i+k=ts.length->(nb ((i:Int),ts)=some (.inr ())/\∀t,t∈ts.drop i->oH ts t.ae)\/(∃a e,nb ((i:Int),ts)=some (.inl (a,e,1))/\¬∀t,t∈ts.drop i->oH ts t.ae)
 |0,i,d=>.inl ⟨by rw[nb,de],by grind⟩
 |k+1,i,d=>by
  have aF:i<ts.length:=by omega
  have ht:=dy _ (bM aF aL);have h0:=KX aV dy bE ht.hX (jx ht.gX) (i:Int) (ts.getD i aL).ae.length 0 (by omega);simp only[gh]at h0;have ih:=KY aV dy bE k (i+1) (by omega);rw[gm aF aL,nb,cg,ai (aU aF)];simp only[bz];rcases h0 with⟨h1,c⟩|⟨e,h1,c⟩
  . have b:mY ((i:Int),(ts.getD i aL).ae,0,ts)=_:=h1;rw[b];simp only[bl,aw];rw[bO (by omega)];rcases ih with⟨g1,g2⟩|⟨a,e,g1,g2⟩
    . refine .inl ⟨g1,λt ht=>?_⟩;rcases fg.1 ht with rfl|ht
      . exact c
      . exact g2 t ht
    . exact .inr ⟨a,e,g1,λh=>g2 λt ht=>h t (.tail _ ht)⟩
  . have b:mY ((i:Int),(ts.getD i aL).ae,0,ts)=_:=h1;rw[b];exact .inr ⟨_,_,rfl,λh=>c (h _ (.head _))⟩
theorem X0{s:a7}(aV:s.Types.length<=reachBytes)(dy:∀t,t∈s.Types->e0 t){e:Int}(d:p' s=some e)(he:e=0->oZ s.Types):∃r,Ae s=some r/\(e=0->(r.2.2=0↔∀t,t∈s.Types->oH s.Types t.ae)):=by
 rw[Ae,d];simp only[bl,aw];by_cases h0:e=0
 . have iN:=he h0;have aE:=iN.jo dy;rw[av (by simp[h0])];have:=KY (by have:=iN.n;omega) dy aE.K s.Types.length 0 (by omega);simp only[gh]at this;rcases this with⟨h1,c⟩|⟨a,f,h1,c⟩
   . have b:nb (0,s.Types)=_:=h1;rw[b];exact⟨_,rfl,λ_=>⟨λ_=>c,λ_=>rfl⟩⟩
   . have b:nb (0,s.Types)=_:=h1;rw[b];exact⟨_,rfl,λ_=>⟨λh=>absurd h (by simp),λh=>absurd h c⟩⟩
 . rw[ai (by simp[h0])];exact⟨_,rfl,λh=>absurd h h0⟩
theorem aeg{t:aH}{x:t.den cu.D}(h:Ok cu [t] x):∀d,d∈t.row cu x->WF cu d:=λd aj=>h ⟨t,x⟩ (uX ..) d aj
abbrev fr:=dv
abbrev eG:=bw
abbrev ab5:=ia
theorem zK{a:Int}(h:¬a=0):(!(decide (a=0)))=true:=by grind
theorem hW{x m:Int}(h:0<=x)(a:0<=m:=by omega):cy x m=x%m:=by grind[cy]
theorem abk{x:Int}(h:0<=x)(a:x<=255):h4 .u8 x 4=x/4:=by
 grind[h4,IntKind.wrap_u8]
theorem kC{x:Int}(h:hq x):ca .i64 x=x:=by
 grind[ca,hq,IntKind.wrap_i64]
theorem L3{k:Int}(h:0<=k/\k<=25):mW (ca .i32 (aS .i64 97 k))=[UInt8.ofNat (97+k.toNat)]:=by
 have key:∀k:Nat,k<26->mW (ca .i32 (aS .i64 97 k))=[UInt8.ofNat (97+k)]:=by decide+kernel
 grind
theorem abl{k:Int}(h:0<=k/\k<=25):mW (ca .i32 (aS .i64 65 k))=[UInt8.ofNat (65+k.toNat)]:=by
 have key:∀k:Nat,k<26->mW (ca .i32 (aS .i64 65 k))=[UInt8.ofNat (65+k)]:=by decide+kernel
 grind
theorem Hl{s:aD}(h0:s≠[])(ag:s.length<=24)(h:∀i:Nat,i<s.length->oi (jf s i)=true):nm s=true:=by
 have key:∀k i,i+k=s.length->k9 (s,s.length,i)=some (.inr ()):=by
  intro k;induction k with
  |zero=>simp_all[k9]
  |succ k ih=>
   intro i b;rw[k9,ai (by grind),ai (aU (by omega)),BF,h i (by omega)];simp only[bl,aw];rw[ai (by simp),bO (by omega)];exact ih _ (by omega)
 have a:=zT.2 h0;have c:=aU a;have d:=key s.length 0 (by simp);grind[nm,jW,BF]
theorem aa0{c:Nat}(h:65<=c/\c<=90\/97<=c/\c<=122):nm [UInt8.ofNat c]=true:=by
 grind[Hl,HN,uA,oi]
theorem L4{b c:Nat}(a:97<=b/\b<=122)(h:97<=c/\c<=122):nm [UInt8.ofNat b,UInt8.ofNat c]=true:=by
 grind[Hl,HN,uA,oi]
def di(x:Int):Prop:=0<=x/\x<=255
structure nK (x:fr):Prop where
 k:di x.Kind
 a:di x.A
 b:di x.B
 c:di x.C
 p:∀q,q∈x.cX->di q.ah/\di q.aC/\di q.gH
 l:x.cX.length<=reachBytes
def ef(aI:List fr)(i:Int):Int:=1+(aI.getD i.toNat eG).Kind%9
variable{x:fr}
section
variable {aI:List fr}(cr:∀x,x∈aI->nK x)(bh:aI.length<=5)
include cr bh in
theorem qp{i:Int}(h0:0<=i)(h1:i<aI.length):qc ((⟨aI⟩:ed),i)=some (ef aI i)/\1<=ef aI i/\ef aI i<=9:=by
 obtain⟨j,rfl⟩:∃j:Nat,i=j:=⟨i.toNat,by omega⟩
 have I:=(cr _ (bM (by omega:j<aI.length) eG)).k;unfold ef;obtain⟨a,b⟩:=I;refine⟨?_,by omega,by omega⟩;rw[qc,ai (aU (by omega:j<aI.length)),bz,hW a (by simp),kC ⟨by omega,by omega⟩,jy (by omega) (by omega)]
def CQ(aI:List fr)(i u:Int):Prop:=0<=u/\u<aI.length/\(7<=ef aI u\/u<i)
include cr bh in
theorem I7:∀(k i:Nat),i+k=aI.length->mz ((aI.length:Int),(i:Int),aI)=some (.inr ())\/∃u:Int,mz ((aI.length:Int),(i:Int),aI)=some (.inl u)/\0<=u/\u<aI.length/\7<=ef aI u
 |0,i,a=>.inl (by grind[mz])
 |k+1,i,a=>by
  obtain⟨e,_,_⟩:=qp cr bh (i:=i) (by simp) (by omega);rw[mz,ai (by grind),e];simp[vY];by_cases b:7<=ef aI i
  . grind
  . rw[av (by grind),bO (by omega)];exact I7 k _ (by omega)
include cr bh in
theorem Yw(h1:1<=aI.length){i:Int}(l:0<=i/\i<aI.length)(j:di code):∃u,vZ ((⟨aI⟩:ed),i,code)=some u/\(u<0\/CQ aI i u):=by
 have k:ca .i64 code=code:=kC ⟨by grind[di],by grind[di]⟩;obtain⟨c1,c2⟩:=j;have d:0<=code%(aI.length:Int):=l4 _ (by omega);have f:code%aI.length<aI.length:=l3 _ (by omega);rw[vZ];simp only[bl,aw];rw[ai (zK (by omega)),k,hW c1 (by simp)];obtain⟨e,_,_⟩:=qp cr bh d f;rw[e];simp only[aw,vY];by_cases g:7<=ef aI (code%aI.length)
 . rw[ai (by grind)];exact⟨_,rfl,.inr ⟨d,f,.inl g⟩⟩
 . by_cases aF:code%aI.length<i
   . rw[ai (by grind)];exact⟨_,rfl,.inr ⟨d,f,.inr aF⟩⟩
   . rw[av (by grind)];by_cases al:0<i
     . rw[ai (by grind),ai (by grind),hW d];have a0:0<=code%aI.length%i:=l4 _ (by omega);have a1:code%(aI.length:Int)%i<i:=l3 _ (by omega);exact⟨_,rfl,.inr ⟨a0,by omega,.inr a1⟩⟩
     . rw[av (by grind)];have h0:=I7 cr bh aI.length 0 (by simp);have dc:mz (aI.length,(0:Nat),aI)=mz ((aI.length:Int),0,aI):=rfl;rw[dc]at h0;rcases h0 with h|⟨u,h,a,b,c⟩
       . grind
       . rw[h];exact⟨u,rfl,.inr ⟨a,b,.inl c⟩⟩
def nI(aI:List fr)(u:Int):Prop:=0<=u/\u<aI.length/\1<=ef aI u/\ef aI u<=4
include cr bh in
theorem L5{code:Int}(g:di code)(h1:1<=aI.length):∀(k i:Nat),i+k=aI.length->(mH (code,(aI.length:Int),(i:Int),aI)=some (.inr ())/\∀m:Nat,i<=m->m<aI.length->¬nI aI ((code+m)%(aI.length:Int)))\/∃u:Int,mH (code,(aI.length:Int),(i:Int),aI)=some (.inl u)/\nI aI u
 |0,i,j=>.inl ⟨by simp_all[mH],λm a b=>by omega⟩
 |k+1,i,j=>by
  obtain⟨c1,c2⟩:=g;have c:0<=(code+i)%aI.length:=l4 _ (by omega);have d:(code+i)%aI.length<aI.length:=l3 _ (by omega);obtain⟨e,aN,l⟩:=qp cr bh c d;rw[mH,ai (by grind),ai (zK (by omega)),kC ⟨by omega,by omega⟩,jy (by omega) (by omega),hW (by omega) (by simp)];simp;rw[e];simp only[aw,wK];by_cases f:ef aI ((code+i)%aI.length)<=4
  . rw[ai (by grind)];exact .inr ⟨_,rfl,c,d,aN,f⟩
  . rw[av (by grind),bO (by omega)];rcases L5 ⟨c1,c2⟩ h1 k (i+1) (by omega)with⟨a,b⟩|h
    . refine .inl ⟨a,λm o p=>?_⟩;by_cases n:m=i
      . rintro ⟨_,_,_,h⟩;grind
      grind
    grind
include cr bh in
theorem L6(b:di code)(h1:1<=aI.length):∃u,rv ((⟨aI⟩:ed),code)=some u/\((u= -1/\∀w,¬nI aI w)\/nI aI u):=by
 rw[rv];have h0:=L5 cr bh b h1 aI.length 0 (by simp);have dc:mH (code,aI.length,(0:Nat),aI)=mH (code,(aI.length:Int),0,aI):=rfl;rw[dc]at h0;rcases h0 with⟨h,a⟩|⟨u,h,a⟩
 . rw[h];refine⟨-1,rfl,.inl ⟨rfl,λw c=>?_⟩⟩;have d:=c;obtain⟨ka,i,_⟩:=d;have f:0<=(w-code)%aI.length:=l4 _ (by omega);have g:(w-code)%aI.length<aI.length:=l3 _ (by omega);have e:(code+((w-code)%(aI.length:Int)).toNat)%aI.length=w:=by
    grind[Int.add_emod_emod,Int.emod_eq_of_lt]
   grind
 grind
theorem GI(h:nK x):n2 x=some (x.A%7-3):=by
 have:=h.a;rw[n2,hW this.1 (by simp),kC ⟨by omega,by omega⟩,sd]
theorem KZ(h:nK x):rn x=some (x.A%7-3+x.B%6):=by
 have a:=h.b;rw[rn,GI h];simp;rw[hW a.1 (by simp),kC ⟨by omega,by omega⟩,jy (by omega) (by omega)]
def sN(l:az)(n:Int):Prop:=l.Pairwise (· < ·)/\∀x,x∈l->1<=x/\x<=n
theorem GJ:∀(k i:Nat) (acc:az),i+k=6->sN acc i->acc.length<=i->∃l,nZ ((i:Int),x,acc)=some l/\sN l 6/\l.length<=6
 |0,i,acc,e,c,ag=>⟨acc,by simp_all[nZ,av],⟨c.1,λy ak=>by have:=c.2 y ak;omega⟩,by omega⟩
 |k+1,i,acc,e,c,ag=>by
  have d:sN acc (i+1:Int):=⟨c.1,λy ak=>by have:=c.2 y ak;omega⟩
  rw[nZ,ai (by grind),ai (by rfl)];simp only[bl,aw];rw[bO (by omega)];split
  . rw[ai (e2 (by simp) (by grind))];refine GJ k (i+1) _ (by omega) ⟨?_,λy ak=>?_⟩ (by grind)
    . rw[DA];refine⟨c.1,by simp,λa h1 b f=>?_⟩;have:=c.2 a h1;grind
    . rcases gY.1 ak with h|h
      . have:=c.2 y h;omega
      grind
  . exact GJ k _ _ (by omega) d (by omega)
theorem aa1(x:fr):∃l,mM x=some l/\sN l 6/\1<=l.length/\l.length<=6:=by
 obtain⟨l,h1,c,d⟩:=GJ 6 0 [] (by rfl) ⟨.nil,λy ak=>by grind⟩ (by simp);have b:nZ (0,x,[])=some l:=h1;rw[mM,b];cases l with
 |nil=>
  exact⟨_,rfl,⟨by simp,λy ak=>by grind⟩,by simp,by simp⟩
 |cons a l=>grind
def jI(x:fr):az:=(mM x).getD []
theorem th(x:fr):mM x=some (jI x)/\sN (jI x) 6/\1<=(jI x).length/\(jI x).length<=6:=by
 obtain⟨l,h1,a⟩:=aa1 x;grind[jI]
def lv(k:Int)(x:fr)(key:Prop)(v:ab):Prop:=
 v.bb=[]/\v.ar=[]/\v.Rest=[]/\
 (k=1/\v.Kind=1/\v.bB=0/\v.bL=[]/\v.ah=0\/
  k=2/\v.Kind=2/\v.cd=false/\v.bL=[]/\v.ah=0/\x.A%7-3<=v.bB/\v.bB<=x.A%7-3+x.B%6\/
  k=3/\v.Kind=3/\v.cd=false/\v.bB=0/\v.ah=0/\(v.bL.length:Int)<=x.A%4\/
  k=4/\v.Kind=4/\v.cd=false/\v.bB=0/\v.bL=[]/\v.ah∈jI x\/
  7<=k/\v.cd=false/\v.bB=0/\v.bL=[]/\v.ah=0/\(v.Kind=k/\(k=8->key)\/k=8/\v.Kind=7/\¬key))
def Init(aI:List fr)(t:Int)(v:ab):Prop:=lv (ef aI t) (aI.getD t.toNat eG) (∃w,nI aI w) v
include cr bh in
theorem X1(h1:1<=aI.length){t:Int}(ht:0<=t/\t<aI.length)(l:di code):∃r,wL ((⟨aI⟩:ed),t,code)=some r/\(r.2=false->r.1=aR)/\(r.2=true->Init aI t r.1):=by
 obtain⟨j,rfl⟩:∃j:Nat,t=(j:Int):=⟨t.toNat,by omega⟩
 have c:j<aI.length:=by omega
 have I:=cr _ (bM c eG);obtain⟨e,bn,gr⟩:=qp cr bh ht.1 ht.2;obtain⟨u,s,v⟩:=L6 cr bh (code:=0) ⟨by simp,by simp⟩ h1;obtain⟨c1,c2⟩:=l;rw[wL,ai (aU c)];simp only[bl,aw,bz];rw[e];unfold Init;simp only[bz];have o:=th (aI.getD j eG);generalize ef aI (j:Int)=k at*;generalize aI.getD j eG=x at*;have i:=I.a;have E:=I.b;have m:k=1\/k=2\/k=3\/k=4\/k=5\/k=6\/k=7\/k=8\/k=9:=by omega
 rcases m with rfl|rfl|rfl|rfl|rfl|rfl|rfl|rfl|rfl
 . exact⟨_,rfl,λh=>(by cases h),λ_=>by unfold lv;simp⟩
 . have el:=GI I;have f:=KZ I;have aN:aS .i64 (dM .i64 (x.A%7-3+x.B%6) (x.A%7-3)) 1=x.B%6+1:=by rw[sd,jy (by omega) (by omega)];omega
   have d:cy (ca .i64 code) (x.B%6+1)=code%(x.B%6+1):=by rw[kC ⟨by omega,by omega⟩,hW c1]
   have C:0<=code%(x.B%6+1):=l4 _ (by omega);have D:code%(x.B%6+1)<x.B%6+1:=l3 _ (by omega);have dw:aS .i64 (x.A%7-3) (code%(x.B%6+1))=x.A%7-3+code%(x.B%6+1):=jy (by omega) (by omega);simp only[Int.reduceEq,dn,cL,bU,bN,bJ,aw,eF,dX];rw[el];rw[f];simp only[aw];rw[aN,cg,d,dw];exact⟨_,rfl,λh=>(by cases h),λ_=>by unfold lv;simp;omega⟩
 . simp only[Int.reduceEq,dn,cL,bU,bN,bJ,aw,eF,dX];rw[hW i.1,hW c1];by_cases g:0<x.A%4
   . by_cases g2:code%2=1
     . rw[ai (by simp[g,g2])];exact⟨_,rfl,λh=>(by cases h),λ_=>by unfold lv;simp;omega⟩
     . rw[av (by simp[g2])];exact⟨_,rfl,λh=>(by cases h),λ_=>by unfold lv;simp;omega⟩
   . rw[av (by simp[g])];exact⟨_,rfl,λh=>(by cases h),λ_=>by unfold lv;simp;omega⟩
 . obtain⟨z,F,G,H⟩:=o;simp only[Int.reduceEq,dn,cL,bU,bN,bJ,aw,eF,dX];rw[z];simp only[bl,aw];have C:0<=code%((jI x).length:Int):=l4 _ (by omega);have D:code%((jI x).length:Int)<((jI x).length:Int):=l3 _ (by omega);rw[ai (zK (by omega)),kC ⟨by omega,by omega⟩,hW c1];obtain⟨q,p⟩:∃q:Nat,code%((jI x).length:Int)=(q:Int):=⟨(code%((jI x).length:Int)).toNat,by omega⟩
   rw[p,ai (aU (by omega)),bz];exact⟨_,rfl,λh=>(by cases h),λ_=>by unfold lv;simp;rw[<-sq];exact bM (by omega) 0⟩
 . exact⟨_,rfl,λ_=>rfl,λh=>by cases h⟩
 . exact⟨_,rfl,λ_=>rfl,λh=>by cases h⟩
 . exact⟨_,rfl,λh=>(by cases h),λ_=>by unfold lv;simp⟩
 . simp only[Int.reduceEq,dn,cL,bU,bN,bJ,aw,eF,dX];rw[s];rcases v with⟨rfl,a⟩|a
   . exact⟨_,rfl,λh=>(by cases h),λ_=>by unfold lv;simp;exactλw y=>a w y⟩
   . have n:¬u<0:=by have:=a.1;omega
     simp only[bl,aw];rw[av (by simp[n])];exact⟨_,rfl,λh=>(by cases h),λ_=>by unfold lv;simp;exact⟨u,a⟩⟩
 . exact⟨_,rfl,λh=>(by cases h),λ_=>by unfold lv;simp⟩
structure sQ (aI:List fr)(i:Int)(record:Bool)(m:aY):Prop where
 id:1<=m.ah/\m.ah<=12
 name:m.Name=[UInt8.ofNat 109,UInt8.ofNat (97+m.ah.toNat)]
 qF:CQ aI i m.aC
 eB:m.cJ=true->m.bX=false
 un:record=false->m.cJ=false/\m.bX=false
 OO:m.bX=false->m.bC=aR
 jD:m.bX=true->Init aI m.aC m.bC
include cr bh in
theorem JT(h1:1<=aI.length){i:Int}(e:0<=i/\i<aI.length){x:fr}(I:nK x)(record:Bool){id:Int}(hid:1<=id/\id<=12){acc:List aY}(n:acc.length<=12):
 ∀(k j:Nat),j+k=x.cX.length->∃l,pG (i,record,id,(j:Int),aI,x,acc)=some (i,record,id,aI,x,acc++l)/\l.length<=1/\∀m,m∈l->m.ah=id/\sQ aI i record m
 |0,j,o=>⟨[],by rw[pG,de];simp,by simp,λm q=>by cases q⟩
 |k+1,j,o=>by
  have aF:j<x.cX.length:=by omega
  have H:=eP I.l;obtain⟨z,A,B⟩:=I.p _ (bM aF ab5);obtain⟨u,v,J⟩:=Yw cr bh h1 e A;rw[pG,cg,ai (aU aF)];simp only[bl,aw,bz];have w:vZ ((⟨aI⟩:ed),i,(x.cX.getD j ia).aC)=some u:=v;rw[w];simp only[aw];generalize al:x.cX.getD j ia=p;have K:di p.ah:=by rw[<-al];exact z
  have C:di p.gH:=by rw[<-al];exact B
  obtain⟨f1,f2⟩:=C;have aN:cy p.gH 4=p.gH%4:=hW f1;have g:h4 .u8 p.gH 4=p.gH/4:=abk f1 f2;have G:=JT h1 e I record hid n k (j+1) (by omega);by_cases f:(bif (!(decide (aS .i64 1 (ca .i64 (cy p.ah 12))=id)))then true else decide (u<0))=true
  . rw[ai f,bO (by omega)];exact G
  . rw[av f];have c:CQ aI i u:=(by grind);have t:=L3 (k:=id) ⟨by omega,by omega⟩;rw[t];have s:([109]++[UInt8.ofNat (97+id.toNat)]:aD)=[UInt8.ofNat 109,UInt8.ofNat (97+id.toNat)]:=rfl;rw[ai (gy (by simp)),s,aN,g];obtain⟨r,D,E,F⟩:=X1 cr bh h1 ⟨c.1,c.2.1⟩ (code:=p.gH/4) ⟨by omega,by omega⟩;have d:∀m:aY,room 160 (acc++[m]).length=true:=λm=>e2;have done:∀m:aY,m.ah=id->sQ aI i record m->∃l,(some (i,record,id,aI,x,acc++[m]):Option (Int×Bool×Int×List fr×fr×List aY))=some (i,record,id,aI,x,acc++l)/\l.length<=1/\∀m,m∈l->m.ah=id/\sQ aI i record m:=λm a b=>⟨[m],rfl,by simp,λy ak=>by grind⟩
    cases record with
    |false=>
     simp only[eF,bU,bN];rw[ai (d _)];exact done _ rfl ⟨hid,rfl,c,λh=>(by cases h),λ_=>⟨rfl,rfl⟩,λ_=>rfl,λh=>by cases h⟩
    |true=>
     simp only[dX];by_cases g1:p.gH%4=1
     . rw[ai (by simpa using g1),de,ai (d _)];exact done _ rfl ⟨hid,rfl,c,λ_=>rfl,λh=>(by cases h),λ_=>rfl,λh=>by cases h⟩
     . rw[av (by simpa using g1)];by_cases g2:2<=p.gH%4
       . rw[ai (by simpa using g2),D];simp only[aw,ab.b7];rw[ai (d _)];exact done _ rfl ⟨hid,rfl,c,λh=>(by cases h),λh=>(by cases h),E,F⟩
       . rw[av (by simpa using g2),ai (d _)];exact done _ rfl ⟨hid,rfl,c,λh=>(by cases h),λh=>(by cases h),λ_=>rfl,λh=>by cases h⟩
def sR(aI:List fr)(i:Int)(record:Bool)(l:List aY):Prop:=l.Pairwise (λa b=>a.ah<b.ah)/\(∀m,m∈l->sQ aI i record m)/\l.length<=12
include cr bh in
theorem JU(h1:1<=aI.length){i:Int}(f:0<=i/\i<aI.length)(I:nK x)(record:Bool):∀(k id:Nat) (acc:List aY),id+k=13->1<=id->
 acc.Pairwise (λa b=>a.ah<b.ah)->(∀m,m∈acc->sQ aI i record m/\m.ah<id)->acc.length<id->∃l,pe (i,record,(id:Int),aI,x,acc)=some l/\sR aI i record l
 |0,id,acc,j,h0,d,e,ag=>⟨acc,by rw[pe,de],d,λm g=>(e m g).1,by omega⟩
 |k+1,id,acc,j,h0,d,e,ag=>by
  rw[pe,cg];obtain⟨l,n,l2,r⟩:=JT cr bh h1 f I record (id:=(id:Int)) ⟨by omega,by omega⟩ (acc:=acc) (by omega) x.cX.length 0 (by omega);have o:pG (i,record,(id:Int),0,aI,x,acc)=_:=n;rw[o];simp only[bl,aw];rw[bO (by omega)];refine JU h1 f I record k (id+1) _ (by omega) (by omega) ?_ (λm g=>?_) (by simp;omega)
  . rw[DA];refine⟨d,?_,λa p b q=>?_⟩
    . match l,l2 with
      |[],_=>exact .nil
      |[a],_=>simp
      |a::b::c,h=>simp at h
    grind
  grind
include cr bh in
theorem JV(h1:1<=aI.length){i:Int}(b:0<=i/\i<aI.length)(record:Bool):∃l,r3 ((⟨aI⟩:ed),i,record)=some l/\sR aI i record l:=by
 obtain⟨j,rfl⟩:∃j:Nat,i=(j:Int):=⟨i.toNat,by omega⟩
 have a:j<aI.length:=by omega
 have I:=cr _ (bM a eG);obtain⟨l,d,l2⟩:=JU cr bh h1 b I record 12 1 [] (by omega) (by omega) .nil (λm c=>by cases c) (by simp);refine⟨l,?_,l2⟩;have e:pe ((j:Int),record,1,aI,aI.getD j eG,[])=some l:=d;rw[r3,ai (aU a),bz];grind
def oS(l:az):List dd:=l.map λj=>⟨j,[UInt8.ofNat 115,UInt8.ofNat (97+j.toNat)]⟩
theorem K0{l:az}(ag:l.length<=6)(q:∀x,x∈l->1<=x/\x<=6)(n i:Int)(b:List fr)(a:Int)(c:aD)(d e f g m:Int)(o:Bool)(p:List af):∀(k j:Nat) (acc:List dd),j+k=l.length->acc.length<=j->
 nX (n,i,l,(j:Int),b,a,c,d,e,f,g,m,o,p,acc)=some (n,i,b,a,c,d,e,f,g,m,o,p,acc++oS (l.drop j))
 |0,j,acc,s,r=>by
  rw[nX,de,iw (by omega:l.length<=j)];simp[oS]
 |k+1,j,acc,s,r=>by
  have aF:j<l.length:=by omega
  have I:=q _ (bM aF 0);rw[nX,cg,ai (aU aF),ai (aU aF)];simp only[bl,aw,bz];rw[L3 ⟨by omega,by omega⟩,ai (gy (by simp)),ai (e2),bO (by omega),K0 ag q n i b a c d e f g m o p k (j+1) _ (by omega) (by simp;omega),gm aF 0];simp[oS]
def fu(aI:List fr)(i:Int)(t:af):Prop:=
 let x:=aI.getD i.toNat eG;let n:=(aI.length:Int)
 let a:=[UInt8.ofNat (65+i.toNat)]
 (ef aI i=1/\t=⟨1,[],0,0,0,[],[],0,0,false⟩)\/
 (ef aI i=2/\t=⟨2,[],x.A%7-3,x.A%7-3+x.B%6,0,[],[],0,0,false⟩)\/
 (ef aI i=3/\t=⟨3,[],0,0,x.A%4,[],[],0,0,false⟩)\/
 (ef aI i=4/\∃o,t=⟨4,a,0,0,0,oS (jI x),[],0,0,o⟩)\/
 (ef aI i=5/\∃l,sR aI i true l/\t=⟨5,a,0,0,0,[],l,0,0,false⟩)\/
 (ef aI i=6/\t=⟨5,a,0,0,0,[],[],0,0,false⟩)\/
 (ef aI i=6/\∃l o,sR aI i false l/\0<l.length/\t=⟨6,a,0,0,0,[],l,0,0,o⟩)\/
 (ef aI i=7/\t=⟨7,[],0,0,x.A%4,[],[],0,x.C%n,false⟩)\/
 (ef aI i=8/\(∀w,¬nI aI w)/\t=⟨7,[],0,0,x.A%4,[],[],0,x.C%n,false⟩)\/
 (ef aI i=8/\∃k,nI aI k/\t=⟨8,[],0,0,x.A%4,[],[],k,x.C%n,false⟩)\/
 (ef aI i=9/\t=⟨9,[],0,0,0,[],[],0,x.C%n,false⟩)
include cr bh in
theorem OS(h1:1<=aI.length):∀(k i:Nat) (acc:List af),i+k=aI.length->acc.length=i->(∀j,j<i->fu aI (j:Int) (acc.getD j aL))->
 ∃l,fG ((aI.length:Int),(i:Int),aI,acc)=some l/\l.length=aI.length/\∀j,j<aI.length->fu aI (j:Int) (l.getD j aL)
 |0,i,acc,D,ag,v=>⟨acc,by rw[fG,de],by omega,λj E=>v j (by omega)⟩
 |k+1,i,acc,D,ag,v=>by
  have aF:i<aI.length:=by omega
  have I:=cr _ (bM aF eG);obtain⟨e,bn,gr⟩:=qp cr bh (i:=(i:Int)) (by omega) (by omega);have next:∀t:af,fu aI (i:Int) t->∃l,(if room 120 (acc++[t]).length then fG ((aI.length:Int),aS .i64 (i:Int) 1,aI,acc++[t])else none)=some l/\l.length=aI.length/\∀j,j<aI.length->fu aI (j:Int) (l.getD j aL):=by
   intro t ht;rw[ai (e2),bO (by omega)];refine OS h1 k (i+1) _ (by omega) (by simp;omega) λj E=>?_;grind
  rw[fG,cg,ai (aU aF)];simp only[bl,aw,bz];rw[e];simp only[aw,jz];have p:=abl (k:=(i:Int)) ⟨by omega,by omega⟩;have dy:∀t,fu aI (i:Int) t->fu aI (i:Int) t:=λt h=>h;have⟨r,dU,s⟩:di (aI.getD i eG).A/\di (aI.getD i eG).B/\di (aI.getD i eG).C:=⟨I.a,I.b,I.c⟩
  have m:(!(decide ((aI.length:Int)=0)))=true:=zK (by omega);have n:ca .i64 (cy (aI.getD i eG).A 4)=(aI.getD i eG).A%4:=by
   unfold di at r;rw[hW r.1,kC ⟨by omega,by omega⟩]
  have o:cy (ca .i64 (aI.getD i eG).C) (aI.length:Int)=(aI.getD i eG).C%(aI.length:Int):=by
   unfold di at s;rw[kC ⟨by omega,by omega⟩,hW s.1]
  have z:ef aI (i:Int)=1\/ef aI (i:Int)=2\/ef aI (i:Int)=3\/ef aI (i:Int)=4\/ef aI (i:Int)=5\/ef aI (i:Int)=6\/ef aI (i:Int)=7\/ef aI (i:Int)=8\/ef aI (i:Int)=9:=by omega
  rcases z with d|d|d|d|d|d|d|d|d<;>rw[d] <;>
   simp only[Int.reduceEq,dn,cL,bU,bN,bJ,aw,eF,dX]
  . exact next _ (by unfold fu;simp[d])
  . have el:=GI I;have w:=KZ I;have y:n2 (aI.getD i bw)=_:=el;have x:rn (aI.getD i bw)=_:=w;rw[y];simp only[aw];rw[x];simp only[aw];exact next _ (by unfold fu;simp only[bz];exact .inr (.inl ⟨d,by first|trivial|rfl⟩))
  . have f:ca .i64 (cy (aI.getD i bw).A 4)=_:=n;rw[f];exact next _ (by unfold fu;simp only[bz];exact .inr (.inr (.inl ⟨d,by first|trivial|rfl⟩)))
  . obtain⟨G,J,O,K⟩:=th (aI.getD i eG);have H:mM (aI.getD i bw)=_:=G;rw[H];simp only[aw];have hs:=K0 (l:=jI (aI.getD i eG)) K J.2 (aI.length:Int) (i:Int) aI 4 (mW (ca .i32 (aS .i64 65 (i:Int)))) 0 0 0 0 0 (decide (cy (aI.getD i eG).B 2=1)) acc (jI (aI.getD i eG)).length 0 [] (by omega) (by simp);have F:nX ((aI.length:Int),(i:Int),jI (aI.getD i eG),0,aI,4,mW (ca .i32 (aS .i64 65 (i:Int))),0,0,0,0,0,decide (cy (aI.getD i bw).B 2=1),acc,[])=_:=hs;rw[F];simp only[aw,gh,j7];rw[p];exact next _ (by unfold fu;simp only[bz];exact .inr (.inr (.inr (.inl ⟨d,_,rfl⟩))))
  . obtain⟨l,q,l2⟩:=JV cr bh h1 (i:=(i:Int)) ⟨by omega,by omega⟩ true;rw[q];simp only[aw];rw[p];exact next _ (by unfold fu;simp only[bz];exact .inr (.inr (.inr (.inr (.inl ⟨d,l,l2,rfl⟩)))))
  . obtain⟨l,q,l2⟩:=JV cr bh h1 (i:=(i:Int)) ⟨by omega,by omega⟩ false;rw[q];simp only[aw];rw[p];by_cases h0:l.length=0
    . rw[ai (by simp[h0])];exact next _ (by unfold fu;simp only[bz];exact .inr (.inr (.inr (.inr (.inr (.inl ⟨d,by first|trivial|rfl⟩))))))
    . rw[av (by simp;intro h;rw[h]at h0;simp at h0)];exact next _ (by unfold fu;simp only[bz];exact .inr (.inr (.inr (.inr (.inr (.inr (.inl ⟨d,l,_,l2,by omega,rfl⟩)))))))
  . have f:ca .i64 (cy (aI.getD i bw).A 4)=_:=n;have g:cy (ca .i64 (aI.getD i bw).C) (aI.length:Int)=_:=o;rw[ai m,f,g];exact next _ (by unfold fu;simp only[bz];exact .inr (.inr (.inr (.inr (.inr (.inr (.inr (.inl ⟨d,by first|trivial|rfl⟩))))))))
  . have f:ca .i64 (cy (aI.getD i bw).A 4)=_:=n;have g:cy (ca .i64 (aI.getD i bw).C) (aI.length:Int)=_:=o;obtain⟨u,L,N⟩:=L6 cr bh dU h1;have M:rv ((⟨aI⟩:ed),(aI.getD i bw).B)=some u:=L;rw[M];simp only[aw];rw[ai m,f,g];rcases N with⟨rfl,a⟩|a
    . rw[ai (by simp)];exact next _ (by unfold fu;simp only[bz];exact .inr (.inr (.inr (.inr (.inr (.inr (.inr (.inr (.inl ⟨d,a,by first|trivial|rfl⟩)))))))))
    . rw[av (by have:=a.1;simp;omega)];exact next _ (by unfold fu;simp only[bz];exact .inr (.inr (.inr (.inr (.inr (.inr (.inr (.inr (.inr (.inl ⟨d,u,a,rfl⟩))))))))))
  . have g:cy (ca .i64 (aI.getD i bw).C) (aI.length:Int)=_:=o;rw[ai m,g];exact next _ (by unfold fu;simp only[bz];exact .inr (.inr (.inr (.inr (.inr (.inr (.inr (.inr (.inr (.inr ⟨d,by first|trivial|rfl⟩))))))))))
end
def sL(d:ed):Prop:=d.ei.length<=reachBytes/\∀x,x∈d.ei->nK x
theorem of_eq{d:ed}(aj:sL d):ql d=some (⟨[]⟩,false)\/∃l,ql d=some (⟨l⟩,true)/\1<=d.ei.length/\d.ei.length<=5/\l.length=d.ei.length/\∀j,j<d.ei.length->fu d.ei (j:Int) (l.getD j aL):=by
 rw[ql];simp only[bl,aw];by_cases h:1<=d.ei.length/\d.ei.length<=5
 . obtain⟨l,b,l2,c⟩:=OS aj.2 h.2 h.1 d.ei.length 0 [] (by omega) rfl (λj a=>by omega);grind
 grind
structure dA (ts:List af):Prop where
 dR:1<=ts.length
 ew:ts.length<=5
 T:∀t,t∈ts->e0 t
 V:oZ ts
 D:∀t,t∈ts->oH ts t.ae
 R:∀i:Nat,i<ts.length->∀m,m∈(ts.getD i aL).ae->0<=m.aC/\m.aC<ts.length/\(7<=(ts.getD m.aC.toNat aL).Kind\/m.aC<i)
 L:∀t,t∈ts->t.Kind=2->-3<=t.bH/\t.bK<=8
 M:∀t,t∈ts->t.Max<=3
 b9:∀t,t∈ts->(∀m,m∈t.ae->m.ah<=12)/\(∀y,y∈t.br->y.ah<=6)/\t.ae.length<=12
 W:∀t,t∈ts->∀m,m∈t.ae->m.bX=true->wt m.bC<=13
theorem JW(d:v.bb=[])(c:v.ar=[])(e:v.Rest=[])(hs:v.bL.length<=1000)(dR:hq v.Kind)(a:hq v.bB)(b:hq v.ah):cP v:=by
 refine .mk v (by grind[reachBytes]) (by grind) (by grind) (by grind) (λx I=>?_) (λx I=>?_) (λx I=>?_) dR a b (λx I=>?_)
 all_goals grind
theorem OV:cP aR:=JW rfl rfl rfl (by simp[aR]) (by grind[hq,aR]) (by grind[hq,aR]) (by grind[hq,aR])
theorem Z7(b:v.bb=[])(a:v.ar=[])(c:v.Rest=[]):wt v=10+v.bL.length:=by
 grind[lp,Z5]
section
variable {aI:List fr}(cr:∀x,x∈aI->nK x)(bh:aI.length<=5)(h1:1<=aI.length){l:List af}(ag:l.length=aI.length)(dy:∀j,j<aI.length->fu aI (j:Int) (l.getD j aL))
include cr bh in
theorem K1{t:Int}(ht:0<=t/\t<aI.length)(h:Init aI t v):cP v/\wt v<=13:=by
 obtain⟨a,b,c,h⟩:=h;obtain⟨j,rfl⟩:∃j:Nat,t=j:=⟨t.toNat,by omega⟩
 obtain⟨_,bn,gr⟩:=qp cr bh ht.1 ht.2;rw[bz]at h;have d:=(th (aI.getD j eG)).2.1.2;rw[Z7 a b c];have hs:v.bL.length<=3:=by grind
 refine⟨JW a b c (by omega) ?_ ?_ ?_,by omega⟩
 . unfold hq;rcases h with h|h|h|h|h<;>omega
 . unfold hq;rcases h with⟨_,_,e,_⟩|⟨_,_,_,_,_,e⟩|⟨_,_,_,e,_⟩|⟨_,_,_,e,_⟩|⟨_,_,e,_⟩<;>omega
 . unfold hq;grind
include cr bh in
theorem Hm{i:Int}{r:Bool}{e:List aY}(h:sR aI i r e):oG (!r) e\/(r=false/\e=[]):=by
 obtain⟨a,b,c⟩:=h;by_cases h0:r=false/\e=[]
 . grind
 left;refine⟨λm d=>?_,?_,⟨a,λm d=>?_⟩,λm d=>?_,?_,by omega⟩
 . have q:=b m d;unfold nN;have n:m.bX=false->oF m.bC=true:=λh=>by
    rw[q.OO h];have g:=Bv OV aR;obtain⟨w,p,s⟩:=g;grind[oF]
   have k:=q.eB;have l:=q.un;grind
 . grind
 . have:=(b m d).id;exact⟨by omega,by omega⟩
 . have q:=b m d;have:=q.id;rw[q.name];exact L4 (by simp) (by omega)
 . unfold List.Nodup;rw[oL];refine a.imp_of_mem λ{x y} I ak aF=>?_;have j:=b x I;have f:=b y ak;have o:=f.id;rw[j.name,f.name];grind[uA]
theorem Hn{l:az}(h:sN l 6)(h1:1<=l.length)(a:l.length<=6):yr (oS l)/\(∀y,y∈oS l->y.ah<=6):=by
 unfold oS;refine⟨⟨by grind,⟨?_,λy ak=>?_⟩,λy ak=>?_,?_,by grind⟩,λy ak=>?_⟩
 . rw[oL];exact h.1
 . obtain⟨x,I,rfl⟩:=g'.1 ak;have:=h.2 x I;exact⟨this.1,by grind⟩
 . obtain⟨x,I,rfl⟩:=g'.1 ak;have:=h.2 x I;exact L4 (by simp) (by omega)
 . unfold List.Nodup;rw[oL,oL];refine h.1.imp_of_mem λ{x y} I ak aF=>?_;have b:=h.2 y ak;grind[uA]
 . obtain⟨x,I,rfl⟩:=g'.1 ak;exact(h.2 x I).2
theorem K3{i:Int}(h:fu aI i t):(ef aI i<=5\/ef aI i=7\/ef aI i=9->t.Kind=ef aI i)/\(ef aI i=6->t.Kind=5\/t.Kind=6)/\(ef aI i=8->(t.Kind=8/\∃w,nI aI w)\/(t.Kind=7/\¬∃w,nI aI w)):=by
 rcases h with⟨k,rfl⟩|⟨k,rfl⟩|⟨k,rfl⟩|⟨k,_,rfl⟩|⟨k,_,_,rfl⟩|⟨k,rfl⟩|⟨k,_,_,_,_,rfl⟩|⟨k,rfl⟩|⟨k,a,rfl⟩|⟨k,w,a,rfl⟩|⟨k,rfl⟩<;>simp[k]
 . omega
 grind
theorem E0{i:Int}(h:fu aI i t):t.ae=[]\/∃r,sR aI i r t.ae:=by
 rcases h with⟨k,rfl⟩|⟨k,rfl⟩|⟨k,rfl⟩|⟨k,_,rfl⟩|⟨k,_,a,rfl⟩|⟨k,rfl⟩|⟨k,_,_,a,_,rfl⟩|⟨k,rfl⟩|⟨k,a,rfl⟩|⟨k,w,a,rfl⟩|⟨k,rfl⟩
 all_goals grind
include cr bh h1 ag dy in
theorem aaC:dA l:=by
 have p:∀{P:af->Prop},(∀j,j<aI.length->P (l.getD j aL))->∀t,t∈l->P t:=λal t ht=>by
  obtain⟨i,n,rfl⟩:=jk ht;grind
 have I:∀j,j<aI.length->nK (aI.getD j eG):=λj d=>cr _ (bM d eG);have B:∀j,j<aI.length->∀m,m∈(l.getD j aL).ae->∃r,sQ aI (j:Int) r m:=λj d m f=>by
  rcases E0 (dy j d)with h|⟨r,_,h,_⟩
  . grind
  grind
 have W:∀t,t∈l->e0 t:=p λj d=>by
  have f:=B j d;have ht:=dy j d;have aa:(l.getD j aL).ae.length<=12:=by
   rcases E0 ht with h|⟨r,_,_,h⟩
   . rw[h];simp
   . exact h
  have ab:(l.getD j aL).br.length<=6:=by
   have n:=(th (aI.getD j eG)).2.2.2;unfold fu at ht;rcases ht with⟨k,e⟩|⟨k,e⟩|⟨k,e⟩|⟨k,_,e⟩|⟨k,_,_,e⟩|⟨k,e⟩|⟨k,_,_,_,_,e⟩|⟨k,e⟩|⟨k,_,e⟩|⟨k,_,_,e⟩|⟨k,e⟩<;>rw[e]
   case inr.inr.inr.inl=>simp only[bz,oS,qy];exact n
   all_goals simp
  refine⟨by unfold reachBytes;omega,by unfold reachBytes;omega,λm V=>?_⟩;obtain⟨r,q⟩:=f m V;by_cases aj:m.bX=true
  . exact(K1 cr bh ⟨q.qF.1,q.qF.2.1⟩ (q.jD aj)).1
  . rw[q.OO (by simpa using aj)];exact OV
 have ag:∀u:Int,0<=u->u<aI.length->7<=ef aI u->7<=(l.getD u.toNat aL).Kind:=λu h0 A G=>by
  obtain⟨j,rfl⟩:∃j:Nat,u=(j:Int):=⟨u.toNat,by omega⟩
  rw[bz];obtain⟨_,_,gr⟩:=qp cr bh h0 A;obtain⟨a,b,c⟩:=K3 (dy j (by omega));omega
 have X:oZ l:=by
  refine⟨by omega,p λj d=>?_,λj d=>?_,p λj d=>?_,p λj d D=>?_⟩
  . have ht:=dy j d;have hid:=th (aI.getD j eG);have z:=(I j d).a;have H:=(I j d).b;have E:nm [UInt8.ofNat (65+j)]=true:=aa0 (by omega);unfold di at z H;unfold fu at ht;simp only[bz]at ht;generalize [UInt8.ofNat (65+j)]=ai at E ht;unfold gv;rcases ht with⟨k,e⟩|⟨k,e⟩|⟨k,e⟩|⟨k,_,e⟩|⟨k,g,a,e⟩|⟨k,e⟩|⟨k,g,_,a,a0,e⟩|⟨k,e⟩|⟨k,_,e⟩|⟨k,_,_,e⟩|⟨k,e⟩<;>rw[e]
    . simp
    . simp;omega
    . simp;omega
    . simp;exact⟨E,(Hn hid.2.1 hid.2.2.1 hid.2.2.2).1⟩
    . simp;refine⟨E,?_⟩;rcases Hm cr bh a with h|⟨h,_⟩
      . exact h
      . cases h
    . simp;exact⟨E,λm f=>(by cases f),.inl rfl,⟨.nil,λm f=>by cases f⟩,λm f=>(by cases f),by simp,by simp⟩
    . simp;refine⟨E,?_⟩;rcases Hm cr bh a with h|⟨_,h⟩
      . exact h
      grind
    . simp;omega
    . simp;omega
    . simp;omega
    . simp
  ·
   have R:∀k,k<aI.length->(l.getD k aL).Name=[]\/(l.getD k aL).Name=[UInt8.ofNat (65+k)]:=λk O=>by
    have ht:=dy k O;unfold fu at ht;simp only[bz]at ht;rcases ht with⟨k,e⟩|⟨k,e⟩|⟨k,e⟩|⟨k,_,e⟩|⟨k,g,a,e⟩|⟨k,e⟩|⟨k,g,_,a,a0,e⟩|⟨k,e⟩|⟨k,_,e⟩|⟨k,_,_,e⟩|⟨k,e⟩<;>rw[e]<;>simp
   rcases R j (by omega)with h|h
   . rw[h];simp
   . rw[h];simp only[Bool.and_eq_false_iff];right;apply Bool.eq_false_iff.2;intro J;obtain⟨k,O,he⟩:=(pN (by simp;omega)).1 J;have ao:(l.map (·.Name)).getD k []=(l.getD k aL).Name:=iJ (·.Name) l k aL [] (by omega);rw[ao]at he;rcases R k (by omega)with M|M
     . grind
     . rw[M]at he;simp only[List.cons.injEq,uT]at he;have s:=dP UInt8.toNat he;rw[uA (by omega),uA (by omega)]at s;omega
  . intro u A;have f:=B j d;have J:=(I j d).c;unfold di at J;have S:0<=(aI.getD j eG).C%(aI.length:Int):=l4 _ (by omega);have c1:(aI.getD j eG).C%(aI.length:Int)<aI.length:=l3 _ (by omega);have ht:=dy j d;unfold fu at ht;simp only[bz]at ht;generalize (aI.getD j eG).C%(aI.length:Int)=Z at S c1 ht;unfold e9 at A;simp only[gY,g']at A;rcases A with(⟨m,h,rfl⟩|h)|h
    . obtain⟨r,q⟩:=f m h;have:=q.qF.1;have:=q.qF.2.1;omega
    . split at h
      . rename_i D;have:u=(l.getD j aL).Key:=(by simpa using h);rw[this];rcases ht with⟨k,e⟩|⟨k,e⟩|⟨k,e⟩|⟨k,_,e⟩|⟨k,g,a,e⟩|⟨k,e⟩|⟨k,g,_,a,a0,e⟩|⟨k,e⟩|⟨k,_,e⟩|⟨k,w,a,e⟩|⟨k,e⟩<;>rw[e]at D⊢<;>simp at D⊢;obtain⟨ka,Y,_⟩:=a;omega
      . cases h
    . split at h
      . rename_i G;have:u=(l.getD j aL).aQ:=(by simpa using h);rw[this];rcases ht with⟨k,e⟩|⟨k,e⟩|⟨k,e⟩|⟨k,_,e⟩|⟨k,g,a,e⟩|⟨k,e⟩|⟨k,g,_,a,a0,e⟩|⟨k,e⟩|⟨k,_,e⟩|⟨k,w,a,e⟩|⟨k,e⟩<;>rw[e]at G⊢<;>simp at G⊢<;>omega
      . cases h
  . have ht:=dy j d;unfold fu at ht;simp only[bz]at ht;rcases ht with⟨k,e⟩|⟨k,e⟩|⟨k,e⟩|⟨k,_,e⟩|⟨k,g,a,e⟩|⟨k,e⟩|⟨k,g,_,a,a0,e⟩|⟨k,e⟩|⟨k,_,e⟩|⟨k,w,a,e⟩|⟨k,e⟩<;>rw[e]at D⊢<;>simp at D⊢;obtain⟨ka,Y,ap,aq⟩:=a;obtain⟨q,rfl⟩:∃q:Nat,w=(q:Int):=⟨w.toNat,by omega⟩
    obtain⟨a,_,_⟩:=K3 (dy q (by omega));have:=a (.inl (by omega));simp_all
 refine⟨by omega,by omega,W,X,p λj d m f aj=>?_,λj d m f=>?_,p λj d N=>?_,p λj d=>?_,p λj d=>⟨λm f=>?_,λy ak=>?_,?_⟩,p λj d m f aj=>?_⟩
 . obtain⟨r,q⟩:=B j d m f;have n:=q.jD aj;obtain⟨K,L,_⟩:=q.qF;generalize m.bC=v at n;obtain⟨u,A⟩:∃u:Nat,m.aC=(u:Int):=⟨m.aC.toNat,by omega⟩
   rw[A]at n K L⊢;have ht:=dy u (by omega);obtain⟨a,b,c,n⟩:=n;rw[jd];simp only[bz]at n⊢;unfold fu at ht;simp only[bz]at ht;have U:((l.length:Nat):Int)=aI.length:=(by omega);rw[U];generalize l.getD u aL=x at ht⊢;rw[a,b,c];have an:∀t,eW l true t []:=λt=>by rw[eW];trivial
   have ad:rh []:=λi n=>by simp at n
   have Q:=I u (by omega);generalize aI.getD u eG=zJ at ht n Q;rcases n with⟨k,aN,s,dw,fR⟩|⟨k,aN,s,dw,fR,iL,mx⟩|⟨k,aN,s,dw,fR,iL⟩|⟨k,aN,s,dw,fR,iL⟩|⟨k,aN,s,dw,fR,iL⟩
   . rw[k]at ht;grind
   . rw[k]at ht;grind
   . rw[k]at ht;grind
   . rw[k]at ht;simp only[Int.reduceEq,false_and,true_and,or_false,false_or]at ht;obtain⟨o,rfl⟩:=ht;rw[aN,s,dw,fR];simp;refine⟨by omega,⟨v.ah,[UInt8.ofNat 115,UInt8.ofNat (97+v.ah.toNat)]⟩,?_,rfl⟩;unfold oS;grind
   . rw[aN,s,dw,fR];have gr:ef aI (u:Int)<=9:=(qp cr bh K L).2.2;have T:ef aI (u:Int)=7\/ef aI (u:Int)=8\/ef aI (u:Int)=9:=(by omega);have z:=Q.a;unfold di at z;rcases T with F|F|F
     . rw[F]at ht iL;grind
     . rw[F]at ht iL;grind
     . rw[F]at ht iL;grind
 . obtain⟨r,q⟩:=B j (by omega) m f;obtain⟨K,L,am⟩:=q.qF;grind
 . have ht:=dy j d;have z:=(I j d).a;have H:=(I j d).b;unfold di at z H;unfold fu at ht;simp only[bz]at ht;rcases ht with⟨k,e⟩|⟨k,e⟩|⟨k,e⟩|⟨k,_,e⟩|⟨k,g,a,e⟩|⟨k,e⟩|⟨k,g,_,a,a0,e⟩|⟨k,e⟩|⟨k,_,e⟩|⟨k,w,a,e⟩|⟨k,e⟩<;>rw[e]at N⊢<;>simp at N⊢;omega
 . have ht:=dy j d;have z:=(I j d).a;unfold di at z;unfold fu at ht;simp only[bz]at ht;rcases ht with⟨k,e⟩|⟨k,e⟩|⟨k,e⟩|⟨k,_,e⟩|⟨k,g,a,e⟩|⟨k,e⟩|⟨k,g,_,a,a0,e⟩|⟨k,e⟩|⟨k,_,e⟩|⟨k,w,a,e⟩|⟨k,e⟩<;>rw[e]<;>simp<;>omega
 . obtain⟨r,q⟩:=B j d m f;exact q.id.2
 . have ht:=dy j d;have hid:=th (aI.getD j eG);unfold fu at ht;simp only[bz]at ht;rcases ht with⟨k,e⟩|⟨k,e⟩|⟨k,e⟩|⟨k,_,e⟩|⟨k,g,a,e⟩|⟨k,e⟩|⟨k,g,_,a,a0,e⟩|⟨k,e⟩|⟨k,_,e⟩|⟨k,w,a,e⟩|⟨k,e⟩<;>rw[e]at ak<;>simp at ak;exact(Hn hid.2.1 hid.2.2.1 hid.2.2.2).2 y ak
 . rcases E0 (dy j d)with h|⟨r,_,_,h⟩
   . rw[h];simp
   . exact h
 . obtain⟨r,q⟩:=B j d m f;exact(K1 cr bh ⟨q.qF.1,q.qF.2.1⟩ (q.jD aj)).2
end
theorem DJ{d:ed}(aj:sL d):ql d=some (⟨[]⟩,false)\/∃l,ql d=some (⟨l⟩,true)/\dA l:=by
 rcases of_eq aj with h|⟨l,a,b,c,e,f⟩
 . grind
 . exact .inr ⟨l,a,aaC aj.2 c b e f⟩
def qW(a C:az):Prop:=a.length<=C.length/\∀c,c∈a->c∈C
theorem qW.refl(C:az):qW C C:=⟨e6 _,λ_ h=>h⟩
theorem qW.trans{A B C:az}(h:qW A B)(k:qW B C):qW A C:=⟨hK h.1 k.1,λc a=>k.2 c (h.2 c a)⟩
def y6(C:az):Prop:=∀c,c∈C->di c
theorem y6.gG{A B:az}(h:y6 B)(k:qW A B):y6 A:=λc a=>h c (k.2 c a)
section
variable {ts:List af}
mutual
theorem vf:∀(v:ab) (t:Int),eI ts true t v->eI ts false t v
 |⟨k,b,i,s,id,ks,e,r⟩,t,h=>by
  rw[eI]at h⊢;obtain⟨⟨h1,o,p,A⟩,bh⟩:=h;have w:=Gh e;have B:=Gh ks;have D:=Pj e;refine⟨⟨h1,o,p,λh=>by cases h⟩,?_⟩
  have y:(match d' (ts.getD t.toNat aL).ae id with
   |some m=>r=[]/\e.length=1/\eW ts true m.aC e
   |none=>(ts.getD t.toNat aL).Open=true/\true=false/\dT id/\e=[]/\∃d,r=[⟨id,d⟩])->(match d' (ts.getD t.toNat aL).ae id with
   |some m=>r=[]/\e.length=1/\eW ts false m.aC e
   |none=>(ts.getD t.toNat aL).Open=true/\false=false/\dT id/\e=[]/\∃d,r=[⟨id,d⟩]):=by
   split
   . rintro ⟨a,b,c⟩;exact⟨a,b,w _ c⟩
   . rintro ⟨_,b,_⟩;cases b
  rcases bh with h|h|h|⟨a1,a2,a3,a4,a5,f,g,j⟩|⟨a1,a2,a3,a4,a5,f,g,j⟩|⟨a1,a2,a3,a4,a5,f⟩|⟨a1,a2,a3,a4,a5,f,g,j,a9⟩|⟨a1,a2,a3,a4,a5,f,g,j,a9,q,x⟩|⟨a1,a2,a3,a4,a5,f,g,j,a9⟩
  . exact .inl h
  . grind
  . grind
  . grind
  . grind
  . grind
  . grind
  . grind
  grind
theorem Gh:∀(l:List ab) (t:Int),eW ts true t l->eW ts false t l
 |[],t,h=>by rw[eW];trivial
 |v::l,t,h=>by
  rw[eW]at h⊢;exact⟨vf v t h.1,Gh l t h.2⟩
theorem Pj:∀(l:List ab) (ms:List aY),h6 ts true ms l->h6 ts false ms l
 |[],[],h=>by rw[h6];trivial
 |[],m::ms,h=>by
  have:h6 ts true (m::ms) []=False:=by rw[h6]<;>(intros;simp_all)
  grind
 |v::l,[],h=>by
  have:h6 ts true [] (v::l)=False:=by rw[h6]<;>(intros;simp_all)
  grind
 |v::l,m::ms,h=>by
  rw[h6]at h⊢;exact⟨vf v m.aC h.1,Pj l ms h.2⟩
end
def qB(ts:List af)(t:Nat):Nat:=if 7<=(ts.getD t aL).Kind then 0 else t+1
end
structure R1 (d:qb):Prop where
 s:sL d.S
 t:di d.T
 c:y6 d.C
 l:d.C.length<=reachBytes
theorem F3(H:qT ts)(a:cP v)(t:Int)(pl:Bool):dp (jC ((⟨ts⟩:a7),t,v,pl)) (eI ts pl t v):=by
 obtain⟨r,h1,c⟩:=F2 (by have:=H.n;omega) H.T H.K a t pl;obtain⟨q,d,b⟩:=YW (by have:=H.n;omega) H.T H.K a t pl;rw[h1]at b;have:r=q:=zM b;subst this;exact⟨r,d,c⟩
theorem V6(dy:∀t,t∈ts->e0 t)(iN:oZ ts)(d:cP v){t:Int}(a:eI ts false t v):AE ((⟨ts⟩:a7),t,v)=some 0:=by
 have H:=iN.jo dy;obtain⟨v1,_⟩:=tX dy iN;obtain⟨⟨g1,g2,_⟩,_⟩:=(jd _ _ _).1 a;obtain⟨r,e,f⟩:=F3 H d t false;have c:=f.2 a;subst c;have b:¬((bif decide (t<0)then true else decide (((⟨ts⟩:a7).Types.length:Int)<=t))=true):=by grind
 rw[AE,Eu];simp only[XU,ab.b7];rw[v1];show((if(bif (t<0:Bool)then true else (((⟨ts⟩:a7).Types.length:Int)<=t:Bool)) then some (4:Int)else some 0)>>=_)=_;rw[av b];show(Bu ((⟨ts⟩:a7),t,v)>>=_)=_;rw[Bu];simp only[ab.b7];rw[e];rfl
theorem aaD{l:List Fd}(al:ky jj l=true)(aV:l.Pairwise (λa b=>a.id≠b.id)):(nr jj l).Pairwise (λa b=>a.id<b.id):=by
 have h1:=AA KS l;have c:(nr jj l).Pairwise (λa b=>a.id≠b.id):=(pY jj l).symm.pairwise aV (λ{a b} h=>λe=>h e.symm);refine(h1.and c).imp λ{a b} h=>?_;have:=h.1;have:=h.2;simp only[jj,decide_eq_false_iff_not]at*;omega
theorem Yx{ms:List aY}{l:List ab}{r:List cG}(h:jt ms)(c:lW ms r):(kA ts ms l r).Pairwise (λa b=>a.id≠b.id):=by
 have:=Fu (ts:=ts) (l:=l) h c;have key:∀q:List Fd,ky jj q=true->q.Pairwise (λa b=>a.id≠b.id):=by
  intro q;induction q with
  |nil=>intro _;exact .nil
  |cons a q ih=>
   intro h;simp only[ky,cO,fk,lj,jj,gg]at h;rw[kI];grind
 grind
theorem K4{d:ed}(h:WF cu ⟨.slice (.nm wh),d.ei⟩):sL d:=by
 obtain⟨a,_,c⟩:=yh (t:= .nm wh) h;refine⟨a,λx I=>?_⟩;have e:=c x I;have b:∀{n:Int},WF cu ⟨.int .u8,n⟩->di n:=λ{n} h=>by
  cases h with
  |int k n h=>
   simp[Lit.wf,IntKind.min,IntKind.max,IntKind.bits,IntKind.signed]at h;unfold di;omega
 have c1:=e ⟨.int .u8,x.Kind⟩ (.head _);have c2:=e ⟨.int .u8,x.A⟩ (.tail _ (.head _));have c3:=e ⟨.int .u8,x.B⟩ (.tail _ (.tail _ (.head _)));have c4:=e ⟨.int .u8,x.C⟩ (.tail _ (.tail _ (.tail _ (.head _))));have c5:=e ⟨.slice (.nm A4),x.cX⟩ (.tail _ (.tail _ (.tail _ (.tail _ (.head _)))));obtain⟨i,_,j⟩:=yh (t:= .nm A4) c5;refine⟨b c1,b c2,b c3,b c4,λq g=>?_,i⟩;have f:=j q g;exact⟨b (f ⟨.int .u8,q.ah⟩ (.head _)),b (f ⟨.int .u8,q.aC⟩ (.tail _ (.head _))),b (f ⟨.int .u8,q.gH⟩ (.tail _ (.tail _ (.head _))))⟩
end
section
open Go Go.Proofs.YtkbmjabicjpmjaaGreatDoor.Shv Go.Sort
set_option maxRecDepth 100000

end
section
open Go Go.Proofs.YtkbmjabicjpmjaaGreatDoor.Shv Go.Sort
set_option maxRecDepth 100000
theorem aaE{l m:List ab}(ag:l.length=m.length)(h:∀i,i<l.length->l.getD i aR=m.getD i aR):l=m:=by
 apply DG ag;grind
variable{ms:List aY}
theorem yk(h:jt ms){a b:aY}(c:a∈ms)(d:b∈ms)(e:a.ah=b.ah):a=b:=by
 obtain⟨i,f,rfl⟩:=jk c;obtain⟨j,g,rfl⟩:=jk d;have key:=List.pairwise_iff_getElem.1 h.1;grind
theorem p1{id:Int}{m:aY}(h:d' ms id=some m):m∈ms/\m.ah=id:=
 ⟨List.mem_of_find?_eq_some h,by simpa using List.find?_some h⟩
theorem aaF(c:jt ms){m:aY}(h:m∈ms):d' ms m.ah=some m:=by
 cases a:d' ms m.ah with
 |none=>exact absurd rfl (Bw a m h)
 |some q=>
  obtain⟨h1,b⟩:=p1 a;rw[yk c h1 h b]
theorem Gc{ts:List af}{t:Int}:∀{l:List ab} {x:ab},x∈l->nC ts t x<=mf ts t l
 |v::l,x,h=>by
  rw[mf];rcases fg.1 h with rfl|h
  . omega
  . have:=Gc (ts:=ts) (t:=t) h;omega
theorem I8{ts:List af}:∀{ms:List aY} {l:List ab} {j:Nat},j<ms.length->j<l.length->dG (ms.getD j aG) (l.getD j aR)=false->nC ts (ms.getD j aG).aC (l.getD j aR)<=oU ts ms l
 |m::ms,v::l,0,_,_,a=>by
  simp only[su]at a⊢;rw[oU,av (by rw[a];simp)];omega
 |m::ms,v::l,j+1,h1,b,a=>by
  simp only[DB]at a⊢;have:=I8 (ts:=ts) (by simpa using h1) (by simpa using b) a;rw[oU];grind
end
section
open Go Go.Proofs.YtkbmjabicjpmjaaGreatDoor.Shv Go.Sort
set_option maxRecDepth 100000
variable{a:ab}
theorem JX(h:cP a)(b:ab):eN (tE (a,b)) a b:=by
 obtain⟨r,h1,c⟩:=Cn h b;refine⟨r,?_,c⟩;rw[tE];simp only[ab.b7];rw[h1];rfl
theorem JY(h:cP a)(b:ab):eN (lN (a,b)) a b:=XN h b
theorem aaG:cP (⟨0,false,0,[],0,[],[],[]⟩:ab):= .mk _ (by simp) (by simp) (by simp) (by simp) (λx h=>by cases h) (λx h=>by cases h) (λx h=>by cases h) (by simp) (by simp) (by simp) (λx h=>by cases h)
end
section
open Go Go.Proofs.YtkbmjabicjpmjaaGreatDoor.Shv Go.Sort
set_option maxRecDepth 100000
theorem Bl{l:List ab}{i:Nat}(a:i<l.length):l.set i (l.getD i aR)=l:=by simp_all
theorem I9{a0 a2 a4 z0 z2 z4:Int}{a1 z1:Bool}{a3 z3:aD}{l l2:List ab}{r:List cG}(ag:l.length<=5000000000000)(h:∀y,y∈l->kq y=some y):∀(k i:Nat),i+k=l.length->
 rp ((l.length:Int),(i:Int),a0,a1,a2,a3,a4,z0,z1,z2,z3,z4,l,l2,r)=some (a0,a1,a2,a3,a4,z0,z1,z2,z3,z4,l,l2,r)
 |0,i,a=>by rw[rp,de]
 |k+1,i,a=>by
  have aF:i<l.length:=by omega
  rw[rp,cg,ai (aU aF),bz,cg];simp only[ab.b7];rw[h _ (bM aF aR)];simp only[bl,aw,ab.b7];rw[ai (aU aF),cg,bO (by omega),Bl aF];exact I9 ag h k (i+1) (by omega)
theorem Ii{a0 a2 a4 z0 z2 z4:Int}{a1 z1:Bool}{a3 z3:aD}{l l2:List ab}{r:List cG}(ag:l.length<=5000000000000)(h:∀y,y∈l->kq y=some y):∀(k i:Nat),i+k=l.length->
 rq ((l.length:Int),(i:Int),a0,a1,a2,a3,a4,z0,z1,z2,z3,z4,l,l2,r)=some (a0,a1,a2,a3,a4,z0,z1,z2,z3,z4,l2,l,r)
 |0,i,a=>by rw[rq,de]
 |k+1,i,a=>by
  have aF:i<l.length:=by omega
  rw[rq,cg,ai (aU aF),bz,cg];simp only[ab.b7];rw[h _ (bM aF aR)];simp only[bl,aw,ab.b7];rw[ai (aU aF),cg,bO (by omega),Bl aF];exact Ii ag h k (i+1) (by omega)
theorem yX:∀l:List ab,l.length<=hO l
 |[]=>by simp
 |v::l=>by
  rw[ra,lp,kJ];have:=yX l;omega
theorem JZ(l:List cG):l.length<=(l.map λx=>x.Data.length+1).sum:=by
 induction l with
 |nil=>simp
 |cons a l ih=>simp only[l6,List.sum_cons,kJ];omega
theorem uI{k n:Nat}(a:k<=1000:=by omega)(h:n<=1000000000:=by omega):room k n=true:=by
 unfold room hi dk;simp only[cO,gg];refine⟨?_,by omega⟩;have:(2*n+192)*k<=2000000192*1000:=Nat.mul_le_mul (by omega) a;omega
theorem Yy{v:ab}(e:cP v):wt v<=1000000000->kq v=some v:=by
 induction e with
 |mk v hs h1 j k n m o dR u w x g f=>
  intro p;have q:=lp v;have s:=yX v.bb;have l2:=yX v.ar;have t:=JZ v.Rest;have kk:∀y,y∈v.bb->kq y=some y:=λy ak=>g y ak (by have:=hA ak;omega);have i:∀y,y∈v.ar->kq y=some y:=λy ak=>f y ak (by have:=hA ak;omega);have c1:ga 120 v.bb=some v.bb:=by unfold ga;rw[ai (p5 (uI))]
  have c2:ga 120 v.ar=some v.ar:=by unfold ga;rw[ai (p5 (uI))]
  have c3:ga 24 v.Rest=some v.Rest:=by unfold ga;rw[ai (p5 (uI))]
  have a:=I9 (a0:=v.Kind) (a1:=v.cd) (a2:=v.bB) (a3:=v.bL) (a4:=v.ah) (z0:=0) (z1:=false) (z2:=0) (z3:=[]) (z4:=0) (l:=v.bb) (l2:=v.ar) (r:=v.Rest) (by omega) kk v.bb.length 0 (by omega);have c:=Ii (a0:=v.Kind) (a1:=v.cd) (a2:=v.bB) (a3:=v.bL) (a4:=v.ah) (z0:=0) (z1:=false) (z2:=0) (z3:=[]) (z4:=0) (l:=v.ar) (l2:=v.bb) (r:=v.Rest) (by omega) i v.ar.length 0 (by omega);have b:rp ((v.bb.length:Int),0,v.Kind,v.cd,v.bB,v.bL,v.ah,0,false,0,[],0,v.bb,v.ar,v.Rest)=_:=a;have d:rq ((v.ar.length:Int),0,v.Kind,v.cd,v.bB,v.bL,v.ah,0,false,0,[],0,v.ar,v.bb,v.Rest)=_:=c;rw[kq,c1,c2,c3];simp only[bl,aw];rw[b];simp only[aw];rw[d];simp only[aw];cases v;rfl
variable{x:af}
section
variable {ts:List af}
theorem ad8(c:jt x.ae)(ag:x.ae.length<=1000){id:Int}{m:aY}(bV:d' x.ae id=some m):∃j,j<x.ae.length/\gk (x,id)=some ((j:Int),true)/\x.ae.getD j aG=m:=by
 obtain⟨b,e⟩:=p1 bV;obtain⟨r,f,g⟩:=Ex (t:=x) (id:=id) (by omega);rcases g with⟨j,a,d,_,rfl⟩|⟨q,_⟩
 . exact⟨j,a,f,yk c (bM a aG) b (by rw[d,e])⟩
 . obtain⟨i,k,rfl⟩:=jk b;grind
end
structure qO (ts:List af):Prop where
 S:qT ts
 V:oZ ts
 W:∀x,x∈ts->∀m,m∈x.ae->m.bX=true->kq m.bC=some m.bC
theorem dA.iq{ts:List af}(H:dA ts):qO ts:=⟨H.V.jo H.T,H.V,λx I m a aj=>Yy ((H.T x I).3 m a) (by have:=H.W x I m a aj;omega)⟩
section
variable {ts:List af}
theorem qO.mem(H:qO ts)(I:x∈ts){m:aY}(a:m∈x.ae):0<=m.aC/\m.aC<ts.length:=
 H.V.U x I m.aC (by unfold e9;simp;exact .inl ⟨m,a,rfl⟩)
theorem qO.elem(H:qO ts)(I:x∈ts)(a:7<=x.Kind):0<=x.aQ/\x.aQ<ts.length:=
 H.V.U x I x.aQ (by unfold e9;simp[a])
theorem qO.key(H:qO ts)(I:x∈ts)(a:x.Kind=8):0<=x.Key/\x.Key<ts.length:=
 H.V.U x I x.Key (by unfold e9;simp[a])
end
end
section
open Go Go.Proofs.YtkbmjabicjpmjaaGreatDoor.Shv Go.Sort
set_option maxRecDepth 100000
def fc(C d:Nat)(l:List iK)(m:aY):Nat:=match l.find? (λf=>decide (f.ah=m.ah))with
 |some f=>C*(f.Data.length+1)
 |none=>d
def aE(C d:Nat)(l:List iK)(ms:List aY):Nat:=(ms.map (fc C d l)).sum
theorem J0:∀{A B:List Fd},A.Pairwise (λa b=>a.id<b.id)->B.Pairwise (λa b=>a.id<b.id)->(∀x,x∈A↔x∈B)->A=B
 |[],[],_,_,_=>rfl
 |[],b::B,_,_,h=>by have:=(h b).2 (.head _);grind
 |a::A,[],_,_,h=>by have:=(h a).1 (.head _);grind
 |a::A,b::B,c,c7,h=>by
  rw[kI]at c c7;have e:a=b:=by grind
  subst e;rw[J0 c.2 c7.2 _];grind
variable{α:Type}{tw tr ts:List af}{w v:ab}{j:Nat}{id t rt c:Int}{x y:af}{path:az}{p:aD}{ms:List aY}{aI:List fr}{L:List km}{a:α ⊕ az}
theorem GW{l:List α}{y:α}(d:α)(h:y∈l):∃i,i<l.length/\l.getD i d=y:=by
 obtain⟨i,a,rfl⟩:=jk h;exact⟨i,a,ig a d⟩
abbrev fE:=Int->ab->Int->az->ab ⊕ az
def im{α:Type}:α ⊕ az->List α ⊕ az->List α ⊕ az
 |.inr p,_=>.inr p
 |.inl _,.inr p=>.inr p
 |.inl u,.inl l=>.inl (u::l)
def h2{α a:Type}(g:α->a):α ⊕ az->a ⊕ az
 |.inr p=>.inr p
 |.inl u=>.inl (g u)
def lA{α a:Type}(g:α->a ⊕ az):α ⊕ az->a ⊕ az
 |.inr p=>.inr p
 |.inl u=>g u
def eC(l:List aY)(id:Int):Option Nat:=l.findIdx? λm=>decide (m.ah=id)
def jF(l:List aY)(id:Int):Int×Bool:=match eC l id with
 |some j=>((j:Int),true)
 |none=>(0,false)
def eQ(f:fE)(path:az)(t rt:Int):Nat->List ab->List ab ⊕ az
 |_,[]=>.inl []
 |i,v::l=>im (f t v rt (path++[(i:Int)])) (eQ f path t rt (i+1) l)
noncomputable def yM (m:aY)(w:ab)(n:aY)(a:az):ab ⊕ az->ab ⊕ az
 |.inr p=>if dG m w then .inr a else .inr p
 |.inl u=>if dG m w=true/\dG n u=false then .inr a else .inl u
noncomputable def u5 (f:fE)(x:af)(v:ab)(path:az)(n:aY):ab ⊕ az:=match eC x.ae n.ah with
 |none=>if n.bX then .inl n.bC else .inr (path++[n.ah])
 |some i=>yM (x.ae.getD i aG) (v.ar.getD i aR) n (path++[n.ah]) (f (x.ae.getD i aG).aC (v.ar.getD i aR) n.aC (path++[n.ah]))
noncomputable def iB (f:fE)(x:af)(v:ab)(path:az):List aY->List ab ⊕ az
 |[]=>.inl []
 |n::l=>im (u5 f x v path n) (iB f x v path l)
noncomputable def hN (tw:List af)(y:af)(path:az):List aY->List ab->List cG ⊕ az
 |m::ms,v::l=>if(d' y.ae m.ah).isSome then hN tw y path ms l
  else if m.cJ then .inr (path++[m.ah])
  else if dG m v then hN tw y path ms l
  else im (.inl ⟨m.ah,cI tw m.aC v⟩) (hN tw y path ms l)
 |_,_=>.inl []
def iQ(x y:af)(v:ab):Prop:=(x.Kind=2->y.bH<=v.bB/\v.bB<=y.bK)/\(x.Kind=3->(v.bL.length:Int)<=y.Max)/\(x.Kind=4->(∃s,s∈y.br/\s.ah=v.ah)\/y.Open=true)
noncomputable def u4 (tw:List af)(f:fE)(x y:af)(v:ab)(path:az):ab ⊕ az:=
 lA (λa=>h2 (λr=>⟨5,false,0,[],0,[],a,r⟩) (hN tw y path x.ae v.ar)) (iB f x v path y.ae)
noncomputable def sA (tw:List af)(f:fE)(x y:af)(v:ab)(path:az):ab ⊕ az:=match eC x.ae v.ah with
 |none=>.inr path
 |some i=>match eC y.ae v.ah with
  |some k=>h2 (λu=>⟨6,false,0,[],v.ah,[],[u],[]⟩) (f (x.ae.getD i aG).aC (v.ar.getD 0 aR) (y.ae.getD k aG).aC (path++[v.ah]))
  |none=>if y.Open then .inl ⟨6,false,0,[],v.ah,[],[],[⟨v.ah,cI tw (x.ae.getD i aG).aC (v.ar.getD 0 aR)⟩]⟩else .inr path
def yJ(f:fE)(x y:af)(v:ab)(path:az):ab ⊕ az:=
 if(v.ar.length:Int)<=y.Max then h2 (λa=>⟨7,false,0,[],0,[],a,[]⟩) (eQ f path x.aQ y.aQ 0 v.ar)else .inr path
def yK(f:fE)(x y:af)(v:ab)(path:az):ab ⊕ az:=
 if(v.ar.length:Int)<=y.Max then lA (λks=>h2 (λa=>⟨8,false,0,[],0,ks,a,[]⟩) (eQ f path x.aQ y.aQ 0 v.ar)) (eQ f path x.Key y.Key 0 v.bb)else .inr path
def yL(f:fE)(x y:af)(v:ab)(path:az):ab ⊕ az:=
 h2 (λa=>⟨9,false,0,[],0,[],a,[]⟩) (eQ f path x.aQ y.aQ 0 v.ar)
open Classical in
noncomputable def hM (tw:List af)(f:fE)(x y:af)(v:ab)(path:az):ab ⊕ az:=
 if ¬x.Kind=y.Kind then .inr path
 else if x.Kind=5 then u4 tw f x y v path
 else if x.Kind=6 then sA tw f x y v path
 else if x.Kind=7 then yJ f x y v path
 else if x.Kind=8 then yK f x y v path
 else if x.Kind=9 then yL f x y v path
 else if iQ x y v then .inl v else .inr path
noncomputable def eg (tw tr:List af):Nat->fE
 |0=>λ_ _ _ path=>.inr path
 |n+1=>λt v rt path=>hM tw (eg tw tr n) (tw.getD t.toNat aL) (tr.getD rt.toNat aL) v path
theorem Bx(n:Nat)(t:Int)(v:ab)(rt:Int)(path:az):eg tw tr (n+1) t v rt path=hM tw (eg tw tr n) (tw.getD t.toNat aL) (tr.getD rt.toNat aL) v path:=rfl
section
variable {tw:List af}{f:fE}{x y:af}{v:ab}{path:az}
theorem L7(bE:¬x.Kind=y.Kind):hM tw f x y v path= .inr path:=by unfold hM;rw[ai bE]
theorem O4(bE:x.Kind=y.Kind)(h:x.Kind=5):hM tw f x y v path=u4 tw f x y v path:=by unfold hM;rw[av (λh=>h bE),ai h]
theorem O5(bE:x.Kind=y.Kind)(h:x.Kind=6):hM tw f x y v path=sA tw f x y v path:=by unfold hM;rw[av (λh=>h bE),cV,ai h]
theorem O6(bE:x.Kind=y.Kind)(h:x.Kind=7):hM tw f x y v path=yJ f x y v path:=by unfold hM;rw[av (λh=>h bE),cV,cV,ai h]
theorem O7(bE:x.Kind=y.Kind)(h:x.Kind=8):hM tw f x y v path=yK f x y v path:=by unfold hM;rw[av (λh=>h bE),cV,cV,cV,ai h]
theorem O8(bE:x.Kind=y.Kind)(h:x.Kind=9):hM tw f x y v path=yL f x y v path:=by unfold hM;rw[av (λh=>h bE),cV,cV,cV,cV,ai h]
theorem p6(bE:x.Kind=y.Kind)(h:x.Kind<=4)(ag:iQ x y v):hM tw f x y v path= .inl v:=by unfold hM;rw[av (λh=>h bE),cV,cV,cV,cV,cV,ai ag]
theorem uJ(bE:x.Kind=y.Kind)(h:x.Kind<=4)(ag:¬iQ x y v):hM tw f x y v path= .inr path:=by unfold hM;rw[av (λh=>h bE),cV,cV,cV,cV,cV,av ag]
end
theorem J3{m:aY}{n:aY}{a p:az}:yM m w n a (.inr p)=if dG m w then .inr a else .inr p:=rfl
theorem J4{m:aY}{n:aY}{a:az}{u:ab}:yM m w n a (.inl u)=if dG m w=true/\dG n u=false then .inr a else .inl u:=rfl
theorem hB{l:List aY}(h:eC l id=some j):j<l.length/\(l.getD j aG).ah=id/\∀k,k<j->(l.getD k aG).ah≠id:=by
 obtain⟨h1,a,b⟩:=List.findIdx?_eq_some_iff_getElem.1 h;refine⟨h1,?_,λk c=>?_⟩
 . rw[ig h1];simpa using a
 . rw[ig (by omega)];simpa using b k c
theorem Kh{l:List aY}(h:eC l id=none):∀k,k<l.length->(l.getD k aG).ah≠id:=λk a=>by
 have:=List.findIdx?_eq_none_iff.1 h _ (bM a aG);simpa using this
theorem Ij(l:List aY)(id:Int):sf l id (jF l id):=by
 unfold jF;cases h:eC l id with
 |some j=>exact .inl ⟨j,(hB h).1,(hB h).2.1,(hB h).2.2,rfl⟩
 |none=>exact .inr ⟨Kh h,rfl⟩
theorem um(l:List aY)(id:Int):(eC l id).isSome=(d' l id).isSome:=by
 cases h:eC l id with
 |some j=>
  obtain⟨h1,b,_⟩:=hB h;cases g:d' l id with
  |some _=>rfl
  |none=>exact absurd b (Bw g _ (bM h1 aG))
 |none=>
  cases g:d' l id with
  |none=>rfl
  |some m=>
   obtain⟨c,d⟩:=p1 g;obtain⟨i,a,rfl⟩:=jk c;exact absurd d (by rw[<-ig a aG];exact Kh h i a)
theorem Gv{b:List α ⊕ az}{l:List α}(h:im a b= .inl l):∃u us,a= .inl u/\b= .inl us/\l=u::us:=by
 cases a with
 |inr p=>simp[im]at h
 |inl u=>cases b with
  |inr p=>simp[im]at h
  |inl us=>exact⟨u,us,rfl,rfl,by simpa[im]using h.symm⟩
theorem yl{c:Type}{g:α->c}{b:c}(h:h2 g a= .inl b):∃u,a= .inl u/\b=g u:=by
 cases a with
 |inr p=>simp[h2]at h
 |inl u=>exact⟨u,rfl,by simpa[h2]using h.symm⟩
theorem Ik{c:Type}{g:α->c ⊕ az}{b:c}(h:lA g a= .inl b):∃u,a= .inl u/\g u= .inl b:=by
 cases a with
 |inr p=>simp[lA]at h
 |inl u=>exact⟨u,rfl,by simpa[lA]using h⟩
theorem By{f:fE}{path:az}{t rt:Int}:∀{l:List ab} {i:Nat} {us:List ab},eQ f path t rt i l= .inl us->us.length=l.length/\∀j,j<l.length->f t (l.getD j aR) rt (path++[((i+j:Nat):Int)])= .inl (us.getD j aR)
 |[],i,us,h=>by
  simp only[eQ,Sum.inl.injEq]at h;subst h;exact⟨rfl,λj c=>by simp at c⟩
 |v::l,i,us,h=>by
  obtain⟨u,e,h1,d,rfl⟩:=Gv h;obtain⟨a,b⟩:=By d;refine⟨by simp[a],λj c=>?_⟩;cases j with
  |zero=>exact h1
  |succ j=>
   have:=b j (by simpa using c);rw[show i+1+j=i+(j+1) by omega]at this;exact this
theorem Il{f:fE}{x:af}{v:ab}{path:az}:∀{l:List aY} {us:List ab},iB f x v path l= .inl us->us.length=l.length/\∀j,j<l.length->u5 f x v path (l.getD j aG)= .inl (us.getD j aR)
 |[],us,h=>by
  simp only[iB,Sum.inl.injEq]at h;subst h;exact⟨rfl,λj c=>by simp at c⟩
 |n::l,us,h=>by
  obtain⟨u,e,h1,d,rfl⟩:=Gv h;obtain⟨a,b⟩:=Il d;refine⟨by simp[a],λj c=>?_⟩;cases j with
  |zero=>exact h1
  |succ j=>exact b j (by simpa using c)
variable{f:fE}
theorem aaH{n:aY}{u:ab}(h:u5 f x v path n= .inl u):
 (eC x.ae n.ah=none/\n.bX=true/\u=n.bC)\/∃i,eC x.ae n.ah=some i/\f (x.ae.getD i aG).aC (v.ar.getD i aR) n.aC (path++[n.ah])= .inl u/\(dG (x.ae.getD i aG) (v.ar.getD i aR)=true->dG n u=true):=by
 unfold u5 at h;cases a:eC x.ae n.ah with
 |none=>
  simp only[a]at h;by_cases aj:n.bX=true
  . rw[ai aj]at h;exact .inl ⟨rfl,aj,by simpa using h.symm⟩
  . rw[av aj]at h;cases h
 |some i=>
  simp only[a]at h;refine .inr ⟨i,rfl,?_⟩;revert h;cases f (x.ae.getD i aG).aC (v.ar.getD i aR) n.aC (path++[n.ah])with
  |inr p=>intro h;unfold yM at h;grind
  |inl w=>intro h;unfold yM at h;grind
theorem BG{tw:List af}{y:af}{path:az}:∀{ms:List aY} {l:List ab} {r:List cG},hN tw y path ms l= .inl r->
 r.length<=ms.length/\(r.map λa=>a.ah).Sublist (ms.map λm=>m.ah)/\∀a,a∈r->d' y.ae a.ah=none/\∃j,j<ms.length/\j<l.length/\a=⟨(ms.getD j aG).ah,cI tw (ms.getD j aG).aC (l.getD j aR)⟩
 |[],l,r,h=>by
  rw[hN]at h
  . cases h;simp
  . intros;simp_all
 |m::ms,[],r,h=>by
  rw[hN]at h
  . cases h;simp
  . intros;simp_all
 |m::ms,v::l,r,h=>by
  have f:∀{r},hN tw y path ms l= .inl r->r.length<=(m::ms).length/\(r.map λa=>a.ah).Sublist ((m::ms).map λm=>m.ah)/\∀a,a∈r->d' y.ae a.ah=none/\∃j,j<(m::ms).length/\j<(v::l).length/\a=⟨((m::ms).getD j aG).ah,cI tw ((m::ms).getD j aG).aC ((v::l).getD j aR)⟩:=λ{r} h=>by
   obtain⟨a,b,c⟩:=BG h;refine⟨by simp;omega,by rw[l6];exact b.cons _,λq d=>?_⟩;obtain⟨c1,j,i,k,e⟩:=c q d;exact⟨c1,j+1,by simp;omega,by simp;omega,e⟩
  rw[hN]at h;by_cases c1:(d' y.ae m.ah).isSome=true
  . rw[ai c1]at h;exact f h
  rw[av c1]at h;by_cases c2:m.cJ=true
  . rw[ai c2]at h;cases h
  rw[av c2]at h;by_cases c3:dG m v=true
  . rw[ai c3]at h;exact f h
  rw[av c3]at h;obtain⟨u,us,aN,g,rfl⟩:=Gv h;cases aN;obtain⟨a,b,c⟩:=BG g;refine⟨by simp;omega,by rw[l6,l6];exact b.cons₂ _,λq d=>?_⟩;rcases fg.1 d with rfl|d
  . exact⟨by simpa using c1,0,by simp,by simp,rfl⟩
  . exact(f g).2.2 q d
section
variable {ts:List af}
theorem yW{n:Nat}(h:n<16384):(iV n).length<=2:=FZ 1 n (by simpa using h)
theorem uo(h:p.length<16384):(gz p).length<=p.length+2:=by
 have:=yW h;unfold gz;simp;omega
def kQ(ts:List af)(t:Int)(v:ab):Prop:=(cI ts t v).length+4<=wt v
theorem Cs{t:Int}:∀{l:List ab},hO l<=3000->(∀y,y∈l->kQ ts t y)->((cz ts t l).flatMap gz).length<=hO l
 |[],_,_=>by rw[cz];simp
 |v::l,a,h=>by
  rw[cz,j6,dQ];rw[ra]at a⊢;have h1:=h v (.head _);unfold kQ at h1;have b:=Cs (t:=t) (l:=l) (by omega) λx I=>h x (.tail _ I);have c:=uo (p:=cI ts t v) (by omega);omega
theorem Ki{l:List ab}(h:∀y,y∈l->kQ ts t y):((cz ts t l).headD []).length+4<=hO l\/l=[]:=by
 cases l with
 |nil=>exact .inr rfl
 |cons v l=>
  refine .inl ?_;have h1:=h v (.head _);unfold kQ at h1;rw[cz,ra];grind
theorem J5:∀{ms:List aY} {l:List ab},hO l<=3000->(∀m,m∈ms->m.ah<=1000)->l.length=ms.length->(∀i,i<ms.length->kQ ts (ms.getD i aG).aC (l.getD i aR))->((eH ts ms l).flatMap Fd.text).length<=hO l
 |[],l,_,_,_,_=>by rw[eH]<;>simp
 |m::ms,[],_,_,ag,_=>by simp at ag
 |m::ms,v::l,c,a,ag,h=>by
  rw[ra]at c⊢;rw[eH];have h1:kQ ts m.aC v:=h 0 (by simp);unfold kQ at h1;have d:=J5 (ms:=ms) (l:=l) (by omega) (λx I=>a x (.tail _ I)) (by simpa using ag) λi b=>h (i+1) (by simpa using b);have f:=a m (.head _);split
  . omega
  . rw[j6,dQ];have a1:=uo (p:=cI ts m.aC v) (by omega);have a2:=yW (n:=2*m.ah.toNat+(if m.cJ then 1 else 0)) (by split<;>omega);have e:(Fd.text ⟨m.ah.toNat,m.cJ,cI ts m.aC v⟩).length<=(cI ts m.aC v).length+4:=by
     show(kz m.ah.toNat m.cJ (cI ts m.aC v)).length<=_;unfold kz;grind
    omega
theorem Yz(H:dA ts)(u:cP v):∀t,eI ts true t v->wt v<=3000->kQ ts t v:=by
 have c:=H.V.jo H.T;induction u with
 |mk v hs h1 J K Q O R dR X Y Z x w=>
  intro t r U;obtain⟨⟨g1,g2,g3,g4⟩,p⟩:=(jd _ _ _).1 r;have s:t.toNat<ts.length:=by omega
  have b:=bM s aL;have o:=g4 rfl;have W:=lp v;have aX:∀y,y∈v.bb->wt y+10<=wt v:=λy ak=>by have:=hA ak;omega
  have B:∀y,y∈v.ar->wt y+10<=wt v:=λy ak=>by have:=hA ak;omega
  have z:∀t,eW ts true t v.bb->∀y,y∈v.bb->kQ ts t y:=λt ht y ak=>x y ak t (eO.1 ht y ak) (by have:=aX y ak;omega);have e:∀t,eW ts true t v.ar->∀y,y∈v.ar->kQ ts t y:=λt ht y ak=>w y ak t (eO.1 ht y ak) (by have:=B y ak;omega);unfold kQ;rcases p with h|h|h|h|h|h|h|h|h
  . rw[Gq (by omega)];grind
  . have N:=H.L _ b (by omega);rw[Gr (by omega)];have:=yi 1 (hp v.bB).toNat (by unfold hp;split<;>omega);omega
  . rw[Gs (by omega)];omega
  . rw[Gt (by omega)];have hid:v.ah.toNat<256^2:=by
     rcases h.2.2.2.2.2.2.2 with⟨y,D,aa⟩|⟨_,h,_⟩
     . have:=c.S _ b (by omega) y D;unfold dT at this;omega
     . cases h
    have:=yi 2 _ hid;omega
  . obtain⟨a1,a2,a3,a4,a5,a,f,d⟩:=h;obtain⟨g,C⟩:=c.A _ b (.inl (by omega));obtain⟨f1,f2⟩:=lQ.1 d;rw[Cw (by omega),Ft (pY _ _)];unfold kA;rw[o,List.map_nil,ny];have:=J5 (ts:=ts) (l:=v.ar) (by omega) (c.M _ b) f1 λi P=>by grind
    omega
  . obtain⟨a1,a2,a3,a4,a5,a⟩:=h;rw[yS (by omega)];cases bV:d' (ts.getD t.toNat aL).ae v.ah with
    |none=>rw[bV]at a;cases a.2.1
    |some m=>
     rw[bV]at a;obtain⟨F,G,k⟩:=a;obtain⟨g,C⟩:=p1 bV;have hid:=c.M _ b m g;have:=yW (n:=v.ah.toNat) (by omega);rw[dQ];rcases Ki (e _ k)with q|q
     . grind
     grind
  . obtain⟨a1,a2,a3,a4,a5,a,f,d,a9⟩:=h;rw[yT (by omega)];have:=Cs (l:=v.ar) (by omega) (e _ a9);omega
  . obtain⟨a1,a2,a3,a4,a5,a,f,d,a9,j,E⟩:=h;rw[yU (by omega)];have aN:=Cs (l:=v.ar) (by omega) (e _ j);have I:=Cs (l:=v.bb) (by omega) (z _ a9);have:=Cp (cz ts (ts.getD t.toNat aL).Key v.bb) (cz ts (ts.getD t.toNat aL).aQ v.ar);omega
  . obtain⟨a1,a2,a3,a4,a5,a,f,d,a9⟩:=h;rw[yV (by omega)];rcases Ki (e _ a9)with q|q
    . grind
    . rw[q,cz];simp;omega
end
def fX(ts:List af):Nat->Int->ab->Prop
 |0,_,_=>False
 |n+1,t,v=>((cI ts t v).length<=4096/\v.ar.length<=1000/\v.bb.length<=1000)/\
  ((ts.getD t.toNat aL).Kind=5->∀i,i<(ts.getD t.toNat aL).ae.length->fX ts n ((ts.getD t.toNat aL).ae.getD i aG).aC (v.ar.getD i aR))/\
  ((ts.getD t.toNat aL).Kind=6->∀m,d' (ts.getD t.toNat aL).ae v.ah=some m->∀y,y∈v.ar->fX ts n m.aC y)/\
  (7<=(ts.getD t.toNat aL).Kind->(∀y,y∈v.ar->fX ts n (ts.getD t.toNat aL).aQ y)/\∀y,y∈v.bb->fX ts n (ts.getD t.toNat aL).Key y)
section
variable {ts:List af}
theorem fX.len{n:Nat}(h:fX ts n t v):(cI ts t v).length<=4096:=by
 cases n with
 |zero=>cases h
 |succ n=>exact h.1.1
theorem BH(p:aD):p.length<=(gz p).length:=by unfold gz;simp
theorem GX{t:Int}:∀{l:List ab} {y:ab},y∈l->(cI ts t y).length<=((cz ts t l).flatMap gz).length
 |v::l,y,h=>by
  rw[cz,j6,dQ];rcases fg.1 h with rfl|h
  . have:=BH (cI ts t y);omega
  . have:=GX (t:=t) h;omega
theorem F4:∀{ms:List aY} {l:List ab} (i:Nat),i<ms.length->i<l.length->dG (ms.getD i aG) (l.getD i aR)=false->(cI ts (ms.getD i aG).aC (l.getD i aR)).length<=((eH ts ms l).flatMap Fd.text).length
 |m::ms,v::l,0,_,_,a=>by
  rw[eH];simp only[su]at a⊢;rw[av (by simp[a]),j6,dQ];have c:(cI ts m.aC v).length<=(Fd.text ⟨m.ah.toNat,m.cJ,cI ts m.aC v⟩).length:=by
   show _<=(kz m.ah.toNat m.cJ (cI ts m.aC v)).length;have:=BH (cI ts m.aC v);unfold kz;simp only[dQ];omega
  omega
 |m::ms,v::l,i+1,h1,b,a=>by
  have:=F4 (ms:=ms) (l:=l) i (by simpa using h1) (by simpa using b) (by simpa using a);rw[eH];simp only[DB];split
  . exact this
  . rw[j6,dQ];omega
theorem aeh{m:aY}(h:dG m v=true):m.bX=true/\v=m.bC:=by
 unfold dG at h;grind
theorem Cb:∀{a b:List aD} {p:aD},a.length=b.length->p∈a\/p∈b->p.length<=(iO a b).length
 |[],[],p,_,h=>by simp at h
 |k::ks,v::vs,p,ag,h=>by
  have aN:=BH k;have c:=BH v;have ih:=@Cb ks vs p (by simpa using ag);simp only[iO,dQ];simp only[fg]at h;grind
theorem ya:∀{l:List ab} {y:ab},y∈l->cI ts t y∈cz ts t l
 |v::l,y,h=>by
  rw[cz];rcases fg.1 h with rfl|h
  . simp
  . exact .tail _ (ya h)
theorem Z8(c:(ts.getD t.toNat aL).Kind<=4)(b:eI ts true t v):nC ts t v=1:=by
 obtain⟨⟨_,_,bY,_⟩,a⟩:=(jd _ _ _).1 b;refine Y0 ?_ ?_
 . rcases a with k|k|k|k|k|k|k|k|k
   . exact k.2.2.2.2.1
   . exact k.2.2.2.2.1
   . exact k.2.2.2.2.1
   . exact k.2.2.2.2.1
   all_goals omega
 . rcases a with k|k|k|k|k|k|k|k|k
   . exact k.2.2.2.2.2.1
   . exact k.2.2.2.2.2.1
   . exact k.2.2.2.2.2.1
   . exact k.2.2.2.2.2.1
   all_goals omega
theorem oO(H:dA ts):∀(n:Nat) {v:ab} {t:Int},cP v->eI ts true t v->(cI ts t v).length<=4096\/wt v<=3000->nC ts t v+13<=n\/wt v<=n->fX ts n t v
 |0,v,t,_,_,_,aj=>by have:=abj v;omega
 |n+1,v,t,g,B,c,aj=>by
  have C:=H.V.jo H.T;have ag:(cI ts t v).length<=4096:=by
   rcases c with h|h
   . exact h
   . have:=Yz H g t B h;unfold kQ at this;omega
  have am:=lp v;obtain⟨⟨g1,g2,g3,g4⟩,I⟩:=(jd _ _ _).1 B;have J:t.toNat<ts.length:=by omega
  have s:=bM J aL;have ad:=H.M _ s;have aa:=(H.b9 _ s).2.2;have G:=g4 rfl;cases g with
  |mk _ hs h1 X Y K j al dR ao ap aq=>
  have r:wt v<=3000->∀y,y∈v.ar->wt y<=3000:=λh y ak=>by have:=hA ak;omega
  have R:wt v<=3000->∀y,y∈v.bb->wt y<=3000:=λh y ak=>by have:=hA ak;omega
  have w:wt v<=n+1->∀y,y∈v.ar->wt y<=n:=λh y ak=>by have:=hA ak;omega
  have O:wt v<=n+1->∀y,y∈v.bb->wt y<=n:=λh y ak=>by have:=hA ak;omega
  have o:=KT (ts:=ts) t v
  have bI:7<=(ts.getD t.toNat aL).Kind->∀y,y∈v.ar->nC ts (ts.getD t.toNat aL).aQ y+13<=n\/wt y<=n:=λZ y ak=>aj.imp (λaj=>by
   rw[av (show ¬(ts.getD t.toNat aL).Kind=5 by omega),av (show ¬(ts.getD t.toNat aL).Kind=6 by omega)]at o;have:=Gc (ts:=ts) (t:=(ts.getD t.toNat aL).aQ) ak
   omega) λaj=>w aj _ ak
  have u:v.ar=[]->v.bb=[]->v.ar.length<=1000/\v.bb.length<=1000:=λa b=>by rw[a,b];simp
  unfold fX;rcases I with h|h|h|h|h|h|h|h|h
  . obtain⟨a1,a2,a3,a4,a5,d,f⟩:=h;exact⟨⟨ag,u d a5⟩,by omega,by omega,by omega⟩
  . obtain⟨a1,a2,a3,a4,a5,d,f,_⟩:=h;exact⟨⟨ag,u d a5⟩,by omega,by omega,by omega⟩
  . obtain⟨a1,a2,a3,a4,a5,d,f,_⟩:=h;exact⟨⟨ag,u d a5⟩,by omega,by omega,by omega⟩
  . obtain⟨a1,a2,a3,a4,a5,d,f,_⟩:=h;exact⟨⟨ag,u d a5⟩,by omega,by omega,by omega⟩
  . obtain⟨a1,a2,a3,a4,a5,d,f,k⟩:=h;obtain⟨f1,f2⟩:=lQ.1 k;refine⟨⟨ag,by omega,by rw[d];simp⟩,λ_ i l=>?_,by omega,by omega⟩;have q:=bM (by omega:i<v.ar.length) aR;cases x:dG ((ts.getD t.toNat aL).ae.getD i aG) (v.ar.getD i aR)with
    |true=>
     obtain⟨P,Q⟩:=aeh x;have fc:=H.W _ s _ (bM l aG) P;rw[<-Q]at fc;refine oO H n (j _ q) (f2 i l) (.inr (by omega)) (.inr ?_);rcases aj with aj|aj
     . omega
     . exact w aj _ q
    |false=>
     refine oO H n (j _ q) (f2 i l) ?_ (aj.imp (λaj=>by
      rw[ai (show(ts.getD t.toNat aL).Kind=5 by omega)]at o;have:=I8 (ts:=ts) l (by omega:i<v.ar.length) x
      omega) λaj=>w aj _ q)
     rcases c with c|c
     . left;have h0:=F4 (ts:=ts) i l (by omega:i<v.ar.length) x;rw[Cw (by omega),Ft (pY _ _)]at ag;unfold kA at ag;rw[G,List.map_nil,ny]at ag;omega
     . exact .inr (r c _ q)
  . obtain⟨a1,a2,a3,a4,a5,d⟩:=h;cases bV:d' (ts.getD t.toNat aL).ae v.ah with
    |none=>rw[bV]at d;cases d.2.1
    |some m=>
     rw[bV]at d;obtain⟨U,E,F⟩:=d;refine⟨⟨ag,by omega,by rw[a5];simp⟩,by omega,λ_ an L y ak=>?_,by omega⟩;cases L
     refine oO H n (j _ ak) (eO.1 F _ ak) ?_ (aj.imp (λaj=>by
      rw[av (show ¬(ts.getD t.toNat aL).Kind=5 by omega),ai (show(ts.getD t.toNat aL).Kind=6 by omega),bV]at o;have:=Gc (ts:=ts) (t:=m.aC) ak;dsimp only at o
      omega) λaj=>w aj _ ak)
     rcases c with c|c
     . left;rw[yS (by omega),bV,dQ]at ag;have z:(cz ts m.aC v.ar).headD []=cI ts m.aC y:=by
        match g:v.ar,E with
        |[a],_=>rw[g]at ak;rw[kH.1 ak,cz,cz];rfl
       simp only[z]at ag;omega
     . exact .inr (r c _ ak)
  . obtain⟨a1,a2,a3,a4,a5,d,f,k,a9⟩:=h;have A:=bI (by omega);refine⟨⟨ag,by omega,by simp_all⟩,by omega,by omega,λ_=>⟨λy ak=>oO H n (j _ ak) (eO.1 a9 _ ak) ?_ (A _ ak),λy ak=>by simp_all⟩⟩;rcases c with c|c
    . left;rw[yT (by omega)]at ag;have:=GX (ts:=ts) (t:=(ts.getD t.toNat aL).aQ) ak;omega
    . exact .inr (r c _ ak)
  . obtain⟨a1,a2,a3,a4,a5,d,f,k,a9,D,S⟩:=h;have af:=Cp (cz ts (ts.getD t.toNat aL).Key v.bb) (cz ts (ts.getD t.toNat aL).aQ v.ar)
    refine⟨⟨ag,by omega,by omega⟩,by omega,by omega,λ_=>⟨λy ak=>oO H n (j _ ak) (eO.1 D _ ak) ?_ (bI (by omega) _ ak),λy ak=>oO H n (K _ ak) (eO.1 a9 _ ak) ?_ (aj.imp (λaj=>by
     have N:v.bb≠[]:=λe=>by rw[e]at ak;cases ak
     rw[av N]at o;have:=Z8 (C.sO _ s (by omega)).2 (eO.1 a9 _ ak)
     omega) λaj=>O aj _ ak)⟩⟩
    all_goals
     rcases c with c|c
     case inr=>first|exact .inr (r c _ ak)|exact .inr (R c _ ak)
     left;rw[yU (by omega)]at ag;have e:(cz ts (ts.getD t.toNat aL).Key v.bb).length=(cz ts (ts.getD t.toNat aL).aQ v.ar).length:=by rw[wV,wV];omega
     have:=Cb (p:=cI ts _ y) e (by first|exact .inr (ya ak)|exact .inl (ya ak));omega
  . obtain⟨a1,a2,a3,a4,a5,d,f,k,a9⟩:=h;have A:=bI (by omega);refine⟨⟨ag,by omega,by simp_all⟩,by omega,by omega,λ_=>⟨λy ak=>oO H n (j _ ak) (eO.1 a9 _ ak) ?_ (A _ ak),λy ak=>by simp_all⟩⟩;rcases c with c|c
    . left;rw[yV (by omega)]at ag;have z:cz ts (ts.getD t.toNat aL).aQ v.ar=[cI ts (ts.getD t.toNat aL).aQ y]:=by
       match g:v.ar,k with
       |[a],_=>rw[g]at ak;rw[kH.1 ak,cz,cz]
       |[],_=>rw[g]at ak;cases ak
      rw[z]at ag;rw[kJ]at ag;omega
    . exact .inr (r c _ ak)
end
section
variable {tw tr:List af}
theorem YA{n:Nat}{u:ab}(a:(tw.getD t.toNat aL).Kind<=4)(h:eg tw tr n t v rt path= .inl u):u=v:=by
 cases n with
 |zero=>cases h
 |succ n=>
  rw[Bx]at h;unfold hM at h;grind
theorem YB(c:∀v rt path u,f t v rt path= .inl u->u=v){i:Nat}{l us:List ab}(h:eQ f path t rt i l= .inl us):us=l:=by
 obtain⟨a,b⟩:=By h;exact aaE a λj d=>c _ _ _ _ (b j (by omega))
theorem aaI{l:List ab}{r:List cG}(d:jt ms)(h:hN tw y path ms l= .inl r):lW y.ae r:=by
 obtain⟨_,b,c⟩:=BG h;refine⟨?_,λa f=>?_⟩
 . have h1:(ms.map λm=>m.ah).Pairwise (· < ·):=oL.2 d.1;grind
 . obtain⟨c1,j,g,i,e⟩:=c a f;refine⟨?_,c1⟩;rw[e];exact d.2 _ (bM g aG)
theorem dT.i64{n:Int}(h:dT n): -9223372036854775808<=n/\n<=9223372036854775807:=by unfold dT at h;omega
def Cc(tr:List af)(rt:Int)(u:ab):Prop:=cP u/\eI tr false rt u
def CP(tw tr:List af)(n:Nat):Prop:=∀{v:ab},cP v->∀{t rt:Int} {path:az} {u:ab},eI tw true t v->fX tw n t v->0<=rt->rt<tr.length->eg tw tr n t v rt path= .inl u->Cc tr rt u
theorem X2(HW:dA tw)(HR:dA tr){n:Nat}(ih:CP tw tr n):CP tw tr (n+1):=by
 intro v ap t rt path u aB aq p s h;unfold fX at aq;obtain⟨⟨z1,z2,z3⟩,ad,af,J⟩:=aq;have SW:=HW.V.jo HW.T;have cm:=HR.V.jo HR.T;have P:=ap;have aW:=lp v;obtain⟨⟨g1,g2,g3,g4⟩,aA⟩:=(jd _ _ _).1 aB;have aD:t.toNat<tw.length:=by omega
 have aE:rt.toNat<tr.length:=by omega
 have O:=bM aD aL;have o:=bM aE aL;have l:=λu=>(jd (ts:=tr) false rt u).2;rw[Bx]at h;generalize I:tw.getD t.toNat aL=x at*;generalize ak:tr.getD rt.toNat aL=y at*;cases ap with
 |mk _ hs h1 aS aT an X aV dR a6 a7 a8=>
 have aa:∀{t rt:Int} {i:Nat} {us:List ab},eW tw true t v.ar->(∀y,y∈v.ar->fX tw n t y)->0<=rt->rt<tr.length->eQ (eg tw tr n) path t rt i v.ar= .inl us->us.length=v.ar.length/\(∀q,q∈us->cP q)/\eW tr false rt us:=λ{t rt i us} W c a0 a1 al=>by
  obtain⟨a,b⟩:=By al;have key:∀q,q∈us->Cc tr rt q:=λq Y=>by
   obtain⟨j,F,rfl⟩:=GW aR Y;have g:=bM (by omega:j<v.ar.length) aR;exact ih (X _ g) (eO.1 W _ g) (c _ g) a0 a1 (b j (by omega))
  exact⟨a,λq c=>(key q c).1,eO.2 λq c=>(key q c).2⟩
 have aH:∀t,eW tw true t v.bb->(∀y,y∈v.bb->fX tw n t y)->(tw.getD t.toNat aL).Kind<=4->∀{rt:Int} {i:Nat} {us:List ab},0<=rt->rt<tr.length->eQ (eg tw tr n) path t rt i v.bb= .inl us->us=v.bb/\eW tr false rt v.bb:=λt W Y aF rt i us a0 a1 al=>by
  have e:=YB (λv rt path u h=>YA aF h) al;subst e;obtain⟨a,b⟩:=By al;refine⟨rfl,eO.2 λq c=>?_⟩;obtain⟨j,F,rfl⟩:=GW aR c;exact(ih (an _ c) (eO.1 W _ c) (Y _ c) a0 a1 (b j F)).2
 unfold hM at h;by_cases bE:x.Kind=y.Kind
 . rw[av (by simpa using bE)]at h;rcases aA with d|d|d|d|d|d|d|d|d
   . rw[cV,cV,cV,cV,cV]at h;split at h<;>cases h;exact⟨P,l _ ⟨⟨p,s,by omega,by simp⟩,.inl d⟩⟩
   . rw[cV,cV,cV,cV,cV]at h;split at h<;>cases h;rename_i ag;exact⟨P,l _ ⟨⟨p,s,by omega,by simp⟩,.inr (.inl (by have:=ag.1 (by omega);simp_all))⟩⟩
   . rw[cV,cV,cV,cV,cV]at h;split at h<;>cases h;rename_i ag;exact⟨P,l _ ⟨⟨p,s,by omega,by simp⟩,.inr (.inr (.inl (by have:=ag.2.1 (by omega);simp_all)))⟩⟩
   . rw[cV,cV,cV,cV,cV]at h;split at h<;>cases h;rename_i ag;have L:dT v.ah:=by
      rcases d.2.2.2.2.2.2.2 with⟨y,aP,aQ⟩|⟨_,h,_⟩
      . rw[<-aQ];exact SW.S _ O (by omega) y aP
      . cases h
     refine⟨P,l _ ⟨⟨p,s,by omega,by simp⟩,.inr (.inr (.inr (.inl ⟨d.1,d.2.1,d.2.2.1,d.2.2.2.1,d.2.2.2.2.1,d.2.2.2.2.2.1,d.2.2.2.2.2.2.1,?_⟩)))⟩⟩;rcases ag.2.2 (by omega)with q|q
     . exact .inl q
     grind
   . obtain⟨a1,a2,a3,a4,a5,C,R,K⟩:=d;obtain⟨Q,aJ⟩:=SW.A _ O (.inl (by omega));obtain⟨aY,aZ⟩:=cm.A _ o (.inl (by omega));obtain⟨f1,f2⟩:=lQ.1 K;rw[fS]at h;obtain⟨f,aN,h⟩:=Ik h;obtain⟨r,aj,rfl⟩:=yl h;obtain⟨U,ai⟩:=Il aN;have key:∀j,j<y.ae.length->Cc tr (y.ae.getD j aG).aC (f.getD j aR):=λj N=>by
      have E:=bM N aG;rcases aaH (ai j N)with⟨_,c2,c3⟩|⟨i,c1,c2,_⟩
      . rw[c3];exact⟨(HR.T _ o).hX _ E,vf _ _ (HR.D _ o _ E c2)⟩
      . obtain⟨d1,_,_⟩:=hB c1;have g:=bM (by omega:i<v.ar.length) aR;obtain⟨z,B⟩:=HR.iq.mem o E;exact ih (X _ g) (f2 i d1) (ad (by omega) i d1) z B c2
     have ao:=aaI Q aj;obtain⟨c1,_,c3⟩:=BG aj;refine⟨.mk _ (by simp) (by simp) (by show f.length<=_;unfold reachBytes;omega) (by show r.length<=_;unfold reachBytes;omega) (λq c=>by cases c) (λq c=>?_) (λq c=>?_) (by simp) (by simp) (by simp) (λq c=>(ao.2 q c).1.i64),l _ ⟨⟨p,s,by show(5:Int)=_;omega,by simp⟩,.inr (.inr (.inr (.inr (.inl ⟨rfl,rfl,rfl,rfl,rfl,rfl,ao,lQ.2 ⟨U,λj N=>(key j N).2⟩⟩))))⟩⟩
     . obtain⟨j,F,rfl⟩:=GW aR c;exact(key j (by have:f.length=_:=U;have aX:j<f.length:=F;omega)).1
     . obtain⟨_,j,F,aI,e⟩:=c3 q c;have g:=bM aI aR;have:=(ad (by omega) j F).len;rw[e];unfold reachBytes;grind
   . obtain⟨a1,a2,a3,a4,a5,C⟩:=d;rw[cV,fS]at h;unfold sA at h;obtain⟨Q,aJ⟩:=SW.A _ O (.inr (by omega));cases bV:d' x.ae v.ah with
     |none=>rw[bV]at C;cases C.2.1
     |some m=>
      rw[bV]at C;obtain⟨U,ai,ay⟩:=C;have Z:=um x.ae v.ah;rw[bV]at Z;cases L:eC x.ae v.ah with
      |none=>rw[L]at Z;cases Z
      |some i=>
      obtain⟨d1,d2,_⟩:=hB L;obtain⟨d3,d4⟩:=p1 bV;have em:x.ae.getD i aG=m:=yk Q (bM d1 aG) d3 (by rw[d2,d4]);have hid:dT v.ah:=by rw[<-d4];exact Q.2 m d3
      simp only[L,em]at h;have g:=bM (by omega:0<v.ar.length) aR;cases M:eC y.ae v.ah with
      |some k=>
       simp only[M]at h;obtain⟨w,aN,rfl⟩:=yl h;obtain⟨bn,bt,_⟩:=hB M;have E:=bM bn aG;obtain⟨z,B⟩:=HR.iq.mem o E;obtain⟨z1,z2⟩:=ih (X _ g) (eO.1 ay _ g) (af (by omega) _ bV _ g) z B aN;have am:d' y.ae v.ah=some (y.ae.getD k aG):=by rw[<-bt];exact aaF (cm.A _ o (.inr (by omega))).1 E
       refine⟨.mk _ (by simp) (by simp) (by show[w].length<=_;unfold reachBytes;simp) (by simp) (λq c=>by cases c) (λq c=>?_) (λq c=>by cases c) (by simp) (by simp) hid.i64 (λq c=>by cases c),l _ ⟨⟨p,s,by show(6:Int)=_;omega,by simp⟩,.inr (.inr (.inr (.inr (.inr (.inl ⟨rfl,rfl,rfl,rfl,rfl,?_⟩)))))⟩⟩
       . grind
       . show match d' y.ae v.ah with|some m=>_|none=>_
         rw[am];exact⟨rfl,rfl,z2,trivial⟩
      |none=>
       simp only[M]at h;split at h
       . cases h;rename_i aU;have am:d' y.ae v.ah=none:=by
          have:=um y.ae v.ah;rw[M]at this;cases c:d' y.ae v.ah with
          |none=>rfl
          |some _=>rw[c]at this;cases this
         have:=(af (by omega) _ bV _ g).len;refine⟨.mk _ (by simp) (by simp) (by simp) (by show[_].length<=_;unfold reachBytes;simp) (λq c=>by cases c) (λq c=>by cases c) (λq c=>?_) (by simp) (by simp) hid.i64 (λq c=>?_),l _ ⟨⟨p,s,by show(6:Int)=_;omega,by simp⟩,.inr (.inr (.inr (.inr (.inr (.inl ⟨rfl,rfl,rfl,rfl,rfl,?_⟩)))))⟩⟩
         . rw[kH.1 c];show(cI tw _ _).length<=_;unfold reachBytes;omega
         . grind
         grind
       . cases h
   . obtain⟨a1,a2,a3,a4,a5,C,R,K,a9⟩:=d;rw[cV,cV,fS]at h;unfold yJ at h;split at h
     . rename_i az;obtain⟨f,aN,rfl⟩:=yl h;obtain⟨z,B⟩:=HR.iq.elem o (by omega);obtain⟨au,G,H⟩:=aa a9 (J (by omega)).1 z B aN;exact⟨.mk _ (by simp) (by simp) (by show f.length<=_;omega) (by simp) (λq c=>by cases c) G (λq c=>by cases c) (by simp) (by simp) (by simp) (λq c=>by cases c),l _ ⟨⟨p,s,by show(7:Int)=_;omega,by simp⟩,.inr (.inr (.inr (.inr (.inr (.inr (.inl ⟨rfl,rfl,rfl,rfl,rfl,rfl,rfl,by show(f.length:Int)<=_;omega,H⟩))))))⟩⟩
     . cases h
   . obtain⟨a1,a2,a3,a4,a5,C,R,K,a9,aw,ax⟩:=d;rw[cV,cV,cV,fS]at h;unfold yK at h;split at h
     . rename_i az;obtain⟨ks,dc,h⟩:=Ik h;obtain⟨f,aN,rfl⟩:=yl h;obtain⟨z,B⟩:=HR.iq.elem o (by omega);obtain⟨aM,aO⟩:=HR.iq.key o (by omega);obtain⟨au,G,H⟩:=aa aw (J (by omega)).1 z B aN;obtain⟨rfl,aK⟩:=aH _ a9 (J (by omega)).2 (SW.sO _ O (by omega)).2 aM aO dc;exact⟨.mk _ (by simp) (by show v.bb.length<=_;omega) (by show f.length<=_;omega) (by simp) an G (λq c=>by cases c) (by simp) (by simp) (by simp) (λq c=>by cases c),l _ ⟨⟨p,s,by show(8:Int)=_;omega,by simp⟩,.inr (.inr (.inr (.inr (.inr (.inr (.inr (.inl ⟨rfl,rfl,rfl,rfl,rfl,rfl,by show(v.bb.length:Int)<=_;omega,by show f.length=v.bb.length;omega,aK,H,ax⟩)))))))⟩⟩
     . cases h
   . obtain⟨a1,a2,a3,a4,a5,C,R,K,a9⟩:=d;rw[cV,cV,cV,cV,fS]at h;obtain⟨f,aN,rfl⟩:=yl h;obtain⟨z,B⟩:=HR.iq.elem o (by omega);obtain⟨au,G,H⟩:=aa a9 (J (by omega)).1 z B aN;exact⟨.mk _ (by simp) (by simp) (by show f.length<=_;omega) (by simp) (λq c=>by cases c) G (λq c=>by cases c) (by simp) (by simp) (by simp) (λq c=>by cases c),l _ ⟨⟨p,s,by show(9:Int)=_;omega,by simp⟩,.inr (.inr (.inr (.inr (.inr (.inr (.inr (.inr ⟨rfl,rfl,rfl,rfl,rfl,rfl,rfl,by show f.length<=1;omega,H⟩)))))))⟩⟩
 grind
theorem Gw(HW:dA tw)(HR:dA tr):∀n,CP tw tr n
 |0=>λ_ _ _ _ _ _ _ _ _ h=>by cases h
 |n+1=>X2 HW HR (Gw HW HR n)
end
theorem Bm{m:aY}(a:cP v):rk (m,v)=some (dG m v):=by
 rw[rk];simp only[ab.b7];unfold dG;cases aj:m.bX with
 |false=>rfl
 |true=>
  obtain⟨r,b,c⟩:=JY a m.bC;grind
theorem Gx(h:p.length<=100000:=by omega):ux p=some (gz p):=by
 rw[ux,kO,se];have:=kr (n:=p.length) (by omega);simp only[bl,aw];rw[ai (gy)];rfl
theorem YC{c:Bool}(hid:dT id)(h:p.length<=4096):AY (id,c,p)=some (kz id.toNat c p,0):=by
 unfold dT at hid;obtain⟨n,rfl⟩:=Int.eq_ofNat_of_zero_le (by omega:0<=id);have a:¬(n:Int)<1:=by omega
 have b:¬(1000:Int)<n:=by omega
 rw[AY,av (by simp[a,b]),de,ZD (by omega) (by omega),bz];rfl
section
variable {ts:List af}
theorem Gd:∀{ms:List aY} {l:List ab},((eH ts ms l).map λf=>f.id).Sublist (ms.map λm=>m.ah.toNat)
 |[],l=>by rw[eH]<;>simp
 |m::ms,[]=>by rw[eH]<;>simp
 |m::ms,v::l=>by
  rw[eH];split
  . exact(Gd (ms:=ms) (l:=l)).cons _
  . exact(Gd (ms:=ms) (l:=l)).cons₂ _
theorem YD{l:List ab}(c:jt ms):(eH ts ms l).Pairwise (λa b=>a.id<b.id):=by
 have h1:(ms.map λm=>m.ah.toNat).Pairwise (· < ·):=oL.2 (c.1.imp_of_mem λ{a b} d e h=>by
  have:=c.2 a d;unfold dT at this
  omega)
 exact oL.1 (h1.sublist Gd)
theorem Ho(h:(ts.getD t.toNat aL).Kind=5)(c:v.Rest=[])(a:jt (ts.getD t.toNat aL).ae):cI ts t v=(eH ts (ts.getD t.toNat aL).ae v.ar).flatMap Fd.text:=by
 rw[Cw h];have b:lW (ts.getD t.toNat aL).ae v.Rest:=by rw[c];exact⟨.nil,λx I=>by cases I⟩
 congr 1
 have e:kA ts (ts.getD t.toNat aL).ae v.ar v.Rest=eH ts (ts.getD t.toNat aL).ae v.ar:=by
  unfold kA;grind
 rw[<-e];refine J0 (aaD (Fu a b) (Yx a b)) ?_ λy=>(pY jj _).mem_iff;rw[e];exact YD a
def iZ(ts:List af)(t:Int)(v:ab):Prop:=ko ((⟨ts⟩:a7),t,v)=some (cI ts t v)
theorem OL(b:∀m,m∈ms->dT m.ah)(ag:v.ar.length=ms.length)(e:ms.length<=1000)(d:∀y,y∈v.ar->cP y)(hs:∀i,i<ms.length->dG (ms.getD i aG) (v.ar.getD i aR)=false->(cI ts (ms.getD i aG).aC (v.ar.getD i aR)).length<=4096/\iZ ts (ms.getD i aG).aC (v.ar.getD i aR)):
 ∀(k i:Nat) (acc:aD),i+k=ms.length->acc.length<=i*5000->
 px (acc,ms,(ms.length:Int),(i:Int),ts,v)=some (acc++(eH ts (ms.drop i) (v.ar.drop i)).flatMap Fd.text)
 |0,i,acc,g,f=>by
  rw[px,de,iw (by omega:ms.length<=i),eH]
  . simp
  grind
 |k+1,i,acc,g,f=>by
  have aF:i<ms.length:=by omega
  have a:i<v.ar.length:=by omega
  have j:=bM a aR;rw[px,cg,ai (aU aF)];simp only[bl,aw,bz,ab.b7,lO];rw[ai (aU a),Bm (d _ j),gm aF aG,gm a aR,eH];have rc:=λacc=>OL b ag e d hs k (i+1) acc (by omega);cases l:dG (ms.getD i aG) (v.ar.getD i aR)with
  |true=>
   simp only[aw,ds,bU,bN,bJ];rw[bO (by omega),rc acc (by omega)]
  |false=>
   obtain⟨h1,c⟩:=hs i aF l;unfold iZ at c;simp only[aw,eL,bJ,bU,bN];rw[ai (aU a),c];simp only[aw];rw[YC (b _ (bM aF aG)) (by omega)];simp only[aw];have hid:=b _ (bM aF aG);unfold dT at hid;have a1:=uo (p:=cI ts (ms.getD i aG).aC (v.ar.getD i aR)) (by omega);have a2:=yW (n:=2*(ms.getD i aG).ah.toNat+(if(ms.getD i aG).cJ then 1 else 0)) (by split<;>omega);have o:(kz (ms.getD i aG).ah.toNat (ms.getD i aG).cJ (cI ts (ms.getD i aG).aC (v.ar.getD i aR))).length<=5000:=by
    unfold kz;grind
   rw[ai (gy),bO (by omega),rc _ (by rw[dQ];omega),lh];rfl
theorem OM(b:¬x.Kind=8)(ag:v.ar.length<=3000)(hs:∀y,y∈v.ar->(cI ts x.aQ y).length<=4096/\iZ ts x.aQ y):
 ∀(k i:Nat) (acc:aD),i+k=v.ar.length->acc.length<=i*5000->
 kj (acc,v.ar,(v.ar.length:Int),(i:Int),ts,v,x)=some (acc++(cz ts x.aQ (v.ar.drop i)).flatMap gz)
 |0,i,acc,d,c=>by
  rw[kj,de,iw (by omega:v.ar.length<=i),cz];simp
 |k+1,i,acc,d,c=>by
  have aF:i<v.ar.length:=by omega
  obtain⟨h1,a⟩:=hs _ (bM aF aR);unfold iZ at a;rw[kj,cg,ai (aU aF)];simp only[bl,aw,bz,ab.b7];have a1:=uo (p:=cI ts x.aQ (v.ar.getD i aR)) (by omega);rw[av (by simp[b]),a];simp only[aw];rw[Gx];simp only[aw];rw[ai (gy),bO (by omega),OM b ag hs k (i+1) _ (by omega) (by rw[dQ];omega),gm aF aR,cz,j6,lh]
theorem L8(d:x.Kind=8)(j:v.ar.length=v.bb.length)(ag:v.ar.length<=3000)(hs:∀y,y∈v.ar->(cI ts x.aQ y).length<=4096/\iZ ts x.aQ y)(e:∀y,y∈v.bb->(cI ts x.Key y).length<=4096/\iZ ts x.Key y):
 ∀(k i:Nat) (acc:aD),i+k=v.ar.length->acc.length<=i*9000->
 kj (acc,v.ar,(v.ar.length:Int),(i:Int),ts,v,x)=some (acc++iO (cz ts x.Key (v.bb.drop i)) (cz ts x.aQ (v.ar.drop i)))
 |0,i,acc,g,f=>by
  rw[kj,de,iw (by omega:v.ar.length<=i),iw (by omega:v.bb.length<=i),cz,cz,iO]
  . simp
  grind
 |k+1,i,acc,g,f=>by
  have aF:i<v.ar.length:=by omega
  have a:i<v.bb.length:=by omega
  obtain⟨h1,b⟩:=hs _ (bM aF aR);obtain⟨l,c⟩:=e _ (bM a aR);unfold iZ at b c;rw[kj,cg,ai (aU aF)];simp only[bl,aw,bz,ab.b7];have a1:=uo (p:=cI ts x.aQ (v.ar.getD i aR)) (by omega);have a2:=uo (p:=cI ts x.Key (v.bb.getD i aR)) (by omega);rw[ai (by simp[d]),ai (aU a),c];simp only[aw];rw[Gx];simp only[aw];rw[ai (gy),b];simp only[aw];rw[Gx];simp only[aw];rw[ai (gy (by rw[dQ];omega)),bO (by omega),L8 d j ag hs e k (i+1) _ (by omega) (by rw[dQ,dQ];omega),gm aF aR,gm a aR,cz,cz,iO,lh,lh]
theorem aaJ(H:qT ts)(k:cP v)(g:eI ts true t v)(cw:v.Kind<=4):kY (t,v,1,ts,0)=some (cI ts t v,ts,1):=by
 obtain⟨⟨g1,g2,g3,_⟩,b⟩:=(jd _ _ _).1 g;have a:hq v.bB:=by cases k with|mk _ _ _ _ _ _ _ _ _ a _ _=>exact a
 obtain⟨j,rfl⟩:∃j:Nat,t=(j:Int):=⟨t.toNat,by omega⟩
 have c:j<ts.length:=by omega
 have i:=bM c aL;have l:=@Gq ts (j:Int) v;have d:=@Gr ts (j:Int) v;have m:=@Gs ts (j:Int) v;have e:=@Gt ts (j:Int) v;rw[kY];simp only[bl,aw];rw[ai (aU c),show nv 0 1=1 by decide];simp only[bz,ab.b7]at g3 b l d m e⊢;generalize ts.getD j aL=x at*;rcases b with h|h|h|h|h|h|h|h|h
 . grind
 . rw[av (mt gf (by omega)),ai (ez (by omega)),d (by omega),GG a];simp only[aw];have f:=GH a;obtain⟨n,aV⟩:∃n:Nat,hp v.bB=(n:Int):=⟨(hp v.bB).toNat,by unfold hp;split<;>omega⟩
   rw[aV,bz]at f;rw[aV,L1 f];rfl
 . grind
 . obtain⟨n,aV,ag⟩:∃n:Nat,v.ah=(n:Int)/\n<=1000:=by
    rcases h.2.2.2.2.2.2.2 with⟨y,o,p⟩|⟨_,h,_⟩
    . have:=H.S x i (by omega) y o;unfold dT at this;grind
    . cases h
   rw[av (mt gf (by omega)),av (mt gf (by omega)),av (mt gf (by omega)),ai (ez (by omega)),e (by omega),aV,kO,L1 (by omega),bz];rfl
 all_goals omega
theorem Z9(H:dA ts)(b:cP v)(a:eI ts true t v)(hs:(cI ts t v).length<=4096)(cw:v.Kind<=4):uw ((⟨ts⟩:a7),t,v)=some (cI ts t v,0):=by
 rw[uw];simp only[ab.b7];rw[V6 H.T H.V b (vf _ _ a)];simp only[bl,aw];rw[c8,aaJ (H.V.jo H.T) b a cw];grind
theorem L9(H:dA ts)(u:cP v):∀t,eI ts true t v->(cI ts t v).length<=4096->iZ ts t v:=by
 have w:=H.V.jo H.T;have O:=u;induction u with
 |mk v hs h1 Y Z K f ad dR aj al am P l=>
  intro t C b;obtain⟨⟨g1,g2,g3,g4⟩,J⟩:=(jd _ _ _).1 C;obtain⟨j,rfl⟩:∃j:Nat,t=(j:Int):=⟨t.toNat,by omega⟩
  have E:j<ts.length:=by omega
  have o:=bM E aL;have B:=g4 rfl;have af:=Z9 H O C b;have aa:=H.M _ o;have r:=(H.b9 _ o).2.2;unfold iZ;rw[ko,ai (aU E)];simp only[bl,aw,ab.b7];rw[bz]at*;rcases J with h|h|h|h|h|h|h|h|h
  . grind
  . grind
  . grind
  . grind
  . obtain⟨a1,a2,a3,a4,a5,c,p,d⟩:=h;obtain⟨g,Q⟩:=w.A _ o (.inl (by omega));obtain⟨f1,f2⟩:=lQ.1 d;rw[Ho (by rw[bz];omega) B (by rw[bz];exact g),bz]at b
    have h0:=OL (ts:=ts) (ms:=(ts.getD j aL).ae) (v:=v) g.2 f1 (by omega) f (λi D L=>by
     have F:=bM (by omega:i<v.ar.length) aR;have ag:=hK (F4 (ts:=ts) i D (by omega) L) b
     exact⟨ag,l _ F (f _ F) _ (f2 i D) ag⟩) (ts.getD j aL).ae.length 0 [] (by omega) (by simp)
    have k:px ([],(ts.getD j aL).ae,((ts.getD j aL).ae.length:Int),0,ts,v)=_:=h0;rw[ai (ez (by omega)),k];rw[Ho (by rw[bz];omega) B (by rw[bz];exact g),bz];rfl
  . obtain⟨a1,a2,a3,a4,a5,c⟩:=h;obtain⟨g,Q⟩:=w.A _ o (.inr (by omega));cases bV:d' (ts.getD j aL).ae v.ah with
    |none=>rw[bV]at c;cases c.2.1
    |some m=>
     rw[bV]at c;obtain⟨X,z,I⟩:=c;obtain⟨d3,d4⟩:=p1 bV;obtain⟨q,R,S,U⟩:=ad8 g (by omega) bV;have hid:=g.2 m d3;unfold dT at hid;have ak:=bM (by omega:0<v.ar.length) aR;have N:cz ts m.aC v.ar=[cI ts m.aC (v.ar.getD 0 aR)]:=by
      match u:v.ar,z with
      |[a],_=>rw[cz,cz];rfl
     have z1:(cI ts m.aC (v.ar.getD 0 aR)).length<=4096:=by
      rw[yS (t:=(j:Int)) (v:=v) (by rw[bz];omega),bz,bV,dQ]at b;simp only[N,List.headD_cons]at b;omega
     have z2:=l _ ak (f _ ak) m.aC (eO.1 I _ ak) z1;unfold iZ at z2;obtain⟨n,aV⟩:∃n:Nat,v.ah=(n:Int):=⟨v.ah.toNat,by omega⟩
     have:=yW (n:=n) (by omega);rw[av (mt gf (by omega)),ai (ez (by omega)),S];simp only[aw];rw[aV,kO,se];simp only[aw];rw[ai (aU R),ai (by rw[z];rfl),bz,U,show(0:Int).toNat=0 from rfl,z2];simp only[aw];rw[ai (gy),yS (t:=(j:Int)) (v:=v) (by rw[bz];omega),bz,bV,aV,bz];grind
  . obtain⟨a1,a2,a3,a4,a5,c,p,d,a9⟩:=h
    have h0:=OM (ts:=ts) (x:=ts.getD j aL) (v:=v) (by omega) (by omega) (λy ak=>by
     rw[yT (by rw[bz];omega),bz]at b;have ag:=hK (GX (ts:=ts) (t:=(ts.getD j aL).aQ) ak) b
     exact⟨ag,l _ ak (f _ ak) _ (eO.1 a9 y ak) ag⟩) v.ar.length 0 [] (by omega) (by simp)
    have k:kj ([],v.ar,(v.ar.length:Int),0,ts,v,ts.getD j aL)=_:=h0;rw[av (mt gf (by omega)),av (mt gf (by omega)),av (mt gf (by omega)),ai (ez (by omega)),ai (ez (by omega)),k,yT (by rw[bz];omega),bz];rfl
  . obtain⟨a1,a2,a3,a4,a5,c,p,d,a9,G,W⟩:=h;rw[yU (by rw[bz];omega),bz]at b;have e:(cz ts (ts.getD j aL).Key v.bb).length=(cz ts (ts.getD j aL).aQ v.ar).length:=by rw[wV,wV];omega
    have h0:=L8 (ts:=ts) (x:=ts.getD j aL) (v:=v) (by omega) d (by omega) (λy ak=>by
     have ag:=hK (Cb e (.inr (ya ak))) b;exact⟨ag,l _ ak (f _ ak) _ (eO.1 G y ak) ag⟩) (λy ak=>by
     have ag:=hK (Cb e (.inl (ya ak))) b
     exact⟨ag,P _ ak (K _ ak) _ (eO.1 a9 y ak) ag⟩) v.ar.length 0 [] (by omega) (by simp)
    have k:kj ([],v.ar,(v.ar.length:Int),0,ts,v,ts.getD j aL)=_:=h0;rw[av (mt gf (by omega)),av (mt gf (by omega)),av (mt gf (by omega)),av (mt gf (by omega)),ai (ez (by omega)),k,yU (by rw[bz];omega),bz];rfl
  . obtain⟨a1,a2,a3,a4,a5,c,p,d,a9⟩:=h;rw[av (mt gf (by omega)),av (mt gf (by omega)),ai (ez (by omega)),yV (by rw[bz];omega),bz]
    match r:v.ar,d with
    |[],_=>
     rw[tz,c8,cz];rfl
    |[a],_=>
     have s:a∈v.ar:=by rw[r];exact .head _
     have z1:(cI ts (ts.getD j aL).aQ a).length<=4096:=by
      rw[yV (by rw[bz];omega),bz,r,cz,cz,kJ]at b;omega
     have z2:=l _ s (f _ s) _ (eO.1 a9 a s) z1;unfold iZ at z2;rw[tz,ai (by simp),ai (show aB 0 [a].length=true from rfl)];simp only[ab.b7];rw[show[a].getD (Int.toNat 0) aR=a from rfl,z2];simp only[bl,aw];rw[ai (gy (by show 1+(cI ts (ts.getD j aL).aQ a).length<=_;omega)),show aS .i64 0 1=1 from by decide,tz,av (show ¬decide ((1:Int)<([a].length:Int))=true from by simp),cz,cz];rfl
end
theorem Hp{a0 a2 a4 z0 z2 z4:Int}{a1 z1:Bool}{a3 z3:aD}{l l2:List ab}{r:List cG}(ag:l.length<=1000000000)(h:∀y,y∈l->jA y=some y):∀(k i:Nat),i+k=l.length->
 r6 ((l.length:Int),(i:Int),a0,a1,a2,a3,a4,z0,z1,z2,z3,z4,l,l2,r)=some (a0,a1,a2,a3,a4,z0,z1,z2,z3,z4,l,l2,r)
 |0,i,a=>by rw[r6,de]
 |k+1,i,a=>by
  have aF:i<l.length:=by omega
  rw[r6,cg,ai (aU aF),bz,cg];simp only[ab.b7];rw[h _ (bM aF aR)];simp only[bl,aw,ab.b7];rw[ai (aU aF),cg,bO (by omega),Bl aF];exact Hp ag h k (i+1) (by omega)
theorem Hq{a0 a2 a4 z0 z2 z4:Int}{a1 z1:Bool}{a3 z3:aD}{l l2:List ab}{r:List cG}(ag:l.length<=1000000000)(h:∀y,y∈l->jA y=some y):∀(k i:Nat),i+k=l.length->
 rj ((l.length:Int),(i:Int),a0,a1,a2,a3,a4,z0,z1,z2,z3,z4,l,l2,r)=some (a0,a1,a2,a3,a4,z0,z1,z2,z3,z4,l2,l,r)
 |0,i,a=>by rw[rj,de]
 |k+1,i,a=>by
  have aF:i<l.length:=by omega
  rw[rj,cg,ai (aU aF),bz,cg];simp only[ab.b7];rw[h _ (bM aF aR)];simp only[bl,aw,ab.b7];rw[ai (aU aF),cg,bO (by omega),Bl aF];exact Hq ag h k (i+1) (by omega)
theorem X3(e:cP v):wt v<=1000000000->jA v=some v:=by
 induction e with
 |mk v hs h1 j k n m o dR u w x g f=>
  intro p;have q:=lp v;have s:=yX v.bb;have l2:=yX v.ar;have t:=JZ v.Rest;have kk:∀y,y∈v.bb->jA y=some y:=λy ak=>g y ak (by have:=hA ak;omega);have i:∀y,y∈v.ar->jA y=some y:=λy ak=>f y ak (by have:=hA ak;omega);have c1:ga 120 v.bb=some v.bb:=by unfold ga;rw[ai (p5 (uI))]
  have c2:ga 120 v.ar=some v.ar:=by unfold ga;rw[ai (p5 (uI))]
  have c3:ga 24 v.Rest=some v.Rest:=by unfold ga;rw[ai (p5 (uI))]
  have a:=Hp (a0:=v.Kind) (a1:=v.cd) (a2:=v.bB) (a3:=v.bL) (a4:=v.ah) (z0:=0) (z1:=false) (z2:=0) (z3:=[]) (z4:=0) (l:=v.bb) (l2:=v.ar) (r:=v.Rest) (by omega) kk v.bb.length 0 (by omega);have c:=Hq (a0:=v.Kind) (a1:=v.cd) (a2:=v.bB) (a3:=v.bL) (a4:=v.ah) (z0:=0) (z1:=false) (z2:=0) (z3:=[]) (z4:=0) (l:=v.ar) (l2:=v.bb) (r:=v.Rest) (by omega) i v.ar.length 0 (by omega);have b:r6 ((v.bb.length:Int),0,v.Kind,v.cd,v.bB,v.bL,v.ah,0,false,0,[],0,v.bb,v.ar,v.Rest)=_:=a;have d:rj ((v.ar.length:Int),0,v.Kind,v.cd,v.bB,v.bL,v.ah,0,false,0,[],0,v.ar,v.bb,v.Rest)=_:=c;rw[jA,c1,c2,c3];simp only[bl,aw];rw[b];simp only[aw];rw[d];simp only[aw];cases v;rfl
theorem OZ(al:path.length<=90000)(a:az):r5 (tw,tr,a,path)=some ((⟨0,false,0,[],0,[],[],[]⟩:ab),false,tw,tr,path,path):=by
 rw[r5];unfold tQ ga;rw[ai (p5 (e2 (by omega) (by omega)))];simp
theorem Ct(al:path.length<=90000)(id:Int)(a:az):tu (id,tw,tr,a,path)=some ((⟨0,false,0,[],0,[],[],[]⟩:ab),false,tw,tr,path,path++[id]):=by
 rw[tu];unfold tQ ga;rw[ai (p5 (e2 (by omega) (by omega)))];simp only[lk,bl,aw];rw[ai (by simp),ai (e2)]
theorem xF(ag:x.ae.length<=1000)(id:Int):gk (x,id)=some (jF x.ae id):=by
 obtain⟨r,a,b⟩:=Ex (t:=x) (id:=id) (by omega);rw[a,Fc b (Ij _ _)]
section
variable {tw tr:List af}
def fD(tw tr:List af)(a path:az):ab ⊕ az->ab×Bool×List af×List af×az×az
 |.inl u=>(u,true,tw,tr,a,path)
 |.inr p=>(⟨0,false,0,[],0,[],[],[]⟩,false,tw,tr,p,path)
def CN(tw tr:List af)(a path:az)(acc:List ab):List ab ⊕ az->(Bool×List af×List af×az×az) ⊕ (List af×List af×az×List ab×az)
 |.inl us=>.inr (tw,tr,a,acc++us,path)
 |.inr p=>.inl (false,tw,tr,p,path)
def nL(tw tr:List af)(a path:az):List ab ⊕ az->List ab×Bool×List af×List af×az×az
 |.inl us=>(us,true,tw,tr,a,path)
 |.inr p=>([],false,tw,tr,p,path)
def Part(tw tr:List af)(f:fE)(path:az)(t rt:Int)(v:ab):Prop:=∀(step:Int) (a:az),p9 (step,t,v,rt,tw,tr,a,path)=some (fD tw tr a path (f t v rt (path++[step])))
theorem J6{step:Int}{a:az}{o:ab ⊕ az}(al:path.length<=90000)(h:rl (t,v,rt,tw,tr,a,path++[step])=some (fD tw tr a (path++[step]) o)):p9 (step,t,v,rt,tw,tr,a,path)=some (fD tw tr a path o):=by
 rw[p9];simp only[bl,aw,ab.b7];rw[ai (e2),h];have aN:dM .i64 ((path++[step]).length:Int) 1=(path.length:Int):=by rw[sd (by simp<;>omega) (by simp<;>omega)];simp
 have b:gu 0 (path.length:Int) (path++[step]).length=true:=jY.2 (by simp;omega);cases o with
 |inl u=>
  simp only[aw,ab.b7,fD];simp_all
 |inr p=>
  simp only[aw,ab.b7,fD];simp_all
theorem QQ{l:List ab}(ag:l.length<=50000)(h:∀y,y∈l->Part tw tr f path t rt y):∀(k i:Nat) (acc:List ab) (a:az),i+k=l.length->acc.length<=i->
 rT (t,rt,l,(l.length:Int),(i:Int),tw,tr,a,acc,path)=some (CN tw tr a path acc (eQ f path t rt i (l.drop i)))
 |0,i,acc,a,c,b=>by
  rw[rT,de,iw (by omega:l.length<=i)];simp[eQ,CN]
 |k+1,i,acc,a,c,b=>by
  have aF:i<l.length:=by omega
  rw[rT,cg,ai (aU aF),bz];simp only[ab.b7];rw[h _ (bM aF aR),gm aF aR,eQ];cases f t (l.getD i aR) rt (path++[(i:Int)])with
  |inr p=>rfl
  |inl u=>
   simp only[bl,aw,fD,ds,ab.b7];rw[c8,ai (e2),bO (by omega),QQ ag h k (i+1) _ a (by omega) (by simp;omega)];cases eQ f path t rt (i+1) (l.drop (i+1))with
   |inr p=>rfl
   |inl us=>simp[CN,im]
theorem yb{l:List ab}(ag:l.length<=50000)(h:∀y,y∈l->Part tw tr f path t rt y)(a:az):
 mI (t,l,rt,tw,tr,a,path)=some (nL tw tr a path (eQ f path t rt 0 l)):=by
 have h0:=QQ ag h l.length 0 [] a (by omega) (by simp);have b:rT (t,rt,l,(l.length:Int),0,tw,tr,a,[],path)=_:=h0;rw[mI,b,gh];cases eQ f path t rt 0 l with
 |inr p=>rfl
 |inl us=>rfl
def sS(tw tr:List af)(a path:az)(x:af)(v:ab)(y:af)(acc:List ab):List ab ⊕ az->(Bool×List af×List af×az×ab×az) ⊕ (List af×List af×az×af×ab×af×Int×Bool×Int×aD×Int×Int×Bool×Int×aD×Int×az×List ab)
 |.inl us=>.inr (tw,tr,a,x,v,y,0,false,0,[],0,v.Kind,false,0,[],0,path,acc++us)
 |.inr p=>.inl (false,tw,tr,p,⟨0,false,0,[],0,[],[],[]⟩,path)
theorem Jk(al:path.length<=90000)(I:x.ae.length<=1000)(ak:y.ae.length<=1000)(ag:v.ar.length=x.ae.length)(l:∀q,q∈v.ar->cP q)
 (aj:∀n,n∈y.ae->n.bX=true->jA n.bC=some n.bC)
 (h:∀i,i<x.ae.length->∀n,n∈y.ae->Part tw tr f path (x.ae.getD i aG).aC n.aC (v.ar.getD i aR)/\∀p u,f (x.ae.getD i aG).aC (v.ar.getD i aR) n.aC p= .inl u->cP u):∀(k j:Nat) (acc:List ab) (a:az),j+k=y.ae.length->acc.length<=j->
 ov (y.ae,(y.ae.length:Int),(j:Int),tw,tr,a,x,v,y,0,false,0,[],0,v.Kind,false,0,[],0,path,acc)=some (sS tw tr a path x v y acc (iB f x v path (y.ae.drop j)))
 |0,j,acc,a,t,o=>by
  rw[ov,de,iw (by omega:y.ae.length<=j)];simp[iB,sS,ab.b7]
 |k+1,j,acc,a,t,o=>by
  have aF:j<y.ae.length:=by omega
  have e:=bM aF aG;have rc:=λacc a=>Jk al I ak ag l aj h k (j+1) acc a (by omega);rw[ov,cg,ai (aU aF),bz];simp only[bl,aw,ab.b7,lO];rw[xF I,gm aF aG,iB];unfold u5 jF;generalize aV:y.ae.getD j aG=n at*;cases bV:eC x.ae n.ah with
  |none=>
   simp only[aw,eL];rw[ai trivial];cases s:n.bX with
   |false=>
    simp only[eL];rw[ai trivial,Ct al];rfl
   |true=>
    simp only[ds];rw[c8,aj n e s];simp only[aw];rw[ai (e2),bO (by omega),rc _ _ (by simp;omega),ai trivial];cases iB f x v path (y.ae.drop (j+1))with
    |inr p=>rfl
    |inl us=>simp[sS,im]
  |some i=>
   obtain⟨c,_,_⟩:=hB bV;have d:i<v.ar.length:=(by omega);obtain⟨z,A⟩:=h i c n e;simp only[aw,ds];rw[c8,ai (aU c),ai (aU d),bz,z n.ah a];have g:=Bm (m:=x.ae.getD i aG) (l _ (bM d aR));cases r:f (x.ae.getD i aG).aC (v.ar.getD i aR) n.aC (path++[n.ah])with
   |inr p=>
    simp only[aw,fD,ab.b7,eL,ds,Bool.and_false];rw[ai (aU c),ai (aU d),g];simp only[aw,bU,bN];rw[J3];generalize dG (x.ae.getD i aG) (v.ar.getD i aR)=b at*;cases b with
    |false=>rfl
    |true=>
     simp only[dX];rw[ai trivial,Ct al];rfl
   |inl u=>
    have w:=Bm (m:=n) (A _ u r);simp only[aw,fD,ab.b7,eL,ds,qA];rw[ai (aU c),ai (aU d),g];simp only[aw,bU,bN];rw[J4];generalize dG (x.ae.getD i aG) (v.ar.getD i aR)=b at*;have C:(some [u]>>=λt110=>if room 120 (acc++t110).length then ov (y.ae,(y.ae.length:Int),aS .i64 (j:Int) 1,tw,tr,a,x,v,y,0,false,0,[],0,v.Kind,false,0,[],0,path,acc++t110)else none)=some (sS tw tr a path x v y acc (im (.inl u) (iB f x v path (y.ae.drop (j+1))))):=by
     simp only[bl,aw];rw[ai (e2),bO (by omega),rc _ _ (by simp;omega)];cases iB f x v path (y.ae.drop (j+1))with
     |inr p=>rfl
     |inl us=>simp[sS,im]
    cases b with
    |false=>grind
    |true=>
     rw[ai rfl,w];cases B:dG n u with
     |true=>grind
     |false=>
      simp only[aw,dX,eF,eL,uS,bJ];rw[Ct al];rfl
def zc(tw tr:List af)(a path:az)(v:ab)(its:List ab)(acc:List cG):List cG ⊕ az->(Bool×List af×List af×ab×az×az) ⊕ (List af×List af×az×Int×Bool×Int×aD×Int×Int×Bool×Int×aD×Int×az×List ab×List cG)
 |.inl b=>.inr (tw,tr,a,0,false,0,[],0,v.Kind,false,0,[],0,path,its,acc++b)
 |.inr p=>.inl (false,tw,tr,⟨0,false,0,[],0,[],[],[]⟩,path,p)
theorem Jl(al:path.length<=90000)(I:x.ae.length<=1000)(ak:y.ae.length<=1000)(ag:v.ar.length=x.ae.length)(d:∀q,q∈v.ar->cP q)
 (h:∀i,i<x.ae.length->iZ tw (x.ae.getD i aG).aC (v.ar.getD i aR)){its:List ab}(b:az):∀(k i:Nat) (acc:List cG),i+k=x.ae.length->acc.length<=i->
 nd (x.ae,(x.ae.length:Int),(i:Int),tw,tr,b,v,y,0,false,0,[],0,v.Kind,false,0,[],0,path,its,acc)=some (zc tw tr b path v its acc (hN tw y path (x.ae.drop i) (v.ar.drop i)))
 |0,i,acc,f,e=>by
  rw[nd,de,iw (by omega:x.ae.length<=i),hN]
  . simp[zc]
  grind
 |k+1,i,acc,f,e=>by
  have aF:i<x.ae.length:=by omega
  have a:i<v.ar.length:=by omega
  have rc:=λacc=>Jl al I ak ag d h (its:=its) b k (i+1) acc (by omega);rw[nd,cg,ai (aU aF),bz];simp only[bl,aw,ab.b7,lO];rw[xF ak,gm aF aG,gm a aR,hN];have hs:=um y.ae (x.ae.getD i aG).ah;have g:(jF y.ae (x.ae.getD i aG).ah).2=(d' y.ae (x.ae.getD i aG).ah).isSome:=by
   rw[<-hs];unfold jF;grind
  simp only[aw];rw[g];by_cases c1:(d' y.ae (x.ae.getD i aG).ah).isSome=true
  . rw[ai c1,ai c1,bO (by omega),rc _ (by omega)]
  rw[av c1,av c1];by_cases c2:(x.ae.getD i aG).cJ=true
  . rw[ai c2,ai c2,Ct al];rfl
  rw[av c2,av c2,ai (aU a),Bm (d _ (bM a aR))];simp only[aw];cases dG (x.ae.getD i aG) (v.ar.getD i aR)with
  |true=>rw[c8,ai rfl,bO (by omega),rc _ (by omega)]
  |false=>
   have c:=h i aF;unfold iZ at c;rw[ai (show(!false)=true from rfl),av (show ¬false=true by simp),ai (aU a),c];simp only[aw];rw[ai (e2),bO (by omega),rc _ (by simp;omega)];cases hN tw y path (x.ae.drop (i+1)) (v.ar.drop (i+1))with
   |inr p=>rfl
   |inl us=>simp[zc,im]
theorem X4(al:path.length<=90000)(cW:v.Kind=5)(I:x.ae.length<=1000)(ak:y.ae.length<=1000)(ag:v.ar.length=x.ae.length)(b:∀q,q∈v.ar->cP q)
 (aj:∀n,n∈y.ae->n.bX=true->jA n.bC=some n.bC)
 (h:∀i,i<x.ae.length->∀n,n∈y.ae->Part tw tr f path (x.ae.getD i aG).aC n.aC (v.ar.getD i aR)/\∀p u,f (x.ae.getD i aG).aC (v.ar.getD i aR) n.aC p= .inl u->cP u)
 (e:∀i,i<x.ae.length->iZ tw (x.ae.getD i aG).aC (v.ar.getD i aR))(a:az):
 wM (x,v,y,tw,tr,a,path)=some (fD tw tr a path (u4 tw f x y v path)):=by
 have h0:=Jk al I ak ag b aj h y.ae.length 0 [] a (by simp) (by simp);have c:ov (y.ae,y.ae.length,0,tw,tr,a,x,v,y,0,false,0,[],0,v.Kind,false,0,[],0,path,[])=_:=h0;rw[wM];simp[ab.b7];rw[c,gh];unfold u4;cases iB f x v path _ with
 |inr p=>rfl
 |inl its=>
  have h1:=Jl (tr:=tr) al I ak ag b e (its:=its) a x.ae.length 0 [] (by simp) (by simp);have d:nd (x.ae,x.ae.length,0,tw,tr,a,v,y,0,false,0,[],0,v.Kind,false,0,[],0,path,its,[])=_:=h1;simp only[bl,aw,sS,j7];rw[d,gh,gh];cases hN tw y path _ v.ar with
  |inr p=>rfl
  |inl r=>simp_all[zc,lA,h2,fD]
theorem ZH(al:path.length<=90000)(dm:v.Kind=6)(I:x.ae.length<=1000)(ak:y.ae.length<=1000)(h1:v.ar.length=1){i:Nat}(a:eC x.ae v.ah=some i)
 (h:∀n,n∈y.ae->Part tw tr f path (x.ae.getD i aG).aC n.aC (v.ar.getD 0 aR))
 (e:iZ tw (x.ae.getD i aG).aC (v.ar.getD 0 aR))(b:az):
 v8 (x,v,y,tw,tr,b,path)=some (fD tw tr b path (sA tw f x y v path)):=by
 obtain⟨d,_,_⟩:=hB a;have c:aB 0 v.ar.length=true:=by rw[h1];rfl
 rw[v8,xF I,xF ak];unfold sA jF;simp only[bl,aw,ab.b7,a];cases bV:eC y.ae v.ah with
 |some k=>
  obtain⟨bn,_,_⟩:=hB bV;simp only;rw[ai trivial,ai (aU d),ai c,ai (aU bn),bz,bz,show(0:Int).toNat=0 from rfl,h _ (bM bn aG)];cases f _ (v.ar.getD 0 aR) (y.ae.getD k aG).aC _ with
  |inr p=>
   rfl
  |inl u=>
   simp_all[fD,ds,h2,ab.b7,av]
 |none=>
  cases y.Open with
  |false=>
   simp_all[ai,OZ,bU,bN,fD]
  |true=>
   simp_all[iZ,ds,av,ai,aU,bz,aw,bJ,fD]
def ze(tw tr:List af)(n:Nat):Prop:=∀{v:ab},cP v->∀{t rt:Int} {path:az} (a:az),eI tw true t v->fX tw n t v->0<=rt->rt<tr.length->path.length+n<=50000->
 rl (t,v,rt,tw,tr,a,path)=some (fD tw tr a path (eg tw tr n t v rt path))
theorem ZI(HW:dA tw)(HR:dA tr){n:Nat}(ih:ze tw tr n):ze tw tr (n+1):=by
 intro v aB t rt path e K aq a6 U al;unfold fX at aq;obtain⟨⟨z1,aY,aZ⟩,M,O,H⟩:=aq;have SW:=HW.V.jo HW.T;have cm:=HR.V.jo HR.T;have aT:=lp v;obtain⟨⟨g1,g2,g3,g4⟩,X⟩:=(jd _ _ _).1 K;obtain⟨j,rfl⟩:∃j:Nat,t=(j:Int):=⟨t.toNat,by omega⟩
 obtain⟨k,rfl⟩:∃k:Nat,rt=(k:Int):=⟨rt.toNat,by omega⟩
 have Z:j<tw.length:=by omega
 have aa:k<tr.length:=by omega
 have ad:=bM Z aL;have o:=bM aa aL;have aP:=g4 rfl;cases aB with
 |mk _ hs h1 aN aO au B aS dR aV aW aX=>
 rw[rl,ai (aU Z),Bx];simp only[bl,aw,bz,ab.b7];rw[bz]at g3 X M O H;rw[ai (aU aa)];have ap:∀q,q∈(tr.getD k aL).ae->q.bX=true->jA q.bC=some q.bC:=λq a aj=>X3 ((HR.T _ o).hX _ a) (by have:=HR.W _ o q a aj;omega);generalize I:tw.getD j aL=x at*;generalize ak:tr.getD k aL=y at*;have L:∀{t rt:Int} {q:ab},q∈v.ar->eI tw true t q->fX tw n t q->0<=rt->rt<tr.length->Part tw tr (eg tw tr n) path t rt q:=λ{t rt q} a K R a0 a1 step e=>J6 (by omega) (ih (B q a) e K R a0 a1 (by simp;omega));have aF:∀{t rt:Int} {q:ab},q∈v.bb->eI tw true t q->fX tw n t q->0<=rt->rt<tr.length->Part tw tr (eg tw tr n) path t rt q:=λ{t rt q} a K R a0 a1 step e=>J6 (by omega) (ih (au q a) e K R a0 a1 (by simp;omega));have F:=OZ (tw:=tw) (tr:=tr) (path:=path) (by omega) e;by_cases bE:x.Kind=y.Kind
 . rw[av (show ¬(!(decide (x.Kind=y.Kind)))=true by simp[bE])];have N:∀{t rt:Int},v.ar=[]->mI (t,v.ar,rt,tw,tr,e,path)=some ([],true,tw,tr,e,path):=λ{t rt} he=>by
    have:=yb (tw:=tw) (tr:=tr) (f:=eg tw tr n) (path:=path) (t:=t) (rt:=rt) (l:=v.ar) (by omega) (λq a=>by rw[he]at a;cases a) e;rw[this,he];rfl
   rcases X with h|h|h|h|h|h|h|h|h
   . obtain⟨a1,a2,a3,a4,a5,d,C⟩:=h;have b:x.Kind=1:=(by omega);have ag:iQ x y v:=⟨λh=>by omega,λh=>by omega,λh=>by omega⟩
     rw[p6 bE (by omega) ag];simp only[b];simp only[N d,aw,dn,bU,bN,Int.reduceEq,ds,fD];cases v;simp_all
   . obtain⟨a1,a2,a3,a4,a5,d,C,D,a9⟩:=h;have b:x.Kind=2:=(by omega);by_cases ag:y.bH<=v.bB/\v.bB<=y.bK
     . rw[p6 bE (by omega) (show iQ x y v from⟨λ_=>ag,λh=>by omega,λh=>by omega⟩)];simp only[b];simp only[N d,ag.1,ag.2,aw,dn,cL,bU,bN,bJ,Int.reduceEq,ds,dX,fD];cases v;simp_all
     . rw[uJ bE (by omega) (show ¬iQ x y v fromλh=>ag (h.1 b))];have J:(bif decide (y.bH<=v.bB)then decide (v.bB<=y.bK)else false)=false:=by
        by_cases c:y.bH<=v.bB<;>simp[c];omega
       simp only[b,J];simp only[F,aw,cL,bJ,eL,fD,ab.b7]
   . obtain⟨a1,a2,a3,a4,a5,d,C,D⟩:=h;have b:x.Kind=3:=(by omega);by_cases ag:(v.bL.length:Int)<=y.Max
     . rw[p6 bE (by omega) (show iQ x y v from⟨λh=>by omega,λ_=>ag,λh=>by omega⟩)];simp only[b];simp only[N d,ag,aw,dn,cL,bU,bN,bJ,Int.reduceEq,ds,dX,fD];cases v;simp_all
     . rw[uJ bE (by omega) (show ¬iQ x y v fromλh=>ag (h.2.1 b))];simp only[b];simp only[F,ag,aw,cL,dn,bJ,bN,Int.reduceEq,bU,eL,fD,ab.b7]
   . obtain⟨a1,a2,a3,a4,a5,d,C,D⟩:=h;have b:x.Kind=4:=(by omega);obtain⟨r,U,_,aI⟩:=w0 (t:=y) v.ah (by have:=(HR.T _ o).1;have:=eP (e6 reachBytes);omega);have G:r.2=true↔∃s,s∈y.br/\s.ah=v.ah:=by
      rcases aI with⟨q,g,S,_,rfl⟩|⟨q,rfl⟩
      . exact⟨λ_=>⟨_,bM g dB,S⟩,λ_=>rfl⟩
      . constructor
        . intro h;simp at h
        intro a;obtain⟨s,s1,aJ⟩:=a;obtain⟨i,B,rfl⟩:=jk s1;exact absurd aJ (by have:=q i B;rwa [ig B]at this)
     by_cases ag:(∃s,s∈y.br/\s.ah=v.ah)\/y.Open=true
     . rw[p6 bE (by omega) (show iQ x y v from⟨λh=>by omega,λh=>by omega,λ_=>ag⟩)];have J:(bif r.2 then true else y.Open)=true:=by
        rcases ag with ag|ag
        . rw[G.2 ag];rfl
        . rw[ag];cases r.2<;>rfl
       simp only[b,U];simp only[N d,J,aw,dn,cL,bU,bN,bJ,Int.reduceEq,ds,fD];cases v;simp_all
     . rw[uJ bE (by omega) (show ¬iQ x y v fromλh=>ag (h.2.2 b))];have J:(bif r.2 then true else y.Open)=false:=by
        cases az:r.2 with
        |true=>exact absurd (.inl (G.1 az)) ag
        |false=>
         cases ax:y.Open with
         |true=>exact absurd (.inr ax) ag
         |false=>rfl
       simp only[b,U];simp only[F,J,aw,cL,dn,bJ,bN,Int.reduceEq,bU,eL,fD,ab.b7]
   . obtain⟨a1,a2,a3,a4,a5,d,C,D⟩:=h;have b:x.Kind=5:=(by omega);obtain⟨af,aC⟩:=SW.A _ ad (.inl (by omega));obtain⟨aD,aE⟩:=cm.A _ o (.inl (by omega));obtain⟨f1,f2⟩:=lQ.1 D
     have G:=X4 (tw:=tw) (tr:=tr) (f:=eg tw tr n) (path:=path) (by omega) (x:=x) (y:=y) a1 (by omega) (by omega) f1 B ap (λi E q a=>by
      have w:=bM (by omega:i<v.ar.length) aR;obtain⟨z,g⟩:=HR.iq.mem o a;exact⟨L w (f2 i E) (M b i E) z g,λp u aA=>(Gw HW HR n (B _ w) (f2 i E) (M b i E) z g aA).1⟩) (λi E=>by
      have w:=bM (by omega:i<v.ar.length) aR
      exact L9 HW (B _ w) _ (f2 i E) (M b i E).len) e
     rw[O4 bE b];simp only[b,G,aw,dn,cL,bU,bN,bJ,Int.reduceEq,ab.b7]
   . obtain⟨a1,a2,a3,a4,a5,d⟩:=h;have b:x.Kind=6:=(by omega);obtain⟨af,aC⟩:=SW.A _ ad (.inr (by omega));obtain⟨aD,aE⟩:=cm.A _ o (.inr (by omega));cases bV:d' x.ae v.ah with
     |none=>rw[bV]at d;cases d.2.1
     |some m=>
      rw[bV]at d;obtain⟨aM,an,ao⟩:=d;have Q:=um x.ae v.ah;rw[bV]at Q;cases P:eC x.ae v.ah with
      |none=>rw[P]at Q;cases Q
      |some i=>
      obtain⟨d1,d2,_⟩:=hB P;obtain⟨d3,d4⟩:=p1 bV;have em:x.ae.getD i aG=m:=yk af (bM d1 aG) d3 (by rw[d2,d4]);have w:=bM (by omega:0<v.ar.length) aR;have Y:=eO.1 ao _ w
      have G:=ZH (tw:=tw) (tr:=tr) (f:=eg tw tr n) (path:=path) (by omega) (x:=x) (y:=y) a1 (by omega) (by omega) an P (λq a=>by
       obtain⟨z,g⟩:=HR.iq.mem o a;rw[em]
       exact L w Y (O b _ bV _ w) z g) (by rw[em];exact L9 HW (B _ w) _ Y (O b _ bV _ w).len) e
      rw[O5 bE b];simp only[b,G,aw,dn,cL,bU,bN,bJ,Int.reduceEq,ab.b7]
   . obtain⟨a1,a2,a3,a4,a5,d,C,D,a9⟩:=h;have b:x.Kind=7:=(by omega);obtain⟨z,g⟩:=HR.iq.elem o (by omega);have a:=yb (tw:=tw) (tr:=tr) (f:=eg tw tr n) (path:=path) (t:=x.aQ) (rt:=y.aQ) (l:=v.ar) (by omega) (λq a=>L a (eO.1 a9 q a) ((H (by omega)).1 q a) z g) e;rw[O6 bE b];unfold yJ;by_cases ag:(v.ar.length:Int)<=y.Max
     . rw[ai ag];simp only[b,a,ag,aw,dn,cL,bU,bN,bJ,Int.reduceEq,ds];cases eQ (eg tw tr n) path x.aQ y.aQ 0 v.ar with
       |inr p=>rfl
       |inl us=>simp only[nL,h2,fD,ds,bU,bN,a1,a2,a3,a4,a5]
     . rw[av ag];simp only[b];simp only[F,ag,aw,cL,dn,bJ,bN,Int.reduceEq,bU,eL,fD,ab.b7]
   . obtain⟨a1,a2,a3,a4,a5,d,C,D,a9,am,aK⟩:=h;have b:x.Kind=8:=(by omega);obtain⟨z,g⟩:=HR.iq.elem o (by omega);obtain⟨S,aH⟩:=HR.iq.key o (by omega);have a:=yb (tw:=tw) (tr:=tr) (f:=eg tw tr n) (path:=path) (t:=x.aQ) (rt:=y.aQ) (l:=v.ar) (by omega) (λq a=>L a (eO.1 am q a) ((H (by omega)).1 q a) z g) e;have ay:=yb (tw:=tw) (tr:=tr) (f:=eg tw tr n) (path:=path) (t:=x.Key) (rt:=y.Key) (l:=v.bb) (by omega) (λq a=>aF a (eO.1 a9 q a) ((H (by omega)).2 q a) S aH) e;rw[O7 bE b];unfold yK;by_cases ag:(v.ar.length:Int)<=y.Max
     . rw[ai ag];simp only[b,ay,ag,aw,dn,cL,bU,bN,bJ,Int.reduceEq,ds];cases eQ (eg tw tr n) path x.Key y.Key 0 v.bb with
       |inr p=>rfl
       |inl ks=>
        simp only[nL,lA,ds,bU,bN,a,aw];cases eQ (eg tw tr n) path x.aQ y.aQ 0 v.ar with
        |inr p=>rfl
        |inl us=>simp only[nL,h2,fD,ds,bU,bN,a1,a2,a3,a4,a5]
     . rw[av ag];simp only[b];simp only[F,ag,aw,cL,dn,bJ,bN,Int.reduceEq,bU,eL,fD,ab.b7]
   . obtain⟨a1,a2,a3,a4,a5,d,C,D,a9⟩:=h;have b:x.Kind=9:=(by omega);obtain⟨z,g⟩:=HR.iq.elem o (by omega);have a:=yb (tw:=tw) (tr:=tr) (f:=eg tw tr n) (path:=path) (t:=x.aQ) (rt:=y.aQ) (l:=v.ar) (by omega) (λq a=>L a (eO.1 a9 q a) ((H (by omega)).1 q a) z g) e;rw[O8 bE b];unfold yL;simp only[b,a,aw,dn,cL,bU,bN,bJ,Int.reduceEq,ds];cases eQ (eg tw tr n) path x.aQ y.aQ 0 v.ar with
     |inr p=>rfl
     |inl us=>simp only[nL,h2,fD,ds,bU,bN,a1,a2,a3,a4,a5]
 . rw[ai (show(!(decide (x.Kind=y.Kind)))=true by simp[bE]),L7 bE,F];simp only[aw,ab.b7,fD]
theorem ZJ:ze tw tr 0:=by
 intro v _ _ _ _ _ _ h;cases h
theorem Jm(HW:dA tw)(HR:dA tr):∀n,ze tw tr n
 |0=>ZJ
 |n+1=>ZI HW HR (Jm HW HR n)
end
def hr:ab ⊕ az->dE
 |.inl u=>⟨u,[],true⟩
 |.inr p=>⟨⟨0,false,0,[],0,[],[],[]⟩,p,false⟩
theorem BT(al:path.length<=90000):jV path=some (hr (.inr path)):=by
 rw[jV,ai (e2 (by simp) (by grind))];rfl
theorem yI(al:path.length<=90000)(step:Int):pI (path,step)=some (path++[step]):=by
 rw[pI,ai (e2 (by simp) (by grind)),j7];simp only[bl,aw];rw[ai (e2 (by simp) (by grind))]
theorem DR{m:aY}(a:cP m.bC)(v:ab):tp (m,v)=some (dG m v):=by
 rw[tp];simp[ab.b7];unfold dG;cases aj:m.bX with
 |false=>rfl
 |true=>
  obtain⟨r,b,c⟩:=JX a v;grind
theorem xG(ag:x.ae.length<=1000)(id:Int):hv (x,id)=some (jF x.ae id):=by
 obtain⟨r,a,b⟩:=Q4 (t:=x) (id:=id) (by omega);grind[Fc,Ij]
section
variable {tw tr:List af}
def nM(tw tr:List af)(f:fE)(path:az)(t rt:Int)(v:ab):Prop:=∀step:Int,lH ((⟨tw⟩:a7),t,v,(⟨tr⟩:a7),rt,path++[step])=some (hr (f t v rt (path++[step])))
def CK(tw tr:List af)(path:az)(x y:af)(v:ab)(acc:List ab):List ab ⊕ az->dE ⊕ (az×List af×ab×List af×Int×Bool×Int×aD×Int×Bool×af×af×Int×Bool×Int×aD×Int×List cG×List ab)
 |.inl us=>.inr (path,tw,v,tr,0,false,0,[],0,false,x,y,v.Kind,v.cd,v.bB,v.bL,v.ah,v.Rest,acc++us)
 |.inr p=>.inl (hr (.inr p))
theorem Jn(al:path.length<=90000)(ag:v.bb.length<=50000)(h:∀q,q∈v.bb->nM tw tr f path x.Key y.Key q):∀(k i:Nat) (acc:List ab),i+k=v.bb.length->acc.length<=i->
 mE (path,(i:Int),tw,v,tr,0,false,0,[],0,false,x,y,v.Kind,v.cd,v.bB,v.bL,v.ah,v.Rest,acc)=some (CK tw tr path x y v acc (eQ f path x.Key y.Key i (v.bb.drop i)))
 |0,i,acc,b,a=>by
  simp_all[mE,av,iw,eQ,CK,ab.b7]
 |k+1,i,acc,b,a=>by
  have aF:i<v.bb.length:=by omega
  rw[mE,ai (by grind),ai (aU aF),bz,yI al];simp only[ab.b7,bl,aw];rw[h _ (bM aF aR),gm aF aR,eQ];cases f x.Key (v.bb.getD i aR) y.Key (path++[(i:Int)])with
  |inr p=>rfl
  |inl u=>
   simp only[aw,hr];rw[ai (e2 (by simp) (by grind)),bO (by omega),Jn al ag h k (i+1) _ (by omega) (by grind)];cases eQ f path x.Key y.Key (i+1) (v.bb.drop (i+1))with
   |inr p=>rfl
   |inl us=>simp[CK,im]
def CJ(v:ab)(ks acc:List ab):List ab ⊕ az->dE ⊕ (Int×Bool×Int×aD×Int×Bool×Int×Bool×Int×aD×Int×List cG×List ab×List ab)
 |.inl us=>.inr (0,false,0,[],0,false,v.Kind,v.cd,v.bB,v.bL,v.ah,v.Rest,ks,acc++us)
 |.inr p=>.inl (hr (.inr p))
theorem Im(al:path.length<=90000)(ag:v.ar.length<=50000)(h:∀q,q∈v.ar->nM tw tr f path x.aQ y.aQ q){ks:List ab}:∀(k i:Nat) (acc:List ab),i+k=v.ar.length->acc.length<=i->
 mF (path,(i:Int),tw,v,tr,0,false,0,[],0,false,x,y,v.Kind,v.cd,v.bB,v.bL,v.ah,v.Rest,ks,acc)=some (CJ v ks acc (eQ f path x.aQ y.aQ i (v.ar.drop i)))
 |0,i,acc,b,a=>by
  simp_all[mF,av,eQ,CJ]
 |k+1,i,acc,b,a=>by
  have aF:i<v.ar.length:=by omega
  rw[mF,ai (by grind),ai (aU aF),bz,yI al];simp only[ab.b7,bl,aw];rw[h _ (bM aF _),gm aF aR,eQ];cases f _ _ _ _ with
  |inr p=>rfl
  |inl u=>
   simp only[aw,hr];rw[ai (e2 (by simp) (by grind)),bO (by omega),Im al ag h k (i+1) _ (by omega) (by grind)];cases eQ f path x.aQ y.aQ (i+1) _ with
   |inr p=>rfl
   |inl us=>simp[CJ,im]
def lo(f:fE)(x y:af)(v:ab)(path:az):ab ⊕ az:=
 lA (λks=>h2 (λa=>⟨v.Kind,v.cd,v.bB,v.bL,v.ah,ks,a,v.Rest⟩) (eQ f path x.aQ y.aQ 0 v.ar)) (eQ f path x.Key y.Key 0 v.bb)
theorem sg(al:path.length<=90000)(d:v.bb.length<=50000)(ag:v.ar.length<=50000)(c:∀q,q∈v.bb->nM tw tr f path x.Key y.Key q)(h:∀q,q∈v.ar->nM tw tr f path x.aQ y.aQ q):
 (∃p,lo f x y v path= .inr p/\mE (path,0,tw,v,tr,0,false,0,[],0,false,x,y,v.Kind,v.cd,v.bB,v.bL,v.ah,v.Rest,[])=some (.inl (hr (.inr p))))\/
 ∃ks,mE (path,0,tw,v,tr,0,false,0,[],0,false,x,y,v.Kind,v.cd,v.bB,v.bL,v.ah,v.Rest,[])=some (.inr (path,tw,v,tr,0,false,0,[],0,false,x,y,v.Kind,v.cd,v.bB,v.bL,v.ah,v.Rest,ks))/\
  ((∃p,lo f x y v path= .inr p/\mF (path,0,tw,v,tr,0,false,0,[],0,false,x,y,v.Kind,v.cd,v.bB,v.bL,v.ah,v.Rest,ks,[])=some (.inl (hr (.inr p))))\/
  ∃us,lo f x y v path= .inl ⟨v.Kind,v.cd,v.bB,v.bL,v.ah,ks,us,v.Rest⟩/\mF (path,0,tw,v,tr,0,false,0,[],0,false,x,y,v.Kind,v.cd,v.bB,v.bL,v.ah,v.Rest,ks,[])=some (.inr (0,false,0,[],0,false,v.Kind,v.cd,v.bB,v.bL,v.ah,v.Rest,ks,us))):=by
 have h0:=Jn al d c v.bb.length 0 [] (by simp) (by simp);have a:mE (path,0,tw,v,tr,0,false,0,[],0,false,x,y,v.Kind,v.cd,v.bB,v.bL,v.ah,v.Rest,[])=_:=h0;rw[a,gh];unfold lo;cases eQ f _ _ _ 0 v.bb with
 |inr p=>exact .inl ⟨p,rfl,rfl⟩
 |inl ks=>
  have h1:=Im al ag h (ks:=ks) v.ar.length 0 [] (by simp) (by simp);have b:mF (path,0,tw,v,tr,0,false,0,[],0,false,x,y,v.Kind,v.cd,v.bB,v.bL,v.ah,v.Rest,ks,[])=_:=h1;refine .inr ⟨ks,by rfl,?_⟩;rw[b,gh];cases eQ f _ _ _ 0 _ with
  |inr p=>exact .inl ⟨p,rfl,rfl⟩
  |inl us=>exact .inr ⟨us,rfl,by rfl⟩
def sT(tw:List af)(path:az)(x y:af)(v:ab)(acc:List ab):List ab ⊕ az->dE ⊕ (az×List af×af×ab×af×Int×Bool×Int×aD×Int×Bool×Int×Bool×Int×aD×Int×List ab)
 |.inl us=>.inr (path,tw,x,v,y,0,false,0,[],0,false,v.Kind,false,0,[],0,acc++us)
 |.inr p=>.inl (hr (.inr p))
theorem Jo{path:az}(al:path.length<=80000)(I:x.ae.length<=1000)(ak:y.ae.length<=1000)(ag:v.ar.length=x.ae.length)
 (d:∀n,n∈x.ae->cP n.bC)(e:∀n,n∈y.ae->cP n.bC)
 (h:∀i,i<x.ae.length->∀n,n∈y.ae->nM tw tr f path (x.ae.getD i aG).aC n.aC (v.ar.getD i aR)):∀(k j:Nat) (acc:List ab),j+k=y.ae.length->acc.length<=j->
 nW (path,(j:Int),tw,x,v,tr,y,0,false,0,[],0,false,v.Kind,false,0,[],0,acc)=some (sT tw path x y v acc (iB f x v path (y.ae.drop j)))
 |0,j,acc,q,m=>by
  simp_all[nW,av,iw,iB,sT,ab.b7]
 |k+1,j,acc,q,m=>by
  have aF:j<y.ae.length:=by omega
  have g:=bM aF aG;have rc:=λacc=>Jo al I ak ag d e h k (j+1) acc (by omega);rw[nW,ai (by grind),ai (aU aF),bz];simp only[bl,aw,ab.b7,lO];rw[yI (by omega),xG I,gm aF aG,iB];unfold u5 jF;have o:=e _ g;generalize aV:y.ae.getD j aG=n at*;have M:=BT (path:=path++[n.ah]) (by grind);cases bV:eC x.ae n.ah with
  |none=>
   simp only[aw,eL,dX];cases z:n.bX with
   |false=>
    rw[M,av (show ¬false=true by simp)];rfl
   |true=>
    rw[ai trivial,ai (e2 (by simp) (by grind)),bO (by omega),rc _ (by grind),ai (show true=true from rfl)];cases iB f x v path (y.ae.drop (j+1))with
    |inr p=>rfl
    |inl us=>simp[sT,im]
  |some i=>
   obtain⟨a,_,_⟩:=hB bV;have c:i<v.ar.length:=(by omega);have s:=h i a n g;simp only[aw,ds,eF];rw[c8,c8,ai (aU a),ai (aU c),bz,s n.ah];have l:=DR (d _ (bM a aG)) (v.ar.getD i aR);cases w:f (x.ae.getD i aG).aC (v.ar.getD i aR) n.aC (path++[n.ah])with
   |inr p=>
    simp only[aw,hr,ab.b7,eL,ds,Bool.and_false];rw[ai (aU a),ai (aU c),l];rw[J3];generalize dG (x.ae.getD i aG) (v.ar.getD i aR)=b at*;cases b with
    |false=>rfl
    |true=>
     simp only[dX];rw[ai trivial,M];rfl
   |inl u=>
    have r:=DR o u;simp only[aw,hr,ab.b7,eL,ds,qA];rw[ai (aU a),ai (aU c),l];simp only[aw,bU,bN];rw[J4];generalize dG (x.ae.getD i aG) (v.ar.getD i aR)=b at*;have A:(some [u]>>=λt110=>if room 120 (acc++t110).length then nW (path,aS .i64 (j:Int) 1,tw,x,v,tr,y,0,false,0,[],0,false,v.Kind,false,0,[],0,acc++t110)else none)=some (sT tw path x y v acc (im (.inl u) (iB f x v path (y.ae.drop (j+1))))):=by
     simp only[bl,aw];rw[ai (e2 (by simp) (by grind)),bO (by omega),rc _ (by grind)];cases iB f x v path (y.ae.drop (j+1))with
     |inr p=>rfl
     |inl us=>simp[sT,im]
    cases b with
    |false=>
     grind
    |true=>
     rw[ai rfl,r];cases t:dG n u with
     |true=>
      grind
     |false=>
      rw[M];rfl
def zd(v:ab)(its:List ab)(acc:List cG):List cG ⊕ az->dE ⊕ (Int×Bool×Int×aD×Int×Bool×Int×Bool×Int×aD×Int×List ab×List cG)
 |.inl a=>.inr (0,false,0,[],0,false,v.Kind,false,0,[],0,its,acc++a)
 |.inr p=>.inl (hr (.inr p))
theorem Jp(al:path.length<=80000)(I:x.ae.length<=1000)(ak:y.ae.length<=1000)(ag:v.ar.length=x.ae.length)(b:∀n,n∈x.ae->cP n.bC)
 (h:∀i,i<x.ae.length->jQ tw (v.ar.getD i aR) (x.ae.getD i aG).aC){its:List ab}:∀(k i:Nat) (acc:List cG),i+k=x.ae.length->acc.length<=i->
 mB (path,(i:Int),tw,x,v,y,0,false,0,[],0,false,v.Kind,false,0,[],0,its,acc)=some (zd v its acc (hN tw y path (x.ae.drop i) (v.ar.drop i)))
 |0,i,acc,e,d=>by
  simp_all[mB,av,iw,hN,zd]
 |k+1,i,acc,e,d=>by
  have aF:i<x.ae.length:=by omega
  have a:i<v.ar.length:=by omega
  have rc:=λacc=>Jp al I ak ag b h (its:=its) k (i+1) acc (by omega);rw[mB,ai (by grind),ai (aU aF),bz];simp only[bl,aw,ab.b7,lO];rw[xG ak,gm aF aG,gm a aR,hN];have hs:=um y.ae (x.ae.getD i aG).ah;have f:(jF y.ae (x.ae.getD i aG).ah).2=(d' y.ae (x.ae.getD i aG).ah).isSome:=by
   grind[jF]
  simp only[aw];rw[f];by_cases c1:(d' y.ae (x.ae.getD i aG).ah).isSome=true
  . rw[ai c1,ai c1,bO (by omega),rc _ (by omega)]
  rw[av c1,av c1];by_cases c2:(x.ae.getD i aG).cJ=true
  . rw[ai c2,ai c2,yI (by omega)];simp only[aw];rw[BT (by grind)];rfl
  rw[av c2,av c2,ai (aU a),DR (b _ (bM aF aG))];simp only[aw];cases dG (x.ae.getD i aG) (v.ar.getD i aR)with
  |true=>
   rw[c8,ai rfl,bO (by omega),rc _ (by omega)]
  |false=>
   have c:=h i aF;rw[ai (aU a),c];simp only[aw];rw[ai (e2 (by simp)),bO (by omega),rc _ (by simp;omega)];cases hN tw y path _ _ with
   |inr p=>rfl
   |inl us=>simp[zd,im]
theorem X5(al:path.length<=80000)(cW:v.Kind=5)(I:x.ae.length<=1000)(ak:y.ae.length<=1000)(ag:v.ar.length=x.ae.length)
 (a:∀n,n∈x.ae->cP n.bC)(b:∀n,n∈y.ae->cP n.bC)
 (h:∀i,i<x.ae.length->∀n,n∈y.ae->nM tw tr f path (x.ae.getD i aG).aC n.aC (v.ar.getD i aR))
 (e:∀i,i<x.ae.length->jQ tw (v.ar.getD i aR) (x.ae.getD i aG).aC):
 wa ((⟨tw⟩:a7),x,v,(⟨tr⟩:a7),y,path)=some (hr (u4 tw f x y v path)):=by
 have h0:=Jo al I ak ag a b h y.ae.length 0 [] (by simp) (by simp);have c:nW (path,0,tw,x,v,tr,y,0,false,0,[],0,false,v.Kind,false,0,[],0,[])=_:=h0;rw[wa];simp only[ab.b7];rw[c,gh];unfold u4;cases iB f x v path _ with
 |inr p=>rfl
 |inl its=>
  have h1:=Jp al I ak ag a e (its:=its) x.ae.length 0 [] (by simp) (by simp);have d:mB (path,0,tw,x,v,y,0,false,0,[],0,false,v.Kind,false,0,[],0,its,[])=_:=h1;simp[bl,aw,sT,j7,ab.b7];rw[d,gh,gh];cases hN tw y path _ v.ar with
  |inr p=>rfl
  |inl r=>simp_all[zd,lA,h2,hr,mL,ab.b7]
theorem ZK(al:path.length<=80000)(dm:v.Kind=6)(I:x.ae.length<=1000)(ak:y.ae.length<=1000)(h1:v.ar.length=1){i:Nat}(a:eC x.ae v.ah=some i)
 (h:∀n,n∈y.ae->nM tw tr f path (x.ae.getD i aG).aC n.aC (v.ar.getD 0 aR))
 (d:jQ tw (v.ar.getD 0 aR) (x.ae.getD i aG).aC):
 wq ((⟨tw⟩:a7),x,v,(⟨tr⟩:a7),y,path)=some (hr (sA tw f x y v path)):=by
 obtain⟨c,_,_⟩:=hB a;have b:aB 0 v.ar.length=true:=by rw[h1];rfl
 rw[wq,xG I,xG ak];unfold sA jF;simp only[bl,aw,ab.b7,a];cases bV:eC y.ae v.ah with
 |some k=>
  obtain⟨bn,_,_⟩:=hB bV;rw[c8,c8,ai (aU c),ai b,ai (aU bn),bz,bz,show(0:Int).toNat=0 from rfl,yI (by omega)];simp only[aw];rw[h _ (bM bn aG)];cases f _ _ _ _ with
  |inr p=>
   rfl
  |inl u=>
   simp_all[aw,hr,ds,h2,ab.b7,mL,av]
 |none=>
  simp only[eL,dX];cases y.Open with
  |false=>
   rw[BT (by omega)];rfl
  |true=>
   rw[ai trivial,ai (aU c),ai b,bz,show(0:Int).toNat=0 from rfl,d];simp_all[aw,bJ,hr,mL,ab.b7]
def zf(tw tr:List af)(n:Nat):Prop:=∀{v:ab},cP v->wt v<=2147483648->∀{t rt:Int} {path:az},eI tw true t v->fX tw n t v->0<=rt->rt<tr.length->path.length+n<=50000->
 lH ((⟨tw⟩:a7),t,v,(⟨tr⟩:a7),rt,path)=some (hr (eg tw tr n t v rt path))
theorem X6(HW:dA tw)(HR:dA tr){n:Nat}(ih:zf tw tr n):zf tw tr (n+1):=by
 intro v aB aW t rt path K aq a' W al;unfold fX at aq;obtain⟨⟨z1,a7,a8⟩,Y,Z,H⟩:=aq;have SW:=HW.V.jo HW.T;have cm:=HR.V.jo HR.T;have aX:=lp v;obtain⟨⟨g1,g2,g3,g4⟩,aa⟩:=(jd _ _ _).1 K;obtain⟨j,rfl⟩:∃j:Nat,t=(j:Int):=⟨t.toNat,by omega⟩
 obtain⟨k,rfl⟩:∃k:Nat,rt=(k:Int):=⟨rt.toNat,by omega⟩
 have af:j<tw.length:=by omega
 have aj:k<tr.length:=by omega
 have P:=bM af aL;have u:=bM aj aL;have aT:=g4 rfl;cases aB with
 |mk _ hs h1 aP aS ay E aV dR aY aZ a6=>
 rw[lH,ai (aU af),Bx];simp only[bl,aw,bz,ab.b7];rw[bz]at g3 aa Y Z H;rw[ai (aU aj)];have au:=(HW.T _ P).hX;have ax:=(HR.T _ u).hX;generalize I:tw.getD j aL=x at*;generalize ak:tr.getD k aL=y at*;have X:∀y,y∈v.ar->wt y<=2147483648:=λy ak=>by have:=hA ak;omega
 have aK:∀y,y∈v.bb->wt y<=2147483648:=λy ak=>by have:=hA ak;omega
 have L:∀{t rt:Int} {q:ab},q∈v.ar->eI tw true t q->fX tw n t q->0<=rt->rt<tr.length->nM tw tr (eg tw tr n) path t rt q:=λ{t rt q} a K R a0 a1 step=>ih (E q a) (X q a) K R a0 a1 (by simp;omega);have aF:∀{t rt:Int} {q:ab},q∈v.bb->eI tw true t q->fX tw n t q->0<=rt->rt<tr.length->nM tw tr (eg tw tr n) path t rt q:=λ{t rt q} a K R a0 a1 step=>ih (ay q a) (aK q a) K R a0 a1 (by grind);have F:=BT (path:=path) (by omega);have D:(jV path).bind (λr=>some (⟨r.Value,r.Path,r.eu⟩:dE))=some (hr (.inr path)):=by rw[F];rfl
 by_cases bE:x.Kind=y.Kind
 . rw[av (show ¬(!(decide (x.Kind=y.Kind)))=true by simp[bE])];have N:v.bb=[]->v.ar=[]->lo (eg tw tr n) x y v path= .inl v:=λaN J=>by
    unfold lo;cases v;simp_all [eQ,lA,h2]
   rcases aa with h|h|h|h|h|h|h|h|h
   case' inl=>
    obtain⟨a1,a2,a3,a4,a5,d,w⟩:=h;have b:x.Kind=1:=(by omega);have ag:iQ x y v:=⟨λh=>by omega,λh=>by omega,λh=>by omega⟩
    have C:=sg (tw:=tw) (tr:=tr) (f:=eg tw tr n) (path:=path) (by omega) (x:=x) (y:=y) (v:=v) (by omega) (by omega) (λq a=>by rw[a5]at a;cases a) (λq a=>by rw[d]at a;cases a);rw[p6 bE (by omega) ag,<-N a5 d];simp only[b,Int.reduceEq,dn,cL,eF,dX,bU,bN,bJ]
   case' inr.inl=>
    obtain⟨a1,a2,a3,a4,a5,d,w,B,a9⟩:=h;have b:x.Kind=2:=(by omega);by_cases ag:y.bH<=v.bB/\v.bB<=y.bK
    case' neg=>
     have g:(bif decide (v.bB<y.bH)then true else decide (y.bK<v.bB))=true:=by
      by_cases c:v.bB<y.bH<;>simp[c];omega
     rw[uJ bE (by omega) (show ¬iQ x y v fromλh=>ag (h.1 b))];simp only[b,g,Int.reduceEq,dn,cL,eF,dX,bU,bN,bJ];exact D
    case' pos=>
     have g:(bif decide (v.bB<y.bH)then true else decide (y.bK<v.bB))=false:=by
      have c1:¬v.bB<y.bH:=(by omega);have c2:¬y.bK<v.bB:=(by omega);simp[c1,c2]
     have C:=sg (tw:=tw) (tr:=tr) (f:=eg tw tr n) (path:=path) (by omega) (x:=x) (y:=y) (v:=v) (by omega) (by omega) (λq a=>by rw[a5]at a;cases a) (λq a=>by rw[d]at a;cases a);rw[p6 bE (by omega) (show iQ x y v from⟨λ_=>ag,λh=>by omega,λh=>by omega⟩),<-N a5 d];simp only[b,g,Int.reduceEq,dn,cL,eF,dX,bU,bN,bJ]
   case' inr.inr.inl=>
    obtain⟨a1,a2,a3,a4,a5,d,w,B⟩:=h;have b:x.Kind=3:=(by omega);by_cases ag:(v.bL.length:Int)<=y.Max
    case' neg=>
     have g:decide (y.Max<(v.bL.length:Int))=true:=ez (by omega);rw[uJ bE (by omega) (show ¬iQ x y v fromλh=>ag (h.2.1 b))];simp only[b,g,Int.reduceEq,dn,cL,eF,dX,bU,bN,bJ];exact D
    case' pos=>
     have g:decide (y.Max<(v.bL.length:Int))=false:=hJ (by omega);have C:=sg (tw:=tw) (tr:=tr) (f:=eg tw tr n) (path:=path) (by omega) (x:=x) (y:=y) (v:=v) (by omega) (by omega) (λq a=>by rw[a5]at a;cases a) (λq a=>by rw[d]at a;cases a);rw[p6 bE (by omega) (show iQ x y v from⟨λh=>by omega,λ_=>ag,λh=>by omega⟩),<-N a5 d];simp only[b,g,Int.reduceEq,dn,cL,eF,dX,bU,bN,bJ]
   case' inr.inr.inr.inl=>
    obtain⟨a1,a2,a3,a4,a5,d,w,B⟩:=h;have b:x.Kind=4:=(by omega);obtain⟨r,_,W,aI⟩:=w0 (t:=y) v.ah (by have:=(HR.T _ u).1;have:=eP (e6 reachBytes);omega);have G:r.2=true↔∃s,s∈y.br/\s.ah=v.ah:=by
     rcases aI with⟨q,l,U,_,rfl⟩|⟨q,rfl⟩
     . exact⟨λ_=>⟨_,bM l dB,U⟩,λ_=>rfl⟩
     . constructor
       . intro h;simp at h
       intro a;obtain⟨s,s1,aJ⟩:=a;obtain⟨i,E,rfl⟩:=jk s1;exact absurd aJ (by have:=q i E;rwa [ig E]at this)
    by_cases ag:(∃s,s∈y.br/\s.ah=v.ah)\/y.Open=true
    case' neg=>
     have g:(bif (!r.2)then(!y.Open)else false)=true:=by
      cases aA:r.2 with
      |true=>exact absurd (.inl (G.1 aA)) ag
      |false=>
       cases az:y.Open with
       |true=>exact absurd (.inr az) ag
       |false=>rfl
     rw[uJ bE (by omega) (show ¬iQ x y v fromλh=>ag (h.2.2 b))];simp only[b,W,g,aw,Int.reduceEq,dn,cL,eF,dX,bU,bN,bJ];exact D
    case' pos=>
     have g:(bif (!r.2)then(!y.Open)else false)=false:=by
      rcases ag with ag|ag
      . rw[G.2 ag];rfl
      . rw[ag];cases r.2<;>rfl
     have C:=sg (tw:=tw) (tr:=tr) (f:=eg tw tr n) (path:=path) (by omega) (x:=x) (y:=y) (v:=v) (by omega) (by omega) (λq a=>by rw[a5]at a;cases a) (λq a=>by rw[d]at a;cases a);rw[p6 bE (by omega) (show iQ x y v from⟨λh=>by omega,λh=>by omega,λ_=>ag⟩),<-N a5 d];simp only[b,W,g,aw,Int.reduceEq,dn,cL,eF,dX,bU,bN,bJ]
   case' inr.inr.inr.inr.inl=>
    obtain⟨a1,a2,a3,a4,a5,d,w,B⟩:=h;have b:x.Kind=5:=(by omega);obtain⟨am,aC⟩:=SW.A _ P (.inl (by omega));obtain⟨aD,aE⟩:=cm.A _ u (.inl (by omega));obtain⟨f1,f2⟩:=lQ.1 B
    have G:=X5 (tw:=tw) (tr:=tr) (f:=eg tw tr n) (path:=path) (by omega) (x:=x) (y:=y) a1 (by omega) (by omega) f1 au ax (λi M q a=>by
     have o:=bM (by omega:i<v.ar.length) aR;obtain⟨z,l⟩:=HR.iq.mem u a;exact L o (f2 i M) (Y b i M) z l) (λi M=>by
     have o:=bM (by omega:i<v.ar.length) aR
     exact KV SW (E _ o) (by have:=X _ o;omega) _ (vf _ _ (f2 i M)))
    rw[O4 bE b];simp only[b,G,aw,Int.reduceEq,dn,cL,eF,dX,bU,bN,bJ]
    done
   case' inr.inr.inr.inr.inr.inl=>
    obtain⟨a1,a2,a3,a4,a5,d⟩:=h;have b:x.Kind=6:=(by omega);obtain⟨am,aC⟩:=SW.A _ P (.inr (by omega));obtain⟨aD,aE⟩:=cm.A _ u (.inr (by omega));cases bV:d' x.ae v.ah with
    |none=>rw[bV]at d;cases d.2.1
    |some m=>
     rw[bV]at d;obtain⟨aO,ao,ap⟩:=d;have Q:=um x.ae v.ah;rw[bV]at Q;cases O:eC x.ae v.ah with
     |none=>rw[O]at Q;cases Q
     |some i=>
     obtain⟨d1,d2,_⟩:=hB O;obtain⟨d3,d4⟩:=p1 bV;have em:x.ae.getD i aG=m:=yk am (bM d1 aG) d3 (by rw[d2,d4]);have o:=bM (by omega:0<v.ar.length) aR;have ad:=eO.1 ap _ o
     have G:=ZK (tw:=tw) (tr:=tr) (f:=eg tw tr n) (path:=path) (by omega) (x:=x) (y:=y) a1 (by omega) (by omega) ao O (λq a=>by
      obtain⟨z,l⟩:=HR.iq.mem u a;rw[em]
      exact L o ad (Z b _ bV _ o) z l) (by rw[em];exact KV SW (E _ o) (by have:=X _ o;omega) _ (vf _ _ ad))
     rw[O5 bE b];simp only[b,G,aw,Int.reduceEq,dn,cL,eF,dX,bU,bN,bJ]
    done
   case' inr.inr.inr.inr.inr.inr.inl=>
    obtain⟨a1,a2,a3,a4,a5,d,w,B,a9⟩:=h;have b:x.Kind=7:=(by omega);obtain⟨z,l⟩:=HR.iq.elem u (by omega);rw[O6 bE b];unfold yJ;by_cases ag:(v.ar.length:Int)<=y.Max
    case' neg=>
     have g:decide (y.Max<(v.ar.length:Int))=true:=ez (by omega);rw[av ag];simp only[b,g,Int.reduceEq,dn,cL,eF,dX,bU,bN,bJ];exact D
    case' pos=>
     have g:decide (y.Max<(v.ar.length:Int))=false:=hJ (by omega);have C:=sg (tw:=tw) (tr:=tr) (f:=eg tw tr n) (path:=path) (by omega) (x:=x) (y:=y) (v:=v) (by omega) (by omega) (λq a=>by rw[d]at a;cases a) (λq a=>L a (eO.1 a9 q a) ((H (by omega)).1 q a) z l);have e:(if(v.ar.length:Int)<=y.Max then h2 (λS=>(⟨7,false,0,[],0,[],S,[]⟩:ab)) (eQ (eg tw tr n) path x.aQ y.aQ 0 v.ar)else .inr path)=lo (eg tw tr n) x y v path:=by
      unfold lo;rw[ai ag,a1,a2,a3,a4,a5,d,w];rfl
     rw[e];simp only[b,g,Int.reduceEq,dn,cL,eF,dX,bU,bN,bJ]
   case' inr.inr.inr.inr.inr.inr.inr.inl=>
    obtain⟨a1,a2,a3,a4,a5,d,w,B,a9,an,aM⟩:=h;have b:x.Kind=8:=(by omega);obtain⟨z,l⟩:=HR.iq.elem u (by omega);obtain⟨U,aH⟩:=HR.iq.key u (by omega);rw[O7 bE b];unfold yK;by_cases ag:(v.ar.length:Int)<=y.Max
    case' neg=>
     have g:decide (y.Max<(v.ar.length:Int))=true:=ez (by omega);rw[av ag];simp only[b,g,Int.reduceEq,dn,cL,eF,dX,bU,bN,bJ];exact D
    case' pos=>
     have g:decide (y.Max<(v.ar.length:Int))=false:=hJ (by omega);have C:=sg (tw:=tw) (tr:=tr) (f:=eg tw tr n) (path:=path) (by omega) (x:=x) (y:=y) (v:=v) (by omega) (by omega) (λq a=>aF a (eO.1 a9 q a) ((H (by omega)).2 q a) U aH) (λq a=>L a (eO.1 an q a) ((H (by omega)).1 q a) z l);have e:(if(v.ar.length:Int)<=y.Max then lA (λks=>h2 (λS=>(⟨8,false,0,[],0,ks,S,[]⟩:ab)) (eQ (eg tw tr n) path x.aQ y.aQ 0 v.ar)) (eQ (eg tw tr n) path x.Key y.Key 0 v.bb)else .inr path)=lo (eg tw tr n) x y v path:=by
      unfold lo;rw[ai ag,a1,a2,a3,a4,a5,d]
     rw[e];simp only[b,g,Int.reduceEq,dn,cL,eF,dX,bU,bN,bJ]
   case' inr.inr.inr.inr.inr.inr.inr.inr=>
    obtain⟨a1,a2,a3,a4,a5,d,w,B,a9⟩:=h;have b:x.Kind=9:=(by omega);obtain⟨z,l⟩:=HR.iq.elem u (by omega);have C:=sg (tw:=tw) (tr:=tr) (f:=eg tw tr n) (path:=path) (by omega) (x:=x) (y:=y) (v:=v) (by omega) (by omega) (λq a=>by rw[d]at a;cases a) (λq a=>L a (eO.1 a9 q a) ((H (by omega)).1 q a) z l);have e:yL (eg tw tr n) x y v path=lo (eg tw tr n) x y v path:=by
     unfold lo yL;rw[a1,a2,a3,a4,a5,d,w];rfl
    rw[O8 bE b,e];simp only[b,Int.reduceEq,dn,cL,eF,dX,bU,bN,bJ]
   all_goals
    rcases C with⟨p,aN,J⟩|⟨ks,J,⟨p,aN,dw⟩|⟨us,aN,dw⟩⟩
    . rw[aN,J];rfl
    . rw[aN,J];simp only[aw];rw[dw];rfl
    . rw[aN,J];simp only[aw];rw[dw];simp only[aw,hr,mL,ab.b7]
 . rw[ai (show(!(decide (x.Kind=y.Kind)))=true by simp[bE]),L7 bE,D]
theorem X7:zf tw tr 0:=by
 intro v _ _ _ _ _ _ h;cases h
theorem Jq(HW:dA tw)(HR:dA tr):∀n,zf tw tr n
 |0=>X7
 |n+1=>X6 HW HR (Jq HW HR n)
end
def vq(x:fr):Prop:=nK x/\x.cX.length*3<=reachBytes
def jP(aI:List fr):Prop:=aI.length*32<=reachBytes/\∀x,x∈aI->vq x
def vo(c:km):Prop:=di c.Kind/\di c.Node/\di c.A/\di c.B
theorem jP.set(h:jP aI)(j:Nat){x:fr}(I:vq x):jP (aI.set j x):=by
 refine⟨by rw[hn];exact h.1,λy ak=>?_⟩;rcases z7 ak with ak|rfl
 . exact h.2 y ak
 . exact I
theorem lS(a:Int):di (IntKind.wrap .u8 a):=by
 have:IntKind.wrap .u8 a=a%256:=by rfl
 unfold di;omega
theorem DU{n:Nat}(h:n*3<=reachBytes):room 3 n=true:=by
 unfold reachBytes at h;unfold room hi dk;simp only[cO,gg];omega
theorem aet{n:Nat}(h:n*32<=reachBytes):room 32 n=true:=by
 unfold reachBytes at h;unfold room hi dk;simp only[cO,gg];omega
theorem Z'(K:L.length<=reachBytes)(y:∀c,c∈L->vo c){i:Nat}(G:i<L.length)(h:jP aI)(aV:0<aI.length):
 ∃F,jP F/\F.length=aI.length/\gU (L,(i:Int),aI)=gU (L,((i+1:Nat):Int),F):=by
 obtain⟨c1,c2,c3,c4⟩:=y _ (bM G mG);have S:=eP K;unfold di at c1 c2 c3 c4;have R:aI.length<9223372036854775807:=by have:=h.1;unfold reachBytes at this;omega
 obtain⟨j,O,n⟩:∃j:Nat,cy (ca .i64 (L.getD i mG).Node) (aI.length:Int)=(j:Int)/\j<aI.length:=by
  have e:cy (ca .i64 (L.getD i mG).Node) (aI.length:Int)=(L.getD i mG).Node%(aI.length:Int):=by
   rw[kC ⟨by omega,by omega⟩,hW c2.1]
  have h0:=l4 (L.getD i mG).Node (by omega:(aI.length:Int)≠0);have h1:=l3 (L.getD i mG).Node (by omega:(0:Int)<aI.length);exact⟨((L.getD i mG).Node%(aI.length:Int)).toNat,by rw[e];omega,by omega⟩
 obtain⟨⟨dR,s,k,m,ew,U⟩,H⟩:=h.2 _ (bM n eG);have aj:∀z:Nat,z<(aI.getD j eG).cX.length->di ((aI.getD j eG).cX.getD z ia).ah/\di ((aI.getD j eG).cX.getD z ia).aC/\di ((aI.getD j eG).cX.getD z ia).gH:=λz D=>ew _ (bM D _)
 rw[gU,ai (by
  have a:(i:Int)<(L.length:Int):=by omega
  simp[a,aV]),ai (aU G),bz]
 simp only[bl,aw];rw[ai (show(!(decide ((aI.length:Int)=0)))=true from by rw[x6];exact hJ (by omega)),O,ai (aU n),bz,ai (ez n),j7,ai (DU H),ai (ez n)];simp only[cL,bJ,n];have aN:aS .i64 (i:Int) 1=((i+1:Nat):Int):=bO (by omega);rw[aN];generalize al:aI.getD j eG=p at*;generalize Q:L.getD i mG=c at*;have g:∀{a b v:Int} {l:List k7},di a->di b->di v->(∀q,q∈l->di q.ah/\di q.aC/\di q.gH)->l.length<=p.cX.length+8/\(l.length<=p.cX.length\/l.length<=8)->vq ⟨p.Kind,a,b,v,l⟩:=λ{a b v l} M N y ag aV=>⟨⟨dR,M,N,y,ag,by show l.length<=_;unfold reachBytes at*;omega⟩,by show l.length*3<=_;unfold reachBytes at*;omega⟩
 have gs:∀q:fr,(aI.set j q).getD j bw=q:=λq=>by rw[ig (by rw[hn];exact n)];simp
 have t:∀{a:Int},0<=a/\a<=255->di a:=λh=>h;have T:(p.cX.length:Int)<9223372036854775807:=by unfold reachBytes at H;omega
 have o:∀{l:List k7},(∀q,q∈l->di q.ah/\di q.aC/\di q.gH)->l.length<=p.cX.length+8/\(l.length<=p.cX.length\/l.length<=8)->vq ⟨p.Kind,p.A,p.B,p.C,l⟩:=λ{l} h1 J=>g s k m h1 J;have self:p.cX.length<=p.cX.length+8/\(p.cX.length<=p.cX.length\/p.cX.length<=8):=by omega
 by_cases ag:0<p.cX.length
 . have u:(0:Int)<(p.cX.length:Int):=(by omega);obtain⟨z,D,f⟩:∃z:Nat,cy (ca .i64 c.A) (p.cX.length:Int)=(z:Int)/\z<p.cX.length:=by
    have e:cy (ca .i64 c.A) (p.cX.length:Int)=c.A%(p.cX.length:Int):=by
     rw[kC ⟨by omega,by omega⟩,hW c3.1]
    have h0:=l4 c.A (by omega:(p.cX.length:Int)≠0);have h1:=l3 c.A u;exact⟨(c.A%(p.cX.length:Int)).toNat,by rw[e];omega,by omega⟩
   simp only[u,D,cL,bJ,gs,List.set_set];rw[ai (show(!(decide ((p.cX.length:Int)=0)))=true from by rw[x6];exact hJ (by omega))];by_cases r:cy c.Kind 8=0
   . simp only[r,cL,bJ];exact⟨_,h.set j (g (lS _) k m ew self),hn,rfl⟩
   by_cases bn:cy c.Kind 8=1
   . simp only[bn,cL,dn,Int.reduceEq,bU,bJ,bN];exact⟨_,h.set j (g s (lS _) m ew self),hn,rfl⟩
   by_cases bt:cy c.Kind 8=2
   . have E:0<=cy c.A 6:=by rw[hW c3.1];omega
     simp only[bt,E,cL,dn,Int.reduceEq,bU,bJ,bN];exact⟨_,h.set j (g (lS _) k m ew self),hn,rfl⟩
   by_cases bY:cy c.Kind 8=3
   . simp only[bY,cL,dn,Int.reduceEq,bU,bJ,bN];exact⟨_,h.set j (g s k (lS _) ew self),hn,rfl⟩
   by_cases cw:cy c.Kind 8=4
   . by_cases gE:(p.cX.length:Int)<8
     . simp only[cw,gE,cL,dn,Int.reduceEq,bU,bJ,bN];rw[ai (DU (by rw[dQ];unfold reachBytes;simp;omega))];refine⟨_,h.set j (o (λq d=>?_) (by rw[dQ];simp;omega)),hn,rfl⟩;rcases gY.1 d with d|d
       . exact ew q d
       . rw[kH.1 d];exact⟨t c3,t c4,lS _⟩
     . simp only[cw,gE,cL,dn,Int.reduceEq,bU,bJ,bN];exact⟨_,h.set j (o ew self),hn,rfl⟩
   by_cases cW:cy c.Kind 8=5
   . simp only[cW,cL,dn,Int.reduceEq,bU,bJ,bN];have I:aS .i64 (z:Int) 1=((z+1:Nat):Int):=bO (by omega);rw[I,ai (jY.2 (by omega)),ai (jY.2 (by omega)),bz,bz,bz,cg];refine⟨_,h.set j (o (λq d=>?_) (by rw[dQ,u0,u0,List.length_drop];omega)),hn,rfl⟩;rcases gY.1 d with d|d
     . exact ew q (x7 d)
     . exact ew q (Dz (x7 d))
   have iC:∀{w:k7},di w.ah/\di w.aC/\di w.gH->vq ⟨p.Kind,p.A,p.B,p.C,p.cX.set z w⟩:=λ{w} P=>o (λq d=>by
    rcases z7 d with d|rfl
    . exact ew q d
    . exact P) (by rw[hn];exact self)
   by_cases dm:cy c.Kind 8=6
   . simp only[dm,cL,dn,Int.reduceEq,bU,bJ,bN];rw[ai (aU f),bz,ai (ez f)];exact⟨_,h.set j (iC (w:=⟨(p.cX.getD z ia).ah,(p.cX.getD z ia).aC,c.B⟩) ⟨(aj z f).1,(aj z f).2.1,t c4⟩),hn,rfl⟩
   . simp only[r,bn,bt,bY,cw,cW,dm,dn,bU,bN];rw[ai (aU f),bz,ai (ez f),ai (aU f),ai (ez f)];exact⟨_,h.set j (iC (w:=⟨(p.cX.getD z ia).ah,aS .u8 (p.cX.getD z ia).aC c.B,(p.cX.getD z ia).gH⟩) ⟨(aj z f).1,lS _,(aj z f).2.2⟩),hn,rfl⟩
 . have u:¬(0:Int)<(p.cX.length:Int):=(by omega);simp only[u,dn,bU,bN,gs,List.set_set];by_cases r:cy c.Kind 8=0
   . simp only[r,cL,bJ];exact⟨_,h.set j (g (lS _) k m ew self),hn,rfl⟩
   by_cases bn:cy c.Kind 8=1
   . simp only[bn,cL,dn,Int.reduceEq,bU,bJ,bN];exact⟨_,h.set j (g s (lS _) m ew self),hn,rfl⟩
   by_cases bt:cy c.Kind 8=2
   . have E:0<=cy c.A 6:=by rw[hW c3.1];omega
     simp only[bt,E,cL,dn,Int.reduceEq,bU,bJ,bN];exact⟨_,h.set j (g (lS _) k m ew self),hn,rfl⟩
   by_cases bY:cy c.Kind 8=3
   . simp only[bY,cL,dn,Int.reduceEq,bU,bJ,bN];exact⟨_,h.set j (g s k (lS _) ew self),hn,rfl⟩
   by_cases cw:cy c.Kind 8=4
   . have gE:(p.cX.length:Int)<8:=(by omega);simp only[cw,gE,cL,dn,Int.reduceEq,bU,bJ,bN];rw[ai (DU (by rw[dQ];unfold reachBytes;simp;omega))];refine⟨_,h.set j (o (λq d=>?_) (by rw[dQ];simp;omega)),hn,rfl⟩;rcases gY.1 d with d|d
     . exact ew q d
     . rw[kH.1 d];exact⟨t c3,t c4,lS _⟩
   have x:=h.set j (o ew self);by_cases cW:cy c.Kind 8=5
   . simp only[cW,cL,dn,Int.reduceEq,bU,bJ,bN];exact⟨_,x,hn,rfl⟩
   by_cases dm:cy c.Kind 8=6
   . simp only[dm,cL,dn,Int.reduceEq,bU,bJ,bN];exact⟨_,x,hn,rfl⟩
   . simp only[r,bn,bt,bY,cw,cW,dm,dn,bU,bN];exact⟨_,x,hn,rfl⟩
theorem Ma{L:List km}(e:L.length<=reachBytes)(f:∀c,c∈L->vo c):∀(k i:Nat) {aI:List fr},i+k=L.length->jP aI->∃d,jP d/\d.length=aI.length/\gU (L,(i:Int),aI)=some d
 |0,i,aI,l,h=>⟨aI,h,rfl,by
  have a:¬(i:Int)<(L.length:Int):=by omega
  rw[gU,av (by simp[a])]⟩
 |k+1,i,aI,l,h=>by
  by_cases aV:0<aI.length
  . obtain⟨d,h1,j,g⟩:=Z' e f (by omega:i<L.length) h aV;rw[g,<-j];exact Ma e f k (i+1) (by omega) h1
  . refine⟨aI,h,rfl,?_⟩;have b:decide ((0:Int)<(aI.length:Int))=false:=hJ (by omega);rw[gU,b,av];cases decide ((i:Int)<(L.length:Int))<;>simp
theorem jP.Mu{d:ed}(h:jP d.ei):sL d:=⟨by have:=h.1;unfold reachBytes at*;omega,λx I=>(h.2 x I).1⟩
theorem X8{d:ed}(h:jP d.ei)(i:L.length<=reachBytes)(j:∀c,c∈L->vo c):∃a,jP a.ei/\a.ei.length=d.ei.length/\Af (d,L)=some a:=by
 obtain⟨b,h1,g,e⟩:=Ma i j L.length 0 (by omega) h;have f:gU (L,0,d.ei)=some b:=e;refine⟨⟨b⟩,h1,g,?_⟩;rw[Af,j7,ai (aet h.1),f];rfl
theorem aaa(h:WF cu ⟨.slice (.nm wh),aI⟩):jP aI:=by
 obtain⟨a,b,c⟩:=yh (t:= .nm wh) h;have D:=K4 (d:=⟨aI⟩) h;refine⟨b,λx I=>⟨D.2 x I,?_⟩⟩;exact(yh (t:= .nm A4) (c x I ⟨.slice (.nm A4),x.cX⟩ (.tail _ (.tail _ (.tail _ (.tail _ (.head _))))))).2.1
theorem aeV{n:Int}(h:WF cu ⟨.int .u8,n⟩):di n:=by
 cases h with
 |int k n h=>
  simp[Lit.wf,IntKind.min,IntKind.max,IntKind.bits,IntKind.signed]at h;unfold di;omega
structure ae8 (c:tJ):Prop where
 d:R1 c.D
 n:jP c.D.S.ei
 l:c.L.length<=reachBytes
 c:∀x,x∈c.L->vo x
structure y7 (tw tr:List af)(t:Int)(v:ab):Prop where
 W:dA tw
 R:dA tr
 t0:0<=t
 t1:t<tw.length
 t2:t<tr.length
 f:eI tw true t v
 o:cP v
 w:wt v<=3000
theorem y7.z{tw tr:List af}{t:Int}{v:ab}(C:y7 tw tr t v):fX tw 3000 t v:=oO C.W 3000 C.o C.f (.inr C.w) (.inr C.w)
theorem y7.u{tw tr:List af}{t:Int}{v:ab}(C:y7 tw tr t v):wt v<=2147483648:=hK C.w (by decide)
section
variable {tw tr:List af}{t rt:Int}{v:ab}
theorem ZL(HW:dA tw)(HR:dA tr)(e:cP v)(c:eI tw true t v)(i:0<=rt)(j:rt<tr.length):AN ((⟨tw⟩:a7),t,v,(⟨tr⟩:a7),rt)=some 0:=by
 obtain⟨⟨g1,g2,_⟩,_⟩:=(jd _ _ _).1 c;have ex:∀{ts:List af} {t:Int},dA ts->0<=t->t<ts.length->xn ((⟨ts⟩:a7),t)=some 0:=λ{ts t} H a b=>by
  rw[xn,(tX H.T H.V).1];simp only[bl,aw];have c1:¬t<0:=by omega
  have c2:¬(ts.length:Int)<=t:=by omega
  rw[c8,av (by simp[c1,c2])]
 obtain⟨r,f,g⟩:=F3 (HW.V.jo HW.T) e t true;have d:=g.2 c;subst d;rw[AN];simp only[ab.b7];rw[ex HW g1 g2];simp only[bl,aw];rw[c8,ex HR i j];simp only[aw];rw[c8,rG];simp only[ab.b7];rw[f];rfl
theorem ZM(HW:dA tw)(HR:dA tr)(f:cP v)(d:eI tw true t v)(j:0<=rt)(k:rt<tr.length):Ba ((⟨tw⟩:a7),t,v,(⟨tr⟩:a7),rt)=some 0:=by
 obtain⟨⟨g1,g2,_⟩,_⟩:=(jd _ _ _).1 d;have ex:∀{ts:List af} {t:Int},dA ts->0<=t->t<ts.length->wm ((⟨ts⟩:a7),t)=some 0:=λ{ts t} H a b=>by
  rw[wm,(tX H.T H.V).2];simp only[bl,aw];have c1:¬t<0:=by omega
  have c2:¬(ts.length:Int)<=t:=by omega
  rw[c8,av (by simp[c1,c2])]
 have c:=HW.V.jo HW.T;obtain⟨q,g,i⟩:=F2 (by have:=c.n;omega) HW.T c.K f t true;have e:=i.2 d;subst e;rw[Ba];simp only[ab.b7];rw[ex HW g1 g2];simp only[bl,aw];rw[c8,ex HR j k];simp only[aw];rw[c8,tD];simp only[ab.b7];rw[g];rfl
def zb:ab ⊕ az->ab×Int
 |.inl u=>(u,0)
 |.inr _=>(⟨0,false,0,[],0,[],[],[]⟩,12)
noncomputable def qG (tw tr:List af)(t:Int)(v:ab)(rt:Int):ab ⊕ az:=eg tw tr 3000 t v rt []
theorem WY(HW:dA tw)(HR:dA tr)(b:cP v)(a:eI tw true t v)(e:fX tw 3000 t v)(c:0<=rt)(d:rt<tr.length):tK ((⟨tw⟩:a7),t,v,(⟨tr⟩:a7),rt)=some (zb (qG tw tr t v rt)):=by
 have h:=Jm HW HR 3000 b [] a e c d (path:=[]) (by simp);rw[tK];simp only[ab.b7];rw[ZL HW HR b a c d];simp only[bl,aw];rw[c8,h];unfold qG;cases eg tw tr 3000 t v rt []<;>rfl
theorem WZ(HW:dA tw)(HR:dA tr)(b:cP v)(e:wt v<=2147483648)(a:eI tw true t v)(f:fX tw 3000 t v)(c:0<=rt)(d:rt<tr.length):A2 ((⟨tw⟩:a7),t,v,(⟨tr⟩:a7),rt)=some (zb (qG tw tr t v rt)):=by
 have h:=Jq HW HR 3000 b e a f c d (path:=[]) (by simp);rw[A2];simp only[ab.b7];rw[ZM HW HR b a c d];simp only[bl,aw];rw[c8,h];unfold qG;cases eg tw tr 3000 t v rt []<;>rfl
theorem aaK(HW:dA tw)(HR:dA tr)(b:cP v)(a:eI tw true t v)(c:fX tw 3000 t v)(d:0<=rt)(e:rt<tr.length){u:ab}(h:qG tw tr t v rt= .inl u):Cc tr rt u:=Gw HW HR 3000 b a c d e h
theorem ael(HW:dA tw)(HR:dA tr)(b:cP v)(a:eI tw true t v)(c:fX tw 3000 t v)(d:0<=rt)(e:rt<tr.length):cP (zb (qG tw tr t v rt)).1:=by
 cases h:qG tw tr t v rt with
 |inl u=>exact(aaK HW HR b a c d e h).1
 |inr p=>exact aaG
end
def kf(n:az):Prop:=∀i:Nat,0<=n.getD i 0/\n.getD i 0<=2
def CL(n cp:az):Prop:=n.length=cp.length/\∀i:Nat,n.getD i 0<=cp.getD i 0
def dI(n:az)(t:Int):Int:=n.getD t.toNat 0
def l'(n:az):List aY->Int->Int
 |[],c=>c
 |m::r,c=>l' n r (da 2 (c*dI n m.aC))
def h5(n:az):List aY->Int->Int
 |[],c=>c
 |m::r,c=>h5 n r (c+dI n m.aC)
def fw(x:af)(n:az):Int:=
 if x.Kind=2 then(if x.bH=x.bK then 1 else 2)else if x.Kind=3 then(if x.Max=0 then 1 else 2)else if x.Kind=4 then x.br.length else if x.Kind=5 then l' n x.ae 1 else if x.Kind=6 then h5 n x.ae 0 else if x.Kind=7 then(if x.Max=0\/dI n x.aQ=0 then 1 else 2)else if x.Kind=8 then(if x.Max=0\/dI n x.aQ=0\/dI n x.Key=0 then 1 else 2)else if x.Kind=9 then 1+dI n x.aQ else 2
theorem min2(c:Int):da 2 c<=2/\da 2 c<=c/\(da 2 c=2\/da 2 c=c):=by simp only[da];omega
theorem hz{n:az}{i:Nat}:(n.set i c).getD j 0=if i=j/\i<n.length then c else n.getD j 0:=by
 simp only[sq,uZ];grind
section
variable {n cp:az}(h0:kf n)(h1:CL n cp)
include h0
theorem ja(t:Int):0<=dI n t/\dI n t<=2:=h0 _
theorem DN:∀(l:List aY) (c:Int),0<=c/\c<=2->0<=l' n l c/\l' n l c<=2
 |[],c,h=>h
 |m::r,c,h=>DN r _ (by
  obtain⟨a,b⟩:=ja h0 m.aC;have:0<=c*dI n m.aC:=uQ h.1 a
  simp only[da];omega)
theorem yP:∀(l:List aY) (c:Int),c<=h5 n l c/\h5 n l c<=c+2*l.length
 |[],c=>⟨x1 _,by simp[h5]⟩
 |m::r,c=>by
  obtain⟨a,b⟩:=ja h0 m.aC;obtain⟨e,f⟩:=yP r (c+dI n m.aC);simp only[h5,kJ];omega
include h1
theorem zh(t:Int):dI n t<=dI cp t:=h1.2 _
theorem OY:∀(l:List aY) (c a:Int),0<=c->c<=a->l' n l c<=l' cp l a
 |[],c,a,_,h=>h
 |m::r,c,a,b,h=>OY r _ _ (by
  have:=uQ b (ja h0 m.aC).1;simp only[da];omega) (by
  have e:c*dI n m.aC<=a*dI cp m.aC:=zX h (zh h0 h1 _) (ja h0 _).1 (by omega)
  simp only[da];omega)
theorem Pb:∀(l:List aY) (c a:Int),c<=a->h5 n l c<=h5 cp l a
 |[],c,a,h=>h
 |m::r,c,a,h=>Pb r _ _ (by have:=zh h0 h1 m.aC;omega)
theorem aa2(x:af):fw x n<=fw x cp:=by
 have e:=zh h0 h1 x.aQ;have k:=zh h0 h1 x.Key;have dc:=(ja h0 x.aQ).1;have a:=(ja h0 x.Key).1;have p:=OY h0 h1 x.ae 1 1 (by omega) (x1 _);have s:=Pb h0 h1 x.ae 0 0 (x1 _);unfold fw
 (repeat' split)<;>omega
end
theorem Mb{n:az}:∀(l:List aY) (c:Int),1<=c->(∀m,m∈l->1<=dI n m.aC)->1<=l' n l c
 |[],c,h,_=>h
 |m::r,c,h,a=>Mb r _ (by
  have e:1*1<=c*dI n m.aC:=zX h (a m (by simp)) (by omega) (by omega)
  simp only[da];omega) λx I=>a x (by simp[I])
section
variable {ts:List af}(H:dA ts){n:az}(aV:n.length=ts.length)(h0:kf n)
include H aV
theorem qY{u:Int}(h:0<=u/\u<ts.length):aB u n.length=true/\decide (u.toNat<n.length)=true:=by
 simp only[aB,cO,gg];omega
include h0
theorem Mc{l:List aY}(ag:l.length<=1000)(e:∀m,m∈l->0<=m.aC/\m.aC<ts.length):∀(k i:Nat) (c:Int),i+k=l.length->0<=c/\c<=2->qd (c,l,(l.length:Int),(i:Int),n)=some (l' n (l.drop i) c,n)
 |0,i,c,g,d=>by
  rw[qd,de,jJ (by omega)];rfl
 |k+1,i,c,g,d=>by
  have aF:i<l.length:=by omega
  obtain⟨a,b⟩:=qY H aV (e _ (bM aF aG));obtain⟨aN,f⟩:=ja h0 (l.getD i aG).aC;rw[qd,cg,ai (aU aF)];simp only[bl,aw,ey];rw[ai a,ai b];have j:hG .i64 c (n.getD (l.getD i aG).aC.toNat 0)=c*dI n (l.getD i aG).aC:=by
   have:0<=c*dI n (l.getD i aG).aC:=uQ d.1 aN;have:c*dI n (l.getD i aG).aC<=2*2:=zX d.2 f aN (by omega);show IntKind.wrap .i64 (c*dI n (l.getD i aG).aC)=_;rw[IntKind.wrap_i64];omega
  rw[j,bO (by omega),Mc ag e k (i+1) _ (by omega) (by
   have:0<=c*dI n (l.getD i aG).aC:=uQ d.1 aN
   simp only[da];omega)]
  rw[l0 aF];have:l.getD i aG=l[i]:=by simp[List.getD,df aF]
  rw[this];rfl
theorem Md{l:List aY}(ag:l.length<=1000)(d:∀m,m∈l->0<=m.aC/\m.aC<ts.length):∀(k i:Nat) (c:Int),i+k=l.length->0<=c/\c<=2*i->qe (c,l,(l.length:Int),(i:Int),n)=some (h5 n (l.drop i) c,n)
 |0,i,c,g,f=>by
  rw[qe,de,jJ (by omega)];rfl
 |k+1,i,c,g,f=>by
  have aF:i<l.length:=by omega
  obtain⟨a,b⟩:=qY H aV (d _ (bM aF aG));obtain⟨aN,e⟩:=ja h0 (l.getD i aG).aC;unfold dI at aN e;rw[qe,cg,ai (aU aF)];simp only[bl,aw,ey];rw[ai a,ai b,jy (by omega) (by omega),bO (by omega),Md ag d k (i+1) _ (by omega) (by omega)];rw[l0 aF];have:l.getD i aG=l[i]:=by simp[List.getD,df aF]
  rw[this];rfl
theorem aaL(I:x∈ts):AM (x,n)=some (fw x n,n):=by
 have g:=H.V.U x I;have c:∀m,m∈x.ae->0<=m.aC/\m.aC<ts.length:=by
  obtain⟨i,f,rfl⟩:=l1.1 I;intro m c;have:=H.R i f m (by simpa[List.getD,df f]using c);exact⟨this.1,this.2.1⟩
 have ag:=(H.b9 x I).2.2;rw[AM];unfold fw;by_cases bt:x.Kind=2
 . rw[ai (by simpa using bt),ai bt];split<;>simp_all
 rw[av (by simpa using bt),av bt];by_cases bY:x.Kind=3
 . rw[ai (by simpa using bY),ai bY];split<;>simp_all
 rw[av (by simpa using bY),av bY];by_cases cw:x.Kind=4
 . rw[ai (by simpa using cw),ai cw]
 rw[av (by simpa using cw),av cw];by_cases cW:x.Kind=5
 . rw[ai (by simpa using cW),ai cW];have:=Mc H aV h0 (by omega) c x.ae.length 0 1 (by omega) (by omega);simp only[nx,gh]at this;show(qd (1,x.ae,(x.ae.length:Int),0,n)>>=_)=_;rw[this];rfl
 rw[av (by simpa using cW),av cW];by_cases dm:x.Kind=6
 . rw[ai (by simpa using dm),ai dm];have:=Md H aV h0 (by omega) c x.ae.length 0 0 (by omega) (by omega);simp only[nx,gh]at this;show(qe (0,x.ae,(x.ae.length:Int),0,n)>>=_)=_;rw[this];rfl
 rw[av (by simpa using dm),av dm];have he:7<=x.Kind->aB x.aQ n.length=true/\decide (x.aQ.toNat<n.length)=true:=λh=>qY H aV (g _ (by unfold e9;simp[h]));by_cases gq:x.Kind=7
 . obtain⟨a,b⟩:=he (by omega);rw[ai (by simpa using gq),ai gq];simp only[bl,aw,a,b,l8,bJ];unfold dI;generalize n.getD x.aQ.toNat 0=e;by_cases d:x.Max=0<;>by_cases ek:e=0<;>simp[d,ek]
 rw[av (by simpa using gq),av gq];by_cases gE:x.Kind=8
 . obtain⟨a,b⟩:=he (by omega);obtain⟨b4,j⟩:=qY H aV (g x.Key (by unfold e9;simp[gE]));rw[ai (by simpa using gE),ai gE];simp only[bl,aw,a,b,b4,j,l8,bJ];unfold dI;generalize n.getD x.aQ.toNat 0=e;generalize n.getD x.Key.toNat 0=k;by_cases d:x.Max=0<;>by_cases ek:e=0<;>by_cases bE:k=0<;>simp[d,ek,bE]
 rw[av (by simpa using gE),av gE];by_cases gr:x.Kind=9
 . obtain⟨a,b⟩:=he (by omega);obtain⟨aN,l⟩:=ja h0 x.aQ;unfold dI at aN l;rw[ai (by simpa using gr),ai gr,ai a,ai b,jy (by omega) (by omega)];rfl
 rw[av (by simpa using gr),av gr]
end
structure qN (ts:List af)(n:az):Prop where
 l:n.length=ts.length
 ok:kf n
 le:∀i:Nat,i<ts.length->n.getD i 0<=fw (ts.getD i aL) n
section
variable {ts:List af}(H:dA ts)
include H
theorem Kj(I:x∈ts):1<=x.Kind/\x.Kind<=9:=by
 rcases H.V.F x I with h|h|h|h|h|h|h|h|h<;>omega
theorem Kk{n:az}(h0:kf n){i:Nat}(e:i<ts.length)(aa:∀j:Nat,j<ts.length->7<=(ts.getD j aL).Kind->1<=n.getD j 0)(al:∀j:Nat,j<i->1<=n.getD j 0):1<=fw (ts.getD i aL) n:=by
 have I:=bM e aL;have d:∀m,m∈(ts.getD i aL).ae->1<=dI n m.aC:=λm d=>by
  obtain⟨a,b,c⟩:=H.R i e m d;rcases c with c|c
  . exact aa _ (by omega) c
  . exact al _ (by omega)
 have he:=(ja h0 (ts.getD i aL).aQ).1;have p:=Mb _ 1 (by omega) d;have o:(ts.getD i aL).Kind=6->1<=h5 n (ts.getD i aL).ae 0:=λk=>by
  have ag:0<(ts.getD i aL).ae.length:=by
   rcases H.V.F _ I with h|h|h|h|h|h|h|h|h<;>try omega
   exact h.2.2.2.2.2.2.1.2.1.resolve_left (by simp)
  obtain⟨m,r,g⟩:∃m r,(ts.getD i aL).ae=m::r:=by
   cases f:(ts.getD i aL).ae with
   |nil=>rw[f]at ag;simp at ag
   |cons m r=>exact⟨m,r,rfl⟩
  rw[g]at d⊢;have:=(yP h0 r (0+dI n m.aC)).1;have:=d m (by simp);simp only[h5];omega
 have l:(ts.getD i aL).Kind=4->1<=((ts.getD i aL).br.length:Int):=λk=>by
  rcases H.V.F _ I with h|h|h|h|h|h|h|h|h<;>try omega
  exact Int.ofNat_lt.2 h.2.2.2.2.2.1.1
 unfold fw
 (repeat' split)<;>first|omega|exact l (by assumption)|exact o (by assumption)
theorem Cd{n:az}(h0:kf n)(x:af):0<=fw x n/\(x.ae.length<=12->x.br.length<=16->fw x n<=40):=by
 have p:=DN h0 x.ae 1 (by omega);have s:=yP h0 x.ae 0;have e:=ja h0 x.aQ;unfold fw;refine⟨?_,λh1 a=>?_⟩<;>(repeat' split)<;>omega
theorem qN.set{n:az}(C:qN ts n){i:Nat}(a:i<ts.length):qN ts (n.set i (da 2 (fw (ts.getD i aL) n)))/\CL n (n.set i (da 2 (fw (ts.getD i aL) n))):=by
 have f:=(Cd H C.ok (ts.getD i aL)).1;have g:=C.le i a;have ag:=C.l;have m:=min2 (fw (ts.getD i aL) n);generalize da 2 (fw (ts.getD i aL) n)=c at*;have ok:kf (n.set i c):=λj=>by
  have:=C.ok j;rw[hz];split<;>omega
 have le:CL n (n.set i c):=⟨by simp,λj=>by
  rw[hz];split
  . rename_i h;rw[<-h.1];have:=C.ok i;omega
  . exact x1 _⟩
 refine⟨⟨by simp[ag],ok,λj e=>?_⟩,le⟩;have:=aa2 C.ok le (ts.getD j aL);rw[hz];split
 . rename_i h;rw[<-h.1]at this⊢;omega
 . have:=C.le j e;omega
def j':az->Int
 |[]=>0
 |a::r=>a+j' r
omit H in
theorem aaM{n:az}:∀{i:Nat} {c:Int},i<n.length->j' (n.set i c)=j' n-n.getD i 0+c:=by
 induction n with
 |nil=>intro i c h;simp at h
 |cons a r ih=>
  intro i c h;cases i with
  |zero=>simp[j'];omega
  |succ i=>simp[j'];have:=ih (i:=i) (c:=c) (by simpa using h);simp at this;omega
omit H in
theorem Kl{n:az}(h:∀i:Nat,0<=n.getD i 0/\n.getD i 0<=2):0<=j' n/\j' n<=2*n.length:=by
 induction n with
 |nil=>simp[j']
 |cons a r ih=>
  have:=ih λi=>by simpa using h (i+1)
  have:=h 0;simp[j']at*;omega
theorem FG:∀(k i:Nat) (ik:Bool) {n:az},i+k=ts.length->qN ts n->(∀j,j<i->7<=(ts.getD j aL).Kind->1<=n.getD j 0)->(ik=false->∀j,j<i->n.getD j 0=da 2 (fw (ts.getD j aL) n))->
 ∃cp b,nY (ik,ts,(ts.length:Int),(i:Int),ts,n)=some (b,ts,cp)/\qN ts cp/\(∀j,j<ts.length->7<=(ts.getD j aL).Kind->1<=cp.getD j 0)/\(b=false->∀j,j<ts.length->cp.getD j 0=da 2 (fw (ts.getD j aL) cp))/\(ik=true->b=true)/\(b=true->ik=true\/j' n+1<=j' cp)/\j' n<=j' cp
 |0,i,ik,n,q,C,aa,e=>⟨n,ik,by rw[nY,de],C,λj d=>aa j (by omega),λh j d=>e h j (by omega),λh=>h,.inl,x1 _⟩
 |k+1,i,ik,n,q,C,aa,e=>by
  have aF:i<ts.length:=by omega
  have u:=C.l;have bh:=H.ew;have I:=bM aF aL;have r:=(Cd H C.ok (ts.getD i aL)).1;have s:=C.le i aF;have t:=C.ok i;obtain⟨o,L'⟩:=C.set H aF;have g:7<=(ts.getD i aL).Kind->1<=fw (ts.getD i aL) n:=λa=>by
   have he:=(ja C.ok (ts.getD i aL).aQ).1;unfold fw
   (repeat' split)<;>omega
  have m:=min2 (fw (ts.getD i aL) n);rw[nY,cg,ai (aU aF)];simp only[ey];rw[aaL H C.l C.ok I];simp only[bl,aw];rw[ai (by simp),ai (aU (by omega)),cg];by_cases he:da 2 (fw (ts.getD i aL) n)=n.getD i 0
  . rw[av (by simpa using he),bO (by omega)];refine FG k (i+1) ik (by omega) C (λj d a=>?_) λh j d=>?_
    . by_cases f:j<i
      . exact aa j f a
      . have:j=i:=(by omega);subst this;have:=g a;rw[<-he];omega
    . by_cases f:j<i
      . exact e h j f
      . have:j=i:=(by omega);subst this;exact he.symm
  . rw[ai (by simpa using he),ai (aU (by omega)),cg,bO (by omega)];have hs:=aaM (n:=n) (i:=i) (c:=da 2 (fw (ts.getD i aL) n)) (by omega)
    obtain⟨cp,b,aN,p,dw,fR,iL,mx,my⟩:=FG k (i+1) true (n:=n.set i (da 2 (fw (ts.getD i aL) n))) (by omega) o (λj d a=>by
     rw[hz];split
     . rename_i h;rw[<-h.1]at a;have:=g a;omega
     . rename_i h
       exact aa j (by omega) a) (λh=>by cases h)
    exact⟨cp,b,aN,p,dw,fR,λ_=>iL rfl,λ_=>.inr (by omega),by omega⟩
theorem Hr:∀(f:Nat) {n:az},qN ts n->(2*ts.length:Int)-j' n<f->∃cp,r4 (true,ts,n)=some cp/\cp.length=ts.length/\∀i:Nat,i<ts.length->1<=cp.getD i 0
 |0,n,C,e=>by
  have:=(Kl C.ok).2;have:=C.l;omega
 |f+1,n,C,e=>by
  obtain⟨cp,d,aN,b,dw,fR,iL,mx,my⟩:=FG H ts.length 0 false (n:=n) (by omega) C (λj a=>absurd a (uN _)) (λ_ j a=>absurd a (uN _));have aN:nY (false,ts,(ts.length:Int),0,ts,n)=_:=aN;rw[r4,ai rfl,aN];simp only[bl,aw];cases d with
  |true=>
   have:=(mx rfl).resolve_left (by simp);exact Hr f b (by omega)
  |false=>
   refine⟨cp,by rw[r4,c8],b.l,λi=>?_⟩;induction i using Nat.strongRecOn with
   |_ i ih=>
   intro c;have:=Kk H b.ok c dw (λj a=>ih j a (by omega));rw[fR rfl i c];have:=min2 (fw (ts.getD i aL) cp);omega
omit H in
theorem Io{n:az}(ag:n.length<=5)(h:∀i:Nat,i<n.length->1<=n.getD i 0):∀(k i:Nat),i+k=n.length->p8 (n,(n.length:Int),(i:Int),List.replicate i true)=some (List.replicate n.length true)
 |0,i,a=>by rw[p8,de,show i=n.length by omega]
 |k+1,i,a=>by
  have:=h i (by omega);have e:List.replicate i true++[decide (0<n.getD i 0)]=List.replicate (i+1) true:=by
   rw[ez (by omega),List.replicate_succ']
  rw[p8,cg,ai (aU (by omega))];simp only[bl,aw,ey];rw[e,ai (e2),bO (by omega)];exact Io ag h k (i+1) (by omega)
omit H in
theorem Js{m:Nat}(b:m<=5):∀(k i:Nat),i+k=m->qf (List.replicate m true,(m:Int),(i:Int))=some (.inr ())
 |0,i,a=>by rw[qf,de]
 |k+1,i,a=>by
  rw[qf,cg,ai (aU (by simp;omega)),av (by rw[ey,sq,zL,fS];simp),bO (by omega)];exact Js b k (i+1) (by omega)
theorem ab6(t:af)(ht:t∈ts){m:aY}(a:m∈t.ae)(aj:m.bX=true):rG ((⟨ts⟩:a7),m.aC,ab.eta m.bC)=some true:=by
 have d:=(H.T t ht).hX m a;have c:=H.D t ht m a aj;obtain⟨q,h1,b⟩:=F3 (H.V.jo H.T) d m.aC true;rw[rG];simp only[ab.b7];rw[h1,b.2 c];rfl
theorem Fv{i:Nat}{t:af}(ht:t∈ts):∀(k j:Nat),j+k=t.ae.length->pn ((i:Int),ts,(ts.length:Int),(i:Int),t.ae,(t.ae.length:Int),(j:Int),ts)=some (.inr (ts,(ts.length:Int),(i:Int),ts))
 |0,j,a=>by rw[pn,de]
 |k+1,j,a=>by
  have aF:j<t.ae.length:=by omega
  have ag:=(H.b9 t ht).2.2;rw[pn,cg,ai (aU aF)];simp only[bl,aw,ey];cases aj:(t.ae.getD j aG).bX with
  |false=>
   simp only[bU,bN,aw,eF];rw[bO (by omega)];exact Fv ht k (j+1) (by omega)
  |true=>
   rw[ai rfl,ab6 H t ht (bM aF aG) aj];simp only[aw,ds,dX,bU,bN];rw[bO (by omega)];exact Fv ht k (j+1) (by omega)
theorem Ri:∀(k i:Nat),i+k=ts.length->p7 (ts,(ts.length:Int),(i:Int),ts)=some (.inr ())
 |0,i,a=>by rw[p7,de]
 |k+1,i,a=>by
  have aF:i<ts.length:=by omega
  have bh:=H.ew;have e:pn ((i:Int),ts,(ts.length:Int),(i:Int),(ts.getD i aL).ae,((ts.getD i aL).ae.length:Int),0,ts)=_:=Fv H (i:=i) (bM aF aL) (ts.getD i aL).ae.length 0 (by omega);rw[p7,cg,ai (aU aF)];simp only[bl,aw,ey];rw[e];simp only[aw];rw[bO (by omega)];exact Ri k (i+1) (by omega)
theorem Km:qN ts (List.replicate ts.length 0):=by
 have a:∀i:Nat,(List.replicate ts.length (0:Int)).getD i 0=0:=λi=>by
  simp only[sq,zL];split<;>rfl
 refine⟨by simp,λi=>by rw[a];omega,λi b=>?_⟩;rw[a];exact(Cd H (λi=>by rw[a];omega) _).1
theorem Ip:xt (⟨ts⟩:a7)=some 0:=by
 have bh:=H.ew;have b:AL (⟨ts⟩:a7)=some 0:=by
  have e:p7 (ts,(ts.length:Int),0,ts)=_:=Ri H ts.length 0 (by omega);rw[AL,(tX H.T H.V).1];simp only[bl,aw];rw[c8,Es,(tX H.T H.V).1];simp only[bl,aw];rw[c8,e];rfl
 obtain⟨n,c1,c2,c3⟩:=Hr H (2*ts.length+1) (Km H) (by
  have:=(Kl (Km H).ok).1;omega)
 have a:AD (⟨ts⟩:a7)=some n:=by
  rw[AD];simp only[bl,aw,ey];rw[ai (Gb.2 ⟨by omega,by unfold hi;omega,by unfold dk;omega⟩),c1];rfl
 have f1:p8 (n,(n.length:Int),0,[])=_:=Io (n:=n) (by omega) (λi c=>c3 i (by omega)) n.length 0 (by omega);have f2:qf (List.replicate n.length true,(n.length:Int),0)=_:=Js (m:=n.length) (by omega) n.length 0 (by omega);rw[xt,Et,b];simp only[bl,aw];rw[c8,a];simp only[aw];rw[f1];simp only[aw];rw[c8,List.length_replicate,f2];rfl
theorem Kn{n:az}(aV:n.length=ts.length)(h0:kf n)(I:x∈ts)(e:∀m,m∈x.ae->0<=m.aC/\m.aC<ts.length):∀(k i:Nat) (c:Int),i+k=x.ae.length->0<=c/\c<=2->ph (c,(i:Int),n,x)=some (l' n (x.ae.drop i) c,n)
 |0,i,c,g,d=>by
  rw[ph,de,jJ (by omega)];rfl
 |k+1,i,c,g,d=>by
  have aF:i<x.ae.length:=by omega
  have ag:=(H.b9 x I).2.2;obtain⟨a,b⟩:=qY H aV (e _ (bM aF aG));obtain⟨aN,f⟩:=ja h0 (x.ae.getD i aG).aC;rw[ph,cg,ai (aU aF)];simp only[bl,aw,ey];rw[ai a,ai b];have j:hG .i64 c (n.getD (x.ae.getD i aG).aC.toNat 0)=c*dI n (x.ae.getD i aG).aC:=by
   have:0<=c*dI n (x.ae.getD i aG).aC:=uQ d.1 aN;have:c*dI n (x.ae.getD i aG).aC<=2*2:=zX d.2 f aN (by omega);show IntKind.wrap .i64 (c*dI n (x.ae.getD i aG).aC)=_;rw[IntKind.wrap_i64];omega
  rw[j,bO (by omega),Kn aV h0 I e k (i+1) _ (by omega) (by
   have:0<=c*dI n (x.ae.getD i aG).aC:=uQ d.1 aN
   simp only[da];omega)]
  rw[l0 aF];have:x.ae.getD i aG=x.ae[i]:=by simp[List.getD,df aF]
  rw[this];rfl
theorem Ko{n:az}(aV:n.length=ts.length)(h0:kf n)(I:x∈ts)(d:∀m,m∈x.ae->0<=m.aC/\m.aC<ts.length):∀(k i:Nat) (c:Int),i+k=x.ae.length->0<=c/\c<=2->pj (c,(i:Int),n,x)=some (da 2 (h5 n (x.ae.drop i) c),n)
 |0,i,c,g,f=>by
  rw[pj,de,jJ (by omega)];have:da 2 c=c:=by simp only[da];omega
  simp only[h5,this]
 |k+1,i,c,g,f=>by
  have aF:i<x.ae.length:=by omega
  have ag:=(H.b9 x I).2.2;obtain⟨a,b⟩:=qY H aV (d _ (bM aF aG));obtain⟨aN,e⟩:=ja h0 (x.ae.getD i aG).aC;unfold dI at aN e;rw[pj,cg,ai (aU aF)];simp only[bl,aw,ey];have m:=min2 (c+n.getD (x.ae.getD i aG).aC.toNat 0);rw[ai a,ai b,jy (by omega) (by omega),bO (by omega),Ko aV h0 I d k (i+1) _ (by omega) (by omega)];rw[l0 aF];have:x.ae.getD i aG=x.ae[i]:=by simp[List.getD,df aF]
  rw[this];have s1:=(yP h0 (x.ae.drop (i+1)) (da 2 (c+dI n x.ae[i].aC))).1;have l:=(yP h0 (x.ae.drop (i+1)) (c+dI n x.ae[i].aC)).1;rw[this]at m
  change _/\_/\(da 2 (c+dI n x.ae[i].aC)=2\/da 2 (c+dI n x.ae[i].aC)=c+dI n x.ae[i].aC)at m
  show some (da 2 (h5 n (x.ae.drop (i+1)) (da 2 (c+dI n x.ae[i].aC))),n)=some (da 2 (h5 n (x.ae.drop (i+1)) (c+dI n x.ae[i].aC)),n);rcases m.2.2 with m|m
  . have a1:=min2 (h5 n (x.ae.drop (i+1)) (da 2 (c+dI n x.ae[i].aC)));have a2:=min2 (h5 n (x.ae.drop (i+1)) (c+dI n x.ae[i].aC));have j:=min2 (c+dI n x.ae[i].aC);have:da 2 (h5 n (x.ae.drop (i+1)) (da 2 (c+dI n x.ae[i].aC)))=da 2 (h5 n (x.ae.drop (i+1)) (c+dI n x.ae[i].aC)):=by
     simp only[da]at*;omega
    rw[this]
  . rw[m]
def sy(x:af)(n:az):Int:=if x.Kind=8 then(if x.Max=0\/dI n x.aQ=0 then 1 else 2)else da 2 (fw x n)
theorem ZN{n:az}(aV:n.length=ts.length)(h0:kf n)(I:x∈ts):A9 (x,n)=some (sy x n,n):=by
 have l:=H.V.U x I;have c:∀m,m∈x.ae->0<=m.aC/\m.aC<ts.length:=by
  obtain⟨i,j,rfl⟩:=l1.1 I;intro m c;have:=H.R i j m (by simpa[List.getD,df j]using c);exact⟨this.1,this.2.1⟩
 have f:da 2 1=1:=rfl;have g:da 2 2=2:=rfl;rw[A9];unfold sy fw;by_cases bt:x.Kind=2
 . rw[ai (by simpa using bt),av (show ¬x.Kind=8 by omega),ai bt];by_cases e:x.bH=x.bK<;>simp[e,f,g]
 rw[av (by simpa using bt),av bt];by_cases bY:x.Kind=3
 . rw[ai (by simpa using bY),av (show ¬x.Kind=8 by omega),ai bY];by_cases e:x.Max=0<;>simp[e,f,g]
 rw[av (by simpa using bY),av bY];by_cases cw:x.Kind=4
 . rw[ai (by simpa using cw),av (show ¬x.Kind=8 by omega),ai cw]
 rw[av (by simpa using cw),av cw];by_cases cW:x.Kind=5
 . rw[ai (by simpa using cW),av (show ¬x.Kind=8 by omega),ai cW];have e:ph (1,0,n,x)=_:=Kn H aV h0 I c x.ae.length 0 1 (by omega) (by omega);have p:=DN h0 x.ae 1 (by omega);have:da 2 (l' n x.ae 1)=l' n x.ae 1:=by simp only[da];omega
   rw[e,gh,this];rfl
 rw[av (by simpa using cW),av cW];by_cases dm:x.Kind=6
 . rw[ai (by simpa using dm),av (show ¬x.Kind=8 by omega),ai dm];have e:pj (0,0,n,x)=_:=Ko H aV h0 I c x.ae.length 0 0 (by omega) (by omega);rw[e,gh];rfl
 rw[av (by simpa using dm),av dm];have he:7<=x.Kind->aB x.aQ n.length=true/\decide (x.aQ.toNat<n.length)=true:=λh=>qY H aV (l _ (by unfold e9;simp[h]));simp only[bl,aw];by_cases gq:x.Kind=7
 . obtain⟨a,b⟩:=he (by omega);rw[ai (by simpa using gq),ai (by simpa using gq),av (show ¬x.Kind=8 by omega),ai gq];simp only[a,b,l8,bJ];unfold dI;generalize n.getD x.aQ.toNat 0=e;by_cases d:x.Max=0<;>by_cases ek:e=0<;>simp[d,ek,f,g]
 rw[av (by simpa using gq),av gq];by_cases gE:x.Kind=8
 . obtain⟨a,b⟩:=he (by omega);rw[ai (by simpa using gE),ai gE];simp only[a,b,l8,bJ];unfold dI;generalize n.getD x.aQ.toNat 0=e;by_cases d:x.Max=0<;>by_cases ek:e=0<;>simp[d,ek]
 rw[av (by simpa using gE),av gE,av gE];by_cases gr:x.Kind=9
 . obtain⟨a,b⟩:=he (by omega);obtain⟨aN,k⟩:=ja h0 x.aQ;unfold dI at aN k;rw[ai (by simpa using gr),ai gr,ai a,ai b,jy (by omega) (by omega)];rfl
 rw[av (by simpa using gr),av gr];rfl
theorem aa3{n:az}(h0:kf n)(x:af):0<=sy x n/\sy x n<=2/\(7<=x.Kind->1<=sy x n)/\(1<=fw x n->1<=sy x n):=by
 have c:=(Cd H h0 x).1;have m:=min2 (fw x n);have he:=(ja h0 x.aQ).1;have b:7<=x.Kind->1<=fw x n:=λa=>by
  unfold fw
  (repeat' split)<;>omega
 unfold sy
 (repeat' split)<;>refine⟨by omega,by omega,λa=>?_,λh=>by omega⟩<;>(try have:=b a)<;>omega
theorem Qx(rd:Int)(P:Prop):∀(k i:Nat) {n:az},i+k=ts.length->n.length=ts.length->kf n->(∀j,j<i->7<=(ts.getD j aL).Kind->1<=n.getD j 0)->(P->∀j,j<ts.length->7<=(ts.getD j aL).Kind->1<=n.getD j 0)->(P->∀j,j<i->1<=n.getD j 0)->
 ∃cp,pE (rd,(i:Int),ts,n)=some (rd,ts,cp)/\cp.length=ts.length/\kf cp/\(∀j,j<ts.length->7<=(ts.getD j aL).Kind->1<=cp.getD j 0)/\(P->∀j,j<ts.length->1<=cp.getD j 0)
 |0,i,n,d,ag,h0,aa,aq,al=>⟨n,by rw[pE,de],ag,h0,λj b=>aa j (by omega),λh j b=>al h j (by omega)⟩
 |k+1,i,n,d,ag,h0,aa,aq,al=>by
  have aF:i<ts.length:=by omega
  have bh:=H.ew;have I:=bM aF aL;obtain⟨f,g,c,rc⟩:=aa3 H h0 (ts.getD i aL);rw[pE,cg,ai (aU aF)];simp only[ey];rw[ZN H ag h0 I];simp only[bl,aw];rw[ai (by simp),ai (aU (by omega)),cg,bO (by omega)];refine Qx rd P k (i+1) (by omega) (by simp[ag]) (λj=>?_) (λj b a=>?_) (λh j b a=>?_) λh j b=>?_
  . have:=h0 j;rw[hz];split<;>omega
  . rw[hz];split
    . rename_i e;rw[<-e.1]at a;exact c a
    . exact aa j (by omega) a
  . rw[hz];split
    . rename_i e;rw[<-e.1]at a;exact c a
    . exact aq h j b a
  . rw[hz];split
    . exact rc (Kk H h0 aF (aq h) (al h))
    . exact al h j (by omega)
theorem Rj:∀(k r:Nat) {n:az},r+k=2*ts.length+1->n.length=ts.length->kf n->(1<=r->∀j,j<ts.length->7<=(ts.getD j aL).Kind->1<=n.getD j 0)->(2<=r->∀j,j<ts.length->1<=n.getD j 0)->
 ∃cp,pa ((r:Int),ts,n)=some cp/\cp.length=ts.length/\∀j,j<ts.length->1<=cp.getD j 0
 |0,r,n,e,ag,h0,h1,c=>by
  have bh:=H.ew;have f:=H.dR;have b:hG .i64 2 (ts.length:Int)=2*ts.length:=by
   show IntKind.wrap .i64 (2*(ts.length:Int))=_;rw[IntKind.wrap_i64];omega
  exact⟨n,by rw[pa,b,de],ag,c (by omega)⟩
 |k+1,r,n,e,ag,h0,h1,c=>by
  have bh:=H.ew;have b:hG .i64 2 (ts.length:Int)=2*ts.length:=by
   show IntKind.wrap .i64 (2*(ts.length:Int))=_;rw[IntKind.wrap_i64];omega
  obtain⟨cp,aN,d,dw,fR,iL⟩:=Qx H (r:Int) (1<=r) ts.length 0 (n:=n) (by omega) ag h0 (λj a=>absurd a (uN _)) h1 (λ_ j a=>absurd a (uN _));have aN:pE ((r:Int),0,ts,n)=_:=aN;rw[pa,b,cg,aN];simp only[bl,aw];rw[bO (by omega)];exact Rj k (r+1) (by omega) d dw (λ_=>fR) (λh=>iL (by omega))
omit H in
theorem Hs{n:az}(ag:n.length<=5)(h:∀i:Nat,i<n.length->1<=n.getD i 0):∀(k i:Nat),i+k=n.length->pb (n,(i:Int),List.replicate i true)=some (List.replicate n.length true)
 |0,i,a=>by rw[pb,de,show i=n.length by omega]
 |k+1,i,a=>by
  have:=h i (by omega);have e:List.replicate i true++[decide (0<n.getD i 0)]=List.replicate (i+1) true:=by
   rw[ez (by omega),List.replicate_succ']
  rw[pb,cg,ai (aU (by omega))];simp only[bl,aw,ey];rw[e,ai (e2),bO (by omega)];exact Hs ag h k (i+1) (by omega)
omit H in
theorem Iq{m:Nat}(b:m<=5):∀(k i:Nat),i+k=m->pk (List.replicate m true,(i:Int))=some (.inr ())
 |0,i,a=>by rw[pk,de]
 |k+1,i,a=>by
  rw[pk,cg,ai (aU (by simp;omega)),av (by rw[ey,sq,zL,fS];simp),bO (by omega)];exact Iq b k (i+1) (by omega)
theorem ZO:A' (⟨ts⟩:a7)=some 0:=by
 have bh:=H.ew;have c:A8 (⟨ts⟩:a7)=some 0:=by
  have iN:=(tX H.T H.V).2;obtain⟨r,aN,a⟩:=X0 (s:=(⟨ts⟩:a7)) (by show ts.length<=_;unfold reachBytes;omega) H.T iN (λ_=>H.V);rw[A8,iN];simp only[bl,aw];rw[c8,aN];simp only[aw];rw[(a rfl).2 H.D]
 have d:∀i:Nat,(List.replicate ts.length (0:Int)).getD i 0=0:=λi=>by
  simp only[sq,zL];split<;>rfl
 obtain⟨n,c1,c2,c3⟩:=Rj H (2*ts.length+1) 0 (n:=List.replicate ts.length 0) (by omega) (by simp) (λi=>by rw[d];omega) (λh=>by omega) (λh=>by omega);have c1:pa (0,ts,List.replicate ts.length 0)=_:=c1;have b:A3 (⟨ts⟩:a7)=some n:=by
  rw[A3];simp only[bl,aw,ey];rw[ai (Gb.2 ⟨by omega,by unfold hi;omega,by unfold dk;omega⟩),c1];rfl
 have f1:pb (n,0,[])=_:=Hs (n:=n) (by omega) (λi e=>c3 i (by omega)) n.length 0 (by omega);have f2:pk (List.replicate n.length true,0)=_:=Iq (m:=n.length) (by omega) n.length 0 (by omega);rw[A',EL,c];simp only[bl,aw];rw[c8,b];simp only[aw];rw[f1];simp only[aw];rw[c8,f2];rfl
end
abbrev ty(ts:List af)(t:Int):af:=ts.getD t.toNat aL
def gb(y:af)(id:Int):Bool:=y.br.any λs=>decide (s.ah=id)
theorem aeJ(h:y.br.length<=1000)(id:Int):∃a,pK (y,id)=some (a,gb y id)/\r2 (y,id)=some (a,gb y id):=by
 obtain⟨r,h1,d,e⟩:=w0 (t:=y) id (by omega);have:r.2=gb y id:=by
  unfold gb;rcases e with⟨j,a1,a2,a3,rfl⟩|⟨a1,rfl⟩
  . exact(qw.2 ⟨_,bM a1 dB,by rw[a2];simp⟩).symm
  . refine(List.any_eq_false.2 λx I=>?_).symm;obtain⟨k,c,rfl⟩:=l1.1 I;have:=a1 k c;simpa[List.getD,df c]using this
 obtain⟨a,b⟩:=r;subst this;exact⟨a,h1,d⟩
theorem wB(h:y.ae.length<=1000)(id:Int):gk (y,id)=some (jF y.ae id)/\hv (y,id)=some (jF y.ae id):=⟨xF h id,xG h id⟩
theorem yu(l:List aY)(id:Int):jF l id=match eC l id with
 |some j=>((j:Int),true)
 |none=>(0,false):=rfl
def o2(x y:af):Bool:=(x.br.all λs=>gb y s.ah)&&(x.ae.all λm=>(eC y.ae m.ah).isSome)
section
variable {x y:af}(I:x.br.length<=1000/\x.ae.length<=1000)(ak:y.br.length<=1000/\y.ae.length<=1000)
include I ak
theorem GK:∀(k i:Nat),i+k=x.br.length->((x.br.drop i).all λs=>gb y s.ah)=true/\po (x.br,(x.br.length:Int),(i:Int),x,y)=some (.inr (x,y))/\py ((i:Int),x,y)=some (.inr (x,y))\/
 ((x.br.drop i).all λs=>gb y s.ah)=false/\po (x.br,(x.br.length:Int),(i:Int),x,y)=some (.inl false)/\py ((i:Int),x,y)=some (.inl false)
 |0,i,b=>.inl ⟨by rw[jJ (by omega)];rfl,by rw[po,de],by rw[py,de]⟩
 |k+1,i,b=>by
  have aF:i<x.br.length:=by omega
  obtain⟨a,s1,c⟩:=aeJ ak.1 (x.br.getD i dB).ah;have e:x.br.drop i=x.br.getD i dB::x.br.drop (i+1):=by
   rw[l0 aF];simp[List.getD,df aF]
  rw[po,cg,ai (aU aF),py,cg,ai (aU aF)];simp only[bl,ey];rw[s1,c,e,l5];simp only[aw];cases d:gb y (x.br.getD i dB).ah with
  |false=>exact .inr ⟨rfl,rfl,rfl⟩
  |true=>
   simp only[ds,bU,bN,l7];rw[bO (by omega)];exact GK k (i+1) (by omega)
theorem GL:∀(k i:Nat),i+k=x.ae.length->((x.ae.drop i).all λm=>(eC y.ae m.ah).isSome)=true/\pq (x.ae,(x.ae.length:Int),(i:Int),y)=some (.inr ())/\pz ((i:Int),x,y)=some (.inr ())\/
 ((x.ae.drop i).all λm=>(eC y.ae m.ah).isSome)=false/\pq (x.ae,(x.ae.length:Int),(i:Int),y)=some (.inl false)/\pz ((i:Int),x,y)=some (.inl false)
 |0,i,a=>.inl ⟨by rw[jJ (by omega)];rfl,by rw[pq,de],by rw[pz,de]⟩
 |k+1,i,a=>by
  have aF:i<x.ae.length:=by omega
  obtain⟨s1,b⟩:=wB ak.2 (x.ae.getD i aG).ah;have e:x.ae.drop i=x.ae.getD i aG::x.ae.drop (i+1):=by
   rw[l0 aF];simp[List.getD,df aF]
  rw[pq,cg,ai (aU aF),pz,cg,ai (aU aF)];simp only[bl,ey];rw[s1,b,e,l5,yu];cases c:eC y.ae (x.ae.getD i aG).ah with
  |none=>exact .inr ⟨rfl,rfl,rfl⟩
  |some j=>
   simp only[aw,ds,bU,bN,Option.isSome_some,l7];rw[bO (by omega)];exact GL k (i+1) (by omega)
theorem aab:ry (x,y)=some (o2 x y):=by
 have a:=GK I ak x.br.length 0 (by omega);have b:=GL I ak x.ae.length 0 (by omega);simp only[nx,gh]at a b;rw[ry];unfold o2;rcases a with⟨a1,a2,a3⟩|⟨a1,a2,a3⟩
 . rw[a3,a1];simp only[bl,aw];rcases b with⟨c,e,d⟩|⟨c,e,d⟩<;>rw[d,c]<;>rfl
 . rw[a3,a1];rfl
theorem aac:wv (x,y)=some (y.Open||o2 x y):=by
 have a:=GK I ak x.br.length 0 (by omega);have b:=GL I ak x.ae.length 0 (by omega);simp only[nx,gh]at a b;rw[wv];cases y.Open with
 |true=>rfl
 |false=>
 unfold o2;rw[c8];rcases a with⟨a1,a2,a3⟩|⟨a1,a2,a3⟩
 . rw[a2,a1];simp only[bl,aw];rcases b with⟨c,d,e⟩|⟨c,d,e⟩<;>rw[d,c]<;>rfl
 . rw[a2,a1];rfl
end
noncomputable def gB (tw tr:List af)(f g:aY):ab×Int:=zb (qG tw tr f.aC f.bC g.aC)
noncomputable def Dn (tw tr:List af)(f g:aY):Int:=if f.bX then(if g.bX then(if(gB tw tr f g).2=0/\dG g (gB tw tr f g).1=true then 0 else 10)else 7)else 0
noncomputable def iv (tw tr:List af)(x:af)(g:aY):Int:=match eC x.ae g.ah with
 |none=>if g.bX then 0 else 7
 |some i=>Dn tw tr (x.ae.getD i aG) g
def eS{α:Type}(f:α->Int):List α->Int
 |[]=>0
 |a::l=>if f a=0 then eS f l else f a
theorem ZP{f:α->Int}{a:α}{l:List α}(h:f a=c)(b:c≠0):eS f (a::l)=c:=by
 subst h;exact av b
theorem Ir{f:α->Int}{a:α}{l:List α}(h:f a=0):eS f (a::l)=eS f l:=ai h
def eB(y:af)(f:aY):Int:=if(eC y.ae f.ah).isNone=true/\f.cJ=true then 6 else 0
section
variable {tw tr:List af}(HW:dA tw)(HR:dA tr)
include HW HR
theorem aad(I:x∈tw)(ak:y∈tr){f g:aY}(i:f∈x.ae)(ao:g∈y.ae)(aj:f.bX=true)(he:g.bX=true):
 tK ((⟨tw⟩:a7),f.aC,f.bC,(⟨tr⟩:a7),g.aC)=some (gB tw tr f g)/\(∃b,lN ((gB tw tr f g).1,g.bC)=some b/\b=dG g (gB tw tr f g).1)/\Bb ((⟨tw⟩:a7),f.aC,f.bC,(⟨tr⟩:a7),g.aC,g.bC)=some (decide ((gB tw tr f g).2=0)&&dG g (gB tw tr f g).1):=by
 have e:=(HW.T x I).hX f i;have d:=HW.D x I f i aj;have s:=HW.W x I f i aj;have k:fX tw 3000 f.aC f.bC:=oO HW 3000 e d (.inr (by omega)) (.inr (by omega));obtain⟨j,l,rfl⟩:=l1.1 ak;have a:=HR.R j l g (by simpa[List.getD,df l]using ao);have ok:cP (gB tw tr f g).1:=ael HW HR e d k a.1 a.2.1;have m:dG g (gB tw tr f g).1=true↔(gB tw tr f g).1=g.bC:=by
  unfold dG;simp[he];exact⟨λh=>h.symm,λh=>h.symm⟩
 obtain⟨b,n,o⟩:=JY ok g.bC;obtain⟨c,c1,c2⟩:=JX ok g.bC;have p:b=dG g (gB tw tr f g).1:=by rw[qz];exact o.trans m.symm
 have q:c=dG g (gB tw tr f g).1:=by rw[qz];exact c2.trans m.symm
 refine⟨WY HW HR e d k a.1 a.2.1,⟨b,n,p⟩,?_⟩;rw[Bb];simp only[ab.b7];rw[WZ HW HR e (by omega) d k a.1 a.2.1];simp only[bl,aw];show((if ((gB tw tr f g).2=0:Bool) then tE ((gB tw tr f g).1,g.bC)else some false)>>=λr=>some (bif decide ((gB tw tr f g).2=0)then r else false))=_;by_cases h0:(gB tw tr f g).2=0
 . rw[ai (by simpa using h0),c1,q];simp[h0]
 . rw[av (by simpa using h0)];simp[h0]
theorem adB{l:List aY}(h:eC l id=some j):aB (j:Int) l.length=true:=aU (hB h).1
theorem Kp{x y:af}(I:x∈tw)(ak:y∈tr):∀(k i:Nat),i+k=y.ae.length->
 (eS (iv tw tr x) (y.ae.drop i)=0/\mC (y.ae,(y.ae.length:Int),(i:Int),tw,x,tr,y)=some (.inr (x,y))/\pc ((i:Int),tw,x,tr,y)=some (.inr (x,y)))\/
 (¬eS (iv tw tr x) (y.ae.drop i)=0/\mC (y.ae,(y.ae.length:Int),(i:Int),tw,x,tr,y)=some (.inl (eS (iv tw tr x) (y.ae.drop i)))/\pc ((i:Int),tw,x,tr,y)=some (.inl (eS (iv tw tr x) (y.ae.drop i))))
 |0,i,o=>.inl ⟨by rw[jJ (by omega)];rfl,by rw[mC,de],by rw[pc,de]⟩
 |k+1,i,o=>by
  have aF:i<y.ae.length:=by omega
  have s:=(HW.b9 x I).2.2;have t:=(HR.b9 y ak).2.2;have e:y.ae.drop i=y.ae.getD i aG::y.ae.drop (i+1):=by
   rw[l0 aF];simp[List.getD,df aF]
  have ao:=bM aF aG;have ih:=Kp I ak k (i+1) (by omega);rw[mC,cg,ai (aU aF),pc,cg,ai (aU aF)];simp only[bl,aw,ey,ab.b7];generalize y.ae.getD i aG=g at*;obtain⟨s1,r⟩:=wB (y:=x) (by omega) g.ah;rw[s1,r,e,yu,bO (by omega)];have a:iv tw tr x g=match eC x.ae g.ah with
   |none=>if g.bX then 0 else 7
   |some i=>Dn tw tr (x.ae.getD i aG) g:=rfl
  cases bV:eC x.ae g.ah with
  |none=>
   rw[bV]at a;simp only[aw,eL,bJ];cases aj:g.bX with
   |false=>
    simp only[aj]at a;have m:iv tw tr x g=7:=a;have my:eS (iv tw tr x) (g::y.ae.drop (i+1))=7:=(by simp[eS,m]);refine .inr ⟨by rw[my];decide,by rw[my];rfl,by rw[my];simp⟩
   |true=>
    simp only[aj]at a;have h0:iv tw tr x g=0:=a;have dc:eS (iv tw tr x) (g::y.ae.drop (i+1))=eS (iv tw tr x) (y.ae.drop (i+1)):=(by simp[eS,h0]);rw[dc];simpa using ih
  |some j=>
   rw[bV]at a;have p:=adB (HW:=HW) (HR:=HR) bV;have n:=bM (hB bV).1 aG;simp only[aw,ds,bU,bN,ey,p,bJ,l8,dX];simp only at a;unfold Dn at a;rcases z' (x.ae.getD j aG).bX with d|d
   . rcases z' g.bX with c|c
     . obtain⟨d1,⟨b,d2,d3⟩,d4⟩:=aad HW HR I ak n ao d c;rw[ai d,ai c]at a;simp only[d,c,ds,bU,bN,eF,bJ];rw[d1,d4];simp only[aw];by_cases h0:(gB tw tr (x.ae.getD j aG) g).2=0/\dG g (gB tw tr (x.ae.getD j aG) g).1=true
       . rw[ai h0]at a;have dc:eS (iv tw tr x) (g::y.ae.drop (i+1))=eS (iv tw tr x) (y.ae.drop (i+1)):=(by simp[eS,a]);rw[dc];simp only[h0.1,h0.2,cL,ds,eL,bJ,Bool.and_self,eF,dX,bU,bN];rw[d2,d3,h0.2];simpa using ih
       . rw[av h0]at a;have f:eS (iv tw tr x) (g::y.ae.drop (i+1))=10:=(by simp[eS,a]);refine .inr ⟨by rw[f];decide,?_,?_⟩
         . rw[f];by_cases h1:(gB tw tr (x.ae.getD j aG) g).2=0
           . have l:dG g (gB tw tr (x.ae.getD j aG) g).1=false:=by
              cases q:dG g (gB tw tr (x.ae.getD j aG) g).1 with
              |false=>rfl
              |true=>exact absurd ⟨h1,q⟩ h0
             simp only[h1,cL,ds,eL,bJ,eF];rw[d2,d3,l];rfl
           . have aN:decide ((gB tw tr (x.ae.getD j aG) g).2=0)=false:=hJ h1;simp only[aN,eL,ds,bU,bN,aw,dX,bJ]
         . rw[f];have:(decide ((gB tw tr (x.ae.getD j aG) g).2=0)&&dG g (gB tw tr (x.ae.getD j aG) g).1)=false:=by
            rw[Bool.eq_false_iff];intro h;simp at h;exact h0 h
           rw[this];rfl
     . rw[ai d,av (by rw[c];simp)]at a;have my:eS (iv tw tr x) (g::y.ae.drop (i+1))=7:=(by simp[eS,a]);rw[my];refine .inr ⟨by decide,?_,?_⟩<;>simp only[d,c,ds,eL,bU,bN,bJ,dX,eF]
   . rw[av (by rw[d];simp)]at a;have dc:eS (iv tw tr x) (g::y.ae.drop (i+1))=eS (iv tw tr x) (y.ae.drop (i+1)):=(by simp[eS,a]);rw[dc];rcases z' g.bX with c|c<;>simp only[d,c,eL,ds,bJ,bU,bN,dX,eF,aw]<;>exact ih
theorem Kq{x y:af}(I:x∈tw)(ak:y∈tr):∀(k i:Nat),i+k=x.ae.length->
 (eS (eB y) (x.ae.drop i)=0/\pr (x.ae,(x.ae.length:Int),(i:Int),y)=some (.inr ())/\pd ((i:Int),x,y)=some (.inr ()))\/
 (¬eS (eB y) (x.ae.drop i)=0/\pr (x.ae,(x.ae.length:Int),(i:Int),y)=some (.inl (eS (eB y) (x.ae.drop i)))/\pd ((i:Int),x,y)=some (.inl (eS (eB y) (x.ae.drop i))))
 |0,i,c=>.inl ⟨by rw[jJ (by omega)];rfl,by rw[pr,de],by rw[pd,de]⟩
 |k+1,i,c=>by
  have aF:i<x.ae.length:=by omega
  have f:=(HW.b9 x I).2.2;have g:=(HR.b9 y ak).2.2;have e:x.ae.drop i=x.ae.getD i aG::x.ae.drop (i+1):=by
   rw[l0 aF];simp[List.getD,df aF]
  have ih:=Kq I ak k (i+1) (by omega);obtain⟨s1,d⟩:=wB (y:=y) (by omega) (x.ae.getD i aG).ah;rw[pr,cg,ai (aU aF),pd,cg,ai (aU aF)];simp only[bl,aw,ey];rw[s1,d,e,bO (by omega)];simp only[aw,aU aF,l8,bJ];have a:eB y (x.ae.getD i aG)=if(eC y.ae (x.ae.getD i aG).ah).isNone=true/\(x.ae.getD i aG).cJ=true then 6 else 0:=rfl
  rw[yu];rcases z' (x.ae.getD i aG).cJ with b|b
  . cases bV:eC y.ae (x.ae.getD i aG).ah with
    |none=>
     rw[ai ⟨by rw[bV];rfl,b⟩]at a;have mx:eS (eB y) ((x.ae.getD i aG)::x.ae.drop (i+1))=6:=ZP a (by decide);rw[mx];refine .inr ⟨by decide,?_,?_⟩<;>simp only[b,eL,dX,bJ]
    |some j=>
     rw[av (by rw[bV];simp)]at a;have dc:eS (eB y) ((x.ae.getD i aG)::x.ae.drop (i+1))=eS (eB y) (x.ae.drop (i+1)):=Ir a;rw[dc];simp only[ds,eF,bU,bN];exact ih
  . rw[av (by rw[b];simp)]at a;have dc:eS (eB y) ((x.ae.getD i aG)::x.ae.drop (i+1))=eS (eB y) (x.ae.drop (i+1)):=Ir a;rw[dc];cases bV:eC y.ae (x.ae.getD i aG).ah<;>simp only[b,eL,ds,dX,eF,bU,bN]<;>exact ih
noncomputable def BN (tw tr:List af)(x y:af):Int:=if eS (iv tw tr x) y.ae=0 then eS (eB y) x.ae else eS (iv tw tr x) y.ae
theorem aaN(I:x∈tw)(ak:y∈tr):Bd ((⟨tw⟩:a7),x,(⟨tr⟩:a7),y)=some (BN tw tr x y)/\wb ((⟨tw⟩:a7),x,(⟨tr⟩:a7),y)=some (BN tw tr x y):=by
 have a:=Kp HW HR I ak y.ae.length 0 (by omega);have b:=Kq HW HR I ak x.ae.length 0 (by omega);simp only[nx,gh]at a b;rw[Bd,wb];unfold BN;rcases a with⟨a1,a2,a3⟩|⟨a1,a2,a3⟩
 . rw[a2,a3,ai a1];simp only[bl,aw];rcases b with⟨e,c,d⟩|⟨e,c,d⟩
   . rw[c,d,e];exact⟨rfl,rfl⟩
   . rw[c,d];exact⟨rfl,rfl⟩
 . rw[a2,a3,av a1];exact⟨rfl,rfl⟩
def lb(k:af):Int:=if k.Kind=1 then 2 else if k.Kind=2 then k.bK-k.bH+1 else if k.Kind=4 then k.br.length else if k.Max=0 then 1 else 100
omit HW HR in
theorem Kr{b:af}(h: -100<=b.bH/\b.bK<=100):∀(k:Nat) (n v:Int),b.bK-v=k->b.bH<=v->1<=n->n+k<=100->pv (n,v,b)=some (n+k)
 |0,n,v,c,ag,h1,a=>by
  rw[pv,de];simp
 |k+1,n,v,c,ag,h1,a=>by
  rw[pv,cg,jy (by omega) (by omega),jy (by omega) (by omega),Kr h k (n+1) (v+1) (by omega) (by omega) (by omega) (by omega)]
  congr 1;omega
omit HR in
theorem ZQ{k:af}(a:k∈tw)(i:k.Kind<=4):(∃q,wR k=some q/\∀m,m<=3->da m q=da m (lb k))/\tH k=some (lb k):=by
 have h1:=(Kj HW a).1;have d:=HW.L k a;have bV:=HW.V.F k a;rw[wR,tH];by_cases bn:k.Kind=1
 . simp[bn,lb]
 by_cases bt:k.Kind=2
 . obtain⟨n,l2⟩:=d bt;have j:k.bH<=k.bK:=by rcases bV with h|h|h|h|h|h|h|h|h<;>omega
   have c:lb k=k.bK-k.bH+1:=(by simp[lb,bt]);have e:pv (1,k.bH,k)=some (1+((k.bK-k.bH).toNat:Int)):=Kr (by omega) _ 1 k.bH (by omega) (by omega) (by omega) (by omega);have f:dM .u64 (ca .u64 k.bK) (ca .u64 k.bH)=k.bK-k.bH:=by
    show IntKind.wrap .u64 (IntKind.wrap .u64 k.bK-IntKind.wrap .u64 k.bH)=_;rw[IntKind.wrap_u64,IntKind.wrap_u64,IntKind.wrap_u64];omega
   have g:ca .i64 (k.bK-k.bH)=k.bK-k.bH:=by
    show IntKind.wrap .i64 _=_;rw[IntKind.wrap_i64];omega
   refine⟨?_,?_⟩
   . rw[av (by simp[bt]),ai (by simp[bt]),f];simp only[bl,aw];rw[cg,g,jy (by omega) (by omega)];exact⟨_,rfl,λm _=>by rw[c]⟩
   . rw[av (by simp[bt]),ai (by simp[bt]),e,c];show some (1+((k.bK-k.bH).toNat:Int))=_
     congr 1;omega
 by_cases cw:k.Kind=4
 . simp[cw,lb]
 . have bY:k.Kind=3:=(by omega);by_cases b:k.Max=0
   . simp[bY,b,lb]
   . simp[bY,b,lb];intro m l;simp only[da];omega
noncomputable def oQ (tw tr:List af)(t u:Int):Int:=
 if ¬(ty tw t).Kind=(ty tr u).Kind then 9
 else if(ty tw t).Kind=2 then(if(ty tw t).bH<(ty tr u).bH\/(ty tr u).bK<(ty tw t).bK then 2 else 0)
 else if(ty tw t).Kind=3\/(ty tw t).Kind=7 then(if(ty tr u).Max<(ty tw t).Max then 3 else 0)
 else if(ty tw t).Kind=8 then(if(ty tr u).Max<da (ty tw t).Max (lb (ty tw (ty tw t).Key))then 3 else 0)
 else if(ty tw t).Kind=4 then(if((ty tr u).Open||o2 (ty tw t) (ty tr u)) then 0 else 4)
 else if(ty tw t).Kind=6 then(if((ty tr u).Open||o2 (ty tw t) (ty tr u)) then 0 else 5)
 else if(ty tw t).Kind=5 then BN tw tr (ty tw t) (ty tr u)
 else 0
omit HW HR in
theorem GY(h:x.Kind=8):x.Key∈e9 x:=by unfold e9;simp[h]
omit HW HR in
theorem Jt(h:7<=x.Kind):x.aQ∈e9 x:=by unfold e9;simp[h]
def gI(ts:List af)(t:Int):Prop:=0<=t/\t<ts.length
omit HW HR in
theorem xH(h:gI ts t):aB t ts.length=true:=by
 unfold gI at h;simp only[aB,cO,gg];omega
omit HW HR in
theorem ni(h:gI ts t):ty ts t∈ts:=bM (by unfold gI at h;omega) aL
theorem lens{u:Int}(ht:gI tw t)(d:gI tr u):((ty tw t).br.length<=1000/\(ty tw t).ae.length<=1000)/\((ty tr u).br.length<=1000/\(ty tr u).ae.length<=1000):=by
 have I:=ni ht;have ak:=ni d;have a:=(HW.b9 _ I).2.2;have b:=(HR.b9 _ ak).2.2;have c:∀{x:af} {ts:List af},gv x->x.br.length<=1000:=λ{x ts} h=>by
  rcases h with h|h|h|h|h|h|h|h|h
  all_goals first
   |(have:=h.2.2.2.2.2.1.2.2.2.2;omega)
   |(have q:x.br=[]:=(by first|exact h.2.2.2.2.2.1|exact h.2.2.2.2.1);rw[q];simp)
 exact⟨⟨c (ts:=tw) (HW.V.F _ I),by omega⟩,⟨c (ts:=tr) (HR.V.F _ ak),by omega⟩⟩
theorem F5{u:Int}(ht:gI tw t)(d:gI tr u):Bh ((⟨tw⟩:a7),t,(⟨tr⟩:a7),u)=some (oQ tw tr t u)/\wc ((⟨tw⟩:a7),t,(⟨tr⟩:a7),u)=some (oQ tw tr t u):=by
 have I:=ni ht;have ak:=ni d;obtain⟨l,l2⟩:=lens HW HR ht d;have g:=aac l l2;have i:=aab l l2;have j:=aaN HW HR I ak;have m:=HW.M _ I;have r:(ty tw t).Kind=8->aB (ty tw t).Key tw.length=true/\(∃q,wR (ty tw (ty tw t).Key)=some q/\da (ty tw t).Max q=da (ty tw t).Max (lb (ty tw (ty tw t).Key)))/\tH (ty tw (ty tw t).Key)=some (lb (ty tw (ty tw t).Key)):=λgE=>by
  have c:gI tw (ty tw t).Key:=HW.V.U _ I _ (GY gE);obtain⟨⟨q,v,w⟩,z⟩:=ZQ HW (ni c) (HW.V.sO _ I gE).2;exact⟨xH c,⟨q,v,w _ m⟩,z⟩
 have c:=Kj HW I;rw[Bh,wc];show(if aB t tw.length then _ else none)=_/\(if aB t tw.length then _ else none)=_;rw[xH ht,ai rfl,ai rfl];simp only[bl,aw];rw[xH d,ai rfl,ai rfl];unfold oQ;obtain⟨x,e⟩:∃x,ty tw t=x:=⟨_,rfl⟩
 obtain⟨y,f⟩:∃y,ty tr u=y:=⟨_,rfl⟩
 have n:tw.getD t.toNat aL=x:=e;have o:tr.getD u.toNat aL=y:=f;simp only[n,o,e,f]at*;have A:∀k:Int,tw.getD k.toNat aL=ty tw k:=λ_=>rfl;by_cases bE:x.Kind=y.Kind
 . have p:x.Kind=1\/x.Kind=2\/x.Kind=3\/x.Kind=4\/x.Kind=5\/x.Kind=6\/x.Kind=7\/x.Kind=8\/x.Kind=9:=(by omega);rcases p with k|k|k|k|k|k|k|k|k<;>have s:y.Kind=_:=bE.symm.trans k
   all_goals simp only[k,s,Int.reduceEq,Int.reduceLT,cL,dn,ds,eL,Bool.or_true,gZ,dX,eF,bU,bN,bJ,aw,not_true_eq_false,or_false,false_or,or_true,true_or,uS]
   . by_cases a:x.bH<y.bH<;>by_cases b:y.bK<x.bK<;>simp[a,b]
   . by_cases a:y.Max<x.Max<;>simp[a]
   . rw[g,i];cases y.Open<;>cases o2 x y<;>simp
   . rw[j.1,j.2];simp
   . rw[g,i];cases y.Open<;>cases o2 x y<;>simp
   . by_cases a:y.Max<x.Max<;>simp[a]
   . obtain⟨a1,⟨q,a2,a3⟩,a4⟩:=r k;rw[A,a2,a4,a1];simp only[aw,l8,bJ,a3];by_cases a:y.Max<da x.Max (lb (ty tw x.Key))<;>simp only[a,cL,dn,bJ,bN,bU,uS]
 . simp[bE]
end
theorem GZ{a b:aK}:a=b↔a.bW=b.bW/\a.bZ=b.bZ:=by cases a;cases b;simp
instance ae':DecidableEq aK:=λa b=>decidable_of_iff (a.bW=b.bW/\a.bZ=b.bZ) GZ.symm
theorem tb{a b:aK}:(dZ a.bW b.bW&&(dZ a.bZ b.bZ&&true))=decide (a=b):=by
 rw[qz];simp[dZ,GZ]
def fY(l:List aK)(p:aK):List aK:=if p∈l then l else l++[p]
theorem F6(l:List aK)(p:aK):(fY l p).length<=l.length+1:=by unfold fY;split<;>simp
theorem aaO{l:List aK}{p q:aK}:q∈fY l p↔q∈l\/q=p:=by
 unfold fY;by_cases h:p∈l
 . rw[ai h];exact⟨.inl,λa=>a.elim id (λe=>e▸h)⟩
 . rw[av h];simp
theorem ym{m:List aK}:∀{l:List aK} {q:aK},q∈m.foldl fY l↔q∈l\/q∈m:=by
 induction m with
 |nil=>intro l q;simp
 |cons a m ih=>intro l q;rw[kK,ih,aaO];simp[or_assoc]
theorem Ju{m:List aK}:∀{l:List aK},(m.foldl fY l).length<=l.length+m.length:=by
 induction m with
 |nil=>intro l;simp
 |cons a m ih=>intro l;rw[kK,kJ];have:=@ih (fY l a);have:=F6 l a;omega
theorem X9{l:List aK}(h:l.Nodup)(p:aK):(fY l p).Nodup:=by
 unfold fY;by_cases al:p∈l
 . rwa [ai al]
 . rw[av al];rw[DF];exact⟨h,by simp,λa d b c=>by simp at c;subst c;exactλe=>al (e▸d)⟩
theorem XH{m:List aK}:∀{l:List aK},l.Nodup->(m.foldl fY l).Nodup:=by
 induction m with
 |nil=>intro l h;exact h
 |cons a m ih=>intro l h;rw[kK];exact ih (X9 h a)
theorem xz{l:List aK}{i:Nat}(h:i<l.length):l.drop i=l.getD i bG::l.drop (i+1):=by
 rw[l0 h];simp[List.getD,df h]
section
variable {l:List aK}(p:aK)(ag:l.length<=1000000)
include ag
theorem OC:∀(k i:Nat),i+k=l.length->(p∈l.drop i/\qa (l,(i:Int),p)=some (.inl true)/\mD ((i:Int),l,p)=some (.inl (true,l))/\∃j:Nat,nc (l,(l.length:Int),(i:Int),p)=some (.inl (j:Int))/\mZ ((l.length:Int),(i:Int),l,p)=some (.inl ((j:Int),l)))\/
 (p ∉ l.drop i/\qa (l,(i:Int),p)=some (.inr ())/\mD ((i:Int),l,p)=some (.inr l)/\nc (l,(l.length:Int),(i:Int),p)=some (.inr ())/\mZ ((l.length:Int),(i:Int),l,p)=some (.inr l))
 |0,i,c=>.inr ⟨by rw[jJ (by omega)];simp,by rw[qa,de],by rw[mD,de],by rw[nc,de],by rw[mZ,de]⟩
 |k+1,i,c=>by
  have aF:i<l.length:=by omega
  have ih:=OC k (i+1) (by omega);rw[xz aF];have aN:qa (l,(i:Int),p)=if l.getD i bG=p then some (.inl true)else qa (l,((i+1:Nat):Int),p):=by
   rw[qa,cg,ai (aU aF)];simp only[bl,aw,ey,tb];rw[bO (by omega)];by_cases h:l.getD i bG=p<;>simp only[h,cL,dn,bJ,bN,bU]
  have b:mD ((i:Int),l,p)=if l.getD i bG=p then some (.inl (true,l))else mD (((i+1:Nat):Int),l,p):=by
   rw[mD,cg,ai (aU aF)];simp only[ey,tb,aF,cL,bJ];rw[bO (by omega)];by_cases h:l.getD i bG=p<;>simp only[h,cL,dn,bJ,bN,bU]
  have dw:nc (l,(l.length:Int),(i:Int),p)=if l.getD i bG=p then some (.inl (i:Int))else nc (l,(l.length:Int),((i+1:Nat):Int),p):=by
   rw[nc,cg,ai (aU aF)];simp only[bl,aw,ey,tb];rw[bO (by omega)];by_cases h:l.getD i bG=p
   . simp only[h,cL,bJ]
   . have a:¬p=l.getD i bG:=λe=>h e.symm;simp only[h,a,dn,bN,bU]
  have fR:mZ ((l.length:Int),(i:Int),l,p)=if l.getD i bG=p then some (.inl ((i:Int),l))else mZ ((l.length:Int),((i+1:Nat):Int),l,p):=by
   rw[mZ,cg,ai (aU aF)];simp only[ey,tb,aF,cL,bJ];rw[bO (by omega)];by_cases h:l.getD i bG=p
   . simp only[h,cL,bJ]
   . have a:¬p=l.getD i bG:=λe=>h e.symm;simp only[h,a,dn,bN,bU]
  rw[aN,b,dw,fR];by_cases h:l.getD i bG=p
  . rw[ai h,ai h];exact .inl ⟨by rw[h];exact uX ..,rfl,rfl,i,by rw[ai h],by rw[ai h]⟩
  . have a:¬p=l.getD i bG:=λe=>h e.symm;simp only[av h,fg,a,false_or];exact ih
theorem ti:Q3 (l,p)=some (decide (p∈l))/\tG (p,l)=some (decide (p∈l),l)/\tn (l,p)=some (decide (p∈l))/\An (p,l)=some (decide (p∈l),l):=by
 have h:=OC p ag l.length 0 (by omega);simp only[nx,gh]at h;rw[Q3,tG,tn,An,EF,DX];rcases h with⟨h1,a,b,j,c,bh⟩|⟨h1,a,b,c,bh⟩
 . rw[a,b,c,bh];simp[h1]
 . rw[a,b,c,bh];simp[h1]
end
def ll(x y:af)(l:List aY):List aK:=l.filterMap λf=>match eC y.ae f.ah with
 |none=>none
 |some j=>some ⟨f.aC,(y.ae.getD j aG).aC⟩
def vW(x y:af):List aK:=if x.Kind=8/\0<x.Max then[⟨x.Key,y.Key⟩]else[]
def vN(x y:af):List aK:=if x.Kind=9\/(x.Kind=7\/x.Kind=8)/\0<x.Max then[⟨x.aQ,y.aQ⟩]else[]
def vg(x y:af):List aK:=ll x y x.ae++vW x y++vN x y
def sG(x y:af):List aK:=if x.Kind=y.Kind then(vg x y).foldl fY []else[]
theorem Jv(x y:af)(l:List aY):(ll x y l).length<=l.length:=by unfold ll;exact List.length_filterMap_le ..
theorem Cq(a b:Int){l:List aK}(ag:l.length<=1000):rU (a,b,l)=some (fY l ⟨a,b⟩):=by
 rw[rU,(ti (⟨a,b⟩:aK) (by omega)).2.2.2];simp only[bl,aw,cL,qA,bJ];unfold fY;by_cases h:(⟨a,b⟩:aK)∈l
 . rw[ai h,av (by simp[h])]
 . rw[av h,ai (by simp[h]),ai (e2)]
section
variable {x y:af}(I:x.ae.length<=100)(ak:y.ae.length<=100)
include I ak
theorem GM:∀(k i:Nat) (acc:List aK),i+k=x.ae.length->acc.length+k<=500->o8 (x.ae,(x.ae.length:Int),(i:Int),x,y,acc)=some (x,y,(ll x y (x.ae.drop i)).foldl fY acc)
 |0,i,acc,b,a=>by rw[jJ (by omega),o8,de];rfl
 |k+1,i,acc,b,a=>by
  have aF:i<x.ae.length:=by omega
  have e:x.ae.drop i=x.ae.getD i aG::x.ae.drop (i+1):=by
   rw[l0 aF];simp[List.getD,df aF]
  rw[o8,cg,ai (aU aF)];simp only[bl,aw,ey];rw[(wB (y:=y) (by omega) _).1,yu,e,bO (by omega)];unfold ll;rw[List.filterMap_cons];cases bV:eC y.ae (x.ae.getD i aG).ah with
  |none=>
   simp only[aw,bU,bN];exact GM k (i+1) acc (by omega) (by omega)
  |some j=>
   simp only[aw,bJ,aU (hB bV).1,ey,kK];rw[Cq _ _ (by omega)];simp only[aw];exact GM k (i+1) _ (by omega) (by have:=F6 acc ⟨(x.ae.getD i aG).aC,(y.ae.getD j aG).aC⟩;omega)
theorem GN:∀(k i:Nat) (acc:List aK),i+k=x.ae.length->acc.length+k<=500->pt ((i:Int),x,y,acc)=some (x,y,acc++ll x y (x.ae.drop i))
 |0,i,acc,b,a=>by rw[jJ (by omega),pt,de];simp[ll]
 |k+1,i,acc,b,a=>by
  have aF:i<x.ae.length:=by omega
  have e:x.ae.drop i=x.ae.getD i aG::x.ae.drop (i+1):=by
   rw[l0 aF];simp[List.getD,df aF]
  rw[pt,cg,ai (aU aF)];simp only[bl,aw,ey];rw[(wB (y:=y) (by omega) _).2,yu,e,bO (by omega)];unfold ll;rw[List.filterMap_cons];cases bV:eC y.ae (x.ae.getD i aG).ah with
  |none=>
   simp only[aw,bU,bN];exact GN k (i+1) acc (by omega) (by omega)
  |some j=>
   simp only[aw,bJ,aU (hB bV).1,aU aF,ey];rw[ai (e2),GN k (i+1) _ (by omega) (by simp;omega),lh];rfl
end
theorem GO{l:List aK}(ag:l.length<=500):∀(k i:Nat) (acc:List aK),i+k=l.length->acc.length+k<=500->k1 ((i:Int),l,acc)=some ((l.drop i).foldl fY acc)
 |0,i,acc,b,a=>by rw[jJ (by omega),k1,de];rfl
 |k+1,i,acc,b,a=>by
  have aF:i<l.length:=by omega
  rw[xz aF,k1,cg,ai (aU aF)];simp only[ey];rw[ai (ez aF),(ti _ (by omega)).2.1,bO (by omega)];simp only[bl,aw,cL,qA,bJ,kK];by_cases h:l.getD i bG∈acc
  . rw[show fY acc (l.getD i bG)=acc from ai h,ez h,c8];exact GO ag k (i+1) acc (by omega) (by omega)
  . rw[show fY acc (l.getD i bG)=acc++[l.getD i bG]from av h,hJ h,ai (show(!false)=true from rfl),ai (aU aF),ai (ez aF),ai (e2)];exact GO ag k (i+1) _ (by omega) (by simp;omega)
theorem Jw(I:x.ae.length<=100):(vg x y).length<=102:=by
 have:=Jv x y x.ae;have h1:(vW x y).length<=1:=by unfold vW;split<;>simp
 have a:(vN x y).length<=1:=by unfold vN;split<;>simp
 unfold vg;simp only[dQ];omega
section
variable {tw tr:List af}(HW:dA tw)(HR:dA tr)
include HW HR
theorem F7{u:Int}(ht:gI tw t)(i:gI tr u):Ag ((⟨tw⟩:a7),t,(⟨tr⟩:a7),u)=some (sG (ty tw t) (ty tr u))/\wx ((⟨tw⟩:a7),t,(⟨tr⟩:a7),u)=some (sG (ty tw t) (ty tr u)):=by
 have I:=(HW.b9 _ (ni ht)).2.2;have ak:=(HR.b9 _ (ni i)).2.2;have sC:=GM (x:=ty tw t) (y:=ty tr u) (by omega) (by omega) (ty tw t).ae.length 0 [] (by omega) (by show 0+_<=500;omega);have j:=GN (x:=ty tw t) (y:=ty tr u) (by omega) (by omega) (ty tw t).ae.length 0 [] (by omega) (by show 0+_<=500;omega);have r:=Jw (x:=ty tw t) (y:=ty tr u) (by omega);have q:=Jv (ty tw t) (ty tr u) (ty tw t).ae;have dR:∀l:List aK,l.length<=500->k1 (0,l,[])=some (l.foldl fY []):=λl ag=>by
  have:=GO ag l.length 0 [] (by omega) (by simp;omega);simpa using this
 have d:∀l:List aK,l.length<=500->room 16 l.length=true:=λl ag=>e2 (by omega) (by omega);simp only[nx,gh,j7]at sC j;have k:=@Ju (ll (ty tw t) (ty tr u) (ty tw t).ae) [];simp only[qx]at k;rw[Ag,wx];show(if aB t tw.length then _ else none)=_/\(if aB t tw.length then _ else none)=_;rw[xH ht,ai rfl,ai rfl];simp only[bl,aw];rw[xH i,ai rfl,ai rfl];unfold sG vg;obtain⟨x,e⟩:∃x,ty tw t=x:=⟨_,rfl⟩
 obtain⟨y,f⟩:∃y,ty tr u=y:=⟨_,rfl⟩
 have n:tw.getD t.toNat aL=x:=e;have o:tr.getD u.toNat aL=y:=f;simp only[n,o,e,f]at*;by_cases bE:x.Kind=y.Kind
 . have p:(bif decide (x.Kind=8)then decide (0<x.Max)else false)=decide (x.Kind=8/\0<x.Max):=by
    by_cases a:x.Kind=8<;>simp[a]
   have m:(bif decide (x.Kind=9)then true else bif bif decide (x.Kind=7)then true else decide (x.Kind=8)then decide (0<x.Max)else false)=decide (x.Kind=9\/(x.Kind=7\/x.Kind=8)/\0<x.Max):=by
    by_cases a:x.Kind=9<;>by_cases b:x.Kind=7<;>by_cases c:x.Kind=8<;>simp[a,b,c]
   have g:¬(!(decide (x.Kind=y.Kind)))=true:=(by simp[bE]);rw[ai bE,av g,av g,sC,j];simp only[aw,zV,p,m];have a2:=F6 (List.foldl fY [] (ll x y x.ae)) ⟨x.Key,y.Key⟩;unfold vW vN;by_cases bn:x.Kind=8/\0<x.Max
   . have bt:x.Kind=9\/(x.Kind=7\/x.Kind=8)/\0<x.Max:= .inr ⟨.inr bn.1,bn.2⟩;rw[ai bn,ai bt];simp only[bn,bt,cL,bJ,uS,kK,List.foldl_nil];rw[Cq _ _ (by omega),d _ (by simp;omega),d _ (by simp;omega),dR _ (by simp;omega)];simp only[aw];rw[Cq _ _ (by omega)];simp[zV]
   . rw[av bn];by_cases bt:x.Kind=9\/(x.Kind=7\/x.Kind=8)/\0<x.Max
     . rw[ai bt];simp only[bn,bt,cL,dn,bJ,bN,bU,kK,List.foldl_nil];rw[Cq _ _ (by omega),d _ (by simp;omega),dR _ (by simp;omega)];simp[zV]
     . rw[av bt];simp only[bn,bt,dn,bN,bU,List.foldl_nil];rw[dR _ (by omega)];simp
 . simp[bE]
end
end
end Go.Proofs.YtkbmjabicjpmjaaGreatDoor
