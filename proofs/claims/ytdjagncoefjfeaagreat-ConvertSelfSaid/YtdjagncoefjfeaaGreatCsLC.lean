/- The library of this proof, part C: an abstract machine for the code of the program, and its soundness. -/
import Derived.Test.YtdjagncoefjfeaaGreatCsLB

namespace Go.Proofs.YtdjagncoefjfeaaGreat.Shv
set_option linter.all false
section
open Go
variable {xb:a6}
def kM(xb:a6)(aZ:List cb)(env:Env)(N:Nat):List (Nat×Nat)->Bool
 |[]=>true
 |(i,j)::r=>(match aZ[i]?,aZ[j]? with
  |some x,some y=>(eh xb y.op env (N+16*j)).all λb=>!(cF xb x.op env (N+16*i) b)
  |_,_=>true)&&kM xb aZ env N r
variable{env:Env}{N:Nat}{aZ:List cb}
theorem I6:∀{fZ:List (Nat×Nat)} {i j:Nat} {x y:cb},kM xb aZ env N fZ=true->(i,j)∈fZ->aZ[i]?=some x->aZ[j]?=some y->∀b,b∈eh xb y.op env (N+16*j)->cF xb x.op env (N+16*i) b=false
 |[],i,j,x,y,h,a,_,_,_,_=>by simp at a
 |(g,k)::r,i,j,x,y,h,a,d,f,b,c=>by
  simp only[kM,cc]at h;rcases fe.1 a with e|a
  . grind
  . exact I6 h.2 a d f b c
section
variable {P:Program}{aB:Ctx}{nt kk:Nat}{N:Nat}{ops:Array Oper}{aZ:List cb}{E:Nat->Env}{T:Nat->a7}{G:Nat->Bool}{W:Nat->V}
theorem WS{i:Nat}{o:Oper}{x:cb}(a:ops[i]?=some o)(b:aZ[i]?=some x):(fi ops aZ)[i]?=some (x,hg o):=by
 unfold fi;grind
theorem M5(ah:aZ.length=ops.size)(K:tk (fi ops aZ)=true)(Y:ov xb P aZ N E T G W)(V:kM xb aZ (E aZ.length) N (lh (fi ops aZ))=true):
 Stat xb aZ (λi=>((ops[i]?).map hg).getD []) E N:=by
 simp only[tk,cc]at K;obtain⟨⟨U,L⟩,_⟩:=K;have g:∀i,i<aZ.length->∃o x,ops[i]?=some o/\aZ[i]?=some x/\(fi ops aZ)[i]?=some (x,hg o):=by
  intro i m;have v:ops[i]?=some ops[i]:=By (by omega);have a:aZ[i]?=some aZ[i]:=eF m;exact⟨_,_,v,a,WS v a⟩
 have ad:∀i j,ahead (fi ops aZ) j i=true->j<i/\j∈((ops[i]?).map hg).getD []:=by
  intro i j h;obtain⟨h1,y,q,ab⟩:=Zy h;refine⟨h1,?_⟩;have m:i<aZ.length:=by
   have:=(c7.1 q).1;unfold fi at this;simp at this;omega
  grind
 have M:∀(i j:Nat) (x y:cb) (d:Nat),aZ[i]?=some x->aZ[j]?=some y->y.dst=some d->(d∈x.rd->(j<i/\j∈((ops[i]?).map hg).getD [])\/(x.op.neutral=true/\x.op.ij=false/\i<j/\i∈((ops[j]?).map hg).getD []))/\(i=j\/x.dst≠some d):=by
  intro i j x y d a c ak;obtain⟨z,aa,I,p,r⟩:=g i (c7.1 a).1;obtain⟨A,R,J,f,s⟩:=g j (c7.1 c).1;rw[a]at p;cases p;rw[c]at f;cases f;simp only[RE,c0]at L;have h1:=L ((x,hg z),i) (eJ (i:=i) (by simp[BG,r]));have q:=h1 ((y,hg A),j) (eJ (i:=j) (by simp[BG,s]));grind
 refine⟨λi d m F=>?_,M,?_⟩
 . obtain⟨o,x,v,a,S⟩:=g i m;rw[v]at F;have:=G0 U S d F;omega
 ·
  have H:∀(i:Nat) (x:cb),aZ[i]?=some x->¬(x.op.neutral=true/\x.op.ij=false)->∀t,t∈x.op.reads->look (E aZ.length) t=look (E i) t:=by
   intro i x a ai t ht;have m:=(c7.1 a).1;refine vh Y (by omega) (ea _) λj y ae af c Z=>?_;rcases (M i j x y t a c Z).1 (KB ht)with h|h
   . omega
   grind
  have aj:∀i j,nI (ml (fi ops aZ) []) j i=true->j<i/\jq (λi=>((ops[i]?).map hg).getD []) j i:=by
   intro i j h;simp only[nI,cc,dq,List.contains_iff_mem]at h;refine⟨h.1,S6 (l:=fi ops aZ) (acc:=[]) (λk x a=>?_) (λi j B=>by simp at B) i j h.2⟩;have ag:k<aZ.length:=by
    have:=(c7.1 a).1;unfold fi at this;simp at this;omega
   grind
  have C:∀(i j:Nat) (x y:cb) (b:Nat),i≠j->aZ[i]?=some x->aZ[j]?=some y->cF xb x.op (E i) (N+16*i) b=true->b∈eh xb y.op (E j) (N+16*j)->nI (ml (fi ops aZ) []) i j=true\/nI (ml (fi ops aZ) []) j i=true:=by
   intro i j x y b u a c n e;by_cases h1:nI (ml (fi ops aZ) []) i j=true
   . grind
   . by_cases q:nI (ml (fi ops aZ) []) j i=true
     . grind
     . exfalso;obtain⟨z,aa,I,p,r⟩:=g i (c7.1 a).1;obtain⟨A,R,J,f,s⟩:=g j (c7.1 c).1;rw[a]at p;cases p;rw[c]at f;cases f;have ht:y.op.ij=true:=by
        cases h:y.op.ij with
        |true=>rfl
        |false=>rw[Yw h]at e;simp at e
       have X:(i,j)∈lh (fi ops aZ):=by
        simp only[lh,Ev,Fk];refine⟨((x,hg z),i),eJ (i:=i) (by simp[BG,r]),?_⟩;dsimp only;rw[J5 n];simp only[bK,bT,List.mem_filterMap];refine⟨((y,hg A),j),eJ (i:=j) (by simp[BG,s]),?_⟩;grind
       have:=I6 V X a c b (by rw[Zx (H j y c (λh=>by rw[ht]at h;cases h.2))];exact e);rw[Zw (H i x a (λh=>by rw[J5 n]at h;cases h.1))]at this;grind
  intro i j b u m B n e;obtain⟨z,x,I,a,r⟩:=g i m;obtain⟨A,y,J,c,s⟩:=g j B;have w:cF xb x.op (E i) (N+16*i) b=true:=by unfold ik at n;rw[a]at n;exact n
  have conv:(nI (ml (fi ops aZ) []) i j=true\/nI (ml (fi ops aZ) []) j i=true)->(i<j/\jq (λi=>((ops[i]?).map hg).getD []) i j)\/(j<i/\jq (λi=>((ops[i]?).map hg).getD []) j i):=by grind
  rcases e with⟨R,f,e⟩|e
  . rw[c]at f;cases f;exact conv (C i j x y b u a c w e)
  . have D:cF xb y.op (E j) (N+16*j) b=true:=by unfold ik at e;rw[c]at e;exact e
    cases Q:y.op.ij with
    |true=>exact conv (C i j x y b u a c w (I4 Q D))
    |false=>
     cases O:x.op.ij with
     |true=>exact conv (C j i y x b (dL u) c a D (I4 O w)).symm
     |false=>
      have h1:=M4 O w;have q:=M4 Q D;exfalso;omega
theorem Hy:∀{l m:List (Nat×Nat)},(∀p,p∈l->p∈m)->kM xb aZ env N m=true->kM xb aZ env N l=true
 |[],_,_,_=>rfl
 |(i,j)::r,m,hs,h=>by
  simp only[kM,cc];refine⟨?_,Hy (λp c=>hs p (Fa _ c)) h⟩
  have:∀ (m:List (Nat×Nat)),(i,j)∈m->kM xb aZ env N m = true->(match aZ[i]?,aZ[j]? with
   |some x,some y=>(eh xb y.op env (N+16*j)).all λb=>!(cF xb x.op env (N+16*i) b)
   |_,_=>true)=true:=by
   intro m;induction m with
   |nil=>intro h _;simp at h
   |cons q m ih=>
    intro d a;obtain⟨e,f⟩:=q;simp only[kM,cc]at a;grind
  grind
theorem Zz{l:List (cb×a6)}{p:Nat×Nat}(h:p∈lh l):p∈se l:=by
 unfold se;grind
theorem cu.oh{fZ:List (Nat×Nat)}{env:Env}{J:a7}{Q:Exit->Env->a7->Nat->Prop}(h:w6 xb P aZ N env J (λe s=>kM xb aZ e N fZ=true/\Q .normal e s (N+16*aZ.length))):cu P nt kk (.oh aZ fZ) env J N Q:=by
 intro code v aB φ S a w F R;obtain⟨id,ops,rfl,hres,B,A,rfl⟩:=Sf v;have c:=xS hres;simp at c;obtain⟨E,T,G,W,j,cY,t0,y,q⟩:=G5 h;refine wp_region_any A ?_;refine M2 (aB:=aB) (nt:=nt) (M5 c B j (Hy (λp D=>Zz D) y)) j hres (λi o f=>by simp[f]) (λφ S a w R'=>⟨φ,S,_,_,_,q,R'⟩) ops.size _ φ S env J a _ ?_ ?_
 . have:=List.countP_le_length (p:=λx:Bool=>x==false) (l:=(Array.replicate ops.size false).toList);grind
 . have R':Rel aB nt φ S env J (lt N) a {w with drawn:=w.drawn+1}:=R.drew;refine⟨R'.more λb u=>by simp[used,u],by simp[c],λi z ae=>?_,λt _=>by rw[cY],λt i o f ae=>?_,λb _=>by rw[t0],λb i z ae=>?_⟩
   . simp_all
   . exfalso;simp[Array.getElem?_replicate]at ae;split at ae<;>simp at ae
   simp_all
end
end
section
open Go
def D7(P:Program)(c:Code)(Q:Exit->Act->World->Prop)(a:Act)(w:World):Prop:=
 ∀(b:Frame) (k:List Item) (cs:List Frame),∃e d w',Q e d w'/\Arrives P (lone (b.at a (.code c:: .inLoop c::k)) cs w) b k cs e d w'
variable{Q:Exit->Act->World->Prop}{P:Program}{w:World}{a:Act}{c:dz}{φ:dE}{S:dT}{aB:Ctx}{D:Nat->Type}
theorem ZA{c:Code}(h:c.wp P (Exit.then (D7 P c Q) Q) a w):D7 P c Q a w:=by
 intro b k cs;obtain⟨e,g,i,f,d⟩:=h b (.inLoop c::k) cs;cases e with
 |normal=>
  obtain⟨m,j,p,o,n⟩:=f b k cs;exact⟨m,j,p,o,.of_steps (Steps.trans d (.one step_inLoop)) n⟩
 |exit id=>exact⟨_,g,i,f,.pass (x:= .inLoop c) rfl (λ_ _=>.inl (by simp)) d⟩
 |goto l=>exact⟨_,g,i,f,.pass (x:= .inLoop c) rfl (λ_ _=>.inl (by simp)) d⟩
 |ret=>exact⟨_,g,i,f,.pass (x:= .inLoop c) rfl (λ_ _=>.inl (by simp)) d⟩
 |panic q=>exact⟨_,g,i,f,.pass (x:= .inLoop c) rfl (λ_ _=>.inl (by simp)) d⟩
 |outgrown=>exact⟨_,g,i,f,.pass (x:= .inLoop c) rfl (λ_ _=>.inl (by simp)) d⟩
theorem Zq{c:Code}(h:D7 P c Q a w):(Code.loop c).wp P Q a w:=by
 intro b k cs;obtain⟨e,d,w',g,f⟩:=h b k cs;exact⟨e,d,w',g,.of_steps (.one step_loop) f⟩
section
variable {P:Program}{nt kk:Nat}{env env':Env}{J J':a7}{N N':Nat}{Q na:Exit->Env->a7->Nat->Prop}
def mb(P:Program)(nt kk:Nat)(c:dz)(env:Env)(J:a7)(N:Nat)(Q:Exit->Env->a7->Nat->Prop):Prop:=
 ∀code,resolve P nt code=some c->∀aB φ S a w,aB.k=kk->Rel aB nt φ S env J (lt N) a w->D7 P code (λe b w'=>∃d bQ env' J' N',Q e env' J' N'/\Rel aB nt d bQ env' J' (lt N') b w') a w
theorem mb.round(h:cu P nt kk c env J N (andThen (λenv J N=>mb P nt kk c env J N Q) Q)):mb P nt kk c env J N Q:=by
 intro code f aB φ S a w j R;refine ZA (wp_mono (h code f aB φ S a w j R) ?_)
 rintro e q w' ⟨p,bQ,env',J',N',o,R'⟩
 cases e with
 |normal=>exact o code f aB p bQ q w' j R'
 |_=>exact⟨p,bQ,env',J',N',o,R'⟩
theorem cu.af7(h:mb P nt kk c env J N Q):cu P nt kk (.loop c) env J N Q:=by
 intro code f aB φ S a w j R;obtain⟨b,rfl,e⟩:=Xm f;exact Zq (h b e aB φ S a w j R)
def Conv(kk N:Nat)(env:Env)(J:a7)(N':Nat)(env':Env)(J':a7):Prop:=
 ∀aB nt φ S a w,aB.k=kk->Rel aB nt φ S env J (lt N) a w->∃b bQ,Rel aB nt b bQ env' J' (lt N') a w
theorem Conv.refl:Conv kk N env J N env J:=λ_ _ φ S _ _ _ R=>⟨φ,S,R⟩
theorem Conv.trans{c e f:Nat}{aK j dn:Env}{s1 p q:a7}(h:Conv kk c aK s1 e j p)(k:Conv kk e j p f dn q):Conv kk c aK s1 f dn q:=
 λaB nt φ S a w o R=>let⟨t,bQ,R'⟩:=h aB nt φ S a w o R;k aB nt t bQ a w o R'
theorem cu.conv(f:Conv kk N env J N' env' J')(h:cu P nt kk c env' J' N' Q):cu P nt kk c env J N Q:=
 λcode j aB φ S a w e R=>let⟨o,bQ,R'⟩:=f aB nt φ S a w e R;h code j aB o bQ a w e R'
theorem mb.conv(f:Conv kk N env J N' env' J')(h:mb P nt kk c env' J' N' Q):mb P nt kk c env J N Q:=
 λcode j aB φ S a w e R=>let⟨o,bQ,R'⟩:=f aB nt φ S a w e R;h code j aB o bQ a w e R'
theorem Conv.tidy(ks bs:a6)(bS:bs.Nodup)(c:keeps kk bs=true):Conv kk N env J bs.length (nG bs env ks) (fq bs J 0 bs):=
 λaB nt φ S a w e R=>let⟨f,R'⟩:=R.tidy ks bs bS (by rw[e];exact c);⟨f,S,R'⟩
theorem Conv.freeze(b0:Nat){c:Nat}{es:List (List T)}(e:aV J b0=some (.arr c es)):Conv kk N env J N (qB b0 c es env) (mK b0 c es J):=
 λaB nt φ S a w f R=>⟨φ,_,R.freeze e⟩
def dx(c a:C):Prop:=(∀φ w S v,bk φ w S c v->bk φ w S a v)/\∀n,c.az n=true->a.az n=true
theorem dx.refl(c:C):dx c c:=⟨λ_ _ _ _ h=>h,λ_ h=>h⟩
theorem dx.dead(c:C):dx c .dead:=⟨λ_ _ _ _ h=>h.jj,λ_ _=>rfl⟩
theorem dx.aF:dx .aF (.t (.slice [])):=by
 refine⟨?_,λ_ _=>rfl⟩
 rintro φ w S v ⟨a,rfl⟩
 exact cd.slice [] a 0 0 0 0 (λ_ _=>undef) (by simp) (by simp) (by simp) (by simp) (by simp) (by simp)
inductive gj:V->V->Prop
 |c {x y}:dx x y->gj (.c x) (.c y)
 |agg {xs ys}:a8 dx xs ys->gj (.agg xs) (.agg ys)
 |aY (xs ys:List V) (ae:xs.length=ys.length) (h:∀(i:Nat) x y,xs[i]?=some x->ys[i]?=some y->gj x y):gj (.aY xs) (.aY ys)
theorem a8.comp{α e f:Type}{R:α->e->Prop}{R':e->f->Prop}{j:α->f->Prop}(h:∀a b c,R a b->R' b c->j a c):∀{l:List α} {m:List e} {k:List f},a8 R l m->a8 R' m k->a8 j l k
 |[],[],[],_,_=>.nil
 |_::_,_::_,_::_,.cons h1 o,.cons p q=>.cons (h _ _ _ h1 p) (a8.comp h o q)
theorem a8.flip{α c:Type}{R:α->c->Prop}{R':c->α->Prop}{l:List α}{m:List c}(h:a8 R l m)(k:∀a b,R a b->R' b a):a8 R' m l:=by
 induction h with
 |nil=>exact .nil
 |cons h _ ih=>exact .cons (k _ _ h) ih
theorem Pf{n:Nat->Bool}:∀{vs:List V},(∀(i:Nat) v,vs[i]?=some v->v.az n=true)->V.az.V.dF n vs=true
 |[],_=>rfl
 |v::vs,h=>by simp only[V.az.V.dF,cc];exact⟨h 0 v rfl,Pf λi x a=>h (i+1) x (by simpa using a)⟩
theorem gj.FB{v j:V}(h:gj v j):∀{x},ck φ w S v x->ck φ w S j x:=by
 induction h with
 |c h=>intro x e;cases e with|c e=>exact .c (h.1 _ _ _ _ e)
 |agg h=>
  intro x e;cases e with
  |agg e=>exact .agg (a8.comp (λa b c h1 f=>h1.1 _ _ _ _ f) (h.flip (R':=λb a=>dx a b) λ_ _ h=>h) e)
 |aY xs ys ae h ih=>
  intro x e;cases e with
  |aY _ o p f=>
   refine .aY _ o (by omega) ?_;grind
theorem gj.az{v o:V}(h:gj v o)(n:Nat->Bool):v.az n=true->o.az n=true:=by
 induction h with
 |c h=>intro e;exact h.2 n e
 | @agg xs ys h=>
  intro e;simp only[V.az,c0]at e⊢;intro c q;obtain⟨i,f,rfl⟩:=eS q;obtain⟨a,p,hs⟩:=(h.flip (R':=λb a=>dx a b) λ_ _ h=>h).get (eF f);exact hs.2 n (e a (eJ p))
 |aY xs ys ae h ih=>
  intro e;simp only[V.az]at e⊢;refine Pf λi v j=>?_;have f:i<xs.length:=by rw[ae];exact(c7.1 j).1
  exact ih i _ _ (eF f) j (nB e (eF f))
inductive jY:bO->bO->Prop
 |box {xs ys}:a8 dx xs ys->jY (.box xs) (.box ys)
 |arr {sz es}:jY (.arr sz es) (.arr sz es)
 |same {x}:jY x x
 |b8 {E c w1}:dx c w1->jY (.b8 E c) (.b8 E w1)
 |cA {sz es i o c w1}:dx c w1->jY (.cA sz es i o c) (.cA sz es i o w1)
def N0(env env':Env):Prop:=∀k g a,look env' k=some (g,a)->∃v,look env k=some (g,v)/\gj v a
def r4(J J':a7):Prop:=∀b a,aV J' b=some a->∃x,aV J b=some x/\jY x a
theorem jY.Fx{b:Nat}{x o:bO}(h:jY x o)(f:c3 φ w S b x):c3 φ w S b o:=by
 cases h with
 |arr=>exact f
 |same=>exact f
 |b8 h=>
  obtain⟨h0,⟨p,v,h1,e,j⟩,q⟩:=f;exact⟨h0,⟨p,v,h1,e,h.1 _ _ _ _ j⟩,q⟩
 |cA h=>
  obtain⟨h1,⟨vs,E,t,u,y,v,z,A⟩,B⟩:=f;exact⟨h1,⟨vs,E,t,u,y,v,z,h.1 _ _ _ _ A⟩,B⟩
 |box h=>
  obtain⟨h0,vs,E,h1,e,j⟩:=f;exact⟨h0,vs,E,h1,a8.comp (λa b c h1 e=>h1.1 _ _ _ _ e) (h.flip (R':=λb a=>dx a b) λ_ _ h=>h) e,j⟩
theorem jY.az{x c:bO}(h:jY x c)(n:Nat->Bool)(a:x.az n=true):c.az n=true:=by
 cases h with
 |arr=>exact a
 |same=>exact a
 |b8 h=>exact h.2 n a
 |cA h=>exact h.2 n a
 | @box xs ys h=>
  have:=gj.az (.agg h) n (by simpa[V.az,bO.az]using a);simpa[V.az,bO.az]using this
theorem Rel.weaken{n:Nat->Bool}(R:Rel aB nt φ S env J n a w)(he:N0 env env')(hs:r4 J J'):Rel aB nt φ S env' J' n a w:=by
 refine⟨⟨λb x e=>?_,λb j x y e p=>?_,R.bP.st⟩,λk g v ae ao=>?_,λk g v ae ao=>?_,λk g v ae ao=>?_,λb x e=>?_,R.size,R.defers,R.ext,λb x e=>?_,R.fix,R.fR⟩
 . obtain⟨f,h1,c⟩:=hs b x e;exact c.Fx (R.bP.blk b f h1)
 . obtain⟨f,h1,c⟩:=hs b x e;obtain⟨t,q,u⟩:=hs j y p;exact R.bP.inj b j f t h1 q
 . obtain⟨v0,h1,c⟩:=he k g v ae;obtain⟨x,e,o⟩:=R.gI k g v0 h1 ao;exact⟨x,e,c.FB o⟩
 . obtain⟨v0,h1,c⟩:=he k g v ae;exact R.hJ k g v0 h1 ao
 . obtain⟨v0,h1,c⟩:=he k g v ae;exact c.az n (R.gH k g v0 h1 ao)
 . obtain⟨f,h1,c⟩:=hs b x e;exact⟨(R.dP b f h1).1,c.az n (R.dP b f h1).2⟩
 . obtain⟨f,h1,c⟩:=hs b x e;exact R.own b f h1
theorem Conv.weaken(he:N0 env env')(hs:r4 J J'):Conv kk N env J N env' J':=λaB nt φ S a w _ R=>⟨φ,S,R.weaken he hs⟩
theorem Rel.E0(R:Rel aB nt φ S env J (lt N) a w){sz:Nat}(z:0<sz)(B:aB.k<=N):
 Rel aB nt (fG φ N (0,0)) S env (dd J N (.arr sz [])) (lt (N+1)) a w:=by
 have A:∀b,lt N b=true->fG φ N (0,0) b=φ b:=by
  intro b j;simp only[lt,dq]at j;simp only[fG];grind
 have o:∀b,lt N b=true->lt (N+1) b=true:=λb j=>M3 (by omega) j;have e:=R.zd A;have cp:(fG φ N (0,0) N).2=0:=by simp[fG]
 have f:∀b x,aV (dd J N (.arr sz [])) b=some x->(b=N/\x= .arr sz [])\/(b≠N/\aV J b=some x):=by
  intro b x c;rw[cX]at c;grind
 refine⟨⟨λb x c=>?_,λb q x y c p u h0 t=>?_,e.bP.st⟩,e.gI,e.hJ,λk g v ae ao=>V.hl o (e.gH k g v ae ao),λb x c=>?_,e.size,e.defers,e.ext,λb x c h0=>?_,e.fix,λb j=>by simp only[lt,dq];omega⟩
 . rcases f b x c with⟨rfl,rfl⟩|⟨_,c⟩
   . exact⟨by simp,by simp,by simp,z,λh=>absurd cp h⟩
   . exact e.bP.blk b x c
 . rcases f b x c with⟨rfl,rfl⟩|⟨_,c⟩
   . exact absurd cp h0
   . rcases f q y p with⟨rfl,rfl⟩|⟨_,p⟩
     . exact absurd cp t
     . exact e.bP.inj b q x y c p u h0 t
 . rcases f b x c with⟨rfl,rfl⟩|⟨_,c⟩
   . exact⟨by simp[lt],rfl⟩
   . exact⟨o b (e.dP b x c).1,bO.hl o (e.dP b x c).2⟩
 . rcases f b x c with⟨rfl,rfl⟩|⟨_,c⟩
   . exact absurd cp h0
   . exact e.own b x c h0
end
inductive aJ where
 |bool
 |int (k:IntKind)
 |str
 |slice (t:aJ)
 |nm (n:Nat)
def aJ.beq:aJ->aJ->Bool
 |.bool,.bool=>true
 |.int k,.int a=>decide (k=a)
 |.str,.str=>true
 |.slice r,.slice c=>aJ.beq r c
 |.nm n,.nm m=>Nat.beq n m
 |_,_=>false
theorem aJ.beq_eq:∀{a b:aJ},aJ.beq a b=true->a=b
 |.bool,.bool,_=>rfl
 |.int k,.int c,h=>by simp[aJ.beq]at h;rw[h]
 |.str,.str,_=>rfl
 |.slice r,.slice e,h=>by simp only[aJ.beq]at h;rw[aJ.beq_eq h]
 |.nm n,.nm m,h=>by simp only[aJ.beq]at h;rw[Nat.eq_of_beq_eq_true h]
 |.bool,.int _,h|.bool,.str,h|.bool,.slice _,h|.bool,.nm _,h=>by simp[aJ.beq]at h
 |.int _,.bool,h|.int _,.str,h|.int _,.slice _,h|.int _,.nm _,h=>by simp[aJ.beq]at h
 |.str,.int _,h|.str,.bool,h|.str,.slice _,h|.str,.nm _,h=>by simp[aJ.beq]at h
 |.slice _,.int _,h|.slice _,.str,h|.slice _,.bool,h|.slice _,.nm _,h=>by simp[aJ.beq]at h
 |.nm _,.int _,h|.nm _,.str,h|.nm _,.bool,h|.nm _,.slice _,h=>by simp[aJ.beq]at h
theorem aJ.beq_refl:∀(a:aJ),aJ.beq a a=true
 |.bool=>rfl
 |.int k=>by simp[aJ.beq]
 |.str=>rfl
 |.slice r=>by simp only[aJ.beq];exact aJ.beq_refl r
 |.nm n=>by simp only[aJ.beq];exact yn n
def aJ.dec(a b:aJ):Decidable (a=b):=
 match h:aJ.beq a b with
 |true=>.isTrue (aJ.beq_eq h)
 |false=>.isFalse λe=>by rw[e,aJ.beq_refl]at h;cases h
def aJ.den(D:Nat->Type):aJ->Type
 |.bool=>Bool
 |.int _=>Int
 |.str=>aj
 |.slice t=>List (aJ.den D t)
 |.nm n=>D n
structure Cell (D:Nat->Type) where
 ty:aJ
 val:ty.den D
def Cell.as{D:Nat->Type}(t:aJ)(c:Cell D):Option (t.den D):=
 match aJ.dec c.ty t with
 |.isTrue h=>some (Eq.rec (motive:=λt _=>aJ.den D t) c.val h)
 |.isFalse _=>none
variable{t:aJ}
theorem Cell.ky{c:Cell D}{x:t.den D}(h:c.as t=some x):c=⟨t,x⟩:=by
 obtain⟨u,v⟩:=c;unfold Cell.as at h;split at h
 . grind
 . cases h
theorem Cell.Pa{x:t.den D}:Cell.as t (⟨t,x⟩:Cell D)=some x:=by
 unfold Cell.as;split
 . rfl
 grind
def EM(D:Nat->Type)(enc:∀n,D n->List T):(t:aJ)->t.den D->List T
 |.bool,b=>[.bool b]
 |.int k,n=>[.int k n]
 |.str,s=>[.str s]
 |.slice t,l=>[.slice (List.map (EM D enc t) l)]
 |.nm n,x=>enc n x
def QR(D:Nat->Type)(enc:∀n,D n->List T):Cell D->T
 |⟨.bool,b⟩=>.bool b
 |⟨.int k,n⟩=>.int k n
 |⟨.str,s⟩=>.str s
 |⟨.slice t,l⟩=>.slice (List.map (EM D enc t) l)
 |⟨.nm _,_⟩=>.bool false
structure cK where
 D:Nat->Type
 kc:∀n,D n
 oM:∀n,D n->List (Cell D)
 make:∀n,List (Cell D)->Option (D n)
 de:Nat->List aJ
 enc:∀n,D n->List T
 QS:∀n x,enc n x=(oM n x).map (QR D enc)
 mk_eq:∀n l x,make n l=some x->oM n x=l
 RH:∀n x,(oM n x).map Cell.ty=de n
 pos:∀n,0<(de n).length
 RG:Nat->Option aJ:=λ_=>none
 own:List (List Bool×Nat×aJ):=[]
variable {U:cK}
abbrev cK.C(U:cK):=Cell U.D
abbrev aJ.d(U:cK)(t:aJ):=t.den U.D
def aJ.kc(U:cK):(t:aJ)->t.den U.D
 |.bool=>false
 |.int _=>(0:Int)
 |.str=>([]:aj)
 |.slice t=>([]:List (t.den U.D))
 |.nm n=>U.kc n
def aJ.xz:aJ->Bool
 |.nm _=>true
 |_=>false
def aJ.row(U:cK):(t:aJ)->t.den U.D->List (Cell U.D)
 |.bool,b=>[⟨.bool,b⟩]
 |.int k,n=>[⟨.int k,n⟩]
 |.str,s=>[⟨.str,s⟩]
 |.slice t,l=>[⟨.slice t,l⟩]
 |.nm n,x=>U.oM n x
def aJ.cells(U:cK):aJ->List aJ
 |.nm n=>U.de n
 |t=>[t]
def aJ.sz(U:cK)(t:aJ):Nat:=(t.cells U).length
def jj(U:cK)(t:aJ):List (Cell U.D)->Option (t.den U.D)
 |[c]=>c.as t
 |_=>none
def aJ.mk(U:cK):(t:aJ)->List (Cell U.D)->Option (t.den U.D)
 |.nm n,l=>U.make n l
 |.bool,l=>jj U .bool l
 |.int k,l=>jj U (.int k) l
 |.str,l=>jj U .str l
 |.slice t,l=>jj U (.slice t) l
variable{x:t.den U.D}
theorem C0{l:List (Cell U.D)}(h:jj U t l=some x):l=[⟨t,x⟩]:=by
 unfold jj at h;split at h
 . rw[Cell.ky h]
 . cases h
def Cell.enc(U:cK)(c:Cell U.D):T:=QR U.D U.enc c
def aJ.enc(U:cK)(t:aJ)(x:t.den U.D):List T:=EM U.D U.enc t x
theorem aJ.uH:t.enc U x=(t.row U x).map (Cell.enc U):=by
 cases t<;>first|rfl|skip
 case nm n=>exact U.QS n x
theorem aJ.agy:(t.row U x).map Cell.ty=t.cells U:=by
 cases t<;>first|rfl|skip
 case nm n=>exact U.RH n x
theorem aJ.RB:(t.row U x).length=t.sz U:=by
 rw[<-gA (f:=Cell.ty),aJ.agy];rfl
theorem aJ.si:(t.enc U x).length=t.sz U:=by
 rw[aJ.uH,gA,aJ.RB]
theorem aJ.wI:0<t.sz U:=by
 cases t<;>simp[aJ.sz,aJ.cells];exact U.pos _
theorem aJ.EY:∀{t:aJ} {l:List (Cell U.D)} {x:t.den U.D},t.mk U l=some x->t.row U x=l
 |.nm n,l,x,h=>U.mk_eq n l x h
 |.bool,l,x,h=>(C0 (t:= .bool) h).symm
 |.int k,l,x,h=>(C0 (t:= .int k) h).symm
 |.str,l,x,h=>(C0 (t:= .str) h).symm
 |.slice t,l,x,h=>(C0 (t:= .slice t) h).symm
def aJ.at(U:cK)(t:aJ)(l:List (t.den U.D))(i:Nat):t.den U.D:=l.getD i (t.kc U)
theorem zU{l:List (t.den U.D)}{i:Nat}(h:i<l.length):el (l.map (t.enc U)) i=t.enc U (t.at U l i):=by
 simp[el,aJ.at,List.getD,eF h]
end
section
open Go
variable {U:cK}
inductive bj (U:cK) where
 |t (c:Cell U.D)
 |ptr (b o:Nat)
 |cH (b:Nat)(t:aJ)(i o:Nat)
 |dO (t:aJ)(x:t.den U.D)(o:Nat)
 |arr (b:Nat)
 |sub (b n4 len:Nat)
 |pre (b h:Nat)
 |dH (b n4 len:Nat)
 |mp (b:Nat)
 |eg (b:Nat)
 |cI (b:Nat)
 |aF
 |e4
 |e3
 |fn (f:Nat)(caps:a6)
 |dead
inductive bz (U:cK) where
 |c (x:bj U)
 |agg (cs:List (bj U))
 |aY (vs:List (bz U))
inductive cP (U:cK) where
 |box (cs:List (bj U))
 |arr (t:aJ)(l:List (t.den U.D))
 |rows (sz:Nat)(r:List (List (bj U)))
 |set (ks:List aj)
 |buf (E:Nat)(s:aj)
 |b8 (E:Nat)(c:bj U)
 |cA (t:aJ)(l:List (t.den U.D))(i o:Nat)(c:bj U)
abbrev bU(U:cK):=List (Nat×bz U)
abbrev bf(U:cK):=List (Nat×cP U)
abbrev ev:=List (Nat×Nat×Bool)
def aX{α:Type}:List (Nat×α)->Nat->Option α
 |[],_=>none
 |(k,x)::r,i=>match Nat.beq k i with
  |true=>some x
  |false=>aX r i
def cE{α:Type}:List (Nat×α)->Nat->α->List (Nat×α)
 |[],b,x=>[(b,x)]
 |(k,y)::r,b,x=>match Nat.beq k b with
  |true=>(k,x)::r
  |false=>(k,y)::cE r b x
def dl{α:Type}:List (Nat×α)->Nat->List (Nat×α)
 |[],_=>[]
 |(k,y)::r,b=>match Nat.beq k b with
  |true=>dl r b
  |false=>(k,y)::dl r b
theorem cV{a b:Nat}(h:Nat.beq a b=true):a=b:=Nat.eq_of_beq_eq_true h
theorem hG{a b:Nat}(h:Nat.beq a b=false):a≠b:=λe=>by rw[e,yn]at h;cases h
variable{α:Type}
theorem hN(J:List (Nat×α))(b:Nat)(x:α)(i:Nat):aX (cE J b x) i=if b=i then some x else aX J i:=by
 induction J with
 |nil=>
  simp only[cE,aX];cases h:Nat.beq b i with
  |true=>simp[cV h]
  |false=>simp[hG h]
 |cons y r ih=>
  obtain⟨k,y⟩:=y;simp only[cE];cases h:Nat.beq k b with
  |true=>
   have:=cV h;subst this;simp only[aX];cases a:Nat.beq k i with
   |true=>simp[cV a]
   |false=>simp[hG a]
  |false=>
   simp only[aX,ih];grind
theorem n3(J:List (Nat×α))(b i:Nat):aX (dl J b) i=if b=i then none else aX J i:=by
 induction J with
 |nil=>simp[dl,aX]
 |cons y r ih=>
  obtain⟨k,y⟩:=y;simp only[dl];cases h:Nat.beq k b with
  |true=>
   have:=cV h;subst this;simp only[aX,ih];by_cases a:k=i
   . grind
   . rw[al a,al a];cases c:Nat.beq k i with
     |true=>exact absurd (cV c) a
     |false=>rfl
  |false=>
   simp only[aX,ih];grind
def D9:C->Option (bj U)
 |.t (.bool b)=>some (.t ⟨.bool,b⟩)
 |.t (.int k n)=>some (.t ⟨.int k,n⟩)
 |.t (.str s)=>some (.t ⟨.str,s⟩)
 |.aF=>some .aF
 |.e4=>some .e4
 |.e3=>some .e3
 |.dead=>some .dead
 |.fn f []=>some (.fn f [])
 |_=>none
def ou:List C->Option (List (bj U))
 |[]=>some []
 |c::cs=>match D9 c,ou cs with
  |some x,some xs=>some (x::xs)
  |_,_=>none
def wN:V->Option (bz U)
 |.c x=>match D9 x with
  |some y=>some (.c y)
  |none=>none
 |.agg cs=>match ou cs with
  |some ys=>some (.agg ys)
  |none=>none
 |.aY _=>none
def wG(gl:ev):Nat->Option (Nat×Bool)->Nat->Bool
 |0,_,_=>false
 |b+1,gd,k=>match aX gl k with
  |none=>true
  |some a=>match gd with
   |none=>false
   |some g=>(Nat.beq g.1 a.1&&(g.2==a.2))||wG gl b (aX gl g.1) k
def fa(env:bU U)(t:Nat)(b:Bool):Option Bool:=
 match aX env t with
 |some (.c (.t ⟨.bool,x⟩))=>some (match b with|true=>x|false=>!x)
 |_=>none
def lo(gl:ev)(env:bU U):Nat->Option (Nat×Bool)->Option Bool
 |_,none=>some true
 |0,some _=>none
 |a+1,some (t,b)=>match lo gl env a (aX gl t),fa env t b with
  |some x,some y=>some (x&&y)
  |_,_=>none
def qq:Nat:=200
def dg(gl:ev)(gd:Option (Nat×Bool))(env:bU U):aS->Option (bz U)
 |.const v=>wN v
 |.tmp k=>match wG gl qq gd k with
  |true=>aX env k
  |false=>none
def D'(gl:ev)(gd:Option (Nat×Bool))(env:bU U)(c:aS)(b:Bool):aS->Option (bz U)
 |.const v=>wN v
 |.tmp k=>match wG gl qq gd k with
  |true=>aX env k
  |false=>match c,aX gl k with
   |.tmp d,some (t,a)=>match Nat.beq t d&&(a==b)with
    |true=>aX env k
    |false=>none
   |_,_=>none
def kr(gl:ev)(gd:Option (Nat×Bool))(env:bU U):List aS->Option (List (bz U))
 |[]=>some []
 |x::r=>match dg gl gd env x,kr gl gd env r with
  |some v,some vs=>some (v::vs)
  |_,_=>none
def pI:bz U->Option (List (bj U))
 |.c x=>some [x]
 |.agg cs=>some cs
 |.aY _=>none
def wM(a:List (bj U))(off:Nat)(cs:List (bj U)):List (bj U):=a.take off++cs++a.drop (off+cs.length)
def zV(gl:ev)(gd:Option (Nat×Bool))(env:bU U):List (bj U)->List (Nat×Nat×aS)->Option (List (bj U))
 |a,[]=>some a
 |a,(off,n,x)::r=>match dg gl gd env x with
  |none=>none
  |some v=>match pI v with
   |none=>none
   |some cs=>match Nat.beq cs.length n&&Nat.ble (off+n) a.length with
    |true=>zV gl gd env (wM a off cs) r
    |false=>none
def bj.toT:bj U->Option T
 |.t c=>match c.ty.xz with
  |true=>none
  |false=>some (c.enc U)
 |.aF=>some (.slice [])
 |_=>none
def hV:List (bj U)->Option (List T)
 |[]=>some []
 |c::cs=>match c.toT,hV cs with
  |some t,some ts=>some (t::ts)
  |_,_=>none
def vO(gl:ev)(gd:Option (Nat×Bool))(env:bU U)(sz:Nat):List (List (bj U))->List (Nat×aS)->Option (List (List (bj U)))
 |rows,[]=>some rows
 |rows,(i,x)::r=>match dg gl gd env x with
  |none=>none
  |some v=>match pI v with
   |none=>none
   |some cs=>match hV cs with
    |none=>none
    |some _=>match Nat.beq cs.length sz&&Nat.ble (i+1) rows.length with
     |true=>vO gl gd env sz (rows.set i cs) r
     |false=>none
inductive fL (U:cK) where
 |ty (t:aJ)(l:List (t.den U.D))
 |rows (r:List (List (bj U)))
 |nil
def fL.len:fL U->Nat
 |.ty _ l=>l.length
 |.rows r=>r.length
 |.nil=>0
def iM:List aJ->List (bj U)->Option (List (Cell U.D))
 |[],[]=>some []
 |t::ts,.t c::cs=>match iM ts cs with
  |some l=>some (c::l)
  |none=>none
 |.slice t::ts,.aF::cs=>match iM ts cs with
  |some l=>some (⟨.slice t,([]:List (t.den U.D))⟩::l)
  |none=>none
 |_,_=>none
def qf(U:cK)(t:aJ)(cs:List (bj U)):Option (t.den U.D):=
 match iM (t.cells U) cs with
 |some l=>t.mk U l
 |none=>none
def l'(U:cK)(t:aJ):List (List (bj U))->Option (List (t.den U.D))
 |[]=>some []
 |r::a=>match qf U t r,l' U t a with
  |some x,some xs=>some (x::xs)
  |_,_=>none
def fL.as(t:aJ):fL U->Option (List (t.den U.D))
 |.ty u l=>Cell.as (.slice t) ⟨.slice u,l⟩
 |.rows r=>l' U t r
 |.nil=>some []
def fL.join:fL U->fL U->Option (fL U)
 |.nil,y=>some y
 |.ty t l,y=>match y.as t with
  |some a=>some (.ty t (l++a))
  |none=>none
 |.rows r,.ty t l=>match l' U t r with
  |some c=>some (.ty t (c++l))
  |none=>none
 |.rows r,.rows e=>some (.rows (r++e))
 |.rows r,.nil=>some (.rows r)
def fL.blk(sz:Nat):fL U->Option (cP U)
 |.ty t l=>match Nat.beq (t.sz U) sz with
  |true=>some (.arr t l)
  |false=>none
 |.rows r=>match r.all λx=>Nat.beq x.length sz with
  |true=>some (.rows sz r)
  |false=>none
 |.nil=>some (.rows sz [])
def rU(J:bf U):bz U->Option (fL U×Option Nat)
 |.c (.t ⟨.slice t,l⟩)=>some (.ty t l,none)
 |.c .aF=>some (.nil,none)
 |.c (.arr b)=>match aX J b with
  |some (.arr t l)=>some (.ty t l,some b)
  |some (.rows _ r)=>some (.rows r,some b)
  |_=>none
 |_=>none
def cP.df:cP U->Option (Nat×Nat)
 |.box _=>none
 |.arr t l=>some (t.sz U,l.length)
 |.rows sz r=>some (sz,r.length)
 |.set _=>none
 |.buf _ s=>some (1,s.length)
 |.b8 _ _=>none
 |.cA t l _ _ _=>some (t.sz U,l.length)
def RP(J:bf U)(b sz:Nat):Bool:=
 match aX J b with
 |some x=>(match x.df with|some p=>Nat.beq p.1 sz|none=>false)
 |none=>false
def room(bytes n:Nat):Bool:=decide ((2*n+192)*bytes<=j')&&decide (n<=eE)
def RM:BinOp->IntKind->IntKind->Int->Int->Option (Bool×Cell U.D)
 |.add,k,c,a,b=>if k=c then some (true,⟨.int k,k.wrap (a+b)⟩)else none
 |.sub,k,c,a,b=>if k=c then some (true,⟨.int k,k.wrap (a-b)⟩)else none
 |.mul,k,c,a,b=>if k=c then some (true,⟨.int k,k.wrap (a*b)⟩)else none
 |.quo,k,c,a,b=>if k=c then some (!decide (b=0),⟨.int k,k.wrap (a.tdiv b)⟩)else none
 |.rem,k,c,a,b=>if k=c then some (!decide (b=0),⟨.int k,a.tmod b⟩)else none
 |.and,k,c,a,b=>if k=c then some (true,⟨.int k,k.wrap (BitVec.ofInt k.bits a &&& BitVec.ofInt k.bits b).toNat⟩)else none
 |.or,k,c,a,b=>if k=c then some (true,⟨.int k,k.wrap (BitVec.ofInt k.bits a ||| BitVec.ofInt k.bits b).toNat⟩)else none
 |.xor,k,c,a,b=>if k=c then some (true,⟨.int k,k.wrap (BitVec.ofInt k.bits a ^^^ BitVec.ofInt k.bits b).toNat⟩)else none
 |.andNot,k,c,a,b=>if k=c then some (true,⟨.int k,k.wrap (BitVec.ofInt k.bits a &&& ~~~ BitVec.ofInt k.bits b).toNat⟩)else none
 |.shl,k,_,a,b=>some (decide (0<=b),⟨.int k,k.wrap (a*2^min b.toNat k.bits)⟩)
 |.shr,k,_,a,b=>some (decide (0<=b),⟨.int k,a.fdiv (2^min b.toNat k.bits)⟩)
 |.eql,k,c,a,b=>if k=c then some (true,⟨.bool,decide (a=b)⟩)else none
 |.neq,k,c,a,b=>if k=c then some (true,⟨.bool,!decide (a=b)⟩)else none
 |.lss,k,c,a,b=>if k=c then some (true,⟨.bool,decide (a<b)⟩)else none
 |.leq,k,c,a,b=>if k=c then some (true,⟨.bool,decide (a<=b)⟩)else none
 |.gtr,k,c,a,b=>if k=c then some (true,⟨.bool,decide (b<a)⟩)else none
 |.geq,k,c,a,b=>if k=c then some (true,⟨.bool,decide (b<=a)⟩)else none
def RN:BinOp->aj->aj->Option (Bool×Cell U.D)
 |.add,a,b=>some (decide (a.length+b.length<=ez),⟨.str,a++b⟩)
 |.eql,a,b=>some (true,⟨.bool,decide (a=b)⟩)
 |.neq,a,b=>some (true,⟨.bool,!decide (a=b)⟩)
 |.lss,a,b=>some (true,⟨.bool,Op.bytesLess a b⟩)
 |.leq,a,b=>some (true,⟨.bool,Op.bytesLess a b||decide (a=b)⟩)
 |.gtr,a,b=>some (true,⟨.bool,!(Op.bytesLess a b||decide (a=b))⟩)
 |.geq,a,b=>some (true,⟨.bool,!(Op.bytesLess a b)⟩)
 |_,_,_=>none
def Ih(op:BinOp):Cell U.D->Cell U.D->Option (Bool×Cell U.D)
 |⟨.int k,a⟩,⟨.int c,b⟩=>RM op k c a b
 |⟨.str,a⟩,⟨.str,b⟩=>RN op a b
 |_,_=>none
def fu(a b:Bool):Bool:=a==b
def hK(a b:Int):Bool:=decide (a=b)
def jA(a b:aj):Bool:=decide (a=b)
def aH(m:Int)(n:Nat):Bool:=decide (0<=m)&&decide (m.toNat<n)
def dU(b a:Int)(n:Nat):Bool:=decide (0<=b)&&(decide (b<=a)&&decide (a<=n))
def d'{α:Type}(l:List α)(b a:Int):List α:=(l.take a.toNat).drop b.toNat
def ix(a b:Int):Int:=Max.max a b
def jg(a b:Int):Int:=Min.min a b
def fr(s:aj)(m:Int):Int:=((s.getD m.toNat 0).toNat:Int)
def mF(m:Int):aj:=(Utf8.encode m).data.toList
def bV(k:IntKind)(m:Int):Int:=k.wrap m
def A2(a b:aj):aj:=a++b
def Il:Nat->Cell U.D->Cell U.D->Option Bool
 |0,⟨.bool,a⟩,⟨.bool,b⟩=>some (fu a b)
 |1,⟨.int k,a⟩,⟨.int c,b⟩=>if k=c then some (hK a b)else none
 |2,⟨.str,a⟩,⟨.str,b⟩=>some (jA a b)
 |_,_,_=>none
def AI:a6->List (bj U)->List (bj U)->Option Bool
 |[],[],[]=>some true
 |k::ks,.t x::xs,.t y::ys=>match Il k x y,AI ks xs ys with
  |some b,some r=>some (b&&r)
  |_,_=>none
 |_,_,_=>none
def qC(agg:Bool)(n:Nat)(cs:List (bj U))(o:Nat):Option (bz U):=
 match agg with
 |true=>match Nat.ble (o+n) cs.length with
  |true=>some (.agg ((cs.drop o).take n))
  |false=>none
 |false=>match cs[o]? with
  |some c=>some (.c c)
  |none=>none
def nZ(gl:ev)(gd:Option (Nat×Bool))(env:bU U):Option aS->Option (Option Int)
 |none=>some none
 |some x=>match dg gl gd env x with
  |some (.c (.t ⟨.int _,n⟩))=>some (some n)
  |_=>none
def AF:List (bz U)->Option a6
 |[]=>some []
 |.c (.ptr b 0)::r=>match AF r with
  |some l=>some (b::l)
  |none=>none
 |_=>none
abbrev adH(U:cK):=Option (Bool×bz U×bf U)
def rX(U:cK)(t:aJ)(l:List (t.den U.D))(i o:Nat)(cs:List (bj U)):Option (List (t.den U.D)):=
 match qf U t (wM ((t.row U (t.at U l i)).map .t) o cs)with
 |some x=>some (l.set i x)
 |none=>none
def AO(t:aJ):List (bj U)->Option (List (t.den U.D))
 |[]=>some []
 |.t c::r=>match c.as t,AO t r with
  |some x,some l=>some (x::l)
  |_,_=>none
 |_::_=>none
def N1:List (bj U)->Option ((t:aJ)×List (t.den U.D))
 |.t c::r=>match c.ty.xz,AO c.ty (.t c::r)with
  |false,some l=>some ⟨c.ty,l⟩
  |_,_=>none
 |_=>none
def strOf(l:aq):aj:=l.map λm=>UInt8.ofNat m.toNat
def wH(a len n:Nat):Bool:=decide (a+len<=n)
def Rj:List (bj U)->Option (bj U)
 |[.arr b]=>some (.arr b)
 |_=>none
def ct(gl:ev)(gd:Option (Nat×Bool))(env:bU U)(J:bf U)(n:Nat)(o:cJ):adH U:=
 match o with
 |.mov x=>match dg gl gd env x with
  |some v=>some (true,v,J)
  |none=>none
 |.pick c x y=>match dg gl gd env c,D' gl gd env c true x,D' gl gd env c false y with
  |some (.c (.t ⟨.bool,b⟩)),some (.c (.t ⟨.bool,p⟩)),some (.c (.t ⟨.bool,q⟩))=>some (true,.c (.t ⟨.bool,bif b then p else q⟩),J)
  |_,_,_=>none
 |.alloc cs=>match ou cs with
  |some xs=>some (true,.c (.ptr n 0),cE J n (.box xs))
  |none=>none
 |.allocA cs=>match ou cs with
  |some xs=>match N1 xs with
   |some ⟨t,l⟩=>some (true,.c (.ptr n 0),cE J n (.arr t l))
   |none=>none
  |none=>none
 |.idxP k x i=>match dg gl gd env x,dg gl gd env i with
  |some (.c (.ptr b 0)),some (.c (.t ⟨.int _,m⟩))=>match aX J b with
   |some (.arr t _)=>match Nat.beq (t.sz U) 1 with
    |true=>some (aH m k,.c (.cH b t (Int.toNat m) 0),J)
    |false=>none
   |_=>none
  |_,_=>none
 |.slcP k x d u=>match dg gl gd env x,nZ gl gd env d,nZ gl gd env u with
  |some (.c (.ptr b 0)),some l,some h=>
   some (dU (l.getD 0) (h.getD (k:Int)) k,.c (.sub b (Int.toNat (l.getD 0)) (Int.toNat (h.getD (k:Int))-Int.toNat (l.getD 0))),J)
  |_,_,_=>none
 |.b2s x=>match dg gl gd env x with
  |some (.c (.t ⟨.slice (.int .u8),l⟩))=>some (true,.c (.t ⟨.str,strOf l⟩),J)
  |some (.c .aF)=>some (true,.c (.t ⟨.str,[]⟩),J)
  |some (.c (.arr b))=>match aX J b with
   |some (.arr (.int .u8) l)=>some (true,.c (.t ⟨.str,strOf l⟩),J)
   |_=>none
  |some (.c (.sub b d len))=>match aX J b with
   |some (.arr (.int .u8) l)=>some (wH d len (List.length l),.c (.t ⟨.str,strOf ((l.drop d).take len)⟩),J)
   |_=>none
  |_=>none
 |.allocS e e8=>some (true,.c (.ptr n 0),cE (cE J (n+1) (.buf e8 [])) n (.b8 e (.cI (n+1))))
 |.bsliceT e sz len z parts=>match U.RG e with
  |none=>none
  |some t=>match ou z with
   |some j=>match hV j with
    |none=>none
    |some _=>match Nat.beq j.length sz with
     |false=>none
     |true=>match vO gl gd env sz (List.replicate len j) parts with
      |some rows=>match l' U t rows with
       |some l=>some (true,.c (.t ⟨.slice t,l⟩),J)
       |none=>none
      |none=>none
   |none=>none
 |.mkset=>some (true,.c (.mp n),cE J n (.set []))
 |.lkset x k=>match dg gl gd env x,dg gl gd env k with
  |some (.c (.mp b)),some (.c (.t ⟨.str,s⟩))=>match aX J b with
   |some (.set ks)=>some (true,.c (.t ⟨.bool,jf ks s⟩),J)
   |_=>none
  |_,_=>none
 |.upset x k=>match dg gl gd env x,dg gl gd env k with
  |some (.c (.mp b)),some (.c (.t ⟨.str,s⟩))=>match aX J b with
   |some (.set ks)=>some (true,.aY [],cE J b (.set (iT ks s)))
   |_=>none
  |_,_=>none
 |.appendB e bytes x y=>match dg gl gd env x,dg gl gd env y with
  |some (.c (.cI b)),some (.c (.t ⟨.str,s⟩))=>match aX J b with
   |some (.buf E l)=>match Nat.beq E e with
    |true=>some (room bytes (List.length l+List.length s),.c (.cI n),cE (dl J b) n (.buf e (A2 l s)))
    |false=>none
   |_=>none
  |_,_=>none
 |.sdata x=>match dg gl gd env x with
  |some (.c (.cI b))=>some (true,.c (.eg b),J)
  |_=>none
 |.ustr e x k=>match dg gl gd env x,dg gl gd env k with
  |some (.c (.eg b)),some (.c (.t ⟨.int .i64,m⟩))=>match aX J b with
   |some (.buf E l)=>match Nat.beq E e with
    |true=>some (hK m (List.length l:Int),.c (.t ⟨.str,l⟩),dl J b)
    |false=>none
   |_=>none
  |_,_=>none
 |.box x=>match dg gl gd env x with
  |some v=>match pI v with
   |some cs=>some (true,.c (.ptr n 0),cE J n (.box cs))
   |none=>none
  |none=>none
 |.build z parts=>match ou z with
  |some j=>match zV gl gd env j parts with
   |some cs=>some (true,.agg cs,J)
   |none=>none
  |none=>none
 |.bslice sz len z parts=>match ou z with
  |some j=>match hV j with
   |none=>none
   |some _=>match Nat.beq j.length sz with
    |false=>none
    |true=>match vO gl gd env sz (List.replicate len j) parts with
     |some rows=>some (true,.c (.arr n),cE J n (.rows sz rows))
     |none=>none
  |none=>none
 |.load agg k x=>match dg gl gd env x with
  |some (.c (.ptr b o))=>match aX J b with
   |some (.box cs)=>match qC agg k cs o with
    |some v=>some (true,v,J)
    |none=>none
   |some (.b8 _ c)=>match agg,o with
    |false,1=>some (true,.c c,J)
    |_,_=>none
   |_=>none
  |some (.c (.cH b t i o))=>match aX J b with
   |some (.arr g l)=>match Cell.as (.slice t) (⟨.slice g,l⟩:Cell U.D)with
    |some l=>match qC agg k ((t.row U (t.at U l i)).map .t) o with
     |some v=>some (decide (i<l.length),v,J)
     |none=>none
    |none=>none
   |some (.cA g l w A c)=>match agg with
    |true=>none
    |false=>match Nat.beq o A with
     |true=>match Nat.beq (t.sz U) (g.sz U)with
      |true=>some (decide (i=w),.c c,J)
      |false=>none
     |false=>match Cell.as (.slice t) (⟨.slice g,l⟩:Cell U.D)with
      |some l=>match qC false k ((t.row U (t.at U l i)).map .t) o with
       |some v=>some (decide (i<l.length),v,J)
       |none=>none
      |none=>none
   |_=>none
  |some (.c (.dO t x o))=>match qC agg k ((t.row U x).map .t) o with
   |some v=>some (true,v,J)
   |none=>none
  |_=>none
 |.store k x v=>match dg gl gd env x,dg gl gd env v with
  |some (.c (.ptr b o)),some v=>match pI v with
   |some cs=>match Nat.beq cs.length k with
    |true=>match aX J b with
     |some (.box ds)=>match Nat.ble (o+k) ds.length with
      |true=>some (true,.aY [],cE J b (.box (wM ds o cs)))
      |false=>none
     |some (.b8 e _)=>match o,cs with
      |1,[c]=>some (true,.aY [],cE J b (.b8 e c))
      |_,_=>none
     |_=>none
    |false=>none
   |none=>none
  |some (.c (.cH b t i o)),some v=>match pI v with
   |some cs=>match Nat.beq cs.length k&&Nat.ble (o+k) (t.sz U)with
    |true=>match aX J b with
     |some (.arr g l)=>match Cell.as (.slice t) (⟨.slice g,l⟩:Cell U.D)with
      |some l=>match Rj cs with
       |some c=>some (decide (i<l.length),.aY [],cE J b (.cA t l i o c))
       |none=>match rX U t l i o cs with
        |some G=>some (decide (i<l.length),.aY [],cE J b (.arr t G))
        |none=>none
      |none=>none
     |some (.cA g l w A I)=>match cs with
      |[c]=>match Nat.beq o A with
       |true=>match Nat.beq (t.sz U) (g.sz U)with
        |true=>some (decide (i=w),.aY [],cE J b (.cA g l w A c))
        |false=>none
       |false=>match Cell.as (.slice t) (⟨.slice g,l⟩:Cell U.D)with
        |some l=>match rX U t l i o [c]with
         |some G=>some (decide (i<l.length),.aY [],cE J b (.cA t G w A I))
         |none=>none
        |none=>none
      |_=>none
     |_=>none
    |false=>none
   |none=>none
  |_,_=>none
 |.nilCheck x=>match dg gl gd env x with
  |some (.c (.ptr b o))=>some (true,.c (.ptr b o),J)
  |some (.c (.cH b t i o))=>some (true,.c (.cH b t i o),J)
  |some (.c (.dO t x o))=>some (true,.c (.dO t x o),J)
  |_=>none
 |.bin op x y=>match dg gl gd env x,dg gl gd env y with
  |some (.c (.t p)),some (.c (.t q))=>match Ih op p q with
   |some (c,r)=>some (c,.c (.t r),J)
   |none=>none
  |_,_=>none
 |.eqAgg neg ks x y=>match dg gl gd env x,dg gl gd env y with
  |some (.agg p),some (.agg q)=>match AI ks p q with
   |some r=>some (true,.c (.t ⟨.bool,match neg with|true=>!r|false=>r⟩),J)
   |none=>none
  |_,_=>none
 |.eqBool neg x y=>match dg gl gd env x,dg gl gd env y with
  |some (.c (.t ⟨.bool,p⟩)),some (.c (.t ⟨.bool,q⟩))=>some (true,.c (.t ⟨.bool,match neg with|true=>!(fu p q)|false=>fu p q⟩),J)
  |_,_=>none
 |.not x=>match dg gl gd env x with
  |some (.c (.t ⟨.bool,b⟩))=>some (true,.c (.t ⟨.bool,!b⟩),J)
  |_=>none
 |.conv k x=>match dg gl gd env x with
  |some (.c (.t ⟨.int _,m⟩))=>some (true,.c (.t ⟨.int k,bV k m⟩),J)
  |_=>none
 |.i2s x=>match dg gl gd env x with
  |some (.c (.t ⟨.int _,m⟩))=>some (true,.c (.t ⟨.str,mF m⟩),J)
  |_=>none
 |.s2s x=>match dg gl gd env x with
  |some (.c (.t ⟨.str,s⟩))=>some (true,.c (.t ⟨.str,s⟩),J)
  |_=>none
 |.fldA off x=>match dg gl gd env x with
  |some (.c (.ptr b o))=>some (true,.c (.ptr b (o+off)),J)
  |some (.c (.cH b t i o))=>some (true,.c (.cH b t i (o+off)),J)
  |some (.c (.dO t x o))=>some (true,.c (.dO t x (o+off)),J)
  |_=>none
 |.fld agg off k x=>match dg gl gd env x with
  |some (.agg cs)=>match qC agg k cs off with
   |some v=>some (true,v,J)
   |none=>none
  |_=>none
 |.idxA sz x i=>match dg gl gd env x,dg gl gd env i with
  |some (.c (.t ⟨.slice t,l⟩)),some (.c (.t ⟨.int _,m⟩))=>match Nat.beq (t.sz U) sz with
   |true=>some (aH m l.length,.c (.dO t (t.at U l (Int.toNat m)) 0),J)
   |false=>none
  |some (.c (.arr b)),some (.c (.t ⟨.int _,m⟩))=>match aX J b with
   |some (.arr t l)=>match Nat.beq (t.sz U) sz with
    |true=>some (aH m l.length,.c (.cH b t (Int.toNat m) 0),J)
    |false=>none
   |_=>none
  |_,_=>none
 |.idxS x i=>match dg gl gd env x,dg gl gd env i with
  |some (.c (.t ⟨.str,s⟩)),some (.c (.t ⟨.int _,m⟩))=>some (aH m s.length,.c (.t ⟨.int .u8,fr s m⟩),J)
  |_,_=>none
 |.slcS x d u=>match dg gl gd env x,nZ gl gd env d,nZ gl gd env u with
  |some (.c (.t ⟨.str,s⟩)),some l,some h=>
   some (dU (l.getD 0) (h.getD (s.length:Int)) s.length,.c (.t ⟨.str,d' s (l.getD 0) (h.getD (s.length:Int))⟩),J)
  |_,_,_=>none
 |.slc sz x d u=>match dg gl gd env x,nZ gl gd env d,nZ gl gd env u with
  |some (.c (.t ⟨.slice t,s⟩)),some l,some h=>match Nat.beq (t.sz U) sz with
   |true=>some (dU (l.getD 0) (h.getD (s.length:Int)) s.length,.c (.t ⟨.slice t,d' s (l.getD 0) (h.getD (s.length:Int))⟩),J)
   |false=>none
  |some (.c (.arr b)),some none,some h=>match aX J b with
   |some (.arr t s)=>match Nat.beq (t.sz U) sz with
    |true=>some (dU 0 (h.getD (s.length:Int)) s.length,.c (.pre b (Int.toNat (h.getD (s.length:Int)))),J)
    |false=>none
   |_=>none
  |some (.c (.arr b)),some (some d),some h=>match aX J b with
   |some (.arr t s)=>match Nat.beq (t.sz U) sz with
    |true=>some (dU d (h.getD (s.length:Int)) s.length,.c (.dH b (Int.toNat d) (Int.toNat (h.getD (s.length:Int))-Int.toNat d)),J)
    |false=>none
   |_=>none
  |_,_,_=>none
 |.slc0 x=>match dg gl gd env x with
  |some (.c (.t ⟨.slice _,_⟩))=>some (true,.c .aF,J)
  |some (.c .aF)=>some (true,.c .aF,J)
  |some (.c (.arr _))=>some (true,.c .aF,J)
  |_=>none
 |.mkfn f caps=>match kr gl gd env caps with
  |some vs=>match AF vs with
   |some l=>some (true,.c (.fn f l),J)
   |none=>none
  |none=>none
 |.ext x i=>match dg gl gd env x with
  |some (.aY vs)=>match vs[i]? with
   |some v=>some (true,v,J)
   |none=>none
  |_=>none
 |.len str x=>match str,dg gl gd env x with
  |true,some (.c (.t ⟨.str,s⟩))=>some (true,.c (.t ⟨.int .i64,(s.length:Int)⟩),J)
  |false,some (.c (.cI b))=>match aX J b with
   |some (.buf _ s)=>some (true,.c (.t ⟨.int .i64,(s.length:Int)⟩),J)
   |_=>none
  |false,some v=>match rU J v with
   |some e=>some (true,.c (.t ⟨.int .i64,(e.1.len:Int)⟩),J)
   |none=>none
  |_,_=>none
 |.append sz bytes x y=>match dg gl gd env x,dg gl gd env y with
  |some (.c .aF),some v=>match rU J v with
   |some (B,_)=>match B.blk sz with
    |some blk=>some (room bytes B.len,.c (.arr n),cE J n blk)
    |none=>none
   |none=>none
  |some (.c (.arr b)),some v=>match rU J (.c (.arr b)),rU J v with
   |some (K,_),some (B,L)=>match (match L with|some C=>Nat.beq C b|none=>false)with
    |true=>none
    |false=>match RP J b sz with
     |false=>none
     |true=>match K.join B with
      |some H=>match H.blk sz with
       |some blk=>some (room bytes H.len,.c (.arr n),cE (dl J b) n blk)
       |none=>none
      |none=>none
   |_,_=>none
  |some (.c (.pre b h)),some (.c (.dH C d len))=>match Nat.beq b C with
   |true=>match aX J b with
    |some (.arr t l)=>match Nat.beq (t.sz U) sz with
     |true=>some (decide (h+len<=l.length)&&decide (d+len<=l.length),.c (.arr n),cE (dl J b) n (.arr t (l.take h++(l.drop d).take len)))
     |false=>none
    |_=>none
   |false=>none
  |_,_=>none
 |.max2 x y=>match dg gl gd env x,dg gl gd env y with
  |some (.c (.t ⟨.int k,a⟩)),some (.c (.t ⟨.int F,b⟩))=>if k=F then some (true,.c (.t ⟨.int k,ix a b⟩),J)else none
  |_,_=>none
 |.min2 x y=>match dg gl gd env x,dg gl gd env y with
  |some (.c (.t ⟨.int k,a⟩)),some (.c (.t ⟨.int F,b⟩))=>if k=F then some (true,.c (.t ⟨.int k,jg a b⟩),J)else none
  |_,_=>none
 |.eqNil .. |.call .. |.iI .. =>none
end
section
open Go
variable {U:cK}
inductive cg (N:Nat)(J:bf U):bj U->C->Prop
 |t (c:Cell U.D):cg N J (.t c) (.t (c.enc U))
 |ptr (b o:Nat):cg N J (.ptr b o) (.ptr b o)
 |cH (b:Nat) (t:aJ) (i o:Nat):cg N J (.cH b t i o) (.cH b (t.sz U) i o)
 |dO (t:aJ) (x:t.den U.D) (o:Nat):cg N J (.dO t x o) (.dO (t.enc U x) o)
 |arr (b sz n:Nat) (xx:b<N) (h:∀x,aX J b=some x->∀p,x.df=some p->p=(sz,n)):cg N J (.arr b) (.arr b sz 0 n)
 |sub (b n4 len:Nat):cg N J (.sub b n4 len) (.fx b 1 n4 len)
 |pre (b sz h:Nat) (xx:b<N) (afY:∀x,aX J b=some x->∀p,x.df=some p->p.1=sz):cg N J (.pre b h) (.arr b sz 0 h)
 |dH (b sz n4 len:Nat) (xx:b<N) (afY:∀x,aX J b=some x->∀p,x.df=some p->p.1=sz):cg N J (.dH b n4 len) (.fx b sz n4 len)
 |mp (b:Nat):cg N J (.mp b) (.mp b)
 |eg (b:Nat):cg N J (.eg b) (.eg b)
 |cI (b n:Nat) (xx:b<N) (h:∀x,aX J b=some x->∀p,x.df=some p->p=(1,n)):cg N J (.cI b) (.cI b n)
 |aF:cg N J .aF .aF
 |e4:cg N J .e4 .e4
 |e3:cg N J .e3 .e3
 |fn (f:Nat) (caps:a6):cg N J (.fn f caps) (.fn f caps)
 |dead (d:C):cg N J .dead d
inductive ca (N:Nat)(J:bf U):bz U->V->Prop
 |c {x d}:cg N J x d->ca N J (.c x) (.c d)
 |agg {xs ds}:a8 (cg N J) xs ds->ca N J (.agg xs) (.agg ds)
 |aY (xs:List (bz U)) (ds:List V) (ae:xs.length=ds.length) (h:∀(i:Nat) x d,xs[i]?=some x->ds[i]?=some d->ca N J x d):ca N J (.aY xs) (.aY ds)
inductive hW (N:Nat)(J:bf U):cP U->bO->Prop
 |box {cs ds}:a8 (cg N J) cs ds->hW N J (.box cs) (.box ds)
 |arr (t:aJ) (l:List (t.den U.D)):hW N J (.arr t l) (.arr (t.sz U) (l.map (t.enc U)))
 |set (ks:List aj):hW N J (.set ks) (.set ks)
 |buf (E:Nat) (s:aj):hW N J (.buf E s) (.buf E s)
 |b8 {E c d}:cg N J c d->hW N J (.b8 E c) (.b8 E d)
 |cA (t:aJ) (l:List (t.den U.D)) (i o:Nat) {c d}:cg N J c d->hW N J (.cA t l i o c) (.cA (t.sz U) (l.map (t.enc U)) i o d)
 |rows {sz r es}:a8 (λr e=>hV r=some e) r es->(∀x,x∈r->x.length=sz)->hW N J (.rows sz r) (.arr sz es)
def cx(N:Nat)(J:bf U)(J1:a7):Prop:=∀b x,aX J b=some x->b<N/\∃y,aV J1 b=some y/\hW N J x y
def c5(N:Nat)(J:bf U)(G:Nat->Bool)(env:bU U)(env1:Env):Prop:=∀k v,aX env k=some v->∃v1,look env1 k=some (G k,v1)/\ca N J v v1
structure gL (gl:ev)(env:bU U)(G:Nat->Bool):Prop where
 free:∀k,aX gl k=none->G k=true
 held:∀k t b,aX gl k=some (t,b)->∃y,fa env t b=some y/\G k=(G t&&y)
def dm(N:Nat)(J:bf U)(N':Nat)(J':bf U):Prop:=N<=N'/\∀b a,b<N->aX J' b=some a->∃x,aX J b=some x/\∀p,a.df=some p->x.df=some p
variable{J:bf U}{x:bj U}{v1:V}{t:aJ}{o:Nat}{v:bz U}{cs:List (bj U)}
theorem dm.refl{N:Nat}:dm N J N J:=⟨ea _,λ_ x _ h=>⟨x,h,λ_ h=>h⟩⟩
theorem dm.more{N N':Nat}(h:N<=N'):dm N J N' J:=⟨h,λ_ x _ h=>⟨x,h,λ_ h=>h⟩⟩
theorem dm.trans{a c e:Nat}{s1 j o:bf U}(h:dm a s1 c j)(k:dm c j e o):dm a s1 e o:=
 ⟨hP h.1 k.1,λb x f w=>let⟨y,h1,q⟩:=k.2 b x (lY f h.1) w;let⟨z,t,u⟩:=h.2 b y f h1;⟨z,t,λp v=>u p (q p v)⟩⟩
section
variable {N N':Nat}{J J':bf U}{J1:a7}{env:bU U}{env1:Env}{G:Nat->Bool}{gl:ev}{gd:Option (Nat×Bool)}
theorem cg.mono(k:dm N J N' J'){d:C}(h:cg N J x d):cg N' J' x d:=by
 cases h with
 |t c=>exact .t c
 |ptr b o=>exact .ptr b o
 |cH b t i o=>exact .cH b t i o
 |dO t x o=>exact .dO t x o
 |arr b sz n a h=>
  refine .arr b sz n (lY a k.1) λx e p q=>?_;obtain⟨y,h1,j⟩:=k.2 b x a e;grind
 |sub b u len=>exact .sub b u len
 |pre b sz n a h=>
  refine .pre b sz n (lY a k.1) λx e p q=>?_;obtain⟨y,h1,j⟩:=k.2 b x a e;grind
 |dH b sz u len a h=>
  refine .dH b sz u len (lY a k.1) λx e p q=>?_;obtain⟨y,h1,j⟩:=k.2 b x a e;exact h y h1 p (j p q)
 |mp b=>exact .mp b
 |eg b=>exact .eg b
 |cI b n a h=>
  refine .cI b n (lY a k.1) λx e p q=>?_;obtain⟨y,h1,j⟩:=k.2 b x a e;grind
 |aF=>exact .aF
 |e4=>exact .e4
 |e3=>exact .e3
 |fn f caps=>exact .fn f caps
 |dead d=>exact .dead d
theorem ca.mono(k:dm N J N' J'){x:bz U}{d:V}(h:ca N J x d):ca N' J' x d:=by
 induction h with
 |c h=>exact .c (h.mono k)
 |agg h=>exact .agg (h.imp λ_ _ _=>cg.mono k)
 |aY xs ds ae h ih=>exact .aY xs ds ae ih
theorem hW.mono(k:dm N J N' J'){x:cP U}{d:bO}(h:hW N J x d):hW N' J' x d:=by
 cases h with
 |box h=>exact .box (h.imp λ_ _ _=>cg.mono k)
 |arr t l=>exact .arr t l
 |set ks=>exact .set ks
 |buf E s=>exact .buf E s
 |b8 h=>exact .b8 (h.mono k)
 |cA t l i o h=>exact .cA t l i o (h.mono k)
 |rows h a=>exact .rows h a
theorem c5.mono(k:dm N J N' J')(h:c5 N J G env env1):c5 N' J' G env env1:=λi v c=>let⟨v1,h1,a⟩:=h i v c;⟨v1,h1,a.mono k⟩
theorem cx.put(h:cx N J J1){b:Nat}{x:cP U}{y:bO}(p:b<N')(k:dm N J N' (cE J b x))(q:hW N' (cE J b x) x y):cx N' (cE J b x) (dd J1 b y):=by
 intro c z a;rw[hN]at a;rw[cX];by_cases j:b=c
 . grind
 . rw[al j]at a⊢;obtain⟨h1,o,e,f⟩:=h c z a;exact⟨lY h1 k.1,o,e,f.mono k⟩
theorem lQ{x:cP U}(h:N<=N':=by omega):dm N J N' (cE J N x):=by
 refine⟨h,λb d c a=>?_⟩;rw[hN,bp]at a;grind
theorem nC{b:Nat}{x a:cP U}(h:N<=N')(h0:aX J b=some a)(f:∀p,x.df=some p->a.df=some p):dm N J N' (cE J b x):=by
 refine⟨h,λc g e d=>?_⟩;rw[hN]at d;grind
theorem tc{b:Nat}:dm N J N (dl J b):=by
 refine⟨ea _,λc e d a=>?_⟩;rw[n3]at a;grind
theorem I7{d:C}(h:D9 d=some x):cg N J x d:=by
 unfold D9 at h;split at h<;>cases h
 . exact cg.t (U:=U) ⟨.bool,_⟩
 . exact cg.t (U:=U) ⟨.int _,_⟩
 . exact cg.t (U:=U) ⟨.str,_⟩
 . exact .aF
 . exact .e4
 . exact .e3
 . exact .dead _
 . exact .fn _ _
theorem tK:∀{ds:List C} {xs:List (bj U)},ou ds=some xs->a8 (cg N J) xs ds
 |[],xs,h=>by simp[ou]at h;subst h;exact .nil
 |d::ds,xs,h=>by
  simp only[ou]at h;split at h
  . rename_i x ys h1 a;cases h;exact .cons (I7 h1) (tK a)
  . cases h
theorem I8{d:V}{x:bz U}(h:wN d=some x):ca N J x d:=by
 cases d with
 |c d=>
  simp only[wN]at h;split at h
  . rename_i y a;cases h;exact .c (I7 a)
  . cases h
 |agg ds=>
  simp only[wN]at h;split at h
  . rename_i y a;cases h;exact .agg (tK a)
  . cases h
 |aY _=>simp[wN]at h
def cG(env:bU U)(G:Nat->Bool):Option (Nat×Bool)->Bool
 |none=>true
 |some (t,b)=>G t&&(fa env t b).getD false
theorem gL.aX(ao:gL gl env G)(k:Nat):cG env G (aX gl k)=G k:=by
 cases h:Shv.aX gl k with
 |none=>exact(ao.free k h).symm
 |some g=>
  obtain⟨t,b⟩:=g;obtain⟨y,h1,a⟩:=ao.held k t b h;simp[cG,h1,a]
theorem CM(ao:gL gl env G):∀{a:Nat} {gd:Option (Nat×Bool)} {g:Bool},lo gl env a gd=some g->g=cG env G gd
 |_,none,g,h=>by unfold lo at h;simp at h;subst h;rfl
 |0,some _,g,h=>by simp[lo]at h
 |a+1,some (t,b),g,h=>by
  simp only[lo]at h;split at h
  . rename_i x y h1 c;cases h;rw[CM ao h1,ao.aX t];simp[cG,c]
  . cases h
theorem aad:∀{a:Nat} {t:Nat} {b:Bool} {g:Bool},lo gl env a (some (t,b))=some g->∃y,fa env t b=some y
 |0,t,b,g,h=>by simp[lo]at h
 |a+1,t,b,g,h=>by
  simp only[lo]at h;grind
theorem ca.dY(h:ca N J (.c x) v1):∃d,v1= .c d/\cg N J x d:=by cases h with|c h=>exact⟨_,rfl,h⟩
theorem ca.r6{xs:List (bj U)}(h:ca N J (.agg xs) v1):∃ds,v1= .agg ds/\a8 (cg N J) xs ds:=by cases h with|agg h=>exact⟨_,rfl,h⟩
theorem ca.wJ{c:Cell U.D}(h:ca N J (.c (.t c)) v1):v1= .c (.t (c.enc U)):=by obtain⟨d,rfl,aa⟩:=h.dY;cases aa;rfl
theorem ca.ju{b:Bool}(h:ca N J (.c (.t ⟨.bool,b⟩)) v1):v1= .c (.t (.bool b)):=h.wJ
theorem ca.gq{k:IntKind}{m:Int}(h:ca N J (.c (.t ⟨.int k,m⟩)) v1):v1= .c (.t (.int k m)):=h.wJ
theorem ca.kp{s:aj}(h:ca N J (.c (.t ⟨.str,s⟩)) v1):v1= .c (.t (.str s)):=h.wJ
theorem ca.ko{l:List (t.den U.D)}(h:ca N J (.c (.t ⟨.slice t,l⟩)) v1):v1= .c (.t (.slice (l.map (t.enc U)))):=h.wJ
theorem ca.hR{b:Nat}(h:ca N J (.c (.ptr b o)) v1):v1= .c (.ptr b o):=by obtain⟨d,rfl,aa⟩:=h.dY;cases aa;rfl
theorem ca.je{b i:Nat}(h:ca N J (.c (.cH b t i o)) v1):v1= .c (.cH b (t.sz U) i o):=by obtain⟨d,rfl,aa⟩:=h.dY;cases aa;rfl
theorem ca.ER{x:t.den U.D}(h:ca N J (.c (.dO t x o)) v1):v1= .c (.dO (t.enc U x) o):=by obtain⟨d,rfl,aa⟩:=h.dY;cases aa;rfl
theorem ca.uy(h:ca N J (.c .aF) v1):v1= .c .aF:=by obtain⟨d,rfl,aa⟩:=h.dY;cases aa;rfl
theorem ca.hb{b:Nat}(h:ca N J (.c (.arr b)) v1):∃sz n,v1= .c (.arr b sz 0 n)/\b<N/\∀x,Shv.aX J b=some x->∀p,x.df=some p->p=(sz,n):=by
 obtain⟨d,rfl,aa⟩:=h.dY;cases aa with
 |arr _ sz n e a=>exact⟨_,_,rfl,e,a⟩
theorem ca.EZ{b:Nat}(h:ca N J (.c (.mp b)) v1):v1= .c (.mp b):=by obtain⟨d,rfl,aa⟩:=h.dY;cases aa;rfl
theorem ca.RD{b:Nat}(h:ca N J (.c (.eg b)) v1):v1= .c (.eg b):=by obtain⟨d,rfl,aa⟩:=h.dY;cases aa;rfl
theorem ca.A0{b:Nat}(h:ca N J (.c (.cI b)) v1):∃n,v1= .c (.cI b n)/\b<N/\∀x,Shv.aX J b=some x->∀p,x.df=some p->p=(1,n):=by
 obtain⟨d,rfl,aa⟩:=h.dY;cases aa with
 |cI _ n e a=>exact⟨_,rfl,e,a⟩
theorem ca.EN{f:Nat}{caps:a6}(h:ca N J (.c (.fn f caps)) v1):v1= .c (.fn f caps):=by
 obtain⟨d,rfl,aa⟩:=h.dY;cases aa;rfl
theorem aae{t:Nat}{b y:Bool}(he:c5 N J G env env1)(h:fa env t b=some y):∃x,look env1 t=some (G t,.c (.t (.bool x)))/\y=(x==b):=by
 unfold fa at h;split at h
 . rename_i x d;cases h;obtain⟨v1,h1,a⟩:=he t _ d;have:=a.ju;grind
 . cases h
theorem Cx(he:c5 N J G env env1)(h:gd=none\/∃t b y,gd=some (t,b)/\fa env t b=some y):fP env1 gd=some (cG env G gd):=by
 rcases h with rfl|⟨t,b,y,rfl,h⟩
 . rfl
 . obtain⟨x,h1,rfl⟩:=aae he h;simp[fP,h1,cG,h]
theorem CN(ao:gL gl env G):∀{d:Nat} {gd:Option (Nat×Bool)} {k:Nat},cG env G gd=true->wG gl d gd k=true->G k=true
 |0,gd,k,_,h=>by simp[wG]at h
 |d+1,gd,k,a,h=>by
  simp only[wG]at h;split at h
  . rename_i c;exact ao.free k c
  . rename_i e c;split at h
    . cases h
    . rename_i g;obtain⟨t,b⟩:=g;obtain⟨m,l⟩:=e;simp only[hO,cc,iP]at h;rcases h with⟨h1,f⟩|h
      . have:=cV h1;subst this;subst f;obtain⟨y,i,j⟩:=ao.held k t b c;simp only[cG,i,lu]at a;rw[j,a]
      . refine CN ao (gd:=Shv.aX gl t) ?_ h;rw[ao.aX t];simp only[cG,cc]at a;exact a.1
theorem cv(he:c5 N J G env env1)(ao:gL gl env G){x:aS}(h:dg gl gd env x=some v):
 ∃p v1,x.get env1=some (p,v1)/\ca N J v v1/\(cG env G gd=true->p):=by
 cases x with
 |const d=>exact⟨True,d,rfl,I8 h,λ_=>trivial⟩
 |tmp k=>
  simp only[dg]at h;split at h
  . rename_i hs;obtain⟨v1,h1,a⟩:=he k v h;exact⟨_,v1,by simp[aS.get,h1],a,λb=>CN ao b hs⟩
  . cases h
theorem J6(he:c5 N J G env env1)(ao:gL gl env G){c x:aS}{b y:Bool}{j:bz U}(a:dg gl gd env c=some j)(n:j= .c (.t ⟨.bool,y⟩))(h:D' gl gd env c b x=some v):
 ∃p v1,x.get env1=some (p,v1)/\ca N J v v1/\(cG env G gd=true->y=b->p):=by
 cases x with
 |const d=>exact⟨True,d,rfl,I8 h,λ_ _=>trivial⟩
 |tmp k=>
  simp only[D']at h;split at h
  . rename_i hs;obtain⟨v1,h1,e⟩:=he k v h;exact⟨_,v1,by simp[aS.get,h1],e,λf _=>CN ao f hs⟩
  . split at h
    . rename_i s t l o;split at h
      . rename_i i;simp only[cc,iP]at i;obtain⟨h1,rfl⟩:=i;have:=cV h1;subst this;obtain⟨v1,h1,e⟩:=he k v h;refine⟨G k=true,v1,by simp[aS.get,h1],e,λf q=>?_⟩;simp only[dg]at a;split at a
        . rename_i hs;have m:=CN ao f hs;obtain⟨u,g,r⟩:=ao.held k t l o;simp only[fa,a,n]at g;rw[r,m];subst q;cases y<;>simp at g<;>simp[<-g]
        . cases a
      . cases h
    . cases h
theorem s6(he:c5 N J G env env1)(ao:gL gl env G):∀{xs:List aS} {vs:List (bz U)},kr gl gd env xs=some vs->
 ∃p vs1,hp env1 xs=some (p,vs1)/\a8 (ca N J) vs vs1/\(cG env G gd=true->p)
 |[],vs,h=>by simp[kr]at h;subst h;exact⟨True,[],rfl,.nil,λ_=>trivial⟩
 |x::xs,vs,h=>by
  simp only[kr]at h;split at h
  . rename_i v c h1 b;cases h;obtain⟨p,v1,a1,a2,a3⟩:=cv he ao h1;obtain⟨q,vs1,b1,b2,b3⟩:=s6 he ao b;exact⟨p/\q,v1::vs1,by simp[hp,a1,b1],.cons a2 b2,λa=>⟨a3 a,b3 a⟩⟩
  . cases h
theorem pW(h:ca N J v v1)(a:pI v=some cs):∃ds,pH v1=some ds/\a8 (cg N J) cs ds:=by
 cases h with
 |c h=>simp[pI]at a;subst a;exact⟨_,rfl,.cons h .nil⟩
 |agg h=>simp[pI]at a;subst a;exact⟨_,rfl,h⟩
 |aY=>simp[pI]at a
theorem Gv{a:List (bj U)}{ds b:List C}(h:a8 (cg N J) cs ds)(c:a8 (cg N J) a b):a8 (cg N J) (wM cs o a) (oL ds o b):=by
 unfold wM oL;rw[c.length];exact((h.take o).append c).append (h.drop _)
theorem h5{a b:Nat}(h:Nat.ble a b=true):a<=b:=BE h
theorem SL(he:c5 N J G env env1)(ao:gL gl env G):∀{ps:List (Nat×Nat×aS)} {cs b:List (bj U)} {ds:List C},zV gl gd env cs ps=some b->a8 (cg N J) cs ds->
 ∃p c,lj env1 ds ps=some (p,c)/\a8 (cg N J) b c/\(cG env G gd=true->p)
 |[],cs,b,ds,h,a=>by simp[zV]at h;subst h;exact⟨True,ds,rfl,a,λ_=>trivial⟩
 |(o,n,x)::r,cs,b,ds,h,a=>by
  simp only[zV]at h;split at h
  . cases h
  . rename_i v l;split at h
    . cases h
    . rename_i es k;split at h
      . rename_i d;simp only[cc]at d;have i:=cV d.1;have j:=h5 d.2;obtain⟨p,v1,a1,a2,a3⟩:=cv he ao l;obtain⟨fs,b1,b2⟩:=pW a2 k;obtain⟨q,c,e,f,g⟩:=SL he ao h (Gv (o:=o) a b2);refine⟨p/\q,c,?_,f,λa=>⟨a3 a,g a⟩⟩;simp only[lj,a1,ak,b1];rw[ad ⟨by rw[<-b2.length];exact i,by rw[<-a.length];exact j⟩,e];rfl
      . cases h
theorem ZB{d:C}{t:T}(h:cg N J x d)(ht:x.toT=some t):Shv.toT d=some t:=by
 cases h<;>simp only[bj.toT,reduceCtorEq,bG]at ht
 . split at ht
   . cases ht
   . cases ht;rfl
 . subst ht;rfl
theorem Dy:∀{cs:List (bj U)} {ds:List C} {ts:List T},a8 (cg N J) cs ds->hV cs=some ts->toTs ds=some ts
 |[],[],ts,_,h=>by simp[hV]at h;subst h;rfl
 |c::cs,d::ds,ts,.cons h1 a,h=>by
  simp only[hV]at h;split at h
  . rename_i t e ht b;cases h;simp[toTs,ZB h1 ht,Dy a b]
  . cases h
theorem Hz:∀{cs:List (bj U)} {ts:List T},hV cs=some ts->ts.length=cs.length
 |[],ts,h=>by simp[hV]at h;subst h;rfl
 |c::cs,ts,h=>by
  simp only[hV]at h;split at h
  . rename_i t b ht a;cases h;simp[Hz a]
  . cases h
theorem a8.set{α c:Type}{R:α->c->Prop}{l:List α}{m:List c}(h:a8 R l m){i:Nat}{a:α}{b:c}(f:R a b):a8 R (l.set i a) (m.set i b):=by
 induction h generalizing i with
 |nil=>exact .nil
 |cons h1 e ih=>cases i with
  |zero=>exact .cons f e
  |succ i=>exact .cons h1 ih
theorem Gk(he:c5 N J G env env1)(ao:gL gl env G){sz:Nat}:∀{ps:List (Nat×aS)} {a b:List (List (bj U))} {es:List (List T)},vO gl gd env sz a ps=some b->
 a8 (λr e=>hV r=some e) a es->(∀r,r∈a->r.length=sz)->∃p es',jN env1 sz es ps=some (p,es')/\a8 (λr e=>hV r=some e) b es'/\(∀r,r∈b->r.length=sz)/\(cG env G gd=true->p)
 |[],a,b,es,h,c,ae=>by simp[vO]at h;subst h;exact⟨True,es,rfl,c,ae,λ_=>trivial⟩
 |(i,x)::ps,a,b,es,h,c,ae=>by
  simp only[vO]at h;split at h
  . cases h
  . rename_i v s;split at h
    . cases h
    . rename_i cs o;split at h
      . cases h
      . rename_i ts f;split at h
        . rename_i d;simp only[cc]at d;have n:=cV d.1;have t:=h5 d.2;obtain⟨p,v1,a1,a2,a3⟩:=cv he ao s;obtain⟨ds,b1,b2⟩:=pW a2 o;obtain⟨q,es',j,k,m,l⟩:=Gk he ao h (a8.set c f) (by grind);refine⟨p/\q,es',?_,k,m,λg=>⟨a3 g,l g⟩⟩;simp only[jN,a1,ak,b1,Dy b2 f];rw[ad ⟨by rw[Hz f];exact n,by rw[<-c.length];omega⟩,j];rfl
        . cases h
end
end
section
open Go
variable {U:cK}
structure dX (N:Nat)(J:bf U)(J1:a7)(o:cJ)(env1:Env)(g c:Bool)(v:bz U)(J':bf U):Prop where
 val:∃v1,ca (N+16) J' v v1/\(g=true->c=true->∃p bn,aR o env1 J1 N=some (p,v1,bn)/\p/\cx (N+16) J' bn)
 ahn:dm N J (N+16) J'
 agb:o.neutral=true->J'=J
variable{v1:V}{o:cJ}{ds z:List C}{agg neg:Bool}{cs:List (bj U)}{α:Type}{t:aJ}{ts:List T}{op:BinOp}{J1:a7}{x y:aS}{off e:Nat}{es:List (List T)}{R:α->α->Prop}
section
variable {N N':Nat}{J J':bf U}{J1:a7}{env:bU U}{env1:Env}{G:Nat->Bool}{gl:ev}{gd:Option (Nat×Bool)}{c:Bool}{v:bz U}
theorem cx.mono(h:cx N J J1)(cp:N<=N'):cx N' J J1:=λb x e=>
 let⟨h1,y,a,c⟩:=h b x e;⟨lY h1 cp,y,a,c.mono (dm.more cp)⟩
theorem dX.neutral{g:Bool}(aE:cx N J J1)(j:ca N J v v1)(e:g=true->c=true->∃p,aR o env1 J1 N=some (p,v1,J1)/\p):dX N J J1 o env1 g c v J:=
 ⟨⟨v1,j.mono (dm.more (by omega)),λao f=>let⟨p,h1,a⟩:=e ao f;⟨p,J1,h1,a,aE.mono (by omega)⟩⟩,dm.more (by omega),λ_=>rfl⟩
theorem dX.store{g:Bool}(aD:o.neutral=false)(e:dm N J (N+16) J')(f:ca (N+16) J' v v1)(a:g=true->c=true->∃p bn,aR o env1 J1 N=some (p,v1,bn)/\p/\cx (N+16) J' bn):dX N J J1 o env1 g c v J':=
 ⟨⟨v1,f,a⟩,e,λh=>by rw[aD]at h;cases h⟩
theorem uZ{k o:Nat}(a:a8 (cg N J) cs ds)(h:qC agg k cs o=some v):∃v1,jQ agg k ds o=some v1/\ca N J v v1:=by
 unfold qC at h;split at h
 . split at h
   . rename_i e;cases h;refine⟨_,by simp only[jQ,bJ];rw[ad (by rw[<-a.length];exact h5 e)],.agg ((a.drop o).take k)⟩
   . cases h
 . split at h
   . rename_i x f;cases h;obtain⟨d,h1,b⟩:=a.get f;exact⟨_,by simp[jQ,h1],.c b⟩
   . cases h
theorem a8.map_map{c e j:Type}{R:e->j->Prop}{f:α->e}{g:c->j}:∀{l:List α} {m:List c},a8 (λa b=>R (f a) (g b)) l m->a8 R (l.map f) (m.map g)
 |[],[],_=>.nil
 |_::_,_::_,.cons h1 o=>.cons h1 (a8.map_map o)
theorem a8.self(h:∀a,R a a):∀(l:List α),a8 R l l
 |[]=>.nil
 |a::l=>.cons (h a) (a8.self h l)
theorem yU{x:t.den U.D}:a8 (cg N J) ((t.row U x).map .t) ((t.enc U x).map .t):=by
 rw[aJ.uH,List.map_map];exact a8.map_map (a8.self (R:=λa b=>cg N J (.t a) (.t (b.enc U))) (λc=>cg.t c) _)
theorem Hd{k o:Nat}{v:V}(ae:jQ agg k (ts.map .t) o=some v):loadT agg k ts o=some v:=by
 unfold jQ at ae;unfold loadT;cases agg with
 |true=>simpa using ae
 |false=>simpa[Option.map_map]using ae
theorem Zr{p q:Cell U.D}{r:Cell U.D}(h:Ih op p q=some (c,r)):∃d,k2 op (p.enc U) (q.enc U)=some (d,r.enc U)/\(c=true->d):=by
 unfold Ih at h;split at h
 . rename_i k a e b;show ∃d,k2 op (.int k a) (.int e b)=some (d,r.enc U)/\(c=true->d);cases op<;>simp only[RM,reduceCtorEq,dC,bG,bE]at h
   all_goals first
    |(obtain⟨rfl,rfl,rfl⟩:=h;exact⟨_,by simp only[k2,bJ];rfl,λh=>by simpa using h⟩)
    |(obtain⟨rfl,rfl⟩:=h;exact⟨_,by simp only[k2];rfl,λh=>by simpa using h⟩)
    |(obtain⟨rfl,rfl,rfl⟩:=h;exact⟨_,by simp only[k2,bJ];rfl,λh=>trivial⟩)
 . rename_i a b;show ∃d,k2 op (.str a) (.str b)=some (d,r.enc U)/\(c=true->d);cases op<;>simp only[RN,reduceCtorEq,bG,bE]at h
   all_goals first
    |(obtain⟨rfl,rfl⟩:=h;exact⟨_,by simp only[k2];rfl,λh=>by simpa using h⟩)
    |(obtain⟨rfl,rfl⟩:=h;exact⟨_,by simp only[k2];rfl,λh=>trivial⟩)
 . cases h
theorem YJ{k:Nat}{x y:Cell U.D}{b:Bool}(h:Il k x y=some b):Bn k (x.enc U) (y.enc U)=some b:=by
 unfold Il at h;split at h
 . cases h;rfl
 . simp only[dC,bG]at h;obtain⟨rfl,rfl⟩:=h;show(if _ then _ else _)=_;rw[ad rfl];rfl
 . cases h;rfl
 . cases h
theorem S7:∀{ks:a6} {xs ys:List (bj U)} {ds es:List C} {b:Bool},AI ks xs ys=some b->a8 (cg N J) xs ds->a8 (cg N J) ys es->sj ks ds es=some b
 |[],[],[],[],[],b,h,.nil,.nil=>by simp[AI]at h;subst h;rfl
 |k::ks,.t x::xs,.t y::ys,d::ds,e::es,b,h,.cons h1 a,.cons c f=>by
  simp only[AI]at h;split at h
  . rename_i b1 r g i;cases h;cases h1;cases c;simp[sj,YJ g,S7 i a f]
  . cases h
theorem Yx{a b:aj}:(A2 a b).length=a.length+b.length:=c4
theorem acq{a b:Int}:hK a b=true↔a=b:=by simp[hK]
theorem tg{m:Int}{n:Nat}:aH m n=true↔0<=m/\m.toNat<n:=by simp[aH]
theorem iq{b a:Int}{n:Nat}:dU b a n=true↔0<=b/\b<=a/\a<=n:=by simp[dU]
theorem adr{s:List (t.den U.D)}{l r:Option Int}{a pl b:Prop}{sz:Nat}:
 (some (a/\pl/\b/\0<=l.getD 0/\l.getD 0<=r.getD ((List.map (t.enc U) s).length:Int)/\r.getD ((List.map (t.enc U) s).length:Int)<=((List.map (t.enc U) s).length:Int)/\∀e,e∈List.map (t.enc U) s->e.length=sz,
  V.c (C.t (T.slice (((List.map (t.enc U) s).take (r.getD ((List.map (t.enc U) s).length:Int)).toNat).drop (l.getD 0).toNat))),J1):AP)=
 some (a/\pl/\b/\0<=l.getD 0/\l.getD 0<=r.getD (s.length:Int)/\r.getD (s.length:Int)<=(s.length:Int)/\∀e,e∈List.map (t.enc U) s->e.length=sz,
  V.c (C.t (Cell.enc U ⟨.slice t,d' s (l.getD 0) (r.getD (s.length:Int))⟩)),J1):=by
 have:Cell.enc U ⟨.slice t,d' s (l.getD 0) (r.getD (s.length:Int))⟩=T.slice (List.map (t.enc U) (d' s (l.getD 0) (r.getD (s.length:Int)))):=rfl;rw[this,gA];simp only[d',BK,yk]
variable{a:Type}{f:α->a}
theorem ads{l:List α}{p:Prop}:(some (p,V.c (C.t (T.int .i64 ((l.map f).length:Int))),J1):AP)=some (p,V.c (C.t (.int .i64 (l.length:Int))),J1):=by rw[gA]
theorem vP{l:List α}{i:Nat}(h:i<l.length):i<(l.map f).length:=by rw[gA];exact h
theorem a8.replicate{c:Type}{R:α->c->Prop}{a:α}{b:c}(h:R a b):∀n:Nat,a8 R (List.replicate n a) (List.replicate n b)
 |0=>.nil
 |n+1=>.cons h (a8.replicate h n)
theorem FP:∀{xs:List (bj U)} {de:List aJ} {es:List C} {row:List (Cell U.D)},iM de xs=some row->a8 (cg N J) xs es->toTs es=some (row.map (Cell.enc U))
 |[],de,es,row,h1,a=>by
  cases a;cases de<;>simp[iM]at h1;subst h1;rfl
 |y::ys,[],es,row,h1,a=>by simp[iM]at h1
 |y::ys,ty::de,_::_,row,h1,.cons a d=>by
  cases a with
  |t c=>cases ty<;>simp only[iM]at h1<;>(split at h1<;>first|(cases h1;done)|(rename_i q b;cases h1;simp[toTs,toT,FP b d]))
  |aF=>
   cases ty<;>simp only[iM,reduceCtorEq]at h1;split at h1
   . rename_i q b;cases h1;simp[toTs,toT,FP b d];rfl
   . cases h1
  |_=>cases ty<;>simp[iM]at h1
theorem Td{sz:Nat}:∀{ps:List (Nat×aS)} {es es':List (List T)} {p:Prop},jN env1 sz es ps=some (p,es')->es'.length=es.length
 |[],es,es',p,h=>by simp[jN]at h;rw[h.2]
 |(i,x)::ps,es,es',p,h=>by
  simp only[jN,bo,dC,bc,bE]at h;obtain⟨a,_,cs,_,ts,_,_,b,c,_,rfl⟩:=h;have:=Td (p:=b.1) (es':=b.2) c;grind
theorem HA{l k:List (t.den U.D)}{i o:Nat}(h:rX U t l i o cs=some k)(n:i<l.length)(g:a8 (cg N J) cs ds)(A:o+cs.length<=t.sz U):
 ∃ts,toTs ds=some ts/\k.map (t.enc U)=(l.map (t.enc U)).set i ((el (l.map (t.enc U)) i).take o++ts++(el (l.map (t.enc U)) i).drop (o+cs.length)):=by
 unfold rX at h;split at h
 . rename_i x e;cases h;unfold qf at e;split at e
   . rename_i row v;have s:=aJ.EY e;have key:=@FP U N J;have w:a8 (cg N J) ((t.row U (t.at U l i)).map .t) ((t.enc U (t.at U l i)).map .t):=yU;have m:=Gv (o:=o) w g;have h1:=key v m;have f:∀{a b:List C} {r:List T},toTs (a++b)=some r->∃p q,toTs a=some p/\toTs b=some q/\r=p++q:=by
      intro a;induction a with
      |nil=>intro b r h;exact⟨[],r,rfl,h,rfl⟩
      |cons c a ih=>
       intro b r h;simp only[rG,toTs,bo,bc]at h;obtain⟨t0,y,E,u,rfl⟩:=h;obtain⟨p,q,aK,d,rfl⟩:=ih u;exact⟨t0::p,q,by simp[toTs,y,aK],d,rfl⟩
     have j:∀(ts:List T),toTs (ts.map .t)=some ts:=by
      intro ts;induction ts with
      |nil=>rfl
      |cons a ts ih=>simp[toTs,toT,ih]
     unfold oL at h1;obtain⟨p,q,aK,d,dn⟩:=f h1;obtain⟨B,z,f1,f2,f3⟩:=f aK;rw[<-yk,j]at f1;cases f1;rw[<-BK,j]at d;cases d;refine⟨z,f2,?_⟩;rw[List.map_set,zU n,aJ.uH (x:=x),s,dn,f3,g.length]
   . cases e
 . cases h
variable (he:c5 N J G env env1)(ao:gL gl env G)(aE:cx N J J1)
section
include he ao aE
theorem ag7(h:ct gl gd env J N (.mov x)=some (c,v,J')):dX N J J1 (.mov x) env1 (cG env G gd) c v J':=by
 simp only[ct]at h;split at h
 . rename_i w b;cases h;obtain⟨p,v1,a1,a2,a3⟩:=cv he ao b;exact .neutral aE a2 λa _=>⟨p,by simp[aR,a1],a3 a⟩
 . cases h
theorem adt{z:aS}(h:ct gl gd env J N (.pick x y z)=some (c,v,J')):dX N J J1 (.pick x y z) env1 (cG env G gd) c v J':=by
 simp only[ct]at h;split at h
 . rename_i b p q h1 g i;cases h;obtain⟨j,v1,a1,a2,a3⟩:=cv he ao h1;obtain⟨k,m,b1,b2,b3⟩:=J6 he ao h1 rfl g;obtain⟨l,v3,d,e,f⟩:=J6 he ao h1 rfl i;have:=a2.ju;subst this;have:=b2.ju;subst this;have:=e.ju;subst this;refine .neutral aE (.c (.t (U:=U) ⟨.bool,_⟩)) λa _=>⟨j/\(b=true->k)/\(b=false->l),by simp only[aR,a1,b1,d,ak];rfl,a3 a,b3 a,f a⟩
 . cases h
theorem YK(h:ct gl gd env J N (.nilCheck x)=some (c,v,J')):dX N J J1 (.nilCheck x) env1 (cG env G gd) c v J':=by
 simp only[ct]at h;split at h
 . rename_i b o d;cases h;obtain⟨p,v1,a1,a2,a3⟩:=cv he ao d;have:=a2.hR;subst this;exact .neutral aE a2 λa _=>⟨p,by simp[aR,a1],a3 a⟩
 . rename_i b t i o d;cases h;obtain⟨p,v1,a1,a2,a3⟩:=cv he ao d;have:=a2.je;subst this;exact .neutral aE a2 λa _=>⟨p,by simp[aR,a1],a3 a⟩
 . rename_i t e o d;cases h;obtain⟨p,v1,a1,a2,a3⟩:=cv he ao d;have:=a2.ER;subst this;exact .neutral aE a2 λa _=>⟨p,by simp[aR,a1],a3 a⟩
 . cases h
theorem ag8(h:ct gl gd env J N (.not x)=some (c,v,J')):dX N J J1 (.not x) env1 (cG env G gd) c v J':=by
 simp only[ct]at h;split at h
 . rename_i b d;cases h;obtain⟨p,v1,a1,a2,a3⟩:=cv he ao d;have:=a2.ju;subst this;exact .neutral aE (.c (.t (U:=U) ⟨.bool,_⟩)) λa _=>⟨p,by simp[aR,a1];rfl,a3 a⟩
 . cases h
theorem Ts{k:IntKind}(h:ct gl gd env J N (.conv k x)=some (c,v,J')):dX N J J1 (.conv k x) env1 (cG env G gd) c v J':=by
 simp only[ct]at h;split at h
 . rename_i d m b;cases h;obtain⟨p,v1,a1,a2,a3⟩:=cv he ao b;have:=a2.gq;subst this;exact .neutral aE (.c (.t (U:=U) ⟨.int k,_⟩)) λa _=>⟨p,by simp[aR,a1];rfl,a3 a⟩
 . cases h
theorem ag5(h:ct gl gd env J N (.i2s x)=some (c,v,J')):dX N J J1 (.i2s x) env1 (cG env G gd) c v J':=by
 simp only[ct]at h;split at h
 . rename_i d m b;cases h;obtain⟨p,v1,a1,a2,a3⟩:=cv he ao b;have:=a2.gq;subst this;exact .neutral aE (.c (.t (U:=U) ⟨.str,_⟩)) λa _=>⟨p,by simp[aR,a1];rfl,a3 a⟩
 . cases h
theorem ag9(h:ct gl gd env J N (.s2s x)=some (c,v,J')):dX N J J1 (.s2s x) env1 (cG env G gd) c v J':=by
 simp only[ct]at h;split at h
 . rename_i s b;cases h;obtain⟨p,v1,a1,a2,a3⟩:=cv he ao b;have:=a2.kp;subst this;exact .neutral aE a2 λa _=>⟨p,by simp[aR,a1],a3 a⟩
 . cases h
theorem adu(h:ct gl gd env J N (.fldA off x)=some (c,v,J')):dX N J J1 (.fldA off x) env1 (cG env G gd) c v J':=by
 simp only[ct]at h;split at h
 . rename_i b o d;cases h;obtain⟨p,v1,a1,a2,a3⟩:=cv he ao d;have:=a2.hR;subst this;exact .neutral aE (.c (.ptr _ _)) λa _=>⟨p,by simp[aR,a1],a3 a⟩
 . rename_i b t i o d;cases h;obtain⟨p,v1,a1,a2,a3⟩:=cv he ao d;have:=a2.je;subst this;exact .neutral aE (.c (.cH _ _ _ _)) λa _=>⟨p,by simp[aR,a1],a3 a⟩
 . rename_i t e o d;cases h;obtain⟨p,v1,a1,a2,a3⟩:=cv he ao d;have:=a2.ER;subst this;exact .neutral aE (.c (.dO _ _ _)) λa _=>⟨p,by simp[aR,a1],a3 a⟩
 . cases h
theorem ag4{k:Nat}(h:ct gl gd env J N (.fld agg off k x)=some (c,v,J')):dX N J J1 (.fld agg off k x) env1 (cG env G gd) c v J':=by
 simp only[ct]at h;split at h
 . rename_i cs e;split at h
   . rename_i w ae;cases h;obtain⟨p,v1,a1,a2,a3⟩:=cv he ao e;obtain⟨ds,rfl,b2⟩:=a2.r6;obtain⟨f,a,b⟩:=uZ b2 ae;exact .neutral aE b λd _=>⟨p,by simp[aR,a1,a],a3 d⟩
   . cases h
 . cases h
theorem adv{k:Nat}(h:ct gl gd env J N (.load agg k x)=some (c,v,J')):dX N J J1 (.load agg k x) env1 (cG env G gd) c v J':=by
 simp only[ct]at h;split at h
 . rename_i b o j;split at h
   . rename_i cs g;split at h
     . rename_i w ae;cases h;obtain⟨p,v1,a1,a2,a3⟩:=cv he ao j;have:=a2.hR;subst this;obtain⟨_,y,b1,b2⟩:=aE b _ g;cases b2 with
       |box b2=>
        obtain⟨s,a,m⟩:=uZ b2 ae;exact .neutral aE m λd _=>⟨p,by simp[aR,a1,b1,a],a3 d⟩
     . cases h
   . rename_i E z g;split at h
     . cases h;obtain⟨p,v1,a1,a2,a3⟩:=cv he ao j;have:=a2.hR;subst this;obtain⟨_,y,b1,b2⟩:=aE b _ g;cases b2 with
       |b8 b2=>exact .neutral aE (.c b2) λd _=>⟨p,by simp[aR,a1,b1],a3 d⟩
     . cases h
   . cases h
 . rename_i b t i o j;split at h
   . rename_i u B g;split at h
     . rename_i l ae;have e:=Cell.ky ae;cases e;split at h
       . rename_i w q;cases h;obtain⟨p,v1,a1,a2,a3⟩:=cv he ao j;have:=a2.je;subst this;obtain⟨_,y,b1,b2⟩:=aE b _ g;cases b2 with
         |arr=>
          obtain⟨s,a,m⟩:=uZ yU q;refine .neutral aE m λd f=>⟨p/\t.sz U=t.sz U/\i<(List.map (t.enc U) l).length,?_,a3 d,rfl,vP (gV f)⟩
          simp only[dq]at f;have a:=Hd a;simp only[aR,a1,ak,b1];rw[zU f,a];rfl
       . cases h
     . cases h
   . rename_i u B A C z g;split at h
     . cases h
     . split at h
       . rename_i n;split at h
         . rename_i r;cases h;have n:=cV n;have r:=cV r;subst n;obtain⟨p,v1,a1,a2,a3⟩:=cv he ao j;have:=a2.je;subst this;obtain⟨_,y,b1,b2⟩:=aE b _ g;cases b2 with
           |cA _ _ _ _ b2=>
            refine .neutral aE (.c b2) λd f=>⟨p/\t.sz U=u.sz U/\i=A,?_,a3 d,r,gV f⟩
            simp only[aR,a1,ak,b1];simp
         . cases h
       . rename_i n;have n:=hG n;split at h
         . rename_i l ae;have e:=Cell.ky ae;cases e;split at h
           . rename_i w q;cases h;obtain⟨p,v1,a1,a2,a3⟩:=cv he ao j;have:=a2.je;subst this;obtain⟨_,y,b1,b2⟩:=aE b _ g;cases b2 with
             |cA _ _ _ _ b2=>
              obtain⟨s,a,m⟩:=uZ yU q;refine .neutral aE m λd f=>⟨p/\t.sz U=t.sz U/\i<(List.map (t.enc U) l).length,?_,a3 d,rfl,vP (gV f)⟩
              simp only[dq]at f;have a:=Hd a;simp only[aR,a1,ak,b1];rw[bq,al n,zU f,a];rfl
           . cases h
         . cases h
   . cases h
 . rename_i t D o j;split at h
   . rename_i w ae;cases h;obtain⟨p,v1,a1,a2,a3⟩:=cv he ao j;have:=a2.ER;subst this;obtain⟨s,a,m⟩:=uZ yU ae;have a:=Hd a;exact .neutral aE m λd _=>⟨p,by simp[aR,a1,a],a3 d⟩
   . cases h
 . cases h
theorem ag1(h:ct gl gd env J N (.bin op x y)=some (c,v,J')):dX N J J1 (.bin op x y) env1 (cG env G gd) c v J':=by
 simp only[ct]at h;split at h
 . rename_i p q d e;split at h
   . rename_i k r f;cases h;obtain⟨g,v1,a1,a2,a3⟩:=cv he ao d;obtain⟨i,l,b1,b2,b3⟩:=cv he ao e;have:=a2.wJ;subst this;have:=b2.wJ;subst this;obtain⟨j,d1,d2⟩:=Zr f;exact .neutral aE (.c (.t _)) λa b=>⟨g/\i/\j,by simp only[aR,a1,b1,ak,d1];rfl,a3 a,b3 a,d2 b⟩
   . cases h
 . cases h
theorem acr{ks:a6}(h:ct gl gd env J N (.eqAgg neg ks x y)=some (c,v,J')):dX N J J1 (.eqAgg neg ks x y) env1 (cG env G gd) c v J':=by
 simp only[ct]at h;split at h
 . rename_i p q d e;split at h
   . rename_i r f;cases h;obtain⟨g,v1,a1,a2,a3⟩:=cv he ao d;obtain⟨i,k,b1,b2,b3⟩:=cv he ao e;obtain⟨ds,rfl,d2⟩:=a2.r6;obtain⟨es,rfl,b⟩:=b2.r6;have:=S7 f d2 b;exact .neutral aE (.c (.t (U:=U) ⟨.bool,_⟩)) λa j=>⟨g/\i,by simp only[aR,a1,b1,ak,this];cases neg<;>rfl,a3 a,b3 a⟩
   . cases h
 . cases h
theorem aaf(h:ct gl gd env J N (.eqBool neg x y)=some (c,v,J')):dX N J J1 (.eqBool neg x y) env1 (cG env G gd) c v J':=by
 simp only[ct]at h;split at h
 . rename_i p q b d;cases h;obtain⟨e,v1,a1,a2,a3⟩:=cv he ao b;obtain⟨f,i,b1,b2,b3⟩:=cv he ao d;have:=a2.ju;subst this;have:=b2.ju;subst this;exact .neutral aE (.c (.t (U:=U) ⟨.bool,_⟩)) λa g=>⟨e/\f,by simp only[aR,a1,b1,ak];cases neg<;>rfl,a3 a,b3 a⟩
 . cases h
theorem adw{sz:Nat}(h:ct gl gd env J N (.idxA sz x y)=some (c,v,J')):dX N J J1 (.idxA sz x y) env1 (cG env G gd) c v J':=by
 simp only[ct]at h;split at h
 . rename_i t l k m g i;split at h
   . rename_i d;have d:=cV d;cases h;obtain⟨j,v1,a1,a2,a3⟩:=cv he ao g;obtain⟨o,r,b1,b2,b3⟩:=cv he ao i;have:=a2.ko;subst this;have:=b2.gq;subst this;by_cases p:aH m (List.length l)=true
     . obtain⟨h1,f⟩:=tg.1 p;refine .neutral aE (v1:= .c (.dO (el (List.map (t.enc U) l) (Int.toNat m)) 0)) ?_ λa e=>⟨j/\o/\(0:Int)<=m/\Int.toNat m<(List.map (t.enc U) l).length/\(el (List.map (t.enc U) l) (Int.toNat m)).length=sz,by simp only[aR,a1,b1,ak],a3 a,b3 a,h1,vP f,by rw[zU f,aJ.si];exact d⟩
       rw[zU f];exact .c (.dO _ _ _)
     . exact .neutral aE (.c (.dO _ _ _)) λa e=>absurd e p
   . cases h
 . rename_i b k m g i;split at h
   . rename_i t l q;split at h
     . rename_i d;have d:=cV d;cases h;obtain⟨j,v1,a1,a2,a3⟩:=cv he ao g;obtain⟨o,r,b1,b2,b3⟩:=cv he ao i;obtain⟨u,n,rfl,s,a⟩:=a2.hb;have:=b2.gq;subst this;have:=a _ q _ rfl;cases this;refine .neutral aE (.c (.cH _ _ _ _)) λa e=>⟨j/\o/\(0:Int)<=m/\Int.toNat m<l.length/\sz=t.sz U,?_,a3 a,b3 a,(tg.1 e).1,(tg.1 e).2,d.symm⟩
       simp only[aR,a1,b1,ak,gb,d]
     . cases h
   . cases h
 . cases h
theorem adx(h:ct gl gd env J N (.idxS x y)=some (c,v,J')):dX N J J1 (.idxS x y) env1 (cG env G gd) c v J':=by
 simp only[ct]at h;split at h
 . rename_i s k m d e;cases h;obtain⟨f,v1,a1,a2,a3⟩:=cv he ao d;obtain⟨g,i,b1,b2,b3⟩:=cv he ao e;have:=a2.kp;subst this;have:=b2.gq;subst this;exact .neutral aE (.c (.t (U:=U) ⟨.int .u8,_⟩)) λb a=>⟨f/\g/\(0:Int)<=m/\Int.toNat m<List.length s,by simp only[aR,a1,b1,ak];rfl,a3 b,b3 b,(tg.1 a).1,(tg.1 a).2⟩
 . cases h
theorem pX{x:Option aS}{l:Option Int}(h:nZ gl gd env x=some l):∃p,jP env1 x=some (p,l)/\(cG env G gd=true->p):=by
 unfold nZ at h;split at h
 . cases h;exact⟨True,rfl,λ_=>trivial⟩
 . split at h
   . rename_i k n a;cases h;obtain⟨b,v1,a1,a2,a3⟩:=cv he ao a;have:=a2.gq;subst this;exact⟨b,by simp only[jP,a1,ak],a3⟩
   . cases h
theorem ady{d b:Option aS}(h:ct gl gd env J N (.slcS x d b)=some (c,v,J')):dX N J J1 (.slcS x d b) env1 (cG env G gd) c v J':=by
 simp only[ct]at h;split at h
 . rename_i s l r f ae g;cases h;obtain⟨j,v1,a1,a2,a3⟩:=cv he ao f;obtain⟨pl,i,l2⟩:=pX he ao aE ae;obtain⟨k,m,n⟩:=pX he ao aE g;have:=a2.kp;subst this;exact .neutral aE (.c (.t (U:=U) ⟨.str,_⟩)) λa e=>⟨j/\pl/\k/\0<=l.getD 0/\l.getD 0<=r.getD (List.length s:Int)/\r.getD (List.length s:Int)<=(List.length s:Int),by simp only[aR,a1,i,m,ak];rfl,a3 a,l2 a,n a,iq.1 e⟩
 . cases h
theorem ag'{sz:Nat}{j D:Option aS}(h:ct gl gd env J N (.slc sz x j D)=some (c,v,J')):dX N J J1 (.slc sz x j D) env1 (cG env G gd) c v J':=by
 simp only[ct]at h;split at h
 . rename_i t s l r g ae m;split at h
   . rename_i d;have d:=cV d;cases h;obtain⟨o,v1,a1,a2,a3⟩:=cv he ao g;obtain⟨pl,C,l2⟩:=pX he ao aE ae;obtain⟨q,u,w⟩:=pX he ao aE m;have:=a2.ko;subst this;refine .neutral aE (.c (.t (U:=U) ⟨.slice t,_⟩)) λf a=>⟨o/\pl/\q/\0<=l.getD 0/\l.getD 0<=r.getD (List.length s:Int)/\r.getD (List.length s:Int)<=(List.length s:Int)/\∀e,e∈List.map (t.enc U) s->e.length=sz,?_,a3 f,l2 f,w f,(iq.1 a).1,(iq.1 a).2.1,(iq.1 a).2.2,?_⟩
     . simp only[aR,a1,C,u,ak];exact adr
     . intro e F;obtain⟨y,_,rfl⟩:=eK.1 F;rw[aJ.si];exact d
   . cases h
 . rename_i b r g ae m;split at h
   . rename_i t s z;split at h
     . rename_i d;have d:=cV d;cases h;obtain⟨o,v1,a1,a2,a3⟩:=cv he ao g;obtain⟨q,u,w⟩:=pX he ao aE m;obtain⟨I,n,rfl,A,f⟩:=a2.hb;have k:=f _ z (t.sz U,s.length) rfl;simp only[bE]at k;obtain⟨rfl,rfl⟩:=k;have B:j=none:=by
        cases j with
        |none=>rfl
        |some x=>simp only[nZ]at ae;split at ae<;>cases ae
       subst B;refine .neutral aE (.c (.pre b (t.sz U) _ A λx H p g=>?_)) λi a=>⟨o/\True/\q/\0<=(none:Option Int).getD 0/\(none:Option Int).getD 0<=r.getD (List.length s:Int)/\r.getD (List.length s:Int)<=(List.length s:Int)/\sz=t.sz U,?_,a3 i,trivial,w i,(iq.1 a).1,(iq.1 a).2.1,(iq.1 a).2.2,d.symm⟩
       . grind
       . have E:jP env1 none=some (True,none):=rfl;simp only[aR,a1,E,u,ak];rfl
     . cases h
   . cases h
 . rename_i b l r g ae m;split at h
   . rename_i t s z;split at h
     . rename_i d;have d:=cV d;cases h;obtain⟨o,v1,a1,a2,a3⟩:=cv he ao g;obtain⟨pl,C,l2⟩:=pX he ao aE ae;obtain⟨q,u,w⟩:=pX he ao aE m;obtain⟨I,n,rfl,A,f⟩:=a2.hb;have k:=f _ z (t.sz U,s.length) rfl;simp only[bE]at k;obtain⟨rfl,rfl⟩:=k;have B:j.isNone=false:=by
        cases j with
        |none=>simp[nZ]at ae
        |some x=>rfl
       refine .neutral aE (.c (.dH b (t.sz U) _ _ A λx H p g=>?_)) λi a=>⟨o/\pl/\q/\0<=(some l:Option Int).getD 0/\(some l:Option Int).getD 0<=r.getD (List.length s:Int)/\r.getD (List.length s:Int)<=(List.length s:Int)/\sz=t.sz U,?_,a3 i,l2 i,w i,(iq.1 a).1,(iq.1 a).2.1,(iq.1 a).2.2,d.symm⟩
       . grind
       . simp only[aR,a1,C,u,ak,B,bK,bT,gb];rfl
     . cases h
   . cases h
 . cases h
theorem adz(h:ct gl gd env J N (.slc0 x)=some (c,v,J')):dX N J J1 (.slc0 x) env1 (cG env G gd) c v J':=by
 simp only[ct]at h;split at h
 . rename_i t l d;cases h;obtain⟨p,v1,a1,a2,a3⟩:=cv he ao d;have:=a2.ko;subst this;exact .neutral aE (.c .aF) λa _=>⟨p,by simp[aR,a1],a3 a⟩
 . rename_i d;cases h;obtain⟨p,v1,a1,a2,a3⟩:=cv he ao d;have:=a2.uy;subst this;exact .neutral aE (.c .aF) λa _=>⟨p,by simp[aR,a1],a3 a⟩
 . rename_i b d;cases h;obtain⟨p,v1,a1,a2,a3⟩:=cv he ao d;obtain⟨sz,n,rfl,_⟩:=a2.hb;exact .neutral aE (.c .aF) λa _=>⟨p,by simp[aR,a1],a3 a⟩
 . cases h
theorem S8:∀{vs:List (bz U)} {ds:List V} {l:a6},AF vs=some l->a8 (ca N J) vs ds->aR.sb ds=some l
 |[],[],l,h,.nil=>by simp[AF]at h;subst h;rfl
 |.c (.ptr b 0)::vs,d::ds,l,h,.cons h1 a=>by
  simp only[AF]at h;split at h
  . rename_i e ae;cases h;have:=h1.hR;subst this;simp[aR.sb,S8 ae a]
  . cases h
theorem acM{f:Nat}{caps:List aS}(h:ct gl gd env J N (.mkfn f caps)=some (c,v,J')):dX N J J1 (.mkfn f caps) env1 (cG env G gd) c v J':=by
 simp only[ct]at h;split at h
 . rename_i vs b;split at h
   . rename_i l ae;cases h;obtain⟨p,ds,a1,a2,a3⟩:=s6 he ao b;exact .neutral aE (.c (.fn _ _)) λa _=>⟨p,by simp[aR,a1,S8 he ao aE ae a2],a3 a⟩
   . cases h
 . cases h
theorem ag3{i:Nat}(h:ct gl gd env J N (.ext x i)=some (c,v,J')):dX N J J1 (.ext x i) env1 (cG env G gd) c v J':=by
 simp only[ct]at h;split at h
 . rename_i vs e;split at h
   . rename_i w b;cases h;obtain⟨p,v1,a1,a2,a3⟩:=cv he ao e;cases a2 with
     |aY _ ds ae d=>
      have f:=(c7.1 b).1;have a:=eF (l:=ds) (i:=i) (by omega);exact .neutral aE (d i _ _ b a) λao _=>⟨p,by simp only[aR,a1,ak,a,f'],a3 ao⟩
   . cases h
 . cases h
theorem acN(h:ct gl gd env J N (.max2 x y)=some (c,v,J')):dX N J J1 (.max2 x y) env1 (cG env G gd) c v J':=by
 simp only[ct]at h;split at h
 . rename_i k a l b e f;simp only[dC,bG,bE]at h;obtain⟨rfl,rfl,rfl,rfl⟩:=h;obtain⟨g,v1,a1,a2,a3⟩:=cv he ao e;obtain⟨i,m,b1,b2,b3⟩:=cv he ao f;have:=a2.gq;subst this;have:=b2.gq;subst this;exact .neutral aE (.c (.t (U:=U) ⟨.int k,_⟩)) λd j=>⟨g/\i,by simp only[aR,a1,b1,ak,bJ];rfl,a3 d,b3 d⟩
 . cases h
theorem acO(h:ct gl gd env J N (.min2 x y)=some (c,v,J')):dX N J J1 (.min2 x y) env1 (cG env G gd) c v J':=by
 simp only[ct]at h;split at h
 . rename_i k a l b e f;simp only[dC,bG,bE]at h;obtain⟨rfl,rfl,rfl,rfl⟩:=h;obtain⟨g,v1,a1,a2,a3⟩:=cv he ao e;obtain⟨i,m,b1,b2,b3⟩:=cv he ao f;have:=a2.gq;subst this;have:=b2.gq;subst this;exact .neutral aE (.c (.t (U:=U) ⟨.int k,_⟩)) λd j=>⟨g/\i,by simp only[aR,a1,b1,ak,bJ];rfl,a3 d,b3 d⟩
 . cases h
theorem acs{parts:List (Nat×Nat×aS)}(h:ct gl gd env J N (.build z parts)=some (c,v,J')):dX N J J1 (.build z parts) env1 (cG env G gd) c v J':=by
 simp only[ct]at h;split at h
 . rename_i e d;split at h
   . rename_i cs a;cases h;obtain⟨p,ds,a1,a2,a3⟩:=SL he ao a (tK d);exact .neutral aE (.agg a2) λb _=>⟨p,by simp[aR,a1],a3 b⟩
   . cases h
 . cases h
theorem acu{cs:List C}(h:ct gl gd env J N (.alloc cs)=some (c,v,J')):dX N J J1 (.alloc cs) env1 (cG env G gd) c v J':=by
 simp only[ct]at h;split at h
 . rename_i xs a;cases h;have k:dm N J (N+16) (cE J N (.box xs)):=lQ;exact .store rfl k (.c (.ptr _ _)) λb _=>⟨True,_,rfl,trivial,aE.put (by omega) k (.box (tK a))⟩
 . cases h
theorem ag2(h:ct gl gd env J N (.box x)=some (c,v,J')):dX N J J1 (.box x) env1 (cG env G gd) c v J':=by
 simp only[ct]at h;split at h
 . rename_i w d;split at h
   . rename_i cs a;cases h;obtain⟨p,v1,a1,a2,a3⟩:=cv he ao d;obtain⟨ds,b1,b2⟩:=pW a2 a;have k:dm N J (N+16) (cE J N (.box cs)):=lQ;exact .store rfl k (.c (.ptr _ _)) λb _=>⟨p,_,by simp only[aR,a1,ak,b1,f'],a3 b,aE.put (by omega) k (.box (b2.imp λ_ _ _=>cg.mono k))⟩
   . cases h
 . cases h
theorem aag{sz len:Nat}{parts:List (Nat×aS)}(h:ct gl gd env J N (.bslice sz len z parts)=some (c,v,J')):dX N J J1 (.bslice sz len z parts) env1 (cG env G gd) c v J':=by
 simp only[ct]at h;split at h
 . rename_i m j;split at h
   . cases h
   . rename_i ts f;split at h
     . cases h
     . rename_i b;have b:=cV b;split at h
       . rename_i rows a;cases h;have l:=tK (N:=N) (J:=J) j;obtain⟨p,es,a1,a2,a4,a3⟩:=Gk he ao a (es:=List.replicate len ts) (a8.replicate (R:=λr e=>hV r=some e) f len) (by intro r a;rw[Bz a];exact b);have k:dm N J (N+16) (cE J N (.rows sz rows)):=lQ;refine .store rfl k (.c (.arr N sz es.length (by omega) ?_)) λi _=>⟨p,_,by simp only[aR,Dy l f,ak,a1,f'];rw[Td a1,List.length_replicate],a3 i,aE.put (by omega) k (.rows a2 a4)⟩
         intro x g q d;rw[hN,ad rfl]at g;cases g;simp only[cP.df,bG]at d;rw[<-d,a2.length]
       . cases h
 . cases h
omit he ao aE in
theorem ZC(h:toTs ds=some ts):yG ds=none:=by
 unfold yG;split
 . simp[toTs,toT]at h
 . rfl
omit he ao aE in
theorem abp{J1:a7}{w:bz U}{d:V}(h:ca N J w d)(e:∀b a len,w≠.c (.dH b a len))(f:∀b a len,w≠.c (.sub b a len))(g:w≠.c .dead):mU v1 d=none:=by
 unfold mU;split
 . cases h with
   |c h=>
    cases h with
    |sub b a len=>exact absurd rfl (f _ _ _)
    |dH b sz a len=>exact absurd rfl (e _ _ _)
    |dead d=>exact absurd rfl g
 . rfl
theorem acv{k:Nat}(h:ct gl gd env J N (.store k x y)=some (c,v,J')):dX N J J1 (.store k x y) env1 (cG env G gd) c v J':=by
 simp only[ct]at h;split at h
 . rename_i b o w j B;split at h
   . rename_i cs s;split at h
     . rename_i u;have u:=cV u;split at h
       . rename_i ds F;split at h
         . rename_i V;have V:=h5 V;cases h;obtain⟨p,v1,a1,a2,a3⟩:=cv he ao j;obtain⟨q,O,b1,b2,b3⟩:=cv he ao B;have:=a2.hR;subst this;obtain⟨es,g,d⟩:=pW b2 s;obtain⟨D,z,d1,d2⟩:=aE b _ F;cases d2 with
           | @box _ fs d2=>
            have a:dm N J (N+16) (cE J b (.box (wM ds o cs))):=nC (by omega) F (λp h=>by simp[cP.df]at h);refine .store rfl a (.aY [] [] rfl (by simp)) λf _=>⟨p/\q,_,?_,⟨a3 f,b3 f⟩,aE.put (by omega) a (.box (Gv (d2.imp λ_ _ _=>cg.mono a) (d.imp λ_ _ _=>cg.mono a)))⟩
            simp only[aR,a1,b1,ak,g];rw[ad (by rw[<-d.length];exact u),d1];dsimp only;rw[ad (by rw[<-d2.length];exact V)]
         . cases h
       . rename_i E P F;split at h
         . rename_i P _;cases h;obtain⟨p,v1,a1,a2,a3⟩:=cv he ao j;obtain⟨q,O,b1,b2,b3⟩:=cv he ao B;have:=a2.hR;subst this;obtain⟨es,g,d⟩:=pW b2 s;obtain⟨D,z,d1,d2⟩:=aE b _ F;cases d2 with
           |b8 d2=>
            cases d with|cons d n=>
            cases n;have a:dm N J (N+16) (cE J b (.b8 E P)):=nC (by omega) F (λp h=>by simp[cP.df]at h);refine .store rfl a (.aY [] [] rfl (by simp)) λf _=>⟨p/\q,_,?_,⟨a3 f,b3 f⟩,aE.put (by omega) a (.b8 (d.mono a))⟩
            simp only[aR,a1,b1,ak,g];grind
         . cases h
       . cases h
     . cases h
   . cases h
 . rename_i b t i o w j B;split at h
   . rename_i cs s;split at h
     . rename_i u;simp only[cc]at u;have C:=cV u.1;have I:=h5 u.2;split at h
       . rename_i S X m;split at h
         . rename_i l ae;have e:=Cell.ky ae;cases e;split at h
           . rename_i Q R;cases h;obtain⟨rfl,T,rfl⟩:cs=[Q]/\∃T,Q= .arr T:=by
              unfold Rj at R;split at R<;>cases R;exact⟨rfl,_,rfl⟩
             obtain⟨p,v1,a1,a2,a3⟩:=cv he ao j;obtain⟨q,O,b1,b2,b3⟩:=cv he ao B;have:=a2.je;subst this;obtain⟨es,g,d⟩:=pW b2 s;cases d with|cons d n=>
             cases n;have aa:=d;cases d with|arr _ an am ai aj=>
             obtain⟨D,z,d1,d2⟩:=aE b _ m;cases d2 with
             |arr=>
              have a:dm N J (N+16) (cE J b (.cA t l i o (.arr T))):=nC (by omega) m (λp h=>by simpa[cP.df]using h);refine .store rfl a (.aY [] [] rfl (by simp)) λf r=>⟨p/\q/\t.sz U=t.sz U/\i<(List.map (t.enc U) l).length/\o+k<=t.sz U,_,?_,⟨a3 f,b3 f,rfl,vP (gV r),I⟩,aE.put (by omega) a (.cA t l i o (aa.mono a))⟩
              simp only[aR,a1,b1,ak,g];rw[ad (by simpa using C)];simp only[d1,yG]
           rename_i R;split at h
           . rename_i l2 K;cases h;obtain⟨p,v1,a1,a2,a3⟩:=cv he ao j;obtain⟨q,O,b1,b2,b3⟩:=cv he ao B;have:=a2.je;subst this;obtain⟨es,g,d⟩:=pW b2 s;obtain⟨D,z,d1,d2⟩:=aE b _ m;cases d2 with
             |arr=>
              have af:l2.length=List.length l:=by
               unfold rX at K;grind
              have a:dm N J (N+16) (cE J b (.arr t l2)):=nC (by omega) m (λp h=>by
               simp only[cP.df]at h⊢
               grind)
              refine .store rfl a (.aY [] [] rfl (by simp)) λf r=>?_;have H:i<List.length l:=gV r;obtain⟨ts,aK,ab⟩:=HA K H d (by rw[C];exact I);refine⟨p/\q/\t.sz U=t.sz U/\i<(List.map (t.enc U) l).length/\o+k<=t.sz U,_,?_,⟨a3 f,b3 f,rfl,vP H,I⟩,aE.put (by omega) a (.arr t l2)⟩;simp only[aR,a1,b1,ak,g];rw[ad (by rw[<-d.length];exact C),d1];dsimp only;rw[ZC aK];grind
           . cases h
         . cases h
       . rename_i S X L Z P m;split at h
         . rename_i Q;split at h
           . rename_i A;split at h
             . rename_i W;cases h;have A:=cV A;have W:=cV W;subst A;obtain⟨p,v1,a1,a2,a3⟩:=cv he ao j;obtain⟨q,O,b1,b2,b3⟩:=cv he ao B;have:=a2.je;subst this;obtain⟨es,g,d⟩:=pW b2 s;cases d with|cons d n=>
               cases n;obtain⟨D,z,d1,d2⟩:=aE b _ m;cases d2 with
               |cA _ _ _ _ d2=>
                have a:dm N J (N+16) (cE J b (.cA S X L o Q)):=nC (by omega) m (λp h=>by simpa[cP.df]using h);refine .store rfl a (.aY [] [] rfl (by simp)) λf r=>⟨p/\q/\t.sz U=S.sz U/\i=L,_,?_,⟨a3 f,b3 f,W,gV r⟩,aE.put (by omega) a (.cA S X L o (d.mono a))⟩
                simp only[aR,a1,b1,ak,g];rw[ad (by simpa using C),d1];dsimp only;rw[ad rfl]
             . cases h
           . rename_i A;have A:=hG A;split at h
             . rename_i l ae;have e:=Cell.ky ae;cases e;split at h
               . rename_i l2 K;cases h;obtain⟨p,v1,a1,a2,a3⟩:=cv he ao j;obtain⟨q,O,b1,b2,b3⟩:=cv he ao B;have:=a2.je;subst this;obtain⟨es,g,d⟩:=pW b2 s;obtain⟨D,z,d1,d2⟩:=aE b _ m;cases d2 with
                 |cA _ _ _ _ d2=>
                  have af:l2.length=List.length l:=by
                   unfold rX at K;grind
                  have a:dm N J (N+16) (cE J b (.cA t l2 L Z P)):=nC (by omega) m (λp h=>by
                   simp only[cP.df]at h⊢
                   grind)
                  refine .store rfl a (.aY [] [] rfl (by simp)) λf r=>?_;have H:i<List.length l:=gV r;obtain⟨ts,aK,ab⟩:=HA K H d (by rw[C];exact I);cases d with| @cons _ Y _ _ d n=>
                  cases n;obtain⟨M,ag,ah⟩:∃M,Shv.toT Y=some M/\ts=[M]:=by
                   simp only[toTs]at aK;cases j:Shv.toT Y with
                   |none=>rw[j]at aK;simp at aK
                   |some M=>rw[j]at aK;simp at aK;exact⟨M,rfl,aK.symm⟩
                  refine⟨p/\q/\t.sz U=t.sz U/\i<(List.map (t.enc U) l).length/\o+k<=t.sz U,_,?_,⟨a3 f,b3 f,rfl,vP H,I⟩,aE.put (by omega) a (.cA t l2 L Z (d2.mono a))⟩;simp only[aR,a1,b1,ak,g];rw[ad (by simpa using C),d1];dsimp only;rw[al A,ag];subst ah;grind
               . cases h
             . cases h
         . cases h
       . cases h
     . cases h
   . cases h
 . cases h
inductive ku:fL U->List (List T)->Prop
 |ty (t:aJ) (l:List (t.den U.D)):ku (.ty t l) (l.map (t.enc U))
 |rows {r es}:a8 (λr e=>hV r=some e) r es->ku (.rows r) es
 |nil:ku .nil []
omit he ao aE in
theorem ku.length{e:fL U}(h:ku e es):es.length=e.len:=by
 cases h with
 |ty t l=>simp[fL.len]
 |rows h=>simp[fL.len,h.length]
 |nil=>rfl
omit he ao aE in
theorem Gw:∀{xs:List (bj U)} {de:List aJ} {e:List T} {row:List (Cell U.D)},iM de xs=some row->hV xs=some e->e=row.map (Cell.enc U)
 |[],de,e,row,h1,a=>by
  cases de<;>simp[iM]at h1;simp[hV]at a;grind
 |y::ys,[],e,row,h1,a=>by cases y<;>simp[iM]at h1
 |y::ys,ty::de,e,row,h1,a=>by
  simp only[hV]at a;split at a
  . rename_i t ts ht d;cases a;cases y with
    |t c=>
     simp only[bj.toT]at ht;split at ht
     . cases ht
     . cases ht;cases ty<;>simp only[iM]at h1<;>(split at h1<;>first|(cases h1;done)|(rename_i q b;cases h1;rw[Gw b d];rfl))
    |aF=>
     simp only[bj.toT,bG]at ht;subst ht;cases ty<;>simp only[iM,reduceCtorEq]at h1;split at h1
     . rename_i q b;cases h1;rw[Gw b d];rfl
     . cases h1
    |_=>simp[bj.toT]at ht
  . cases a
omit he ao aE in
theorem acP{r:List (bj U)}{x:t.den U.D}{e:List T}(h:qf U t r=some x)(he:hV r=some e):t.enc U x=e:=by
 unfold qf at h;split at h
 . rename_i row a;rw[aJ.uH,aJ.EY h,Gw a he]
 . cases h
omit he ao aE in
theorem wg{t:aJ}:∀{r:List (List (bj U))} {l:List (t.den U.D)} {es:List (List T)},l' U t r=some l->a8 (λr e=>hV r=some e) r es->l.map (t.enc U)=es
 |[],l,es,h,a=>by cases a;simp[l']at h;subst h;rfl
 |r::d,l,_::_,h,.cons h1 a=>by
  simp only[l']at h;split at h
  . rename_i x xs b c;cases h;rw[gB,acP b h1,wg c a]
  . cases h
omit he ao aE in
theorem ku.as{t:aJ}{e:fL U}{es:List (List T)}{l:List (t.den U.D)}(h:ku e es)(a:e.as t=some l):l.map (t.enc U)=es:=by
 cases h with
 |ty u c=>
  simp only[fL.as]at a;have:=Cell.ky a;grind
 |rows h=>exact wg a h
 |nil=>simp[fL.as]at a;subst a;rfl
omit he ao aE in
theorem ku.join{x y z:fL U}{es fs:List (List T)}(f:ku x es)(c:ku y fs)(h:x.join y=some z):ku z (es++fs):=by
 cases f with
 |nil=>simp[fL.join]at h;subst h;exact c
 |ty t l=>
  simp only[fL.join]at h;split at h
  . rename_i j ae;cases h;rw[<-c.as ae,<-p8];exact .ty t _
  . cases h
 |rows a=>
  cases c with
  |ty t l=>
   simp only[fL.join]at h;split at h
   . rename_i j ae;cases h;rw[<-wg ae a,<-p8];exact .ty t _
   . cases h
  |rows e=>simp[fL.join]at h;subst h;exact .rows (a.append e)
  |nil=>simp[fL.join]at h;subst h;rw[l3];exact .rows a
omit he ao aE in
theorem ku.blk{e:fL U}{es:List (List T)}{sz:Nat}{b:cP U}(h:ku e es)(a:e.blk sz=some b):hW N' J' b (.arr sz es)/\(∀x,x∈es->x.length=sz)/\b.df=some (sz,e.len):=by
 cases h with
 |ty t l=>
  simp only[fL.blk]at a;split at a
  . rename_i hs;have:=cV hs;subst this;cases a;refine⟨.arr t l,λx c=>?_,rfl⟩;obtain⟨y,_,rfl⟩:=eK.1 c;exact aJ.si
  . cases a
 | @rows r es f=>
  simp only[fL.blk]at a;split at a
  . rename_i hs;cases a;simp only[c0]at hs;refine⟨.rows f λx c=>cV (hs x c),λx c=>?_,rfl⟩;obtain⟨i,o,rfl⟩:=eS c;obtain⟨y,h1,j⟩:=(f.flip (R':=λe r=>hV r=some e) λ_ _ h=>h).get (eF o);rw[Hz j];exact cV (hs y (eJ h1))
  . cases a
 |nil=>
  simp only[fL.blk,bG]at a;subst a;exact⟨.rows .nil (by simp),by simp,rfl⟩
omit he ao in
theorem He{e:fL U}{f:Option Nat}(c:ca N J v v1)(h:rU J v=some (e,f)):∃es,ma J1 v1=some (es,f)/\ku e es:=by
 unfold rU at h;split at h
 . rename_i t l;cases h;have:=c.ko;subst this;exact⟨_,rfl,.ty t l⟩
 . cases h;have:=c.uy;subst this;exact⟨_,rfl,.nil⟩
 . rename_i b;obtain⟨sz,n,rfl,i,d⟩:=c.hb;split at h
   . rename_i t l ae;cases h;obtain⟨_,y,h1,a⟩:=aE b _ ae;cases a;have:=d _ ae _ rfl;cases this;exact⟨_,by simp[ma,h1],.ty t l⟩
   . rename_i j r ae;cases h;obtain⟨_,y,h1,a⟩:=aE b _ ae;cases a with
     |rows a g=>
      have:=d _ ae _ rfl;cases this;exact⟨_,by simp[ma,h1,a.length],.rows a⟩
   . cases h
 . cases h
theorem ag6{str:Bool}(h:ct gl gd env J N (.len str x)=some (c,v,J')):dX N J J1 (.len str x) env1 (cG env G gd) c v J':=by
 simp only[ct]at h;split at h
 . rename_i s d;cases h;obtain⟨p,v1,a1,a2,a3⟩:=cv he ao d;have:=a2.kp;subst this;exact .neutral aE (.c (.t (U:=U) ⟨.int .i64,_⟩)) λa _=>⟨p,by simp only[aR,a1,ak];rfl,a3 a⟩
 . rename_i b d;split at h
   . rename_i E s g;cases h;obtain⟨p,v1,a1,a2,a3⟩:=cv he ao d;obtain⟨n,rfl,_,f⟩:=a2.A0;have:=f _ g _ rfl;cases this;exact .neutral aE (.c (.t (U:=U) ⟨.int .i64,_⟩)) λa _=>⟨p,by simp only[aR,a1,ak];rfl,a3 a⟩
   . cases h
 . rename_i w d;split at h
   . rename_i e dG;obtain⟨e,i⟩:=e;cases h;obtain⟨p,v1,a1,a2,a3⟩:=cv he ao d;refine .neutral aE (.c (.t (U:=U) ⟨.int .i64,_⟩)) λa _=>⟨p,?_,a3 a⟩
     unfold rU at dG;split at dG
     . rename_i t l;cases dG;have:=a2.ko;subst this;simp only[aR,a1,ak];exact ads
     . cases dG;have:=a2.uy;subst this;simp only[aR,a1,ak];rfl
     . rename_i b;obtain⟨sz,n,rfl,g,f⟩:=a2.hb;simp only[aR,a1,ak];split at dG
       . rename_i t l ae;cases dG;have:=f _ ae _ rfl;cases this;rfl
       . rename_i j r ae;cases dG;have:=f _ ae _ rfl;cases this;rfl
       . cases dG
     . cases dG
   . cases h
 . cases h
omit he ao aE in
theorem G6{bytes n:Nat}:room bytes n=true↔(2*n+192)*bytes<=j'/\n<=eE:=by simp[room]
omit he ao aE in
theorem Dj{bytes n:Nat}(h:room bytes n=true):lG n bytes/\n<=eE:=⟨.inl (G6.1 h).1,(G6.1 h).2⟩
theorem abq{sz bytes:Nat}(h:ct gl gd env J N (.append sz bytes x y)=some (c,v,J')):dX N J J1 (.append sz bytes x y) env1 (cG env G gd) c v J':=by
 simp only[ct]at h;split at h
 . rename_i w d u;split at h
   . rename_i ab ap C;split at h
     . rename_i blk M;cases h;obtain⟨p,v1,a1,a2,a3⟩:=cv he ao d;obtain⟨q,D,b1,b2,b3⟩:=cv he ao u;have:=a2.uy;subst this;obtain⟨ys,E,o⟩:=He aE b2 C;have k:dm N J (N+16) (cE J N blk):=lQ;obtain⟨d1,d2,d3⟩:=o.blk (N':=N+16) (J':=cE J N blk) M;refine .store rfl k (.c (.arr N sz ys.length (by omega) ?_)) λj m=>⟨p/\q/\(∀e,e∈ys->e.length=sz)/\lG ys.length bytes/\ys.length<=eE,_,by simp only[aR,a1,b1,ak,show mU (.c .aF) D=none from rfl,E],⟨a3 j,b3 j,d2,?_⟩,aE.put (by omega) k d1⟩
       . intro x d r f;rw[hN,ad rfl]at d;cases d;rw[d3]at f;cases f;rw[o.length]
       . rw[o.length];exact Dj m
     . cases h
   . cases h
 . rename_i b w d u;split at h
   . rename_i ar xb ab aa W C;split at h
     . cases h
     . rename_i am;split at h
       . cases h
       . rename_i s;split at h
         . rename_i au Z;split at h
           . rename_i blk M;cases h;obtain⟨p,v1,a1,a2,a3⟩:=cv he ao d;obtain⟨q,D,b1,b2,b3⟩:=cv he ao u;obtain⟨g,Q,V,ag,R⟩:=a2.hb;subst V;obtain⟨ys,E,o⟩:=He aE b2 C;obtain⟨xs,aK,B⟩:=He aE a2 W;have a:=B.join o Z;have A:dm N (dl J b) (N+16) (cE (dl J b) N blk):=lQ;have k:dm N J (N+16) (cE (dl J b) N blk):=dm.trans tc A;obtain⟨d1,d2,d3⟩:=a.blk (N':=N+16) (J':=cE (dl J b) N blk) M;obtain⟨hs,aD⟩:aV J1 b=some (.arr g xs)/\Q=xs.length:=by
              simp only[ma]at aK;grind
             have T:g=sz:=by
              unfold RP at s;split at s
              . rename_i z a;split at s
                . rename_i r f;have:=R _ a _ f;simp_all
                . cases s
              . cases s
             subst T;have I:cx N (dl J b) (ig J1 b):=by
              intro i z a;rw[n3]at a;split at a
              . cases a
              . rename_i L;obtain⟨h1,y,F,H⟩:=aE i z a;exact⟨h1,y,by rw[fO,al L];exact F,H.mono tc⟩
             have an:aa≠some b:=by
              intro e;simp_all
             refine .store rfl k (.c (.arr N g (xs++ys).length (by omega) ?_)) λj m=>⟨p/\q/\g=g/\g=g/\0=0/\Q=xs.length/\(∀e,e∈ys->e.length=g)/\lG (xs.length+ys.length) bytes/\xs.length+ys.length<=eE,_,?_,⟨a3 j,b3 j,rfl,rfl,rfl,aD,λe he=>d2 e (by simp[he]),?_⟩,I.put (by omega) A d1⟩
             . intro x d r f;rw[hN,ad rfl]at d;cases d;rw[d3]at f;cases f;rw[a.length]
             . have P:mU (.c (.arr b g 0 Q)) D=none:=by
                refine abp (J1:=J1) b2 ?_ ?_ ?_<;>(intros;rintro rfl;simp[rU]at C)
               simp only[aR,a1,b1,ak,P,E,hs];grind
             . have:=Dj m;rw[<-a.length,c4]at this;exact this
           . cases h
         . cases h
   . cases h
 . rename_i b h0 af n len d u;split at h
   . rename_i K;have K:=cV K;subst K;split at h
     . rename_i t l ae;split at h
       . rename_i O;have O:=cV O;cases h;obtain⟨p,v1,a1,a2,a3⟩:=cv he ao d;obtain⟨q,D,b1,b2,b3⟩:=cv he ao u;cases a2 with|c a2=>
         cases a2 with|pre _ s1 _ ah X=>
         cases b2 with|c b2=>
         cases b2 with|dH _ aq _ _ ai Y=>
         have aK:=X _ ae _ rfl;have B:=Y _ ae _ rfl;dsimp only at aK B;subst aK B;obtain⟨aj,z,d1,d2⟩:=aE b _ ae;cases d2 with
         |arr=>
          have A:dm N (dl J b) (N+16) (cE (dl J b) N (.arr t (l.take h0++(l.drop n).take len))):=lQ;have k:dm N J (N+16) (cE (dl J b) N (.arr t (l.take h0++(l.drop n).take len))):=dm.trans tc A;have I:cx N (dl J b) (ig J1 b):=by
           intro i z a;rw[n3]at a;split at a
           . cases a
           . rename_i L;obtain⟨h1,y,F,H⟩:=aE i z a;exact⟨h1,y,by rw[fO,al L];exact F,H.mono tc⟩
          refine .store rfl k (.c (.arr N (t.sz U) (l.take h0++(l.drop n).take len).length (by omega) ?_)) λj m=>?_
          . intro x d r f;rw[hN,ad rfl]at d;cases d;simp only[cP.df,bG]at f;exact f.symm
          . simp only[cc,dq]at m;have S:(l.take h0++(l.drop n).take len).length=h0+len:=by simp;omega
            refine⟨p/\q/\t.sz U=t.sz U/\t.sz U=t.sz U/\t.sz U=t.sz U/\0=0/\h0+len<=(l.map (t.enc U)).length/\n+len<=(l.map (t.enc U)).length,_,?_,⟨a3 j,b3 j,rfl,rfl,rfl,rfl,by simpa using m.1,by simpa using m.2⟩,I.put (by omega) A (.arr t _)⟩;have P:mU (.c (.arr b (t.sz U) 0 h0)) (.c (.fx b (t.sz U) n len))=some (b,t.sz U,0,h0,t.sz U,n,len):=(by simp[mU]);simp only[aR,a1,b1,ak,P,uw,d1,S,p8,yk,BK];subst O;simp
       . cases h
     . cases h
   . cases h
 . cases h
omit he ao aE in
theorem Jd{t:aJ}(ht:t.xz=false):∀{xs:List (bj U)} {ds:List C} {l:List (t.den U.D)},a8 (cg N J) xs ds->AO t xs=some l->∃ts,toTs ds=some ts/\ts.map (λx=>[x])=l.map (t.enc U)
 |[],[],l,_,h=>by simp[AO]at h;subst h;exact⟨[],rfl,rfl⟩
 |x::xs,d::ds,l,.cons h1 b,h=>by
  unfold AO at h;split at h
  . grind
  . rename_i c r g;cases g;split at h
    . rename_i y m e i;cases h;obtain⟨ts,aK,a⟩:=Jd ht b i;cases h1;have f:=Cell.ky e;subst f;refine⟨Cell.enc U ⟨t,y⟩::ts,by simp[toTs,aK,toT],?_⟩;rw[gB,a,gB]
      congr 1
      cases t<;>first|rfl|cases ht
    . cases h
  . cases h
theorem abr{cs:List C}(h:ct gl gd env J N (.allocA cs)=some (c,v,J')):dX N J J1 (.allocA cs) env1 (cG env G gd) c v J':=by
 simp only[ct]at h;split at h
 . rename_i xs e;split at h
   . rename_i t l ae;cases h;unfold N1 at ae;split at ae
     . rename_i a r;split at ae
       . rename_i b ht hs;cases ae;obtain⟨ts,aK,d⟩:=Jd ht (tK (N:=N) (J:=J) e) hs;have k:dm N J (N+16) (cE J N (.arr a.ty b)):=lQ;refine .store rfl k (.c (.ptr _ _)) λf _=>⟨True,_,by simp only[aR,aK,f',d];rfl,trivial,aE.put (by omega) k ?_⟩
         have g:a.ty.sz U=1:=by
          generalize a.ty=t0 at ht;cases t0<;>first|rfl|cases ht
         have:=hW.arr (N:=N+16) (J:=cE J N (.arr a.ty b)) a.ty b;grind
       . cases ae
     . cases ae
   . cases h
 . cases h
theorem acQ{k:Nat}(h:ct gl gd env J N (.idxP k x y)=some (c,v,J')):dX N J J1 (.idxP k x y) env1 (cG env G gd) c v J':=by
 simp only[ct]at h;split at h
 . rename_i b kk m f g;split at h
   . rename_i t l n;split at h
     . rename_i a;have a:=cV a;cases h;obtain⟨i,v1,a1,a2,a3⟩:=cv he ao f;obtain⟨j,o,b1,b2,b3⟩:=cv he ao g;have:=a2.hR;subst this;have:=b2.gq;subst this;refine .neutral aE (.c (.cH _ _ _ _)) λe d=>⟨i/\j/\(0:Int)<=m/\Int.toNat m<k,?_,a3 e,b3 e,(tg.1 d).1,(tg.1 d).2⟩
       simp only[aR,a1,b1,ak,a];rfl
     . cases h
   . cases h
 . cases h
theorem acR{k:Nat}{e d:Option aS}(h:ct gl gd env J N (.slcP k x e d)=some (c,v,J')):dX N J J1 (.slcP k x e d) env1 (cG env G gd) c v J':=by
 simp only[ct]at h;split at h
 . rename_i b l r g ae i;cases h;obtain⟨m,v1,a1,a2,a3⟩:=cv he ao g;obtain⟨pl,j,l2⟩:=pX he ao aE ae;obtain⟨n,o,p⟩:=pX he ao aE i;have:=a2.hR;subst this;exact .neutral aE (.c (.sub _ _ _)) λa f=>⟨m/\pl/\n/\0<=l.getD 0/\l.getD 0<=r.getD (k:Int)/\r.getD (k:Int)<=(k:Int),by simp only[aR,a1,j,o,ak],a3 a,l2 a,p a,iq.1 f⟩
 . cases h
omit he ao aE in
theorem Cy:∀(l:aq),bytesOf (List.map ((aJ.int .u8).enc U) l)=some (strOf l)
 |[]=>rfl
 |m::l=>by
  have:=Cy l;show bytesOf ([T.int .u8 m]::_)=_;simp only[bytesOf,this];rfl
omit he ao aE in
theorem acw{b len:Nat}{s:aj}(h:aV J1 b=some (.arr 1 es))(hs:bytesOf ((es.drop off).take len)=some s):nc J1 (.c (.arr b 1 off len))=some (off+len<=es.length,s):=by simp[nc,h,hs]
omit he ao aE in
theorem acx{b len:Nat}{s:aj}(h:aV J1 b=some (.arr 1 es))(hs:bytesOf ((es.drop off).take len)=some s):nc J1 (.c (.fx b 1 off len))=some (off+len<=es.length,s):=by simp[nc,h,hs]
omit he ao aE in
theorem ZD{s:aj}(hs:bytesOf es=some s):nc J1 (.c (.t (.slice es)))=some (True,s):=by simp[nc,hs]
theorem ag0(h:ct gl gd env J N (.b2s x)=some (c,v,J')):dX N J J1 (.b2s x) env1 (cG env G gd) c v J':=by
 simp only[ct]at h;split at h
 . rename_i l d;cases h;obtain⟨f,v1,a1,a2,a3⟩:=cv he ao d;have:=a2.ko;subst this
   exact .neutral aE (.c (.t (U:=U) ⟨.str,_⟩)) λa j=>⟨f/\True,by
    simp only[aR,a1,ak]
    exact(dS (Option.map _) (ZD (J1:=J1) (Cy (U:=U) l))).trans rfl,a3 a,trivial⟩
 . rename_i d;cases h;obtain⟨f,v1,a1,a2,a3⟩:=cv he ao d;have:=a2.uy;subst this;exact .neutral aE (.c (.t (U:=U) ⟨.str,_⟩)) λa j=>⟨f/\True,by simp only[aR,a1,ak,nc,f'];rfl,a3 a,trivial⟩
 . rename_i b d;split at h
   . rename_i l i;cases h;obtain⟨f,v1,a1,a2,a3⟩:=cv he ao d;obtain⟨p,n,rfl,o,a⟩:=a2.hb;have:=a _ i _ rfl;cases this;obtain⟨_,y,m,k⟩:=aE _ _ i;cases k;refine .neutral aE (.c (.t (U:=U) ⟨.str,_⟩)) λa j=>⟨f/\(0+l.length<=(l.map ((aJ.int .u8).enc U)).length),?_,a3 a,by simp⟩
     simp only[aR,a1,ak];have e:bytesOf (((l.map ((aJ.int .u8).enc U)).drop 0).take l.length)=some (strOf l):=by rw[fF,lX (by simp)];exact Cy l
     exact(dS (Option.map _) (acw m e)).trans rfl
   . cases h
 . rename_i b g len d;split at h
   . rename_i l i;cases h;obtain⟨f,v1,a1,a2,a3⟩:=cv he ao d;have:v1= .c (.fx b 1 g len):=by cases a2 with|c h=>cases h;rfl
     subst this;obtain⟨_,y,m,k⟩:=aE _ _ i;cases k;refine .neutral aE (.c (.t (U:=U) ⟨.str,_⟩)) λa j=>⟨f/\(g+len<=(l.map ((aJ.int .u8).enc U)).length),?_,a3 a,by simpa[wH]using j⟩
     simp only[aR,a1,ak];have e:bytesOf (((l.map ((aJ.int .u8).enc U)).drop g).take len)=some (strOf ((l.drop g).take len)):=by rw[<-BK,<-yk];exact Cy ((l.drop g).take len)
     exact(dS (Option.map _) (acx m e)).trans rfl
   . cases h
 . cases h
theorem abt{e8:Nat}(h:ct gl gd env J N (.allocS e e8)=some (c,v,J')):dX N J J1 (.allocS e e8) env1 (cG env G gd) c v J':=by
 simp only[ct,bG,bE]at h;obtain⟨rfl,rfl,rfl⟩:=h;have f:dm N J (N+16) (cE (cE J (N+1) (.buf e8 [])) N (.b8 e (.cI (N+1)))):=by
  refine⟨by omega,λb m k a=>?_⟩;rw[hN,bp,hN,bp]at a;grind
 refine .store rfl f (.c (.ptr _ _)) λ_ _=>⟨True,_,rfl,trivial,λb x a=>?_⟩
 rw[hN]at a;rw[cX];by_cases h1:N=b
 . rw[ad h1]at a⊢;cases a;refine⟨by omega,_,rfl,.b8 (.cI _ _ (by omega) λx a p g=>?_)⟩;rw[hN,bp,hN,ad rfl]at a;cases a;simpa[cP.df]using g.symm
 . rw[al h1,hN]at a;rw[al h1,cX];by_cases d:N+1=b
   . rw[ad d]at a⊢;cases a;exact⟨by omega,_,rfl,.buf _ _⟩
   . rw[al d]at a⊢;obtain⟨l,y,i,j⟩:=aE b x a;exact⟨by omega,y,i,j.mono f⟩
theorem acy(h:ct gl gd env J N .mkset=some (c,v,J')):dX N J J1 .mkset env1 (cG env G gd) c v J':=by
 simp only[ct,bG,bE]at h;obtain⟨rfl,rfl,rfl⟩:=h;have k:dm N J (N+16) (cE J N (.set [])):=lQ;exact .store rfl k (.c (.mp _)) λ_ _=>⟨True,_,rfl,trivial,aE.put (by omega) k (.set _)⟩
theorem acz(h:ct gl gd env J N (.lkset x y)=some (c,v,J')):dX N J J1 (.lkset x y) env1 (cG env G gd) c v J':=by
 simp only[ct]at h;split at h
 . rename_i b s e f;split at h
   . rename_i ks d;cases h;obtain⟨p,v1,a1,a2,a3⟩:=cv he ao e;obtain⟨q,g,b1,b2,b3⟩:=cv he ao f;have:=a2.EZ;subst this;have:=b2.kp;subst this;obtain⟨_,z,d1,d2⟩:=aE b _ d;cases d2;exact .neutral aE (.c (.t (U:=U) ⟨.bool,_⟩)) λa _=>⟨p/\q,by simp only[aR,a1,b1,ak,d1];rfl,a3 a,b3 a⟩
   . cases h
 . cases h
theorem acA(h:ct gl gd env J N (.upset x y)=some (c,v,J')):dX N J J1 (.upset x y) env1 (cG env G gd) c v J':=by
 simp only[ct]at h;split at h
 . rename_i b s f g;split at h
   . rename_i ks d;cases h;obtain⟨p,v1,a1,a2,a3⟩:=cv he ao f;obtain⟨q,j,b1,b2,b3⟩:=cv he ao g;have:=a2.EZ;subst this;have:=b2.kp;subst this;obtain⟨i,z,d1,d2⟩:=aE b _ d;cases d2;have e:dm N J (N+16) (cE J b (.set (iT ks s))):=nC (by omega) d (λp h=>by simp[cP.df]at h);exact .store rfl e (.aY [] [] rfl (by simp)) λa _=>⟨p/\q,_,by simp only[aR,a1,b1,ak,d1],⟨a3 a,b3 a⟩,aE.put (by omega) e (.set _)⟩
   . cases h
 . cases h
theorem ZE{bytes:Nat}(h:ct gl gd env J N (.appendB e bytes x y)=some (c,v,J')):dX N J J1 (.appendB e bytes x y) env1 (cG env G gd) c v J':=by
 simp only[ct]at h;split at h
 . rename_i b s a C;split at h
   . rename_i d l f;split at h
     . rename_i A;have:=cV A;subst this;cases h;obtain⟨p,v1,a1,a2,a3⟩:=cv he ao a;obtain⟨q,E,b1,b2,b3⟩:=cv he ao C;obtain⟨n,rfl,D,w⟩:=a2.A0;have:=w _ f _ rfl;cases this;have:=b2.kp;subst this;obtain⟨_,z,d1,d2⟩:=aE b _ f;cases d2;have k:dm N J N (dl J b):=tc;have m:dm N (dl J b) (N+16) (cE (dl J b) N (.buf d (A2 l s))):=lQ;have u:cx N (dl J b) (ig J1 b):=by
        intro o x a;rw[n3]at a;split at a
        . cases a
        . rename_i B;obtain⟨h1,y,r,t⟩:=aE o x a;exact⟨h1,y,by rw[fO,al B];exact r,t.mono k⟩
       refine .store rfl (k.trans m) (.c (.cI N (List.length l+List.length s) (by omega) λx a p j=>?_)) λi g=>⟨p/\q/\d=d/\List.length l=List.length l/\lG (List.length l+List.length s) bytes/\List.length l+List.length s<=eE,_,?_,⟨a3 i,b3 i,rfl,rfl,(Dj g).1,(Dj g).2⟩,u.put (by omega) m (.buf _ _)⟩
       . rw[hN,ad rfl]at a;cases a;simp only[cP.df,bG]at j;exact j.symm.trans (dS (Prod.mk 1) Yx)
       . simp only[aR,a1,b1,ak,d1];rfl
     . cases h
   . cases h
 . cases h
theorem acB(h:ct gl gd env J N (.sdata x)=some (c,v,J')):dX N J J1 (.sdata x) env1 (cG env G gd) c v J':=by
 simp only[ct]at h;split at h
 . rename_i b d;cases h;obtain⟨p,v1,a1,a2,a3⟩:=cv he ao d;obtain⟨n,rfl,_,_⟩:=a2.A0;exact .neutral aE (.c (.eg _)) λa _=>⟨p,by simp[aR,a1],a3 a⟩
 . cases h
theorem acS(h:ct gl gd env J N (.ustr e x y)=some (c,v,J')):dX N J J1 (.ustr e x y) env1 (cG env G gd) c v J':=by
 simp only[ct]at h;split at h
 . rename_i b m a w;split at h
   . rename_i d l o;split at h
     . rename_i s;have:=cV s;subst this;cases h;obtain⟨p,v1,a1,a2,a3⟩:=cv he ao a;obtain⟨q,A,b1,b2,b3⟩:=cv he ao w;have:=a2.RD;subst this;have:=b2.gq;subst this;obtain⟨_,z,d1,d2⟩:=aE b _ o;cases d2;have g:dm N J N (dl J b):=tc;have n:cx N (dl J b) (ig J1 b):=by
        intro i x a;rw[n3]at a;split at a
        . cases a
        . rename_i u;obtain⟨h1,y,j,k⟩:=aE i x a;exact⟨h1,y,by rw[fO,al u];exact j,k.mono g⟩
       refine .store rfl (g.trans (dm.more (by omega))) (.c (.t (U:=U) ⟨.str,_⟩)) λf r=>⟨p/\q/\d=d/\m=(List.length l:Int),_,?_,⟨a3 f,b3 f,rfl,acq.1 r⟩,n.mono (by omega)⟩
       simp only[aR,a1,b1,ak,d1];rfl
     . cases h
   . cases h
 . cases h
theorem ZF{sz len:Nat}{parts:List (Nat×aS)}(h:ct gl gd env J N (.bsliceT e sz len z parts)=some (c,v,J')):dX N J J1 (.bsliceT e sz len z parts) env1 (cG env G gd) c v J':=by
 simp only[ct]at h;split at h
 . cases h
 . rename_i t ht;split at h
   . rename_i k i;split at h
     . cases h
     . rename_i ts d;split at h
       . cases h
       . rename_i b;have b:=cV b;split at h
         . rename_i rows a;split at h
           . rename_i l ae;cases h;have j:=tK (N:=N) (J:=J) i;obtain⟨p,es,a1,a2,a4,a3⟩:=Gk he ao a (es:=List.replicate len ts) (a8.replicate (R:=λr e=>hV r=some e) d len) (by intro r a;rw[Bz a];exact b);have f:l.map (t.enc U)=es:=wg ae a2;refine .neutral aE (.c (.t (U:=U) ⟨.slice t,l⟩)) λg _=>⟨p,?_,a3 g⟩
             simp only[aR,Dy j d,ak,a1,f'];rw[<-f];rfl
           . cases h
         . cases h
   . cases h
theorem I9(h:ct gl gd env J N o=some (c,v,J')):dX N J J1 o env1 (cG env G gd) c v J':=by
 cases o with
 |mov x=>exact ag7 he ao aE h
 |pick c x y=>exact adt he ao aE h
 |alloc cs=>exact acu he ao aE h
 |box x=>exact ag2 he ao aE h
 |allocA cs=>exact abr he ao aE h
 |idxP k x i=>exact acQ he ao aE h
 |slcP k x d a=>exact acR he ao aE h
 |b2s x=>exact ag0 he ao aE h
 |allocS e e8=>exact abt he ao aE h
 |bsliceT e sz len z parts=>exact ZF he ao aE h
 |mkset=>exact acy he ao aE h
 |lkset x k=>exact acz he ao aE h
 |upset x k=>exact acA he ao aE h
 |appendB e b x y=>exact ZE he ao aE h
 |sdata x=>exact acB he ao aE h
 |ustr e x k=>exact acS he ao aE h
 |build z parts=>exact acs he ao aE h
 |bslice sz len z parts=>exact aag he ao aE h
 |load agg n x=>exact adv he ao aE h
 |store n x v=>exact acv he ao aE h
 |nilCheck x=>exact YK he ao aE h
 |bin op x y=>exact ag1 he ao aE h
 |eqAgg neg ks x y=>exact acr he ao aE h
 |eqBool neg x y=>exact aaf he ao aE h
 |eqNil neg x=>simp[ct]at h
 |not x=>exact ag8 he ao aE h
 |conv k x=>exact Ts he ao aE h
 |i2s x=>exact ag5 he ao aE h
 |s2s x=>exact ag9 he ao aE h
 |fldA off x=>exact adu he ao aE h
 |fld agg off n x=>exact ag4 he ao aE h
 |idxA sz x i=>exact adw he ao aE h
 |idxS x i=>exact adx he ao aE h
 |slcS x d a=>exact ady he ao aE h
 |slc sz x d a=>exact ag' he ao aE h
 |slc0 x=>exact adz he ao aE h
 |mkfn f caps=>exact acM he ao aE h
 |ext x i=>exact ag3 he ao aE h
 |len str x=>exact ag6 he ao aE h
 |append sz bytes x y=>exact abq he ao aE h
 |max2 x y=>exact acN he ao aE h
 |min2 x y=>exact acO he ao aE h
 |call f args=>simp[ct]at h
 |iI x args=>simp[ct]at h
end
end
end
section
open Go
variable {U:cK}
def bj.cf(b0:Nat)(c:Cell U.D):bj U->bj U
 |.arr b=>match Nat.beq b b0 with
  |true=>.t c
  |false=>.arr b
 |.cH b ty i o=>match Nat.beq b b0 with
  |true=>.dead
  |false=>.cH b ty i o
 |.pre b h=>match Nat.beq b b0 with
  |true=>.dead
  |false=>.pre b h
 |.dH b a len=>match Nat.beq b b0 with
  |true=>.dead
  |false=>.dH b a len
 |x=>x
def bz.cf(b0:Nat)(c:Cell U.D):bz U->bz U
 |.c x=>.c (x.cf b0 c)
 |.agg cs=>.agg (cs.map (bj.cf b0 c))
 |.aY vs=>.aY (go b0 c vs)
where go (b0:Nat) (c:Cell U.D):List (bz U)->List (bz U)
 |[]=>[]
 |v::vs=>v.cf b0 c::go b0 c vs
def cP.cf(b0:Nat)(c:Cell U.D):cP U->cP U
 |.box cs=>.box (cs.map (bj.cf b0 c))
 |.b8 E x=>.b8 E (x.cf b0 c)
 |.cA t l i o x=>.cA t l i o (x.cf b0 c)
 |x=>x
def rV(b0:Nat)(c:Cell U.D):bU U->bU U
 |[]=>[]
 |(k,v)::r=>(k,v.cf b0 c)::rV b0 c r
def mW(b0:Nat)(c:Cell U.D):bf U->bf U
 |[]=>[]
 |(k,x)::r=>match Nat.beq k b0 with
  |true=>mW b0 c r
  |false=>(k,x.cf b0 c)::mW b0 c r
def AJ(b:Nat)(t:aJ)(env:bU U)(J:bf U):Option (bU U×bf U):=
 match aX J b with
 |some (.arr a l)=>match Cell.as (.slice t) (⟨.slice a,l⟩:Cell U.D)with
  |some l=>some (rV b ⟨.slice t,l⟩ env,mW b ⟨.slice t,l⟩ J)
  |none=>none
 |some (.rows _ r)=>match l' U t r with
  |some l=>some (rV b ⟨.slice t,l⟩ env,mW b ⟨.slice t,l⟩ J)
  |none=>none
 |_=>some (env,J)
def kV:List (Nat×aJ)->bU U->bf U->Option (bU U×bf U)
 |[],env,J=>some (env,J)
 |(b,t)::r,env,J=>match AJ b t env J with
  |some (env',J')=>kV r env' J'
  |none=>none
variable{b0 j:Nat}{c:Cell U.D}{es:List (List T)}{t:aJ}{cs:List C}{R:Type}
section
variable {kk N:Nat}{J J':bf U}{J1:a7}{env env':bU U}{env1:Env}{G:Nat->Bool}{gl:ev}
theorem Dk:∀{env:bU U} {k:Nat},aX (rV b0 c env) k=(aX env k).map (bz.cf b0 c)
 |[],k=>rfl
 |(i,v)::r,k=>by
  simp only[rV,aX];cases Nat.beq i k with
  |true=>rfl
  |false=>exact Dk
theorem th{b0:Nat}{c:Cell U.D}:∀{J:bf U} {k:Nat},aX (mW b0 c J) k=if k=b0 then none else(aX J k).map (cP.cf b0 c)
 |[],k=>by simp[mW,aX]
 |(i,x)::r,k=>by
  simp only[mW];cases h:Nat.beq i b0 with
  |true=>
   have:=cV h;subst this;simp only[th,aX];by_cases a:k=i
   . grind
   . rw[al a,al a];cases b:Nat.beq i k with
     |true=>exact absurd (cV b).symm a
     |false=>rfl
  |false=>
   simp only[aX,th];grind
theorem cP.Bq{x:cP U}:(x.cf b0 c).df=x.df:=by cases x<;>rfl
theorem cg.cf{b0 sz:Nat}{c:Cell U.D}{es:List (List T)}{A:cP U}(h0:aX J b0=some A)(E:A.df=some (sz,es.length))(B:c.enc U= .slice es){x:bj U}{d:C}(h:cg N J x d):
 cg N (mW b0 c J) (x.cf b0 c) (d.cf b0 sz es):=by
 cases h with
 |t c=>exact .t c
 |ptr b o=>exact .ptr b o
 |cH b t i o=>
  simp only[bj.cf,C.cf];cases h:Nat.beq b b0 with
  |true=>rw[ad (cV h)];exact .dead _
  |false=>rw[al (hG h)];exact .cH b t i o
 |dO t x o=>exact .dO t x o
 |arr b w n q h=>
  simp only[bj.cf,C.cf];cases j:Nat.beq b b0 with
  |true=>
   have:=cV j;subst this;have:=h A h0 _ E;cases this;rw[ad rfl,ad ⟨rfl,by omega⟩];have:cut es 0 es.length=es:=(by simp[cut]);rw[this,<-B];exact .t c
  |false=>
   rw[al (hG j)];refine .arr b w n q λy a p e=>?_;rw[th,al (hG j)]at a;simp only[bc]at a;obtain⟨v,u,rfl⟩:=a;rw[cP.Bq]at e;exact h v u p e
 |sub b z len=>exact .sub b z len
 |pre b w n q h=>
  simp only[bj.cf];cases j:Nat.beq b b0 with
  |true=>exact .dead _
  |false=>
   simp only[C.cf];rw[al (hG j)];refine .pre b w n q λy a p e=>?_;rw[th,al (hG j)]at a;simp only[bc]at a;obtain⟨v,u,rfl⟩:=a;rw[cP.Bq]at e;exact h v u p e
 |dH b w z len q h=>
  simp only[bj.cf];cases j:Nat.beq b b0 with
  |true=>exact .dead _
  |false=>
   simp only[C.cf];refine .dH b w z len q λy a p e=>?_;rw[th,al (hG j)]at a;simp only[bc]at a;obtain⟨v,u,rfl⟩:=a;rw[cP.Bq]at e;exact h v u p e
 |mp b=>exact .mp b
 |eg b=>exact .eg b
 |cI b n q h=>
  refine .cI b n q λy a p e=>?_;rw[th]at a;split at a
  . cases a
  . simp only[bc]at a;obtain⟨v,u,rfl⟩:=a;rw[cP.Bq]at e;exact h v u p e
 |aF=>exact .aF
 |e4=>exact .e4
 |e3=>exact .e3
 |fn f caps=>exact .fn f caps
 |dead d=>exact .dead _
theorem Je:∀{vs:List (bz U)} {i:Nat},(bz.cf.go b0 c vs)[i]?=(vs[i]?).map (bz.cf b0 c)
 |[],i=>by simp[bz.cf.go]
 |v::vs,0=>by simp[bz.cf.go]
 |v::vs,i+1=>by simp[bz.cf.go,Je]
theorem RV:∀{vs:List (bz U)},(bz.cf.go b0 c vs).length=vs.length
 |[]=>rfl
 |v::vs=>by simp[bz.cf.go,RV]
theorem ca.cf{b0 sz:Nat}{c:Cell U.D}{es:List (List T)}{o:cP U}(h0:aX J b0=some o)(e:o.df=some (sz,es.length))(a:c.enc U= .slice es){x:bz U}{d:V}(h:ca N J x d):
 ca N (mW b0 c J) (x.cf b0 c) (d.cf b0 sz es):=by
 induction h with
 |c h=>exact .c (h.cf h0 e a)
 |agg h=>exact .agg (a8.map_map (h.imp λ_ _ _ aa=>aa.cf h0 e a))
 |aY xs ds ae h ih=>
  refine .aY _ _ (by rw[RV,GO];exact ae) ?_;intro i x d j f;rw[Je,bc]at j;rw[Hx,bc]at f;obtain⟨u,t,rfl⟩:=j;obtain⟨p,q,rfl⟩:=f;exact ih i u p t q
theorem M6{sz:Nat}{p:cP U}(h0:aX J b0=some p)(g:p.df=some (sz,es.length))(f:c.enc U= .slice es)(hs:aV J1 b0=some (.arr sz es))(he:c5 N J G env env1)(aE:cx N J J1):
 Conv kk N env1 J1 N (qB b0 sz es env1) (mK b0 sz es J1)/\c5 N (mW b0 c J) G (rV b0 c env) (qB b0 sz es env1)/\cx N (mW b0 c J) (mK b0 sz es J1):=by
 refine⟨Conv.freeze b0 hs,λk v n=>?_,λb x e=>?_⟩
 . rw[Dk,bc]at n;obtain⟨v0,h1,rfl⟩:=n;obtain⟨d,j,m⟩:=he k v0 h1;exact⟨_,by rw[y1,j];rfl,m.cf h0 g f⟩
 . rw[th]at e;split at e
   . cases e
   . rename_i q;simp only[bc]at e;obtain⟨r,h1,rfl⟩:=e;obtain⟨j,y,m,a⟩:=aE b r h1;refine⟨j,y.cf b0 sz es,by rw[DN,al q,m];rfl,?_⟩;cases a with
     |box a=>exact .box (a8.map_map (a.imp λ_ _ _ aa=>aa.cf h0 g f))
     |arr t l=>exact .arr t l
     |set ks=>exact .set ks
     |buf E s=>exact .buf E s
     |b8 a=>exact .b8 (a.cf h0 g f)
     |cA t l i o a=>exact .cA t l i o (a.cf h0 g f)
     |rows a ba=>exact .rows a ba
theorem gL.cf(h:gL gl env G):gL gl (rV b0 c env) G:=by
 refine⟨h.free,λk t b e=>?_⟩;obtain⟨y,h1,a⟩:=h.held k t b e;refine⟨y,?_,a⟩;unfold fa at h1⊢;rw[Dk];split at h1
 . rename_i x f;rw[f];show some _=some y;exact h1
 . cases h1
theorem abV{α a:Type}{f:α->a}{l:List α}{sz:Nat}:some (sz,l.length)=some (sz,(l.map f).length):=by rw[gA]
theorem I'{b:Nat}(h:AJ b t env J=some (env',J'))(he:c5 N J G env env1)(aE:cx N J J1):
 ∃j bn,Conv kk N env1 J1 N j bn/\c5 N J' G env' j/\cx N J' bn/\(gL gl env G->gL gl env' G):=by
 unfold AJ at h;split at h
 . rename_i o n ae;split at h
   . rename_i l d;have e:=Cell.ky d;cases e;cases h;obtain⟨_,y,h1,a⟩:=aE b _ ae;cases a;obtain⟨f,g,i⟩:=M6 (kk:=kk) (c:=⟨.slice t,l⟩) (es:=List.map (t.enc U) l) ae abV rfl h1 he aE;exact⟨_,_,f,g,i,λao=>ao.cf⟩
   . cases h
 . rename_i sz r ae;split at h
   . rename_i l d;cases h;obtain⟨_,y,h1,a⟩:=aE b _ ae;cases a with
     | @rows _ _ es a m=>
      have k:=wg d a;obtain⟨f,g,i⟩:=M6 (kk:=kk) (c:=⟨.slice t,l⟩) (es:=es) ae (by simp only[cP.df];rw[a.length]) (by rw[<-k];rfl) h1 he aE;exact⟨_,_,f,g,i,λao=>ao.cf⟩
   . cases h
 . cases h;exact⟨env1,J1,Conv.refl,he,aE,λh=>h⟩
theorem yV:∀{l:List (Nat×aJ)} {env env':bU U} {J J':bf U} {env1:Env} {J1:a7},kV l env J=some (env',J')->c5 N J G env env1->cx N J J1->
 ∃a bn,Conv kk N env1 J1 N a bn/\c5 N J' G env' a/\cx N J' bn/\(gL gl env G->gL gl env' G)
 |[],env,env',J,J',env1,J1,h,he,aE=>by simp[kV]at h;obtain⟨rfl,rfl⟩:=h;exact⟨env1,J1,Conv.refl,he,aE,λh=>h⟩
 |(b,t)::r,env,env',J,J',env1,J1,h,he,aE=>by
  simp only[kV]at h;split at h
  . rename_i e s h1;obtain⟨aK,s1,d,f,g,i⟩:=I' (kk:=kk) (gl:=gl) h1 he aE;obtain⟨c,o,j,k,m,n⟩:=yV h f g;exact⟨c,o,d.trans j,k,m,λao=>n (i ao)⟩
  . cases h
theorem Conv.close{b sz i o:Nat}{t:T}(c:aV J1 b=some (.cA sz es i o (.t t))):
 Conv kk N env1 J1 N env1 (dd J1 b (.arr sz (es.set i ((el es i).take o++[t]++(el es i).drop (o+1))))):=by
 intro aB nt φ S a w U R;obtain⟨⟨a1,a2,a3,a4,a5,P⟩,⟨vs,E,H,J,x,z,K,L⟩,M⟩:=R.bP.blk _ _ c;have v:es[i]?=some (el es i):=by unfold el;rw[List.getD,eF a5];rfl
 have Q:(el es i).length=sz:=a3 _ (eJ v);refine⟨φ,S,R.put (R.dP _ _ c).1 rfl ⟨by simpa using a1,by simpa using a2,λe he=>?_,a4,λ_=>⟨vs,E,H,J,λG j e O he ht=>?_,M⟩⟩ λh0=>⟨λk y F D A=>R.bP.inj k b y _ F c D A h0,R.own b _ c h0⟩⟩
 . rcases tT he with he|rfl
   . exact a3 e he
   . simp;omega
 . rw[BJ]at he;by_cases p:i=G
   . subst p;rw[ad rfl,ad a5]at he;cases he;have f:=(mE (vs:=el es i) (off:=o) (xs:=[t]) (by simp;omega) j)
     unfold iw at f;rw[show o+[t].length=o+1 from rfl]at f;rw[f]at ht;by_cases q:j=o
     . subst q;rw[bp,fv,BL]at ht;cases ht;exact⟨z,K,L⟩
     . have B:(el es i)[j]?=some O:=by
        by_cases u:j<o
        . rwa [ad u]at ht
        . rwa [al u,bp]at ht
       exact x _ _ _ _ v B (λh=>q h.2)
   . rw[al p]at he;exact x _ _ _ _ he ht (λh=>p h.1.symm)
def Dl(b:Nat)(env:bU U)(J:bf U):Option (bU U×bf U):=
 match aX J b with
 |some (.cA t l i o (.t c))=>match Nat.ble (o+1) (t.sz U)with
  |true=>match rX U t l i o [.t c]with
   |some a=>some (env,cE J b (.arr t a))
   |none=>none
  |false=>none
 |_=>none
def M7(b:Nat)(env:bU U)(J:bf U):Option (bU U×bf U):=
 match aX J b with
 |some (.cA t l i o (.arr b2))=>match (t.row U (t.at U l i))[o]? with
  |some ⟨.slice a,_⟩=>match AJ b2 a env J with
   |some (env',J')=>Dl b env' J'
   |none=>none
  |_=>none
 |_=>Dl b env J
def KC:bf U->Option Nat
 |[]=>none
 |(b,.cA ..)::_=>some b
 |_::r=>KC r
def H6(env:bU U)(J:bf U):Option (bU U×bf U):=
 match KC J with
 |none=>some (env,J)
 |some b=>M7 b env J
theorem Te{b:Nat}(h:Dl b env J=some (env',J'))(he:c5 N J G env env1)(aE:cx N J J1):
 ∃f bn,Conv kk N env1 J1 N f bn/\c5 N J' G env' f/\cx N J' bn:=by
 unfold Dl at h;split at h
 . rename_i t l i o c ae;split at h
   . rename_i e;have e:=BE e;split at h
     . rename_i l2 g;cases h;obtain⟨m,y,h1,d⟩:=aE b _ ae;cases d with
       |cA _ _ _ _ d=>
        cases d;have r:l2.length=List.length l:=by
         unfold rX at g;grind
        have j:dm N J N (cE J b (.arr t l2)):=nC (ea _) ae (λp h=>by
         simp only[cP.df]at h⊢
         grind)
        refine⟨env1,dd J1 b (.arr (t.sz U) (l2.map (t.enc U))),?_,he.mono j,aE.put m j (.arr t l2)⟩;by_cases n:i<List.length l
        . obtain⟨ts,aK,k⟩:=HA (N:=N) (J:=J) (ds:=[.t (c.enc U)]) g n (.cons (.t c) .nil) (by simpa using e);have:ts=[c.enc U]:=(by simpa[toTs,toT]using aK.symm);subst this;have:=Conv.close (kk:=kk) (N:=N) (env1:=env1) h1;rw[k];simpa using this
        . intro aB nt φ S a w q R;obtain⟨⟨_,_,_,_,a5,_⟩,_⟩:=R.bP.blk _ _ h1;simp at a5;omega
     . cases h
   . cases h
 . cases h
theorem WT(h:H6 env J=some (env',J'))(he:c5 N J G env env1)(aE:cx N J J1):
 ∃a bn,Conv kk N env1 J1 N a bn/\c5 N J' G env' a/\cx N J' bn:=by
 unfold H6 at h;split at h
 . cases h;exact⟨env1,J1,Conv.refl,he,aE⟩
 . unfold M7 at h;split at h
   . split at h
     . split at h
       . rename_i e s h1;obtain⟨aK,s1,c,d,f,_⟩:=I' (kk:=kk) (gl:=[]) h1 he aE;obtain⟨b,k,g,i,j⟩:=Te (kk:=kk) h d f;exact⟨b,k,c.trans g,i,j⟩
       . cases h
     . cases h
   . exact Te h he aE
theorem Conv.own{k:Nat}{g:Bool}{sz:Nat}(p:look env1 k=some (g,.c .aF))(q:0<sz)(y:kk<=N):Conv kk N env1 J1 (N+1) ((k,g,.c (.arr N sz 0 0))::env1) (dd J1 N (.arr sz [])):=by
 intro aB nt φ S a w u R;have f:=R.E0 q (by omega);have cp:fG φ N (0,0) N=(0,0):=by simp[fG]
 refine⟨fG φ N (0,0),S,⟨f.bP,λi j v ae ao=>?_,λi j v ae ao=>?_,λi j v ae ao=>?_,f.dP,f.size,f.defers,f.ext,f.own,f.fix,f.fR⟩⟩
 . simp only[look]at ae;split at ae
   . rename_i e;cases ae;subst e;obtain⟨x,t,o⟩:=f.gI _ _ _ p ao;refine⟨x,t,?_⟩;cases o with
     |c o=>
      obtain⟨a,rfl⟩:=o;refine .c ⟨a,by rw[cp];rfl,λh=>absurd (by rw[cp]) h,by rw[cp];exact ea _⟩
   . exact f.gI i j v ae ao
 . simp only[look]at ae;split at ae
   . rename_i e;cases ae;subst e;exact f.hJ _ _ _ p ao
   . exact f.hJ i j v ae ao
 . simp only[look]at ae;split at ae
   . cases ae;simp[V.az,C.az,lt]
   . exact f.gH i j v ae ao
theorem Conv.agn{b:Nat}{sz:Nat}(D:aV J1 b=some (.box cs))(G:cs[j]?=some .aF)(Q:b<N)(L:0<sz)(W:kk<=N):
 Conv kk N env1 J1 (N+1) env1 (dd (dd J1 N (.arr sz [])) b (.box (cs.set j (.arr N sz 0 0)))):=by
 intro aB nt φ S a w U R;have e:=R.E0 L (by omega);have cp:fG φ N (0,0) N=(0,0):=by simp[fG]
 have o:aV (dd J1 N (.arr sz [])) b=some (.box cs):=by rw[cX,bp];exact D
 have A:∀c x,aV (dd (dd J1 N (.arr sz [])) b (.box (cs.set j (.arr N sz 0 0)))) c=some x->(c=b/\x= .box (cs.set j (.arr N sz 0 0)))\/aV (dd J1 N (.arr sz [])) c=some x:=by
  intro c x f;rw[cX]at f;grind
 have p:∀c x,aV (dd (dd J1 N (.arr sz [])) b (.box (cs.set j (.arr N sz 0 0)))) c=some x->∃y,aV (dd J1 N (.arr sz [])) c=some y:=by grind
 refine⟨fG φ N (0,0),S,⟨⟨λc x f=>?_,λc u x y f M H=>?_,e.bP.st⟩,e.gI,e.hJ,e.gH,λc x f=>?_,e.size,e.defers,e.ext,λc x f=>?_,e.fix,e.fR⟩⟩
 . rcases A c x f with⟨rfl,rfl⟩|h
   . obtain⟨h0,vs,E,h1,z,B⟩:=e.bP.blk _ _ o;refine⟨h0,vs,E,h1,?_,B⟩;obtain⟨v,X,J⟩:=z.get G;obtain⟨a,rfl⟩:=J;have:=a8.set (i:=j) z (a:= .arr N sz 0 0) (b:= .slice a 0 0) ⟨a,by rw[cp];rfl,λh=>absurd (by rw[cp]) h,by rw[cp];exact ea _⟩;have K:vs.set j (.slice a 0 0)=vs:=by
      apply yf;grind
     rw[K]at this;exact this
   . exact e.bP.blk c x h
 . obtain⟨t,q⟩:=p c x f;obtain⟨P,O⟩:=p u y M;exact e.bP.inj c u t P q O H
 . rcases A c x f with⟨rfl,rfl⟩|h
   . refine⟨(e.dP _ _ o).1,?_⟩;have:=(e.dP _ _ o).2;simp only[bO.az,c0]at this⊢;intro d F;rcases tT F with h|h
     . exact this d h
     . rw[h];simp[C.az,lt]
   . exact e.dP c x h
 . obtain⟨t,q⟩:=p c x f;exact e.own c t q
theorem Conv.trim{q b:Nat}{sz h:Nat}(G:aV J1 q=some (.box cs))(ap:cs[j]?=some (.arr b sz 0 h))(F:aV J1 b=some (.arr sz es))(aa:h<=es.length)(a4:q<N):
 Conv kk N env1 J1 (N+1) env1 (dd (dd (ig J1 b) N (.arr sz (es.take h))) q (.box (cs.set j (.arr N sz 0 h)))):=by
 intro aB nt φ S a w a2 R;have am:b<N:=by have:=(R.dP _ _ F).1;simpa[lt]using this
 have a5:q≠b:=by intro e;subst e;rw[G]at F;cases F
 have U:∀c,lt N c=true->fG φ N (φ b) c=φ c:=by
  intro c p;simp only[lt,dq]at p;simp only[fG];grind
 have z:∀c,lt N c=true->lt (N+1) c=true:=λc p=>M3 (by omega) p;have f:=R.zd U;have cp:fG φ N (φ b) N=φ b:=by simp[fG]
 have P:fG φ N (φ b) b=φ b:=U b (by simpa[lt]using am);have Q:∀c x,aV (dd (dd (ig J1 b) N (.arr sz (es.take h))) q (.box (cs.set j (.arr N sz 0 h)))) c=some x->(c=q/\x= .box (cs.set j (.arr N sz 0 h)))\/(c≠q/\c=N/\x= .arr sz (es.take h))\/(c≠q/\c≠N/\c≠b/\aV J1 c=some x):=by
  intro c x o;rw[cX]at o;split at o
  . grind
  . rename_i e;rw[cX]at o;split at o
    . grind
    . rename_i B;rw[fO]at o;grind
 have J:∀c x,aV (dd (dd (ig J1 b) N (.arr sz (es.take h))) q (.box (cs.set j (.arr N sz 0 h)))) c=some x->∃A y,aV J1 A=some y/\fG φ N (φ b) c=fG φ N (φ b) A/\(A=if c=N then b else c):=by grind
 refine⟨fG φ N (φ b),S,⟨⟨λc x o=>?_,λc A x y o aZ a3=>?_,f.bP.st⟩,f.gI,f.hJ,λk g v ae ao=>V.hl z (f.gH k g v ae ao),λc x o=>?_,f.size,f.defers,f.ext,λc x o h0=>?_,f.fix,λc p=>by have:=f.fR c p;exact z c this⟩⟩
 . rcases Q c x o with⟨rfl,rfl⟩|⟨_,rfl,rfl⟩|⟨_,_,_,u⟩
   . obtain⟨h0,vs,E,h1,D,H⟩:=f.bP.blk _ _ G;refine⟨h0,vs,E,h1,?_,H⟩;obtain⟨v,a9,ax⟩:=D.get ap;have ay:bk (fG φ N (φ b)) w S (.arr N sz 0 h) v:=by
      obtain⟨a,aK,B,dn⟩:=ax;rw[P]at aK B dn;exact⟨a,by rw[cp];exact aK,by rw[cp];exact B,by rw[cp];exact dn⟩
     have:=a8.set (i:=j) D ay;have aI:vs.set j v=vs:=by
      apply yf;grind
     rw[aI]at this;exact this
   . obtain⟨h0,h1,D,H,u⟩:=f.bP.blk _ _ F;rw[P]at h0 u;refine⟨by rw[cp,od];omega,by rw[od];omega,λe he=>D e (p5 he),H,λp=>?_⟩;rw[cp]at p⊢;obtain⟨vs,E,W,X,Y,Z⟩:=u p;refine⟨vs,E,W,X,λi j e t he ht=>?_,Z⟩;rw[lr]at he;split at he
     . exact Y i j e t he ht
     . cases he
   . exact f.bP.blk c x u
 . obtain⟨d,L,K,aK,B⟩:=J c x o;obtain⟨M,a1,a0,dn,iu⟩:=J A y aZ;have bS:d≠M:=(by grind);intro h0 O;rw[aK]at h0⊢;rw[dn]at O⊢;exact f.bP.inj d M L a1 K a0 bS h0 O
 . rcases Q c x o with⟨rfl,rfl⟩|⟨_,rfl,rfl⟩|⟨_,_,_,u⟩
   . refine⟨z _ (f.dP _ _ G).1,?_⟩;have:=(f.dP _ _ G).2;simp only[bO.az,c0]at this⊢;intro d an;rcases tT an with h|h
     . exact C.hl z (this d h)
     . rw[h];simp[C.az,lt]
   . exact⟨by simp[lt],rfl⟩
   . exact⟨z c (f.dP c x u).1,bO.hl z (f.dP c x u).2⟩
 . obtain⟨d,L,K,aK,_⟩:=J c x o;rw[aK]at h0⊢;exact f.own d L K h0
def vB:Nat->List (bj U)->Option (Nat×Nat×Nat)
 |_,[]=>none
 |j,.pre b h::_=>some (j,b,h)
 |j,_::r=>vB (j+1) r
def q1(J:bf U):bf U->Option (Nat×List (bj U)×Nat×Nat×Nat)
 |[]=>none
 |(q,.box cs)::r=>match aX J q with
  |some (.box a)=>match vB 0 a with
   |some p=>some (q,a,p)
   |none=>q1 J r
  |_=>q1 J r
 |_::r=>q1 J r
theorem Jf:∀{cs:List (bj U)} {j i b h:Nat},vB j cs=some (i,b,h)->j<=i/\cs[i-j]?=some (.pre b h)
 |[],j,i,b,h,a=>by simp[vB]at a
 |c::r,j,i,b,h,a=>by
  have next:vB (j+1) r=some (i,b,h)->j<=i/\(c::r)[i-j]?=some (.pre b h):=by
   intro a;obtain⟨h1,f⟩:=Jf a;grind
  cases c with
  |pre d e=>simp only[vB,bG,bE]at a;obtain⟨rfl,rfl,rfl⟩:=a;simp
  |_=>exact next a
theorem C1{q:Nat}{cs:List (bj U)}{i b h:Nat}:∀{l:bf U},q1 J l=some (q,cs,i,b,h)->aX J q=some (.box cs)/\cs[i]?=some (.pre b h)
 |[],a=>by simp[q1]at a
 |(k,x)::r,a=>by
  cases x with
  |box e=>
   simp only[q1]at a;split at a
   . rename_i f c;split at a
     . rename_i p d;simp only[bG,bE]at a;obtain⟨rfl,rfl,rfl⟩:=a;exact⟨c,by simpa using(Jf d).2⟩
     . exact C1 a
   . exact C1 a
  |_=>exact C1 (by simpa only[q1]using a)
def Ec{R:Type}(J:bf U)(N:Nat)(k:bf U->Nat->Option R):Option R:=
 match q1 J J with
 |none=>k J N
 |some (q,cs,j,b,h)=>match aX J b with
  |some (.arr t l)=>if (h<=l.length:Bool) then k (cE (cE (dl J b) N (.arr t (l.take h))) q (.box (cs.set j (.arr N)))) (N+1)else none
  |_=>none
theorem Ja{q b h0:Nat}{cs:List (bj U)}{x:bj U}{l:List (t.den U.D)}(k:aX J q=some (.box cs))(F:cs[j]?=some x)(i:aX J b=some (.arr t l))(a:∀d,cg N J x d->d= .arr b (t.sz U) 0 h0)(m:h0<=l.length)
 (he:c5 N J G env env1)(aE:cx N J J1):
 ∃bn,Conv kk N env1 J1 (N+1) env1 bn/\c5 (N+1) (cE (cE (dl J b) N (.arr t (l.take h0))) q (.box (cs.set j (.arr N)))) G env env1/\cx (N+1) (cE (cE (dl J b) N (.arr t (l.take h0))) q (.box (cs.set j (.arr N)))) bn:=by
 obtain⟨L,R,K,f⟩:=aE q _ k;obtain⟨P,Q,B,C⟩:=aE b _ i;cases C;cases f with
 | @box _ ds f=>
  obtain⟨d,E,O⟩:=f.get F;have:=a d O;subst this;have M:q≠b:=by intro e;subst e;rw[k]at i;cases i
  have o:dm N J N (dl J b):=tc;have r:dm N (dl J b) (N+1) (cE (dl J b) N (.arr t (l.take h0))):=lQ;have I:aX (cE (dl J b) N (.arr t (l.take h0))) q=some (.box cs):=by rw[hN,bp,n3,al (λe=>M e.symm)];exact k
  have s:dm (N+1) (cE (dl J b) N (.arr t (l.take h0))) (N+1) (cE (cE (dl J b) N (.arr t (l.take h0))) q (.box (cs.set j (.arr N)))):=nC (ea _) I (λp h=>by simp[cP.df]at h);have u:=(o.trans r).trans s;have A:cx N (dl J b) (ig J1 b):=by
   intro c x a;rw[n3]at a;split at a
   . cases a
   . rename_i H;obtain⟨v,y,w,z⟩:=aE c x a;exact⟨v,y,by rw[fO,al H];exact w,z.mono o⟩
  refine⟨_,Conv.trim K E B (by rw[gA];exact m) L,he.mono u,?_⟩;rw[<-yk];refine(A.put (by omega) r (.arr t (l.take h0))).put (by omega) s (.box ?_);refine a8.set (f.imp λ_ _ _ g=>g.mono u) (.arr N _ _ (by omega) λx a p n=>?_);rw[hN,bp,hN,ad rfl]at a;cases a;simp only[cP.df,bG]at n;rw[<-n,od,Nat.min_eq_left m]
theorem Jg{k:bf U->Nat->Option R}{r:R}(h:Ec J N k=some r)(he:c5 N J (λ_=>true) env env1)(aE:cx N J J1):
 ∃J' N' bn,k J' N'=some r/\Conv kk N env1 J1 N' env1 bn/\c5 N' J' (λ_=>true) env env1/\cx N' J' bn/\N<=N':=by
 unfold Ec at h;split at h
 . exact⟨J,N,J1,h,Conv.refl,he,aE,ea _⟩
 . rename_i q cs j b h0 e;obtain⟨i,f⟩:=C1 e;split at h
   . rename_i t l a;split at h
     . rename_i g
       obtain⟨s1,n,o,p⟩:=Ja (kk:=kk) (h0:=h0) i f a (λd m=>by
        cases m with
        |pre _ sz _ _ c=>
         have c:=c _ a _ rfl
         grind) (by simpa using g) he aE
       exact⟨_,_,s1,h,n,o,p,by omega⟩
     . cases h
   . cases h
def ti(kk:Nat):Nat->List (bj U)->Option (Nat×Nat)
 |_,[]=>none
 |j,.arr b::r=>match Nat.ble (b+1) kk with
  |true=>some (j,b)
  |false=>ti kk (j+1) r
 |j,_::r=>ti kk (j+1) r
def q2(kk:Nat)(J:bf U):bf U->Option (Nat×List (bj U)×Nat×Nat)
 |[]=>none
 |(q,.box _)::r=>match aX J q with
  |some (.box cs)=>match ti kk 0 cs with
   |some p=>some (q,cs,p)
   |none=>q2 kk J r
  |_=>q2 kk J r
 |_::r=>q2 kk J r
theorem Jh:∀{cs:List (bj U)} {j i b:Nat},ti kk j cs=some (i,b)->j<=i/\cs[i-j]?=some (.arr b)
 |[],j,i,b,a=>by simp[ti]at a
 |c::r,j,i,b,a=>by
  have next:ti kk (j+1) r=some (i,b)->j<=i/\(c::r)[i-j]?=some (.arr b):=by
   intro a;obtain⟨h1,e⟩:=Jh a;grind
  cases c with
  |arr d=>
   simp only[ti]at a;grind
  |_=>exact next a
theorem C2{kk q:Nat}{cs:List (bj U)}{i b:Nat}:∀{l:bf U},q2 kk J l=some (q,cs,i,b)->aX J q=some (.box cs)/\cs[i]?=some (.arr b)
 |[],a=>by simp[q2]at a
 |(k,x)::r,a=>by
  cases x with
  |box e=>
   simp only[q2]at a;split at a
   . rename_i f c;split at a
     . rename_i p d;simp only[bG,bE]at a;obtain⟨rfl,rfl,rfl⟩:=a;exact⟨c,by simpa using(Jh d).2⟩
     . exact C2 a
   . exact C2 a
  |_=>exact C2 (by simpa only[q2]using a)
def D8{R:Type}(kk:Nat)(J:bf U)(k:bf U->Nat->Option R):Option R:=
 match q2 kk J J with
 |none=>k J kk
 |some (q,cs,j,b)=>match aX J b with
  |some (.arr t l)=>k (cE (cE (dl J b) kk (.arr t l)) q (.box (cs.set j (.arr kk)))) (kk+1)
  |_=>k J kk
theorem Yy{k:bf U->Nat->Option R}{r:R}(h:D8 kk J k=some r)(he:c5 kk J (λ_=>true) env env1)(aE:cx kk J J1):
 ∃J' N' bn,k J' N'=some r/\Conv kk kk env1 J1 N' env1 bn/\c5 N' J' (λ_=>true) env env1/\cx N' J' bn/\kk<=N':=by
 unfold D8 at h;split at h
 . exact⟨J,kk,J1,h,Conv.refl,he,aE,ea _⟩
 . rename_i q cs j b g;obtain⟨m,i⟩:=C2 g;split at h
   . rename_i t l a
     obtain⟨s1,p,e,f⟩:=Ja (kk:=kk) (h0:=l.length) m i a (λd o=>by
      cases o with
      |arr _ sz n _ c=>
       have c:=c _ a _ rfl
       grind) (ea _) he aE
     rw[List.take_length]at e f;exact⟨_,_,s1,h,p,e,f,by omega⟩
   . exact⟨J,kk,J1,h,Conv.refl,he,aE,ea _⟩
inductive Pos where
 |slot (k:Nat)
 |cell (b j:Nat)
 |via (k j:Nat)
def AM(b j:Nat)(t:aJ)(env:bU U)(J:bf U)(N:Nat):Option (bU U×bf U):=
 match aX J b with
 |some (.box cs)=>match cs[j]? with
  |some .aF=>some (env,cE (cE J N (.arr t [])) b (.box (cs.set j (.arr N))))
  |_=>some (env,J)
 |_=>none
def Iw(p:Pos)(t:aJ)(env:bU U)(J:bf U)(N:Nat):Option (bU U×bf U):=
 match p with
 |.slot k=>match aX env k with
  |some (.c .aF)=>some ((k,.c (.arr N))::env,cE J N (.arr t []))
  |_=>some (env,J)
 |.cell b j=>AM b j t env J N
 |.via k j=>match aX env k with
  |some (.c (.ptr b _))=>AM b j t env J N
  |_=>none
def AL:List (Pos×aJ)->bU U->bf U->Nat->Option (bU U×bf U×Nat)
 |[],env,J,N=>some (env,J,N)
 |(p,t)::r,env,J,N=>match Iw p t env J N with
  |some (env',J')=>AL r env' J' (N+1)
  |none=>none
theorem J7{t:aJ}(he:c5 N J (λ_=>true) env env1)(aE:cx N J J1)(i:kk<=N):∃c bn,Conv kk N env1 J1 (N+1) c bn/\c5 (N+1) J (λ_=>true) env c/\cx (N+1) J bn:=by
 refine⟨env1,dd J1 N (.arr 1 []),λaB nt φ S a w g R=>⟨_,S,R.E0 (by omega) (by omega)⟩,he.mono (dm.more (by omega)),λb x f=>?_⟩;obtain⟨h1,y,d,e⟩:=aE b x f;exact⟨by omega,y,by rw[cX,bp];exact d,e.mono (dm.more (by omega))⟩
theorem Gx{b:Nat}(h:AM b j t env J N=some (env',J'))(he:c5 N J (λ_=>true) env env1)(aE:cx N J J1)(i:kk<=N):
 ∃f bn,Conv kk N env1 J1 (N+1) f bn/\c5 (N+1) J' (λ_=>true) env' f/\cx (N+1) J' bn:=by
 have same:=J7 (t:=t) he aE i;unfold AM at h;split at h
 . rename_i cs g;split at h
   . rename_i q;cases h;obtain⟨m,y,h1,a⟩:=aE b _ g;cases a with
     | @box _ ds a=>
      obtain⟨d,o,r⟩:=a.get q;cases r;have c:dm N J (N+1) (cE J N (.arr t [])):=lQ;have n:aX (cE J N (.arr t [])) b=some (.box cs):=by rw[hN,bp];exact g
      have e:dm (N+1) (cE J N (.arr t [])) (N+1) (cE (cE J N (.arr t [])) b (.box (cs.set j (.arr N)))):=nC (ea _) n (λp h=>by simp[cP.df]at h);refine⟨_,_,Conv.agn h1 o m (aJ.wI (t:=t) (U:=U)) i,(he.mono c).mono e,(aE.put (by omega) c (.arr t [])).put (by omega) e (.box ?_)⟩;refine a8.set (a.imp λ_ _ _ h=>(h.mono c).mono e) (.arr N _ _ (by omega) λx l p k=>?_);rw[hN,bp,hN,ad rfl]at l;cases l;simp[cP.df]at k;exact k.symm
   . cases h;exact same
 . cases h
theorem XQ{p:Pos}(h:Iw p t env J N=some (env',J'))(he:c5 N J (λ_=>true) env env1)(aE:cx N J J1)(b:kk<=N):
 ∃e bn,Conv kk N env1 J1 (N+1) e bn/\c5 (N+1) J' (λ_=>true) env' e/\cx (N+1) J' bn:=by
 have same:=J7 (t:=t) he aE b;unfold Iw at h;split at h
 . rename_i k;split at h
   . rename_i m;cases h;obtain⟨v1,h1,l⟩:=he k _ m;have:=l.uy;subst this;have j:dm N J (N+1) (cE J N (.arr t [])):=lQ;refine⟨_,_,Conv.own h1 (aJ.wI (t:=t) (U:=U)) b,λi v a=>?_,aE.put (by omega) j (.arr t [])⟩;simp only[aX]at a;simp only[look];split at a
     . rename_i d;cases a;rw[ad (cV d)];refine⟨_,rfl,.c (.arr N _ _ (by omega) λx g p f=>?_)⟩;rw[hN,ad rfl]at g;cases g;simp[cP.df]at f;exact f.symm
     . rename_i d;rw[al (hG d)];exact(he.mono j) i v a
   . cases h;exact same
 . exact Gx h he aE b
 . split at h
   . exact Gx h he aE b
   . cases h
def H7:List (bj U)->List Bool->Bool
 |[],[]=>true
 |.t _::cs,false::bs=>H7 cs bs
 |.aF::cs,true::bs=>H7 cs bs
 |_,_=>false
def QV(cs:List (bj U)):List (List Bool×Nat×aJ)->Option (Nat×aJ)
 |[]=>none
 |(bs,p)::r=>match H7 cs bs with
  |true=>some p
  |false=>QV cs r
def HP(l:List (List Bool×Nat×aJ)):bf U->Option (Nat×Nat×aJ)
 |[]=>none
 |(q,.box cs)::r=>match QV cs l with
  |some p=>some (q,p)
  |none=>HP l r
 |_::r=>HP l r
def Ea{R:Type}(env:bU U)(J:bf U)(N:Nat)(k:bU U->bf U->Nat->Option R):Option R:=
 match HP U.own J with
 |none=>Ec J N λJ N=>k env J N
 |some (q,j,t)=>match AM q j t env J N with
  |some (env,J)=>Ec J (N+1) λJ N=>k env J N
  |none=>none
theorem Ji{k:bU U->bf U->Nat->Option R}{r:R}(h:Ea env J N k=some r)(he:c5 N J (λ_=>true) env env1)(aE:cx N J J1)(n:kk<=N):
 ∃env' J' N' f bn,k env' J' N'=some r/\Conv kk N env1 J1 N' f bn/\c5 N' J' (λ_=>true) env' f/\cx N' J' bn/\N<=N':=by
 unfold Ea at h;split at h
 . obtain⟨q,i,p,a,b,c,d,g⟩:=Jg h he aE;exact⟨_,_,_,_,_,a,b,c,d,g⟩
 . split at h
   . rename_i e s o;obtain⟨aK,s1,j,l,m⟩:=Gx o he aE n;obtain⟨q,i,p,a,b,c,d,g⟩:=Jg h l m;exact⟨_,_,_,_,_,a,j.trans b,c,d,by omega⟩
   . cases h
theorem Jb:∀{l:List (Pos×aJ)} {env env':bU U} {J J':bf U} {N N':Nat} {env1:Env} {J1:a7},AL l env J N=some (env',J',N')->c5 N J (λ_=>true) env env1->cx N J J1->kk<=N->
 ∃a bn,Conv kk N env1 J1 N' a bn/\c5 N' J' (λ_=>true) env' a/\cx N' J' bn/\N<=N'
 |[],env,env',J,J',N,N',env1,J1,h,he,aE,b=>by simp[AL]at h;obtain⟨rfl,rfl,rfl⟩:=h;exact⟨env1,J1,Conv.refl,he,aE,ea _⟩
 |(p,t)::r,env,env',J,J',N,N',env1,J1,h,he,aE,b=>by
  simp only[AL]at h;split at h
  . rename_i e s h1;obtain⟨aK,s1,d,f,g⟩:=XQ h1 he aE b;obtain⟨c,m,i,j,k,n⟩:=Jb h f g (by omega);exact⟨c,m,d.trans i,j,k,by omega⟩
  . cases h
end
end
section
open Go
variable {U:cK}
inductive kv where
 |hole (ty:aJ)
 |ptr (b o:Nat)
 |cH (b:Nat)(ty:aJ)(o:Nat)
 |dO (ty:aJ)(o:Nat)
 |arr (b:Nat)
 |mp (b:Nat)
 |cI (b:Nat)
 |aF
 |e4
 |e3
 |fn (f:Nat)(caps:a6)
 |dead
inductive e1 where
 |c (s:kv)
 |agg (l:List kv)
 |row (n:Nat)
 |aY (l:List e1)
inductive fK where
 |box (l:List kv)
 |arr (ty:aJ)
 |bt (n:Nat)
 |gone
 |set
 |buf (E:Nat)
 |b8 (E:Nat)(s:kv)
structure Shape where
 env:List (Nat×e1)
 st:List fK
abbrev eL(U:cK):=List (Cell U.D)
def qo:kv->eL U->bj U×eL U
 |.hole _,c::r=>(.t c,r)
 |.hole _,[]=>(.dead,[])
 |.ptr b o,r=>(.ptr b o,r)
 |.cH b ty o,⟨.int _,n⟩::r=>(.cH b ty (Int.toNat n) o,r)
 |.cH _ _ _,r=>(.dead,r)
 |.dO _ o,c::r=>(.dO c.ty c.val o,r)
 |.dO _ _,[]=>(.dead,[])
 |.arr b,r=>(.arr b,r)
 |.mp b,r=>(.mp b,r)
 |.cI b,r=>(.cI b,r)
 |.aF,r=>(.aF,r)
 |.e4,r=>(.e4,r)
 |.e3,r=>(.e3,r)
 |.fn f caps,r=>(.fn f caps,r)
 |.dead,r=>(.dead,r)
def xr:List kv->eL U->List (bj U)×eL U
 |[],r=>([],r)
 |s::ss,r=>match qo s r with
  |(x,a)=>match xr ss a with
   |(xs,b)=>(x::xs,b)
mutual
def kN:e1->eL U->bz U×eL U
 |.c s,r=>match qo s r with
  |(x,a)=>(.c x,a)
 |.agg l,r=>match xr l r with
  |(xs,a)=>(.agg xs,a)
 |.row _,c::r=>(.agg ((c.ty.row U c.val).map .t),r)
 |.row _,[]=>(.aY [],[])
 |.aY l,r=>match kO l r with
  |(xs,a)=>(.aY xs,a)
def kO:List e1->eL U->List (bz U)×eL U
 |[],r=>([],r)
 |s::ss,r=>match kN s r with
  |(x,a)=>match kO ss a with
   |(xs,e)=>(x::xs,e)
end
def Bp:List (Nat×e1)->eL U->bU U×eL U
 |[],r=>([],r)
 |(k,s)::ss,r=>match kN s r with
  |(x,a)=>match Bp ss a with
   |(xs,b)=>((k,x)::xs,b)
def iO:fK->eL U->Option (cP U)×eL U
 |.box l,r=>match xr l r with
  |(xs,a)=>(some (.box xs),a)
 |.arr _,⟨.slice t,l⟩::r=>(some (.arr t l),r)
 |.arr _,r=>(none,r)
 |.bt _,c::r=>(some (.box ((c.ty.row U c.val).map .t)),r)
 |.bt _,[]=>(none,[])
 |.gone,r=>(none,r)
 |.set,⟨.slice .str,l⟩::r=>(some (.set l),r)
 |.set,r=>(none,r)
 |.buf E,⟨.str,s⟩::r=>(some (.buf E s),r)
 |.buf _,r=>(none,r)
 |.b8 E s,r=>match qo s r with
  |(x,a)=>(some (.b8 E x),a)
def gx:Nat->List fK->eL U->bf U
 |_,[],_=>[]
 |j,s::ss,r=>match iO s r with
  |(some x,a)=>(j,x)::gx (j+1) ss a
  |(none,a)=>gx (j+1) ss a
def nY{α:Type}:List α->Nat->Option α
 |[],_=>none
 |a::_,0=>some a
 |_::l,n+1=>nY l n
theorem zO{α:Type}:∀{l:List α} {n:Nat},nY l n=l[n]?
 |[],n=>by simp[nY]
 |a::l,0=>by simp[nY]
 |a::l,n+1=>by simp[nY,zO (l:=l)]
def qy(bs:a6)(j b:Nat):Bool:=match nY bs j with
 |some a=>Nat.beq a b
 |none=>false
def A1(bs:a6):a6->a6->Bool
 |[],[]=>true
 |j::a,c::cs=>qy bs j c&&A1 bs a cs
 |_,_=>false
def FL(ty:aJ):bj U->Option (Cell U.D)
 |.t c=>match Cell.as ty c with
  |some x=>some ⟨ty,x⟩
  |none=>none
 |.aF=>match ty with
  |.slice t=>some ⟨.slice t,([]:List (t.den U.D))⟩
  |_=>none
 |_=>none
def w2(bs:a6):kv->bj U->Option (eL U)
 |.hole ty,x=>match FL ty x with
  |some c=>some [c]
  |none=>none
 |.ptr j o,.ptr b a=>match qy bs j b&&Nat.beq o a with
  |true=>some []
  |false=>none
 |.cH j ty o,.cH b d i a=>match qy bs j b&&(Nat.beq o a&&aJ.beq ty d)with
  |true=>some [⟨.int .i64,(i:Int)⟩]
  |false=>none
 |.dO ty o,.dO d x a=>match Nat.beq o a,Cell.as ty (⟨d,x⟩:Cell U.D)with
  |true,some x=>some [⟨ty,x⟩]
  |_,_=>none
 |.arr j,.arr b=>match qy bs j b with
  |true=>some []
  |false=>none
 |.mp j,.mp b=>match qy bs j b with
  |true=>some []
  |false=>none
 |.cI j,.cI b=>match qy bs j b with
  |true=>some []
  |false=>none
 |.aF,.aF=>some []
 |.e4,.e4=>some []
 |.e3,.e3=>some []
 |.fn f g,.fn e cs=>match Nat.beq f e&&A1 bs g cs with
  |true=>some []
  |false=>none
 |.dead,_=>some []
 |_,_=>none
def ql(bs:a6):List kv->List (bj U)->Option (eL U)
 |[],[]=>some []
 |s::ss,x::xs=>match w2 bs s x,ql bs ss xs with
  |some a,some b=>some (a++b)
  |_,_=>none
 |_,_=>none
mutual
def jO(bs:a6):e1->bz U->Option (eL U)
 |.c s,.c x=>w2 bs s x
 |.agg l,.agg xs=>ql bs l xs
 |.row n,.agg xs=>match qf U (.nm n) xs with
  |some x=>some [⟨.nm n,x⟩]
  |none=>none
 |.aY l,.aY xs=>mj bs l xs
 |_,_=>none
def mj(bs:a6):List e1->List (bz U)->Option (eL U)
 |[],[]=>some []
 |s::ss,x::xs=>match jO bs s x,mj bs ss xs with
  |some a,some b=>some (a++b)
  |_,_=>none
 |_,_=>none
end
def w3(bs:a6)(env:bU U):List (Nat×e1)->Option (eL U)
 |[]=>some []
 |(k,s)::ss=>match aX env k with
  |some x=>match jO bs s x,w3 bs env ss with
   |some a,some b=>some (a++b)
   |_,_=>none
  |none=>none
def oG(bs:a6):fK->cP U->Option (eL U)
 |.box l,.box xs=>ql bs l xs
 |.arr ty,.arr t l=>match Cell.as (.slice ty) (⟨.slice t,l⟩:Cell U.D)with
  |some l=>some [⟨.slice ty,l⟩]
  |none=>none
 |.arr ty,.rows sz r=>match Nat.beq (ty.sz U) sz,l' U ty r with
  |true,some l=>some [⟨.slice ty,l⟩]
  |_,_=>none
 |.bt n,.box xs=>match qf U (.nm n) xs with
  |some x=>some [⟨.nm n,x⟩]
  |none=>none
 |.set,.set l=>some [⟨.slice .str,l⟩]
 |.buf E,.buf a s=>match Nat.beq E a with
  |true=>some [⟨.str,s⟩]
  |false=>none
 |.b8 E s,.b8 a x=>match Nat.beq E a with
  |true=>w2 bs s x
  |false=>none
 |_,_=>none
def iY(bs:a6)(J:bf U):Nat->List fK->Option (eL U)
 |_,[]=>some []
 |j,.gone::ss=>iY bs J (j+1) ss
 |j,s::ss=>match nY bs j with
  |some b=>match aX J b with
   |some x=>match oG bs s x,iY bs J (j+1) ss with
    |some a,some r=>some (a++r)
    |_,_=>none
   |none=>none
  |none=>none
variable{a:eL U}{ss:List fK}
section
variable {kk N:Nat}{J Jc:bf U}{J1:a7}{env:bU U}{env1:Env}{bs:a6}
def Can(bs:a6)(J Jc:bf U):Prop:=∀j b a,bs[j]?=some b->aX Jc j=some a->∃x,aX J b=some x/\∀p,a.df=some p->x.df=some p
theorem mJ(bS:bs.Nodup){j b:Nat}(h:bs[j]?=some b):pos bs b=some j:=by
 induction bs generalizing j with
 |nil=>simp at h
 |cons a bs ih=>
  simp only[pos];grind
theorem vX{j b:Nat}(h:qy bs j b=true):bs[j]?=some b:=by
 unfold qy at h;rw[zO]at h;split at h
 . simp_all
 . cases h
theorem IJ(bS:bs.Nodup):∀{a cs:a6},A1 bs a cs=true->nJ bs cs=some a
 |[],[],_=>rfl
 |j::a,c::cs,h=>by
  simp only[A1,cc]at h;simp[nJ,mJ bS (vX h.1),IJ bS h.2]
theorem YL{ty:aJ}{x:bj U}{c:Cell U.D}{d:C}(h:FL ty x=some c)(a:cg N J x d):dx (d.bN bs) (.t (c.enc U))/\c.ty=ty:=by
 unfold FL at h;split at h
 . split at h
   . rename_i e y b;cases h;rw[Cell.ky b]at a;cases a;exact⟨dx.refl _,rfl⟩
   . cases h
 . split at h
   . cases h;cases a;exact⟨dx.aF,rfl⟩
   . cases h
 . cases h
theorem HB(bS:bs.Nodup)(A:Can bs J Jc){s:kv}{x:bj U}(h:w2 bs s x=some a):
 ∃y,(∀r,qo s (a++r)=(y,r))/\∀d,cg N J x d->∃z,dx (d.bN bs) z/\cg bs.length Jc y z:=by
 unfold w2 at h;split at h
 . split at h
   . rename_i c E;cases h;exact⟨.t c,λr=>rfl,λd g=>⟨_,(YL E g).1,.t c⟩⟩
   . cases h
 . rename_i j o b B;split at h
   . rename_i k;simp only[cc]at k;have:=cV k.2;subst this;cases h;refine⟨.ptr j o,λr=>rfl,λd g=>⟨.ptr j o,?_,.ptr j o⟩⟩;cases g;simp only[C.bN,mJ bS (vX k.1)];exact dx.refl _
   . cases h
 . rename_i j ty o b H i B;split at h
   . rename_i k;simp only[cc]at k;have:=cV k.2.1;subst this;have:=aJ.beq_eq k.2.2;subst this;cases h;refine⟨.cH j ty i o,λr=>rfl,λd g=>⟨.cH j (ty.sz U) i o,?_,.cH j ty i o⟩⟩;cases g;simp only[C.bN,mJ bS (vX k.1)];exact dx.refl _
   . cases h
 . rename_i ty o H x B;split at h
   . rename_i y F G;have:=cV F;subst this;cases h;have e:=Cell.ky G;cases e;refine⟨.dO ty y o,λr=>rfl,λd g=>⟨d,?_,?_⟩⟩
     . cases g;exact dx.refl _
     . cases g;exact .dO ty y o
   . cases h
 . rename_i j b;split at h
   . rename_i k;cases h;refine⟨.arr j,λr=>rfl,λd g=>?_⟩;cases g with
     |arr _ sz n D aa=>
      have l:=vX k;refine⟨.arr j sz 0 n,?_,.arr j sz n (c7.1 l).1 λx u p q=>?_⟩
      . simp only[C.bN,mJ bS l];exact dx.refl _
      . obtain⟨w,h1,m⟩:=A j b x l u;exact aa w h1 p (m p q)
   . cases h
 . rename_i j b;split at h
   . rename_i k;cases h;refine⟨.mp j,λr=>rfl,λd g=>?_⟩;cases g;refine⟨.mp j,?_,.mp j⟩;simp only[C.bN,mJ bS (vX k)];exact dx.refl _
   . cases h
 . rename_i j b;split at h
   . rename_i k;cases h;refine⟨.cI j,λr=>rfl,λd g=>?_⟩;cases g with
     |cI _ n D aa=>
      have l:=vX k;refine⟨.cI j n,?_,.cI j n (c7.1 l).1 λx u p q=>?_⟩
      . simp only[C.bN,mJ bS l];exact dx.refl _
      . obtain⟨w,h1,m⟩:=A j b x l u;exact aa w h1 p (m p q)
   . cases h
 . cases h;exact⟨.aF,λr=>rfl,λd g=>by cases g;exact⟨.aF,dx.refl _,.aF⟩⟩
 . cases h;exact⟨.e4,λr=>rfl,λd g=>by cases g;exact⟨.e4,dx.refl _,.e4⟩⟩
 . cases h;exact⟨.e3,λr=>rfl,λd g=>by cases g;exact⟨.e3,dx.refl _,.e3⟩⟩
 . rename_i f v I cs;split at h
   . rename_i k;simp only[cc]at k;have:=cV k.1;subst this;cases h;refine⟨.fn f v,λr=>rfl,λd g=>⟨.fn f v,?_,.fn f v⟩⟩;cases g;simp only[C.bN,IJ bS k.2];exact dx.refl _
   . cases h
 . cases h;exact⟨.dead,λr=>rfl,λd g=>⟨.dead,dx.dead _,.dead _⟩⟩
 . cases h
theorem Gy(bS:bs.Nodup)(d:Can bs J Jc):∀{ss:List kv} {xs:List (bj U)} {a:eL U},ql bs ss xs=some a->
 ∃ys,(∀r,xr ss (a++r)=(ys,r))/\∀ds,a8 (cg N J) xs ds->∃b,a8 dx (ds.map (C.bN bs)) b/\a8 (cg bs.length Jc) ys b
 |[],[],a,h=>by simp[ql]at h;subst h;exact⟨[],λr=>rfl,λds c=>by cases c;exact⟨[],.nil,.nil⟩⟩
 |s::ss,x::xs,a,h=>by
  simp only[ql]at h;split at h
  . rename_i a1 a2 h1 j;cases h;obtain⟨y,f1,g⟩:=HB (N:=N) bS d h1;obtain⟨ys,f2,i⟩:=Gy bS d j;refine⟨y::ys,λr=>by simp only[xr,hr,f1,f2],λds c=>?_⟩;cases c with
    |cons uL k=>
     obtain⟨e,aK,f⟩:=g _ uL;obtain⟨b,dn,iu⟩:=i _ k;exact⟨e::b,.cons aK dn,.cons f iu⟩
  . cases h
 |[],_::_,a,h=>by simp[ql]at h
 |_::_,[],a,h=>by simp[ql]at h
theorem J8{n:Nat}{xs:List (bj U)}{x:(aJ.nm n).den U.D}(h:qf U (.nm n) xs=some x):∀ds,a8 (cg N J) xs ds->∃e,a8 dx (ds.map (C.bN bs)) e/\a8 (cg bs.length Jc) (((aJ.nm n).row U x).map .t) e:=by
 intro ds g;refine⟨((aJ.nm n).enc U x).map .t,?_,yU⟩;unfold qf at h;split at h
 . rename_i row a;rw[aJ.uH,aJ.EY h,List.map_map];clear h;generalize (aJ.nm n).cells U=de at a;induction xs generalizing de row ds with
   |nil=>
    cases g;cases de<;>simp[iM]at a;subst a;exact .nil
   |cons y ys ih=>
    cases g with
    | @cons _ d _ ds h1 f=>
     cases de with
     |nil=>cases y<;>simp[iM]at a
     |cons ty de=>
      cases h1 with
      |t c=>cases ty<;>simp only[iM]at a<;>(split at a<;>first|(cases a;done)|(rename_i q b;cases a;exact .cons (dx.refl _) (ih _ f _ _ b)))
      |aF=>
       cases ty<;>simp only[iM,reduceCtorEq]at a;split at a
       . rename_i q b;cases a;exact .cons dx.aF (ih _ f _ _ b)
       . cases a
      |_=>cases ty<;>simp[iM]at a
 . cases h
mutual
theorem Eu(bS:bs.Nodup)(u:Can bs J Jc):∀{s:e1} {x:bz U} {a:eL U},jO bs s x=some a->
 ∃y,(∀r,kN s (a++r)=(y,r))/\∀d,ca N J x d->∃j,gj (d.bN bs) j/\ca bs.length Jc y j
 |.c s,.c x,a,h=>by
  simp only[jO]at h;obtain⟨y,f,g⟩:=HB (N:=N) bS u h;refine⟨.c y,λr=>by simp only[kN,f],λd e=>?_⟩;cases e with
  |c e=>obtain⟨j,aK,p⟩:=g _ e;exact⟨.c j,.c aK,.c p⟩
 |.agg l,.agg xs,a,h=>by
  simp only[jO]at h;obtain⟨y,f,g⟩:=Gy (N:=N) bS u h;refine⟨.agg y,λr=>by simp only[kN,f],λd e=>?_⟩;cases e with
  |agg e=>obtain⟨j,aK,p⟩:=g _ e;exact⟨.agg j,.agg aK,.agg p⟩
 |.row n,.agg xs,a,h=>by
  simp only[jO]at h;split at h
  . rename_i x q;cases h;refine⟨.agg (((aJ.nm n).row U x).map .t),λr=>rfl,λd e=>?_⟩;cases e with
    |agg e=>obtain⟨j,aK,p⟩:=J8 q _ e;exact⟨.agg j,.agg aK,.agg p⟩
  . cases h
 |.aY l,.aY xs,a,h=>by
  simp only[jO]at h;obtain⟨ys,f,ae,g⟩:=uA bS u h;refine⟨.aY ys,λr=>by simp only[kN,f],λd e=>?_⟩;cases e with
  |aY _ ds D e=>
   obtain⟨o,aK,p,dn⟩:=g ds D e;refine⟨.aY o,.aY _ _ (by rw[Ch];exact aK.symm) ?_,.aY _ _ (by omega) λi x d q v=>(dn i x d q v)⟩;intro i x y q E;rw[CL,bc]at q;grind
 |.c _,.agg _,a,h=>by simp[jO]at h
 |.c _,.aY _,a,h=>by simp[jO]at h
 |.agg _,.c _,a,h=>by simp[jO]at h
 |.agg _,.aY _,a,h=>by simp[jO]at h
 |.row _,.c _,a,h=>by simp[jO]at h
 |.row _,.aY _,a,h=>by simp[jO]at h
 |.aY _,.c _,a,h=>by simp[jO]at h
 |.aY _,.agg _,a,h=>by simp[jO]at h
theorem uA(bS:bs.Nodup)(u:Can bs J Jc):∀{ss:List e1} {xs:List (bz U)} {a:eL U},mj bs ss xs=some a->
 ∃ys:List (bz U),(∀r,kO ss (a++r)=(ys,r))/\ys.length=xs.length/\∀ds:List V,xs.length=ds.length->(∀(i:Nat) x d,xs[i]?=some x->ds[i]?=some d->ca N J x d)->
  ∃o:List V,o.length=ds.length/\(∀(i:Nat) (d j:V),ds[i]?=some d->o[i]?=some j->gj (d.bN bs) j)/\(∀(i:Nat) y j,ys[i]?=some y->o[i]?=some j->ca bs.length Jc y j)
 |[],[],a,h=>by simp[mj]at h;subst h;exact⟨[],λr=>rfl,rfl,λds ae e=>⟨[],by simpa using ae,by simp,by simp⟩⟩
 |s::ss,x::xs,a,h=>by
  simp only[mj]at h;split at h
  . rename_i a1 a2 h1 B;cases h;obtain⟨y,f1,z⟩:=Eu bS u h1;obtain⟨ys,f2,ae,A⟩:=uA bS u B;refine⟨y::ys,λr=>by simp only[kO,hr,f1,f2],by simp[ae],λds w e=>?_⟩;cases ds with
    |nil=>simp at w
    |cons d ds=>
     obtain⟨j,aK,p⟩:=z d (e 0 x d rfl rfl);obtain⟨o,dn,iu,iN⟩:=A ds (by simpa using w) λi x d q v=>e (i+1) x d (by simpa using q) (by simpa using v);refine⟨j::o,by simp[dn],λi=>?_,λi=>?_⟩
     . grind
     grind
  . cases h
 |[],_::_,a,h=>by simp[mj]at h
 |_::_,[],a,h=>by simp[mj]at h
end
theorem Gl:∀{ks:a6} {k:Nat} {g:Bool} {v:V},k∈ks->look env1 k=some (g,v)->look (nG bs env1 ks) k=some (g,v.bN bs)
 |x::ks,k,g,v,b,ae=>by
  simp only[nG];by_cases h:x=k
  . subst h;rw[ae];simp[look]
  . have a:k∈ks:=(by grind);split
    . simp only[look,al h];exact Gl a ae
    . exact Gl a ae
theorem IK(bS:bs.Nodup)(f:Can bs J Jc)(he:c5 N J (λ_=>true) env env1):∀{ss:List (Nat×e1)} {a:eL U},w3 bs env ss=some a->
 ∃e,(∀r,Bp ss (a++r)=(e,r))/\∃c:Env,c5 bs.length Jc (λ_=>true) e c/\∀k g j,look c k=some (g,j)->k∈ss.map Prod.fst/\∃v,look env1 k=some (g,v)/\gj (v.bN bs) j
 |[],a,h=>by simp[w3]at h;subst h;exact⟨[],λr=>rfl,[],λk v p=>by simp[aX]at p,λk g v h=>by simp[look]at h⟩
 |(k,s)::ss,a,h=>by
  simp only[w3]at h;split at h
  . rename_i x q;split at h
    . rename_i a1 a2 h1 n;cases h;obtain⟨y,f1,m⟩:=Eu (N:=N) bS f h1;obtain⟨e,f2,c,aK,u⟩:=IK bS f he n;obtain⟨d,w,t⟩:=he k x q;obtain⟨l,z,A⟩:=m d t;refine⟨(k,y)::e,λr=>by simp only[Bp,hr,f1,f2],(k,true,l)::c,λi v b=>?_,λi g v b=>?_⟩
      . simp only[aX]at b;simp only[look];split at b
        . simp_all
        . rename_i o;rw[al (hG o)];exact aK i v b
      . simp only[look]at b;grind
    . cases h
  . cases h
theorem HC(bS:bs.Nodup)(k:Can bs J Jc){s:fK}{x:cP U}(h:oG bs s x=some a):
 ∃y,(∀r,iO s (a++r)=(some y,r))/\(∀d,hW N J x d->∃i,jY (d.bN bs) i/\hW bs.length Jc y i):=by
 unfold oG at h;split at h
 . obtain⟨ys,f,g⟩:=Gy (N:=N) bS k h;refine⟨.box ys,λr=>by simp only[iO,f],λd b=>?_⟩;cases b with
   |box b=>obtain⟨j,aK,c⟩:=g _ b;exact⟨.box j,.box aK,.box c⟩
 . rename_i ty t q;split at h
   . rename_i l ae;cases h;have e:=Cell.ky ae;cases e;refine⟨.arr ty l,λr=>rfl,λd b=>?_⟩;cases b;exact⟨_,.arr,.arr ty l⟩
   . cases h
 . rename_i ty sz r;split at h
   . rename_i l m ae;cases h;have:=cV m;subst this;refine⟨.arr ty l,λr=>rfl,λd b=>?_⟩;cases b with
     |rows h1 p=>
      refine⟨_,.arr,?_⟩;rw[<-wg ae h1];exact .arr ty l
   . cases h
 . rename_i n xs;split at h
   . rename_i x o;cases h;refine⟨.box (((aJ.nm n).row U x).map .t),λr=>rfl,λd b=>?_⟩;cases b with
     |box b=>obtain⟨j,aK,c⟩:=J8 o _ b;exact⟨.box j,.box aK,.box c⟩
   . cases h
 . cases h;refine⟨.set _,λr=>rfl,λd b=>?_⟩;cases b;exact⟨_,.same,.set _⟩
 . split at h
   . rename_i dG;have:=cV dG;subst this;cases h;refine⟨.buf _ _,λr=>rfl,λd b=>?_⟩;cases b;exact⟨_,.same,.buf _ _⟩
   . cases h
 . split at h
   . rename_i dG;have:=cV dG;subst this;obtain⟨y,f,g⟩:=HB (N:=N) bS k h;refine⟨.b8 _ y,λr=>by simp only[iO,f];rfl,λd b=>?_⟩;cases b with
     |b8 b=>obtain⟨i,aK,c⟩:=g _ b;exact⟨.b8 _ i,.b8 aK,.b8 c⟩
   . cases h
 . cases h
theorem Jj{t:aJ}:∀{r:List (List (bj U))} {l:List (t.den U.D)},l' U t r=some l->l.length=r.length
 |[],l,h=>by simp[l']at h;subst h;rfl
 |r::c,l,h=>by
  simp only[l']at h;split at h
  . rename_i x xs b a;cases h;simp[Jj a]
  . cases h
theorem abu{s:fK}{x y:cP U}{r:eL U}(h:oG bs s x=some a)(b:iO s (a++r)=(some y,r)):∀p,y.df=some p->x.df=some p:=by
 unfold oG at h;split at h
 . intro p c;simp only[iO,bE,bG]at b;rw[<-b.1]at c;simp[cP.df]at c
 . rename_i ty t g;split at h
   . rename_i l ae;cases h;have e:=Cell.ky ae;cases e;simp only[iO,rG,fS,bE,bG,p2]at b;grind
   . cases h
 . rename_i ty sz i;split at h
   . rename_i l d ae;cases h;have:=cV d;subst this;simp only[iO,rG,fS,bE,bG,p2]at b;rw[<-b];intro p c;simp only[cP.df]at c⊢;rw[<-Jj ae];exact c
   . cases h
 . rename_i n xs;split at h
   . rename_i x f;cases h;intro p c;simp only[iO,rG,fS,bE,bG,p2]at b;rw[<-b]at c;simp[cP.df]at c
   . cases h
 . cases h;simp only[iO,rG,fS,bE,bG,p2]at b;grind
 . split at h
   . rename_i dG;have:=cV dG;subst this;cases h;simp only[iO,rG,fS,bE,bG,p2]at b;grind
   . cases h
 . split at h
   . intro p c;simp only[iO,bE,bG]at b;rw[<-b.1]at c;simp[cP.df]at c
   . cases h
 . cases h
theorem pt(bS:bs.Nodup):∀{ss:List fK} {j:Nat} {a:eL U},iY bs J j ss=some a->
 (∀i c,aX (gx j ss a) i=some c->j<=i/\i<j+ss.length/\∃b x,bs[i]?=some b/\aX J b=some x/\∃s e,oG bs s x=some e/\∀r,iO s (e++r)=(some c,r))
 |[],j,a,h=>by intro i c d;simp[gx,aX]at d
 |.gone::ss,j,a,h=>by
  intro i c d;simp only[iY]at h;simp only[gx,iO]at d;obtain⟨h1,g,p⟩:=pt bS h i c d;grind
 |.box l::ss,j,a,h=>uz bS (s:= .box l) (λ{j a}=>pt bS (ss:=ss) (j:=j) (a:=a)) (by simpa only[iY]using h)
 |.arr l::ss,j,a,h=>uz bS (s:= .arr l) (λ{j a}=>pt bS (ss:=ss) (j:=j) (a:=a)) (by simpa only[iY]using h)
 |.bt l::ss,j,a,h=>uz bS (s:= .bt l) (λ{j a}=>pt bS (ss:=ss) (j:=j) (a:=a)) (by simpa only[iY]using h)
 |.set::ss,j,a,h=>uz bS (s:= .set) (λ{j a}=>pt bS (ss:=ss) (j:=j) (a:=a)) (by simpa only[iY]using h)
 |.buf E::ss,j,a,h=>uz bS (s:= .buf E) (λ{j a}=>pt bS (ss:=ss) (j:=j) (a:=a)) (by simpa only[iY]using h)
 |.b8 E l::ss,j,a,h=>uz bS (s:= .b8 E l) (λ{j a}=>pt bS (ss:=ss) (j:=j) (a:=a)) (by simpa only[iY]using h)
where
 uz (bS:bs.Nodup) {s:fK} {ss:List fK} (ih:∀{j:Nat} {a:eL U},iY bs J j ss=some a->
  (∀i c,aX (gx j ss a) i=some c->j<=i/\i<j+ss.length/\∃b x,bs[i]?=some b/\aX J b=some x/\∃s e,oG bs s x=some e/\∀r,iO s (e++r)=(some c,r))) {j:Nat} {a:eL U} (h:(match nY bs j with
  |some b=>match aX J b with
   |some x=>match oG bs s x,iY bs J (j+1) ss with
    |some a,some r=>some (a++r)
    |_,_=>none
   |none=>none
  |none=>none)=some a):(∀i c,aX (gx j (s::ss) a) i=some c->j<=i/\i<j+(s::ss).length/\∃b x,bs[i]?=some b/\aX J b=some x/\∃s e,oG bs s x=some e/\∀r,iO s (e++r)=(some c,r)):=by
  intro i c d;split at h
  . rename_i b k;rw[zO]at k;split at h
    . rename_i x n;split at h
      . rename_i a1 a2 h1 g;cases h;obtain⟨y,f,_⟩:=HC (N:=0) (J:=J) (Jc:=[]) bS (λ_ _ _ _ h=>by simp[aX]at h) h1;simp only[gx,f,aX]at d;split at d
        . rename_i m;have:=cV m;subst this;cases d;exact⟨ea _,by simp,b,x,k,n,s,a1,h1,f⟩
        . obtain⟨q,t,o⟩:=ih g i c d;exact⟨by omega,by simp;omega,o⟩
      . cases h
    . cases h
  . cases h
def ho(U:cK)(bx:Shape)(a:eL U):bU U×bf U:=
 match Bp bx.env a with
 |(e,r)=>(e,gx 0 bx.st r)
def Et(bs:a6)(bx:Shape)(env:bU U)(J:bf U):Option (eL U):=
 match w3 bs env bx.env,iY bs J 0 bx.st with
 |some a,some b=>some (a++b)
 |_,_=>none
theorem zW(bS:bs.Nodup){b:eL U}(g:iY bs J 0 ss=some b):Can bs J (gx 0 ss b):=by
 intro j c k a i;obtain⟨_,_,m,x,h1,d,s,l,e,f⟩:=pt bS g j k i;rw[h1]at a;cases a;exact⟨x,d,abu e (f [])⟩
theorem zb{J1:a7}:∀{r:a6} {i j c:Nat} {x:bO},r[j]?=some c->aV J1 c=some x->aV (fq bs J1 i r) (i+j)=some (x.bN bs)
 |[],i,j,c,x,h,_=>by simp at h
 |b::r,i,0,c,x,h,a=>by
  simp at h;subst h;simp only[fq,a,aV,l5,bJ]
 |b::r,i,j+1,c,x,h,a=>by
  simp only[fq];have:=zb (i:=i+1) (j:=j) (r:=r) (by simpa using h) a;rw[show i+1+j=i+(j+1) by omega]at this;split
  . simp only[aV];rw[bp];exact this
  omega
theorem Da(bS:bs.Nodup)(aE:cx N J J1){b:eL U}(k:iY bs J 0 ss=some b):
 ∃bn,r4 (fq bs J1 0 bs) bn/\cx bs.length (gx 0 ss b) bn:=by
 have M:=zW bS k;have P:=pt bS k;generalize gx 0 ss b=Jc at*;have key:∀(l:bf U),(∀i a,aX l i=some a->aX Jc i=some a)->∃bn:a7,(∀i x,aV bn i=some x->∃y,aV (fq bs J1 0 bs) i=some y/\jY y x)/\(∀i a,aX l i=some a->i<bs.length/\∃y,aV bn i=some y/\hW bs.length Jc a y):=by
  intro l;induction l with
  |nil=>intro _;exact⟨[],λi x h=>by simp[aV]at h,λi x h=>by simp[aX]at h⟩
  |cons p l ih=>
   obtain⟨d,u⟩:=p;intro ae;have:∃bn:a7,(∀i x,aV bn i=some x->∃y,aV (fq bs J1 0 bs) i=some y/\jY y x)/\(∀i a,i≠d->aX l i=some a->i<bs.length/\∃y,aV bn i=some y/\hW bs.length Jc a y):=by
    have:=ih;have aux:∀(m:bf U),(∀i a,i≠d->aX m i=some a->aX Jc i=some a)->∃bn:a7,(∀i x,aV bn i=some x->∃y,aV (fq bs J1 0 bs) i=some y/\jY y x)/\(∀i a,i≠d->aX m i=some a->i<bs.length/\∃y,aV bn i=some y/\hW bs.length Jc a y):=by
     intro m X;have R:∀i a,aX (dl m d) i=some a->aX Jc i=some a:=by
      intro i a h;rw[n3]at h;grind
     have build:∀n,∃bn:a7,(∀i x,aV bn i=some x->∃y,aV (fq bs J1 0 bs) i=some y/\jY y x)/\(∀i a,i<n->aX (dl m d) i=some a->i<bs.length/\∃y,aV bn i=some y/\hW bs.length Jc a y):=by
      intro n;induction n with
      |zero=>exact⟨[],λi x h=>by simp[aV]at h,λi x h=>by omega⟩
      |succ n T=>
       obtain⟨s,h1,g⟩:=T;cases aD:aX (dl m d) n with
       |none=>exact ⟨s,h1,λi a o c=>g i a (by have:i≠n:=λe=>by subst e; rw [aD] at c; cases c
                                              omega) c⟩
       |some L=>
        obtain⟨_,_,v,x,r,A,W,Q,B,C⟩:=P n L (R n L aD);obtain⟨_,y,E,F⟩:=aE v x A;obtain⟨z,f,q⟩:=HC (N:=N) bS M B;have:z=L:=by have:=(f []).symm.trans (C []);simpa using this
        subst this;obtain⟨t,V,G⟩:=q y F;have ht:=zb (bs:=bs) (i:=0) (j:=n) r E;rw[gb]at ht;refine⟨dd s n t,λi x o=>?_,λi a o c=>?_⟩
        . rw[cX]at o;grind
        . by_cases e:i=n
          . subst e;rw[aD]at c;cases c;exact⟨(c7.1 r).1,t,by rw[cX,ad rfl],G⟩
          . obtain⟨H,z,I,K⟩:=g i a (by omega) c;exact⟨H,z,by rw[cX,al (λw=>e w.symm)];exact I,K⟩
     obtain⟨s,h1,g⟩:=build bs.length;refine⟨s,h1,λi a D c=>?_⟩;have O:aX (dl m d) i=some a:=by rw[n3,al (λe=>D e.symm)];exact c
     grind
    exact aux l λi a D h=>ae i a (by
     simp only[aX];cases k:Nat.beq d i with
     |true=>exact absurd (cV k).symm D
     |false=>exact h)
   obtain⟨s,h1,g⟩:=this;have S:aX Jc d=some u:=ae d u (by simp[aX,yn]);obtain⟨_,_,v,x,r,A,W,Q,B,C⟩:=P d u S;obtain⟨_,y,E,F⟩:=aE v x A;obtain⟨z,f,q⟩:=HC (N:=N) bS M B;have:z=u:=by have:=(f []).symm.trans (C []);simpa using this
   subst this;obtain⟨t,V,G⟩:=q y F;have ht:=zb (bs:=bs) (i:=0) (j:=d) r E;rw[gb]at ht;refine⟨dd s d t,λi x o=>?_,λi a c=>?_⟩
   . rw[cX]at o;grind
   . by_cases e:i=d
     . subst e;simp[aX,yn]at c;subst c;exact⟨(c7.1 r).1,t,by rw[cX,ad rfl],G⟩
     . have O:aX l i=some a:=by
        simp only[aX]at c;cases k:Nat.beq d i with
        |true=>exact absurd (cV k).symm e
        |false=>rw[k]at c;exact c
       obtain⟨H,z,I,K⟩:=g i a e O;exact⟨H,z,by rw[cX,al (λw=>e w.symm)];exact I,K⟩
 obtain⟨s,h1,g⟩:=key Jc λ_ _ h=>h;exact⟨s,λi x o=>h1 i x o,λi a c=>g i a c⟩
theorem ZG(bS:bs.Nodup)(l:keeps kk bs=true)(he:c5 N J (λ_=>true) env env1)(aE:cx N J J1){bx:Shape}(h:Et bs bx env J=some a):
 ∃c bn,Conv kk N env1 J1 bs.length c bn/\c5 bs.length (ho U bx a).2 (λ_=>true) (ho U bx a).1 c/\cx bs.length (ho U bx a).2 bn:=by
 unfold Et at h;split at h
 . rename_i a1 b h1 d;cases h;obtain⟨i,f,c,aK,e⟩:=IK bS (zW bS d) he h1;obtain⟨bn,s1,o⟩:=Da bS aE d;have j:ho U bx (a1++b)=(i,gx 0 bx.st b):=(by simp only[ho,f]);rw[j];refine⟨c,bn,(Conv.tidy (bx.env.map Prod.fst) bs bS l).trans (Conv.weaken (λk g p ae=>?_) s1),aK,o⟩;obtain⟨m,v,n,hs⟩:=e k g p ae;exact⟨_,Gl m n,hs⟩
 . cases h
end
end
section
open Go
variable {U:cK}
def e5(D:Nat->Type):aJ->List aJ->Type
 |t,[]=>t.den D
 |t,u::r=>t.den D×e5 D u r
def aL(D:Nat->Type):List aJ->Type
 |[]=>Unit
 |t::r=>e5 D t r
def e5.cells(D:Nat->Type):(t:aJ)->(ts:List aJ)->e5 D t ts->List (Cell D)
 |t,[],x=>[⟨t,x⟩]
 |t,u::r,x=>⟨t,x.1⟩::e5.cells D u r x.2
def aL.cells(D:Nat->Type):(ts:List aJ)->aL D ts->List (Cell D)
 |[],_=>[]
 |t::r,x=>e5.cells D t r x
def EW{α:Type}:List α->Option α
 |[c]=>some c
 |_=>none
def uL{α:Type}:List α->Option (α×List α)
 |[]=>none
 |c::r=>some (c,r)
def e5.dec(D:Nat->Type):(t:aJ)->(ts:List aJ)->List (Cell D)->Option (e5 D t ts)
 |t,[],l=>match EW l with
  |some c=>c.as t
  |none=>none
 |t,u::r,l=>match uL l with
  |some p=>match p.1.as t with
   |some x=>match e5.dec D u r p.2 with
    |some y=>some (x,y)
    |none=>none
   |none=>none
  |none=>none
def aL.dec(D:Nat->Type):(ts:List aJ)->List (Cell D)->Option (aL D ts)
 |[],l=>match l with
  |[]=>some ()
  |_=>none
 |t::r,l=>e5.dec D t r l
variable{α:Type}{D:Nat->Type}{J:bf U}{N:Nat}{c:α×List α}
theorem YM{l:List α}{c:α}(h:EW l=some c):l=[c]:=by
 unfold EW at h;split at h
 . cases h;rfl
 . cases h
theorem abv{l:List α}(h:uL l=some c):l=c.1::c.2:=by
 unfold uL at h;split at h
 . cases h
 grind
theorem e5.fb:∀{ts:List aJ} {t:aJ} {a:List (Cell D)} {h:e5 D t ts},e5.dec D t ts a=some h->e5.cells D t ts h=a
 |[],t,a,h,e=>by
  unfold e5.dec at e;split at e
  . rename_i c f;rw[YM f,Cell.ky (t:=t) (x:=h) e];rfl
  . cases e
 |u::r,t,a,h,e=>by
  unfold e5.dec at e;split at e
  . rename_i p j;split at e
    . rename_i x o;split at e
      . rename_i y q;cases e;have:=e5.fb q;show⟨t,x⟩::e5.cells D u r y=a;rw[this,abv j,<-Cell.ky o]
      . cases e
    . cases e
  . cases e
theorem aL.fb:∀{ts:List aJ} {a:List (Cell D)} {h:aL D ts},aL.dec D ts a=some h->aL.cells D ts h=a
 |[],[],h,e=>rfl
 |[],_::_,h,e=>by cases (show(none:Option Unit)=some h from e)
 |t::r,a,h,e=>e5.fb e
def e5.kc(U:cK):(t:aJ)->(ts:List aJ)->e5 U.D t ts
 |t,[]=>t.kc U
 |t,u::r=>(t.kc U,e5.kc U u r)
def aL.kc(U:cK):(ts:List aJ)->aL U.D ts
 |[]=>()
 |t::r=>e5.kc U t r
abbrev j1:=List (Nat×Nat)×List (Nat×aJ)
def FD:kv->bj U->j1->j1
 |.ptr j _,.ptr b _,s=>((j,b)::s.1,s.2)
 |.cH j _ _,.cH b _ _ _,s=>((j,b)::s.1,s.2)
 |.arr j,.arr b,s=>((j,b)::s.1,s.2)
 |.mp j,.mp b,s=>((j,b)::s.1,s.2)
 |.cI j,.cI b,s=>((j,b)::s.1,s.2)
 |.fn _ a,.fn _ cs,s=>(a.zip cs++s.1,s.2)
 |.hole (.slice t),.arr b,s=>(s.1,(b,t)::s.2)
 |_,_,s=>s
def FE:List kv->List (bj U)->j1->j1
 |a::as,x::xs,s=>FE as xs (FD a x s)
 |_,_,s=>s
def CV:List aJ->List (bj U)->j1->j1
 |.slice t::ts,.arr b::xs,s=>CV ts xs (s.1,(b,t)::s.2)
 |_::ts,_::xs,s=>CV ts xs s
 |_,_,s=>s
mutual
def FG:e1->bz U->j1->j1
 |.c a,.c x,s=>FD a x s
 |.agg l,.agg xs,s=>FE l xs s
 |.row n,.agg xs,s=>CV (U.de n) xs s
 |.aY l,.aY xs,s=>CW l xs s
 |_,_,s=>s
def CW:List e1->List (bz U)->j1->j1
 |a::as,x::xs,s=>CW as xs (FG a x s)
 |_,_,s=>s
end
def FF(env:bU U):List (Nat×e1)->j1->j1
 |[],s=>s
 |(k,a)::r,s=>match aX env k with
  |some x=>FF env r (FG a x s)
  |none=>FF env r s
def agz:fK->cP U->j1->j1
 |.box l,.box xs,s=>FE l xs s
 |.bt n,.box xs,s=>CV (U.de n) xs s
 |.b8 _ a,.b8 _ x,s=>FD a x s
 |_,_,s=>s
def wC(J:bf U)(kk:Nat):Nat->List fK->j1->a6->a6×List (Nat×aJ)
 |_,[],s,acc=>(acc.reverse,s.2)
 |j,a::r,s,acc=>
  let b:=match aX s.1 j with
   |some b=>b
   |none=>match Nat.ble (j+1) kk with
    |true=>j
    |false=>1000000+j
  match aX J b with
  |some x=>wC J kk (j+1) r (agz a x s) (b::acc)
  |none=>wC J kk (j+1) r s (b::acc)
def tn:a6->Bool
 |[]=>true
 |a::l=>(l.all λb=>!(Nat.beq a b))&&tn l
theorem zc:∀{l:a6},tn l=true->l.Nodup
 |[],_=>wm
 |a::l,h=>by
  simp only[tn,cc,c0,p7]at h;refine List.nodup_cons.2 ⟨λb=>?_,zc h.2⟩;have c:=h.1 a b;simp_all
def rW(kk:Nat)(own:List (Pos×aJ))(bx:Shape)(ts:List aJ)(env:bU U)(J:bf U)(N:Nat):Option (aL U.D ts):=
 match AL own env J N with
 |none=>none
 |some (env,J,_)=>match H6 env J with
  |none=>none
  |some (env,J)=>match wC J kk 0 bx.st (FF env bx.env ([],[])) []with
   |(bs,b)=>match kV b env J with
    |none=>none
    |some (env,J)=>match tn bs&&(keeps kk bs&&Nat.beq bs.length bx.st.length)with
     |false=>none
     |true=>match Et bs bx env J with
      |none=>none
      |some a=>aL.dec U.D ts a
section
variable {kk N:Nat}{J:bf U}{J1:a7}{env:bU U}{env1:Env}
theorem Cz{own:List (Pos×aJ)}{bx:Shape}{ts:List aJ}{h:aL U.D ts}(b:rW kk own bx ts env J N=some h)(he:c5 N J (λ_=>true) env env1)(aE:cx N J J1)(z:kk<=N):
 ∃c bn,Conv kk N env1 J1 bx.st.length c bn/\c5 bx.st.length (ho U bx (aL.cells U.D ts h)).2 (λ_=>true) (ho U bx (aL.cells U.D ts h)).1 c/\cx bx.st.length (ho U bx (aL.cells U.D ts h)).2 bn/\kk<=bx.st.length:=by
 unfold rW at b;split at b
 . cases b
 . rename_i I J2 G h1;obtain⟨cY,rK,f,v,n,cp⟩:=Jb h1 he aE z;split at b
   . cases b
   rename_i K E u;obtain⟨aK,s1,i,w,o⟩:=WT (kk:=kk) u v n;have g:=f.trans i;split at b;rename_i bs M _;split at b
   . cases b
   . rename_i L F l;obtain⟨H,P,j,x,p,_⟩:=yV (kk:=kk) (gl:=[]) l w o;split at b
     . cases b
     . rename_i d;simp only[cc]at d;obtain⟨s,e,t⟩:=d;have A:=cV t;split at b
       . cases b
       . rename_i a r;obtain⟨dn,C,k,y,q⟩:=ZG (zc s) e x p r;rw[aL.fb b,<-A];refine⟨dn,C,g.trans (j.trans k),y,q,?_⟩;by_cases O:kk=0
         . omega
         . have B:(bs[kk-1]?==some (kk-1))=true:=by
            unfold keeps at e;grind
           have m:bs[kk-1]?=some (kk-1):=(by simpa using B);have:=(c7.1 m).1;omega
end
structure cC (U:cK) where
 f:Nat
 gC:List e1
 st:List fK
 ts:List aJ
 eQ:e1
 eo:List fK
 us:List aJ
 F:aL U.D ts->Option (aL U.D us)
def cC.args(s:cC U)(h:aL U.D s.ts):List (bz U):=(kO s.gC (aL.cells U.D s.ts h)).1
def cC.iG(s:cC U)(h:aL U.D s.ts):bf U:=gx 0 s.st (kO s.gC (aL.cells U.D s.ts h)).2
def cC.res(s:cC U)(r:aL U.D s.us):bz U:=(kN s.eQ (aL.cells U.D s.us r)).1
def cC.rest(s:cC U)(r:aL U.D s.us):bf U:=gx 0 s.eo (kN s.eQ (aL.cells U.D s.us r)).2
def hX(P:Program)(s:cC U):Prop:=
 ∀h r,s.F h=some r->∀a J1,a8 (ca s.st.length (s.iG h)) (s.args h) a->cx s.st.length (s.iG h) J1->
  ec P s.f a J1 s.st.length (λb bn N'=>N'=s.eo.length/\ca N' (s.rest r) (s.res r) b/\cx N' (s.rest r) bn)
def bj.oj:bj U->Bool
 |.t _|.dO .. |.aF|.e4|.e3=>true
 |.fn _ []=>true
 |_=>false
def fC:bz U->Bool
 |.c x=>x.oj
 |.agg cs=>cs.all bj.oj
 |.aY vs=>go vs
where go:List (bz U)->Bool
 |[]=>true
 |v::vs=>fC v&&go vs
def bj.oH:bj U->C
 |.t c=>.t (c.enc U)
 |.dO ty x o=>.dO (ty.enc U x) o
 |.aF=>.aF
 |.e4=>.e4
 |.e3=>.e3
 |.fn f caps=>.fn f caps
 |_=>.dead
def e6:bz U->V
 |.c x=>.c x.oH
 |.agg cs=>.agg (cs.map bj.oH)
 |.aY vs=>.aY (go vs)
where go:List (bz U)->List V
 |[]=>[]
 |v::vs=>e6 v::go vs
theorem zP{x:bj U}(h:x.oj=true):cg N J x x.oH/\(∀d,cg N J x d->d=x.oH)/\∀n,x.oH.az n=true:=by
 cases x<;>simp[bj.oj]at h
 . exact⟨.t _,λd a=>by cases a;rfl,λ_=>rfl⟩
 . exact⟨.dO _ _ _,λd a=>by cases a;rfl,λ_=>rfl⟩
 . exact⟨.aF,λd a=>by cases a;rfl,λ_=>rfl⟩
 . exact⟨.e4,λd a=>by cases a;rfl,λ_=>rfl⟩
 . exact⟨.e3,λd a=>by cases a;rfl,λ_=>rfl⟩
 . rename_i f caps;cases caps with
   |nil=>exact⟨.fn _ _,λd a=>by cases a;rfl,λ_=>rfl⟩
   |cons=>simp[bj.oj]at h
theorem Gz:∀{vs:List (bz U)} {i:Nat},(e6.go vs)[i]?=(vs[i]?).map e6
 |[],i=>by simp[e6.go]
 |v::vs,0=>by simp[e6.go]
 |v::vs,i+1=>by simp[e6.go,Gz]
theorem RW:∀{vs:List (bz U)},(e6.go vs).length=vs.length
 |[]=>rfl
 |v::vs=>by simp[e6.go,RW]
theorem SM:∀{vs:List (bz U)} {i:Nat} {v:bz U},fC.go vs=true->vs[i]?=some v->fC v=true
 |[],i,v,_,h=>by simp at h
 |x::vs,0,v,hs,h=>by simp[fC.go]at hs;simp at h;subst h;exact hs.1
 |x::vs,i+1,v,hs,h=>by simp[fC.go]at hs;exact SM hs.2 (by simpa using h)
theorem aux:∀(cs:List (bj U)),(∀x,x∈cs->x.oj=true)->a8 (cg N J) cs (cs.map bj.oH)
 |[],_=>.nil
 |a::l,h=>.cons (zP (h a (by simp))).1 (aux l λx b=>h x (by simp[b]))
theorem vC{N:Nat}{J:bf U}:∀{x:bz U},fC x=true->ca N J x (e6 x)/\∀n,(e6 x).az n=true
 |.c x,h=>by
  simp only[fC]at h;obtain⟨h1,_,b⟩:=zP (N:=N) (J:=J) h;exact⟨.c h1,λn=>b n⟩
 |.agg cs,h=>by
  simp only[fC,c0]at h;refine⟨.agg ?_,λn=>?_⟩
  . exact aux cs h
  . simp only[e6,V.az,mO,c0];intro c g;exact(zP (N:=N) (J:=J) (h c g)).2.2 n
 |.aY vs,h=>by
  simp only[fC]at h;have:=go (N:=N) (J:=J) vs h;refine⟨.aY _ _ (by rw[RW]) λi x d a j=>?_,λn=>?_⟩
  . rw[Gz,a]at j;grind
  . simp only[e6,V.az];exact this.2 n
where go {N:Nat} {J:bf U}:∀(vs:List (bz U)),fC.go vs=true->(∀x,x∈vs->ca N J x (e6 x))/\∀n,V.az.V.dF n (e6.go vs)=true
 |[],_=>⟨by simp,λ_=>rfl⟩
 |v::vs,h=>by
  simp only[fC.go,cc]at h;obtain⟨h1,e⟩:=vC (N:=N) (J:=J) h.1;obtain⟨b,f⟩:=go (N:=N) (J:=J) vs h.2;refine⟨λx a=>?_,λn=>by simp only[e6.go,V.az.V.dF,cc];exact⟨e n,f n⟩⟩;rcases fe.1 a with rfl|a
  . exact h1
  . exact b x a
theorem zQ{x:bz U}{d:V}(h:ca N J x d):fC x=true->d=e6 x:=by
 induction h with
 |c h=>intro hs;simp only[fC]at hs;rw[(zP (N:=N) (J:=J) hs).2.1 _ h];rfl
 | @agg xs ds h=>
  intro hs;simp only[fC,c0]at hs;simp only[e6]
  congr 1
  induction h with
  |nil=>rfl
  |cons h1 e ih=>rw[gB,<-(zP (N:=N) (J:=J) (hs _ (by simp))).2.1 _ h1,<-ih (λx a=>hs x (by simp[a]))]
 |aY xs ds ae h ih=>
  intro hs;simp only[fC]at hs;simp only[e6]
  congr 1
  apply yf;intro i;rw[Gz];cases a:xs[i]? with
  |none=>grind
  |some x=>
   have f:=(c7.1 a).1;have b:=eF (l:=ds) (i:=i) (by omega);rw[b,f']
   congr 1
   exact ih i x _ a b (SM hs a)
end
section
open Go
variable {U:cK}
variable{K:Env->a7->Prop}{f:Nat->Nat}
section
variable {P:Program}{nt kk key N N':Nat}{env:Env}{J J':a7}{Q na:Exit->Env->a7->Nat->Prop}
def N2(P:Program)(f:Nat)(args:List V)(J:a7)(key:Nat)(env:Env)(K:V->a7->Prop):Prop:=
 ∀aB nt φ S a w,Rel aB nt φ S env J (lt key) a w->V.az.V.dF (lt key) args=true->∀vs:List Value,a8 (ck φ w S) args vs->
  Calls P f vs.toArray w λe w'=>∃v r b bQ J',e= .returned v/\K r J'/\ck b w' bQ r v/\r.az (eA (lt key) key)=true/\Rel aB nt b bQ env J' (eA (lt key) key) a w'
def acT(P:Program)(o:cb)(env:Env)(f:Nat)(vs:List V):Prop:=
 (∃args p,o.op= .call f args/\hp env args=some (p,vs)/\p)\/
 (∃x args q p caps a,o.op= .iI x args/\x.get env=some (q,.c (.fn f caps))/\q/\hp env args=some (p,a)/\p/\hI P f=true/\vs=a++caps.map λb=>V.c (.ptr b 0))
def uB(P:Program)(o:cb)(key:Nat)(env:Env)(J:a7)(K:Env->a7->Prop):Prop:=
 hc P o key env J K\/(fP env o.guard=some true/\∃f vs,acT P o env f vs/\N2 P f vs J key env λr J'=>K (en env o.dst true r) J')
def qk(P:Program)(kk:Nat):List cb->Nat->Env->a7->(Env->a7->Prop)->Prop
 |[],_,env,J,K=>K env J
 |o::r,key,env,J,K=>∃fQ a,Conv kk key env J key fQ a/\uB P o key fQ a λe s=>qk P kk r (key+16) e s K
theorem Jk{aB:Ctx}{φ:dE}{S:dT}{a:Act}{w:World}(R:Rel aB nt φ S env J (lt key) a w){ops:Array Oper}{o:Oper}{z:cb}(G:u2 P nt ops o=some z)(h:uB P z key env J K){Q:Exit->Act->World->Prop}:
 if Region.wanted o (yielded ops a.tmps)then o.wp P a w (j0 aB nt (eA (lt key) key) K) Q else j0 aB nt (eA (lt key) key) K (a.put o.dst undef) w:=by
 rcases h with h|⟨ao,f,vs,M,D⟩
 . exact CK R (λb h1 _=>G4 h1) G h
 . obtain⟨h1,e,A,B⟩:=Se G;have X:=S5 R e ao;rw[X];simp only[bJ];rcases M with⟨args,p,s,r,u⟩|⟨x,args,q,p,caps,L,s,T,W,r,u,l,rfl⟩
   . rw[s]at h1;obtain⟨c,m,y⟩:=R5 (xY h1 (by simp));obtain⟨n,l,k⟩:=R6 y;have H:=DM (P:=P) (w:=w) (a:=a) m n (f:=f) (caps:=[]) rfl l;simp only[l3]at H;obtain⟨g,j⟩:=qT R k r u;exact Calls.next A B rfl (λ_ _ h=>h) (D aB nt φ S a w R j _ g) H
   . rw[s]at h1;obtain⟨c,m,y⟩:=SF (xY h1 (by simp));obtain⟨t,rfl,n,k⟩:=SG y;obtain⟨g,j⟩:=qT R k r u;have I:=cz (x:= .tmp t) R rfl T W;have Y:a.eval (.tmp t)= .func (.func f) #[] (caps.map λb=>Value.pointer (some ⟨(φ b).1,0,none⟩)).toArray:=I.1.dY;have N:a8 (ck φ w S) (caps.map λb=>V.c (.ptr b 0)) (caps.map λb=>Value.pointer (some ⟨(φ b).1,0,none⟩)):=by
      refine a8.lv (by simp) ?_;intro i v x h1 e;simp only[n',bc]at h1 e;obtain⟨b,E,rfl⟩:=h1;obtain⟨Z,F,rfl⟩:=e;rw[E]at F;cases F;exact .c rfl
     have O:V.az.V.dF (lt key) (L++caps.map λb=>V.c (.ptr b 0))=true:=by
      refine tJ ?_;intro i v d;by_cases U:i<L.length
      . rw[n5 U]at d;exact nB j d
      . rw[p3 (by omega)]at d;simp only[n',bc]at d;obtain⟨b,E,rfl⟩:=d;have aa:=I.2;simp only[V.az,C.az,c0]at aa⊢;grind
     exact Calls.next A B rfl (λ_ _ h=>h) (D aB nt φ S a w R O _ (g.append N)) (DM m n Y l)
theorem IL{aB:Ctx}(j:aB.k=kk){ops:Array Oper}{Q:Exit->Act->World->Prop}{K:Env->a7->Nat->Prop}:∀{l:List Oper} {aZ:List cb} {k N:Nat} {env:Env} {J:a7} {φ:dE} {S:dT} {a:Act} {w:World},jx P nt ops l=some aZ->(∀i:Nat,i<l.length->l[i]?=ops[k+i]?)->
 Rel aB nt φ S env J (lt N) a w->qk P kk aZ N env J (λe s=>K e s (N+16*aZ.length))->(∀φ S e s N a w,K e s N->Rel aB nt φ S e s (lt N) a w->Q .normal a w)->wpOps P ops Q (List.range' k l.length) a w
 |[],aZ,k,N,env,J,φ,S,a,w,b,g,R,h,f=>by
  simp[jx]at b;subst b;simp only[ib,List.range'_zero,wpOps];exact f _ _ _ _ _ _ _ h R
 |o::l,aZ,k,N,env,J,φ,S,a,w,b,g,R,h,f=>by
  simp only[jx,bo,bc]at b;obtain⟨v,n,c,p,rfl⟩:=b;have r:ops[k]?=some o:=by have:=g 0 (by simp);simpa using this.symm
  rw[ia,Fi,wpOps_cons];unfold wpOp;rw[r];simp only;obtain⟨fQ,u,q,x⟩:=h;obtain⟨z,En,m⟩:=q aB nt φ S a w j R;have hs:=Jk m n (K:=λe s=>qk P kk c (N+16) e s λe s=>K e s (N+16*(c.length+1))) (by omega) (Q:=Q);have next:∀d w',j0 aB nt (eA (lt N) N) (λe s=>qk P kk c (N+16) e s λe s=>K e s (N+16*(c.length+1))) d w'->wpOps P ops Q (List.range' (k+1) l.length) d w':=by
   rintro d w' ⟨y,bQ,e,s,bI,R'⟩
   refine IL j (k:=k+1) (N:=N+16) p (λi ay=>?_) (R'.more λ_ h=>H4 h) (K:=K) ?_ f
   . have:=g (i+1) (by simp;omega);grind
   grind
  split at hs
  . rename_i t;rw[ad t];exact .inl (Oper.wp_mono next hs)
  grind
theorem cu.ags{aZ:List cb}(h:qk P kk aZ N env J (λe s=>Q .normal e s (N+16*aZ.length))):cu P nt kk (.region aZ) env J N Q:=by
 intro code j aB φ S a w o R;obtain⟨id,ops,rfl,p⟩:=RU j;refine wp_region ?_;have:=IL (P:=P) o (ops:=ops) (K:=λe s N=>Q .normal e s N) (Q:=λe c w'=>∃q bQ env' J' N',Q e env' J' N'/\Rel aB nt q bQ env' J' (lt N') c w') (k:=0) p (λi t=>by simp) R h
  (λφ S e s N a w bI f=>⟨φ,S,e,s,N,bI,f⟩)
 rw[List.range_eq_range'];omega
theorem ec.conv{f k:Nat}{args q:List V}{Q:V->a7->Nat->Prop}(u:a8 gj args q)(hs:r4 J J')(h:ec P f q J' k Q):ec P f args J k Q:=by
 intro φ S w B p z D A vs F;refine h φ S w B ⟨λb x o=>?_,λb t x y o G=>?_,p.st⟩ (λb x o=>?_) (λb x o=>?_) ?_ vs ?_
 . obtain⟨j,h1,e⟩:=hs b x o;exact e.Fx (p.blk b j h1)
 . obtain⟨j,h1,e⟩:=hs b x o;obtain⟨K,H,L⟩:=hs t y G;exact p.inj b t j K h1 H
 . obtain⟨j,h1,e⟩:=hs b x o;exact⟨(z b j h1).1,e.az _ (z b j h1).2⟩
 . obtain⟨j,h1,e⟩:=hs b x o;exact D b j h1
 . refine tJ λi v E=>?_;obtain⟨v0,h1,e⟩:=(u.flip (R':=λb a=>gj a b) λ_ _ h=>h).get E;exact e.az _ (nB A h1)
 . exact a8.comp (λa b c h1 e=>h1.FB e) (u.flip (R':=λb a=>gj a b) λ_ _ h=>h) F
theorem ec.mono{f k:Nat}{args:List V}{Q na:V->a7->Nat->Prop}(h:ec P f args J k Q)(j:∀r s n,Q r s n->na r s n):ec P f args J k na:=by
 intro φ S w B h1 a c e vs ba;refine(h φ S w B h1 a c e vs ba).mono ?_;grind
theorem ec.tidy{f k:Nat}{args:List V}{Q na:V->a7->Nat->Prop}(h:ec P f args J k Q)
 (am:∀r J' N',Q r J' N'->∃bs D J2,bs.Nodup/\keeps k bs=true/\gj (r.bN bs) D/\r4 (fq bs J' 0 bs) J2/\na D J2 bs.length):ec P f args J k na:=by
 intro φ S w B h1 M N U vs ba;refine(h φ S w B h1 M N U vs ba).mono ?_
 rintro e w' ⟨v,r,R,bQ,J',N',he,W,ay,a3,G,a4,aB,aI,fj⟩
 obtain⟨bs,D,J2,bS,Z,O,hs,X⟩:=am r J' N' W;have Y:∀i:Nat,i<k->bs[i]?=some i:=by
  intro i a2;unfold keeps at Z;grind
 let H:dE:=λi=>R ((bs[i]?).getD 0);have z:∀(i:Nat) b,bs[i]?=some b->H i=R b:=by intro i b h;simp[H,h]
 have A:∀b x,aV (fq bs J' 0 bs) b=some x->∃c a,bs[b]?=some c/\aV J' c=some a/\x=a.bN bs:=by
  intro b x p;obtain⟨j,c,a,rfl,M,N,rfl⟩:=py p;grind
 have an:∀(a:bO),(a.bN bs).az (lt bs.length)=true:=by
  intro a;cases a with
  |box cs=>simp only[bO.bN,bO.az,mO,c0];intro c _;exact C.jV c
  |arr sz es=>rfl
  |set ks=>rfl
  |buf E s=>rfl
  |b8 E c=>exact C.jV c
  |cA sz es i o c=>exact C.jV c
 refine⟨v,D,H,bQ,J2,bs.length,he,X,O.FB (ck.bN z ay),O.az _ (V.jV r),⟨λb x p=>?_,λb F x y p t ae h0 L=>?_,G.st⟩,λb x p=>?_,aB,λb x p h0=>?_,λb q=>?_⟩
 . obtain⟨y,t,q⟩:=hs b x p;obtain⟨c,a,aK,u,rfl⟩:=A b y t;exact q.Fx (c3.bN z aK (G.blk c a u))
 . obtain⟨a0,ap,_⟩:=hs b x p;obtain⟨a1,ax,_⟩:=hs F y t;obtain⟨c,a,aK,u,_⟩:=A b a0 ap;obtain⟨K,aZ,f1,f2,_⟩:=A F a1 ax;rw[z b c aK]at h0⊢;rw[z F K f1]at L⊢;refine G.inj c K a aZ u f2 ?_ h0 L;intro e;subst e;have:=mJ bS aK;rw[mJ bS f1]at this;cases this;exact ae rfl
 . obtain⟨y,t,q⟩:=hs b x p;obtain⟨c,a,aK,u,rfl⟩:=A b y t;exact⟨(c7.1 aK).1,q.az _ (an a)⟩
 . obtain⟨y,t,q⟩:=hs b x p;obtain⟨c,a,aK,u,rfl⟩:=A b y t;rw[z b c aK]at h0⊢;exact aI c a u h0
 . rw[z b b (Y b q)];exact fj b q
end
def bj.b9(f:Nat->Nat):bj U->bj U
 |.ptr b o=>.ptr (f b) o
 |.cH b ty i o=>.cH (f b) ty i o
 |.arr b=>.arr (f b)
 |.sub b a len=>.sub (f b) a len
 |.pre b h=>.pre (f b) h
 |.dH b a len=>.dH (f b) a len
 |.mp b=>.mp (f b)
 |.eg b=>.eg (f b)
 |.cI b=>.cI (f b)
 |.fn g caps=>.fn g (caps.map f)
 |x=>x
def bz.b9(f:Nat->Nat):bz U->bz U
 |.c x=>.c (x.b9 f)
 |.agg cs=>.agg (cs.map (bj.b9 f))
 |.aY vs=>.aY (go f vs)
where go (f:Nat->Nat):List (bz U)->List (bz U)
 |[]=>[]
 |v::vs=>v.b9 f::go f vs
def cP.b9(f:Nat->Nat):cP U->cP U
 |.box cs=>.box (cs.map (bj.b9 f))
 |.arr ty l=>.arr ty l
 |.rows sz r=>.rows sz r
 |.set ks=>.set ks
 |.buf E s=>.buf E s
 |.b8 E c=>.b8 E (c.b9 f)
 |.cA t l i o c=>.cA t l i o (c.b9 f)
def AH(J:bf U):a6->bf U
 |[]=>J
 |b::r=>dl (AH J r) b
def mX(J:bf U)(bs:a6)(f:Nat->Nat):bf U->bf U
 |[]=>AH J bs
 |(b,x)::r=>cE (mX J bs f r) (f b) (x.b9 f)
def ot(J Jr:bf U):Nat->a6->Option Bool
 |_,[]=>some true
 |i,b::r=>match aX Jr i with
  |none=>ot J Jr (i+1) r
  |some d=>match aX J b with
   |none=>none
   |some x=>match d.df with
    |none=>ot J Jr (i+1) r
    |some a=>match x.df with
     |none=>none
     |some p=>match Nat.beq a.1 p.1,ot J Jr (i+1) r with
      |true,some c=>some (decide (a.2=p.2)&&c)
      |_,_=>none
section
variable {key N':Nat}{J Jr:bf U}{J1 O4:a7}{bs:a6}
theorem KD:∀{bs:a6} {b:Nat},aX (AH J bs) b=if b∈bs then none else aX J b
 |[],b=>by simp[AH]
 |c::r,b=>by
  simp only[AH,n3,KD (bs:=r)];grind
theorem td{f:Nat->Nat}:∀{e:bf U} {c:Nat} {x:cP U},aX (mX J bs f e) c=some x->(∃b a,c=f b/\aX e b=some a/\x=a.b9 f)\/(c ∉ bs/\aX J c=some x)
 |[],c,x,h=>by
  simp only[mX,KD]at h;grind
 |(b,y)::r,c,x,h=>by
  simp only[mX,hN]at h;split at h
  . rename_i d;cases h;exact .inl ⟨b,y,d.symm,by simp[aX,yn],rfl⟩
  . rename_i d;rcases td h with⟨g,a,h1,i,j⟩|h
    . refine .inl ⟨g,a,h1,?_,j⟩;simp only[aX];cases k:Nat.beq b g with
      |true=>exact absurd (by rw[cV k];exact h1.symm) d
      |false=>exact i
    grind
theorem y2(bS:bs.Nodup)(ay:∀b,b∈bs->b<key){i j:Nat}(h:back bs key i=back bs key j):i=j:=by
 unfold back at h;cases d:bs[i]? with
 |some b=>
  rw[d]at h;have e:=ay b (eJ d);cases a:bs[j]? with
  |some c=>
   rw[a]at h;simp at h;subst h;have:=mJ bS d;rw[mJ bS a]at this;grind
  |none=>rw[a]at h;simp at h;omega
 |none=>
  rw[d]at h;have f:=tU.1 d;cases a:bs[j]? with
  |some c=>
   rw[a]at h;have e:=ay c (eJ a);grind
  |none=>grind
theorem SN(g:∀i j,f i=f j->i=j):∀{a:a7} {b:Nat} {x:bO},aV a b=some x->aV (hh J1 bs f a) (f b)=some (x.b9 f)
 |[],b,x,h=>by simp[aV]at h
 |(c,y)::r,b,x,h=>by
  simp only[hh,cX];simp only[aV]at h;by_cases d:c=b
  . grind
  . rw[al d]at h;rw[al (λe=>d (g _ _ e))];exact SN g h
theorem Tf{c:Nat}(a:c ∉ bs)(d:∀b,f b≠c):∀{e:a7},aV (hh J1 bs f e) c=aV J1 c
 |[]=>by simp only[hh,pz,al a]
 |(b,y)::r=>by
  simp only[hh,cX];rw[al (d b)];exact Tf a d
theorem cP.xB{x:cP U}:(x.b9 f).df=x.df:=by cases x<;>rfl
theorem Jl:∀{l:a6} {d:Nat} {c:Bool},ot J Jr d l=some c->c=true->∀(j b:Nat) f,l[j]?=some b->aX Jr (d+j)=some f->∃x,aX J b=some x/\∀p,f.df=some p->x.df=some p
 |[],d,c,h,n,j,b,f,g,m=>by simp at g
 |a::l,d,c,h,n,j,b,f,g,m=>by
  simp only[ot]at h;have next:∀{k},ot J Jr (d+1) l=some k->k=true->∀i,j=i+1->∃x,aX J b=some x/\∀p,f.df=some p->x.df=some p:=by
   intro k h1 r i e;subst e;exact Jl h1 r i b f (by simpa using g) (by rw[show d+1+i=d+(i+1) by omega];exact m)
  cases j with
  |zero=>
   simp at g;subst g;simp only[l5]at m;rw[m]at h;simp only at h;split at h
   . cases h
   . rename_i x v;split at h
     . grind
     . rename_i y t;split at h
       . cases h
       . rename_i p u;split at h
         . rename_i k s w;cases h;simp only[cc,dq]at n;refine⟨x,v,λq o=>?_⟩;rw[t]at o;cases o;rw[u];have:=cV s;grind
         . cases h
  |succ j=>
   split at h
   . grind
   grind
variable (bS:bs.Nodup)(ay:∀b,b∈bs->b<key)(cp:N'<=bs.length+16)(aE:cx key J J1)
include bS ay cp aE in
theorem cg.b9{x:bj U}{d:C}(h:cg N' Jr x d):cg (key+16) (mX J bs (back bs key) Jr) (x.b9 (back bs key)) (d.b9 (back bs key)):=by
 cases h with
 |t c=>exact cg.t c
 |ptr b o=>exact cg.ptr _ o
 |cH b t i o=>exact cg.cH _ t i o
 |dO t x o=>exact cg.dO t x o
 |arr b sz n y h=>
  have j:back bs key b<key+16:=by
   unfold back;cases e:bs[b]? with
   |some c=>simp;have:=ay c (eJ e);omega
   |none=>have:=tU.1 e;simp;omega
  refine cg.arr _ sz n j λx v p u=>?_;rcases td v with⟨w,A,h1,a,rfl⟩|⟨h1,a⟩
  . have:=y2 bS ay h1;subst this;rw[cP.xB]at u;grind
  . exfalso;have q:=(aE _ _ a).1;unfold back at h1 q;grind
 |sub b z len=>exact cg.sub _ z len
 |pre b sz n y h=>
  have j:back bs key b<key+16:=by
   unfold back;cases e:bs[b]? with
   |some c=>simp;have:=ay c (eJ e);omega
   |none=>have:=tU.1 e;simp;omega
  refine cg.pre _ sz n j λx v p u=>?_;rcases td v with⟨w,A,h1,a,rfl⟩|⟨h1,a⟩
  . have:=y2 bS ay h1;subst this;rw[cP.xB]at u;grind
  . exfalso;have q:=(aE _ _ a).1;unfold back at h1 q;grind
 |dH b sz z len y h=>
  have j:back bs key b<key+16:=by
   unfold back;cases e:bs[b]? with
   |some c=>simp;have:=ay c (eJ e);omega
   |none=>have:=tU.1 e;simp;omega
  refine cg.dH _ sz z len j λx v p u=>?_;rcases td v with⟨w,A,h1,a,rfl⟩|⟨h1,a⟩
  . have:=y2 bS ay h1;subst this;rw[cP.xB]at u;grind
  . exfalso;have q:=(aE _ _ a).1;unfold back at h1 q;grind
 |mp b=>exact cg.mp _
 |eg b=>exact cg.eg _
 |cI b n y h=>
  have j:back bs key b<key+16:=by
   unfold back;cases e:bs[b]? with
   |some c=>simp;have:=ay c (eJ e);omega
   |none=>have:=tU.1 e;simp;omega
  refine cg.cI _ n j λx v p u=>?_;rcases td v with⟨w,A,h1,a,rfl⟩|⟨h1,a⟩
  . have:=y2 bS ay h1;subst this;rw[cP.xB]at u;grind
  . exfalso;have q:=(aE _ _ a).1;unfold back at h1 q;grind
 |aF=>exact .aF
 |e4=>exact .e4
 |e3=>exact .e3
 |fn f caps=>exact cg.fn f _
 |dead d=>exact .dead _
theorem IM:∀{vs:List (bz U)} {i:Nat},(bz.b9.go f vs)[i]?=(vs[i]?).map (bz.b9 f)
 |[],i=>by simp[bz.b9.go]
 |v::vs,0=>by simp[bz.b9.go]
 |v::vs,i+1=>by simp[bz.b9.go,IM]
theorem Tg:∀{vs:List (bz U)},(bz.b9.go f vs).length=vs.length
 |[]=>rfl
 |v::vs=>by simp[bz.b9.go,Tg]
include bS ay cp aE in
theorem ca.b9{x:bz U}{d:V}(h:ca N' Jr x d):ca (key+16) (mX J bs (back bs key) Jr) (x.b9 (back bs key)) (d.b9 (back bs key)):=by
 induction h with
 |c h=>exact .c (cg.b9 bS ay cp aE h)
 |agg h=>exact .agg (a8.map_map (h.imp λ_ _ _ aa=>cg.b9 bS ay cp aE aa))
 |aY xs ds ae h ih=>
  refine .aY _ _ (by rw[Tg,GY];exact ae) ?_;intro i x d e a;rw[IM,bc]at e;rw[Hc,bc]at a;grind
include bS ay aE in
theorem Dz(f:ot J Jr 0 bs=some true):dm key J (key+16) (mX J bs (back bs key) Jr):=by
 refine⟨by omega,λc x m g=>?_⟩;rcases td g with⟨b,k,h1,d,rfl⟩|⟨h1,d⟩
 . unfold back at h1;cases a:bs[b]? with
   |some l=>
    rw[a]at h1;simp at h1;subst h1;obtain⟨x,i,j⟩:=Jl f rfl b c k a (by rw[gb];exact d);exact⟨x,i,λp e=>j p (by rw[cP.xB]at e;exact e)⟩
   |none=>rw[a]at h1;simp at h1;omega
 grind
include bS ay cp aE in
theorem cx.EO(v:ot J Jr 0 bs=some true)(w:cx N' Jr O4):cx (key+16) (mX J bs (back bs key) Jr) (hh J1 bs (back bs key) O4):=by
 intro c x z;have u:∀b,b<N'->back bs key b<key+16:=by
  intro b B;unfold back;cases p:bs[b]? with
  |some c=>simp;have:=ay c (eJ p);omega
  |none=>have:=tU.1 p;simp;omega
 rcases td z with⟨b,A,rfl,a,rfl⟩|⟨h1,a⟩
 . obtain⟨f,y,e,ba⟩:=w b A a;refine⟨u b f,y.b9 (back bs key),SN (λi j=>y2 bS ay) e,?_⟩;cases ba with
   |box ba=>exact .box (a8.map_map (ba.imp λ_ _ _ aa=>cg.b9 bS ay cp aE aa))
   |arr t l=>exact .arr t l
   |set ks=>exact .set ks
   |buf E s=>exact .buf E s
   |b8 ba=>exact .b8 (cg.b9 bS ay cp aE ba)
   |cA t l i o ba=>exact .cA t l i o (cg.b9 bS ay cp aE ba)
   |rows ba q=>exact .rows ba q
 . obtain⟨f,y,e,ba⟩:=aE c x a;refine⟨by omega,y,?_,?_⟩
   . rw[Tf h1 λb=>?_]
     . exact e
     . unfold back;grind
   . exact ba.mono (Dz bS ay aE v)
end
end
section
open Go
variable {xb:a6}
def DR(n:Nat):List (Nat×Nat)->Bool
 |(i,_)::_=>Nat.beq i n
 |[]=>false
theorem ZH{l:List (cb×a6)}{p:Nat×Nat}(h:p∈lh l):p.1<l.length:=by
 simp only[lh,Ev,Fk]at h;grind
theorem XR{l:List (cb×a6)}(h:DR l.length (se l)=true):DQ l=true/\tk l.dropLast=true/\∀p,p∈lh l.dropLast->p∈se l:=by
 unfold se at h⊢;split at h
 . grind
 . exfalso;cases ae:lh l with
   |nil=>rw[ae]at h;cases h
   |cons p r=>
    rw[ae]at h;have a:p∈lh l:=by rw[ae];simp
    have:=ZH a;obtain⟨i,j⟩:=p;have b:Nat.beq i l.length=true:=h;simp_all
variable{D:Nat->a6}{listed:Array Bool}{Q:Exit->Env->a7->Nat->Prop}{fZ:List (Nat×Nat)}
theorem YN{l:List (cb×a6)}{m:Nat}(g:l.length=m+1)(h:DQ l=true)(e:∀(i:Nat) x,l[i]?=some x->D i=x.2){p:Nat->Bool}(f:∀i,i<m->p i=true->∀d,d∈D i->p d=true)(ae:∀d,d∈D m->p d=true):
 ∀i,i<m->p i=true:=by
 have key:∀k i,i<m->m-i<=k->p i=true:=by
  intro k;induction k with
  |zero=>intro i h1 a;omega
  |succ k ih=>
   intro i h1 a;simp only[DQ,c0,wk]at h;have c:=h i (by omega);grind
 exactλi b=>key m i b (by omega)
section
variable {P:Program}{aB:Ctx}{nt kk:Nat}{N:Nat}{ops:Array Oper}{init:List cb}{last:cb}{E:Nat->Env}{T:Nat->a7}{G:Nat->Bool}{W:Nat->V}
theorem Db{i m:Nat}(hs:listed.size=m+1)(a:i<m):listed.pop.getD i false=listed.getD i false:=by
 simp only[Bw,Array.getElem?_pop];grind
theorem abW{i m:Nat}(hs:listed.size=m+1)(a:i<m):(listed.setIfInBounds i true).pop=listed.pop.setIfInBounds i true:=by grind
theorem ZI{Q:Exit->Act->World->Prop}{c:Nat}{a:Act}{w:World}(hs:listed.size=ops.size)(f:∀i,i<ops.size->listed.getD i false=true)(d:Q .normal a w):wpAny P .any ops Q c listed a w:=by
 have e:Region.ready .any ops listed=[]:=by
  rw[Q'];intro i b;rw[mem_ready]at b;grind
 cases c with
 |zero=>exact⟨e,d⟩
 |succ c=>exact⟨λ_=>d,λi b=>by rw[e]at b;cases b⟩
theorem YO(st:Stat xb init D E N)(B:ov xb P init N E T G W)(hres:jx P nt ops ops.toList=some (init++[last]))(F:∀(i:Nat) o,ops[i]?=some o->D i=hg o)
 (aw:∀(p:Nat->Bool),(∀i,i<init.length->p i=true->∀d,d∈D i->p d=true)->(∀d,d∈D init.length->p d=true)->∀i,i<init.length->p i=true)
 (aq:∀d,d∈D init.length->d<init.length)
 {Q:Exit->Act->World->Prop}{K:Env->a7->Prop}(av:aB.k=kk)
 (bI:∃fQ C,Conv kk (N+16*init.length) (E init.length) (T init.length) (N+16*init.length) fQ C/\uB P last (N+16*init.length) fQ C K)
 (aj:∀e s φ S a w,K e s->Rel aB nt φ S e s (eA (lt (N+16*init.length)) (N+16*init.length)) a w->Q .normal a w):
 ∀(g:Nat) (listed:Array Bool) φ S env J a w,listed.size=init.length+1->listed.getD init.length false=false->listed.toList.countP (· ==false)<=g->Inv xb aB nt init D N E T G W listed.pop φ S env J a w->wpAny P .any ops Q g listed a w:=by
 have aa:=xS hres;simp at aa;have ax:∀(listed:Array Bool) (φ:dE) (S:dT) (env:Env) (J:a7) (a:Act) (w:World),listed.size=init.length+1->listed.getD init.length false=false->Inv xb aB nt init D N E T G W listed.pop φ S env J a w->Region.ready .any ops listed≠[]:=by
  intro listed φ S env J a w hs u cy ab;have H:∀i,i<init.length->listed.getD i false=true:=by
   intro i;induction i using Nat.strongRecOn with
   |_ i ih=>
    intro q;cases ae:listed.getD i false with
    |true=>rfl
    |false=>
     exfalso;have A:i<ops.size:=(by omega);have c:ops[i]?=some ops[i]:=By A;have:i∈Region.ready .any ops listed:=by
      rw[mem_ready];refine⟨?_,ops[i],c,λe he an=>?_⟩
      . grind
      . have l:e.on∈D i:=by
         rw[F i _ c];simp only[hg,eK,rH];grind
        exact ih e.on (st.back i _ q l) (by have:=st.back i _ q l;omega)
     grind
  have A:init.length<ops.size:=by omega
  have c:ops[init.length]?=some ops[init.length]:=By A;have:init.length∈Region.ready .any ops listed:=by
   rw[mem_ready];refine⟨?_,ops[init.length],c,λe he an=>?_⟩
   . grind
   . have l:e.on∈D init.length:=by
      rw[F _ _ c];simp only[hg,eK,rH];grind
     grind
  grind
 intro g;induction g with
 |zero=>
  intro listed φ S env J a w hs u I cy;exfalso;have t:init.length<listed.size:=by omega
  have h0:listed.toList.countP (· ==false)=0:=by omega
  rw[List.countP_eq_zero]at h0;simp[t]at u;exact h0 listed[init.length] (by simp) (by simp[u])
 |succ g ih=>
  intro listed φ S env J a w hs u I cy;refine⟨λab=>absurd ab (ax listed φ S env J a w hs u cy),λi q=>?_⟩;rw[mem_ready]at q;obtain⟨h1,o,c,az⟩:=q;have A:i<ops.size:=(yq.1 c).1;have t:i<listed.size:=by omega
  have aD:listed.getD i false=false:=by simp[t]at h1⊢;exact h1
  obtain⟨v,V,af⟩:=FO hres (i:=i) (o:=o) (by simpa using c);have l:∀d,d∈D i->listed.getD d false=true:=by
   intro d l;rw[F i o c]at l;simp only[hg,eK,rH]at l;grind
  have au:listed.toList.countP (· ==false)<=g+1->(listed.setIfInBounds i true).toList.countP (· ==false)<=g:=by
   intro I;have:listed.toList[i]?=some false:=by simp[t]at aD⊢;exact aD
   grind
  rcases Nat.lt_or_ge i init.length with y|y
  ·
   have x:init[i]?=some v:=by rw[n5 y]at V;exact V
   have X:∀d,d∈D i->listed.pop.getD d false=true:=λd n=>by rw[Db hs (by have:=st.back i d y n;omega)];exact l d n
   have L:listed.pop.getD i false=false:=by rw[Db hs y];exact aD
   obtain⟨ak,am⟩:=cy.agree st B x L X;obtain⟨⟨bn,ay,ah⟩,_⟩:=(B.step i v x).1.local (env':=env) (J':=J) ak am;have z:=CK cy.rel (key:=N+16*i) (λb ao ap=>I5 L ao ap) af (K:=λe s=>e=en env v.dst (G i) (W i)/\s=bn) (ay.hc ⟨rfl,rfl⟩) (Q:=Q);have next:∀f w',j0 aB nt (eA (used N init.length listed.pop) (N+16*i)) (λe s=>e=en env v.dst (G i) (W i)/\s=bn) f w'->wpAny P .any ops Q g (listed.setIfInBounds i true) f w':=by
    rintro f w' ⟨U,bQ,e,s,⟨rfl,rfl⟩,R'⟩
    have M:=abW (listed:=listed) (i:=i) (m:=init.length) hs y;refine ih (listed.setIfInBounds i true) U bQ _ _ f w' (by simpa using hs) ?_ (au I) (by rw[M];exact cy.step st B x L X ah R');rw[lf t,bp];exact u
   unfold wpOp;rw[c];dsimp only;split at z
   . rename_i r;rw[ad r];exact .inl (Oper.wp_mono next z)
   . rename_i r;rw[al r];exact next _ _ z
  ·
   have q:i=init.length:=(by omega);subst q;have x:v=last:=(by grind);subst x;have H:∀j,j<init.length->listed.pop.getD j false=true:=by
    refine aw (λj=>listed.pop.getD j false) (λj Y M d n=>cy.down j Y M d n) (λd n=>?_);rw[Db hs (aq d n)];exact l d n
   have R:=cy.done st B H;obtain⟨fQ,C,ar,z⟩:=bI;obtain⟨aC,En,ag⟩:=ar aB nt φ S a w av R;have O:=Jk ag af z (Q:=Q);have next:∀f w',j0 aB nt (eA (lt (N+16*init.length)) (N+16*init.length)) K f w'->wpAny P .any ops Q g (listed.setIfInBounds init.length true) f w':=by
    rintro f w' ⟨U,bQ,e,s,ai,R'⟩
    refine ZI (by simp[hs,aa]) (λj Y=>?_) (aj e s U bQ f w' ai R');rw[lf t];split
    . rfl
    . rename_i aA;have Z:j<init.length:=(by omega);rw[<-Db hs Z];exact H j Z
   unfold wpOp;rw[c];dsimp only;split at O
   . rename_i r;rw[ad r];exact .inl (Oper.wp_mono next O)
   . rename_i r;rw[al r];exact next _ _ O
theorem cu.agt{env:Env}{J:a7}(a3:DR (init.length+1) fZ=true)
 (h:w6 xb P init N env J (λe s=>kM xb init e N fZ=true/\qk P kk [last] (N+16*init.length) e s (λe s=>Q .normal e s (N+16*init.length+16)))):cu P nt kk (.oh (init++[last]) fZ) env J N Q:=by
 intro code ay aB φ S a w a0 R;obtain⟨id,ops,rfl,hres,X,a4,rfl⟩:=Sf ay;have F:=xS hres;simp at F;have M:(fi ops (init++[last])).length=init.length+1:=by simp[fi,F]
 obtain⟨a2,O,bi⟩:=XR (l:=fi ops (init++[last])) (by rw[M];exact a3);obtain⟨E,T,G,W,Z,cY,t0,aI,ap⟩:=G5 h;have Y:(fi ops (init++[last])).dropLast=fi ops.pop init:=by
  obtain⟨K,x,c⟩:∃K x,ops.toList=K++[x]:=by
   cases ae:ops.toList.reverse with
   |nil=>exfalso;have h1:=dS List.length ae;rw[List.length_reverse,rE,ib]at h1;omega
   |cons x r=>exact⟨r.reverse,x,by have:=dS List.reverse ae;simpa using this⟩
  have a1:K.length=init.length:=by have h1:=dS List.length c;rw[rE,c4,List.length_singleton]at h1;omega
  unfold fi;rw[Array.toList_pop,c,p8,List.zip_append (by simp[a1])];simp
 rw[Y]at O;have aZ:kM xb init (E init.length) N (lh (fi ops.pop init))=true:=Hy (λp a9=>bi p (by rw[Y];exact a9)) aI;have v:=M5 (ops:=ops.pop) (by simp;omega) O Z aZ;let D:Nat->a6:=λi=>((ops[i]?).map hg).getD [];have z:∀i,i<init.length->((ops.pop[i]?).map hg).getD []=D i:=by grind
 have st:Stat xb init D E N:=by
  refine⟨λi d f A=>v.back i d f (by rw[z i f];exact A),λi j x y d c an bs=>?_,λi j b a5 f B bn u=>?_⟩
  . have f:=(c7.1 c).1;have B:=(c7.1 an).1;have:=v.wE i j x y d c an bs;grind
  . rcases v.ord i j b a5 f B bn u with⟨h1,q⟩|⟨h1,q⟩
    . exact .inl ⟨h1,q.congr v.back z B⟩
    . exact .inr ⟨h1,q.congr v.back z f⟩
 have am:∀(i:Nat) x,(fi ops (init++[last]))[i]?=some x->D i=x.2:=by
  intro i x c;unfold fi at c;grind
 refine wp_region_any a4 ?_;have be:∃fQ L,Conv kk (N+16*init.length) (E init.length) (T init.length) (N+16*init.length) fQ L/\uB P last (N+16*init.length) fQ L (λe s=>Q .normal e s (N+16*init.length+16)):=ap;have ax:∀d,d∈D init.length->d<init.length:=by
  intro d A;simp only[tk,cc]at X;have c:(fi ops (init++[last]))[init.length]?=some (fi ops (init++[last]))[init.length]:=eF (by omega);have:=G0 X.1.1 c d (by rw[<-am _ _ c];exact A);omega
 refine YO (aB:=aB) (nt:=nt) (D:=D) st Z hres (λi o U=>by simp[D,U]) (λp h1 q=>YN M a2 am h1 q) ax a0 be (λe s φ S a w ba R'=>⟨φ,S,e,s,_,ba,R'.more λb u=>H4 u⟩) ops.size _ φ S env J a _ ?_ ?_ ?_ ?_
 . simp[F]
 . rw[Bw,Array.getElem?_replicate];split<;>rfl
 . have:=List.countP_le_length (p:=λx:Bool=>x==false) (l:=(Array.replicate ops.size false).toList);simpa using this
 . have R':Rel aB nt φ S env J (lt N) a {w with drawn:=w.drawn+1}:=R.drew;have H:∀i,(Array.replicate ops.size false).pop.getD i false=true->False:=by
    intro i ae;simp only[Bw,Array.getElem?_pop]at ae;grind
   refine⟨R'.more λb u=>by simp[used,u],by simp;omega,λi f ae=>(H i ae).elim,λt _=>by rw[cY],λt i o U ae=>(H i ae).elim,λb _=>by rw[t0],λb i f ae=>(H i ae).elim⟩
end
end
end Go.Proofs.YtdjagncoefjfeaaGreat.Shv
