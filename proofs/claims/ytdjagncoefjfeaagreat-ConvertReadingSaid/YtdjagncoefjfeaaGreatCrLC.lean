/- The library of this proof, part C: an abstract machine for the code of the program, and its soundness. -/
import Derived.Test.YtdjagncoefjfeaaGreatCrLB

namespace Go.Proofs.YtdjagncoefjfeaaGreat.Shv
set_option linter.all false
section
open Go
variable {xb:a6}
def kF(xb:a6)(aZ:List cb)(env:Env)(N:Nat):List (Nat×Nat)->Bool
 |[]=>true
 |(i,j)::r=>(match aZ[i]?,aZ[j]? with
  |some x,some y=>(ep xb y.op env (N+16*j)).all λb=>!(cF xb x.op env (N+16*i) b)
  |_,_=>true)&&kF xb aZ env N r
variable{N:Nat}{env:Env}{aZ:List cb}
theorem KH:∀{gh:List (Nat×Nat)} {i j:Nat} {x y:cb},kF xb aZ env N gh=true->(i,j)∈gh->aZ[i]?=some x->aZ[j]?=some y->∀b,b∈ep xb y.op env (N+16*j)->cF xb x.op env (N+16*i) b=false
 |[],i,j,x,y,h,a,_,_,_,_=>by simp at a
 |(g,k)::r,i,j,x,y,h,a,d,f,b,c=>by
  simp only[kF,cd]at h;rcases eU.1 a with e|a
  . grind
  . exact KH h.2 a d f b c
section
variable {P:Program}{aD:Ctx}{nt kk:Nat}{N:Nat}{ops:Array Oper}{aZ:List cb}{E:Nat->Env}{T:Nat->a7}{G:Nat->Bool}{W:Nat->V}
theorem Yv{i:Nat}{o:Oper}{x:cb}(a:ops[i]?=some o)(b:aZ[i]?=some x):(fr ops aZ)[i]?=some (x,hp o):=by
 unfold fr;grind
theorem M9(ah:aZ.length=ops.size)(K:s8 (fr ops aZ)=true)(Y:oH xb P aZ N E T G W)(V:kF xb aZ (E aZ.length) N (lk (fr ops aZ))=true):
 Stat xb aZ (λi=>((ops[i]?).map hp).getD []) E N:=by
 simp only[s8,cd]at K;obtain⟨⟨U,L⟩,_⟩:=K;have g:∀i,i<aZ.length->∃o x,ops[i]?=some o/\aZ[i]?=some x/\(fr ops aZ)[i]?=some (x,hp o):=by
  intro i m;have v:ops[i]?=some ops[i]:=BJ (by omega);have a:aZ[i]?=some aZ[i]:=eI m;exact⟨_,_,v,a,Yv v a⟩
 have ad:∀i j,ahead (fr ops aZ) j i=true->j<i/\j∈((ops[i]?).map hp).getD []:=by
  intro i j h;obtain⟨h1,y,q,ab⟩:=aaT h;refine⟨h1,?_⟩;have m:i<aZ.length:=by
   have:=(c5.1 q).1;unfold fr at this;simp at this;omega
  grind
 have M:∀(i j:Nat) (x y:cb) (d:Nat),aZ[i]?=some x->aZ[j]?=some y->y.dst=some d->(d∈x.rd->(j<i/\j∈((ops[i]?).map hp).getD [])\/(x.op.neutral=true/\x.op.im=false/\i<j/\i∈((ops[j]?).map hp).getD []))/\(i=j\/x.dst≠some d):=by
  intro i j x y d a c ak;obtain⟨z,aa,I,p,r⟩:=g i (c5.1 a).1;obtain⟨A,R,J,f,s⟩:=g j (c5.1 c).1;rw[a]at p;cases p;rw[c]at f;cases f;simp only[Sp,c0]at L;have h1:=L ((x,hp z),i) (eM (i:=i) (by simp[BS,r]));have q:=h1 ((y,hp A),j) (eM (i:=j) (by simp[BS,s]));grind
 refine⟨λi d m F=>?_,M,?_⟩
 . obtain⟨o,x,v,a,S⟩:=g i m;rw[v]at F;have:=GM U S d F;omega
 ·
  have H:∀(i:Nat) (x:cb),aZ[i]?=some x->¬(x.op.neutral=true/\x.op.im=false)->∀t,t∈x.op.reads->look (E aZ.length) t=look (E i) t:=by
   intro i x a ai t ht;have m:=(c5.1 a).1;refine wA Y (by omega) (dU _) λj y ae af c Z=>?_;rcases (M i j x y t a c Z).1 (MI ht)with h|h
   . omega
   grind
  have aj:∀i j,ob (mr (fr ops aZ) []) j i=true->j<i/\jo (λi=>((ops[i]?).map hp).getD []) j i:=by
   intro i j h;simp only[ob,cd,dw,List.contains_iff_mem]at h;refine⟨h.1,JW (l:=fr ops aZ) (acc:=[]) (λk x a=>?_) (λi j B=>by simp at B) i j h.2⟩;have ag:k<aZ.length:=by
    have:=(c5.1 a).1;unfold fr at this;simp at this;omega
   grind
  have C:∀(i j:Nat) (x y:cb) (b:Nat),i≠j->aZ[i]?=some x->aZ[j]?=some y->cF xb x.op (E i) (N+16*i) b=true->b∈ep xb y.op (E j) (N+16*j)->ob (mr (fr ops aZ) []) i j=true\/ob (mr (fr ops aZ) []) j i=true:=by
   intro i j x y b u a c n e;by_cases h1:ob (mr (fr ops aZ) []) i j=true
   . grind
   . by_cases q:ob (mr (fr ops aZ) []) j i=true
     . grind
     . exfalso;obtain⟨z,aa,I,p,r⟩:=g i (c5.1 a).1;obtain⟨A,R,J,f,s⟩:=g j (c5.1 c).1;rw[a]at p;cases p;rw[c]at f;cases f;have ht:y.op.im=true:=by
        cases h:y.op.im with
        |true=>rfl
        |false=>rw[Yc h]at e;simp at e
       have X:(i,j)∈lk (fr ops aZ):=by
        simp only[lk,EP,FJ];refine⟨((x,hp z),i),eM (i:=i) (by simp[BS,r]),?_⟩;dsimp only;rw[LC n];simp only[bV,b7,List.mem_filterMap];refine⟨((y,hp A),j),eM (i:=j) (by simp[BS,s]),?_⟩;grind
       have:=KH V X a c b (by rw[aaS (H j y c (λh=>by rw[ht]at h;cases h.2))];exact e);rw[aaR (H i x a (λh=>by rw[LC n]at h;cases h.1))]at this;grind
  intro i j b u m B n e;obtain⟨z,x,I,a,r⟩:=g i m;obtain⟨A,y,J,c,s⟩:=g j B;have w:cF xb x.op (E i) (N+16*i) b=true:=by unfold iu at n;rw[a]at n;exact n
  have conv:(ob (mr (fr ops aZ) []) i j=true\/ob (mr (fr ops aZ) []) j i=true)->(i<j/\jo (λi=>((ops[i]?).map hp).getD []) i j)\/(j<i/\jo (λi=>((ops[i]?).map hp).getD []) j i):=by grind
  rcases e with⟨R,f,e⟩|e
  . rw[c]at f;cases f;exact conv (C i j x y b u a c w e)
  . have D:cF xb y.op (E j) (N+16*j) b=true:=by unfold iu at e;rw[c]at e;exact e
    cases Q:y.op.im with
    |true=>exact conv (C i j x y b u a c w (KF Q D))
    |false=>
     cases O:x.op.im with
     |true=>exact conv (C j i y x b (dK u) c a D (KF O w)).symm
     |false=>
      have h1:=M8 O w;have q:=M8 Q D;exfalso;omega
theorem Hl:∀{l m:List (Nat×Nat)},(∀p,p∈l->p∈m)->kF xb aZ env N m=true->kF xb aZ env N l=true
 |[],_,_,_=>rfl
 |(i,j)::r,m,hs,h=>by
  simp only[kF,cd];refine⟨?_,Hl (λp c=>hs p (Fz _ c)) h⟩
  have:∀ (m:List (Nat×Nat)),(i,j)∈m->kF xb aZ env N m = true->(match aZ[i]?,aZ[j]? with
   |some x,some y=>(ep xb y.op env (N+16*j)).all λb=>!(cF xb x.op env (N+16*i) b)
   |_,_=>true)=true:=by
   intro m;induction m with
   |nil=>intro h _;simp at h
   |cons q m ih=>
    intro d a;obtain⟨e,f⟩:=q;simp only[kF,cd]at a;grind
  grind
theorem aaU{l:List (cb×a6)}{p:Nat×Nat}(h:p∈lk l):p∈sk l:=by
 unfold sk;grind
theorem cu.oz{gh:List (Nat×Nat)}{env:Env}{J:a7}{Q:Exit->Env->a7->Nat->Prop}(h:xo xb P aZ N env J (λe s=>kF xb aZ e N gh=true/\Q .normal e s (N+16*aZ.length))):cu P nt kk (.oz aZ gh) env J N Q:=by
 intro code v aD φ S a w F R;obtain⟨id,ops,rfl,hres,B,A,rfl⟩:=TC v;have c:=yg hres;simp at c;obtain⟨E,T,G,W,j,cW,t0,y,q⟩:=IM h;refine wp_region_any A ?_;refine Yu (aD:=aD) (nt:=nt) (M9 c B j (Hl (λp D=>aaU D) y)) j hres (λi o f=>by simp[f]) (λφ S a w R'=>⟨φ,S,_,_,_,q,R'⟩) ops.size _ φ S env J a _ ?_ ?_
 . have:=List.countP_le_length (p:=λx:Bool=>x==false) (l:=(Array.replicate ops.size false).toList);grind
 . have R':Rel aD nt φ S env J (lt N) a {w with drawn:=w.drawn+1}:=R.drew;refine⟨R'.more λb u=>by simp[used,u],by simp[c],λi z af=>?_,λt _=>by rw[cW],λt i o f af=>?_,λb _=>by rw[t0],λb i z af=>?_⟩
   . simp_all
   . exfalso;simp[Array.getElem?_replicate]at af;split at af<;>simp at af
   simp_all
end
end
section
open Go
def Eo(P:Program)(c:Code)(Q:Exit->Act->World->Prop)(a:Act)(w:World):Prop:=
 ∀(b:Frame) (k:List Item) (cs:List Frame),∃e d w',Q e d w'/\Arrives P (lone (b.at a (.code c:: .inLoop c::k)) cs w) b k cs e d w'
variable{Q:Exit->Act->World->Prop}{a:Act}{w:World}{P:Program}{c:dA}{S:dV}{φ:dG}{aD:Ctx}{D:Nat->Type}
theorem aaV{c:Code}(h:c.wp P (Exit.then (Eo P c Q) Q) a w):Eo P c Q a w:=by
 intro b k cs;obtain⟨e,g,i,f,d⟩:=h b (.inLoop c::k) cs;cases e with
 |normal=>
  obtain⟨m,j,p,o,n⟩:=f b k cs;exact⟨m,j,p,o,.of_steps (Steps.trans d (.one step_inLoop)) n⟩
 |exit id=>exact⟨_,g,i,f,.pass (x:= .inLoop c) rfl (λ_ _=>.inl (by simp)) d⟩
 |goto l=>exact⟨_,g,i,f,.pass (x:= .inLoop c) rfl (λ_ _=>.inl (by simp)) d⟩
 |ret=>exact⟨_,g,i,f,.pass (x:= .inLoop c) rfl (λ_ _=>.inl (by simp)) d⟩
 |panic q=>exact⟨_,g,i,f,.pass (x:= .inLoop c) rfl (λ_ _=>.inl (by simp)) d⟩
 |outgrown=>exact⟨_,g,i,f,.pass (x:= .inLoop c) rfl (λ_ _=>.inl (by simp)) d⟩
theorem Y6{c:Code}(h:Eo P c Q a w):(Code.loop c).wp P Q a w:=by
 intro b k cs;obtain⟨e,d,w',g,f⟩:=h b k cs;exact⟨e,d,w',g,.of_steps (.one step_loop) f⟩
section
variable {P:Program}{nt kk:Nat}{env env':Env}{J J':a7}{N N':Nat}{Q nj:Exit->Env->a7->Nat->Prop}
def mh(P:Program)(nt kk:Nat)(c:dA)(env:Env)(J:a7)(N:Nat)(Q:Exit->Env->a7->Nat->Prop):Prop:=
 ∀code,resolve P nt code=some c->∀aD φ S a w,aD.k=kk->Rel aD nt φ S env J (lt N) a w->Eo P code (λe b w'=>∃d bR env' J' N',Q e env' J' N'/\Rel aD nt d bR env' J' (lt N') b w') a w
theorem mh.round(h:cu P nt kk c env J N (andThen (λenv J N=>mh P nt kk c env J N Q) Q)):mh P nt kk c env J N Q:=by
 intro code f aD φ S a w j R;refine aaV (wp_mono (h code f aD φ S a w j R) ?_)
 rintro e q w' ⟨p,bR,env',J',N',o,R'⟩
 cases e with
 |normal=>exact o code f aD p bR q w' j R'
 |_=>exact⟨p,bR,env',J',N',o,R'⟩
theorem cu.agv(h:mh P nt kk c env J N Q):cu P nt kk (.loop c) env J N Q:=by
 intro code f aD φ S a w j R;obtain⟨b,rfl,e⟩:=Yr f;exact Y6 (h b e aD φ S a w j R)
def Conv(kk N:Nat)(env:Env)(J:a7)(N':Nat)(env':Env)(J':a7):Prop:=
 ∀aD nt φ S a w,aD.k=kk->Rel aD nt φ S env J (lt N) a w->∃b bR,Rel aD nt b bR env' J' (lt N') a w
theorem Conv.refl:Conv kk N env J N env J:=λ_ _ φ S _ _ _ R=>⟨φ,S,R⟩
theorem Conv.trans{c e f:Nat}{aI j dh:Env}{s1 p q:a7}(h:Conv kk c aI s1 e j p)(k:Conv kk e j p f dh q):Conv kk c aI s1 f dh q:=
 λaD nt φ S a w o R=>let⟨t,bR,R'⟩:=h aD nt φ S a w o R;k aD nt t bR a w o R'
theorem cu.conv(f:Conv kk N env J N' env' J')(h:cu P nt kk c env' J' N' Q):cu P nt kk c env J N Q:=
 λcode j aD φ S a w e R=>let⟨o,bR,R'⟩:=f aD nt φ S a w e R;h code j aD o bR a w e R'
theorem mh.conv(f:Conv kk N env J N' env' J')(h:mh P nt kk c env' J' N' Q):mh P nt kk c env J N Q:=
 λcode j aD φ S a w e R=>let⟨o,bR,R'⟩:=f aD nt φ S a w e R;h code j aD o bR a w e R'
theorem Conv.tidy(ks bs:a6)(bT:bs.Nodup)(c:keeps kk bs=true):Conv kk N env J bs.length (n' bs env ks) (fy bs J 0 bs):=
 λaD nt φ S a w e R=>let⟨f,R'⟩:=R.tidy ks bs bT (by rw[e];exact c);⟨f,S,R'⟩
theorem Conv.freeze(b0:Nat){c:Nat}{es:List (List T)}(e:aV J b0=some (.arr c es)):Conv kk N env J N (rB b0 c es env) (mQ b0 c es J):=
 λaD nt φ S a w f R=>⟨φ,_,R.freeze e⟩
def dz(c a:C):Prop:=(∀φ w S v,bm φ w S c v->bm φ w S a v)/\∀n,c.aA n=true->a.aA n=true
theorem dz.refl(c:C):dz c c:=⟨λ_ _ _ _ h=>h,λ_ h=>h⟩
theorem dz.dead(c:C):dz c .dead:=⟨λ_ _ _ _ h=>h.jk,λ_ _=>rfl⟩
theorem dz.aB:dz .aB (.t (.slice [])):=by
 refine⟨?_,λ_ _=>rfl⟩
 rintro φ w S v ⟨a,rfl⟩
 exact cg.slice [] a 0 0 0 0 (λ_ _=>undef) (by simp) (by simp) (by simp) (by simp) (by simp) (by simp)
inductive gr:V->V->Prop
 |c {x y}:dz x y->gr (.c x) (.c y)
 |agg {xs ys}:a' dz xs ys->gr (.agg xs) (.agg ys)
 |aY (xs ys:List V) (af:xs.length=ys.length) (h:∀(i:Nat) x y,xs[i]?=some x->ys[i]?=some y->gr x y):gr (.aY xs) (.aY ys)
theorem a'.comp{α e f:Type}{R:α->e->Prop}{R':e->f->Prop}{j:α->f->Prop}(h:∀a b c,R a b->R' b c->j a c):∀{l:List α} {m:List e} {k:List f},a' R l m->a' R' m k->a' j l k
 |[],[],[],_,_=>.nil
 |_::_,_::_,_::_,.cons h1 o,.cons p q=>.cons (h _ _ _ h1 p) (a'.comp h o q)
theorem a'.flip{α c:Type}{R:α->c->Prop}{R':c->α->Prop}{l:List α}{m:List c}(h:a' R l m)(k:∀a b,R a b->R' b a):a' R' m l:=by
 induction h with
 |nil=>exact .nil
 |cons h _ ih=>exact .cons (k _ _ h) ih
theorem P6{n:Nat->Bool}:∀{vs:List V},(∀(i:Nat) v,vs[i]?=some v->v.aA n=true)->V.aA.V.dH n vs=true
 |[],_=>rfl
 |v::vs,h=>by simp only[V.aA.V.dH,cd];exact⟨h 0 v rfl,P6 λi x a=>h (i+1) x (by simpa using a)⟩
theorem gr.F4{v j:V}(h:gr v j):∀{x},cq φ w S v x->cq φ w S j x:=by
 induction h with
 |c h=>intro x e;cases e with|c e=>exact .c (h.1 _ _ _ _ e)
 |agg h=>
  intro x e;cases e with
  |agg e=>exact .agg (a'.comp (λa b c h1 f=>h1.1 _ _ _ _ f) (h.flip (R':=λb a=>dz a b) λ_ _ h=>h) e)
 |aY xs ys af h ih=>
  intro x e;cases e with
  |aY _ o p f=>
   refine .aY _ o (by omega) ?_;grind
theorem gr.aA{v o:V}(h:gr v o)(n:Nat->Bool):v.aA n=true->o.aA n=true:=by
 induction h with
 |c h=>intro e;exact h.2 n e
 | @agg xs ys h=>
  intro e;simp only[V.aA,c0]at e⊢;intro c q;obtain⟨i,f,rfl⟩:=e5 q;obtain⟨a,p,hs⟩:=(h.flip (R':=λb a=>dz a b) λ_ _ h=>h).get (eI f);exact hs.2 n (e a (eM p))
 |aY xs ys af h ih=>
  intro e;simp only[V.aA]at e⊢;refine P6 λi v j=>?_;have f:i<xs.length:=by rw[af];exact(c5.1 j).1
  exact ih i _ _ (eI f) j (nM e (eI f))
inductive j4:bP->bP->Prop
 |box {xs ys}:a' dz xs ys->j4 (.box xs) (.box ys)
 |arr {sz es}:j4 (.arr sz es) (.arr sz es)
 |same {x}:j4 x x
 |b8 {E c xj}:dz c xj->j4 (.b8 E c) (.b8 E xj)
 |cC {sz es i o c xj}:dz c xj->j4 (.cC sz es i o c) (.cC sz es i o xj)
def Od(env env':Env):Prop:=∀k g a,look env' k=some (g,a)->∃v,look env k=some (g,v)/\gr v a
def r'(J J':a7):Prop:=∀b a,aV J' b=some a->∃x,aV J b=some x/\j4 x a
theorem j4.FV{b:Nat}{x o:bP}(h:j4 x o)(f:c2 φ w S b x):c2 φ w S b o:=by
 cases h with
 |arr=>exact f
 |same=>exact f
 |b8 h=>
  obtain⟨h0,⟨p,v,h1,e,j⟩,q⟩:=f;exact⟨h0,⟨p,v,h1,e,h.1 _ _ _ _ j⟩,q⟩
 |cC h=>
  obtain⟨h1,⟨vs,E,t,u,y,v,z,A⟩,B⟩:=f;exact⟨h1,⟨vs,E,t,u,y,v,z,h.1 _ _ _ _ A⟩,B⟩
 |box h=>
  obtain⟨h0,vs,E,h1,e,j⟩:=f;exact⟨h0,vs,E,h1,a'.comp (λa b c h1 e=>h1.1 _ _ _ _ e) (h.flip (R':=λb a=>dz a b) λ_ _ h=>h) e,j⟩
theorem j4.aA{x c:bP}(h:j4 x c)(n:Nat->Bool)(a:x.aA n=true):c.aA n=true:=by
 cases h with
 |arr=>exact a
 |same=>exact a
 |b8 h=>exact h.2 n a
 |cC h=>exact h.2 n a
 | @box xs ys h=>
  have:=gr.aA (.agg h) n (by simpa[V.aA,bP.aA]using a);simpa[V.aA,bP.aA]using this
theorem Rel.weaken{n:Nat->Bool}(R:Rel aD nt φ S env J n a w)(he:Od env env')(hs:r' J J'):Rel aD nt φ S env' J' n a w:=by
 refine⟨⟨λb x e=>?_,λb j x y e p=>?_,R.bQ.st⟩,λk g v af al=>?_,λk g v af al=>?_,λk g v af al=>?_,λb x e=>?_,R.size,R.defers,R.ext,λb x e=>?_,R.fix,R.fX⟩
 . obtain⟨f,h1,c⟩:=hs b x e;exact c.FV (R.bQ.blk b f h1)
 . obtain⟨f,h1,c⟩:=hs b x e;obtain⟨t,q,u⟩:=hs j y p;exact R.bQ.inj b j f t h1 q
 . obtain⟨v0,h1,c⟩:=he k g v af;obtain⟨x,e,o⟩:=R.gP k g v0 h1 al;exact⟨x,e,c.F4 o⟩
 . obtain⟨v0,h1,c⟩:=he k g v af;exact R.hQ k g v0 h1 al
 . obtain⟨v0,h1,c⟩:=he k g v af;exact c.aA n (R.gO k g v0 h1 al)
 . obtain⟨f,h1,c⟩:=hs b x e;exact⟨(R.dQ b f h1).1,c.aA n (R.dQ b f h1).2⟩
 . obtain⟨f,h1,c⟩:=hs b x e;exact R.own b f h1
theorem Conv.weaken(he:Od env env')(hs:r' J J'):Conv kk N env J N env' J':=λaD nt φ S a w _ R=>⟨φ,S,R.weaken he hs⟩
theorem Rel.Fo(R:Rel aD nt φ S env J (lt N) a w){sz:Nat}(z:0<sz)(B:aD.k<=N):
 Rel aD nt (fM φ N (0,0)) S env (db J N (.arr sz [])) (lt (N+1)) a w:=by
 have A:∀b,lt N b=true->fM φ N (0,0) b=φ b:=by
  intro b j;simp only[lt,dw]at j;simp only[fM];grind
 have o:∀b,lt N b=true->lt (N+1) b=true:=λb j=>M7 (by omega) j;have e:=R.zn A;have cr:(fM φ N (0,0) N).2=0:=by simp[fM]
 have f:∀b x,aV (db J N (.arr sz [])) b=some x->(b=N/\x= .arr sz [])\/(b≠N/\aV J b=some x):=by
  intro b x c;rw[cZ]at c;grind
 refine⟨⟨λb x c=>?_,λb q x y c p u h0 t=>?_,e.bQ.st⟩,e.gP,e.hQ,λk g v af al=>V.hv o (e.gO k g v af al),λb x c=>?_,e.size,e.defers,e.ext,λb x c h0=>?_,e.fix,λb j=>by simp only[lt,dw];omega⟩
 . rcases f b x c with⟨rfl,rfl⟩|⟨_,c⟩
   . exact⟨by simp,by simp,by simp,z,λh=>absurd cr h⟩
   . exact e.bQ.blk b x c
 . rcases f b x c with⟨rfl,rfl⟩|⟨_,c⟩
   . exact absurd cr h0
   . rcases f q y p with⟨rfl,rfl⟩|⟨_,p⟩
     . exact absurd cr t
     . exact e.bQ.inj b q x y c p u h0 t
 . rcases f b x c with⟨rfl,rfl⟩|⟨_,c⟩
   . exact⟨by simp[lt],rfl⟩
   . exact⟨o b (e.dQ b x c).1,bP.hv o (e.dQ b x c).2⟩
 . rcases f b x c with⟨rfl,rfl⟩|⟨_,c⟩
   . exact absurd cr h0
   . exact e.own b x c h0
end
inductive aK where
 |bool
 |int (k:IntKind)
 |str
 |slice (t:aK)
 |nm (n:Nat)
def aK.beq:aK->aK->Bool
 |.bool,.bool=>true
 |.int k,.int a=>decide (k=a)
 |.str,.str=>true
 |.slice r,.slice c=>aK.beq r c
 |.nm n,.nm m=>Nat.beq n m
 |_,_=>false
theorem aK.beq_eq:∀{a b:aK},aK.beq a b=true->a=b
 |.bool,.bool,_=>rfl
 |.int k,.int c,h=>by simp[aK.beq]at h;rw[h]
 |.str,.str,_=>rfl
 |.slice r,.slice e,h=>by simp only[aK.beq]at h;rw[aK.beq_eq h]
 |.nm n,.nm m,h=>by simp only[aK.beq]at h;rw[Nat.eq_of_beq_eq_true h]
 |.bool,.int _,h|.bool,.str,h|.bool,.slice _,h|.bool,.nm _,h=>by simp[aK.beq]at h
 |.int _,.bool,h|.int _,.str,h|.int _,.slice _,h|.int _,.nm _,h=>by simp[aK.beq]at h
 |.str,.int _,h|.str,.bool,h|.str,.slice _,h|.str,.nm _,h=>by simp[aK.beq]at h
 |.slice _,.int _,h|.slice _,.str,h|.slice _,.bool,h|.slice _,.nm _,h=>by simp[aK.beq]at h
 |.nm _,.int _,h|.nm _,.str,h|.nm _,.bool,h|.nm _,.slice _,h=>by simp[aK.beq]at h
theorem aK.beq_refl:∀(a:aK),aK.beq a a=true
 |.bool=>rfl
 |.int k=>by simp[aK.beq]
 |.str=>rfl
 |.slice r=>by simp only[aK.beq];exact aK.beq_refl r
 |.nm n=>by simp only[aK.beq];exact yC n
def aK.dec(a b:aK):Decidable (a=b):=
 match h:aK.beq a b with
 |true=>.isTrue (aK.beq_eq h)
 |false=>.isFalse λe=>by rw[e,aK.beq_refl]at h;cases h
def aK.den(D:Nat->Type):aK->Type
 |.bool=>Bool
 |.int _=>Int
 |.str=>aj
 |.slice t=>List (aK.den D t)
 |.nm n=>D n
structure Cell (D:Nat->Type) where
 ty:aK
 val:ty.den D
def Cell.as{D:Nat->Type}(t:aK)(c:Cell D):Option (t.den D):=
 match aK.dec c.ty t with
 |.isTrue h=>some (Eq.rec (motive:=λt _=>aK.den D t) c.val h)
 |.isFalse _=>none
variable{t:aK}
theorem Cell.kC{c:Cell D}{x:t.den D}(h:c.as t=some x):c=⟨t,x⟩:=by
 obtain⟨u,v⟩:=c;unfold Cell.as at h;split at h
 . grind
 . cases h
theorem Cell.P1{x:t.den D}:Cell.as t (⟨t,x⟩:Cell D)=some x:=by
 unfold Cell.as;split
 . rfl
 grind
def E'(D:Nat->Type)(enc:∀n,D n->List T):(t:aK)->t.den D->List T
 |.bool,b=>[.bool b]
 |.int k,n=>[.int k n]
 |.str,s=>[.str s]
 |.slice t,l=>[.slice (List.map (E' D enc t) l)]
 |.nm n,x=>enc n x
def RG(D:Nat->Type)(enc:∀n,D n->List T):Cell D->T
 |⟨.bool,b⟩=>.bool b
 |⟨.int k,n⟩=>.int k n
 |⟨.str,s⟩=>.str s
 |⟨.slice t,l⟩=>.slice (List.map (E' D enc t) l)
 |⟨.nm _,_⟩=>.bool false
structure cM where
 D:Nat->Type
 ke:∀n,D n
 sw:∀n,D n->List (Cell D)
 make:∀n,List (Cell D)->Option (D n)
 dc:Nat->List aK
 enc:∀n,D n->List T
 RH:∀n x,enc n x=(sw n x).map (RG D enc)
 mk_eq:∀n l x,make n l=some x->sw n x=l
 Ss:∀n x,(sw n x).map Cell.ty=dc n
 pos:∀n,0<(dc n).length
 Sr:Nat->Option aK:=λ_=>none
 own:List (List Bool×Nat×aK):=[]
variable {U:cM}
abbrev cM.C(U:cM):=Cell U.D
abbrev aK.d(U:cM)(t:aK):=t.den U.D
def aK.ke(U:cM):(t:aK)->t.den U.D
 |.bool=>false
 |.int _=>(0:Int)
 |.str=>([]:aj)
 |.slice t=>([]:List (t.den U.D))
 |.nm n=>U.ke n
def aK.xR:aK->Bool
 |.nm _=>true
 |_=>false
def aK.row(U:cM):(t:aK)->t.den U.D->List (Cell U.D)
 |.bool,b=>[⟨.bool,b⟩]
 |.int k,n=>[⟨.int k,n⟩]
 |.str,s=>[⟨.str,s⟩]
 |.slice t,l=>[⟨.slice t,l⟩]
 |.nm n,x=>U.sw n x
def aK.cells(U:cM):aK->List aK
 |.nm n=>U.dc n
 |t=>[t]
def aK.sz(U:cM)(t:aK):Nat:=(t.cells U).length
def jk(U:cM)(t:aK):List (Cell U.D)->Option (t.den U.D)
 |[c]=>c.as t
 |_=>none
def aK.mk(U:cM):(t:aK)->List (Cell U.D)->Option (t.den U.D)
 |.nm n,l=>U.make n l
 |.bool,l=>jk U .bool l
 |.int k,l=>jk U (.int k) l
 |.str,l=>jk U .str l
 |.slice t,l=>jk U (.slice t) l
variable{x:t.den U.D}
theorem CB{l:List (Cell U.D)}(h:jk U t l=some x):l=[⟨t,x⟩]:=by
 unfold jk at h;split at h
 . rw[Cell.kC h]
 . cases h
def Cell.enc(U:cM)(c:Cell U.D):T:=RG U.D U.enc c
def aK.enc(U:cM)(t:aK)(x:t.den U.D):List T:=E' U.D U.enc t x
theorem aK.u3:t.enc U x=(t.row U x).map (Cell.enc U):=by
 cases t<;>first|rfl|skip
 case nm n=>exact U.RH n x
theorem aK.agV:(t.row U x).map Cell.ty=t.cells U:=by
 cases t<;>first|rfl|skip
 case nm n=>exact U.Ss n x
theorem aK.Sl:(t.row U x).length=t.sz U:=by
 rw[<-gH (f:=Cell.ty),aK.agV];rfl
theorem aK.su:(t.enc U x).length=t.sz U:=by
 rw[aK.u3,gH,aK.Sl]
theorem aK.rW:0<t.sz U:=by
 cases t<;>simp[aK.sz,aK.cells];exact U.pos _
theorem aK.Fl:∀{t:aK} {l:List (Cell U.D)} {x:t.den U.D},t.mk U l=some x->t.row U x=l
 |.nm n,l,x,h=>U.mk_eq n l x h
 |.bool,l,x,h=>(CB (t:= .bool) h).symm
 |.int k,l,x,h=>(CB (t:= .int k) h).symm
 |.str,l,x,h=>(CB (t:= .str) h).symm
 |.slice t,l,x,h=>(CB (t:= .slice t) h).symm
def aK.at(U:cM)(t:aK)(l:List (t.den U.D))(i:Nat):t.den U.D:=l.getD i (t.ke U)
theorem zD{l:List (t.den U.D)}{i:Nat}(h:i<l.length):el (l.map (t.enc U)) i=t.enc U (t.at U l i):=by
 simp[el,aK.at,List.getD,eI h]
end
section
open Go
variable {U:cM}
inductive bl (U:cM) where
 |t (c:Cell U.D)
 |ptr (b o:Nat)
 |cH (b:Nat)(t:aK)(i o:Nat)
 |dP (t:aK)(x:t.den U.D)(o:Nat)
 |arr (b:Nat)
 |sub (b om len:Nat)
 |pre (b h:Nat)
 |dI (b om len:Nat)
 |mp (b:Nat)
 |eo (b:Nat)
 |cI (b:Nat)
 |aB
 |fc
 |fb
 |fn (f:Nat)(caps:a6)
 |dead
inductive bB (U:cM) where
 |c (x:bl U)
 |agg (cs:List (bl U))
 |aY (vs:List (bB U))
inductive cR (U:cM) where
 |box (cs:List (bl U))
 |arr (t:aK)(l:List (t.den U.D))
 |rows (sz:Nat)(r:List (List (bl U)))
 |set (ks:List aj)
 |buf (E:Nat)(s:aj)
 |b8 (E:Nat)(c:bl U)
 |cC (t:aK)(l:List (t.den U.D))(i o:Nat)(c:bl U)
abbrev bW(U:cM):=List (Nat×bB U)
abbrev bh(U:cM):=List (Nat×cR U)
abbrev ez:=List (Nat×Nat×Bool)
def aX{α:Type}:List (Nat×α)->Nat->Option α
 |[],_=>none
 |(k,x)::r,i=>match Nat.beq k i with
  |true=>some x
  |false=>aX r i
def cE{α:Type}:List (Nat×α)->Nat->α->List (Nat×α)
 |[],b,x=>[(b,x)]
 |(k,y)::r,b,x=>match Nat.beq k b with
  |true=>(k,x)::r
  |false=>(k,y)::cE r b x
def dl{α:Type}:List (Nat×α)->Nat->List (Nat×α)
 |[],_=>[]
 |(k,y)::r,b=>match Nat.beq k b with
  |true=>dl r b
  |false=>(k,y)::dl r b
theorem cV{a b:Nat}(h:Nat.beq a b=true):a=b:=Nat.eq_of_beq_eq_true h
theorem hN{a b:Nat}(h:Nat.beq a b=false):a≠b:=λe=>by rw[e,yC]at h;cases h
variable{α:Type}
theorem hU(J:List (Nat×α))(b:Nat)(x:α)(i:Nat):aX (cE J b x) i=if b=i then some x else aX J i:=by
 induction J with
 |nil=>
  simp only[cE,aX];cases h:Nat.beq b i with
  |true=>simp[cV h]
  |false=>simp[hN h]
 |cons y r ih=>
  obtain⟨k,y⟩:=y;simp only[cE];cases h:Nat.beq k b with
  |true=>
   have:=cV h;subst this;simp only[aX];cases a:Nat.beq k i with
   |true=>simp[cV a]
   |false=>simp[hN a]
  |false=>
   simp only[aX,ih];grind
theorem oj(J:List (Nat×α))(b i:Nat):aX (dl J b) i=if b=i then none else aX J i:=by
 induction J with
 |nil=>simp[dl,aX]
 |cons y r ih=>
  obtain⟨k,y⟩:=y;simp only[dl];cases h:Nat.beq k b with
  |true=>
   have:=cV h;subst this;simp only[aX,ih];by_cases a:k=i
   . grind
   . rw[ak a,ak a];cases c:Nat.beq k i with
     |true=>exact absurd (cV c) a
     |false=>rfl
  |false=>
   simp only[aX,ih];grind
def Er:C->Option (bl U)
 |.t (.bool b)=>some (.t ⟨.bool,b⟩)
 |.t (.int k n)=>some (.t ⟨.int k,n⟩)
 |.t (.str s)=>some (.t ⟨.str,s⟩)
 |.aB=>some .aB
 |.fc=>some .fc
 |.fb=>some .fb
 |.dead=>some .dead
 |.fn f []=>some (.fn f [])
 |_=>none
def oG:List C->Option (List (bl U))
 |[]=>some []
 |c::cs=>match Er c,oG cs with
  |some x,some xs=>some (x::xs)
  |_,_=>none
def w6:V->Option (bB U)
 |.c x=>match Er x with
  |some y=>some (.c y)
  |none=>none
 |.agg cs=>match oG cs with
  |some ys=>some (.agg ys)
  |none=>none
 |.aY _=>none
def wZ(gl:ez):Nat->Option (Nat×Bool)->Nat->Bool
 |0,_,_=>false
 |b+1,gd,k=>match aX gl k with
  |none=>true
  |some a=>match gd with
   |none=>false
   |some g=>(Nat.beq g.1 a.1&&(g.2==a.2))||wZ gl b (aX gl g.1) k
def fl(env:bW U)(t:Nat)(b:Bool):Option Bool:=
 match aX env t with
 |some (.c (.t ⟨.bool,x⟩))=>some (match b with|true=>x|false=>!x)
 |_=>none
def lq(gl:ez)(env:bW U):Nat->Option (Nat×Bool)->Option Bool
 |_,none=>some true
 |0,some _=>none
 |a+1,some (t,b)=>match lq gl env a (aX gl t),fl env t b with
  |some x,some y=>some (x&&y)
  |_,_=>none
def qx:Nat:=200
def df(gl:ez)(gd:Option (Nat×Bool))(env:bW U):aP->Option (bB U)
 |.const v=>w6 v
 |.tmp k=>match wZ gl qx gd k with
  |true=>aX env k
  |false=>none
def Es(gl:ez)(gd:Option (Nat×Bool))(env:bW U)(c:aP)(b:Bool):aP->Option (bB U)
 |.const v=>w6 v
 |.tmp k=>match wZ gl qx gd k with
  |true=>aX env k
  |false=>match c,aX gl k with
   |.tmp d,some (t,a)=>match Nat.beq t d&&(a==b)with
    |true=>aX env k
    |false=>none
   |_,_=>none
def kv(gl:ez)(gd:Option (Nat×Bool))(env:bW U):List aP->Option (List (bB U))
 |[]=>some []
 |x::r=>match df gl gd env x,kv gl gd env r with
  |some v,some vs=>some (v::vs)
  |_,_=>none
def pQ:bB U->Option (List (bl U))
 |.c x=>some [x]
 |.agg cs=>some cs
 |.aY _=>none
def w5(a:List (bl U))(off:Nat)(cs:List (bl U)):List (bl U):=a.take off++cs++a.drop (off+cs.length)
def zE(gl:ez)(gd:Option (Nat×Bool))(env:bW U):List (bl U)->List (Nat×Nat×aP)->Option (List (bl U))
 |a,[]=>some a
 |a,(off,n,x)::r=>match df gl gd env x with
  |none=>none
  |some v=>match pQ v with
   |none=>none
   |some cs=>match Nat.beq cs.length n&&Nat.ble (off+n) a.length with
    |true=>zE gl gd env (w5 a off cs) r
    |false=>none
def bl.toT:bl U->Option T
 |.t c=>match c.ty.xR with
  |true=>none
  |false=>some (c.enc U)
 |.aB=>some (.slice [])
 |_=>none
def hZ:List (bl U)->Option (List T)
 |[]=>some []
 |c::cs=>match c.toT,hZ cs with
  |some t,some ts=>some (t::ts)
  |_,_=>none
def we(gl:ez)(gd:Option (Nat×Bool))(env:bW U)(sz:Nat):List (List (bl U))->List (Nat×aP)->Option (List (List (bl U)))
 |rows,[]=>some rows
 |rows,(i,x)::r=>match df gl gd env x with
  |none=>none
  |some v=>match pQ v with
   |none=>none
   |some cs=>match hZ cs with
    |none=>none
    |some _=>match Nat.beq cs.length sz&&Nat.ble (i+1) rows.length with
     |true=>we gl gd env sz (rows.set i cs) r
     |false=>none
inductive fR (U:cM) where
 |ty (t:aK)(l:List (t.den U.D))
 |rows (r:List (List (bl U)))
 |nil
def fR.len:fR U->Nat
 |.ty _ l=>l.length
 |.rows r=>r.length
 |.nil=>0
def iM:List aK->List (bl U)->Option (List (Cell U.D))
 |[],[]=>some []
 |t::ts,.t c::cs=>match iM ts cs with
  |some l=>some (c::l)
  |none=>none
 |.slice t::ts,.aB::cs=>match iM ts cs with
  |some l=>some (⟨.slice t,([]:List (t.den U.D))⟩::l)
  |none=>none
 |_,_=>none
def ql(U:cM)(t:aK)(cs:List (bl U)):Option (t.den U.D):=
 match iM (t.cells U) cs with
 |some l=>t.mk U l
 |none=>none
def mf(U:cM)(t:aK):List (List (bl U))->Option (List (t.den U.D))
 |[]=>some []
 |r::a=>match ql U t r,mf U t a with
  |some x,some xs=>some (x::xs)
  |_,_=>none
def fR.as(t:aK):fR U->Option (List (t.den U.D))
 |.ty u l=>Cell.as (.slice t) ⟨.slice u,l⟩
 |.rows r=>mf U t r
 |.nil=>some []
def fR.join:fR U->fR U->Option (fR U)
 |.nil,y=>some y
 |.ty t l,y=>match y.as t with
  |some a=>some (.ty t (l++a))
  |none=>none
 |.rows r,.ty t l=>match mf U t r with
  |some c=>some (.ty t (c++l))
  |none=>none
 |.rows r,.rows e=>some (.rows (r++e))
 |.rows r,.nil=>some (.rows r)
def fR.blk(sz:Nat):fR U->Option (cR U)
 |.ty t l=>match Nat.beq (t.sz U) sz with
  |true=>some (.arr t l)
  |false=>none
 |.rows r=>match r.all λx=>Nat.beq x.length sz with
  |true=>some (.rows sz r)
  |false=>none
 |.nil=>some (.rows sz [])
def r1(J:bh U):bB U->Option (fR U×Option Nat)
 |.c (.t ⟨.slice t,l⟩)=>some (.ty t l,none)
 |.c .aB=>some (.nil,none)
 |.c (.arr b)=>match aX J b with
  |some (.arr t l)=>some (.ty t l,some b)
  |some (.rows _ r)=>some (.rows r,some b)
  |_=>none
 |_=>none
def cR.de:cR U->Option (Nat×Nat)
 |.box _=>none
 |.arr t l=>some (t.sz U,l.length)
 |.rows sz r=>some (sz,r.length)
 |.set _=>none
 |.buf _ s=>some (1,s.length)
 |.b8 _ _=>none
 |.cC t l _ _ _=>some (t.sz U,l.length)
def Sz(J:bh U)(b sz:Nat):Bool:=
 match aX J b with
 |some x=>(match x.de with|some p=>Nat.beq p.1 sz|none=>false)
 |none=>false
def room(bytes n:Nat):Bool:=decide ((2*n+192)*bytes<=kf)&&decide (n<=eH)
def Sw:BinOp->IntKind->IntKind->Int->Int->Option (Bool×Cell U.D)
 |.add,k,c,a,b=>if k=c then some (true,⟨.int k,k.wrap (a+b)⟩)else none
 |.sub,k,c,a,b=>if k=c then some (true,⟨.int k,k.wrap (a-b)⟩)else none
 |.mul,k,c,a,b=>if k=c then some (true,⟨.int k,k.wrap (a*b)⟩)else none
 |.quo,k,c,a,b=>if k=c then some (!decide (b=0),⟨.int k,k.wrap (a.tdiv b)⟩)else none
 |.rem,k,c,a,b=>if k=c then some (!decide (b=0),⟨.int k,a.tmod b⟩)else none
 |.and,k,c,a,b=>if k=c then some (true,⟨.int k,k.wrap (BitVec.ofInt k.bits a &&& BitVec.ofInt k.bits b).toNat⟩)else none
 |.or,k,c,a,b=>if k=c then some (true,⟨.int k,k.wrap (BitVec.ofInt k.bits a ||| BitVec.ofInt k.bits b).toNat⟩)else none
 |.xor,k,c,a,b=>if k=c then some (true,⟨.int k,k.wrap (BitVec.ofInt k.bits a ^^^ BitVec.ofInt k.bits b).toNat⟩)else none
 |.andNot,k,c,a,b=>if k=c then some (true,⟨.int k,k.wrap (BitVec.ofInt k.bits a &&& ~~~ BitVec.ofInt k.bits b).toNat⟩)else none
 |.shl,k,_,a,b=>some (decide (0<=b),⟨.int k,k.wrap (a*2^min b.toNat k.bits)⟩)
 |.shr,k,_,a,b=>some (decide (0<=b),⟨.int k,a.fdiv (2^min b.toNat k.bits)⟩)
 |.eql,k,c,a,b=>if k=c then some (true,⟨.bool,decide (a=b)⟩)else none
 |.neq,k,c,a,b=>if k=c then some (true,⟨.bool,!decide (a=b)⟩)else none
 |.lss,k,c,a,b=>if k=c then some (true,⟨.bool,decide (a<b)⟩)else none
 |.leq,k,c,a,b=>if k=c then some (true,⟨.bool,decide (a<=b)⟩)else none
 |.gtr,k,c,a,b=>if k=c then some (true,⟨.bool,decide (b<a)⟩)else none
 |.geq,k,c,a,b=>if k=c then some (true,⟨.bool,decide (b<=a)⟩)else none
def Sx:BinOp->aj->aj->Option (Bool×Cell U.D)
 |.add,a,b=>some (decide (a.length+b.length<=eC),⟨.str,a++b⟩)
 |.eql,a,b=>some (true,⟨.bool,decide (a=b)⟩)
 |.neq,a,b=>some (true,⟨.bool,!decide (a=b)⟩)
 |.lss,a,b=>some (true,⟨.bool,Op.bytesLess a b⟩)
 |.leq,a,b=>some (true,⟨.bool,Op.bytesLess a b||decide (a=b)⟩)
 |.gtr,a,b=>some (true,⟨.bool,!(Op.bytesLess a b||decide (a=b))⟩)
 |.geq,a,b=>some (true,⟨.bool,!(Op.bytesLess a b)⟩)
 |_,_,_=>none
def It(op:BinOp):Cell U.D->Cell U.D->Option (Bool×Cell U.D)
 |⟨.int k,a⟩,⟨.int c,b⟩=>Sw op k c a b
 |⟨.str,a⟩,⟨.str,b⟩=>Sx op a b
 |_,_=>none
def fB(a b:Bool):Bool:=a==b
def hR(a b:Int):Bool:=decide (a=b)
def jC(a b:aj):Bool:=decide (a=b)
def aH(m:Int)(n:Nat):Bool:=decide (0<=m)&&decide (m.toNat<n)
def dY(b a:Int)(n:Nat):Bool:=decide (0<=b)&&(decide (b<=a)&&decide (a<=n))
def ef{α:Type}(l:List α)(b a:Int):List α:=(l.take a.toNat).drop b.toNat
def iz(a b:Int):Int:=Max.max a b
def ji(a b:Int):Int:=Min.min a b
def fz(s:aj)(m:Int):Int:=((s.getD m.toNat 0).toNat:Int)
def mL(m:Int):aj:=(Utf8.encode m).data.toList
def bY(k:IntKind)(m:Int):Int:=k.wrap m
def Bd(a b:aj):aj:=a++b
def Ix:Nat->Cell U.D->Cell U.D->Option Bool
 |0,⟨.bool,a⟩,⟨.bool,b⟩=>some (fB a b)
 |1,⟨.int k,a⟩,⟨.int c,b⟩=>if k=c then some (hR a b)else none
 |2,⟨.str,a⟩,⟨.str,b⟩=>some (jC a b)
 |_,_,_=>none
def AT:a6->List (bl U)->List (bl U)->Option Bool
 |[],[],[]=>some true
 |k::ks,.t x::xs,.t y::ys=>match Ix k x y,AT ks xs ys with
  |some b,some r=>some (b&&r)
  |_,_=>none
 |_,_,_=>none
def rC(agg:Bool)(n:Nat)(cs:List (bl U))(o:Nat):Option (bB U):=
 match agg with
 |true=>match Nat.ble (o+n) cs.length with
  |true=>some (.agg ((cs.drop o).take n))
  |false=>none
 |false=>match cs[o]? with
  |some c=>some (.c c)
  |none=>none
def oe(gl:ez)(gd:Option (Nat×Bool))(env:bW U):Option aP->Option (Option Int)
 |none=>some none
 |some x=>match df gl gd env x with
  |some (.c (.t ⟨.int _,n⟩))=>some (some n)
  |_=>none
def AQ:List (bB U)->Option a6
 |[]=>some []
 |.c (.ptr b 0)::r=>match AQ r with
  |some l=>some (b::l)
  |none=>none
 |_=>none
abbrev ad1(U:cM):=Option (Bool×bB U×bh U)
def r4(U:cM)(t:aK)(l:List (t.den U.D))(i o:Nat)(cs:List (bl U)):Option (List (t.den U.D)):=
 match ql U t (w5 ((t.row U (t.at U l i)).map .t) o cs)with
 |some x=>some (l.set i x)
 |none=>none
def AZ(t:aK):List (bl U)->Option (List (t.den U.D))
 |[]=>some []
 |.t c::r=>match c.as t,AZ t r with
  |some x,some l=>some (x::l)
  |_,_=>none
 |_::_=>none
def Oe:List (bl U)->Option ((t:aK)×List (t.den U.D))
 |.t c::r=>match c.ty.xR,AZ c.ty (.t c::r)with
  |false,some l=>some ⟨c.ty,l⟩
  |_,_=>none
 |_=>none
def strOf(l:aq):aj:=l.map λm=>UInt8.ofNat m.toNat
def w0(a len n:Nat):Bool:=decide (a+len<=n)
def R8:List (bl U)->Option (bl U)
 |[.arr b]=>some (.arr b)
 |_=>none
def ct(gl:ez)(gd:Option (Nat×Bool))(env:bW U)(J:bh U)(n:Nat)(o:cL):ad1 U:=
 match o with
 |.mov x=>match df gl gd env x with
  |some v=>some (true,v,J)
  |none=>none
 |.pick c x y=>match df gl gd env c,Es gl gd env c true x,Es gl gd env c false y with
  |some (.c (.t ⟨.bool,b⟩)),some (.c (.t ⟨.bool,p⟩)),some (.c (.t ⟨.bool,q⟩))=>some (true,.c (.t ⟨.bool,bif b then p else q⟩),J)
  |_,_,_=>none
 |.alloc cs=>match oG cs with
  |some xs=>some (true,.c (.ptr n 0),cE J n (.box xs))
  |none=>none
 |.allocA cs=>match oG cs with
  |some xs=>match Oe xs with
   |some ⟨t,l⟩=>some (true,.c (.ptr n 0),cE J n (.arr t l))
   |none=>none
  |none=>none
 |.idxP k x i=>match df gl gd env x,df gl gd env i with
  |some (.c (.ptr b 0)),some (.c (.t ⟨.int _,m⟩))=>match aX J b with
   |some (.arr t _)=>match Nat.beq (t.sz U) 1 with
    |true=>some (aH m k,.c (.cH b t (Int.toNat m) 0),J)
    |false=>none
   |_=>none
  |_,_=>none
 |.slcP k x d u=>match df gl gd env x,oe gl gd env d,oe gl gd env u with
  |some (.c (.ptr b 0)),some l,some h=>
   some (dY (l.getD 0) (h.getD (k:Int)) k,.c (.sub b (Int.toNat (l.getD 0)) (Int.toNat (h.getD (k:Int))-Int.toNat (l.getD 0))),J)
  |_,_,_=>none
 |.b2s x=>match df gl gd env x with
  |some (.c (.t ⟨.slice (.int .u8),l⟩))=>some (true,.c (.t ⟨.str,strOf l⟩),J)
  |some (.c .aB)=>some (true,.c (.t ⟨.str,[]⟩),J)
  |some (.c (.arr b))=>match aX J b with
   |some (.arr (.int .u8) l)=>some (true,.c (.t ⟨.str,strOf l⟩),J)
   |_=>none
  |some (.c (.sub b d len))=>match aX J b with
   |some (.arr (.int .u8) l)=>some (w0 d len (List.length l),.c (.t ⟨.str,strOf ((l.drop d).take len)⟩),J)
   |_=>none
  |_=>none
 |.allocS e e8=>some (true,.c (.ptr n 0),cE (cE J (n+1) (.buf e8 [])) n (.b8 e (.cI (n+1))))
 |.bsliceT e sz len z parts=>match U.Sr e with
  |none=>none
  |some t=>match oG z with
   |some j=>match hZ j with
    |none=>none
    |some _=>match Nat.beq j.length sz with
     |false=>none
     |true=>match we gl gd env sz (List.replicate len j) parts with
      |some rows=>match mf U t rows with
       |some l=>some (true,.c (.t ⟨.slice t,l⟩),J)
       |none=>none
      |none=>none
   |none=>none
 |.mkset=>some (true,.c (.mp n),cE J n (.set []))
 |.lkset x k=>match df gl gd env x,df gl gd env k with
  |some (.c (.mp b)),some (.c (.t ⟨.str,s⟩))=>match aX J b with
   |some (.set ks)=>some (true,.c (.t ⟨.bool,jh ks s⟩),J)
   |_=>none
  |_,_=>none
 |.upset x k=>match df gl gd env x,df gl gd env k with
  |some (.c (.mp b)),some (.c (.t ⟨.str,s⟩))=>match aX J b with
   |some (.set ks)=>some (true,.aY [],cE J b (.set (iW ks s)))
   |_=>none
  |_,_=>none
 |.appendB e bytes x y=>match df gl gd env x,df gl gd env y with
  |some (.c (.cI b)),some (.c (.t ⟨.str,s⟩))=>match aX J b with
   |some (.buf E l)=>match Nat.beq E e with
    |true=>some (room bytes (List.length l+List.length s),.c (.cI n),cE (dl J b) n (.buf e (Bd l s)))
    |false=>none
   |_=>none
  |_,_=>none
 |.sdata x=>match df gl gd env x with
  |some (.c (.cI b))=>some (true,.c (.eo b),J)
  |_=>none
 |.ustr e x k=>match df gl gd env x,df gl gd env k with
  |some (.c (.eo b)),some (.c (.t ⟨.int .i64,m⟩))=>match aX J b with
   |some (.buf E l)=>match Nat.beq E e with
    |true=>some (hR m (List.length l:Int),.c (.t ⟨.str,l⟩),dl J b)
    |false=>none
   |_=>none
  |_,_=>none
 |.box x=>match df gl gd env x with
  |some v=>match pQ v with
   |some cs=>some (true,.c (.ptr n 0),cE J n (.box cs))
   |none=>none
  |none=>none
 |.build z parts=>match oG z with
  |some j=>match zE gl gd env j parts with
   |some cs=>some (true,.agg cs,J)
   |none=>none
  |none=>none
 |.bslice sz len z parts=>match oG z with
  |some j=>match hZ j with
   |none=>none
   |some _=>match Nat.beq j.length sz with
    |false=>none
    |true=>match we gl gd env sz (List.replicate len j) parts with
     |some rows=>some (true,.c (.arr n),cE J n (.rows sz rows))
     |none=>none
  |none=>none
 |.load agg k x=>match df gl gd env x with
  |some (.c (.ptr b o))=>match aX J b with
   |some (.box cs)=>match rC agg k cs o with
    |some v=>some (true,v,J)
    |none=>none
   |some (.b8 _ c)=>match agg,o with
    |false,1=>some (true,.c c,J)
    |_,_=>none
   |_=>none
  |some (.c (.cH b t i o))=>match aX J b with
   |some (.arr g l)=>match Cell.as (.slice t) (⟨.slice g,l⟩:Cell U.D)with
    |some l=>match rC agg k ((t.row U (t.at U l i)).map .t) o with
     |some v=>some (decide (i<l.length),v,J)
     |none=>none
    |none=>none
   |some (.cC g l w A c)=>match agg with
    |true=>none
    |false=>match Nat.beq o A with
     |true=>match Nat.beq (t.sz U) (g.sz U)with
      |true=>some (decide (i=w),.c c,J)
      |false=>none
     |false=>match Cell.as (.slice t) (⟨.slice g,l⟩:Cell U.D)with
      |some l=>match rC false k ((t.row U (t.at U l i)).map .t) o with
       |some v=>some (decide (i<l.length),v,J)
       |none=>none
      |none=>none
   |_=>none
  |some (.c (.dP t x o))=>match rC agg k ((t.row U x).map .t) o with
   |some v=>some (true,v,J)
   |none=>none
  |_=>none
 |.store k x v=>match df gl gd env x,df gl gd env v with
  |some (.c (.ptr b o)),some v=>match pQ v with
   |some cs=>match Nat.beq cs.length k with
    |true=>match aX J b with
     |some (.box ds)=>match Nat.ble (o+k) ds.length with
      |true=>some (true,.aY [],cE J b (.box (w5 ds o cs)))
      |false=>none
     |some (.b8 e _)=>match o,cs with
      |1,[c]=>some (true,.aY [],cE J b (.b8 e c))
      |_,_=>none
     |_=>none
    |false=>none
   |none=>none
  |some (.c (.cH b t i o)),some v=>match pQ v with
   |some cs=>match Nat.beq cs.length k&&Nat.ble (o+k) (t.sz U)with
    |true=>match aX J b with
     |some (.arr g l)=>match Cell.as (.slice t) (⟨.slice g,l⟩:Cell U.D)with
      |some l=>match R8 cs with
       |some c=>some (decide (i<l.length),.aY [],cE J b (.cC t l i o c))
       |none=>match r4 U t l i o cs with
        |some G=>some (decide (i<l.length),.aY [],cE J b (.arr t G))
        |none=>none
      |none=>none
     |some (.cC g l w A I)=>match cs with
      |[c]=>match Nat.beq o A with
       |true=>match Nat.beq (t.sz U) (g.sz U)with
        |true=>some (decide (i=w),.aY [],cE J b (.cC g l w A c))
        |false=>none
       |false=>match Cell.as (.slice t) (⟨.slice g,l⟩:Cell U.D)with
        |some l=>match r4 U t l i o [c]with
         |some G=>some (decide (i<l.length),.aY [],cE J b (.cC t G w A I))
         |none=>none
        |none=>none
      |_=>none
     |_=>none
    |false=>none
   |none=>none
  |_,_=>none
 |.nilCheck x=>match df gl gd env x with
  |some (.c (.ptr b o))=>some (true,.c (.ptr b o),J)
  |some (.c (.cH b t i o))=>some (true,.c (.cH b t i o),J)
  |some (.c (.dP t x o))=>some (true,.c (.dP t x o),J)
  |_=>none
 |.bin op x y=>match df gl gd env x,df gl gd env y with
  |some (.c (.t p)),some (.c (.t q))=>match It op p q with
   |some (c,r)=>some (c,.c (.t r),J)
   |none=>none
  |_,_=>none
 |.eqAgg neg ks x y=>match df gl gd env x,df gl gd env y with
  |some (.agg p),some (.agg q)=>match AT ks p q with
   |some r=>some (true,.c (.t ⟨.bool,match neg with|true=>!r|false=>r⟩),J)
   |none=>none
  |_,_=>none
 |.eqBool neg x y=>match df gl gd env x,df gl gd env y with
  |some (.c (.t ⟨.bool,p⟩)),some (.c (.t ⟨.bool,q⟩))=>some (true,.c (.t ⟨.bool,match neg with|true=>!(fB p q)|false=>fB p q⟩),J)
  |_,_=>none
 |.not x=>match df gl gd env x with
  |some (.c (.t ⟨.bool,b⟩))=>some (true,.c (.t ⟨.bool,!b⟩),J)
  |_=>none
 |.conv k x=>match df gl gd env x with
  |some (.c (.t ⟨.int _,m⟩))=>some (true,.c (.t ⟨.int k,bY k m⟩),J)
  |_=>none
 |.i2s x=>match df gl gd env x with
  |some (.c (.t ⟨.int _,m⟩))=>some (true,.c (.t ⟨.str,mL m⟩),J)
  |_=>none
 |.s2s x=>match df gl gd env x with
  |some (.c (.t ⟨.str,s⟩))=>some (true,.c (.t ⟨.str,s⟩),J)
  |_=>none
 |.fldA off x=>match df gl gd env x with
  |some (.c (.ptr b o))=>some (true,.c (.ptr b (o+off)),J)
  |some (.c (.cH b t i o))=>some (true,.c (.cH b t i (o+off)),J)
  |some (.c (.dP t x o))=>some (true,.c (.dP t x (o+off)),J)
  |_=>none
 |.fld agg off k x=>match df gl gd env x with
  |some (.agg cs)=>match rC agg k cs off with
   |some v=>some (true,v,J)
   |none=>none
  |_=>none
 |.idxA sz x i=>match df gl gd env x,df gl gd env i with
  |some (.c (.t ⟨.slice t,l⟩)),some (.c (.t ⟨.int _,m⟩))=>match Nat.beq (t.sz U) sz with
   |true=>some (aH m l.length,.c (.dP t (t.at U l (Int.toNat m)) 0),J)
   |false=>none
  |some (.c (.arr b)),some (.c (.t ⟨.int _,m⟩))=>match aX J b with
   |some (.arr t l)=>match Nat.beq (t.sz U) sz with
    |true=>some (aH m l.length,.c (.cH b t (Int.toNat m) 0),J)
    |false=>none
   |_=>none
  |_,_=>none
 |.idxS x i=>match df gl gd env x,df gl gd env i with
  |some (.c (.t ⟨.str,s⟩)),some (.c (.t ⟨.int _,m⟩))=>some (aH m s.length,.c (.t ⟨.int .u8,fz s m⟩),J)
  |_,_=>none
 |.slcS x d u=>match df gl gd env x,oe gl gd env d,oe gl gd env u with
  |some (.c (.t ⟨.str,s⟩)),some l,some h=>
   some (dY (l.getD 0) (h.getD (s.length:Int)) s.length,.c (.t ⟨.str,ef s (l.getD 0) (h.getD (s.length:Int))⟩),J)
  |_,_,_=>none
 |.slc sz x d u=>match df gl gd env x,oe gl gd env d,oe gl gd env u with
  |some (.c (.t ⟨.slice t,s⟩)),some l,some h=>match Nat.beq (t.sz U) sz with
   |true=>some (dY (l.getD 0) (h.getD (s.length:Int)) s.length,.c (.t ⟨.slice t,ef s (l.getD 0) (h.getD (s.length:Int))⟩),J)
   |false=>none
  |some (.c (.arr b)),some none,some h=>match aX J b with
   |some (.arr t s)=>match Nat.beq (t.sz U) sz with
    |true=>some (dY 0 (h.getD (s.length:Int)) s.length,.c (.pre b (Int.toNat (h.getD (s.length:Int)))),J)
    |false=>none
   |_=>none
  |some (.c (.arr b)),some (some d),some h=>match aX J b with
   |some (.arr t s)=>match Nat.beq (t.sz U) sz with
    |true=>some (dY d (h.getD (s.length:Int)) s.length,.c (.dI b (Int.toNat d) (Int.toNat (h.getD (s.length:Int))-Int.toNat d)),J)
    |false=>none
   |_=>none
  |_,_,_=>none
 |.slc0 x=>match df gl gd env x with
  |some (.c (.t ⟨.slice _,_⟩))=>some (true,.c .aB,J)
  |some (.c .aB)=>some (true,.c .aB,J)
  |some (.c (.arr _))=>some (true,.c .aB,J)
  |_=>none
 |.mkfn f caps=>match kv gl gd env caps with
  |some vs=>match AQ vs with
   |some l=>some (true,.c (.fn f l),J)
   |none=>none
  |none=>none
 |.ext x i=>match df gl gd env x with
  |some (.aY vs)=>match vs[i]? with
   |some v=>some (true,v,J)
   |none=>none
  |_=>none
 |.len str x=>match str,df gl gd env x with
  |true,some (.c (.t ⟨.str,s⟩))=>some (true,.c (.t ⟨.int .i64,(s.length:Int)⟩),J)
  |false,some (.c (.cI b))=>match aX J b with
   |some (.buf _ s)=>some (true,.c (.t ⟨.int .i64,(s.length:Int)⟩),J)
   |_=>none
  |false,some v=>match r1 J v with
   |some e=>some (true,.c (.t ⟨.int .i64,(e.1.len:Int)⟩),J)
   |none=>none
  |_,_=>none
 |.append sz bytes x y=>match df gl gd env x,df gl gd env y with
  |some (.c .aB),some v=>match r1 J v with
   |some (B,_)=>match B.blk sz with
    |some blk=>some (room bytes B.len,.c (.arr n),cE J n blk)
    |none=>none
   |none=>none
  |some (.c (.arr b)),some v=>match r1 J (.c (.arr b)),r1 J v with
   |some (K,_),some (B,L)=>match (match L with|some C=>Nat.beq C b|none=>false)with
    |true=>none
    |false=>match Sz J b sz with
     |false=>none
     |true=>match K.join B with
      |some H=>match H.blk sz with
       |some blk=>some (room bytes H.len,.c (.arr n),cE (dl J b) n blk)
       |none=>none
      |none=>none
   |_,_=>none
  |some (.c (.pre b h)),some (.c (.dI C d len))=>match Nat.beq b C with
   |true=>match aX J b with
    |some (.arr t l)=>match Nat.beq (t.sz U) sz with
     |true=>some (decide (h+len<=l.length)&&decide (d+len<=l.length),.c (.arr n),cE (dl J b) n (.arr t (l.take h++(l.drop d).take len)))
     |false=>none
    |_=>none
   |false=>none
  |_,_=>none
 |.max2 x y=>match df gl gd env x,df gl gd env y with
  |some (.c (.t ⟨.int k,a⟩)),some (.c (.t ⟨.int F,b⟩))=>if k=F then some (true,.c (.t ⟨.int k,iz a b⟩),J)else none
  |_,_=>none
 |.min2 x y=>match df gl gd env x,df gl gd env y with
  |some (.c (.t ⟨.int k,a⟩)),some (.c (.t ⟨.int F,b⟩))=>if k=F then some (true,.c (.t ⟨.int k,ji a b⟩),J)else none
  |_,_=>none
 |.eqNil .. |.call .. |.iJ .. =>none
end
section
open Go
variable {U:cM}
inductive cl (N:Nat)(J:bh U):bl U->C->Prop
 |t (c:Cell U.D):cl N J (.t c) (.t (c.enc U))
 |ptr (b o:Nat):cl N J (.ptr b o) (.ptr b o)
 |cH (b:Nat) (t:aK) (i o:Nat):cl N J (.cH b t i o) (.cH b (t.sz U) i o)
 |dP (t:aK) (x:t.den U.D) (o:Nat):cl N J (.dP t x o) (.dP (t.enc U x) o)
 |arr (b sz n:Nat) (xP:b<N) (h:∀x,aX J b=some x->∀p,x.de=some p->p=(sz,n)):cl N J (.arr b) (.arr b sz 0 n)
 |sub (b om len:Nat):cl N J (.sub b om len) (.fE b 1 om len)
 |pre (b sz h:Nat) (xP:b<N) (agm:∀x,aX J b=some x->∀p,x.de=some p->p.1=sz):cl N J (.pre b h) (.arr b sz 0 h)
 |dI (b sz om len:Nat) (xP:b<N) (agm:∀x,aX J b=some x->∀p,x.de=some p->p.1=sz):cl N J (.dI b om len) (.fE b sz om len)
 |mp (b:Nat):cl N J (.mp b) (.mp b)
 |eo (b:Nat):cl N J (.eo b) (.eo b)
 |cI (b n:Nat) (xP:b<N) (h:∀x,aX J b=some x->∀p,x.de=some p->p=(1,n)):cl N J (.cI b) (.cI b n)
 |aB:cl N J .aB .aB
 |fc:cl N J .fc .fc
 |fb:cl N J .fb .fb
 |fn (f:Nat) (caps:a6):cl N J (.fn f caps) (.fn f caps)
 |dead (d:C):cl N J .dead d
inductive ca (N:Nat)(J:bh U):bB U->V->Prop
 |c {x d}:cl N J x d->ca N J (.c x) (.c d)
 |agg {xs ds}:a' (cl N J) xs ds->ca N J (.agg xs) (.agg ds)
 |aY (xs:List (bB U)) (ds:List V) (af:xs.length=ds.length) (h:∀(i:Nat) x d,xs[i]?=some x->ds[i]?=some d->ca N J x d):ca N J (.aY xs) (.aY ds)
inductive h2 (N:Nat)(J:bh U):cR U->bP->Prop
 |box {cs ds}:a' (cl N J) cs ds->h2 N J (.box cs) (.box ds)
 |arr (t:aK) (l:List (t.den U.D)):h2 N J (.arr t l) (.arr (t.sz U) (l.map (t.enc U)))
 |set (ks:List aj):h2 N J (.set ks) (.set ks)
 |buf (E:Nat) (s:aj):h2 N J (.buf E s) (.buf E s)
 |b8 {E c d}:cl N J c d->h2 N J (.b8 E c) (.b8 E d)
 |cC (t:aK) (l:List (t.den U.D)) (i o:Nat) {c d}:cl N J c d->h2 N J (.cC t l i o c) (.cC (t.sz U) (l.map (t.enc U)) i o d)
 |rows {sz r es}:a' (λr e=>hZ r=some e) r es->(∀x,x∈r->x.length=sz)->h2 N J (.rows sz r) (.arr sz es)
def cv(N:Nat)(J:bh U)(J1:a7):Prop:=∀b x,aX J b=some x->b<N/\∃y,aV J1 b=some y/\h2 N J x y
def c3(N:Nat)(J:bh U)(G:Nat->Bool)(env:bW U)(env1:Env):Prop:=∀k v,aX env k=some v->∃v1,look env1 k=some (G k,v1)/\ca N J v v1
structure gS (gl:ez)(env:bW U)(G:Nat->Bool):Prop where
 free:∀k,aX gl k=none->G k=true
 held:∀k t b,aX gl k=some (t,b)->∃y,fl env t b=some y/\G k=(G t&&y)
def dr(N:Nat)(J:bh U)(N':Nat)(J':bh U):Prop:=N<=N'/\∀b a,b<N->aX J' b=some a->∃x,aX J b=some x/\∀p,a.de=some p->x.de=some p
variable{J:bh U}{x:bl U}{v1:V}{t:aK}{o:Nat}{v:bB U}{cs:List (bl U)}
theorem dr.refl{N:Nat}:dr N J N J:=⟨dU _,λ_ x _ h=>⟨x,h,λ_ h=>h⟩⟩
theorem dr.more{N N':Nat}(h:N<=N'):dr N J N' J:=⟨h,λ_ x _ h=>⟨x,h,λ_ h=>h⟩⟩
theorem dr.trans{a c e:Nat}{s1 j o:bh U}(h:dr a s1 c j)(k:dr c j e o):dr a s1 e o:=
 ⟨g' h.1 k.1,λb x f w=>let⟨y,h1,q⟩:=k.2 b x (lZ f h.1) w;let⟨z,t,u⟩:=h.2 b y f h1;⟨z,t,λp v=>u p (q p v)⟩⟩
section
variable {N N':Nat}{J J':bh U}{J1:a7}{env:bW U}{env1:Env}{G:Nat->Bool}{gl:ez}{gd:Option (Nat×Bool)}
theorem cl.mono(k:dr N J N' J'){d:C}(h:cl N J x d):cl N' J' x d:=by
 cases h with
 |t c=>exact .t c
 |ptr b o=>exact .ptr b o
 |cH b t i o=>exact .cH b t i o
 |dP t x o=>exact .dP t x o
 |arr b sz n a h=>
  refine .arr b sz n (lZ a k.1) λx e p q=>?_;obtain⟨y,h1,j⟩:=k.2 b x a e;grind
 |sub b u len=>exact .sub b u len
 |pre b sz n a h=>
  refine .pre b sz n (lZ a k.1) λx e p q=>?_;obtain⟨y,h1,j⟩:=k.2 b x a e;grind
 |dI b sz u len a h=>
  refine .dI b sz u len (lZ a k.1) λx e p q=>?_;obtain⟨y,h1,j⟩:=k.2 b x a e;exact h y h1 p (j p q)
 |mp b=>exact .mp b
 |eo b=>exact .eo b
 |cI b n a h=>
  refine .cI b n (lZ a k.1) λx e p q=>?_;obtain⟨y,h1,j⟩:=k.2 b x a e;grind
 |aB=>exact .aB
 |fc=>exact .fc
 |fb=>exact .fb
 |fn f caps=>exact .fn f caps
 |dead d=>exact .dead d
theorem ca.mono(k:dr N J N' J'){x:bB U}{d:V}(h:ca N J x d):ca N' J' x d:=by
 induction h with
 |c h=>exact .c (h.mono k)
 |agg h=>exact .agg (h.imp λ_ _ _=>cl.mono k)
 |aY xs ds af h ih=>exact .aY xs ds af ih
theorem h2.mono(k:dr N J N' J'){x:cR U}{d:bP}(h:h2 N J x d):h2 N' J' x d:=by
 cases h with
 |box h=>exact .box (h.imp λ_ _ _=>cl.mono k)
 |arr t l=>exact .arr t l
 |set ks=>exact .set ks
 |buf E s=>exact .buf E s
 |b8 h=>exact .b8 (h.mono k)
 |cC t l i o h=>exact .cC t l i o (h.mono k)
 |rows h a=>exact .rows h a
theorem c3.mono(k:dr N J N' J')(h:c3 N J G env env1):c3 N' J' G env env1:=λi v c=>let⟨v1,h1,a⟩:=h i v c;⟨v1,h1,a.mono k⟩
theorem cv.put(h:cv N J J1){b:Nat}{x:cR U}{y:bP}(p:b<N')(k:dr N J N' (cE J b x))(q:h2 N' (cE J b x) x y):cv N' (cE J b x) (db J1 b y):=by
 intro c z a;rw[hU]at a;rw[cZ];by_cases j:b=c
 . grind
 . rw[ak j]at a⊢;obtain⟨h1,o,e,f⟩:=h c z a;exact⟨lZ h1 k.1,o,e,f.mono k⟩
theorem lS{x:cR U}(h:N<=N':=by omega):dr N J N' (cE J N x):=by
 refine⟨h,λb d c a=>?_⟩;rw[hU,a8]at a;grind
theorem nN{b:Nat}{x a:cR U}(h:N<=N')(h0:aX J b=some a)(f:∀p,x.de=some p->a.de=some p):dr N J N' (cE J b x):=by
 refine⟨h,λc g e d=>?_⟩;rw[hU]at d;grind
theorem tv{b:Nat}:dr N J N (dl J b):=by
 refine⟨dU _,λc e d a=>?_⟩;rw[oj]at a;grind
theorem KI{d:C}(h:Er d=some x):cl N J x d:=by
 unfold Er at h;split at h<;>cases h
 . exact cl.t (U:=U) ⟨.bool,_⟩
 . exact cl.t (U:=U) ⟨.int _,_⟩
 . exact cl.t (U:=U) ⟨.str,_⟩
 . exact .aB
 . exact .fc
 . exact .fb
 . exact .dead _
 . exact .fn _ _
theorem th:∀{ds:List C} {xs:List (bl U)},oG ds=some xs->a' (cl N J) xs ds
 |[],xs,h=>by simp[oG]at h;subst h;exact .nil
 |d::ds,xs,h=>by
  simp only[oG]at h;split at h
  . rename_i x ys h1 a;cases h;exact .cons (KI h1) (th a)
  . cases h
theorem KJ{d:V}{x:bB U}(h:w6 d=some x):ca N J x d:=by
 cases d with
 |c d=>
  simp only[w6]at h;split at h
  . rename_i y a;cases h;exact .c (KI a)
  . cases h
 |agg ds=>
  simp only[w6]at h;split at h
  . rename_i y a;cases h;exact .agg (th a)
  . cases h
 |aY _=>simp[w6]at h
def cG(env:bW U)(G:Nat->Bool):Option (Nat×Bool)->Bool
 |none=>true
 |some (t,b)=>G t&&(fl env t b).getD false
theorem gS.aX(al:gS gl env G)(k:Nat):cG env G (aX gl k)=G k:=by
 cases h:Shv.aX gl k with
 |none=>exact(al.free k h).symm
 |some g=>
  obtain⟨t,b⟩:=g;obtain⟨y,h1,a⟩:=al.held k t b h;simp[cG,h1,a]
theorem DA(al:gS gl env G):∀{a:Nat} {gd:Option (Nat×Bool)} {g:Bool},lq gl env a gd=some g->g=cG env G gd
 |_,none,g,h=>by unfold lq at h;simp at h;subst h;rfl
 |0,some _,g,h=>by simp[lq]at h
 |a+1,some (t,b),g,h=>by
  simp only[lq]at h;split at h
  . rename_i x y h1 c;cases h;rw[DA al h1,al.aX t];simp[cG,c]
  . cases h
theorem abL:∀{a:Nat} {t:Nat} {b:Bool} {g:Bool},lq gl env a (some (t,b))=some g->∃y,fl env t b=some y
 |0,t,b,g,h=>by simp[lq]at h
 |a+1,t,b,g,h=>by
  simp only[lq]at h;grind
theorem ca.eb(h:ca N J (.c x) v1):∃d,v1= .c d/\cl N J x d:=by cases h with|c h=>exact⟨_,rfl,h⟩
theorem ca.sb{xs:List (bl U)}(h:ca N J (.agg xs) v1):∃ds,v1= .agg ds/\a' (cl N J) xs ds:=by cases h with|agg h=>exact⟨_,rfl,h⟩
theorem ca.w1{c:Cell U.D}(h:ca N J (.c (.t c)) v1):v1= .c (.t (c.enc U)):=by obtain⟨d,rfl,aa⟩:=h.eb;cases aa;rfl
theorem ca.jt{b:Bool}(h:ca N J (.c (.t ⟨.bool,b⟩)) v1):v1= .c (.t (.bool b)):=h.w1
theorem ca.gz{k:IntKind}{m:Int}(h:ca N J (.c (.t ⟨.int k,m⟩)) v1):v1= .c (.t (.int k m)):=h.w1
theorem ca.kt{s:aj}(h:ca N J (.c (.t ⟨.str,s⟩)) v1):v1= .c (.t (.str s)):=h.w1
theorem ca.kr{l:List (t.den U.D)}(h:ca N J (.c (.t ⟨.slice t,l⟩)) v1):v1= .c (.t (.slice (l.map (t.enc U)))):=h.w1
theorem ca.hY{b:Nat}(h:ca N J (.c (.ptr b o)) v1):v1= .c (.ptr b o):=by obtain⟨d,rfl,aa⟩:=h.eb;cases aa;rfl
theorem ca.jg{b i:Nat}(h:ca N J (.c (.cH b t i o)) v1):v1= .c (.cH b (t.sz U) i o):=by obtain⟨d,rfl,aa⟩:=h.eb;cases aa;rfl
theorem ca.Fe{x:t.den U.D}(h:ca N J (.c (.dP t x o)) v1):v1= .c (.dP (t.enc U x) o):=by obtain⟨d,rfl,aa⟩:=h.eb;cases aa;rfl
theorem ca.uV(h:ca N J (.c .aB) v1):v1= .c .aB:=by obtain⟨d,rfl,aa⟩:=h.eb;cases aa;rfl
theorem ca.hh{b:Nat}(h:ca N J (.c (.arr b)) v1):∃sz n,v1= .c (.arr b sz 0 n)/\b<N/\∀x,Shv.aX J b=some x->∀p,x.de=some p->p=(sz,n):=by
 obtain⟨d,rfl,aa⟩:=h.eb;cases aa with
 |arr _ sz n e a=>exact⟨_,_,rfl,e,a⟩
theorem ca.Fm{b:Nat}(h:ca N J (.c (.mp b)) v1):v1= .c (.mp b):=by obtain⟨d,rfl,aa⟩:=h.eb;cases aa;rfl
theorem ca.Sn{b:Nat}(h:ca N J (.c (.eo b)) v1):v1= .c (.eo b):=by obtain⟨d,rfl,aa⟩:=h.eb;cases aa;rfl
theorem ca.Bb{b:Nat}(h:ca N J (.c (.cI b)) v1):∃n,v1= .c (.cI b n)/\b<N/\∀x,Shv.aX J b=some x->∀p,x.de=some p->p=(1,n):=by
 obtain⟨d,rfl,aa⟩:=h.eb;cases aa with
 |cI _ n e a=>exact⟨_,rfl,e,a⟩
theorem ca.Fa{f:Nat}{caps:a6}(h:ca N J (.c (.fn f caps)) v1):v1= .c (.fn f caps):=by
 obtain⟨d,rfl,aa⟩:=h.eb;cases aa;rfl
theorem abM{t:Nat}{b y:Bool}(he:c3 N J G env env1)(h:fl env t b=some y):∃x,look env1 t=some (G t,.c (.t (.bool x)))/\y=(x==b):=by
 unfold fl at h;split at h
 . rename_i x d;cases h;obtain⟨v1,h1,a⟩:=he t _ d;have:=a.jt;grind
 . cases h
theorem DL(he:c3 N J G env env1)(h:gd=none\/∃t b y,gd=some (t,b)/\fl env t b=some y):fV env1 gd=some (cG env G gd):=by
 rcases h with rfl|⟨t,b,y,rfl,h⟩
 . rfl
 . obtain⟨x,h1,rfl⟩:=abM he h;simp[fV,h1,cG,h]
theorem DB(al:gS gl env G):∀{d:Nat} {gd:Option (Nat×Bool)} {k:Nat},cG env G gd=true->wZ gl d gd k=true->G k=true
 |0,gd,k,_,h=>by simp[wZ]at h
 |d+1,gd,k,a,h=>by
  simp only[wZ]at h;split at h
  . rename_i c;exact al.free k c
  . rename_i e c;split at h
    . cases h
    . rename_i g;obtain⟨t,b⟩:=g;obtain⟨m,l⟩:=e;simp only[hW,cd,iQ]at h;rcases h with⟨h1,f⟩|h
      . have:=cV h1;subst this;subst f;obtain⟨y,i,j⟩:=al.held k t b c;simp only[cG,i,lx]at a;rw[j,a]
      . refine DB al (gd:=Shv.aX gl t) ?_ h;rw[al.aX t];simp only[cG,cd]at a;exact a.1
theorem cw(he:c3 N J G env env1)(al:gS gl env G){x:aP}(h:df gl gd env x=some v):
 ∃p v1,x.get env1=some (p,v1)/\ca N J v v1/\(cG env G gd=true->p):=by
 cases x with
 |const d=>exact⟨True,d,rfl,KJ h,λ_=>trivial⟩
 |tmp k=>
  simp only[df]at h;split at h
  . rename_i hs;obtain⟨v1,h1,a⟩:=he k v h;exact⟨_,v1,by simp[aP.get,h1],a,λb=>DB al b hs⟩
  . cases h
theorem LD(he:c3 N J G env env1)(al:gS gl env G){c x:aP}{b y:Bool}{j:bB U}(a:df gl gd env c=some j)(n:j= .c (.t ⟨.bool,y⟩))(h:Es gl gd env c b x=some v):
 ∃p v1,x.get env1=some (p,v1)/\ca N J v v1/\(cG env G gd=true->y=b->p):=by
 cases x with
 |const d=>exact⟨True,d,rfl,KJ h,λ_ _=>trivial⟩
 |tmp k=>
  simp only[Es]at h;split at h
  . rename_i hs;obtain⟨v1,h1,e⟩:=he k v h;exact⟨_,v1,by simp[aP.get,h1],e,λf _=>DB al f hs⟩
  . split at h
    . rename_i s t l o;split at h
      . rename_i i;simp only[cd,iQ]at i;obtain⟨h1,rfl⟩:=i;have:=cV h1;subst this;obtain⟨v1,h1,e⟩:=he k v h;refine⟨G k=true,v1,by simp[aP.get,h1],e,λf q=>?_⟩;simp only[df]at a;split at a
        . rename_i hs;have m:=DB al f hs;obtain⟨u,g,r⟩:=al.held k t l o;simp only[fl,a,n]at g;rw[r,m];subst q;cases y<;>simp at g<;>simp[<-g]
        . cases a
      . cases h
    . cases h
theorem tl(he:c3 N J G env env1)(al:gS gl env G):∀{xs:List aP} {vs:List (bB U)},kv gl gd env xs=some vs->
 ∃p vs1,hy env1 xs=some (p,vs1)/\a' (ca N J) vs vs1/\(cG env G gd=true->p)
 |[],vs,h=>by simp[kv]at h;subst h;exact⟨True,[],rfl,.nil,λ_=>trivial⟩
 |x::xs,vs,h=>by
  simp only[kv]at h;split at h
  . rename_i v c h1 b;cases h;obtain⟨p,v1,a1,a2,a3⟩:=cw he al h1;obtain⟨q,vs1,b1,b2,b3⟩:=tl he al b;exact⟨p/\q,v1::vs1,by simp[hy,a1,b1],.cons a2 b2,λa=>⟨a3 a,b3 a⟩⟩
  . cases h
theorem p6(h:ca N J v v1)(a:pQ v=some cs):∃ds,pP v1=some ds/\a' (cl N J) cs ds:=by
 cases h with
 |c h=>simp[pQ]at a;subst a;exact⟨_,rfl,.cons h .nil⟩
 |agg h=>simp[pQ]at a;subst a;exact⟨_,rfl,h⟩
 |aY=>simp[pQ]at a
theorem HI{a:List (bl U)}{ds b:List C}(h:a' (cl N J) cs ds)(c:a' (cl N J) a b):a' (cl N J) (w5 cs o a) (oW ds o b):=by
 unfold w5 oW;rw[c.length];exact((h.take o).append c).append (h.drop _)
theorem h'{a b:Nat}(h:Nat.ble a b=true):a<=b:=BQ h
theorem Tt(he:c3 N J G env env1)(al:gS gl env G):∀{ps:List (Nat×Nat×aP)} {cs b:List (bl U)} {ds:List C},zE gl gd env cs ps=some b->a' (cl N J) cs ds->
 ∃p c,ll env1 ds ps=some (p,c)/\a' (cl N J) b c/\(cG env G gd=true->p)
 |[],cs,b,ds,h,a=>by simp[zE]at h;subst h;exact⟨True,ds,rfl,a,λ_=>trivial⟩
 |(o,n,x)::r,cs,b,ds,h,a=>by
  simp only[zE]at h;split at h
  . cases h
  . rename_i v l;split at h
    . cases h
    . rename_i es k;split at h
      . rename_i d;simp only[cd]at d;have i:=cV d.1;have j:=h' d.2;obtain⟨p,v1,a1,a2,a3⟩:=cw he al l;obtain⟨fs,b1,b2⟩:=p6 a2 k;obtain⟨q,c,e,f,g⟩:=Tt he al h (HI (o:=o) a b2);refine⟨p/\q,c,?_,f,λa=>⟨a3 a,g a⟩⟩;simp only[ll,a1,ao,b1];rw[ae ⟨by rw[<-b2.length];exact i,by rw[<-a.length];exact j⟩,e];rfl
      . cases h
theorem aaW{d:C}{t:T}(h:cl N J x d)(ht:x.toT=some t):Shv.toT d=some t:=by
 cases h<;>simp only[bl.toT,reduceCtorEq,bI]at ht
 . split at ht
   . cases ht
   . cases ht;rfl
 . subst ht;rfl
theorem DM:∀{cs:List (bl U)} {ds:List C} {ts:List T},a' (cl N J) cs ds->hZ cs=some ts->toTs ds=some ts
 |[],[],ts,_,h=>by simp[hZ]at h;subst h;rfl
 |c::cs,d::ds,ts,.cons h1 a,h=>by
  simp only[hZ]at h;split at h
  . rename_i t e ht b;cases h;simp[toTs,aaW h1 ht,DM a b]
  . cases h
theorem Hm:∀{cs:List (bl U)} {ts:List T},hZ cs=some ts->ts.length=cs.length
 |[],ts,h=>by simp[hZ]at h;subst h;rfl
 |c::cs,ts,h=>by
  simp only[hZ]at h;split at h
  . rename_i t b ht a;cases h;simp[Hm a]
  . cases h
theorem a'.set{α c:Type}{R:α->c->Prop}{l:List α}{m:List c}(h:a' R l m){i:Nat}{a:α}{b:c}(f:R a b):a' R (l.set i a) (m.set i b):=by
 induction h generalizing i with
 |nil=>exact .nil
 |cons h1 e ih=>cases i with
  |zero=>exact .cons f e
  |succ i=>exact .cons h1 ih
theorem GN(he:c3 N J G env env1)(al:gS gl env G){sz:Nat}:∀{ps:List (Nat×aP)} {a b:List (List (bl U))} {es:List (List T)},we gl gd env sz a ps=some b->
 a' (λr e=>hZ r=some e) a es->(∀r,r∈a->r.length=sz)->∃p es',jT env1 sz es ps=some (p,es')/\a' (λr e=>hZ r=some e) b es'/\(∀r,r∈b->r.length=sz)/\(cG env G gd=true->p)
 |[],a,b,es,h,c,af=>by simp[we]at h;subst h;exact⟨True,es,rfl,c,af,λ_=>trivial⟩
 |(i,x)::ps,a,b,es,h,c,af=>by
  simp only[we]at h;split at h
  . cases h
  . rename_i v s;split at h
    . cases h
    . rename_i cs o;split at h
      . cases h
      . rename_i ts f;split at h
        . rename_i d;simp only[cd]at d;have n:=cV d.1;have t:=h' d.2;obtain⟨p,v1,a1,a2,a3⟩:=cw he al s;obtain⟨ds,b1,b2⟩:=p6 a2 o;obtain⟨q,es',j,k,m,l⟩:=GN he al h (a'.set c f) (by grind);refine⟨p/\q,es',?_,k,m,λg=>⟨a3 g,l g⟩⟩;simp only[jT,a1,ao,b1,DM b2 f];rw[ae ⟨by rw[Hm f];exact n,by rw[<-c.length];omega⟩,j];rfl
        . cases h
end
end
section
open Go
variable {U:cM}
structure ea (N:Nat)(J:bh U)(J1:a7)(o:cL)(env1:Env)(g c:Bool)(v:bB U)(J':bh U):Prop where
 val:∃v1,ca (N+16) J' v v1/\(g=true->c=true->∃p bp,aO o env1 J1 N=some (p,v1,bp)/\p/\cv (N+16) J' bp)
 ahK:dr N J (N+16) J'
 agA:o.neutral=true->J'=J
variable{v1:V}{o:cL}{agg neg:Bool}{ds z:List C}{cs:List (bl U)}{α:Type}{t:aK}{ts:List T}{op:BinOp}{J1:a7}{x y:aP}{off e:Nat}{es:List (List T)}{R:α->α->Prop}
section
variable {N N':Nat}{J J':bh U}{J1:a7}{env:bW U}{env1:Env}{G:Nat->Bool}{gl:ez}{gd:Option (Nat×Bool)}{c:Bool}{v:bB U}
theorem cv.mono(h:cv N J J1)(cr:N<=N'):cv N' J J1:=λb x e=>
 let⟨h1,y,a,c⟩:=h b x e;⟨lZ h1 cr,y,a,c.mono (dr.more cr)⟩
theorem ea.neutral{g:Bool}(aF:cv N J J1)(j:ca N J v v1)(e:g=true->c=true->∃p,aO o env1 J1 N=some (p,v1,J1)/\p):ea N J J1 o env1 g c v J:=
 ⟨⟨v1,j.mono (dr.more (by omega)),λal f=>let⟨p,h1,a⟩:=e al f;⟨p,J1,h1,a,aF.mono (by omega)⟩⟩,dr.more (by omega),λ_=>rfl⟩
theorem ea.store{g:Bool}(aE:o.neutral=false)(e:dr N J (N+16) J')(f:ca (N+16) J' v v1)(a:g=true->c=true->∃p bp,aO o env1 J1 N=some (p,v1,bp)/\p/\cv (N+16) J' bp):ea N J J1 o env1 g c v J':=
 ⟨⟨v1,f,a⟩,e,λh=>by rw[aE]at h;cases h⟩
theorem vu{k o:Nat}(a:a' (cl N J) cs ds)(h:rC agg k cs o=some v):∃v1,jY agg k ds o=some v1/\ca N J v v1:=by
 unfold rC at h;split at h
 . split at h
   . rename_i e;cases h;refine⟨_,by simp only[jY,bS];rw[ae (by rw[<-a.length];exact h' e)],.agg ((a.drop o).take k)⟩
   . cases h
 . split at h
   . rename_i x f;cases h;obtain⟨d,h1,b⟩:=a.get f;exact⟨_,by simp[jY,h1],.c b⟩
   . cases h
theorem a'.map_map{c e j:Type}{R:e->j->Prop}{f:α->e}{g:c->j}:∀{l:List α} {m:List c},a' (λa b=>R (f a) (g b)) l m->a' R (l.map f) (m.map g)
 |[],[],_=>.nil
 |_::_,_::_,.cons h1 o=>.cons h1 (a'.map_map o)
theorem a'.self(h:∀a,R a a):∀(l:List α),a' R l l
 |[]=>.nil
 |a::l=>.cons (h a) (a'.self h l)
theorem zg{x:t.den U.D}:a' (cl N J) ((t.row U x).map .t) ((t.enc U x).map .t):=by
 rw[aK.u3,List.map_map];exact a'.map_map (a'.self (R:=λa b=>cl N J (.t a) (.t (b.enc U))) (λc=>cl.t c) _)
theorem Ha{k o:Nat}{v:V}(af:jY agg k (ts.map .t) o=some v):loadT agg k ts o=some v:=by
 unfold jY at af;unfold loadT;cases agg with
 |true=>simpa using af
 |false=>simpa[Option.map_map]using af
theorem Y7{p q:Cell U.D}{r:Cell U.D}(h:It op p q=some (c,r)):∃d,k7 op (p.enc U) (q.enc U)=some (d,r.enc U)/\(c=true->d):=by
 unfold It at h;split at h
 . rename_i k a e b;show ∃d,k7 op (.int k a) (.int e b)=some (d,r.enc U)/\(c=true->d);cases op<;>simp only[Sw,reduceCtorEq,dE,bI,bE]at h
   all_goals first
    |(obtain⟨rfl,rfl,rfl⟩:=h;exact⟨_,by simp only[k7,bS];rfl,λh=>by simpa using h⟩)
    |(obtain⟨rfl,rfl⟩:=h;exact⟨_,by simp only[k7];rfl,λh=>by simpa using h⟩)
    |(obtain⟨rfl,rfl,rfl⟩:=h;exact⟨_,by simp only[k7,bS];rfl,λh=>trivial⟩)
 . rename_i a b;show ∃d,k7 op (.str a) (.str b)=some (d,r.enc U)/\(c=true->d);cases op<;>simp only[Sx,reduceCtorEq,bI,bE]at h
   all_goals first
    |(obtain⟨rfl,rfl⟩:=h;exact⟨_,by simp only[k7];rfl,λh=>by simpa using h⟩)
    |(obtain⟨rfl,rfl⟩:=h;exact⟨_,by simp only[k7];rfl,λh=>trivial⟩)
 . cases h
theorem Y8{k:Nat}{x y:Cell U.D}{b:Bool}(h:Ix k x y=some b):By k (x.enc U) (y.enc U)=some b:=by
 unfold Ix at h;split at h
 . cases h;rfl
 . simp only[dE,bI]at h;obtain⟨rfl,rfl⟩:=h;show(if _ then _ else _)=_;rw[ae rfl];rfl
 . cases h;rfl
 . cases h
theorem JX:∀{ks:a6} {xs ys:List (bl U)} {ds es:List C} {b:Bool},AT ks xs ys=some b->a' (cl N J) xs ds->a' (cl N J) ys es->sv ks ds es=some b
 |[],[],[],[],[],b,h,.nil,.nil=>by simp[AT]at h;subst h;rfl
 |k::ks,.t x::xs,.t y::ys,d::ds,e::es,b,h,.cons h1 a,.cons c f=>by
  simp only[AT]at h;split at h
  . rename_i b1 r g i;cases h;cases h1;cases c;simp[sv,Y8 g,JX i a f]
  . cases h
theorem Yd{a b:aj}:(Bd a b).length=a.length+b.length:=cJ
theorem ab4{a b:Int}:hR a b=true↔a=b:=by simp[hR]
theorem tC{m:Int}{n:Nat}:aH m n=true↔0<=m/\m.toNat<n:=by simp[aH]
theorem iN{b a:Int}{n:Nat}:dY b a n=true↔0<=b/\b<=a/\a<=n:=by simp[dY]
theorem acV{s:List (t.den U.D)}{l r:Option Int}{a pl b:Prop}{sz:Nat}:
 (some (a/\pl/\b/\0<=l.getD 0/\l.getD 0<=r.getD ((List.map (t.enc U) s).length:Int)/\r.getD ((List.map (t.enc U) s).length:Int)<=((List.map (t.enc U) s).length:Int)/\∀e,e∈List.map (t.enc U) s->e.length=sz,
  V.c (C.t (T.slice (((List.map (t.enc U) s).take (r.getD ((List.map (t.enc U) s).length:Int)).toNat).drop (l.getD 0).toNat))),J1):A0)=
 some (a/\pl/\b/\0<=l.getD 0/\l.getD 0<=r.getD (s.length:Int)/\r.getD (s.length:Int)<=(s.length:Int)/\∀e,e∈List.map (t.enc U) s->e.length=sz,
  V.c (C.t (Cell.enc U ⟨.slice t,ef s (l.getD 0) (r.getD (s.length:Int))⟩)),J1):=by
 have:Cell.enc U ⟨.slice t,ef s (l.getD 0) (r.getD (s.length:Int))⟩=T.slice (List.map (t.enc U) (ef s (l.getD 0) (r.getD (s.length:Int)))):=rfl;rw[this,gH];simp only[ef,BY,yz]
variable{a:Type}{f:α->a}
theorem acW{l:List α}{p:Prop}:(some (p,V.c (C.t (T.int .i64 ((l.map f).length:Int))),J1):A0)=some (p,V.c (C.t (.int .i64 (l.length:Int))),J1):=by rw[gH]
theorem wg{l:List α}{i:Nat}(h:i<l.length):i<(l.map f).length:=by rw[gH];exact h
theorem a'.replicate{c:Type}{R:α->c->Prop}{a:α}{b:c}(h:R a b):∀n:Nat,a' R (List.replicate n a) (List.replicate n b)
 |0=>.nil
 |n+1=>.cons h (a'.replicate h n)
theorem Gw:∀{xs:List (bl U)} {dc:List aK} {es:List C} {row:List (Cell U.D)},iM dc xs=some row->a' (cl N J) xs es->toTs es=some (row.map (Cell.enc U))
 |[],dc,es,row,h1,a=>by
  cases a;cases dc<;>simp[iM]at h1;subst h1;rfl
 |y::ys,[],es,row,h1,a=>by simp[iM]at h1
 |y::ys,ty::dc,_::_,row,h1,.cons a d=>by
  cases a with
  |t c=>cases ty<;>simp only[iM]at h1<;>(split at h1<;>first|(cases h1;done)|(rename_i q b;cases h1;simp[toTs,toT,Gw b d]))
  |aB=>
   cases ty<;>simp only[iM,reduceCtorEq]at h1;split at h1
   . rename_i q b;cases h1;simp[toTs,toT,Gw b d];rfl
   . cases h1
  |_=>cases ty<;>simp[iM]at h1
theorem S'{sz:Nat}:∀{ps:List (Nat×aP)} {es es':List (List T)} {p:Prop},jT env1 sz es ps=some (p,es')->es'.length=es.length
 |[],es,es',p,h=>by simp[jT]at h;rw[h.2]
 |(i,x)::ps,es,es',p,h=>by
  simp only[jT,bq,dE,bd,bE]at h;obtain⟨a,_,cs,_,ts,_,_,b,c,_,rfl⟩:=h;have:=S' (p:=b.1) (es':=b.2) c;grind
theorem Hn{l k:List (t.den U.D)}{i o:Nat}(h:r4 U t l i o cs=some k)(n:i<l.length)(g:a' (cl N J) cs ds)(A:o+cs.length<=t.sz U):
 ∃ts,toTs ds=some ts/\k.map (t.enc U)=(l.map (t.enc U)).set i ((el (l.map (t.enc U)) i).take o++ts++(el (l.map (t.enc U)) i).drop (o+cs.length)):=by
 unfold r4 at h;split at h
 . rename_i x e;cases h;unfold ql at e;split at e
   . rename_i row v;have s:=aK.Fl e;have key:=@Gw U N J;have w:a' (cl N J) ((t.row U (t.at U l i)).map .t) ((t.enc U (t.at U l i)).map .t):=zg;have m:=HI (o:=o) w g;have h1:=key v m;have f:∀{a b:List C} {r:List T},toTs (a++b)=some r->∃p q,toTs a=some p/\toTs b=some q/\r=p++q:=by
      intro a;induction a with
      |nil=>intro b r h;exact⟨[],r,rfl,h,rfl⟩
      |cons c a ih=>
       intro b r h;simp only[rM,toTs,bq,bd]at h;obtain⟨t0,y,E,u,rfl⟩:=h;obtain⟨p,q,aI,d,rfl⟩:=ih u;exact⟨t0::p,q,by simp[toTs,y,aI],d,rfl⟩
     have j:∀(ts:List T),toTs (ts.map .t)=some ts:=by
      intro ts;induction ts with
      |nil=>rfl
      |cons a ts ih=>simp[toTs,toT,ih]
     unfold oW at h1;obtain⟨p,q,aI,d,dh⟩:=f h1;obtain⟨B,z,f1,f2,f3⟩:=f aI;rw[<-yz,j]at f1;cases f1;rw[<-BY,j]at d;cases d;refine⟨z,f2,?_⟩;rw[List.map_set,zD n,aK.u3 (x:=x),s,dh,f3,g.length]
   . cases e
 . cases h
variable (he:c3 N J G env env1)(al:gS gl env G)(aF:cv N J J1)
section
include he al aF
theorem aht(h:ct gl gd env J N (.mov x)=some (c,v,J')):ea N J J1 (.mov x) env1 (cG env G gd) c v J':=by
 simp only[ct]at h;split at h
 . rename_i w b;cases h;obtain⟨p,v1,a1,a2,a3⟩:=cw he al b;exact .neutral aF a2 λa _=>⟨p,by simp[aO,a1],a3 a⟩
 . cases h
theorem acX{z:aP}(h:ct gl gd env J N (.pick x y z)=some (c,v,J')):ea N J J1 (.pick x y z) env1 (cG env G gd) c v J':=by
 simp only[ct]at h;split at h
 . rename_i b p q h1 g i;cases h;obtain⟨j,v1,a1,a2,a3⟩:=cw he al h1;obtain⟨k,m,b1,b2,b3⟩:=LD he al h1 rfl g;obtain⟨l,v3,d,e,f⟩:=LD he al h1 rfl i;have:=a2.jt;subst this;have:=b2.jt;subst this;have:=e.jt;subst this;refine .neutral aF (.c (.t (U:=U) ⟨.bool,_⟩)) λa _=>⟨j/\(b=true->k)/\(b=false->l),by simp only[aO,a1,b1,d,ao];rfl,a3 a,b3 a,f a⟩
 . cases h
theorem Y9(h:ct gl gd env J N (.nilCheck x)=some (c,v,J')):ea N J J1 (.nilCheck x) env1 (cG env G gd) c v J':=by
 simp only[ct]at h;split at h
 . rename_i b o d;cases h;obtain⟨p,v1,a1,a2,a3⟩:=cw he al d;have:=a2.hY;subst this;exact .neutral aF a2 λa _=>⟨p,by simp[aO,a1],a3 a⟩
 . rename_i b t i o d;cases h;obtain⟨p,v1,a1,a2,a3⟩:=cw he al d;have:=a2.jg;subst this;exact .neutral aF a2 λa _=>⟨p,by simp[aO,a1],a3 a⟩
 . rename_i t e o d;cases h;obtain⟨p,v1,a1,a2,a3⟩:=cw he al d;have:=a2.Fe;subst this;exact .neutral aF a2 λa _=>⟨p,by simp[aO,a1],a3 a⟩
 . cases h
theorem ahu(h:ct gl gd env J N (.not x)=some (c,v,J')):ea N J J1 (.not x) env1 (cG env G gd) c v J':=by
 simp only[ct]at h;split at h
 . rename_i b d;cases h;obtain⟨p,v1,a1,a2,a3⟩:=cw he al d;have:=a2.jt;subst this;exact .neutral aF (.c (.t (U:=U) ⟨.bool,_⟩)) λa _=>⟨p,by simp[aO,a1];rfl,a3 a⟩
 . cases h
theorem acY{k:IntKind}(h:ct gl gd env J N (.conv k x)=some (c,v,J')):ea N J J1 (.conv k x) env1 (cG env G gd) c v J':=by
 simp only[ct]at h;split at h
 . rename_i d m b;cases h;obtain⟨p,v1,a1,a2,a3⟩:=cw he al b;have:=a2.gz;subst this;exact .neutral aF (.c (.t (U:=U) ⟨.int k,_⟩)) λa _=>⟨p,by simp[aO,a1];rfl,a3 a⟩
 . cases h
theorem ahr(h:ct gl gd env J N (.i2s x)=some (c,v,J')):ea N J J1 (.i2s x) env1 (cG env G gd) c v J':=by
 simp only[ct]at h;split at h
 . rename_i d m b;cases h;obtain⟨p,v1,a1,a2,a3⟩:=cw he al b;have:=a2.gz;subst this;exact .neutral aF (.c (.t (U:=U) ⟨.str,_⟩)) λa _=>⟨p,by simp[aO,a1];rfl,a3 a⟩
 . cases h
theorem ahv(h:ct gl gd env J N (.s2s x)=some (c,v,J')):ea N J J1 (.s2s x) env1 (cG env G gd) c v J':=by
 simp only[ct]at h;split at h
 . rename_i s b;cases h;obtain⟨p,v1,a1,a2,a3⟩:=cw he al b;have:=a2.kt;subst this;exact .neutral aF a2 λa _=>⟨p,by simp[aO,a1],a3 a⟩
 . cases h
theorem acZ(h:ct gl gd env J N (.fldA off x)=some (c,v,J')):ea N J J1 (.fldA off x) env1 (cG env G gd) c v J':=by
 simp only[ct]at h;split at h
 . rename_i b o d;cases h;obtain⟨p,v1,a1,a2,a3⟩:=cw he al d;have:=a2.hY;subst this;exact .neutral aF (.c (.ptr _ _)) λa _=>⟨p,by simp[aO,a1],a3 a⟩
 . rename_i b t i o d;cases h;obtain⟨p,v1,a1,a2,a3⟩:=cw he al d;have:=a2.jg;subst this;exact .neutral aF (.c (.cH _ _ _ _)) λa _=>⟨p,by simp[aO,a1],a3 a⟩
 . rename_i t e o d;cases h;obtain⟨p,v1,a1,a2,a3⟩:=cw he al d;have:=a2.Fe;subst this;exact .neutral aF (.c (.dP _ _ _)) λa _=>⟨p,by simp[aO,a1],a3 a⟩
 . cases h
theorem ahq{k:Nat}(h:ct gl gd env J N (.fld agg off k x)=some (c,v,J')):ea N J J1 (.fld agg off k x) env1 (cG env G gd) c v J':=by
 simp only[ct]at h;split at h
 . rename_i cs e;split at h
   . rename_i w af;cases h;obtain⟨p,v1,a1,a2,a3⟩:=cw he al e;obtain⟨ds,rfl,b2⟩:=a2.sb;obtain⟨f,a,b⟩:=vu b2 af;exact .neutral aF b λd _=>⟨p,by simp[aO,a1,a],a3 d⟩
   . cases h
 . cases h
theorem ac0{k:Nat}(h:ct gl gd env J N (.load agg k x)=some (c,v,J')):ea N J J1 (.load agg k x) env1 (cG env G gd) c v J':=by
 simp only[ct]at h;split at h
 . rename_i b o j;split at h
   . rename_i cs g;split at h
     . rename_i w af;cases h;obtain⟨p,v1,a1,a2,a3⟩:=cw he al j;have:=a2.hY;subst this;obtain⟨_,y,b1,b2⟩:=aF b _ g;cases b2 with
       |box b2=>
        obtain⟨s,a,m⟩:=vu b2 af;exact .neutral aF m λd _=>⟨p,by simp[aO,a1,b1,a],a3 d⟩
     . cases h
   . rename_i E z g;split at h
     . cases h;obtain⟨p,v1,a1,a2,a3⟩:=cw he al j;have:=a2.hY;subst this;obtain⟨_,y,b1,b2⟩:=aF b _ g;cases b2 with
       |b8 b2=>exact .neutral aF (.c b2) λd _=>⟨p,by simp[aO,a1,b1],a3 d⟩
     . cases h
   . cases h
 . rename_i b t i o j;split at h
   . rename_i u B g;split at h
     . rename_i l af;have e:=Cell.kC af;cases e;split at h
       . rename_i w q;cases h;obtain⟨p,v1,a1,a2,a3⟩:=cw he al j;have:=a2.jg;subst this;obtain⟨_,y,b1,b2⟩:=aF b _ g;cases b2 with
         |arr=>
          obtain⟨s,a,m⟩:=vu zg q;refine .neutral aF m λd f=>⟨p/\t.sz U=t.sz U/\i<(List.map (t.enc U) l).length,?_,a3 d,rfl,wg (gZ f)⟩
          simp only[dw]at f;have a:=Ha a;simp only[aO,a1,ao,b1];rw[zD f,a];rfl
       . cases h
     . cases h
   . rename_i u B A C z g;split at h
     . cases h
     . split at h
       . rename_i n;split at h
         . rename_i r;cases h;have n:=cV n;have r:=cV r;subst n;obtain⟨p,v1,a1,a2,a3⟩:=cw he al j;have:=a2.jg;subst this;obtain⟨_,y,b1,b2⟩:=aF b _ g;cases b2 with
           |cC _ _ _ _ b2=>
            refine .neutral aF (.c b2) λd f=>⟨p/\t.sz U=u.sz U/\i=A,?_,a3 d,r,gZ f⟩
            simp only[aO,a1,ao,b1];simp
         . cases h
       . rename_i n;have n:=hN n;split at h
         . rename_i l af;have e:=Cell.kC af;cases e;split at h
           . rename_i w q;cases h;obtain⟨p,v1,a1,a2,a3⟩:=cw he al j;have:=a2.jg;subst this;obtain⟨_,y,b1,b2⟩:=aF b _ g;cases b2 with
             |cC _ _ _ _ b2=>
              obtain⟨s,a,m⟩:=vu zg q;refine .neutral aF m λd f=>⟨p/\t.sz U=t.sz U/\i<(List.map (t.enc U) l).length,?_,a3 d,rfl,wg (gZ f)⟩
              simp only[dw]at f;have a:=Ha a;simp only[aO,a1,ao,b1];rw[bx,ak n,zD f,a];rfl
           . cases h
         . cases h
   . cases h
 . rename_i t D o j;split at h
   . rename_i w af;cases h;obtain⟨p,v1,a1,a2,a3⟩:=cw he al j;have:=a2.Fe;subst this;obtain⟨s,a,m⟩:=vu zg af;have a:=Ha a;exact .neutral aF m λd _=>⟨p,by simp[aO,a1,a],a3 d⟩
   . cases h
 . cases h
theorem ahn(h:ct gl gd env J N (.bin op x y)=some (c,v,J')):ea N J J1 (.bin op x y) env1 (cG env G gd) c v J':=by
 simp only[ct]at h;split at h
 . rename_i p q d e;split at h
   . rename_i k r f;cases h;obtain⟨g,v1,a1,a2,a3⟩:=cw he al d;obtain⟨i,l,b1,b2,b3⟩:=cw he al e;have:=a2.w1;subst this;have:=b2.w1;subst this;obtain⟨j,d1,d2⟩:=Y7 f;exact .neutral aF (.c (.t _)) λa b=>⟨g/\i/\j,by simp only[aO,a1,b1,ao,d1];rfl,a3 a,b3 a,d2 b⟩
   . cases h
 . cases h
theorem ab5{ks:a6}(h:ct gl gd env J N (.eqAgg neg ks x y)=some (c,v,J')):ea N J J1 (.eqAgg neg ks x y) env1 (cG env G gd) c v J':=by
 simp only[ct]at h;split at h
 . rename_i p q d e;split at h
   . rename_i r f;cases h;obtain⟨g,v1,a1,a2,a3⟩:=cw he al d;obtain⟨i,k,b1,b2,b3⟩:=cw he al e;obtain⟨ds,rfl,d2⟩:=a2.sb;obtain⟨es,rfl,b⟩:=b2.sb;have:=JX f d2 b;exact .neutral aF (.c (.t (U:=U) ⟨.bool,_⟩)) λa j=>⟨g/\i,by simp only[aO,a1,b1,ao,this];cases neg<;>rfl,a3 a,b3 a⟩
   . cases h
 . cases h
theorem abN(h:ct gl gd env J N (.eqBool neg x y)=some (c,v,J')):ea N J J1 (.eqBool neg x y) env1 (cG env G gd) c v J':=by
 simp only[ct]at h;split at h
 . rename_i p q b d;cases h;obtain⟨e,v1,a1,a2,a3⟩:=cw he al b;obtain⟨f,i,b1,b2,b3⟩:=cw he al d;have:=a2.jt;subst this;have:=b2.jt;subst this;exact .neutral aF (.c (.t (U:=U) ⟨.bool,_⟩)) λa g=>⟨e/\f,by simp only[aO,a1,b1,ao];cases neg<;>rfl,a3 a,b3 a⟩
 . cases h
theorem ac1{sz:Nat}(h:ct gl gd env J N (.idxA sz x y)=some (c,v,J')):ea N J J1 (.idxA sz x y) env1 (cG env G gd) c v J':=by
 simp only[ct]at h;split at h
 . rename_i t l k m g i;split at h
   . rename_i d;have d:=cV d;cases h;obtain⟨j,v1,a1,a2,a3⟩:=cw he al g;obtain⟨o,r,b1,b2,b3⟩:=cw he al i;have:=a2.kr;subst this;have:=b2.gz;subst this;by_cases p:aH m (List.length l)=true
     . obtain⟨h1,f⟩:=tC.1 p;refine .neutral aF (v1:= .c (.dP (el (List.map (t.enc U) l) (Int.toNat m)) 0)) ?_ λa e=>⟨j/\o/\(0:Int)<=m/\Int.toNat m<(List.map (t.enc U) l).length/\(el (List.map (t.enc U) l) (Int.toNat m)).length=sz,by simp only[aO,a1,b1,ao],a3 a,b3 a,h1,wg f,by rw[zD f,aK.su];exact d⟩
       rw[zD f];exact .c (.dP _ _ _)
     . exact .neutral aF (.c (.dP _ _ _)) λa e=>absurd e p
   . cases h
 . rename_i b k m g i;split at h
   . rename_i t l q;split at h
     . rename_i d;have d:=cV d;cases h;obtain⟨j,v1,a1,a2,a3⟩:=cw he al g;obtain⟨o,r,b1,b2,b3⟩:=cw he al i;obtain⟨u,n,rfl,s,a⟩:=a2.hh;have:=b2.gz;subst this;have:=a _ q _ rfl;cases this;refine .neutral aF (.c (.cH _ _ _ _)) λa e=>⟨j/\o/\(0:Int)<=m/\Int.toNat m<l.length/\sz=t.sz U,?_,a3 a,b3 a,(tC.1 e).1,(tC.1 e).2,d.symm⟩
       simp only[aO,a1,b1,ao,gm,d]
     . cases h
   . cases h
 . cases h
theorem ac2(h:ct gl gd env J N (.idxS x y)=some (c,v,J')):ea N J J1 (.idxS x y) env1 (cG env G gd) c v J':=by
 simp only[ct]at h;split at h
 . rename_i s k m d e;cases h;obtain⟨f,v1,a1,a2,a3⟩:=cw he al d;obtain⟨g,i,b1,b2,b3⟩:=cw he al e;have:=a2.kt;subst this;have:=b2.gz;subst this;exact .neutral aF (.c (.t (U:=U) ⟨.int .u8,_⟩)) λb a=>⟨f/\g/\(0:Int)<=m/\Int.toNat m<List.length s,by simp only[aO,a1,b1,ao];rfl,a3 b,b3 b,(tC.1 a).1,(tC.1 a).2⟩
 . cases h
theorem pv{x:Option aP}{l:Option Int}(h:oe gl gd env x=some l):∃p,jX env1 x=some (p,l)/\(cG env G gd=true->p):=by
 unfold oe at h;split at h
 . cases h;exact⟨True,rfl,λ_=>trivial⟩
 . split at h
   . rename_i k n a;cases h;obtain⟨b,v1,a1,a2,a3⟩:=cw he al a;have:=a2.gz;subst this;exact⟨b,by simp only[jX,a1,ao],a3⟩
   . cases h
theorem ac3{d b:Option aP}(h:ct gl gd env J N (.slcS x d b)=some (c,v,J')):ea N J J1 (.slcS x d b) env1 (cG env G gd) c v J':=by
 simp only[ct]at h;split at h
 . rename_i s l r f af g;cases h;obtain⟨j,v1,a1,a2,a3⟩:=cw he al f;obtain⟨pl,i,l2⟩:=pv he al aF af;obtain⟨k,m,n⟩:=pv he al aF g;have:=a2.kt;subst this;exact .neutral aF (.c (.t (U:=U) ⟨.str,_⟩)) λa e=>⟨j/\pl/\k/\0<=l.getD 0/\l.getD 0<=r.getD (List.length s:Int)/\r.getD (List.length s:Int)<=(List.length s:Int),by simp only[aO,a1,i,m,ao];rfl,a3 a,l2 a,n a,iN.1 e⟩
 . cases h
theorem ahw{sz:Nat}{j D:Option aP}(h:ct gl gd env J N (.slc sz x j D)=some (c,v,J')):ea N J J1 (.slc sz x j D) env1 (cG env G gd) c v J':=by
 simp only[ct]at h;split at h
 . rename_i t s l r g af m;split at h
   . rename_i d;have d:=cV d;cases h;obtain⟨o,v1,a1,a2,a3⟩:=cw he al g;obtain⟨pl,C,l2⟩:=pv he al aF af;obtain⟨q,u,w⟩:=pv he al aF m;have:=a2.kr;subst this;refine .neutral aF (.c (.t (U:=U) ⟨.slice t,_⟩)) λf a=>⟨o/\pl/\q/\0<=l.getD 0/\l.getD 0<=r.getD (List.length s:Int)/\r.getD (List.length s:Int)<=(List.length s:Int)/\∀e,e∈List.map (t.enc U) s->e.length=sz,?_,a3 f,l2 f,w f,(iN.1 a).1,(iN.1 a).2.1,(iN.1 a).2.2,?_⟩
     . simp only[aO,a1,C,u,ao];exact acV
     . intro e F;obtain⟨y,_,rfl⟩:=eJ.1 F;rw[aK.su];exact d
   . cases h
 . rename_i b r g af m;split at h
   . rename_i t s z;split at h
     . rename_i d;have d:=cV d;cases h;obtain⟨o,v1,a1,a2,a3⟩:=cw he al g;obtain⟨q,u,w⟩:=pv he al aF m;obtain⟨I,n,rfl,A,f⟩:=a2.hh;have k:=f _ z (t.sz U,s.length) rfl;simp only[bE]at k;obtain⟨rfl,rfl⟩:=k;have B:j=none:=by
        cases j with
        |none=>rfl
        |some x=>simp only[oe]at af;split at af<;>cases af
       subst B;refine .neutral aF (.c (.pre b (t.sz U) _ A λx H p g=>?_)) λi a=>⟨o/\True/\q/\0<=(none:Option Int).getD 0/\(none:Option Int).getD 0<=r.getD (List.length s:Int)/\r.getD (List.length s:Int)<=(List.length s:Int)/\sz=t.sz U,?_,a3 i,trivial,w i,(iN.1 a).1,(iN.1 a).2.1,(iN.1 a).2.2,d.symm⟩
       . grind
       . have E:jX env1 none=some (True,none):=rfl;simp only[aO,a1,E,u,ao];rfl
     . cases h
   . cases h
 . rename_i b l r g af m;split at h
   . rename_i t s z;split at h
     . rename_i d;have d:=cV d;cases h;obtain⟨o,v1,a1,a2,a3⟩:=cw he al g;obtain⟨pl,C,l2⟩:=pv he al aF af;obtain⟨q,u,w⟩:=pv he al aF m;obtain⟨I,n,rfl,A,f⟩:=a2.hh;have k:=f _ z (t.sz U,s.length) rfl;simp only[bE]at k;obtain⟨rfl,rfl⟩:=k;have B:j.isNone=false:=by
        cases j with
        |none=>simp[oe]at af
        |some x=>rfl
       refine .neutral aF (.c (.dI b (t.sz U) _ _ A λx H p g=>?_)) λi a=>⟨o/\pl/\q/\0<=(some l:Option Int).getD 0/\(some l:Option Int).getD 0<=r.getD (List.length s:Int)/\r.getD (List.length s:Int)<=(List.length s:Int)/\sz=t.sz U,?_,a3 i,l2 i,w i,(iN.1 a).1,(iN.1 a).2.1,(iN.1 a).2.2,d.symm⟩
       . grind
       . simp only[aO,a1,C,u,ao,B,bV,b7,gm];rfl
     . cases h
   . cases h
 . cases h
theorem ac4(h:ct gl gd env J N (.slc0 x)=some (c,v,J')):ea N J J1 (.slc0 x) env1 (cG env G gd) c v J':=by
 simp only[ct]at h;split at h
 . rename_i t l d;cases h;obtain⟨p,v1,a1,a2,a3⟩:=cw he al d;have:=a2.kr;subst this;exact .neutral aF (.c .aB) λa _=>⟨p,by simp[aO,a1],a3 a⟩
 . rename_i d;cases h;obtain⟨p,v1,a1,a2,a3⟩:=cw he al d;have:=a2.uV;subst this;exact .neutral aF (.c .aB) λa _=>⟨p,by simp[aO,a1],a3 a⟩
 . rename_i b d;cases h;obtain⟨p,v1,a1,a2,a3⟩:=cw he al d;obtain⟨sz,n,rfl,_⟩:=a2.hh;exact .neutral aF (.c .aB) λa _=>⟨p,by simp[aO,a1],a3 a⟩
 . cases h
theorem JY:∀{vs:List (bB U)} {ds:List V} {l:a6},AQ vs=some l->a' (ca N J) vs ds->aO.si ds=some l
 |[],[],l,h,.nil=>by simp[AQ]at h;subst h;rfl
 |.c (.ptr b 0)::vs,d::ds,l,h,.cons h1 a=>by
  simp only[AQ]at h;split at h
  . rename_i e af;cases h;have:=h1.hY;subst this;simp[aO.si,JY af a]
  . cases h
theorem ac5{f:Nat}{caps:List aP}(h:ct gl gd env J N (.mkfn f caps)=some (c,v,J')):ea N J J1 (.mkfn f caps) env1 (cG env G gd) c v J':=by
 simp only[ct]at h;split at h
 . rename_i vs b;split at h
   . rename_i l af;cases h;obtain⟨p,ds,a1,a2,a3⟩:=tl he al b;exact .neutral aF (.c (.fn _ _)) λa _=>⟨p,by simp[aO,a1,JY he al aF af a2],a3 a⟩
   . cases h
 . cases h
theorem ahp{i:Nat}(h:ct gl gd env J N (.ext x i)=some (c,v,J')):ea N J J1 (.ext x i) env1 (cG env G gd) c v J':=by
 simp only[ct]at h;split at h
 . rename_i vs e;split at h
   . rename_i w b;cases h;obtain⟨p,v1,a1,a2,a3⟩:=cw he al e;cases a2 with
     |aY _ ds af d=>
      have f:=(c5.1 b).1;have a:=eI (l:=ds) (i:=i) (by omega);exact .neutral aF (d i _ _ b a) λal _=>⟨p,by simp only[aO,a1,ao,a,gk],a3 al⟩
   . cases h
 . cases h
theorem ac6(h:ct gl gd env J N (.max2 x y)=some (c,v,J')):ea N J J1 (.max2 x y) env1 (cG env G gd) c v J':=by
 simp only[ct]at h;split at h
 . rename_i k a l b e f;simp only[dE,bI,bE]at h;obtain⟨rfl,rfl,rfl,rfl⟩:=h;obtain⟨g,v1,a1,a2,a3⟩:=cw he al e;obtain⟨i,m,b1,b2,b3⟩:=cw he al f;have:=a2.gz;subst this;have:=b2.gz;subst this;exact .neutral aF (.c (.t (U:=U) ⟨.int k,_⟩)) λd j=>⟨g/\i,by simp only[aO,a1,b1,ao,bS];rfl,a3 d,b3 d⟩
 . cases h
theorem ac7(h:ct gl gd env J N (.min2 x y)=some (c,v,J')):ea N J J1 (.min2 x y) env1 (cG env G gd) c v J':=by
 simp only[ct]at h;split at h
 . rename_i k a l b e f;simp only[dE,bI,bE]at h;obtain⟨rfl,rfl,rfl,rfl⟩:=h;obtain⟨g,v1,a1,a2,a3⟩:=cw he al e;obtain⟨i,m,b1,b2,b3⟩:=cw he al f;have:=a2.gz;subst this;have:=b2.gz;subst this;exact .neutral aF (.c (.t (U:=U) ⟨.int k,_⟩)) λd j=>⟨g/\i,by simp only[aO,a1,b1,ao,bS];rfl,a3 d,b3 d⟩
 . cases h
theorem ab6{parts:List (Nat×Nat×aP)}(h:ct gl gd env J N (.build z parts)=some (c,v,J')):ea N J J1 (.build z parts) env1 (cG env G gd) c v J':=by
 simp only[ct]at h;split at h
 . rename_i e d;split at h
   . rename_i cs a;cases h;obtain⟨p,ds,a1,a2,a3⟩:=Tt he al a (th d);exact .neutral aF (.agg a2) λb _=>⟨p,by simp[aO,a1],a3 b⟩
   . cases h
 . cases h
theorem ab7{cs:List C}(h:ct gl gd env J N (.alloc cs)=some (c,v,J')):ea N J J1 (.alloc cs) env1 (cG env G gd) c v J':=by
 simp only[ct]at h;split at h
 . rename_i xs a;cases h;have k:dr N J (N+16) (cE J N (.box xs)):=lS;exact .store rfl k (.c (.ptr _ _)) λb _=>⟨True,_,rfl,trivial,aF.put (by omega) k (.box (th a))⟩
 . cases h
theorem aho(h:ct gl gd env J N (.box x)=some (c,v,J')):ea N J J1 (.box x) env1 (cG env G gd) c v J':=by
 simp only[ct]at h;split at h
 . rename_i w d;split at h
   . rename_i cs a;cases h;obtain⟨p,v1,a1,a2,a3⟩:=cw he al d;obtain⟨ds,b1,b2⟩:=p6 a2 a;have k:dr N J (N+16) (cE J N (.box cs)):=lS;exact .store rfl k (.c (.ptr _ _)) λb _=>⟨p,_,by simp only[aO,a1,ao,b1,gk],a3 b,aF.put (by omega) k (.box (b2.imp λ_ _ _=>cl.mono k))⟩
   . cases h
 . cases h
theorem abO{sz len:Nat}{parts:List (Nat×aP)}(h:ct gl gd env J N (.bslice sz len z parts)=some (c,v,J')):ea N J J1 (.bslice sz len z parts) env1 (cG env G gd) c v J':=by
 simp only[ct]at h;split at h
 . rename_i m j;split at h
   . cases h
   . rename_i ts f;split at h
     . cases h
     . rename_i b;have b:=cV b;split at h
       . rename_i rows a;cases h;have l:=th (N:=N) (J:=J) j;obtain⟨p,es,a1,a2,a4,a3⟩:=GN he al a (es:=List.replicate len ts) (a'.replicate (R:=λr e=>hZ r=some e) f len) (by intro r a;rw[BL a];exact b);have k:dr N J (N+16) (cE J N (.rows sz rows)):=lS;refine .store rfl k (.c (.arr N sz es.length (by omega) ?_)) λi _=>⟨p,_,by simp only[aO,DM l f,ao,a1,gk];rw[S' a1,List.length_replicate],a3 i,aF.put (by omega) k (.rows a2 a4)⟩
         intro x g q d;rw[hU,ae rfl]at g;cases g;simp only[cR.de,bI]at d;rw[<-d,a2.length]
       . cases h
 . cases h
omit he al aF in
theorem aaX(h:toTs ds=some ts):yQ ds=none:=by
 unfold yQ;split
 . simp[toTs,toT]at h
 . rfl
omit he al aF in
theorem abP{J1:a7}{w:bB U}{d:V}(h:ca N J w d)(e:∀b a len,w≠.c (.dI b a len))(f:∀b a len,w≠.c (.sub b a len))(g:w≠.c .dead):m' v1 d=none:=by
 unfold m';split
 . cases h with
   |c h=>
    cases h with
    |sub b a len=>exact absurd rfl (f _ _ _)
    |dI b sz a len=>exact absurd rfl (e _ _ _)
    |dead d=>exact absurd rfl g
 . rfl
theorem ab8{k:Nat}(h:ct gl gd env J N (.store k x y)=some (c,v,J')):ea N J J1 (.store k x y) env1 (cG env G gd) c v J':=by
 simp only[ct]at h;split at h
 . rename_i b o w j B;split at h
   . rename_i cs s;split at h
     . rename_i u;have u:=cV u;split at h
       . rename_i ds F;split at h
         . rename_i V;have V:=h' V;cases h;obtain⟨p,v1,a1,a2,a3⟩:=cw he al j;obtain⟨q,O,b1,b2,b3⟩:=cw he al B;have:=a2.hY;subst this;obtain⟨es,g,d⟩:=p6 b2 s;obtain⟨D,z,d1,d2⟩:=aF b _ F;cases d2 with
           | @box _ fs d2=>
            have a:dr N J (N+16) (cE J b (.box (w5 ds o cs))):=nN (by omega) F (λp h=>by simp[cR.de]at h);refine .store rfl a (.aY [] [] rfl (by simp)) λf _=>⟨p/\q,_,?_,⟨a3 f,b3 f⟩,aF.put (by omega) a (.box (HI (d2.imp λ_ _ _=>cl.mono a) (d.imp λ_ _ _=>cl.mono a)))⟩
            simp only[aO,a1,b1,ao,g];rw[ae (by rw[<-d.length];exact u),d1];dsimp only;rw[ae (by rw[<-d2.length];exact V)]
         . cases h
       . rename_i E P F;split at h
         . rename_i P _;cases h;obtain⟨p,v1,a1,a2,a3⟩:=cw he al j;obtain⟨q,O,b1,b2,b3⟩:=cw he al B;have:=a2.hY;subst this;obtain⟨es,g,d⟩:=p6 b2 s;obtain⟨D,z,d1,d2⟩:=aF b _ F;cases d2 with
           |b8 d2=>
            cases d with|cons d n=>
            cases n;have a:dr N J (N+16) (cE J b (.b8 E P)):=nN (by omega) F (λp h=>by simp[cR.de]at h);refine .store rfl a (.aY [] [] rfl (by simp)) λf _=>⟨p/\q,_,?_,⟨a3 f,b3 f⟩,aF.put (by omega) a (.b8 (d.mono a))⟩
            simp only[aO,a1,b1,ao,g];grind
         . cases h
       . cases h
     . cases h
   . cases h
 . rename_i b t i o w j B;split at h
   . rename_i cs s;split at h
     . rename_i u;simp only[cd]at u;have C:=cV u.1;have I:=h' u.2;split at h
       . rename_i S X m;split at h
         . rename_i l af;have e:=Cell.kC af;cases e;split at h
           . rename_i Q R;cases h;obtain⟨rfl,T,rfl⟩:cs=[Q]/\∃T,Q= .arr T:=by
              unfold R8 at R;split at R<;>cases R;exact⟨rfl,_,rfl⟩
             obtain⟨p,v1,a1,a2,a3⟩:=cw he al j;obtain⟨q,O,b1,b2,b3⟩:=cw he al B;have:=a2.jg;subst this;obtain⟨es,g,d⟩:=p6 b2 s;cases d with|cons d n=>
             cases n;have aa:=d;cases d with|arr _ an am ai aj=>
             obtain⟨D,z,d1,d2⟩:=aF b _ m;cases d2 with
             |arr=>
              have a:dr N J (N+16) (cE J b (.cC t l i o (.arr T))):=nN (by omega) m (λp h=>by simpa[cR.de]using h);refine .store rfl a (.aY [] [] rfl (by simp)) λf r=>⟨p/\q/\t.sz U=t.sz U/\i<(List.map (t.enc U) l).length/\o+k<=t.sz U,_,?_,⟨a3 f,b3 f,rfl,wg (gZ r),I⟩,aF.put (by omega) a (.cC t l i o (aa.mono a))⟩
              simp only[aO,a1,b1,ao,g];rw[ae (by simpa using C)];simp only[d1,yQ]
           rename_i R;split at h
           . rename_i l2 K;cases h;obtain⟨p,v1,a1,a2,a3⟩:=cw he al j;obtain⟨q,O,b1,b2,b3⟩:=cw he al B;have:=a2.jg;subst this;obtain⟨es,g,d⟩:=p6 b2 s;obtain⟨D,z,d1,d2⟩:=aF b _ m;cases d2 with
             |arr=>
              have ad:l2.length=List.length l:=by
               unfold r4 at K;grind
              have a:dr N J (N+16) (cE J b (.arr t l2)):=nN (by omega) m (λp h=>by
               simp only[cR.de]at h⊢
               grind)
              refine .store rfl a (.aY [] [] rfl (by simp)) λf r=>?_;have H:i<List.length l:=gZ r;obtain⟨ts,aI,ab⟩:=Hn K H d (by rw[C];exact I);refine⟨p/\q/\t.sz U=t.sz U/\i<(List.map (t.enc U) l).length/\o+k<=t.sz U,_,?_,⟨a3 f,b3 f,rfl,wg H,I⟩,aF.put (by omega) a (.arr t l2)⟩;simp only[aO,a1,b1,ao,g];rw[ae (by rw[<-d.length];exact C),d1];dsimp only;rw[aaX aI];grind
           . cases h
         . cases h
       . rename_i S X L Z P m;split at h
         . rename_i Q;split at h
           . rename_i A;split at h
             . rename_i W;cases h;have A:=cV A;have W:=cV W;subst A;obtain⟨p,v1,a1,a2,a3⟩:=cw he al j;obtain⟨q,O,b1,b2,b3⟩:=cw he al B;have:=a2.jg;subst this;obtain⟨es,g,d⟩:=p6 b2 s;cases d with|cons d n=>
               cases n;obtain⟨D,z,d1,d2⟩:=aF b _ m;cases d2 with
               |cC _ _ _ _ d2=>
                have a:dr N J (N+16) (cE J b (.cC S X L o Q)):=nN (by omega) m (λp h=>by simpa[cR.de]using h);refine .store rfl a (.aY [] [] rfl (by simp)) λf r=>⟨p/\q/\t.sz U=S.sz U/\i=L,_,?_,⟨a3 f,b3 f,W,gZ r⟩,aF.put (by omega) a (.cC S X L o (d.mono a))⟩
                simp only[aO,a1,b1,ao,g];rw[ae (by simpa using C),d1];dsimp only;rw[ae rfl]
             . cases h
           . rename_i A;have A:=hN A;split at h
             . rename_i l af;have e:=Cell.kC af;cases e;split at h
               . rename_i l2 K;cases h;obtain⟨p,v1,a1,a2,a3⟩:=cw he al j;obtain⟨q,O,b1,b2,b3⟩:=cw he al B;have:=a2.jg;subst this;obtain⟨es,g,d⟩:=p6 b2 s;obtain⟨D,z,d1,d2⟩:=aF b _ m;cases d2 with
                 |cC _ _ _ _ d2=>
                  have ad:l2.length=List.length l:=by
                   unfold r4 at K;grind
                  have a:dr N J (N+16) (cE J b (.cC t l2 L Z P)):=nN (by omega) m (λp h=>by
                   simp only[cR.de]at h⊢
                   grind)
                  refine .store rfl a (.aY [] [] rfl (by simp)) λf r=>?_;have H:i<List.length l:=gZ r;obtain⟨ts,aI,ab⟩:=Hn K H d (by rw[C];exact I);cases d with| @cons _ Y _ _ d n=>
                  cases n;obtain⟨M,ag,ah⟩:∃M,Shv.toT Y=some M/\ts=[M]:=by
                   simp only[toTs]at aI;cases j:Shv.toT Y with
                   |none=>rw[j]at aI;simp at aI
                   |some M=>rw[j]at aI;simp at aI;exact⟨M,rfl,aI.symm⟩
                  refine⟨p/\q/\t.sz U=t.sz U/\i<(List.map (t.enc U) l).length/\o+k<=t.sz U,_,?_,⟨a3 f,b3 f,rfl,wg H,I⟩,aF.put (by omega) a (.cC t l2 L Z (d2.mono a))⟩;simp only[aO,a1,b1,ao,g];rw[ae (by simpa using C),d1];dsimp only;rw[ak A,ag];subst ah;grind
               . cases h
             . cases h
         . cases h
       . cases h
     . cases h
   . cases h
 . cases h
inductive ky:fR U->List (List T)->Prop
 |ty (t:aK) (l:List (t.den U.D)):ky (.ty t l) (l.map (t.enc U))
 |rows {r es}:a' (λr e=>hZ r=some e) r es->ky (.rows r) es
 |nil:ky .nil []
omit he al aF in
theorem ky.length{e:fR U}(h:ky e es):es.length=e.len:=by
 cases h with
 |ty t l=>simp[fR.len]
 |rows h=>simp[fR.len,h.length]
 |nil=>rfl
omit he al aF in
theorem HJ:∀{xs:List (bl U)} {dc:List aK} {e:List T} {row:List (Cell U.D)},iM dc xs=some row->hZ xs=some e->e=row.map (Cell.enc U)
 |[],dc,e,row,h1,a=>by
  cases dc<;>simp[iM]at h1;simp[hZ]at a;grind
 |y::ys,[],e,row,h1,a=>by cases y<;>simp[iM]at h1
 |y::ys,ty::dc,e,row,h1,a=>by
  simp only[hZ]at a;split at a
  . rename_i t ts ht d;cases a;cases y with
    |t c=>
     simp only[bl.toT]at ht;split at ht
     . cases ht
     . cases ht;cases ty<;>simp only[iM]at h1<;>(split at h1<;>first|(cases h1;done)|(rename_i q b;cases h1;rw[HJ b d];rfl))
    |aB=>
     simp only[bl.toT,bI]at ht;subst ht;cases ty<;>simp only[iM,reduceCtorEq]at h1;split at h1
     . rename_i q b;cases h1;rw[HJ b d];rfl
     . cases h1
    |_=>simp[bl.toT]at ht
  . cases a
omit he al aF in
theorem ac8{r:List (bl U)}{x:t.den U.D}{e:List T}(h:ql U t r=some x)(he:hZ r=some e):t.enc U x=e:=by
 unfold ql at h;split at h
 . rename_i row a;rw[aK.u3,aK.Fl h,HJ a he]
 . cases h
omit he al aF in
theorem vT{t:aK}:∀{r:List (List (bl U))} {l:List (t.den U.D)} {es:List (List T)},mf U t r=some l->a' (λr e=>hZ r=some e) r es->l.map (t.enc U)=es
 |[],l,es,h,a=>by cases a;simp[mf]at h;subst h;rfl
 |r::d,l,_::_,h,.cons h1 a=>by
  simp only[mf]at h;split at h
  . rename_i x xs b c;cases h;rw[fu,ac8 b h1,vT c a]
  . cases h
omit he al aF in
theorem ky.as{t:aK}{e:fR U}{es:List (List T)}{l:List (t.den U.D)}(h:ky e es)(a:e.as t=some l):l.map (t.enc U)=es:=by
 cases h with
 |ty u c=>
  simp only[fR.as]at a;have:=Cell.kC a;grind
 |rows h=>exact vT a h
 |nil=>simp[fR.as]at a;subst a;rfl
omit he al aF in
theorem ky.join{x y z:fR U}{es fs:List (List T)}(f:ky x es)(c:ky y fs)(h:x.join y=some z):ky z (es++fs):=by
 cases f with
 |nil=>simp[fR.join]at h;subst h;exact c
 |ty t l=>
  simp only[fR.join]at h;split at h
  . rename_i j af;cases h;rw[<-c.as af,<-qf];exact .ty t _
  . cases h
 |rows a=>
  cases c with
  |ty t l=>
   simp only[fR.join]at h;split at h
   . rename_i j af;cases h;rw[<-vT af a,<-qf];exact .ty t _
   . cases h
  |rows e=>simp[fR.join]at h;subst h;exact .rows (a.append e)
  |nil=>simp[fR.join]at h;subst h;rw[l4];exact .rows a
omit he al aF in
theorem ky.blk{e:fR U}{es:List (List T)}{sz:Nat}{b:cR U}(h:ky e es)(a:e.blk sz=some b):h2 N' J' b (.arr sz es)/\(∀x,x∈es->x.length=sz)/\b.de=some (sz,e.len):=by
 cases h with
 |ty t l=>
  simp only[fR.blk]at a;split at a
  . rename_i hs;have:=cV hs;subst this;cases a;refine⟨.arr t l,λx c=>?_,rfl⟩;obtain⟨y,_,rfl⟩:=eJ.1 c;exact aK.su
  . cases a
 | @rows r es f=>
  simp only[fR.blk]at a;split at a
  . rename_i hs;cases a;simp only[c0]at hs;refine⟨.rows f λx c=>cV (hs x c),λx c=>?_,rfl⟩;obtain⟨i,o,rfl⟩:=e5 c;obtain⟨y,h1,j⟩:=(f.flip (R':=λe r=>hZ r=some e) λ_ _ h=>h).get (eI o);rw[Hm j];exact cV (hs y (eM h1))
  . cases a
 |nil=>
  simp only[fR.blk,bI]at a;subst a;exact⟨.rows .nil (by simp),by simp,rfl⟩
omit he al in
theorem Hb{e:fR U}{f:Option Nat}(c:ca N J v v1)(h:r1 J v=some (e,f)):∃es,mg J1 v1=some (es,f)/\ky e es:=by
 unfold r1 at h;split at h
 . rename_i t l;cases h;have:=c.kr;subst this;exact⟨_,rfl,.ty t l⟩
 . cases h;have:=c.uV;subst this;exact⟨_,rfl,.nil⟩
 . rename_i b;obtain⟨sz,n,rfl,i,d⟩:=c.hh;split at h
   . rename_i t l af;cases h;obtain⟨_,y,h1,a⟩:=aF b _ af;cases a;have:=d _ af _ rfl;cases this;exact⟨_,by simp[mg,h1],.ty t l⟩
   . rename_i j r af;cases h;obtain⟨_,y,h1,a⟩:=aF b _ af;cases a with
     |rows a g=>
      have:=d _ af _ rfl;cases this;exact⟨_,by simp[mg,h1,a.length],.rows a⟩
   . cases h
 . cases h
theorem ahs{str:Bool}(h:ct gl gd env J N (.len str x)=some (c,v,J')):ea N J J1 (.len str x) env1 (cG env G gd) c v J':=by
 simp only[ct]at h;split at h
 . rename_i s d;cases h;obtain⟨p,v1,a1,a2,a3⟩:=cw he al d;have:=a2.kt;subst this;exact .neutral aF (.c (.t (U:=U) ⟨.int .i64,_⟩)) λa _=>⟨p,by simp only[aO,a1,ao];rfl,a3 a⟩
 . rename_i b d;split at h
   . rename_i E s g;cases h;obtain⟨p,v1,a1,a2,a3⟩:=cw he al d;obtain⟨n,rfl,_,f⟩:=a2.Bb;have:=f _ g _ rfl;cases this;exact .neutral aF (.c (.t (U:=U) ⟨.int .i64,_⟩)) λa _=>⟨p,by simp only[aO,a1,ao];rfl,a3 a⟩
   . cases h
 . rename_i w d;split at h
   . rename_i e dD;obtain⟨e,i⟩:=e;cases h;obtain⟨p,v1,a1,a2,a3⟩:=cw he al d;refine .neutral aF (.c (.t (U:=U) ⟨.int .i64,_⟩)) λa _=>⟨p,?_,a3 a⟩
     unfold r1 at dD;split at dD
     . rename_i t l;cases dD;have:=a2.kr;subst this;simp only[aO,a1,ao];exact acW
     . cases dD;have:=a2.uV;subst this;simp only[aO,a1,ao];rfl
     . rename_i b;obtain⟨sz,n,rfl,g,f⟩:=a2.hh;simp only[aO,a1,ao];split at dD
       . rename_i t l af;cases dD;have:=f _ af _ rfl;cases this;rfl
       . rename_i j r af;cases dD;have:=f _ af _ rfl;cases this;rfl
       . cases dD
     . cases dD
   . cases h
 . cases h
omit he al aF in
theorem IP{bytes n:Nat}:room bytes n=true↔(2*n+192)*bytes<=kf/\n<=eH:=by simp[room]
omit he al aF in
theorem D7{bytes n:Nat}(h:room bytes n=true):lH n bytes/\n<=eH:=⟨.inl (IP.1 h).1,(IP.1 h).2⟩
theorem abQ{sz bytes:Nat}(h:ct gl gd env J N (.append sz bytes x y)=some (c,v,J')):ea N J J1 (.append sz bytes x y) env1 (cG env G gd) c v J':=by
 simp only[ct]at h;split at h
 . rename_i w d u;split at h
   . rename_i ab ap C;split at h
     . rename_i blk M;cases h;obtain⟨p,v1,a1,a2,a3⟩:=cw he al d;obtain⟨q,D,b1,b2,b3⟩:=cw he al u;have:=a2.uV;subst this;obtain⟨ys,E,o⟩:=Hb aF b2 C;have k:dr N J (N+16) (cE J N blk):=lS;obtain⟨d1,d2,d3⟩:=o.blk (N':=N+16) (J':=cE J N blk) M;refine .store rfl k (.c (.arr N sz ys.length (by omega) ?_)) λj m=>⟨p/\q/\(∀e,e∈ys->e.length=sz)/\lH ys.length bytes/\ys.length<=eH,_,by simp only[aO,a1,b1,ao,show m' (.c .aB) D=none from rfl,E],⟨a3 j,b3 j,d2,?_⟩,aF.put (by omega) k d1⟩
       . intro x d r f;rw[hU,ae rfl]at d;cases d;rw[d3]at f;cases f;rw[o.length]
       . rw[o.length];exact D7 m
     . cases h
   . cases h
 . rename_i b w d u;split at h
   . rename_i ar xb ab aa W C;split at h
     . cases h
     . rename_i am;split at h
       . cases h
       . rename_i s;split at h
         . rename_i au Z;split at h
           . rename_i blk M;cases h;obtain⟨p,v1,a1,a2,a3⟩:=cw he al d;obtain⟨q,D,b1,b2,b3⟩:=cw he al u;obtain⟨g,Q,V,ag,R⟩:=a2.hh;subst V;obtain⟨ys,E,o⟩:=Hb aF b2 C;obtain⟨xs,aI,B⟩:=Hb aF a2 W;have a:=B.join o Z;have A:dr N (dl J b) (N+16) (cE (dl J b) N blk):=lS;have k:dr N J (N+16) (cE (dl J b) N blk):=dr.trans tv A;obtain⟨d1,d2,d3⟩:=a.blk (N':=N+16) (J':=cE (dl J b) N blk) M;obtain⟨hs,aE⟩:aV J1 b=some (.arr g xs)/\Q=xs.length:=by
              simp only[mg]at aI;grind
             have T:g=sz:=by
              unfold Sz at s;split at s
              . rename_i z a;split at s
                . rename_i r f;have:=R _ a _ f;simp_all
                . cases s
              . cases s
             subst T;have I:cv N (dl J b) (il J1 b):=by
              intro i z a;rw[oj]at a;split at a
              . cases a
              . rename_i L;obtain⟨h1,y,F,H⟩:=aF i z a;exact⟨h1,y,by rw[fU,ak L];exact F,H.mono tv⟩
             have an:aa≠some b:=by
              intro e;simp_all
             refine .store rfl k (.c (.arr N g (xs++ys).length (by omega) ?_)) λj m=>⟨p/\q/\g=g/\g=g/\0=0/\Q=xs.length/\(∀e,e∈ys->e.length=g)/\lH (xs.length+ys.length) bytes/\xs.length+ys.length<=eH,_,?_,⟨a3 j,b3 j,rfl,rfl,rfl,aE,λe he=>d2 e (by simp[he]),?_⟩,I.put (by omega) A d1⟩
             . intro x d r f;rw[hU,ae rfl]at d;cases d;rw[d3]at f;cases f;rw[a.length]
             . have P:m' (.c (.arr b g 0 Q)) D=none:=by
                refine abP (J1:=J1) b2 ?_ ?_ ?_<;>(intros;rintro rfl;simp[r1]at C)
               simp only[aO,a1,b1,ao,P,E,hs];grind
             . have:=D7 m;rw[<-a.length,cJ]at this;exact this
           . cases h
         . cases h
   . cases h
 . rename_i b h0 ad n len d u;split at h
   . rename_i K;have K:=cV K;subst K;split at h
     . rename_i t l af;split at h
       . rename_i O;have O:=cV O;cases h;obtain⟨p,v1,a1,a2,a3⟩:=cw he al d;obtain⟨q,D,b1,b2,b3⟩:=cw he al u;cases a2 with|c a2=>
         cases a2 with|pre _ s1 _ ah X=>
         cases b2 with|c b2=>
         cases b2 with|dI _ aq _ _ ai Y=>
         have aI:=X _ af _ rfl;have B:=Y _ af _ rfl;dsimp only at aI B;subst aI B;obtain⟨aj,z,d1,d2⟩:=aF b _ af;cases d2 with
         |arr=>
          have A:dr N (dl J b) (N+16) (cE (dl J b) N (.arr t (l.take h0++(l.drop n).take len))):=lS;have k:dr N J (N+16) (cE (dl J b) N (.arr t (l.take h0++(l.drop n).take len))):=dr.trans tv A;have I:cv N (dl J b) (il J1 b):=by
           intro i z a;rw[oj]at a;split at a
           . cases a
           . rename_i L;obtain⟨h1,y,F,H⟩:=aF i z a;exact⟨h1,y,by rw[fU,ak L];exact F,H.mono tv⟩
          refine .store rfl k (.c (.arr N (t.sz U) (l.take h0++(l.drop n).take len).length (by omega) ?_)) λj m=>?_
          . intro x d r f;rw[hU,ae rfl]at d;cases d;simp only[cR.de,bI]at f;exact f.symm
          . simp only[cd,dw]at m;have S:(l.take h0++(l.drop n).take len).length=h0+len:=by simp;omega
            refine⟨p/\q/\t.sz U=t.sz U/\t.sz U=t.sz U/\t.sz U=t.sz U/\0=0/\h0+len<=(l.map (t.enc U)).length/\n+len<=(l.map (t.enc U)).length,_,?_,⟨a3 j,b3 j,rfl,rfl,rfl,rfl,by simpa using m.1,by simpa using m.2⟩,I.put (by omega) A (.arr t _)⟩;have P:m' (.c (.arr b (t.sz U) 0 h0)) (.c (.fE b (t.sz U) n len))=some (b,t.sz U,0,h0,t.sz U,n,len):=(by simp[m']);simp only[aO,a1,b1,ao,P,uT,d1,S,qf,yz,BY];subst O;simp
       . cases h
     . cases h
   . cases h
 . cases h
omit he al aF in
theorem JZ{t:aK}(ht:t.xR=false):∀{xs:List (bl U)} {ds:List C} {l:List (t.den U.D)},a' (cl N J) xs ds->AZ t xs=some l->∃ts,toTs ds=some ts/\ts.map (λx=>[x])=l.map (t.enc U)
 |[],[],l,_,h=>by simp[AZ]at h;subst h;exact⟨[],rfl,rfl⟩
 |x::xs,d::ds,l,.cons h1 b,h=>by
  unfold AZ at h;split at h
  . grind
  . rename_i c r g;cases g;split at h
    . rename_i y m e i;cases h;obtain⟨ts,aI,a⟩:=JZ ht b i;cases h1;have f:=Cell.kC e;subst f;refine⟨Cell.enc U ⟨t,y⟩::ts,by simp[toTs,aI,toT],?_⟩;rw[fu,a,fu]
      congr 1
      cases t<;>first|rfl|cases ht
    . cases h
  . cases h
theorem abR{cs:List C}(h:ct gl gd env J N (.allocA cs)=some (c,v,J')):ea N J J1 (.allocA cs) env1 (cG env G gd) c v J':=by
 simp only[ct]at h;split at h
 . rename_i xs e;split at h
   . rename_i t l af;cases h;unfold Oe at af;split at af
     . rename_i a r;split at af
       . rename_i b ht hs;cases af;obtain⟨ts,aI,d⟩:=JZ ht (th (N:=N) (J:=J) e) hs;have k:dr N J (N+16) (cE J N (.arr a.ty b)):=lS;refine .store rfl k (.c (.ptr _ _)) λf _=>⟨True,_,by simp only[aO,aI,gk,d];rfl,trivial,aF.put (by omega) k ?_⟩
         have g:a.ty.sz U=1:=by
          generalize a.ty=t0 at ht;cases t0<;>first|rfl|cases ht
         have:=h2.arr (N:=N+16) (J:=cE J N (.arr a.ty b)) a.ty b;grind
       . cases af
     . cases af
   . cases h
 . cases h
theorem ac9{k:Nat}(h:ct gl gd env J N (.idxP k x y)=some (c,v,J')):ea N J J1 (.idxP k x y) env1 (cG env G gd) c v J':=by
 simp only[ct]at h;split at h
 . rename_i b kk m f g;split at h
   . rename_i t l n;split at h
     . rename_i a;have a:=cV a;cases h;obtain⟨i,v1,a1,a2,a3⟩:=cw he al f;obtain⟨j,o,b1,b2,b3⟩:=cw he al g;have:=a2.hY;subst this;have:=b2.gz;subst this;refine .neutral aF (.c (.cH _ _ _ _)) λe d=>⟨i/\j/\(0:Int)<=m/\Int.toNat m<k,?_,a3 e,b3 e,(tC.1 d).1,(tC.1 d).2⟩
       simp only[aO,a1,b1,ao,a];rfl
     . cases h
   . cases h
 . cases h
theorem ac'{k:Nat}{e d:Option aP}(h:ct gl gd env J N (.slcP k x e d)=some (c,v,J')):ea N J J1 (.slcP k x e d) env1 (cG env G gd) c v J':=by
 simp only[ct]at h;split at h
 . rename_i b l r g af i;cases h;obtain⟨m,v1,a1,a2,a3⟩:=cw he al g;obtain⟨pl,j,l2⟩:=pv he al aF af;obtain⟨n,o,p⟩:=pv he al aF i;have:=a2.hY;subst this;exact .neutral aF (.c (.sub _ _ _)) λa f=>⟨m/\pl/\n/\0<=l.getD 0/\l.getD 0<=r.getD (k:Int)/\r.getD (k:Int)<=(k:Int),by simp only[aO,a1,j,o,ao],a3 a,l2 a,p a,iN.1 f⟩
 . cases h
omit he al aF in
theorem CM:∀(l:aq),bytesOf (List.map ((aK.int .u8).enc U) l)=some (strOf l)
 |[]=>rfl
 |m::l=>by
  have:=CM l;show bytesOf ([T.int .u8 m]::_)=_;simp only[bytesOf,this];rfl
omit he al aF in
theorem ab9{b len:Nat}{s:aj}(h:aV J1 b=some (.arr 1 es))(hs:bytesOf ((es.drop off).take len)=some s):nn J1 (.c (.arr b 1 off len))=some (off+len<=es.length,s):=by simp[nn,h,hs]
omit he al aF in
theorem ab'{b len:Nat}{s:aj}(h:aV J1 b=some (.arr 1 es))(hs:bytesOf ((es.drop off).take len)=some s):nn J1 (.c (.fE b 1 off len))=some (off+len<=es.length,s):=by simp[nn,h,hs]
omit he al aF in
theorem aaY{s:aj}(hs:bytesOf es=some s):nn J1 (.c (.t (.slice es)))=some (True,s):=by simp[nn,hs]
theorem ahm(h:ct gl gd env J N (.b2s x)=some (c,v,J')):ea N J J1 (.b2s x) env1 (cG env G gd) c v J':=by
 simp only[ct]at h;split at h
 . rename_i l d;cases h;obtain⟨f,v1,a1,a2,a3⟩:=cw he al d;have:=a2.kr;subst this
   exact .neutral aF (.c (.t (U:=U) ⟨.str,_⟩)) λa j=>⟨f/\True,by
    simp only[aO,a1,ao]
    exact(dX (Option.map _) (aaY (J1:=J1) (CM (U:=U) l))).trans rfl,a3 a,trivial⟩
 . rename_i d;cases h;obtain⟨f,v1,a1,a2,a3⟩:=cw he al d;have:=a2.uV;subst this;exact .neutral aF (.c (.t (U:=U) ⟨.str,_⟩)) λa j=>⟨f/\True,by simp only[aO,a1,ao,nn,gk];rfl,a3 a,trivial⟩
 . rename_i b d;split at h
   . rename_i l i;cases h;obtain⟨f,v1,a1,a2,a3⟩:=cw he al d;obtain⟨p,n,rfl,o,a⟩:=a2.hh;have:=a _ i _ rfl;cases this;obtain⟨_,y,m,k⟩:=aF _ _ i;cases k;refine .neutral aF (.c (.t (U:=U) ⟨.str,_⟩)) λa j=>⟨f/\(0+l.length<=(l.map ((aK.int .u8).enc U)).length),?_,a3 a,by simp⟩
     simp only[aO,a1,ao];have e:bytesOf (((l.map ((aK.int .u8).enc U)).drop 0).take l.length)=some (strOf l):=by rw[fL,oq (by simp)];exact CM l
     exact(dX (Option.map _) (ab9 m e)).trans rfl
   . cases h
 . rename_i b g len d;split at h
   . rename_i l i;cases h;obtain⟨f,v1,a1,a2,a3⟩:=cw he al d;have:v1= .c (.fE b 1 g len):=by cases a2 with|c h=>cases h;rfl
     subst this;obtain⟨_,y,m,k⟩:=aF _ _ i;cases k;refine .neutral aF (.c (.t (U:=U) ⟨.str,_⟩)) λa j=>⟨f/\(g+len<=(l.map ((aK.int .u8).enc U)).length),?_,a3 a,by simpa[w0]using j⟩
     simp only[aO,a1,ao];have e:bytesOf (((l.map ((aK.int .u8).enc U)).drop g).take len)=some (strOf ((l.drop g).take len)):=by rw[<-BY,<-yz];exact CM ((l.drop g).take len)
     exact(dX (Option.map _) (ab' m e)).trans rfl
   . cases h
 . cases h
theorem abS{e8:Nat}(h:ct gl gd env J N (.allocS e e8)=some (c,v,J')):ea N J J1 (.allocS e e8) env1 (cG env G gd) c v J':=by
 simp only[ct,bI,bE]at h;obtain⟨rfl,rfl,rfl⟩:=h;have f:dr N J (N+16) (cE (cE J (N+1) (.buf e8 [])) N (.b8 e (.cI (N+1)))):=by
  refine⟨by omega,λb m k a=>?_⟩;rw[hU,a8,hU,a8]at a;grind
 refine .store rfl f (.c (.ptr _ _)) λ_ _=>⟨True,_,rfl,trivial,λb x a=>?_⟩
 rw[hU]at a;rw[cZ];by_cases h1:N=b
 . rw[ae h1]at a⊢;cases a;refine⟨by omega,_,rfl,.b8 (.cI _ _ (by omega) λx a p g=>?_)⟩;rw[hU,a8,hU,ae rfl]at a;cases a;simpa[cR.de]using g.symm
 . rw[ak h1,hU]at a;rw[ak h1,cZ];by_cases d:N+1=b
   . rw[ae d]at a⊢;cases a;exact⟨by omega,_,rfl,.buf _ _⟩
   . rw[ak d]at a⊢;obtain⟨l,y,i,j⟩:=aF b x a;exact⟨by omega,y,i,j.mono f⟩
theorem aca(h:ct gl gd env J N .mkset=some (c,v,J')):ea N J J1 .mkset env1 (cG env G gd) c v J':=by
 simp only[ct,bI,bE]at h;obtain⟨rfl,rfl,rfl⟩:=h;have k:dr N J (N+16) (cE J N (.set [])):=lS;exact .store rfl k (.c (.mp _)) λ_ _=>⟨True,_,rfl,trivial,aF.put (by omega) k (.set _)⟩
theorem acb(h:ct gl gd env J N (.lkset x y)=some (c,v,J')):ea N J J1 (.lkset x y) env1 (cG env G gd) c v J':=by
 simp only[ct]at h;split at h
 . rename_i b s e f;split at h
   . rename_i ks d;cases h;obtain⟨p,v1,a1,a2,a3⟩:=cw he al e;obtain⟨q,g,b1,b2,b3⟩:=cw he al f;have:=a2.Fm;subst this;have:=b2.kt;subst this;obtain⟨_,z,d1,d2⟩:=aF b _ d;cases d2;exact .neutral aF (.c (.t (U:=U) ⟨.bool,_⟩)) λa _=>⟨p/\q,by simp only[aO,a1,b1,ao,d1];rfl,a3 a,b3 a⟩
   . cases h
 . cases h
theorem acd(h:ct gl gd env J N (.upset x y)=some (c,v,J')):ea N J J1 (.upset x y) env1 (cG env G gd) c v J':=by
 simp only[ct]at h;split at h
 . rename_i b s f g;split at h
   . rename_i ks d;cases h;obtain⟨p,v1,a1,a2,a3⟩:=cw he al f;obtain⟨q,j,b1,b2,b3⟩:=cw he al g;have:=a2.Fm;subst this;have:=b2.kt;subst this;obtain⟨i,z,d1,d2⟩:=aF b _ d;cases d2;have e:dr N J (N+16) (cE J b (.set (iW ks s))):=nN (by omega) d (λp h=>by simp[cR.de]at h);exact .store rfl e (.aY [] [] rfl (by simp)) λa _=>⟨p/\q,_,by simp only[aO,a1,b1,ao,d1],⟨a3 a,b3 a⟩,aF.put (by omega) e (.set _)⟩
   . cases h
 . cases h
theorem aaZ{bytes:Nat}(h:ct gl gd env J N (.appendB e bytes x y)=some (c,v,J')):ea N J J1 (.appendB e bytes x y) env1 (cG env G gd) c v J':=by
 simp only[ct]at h;split at h
 . rename_i b s a C;split at h
   . rename_i d l f;split at h
     . rename_i A;have:=cV A;subst this;cases h;obtain⟨p,v1,a1,a2,a3⟩:=cw he al a;obtain⟨q,E,b1,b2,b3⟩:=cw he al C;obtain⟨n,rfl,D,w⟩:=a2.Bb;have:=w _ f _ rfl;cases this;have:=b2.kt;subst this;obtain⟨_,z,d1,d2⟩:=aF b _ f;cases d2;have k:dr N J N (dl J b):=tv;have m:dr N (dl J b) (N+16) (cE (dl J b) N (.buf d (Bd l s))):=lS;have u:cv N (dl J b) (il J1 b):=by
        intro o x a;rw[oj]at a;split at a
        . cases a
        . rename_i B;obtain⟨h1,y,r,t⟩:=aF o x a;exact⟨h1,y,by rw[fU,ak B];exact r,t.mono k⟩
       refine .store rfl (k.trans m) (.c (.cI N (List.length l+List.length s) (by omega) λx a p j=>?_)) λi g=>⟨p/\q/\d=d/\List.length l=List.length l/\lH (List.length l+List.length s) bytes/\List.length l+List.length s<=eH,_,?_,⟨a3 i,b3 i,rfl,rfl,(D7 g).1,(D7 g).2⟩,u.put (by omega) m (.buf _ _)⟩
       . rw[hU,ae rfl]at a;cases a;simp only[cR.de,bI]at j;exact j.symm.trans (dX (Prod.mk 1) Yd)
       . simp only[aO,a1,b1,ao,d1];rfl
     . cases h
   . cases h
 . cases h
theorem ace(h:ct gl gd env J N (.sdata x)=some (c,v,J')):ea N J J1 (.sdata x) env1 (cG env G gd) c v J':=by
 simp only[ct]at h;split at h
 . rename_i b d;cases h;obtain⟨p,v1,a1,a2,a3⟩:=cw he al d;obtain⟨n,rfl,_,_⟩:=a2.Bb;exact .neutral aF (.c (.eo _)) λa _=>⟨p,by simp[aO,a1],a3 a⟩
 . cases h
theorem ada(h:ct gl gd env J N (.ustr e x y)=some (c,v,J')):ea N J J1 (.ustr e x y) env1 (cG env G gd) c v J':=by
 simp only[ct]at h;split at h
 . rename_i b m a w;split at h
   . rename_i d l o;split at h
     . rename_i s;have:=cV s;subst this;cases h;obtain⟨p,v1,a1,a2,a3⟩:=cw he al a;obtain⟨q,A,b1,b2,b3⟩:=cw he al w;have:=a2.Sn;subst this;have:=b2.gz;subst this;obtain⟨_,z,d1,d2⟩:=aF b _ o;cases d2;have g:dr N J N (dl J b):=tv;have n:cv N (dl J b) (il J1 b):=by
        intro i x a;rw[oj]at a;split at a
        . cases a
        . rename_i u;obtain⟨h1,y,j,k⟩:=aF i x a;exact⟨h1,y,by rw[fU,ak u];exact j,k.mono g⟩
       refine .store rfl (g.trans (dr.more (by omega))) (.c (.t (U:=U) ⟨.str,_⟩)) λf r=>⟨p/\q/\d=d/\m=(List.length l:Int),_,?_,⟨a3 f,b3 f,rfl,ab4.1 r⟩,n.mono (by omega)⟩
       simp only[aO,a1,b1,ao,d1];rfl
     . cases h
   . cases h
 . cases h
theorem aa0{sz len:Nat}{parts:List (Nat×aP)}(h:ct gl gd env J N (.bsliceT e sz len z parts)=some (c,v,J')):ea N J J1 (.bsliceT e sz len z parts) env1 (cG env G gd) c v J':=by
 simp only[ct]at h;split at h
 . cases h
 . rename_i t ht;split at h
   . rename_i k i;split at h
     . cases h
     . rename_i ts d;split at h
       . cases h
       . rename_i b;have b:=cV b;split at h
         . rename_i rows a;split at h
           . rename_i l af;cases h;have j:=th (N:=N) (J:=J) i;obtain⟨p,es,a1,a2,a4,a3⟩:=GN he al a (es:=List.replicate len ts) (a'.replicate (R:=λr e=>hZ r=some e) d len) (by intro r a;rw[BL a];exact b);have f:l.map (t.enc U)=es:=vT af a2;refine .neutral aF (.c (.t (U:=U) ⟨.slice t,l⟩)) λg _=>⟨p,?_,a3 g⟩
             simp only[aO,DM j d,ao,a1,gk];rw[<-f];rfl
           . cases h
         . cases h
   . cases h
theorem KK(h:ct gl gd env J N o=some (c,v,J')):ea N J J1 o env1 (cG env G gd) c v J':=by
 cases o with
 |mov x=>exact aht he al aF h
 |pick c x y=>exact acX he al aF h
 |alloc cs=>exact ab7 he al aF h
 |box x=>exact aho he al aF h
 |allocA cs=>exact abR he al aF h
 |idxP k x i=>exact ac9 he al aF h
 |slcP k x d a=>exact ac' he al aF h
 |b2s x=>exact ahm he al aF h
 |allocS e e8=>exact abS he al aF h
 |bsliceT e sz len z parts=>exact aa0 he al aF h
 |mkset=>exact aca he al aF h
 |lkset x k=>exact acb he al aF h
 |upset x k=>exact acd he al aF h
 |appendB e b x y=>exact aaZ he al aF h
 |sdata x=>exact ace he al aF h
 |ustr e x k=>exact ada he al aF h
 |build z parts=>exact ab6 he al aF h
 |bslice sz len z parts=>exact abO he al aF h
 |load agg n x=>exact ac0 he al aF h
 |store n x v=>exact ab8 he al aF h
 |nilCheck x=>exact Y9 he al aF h
 |bin op x y=>exact ahn he al aF h
 |eqAgg neg ks x y=>exact ab5 he al aF h
 |eqBool neg x y=>exact abN he al aF h
 |eqNil neg x=>simp[ct]at h
 |not x=>exact ahu he al aF h
 |conv k x=>exact acY he al aF h
 |i2s x=>exact ahr he al aF h
 |s2s x=>exact ahv he al aF h
 |fldA off x=>exact acZ he al aF h
 |fld agg off n x=>exact ahq he al aF h
 |idxA sz x i=>exact ac1 he al aF h
 |idxS x i=>exact ac2 he al aF h
 |slcS x d a=>exact ac3 he al aF h
 |slc sz x d a=>exact ahw he al aF h
 |slc0 x=>exact ac4 he al aF h
 |mkfn f caps=>exact ac5 he al aF h
 |ext x i=>exact ahp he al aF h
 |len str x=>exact ahs he al aF h
 |append sz bytes x y=>exact abQ he al aF h
 |max2 x y=>exact ac6 he al aF h
 |min2 x y=>exact ac7 he al aF h
 |call f args=>simp[ct]at h
 |iJ x args=>simp[ct]at h
end
end
end
section
open Go
variable {U:cM}
def bl.ck(b0:Nat)(c:Cell U.D):bl U->bl U
 |.arr b=>match Nat.beq b b0 with
  |true=>.t c
  |false=>.arr b
 |.cH b ty i o=>match Nat.beq b b0 with
  |true=>.dead
  |false=>.cH b ty i o
 |.pre b h=>match Nat.beq b b0 with
  |true=>.dead
  |false=>.pre b h
 |.dI b a len=>match Nat.beq b b0 with
  |true=>.dead
  |false=>.dI b a len
 |x=>x
def bB.ck(b0:Nat)(c:Cell U.D):bB U->bB U
 |.c x=>.c (x.ck b0 c)
 |.agg cs=>.agg (cs.map (bl.ck b0 c))
 |.aY vs=>.aY (go b0 c vs)
where go (b0:Nat) (c:Cell U.D):List (bB U)->List (bB U)
 |[]=>[]
 |v::vs=>v.ck b0 c::go b0 c vs
def cR.ck(b0:Nat)(c:Cell U.D):cR U->cR U
 |.box cs=>.box (cs.map (bl.ck b0 c))
 |.b8 E x=>.b8 E (x.ck b0 c)
 |.cC t l i o x=>.cC t l i o (x.ck b0 c)
 |x=>x
def r2(b0:Nat)(c:Cell U.D):bW U->bW U
 |[]=>[]
 |(k,v)::r=>(k,v.ck b0 c)::r2 b0 c r
def nb(b0:Nat)(c:Cell U.D):bh U->bh U
 |[]=>[]
 |(k,x)::r=>match Nat.beq k b0 with
  |true=>nb b0 c r
  |false=>(k,x.ck b0 c)::nb b0 c r
def AU(b:Nat)(t:aK)(env:bW U)(J:bh U):Option (bW U×bh U):=
 match aX J b with
 |some (.arr a l)=>match Cell.as (.slice t) (⟨.slice a,l⟩:Cell U.D)with
  |some l=>some (r2 b ⟨.slice t,l⟩ env,nb b ⟨.slice t,l⟩ J)
  |none=>none
 |some (.rows _ r)=>match mf U t r with
  |some l=>some (r2 b ⟨.slice t,l⟩ env,nb b ⟨.slice t,l⟩ J)
  |none=>none
 |_=>some (env,J)
def k0:List (Nat×aK)->bW U->bh U->Option (bW U×bh U)
 |[],env,J=>some (env,J)
 |(b,t)::r,env,J=>match AU b t env J with
  |some (env',J')=>k0 r env' J'
  |none=>none
variable{b0 j:Nat}{c:Cell U.D}{es:List (List T)}{t:aK}{cs:List C}{R:Type}
section
variable {kk N:Nat}{J J':bh U}{J1:a7}{env env':bW U}{env1:Env}{G:Nat->Bool}{gl:ez}
theorem D8:∀{env:bW U} {k:Nat},aX (r2 b0 c env) k=(aX env k).map (bB.ck b0 c)
 |[],k=>rfl
 |(i,v)::r,k=>by
  simp only[r2,aX];cases Nat.beq i k with
  |true=>rfl
  |false=>exact D8
theorem tD{b0:Nat}{c:Cell U.D}:∀{J:bh U} {k:Nat},aX (nb b0 c J) k=if k=b0 then none else(aX J k).map (cR.ck b0 c)
 |[],k=>by simp[nb,aX]
 |(i,x)::r,k=>by
  simp only[nb];cases h:Nat.beq i b0 with
  |true=>
   have:=cV h;subst this;simp only[tD,aX];by_cases a:k=i
   . grind
   . rw[ak a,ak a];cases b:Nat.beq i k with
     |true=>exact absurd (cV b).symm a
     |false=>rfl
  |false=>
   simp only[aX,tD];grind
theorem cR.BB{x:cR U}:(x.ck b0 c).de=x.de:=by cases x<;>rfl
theorem cl.ck{b0 sz:Nat}{c:Cell U.D}{es:List (List T)}{A:cR U}(h0:aX J b0=some A)(E:A.de=some (sz,es.length))(B:c.enc U= .slice es){x:bl U}{d:C}(h:cl N J x d):
 cl N (nb b0 c J) (x.ck b0 c) (d.ck b0 sz es):=by
 cases h with
 |t c=>exact .t c
 |ptr b o=>exact .ptr b o
 |cH b t i o=>
  simp only[bl.ck,C.ck];cases h:Nat.beq b b0 with
  |true=>rw[ae (cV h)];exact .dead _
  |false=>rw[ak (hN h)];exact .cH b t i o
 |dP t x o=>exact .dP t x o
 |arr b w n q h=>
  simp only[bl.ck,C.ck];cases j:Nat.beq b b0 with
  |true=>
   have:=cV j;subst this;have:=h A h0 _ E;cases this;rw[ae rfl,ae ⟨rfl,by omega⟩];have:cut es 0 es.length=es:=(by simp[cut]);rw[this,<-B];exact .t c
  |false=>
   rw[ak (hN j)];refine .arr b w n q λy a p e=>?_;rw[tD,ak (hN j)]at a;simp only[bd]at a;obtain⟨v,u,rfl⟩:=a;rw[cR.BB]at e;exact h v u p e
 |sub b z len=>exact .sub b z len
 |pre b w n q h=>
  simp only[bl.ck];cases j:Nat.beq b b0 with
  |true=>exact .dead _
  |false=>
   simp only[C.ck];rw[ak (hN j)];refine .pre b w n q λy a p e=>?_;rw[tD,ak (hN j)]at a;simp only[bd]at a;obtain⟨v,u,rfl⟩:=a;rw[cR.BB]at e;exact h v u p e
 |dI b w z len q h=>
  simp only[bl.ck];cases j:Nat.beq b b0 with
  |true=>exact .dead _
  |false=>
   simp only[C.ck];refine .dI b w z len q λy a p e=>?_;rw[tD,ak (hN j)]at a;simp only[bd]at a;obtain⟨v,u,rfl⟩:=a;rw[cR.BB]at e;exact h v u p e
 |mp b=>exact .mp b
 |eo b=>exact .eo b
 |cI b n q h=>
  refine .cI b n q λy a p e=>?_;rw[tD]at a;split at a
  . cases a
  . simp only[bd]at a;obtain⟨v,u,rfl⟩:=a;rw[cR.BB]at e;exact h v u p e
 |aB=>exact .aB
 |fc=>exact .fc
 |fb=>exact .fb
 |fn f caps=>exact .fn f caps
 |dead d=>exact .dead _
theorem J0:∀{vs:List (bB U)} {i:Nat},(bB.ck.go b0 c vs)[i]?=(vs[i]?).map (bB.ck b0 c)
 |[],i=>by simp[bB.ck.go]
 |v::vs,0=>by simp[bB.ck.go]
 |v::vs,i+1=>by simp[bB.ck.go,J0]
theorem TO:∀{vs:List (bB U)},(bB.ck.go b0 c vs).length=vs.length
 |[]=>rfl
 |v::vs=>by simp[bB.ck.go,TO]
theorem ca.ck{b0 sz:Nat}{c:Cell U.D}{es:List (List T)}{o:cR U}(h0:aX J b0=some o)(e:o.de=some (sz,es.length))(a:c.enc U= .slice es){x:bB U}{d:V}(h:ca N J x d):
 ca N (nb b0 c J) (x.ck b0 c) (d.ck b0 sz es):=by
 induction h with
 |c h=>exact .c (h.ck h0 e a)
 |agg h=>exact .agg (a'.map_map (h.imp λ_ _ _ aa=>aa.ck h0 e a))
 |aY xs ds af h ih=>
  refine .aY _ _ (by rw[TO,GC];exact af) ?_;intro i x d j f;rw[J0,bd]at j;rw[Hk,bd]at f;obtain⟨u,t,rfl⟩:=j;obtain⟨p,q,rfl⟩:=f;exact ih i u p t q
theorem M'{sz:Nat}{p:cR U}(h0:aX J b0=some p)(g:p.de=some (sz,es.length))(f:c.enc U= .slice es)(hs:aV J1 b0=some (.arr sz es))(he:c3 N J G env env1)(aF:cv N J J1):
 Conv kk N env1 J1 N (rB b0 sz es env1) (mQ b0 sz es J1)/\c3 N (nb b0 c J) G (r2 b0 c env) (rB b0 sz es env1)/\cv N (nb b0 c J) (mQ b0 sz es J1):=by
 refine⟨Conv.freeze b0 hs,λk v n=>?_,λb x e=>?_⟩
 . rw[D8,bd]at n;obtain⟨v0,h1,rfl⟩:=n;obtain⟨d,j,m⟩:=he k v0 h1;exact⟨_,by rw[Aa,j];rfl,m.ck h0 g f⟩
 . rw[tD]at e;split at e
   . cases e
   . rename_i q;simp only[bd]at e;obtain⟨r,h1,rfl⟩:=e;obtain⟨j,y,m,a⟩:=aF b r h1;refine⟨j,y.ck b0 sz es,by rw[Dn,ak q,m];rfl,?_⟩;cases a with
     |box a=>exact .box (a'.map_map (a.imp λ_ _ _ aa=>aa.ck h0 g f))
     |arr t l=>exact .arr t l
     |set ks=>exact .set ks
     |buf E s=>exact .buf E s
     |b8 a=>exact .b8 (a.ck h0 g f)
     |cC t l i o a=>exact .cC t l i o (a.ck h0 g f)
     |rows a bb=>exact .rows a bb
theorem gS.ck(h:gS gl env G):gS gl (r2 b0 c env) G:=by
 refine⟨h.free,λk t b e=>?_⟩;obtain⟨y,h1,a⟩:=h.held k t b e;refine⟨y,?_,a⟩;unfold fl at h1⊢;rw[D8];split at h1
 . rename_i x f;rw[f];show some _=some y;exact h1
 . cases h1
theorem acf{α a:Type}{f:α->a}{l:List α}{sz:Nat}:some (sz,l.length)=some (sz,(l.map f).length):=by rw[gH]
theorem KL{b:Nat}(h:AU b t env J=some (env',J'))(he:c3 N J G env env1)(aF:cv N J J1):
 ∃j bp,Conv kk N env1 J1 N j bp/\c3 N J' G env' j/\cv N J' bp/\(gS gl env G->gS gl env' G):=by
 unfold AU at h;split at h
 . rename_i o n af;split at h
   . rename_i l d;have e:=Cell.kC d;cases e;cases h;obtain⟨_,y,h1,a⟩:=aF b _ af;cases a;obtain⟨f,g,i⟩:=M' (kk:=kk) (c:=⟨.slice t,l⟩) (es:=List.map (t.enc U) l) af acf rfl h1 he aF;exact⟨_,_,f,g,i,λal=>al.ck⟩
   . cases h
 . rename_i sz r af;split at h
   . rename_i l d;cases h;obtain⟨_,y,h1,a⟩:=aF b _ af;cases a with
     | @rows _ _ es a m=>
      have k:=vT d a;obtain⟨f,g,i⟩:=M' (kk:=kk) (c:=⟨.slice t,l⟩) (es:=es) af (by simp only[cR.de];rw[a.length]) (by rw[<-k];rfl) h1 he aF;exact⟨_,_,f,g,i,λal=>al.ck⟩
   . cases h
 . cases h;exact⟨env1,J1,Conv.refl,he,aF,λh=>h⟩
theorem zh:∀{l:List (Nat×aK)} {env env':bW U} {J J':bh U} {env1:Env} {J1:a7},k0 l env J=some (env',J')->c3 N J G env env1->cv N J J1->
 ∃a bp,Conv kk N env1 J1 N a bp/\c3 N J' G env' a/\cv N J' bp/\(gS gl env G->gS gl env' G)
 |[],env,env',J,J',env1,J1,h,he,aF=>by simp[k0]at h;obtain⟨rfl,rfl⟩:=h;exact⟨env1,J1,Conv.refl,he,aF,λh=>h⟩
 |(b,t)::r,env,env',J,J',env1,J1,h,he,aF=>by
  simp only[k0]at h;split at h
  . rename_i e s h1;obtain⟨aI,s1,d,f,g,i⟩:=KL (kk:=kk) (gl:=gl) h1 he aF;obtain⟨c,o,j,k,m,n⟩:=zh h f g;exact⟨c,o,d.trans j,k,m,λal=>n (i al)⟩
  . cases h
theorem Conv.close{b sz i o:Nat}{t:T}(c:aV J1 b=some (.cC sz es i o (.t t))):
 Conv kk N env1 J1 N env1 (db J1 b (.arr sz (es.set i ((el es i).take o++[t]++(el es i).drop (o+1))))):=by
 intro aD nt φ S a w U R;obtain⟨⟨a1,a2,a3,a4,a5,P⟩,⟨vs,E,H,J,x,z,K,L⟩,M⟩:=R.bQ.blk _ _ c;have v:es[i]?=some (el es i):=by unfold el;rw[List.getD,eI a5];rfl
 have Q:(el es i).length=sz:=a3 _ (eM v);refine⟨φ,S,R.put (R.dQ _ _ c).1 rfl ⟨by simpa using a1,by simpa using a2,λe he=>?_,a4,λ_=>⟨vs,E,H,J,λG j e O he ht=>?_,M⟩⟩ λh0=>⟨λk y F D A=>R.bQ.inj k b y _ F c D A h0,R.own b _ c h0⟩⟩
 . rcases ue he with he|rfl
   . exact a3 e he
   . simp;omega
 . rw[BT]at he;by_cases p:i=G
   . subst p;rw[ae rfl,ae a5]at he;cases he;have f:=(mJ (vs:=el es i) (off:=o) (xs:=[t]) (by simp;omega) j)
     unfold iy at f;rw[show o+[t].length=o+1 from rfl]at f;rw[f]at ht;by_cases q:j=o
     . subst q;rw[a8,eT,BZ]at ht;cases ht;exact⟨z,K,L⟩
     . have B:(el es i)[j]?=some O:=by
        by_cases u:j<o
        . rwa [ae u]at ht
        . rwa [ak u,a8]at ht
       exact x _ _ _ _ v B (λh=>q h.2)
   . rw[ak p]at he;exact x _ _ _ _ he ht (λh=>p h.1.symm)
def D9(b:Nat)(env:bW U)(J:bh U):Option (bW U×bh U):=
 match aX J b with
 |some (.cC t l i o (.t c))=>match Nat.ble (o+1) (t.sz U)with
  |true=>match r4 U t l i o [.t c]with
   |some a=>some (env,cE J b (.arr t a))
   |none=>none
  |false=>none
 |_=>none
def Na(b:Nat)(env:bW U)(J:bh U):Option (bW U×bh U):=
 match aX J b with
 |some (.cC t l i o (.arr b2))=>match (t.row U (t.at U l i))[o]? with
  |some ⟨.slice a,_⟩=>match AU b2 a env J with
   |some (env',J')=>D9 b env' J'
   |none=>none
  |_=>none
 |_=>D9 b env J
def MJ:bh U->Option Nat
 |[]=>none
 |(b,.cC ..)::_=>some b
 |_::r=>MJ r
def IZ(env:bW U)(J:bh U):Option (bW U×bh U):=
 match MJ J with
 |none=>some (env,J)
 |some b=>Na b env J
theorem Ta{b:Nat}(h:D9 b env J=some (env',J'))(he:c3 N J G env env1)(aF:cv N J J1):
 ∃f bp,Conv kk N env1 J1 N f bp/\c3 N J' G env' f/\cv N J' bp:=by
 unfold D9 at h;split at h
 . rename_i t l i o c af;split at h
   . rename_i e;have e:=BQ e;split at h
     . rename_i l2 g;cases h;obtain⟨m,y,h1,d⟩:=aF b _ af;cases d with
       |cC _ _ _ _ d=>
        cases d;have r:l2.length=List.length l:=by
         unfold r4 at g;grind
        have j:dr N J N (cE J b (.arr t l2)):=nN (dU _) af (λp h=>by
         simp only[cR.de]at h⊢
         grind)
        refine⟨env1,db J1 b (.arr (t.sz U) (l2.map (t.enc U))),?_,he.mono j,aF.put m j (.arr t l2)⟩;by_cases n:i<List.length l
        . obtain⟨ts,aI,k⟩:=Hn (N:=N) (J:=J) (ds:=[.t (c.enc U)]) g n (.cons (.t c) .nil) (by simpa using e);have:ts=[c.enc U]:=(by simpa[toTs,toT]using aI.symm);subst this;have:=Conv.close (kk:=kk) (N:=N) (env1:=env1) h1;rw[k];simpa using this
        . intro aD nt φ S a w q R;obtain⟨⟨_,_,_,_,a5,_⟩,_⟩:=R.bQ.blk _ _ h1;simp at a5;omega
     . cases h
   . cases h
 . cases h
theorem Yw(h:IZ env J=some (env',J'))(he:c3 N J G env env1)(aF:cv N J J1):
 ∃a bp,Conv kk N env1 J1 N a bp/\c3 N J' G env' a/\cv N J' bp:=by
 unfold IZ at h;split at h
 . cases h;exact⟨env1,J1,Conv.refl,he,aF⟩
 . unfold Na at h;split at h
   . split at h
     . split at h
       . rename_i e s h1;obtain⟨aI,s1,c,d,f,_⟩:=KL (kk:=kk) (gl:=[]) h1 he aF;obtain⟨b,k,g,i,j⟩:=Ta (kk:=kk) h d f;exact⟨b,k,c.trans g,i,j⟩
       . cases h
     . cases h
   . exact Ta h he aF
theorem Conv.own{k:Nat}{g:Bool}{sz:Nat}(p:look env1 k=some (g,.c .aB))(q:0<sz)(y:kk<=N):Conv kk N env1 J1 (N+1) ((k,g,.c (.arr N sz 0 0))::env1) (db J1 N (.arr sz [])):=by
 intro aD nt φ S a w u R;have f:=R.Fo q (by omega);have cr:fM φ N (0,0) N=(0,0):=by simp[fM]
 refine⟨fM φ N (0,0),S,⟨f.bQ,λi j v af al=>?_,λi j v af al=>?_,λi j v af al=>?_,f.dQ,f.size,f.defers,f.ext,f.own,f.fix,f.fX⟩⟩
 . simp only[look]at af;split at af
   . rename_i e;cases af;subst e;obtain⟨x,t,o⟩:=f.gP _ _ _ p al;refine⟨x,t,?_⟩;cases o with
     |c o=>
      obtain⟨a,rfl⟩:=o;refine .c ⟨a,by rw[cr];rfl,λh=>absurd (by rw[cr]) h,by rw[cr];exact dU _⟩
   . exact f.gP i j v af al
 . simp only[look]at af;split at af
   . rename_i e;cases af;subst e;exact f.hQ _ _ _ p al
   . exact f.hQ i j v af al
 . simp only[look]at af;split at af
   . cases af;simp[V.aA,C.aA,lt]
   . exact f.gO i j v af al
theorem Conv.agK{b:Nat}{sz:Nat}(D:aV J1 b=some (.box cs))(G:cs[j]?=some .aB)(Q:b<N)(L:0<sz)(W:kk<=N):
 Conv kk N env1 J1 (N+1) env1 (db (db J1 N (.arr sz [])) b (.box (cs.set j (.arr N sz 0 0)))):=by
 intro aD nt φ S a w U R;have e:=R.Fo L (by omega);have cr:fM φ N (0,0) N=(0,0):=by simp[fM]
 have o:aV (db J1 N (.arr sz [])) b=some (.box cs):=by rw[cZ,a8];exact D
 have A:∀c x,aV (db (db J1 N (.arr sz [])) b (.box (cs.set j (.arr N sz 0 0)))) c=some x->(c=b/\x= .box (cs.set j (.arr N sz 0 0)))\/aV (db J1 N (.arr sz [])) c=some x:=by
  intro c x f;rw[cZ]at f;grind
 have p:∀c x,aV (db (db J1 N (.arr sz [])) b (.box (cs.set j (.arr N sz 0 0)))) c=some x->∃y,aV (db J1 N (.arr sz [])) c=some y:=by grind
 refine⟨fM φ N (0,0),S,⟨⟨λc x f=>?_,λc u x y f M H=>?_,e.bQ.st⟩,e.gP,e.hQ,e.gO,λc x f=>?_,e.size,e.defers,e.ext,λc x f=>?_,e.fix,e.fX⟩⟩
 . rcases A c x f with⟨rfl,rfl⟩|h
   . obtain⟨h0,vs,E,h1,z,B⟩:=e.bQ.blk _ _ o;refine⟨h0,vs,E,h1,?_,B⟩;obtain⟨v,X,J⟩:=z.get G;obtain⟨a,rfl⟩:=J;have:=a'.set (i:=j) z (a:= .arr N sz 0 0) (b:= .slice a 0 0) ⟨a,by rw[cr];rfl,λh=>absurd (by rw[cr]) h,by rw[cr];exact dU _⟩;have K:vs.set j (.slice a 0 0)=vs:=by
      apply yu;grind
     rw[K]at this;exact this
   . exact e.bQ.blk c x h
 . obtain⟨t,q⟩:=p c x f;obtain⟨P,O⟩:=p u y M;exact e.bQ.inj c u t P q O H
 . rcases A c x f with⟨rfl,rfl⟩|h
   . refine⟨(e.dQ _ _ o).1,?_⟩;have:=(e.dQ _ _ o).2;simp only[bP.aA,c0]at this⊢;intro d F;rcases ue F with h|h
     . exact this d h
     . rw[h];simp[C.aA,lt]
   . exact e.dQ c x h
 . obtain⟨t,q⟩:=p c x f;exact e.own c t q
theorem Conv.trim{q b:Nat}{sz h:Nat}(G:aV J1 q=some (.box cs))(ap:cs[j]?=some (.arr b sz 0 h))(F:aV J1 b=some (.arr sz es))(aa:h<=es.length)(a4:q<N):
 Conv kk N env1 J1 (N+1) env1 (db (db (il J1 b) N (.arr sz (es.take h))) q (.box (cs.set j (.arr N sz 0 h)))):=by
 intro aD nt φ S a w a2 R;have am:b<N:=by have:=(R.dQ _ _ F).1;simpa[lt]using this
 have a5:q≠b:=by intro e;subst e;rw[G]at F;cases F
 have U:∀c,lt N c=true->fM φ N (φ b) c=φ c:=by
  intro c p;simp only[lt,dw]at p;simp only[fM];grind
 have z:∀c,lt N c=true->lt (N+1) c=true:=λc p=>M7 (by omega) p;have f:=R.zn U;have cr:fM φ N (φ b) N=φ b:=by simp[fM]
 have P:fM φ N (φ b) b=φ b:=U b (by simpa[lt]using am);have Q:∀c x,aV (db (db (il J1 b) N (.arr sz (es.take h))) q (.box (cs.set j (.arr N sz 0 h)))) c=some x->(c=q/\x= .box (cs.set j (.arr N sz 0 h)))\/(c≠q/\c=N/\x= .arr sz (es.take h))\/(c≠q/\c≠N/\c≠b/\aV J1 c=some x):=by
  intro c x o;rw[cZ]at o;split at o
  . grind
  . rename_i e;rw[cZ]at o;split at o
    . grind
    . rename_i B;rw[fU]at o;grind
 have J:∀c x,aV (db (db (il J1 b) N (.arr sz (es.take h))) q (.box (cs.set j (.arr N sz 0 h)))) c=some x->∃A y,aV J1 A=some y/\fM φ N (φ b) c=fM φ N (φ b) A/\(A=if c=N then b else c):=by grind
 refine⟨fM φ N (φ b),S,⟨⟨λc x o=>?_,λc A x y o aZ a3=>?_,f.bQ.st⟩,f.gP,f.hQ,λk g v af al=>V.hv z (f.gO k g v af al),λc x o=>?_,f.size,f.defers,f.ext,λc x o h0=>?_,f.fix,λc p=>by have:=f.fX c p;exact z c this⟩⟩
 . rcases Q c x o with⟨rfl,rfl⟩|⟨_,rfl,rfl⟩|⟨_,_,_,u⟩
   . obtain⟨h0,vs,E,h1,D,H⟩:=f.bQ.blk _ _ G;refine⟨h0,vs,E,h1,?_,H⟩;obtain⟨v,a9,ax⟩:=D.get ap;have aC:bm (fM φ N (φ b)) w S (.arr N sz 0 h) v:=by
      obtain⟨a,aI,B,dh⟩:=ax;rw[P]at aI B dh;exact⟨a,by rw[cr];exact aI,by rw[cr];exact B,by rw[cr];exact dh⟩
     have:=a'.set (i:=j) D aC;have aJ:vs.set j v=vs:=by
      apply yu;grind
     rw[aJ]at this;exact this
   . obtain⟨h0,h1,D,H,u⟩:=f.bQ.blk _ _ F;rw[P]at h0 u;refine⟨by rw[cr,ox];omega,by rw[ox];omega,λe he=>D e (qc he),H,λp=>?_⟩;rw[cr]at p⊢;obtain⟨vs,E,W,X,Y,Z⟩:=u p;refine⟨vs,E,W,X,λi j e t he ht=>?_,Z⟩;rw[lv]at he;split at he
     . exact Y i j e t he ht
     . cases he
   . exact f.bQ.blk c x u
 . obtain⟨d,L,K,aI,B⟩:=J c x o;obtain⟨M,a1,a0,dh,gx⟩:=J A y aZ;have bT:d≠M:=(by grind);intro h0 O;rw[aI]at h0⊢;rw[dh]at O⊢;exact f.bQ.inj d M L a1 K a0 bT h0 O
 . rcases Q c x o with⟨rfl,rfl⟩|⟨_,rfl,rfl⟩|⟨_,_,_,u⟩
   . refine⟨z _ (f.dQ _ _ G).1,?_⟩;have:=(f.dQ _ _ G).2;simp only[bP.aA,c0]at this⊢;intro d an;rcases ue an with h|h
     . exact C.hv z (this d h)
     . rw[h];simp[C.aA,lt]
   . exact⟨by simp[lt],rfl⟩
   . exact⟨z c (f.dQ c x u).1,bP.hv z (f.dQ c x u).2⟩
 . obtain⟨d,L,K,aI,_⟩:=J c x o;rw[aI]at h0⊢;exact f.own d L K h0
def vU:Nat->List (bl U)->Option (Nat×Nat×Nat)
 |_,[]=>none
 |j,.pre b h::_=>some (j,b,h)
 |j,_::r=>vU (j+1) r
def qD(J:bh U):bh U->Option (Nat×List (bl U)×Nat×Nat×Nat)
 |[]=>none
 |(q,.box cs)::r=>match aX J q with
  |some (.box a)=>match vU 0 a with
   |some p=>some (q,a,p)
   |none=>qD J r
  |_=>qD J r
 |_::r=>qD J r
theorem J3:∀{cs:List (bl U)} {j i b h:Nat},vU j cs=some (i,b,h)->j<=i/\cs[i-j]?=some (.pre b h)
 |[],j,i,b,h,a=>by simp[vU]at a
 |c::r,j,i,b,h,a=>by
  have next:vU (j+1) r=some (i,b,h)->j<=i/\(c::r)[i-j]?=some (.pre b h):=by
   intro a;obtain⟨h1,f⟩:=J3 a;grind
  cases c with
  |pre d e=>simp only[vU,bI,bE]at a;obtain⟨rfl,rfl,rfl⟩:=a;simp
  |_=>exact next a
theorem CC{q:Nat}{cs:List (bl U)}{i b h:Nat}:∀{l:bh U},qD J l=some (q,cs,i,b,h)->aX J q=some (.box cs)/\cs[i]?=some (.pre b h)
 |[],a=>by simp[qD]at a
 |(k,x)::r,a=>by
  cases x with
  |box e=>
   simp only[qD]at a;split at a
   . rename_i f c;split at a
     . rename_i p d;simp only[bI,bE]at a;obtain⟨rfl,rfl,rfl⟩:=a;exact⟨c,by simpa using(J3 d).2⟩
     . exact CC a
   . exact CC a
  |_=>exact CC (by simpa only[qD]using a)
def Ev{R:Type}(J:bh U)(N:Nat)(k:bh U->Nat->Option R):Option R:=
 match qD J J with
 |none=>k J N
 |some (q,cs,j,b,h)=>match aX J b with
  |some (.arr t l)=>if (h<=l.length:Bool) then k (cE (cE (dl J b) N (.arr t (l.take h))) q (.box (cs.set j (.arr N)))) (N+1)else none
  |_=>none
theorem KM{q b h0:Nat}{cs:List (bl U)}{x:bl U}{l:List (t.den U.D)}(k:aX J q=some (.box cs))(F:cs[j]?=some x)(i:aX J b=some (.arr t l))(a:∀d,cl N J x d->d= .arr b (t.sz U) 0 h0)(m:h0<=l.length)
 (he:c3 N J G env env1)(aF:cv N J J1):
 ∃bp,Conv kk N env1 J1 (N+1) env1 bp/\c3 (N+1) (cE (cE (dl J b) N (.arr t (l.take h0))) q (.box (cs.set j (.arr N)))) G env env1/\cv (N+1) (cE (cE (dl J b) N (.arr t (l.take h0))) q (.box (cs.set j (.arr N)))) bp:=by
 obtain⟨L,R,K,f⟩:=aF q _ k;obtain⟨P,Q,B,C⟩:=aF b _ i;cases C;cases f with
 | @box _ ds f=>
  obtain⟨d,E,O⟩:=f.get F;have:=a d O;subst this;have M:q≠b:=by intro e;subst e;rw[k]at i;cases i
  have o:dr N J N (dl J b):=tv;have r:dr N (dl J b) (N+1) (cE (dl J b) N (.arr t (l.take h0))):=lS;have I:aX (cE (dl J b) N (.arr t (l.take h0))) q=some (.box cs):=by rw[hU,a8,oj,ak (λe=>M e.symm)];exact k
  have s:dr (N+1) (cE (dl J b) N (.arr t (l.take h0))) (N+1) (cE (cE (dl J b) N (.arr t (l.take h0))) q (.box (cs.set j (.arr N)))):=nN (dU _) I (λp h=>by simp[cR.de]at h);have u:=(o.trans r).trans s;have A:cv N (dl J b) (il J1 b):=by
   intro c x a;rw[oj]at a;split at a
   . cases a
   . rename_i H;obtain⟨v,y,w,z⟩:=aF c x a;exact⟨v,y,by rw[fU,ak H];exact w,z.mono o⟩
  refine⟨_,Conv.trim K E B (by rw[gH];exact m) L,he.mono u,?_⟩;rw[<-yz];refine(A.put (by omega) r (.arr t (l.take h0))).put (by omega) s (.box ?_);refine a'.set (f.imp λ_ _ _ g=>g.mono u) (.arr N _ _ (by omega) λx a p n=>?_);rw[hU,a8,hU,ae rfl]at a;cases a;simp only[cR.de,bI]at n;rw[<-n,ox,Nat.min_eq_left m]
theorem J4{k:bh U->Nat->Option R}{r:R}(h:Ev J N k=some r)(he:c3 N J (λ_=>true) env env1)(aF:cv N J J1):
 ∃J' N' bp,k J' N'=some r/\Conv kk N env1 J1 N' env1 bp/\c3 N' J' (λ_=>true) env env1/\cv N' J' bp/\N<=N':=by
 unfold Ev at h;split at h
 . exact⟨J,N,J1,h,Conv.refl,he,aF,dU _⟩
 . rename_i q cs j b h0 e;obtain⟨i,f⟩:=CC e;split at h
   . rename_i t l a;split at h
     . rename_i g
       obtain⟨s1,n,o,p⟩:=KM (kk:=kk) (h0:=h0) i f a (λd m=>by
        cases m with
        |pre _ sz _ _ c=>
         have c:=c _ a _ rfl
         grind) (by simpa using g) he aF
       exact⟨_,_,s1,h,n,o,p,by omega⟩
     . cases h
   . cases h
def tE(kk:Nat):Nat->List (bl U)->Option (Nat×Nat)
 |_,[]=>none
 |j,.arr b::r=>match Nat.ble (b+1) kk with
  |true=>some (j,b)
  |false=>tE kk (j+1) r
 |j,_::r=>tE kk (j+1) r
def qE(kk:Nat)(J:bh U):bh U->Option (Nat×List (bl U)×Nat×Nat)
 |[]=>none
 |(q,.box _)::r=>match aX J q with
  |some (.box cs)=>match tE kk 0 cs with
   |some p=>some (q,cs,p)
   |none=>qE kk J r
  |_=>qE kk J r
 |_::r=>qE kk J r
theorem J5:∀{cs:List (bl U)} {j i b:Nat},tE kk j cs=some (i,b)->j<=i/\cs[i-j]?=some (.arr b)
 |[],j,i,b,a=>by simp[tE]at a
 |c::r,j,i,b,a=>by
  have next:tE kk (j+1) r=some (i,b)->j<=i/\(c::r)[i-j]?=some (.arr b):=by
   intro a;obtain⟨h1,e⟩:=J5 a;grind
  cases c with
  |arr d=>
   simp only[tE]at a;grind
  |_=>exact next a
theorem CD{kk q:Nat}{cs:List (bl U)}{i b:Nat}:∀{l:bh U},qE kk J l=some (q,cs,i,b)->aX J q=some (.box cs)/\cs[i]?=some (.arr b)
 |[],a=>by simp[qE]at a
 |(k,x)::r,a=>by
  cases x with
  |box e=>
   simp only[qE]at a;split at a
   . rename_i f c;split at a
     . rename_i p d;simp only[bI,bE]at a;obtain⟨rfl,rfl,rfl⟩:=a;exact⟨c,by simpa using(J5 d).2⟩
     . exact CD a
   . exact CD a
  |_=>exact CD (by simpa only[qE]using a)
def Ep{R:Type}(kk:Nat)(J:bh U)(k:bh U->Nat->Option R):Option R:=
 match qE kk J J with
 |none=>k J kk
 |some (q,cs,j,b)=>match aX J b with
  |some (.arr t l)=>k (cE (cE (dl J b) kk (.arr t l)) q (.box (cs.set j (.arr kk)))) (kk+1)
  |_=>k J kk
theorem Ye{k:bh U->Nat->Option R}{r:R}(h:Ep kk J k=some r)(he:c3 kk J (λ_=>true) env env1)(aF:cv kk J J1):
 ∃J' N' bp,k J' N'=some r/\Conv kk kk env1 J1 N' env1 bp/\c3 N' J' (λ_=>true) env env1/\cv N' J' bp/\kk<=N':=by
 unfold Ep at h;split at h
 . exact⟨J,kk,J1,h,Conv.refl,he,aF,dU _⟩
 . rename_i q cs j b g;obtain⟨m,i⟩:=CD g;split at h
   . rename_i t l a
     obtain⟨s1,p,e,f⟩:=KM (kk:=kk) (h0:=l.length) m i a (λd o=>by
      cases o with
      |arr _ sz n _ c=>
       have c:=c _ a _ rfl
       grind) (dU _) he aF
     rw[List.take_length]at e f;exact⟨_,_,s1,h,p,e,f,by omega⟩
   . exact⟨J,kk,J1,h,Conv.refl,he,aF,dU _⟩
inductive Pos where
 |slot (k:Nat)
 |cell (b j:Nat)
 |via (k j:Nat)
def AX(b j:Nat)(t:aK)(env:bW U)(J:bh U)(N:Nat):Option (bW U×bh U):=
 match aX J b with
 |some (.box cs)=>match cs[j]? with
  |some .aB=>some (env,cE (cE J N (.arr t [])) b (.box (cs.set j (.arr N))))
  |_=>some (env,J)
 |_=>none
def IH(p:Pos)(t:aK)(env:bW U)(J:bh U)(N:Nat):Option (bW U×bh U):=
 match p with
 |.slot k=>match aX env k with
  |some (.c .aB)=>some ((k,.c (.arr N))::env,cE J N (.arr t []))
  |_=>some (env,J)
 |.cell b j=>AX b j t env J N
 |.via k j=>match aX env k with
  |some (.c (.ptr b _))=>AX b j t env J N
  |_=>none
def AW:List (Pos×aK)->bW U->bh U->Nat->Option (bW U×bh U×Nat)
 |[],env,J,N=>some (env,J,N)
 |(p,t)::r,env,J,N=>match IH p t env J N with
  |some (env',J')=>AW r env' J' (N+1)
  |none=>none
theorem LF{t:aK}(he:c3 N J (λ_=>true) env env1)(aF:cv N J J1)(i:kk<=N):∃c bp,Conv kk N env1 J1 (N+1) c bp/\c3 (N+1) J (λ_=>true) env c/\cv (N+1) J bp:=by
 refine⟨env1,db J1 N (.arr 1 []),λaD nt φ S a w g R=>⟨_,S,R.Fo (by omega) (by omega)⟩,he.mono (dr.more (by omega)),λb x f=>?_⟩;obtain⟨h1,y,d,e⟩:=aF b x f;exact⟨by omega,y,by rw[cZ,a8];exact d,e.mono (dr.more (by omega))⟩
theorem HK{b:Nat}(h:AX b j t env J N=some (env',J'))(he:c3 N J (λ_=>true) env env1)(aF:cv N J J1)(i:kk<=N):
 ∃f bp,Conv kk N env1 J1 (N+1) f bp/\c3 (N+1) J' (λ_=>true) env' f/\cv (N+1) J' bp:=by
 have same:=LF (t:=t) he aF i;unfold AX at h;split at h
 . rename_i cs g;split at h
   . rename_i q;cases h;obtain⟨m,y,h1,a⟩:=aF b _ g;cases a with
     | @box _ ds a=>
      obtain⟨d,o,r⟩:=a.get q;cases r;have c:dr N J (N+1) (cE J N (.arr t [])):=lS;have n:aX (cE J N (.arr t [])) b=some (.box cs):=by rw[hU,a8];exact g
      have e:dr (N+1) (cE J N (.arr t [])) (N+1) (cE (cE J N (.arr t [])) b (.box (cs.set j (.arr N)))):=nN (dU _) n (λp h=>by simp[cR.de]at h);refine⟨_,_,Conv.agK h1 o m (aK.rW (t:=t) (U:=U)) i,(he.mono c).mono e,(aF.put (by omega) c (.arr t [])).put (by omega) e (.box ?_)⟩;refine a'.set (a.imp λ_ _ _ h=>(h.mono c).mono e) (.arr N _ _ (by omega) λx l p k=>?_);rw[hU,a8,hU,ae rfl]at l;cases l;simp[cR.de]at k;exact k.symm
   . cases h;exact same
 . cases h
theorem Yf{p:Pos}(h:IH p t env J N=some (env',J'))(he:c3 N J (λ_=>true) env env1)(aF:cv N J J1)(b:kk<=N):
 ∃e bp,Conv kk N env1 J1 (N+1) e bp/\c3 (N+1) J' (λ_=>true) env' e/\cv (N+1) J' bp:=by
 have same:=LF (t:=t) he aF b;unfold IH at h;split at h
 . rename_i k;split at h
   . rename_i m;cases h;obtain⟨v1,h1,l⟩:=he k _ m;have:=l.uV;subst this;have j:dr N J (N+1) (cE J N (.arr t [])):=lS;refine⟨_,_,Conv.own h1 (aK.rW (t:=t) (U:=U)) b,λi v a=>?_,aF.put (by omega) j (.arr t [])⟩;simp only[aX]at a;simp only[look];split at a
     . rename_i d;cases a;rw[ae (cV d)];refine⟨_,rfl,.c (.arr N _ _ (by omega) λx g p f=>?_)⟩;rw[hU,ae rfl]at g;cases g;simp[cR.de]at f;exact f.symm
     . rename_i d;rw[ak (hN d)];exact(he.mono j) i v a
   . cases h;exact same
 . exact HK h he aF b
 . split at h
   . exact HK h he aF b
   . cases h
def I0:List (bl U)->List Bool->Bool
 |[],[]=>true
 |.t _::cs,false::bs=>I0 cs bs
 |.aB::cs,true::bs=>I0 cs bs
 |_,_=>false
def RK(cs:List (bl U)):List (List Bool×Nat×aK)->Option (Nat×aK)
 |[]=>none
 |(bs,p)::r=>match I0 cs bs with
  |true=>some p
  |false=>RK cs r
def Il(l:List (List Bool×Nat×aK)):bh U->Option (Nat×Nat×aK)
 |[]=>none
 |(q,.box cs)::r=>match RK cs l with
  |some p=>some (q,p)
  |none=>Il l r
 |_::r=>Il l r
def Et{R:Type}(env:bW U)(J:bh U)(N:Nat)(k:bW U->bh U->Nat->Option R):Option R:=
 match Il U.own J with
 |none=>Ev J N λJ N=>k env J N
 |some (q,j,t)=>match AX q j t env J N with
  |some (env,J)=>Ev J (N+1) λJ N=>k env J N
  |none=>none
theorem J6{k:bW U->bh U->Nat->Option R}{r:R}(h:Et env J N k=some r)(he:c3 N J (λ_=>true) env env1)(aF:cv N J J1)(n:kk<=N):
 ∃env' J' N' f bp,k env' J' N'=some r/\Conv kk N env1 J1 N' f bp/\c3 N' J' (λ_=>true) env' f/\cv N' J' bp/\N<=N':=by
 unfold Et at h;split at h
 . obtain⟨q,i,p,a,b,c,d,g⟩:=J4 h he aF;exact⟨_,_,_,_,_,a,b,c,d,g⟩
 . split at h
   . rename_i e s o;obtain⟨aI,s1,j,l,m⟩:=HK o he aF n;obtain⟨q,i,p,a,b,c,d,g⟩:=J4 h l m;exact⟨_,_,_,_,_,a,j.trans b,c,d,by omega⟩
   . cases h
theorem KN:∀{l:List (Pos×aK)} {env env':bW U} {J J':bh U} {N N':Nat} {env1:Env} {J1:a7},AW l env J N=some (env',J',N')->c3 N J (λ_=>true) env env1->cv N J J1->kk<=N->
 ∃a bp,Conv kk N env1 J1 N' a bp/\c3 N' J' (λ_=>true) env' a/\cv N' J' bp/\N<=N'
 |[],env,env',J,J',N,N',env1,J1,h,he,aF,b=>by simp[AW]at h;obtain⟨rfl,rfl,rfl⟩:=h;exact⟨env1,J1,Conv.refl,he,aF,dU _⟩
 |(p,t)::r,env,env',J,J',N,N',env1,J1,h,he,aF,b=>by
  simp only[AW]at h;split at h
  . rename_i e s h1;obtain⟨aI,s1,d,f,g⟩:=Yf h1 he aF b;obtain⟨c,m,i,j,k,n⟩:=KN h f g (by omega);exact⟨c,m,d.trans i,j,k,by omega⟩
  . cases h
end
end
section
open Go
variable {U:cM}
inductive kA where
 |hole (ty:aK)
 |ptr (b o:Nat)
 |cH (b:Nat)(ty:aK)(o:Nat)
 |dP (ty:aK)(o:Nat)
 |arr (b:Nat)
 |mp (b:Nat)
 |cI (b:Nat)
 |aB
 |fc
 |fb
 |fn (f:Nat)(caps:a6)
 |dead
inductive e9 where
 |c (s:kA)
 |agg (l:List kA)
 |row (n:Nat)
 |aY (l:List e9)
inductive fQ where
 |box (l:List kA)
 |arr (ty:aK)
 |bk (n:Nat)
 |gone
 |set
 |buf (E:Nat)
 |b8 (E:Nat)(s:kA)
structure Shape where
 env:List (Nat×e9)
 st:List fQ
abbrev eP(U:cM):=List (Cell U.D)
def qv:kA->eP U->bl U×eP U
 |.hole _,c::r=>(.t c,r)
 |.hole _,[]=>(.dead,[])
 |.ptr b o,r=>(.ptr b o,r)
 |.cH b ty o,⟨.int _,n⟩::r=>(.cH b ty (Int.toNat n) o,r)
 |.cH _ _ _,r=>(.dead,r)
 |.dP _ o,c::r=>(.dP c.ty c.val o,r)
 |.dP _ _,[]=>(.dead,[])
 |.arr b,r=>(.arr b,r)
 |.mp b,r=>(.mp b,r)
 |.cI b,r=>(.cI b,r)
 |.aB,r=>(.aB,r)
 |.fc,r=>(.fc,r)
 |.fb,r=>(.fb,r)
 |.fn f caps,r=>(.fn f caps,r)
 |.dead,r=>(.dead,r)
def xL:List kA->eP U->List (bl U)×eP U
 |[],r=>([],r)
 |s::ss,r=>match qv s r with
  |(x,a)=>match xL ss a with
   |(xs,b)=>(x::xs,b)
mutual
def kS:e9->eP U->bB U×eP U
 |.c s,r=>match qv s r with
  |(x,a)=>(.c x,a)
 |.agg l,r=>match xL l r with
  |(xs,a)=>(.agg xs,a)
 |.row _,c::r=>(.agg ((c.ty.row U c.val).map .t),r)
 |.row _,[]=>(.aY [],[])
 |.aY l,r=>match kT l r with
  |(xs,a)=>(.aY xs,a)
def kT:List e9->eP U->List (bB U)×eP U
 |[],r=>([],r)
 |s::ss,r=>match kS s r with
  |(x,a)=>match kT ss a with
   |(xs,e)=>(x::xs,e)
end
def BA:List (Nat×e9)->eP U->bW U×eP U
 |[],r=>([],r)
 |(k,s)::ss,r=>match kS s r with
  |(x,a)=>match BA ss a with
   |(xs,b)=>((k,x)::xs,b)
def iP:fQ->eP U->Option (cR U)×eP U
 |.box l,r=>match xL l r with
  |(xs,a)=>(some (.box xs),a)
 |.arr _,⟨.slice t,l⟩::r=>(some (.arr t l),r)
 |.arr _,r=>(none,r)
 |.bk _,c::r=>(some (.box ((c.ty.row U c.val).map .t)),r)
 |.bk _,[]=>(none,[])
 |.gone,r=>(none,r)
 |.set,⟨.slice .str,l⟩::r=>(some (.set l),r)
 |.set,r=>(none,r)
 |.buf E,⟨.str,s⟩::r=>(some (.buf E s),r)
 |.buf _,r=>(none,r)
 |.b8 E s,r=>match qv s r with
  |(x,a)=>(some (.b8 E x),a)
def gE:Nat->List fQ->eP U->bh U
 |_,[],_=>[]
 |j,s::ss,r=>match iP s r with
  |(some x,a)=>(j,x)::gE (j+1) ss a
  |(none,a)=>gE (j+1) ss a
def n4{α:Type}:List α->Nat->Option α
 |[],_=>none
 |a::_,0=>some a
 |_::l,n+1=>n4 l n
theorem zx{α:Type}:∀{l:List α} {n:Nat},n4 l n=l[n]?
 |[],n=>by simp[n4]
 |a::l,0=>by simp[n4]
 |a::l,n+1=>by simp[n4,zx (l:=l)]
def qz(bs:a6)(j b:Nat):Bool:=match n4 bs j with
 |some a=>Nat.beq a b
 |none=>false
def Bc(bs:a6):a6->a6->Bool
 |[],[]=>true
 |j::a,c::cs=>qz bs j c&&Bc bs a cs
 |_,_=>false
def Ge(ty:aK):bl U->Option (Cell U.D)
 |.t c=>match Cell.as ty c with
  |some x=>some ⟨ty,x⟩
  |none=>none
 |.aB=>match ty with
  |.slice t=>some ⟨.slice t,([]:List (t.den U.D))⟩
  |_=>none
 |_=>none
def xk(bs:a6):kA->bl U->Option (eP U)
 |.hole ty,x=>match Ge ty x with
  |some c=>some [c]
  |none=>none
 |.ptr j o,.ptr b a=>match qz bs j b&&Nat.beq o a with
  |true=>some []
  |false=>none
 |.cH j ty o,.cH b d i a=>match qz bs j b&&(Nat.beq o a&&aK.beq ty d)with
  |true=>some [⟨.int .i64,(i:Int)⟩]
  |false=>none
 |.dP ty o,.dP d x a=>match Nat.beq o a,Cell.as ty (⟨d,x⟩:Cell U.D)with
  |true,some x=>some [⟨ty,x⟩]
  |_,_=>none
 |.arr j,.arr b=>match qz bs j b with
  |true=>some []
  |false=>none
 |.mp j,.mp b=>match qz bs j b with
  |true=>some []
  |false=>none
 |.cI j,.cI b=>match qz bs j b with
  |true=>some []
  |false=>none
 |.aB,.aB=>some []
 |.fc,.fc=>some []
 |.fb,.fb=>some []
 |.fn f g,.fn e cs=>match Nat.beq f e&&Bc bs g cs with
  |true=>some []
  |false=>none
 |.dead,_=>some []
 |_,_=>none
def qs(bs:a6):List kA->List (bl U)->Option (eP U)
 |[],[]=>some []
 |s::ss,x::xs=>match xk bs s x,qs bs ss xs with
  |some a,some b=>some (a++b)
  |_,_=>none
 |_,_=>none
mutual
def jV(bs:a6):e9->bB U->Option (eP U)
 |.c s,.c x=>xk bs s x
 |.agg l,.agg xs=>qs bs l xs
 |.row n,.agg xs=>match ql U (.nm n) xs with
  |some x=>some [⟨.nm n,x⟩]
  |none=>none
 |.aY l,.aY xs=>mq bs l xs
 |_,_=>none
def mq(bs:a6):List e9->List (bB U)->Option (eP U)
 |[],[]=>some []
 |s::ss,x::xs=>match jV bs s x,mq bs ss xs with
  |some a,some b=>some (a++b)
  |_,_=>none
 |_,_=>none
end
def xl(bs:a6)(env:bW U):List (Nat×e9)->Option (eP U)
 |[]=>some []
 |(k,s)::ss=>match aX env k with
  |some x=>match jV bs s x,xl bs env ss with
   |some a,some b=>some (a++b)
   |_,_=>none
  |none=>none
def oR(bs:a6):fQ->cR U->Option (eP U)
 |.box l,.box xs=>qs bs l xs
 |.arr ty,.arr t l=>match Cell.as (.slice ty) (⟨.slice t,l⟩:Cell U.D)with
  |some l=>some [⟨.slice ty,l⟩]
  |none=>none
 |.arr ty,.rows sz r=>match Nat.beq (ty.sz U) sz,mf U ty r with
  |true,some l=>some [⟨.slice ty,l⟩]
  |_,_=>none
 |.bk n,.box xs=>match ql U (.nm n) xs with
  |some x=>some [⟨.nm n,x⟩]
  |none=>none
 |.set,.set l=>some [⟨.slice .str,l⟩]
 |.buf E,.buf a s=>match Nat.beq E a with
  |true=>some [⟨.str,s⟩]
  |false=>none
 |.b8 E s,.b8 a x=>match Nat.beq E a with
  |true=>xk bs s x
  |false=>none
 |_,_=>none
def i'(bs:a6)(J:bh U):Nat->List fQ->Option (eP U)
 |_,[]=>some []
 |j,.gone::ss=>i' bs J (j+1) ss
 |j,s::ss=>match n4 bs j with
  |some b=>match aX J b with
   |some x=>match oR bs s x,i' bs J (j+1) ss with
    |some a,some r=>some (a++r)
    |_,_=>none
   |none=>none
  |none=>none
variable{a:eP U}{ss:List fQ}
section
variable {kk N:Nat}{J Jc:bh U}{J1:a7}{env:bW U}{env1:Env}{bs:a6}
def Can(bs:a6)(J Jc:bh U):Prop:=∀j b a,bs[j]?=some b->aX Jc j=some a->∃x,aX J b=some x/\∀p,a.de=some p->x.de=some p
theorem mP(bT:bs.Nodup){j b:Nat}(h:bs[j]?=some b):pos bs b=some j:=by
 induction bs generalizing j with
 |nil=>simp at h
 |cons a bs ih=>
  simp only[pos];grind
theorem wB{j b:Nat}(h:qz bs j b=true):bs[j]?=some b:=by
 unfold qz at h;rw[zx]at h;split at h
 . simp_all
 . cases h
theorem KO(bT:bs.Nodup):∀{a cs:a6},Bc bs a cs=true->oc bs cs=some a
 |[],[],_=>rfl
 |j::a,c::cs,h=>by
  simp only[Bc,cd]at h;simp[oc,mP bT (wB h.1),KO bT h.2]
theorem Y'{ty:aK}{x:bl U}{c:Cell U.D}{d:C}(h:Ge ty x=some c)(a:cl N J x d):dz (d.bO bs) (.t (c.enc U))/\c.ty=ty:=by
 unfold Ge at h;split at h
 . split at h
   . rename_i e y b;cases h;rw[Cell.kC b]at a;cases a;exact⟨dz.refl _,rfl⟩
   . cases h
 . split at h
   . cases h;cases a;exact⟨dz.aB,rfl⟩
   . cases h
 . cases h
theorem Ho(bT:bs.Nodup)(A:Can bs J Jc){s:kA}{x:bl U}(h:xk bs s x=some a):
 ∃y,(∀r,qv s (a++r)=(y,r))/\∀d,cl N J x d->∃z,dz (d.bO bs) z/\cl bs.length Jc y z:=by
 unfold xk at h;split at h
 . split at h
   . rename_i c E;cases h;exact⟨.t c,λr=>rfl,λd g=>⟨_,(Y' E g).1,.t c⟩⟩
   . cases h
 . rename_i j o b B;split at h
   . rename_i k;simp only[cd]at k;have:=cV k.2;subst this;cases h;refine⟨.ptr j o,λr=>rfl,λd g=>⟨.ptr j o,?_,.ptr j o⟩⟩;cases g;simp only[C.bO,mP bT (wB k.1)];exact dz.refl _
   . cases h
 . rename_i j ty o b H i B;split at h
   . rename_i k;simp only[cd]at k;have:=cV k.2.1;subst this;have:=aK.beq_eq k.2.2;subst this;cases h;refine⟨.cH j ty i o,λr=>rfl,λd g=>⟨.cH j (ty.sz U) i o,?_,.cH j ty i o⟩⟩;cases g;simp only[C.bO,mP bT (wB k.1)];exact dz.refl _
   . cases h
 . rename_i ty o H x B;split at h
   . rename_i y F G;have:=cV F;subst this;cases h;have e:=Cell.kC G;cases e;refine⟨.dP ty y o,λr=>rfl,λd g=>⟨d,?_,?_⟩⟩
     . cases g;exact dz.refl _
     . cases g;exact .dP ty y o
   . cases h
 . rename_i j b;split at h
   . rename_i k;cases h;refine⟨.arr j,λr=>rfl,λd g=>?_⟩;cases g with
     |arr _ sz n D aa=>
      have l:=wB k;refine⟨.arr j sz 0 n,?_,.arr j sz n (c5.1 l).1 λx u p q=>?_⟩
      . simp only[C.bO,mP bT l];exact dz.refl _
      . obtain⟨w,h1,m⟩:=A j b x l u;exact aa w h1 p (m p q)
   . cases h
 . rename_i j b;split at h
   . rename_i k;cases h;refine⟨.mp j,λr=>rfl,λd g=>?_⟩;cases g;refine⟨.mp j,?_,.mp j⟩;simp only[C.bO,mP bT (wB k)];exact dz.refl _
   . cases h
 . rename_i j b;split at h
   . rename_i k;cases h;refine⟨.cI j,λr=>rfl,λd g=>?_⟩;cases g with
     |cI _ n D aa=>
      have l:=wB k;refine⟨.cI j n,?_,.cI j n (c5.1 l).1 λx u p q=>?_⟩
      . simp only[C.bO,mP bT l];exact dz.refl _
      . obtain⟨w,h1,m⟩:=A j b x l u;exact aa w h1 p (m p q)
   . cases h
 . cases h;exact⟨.aB,λr=>rfl,λd g=>by cases g;exact⟨.aB,dz.refl _,.aB⟩⟩
 . cases h;exact⟨.fc,λr=>rfl,λd g=>by cases g;exact⟨.fc,dz.refl _,.fc⟩⟩
 . cases h;exact⟨.fb,λr=>rfl,λd g=>by cases g;exact⟨.fb,dz.refl _,.fb⟩⟩
 . rename_i f v I cs;split at h
   . rename_i k;simp only[cd]at k;have:=cV k.1;subst this;cases h;refine⟨.fn f v,λr=>rfl,λd g=>⟨.fn f v,?_,.fn f v⟩⟩;cases g;simp only[C.bO,KO bT k.2];exact dz.refl _
   . cases h
 . cases h;exact⟨.dead,λr=>rfl,λd g=>⟨.dead,dz.dead _,.dead _⟩⟩
 . cases h
theorem HL(bT:bs.Nodup)(d:Can bs J Jc):∀{ss:List kA} {xs:List (bl U)} {a:eP U},qs bs ss xs=some a->
 ∃ys,(∀r,xL ss (a++r)=(ys,r))/\∀ds,a' (cl N J) xs ds->∃b,a' dz (ds.map (C.bO bs)) b/\a' (cl bs.length Jc) ys b
 |[],[],a,h=>by simp[qs]at h;subst h;exact⟨[],λr=>rfl,λds c=>by cases c;exact⟨[],.nil,.nil⟩⟩
 |s::ss,x::xs,a,h=>by
  simp only[qs]at h;split at h
  . rename_i a1 a2 h1 j;cases h;obtain⟨y,f1,g⟩:=Ho (N:=N) bT d h1;obtain⟨ys,f2,i⟩:=HL bT d j;refine⟨y::ys,λr=>by simp only[xL,hz,f1,f2],λds c=>?_⟩;cases c with
    |cons u6 k=>
     obtain⟨e,aI,f⟩:=g _ u6;obtain⟨b,dh,gx⟩:=i _ k;exact⟨e::b,.cons aI dh,.cons f gx⟩
  . cases h
 |[],_::_,a,h=>by simp[qs]at h
 |_::_,[],a,h=>by simp[qs]at h
theorem LG{n:Nat}{xs:List (bl U)}{x:(aK.nm n).den U.D}(h:ql U (.nm n) xs=some x):∀ds,a' (cl N J) xs ds->∃e,a' dz (ds.map (C.bO bs)) e/\a' (cl bs.length Jc) (((aK.nm n).row U x).map .t) e:=by
 intro ds g;refine⟨((aK.nm n).enc U x).map .t,?_,zg⟩;unfold ql at h;split at h
 . rename_i row a;rw[aK.u3,aK.Fl h,List.map_map];clear h;generalize (aK.nm n).cells U=dc at a;induction xs generalizing dc row ds with
   |nil=>
    cases g;cases dc<;>simp[iM]at a;subst a;exact .nil
   |cons y ys ih=>
    cases g with
    | @cons _ d _ ds h1 f=>
     cases dc with
     |nil=>cases y<;>simp[iM]at a
     |cons ty dc=>
      cases h1 with
      |t c=>cases ty<;>simp only[iM]at a<;>(split at a<;>first|(cases a;done)|(rename_i q b;cases a;exact .cons (dz.refl _) (ih _ f _ _ b)))
      |aB=>
       cases ty<;>simp only[iM,reduceCtorEq]at a;split at a
       . rename_i q b;cases a;exact .cons dz.aB (ih _ f _ _ b)
       . cases a
      |_=>cases ty<;>simp[iM]at a
 . cases h
mutual
theorem EO(bT:bs.Nodup)(u:Can bs J Jc):∀{s:e9} {x:bB U} {a:eP U},jV bs s x=some a->
 ∃y,(∀r,kS s (a++r)=(y,r))/\∀d,ca N J x d->∃j,gr (d.bO bs) j/\ca bs.length Jc y j
 |.c s,.c x,a,h=>by
  simp only[jV]at h;obtain⟨y,f,g⟩:=Ho (N:=N) bT u h;refine⟨.c y,λr=>by simp only[kS,f],λd e=>?_⟩;cases e with
  |c e=>obtain⟨j,aI,p⟩:=g _ e;exact⟨.c j,.c aI,.c p⟩
 |.agg l,.agg xs,a,h=>by
  simp only[jV]at h;obtain⟨y,f,g⟩:=HL (N:=N) bT u h;refine⟨.agg y,λr=>by simp only[kS,f],λd e=>?_⟩;cases e with
  |agg e=>obtain⟨j,aI,p⟩:=g _ e;exact⟨.agg j,.agg aI,.agg p⟩
 |.row n,.agg xs,a,h=>by
  simp only[jV]at h;split at h
  . rename_i x q;cases h;refine⟨.agg (((aK.nm n).row U x).map .t),λr=>rfl,λd e=>?_⟩;cases e with
    |agg e=>obtain⟨j,aI,p⟩:=LG q _ e;exact⟨.agg j,.agg aI,.agg p⟩
  . cases h
 |.aY l,.aY xs,a,h=>by
  simp only[jV]at h;obtain⟨ys,f,af,g⟩:=uX bT u h;refine⟨.aY ys,λr=>by simp only[kS,f],λd e=>?_⟩;cases e with
  |aY _ ds D e=>
   obtain⟨o,aI,p,dh⟩:=g ds D e;refine⟨.aY o,.aY _ _ (by rw[C4];exact aI.symm) ?_,.aY _ _ (by omega) λi x d q v=>(dh i x d q v)⟩;intro i x y q E;rw[Dz,bd]at q;grind
 |.c _,.agg _,a,h=>by simp[jV]at h
 |.c _,.aY _,a,h=>by simp[jV]at h
 |.agg _,.c _,a,h=>by simp[jV]at h
 |.agg _,.aY _,a,h=>by simp[jV]at h
 |.row _,.c _,a,h=>by simp[jV]at h
 |.row _,.aY _,a,h=>by simp[jV]at h
 |.aY _,.c _,a,h=>by simp[jV]at h
 |.aY _,.agg _,a,h=>by simp[jV]at h
theorem uX(bT:bs.Nodup)(u:Can bs J Jc):∀{ss:List e9} {xs:List (bB U)} {a:eP U},mq bs ss xs=some a->
 ∃ys:List (bB U),(∀r,kT ss (a++r)=(ys,r))/\ys.length=xs.length/\∀ds:List V,xs.length=ds.length->(∀(i:Nat) x d,xs[i]?=some x->ds[i]?=some d->ca N J x d)->
  ∃o:List V,o.length=ds.length/\(∀(i:Nat) (d j:V),ds[i]?=some d->o[i]?=some j->gr (d.bO bs) j)/\(∀(i:Nat) y j,ys[i]?=some y->o[i]?=some j->ca bs.length Jc y j)
 |[],[],a,h=>by simp[mq]at h;subst h;exact⟨[],λr=>rfl,rfl,λds af e=>⟨[],by simpa using af,by simp,by simp⟩⟩
 |s::ss,x::xs,a,h=>by
  simp only[mq]at h;split at h
  . rename_i a1 a2 h1 B;cases h;obtain⟨y,f1,z⟩:=EO bT u h1;obtain⟨ys,f2,af,A⟩:=uX bT u B;refine⟨y::ys,λr=>by simp only[kT,hz,f1,f2],by simp[af],λds w e=>?_⟩;cases ds with
    |nil=>simp at w
    |cons d ds=>
     obtain⟨j,aI,p⟩:=z d (e 0 x d rfl rfl);obtain⟨o,dh,gx,jW⟩:=A ds (by simpa using w) λi x d q v=>e (i+1) x d (by simpa using q) (by simpa using v);refine⟨j::o,by simp[dh],λi=>?_,λi=>?_⟩
     . grind
     grind
  . cases h
 |[],_::_,a,h=>by simp[mq]at h
 |_::_,[],a,h=>by simp[mq]at h
end
theorem GO:∀{ks:a6} {k:Nat} {g:Bool} {v:V},k∈ks->look env1 k=some (g,v)->look (n' bs env1 ks) k=some (g,v.bO bs)
 |x::ks,k,g,v,b,af=>by
  simp only[n'];by_cases h:x=k
  . subst h;rw[af];simp[look]
  . have a:k∈ks:=(by grind);split
    . simp only[look,ak h];exact GO a af
    . exact GO a af
theorem KP(bT:bs.Nodup)(f:Can bs J Jc)(he:c3 N J (λ_=>true) env env1):∀{ss:List (Nat×e9)} {a:eP U},xl bs env ss=some a->
 ∃e,(∀r,BA ss (a++r)=(e,r))/\∃c:Env,c3 bs.length Jc (λ_=>true) e c/\∀k g j,look c k=some (g,j)->k∈ss.map Prod.fst/\∃v,look env1 k=some (g,v)/\gr (v.bO bs) j
 |[],a,h=>by simp[xl]at h;subst h;exact⟨[],λr=>rfl,[],λk v p=>by simp[aX]at p,λk g v h=>by simp[look]at h⟩
 |(k,s)::ss,a,h=>by
  simp only[xl]at h;split at h
  . rename_i x q;split at h
    . rename_i a1 a2 h1 n;cases h;obtain⟨y,f1,m⟩:=EO (N:=N) bT f h1;obtain⟨e,f2,c,aI,u⟩:=KP bT f he n;obtain⟨d,w,t⟩:=he k x q;obtain⟨l,z,A⟩:=m d t;refine⟨(k,y)::e,λr=>by simp only[BA,hz,f1,f2],(k,true,l)::c,λi v b=>?_,λi g v b=>?_⟩
      . simp only[aX]at b;simp only[look];split at b
        . simp_all
        . rename_i o;rw[ak (hN o)];exact aI i v b
      . simp only[look]at b;grind
    . cases h
  . cases h
theorem Hp(bT:bs.Nodup)(k:Can bs J Jc){s:fQ}{x:cR U}(h:oR bs s x=some a):
 ∃y,(∀r,iP s (a++r)=(some y,r))/\(∀d,h2 N J x d->∃i,j4 (d.bO bs) i/\h2 bs.length Jc y i):=by
 unfold oR at h;split at h
 . obtain⟨ys,f,g⟩:=HL (N:=N) bT k h;refine⟨.box ys,λr=>by simp only[iP,f],λd b=>?_⟩;cases b with
   |box b=>obtain⟨j,aI,c⟩:=g _ b;exact⟨.box j,.box aI,.box c⟩
 . rename_i ty t q;split at h
   . rename_i l af;cases h;have e:=Cell.kC af;cases e;refine⟨.arr ty l,λr=>rfl,λd b=>?_⟩;cases b;exact⟨_,.arr,.arr ty l⟩
   . cases h
 . rename_i ty sz r;split at h
   . rename_i l m af;cases h;have:=cV m;subst this;refine⟨.arr ty l,λr=>rfl,λd b=>?_⟩;cases b with
     |rows h1 p=>
      refine⟨_,.arr,?_⟩;rw[<-vT af h1];exact .arr ty l
   . cases h
 . rename_i n xs;split at h
   . rename_i x o;cases h;refine⟨.box (((aK.nm n).row U x).map .t),λr=>rfl,λd b=>?_⟩;cases b with
     |box b=>obtain⟨j,aI,c⟩:=LG o _ b;exact⟨.box j,.box aI,.box c⟩
   . cases h
 . cases h;refine⟨.set _,λr=>rfl,λd b=>?_⟩;cases b;exact⟨_,.same,.set _⟩
 . split at h
   . rename_i dD;have:=cV dD;subst this;cases h;refine⟨.buf _ _,λr=>rfl,λd b=>?_⟩;cases b;exact⟨_,.same,.buf _ _⟩
   . cases h
 . split at h
   . rename_i dD;have:=cV dD;subst this;obtain⟨y,f,g⟩:=Ho (N:=N) bT k h;refine⟨.b8 _ y,λr=>by simp only[iP,f];rfl,λd b=>?_⟩;cases b with
     |b8 b=>obtain⟨i,aI,c⟩:=g _ b;exact⟨.b8 _ i,.b8 aI,.b8 c⟩
   . cases h
 . cases h
theorem J7{t:aK}:∀{r:List (List (bl U))} {l:List (t.den U.D)},mf U t r=some l->l.length=r.length
 |[],l,h=>by simp[mf]at h;subst h;rfl
 |r::c,l,h=>by
  simp only[mf]at h;split at h
  . rename_i x xs b a;cases h;simp[J7 a]
  . cases h
theorem abe{s:fQ}{x y:cR U}{r:eP U}(h:oR bs s x=some a)(b:iP s (a++r)=(some y,r)):∀p,y.de=some p->x.de=some p:=by
 unfold oR at h;split at h
 . intro p c;simp only[iP,bE,bI]at b;rw[<-b.1]at c;simp[cR.de]at c
 . rename_i ty t g;split at h
   . rename_i l af;cases h;have e:=Cell.kC af;cases e;simp only[iP,rM,fZ,bE,bI,qa]at b;grind
   . cases h
 . rename_i ty sz i;split at h
   . rename_i l d af;cases h;have:=cV d;subst this;simp only[iP,rM,fZ,bE,bI,qa]at b;rw[<-b];intro p c;simp only[cR.de]at c⊢;rw[<-J7 af];exact c
   . cases h
 . rename_i n xs;split at h
   . rename_i x f;cases h;intro p c;simp only[iP,rM,fZ,bE,bI,qa]at b;rw[<-b]at c;simp[cR.de]at c
   . cases h
 . cases h;simp only[iP,rM,fZ,bE,bI,qa]at b;grind
 . split at h
   . rename_i dD;have:=cV dD;subst this;cases h;simp only[iP,rM,fZ,bE,bI,qa]at b;grind
   . cases h
 . split at h
   . intro p c;simp only[iP,bE,bI]at b;rw[<-b.1]at c;simp[cR.de]at c
   . cases h
 . cases h
theorem py(bT:bs.Nodup):∀{ss:List fQ} {j:Nat} {a:eP U},i' bs J j ss=some a->
 (∀i c,aX (gE j ss a) i=some c->j<=i/\i<j+ss.length/\∃b x,bs[i]?=some b/\aX J b=some x/\∃s e,oR bs s x=some e/\∀r,iP s (e++r)=(some c,r))
 |[],j,a,h=>by intro i c d;simp[gE,aX]at d
 |.gone::ss,j,a,h=>by
  intro i c d;simp only[i']at h;simp only[gE,iP]at d;obtain⟨h1,g,p⟩:=py bT h i c d;grind
 |.box l::ss,j,a,h=>uW bT (s:= .box l) (λ{j a}=>py bT (ss:=ss) (j:=j) (a:=a)) (by simpa only[i']using h)
 |.arr l::ss,j,a,h=>uW bT (s:= .arr l) (λ{j a}=>py bT (ss:=ss) (j:=j) (a:=a)) (by simpa only[i']using h)
 |.bk l::ss,j,a,h=>uW bT (s:= .bk l) (λ{j a}=>py bT (ss:=ss) (j:=j) (a:=a)) (by simpa only[i']using h)
 |.set::ss,j,a,h=>uW bT (s:= .set) (λ{j a}=>py bT (ss:=ss) (j:=j) (a:=a)) (by simpa only[i']using h)
 |.buf E::ss,j,a,h=>uW bT (s:= .buf E) (λ{j a}=>py bT (ss:=ss) (j:=j) (a:=a)) (by simpa only[i']using h)
 |.b8 E l::ss,j,a,h=>uW bT (s:= .b8 E l) (λ{j a}=>py bT (ss:=ss) (j:=j) (a:=a)) (by simpa only[i']using h)
where
 uW (bT:bs.Nodup) {s:fQ} {ss:List fQ} (ih:∀{j:Nat} {a:eP U},i' bs J j ss=some a->
  (∀i c,aX (gE j ss a) i=some c->j<=i/\i<j+ss.length/\∃b x,bs[i]?=some b/\aX J b=some x/\∃s e,oR bs s x=some e/\∀r,iP s (e++r)=(some c,r))) {j:Nat} {a:eP U} (h:(match n4 bs j with
  |some b=>match aX J b with
   |some x=>match oR bs s x,i' bs J (j+1) ss with
    |some a,some r=>some (a++r)
    |_,_=>none
   |none=>none
  |none=>none)=some a):(∀i c,aX (gE j (s::ss) a) i=some c->j<=i/\i<j+(s::ss).length/\∃b x,bs[i]?=some b/\aX J b=some x/\∃s e,oR bs s x=some e/\∀r,iP s (e++r)=(some c,r)):=by
  intro i c d;split at h
  . rename_i b k;rw[zx]at k;split at h
    . rename_i x n;split at h
      . rename_i a1 a2 h1 g;cases h;obtain⟨y,f,_⟩:=Hp (N:=0) (J:=J) (Jc:=[]) bT (λ_ _ _ _ h=>by simp[aX]at h) h1;simp only[gE,f,aX]at d;split at d
        . rename_i m;have:=cV m;subst this;cases d;exact⟨dU _,by simp,b,x,k,n,s,a1,h1,f⟩
        . obtain⟨q,t,o⟩:=ih g i c d;exact⟨by omega,by simp;omega,o⟩
      . cases h
    . cases h
  . cases h
def hx(U:cM)(bA:Shape)(a:eP U):bW U×bh U:=
 match BA bA.env a with
 |(e,r)=>(e,gE 0 bA.st r)
def EN(bs:a6)(bA:Shape)(env:bW U)(J:bh U):Option (eP U):=
 match xl bs env bA.env,i' bs J 0 bA.st with
 |some a,some b=>some (a++b)
 |_,_=>none
theorem zF(bT:bs.Nodup){b:eP U}(g:i' bs J 0 ss=some b):Can bs J (gE 0 ss b):=by
 intro j c k a i;obtain⟨_,_,m,x,h1,d,s,l,e,f⟩:=py bT g j k i;rw[h1]at a;cases a;exact⟨x,d,abe e (f [])⟩
theorem y2{J1:a7}:∀{r:a6} {i j c:Nat} {x:bP},r[j]?=some c->aV J1 c=some x->aV (fy bs J1 i r) (i+j)=some (x.bO bs)
 |[],i,j,c,x,h,_=>by simp at h
 |b::r,i,0,c,x,h,a=>by
  simp at h;subst h;simp only[fy,a,aV,l8,bS]
 |b::r,i,j+1,c,x,h,a=>by
  simp only[fy];have:=y2 (i:=i+1) (j:=j) (r:=r) (by simpa using h) a;rw[show i+1+j=i+(j+1) by omega]at this;split
  . simp only[aV];rw[a8];exact this
  omega
theorem Dq(bT:bs.Nodup)(aF:cv N J J1){b:eP U}(k:i' bs J 0 ss=some b):
 ∃bp,r' (fy bs J1 0 bs) bp/\cv bs.length (gE 0 ss b) bp:=by
 have M:=zF bT k;have P:=py bT k;generalize gE 0 ss b=Jc at*;have key:∀(l:bh U),(∀i a,aX l i=some a->aX Jc i=some a)->∃bp:a7,(∀i x,aV bp i=some x->∃y,aV (fy bs J1 0 bs) i=some y/\j4 y x)/\(∀i a,aX l i=some a->i<bs.length/\∃y,aV bp i=some y/\h2 bs.length Jc a y):=by
  intro l;induction l with
  |nil=>intro _;exact⟨[],λi x h=>by simp[aV]at h,λi x h=>by simp[aX]at h⟩
  |cons p l ih=>
   obtain⟨d,u⟩:=p;intro af;have:∃bp:a7,(∀i x,aV bp i=some x->∃y,aV (fy bs J1 0 bs) i=some y/\j4 y x)/\(∀i a,i≠d->aX l i=some a->i<bs.length/\∃y,aV bp i=some y/\h2 bs.length Jc a y):=by
    have:=ih;have aux:∀(m:bh U),(∀i a,i≠d->aX m i=some a->aX Jc i=some a)->∃bp:a7,(∀i x,aV bp i=some x->∃y,aV (fy bs J1 0 bs) i=some y/\j4 y x)/\(∀i a,i≠d->aX m i=some a->i<bs.length/\∃y,aV bp i=some y/\h2 bs.length Jc a y):=by
     intro m X;have R:∀i a,aX (dl m d) i=some a->aX Jc i=some a:=by
      intro i a h;rw[oj]at h;grind
     have build:∀n,∃bp:a7,(∀i x,aV bp i=some x->∃y,aV (fy bs J1 0 bs) i=some y/\j4 y x)/\(∀i a,i<n->aX (dl m d) i=some a->i<bs.length/\∃y,aV bp i=some y/\h2 bs.length Jc a y):=by
      intro n;induction n with
      |zero=>exact⟨[],λi x h=>by simp[aV]at h,λi x h=>by omega⟩
      |succ n T=>
       obtain⟨s,h1,g⟩:=T;cases aE:aX (dl m d) n with
       |none=>exact ⟨s,h1,λi a o c=>g i a (by have:i≠n:=λe=>by subst e; rw [aE] at c; cases c
                                              omega) c⟩
       |some L=>
        obtain⟨_,_,v,x,r,A,W,Q,B,C⟩:=P n L (R n L aE);obtain⟨_,y,E,F⟩:=aF v x A;obtain⟨z,f,q⟩:=Hp (N:=N) bT M B;have:z=L:=by have:=(f []).symm.trans (C []);simpa using this
        subst this;obtain⟨t,V,G⟩:=q y F;have ht:=y2 (bs:=bs) (i:=0) (j:=n) r E;rw[gm]at ht;refine⟨db s n t,λi x o=>?_,λi a o c=>?_⟩
        . rw[cZ]at o;grind
        . by_cases e:i=n
          . subst e;rw[aE]at c;cases c;exact⟨(c5.1 r).1,t,by rw[cZ,ae rfl],G⟩
          . obtain⟨H,z,I,K⟩:=g i a (by omega) c;exact⟨H,z,by rw[cZ,ak (λw=>e w.symm)];exact I,K⟩
     obtain⟨s,h1,g⟩:=build bs.length;refine⟨s,h1,λi a D c=>?_⟩;have O:aX (dl m d) i=some a:=by rw[oj,ak (λe=>D e.symm)];exact c
     grind
    exact aux l λi a D h=>af i a (by
     simp only[aX];cases k:Nat.beq d i with
     |true=>exact absurd (cV k).symm D
     |false=>exact h)
   obtain⟨s,h1,g⟩:=this;have S:aX Jc d=some u:=af d u (by simp[aX,yC]);obtain⟨_,_,v,x,r,A,W,Q,B,C⟩:=P d u S;obtain⟨_,y,E,F⟩:=aF v x A;obtain⟨z,f,q⟩:=Hp (N:=N) bT M B;have:z=u:=by have:=(f []).symm.trans (C []);simpa using this
   subst this;obtain⟨t,V,G⟩:=q y F;have ht:=y2 (bs:=bs) (i:=0) (j:=d) r E;rw[gm]at ht;refine⟨db s d t,λi x o=>?_,λi a c=>?_⟩
   . rw[cZ]at o;grind
   . by_cases e:i=d
     . subst e;simp[aX,yC]at c;subst c;exact⟨(c5.1 r).1,t,by rw[cZ,ae rfl],G⟩
     . have O:aX l i=some a:=by
        simp only[aX]at c;cases k:Nat.beq d i with
        |true=>exact absurd (cV k).symm e
        |false=>rw[k]at c;exact c
       obtain⟨H,z,I,K⟩:=g i a e O;exact⟨H,z,by rw[cZ,ak (λw=>e w.symm)];exact I,K⟩
 obtain⟨s,h1,g⟩:=key Jc λ_ _ h=>h;exact⟨s,λi x o=>h1 i x o,λi a c=>g i a c⟩
theorem aa1(bT:bs.Nodup)(l:keeps kk bs=true)(he:c3 N J (λ_=>true) env env1)(aF:cv N J J1){bA:Shape}(h:EN bs bA env J=some a):
 ∃c bp,Conv kk N env1 J1 bs.length c bp/\c3 bs.length (hx U bA a).2 (λ_=>true) (hx U bA a).1 c/\cv bs.length (hx U bA a).2 bp:=by
 unfold EN at h;split at h
 . rename_i a1 b h1 d;cases h;obtain⟨i,f,c,aI,e⟩:=KP bT (zF bT d) he h1;obtain⟨bp,s1,o⟩:=Dq bT aF d;have j:hx U bA (a1++b)=(i,gE 0 bA.st b):=(by simp only[hx,f]);rw[j];refine⟨c,bp,(Conv.tidy (bA.env.map Prod.fst) bs bT l).trans (Conv.weaken (λk g p af=>?_) s1),aI,o⟩;obtain⟨m,v,n,hs⟩:=e k g p af;exact⟨_,GO m n,hs⟩
 . cases h
end
end
section
open Go
variable {U:cM}
def fg(D:Nat->Type):aK->List aK->Type
 |t,[]=>t.den D
 |t,u::r=>t.den D×fg D u r
def aL(D:Nat->Type):List aK->Type
 |[]=>Unit
 |t::r=>fg D t r
def fg.cells(D:Nat->Type):(t:aK)->(ts:List aK)->fg D t ts->List (Cell D)
 |t,[],x=>[⟨t,x⟩]
 |t,u::r,x=>⟨t,x.1⟩::fg.cells D u r x.2
def aL.cells(D:Nat->Type):(ts:List aK)->aL D ts->List (Cell D)
 |[],_=>[]
 |t::r,x=>fg.cells D t r x
def Fj{α:Type}:List α->Option α
 |[c]=>some c
 |_=>none
def u6{α:Type}:List α->Option (α×List α)
 |[]=>none
 |c::r=>some (c,r)
def fg.dec(D:Nat->Type):(t:aK)->(ts:List aK)->List (Cell D)->Option (fg D t ts)
 |t,[],l=>match Fj l with
  |some c=>c.as t
  |none=>none
 |t,u::r,l=>match u6 l with
  |some p=>match p.1.as t with
   |some x=>match fg.dec D u r p.2 with
    |some y=>some (x,y)
    |none=>none
   |none=>none
  |none=>none
def aL.dec(D:Nat->Type):(ts:List aK)->List (Cell D)->Option (aL D ts)
 |[],l=>match l with
  |[]=>some ()
  |_=>none
 |t::r,l=>fg.dec D t r l
variable{α:Type}{D:Nat->Type}{J:bh U}{N:Nat}{c:α×List α}
theorem Za{l:List α}{c:α}(h:Fj l=some c):l=[c]:=by
 unfold Fj at h;split at h
 . cases h;rfl
 . cases h
theorem abf{l:List α}(h:u6 l=some c):l=c.1::c.2:=by
 unfold u6 at h;split at h
 . cases h
 grind
theorem fg.fm:∀{ts:List aK} {t:aK} {a:List (Cell D)} {h:fg D t ts},fg.dec D t ts a=some h->fg.cells D t ts h=a
 |[],t,a,h,e=>by
  unfold fg.dec at e;split at e
  . rename_i c f;rw[Za f,Cell.kC (t:=t) (x:=h) e];rfl
  . cases e
 |u::r,t,a,h,e=>by
  unfold fg.dec at e;split at e
  . rename_i p j;split at e
    . rename_i x o;split at e
      . rename_i y q;cases e;have:=fg.fm q;show⟨t,x⟩::fg.cells D u r y=a;rw[this,abf j,<-Cell.kC o]
      . cases e
    . cases e
  . cases e
theorem aL.fm:∀{ts:List aK} {a:List (Cell D)} {h:aL D ts},aL.dec D ts a=some h->aL.cells D ts h=a
 |[],[],h,e=>rfl
 |[],_::_,h,e=>by cases (show(none:Option Unit)=some h from e)
 |t::r,a,h,e=>fg.fm e
def fg.ke(U:cM):(t:aK)->(ts:List aK)->fg U.D t ts
 |t,[]=>t.ke U
 |t,u::r=>(t.ke U,fg.ke U u r)
def aL.ke(U:cM):(ts:List aK)->aL U.D ts
 |[]=>()
 |t::r=>fg.ke U t r
abbrev j7:=List (Nat×Nat)×List (Nat×aK)
def F6:kA->bl U->j7->j7
 |.ptr j _,.ptr b _,s=>((j,b)::s.1,s.2)
 |.cH j _ _,.cH b _ _ _,s=>((j,b)::s.1,s.2)
 |.arr j,.arr b,s=>((j,b)::s.1,s.2)
 |.mp j,.mp b,s=>((j,b)::s.1,s.2)
 |.cI j,.cI b,s=>((j,b)::s.1,s.2)
 |.fn _ a,.fn _ cs,s=>(a.zip cs++s.1,s.2)
 |.hole (.slice t),.arr b,s=>(s.1,(b,t)::s.2)
 |_,_,s=>s
def F7:List kA->List (bl U)->j7->j7
 |a::as,x::xs,s=>F7 as xs (F6 a x s)
 |_,_,s=>s
def CU:List aK->List (bl U)->j7->j7
 |.slice t::ts,.arr b::xs,s=>CU ts xs (s.1,(b,t)::s.2)
 |_::ts,_::xs,s=>CU ts xs s
 |_,_,s=>s
mutual
def F9:e9->bB U->j7->j7
 |.c a,.c x,s=>F6 a x s
 |.agg l,.agg xs,s=>F7 l xs s
 |.row n,.agg xs,s=>CU (U.dc n) xs s
 |.aY l,.aY xs,s=>CV l xs s
 |_,_,s=>s
def CV:List e9->List (bB U)->j7->j7
 |a::as,x::xs,s=>CV as xs (F9 a x s)
 |_,_,s=>s
end
def F8(env:bW U):List (Nat×e9)->j7->j7
 |[],s=>s
 |(k,a)::r,s=>match aX env k with
  |some x=>F8 env r (F9 a x s)
  |none=>F8 env r s
def agW:fQ->cR U->j7->j7
 |.box l,.box xs,s=>F7 l xs s
 |.bk n,.box xs,s=>CU (U.dc n) xs s
 |.b8 _ a,.b8 _ x,s=>F6 a x s
 |_,_,s=>s
def wV(J:bh U)(kk:Nat):Nat->List fQ->j7->a6->a6×List (Nat×aK)
 |_,[],s,acc=>(acc.reverse,s.2)
 |j,a::r,s,acc=>
  let b:=match aX s.1 j with
   |some b=>b
   |none=>match Nat.ble (j+1) kk with
    |true=>j
    |false=>1000000+j
  match aX J b with
  |some x=>wV J kk (j+1) r (agW a x s) (b::acc)
  |none=>wV J kk (j+1) r s (b::acc)
def ta:a6->Bool
 |[]=>true
 |a::l=>(l.all λb=>!(Nat.beq a b))&&ta l
theorem y3:∀{l:a6},ta l=true->l.Nodup
 |[],_=>wG
 |a::l,h=>by
  simp only[ta,cd,c0,qe]at h;refine List.nodup_cons.2 ⟨λb=>?_,y3 h.2⟩;have c:=h.1 a b;simp_all
def r3(kk:Nat)(own:List (Pos×aK))(bA:Shape)(ts:List aK)(env:bW U)(J:bh U)(N:Nat):Option (aL U.D ts):=
 match AW own env J N with
 |none=>none
 |some (env,J,_)=>match IZ env J with
  |none=>none
  |some (env,J)=>match wV J kk 0 bA.st (F8 env bA.env ([],[])) []with
   |(bs,b)=>match k0 b env J with
    |none=>none
    |some (env,J)=>match ta bs&&(keeps kk bs&&Nat.beq bs.length bA.st.length)with
     |false=>none
     |true=>match EN bs bA env J with
      |none=>none
      |some a=>aL.dec U.D ts a
section
variable {kk N:Nat}{J:bh U}{J1:a7}{env:bW U}{env1:Env}
theorem CN{own:List (Pos×aK)}{bA:Shape}{ts:List aK}{h:aL U.D ts}(b:r3 kk own bA ts env J N=some h)(he:c3 N J (λ_=>true) env env1)(aF:cv N J J1)(z:kk<=N):
 ∃c bp,Conv kk N env1 J1 bA.st.length c bp/\c3 bA.st.length (hx U bA (aL.cells U.D ts h)).2 (λ_=>true) (hx U bA (aL.cells U.D ts h)).1 c/\cv bA.st.length (hx U bA (aL.cells U.D ts h)).2 bp/\kk<=bA.st.length:=by
 unfold r3 at b;split at b
 . cases b
 . rename_i I J2 G h1;obtain⟨cW,rS,f,v,n,cr⟩:=KN h1 he aF z;split at b
   . cases b
   rename_i K E u;obtain⟨aI,s1,i,w,o⟩:=Yw (kk:=kk) u v n;have g:=f.trans i;split at b;rename_i bs M _;split at b
   . cases b
   . rename_i L F l;obtain⟨H,P,j,x,p,_⟩:=zh (kk:=kk) (gl:=[]) l w o;split at b
     . cases b
     . rename_i d;simp only[cd]at d;obtain⟨s,e,t⟩:=d;have A:=cV t;split at b
       . cases b
       . rename_i a r;obtain⟨dh,C,k,y,q⟩:=aa1 (y3 s) e x p r;rw[aL.fm b,<-A];refine⟨dh,C,g.trans (j.trans k),y,q,?_⟩;by_cases O:kk=0
         . omega
         . have B:(bs[kk-1]?==some (kk-1))=true:=by
            unfold keeps at e;grind
           have m:bs[kk-1]?=some (kk-1):=(by simpa using B);have:=(c5.1 m).1;omega
end
structure cD (U:cM) where
 f:Nat
 gI:List e9
 st:List fQ
 ts:List aK
 eV:e9
 ew:List fQ
 us:List aK
 F:aL U.D ts->Option (aL U.D us)
def cD.args(s:cD U)(h:aL U.D s.ts):List (bB U):=(kT s.gI (aL.cells U.D s.ts h)).1
def cD.iH(s:cD U)(h:aL U.D s.ts):bh U:=gE 0 s.st (kT s.gI (aL.cells U.D s.ts h)).2
def cD.res(s:cD U)(r:aL U.D s.us):bB U:=(kS s.eV (aL.cells U.D s.us r)).1
def cD.rest(s:cD U)(r:aL U.D s.us):bh U:=gE 0 s.ew (kS s.eV (aL.cells U.D s.us r)).2
def h3(P:Program)(s:cD U):Prop:=
 ∀h r,s.F h=some r->∀a J1,a' (ca s.st.length (s.iH h)) (s.args h) a->cv s.st.length (s.iH h) J1->
  eh P s.f a J1 s.st.length (λb bp N'=>N'=s.ew.length/\ca N' (s.rest r) (s.res r) b/\cv N' (s.rest r) bp)
def bl.oB:bl U->Bool
 |.t _|.dP .. |.aB|.fc|.fb=>true
 |.fn _ []=>true
 |_=>false
def fJ:bB U->Bool
 |.c x=>x.oB
 |.agg cs=>cs.all bl.oB
 |.aY vs=>go vs
where go:List (bB U)->Bool
 |[]=>true
 |v::vs=>fJ v&&go vs
def bl.oS:bl U->C
 |.t c=>.t (c.enc U)
 |.dP ty x o=>.dP (ty.enc U x) o
 |.aB=>.aB
 |.fc=>.fc
 |.fb=>.fb
 |.fn f caps=>.fn f caps
 |_=>.dead
def fh:bB U->V
 |.c x=>.c x.oS
 |.agg cs=>.agg (cs.map bl.oS)
 |.aY vs=>.aY (go vs)
where go:List (bB U)->List V
 |[]=>[]
 |v::vs=>fh v::go vs
theorem zy{x:bl U}(h:x.oB=true):cl N J x x.oS/\(∀d,cl N J x d->d=x.oS)/\∀n,x.oS.aA n=true:=by
 cases x<;>simp[bl.oB]at h
 . exact⟨.t _,λd a=>by cases a;rfl,λ_=>rfl⟩
 . exact⟨.dP _ _ _,λd a=>by cases a;rfl,λ_=>rfl⟩
 . exact⟨.aB,λd a=>by cases a;rfl,λ_=>rfl⟩
 . exact⟨.fc,λd a=>by cases a;rfl,λ_=>rfl⟩
 . exact⟨.fb,λd a=>by cases a;rfl,λ_=>rfl⟩
 . rename_i f caps;cases caps with
   |nil=>exact⟨.fn _ _,λd a=>by cases a;rfl,λ_=>rfl⟩
   |cons=>simp[bl.oB]at h
theorem HM:∀{vs:List (bB U)} {i:Nat},(fh.go vs)[i]?=(vs[i]?).map fh
 |[],i=>by simp[fh.go]
 |v::vs,0=>by simp[fh.go]
 |v::vs,i+1=>by simp[fh.go,HM]
theorem TP:∀{vs:List (bB U)},(fh.go vs).length=vs.length
 |[]=>rfl
 |v::vs=>by simp[fh.go,TP]
theorem Tu:∀{vs:List (bB U)} {i:Nat} {v:bB U},fJ.go vs=true->vs[i]?=some v->fJ v=true
 |[],i,v,_,h=>by simp at h
 |x::vs,0,v,hs,h=>by simp[fJ.go]at hs;simp at h;subst h;exact hs.1
 |x::vs,i+1,v,hs,h=>by simp[fJ.go]at hs;exact Tu hs.2 (by simpa using h)
theorem aux:∀(cs:List (bl U)),(∀x,x∈cs->x.oB=true)->a' (cl N J) cs (cs.map bl.oS)
 |[],_=>.nil
 |a::l,h=>.cons (zy (h a (by simp))).1 (aux l λx b=>h x (by simp[b]))
theorem vV{N:Nat}{J:bh U}:∀{x:bB U},fJ x=true->ca N J x (fh x)/\∀n,(fh x).aA n=true
 |.c x,h=>by
  simp only[fJ]at h;obtain⟨h1,_,b⟩:=zy (N:=N) (J:=J) h;exact⟨.c h1,λn=>b n⟩
 |.agg cs,h=>by
  simp only[fJ,c0]at h;refine⟨.agg ?_,λn=>?_⟩
  . exact aux cs h
  . simp only[fh,V.aA,mU,c0];intro c g;exact(zy (N:=N) (J:=J) (h c g)).2.2 n
 |.aY vs,h=>by
  simp only[fJ]at h;have:=go (N:=N) (J:=J) vs h;refine⟨.aY _ _ (by rw[TP]) λi x d a j=>?_,λn=>?_⟩
  . rw[HM,a]at j;grind
  . simp only[fh,V.aA];exact this.2 n
where go {N:Nat} {J:bh U}:∀(vs:List (bB U)),fJ.go vs=true->(∀x,x∈vs->ca N J x (fh x))/\∀n,V.aA.V.dH n (fh.go vs)=true
 |[],_=>⟨by simp,λ_=>rfl⟩
 |v::vs,h=>by
  simp only[fJ.go,cd]at h;obtain⟨h1,e⟩:=vV (N:=N) (J:=J) h.1;obtain⟨b,f⟩:=go (N:=N) (J:=J) vs h.2;refine⟨λx a=>?_,λn=>by simp only[fh.go,V.aA.V.dH,cd];exact⟨e n,f n⟩⟩;rcases eU.1 a with rfl|a
  . exact h1
  . exact b x a
theorem zz{x:bB U}{d:V}(h:ca N J x d):fJ x=true->d=fh x:=by
 induction h with
 |c h=>intro hs;simp only[fJ]at hs;rw[(zy (N:=N) (J:=J) hs).2.1 _ h];rfl
 | @agg xs ds h=>
  intro hs;simp only[fJ,c0]at hs;simp only[fh]
  congr 1
  induction h with
  |nil=>rfl
  |cons h1 e ih=>rw[fu,<-(zy (N:=N) (J:=J) (hs _ (by simp))).2.1 _ h1,<-ih (λx a=>hs x (by simp[a]))]
 |aY xs ds af h ih=>
  intro hs;simp only[fJ]at hs;simp only[fh]
  congr 1
  apply yu;intro i;rw[HM];cases a:xs[i]? with
  |none=>grind
  |some x=>
   have f:=(c5.1 a).1;have b:=eI (l:=ds) (i:=i) (by omega);rw[b,gk]
   congr 1
   exact ih i x _ a b (Tu hs a)
end
section
open Go
variable {U:cM}
variable{K:Env->a7->Prop}{f:Nat->Nat}
section
variable {P:Program}{nt kk key N N':Nat}{env:Env}{J J':a7}{Q nj:Exit->Env->a7->Nat->Prop}
def Of(P:Program)(f:Nat)(args:List V)(J:a7)(key:Nat)(env:Env)(K:V->a7->Prop):Prop:=
 ∀aD nt φ S a w,Rel aD nt φ S env J (lt key) a w->V.aA.V.dH (lt key) args=true->∀vs:List Value,a' (cq φ w S) args vs->
  Calls P f vs.toArray w λe w'=>∃v r b bR J',e= .returned v/\K r J'/\cq b w' bR r v/\r.aA (eD (lt key) key)=true/\Rel aD nt b bR env J' (eD (lt key) key) a w'
def adb(P:Program)(o:cb)(env:Env)(f:Nat)(vs:List V):Prop:=
 (∃args p,o.op= .call f args/\hy env args=some (p,vs)/\p)\/
 (∃x args q p caps a,o.op= .iJ x args/\x.get env=some (q,.c (.fn f caps))/\q/\hy env args=some (p,a)/\p/\hO P f=true/\vs=a++caps.map λb=>V.c (.ptr b 0))
def uY(P:Program)(o:cb)(key:Nat)(env:Env)(J:a7)(K:Env->a7->Prop):Prop:=
 hi P o key env J K\/(fV env o.guard=some true/\∃f vs,adb P o env f vs/\Of P f vs J key env λr J'=>K (eu env o.dst true r) J')
def qq(P:Program)(kk:Nat):List cb->Nat->Env->a7->(Env->a7->Prop)->Prop
 |[],_,env,J,K=>K env J
 |o::r,key,env,J,K=>∃fW a,Conv kk key env J key fW a/\uY P o key fW a λe s=>qq P kk r (key+16) e s K
theorem J8{aD:Ctx}{φ:dG}{S:dV}{a:Act}{w:World}(R:Rel aD nt φ S env J (lt key) a w){ops:Array Oper}{o:Oper}{z:cb}(G:vx P nt ops o=some z)(h:uY P z key env J K){Q:Exit->Act->World->Prop}:
 if Region.wanted o (yielded ops a.tmps)then o.wp P a w (j6 aD nt (eD (lt key) key) K) Q else j6 aD nt (eD (lt key) key) K (a.put o.dst undef) w:=by
 rcases h with h|⟨al,f,vs,M,D⟩
 . exact Dy R (λb h1 _=>IK h1) G h
 . obtain⟨h1,e,A,B⟩:=TB G;have X:=JV R e al;rw[X];simp only[bS];rcases M with⟨args,p,s,r,u⟩|⟨x,args,q,p,caps,L,s,T,W,r,u,l,rfl⟩
   . rw[s]at h1;obtain⟨c,m,y⟩:=SC (xX h1 (by simp));obtain⟨n,l,k⟩:=SD y;have H:=Dm (P:=P) (w:=w) (a:=a) m n (f:=f) (caps:=[]) rfl l;simp only[l4]at H;obtain⟨g,j⟩:=qX R k r u;exact Calls.next A B rfl (λ_ _ h=>h) (D aD nt φ S a w R j _ g) H
   . rw[s]at h1;obtain⟨c,m,y⟩:=S0 (xX h1 (by simp));obtain⟨t,rfl,n,k⟩:=S1 y;obtain⟨g,j⟩:=qX R k r u;have I:=cB (x:= .tmp t) R rfl T W;have Y:a.eval (.tmp t)= .func (.func f) #[] (caps.map λb=>Value.pointer (some ⟨(φ b).1,0,none⟩)).toArray:=I.1.eb;have N:a' (cq φ w S) (caps.map λb=>V.c (.ptr b 0)) (caps.map λb=>Value.pointer (some ⟨(φ b).1,0,none⟩)):=by
      refine a'.ly (by simp) ?_;intro i v x h1 e;simp only[ot,bd]at h1 e;obtain⟨b,E,rfl⟩:=h1;obtain⟨Z,F,rfl⟩:=e;rw[E]at F;cases F;exact .c rfl
     have O:V.aA.V.dH (lt key) (L++caps.map λb=>V.c (.ptr b 0))=true:=by
      refine tg ?_;intro i v d;by_cases U:i<L.length
      . rw[oo U]at d;exact nM j d
      . rw[qb (by omega)]at d;simp only[ot,bd]at d;obtain⟨b,E,rfl⟩:=d;have aa:=I.2;simp only[V.aA,C.aA,c0]at aa⊢;grind
     exact Calls.next A B rfl (λ_ _ h=>h) (D aD nt φ S a w R O _ (g.append N)) (Dm m n Y l)
theorem KQ{aD:Ctx}(j:aD.k=kk){ops:Array Oper}{Q:Exit->Act->World->Prop}{K:Env->a7->Nat->Prop}:∀{l:List Oper} {aZ:List cb} {k N:Nat} {env:Env} {J:a7} {φ:dG} {S:dV} {a:Act} {w:World},jy P nt ops l=some aZ->(∀i:Nat,i<l.length->l[i]?=ops[k+i]?)->
 Rel aD nt φ S env J (lt N) a w->qq P kk aZ N env J (λe s=>K e s (N+16*aZ.length))->(∀φ S e s N a w,K e s N->Rel aD nt φ S e s (lt N) a w->Q .normal a w)->wpOps P ops Q (List.range' k l.length) a w
 |[],aZ,k,N,env,J,φ,S,a,w,b,g,R,h,f=>by
  simp[jy]at b;subst b;simp only[ij,List.range'_zero,wpOps];exact f _ _ _ _ _ _ _ h R
 |o::l,aZ,k,N,env,J,φ,S,a,w,b,g,R,h,f=>by
  simp only[jy,bq,bd]at b;obtain⟨v,n,c,p,rfl⟩:=b;have r:ops[k]?=some o:=by have:=g 0 (by simp);simpa using this.symm
  rw[gQ,FI,wpOps_cons];unfold wpOp;rw[r];simp only;obtain⟨fW,u,q,x⟩:=h;obtain⟨z,EH,m⟩:=q aD nt φ S a w j R;have hs:=J8 m n (K:=λe s=>qq P kk c (N+16) e s λe s=>K e s (N+16*(c.length+1))) (by omega) (Q:=Q);have next:∀d w',j6 aD nt (eD (lt N) N) (λe s=>qq P kk c (N+16) e s λe s=>K e s (N+16*(c.length+1))) d w'->wpOps P ops Q (List.range' (k+1) l.length) d w':=by
   rintro d w' ⟨y,bR,e,s,bD,R'⟩
   refine KQ j (k:=k+1) (N:=N+16) p (λi aC=>?_) (R'.more λ_ h=>IX h) (K:=K) ?_ f
   . have:=g (i+1) (by simp;omega);grind
   grind
  split at hs
  . rename_i t;rw[ae t];exact .inl (Oper.wp_mono next hs)
  grind
theorem cu.agP{aZ:List cb}(h:qq P kk aZ N env J (λe s=>Q .normal e s (N+16*aZ.length))):cu P nt kk (.region aZ) env J N Q:=by
 intro code j aD φ S a w o R;obtain⟨id,ops,rfl,p⟩:=TN j;refine wp_region ?_;have:=KQ (P:=P) o (ops:=ops) (K:=λe s N=>Q .normal e s N) (Q:=λe c w'=>∃q bR env' J' N',Q e env' J' N'/\Rel aD nt q bR env' J' (lt N') c w') (k:=0) p (λi t=>by simp) R h
  (λφ S e s N a w bD f=>⟨φ,S,e,s,N,bD,f⟩)
 rw[List.range_eq_range'];omega
theorem eh.conv{f k:Nat}{args q:List V}{Q:V->a7->Nat->Prop}(u:a' gr args q)(hs:r' J J')(h:eh P f q J' k Q):eh P f args J k Q:=by
 intro φ S w B p z D A vs F;refine h φ S w B ⟨λb x o=>?_,λb t x y o G=>?_,p.st⟩ (λb x o=>?_) (λb x o=>?_) ?_ vs ?_
 . obtain⟨j,h1,e⟩:=hs b x o;exact e.FV (p.blk b j h1)
 . obtain⟨j,h1,e⟩:=hs b x o;obtain⟨K,H,L⟩:=hs t y G;exact p.inj b t j K h1 H
 . obtain⟨j,h1,e⟩:=hs b x o;exact⟨(z b j h1).1,e.aA _ (z b j h1).2⟩
 . obtain⟨j,h1,e⟩:=hs b x o;exact D b j h1
 . refine tg λi v E=>?_;obtain⟨v0,h1,e⟩:=(u.flip (R':=λb a=>gr a b) λ_ _ h=>h).get E;exact e.aA _ (nM A h1)
 . exact a'.comp (λa b c h1 e=>h1.F4 e) (u.flip (R':=λb a=>gr a b) λ_ _ h=>h) F
theorem eh.mono{f k:Nat}{args:List V}{Q nj:V->a7->Nat->Prop}(h:eh P f args J k Q)(j:∀r s n,Q r s n->nj r s n):eh P f args J k nj:=by
 intro φ S w B h1 a c e vs bb;refine(h φ S w B h1 a c e vs bb).mono ?_;grind
theorem eh.tidy{f k:Nat}{args:List V}{Q nj:V->a7->Nat->Prop}(h:eh P f args J k Q)
 (am:∀r J' N',Q r J' N'->∃bs D J2,bs.Nodup/\keeps k bs=true/\gr (r.bO bs) D/\r' (fy bs J' 0 bs) J2/\nj D J2 bs.length):eh P f args J k nj:=by
 intro φ S w B h1 M N U vs bb;refine(h φ S w B h1 M N U vs bb).mono ?_
 rintro e w' ⟨v,r,R,bR,J',N',he,W,aC,a3,G,a4,aD,aJ,e4⟩
 obtain⟨bs,D,J2,bT,Z,O,hs,X⟩:=am r J' N' W;have Y:∀i:Nat,i<k->bs[i]?=some i:=by
  intro i a2;unfold keeps at Z;grind
 let H:dG:=λi=>R ((bs[i]?).getD 0);have z:∀(i:Nat) b,bs[i]?=some b->H i=R b:=by intro i b h;simp[H,h]
 have A:∀b x,aV (fy bs J' 0 bs) b=some x->∃c a,bs[b]?=some c/\aV J' c=some a/\x=a.bO bs:=by
  intro b x p;obtain⟨j,c,a,rfl,M,N,rfl⟩:=pE p;grind
 have an:∀(a:bP),(a.bO bs).aA (lt bs.length)=true:=by
  intro a;cases a with
  |box cs=>simp only[bP.bO,bP.aA,mU,c0];intro c _;exact C.j1 c
  |arr sz es=>rfl
  |set ks=>rfl
  |buf E s=>rfl
  |b8 E c=>exact C.j1 c
  |cC sz es i o c=>exact C.j1 c
 refine⟨v,D,H,bR,J2,bs.length,he,X,O.F4 (cq.bO z aC),O.aA _ (V.j1 r),⟨λb x p=>?_,λb F x y p t af h0 L=>?_,G.st⟩,λb x p=>?_,aD,λb x p h0=>?_,λb q=>?_⟩
 . obtain⟨y,t,q⟩:=hs b x p;obtain⟨c,a,aI,u,rfl⟩:=A b y t;exact q.FV (c2.bO z aI (G.blk c a u))
 . obtain⟨a0,ap,_⟩:=hs b x p;obtain⟨a1,ax,_⟩:=hs F y t;obtain⟨c,a,aI,u,_⟩:=A b a0 ap;obtain⟨K,aZ,f1,f2,_⟩:=A F a1 ax;rw[z b c aI]at h0⊢;rw[z F K f1]at L⊢;refine G.inj c K a aZ u f2 ?_ h0 L;intro e;subst e;have:=mP bT aI;rw[mP bT f1]at this;cases this;exact af rfl
 . obtain⟨y,t,q⟩:=hs b x p;obtain⟨c,a,aI,u,rfl⟩:=A b y t;exact⟨(c5.1 aI).1,q.aA _ (an a)⟩
 . obtain⟨y,t,q⟩:=hs b x p;obtain⟨c,a,aI,u,rfl⟩:=A b y t;rw[z b c aI]at h0⊢;exact aJ c a u h0
 . rw[z b b (Y b q)];exact e4 b q
end
def bl.b9(f:Nat->Nat):bl U->bl U
 |.ptr b o=>.ptr (f b) o
 |.cH b ty i o=>.cH (f b) ty i o
 |.arr b=>.arr (f b)
 |.sub b a len=>.sub (f b) a len
 |.pre b h=>.pre (f b) h
 |.dI b a len=>.dI (f b) a len
 |.mp b=>.mp (f b)
 |.eo b=>.eo (f b)
 |.cI b=>.cI (f b)
 |.fn g caps=>.fn g (caps.map f)
 |x=>x
def bB.b9(f:Nat->Nat):bB U->bB U
 |.c x=>.c (x.b9 f)
 |.agg cs=>.agg (cs.map (bl.b9 f))
 |.aY vs=>.aY (go f vs)
where go (f:Nat->Nat):List (bB U)->List (bB U)
 |[]=>[]
 |v::vs=>v.b9 f::go f vs
def cR.b9(f:Nat->Nat):cR U->cR U
 |.box cs=>.box (cs.map (bl.b9 f))
 |.arr ty l=>.arr ty l
 |.rows sz r=>.rows sz r
 |.set ks=>.set ks
 |.buf E s=>.buf E s
 |.b8 E c=>.b8 E (c.b9 f)
 |.cC t l i o c=>.cC t l i o (c.b9 f)
def AS(J:bh U):a6->bh U
 |[]=>J
 |b::r=>dl (AS J r) b
def nc(J:bh U)(bs:a6)(f:Nat->Nat):bh U->bh U
 |[]=>AS J bs
 |(b,x)::r=>cE (nc J bs f r) (f b) (x.b9 f)
def oF(J Jr:bh U):Nat->a6->Option Bool
 |_,[]=>some true
 |i,b::r=>match aX Jr i with
  |none=>oF J Jr (i+1) r
  |some d=>match aX J b with
   |none=>none
   |some x=>match d.de with
    |none=>oF J Jr (i+1) r
    |some a=>match x.de with
     |none=>none
     |some p=>match Nat.beq a.1 p.1,oF J Jr (i+1) r with
      |true,some c=>some (decide (a.2=p.2)&&c)
      |_,_=>none
section
variable {key N':Nat}{J Jr:bh U}{J1 PU:a7}{bs:a6}
theorem MK:∀{bs:a6} {b:Nat},aX (AS J bs) b=if b∈bs then none else aX J b
 |[],b=>by simp[AS]
 |c::r,b=>by
  simp only[AS,oj,MK (bs:=r)];grind
theorem tx{f:Nat->Nat}:∀{e:bh U} {c:Nat} {x:cR U},aX (nc J bs f e) c=some x->(∃b a,c=f b/\aX e b=some a/\x=a.b9 f)\/(c ∉ bs/\aX J c=some x)
 |[],c,x,h=>by
  simp only[nc,MK]at h;grind
 |(b,y)::r,c,x,h=>by
  simp only[nc,hU]at h;split at h
  . rename_i d;cases h;exact .inl ⟨b,y,d.symm,by simp[aX,yC],rfl⟩
  . rename_i d;rcases tx h with⟨g,a,h1,i,j⟩|h
    . refine .inl ⟨g,a,h1,?_,j⟩;simp only[aX];cases k:Nat.beq b g with
      |true=>exact absurd (by rw[cV k];exact h1.symm) d
      |false=>exact i
    grind
theorem Ab(bT:bs.Nodup)(aC:∀b,b∈bs->b<key){i j:Nat}(h:back bs key i=back bs key j):i=j:=by
 unfold back at h;cases d:bs[i]? with
 |some b=>
  rw[d]at h;have e:=aC b (eM d);cases a:bs[j]? with
  |some c=>
   rw[a]at h;simp at h;subst h;have:=mP bT d;rw[mP bT a]at this;grind
  |none=>rw[a]at h;simp at h;omega
 |none=>
  rw[d]at h;have f:=uf.1 d;cases a:bs[j]? with
  |some c=>
   rw[a]at h;have e:=aC c (eM a);grind
  |none=>grind
theorem Tv(g:∀i j,f i=f j->i=j):∀{a:a7} {b:Nat} {x:bP},aV a b=some x->aV (hq J1 bs f a) (f b)=some (x.b9 f)
 |[],b,x,h=>by simp[aV]at h
 |(c,y)::r,b,x,h=>by
  simp only[hq,cZ];simp only[aV]at h;by_cases d:c=b
  . grind
  . rw[ak d]at h;rw[ak (λe=>d (g _ _ e))];exact Tv g h
theorem Tb{c:Nat}(a:c ∉ bs)(d:∀b,f b≠c):∀{e:a7},aV (hq J1 bs f e) c=aV J1 c
 |[]=>by simp only[hq,pF,ak a]
 |(b,y)::r=>by
  simp only[hq,cZ];rw[ak (d b)];exact Tb a d
theorem cR.xT{x:cR U}:(x.b9 f).de=x.de:=by cases x<;>rfl
theorem Jn:∀{l:a6} {d:Nat} {c:Bool},oF J Jr d l=some c->c=true->∀(j b:Nat) f,l[j]?=some b->aX Jr (d+j)=some f->∃x,aX J b=some x/\∀p,f.de=some p->x.de=some p
 |[],d,c,h,n,j,b,f,g,m=>by simp at g
 |a::l,d,c,h,n,j,b,f,g,m=>by
  simp only[oF]at h;have next:∀{k},oF J Jr (d+1) l=some k->k=true->∀i,j=i+1->∃x,aX J b=some x/\∀p,f.de=some p->x.de=some p:=by
   intro k h1 r i e;subst e;exact Jn h1 r i b f (by simpa using g) (by rw[show d+1+i=d+(i+1) by omega];exact m)
  cases j with
  |zero=>
   simp at g;subst g;simp only[l8]at m;rw[m]at h;simp only at h;split at h
   . cases h
   . rename_i x v;split at h
     . grind
     . rename_i y t;split at h
       . cases h
       . rename_i p u;split at h
         . rename_i k s w;cases h;simp only[cd,dw]at n;refine⟨x,v,λq o=>?_⟩;rw[t]at o;cases o;rw[u];have:=cV s;grind
         . cases h
  |succ j=>
   split at h
   . grind
   grind
variable (bT:bs.Nodup)(aC:∀b,b∈bs->b<key)(cr:N'<=bs.length+16)(aF:cv key J J1)
include bT aC cr aF in
theorem cl.b9{x:bl U}{d:C}(h:cl N' Jr x d):cl (key+16) (nc J bs (back bs key) Jr) (x.b9 (back bs key)) (d.b9 (back bs key)):=by
 cases h with
 |t c=>exact cl.t c
 |ptr b o=>exact cl.ptr _ o
 |cH b t i o=>exact cl.cH _ t i o
 |dP t x o=>exact cl.dP t x o
 |arr b sz n y h=>
  have j:back bs key b<key+16:=by
   unfold back;cases e:bs[b]? with
   |some c=>simp;have:=aC c (eM e);omega
   |none=>have:=uf.1 e;simp;omega
  refine cl.arr _ sz n j λx v p u=>?_;rcases tx v with⟨w,A,h1,a,rfl⟩|⟨h1,a⟩
  . have:=Ab bT aC h1;subst this;rw[cR.xT]at u;grind
  . exfalso;have q:=(aF _ _ a).1;unfold back at h1 q;grind
 |sub b z len=>exact cl.sub _ z len
 |pre b sz n y h=>
  have j:back bs key b<key+16:=by
   unfold back;cases e:bs[b]? with
   |some c=>simp;have:=aC c (eM e);omega
   |none=>have:=uf.1 e;simp;omega
  refine cl.pre _ sz n j λx v p u=>?_;rcases tx v with⟨w,A,h1,a,rfl⟩|⟨h1,a⟩
  . have:=Ab bT aC h1;subst this;rw[cR.xT]at u;grind
  . exfalso;have q:=(aF _ _ a).1;unfold back at h1 q;grind
 |dI b sz z len y h=>
  have j:back bs key b<key+16:=by
   unfold back;cases e:bs[b]? with
   |some c=>simp;have:=aC c (eM e);omega
   |none=>have:=uf.1 e;simp;omega
  refine cl.dI _ sz z len j λx v p u=>?_;rcases tx v with⟨w,A,h1,a,rfl⟩|⟨h1,a⟩
  . have:=Ab bT aC h1;subst this;rw[cR.xT]at u;grind
  . exfalso;have q:=(aF _ _ a).1;unfold back at h1 q;grind
 |mp b=>exact cl.mp _
 |eo b=>exact cl.eo _
 |cI b n y h=>
  have j:back bs key b<key+16:=by
   unfold back;cases e:bs[b]? with
   |some c=>simp;have:=aC c (eM e);omega
   |none=>have:=uf.1 e;simp;omega
  refine cl.cI _ n j λx v p u=>?_;rcases tx v with⟨w,A,h1,a,rfl⟩|⟨h1,a⟩
  . have:=Ab bT aC h1;subst this;rw[cR.xT]at u;grind
  . exfalso;have q:=(aF _ _ a).1;unfold back at h1 q;grind
 |aB=>exact .aB
 |fc=>exact .fc
 |fb=>exact .fb
 |fn f caps=>exact cl.fn f _
 |dead d=>exact .dead _
theorem KR:∀{vs:List (bB U)} {i:Nat},(bB.b9.go f vs)[i]?=(vs[i]?).map (bB.b9 f)
 |[],i=>by simp[bB.b9.go]
 |v::vs,0=>by simp[bB.b9.go]
 |v::vs,i+1=>by simp[bB.b9.go,KR]
theorem Tc:∀{vs:List (bB U)},(bB.b9.go f vs).length=vs.length
 |[]=>rfl
 |v::vs=>by simp[bB.b9.go,Tc]
include bT aC cr aF in
theorem ca.b9{x:bB U}{d:V}(h:ca N' Jr x d):ca (key+16) (nc J bs (back bs key) Jr) (x.b9 (back bs key)) (d.b9 (back bs key)):=by
 induction h with
 |c h=>exact .c (cl.b9 bT aC cr aF h)
 |agg h=>exact .agg (a'.map_map (h.imp λ_ _ _ aa=>cl.b9 bT aC cr aF aa))
 |aY xs ds af h ih=>
  refine .aY _ _ (by rw[Tc,GK];exact af) ?_;intro i x d e a;rw[KR,bd]at e;rw[HD,bd]at a;grind
include bT aC aF in
theorem DN(f:oF J Jr 0 bs=some true):dr key J (key+16) (nc J bs (back bs key) Jr):=by
 refine⟨by omega,λc x m g=>?_⟩;rcases tx g with⟨b,k,h1,d,rfl⟩|⟨h1,d⟩
 . unfold back at h1;cases a:bs[b]? with
   |some l=>
    rw[a]at h1;simp at h1;subst h1;obtain⟨x,i,j⟩:=Jn f rfl b c k a (by rw[gm];exact d);exact⟨x,i,λp e=>j p (by rw[cR.xT]at e;exact e)⟩
   |none=>rw[a]at h1;simp at h1;omega
 grind
include bT aC cr aF in
theorem cv.Fb(v:oF J Jr 0 bs=some true)(w:cv N' Jr PU):cv (key+16) (nc J bs (back bs key) Jr) (hq J1 bs (back bs key) PU):=by
 intro c x z;have u:∀b,b<N'->back bs key b<key+16:=by
  intro b B;unfold back;cases p:bs[b]? with
  |some c=>simp;have:=aC c (eM p);omega
  |none=>have:=uf.1 p;simp;omega
 rcases tx z with⟨b,A,rfl,a,rfl⟩|⟨h1,a⟩
 . obtain⟨f,y,e,bb⟩:=w b A a;refine⟨u b f,y.b9 (back bs key),Tv (λi j=>Ab bT aC) e,?_⟩;cases bb with
   |box bb=>exact .box (a'.map_map (bb.imp λ_ _ _ aa=>cl.b9 bT aC cr aF aa))
   |arr t l=>exact .arr t l
   |set ks=>exact .set ks
   |buf E s=>exact .buf E s
   |b8 bb=>exact .b8 (cl.b9 bT aC cr aF bb)
   |cC t l i o bb=>exact .cC t l i o (cl.b9 bT aC cr aF bb)
   |rows bb q=>exact .rows bb q
 . obtain⟨f,y,e,bb⟩:=aF c x a;refine⟨by omega,y,?_,?_⟩
   . rw[Tb h1 λb=>?_]
     . exact e
     . unfold back;grind
   . exact bb.mono (DN bT aC aF v)
end
end
section
open Go
variable {xb:a6}
def Em(n:Nat):List (Nat×Nat)->Bool
 |(i,_)::_=>Nat.beq i n
 |[]=>false
theorem aa2{l:List (cb×a6)}{p:Nat×Nat}(h:p∈lk l):p.1<l.length:=by
 simp only[lk,EP,FJ]at h;grind
theorem Yg{l:List (cb×a6)}(h:Em l.length (sk l)=true):El l=true/\s8 l.dropLast=true/\∀p,p∈lk l.dropLast->p∈sk l:=by
 unfold sk at h⊢;split at h
 . grind
 . exfalso;cases af:lk l with
   |nil=>rw[af]at h;cases h
   |cons p r=>
    rw[af]at h;have a:p∈lk l:=by rw[af];simp
    have:=aa2 a;obtain⟨i,j⟩:=p;have b:Nat.beq i l.length=true:=h;simp_all
variable{D:Nat->a6}{listed:Array Bool}{gh:List (Nat×Nat)}{Q:Exit->Env->a7->Nat->Prop}
theorem Zb{l:List (cb×a6)}{m:Nat}(g:l.length=m+1)(h:El l=true)(e:∀(i:Nat) x,l[i]?=some x->D i=x.2){p:Nat->Bool}(f:∀i,i<m->p i=true->∀d,d∈D i->p d=true)(af:∀d,d∈D m->p d=true):
 ∀i,i<m->p i=true:=by
 have key:∀k i,i<m->m-i<=k->p i=true:=by
  intro k;induction k with
  |zero=>intro i h1 a;omega
  |succ k ih=>
   intro i h1 a;simp only[El,c0,wF]at h;have c:=h i (by omega);grind
 exactλi b=>key m i b (by omega)
section
variable {P:Program}{aD:Ctx}{nt kk:Nat}{N:Nat}{ops:Array Oper}{init:List cb}{last:cb}{E:Nat->Env}{T:Nat->a7}{G:Nat->Bool}{W:Nat->V}
theorem Dr{i m:Nat}(hs:listed.size=m+1)(a:i<m):listed.pop.getD i false=listed.getD i false:=by
 simp only[BH,Array.getElem?_pop];grind
theorem acg{i m:Nat}(hs:listed.size=m+1)(a:i<m):(listed.setIfInBounds i true).pop=listed.pop.setIfInBounds i true:=by grind
theorem aa3{Q:Exit->Act->World->Prop}{c:Nat}{a:Act}{w:World}(hs:listed.size=ops.size)(f:∀i,i<ops.size->listed.getD i false=true)(d:Q .normal a w):wpAny P .any ops Q c listed a w:=by
 have e:Region.ready .any ops listed=[]:=by
  rw[RZ];intro i b;rw[mem_ready]at b;grind
 cases c with
 |zero=>exact⟨e,d⟩
 |succ c=>exact⟨λ_=>d,λi b=>by rw[e]at b;cases b⟩
theorem YF(st:Stat xb init D E N)(B:oH xb P init N E T G W)(hres:jy P nt ops ops.toList=some (init++[last]))(F:∀(i:Nat) o,ops[i]?=some o->D i=hp o)
 (aw:∀(p:Nat->Bool),(∀i,i<init.length->p i=true->∀d,d∈D i->p d=true)->(∀d,d∈D init.length->p d=true)->∀i,i<init.length->p i=true)
 (aq:∀d,d∈D init.length->d<init.length)
 {Q:Exit->Act->World->Prop}{K:Env->a7->Prop}(av:aD.k=kk)
 (bD:∃fW C,Conv kk (N+16*init.length) (E init.length) (T init.length) (N+16*init.length) fW C/\uY P last (N+16*init.length) fW C K)
 (aj:∀e s φ S a w,K e s->Rel aD nt φ S e s (eD (lt (N+16*init.length)) (N+16*init.length)) a w->Q .normal a w):
 ∀(g:Nat) (listed:Array Bool) φ S env J a w,listed.size=init.length+1->listed.getD init.length false=false->listed.toList.countP (· ==false)<=g->Inv xb aD nt init D N E T G W listed.pop φ S env J a w->wpAny P .any ops Q g listed a w:=by
 have aa:=yg hres;simp at aa;have ax:∀(listed:Array Bool) (φ:dG) (S:dV) (env:Env) (J:a7) (a:Act) (w:World),listed.size=init.length+1->listed.getD init.length false=false->Inv xb aD nt init D N E T G W listed.pop φ S env J a w->Region.ready .any ops listed≠[]:=by
  intro listed φ S env J a w hs u cA ab;have H:∀i,i<init.length->listed.getD i false=true:=by
   intro i;induction i using Nat.strongRecOn with
   |_ i ih=>
    intro q;cases af:listed.getD i false with
    |true=>rfl
    |false=>
     exfalso;have A:i<ops.size:=(by omega);have c:ops[i]?=some ops[i]:=BJ A;have:i∈Region.ready .any ops listed:=by
      rw[mem_ready];refine⟨?_,ops[i],c,λe he an=>?_⟩
      . grind
      . have l:e.on∈D i:=by
         rw[F i _ c];simp only[hp,eJ,rN];grind
        exact ih e.on (st.back i _ q l) (by have:=st.back i _ q l;omega)
     grind
  have A:init.length<ops.size:=by omega
  have c:ops[init.length]?=some ops[init.length]:=BJ A;have:init.length∈Region.ready .any ops listed:=by
   rw[mem_ready];refine⟨?_,ops[init.length],c,λe he an=>?_⟩
   . grind
   . have l:e.on∈D init.length:=by
      rw[F _ _ c];simp only[hp,eJ,rN];grind
     grind
  grind
 intro g;induction g with
 |zero=>
  intro listed φ S env J a w hs u I cA;exfalso;have t:init.length<listed.size:=by omega
  have h0:listed.toList.countP (· ==false)=0:=by omega
  rw[List.countP_eq_zero]at h0;simp[t]at u;exact h0 listed[init.length] (by simp) (by simp[u])
 |succ g ih=>
  intro listed φ S env J a w hs u I cA;refine⟨λab=>absurd ab (ax listed φ S env J a w hs u cA),λi q=>?_⟩;rw[mem_ready]at q;obtain⟨h1,o,c,az⟩:=q;have A:i<ops.size:=(yF.1 c).1;have t:i<listed.size:=by omega
  have aE:listed.getD i false=false:=by simp[t]at h1⊢;exact h1
  obtain⟨v,V,ad⟩:=Gv hres (i:=i) (o:=o) (by simpa using c);have l:∀d,d∈D i->listed.getD d false=true:=by
   intro d l;rw[F i o c]at l;simp only[hp,eJ,rN]at l;grind
  have au:listed.toList.countP (· ==false)<=g+1->(listed.setIfInBounds i true).toList.countP (· ==false)<=g:=by
   intro I;have:listed.toList[i]?=some false:=by simp[t]at aE⊢;exact aE
   grind
  rcases Nat.lt_or_ge i init.length with y|y
  ·
   have x:init[i]?=some v:=by rw[oo y]at V;exact V
   have X:∀d,d∈D i->listed.pop.getD d false=true:=λd n=>by rw[Dr hs (by have:=st.back i d y n;omega)];exact l d n
   have L:listed.pop.getD i false=false:=by rw[Dr hs y];exact aE
   obtain⟨al,am⟩:=cA.agree st B x L X;obtain⟨⟨bp,ay,ah⟩,_⟩:=(B.step i v x).1.local (env':=env) (J':=J) al am;have z:=Dy cA.rel (key:=N+16*i) (λb ao ap=>KG L ao ap) ad (K:=λe s=>e=eu env v.dst (G i) (W i)/\s=bp) (ay.hi ⟨rfl,rfl⟩) (Q:=Q);have next:∀f w',j6 aD nt (eD (used N init.length listed.pop) (N+16*i)) (λe s=>e=eu env v.dst (G i) (W i)/\s=bp) f w'->wpAny P .any ops Q g (listed.setIfInBounds i true) f w':=by
    rintro f w' ⟨U,bR,e,s,⟨rfl,rfl⟩,R'⟩
    have M:=acg (listed:=listed) (i:=i) (m:=init.length) hs y;refine ih (listed.setIfInBounds i true) U bR _ _ f w' (by simpa using hs) ?_ (au I) (by rw[M];exact cA.step st B x L X ah R');rw[lh t,a8];exact u
   unfold wpOp;rw[c];dsimp only;split at z
   . rename_i r;rw[ae r];exact .inl (Oper.wp_mono next z)
   . rename_i r;rw[ak r];exact next _ _ z
  ·
   have q:i=init.length:=(by omega);subst q;have x:v=last:=(by grind);subst x;have H:∀j,j<init.length->listed.pop.getD j false=true:=by
    refine aw (λj=>listed.pop.getD j false) (λj Y M d n=>cA.down j Y M d n) (λd n=>?_);rw[Dr hs (aq d n)];exact l d n
   have R:=cA.done st B H;obtain⟨fW,C,ar,z⟩:=bD;obtain⟨aB,EH,ag⟩:=ar aD nt φ S a w av R;have O:=J8 ag ad z (Q:=Q);have next:∀f w',j6 aD nt (eD (lt (N+16*init.length)) (N+16*init.length)) K f w'->wpAny P .any ops Q g (listed.setIfInBounds init.length true) f w':=by
    rintro f w' ⟨U,bR,e,s,ai,R'⟩
    refine aa3 (by simp[hs,aa]) (λj Y=>?_) (aj e s U bR f w' ai R');rw[lh t];split
    . rfl
    . rename_i aA;have Z:j<init.length:=(by omega);rw[<-Dr hs Z];exact H j Z
   unfold wpOp;rw[c];dsimp only;split at O
   . rename_i r;rw[ae r];exact .inl (Oper.wp_mono next O)
   . rename_i r;rw[ak r];exact next _ _ O
theorem cu.agQ{env:Env}{J:a7}(a3:Em (init.length+1) gh=true)
 (h:xo xb P init N env J (λe s=>kF xb init e N gh=true/\qq P kk [last] (N+16*init.length) e s (λe s=>Q .normal e s (N+16*init.length+16)))):cu P nt kk (.oz (init++[last]) gh) env J N Q:=by
 intro code aC aD φ S a w a0 R;obtain⟨id,ops,rfl,hres,X,a4,rfl⟩:=TC aC;have F:=yg hres;simp at F;have M:(fr ops (init++[last])).length=init.length+1:=by simp[fr,F]
 obtain⟨a2,O,bi⟩:=Yg (l:=fr ops (init++[last])) (by rw[M];exact a3);obtain⟨E,T,G,W,Z,cW,t0,aJ,ap⟩:=IM h;have Y:(fr ops (init++[last])).dropLast=fr ops.pop init:=by
  obtain⟨K,x,c⟩:∃K x,ops.toList=K++[x]:=by
   cases af:ops.toList.reverse with
   |nil=>exfalso;have h1:=dX List.length af;rw[List.length_reverse,rK,ij]at h1;omega
   |cons x r=>exact⟨r.reverse,x,by have:=dX List.reverse af;simpa using this⟩
  have a1:K.length=init.length:=by have h1:=dX List.length c;rw[rK,cJ,List.length_singleton]at h1;omega
  unfold fr;rw[Array.toList_pop,c,qf,List.zip_append (by simp[a1])];simp
 rw[Y]at O;have aZ:kF xb init (E init.length) N (lk (fr ops.pop init))=true:=Hl (λp a9=>bi p (by rw[Y];exact a9)) aJ;have v:=M9 (ops:=ops.pop) (by simp;omega) O Z aZ;let D:Nat->a6:=λi=>((ops[i]?).map hp).getD [];have z:∀i,i<init.length->((ops.pop[i]?).map hp).getD []=D i:=by grind
 have st:Stat xb init D E N:=by
  refine⟨λi d f A=>v.back i d f (by rw[z i f];exact A),λi j x y d c an bs=>?_,λi j b a5 f B bp u=>?_⟩
  . have f:=(c5.1 c).1;have B:=(c5.1 an).1;have:=v.wX i j x y d c an bs;grind
  . rcases v.ord i j b a5 f B bp u with⟨h1,q⟩|⟨h1,q⟩
    . exact .inl ⟨h1,q.congr v.back z B⟩
    . exact .inr ⟨h1,q.congr v.back z f⟩
 have am:∀(i:Nat) x,(fr ops (init++[last]))[i]?=some x->D i=x.2:=by
  intro i x c;unfold fr at c;grind
 refine wp_region_any a4 ?_;have be:∃fW L,Conv kk (N+16*init.length) (E init.length) (T init.length) (N+16*init.length) fW L/\uY P last (N+16*init.length) fW L (λe s=>Q .normal e s (N+16*init.length+16)):=ap;have ax:∀d,d∈D init.length->d<init.length:=by
  intro d A;simp only[s8,cd]at X;have c:(fr ops (init++[last]))[init.length]?=some (fr ops (init++[last]))[init.length]:=eI (by omega);have:=GM X.1.1 c d (by rw[<-am _ _ c];exact A);omega
 refine YF (aD:=aD) (nt:=nt) (D:=D) st Z hres (λi o U=>by simp[D,U]) (λp h1 q=>Zb M a2 am h1 q) ax a0 be (λe s φ S a w bb R'=>⟨φ,S,e,s,_,bb,R'.more λb u=>IX u⟩) ops.size _ φ S env J a _ ?_ ?_ ?_ ?_
 . simp[F]
 . rw[BH,Array.getElem?_replicate];split<;>rfl
 . have:=List.countP_le_length (p:=λx:Bool=>x==false) (l:=(Array.replicate ops.size false).toList);simpa using this
 . have R':Rel aD nt φ S env J (lt N) a {w with drawn:=w.drawn+1}:=R.drew;have H:∀i,(Array.replicate ops.size false).pop.getD i false=true->False:=by
    intro i af;simp only[BH,Array.getElem?_pop]at af;grind
   refine⟨R'.more λb u=>by simp[used,u],by simp;omega,λi f af=>(H i af).elim,λt _=>by rw[cW],λt i o U af=>(H i af).elim,λb _=>by rw[t0],λb i f af=>(H i af).elim⟩
end
end
end Go.Proofs.YtdjagncoefjfeaaGreat.Shv
