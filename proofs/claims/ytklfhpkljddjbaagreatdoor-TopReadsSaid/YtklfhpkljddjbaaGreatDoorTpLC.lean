/- The library of this proof, part C: an abstract machine for the code of the program, and its soundness. -/
import Derived.Test.YtklfhpkljddjbaaGreatDoorTpLB

namespace Go.Proofs.YtklfhpkljddjbaaGreatDoor.Shv
set_option linter.all false
section
open Go
variable {xb:aY}
def ko(xb:aY)(aZ:List bX)(env:Env)(N:Nat):List (Nat×Nat)->Bool
 |[]=>true
 |(i,j)::r=>(match aZ[i]?,aZ[j]? with
  |some x,some y=>(dS xb y.op env (N+16*j)).all λb=>!(cy xb x.op env (N+16*i) b)
  |_,_=>true)&&ko xb aZ env N r
variable{N:Nat}{env:Env}{aZ:List bX}
theorem Th:∀{eL:List (Nat×Nat)} {i j:Nat} {x y:bX},ko xb aZ env N eL=true->(i,j)∈eL->aZ[i]?=some x->aZ[j]?=some y->∀b,b∈dS xb y.op env (N+16*j)->cy xb x.op env (N+16*i) b=false
 |[],i,j,x,y,h,a,_,_,_,_=>by simp at a
 |(d,f)::r,i,j,x,y,h,a,I,ag,b,c=>by
  simp only[ko,cK]at h;rcases dK.1 a with e|a
  . grind
  . exact Th h.2 a I ag b c
section
variable {P:Program}{av:Ctx}{nt kk:Nat}{N:Nat}{ops:Array Oper}{aZ:List bX}{E:Nat->Env}{T:Nat->a6}{G:Nat->Bool}{W:Nat->V}
theorem XL{i:Nat}{o:Oper}{x:bX}(a:ops[i]?=some o)(I:aZ[i]?=some x):(fg ops aZ)[i]?=some (x,hf o):=by
 unfold fg;grind
theorem NZ(ah:aZ.length=ops.size)(J:tz (fg ops aZ)=true)(X:oB xb P aZ N E T G W)(U:ko xb aZ (E aZ.length) N (ll (fg ops aZ))=true):
 Stat xb aZ (λi=>((ops[i]?).map hf).getD []) E N:=by
 simp only[tz,cK]at J;obtain⟨⟨S,K⟩,_⟩:=J;have e:∀i,i<aZ.length->∃o x,ops[i]?=some o/\aZ[i]?=some x/\(fg ops aZ)[i]?=some (x,hf o):=by
  intro i f;have s:ops[i]?=some ops[i]:=CO (by omega);have I:aZ[i]?=some aZ[i]:=eC f;exact⟨_,_,s,I,XL s I⟩
 have ab:∀i j,ahead (fg ops aZ) j i=true->j<i/\j∈((ops[i]?).map hf).getD []:=by
  intro i j h;obtain⟨h1,y,n,aa⟩:=aay h;refine⟨h1,?_⟩;have f:i<aZ.length:=by
   have:=(dH.1 n).1;unfold fg at this;simp at this;omega
  grind
 have L:∀(i j:Nat) (x y:bX) (d:Nat),aZ[i]?=some x->aZ[j]?=some y->y.dst=some d->(d∈x.rd->(j<i/\j∈((ops[i]?).map hf).getD [])\/(x.op.neutral=true/\x.op.hU=false/\i<j/\i∈((ops[j]?).map hf).getD []))/\(i=j\/x.dst≠some d):=by
  intro i j x y d I ag ak;obtain⟨v,Z,F,m,p⟩:=e i (dH.1 I).1;obtain⟨w,Q,H,c,q⟩:=e j (dH.1 ag).1;rw[I]at m;cases m;rw[ag]at c;cases c;simp only[Rf,e']at K;have h1:=K ((x,hf v),i) (eN (i:=i) (by simp[Cx,p]));have n:=h1 ((y,hf w),j) (eN (i:=j) (by simp[Cx,q]));grind
 refine⟨λi d f C=>?_,L,?_⟩
 . obtain⟨o,x,s,I,R⟩:=e i f;rw[s]at C;have:=HO S R d C;omega
 ·
  have D:∀(i:Nat) (x:bX),aZ[i]?=some x->¬(x.op.neutral=true/\x.op.hU=false)->∀t,t∈x.op.reads->look (E aZ.length) t=look (E i) t:=by
   intro i x I ai t ht;have f:=(dH.1 I).1;refine vH X (by omega) (eB _) λj y ad ae ag Y=>?_;rcases (L i j x y t I ag Y).1 (LW ht)with h|h
   . omega
   grind
  have aj:∀i j,n' (ny (fg ops aZ) []) j i=true->j<i/\iW (λi=>((ops[i]?).map hf).getD []) j i:=by
   intro i j h;simp only[n',cK,e9,List.contains_iff_mem]at h;refine⟨h.1,Sc (l:=fg ops aZ) (acc:=[]) (λk x I=>?_) (λi j z=>by simp at z) i j h.2⟩;have af:k<aZ.length:=by
    have:=(dH.1 I).1;unfold fg at this;simp at this;omega
   grind
  have A:∀(i j:Nat) (x y:bX) (b:Nat),i≠j->aZ[i]?=some x->aZ[j]?=some y->cy xb x.op (E i) (N+16*i) b=true->b∈dS xb y.op (E j) (N+16*j)->n' (ny (fg ops aZ) []) i j=true\/n' (ny (fg ops aZ) []) j i=true:=by
   intro i j x y b r I ag g a;by_cases h1:n' (ny (fg ops aZ) []) i j=true
   . grind
   . by_cases n:n' (ny (fg ops aZ) []) j i=true
     . grind
     . exfalso;obtain⟨v,Z,F,m,p⟩:=e i (dH.1 I).1;obtain⟨w,Q,H,c,q⟩:=e j (dH.1 ag).1;rw[I]at m;cases m;rw[ag]at c;cases c;have ht:y.op.hU=true:=by
        cases h:y.op.hU with
        |true=>rfl
        |false=>rw[YM h]at a;simp at a
       have V:(i,j)∈ll (fg ops aZ):=by
        simp only[ll,FQ,List.mem_flatMap];refine⟨((x,hf v),i),eN (i:=i) (by simp[Cx,p]),?_⟩;dsimp only;rw[K0 g];simp only[cJ,cE,GH];refine⟨((y,hf w),j),eN (i:=j) (by simp[Cx,q]),?_⟩;grind
       have:=Th U V I ag b (by rw[aax (D j y ag (λh=>by rw[ht]at h;cases h.2))];exact a);rw[aaw (D i x I (λh=>by rw[K0 g]at h;cases h.1))]at this;grind
  intro i j b r f z g a;obtain⟨v,x,F,I,p⟩:=e i f;obtain⟨w,y,H,ag,q⟩:=e j z;have u:cy xb x.op (E i) (N+16*i) b=true:=by unfold iF at g;rw[I]at g;exact g
  have conv:(n' (ny (fg ops aZ) []) i j=true\/n' (ny (fg ops aZ) []) j i=true)->(i<j/\iW (λi=>((ops[i]?).map hf).getD []) i j)\/(j<i/\iW (λi=>((ops[i]?).map hf).getD []) j i):=by grind
  rcases a with⟨Q,c,a⟩|a
  . rw[ag]at c;cases c;exact conv (A i j x y b r I ag u a)
  . have B:cy xb y.op (E j) (N+16*j) b=true:=by unfold iF at a;rw[ag]at a;exact a
    cases O:y.op.hU with
    |true=>exact conv (A i j x y b r I ag u (Tf O B))
    |false=>
     cases M:x.op.hU with
     |true=>exact conv (A j i y x b (dn r) ag I B (Tf M u)).symm
     |false=>
      have h1:=NY M u;have n:=NY O B;exfalso;omega
theorem Is:∀{l m:List (Nat×Nat)},(∀p,p∈l->p∈m)->ko xb aZ env N m=true->ko xb aZ env N l=true
 |[],_,_,_=>rfl
 |(i,j)::r,m,hs,h=>by
  simp only[ko,cK];refine⟨?_,Is (λp ai=>hs p (Cy _ ai)) h⟩
  have:∀ (m:List (Nat×Nat)),(i,j)∈m->ko xb aZ env N m = true->(match aZ[i]?,aZ[j]? with
   |some x,some y=>(dS xb y.op env (N+16*j)).all λb=>!(cy xb x.op env (N+16*i) b)
   |_,_=>true)=true:=by
   intro m;induction m with
   |nil=>intro h _;simp at h
   |cons q m ih=>
    intro c a;obtain⟨d,e⟩:=q;simp only[ko,cK]at a;grind
  grind
theorem aaz{l:List (bX×aY)}{p:Nat×Nat}(h:p∈ll l):p∈sa l:=by
 unfold sa;grind
theorem ch.om{eL:List (Nat×Nat)}{env:Env}{J:a6}{Q:Exit->Env->a6->Nat->Prop}(h:xF xb P aZ N env J (λe s=>ko xb aZ e N eL=true/\Q .normal e s (N+16*aZ.length))):ch P nt kk (.om aZ eL) env J N Q:=by
 intro code y av φ S a w H R;obtain⟨id,ops,rfl,hres,F,D,rfl⟩:=RM y;have c:=x' hres;simp at c;obtain⟨E,T,G,W,j,ds,t0,A,q⟩:=Jf h;refine wp_region_any D ?_;refine XK (av:=av) (nt:=nt) (NZ c F j (Is (λp ai=>aaz ai) A)) j hres (λi o f=>by simp[f]) (λφ S a w R'=>⟨φ,S,_,_,_,q,R'⟩) ops.size _ φ S env J a _ ?_ ?_
 . have:=List.countP_le_length (p:=λx:Bool=>x==false) (l:=(Array.replicate ops.size false).toList);grind
 . have R':Rel av nt φ S env J (lt N) a {w with drawn:=w.drawn+1}:=R.drew;refine⟨R'.more λb v=>by simp[used,v],by simp[c],λi B ae=>?_,λt _=>by rw[ds],λt i o f ae=>?_,λb _=>by rw[t0],λb i B ae=>?_⟩
   . simp_all
   . exfalso;simp[Array.getElem?_replicate]at ae;split at ae<;>simp at ae
   simp_all
end
end
section
open Go
def p0(P:Program)(c:Code)(Q:Exit->Act->World->Prop)(a:Act)(w:World):Prop:=
 ∀(b:Frame) (k:List Item) (cs:List Frame),∃e bR w',Q e bR w'/\Arrives P (lone (b.at a (.code c:: .inLoop c::k)) cs w) b k cs e bR w'
variable{Q:Exit->Act->World->Prop}{w:World}{P:Program}{a:Act}{c:dq}{φ:cU}{S:cR}{av:Ctx}{D:Nat->Type}
theorem py{c:Code}(h:c.wp P (Exit.then (p0 P c Q) Q) a w):p0 P c Q a w:=by
 intro b k cs;obtain⟨e,g,i,f,d⟩:=h b _ cs;cases e with
 |normal=>
  obtain⟨m,j,p,o,n⟩:=f b k cs;exact⟨m,j,p,o,.of_steps (Steps.trans d (.one step_inLoop)) n⟩
 |exit id=>exact⟨_,g,i,f,.pass rfl (λ_ _=>.inl (by simp)) d⟩
 |goto l=>exact⟨_,g,i,f,.pass (x:= .inLoop c) rfl (λ_ _=>.inl (by simp)) d⟩
 |ret=>exact⟨_,g,i,f,.pass (x:= .inLoop c) rfl (λ_ _=>.inl (by simp)) d⟩
 |panic kX=>exact⟨_,g,i,f,.pass (x:= .inLoop c) rfl (λ_ _=>.inl (by simp)) d⟩
 |outgrown=>exact⟨_,g,i,f,.pass (x:= .inLoop c) rfl (λ_ _=>.inl (by simp)) d⟩
theorem wc{c:Code}(h:p0 P c Q a w):(Code.loop c).wp P Q a w:=by
 intro b k cs;obtain⟨e,bR,w',f,d⟩:=h b k cs;exact⟨e,bR,w',f,.of_steps (.one step_loop) d⟩
section
variable {P:Program}{nt kk:Nat}{env env':Env}{J J':a6}{N N':Nat}{Q ns:Exit->Env->a6->Nat->Prop}
def mi(P:Program)(nt kk:Nat)(c:dq)(env:Env)(J:a6)(N:Nat)(Q:Exit->Env->a6->Nat->Prop):Prop:=
 ∀code,resolve P nt code=some c->∀av φ S a w,av.k=kk->Rel av nt φ S env J (lt N) a w->p0 P code (λe bR w'=>∃a8 ba env' J' N',Q e env' J' N'/\Rel av nt a8 ba env' J' (lt N') bR w') a w
theorem mi.round(h:ch P nt kk c env J N (andThen (λenv J N=>mi P nt kk c env J N Q) Q)):mi P nt kk c env J N Q:=by
 intro code f av φ S a w j R;refine py (wp_mono (h _ f av φ S a w j R) ?_)
 rintro e bR w' ⟨a8,ba,env',J',N',o,R'⟩
 cases e with
 |normal=>exact o _ f av _ ba bR w' j R'
 |_=>exact⟨a8,ba,env',J',N',o,R'⟩
theorem ch.afF(h:mi P nt kk c env J N Q):ch P nt kk (.loop c) env J N Q:=by
 intro code f av φ S a w j R;obtain⟨b,rfl,e⟩:=XH f;exact wc (h b e av φ S a w j R)
def Conv(kk N:Nat)(env:Env)(J:a6)(N':Nat)(env':Env)(J':a6):Prop:=
 ∀av nt φ S a w,av.k=kk->Rel av nt φ S env J (lt N) a w->∃a8 ba,Rel av nt a8 ba env' J' (lt N') a w
theorem Conv.refl:Conv kk N env J N env J:=λ_ _ φ S _ _ _ R=>⟨φ,S,R⟩
theorem Conv.trans{c e f:Nat}{aC j dw:Env}{s1 p q:a6}(h:Conv kk c aC s1 e j p)(k:Conv kk e j p f dw q):Conv kk c aC s1 f dw q:=
 λav nt φ S a w o R=>let⟨a8,ba,R'⟩:=h av nt φ S a w o R;k av nt _ ba a w o R'
theorem ch.conv(f:Conv kk N env J N' env' J')(h:ch P nt kk c env' J' N' Q):ch P nt kk c env J N Q:=
 λcode j av φ S a w e R=>let⟨a8,ba,R'⟩:=f av nt φ S a w e R;h _ j av _ ba a w e R'
theorem mi.conv(f:Conv kk N env J N' env' J')(h:mi P nt kk c env' J' N' Q):mi P nt kk c env J N Q:=
 λcode j av φ S a w e R=>let⟨a8,ba,R'⟩:=f av nt φ S a w e R;h _ j av _ ba a w e R'
theorem Conv.tidy(ks bs:aY)(bV:bs.Nodup)(c:keeps kk bs=true):Conv kk N env J bs.length (n1 bs env ks) (fu bs J 0 bs):=
 λav nt φ S a w e R=>let⟨a8,R'⟩:=R.tidy ks bs bV (by grind);⟨a8,S,R'⟩
theorem Conv.freeze(b0:Nat){c:Nat}{es:List (List T)}(e:aR J b0=some (.arr c es)):Conv kk N env J N (qZ b0 c es env) (mW b0 c es J):=
 λav nt φ S a w f R=>⟨φ,_,R.freeze e⟩
def dz(c a:C):Prop:=(∀φ w S v,bk φ w S c v->bk φ w S a v)/\∀n,c.az n=true->a.az n=true
theorem dz.refl(c:C):dz c c:=⟨λ_ _ _ _ h=>h,λ_ h=>h⟩
theorem dz.dead(c:C):dz c .dead:=⟨λ_ _ _ _ h=>h.iQ,λ_ _=>rfl⟩
theorem dz.bD:dz .bD (.t (.slice [])):=by
 refine⟨?_,λ_ _=>rfl⟩
 rintro φ w S v ⟨a,rfl⟩
 exact bK.slice [] a 0 0 0 0 (λ_ _=>undef) (by simp) (by simp) (by simp) (by simp) (by simp) (by simp)
inductive gm:V->V->Prop
 |c {x y}:dz x y->gm (.c x) (.c y)
 |agg {xs p3}:aV dz xs p3->gm (.agg xs) (.agg p3)
 |aX (xs p3:List V) (ae:xs.length=p3.length) (h:∀(i:Nat) x y,xs[i]?=some x->p3[i]?=some y->gm x y):gm (.aX xs) (.aX p3)
theorem aV.comp{α e f:Type}{R:α->e->Prop}{R':e->f->Prop}{j:α->f->Prop}(h:∀a b c,R a b->R' b c->j a c):∀{l:List α} {m:List e} {k:List f},aV R l m->aV R' m k->aV j l k
 |[],[],[],_,_=>.nil
 |_::_,_::_,_::_,.cons h1 o,.cons k1 k2=>.cons (h _ _ _ h1 k1) (aV.comp h o k2)
theorem aV.flip{α c:Type}{R:α->c->Prop}{R':c->α->Prop}{l:List α}{m:List c}(h:aV R l m)(k:∀a b,R a b->R' b a):aV R' m l:=by
 induction h with
 |nil=>exact .nil
 |cons h _ ih=>exact .cons (k _ _ h) ih
theorem PM{n:Nat->Bool}:∀{vs:List V},(∀(i:Nat) v,vs[i]?=some v->v.az n=true)->V.az.V.dj n vs=true
 |[],_=>rfl
 |v::vs,h=>by simp[V.az.V.dj];exact⟨h 0 v rfl,PM λi x I=>h (i+1) x (by grind)⟩
theorem gm.G7{v f:V}(h:gm v f):∀{x},bS φ w S v x->bS φ w S f x:=by
 induction h with
 |c h=>intro x I;cases I with|c I=>exact .c (h.1 _ _ _ _ I)
 |agg h=>
  intro x I;cases I with
  |agg I=>exact .agg (aV.comp (λa b c h1 e=>h1.1 _ _ _ _ e) (h.flip λ_ _ h=>h) I)
 |aX xs p ae h ih=>
  intro x I;cases I with
  |aX _ j o e=>
   refine .aX _ j (by omega) ?_;grind
theorem gm.az{v f:V}(h:gm v f)(n:Nat->Bool):v.az n=true->f.az n=true:=by
 induction h with
 |c h=>intro e;exact h.2 n e
 | @agg xs q h=>
  intro e;simp[V.az]at e⊢;intro c o;obtain⟨i,p,rfl⟩:=gQ o;obtain⟨a,j,hs⟩:=(h.flip λ_ _ h=>h).get (eC p);exact hs.2 n (e a (eN j))
 |aX xs q ae h ih=>
  grind[V.az,PM,mQ]
inductive kb:bJ->bJ->Prop
 |box {xs p3}:aV dz xs p3->kb (.box xs) (.box p3)
 |arr {sz es}:kb (.arr sz es) (.arr sz es)
 |same {x}:kb x x
 |b3 {E c xA}:dz c xA->kb (.b3 E c) (.b3 E xA)
 |cw {sz es i o c xA}:dz c xA->kb (.cw sz es i o c) (.cw sz es i o xA)
def OR(env env':Env):Prop:=∀k g a,look env' k=some (g,a)->∃v,look env k=some (g,v)/\gm v a
def r6(J J':a6):Prop:=∀b a,aR J' b=some a->∃x,aR J b=some x/\kb x a
theorem kb.GY{b:Nat}{x o:bJ}(h:kb x o)(j:cQ φ w S b x):cQ φ w S b o:=by
 cases h with
 |arr=>grind
 |same=>grind
 |b3 h=>
  obtain⟨h0,⟨p,v,h1,e,f⟩,q⟩:=j;exact⟨h0,⟨p,v,h1,e,h.1 _ _ _ _ f⟩,q⟩
 |cw h=>
  obtain⟨h1,⟨vs,E,k1,k2,k3,v,k4,k5⟩,k6⟩:=j;exact⟨h1,⟨vs,E,k1,k2,k3,v,k4,h.1 _ _ _ _ k5⟩,k6⟩
 |box h=>
  obtain⟨h0,vs,E,h1,e,f⟩:=j;exact⟨h0,vs,E,h1,aV.comp (λa b c h1 e=>h1.1 _ _ _ _ e) (h.flip λ_ _ h=>h) e,f⟩
theorem kb.az{x c:bJ}(h:kb x c)(n:Nat->Bool)(a:x.az n=true):c.az n=true:=by
 cases h with
 |arr=>rfl
 |same=>grind
 |b3 h=>exact h.2 n a
 |cw h=>exact h.2 n a
 | @box xs e h=>
  have:=gm.az (.agg h) n (by grind[V.az,bJ.az]);grind[V.az,bJ.az]
theorem Rel.weaken{n:Nat->Bool}(R:Rel av nt φ S env J n a w)(he:OR env env')(hs:r6 J J'):Rel av nt φ S env' J' n a w:=by
 refine⟨⟨λb x I=>?_,λb f x y I ag=>?_,R.bB.st⟩,λk g v ae al=>?_,λk g v ae al=>?_,λk g v ae al=>?_,λb x I=>?_,R.size,R.defers,R.ext,λb x I=>?_,R.fix,R.gb⟩
 . obtain⟨e,h1,c⟩:=hs b x I;exact c.GY (R.bB.blk b e h1)
 . obtain⟨e,h1,c⟩:=hs b x I;obtain⟨o,k1,k2⟩:=hs f y ag;exact R.bB.inj b f e o h1 k1
 . obtain⟨v0,h1,c⟩:=he k g v ae;obtain⟨x,I,j⟩:=R.fP k g v0 h1 al;exact⟨x,I,c.G7 j⟩
 . obtain⟨v0,h1,c⟩:=he k g v ae;exact R.gN k g v0 h1 al
 . obtain⟨v0,h1,c⟩:=he k g v ae;exact c.az n (R.fO k g v0 h1 al)
 . obtain⟨e,h1,c⟩:=hs b x I;exact⟨(R.dp b e h1).1,c.az n (R.dp b e h1).2⟩
 . obtain⟨e,h1,c⟩:=hs b x I;exact R.own b e h1
theorem Conv.weaken(he:OR env env')(hs:r6 J J'):Conv kk N env J N env' J':=λav nt φ S a w _ R=>⟨φ,S,R.weaken he hs⟩
theorem Rel.Gw(R:Rel av nt φ S env J (lt N) a w){sz:Nat}(t:0<sz)(B:av.k<=N):
 Rel av nt (dZ φ N (0,0)) S env (cW J N (.arr sz [])) (lt (N+1)) a w:=by
 have A:∀b,lt N b=true->dZ φ N (0,0) b=φ b:=by
  intro b f;simp[lt]at f;grind[dZ]
 have j:∀b,lt N b=true->lt (N+1) b=true:=λb f=>Ev (by simp) f;have c:=R.tT A;have cp:(dZ φ N (0,0) N).2=0:=by simp[dZ]
 have e:∀b x,aR (cW J N (.arr sz [])) b=some x->(b=N/\x= .arr sz [])\/(b≠N/\aR J b=some x):=by
  grind[cS]
 refine⟨⟨λb x I=>?_,λb o x y I ag q h0 p=>?_,c.bB.st⟩,c.fP,c.gN,λk g v ae al=>V.hh j (c.fO k g v ae al),λb x I=>?_,c.size,c.defers,c.ext,λb x I h0=>?_,c.fix,λb f=>by simp[lt];omega⟩
 . rcases e b x I with⟨rfl,rfl⟩|⟨_,I⟩
   . exact⟨by simp,by simp,by simp,t,λh=>absurd cp h⟩
   . exact c.bB.blk b x I
 . rcases e b x I with⟨rfl,rfl⟩|⟨_,I⟩
   . grind
   . rcases e o y ag with⟨rfl,rfl⟩|⟨_,ag⟩
     . grind
     . exact c.bB.inj b o x y I ag q h0 p
 . rcases e b x I with⟨rfl,rfl⟩|⟨_,I⟩
   . exact⟨by simp[lt],rfl⟩
   . exact⟨j b (c.dp b x I).1,bJ.hh j (c.dp b x I).2⟩
 . rcases e b x I with⟨rfl,rfl⟩|⟨_,I⟩
   . grind
   . exact c.own b x I h0
end
inductive aD where
 |bool
 |int (k:IntKind)
 |str
 |slice (t:aD)
 |nm (n:Nat)
def aD.beq:aD->aD->Bool
 |.bool,.bool=>true
 |.int k,.int a=>decide (k=a)
 |.str,.str=>true
 |.slice r,.slice c=>aD.beq r c
 |.nm n,.nm m=>Nat.beq n m
 |_,_=>false
theorem aD.beq_eq:∀{a b:aD},aD.beq a b=true->a=b
 |.bool,.bool,_=>rfl
 |.int k,.int c,h=>by grind[aD.beq]
 |.str,.str,_=>rfl
 |.slice r,.slice e,h=>by simp[aD.beq]at h;rw[aD.beq_eq h]
 |.nm n,.nm m,h=>by grind[aD.beq,Nat.eq_of_beq_eq_true]
 |.bool,.int _,h|.bool,.str,h|.bool,.slice _,h|.bool,.nm _,h=>by simp[aD.beq]at h
 |.int _,.bool,h|.int _,.str,h|.int _,.slice _,h|.int _,.nm _,h=>by simp[aD.beq]at h
 |.str,.int _,h|.str,.bool,h|.str,.slice _,h|.str,.nm _,h=>by simp[aD.beq]at h
 |.slice _,.int _,h|.slice _,.str,h|.slice _,.bool,h|.slice _,.nm _,h=>by simp[aD.beq]at h
 |.nm _,.int _,h|.nm _,.str,h|.nm _,.bool,h|.nm _,.slice _,h=>by grind[aD.beq]
theorem aD.beq_refl:∀(a:aD),aD.beq a a=true
 |.bool=>rfl
 |.int k=>by simp[aD.beq]
 |.str=>rfl
 |.slice r=>by exact aD.beq_refl r
 |.nm n=>by grind[aD.beq,Nat.beq_refl]
def aD.dec(a b:aD):Decidable (a=b):=
 match h:aD.beq a b with
 |true=>.isTrue (aD.beq_eq h)
 |false=>.isFalse λe=>by rw[e,aD.beq_refl]at h;cases h
def aD.den(D:Nat->Type):aD->Type
 |.bool=>Bool
 |.int _=>Int
 |.str=>ar
 |.slice t=>List (aD.den D t)
 |.nm n=>D n
structure Cell (D:Nat->Type) where
 ty:aD
 val:ty.den D
def Cell.as{D:Nat->Type}(t:aD)(c:Cell D):Option (t.den D):=
 match aD.dec c.ty t with
 |.isTrue h=>some (Eq.rec (motive:=λt _=>aD.den D t) c.val h)
 |.isFalse _=>none
variable{t:aD}
theorem Cell.jR{c:Cell D}{x:t.den D}(h:c.as t=some x):c=⟨t,x⟩:=by
 obtain⟨u,v⟩:=c;unfold Cell.as at h;split at h
 all_goals grind
theorem Cell.PL{x:t.den D}:Cell.as t (⟨t,x⟩:Cell D)=some x:=by
 unfold Cell.as;split
 . rfl
 grind
def Gh(D:Nat->Type)(enc:∀n,D n->List T):(t:aD)->t.den D->List T
 |.bool,b=>[.bool b]
 |.int k,n=>[.int k n]
 |.str,s=>[.str s]
 |.slice t,l=>[.slice (List.map (Gh D enc t) l)]
 |.nm n,x=>enc n x
def Qq(D:Nat->Type)(enc:∀n,D n->List T):Cell D->T
 |⟨.bool,b⟩=>.bool b
 |⟨.int k,n⟩=>.int k n
 |⟨.str,s⟩=>.str s
 |⟨.slice t,l⟩=>.slice (List.map (Gh D enc t) l)
 |⟨.nm _,_⟩=>.bool false
structure cF where
 D:Nat->Type
 jZ:∀n,D n
 u3:∀n,D n->List (Cell D)
 make:∀n,List (Cell D)->Option (D n)
 de:Nat->List aD
 enc:∀n,D n->List T
 Qr:∀n x,enc n x=(u3 n x).map (Qq D enc)
 mk_eq:∀n l x,make n l=some x->u3 n x=l
 Rl:∀n x,(u3 n x).map Cell.ty=de n
 pos:∀n,0<(de n).length
 Rk:Nat->Option aD:=λ_=>none
 own:List (List Bool×Nat×aD):=[]
 cb:Option aD:=none
variable {U:cF}
abbrev cF.C(U:cF):=Cell U.D
abbrev aD.d(U:cF)(t:aD):=t.den U.D
def aD.jZ(U:cF):(t:aD)->t.den U.D
 |.bool=>false
 |.int _=>(0:Int)
 |.str=>([]:ar)
 |.slice t=>([]:List (t.den U.D))
 |.nm n=>U.jZ n
def aD.u7:aD->Bool
 |.nm _=>true
 |_=>false
def aD.row(U:cF):(t:aD)->t.den U.D->List (Cell U.D)
 |.bool,b=>[⟨.bool,b⟩]
 |.int k,n=>[⟨.int k,n⟩]
 |.str,s=>[⟨.str,s⟩]
 |.slice t,l=>[⟨.slice t,l⟩]
 |.nm n,x=>U.u3 n x
def aD.cells(U:cF):aD->List aD
 |.nm n=>U.de n
 |t=>[t]
def aD.sz(U:cF)(t:aD):Nat:=(t.cells U).length
def iQ(U:cF)(t:aD):List (Cell U.D)->Option (t.den U.D)
 |[c]=>c.as t
 |_=>none
def aD.mk(U:cF):(t:aD)->List (Cell U.D)->Option (t.den U.D)
 |.nm n,l=>U.make n l
 |.bool,l=>iQ U .bool l
 |.int k,l=>iQ U (.int k) l
 |.str,l=>iQ U .str l
 |.slice t,l=>iQ U (.slice t) l
variable{x:t.den U.D}
theorem DZ{l:List (Cell U.D)}(h:iQ U t l=some x):l=[⟨t,x⟩]:=by
 unfold iQ at h;grind[Cell.jR]
def Cell.enc(U:cF)(c:Cell U.D):T:=Qq U.D U.enc c
def aD.enc(U:cF)(t:aD)(x:t.den U.D):List T:=Gh U.D U.enc t x
theorem aD.u0:t.enc U x=(t.row U x).map (Cell.enc U):=by
 cases t<;>first|rfl|skip
 case nm n=>exact U.Qr n x
theorem aD.agz:(t.row U x).map Cell.ty=t.cells U:=by
 cases t<;>first|rfl|skip
 case nm n=>exact U.Rl n x
theorem aD.G5:(t.row U x).length=t.sz U:=by
 rw[<-jH,aD.agz];rfl
theorem aD.sj:(t.enc U x).length=t.sz U:=by
 rw[aD.u0,jH,aD.G5]
theorem aD.rI:0<t.sz U:=by
 cases t<;>simp[aD.sz,aD.cells];exact U.pos _
theorem aD.Gu:∀{t:aD} {l:List (Cell U.D)} {x:t.den U.D},t.mk U l=some x->t.row U x=l
 |.nm n,l,x,h=>U.mk_eq n l x h
 |.bool,l,x,h=>(DZ h).symm
 |.int k,l,x,h=>(DZ h).symm
 |.str,l,x,h=>(DZ h).symm
 |.slice t,l,x,h=>(DZ h).symm
def aD.at(U:cF)(t:aD)(l:List (t.den U.D))(i:Nat):t.den U.D:=l.getD i (t.jZ U)
theorem zd{l:List (t.den U.D)}{i:Nat}(h:i<l.length):el (l.map (t.enc U)) i=t.enc U (t.at U l i):=by
 simp[el,aD.at,eC h]
end
section
open Go
variable {U:cF}
inductive bd (U:cF) where
 |t (c:Cell U.D)
 |ptr (b o:Nat)
 |cA (b:Nat)(t:aD)(i o:Nat)
 |dF (t:aD)(x:t.den U.D)(o:Nat)
 |arr (b:Nat)
 |sub (b oe len:Nat)
 |pre (b h:Nat)
 |dI (b oe len:Nat)
 |mp (b:Nat)
 |ei (b:Nat)
 |cr (b:Nat)
 |bD
 |eQ
 |eP
 |fn (f:Nat)(caps:aY)
 |dead
inductive bA (U:cF) where
 |c (x:bd U)
 |agg (cs:List (bd U))
 |aX (vs:List (bA U))
inductive cx (U:cF) where
 |box (cs:List (bd U))
 |arr (t:aD)(l:List (t.den U.D))
 |rows (sz:Nat)(r:List (List (bd U)))
 |set (ks:List ar)
 |buf (E:Nat)(s:ar)
 |b3 (E:Nat)(c:bd U)
 |cw (t:aD)(l:List (t.den U.D))(i o:Nat)(c:bd U)
abbrev bI(U:cF):=List (Nat×bA U)
abbrev a7(U:cF):=List (Nat×cx U)
abbrev ek:=List (Nat×Nat×Bool)
def aS{α:Type}:List (Nat×α)->Nat->Option α
 |[],_=>none
 |(k,x)::r,i=>match Nat.beq k i with
  |true=>some x
  |false=>aS r i
def cn{α:Type}:List (Nat×α)->Nat->α->List (Nat×α)
 |[],b,x=>[(b,x)]
 |(k,y)::r,b,x=>match Nat.beq k b with
  |true=>(k,x)::r
  |false=>(k,y)::cn r b x
def dl{α:Type}:List (Nat×α)->Nat->List (Nat×α)
 |[],_=>[]
 |(k,y)::r,b=>match Nat.beq k b with
  |true=>dl r b
  |false=>(k,y)::dl r b
theorem cL{a b:Nat}(h:Nat.beq a b=true):a=b:=Nat.eq_of_beq_eq_true h
theorem hP{a b:Nat}(h:Nat.beq a b=false):a≠b:=λe=>by simp_all
variable{α:Type}
theorem gw(J:List (Nat×α))(b:Nat)(x:α)(i:Nat):aS (cn J b x) i=if b=i then some x else aS J i:=by
 induction J with
 |nil=>
  grind[cn,aS,cL,hP]
 |cons y r ih=>
  grind[cn,cL,aS]
theorem mY(J:List (Nat×α))(b i:Nat):aS (dl J b) i=if b=i then none else aS J i:=by
 induction J with
 |nil=>simp[dl,aS]
 |cons y r ih=>
  grind[dl,cL,aS]
def Aw:C->Option (bd U)
 |.t (.bool b)=>some (.t ⟨.bool,b⟩)
 |.t (.int k n)=>some (.t ⟨.int k,n⟩)
 |.t (.str s)=>some (.t ⟨.str,s⟩)
 |.bD=>some .bD
 |.eQ=>some .eQ
 |.eP=>some .eP
 |.dead=>some .dead
 |.fn f []=>some (.fn f [])
 |_=>none
def mg:List C->Option (List (bd U))
 |[]=>some []
 |c::cs=>match Aw c,mg cs with
  |some x,some xs=>some (x::xs)
  |_,_=>none
def xi:V->Option (bA U)
 |.c x=>match Aw x with
  |some y=>some (.c y)
  |none=>none
 |.agg cs=>match mg cs with
  |some a=>some (.agg a)
  |none=>none
 |.aX _=>none
def wW(gl:ek):Nat->Option (Nat×Bool)->Nat->Bool
 |0,_,_=>false
 |b+1,gd,k=>match aS gl k with
  |none=>true
  |some a=>match gd with
   |none=>false
   |some g=>(Nat.beq g.1 a.1&&(g.2==a.2))||wW gl b (aS gl g.1) k
def eY(env:bI U)(t:Nat)(b:Bool):Option Bool:=
 match aS env t with
 |some (.c (.t ⟨.bool,x⟩))=>some (match b with|true=>x|false=>!x)
 |_=>none
def lu(gl:ek)(env:bI U):Nat->Option (Nat×Bool)->Option Bool
 |_,none=>some true
 |0,some _=>none
 |a+1,some (t,b)=>match lu gl env a (aS gl t),eY env t b with
  |some x,some y=>some (x&&y)
  |_,_=>none
def qj:Nat:=200
def c3(gl:ek)(gd:Option (Nat×Bool))(env:bI U):aO->Option (bA U)
 |.const v=>xi v
 |.tmp k=>match wW gl qj gd k with
  |true=>aS env k
  |false=>none
def Fk(gl:ek)(gd:Option (Nat×Bool))(env:bI U)(c:aO)(b:Bool):aO->Option (bA U)
 |.const v=>xi v
 |.tmp k=>match wW gl qj gd k with
  |true=>aS env k
  |false=>match c,aS gl k with
   |.tmp d,some (t,a)=>match Nat.beq t d&&(a==b)with
    |true=>aS env k
    |false=>none
   |_,_=>none
def lF(gl:ek)(gd:Option (Nat×Bool))(env:bI U):List aO->Option (List (bA U))
 |[]=>some []
 |x::r=>match c3 gl gd env x,lF gl gd env r with
  |some v,some vs=>some (v::vs)
  |_,_=>none
def pk:bA U->Option (List (bd U))
 |.c x=>some [x]
 |.agg cs=>some cs
 |.aX _=>none
def ox(a:List (bd U))(off:Nat)(cs:List (bd U)):List (bd U):=a.take off++cs++a.drop (off+cs.length)
def ze(gl:ek)(gd:Option (Nat×Bool))(env:bI U):List (bd U)->List (Nat×Nat×aO)->Option (List (bd U))
 |a,[]=>some a
 |a,(off,n,x)::r=>match c3 gl gd env x with
  |none=>none
  |some v=>match pk v with
   |none=>none
   |some cs=>match Nat.beq cs.length n&&Nat.ble (off+n) a.length with
    |true=>ze gl gd env (ox a off cs) r
    |false=>none
theorem K1{a cs:List (bd U)}{o:Nat}(h:o+cs.length<=a.length):(ox a o cs).length=a.length:=by
 simp only[ox,dD,ry,l9];omega
def bd.toT:bd U->Option T
 |.t c=>match c.ty.u7 with
  |true=>none
  |false=>some (c.enc U)
 |.bD=>some (.slice [])
 |_=>none
def hq:List (bd U)->Option (List T)
 |[]=>some []
 |c::cs=>match c.toT,hq cs with
  |some t,some ts=>some (t::ts)
  |_,_=>none
def vw(gl:ek)(gd:Option (Nat×Bool))(env:bI U)(sz:Nat):List (List (bd U))->List (Nat×aO)->Option (List (List (bd U)))
 |rows,[]=>some rows
 |rows,(i,x)::r=>match c3 gl gd env x with
  |none=>none
  |some v=>match pk v with
   |none=>none
   |some cs=>match hq cs with
    |none=>none
    |some _=>match Nat.beq cs.length sz&&Nat.ble (i+1) rows.length with
     |true=>vw gl gd env sz (rows.set i cs) r
     |false=>none
inductive fL (U:cF) where
 |ty (t:aD)(l:List (t.den U.D))
 |rows (r:List (List (bd U)))
 |nil
def fL.len:fL U->Nat
 |.ty _ l=>l.length
 |.rows r=>r.length
 |.nil=>0
def hB:List aD->List (bd U)->Option (List (Cell U.D))
 |[],[]=>some []
 |t::ts,.t c::cs=>match hB ts cs with
  |some l=>some (c::l)
  |none=>none
 |.slice t::ts,.bD::cs=>match hB ts cs with
  |some l=>some (⟨.slice t,([]:List (t.den U.D))⟩::l)
  |none=>none
 |_,_=>none
def oy(U:cF)(t:aD)(cs:List (bd U)):Option (t.den U.D):=
 match hB (t.cells U) cs with
 |some l=>t.mk U l
 |none=>none
def mf(U:cF)(t:aD):List (List (bd U))->Option (List (t.den U.D))
 |[]=>some []
 |r::a=>match oy U t r,mf U t a with
  |some x,some xs=>some (x::xs)
  |_,_=>none
def fL.as(t:aD):fL U->Option (List (t.den U.D))
 |.ty u l=>Cell.as (.slice t) ⟨.slice u,l⟩
 |.rows r=>mf U t r
 |.nil=>some []
def fL.join:fL U->fL U->Option (fL U)
 |.nil,y=>some y
 |.ty t l,y=>match y.as t with
  |some a=>some (.ty t (l++a))
  |none=>none
 |.rows r,.ty t l=>match mf U t r with
  |some c=>some (.ty t (c++l))
  |none=>none
 |.rows r,.rows e=>some (.rows (r++e))
 |.rows r,.nil=>some (.rows r)
def fL.blk(sz:Nat):fL U->Option (cx U)
 |.ty t l=>match Nat.beq (t.sz U) sz with
  |true=>some (.arr t l)
  |false=>none
 |.rows r=>match r.all λx=>Nat.beq x.length sz with
  |true=>some (.rows sz r)
  |false=>none
 |.nil=>some (.rows sz [])
def rS(J:a7 U):bA U->Option (fL U×Option Nat)
 |.c (.t ⟨.slice t,l⟩)=>some (.ty t l,none)
 |.c .bD=>some (.nil,none)
 |.c (.arr b)=>match aS J b with
  |some (.arr t l)=>some (.ty t l,some b)
  |some (.rows _ r)=>some (.rows r,some b)
  |_=>none
 |_=>none
def cx.cV:cx U->Option (Nat×Nat)
 |.box cs=>some (1,cs.length)
 |.arr t l=>some (t.sz U,l.length)
 |.rows sz r=>some (sz,r.length)
 |.set _=>none
 |.buf _ s=>some (1,s.length)
 |.b3 _ _=>none
 |.cw t l _ _ _=>some (t.sz U,l.length)
def R6(J:a7 U)(b sz:Nat):Bool:=
 match aS J b with
 |some x=>(match x.cV with|some p=>Nat.beq p.1 sz|none=>false)
 |none=>false
def room(bytes n:Nat):Bool:=decide ((2*n+192)*bytes<=gJ)&&decide (n<=c1)
def RX:BinOp->IntKind->IntKind->Int->Int->Option (Bool×Cell U.D)
 |.add,k,c,a,b=>if k=c then some (true,⟨.int k,k.wrap (a+b)⟩)else none
 |.sub,k,c,a,b=>if k=c then some (true,⟨.int k,k.wrap (a-b)⟩)else none
 |.mul,k,c,a,b=>if k=c then some (true,⟨.int k,k.wrap (a*b)⟩)else none
 |.quo,k,c,a,b=>if k=c then some (!decide (b=0),⟨.int k,k.wrap (a.tdiv b)⟩)else none
 |.rem,k,c,a,b=>if k=c then some (!decide (b=0),⟨.int k,a.tmod b⟩)else none
 |.and,k,c,a,b=>if k=c then some (true,⟨.int k,k.wrap (BitVec.ofInt k.bits a &&& BitVec.ofInt k.bits b).toNat⟩)else none
 |.or,k,c,a,b=>if k=c then some (true,⟨.int k,k.wrap (BitVec.ofInt k.bits a ||| BitVec.ofInt k.bits b).toNat⟩)else none
 |.xor,k,c,a,b=>if k=c then some (true,⟨.int k,k.wrap (BitVec.ofInt k.bits a ^^^ BitVec.ofInt k.bits b).toNat⟩)else none
 |.andNot,k,c,a,b=>if k=c then some (true,⟨.int k,k.wrap (BitVec.ofInt k.bits a &&& ~~~ BitVec.ofInt k.bits b).toNat⟩)else none
 |.shl,k,_,a,b=>some (decide (0<=b),⟨.int k,k.wrap (a*2^min b.toNat k.bits)⟩)
 |.shr,k,_,a,b=>some (decide (0<=b),⟨.int k,a.fdiv (2^min b.toNat k.bits)⟩)
 |.eql,k,c,a,b=>if k=c then some (true,⟨.bool,decide (a=b)⟩)else none
 |.neq,k,c,a,b=>if k=c then some (true,⟨.bool,!decide (a=b)⟩)else none
 |.lss,k,c,a,b=>if k=c then some (true,⟨.bool,decide (a<b)⟩)else none
 |.leq,k,c,a,b=>if k=c then some (true,⟨.bool,decide (a<=b)⟩)else none
 |.gtr,k,c,a,b=>if k=c then some (true,⟨.bool,decide (b<a)⟩)else none
 |.geq,k,c,a,b=>if k=c then some (true,⟨.bool,decide (b<=a)⟩)else none
def RY:BinOp->ar->ar->Option (Bool×Cell U.D)
 |.add,a,b=>some (decide (a.length+b.length<=ft),⟨.str,a++b⟩)
 |.eql,a,b=>some (true,⟨.bool,decide (a=b)⟩)
 |.neq,a,b=>some (true,⟨.bool,!decide (a=b)⟩)
 |.lss,a,b=>some (true,⟨.bool,Op.bytesLess a b⟩)
 |.leq,a,b=>some (true,⟨.bool,Op.bytesLess a b||decide (a=b)⟩)
 |.gtr,a,b=>some (true,⟨.bool,!(Op.bytesLess a b||decide (a=b))⟩)
 |.geq,a,b=>some (true,⟨.bool,!(Op.bytesLess a b)⟩)
 |_,_,_=>none
def Kp(op:BinOp):Cell U.D->Cell U.D->Option (Bool×Cell U.D)
 |⟨.int k,a⟩,⟨.int c,b⟩=>RX op k c a b
 |⟨.str,a⟩,⟨.str,b⟩=>RY op a b
 |_,_=>none
def gr(a b:Bool):Bool:=a==b
def eh(a b:Int):Bool:=decide (a=b)
def kv(a b:ar):Bool:=decide (a=b)
def aQ(m:Int)(n:Nat):Bool:=decide (0<=m)&&decide (m.toNat<n)
def eH(b a:Int)(n:Nat):Bool:=decide (0<=b)&&(decide (b<=a)&&decide (a<=n))
def eZ{α:Type}(l:List α)(b a:Int):List α:=(l.take a.toNat).drop b.toNat
def l7(a b:Int):Int:=Max.max a b
def dU(a b:Int):Int:=Min.min a b
def h4(s:ar)(m:Int):Int:=((s.getD m.toNat 0).toNat:Int)
def mT(m:Int):ar:=(Utf8.encode m).data.toList
def b7(k:IntKind)(m:Int):Int:=k.wrap m
def uF(a b:ar):ar:=a++b
def Kt:Nat->Cell U.D->Cell U.D->Option Bool
 |0,⟨.bool,a⟩,⟨.bool,b⟩=>some (gr a b)
 |1,⟨.int k,a⟩,⟨.int c,b⟩=>if k=c then some (eh a b)else none
 |2,⟨.str,a⟩,⟨.str,b⟩=>some (kv a b)
 |_,_,_=>none
def Au:aY->List (bd U)->List (bd U)->Option Bool
 |[],[],[]=>some true
 |k::ks,.t x::xs,.t y::a=>match Kt k x y,Au ks xs a with
  |some b,some r=>some (b&&r)
  |_,_=>none
 |_,_,_=>none
def pn(agg:Bool)(n:Nat)(cs:List (bd U))(o:Nat):Option (bA U):=
 match agg with
 |true=>match Nat.ble (o+n) cs.length with
  |true=>some (.agg ((cs.drop o).take n))
  |false=>none
 |false=>match cs[o]? with
  |some c=>some (.c c)
  |none=>none
def oa(gl:ek)(gd:Option (Nat×Bool))(env:bI U):Option aO->Option (Option Int)
 |none=>some none
 |some x=>match c3 gl gd env x with
  |some (.c (.t ⟨.int _,n⟩))=>some (some n)
  |_=>none
def Ar:List (bA U)->Option aY
 |[]=>some []
 |.c (.ptr b 0)::r=>match Ar r with
  |some l=>some (b::l)
  |none=>none
 |_=>none
abbrev aek(U:cF):=Option (Bool×bA U×a7 U)
def rU(U:cF)(t:aD)(l:List (t.den U.D))(i o:Nat)(cs:List (bd U)):Option (List (t.den U.D)):=
 match oy U t (ox ((t.row U (t.at U l i)).map .t) o cs)with
 |some x=>some (l.set i x)
 |none=>none
def ue(t:aD):List (bd U)->Option (List (t.den U.D))
 |[]=>some []
 |.t c::r=>match c.as t,ue t r with
  |some x,some l=>some (x::l)
  |_,_=>none
 |_::_=>none
def E3:List (bd U)->Option ((t:aD)×List (t.den U.D))
 |.t c::r=>match c.ty.u7,ue c.ty (.t c::r)with
  |false,some l=>some ⟨c.ty,l⟩
  |_,_=>none
 |_=>none
def strOf(l:au):ar:=l.map λm=>UInt8.ofNat m.toNat
def JX(l:au):Bool:=l.all λm=>decide (0<=m)&&decide (m<256)
def wX(a len n:Nat):Bool:=decide (a+len<=n)
def QY:List (bd U)->Option (bd U)
 |[.arr b]=>some (.arr b)
 |_=>none
def wx(bytes:Nat)(m:Int):Bool:=decide (0<=m/\m.toNat*bytes<=gJ/\m.toNat<=c1)
theorem qY{bytes:Nat}{m:Int}:wx bytes m=true↔0<=m/\m.toNat*bytes<=gJ/\m.toNat<=c1:=by simp[wx]
def cj(gl:ek)(gd:Option (Nat×Bool))(env:bI U)(J:a7 U)(n:Nat)(o:cH):aek U:=
 match o with
 |.mov x=>match c3 gl gd env x with
  |some v=>some (true,v,J)
  |none=>none
 |.pick c x y=>match c3 gl gd env c,Fk gl gd env c true x,Fk gl gd env c false y with
  |some (.c (.t ⟨.bool,b⟩)),some (.c (.t ⟨.bool,p⟩)),some (.c (.t ⟨.bool,q⟩))=>some (true,.c (.t ⟨.bool,bif b then p else q⟩),J)
  |_,_,_=>none
 |.alloc cs=>match mg cs with
  |some xs=>some (true,.c (.ptr n 0),cn J n (.box xs))
  |none=>none
 |.allocA cs=>match mg cs with
  |some xs=>match E3 xs with
   |some ⟨t,l⟩=>some (true,.c (.ptr n 0),cn J n (.arr t l))
   |none=>none
  |none=>none
 |.idxP k x i=>match c3 gl gd env x,c3 gl gd env i with
  |some (.c (.ptr b 0)),some (.c (.t ⟨.int _,m⟩))=>match aS J b with
   |some (.arr t _)=>match Nat.beq (t.sz U) 1 with
    |true=>some (aQ m k,.c (.cA b t (Int.toNat m) 0),J)
    |false=>none
   |_=>none
  |_,_=>none
 |.idxV k x i=>match c3 gl gd env x,c3 gl gd env i with
  |some (.agg cs),some (.c (.t ⟨.int _,m⟩))=>match Nat.beq cs.length k,E3 cs with
   |true,some ⟨t,l⟩=>some (aQ m k,.c (.t ⟨t,t.at U l (Int.toNat m)⟩),J)
   |_,_=>none
  |_,_=>none
 |.mslice sz bytes z x=>match c3 gl gd env x,mg z with
  |some (.c (.t ⟨.int _,m⟩)),some g=>match hq g with
   |none=>none
   |some _=>match g with
    |[.t c]=>match c.ty.u7,Nat.beq sz 1 with
     |false,true=>some (wx bytes m,.c (.arr n),cn J n (.arr c.ty (List.replicate (Int.toNat m) c.val)))
     |_,_=>none
    |[.bD]=>match Nat.beq sz 1 with
     |true=>some (wx bytes m && !decide (Int.toNat m=0),.c (.arr n),cn J n (.box (List.replicate (Int.toNat m) .bD)))
     |false=>none
    |g=>match Nat.beq g.length sz with
     |true=>some (wx bytes m,.c (.arr n),cn J n (.rows sz (List.replicate (Int.toNat m) g)))
     |false=>none
  |_,_=>none
 |.slcP k x d A=>match c3 gl gd env x,oa gl gd env d,oa gl gd env A with
  |some (.c (.ptr b 0)),some l,some h=>
   some (eH (l.getD 0) (h.getD (k:Int)) k,.c (.sub b (Int.toNat (l.getD 0)) (Int.toNat (h.getD (k:Int))-Int.toNat (l.getD 0))),J)
  |_,_,_=>none
 |.b2s x=>match c3 gl gd env x with
  |some (.c (.t ⟨.slice (.int .u8),l⟩))=>some (true,.c (.t ⟨.str,strOf l⟩),J)
  |some (.c .bD)=>some (true,.c (.t ⟨.str,[]⟩),J)
  |some (.c (.arr b))=>match aS J b with
   |some (.arr (.int .u8) l)=>some (true,.c (.t ⟨.str,strOf l⟩),J)
   |_=>none
  |some (.c (.sub b d len))=>match aS J b with
   |some (.arr (.int .u8) l)=>some (wX d len (List.length l),.c (.t ⟨.str,strOf ((l.drop d).take len)⟩),J)
   |_=>none
  |_=>none
 |.allocS e e8=>some (true,.c (.ptr n 0),cn (cn J (n+1) (.buf e8 [])) n (.b3 e (.cr (n+1))))
 |.bsliceT e sz len z parts=>match U.Rk e with
  |none=>none
  |some t=>match mg z with
   |some g=>match hq g with
    |none=>none
    |some _=>match Nat.beq g.length sz with
     |false=>none
     |true=>match vw gl gd env sz (List.replicate len g) parts with
      |some rows=>match mf U t rows with
       |some l=>some (true,.c (.t ⟨.slice t,l⟩),J)
       |none=>none
      |none=>none
   |none=>none
 |.mkset=>some (true,.c (.mp n),cn J n (.set []))
 |.lkset x k=>match c3 gl gd env x,c3 gl gd env k with
  |some (.c (.mp b)),some (.c (.t ⟨.str,s⟩))=>match aS J b with
   |some (.set ks)=>some (true,.c (.t ⟨.bool,gu ks s⟩),J)
   |_=>none
  |_,_=>none
 |.upset x k=>match c3 gl gd env x,c3 gl gd env k with
  |some (.c (.mp b)),some (.c (.t ⟨.str,s⟩))=>match aS J b with
   |some (.set ks)=>some (true,.aX [],cn J b (.set (iH ks s)))
   |_=>none
  |_,_=>none
 |.appendB e bytes x y=>match c3 gl gd env x,c3 gl gd env y with
  |some (.c (.cr b)),some (.c (.t ⟨.str,s⟩))=>match aS J b with
   |some (.buf u l)=>match Nat.beq u e with
    |true=>some (room bytes (List.length l+List.length s),.c (.cr n),cn (dl J b) n (.buf e (uF l s)))
    |false=>none
   |_=>none
  |_,_=>none
 |.sdata x=>match c3 gl gd env x with
  |some (.c (.cr b))=>some (true,.c (.ei b),J)
  |_=>none
 |.ustr e x k=>match c3 gl gd env x,c3 gl gd env k with
  |some (.c (.ei b)),some (.c (.t ⟨.int .i64,m⟩))=>match aS J b with
   |some (.buf u l)=>match Nat.beq u e with
    |true=>some (eh m (List.length l:Int),.c (.t ⟨.str,l⟩),dl J b)
    |false=>none
   |_=>none
  |_,_=>none
 |.box x=>match c3 gl gd env x with
  |some v=>match pk v with
   |some cs=>some (true,.c (.ptr n 0),cn J n (.box cs))
   |none=>none
  |none=>none
 |.build z parts=>match mg z with
  |some g=>match ze gl gd env g parts with
   |some cs=>some (true,.agg cs,J)
   |none=>none
  |none=>none
 |.bslice sz len z parts=>match mg z with
  |some g=>match hq g with
   |none=>none
   |some _=>match Nat.beq g.length sz with
    |false=>none
    |true=>match vw gl gd env sz (List.replicate len g) parts with
     |some rows=>some (true,.c (.arr n),cn J n (.rows sz rows))
     |none=>none
  |none=>none
 |.load agg k x=>match c3 gl gd env x with
  |some (.c (.ptr b o))=>match aS J b with
   |some (.box cs)=>match pn agg k cs o with
    |some v=>some (true,v,J)
    |none=>none
   |some (.b3 _ c)=>match agg,o with
    |false,1=>some (true,.c c,J)
    |_,_=>none
   |_=>none
  |some (.c (.cA b t i o))=>match aS J b with
   |some (.arr j l)=>match Cell.as (.slice t) (⟨.slice j,l⟩:Cell U.D)with
    |some l=>match pn agg k ((t.row U (t.at U l i)).map .t) o with
     |some v=>some (decide (i<l.length),v,J)
     |none=>none
    |none=>none
   |some (.box cs)=>match pn agg k cs (i*t.sz U+o)with
    |some v=>some (true,v,J)
    |none=>none
   |some (.cw j l B C c)=>match agg with
    |true=>none
    |false=>match Nat.beq o C with
     |true=>match Nat.beq (t.sz U) (j.sz U)with
      |true=>some (decide (i=B),.c c,J)
      |false=>none
     |false=>match Cell.as (.slice t) (⟨.slice j,l⟩:Cell U.D)with
      |some l=>match pn false k ((t.row U (t.at U l i)).map .t) o with
       |some v=>some (decide (i<l.length),v,J)
       |none=>none
      |none=>none
   |_=>none
  |some (.c (.dF t x o))=>match pn agg k ((t.row U x).map .t) o with
   |some v=>some (true,v,J)
   |none=>none
  |_=>none
 |.store k x v=>match c3 gl gd env x,c3 gl gd env v with
  |some (.c (.ptr b o)),some v=>match pk v with
   |some cs=>match Nat.beq cs.length k with
    |true=>match aS J b with
     |some (.box w)=>match Nat.ble (o+k) w.length with
      |true=>some (true,.aX [],cn J b (.box (ox w o cs)))
      |false=>none
     |some (.b3 e _)=>match o,cs with
      |1,[c]=>some (true,.aX [],cn J b (.b3 e c))
      |_,_=>none
     |_=>none
    |false=>none
   |none=>none
  |some (.c (.cA b t i o)),some v=>match pk v with
   |some cs=>match Nat.beq cs.length k&&Nat.ble (o+k) (t.sz U)with
    |true=>match aS J b with
     |some (.arr j l)=>match Cell.as (.slice t) (⟨.slice j,l⟩:Cell U.D)with
      |some l=>match QY cs with
       |some c=>some (decide (i<l.length),.aX [],cn J b (.cw t l i o c))
       |none=>match rU U t l i o cs with
        |some H=>some (decide (i<l.length),.aX [],cn J b (.arr t H))
        |none=>none
      |none=>none
     |some (.box w)=>match Nat.ble (i*t.sz U+o+k) w.length with
      |true=>some (true,.aX [],cn J b (.box (ox w (i*t.sz U+o) cs)))
      |false=>none
     |some (.cw j l B C L)=>match cs with
      |[c]=>match Nat.beq o C with
       |true=>match Nat.beq (t.sz U) (j.sz U)with
        |true=>some (decide (i=B),.aX [],cn J b (.cw j l B C c))
        |false=>none
       |false=>match Cell.as (.slice t) (⟨.slice j,l⟩:Cell U.D)with
        |some l=>match rU U t l i o [c]with
         |some H=>some (decide (i<l.length),.aX [],cn J b (.cw t H B C L))
         |none=>none
        |none=>none
      |_=>none
     |_=>none
    |false=>none
   |none=>none
  |_,_=>none
 |.nilCheck x=>match c3 gl gd env x with
  |some (.c (.ptr b o))=>some (true,.c (.ptr b o),J)
  |some (.c (.cA b t i o))=>some (true,.c (.cA b t i o),J)
  |some (.c (.dF t x o))=>some (true,.c (.dF t x o),J)
  |_=>none
 |.bin op x y=>match c3 gl gd env x,c3 gl gd env y with
  |some (.c (.t p)),some (.c (.t q))=>match Kp op p q with
   |some (c,r)=>some (c,.c (.t r),J)
   |none=>none
  |_,_=>none
 |.eqAgg neg ks x y=>match c3 gl gd env x,c3 gl gd env y with
  |some (.agg p),some (.agg q)=>match Au ks p q with
   |some r=>some (true,.c (.t ⟨.bool,match neg with|true=>!r|false=>r⟩),J)
   |none=>none
  |_,_=>none
 |.eqBool neg x y=>match c3 gl gd env x,c3 gl gd env y with
  |some (.c (.t ⟨.bool,p⟩)),some (.c (.t ⟨.bool,q⟩))=>some (true,.c (.t ⟨.bool,match neg with|true=>!(gr p q)|false=>gr p q⟩),J)
  |_,_=>none
 |.not x=>match c3 gl gd env x with
  |some (.c (.t ⟨.bool,b⟩))=>some (true,.c (.t ⟨.bool,!b⟩),J)
  |_=>none
 |.conv k x=>match c3 gl gd env x with
  |some (.c (.t ⟨.int _,m⟩))=>some (true,.c (.t ⟨.int k,b7 k m⟩),J)
  |_=>none
 |.i2s x=>match c3 gl gd env x with
  |some (.c (.t ⟨.int _,m⟩))=>some (true,.c (.t ⟨.str,mT m⟩),J)
  |_=>none
 |.s2s x=>match c3 gl gd env x with
  |some (.c (.t ⟨.str,s⟩))=>some (true,.c (.t ⟨.str,s⟩),J)
  |_=>none
 |.fldA off x=>match c3 gl gd env x with
  |some (.c (.ptr b o))=>some (true,.c (.ptr b (o+off)),J)
  |some (.c (.cA b t i o))=>some (true,.c (.cA b t i (o+off)),J)
  |some (.c (.dF t x o))=>some (true,.c (.dF t x (o+off)),J)
  |_=>none
 |.fld agg off k x=>match c3 gl gd env x with
  |some (.agg cs)=>match pn agg k cs off with
   |some v=>some (true,v,J)
   |none=>none
  |_=>none
 |.idxA sz x i=>match c3 gl gd env x,c3 gl gd env i with
  |some (.c (.t ⟨.slice t,l⟩)),some (.c (.t ⟨.int _,m⟩))=>match Nat.beq (t.sz U) sz with
   |true=>some (aQ m l.length,.c (.dF t (t.at U l (Int.toNat m)) 0),J)
   |false=>none
  |some (.c (.arr b)),some (.c (.t ⟨.int _,m⟩))=>match aS J b with
   |some (.arr t l)=>match Nat.beq (t.sz U) sz with
    |true=>some (aQ m l.length,.c (.cA b t (Int.toNat m) 0),J)
    |false=>none
   |some (.box cs)=>match Nat.beq 1 sz with
    |true=>some (aQ m cs.length,.c (.cA b .bool (Int.toNat m) 0),J)
    |false=>none
   |_=>none
  |_,_=>none
 |.idxS x i=>match c3 gl gd env x,c3 gl gd env i with
  |some (.c (.t ⟨.str,s⟩)),some (.c (.t ⟨.int _,m⟩))=>some (aQ m s.length,.c (.t ⟨.int .u8,h4 s m⟩),J)
  |_,_=>none
 |.slcS x d A=>match c3 gl gd env x,oa gl gd env d,oa gl gd env A with
  |some (.c (.t ⟨.str,s⟩)),some l,some h=>
   some (eH (l.getD 0) (h.getD (s.length:Int)) s.length,.c (.t ⟨.str,eZ s (l.getD 0) (h.getD (s.length:Int))⟩),J)
  |_,_,_=>none
 |.slc sz x d A=>match c3 gl gd env x,oa gl gd env d,oa gl gd env A with
  |some (.c (.t ⟨.slice t,s⟩)),some l,some h=>match Nat.beq (t.sz U) sz with
   |true=>some (eH (l.getD 0) (h.getD (s.length:Int)) s.length,.c (.t ⟨.slice t,eZ s (l.getD 0) (h.getD (s.length:Int))⟩),J)
   |false=>none
  |some (.c (.arr b)),some none,some h=>match aS J b with
   |some (.arr t s)=>match Nat.beq (t.sz U) sz with
    |true=>some (eH 0 (h.getD (s.length:Int)) s.length,.c (.pre b (Int.toNat (h.getD (s.length:Int)))),J)
    |false=>none
   |_=>none
  |some (.c (.arr b)),some (some d),some h=>match aS J b with
   |some (.arr t s)=>match Nat.beq (t.sz U) sz with
    |true=>some (eH d (h.getD (s.length:Int)) s.length,.c (.dI b (Int.toNat d) (Int.toNat (h.getD (s.length:Int))-Int.toNat d)),J)
    |false=>none
   |_=>none
  |_,_,_=>none
 |.slc0 x=>match c3 gl gd env x with
  |some (.c (.t ⟨.slice _,_⟩))=>some (true,.c .bD,J)
  |some (.c .bD)=>some (true,.c .bD,J)
  |some (.c (.arr _))=>some (true,.c .bD,J)
  |_=>none
 |.mkfn f caps=>match lF gl gd env caps with
  |some vs=>match Ar vs with
   |some l=>some (true,.c (.fn f l),J)
   |none=>none
  |none=>none
 |.ext x i=>match c3 gl gd env x with
  |some (.aX vs)=>match vs[i]? with
   |some v=>some (true,v,J)
   |none=>none
  |_=>none
 |.len str x=>match str,c3 gl gd env x with
  |true,some (.c (.t ⟨.str,s⟩))=>some (true,.c (.t ⟨.int .i64,(s.length:Int)⟩),J)
  |false,some (.c (.cr b))=>match aS J b with
   |some (.buf _ s)=>some (true,.c (.t ⟨.int .i64,(s.length:Int)⟩),J)
   |_=>none
  |false,some v=>match rS J v with
   |some e=>some (true,.c (.t ⟨.int .i64,(e.1.len:Int)⟩),J)
   |none=>match v with
    |.c (.arr b)=>match aS J b with
     |some (.box cs)=>some (true,.c (.t ⟨.int .i64,(cs.length:Int)⟩),J)
     |_=>none
    |_=>none
  |_,_=>none
 |.append te sz bytes x y=>match c3 gl gd env x,c3 gl gd env y with
  |some (.c .bD),some v=>match rS J v with
   |some (E,_)=>match E.blk sz with
    |some blk=>some (room bytes E.len,.c (.arr n),cn J n blk)
    |none=>none
   |none=>none
  |some (.c (.arr b)),some v=>match rS J (.c (.arr b)),rS J v with
   |some (p2,_),some (E,M)=>match (match M with|some F=>Nat.beq F b|none=>false)with
    |true=>none
    |false=>match R6 J b sz with
     |false=>none
     |true=>match p2.join E with
      |some K=>match K.blk sz with
       |some blk=>some (room bytes K.len,.c (.arr n),cn (dl J b) n blk)
       |none=>none
      |none=>none
   |_,_=>none
  |some (.c (.pre b h)),some (.c (.dI F d len))=>match Nat.beq b F with
   |true=>match aS J b with
    |some (.arr t l)=>match Nat.beq (t.sz U) sz with
     |true=>some (decide (h+len<=l.length)&&decide (d+len<=l.length),.c (.arr n),cn (dl J b) n (.arr t (l.take h++(l.drop d).take len)))
     |false=>none
    |_=>none
   |false=>none
  |some (.c (.cr b)),some (.c (.t ⟨.slice (.int .u8),I⟩))=>match aS J b with
   |some (.buf u l)=>match Nat.beq u te&&Nat.beq sz 1 with
    |true=>some (room bytes (List.length l+List.length (strOf I))&&JX I,.c (.cr n),cn (dl J b) n (.buf u (uF l (strOf I))))
    |false=>none
   |_=>none
  |_,_=>none
 |.max2 x y=>match c3 gl gd env x,c3 gl gd env y with
  |some (.c (.t ⟨.int k,a⟩)),some (.c (.t ⟨.int G,b⟩))=>if k=G then some (true,.c (.t ⟨.int k,l7 a b⟩),J)else none
  |_,_=>none
 |.min2 x y=>match c3 gl gd env x,c3 gl gd env y with
  |some (.c (.t ⟨.int k,a⟩)),some (.c (.t ⟨.int G,b⟩))=>if k=G then some (true,.c (.t ⟨.int k,dU a b⟩),J)else none
  |_,_=>none
 |.eqNil .. |.call .. |.h6 .. =>none
end
section
open Go
variable {U:cF}
inductive b5 (N:Nat)(J:a7 U):bd U->C->Prop
 |t (c:Cell U.D):b5 N J (.t c) (.t (c.enc U))
 |ptr (b o:Nat):b5 N J (.ptr b o) (.ptr b o)
 |cA (b:Nat) (t:aD) (i o:Nat):b5 N J (.cA b t i o) (.cA b (t.sz U) i o)
 |dF (t:aD) (x:t.den U.D) (o:Nat):b5 N J (.dF t x o) (.dF (t.enc U x) o)
 |arr (b sz n:Nat) (xW:b<N) (h:∀x,aS J b=some x->∀p,x.cV=some p->p=(sz,n)):b5 N J (.arr b) (.arr b sz 0 n)
 |sub (b oe len:Nat):b5 N J (.sub b oe len) (.fA b 1 oe len)
 |pre (b sz h:Nat) (xW:b<N) (afv:∀x,aS J b=some x->∀p,x.cV=some p->p.1=sz):b5 N J (.pre b h) (.arr b sz 0 h)
 |dI (b sz oe len:Nat) (xW:b<N) (afv:∀x,aS J b=some x->∀p,x.cV=some p->p.1=sz):b5 N J (.dI b oe len) (.fA b sz oe len)
 |mp (b:Nat):b5 N J (.mp b) (.mp b)
 |ei (b:Nat):b5 N J (.ei b) (.ei b)
 |cr (b n:Nat) (xW:b<N) (h:∀x,aS J b=some x->∀p,x.cV=some p->p=(1,n)):b5 N J (.cr b) (.cr b n)
 |bD:b5 N J .bD .bD
 |eQ:b5 N J .eQ .eQ
 |eP:b5 N J .eP .eP
 |fn (f:Nat) (caps:aY):b5 N J (.fn f caps) (.fn f caps)
 |dead (d:C):b5 N J .dead d
inductive bL (N:Nat)(J:a7 U):bA U->V->Prop
 |c {x d}:b5 N J x d->bL N J (.c x) (.c d)
 |agg {xs oQ}:aV (b5 N J) xs oQ->bL N J (.agg xs) (.agg oQ)
 |aX (xs:List (bA U)) (oQ:List V) (ae:xs.length=oQ.length) (h:∀(i:Nat) x d,xs[i]?=some x->oQ[i]?=some d->bL N J x d):bL N J (.aX xs) (.aX oQ)
inductive hM (N:Nat)(J:a7 U):cx U->bJ->Prop
 |box {cs oQ}:aV (b5 N J) cs oQ->hM N J (.box cs) (.box oQ)
 |arr (t:aD) (l:List (t.den U.D)):hM N J (.arr t l) (.arr (t.sz U) (l.map (t.enc U)))
 |set (ks:List ar):hM N J (.set ks) (.set ks)
 |buf (E:Nat) (s:ar):hM N J (.buf E s) (.buf E s)
 |b3 {E c d}:b5 N J c d->hM N J (.b3 E c) (.b3 E d)
 |cw (t:aD) (l:List (t.den U.D)) (i o:Nat) {c d}:b5 N J c d->hM N J (.cw t l i o c) (.cw (t.sz U) (l.map (t.enc U)) i o d)
 |rows {sz r es}:aV (λr e=>hq r=some e) r es->(∀x,x∈r->x.length=sz)->hM N J (.rows sz r) (.arr sz es)
def ck(N:Nat)(J:a7 U)(J1:a6):Prop:=∀b x,aS J b=some x->b<N/\∃y,aR J1 b=some y/\hM N J x y
def cP(N:Nat)(J:a7 U)(G:Nat->Bool)(env:bI U)(env1:Env):Prop:=∀k v,aS env k=some v->∃v1,look env1 k=some (G k,v1)/\bL N J v v1
structure gC (gl:ek)(env:bI U)(G:Nat->Bool):Prop where
 free:∀k,aS gl k=none->G k=true
 held:∀k t b,aS gl k=some (t,b)->∃y,eY env t b=some y/\G k=(G t&&y)
def c0(N:Nat)(J:a7 U)(N':Nat)(J':a7 U):Prop:=N<=N'/\∀b a,b<N->aS J' b=some a->∃x,aS J b=some x/\∀p,a.cV=some p->x.cV=some p
variable{J:a7 U}{x:bd U}{v1:V}{t:aD}{o:Nat}{v:bA U}{cs:List (bd U)}
theorem c0.refl{N:Nat}:c0 N J N J:=⟨eB _,λ_ x _ h=>⟨x,h,λ_ h=>h⟩⟩
theorem c0.more{N N':Nat}(h:N<=N'):c0 N J N' J:=⟨h,λ_ x _ h=>⟨x,h,λ_ h=>h⟩⟩
theorem c0.trans{a c e:Nat}{s1 j o:a7 U}(h:c0 a s1 c j)(k:c0 c j e o):c0 a s1 e o:=
 ⟨fQ h.1 k.1,λb x f I=>let⟨y,h1,q⟩:=k.2 b x (jf f h.1) I;let⟨z,t,v⟩:=h.2 b y f h1;⟨z,t,λp ai=>v p (q p ai)⟩⟩
section
variable {N N':Nat}{J J':a7 U}{J1:a6}{env:bI U}{env1:Env}{G:Nat->Bool}{gl:ek}{gd:Option (Nat×Bool)}
theorem b5.mono(k:c0 N J N' J'){d:C}(h:b5 N J x d):b5 N' J' x d:=by
 cases h with
 |t c=>exact .t c
 |ptr b o=>exact .ptr b o
 |cA b t i o=>exact .cA b t i o
 |dF t x o=>exact .dF t x o
 |arr b sz n a h=>
  refine .arr b sz n (jf a k.1) λx I p ai=>?_;obtain⟨y,h1,e⟩:=k.2 b x a I;grind
 |sub b j len=>exact .sub b j _
 |pre b sz n a h=>
  refine .pre b sz n (jf a k.1) λx I p ai=>?_;obtain⟨y,h1,e⟩:=k.2 b x a I;grind
 |dI b sz j len a h=>
  refine .dI b sz j _ (jf a k.1) λx I p ai=>?_;obtain⟨y,h1,e⟩:=k.2 b x a I;grind
 |mp b=>exact .mp b
 |ei b=>exact .ei b
 |cr b n a h=>
  refine .cr b n (jf a k.1) λx I p ai=>?_;obtain⟨y,h1,e⟩:=k.2 b x a I;grind
 |bD=>exact .bD
 |eQ=>exact .eQ
 |eP=>exact .eP
 |fn f caps=>exact .fn f _
 |dead d=>exact .dead d
theorem bL.mono(k:c0 N J N' J'){x:bA U}{d:V}(h:bL N J x d):bL N' J' x d:=by
 induction h with
 |c h=>exact .c (h.mono k)
 |agg h=>exact .agg (h.imp λ_ _ _=>b5.mono k)
 |aX xs a ae h ih=>exact .aX xs a ae ih
theorem hM.mono(k:c0 N J N' J'){x:cx U}{d:bJ}(h:hM N J x d):hM N' J' x d:=by
 cases h with
 |box h=>exact .box (h.imp λ_ _ _=>b5.mono k)
 |arr t l=>exact .arr t l
 |set ks=>exact .set ks
 |buf E s=>exact .buf E s
 |b3 h=>exact .b3 (h.mono k)
 |cw t l i o h=>exact .cw t l i o (h.mono k)
 |rows h a=>exact .rows h a
theorem cP.mono(k:c0 N J N' J')(h:cP N J G env env1):cP N' J' G env env1:=λi v c=>let⟨v1,h1,a⟩:=h i v c;⟨v1,h1,a.mono k⟩
theorem ck.put(h:ck N J J1){b:Nat}{x:cx U}{y:bJ}(p:b<N')(k:c0 N J N' (cn J b x))(q:hM N' (cn J b x) x y):ck N' (cn J b x) (cW J1 b y):=by
 intro c z a;rw[gw]at a;rw[cS];by_cases j:b=c
 . grind
 . rw[ao j]at a⊢;obtain⟨h1,o,e,f⟩:=h c z a;exact⟨jf h1 k.1,o,e,f.mono k⟩
theorem ju{x:cx U}(h:N<=N':=by simp):c0 N J N' (cn J N x):=by
 refine⟨h,λb c a I=>?_⟩;grind[gw]
theorem mR{b:Nat}{x a:cx U}(h:N<=N')(h0:aS J b=some a)(e:∀p,x.cV=some p->a.cV=some p):c0 N J N' (cn J b x):=by
 refine⟨h,λc f d I=>?_⟩;grind[gw]
theorem qS{b:Nat}:c0 N J N (dl J b):=by
 refine⟨eB _,λc d a I=>?_⟩;grind[mY]
theorem Ti{d:C}(h:Aw d=some x):b5 N J x d:=by
 unfold Aw at h;split at h<;>cases h
 . exact b5.t _
 . exact b5.t _
 . exact b5.t (U:=U) _
 . exact .bD
 . exact .eQ
 . exact .eP
 . exact .dead _
 . exact .fn _ _
theorem nU:∀{a:List C} {xs:List (bd U)},mg a=some xs->aV (b5 N J) xs a
 |[],xs,h=>by simp[mg]at h;subst h;exact .nil
 |d::a,xs,h=>by
  simp[mg]at h;split at h
  . rename_i x c h1 b;cases h;exact .cons (Ti h1) (nU b)
  grind
theorem Tj{d:V}{x:bA U}(h:xi d=some x):bL N J x d:=by
 cases d with
 |c d=>
  simp[xi]at h;split at h
  . rename_i y ag;cases h;exact .c (Ti ag)
  grind
 |agg a=>
  simp[xi]at h;split at h
  . rename_i y ag;cases h;exact .agg (nU ag)
  grind
 |aX _=>grind[xi]
def cz(env:bI U)(G:Nat->Bool):Option (Nat×Bool)->Bool
 |none=>true
 |some (t,b)=>G t&&(eY env t b).getD false
theorem gC.aS(al:gC gl env G)(k:Nat):cz env G (aS gl k)=G k:=by
 cases h:Shv.aS gl k with
 |none=>exact(al.free k h).symm
 |some g=>
  obtain⟨t,b⟩:=g;obtain⟨y,h1,a⟩:=al.held k t b h;grind[cz]
theorem DG(al:gC gl env G):∀{a:Nat} {gd:Option (Nat×Bool)} {g:Bool},lu gl env a gd=some g->g=cz env G gd
 |_,none,g,h=>by unfold lu at h;simp at h;subst h;rfl
 |0,some _,g,h=>by grind[lu]
 |a+1,some (t,b),g,h=>by
  simp[lu]at h;split at h
  . rename_i x y h1 c;cases h;rw[DG al h1,al.aS t];grind[cz]
  grind
theorem aaW:∀{a:Nat} {t:Nat} {b:Bool} {g:Bool},lu gl env a (some (t,b))=some g->∃y,eY env t b=some y
 |0,t,b,g,h=>by grind[lu]
 |a+1,t,b,g,h=>by
  grind[lu]
theorem bL.dJ(h:bL N J (.c x) v1):∃d,v1= .c d/\b5 N J x d:=by cases h<;>grind
theorem bL.lJ{xs:List (bd U)}(h:bL N J (.agg xs) v1):∃a,v1= .agg a/\aV (b5 N J) xs a:=by cases h<;>grind
theorem bL.wZ{c:Cell U.D}(h:bL N J (.c (.t c)) v1):v1= .c (.t (c.enc U)):=by obtain⟨d,rfl,ab⟩:=h.dJ;cases ab;rfl
theorem bL.iZ{b:Bool}(h:bL N J (.c (.t ⟨.bool,b⟩)) v1):v1= .c (.t (.bool b)):=h.wZ
theorem bL.eT{k:IntKind}{m:Int}(h:bL N J (.c (.t ⟨.int k,m⟩)) v1):v1= .c (.t (.int k m)):=h.wZ
theorem bL.j6{s:ar}(h:bL N J (.c (.t ⟨.str,s⟩)) v1):v1= .c (.t (.str s)):=h.wZ
theorem bL.jj{l:List (t.den U.D)}(h:bL N J (.c (.t ⟨.slice t,l⟩)) v1):v1= .c (.t (.slice (l.map (t.enc U)))):=h.wZ
theorem bL.gT{b:Nat}(h:bL N J (.c (.ptr b o)) v1):v1= .c (.ptr b o):=by obtain⟨d,rfl,ab⟩:=h.dJ;cases ab;rfl
theorem bL.hE{b i:Nat}(h:bL N J (.c (.cA b t i o)) v1):v1= .c (.cA b (t.sz U) i o):=by obtain⟨d,rfl,ab⟩:=h.dJ;cases ab;rfl
theorem bL.Gn{x:t.den U.D}(h:bL N J (.c (.dF t x o)) v1):v1= .c (.dF (t.enc U x) o):=by obtain⟨d,rfl,ab⟩:=h.dJ;cases ab;rfl
theorem bL.uE(h:bL N J (.c .bD) v1):v1= .c .bD:=by obtain⟨d,rfl,ab⟩:=h.dJ;cases ab;rfl
theorem bL.gn{b:Nat}(h:bL N J (.c (.arr b)) v1):∃sz n,v1= .c (.arr b sz 0 n)/\b<N/\∀x,Shv.aS J b=some x->∀p,x.cV=some p->p=(sz,n):=by
 obtain⟨d,rfl,ab⟩:=h.dJ;cases ab<;>grind
theorem bL.Cs{b:Nat}(h:bL N J (.c (.mp b)) v1):v1= .c (.mp b):=by obtain⟨d,rfl,ab⟩:=h.dJ;cases ab;rfl
theorem bL.Re{b:Nat}(h:bL N J (.c (.ei b)) v1):v1= .c (.ei b):=by obtain⟨d,rfl,ab⟩:=h.dJ;cases ab;rfl
theorem bL.xz{b:Nat}(h:bL N J (.c (.cr b)) v1):∃n,v1= .c (.cr b n)/\b<N/\∀x,Shv.aS J b=some x->∀p,x.cV=some p->p=(1,n):=by
 obtain⟨d,rfl,ab⟩:=h.dJ;cases ab<;>grind
theorem bL.Gj{f:Nat}{caps:aY}(h:bL N J (.c (.fn f caps)) v1):v1= .c (.fn f caps):=by
 obtain⟨d,rfl,ab⟩:=h.dJ;cases ab;rfl
theorem aaX{t:Nat}{b y:Bool}(he:cP N J G env env1)(h:eY env t b=some y):∃x,look env1 t=some (G t,.c (.t (.bool x)))/\y=(x==b):=by
 unfold eY at h;split at h
 . rename_i x I;cases h;obtain⟨v1,h1,a⟩:=he t _ I;have:=a.iZ;grind
 grind
theorem Dl(he:cP N J G env env1)(h:gd=none\/∃t b y,gd=some (t,b)/\eY env t b=some y):fM env1 gd=some (cz env G gd):=by
 grind[aaX,fM,cz]
theorem DH(al:gC gl env G):∀{c:Nat} {gd:Option (Nat×Bool)} {k:Nat},cz env G gd=true->wW gl c gd k=true->G k=true
 |0,gd,k,_,h=>by grind[wW]
 |c+1,gd,k,i,h=>by
  simp[wW]at h;split at h
  . rename_i a;exact al.free k a
  . rename_i d a;split at h
    . grind
    . rename_i g;obtain⟨t,b⟩:=g;obtain⟨j,f⟩:=d;simp only[l',cK,iB]at h;rcases h with⟨h1,e⟩|h
      . have:=cL h1;subst this;subst e;obtain⟨y,k1,k2⟩:=al.held k t b a;grind[cz]
      . refine DH al ?_ h;rw[al.aS t];grind[cz]
theorem b4(he:cP N J G env env1)(al:gC gl env G){x:aO}(h:c3 gl gd env x=some v):
 ∃p v1,x.get env1=some (p,v1)/\bL N J v v1/\(cz env G gd=true->p):=by
 cases x with
 |const d=>exact⟨True,d,rfl,Tj h,λ_=>trivial⟩
 |tmp k=>
  simp[c3]at h;split at h
  . rename_i hs;obtain⟨v1,h1,a⟩:=he k v h;exact⟨_,v1,by grind[aO.get],a,λb=>DH al b hs⟩
  grind
theorem K3(he:cP N J G env env1)(al:gC gl env G){c x:aO}{b y:Bool}{i:bA U}(g:c3 gl gd env c=some i)(n:i= .c (.t ⟨.bool,y⟩))(h:Fk gl gd env c b x=some v):
 ∃p v1,x.get env1=some (p,v1)/\bL N J v v1/\(cz env G gd=true->y=b->p):=by
 cases x with
 |const d=>exact⟨True,d,rfl,Tj h,λ_ _=>trivial⟩
 |tmp k=>
  simp[Fk]at h;split at h
  . rename_i hs;obtain⟨v1,h1,a⟩:=he k v h;exact⟨_,v1,by grind[aO.get],a,λe _=>DH al e hs⟩
  . split at h
    . rename_i o t j l;split at h
      . rename_i f;simp only[cK,iB]at f;obtain⟨h1,rfl⟩:=f;have:=cL h1;obtain⟨v1,h1,a⟩:=he k v h;refine⟨G k=true,v1,by grind[aO.get],a,λe ag=>?_⟩;simp[c3]at g;split at g
        . rename_i hs;have m:=DH al e hs;obtain⟨q,k1,k2⟩:=al.held k t j l;grind[eY]
        grind
      grind
    grind
theorem sP(he:cP N J G env env1)(al:gC gl env G):∀{xs:List aO} {vs:List (bA U)},lF gl gd env xs=some vs->
 ∃p a,hF env1 xs=some (p,a)/\aV (bL N J) vs a/\(cz env G gd=true->p)
 |[],vs,h=>by simp[lF]at h;subst h;exact⟨True,[],rfl,.nil,λ_=>trivial⟩
 |x::xs,vs,h=>by
  simp[lF]at h;split at h
  . rename_i v e h1 d;cases h;obtain⟨p,v1,a1,a2,a3⟩:=b4 he al h1;obtain⟨q,a,b1,b2,c⟩:=sP he al d;exact⟨p/\q,v1::a,by grind[hF],.cons a2 b2,λb=>⟨a3 b,c b⟩⟩
  grind
theorem nQ(h:bL N J v v1)(a:pk v=some cs):∃b,pI v1=some b/\aV (b5 N J) cs b:=by
 cases h with
 |c h=>simp[pk]at a;subst a;exact⟨_,rfl,.cons h .nil⟩
 |agg h=>simp[pk]at a;subst a;exact⟨_,rfl,h⟩
 |aX=>grind[pk]
theorem Dp{a:List (bd U)}{b c:List C}(h:aV (b5 N J) cs b)(d:aV (b5 N J) a c):aV (b5 N J) (ox cs o a) (sn b o c):=by
 unfold ox sn;rw[d.length];exact((h.take o).append d).append (h.drop _)
theorem gK{a b:Nat}(h:Nat.ble a b=true):a<=b:=rr h
theorem Sl(he:cP N J G env env1)(al:gC gl env G):∀{ps:List (Nat×Nat×aO)} {cs c:List (bd U)} {b:List C},ze gl gd env cs ps=some c->aV (b5 N J) cs b->
 ∃p d,ln env1 b ps=some (p,d)/\aV (b5 N J) c d/\(cz env G gd=true->p)
 |[],cs,c,b,h,a=>by simp[ze]at h;subst h;exact⟨True,b,rfl,a,λ_=>trivial⟩
 |(o,n,x)::r,cs,c,b,h,a=>by
  simp[ze]at h;split at h
  . grind
  . rename_i v k;split at h
    . grind
    . rename_i es j;split at h
      . rename_i e;simp only[cK]at e;have l:=cL e.1;have m:=gK e.2;obtain⟨p,v1,a1,a2,a3⟩:=b4 he al k;obtain⟨fs,b1,b2⟩:=nQ a2 j;obtain⟨q,d,f,g,i⟩:=Sl he al h (Dp a b2);refine⟨p/\q,d,?_,g,λa=>⟨a3 a,i a⟩⟩;simp only[ln,a1,ay,b1];rw[ad ⟨by rw[<-b2.length];grind,by rw[<-a.length];grind⟩,f];rfl
      grind
theorem aaA{d:C}{t:T}(h:b5 N J x d)(ht:x.toT=some t):Shv.toT d=some t:=by
 cases h<;>simp[bd.toT]at ht
 . split at ht
   . grind
   . cases ht;rfl
 . subst ht;rfl
theorem vz:∀{cs:List (bd U)} {a:List C} {ts:List T},aV (b5 N J) cs a->hq cs=some ts->toTs a=some ts
 |[],[],ts,_,h=>by simp[hq]at h;subst h;rfl
 |c::cs,d::a,ts,.cons h1 b,h=>by
  simp[hq]at h;split at h
  . rename_i t f ht e;cases h;simp[toTs,aaA h1 ht,vz b e]
  grind
theorem It:∀{cs:List (bd U)} {ts:List T},hq cs=some ts->ts.length=cs.length
 |[],ts,h=>by grind[hq]
 |c::cs,ts,h=>by
  simp[hq]at h;split at h
  . rename_i t b ht a;cases h;simp[It a]
  grind
theorem aV.set{α c:Type}{R:α->c->Prop}{l:List α}{m:List c}(h:aV R l m){i:Nat}{a:α}{b:c}(f:R a b):aV R (l.set i a) (m.set i b):=by
 induction h generalizing i with
 |nil=>exact .nil
 |cons h1 e ih=>cases i with
  |zero=>exact .cons f e
  |succ i=>exact .cons h1 ih
theorem HP(he:cP N J G env env1)(al:gC gl env G){sz:Nat}:∀{ps:List (Nat×aO)} {a b:List (List (bd U))} {es:List (List T)},vw gl gd env sz a ps=some b->
 aV (λr e=>hq r=some e) a es->(∀r,r∈a->r.length=sz)->∃p c,jw env1 sz es ps=some (p,c)/\aV (λr e=>hq r=some e) b c/\(∀r,r∈b->r.length=sz)/\(cz env G gd=true->p)
 |[],a,b,es,h,d,ae=>by simp[vw]at h;subst h;exact⟨True,es,rfl,d,ae,λ_=>trivial⟩
 |(i,x)::ps,a,b,es,h,d,ae=>by
  simp[vw]at h;split at h
  . grind
  . rename_i v s;split at h
    . grind
    . rename_i cs o;split at h
      . grind
      . rename_i ts j;split at h
        . rename_i f;simp only[cK]at f;have u:=cL f.1;have w:=gK f.2;obtain⟨p,v1,a1,a2,a3⟩:=b4 he al s;obtain⟨t,b1,b2⟩:=nQ a2 o;obtain⟨q,c,k,l,n,m⟩:=HP he al h (aV.set d j) (by grind);refine⟨p/\q,c,?_,l,n,λg=>⟨a3 g,m g⟩⟩;simp only[jw,a1,ay,b1,vz b2 j];rw[ad ⟨by grind[It],by rw[<-d.length];omega⟩,k];rfl
        grind
end
end
section
open Go
variable {U:cF}
structure dM (N:Nat)(J:a7 U)(J1:a6)(o:cH)(env1:Env)(g c:Bool)(v:bA U)(J':a7 U):Prop where
 val:∃v1,bL (N+16) J' v v1/\(g=true->c=true->∃p bh,aL o env1 J1 N=some (p,v1,bh)/\p/\ck (N+16) J' bh)
 ahQ:c0 N J (N+16) J'
 age:o.neutral=true->J'=J
variable{o:cH}{v1:V}{agg neg:Bool}{cs:List (bd U)}{α:Type}{t:aD}{ts:List T}{J1:a6}{x y:aO}{off:Nat}{es:List (List T)}{e:fL U}{R:α->α->Prop}
section
variable {N N':Nat}{J J':a7 U}{J1:a6}{env:bI U}{env1:Env}{G:Nat->Bool}{gl:ek}{gd:Option (Nat×Bool)}{c:Bool}{v:bA U}
theorem ck.mono(h:ck N J J1)(cp:N<=N'):ck N' J J1:=λb x I=>
 let⟨h1,y,a,c⟩:=h b x I;⟨jf h1 cp,y,a,c.mono (c0.more cp)⟩
theorem dM.neutral{g:Bool}(aA:ck N J J1)(j:bL N J v v1)(e:g=true->c=true->∃p,aL o env1 J1 N=some (p,v1,J1)/\p):dM N J J1 o env1 g c v J:=
 ⟨⟨v1,j.mono (c0.more (by simp)),λal f=>let⟨p,h1,a⟩:=e al f;⟨p,J1,h1,a,aA.mono (by simp)⟩⟩,c0.more (by simp),λ_=>rfl⟩
theorem dM.store{g:Bool}(aN:o.neutral=false)(e:c0 N J (N+16) J')(f:bL (N+16) J' v v1)(a:g=true->c=true->∃p bh,aL o env1 J1 N=some (p,v1,bh)/\p/\ck (N+16) J' bh):dM N J J1 o env1 g c v J':=
 ⟨⟨v1,f,a⟩,e,λh=>by grind⟩
theorem sL{k o:Nat}{b:List C}(a:aV (b5 N J) cs b)(h:pn agg k cs o=some v):∃v1,jd agg k b o=some v1/\bL N J v v1:=by
 unfold pn at h;split at h
 . split at h
   . cases h;refine⟨_,by simp only[jd,cm];rw[ad (by rw[<-a.length];simp_all)],.agg ((a.drop o).take k)⟩
   grind
 . split at h
   . rename_i x I;cases h;obtain⟨d,h1,e⟩:=a.get I;exact⟨_,by grind[jd],.c e⟩
   grind
theorem aV.map_map{c e j:Type}{R:e->j->Prop}{f:α->e}{g:c->j}:∀{l:List α} {m:List c},aV (λa b=>R (f a) (g b)) l m->aV R (l.map f) (m.map g)
 |[],[],_=>.nil
 |_::_,_::_,.cons h1 o=>.cons h1 (aV.map_map o)
theorem aV.self(h:∀a,R a a):∀(l:List α),aV R l l
 |[]=>.nil
 |a::l=>.cons (h a) (aV.self h l)
theorem yL{x:t.den U.D}:aV (b5 N J) ((t.row U x).map .t) ((t.enc U x).map .t):=by
 rw[aD.u0,List.map_map];exact aV.map_map (aV.self (λc=>b5.t c) _)
theorem Jx{k o:Nat}{v:V}(ae:jd agg k (ts.map .t) o=some v):loadT agg k ts o=some v:=by
 unfold jd at ae;unfold loadT;cases agg<;>simp_all
theorem ZI{op:BinOp}{p q:Cell U.D}{r:Cell U.D}(h:Kp op p q=some (c,r)):∃d,p9 op (p.enc U) (q.enc U)=some (d,r.enc U)/\(c=true->d):=by
 unfold Kp at h;split at h
 . rename_i k a e b;show ∃d,p9 op (.int k a) (.int e b)=some (d,r.enc U)/\(c=true->d);cases op<;>simp only[RX,reduceCtorEq,eg]at h
   all_goals first
    |(obtain⟨rfl,rfl,rfl⟩:=h;exact⟨_,by simp only[p9];rfl,λh=>by simpa using h⟩)
    |(obtain⟨rfl,rfl⟩:=h)
    |(obtain⟨rfl,rfl,rfl⟩:=h)
 . rename_i a b;cases op<;>simp only[RY,dG]at h
   all_goals first
    |(obtain⟨rfl,rfl⟩:=h;exact⟨_,by rfl,λh=>by simpa using h⟩)
    |(obtain⟨rfl,rfl⟩:=h)
 . cases h
theorem ZJ{k:Nat}{x y:Cell U.D}{b:Bool}(h:Kt k x y=some b):xR k (x.enc U) (y.enc U)=some b:=by
 unfold Kt at h;split at h
 . cases h;rfl
 . simp at h;obtain⟨rfl,rfl⟩:=h;show(if _ then _ else _)=_;rw[ad rfl];rfl
 . cases h;rfl
 grind
theorem Sd:∀{ks:aY} {xs c:List (bd U)} {a es:List C} {b:Bool},Au ks xs c=some b->aV (b5 N J) xs a->aV (b5 N J) c es->lr ks a es=some b
 |[],[],[],[],[],b,h,.nil,.nil=>by simp[Au]at h;subst h;rfl
 |k::ks,.t x::xs,.t y::c,d::a,e::es,b,h,.cons h1 f,.cons g i=>by
  simp[Au]at h;split at h
  . rename_i b1 r j l;cases h;cases h1;cases g;simp[lr,ZJ j,Sd l f i]
  grind
theorem Se{a b:ar}:(uF a b).length=a.length+b.length:=dD
theorem abL{a b:Int}:eh a b=true↔a=b:=by simp[eh]
theorem n2{m:Int}{n:Nat}:aQ m n=true↔0<=m/\m.toNat<n:=by simp[aQ]
theorem iN{b a:Int}{n:Nat}:eH b a n=true↔0<=b/\b<=a/\a<=n:=by simp[eH]
theorem acu{s:List (t.den U.D)}{l r:Option Int}{a pl b:Prop}{sz:Nat}:
 (some (a/\pl/\b/\0<=l.getD 0/\l.getD 0<=r.getD ((List.map (t.enc U) s).length:Int)/\r.getD ((List.map (t.enc U) s).length:Int)<=((List.map (t.enc U) s).length:Int)/\∀e,e∈List.map (t.enc U) s->e.length=sz,
  V.c (C.t (T.slice (((List.map (t.enc U) s).take (r.getD ((List.map (t.enc U) s).length:Int)).toNat).drop (l.getD 0).toNat))),J1):AA)=
 some (a/\pl/\b/\0<=l.getD 0/\l.getD 0<=r.getD (s.length:Int)/\r.getD (s.length:Int)<=(s.length:Int)/\∀e,e∈List.map (t.enc U) s->e.length=sz,
  V.c (C.t (Cell.enc U ⟨.slice t,eZ s (l.getD 0) (r.getD (s.length:Int))⟩)),J1):=by
 have:Cell.enc U ⟨.slice t,eZ s (l.getD 0) (r.getD s.length)⟩=T.slice (List.map (t.enc U) _):=rfl;grind[eZ,List.map_drop,List.map_take]
variable{a:Type}{f:α->a}
theorem acv{l:List α}{p:Prop}:(some (p,V.c (C.t (T.int .i64 ((l.map f).length:Int))),J1):AA)=some (p,V.c (C.t (.int .i64 (l.length:Int))),J1):=by simp
theorem vx{l:List α}{i:Nat}(h:i<l.length):i<(l.map f).length:=by grind
theorem aV.replicate{c:Type}{R:α->c->Prop}{a:α}{b:c}(h:R a b):∀n:Nat,aV R (List.replicate n a) (List.replicate n b)
 |0=>.nil
 |n+1=>.cons h (aV.replicate h n)
theorem H7:∀{xs:List (bd U)} {de:List aD} {es:List C} {row:List (Cell U.D)},hB de xs=some row->aV (b5 N J) xs es->toTs es=some (row.map (Cell.enc U))
 |[],de,es,row,h1,a=>by
  cases a;cases de<;>simp[hB]at h1;subst h1;rfl
 |y::e,[],es,row,h1,a=>by grind[hB]
 |y::e,ty::de,_::_,row,h1,.cons a d=>by
  cases a with
  |t c=>cases ty<;>simp only[hB]at h1<;>(split at h1<;>first|(cases h1;done)|(rename_i q b;cases h1;simp[toTs,toT,H7 b d]))
  |bD=>
   cases ty<;>simp[hB]at h1;split at h1
   . rename_i q b;cases h1;simp[toTs,H7 b d];rfl
   grind
  |_=>grind[hB]
theorem SL{sz:Nat}:∀{ps:List (Nat×aO)} {es c:List (List T)} {p:Prop},jw env1 sz es ps=some (p,c)->c.length=es.length
 |[],es,c,p,h=>by grind[jw]
 |(i,x)::ps,es,c,p,h=>by
  simp only[jw,bf,eg,bn]at h;obtain⟨a,_,cs,_,ts,_,_,b,d,_,rfl⟩:=h;have:=SL d;grind
theorem Iu{l k:List (t.den U.D)}{i o:Nat}{d:List C}(h:rU U t l i o cs=some k)(n:i<l.length)(g:aV (b5 N J) cs d)(y:o+cs.length<=t.sz U):
 ∃ts,toTs d=some ts/\k.map (t.enc U)=(l.map (t.enc U)).set i ((el (l.map (t.enc U)) i).take o++ts++(el (l.map (t.enc U)) i).drop (o+cs.length)):=by
 unfold rU at h;split at h
 . rename_i x I;cases h;unfold oy at I;split at I
   . rename_i row u;have s:=aD.Gu I;have key:=@H7 U N J;have v:aV (b5 N J) ((t.row U (t.at U l i)).map .t) _:=yL;have m:=Dp (o:=o) v g;have h1:=key u m;have f:∀{a b:List C} {r:List T},toTs (a++b)=some r->∃p q,toTs a=some p/\toTs b=some q/\r=p++q:=by
      intro a;induction a with
      |nil=>intro b r h;exact⟨[],r,rfl,h,rfl⟩
      |cons c a ih=>
       intro b r h;simp[toTs,bf,bn]at h;grind[toTs]
     have j:∀(ts:List T),toTs (ts.map .t)=some ts:=by
      intro ts;induction ts with
      |nil=>rfl
      |cons a ts ih=>grind[toTs,toT]
     obtain⟨p,q,aC,e,dw⟩:=f h1;obtain⟨z,w,f1,f2,f3⟩:=f aC;rw[<-List.map_take,j]at f1;cases f1;rw[<-List.map_drop,j]at e;cases e;refine⟨w,f2,?_⟩;rw[List.map_set,zd n,aD.u0,s,dw,f3,g.length]
   grind
 grind
variable (he:cP N J G env env1)(al:gC gl env G)(aA:ck N J J1)
section
include he al aA
theorem ahv(h:cj gl gd env J N (.mov x)=some (c,v,J')):dM N J J1 (.mov x) env1 (cz env G gd) c v J':=by
 simp[cj]at h;split at h
 . rename_i w b;cases h;obtain⟨p,v1,a1,a2,a3⟩:=b4 he al b;exact .neutral aA a2 λa _=>⟨p,by grind[aL],a3 a⟩
 grind
theorem acw{z:aO}(h:cj gl gd env J N (.pick x y z)=some (c,v,J')):dM N J J1 (.pick x y z) env1 (cz env G gd) c v J':=by
 simp[cj]at h;split at h
 . rename_i b p q h1 i j;cases h;obtain⟨k,v1,a1,a2,a3⟩:=b4 he al h1;obtain⟨l,n,b1,b2,d⟩:=K3 he al h1 rfl i;obtain⟨m,v3,e,f,g⟩:=K3 he al h1 rfl j;have:=a2.iZ;subst this;have:=b2.iZ;subst this;have:=f.iZ;subst this;refine .neutral aA (.c (.t _)) λa _=>⟨k/\(b=true->l)/\(b=false->m),by simp only[aL,a1,b1,e];rfl,a3 a,d a,g a⟩
 grind
theorem ZK(h:cj gl gd env J N (.nilCheck x)=some (c,v,J')):dM N J J1 (.nilCheck x) env1 (cz env G gd) c v J':=by
 simp[cj]at h;split at h
 . rename_i b o d;cases h;obtain⟨p,v1,a1,a2,a3⟩:=b4 he al d;have:=a2.gT;subst this;exact .neutral aA a2 λa _=>⟨p,by simp[aL,a1],a3 a⟩
 . rename_i b t i o d;cases h;obtain⟨p,v1,a1,a2,a3⟩:=b4 he al d;have:=a2.hE;subst this;exact .neutral aA a2 λa _=>⟨p,by simp[aL,a1],a3 a⟩
 . rename_i t e o d;cases h;obtain⟨p,v1,a1,a2,a3⟩:=b4 he al d;have:=a2.Gn;subst this;exact .neutral aA a2 λa _=>⟨p,by simp[aL,a1],a3 a⟩
 grind
theorem ahw(h:cj gl gd env J N (.not x)=some (c,v,J')):dM N J J1 (.not x) env1 (cz env G gd) c v J':=by
 simp[cj]at h;split at h
 . rename_i b d;cases h;obtain⟨p,v1,a1,a2,a3⟩:=b4 he al d;have:=a2.iZ;subst this;exact .neutral aA (.c (.t _)) λa _=>⟨p,by simp[aL,a1];rfl,a3 a⟩
 grind
theorem adH{k:IntKind}(h:cj gl gd env J N (.conv k x)=some (c,v,J')):dM N J J1 (.conv k x) env1 (cz env G gd) c v J':=by
 simp only[cj]at h;split at h
 . rename_i d m b;cases h;obtain⟨p,v1,a1,a2,a3⟩:=b4 he al b;have:=a2.eT;subst this;exact .neutral aA (.c (.t _)) λa _=>⟨p,by simp[aL,a1];rfl,a3 a⟩
 grind
theorem aht(h:cj gl gd env J N (.i2s x)=some (c,v,J')):dM N J J1 (.i2s x) env1 (cz env G gd) c v J':=by
 simp[cj]at h;split at h
 . rename_i d m b;cases h;obtain⟨p,v1,a1,a2,a3⟩:=b4 he al b;have:=a2.eT;subst this;exact .neutral aA (.c (.t _)) λa _=>⟨p,by simp[aL,a1];rfl,a3 a⟩
 grind
theorem ahx(h:cj gl gd env J N (.s2s x)=some (c,v,J')):dM N J J1 (.s2s x) env1 (cz env G gd) c v J':=by
 simp[cj]at h;split at h
 . rename_i s b;cases h;obtain⟨p,v1,a1,a2,a3⟩:=b4 he al b;have:=a2.j6;subst this;exact .neutral aA a2 λa _=>⟨p,by simp[aL,a1],a3 a⟩
 grind
theorem adI(h:cj gl gd env J N (.fldA off x)=some (c,v,J')):dM N J J1 (.fldA off x) env1 (cz env G gd) c v J':=by
 simp[cj]at h;split at h
 . rename_i b o d;cases h;obtain⟨p,v1,a1,a2,a3⟩:=b4 he al d;have:=a2.gT;subst this;exact .neutral aA (.c (.ptr _ _)) λa _=>⟨p,by simp[aL,a1],a3 a⟩
 . rename_i b t i o d;cases h;obtain⟨p,v1,a1,a2,a3⟩:=b4 he al d;have:=a2.hE;subst this;exact .neutral aA (.c (.cA _ _ _ _)) λa _=>⟨p,by simp[aL,a1],a3 a⟩
 . rename_i t e o d;cases h;obtain⟨p,v1,a1,a2,a3⟩:=b4 he al d;have:=a2.Gn;subst this;exact .neutral aA (.c (.dF _ _ _)) λa _=>⟨p,by simp[aL,a1],a3 a⟩
 grind
theorem ahs{k:Nat}(h:cj gl gd env J N (.fld agg off k x)=some (c,v,J')):dM N J J1 (.fld agg off k x) env1 (cz env G gd) c v J':=by
 simp[cj]at h;split at h
 . rename_i cs d;split at h
   . rename_i w ae;cases h;obtain⟨p,v1,a1,a2,a3⟩:=b4 he al d;obtain⟨f,rfl,b2⟩:=a2.lJ;obtain⟨g,e,a⟩:=sL b2 ae;exact .neutral aA a λb _=>⟨p,by grind[aL],a3 b⟩
   grind
 grind
theorem adJ{k:Nat}(h:cj gl gd env J N (.load agg k x)=some (c,v,J')):dM N J J1 (.load agg k x) env1 (cz env G gd) c v J':=by
 simp only[cj]at h;split at h
 . rename_i b o j;split at h
   . rename_i cs f;split at h
     . rename_i w ae;cases h;obtain⟨p,v1,a1,a2,a3⟩:=b4 he al j;have:=a2.gT;subst this;obtain⟨_,y,b1,b2⟩:=aA b _ f;cases b2 with
       |box b2=>
        obtain⟨q,d,g⟩:=sL b2 ae;exact .neutral aA g λa _=>⟨p,by simp[aL,a1,b1,d],a3 a⟩
     . cases h
   . rename_i E z f;split at h
     . cases h;obtain⟨p,v1,a1,a2,a3⟩:=b4 he al j;have:=a2.gT;subst this;obtain⟨_,y,b1,b2⟩:=aA b _ f;cases b2 with
       |b3 b2=>exact .neutral aA (.c b2) λa _=>⟨p,by simp[aL,a1,b1],a3 a⟩
     . cases h
   . cases h
 . rename_i b t i o j;split at h
   . rename_i u B f;split at h
     . rename_i l ae;have e:=Cell.jR ae;split at h
       . rename_i w r;cases h;obtain⟨p,v1,a1,a2,a3⟩:=b4 he al j;have:=a2.hE;subst this;obtain⟨_,y,b1,b2⟩:=aA b _ f;cases b2 with
         |arr=>
          obtain⟨q,d,g⟩:=sL yL r;refine .neutral aA g λa m=>⟨p/\t.sz U=t.sz U/\i<(List.map (t.enc U) l).length,?_,a3 a,rfl,vx (hn m)⟩
          simp only[e9]at m;grind[Jx,aL,zd]
       . cases h
     . cases h
   . rename_i cs f;split at h
     . rename_i w ae;cases h;obtain⟨p,v1,a1,a2,a3⟩:=b4 he al j;have:=a2.hE;subst this;obtain⟨_,y,b1,b2⟩:=aA b _ f;cases b2 with
       |box b2=>
        obtain⟨q,d,g⟩:=sL b2 ae;exact .neutral aA g λa _=>⟨p,by simp[aL,a1,b1,d],a3 a⟩
     . cases h
   . rename_i u B A C z f;split at h
     . cases h
     . split at h
       . rename_i n;split at h
         . rename_i s;cases h;have n:=cL n;have s:=cL s;subst n;obtain⟨p,v1,a1,a2,a3⟩:=b4 he al j;have:=a2.hE;subst this;obtain⟨_,y,b1,b2⟩:=aA b _ f;cases b2 with
           |cw _ _ _ _ b2=>
            refine .neutral aA (.c b2) λa m=>⟨p/\t.sz U=u.sz U/\i=A,?_,a3 a,s,hn m⟩
            simp only[aL,a1,ay,b1];simp
         . cases h
       . rename_i n;have n:=hP n;split at h
         . rename_i l ae;have e:=Cell.jR ae;cases e;split at h
           . rename_i w r;cases h;obtain⟨p,v1,a1,a2,a3⟩:=b4 he al j;have:=a2.hE;subst this;obtain⟨_,y,b1,b2⟩:=aA b _ f;cases b2 with
             |cw _ _ _ _ b2=>
              obtain⟨q,d,g⟩:=sL yL r;refine .neutral aA g λa m=>⟨p/\t.sz U=t.sz U/\i<(List.map (t.enc U) l).length,?_,a3 a,rfl,vx (hn m)⟩
              simp only[e9]at m;have d:=Jx d;simp only[aL,a1,ay,b1];rw[c2,ao n,zd m,d];rfl
           . cases h
         . cases h
   . cases h
 . rename_i t D o j;split at h
   . rename_i w ae;cases h;obtain⟨p,v1,a1,a2,a3⟩:=b4 he al j;have:=a2.Gn;subst this;obtain⟨q,d,g⟩:=sL yL ae;have d:=Jx d;exact .neutral aA g λa _=>⟨p,by simp[aL,a1,d],a3 a⟩
   . cases h
 grind
theorem ahp{op:BinOp}(h:cj gl gd env J N (.bin op x y)=some (c,v,J')):dM N J J1 (.bin op x y) env1 (cz env G gd) c v J':=by
 simp[cj]at h;split at h
 . rename_i p q ai e;split at h
   . rename_i k r f;cases h;obtain⟨g,v1,a1,a2,a3⟩:=b4 he al ai;obtain⟨i,l,b1,b2,b⟩:=b4 he al e;have:=a2.wZ;have:=b2.wZ;obtain⟨j,d1,d2⟩:=ZI f;exact .neutral aA (.c (.t _)) λa d=>⟨g/\i/\j,by grind[aL],a3 a,b a,d2 d⟩
   grind
 grind
theorem abM{ks:aY}(h:cj gl gd env J N (.eqAgg neg ks x y)=some (c,v,J')):dM N J J1 (.eqAgg neg ks x y) env1 (cz env G gd) c v J':=by
 simp[cj]at h;split at h
 . rename_i p q ai e;split at h
   . rename_i r f;cases h;obtain⟨g,v1,a1,a2,a3⟩:=b4 he al ai;obtain⟨i,l,b1,b2,b⟩:=b4 he al e;obtain⟨j,rfl,d2⟩:=a2.lJ;obtain⟨es,rfl,d⟩:=b2.lJ;have:=Sd f d2 d;exact .neutral aA (.c (.t _)) λa k=>⟨g/\i,by simp[aL,a1,b1,this];cases neg<;>rfl,a3 a,b a⟩
   . cases h
 . cases h
theorem aaY(h:cj gl gd env J N (.eqBool neg x y)=some (c,v,J')):dM N J J1 (.eqBool neg x y) env1 (cz env G gd) c v J':=by
 simp[cj]at h;split at h
 . rename_i p q ai d;cases h;obtain⟨e,v1,a1,a2,a3⟩:=b4 he al ai;obtain⟨f,i,b1,b2,b⟩:=b4 he al d;have:=a2.iZ;subst this;have:=b2.iZ;subst this;exact .neutral aA (.c (.t _)) λa g=>⟨e/\f,by simp only[aL,a1,b1];cases neg<;>rfl,a3 a,b a⟩
 grind
theorem adK{sz:Nat}(h:cj gl gd env J N (.idxA sz x y)=some (c,v,J')):dM N J J1 (.idxA sz x y) env1 (cz env G gd) c v J':=by
 simp[cj]at h;split at h
 . rename_i t l k m ai j;split at h
   . rename_i d;have d:=cL d;cases h;obtain⟨g,v1,a1,a2,a3⟩:=b4 he al ai;obtain⟨i,r,b1,b2,f⟩:=b4 he al j;have:=a2.jj;subst this;have:=b2.eT;subst this;by_cases q:aQ m (List.length l)=true
     . obtain⟨h1,o⟩:=n2.1 q;refine .neutral aA (v1:= .c (.dF (el (List.map (t.enc U) l) (Int.toNat m)) 0)) ?_ λa e=>⟨g/\i/\(0:Int)<=m/\Int.toNat m<(List.map (t.enc U) l).length/\(el (List.map (t.enc U) l) (Int.toNat m)).length=sz,by simp only[aL,a1,b1,ay],a3 a,f a,h1,vx o,by rw[zd o,aD.sj];exact d⟩
       rw[zd o];exact .c (.dF _ _ _)
     . exact .neutral aA (.c (.dF _ _ _)) λa e=>absurd e q
   . cases h
 . rename_i b k m ai j;split at h
   . rename_i t l p;split at h
     . rename_i d;have d:=cL d;cases h;obtain⟨g,v1,a1,a2,a3⟩:=b4 he al ai;obtain⟨i,r,b1,b2,f⟩:=b4 he al j;obtain⟨u,n,rfl,s,a⟩:=a2.gn;have:=b2.eT;subst this;have:=a _ p _ rfl;cases this;refine .neutral aA (.c (.cA _ _ _ _)) λa e=>⟨g/\i/\(0:Int)<=m/\Int.toNat m<l.length/\sz=t.sz U,?_,a3 a,f a,(n2.1 e).1,(n2.1 e).2,d.symm⟩
       simp only[aL,a1,b1,ay,gx,d]
     . cases h
   . rename_i cs p;split at h
     . rename_i d;have d:=cL d;cases h;obtain⟨g,v1,a1,a2,a3⟩:=b4 he al ai;obtain⟨i,r,b1,b2,f⟩:=b4 he al j;obtain⟨u,n,rfl,s,a⟩:=a2.gn;have:=b2.eT;subst this;have:=a _ p _ rfl;cases this;refine .neutral aA (.c (.cA _ .bool _ _)) λa e=>⟨g/\i/\(0:Int)<=m/\Int.toNat m<cs.length/\sz=1,?_,a3 a,f a,(n2.1 e).1,(n2.1 e).2,d.symm⟩
       simp only[aL,a1,b1,ay,gx,<-d];rfl
     . cases h
   . cases h
 grind
theorem adL(h:cj gl gd env J N (.idxS x y)=some (c,v,J')):dM N J J1 (.idxS x y) env1 (cz env G gd) c v J':=by
 simp[cj]at h;split at h
 . rename_i s k m ai e;cases h;obtain⟨f,v1,a1,a2,a3⟩:=b4 he al ai;obtain⟨g,i,b1,b2,d⟩:=b4 he al e;have:=a2.j6;subst this;have:=b2.eT;subst this;exact .neutral aA (.c (.t _)) λb a=>⟨f/\g/\(0:Int)<=m/\Int.toNat m<List.length s,by simp only[aL,a1,b1];rfl,a3 b,d b,(n2.1 a).1,(n2.1 a).2⟩
 grind
theorem pf{x:Option aO}{l:Option Int}(h:oa gl gd env x=some l):∃p,jE env1 x=some (p,l)/\(cz env G gd=true->p):=by
 unfold oa at h;split at h
 . cases h;exact⟨True,rfl,λ_=>trivial⟩
 . split at h
   . rename_i k n I;cases h;obtain⟨a,v1,a1,a2,a3⟩:=b4 he al I;have:=a2.eT;subst this;exact⟨a,by simp[jE,a1],a3⟩
   grind
theorem adM{d b:Option aO}(h:cj gl gd env J N (.slcS x d b)=some (c,v,J')):dM N J J1 (.slcS x d b) env1 (cz env G gd) c v J':=by
 simp[cj]at h;split at h
 . rename_i s l r ai ae f;cases h;obtain⟨i,v1,a1,a2,a3⟩:=b4 he al ai;obtain⟨pl,g,l2⟩:=pf he al aA ae;obtain⟨j,k,m⟩:=pf he al aA f;have:=a2.j6;subst this;exact .neutral aA (.c (.t _)) λa e=>⟨i/\pl/\j/\0<=l.getD 0/\l.getD 0<=r.getD _/\r.getD _<=List.length s,by simp[aL,a1,g,k];rfl,a3 a,l2 a,m a,iN.1 e⟩
 grind
theorem ahy{sz:Nat}{i B:Option aO}(h:cj gl gd env J N (.slc sz x i B)=some (c,v,J')):dM N J J1 (.slc sz x i B) env1 (cz env G gd) c v J':=by
 simp only[cj]at h;split at h
 . rename_i t s l r ai ae j;split at h
   . rename_i d;have d:=cL d;cases h;obtain⟨k,v1,a1,a2,a3⟩:=b4 he al ai;obtain⟨pl,z,l2⟩:=pf he al aA ae;obtain⟨m,q,o⟩:=pf he al aA j;have:=a2.jj;subst this;refine .neutral aA (.c (.t (U:=U) ⟨.slice t,_⟩)) λf a=>⟨k/\pl/\m/\0<=l.getD 0/\l.getD 0<=r.getD (List.length s:Int)/\r.getD (List.length s:Int)<=(List.length s:Int)/\∀e,e∈List.map (t.enc U) s->e.length=sz,?_,a3 f,l2 f,o f,(iN.1 a).1,(iN.1 a).2.1,(iN.1 a).2.2,?_⟩
     . simp only[aL,a1,z,q,ay];exact acu
     grind[aD.sj]
   grind
 . rename_i b r ai ae j;split at h
   . rename_i t s u;split at h
     . rename_i d;have d:=cL d;cases h;obtain⟨k,v1,a1,a2,a3⟩:=b4 he al ai;obtain⟨m,q,o⟩:=pf he al aA j;obtain⟨C,n,rfl,w,f⟩:=a2.gn;have A:=f _ u (t.sz U,s.length) rfl;have y:i=none:=by
        cases i with
        |none=>rfl
        |some x=>grind[oa]
       subst y;refine .neutral aA (.c (.pre b (t.sz U) _ w λx I p ai=>?_)) λg a=>⟨k/\True/\m/\0<=(none:Option Int).getD 0/\(none:Option Int).getD 0<=r.getD (List.length s:Int)/\r.getD (List.length s:Int)<=(List.length s:Int)/\sz=t.sz U,?_,a3 g,trivial,o g,(iN.1 a).1,(iN.1 a).2.1,(iN.1 a).2.2,d.symm⟩
       . grind
       . have D:jE env1 none=some (True,none):=rfl;grind[aL]
     grind
   grind
 . rename_i b l r ai ae j;split at h
   . rename_i t s u;split at h
     . rename_i d;have d:=cL d;cases h;obtain⟨k,v1,a1,a2,a3⟩:=b4 he al ai;obtain⟨pl,z,l2⟩:=pf he al aA ae;obtain⟨m,q,o⟩:=pf he al aA j;obtain⟨C,n,rfl,w,f⟩:=a2.gn;have A:=f _ u (t.sz U,s.length) rfl;obtain⟨rfl,rfl⟩:=A;have y:i.isNone=false:=by
        cases i with
        |none=>simp[oa]at ae
        |some x=>rfl
       refine .neutral aA (.c (.dI b (t.sz U) _ _ w λx I p ai=>?_)) λg a=>⟨k/\pl/\m/\0<=(some l:Option Int).getD 0/\(some l:Option Int).getD 0<=r.getD (List.length s:Int)/\r.getD (List.length s:Int)<=(List.length s:Int)/\sz=t.sz U,?_,a3 g,l2 g,o g,(iN.1 a).1,(iN.1 a).2.1,(iN.1 a).2.2,d.symm⟩
       . grind
       . simp only[aL,a1,z,q,ay,y,cJ,cE,gx];rfl
     grind
   grind
 grind
theorem adN(h:cj gl gd env J N (.slc0 x)=some (c,v,J')):dM N J J1 (.slc0 x) env1 (cz env G gd) c v J':=by
 simp[cj]at h;split at h
 . rename_i t l d;cases h;obtain⟨p,v1,a1,a2,a3⟩:=b4 he al d;have:=a2.jj;subst this;exact .neutral aA (.c .bD) λa _=>⟨p,by simp[aL,a1],a3 a⟩
 . rename_i d;cases h;obtain⟨p,v1,a1,a2,a3⟩:=b4 he al d;have:=a2.uE;subst this;exact .neutral aA (.c .bD) λa _=>⟨p,by simp[aL,a1],a3 a⟩
 . rename_i b d;cases h;obtain⟨p,v1,a1,a2,a3⟩:=b4 he al d;obtain⟨sz,n,rfl,_⟩:=a2.gn;exact .neutral aA (.c .bD) λa _=>⟨p,by simp[aL,a1],a3 a⟩
 grind
theorem Sf:∀{vs:List (bA U)} {a:List V} {l:aY},Ar vs=some l->aV (bL N J) vs a->aL.r9 a=some l
 |[],[],l,h,.nil=>by simp[Ar]at h;subst h;rfl
 |.c (.ptr b 0)::vs,d::a,l,h,.cons h1 e=>by
  simp only[Ar]at h;split at h
  . rename_i f ae;cases h;have:=h1.gT;subst this;simp[aL.r9,Sf ae e]
  grind
theorem adO{f:Nat}{caps:List aO}(h:cj gl gd env J N (.mkfn f caps)=some (c,v,J')):dM N J J1 (.mkfn f caps) env1 (cz env G gd) c v J':=by
 simp[cj]at h;split at h
 . rename_i vs b;split at h
   . rename_i l ae;cases h;obtain⟨p,d,a1,a2,a3⟩:=sP he al b;exact .neutral aA (.c (.fn _ _)) λa _=>⟨p,by simp[aL,a1,Sf he al aA ae a2],a3 a⟩
   . cases h
 grind
theorem ahr{i:Nat}(h:cj gl gd env J N (.ext x i)=some (c,v,J')):dM N J J1 (.ext x i) env1 (cz env G gd) c v J':=by
 simp[cj]at h;split at h
 . rename_i vs f;split at h
   . rename_i w a;cases h;obtain⟨p,v1,a1,a2,a3⟩:=b4 he al f;cases a2 with
     |aX _ b ae d=>
      have g:=(dH.1 a).1;have e:=eC (l:=b) (i:=i) (by omega);exact .neutral aA (d i _ _ a e) λal _=>⟨p,by grind[aL],a3 al⟩
   grind
 grind
theorem adP(h:cj gl gd env J N (.max2 x y)=some (c,v,J')):dM N J J1 (.max2 x y) env1 (cz env G gd) c v J':=by
 simp only[cj]at h;split at h
 . rename_i k a l b ai f;simp at h;obtain⟨rfl,rfl,rfl,rfl⟩:=h;obtain⟨g,v1,a1,a2,a3⟩:=b4 he al ai;obtain⟨i,m,b1,b2,e⟩:=b4 he al f;have:=a2.eT;subst this;have:=b2.eT;subst this;exact .neutral aA (.c (.t (U:=U) _)) λd j=>⟨g/\i,by simp[aL,a1,b1];rfl,a3 d,e d⟩
 grind
theorem adQ(h:cj gl gd env J N (.min2 x y)=some (c,v,J')):dM N J J1 (.min2 x y) env1 (cz env G gd) c v J':=by
 simp[cj]at h;split at h
 . rename_i k a l b ai f;simp at h;obtain⟨rfl,rfl,rfl,rfl⟩:=h;obtain⟨g,v1,a1,a2,a3⟩:=b4 he al ai;obtain⟨i,m,b1,b2,e⟩:=b4 he al f;have:=a2.eT;subst this;have:=b2.eT;subst this;exact .neutral aA (.c (.t _)) λd j=>⟨g/\i,by simp only[aL,a1,b1,ay];rfl,a3 d,e d⟩
 grind
theorem abN{z:List C}{parts:List (Nat×Nat×aO)}(h:cj gl gd env J N (.build z parts)=some (c,v,J')):dM N J J1 (.build z parts) env1 (cz env G gd) c v J':=by
 simp[cj]at h;split at h
 . rename_i f d;split at h
   . rename_i cs a;cases h;obtain⟨p,e,a1,a2,a3⟩:=Sl he al a (nU d);exact .neutral aA (.agg a2) λb _=>⟨p,by grind[aL],a3 b⟩
   grind
 grind
theorem abO{cs:List C}(h:cj gl gd env J N (.alloc cs)=some (c,v,J')):dM N J J1 (.alloc cs) env1 (cz env G gd) c v J':=by
 simp[cj]at h;split at h
 . rename_i xs a;cases h;have k:c0 N J (N+16) (cn J N (.box xs)):=ju;exact .store rfl k (.c (.ptr _ _)) λb _=>⟨True,_,rfl,trivial,aA.put (by simp) k (.box (nU a))⟩
 grind
theorem ahq(h:cj gl gd env J N (.box x)=some (c,v,J')):dM N J J1 (.box x) env1 (cz env G gd) c v J':=by
 simp[cj]at h;split at h
 . rename_i w d;split at h
   . rename_i cs a;cases h;obtain⟨p,v1,a1,a2,a3⟩:=b4 he al d;obtain⟨e,b1,b2⟩:=nQ a2 a;have k:c0 N J (N+16) (cn J N (.box cs)):=ju;exact .store rfl k (.c (.ptr _ _)) λb _=>⟨p,_,by grind[aL],a3 b,aA.put (by simp) k (.box (b2.imp λ_ _ _=>b5.mono k))⟩
   grind
 grind
theorem aa0{sz len:Nat}{z:List C}{parts:List (Nat×aO)}(h:cj gl gd env J N (.bslice sz len z parts)=some (c,v,J')):dM N J J1 (.bslice sz len z parts) env1 (cz env G gd) c v J':=by
 simp[cj]at h;split at h
 . rename_i l i;split at h
   . cases h
   . rename_i ts f;split at h
     . grind
     . rename_i b;have b:=cL b;split at h
       . rename_i rows a;cases h;have j:=nU (N:=N) (J:=J) i;obtain⟨p,es,a1,a2,a4,a3⟩:=HP he al a (aV.replicate (R:=λr e=>hq r=some e) f _) (by intro r a;rw[zH a];exact b);have k:c0 N J (N+16) (cn J N (.rows sz rows)):=ju (by omega);refine .store rfl k (.c (.arr N sz es.length (by omega) ?_)) λg _=>⟨p,_,by simp[aL,vz j f,ay,a1,ly];rw[SL a1,List.length_replicate],a3 g,aA.put (by omega) k (.rows a2 a4)⟩
         intro x I q d;rw[gw,ad rfl]at I;cases I;simp[cx.cV]at d;rw[<-d,a2.length]
       . cases h
 grind
omit he al aA in
theorem aaB{a:List C}(h:toTs a=some ts):zY a=none:=by
 unfold zY;grind[toTs,toT]
omit he al aA in
theorem aa1{J1:a6}{w:bA U}{d:V}(h:bL N J w d)(e:∀b a len,w≠.c (.dI b a len))(f:∀b a len,w≠.c (.sub b a len))(g:w≠.c .dead):mc v1 d=none:=by
 unfold mc;split
 . cases h with
   |c h=>
    cases h<;>grind
 rfl
theorem abP{k:Nat}(h:cj gl gd env J N (.store k x y)=some (c,v,J')):dM N J J1 (.store k x y) env1 (cz env G gd) c v J':=by
 simp only[cj]at h;split at h
 . rename_i b o w I ag;split at h
   . rename_i cs n;split at h
     . rename_i C;have C:=cL C;split at h
       . rename_i F r;split at h
         . rename_i K;have K:=gK K;cases h;obtain⟨p,v1,a1,a2,a3⟩:=b4 he al I;obtain⟨q,D,b1,b2,g⟩:=b4 he al ag;have:=a2.gT;subst this;obtain⟨es,j,d⟩:=nQ b2 n;obtain⟨B,z,d1,d2⟩:=aA b _ r;cases d2 with
           | @box _ fs d2=>
            have a:c0 N J (N+16) (cn J b (.box (ox F o cs))):=mR (by simp) r (λp h=>by
             simp only[cx.cV,K1 (show o+cs.length<=F.length by omega)]at h⊢
             exact h)
            refine .store rfl a (.aX [] [] rfl (by simp)) λf _=>⟨p/\q,_,?_,⟨a3 f,g f⟩,aA.put (by omega) a (.box (Dp (d2.imp λ_ _ _=>b5.mono a) (d.imp λ_ _ _=>b5.mono a)))⟩
            simp only[aL,a1,b1,ay,j];rw[ad (by rw[<-d.length];grind),d1];dsimp only;rw[ad (by rw[<-d2.length];grind)]
         grind
       . rename_i E O r;split at h
         . rename_i O _;cases h;obtain⟨p,v1,a1,a2,a3⟩:=b4 he al I;obtain⟨q,D,b1,b2,g⟩:=b4 he al ag;have:=a2.gT;obtain⟨es,j,d⟩:=nQ b2 n;obtain⟨B,z,d1,d2⟩:=aA b _ r;cases d2 with
           |b3 d2=>
            cases d with|cons d s=>
            cases s;have a:c0 N J (N+16) (cn J b (.b3 E O)):=mR (by simp) r (λp h=>by grind[cx.cV]);refine .store rfl a (.aX [] [] rfl (by simp)) λf _=>⟨p/\q,_,?_,⟨a3 f,g f⟩,aA.put (by omega) a (.b3 (d.mono a))⟩
            simp only[aL,a1,b1,ay,j];grind
         grind
       grind
     grind
   grind
 . rename_i b t i o w I ag;split at h
   . rename_i cs n;split at h
     . rename_i C;simp only[cK]at C;have V:=cL C.1;have Q:=gK C.2;split at h
       . rename_i S X m;split at h
         . rename_i l ae;have e:=Cell.jR ae;cases e;split at h
           . rename_i P ah;cases h;obtain⟨rfl,T,rfl⟩:cs=[P]/\∃T,P= .arr T:=by
              unfold QY at ah;grind
             obtain⟨p,v1,a1,a2,a3⟩:=b4 he al I;obtain⟨q,D,b1,b2,g⟩:=b4 he al ag;have:=a2.hE;obtain⟨es,j,d⟩:=nQ b2 n;cases d with|cons d s=>
             cases s;have aa:=d;cases d with|arr _ ap an ak am=>
             obtain⟨B,z,d1,d2⟩:=aA b _ m;cases d2 with
             |arr=>
              have a:c0 N J (N+16) (cn J b (.cw t l i o (.arr T))):=mR (by simp) m (λp h=>by grind[cx.cV]);refine .store rfl a (.aX [] [] rfl (by simp)) λf u=>⟨p/\q/\t.sz U=t.sz U/\i<(List.map (t.enc U) l).length/\o+k<=t.sz U,_,?_,⟨a3 f,g f,rfl,vx (hn u),Q⟩,aA.put (by omega) a (.cw t l i o (aa.mono a))⟩
              simp only[aL,a1,b1,ay,j];simp_all[ad,zY]
           split at h
           . rename_i l2 R;cases h;obtain⟨p,v1,a1,a2,a3⟩:=b4 he al I;obtain⟨q,D,b1,b2,g⟩:=b4 he al ag;have:=a2.hE;subst this;obtain⟨es,j,d⟩:=nQ b2 n;obtain⟨B,z,d1,d2⟩:=aA b _ m;cases d2 with
             |arr=>
              have af:l2.length=List.length l:=by
               grind[rU]
              have a:c0 N J (N+16) (cn J b (.arr t l2)):=mR (by simp) m (λp h=>by
               grind[cx.cV])
              refine .store rfl a (.aX [] [] rfl (by simp)) λf u=>?_;have H:i<List.length l:=hn u;obtain⟨ts,aC,ab⟩:=Iu R H d (by grind);refine⟨p/\q/\t.sz U=t.sz U/\i<(List.map (t.enc U) l).length/\o+k<=t.sz U,_,?_,⟨a3 f,g f,rfl,vx H,Q⟩,aA.put (by omega) a (.arr t l2)⟩;simp only[aL,a1,b1,ay,j];rw[ad (by rw[<-d.length];grind),d1];grind[aaB]
           grind
         grind
       . rename_i F r;split at h
         . rename_i K;have K:=gK K;cases h;obtain⟨p,v1,a1,a2,a3⟩:=b4 he al I;obtain⟨q,D,b1,b2,g⟩:=b4 he al ag;have:=a2.hE;subst this;obtain⟨es,j,d⟩:=nQ b2 n;obtain⟨B,z,d1,d2⟩:=aA b _ r;cases d2 with
           | @box _ fs d2=>
            have a:c0 N J (N+16) (cn J b (.box (ox F (i*t.sz U+o) cs))):=mR (by simp) r (λp h=>by
             simp only[cx.cV,K1 (show i*t.sz U+o+cs.length<=F.length by omega)]at h⊢
             exact h)
            refine .store rfl a (.aX [] [] rfl (by simp)) λf _=>⟨p/\q,_,?_,⟨a3 f,g f⟩,aA.put (by omega) a (.box (Dp (d2.imp λ_ _ _=>b5.mono a) (d.imp λ_ _ _=>b5.mono a)))⟩
            simp only[aL,a1,b1,ay,j];rw[ad (by rw[<-d.length];grind),d1];dsimp only;rw[ad (by rw[<-d2.length];grind)]
         . cases h
       . rename_i S X L Z O m;split at h
         . rename_i P;split at h
           . rename_i A;split at h
             . rename_i W;cases h;have A:=cL A;have W:=cL W;subst A;obtain⟨p,v1,a1,a2,a3⟩:=b4 he al I;obtain⟨q,D,b1,b2,g⟩:=b4 he al ag;have:=a2.hE;subst this;obtain⟨es,j,d⟩:=nQ b2 n;cases d with|cons d s=>
               cases s;obtain⟨B,z,d1,d2⟩:=aA b _ m;cases d2 with
               |cw _ _ _ _ d2=>
                have a:c0 N J (N+16) (cn J b (.cw S X L o P)):=mR (by simp) m (λp h=>by grind[cx.cV]);refine .store rfl a (.aX [] [] rfl (by simp)) λf u=>⟨p/\q/\t.sz U=S.sz U/\i=L,_,?_,⟨a3 f,g f,W,hn u⟩,aA.put (by omega) a (.cw S X L o (d.mono a))⟩
                simp only[aL,a1,b1,ay,j];rw[ad (by simpa using V),d1];dsimp only;rw[ad rfl]
             . cases h
           . rename_i A;have A:=hP A;split at h
             . rename_i l ae;have e:=Cell.jR ae;cases e;split at h
               . rename_i l2 R;cases h;obtain⟨p,v1,a1,a2,a3⟩:=b4 he al I;obtain⟨q,D,b1,b2,g⟩:=b4 he al ag;have:=a2.hE;subst this;obtain⟨es,j,d⟩:=nQ b2 n;obtain⟨B,z,d1,d2⟩:=aA b _ m;cases d2 with
                 |cw _ _ _ _ d2=>
                  have af:l2.length=List.length l:=by
                   unfold rU at R;grind
                  have a:c0 N J (N+16) (cn J b (.cw t l2 L Z O)):=mR (by omega) m (λp h=>by
                   simp only[cx.cV]at h⊢
                   grind)
                  refine .store rfl a (.aX [] [] rfl (by simp)) λf u=>?_;have H:i<List.length l:=hn u;obtain⟨ts,aC,ab⟩:=Iu R H d (by rw[V];exact Q);cases d with| @cons _ Y _ _ d s=>
                  cases s;obtain⟨M,ai,aj⟩:∃M,Shv.toT Y=some M/\ts=[M]:=by
                   simp only[toTs]at aC;cases I:Shv.toT Y with
                   |none=>rw[I]at aC;simp at aC
                   |some M=>rw[I]at aC;simp at aC;exact⟨M,rfl,aC.symm⟩
                  refine⟨p/\q/\t.sz U=t.sz U/\i<(List.map (t.enc U) l).length/\o+k<=t.sz U,_,?_,⟨a3 f,g f,rfl,vx H,Q⟩,aA.put (by omega) a (.cw t l2 L Z (d2.mono a))⟩;simp only[aL,a1,b1,ay,j];rw[ad (by simpa using V),d1];dsimp only;rw[ao A,ai];subst aj;grind
               . cases h
             . cases h
         . cases h
       . cases h
     . cases h
   . cases h
 . cases h
inductive kc:fL U->List (List T)->Prop
 |ty (t:aD) (l:List (t.den U.D)):kc (.ty t l) (l.map (t.enc U))
 |rows {r es}:aV (λr e=>hq r=some e) r es->kc (.rows r) es
 |nil:kc .nil []
omit he al aA in
theorem kc.length(h:kc e es):es.length=e.len:=by
 cases h with
 |ty t l=>simp[fL.len]
 |rows h=>simp[fL.len,h.length]
 |nil=>rfl
omit he al aA in
theorem IS:∀{xs:List (bd U)} {de:List aD} {e:List T} {row:List (Cell U.D)},hB de xs=some row->hq xs=some e->e=row.map (Cell.enc U)
 |[],de,e,row,h1,a=>by
  grind[hB,hq]
 |y::f,[],e,row,h1,a=>by grind[hB]
 |y::f,ty::de,e,row,h1,a=>by
  simp[hq]at a;split at a
  . rename_i t ts ht d;cases a;cases y with
    |t c=>
     simp[bd.toT]at ht;split at ht
     . grind
     . cases ht;cases ty<;>simp[hB]at h1<;>(split at h1<;>first|(cases h1;done)|(rename_i q b;cases h1;rw[IS b d];rfl))
    |bD=>
     simp[bd.toT]at ht;subst ht;cases ty<;>simp[hB]at h1;split at h1
     . rename_i q b;cases h1;rw[IS b d];rfl
     grind
    |_=>grind[bd.toT]
  grind
omit he al aA in
theorem adR{r:List (bd U)}{x:t.den U.D}{e:List T}(h:oy U t r=some x)(he:hq r=some e):t.enc U x=e:=by
 grind[oy,aD.u0,aD.Gu,IS]
omit he al aA in
theorem vQ:∀{r:List (List (bd U))} {l:List (t.den U.D)} {es:List (List T)},mf U t r=some l->aV (λr e=>hq r=some e) r es->l.map (t.enc U)=es
 |[],l,es,h,a=>by cases a;grind[mf]
 |r::c,l,_::_,h,.cons h1 a=>by
  simp[mf]at h;split at h
  . rename_i x xs I b;cases h;rw[jI,adR I h1,vQ b a]
  grind
omit he al aA in
theorem kc.as{l:List (t.den U.D)}(h:kc e es)(a:e.as t=some l):l.map (t.enc U)=es:=by
 cases h with
 |ty u c=>
  have:=Cell.jR a;grind
 |rows h=>exact vQ a h
 |nil=>grind[fL.as]
omit he al aA in
theorem kc.join{x y z:fL U}{es fs:List (List T)}(I:kc x es)(ag:kc y fs)(h:x.join y=some z):kc z (es++fs):=by
 cases I with
 |nil=>grind[fL.join]
 |ty t l=>
  simp[fL.join]at h;split at h
  . rename_i e ae;cases h;rw[<-ag.as ae,<-rB];exact .ty t _
  grind
 |rows a=>
  cases ag with
  |ty t l=>
   simp[fL.join]at h;split at h
   . rename_i e ae;cases h;rw[<-vQ ae a,<-rB];exact .ty t _
   grind
  |rows c=>simp[fL.join]at h;subst h;exact .rows (a.append c)
  |nil=>simp[fL.join]at h;subst h;rw[rC];exact .rows a
omit he al aA in
theorem kc.blk{e:fL U}{es:List (List T)}{sz:Nat}{b:cx U}(h:kc e es)(a:e.blk sz=some b):hM N' J' b (.arr sz es)/\(∀x,x∈es->x.length=sz)/\b.cV=some (sz,e.len):=by
 cases h with
 |ty t l=>
  simp[fL.blk]at a;split at a
  . rename_i hs;have:=cL hs;subst this;cases a;refine⟨.arr t l,λx I=>?_,rfl⟩;grind[aD.sj]
  grind
 | @rows r es c=>
  simp[fL.blk]at a;split at a
  . rename_i hs;cases a;simp only[e']at hs;refine⟨.rows c λx I=>cL (hs x I),λx I=>?_,rfl⟩;obtain⟨i,j,rfl⟩:=gQ I;obtain⟨y,h1,f⟩:=(c.flip λ_ _ h=>h).get (eC j);rw[It f];grind[cL]
  grind
 |nil=>
  simp[fL.blk]at a;subst a;exact⟨.rows .nil (by simp),by simp,rfl⟩
omit he al in
theorem Jz{f:Option Nat}(c:bL N J v v1)(h:rS J v=some (e,f)):∃es,lG J1 v1=some (es,f)/\kc e es:=by
 unfold rS at h;split at h
 . rename_i t l;cases h;have:=c.jj;subst this;exact⟨_,rfl,.ty t l⟩
 . cases h;have:=c.uE;subst this;exact⟨_,rfl,.nil⟩
 . rename_i b;obtain⟨sz,n,rfl,i,d⟩:=c.gn;split at h
   . rename_i t l ae;cases h;obtain⟨_,y,h1,a⟩:=aA b _ ae;cases a;have:=d _ ae _ rfl;cases this;exact⟨_,by simp[lG,h1],.ty t l⟩
   . rename_i j r ae;cases h;obtain⟨_,y,h1,a⟩:=aA b _ ae;cases a with
     |rows a g=>
      have:=d _ ae _ rfl;cases this;exact⟨_,by simp[lG,h1,a.length],.rows a⟩
   . cases h
 grind
theorem ahu{str:Bool}(h:cj gl gd env J N (.len str x)=some (c,v,J')):dM N J J1 (.len str x) env1 (cz env G gd) c v J':=by
 simp[cj]at h;split at h
 . rename_i s f;cases h;obtain⟨p,v1,a1,a2,a3⟩:=b4 he al f;have:=a2.j6;subst this;exact .neutral aA (.c (.t _)) λa _=>⟨p,by simp[aL,a1];rfl,a3 a⟩
 . rename_i b f;split at h
   . rename_i E s g;cases h;obtain⟨p,v1,a1,a2,a3⟩:=b4 he al f;obtain⟨n,rfl,_,d⟩:=a2.xz;have:=d _ g _ rfl;cases this;exact .neutral aA (.c (.t _)) λa _=>⟨p,by simp[aL,a1];rfl,a3 a⟩
   grind
 . rename_i w f;split at h
   . rename_i e dA;cases h;obtain⟨p,v1,a1,a2,a3⟩:=b4 he al f;refine .neutral aA (.c (.t (U:=U) ⟨.int .i64,_⟩)) λa _=>⟨p,?_,a3 a⟩
     unfold rS at dA;split at dA
     . cases dA;have:=a2.jj;subst this;simp only[aL,a1,ay];exact acv
     . cases dA;have:=a2.uE;subst this;simp only[aL,a1,ay];rfl
     . obtain⟨sz,n,rfl,g,d⟩:=a2.gn;simp[aL,a1];split at dA
       . rename_i t l ae;cases dA;have:=d _ ae _ rfl;cases this;rfl
       . rename_i i r ae;cases dA;have:=d _ ae _ rfl;cases this;rfl
       grind
     grind
   . split at h
     . rename_i b;split at h
       . rename_i cs ae;cases h;obtain⟨p,v1,a1,a2,a3⟩:=b4 he al f;obtain⟨sz,n,rfl,g,d⟩:=a2.gn;have:=d _ ae _ rfl;cases this;exact .neutral aA (.c (.t (U:=U) ⟨.int .i64,_⟩)) λa _=>⟨p,by simp[aL,a1];rfl,a3 a⟩
       . cases h
     . cases h
 grind
omit he al aA in
theorem Jg{bytes n:Nat}:room bytes n=true↔(2*n+192)*bytes<=gJ/\n<=c1:=by simp[room]
omit he al aA in
theorem zU{bytes n:Nat}(h:room bytes n=true):jx n bytes/\n<=c1:=⟨.inl (Jg.1 h).1,(Jg.1 h).2⟩
omit he al aA in
theorem y5:∀(l:au),bytesOf (List.map ((aD.int .u8).enc U) l)=some (strOf l)
 |[]=>rfl
 |m::l=>by
  have:=y5 l;show bytesOf ([T.int _ m]::_)=_;simp[bytesOf,this];rfl
omit he al aA in
theorem Tk:∀{l:au},JX l=true->l.map ((aD.int .u8).enc U)=(strOf l).map λc=>[.int .u8 c.toNat]
 |[],_=>rfl
 |m::l,h=>by
  simp only[JX,lA,cK,e9]at h;have a:([T.int .u8 m]:List T)=[T.int .u8 ((UInt8.ofNat m.toNat).toNat:Int)]:=by rw[show((UInt8.ofNat m.toNat).toNat:Int)=m by simp[UInt8.toNat_ofNat'];omega]
  exact congr (dd List.cons a) (Tk (l:=l) h.2)
theorem aa2{te sz bytes:Nat}(h:cj gl gd env J N (.append te sz bytes x y)=some (c,v,J')):dM N J J1 (.append te sz bytes x y) env1 (cz env G gd) c v J':=by
 simp only[cj]at h;split at h
 . rename_i w I ag;split at h
   . rename_i ap ax D;split at h
     . rename_i blk P;cases h;obtain⟨p,v1,a1,a2,a3⟩:=b4 he al I;obtain⟨q,C,b1,b2,o⟩:=b4 he al ag;have:=a2.uE;subst this;obtain⟨a,F,s⟩:=Jz aA b2 D;have k:c0 N J (N+16) (cn J N blk):=ju (by omega);obtain⟨d1,d2,d3⟩:=s.blk (N':=N+16) (J':=cn J N blk) P;refine .store rfl k (.c (.arr N sz a.length (by omega) ?_)) λf j=>⟨p/\q/\(∀e,e∈a->e.length=sz)/\jx a.length bytes/\a.length<=c1,_,by simp only[aL,a1,b1,ay,show mc (.c .bD) C=none from rfl,F],⟨a3 f,o f,d2,?_⟩,aA.put (by omega) k d1⟩
       . intro x I r g;rw[gw,ad rfl]at I;cases I;rw[d3]at g;cases g;rw[s.length]
       . rw[s.length];exact zU j
     . cases h
   . cases h
 . rename_i b w I ag;split at h
   . rename_i p2 xb ap an ah D;split at h
     . grind
     . split at h
       . cases h
       . rename_i A;split at h
         . rename_i aB am;split at h
           . rename_i blk P;cases h;obtain⟨p,v1,a1,a2,a3⟩:=b4 he al I;obtain⟨q,C,b1,b2,o⟩:=b4 he al ag;obtain⟨m,cT,ab,M,Z⟩:=a2.gn;subst ab;obtain⟨a,F,s⟩:=Jz aA b2 D;obtain⟨xs,aC,S⟩:=Jz aA a2 ah;have d:=S.join s am;have B:c0 N (dl J b) (N+16) (cn (dl J b) N blk):=ju (by omega);have k:c0 N J (N+16) (cn (dl J b) N blk):=c0.trans qS B;obtain⟨d1,d2,d3⟩:=d.blk (N':=N+16) (J':=cn (dl J b) N blk) P;obtain⟨hs,aN⟩:aR J1 b=some (.arr m xs)/\cT=xs.length:=by
              simp only[lG]at aC;grind
             have aa:m=sz:=by
              unfold R6 at A;split at A
              . rename_i z d;split at A
                . rename_i r g;have:=Z _ d _ g;simp_all
                . cases A
              . cases A
             subst aa;have L:ck N (dl J b) (gU J1 b):=by
              intro i z d;rw[mY]at d;split at d
              . cases d
              . rename_i T;obtain⟨h1,y,K,u⟩:=aA i z d;exact⟨h1,y,by rw[e4,ao T];exact K,u.mono qS⟩
             have aw:an≠some b:=by
              intro e;simp_all
             refine .store rfl k (.c (.arr N m (xs++a).length (by omega) ?_)) λf j=>⟨p/\q/\m=m/\m=m/\0=0/\cT=xs.length/\(∀e,e∈a->e.length=m)/\jx (xs.length+a.length) bytes/\xs.length+a.length<=c1,_,?_,⟨a3 f,o f,rfl,rfl,rfl,aN,λe he=>d2 e (by simp[he]),?_⟩,L.put (by omega) B d1⟩
             . intro x I r g;rw[gw,ad rfl]at I;cases I;rw[d3]at g;cases g;rw[d.length]
             . have af:mc (.c (.arr b m 0 cT)) C=none:=by
                refine aa1 (J1:=J1) b2 ?_ ?_ ?_<;>(intros;rintro rfl;simp[rS]at D)
               simp only[aL,a1,b1,ay,af,F,hs];grind
             . have:=zU j;rw[<-d.length,dD]at this;exact this
           . cases h
         . cases h
   . cases h
 . rename_i b h0 R E len I ag;split at h
   . rename_i O;have O:=cL O;subst O;split at h
     . rename_i t l ae;split at h
       . rename_i V;have V:=cL V;cases h;obtain⟨p,v1,a1,a2,a3⟩:=b4 he al I;obtain⟨q,C,b1,b2,o⟩:=b4 he al ag;cases a2 with|c a2=>
         cases a2 with|pre _ s1 _ aq aj=>
         cases b2 with|c b2=>
         cases b2 with|dI _ az _ _ ar ak=>
         have aC:=aj _ ae _ rfl;have S:=ak _ ae _ rfl;obtain⟨X,z,d1,d2⟩:=aA b _ ae;cases d2 with
         |arr=>
          have B:c0 N (dl J b) (N+16) (cn (dl J b) N (.arr t (l.take h0++(l.drop E).take len))):=ju (by omega);have k:=c0.trans qS B;have L:ck N (dl J b) (gU J1 b):=by
           intro i z d;rw[mY]at d;split at d
           . cases d
           . rename_i T;obtain⟨h1,y,K,u⟩:=aA i z d;exact⟨h1,y,by simp_all[e4,ao],u.mono qS⟩
          refine .store rfl k (.c (.arr N (t.sz U) (l.take h0++(l.drop E).take len).length (by omega) ?_)) λf j=>?_
          . simp_all[gw,ad,cx.cV,dy]
          . simp only[cK,e9]at j;have au:(l.take h0++(l.drop E).take len).length=h0+len:=(by grind);refine⟨p/\q/\t.sz U=t.sz U/\t.sz U=t.sz U/\t.sz U=t.sz U/\0=0/\h0+len<=(l.map (t.enc U)).length/\E+len<=(l.map (t.enc U)).length,_,?_,⟨a3 f,o f,rfl,rfl,rfl,rfl,by grind,by grind⟩,L.put (by simp) B (.arr t _)⟩;grind[mc,aL,uC,List.map_take,List.map_drop]
       . cases h
     . cases h
   . cases h
 . rename_i b a I ag;split at h
   . rename_i H l M;split at h
     . rename_i Q;simp only[cK]at Q;have:=cL Q.1;subst this;have:=cL Q.2;subst this;cases h;obtain⟨p,v1,a1,a2,a3⟩:=b4 he al I;obtain⟨q,C,b1,b2,o⟩:=b4 he al ag;obtain⟨n,rfl,X,Y⟩:=a2.xz;have:=Y _ M _ rfl;cases this;have:=b2.jj;subst this;obtain⟨_,z,d1,d2⟩:=aA b _ M;cases d2;have k1:c0 N J N (dl J b):=qS;have k2:c0 N _ (N+16) (cn (dl J b) N (.buf H (uF l (strOf a)))):=ju;have W:ck N (dl J b) (gU J1 b):=by
        intro R x I;rw[mY]at I;split at I
        . grind
        . rename_i av;obtain⟨h1,y,K,u⟩:=aA R x I;exact⟨h1,y,by rw[e4];grind,u.mono k1⟩
       refine .store rfl (k1.trans k2) (.c (.cr N (List.length l+List.length (strOf a)) (by simp) λx I p ai=>?_)) λf j=>?_
       . rw[gw,ad rfl]at I;cases I;simp[cx.cV]at ai;exact ai.symm.trans (dd _ Se)
       . simp only[cK]at j;have g:=zU j.1;refine⟨p/\q/\H=H/\1=1/\List.length l=List.length l/\a.map ((aD.int .u8).enc U)=(strOf a).map (λc=>[.int .u8 c.toNat])/\jx _ _/\List.length l+List.length (strOf a)<=c1,_,?_,⟨a3 f,o f,rfl,rfl,rfl,Tk j.2,g.1,g.2⟩,W.put (by simp) k2 (.buf _ _)⟩;simp only[aL,a1,b1,ay,show mc (.c (.cr b (List.length l))) (.c (.t (.slice (a.map ((aD.int .u8).enc U)))))=none from rfl,show lG J1 (.c (.t (.slice (a.map ((aD.int .u8).enc U)))))=some (_,none)from rfl,d1];exact dd (Option.map _) (y5 (U:=U) a)
     . cases h
   . cases h
 grind
omit he al aA in
theorem Sg{t:aD}(ht:t.u7=false):∀{xs:List (bd U)} {a:List C} {l:List (t.den U.D)},aV (b5 N J) xs a->ue t xs=some l->∃ts,toTs a=some ts/\ts.map (λx=>[x])=l.map (t.enc U)
 |[],[],l,_,h=>by simp[ue]at h;subst h;exact⟨[],rfl,rfl⟩
 |x::xs,d::a,l,.cons h1 e,h=>by
  unfold ue at h;split at h
  . grind
  . rename_i c r i;cases i;split at h
    . rename_i y m f j;cases h;obtain⟨ts,aC,b⟩:=Sg ht e j;cases h1;have g:=Cell.jR f;subst g;refine⟨Cell.enc U ⟨t,y⟩::ts,by simp[toTs,aC,toT],?_⟩;rw[jI,b];cases t<;>first|rfl|cases ht
    . cases h
  grind
omit he al aA in
theorem K4{t:aD}{d:t.den U.D}:∀{xs:List (bd U)} {a:List C} {l:List (t.den U.D)} (i:Nat),aV (b5 N J) xs a->ue t xs=some l->i<a.length->b5 N J (.t ⟨t,l.getD i d⟩) (a.getD i .dead)
 |[],[],l,i,_,h,b=>absurd b (zA _)
 |x::xs,d::a,l,i,.cons h1 e,h,b=>by
  unfold ue at h;split at h
  . grind
  . rename_i c r j;cases j;split at h
    . rename_i y m f k;cases h;cases h1;have g:=Cell.jR f;subst g;cases i with
      |zero=>exact .t _
      |succ i=>exact K4 (d:=_) i e k (Nat.lt_of_succ_lt_succ b)
    . cases h
  grind
theorem adS{k:Nat}(h:cj gl gd env J N (.idxV k x y)=some (c,v,J')):dM N J J1 (.idxV k x y) env1 (cz env G gd) c v J':=by
 simp only[cj]at h;split at h
 . rename_i cs u m ai o;split at h
   . rename_i t l j ae;cases h;obtain⟨p,v1,a1,a2,a3⟩:=b4 he al ai;obtain⟨q,z,b1,b2,e⟩:=b4 he al o;obtain⟨f,rfl,b⟩:=a2.lJ;have:=b2.eT;subst this;have n:f.length=k:=by rw[<-b.length];exact cL j
     unfold E3 at ae;split at ae
     . rename_i s r;split at ae
       . rename_i w ht hs;cases ae;by_cases d:aQ m k=true
         . obtain⟨h1,g⟩:=n2.1 d;refine .neutral aA (.c (K4 (Int.toNat m) b hs (by omega))) λa _=>⟨p/\q/\(0:Int)<=m/\Int.toNat m<k,?_,a3 a,e a,h1,g⟩
           simp only[aL,a1,b1,ay,n,cm]
         . exact .neutral aA (.c (.t _)) λa i=>absurd i d
       . cases ae
     . cases ae
   . cases h
 . cases h
theorem aa3{sz bytes:Nat}{z:List C}(h:cj gl gd env J N (.mslice sz bytes z x)=some (c,v,J')):dM N J J1 (.mslice sz bytes z x) env1 (cz env G gd) c v J':=by
 simp only[cj]at h;split at h
 . rename_i k m u ai n;split at h
   . cases h
   . rename_i ts p;split at h
     . rename_i a;split at h
       . rename_i s b;cases h;have b:=cL b;subst b;obtain⟨o,v1,a1,a2,a3⟩:=b4 he al ai;have:=a2.eT;subst this;have g:=nU (N:=N) (J:=J) n;have k1:c0 N J (N+16) (cn J N (.arr a.ty (List.replicate (Int.toNat m) a.val))):=ju (by omega);have t:a.ty.sz U=1:=by
          generalize a.ty=t0 at s;cases t0<;>first|rfl|cases s
         have D:ts=a.ty.enc U a.val:=by
          obtain⟨ty,v0⟩:=a;cases ty<;>first|(cases p;rfl)|cases s
         have i:nx z=false:=by
          cases g with|cons z1 z2=>
          cases z1;rfl
         have l:aL (.mslice 1 bytes z x) env1 J1 N=some (o/\(0:Int)<=m/\Int.toNat m*bytes<=gJ/\Int.toNat m<=c1/\(nx z=true->Int.toNat m≠0),.c (.arr N 1 0 (Int.toNat m)),cW J1 N (.arr 1 (List.replicate (Int.toNat m) ts))):=by
          simp only[aL,a1,ay,vz g p,i];rfl
         refine .store rfl k1 (.c (.arr N 1 (Int.toNat m) (by omega) ?_)) λj d=>⟨_,_,l,⟨a3 j,(qY.1 d).1,(qY.1 d).2.1,(qY.1 d).2.2,λe=>by rw[i]at e;cases e⟩,aA.put (by omega) k1 ?_⟩
         . intro x I q f;rw[gw,ad rfl]at I;cases I;simp[cx.cV]at f;rw[<-f,t]
         . have:=hM.arr (N:=N+16) (J:=cn J N (.arr a.ty (List.replicate (Int.toNat m) a.val))) a.ty (List.replicate (Int.toNat m) a.val);rw[t,List.map_replicate,<-D]at this;exact this
       . cases h
     . split at h
       . rename_i b;have b:=cL b;subst b;cases h;obtain⟨o,v1,a1,a2,a3⟩:=b4 he al ai;have:=a2.eT;subst this;have g:=nU (N:=N) (J:=J) n;have H:z=[.bD]:=by
          cases g with|cons z1 z2=>
          cases z1;cases z2;rfl
         subst H;have k1:c0 N J (N+16) (cn J N (.box (List.replicate (Int.toNat m) .bD))):=ju (by omega);have l:aL (.mslice 1 bytes [.bD] x) env1 J1 N=some (o/\(0:Int)<=m/\Int.toNat m*bytes<=gJ/\Int.toNat m<=c1/\(nx [.bD]=true->Int.toNat m≠0),.c (.arr N 1 0 (Int.toNat m)),cW J1 N (.box (List.replicate (Int.toNat m) .bD))):=by
          simp only[aL,a1,ay];rfl
         refine .store rfl k1 (.c (.arr N 1 (Int.toNat m) (by omega) ?_)) λj d=>⟨_,_,l,⟨a3 j,?_⟩,aA.put (by omega) k1 (.box (aV.replicate .bD _))⟩
         . intro x I q f;rw[gw,ad rfl]at I;cases I;simp[cx.cV]at f;rw[<-f]
         . simp only[cK,zy,Gz]at d;obtain⟨A,B⟩:=d;obtain⟨h1,w,y⟩:=qY.1 A;exact⟨h1,w,y,λ_=>B⟩
       . cases h
     . rename_i K E;split at h
       . rename_i b;have b:=cL b;cases h;obtain⟨o,v1,a1,a2,a3⟩:=b4 he al ai;have:=a2.eT;subst this;have g:=nU (N:=N) (J:=J) n;have i:nx z=false:=by
          unfold nx;split
          . exact absurd (show u=[.bD] by simp only[mg,Aw]at n;cases n;rfl) E
          . rfl
         have k1:c0 N J (N+16) (cn J N (.rows sz (List.replicate (Int.toNat m) u))):=ju (by omega);have l:aL (.mslice sz bytes z x) env1 J1 N=some (o/\(0:Int)<=m/\Int.toNat m*bytes<=gJ/\Int.toNat m<=c1/\(nx z=true->Int.toNat m≠0),.c (.arr N sz 0 (Int.toNat m)),cW J1 N (.arr sz (List.replicate (Int.toNat m) ts))):=by
          simp only[aL,a1,ay,vz g p,i];rfl
         refine .store rfl k1 (.c (.arr N sz (Int.toNat m) (by omega) ?_)) λj d=>⟨_,_,l,⟨a3 j,(qY.1 d).1,(qY.1 d).2.1,(qY.1 d).2.2,λe=>by rw[i]at e;cases e⟩,aA.put (by omega) k1 (.rows (aV.replicate (R:=λr e=>hq r=some e) p _) (by intro r F;rw[zH F];exact b))⟩
         intro x I q f;rw[gw,ad rfl]at I;cases I;simp[cx.cV]at f;rw[<-f]
       . cases h
 . cases h
theorem aa4{cs:List C}(h:cj gl gd env J N (.allocA cs)=some (c,v,J')):dM N J J1 (.allocA cs) env1 (cz env G gd) c v J':=by
 simp[cj]at h;split at h
 . rename_i xs d;split at h
   . rename_i t l ae;cases h;unfold E3 at ae;split at ae
     . rename_i b r;split at ae
       . rename_i a ht hs;cases ae;obtain⟨ts,aC,e⟩:=Sg ht (nU (N:=N) (J:=J) d) hs;have k:c0 N J (N+16) (cn J N (.arr _ a)):=ju;refine .store rfl k (.c (.ptr _ _)) λf _=>⟨True,_,by simp[aL,aC];rfl,trivial,aA.put (by simp) k ?_⟩
         have g:b.ty.sz U=1:=by
          generalize b.ty=t0 at ht;cases t0<;>first|rfl|cases ht
         have:=hM.arr (N:=N+16) (J:=cn J N (.arr _ a)) _ a;grind
       grind
     grind
   grind
 grind
theorem adT{k:Nat}(h:cj gl gd env J N (.idxP k x y)=some (c,v,J')):dM N J J1 (.idxP k x y) env1 (cz env G gd) c v J':=by
 simp[cj]at h;split at h
 . rename_i b kk m ai g;split at h
   . split at h
     . rename_i e;have e:=cL e;cases h;obtain⟨i,v1,a1,a2,a3⟩:=b4 he al ai;obtain⟨j,l,b1,b2,f⟩:=b4 he al g;have:=a2.gT;have:=b2.eT;refine .neutral aA (.c (.cA _ _ _ _)) λd a=>⟨i/\j/\(0:Int)<=m/\Int.toNat m<k,?_,a3 d,f d,(n2.1 a).1,(n2.1 a).2⟩
       grind[aL]
     grind
   grind
 grind
theorem adU{k:Nat}{e d:Option aO}(h:cj gl gd env J N (.slcP k x e d)=some (c,v,J')):dM N J J1 (.slcP k x e d) env1 (cz env G gd) c v J':=by
 simp[cj]at h;split at h
 . rename_i b l r ai ae g;cases h;obtain⟨j,v1,a1,a2,a3⟩:=b4 he al ai;obtain⟨pl,i,l2⟩:=pf he al aA ae;obtain⟨m,n,o⟩:=pf he al aA g;have:=a2.gT;subst this;exact .neutral aA (.c (.sub _ _ _)) λa f=>⟨j/\pl/\m/\0<=l.getD 0/\l.getD 0<=r.getD _/\r.getD _<=k,by simp[aL,a1,i,n],a3 a,l2 a,o a,iN.1 f⟩
 grind
omit he al aA in
theorem abQ{b len:Nat}{s:ar}(h:aR J1 b=some (.arr 1 es))(hs:bytesOf ((es.drop off).take len)=some s):nv J1 (.c (.arr b 1 off len))=some (off+len<=es.length,s):=by grind[nv]
omit he al aA in
theorem abR{b len:Nat}{s:ar}(h:aR J1 b=some (.arr 1 es))(hs:bytesOf ((es.drop off).take len)=some s):nv J1 (.c (.fA b 1 off len))=some (off+len<=es.length,s):=by grind[nv]
omit he al aA in
theorem aaC{s:ar}(hs:bytesOf es=some s):nv J1 (.c (.t (.slice es)))=some (True,s):=by grind[nv]
theorem aho(h:cj gl gd env J N (.b2s x)=some (c,v,J')):dM N J J1 (.b2s x) env1 (cz env G gd) c v J':=by
 simp only[cj]at h;split at h
 . rename_i l ai;cases h;obtain⟨d,v1,a1,a2,a3⟩:=b4 he al ai;have:=a2.jj;subst this
   exact .neutral aA (.c (.t (U:=U) _)) λa j=>⟨d/\True,by
    simp only[aL,a1,ay]
    exact(dd _ (aaC (y5 (U:=U) l))).trans rfl,a3 a,trivial⟩
 . rename_i ai;cases h;obtain⟨d,v1,a1,a2,a3⟩:=b4 he al ai;have:=a2.uE;subst this;exact .neutral aA (.c (.t (U:=U) ⟨.str,_⟩)) λa j=>⟨d/\True,by simp only[aL,a1,nv];rfl,a3 a,trivial⟩
 . rename_i b ai;split at h
   . rename_i l f;cases h;obtain⟨d,v1,a1,a2,a3⟩:=b4 he al ai;obtain⟨m,n,rfl,k,a⟩:=a2.gn;have:=a _ f _ rfl;cases this;obtain⟨_,y,ag,i⟩:=aA _ _ f;cases i;refine .neutral aA (.c (.t (U:=U) ⟨.str,_⟩)) λa j=>⟨d/\(0+l.length<=(l.map ((aD.int .u8).enc U)).length),?_,a3 a,by simp⟩
     simp only[aL,a1,ay];have e:bytesOf (((l.map ((aD.int .u8).enc U)).drop 0).take l.length)=some (strOf l):=(by grind[List.take_of_length_le,y5]);exact(dd (Option.map _) (abQ ag e)).trans rfl
   grind
 . rename_i b g len ai;split at h
   . rename_i l f;cases h;obtain⟨d,v1,a1,a2,a3⟩:=b4 he al ai;have:v1= .c (.fA b 1 g len):=by cases a2 with|c h=>cases h;rfl
     subst this;obtain⟨_,y,ag,i⟩:=aA _ _ f;cases i;refine .neutral aA (.c (.t (U:=U) ⟨.str,_⟩)) λa j=>⟨d/\(g+len<=(l.map ((aD.int .u8).enc U)).length),?_,a3 a,by grind[wX]⟩
     simp only[aL,a1,ay];have e:bytesOf (((l.map ((aD.int .u8).enc U)).drop g).take len)=some (strOf ((l.drop g).take len)):=by rw[<-List.map_drop,<-List.map_take];exact y5 _
     exact(dd (Option.map _) (abR ag e)).trans rfl
   grind
 grind
theorem aa5{e e8:Nat}(h:cj gl gd env J N (.allocS e e8)=some (c,v,J')):dM N J J1 (.allocS e e8) env1 (cz env G gd) c v J':=by
 obtain⟨rfl,rfl,rfl⟩:=h;have d:c0 N J (N+16) (cn (cn J (N+1) (.buf e8 [])) N (.b3 e (.cr (N+1)))):=by
  refine⟨by simp,λb g f I=>?_⟩;grind[gw]
 refine .store rfl d (.c (.ptr _ _)) λ_ _=>⟨True,_,rfl,trivial,λb x I=>?_⟩
 rw[gw]at I;rw[cS];by_cases h1:N=b
 . rw[ad h1]at I⊢;cases I;refine⟨by omega,_,rfl,.b3 (.cr _ _ (by simp) λx I p ai=>?_)⟩;rw[gw,gw]at I;grind[cx.cV]
 . rw[ao h1,gw]at I;rw[ao h1,cS];by_cases a:N+1=b
   . rw[ad a]at I⊢;cases I;exact⟨by omega,_,rfl,.buf _ _⟩
   . rw[ao a]at I⊢;obtain⟨k1,y,k2,k3⟩:=aA b x I;exact⟨by omega,y,k2,k3.mono d⟩
theorem abS(h:cj gl gd env J N .mkset=some (c,v,J')):dM N J J1 .mkset env1 (cz env G gd) c v J':=by
 obtain⟨rfl,rfl,rfl⟩:=h;have k:c0 N J (N+16) (cn J N (.set [])):=ju;exact .store rfl k (.c (.mp _)) λ_ _=>⟨True,_,rfl,trivial,aA.put (by simp) k (.set _)⟩
theorem abT(h:cj gl gd env J N (.lkset x y)=some (c,v,J')):dM N J J1 (.lkset x y) env1 (cz env G gd) c v J':=by
 simp[cj]at h;split at h
 . rename_i b s I ag;split at h
   . rename_i ks e;cases h;obtain⟨p,v1,a1,a2,a3⟩:=b4 he al I;obtain⟨q,f,b1,b2,d⟩:=b4 he al ag;have:=a2.Cs;subst this;have:=b2.j6;subst this;obtain⟨_,z,d1,d2⟩:=aA b _ e;cases d2;exact .neutral aA (.c (.t _)) λa _=>⟨p/\q,by simp[aL,a1,b1,d1];rfl,a3 a,d a⟩
   grind
 grind
theorem abU(h:cj gl gd env J N (.upset x y)=some (c,v,J')):dM N J J1 (.upset x y) env1 (cz env G gd) c v J':=by
 simp[cj]at h;split at h
 . rename_i b s I ag;split at h
   . rename_i ks d;cases h;obtain⟨p,v1,a1,a2,a3⟩:=b4 he al I;obtain⟨q,i,b1,b2,f⟩:=b4 he al ag;have:=a2.Cs;subst this;have:=b2.j6;subst this;obtain⟨g,z,d1,d2⟩:=aA b _ d;cases d2;have e:c0 N J (N+16) (cn J b (.set (iH ks s))):=mR (by omega) d (λp h=>by simp[cx.cV]at h);exact .store rfl e (.aX [] [] rfl (by simp)) λa _=>⟨p/\q,_,by simp[aL,a1,b1,d1],⟨a3 a,f a⟩,aA.put (by omega) e (.set _)⟩
   . cases h
 grind
theorem aaD{e bytes:Nat}(h:cj gl gd env J N (.appendB e bytes x y)=some (c,v,J')):dM N J J1 (.appendB e bytes x y) env1 (cz env G gd) c v J':=by
 simp[cj]at h;split at h
 . rename_i b s I ag;split at h
   . rename_i a l d;split at h
     . rename_i r;have:=cL r;subst this;cases h;obtain⟨p,v1,a1,a2,a3⟩:=b4 he al I;obtain⟨q,A,b1,b2,j⟩:=b4 he al ag;obtain⟨n,rfl,u,o⟩:=a2.xz;have:=o _ d _ rfl;cases this;have:=b2.j6;subst this;obtain⟨_,z,d1,d2⟩:=aA b _ d;cases d2;have k1:c0 N J N (dl J b):=qS;have k2:c0 N _ (N+16) (cn (dl J b) N (.buf a (uF l s))):=ju;have m:ck N (dl J b) (gU J1 b):=by
        intro i x I;rw[mY]at I;split at I
        . grind
        . rename_i w;obtain⟨h1,y,t,k⟩:=aA i x I;exact⟨h1,y,by rw[e4];grind,k.mono k1⟩
       refine .store rfl (k1.trans k2) (.c (.cr N (List.length l+List.length s) (by simp) λx I p ai=>?_)) λg f=>⟨p/\q/\a=a/\List.length l=List.length l/\jx _ _/\List.length l+List.length s<=c1,_,?_,⟨a3 g,j g,rfl,rfl,(zU f).1,(zU f).2⟩,m.put (by simp) k2 (.buf _ _)⟩
       . rw[gw,ad rfl]at I;cases I;simp[cx.cV]at ai;exact ai.symm.trans (dd _ Se)
       . simp only[aL,a1,b1,ay,d1];rfl
     grind
   grind
 grind
theorem abV(h:cj gl gd env J N (.sdata x)=some (c,v,J')):dM N J J1 (.sdata x) env1 (cz env G gd) c v J':=by
 simp[cj]at h;split at h
 . rename_i b I;cases h;obtain⟨p,v1,a1,a2,a3⟩:=b4 he al I;obtain⟨n,rfl,_,_⟩:=a2.xz;exact .neutral aA (.c (.ei _)) λa _=>⟨p,by simp[aL,a1],a3 a⟩
 grind
theorem adV{e:Nat}(h:cj gl gd env J N (.ustr e x y)=some (c,v,J')):dM N J J1 (.ustr e x y) env1 (cz env G gd) c v J':=by
 simp[cj]at h;split at h
 . rename_i b m I ag;split at h
   . rename_i a l k;split at h
     . rename_i o;have:=cL o;subst this;cases h;obtain⟨p,v1,a1,a2,a3⟩:=b4 he al I;obtain⟨q,s,b1,b2,g⟩:=b4 he al ag;have:=a2.Re;subst this;have:=b2.eT;subst this;obtain⟨_,z,d1,d2⟩:=aA b _ k;cases d2;have k1:c0 N J N (dl J b):=qS;have j:ck N (dl J b) (gU J1 b):=by
        intro f x I;rw[mY]at I;split at I
        . grind
        . obtain⟨h1,y,r,i⟩:=aA f x I;exact⟨h1,y,by simp_all[e4],i.mono k1⟩
       refine .store rfl (k1.trans (c0.more (by simp))) (.c (.t _)) λd n=>⟨p/\q/\a=a/\m=(List.length l:Int),_,?_,⟨a3 d,g d,rfl,abL.1 n⟩,j.mono (by simp)⟩
       simp only[aL,a1,b1,ay,d1];rfl
     grind
   grind
 grind
theorem aaE{e sz len:Nat}{z:List C}{parts:List (Nat×aO)}(h:cj gl gd env J N (.bsliceT e sz len z parts)=some (c,v,J')):dM N J J1 (.bsliceT e sz len z parts) env1 (cz env G gd) c v J':=by
 simp[cj]at h;split at h
 . grind
 . split at h
   . rename_i k i;split at h
     . grind
     . rename_i ts b;split at h
       . grind
       . rename_i a;have a:=cL a;split at h
         . rename_i rows g;split at h
           . rename_i l ae;cases h;have j:=nU (N:=N) (J:=J) i;obtain⟨p,es,a1,a2,a4,a3⟩:=HP he al g (aV.replicate (R:=λr e=>hq r=some e) b _) (by grind);have d:=vQ ae a2;refine .neutral aA (.c (.t _)) λf _=>⟨p,?_,a3 f⟩
             simp[aL,vz j b,ay,a1];rw[<-d];rfl
           grind
         grind
   grind
theorem Tl(h:cj gl gd env J N o=some (c,v,J')):dM N J J1 o env1 (cz env G gd) c v J':=by
 cases o with
 |mov x=>exact ahv he al aA h
 |pick c x y=>exact acw he al aA h
 |alloc cs=>exact abO he al aA h
 |box x=>exact ahq he al aA h
 |allocA cs=>exact aa4 he al aA h
 |idxP k x i=>exact adT he al aA h
 |idxV k x i=>exact adS he al aA h
 |mslice sz b z x=>exact aa3 he al aA h
 |slcP k x d a=>exact adU he al aA h
 |b2s x=>exact aho he al aA h
 |allocS e e8=>exact aa5 he al aA h
 |bsliceT e sz len z parts=>exact aaE he al aA h
 |mkset=>exact abS he al aA h
 |lkset x k=>exact abT he al aA h
 |upset x k=>exact abU he al aA h
 |appendB e b x y=>exact aaD he al aA h
 |sdata x=>exact abV he al aA h
 |ustr e x k=>exact adV he al aA h
 |build z parts=>exact abN he al aA h
 |bslice sz len z parts=>exact aa0 he al aA h
 |load agg n x=>exact adJ he al aA h
 |store n x v=>exact abP he al aA h
 |nilCheck x=>exact ZK he al aA h
 |bin op x y=>exact ahp he al aA h
 |eqAgg neg ks x y=>exact abM he al aA h
 |eqBool neg x y=>exact aaY he al aA h
 |eqNil neg x=>simp[cj]at h
 |not x=>exact ahw he al aA h
 |conv k x=>grind[adH]
 |i2s x=>grind[aht]
 |s2s x=>grind[ahx]
 |fldA off x=>grind[adI]
 |fld agg off n x=>grind[ahs]
 |idxA sz x i=>grind[adK]
 |idxS x i=>grind[adL]
 |slcS x d a=>grind[adM]
 |slc sz x d a=>grind[ahy]
 |slc0 x=>grind[adN]
 |mkfn f caps=>grind[adO]
 |ext x i=>grind[ahr]
 |len str x=>grind[ahu]
 |append sz bytes x y=>grind[aa2]
 |max2 x y=>grind[adP]
 |min2 x y=>grind[adQ]
 |call f args=>simp[cj]at h
 |h6 x args=>simp[cj]at h
end
end
end
section
open Go
variable {U:cF}
def bd.cb(b0:Nat)(c:Cell U.D):bd U->bd U
 |.arr b=>match Nat.beq b b0 with
  |true=>.t c
  |false=>.arr b
 |.cA b ty i o=>match Nat.beq b b0 with
  |true=>.dead
  |false=>.cA b ty i o
 |.pre b h=>match Nat.beq b b0 with
  |true=>.dead
  |false=>.pre b h
 |.dI b a len=>match Nat.beq b b0 with
  |true=>.dead
  |false=>.dI b a len
 |x=>x
def bA.cb(b0:Nat)(c:Cell U.D):bA U->bA U
 |.c x=>.c (x.cb b0 c)
 |.agg cs=>.agg (cs.map (bd.cb b0 c))
 |.aX vs=>.aX (go b0 c vs)
where go (b0:Nat) (c:Cell U.D):List (bA U)->List (bA U)
 |[]=>[]
 |v::vs=>v.cb b0 c::go b0 c vs
def cx.cb(b0:Nat)(c:Cell U.D):cx U->cx U
 |.box cs=>.box (cs.map (bd.cb b0 c))
 |.b3 E x=>.b3 E (x.cb b0 c)
 |.cw t l i o x=>.cw t l i o (x.cb b0 c)
 |x=>x
def rT(b0:Nat)(c:Cell U.D):bI U->bI U
 |[]=>[]
 |(k,v)::r=>(k,v.cb b0 c)::rT b0 c r
def nn(b0:Nat)(c:Cell U.D):a7 U->a7 U
 |[]=>[]
 |(k,x)::r=>match Nat.beq k b0 with
  |true=>nn b0 c r
  |false=>(k,x.cb b0 c)::nn b0 c r
def xh(b:Nat)(t:aD)(env:bI U)(J:a7 U):Option (bI U×a7 U):=
 match aS J b with
 |some (.arr a l)=>match Cell.as (.slice t) (⟨.slice a,l⟩:Cell U.D)with
  |some l=>some (rT b ⟨.slice t,l⟩ env,nn b ⟨.slice t,l⟩ J)
  |none=>none
 |some (.rows _ r)=>match mf U t r with
  |some l=>some (rT b ⟨.slice t,l⟩ env,nn b ⟨.slice t,l⟩ J)
  |none=>none
 |_=>some (env,J)
def j':List (Nat×aD)->bI U->a7 U->Option (bI U×a7 U)
 |[],env,J=>some (env,J)
 |(b,t)::r,env,J=>match xh b t env J with
  |some (env',J')=>j' r env' J'
  |none=>none
variable{b0 j:Nat}{c:Cell U.D}{es:List (List T)}{t:aD}{cs:List C}{R:Type}
section
variable {kk N:Nat}{J J':a7 U}{J1:a6}{env env':bI U}{env1:Env}{G:Nat->Bool}{gl:ek}
theorem Ew:∀{env:bI U} {k:Nat},aS (rT b0 c env) k=(aS env k).map (bA.cb b0 c)
 |[],k=>rfl
 |(i,v)::r,k=>by
  simp[rT,aS];cases Nat.beq i k with
  |true=>rfl
  |false=>exact Ew
theorem tu:∀{J:a7 U} {k:Nat},aS (nn b0 c J) k=if k=b0 then none else(aS J k).map (cx.cb b0 c)
 |[],k=>by simp[nn,aS]
 |(i,x)::r,k=>by
  simp[nn];cases h:Nat.beq i b0 with
  |true=>
   simp[tu,aS];grind[cL]
  |false=>
   simp[aS,tu];grind
theorem cx.Cm{x:cx U}:(x.cb b0 c).cV=x.cV:=by cases x<;>simp[cx.cb,cx.cV]
theorem b5.cb{b0 sz:Nat}{c:Cell U.D}{es:List (List T)}{v:cx U}(h0:aS J b0=some v)(A:v.cV=some (sz,es.length))(w:c.enc U= .slice es){x:bd U}{d:C}(h:b5 N J x d):
 b5 N (nn b0 c J) (x.cb b0 c) (d.cb b0 sz es):=by
 cases h with
 |t c=>exact .t c
 |ptr b o=>exact .ptr b o
 |cA b t i o=>
  simp only[bd.cb,C.cb];cases h:Nat.beq b b0 with
  |true=>exact .dead _
  |false=>rw[ao (hP h)];exact .cA b t i o
 |dF t x o=>exact .dF t x o
 |arr b j n a h=>
  simp only[bd.cb,C.cb];cases e:Nat.beq b b0 with
  |true=>
   have:=cL e;subst this;have:=h v h0 _ A;cases this;rw[ad rfl,ad ⟨rfl,by simp⟩];have:cut es 0 es.length=es:=(by simp[cut]);rw[this,<-w];exact .t c
  |false=>
   rw[ao (hP e)];refine .arr b j n a λy ag p ai=>?_;rw[tu]at ag;grind[bn,cx.Cm]
 |sub b q len=>exact .sub b q len
 |pre b j n a h=>
  simp only[bd.cb];cases e:Nat.beq b b0 with
  |true=>exact .dead _
  |false=>
   simp only[C.cb];rw[ao (hP e)];refine .pre b j n a λy ag p ai=>?_;rw[tu,ao (hP e)]at ag;grind[bn,cx.Cm]
 |dI b j q len a h=>
  simp only[bd.cb];cases e:Nat.beq b b0 with
  |true=>exact .dead _
  |false=>
   refine .dI b j q len a λy ag p ai=>?_;rw[tu,ao (hP e)]at ag;grind[bn,cx.Cm]
 |mp b=>exact .mp b
 |ei b=>exact .ei b
 |cr b n a h=>
  refine .cr b n a λy ag p ai=>?_;grind[tu,bn,cx.Cm]
 |bD=>exact .bD
 |eQ=>exact .eQ
 |eP=>exact .eP
 |fn f caps=>exact .fn f caps
 |dead d=>exact .dead _
theorem Sh:∀{vs:List (bA U)} {i:Nat},(bA.cb.go b0 c vs)[i]?=(vs[i]?).map (bA.cb b0 c)
 |[],i=>by rfl
 |v::vs,0=>by rfl
 |v::vs,i+1=>by simp[bA.cb.go,Sh]
theorem Rt:∀{vs:List (bA U)},(bA.cb.go b0 c vs).length=vs.length
 |[]=>rfl
 |v::vs=>by simp[bA.cb.go,Rt]
theorem bL.cb{sz:Nat}{f:cx U}(h0:aS J b0=some f)(e:f.cV=some (sz,es.length))(a:c.enc U= .slice es){x:bA U}{d:V}(h:bL N J x d):
 bL N (nn b0 c J) (x.cb b0 c) (d.cb b0 sz es):=by
 induction h with
 |c h=>exact .c (h.cb h0 e a)
 |agg h=>exact .agg (aV.map_map (h.imp λ_ _ _ ab=>ab.cb h0 e a))
 |aX xs j ae h ih=>
  refine .aX _ _ (by grind[Rt,HA]) ?_;grind[Sh,Iq]
theorem N0{sz:Nat}{n:cx U}(h0:aS J b0=some n)(f:n.cV=some (sz,es.length))(e:c.enc U= .slice es)(hs:aR J1 b0=some (.arr sz es))(he:cP N J G env env1)(aA:ck N J J1):
 Conv kk N env1 J1 N (qZ b0 sz es env1) (mW b0 sz es J1)/\cP N (nn b0 c J) G (rT b0 c env) (qZ b0 sz es env1)/\ck N (nn b0 c J) (mW b0 sz es J1):=by
 refine⟨Conv.freeze b0 hs,λk v m=>?_,λb x I=>?_⟩
 . rw[Ew,bn]at m;obtain⟨v0,h1,rfl⟩:=m;obtain⟨d,g,j⟩:=he k v0 h1;exact⟨_,by grind[yx],j.cb h0 f e⟩
 . rw[tu]at I;split at I
   . grind
   . simp only[bn]at I;obtain⟨p,h1,rfl⟩:=I;obtain⟨g,y,j,a⟩:=aA b p h1;refine⟨g,y.cb b0 sz es,by simp_all[Ef,ao],?_⟩;cases a with
     |box a=>exact .box (aV.map_map (a.imp λ_ _ _ ab=>ab.cb h0 f e))
     |arr t l=>exact .arr t l
     |set ks=>exact .set ks
     |buf E s=>exact .buf E s
     |b3 a=>exact .b3 (a.cb h0 f e)
     |cw t l i o a=>exact .cw t l i o (a.cb h0 f e)
     |rows a bj=>exact .rows a bj
theorem gC.cb(h:gC gl env G):gC gl (rT b0 c env) G:=by
 refine⟨h.free,λk t b e=>?_⟩;obtain⟨y,h1,a⟩:=h.held k t b e;refine⟨y,?_,a⟩;unfold eY at h1⊢;rw[Ew];split at h1
 . rename_i x I;rw[I];exact h1
 grind
theorem abW{α a:Type}{f:α->a}{l:List α}{sz:Nat}:some (sz,l.length)=some (sz,(l.map f).length):=by simp
theorem Tm{b:Nat}(h:xh b t env J=some (env',J'))(he:cP N J G env env1)(aA:ck N J J1):
 ∃f bh,Conv kk N env1 J1 N f bh/\cP N J' G env' f/\ck N J' bh/\(gC gl env G->gC gl env' G):=by
 unfold xh at h;split at h
 . rename_i k j ae;split at h
   . rename_i l d;have e:=Cell.jR d;cases e;cases h;obtain⟨_,y,h1,a⟩:=aA b _ ae;cases a;obtain⟨k1,k2,k3⟩:=N0 (c:=⟨.slice t,l⟩) ae abW rfl h1 he aA;exact⟨_,_,k1,k2,k3,λal=>al.cb⟩
   grind
 . rename_i sz r ae;split at h
   . rename_i l d;cases h;obtain⟨_,y,h1,a⟩:=aA b _ ae;cases a with
     | @rows _ _ es a i=>
      have g:=vQ d a;obtain⟨k1,k2,k3⟩:=N0 (c:=⟨.slice t,l⟩) ae (by simp[cx.cV];rw[a.length]) (by rw[<-g];rfl) h1 he aA;exact⟨_,_,k1,k2,k3,λal=>al.cb⟩
   grind
 grind[Conv.refl]
theorem vA:∀{l:List (Nat×aD)} {env env':bI U} {J J':a7 U} {env1:Env} {J1:a6},j' l env J=some (env',J')->cP N J G env env1->ck N J J1->
 ∃a bh,Conv kk N env1 J1 N a bh/\cP N J' G env' a/\ck N J' bh/\(gC gl env G->gC gl env' G)
 |[],env,env',J,J',env1,J1,h,he,aA=>by grind[j',Conv.refl]
 |(b,t)::r,env,env',J,J',env1,J1,h,he,aA=>by
  simp[j']at h;split at h
  . rename_i e s h1;obtain⟨aC,s1,k1,k2,k3,k4⟩:=Tm h1 he aA;obtain⟨c,j,d,f,g,i⟩:=vA h k2 k3;exact⟨c,j,k1.trans d,f,g,λal=>i (k4 al)⟩
  grind
theorem Conv.close{b sz i o:Nat}{t:T}(c:aR J1 b=some (.cw sz es i o (.t t))):
 Conv kk N env1 J1 N env1 (cW J1 b (.arr sz (es.set i ((el es i).take o++[t]++(el es i).drop (o+1))))):=by
 intro av nt φ S a w K R;obtain⟨⟨a1,a2,a3,a4,a5,H⟩,⟨vs,E,k1,k2,k3,v,k4,k5⟩,k6⟩:=R.bB.blk _ _ c;have A:es[i]?=some (el es i):=by unfold el;rw[List.getD,eC a5];rfl
 have I:=a3 _ (eN A);refine⟨φ,S,R.put (R.dp _ _ c).1 rfl ⟨by simpa using a1,by simpa using a2,λe he=>?_,a4,λ_=>⟨vs,E,k1,k2,λF j e G he ht=>?_,k6⟩⟩ λh0=>⟨λk y ag D x=>R.bB.inj k b y _ ag c D x h0,R.own b _ c h0⟩⟩
 . grind
 . rw[CC]at he;by_cases B:i=F
   . subst B;rw[ad rfl,ad a5]at he;cases he;have f:=(nX (vs:=el es i) (off:=o) (xs:=[t]) (by simp;omega) j)
     unfold iO at f;rw[show o+[t].length=o+1 from rfl]at f;rw[f]at ht;by_cases q:j=o
     . subst q;rw[a',eF,Nat.sub_self]at ht;cases ht;exact⟨v,k4,k5⟩
     . have J:(el es i)[j]?=some G:=by
        by_cases p:j<o
        . rwa [ad p]at ht
        . rwa [ao p,a']at ht
       grind
   grind
def Ex(b:Nat)(env:bI U)(J:a7 U):Option (bI U×a7 U):=
 match aS J b with
 |some (.cw t l i o (.t c))=>match Nat.ble (o+1) (t.sz U)with
  |true=>match rU U t l i o [.t c]with
   |some a=>some (env,cn J b (.arr t a))
   |none=>none
  |false=>none
 |_=>none
def N1(b:Nat)(env:bI U)(J:a7 U):Option (bI U×a7 U):=
 match aS J b with
 |some (.cw t l i o (.arr b2))=>match (t.row U (t.at U l i))[o]? with
  |some ⟨.slice te,_⟩=>match xh b2 te env J with
   |some (env',J')=>Ex b env' J'
   |none=>none
  |_=>none
 |_=>Ex b env J
def LX:a7 U->Option Nat
 |[]=>none
 |(b,.cw ..)::_=>some b
 |_::r=>LX r
def JY(env:bI U)(J:a7 U):Option (bI U×a7 U):=
 match LX J with
 |none=>some (env,J)
 |some b=>N1 b env J
theorem SM{b:Nat}(h:Ex b env J=some (env',J'))(he:cP N J G env env1)(aA:ck N J J1):
 ∃e bh,Conv kk N env1 J1 N e bh/\cP N J' G env' e/\ck N J' bh:=by
 unfold Ex at h;split at h
 . rename_i t l i o c ae;split at h
   . split at h
     . rename_i l2 k;cases h;obtain⟨g,y,h1,d⟩:=aA b _ ae;cases d with
       |cw _ _ _ _ d=>
        cases d;have q:l2.length=List.length l:=by
         grind[rU]
        have f:c0 N J N (cn J b (.arr t l2)):=mR (eB _) ae (λp h=>by
         grind[cx.cV])
        refine⟨env1,cW _ b _,?_,he.mono f,aA.put g f (.arr t l2)⟩;by_cases j:i<List.length l
        . obtain⟨ts,aC,m⟩:=Iu (N:=N) (J:=J) k j (.cons (.t c) .nil) (by simp_all);have:ts=[c.enc U]:=(by grind[toTs,toT]);have:=Conv.close (kk:=kk) (N:=N) (env1:=env1) h1;grind
        . intro av nt φ S a w n R;obtain⟨⟨_,_,_,_,a5,_⟩,_⟩:=R.bB.blk _ _ h1;grind
     grind
   grind
 grind
theorem XM(h:JY env J=some (env',J'))(he:cP N J G env env1)(aA:ck N J J1):
 ∃a bh,Conv kk N env1 J1 N a bh/\cP N J' G env' a/\ck N J' bh:=by
 unfold JY at h;split at h
 . grind[Conv.refl]
 . unfold N1 at h;split at h
   . split at h
     . split at h
       . rename_i e s h1;obtain⟨aC,s1,k1,k2,k3,_⟩:=Tm (gl:=[]) h1 he aA;obtain⟨b,g,c,d,f⟩:=SM h k2 k3;exact⟨b,g,k1.trans c,d,f⟩
       grind
     grind
   . exact SM h he aA
theorem Conv.own{k:Nat}{g:Bool}{sz:Nat}(p:look env1 k=some (g,.c .bD))(q:0<sz)(y:kk<=N):Conv kk N env1 J1 (N+1) ((k,g,.c (.arr N sz 0 0))::env1) (cW J1 N (.arr sz [])):=by
 intro av nt φ S a w t R;have f:=R.Gw q (by omega);have cp:dZ φ N (0,0) N=(0,0):=by simp[dZ]
 refine⟨dZ φ N _,S,⟨f.bB,λi j v ae al=>?_,λi j v ae al=>?_,λi j v ae al=>?_,f.dp,f.size,f.defers,f.ext,f.own,f.fix,f.gb⟩⟩
 . simp[look]at ae;split at ae
   . rename_i e;cases ae;subst e;obtain⟨x,I,o⟩:=f.fP _ _ _ p al;refine⟨x,I,?_⟩;cases o with
     |c o=>
      obtain⟨a,rfl⟩:=o;refine .c ⟨a,by grind,λh=>absurd (by grind) h,by simp⟩
   . exact f.fP i j v ae al
 . simp[look]at ae;split at ae
   . rename_i e;cases ae;subst e;exact f.gN _ _ _ p al
   . exact f.gN i j v ae al
 . simp only[look]at ae;split at ae
   . grind[V.az,C.az,lt]
   . exact f.fO i j v ae al
theorem Conv.ago{b:Nat}{sz:Nat}(M:aR J1 b=some (.box cs))(F:cs[j]?=some .bD)(O:b<N)(J:0<sz)(Q:kk<=N):
 Conv kk N env1 J1 (N+1) env1 (cW (cW J1 N (.arr sz [])) b (.box (cs.set j (.arr N sz 0 0)))):=by
 intro av nt φ S a w P R;have e:=R.Gw J (by omega);have cp:dZ φ N (0,0) N=(0,0):=by simp[dZ]
 have A:aR (cW J1 N (.arr sz [])) b=some (.box cs):=by rw[cS];grind
 have B:∀c x,aR (cW (cW J1 N (.arr sz [])) b (.box (cs.set j (.arr N sz 0 0)))) c=some x->(c=b/\x= .box (cs.set j (.arr N sz 0 0)))\/aR (cW J1 N (.arr sz [])) c=some x:=by
  grind[cS]
 have f:∀c x,aR (cW (cW J1 N (.arr sz [])) b (.box (cs.set j (.arr N sz 0 0)))) c=some x->∃y,aR (cW J1 N (.arr sz [])) c=some y:=by grind
 refine⟨dZ φ N _,S,⟨⟨λc x I=>?_,λc q x y I ag G=>?_,e.bB.st⟩,e.fP,e.gN,e.fO,λc x I=>?_,e.size,e.defers,e.ext,λc x I=>?_,e.fix,e.gb⟩⟩
 . rcases B c x I with⟨rfl,rfl⟩|h
   . obtain⟨h0,vs,E,h1,t,D⟩:=e.bB.blk _ _ A;refine⟨h0,vs,E,h1,?_,D⟩;obtain⟨v,W,H⟩:=t.get F;obtain⟨a,rfl⟩:=H;have:=aV.set (i:=j) t (a:= .arr N sz 0 0) (b:= .slice a 0 0) ⟨a,by grind,λh=>absurd (by grind) h,by simp⟩;have U:vs.set j (.slice a 0 0)=vs:=by
      apply wP;grind
     grind
   . exact e.bB.blk c x h
 . obtain⟨p,o⟩:=f c x I;obtain⟨L,K⟩:=f q y ag;exact e.bB.inj c q p L o K G
 . rcases B c x I with⟨rfl,rfl⟩|h
   . have:=(e.dp _ _ A).2;grind[bJ.az,List.mem_or_eq_of_mem_set,C.az,lt]
   . exact e.dp c x h
 . obtain⟨p,o⟩:=f c x I;exact e.own c p o
theorem Conv.trim{q b:Nat}{sz h:Nat}(Q:aR J1 q=some (.box cs))(W:cs[j]?=some (.arr b sz 0 h))(M:aR J1 b=some (.arr sz es))(ab:h<=es.length)(aE:q<N):
 Conv kk N env1 J1 (N+1) env1 (cW (cW (gU J1 b) N (.arr sz (es.take h))) q (.box (cs.set j (.arr N sz 0 h)))):=by
 intro av nt φ S a w ap R;have an:b<N:=by have:=(R.dp _ _ M).1;grind[lt]
 have U:∀c,lt N c=true->dZ φ N (φ b) c=φ c:=by
  intro c p;simp only[lt,e9]at p;grind[dZ]
 have B:∀c,lt N c=true->lt (N+1) c=true:=λc p=>Ev (by omega) p;have f:=R.tT U;have cp:dZ φ N (φ b) N=φ b:=by simp[dZ]
 have O:=U b (by grind[lt]);have P:∀c x,aR (cW (cW (gU J1 b) N (.arr sz (es.take h))) q (.box (cs.set j (.arr N sz 0 h)))) c=some x->(c=q/\x= .box (cs.set j (.arr N sz 0 h)))\/(c≠q/\c=N/\x= .arr sz (es.take h))\/(c≠q/\c≠N/\c≠b/\aR J1 c=some x):=by
  grind[cS,e4]
 have G:∀c x,aR (cW (cW (gU J1 b) N (.arr sz (es.take h))) q (.box (cs.set j (.arr N sz 0 h)))) c=some x->∃t y,aR J1 t=some y/\dZ φ N (φ b) c=dZ φ N (φ b) t/\(t=if c=N then b else c):=by grind
 refine⟨dZ φ N (φ b),S,⟨⟨λc x I=>?_,λc t x y I ag ax=>?_,f.bB.st⟩,f.fP,f.gN,λk g v ae al=>V.hh B (f.fO k g v ae al),λc x I=>?_,f.size,f.defers,f.ext,λc x I h0=>?_,f.fix,λc p=>by have:=f.gb c p;exact B c this⟩⟩
 . rcases P c x I with⟨rfl,rfl⟩|⟨_,rfl,rfl⟩|⟨_,_,_,o⟩
   . obtain⟨h0,vs,E,h1,A,F⟩:=f.bB.blk _ _ Q;refine⟨h0,vs,E,h1,?_,F⟩;obtain⟨v,aZ,X⟩:=A.get W;have Y:bk (dZ φ N (φ b)) w S (.arr N sz 0 h) v:=by
      obtain⟨a,aC,D,dw⟩:=X;rw[O]at aC D dw;exact⟨a,by rw[cp];exact aC,by rw[cp];exact D,by rw[cp];exact dw⟩
     have:=aV.set (i:=j) A Y;have aF:vs.set j v=vs:=by
      apply wP;grind
     grind
   . obtain⟨h0,h1,A,F,o⟩:=f.bB.blk _ _ M;rw[O]at h0 o;refine⟨by rw[cp,ry];omega,by rw[ry];omega,λe he=>A e (wL he),F,λp=>?_⟩;grind
   . exact f.bB.blk c x o
 . obtain⟨d,J,H,aC,D⟩:=G c x I;obtain⟨K,am,Z,dw,h8⟩:=G t y ag;have bV:d≠K:=(by grind);intro h0 L;rw[aC]at h0⊢;rw[dw]at L⊢;exact f.bB.inj d K J am H Z bV h0 L
 . rcases P c x I with⟨rfl,rfl⟩|⟨_,rfl,rfl⟩|⟨_,_,_,o⟩
   . have:=(f.dp _ _ Q).2;grind[bJ.az,List.all_eq_true,List.mem_or_eq_of_mem_set,C.hh,C.az,lt]
   . exact⟨by simp[lt],rfl⟩
   . exact⟨B c (f.dp c x o).1,bJ.hh B (f.dp c x o).2⟩
 . obtain⟨d,J,H,aC,_⟩:=G c x I;rw[aC]at h0⊢;exact f.own d J H h0
def vR:Nat->List (bd U)->Option (Nat×Nat×Nat)
 |_,[]=>none
 |j,.pre b h::_=>some (j,b,h)
 |j,_::r=>vR (j+1) r
def qT(J:a7 U):a7 U->Option (Nat×List (bd U)×Nat×Nat×Nat)
 |[]=>none
 |(q,.box cs)::r=>match aS J q with
  |some (.box a)=>match vR 0 a with
   |some p=>some (q,a,p)
   |none=>qT J r
  |_=>qT J r
 |_::r=>qT J r
theorem Si:∀{cs:List (bd U)} {j i b h:Nat},vR j cs=some (i,b,h)->j<=i/\cs[i-j]?=some (.pre b h)
 |[],j,i,b,h,a=>by grind[vR]
 |c::r,j,i,b,h,a=>by
  have next:vR (j+1) r=some (i,b,h)->j<=i/\(c::r)[i-j]?=some (.pre b h):=by
   intro a;obtain⟨h1,f⟩:=Si a;grind
  cases c with
  |pre d e=>grind[vR,Option.some.injEq]
  |_=>exact next a
theorem D0{q:Nat}{cs:List (bd U)}{i b h:Nat}:∀{l:a7 U},qT J l=some (q,cs,i,b,h)->aS J q=some (.box cs)/\cs[i]?=some (.pre b h)
 |[],a=>by simp[qT]at a
 |(k,x)::r,a=>by
  cases x with
  |box d=>
   simp[qT]at a;split at a
   . rename_i e c;split at a
     . rename_i p ai;obtain⟨rfl,rfl,rfl⟩:=a;exact⟨c,by simpa using(Si ai).2⟩
     . exact D0 a
   . exact D0 a
  |_=>exact D0 (by simpa[qT]using a)
def Fo{R:Type}(J:a7 U)(N:Nat)(k:a7 U->Nat->Option R):Option R:=
 match qT J J with
 |none=>k J N
 |some (q,cs,j,b,h)=>match aS J b with
  |some (.arr t l)=>if (h<=l.length:Bool) then k (cn (cn (dl J b) N (.arr t (l.take h))) q (.box (cs.set j (.arr N)))) (N+1)else none
  |_=>none
theorem TN{q b h0:Nat}{cs:List (bd U)}{x:bd U}{l:List (t.den U.D)}(s:aS J q=some (.box cs))(r:cs[j]?=some x)(k:aS J b=some (.arr t l))(I:∀d,b5 N J x d->d= .arr b (t.sz U) 0 h0)(E:h0<=l.length)
 (he:cP N J G env env1)(aA:ck N J J1):
 ∃bh,Conv kk N env1 J1 (N+1) env1 bh/\cP (N+1) (cn (cn (dl J b) N (.arr t (l.take h0))) q (.box (cs.set j (.arr N)))) G env env1/\ck (N+1) (cn (cn (dl J b) N (.arr t (l.take h0))) q (.box (cs.set j (.arr N)))) bh:=by
 obtain⟨w,H,v,a⟩:=aA q _ s;obtain⟨C,F,m,n⟩:=aA b _ k;cases n;cases a with
 | @box _ B a=>
  obtain⟨d,o,A⟩:=a.get r;have:=I d A;subst this;have z:q≠b:=by grind
  have k1:c0 N J N (dl J b):=qS;have k2:c0 N (dl J b) (N+1) (cn (dl J b) N (.arr t (l.take h0))):=ju;have u:aS (cn (dl J b) N (.arr t (l.take h0))) q=some (.box cs):=by rw[gw,a',mY,ao (λe=>z e.symm)];grind
  have k3:c0 (N+1) (cn (dl J b) N (.arr t (l.take h0))) (N+1) (cn (cn (dl J b) N (.arr t (l.take h0))) q (.box (cs.set j (.arr N)))):=mR (eB _) u (λp h=>by grind[cx.cV]);have f:=(k1.trans k2).trans k3;have i:ck N (dl J b) (gU J1 b):=by
   intro c x I;rw[mY]at I;split at I
   . grind
   . obtain⟨g1,y,g2,g3⟩:=aA c x I;exact⟨g1,y,by simp_all[e4,ao],g3.mono k1⟩
  refine⟨_,Conv.trim v o m (by grind) w,he.mono f,?_⟩;rw[<-List.map_take];refine(i.put (by simp) k2 (.arr t (l.take h0))).put (by omega) k3 (.box ?_);refine aV.set (a.imp λ_ _ _ g=>g.mono f) (.arr N _ _ (by simp) λx I p ai=>?_);rw[gw,gw,ad rfl]at I;grind[cx.cV,Option.some.injEq,List.length_take,Nat.min_eq_left]
theorem TW{k:a7 U->Nat->Option R}{r:R}(h:Fo J N k=some r)(he:cP N J (λ_=>true) env env1)(aA:ck N J J1):
 ∃J' N' bh,k J' N'=some r/\Conv kk N env1 J1 N' env1 bh/\cP N' J' (λ_=>true) env env1/\ck N' J' bh/\N<=N':=by
 unfold Fo at h;split at h
 . exact⟨J,N,J1,h,Conv.refl,he,aA,eB _⟩
 . rename_i q cs j b h0 e;obtain⟨g,f⟩:=D0 e;split at h
   . rename_i t l a;split at h
     . obtain⟨s1,m,n,o⟩:=TN (kk:=kk) (h0:=h0) g f a (λd i=>by
        cases i with
        |pre _ sz _ _ c=>
         have c:=c _ a _ rfl
         grind) (by grind) he aA
       grind
     grind
   grind
def tv(kk:Nat):Nat->List (bd U)->Option (Nat×Nat)
 |_,[]=>none
 |j,.arr b::r=>match Nat.ble (b+1) kk with
  |true=>some (j,b)
  |false=>tv kk (j+1) r
 |j,_::r=>tv kk (j+1) r
def qU(kk:Nat)(J:a7 U):a7 U->Option (Nat×List (bd U)×Nat×Nat)
 |[]=>none
 |(q,.box _)::r=>match aS J q with
  |some (.box cs)=>match tv kk 0 cs with
   |some p=>some (q,cs,p)
   |none=>qU kk J r
  |_=>qU kk J r
 |_::r=>qU kk J r
theorem TX:∀{cs:List (bd U)} {j i b:Nat},tv kk j cs=some (i,b)->j<=i/\cs[i-j]?=some (.arr b)
 |[],j,i,b,a=>by grind[tv]
 |c::r,j,i,b,a=>by
  have next:tv kk (j+1) r=some (i,b)->j<=i/\(c::r)[i-j]?=some (.arr b):=by
   intro a;obtain⟨h1,e⟩:=TX a;grind
  cases c with
  |arr d=>
   grind[tv]
  |_=>exact next a
theorem D1{kk q:Nat}{cs:List (bd U)}{i b:Nat}:∀{l:a7 U},qU kk J l=some (q,cs,i,b)->aS J q=some (.box cs)/\cs[i]?=some (.arr b)
 |[],a=>by grind[qU]
 |(k,x)::r,a=>by
  cases x with
  |box d=>
   simp only[qU]at a;split at a
   . rename_i e c;split at a
     . rename_i p ai;obtain⟨rfl,rfl,rfl⟩:=a;exact⟨c,by simpa using(TX ai).2⟩
     . exact D1 a
   . exact D1 a
  |_=>exact D1 (by simpa[qU]using a)
def Fi{R:Type}(kk:Nat)(J:a7 U)(k:a7 U->Nat->Option R):Option R:=
 match qU kk J J with
 |none=>k J kk
 |some (q,cs,j,b)=>match aS J b with
  |some (.arr t l)=>k (cn (cn (dl J b) kk (.arr t l)) q (.box (cs.set j (.arr kk)))) (kk+1)
  |_=>k J kk
theorem YN{k:a7 U->Nat->Option R}{r:R}(h:Fi kk J k=some r)(he:cP kk J (λ_=>true) env env1)(aA:ck kk J J1):
 ∃J' N' bh,k J' N'=some r/\Conv kk kk env1 J1 N' env1 bh/\cP N' J' (λ_=>true) env env1/\ck N' J' bh/\kk<=N':=by
 unfold Fi at h;split at h
 . exact⟨J,kk,J1,h,Conv.refl,he,aA,eB _⟩
 . rename_i q cs j b e;obtain⟨g,f⟩:=D1 e;split at h
   . rename_i t l a
     obtain⟨s1,m,o,p⟩:=TN (kk:=kk) g f a (λd i=>by
      cases i with
      |arr _ sz n _ c=>
       have c:=c _ a _ rfl
       grind) (eB _) he aA
     grind
   . exact⟨J,kk,J1,h,Conv.refl,he,aA,eB _⟩
inductive Pos where
 |slot (k:Nat)
 |cell (b j:Nat)
 |via (k j:Nat)
def Ay(b j:Nat)(t:aD)(env:bI U)(J:a7 U)(N:Nat):Option (bI U×a7 U):=
 match aS J b with
 |some (.box cs)=>match cs[j]? with
  |some .bD=>some (env,cn (cn J N (.arr t [])) b (.box (cs.set j (.arr N))))
  |_=>some (env,J)
 |_=>none
def Kz(p:Pos)(t:aD)(env:bI U)(J:a7 U)(N:Nat):Option (bI U×a7 U):=
 match p with
 |.slot k=>match aS env k with
  |some (.c .bD)=>some ((k,.c (.arr N))::env,cn J N (.arr t []))
  |_=>some (env,J)
 |.cell b j=>Ay b j t env J N
 |.via k j=>match aS env k with
  |some (.c (.ptr b _))=>Ay b j t env J N
  |_=>none
def Fj:List (Pos×aD)->bI U->a7 U->Nat->Option (bI U×a7 U×Nat)
 |[],env,J,N=>some (env,J,N)
 |(p,t)::r,env,J,N=>match Kz p t env J N with
  |some (env',J')=>Fj r env' J' (N+1)
  |none=>none
theorem K5{t:aD}(he:cP N J (λ_=>true) env env1)(aA:ck N J J1)(g:kk<=N):∃c bh,Conv kk N env1 J1 (N+1) c bh/\cP (N+1) J (λ_=>true) env c/\ck (N+1) J bh:=by
 refine⟨env1,cW _ N (.arr 1 []),λav nt φ S a w f R=>⟨_,S,R.Gw (by simp) (by omega)⟩,he.mono (c0.more (by simp)),λb x I=>?_⟩;obtain⟨h1,y,e,d⟩:=aA b x I;exact⟨by omega,y,by grind[cS],d.mono (c0.more (by simp))⟩
theorem IT{b:Nat}(h:Ay b j t env J N=some (env',J'))(he:cP N J (λ_=>true) env env1)(aA:ck N J J1)(g:kk<=N):
 ∃f bh,Conv kk N env1 J1 (N+1) f bh/\cP (N+1) J' (λ_=>true) env' f/\ck (N+1) J' bh:=by
 have same:=K5 (t:=t) he aA g;unfold Ay at h;split at h
 . rename_i cs k;split at h
   . rename_i n;cases h;obtain⟨i,y,h1,a⟩:=aA b _ k;cases a with
     | @box _ q a=>
      obtain⟨d,m,o⟩:=a.get n;cases o;have c:c0 N J (N+1) (cn J N (.arr t [])):=ju;have l:aS (cn J N (.arr t [])) b=some (.box cs):=by rw[gw];grind
      have e:c0 (N+1) _ (N+1) (cn _ b (.box (cs.set j (.arr N)))):=mR (eB _) l (λp h=>by grind[cx.cV]);refine⟨_,_,Conv.ago h1 m i (aD.rI (t:=t) (U:=U)) g,(he.mono c).mono e,(aA.put (by simp) c (.arr t [])).put (by omega) e (.box ?_)⟩;refine aV.set (a.imp λ_ _ _ h=>(h.mono c).mono e) (.arr N _ _ (by simp) λx I p ai=>?_);rw[gw,gw]at I;grind[cx.cV]
   grind
 grind
theorem YO{p:Pos}(h:Kz p t env J N=some (env',J'))(he:cP N J (λ_=>true) env env1)(aA:ck N J J1)(e:kk<=N):
 ∃d bh,Conv kk N env1 J1 (N+1) d bh/\cP (N+1) J' (λ_=>true) env' d/\ck (N+1) J' bh:=by
 have same:=K5 (t:=t) he aA e;unfold Kz at h;split at h
 . rename_i k;split at h
   . rename_i j;cases h;obtain⟨v1,h1,g⟩:=he k _ j;have:=g.uE;subst this;have f:c0 N J (N+1) (cn J N (.arr t [])):=ju;refine⟨_,_,Conv.own h1 (aD.rI (t:=t) (U:=U)) e,λi v a=>?_,aA.put (by simp) f (.arr t [])⟩;simp only[aS]at a;simp only[look];split at a
     . rename_i b;cases a;rw[ad (cL b)];refine⟨_,rfl,.c (.arr N _ _ (by simp) λx I p ai=>?_)⟩;rw[gw,ad rfl]at I;grind[cx.cV]
     . rename_i b;rw[ao (hP b)];exact(he.mono f) i v a
   grind
 . grind[IT]
 grind[IT]
def JZ:List (bd U)->List Bool->Bool
 |[],[]=>true
 |.t _::cs,false::bs=>JZ cs bs
 |.bD::cs,true::bs=>JZ cs bs
 |_,_=>false
def Qu(cs:List (bd U)):List (List Bool×Nat×aD)->Option (Nat×aD)
 |[]=>none
 |(bs,p)::r=>match JZ cs bs with
  |true=>some p
  |false=>Qu cs r
def Kh(l:List (List Bool×Nat×aD)):a7 U->Option (Nat×Nat×aD)
 |[]=>none
 |(q,.box cs)::r=>match Qu cs l with
  |some p=>some (q,p)
  |none=>Kh l r
 |_::r=>Kh l r
def Fl{R:Type}(env:bI U)(J:a7 U)(N:Nat)(k:bI U->a7 U->Nat->Option R):Option R:=
 match Kh U.own J with
 |none=>Fo J N λJ N=>k env J N
 |some (q,j,t)=>match Ay q j t env J N with
  |some (env,J)=>Fo J (N+1) λJ N=>k env J N
  |none=>none
theorem TY{k:bI U->a7 U->Nat->Option R}{r:R}(h:Fl env J N k=some r)(he:cP N J (λ_=>true) env env1)(aA:ck N J J1)(i:kk<=N):
 ∃env' J' N' a bh,k env' J' N'=some r/\Conv kk N env1 J1 N' a bh/\cP N' J' (λ_=>true) env' a/\ck N' J' bh/\N<=N':=by
 unfold Fl at h;split at h
 . obtain⟨m,c,l,g1,g2,g3,g4,b⟩:=TW h he aA;exact⟨_,_,_,_,_,g1,g2,g3,g4,b⟩
 . split at h
   . rename_i e s j;obtain⟨aC,s1,d,f,g⟩:=IT j he aA i;obtain⟨m,c,l,g1,g2,g3,g4,b⟩:=TW h f g;exact⟨_,_,_,_,_,g1,d.trans g2,g3,g4,by omega⟩
   grind
theorem TO:∀{l:List (Pos×aD)} {env env':bI U} {J J':a7 U} {N N':Nat} {env1:Env} {J1:a6},Fj l env J N=some (env',J',N')->cP N J (λ_=>true) env env1->ck N J J1->kk<=N->
 ∃a bh,Conv kk N env1 J1 N' a bh/\cP N' J' (λ_=>true) env' a/\ck N' J' bh/\N<=N'
 |[],env,env',J,J',N,N',env1,J1,h,he,aA,b=>by obtain⟨rfl,rfl,rfl⟩:=h;exact⟨env1,J1,Conv.refl,he,aA,eB _⟩
 |(p,t)::r,env,env',J,J',N,N',env1,J1,h,he,aA,b=>by
  simp[Fj]at h;split at h
  . rename_i e s h1;obtain⟨aC,s1,k1,k2,k3⟩:=YO h1 he aA b;obtain⟨c,i,d,f,g,j⟩:=TO h k2 k3 (by omega);exact⟨c,i,k1.trans d,f,g,by omega⟩
  grind
end
end
section
open Go
variable {U:cF}
inductive fK where
 |hole (ty:aD)
 |ptr (b o:Nat)
 |cA (b:Nat)(ty:aD)(o:Nat)
 |dF (ty:aD)(o:Nat)
 |arr (b:Nat)
 |mp (b:Nat)
 |cr (b:Nat)
 |bD
 |eQ
 |eP
 |fn (f:Nat)(caps:aY)
 |dead
inductive du where
 |c (s:fK)
 |agg (l:List fK)
 |row (n:Nat)
 |aX (l:List du)
inductive dh where
 |box (l:List fK)
 |arr (ty:aD)
 |bb (n:Nat)
 |gone
 |set
 |buf (E:Nat)
 |b3 (E:Nat)(s:fK)
structure Shape where
 env:List (Nat×du)
 st:List dh
abbrev ep(U:cF):=List (Cell U.D)
def u2:fK->ep U->bd U×ep U
 |.hole _,c::r=>(.t c,r)
 |.hole _,[]=>(.dead,[])
 |.ptr b o,r=>(.ptr b o,r)
 |.cA b ty o,⟨.int _,n⟩::r=>(.cA b ty (Int.toNat n) o,r)
 |.cA _ _ _,r=>(.dead,r)
 |.dF _ o,c::r=>(.dF c.ty c.val o,r)
 |.dF _ _,[]=>(.dead,[])
 |.arr b,r=>(.arr b,r)
 |.mp b,r=>(.mp b,r)
 |.cr b,r=>(.cr b,r)
 |.bD,r=>(.bD,r)
 |.eQ,r=>(.eQ,r)
 |.eP,r=>(.eP,r)
 |.fn f caps,r=>(.fn f caps,r)
 |.dead,r=>(.dead,r)
def qh:List fK->ep U->List (bd U)×ep U
 |[],r=>([],r)
 |s::ss,r=>match u2 s r with
  |(x,a)=>match qh ss a with
   |(xs,b)=>(x::xs,b)
mutual
def l0:du->ep U->bA U×ep U
 |.c s,r=>match u2 s r with
  |(x,a)=>(.c x,a)
 |.agg l,r=>match qh l r with
  |(xs,a)=>(.agg xs,a)
 |.row _,c::r=>(.agg ((c.ty.row U c.val).map .t),r)
 |.row _,[]=>(.aX [],[])
 |.aX l,r=>match jD l r with
  |(xs,a)=>(.aX xs,a)
def jD:List du->ep U->List (bA U)×ep U
 |[],r=>([],r)
 |s::ss,r=>match l0 s r with
  |(x,a)=>match jD ss a with
   |(xs,e)=>(x::xs,e)
end
def Cl:List (Nat×du)->ep U->bI U×ep U
 |[],r=>([],r)
 |(k,s)::ss,r=>match l0 s r with
  |(x,a)=>match Cl ss a with
   |(xs,b)=>((k,x)::xs,b)
def jC:dh->ep U->Option (cx U)×ep U
 |.box l,r=>match qh l r with
  |(xs,a)=>(some (.box xs),a)
 |.arr _,⟨.slice t,l⟩::r=>(some (.arr t l),r)
 |.arr _,r=>(none,r)
 |.bb _,c::r=>(some (.box ((c.ty.row U c.val).map .t)),r)
 |.bb _,[]=>(none,[])
 |.gone,r=>(none,r)
 |.set,⟨.slice .str,l⟩::r=>(some (.set l),r)
 |.set,r=>(none,r)
 |.buf E,⟨.str,s⟩::r=>(some (.buf E s),r)
 |.buf _,r=>(none,r)
 |.b3 E s,r=>match u2 s r with
  |(x,a)=>(some (.b3 E x),a)
def hj:Nat->List dh->ep U->a7 U
 |_,[],_=>[]
 |j,s::ss,r=>match jC s r with
  |(some x,a)=>(j,x)::hj (j+1) ss a
  |(none,a)=>hj (j+1) ss a
def qC{α:Type}:List α->Nat->Option α
 |[],_=>none
 |a::_,0=>some a
 |_::l,n+1=>qC l n
theorem Ey{α:Type}:∀{l:List α} {n:Nat},qC l n=l[n]?
 |[],n=>by rfl
 |a::l,0=>by rfl
 |a::l,n+1=>by simp[qC,Ey]
def rb(bs:aY)(j b:Nat):Bool:=match qC bs j with
 |some a=>Nat.beq a b
 |none=>false
def AR(bs:aY):aY->aY->Bool
 |[],[]=>true
 |j::a,c::cs=>rb bs j c&&AR bs a cs
 |_,_=>false
def HZ(ty:aD):bd U->Option (Cell U.D)
 |.t c=>match Cell.as ty c with
  |some x=>some ⟨ty,x⟩
  |none=>none
 |.bD=>match ty with
  |.slice t=>some ⟨.slice t,([]:List (t.den U.D))⟩
  |_=>none
 |_=>none
def xC(bs:aY):fK->bd U->Option (ep U)
 |.hole ty,x=>match HZ ty x with
  |some c=>some [c]
  |none=>none
 |.ptr j o,.ptr b a=>match rb bs j b&&Nat.beq o a with
  |true=>some []
  |false=>none
 |.cA j ty o,.cA b d i a=>match rb bs j b&&(Nat.beq o a&&aD.beq ty d)with
  |true=>some [⟨.int .i64,(i:Int)⟩]
  |false=>none
 |.dF ty o,.dF d x a=>match Nat.beq o a,Cell.as ty (⟨d,x⟩:Cell U.D)with
  |true,some x=>some [⟨ty,x⟩]
  |_,_=>none
 |.arr j,.arr b=>match rb bs j b with
  |true=>some []
  |false=>none
 |.mp j,.mp b=>match rb bs j b with
  |true=>some []
  |false=>none
 |.cr j,.cr b=>match rb bs j b with
  |true=>some []
  |false=>none
 |.bD,.bD=>some []
 |.eQ,.eQ=>some []
 |.eP,.eP=>some []
 |.fn f g,.fn e cs=>match Nat.beq f e&&AR bs g cs with
  |true=>some []
  |false=>none
 |.dead,_=>some []
 |_,_=>none
def lL(bs:aY):List fK->List (bd U)->Option (ep U)
 |[],[]=>some []
 |s::ss,x::xs=>match xC bs s x,lL bs ss xs with
  |some a,some b=>some (a++b)
  |_,_=>none
 |_,_=>none
mutual
def jy(bs:aY):du->bA U->Option (ep U)
 |.c s,.c x=>xC bs s x
 |.agg l,.agg xs=>lL bs l xs
 |.row n,.agg xs=>match oy U (.nm n) xs with
  |some x=>some [⟨.nm n,x⟩]
  |none=>none
 |.aX l,.aX xs=>mx bs l xs
 |_,_=>none
def mx(bs:aY):List du->List (bA U)->Option (ep U)
 |[],[]=>some []
 |s::ss,x::xs=>match jy bs s x,mx bs ss xs with
  |some a,some b=>some (a++b)
  |_,_=>none
 |_,_=>none
end
def xD(bs:aY)(env:bI U):List (Nat×du)->Option (ep U)
 |[]=>some []
 |(k,s)::ss=>match aS env k with
  |some x=>match jy bs s x,xD bs env ss with
   |some a,some b=>some (a++b)
   |_,_=>none
  |none=>none
def oM(bs:aY):dh->cx U->Option (ep U)
 |.box l,.box xs=>lL bs l xs
 |.arr ty,.arr t l=>match Cell.as (.slice ty) (⟨.slice t,l⟩:Cell U.D)with
  |some l=>some [⟨.slice ty,l⟩]
  |none=>none
 |.arr ty,.rows sz r=>match Nat.beq (ty.sz U) sz,mf U ty r with
  |true,some l=>some [⟨.slice ty,l⟩]
  |_,_=>none
 |.bb n,.box xs=>match oy U (.nm n) xs with
  |some x=>some [⟨.nm n,x⟩]
  |none=>none
 |.set,.set l=>some [⟨.slice .str,l⟩]
 |.buf E,.buf a s=>match Nat.beq E a with
  |true=>some [⟨.str,s⟩]
  |false=>none
 |.b3 E s,.b3 a x=>match Nat.beq E a with
  |true=>xC bs s x
  |false=>none
 |_,_=>none
def iI(bs:aY)(J:a7 U):Nat->List dh->Option (ep U)
 |_,[]=>some []
 |j,.gone::ss=>iI bs J (j+1) ss
 |j,s::ss=>match qC bs j with
  |some b=>match aS J b with
   |some x=>match oM bs s x,iI bs J (j+1) ss with
    |some a,some r=>some (a++r)
    |_,_=>none
   |none=>none
  |none=>none
variable{a:ep U}{ss:List dh}
section
variable {kk N:Nat}{J Jc:a7 U}{J1:a6}{env:bI U}{env1:Env}{bs:aY}
def Can(bs:aY)(J Jc:a7 U):Prop:=∀j b a,bs[j]?=some b->aS Jc j=some a->∃x,aS J b=some x/\∀p,a.cV=some p->x.cV=some p
theorem mP(bV:bs.Nodup){j b:Nat}(h:bs[j]?=some b):pos bs b=some j:=by
 induction bs generalizing j with
 |nil=>grind
 |cons a bs ih=>
  grind[pos]
theorem vI{j b:Nat}(h:rb bs j b=true):bs[j]?=some b:=by
 unfold rb at h;rw[Ey]at h;split at h
 all_goals simp_all
theorem TP(bV:bs.Nodup):∀{a cs:aY},AR bs a cs=true->ph bs cs=some a
 |[],[],_=>rfl
 |j::a,c::cs,h=>by
  simp[AR]at h;simp[ph,mP bV (vI h.1),TP bV h.2]
theorem ZL{ty:aD}{x:bd U}{c:Cell U.D}{d:C}(h:HZ ty x=some c)(a:b5 N J x d):dz (d.bN bs) (.t (c.enc U))/\c.ty=ty:=by
 unfold HZ at h;split at h
 . split at h
   . rename_i b y ag;cases h;rw[Cell.jR ag]at a;cases a;exact⟨dz.refl _,rfl⟩
   grind
 . split at h
   . cases h;cases a;exact⟨dz.bD,rfl⟩
   grind
 grind
theorem Iv(bV:bs.Nodup)(u:Can bs J Jc){s:fK}{x:bd U}(h:xC bs s x=some a):
 ∃y,(∀r,u2 s (a++r)=(y,r))/\∀d,b5 N J x d->∃q,dz (d.bN bs) q/\b5 bs.length Jc y q:=by
 unfold xC at h;split at h
 . split at h
   . rename_i c A;cases h;exact⟨.t c,λr=>rfl,λd g=>⟨_,(ZL A g).1,.t c⟩⟩
   grind
 . rename_i j o b v;split at h
   . rename_i k;simp only[cK]at k;have:=cL k.2;subst this;cases h;refine⟨.ptr j o,λr=>rfl,λd g=>⟨.ptr j o,?_,.ptr j o⟩⟩;cases g;simp only[C.bN,mP bV (vI k.1)];exact dz.refl _
   grind
 . rename_i j ty o b D i v;split at h
   . rename_i k;simp only[cK]at k;have:=cL k.2.1;subst this;have:=aD.beq_eq k.2.2;subst this;cases h;refine⟨.cA j ty i o,λr=>rfl,λd g=>⟨.cA j (ty.sz U) i o,?_,.cA j ty i o⟩⟩;cases g;simp only[C.bN,mP bV (vI k.1)];exact dz.refl _
   grind
 . rename_i ty o D x v;split at h
   . rename_i y B ag;have:=cL B;subst this;cases h;have e:=Cell.jR ag;cases e;refine⟨.dF ty y o,λr=>rfl,λd g=>⟨d,?_,?_⟩⟩
     . cases g;exact dz.refl _
     . cases g;exact .dF ty y o
   grind
 . rename_i j b;split at h
   . rename_i k;cases h;refine⟨.arr j,λr=>rfl,λd g=>?_⟩;cases g with
     |arr _ sz n z ab=>
      have l:=vI k;refine⟨.arr j sz 0 n,?_,.arr j sz n (dH.1 l).1 λx I p ai=>?_⟩
      . simp only[C.bN,mP bV l];exact dz.refl _
      . obtain⟨E,h1,w⟩:=u j b x l I;grind
   grind
 . rename_i j b;split at h
   . rename_i k;cases h;refine⟨.mp j,λr=>rfl,λd g=>?_⟩;cases g;refine⟨.mp j,?_,.mp j⟩;simp only[C.bN,mP bV (vI k)];exact dz.refl _
   grind
 . rename_i j b;split at h
   . rename_i k;cases h;refine⟨.cr j,λr=>rfl,λd g=>?_⟩;cases g with
     |cr _ n z ab=>
      have l:=vI k;refine⟨.cr j n,?_,.cr j n (dH.1 l).1 λx I p ai=>?_⟩
      . simp only[C.bN,mP bV l];exact dz.refl _
      . obtain⟨E,h1,w⟩:=u j b x l I;grind
   grind
 . cases h;exact⟨.bD,λr=>rfl,λd g=>by cases g;exact⟨.bD,dz.refl _,.bD⟩⟩
 . cases h;exact⟨.eQ,λr=>rfl,λd g=>by cases g;exact⟨.eQ,dz.refl _,.eQ⟩⟩
 . cases h;exact⟨.eP,λr=>rfl,λd g=>by cases g;exact⟨.eP,dz.refl _,.eP⟩⟩
 . rename_i f m F cs;split at h
   . rename_i k;simp only[cK]at k;have:=cL k.1;subst this;cases h;refine⟨.fn f m,λr=>rfl,λd g=>⟨.fn f m,?_,.fn f m⟩⟩;cases g;simp only[C.bN,TP bV k.2];exact dz.refl _
   grind
 . cases h;exact⟨.dead,λr=>rfl,λd g=>⟨.dead,dz.dead _,.dead _⟩⟩
 . cases h
theorem IU(bV:bs.Nodup)(f:Can bs J Jc):∀{ss:List fK} {xs:List (bd U)} {a:ep U},lL bs ss xs=some a->
 ∃d,(∀r,qh ss (a++r)=(d,r))/\∀b,aV (b5 N J) xs b->∃c,aV dz (b.map (C.bN bs)) c/\aV (b5 bs.length Jc) d c
 |[],[],a,h=>by simp[lL]at h;subst h;exact⟨[],λr=>rfl,λb e=>by cases e;exact⟨[],.nil,.nil⟩⟩
 |s::ss,x::xs,a,h=>by
  simp[lL]at h;split at h
  . rename_i a1 a2 h1 j;cases h;obtain⟨y,f1,g1⟩:=Iv bV f h1;obtain⟨d,f2,g2⟩:=IU bV f j;refine⟨y::d,λr=>by simp[qh,f1,f2],λb e=>?_⟩;cases e with
    |cons u4 k=>
     obtain⟨g,aC,i⟩:=g1 _ u4;obtain⟨c,dw,h8⟩:=g2 _ k;exact⟨g::c,.cons aC dw,.cons i h8⟩
  grind
 |[],_::_,a,h=>by simp[lL]at h
 |_::_,[],a,h=>by grind[lL]
theorem K6{n:Nat}{xs:List (bd U)}{x:(aD.nm n).den U.D}(h:oy U (.nm n) xs=some x):∀b,aV (b5 N J) xs b->∃f,aV dz (b.map (C.bN bs)) f/\aV (b5 bs.length Jc) (((aD.nm n).row U x).map .t) f:=by
 intro b i;refine⟨((aD.nm n).enc U x).map .t,?_,yL⟩;unfold oy at h;split at h
 . rename_i row a;rw[aD.u0,aD.Gu h];clear h;generalize (aD.nm n).cells U=de at a;induction xs generalizing de row b with
   |nil=>
    cases i;cases de<;>simp[hB]at a;subst a;exact .nil
   |cons y j ih=>
    cases i with
    | @cons _ d _ b h1 g=>
     cases de with
     |nil=>grind[hB]
     |cons ty de=>
      cases h1 with
      |t c=>cases ty<;>simp[hB]at a<;>(split at a<;>first|(cases a;done)|(rename_i q e;cases a;exact .cons (dz.refl _) (ih _ g _ _ e)))
      |bD=>
       cases ty<;>simp[hB]at a;split at a
       . rename_i q e;cases a;exact .cons dz.bD (ih _ g _ _ e)
       grind
      |_=>grind[hB]
 grind
mutual
theorem FO(bV:bs.Nodup)(w:Can bs J Jc):∀{s:du} {x:bA U} {a:ep U},jy bs s x=some a->
 ∃y,(∀r,l0 s (a++r)=(y,r))/\∀d,bL N J x d->∃j,gm (d.bN bs) j/\bL bs.length Jc y j
 |.c s,.c x,a,h=>by
  simp only[jy]at h;obtain⟨y,f,g⟩:=Iv (N:=N) bV w h;refine⟨.c y,λr=>by simp only[l0,f],λd e=>?_⟩;cases e with
  |c e=>obtain⟨j,aC,q⟩:=g _ e;exact⟨.c j,.c aC,.c q⟩
 |.agg l,.agg xs,a,h=>by
  simp only[jy]at h;obtain⟨y,f,g⟩:=IU (N:=N) bV w h;refine⟨.agg y,λr=>by simp only[l0,f],λd e=>?_⟩;cases e with
  |agg e=>obtain⟨j,aC,q⟩:=g _ e;exact⟨.agg j,.agg aC,.agg q⟩
 |.row n,.agg xs,a,h=>by
  simp only[jy]at h;split at h
  . rename_i x I;cases h;refine⟨.agg (((aD.nm n).row U x).map .t),λr=>rfl,λd e=>?_⟩;cases e with
    |agg e=>obtain⟨j,aC,q⟩:=K6 I _ e;exact⟨.agg j,.agg aC,.agg q⟩
  . cases h
 |.aX l,.aX xs,a,h=>by
  simp only[jy]at h;obtain⟨v,f,ae,g⟩:=uH bV w h;refine⟨.aX v,λr=>by simp only[l0,f],λd e=>?_⟩;cases e with
  |aX _ o E e=>
   obtain⟨p,aC,q,dw⟩:=g o E e;refine⟨.aX p,.aX _ _ (by rw[Da];exact aC.symm) ?_,.aX _ _ (by omega) λi x d I A=>(dw i x d I A)⟩;intro i x y I ag;rw[DF,bn]at I;grind
 |.c _,.agg _,a,h=>by simp[jy]at h
 |.c _,.aX _,a,h=>by simp[jy]at h
 |.agg _,.c _,a,h=>by simp[jy]at h
 |.agg _,.aX _,a,h=>by simp[jy]at h
 |.row _,.c _,a,h=>by simp[jy]at h
 |.row _,.aX _,a,h=>by simp[jy]at h
 |.aX _,.c _,a,h=>by simp[jy]at h
 |.aX _,.agg _,a,h=>by simp[jy]at h
theorem uH(bV:bs.Nodup)(w:Can bs J Jc):∀{ss:List du} {xs:List (bA U)} {a:ep U},mx bs ss xs=some a->
 ∃v:List (bA U),(∀r,jD ss (a++r)=(v,r))/\v.length=xs.length/\∀o:List V,xs.length=o.length->(∀(i:Nat) x d,xs[i]?=some x->o[i]?=some d->bL N J x d)->
  ∃p:List V,p.length=o.length/\(∀(i:Nat) (d j:V),o[i]?=some d->p[i]?=some j->gm (d.bN bs) j)/\(∀(i:Nat) y j,v[i]?=some y->p[i]?=some j->bL bs.length Jc y j)
 |[],[],a,h=>by simp[mx]at h;subst h;exact⟨[],λr=>rfl,rfl,λo ae e=>⟨[],by simpa using ae,by simp,by simp⟩⟩
 |s::ss,x::xs,a,h=>by
  simp only[mx]at h;split at h
  . rename_i a1 a2 h1 D;cases h;obtain⟨y,f1,g1⟩:=FO bV w h1;obtain⟨v,f2,ae,g2⟩:=uH bV w D;refine⟨y::v,λr=>by simp only[jD,kD,f1,f2],by simp[ae],λo B e=>?_⟩;cases o with
    |nil=>simp at B
    |cons d o=>
     obtain⟨j,aC,q⟩:=g1 d (e 0 x d rfl rfl);obtain⟨p,dw,h8,iv⟩:=g2 o (by simpa using B) λi x d I A=>e (i+1) x d (by simpa using I) (by simpa using A);refine⟨j::p,by simp[dw],λi=>?_,λi=>?_⟩
     . grind
     grind
  . cases h
 |[],_::_,a,h=>by simp[mx]at h
 |_::_,[],a,h=>by simp[mx]at h
end
theorem HQ:∀{ks:aY} {k:Nat} {g:Bool} {v:V},k∈ks->look env1 k=some (g,v)->look (n1 bs env1 ks) k=some (g,v.bN bs)
 |x::ks,k,g,v,b,ae=>by
  simp[n1];by_cases h:x=k
  . grind[look]
  . have a:k∈ks:=(by grind);split
    . simp[look,ao h];exact HQ a ae
    . exact HQ a ae
theorem TQ(bV:bs.Nodup)(f:Can bs J Jc)(he:cP N J (λ_=>true) env env1):∀{ss:List (Nat×du)} {a:ep U},xD bs env ss=some a->
 ∃e,(∀r,Cl ss (a++r)=(e,r))/\∃c:Env,cP bs.length Jc (λ_=>true) e c/\∀k g j,look c k=some (g,j)->k∈ss.map Prod.fst/\∃v,look env1 k=some (g,v)/\gm (v.bN bs) j
 |[],a,h=>by simp[xD]at h;subst h;exact⟨[],λr=>rfl,[],λk v p=>by grind[aS],λk g v h=>by grind[look]⟩
 |(k,s)::ss,a,h=>by
  simp[xD]at h;split at h
  . rename_i x I;split at h
    . rename_i a1 a2 h1 m;cases h;obtain⟨y,f1,g1⟩:=FO bV f h1;obtain⟨e,f2,c,aC,o⟩:=TQ bV f he m;obtain⟨d,k1,k2⟩:=he k x I;obtain⟨l,q,t⟩:=g1 d k2;refine⟨(k,y)::e,λr=>by simp[Cl,f1,f2],(k,true,l)::c,λi v b=>?_,λi g v b=>?_⟩
      . simp[aS]at b;simp[look];split at b
        . simp_all
        . rename_i n;rw[ao (hP n)];exact aC i v b
      . simp[look]at b;grind
    . cases h
  grind
theorem Iw(bV:bs.Nodup)(k:Can bs J Jc){s:dh}{x:cx U}(h:oM bs s x=some a):
 ∃y,(∀r,jC s (a++r)=(some y,r))/\(∀d,hM N J x d->∃i,kb (d.bN bs) i/\hM bs.length Jc y i):=by
 unfold oM at h;split at h
 . obtain⟨n,f,g⟩:=IU bV k h;refine⟨.box n,λr=>by grind[jC],λd b=>?_⟩;cases b with
   |box b=>obtain⟨j,aC,c⟩:=g _ b;exact⟨.box _,.box aC,.box c⟩
 . rename_i ty t p;split at h
   . rename_i l ae;cases h;have e:=Cell.jR ae;cases e;refine⟨.arr ty l,λr=>rfl,λd b=>?_⟩;cases b;exact⟨_,.arr,.arr ty l⟩
   grind
 . rename_i ty sz r;split at h
   . rename_i l m ae;cases h;have:=cL m;subst this;refine⟨.arr ty l,λr=>rfl,λd b=>?_⟩;cases b with
     |rows h1 o=>
      refine⟨_,.arr,?_⟩;rw[<-vQ ae h1];exact .arr ty l
   grind
 . split at h
   . rename_i x I;cases h;refine⟨.box _,λr=>rfl,λd b=>?_⟩;cases b with
     |box b=>obtain⟨j,aC,c⟩:=K6 I _ b;exact⟨.box j,.box aC,.box c⟩
   grind
 . cases h;refine⟨.set _,λr=>rfl,λd b=>?_⟩;cases b;exact⟨_,.same,.set _⟩
 . split at h
   . rename_i dA;have:=cL dA;subst this;cases h;refine⟨.buf _ _,λr=>rfl,λd b=>?_⟩;cases b;exact⟨_,.same,.buf _ _⟩
   grind
 . split at h
   . rename_i dA;have:=cL dA;subst this;obtain⟨y,f,g⟩:=Iv bV k h;refine⟨.b3 _ y,λr=>by simp[jC,f];rfl,λd b=>?_⟩;cases b with
     |b3 b=>obtain⟨i,aC,c⟩:=g _ b;exact⟨.b3 _ i,.b3 aC,.b3 c⟩
   grind
 grind
theorem TZ{t:aD}:∀{r:List (List (bd U))} {l:List (t.den U.D)},mf U t r=some l->l.length=r.length
 |[],l,h=>by grind[mf]
 |r::b,l,h=>by
  simp[mf]at h;split at h
  . rename_i x xs I a;cases h;simp[TZ a]
  grind
theorem Sm:∀{l:List fK} {r:ep U},(qh l r).1.length=l.length
 |[],r=>rfl
 |s::ss,r=>by
  simp only[qh,gS];rw[Sm]
theorem Sn:∀{l:List fK} {xs:List (bd U)} {a:ep U},lL bs l xs=some a->l.length=xs.length
 |[],[],a,h=>rfl
 |[],_::_,a,h=>by simp[lL]at h
 |_::_,[],a,h=>by simp[lL]at h
 |s::ss,x::xs,a,h=>by
  simp only[lL]at h;split at h
  . rename_i h1 b;simp[Sn b]
  . cases h
theorem Xi:∀{ts:List aD} {cs:List (bd U)} {l:List (Cell U.D)},hB ts cs=some l->cs.length=ts.length:=by
 intro ts cs;induction cs generalizing ts with
 |nil=>intro l h;unfold hB at h;split at h<;>simp_all
 |cons c cs ih=>
  intro l h;unfold hB at h;split at h
  . cases ‹_::_=[]›
  . rename_i e;cases e;split at h
    . rename_i h1;simp[ih h1]
    . cases h
  . rename_i e;cases e;split at h
    . rename_i h1;simp[ih h1]
    . cases h
  . cases h
theorem aa6{s:dh}{x y:cx U}{r:ep U}(h:oM bs s x=some a)(b:jC s (a++r)=(some y,r)):∀p,y.cV=some p->x.cV=some p:=by
 unfold oM at h;split at h
 . intro p ai;have:=Sn h;rename_i d f;have e:y= .box (qh d (a++r)).1:=by
    simp only[jC]at b;exact(oh (dd Prod.fst b)).symm
   subst e;simp only[cx.cV,Sm]at ai⊢;rw[<-ai,this]
 . split at h
   . rename_i l ae;have e:=Cell.jR ae;simp only[jC,tS,iP,tL]at b;grind
   grind
 . split at h
   . rename_i l c ae;have:=cL c;subst this;simp only[jC,tS,iP,tL]at b;grind[cx.cV,TZ]
   grind
 . split at h
   . rename_i x I;cases h;intro p ai;simp only[jC,tS,iP,dG,dy,tL]at b;subst b;simp only[cx.cV,jH,aD.G5]at ai⊢;unfold oy at I;split at I
     . rename_i l ae;rw[<-ai,Xi ae];rfl
     . cases I
   grind
 . simp only[jC,tS,iP,dG,dy,tL]at b;grind
 . split at h
   . rename_i dA;have:=cL dA;simp only[jC,tS,iP,dG,dy,tL]at b;grind
   grind
 . grind[jC,cx.cV]
 grind
theorem pr(bV:bs.Nodup):∀{ss:List dh} {j:Nat} {a:ep U},iI bs J j ss=some a->
 (∀i c,aS (hj j ss a) i=some c->j<=i/\i<j+ss.length/\∃b x,bs[i]?=some b/\aS J b=some x/\∃s d,oM bs s x=some d/\∀r,jC s (d++r)=(some c,r))
 |[],j,a,h=>by grind[hj,aS]
 |.gone::ss,j,a,h=>by
  intro i c e;simp only[iI]at h;obtain⟨h1,g,m⟩:=pr bV h i c e;grind
 |.box l::ss,j,a,h=>uG bV (λ{j a}=>pr bV) (by simpa only[iI]using h)
 |.arr l::ss,j,a,h=>uG bV (λ{j a}=>pr bV (a:=a)) (by simpa only[iI]using h)
 |.bb l::ss,j,a,h=>uG bV (λ{j a}=>pr bV (ss:=ss) (j:=j) (a:=a)) (by simpa only[iI]using h)
 |.set::ss,j,a,h=>uG bV (λ{j a}=>pr bV (ss:=ss) (j:=j) (a:=a)) (by simpa only[iI]using h)
 |.buf E::ss,j,a,h=>uG bV (λ{j a}=>pr bV (ss:=ss) (j:=j) (a:=a)) (by simpa only[iI]using h)
 |.b3 E l::ss,j,a,h=>uG bV (λ{j a}=>pr bV (ss:=ss) (j:=j) (a:=a)) (by grind[iI])
where
 uG (bV:bs.Nodup) {s:dh} {ss:List dh} (ih:∀{j:Nat} {a:ep U},iI bs J j ss=some a->
  (∀i c,aS (hj j ss a) i=some c->j<=i/\i<j+ss.length/\∃b x,bs[i]?=some b/\aS J b=some x/\∃s d,oM bs s x=some d/\∀r,jC s (d++r)=(some c,r))) {j:Nat} {a:ep U} (h:(match qC bs j with
  |some b=>match aS J b with
   |some x=>match oM bs s x,iI bs J (j+1) ss with
    |some a,some r=>some (a++r)
    |_,_=>none
   |none=>none
  |none=>none)=some a):(∀i c,aS (hj j (s::ss) a) i=some c->j<=i/\i<j+(s::ss).length/\∃b x,bs[i]?=some b/\aS J b=some x/\∃s d,oM bs s x=some d/\∀r,jC s (d++r)=(some c,r)):=by
  intro i c e;split at h
  . rename_i b k;rw[Ey]at k;split at h
    . split at h
      . rename_i a1 a2 h1 g;cases h;obtain⟨y,f,_⟩:=Iw (N:=0) (J:=J) (Jc:=[]) bV (λ_ _ _ _ h=>by simp[aS]at h) h1;simp only[hj,f,aS]at e;grind[cL]
      . cases h
    . cases h
  . cases h
def fh(U:cF)(sh:Shape)(a:ep U):bI U×a7 U:=
 match Cl sh.env a with
 |(e,r)=>(e,hj 0 sh.st r)
def FN(bs:aY)(sh:Shape)(env:bI U)(J:a7 U):Option (ep U):=
 match xD bs env sh.env,iI bs J 0 sh.st with
 |some a,some b=>some (a++b)
 |_,_=>none
theorem zf(bV:bs.Nodup){b:ep U}(g:iI bs J 0 ss=some b):Can bs J (hj 0 ss b):=by
 intro j c k a i;obtain⟨_,_,m,x,h1,d,s,l,e,f⟩:=pr bV g j k i;rw[h1]at a;cases a;exact⟨x,d,aa6 e (f [])⟩
theorem y6:∀{r:aY} {i j c:Nat} {x:bJ},r[j]?=some c->aR J1 c=some x->aR (fu bs J1 i r) (i+j)=some (x.bN bs)
 |[],i,j,c,x,h,_=>by grind
 |b::r,i,0,c,x,h,I=>by
  grind[fu,aR]
 |b::r,i,j+1,c,x,h,I=>by
  simp[fu];have:=y6 (i:=i+1) (j:=j) (r:=r) (by grind) I;grind[aR]
theorem Eh(bV:bs.Nodup)(aA:ck N J J1){b:ep U}(o:iI bs J 0 ss=some b):
 ∃bh,r6 (fu bs J1 0 bs) bh/\ck bs.length (hj 0 ss b) bh:=by
 have E:=zf bV o;have I:=pr bV o;generalize hj 0 ss b=Jc at*;have key:∀(l:a7 U),(∀i a,aS l i=some a->aS Jc i=some a)->∃bh:a6,(∀i x,aR bh i=some x->∃y,aR (fu bs J1 0 bs) i=some y/\kb y x)/\(∀i a,aS l i=some a->i<bs.length/\∃y,aR bh i=some y/\hM bs.length Jc a y):=by
  intro l;induction l with
  |nil=>intro _;exact⟨[],λi x h=>by grind[aR],λi x h=>by grind[aS]⟩
  |cons p l ih=>
   obtain⟨d,t⟩:=p;intro ae;have:=by
    have aux:∀(m:a7 U),(∀i a,i≠d->aS m i=some a->aS Jc i=some a)->∃bh:a6,(∀i x,aR bh i=some x->∃y,aR (fu bs J1 0 bs) i=some y/\kb y x)/\(∀i a,i≠d->aS m i=some a->i<bs.length/\∃y,aR bh i=some y/\hM bs.length Jc a y):=by
     intro m Q;have K:∀i a,aS (dl m d) i=some a->aS Jc i=some a:=by
      intro i a h;rw[mY]at h;grind
     have build:∀n,∃bh:a6,(∀i x,aR bh i=some x->∃y,aR (fu bs J1 0 bs) i=some y/\kb y x)/\(∀i a,i<n->aS (dl m d) i=some a->i<bs.length/\∃y,aR bh i=some y/\hM bs.length Jc a y):=by
      intro n;induction n with
      |zero=>exact⟨[],λi x h=>by grind[aR],λi x h=>by omega⟩
      |succ n M=>
       obtain⟨s,h1,g⟩:=M;cases aN:aS (dl m d) n with
       |none=>exact⟨s,h1,λi a k c=>g i a (by grind) c⟩
       |some D=>
        obtain⟨_,_,u,x,g1,g2,P,H,g3,g4⟩:=I n D (K n D aN);obtain⟨_,y,k1,k2⟩:=aA u x g2;obtain⟨z,f,q⟩:=Iw (N:=N) bV E g3;have:z=D:=(by simp_all);subst this;obtain⟨r,O,w⟩:=q y k2;have ht:=y6 (bs:=bs) (i:=0) (j:=n) g1 k1;refine⟨cW s n r,λi x k=>?_,λi a k c=>?_⟩
        . grind[cS]
        . by_cases e:i=n
          . subst e;rw[aN]at c;cases c;exact⟨(dH.1 g1).1,r,by rw[cS,ad rfl],w⟩
          . obtain⟨A,z,B,C⟩:=g i a (by omega) c;exact⟨A,z,by rw[cS,ao (λv=>e v.symm)];exact B,C⟩
     obtain⟨s,h1,g⟩:=build bs.length;refine⟨s,h1,λi a G c=>?_⟩;have F:aS (dl m d) i=some a:=by rw[mY,ao (λe=>G e.symm)];exact c
     grind
    exact aux l λi a G h=>ae i a (by
     grind[aS,cL])
   obtain⟨s,h1,g⟩:=this;have L:aS Jc d=some t:=ae d t (by simp[aS,Nat.beq_refl]);obtain⟨_,_,u,x,g1,g2,P,H,g3,g4⟩:=I d t L;obtain⟨_,y,k1,k2⟩:=aA u x g2;obtain⟨z,f,q⟩:=Iw (N:=N) bV E g3;have:z=t:=(by simp_all);subst this;obtain⟨r,O,w⟩:=q y k2;have ht:=y6 (bs:=bs) (i:=0) (j:=d) g1 k1;refine⟨cW s d r,λi x k=>?_,λi a c=>?_⟩
   . rw[cS]at k;grind
   . by_cases e:i=d
     . subst e;simp[aS,Nat.beq_refl]at c;subst c;exact⟨(dH.1 g1).1,r,by rw[cS,ad rfl],w⟩
     . have F:aS l i=some a:=by
        simp only[aS]at c;cases o:Nat.beq d i with
        |true=>exact absurd (cL o).symm e
        |false=>rw[o]at c;exact c
       obtain⟨A,z,B,C⟩:=g i a e F;exact⟨A,z,by rw[cS,ao (λv=>e v.symm)];exact B,C⟩
 obtain⟨s,h1,g⟩:=key Jc λ_ _ h=>h;exact⟨s,λi x k=>h1 i x k,λi a c=>g i a c⟩
theorem aaF(bV:bs.Nodup)(j:keeps kk bs=true)(he:cP N J (λ_=>true) env env1)(aA:ck N J J1){sh:Shape}(h:FN bs sh env J=some a):
 ∃c bh,Conv kk N env1 J1 bs.length c bh/\cP bs.length (fh U sh a).2 (λ_=>true) (fh U sh a).1 c/\ck bs.length (fh U sh a).2 bh:=by
 unfold FN at h;split at h
 . rename_i a1 b h1 d;cases h;obtain⟨e,f,c,aC,m⟩:=TQ bV (zf bV d) he h1;obtain⟨bh,s1,l⟩:=Eh bV aA d;have i:fh U sh (a1++b)=(e,hj 0 sh.st b):=(by grind[fh]);rw[i];refine⟨c,bh,(Conv.tidy (sh.env.map Prod.fst) bs bV j).trans (Conv.weaken (λk g n ae=>?_) s1),aC,l⟩;grind[HQ]
 grind
end
end
section
open Go
variable {U:cF}
def e3(D:Nat->Type):aD->List aD->Type
 |t,[]=>t.den D
 |t,u::r=>t.den D×e3 D u r
def aP(D:Nat->Type):List aD->Type
 |[]=>Unit
 |t::r=>e3 D t r
def e3.cells(D:Nat->Type):(t:aD)->(ts:List aD)->e3 D t ts->List (Cell D)
 |t,[],x=>[⟨t,x⟩]
 |t,u::r,x=>⟨t,x.1⟩::e3.cells D u r x.2
def aP.cells(D:Nat->Type):(ts:List aD)->aP D ts->List (Cell D)
 |[],_=>[]
 |t::r,x=>e3.cells D t r x
def Gq{α:Type}:List α->Option α
 |[c]=>some c
 |_=>none
def u4{α:Type}:List α->Option (α×List α)
 |[]=>none
 |c::r=>some (c,r)
def e3.dec(D:Nat->Type):(t:aD)->(ts:List aD)->List (Cell D)->Option (e3 D t ts)
 |t,[],l=>match Gq l with
  |some c=>c.as t
  |none=>none
 |t,u::r,l=>match u4 l with
  |some p=>match p.1.as t with
   |some x=>match e3.dec D u r p.2 with
    |some y=>some (x,y)
    |none=>none
   |none=>none
  |none=>none
def aP.dec(D:Nat->Type):(ts:List aD)->List (Cell D)->Option (aP D ts)
 |[],l=>match l with
  |[]=>some ()
  |_=>none
 |t::r,l=>e3.dec D t r l
variable{α:Type}{D:Nat->Type}{N:Nat}{J:a7 U}{c:α×List α}
theorem ZM{l:List α}{c:α}(h:Gq l=some c):l=[c]:=by
 unfold Gq at h;grind
theorem aa7{l:List α}(h:u4 l=some c):l=c.1::c.2:=by
 unfold u4 at h;grind
theorem e3.mL:∀{ts:List aD} {t:aD} {a:List (Cell D)} {h:e3 D t ts},e3.dec D t ts a=some h->e3.cells D t ts h=a
 |[],t,a,h,e=>by
  unfold e3.dec at e;split at e
  . rename_i c f;rw[ZM f,Cell.jR e];rfl
  grind
 |u::r,t,a,h,e=>by
  unfold e3.dec at e;split at e
  . split at e
    . rename_i x I;split at e
      . rename_i y ag;cases e;have:=e3.mL ag;show⟨t,x⟩::e3.cells D u r y=a;grind[aa7,Cell.jR]
      grind
    grind
  grind
theorem aP.mL:∀{ts:List aD} {a:List (Cell D)} {h:aP D ts},aP.dec D ts a=some h->aP.cells D ts h=a
 |[],[],h,e=>rfl
 |[],_::_,h,e=>by cases (show none=some h from e)
 |t::r,a,h,e=>e3.mL e
def e3.jZ(U:cF):(t:aD)->(ts:List aD)->e3 U.D t ts
 |t,[]=>t.jZ U
 |t,u::r=>(t.jZ U,e3.jZ U u r)
def aP.jZ(U:cF):(ts:List aD)->aP U.D ts
 |[]=>()
 |t::r=>e3.jZ U t r
abbrev gk:=List (Nat×Nat)×List (Nat×aD)
def Hr:fK->bd U->gk->gk
 |.ptr j _,.ptr b _,s=>((j,b)::s.1,s.2)
 |.cA j _ _,.cA b _ _ _,s=>((j,b)::s.1,s.2)
 |.arr j,.arr b,s=>((j,b)::s.1,s.2)
 |.mp j,.mp b,s=>((j,b)::s.1,s.2)
 |.cr j,.cr b,s=>((j,b)::s.1,s.2)
 |.fn _ a,.fn _ cs,s=>(a.zip cs++s.1,s.2)
 |.hole (.slice t),.arr b,s=>(s.1,(b,t)::s.2)
 |_,_,s=>s
def Hs:List fK->List (bd U)->gk->gk
 |a::as,x::xs,s=>Hs as xs (Hr a x s)
 |_,_,s=>s
def EW:List aD->List (bd U)->gk->gk
 |.slice t::ts,.arr b::xs,s=>EW ts xs (s.1,(b,t)::s.2)
 |_::ts,_::xs,s=>EW ts xs s
 |_,_,s=>s
mutual
def Hu:du->bA U->gk->gk
 |.c a,.c x,s=>Hr a x s
 |.agg l,.agg xs,s=>Hs l xs s
 |.row n,.agg xs,s=>EW (U.de n) xs s
 |.aX l,.aX xs,s=>EX l xs s
 |_,_,s=>s
def EX:List du->List (bA U)->gk->gk
 |a::as,x::xs,s=>EX as xs (Hu a x s)
 |_,_,s=>s
end
def Ht(env:bI U):List (Nat×du)->gk->gk
 |[],s=>s
 |(k,a)::r,s=>match aS env k with
  |some x=>Ht env r (Hu a x s)
  |none=>Ht env r s
def agA:dh->cx U->gk->gk
 |.box l,.box xs,s=>Hs l xs s
 |.bb n,.box xs,s=>EW (U.de n) xs s
 |.b3 _ a,.b3 _ x,s=>Hr a x s
 |_,_,s=>s
def wT(J:a7 U)(kk:Nat):Nat->List dh->gk->aY->aY×List (Nat×aD)
 |_,[],s,acc=>(acc.reverse,s.2)
 |j,a::r,s,acc=>
  let b:=match aS s.1 j with
   |some b=>b
   |none=>match Nat.ble (j+1) kk with
    |true=>j
    |false=>1000000+j
  match aS J b with
  |some x=>wT J kk (j+1) r (agA a x s) (b::acc)
  |none=>wT J kk (j+1) r s (b::acc)
def tD:aY->Bool
 |[]=>true
 |a::l=>(l.all λb=>!(Nat.beq a b))&&tD l
theorem yy:∀{l:aY},tD l=true->l.Nodup
 |[],_=>wE
 |a::l,h=>by
  simp[tD]at h;refine List.nodup_cons.2 ⟨λb=>?_,yy h.2⟩;have c:=h.1 a b;simp_all
def lE(kk:Nat)(own:List (Pos×aD))(sh:Shape)(ts:List aD)(env:bI U)(J:a7 U)(N:Nat):Option (aP U.D ts):=
 match Fj own env J N with
 |none=>none
 |some (env,J,_)=>match JY env J with
  |none=>none
  |some (env,J)=>match wT J kk 0 sh.st (Ht env sh.env ([],[])) []with
   |(bs,b)=>match j' b env J with
    |none=>none
    |some (env,J)=>match tD bs&&(keeps kk bs&&Nat.beq bs.length sh.st.length)with
     |false=>none
     |true=>match FN bs sh env J with
      |none=>none
      |some a=>aP.dec U.D ts a
section
variable {kk N:Nat}{J:a7 U}{J1:a6}{env:bI U}{env1:Env}
theorem v7{own:List (Pos×aD)}{sh:Shape}{ts:List aD}{h:aP U.D ts}(I:lE kk own sh ts env J N=some h)(he:cP N J (λ_=>true) env env1)(aA:ck N J J1)(x:kk<=N):
 ∃b bh,Conv kk N env1 J1 sh.st.length b bh/\cP sh.st.length (fh U sh (aP.cells U.D ts h)).2 (λ_=>true) (fh U sh (aP.cells U.D ts h)).1 b/\ck sh.st.length (fh U sh (aP.cells U.D ts h)).2 bh/\kk<=sh.st.length:=by
 unfold lE at I;split at I
 . grind
 . rename_i F J2 C h1;obtain⟨ds,j5,d,t,k,cp⟩:=TO h1 he aA x;split at I
   . grind
   rename_i G A s;obtain⟨aC,s1,f,u,l⟩:=XM s t k;have e:=d.trans f;split at I;rename_i bs K _;split at I
   . grind
   . rename_i H B j;obtain⟨E,O,g,v,m,_⟩:=vA (kk:=kk) (gl:=[]) j u l;split at I
     . grind
     . rename_i c;simp only[cK]at c;obtain⟨p,q,r⟩:=c;have y:=cL r;split at I
       . grind
       . rename_i a o;obtain⟨dw,z,i,w,n⟩:=aaF (yy p) q v m o;rw[aP.mL I,<-y];refine⟨dw,z,e.trans (g.trans i),w,n,?_⟩;by_cases L:kk=0
         . omega
         . have M:(bs[kk-1]?==some (kk-1))=true:=by
            grind[keeps]
           grind
end
structure ca (U:cF) where
 f:Nat
 eK:List du
 st:List dh
 ts:List aD
 dX:du
 dE:List dh
 us:List aD
 F:aP U.D ts->Option (aP U.D us)
def ca.args(s:ca U)(h:aP U.D s.ts):List (bA U):=(jD s.eK (aP.cells U.D s.ts h)).1
def ca.il(s:ca U)(h:aP U.D s.ts):a7 U:=hj 0 s.st (jD s.eK (aP.cells U.D s.ts h)).2
def ca.res(s:ca U)(r:aP U.D s.us):bA U:=(l0 s.dX (aP.cells U.D s.us r)).1
def ca.rest(s:ca U)(r:aP U.D s.us):a7 U:=hj 0 s.dE (l0 s.dX (aP.cells U.D s.us r)).2
def hN(P:Program)(s:ca U):Prop:=
 ∀h r,s.F h=some r->∀a J1,aV (bL s.st.length (s.il h)) (s.args h) a->ck s.st.length (s.il h) J1->
  d' P s.f a J1 s.st.length (λb bh N'=>N'=s.dE.length/\bL N' (s.rest r) (s.res r) b/\ck N' (s.rest r) bh)
def bd.rH:bd U->Bool
 |.t _|.dF .. |.bD|.eQ|.eP=>true
 |.fn _ []=>true
 |_=>false
def gp:bA U->Bool
 |.c x=>x.rH
 |.agg cs=>cs.all bd.rH
 |.aX vs=>go vs
where go:List (bA U)->Bool
 |[]=>true
 |v::vs=>gp v&&go vs
def bd.oO:bd U->C
 |.t c=>.t (c.enc U)
 |.dF ty x o=>.dF (ty.enc U x) o
 |.bD=>.bD
 |.eQ=>.eQ
 |.eP=>.eP
 |.fn f caps=>.fn f caps
 |_=>.dead
def fw:bA U->V
 |.c x=>.c x.oO
 |.agg cs=>.agg (cs.map bd.oO)
 |.aX vs=>.aX (go vs)
where go:List (bA U)->List V
 |[]=>[]
 |v::vs=>fw v::go vs
theorem zW{x:bd U}(h:x.rH=true):b5 N J x x.oO/\(∀d,b5 N J x d->d=x.oO)/\∀n,x.oO.az n=true:=by
 cases x<;>simp[bd.rH]at h
 . exact⟨.t _,λd a=>by cases a;rfl,λ_=>rfl⟩
 . exact⟨.dF _ _ _,λd a=>by cases a;rfl,λ_=>rfl⟩
 . exact⟨.bD,λd a=>by cases a;rfl,λ_=>rfl⟩
 . exact⟨.eQ,λd a=>by cases a;rfl,λ_=>rfl⟩
 . exact⟨.eP,λd a=>by cases a;rfl,λ_=>rfl⟩
 . rename_i f caps;cases caps with
   |nil=>exact⟨.fn _ _,λd a=>by cases a;rfl,λ_=>rfl⟩
   |cons=>grind
theorem IV:∀{vs:List (bA U)} {i:Nat},(fw.go vs)[i]?=(vs[i]?).map fw
 |[],i=>by rfl
 |v::vs,0=>by rfl
 |v::vs,i+1=>by simp[fw.go,IV]
theorem Ru:∀{vs:List (bA U)},(fw.go vs).length=vs.length
 |[]=>rfl
 |v::vs=>by simp[fw.go,Ru]
theorem Sp:∀{vs:List (bA U)} {i:Nat} {v:bA U},gp.go vs=true->vs[i]?=some v->gp v=true
 |[],i,v,_,h=>by grind
 |x::vs,0,v,hs,h=>by grind[gp.go]
 |x::vs,i+1,v,hs,h=>by simp[gp.go]at hs;exact Sp hs.2 (by simpa using h)
theorem aux:∀(cs:List (bd U)),(∀x,x∈cs->x.rH=true)->aV (b5 N J) cs (cs.map bd.oO)
 |[],_=>.nil
 |a::l,h=>.cons (zW (h a (by simp))).1 (aux l λx I=>h x (by grind))
theorem vS{N:Nat}{J:a7 U}:∀{x:bA U},gp x=true->bL N J x (fw x)/\∀n,(fw x).az n=true
 |.c x,h=>by
  obtain⟨h1,_,a⟩:=zW h;exact⟨.c h1,λn=>a n⟩
 |.agg cs,h=>by
  simp[gp]at h;refine⟨.agg ?_,λn=>?_⟩
  . grind[aux]
  . simp[fw,V.az];intro c b;exact(zW (N:=N) (J:=J) (h c b)).2.2 n
 |.aX vs,h=>by
  have:=go (N:=N) (J:=J) vs h;refine⟨.aX _ _ (by rw[Ru]) λi x d I g=>?_,λn=>?_⟩
  . grind[IV]
  grind[fw,V.az]
where go {N:Nat} {J:a7 U}:∀(vs:List _),gp.go vs=true->(∀x,x∈vs->bL N J x (fw x))/\∀n,V.az.V.dj n (fw.go vs)=true
 |[],_=>⟨by simp,λ_=>rfl⟩
 |v::vs,h=>by
  simp[gp.go,cK]at h;obtain⟨h1,e⟩:=vS (N:=N) (J:=J) h.1;obtain⟨a,f⟩:=go (N:=N) (J:=J) vs h.2;simp_all[fw.go,V.az.V.dj]
theorem zX{x:bA U}{d:V}(h:bL N J x d):gp x=true->d=fw x:=by
 induction h with
 |c h=>intro hs;rw[(zW hs).2.1 _ h];rfl
 | @agg xs a h=>
  intro hs;simp[gp]at hs
  congr 1
  induction h with
  |nil=>rfl
  |cons h1 e ih=>rw[jI,<-(zW (hs _ (by simp))).2.1 _ h1,<-ih (λx I=>hs x (by grind))]
 |aX xs a ae h ih=>
  intro hs
  congr 1
  apply wP;intro i;rw[IV];cases I:xs[i]? with
  |none=>grind
  |some x=>
   have f:=(dH.1 I).1;have b:=eC (l:=a) (i:=i) (by omega);rw[b]
   congr 1
   exact ih i x _ I b (Sp hs I)
end
section
open Go
variable {U:cF}
variable{K:Env->a6->Prop}{f:Nat->Nat}
section
variable {P:Program}{nt kk key N N':Nat}{env:Env}{J J':a6}{Q ns:Exit->Env->a6->Nat->Prop}
def OS(P:Program)(f:Nat)(args:List V)(J:a6)(key:Nat)(env:Env)(K:V->a6->Prop):Prop:=
 ∀av nt φ S a w,Rel av nt φ S env J (lt key) a w->V.az.V.dj (lt key) args=true->∀vs:List Value,aV (bS φ w S) args vs->
  Calls P f vs.toArray w λe w'=>∃v r a8 ba J',e= .returned v/\K r J'/\bS a8 w' ba r v/\r.az (eo (lt key) key)=true/\Rel av nt a8 ba env J' (eo (lt key) key) a w'
def adW(P:Program)(o:bX)(env:Env)(f:Nat)(vs:List V):Prop:=
 (∃args p,o.op= .call f args/\hF env args=some (p,vs)/\p)\/
 (∃x args q p caps a,o.op= .h6 x args/\x.get env=some (q,.c (.fn f caps))/\q/\hF env args=some (p,a)/\p/\gL P f=true/\vs=a++caps.map λb=>V.c (.ptr b 0))
def xE(P:Program)(o:bX)(key:Nat)(env:Env)(J:a6)(K:Env->a6->Prop):Prop:=
 hb P o key env J K\/(fM env o.guard=some true/\∃f vs,adW P o env f vs/\OS P f vs J key env λr J'=>K (eb env o.dst true r) J')
def nu(P:Program)(kk:Nat):List bX->Nat->Env->a6->(Env->a6->Prop)->Prop
 |[],_,env,J,K=>K env J
 |o::r,key,env,J,K=>∃e6 a,Conv kk key env J key e6 a/\xE P o key e6 a λe s=>nu P kk r (key+16) e s K
theorem IW{av:Ctx}{φ:cU}{S:cR}{a:Act}{w:World}(R:Rel av nt φ S env J (lt key) a w){ops:Array Oper}{o:Oper}{r:bX}(A:vY P nt ops o=some r)(h:xE P r key env J K){Q:Exit->Act->World->Prop}:
 if Region.wanted o (yielded ops a.tmps)then o.wp P a w (jo av nt (eo (lt key) key) K) Q else jo av nt (eo (lt key) key) K (a.put o.dst undef) w:=by
 rcases h with h|⟨al,f,vs,G,y⟩
 . exact DE R (λb h1 _=>yU h1) A h
 . obtain⟨h1,d,s,u⟩:=RL A;have O:=SI R d al;rw[O];rcases G with⟨args,p,m,l,ai⟩|⟨x,args,q,p,caps,E,m,M,N,l,ai,g,rfl⟩
   . rw[m]at h1;obtain⟨c,j,n⟩:=RG (ya h1 (by simp));obtain⟨k,g,e⟩:=RH n;have B:=sr (w:=w) (a:=a) j k rfl g;simp at B;obtain⟨g1,g2⟩:=qH R e l ai;exact Calls.next s u rfl (λ_ _ h=>h) (y av nt φ S a w R g2 _ g1) B
   . rw[m]at h1;obtain⟨c,j,n⟩:=Rz (ya h1 (by simp));obtain⟨t,rfl,k,e⟩:=RA n;obtain⟨g1,g2⟩:=qH R e l ai;have I:=cc (x:= .tmp t) R rfl M N;have T:=I.1.dJ;have H:aV (bS φ w S) (caps.map λb=>V.c (.ptr b 0)) (caps.map λb=>Value.pointer (some ⟨(φ b).1,0,none⟩)):=by
      refine aV.kF (by simp) ?_;intro i v x h1 d;simp at h1 d;obtain⟨b,F,rfl⟩:=h1;obtain⟨U,z,rfl⟩:=d;rw[F]at z;cases z;exact .c rfl
     have L:V.az.V.dj (lt key) (E++caps.map λb=>V.c (.ptr b 0))=true:=by
      refine sM ?_;intro i v D;by_cases W:i<E.length
      . grind[mQ]
      . rw[zG (by omega)]at D;simp only[ru,bn]at D;grind[V.az,C.az]
     exact Calls.next s u rfl (λ_ _ h=>h) (y av nt φ S a w R L _ (g1.append H)) (sr j k T g)
theorem TR{av:Ctx}(g:av.k=kk){ops:Array Oper}{Q:Exit->Act->World->Prop}{K:Env->a6->Nat->Prop}:∀{l:List Oper} {aZ:List bX} {k N:Nat} {env:Env} {J:a6} {φ:cU} {S:cR} {a:Act} {w:World},gI P nt ops l=some aZ->(∀i:Nat,i<l.length->l[i]?=ops[k+i]?)->
 Rel av nt φ S env J (lt N) a w->nu P kk aZ N env J (λe s=>K e s (N+16*aZ.length))->(∀φ S e s N a w,K e s N->Rel av nt φ S e s (lt N) a w->Q .normal a w)->wpOps P ops Q (List.range' k l.length) a w
 |[],aZ,k,N,env,J,φ,S,a,w,b,f,R,h,d=>by
  simp[gI]at b;subst b;exact d _ _ _ _ _ _ _ h R
 |o::l,aZ,k,N,env,J,φ,S,a,w,b,f,R,h,d=>by
  simp[gI,bf,bn]at b;obtain⟨r,m,c,n,rfl⟩:=b;have t:ops[k]?=some o:=by have:=f 0 (by simp);grind
  rw[gS,CE,wpOps_cons];unfold wpOp;obtain⟨e6,q,p,u⟩:=h;obtain⟨v,p6,j⟩:=p av nt φ S a w g R;have hs:=IW j m (K:=λe s=>nu P kk _ _ e s λe s=>K e s (N+16*(c.length+1))) (by omega) (Q:=Q);have next:∀bR w',jo av nt (eo (lt N) N) (λe s=>nu P kk c (N+16) e s λe s=>K e s (N+16*(c.length+1))) bR w'->wpOps P ops Q (List.range' (k+1) l.length) bR w':=by
   rintro bR w' ⟨a8,ba,e,s,bM,R'⟩
   refine TR g n (λi aE=>?_) (R'.more λ_ h=>E2 h) ?_ d
   . have:=f (i+1) (by grind);grind
   grind
  split at hs
  . grind[Oper.wp_mono]
  grind
theorem ch.agt{aZ:List bX}(h:nu P kk aZ N env J (λe s=>Q .normal e s (N+16*aZ.length))):ch P nt kk (.region aZ) env J N Q:=by
 intro code f av φ S a w j R;obtain⟨id,ops,rfl,o⟩:=RW f;refine wp_region ?_;have:=TR j (Q:=λe bR w'=>∃a8 ba env' J' N',Q e env' J' N'/\Rel av nt a8 ba env' J' (lt N') bR w') (k:=0) o (λi p=>by simp) R h
  (λφ S e s N a w bM c=>⟨φ,S,e,s,N,bM,c⟩)
 grind[List.range_eq_range']
theorem d'.conv{f k:Nat}{args p:List V}{Q:V->a6->Nat->Prop}(t:aV gm args p)(hs:r6 J J')(h:d' P f p J' k Q):d' P f args J k Q:=by
 intro φ S w B o A H D vs F;refine h φ S w B ⟨λb x I=>?_,λb q x y I ag=>?_,o.st⟩ (λb x I=>?_) (λb x I=>?_) ?_ vs ?_
 . obtain⟨j,h1,e⟩:=hs b x I;exact e.GY (o.blk b j h1)
 . obtain⟨j,h1,e⟩:=hs b x I;obtain⟨G,k1,k2⟩:=hs q y ag;exact o.inj b q j G h1 k1
 . obtain⟨j,h1,e⟩:=hs b x I;exact⟨(A b j h1).1,e.az _ (A b j h1).2⟩
 . obtain⟨j,h1,e⟩:=hs b x I;grind
 . refine sM λi v E=>?_;obtain⟨v0,h1,e⟩:=(t.flip λ_ _ h=>h).get E;exact e.az _ (mQ D h1)
 . exact aV.comp (λa b c h1 e=>h1.G7 e) (t.flip λ_ _ h=>h) F
theorem d'.mono{f k:Nat}{args:List V}{Q ns:V->a6->Nat->Prop}(h:d' P f args J k Q)(j:∀r s n,Q r s n->ns r s n):d' P f args J k ns:=by
 intro φ S w B h1 a c e vs bj;refine(h φ S w B h1 a c e vs bj).mono ?_;grind
theorem d'.tidy{f k:Nat}{args:List V}{Q ns:V->a6->Nat->Prop}(h:d' P f args J k Q)
 (U:∀r J' N',Q r J' N'->∃bs A J2,bs.Nodup/\keeps k bs=true/\gm (r.bN bs) A/\r6 (fu bs J' 0 bs) J2/\ns A J2 bs.length):d' P f args J k ns:=by
 intro φ S w B h1 L M N vs bj;refine(h φ S w B h1 L M N vs bj).mono ?_
 rintro e w' ⟨v,r,a8,ba,J',N',he,O,k1,k2,k3,k4,k5,k6,k7⟩
 obtain⟨bs,A,J2,bV,ap,K,hs,R⟩:=U r J' N' O;have an:∀i:Nat,i<k->bs[i]?=some i:=by
  grind[keeps]
 let F:cU:=λi=>a8 ((bs[i]?).getD 0);have t:∀(i:Nat) b,bs[i]?=some b->F i=a8 b:=by intro i b h;simp[F,h]
 have q:∀b x,aR (fu bs J' 0 bs) b=some x->∃c a,bs[b]?=some c/\aR J' c=some a/\x=a.bN bs:=by
  grind[px]
 have W:∀(a:bJ),(a.bN bs).az (lt bs.length)=true:=by
  intro a;cases a with
  |box cs=>grind[bJ.bN,bJ.az,List.all_eq_true,C.jJ]
  |arr sz es=>rfl
  |set ks=>rfl
  |buf E s=>rfl
  |b3 E c=>exact C.jJ c
  |cw sz es i o c=>exact C.jJ c
 refine⟨v,A,F,ba,J2,bs.length,he,R,K.G7 (bS.bN t k1),K.az _ (V.jJ r),⟨λb x I=>?_,λb D x y I ag av h0 H=>?_,k3.st⟩,λb x I=>?_,k5,λb x I h0=>?_,λb j=>?_⟩
 . obtain⟨y,ag,j⟩:=hs b x I;obtain⟨c,a,aC,p,rfl⟩:=q b y ag;exact j.GY (cQ.bN t aC (k3.blk c a p))
 . obtain⟨ae,X,_⟩:=hs b x I;obtain⟨am,Y,_⟩:=hs D y ag;obtain⟨c,a,aC,p,_⟩:=q b ae X;obtain⟨G,Z,f1,f2,_⟩:=q D am Y;rw[t b c aC]at h0⊢;rw[t D G f1]at H⊢;refine k3.inj c G a Z p f2 ?_ h0 H;have:=mP bV aC;grind[mP]
 . obtain⟨y,ag,j⟩:=hs b x I;obtain⟨c,a,aC,p,rfl⟩:=q b y ag;exact⟨(dH.1 aC).1,j.az _ (W a)⟩
 . obtain⟨y,ag,j⟩:=hs b x I;grind
 grind
end
def bd.b6(f:Nat->Nat):bd U->bd U
 |.ptr b o=>.ptr (f b) o
 |.cA b ty i o=>.cA (f b) ty i o
 |.arr b=>.arr (f b)
 |.sub b a len=>.sub (f b) a len
 |.pre b h=>.pre (f b) h
 |.dI b a len=>.dI (f b) a len
 |.mp b=>.mp (f b)
 |.ei b=>.ei (f b)
 |.cr b=>.cr (f b)
 |.fn g caps=>.fn g (caps.map f)
 |x=>x
def bA.b6(f:Nat->Nat):bA U->bA U
 |.c x=>.c (x.b6 f)
 |.agg cs=>.agg (cs.map (bd.b6 f))
 |.aX vs=>.aX (go f vs)
where go (f:Nat->Nat):List (bA U)->List (bA U)
 |[]=>[]
 |v::vs=>v.b6 f::go f vs
def cx.b6(f:Nat->Nat):cx U->cx U
 |.box cs=>.box (cs.map (bd.b6 f))
 |.arr ty l=>.arr ty l
 |.rows sz r=>.rows sz r
 |.set ks=>.set ks
 |.buf E s=>.buf E s
 |.b3 E c=>.b3 E (c.b6 f)
 |.cw t l i o c=>.cw t l i o (c.b6 f)
def Fh(J:a7 U):aY->a7 U
 |[]=>J
 |b::r=>dl (Fh J r) b
def np(J:a7 U)(bs:aY)(f:Nat->Nat):a7 U->a7 U
 |[]=>Fh J bs
 |(b,x)::r=>cn (np J bs f r) (f b) (x.b6 f)
def ow(J Jr:a7 U):Nat->aY->Option Bool
 |_,[]=>some true
 |i,b::r=>match aS Jr i with
  |none=>ow J Jr (i+1) r
  |some d=>match aS J b with
   |none=>none
   |some x=>match d.cV with
    |none=>ow J Jr (i+1) r
    |some a=>match x.cV with
     |none=>none
     |some p=>match Nat.beq a.1 p.1,ow J Jr (i+1) r with
      |true,some c=>some (decide (a.2=p.2)&&c)
      |_,_=>none
section
variable {key N':Nat}{J Jr:a7 U}{J1 PC:a6}{bs:aY}
theorem LY:∀{bs:aY} {b:Nat},aS (Fh J bs) b=if b∈bs then none else aS J b
 |[],b=>by rfl
 |c::r,b=>by
  simp[Fh,mY,LY];grind
theorem su:∀{d:a7 U} {c:Nat} {x:cx U},aS (np J bs f d) c=some x->(∃b a,c=f b/\aS d b=some a/\x=a.b6 f)\/(c ∉ bs/\aS J c=some x)
 |[],c,x,h=>by
  grind[np,LY]
 |(b,y)::r,c,x,h=>by
  simp[np,gw]at h;split at h
  . grind[aS,Nat.beq_refl]
  . rcases su h with⟨e,a,h1,g,i⟩|h
    . grind[aS,cL]
    grind
theorem zM(bV:bs.Nodup)(aE:∀b,b∈bs->b<key){i j:Nat}(h:back bs key i=back bs key j):i=j:=by
 unfold back at h;cases d:bs[i]? with
 |some b=>
  rw[d]at h;have e:=aE b (eN d);cases a:bs[j]? with
  |some c=>
   rw[a]at h;simp at h;subst h;have:=mP bV d;rw[mP bV a]at this;grind
  |none=>grind
 |none=>
  cases a:bs[j]? with
  |some c=>
   have e:=aE c (eN a);grind
  |none=>grind
theorem Sq(g:∀i j,f i=f j->i=j):∀{a:a6} {b:Nat} {x:bJ},aR a b=some x->aR (hg J1 bs f a) (f b)=some (x.b6 f)
 |[],b,x,h=>by grind[aR]
 |(c,y)::r,b,x,h=>by
  simp[hg,cS];simp[aR]at h;by_cases d:c=b
  . grind
  . rw[ao d]at h;rw[ao (λe=>d (g _ _ e))];exact Sq g h
theorem SN{c:Nat}(e:c ∉ bs)(a:∀b,f b≠c):∀{d:a6},aR (hg J1 bs f d) c=aR J1 c
 |[]=>by grind[hg,qO]
 |(b,y)::r=>by
  simp[hg,cS];rw[ao (a b)];exact SN e a
theorem cx.yl{x:cx U}:(x.b6 f).cV=x.cV:=by cases x<;>simp[cx.b6,cx.cV]
theorem T0:∀{l:aY} {f:Nat} {c:Bool},ow J Jr f l=some c->c=true->∀(j b:Nat) d,l[j]?=some b->aS Jr (f+j)=some d->∃x,aS J b=some x/\∀p,d.cV=some p->x.cV=some p
 |[],f,c,h,m,j,b,d,n,I=>by grind
 |a::l,f,c,h,m,j,b,d,n,I=>by
  simp[ow]at h;have next:∀{g},ow J Jr (f+1) l=some g->g=true->∀i,j=i+1->∃x,aS J b=some x/\∀p,d.cV=some p->x.cV=some p:=by
   intro g h1 k i e;exact T0 h1 k i b d (by grind) (by grind)
  cases j with
  |zero=>
   grind[cL]
  |succ j=>
   split at h
   . grind
   grind
variable (bV:bs.Nodup)(aE:∀b,b∈bs->b<key)(cp:N'<=bs.length+16)(aA:ck key J J1)
include bV aE cp aA in
theorem b5.b6{x:bd U}{d:C}(h:b5 N' Jr x d):b5 (key+16) (np J bs (back bs key) Jr) (x.b6 (back bs key)) (d.b6 (back bs key)):=by
 cases h with
 |t c=>exact b5.t c
 |ptr b o=>exact b5.ptr _ o
 |cA b t i o=>exact b5.cA _ t i o
 |dF t x o=>exact b5.dF t x o
 |arr b sz n v h=>
  have e:back bs key b<key+16:=by
   unfold back;cases j:bs[b]? with
   |some c=>simp;have:=aE c (eN j);omega
   |none=>grind
  refine b5.arr _ sz n e λx I p ai=>?_;rcases su I with⟨q,A,h1,a,rfl⟩|⟨h1,a⟩
  . grind[zM,cx.yl]
  . have w:=(aA _ _ a).1;grind[back]
 |sub b y len=>exact b5.sub _ y _
 |pre b sz n v h=>
  have e:back bs key b<key+16:=by
   unfold back;cases j:bs[b]? with
   |some c=>simp;have:=aE c (eN j);omega
   |none=>grind
  refine b5.pre _ sz n e λx I p ai=>?_;rcases su I with⟨q,A,h1,a,rfl⟩|⟨h1,a⟩
  . grind[zM,cx.yl]
  . have w:=(aA _ _ a).1;grind[back]
 |dI b sz y len v h=>
  have e:back bs key b<key+16:=by
   unfold back;cases j:bs[b]? with
   |some c=>simp;have:=aE c (eN j);omega
   |none=>grind
  refine b5.dI _ sz y _ e λx I p ai=>?_;rcases su I with⟨q,A,h1,a,rfl⟩|⟨h1,a⟩
  . grind[zM,cx.yl]
  . have w:=(aA _ _ a).1;grind[back]
 |mp b=>exact b5.mp _
 |ei b=>exact b5.ei _
 |cr b n v h=>
  have e:back bs key b<key+16:=by
   unfold back;cases j:bs[b]? with
   |some c=>simp;have:=aE c (eN j);omega
   |none=>grind
  refine b5.cr _ n e λx I p ai=>?_;rcases su I with⟨q,A,h1,a,rfl⟩|⟨h1,a⟩
  . grind[zM,cx.yl]
  . have w:=(aA _ _ a).1;grind[back]
 |bD=>exact .bD
 |eQ=>exact .eQ
 |eP=>exact .eP
 |fn f caps=>exact b5.fn f _
 |dead d=>exact .dead _
theorem TS:∀{vs:List (bA U)} {i:Nat},(bA.b6.go f vs)[i]?=(vs[i]?).map (bA.b6 f)
 |[],i=>by rfl
 |v::vs,0=>by rfl
 |v::vs,i+1=>by simp[bA.b6.go,TS]
theorem SO:∀{vs:List (bA U)},(bA.b6.go f vs).length=vs.length
 |[]=>rfl
 |v::vs=>by simp[bA.b6.go,SO]
include bV aE cp aA in
theorem bL.b6{x:bA U}{d:V}(h:bL N' Jr x d):bL (key+16) (np J bs (back bs key) Jr) (x.b6 (back bs key)) (d.b6 (back bs key)):=by
 induction h with
 |c h=>exact .c (b5.b6 bV aE cp aA h)
 |agg h=>exact .agg (aV.map_map (h.imp λ_ _ _ ab=>b5.b6 bV aE cp aA ab))
 |aX xs a ae h ih=>
  refine .aX _ _ (by grind[SO,HM]) ?_;grind[TS,Jw]
include bV aE aA in
theorem Dm(e:ow J Jr 0 bs=some true):c0 key J (key+16) (np J bs (back bs key) Jr):=by
 refine⟨by simp,λc x i I=>?_⟩;rcases su I with⟨b,f,h1,d,rfl⟩|⟨h1,d⟩
 . unfold back at h1;cases a:bs[b]? with
   |some g=>
    rw[a]at h1;subst h1;obtain⟨x,k1,k2⟩:=T0 e rfl b c f a (by grind);grind[cx.yl]
   |none=>grind
 grind
include bV aE cp aA in
theorem ck.Gk(v:ow J Jr 0 bs=some true)(A:ck N' Jr PC):ck (key+16) (np J bs (back bs key) Jr) (hg J1 bs (back bs key) PC):=by
 intro c x I;have q:∀b,b<N'->back bs key b<key+16:=by
  intro b D;unfold back;cases w:bs[b]? with
  |some c=>simp;have:=aE c (eN w);omega
  |none=>grind
 rcases su I with⟨b,B,rfl,a,rfl⟩|⟨h1,a⟩
 . obtain⟨e,y,f,bj⟩:=A b B a;refine⟨q b e,y.b6 _,Sq (λi j=>zM bV aE) f,?_⟩;cases bj with
   |box bj=>exact .box (aV.map_map (bj.imp λ_ _ _ ab=>b5.b6 bV aE cp aA ab))
   |arr t l=>exact .arr t l
   |set ks=>exact .set ks
   |buf E s=>exact .buf E s
   |b3 bj=>exact .b3 (b5.b6 bV aE cp aA bj)
   |cw t l i o bj=>exact .cw t l i o (b5.b6 bV aE cp aA bj)
   |rows bj p=>exact .rows bj p
 . obtain⟨e,y,f,bj⟩:=aA c x a;refine⟨by omega,y,?_,?_⟩
   . grind[SN,back]
   . exact bj.mono (Dm bV aE aA v)
end
end
section
open Go
variable {xb:aY}
def E4(n:Nat):List (Nat×Nat)->Bool
 |(i,_)::_=>Nat.beq i n
 |[]=>false
theorem ZZ{l:List (bX×aY)}{p:Nat×Nat}(h:p∈ll l):p.1<l.length:=by
 grind[ll,FQ]
theorem YP{l:List (bX×aY)}(h:E4 l.length (sa l)=true):E1 l=true/\tz l.dropLast=true/\∀p,p∈ll l.dropLast->p∈sa l:=by
 unfold sa at h⊢;split at h
 . grind
 . cases ae:ll l with
   |nil=>rw[ae]at h;cases h
   |cons p r=>
    rw[ae]at h;have ai:p∈ll l:=(by grind);have:=ZZ ai;obtain⟨i,j⟩:=p;have a:Nat.beq i _=true:=h;simp_all
variable{D:Nat->aY}{listed:Array Bool}{Q:Exit->Env->a6->Nat->Prop}
theorem ZN{l:List (bX×aY)}{m:Nat}(g:l.length=m+1)(h:E1 l=true)(e:∀(i:Nat) x,l[i]?=some x->D i=x.2){p:Nat->Bool}(f:∀i,i<m->p i=true->∀d,d∈D i->p d=true)(ae:∀d,d∈D m->p d=true):
 ∀i,i<m->p i=true:=by
 have key:∀k i,i<m->m-i<=k->p i=true:=by
  intro k;induction k with
  |zero=>grind
  |succ k ih=>
   intro i h1 b;simp[E1]at h;have c:=h i (by omega);grind
 exactλi a=>key m i a (by simp)
section
variable {P:Program}{av:Ctx}{nt kk:Nat}{N:Nat}{ops:Array Oper}{init:List bX}{last:bX}{E:Nat->Env}{T:Nat->a6}{G:Nat->Bool}{W:Nat->V}
theorem Ei{i m:Nat}(hs:listed.size=m+1)(a:i<m):listed.pop.getD i false=listed.getD i false:=by
 simp;grind
theorem abB{i m:Nat}(hs:listed.size=m+1)(a:i<m):(listed.setIfInBounds i true).pop=listed.pop.setIfInBounds i true:=by grind
theorem Z0{Q:Exit->Act->World->Prop}{b:Nat}{a:Act}{w:World}(hs:listed.size=ops.size)(e:∀i,i<ops.size->listed.getD i false=true)(c:Q .normal a w):wpAny P .any ops Q b listed a w:=by
 have d:Region.ready .any ops listed=[]:=by
  rw[QP];grind[mem_ready]
 cases b with
 |zero=>exact⟨d,c⟩
 |succ b=>exact⟨λ_=>c,λi f=>by grind⟩
theorem ZO(st:Stat xb init D E N)(A:oB xb P init N E T G W)(hres:gI P nt ops ops.toList=some (init++[last]))(C:∀(i:Nat) o,ops[i]?=some o->D i=hf o)
 (au:∀(p:Nat->Bool),(∀i,i<init.length->p i=true->∀d,d∈D i->p d=true)->(∀d,d∈D init.length->p d=true)->∀i,i<init.length->p i=true)
 (an:∀d,d∈D init.length->d<init.length)
 {Q:Exit->Act->World->Prop}{K:Env->a6->Prop}(ar:av.k=kk)
 (bM:∃e6 B,Conv kk (N+16*init.length) (E init.length) (T init.length) (N+16*init.length) e6 B/\xE P last (N+16*init.length) e6 B K)
 (ag:∀e s φ S a w,K e s->Rel av nt φ S e s (eo (lt (N+16*init.length)) (N+16*init.length)) a w->Q .normal a w):
 ∀(f:Nat) (listed:Array Bool) φ S env J a w,listed.size=init.length+1->listed.getD init.length false=false->listed.toList.countP (· ==false)<=f->Inv xb av nt init D N E T G W listed.pop φ S env J a w->wpAny P .any ops Q f listed a w:=by
 have X:=x' hres;simp at X;have aw:∀(listed:Array Bool) (φ:cU) (S:cR) (env:Env) (J:a6) (a:Act) (w:World),listed.size=init.length+1->listed.getD init.length false=false->Inv xb av nt init D N E T G W listed.pop φ S env J a w->Region.ready .any ops listed≠[]:=by
  intro listed φ S env J a w hs x cN Y;have F:∀i,i<init.length->listed.getD i false=true:=by
   intro i;induction i using Nat.strongRecOn with
   |_ i ih=>
    intro n;cases ae:listed.getD i false with
    |true=>rfl
    |false=>
     have z:i<ops.size:=(by omega);have c:ops[i]?=some ops[i]:=CO z;have:i∈Region.ready .any ops listed:=by
      rw[mem_ready];refine⟨?_,ops[i],c,λe he ak=>?_⟩
      . grind
      . have g:e.on∈D i:=by
         rw[C i _ c];simp only[hf,eA,rA];grind
        exact ih e.on (st.back i _ n g) (by have:=st.back i _ n g;omega)
     grind
  have z:init.length<ops.size:=by omega
  have c:ops[init.length]?=some ops[init.length]:=CO z;have:init.length∈Region.ready .any ops listed:=by
   rw[mem_ready];refine⟨?_,ops[init.length],c,λe he ak=>?_⟩
   . grind
   . have g:e.on∈D init.length:=by
      rw[C _ _ c];simp only[hf,eA,rA];grind
     grind
  grind
 intro f;induction f with
 |zero=>
  intro listed φ S env J a w hs x M cN;exfalso;have v:init.length<listed.size:=by omega
  have h0:listed.toList.countP (· ==false)=0:=by omega
  rw[List.countP_eq_zero]at h0;simp[v]at x;exact h0 listed[init.length] (by simp) (by grind)
 |succ f ih=>
  intro listed φ S env J a w hs x M cN;refine⟨λY=>absurd Y (aw listed φ S env J a w hs x cN),λi n=>?_⟩;rw[mem_ready]at n;obtain⟨h1,o,c,ay⟩:=n;have z:i<ops.size:=(zF.1 c).1;have v:i<listed.size:=by omega
  have aN:listed.getD i false=false:=by grind
  obtain⟨r,L,Z⟩:=H6 hres (i:=i) (o:=o) (by grind);have g:∀d,d∈D i->listed.getD d false=true:=by
   intro d g;rw[C i o c]at g;simp only[hf,eA,rA]at g;grind
  have aq:listed.toList.countP (· ==false)<=f+1->(listed.setIfInBounds i true).toList.countP (· ==false)<=f:=by
   have:listed.toList[i]?=some false:=by simp[v]at aN⊢;exact aN
   grind
  rcases Nat.lt_or_ge i init.length with u|u
  ·
   have t:init[i]?=some r:=by rw[wI u]at L;exact L
   have O:∀d,d∈D i->listed.pop.getD d false=true:=λd l=>by rw[Ei hs (by have:=st.back i d u l;omega)];exact g d l
   have H:listed.pop.getD i false=false:=by rw[Ei hs u];exact aN
   obtain⟨ah,aj⟩:=cN.agree st A t H O;obtain⟨⟨bh,ax,ab⟩,_⟩:=(A.step i r t).1.local (env':=env) (J':=J) ah aj;have y:=DE cN.rel (key:=N+16*i) (λb al am=>Tg H al am) Z (K:=λe s=>e=eb env r.dst (G i) (W i)/\s=bh) (ax.hb ⟨rfl,rfl⟩) (Q:=Q);have next:∀bR w',jo av nt (eo (used N init.length listed.pop) (N+16*i)) (λe s=>e=eb env r.dst (G i) (W i)/\s=bh) bR w'->wpAny P .any ops Q f (listed.setIfInBounds i true) bR w':=by
    rintro bR w' ⟨a8,ba,e,s,⟨rfl,rfl⟩,R'⟩
    have ai:=abB (listed:=listed) (i:=i) (m:=init.length) hs u;refine ih (listed.setIfInBounds i true) a8 ba _ _ bR w' (by simpa using hs) ?_ (aq M) (by rw[ai];exact cN.step st A t H O ab R');rw[kj v,a'];exact x
   unfold wpOp;rw[c];dsimp only;split at y
   . rename_i q;rw[ad q];exact .inl (Oper.wp_mono next y)
   . rename_i q;rw[ao q];exact next _ _ y
  ·
   have n:i=init.length:=(by omega);subst n;have t:r=last:=(by grind);subst t;have F:=by
    refine au (λj=>listed.pop.getD j false) (λj U ai d l=>cN.down j U ai d l) (λd l=>?_);rw[Ei hs (an d l)];exact g d l
   have R:=cN.done st A F;obtain⟨e6,B,ap,y⟩:=bM;obtain⟨aA,p6,aa⟩:=ap av nt φ S a w ar R;have I:=IW aa Z y (Q:=Q);have next:∀bR w',jo av nt (eo (lt (N+16*init.length)) (N+16*init.length)) K bR w'->wpAny P .any ops Q f (listed.setIfInBounds init.length true) bR w':=by
    rintro bR w' ⟨a8,ba,e,s,af,R'⟩
    refine Z0 (by simp[hs,X]) (λj U=>?_) (ag e s a8 ba bR w' af R');rw[kj v];split
    . rfl
    . rename_i az;have V:j<init.length:=(by omega);rw[<-Ei hs V];exact F j V
   unfold wpOp;rw[c];dsimp only;split at I
   . rename_i q;rw[ad q];exact .inl (Oper.wp_mono next I)
   . rename_i q;rw[ao q];exact next _ _ I
theorem ch.agu{eL:List (Nat×Nat)}{env:Env}{J:a6}(ba:E4 (init.length+1) eL=true)
 (h:xF xb P init N env J (λe s=>ko xb init e N eL=true/\nu P kk [last] (N+16*init.length) e s (λe s=>Q .normal e s (N+16*init.length+16)))):ch P nt kk (.om (init++[last]) eL) env J N Q:=by
 intro code Y av φ S a w ap R;obtain⟨id,ops,rfl,hres,K,aE,rfl⟩:=RM Y;have a9:=x' hres;have O:(fg ops (init++[last])).length=init.length+1:=by grind[fg]
 obtain⟨ax,F,a3⟩:=YP (l:=fg ops (init++[last])) (by grind);obtain⟨E,T,G,W,L,ds,t0,Z,U⟩:=Jf h;have a0:(fg ops (init++[last])).dropLast=fg ops.pop init:=by
  obtain⟨M,x,I⟩:∃M x,ops.toList=M++[x]:=by
   cases ae:ops.toList.reverse with
   |nil=>simp_all
   |cons x r=>simp_all
  simp_all[fg,Array.toList_pop,rB,List.zip_append]
 rw[a0]at F;have am:ko xb init (E init.length) N (ll (fg ops.pop init))=true:=Is (λp ai=>a3 p (by grind)) Z;have q:=NZ (ops:=ops.pop) (by grind) F L am;let D:Nat->aY:=λi=>((ops[i]?).map hf).getD [];have B:∀i,i<init.length->((ops.pop[i]?).map hf).getD []=D i:=by grind
 have st:Stat xb init D E N:=by
  refine⟨λi d c an=>q.back i d c (by grind),λi j x y d I ag a8=>?_,λi j b aF c H a4 v=>?_⟩
  . have:=q.wU i j x y d I ag a8;grind
  . rcases q.ord i j b aF c H a4 v with⟨h1,f⟩|⟨h1,f⟩
    . exact .inl ⟨h1,f.congr q.back B H⟩
    . exact .inr ⟨h1,f.congr q.back B c⟩
 have a5:∀(i:Nat) x,(fg ops (init++[last]))[i]?=some x->D i=x.2:=by
  grind[fg]
 refine wp_region_any aE ?_;have a2:=U;have X:∀d,d∈D init.length->d<init.length:=by
  intro d an;simp only[tz,cK]at K;have I:(fg ops (init++[last]))[init.length]?=some _:=eC (by omega);have:=HO K.1.1 I d (by grind);omega
 refine ZO (av:=av) (nt:=nt) (D:=D) st L hres (λi o aZ=>by grind) (λp h1 f=>ZN O ax a5 h1 f) X ap a2 (λe s φ S a w a1 R'=>⟨φ,S,e,s,_,a1,R'.more λb v=>E2 v⟩) ops.size _ φ S env J a _ ?_ ?_ ?_ ?_
 . grind
 . rw[Array.getD_eq_getD_getElem?,Array.getElem?_replicate];grind
 . grind[List.countP_le_length]
 . have R':=R.drew;have A:∀i,(Array.replicate ops.size false).pop.getD i false=true->False:=by
    intro i ae;simp only[Array.getD_eq_getD_getElem?,Array.getElem?_pop]at ae;grind
   refine⟨R'.more λb v=>by grind[used],by grind,λi c ae=>(A i ae).elim,λt _=>by grind,λt i o aZ ae=>(A i ae).elim,λb _=>by grind,λb i c ae=>(A i ae).elim⟩
end
end
end Go.Proofs.YtklfhpkljddjbaaGreatDoor.Shv
