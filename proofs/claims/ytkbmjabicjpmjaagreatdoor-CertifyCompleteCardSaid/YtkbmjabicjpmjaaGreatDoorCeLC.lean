/- The library of this proof, part C: an abstract machine for the code of the program, and its soundness. -/
import Derived.Test.YtkbmjabicjpmjaaGreatDoorCeLB

namespace Go.Proofs.YtkbmjabicjpmjaaGreatDoor.Shv
set_option linter.all false
section
open Go
variable {xb:aZ}
def j1(xb:aZ)(a':List b5)(env:Env)(N:Nat):List (Nat×Nat)->Bool
 |[]=>true
 |(i,j)::r=>(match a'[i]?,a'[j]? with
  |some x,some y=>(dN xb y.op env (N+16*j)).all λb=>!(ct xb x.op env (N+16*i) b)
  |_,_=>true)&&j1 xb a' env N r
variable{env:Env}{N:Nat}{a':List b5}
theorem Rw:∀{eB:List (Nat×Nat)} {i j:Nat} {x y:b5},j1 xb a' env N eB=true->(i,j)∈eB->a'[i]?=some x->a'[j]?=some y->∀b,b∈dN xb y.op env (N+16*j)->ct xb x.op env (N+16*i) b=false
 |[],i,j,x,y,h,a,_,_,_,_=>by simp at a
 |(d,f)::r,i,j,x,y,h,a,I,ak,b,c=>by
  simp only[j1,cO]at h;rcases fg.1 a with e|a
  . grind
  . exact Rw h.2 a I ak b c
section
variable {P:Program}{au:Ctx}{nt kk:Nat}{N:Nat}{ops:Array Oper}{a':List b5}{E:Nat->Env}{T:Nat->a8}{G:Nat->Bool}{W:Nat->V}
theorem Wd{i:Nat}{o:Oper}{x:b5}(a:ops[i]?=some o)(I:a'[i]?=some x):(fj ops a')[i]?=some (x,gM o):=by
 unfold fj;grind
theorem JB(af:a'.length=ops.size)(H:ri (fj ops a')=true)(V:nE xb P a' N E T G W)(S:j1 xb a' (E a'.length) N (ku (fj ops a'))=true):
 Stat xb a' (λi=>((ops[i]?).map gM).getD []) E N:=by
 simp only[ri,cO]at H;obtain⟨⟨R,J⟩,_⟩:=H;have e:∀i,i<a'.length->∃o x,ops[i]?=some o/\a'[i]?=some x/\(fj ops a')[i]?=some (x,gM o):=by
  intro i f;have s:ops[i]?=some ops[i]:=z8 (by omega);have I:a'[i]?=some a'[i]:=df f;exact⟨_,_,s,I,Wd s I⟩
 have aa:∀i j,ahead (fj ops a') j i=true->j<i/\j∈((ops[i]?).map gM).getD []:=by
  intro i j h;obtain⟨h1,y,n,Z⟩:=Zd h;refine⟨h1,?_⟩;have f:i<a'.length:=by
   have:=(dL.1 n).1;unfold fj at this;simp at this;omega
  grind
 have K:∀(i j:Nat) (x y:b5) (d:Nat),a'[i]?=some x->a'[j]?=some y->y.dst=some d->(d∈x.rd->(j<i/\j∈((ops[i]?).map gM).getD [])\/(x.op.neutral=true/\x.op.ho=false/\i<j/\i∈((ops[j]?).map gM).getD []))/\(i=j\/x.dst≠some d):=by
  intro i j x y d I ak ai;obtain⟨v,Y,D,m,p⟩:=e i (dL.1 I).1;obtain⟨w,O,F,c,q⟩:=e j (dL.1 ak).1;rw[I]at m;cases m;rw[ak]at c;cases c;simp only[Pd,fk]at J;have h1:=J ((x,gM v),i) (eV (i:=i) (by simp[zQ,p]));have n:=h1 ((y,gM w),j) (eV (i:=j) (by simp[zQ,q]));grind
 refine⟨λi d f aj=>?_,K,?_⟩
 . obtain⟨o,x,s,I,Q⟩:=e i f;rw[s]at aj;have:=FA R Q d aj;omega
 ·
  have C:∀(i:Nat) (x:b5),a'[i]?=some x->¬(x.op.neutral=true/\x.op.ho=false)->∀t,t∈x.op.reads->look (E a'.length) t=look (E i) t:=by
   intro i x I ag t ht;have f:=(dL.1 I).1;refine ua V (by omega) (e6 _) λj y ab ad ak X=>?_;rcases (K i j x y t I ak X).1 (Iv ht)with h|h
   . omega
   grind
  have ah:∀i j,nj (mw (fj ops a') []) j i=true->j<i/\iE (λi=>((ops[i]?).map gM).getD []) j i:=by
   intro i j h;simp only[nj,cO,gg,Dy]at h;refine⟨h.1,RF (l:=fj ops a') (acc:=[]) (λk x I=>?_) (λi j z=>by simp at z) i j h.2⟩;have ae:k<a'.length:=by
    have:=(dL.1 I).1;unfold fj at this;simp at this;omega
   grind
  have A:∀(i j:Nat) (x y:b5) (b:Nat),i≠j->a'[i]?=some x->a'[j]?=some y->ct xb x.op (E i) (N+16*i) b=true->b∈dN xb y.op (E j) (N+16*j)->nj (mw (fj ops a') []) i j=true\/nj (mw (fj ops a') []) j i=true:=by
   intro i j x y b r I ak g a;by_cases h1:nj (mw (fj ops a') []) i j=true
   . grind
   . by_cases n:nj (mw (fj ops a') []) j i=true
     . grind
     . exfalso;obtain⟨v,Y,D,m,p⟩:=e i (dL.1 I).1;obtain⟨w,O,F,c,q⟩:=e j (dL.1 ak).1;rw[I]at m;cases m;rw[ak]at c;cases c;have ht:y.op.ho=true:=by
        cases h:y.op.ho with
        |true=>rfl
        |false=>rw[Xw h]at a;simp at a
       have U:(i,j)∈ku (fj ops a'):=by
        simp only[ku,CU,List.mem_flatMap];refine⟨((x,gM v),i),eV (i:=i) (by simp[zQ,p]),?_⟩;dsimp only;rw[HE g];simp only[bU,bN,List.mem_filterMap];refine⟨((y,gM w),j),eV (i:=j) (by simp[zQ,q]),?_⟩;grind
       have:=Rw S U I ak b (by rw[Zc (C j y ak (λh=>by rw[ht]at h;cases h.2))];exact a);rw[Zb (C i x I (λh=>by rw[HE g]at h;cases h.1))]at this;grind
  intro i j b r f z g a;obtain⟨v,x,D,I,p⟩:=e i f;obtain⟨w,y,F,ak,q⟩:=e j z;have u:ct xb x.op (E i) (N+16*i) b=true:=by unfold h7 at g;rw[I]at g;exact g
  have conv:(nj (mw (fj ops a') []) i j=true\/nj (mw (fj ops a') []) j i=true)->(i<j/\iE (λi=>((ops[i]?).map gM).getD []) i j)\/(j<i/\iE (λi=>((ops[i]?).map gM).getD []) j i):=by grind
  rcases a with⟨O,c,a⟩|a
  . rw[ak]at c;cases c;exact conv (A i j x y b r I ak u a)
  . have B:ct xb y.op (E j) (N+16*j) b=true:=by unfold h7 at a;rw[ak]at a;exact a
    cases M:y.op.ho with
    |true=>exact conv (A i j x y b r I ak u (Ru M B))
    |false=>
     cases L:x.op.ho with
     |true=>exact conv (A j i y x b (du r) ak I B (Ru L u)).symm
     |false=>
      have h1:=JA L u;have n:=JA M B;exfalso;omega
theorem Fk:∀{l m:List (Nat×Nat)},(∀p,p∈l->p∈m)->j1 xb a' env N m=true->j1 xb a' env N l=true
 |[],_,_,_=>rfl
 |(i,j)::r,m,hs,h=>by
  simp only[j1,cO];refine⟨?_,Fk (λp al=>hs p (zR _ al)) h⟩
  have:∀ (m:List (Nat×Nat)),(i,j)∈m->j1 xb a' env N m = true->(match a'[i]?,a'[j]? with
   |some x,some y=>(dN xb y.op env (N+16*j)).all λb=>!(ct xb x.op env (N+16*i) b)
   |_,_=>true)=true:=by
   intro m;induction m with
   |nil=>intro h _;simp at h
   |cons q m ih=>
    intro c a;obtain⟨d,e⟩:=q;simp only[j1,cO]at a;grind
  grind
theorem Ze{l:List (b5×aZ)}{p:Nat×Nat}(h:p∈ku l):p∈q2 l:=by
 unfold q2;grind
theorem cl.nB{eB:List (Nat×Nat)}{env:Env}{J:a8}{Q:Exit->Env->a8->Nat->Prop}(h:vA xb P a' N env J (λe s=>j1 xb a' e N eB=true/\Q .normal e s (N+16*a'.length))):cl P nt kk (.nB a' eB) env J N Q:=by
 intro code v au φ S a w F R;obtain⟨id,ops,rfl,hres,D,B,rfl⟩:=PX v;have c:=we hres;simp at c;obtain⟨E,T,G,W,g,dc,t0,y,j⟩:=FQ h;refine wp_region_any B ?_;refine Wc (au:=au) (nt:=nt) (JB c D g (Fk (λp al=>Ze al) y)) g hres (λi o f=>by simp[f]) (λφ S a w R'=>⟨φ,S,_,_,_,j,R'⟩) ops.size _ φ S env J a _ ?_ ?_
 . have:=List.countP_le_length (p:=λx:Bool=>x==false) (l:=(Array.replicate ops.size false).toList);grind
 . have R':Rel au nt φ S env J (lt N) a {w with drawn:=w.drawn+1}:=R.drew;refine⟨R'.more λb q=>by simp[used,q],by simp[c],λi A ag=>?_,λt _=>by rw[dc],λt i o f ag=>?_,λb _=>by rw[t0],λb i A ag=>?_⟩
   . simp_all
   . exfalso;simp[Array.getElem?_replicate]at ag;split at ag<;>simp at ag
   simp_all
end
end
section
open Go
def sH(P:Program)(c:Code)(Q:Exit->Act->World->Prop)(a:Act)(w:World):Prop:=
 ∀(b:Frame) (k:List Item) (cs:List Frame),∃e b4 w',Q e b4 w'/\Arrives P (lone (b.at a (.code c:: .inLoop c::k)) cs w) b k cs e b4 w'
variable{Q:Exit->Act->World->Prop}{w:World}{P:Program}{a:Act}{c:dx}{S:c6}{φ:c0}{au:Ctx}{D:Nat->Type}
theorem tT{c:Code}(h:c.wp P (Exit.then (sH P c Q) Q) a w):sH P c Q a w:=by
 intro b k cs;obtain⟨e,g,i,f,d⟩:=h b _ cs;cases e with
 |normal=>
  obtain⟨m,j,p,o,n⟩:=f b k cs;exact⟨m,j,p,o,.of_steps (Steps.trans d (.one step_inLoop)) n⟩
 |exit id=>exact⟨_,g,i,f,.pass rfl (λ_ _=>.inl (by simp)) d⟩
 |goto l=>exact⟨_,g,i,f,.pass (x:= .inLoop c) rfl (λ_ _=>.inl (by simp)) d⟩
 |ret=>exact⟨_,g,i,f,.pass (x:= .inLoop c) rfl (λ_ _=>.inl (by simp)) d⟩
 |panic ik=>exact⟨_,g,i,f,.pass (x:= .inLoop c) rfl (λ_ _=>.inl (by simp)) d⟩
 |outgrown=>exact⟨_,g,i,f,.pass (x:= .inLoop c) rfl (λ_ _=>.inl (by simp)) d⟩
theorem Bp{c:Code}(h:sH P c Q a w):(Code.loop c).wp P Q a w:=by
 intro b k cs;obtain⟨e,b4,w',f,d⟩:=h b k cs;exact⟨e,b4,w',f,.of_steps (.one step_loop) d⟩
section
variable {P:Program}{nt kk:Nat}{env env':Env}{J J':a8}{N N':Nat}{Q mq:Exit->Env->a8->Nat->Prop}
def lu(P:Program)(nt kk:Nat)(c:dx)(env:Env)(J:a8)(N:Nat)(Q:Exit->Env->a8->Nat->Prop):Prop:=
 ∀code,resolve P nt code=some c->∀au φ S a w,au.k=kk->Rel au nt φ S env J (lt N) a w->sH P code (λe b4 w'=>∃bg bj env' J' N',Q e env' J' N'/\Rel au nt bg bj env' J' (lt N') b4 w') a w
theorem lu.round(h:cl P nt kk c env J N (andThen (λenv J N=>lu P nt kk c env J N Q) Q)):lu P nt kk c env J N Q:=by
 intro code f au φ S a w g R;refine tT (wp_mono (h _ f au φ S a w g R) ?_)
 rintro e b4 w' ⟨bg,bj,env',J',N',j,R'⟩
 cases e with
 |normal=>exact j _ f au _ bj b4 w' g R'
 |_=>exact⟨bg,bj,env',J',N',j,R'⟩
theorem cl.ad3(h:lu P nt kk c env J N Q):cl P nt kk (.loop c) env J N Q:=by
 intro code f au φ S a w g R;obtain⟨b,rfl,e⟩:=V' f;exact Bp (h b e au φ S a w g R)
def Conv(kk N:Nat)(env:Env)(J:a8)(N':Nat)(env':Env)(J':a8):Prop:=
 ∀au nt φ S a w,au.k=kk->Rel au nt φ S env J (lt N) a w->∃bg bj,Rel au nt bg bj env' J' (lt N') a w
theorem Conv.refl:Conv kk N env J N env J:=λ_ _ φ S _ _ _ R=>⟨φ,S,R⟩
theorem Conv.trans{c e f:Nat}{aN g dw:Env}{s1 o p:a8}(h:Conv kk c aN s1 e g o)(k:Conv kk e g o f dw p):Conv kk c aN s1 f dw p:=
 λau nt φ S a w j R=>let⟨bg,bj,R'⟩:=h au nt φ S a w j R;k au nt _ bj a w j R'
theorem cl.conv(f:Conv kk N env J N' env' J')(h:cl P nt kk c env' J' N' Q):cl P nt kk c env J N Q:=
 λcode g au φ S a w e R=>let⟨bg,bj,R'⟩:=f au nt φ S a w e R;h _ g au _ bj a w e R'
theorem lu.conv(f:Conv kk N env J N' env' J')(h:lu P nt kk c env' J' N' Q):lu P nt kk c env J N Q:=
 λcode g au φ S a w e R=>let⟨bg,bj,R'⟩:=f au nt φ S a w e R;h _ g au _ bj a w e R'
theorem Conv.tidy(ks bs:aZ)(b3:bs.Nodup)(c:keeps kk bs=true):Conv kk N env J bs.length (mV bs env ks) (fv bs J 0 bs):=
 λau nt φ S a w e R=>let⟨bg,R'⟩:=R.tidy ks bs b3 (by grind);⟨bg,S,R'⟩
theorem Conv.freeze(b0:Nat){c:Nat}{es:List (List T)}(e:aP J b0=some (.arr c es)):Conv kk N env J N (qm b0 c es env) (lY b0 c es J):=
 λau nt φ S a w f R=>⟨φ,_,R.freeze e⟩
def dC(c a:C):Prop:=(∀φ w S v,bq φ w S c v->bq φ w S a v)/\∀n,c.aA n=true->a.aA n=true
theorem dC.refl(c:C):dC c c:=⟨λ_ _ _ _ h=>h,λ_ h=>h⟩
theorem dC.dead(c:C):dC c .dead:=⟨λ_ _ _ _ h=>h.iz,λ_ _=>rfl⟩
theorem dC.aT:dC .aT (.t (.slice [])):=by
 refine⟨?_,λ_ _=>rfl⟩
 rintro φ w S v ⟨a,rfl⟩
 exact bP.slice [] a 0 0 0 0 (λ_ _=>undef) (by simp) (by simp) (by simp) (by simp) (by simp) (by simp)
inductive gj:V->V->Prop
 |c {x y}:dC x y->gj (.c x) (.c y)
 |agg {xs ys}:a6 dC xs ys->gj (.agg xs) (.agg ys)
 |ba (xs ys:List V) (ag:xs.length=ys.length) (h:∀(i:Nat) x y,xs[i]?=some x->ys[i]?=some y->gj x y):gj (.ba xs) (.ba ys)
theorem a6.comp{α e f:Type}{R:α->e->Prop}{R':e->f->Prop}{g:α->f->Prop}(h:∀a b c,R a b->R' b c->g a c):∀{l:List α} {m:List e} {k:List f},a6 R l m->a6 R' m k->a6 g l k
 |[],[],[],_,_=>.nil
 |_::_,_::_,_::_,.cons h1 j,.cons bn bt=>.cons (h _ _ _ h1 bn) (a6.comp h j bt)
theorem a6.flip{α c:Type}{R:α->c->Prop}{R':c->α->Prop}{l:List α}{m:List c}(h:a6 R l m)(k:∀a b,R a b->R' b a):a6 R' m l:=by
 induction h with
 |nil=>exact .nil
 |cons h _ ih=>exact .cons (k _ _ h) ih
theorem Mp{n:Nat->Bool}:∀{vs:List V},(∀(i:Nat) v,vs[i]?=some v->v.aA n=true)->V.aA.V.dr n vs=true
 |[],_=>rfl
 |v::vs,h=>by simp[V.aA.V.dr];exact⟨h 0 v rfl,Mp λi x I=>h (i+1) x (by grind)⟩
theorem gj.DV{v f:V}(h:gj v f):∀{x},b2 φ w S v x->b2 φ w S f x:=by
 induction h with
 |c h=>intro x I;cases I with|c I=>exact .c (h.1 _ _ _ _ I)
 |agg h=>
  intro x I;cases I with
  |agg I=>exact .agg (a6.comp (λa b c h1 e=>h1.1 _ _ _ _ e) (h.flip λ_ _ h=>h) I)
 |ba xs ys ag h ih=>
  intro x I;cases I with
  |ba _ g j e=>
   refine .ba _ g (by omega) ?_;grind
theorem gj.aA{v f:V}(h:gj v f)(n:Nat->Bool):v.aA n=true->f.aA n=true:=by
 induction h with
 |c h=>intro e;exact h.2 n e
 | @agg xs ys h=>
  intro e;simp[V.aA]at e⊢;intro c j;obtain⟨i,o,rfl⟩:=jk j;obtain⟨a,g,hs⟩:=(h.flip λ_ _ h=>h).get (df o);exact hs.2 n (e a (eV g))
 |ba xs ys ag h ih=>
  grind[V.aA,Mp,lR]
inductive jO:bT->bT->Prop
 |box {xs ys}:a6 dC xs ys->jO (.box xs) (.box ys)
 |arr {sz es}:jO (.arr sz es) (.arr sz es)
 |same {x}:jO x x
 |b1 {E c vw}:dC c vw->jO (.b1 E c) (.b1 E vw)
 |cx {sz es i o c vw}:dC c vw->jO (.cx sz es i o c) (.cx sz es i o vw)
def KD(env env':Env):Prop:=∀k g a,look env' k=some (g,a)->∃v,look env k=some (g,v)/\gj v a
def qV(J J':a8):Prop:=∀b a,aP J' b=some a->∃x,aP J b=some x/\jO x a
theorem jO.DS{b:Nat}{x j:bT}(h:jO x j)(g:cU φ w S b x):cU φ w S b j:=by
 cases h with
 |arr=>grind
 |same=>grind
 |b1 h=>
  obtain⟨h0,⟨p,v,h1,e,f⟩,o⟩:=g;exact⟨h0,⟨p,v,h1,e,h.1 _ _ _ _ f⟩,o⟩
 |cx h=>
  obtain⟨h1,⟨vs,E,bn,bt,bY,v,cw,cW⟩,dm⟩:=g;exact⟨h1,⟨vs,E,bn,bt,bY,v,cw,h.1 _ _ _ _ cW⟩,dm⟩
 |box h=>
  obtain⟨h0,vs,E,h1,e,f⟩:=g;exact⟨h0,vs,E,h1,a6.comp (λa b c h1 e=>h1.1 _ _ _ _ e) (h.flip λ_ _ h=>h) e,f⟩
theorem jO.aA{x c:bT}(h:jO x c)(n:Nat->Bool)(a:x.aA n=true):c.aA n=true:=by
 cases h with
 |arr=>rfl
 |same=>grind
 |b1 h=>exact h.2 n a
 |cx h=>exact h.2 n a
 | @box xs ys h=>
  have:=gj.aA (.agg h) n (by grind[V.aA,bT.aA]);grind[V.aA,bT.aA]
theorem Rel.weaken{n:Nat->Bool}(R:Rel au nt φ S env J n a w)(he:KD env env')(hs:qV J J'):Rel au nt φ S env' J' n a w:=by
 refine⟨⟨λb x I=>?_,λb f x y I ak=>?_,R.bD.st⟩,λk g v ag ao=>?_,λk g v ag ao=>?_,λk g v ag ao=>?_,λb x I=>?_,R.size,R.defers,R.ext,λb x I=>?_,R.fix,R.fT⟩
 . obtain⟨e,h1,c⟩:=hs b x I;exact c.DS (R.bD.blk b e h1)
 . obtain⟨e,h1,c⟩:=hs b x I;obtain⟨o,bn,bt⟩:=hs f y ak;exact R.bD.inj b f e o h1 bn
 . obtain⟨v0,h1,c⟩:=he k g v ag;obtain⟨x,I,j⟩:=R.fJ k g v0 h1 ao;exact⟨x,I,c.DV j⟩
 . obtain⟨v0,h1,c⟩:=he k g v ag;exact R.gp k g v0 h1 ao
 . obtain⟨v0,h1,c⟩:=he k g v ag;exact c.aA n (R.fI k g v0 h1 ao)
 . obtain⟨e,h1,c⟩:=hs b x I;exact⟨(R.dz b e h1).1,c.aA n (R.dz b e h1).2⟩
 . obtain⟨e,h1,c⟩:=hs b x I;exact R.own b e h1
theorem Conv.weaken(he:KD env env')(hs:qV J J'):Conv kk N env J N env' J':=λau nt φ S a w _ R=>⟨φ,S,R.weaken he hs⟩
theorem Rel.Dq(R:Rel au nt φ S env J (lt N) a w){sz:Nat}(t:0<sz)(B:au.k<=N):
 Rel au nt (et φ N (0,0)) S env (cZ J N (.arr sz [])) (lt (N+1)) a w:=by
 have A:∀b,lt N b=true->et φ N (0,0) b=φ b:=by
  intro b f;simp[lt]at f;grind[et]
 have j:∀b,lt N b=true->lt (N+1) b=true:=λb f=>Ch (by simp) f;have c:=R.sw A;have cr:(et φ N (0,0) N).2=0:=by simp[et]
 have e:∀b x,aP (cZ J N (.arr sz [])) b=some x->(b=N/\x= .arr sz [])\/(b≠N/\aP J b=some x):=by
  grind[cQ]
 refine⟨⟨λb x I=>?_,λb o x y I ak q h0 p=>?_,c.bD.st⟩,c.fJ,c.gp,λk g v ag ao=>V.gO j (c.fI k g v ag ao),λb x I=>?_,c.size,c.defers,c.ext,λb x I h0=>?_,c.fix,λb f=>by simp[lt];omega⟩
 . rcases e b x I with⟨rfl,rfl⟩|⟨_,I⟩
   . exact⟨by simp,by simp,by simp,t,λh=>absurd cr h⟩
   . exact c.bD.blk b x I
 . rcases e b x I with⟨rfl,rfl⟩|⟨_,I⟩
   . grind
   . rcases e o y ak with⟨rfl,rfl⟩|⟨_,ak⟩
     . grind
     . exact c.bD.inj b o x y I ak q h0 p
 . rcases e b x I with⟨rfl,rfl⟩|⟨_,I⟩
   . exact⟨by simp[lt],rfl⟩
   . exact⟨j b (c.dz b x I).1,bT.gO j (c.dz b x I).2⟩
 . rcases e b x I with⟨rfl,rfl⟩|⟨_,I⟩
   . grind
   . exact c.own b x I h0
end
inductive aH where
 |bool
 |int (k:IntKind)
 |str
 |slice (t:aH)
 |nm (n:Nat)
def aH.beq:aH->aH->Bool
 |.bool,.bool=>true
 |.int k,.int a=>decide (k=a)
 |.str,.str=>true
 |.slice r,.slice c=>aH.beq r c
 |.nm n,.nm m=>Nat.beq n m
 |_,_=>false
theorem aH.beq_eq:∀{a b:aH},aH.beq a b=true->a=b
 |.bool,.bool,_=>rfl
 |.int k,.int c,h=>by grind[aH.beq]
 |.str,.str,_=>rfl
 |.slice r,.slice e,h=>by simp[aH.beq]at h;rw[aH.beq_eq h]
 |.nm n,.nm m,h=>by grind[aH.beq,Nat.eq_of_beq_eq_true]
 |.bool,.int _,h|.bool,.str,h|.bool,.slice _,h|.bool,.nm _,h=>by simp[aH.beq]at h
 |.int _,.bool,h|.int _,.str,h|.int _,.slice _,h|.int _,.nm _,h=>by simp[aH.beq]at h
 |.str,.int _,h|.str,.bool,h|.str,.slice _,h|.str,.nm _,h=>by simp[aH.beq]at h
 |.slice _,.int _,h|.slice _,.str,h|.slice _,.bool,h|.slice _,.nm _,h=>by simp[aH.beq]at h
 |.nm _,.int _,h|.nm _,.str,h|.nm _,.bool,h|.nm _,.slice _,h=>by grind[aH.beq]
theorem aH.beq_refl:∀(a:aH),aH.beq a a=true
 |.bool=>rfl
 |.int k=>by simp[aH.beq]
 |.str=>rfl
 |.slice r=>by exact aH.beq_refl r
 |.nm n=>by grind[aH.beq,Nat.beq_refl]
def aH.dec(a b:aH):Decidable (a=b):=
 match h:aH.beq a b with
 |true=>.isTrue (aH.beq_eq h)
 |false=>.isFalse λe=>by rw[e,aH.beq_refl]at h;cases h
def aH.den(D:Nat->Type):aH->Type
 |.bool=>Bool
 |.int _=>Int
 |.str=>aD
 |.slice t=>List (aH.den D t)
 |.nm n=>D n
structure Cell (D:Nat->Type) where
 ty:aH
 val:ty.den D
def Cell.as{D:Nat->Type}(t:aH)(c:Cell D):Option (t.den D):=
 match aH.dec c.ty t with
 |.isTrue h=>some (Eq.rec (motive:=λt _=>aH.den D t) c.val h)
 |.isFalse _=>none
variable{t:aH}
theorem Cell.jw{c:Cell D}{x:t.den D}(h:c.as t=some x):c=⟨t,x⟩:=by
 obtain⟨u,v⟩:=c;unfold Cell.as at h;split at h
 all_goals grind
theorem Cell.Mm{x:t.den D}:Cell.as t (⟨t,x⟩:Cell D)=some x:=by
 unfold Cell.as;split
 . rfl
 grind
def C8(D:Nat->Type)(enc:∀n,D n->List T):(t:aH)->t.den D->List T
 |.bool,b=>[.bool b]
 |.int k,n=>[.int k n]
 |.str,s=>[.str s]
 |.slice t,l=>[.slice (List.map (C8 D enc t) l)]
 |.nm n,x=>enc n x
def Ot(D:Nat->Type)(enc:∀n,D n->List T):Cell D->T
 |⟨.bool,b⟩=>.bool b
 |⟨.int k,n⟩=>.int k n
 |⟨.str,s⟩=>.str s
 |⟨.slice t,l⟩=>.slice (List.map (C8 D enc t) l)
 |⟨.nm _,_⟩=>.bool false
structure cE where
 D:Nat->Type
 jD:∀n,D n
 tf:∀n,D n->List (Cell D)
 make:∀n,List (Cell D)->Option (D n)
 dh:Nat->List aH
 enc:∀n,D n->List T
 Ou:∀n x,enc n x=(tf n x).map (Ot D enc)
 mk_eq:∀n l x,make n l=some x->tf n x=l
 Pg:∀n x,(tf n x).map Cell.ty=dh n
 pos:∀n,0<(dh n).length
 Pf:Nat->Option aH:=λ_=>none
 own:List (List Bool×Nat×aH):=[]
 cc:Option aH:=none
variable {U:cE}
abbrev cE.C(U:cE):=Cell U.D
abbrev aH.d(U:cE)(t:aH):=t.den U.D
def aH.jD(U:cE):(t:aH)->t.den U.D
 |.bool=>false
 |.int _=>(0:Int)
 |.str=>([]:aD)
 |.slice t=>([]:List (t.den U.D))
 |.nm n=>U.jD n
def aH.tk:aH->Bool
 |.nm _=>true
 |_=>false
def aH.row(U:cE):(t:aH)->t.den U.D->List (Cell U.D)
 |.bool,b=>[⟨.bool,b⟩]
 |.int k,n=>[⟨.int k,n⟩]
 |.str,s=>[⟨.str,s⟩]
 |.slice t,l=>[⟨.slice t,l⟩]
 |.nm n,x=>U.tf n x
def aH.cells(U:cE):aH->List aH
 |.nm n=>U.dh n
 |t=>[t]
def aH.sz(U:cE)(t:aH):Nat:=(t.cells U).length
def iz(U:cE)(t:aH):List (Cell U.D)->Option (t.den U.D)
 |[c]=>c.as t
 |_=>none
def aH.mk(U:cE):(t:aH)->List (Cell U.D)->Option (t.den U.D)
 |.nm n,l=>U.make n l
 |.bool,l=>iz U .bool l
 |.int k,l=>iz U (.int k) l
 |.str,l=>iz U .str l
 |.slice t,l=>iz U (.slice t) l
variable{x:t.den U.D}
theorem AS{l:List (Cell U.D)}(h:iz U t l=some x):l=[⟨t,x⟩]:=by
 unfold iz at h;grind[Cell.jw]
def Cell.enc(U:cE)(c:Cell U.D):T:=Ot U.D U.enc c
def aH.enc(U:cE)(t:aH)(x:t.den U.D):List T:=C8 U.D U.enc t x
theorem aH.ta:t.enc U x=(t.row U x).map (Cell.enc U):=by
 cases t<;>first|rfl|skip
 case nm n=>exact U.Ou n x
theorem aH.aeu:(t.row U x).map Cell.ty=t.cells U:=by
 cases t<;>first|rfl|skip
 case nm n=>exact U.Pg n x
theorem aH.Pa:(t.row U x).length=t.sz U:=by
 rw[<-qy,aH.aeu];rfl
theorem aH.q6:(t.enc U x).length=t.sz U:=by
 rw[aH.ta,qy,aH.Pa]
theorem aH.vc:0<t.sz U:=by
 cases t<;>simp[aH.sz,aH.cells];exact U.pos _
theorem aH.Dm:∀{t:aH} {l:List (Cell U.D)} {x:t.den U.D},t.mk U l=some x->t.row U x=l
 |.nm n,l,x,h=>U.mk_eq n l x h
 |.bool,l,x,h=>(AS h).symm
 |.int k,l,x,h=>(AS h).symm
 |.str,l,x,h=>(AS h).symm
 |.slice t,l,x,h=>(AS h).symm
def aH.at(U:cE)(t:aH)(l:List (t.den U.D))(i:Nat):t.den U.D:=l.getD i (t.jD U)
theorem xI{l:List (t.den U.D)}{i:Nat}(h:i<l.length):el (l.map (t.enc U)) i=t.enc U (t.at U l i):=by
 simp[el,aH.at,df h]
end
section
open Go
variable {U:cE}
inductive bo (U:cE) where
 |t (c:Cell U.D)
 |ptr (b o:Nat)
 |cH (b:Nat)(t:aH)(i o:Nat)
 |dF (t:aH)(x:t.den U.D)(o:Nat)
 |arr (b:Nat)
 |sub (b ns len:Nat)
 |pre (b h:Nat)
 |gG (b ns len:Nat)
 |mp (b:Nat)
 |en (b:Nat)
 |cj (b:Nat)
 |aT
 |eU
 |eT
 |fn (f:Nat)(caps:aZ)
 |dead
inductive bF (U:cE) where
 |c (x:bo U)
 |agg (cs:List (bo U))
 |ba (vs:List (bF U))
inductive cM (U:cE) where
 |box (cs:List (bo U))
 |arr (t:aH)(l:List (t.den U.D))
 |rows (sz:Nat)(r:List (List (bo U)))
 |set (ks:List aD)
 |buf (E:Nat)(s:aD)
 |b1 (E:Nat)(c:bo U)
 |cx (t:aH)(l:List (t.den U.D))(i o:Nat)(c:bo U)
abbrev bQ(U:cE):=List (Nat×bF U)
abbrev bf(U:cE):=List (Nat×cM U)
abbrev eo:=List (Nat×Nat×Bool)
def aX{α:Type}:List (Nat×α)->Nat->Option α
 |[],_=>none
 |(k,x)::r,i=>match Nat.beq k i with
  |true=>some x
  |false=>aX r i
def cD{α:Type}:List (Nat×α)->Nat->α->List (Nat×α)
 |[],b,x=>[(b,x)]
 |(k,y)::r,b,x=>match Nat.beq k b with
  |true=>(k,x)::r
  |false=>(k,y)::cD r b x
def dl{α:Type}:List (Nat×α)->Nat->List (Nat×α)
 |[],_=>[]
 |(k,y)::r,b=>match Nat.beq k b with
  |true=>dl r b
  |false=>(k,y)::dl r b
theorem cR{a b:Nat}(h:Nat.beq a b=true):a=b:=Nat.eq_of_beq_eq_true h
theorem hh{a b:Nat}(h:Nat.beq a b=false):a≠b:=λe=>by simp_all
variable{α:Type}
theorem gR(J:List (Nat×α))(b:Nat)(x:α)(i:Nat):aX (cD J b x) i=if b=i then some x else aX J i:=by
 induction J with
 |nil=>
  grind[cD,aX,cR,hh]
 |cons y r ih=>
  grind[cD,cR,aX]
theorem lf(J:List (Nat×α))(b i:Nat):aX (dl J b) i=if b=i then none else aX J i:=by
 induction J with
 |nil=>simp[dl,aX]
 |cons y r ih=>
  grind[dl,cR,aX]
def Cz:C->Option (bo U)
 |.t (.bool b)=>some (.t ⟨.bool,b⟩)
 |.t (.int k n)=>some (.t ⟨.int k,n⟩)
 |.t (.str s)=>some (.t ⟨.str,s⟩)
 |.aT=>some .aT
 |.eU=>some .eU
 |.eT=>some .eT
 |.dead=>some .dead
 |.fn f []=>some (.fn f [])
 |_=>none
def mm:List C->Option (List (bo U))
 |[]=>some []
 |c::cs=>match Cz c,mm cs with
  |some x,some xs=>some (x::xs)
  |_,_=>none
def vk:V->Option (bF U)
 |.c x=>match Cz x with
  |some y=>some (.c y)
  |none=>none
 |.agg cs=>match mm cs with
  |some ys=>some (.agg ys)
  |none=>none
 |.ba _=>none
def va(gl:eo):Nat->Option (Nat×Bool)->Nat->Bool
 |0,_,_=>false
 |b+1,gd,k=>match aX gl k with
  |none=>true
  |some a=>match gd with
   |none=>false
   |some g=>(Nat.beq g.1 a.1&&(g.2==a.2))||va gl b (aX gl g.1) k
def e3(env:bQ U)(t:Nat)(b:Bool):Option Bool:=
 match aX env t with
 |some (.c (.t ⟨.bool,x⟩))=>some (match b with|true=>x|false=>!x)
 |_=>none
def kF(gl:eo)(env:bQ U):Nat->Option (Nat×Bool)->Option Bool
 |_,none=>some true
 |0,some _=>none
 |a+1,some (t,b)=>match kF gl env a (aX gl t),e3 env t b with
  |some x,some y=>some (x&&y)
  |_,_=>none
def o7:Nat:=200
def c9(gl:eo)(gd:Option (Nat×Bool))(env:bQ U):aO->Option (bF U)
 |.const v=>vk v
 |.tmp k=>match va gl o7 gd k with
  |true=>aX env k
  |false=>none
def CB(gl:eo)(gd:Option (Nat×Bool))(env:bQ U)(c:aO)(b:Bool):aO->Option (bF U)
 |.const v=>vk v
 |.tmp k=>match va gl o7 gd k with
  |true=>aX env k
  |false=>match c,aX gl k with
   |.tmp d,some (t,a)=>match Nat.beq t d&&(a==b)with
    |true=>aX env k
    |false=>none
   |_,_=>none
def kP(gl:eo)(gd:Option (Nat×Bool))(env:bQ U):List aO->Option (List (bF U))
 |[]=>some []
 |x::r=>match c9 gl gd env x,kP gl gd env r with
  |some v,some vs=>some (v::vs)
  |_,_=>none
def oD:bF U->Option (List (bo U))
 |.c x=>some [x]
 |.agg cs=>some cs
 |.ba _=>none
def vi(a:List (bo U))(off:Nat)(cs:List (bo U)):List (bo U):=a.take off++cs++a.drop (off+cs.length)
def xJ(gl:eo)(gd:Option (Nat×Bool))(env:bQ U):List (bo U)->List (Nat×Nat×aO)->Option (List (bo U))
 |a,[]=>some a
 |a,(off,n,x)::r=>match c9 gl gd env x with
  |none=>none
  |some v=>match oD v with
   |none=>none
   |some cs=>match Nat.beq cs.length n&&Nat.ble (off+n) a.length with
    |true=>xJ gl gd env (vi a off cs) r
    |false=>none
def bo.toT:bo U->Option T
 |.t c=>match c.ty.tk with
  |true=>none
  |false=>some (c.enc U)
 |.aT=>some (.slice [])
 |_=>none
def ha:List (bo U)->Option (List T)
 |[]=>some []
 |c::cs=>match c.toT,ha cs with
  |some t,some ts=>some (t::ts)
  |_,_=>none
def ur(gl:eo)(gd:Option (Nat×Bool))(env:bQ U)(sz:Nat):List (List (bo U))->List (Nat×aO)->Option (List (List (bo U)))
 |rows,[]=>some rows
 |rows,(i,x)::r=>match c9 gl gd env x with
  |none=>none
  |some v=>match oD v with
   |none=>none
   |some cs=>match ha cs with
    |none=>none
    |some _=>match Nat.beq cs.length sz&&Nat.ble (i+1) rows.length with
     |true=>ur gl gd env sz (rows.set i cs) r
     |false=>none
inductive fF (U:cE) where
 |ty (t:aH)(l:List (t.den U.D))
 |rows (r:List (List (bo U)))
 |nil
def fF.len:fF U->Nat
 |.ty _ l=>l.length
 |.rows r=>r.length
 |.nil=>0
def hU:List aH->List (bo U)->Option (List (Cell U.D))
 |[],[]=>some []
 |t::ts,.t c::cs=>match hU ts cs with
  |some l=>some (c::l)
  |none=>none
 |.slice t::ts,.aT::cs=>match hU ts cs with
  |some l=>some (⟨.slice t,([]:List (t.den U.D))⟩::l)
  |none=>none
 |_,_=>none
def oW(U:cE)(t:aH)(cs:List (bo U)):Option (t.den U.D):=
 match hU (t.cells U) cs with
 |some l=>t.mk U l
 |none=>none
def lr(U:cE)(t:aH):List (List (bo U))->Option (List (t.den U.D))
 |[]=>some []
 |r::a=>match oW U t r,lr U t a with
  |some x,some xs=>some (x::xs)
  |_,_=>none
def fF.as(t:aH):fF U->Option (List (t.den U.D))
 |.ty u l=>Cell.as (.slice t) ⟨.slice u,l⟩
 |.rows r=>lr U t r
 |.nil=>some []
def fF.join:fF U->fF U->Option (fF U)
 |.nil,y=>some y
 |.ty t l,y=>match y.as t with
  |some a=>some (.ty t (l++a))
  |none=>none
 |.rows r,.ty t l=>match lr U t r with
  |some c=>some (.ty t (c++l))
  |none=>none
 |.rows r,.rows e=>some (.rows (r++e))
 |.rows r,.nil=>some (.rows r)
def fF.blk(sz:Nat):fF U->Option (cM U)
 |.ty t l=>match Nat.beq (t.sz U) sz with
  |true=>some (.arr t l)
  |false=>none
 |.rows r=>match r.all λx=>Nat.beq x.length sz with
  |true=>some (.rows sz r)
  |false=>none
 |.nil=>some (.rows sz [])
def mh(J:bf U):bF U->Option (fF U×Option Nat)
 |.c (.t ⟨.slice t,l⟩)=>some (.ty t l,none)
 |.c .aT=>some (.nil,none)
 |.c (.arr b)=>match aX J b with
  |some (.arr t l)=>some (.ty t l,some b)
  |some (.rows _ r)=>some (.rows r,some b)
  |_=>none
 |_=>none
def cM.db:cM U->Option (Nat×Nat)
 |.box _=>none
 |.arr t l=>some (t.sz U,l.length)
 |.rows sz r=>some (sz,r.length)
 |.set _=>none
 |.buf _ s=>some (1,s.length)
 |.b1 _ _=>none
 |.cx t l _ _ _=>some (t.sz U,l.length)
def CE(J:bf U)(b sz:Nat):Bool:=
 match aX J b with
 |some x=>(match x.db with|some p=>Nat.beq p.1 sz|none=>false)
 |none=>false
def room(bytes n:Nat):Bool:=decide ((2*n+192)*bytes<=hi)&&decide (n<=dk)
def P1:BinOp->IntKind->IntKind->Int->Int->Option (Bool×Cell U.D)
 |.add,k,c,a,b=>if k=c then some (true,⟨.int k,k.wrap (a+b)⟩)else none
 |.sub,k,c,a,b=>if k=c then some (true,⟨.int k,k.wrap (a-b)⟩)else none
 |.mul,k,c,a,b=>if k=c then some (true,⟨.int k,k.wrap (a*b)⟩)else none
 |.quo,k,c,a,b=>if k=c then some (!decide (b=0),⟨.int k,k.wrap (a.tdiv b)⟩)else none
 |.rem,k,c,a,b=>if k=c then some (!decide (b=0),⟨.int k,a.tmod b⟩)else none
 |.and,k,c,a,b=>if k=c then some (true,⟨.int k,k.wrap (BitVec.ofInt k.bits a &&& BitVec.ofInt k.bits b).toNat⟩)else none
 |.or,k,c,a,b=>if k=c then some (true,⟨.int k,k.wrap (BitVec.ofInt k.bits a ||| BitVec.ofInt k.bits b).toNat⟩)else none
 |.xor,k,c,a,b=>if k=c then some (true,⟨.int k,k.wrap (BitVec.ofInt k.bits a ^^^ BitVec.ofInt k.bits b).toNat⟩)else none
 |.andNot,k,c,a,b=>if k=c then some (true,⟨.int k,k.wrap (BitVec.ofInt k.bits a &&& ~~~ BitVec.ofInt k.bits b).toNat⟩)else none
 |.shl,k,_,a,b=>some (decide (0<=b),⟨.int k,k.wrap (a*2^min b.toNat k.bits)⟩)
 |.shr,k,_,a,b=>some (decide (0<=b),⟨.int k,a.fdiv (2^min b.toNat k.bits)⟩)
 |.eql,k,c,a,b=>if k=c then some (true,⟨.bool,decide (a=b)⟩)else none
 |.neq,k,c,a,b=>if k=c then some (true,⟨.bool,!decide (a=b)⟩)else none
 |.lss,k,c,a,b=>if k=c then some (true,⟨.bool,decide (a<b)⟩)else none
 |.leq,k,c,a,b=>if k=c then some (true,⟨.bool,decide (a<=b)⟩)else none
 |.gtr,k,c,a,b=>if k=c then some (true,⟨.bool,decide (b<a)⟩)else none
 |.geq,k,c,a,b=>if k=c then some (true,⟨.bool,decide (b<=a)⟩)else none
def P2:BinOp->aD->aD->Option (Bool×Cell U.D)
 |.add,a,b=>some (decide (a.length+b.length<=ej),⟨.str,a++b⟩)
 |.eql,a,b=>some (true,⟨.bool,decide (a=b)⟩)
 |.neq,a,b=>some (true,⟨.bool,!decide (a=b)⟩)
 |.lss,a,b=>some (true,⟨.bool,Op.bytesLess a b⟩)
 |.leq,a,b=>some (true,⟨.bool,Op.bytesLess a b||decide (a=b)⟩)
 |.gtr,a,b=>some (true,⟨.bool,!(Op.bytesLess a b||decide (a=b))⟩)
 |.geq,a,b=>some (true,⟨.bool,!(Op.bytesLess a b)⟩)
 |_,_,_=>none
def G6(op:BinOp):Cell U.D->Cell U.D->Option (Bool×Cell U.D)
 |⟨.int k,a⟩,⟨.int c,b⟩=>P1 op k c a b
 |⟨.str,a⟩,⟨.str,b⟩=>P2 op a b
 |_,_=>none
def fy(a b:Bool):Bool:=a==b
def dZ(a b:Int):Bool:=decide (a=b)
def iM(a b:aD):Bool:=decide (a=b)
def aB(m:Int)(n:Nat):Bool:=decide (0<=m)&&decide (m.toNat<n)
def gu(b a:Int)(n:Nat):Bool:=decide (0<=b)&&(decide (b<=a)&&decide (a<=n))
def lC{α:Type}(l:List α)(b a:Int):List α:=(l.take a.toNat).drop b.toNat
def nv(a b:Int):Int:=Max.max a b
def da(a b:Int):Int:=Min.min a b
def jf(s:aD)(m:Int):Int:=((s.getD m.toNat 0).toNat:Int)
def mW(m:Int):aD:=(Utf8.encode m).data.toList
def ca(k:IntKind)(m:Int):Int:=k.wrap m
def sZ(a b:aD):aD:=a++b
def G8:Nat->Cell U.D->Cell U.D->Option Bool
 |0,⟨.bool,a⟩,⟨.bool,b⟩=>some (fy a b)
 |1,⟨.int k,a⟩,⟨.int c,b⟩=>if k=c then some (dZ a b)else none
 |2,⟨.str,a⟩,⟨.str,b⟩=>some (iM a b)
 |_,_,_=>none
def y0:aZ->List (bo U)->List (bo U)->Option Bool
 |[],[],[]=>some true
 |k::ks,.t x::xs,.t y::ys=>match G8 k x y,y0 ks xs ys with
  |some b,some r=>some (b&&r)
  |_,_=>none
 |_,_,_=>none
def qn(agg:Bool)(n:Nat)(cs:List (bo U))(o:Nat):Option (bF U):=
 match agg with
 |true=>match Nat.ble (o+n) cs.length with
  |true=>some (.agg ((cs.drop o).take n))
  |false=>none
 |false=>match cs[o]? with
  |some c=>some (.c c)
  |none=>none
def nk(gl:eo)(gd:Option (Nat×Bool))(env:bQ U):Option aO->Option (Option Int)
 |none=>some none
 |some x=>match c9 gl gd env x with
  |some (.c (.t ⟨.int _,n⟩))=>some (some n)
  |_=>none
def yY:List (bF U)->Option aZ
 |[]=>some []
 |.c (.ptr b 0)::r=>match yY r with
  |some l=>some (b::l)
  |none=>none
 |_=>none
abbrev abN(U:cE):=Option (Bool×bF U×bf U)
def qK(U:cE)(t:aH)(l:List (t.den U.D))(i o:Nat)(cs:List (bo U)):Option (List (t.den U.D)):=
 match oW U t (vi ((t.row U (t.at U l i)).map .t) o cs)with
 |some x=>some (l.set i x)
 |none=>none
def sI(t:aH):List (bo U)->Option (List (t.den U.D))
 |[]=>some []
 |.t c::r=>match c.as t,sI t r with
  |some x,some l=>some (x::l)
  |_,_=>none
 |_::_=>none
def B3:List (bo U)->Option ((t:aH)×List (t.den U.D))
 |.t c::r=>match c.ty.tk,sI c.ty (.t c::r)with
  |false,some l=>some ⟨c.ty,l⟩
  |_,_=>none
 |_=>none
def strOf(l:az):aD:=l.map λm=>UInt8.ofNat m.toNat
def G3(l:az):Bool:=l.all λm=>decide (0<=m)&&decide (m<256)
def vb(a len n:Nat):Bool:=decide (a+len<=n)
def OX:List (bo U)->Option (bo U)
 |[.arr b]=>some (.arr b)
 |_=>none
def wG(bytes:Nat)(m:Int):Bool:=decide (0<=m/\m.toNat*bytes<=hi/\m.toNat<=dk)
theorem Gb{bytes:Nat}{m:Int}:wG bytes m=true↔0<=m/\m.toNat*bytes<=hi/\m.toNat<=dk:=by simp[wG]
def ck(gl:eo)(gd:Option (Nat×Bool))(env:bQ U)(J:bf U)(n:Nat)(o:cF):abN U:=
 match o with
 |.mov x=>match c9 gl gd env x with
  |some v=>some (true,v,J)
  |none=>none
 |.pick c x y=>match c9 gl gd env c,CB gl gd env c true x,CB gl gd env c false y with
  |some (.c (.t ⟨.bool,b⟩)),some (.c (.t ⟨.bool,p⟩)),some (.c (.t ⟨.bool,q⟩))=>some (true,.c (.t ⟨.bool,bif b then p else q⟩),J)
  |_,_,_=>none
 |.alloc cs=>match mm cs with
  |some xs=>some (true,.c (.ptr n 0),cD J n (.box xs))
  |none=>none
 |.allocA cs=>match mm cs with
  |some xs=>match B3 xs with
   |some ⟨t,l⟩=>some (true,.c (.ptr n 0),cD J n (.arr t l))
   |none=>none
  |none=>none
 |.idxP k x i=>match c9 gl gd env x,c9 gl gd env i with
  |some (.c (.ptr b 0)),some (.c (.t ⟨.int _,m⟩))=>match aX J b with
   |some (.arr t _)=>match Nat.beq (t.sz U) 1 with
    |true=>some (aB m k,.c (.cH b t (Int.toNat m) 0),J)
    |false=>none
   |_=>none
  |_,_=>none
 |.idxV k x i=>match c9 gl gd env x,c9 gl gd env i with
  |some (.agg cs),some (.c (.t ⟨.int _,m⟩))=>match Nat.beq cs.length k,B3 cs with
   |true,some ⟨t,l⟩=>some (aB m k,.c (.t ⟨t,t.at U l (Int.toNat m)⟩),J)
   |_,_=>none
  |_,_=>none
 |.mslice sz bytes z x=>match c9 gl gd env x,mm z with
  |some (.c (.t ⟨.int _,m⟩)),some g=>match ha g with
   |none=>none
   |some _=>match g with
    |[.t c]=>match c.ty.tk,Nat.beq sz 1 with
     |false,true=>some (wG bytes m,.c (.arr n),cD J n (.arr c.ty (List.replicate (Int.toNat m) c.val)))
     |_,_=>none
    |_=>none
  |_,_=>none
 |.slcP k x d B=>match c9 gl gd env x,nk gl gd env d,nk gl gd env B with
  |some (.c (.ptr b 0)),some l,some h=>
   some (gu (l.getD 0) (h.getD (k:Int)) k,.c (.sub b (Int.toNat (l.getD 0)) (Int.toNat (h.getD (k:Int))-Int.toNat (l.getD 0))),J)
  |_,_,_=>none
 |.b2s x=>match c9 gl gd env x with
  |some (.c (.t ⟨.slice (.int .u8),l⟩))=>some (true,.c (.t ⟨.str,strOf l⟩),J)
  |some (.c .aT)=>some (true,.c (.t ⟨.str,[]⟩),J)
  |some (.c (.arr b))=>match aX J b with
   |some (.arr (.int .u8) l)=>some (true,.c (.t ⟨.str,strOf l⟩),J)
   |_=>none
  |some (.c (.sub b d len))=>match aX J b with
   |some (.arr (.int .u8) l)=>some (vb d len (List.length l),.c (.t ⟨.str,strOf ((l.drop d).take len)⟩),J)
   |_=>none
  |_=>none
 |.allocS e e8=>some (true,.c (.ptr n 0),cD (cD J (n+1) (.buf e8 [])) n (.b1 e (.cj (n+1))))
 |.bsliceT e sz len z parts=>match U.Pf e with
  |none=>none
  |some t=>match mm z with
   |some g=>match ha g with
    |none=>none
    |some _=>match Nat.beq g.length sz with
     |false=>none
     |true=>match ur gl gd env sz (List.replicate len g) parts with
      |some rows=>match lr U t rows with
       |some l=>some (true,.c (.t ⟨.slice t,l⟩),J)
       |none=>none
      |none=>none
   |none=>none
 |.mkset=>some (true,.c (.mp n),cD J n (.set []))
 |.lkset x k=>match c9 gl gd env x,c9 gl gd env k with
  |some (.c (.mp b)),some (.c (.t ⟨.str,s⟩))=>match aX J b with
   |some (.set ks)=>some (true,.c (.t ⟨.bool,gb ks s⟩),J)
   |_=>none
  |_,_=>none
 |.upset x k=>match c9 gl gd env x,c9 gl gd env k with
  |some (.c (.mp b)),some (.c (.t ⟨.str,s⟩))=>match aX J b with
   |some (.set ks)=>some (true,.ba [],cD J b (.set (h' ks s)))
   |_=>none
  |_,_=>none
 |.appendB e bytes x y=>match c9 gl gd env x,c9 gl gd env y with
  |some (.c (.cj b)),some (.c (.t ⟨.str,s⟩))=>match aX J b with
   |some (.buf u l)=>match Nat.beq u e with
    |true=>some (room bytes (List.length l+List.length s),.c (.cj n),cD (dl J b) n (.buf e (sZ l s)))
    |false=>none
   |_=>none
  |_,_=>none
 |.sdata x=>match c9 gl gd env x with
  |some (.c (.cj b))=>some (true,.c (.en b),J)
  |_=>none
 |.ustr e x k=>match c9 gl gd env x,c9 gl gd env k with
  |some (.c (.en b)),some (.c (.t ⟨.int .i64,m⟩))=>match aX J b with
   |some (.buf u l)=>match Nat.beq u e with
    |true=>some (dZ m (List.length l:Int),.c (.t ⟨.str,l⟩),dl J b)
    |false=>none
   |_=>none
  |_,_=>none
 |.box x=>match c9 gl gd env x with
  |some v=>match oD v with
   |some cs=>some (true,.c (.ptr n 0),cD J n (.box cs))
   |none=>none
  |none=>none
 |.build z parts=>match mm z with
  |some g=>match xJ gl gd env g parts with
   |some cs=>some (true,.agg cs,J)
   |none=>none
  |none=>none
 |.bslice sz len z parts=>match mm z with
  |some g=>match ha g with
   |none=>none
   |some _=>match Nat.beq g.length sz with
    |false=>none
    |true=>match ur gl gd env sz (List.replicate len g) parts with
     |some rows=>some (true,.c (.arr n),cD J n (.rows sz rows))
     |none=>none
  |none=>none
 |.load agg k x=>match c9 gl gd env x with
  |some (.c (.ptr b o))=>match aX J b with
   |some (.box cs)=>match qn agg k cs o with
    |some v=>some (true,v,J)
    |none=>none
   |some (.b1 _ c)=>match agg,o with
    |false,1=>some (true,.c c,J)
    |_,_=>none
   |_=>none
  |some (.c (.cH b t i o))=>match aX J b with
   |some (.arr j l)=>match Cell.as (.slice t) (⟨.slice j,l⟩:Cell U.D)with
    |some l=>match qn agg k ((t.row U (t.at U l i)).map .t) o with
     |some v=>some (decide (i<l.length),v,J)
     |none=>none
    |none=>none
   |some (.cx j l C E c)=>match agg with
    |true=>none
    |false=>match Nat.beq o E with
     |true=>match Nat.beq (t.sz U) (j.sz U)with
      |true=>some (decide (i=C),.c c,J)
      |false=>none
     |false=>match Cell.as (.slice t) (⟨.slice j,l⟩:Cell U.D)with
      |some l=>match qn false k ((t.row U (t.at U l i)).map .t) o with
       |some v=>some (decide (i<l.length),v,J)
       |none=>none
      |none=>none
   |_=>none
  |some (.c (.dF t x o))=>match qn agg k ((t.row U x).map .t) o with
   |some v=>some (true,v,J)
   |none=>none
  |_=>none
 |.store k x v=>match c9 gl gd env x,c9 gl gd env v with
  |some (.c (.ptr b o)),some v=>match oD v with
   |some cs=>match Nat.beq cs.length k with
    |true=>match aX J b with
     |some (.box I)=>match Nat.ble (o+k) I.length with
      |true=>some (true,.ba [],cD J b (.box (vi I o cs)))
      |false=>none
     |some (.b1 e _)=>match o,cs with
      |1,[c]=>some (true,.ba [],cD J b (.b1 e c))
      |_,_=>none
     |_=>none
    |false=>none
   |none=>none
  |some (.c (.cH b t i o)),some v=>match oD v with
   |some cs=>match Nat.beq cs.length k&&Nat.ble (o+k) (t.sz U)with
    |true=>match aX J b with
     |some (.arr j l)=>match Cell.as (.slice t) (⟨.slice j,l⟩:Cell U.D)with
      |some l=>match OX cs with
       |some c=>some (decide (i<l.length),.ba [],cD J b (.cx t l i o c))
       |none=>match qK U t l i o cs with
        |some G=>some (decide (i<l.length),.ba [],cD J b (.arr t G))
        |none=>none
      |none=>none
     |some (.cx j l C E L)=>match cs with
      |[c]=>match Nat.beq o E with
       |true=>match Nat.beq (t.sz U) (j.sz U)with
        |true=>some (decide (i=C),.ba [],cD J b (.cx j l C E c))
        |false=>none
       |false=>match Cell.as (.slice t) (⟨.slice j,l⟩:Cell U.D)with
        |some l=>match qK U t l i o [c]with
         |some G=>some (decide (i<l.length),.ba [],cD J b (.cx t G C E L))
         |none=>none
        |none=>none
      |_=>none
     |_=>none
    |false=>none
   |none=>none
  |_,_=>none
 |.nilCheck x=>match c9 gl gd env x with
  |some (.c (.ptr b o))=>some (true,.c (.ptr b o),J)
  |some (.c (.cH b t i o))=>some (true,.c (.cH b t i o),J)
  |some (.c (.dF t x o))=>some (true,.c (.dF t x o),J)
  |_=>none
 |.bin op x y=>match c9 gl gd env x,c9 gl gd env y with
  |some (.c (.t p)),some (.c (.t q))=>match G6 op p q with
   |some (c,r)=>some (c,.c (.t r),J)
   |none=>none
  |_,_=>none
 |.eqAgg neg ks x y=>match c9 gl gd env x,c9 gl gd env y with
  |some (.agg p),some (.agg q)=>match y0 ks p q with
   |some r=>some (true,.c (.t ⟨.bool,match neg with|true=>!r|false=>r⟩),J)
   |none=>none
  |_,_=>none
 |.eqBool neg x y=>match c9 gl gd env x,c9 gl gd env y with
  |some (.c (.t ⟨.bool,p⟩)),some (.c (.t ⟨.bool,q⟩))=>some (true,.c (.t ⟨.bool,match neg with|true=>!(fy p q)|false=>fy p q⟩),J)
  |_,_=>none
 |.not x=>match c9 gl gd env x with
  |some (.c (.t ⟨.bool,b⟩))=>some (true,.c (.t ⟨.bool,!b⟩),J)
  |_=>none
 |.conv k x=>match c9 gl gd env x with
  |some (.c (.t ⟨.int _,m⟩))=>some (true,.c (.t ⟨.int k,ca k m⟩),J)
  |_=>none
 |.i2s x=>match c9 gl gd env x with
  |some (.c (.t ⟨.int _,m⟩))=>some (true,.c (.t ⟨.str,mW m⟩),J)
  |_=>none
 |.s2s x=>match c9 gl gd env x with
  |some (.c (.t ⟨.str,s⟩))=>some (true,.c (.t ⟨.str,s⟩),J)
  |_=>none
 |.fldA off x=>match c9 gl gd env x with
  |some (.c (.ptr b o))=>some (true,.c (.ptr b (o+off)),J)
  |some (.c (.cH b t i o))=>some (true,.c (.cH b t i (o+off)),J)
  |some (.c (.dF t x o))=>some (true,.c (.dF t x (o+off)),J)
  |_=>none
 |.fld agg off k x=>match c9 gl gd env x with
  |some (.agg cs)=>match qn agg k cs off with
   |some v=>some (true,v,J)
   |none=>none
  |_=>none
 |.idxA sz x i=>match c9 gl gd env x,c9 gl gd env i with
  |some (.c (.t ⟨.slice t,l⟩)),some (.c (.t ⟨.int _,m⟩))=>match Nat.beq (t.sz U) sz with
   |true=>some (aB m l.length,.c (.dF t (t.at U l (Int.toNat m)) 0),J)
   |false=>none
  |some (.c (.arr b)),some (.c (.t ⟨.int _,m⟩))=>match aX J b with
   |some (.arr t l)=>match Nat.beq (t.sz U) sz with
    |true=>some (aB m l.length,.c (.cH b t (Int.toNat m) 0),J)
    |false=>none
   |_=>none
  |_,_=>none
 |.idxS x i=>match c9 gl gd env x,c9 gl gd env i with
  |some (.c (.t ⟨.str,s⟩)),some (.c (.t ⟨.int _,m⟩))=>some (aB m s.length,.c (.t ⟨.int .u8,jf s m⟩),J)
  |_,_=>none
 |.slcS x d B=>match c9 gl gd env x,nk gl gd env d,nk gl gd env B with
  |some (.c (.t ⟨.str,s⟩)),some l,some h=>
   some (gu (l.getD 0) (h.getD (s.length:Int)) s.length,.c (.t ⟨.str,lC s (l.getD 0) (h.getD (s.length:Int))⟩),J)
  |_,_,_=>none
 |.slc sz x d B=>match c9 gl gd env x,nk gl gd env d,nk gl gd env B with
  |some (.c (.t ⟨.slice t,s⟩)),some l,some h=>match Nat.beq (t.sz U) sz with
   |true=>some (gu (l.getD 0) (h.getD (s.length:Int)) s.length,.c (.t ⟨.slice t,lC s (l.getD 0) (h.getD (s.length:Int))⟩),J)
   |false=>none
  |some (.c (.arr b)),some none,some h=>match aX J b with
   |some (.arr t s)=>match Nat.beq (t.sz U) sz with
    |true=>some (gu 0 (h.getD (s.length:Int)) s.length,.c (.pre b (Int.toNat (h.getD (s.length:Int)))),J)
    |false=>none
   |_=>none
  |some (.c (.arr b)),some (some d),some h=>match aX J b with
   |some (.arr t s)=>match Nat.beq (t.sz U) sz with
    |true=>some (gu d (h.getD (s.length:Int)) s.length,.c (.gG b (Int.toNat d) (Int.toNat (h.getD (s.length:Int))-Int.toNat d)),J)
    |false=>none
   |_=>none
  |_,_,_=>none
 |.slc0 x=>match c9 gl gd env x with
  |some (.c (.t ⟨.slice _,_⟩))=>some (true,.c .aT,J)
  |some (.c .aT)=>some (true,.c .aT,J)
  |some (.c (.arr _))=>some (true,.c .aT,J)
  |_=>none
 |.mkfn f caps=>match kP gl gd env caps with
  |some vs=>match yY vs with
   |some l=>some (true,.c (.fn f l),J)
   |none=>none
  |none=>none
 |.ext x i=>match c9 gl gd env x with
  |some (.ba vs)=>match vs[i]? with
   |some v=>some (true,v,J)
   |none=>none
  |_=>none
 |.len str x=>match str,c9 gl gd env x with
  |true,some (.c (.t ⟨.str,s⟩))=>some (true,.c (.t ⟨.int .i64,(s.length:Int)⟩),J)
  |false,some (.c (.cj b))=>match aX J b with
   |some (.buf _ s)=>some (true,.c (.t ⟨.int .i64,(s.length:Int)⟩),J)
   |_=>none
  |false,some v=>match mh J v with
   |some e=>some (true,.c (.t ⟨.int .i64,(e.1.len:Int)⟩),J)
   |none=>none
  |_,_=>none
 |.append te sz bytes x y=>match c9 gl gd env x,c9 gl gd env y with
  |some (.c .aT),some v=>match mh J v with
   |some (w,_)=>match w.blk sz with
    |some blk=>some (room bytes w.len,.c (.arr n),cD J n blk)
    |none=>none
   |none=>none
  |some (.c (.arr b)),some v=>match mh J (.c (.arr b)),mh J v with
   |some (lq,_),some (w,H)=>match (match H with|some A=>Nat.beq A b|none=>false)with
    |true=>none
    |false=>match CE J b sz with
     |false=>none
     |true=>match lq.join w with
      |some K=>match K.blk sz with
       |some blk=>some (room bytes K.len,.c (.arr n),cD (dl J b) n blk)
       |none=>none
      |none=>none
   |_,_=>none
  |some (.c (.pre b h)),some (.c (.gG A d len))=>match Nat.beq b A with
   |true=>match aX J b with
    |some (.arr t l)=>match Nat.beq (t.sz U) sz with
     |true=>some (decide (h+len<=l.length)&&decide (d+len<=l.length),.c (.arr n),cD (dl J b) n (.arr t (l.take h++(l.drop d).take len)))
     |false=>none
    |_=>none
   |false=>none
  |some (.c (.cj b)),some (.c (.t ⟨.slice (.int .u8),ys⟩))=>match aX J b with
   |some (.buf u l)=>match Nat.beq u te&&Nat.beq sz 1 with
    |true=>some (room bytes (List.length l+List.length (strOf ys))&&G3 ys,.c (.cj n),cD (dl J b) n (.buf u (sZ l (strOf ys))))
    |false=>none
   |_=>none
  |_,_=>none
 |.appendT _ sz bytes x y=>match c9 gl gd env x,c9 gl gd env y with
  |some (.c (.arr b)),some v=>match mh J (.c (.arr b)),mh J v with
   |some (lq,_),some (w,H)=>match (match H with|some A=>Nat.beq A b|none=>false)with
    |true=>none
    |false=>match CE J b sz with
     |false=>none
     |true=>match lq.join w with
      |some (.ty t l)=>match Nat.beq (t.sz U) sz with
       |true=>some (room bytes l.length,.c (.t ⟨.slice t,l⟩),dl J b)
       |false=>none
      |_=>none
   |_,_=>none
  |_,_=>none
 |.max2 x y=>match c9 gl gd env x,c9 gl gd env y with
  |some (.c (.t ⟨.int k,a⟩)),some (.c (.t ⟨.int F,b⟩))=>if k=F then some (true,.c (.t ⟨.int k,nv a b⟩),J)else none
  |_,_=>none
 |.min2 x y=>match c9 gl gd env x,c9 gl gd env y with
  |some (.c (.t ⟨.int k,a⟩)),some (.c (.t ⟨.int F,b⟩))=>if k=F then some (true,.c (.t ⟨.int k,da a b⟩),J)else none
  |_,_=>none
 |.eqNil .. |.call .. |.hD .. =>none
end
section
open Go
variable {U:cE}
inductive b8 (N:Nat)(J:bf U):bo U->C->Prop
 |t (c:Cell U.D):b8 N J (.t c) (.t (c.enc U))
 |ptr (b o:Nat):b8 N J (.ptr b o) (.ptr b o)
 |cH (b:Nat) (t:aH) (i o:Nat):b8 N J (.cH b t i o) (.cH b (t.sz U) i o)
 |dF (t:aH) (x:t.den U.D) (o:Nat):b8 N J (.dF t x o) (.dF (t.enc U x) o)
 |arr (b sz n:Nat) (vU:b<N) (h:∀x,aX J b=some x->∀p,x.db=some p->p=(sz,n)):b8 N J (.arr b) (.arr b sz 0 n)
 |sub (b ns len:Nat):b8 N J (.sub b ns len) (.fC b 1 ns len)
 |pre (b sz h:Nat) (vU:b<N) (adQ:∀x,aX J b=some x->∀p,x.db=some p->p.1=sz):b8 N J (.pre b h) (.arr b sz 0 h)
 |gG (b sz ns len:Nat) (vU:b<N) (adQ:∀x,aX J b=some x->∀p,x.db=some p->p.1=sz):b8 N J (.gG b ns len) (.fC b sz ns len)
 |mp (b:Nat):b8 N J (.mp b) (.mp b)
 |en (b:Nat):b8 N J (.en b) (.en b)
 |cj (b n:Nat) (vU:b<N) (h:∀x,aX J b=some x->∀p,x.db=some p->p=(1,n)):b8 N J (.cj b) (.cj b n)
 |aT:b8 N J .aT .aT
 |eU:b8 N J .eU .eU
 |eT:b8 N J .eT .eT
 |fn (f:Nat) (caps:aZ):b8 N J (.fn f caps) (.fn f caps)
 |dead (d:C):b8 N J .dead d
inductive bR (N:Nat)(J:bf U):bF U->V->Prop
 |c {x d}:b8 N J x d->bR N J (.c x) (.c d)
 |agg {xs nS}:a6 (b8 N J) xs nS->bR N J (.agg xs) (.agg nS)
 |ba (xs:List (bF U)) (nS:List V) (ag:xs.length=nS.length) (h:∀(i:Nat) x d,xs[i]?=some x->nS[i]?=some d->bR N J x d):bR N J (.ba xs) (.ba nS)
inductive hc (N:Nat)(J:bf U):cM U->bT->Prop
 |box {cs nS}:a6 (b8 N J) cs nS->hc N J (.box cs) (.box nS)
 |arr (t:aH) (l:List (t.den U.D)):hc N J (.arr t l) (.arr (t.sz U) (l.map (t.enc U)))
 |set (ks:List aD):hc N J (.set ks) (.set ks)
 |buf (E:Nat) (s:aD):hc N J (.buf E s) (.buf E s)
 |b1 {E c d}:b8 N J c d->hc N J (.b1 E c) (.b1 E d)
 |cx (t:aH) (l:List (t.den U.D)) (i o:Nat) {c d}:b8 N J c d->hc N J (.cx t l i o c) (.cx (t.sz U) (l.map (t.enc U)) i o d)
 |rows {sz r es}:a6 (λr e=>ha r=some e) r es->(∀x,x∈r->x.length=sz)->hc N J (.rows sz r) (.arr sz es)
def cm(N:Nat)(J:bf U)(J1:a8):Prop:=∀b x,aX J b=some x->b<N/\∃y,aP J1 b=some y/\hc N J x y
def cS(N:Nat)(J:bf U)(G:Nat->Bool)(env:bQ U)(env1:Env):Prop:=∀k v,aX env k=some v->∃v1,look env1 k=some (G k,v1)/\bR N J v v1
structure gw (gl:eo)(env:bQ U)(G:Nat->Bool):Prop where
 free:∀k,aX gl k=none->G k=true
 held:∀k t b,aX gl k=some (t,b)->∃y,e3 env t b=some y/\G k=(G t&&y)
def c'(N:Nat)(J:bf U)(N':Nat)(J':bf U):Prop:=N<=N'/\∀b a,b<N->aX J' b=some a->∃x,aX J b=some x/\∀p,a.db=some p->x.db=some p
variable{J:bf U}{x:bo U}{v1:V}{t:aH}{o:Nat}{v:bF U}{cs:List (bo U)}
theorem c'.refl{N:Nat}:c' N J N J:=⟨e6 _,λ_ x _ h=>⟨x,h,λ_ h=>h⟩⟩
theorem c'.more{N N':Nat}(h:N<=N'):c' N J N' J:=⟨h,λ_ x _ h=>⟨x,h,λ_ h=>h⟩⟩
theorem c'.trans{a c e:Nat}{s1 g j:bf U}(h:c' a s1 c g)(k:c' c g e j):c' a s1 e j:=
 ⟨hK h.1 k.1,λb x f I=>let⟨y,h1,o⟩:=k.2 b x (ix f h.1) I;let⟨z,q,t⟩:=h.2 b y f h1;⟨z,q,λp al=>t p (o p al)⟩⟩
section
variable {N N':Nat}{J J':bf U}{J1:a8}{env:bQ U}{env1:Env}{G:Nat->Bool}{gl:eo}{gd:Option (Nat×Bool)}
theorem b8.mono(k:c' N J N' J'){d:C}(h:b8 N J x d):b8 N' J' x d:=by
 cases h with
 |t c=>exact .t c
 |ptr b o=>exact .ptr b o
 |cH b t i o=>exact .cH b t i o
 |dF t x o=>exact .dF t x o
 |arr b sz n a h=>
  refine .arr b sz n (ix a k.1) λx I p al=>?_;obtain⟨y,h1,e⟩:=k.2 b x a I;grind
 |sub b g len=>exact .sub b g _
 |pre b sz n a h=>
  refine .pre b sz n (ix a k.1) λx I p al=>?_;obtain⟨y,h1,e⟩:=k.2 b x a I;grind
 |gG b sz g len a h=>
  refine .gG b sz g _ (ix a k.1) λx I p al=>?_;obtain⟨y,h1,e⟩:=k.2 b x a I;grind
 |mp b=>exact .mp b
 |en b=>exact .en b
 |cj b n a h=>
  refine .cj b n (ix a k.1) λx I p al=>?_;obtain⟨y,h1,e⟩:=k.2 b x a I;grind
 |aT=>exact .aT
 |eU=>exact .eU
 |eT=>exact .eT
 |fn f caps=>exact .fn f _
 |dead d=>exact .dead d
theorem bR.mono(k:c' N J N' J'){x:bF U}{d:V}(h:bR N J x d):bR N' J' x d:=by
 induction h with
 |c h=>exact .c (h.mono k)
 |agg h=>exact .agg (h.imp λ_ _ _=>b8.mono k)
 |ba xs a ag h ih=>exact .ba xs a ag ih
theorem hc.mono(k:c' N J N' J'){x:cM U}{d:bT}(h:hc N J x d):hc N' J' x d:=by
 cases h with
 |box h=>exact .box (h.imp λ_ _ _=>b8.mono k)
 |arr t l=>exact .arr t l
 |set ks=>exact .set ks
 |buf E s=>exact .buf E s
 |b1 h=>exact .b1 (h.mono k)
 |cx t l i o h=>exact .cx t l i o (h.mono k)
 |rows h a=>exact .rows h a
theorem cS.mono(k:c' N J N' J')(h:cS N J G env env1):cS N' J' G env env1:=λi v c=>let⟨v1,h1,a⟩:=h i v c;⟨v1,h1,a.mono k⟩
theorem cm.put(h:cm N J J1){b:Nat}{x:cM U}{y:bT}(o:b<N')(k:c' N J N' (cD J b x))(p:hc N' (cD J b x) x y):cm N' (cD J b x) (cZ J1 b y):=by
 intro c z a;rw[gR]at a;rw[cQ];by_cases g:b=c
 . grind
 . rw[av g]at a⊢;obtain⟨h1,j,e,f⟩:=h c z a;exact⟨ix h1 k.1,j,e,f.mono k⟩
theorem jX{x:cM U}(h:N<=N':=by simp):c' N J N' (cD J N x):=by
 refine⟨h,λb c a I=>?_⟩;grind[gR]
theorem mT{b:Nat}{x a:cM U}(h:N<=N')(h0:aX J b=some a)(aj:∀p,x.db=some p->a.db=some p):c' N J N' (cD J b x):=by
 refine⟨h,λc e d I=>?_⟩;grind[gR]
theorem og{b:Nat}:c' N J N (dl J b):=by
 refine⟨e6 _,λc d a I=>?_⟩;grind[lf]
theorem Rx{d:C}(h:Cz d=some x):b8 N J x d:=by
 unfold Cz at h;split at h<;>cases h
 . exact b8.t _
 . exact b8.t _
 . exact b8.t (U:=U) _
 . exact .aT
 . exact .eU
 . exact .eT
 . exact .dead _
 . exact .fn _ _
theorem pP:∀{a:List C} {xs:List (bo U)},mm a=some xs->a6 (b8 N J) xs a
 |[],xs,h=>by simp[mm]at h;subst h;exact .nil
 |d::a,xs,h=>by
  simp[mm]at h;split at h
  . rename_i x ys h1 b;cases h;exact .cons (Rx h1) (pP b)
  grind
theorem Ry{d:V}{x:bF U}(h:vk d=some x):bR N J x d:=by
 cases d with
 |c d=>
  simp[vk]at h;split at h
  . rename_i y ak;cases h;exact .c (Rx ak)
  grind
 |agg a=>
  simp[vk]at h;split at h
  . rename_i y ak;cases h;exact .agg (pP ak)
  grind
 |ba _=>grind[vk]
def cB(env:bQ U)(G:Nat->Bool):Option (Nat×Bool)->Bool
 |none=>true
 |some (t,b)=>G t&&(e3 env t b).getD false
theorem gw.aX(ao:gw gl env G)(k:Nat):cB env G (aX gl k)=G k:=by
 cases h:Shv.aX gl k with
 |none=>exact(ao.free k h).symm
 |some g=>
  obtain⟨t,b⟩:=g;obtain⟨y,h1,a⟩:=ao.held k t b h;grind[cB]
theorem Bq(ao:gw gl env G):∀{a:Nat} {gd:Option (Nat×Bool)} {g:Bool},kF gl env a gd=some g->g=cB env G gd
 |_,none,g,h=>by unfold kF at h;simp at h;subst h;rfl
 |0,some _,g,h=>by grind[kF]
 |a+1,some (t,b),g,h=>by
  simp[kF]at h;split at h
  . rename_i x y h1 c;cases h;rw[Bq ao h1,ao.aX t];grind[cB]
  grind
theorem ZX:∀{a:Nat} {t:Nat} {b:Bool} {g:Bool},kF gl env a (some (t,b))=some g->∃y,e3 env t b=some y
 |0,t,b,g,h=>by grind[kF]
 |a+1,t,b,g,h=>by
  grind[kF]
theorem bR.dJ(h:bR N J (.c x) v1):∃d,v1= .c d/\b8 N J x d:=by cases h<;>grind
theorem bR.kS{xs:List (bo U)}(h:bR N J (.agg xs) v1):∃a,v1= .agg a/\a6 (b8 N J) xs a:=by cases h<;>grind
theorem bR.vd{c:Cell U.D}(h:bR N J (.c (.t c)) v1):v1= .c (.t (c.enc U)):=by obtain⟨d,rfl,aa⟩:=h.dJ;cases aa;rfl
theorem bR.iG{b:Bool}(h:bR N J (.c (.t ⟨.bool,b⟩)) v1):v1= .c (.t (.bool b)):=h.vd
theorem bR.fe{k:IntKind}{m:Int}(h:bR N J (.c (.t ⟨.int k,m⟩)) v1):v1= .c (.t (.int k m)):=h.vd
theorem bR.jL{s:aD}(h:bR N J (.c (.t ⟨.str,s⟩)) v1):v1= .c (.t (.str s)):=h.vd
theorem bR.iS{l:List (t.den U.D)}(h:bR N J (.c (.t ⟨.slice t,l⟩)) v1):v1= .c (.t (.slice (l.map (t.enc U)))):=h.vd
theorem bR.gF{b:Nat}(h:bR N J (.c (.ptr b o)) v1):v1= .c (.ptr b o):=by obtain⟨d,rfl,aa⟩:=h.dJ;cases aa;rfl
theorem bR.ir{b i:Nat}(h:bR N J (.c (.cH b t i o)) v1):v1= .c (.cH b (t.sz U) i o):=by obtain⟨d,rfl,aa⟩:=h.dJ;cases aa;rfl
theorem bR.De{x:t.den U.D}(h:bR N J (.c (.dF t x o)) v1):v1= .c (.dF (t.enc U x) o):=by obtain⟨d,rfl,aa⟩:=h.dJ;cases aa;rfl
theorem bR.sY(h:bR N J (.c .aT) v1):v1= .c .aT:=by obtain⟨d,rfl,aa⟩:=h.dJ;cases aa;rfl
theorem bR.gx{b:Nat}(h:bR N J (.c (.arr b)) v1):∃sz n,v1= .c (.arr b sz 0 n)/\b<N/\∀x,Shv.aX J b=some x->∀p,x.db=some p->p=(sz,n):=by
 obtain⟨d,rfl,aa⟩:=h.dJ;cases aa<;>grind
theorem bR.zI{b:Nat}(h:bR N J (.c (.mp b)) v1):v1= .c (.mp b):=by obtain⟨d,rfl,aa⟩:=h.dJ;cases aa;rfl
theorem bR.Pc{b:Nat}(h:bR N J (.c (.en b)) v1):v1= .c (.en b):=by obtain⟨d,rfl,aa⟩:=h.dJ;cases aa;rfl
theorem bR.vv{b:Nat}(h:bR N J (.c (.cj b)) v1):∃n,v1= .c (.cj b n)/\b<N/\∀x,Shv.aX J b=some x->∀p,x.db=some p->p=(1,n):=by
 obtain⟨d,rfl,aa⟩:=h.dJ;cases aa<;>grind
theorem bR.C9{f:Nat}{caps:aZ}(h:bR N J (.c (.fn f caps)) v1):v1= .c (.fn f caps):=by
 obtain⟨d,rfl,aa⟩:=h.dJ;cases aa;rfl
theorem ZY{t:Nat}{b y:Bool}(he:cS N J G env env1)(h:e3 env t b=some y):∃x,look env1 t=some (G t,.c (.t (.bool x)))/\y=(x==b):=by
 unfold e3 at h;split at h
 . rename_i x I;cases h;obtain⟨v1,h1,a⟩:=he t _ I;have:=a.iG;grind
 grind
theorem Bz(he:cS N J G env env1)(h:gd=none\/∃t b y,gd=some (t,b)/\e3 env t b=some y):fO env1 gd=some (cB env G gd):=by
 grind[ZY,fO,cB]
theorem Br(ao:gw gl env G):∀{c:Nat} {gd:Option (Nat×Bool)} {k:Nat},cB env G gd=true->va gl c gd k=true->G k=true
 |0,gd,k,_,h=>by grind[va]
 |c+1,gd,k,aj,h=>by
  simp[va]at h;split at h
  . rename_i a;exact ao.free k a
  . rename_i d a;split at h
    . grind
    . rename_i g;obtain⟨t,b⟩:=g;obtain⟨i,f⟩:=d;simp only[lj,cO,hL]at h;rcases h with⟨h1,e⟩|h
      . have:=cR h1;subst this;subst e;obtain⟨y,bn,bt⟩:=ao.held k t b a;grind[cB]
      . refine Br ao ?_ h;rw[ao.aX t];grind[cB]
theorem cf(he:cS N J G env env1)(ao:gw gl env G){x:aO}(h:c9 gl gd env x=some v):
 ∃p v1,x.get env1=some (p,v1)/\bR N J v v1/\(cB env G gd=true->p):=by
 cases x with
 |const d=>exact⟨True,d,rfl,Ry h,λ_=>trivial⟩
 |tmp k=>
  simp[c9]at h;split at h
  . rename_i hs;obtain⟨v1,h1,a⟩:=he k v h;exact⟨_,v1,by grind[aO.get],a,λaj=>Br ao aj hs⟩
  grind
theorem Hc(he:cS N J G env env1)(ao:gw gl env G){c x:aO}{b y:Bool}{g:bF U}(f:c9 gl gd env c=some g)(m:g= .c (.t ⟨.bool,y⟩))(h:CB gl gd env c b x=some v):
 ∃p v1,x.get env1=some (p,v1)/\bR N J v v1/\(cB env G gd=true->y=b->p):=by
 cases x with
 |const d=>exact⟨True,d,rfl,Ry h,λ_ _=>trivial⟩
 |tmp k=>
  simp[CB]at h;split at h
  . rename_i hs;obtain⟨v1,h1,a⟩:=he k v h;exact⟨_,v1,by grind[aO.get],a,λaj _=>Br ao aj hs⟩
  . split at h
    . rename_i n t i j;split at h
      . rename_i e;simp only[cO,hL]at e;obtain⟨h1,rfl⟩:=e;have:=cR h1;obtain⟨v1,h1,a⟩:=he k v h;refine⟨G k=true,v1,by grind[aO.get],a,λaj ak=>?_⟩;simp[c9]at f;split at f
        . rename_i hs;have l:=Br ao aj hs;obtain⟨o,bn,bt⟩:=ao.held k t i j;grind[e3]
        grind
      grind
    grind
theorem rI(he:cS N J G env env1)(ao:gw gl env G):∀{xs:List aO} {vs:List (bF U)},kP gl gd env xs=some vs->
 ∃p a,gW env1 xs=some (p,a)/\a6 (bR N J) vs a/\(cB env G gd=true->p)
 |[],vs,h=>by simp[kP]at h;subst h;exact⟨True,[],rfl,.nil,λ_=>trivial⟩
 |x::xs,vs,h=>by
  simp[kP]at h;split at h
  . rename_i v f h1 d;cases h;obtain⟨p,v1,a1,a2,a3⟩:=cf he ao h1;obtain⟨q,a,e,b,c⟩:=rI he ao d;exact⟨p/\q,v1::a,by grind[gW],.cons a2 b,λaj=>⟨a3 aj,c aj⟩⟩
  grind
theorem n9(h:bR N J v v1)(a:oD v=some cs):∃b,oA v1=some b/\a6 (b8 N J) cs b:=by
 cases h with
 |c h=>simp[oD]at a;subst a;exact⟨_,rfl,.cons h .nil⟩
 |agg h=>simp[oD]at a;subst a;exact⟨_,rfl,h⟩
 |ba=>grind[oD]
theorem E2{a:List (bo U)}{b c:List C}(h:a6 (b8 N J) cs b)(d:a6 (b8 N J) a c):a6 (b8 N J) (vi cs o a) (td b o c):=by
 unfold vi td;rw[d.length];exact((h.take o).append d).append (h.drop _)
theorem hj{a b:Nat}(h:Nat.ble a b=true):a<=b:=sr h
theorem QH(he:cS N J G env env1)(ao:gw gl env G):∀{ps:List (Nat×Nat×aO)} {cs b:List (bo U)} {a:List C},xJ gl gd env cs ps=some b->a6 (b8 N J) cs a->
 ∃p c,kv env1 a ps=some (p,c)/\a6 (b8 N J) b c/\(cB env G gd=true->p)
 |[],cs,b,a,h,aj=>by simp[xJ]at h;subst h;exact⟨True,a,rfl,aj,λ_=>trivial⟩
 |(o,n,x)::r,cs,b,a,h,aj=>by
  simp[xJ]at h;split at h
  . grind
  . rename_i v i;split at h
    . grind
    . rename_i es g;split at h
      . rename_i d;simp only[cO]at d;have j:=cR d.1;have k:=hj d.2;obtain⟨p,v1,a1,a2,a3⟩:=cf he ao i;obtain⟨fs,f,e⟩:=n9 a2 g;obtain⟨q,c,c1,c2,c3⟩:=QH he ao h (E2 aj e);refine⟨p/\q,c,?_,c2,λaj=>⟨a3 aj,c3 aj⟩⟩;simp only[kv,a1,aw,f];rw[ai ⟨by rw[<-e.length];grind,by rw[<-aj.length];grind⟩,c1];rfl
      grind
theorem Zf{d:C}{t:T}(h:b8 N J x d)(ht:x.toT=some t):Shv.toT d=some t:=by
 cases h<;>simp[bo.toT]at ht
 . split at ht
   . grind
   . cases ht;rfl
 . subst ht;rfl
theorem xc:∀{cs:List (bo U)} {a:List C} {ts:List T},a6 (b8 N J) cs a->ha cs=some ts->toTs a=some ts
 |[],[],ts,_,h=>by simp[ha]at h;subst h;rfl
 |c::cs,d::a,ts,.cons h1 b,h=>by
  simp[ha]at h;split at h
  . rename_i t f ht e;cases h;simp[toTs,Zf h1 ht,xc b e]
  grind
theorem Fl:∀{cs:List (bo U)} {ts:List T},ha cs=some ts->ts.length=cs.length
 |[],ts,h=>by grind[ha]
 |c::cs,ts,h=>by
  simp[ha]at h;split at h
  . rename_i t b ht a;cases h;simp[Fl a]
  grind
theorem a6.set{α c:Type}{R:α->c->Prop}{l:List α}{m:List c}(h:a6 R l m){i:Nat}{a:α}{b:c}(f:R a b):a6 R (l.set i a) (m.set i b):=by
 induction h generalizing i with
 |nil=>exact .nil
 |cons h1 e ih=>cases i with
  |zero=>exact .cons f e
  |succ i=>exact .cons h1 ih
theorem FB(he:cS N J G env env1)(ao:gw gl env G){sz:Nat}:∀{ps:List (Nat×aO)} {a b:List (List (bo U))} {es:List (List T)},ur gl gd env sz a ps=some b->
 a6 (λr e=>ha r=some e) a es->(∀r,r∈a->r.length=sz)->∃p c,je env1 sz es ps=some (p,c)/\a6 (λr e=>ha r=some e) b c/\(∀r,r∈b->r.length=sz)/\(cB env G gd=true->p)
 |[],a,b,es,h,d,ag=>by simp[ur]at h;subst h;exact⟨True,es,rfl,d,ag,λ_=>trivial⟩
 |(i,x)::ps,a,b,es,h,d,ag=>by
  simp[ur]at h;split at h
  . grind
  . rename_i v m;split at h
    . grind
    . rename_i cs l;split at h
      . grind
      . rename_i ts g;split at h
        . rename_i f;simp only[cO]at f;have o:=cR f.1;have s:=hj f.2;obtain⟨p,v1,a1,a2,a3⟩:=cf he ao m;obtain⟨n,j,k⟩:=n9 a2 l;obtain⟨q,c,c1,c2,c4,c3⟩:=FB he ao h (a6.set d g) (by grind);refine⟨p/\q,c,?_,c2,c4,λaj=>⟨a3 aj,c3 aj⟩⟩;simp only[je,a1,aw,j,xc k g];rw[ai ⟨by grind[Fl],by rw[<-d.length];omega⟩,c1];rfl
        grind
end
end
section
open Go
variable {U:cE}
structure dH (N:Nat)(J:bf U)(J1:a8)(o:cF)(env1:Env)(g c:Bool)(v:bF U)(J':bf U):Prop where
 val:∃v1,bR (N+16) J' v v1/\(g=true->c=true->∃p bp,aM o env1 J1 N=some (p,v1,bp)/\p/\cm (N+16) J' bp)
 afm:c' N J (N+16) J'
 ad':o.neutral=true->J'=J
variable{v1:V}{g agg neg:Bool}{o:cF}{cs:List (bo U)}{α:Type}{t:aH}{ts:List T}{J1:a8}{x y:aO}{off:Nat}{es:List (List T)}{e:fF U}{R:α->α->Prop}
section
variable {N N':Nat}{J J':bf U}{J1:a8}{env:bQ U}{env1:Env}{G:Nat->Bool}{gl:eo}{gd:Option (Nat×Bool)}{c:Bool}{v:bF U}
theorem cm.mono(h:cm N J J1)(cr:N<=N'):cm N' J J1:=λb x I=>
 let⟨h1,y,a,c⟩:=h b x I;⟨ix h1 cr,y,a,c.mono (c'.more cr)⟩
theorem dH.neutral(aE:cm N J J1)(j:bR N J v v1)(e:g=true->c=true->∃p,aM o env1 J1 N=some (p,v1,J1)/\p):dH N J J1 o env1 g c v J:=
 ⟨⟨v1,j.mono (c'.more (by simp)),λao f=>let⟨p,h1,a⟩:=e ao f;⟨p,J1,h1,a,aE.mono (by simp)⟩⟩,c'.more (by simp),λ_=>rfl⟩
theorem dH.store(aV:o.neutral=false)(e:c' N J (N+16) J')(f:bR (N+16) J' v v1)(a:g=true->c=true->∃p bp,aM o env1 J1 N=some (p,v1,bp)/\p/\cm (N+16) J' bp):dH N J J1 o env1 g c v J':=
 ⟨⟨v1,f,a⟩,e,λh=>by grind⟩
theorem uy{k o:Nat}{b:List C}(a:a6 (b8 N J) cs b)(h:qn agg k cs o=some v):∃v1,ji agg k b o=some v1/\bR N J v v1:=by
 unfold qn at h;split at h
 . split at h
   . cases h;refine⟨_,by simp only[ji,bJ];rw[ai (by rw[<-a.length];simp_all)],.agg ((a.drop o).take k)⟩
   grind
 . split at h
   . rename_i x I;cases h;obtain⟨d,h1,e⟩:=a.get I;exact⟨_,by grind[ji],.c e⟩
   grind
theorem a6.map_map{c e j:Type}{R:e->j->Prop}{f:α->e}{g:c->j}:∀{l:List α} {m:List c},a6 (λa b=>R (f a) (g b)) l m->a6 R (l.map f) (m.map g)
 |[],[],_=>.nil
 |_::_,_::_,.cons h1 o=>.cons h1 (a6.map_map o)
theorem a6.self(h:∀a,R a a):∀(l:List α),a6 R l l
 |[]=>.nil
 |a::l=>.cons (h a) (a6.self h l)
theorem xd{x:t.den U.D}:a6 (b8 N J) ((t.row U x).map .t) ((t.enc U x).map .t):=by
 rw[aH.ta,List.map_map];exact a6.map_map (a6.self (λc=>b8.t c) _)
theorem Gj{k o:Nat}{v:V}(ag:ji agg k (ts.map .t) o=some v):loadT agg k ts o=some v:=by
 unfold ji at ag;unfold loadT;cases agg<;>simp_all
theorem X'{op:BinOp}{p q:Cell U.D}{r:Cell U.D}(h:G6 op p q=some (c,r)):∃d,o0 op (p.enc U) (q.enc U)=some (d,r.enc U)/\(c=true->d):=by
 unfold G6 at h;split at h
 . rename_i k a e b;show ∃d,o0 op (.int k a) (.int e b)=some (d,r.enc U)/\(c=true->d);cases op<;>simp only[P1,reduceCtorEq,er]at h
   all_goals first
    |(obtain⟨rfl,rfl,rfl⟩:=h;exact⟨_,by simp only[o0];rfl,λh=>by simpa using h⟩)
    |(obtain⟨rfl,rfl⟩:=h)
    |(obtain⟨rfl,rfl,rfl⟩:=h)
 . rename_i a b;cases op<;>simp only[P2,dW]at h
   all_goals first
    |(obtain⟨rfl,rfl⟩:=h;exact⟨_,by rfl,λh=>by simpa using h⟩)
    |(obtain⟨rfl,rfl⟩:=h)
 . cases h
theorem Ya{k:Nat}{x y:Cell U.D}{b:Bool}(h:G8 k x y=some b):vO k (x.enc U) (y.enc U)=some b:=by
 unfold G8 at h;split at h
 . cases h;rfl
 . simp at h;obtain⟨rfl,rfl⟩:=h;show(if _ then _ else _)=_;rw[ai rfl];rfl
 . cases h;rfl
 grind
theorem RG:∀{ks:aZ} {xs ys:List (bo U)} {a es:List C} {b:Bool},y0 ks xs ys=some b->a6 (b8 N J) xs a->a6 (b8 N J) ys es->kE ks a es=some b
 |[],[],[],[],[],b,h,.nil,.nil=>by simp[y0]at h;subst h;rfl
 |k::ks,.t x::xs,.t y::ys,d::a,e::es,b,h,.cons h1 c,.cons f g=>by
  simp[y0]at h;split at h
  . rename_i l r i j;cases h;cases h1;cases f;simp[kE,Ya i,RG j c g]
  grind
theorem RH{a b:aD}:(sZ a b).length=a.length+b.length:=dQ
theorem aaV{a b:Int}:dZ a b=true↔a=b:=by simp[dZ]
theorem p4{m:Int}{n:Nat}:aB m n=true↔0<=m/\m.toNat<n:=by simp[aB]
theorem jY{b a:Int}{n:Nat}:gu b a n=true↔0<=b/\b<=a/\a<=n:=by simp[gu]
theorem abr{s:List (t.den U.D)}{l r:Option Int}{a pl b:Prop}{sz:Nat}:
 (some (a/\pl/\b/\0<=l.getD 0/\l.getD 0<=r.getD ((List.map (t.enc U) s).length:Int)/\r.getD ((List.map (t.enc U) s).length:Int)<=((List.map (t.enc U) s).length:Int)/\∀e,e∈List.map (t.enc U) s->e.length=sz,
  V.c (C.t (T.slice (((List.map (t.enc U) s).take (r.getD ((List.map (t.enc U) s).length:Int)).toNat).drop (l.getD 0).toNat))),J1):y5)=
 some (a/\pl/\b/\0<=l.getD 0/\l.getD 0<=r.getD (s.length:Int)/\r.getD (s.length:Int)<=(s.length:Int)/\∀e,e∈List.map (t.enc U) s->e.length=sz,
  V.c (C.t (Cell.enc U ⟨.slice t,lC s (l.getD 0) (r.getD (s.length:Int))⟩)),J1):=by
 have:Cell.enc U ⟨.slice t,lC s (l.getD 0) (r.getD s.length)⟩=T.slice (List.map (t.enc U) _):=rfl;grind[lC,List.map_drop,List.map_take]
variable{a:Type}{f:α->a}
theorem abt{l:List α}{p:Prop}:(some (p,V.c (C.t (T.int .i64 ((l.map f).length:Int))),J1):y5)=some (p,V.c (C.t (.int .i64 (l.length:Int))),J1):=by simp
theorem tN{l:List α}{i:Nat}(h:i<l.length):i<(l.map f).length:=by grind
theorem a6.replicate{c:Type}{R:α->c->Prop}{a:α}{b:c}(h:R a b):∀n:Nat,a6 R (List.replicate n a) (List.replicate n b)
 |0=>.nil
 |n+1=>.cons h (a6.replicate h n)
theorem En:∀{xs:List (bo U)} {dh:List aH} {es:List C} {row:List (Cell U.D)},hU dh xs=some row->a6 (b8 N J) xs es->toTs es=some (row.map (Cell.enc U))
 |[],dh,es,row,h1,a=>by
  cases a;cases dh<;>simp[hU]at h1;subst h1;rfl
 |y::ys,[],es,row,h1,a=>by grind[hU]
 |y::ys,ty::dh,_::_,row,h1,.cons a d=>by
  cases a with
  |t c=>cases ty<;>simp only[hU]at h1<;>(split at h1<;>first|(cases h1;done)|(rename_i q b;cases h1;simp[toTs,toT,En b d]))
  |aT=>
   cases ty<;>simp[hU]at h1;split at h1
   . rename_i q b;cases h1;simp[toTs,En b d];rfl
   grind
  |_=>grind[hU]
theorem Q5{sz:Nat}:∀{ps:List (Nat×aO)} {es c:List (List T)} {p:Prop},je env1 sz es ps=some (p,c)->c.length=es.length
 |[],es,c,p,h=>by grind[je]
 |(i,x)::ps,es,c,p,h=>by
  simp only[je,bk,er,bx]at h;obtain⟨a,_,cs,_,ts,_,_,b,d,_,rfl⟩:=h;have:=Q5 d;grind
theorem Fm{l k:List (t.den U.D)}{i o:Nat}{d:List C}(h:qK U t l i o cs=some k)(n:i<l.length)(g:a6 (b8 N J) cs d)(y:o+cs.length<=t.sz U):
 ∃ts,toTs d=some ts/\k.map (t.enc U)=(l.map (t.enc U)).set i ((el (l.map (t.enc U)) i).take o++ts++(el (l.map (t.enc U)) i).drop (o+cs.length)):=by
 unfold qK at h;split at h
 . rename_i x I;cases h;unfold oW at I;split at I
   . rename_i row u;have s:=aH.Dm I;have key:=@En U N J;have v:a6 (b8 N J) ((t.row U (t.at U l i)).map .t) _:=xd;have m:=E2 (o:=o) v g;have h1:=key u m;have f:∀{a b:List C} {r:List T},toTs (a++b)=some r->∃p q,toTs a=some p/\toTs b=some q/\r=p++q:=by
      intro a;induction a with
      |nil=>intro b r h;exact⟨[],r,rfl,h,rfl⟩
      |cons c a ih=>
       intro b r h;simp[toTs,bk,bx]at h;grind[toTs]
     have j:∀(ts:List T),toTs (ts.map .t)=some ts:=by
      intro ts;induction ts with
      |nil=>rfl
      |cons a ts ih=>grind[toTs,toT]
     obtain⟨p,q,aN,e,dw⟩:=f h1;obtain⟨z,w,f1,f2,f3⟩:=f aN;rw[<-List.map_take,j]at f1;cases f1;rw[<-List.map_drop,j]at e;cases e;refine⟨w,f2,?_⟩;rw[List.map_set,xI n,aH.ta,s,dw,f3,g.length]
   grind
 grind
variable (he:cS N J G env env1)(ao:gw gl env G)(aE:cm N J J1)
section
include he ao aE
theorem ae3(h:ck gl gd env J N (.mov x)=some (c,v,J')):dH N J J1 (.mov x) env1 (cB env G gd) c v J':=by
 simp[ck]at h;split at h
 . rename_i w a;cases h;obtain⟨p,v1,a1,a2,a3⟩:=cf he ao a;exact .neutral aE a2 λaj _=>⟨p,by grind[aM],a3 aj⟩
 grind
theorem abu{z:aO}(h:ck gl gd env J N (.pick x y z)=some (c,v,J')):dH N J J1 (.pick x y z) env1 (cB env G gd) c v J':=by
 simp[ck]at h;split at h
 . rename_i b p q h1 f g;cases h;obtain⟨i,v1,a1,a2,a3⟩:=cf he ao h1;obtain⟨j,v2,a,d,e⟩:=Hc he ao h1 rfl f;obtain⟨k,v3,c1,c2,c3⟩:=Hc he ao h1 rfl g;have:=a2.iG;subst this;have:=d.iG;subst this;have:=c2.iG;subst this;refine .neutral aE (.c (.t _)) λaj _=>⟨i/\(b=true->j)/\(b=false->k),by simp only[aM,a1,a,c1];rfl,a3 aj,e aj,c3 aj⟩
 grind
theorem Yb(h:ck gl gd env J N (.nilCheck x)=some (c,v,J')):dH N J J1 (.nilCheck x) env1 (cB env G gd) c v J':=by
 simp[ck]at h;split at h
 . rename_i b o a;cases h;obtain⟨p,v1,a1,a2,a3⟩:=cf he ao a;have:=a2.gF;subst this;exact .neutral aE a2 λaj _=>⟨p,by simp[aM,a1],a3 aj⟩
 . rename_i b t i o a;cases h;obtain⟨p,v1,a1,a2,a3⟩:=cf he ao a;have:=a2.ir;subst this;exact .neutral aE a2 λaj _=>⟨p,by simp[aM,a1],a3 aj⟩
 . rename_i t d o a;cases h;obtain⟨p,v1,a1,a2,a3⟩:=cf he ao a;have:=a2.De;subst this;exact .neutral aE a2 λaj _=>⟨p,by simp[aM,a1],a3 aj⟩
 grind
theorem ae4(h:ck gl gd env J N (.not x)=some (c,v,J')):dH N J J1 (.not x) env1 (cB env G gd) c v J':=by
 simp[ck]at h;split at h
 . rename_i b a;cases h;obtain⟨p,v1,a1,a2,a3⟩:=cf he ao a;have:=a2.iG;subst this;exact .neutral aE (.c (.t _)) λaj _=>⟨p,by simp[aM,a1];rfl,a3 aj⟩
 grind
theorem abv{k:IntKind}(h:ck gl gd env J N (.conv k x)=some (c,v,J')):dH N J J1 (.conv k x) env1 (cB env G gd) c v J':=by
 simp only[ck]at h;split at h
 . rename_i b m a;cases h;obtain⟨p,v1,a1,a2,a3⟩:=cf he ao a;have:=a2.fe;subst this;exact .neutral aE (.c (.t _)) λaj _=>⟨p,by simp[aM,a1];rfl,a3 aj⟩
 grind
theorem ae1(h:ck gl gd env J N (.i2s x)=some (c,v,J')):dH N J J1 (.i2s x) env1 (cB env G gd) c v J':=by
 simp[ck]at h;split at h
 . rename_i b m a;cases h;obtain⟨p,v1,a1,a2,a3⟩:=cf he ao a;have:=a2.fe;subst this;exact .neutral aE (.c (.t _)) λaj _=>⟨p,by simp[aM,a1];rfl,a3 aj⟩
 grind
theorem ae5(h:ck gl gd env J N (.s2s x)=some (c,v,J')):dH N J J1 (.s2s x) env1 (cB env G gd) c v J':=by
 simp[ck]at h;split at h
 . rename_i s a;cases h;obtain⟨p,v1,a1,a2,a3⟩:=cf he ao a;have:=a2.jL;subst this;exact .neutral aE a2 λaj _=>⟨p,by simp[aM,a1],a3 aj⟩
 grind
theorem abw(h:ck gl gd env J N (.fldA off x)=some (c,v,J')):dH N J J1 (.fldA off x) env1 (cB env G gd) c v J':=by
 simp[ck]at h;split at h
 . rename_i b o a;cases h;obtain⟨p,v1,a1,a2,a3⟩:=cf he ao a;have:=a2.gF;subst this;exact .neutral aE (.c (.ptr _ _)) λaj _=>⟨p,by simp[aM,a1],a3 aj⟩
 . rename_i b t i o a;cases h;obtain⟨p,v1,a1,a2,a3⟩:=cf he ao a;have:=a2.ir;subst this;exact .neutral aE (.c (.cH _ _ _ _)) λaj _=>⟨p,by simp[aM,a1],a3 aj⟩
 . rename_i t d o a;cases h;obtain⟨p,v1,a1,a2,a3⟩:=cf he ao a;have:=a2.De;subst this;exact .neutral aE (.c (.dF _ _ _)) λaj _=>⟨p,by simp[aM,a1],a3 aj⟩
 grind
theorem ae0{k:Nat}(h:ck gl gd env J N (.fld agg off k x)=some (c,v,J')):dH N J J1 (.fld agg off k x) env1 (cB env G gd) c v J':=by
 simp[ck]at h;split at h
 . rename_i cs b;split at h
   . rename_i w ag;cases h;obtain⟨p,v1,a1,a2,a3⟩:=cf he ao b;obtain⟨d,rfl,a⟩:=a2.kS;obtain⟨v2,c1,c2⟩:=uy a ag;exact .neutral aE c2 λaj _=>⟨p,by grind[aM],a3 aj⟩
   grind
 grind
theorem abx{k:Nat}(h:ck gl gd env J N (.load agg k x)=some (c,v,J')):dH N J J1 (.load agg k x) env1 (cB env G gd) c v J':=by
 simp only[ck]at h;split at h
 . rename_i b o j;split at h
   . rename_i cs g;split at h
     . rename_i w ag;cases h;obtain⟨p,v1,a1,a2,a3⟩:=cf he ao j;have:=a2.gF;subst this;obtain⟨_,y,d,a⟩:=aE b _ g;cases a with
       |box a=>
        obtain⟨v2,c1,c2⟩:=uy a ag;exact .neutral aE c2 λaj _=>⟨p,by simp[aM,a1,d,c1],a3 aj⟩
     . cases h
   . rename_i E s g;split at h
     . cases h;obtain⟨p,v1,a1,a2,a3⟩:=cf he ao j;have:=a2.gF;subst this;obtain⟨_,y,d,a⟩:=aE b _ g;cases a with
       |b1 a=>exact .neutral aE (.c a) λaj _=>⟨p,by simp[aM,a1,d],a3 aj⟩
     . cases h
   . cases h
 . rename_i b t i o j;split at h
   . rename_i r z g;split at h
     . rename_i l ag;have e:=Cell.jw ag;split at h
       . rename_i w n;cases h;obtain⟨p,v1,a1,a2,a3⟩:=cf he ao j;have:=a2.ir;subst this;obtain⟨_,y,d,a⟩:=aE b _ g;cases a with
         |arr=>
          obtain⟨v2,c1,c2⟩:=uy xd n;refine .neutral aE c2 λaj f=>⟨p/\t.sz U=t.sz U/\i<(List.map (t.enc U) l).length,?_,a3 aj,rfl,tN (gf f)⟩
          simp only[gg]at f;grind[Gj,aM,xI]
       . cases h
     . cases h
   . rename_i r z u A s g;split at h
     . cases h
     . split at h
       . rename_i m;split at h
         . rename_i q;cases h;have m:=cR m;have q:=cR q;subst m;obtain⟨p,v1,a1,a2,a3⟩:=cf he ao j;have:=a2.ir;subst this;obtain⟨_,y,d,a⟩:=aE b _ g;cases a with
           |cx _ _ _ _ a=>
            refine .neutral aE (.c a) λaj f=>⟨p/\t.sz U=r.sz U/\i=u,?_,a3 aj,q,gf f⟩
            simp only[aM,a1,aw,d];simp
         . cases h
       . rename_i m;have m:=hh m;split at h
         . rename_i l ag;have e:=Cell.jw ag;cases e;split at h
           . rename_i w n;cases h;obtain⟨p,v1,a1,a2,a3⟩:=cf he ao j;have:=a2.ir;subst this;obtain⟨_,y,d,a⟩:=aE b _ g;cases a with
             |cx _ _ _ _ a=>
              obtain⟨v2,c1,c2⟩:=uy xd n;refine .neutral aE c2 λaj f=>⟨p/\t.sz U=t.sz U/\i<(List.map (t.enc U) l).length,?_,a3 aj,rfl,tN (gf f)⟩
              simp only[gg]at f;have c1:=Gj c1;simp only[aM,a1,aw,d];rw[c8,av m,xI f,c1];rfl
           . cases h
         . cases h
   . cases h
 . rename_i t B o j;split at h
   . rename_i w ag;cases h;obtain⟨p,v1,a1,a2,a3⟩:=cf he ao j;have:=a2.De;subst this;obtain⟨v2,c1,c2⟩:=uy xd ag;have c1:=Gj c1;exact .neutral aE c2 λaj _=>⟨p,by simp[aM,a1,c1],a3 aj⟩
   . cases h
 grind
theorem aeX{op:BinOp}(h:ck gl gd env J N (.bin op x y)=some (c,v,J')):dH N J J1 (.bin op x y) env1 (cB env G gd) c v J':=by
 simp[ck]at h;split at h
 . rename_i p q al e;split at h
   . rename_i l r f;cases h;obtain⟨g,v1,a1,a2,a3⟩:=cf he ao al;obtain⟨i,v2,k,a,b⟩:=cf he ao e;have:=a2.vd;have:=a.vd;obtain⟨j,d1,d2⟩:=X' f;exact .neutral aE (.c (.t _)) λaj d=>⟨g/\i/\j,by grind[aM],a3 aj,b aj,d2 d⟩
   grind
 grind
theorem aaW{ks:aZ}(h:ck gl gd env J N (.eqAgg neg ks x y)=some (c,v,J')):dH N J J1 (.eqAgg neg ks x y) env1 (cB env G gd) c v J':=by
 simp[ck]at h;split at h
 . rename_i p q al f;split at h
   . rename_i r g;cases h;obtain⟨i,v1,a1,a2,a3⟩:=cf he ao al;obtain⟨j,v2,a,b,d⟩:=cf he ao f;obtain⟨k,rfl,d2⟩:=a2.kS;obtain⟨es,rfl,e⟩:=b.kS;have:=RG g d2 e;exact .neutral aE (.c (.t _)) λaj l=>⟨i/\j,by simp[aM,a1,a,this];cases neg<;>rfl,a3 aj,d aj⟩
   . cases h
 . cases h
theorem ZZ(h:ck gl gd env J N (.eqBool neg x y)=some (c,v,J')):dH N J J1 (.eqBool neg x y) env1 (cB env G gd) c v J':=by
 simp[ck]at h;split at h
 . rename_i p q al e;cases h;obtain⟨f,v1,a1,a2,a3⟩:=cf he ao al;obtain⟨g,v2,a,b,d⟩:=cf he ao e;have:=a2.iG;subst this;have:=b.iG;subst this;exact .neutral aE (.c (.t _)) λaj i=>⟨f/\g,by simp only[aM,a1,a];cases neg<;>rfl,a3 aj,d aj⟩
 grind
theorem aby{sz:Nat}(h:ck gl gd env J N (.idxA sz x y)=some (c,v,J')):dH N J J1 (.idxA sz x y) env1 (cB env G gd) c v J':=by
 simp[ck]at h;split at h
 . rename_i t l k m al j;split at h
   . rename_i a;have a:=cR a;cases h;obtain⟨o,v1,a1,a2,a3⟩:=cf he ao al;obtain⟨p,v2,e,f,g⟩:=cf he ao j;have:=a2.iS;subst this;have:=f.fe;subst this;by_cases q:aB m (List.length l)=true
     . obtain⟨h1,i⟩:=p4.1 q;refine .neutral aE (v1:= .c (.dF (el (List.map (t.enc U) l) (Int.toNat m)) 0)) ?_ λaj d=>⟨o/\p/\(0:Int)<=m/\Int.toNat m<(List.map (t.enc U) l).length/\(el (List.map (t.enc U) l) (Int.toNat m)).length=sz,by simp only[aM,a1,e,aw],a3 aj,g aj,h1,tN i,by rw[xI i,aH.q6];exact a⟩
       rw[xI i];exact .c (.dF _ _ _)
     . exact .neutral aE (.c (.dF _ _ _)) λaj d=>absurd d q
   . cases h
 . rename_i b k m al j;split at h
   . rename_i t l r;split at h
     . rename_i a;have a:=cR a;cases h;obtain⟨o,v1,a1,a2,a3⟩:=cf he ao al;obtain⟨p,v2,e,f,g⟩:=cf he ao j;obtain⟨u,n,rfl,s,aj⟩:=a2.gx;have:=f.fe;subst this;have:=aj _ r _ rfl;cases this;refine .neutral aE (.c (.cH _ _ _ _)) λaj d=>⟨o/\p/\(0:Int)<=m/\Int.toNat m<l.length/\sz=t.sz U,?_,a3 aj,g aj,(p4.1 d).1,(p4.1 d).2,a.symm⟩
       simp only[aM,a1,e,aw,gS,a]
     . cases h
   . cases h
 grind
theorem abz(h:ck gl gd env J N (.idxS x y)=some (c,v,J')):dH N J J1 (.idxS x y) env1 (cB env G gd) c v J':=by
 simp[ck]at h;split at h
 . rename_i s k m al f;cases h;obtain⟨g,v1,a1,a2,a3⟩:=cf he ao al;obtain⟨i,v2,b,d,e⟩:=cf he ao f;have:=a2.jL;subst this;have:=d.fe;subst this;exact .neutral aE (.c (.t _)) λaj a=>⟨g/\i/\(0:Int)<=m/\Int.toNat m<List.length s,by simp only[aM,a1,b];rfl,a3 aj,e aj,(p4.1 a).1,(p4.1 a).2⟩
 grind
theorem n'{x:Option aO}{l:Option Int}(h:nk gl gd env x=some l):∃p,jh env1 x=some (p,l)/\(cB env G gd=true->p):=by
 unfold nk at h;split at h
 . cases h;exact⟨True,rfl,λ_=>trivial⟩
 . split at h
   . rename_i k n I;cases h;obtain⟨a,v1,a1,a2,a3⟩:=cf he ao I;have:=a2.fe;subst this;exact⟨a,by simp[jh,a1],a3⟩
   grind
theorem abA{b a:Option aO}(h:ck gl gd env J N (.slcS x b a)=some (c,v,J')):dH N J J1 (.slcS x b a) env1 (cB env G gd) c v J':=by
 simp[ck]at h;split at h
 . rename_i s l r al ag e;cases h;obtain⟨g,v1,a1,a2,a3⟩:=cf he ao al;obtain⟨pl,f,l2⟩:=n' he ao aE ag;obtain⟨i,j,k⟩:=n' he ao aE e;have:=a2.jL;subst this;exact .neutral aE (.c (.t _)) λaj d=>⟨g/\pl/\i/\0<=l.getD 0/\l.getD 0<=r.getD _/\r.getD _<=List.length s,by simp[aM,a1,f,j];rfl,a3 aj,l2 aj,k aj,jY.1 d⟩
 grind
theorem ae6{sz:Nat}{g A:Option aO}(h:ck gl gd env J N (.slc sz x g A)=some (c,v,J')):dH N J J1 (.slc sz x g A) env1 (cB env G gd) c v J':=by
 simp only[ck]at h;split at h
 . rename_i t s l r al ag i;split at h
   . rename_i d;have d:=cR d;cases h;obtain⟨j,v1,a1,a2,a3⟩:=cf he ao al;obtain⟨pl,y,l2⟩:=n' he ao aE ag;obtain⟨k,o,m⟩:=n' he ao aE i;have:=a2.iS;subst this;refine .neutral aE (.c (.t (U:=U) ⟨.slice t,_⟩)) λaj a=>⟨j/\pl/\k/\0<=l.getD 0/\l.getD 0<=r.getD (List.length s:Int)/\r.getD (List.length s:Int)<=(List.length s:Int)/\∀e,e∈List.map (t.enc U) s->e.length=sz,?_,a3 aj,l2 aj,m aj,(jY.1 a).1,(jY.1 a).2.1,(jY.1 a).2.2,?_⟩
     . simp only[aM,a1,y,o,aw];exact abr
     grind[aH.q6]
   grind
 . rename_i b r al ag i;split at h
   . rename_i t s q;split at h
     . rename_i d;have d:=cR d;cases h;obtain⟨j,v1,a1,a2,a3⟩:=cf he ao al;obtain⟨k,o,m⟩:=n' he ao aE i;obtain⟨B,n,rfl,u,aj⟩:=a2.gx;have z:=aj _ q (t.sz U,s.length) rfl;have w:g=none:=by
        cases g with
        |none=>rfl
        |some x=>grind[nk]
       subst w;refine .neutral aE (.c (.pre b (t.sz U) _ u λx I p al=>?_)) λf a=>⟨j/\True/\k/\0<=(none:Option Int).getD 0/\(none:Option Int).getD 0<=r.getD (List.length s:Int)/\r.getD (List.length s:Int)<=(List.length s:Int)/\sz=t.sz U,?_,a3 f,trivial,m f,(jY.1 a).1,(jY.1 a).2.1,(jY.1 a).2.2,d.symm⟩
       . grind
       . have C:jh env1 none=some (True,none):=rfl;grind[aM]
     grind
   grind
 . rename_i b l r al ag i;split at h
   . rename_i t s q;split at h
     . rename_i d;have d:=cR d;cases h;obtain⟨j,v1,a1,a2,a3⟩:=cf he ao al;obtain⟨pl,y,l2⟩:=n' he ao aE ag;obtain⟨k,o,m⟩:=n' he ao aE i;obtain⟨B,n,rfl,u,aj⟩:=a2.gx;have z:=aj _ q (t.sz U,s.length) rfl;obtain⟨rfl,rfl⟩:=z;have w:g.isNone=false:=by
        cases g with
        |none=>simp[nk]at ag
        |some x=>rfl
       refine .neutral aE (.c (.gG b (t.sz U) _ _ u λx I p al=>?_)) λf a=>⟨j/\pl/\k/\0<=(some l:Option Int).getD 0/\(some l:Option Int).getD 0<=r.getD (List.length s:Int)/\r.getD (List.length s:Int)<=(List.length s:Int)/\sz=t.sz U,?_,a3 f,l2 f,m f,(jY.1 a).1,(jY.1 a).2.1,(jY.1 a).2.2,d.symm⟩
       . grind
       . simp only[aM,a1,y,o,aw,w,bU,bN,gS];rfl
     grind
   grind
 grind
theorem abB(h:ck gl gd env J N (.slc0 x)=some (c,v,J')):dH N J J1 (.slc0 x) env1 (cB env G gd) c v J':=by
 simp[ck]at h;split at h
 . rename_i t l a;cases h;obtain⟨p,v1,a1,a2,a3⟩:=cf he ao a;have:=a2.iS;subst this;exact .neutral aE (.c .aT) λaj _=>⟨p,by simp[aM,a1],a3 aj⟩
 . rename_i a;cases h;obtain⟨p,v1,a1,a2,a3⟩:=cf he ao a;have:=a2.sY;subst this;exact .neutral aE (.c .aT) λaj _=>⟨p,by simp[aM,a1],a3 aj⟩
 . rename_i b a;cases h;obtain⟨p,v1,a1,a2,a3⟩:=cf he ao a;obtain⟨sz,n,rfl,_⟩:=a2.gx;exact .neutral aE (.c .aT) λaj _=>⟨p,by simp[aM,a1],a3 aj⟩
 grind
theorem RI:∀{vs:List (bF U)} {a:List V} {l:aZ},yY vs=some l->a6 (bR N J) vs a->aM.q0 a=some l
 |[],[],l,h,.nil=>by simp[yY]at h;subst h;rfl
 |.c (.ptr b 0)::vs,d::a,l,h,.cons h1 e=>by
  simp only[yY]at h;split at h
  . rename_i f ag;cases h;have:=h1.gF;subst this;simp[aM.q0,RI ag e]
  grind
theorem abC{f:Nat}{caps:List aO}(h:ck gl gd env J N (.mkfn f caps)=some (c,v,J')):dH N J J1 (.mkfn f caps) env1 (cB env G gd) c v J':=by
 simp[ck]at h;split at h
 . rename_i vs a;split at h
   . rename_i l ag;cases h;obtain⟨p,b,a1,a2,a3⟩:=rI he ao a;exact .neutral aE (.c (.fn _ _)) λaj _=>⟨p,by simp[aM,a1,RI he ao aE ag a2],a3 aj⟩
   . cases h
 grind
theorem aeZ{i:Nat}(h:ck gl gd env J N (.ext x i)=some (c,v,J')):dH N J J1 (.ext x i) env1 (cB env G gd) c v J':=by
 simp[ck]at h;split at h
 . rename_i vs e;split at h
   . rename_i w a;cases h;obtain⟨p,v1,a1,a2,a3⟩:=cf he ao e;cases a2 with
     |ba _ b ag d=>
      have f:=(dL.1 a).1;have aj:=df (l:=b) (i:=i) (by omega);exact .neutral aE (d i _ _ a aj) λao _=>⟨p,by grind[aM],a3 ao⟩
   grind
 grind
theorem abD(h:ck gl gd env J N (.max2 x y)=some (c,v,J')):dH N J J1 (.max2 x y) env1 (cB env G gd) c v J':=by
 simp only[ck]at h;split at h
 . rename_i k a m b al g;simp at h;obtain⟨rfl,rfl,rfl,rfl⟩:=h;obtain⟨i,v1,a1,a2,a3⟩:=cf he ao al;obtain⟨j,v2,d,e,f⟩:=cf he ao g;have:=a2.fe;subst this;have:=e.fe;subst this;exact .neutral aE (.c (.t (U:=U) _)) λaj l=>⟨i/\j,by simp[aM,a1,d];rfl,a3 aj,f aj⟩
 grind
theorem abE(h:ck gl gd env J N (.min2 x y)=some (c,v,J')):dH N J J1 (.min2 x y) env1 (cB env G gd) c v J':=by
 simp[ck]at h;split at h
 . rename_i k a m b al g;simp at h;obtain⟨rfl,rfl,rfl,rfl⟩:=h;obtain⟨i,v1,a1,a2,a3⟩:=cf he ao al;obtain⟨j,v2,d,e,f⟩:=cf he ao g;have:=a2.fe;subst this;have:=e.fe;subst this;exact .neutral aE (.c (.t _)) λaj l=>⟨i/\j,by simp only[aM,a1,d,aw];rfl,a3 aj,f aj⟩
 grind
theorem aaX{z:List C}{parts:List (Nat×Nat×aO)}(h:ck gl gd env J N (.build z parts)=some (c,v,J')):dH N J J1 (.build z parts) env1 (cB env G gd) c v J':=by
 simp[ck]at h;split at h
 . rename_i e b;split at h
   . rename_i cs a;cases h;obtain⟨p,d,a1,a2,a3⟩:=QH he ao a (pP b);exact .neutral aE (.agg a2) λaj _=>⟨p,by grind[aM],a3 aj⟩
   grind
 grind
theorem aaY{cs:List C}(h:ck gl gd env J N (.alloc cs)=some (c,v,J')):dH N J J1 (.alloc cs) env1 (cB env G gd) c v J':=by
 simp[ck]at h;split at h
 . rename_i xs a;cases h;have k:c' N J (N+16) (cD J N (.box xs)):=jX;exact .store rfl k (.c (.ptr _ _)) λaj _=>⟨True,_,rfl,trivial,aE.put (by simp) k (.box (pP a))⟩
 grind
theorem aeY(h:ck gl gd env J N (.box x)=some (c,v,J')):dH N J J1 (.box x) env1 (cB env G gd) c v J':=by
 simp[ck]at h;split at h
 . rename_i w d;split at h
   . rename_i cs b;cases h;obtain⟨p,v1,a1,a2,a3⟩:=cf he ao d;obtain⟨f,e,a⟩:=n9 a2 b;have k:c' N J (N+16) (cD J N (.box cs)):=jX;exact .store rfl k (.c (.ptr _ _)) λaj _=>⟨p,_,by grind[aM],a3 aj,aE.put (by simp) k (.box (a.imp λ_ _ _=>b8.mono k))⟩
   grind
 grind
theorem Z0{sz len:Nat}{z:List C}{parts:List (Nat×aO)}(h:ck gl gd env J N (.bslice sz len z parts)=some (c,v,J')):dH N J J1 (.bslice sz len z parts) env1 (cB env G gd) c v J':=by
 simp[ck]at h;split at h
 . rename_i j g;split at h
   . cases h
   . rename_i ts f;split at h
     . grind
     . rename_i b;have b:=cR b;split at h
       . rename_i rows a;cases h;have i:=pP (N:=N) (J:=J) g;obtain⟨p,es,a1,a2,a4,a3⟩:=FB he ao a (a6.replicate (R:=λr e=>ha r=some e) f _) (by intro r a;rw[Ds a];exact b);have k:c' N J (N+16) (cD J N (.rows sz rows)):=jX (by omega);refine .store rfl k (.c (.arr N sz es.length (by omega) ?_)) λaj _=>⟨p,_,by simp[aM,xc i f,aw,a1,lk];rw[Q5 a1,List.length_replicate],a3 aj,aE.put (by omega) k (.rows a2 a4)⟩
         intro x I q d;rw[gR,ai rfl]at I;cases I;simp[cM.db]at d;rw[<-d,a2.length]
       . cases h
 grind
omit he ao aE in
theorem Zg{a:List C}(h:toTs a=some ts):yj a=none:=by
 unfold yj;grind[toTs,toT]
omit he ao aE in
theorem Iw{J1:a8}{w:bF U}{d:V}(h:bR N J w d)(e:∀b a len,w≠.c (.gG b a len))(f:∀b a len,w≠.c (.sub b a len))(g:w≠.c .dead):kb v1 d=none:=by
 unfold kb;split
 . cases h with
   |c h=>
    cases h<;>grind
 rfl
theorem aaZ{k:Nat}(h:ck gl gd env J N (.store k x y)=some (c,v,J')):dH N J J1 (.store k x y) env1 (cB env G gd) c v J':=by
 simp only[ck]at h;split at h
 . rename_i b o w I ak;split at h
   . rename_i cs n;split at h
     . rename_i s;have s:=cR s;split at h
       . rename_i X A;split at h
         . rename_i T;have T:=hj T;cases h;obtain⟨p,v1,a1,a2,a3⟩:=cf he ao I;obtain⟨q,v2,d,f,g⟩:=cf he ao ak;have:=a2.gF;subst this;obtain⟨es,c1,c2⟩:=n9 f n;obtain⟨u,z,d1,d2⟩:=aE b _ A;cases d2 with
           | @box _ fs d2=>
            have a:c' N J (N+16) (cD J b (.box (vi X o cs))):=mT (by simp) A (λp h=>by grind[cM.db]);refine .store rfl a (.ba [] [] rfl (by simp)) λaj _=>⟨p/\q,_,?_,⟨a3 aj,g aj⟩,aE.put (by omega) a (.box (E2 (d2.imp λ_ _ _=>b8.mono a) (c2.imp λ_ _ _=>b8.mono a)))⟩
            simp only[aM,a1,d,aw,c1];rw[ai (by rw[<-c2.length];grind),d1];dsimp only;rw[ai (by rw[<-d2.length];grind)]
         grind
       . rename_i E F A;split at h
         . rename_i F _;cases h;obtain⟨p,v1,a1,a2,a3⟩:=cf he ao I;obtain⟨q,v2,d,f,g⟩:=cf he ao ak;have:=a2.gF;obtain⟨es,c1,c2⟩:=n9 f n;obtain⟨u,z,d1,d2⟩:=aE b _ A;cases d2 with
           |b1 d2=>
            cases c2 with|cons c2 c3=>
            cases c3;have a:c' N J (N+16) (cD J b (.b1 E F)):=mT (by simp) A (λp h=>by grind[cM.db]);refine .store rfl a (.ba [] [] rfl (by simp)) λaj _=>⟨p/\q,_,?_,⟨a3 aj,g aj⟩,aE.put (by omega) a (.b1 (c2.mono a))⟩
            simp only[aM,a1,d,aw,c1];grind
         grind
       grind
     grind
   grind
 . rename_i b t i o w I ak;split at h
   . rename_i cs n;split at h
     . rename_i s;simp only[cO]at s;have P:=cR s.1;have K:=hj s.2;split at h
       . rename_i M R j;split at h
         . rename_i l ag;have e:=Cell.jw ag;cases e;split at h
           . rename_i H aa;cases h;obtain⟨rfl,O,rfl⟩:cs=[H]/\∃O,H= .arr O:=by
              unfold OX at aa;grind
             obtain⟨p,v1,a1,a2,a3⟩:=cf he ao I;obtain⟨q,v2,d,f,g⟩:=cf he ao ak;have:=a2.ir;obtain⟨es,c1,c2⟩:=n9 f n;cases c2 with|cons c2 c3=>
             cases c3;have W:=c2;cases c2 with|arr _ al ah ae af=>
             obtain⟨u,z,d1,d2⟩:=aE b _ j;cases d2 with
             |arr=>
              have a:c' N J (N+16) (cD J b (.cx t l i o (.arr O))):=mT (by simp) j (λp h=>by grind[cM.db]);refine .store rfl a (.ba [] [] rfl (by simp)) λaj m=>⟨p/\q/\t.sz U=t.sz U/\i<(List.map (t.enc U) l).length/\o+k<=t.sz U,_,?_,⟨a3 aj,g aj,rfl,tN (gf m),K⟩,aE.put (by omega) a (.cx t l i o (W.mono a))⟩
              simp only[aM,a1,d,aw,c1];simp_all[ai,yj]
           split at h
           . rename_i l2 L;cases h;obtain⟨p,v1,a1,a2,a3⟩:=cf he ao I;obtain⟨q,v2,d,f,g⟩:=cf he ao ak;have:=a2.ir;subst this;obtain⟨es,c1,c2⟩:=n9 f n;obtain⟨u,z,d1,d2⟩:=aE b _ j;cases d2 with
             |arr=>
              have Z:l2.length=List.length l:=by
               grind[qK]
              have a:c' N J (N+16) (cD J b (.arr t l2)):=mT (by simp) j (λp h=>by
               grind[cM.db])
              refine .store rfl a (.ba [] [] rfl (by simp)) λaj m=>?_;have B:i<List.length l:=gf m;obtain⟨ts,aN,Y⟩:=Fm L B c2 (by grind);refine⟨p/\q/\t.sz U=t.sz U/\i<(List.map (t.enc U) l).length/\o+k<=t.sz U,_,?_,⟨a3 aj,g aj,rfl,tN B,K⟩,aE.put (by omega) a (.arr t l2)⟩;simp only[aM,a1,d,aw,c1];rw[ai (by rw[<-c2.length];grind),d1];grind[Zg]
           grind
         grind
       . rename_i M R C V F j;split at h
         . rename_i H;split at h
           . rename_i r;split at h
             . rename_i Q;cases h;have r:=cR r;have Q:=cR Q;subst r;obtain⟨p,v1,a1,a2,a3⟩:=cf he ao I;obtain⟨q,v2,d,f,g⟩:=cf he ao ak;have:=a2.ir;subst this;obtain⟨es,c1,c2⟩:=n9 f n;cases c2 with|cons c2 c3=>
               cases c3;obtain⟨u,z,d1,d2⟩:=aE b _ j;cases d2 with
               |cx _ _ _ _ d2=>
                have a:c' N J (N+16) (cD J b (.cx M R C o H)):=mT (by simp) j (λp h=>by grind[cM.db]);refine .store rfl a (.ba [] [] rfl (by simp)) λaj m=>⟨p/\q/\t.sz U=M.sz U/\i=C,_,?_,⟨a3 aj,g aj,Q,gf m⟩,aE.put (by omega) a (.cx M R C o (c2.mono a))⟩
                simp only[aM,a1,d,aw,c1];rw[ai (by simpa using P),d1];dsimp only;rw[ai rfl]
             . cases h
           . rename_i r;have r:=hh r;split at h
             . rename_i l ag;have e:=Cell.jw ag;cases e;split at h
               . rename_i l2 L;cases h;obtain⟨p,v1,a1,a2,a3⟩:=cf he ao I;obtain⟨q,v2,d,f,g⟩:=cf he ao ak;have:=a2.ir;subst this;obtain⟨es,c1,c2⟩:=n9 f n;obtain⟨u,z,d1,d2⟩:=aE b _ j;cases d2 with
                 |cx _ _ _ _ d2=>
                  have Z:l2.length=List.length l:=by
                   unfold qK at L;grind
                  have a:c' N J (N+16) (cD J b (.cx t l2 C V F)):=mT (by omega) j (λp h=>by
                   simp only[cM.db]at h⊢
                   grind)
                  refine .store rfl a (.ba [] [] rfl (by simp)) λaj m=>?_;have B:i<List.length l:=gf m;obtain⟨ts,aN,Y⟩:=Fm L B c2 (by rw[P];exact K);cases c2 with| @cons _ S _ _ c2 c3=>
                  cases c3;obtain⟨D,ab,ad⟩:∃D,Shv.toT S=some D/\ts=[D]:=by
                   simp only[toTs]at aN;cases I:Shv.toT S with
                   |none=>rw[I]at aN;simp at aN
                   |some D=>rw[I]at aN;simp at aN;exact⟨D,rfl,aN.symm⟩
                  refine⟨p/\q/\t.sz U=t.sz U/\i<(List.map (t.enc U) l).length/\o+k<=t.sz U,_,?_,⟨a3 aj,g aj,rfl,tN B,K⟩,aE.put (by omega) a (.cx t l2 C V (d2.mono a))⟩;simp only[aM,a1,d,aw,c1];rw[ai (by simpa using P),d1];dsimp only;rw[av r,ab];subst ad;grind
               . cases h
             . cases h
         . cases h
       . cases h
     . cases h
   . cases h
 . cases h
inductive js:fF U->List (List T)->Prop
 |ty (t:aH) (l:List (t.den U.D)):js (.ty t l) (l.map (t.enc U))
 |rows {r es}:a6 (λr e=>ha r=some e) r es->js (.rows r) es
 |nil:js .nil []
omit he ao aE in
theorem js.length(h:js e es):es.length=e.len:=by
 cases h with
 |ty t l=>simp[fF.len]
 |rows h=>simp[fF.len,h.length]
 |nil=>rfl
omit he ao aE in
theorem E3:∀{xs:List (bo U)} {dh:List aH} {e:List T} {row:List (Cell U.D)},hU dh xs=some row->ha xs=some e->e=row.map (Cell.enc U)
 |[],dh,e,row,h1,a=>by
  grind[hU,ha]
 |y::ys,[],e,row,h1,a=>by grind[hU]
 |y::ys,ty::dh,e,row,h1,a=>by
  simp[ha]at a;split at a
  . rename_i t ts ht d;cases a;cases y with
    |t c=>
     simp[bo.toT]at ht;split at ht
     . grind
     . cases ht;cases ty<;>simp[hU]at h1<;>(split at h1<;>first|(cases h1;done)|(rename_i q b;cases h1;rw[E3 b d];rfl))
    |aT=>
     simp[bo.toT]at ht;subst ht;cases ty<;>simp[hU]at h1;split at h1
     . rename_i q b;cases h1;rw[E3 b d];rfl
     grind
    |_=>grind[bo.toT]
  grind
omit he ao aE in
theorem abF{r:List (bo U)}{x:t.den U.D}{e:List T}(h:oW U t r=some x)(he:ha r=some e):t.enc U x=e:=by
 grind[oW,aH.ta,aH.Dm,E3]
omit he ao aE in
theorem uf:∀{r:List (List (bo U))} {l:List (t.den U.D)} {es:List (List T)},lr U t r=some l->a6 (λr e=>ha r=some e) r es->l.map (t.enc U)=es
 |[],l,es,h,a=>by cases a;grind[lr]
 |r::c,l,_::_,h,.cons h1 a=>by
  simp[lr]at h;split at h
  . rename_i x xs I b;cases h;rw[l6,abF I h1,uf b a]
  grind
omit he ao aE in
theorem js.as{l:List (t.den U.D)}(h:js e es)(a:e.as t=some l):l.map (t.enc U)=es:=by
 cases h with
 |ty u c=>
  have:=Cell.jw a;grind
 |rows h=>exact uf a h
 |nil=>grind[fF.as]
omit he ao aE in
theorem js.join{x y z:fF U}{es fs:List (List T)}(I:js x es)(ak:js y fs)(h:x.join y=some z):js z (es++fs):=by
 cases I with
 |nil=>grind[fF.join]
 |ty t l=>
  simp[fF.join]at h;split at h
  . rename_i e ag;cases h;rw[<-ak.as ag,<-xY];exact .ty t _
  grind
 |rows a=>
  cases ak with
  |ty t l=>
   simp[fF.join]at h;split at h
   . rename_i e ag;cases h;rw[<-uf ag a,<-xY];exact .ty t _
   grind
  |rows c=>simp[fF.join]at h;subst h;exact .rows (a.append c)
  |nil=>simp[fF.join]at h;subst h;rw[ny];exact .rows a
omit he ao aE in
theorem js.blk{e:fF U}{es:List (List T)}{sz:Nat}{b:cM U}(h:js e es)(a:e.blk sz=some b):hc N' J' b (.arr sz es)/\(∀x,x∈es->x.length=sz)/\b.db=some (sz,e.len):=by
 cases h with
 |ty t l=>
  simp[fF.blk]at a;split at a
  . rename_i hs;have:=cR hs;subst this;cases a;refine⟨.arr t l,λx I=>?_,rfl⟩;grind[aH.q6]
  grind
 | @rows r es c=>
  simp[fF.blk]at a;split at a
  . rename_i hs;cases a;simp only[fk]at hs;refine⟨.rows c λx I=>cR (hs x I),λx I=>?_,rfl⟩;obtain⟨i,g,rfl⟩:=jk I;obtain⟨y,h1,f⟩:=(c.flip λ_ _ h=>h).get (df g);rw[Fl f];grind[cR]
  grind
 |nil=>
  simp[fF.blk]at a;subst a;exact⟨.rows .nil (by simp),by simp,rfl⟩
omit he ao in
theorem xe{d:Option Nat}(c:bR N J v v1)(h:mh J v=some (e,d)):∃es,iX J1 v1=some (es,d)/\js e es:=by
 unfold mh at h;split at h
 . rename_i t l;cases h;have:=c.iS;subst this;exact⟨_,rfl,.ty t l⟩
 . cases h;have:=c.sY;subst this;exact⟨_,rfl,.nil⟩
 . rename_i b;obtain⟨sz,n,rfl,g,aj⟩:=c.gx;split at h
   . rename_i t l ag;cases h;obtain⟨_,y,h1,a⟩:=aE b _ ag;cases a;have:=aj _ ag _ rfl;cases this;exact⟨_,by simp[iX,h1],.ty t l⟩
   . rename_i i r ag;cases h;obtain⟨_,y,h1,a⟩:=aE b _ ag;cases a with
     |rows a f=>
      have:=aj _ ag _ rfl;cases this;exact⟨_,by simp[iX,h1,a.length],.rows a⟩
   . cases h
 grind
theorem ae2{str:Bool}(h:ck gl gd env J N (.len str x)=some (c,v,J')):dH N J J1 (.len str x) env1 (cB env G gd) c v J':=by
 simp[ck]at h;split at h
 . rename_i s a;cases h;obtain⟨p,v1,a1,a2,a3⟩:=cf he ao a;have:=a2.jL;subst this;exact .neutral aE (.c (.t _)) λaj _=>⟨p,by simp[aM,a1];rfl,a3 aj⟩
 . rename_i b a;split at h
   . rename_i E s f;cases h;obtain⟨p,v1,a1,a2,a3⟩:=cf he ao a;obtain⟨n,rfl,_,d⟩:=a2.vv;have:=d _ f _ rfl;cases this;exact .neutral aE (.c (.t _)) λaj _=>⟨p,by simp[aM,a1];rfl,a3 aj⟩
   grind
 . rename_i w a;split at h
   . rename_i e ek;cases h;obtain⟨p,v1,a1,a2,a3⟩:=cf he ao a;refine .neutral aE (.c (.t (U:=U) ⟨.int .i64,_⟩)) λaj _=>⟨p,?_,a3 aj⟩
     unfold mh at ek;split at ek
     . cases ek;have:=a2.iS;subst this;simp only[aM,a1,aw];exact abt
     . cases ek;have:=a2.sY;subst this;simp only[aM,a1,aw];rfl
     . obtain⟨sz,n,rfl,f,d⟩:=a2.gx;simp[aM,a1];split at ek
       . rename_i t l ag;cases ek;have:=d _ ag _ rfl;cases this;rfl
       . rename_i g r ag;cases ek;have:=d _ ag _ rfl;cases this;rfl
       grind
     grind
   grind
 grind
omit he ao aE in
theorem FR{bytes n:Nat}:room bytes n=true↔(2*n+192)*bytes<=hi/\n<=dk:=by simp[room]
omit he ao aE in
theorem ug{bytes n:Nat}(h:room bytes n=true):ie n bytes/\n<=dk:=⟨.inl (FR.1 h).1,(FR.1 h).2⟩
omit he ao aE in
theorem wW:∀(l:az),bytesOf (List.map ((aH.int .u8).enc U) l)=some (strOf l)
 |[]=>rfl
 |m::l=>by
  have:=wW l;show bytesOf ([T.int _ m]::_)=_;simp[bytesOf,this];rfl
omit he ao aE in
theorem Rz:∀{l:az},G3 l=true->l.map ((aH.int .u8).enc U)=(strOf l).map λc=>[.int .u8 c.toNat]
 |[],_=>rfl
 |m::l,h=>by
  simp only[G3,l5,cO,gg]at h;have a:([T.int .u8 m]:List T)=[T.int .u8 ((UInt8.ofNat m.toNat).toNat:Int)]:=by rw[show((UInt8.ofNat m.toNat).toNat:Int)=m by simp[UInt8.toNat_ofNat'];omega]
  exact congr (dP List.cons a) (Rz (l:=l) h.2)
theorem Zh{te sz bytes:Nat}(h:ck gl gd env J N (.appendT te sz bytes x y)=some (c,v,J')):dH N J J1 (.appendT te sz bytes x y) env1 (cB env G gd) c v J':=by
 simp only[ck]at h;split at h
 . rename_i b w I ak;split at h
   . rename_i lq xb V Q O j;split at h
     . grind
     . split at h
       . cases h
       . rename_i f;split at h
         . rename_i t l P;split at h
           . rename_i K;cases h;obtain⟨p,v1,a1,a2,a3⟩:=cf he ao I;obtain⟨q,v2,m,g,n⟩:=cf he ao ak;obtain⟨d,cp,L,R,D⟩:=a2.gx;subst L;obtain⟨ys,c1,c2⟩:=xe aE g j;obtain⟨xs,aN,o⟩:=xe aE a2 O;have a:=o.join c2 P;have k:c' N J (N+16) (dl J b):=c'.trans og (c'.more (by omega));obtain⟨d1,d2,d3⟩:=a.blk (N':=N+16) (J':=dl J b) (sz:=sz) (b:= .arr t l) (by simp only[fF.blk,K]);obtain⟨hs,aV⟩:aP J1 b=some (.arr d xs)/\cp=xs.length:=by
              simp only[iX]at aN;grind
             have H:d=sz:=by
              unfold CE at f;split at f
              . rename_i z a;split at f
                . rename_i r F;have:=D _ a _ F;simp_all
                . cases f
              . cases f
             subst H;have A:cm (N+16) (dl J b) (fB J1 b):=by
              intro i z a;rw[lf]at a;split at a
              . cases a
              . rename_i B;obtain⟨h1,y,s,u⟩:=aE i z a;exact⟨by omega,y,by rw[eK,av B];exact s,u.mono k⟩
             have S:Q≠some b:=by
              intro e;simp_all
             have ag:xs++ys=l.map (t.enc U):=(show ∀{es:List (List T)},js (.ty t l) es->es=l.map (t.enc U)fromλh=>by cases h;rfl) a;have E:(xs++ys).length=l.length:=by rw[ag,qy]
             refine .store rfl k (v1:= .c (.t (.slice (xs++ys)))) (by rw[ag];exact .c (.t ⟨.slice t,l⟩)) λaj C=>⟨p/\q/\d=d/\d=d/\0=0/\cp=xs.length/\(∀e,e∈ys->e.length=d)/\ie (xs.length+ys.length) bytes/\xs.length+ys.length<=dk,_,?_,⟨a3 aj,n aj,rfl,rfl,rfl,aV,λe he=>d2 e (by simp[he]),?_⟩,A⟩
             . have M:kb (.c (.arr b d 0 cp)) v2=none:=by
                refine Iw (J1:=J1) g ?_ ?_ ?_<;>(intros;rintro rfl;simp[mh]at j)
               simp only[aM,a1,m,aw,M,c1,hs];grind
             . have:=ug C;rw[<-E,dQ]at this;exact this
           . cases h
         . cases h
   . cases h
 . cases h
theorem Z1{te sz bytes:Nat}(h:ck gl gd env J N (.append te sz bytes x y)=some (c,v,J')):dH N J J1 (.append te sz bytes x y) env1 (cB env G gd) c v J':=by
 simp only[ck]at h;split at h
 . rename_i w I ak;split at h
   . rename_i ah au B;split at h
     . rename_i blk L;cases h;obtain⟨p,v1,a1,a2,a3⟩:=cf he ao I;obtain⟨q,v2,o,d,m⟩:=cf he ao ak;have:=a2.sY;subst this;obtain⟨ys,c1,c2⟩:=xe aE d B;have k:c' N J (N+16) (cD J N blk):=jX (by omega);obtain⟨d1,d2,d3⟩:=c2.blk (N':=N+16) (J':=cD J N blk) L;refine .store rfl k (.c (.arr N sz ys.length (by omega) ?_)) λaj g=>⟨p/\q/\(∀e,e∈ys->e.length=sz)/\ie ys.length bytes/\ys.length<=dk,_,by simp only[aM,a1,o,aw,show kb (.c .aT) v2=none from rfl,c1],⟨a3 aj,m aj,d2,?_⟩,aE.put (by omega) k d1⟩
       . intro x I r f;rw[gR,ai rfl]at I;cases I;rw[d3]at f;cases f;rw[c2.length]
       . rw[c2.length];exact ug g
     . cases h
   . cases h
 . rename_i b w I ak;split at h
   . rename_i lq xb ah af aa B;split at h
     . grind
     . split at h
       . cases h
       . rename_i u;split at h
         . rename_i ay ae;split at h
           . rename_i blk L;cases h;obtain⟨p,v1,a1,a2,a3⟩:=cf he ao I;obtain⟨q,v2,o,d,m⟩:=cf he ao ak;obtain⟨j,cp,Y,H,W⟩:=a2.gx;subst Y;obtain⟨ys,c1,c2⟩:=xe aE d B;obtain⟨xs,aN,P⟩:=xe aE a2 aa;have a:=P.join c2 ae;have A:c' N (dl J b) (N+16) (cD (dl J b) N blk):=jX (by omega);have k:c' N J (N+16) (cD (dl J b) N blk):=c'.trans og A;obtain⟨d1,d2,d3⟩:=a.blk (N':=N+16) (J':=cD (dl J b) N blk) L;obtain⟨hs,aV⟩:aP J1 b=some (.arr j xs)/\cp=xs.length:=by
              simp only[iX]at aN;grind
             have X:j=sz:=by
              unfold CE at u;split at u
              . rename_i z a;split at u
                . rename_i r f;have:=W _ a _ f;simp_all
                . cases u
              . cases u
             subst X;have F:cm N (dl J b) (fB J1 b):=by
              intro i z a;rw[lf]at a;split at a
              . cases a
              . rename_i Q;obtain⟨h1,y,E,s⟩:=aE i z a;exact⟨h1,y,by rw[eK,av Q];exact E,s.mono og⟩
             have ar:af≠some b:=by
              intro e;simp_all
             refine .store rfl k (.c (.arr N j (xs++ys).length (by omega) ?_)) λaj g=>⟨p/\q/\j=j/\j=j/\0=0/\cp=xs.length/\(∀e,e∈ys->e.length=j)/\ie (xs.length+ys.length) bytes/\xs.length+ys.length<=dk,_,?_,⟨a3 aj,m aj,rfl,rfl,rfl,aV,λe he=>d2 e (by simp[he]),?_⟩,F.put (by omega) A d1⟩
             . intro x I r f;rw[gR,ai rfl]at I;cases I;rw[d3]at f;cases f;rw[a.length]
             . have Z:kb (.c (.arr b j 0 cp)) v2=none:=by
                refine Iw (J1:=J1) d ?_ ?_ ?_<;>(intros;rintro rfl;simp[mh]at B)
               simp only[aM,a1,o,aw,Z,c1,hs];grind
             . have:=ug g;rw[<-a.length,dQ]at this;exact this
           . cases h
         . cases h
   . cases h
 . rename_i b h0 O C len I ak;split at h
   . rename_i K;have K:=cR K;subst K;split at h
     . rename_i t l ag;split at h
       . rename_i R;have R:=cR R;cases h;obtain⟨p,v1,a1,a2,a3⟩:=cf he ao I;obtain⟨q,v2,o,d,m⟩:=cf he ao ak;cases a2 with|c a2=>
         cases a2 with|pre _ s1 _ am ab=>
         cases d with|c d=>
         cases d with|gG _ ax _ _ an ad=>
         have aN:=ab _ ag _ rfl;have P:=ad _ ag _ rfl;obtain⟨T,z,d1,d2⟩:=aE b _ ag;cases d2 with
         |arr=>
          have A:c' N (dl J b) (N+16) (cD (dl J b) N (.arr t (l.take h0++(l.drop C).take len))):=jX (by omega);have k:=c'.trans og A;have F:cm N (dl J b) (fB J1 b):=by
           intro i z a;rw[lf]at a;split at a
           . cases a
           . rename_i Q;obtain⟨h1,y,E,s⟩:=aE i z a;exact⟨h1,y,by simp_all[eK,av],s.mono og⟩
          refine .store rfl k (.c (.arr N (t.sz U) (l.take h0++(l.drop C).take len).length (by omega) ?_)) λaj g=>?_
          . simp_all[gR,ai,cM.db,dK]
          . simp only[cO,gg]at g;have ap:(l.take h0++(l.drop C).take len).length=h0+len:=(by grind);refine⟨p/\q/\t.sz U=t.sz U/\t.sz U=t.sz U/\t.sz U=t.sz U/\0=0/\h0+len<=(l.map (t.enc U)).length/\C+len<=(l.map (t.enc U)).length,_,?_,⟨a3 aj,m aj,rfl,rfl,rfl,rfl,by grind,by grind⟩,F.put (by simp) A (.arr t _)⟩;grind[kb,aM,sX,List.map_take,List.map_drop]
       . cases h
     . cases h
   . cases h
 . rename_i b ys I ak;split at h
   . rename_i D l H;split at h
     . rename_i M;simp only[cO]at M;have:=cR M.1;subst this;have:=cR M.2;subst this;cases h;obtain⟨p,v1,a1,a2,a3⟩:=cf he ao I;obtain⟨q,v2,o,d,m⟩:=cf he ao ak;obtain⟨n,rfl,T,V⟩:=a2.vv;have:=V _ H _ rfl;cases this;have:=d.iS;subst this;obtain⟨_,z,d1,d2⟩:=aE b _ H;cases d2;have bn:c' N J N (dl J b):=og;have bt:c' N _ (N+16) (cD (dl J b) N (.buf D (sZ l (strOf ys)))):=jX;have S:cm N (dl J b) (fB J1 b):=by
        intro O x I;rw[lf]at I;split at I
        . grind
        . rename_i aq;obtain⟨h1,y,E,s⟩:=aE O x I;exact⟨h1,y,by rw[eK];grind,s.mono bn⟩
       refine .store rfl (bn.trans bt) (.c (.cj N (List.length l+List.length (strOf ys)) (by simp) λx I p al=>?_)) λaj g=>?_
       . rw[gR,ai rfl]at I;cases I;simp[cM.db]at al;exact al.symm.trans (dP _ RH)
       . simp only[cO]at g;have f:=ug g.1;refine⟨p/\q/\D=D/\1=1/\List.length l=List.length l/\ys.map ((aH.int .u8).enc U)=(strOf ys).map (λc=>[.int .u8 c.toNat])/\ie _ _/\List.length l+List.length (strOf ys)<=dk,_,?_,⟨a3 aj,m aj,rfl,rfl,rfl,Rz g.2,f.1,f.2⟩,S.put (by simp) bt (.buf _ _)⟩;simp only[aM,a1,o,aw,show kb (.c (.cj b (List.length l))) (.c (.t (.slice (ys.map ((aH.int .u8).enc U)))))=none from rfl,show iX J1 (.c (.t (.slice (ys.map ((aH.int .u8).enc U)))))=some (_,none)from rfl,d1];exact dP (Option.map _) (wW (U:=U) ys)
     . cases h
   . cases h
 grind
omit he ao aE in
theorem RJ{t:aH}(ht:t.tk=false):∀{xs:List (bo U)} {a:List C} {l:List (t.den U.D)},a6 (b8 N J) xs a->sI t xs=some l->∃ts,toTs a=some ts/\ts.map (λx=>[x])=l.map (t.enc U)
 |[],[],l,_,h=>by simp[sI]at h;subst h;exact⟨[],rfl,rfl⟩
 |x::xs,d::a,l,.cons h1 e,h=>by
  unfold sI at h;split at h
  . grind
  . rename_i c r i;cases i;split at h
    . rename_i y m f j;cases h;obtain⟨ts,aN,b⟩:=RJ ht e j;cases h1;have g:=Cell.jw f;subst g;refine⟨Cell.enc U ⟨t,y⟩::ts,by simp[toTs,aN,toT],?_⟩;rw[l6,b];cases t<;>first|rfl|cases ht
    . cases h
  grind
omit he ao aE in
theorem Hd{t:aH}{d:t.den U.D}:∀{xs:List (bo U)} {a:List C} {l:List (t.den U.D)} (i:Nat),a6 (b8 N J) xs a->sI t xs=some l->i<a.length->b8 N J (.t ⟨t,l.getD i d⟩) (a.getD i .dead)
 |[],[],l,i,_,h,b=>absurd b (uN _)
 |x::xs,d::a,l,i,.cons h1 e,h,b=>by
  unfold sI at h;split at h
  . grind
  . rename_i c r j;cases j;split at h
    . rename_i y m f k;cases h;cases h1;have g:=Cell.jw f;subst g;cases i with
      |zero=>exact .t _
      |succ i=>exact Hd (d:=_) i e k (Nat.lt_of_succ_lt_succ b)
    . cases h
  grind
theorem abG{k:Nat}(h:ck gl gd env J N (.idxV k x y)=some (c,v,J')):dH N J J1 (.idxV k x y) env1 (cB env G gd) c v J':=by
 simp only[ck]at h;split at h
 . rename_i cs w m al p;split at h
   . rename_i t l n ag;cases h;obtain⟨q,v1,a1,a2,a3⟩:=cf he ao al;obtain⟨s,v2,d,e,f⟩:=cf he ao p;obtain⟨g,rfl,a⟩:=a2.kS;have:=e.fe;subst this;have o:g.length=k:=by rw[<-a.length];exact cR n
     unfold B3 at ag;split at ag
     . rename_i u r;split at ag
       . rename_i z ht hs;cases ag;by_cases b:aB m k=true
         . obtain⟨h1,i⟩:=p4.1 b;refine .neutral aE (.c (Hd (Int.toNat m) a hs (by omega))) λaj _=>⟨q/\s/\(0:Int)<=m/\Int.toNat m<k,?_,a3 aj,f aj,h1,i⟩
           simp only[aM,a1,d,aw,o,bJ]
         . exact .neutral aE (.c (.t _)) λaj j=>absurd j b
       . cases ag
     . cases ag
   . cases h
 . cases h
theorem Z2{sz bytes:Nat}{z:List C}(h:ck gl gd env J N (.mslice sz bytes z x)=some (c,v,J')):dH N J J1 (.mslice sz bytes z x) env1 (cB env G gd) c v J':=by
 simp only[ck]at h;split at h
 . rename_i k m r al n;split at h
   . cases h
   . rename_i ts g;split at h
     . rename_i a;split at h
       . rename_i b d;cases h;have d:=cR d;subst d;obtain⟨p,v1,a1,a2,a3⟩:=cf he ao al;have:=a2.fe;subst this;have o:=pP (N:=N) (J:=J) n;have bn:c' N J (N+16) (cD J N (.arr a.ty (List.replicate (Int.toNat m) a.val))):=jX (by omega);have f:a.ty.sz U=1:=by
          generalize a.ty=t0 at b;cases t0<;>first|rfl|cases b
         have j:ts=a.ty.enc U a.val:=by
          obtain⟨ty,v0⟩:=a;cases ty<;>first|(cases g;rfl)|cases b
         have l:aM (.mslice 1 bytes z x) env1 J1 N=some (p/\(0:Int)<=m/\Int.toNat m*bytes<=hi/\Int.toNat m<=dk,.c (.arr N 1 0 (Int.toNat m)),cZ J1 N (.arr 1 (List.replicate (Int.toNat m) ts))):=by
          simp only[aM,a1,aw,xc o g]
         refine .store rfl bn (.c (.arr N 1 (Int.toNat m) (by omega) ?_)) λaj i=>⟨_,_,l,⟨a3 aj,Gb.1 i⟩,aE.put (by omega) bn ?_⟩
         . intro x I q e;rw[gR,ai rfl]at I;cases I;simp[cM.db]at e;rw[<-e,f]
         . have:=hc.arr (N:=N+16) (J:=cD J N (.arr a.ty (List.replicate (Int.toNat m) a.val))) a.ty (List.replicate (Int.toNat m) a.val);rw[f,List.map_replicate,<-j]at this;exact this
       . cases h
     . cases h
 . cases h
theorem Z3{cs:List C}(h:ck gl gd env J N (.allocA cs)=some (c,v,J')):dH N J J1 (.allocA cs) env1 (cB env G gd) c v J':=by
 simp[ck]at h;split at h
 . rename_i xs d;split at h
   . rename_i t l ag;cases h;unfold B3 at ag;split at ag
     . rename_i b r;split at ag
       . rename_i a ht hs;cases ag;obtain⟨ts,aN,e⟩:=RJ ht (pP (N:=N) (J:=J) d) hs;have k:c' N J (N+16) (cD J N (.arr _ a)):=jX;refine .store rfl k (.c (.ptr _ _)) λaj _=>⟨True,_,by simp[aM,aN];rfl,trivial,aE.put (by simp) k ?_⟩
         have f:b.ty.sz U=1:=by
          generalize b.ty=t0 at ht;cases t0<;>first|rfl|cases ht
         have:=hc.arr (N:=N+16) (J:=cD J N (.arr _ a)) _ a;grind
       grind
     grind
   grind
 grind
theorem abH{k:Nat}(h:ck gl gd env J N (.idxP k x y)=some (c,v,J')):dH N J J1 (.idxP k x y) env1 (cB env G gd) c v J':=by
 simp[ck]at h;split at h
 . rename_i b kk m al g;split at h
   . split at h
     . rename_i d;have d:=cR d;cases h;obtain⟨i,v1,a1,a2,a3⟩:=cf he ao al;obtain⟨j,v2,l,e,f⟩:=cf he ao g;have:=a2.gF;have:=e.fe;refine .neutral aE (.c (.cH _ _ _ _)) λaj a=>⟨i/\j/\(0:Int)<=m/\Int.toNat m<k,?_,a3 aj,f aj,(p4.1 a).1,(p4.1 a).2⟩
       grind[aM]
     grind
   grind
 grind
theorem abI{k:Nat}{d a:Option aO}(h:ck gl gd env J N (.slcP k x d a)=some (c,v,J')):dH N J J1 (.slcP k x d a) env1 (cB env G gd) c v J':=by
 simp[ck]at h;split at h
 . rename_i b l r al ag f;cases h;obtain⟨i,v1,a1,a2,a3⟩:=cf he ao al;obtain⟨pl,g,l2⟩:=n' he ao aE ag;obtain⟨j,m,n⟩:=n' he ao aE f;have:=a2.gF;subst this;exact .neutral aE (.c (.sub _ _ _)) λaj e=>⟨i/\pl/\j/\0<=l.getD 0/\l.getD 0<=r.getD _/\r.getD _<=k,by simp[aM,a1,g,m],a3 aj,l2 aj,n aj,jY.1 e⟩
 grind
omit he ao aE in
theorem aae{b len:Nat}{s:aD}(h:aP J1 b=some (.arr 1 es))(hs:bytesOf ((es.drop off).take len)=some s):mv J1 (.c (.arr b 1 off len))=some (off+len<=es.length,s):=by grind[mv]
omit he ao aE in
theorem aaf{b len:Nat}{s:aD}(h:aP J1 b=some (.arr 1 es))(hs:bytesOf ((es.drop off).take len)=some s):mv J1 (.c (.fC b 1 off len))=some (off+len<=es.length,s):=by grind[mv]
omit he ao aE in
theorem Zi{s:aD}(hs:bytesOf es=some s):mv J1 (.c (.t (.slice es)))=some (True,s):=by grind[mv]
theorem aeW(h:ck gl gd env J N (.b2s x)=some (c,v,J')):dH N J J1 (.b2s x) env1 (cB env G gd) c v J':=by
 simp only[ck]at h;split at h
 . rename_i l al;cases h;obtain⟨a,v1,a1,a2,a3⟩:=cf he ao al;have:=a2.iS;subst this
   exact .neutral aE (.c (.t (U:=U) _)) λaj i=>⟨a/\True,by
    simp only[aM,a1,aw]
    exact(dP _ (Zi (wW (U:=U) l))).trans rfl,a3 aj,trivial⟩
 . rename_i al;cases h;obtain⟨a,v1,a1,a2,a3⟩:=cf he ao al;have:=a2.sY;subst this;exact .neutral aE (.c (.t (U:=U) ⟨.str,_⟩)) λaj i=>⟨a/\True,by simp only[aM,a1,mv];rfl,a3 aj,trivial⟩
 . rename_i b al;split at h
   . rename_i l d;cases h;obtain⟨a,v1,a1,a2,a3⟩:=cf he ao al;obtain⟨k,n,rfl,j,aj⟩:=a2.gx;have:=aj _ d _ rfl;cases this;obtain⟨_,y,ak,g⟩:=aE _ _ d;cases g;refine .neutral aE (.c (.t (U:=U) ⟨.str,_⟩)) λaj i=>⟨a/\(0+l.length<=(l.map ((aH.int .u8).enc U)).length),?_,a3 aj,by simp⟩
     simp only[aM,a1,aw];have e:bytesOf (((l.map ((aH.int .u8).enc U)).drop 0).take l.length)=some (strOf l):=(by grind[List.take_of_length_le,wW]);exact(dP (Option.map _) (aae ak e)).trans rfl
   grind
 . rename_i b f len al;split at h
   . rename_i l d;cases h;obtain⟨a,v1,a1,a2,a3⟩:=cf he ao al;have:v1= .c (.fC b 1 f len):=by cases a2 with|c h=>cases h;rfl
     subst this;obtain⟨_,y,ak,g⟩:=aE _ _ d;cases g;refine .neutral aE (.c (.t (U:=U) ⟨.str,_⟩)) λaj i=>⟨a/\(f+len<=(l.map ((aH.int .u8).enc U)).length),?_,a3 aj,by grind[vb]⟩
     simp only[aM,a1,aw];have e:bytesOf (((l.map ((aH.int .u8).enc U)).drop f).take len)=some (strOf ((l.drop f).take len)):=by rw[<-List.map_drop,<-List.map_take];exact wW _
     exact(dP (Option.map _) (aaf ak e)).trans rfl
   grind
 grind
theorem Z4{e e8:Nat}(h:ck gl gd env J N (.allocS e e8)=some (c,v,J')):dH N J J1 (.allocS e e8) env1 (cB env G gd) c v J':=by
 obtain⟨rfl,rfl,rfl⟩:=h;have d:c' N J (N+16) (cD (cD J (N+1) (.buf e8 [])) N (.b1 e (.cj (N+1)))):=by
  refine⟨by simp,λb g f I=>?_⟩;grind[gR]
 refine .store rfl d (.c (.ptr _ _)) λ_ _=>⟨True,_,rfl,trivial,λb x I=>?_⟩
 rw[gR]at I;rw[cQ];by_cases h1:N=b
 . rw[ai h1]at I⊢;cases I;refine⟨by omega,_,rfl,.b1 (.cj _ _ (by simp) λx I p al=>?_)⟩;rw[gR,gR]at I;grind[cM.db]
 . rw[av h1,gR]at I;rw[av h1,cQ];by_cases a:N+1=b
   . rw[ai a]at I⊢;cases I;exact⟨by omega,_,rfl,.buf _ _⟩
   . rw[av a]at I⊢;obtain⟨bn,y,bt,bY⟩:=aE b x I;exact⟨by omega,y,bt,bY.mono d⟩
theorem aag(h:ck gl gd env J N .mkset=some (c,v,J')):dH N J J1 .mkset env1 (cB env G gd) c v J':=by
 obtain⟨rfl,rfl,rfl⟩:=h;have k:c' N J (N+16) (cD J N (.set [])):=jX;exact .store rfl k (.c (.mp _)) λ_ _=>⟨True,_,rfl,trivial,aE.put (by simp) k (.set _)⟩
theorem aah(h:ck gl gd env J N (.lkset x y)=some (c,v,J')):dH N J J1 (.lkset x y) env1 (cB env G gd) c v J':=by
 simp[ck]at h;split at h
 . rename_i b s I ak;split at h
   . rename_i ks f;cases h;obtain⟨p,v1,a1,a2,a3⟩:=cf he ao I;obtain⟨q,v2,a,d,e⟩:=cf he ao ak;have:=a2.zI;subst this;have:=d.jL;subst this;obtain⟨_,z,d1,d2⟩:=aE b _ f;cases d2;exact .neutral aE (.c (.t _)) λaj _=>⟨p/\q,by simp[aM,a1,a,d1];rfl,a3 aj,e aj⟩
   grind
 grind
theorem aai(h:ck gl gd env J N (.upset x y)=some (c,v,J')):dH N J J1 (.upset x y) env1 (cB env G gd) c v J':=by
 simp[ck]at h;split at h
 . rename_i b s I ak;split at h
   . rename_i ks a;cases h;obtain⟨p,v1,a1,a2,a3⟩:=cf he ao I;obtain⟨q,v2,e,f,g⟩:=cf he ao ak;have:=a2.zI;subst this;have:=f.jL;subst this;obtain⟨i,z,d1,d2⟩:=aE b _ a;cases d2;have d:c' N J (N+16) (cD J b (.set (h' ks s))):=mT (by omega) a (λp h=>by simp[cM.db]at h);exact .store rfl d (.ba [] [] rfl (by simp)) λaj _=>⟨p/\q,_,by simp[aM,a1,e,d1],⟨a3 aj,g aj⟩,aE.put (by omega) d (.set _)⟩
   . cases h
 grind
theorem Zj{e bytes:Nat}(h:ck gl gd env J N (.appendB e bytes x y)=some (c,v,J')):dH N J J1 (.appendB e bytes x y) env1 (cB env G gd) c v J':=by
 simp[ck]at h;split at h
 . rename_i b s I ak;split at h
   . rename_i a l d;split at h
     . rename_i t;have:=cR t;subst this;cases h;obtain⟨p,v1,a1,a2,a3⟩:=cf he ao I;obtain⟨q,v2,i,j,k⟩:=cf he ao ak;obtain⟨n,rfl,w,r⟩:=a2.vv;have:=r _ d _ rfl;cases this;have:=j.jL;subst this;obtain⟨_,z,d1,d2⟩:=aE b _ d;cases d2;have bn:c' N J N (dl J b):=og;have bt:c' N _ (N+16) (cD (dl J b) N (.buf a (sZ l s))):=jX;have o:cm N (dl J b) (fB J1 b):=by
        intro g x I;rw[lf]at I;split at I
        . grind
        . rename_i A;obtain⟨h1,y,u,m⟩:=aE g x I;exact⟨h1,y,by rw[eK];grind,m.mono bn⟩
       refine .store rfl (bn.trans bt) (.c (.cj N (List.length l+List.length s) (by simp) λx I p al=>?_)) λaj f=>⟨p/\q/\a=a/\List.length l=List.length l/\ie _ _/\List.length l+List.length s<=dk,_,?_,⟨a3 aj,k aj,rfl,rfl,(ug f).1,(ug f).2⟩,o.put (by simp) bt (.buf _ _)⟩
       . rw[gR,ai rfl]at I;cases I;simp[cM.db]at al;exact al.symm.trans (dP _ RH)
       . simp only[aM,a1,i,aw,d1];rfl
     grind
   grind
 grind
theorem aaj(h:ck gl gd env J N (.sdata x)=some (c,v,J')):dH N J J1 (.sdata x) env1 (cB env G gd) c v J':=by
 simp[ck]at h;split at h
 . rename_i b I;cases h;obtain⟨p,v1,a1,a2,a3⟩:=cf he ao I;obtain⟨n,rfl,_,_⟩:=a2.vv;exact .neutral aE (.c (.en _)) λaj _=>⟨p,by simp[aM,a1],a3 aj⟩
 grind
theorem aa6{e:Nat}(h:ck gl gd env J N (.ustr e x y)=some (c,v,J')):dH N J J1 (.ustr e x y) env1 (cB env G gd) c v J':=by
 simp[ck]at h;split at h
 . rename_i b m I ak;split at h
   . rename_i a l n;split at h
     . rename_i r;have:=cR r;subst this;cases h;obtain⟨p,v1,a1,a2,a3⟩:=cf he ao I;obtain⟨q,v2,f,g,i⟩:=cf he ao ak;have:=a2.Pc;subst this;have:=g.fe;subst this;obtain⟨_,z,d1,d2⟩:=aE b _ n;cases d2;have bn:c' N J N (dl J b):=og;have k:cm N (dl J b) (fB J1 b):=by
        intro d x I;rw[lf]at I;split at I
        . grind
        . obtain⟨h1,y,s,j⟩:=aE d x I;exact⟨h1,y,by simp_all[eK],j.mono bn⟩
       refine .store rfl (bn.trans (c'.more (by simp))) (.c (.t _)) λaj o=>⟨p/\q/\a=a/\m=(List.length l:Int),_,?_,⟨a3 aj,i aj,rfl,aaV.1 o⟩,k.mono (by simp)⟩
       simp only[aM,a1,f,aw,d1];rfl
     grind
   grind
 grind
theorem Zk{e sz len:Nat}{z:List C}{parts:List (Nat×aO)}(h:ck gl gd env J N (.bsliceT e sz len z parts)=some (c,v,J')):dH N J J1 (.bsliceT e sz len z parts) env1 (cB env G gd) c v J':=by
 simp[ck]at h;split at h
 . grind
 . split at h
   . rename_i j g;split at h
     . grind
     . rename_i ts b;split at h
       . grind
       . rename_i a;have a:=cR a;split at h
         . rename_i rows f;split at h
           . rename_i l ag;cases h;have i:=pP (N:=N) (J:=J) g;obtain⟨p,es,a1,a2,a4,a3⟩:=FB he ao f (a6.replicate (R:=λr e=>ha r=some e) b _) (by grind);have d:=uf ag a2;refine .neutral aE (.c (.t _)) λaj _=>⟨p,?_,a3 aj⟩
             simp[aM,xc i b,aw,a1];rw[<-d];rfl
           grind
         grind
   grind
theorem RA(h:ck gl gd env J N o=some (c,v,J')):dH N J J1 o env1 (cB env G gd) c v J':=by
 cases o with
 |mov x=>exact ae3 he ao aE h
 |pick c x y=>exact abu he ao aE h
 |alloc cs=>exact aaY he ao aE h
 |box x=>exact aeY he ao aE h
 |allocA cs=>exact Z3 he ao aE h
 |idxP k x i=>exact abH he ao aE h
 |idxV k x i=>exact abG he ao aE h
 |mslice sz b z x=>exact Z2 he ao aE h
 |slcP k x d a=>exact abI he ao aE h
 |b2s x=>exact aeW he ao aE h
 |allocS e e8=>exact Z4 he ao aE h
 |bsliceT e sz len z parts=>exact Zk he ao aE h
 |mkset=>exact aag he ao aE h
 |lkset x k=>exact aah he ao aE h
 |upset x k=>exact aai he ao aE h
 |appendB e b x y=>exact Zj he ao aE h
 |sdata x=>exact aaj he ao aE h
 |ustr e x k=>exact aa6 he ao aE h
 |build z parts=>exact aaX he ao aE h
 |bslice sz len z parts=>exact Z0 he ao aE h
 |load agg n x=>exact abx he ao aE h
 |store n x v=>exact aaZ he ao aE h
 |nilCheck x=>exact Yb he ao aE h
 |bin op x y=>exact aeX he ao aE h
 |eqAgg neg ks x y=>exact aaW he ao aE h
 |eqBool neg x y=>exact ZZ he ao aE h
 |eqNil neg x=>simp[ck]at h
 |not x=>exact ae4 he ao aE h
 |conv k x=>grind[abv]
 |i2s x=>grind[ae1]
 |s2s x=>grind[ae5]
 |fldA off x=>grind[abw]
 |fld agg off n x=>grind[ae0]
 |idxA sz x i=>grind[aby]
 |idxS x i=>grind[abz]
 |slcS x d a=>grind[abA]
 |slc sz x d a=>grind[ae6]
 |slc0 x=>grind[abB]
 |mkfn f caps=>grind[abC]
 |ext x i=>grind[aeZ]
 |len str x=>grind[ae2]
 |append sz bytes x y=>grind[Z1]
 |appendT te sz bytes x y=>exact Zh he ao aE h
 |max2 x y=>grind[abD]
 |min2 x y=>grind[abE]
 |call f args=>simp[ck]at h
 |hD x args=>simp[ck]at h
end
end
end
section
open Go
variable {U:cE}
def bo.cc(b0:Nat)(c:Cell U.D):bo U->bo U
 |.arr b=>match Nat.beq b b0 with
  |true=>.t c
  |false=>.arr b
 |.cH b ty i o=>match Nat.beq b b0 with
  |true=>.dead
  |false=>.cH b ty i o
 |.pre b h=>match Nat.beq b b0 with
  |true=>.dead
  |false=>.pre b h
 |.gG b a len=>match Nat.beq b b0 with
  |true=>.dead
  |false=>.gG b a len
 |x=>x
def bF.cc(b0:Nat)(c:Cell U.D):bF U->bF U
 |.c x=>.c (x.cc b0 c)
 |.agg cs=>.agg (cs.map (bo.cc b0 c))
 |.ba vs=>.ba (go b0 c vs)
where go (b0:Nat) (c:Cell U.D):List (bF U)->List (bF U)
 |[]=>[]
 |v::vs=>v.cc b0 c::go b0 c vs
def cM.cc(b0:Nat)(c:Cell U.D):cM U->cM U
 |.box cs=>.box (cs.map (bo.cc b0 c))
 |.b1 E x=>.b1 E (x.cc b0 c)
 |.cx t l i o x=>.cx t l i o (x.cc b0 c)
 |x=>x
def qJ(b0:Nat)(c:Cell U.D):bQ U->bQ U
 |[]=>[]
 |(k,v)::r=>(k,v.cc b0 c)::qJ b0 c r
def mi(b0:Nat)(c:Cell U.D):bf U->bf U
 |[]=>[]
 |(k,x)::r=>match Nat.beq k b0 with
  |true=>mi b0 c r
  |false=>(k,x.cc b0 c)::mi b0 c r
def vj(b:Nat)(t:aH)(env:bQ U)(J:bf U):Option (bQ U×bf U):=
 match aX J b with
 |some (.arr a l)=>match Cell.as (.slice t) (⟨.slice a,l⟩:Cell U.D)with
  |some l=>some (qJ b ⟨.slice t,l⟩ env,mi b ⟨.slice t,l⟩ J)
  |none=>none
 |some (.rows _ r)=>match lr U t r with
  |some l=>some (qJ b ⟨.slice t,l⟩ env,mi b ⟨.slice t,l⟩ J)
  |none=>none
 |_=>some (env,J)
def jN:List (Nat×aH)->bQ U->bf U->Option (bQ U×bf U)
 |[],env,J=>some (env,J)
 |(b,t)::r,env,J=>match vj b t env J with
  |some (env',J')=>jN r env' J'
  |none=>none
variable{c:Cell U.D}{b0 j:Nat}{es:List (List T)}{t:aH}{cs:List C}{R:Type}
section
variable {kk N:Nat}{J J':bf U}{J1:a8}{env env':bQ U}{env1:Env}{G:Nat->Bool}{gl:eo}
theorem Ci:∀{env:bQ U} {k:Nat},aX (qJ b0 c env) k=(aX env k).map (bF.cc b0 c)
 |[],k=>rfl
 |(i,v)::r,k=>by
  simp[qJ,aX];cases Nat.beq i k with
  |true=>rfl
  |false=>exact Ci
theorem rb:∀{J:bf U} {k:Nat},aX (mi b0 c J) k=if k=b0 then none else(aX J k).map (cM.cc b0 c)
 |[],k=>by simp[mi,aX]
 |(i,x)::r,k=>by
  simp[mi];cases h:Nat.beq i b0 with
  |true=>
   simp[rb,aX];grind[cR]
  |false=>
   simp[aX,rb];grind
theorem cM.zE{x:cM U}:(x.cc b0 c).db=x.db:=by cases x<;>rfl
theorem b8.cc{b0 sz:Nat}{c:Cell U.D}{es:List (List T)}{q:cM U}(h0:aX J b0=some q)(aj:q.db=some (sz,es.length))(v:c.enc U= .slice es){x:bo U}{d:C}(h:b8 N J x d):
 b8 N (mi b0 c J) (x.cc b0 c) (d.cc b0 sz es):=by
 cases h with
 |t c=>exact .t c
 |ptr b o=>exact .ptr b o
 |cH b t i o=>
  simp only[bo.cc,C.cc];cases h:Nat.beq b b0 with
  |true=>exact .dead _
  |false=>rw[av (hh h)];exact .cH b t i o
 |dF t x o=>exact .dF t x o
 |arr b g n a h=>
  simp only[bo.cc,C.cc];cases e:Nat.beq b b0 with
  |true=>
   have:=cR e;subst this;have:=h q h0 _ aj;cases this;rw[ai rfl,ai ⟨rfl,by simp⟩];have:cut es 0 es.length=es:=(by simp[cut]);rw[this,<-v];exact .t c
  |false=>
   rw[av (hh e)];refine .arr b g n a λy ak p al=>?_;rw[rb]at ak;grind[bx,cM.zE]
 |sub b j len=>exact .sub b j len
 |pre b g n a h=>
  simp only[bo.cc];cases e:Nat.beq b b0 with
  |true=>exact .dead _
  |false=>
   simp only[C.cc];rw[av (hh e)];refine .pre b g n a λy ak p al=>?_;rw[rb,av (hh e)]at ak;grind[bx,cM.zE]
 |gG b g j len a h=>
  simp only[bo.cc];cases e:Nat.beq b b0 with
  |true=>exact .dead _
  |false=>
   refine .gG b g j len a λy ak p al=>?_;rw[rb,av (hh e)]at ak;grind[bx,cM.zE]
 |mp b=>exact .mp b
 |en b=>exact .en b
 |cj b n a h=>
  refine .cj b n a λy ak p al=>?_;grind[rb,bx,cM.zE]
 |aT=>exact .aT
 |eU=>exact .eU
 |eT=>exact .eT
 |fn f caps=>exact .fn f caps
 |dead d=>exact .dead _
theorem RK:∀{vs:List (bF U)} {i:Nat},(bF.cc.go b0 c vs)[i]?=(vs[i]?).map (bF.cc b0 c)
 |[],i=>by rfl
 |v::vs,0=>by rfl
 |v::vs,i+1=>by simp[bF.cc.go,RK]
theorem QW:∀{vs:List (bF U)},(bF.cc.go b0 c vs).length=vs.length
 |[]=>rfl
 |v::vs=>by simp[bF.cc.go,QW]
theorem bR.cc{sz:Nat}{e:cM U}(h0:aX J b0=some e)(aj:e.db=some (sz,es.length))(a:c.enc U= .slice es){x:bF U}{d:V}(h:bR N J x d):
 bR N (mi b0 c J) (x.cc b0 c) (d.cc b0 sz es):=by
 induction h with
 |c h=>exact .c (h.cc h0 aj a)
 |agg h=>exact .agg (a6.map_map (h.imp λ_ _ _ aa=>aa.cc h0 aj a))
 |ba xs f ag h ih=>
  refine .ba _ _ (by grind[QW,Ez]) ?_;grind[RK,Fh]
theorem JC{sz:Nat}{m:cM U}(h0:aX J b0=some m)(aj:m.db=some (sz,es.length))(e:c.enc U= .slice es)(hs:aP J1 b0=some (.arr sz es))(he:cS N J G env env1)(aE:cm N J J1):
 Conv kk N env1 J1 N (qm b0 sz es env1) (lY b0 sz es J1)/\cS N (mi b0 c J) G (qJ b0 c env) (qm b0 sz es env1)/\cm N (mi b0 c J) (lY b0 sz es J1):=by
 refine⟨Conv.freeze b0 hs,λk v j=>?_,λb x I=>?_⟩
 . rw[Ci,bx]at j;obtain⟨v0,h1,rfl⟩:=j;obtain⟨d,f,g⟩:=he k v0 h1;exact⟨_,by grind[yc],g.cc h0 aj e⟩
 . rw[rb]at I;split at I
   . grind
   . simp only[bx]at I;obtain⟨n,h1,rfl⟩:=I;obtain⟨f,y,g,a⟩:=aE b n h1;refine⟨f,y.cc b0 sz es,by simp_all[BK,av],?_⟩;cases a with
     |box a=>exact .box (a6.map_map (a.imp λ_ _ _ aa=>aa.cc h0 aj e))
     |arr t l=>exact .arr t l
     |set ks=>exact .set ks
     |buf E s=>exact .buf E s
     |b1 a=>exact .b1 (a.cc h0 aj e)
     |cx t l i o a=>exact .cx t l i o (a.cc h0 aj e)
     |rows a bh=>exact .rows a bh
theorem gw.cc(h:gw gl env G):gw gl (qJ b0 c env) G:=by
 refine⟨h.free,λk t b e=>?_⟩;obtain⟨y,h1,a⟩:=h.held k t b e;refine⟨y,?_,a⟩;unfold e3 at h1⊢;rw[Ci];split at h1
 . rename_i x I;rw[I];exact h1
 grind
theorem aak{α a:Type}{f:α->a}{l:List α}{sz:Nat}:some (sz,l.length)=some (sz,(l.map f).length):=by simp
theorem RB{b:Nat}(h:vj b t env J=some (env',J'))(he:cS N J G env env1)(aE:cm N J J1):
 ∃f bp,Conv kk N env1 J1 N f bp/\cS N J' G env' f/\cm N J' bp/\(gw gl env G->gw gl env' G):=by
 unfold vj at h;split at h
 . rename_i k j ag;split at h
   . rename_i l d;have e:=Cell.jw d;cases e;cases h;obtain⟨_,y,h1,a⟩:=aE b _ ag;cases a;obtain⟨bn,bt,bY⟩:=JC (c:=⟨.slice t,l⟩) ag aak rfl h1 he aE;exact⟨_,_,bn,bt,bY,λao=>ao.cc⟩
   grind
 . rename_i sz r ag;split at h
   . rename_i l d;cases h;obtain⟨_,y,h1,a⟩:=aE b _ ag;cases a with
     | @rows _ _ es a i=>
      have g:=uf d a;obtain⟨bn,bt,bY⟩:=JC (c:=⟨.slice t,l⟩) ag (by simp[cM.db];rw[a.length]) (by rw[<-g];rfl) h1 he aE;exact⟨_,_,bn,bt,bY,λao=>ao.cc⟩
   grind
 grind[Conv.refl]
theorem tU:∀{l:List (Nat×aH)} {env env':bQ U} {J J':bf U} {env1:Env} {J1:a8},jN l env J=some (env',J')->cS N J G env env1->cm N J J1->
 ∃a bp,Conv kk N env1 J1 N a bp/\cS N J' G env' a/\cm N J' bp/\(gw gl env G->gw gl env' G)
 |[],env,env',J,J',env1,J1,h,he,aE=>by grind[jN,Conv.refl]
 |(b,t)::r,env,env',J,J',env1,J1,h,he,aE=>by
  simp[jN]at h;split at h
  . rename_i e s h1;obtain⟨aN,s1,bn,bt,bY,cw⟩:=RB h1 he aE;obtain⟨c,j,d,f,g,i⟩:=tU h bt bY;exact⟨c,j,bn.trans d,f,g,λao=>i (cw ao)⟩
  grind
theorem Conv.close{b sz i o:Nat}{t:T}(c:aP J1 b=some (.cx sz es i o (.t t))):
 Conv kk N env1 J1 N env1 (cZ J1 b (.arr sz (es.set i ((el es i).take o++[t]++(el es i).drop (o+1))))):=by
 intro au nt φ S a w H R;obtain⟨⟨a1,a2,a3,a4,a5,D⟩,⟨vs,E,bn,bt,bY,g,cw,cW⟩,dm⟩:=R.bD.blk _ _ c;have q:es[i]?=some (el es i):=by unfold el;rw[List.getD,df a5];rfl
 have F:=a3 _ (eV q);refine⟨φ,S,R.put (R.dz _ _ c).1 rfl ⟨by simpa using a1,by simpa using a2,λe he=>?_,a4,λ_=>⟨vs,E,bn,bt,λA j e B he ht=>?_,dm⟩⟩ λh0=>⟨λk y ak x p=>R.bD.inj k b y _ ak c x p h0,R.own b _ c h0⟩⟩
 . grind
 . rw[uZ]at he;by_cases v:i=A
   . subst v;rw[ai rfl,ai a5]at he;cases he;have f:=(mS (vs:=el es i) (off:=o) (xs:=[t]) (by simp;omega) j)
     unfold iu at f;rw[show o+[t].length=o+1 from rfl]at f;rw[f]at ht;by_cases c1:j=o
     . subst c1;rw[cV,fS,Nat.sub_self]at ht;cases ht;exact⟨g,cw,cW⟩
     . have G:(el es i)[j]?=some B:=by
        by_cases c2:j<o
        . rwa [ai c2]at ht
        . rwa [av c2,cV]at ht
       grind
   grind
def Cj(b:Nat)(env:bQ U)(J:bf U):Option (bQ U×bf U):=
 match aX J b with
 |some (.cx t l i o (.t c))=>match Nat.ble (o+1) (t.sz U)with
  |true=>match qK U t l i o [.t c]with
   |some a=>some (env,cD J b (.arr t a))
   |none=>none
  |false=>none
 |_=>none
def JD(b:Nat)(env:bQ U)(J:bf U):Option (bQ U×bf U):=
 match aX J b with
 |some (.cx t l i o (.arr a))=>match (t.row U (t.at U l i))[o]? with
  |some ⟨.slice te,_⟩=>match vj a te env J with
   |some (env',J')=>Cj b env' J'
   |none=>none
  |_=>none
 |_=>Cj b env J
def Ix:bf U->Option Nat
 |[]=>none
 |(b,.cx ..)::_=>some b
 |_::r=>Ix r
def G4(env:bQ U)(J:bf U):Option (bQ U×bf U):=
 match Ix J with
 |none=>some (env,J)
 |some b=>JD b env J
theorem Q6{b:Nat}(h:Cj b env J=some (env',J'))(he:cS N J G env env1)(aE:cm N J J1):
 ∃e bp,Conv kk N env1 J1 N e bp/\cS N J' G env' e/\cm N J' bp:=by
 unfold Cj at h;split at h
 . rename_i t l i o c ag;split at h
   . split at h
     . rename_i l2 k;cases h;obtain⟨g,y,h1,d⟩:=aE b _ ag;cases d with
       |cx _ _ _ _ d=>
        cases d;have q:l2.length=List.length l:=by
         grind[qK]
        have f:c' N J N (cD J b (.arr t l2)):=mT (e6 _) ag (λp h=>by
         grind[cM.db])
        refine⟨env1,cZ _ b _,?_,he.mono f,aE.put g f (.arr t l2)⟩;by_cases j:i<List.length l
        . obtain⟨ts,aN,m⟩:=Fm (N:=N) (J:=J) k j (.cons (.t c) .nil) (by simp_all);have:ts=[c.enc U]:=(by grind[toTs,toT]);have:=Conv.close (kk:=kk) (N:=N) (env1:=env1) h1;grind
        . intro au nt φ S a w n R;obtain⟨⟨_,_,_,_,a5,_⟩,_⟩:=R.bD.blk _ _ h1;grind
     grind
   grind
 grind
theorem We(h:G4 env J=some (env',J'))(he:cS N J G env env1)(aE:cm N J J1):
 ∃a bp,Conv kk N env1 J1 N a bp/\cS N J' G env' a/\cm N J' bp:=by
 unfold G4 at h;split at h
 . grind[Conv.refl]
 . unfold JD at h;split at h
   . split at h
     . split at h
       . rename_i e s h1;obtain⟨aN,s1,bn,bt,bY,_⟩:=RB (gl:=[]) h1 he aE;obtain⟨b,g,c,d,f⟩:=Q6 h bt bY;exact⟨b,g,bn.trans c,d,f⟩
       grind
     grind
   . exact Q6 h he aE
theorem Conv.own{k:Nat}{g:Bool}{sz:Nat}(p:look env1 k=some (g,.c .aT))(q:0<sz)(y:kk<=N):Conv kk N env1 J1 (N+1) ((k,g,.c (.arr N sz 0 0))::env1) (cZ J1 N (.arr sz [])):=by
 intro au nt φ S a w t R;have f:=R.Dq q (by omega);have cr:et φ N (0,0) N=(0,0):=by simp[et]
 refine⟨et φ N _,S,⟨f.bD,λi j v ag ao=>?_,λi j v ag ao=>?_,λi j v ag ao=>?_,f.dz,f.size,f.defers,f.ext,f.own,f.fix,f.fT⟩⟩
 . simp[look]at ag;split at ag
   . rename_i e;cases ag;subst e;obtain⟨x,I,o⟩:=f.fJ _ _ _ p ao;refine⟨x,I,?_⟩;cases o with
     |c o=>
      obtain⟨a,rfl⟩:=o;refine .c ⟨a,by grind,λh=>absurd (by grind) h,by simp⟩
   . exact f.fJ i j v ag ao
 . simp[look]at ag;split at ag
   . rename_i e;cases ag;subst e;exact f.gp _ _ _ p ao
   . exact f.gp i j v ag ao
 . simp only[look]at ag;split at ag
   . grind[V.aA,C.aA,lt]
   . exact f.fI i j v ag ao
theorem Conv.aej{b:Nat}{sz:Nat}(L:aP J1 b=some (.box cs))(D:cs[j]?=some .aT)(M:b<N)(H:0<sz)(P:kk<=N):
 Conv kk N env1 J1 (N+1) env1 (cZ (cZ J1 N (.arr sz [])) b (.box (cs.set j (.arr N sz 0 0)))):=by
 intro au nt φ S a w O R;have e:=R.Dq H (by omega);have cr:et φ N (0,0) N=(0,0):=by simp[et]
 have t:aP (cZ J1 N (.arr sz [])) b=some (.box cs):=by rw[cQ];grind
 have A:∀c x,aP (cZ (cZ J1 N (.arr sz [])) b (.box (cs.set j (.arr N sz 0 0)))) c=some x->(c=b/\x= .box (cs.set j (.arr N sz 0 0)))\/aP (cZ J1 N (.arr sz [])) c=some x:=by
  grind[cQ]
 have f:∀c x,aP (cZ (cZ J1 N (.arr sz [])) b (.box (cs.set j (.arr N sz 0 0)))) c=some x->∃y,aP (cZ J1 N (.arr sz [])) c=some y:=by grind
 refine⟨et φ N _,S,⟨⟨λc x I=>?_,λc p x y I ak F=>?_,e.bD.st⟩,e.fJ,e.gp,e.fI,λc x I=>?_,e.size,e.defers,e.ext,λc x I=>?_,e.fix,e.fT⟩⟩
 . rcases A c x I with⟨rfl,rfl⟩|h
   . obtain⟨h0,vs,E,h1,q,B⟩:=e.bD.blk _ _ t;refine⟨h0,vs,E,h1,?_,B⟩;obtain⟨v,U,G⟩:=q.get D;obtain⟨a,rfl⟩:=G;have:=a6.set (i:=j) q (a:= .arr N sz 0 0) (b:= .slice a 0 0) ⟨a,by grind,λh=>absurd (by grind) h,by simp⟩;have Q:vs.set j (.slice a 0 0)=vs:=by
      apply uY;grind
     grind
   . exact e.bD.blk c x h
 . obtain⟨o,g⟩:=f c x I;obtain⟨K,J⟩:=f p y ak;exact e.bD.inj c p o K g J F
 . rcases A c x I with⟨rfl,rfl⟩|h
   . have:=(e.dz _ _ t).2;grind[bT.aA,List.mem_or_eq_of_mem_set,C.aA,lt]
   . exact e.dz c x h
 . obtain⟨o,g⟩:=f c x I;exact e.own c o g
theorem Conv.trim{q b:Nat}{sz h:Nat}(Q:aP J1 q=some (.box cs))(W:cs[j]?=some (.arr b sz 0 h))(M:aP J1 b=some (.arr sz es))(aa:h<=es.length)(aF:q<N):
 Conv kk N env1 J1 (N+1) env1 (cZ (cZ (fB J1 b) N (.arr sz (es.take h))) q (.box (cs.set j (.arr N sz 0 h)))):=by
 intro au nt φ S a w ap R;have an:b<N:=by have:=(R.dz _ _ M).1;grind[lt]
 have U:∀c,lt N c=true->et φ N (φ b) c=φ c:=by
  intro c p;simp only[lt,gg]at p;grind[et]
 have B:∀c,lt N c=true->lt (N+1) c=true:=λc p=>Ch (by omega) p;have f:=R.sw U;have cr:et φ N (φ b) N=φ b:=by simp[et]
 have O:=U b (by grind[lt]);have P:∀c x,aP (cZ (cZ (fB J1 b) N (.arr sz (es.take h))) q (.box (cs.set j (.arr N sz 0 h)))) c=some x->(c=q/\x= .box (cs.set j (.arr N sz 0 h)))\/(c≠q/\c=N/\x= .arr sz (es.take h))\/(c≠q/\c≠N/\c≠b/\aP J1 c=some x):=by
  grind[cQ,eK]
 have G:∀c x,aP (cZ (cZ (fB J1 b) N (.arr sz (es.take h))) q (.box (cs.set j (.arr N sz 0 h)))) c=some x->∃t y,aP J1 t=some y/\et φ N (φ b) c=et φ N (φ b) t/\(t=if c=N then b else c):=by grind
 refine⟨et φ N (φ b),S,⟨⟨λc x I=>?_,λc t x y I ak ax=>?_,f.bD.st⟩,f.fJ,f.gp,λk g v ag ao=>V.gO B (f.fI k g v ag ao),λc x I=>?_,f.size,f.defers,f.ext,λc x I h0=>?_,f.fix,λc p=>by have:=f.fT c p;exact B c this⟩⟩
 . rcases P c x I with⟨rfl,rfl⟩|⟨_,rfl,rfl⟩|⟨_,_,_,o⟩
   . obtain⟨h0,vs,E,h1,A,F⟩:=f.bD.blk _ _ Q;refine⟨h0,vs,E,h1,?_,F⟩;obtain⟨v,a0,X⟩:=A.get W;have Y:bq (et φ N (φ b)) w S (.arr N sz 0 h) v:=by
      obtain⟨a,aN,D,dw⟩:=X;rw[O]at aN D dw;exact⟨a,by rw[cr];exact aN,by rw[cr];exact D,by rw[cr];exact dw⟩
     have:=a6.set (i:=j) A Y;have aI:vs.set j v=vs:=by
      apply uY;grind
     grind
   . obtain⟨h0,h1,A,F,o⟩:=f.bD.blk _ _ M;rw[O]at h0 o;refine⟨by rw[cr,u0];omega,by rw[u0];omega,λe he=>A e (x7 he),F,λp=>?_⟩;grind
   . exact f.bD.blk c x o
 . obtain⟨d,J,H,aN,D⟩:=G c x I;obtain⟨K,am,Z,dw,fR⟩:=G t y ak;have b3:d≠K:=(by grind);intro h0 L;rw[aN]at h0⊢;rw[dw]at L⊢;exact f.bD.inj d K J am H Z b3 h0 L
 . rcases P c x I with⟨rfl,rfl⟩|⟨_,rfl,rfl⟩|⟨_,_,_,o⟩
   . have:=(f.dz _ _ Q).2;grind[bT.aA,List.all_eq_true,List.mem_or_eq_of_mem_set,C.gO,C.aA,lt]
   . exact⟨by simp[lt],rfl⟩
   . exact⟨B c (f.dz c x o).1,bT.gO B (f.dz c x o).2⟩
 . obtain⟨d,J,H,aN,_⟩:=G c x I;rw[aN]at h0⊢;exact f.own d J H h0
def uh:Nat->List (bo U)->Option (Nat×Nat×Nat)
 |_,[]=>none
 |j,.pre b h::_=>some (j,b,h)
 |j,_::r=>uh (j+1) r
def p2(J:bf U):bf U->Option (Nat×List (bo U)×Nat×Nat×Nat)
 |[]=>none
 |(q,.box cs)::r=>match aX J q with
  |some (.box a)=>match uh 0 a with
   |some p=>some (q,a,p)
   |none=>p2 J r
  |_=>p2 J r
 |_::r=>p2 J r
theorem RL:∀{cs:List (bo U)} {j i b h:Nat},uh j cs=some (i,b,h)->j<=i/\cs[i-j]?=some (.pre b h)
 |[],j,i,b,h,a=>by grind[uh]
 |c::r,j,i,b,h,a=>by
  have next:uh (j+1) r=some (i,b,h)->j<=i/\(c::r)[i-j]?=some (.pre b h):=by
   intro a;obtain⟨h1,f⟩:=RL a;grind
  cases c with
  |pre d e=>grind[uh,Option.some.injEq]
  |_=>exact next a
theorem AT{q:Nat}{cs:List (bo U)}{i b h:Nat}:∀{l:bf U},p2 J l=some (q,cs,i,b,h)->aX J q=some (.box cs)/\cs[i]?=some (.pre b h)
 |[],a=>by simp[p2]at a
 |(k,x)::r,a=>by
  cases x with
  |box d=>
   simp[p2]at a;split at a
   . rename_i e c;split at a
     . rename_i p al;obtain⟨rfl,rfl,rfl⟩:=a;exact⟨c,by simpa using(RL al).2⟩
     . exact AT a
   . exact AT a
  |_=>exact AT (by simpa[p2]using a)
def CF{R:Type}(J:bf U)(N:Nat)(k:bf U->Nat->Option R):Option R:=
 match p2 J J with
 |none=>k J N
 |some (q,cs,j,b,h)=>match aX J b with
  |some (.arr t l)=>if (h<=l.length:Bool) then k (cD (cD (dl J b) N (.arr t (l.take h))) q (.box (cs.set j (.arr N)))) (N+1)else none
  |_=>none
theorem RC{q b h0:Nat}{cs:List (bo U)}{x:bo U}{l:List (t.den U.D)}(r:aX J q=some (.box cs))(o:cs[j]?=some x)(k:aX J b=some (.arr t l))(I:∀d,b8 N J x d->d= .arr b (t.sz U) 0 h0)(C:h0<=l.length)
 (he:cS N J G env env1)(aE:cm N J J1):
 ∃bp,Conv kk N env1 J1 (N+1) env1 bp/\cS (N+1) (cD (cD (dl J b) N (.arr t (l.take h0))) q (.box (cs.set j (.arr N)))) G env env1/\cm (N+1) (cD (cD (dl J b) N (.arr t (l.take h0))) q (.box (cs.set j (.arr N)))) bp:=by
 obtain⟨v,F,u,a⟩:=aE q _ r;obtain⟨B,E,m,n⟩:=aE b _ k;cases n;cases a with
 | @box _ A a=>
  obtain⟨d,aj,z⟩:=a.get o;have:=I d z;subst this;have w:q≠b:=by grind
  have bn:c' N J N (dl J b):=og;have bt:c' N (dl J b) (N+1) (cD (dl J b) N (.arr t (l.take h0))):=jX;have s:aX (cD (dl J b) N (.arr t (l.take h0))) q=some (.box cs):=by rw[gR,cV,lf,av (λe=>w e.symm)];grind
  have bY:c' (N+1) (cD (dl J b) N (.arr t (l.take h0))) (N+1) (cD (cD (dl J b) N (.arr t (l.take h0))) q (.box (cs.set j (.arr N)))):=mT (e6 _) s (λp h=>by grind[cM.db]);have f:=(bn.trans bt).trans bY;have i:cm N (dl J b) (fB J1 b):=by
   intro c x I;rw[lf]at I;split at I
   . grind
   . obtain⟨g1,y,g2,g3⟩:=aE c x I;exact⟨g1,y,by simp_all[eK,av],g3.mono bn⟩
  refine⟨_,Conv.trim u aj m (by grind) v,he.mono f,?_⟩;rw[<-List.map_take];refine(i.put (by simp) bt (.arr t (l.take h0))).put (by omega) bY (.box ?_);refine a6.set (a.imp λ_ _ _ g=>g.mono f) (.arr N _ _ (by simp) λx I p al=>?_);rw[gR,gR,ai rfl]at I;grind[cM.db,Option.some.injEq,List.length_take,Nat.min_eq_left]
theorem RM{k:bf U->Nat->Option R}{r:R}(h:CF J N k=some r)(he:cS N J (λ_=>true) env env1)(aE:cm N J J1):
 ∃J' N' bp,k J' N'=some r/\Conv kk N env1 J1 N' env1 bp/\cS N' J' (λ_=>true) env env1/\cm N' J' bp/\N<=N':=by
 unfold CF at h;split at h
 . exact⟨J,N,J1,h,Conv.refl,he,aE,e6 _⟩
 . rename_i q cs j b h0 e;obtain⟨g,f⟩:=AT e;split at h
   . rename_i t l a;split at h
     . obtain⟨s1,m,n,o⟩:=RC (kk:=kk) (h0:=h0) g f a (λd i=>by
        cases i with
        |pre _ sz _ _ c=>
         have c:=c _ a _ rfl
         grind) (by grind) he aE
       grind
     grind
   grind
def re(kk:Nat):Nat->List (bo U)->Option (Nat×Nat)
 |_,[]=>none
 |j,.arr b::r=>match Nat.ble (b+1) kk with
  |true=>some (j,b)
  |false=>re kk (j+1) r
 |j,_::r=>re kk (j+1) r
def p3(kk:Nat)(J:bf U):bf U->Option (Nat×List (bo U)×Nat×Nat)
 |[]=>none
 |(q,.box _)::r=>match aX J q with
  |some (.box cs)=>match re kk 0 cs with
   |some p=>some (q,cs,p)
   |none=>p3 kk J r
  |_=>p3 kk J r
 |_::r=>p3 kk J r
theorem RN:∀{cs:List (bo U)} {j i b:Nat},re kk j cs=some (i,b)->j<=i/\cs[i-j]?=some (.arr b)
 |[],j,i,b,a=>by grind[re]
 |c::r,j,i,b,a=>by
  have next:re kk (j+1) r=some (i,b)->j<=i/\(c::r)[i-j]?=some (.arr b):=by
   intro a;obtain⟨h1,e⟩:=RN a;grind
  cases c with
  |arr d=>
   grind[re]
  |_=>exact next a
theorem AU{kk q:Nat}{cs:List (bo U)}{i b:Nat}:∀{l:bf U},p3 kk J l=some (q,cs,i,b)->aX J q=some (.box cs)/\cs[i]?=some (.arr b)
 |[],a=>by grind[p3]
 |(k,x)::r,a=>by
  cases x with
  |box d=>
   simp only[p3]at a;split at a
   . rename_i e c;split at a
     . rename_i p al;obtain⟨rfl,rfl,rfl⟩:=a;exact⟨c,by simpa using(RN al).2⟩
     . exact AU a
   . exact AU a
  |_=>exact AU (by simpa[p3]using a)
def Cy{R:Type}(kk:Nat)(J:bf U)(k:bf U->Nat->Option R):Option R:=
 match p3 kk J J with
 |none=>k J kk
 |some (q,cs,j,b)=>match aX J b with
  |some (.arr t l)=>k (cD (cD (dl J b) kk (.arr t l)) q (.box (cs.set j (.arr kk)))) (kk+1)
  |_=>k J kk
theorem Xx{k:bf U->Nat->Option R}{r:R}(h:Cy kk J k=some r)(he:cS kk J (λ_=>true) env env1)(aE:cm kk J J1):
 ∃J' N' bp,k J' N'=some r/\Conv kk kk env1 J1 N' env1 bp/\cS N' J' (λ_=>true) env env1/\cm N' J' bp/\kk<=N':=by
 unfold Cy at h;split at h
 . exact⟨J,kk,J1,h,Conv.refl,he,aE,e6 _⟩
 . rename_i q cs j b e;obtain⟨g,f⟩:=AU e;split at h
   . rename_i t l a
     obtain⟨s1,m,o,p⟩:=RC (kk:=kk) g f a (λd i=>by
      cases i with
      |arr _ sz n _ c=>
       have c:=c _ a _ rfl
       grind) (e6 _) he aE
     grind
   . exact⟨J,kk,J1,h,Conv.refl,he,aE,e6 _⟩
inductive Pos where
 |slot (k:Nat)
 |cell (b j:Nat)
 |via (k j:Nat)
def y3(b j:Nat)(t:aH)(env:bQ U)(J:bf U)(N:Nat):Option (bQ U×bf U):=
 match aX J b with
 |some (.box cs)=>match cs[j]? with
  |some .aT=>some (env,cD (cD J N (.arr t [])) b (.box (cs.set j (.arr N))))
  |_=>some (env,J)
 |_=>none
def G'(p:Pos)(t:aH)(env:bQ U)(J:bf U)(N:Nat):Option (bQ U×bf U):=
 match p with
 |.slot k=>match aX env k with
  |some (.c .aT)=>some ((k,.c (.arr N))::env,cD J N (.arr t []))
  |_=>some (env,J)
 |.cell b j=>y3 b j t env J N
 |.via k j=>match aX env k with
  |some (.c (.ptr b _))=>y3 b j t env J N
  |_=>none
def CA:List (Pos×aH)->bQ U->bf U->Nat->Option (bQ U×bf U×Nat)
 |[],env,J,N=>some (env,J,N)
 |(p,t)::r,env,J,N=>match G' p t env J N with
  |some (env',J')=>CA r env' J' (N+1)
  |none=>none
theorem He{t:aH}(he:cS N J (λ_=>true) env env1)(aE:cm N J J1)(g:kk<=N):∃c bp,Conv kk N env1 J1 (N+1) c bp/\cS (N+1) J (λ_=>true) env c/\cm (N+1) J bp:=by
 refine⟨env1,cZ _ N (.arr 1 []),λau nt φ S a w f R=>⟨_,S,R.Dq (by simp) (by omega)⟩,he.mono (c'.more (by simp)),λb x I=>?_⟩;obtain⟨h1,y,e,d⟩:=aE b x I;exact⟨by omega,y,by grind[cQ],d.mono (c'.more (by simp))⟩
theorem E4{b:Nat}(h:y3 b j t env J N=some (env',J'))(he:cS N J (λ_=>true) env env1)(aE:cm N J J1)(g:kk<=N):
 ∃f bp,Conv kk N env1 J1 (N+1) f bp/\cS (N+1) J' (λ_=>true) env' f/\cm (N+1) J' bp:=by
 have same:=He (t:=t) he aE g;unfold y3 at h;split at h
 . rename_i cs k;split at h
   . rename_i m;cases h;obtain⟨i,y,h1,a⟩:=aE b _ k;cases a with
     | @box _ o a=>
      obtain⟨d,aj,n⟩:=a.get m;cases n;have c:c' N J (N+1) (cD J N (.arr t [])):=jX;have l:aX (cD J N (.arr t [])) b=some (.box cs):=by rw[gR];grind
      have e:c' (N+1) _ (N+1) (cD _ b (.box (cs.set j (.arr N)))):=mT (e6 _) l (λp h=>by grind[cM.db]);refine⟨_,_,Conv.aej h1 aj i (aH.vc (t:=t) (U:=U)) g,(he.mono c).mono e,(aE.put (by simp) c (.arr t [])).put (by omega) e (.box ?_)⟩;refine a6.set (a.imp λ_ _ _ h=>(h.mono c).mono e) (.arr N _ _ (by simp) λx I p al=>?_);rw[gR,gR]at I;grind[cM.db]
   grind
 grind
theorem Xy{p:Pos}(h:G' p t env J N=some (env',J'))(he:cS N J (λ_=>true) env env1)(aE:cm N J J1)(e:kk<=N):
 ∃d bp,Conv kk N env1 J1 (N+1) d bp/\cS (N+1) J' (λ_=>true) env' d/\cm (N+1) J' bp:=by
 have same:=He (t:=t) he aE e;unfold G' at h;split at h
 . rename_i k;split at h
   . rename_i j;cases h;obtain⟨v1,h1,g⟩:=he k _ j;have:=g.sY;subst this;have f:c' N J (N+1) (cD J N (.arr t [])):=jX;refine⟨_,_,Conv.own h1 (aH.vc (t:=t) (U:=U)) e,λi v a=>?_,aE.put (by simp) f (.arr t [])⟩;simp only[aX]at a;simp only[look];split at a
     . rename_i b;cases a;rw[ai (cR b)];refine⟨_,rfl,.c (.arr N _ _ (by simp) λx I p al=>?_)⟩;rw[gR,ai rfl]at I;grind[cM.db]
     . rename_i b;rw[av (hh b)];exact(he.mono f) i v a
   grind
 . grind[E4]
 grind[E4]
def G5:List (bo U)->List Bool->Bool
 |[],[]=>true
 |.t _::cs,false::bs=>G5 cs bs
 |.aT::cs,true::bs=>G5 cs bs
 |_,_=>false
def Ow(cs:List (bo U)):List (List Bool×Nat×aH)->Option (Nat×aH)
 |[]=>none
 |(bs,p)::r=>match G5 cs bs with
  |true=>some p
  |false=>Ow cs r
def FM(l:List (List Bool×Nat×aH)):bf U->Option (Nat×Nat×aH)
 |[]=>none
 |(q,.box cs)::r=>match Ow cs l with
  |some p=>some (q,p)
  |none=>FM l r
 |_::r=>FM l r
def CC{R:Type}(env:bQ U)(J:bf U)(N:Nat)(k:bQ U->bf U->Nat->Option R):Option R:=
 match FM U.own J with
 |none=>CF J N λJ N=>k env J N
 |some (q,j,t)=>match y3 q j t env J N with
  |some (env,J)=>CF J (N+1) λJ N=>k env J N
  |none=>none
theorem RO{k:bQ U->bf U->Nat->Option R}{r:R}(h:CC env J N k=some r)(he:cS N J (λ_=>true) env env1)(aE:cm N J J1)(d:kk<=N):
 ∃env' J' N' a bp,k env' J' N'=some r/\Conv kk N env1 J1 N' a bp/\cS N' J' (λ_=>true) env' a/\cm N' J' bp/\N<=N':=by
 unfold CC at h;split at h
 . obtain⟨i,c,g,g1,g2,g3,g4,b⟩:=RM h he aE;exact⟨_,_,_,_,_,g1,g2,g3,g4,b⟩
 . split at h
   . rename_i e s f;obtain⟨aN,s1,c1,c2,c3⟩:=E4 f he aE d;obtain⟨i,c,g,g1,g2,g3,g4,b⟩:=RM h c2 c3;exact⟨_,_,_,_,_,g1,c1.trans g2,g3,g4,by omega⟩
   grind
theorem Ra:∀{l:List (Pos×aH)} {env env':bQ U} {J J':bf U} {N N':Nat} {env1:Env} {J1:a8},CA l env J N=some (env',J',N')->cS N J (λ_=>true) env env1->cm N J J1->kk<=N->
 ∃a bp,Conv kk N env1 J1 N' a bp/\cS N' J' (λ_=>true) env' a/\cm N' J' bp/\N<=N'
 |[],env,env',J,J',N,N',env1,J1,h,he,aE,b=>by obtain⟨rfl,rfl,rfl⟩:=h;exact⟨env1,J1,Conv.refl,he,aE,e6 _⟩
 |(p,t)::r,env,env',J,J',N,N',env1,J1,h,he,aE,b=>by
  simp[CA]at h;split at h
  . rename_i e s h1;obtain⟨aN,s1,bn,bt,bY⟩:=Xy h1 he aE b;obtain⟨c,i,d,f,g,j⟩:=Ra h bt bY (by omega);exact⟨c,i,bn.trans d,f,g,by omega⟩
  grind
end
end
section
open Go
variable {U:cE}
inductive jR where
 |hole (ty:aH)
 |ptr (b o:Nat)
 |cH (b:Nat)(ty:aH)(o:Nat)
 |dF (ty:aH)(o:Nat)
 |arr (b:Nat)
 |mp (b:Nat)
 |cj (b:Nat)
 |aT
 |eU
 |eT
 |fn (f:Nat)(caps:aZ)
 |dead
inductive eJ where
 |c (s:jR)
 |agg (l:List jR)
 |row (n:Nat)
 |ba (l:List eJ)
inductive ft where
 |box (l:List jR)
 |arr (ty:aH)
 |bd (n:Nat)
 |gone
 |set
 |buf (E:Nat)
 |b1 (E:Nat)(s:jR)
structure Shape where
 env:List (Nat×eJ)
 st:List ft
abbrev eE(U:cE):=List (Cell U.D)
def tc:jR->eE U->bo U×eE U
 |.hole _,c::r=>(.t c,r)
 |.hole _,[]=>(.dead,[])
 |.ptr b o,r=>(.ptr b o,r)
 |.cH b ty o,⟨.int _,n⟩::r=>(.cH b ty (Int.toNat n) o,r)
 |.cH _ _ _,r=>(.dead,r)
 |.dF _ o,c::r=>(.dF c.ty c.val o,r)
 |.dF _ _,[]=>(.dead,[])
 |.arr b,r=>(.arr b,r)
 |.mp b,r=>(.mp b,r)
 |.cj b,r=>(.cj b,r)
 |.aT,r=>(.aT,r)
 |.eU,r=>(.eU,r)
 |.eT,r=>(.eT,r)
 |.fn f caps,r=>(.fn f caps,r)
 |.dead,r=>(.dead,r)
def vQ:List jR->eE U->List (bo U)×eE U
 |[],r=>([],r)
 |s::ss,r=>match tc s r with
  |(x,a)=>match vQ ss a with
   |(xs,b)=>(x::xs,b)
mutual
def k':eJ->eE U->bF U×eE U
 |.c s,r=>match tc s r with
  |(x,a)=>(.c x,a)
 |.agg l,r=>match vQ l r with
  |(xs,a)=>(.agg xs,a)
 |.row _,c::r=>(.agg ((c.ty.row U c.val).map .t),r)
 |.row _,[]=>(.ba [],[])
 |.ba l,r=>match jG l r with
  |(xs,a)=>(.ba xs,a)
def jG:List eJ->eE U->List (bF U)×eE U
 |[],r=>([],r)
 |s::ss,r=>match k' s r with
  |(x,a)=>match jG ss a with
   |(xs,e)=>(x::xs,e)
end
def zD:List (Nat×eJ)->eE U->bQ U×eE U
 |[],r=>([],r)
 |(k,s)::ss,r=>match k' s r with
  |(x,a)=>match zD ss a with
   |(xs,b)=>((k,x)::xs,b)
def jg:ft->eE U->Option (cM U)×eE U
 |.box l,r=>match vQ l r with
  |(xs,a)=>(some (.box xs),a)
 |.arr _,⟨.slice t,l⟩::r=>(some (.arr t l),r)
 |.arr _,r=>(none,r)
 |.bd _,c::r=>(some (.box ((c.ty.row U c.val).map .t)),r)
 |.bd _,[]=>(none,[])
 |.gone,r=>(none,r)
 |.set,⟨.slice .str,l⟩::r=>(some (.set l),r)
 |.set,r=>(none,r)
 |.buf E,⟨.str,s⟩::r=>(some (.buf E s),r)
 |.buf _,r=>(none,r)
 |.b1 E s,r=>match tc s r with
  |(x,a)=>(some (.b1 E x),a)
def gQ:Nat->List ft->eE U->bf U
 |_,[],_=>[]
 |j,s::ss,r=>match jg s r with
  |(some x,a)=>(j,x)::gQ (j+1) ss a
  |(none,a)=>gQ (j+1) ss a
def pA{α:Type}:List α->Nat->Option α
 |[],_=>none
 |a::_,0=>some a
 |_::l,n+1=>pA l n
theorem Ck{α:Type}:∀{l:List α} {n:Nat},pA l n=l[n]?
 |[],n=>by rfl
 |a::l,0=>by rfl
 |a::l,n+1=>by simp[pA,Ck]
def qg(bs:aZ)(j b:Nat):Bool:=match pA bs j with
 |some a=>Nat.beq a b
 |none=>false
def zj(bs:aZ):aZ->aZ->Bool
 |[],[]=>true
 |j::a,c::cs=>qg bs j c&&zj bs a cs
 |_,_=>false
def EI(ty:aH):bo U->Option (Cell U.D)
 |.t c=>match Cell.as ty c with
  |some x=>some ⟨ty,x⟩
  |none=>none
 |.aT=>match ty with
  |.slice t=>some ⟨.slice t,([]:List (t.den U.D))⟩
  |_=>none
 |_=>none
def vx(bs:aZ):jR->bo U->Option (eE U)
 |.hole ty,x=>match EI ty x with
  |some c=>some [c]
  |none=>none
 |.ptr j o,.ptr b a=>match qg bs j b&&Nat.beq o a with
  |true=>some []
  |false=>none
 |.cH j ty o,.cH b d i a=>match qg bs j b&&(Nat.beq o a&&aH.beq ty d)with
  |true=>some [⟨.int .i64,(i:Int)⟩]
  |false=>none
 |.dF ty o,.dF d x a=>match Nat.beq o a,Cell.as ty (⟨d,x⟩:Cell U.D)with
  |true,some x=>some [⟨ty,x⟩]
  |_,_=>none
 |.arr j,.arr b=>match qg bs j b with
  |true=>some []
  |false=>none
 |.mp j,.mp b=>match qg bs j b with
  |true=>some []
  |false=>none
 |.cj j,.cj b=>match qg bs j b with
  |true=>some []
  |false=>none
 |.aT,.aT=>some []
 |.eU,.eU=>some []
 |.eT,.eT=>some []
 |.fn f g,.fn e cs=>match Nat.beq f e&&zj bs g cs with
  |true=>some []
  |false=>none
 |.dead,_=>some []
 |_,_=>none
def o1(bs:aZ):List jR->List (bo U)->Option (eE U)
 |[],[]=>some []
 |s::ss,x::xs=>match vx bs s x,o1 bs ss xs with
  |some a,some b=>some (a++b)
  |_,_=>none
 |_,_=>none
mutual
def jb(bs:aZ):eJ->bF U->Option (eE U)
 |.c s,.c x=>vx bs s x
 |.agg l,.agg xs=>o1 bs l xs
 |.row n,.agg xs=>match oW U (.nm n) xs with
  |some x=>some [⟨.nm n,x⟩]
  |none=>none
 |.ba l,.ba xs=>lB bs l xs
 |_,_=>none
def lB(bs:aZ):List eJ->List (bF U)->Option (eE U)
 |[],[]=>some []
 |s::ss,x::xs=>match jb bs s x,lB bs ss xs with
  |some a,some b=>some (a++b)
  |_,_=>none
 |_,_=>none
end
def vy(bs:aZ)(env:bQ U):List (Nat×eJ)->Option (eE U)
 |[]=>some []
 |(k,s)::ss=>match aX env k with
  |some x=>match jb bs s x,vy bs env ss with
   |some a,some b=>some (a++b)
   |_,_=>none
  |none=>none
def nP(bs:aZ):ft->cM U->Option (eE U)
 |.box l,.box xs=>o1 bs l xs
 |.arr ty,.arr t l=>match Cell.as (.slice ty) (⟨.slice t,l⟩:Cell U.D)with
  |some l=>some [⟨.slice ty,l⟩]
  |none=>none
 |.arr ty,.rows sz r=>match Nat.beq (ty.sz U) sz,lr U ty r with
  |true,some l=>some [⟨.slice ty,l⟩]
  |_,_=>none
 |.bd n,.box xs=>match oW U (.nm n) xs with
  |some x=>some [⟨.nm n,x⟩]
  |none=>none
 |.set,.set l=>some [⟨.slice .str,l⟩]
 |.buf E,.buf a s=>match Nat.beq E a with
  |true=>some [⟨.str,s⟩]
  |false=>none
 |.b1 E s,.b1 a x=>match Nat.beq E a with
  |true=>vx bs s x
  |false=>none
 |_,_=>none
def il(bs:aZ)(J:bf U):Nat->List ft->Option (eE U)
 |_,[]=>some []
 |j,.gone::ss=>il bs J (j+1) ss
 |j,s::ss=>match pA bs j with
  |some b=>match aX J b with
   |some x=>match nP bs s x,il bs J (j+1) ss with
    |some a,some r=>some (a++r)
    |_,_=>none
   |none=>none
  |none=>none
variable{a:eE U}{ss:List ft}
section
variable {kk N:Nat}{J Jc:bf U}{J1:a8}{env:bQ U}{env1:Env}{bs:aZ}
def Can(bs:aZ)(J Jc:bf U):Prop:=∀j b a,bs[j]?=some b->aX Jc j=some a->∃x,aX J b=some x/\∀p,a.db=some p->x.db=some p
theorem lV(b3:bs.Nodup){j b:Nat}(h:bs[j]?=some b):pos bs b=some j:=by
 induction bs generalizing j with
 |nil=>grind
 |cons a bs ih=>
  grind[pos]
theorem ub{j b:Nat}(h:qg bs j b=true):bs[j]?=some b:=by
 unfold qg at h;rw[Ck]at h;split at h
 all_goals simp_all
theorem Rb(b3:bs.Nodup):∀{a cs:aZ},zj bs a cs=true->oB bs cs=some a
 |[],[],_=>rfl
 |j::a,c::cs,h=>by
  simp[zj]at h;simp[oB,lV b3 (ub h.1),Rb b3 h.2]
theorem Yc{ty:aH}{x:bo U}{c:Cell U.D}{d:C}(h:EI ty x=some c)(a:b8 N J x d):dC (d.bS bs) (.t (c.enc U))/\c.ty=ty:=by
 unfold EI at h;split at h
 . split at h
   . rename_i b y ak;cases h;rw[Cell.jw ak]at a;cases a;exact⟨dC.refl _,rfl⟩
   grind
 . split at h
   . cases h;cases a;exact⟨dC.aT,rfl⟩
   grind
 grind
theorem Fo(b3:bs.Nodup)(q:Can bs J Jc){s:jR}{x:bo U}(h:vx bs s x=some a):
 ∃y,(∀r,tc s (a++r)=(y,r))/\∀d,b8 N J x d->∃m,dC (d.bS bs) m/\b8 bs.length Jc y m:=by
 unfold vx at h;split at h
 . split at h
   . rename_i c z;cases h;exact⟨.t c,λr=>rfl,λd aj=>⟨_,(Yc z aj).1,.t c⟩⟩
   grind
 . rename_i j o b u;split at h
   . rename_i g;simp only[cO]at g;have:=cR g.2;subst this;cases h;refine⟨.ptr j o,λr=>rfl,λd aj=>⟨.ptr j o,?_,.ptr j o⟩⟩;cases aj;simp only[C.bS,lV b3 (ub g.1)];exact dC.refl _
   grind
 . rename_i j ty o b B i u;split at h
   . rename_i g;simp only[cO]at g;have:=cR g.2.1;subst this;have:=aH.beq_eq g.2.2;subst this;cases h;refine⟨.cH j ty i o,λr=>rfl,λd aj=>⟨.cH j (ty.sz U) i o,?_,.cH j ty i o⟩⟩;cases aj;simp only[C.bS,lV b3 (ub g.1)];exact dC.refl _
   grind
 . rename_i ty o B x u;split at h
   . rename_i y A ak;have:=cR A;subst this;cases h;have e:=Cell.jw ak;cases e;refine⟨.dF ty y o,λr=>rfl,λd aj=>⟨d,?_,?_⟩⟩
     . cases aj;exact dC.refl _
     . cases aj;exact .dF ty y o
   grind
 . rename_i j b;split at h
   . rename_i g;cases h;refine⟨.arr j,λr=>rfl,λd aj=>?_⟩;cases aj with
     |arr _ sz n w aa=>
      have k:=ub g;refine⟨.arr j sz 0 n,?_,.arr j sz n (dL.1 k).1 λx I p al=>?_⟩
      . simp only[C.bS,lV b3 k];exact dC.refl _
      . obtain⟨D,h1,v⟩:=q j b x k I;grind
   grind
 . rename_i j b;split at h
   . rename_i g;cases h;refine⟨.mp j,λr=>rfl,λd aj=>?_⟩;cases aj;refine⟨.mp j,?_,.mp j⟩;simp only[C.bS,lV b3 (ub g)];exact dC.refl _
   grind
 . rename_i j b;split at h
   . rename_i g;cases h;refine⟨.cj j,λr=>rfl,λd aj=>?_⟩;cases aj with
     |cj _ n w aa=>
      have k:=ub g;refine⟨.cj j n,?_,.cj j n (dL.1 k).1 λx I p al=>?_⟩
      . simp only[C.bS,lV b3 k];exact dC.refl _
      . obtain⟨D,h1,v⟩:=q j b x k I;grind
   grind
 . cases h;exact⟨.aT,λr=>rfl,λd aj=>by cases aj;exact⟨.aT,dC.refl _,.aT⟩⟩
 . cases h;exact⟨.eU,λr=>rfl,λd aj=>by cases aj;exact⟨.eU,dC.refl _,.eU⟩⟩
 . cases h;exact⟨.eT,λr=>rfl,λd aj=>by cases aj;exact⟨.eT,dC.refl _,.eT⟩⟩
 . rename_i f l E cs;split at h
   . rename_i g;simp only[cO]at g;have:=cR g.1;subst this;cases h;refine⟨.fn f l,λr=>rfl,λd aj=>⟨.fn f l,?_,.fn f l⟩⟩;cases aj;simp only[C.bS,Rb b3 g.2];exact dC.refl _
   grind
 . cases h;exact⟨.dead,λr=>rfl,λd aj=>⟨.dead,dC.dead _,.dead _⟩⟩
 . cases h
theorem E5(b3:bs.Nodup)(d:Can bs J Jc):∀{ss:List jR} {xs:List (bo U)} {a:eE U},o1 bs ss xs=some a->
 ∃ys,(∀r,vQ ss (a++r)=(ys,r))/\∀b,a6 (b8 N J) xs b->∃c,a6 dC (b.map (C.bS bs)) c/\a6 (b8 bs.length Jc) ys c
 |[],[],a,h=>by simp[o1]at h;subst h;exact⟨[],λr=>rfl,λb aj=>by cases aj;exact⟨[],.nil,.nil⟩⟩
 |s::ss,x::xs,a,h=>by
  simp[o1]at h;split at h
  . rename_i a1 a2 h1 g;cases h;obtain⟨y,f1,g1⟩:=Fo b3 d h1;obtain⟨ys,f2,g2⟩:=E5 b3 d g;refine⟨y::ys,λr=>by simp[vQ,f1,f2],λb aj=>?_⟩;cases aj with
    |cons tg i=>
     obtain⟨e,aN,f⟩:=g1 _ tg;obtain⟨c,dw,fR⟩:=g2 _ i;exact⟨e::c,.cons aN dw,.cons f fR⟩
  grind
 |[],_::_,a,h=>by simp[o1]at h
 |_::_,[],a,h=>by grind[o1]
theorem Hf{n:Nat}{xs:List (bo U)}{x:(aH.nm n).den U.D}(h:oW U (.nm n) xs=some x):∀b,a6 (b8 N J) xs b->∃f,a6 dC (b.map (C.bS bs)) f/\a6 (b8 bs.length Jc) (((aH.nm n).row U x).map .t) f:=by
 intro b aj;refine⟨((aH.nm n).enc U x).map .t,?_,xd⟩;unfold oW at h;split at h
 . rename_i row a;rw[aH.ta,aH.Dm h];clear h;generalize (aH.nm n).cells U=dh at a;induction xs generalizing dh row b with
   |nil=>
    cases aj;cases dh<;>simp[hU]at a;subst a;exact .nil
   |cons y ys ih=>
    cases aj with
    | @cons _ d _ b h1 g=>
     cases dh with
     |nil=>grind[hU]
     |cons ty dh=>
      cases h1 with
      |t c=>cases ty<;>simp[hU]at a<;>(split at a<;>first|(cases a;done)|(rename_i q e;cases a;exact .cons (dC.refl _) (ih _ g _ _ e)))
      |aT=>
       cases ty<;>simp[hU]at a;split at a
       . rename_i q e;cases a;exact .cons dC.aT (ih _ g _ _ e)
       grind
      |_=>grind[hU]
 grind
mutual
theorem CT(b3:bs.Nodup)(q:Can bs J Jc):∀{s:eJ} {x:bF U} {a:eE U},jb bs s x=some a->
 ∃y,(∀r,k' s (a++r)=(y,r))/\∀d,bR N J x d->∃e,gj (d.bS bs) e/\bR bs.length Jc y e
 |.c s,.c x,a,h=>by
  simp only[jb]at h;obtain⟨y,f,g⟩:=Fo (N:=N) b3 q h;refine⟨.c y,λr=>by simp only[k',f],λd aj=>?_⟩;cases aj with
  |c aj=>obtain⟨e,aN,p⟩:=g _ aj;exact⟨.c e,.c aN,.c p⟩
 |.agg l,.agg xs,a,h=>by
  simp only[jb]at h;obtain⟨y,f,g⟩:=E5 (N:=N) b3 q h;refine⟨.agg y,λr=>by simp only[k',f],λd aj=>?_⟩;cases aj with
  |agg aj=>obtain⟨e,aN,p⟩:=g _ aj;exact⟨.agg e,.agg aN,.agg p⟩
 |.row n,.agg xs,a,h=>by
  simp only[jb]at h;split at h
  . rename_i x I;cases h;refine⟨.agg (((aH.nm n).row U x).map .t),λr=>rfl,λd aj=>?_⟩;cases aj with
    |agg aj=>obtain⟨e,aN,p⟩:=Hf I _ aj;exact⟨.agg e,.agg aN,.agg p⟩
  . cases h
 |.ba l,.ba xs,a,h=>by
  simp only[jb]at h;obtain⟨ys,f,ag,g⟩:=s3 b3 q h;refine⟨.ba ys,λr=>by simp only[k',f],λd aj=>?_⟩;cases aj with
  |ba _ j B aj=>
   obtain⟨o,aN,p,dw⟩:=g j B aj;refine⟨.ba o,.ba _ _ (by rw[AG];exact aN.symm) ?_,.ba _ _ (by omega) λi x d I v=>(dw i x d I v)⟩;intro i x y I ak;rw[Bo,bx]at I;grind
 |.c _,.agg _,a,h=>by simp[jb]at h
 |.c _,.ba _,a,h=>by simp[jb]at h
 |.agg _,.c _,a,h=>by simp[jb]at h
 |.agg _,.ba _,a,h=>by simp[jb]at h
 |.row _,.c _,a,h=>by simp[jb]at h
 |.row _,.ba _,a,h=>by simp[jb]at h
 |.ba _,.c _,a,h=>by simp[jb]at h
 |.ba _,.agg _,a,h=>by simp[jb]at h
theorem s3(b3:bs.Nodup)(q:Can bs J Jc):∀{ss:List eJ} {xs:List (bF U)} {a:eE U},lB bs ss xs=some a->
 ∃ys:List (bF U),(∀r,jG ss (a++r)=(ys,r))/\ys.length=xs.length/\∀j:List V,xs.length=j.length->(∀(i:Nat) x d,xs[i]?=some x->j[i]?=some d->bR N J x d)->
  ∃o:List V,o.length=j.length/\(∀(i:Nat) (d e:V),j[i]?=some d->o[i]?=some e->gj (d.bS bs) e)/\(∀(i:Nat) y e,ys[i]?=some y->o[i]?=some e->bR bs.length Jc y e)
 |[],[],a,h=>by simp[lB]at h;subst h;exact⟨[],λr=>rfl,rfl,λj ag aj=>⟨[],by simpa using ag,by simp,by simp⟩⟩
 |s::ss,x::xs,a,h=>by
  simp only[lB]at h;split at h
  . rename_i a1 a2 h1 A;cases h;obtain⟨y,f1,g1⟩:=CT b3 q h1;obtain⟨ys,f2,ag,g2⟩:=s3 b3 q A;refine⟨y::ys,λr=>by simp only[jG,lh,f1,f2],by simp[ag],λj w aj=>?_⟩;cases j with
    |nil=>simp at w
    |cons d j=>
     obtain⟨e,aN,p⟩:=g1 d (aj 0 x d rfl rfl);obtain⟨o,dw,fR,iL⟩:=g2 j (by simpa using w) λi x d I v=>aj (i+1) x d (by simpa using I) (by simpa using v);refine⟨e::o,by simp[dw],λi=>?_,λi=>?_⟩
     . grind
     grind
  . cases h
 |[],_::_,a,h=>by simp[lB]at h
 |_::_,[],a,h=>by simp[lB]at h
end
theorem FC:∀{ks:aZ} {k:Nat} {g:Bool} {v:V},k∈ks->look env1 k=some (g,v)->look (mV bs env1 ks) k=some (g,v.bS bs)
 |x::ks,k,g,v,b,ag=>by
  simp[mV];by_cases h:x=k
  . grind[look]
  . have a:k∈ks:=(by grind);split
    . simp[look,av h];exact FC a ag
    . exact FC a ag
theorem Rc(b3:bs.Nodup)(f:Can bs J Jc)(he:cS N J (λ_=>true) env env1):∀{ss:List (Nat×eJ)} {a:eE U},vy bs env ss=some a->
 ∃e,(∀r,zD ss (a++r)=(e,r))/\∃c:Env,cS bs.length Jc (λ_=>true) e c/\∀k g j,look c k=some (g,j)->k∈ss.map Prod.fst/\∃v,look env1 k=some (g,v)/\gj (v.bS bs) j
 |[],a,h=>by simp[vy]at h;subst h;exact⟨[],λr=>rfl,[],λk v p=>by grind[aX],λk g v h=>by grind[look]⟩
 |(k,s)::ss,a,h=>by
  simp[vy]at h;split at h
  . rename_i x I;split at h
    . rename_i a1 a2 h1 m;cases h;obtain⟨y,f1,g1⟩:=CT b3 f h1;obtain⟨e,f2,c,aN,o⟩:=Rc b3 f he m;obtain⟨d,bn,bt⟩:=he k x I;obtain⟨l,q,t⟩:=g1 d bt;refine⟨(k,y)::e,λr=>by simp[zD,f1,f2],(k,true,l)::c,λi v b=>?_,λi g v b=>?_⟩
      . simp[aX]at b;simp[look];split at b
        . simp_all
        . rename_i n;rw[av (hh n)];exact aN i v b
      . simp[look]at b;grind
    . cases h
  grind
theorem Fp(b3:bs.Nodup)(j:Can bs J Jc){s:ft}{x:cM U}(h:nP bs s x=some a):
 ∃y,(∀r,jg s (a++r)=(some y,r))/\(∀d,hc N J x d->∃c,jO (d.bS bs) c/\hc bs.length Jc y c):=by
 unfold nP at h;split at h
 . obtain⟨ys,f,g⟩:=E5 b3 j h;refine⟨.box ys,λr=>by grind[jg],λd aj=>?_⟩;cases aj with
   |box aj=>obtain⟨i,aN,b⟩:=g _ aj;exact⟨.box _,.box aN,.box b⟩
 . rename_i ty t n;split at h
   . rename_i l ag;cases h;have e:=Cell.jw ag;cases e;refine⟨.arr ty l,λr=>rfl,λd aj=>?_⟩;cases aj;exact⟨_,.arr,.arr ty l⟩
   grind
 . rename_i ty sz r;split at h
   . rename_i l k ag;cases h;have:=cR k;subst this;refine⟨.arr ty l,λr=>rfl,λd aj=>?_⟩;cases aj with
     |rows h1 m=>
      refine⟨_,.arr,?_⟩;rw[<-uf ag h1];exact .arr ty l
   grind
 . split at h
   . rename_i x I;cases h;refine⟨.box _,λr=>rfl,λd aj=>?_⟩;cases aj with
     |box aj=>obtain⟨i,aN,b⟩:=Hf I _ aj;exact⟨.box i,.box aN,.box b⟩
   grind
 . cases h;refine⟨.set _,λr=>rfl,λd aj=>?_⟩;cases aj;exact⟨_,.same,.set _⟩
 . split at h
   . rename_i ek;have:=cR ek;subst this;cases h;refine⟨.buf _ _,λr=>rfl,λd aj=>?_⟩;cases aj;exact⟨_,.same,.buf _ _⟩
   grind
 . split at h
   . rename_i ek;have:=cR ek;subst this;obtain⟨y,f,g⟩:=Fo b3 j h;refine⟨.b1 _ y,λr=>by simp[jg,f];rfl,λd aj=>?_⟩;cases aj with
     |b1 aj=>obtain⟨c,aN,b⟩:=g _ aj;exact⟨.b1 _ c,.b1 aN,.b1 b⟩
   grind
 grind
theorem RP{t:aH}:∀{r:List (List (bo U))} {l:List (t.den U.D)},lr U t r=some l->l.length=r.length
 |[],l,h=>by grind[lr]
 |r::b,l,h=>by
  simp[lr]at h;split at h
  . rename_i x xs I a;cases h;simp[RP a]
  grind
theorem Zr{s:ft}{x y:cM U}{r:eE U}(h:nP bs s x=some a)(b:jg s (a++r)=(some y,r)):∀p,y.db=some p->x.db=some p:=by
 unfold nP at h;split at h
 . grind[jg,cM.db]
 . split at h
   . rename_i l ag;have e:=Cell.jw ag;simp only[jg,u1,j7,uT]at b;grind
   grind
 . split at h
   . rename_i l c ag;have:=cR c;subst this;simp only[jg,u1,j7,uT]at b;grind[cM.db,RP]
   grind
 . split at h
   . cases h;intro p al;simp only[jg,u1,j7,dW,dK,uT]at b;grind[cM.db]
   grind
 . simp only[jg,u1,j7,dW,dK,uT]at b;grind
 . split at h
   . rename_i ek;have:=cR ek;simp only[jg,u1,j7,dW,dK,uT]at b;grind
   grind
 . grind[jg,cM.db]
 grind
theorem ob(b3:bs.Nodup):∀{ss:List ft} {j:Nat} {a:eE U},il bs J j ss=some a->
 (∀i c,aX (gQ j ss a) i=some c->j<=i/\i<j+ss.length/\∃b x,bs[i]?=some b/\aX J b=some x/\∃s d,nP bs s x=some d/\∀r,jg s (d++r)=(some c,r))
 |[],j,a,h=>by grind[gQ,aX]
 |.gone::ss,j,a,h=>by
  intro i c e;simp only[il]at h;obtain⟨h1,g,m⟩:=ob b3 h i c e;grind
 |.box l::ss,j,a,h=>s0 b3 (λ{j a}=>ob b3) (by simpa only[il]using h)
 |.arr l::ss,j,a,h=>s0 b3 (λ{j a}=>ob b3 (a:=a)) (by simpa only[il]using h)
 |.bd l::ss,j,a,h=>s0 b3 (λ{j a}=>ob b3 (ss:=ss) (j:=j) (a:=a)) (by simpa only[il]using h)
 |.set::ss,j,a,h=>s0 b3 (λ{j a}=>ob b3 (ss:=ss) (j:=j) (a:=a)) (by simpa only[il]using h)
 |.buf E::ss,j,a,h=>s0 b3 (λ{j a}=>ob b3 (ss:=ss) (j:=j) (a:=a)) (by simpa only[il]using h)
 |.b1 E l::ss,j,a,h=>s0 b3 (λ{j a}=>ob b3 (ss:=ss) (j:=j) (a:=a)) (by grind[il])
where
 s0 (b3:bs.Nodup) {s:ft} {ss:List ft} (ih:∀{j:Nat} {a:eE U},il bs J j ss=some a->
  (∀i c,aX (gQ j ss a) i=some c->j<=i/\i<j+ss.length/\∃b x,bs[i]?=some b/\aX J b=some x/\∃s d,nP bs s x=some d/\∀r,jg s (d++r)=(some c,r))) {j:Nat} {a:eE U} (h:(match pA bs j with
  |some b=>match aX J b with
   |some x=>match nP bs s x,il bs J (j+1) ss with
    |some a,some r=>some (a++r)
    |_,_=>none
   |none=>none
  |none=>none)=some a):(∀i c,aX (gQ j (s::ss) a) i=some c->j<=i/\i<j+(s::ss).length/\∃b x,bs[i]?=some b/\aX J b=some x/\∃s d,nP bs s x=some d/\∀r,jg s (d++r)=(some c,r)):=by
  intro i c e;split at h
  . rename_i b k;rw[Ck]at k;split at h
    . split at h
      . rename_i a1 a2 h1 g;cases h;obtain⟨y,f,_⟩:=Fp (N:=0) (J:=J) (Jc:=[]) b3 (λ_ _ _ _ h=>by simp[aX]at h) h1;simp only[gQ,f,aX]at e;grind[cR]
      . cases h
    . cases h
  . cases h
def e4(U:cE)(sh:Shape)(a:eE U):bQ U×bf U:=
 match zD sh.env a with
 |(e,r)=>(e,gQ 0 sh.st r)
def CS(bs:aZ)(sh:Shape)(env:bQ U)(J:bf U):Option (eE U):=
 match vy bs env sh.env,il bs J 0 sh.st with
 |some a,some b=>some (a++b)
 |_,_=>none
theorem xK(b3:bs.Nodup){b:eE U}(g:il bs J 0 ss=some b):Can bs J (gQ 0 ss b):=by
 intro j c k a i;obtain⟨_,_,m,x,h1,d,s,l,e,f⟩:=ob b3 g j k i;rw[h1]at a;cases a;exact⟨x,d,Zr e (f [])⟩
theorem wX:∀{r:aZ} {i j c:Nat} {x:bT},r[j]?=some c->aP J1 c=some x->aP (fv bs J1 i r) (i+j)=some (x.bS bs)
 |[],i,j,c,x,h,_=>by grind
 |b::r,i,0,c,x,h,I=>by
  grind[fv,aP]
 |b::r,i,j+1,c,x,h,I=>by
  simp[fv];have:=wX (i:=i+1) (j:=j) (r:=r) (by grind) I;grind[aP]
theorem Bj(b3:bs.Nodup)(aE:cm N J J1){b:eE U}(o:il bs J 0 ss=some b):
 ∃bp,qV (fv bs J1 0 bs) bp/\cm bs.length (gQ 0 ss b) bp:=by
 have E:=xK b3 o;have I:=ob b3 o;generalize gQ 0 ss b=Jc at*;have key:∀(l:bf U),(∀i a,aX l i=some a->aX Jc i=some a)->∃bp:a8,(∀i x,aP bp i=some x->∃y,aP (fv bs J1 0 bs) i=some y/\jO y x)/\(∀i a,aX l i=some a->i<bs.length/\∃y,aP bp i=some y/\hc bs.length Jc a y):=by
  intro l;induction l with
  |nil=>intro _;exact⟨[],λi x h=>by grind[aP],λi x h=>by grind[aX]⟩
  |cons p l ih=>
   obtain⟨d,t⟩:=p;intro ag;have:=by
    have aux:∀(m:bf U),(∀i a,i≠d->aX m i=some a->aX Jc i=some a)->∃bp:a8,(∀i x,aP bp i=some x->∃y,aP (fv bs J1 0 bs) i=some y/\jO y x)/\(∀i a,i≠d->aX m i=some a->i<bs.length/\∃y,aP bp i=some y/\hc bs.length Jc a y):=by
     intro m P;have aj:∀i a,aX (dl m d) i=some a->aX Jc i=some a:=by
      intro i a h;rw[lf]at h;grind
     have build:∀n,∃bp:a8,(∀i x,aP bp i=some x->∃y,aP (fv bs J1 0 bs) i=some y/\jO y x)/\(∀i a,i<n->aX (dl m d) i=some a->i<bs.length/\∃y,aP bp i=some y/\hc bs.length Jc a y):=by
      intro n;induction n with
      |zero=>exact⟨[],λi x h=>by grind[aP],λi x h=>by omega⟩
      |succ n L=>
       obtain⟨s,h1,g⟩:=L;cases aV:aX (dl m d) n with
       |none=>exact⟨s,h1,λi a k c=>g i a (by grind) c⟩
       |some D=>
        obtain⟨_,_,u,x,g1,g2,O,H,g3,g4⟩:=I n D (aj n D aV);obtain⟨_,y,bn,bt⟩:=aE u x g2;obtain⟨z,f,q⟩:=Fp (N:=N) b3 E g3;have:z=D:=(by simp_all);subst this;obtain⟨r,M,w⟩:=q y bt;have ht:=wX (bs:=bs) (i:=0) (j:=n) g1 bn;refine⟨cZ s n r,λi x k=>?_,λi a k c=>?_⟩
        . grind[cQ]
        . by_cases e:i=n
          . subst e;rw[aV]at c;cases c;exact⟨(dL.1 g1).1,r,by rw[cQ,ai rfl],w⟩
          . obtain⟨A,z,B,C⟩:=g i a (by omega) c;exact⟨A,z,by rw[cQ,av (λv=>e v.symm)];exact B,C⟩
     obtain⟨s,h1,g⟩:=build bs.length;refine⟨s,h1,λi a G c=>?_⟩;have F:aX (dl m d) i=some a:=by rw[lf,av (λe=>G e.symm)];exact c
     grind
    exact aux l λi a G h=>ag i a (by
     grind[aX,cR])
   obtain⟨s,h1,g⟩:=this;have K:aX Jc d=some t:=ag d t (by simp[aX,Nat.beq_refl]);obtain⟨_,_,u,x,g1,g2,O,H,g3,g4⟩:=I d t K;obtain⟨_,y,bn,bt⟩:=aE u x g2;obtain⟨z,f,q⟩:=Fp (N:=N) b3 E g3;have:z=t:=(by simp_all);subst this;obtain⟨r,M,w⟩:=q y bt;have ht:=wX (bs:=bs) (i:=0) (j:=d) g1 bn;refine⟨cZ s d r,λi x k=>?_,λi a c=>?_⟩
   . rw[cQ]at k;grind
   . by_cases e:i=d
     . subst e;simp[aX,Nat.beq_refl]at c;subst c;exact⟨(dL.1 g1).1,r,by rw[cQ,ai rfl],w⟩
     . have F:aX l i=some a:=by
        simp only[aX]at c;cases o:Nat.beq d i with
        |true=>exact absurd (cR o).symm e
        |false=>rw[o]at c;exact c
       obtain⟨A,z,B,C⟩:=g i a e F;exact⟨A,z,by rw[cQ,av (λv=>e v.symm)];exact B,C⟩
 obtain⟨s,h1,g⟩:=key Jc λ_ _ h=>h;exact⟨s,λi x k=>h1 i x k,λi a c=>g i a c⟩
theorem Zl(b3:bs.Nodup)(j:keeps kk bs=true)(he:cS N J (λ_=>true) env env1)(aE:cm N J J1){sh:Shape}(h:CS bs sh env J=some a):
 ∃c bp,Conv kk N env1 J1 bs.length c bp/\cS bs.length (e4 U sh a).2 (λ_=>true) (e4 U sh a).1 c/\cm bs.length (e4 U sh a).2 bp:=by
 unfold CS at h;split at h
 . rename_i a1 b h1 d;cases h;obtain⟨e,f,c,aN,m⟩:=Rc b3 (xK b3 d) he h1;obtain⟨bp,s1,l⟩:=Bj b3 aE d;have i:e4 U sh (a1++b)=(e,gQ 0 sh.st b):=(by grind[e4]);rw[i];refine⟨c,bp,(Conv.tidy (sh.env.map Prod.fst) bs b3 j).trans (Conv.weaken (λk g n ag=>?_) s1),aN,l⟩;grind[FC]
 grind
end
end
section
open Go
variable {U:cE}
def e'(D:Nat->Type):aH->List aH->Type
 |t,[]=>t.den D
 |t,u::r=>t.den D×e' D u r
def aJ(D:Nat->Type):List aH->Type
 |[]=>Unit
 |t::r=>e' D t r
def e'.cells(D:Nat->Type):(t:aH)->(ts:List aH)->e' D t ts->List (Cell D)
 |t,[],x=>[⟨t,x⟩]
 |t,u::r,x=>⟨t,x.1⟩::e'.cells D u r x.2
def aJ.cells(D:Nat->Type):(ts:List aH)->aJ D ts->List (Cell D)
 |[],_=>[]
 |t::r,x=>e'.cells D t r x
def Dk{α:Type}:List α->Option α
 |[c]=>some c
 |_=>none
def tg{α:Type}:List α->Option (α×List α)
 |[]=>none
 |c::r=>some (c,r)
def e'.dec(D:Nat->Type):(t:aH)->(ts:List aH)->List (Cell D)->Option (e' D t ts)
 |t,[],l=>match Dk l with
  |some c=>c.as t
  |none=>none
 |t,u::r,l=>match tg l with
  |some p=>match p.1.as t with
   |some x=>match e'.dec D u r p.2 with
    |some y=>some (x,y)
    |none=>none
   |none=>none
  |none=>none
def aJ.dec(D:Nat->Type):(ts:List aH)->List (Cell D)->Option (aJ D ts)
 |[],l=>match l with
  |[]=>some ()
  |_=>none
 |t::r,l=>e'.dec D t r l
variable{α:Type}{D:Nat->Type}{J:bf U}{N:Nat}{c:α×List α}
theorem Yd{l:List α}{c:α}(h:Dk l=some c):l=[c]:=by
 unfold Dk at h;grind
theorem Zs{l:List α}(h:tg l=some c):l=c.1::c.2:=by
 unfold tg at h;grind
theorem e'.fa:∀{ts:List aH} {t:aH} {a:List (Cell D)} {h:e' D t ts},e'.dec D t ts a=some h->e'.cells D t ts h=a
 |[],t,a,h,e=>by
  unfold e'.dec at e;split at e
  . rename_i c f;rw[Yd f,Cell.jw e];rfl
  grind
 |u::r,t,a,h,e=>by
  unfold e'.dec at e;split at e
  . split at e
    . rename_i x I;split at e
      . rename_i y ak;cases e;have:=e'.fa ak;show⟨t,x⟩::e'.cells D u r y=a;grind[Zs,Cell.jw]
      grind
    grind
  grind
theorem aJ.fa:∀{ts:List aH} {a:List (Cell D)} {h:aJ D ts},aJ.dec D ts a=some h->aJ.cells D ts h=a
 |[],[],h,e=>rfl
 |[],_::_,h,e=>by cases (show none=some h from e)
 |t::r,a,h,e=>e'.fa e
def e'.jD(U:cE):(t:aH)->(ts:List aH)->e' U.D t ts
 |t,[]=>t.jD U
 |t,u::r=>(t.jD U,e'.jD U u r)
def aJ.jD(U:cE):(ts:List aH)->aJ U.D ts
 |[]=>()
 |t::r=>e'.jD U t r
abbrev jv:=List (Nat×Nat)×List (Nat×aH)
def D8:jR->bo U->jv->jv
 |.ptr j _,.ptr b _,s=>((j,b)::s.1,s.2)
 |.cH j _ _,.cH b _ _ _,s=>((j,b)::s.1,s.2)
 |.arr j,.arr b,s=>((j,b)::s.1,s.2)
 |.mp j,.mp b,s=>((j,b)::s.1,s.2)
 |.cj j,.cj b,s=>((j,b)::s.1,s.2)
 |.fn _ a,.fn _ cs,s=>(a.zip cs++s.1,s.2)
 |.hole (.slice t),.arr b,s=>(s.1,(b,t)::s.2)
 |_,_,s=>s
def D9:List jR->List (bo U)->jv->jv
 |a::as,x::xs,s=>D9 as xs (D8 a x s)
 |_,_,s=>s
def Ce:List aH->List (bo U)->jv->jv
 |.slice t::ts,.arr b::xs,s=>Ce ts xs (s.1,(b,t)::s.2)
 |_::ts,_::xs,s=>Ce ts xs s
 |_,_,s=>s
mutual
def Ea:eJ->bF U->jv->jv
 |.c a,.c x,s=>D8 a x s
 |.agg l,.agg xs,s=>D9 l xs s
 |.row n,.agg xs,s=>Ce (U.dh n) xs s
 |.ba l,.ba xs,s=>Cf l xs s
 |_,_,s=>s
def Cf:List eJ->List (bF U)->jv->jv
 |a::as,x::xs,s=>Cf as xs (Ea a x s)
 |_,_,s=>s
end
def D'(env:bQ U):List (Nat×eJ)->jv->jv
 |[],s=>s
 |(k,a)::r,s=>match aX env k with
  |some x=>D' env r (Ea a x s)
  |none=>D' env r s
def aev:ft->cM U->jv->jv
 |.box l,.box xs,s=>D9 l xs s
 |.bd n,.box xs,s=>Ce (U.dh n) xs s
 |.b1 _ a,.b1 _ x,s=>D8 a x s
 |_,_,s=>s
def u7(J:bf U)(kk:Nat):Nat->List ft->jv->aZ->aZ×List (Nat×aH)
 |_,[],s,acc=>(acc.reverse,s.2)
 |j,a::r,s,acc=>
  let b:=match aX s.1 j with
   |some b=>b
   |none=>match Nat.ble (j+1) kk with
    |true=>j
    |false=>1000000+j
  match aX J b with
  |some x=>u7 J kk (j+1) r (aev a x s) (b::acc)
  |none=>u7 J kk (j+1) r s (b::acc)
def r':aZ->Bool
 |[]=>true
 |a::l=>(l.all λb=>!(Nat.beq a b))&&r' l
theorem wY:∀{l:aZ},r' l=true->l.Nodup
 |[],_=>uP
 |a::l,h=>by
  simp[r']at h;refine List.nodup_cons.2 ⟨λb=>?_,wY h.2⟩;have c:=h.1 a b;simp_all
def ml(kk:Nat)(own:List (Pos×aH))(sh:Shape)(ts:List aH)(env:bQ U)(J:bf U)(N:Nat):Option (aJ U.D ts):=
 match CA own env J N with
 |none=>none
 |some (env,J,_)=>match G4 env J with
  |none=>none
  |some (env,J)=>match u7 J kk 0 sh.st (D' env sh.env ([],[])) []with
   |(bs,b)=>match jN b env J with
    |none=>none
    |some (env,J)=>match r' bs&&(keeps kk bs&&Nat.beq bs.length sh.st.length)with
     |false=>none
     |true=>match CS bs sh env J with
      |none=>none
      |some a=>aJ.dec U.D ts a
section
variable {kk N:Nat}{J:bf U}{J1:a8}{env:bQ U}{env1:Env}
theorem uD{own:List (Pos×aH)}{sh:Shape}{ts:List aH}{h:aJ U.D ts}(I:ml kk own sh ts env J N=some h)(he:cS N J (λ_=>true) env env1)(aE:cm N J J1)(u:kk<=N):
 ∃b bp,Conv kk N env1 J1 sh.st.length b bp/\cS sh.st.length (e4 U sh (aJ.cells U.D ts h)).2 (λ_=>true) (e4 U sh (aJ.cells U.D ts h)).1 b/\cm sh.st.length (e4 U sh (aJ.cells U.D ts h)).2 bp/\kk<=sh.st.length:=by
 unfold ml at I;split at I
 . grind
 . rename_i B J2 z h1;obtain⟨dc,sC,d,q,g,cr⟩:=Ra h1 he aE u;split at I
   . grind
   rename_i C x p;obtain⟨aN,s1,e,r,i⟩:=We p q g;have c1:=d.trans e;split at I;rename_i bs F _;split at I
   . grind
   . rename_i E y f;obtain⟨A,K,c2,s,j,_⟩:=tU (kk:=kk) (gl:=[]) f r i;split at I
     . grind
     . rename_i c;simp only[cO]at c;obtain⟨m,n,o⟩:=c;have v:=cR o;split at I
       . grind
       . rename_i a l;obtain⟨dw,w,c3,t,k⟩:=Zl (wY m) n s j l;rw[aJ.fa I,<-v];refine⟨dw,w,c1.trans (c2.trans c3),t,k,?_⟩;by_cases G:kk=0
         . omega
         . have H:(bs[kk-1]?==some (kk-1))=true:=by
            grind[keeps]
           grind
end
structure cA (U:cE) where
 f:Nat
 fh:List eJ
 st:List ft
 ts:List aH
 eD:eJ
 eA:List ft
 us:List aH
 F:aJ U.D ts->Option (aJ U.D us)
def cA.args(s:cA U)(h:aJ U.D s.ts):List (bF U):=(jG s.fh (aJ.cells U.D s.ts h)).1
def cA.hS(s:cA U)(h:aJ U.D s.ts):bf U:=gQ 0 s.st (jG s.fh (aJ.cells U.D s.ts h)).2
def cA.res(s:cA U)(r:aJ U.D s.us):bF U:=(k' s.eD (aJ.cells U.D s.us r)).1
def cA.rest(s:cA U)(r:aJ U.D s.us):bf U:=gQ 0 s.eA (k' s.eD (aJ.cells U.D s.us r)).2
def gT(P:Program)(s:cA U):Prop:=
 ∀h r,s.F h=some r->∀a J1,a6 (bR s.st.length (s.hS h)) (s.args h) a->cm s.st.length (s.hS h) J1->
  dY P s.f a J1 s.st.length (λb bp N'=>N'=s.eA.length/\bR N' (s.rest r) (s.res r) b/\cm N' (s.rest r) bp)
def bo.qD:bo U->Bool
 |.t _|.dF .. |.aT|.eU|.eT=>true
 |.fn _ []=>true
 |_=>false
def gn:bF U->Bool
 |.c x=>x.qD
 |.agg cs=>cs.all bo.qD
 |.ba vs=>go vs
where go:List (bF U)->Bool
 |[]=>true
 |v::vs=>gn v&&go vs
def bo.nQ:bo U->C
 |.t c=>.t (c.enc U)
 |.dF ty x o=>.dF (ty.enc U x) o
 |.aT=>.aT
 |.eU=>.eU
 |.eT=>.eT
 |.fn f caps=>.fn f caps
 |_=>.dead
def fx:bF U->V
 |.c x=>.c x.nQ
 |.agg cs=>.agg (cs.map bo.nQ)
 |.ba vs=>.ba (go vs)
where go:List (bF U)->List V
 |[]=>[]
 |v::vs=>fx v::go vs
theorem xC{x:bo U}(h:x.qD=true):b8 N J x x.nQ/\(∀d,b8 N J x d->d=x.nQ)/\∀n,x.nQ.aA n=true:=by
 cases x<;>simp[bo.qD]at h
 . exact⟨.t _,λd aj=>by cases aj;rfl,λ_=>rfl⟩
 . exact⟨.dF _ _ _,λd aj=>by cases aj;rfl,λ_=>rfl⟩
 . exact⟨.aT,λd aj=>by cases aj;rfl,λ_=>rfl⟩
 . exact⟨.eU,λd aj=>by cases aj;rfl,λ_=>rfl⟩
 . exact⟨.eT,λd aj=>by cases aj;rfl,λ_=>rfl⟩
 . rename_i f caps;cases caps with
   |nil=>exact⟨.fn _ _,λd aj=>by cases aj;rfl,λ_=>rfl⟩
   |cons=>grind
theorem E6:∀{vs:List (bF U)} {i:Nat},(fx.go vs)[i]?=(vs[i]?).map fx
 |[],i=>by rfl
 |v::vs,0=>by rfl
 |v::vs,i+1=>by simp[fx.go,E6]
theorem QX:∀{vs:List (bF U)},(fx.go vs).length=vs.length
 |[]=>rfl
 |v::vs=>by simp[fx.go,QX]
theorem QI:∀{vs:List (bF U)} {i:Nat} {v:bF U},gn.go vs=true->vs[i]?=some v->gn v=true
 |[],i,v,_,h=>by grind
 |x::vs,0,v,hs,h=>by grind[gn.go]
 |x::vs,i+1,v,hs,h=>by simp[gn.go]at hs;exact QI hs.2 (by simpa using h)
theorem aux:∀(cs:List (bo U)),(∀x,x∈cs->x.qD=true)->a6 (b8 N J) cs (cs.map bo.nQ)
 |[],_=>.nil
 |a::l,h=>.cons (xC (h a (by simp))).1 (aux l λx I=>h x (by grind))
theorem ui{N:Nat}{J:bf U}:∀{x:bF U},gn x=true->bR N J x (fx x)/\∀n,(fx x).aA n=true
 |.c x,h=>by
  obtain⟨h1,_,a⟩:=xC h;exact⟨.c h1,λn=>a n⟩
 |.agg cs,h=>by
  simp[gn]at h;refine⟨.agg ?_,λn=>?_⟩
  . grind[aux]
  . simp[fx,V.aA];intro c b;exact(xC (N:=N) (J:=J) (h c b)).2.2 n
 |.ba vs,h=>by
  have:=go (N:=N) (J:=J) vs h;refine⟨.ba _ _ (by rw[QX]) λi x d I aj=>?_,λn=>?_⟩
  . grind[E6]
  grind[fx,V.aA]
where go {N:Nat} {J:bf U}:∀(vs:List _),gn.go vs=true->(∀x,x∈vs->bR N J x (fx x))/\∀n,V.aA.V.dr n (fx.go vs)=true
 |[],_=>⟨by simp,λ_=>rfl⟩
 |v::vs,h=>by
  simp[gn.go,cO]at h;obtain⟨h1,e⟩:=ui (N:=N) (J:=J) h.1;obtain⟨a,f⟩:=go (N:=N) (J:=J) vs h.2;simp_all[fx.go,V.aA.V.dr]
theorem xD{x:bF U}{d:V}(h:bR N J x d):gn x=true->d=fx x:=by
 induction h with
 |c h=>intro hs;rw[(xC hs).2.1 _ h];rfl
 | @agg xs a h=>
  intro hs;simp[gn]at hs
  congr 1
  induction h with
  |nil=>rfl
  |cons h1 b ih=>rw[l6,<-(xC (hs _ (by simp))).2.1 _ h1,<-ih (λx I=>hs x (by grind))]
 |ba xs a ag h ih=>
  intro hs
  congr 1
  apply uY;intro i;rw[E6];cases I:xs[i]? with
  |none=>grind
  |some x=>
   have e:=(dL.1 I).1;have aj:=df (l:=a) (i:=i) (by omega);rw[aj]
   congr 1
   exact ih i x _ I aj (QI hs I)
end
section
open Go
variable {U:cE}
variable{K:Env->a8->Prop}{f:Nat->Nat}
section
variable {P:Program}{nt kk key N N':Nat}{env:Env}{J J':a8}{Q mq:Exit->Env->a8->Nat->Prop}
def KE(P:Program)(f:Nat)(args:List V)(J:a8)(key:Nat)(env:Env)(K:V->a8->Prop):Prop:=
 ∀au nt φ S a w,Rel au nt φ S env J (lt key) a w->V.aA.V.dr (lt key) args=true->∀vs:List Value,a6 (b2 φ w S) args vs->
  Calls P f vs.toArray w λe w'=>∃v r bg bj J',e= .returned v/\K r J'/\b2 bg w' bj r v/\r.aA (ep (lt key) key)=true/\Rel au nt bg bj env J' (ep (lt key) key) a w'
def aa7(P:Program)(o:b5)(env:Env)(f:Nat)(vs:List V):Prop:=
 (∃args p,o.op= .call f args/\gW env args=some (p,vs)/\p)\/
 (∃x args q p caps a,o.op= .hD x args/\x.get env=some (q,.c (.fn f caps))/\q/\gW env args=some (p,a)/\p/\gL P f=true/\vs=a++caps.map λb=>V.c (.ptr b 0))
def vz(P:Program)(o:b5)(key:Nat)(env:Env)(J:a8)(K:Env->a8->Prop):Prop:=
 gK P o key env J K\/(fO env o.guard=some true/\∃f vs,aa7 P o env f vs/\KE P f vs J key env λr J'=>K (ee env o.dst true r) J')
def mu(P:Program)(kk:Nat):List b5->Nat->Env->a8->(Env->a8->Prop)->Prop
 |[],_,env,J,K=>K env J
 |o::r,key,env,J,K=>∃fb a,Conv kk key env J key fb a/\vz P o key fb a λe s=>mu P kk r (key+16) e s K
theorem E7{au:Ctx}{φ:c0}{S:c6}{a:Act}{w:World}(R:Rel au nt φ S env J (lt key) a w){ops:Array Oper}{o:Oper}{r:b5}(A:uB P nt ops o=some r)(h:vz P r key env J K){Q:Exit->Act->World->Prop}:
 if Region.wanted o (yielded ops a.tmps)then o.wp P a w (i' au nt (ep (lt key) key) K) Q else i' au nt (ep (lt key) key) K (a.put o.dst undef) w:=by
 rcases h with h|⟨ao,f,vs,G,y⟩
 . exact Bn R (λb h1 _=>yd h1) A h
 . obtain⟨h1,d,s,u⟩:=PW A;have O:=RE R d ao;rw[O];rcases G with⟨args,p,m,l,al⟩|⟨x,args,q,p,caps,E,m,M,N,l,al,g,rfl⟩
   . rw[m]at h1;obtain⟨c,j,n⟩:=PQ (wu h1 (by simp) (by simp));obtain⟨k,g,e⟩:=PR n;have B:=rM (w:=w) (a:=a) j k rfl g;simp at B;obtain⟨g1,g2⟩:=pS R e l al;exact Calls.next s u rfl (λ_ _ h=>h) (y au nt φ S a w R g2 _ g1) B
   . rw[m]at h1;obtain⟨c,j,n⟩:=PI (wu h1 (by simp) (by simp));obtain⟨t,rfl,k,e⟩:=PJ n;obtain⟨g1,g2⟩:=pS R e l al;have I:=cn (x:= .tmp t) R rfl M N;have T:=I.1.dJ;have H:a6 (b2 φ w S) (caps.map λb=>V.c (.ptr b 0)) (caps.map λb=>Value.pointer (some ⟨(φ b).1,0,none⟩)):=by
      refine a6.kM (by simp) ?_;intro i v x h1 d;simp at h1 d;obtain⟨b,F,rfl⟩:=h1;obtain⟨U,z,rfl⟩:=d;rw[F]at z;cases z;exact .c rfl
     have L:V.aA.V.dr (lt key) (E++caps.map λb=>V.c (.ptr b 0))=true:=by
      refine rE ?_;intro i v D;by_cases W:i<E.length
      . grind[lR]
      . rw[x4 (by omega)]at D;simp only[qv,bx]at D;grind[V.aA,C.aA]
     exact Calls.next s u rfl (λ_ _ h=>h) (y au nt φ S a w R L _ (g1.append H)) (rM j k T g)
theorem HF{au:Ctx}(g:au.k=kk){ops:Array Oper}{Q:Exit->Act->World->Prop}{K:Env->a8->Nat->Prop}:∀{l:List Oper} {a':List b5} {k N:Nat} {env:Env} {J:a8} {φ:c0} {S:c6} {a:Act} {w:World},gA P nt ops l=some a'->(∀i:Nat,i<l.length->l[i]?=ops[k+i]?)->
 Rel au nt φ S env J (lt N) a w->mu P kk a' N env J (λe s=>K e s (N+16*a'.length))->(∀φ S e s N a w,K e s N->Rel au nt φ S e s (lt N) a w->Q .normal a w)->wpOps P ops Q (List.range' k l.length) a w
 |[],a',k,N,env,J,φ,S,a,w,b,f,R,h,d=>by
  simp[gA]at b;subst b;exact d _ _ _ _ _ _ _ h R
 |o::l,a',k,N,env,J,φ,S,a,w,b,f,R,h,d=>by
  simp[gA,bk,bx]at b;obtain⟨r,m,c,n,rfl⟩:=b;have t:ops[k]?=some o:=by have:=f 0 (by simp);grind
  rw[kJ,xW,wpOps_cons];unfold wpOp;obtain⟨fb,q,p,u⟩:=h;obtain⟨v,vr,j⟩:=p au nt φ S a w g R;have hs:=E7 j m (K:=λe s=>mu P kk _ _ e s λe s=>K e s (N+16*(c.length+1))) (by omega) (Q:=Q);have next:∀b4 w',i' au nt (ep (lt N) N) (λe s=>mu P kk c (N+16) e s λe s=>K e s (N+16*(c.length+1))) b4 w'->wpOps P ops Q (List.range' (k+1) l.length) b4 w':=by
   rintro b4 w' ⟨bg,bj,e,s,bE,R'⟩
   refine HF g n (λi aF=>?_) (R'.more λ_ h=>B2 h) ?_ d
   . have:=f (i+1) (by grind);grind
   grind
  split at hs
  . grind[Oper.wp_mono]
  grind
theorem cl.aeo{a':List b5}(h:mu P kk a' N env J (λe s=>Q .normal e s (N+16*a'.length))):cl P nt kk (.region a') env J N Q:=by
 intro code f au φ S a w g R;obtain⟨id,ops,rfl,j⟩:=QV f;refine wp_region ?_;have:=HF g (Q:=λe b4 w'=>∃bg bj env' J' N',Q e env' J' N'/\Rel au nt bg bj env' J' (lt N') b4 w') (k:=0) j (λi o=>by simp) R h
  (λφ S e s N a w bE c=>⟨φ,S,e,s,N,bE,c⟩)
 grind[List.range_eq_range']
theorem dY.conv{f k:Nat}{args o:List V}{Q:V->a8->Nat->Prop}(q:a6 gj args o)(hs:qV J J')(h:dY P f o J' k Q):dY P f args J k Q:=by
 intro φ S w B j t G A vs E;refine h φ S w B ⟨λb x I=>?_,λb p x y I ak=>?_,j.st⟩ (λb x I=>?_) (λb x I=>?_) ?_ vs ?_
 . obtain⟨g,h1,e⟩:=hs b x I;exact e.DS (j.blk b g h1)
 . obtain⟨g,h1,e⟩:=hs b x I;obtain⟨F,bn,bt⟩:=hs p y ak;exact j.inj b p g F h1 bn
 . obtain⟨g,h1,e⟩:=hs b x I;exact⟨(t b g h1).1,e.aA _ (t b g h1).2⟩
 . obtain⟨g,h1,e⟩:=hs b x I;grind
 . refine rE λi v D=>?_;obtain⟨v0,h1,e⟩:=(q.flip λ_ _ h=>h).get D;exact e.aA _ (lR A h1)
 . exact a6.comp (λa b c h1 e=>h1.DV e) (q.flip λ_ _ h=>h) E
theorem dY.mono{f k:Nat}{args:List V}{Q mq:V->a8->Nat->Prop}(h:dY P f args J k Q)(g:∀r s n,Q r s n->mq r s n):dY P f args J k mq:=by
 intro φ S w B h1 a c e vs bh;refine(h φ S w B h1 a c e vs bh).mono ?_;grind
theorem dY.tidy{f k:Nat}{args:List V}{Q mq:V->a8->Nat->Prop}(h:dY P f args J k Q)
 (R:∀r J' N',Q r J' N'->∃bs t J2,bs.Nodup/\keeps k bs=true/\gj (r.bS bs) t/\qV (fv bs J' 0 bs) J2/\mq t J2 bs.length):dY P f args J k mq:=by
 intro φ S w B h1 K L M vs bh;refine(h φ S w B h1 K L M vs bh).mono ?_
 rintro e w' ⟨v,r,bg,bj,J',N',he,N,bn,bt,bY,cw,cW,dm,gq⟩
 obtain⟨bs,t,J2,b3,an,H,hs,O⟩:=R r J' N' N;have am:∀i:Nat,i<k->bs[i]?=some i:=by
  grind[keeps]
 let D:c0:=λi=>bg ((bs[i]?).getD 0);have q:∀(i:Nat) b,bs[i]?=some b->D i=bg b:=by intro i b h;simp[D,h]
 have p:∀b x,aP (fv bs J' 0 bs) b=some x->∃c a,bs[b]?=some c/\aP J' c=some a/\x=a.bS bs:=by
  grind[od]
 have U:∀(a:bT),(a.bS bs).aA (lt bs.length)=true:=by
  intro a;cases a with
  |box cs=>grind[bT.bS,bT.aA,List.all_eq_true,C.jn]
  |arr sz es=>rfl
  |set ks=>rfl
  |buf E s=>rfl
  |b1 E c=>exact C.jn c
  |cx sz es i o c=>exact C.jn c
 refine⟨v,t,D,bj,J2,bs.length,he,O,H.DV (b2.bS q bn),H.aA _ (V.jn r),⟨λb x I=>?_,λb A x y I ak ap h0 G=>?_,bY.st⟩,λb x I=>?_,cW,λb x I h0=>?_,λb g=>?_⟩
 . obtain⟨y,ak,g⟩:=hs b x I;obtain⟨c,a,aN,j,rfl⟩:=p b y ak;exact g.DS (cU.bS q aN (bY.blk c a j))
 . obtain⟨Z,W,_⟩:=hs b x I;obtain⟨ag,X,_⟩:=hs A y ak;obtain⟨c,a,aN,j,_⟩:=p b Z W;obtain⟨F,Y,f1,f2,_⟩:=p A ag X;rw[q b c aN]at h0⊢;rw[q A F f1]at G⊢;refine bY.inj c F a Y j f2 ?_ h0 G;have:=lV b3 aN;grind[lV]
 . obtain⟨y,ak,g⟩:=hs b x I;obtain⟨c,a,aN,j,rfl⟩:=p b y ak;exact⟨(dL.1 aN).1,g.aA _ (U a)⟩
 . obtain⟨y,ak,g⟩:=hs b x I;grind
 grind
end
def bo.b'(f:Nat->Nat):bo U->bo U
 |.ptr b o=>.ptr (f b) o
 |.cH b ty i o=>.cH (f b) ty i o
 |.arr b=>.arr (f b)
 |.sub b a len=>.sub (f b) a len
 |.pre b h=>.pre (f b) h
 |.gG b a len=>.gG (f b) a len
 |.mp b=>.mp (f b)
 |.en b=>.en (f b)
 |.cj b=>.cj (f b)
 |.fn g caps=>.fn g (caps.map f)
 |x=>x
def bF.b'(f:Nat->Nat):bF U->bF U
 |.c x=>.c (x.b' f)
 |.agg cs=>.agg (cs.map (bo.b' f))
 |.ba vs=>.ba (go f vs)
where go (f:Nat->Nat):List (bF U)->List (bF U)
 |[]=>[]
 |v::vs=>v.b' f::go f vs
def cM.b'(f:Nat->Nat):cM U->cM U
 |.box cs=>.box (cs.map (bo.b' f))
 |.arr ty l=>.arr ty l
 |.rows sz r=>.rows sz r
 |.set ks=>.set ks
 |.buf E s=>.buf E s
 |.b1 E c=>.b1 E (c.b' f)
 |.cx t l i o c=>.cx t l i o (c.b' f)
def Cx(J:bf U):aZ->bf U
 |[]=>J
 |b::r=>dl (Cx J r) b
def mj(J:bf U)(bs:aZ)(f:Nat->Nat):bf U->bf U
 |[]=>Cx J bs
 |(b,x)::r=>cD (mj J bs f r) (f b) (x.b' f)
def nD(J Jr:bf U):Nat->aZ->Option Bool
 |_,[]=>some true
 |i,b::r=>match aX Jr i with
  |none=>nD J Jr (i+1) r
  |some d=>match aX J b with
   |none=>none
   |some x=>match d.db with
    |none=>nD J Jr (i+1) r
    |some a=>match x.db with
     |none=>none
     |some p=>match Nat.beq a.1 p.1,nD J Jr (i+1) r with
      |true,some c=>some (decide (a.2=p.2)&&c)
      |_,_=>none
section
variable {key N':Nat}{J Jr:bf U}{J1 Mh:a8}{bs:aZ}
theorem Iy:∀{bs:aZ} {b:Nat},aX (Cx J bs) b=if b∈bs then none else aX J b
 |[],b=>by rfl
 |c::r,b=>by
  simp[Cx,lf,Iy];grind
theorem q':∀{d:bf U} {c:Nat} {x:cM U},aX (mj J bs f d) c=some x->(∃b a,c=f b/\aX d b=some a/\x=a.b' f)\/(c ∉ bs/\aX J c=some x)
 |[],c,x,h=>by
  grind[mj,Iy]
 |(b,y)::r,c,x,h=>by
  simp[mj,gR]at h;split at h
  . grind[aX,Nat.beq_refl]
  . rcases q' h with⟨e,a,h1,g,i⟩|h
    . grind[aX,cR]
    grind
theorem ye(b3:bs.Nodup)(aF:∀b,b∈bs->b<key){i j:Nat}(h:back bs key i=back bs key j):i=j:=by
 unfold back at h;cases d:bs[i]? with
 |some b=>
  rw[d]at h;have e:=aF b (eV d);cases a:bs[j]? with
  |some c=>
   rw[a]at h;simp at h;subst h;have:=lV b3 d;rw[lV b3 a]at this;grind
  |none=>grind
 |none=>
  cases a:bs[j]? with
  |some c=>
   have e:=aF c (eV a);grind
  |none=>grind
theorem QJ(g:∀i j,f i=f j->i=j):∀{a:a8} {b:Nat} {x:bT},aP a b=some x->aP (gN J1 bs f a) (f b)=some (x.b' f)
 |[],b,x,h=>by grind[aP]
 |(c,y)::r,b,x,h=>by
  simp[gN,cQ];simp[aP]at h;by_cases d:c=b
  . grind
  . rw[av d]at h;rw[av (λe=>d (g _ _ e))];exact QJ g h
theorem Q7{c:Nat}(e:c ∉ bs)(a:∀b,f b≠c):∀{d:a8},aP (gN J1 bs f d) c=aP J1 c
 |[]=>by grind[gN,pX]
 |(b,y)::r=>by
  simp[gN,cQ];rw[av (a b)];exact Q7 e a
theorem cM.wA{x:cM U}:(x.b' f).db=x.db:=by cases x<;>rfl
theorem RQ:∀{l:aZ} {f:Nat} {c:Bool},nD J Jr f l=some c->c=true->∀(j b:Nat) d,l[j]?=some b->aX Jr (f+j)=some d->∃x,aX J b=some x/\∀p,d.db=some p->x.db=some p
 |[],f,c,h,m,j,b,d,n,I=>by grind
 |a::l,f,c,h,m,j,b,d,n,I=>by
  simp[nD]at h;have next:∀{g},nD J Jr (f+1) l=some g->g=true->∀i,j=i+1->∃x,aX J b=some x/\∀p,d.db=some p->x.db=some p:=by
   intro g h1 k i e;exact RQ h1 k i b d (by grind) (by grind)
  cases j with
  |zero=>
   grind[cR]
  |succ j=>
   split at h
   . grind
   grind
variable (b3:bs.Nodup)(aF:∀b,b∈bs->b<key)(cr:N'<=bs.length+16)(aE:cm key J J1)
include b3 aF cr aE in
theorem b8.b'{x:bo U}{d:C}(h:b8 N' Jr x d):b8 (key+16) (mj J bs (back bs key) Jr) (x.b' (back bs key)) (d.b' (back bs key)):=by
 cases h with
 |t c=>exact b8.t c
 |ptr b o=>exact b8.ptr _ o
 |cH b t i o=>exact b8.cH _ t i o
 |dF t x o=>exact b8.dF t x o
 |arr b sz n q h=>
  have e:back bs key b<key+16:=by
   unfold back;cases g:bs[b]? with
   |some c=>simp;have:=aF c (eV g);omega
   |none=>grind
  refine b8.arr _ sz n e λx I p al=>?_;rcases q' I with⟨j,y,h1,a,rfl⟩|⟨h1,a⟩
  . grind[ye,cM.wA]
  . have v:=(aE _ _ a).1;grind[back]
 |sub b w len=>exact b8.sub _ w _
 |pre b sz n q h=>
  have e:back bs key b<key+16:=by
   unfold back;cases g:bs[b]? with
   |some c=>simp;have:=aF c (eV g);omega
   |none=>grind
  refine b8.pre _ sz n e λx I p al=>?_;rcases q' I with⟨j,y,h1,a,rfl⟩|⟨h1,a⟩
  . grind[ye,cM.wA]
  . have v:=(aE _ _ a).1;grind[back]
 |gG b sz w len q h=>
  have e:back bs key b<key+16:=by
   unfold back;cases g:bs[b]? with
   |some c=>simp;have:=aF c (eV g);omega
   |none=>grind
  refine b8.gG _ sz w _ e λx I p al=>?_;rcases q' I with⟨j,y,h1,a,rfl⟩|⟨h1,a⟩
  . grind[ye,cM.wA]
  . have v:=(aE _ _ a).1;grind[back]
 |mp b=>exact b8.mp _
 |en b=>exact b8.en _
 |cj b n q h=>
  have e:back bs key b<key+16:=by
   unfold back;cases g:bs[b]? with
   |some c=>simp;have:=aF c (eV g);omega
   |none=>grind
  refine b8.cj _ n e λx I p al=>?_;rcases q' I with⟨j,y,h1,a,rfl⟩|⟨h1,a⟩
  . grind[ye,cM.wA]
  . have v:=(aE _ _ a).1;grind[back]
 |aT=>exact .aT
 |eU=>exact .eU
 |eT=>exact .eT
 |fn f caps=>exact b8.fn f _
 |dead d=>exact .dead _
theorem HG:∀{vs:List (bF U)} {i:Nat},(bF.b'.go f vs)[i]?=(vs[i]?).map (bF.b' f)
 |[],i=>by rfl
 |v::vs,0=>by rfl
 |v::vs,i+1=>by simp[bF.b'.go,HG]
theorem Q8:∀{vs:List (bF U)},(bF.b'.go f vs).length=vs.length
 |[]=>rfl
 |v::vs=>by simp[bF.b'.go,Q8]
include b3 aF cr aE in
theorem bR.b'{x:bF U}{d:V}(h:bR N' Jr x d):bR (key+16) (mj J bs (back bs key) Jr) (x.b' (back bs key)) (d.b' (back bs key)):=by
 induction h with
 |c h=>exact .c (b8.b' b3 aF cr aE h)
 |agg h=>exact .agg (a6.map_map (h.imp λ_ _ _ aa=>b8.b' b3 aF cr aE aa))
 |ba xs a ag h ih=>
  refine .ba _ _ (by grind[Q8,Fy]) ?_;grind[HG,Gi]
include b3 aF aE in
theorem BA(aj:nD J Jr 0 bs=some true):c' key J (key+16) (mj J bs (back bs key) Jr):=by
 refine⟨by simp,λc x g I=>?_⟩;rcases q' I with⟨b,e,h1,d,rfl⟩|⟨h1,d⟩
 . unfold back at h1;cases a:bs[b]? with
   |some f=>
    rw[a]at h1;subst h1;obtain⟨x,bn,bt⟩:=RQ aj rfl b c e a (by grind);grind[cM.wA]
   |none=>grind
 grind
include b3 aF cr aE in
theorem cm.Da(aj:nD J Jr 0 bs=some true)(v:cm N' Jr Mh):cm (key+16) (mj J bs (back bs key) Jr) (gN J1 bs (back bs key) Mh):=by
 intro c x I;have p:∀b,b<N'->back bs key b<key+16:=by
  intro b A;unfold back;cases q:bs[b]? with
  |some c=>simp;have:=aF c (eV q);omega
  |none=>grind
 rcases q' I with⟨b,w,rfl,a,rfl⟩|⟨h1,a⟩
 . obtain⟨e,y,f,bh⟩:=v b w a;refine⟨p b e,y.b' _,QJ (λi j=>ye b3 aF) f,?_⟩;cases bh with
   |box bh=>exact .box (a6.map_map (bh.imp λ_ _ _ aa=>b8.b' b3 aF cr aE aa))
   |arr t l=>exact .arr t l
   |set ks=>exact .set ks
   |buf E s=>exact .buf E s
   |b1 bh=>exact .b1 (b8.b' b3 aF cr aE bh)
   |cx t l i o bh=>exact .cx t l i o (b8.b' b3 aF cr aE bh)
   |rows bh g=>exact .rows bh g
 . obtain⟨e,y,f,bh⟩:=aE c x a;refine⟨by omega,y,?_,?_⟩
   . grind[Q7,back]
   . exact bh.mono (BA b3 aF aE aj)
end
end
section
open Go
variable {xb:aZ}
def B4(n:Nat):List (Nat×Nat)->Bool
 |(i,_)::_=>Nat.beq i n
 |[]=>false
theorem Zm{l:List (b5×aZ)}{p:Nat×Nat}(h:p∈ku l):p.1<l.length:=by
 grind[ku,CU]
theorem Xz{l:List (b5×aZ)}(h:B4 l.length (q2 l)=true):B1 l=true/\ri l.dropLast=true/\∀p,p∈ku l.dropLast->p∈q2 l:=by
 unfold q2 at h⊢;split at h
 . grind
 . cases ag:ku l with
   |nil=>rw[ag]at h;cases h
   |cons p r=>
    rw[ag]at h;have al:p∈ku l:=(by grind);have:=Zm al;obtain⟨i,j⟩:=p;have a:Nat.beq i _=true:=h;simp_all
variable{D:Nat->aZ}{listed:Array Bool}{Q:Exit->Env->a8->Nat->Prop}
theorem Ye{l:List (b5×aZ)}{m:Nat}(g:l.length=m+1)(h:B1 l=true)(e:∀(i:Nat) x,l[i]?=some x->D i=x.2){p:Nat->Bool}(f:∀i,i<m->p i=true->∀d,d∈D i->p d=true)(ag:∀d,d∈D m->p d=true):
 ∀i,i<m->p i=true:=by
 have key:∀k i,i<m->m-i<=k->p i=true:=by
  intro k;induction k with
  |zero=>grind
  |succ k ih=>
   intro i h1 b;simp[B1]at h;have c:=h i (by omega);grind
 exactλi a=>key m i a (by simp)
section
variable {P:Program}{au:Ctx}{nt kk:Nat}{N:Nat}{ops:Array Oper}{init:List b5}{last:b5}{E:Nat->Env}{T:Nat->a8}{G:Nat->Bool}{W:Nat->V}
theorem Bk{i m:Nat}(hs:listed.size=m+1)(a:i<m):listed.pop.getD i false=listed.getD i false:=by
 simp;grind
theorem aal{i m:Nat}(hs:listed.size=m+1)(a:i<m):(listed.setIfInBounds i true).pop=listed.pop.setIfInBounds i true:=by grind
theorem YE{Q:Exit->Act->World->Prop}{fuel:Nat}{a:Act}{w:World}(hs:listed.size=ops.size)(d:∀i,i<ops.size->listed.getD i false=true)(b:Q .normal a w):wpAny P .any ops Q fuel listed a w:=by
 have c:Region.ready .any ops listed=[]:=by
  rw[OP];grind[mem_ready]
 cases fuel with
 |zero=>exact⟨c,b⟩
 |succ fuel=>exact⟨λ_=>b,λi e=>by grind⟩
theorem Yf(st:Stat xb init D E N)(y:nE xb P init N E T G W)(hres:gA P nt ops ops.toList=some (init++[last]))(A:∀(i:Nat) o,ops[i]?=some o->D i=gM o)
 (aq:∀(p:Nat->Bool),(∀i,i<init.length->p i=true->∀d,d∈D i->p d=true)->(∀d,d∈D init.length->p d=true)->∀i,i<init.length->p i=true)
 (am:∀d,d∈D init.length->d<init.length)
 {Q:Exit->Act->World->Prop}{K:Env->a8->Prop}(ap:au.k=kk)
 (bE:∃fb z,Conv kk (N+16*init.length) (E init.length) (T init.length) (N+16*init.length) fb z/\vz P last (N+16*init.length) fb z K)
 (ab:∀e s φ S a w,K e s->Rel au nt φ S e s (ep (lt (N+16*init.length)) (N+16*init.length)) a w->Q .normal a w):
 ∀(fuel:Nat) (listed:Array Bool) φ S env J a w,listed.size=init.length+1->listed.getD init.length false=false->listed.toList.countP (· ==false)<=fuel->Inv xb au nt init D N E T G W listed.pop φ S env J a w->wpAny P .any ops Q fuel listed a w:=by
 have U:=we hres;simp at U;have ar:∀(listed:Array Bool) (φ:c0) (S:c6) (env:Env) (J:a8) (a:Act) (w:World),listed.size=init.length+1->listed.getD init.length false=false->Inv xb au nt init D N E T G W listed.pop φ S env J a w->Region.ready .any ops listed≠[]:=by
  intro listed φ S env J a w hs u b9 V;have B:∀i,i<init.length->listed.getD i false=true:=by
   intro i;induction i using Nat.strongRecOn with
   |_ i ih=>
    intro g;cases ag:listed.getD i false with
    |true=>rfl
    |false=>
     have x:i<ops.size:=(by omega);have c:ops[i]?=some ops[i]:=z8 x;have:i∈Region.ready .any ops listed:=by
      rw[mem_ready];refine⟨?_,ops[i],c,λe he af=>?_⟩
      . grind
      . have aj:e.on∈D i:=by
         rw[A i _ c];simp only[gM,g',xX];grind
        exact ih e.on (st.back i _ g aj) (by have:=st.back i _ g aj;omega)
     grind
  have x:init.length<ops.size:=by omega
  have c:ops[init.length]?=some ops[init.length]:=z8 x;have:init.length∈Region.ready .any ops listed:=by
   rw[mem_ready];refine⟨?_,ops[init.length],c,λe he af=>?_⟩
   . grind
   . have aj:e.on∈D init.length:=by
      rw[A _ _ c];simp only[gM,g',xX];grind
     grind
  grind
 intro fuel;induction fuel with
 |zero=>
  intro listed φ S env J a w hs u I b9;exfalso;have t:init.length<listed.size:=by omega
  have h0:listed.toList.countP (· ==false)=0:=by omega
  rw[List.countP_eq_zero]at h0;simp[t]at u;exact h0 listed[init.length] (by simp) (by grind)
 |succ fuel ih=>
  intro listed φ S env J a w hs u I b9;refine⟨λV=>absurd V (ar listed φ S env J a w hs u b9),λi g=>?_⟩;rw[mem_ready]at g;obtain⟨h1,o,c,ax⟩:=g;have x:i<ops.size:=(x3.1 c).1;have t:i<listed.size:=by omega
  have aV:listed.getD i false=false:=by grind
  obtain⟨n,H,X⟩:=Em hres (i:=i) (o:=o) (by grind);have aj:∀d,d∈D i->listed.getD d false=true:=by
   intro d aj;rw[A i o c]at aj;simp only[gM,g',xX]at aj;grind
  have ao:listed.toList.countP (· ==false)<=fuel+1->(listed.setIfInBounds i true).toList.countP (· ==false)<=fuel:=by
   have:listed.toList[i]?=some false:=by simp[t]at aV⊢;exact aV
   grind
  rcases Nat.lt_or_ge i init.length with r|r
  ·
   have q:init[i]?=some n:=by rw[qu r]at H;exact H
   have L:∀d,d∈D i->listed.pop.getD d false=true:=λd f=>by rw[Bk hs (by have:=st.back i d r f;omega)];exact aj d f
   have C:listed.pop.getD i false=false:=by rw[Bk hs r];exact aV
   obtain⟨ad,ae⟩:=b9.agree st y q C L;obtain⟨⟨bp,aw,Z⟩,_⟩:=(y.step i n q).1.local (env':=env) (J':=J) ad ae;have v:=Bn b9.rel (key:=N+16*i) (λb ah ak=>Rv C ah ak) X (K:=λe s=>e=ee env n.dst (G i) (W i)/\s=bp) (aw.gK ⟨rfl,rfl⟩) (Q:=Q);have next:∀b4 w',i' au nt (ep (used N init.length listed.pop) (N+16*i)) (λe s=>e=ee env n.dst (G i) (W i)/\s=bp) b4 w'->wpAny P .any ops Q fuel (listed.setIfInBounds i true) b4 w':=by
    rintro b4 w' ⟨bg,bj,e,s,⟨rfl,rfl⟩,R'⟩
    have al:=aal (listed:=listed) (i:=i) (m:=init.length) hs r;refine ih (listed.setIfInBounds i true) bg bj _ _ b4 w' (by simpa using hs) ?_ (ao I) (by rw[al];exact b9.step st y q C L Z R');rw[hz t,cV];exact u
   unfold wpOp;rw[c];dsimp only;split at v
   . rename_i l;rw[ai l];exact .inl (Oper.wp_mono next v)
   . rename_i l;rw[av l];exact next _ _ v
  ·
   have g:i=init.length:=(by omega);subst g;have q:n=last:=(by grind);subst q;have B:=by
    refine aq (λj=>listed.pop.getD j false) (λj M al d f=>b9.down j M al d f) (λd f=>?_);rw[Bk hs (am d f)];exact aj d f
   have R:=b9.done st y B;obtain⟨fb,z,an,v⟩:=bE;obtain⟨az,vr,Y⟩:=an au nt φ S a w ap R;have F:=E7 Y X v (Q:=Q);have next:∀b4 w',i' au nt (ep (lt (N+16*init.length)) (N+16*init.length)) K b4 w'->wpAny P .any ops Q fuel (listed.setIfInBounds init.length true) b4 w':=by
    rintro b4 w' ⟨bg,bj,e,s,aa,R'⟩
    refine YE (by simp[hs,U]) (λj M=>?_) (ab e s bg bj b4 w' aa R');rw[hz t];split
    . rfl
    . rename_i ay;have O:j<init.length:=(by omega);rw[<-Bk hs O];exact B j O
   unfold wpOp;rw[c];dsimp only;split at F
   . rename_i l;rw[ai l];exact .inl (Oper.wp_mono next F)
   . rename_i l;rw[av l];exact next _ _ F
theorem cl.aep{eB:List (Nat×Nat)}{env:Env}{J:a8}(a':B4 (init.length+1) eB=true)
 (h:vA xb P init N env J (λe s=>j1 xb init e N eB=true/\mu P kk [last] (N+16*init.length) e s (λe s=>Q .normal e s (N+16*init.length+16)))):cl P nt kk (.nB (init++[last]) eB) env J N Q:=by
 intro code X au φ S a w am R;obtain⟨id,ops,rfl,hres,H,ap,rfl⟩:=PX X;have a9:=we hres;have M:(fj ops (init++[last])).length=init.length+1:=by grind[fj]
 obtain⟨an,B,a2⟩:=Xz (l:=fj ops (init++[last])) (by grind);obtain⟨E,T,G,W,K,dc,t0,Y,O⟩:=FQ h;have aI:(fj ops (init++[last])).dropLast=fj ops.pop init:=by
  obtain⟨L,x,I⟩:∃L x,ops.toList=L++[x]:=by
   cases ag:ops.toList.reverse with
   |nil=>simp_all
   |cons x r=>simp_all
  simp_all[fj,Array.toList_pop,xY,List.zip_append]
 rw[aI]at B;have Z:j1 xb init (E init.length) N (ku (fj ops.pop init))=true:=Fk (λp al=>a2 p (by grind)) Y;have g:=JB (ops:=ops.pop) (by grind) B K Z;let D:Nat->aZ:=λi=>((ops[i]?).map gM).getD [];have A:∀i,i<init.length->((ops.pop[i]?).map gM).getD []=D i:=by grind
 have st:Stat xb init D E N:=by
  refine⟨λi d c aj=>g.back i d c (by grind),λi j x y d I ak a5=>?_,λi j b ax c F a3 q=>?_⟩
  . have:=g.u9 i j x y d I ak a5;grind
  . rcases g.ord i j b ax c F a3 q with⟨h1,f⟩|⟨h1,f⟩
    . exact .inl ⟨h1,f.congr g.back A F⟩
    . exact .inr ⟨h1,f.congr g.back A c⟩
 have a4:∀(i:Nat) x,(fj ops (init++[last]))[i]?=some x->D i=x.2:=by
  grind[fj]
 refine wp_region_any ap ?_;have a1:=O;have U:∀d,d∈D init.length->d<init.length:=by
  intro d aj;simp only[ri,cO]at H;have I:(fj ops (init++[last]))[init.length]?=some _:=df (by omega);have:=FA H.1.1 I d (by grind);omega
 refine Yf (au:=au) (nt:=nt) (D:=D) st K hres (λi o aF=>by grind) (λp h1 f=>Ye M an a4 h1 f) U am a1 (λe s φ S a w a0 R'=>⟨φ,S,e,s,_,a0,R'.more λb q=>B2 q⟩) ops.size _ φ S env J a _ ?_ ?_ ?_ ?_
 . grind
 . rw[Array.getD_eq_getD_getElem?,Array.getElem?_replicate];grind
 . grind[List.countP_le_length]
 . have R':=R.drew;have v:∀i,(Array.replicate ops.size false).pop.getD i false=true->False:=by
    intro i ag;simp only[Array.getD_eq_getD_getElem?,Array.getElem?_pop]at ag;grind
   refine⟨R'.more λb q=>by grind[used],by grind,λi c ag=>(v i ag).elim,λt _=>by grind,λt i o aF ag=>(v i ag).elim,λb _=>by grind,λb i c ag=>(v i ag).elim⟩
end
end
end Go.Proofs.YtkbmjabicjpmjaaGreatDoor.Shv
