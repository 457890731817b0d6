/- The library of this proof, part C: an abstract machine for the code of the program, and its soundness. -/
import Derived.Test.YtkbmjabicjpmjaaGreatDoorCcLB

namespace Go.Proofs.YtkbmjabicjpmjaaGreatDoor.Shv
set_option linter.all false
section
open Go
variable {xb:aW}
def kE(xb:aW)(aY:List bZ)(env:Env)(N:Nat):List (Nat×Nat)->Bool
 |[]=>true
 |(i,j)::r=>(match aY[i]?,aY[j]? with
  |some x,some y=>(eh xb y.op env (N+16*j)).all λb=>!(cB xb x.op env (N+16*i) b)
  |_,_=>true)&&kE xb aY env N r
variable{env:Env}{N:Nat}{aY:List bZ}
theorem RD:∀{fS:List (Nat×Nat)} {i j:Nat} {x y:bZ},kE xb aY env N fS=true->(i,j)∈fS->aY[i]?=some x->aY[j]?=some y->∀b,b∈eh xb y.op env (N+16*j)->cB xb x.op env (N+16*i) b=false
 |[],i,j,x,y,h,a,_,_,_,_=>by simp at a
 |(g,k)::r,i,j,x,y,h,a,d,f,b,c=>by
  simp only[kE,cX]at h;rcases e2.1 a with e|a
  . grind
  . exact RD h.2 a d f b c
section
variable {P:Program}{av:Ctx}{nt kk:Nat}{N:Nat}{ops:Array Oper}{aY:List bZ}{E:Nat->Env}{T:Nat->aZ}{G:Nat->Bool}{W:Nat->V}
theorem Vf{i:Nat}{o:Oper}{x:bZ}(a:ops[i]?=some o)(b:aY[i]?=some x):(fw ops aY)[i]?=some (x,hd o):=by
 unfold fw;grind
theorem JG(ah:aY.length=ops.size)(K:sg (fw ops aY)=true)(Y:nX xb P aY N E T G W)(V:kE xb aY (E aY.length) N (kV (fw ops aY))=true):
 Stat xb aY (λi=>((ops[i]?).map hd).getD []) E N:=by
 simp only[sg,cX]at K;obtain⟨⟨U,L⟩,_⟩:=K;have g:∀i,i<aY.length->∃o x,ops[i]?=some o/\aY[i]?=some x/\(fw ops aY)[i]?=some (x,hd o):=by
  intro i m;have v:ops[i]?=some ops[i]:=AG (by omega);have a:aY[i]?=some aY[i]:=eF m;exact⟨_,_,v,a,Vf v a⟩
 have ad:∀i j,ahead (fw ops aY) j i=true->j<i/\j∈((ops[i]?).map hd).getD []:=by
  intro i j h;obtain⟨h1,y,q,ab⟩:=Xv h;refine⟨h1,?_⟩;have m:i<aY.length:=by
   have:=(dV.1 q).1;unfold fw at this;simp at this;omega
  grind
 have M:∀(i j:Nat) (x y:bZ) (d:Nat),aY[i]?=some x->aY[j]?=some y->y.dst=some d->(d∈x.rd->(j<i/\j∈((ops[i]?).map hd).getD [])\/(x.op.neutral=true/\x.op.hR=false/\i<j/\i∈((ops[j]?).map hd).getD []))/\(i=j\/x.dst≠some d):=by
  intro i j x y d a c ak;obtain⟨z,aa,I,p,r⟩:=g i (dV.1 a).1;obtain⟨A,R,J,f,s⟩:=g j (dV.1 c).1;rw[a]at p;cases p;rw[c]at f;cases f;simp only[OS,f']at L;have h1:=L ((x,hd z),i) (e7 (i:=i) (by simp[Aq,r]));have q:=h1 ((y,hd A),j) (e7 (i:=j) (by simp[Aq,s]));grind
 refine⟨λi d m F=>?_,M,?_⟩
 . obtain⟨o,x,v,a,S⟩:=g i m;rw[v]at F;have:=FL U S d F;omega
 ·
  have H:∀(i:Nat) (x:bZ),aY[i]?=some x->¬(x.op.neutral=true/\x.op.hR=false)->∀t,t∈x.op.reads->look (E aY.length) t=look (E i) t:=by
   intro i x a ai t ht;have m:=(dV.1 a).1;refine tY Y (by omega) (e9 _) λj y ae af c Z=>?_;rcases (M i j x y t a c Z).1 (Is ht)with h|h
   . omega
   grind
  have aj:∀i j,nr (mY (fw ops aY) []) j i=true->j<i/\iV (λi=>((ops[i]?).map hd).getD []) j i:=by
   intro i j h;simp only[nr,cX,gE,List.contains_iff_mem]at h;refine⟨h.1,Ql (l:=fw ops aY) (acc:=[]) (λk x a=>?_) (λi j B=>by simp at B) i j h.2⟩;have ag:k<aY.length:=by
    have:=(dV.1 a).1;unfold fw at this;simp at this;omega
   grind
  have C:∀(i j:Nat) (x y:bZ) (b:Nat),i≠j->aY[i]?=some x->aY[j]?=some y->cB xb x.op (E i) (N+16*i) b=true->b∈eh xb y.op (E j) (N+16*j)->nr (mY (fw ops aY) []) i j=true\/nr (mY (fw ops aY) []) j i=true:=by
   intro i j x y b u a c n e;by_cases h1:nr (mY (fw ops aY) []) i j=true
   . grind
   . by_cases q:nr (mY (fw ops aY) []) j i=true
     . grind
     . exfalso;obtain⟨z,aa,I,p,r⟩:=g i (dV.1 a).1;obtain⟨A,R,J,f,s⟩:=g j (dV.1 c).1;rw[a]at p;cases p;rw[c]at f;cases f;have ht:y.op.hR=true:=by
        cases h:y.op.hR with
        |true=>rfl
        |false=>rw[Wh h]at e;simp at e
       have X:(i,j)∈kV (fw ops aY):=by
        simp only[kV,Df,List.mem_flatMap];refine⟨((x,hd z),i),e7 (i:=i) (by simp[Aq,r]),?_⟩;dsimp only;rw[Ie n];simp only[ca,b4,List.mem_filterMap];refine⟨((y,hd A),j),e7 (i:=j) (by simp[Aq,s]),?_⟩;grind
       have:=RD V X a c b (by rw[Xu (H j y c (λh=>by rw[ht]at h;cases h.2))];exact e);rw[Xt (H i x a (λh=>by rw[Ie n]at h;cases h.1))]at this;grind
  intro i j b u m B n e;obtain⟨z,x,I,a,r⟩:=g i m;obtain⟨A,y,J,c,s⟩:=g j B;have w:cB xb x.op (E i) (N+16*i) b=true:=by unfold iA at n;rw[a]at n;exact n
  have conv:(nr (mY (fw ops aY) []) i j=true\/nr (mY (fw ops aY) []) j i=true)->(i<j/\iV (λi=>((ops[i]?).map hd).getD []) i j)\/(j<i/\iV (λi=>((ops[i]?).map hd).getD []) j i):=by grind
  rcases e with⟨R,f,e⟩|e
  . rw[c]at f;cases f;exact conv (C i j x y b u a c w e)
  . have D:cB xb y.op (E j) (N+16*j) b=true:=by unfold iA at e;rw[c]at e;exact e
    cases Q:y.op.hR with
    |true=>exact conv (C i j x y b u a c w (RB Q D))
    |false=>
     cases O:x.op.hR with
     |true=>exact conv (C j i y x b (dx u) c a D (RB O w)).symm
     |false=>
      have h1:=JF O w;have q:=JF Q D;exfalso;omega
theorem Fw:∀{l m:List (Nat×Nat)},(∀p,p∈l->p∈m)->kE xb aY env N m=true->kE xb aY env N l=true
 |[],_,_,_=>rfl
 |(i,j)::r,m,hs,h=>by
  simp only[kE,cX];refine⟨?_,Fw (λp aj=>hs p (DT _ aj)) h⟩
  have:∀ (m:List (Nat×Nat)),(i,j)∈m->kE xb aY env N m = true->(match aY[i]?,aY[j]? with
   |some x,some y=>(eh xb y.op env (N+16*j)).all λb=>!(cB xb x.op env (N+16*i) b)
   |_,_=>true)=true:=by
   intro m;induction m with
   |nil=>intro h _;simp at h
   |cons q m ih=>
    intro c a;obtain⟨d,e⟩:=q;simp only[kE,cX]at a;grind
  grind
theorem Xw{l:List (bZ×aW)}{p:Nat×Nat}(h:p∈kV l):p∈rk l:=by
 unfold rk;grind
theorem ck.nT{fS:List (Nat×Nat)}{env:Env}{J:aZ}{Q:Exit->Env->aZ->Nat->Prop}(h:wi xb P aY N env J (λe s=>kE xb aY e N fS=true/\Q .normal e s (N+16*aY.length))):ck P nt kk (.nT aY fS) env J N Q:=by
 intro code v av φ S a w F R;obtain⟨id,ops,rfl,hres,D,B,rfl⟩:=Pn v;have c:=xA hres;simp at c;obtain⟨E,T,G,W,g,dh,t0,y,j⟩:=F8 h;refine wp_region_any B ?_;refine Ve (av:=av) (nt:=nt) (JG c D g (Fw (λp aj=>Xw aj) y)) g hres (λi o f=>by simp[f]) (λφ S a w R'=>⟨φ,S,_,_,_,j,R'⟩) ops.size _ φ S env J a _ ?_ ?_
 . have:=List.countP_le_length (p:=λx:Bool=>x==false) (l:=(Array.replicate ops.size false).toList);grind
 . have R':Rel av nt φ S env J (lt N) a {w with drawn:=w.drawn+1}:=R.drew;refine⟨R'.more λb q=>by simp[used,q],by simp[c],λi A ad=>?_,λt _=>by rw[dh],λt i o f ad=>?_,λb _=>by rw[t0],λb i A ad=>?_⟩
   . simp_all
   . exfalso;simp[Array.getElem?_replicate]at ad;split at ad<;>simp at ad
   simp_all
end
end
section
open Go
def tc(P:Program)(c:Code)(Q:Exit->Act->World->Prop)(a:Act)(w:World):Prop:=
 ∀(b:Frame) (k:List Item) (cs:List Frame),∃e bX w',Q e bX w'/\Arrives P (lone (b.at a (.code c:: .inLoop c::k)) cs w) b k cs e bX w'
variable{Q:Exit->Act->World->Prop}{a:Act}{P:Program}{w:World}{c:dv}{S:c0}{φ:cZ}{av:Ctx}{D:Nat->Type}
theorem ux{c:Code}(h:c.wp P (Exit.then (tc P c Q) Q) a w):tc P c Q a w:=by
 intro b k cs;obtain⟨e,g,i,f,d⟩:=h b _ cs;cases e with
 |normal=>
  obtain⟨m,j,p,o,n⟩:=f b k cs;exact⟨m,j,p,o,.of_steps (Steps.trans d (.one step_inLoop)) n⟩
 |exit id=>exact⟨_,g,i,f,.pass rfl (λ_ _=>.inl (by simp)) d⟩
 |goto l=>exact⟨_,g,i,f,.pass (x:= .inLoop c) rfl (λ_ _=>.inl (by simp)) d⟩
 |ret=>exact⟨_,g,i,f,.pass (x:= .inLoop c) rfl (λ_ _=>.inl (by simp)) d⟩
 |panic ly=>exact⟨_,g,i,f,.pass (x:= .inLoop c) rfl (λ_ _=>.inl (by simp)) d⟩
 |outgrown=>exact⟨_,g,i,f,.pass (x:= .inLoop c) rfl (λ_ _=>.inl (by simp)) d⟩
theorem BC{c:Code}(h:tc P c Q a w):(Code.loop c).wp P Q a w:=by
 intro b k cs;obtain⟨e,bX,w',f,d⟩:=h b k cs;exact⟨e,bX,w',f,.of_steps (.one step_loop) d⟩
section
variable {P:Program}{nt kk:Nat}{env env':Env}{J J':aZ}{N N':Nat}{Q mU:Exit->Env->aZ->Nat->Prop}
def l5(P:Program)(nt kk:Nat)(c:dv)(env:Env)(J:aZ)(N:Nat)(Q:Exit->Env->aZ->Nat->Prop):Prop:=
 ∀code,resolve P nt code=some c->∀av φ S a w,av.k=kk->Rel av nt φ S env J (lt N) a w->tc P code (λe bX w'=>∃bc bd env' J' N',Q e env' J' N'/\Rel av nt bc bd env' J' (lt N') bX w') a w
theorem l5.round(h:ck P nt kk c env J N (andThen (λenv J N=>l5 P nt kk c env J N Q) Q)):l5 P nt kk c env J N Q:=by
 intro code f av φ S a w g R;refine ux (wp_mono (h _ f av φ S a w g R) ?_)
 rintro e bX w' ⟨bc,bd,env',J',N',j,R'⟩
 cases e with
 |normal=>exact j _ f av _ bd bX w' g R'
 |_=>exact⟨bc,bd,env',J',N',j,R'⟩
theorem ck.adQ(h:l5 P nt kk c env J N Q):ck P nt kk (.loop c) env J N Q:=by
 intro code f av φ S a w g R;obtain⟨b,rfl,e⟩:=Vb f;exact BC (h b e av φ S a w g R)
def Conv(kk N:Nat)(env:Env)(J:aZ)(N':Nat)(env':Env)(J':aZ):Prop:=
 ∀av nt φ S a w,av.k=kk->Rel av nt φ S env J (lt N) a w->∃bc bd,Rel av nt bc bd env' J' (lt N') a w
theorem Conv.refl:Conv kk N env J N env J:=λ_ _ φ S _ _ _ R=>⟨φ,S,R⟩
theorem Conv.trans{c e f:Nat}{aK g dD:Env}{s1 o p:aZ}(h:Conv kk c aK s1 e g o)(k:Conv kk e g o f dD p):Conv kk c aK s1 f dD p:=
 λav nt φ S a w j R=>let⟨bc,bd,R'⟩:=h av nt φ S a w j R;k av nt _ bd a w j R'
theorem ck.conv(f:Conv kk N env J N' env' J')(h:ck P nt kk c env' J' N' Q):ck P nt kk c env J N Q:=
 λcode g av φ S a w e R=>let⟨bc,bd,R'⟩:=f av nt φ S a w e R;h _ g av _ bd a w e R'
theorem l5.conv(f:Conv kk N env J N' env' J')(h:l5 P nt kk c env' J' N' Q):l5 P nt kk c env J N Q:=
 λcode g av φ S a w e R=>let⟨bc,bd,R'⟩:=f av nt φ S a w e R;h _ g av _ bd a w e R'
theorem Conv.tidy(ks bs:aW)(bY:bs.Nodup)(c:keeps kk bs=true):Conv kk N env J bs.length (nL bs env ks) (fH bs J 0 bs):=
 λav nt φ S a w e R=>let⟨bc,R'⟩:=R.tidy ks bs bY (by grind);⟨bc,S,R'⟩
theorem Conv.freeze(b0:Nat){c:Nat}{es:List (List T)}(e:aR J b0=some (.arr c es)):Conv kk N env J N (qI b0 c es env) (mD b0 c es J):=
 λav nt φ S a w f R=>⟨φ,_,R.freeze e⟩
def dC(c a:C):Prop:=(∀φ w S v,bn φ w S c v->bn φ w S a v)/\∀n,c.ay n=true->a.ay n=true
theorem dC.refl(c:C):dC c c:=⟨λ_ _ _ _ h=>h,λ_ h=>h⟩
theorem dC.dead(c:C):dC c .dead:=⟨λ_ _ _ _ h=>h.iR,λ_ _=>rfl⟩
theorem dC.aL:dC .aL (.t (.slice [])):=by
 refine⟨?_,λ_ _=>rfl⟩
 rintro φ w S v ⟨a,rfl⟩
 exact bM.slice [] a 0 0 0 0 (λ_ _=>undef) (by simp) (by simp) (by simp) (by simp) (by simp) (by simp)
inductive gC:V->V->Prop
 |c {x y}:dC x y->gC (.c x) (.c y)
 |agg {xs ys}:aX dC xs ys->gC (.agg xs) (.agg ys)
 |a6 (xs ys:List V) (ad:xs.length=ys.length) (h:∀(i:Nat) x y,xs[i]?=some x->ys[i]?=some y->gC x y):gC (.a6 xs) (.a6 ys)
theorem aX.comp{α e f:Type}{R:α->e->Prop}{R':e->f->Prop}{g:α->f->Prop}(h:∀a b c,R a b->R' b c->g a c):∀{l:List α} {m:List e} {k:List f},aX R l m->aX R' m k->aX g l k
 |[],[],[],_,_=>.nil
 |_::_,_::_,_::_,.cons h1 j,.cons bb bq=>.cons (h _ _ _ h1 bb) (aX.comp h j bq)
theorem aX.flip{α c:Type}{R:α->c->Prop}{R':c->α->Prop}{l:List α}{m:List c}(h:aX R l m)(k:∀a b,R a b->R' b a):aX R' m l:=by
 induction h with
 |nil=>exact .nil
 |cons h _ ih=>exact .cons (k _ _ h) ih
theorem Mm{n:Nat->Bool}:∀{vs:List V},(∀(i:Nat) v,vs[i]?=some v->v.ay n=true)->V.ay.V.dw n vs=true
 |[],_=>rfl
 |v::vs,h=>by simp[V.ay.V.dw];exact⟨h 0 v rfl,Mm λi x a=>h (i+1) x (by grind)⟩
theorem gC.Eh{v g:V}(h:gC v g):∀{x},bW φ w S v x->bW φ w S g x:=by
 induction h with
 |c h=>intro x e;cases e with|c e=>exact .c (h.1 _ _ _ _ e)
 |agg h=>
  intro x e;cases e with
  |agg e=>exact .agg (aX.comp (λa b c h1 f=>h1.1 _ _ _ _ f) (h.flip λ_ _ h=>h) e)
 |a6 xs ys ad h ih=>
  intro x e;cases e with
  |a6 _ j o f=>
   refine .a6 _ j (by omega) ?_;grind
theorem gC.ay{v f:V}(h:gC v f)(n:Nat->Bool):v.ay n=true->f.ay n=true:=by
 induction h with
 |c h=>intro e;exact h.2 n e
 | @agg xs ys h=>
  intro e;simp[V.ay]at e⊢;intro c j;obtain⟨i,o,rfl⟩:=jf j;obtain⟨a,g,hs⟩:=(h.flip λ_ _ h=>h).get (eF o);exact hs.2 n (e a (e7 g))
 |a6 xs ys ad h ih=>
  grind[V.ay,Mm,mo]
inductive km:bP->bP->Prop
 |box {xs ys}:aX dC xs ys->km (.box xs) (.box ys)
 |arr {sz es}:km (.arr sz es) (.arr sz es)
 |same {x}:km x x
 |bT {E c wc}:dC c wc->km (.bT E c) (.bT E wc)
 |cz {sz es i o c wc}:dC c wc->km (.cz sz es i o c) (.cz sz es i o wc)
def KA(env env':Env):Prop:=∀k g a,look env' k=some (g,a)->∃v,look env k=some (g,v)/\gC v a
def re(J J':aZ):Prop:=∀b a,aR J' b=some a->∃x,aR J b=some x/\km x a
theorem km.Ed{b:Nat}{x j:bP}(h:km x j)(g:cP φ w S b x):cP φ w S b j:=by
 cases h with
 |arr=>grind
 |same=>grind
 |bT h=>
  obtain⟨h0,⟨p,v,h1,e,f⟩,o⟩:=g;exact⟨h0,⟨p,v,h1,e,h.1 _ _ _ _ f⟩,o⟩
 |cz h=>
  obtain⟨h1,⟨vs,E,bb,bq,bU,v,cu,cW⟩,da⟩:=g;exact⟨h1,⟨vs,E,bb,bq,bU,v,cu,h.1 _ _ _ _ cW⟩,da⟩
 |box h=>
  obtain⟨h0,vs,E,h1,e,f⟩:=g;exact⟨h0,vs,E,h1,aX.comp (λa b c h1 e=>h1.1 _ _ _ _ e) (h.flip λ_ _ h=>h) e,f⟩
theorem km.ay{x c:bP}(h:km x c)(n:Nat->Bool)(a:x.ay n=true):c.ay n=true:=by
 cases h with
 |arr=>rfl
 |same=>grind
 |bT h=>exact h.2 n a
 |cz h=>exact h.2 n a
 | @box xs ys h=>
  have:=gC.ay (.agg h) n (by grind[V.ay,bP.ay]);grind[V.ay,bP.ay]
theorem Rel.weaken{n:Nat->Bool}(R:Rel av nt φ S env J n a w)(he:KA env env')(hs:re J J'):Rel av nt φ S env' J' n a w:=by
 refine⟨⟨λb x e=>?_,λb j x y e p=>?_,R.bD.st⟩,λk g v ad ak=>?_,λk g v ad ak=>?_,λk g v ad ak=>?_,λb x e=>?_,R.size,R.defers,R.ext,λb x e=>?_,R.fix,R.gy⟩
 . obtain⟨f,h1,c⟩:=hs b x e;exact c.Ed (R.bD.blk b f h1)
 . obtain⟨f,h1,c⟩:=hs b x e;obtain⟨q,bb,bq⟩:=hs j y p;exact R.bD.inj b j f q h1 bb
 . obtain⟨v0,h1,c⟩:=he k g v ad;obtain⟨x,e,o⟩:=R.fZ k g v0 h1 ak;exact⟨x,e,c.Eh o⟩
 . obtain⟨v0,h1,c⟩:=he k g v ad;exact R.gN k g v0 h1 ak
 . obtain⟨v0,h1,c⟩:=he k g v ad;exact c.ay n (R.fY k g v0 h1 ak)
 . obtain⟨f,h1,c⟩:=hs b x e;exact⟨(R.dG b f h1).1,c.ay n (R.dG b f h1).2⟩
 . obtain⟨f,h1,c⟩:=hs b x e;exact R.own b f h1
theorem Conv.weaken(he:KA env env')(hs:re J J'):Conv kk N env J N env' J':=λav nt φ S a w _ R=>⟨φ,S,R.weaken he hs⟩
theorem Rel.DJ(R:Rel av nt φ S env J (lt N) a w){sz:Nat}(B:0<sz)(E:av.k<=N):
 Rel av nt (eA φ N (0,0)) S env (c7 J N (.arr sz [])) (lt (N+1)) a w:=by
 have D:∀b,lt N b=true->eA φ N (0,0) b=φ b:=by
  intro b j;simp[lt]at j;grind[eA]
 have o:∀b,lt N b=true->lt (N+1) b=true:=λb j=>B8 (by simp) j;have e:=R.sZ D;have cp:(eA φ N (0,0) N).2=0:=by simp[eA]
 have f:∀b x,aR (c7 J N (.arr sz [])) b=some x->(b=N/\x= .arr sz [])\/(b≠N/\aR J b=some x):=by
  grind[cR]
 refine⟨⟨λb x c=>?_,λb q x y c p A h0 t=>?_,e.bD.st⟩,e.fZ,e.gN,λk g v ad ak=>V.hg o (e.fY k g v ad ak),λb x c=>?_,e.size,e.defers,e.ext,λb x c h0=>?_,e.fix,λb j=>by simp[lt];omega⟩
 . rcases f b x c with⟨rfl,rfl⟩|⟨_,c⟩
   . exact⟨by simp,by simp,by simp,B,λh=>absurd cp h⟩
   . exact e.bD.blk b x c
 . rcases f b x c with⟨rfl,rfl⟩|⟨_,c⟩
   . grind
   . rcases f q y p with⟨rfl,rfl⟩|⟨_,p⟩
     . grind
     . exact e.bD.inj b q x y c p A h0 t
 . rcases f b x c with⟨rfl,rfl⟩|⟨_,c⟩
   . exact⟨by simp[lt],rfl⟩
   . exact⟨o b (e.dG b x c).1,bP.hg o (e.dG b x c).2⟩
 . rcases f b x c with⟨rfl,rfl⟩|⟨_,c⟩
   . grind
   . exact e.own b x c h0
end
inductive aF where
 |bool
 |int (k:IntKind)
 |str
 |slice (t:aF)
 |nm (n:Nat)
def aF.beq:aF->aF->Bool
 |.bool,.bool=>true
 |.int k,.int a=>decide (k=a)
 |.str,.str=>true
 |.slice r,.slice c=>aF.beq r c
 |.nm n,.nm m=>Nat.beq n m
 |_,_=>false
theorem aF.beq_eq:∀{a b:aF},aF.beq a b=true->a=b
 |.bool,.bool,_=>rfl
 |.int k,.int c,h=>by grind[aF.beq]
 |.str,.str,_=>rfl
 |.slice r,.slice e,h=>by simp[aF.beq]at h;rw[aF.beq_eq h]
 |.nm n,.nm m,h=>by grind[aF.beq,Nat.eq_of_beq_eq_true]
 |.bool,.int _,h|.bool,.str,h|.bool,.slice _,h|.bool,.nm _,h=>by simp[aF.beq]at h
 |.int _,.bool,h|.int _,.str,h|.int _,.slice _,h|.int _,.nm _,h=>by simp[aF.beq]at h
 |.str,.int _,h|.str,.bool,h|.str,.slice _,h|.str,.nm _,h=>by simp[aF.beq]at h
 |.slice _,.int _,h|.slice _,.str,h|.slice _,.bool,h|.slice _,.nm _,h=>by simp[aF.beq]at h
 |.nm _,.int _,h|.nm _,.str,h|.nm _,.bool,h|.nm _,.slice _,h=>by grind[aF.beq]
theorem aF.beq_refl:∀(a:aF),aF.beq a a=true
 |.bool=>rfl
 |.int k=>by simp[aF.beq]
 |.str=>rfl
 |.slice r=>by exact aF.beq_refl r
 |.nm n=>by grind[aF.beq,Nat.beq_refl]
def aF.dec(a b:aF):Decidable (a=b):=
 match h:aF.beq a b with
 |true=>.isTrue (aF.beq_eq h)
 |false=>.isFalse λe=>by rw[e,aF.beq_refl]at h;cases h
def aF.den(D:Nat->Type):aF->Type
 |.bool=>Bool
 |.int _=>Int
 |.str=>ao
 |.slice t=>List (aF.den D t)
 |.nm n=>D n
structure Cell (D:Nat->Type) where
 ty:aF
 val:ty.den D
def Cell.as{D:Nat->Type}(t:aF)(c:Cell D):Option (t.den D):=
 match aF.dec c.ty t with
 |.isTrue h=>some (Eq.rec (motive:=λt _=>aF.den D t) c.val h)
 |.isFalse _=>none
variable{t:aF}
theorem Cell.jS{c:Cell D}{x:t.den D}(h:c.as t=some x):c=⟨t,x⟩:=by
 obtain⟨u,v⟩:=c;unfold Cell.as at h;split at h
 all_goals grind
theorem Cell.Ml{x:t.den D}:Cell.as t (⟨t,x⟩:Cell D)=some x:=by
 unfold Cell.as;split
 . rfl
 grind
def Dr(D:Nat->Type)(enc:∀n,D n->List T):(t:aF)->t.den D->List T
 |.bool,b=>[.bool b]
 |.int k,n=>[.int k n]
 |.str,s=>[.str s]
 |.slice t,l=>[.slice (List.map (Dr D enc t) l)]
 |.nm n,x=>enc n x
def NX(D:Nat->Type)(enc:∀n,D n->List T):Cell D->T
 |⟨.bool,b⟩=>.bool b
 |⟨.int k,n⟩=>.int k n
 |⟨.str,s⟩=>.str s
 |⟨.slice t,l⟩=>.slice (List.map (Dr D enc t) l)
 |⟨.nm _,_⟩=>.bool false
structure cE where
 D:Nat->Type
 j2:∀n,D n
 rr:∀n,D n->List (Cell D)
 make:∀n,List (Cell D)->Option (D n)
 df:Nat->List aF
 enc:∀n,D n->List T
 NY:∀n x,enc n x=(rr n x).map (NX D enc)
 mk_eq:∀n l x,make n l=some x->rr n x=l
 OW:∀n x,(rr n x).map Cell.ty=df n
 pos:∀n,0<(df n).length
 OV:Nat->Option aF:=λ_=>none
 own:List (List Bool×Nat×aF):=[]
 cc:Option aF:=none
variable {U:cE}
abbrev cE.C(U:cE):=Cell U.D
abbrev aF.d(U:cE)(t:aF):=t.den U.D
def aF.j2(U:cE):(t:aF)->t.den U.D
 |.bool=>false
 |.int _=>(0:Int)
 |.str=>([]:ao)
 |.slice t=>([]:List (t.den U.D))
 |.nm n=>U.j2 n
def aF.tQ:aF->Bool
 |.nm _=>true
 |_=>false
def aF.row(U:cE):(t:aF)->t.den U.D->List (Cell U.D)
 |.bool,b=>[⟨.bool,b⟩]
 |.int k,n=>[⟨.int k,n⟩]
 |.str,s=>[⟨.str,s⟩]
 |.slice t,l=>[⟨.slice t,l⟩]
 |.nm n,x=>U.rr n x
def aF.cells(U:cE):aF->List aF
 |.nm n=>U.df n
 |t=>[t]
def aF.sz(U:cE)(t:aF):Nat:=(t.cells U).length
def iR(U:cE)(t:aF):List (Cell U.D)->Option (t.den U.D)
 |[c]=>c.as t
 |_=>none
def aF.mk(U:cE):(t:aF)->List (Cell U.D)->Option (t.den U.D)
 |.nm n,l=>U.make n l
 |.bool,l=>iR U .bool l
 |.int k,l=>iR U (.int k) l
 |.str,l=>iR U .str l
 |.slice t,l=>iR U (.slice t) l
variable{x:t.den U.D}
theorem Bb{l:List (Cell U.D)}(h:iR U t l=some x):l=[⟨t,x⟩]:=by
 unfold iR at h;grind[Cell.jS]
def Cell.enc(U:cE)(c:Cell U.D):T:=NX U.D U.enc c
def aF.enc(U:cE)(t:aF)(x:t.den U.D):List T:=Dr U.D U.enc t x
theorem aF.tK:t.enc U x=(t.row U x).map (Cell.enc U):=by
 cases t<;>first|rfl|skip
 case nm n=>exact U.NY n x
theorem aF.ael:(t.row U x).map Cell.ty=t.cells U:=by
 cases t<;>first|rfl|skip
 case nm n=>exact U.OW n x
theorem aF.OO:(t.row U x).length=t.sz U:=by
 rw[<-sU,aF.ael];rfl
theorem aF.rq:(t.enc U x).length=t.sz U:=by
 rw[aF.tK,sU,aF.OO]
theorem aF.vJ:0<t.sz U:=by
 cases t<;>simp[aF.sz,aF.cells];exact U.pos _
theorem aF.DH:∀{t:aF} {l:List (Cell U.D)} {x:t.den U.D},t.mk U l=some x->t.row U x=l
 |.nm n,l,x,h=>U.mk_eq n l x h
 |.bool,l,x,h=>(Bb h).symm
 |.int k,l,x,h=>(Bb h).symm
 |.str,l,x,h=>(Bb h).symm
 |.slice t,l,x,h=>(Bb h).symm
def aF.at(U:cE)(t:aF)(l:List (t.den U.D))(i:Nat):t.den U.D:=l.getD i (t.j2 U)
theorem y1{l:List (t.den U.D)}{i:Nat}(h:i<l.length):el (l.map (t.enc U)) i=t.enc U (t.at U l i):=by
 simp[el,aF.at,eF h]
end
section
open Go
variable {U:cE}
inductive bh (U:cE) where
 |t (c:Cell U.D)
 |ptr (b o:Nat)
 |cG (b:Nat)(t:aF)(i o:Nat)
 |dO (t:aF)(x:t.den U.D)(o:Nat)
 |arr (b:Nat)
 |sub (b nN len:Nat)
 |pre (b h:Nat)
 |dQ (b nN len:Nat)
 |mp (b:Nat)
 |eu (b:Nat)
 |cb (b:Nat)
 |aL
 |e6
 |e5
 |fn (f:Nat)(caps:aW)
 |dead
inductive bC (U:cE) where
 |c (x:bh U)
 |agg (cs:List (bh U))
 |a6 (vs:List (bC U))
inductive cI (U:cE) where
 |box (cs:List (bh U))
 |arr (t:aF)(l:List (t.den U.D))
 |rows (sz:Nat)(r:List (List (bh U)))
 |set (ks:List ao)
 |buf (E:Nat)(s:ao)
 |bT (E:Nat)(c:bh U)
 |cz (t:aF)(l:List (t.den U.D))(i o:Nat)(c:bh U)
abbrev bK(U:cE):=List (Nat×bC U)
abbrev a7(U:cE):=List (Nat×cI U)
abbrev ev:=List (Nat×Nat×Bool)
def aT{α:Type}:List (Nat×α)->Nat->Option α
 |[],_=>none
 |(k,x)::r,i=>match Nat.beq k i with
  |true=>some x
  |false=>aT r i
def cA{α:Type}:List (Nat×α)->Nat->α->List (Nat×α)
 |[],b,x=>[(b,x)]
 |(k,y)::r,b,x=>match Nat.beq k b with
  |true=>(k,x)::r
  |false=>(k,y)::cA r b x
def dl{α:Type}:List (Nat×α)->Nat->List (Nat×α)
 |[],_=>[]
 |(k,y)::r,b=>match Nat.beq k b with
  |true=>dl r b
  |false=>(k,y)::dl r b
theorem cM{a b:Nat}(h:Nat.beq a b=true):a=b:=Nat.eq_of_beq_eq_true h
theorem hJ{a b:Nat}(h:Nat.beq a b=false):a≠b:=λe=>by simp_all
variable{α:Type}
theorem hj(J:List (Nat×α))(b:Nat)(x:α)(i:Nat):aT (cA J b x) i=if b=i then some x else aT J i:=by
 induction J with
 |nil=>
  grind[cA,aT,cM,hJ]
 |cons y r ih=>
  grind[cA,cM,aT]
theorem mF(J:List (Nat×α))(b i:Nat):aT (dl J b) i=if b=i then none else aT J i:=by
 induction J with
 |nil=>simp[dl,aT]
 |cons y r ih=>
  grind[dl,cM,aT]
def CQ:C->Option (bh U)
 |.t (.bool b)=>some (.t ⟨.bool,b⟩)
 |.t (.int k n)=>some (.t ⟨.int k,n⟩)
 |.t (.str s)=>some (.t ⟨.str,s⟩)
 |.aL=>some .aL
 |.e6=>some .e6
 |.e5=>some .e5
 |.dead=>some .dead
 |.fn f []=>some (.fn f [])
 |_=>none
def mQ:List C->Option (List (bh U))
 |[]=>some []
 |c::cs=>match CQ c,mQ cs with
  |some x,some xs=>some (x::xs)
  |_,_=>none
def vR:V->Option (bC U)
 |.c x=>match CQ x with
  |some y=>some (.c y)
  |none=>none
 |.agg cs=>match mQ cs with
  |some ys=>some (.agg ys)
  |none=>none
 |.a6 _=>none
def vH(gl:ev):Nat->Option (Nat×Bool)->Nat->Bool
 |0,_,_=>false
 |b+1,gd,k=>match aT gl k with
  |none=>true
  |some a=>match gd with
   |none=>false
   |some g=>(Nat.beq g.1 a.1&&(g.2==a.2))||vH gl b (aT gl g.1) k
def fe(env:bK U)(t:Nat)(b:Bool):Option Bool:=
 match aT env t with
 |some (.c (.t ⟨.bool,x⟩))=>some (match b with|true=>x|false=>!x)
 |_=>none
def la(gl:ev)(env:bK U):Nat->Option (Nat×Bool)->Option Bool
 |_,none=>some true
 |0,some _=>none
 |a+1,some (t,b)=>match la gl env a (aT gl t),fe env t b with
  |some x,some y=>some (x&&y)
  |_,_=>none
def pO:Nat:=200
def c9(gl:ev)(gd:Option (Nat×Bool))(env:bK U):aO->Option (bC U)
 |.const v=>vR v
 |.tmp k=>match vH gl pO gd k with
  |true=>aT env k
  |false=>none
def CS(gl:ev)(gd:Option (Nat×Bool))(env:bK U)(c:aO)(b:Bool):aO->Option (bC U)
 |.const v=>vR v
 |.tmp k=>match vH gl pO gd k with
  |true=>aT env k
  |false=>match c,aT gl k with
   |.tmp d,some (t,a)=>match Nat.beq t d&&(a==b)with
    |true=>aT env k
    |false=>none
   |_,_=>none
def lo(gl:ev)(gd:Option (Nat×Bool))(env:bK U):List aO->Option (List (bC U))
 |[]=>some []
 |x::r=>match c9 gl gd env x,lo gl gd env r with
  |some v,some vs=>some (v::vs)
  |_,_=>none
def oU:bC U->Option (List (bh U))
 |.c x=>some [x]
 |.agg cs=>some cs
 |.a6 _=>none
def vP(a:List (bh U))(off:Nat)(cs:List (bh U)):List (bh U):=a.take off++cs++a.drop (off+cs.length)
def y2(gl:ev)(gd:Option (Nat×Bool))(env:bK U):List (bh U)->List (Nat×Nat×aO)->Option (List (bh U))
 |a,[]=>some a
 |a,(off,n,x)::r=>match c9 gl gd env x with
  |none=>none
  |some v=>match oU v with
   |none=>none
   |some cs=>match Nat.beq cs.length n&&Nat.ble (off+n) a.length with
    |true=>y2 gl gd env (vP a off cs) r
    |false=>none
def bh.toT:bh U->Option T
 |.t c=>match c.ty.tQ with
  |true=>none
  |false=>some (c.enc U)
 |.aL=>some (.slice [])
 |_=>none
def hA:List (bh U)->Option (List T)
 |[]=>some []
 |c::cs=>match c.toT,hA cs with
  |some t,some ts=>some (t::ts)
  |_,_=>none
def vh(gl:ev)(gd:Option (Nat×Bool))(env:bK U)(sz:Nat):List (List (bh U))->List (Nat×aO)->Option (List (List (bh U)))
 |rows,[]=>some rows
 |rows,(i,x)::r=>match c9 gl gd env x with
  |none=>none
  |some v=>match oU v with
   |none=>none
   |some cs=>match hA cs with
    |none=>none
    |some _=>match Nat.beq cs.length sz&&Nat.ble (i+1) rows.length with
     |true=>vh gl gd env sz (rows.set i cs) r
     |false=>none
inductive fU (U:cE) where
 |ty (t:aF)(l:List (t.den U.D))
 |rows (r:List (List (bh U)))
 |nil
def fU.len:fU U->Nat
 |.ty _ l=>l.length
 |.rows r=>r.length
 |.nil=>0
def ig:List aF->List (bh U)->Option (List (Cell U.D))
 |[],[]=>some []
 |t::ts,.t c::cs=>match ig ts cs with
  |some l=>some (c::l)
  |none=>none
 |.slice t::ts,.aL::cs=>match ig ts cs with
  |some l=>some (⟨.slice t,([]:List (t.den U.D))⟩::l)
  |none=>none
 |_,_=>none
def pD(U:cE)(t:aF)(cs:List (bh U)):Option (t.den U.D):=
 match ig (t.cells U) cs with
 |some l=>t.mk U l
 |none=>none
def l4(U:cE)(t:aF):List (List (bh U))->Option (List (t.den U.D))
 |[]=>some []
 |r::a=>match pD U t r,l4 U t a with
  |some x,some xs=>some (x::xs)
  |_,_=>none
def fU.as(t:aF):fU U->Option (List (t.den U.D))
 |.ty u l=>Cell.as (.slice t) ⟨.slice u,l⟩
 |.rows r=>l4 U t r
 |.nil=>some []
def fU.join:fU U->fU U->Option (fU U)
 |.nil,y=>some y
 |.ty t l,y=>match y.as t with
  |some a=>some (.ty t (l++a))
  |none=>none
 |.rows r,.ty t l=>match l4 U t r with
  |some c=>some (.ty t (c++l))
  |none=>none
 |.rows r,.rows e=>some (.rows (r++e))
 |.rows r,.nil=>some (.rows r)
def fU.blk(sz:Nat):fU U->Option (cI U)
 |.ty t l=>match Nat.beq (t.sz U) sz with
  |true=>some (.arr t l)
  |false=>none
 |.rows r=>match r.all λx=>Nat.beq x.length sz with
  |true=>some (.rows sz r)
  |false=>none
 |.nil=>some (.rows sz [])
def qZ(J:a7 U):bC U->Option (fU U×Option Nat)
 |.c (.t ⟨.slice t,l⟩)=>some (.ty t l,none)
 |.c .aL=>some (.nil,none)
 |.c (.arr b)=>match aT J b with
  |some (.arr t l)=>some (.ty t l,some b)
  |some (.rows _ r)=>some (.rows r,some b)
  |_=>none
 |_=>none
def cI.c8:cI U->Option (Nat×Nat)
 |.box _=>none
 |.arr t l=>some (t.sz U,l.length)
 |.rows sz r=>some (sz,r.length)
 |.set _=>none
 |.buf _ s=>some (1,s.length)
 |.bT _ _=>none
 |.cz t l _ _ _=>some (t.sz U,l.length)
def PX(J:a7 U)(b sz:Nat):Bool:=
 match aT J b with
 |some x=>(match x.c8 with|some p=>Nat.beq p.1 sz|none=>false)
 |none=>false
def room(bytes n:Nat):Bool:=decide ((2*n+192)*bytes<=hr)&&decide (n<=dm)
def PG:BinOp->IntKind->IntKind->Int->Int->Option (Bool×Cell U.D)
 |.add,k,c,a,b=>if k=c then some (true,⟨.int k,k.wrap (a+b)⟩)else none
 |.sub,k,c,a,b=>if k=c then some (true,⟨.int k,k.wrap (a-b)⟩)else none
 |.mul,k,c,a,b=>if k=c then some (true,⟨.int k,k.wrap (a*b)⟩)else none
 |.quo,k,c,a,b=>if k=c then some (!decide (b=0),⟨.int k,k.wrap (a.tdiv b)⟩)else none
 |.rem,k,c,a,b=>if k=c then some (!decide (b=0),⟨.int k,a.tmod b⟩)else none
 |.and,k,c,a,b=>if k=c then some (true,⟨.int k,k.wrap (BitVec.ofInt k.bits a &&& BitVec.ofInt k.bits b).toNat⟩)else none
 |.or,k,c,a,b=>if k=c then some (true,⟨.int k,k.wrap (BitVec.ofInt k.bits a ||| BitVec.ofInt k.bits b).toNat⟩)else none
 |.xor,k,c,a,b=>if k=c then some (true,⟨.int k,k.wrap (BitVec.ofInt k.bits a ^^^ BitVec.ofInt k.bits b).toNat⟩)else none
 |.andNot,k,c,a,b=>if k=c then some (true,⟨.int k,k.wrap (BitVec.ofInt k.bits a &&& ~~~ BitVec.ofInt k.bits b).toNat⟩)else none
 |.shl,k,_,a,b=>some (decide (0<=b),⟨.int k,k.wrap (a*2^min b.toNat k.bits)⟩)
 |.shr,k,_,a,b=>some (decide (0<=b),⟨.int k,a.fdiv (2^min b.toNat k.bits)⟩)
 |.eql,k,c,a,b=>if k=c then some (true,⟨.bool,decide (a=b)⟩)else none
 |.neq,k,c,a,b=>if k=c then some (true,⟨.bool,!decide (a=b)⟩)else none
 |.lss,k,c,a,b=>if k=c then some (true,⟨.bool,decide (a<b)⟩)else none
 |.leq,k,c,a,b=>if k=c then some (true,⟨.bool,decide (a<=b)⟩)else none
 |.gtr,k,c,a,b=>if k=c then some (true,⟨.bool,decide (b<a)⟩)else none
 |.geq,k,c,a,b=>if k=c then some (true,⟨.bool,decide (b<=a)⟩)else none
def PH:BinOp->ao->ao->Option (Bool×Cell U.D)
 |.add,a,b=>some (decide (a.length+b.length<=eo),⟨.str,a++b⟩)
 |.eql,a,b=>some (true,⟨.bool,decide (a=b)⟩)
 |.neq,a,b=>some (true,⟨.bool,!decide (a=b)⟩)
 |.lss,a,b=>some (true,⟨.bool,Op.bytesLess a b⟩)
 |.leq,a,b=>some (true,⟨.bool,Op.bytesLess a b||decide (a=b)⟩)
 |.gtr,a,b=>some (true,⟨.bool,!(Op.bytesLess a b||decide (a=b))⟩)
 |.geq,a,b=>some (true,⟨.bool,!(Op.bytesLess a b)⟩)
 |_,_,_=>none
def Hh(op:BinOp):Cell U.D->Cell U.D->Option (Bool×Cell U.D)
 |⟨.int k,a⟩,⟨.int c,b⟩=>PG op k c a b
 |⟨.str,a⟩,⟨.str,b⟩=>PH op a b
 |_,_=>none
def fg(a b:Bool):Bool:=a==b
def fy(a b:Int):Bool:=decide (a=b)
def jd(a b:ao):Bool:=decide (a=b)
def aI(m:Int)(n:Nat):Bool:=decide (0<=m)&&decide (m.toNat<n)
def ez(b a:Int)(n:Nat):Bool:=decide (0<=b)&&(decide (b<=a)&&decide (a<=n))
def e1{α:Type}(l:List α)(b a:Int):List α:=(l.take a.toNat).drop b.toNat
def iw(a b:Int):Int:=Max.max a b
def eN(a b:Int):Int:=Min.min a b
def hU(s:ao)(m:Int):Int:=((s.getD m.toNat 0).toNat:Int)
def mq(m:Int):ao:=(Utf8.encode m).data.toList
def b9(k:IntKind)(m:Int):Int:=k.wrap m
def tB(a b:ao):ao:=a++b
def Hj:Nat->Cell U.D->Cell U.D->Option Bool
 |0,⟨.bool,a⟩,⟨.bool,b⟩=>some (fg a b)
 |1,⟨.int k,a⟩,⟨.int c,b⟩=>if k=c then some (fy a b)else none
 |2,⟨.str,a⟩,⟨.str,b⟩=>some (jd a b)
 |_,_,_=>none
def zx:aW->List (bh U)->List (bh U)->Option Bool
 |[],[],[]=>some true
 |k::ks,.t x::xs,.t y::ys=>match Hj k x y,zx ks xs ys with
  |some b,some r=>some (b&&r)
  |_,_=>none
 |_,_,_=>none
def qJ(agg:Bool)(n:Nat)(cs:List (bh U))(o:Nat):Option (bC U):=
 match agg with
 |true=>match Nat.ble (o+n) cs.length with
  |true=>some (.agg ((cs.drop o).take n))
  |false=>none
 |false=>match cs[o]? with
  |some c=>some (.c c)
  |none=>none
def ns(gl:ev)(gd:Option (Nat×Bool))(env:bK U):Option aO->Option (Option Int)
 |none=>some none
 |some x=>match c9 gl gd env x with
  |some (.c (.t ⟨.int _,n⟩))=>some (some n)
  |_=>none
def zv:List (bC U)->Option aW
 |[]=>some []
 |.c (.ptr b 0)::r=>match zv r with
  |some l=>some (b::l)
  |none=>none
 |_=>none
abbrev abj(U:cE):=Option (Bool×bC U×a7 U)
def q1(U:cE)(t:aF)(l:List (t.den U.D))(i o:Nat)(cs:List (bh U)):Option (List (t.den U.D)):=
 match pD U t (vP ((t.row U (t.at U l i)).map .t) o cs)with
 |some x=>some (l.set i x)
 |none=>none
def tf(t:aF):List (bh U)->Option (List (t.den U.D))
 |[]=>some []
 |.t c::r=>match c.as t,tf t r with
  |some x,some l=>some (x::l)
  |_,_=>none
 |_::_=>none
def Cm:List (bh U)->Option ((t:aF)×List (t.den U.D))
 |.t c::r=>match c.ty.tQ,tf c.ty (.t c::r)with
  |false,some l=>some ⟨c.ty,l⟩
  |_,_=>none
 |_=>none
def strOf(l:au):ao:=l.map λm=>UInt8.ofNat m.toNat
def GM(l:au):Bool:=l.all λm=>decide (0<=m)&&decide (m<256)
def vI(a len n:Nat):Bool:=decide (a+len<=n)
def Ow:List (bh U)->Option (bh U)
 |[.arr b]=>some (.arr b)
 |_=>none
def Al(bytes:Nat)(m:Int):Bool:=decide (0<=m/\m.toNat*bytes<=hr/\m.toNat<=dm)
theorem JH{bytes:Nat}{m:Int}:Al bytes m=true↔0<=m/\m.toNat*bytes<=hr/\m.toNat<=dm:=by simp[Al]
def cj(gl:ev)(gd:Option (Nat×Bool))(env:bK U)(J:a7 U)(n:Nat)(o:cH):abj U:=
 match o with
 |.mov x=>match c9 gl gd env x with
  |some v=>some (true,v,J)
  |none=>none
 |.pick c x y=>match c9 gl gd env c,CS gl gd env c true x,CS gl gd env c false y with
  |some (.c (.t ⟨.bool,b⟩)),some (.c (.t ⟨.bool,p⟩)),some (.c (.t ⟨.bool,q⟩))=>some (true,.c (.t ⟨.bool,bif b then p else q⟩),J)
  |_,_,_=>none
 |.alloc cs=>match mQ cs with
  |some xs=>some (true,.c (.ptr n 0),cA J n (.box xs))
  |none=>none
 |.allocA cs=>match mQ cs with
  |some xs=>match Cm xs with
   |some ⟨t,l⟩=>some (true,.c (.ptr n 0),cA J n (.arr t l))
   |none=>none
  |none=>none
 |.idxP k x i=>match c9 gl gd env x,c9 gl gd env i with
  |some (.c (.ptr b 0)),some (.c (.t ⟨.int _,m⟩))=>match aT J b with
   |some (.arr t _)=>match Nat.beq (t.sz U) 1 with
    |true=>some (aI m k,.c (.cG b t (Int.toNat m) 0),J)
    |false=>none
   |_=>none
  |_,_=>none
 |.idxV k x i=>match c9 gl gd env x,c9 gl gd env i with
  |some (.agg cs),some (.c (.t ⟨.int _,m⟩))=>match Nat.beq cs.length k,Cm cs with
   |true,some ⟨t,l⟩=>some (aI m k,.c (.t ⟨t,t.at U l (Int.toNat m)⟩),J)
   |_,_=>none
  |_,_=>none
 |.mslice sz bytes z x=>match c9 gl gd env x,mQ z with
  |some (.c (.t ⟨.int _,m⟩)),some g=>match hA g with
   |none=>none
   |some _=>match g with
    |[.t c]=>match c.ty.tQ,Nat.beq sz 1 with
     |false,true=>some (Al bytes m,.c (.arr n),cA J n (.arr c.ty (List.replicate (Int.toNat m) c.val)))
     |_,_=>none
    |_=>none
  |_,_=>none
 |.slcP k x d w=>match c9 gl gd env x,ns gl gd env d,ns gl gd env w with
  |some (.c (.ptr b 0)),some l,some h=>
   some (ez (l.getD 0) (h.getD (k:Int)) k,.c (.sub b (Int.toNat (l.getD 0)) (Int.toNat (h.getD (k:Int))-Int.toNat (l.getD 0))),J)
  |_,_,_=>none
 |.b2s x=>match c9 gl gd env x with
  |some (.c (.t ⟨.slice (.int .u8),l⟩))=>some (true,.c (.t ⟨.str,strOf l⟩),J)
  |some (.c .aL)=>some (true,.c (.t ⟨.str,[]⟩),J)
  |some (.c (.arr b))=>match aT J b with
   |some (.arr (.int .u8) l)=>some (true,.c (.t ⟨.str,strOf l⟩),J)
   |_=>none
  |some (.c (.sub b d len))=>match aT J b with
   |some (.arr (.int .u8) l)=>some (vI d len (List.length l),.c (.t ⟨.str,strOf ((l.drop d).take len)⟩),J)
   |_=>none
  |_=>none
 |.allocS e e8=>some (true,.c (.ptr n 0),cA (cA J (n+1) (.buf e8 [])) n (.bT e (.cb (n+1))))
 |.bsliceT e sz len z parts=>match U.OV e with
  |none=>none
  |some t=>match mQ z with
   |some g=>match hA g with
    |none=>none
    |some _=>match Nat.beq g.length sz with
     |false=>none
     |true=>match vh gl gd env sz (List.replicate len g) parts with
      |some rows=>match l4 U t rows with
       |some l=>some (true,.c (.t ⟨.slice t,l⟩),J)
       |none=>none
      |none=>none
   |none=>none
 |.mkset=>some (true,.c (.mp n),cA J n (.set []))
 |.lkset x k=>match c9 gl gd env x,c9 gl gd env k with
  |some (.c (.mp b)),some (.c (.t ⟨.str,s⟩))=>match aT J b with
   |some (.set ks)=>some (true,.c (.t ⟨.bool,iO ks s⟩),J)
   |_=>none
  |_,_=>none
 |.upset x k=>match c9 gl gd env x,c9 gl gd env k with
  |some (.c (.mp b)),some (.c (.t ⟨.str,s⟩))=>match aT J b with
   |some (.set ks)=>some (true,.a6 [],cA J b (.set (iC ks s)))
   |_=>none
  |_,_=>none
 |.appendB e bytes x y=>match c9 gl gd env x,c9 gl gd env y with
  |some (.c (.cb b)),some (.c (.t ⟨.str,s⟩))=>match aT J b with
   |some (.buf u l)=>match Nat.beq u e with
    |true=>some (room bytes (List.length l+List.length s),.c (.cb n),cA (dl J b) n (.buf e (tB l s)))
    |false=>none
   |_=>none
  |_,_=>none
 |.sdata x=>match c9 gl gd env x with
  |some (.c (.cb b))=>some (true,.c (.eu b),J)
  |_=>none
 |.ustr e x k=>match c9 gl gd env x,c9 gl gd env k with
  |some (.c (.eu b)),some (.c (.t ⟨.int .i64,m⟩))=>match aT J b with
   |some (.buf u l)=>match Nat.beq u e with
    |true=>some (fy m (List.length l:Int),.c (.t ⟨.str,l⟩),dl J b)
    |false=>none
   |_=>none
  |_,_=>none
 |.box x=>match c9 gl gd env x with
  |some v=>match oU v with
   |some cs=>some (true,.c (.ptr n 0),cA J n (.box cs))
   |none=>none
  |none=>none
 |.build z parts=>match mQ z with
  |some g=>match y2 gl gd env g parts with
   |some cs=>some (true,.agg cs,J)
   |none=>none
  |none=>none
 |.bslice sz len z parts=>match mQ z with
  |some g=>match hA g with
   |none=>none
   |some _=>match Nat.beq g.length sz with
    |false=>none
    |true=>match vh gl gd env sz (List.replicate len g) parts with
     |some rows=>some (true,.c (.arr n),cA J n (.rows sz rows))
     |none=>none
  |none=>none
 |.load agg k x=>match c9 gl gd env x with
  |some (.c (.ptr b o))=>match aT J b with
   |some (.box cs)=>match qJ agg k cs o with
    |some v=>some (true,v,J)
    |none=>none
   |some (.bT _ c)=>match agg,o with
    |false,1=>some (true,.c c,J)
    |_,_=>none
   |_=>none
  |some (.c (.cG b t i o))=>match aT J b with
   |some (.arr j l)=>match Cell.as (.slice t) (⟨.slice j,l⟩:Cell U.D)with
    |some l=>match qJ agg k ((t.row U (t.at U l i)).map .t) o with
     |some v=>some (decide (i<l.length),v,J)
     |none=>none
    |none=>none
   |some (.cz j l A B c)=>match agg with
    |true=>none
    |false=>match Nat.beq o B with
     |true=>match Nat.beq (t.sz U) (j.sz U)with
      |true=>some (decide (i=A),.c c,J)
      |false=>none
     |false=>match Cell.as (.slice t) (⟨.slice j,l⟩:Cell U.D)with
      |some l=>match qJ false k ((t.row U (t.at U l i)).map .t) o with
       |some v=>some (decide (i<l.length),v,J)
       |none=>none
      |none=>none
   |_=>none
  |some (.c (.dO t x o))=>match qJ agg k ((t.row U x).map .t) o with
   |some v=>some (true,v,J)
   |none=>none
  |_=>none
 |.store k x v=>match c9 gl gd env x,c9 gl gd env v with
  |some (.c (.ptr b o)),some v=>match oU v with
   |some cs=>match Nat.beq cs.length k with
    |true=>match aT J b with
     |some (.box H)=>match Nat.ble (o+k) H.length with
      |true=>some (true,.a6 [],cA J b (.box (vP H o cs)))
      |false=>none
     |some (.bT e _)=>match o,cs with
      |1,[c]=>some (true,.a6 [],cA J b (.bT e c))
      |_,_=>none
     |_=>none
    |false=>none
   |none=>none
  |some (.c (.cG b t i o)),some v=>match oU v with
   |some cs=>match Nat.beq cs.length k&&Nat.ble (o+k) (t.sz U)with
    |true=>match aT J b with
     |some (.arr j l)=>match Cell.as (.slice t) (⟨.slice j,l⟩:Cell U.D)with
      |some l=>match Ow cs with
       |some c=>some (decide (i<l.length),.a6 [],cA J b (.cz t l i o c))
       |none=>match q1 U t l i o cs with
        |some G=>some (decide (i<l.length),.a6 [],cA J b (.arr t G))
        |none=>none
      |none=>none
     |some (.cz j l A B K)=>match cs with
      |[c]=>match Nat.beq o B with
       |true=>match Nat.beq (t.sz U) (j.sz U)with
        |true=>some (decide (i=A),.a6 [],cA J b (.cz j l A B c))
        |false=>none
       |false=>match Cell.as (.slice t) (⟨.slice j,l⟩:Cell U.D)with
        |some l=>match q1 U t l i o [c]with
         |some G=>some (decide (i<l.length),.a6 [],cA J b (.cz t G A B K))
         |none=>none
        |none=>none
      |_=>none
     |_=>none
    |false=>none
   |none=>none
  |_,_=>none
 |.nilCheck x=>match c9 gl gd env x with
  |some (.c (.ptr b o))=>some (true,.c (.ptr b o),J)
  |some (.c (.cG b t i o))=>some (true,.c (.cG b t i o),J)
  |some (.c (.dO t x o))=>some (true,.c (.dO t x o),J)
  |_=>none
 |.bin op x y=>match c9 gl gd env x,c9 gl gd env y with
  |some (.c (.t p)),some (.c (.t q))=>match Hh op p q with
   |some (c,r)=>some (c,.c (.t r),J)
   |none=>none
  |_,_=>none
 |.eqAgg neg ks x y=>match c9 gl gd env x,c9 gl gd env y with
  |some (.agg p),some (.agg q)=>match zx ks p q with
   |some r=>some (true,.c (.t ⟨.bool,match neg with|true=>!r|false=>r⟩),J)
   |none=>none
  |_,_=>none
 |.eqBool neg x y=>match c9 gl gd env x,c9 gl gd env y with
  |some (.c (.t ⟨.bool,p⟩)),some (.c (.t ⟨.bool,q⟩))=>some (true,.c (.t ⟨.bool,match neg with|true=>!(fg p q)|false=>fg p q⟩),J)
  |_,_=>none
 |.not x=>match c9 gl gd env x with
  |some (.c (.t ⟨.bool,b⟩))=>some (true,.c (.t ⟨.bool,!b⟩),J)
  |_=>none
 |.conv k x=>match c9 gl gd env x with
  |some (.c (.t ⟨.int _,m⟩))=>some (true,.c (.t ⟨.int k,b9 k m⟩),J)
  |_=>none
 |.i2s x=>match c9 gl gd env x with
  |some (.c (.t ⟨.int _,m⟩))=>some (true,.c (.t ⟨.str,mq m⟩),J)
  |_=>none
 |.s2s x=>match c9 gl gd env x with
  |some (.c (.t ⟨.str,s⟩))=>some (true,.c (.t ⟨.str,s⟩),J)
  |_=>none
 |.fldA off x=>match c9 gl gd env x with
  |some (.c (.ptr b o))=>some (true,.c (.ptr b (o+off)),J)
  |some (.c (.cG b t i o))=>some (true,.c (.cG b t i (o+off)),J)
  |some (.c (.dO t x o))=>some (true,.c (.dO t x (o+off)),J)
  |_=>none
 |.fld agg off k x=>match c9 gl gd env x with
  |some (.agg cs)=>match qJ agg k cs off with
   |some v=>some (true,v,J)
   |none=>none
  |_=>none
 |.idxA sz x i=>match c9 gl gd env x,c9 gl gd env i with
  |some (.c (.t ⟨.slice t,l⟩)),some (.c (.t ⟨.int _,m⟩))=>match Nat.beq (t.sz U) sz with
   |true=>some (aI m l.length,.c (.dO t (t.at U l (Int.toNat m)) 0),J)
   |false=>none
  |some (.c (.arr b)),some (.c (.t ⟨.int _,m⟩))=>match aT J b with
   |some (.arr t l)=>match Nat.beq (t.sz U) sz with
    |true=>some (aI m l.length,.c (.cG b t (Int.toNat m) 0),J)
    |false=>none
   |_=>none
  |_,_=>none
 |.idxS x i=>match c9 gl gd env x,c9 gl gd env i with
  |some (.c (.t ⟨.str,s⟩)),some (.c (.t ⟨.int _,m⟩))=>some (aI m s.length,.c (.t ⟨.int .u8,hU s m⟩),J)
  |_,_=>none
 |.slcS x d w=>match c9 gl gd env x,ns gl gd env d,ns gl gd env w with
  |some (.c (.t ⟨.str,s⟩)),some l,some h=>
   some (ez (l.getD 0) (h.getD (s.length:Int)) s.length,.c (.t ⟨.str,e1 s (l.getD 0) (h.getD (s.length:Int))⟩),J)
  |_,_,_=>none
 |.slc sz x d w=>match c9 gl gd env x,ns gl gd env d,ns gl gd env w with
  |some (.c (.t ⟨.slice t,s⟩)),some l,some h=>match Nat.beq (t.sz U) sz with
   |true=>some (ez (l.getD 0) (h.getD (s.length:Int)) s.length,.c (.t ⟨.slice t,e1 s (l.getD 0) (h.getD (s.length:Int))⟩),J)
   |false=>none
  |some (.c (.arr b)),some none,some h=>match aT J b with
   |some (.arr t s)=>match Nat.beq (t.sz U) sz with
    |true=>some (ez 0 (h.getD (s.length:Int)) s.length,.c (.pre b (Int.toNat (h.getD (s.length:Int)))),J)
    |false=>none
   |_=>none
  |some (.c (.arr b)),some (some d),some h=>match aT J b with
   |some (.arr t s)=>match Nat.beq (t.sz U) sz with
    |true=>some (ez d (h.getD (s.length:Int)) s.length,.c (.dQ b (Int.toNat d) (Int.toNat (h.getD (s.length:Int))-Int.toNat d)),J)
    |false=>none
   |_=>none
  |_,_,_=>none
 |.slc0 x=>match c9 gl gd env x with
  |some (.c (.t ⟨.slice _,_⟩))=>some (true,.c .aL,J)
  |some (.c .aL)=>some (true,.c .aL,J)
  |some (.c (.arr _))=>some (true,.c .aL,J)
  |_=>none
 |.mkfn f caps=>match lo gl gd env caps with
  |some vs=>match zv vs with
   |some l=>some (true,.c (.fn f l),J)
   |none=>none
  |none=>none
 |.ext x i=>match c9 gl gd env x with
  |some (.a6 vs)=>match vs[i]? with
   |some v=>some (true,v,J)
   |none=>none
  |_=>none
 |.len str x=>match str,c9 gl gd env x with
  |true,some (.c (.t ⟨.str,s⟩))=>some (true,.c (.t ⟨.int .i64,(s.length:Int)⟩),J)
  |false,some (.c (.cb b))=>match aT J b with
   |some (.buf _ s)=>some (true,.c (.t ⟨.int .i64,(s.length:Int)⟩),J)
   |_=>none
  |false,some v=>match qZ J v with
   |some e=>some (true,.c (.t ⟨.int .i64,(e.1.len:Int)⟩),J)
   |none=>none
  |_,_=>none
 |.append te sz bytes x y=>match c9 gl gd env x,c9 gl gd env y with
  |some (.c .aL),some v=>match qZ J v with
   |some (C,_)=>match C.blk sz with
    |some blk=>some (room bytes C.len,.c (.arr n),cA J n blk)
    |none=>none
   |none=>none
  |some (.c (.arr b)),some v=>match qZ J (.c (.arr b)),qZ J v with
   |some (pC,_),some (C,L)=>match (match L with|some E=>Nat.beq E b|none=>false)with
    |true=>none
    |false=>match PX J b sz with
     |false=>none
     |true=>match pC.join C with
      |some I=>match I.blk sz with
       |some blk=>some (room bytes I.len,.c (.arr n),cA (dl J b) n blk)
       |none=>none
      |none=>none
   |_,_=>none
  |some (.c (.pre b h)),some (.c (.dQ E d len))=>match Nat.beq b E with
   |true=>match aT J b with
    |some (.arr t l)=>match Nat.beq (t.sz U) sz with
     |true=>some (decide (h+len<=l.length)&&decide (d+len<=l.length),.c (.arr n),cA (dl J b) n (.arr t (l.take h++(l.drop d).take len)))
     |false=>none
    |_=>none
   |false=>none
  |some (.c (.cb b)),some (.c (.t ⟨.slice (.int .u8),ys⟩))=>match aT J b with
   |some (.buf u l)=>match Nat.beq u te&&Nat.beq sz 1 with
    |true=>some (room bytes (List.length l+List.length (strOf ys))&&GM ys,.c (.cb n),cA (dl J b) n (.buf u (tB l (strOf ys))))
    |false=>none
   |_=>none
  |_,_=>none
 |.max2 x y=>match c9 gl gd env x,c9 gl gd env y with
  |some (.c (.t ⟨.int k,a⟩)),some (.c (.t ⟨.int F,b⟩))=>if k=F then some (true,.c (.t ⟨.int k,iw a b⟩),J)else none
  |_,_=>none
 |.min2 x y=>match c9 gl gd env x,c9 gl gd env y with
  |some (.c (.t ⟨.int k,a⟩)),some (.c (.t ⟨.int F,b⟩))=>if k=F then some (true,.c (.t ⟨.int k,eN a b⟩),J)else none
  |_,_=>none
 |.eqNil .. |.call .. |.hW .. =>none
end
section
open Go
variable {U:cE}
inductive b8 (N:Nat)(J:a7 U):bh U->C->Prop
 |t (c:Cell U.D):b8 N J (.t c) (.t (c.enc U))
 |ptr (b o:Nat):b8 N J (.ptr b o) (.ptr b o)
 |cG (b:Nat) (t:aF) (i o:Nat):b8 N J (.cG b t i o) (.cG b (t.sz U) i o)
 |dO (t:aF) (x:t.den U.D) (o:Nat):b8 N J (.dO t x o) (.dO (t.enc U x) o)
 |arr (b sz n:Nat) (wK:b<N) (h:∀x,aT J b=some x->∀p,x.c8=some p->p=(sz,n)):b8 N J (.arr b) (.arr b sz 0 n)
 |sub (b nN len:Nat):b8 N J (.sub b nN len) (.fL b 1 nN len)
 |pre (b sz h:Nat) (wK:b<N) (adB:∀x,aT J b=some x->∀p,x.c8=some p->p.1=sz):b8 N J (.pre b h) (.arr b sz 0 h)
 |dQ (b sz nN len:Nat) (wK:b<N) (adB:∀x,aT J b=some x->∀p,x.c8=some p->p.1=sz):b8 N J (.dQ b nN len) (.fL b sz nN len)
 |mp (b:Nat):b8 N J (.mp b) (.mp b)
 |eu (b:Nat):b8 N J (.eu b) (.eu b)
 |cb (b n:Nat) (wK:b<N) (h:∀x,aT J b=some x->∀p,x.c8=some p->p=(1,n)):b8 N J (.cb b) (.cb b n)
 |aL:b8 N J .aL .aL
 |e6:b8 N J .e6 .e6
 |e5:b8 N J .e5 .e5
 |fn (f:Nat) (caps:aW):b8 N J (.fn f caps) (.fn f caps)
 |dead (d:C):b8 N J .dead d
inductive bN (N:Nat)(J:a7 U):bC U->V->Prop
 |c {x d}:b8 N J x d->bN N J (.c x) (.c d)
 |agg {xs od}:aX (b8 N J) xs od->bN N J (.agg xs) (.agg od)
 |a6 (xs:List (bC U)) (od:List V) (ad:xs.length=od.length) (h:∀(i:Nat) x d,xs[i]?=some x->od[i]?=some d->bN N J x d):bN N J (.a6 xs) (.a6 od)
inductive hC (N:Nat)(J:a7 U):cI U->bP->Prop
 |box {cs od}:aX (b8 N J) cs od->hC N J (.box cs) (.box od)
 |arr (t:aF) (l:List (t.den U.D)):hC N J (.arr t l) (.arr (t.sz U) (l.map (t.enc U)))
 |set (ks:List ao):hC N J (.set ks) (.set ks)
 |buf (E:Nat) (s:ao):hC N J (.buf E s) (.buf E s)
 |bT {E c d}:b8 N J c d->hC N J (.bT E c) (.bT E d)
 |cz (t:aF) (l:List (t.den U.D)) (i o:Nat) {c d}:b8 N J c d->hC N J (.cz t l i o c) (.cz (t.sz U) (l.map (t.enc U)) i o d)
 |rows {sz r es}:aX (λr e=>hA r=some e) r es->(∀x,x∈r->x.length=sz)->hC N J (.rows sz r) (.arr sz es)
def cm(N:Nat)(J:a7 U)(J1:aZ):Prop:=∀b x,aT J b=some x->b<N/\∃y,aR J1 b=some y/\hC N J x y
def cN(N:Nat)(J:a7 U)(G:Nat->Bool)(env:bK U)(env1:Env):Prop:=∀k v,aT env k=some v->∃v1,look env1 k=some (G k,v1)/\bN N J v v1
structure gJ (gl:ev)(env:bK U)(G:Nat->Bool):Prop where
 free:∀k,aT gl k=none->G k=true
 held:∀k t b,aT gl k=some (t,b)->∃y,fe env t b=some y/\G k=(G t&&y)
def dc(N:Nat)(J:a7 U)(N':Nat)(J':a7 U):Prop:=N<=N'/\∀b a,b<N->aT J' b=some a->∃x,aT J b=some x/\∀p,a.c8=some p->x.c8=some p
variable{J:a7 U}{x:bh U}{v1:V}{t:aF}{o:Nat}{v:bC U}{cs:List (bh U)}
theorem dc.refl{N:Nat}:dc N J N J:=⟨e9 _,λ_ x _ h=>⟨x,h,λ_ h=>h⟩⟩
theorem dc.more{N N':Nat}(h:N<=N'):dc N J N' J:=⟨h,λ_ x _ h=>⟨x,h,λ_ h=>h⟩⟩
theorem dc.trans{a c e:Nat}{s1 g j:a7 U}(h:dc a s1 c g)(k:dc c g e j):dc a s1 e j:=
 ⟨gz h.1 k.1,λb x f v=>let⟨y,h1,o⟩:=k.2 b x (jg f h.1) v;let⟨z,q,t⟩:=h.2 b y f h1;⟨z,q,λp aj=>t p (o p aj)⟩⟩
section
variable {N N':Nat}{J J':a7 U}{J1:aZ}{env:bK U}{env1:Env}{G:Nat->Bool}{gl:ev}{gd:Option (Nat×Bool)}
theorem b8.mono(k:dc N J N' J'){d:C}(h:b8 N J x d):b8 N' J' x d:=by
 cases h with
 |t c=>exact .t c
 |ptr b o=>exact .ptr b o
 |cG b t i o=>exact .cG b t i o
 |dO t x o=>exact .dO t x o
 |arr b sz n a h=>
  refine .arr b sz n (jg a k.1) λx e p aj=>?_;obtain⟨y,h1,g⟩:=k.2 b x a e;grind
 |sub b j len=>exact .sub b j _
 |pre b sz n a h=>
  refine .pre b sz n (jg a k.1) λx e p aj=>?_;obtain⟨y,h1,g⟩:=k.2 b x a e;grind
 |dQ b sz j len a h=>
  refine .dQ b sz j _ (jg a k.1) λx e p aj=>?_;obtain⟨y,h1,g⟩:=k.2 b x a e;grind
 |mp b=>exact .mp b
 |eu b=>exact .eu b
 |cb b n a h=>
  refine .cb b n (jg a k.1) λx e p aj=>?_;obtain⟨y,h1,g⟩:=k.2 b x a e;grind
 |aL=>exact .aL
 |e6=>exact .e6
 |e5=>exact .e5
 |fn f caps=>exact .fn f _
 |dead d=>exact .dead d
theorem bN.mono(k:dc N J N' J'){x:bC U}{d:V}(h:bN N J x d):bN N' J' x d:=by
 induction h with
 |c h=>exact .c (h.mono k)
 |agg h=>exact .agg (h.imp λ_ _ _=>b8.mono k)
 |a6 xs a ad h ih=>exact .a6 xs a ad ih
theorem hC.mono(k:dc N J N' J'){x:cI U}{d:bP}(h:hC N J x d):hC N' J' x d:=by
 cases h with
 |box h=>exact .box (h.imp λ_ _ _=>b8.mono k)
 |arr t l=>exact .arr t l
 |set ks=>exact .set ks
 |buf E s=>exact .buf E s
 |bT h=>exact .bT (h.mono k)
 |cz t l i o h=>exact .cz t l i o (h.mono k)
 |rows h a=>exact .rows h a
theorem cN.mono(k:dc N J N' J')(h:cN N J G env env1):cN N' J' G env env1:=λi v c=>let⟨v1,h1,a⟩:=h i v c;⟨v1,h1,a.mono k⟩
theorem cm.put(h:cm N J J1){b:Nat}{x:cI U}{y:bP}(o:b<N')(k:dc N J N' (cA J b x))(p:hC N' (cA J b x) x y):cm N' (cA J b x) (c7 J1 b y):=by
 intro c z a;rw[hj]at a;rw[cR];by_cases g:b=c
 . grind
 . rw[al g]at a⊢;obtain⟨h1,j,e,f⟩:=h c z a;exact⟨jg h1 k.1,j,e,f.mono k⟩
theorem kz{x:cI U}(h:N<=N':=by simp):dc N J N' (cA J N x):=by
 refine⟨h,λb d a c=>?_⟩;grind[hj]
theorem nJ{b:Nat}{x a:cI U}(h:N<=N')(h0:aT J b=some a)(e:∀p,x.c8=some p->a.c8=some p):dc N J N' (cA J b x):=by
 refine⟨h,λc g d f=>?_⟩;grind[hj]
theorem qD{b:Nat}:dc N J N (dl J b):=by
 refine⟨e9 _,λc e a d=>?_⟩;grind[mF]
theorem RE{d:C}(h:CQ d=some x):b8 N J x d:=by
 unfold CQ at h;split at h<;>cases h
 . exact b8.t _
 . exact b8.t _
 . exact b8.t (U:=U) _
 . exact .aL
 . exact .e6
 . exact .e5
 . exact .dead _
 . exact .fn _ _
theorem p9:∀{a:List C} {xs:List (bh U)},mQ a=some xs->aX (b8 N J) xs a
 |[],xs,h=>by simp[mQ]at h;subst h;exact .nil
 |d::a,xs,h=>by
  simp[mQ]at h;split at h
  . rename_i x ys h1 b;cases h;exact .cons (RE h1) (p9 b)
  grind
theorem RF{d:V}{x:bC U}(h:vR d=some x):bN N J x d:=by
 cases d with
 |c d=>
  simp[vR]at h;split at h
  . rename_i y a;cases h;exact .c (RE a)
  grind
 |agg b=>
  simp[vR]at h;split at h
  . rename_i y a;cases h;exact .agg (p9 a)
  grind
 |a6 _=>grind[vR]
def cD(env:bK U)(G:Nat->Bool):Option (Nat×Bool)->Bool
 |none=>true
 |some (t,b)=>G t&&(fe env t b).getD false
theorem gJ.aT(ak:gJ gl env G)(k:Nat):cD env G (aT gl k)=G k:=by
 cases h:Shv.aT gl k with
 |none=>exact(ak.free k h).symm
 |some g=>
  obtain⟨t,b⟩:=g;obtain⟨y,h1,a⟩:=ak.held k t b h;grind[cD]
theorem BD(ak:gJ gl env G):∀{a:Nat} {gd:Option (Nat×Bool)} {g:Bool},la gl env a gd=some g->g=cD env G gd
 |_,none,g,h=>by unfold la at h;simp at h;subst h;rfl
 |0,some _,g,h=>by grind[la]
 |a+1,some (t,b),g,h=>by
  simp[la]at h;split at h
  . rename_i x y h1 c;cases h;rw[BD ak h1,ak.aT t];grind[cD]
  grind
theorem YD:∀{a:Nat} {t:Nat} {b:Bool} {g:Bool},la gl env a (some (t,b))=some g->∃y,fe env t b=some y
 |0,t,b,g,h=>by grind[la]
 |a+1,t,b,g,h=>by
  grind[la]
theorem bN.dT(h:bN N J (.c x) v1):∃d,v1= .c d/\b8 N J x d:=by cases h<;>grind
theorem bN.lu{xs:List (bh U)}(h:bN N J (.agg xs) v1):∃a,v1= .agg a/\aX (b8 N J) xs a:=by cases h<;>grind
theorem bN.vK{c:Cell U.D}(h:bN N J (.c (.t c)) v1):v1= .c (.t (c.enc U)):=by obtain⟨d,rfl,aa⟩:=h.dT;cases aa;rfl
theorem bN.iX{b:Bool}(h:bN N J (.c (.t ⟨.bool,b⟩)) v1):v1= .c (.t (.bool b)):=h.vK
theorem bN.fp{k:IntKind}{m:Int}(h:bN N J (.c (.t ⟨.int k,m⟩)) v1):v1= .c (.t (.int k m)):=h.vK
theorem bN.kh{s:ao}(h:bN N J (.c (.t ⟨.str,s⟩)) v1):v1= .c (.t (.str s)):=h.vK
theorem bN.jm{l:List (t.den U.D)}(h:bN N J (.c (.t ⟨.slice t,l⟩)) v1):v1= .c (.t (.slice (l.map (t.enc U)))):=h.vK
theorem bN.gU{b:Nat}(h:bN N J (.c (.ptr b o)) v1):v1= .c (.ptr b o):=by obtain⟨d,rfl,aa⟩:=h.dT;cases aa;rfl
theorem bN.iM{b i:Nat}(h:bN N J (.c (.cG b t i o)) v1):v1= .c (.cG b (t.sz U) i o):=by obtain⟨d,rfl,aa⟩:=h.dT;cases aa;rfl
theorem bN.Dy{x:t.den U.D}(h:bN N J (.c (.dO t x o)) v1):v1= .c (.dO (t.enc U x) o):=by obtain⟨d,rfl,aa⟩:=h.dT;cases aa;rfl
theorem bN.tA(h:bN N J (.c .aL) v1):v1= .c .aL:=by obtain⟨d,rfl,aa⟩:=h.dT;cases aa;rfl
theorem bN.g'{b:Nat}(h:bN N J (.c (.arr b)) v1):∃sz n,v1= .c (.arr b sz 0 n)/\b<N/\∀x,Shv.aT J b=some x->∀p,x.c8=some p->p=(sz,n):=by
 obtain⟨d,rfl,aa⟩:=h.dT;cases aa<;>grind
theorem bN.Am{b:Nat}(h:bN N J (.c (.mp b)) v1):v1= .c (.mp b):=by obtain⟨d,rfl,aa⟩:=h.dT;cases aa;rfl
theorem bN.OR{b:Nat}(h:bN N J (.c (.eu b)) v1):v1= .c (.eu b):=by obtain⟨d,rfl,aa⟩:=h.dT;cases aa;rfl
theorem bN.wb{b:Nat}(h:bN N J (.c (.cb b)) v1):∃n,v1= .c (.cb b n)/\b<N/\∀x,Shv.aT J b=some x->∀p,x.c8=some p->p=(1,n):=by
 obtain⟨d,rfl,aa⟩:=h.dT;cases aa<;>grind
theorem bN.Dt{f:Nat}{caps:aW}(h:bN N J (.c (.fn f caps)) v1):v1= .c (.fn f caps):=by
 obtain⟨d,rfl,aa⟩:=h.dT;cases aa;rfl
theorem YE{t:Nat}{b y:Bool}(he:cN N J G env env1)(h:fe env t b=some y):∃x,look env1 t=some (G t,.c (.t (.bool x)))/\y=(x==b):=by
 unfold fe at h;split at h
 . rename_i x d;cases h;obtain⟨v1,h1,a⟩:=he t _ d;have:=a.iX;grind
 grind
theorem BO(he:cN N J G env env1)(h:gd=none\/∃t b y,gd=some (t,b)/\fe env t b=some y):fX env1 gd=some (cD env G gd):=by
 grind[YE,fX,cD]
theorem BE(ak:gJ gl env G):∀{c:Nat} {gd:Option (Nat×Bool)} {k:Nat},cD env G gd=true->vH gl c gd k=true->G k=true
 |0,gd,k,_,h=>by grind[vH]
 |c+1,gd,k,i,h=>by
  simp[vH]at h;split at h
  . rename_i a;exact ak.free k a
  . rename_i d a;split at h
    . grind
    . rename_i g;obtain⟨t,b⟩:=g;obtain⟨j,f⟩:=d;simp only[lV,cX,ix]at h;rcases h with⟨h1,e⟩|h
      . have:=cM h1;subst this;subst e;obtain⟨y,bb,bq⟩:=ak.held k t b a;grind[cD]
      . refine BE ak ?_ h;rw[ak.aT t];grind[cD]
theorem cd(he:cN N J G env env1)(ak:gJ gl env G){x:aO}(h:c9 gl gd env x=some v):
 ∃p v1,x.get env1=some (p,v1)/\bN N J v v1/\(cD env G gd=true->p):=by
 cases x with
 |const d=>exact⟨True,d,rfl,RF h,λ_=>trivial⟩
 |tmp k=>
  simp[c9]at h;split at h
  . rename_i hs;obtain⟨v1,h1,a⟩:=he k v h;exact⟨_,v1,by grind[aO.get],a,λb=>BE ak b hs⟩
  grind
theorem Hv(he:cN N J G env env1)(ak:gJ gl env G){c x:aO}{b y:Bool}{i:bC U}(g:c9 gl gd env c=some i)(n:i= .c (.t ⟨.bool,y⟩))(h:CS gl gd env c b x=some v):
 ∃p v1,x.get env1=some (p,v1)/\bN N J v v1/\(cD env G gd=true->y=b->p):=by
 cases x with
 |const d=>exact⟨True,d,rfl,RF h,λ_ _=>trivial⟩
 |tmp k=>
  simp[CS]at h;split at h
  . rename_i hs;obtain⟨v1,h1,a⟩:=he k v h;exact⟨_,v1,by grind[aO.get],a,λe _=>BE ak e hs⟩
  . split at h
    . rename_i q t j l;split at h
      . rename_i f;simp only[cX,ix]at f;obtain⟨h1,rfl⟩:=f;have:=cM h1;obtain⟨v1,h1,a⟩:=he k v h;refine⟨G k=true,v1,by grind[aO.get],a,λe o=>?_⟩;simp[c9]at g;split at g
        . rename_i hs;have m:=BE ak e hs;obtain⟨r,bb,bq⟩:=ak.held k t j l;grind[fe]
        grind
      grind
    grind
theorem sB(he:cN N J G env env1)(ak:gJ gl env G):∀{xs:List aO} {vs:List (bC U)},lo gl gd env xs=some vs->
 ∃p a,hv env1 xs=some (p,a)/\aX (bN N J) vs a/\(cD env G gd=true->p)
 |[],vs,h=>by simp[lo]at h;subst h;exact⟨True,[],rfl,.nil,λ_=>trivial⟩
 |x::xs,vs,h=>by
  simp[lo]at h;split at h
  . rename_i v e h1 d;cases h;obtain⟨p,v1,a1,a2,a3⟩:=cd he ak h1;obtain⟨q,a,b1,b2,c⟩:=sB he ak d;exact⟨p/\q,v1::a,by grind[hv],.cons a2 b2,λb=>⟨a3 b,c b⟩⟩
  grind
theorem pb(h:bN N J v v1)(a:oU v=some cs):∃b,oR v1=some b/\aX (b8 N J) cs b:=by
 cases h with
 |c h=>simp[oU]at a;subst a;exact⟨_,rfl,.cons h .nil⟩
 |agg h=>simp[oU]at a;subst a;exact⟨_,rfl,h⟩
 |a6=>grind[oU]
theorem Fb{a:List (bh U)}{b c:List C}(h:aX (b8 N J) cs b)(d:aX (b8 N J) a c):aX (b8 N J) (vP cs o a) (tM b o c):=by
 unfold vP tM;rw[d.length];exact((h.take o).append d).append (h.drop _)
theorem hK{a b:Nat}(h:Nat.ble a b=true):a<=b:=sS h
theorem QL(he:cN N J G env env1)(ak:gJ gl env G):∀{ps:List (Nat×Nat×aO)} {cs c:List (bh U)} {b:List C},y2 gl gd env cs ps=some c->aX (b8 N J) cs b->
 ∃p d,kW env1 b ps=some (p,d)/\aX (b8 N J) c d/\(cD env G gd=true->p)
 |[],cs,c,b,h,a=>by simp[y2]at h;subst h;exact⟨True,b,rfl,a,λ_=>trivial⟩
 |(o,n,x)::r,cs,c,b,h,a=>by
  simp[y2]at h;split at h
  . grind
  . rename_i v g;split at h
    . grind
    . rename_i es f;split at h
      . rename_i e;simp only[cX]at e;have i:=cM e.1;have j:=hK e.2;obtain⟨p,v1,a1,a2,a3⟩:=cd he ak g;obtain⟨fs,b1,b2⟩:=pb a2 f;obtain⟨q,d,c1,c2,c3⟩:=QL he ak h (Fb a b2);refine⟨p/\q,d,?_,c2,λa=>⟨a3 a,c3 a⟩⟩;simp only[kW,a1,aq,b1];rw[af ⟨by rw[<-b2.length];grind,by rw[<-a.length];grind⟩,c1];rfl
      grind
theorem Xx{d:C}{t:T}(h:b8 N J x d)(ht:x.toT=some t):Shv.toT d=some t:=by
 cases h<;>simp[bh.toT]at ht
 . split at ht
   . grind
   . cases ht;rfl
 . subst ht;rfl
theorem xN:∀{cs:List (bh U)} {a:List C} {ts:List T},aX (b8 N J) cs a->hA cs=some ts->toTs a=some ts
 |[],[],ts,_,h=>by simp[hA]at h;subst h;rfl
 |c::cs,d::a,ts,.cons h1 b,h=>by
  simp[hA]at h;split at h
  . rename_i t f ht e;cases h;simp[toTs,Xx h1 ht,xN b e]
  grind
theorem Fx:∀{cs:List (bh U)} {ts:List T},hA cs=some ts->ts.length=cs.length
 |[],ts,h=>by grind[hA]
 |c::cs,ts,h=>by
  simp[hA]at h;split at h
  . rename_i t b ht a;cases h;simp[Fx a]
  grind
theorem aX.set{α c:Type}{R:α->c->Prop}{l:List α}{m:List c}(h:aX R l m){i:Nat}{a:α}{b:c}(f:R a b):aX R (l.set i a) (m.set i b):=by
 induction h generalizing i with
 |nil=>exact .nil
 |cons h1 e ih=>cases i with
  |zero=>exact .cons f e
  |succ i=>exact .cons h1 ih
theorem FM(he:cN N J G env env1)(ak:gJ gl env G){sz:Nat}:∀{ps:List (Nat×aO)} {a b:List (List (bh U))} {es:List (List T)},vh gl gd env sz a ps=some b->
 aX (λr e=>hA r=some e) a es->(∀r,r∈a->r.length=sz)->∃p c,jB env1 sz es ps=some (p,c)/\aX (λr e=>hA r=some e) b c/\(∀r,r∈b->r.length=sz)/\(cD env G gd=true->p)
 |[],a,b,es,h,d,ad=>by simp[vh]at h;subst h;exact⟨True,es,rfl,d,ad,λ_=>trivial⟩
 |(i,x)::ps,a,b,es,h,d,ad=>by
  simp[vh]at h;split at h
  . grind
  . rename_i v l;split at h
    . grind
    . rename_i cs k;split at h
      . grind
      . rename_i ts j;split at h
        . rename_i f;simp only[cX]at f;have n:=cM f.1;have o:=hK f.2;obtain⟨p,v1,a1,a2,a3⟩:=cd he ak l;obtain⟨m,b1,b2⟩:=pb a2 k;obtain⟨q,c,c1,c2,c4,c3⟩:=FM he ak h (aX.set d j) (by grind);refine⟨p/\q,c,?_,c2,c4,λg=>⟨a3 g,c3 g⟩⟩;simp only[jB,a1,aq,b1,xN b2 j];rw[af ⟨by grind[Fx],by rw[<-d.length];omega⟩,c1];rfl
        grind
end
end
section
open Go
variable {U:cE}
structure dX (N:Nat)(J:a7 U)(J1:aZ)(o:cH)(env1:Env)(g c:Bool)(v:bC U)(J':a7 U):Prop where
 val:∃v1,bN (N+16) J' v v1/\(g=true->c=true->∃p bj,aM o env1 J1 N=some (p,v1,bj)/\p/\cm (N+16) J' bj)
 afi:dc N J (N+16) J'
 adY:o.neutral=true->J'=J
variable{v1:V}{g agg neg:Bool}{o:cH}{cs:List (bh U)}{α:Type}{t:aF}{ts:List T}{J1:aZ}{x y:aO}{off:Nat}{es:List (List T)}{e:fU U}{R:α->α->Prop}
section
variable {N N':Nat}{J J':a7 U}{J1:aZ}{env:bK U}{env1:Env}{G:Nat->Bool}{gl:ev}{gd:Option (Nat×Bool)}{c:Bool}{v:bC U}
theorem cm.mono(h:cm N J J1)(cp:N<=N'):cm N' J J1:=λb x e=>
 let⟨h1,y,a,c⟩:=h b x e;⟨jg h1 cp,y,a,c.mono (dc.more cp)⟩
theorem dX.neutral(aA:cm N J J1)(j:bN N J v v1)(e:g=true->c=true->∃p,aM o env1 J1 N=some (p,v1,J1)/\p):dX N J J1 o env1 g c v J:=
 ⟨⟨v1,j.mono (dc.more (by simp)),λak f=>let⟨p,h1,a⟩:=e ak f;⟨p,J1,h1,a,aA.mono (by simp)⟩⟩,dc.more (by simp),λ_=>rfl⟩
theorem dX.store(aP:o.neutral=false)(e:dc N J (N+16) J')(f:bN (N+16) J' v v1)(a:g=true->c=true->∃p bj,aM o env1 J1 N=some (p,v1,bj)/\p/\cm (N+16) J' bj):dX N J J1 o env1 g c v J':=
 ⟨⟨v1,f,a⟩,e,λh=>by grind⟩
theorem ui{k o:Nat}{b:List C}(a:aX (b8 N J) cs b)(h:qJ agg k cs o=some v):∃v1,jG agg k b o=some v1/\bN N J v v1:=by
 unfold qJ at h;split at h
 . split at h
   . cases h;refine⟨_,by simp only[jG,b7];rw[af (by rw[<-a.length];simp_all)],.agg ((a.drop o).take k)⟩
   grind
 . split at h
   . rename_i x f;cases h;obtain⟨d,h1,e⟩:=a.get f;exact⟨_,by grind[jG],.c e⟩
   grind
theorem aX.map_map{c e j:Type}{R:e->j->Prop}{f:α->e}{g:c->j}:∀{l:List α} {m:List c},aX (λa b=>R (f a) (g b)) l m->aX R (l.map f) (m.map g)
 |[],[],_=>.nil
 |_::_,_::_,.cons h1 o=>.cons h1 (aX.map_map o)
theorem aX.self(h:∀a,R a a):∀(l:List α),aX R l l
 |[]=>.nil
 |a::l=>.cons (h a) (aX.self h l)
theorem xO{x:t.den U.D}:aX (b8 N J) ((t.row U x).map .t) ((t.enc U x).map .t):=by
 rw[aF.tK,List.map_map];exact aX.map_map (aX.self (λc=>b8.t c) _)
theorem GC{k o:Nat}{v:V}(ad:jG agg k (ts.map .t) o=some v):loadT agg k ts o=some v:=by
 unfold jG at ad;unfold loadT;cases agg<;>simp_all
theorem Xe{op:BinOp}{p q:Cell U.D}{r:Cell U.D}(h:Hh op p q=some (c,r)):∃d,pH op (p.enc U) (q.enc U)=some (d,r.enc U)/\(c=true->d):=by
 unfold Hh at h;split at h
 . rename_i k a e b;show ∃d,pH op (.int k a) (.int e b)=some (d,r.enc U)/\(c=true->d);cases op<;>simp only[PG,reduceCtorEq,ey]at h
   all_goals first
    |(obtain⟨rfl,rfl,rfl⟩:=h;exact⟨_,by simp only[pH];rfl,λh=>by simpa using h⟩)
    |(obtain⟨rfl,rfl⟩:=h)
    |(obtain⟨rfl,rfl,rfl⟩:=h)
 . rename_i a b;cases op<;>simp only[PH,ef]at h
   all_goals first
    |(obtain⟨rfl,rfl⟩:=h;exact⟨_,by rfl,λh=>by simpa using h⟩)
    |(obtain⟨rfl,rfl⟩:=h)
 . cases h
theorem Xf{k:Nat}{x y:Cell U.D}{b:Bool}(h:Hj k x y=some b):wE k (x.enc U) (y.enc U)=some b:=by
 unfold Hj at h;split at h
 . cases h;rfl
 . simp at h;obtain⟨rfl,rfl⟩:=h;show(if _ then _ else _)=_;rw[af rfl];rfl
 . cases h;rfl
 grind
theorem Qm:∀{ks:aW} {xs ys:List (bh U)} {a es:List C} {b:Bool},zx ks xs ys=some b->aX (b8 N J) xs a->aX (b8 N J) ys es->k' ks a es=some b
 |[],[],[],[],[],b,h,.nil,.nil=>by simp[zx]at h;subst h;rfl
 |k::ks,.t x::xs,.t y::ys,d::a,e::es,b,h,.cons h1 c,.cons f g=>by
  simp[zx]at h;split at h
  . rename_i b1 r i j;cases h;cases h1;cases f;simp[k',Xf i,Qm j c g]
  grind
theorem Qn{a b:ao}:(tB a b).length=a.length+b.length:=db
theorem Zg{a b:Int}:fy a b=true↔a=b:=by simp[fy]
theorem qG{m:Int}{n:Nat}:aI m n=true↔0<=m/\m.toNat<n:=by simp[aI]
theorem iI{b a:Int}{n:Nat}:ez b a n=true↔0<=b/\b<=a/\a<=n:=by simp[ez]
theorem ZI{s:List (t.den U.D)}{l r:Option Int}{a pl b:Prop}{sz:Nat}:
 (some (a/\pl/\b/\0<=l.getD 0/\l.getD 0<=r.getD ((List.map (t.enc U) s).length:Int)/\r.getD ((List.map (t.enc U) s).length:Int)<=((List.map (t.enc U) s).length:Int)/\∀e,e∈List.map (t.enc U) s->e.length=sz,
  V.c (C.t (T.slice (((List.map (t.enc U) s).take (r.getD ((List.map (t.enc U) s).length:Int)).toNat).drop (l.getD 0).toNat))),J1):zB)=
 some (a/\pl/\b/\0<=l.getD 0/\l.getD 0<=r.getD (s.length:Int)/\r.getD (s.length:Int)<=(s.length:Int)/\∀e,e∈List.map (t.enc U) s->e.length=sz,
  V.c (C.t (Cell.enc U ⟨.slice t,e1 s (l.getD 0) (r.getD (s.length:Int))⟩)),J1):=by
 have:Cell.enc U ⟨.slice t,e1 s (l.getD 0) (r.getD s.length)⟩=T.slice (List.map (t.enc U) _):=rfl;grind[e1,List.map_drop,List.map_take]
variable{a:Type}{f:α->a}
theorem ZJ{l:List α}{p:Prop}:(some (p,V.c (C.t (T.int .i64 ((l.map f).length:Int))),J1):zB)=some (p,V.c (C.t (.int .i64 (l.length:Int))),J1):=by simp
theorem uS{l:List α}{i:Nat}(h:i<l.length):i<(l.map f).length:=by grind
theorem aX.replicate{c:Type}{R:α->c->Prop}{a:α}{b:c}(h:R a b):∀n:Nat,aX R (List.replicate n a) (List.replicate n b)
 |0=>.nil
 |n+1=>.cons h (aX.replicate h n)
theorem EG:∀{xs:List (bh U)} {df:List aF} {es:List C} {row:List (Cell U.D)},ig df xs=some row->aX (b8 N J) xs es->toTs es=some (row.map (Cell.enc U))
 |[],df,es,row,h1,a=>by
  cases a;cases df<;>simp[ig]at h1;subst h1;rfl
 |y::ys,[],es,row,h1,a=>by grind[ig]
 |y::ys,ty::df,_::_,row,h1,.cons a d=>by
  cases a with
  |t c=>cases ty<;>simp only[ig]at h1<;>(split at h1<;>first|(cases h1;done)|(rename_i q b;cases h1;simp[toTs,toT,EG b d]))
  |aL=>
   cases ty<;>simp[ig]at h1;split at h1
   . rename_i q b;cases h1;simp[toTs,EG b d];rfl
   grind
  |_=>grind[ig]
theorem O'{sz:Nat}:∀{ps:List (Nat×aO)} {es c:List (List T)} {p:Prop},jB env1 sz es ps=some (p,c)->c.length=es.length
 |[],es,c,p,h=>by grind[jB]
 |(i,x)::ps,es,c,p,h=>by
  simp only[jB,bf,ey,bu]at h;obtain⟨a,_,cs,_,ts,_,_,b,d,_,rfl⟩:=h;have:=O' d;grind
theorem Fy{l m:List (t.den U.D)}{i o:Nat}{e:List C}(h:q1 U t l i o cs=some m)(s:i<l.length)(j:aX (b8 N J) cs e)(z:o+cs.length<=t.sz U):
 ∃ts,toTs e=some ts/\m.map (t.enc U)=(l.map (t.enc U)).set i ((el (l.map (t.enc U)) i).take o++ts++(el (l.map (t.enc U)) i).drop (o+cs.length)):=by
 unfold q1 at h;split at h
 . rename_i x d;cases h;unfold pD at d;split at d
   . rename_i row v;have u:=aF.DH d;have key:=@EG U N J;have w:aX (b8 N J) ((t.row U (t.at U l i)).map .t) _:=xO;have n:=Fb (o:=o) w j;have h1:=key v n;have g:∀{a b:List C} {r:List T},toTs (a++b)=some r->∃p q,toTs a=some p/\toTs b=some q/\r=p++q:=by
      intro a;induction a with
      |nil=>intro b r h;exact⟨[],r,rfl,h,rfl⟩
      |cons c a ih=>
       intro b r h;simp[toTs,bf,bu]at h;grind[toTs]
     have k:∀(ts:List T),toTs (ts.map .t)=some ts:=by
      intro ts;induction ts with
      |nil=>rfl
      |cons a ts ih=>grind[toTs,toT]
     obtain⟨p,q,aK,f,dD⟩:=g h1;obtain⟨A,y,f1,f2,f3⟩:=g aK;rw[<-List.map_take,k]at f1;cases f1;rw[<-List.map_drop,k]at f;cases f;refine⟨y,f2,?_⟩;rw[List.map_set,y1 s,aF.tK,u,dD,f3,j.length]
   grind
 grind
variable (he:cN N J G env env1)(ak:gJ gl env G)(aA:cm N J J1)
section
include he ak aA
theorem aeX(h:cj gl gd env J N (.mov x)=some (c,v,J')):dX N J J1 (.mov x) env1 (cD env G gd) c v J':=by
 simp[cj]at h;split at h
 . rename_i w b;cases h;obtain⟨p,v1,a1,a2,a3⟩:=cd he ak b;exact .neutral aA a2 λa _=>⟨p,by grind[aM],a3 a⟩
 grind
theorem ZK{z:aO}(h:cj gl gd env J N (.pick x y z)=some (c,v,J')):dX N J J1 (.pick x y z) env1 (cD env G gd) c v J':=by
 simp[cj]at h;split at h
 . rename_i b p q h1 e f;cases h;obtain⟨g,v1,a1,a2,a3⟩:=cd he ak h1;obtain⟨i,v2,b1,b2,d⟩:=Hv he ak h1 rfl e;obtain⟨j,v3,c1,c2,c3⟩:=Hv he ak h1 rfl f;have:=a2.iX;subst this;have:=b2.iX;subst this;have:=c2.iX;subst this;refine .neutral aA (.c (.t _)) λa _=>⟨g/\(b=true->i)/\(b=false->j),by simp only[aM,a1,b1,c1];rfl,a3 a,d a,c3 a⟩
 grind
theorem Xg(h:cj gl gd env J N (.nilCheck x)=some (c,v,J')):dX N J J1 (.nilCheck x) env1 (cD env G gd) c v J':=by
 simp[cj]at h;split at h
 . rename_i b o d;cases h;obtain⟨p,v1,a1,a2,a3⟩:=cd he ak d;have:=a2.gU;subst this;exact .neutral aA a2 λa _=>⟨p,by simp[aM,a1],a3 a⟩
 . rename_i b t i o d;cases h;obtain⟨p,v1,a1,a2,a3⟩:=cd he ak d;have:=a2.iM;subst this;exact .neutral aA a2 λa _=>⟨p,by simp[aM,a1],a3 a⟩
 . rename_i t e o d;cases h;obtain⟨p,v1,a1,a2,a3⟩:=cd he ak d;have:=a2.Dy;subst this;exact .neutral aA a2 λa _=>⟨p,by simp[aM,a1],a3 a⟩
 grind
theorem aeY(h:cj gl gd env J N (.not x)=some (c,v,J')):dX N J J1 (.not x) env1 (cD env G gd) c v J':=by
 simp[cj]at h;split at h
 . rename_i b d;cases h;obtain⟨p,v1,a1,a2,a3⟩:=cd he ak d;have:=a2.iX;subst this;exact .neutral aA (.c (.t _)) λa _=>⟨p,by simp[aM,a1];rfl,a3 a⟩
 grind
theorem ZL{k:IntKind}(h:cj gl gd env J N (.conv k x)=some (c,v,J')):dX N J J1 (.conv k x) env1 (cD env G gd) c v J':=by
 simp only[cj]at h;split at h
 . rename_i d m b;cases h;obtain⟨p,v1,a1,a2,a3⟩:=cd he ak b;have:=a2.fp;subst this;exact .neutral aA (.c (.t _)) λa _=>⟨p,by simp[aM,a1];rfl,a3 a⟩
 grind
theorem aeV(h:cj gl gd env J N (.i2s x)=some (c,v,J')):dX N J J1 (.i2s x) env1 (cD env G gd) c v J':=by
 simp[cj]at h;split at h
 . rename_i d m b;cases h;obtain⟨p,v1,a1,a2,a3⟩:=cd he ak b;have:=a2.fp;subst this;exact .neutral aA (.c (.t _)) λa _=>⟨p,by simp[aM,a1];rfl,a3 a⟩
 grind
theorem aeZ(h:cj gl gd env J N (.s2s x)=some (c,v,J')):dX N J J1 (.s2s x) env1 (cD env G gd) c v J':=by
 simp[cj]at h;split at h
 . rename_i s b;cases h;obtain⟨p,v1,a1,a2,a3⟩:=cd he ak b;have:=a2.kh;subst this;exact .neutral aA a2 λa _=>⟨p,by simp[aM,a1],a3 a⟩
 grind
theorem ZM(h:cj gl gd env J N (.fldA off x)=some (c,v,J')):dX N J J1 (.fldA off x) env1 (cD env G gd) c v J':=by
 simp[cj]at h;split at h
 . rename_i b o d;cases h;obtain⟨p,v1,a1,a2,a3⟩:=cd he ak d;have:=a2.gU;subst this;exact .neutral aA (.c (.ptr _ _)) λa _=>⟨p,by simp[aM,a1],a3 a⟩
 . rename_i b t i o d;cases h;obtain⟨p,v1,a1,a2,a3⟩:=cd he ak d;have:=a2.iM;subst this;exact .neutral aA (.c (.cG _ _ _ _)) λa _=>⟨p,by simp[aM,a1],a3 a⟩
 . rename_i t e o d;cases h;obtain⟨p,v1,a1,a2,a3⟩:=cd he ak d;have:=a2.Dy;subst this;exact .neutral aA (.c (.dO _ _ _)) λa _=>⟨p,by simp[aM,a1],a3 a⟩
 grind
theorem aeU{k:Nat}(h:cj gl gd env J N (.fld agg off k x)=some (c,v,J')):dX N J J1 (.fld agg off k x) env1 (cD env G gd) c v J':=by
 simp[cj]at h;split at h
 . rename_i cs b;split at h
   . rename_i w ad;cases h;obtain⟨p,v1,a1,a2,a3⟩:=cd he ak b;obtain⟨d,rfl,b2⟩:=a2.lu;obtain⟨v2,c1,c2⟩:=ui b2 ad;exact .neutral aA c2 λa _=>⟨p,by grind[aM],a3 a⟩
   grind
 grind
theorem ZN{k:Nat}(h:cj gl gd env J N (.load agg k x)=some (c,v,J')):dX N J J1 (.load agg k x) env1 (cD env G gd) c v J':=by
 simp only[cj]at h;split at h
 . rename_i b o g;split at h
   . rename_i cs f;split at h
     . rename_i w ad;cases h;obtain⟨p,v1,a1,a2,a3⟩:=cd he ak g;have:=a2.gU;subst this;obtain⟨_,y,b1,b2⟩:=aA b _ f;cases b2 with
       |box b2=>
        obtain⟨v2,c1,c2⟩:=ui b2 ad;exact .neutral aA c2 λa _=>⟨p,by simp[aM,a1,b1,c1],a3 a⟩
     . cases h
   . rename_i E r f;split at h
     . cases h;obtain⟨p,v1,a1,a2,a3⟩:=cd he ak g;have:=a2.gU;subst this;obtain⟨_,y,b1,b2⟩:=aA b _ f;cases b2 with
       |bT b2=>exact .neutral aA (.c b2) λa _=>⟨p,by simp[aM,a1,b1],a3 a⟩
     . cases h
   . cases h
 . rename_i b t i o g;split at h
   . rename_i q u f;split at h
     . rename_i l ad;have e:=Cell.jS ad;split at h
       . rename_i w m;cases h;obtain⟨p,v1,a1,a2,a3⟩:=cd he ak g;have:=a2.iM;subst this;obtain⟨_,y,b1,b2⟩:=aA b _ f;cases b2 with
         |arr=>
          obtain⟨v2,c1,c2⟩:=ui xO m;refine .neutral aA c2 λa d=>⟨p/\t.sz U=t.sz U/\i<(List.map (t.enc U) l).length,?_,a3 a,rfl,uS (gk d)⟩
          simp only[gE]at d;grind[GC,aM,y1]
       . cases h
     . cases h
   . rename_i q u s z r f;split at h
     . cases h
     . split at h
       . rename_i j;split at h
         . rename_i n;cases h;have j:=cM j;have n:=cM n;subst j;obtain⟨p,v1,a1,a2,a3⟩:=cd he ak g;have:=a2.iM;subst this;obtain⟨_,y,b1,b2⟩:=aA b _ f;cases b2 with
           |cz _ _ _ _ b2=>
            refine .neutral aA (.c b2) λa d=>⟨p/\t.sz U=q.sz U/\i=s,?_,a3 a,n,gk d⟩
            simp only[aM,a1,aq,b1];simp
         . cases h
       . rename_i j;have j:=hJ j;split at h
         . rename_i l ad;have e:=Cell.jS ad;cases e;split at h
           . rename_i w m;cases h;obtain⟨p,v1,a1,a2,a3⟩:=cd he ak g;have:=a2.iM;subst this;obtain⟨_,y,b1,b2⟩:=aA b _ f;cases b2 with
             |cz _ _ _ _ b2=>
              obtain⟨v2,c1,c2⟩:=ui xO m;refine .neutral aA c2 λa d=>⟨p/\t.sz U=t.sz U/\i<(List.map (t.enc U) l).length,?_,a3 a,rfl,uS (gk d)⟩
              simp only[gE]at d;have c1:=GC c1;simp only[aM,a1,aq,b1];rw[ch,al j,y1 d,c1];rfl
           . cases h
         . cases h
   . cases h
 . rename_i t A o g;split at h
   . rename_i w ad;cases h;obtain⟨p,v1,a1,a2,a3⟩:=cd he ak g;have:=a2.Dy;subst this;obtain⟨v2,c1,c2⟩:=ui xO ad;have c1:=GC c1;exact .neutral aA c2 λa _=>⟨p,by simp[aM,a1,c1],a3 a⟩
   . cases h
 grind
theorem aeR{op:BinOp}(h:cj gl gd env J N (.bin op x y)=some (c,v,J')):dX N J J1 (.bin op x y) env1 (cD env G gd) c v J':=by
 simp[cj]at h;split at h
 . rename_i p q aj e;split at h
   . rename_i k r f;cases h;obtain⟨g,v1,a1,a2,a3⟩:=cd he ak aj;obtain⟨i,v2,b1,b2,b⟩:=cd he ak e;have:=a2.vK;have:=b2.vK;obtain⟨j,d1,d2⟩:=Xe f;exact .neutral aA (.c (.t _)) λa d=>⟨g/\i/\j,by grind[aM],a3 a,b a,d2 d⟩
   grind
 grind
theorem Zh{ks:aW}(h:cj gl gd env J N (.eqAgg neg ks x y)=some (c,v,J')):dX N J J1 (.eqAgg neg ks x y) env1 (cD env G gd) c v J':=by
 simp[cj]at h;split at h
 . rename_i p q aj e;split at h
   . rename_i r f;cases h;obtain⟨g,v1,a1,a2,a3⟩:=cd he ak aj;obtain⟨i,v2,b1,b2,b⟩:=cd he ak e;obtain⟨j,rfl,d2⟩:=a2.lu;obtain⟨es,rfl,d⟩:=b2.lu;have:=Qm f d2 d;exact .neutral aA (.c (.t _)) λa k=>⟨g/\i,by simp[aM,a1,b1,this];cases neg<;>rfl,a3 a,b a⟩
   . cases h
 . cases h
theorem YF(h:cj gl gd env J N (.eqBool neg x y)=some (c,v,J')):dX N J J1 (.eqBool neg x y) env1 (cD env G gd) c v J':=by
 simp[cj]at h;split at h
 . rename_i p q aj d;cases h;obtain⟨e,v1,a1,a2,a3⟩:=cd he ak aj;obtain⟨f,v2,b1,b2,b⟩:=cd he ak d;have:=a2.iX;subst this;have:=b2.iX;subst this;exact .neutral aA (.c (.t _)) λa g=>⟨e/\f,by simp only[aM,a1,b1];cases neg<;>rfl,a3 a,b a⟩
 grind
theorem ZO{sz:Nat}(h:cj gl gd env J N (.idxA sz x y)=some (c,v,J')):dX N J J1 (.idxA sz x y) env1 (cD env G gd) c v J':=by
 simp[cj]at h;split at h
 . rename_i t l k m aj i;split at h
   . rename_i d;have d:=cM d;cases h;obtain⟨j,v1,a1,a2,a3⟩:=cd he ak aj;obtain⟨o,v2,b1,b2,f⟩:=cd he ak i;have:=a2.jm;subst this;have:=b2.fp;subst this;by_cases p:aI m (List.length l)=true
     . obtain⟨h1,g⟩:=qG.1 p;refine .neutral aA (v1:= .c (.dO (el (List.map (t.enc U) l) (Int.toNat m)) 0)) ?_ λa e=>⟨j/\o/\(0:Int)<=m/\Int.toNat m<(List.map (t.enc U) l).length/\(el (List.map (t.enc U) l) (Int.toNat m)).length=sz,by simp only[aM,a1,b1,aq],a3 a,f a,h1,uS g,by rw[y1 g,aF.rq];exact d⟩
       rw[y1 g];exact .c (.dO _ _ _)
     . exact .neutral aA (.c (.dO _ _ _)) λa e=>absurd e p
   . cases h
 . rename_i b k m aj i;split at h
   . rename_i t l q;split at h
     . rename_i d;have d:=cM d;cases h;obtain⟨j,v1,a1,a2,a3⟩:=cd he ak aj;obtain⟨o,v2,b1,b2,f⟩:=cd he ak i;obtain⟨s,n,rfl,r,a⟩:=a2.g';have:=b2.fp;subst this;have:=a _ q _ rfl;cases this;refine .neutral aA (.c (.cG _ _ _ _)) λa e=>⟨j/\o/\(0:Int)<=m/\Int.toNat m<l.length/\sz=t.sz U,?_,a3 a,f a,(qG.1 e).1,(qG.1 e).2,d.symm⟩
       simp only[aM,a1,b1,aq,hx,d]
     . cases h
   . cases h
 grind
theorem ZP(h:cj gl gd env J N (.idxS x y)=some (c,v,J')):dX N J J1 (.idxS x y) env1 (cD env G gd) c v J':=by
 simp[cj]at h;split at h
 . rename_i s k m aj e;cases h;obtain⟨f,v1,a1,a2,a3⟩:=cd he ak aj;obtain⟨g,v2,b1,b2,d⟩:=cd he ak e;have:=a2.kh;subst this;have:=b2.fp;subst this;exact .neutral aA (.c (.t _)) λb a=>⟨f/\g/\(0:Int)<=m/\Int.toNat m<List.length s,by simp only[aM,a1,b1];rfl,a3 b,d b,(qG.1 a).1,(qG.1 a).2⟩
 grind
theorem pc{x:Option aO}{l:Option Int}(h:ns gl gd env x=some l):∃p,jF env1 x=some (p,l)/\(cD env G gd=true->p):=by
 unfold ns at h;split at h
 . cases h;exact⟨True,rfl,λ_=>trivial⟩
 . split at h
   . rename_i k n a;cases h;obtain⟨b,v1,a1,a2,a3⟩:=cd he ak a;have:=a2.fp;subst this;exact⟨b,by simp[jF,a1],a3⟩
   grind
theorem aaY{d b:Option aO}(h:cj gl gd env J N (.slcS x d b)=some (c,v,J')):dX N J J1 (.slcS x d b) env1 (cD env G gd) c v J':=by
 simp[cj]at h;split at h
 . rename_i s l r aj ad f;cases h;obtain⟨i,v1,a1,a2,a3⟩:=cd he ak aj;obtain⟨pl,g,l2⟩:=pc he ak aA ad;obtain⟨j,k,m⟩:=pc he ak aA f;have:=a2.kh;subst this;exact .neutral aA (.c (.t _)) λa e=>⟨i/\pl/\j/\0<=l.getD 0/\l.getD 0<=r.getD _/\r.getD _<=List.length s,by simp[aM,a1,g,k];rfl,a3 a,l2 a,m a,iI.1 e⟩
 grind
theorem ae0{sz:Nat}{i B:Option aO}(h:cj gl gd env J N (.slc sz x i B)=some (c,v,J')):dX N J J1 (.slc sz x i B) env1 (cD env G gd) c v J':=by
 simp only[cj]at h;split at h
 . rename_i t s l r aj ad j;split at h
   . rename_i d;have d:=cM d;cases h;obtain⟨k,v1,a1,a2,a3⟩:=cd he ak aj;obtain⟨pl,z,l2⟩:=pc he ak aA ad;obtain⟨m,q,o⟩:=pc he ak aA j;have:=a2.jm;subst this;refine .neutral aA (.c (.t (U:=U) ⟨.slice t,_⟩)) λf a=>⟨k/\pl/\m/\0<=l.getD 0/\l.getD 0<=r.getD (List.length s:Int)/\r.getD (List.length s:Int)<=(List.length s:Int)/\∀e,e∈List.map (t.enc U) s->e.length=sz,?_,a3 f,l2 f,o f,(iI.1 a).1,(iI.1 a).2.1,(iI.1 a).2.2,?_⟩
     . simp only[aM,a1,z,q,aq];exact ZI
     grind[aF.rq]
   grind
 . rename_i b r aj ad j;split at h
   . rename_i t s u;split at h
     . rename_i d;have d:=cM d;cases h;obtain⟨k,v1,a1,a2,a3⟩:=cd he ak aj;obtain⟨m,q,o⟩:=pc he ak aA j;obtain⟨D,n,rfl,w,f⟩:=a2.g';have A:=f _ u (t.sz U,s.length) rfl;have y:i=none:=by
        cases i with
        |none=>rfl
        |some x=>grind[ns]
       subst y;refine .neutral aA (.c (.pre b (t.sz U) _ w λx C p aj=>?_)) λg a=>⟨k/\True/\m/\0<=(none:Option Int).getD 0/\(none:Option Int).getD 0<=r.getD (List.length s:Int)/\r.getD (List.length s:Int)<=(List.length s:Int)/\sz=t.sz U,?_,a3 g,trivial,o g,(iI.1 a).1,(iI.1 a).2.1,(iI.1 a).2.2,d.symm⟩
       . grind
       . have E:jF env1 none=some (True,none):=rfl;grind[aM]
     grind
   grind
 . rename_i b l r aj ad j;split at h
   . rename_i t s u;split at h
     . rename_i d;have d:=cM d;cases h;obtain⟨k,v1,a1,a2,a3⟩:=cd he ak aj;obtain⟨pl,z,l2⟩:=pc he ak aA ad;obtain⟨m,q,o⟩:=pc he ak aA j;obtain⟨D,n,rfl,w,f⟩:=a2.g';have A:=f _ u (t.sz U,s.length) rfl;obtain⟨rfl,rfl⟩:=A;have y:i.isNone=false:=by
        cases i with
        |none=>simp[ns]at ad
        |some x=>rfl
       refine .neutral aA (.c (.dQ b (t.sz U) _ _ w λx C p aj=>?_)) λg a=>⟨k/\pl/\m/\0<=(some l:Option Int).getD 0/\(some l:Option Int).getD 0<=r.getD (List.length s:Int)/\r.getD (List.length s:Int)<=(List.length s:Int)/\sz=t.sz U,?_,a3 g,l2 g,o g,(iI.1 a).1,(iI.1 a).2.1,(iI.1 a).2.2,d.symm⟩
       . grind
       . simp only[aM,a1,z,q,aq,y,ca,b4,hx];rfl
     grind
   grind
 grind
theorem aaZ(h:cj gl gd env J N (.slc0 x)=some (c,v,J')):dX N J J1 (.slc0 x) env1 (cD env G gd) c v J':=by
 simp[cj]at h;split at h
 . rename_i t l d;cases h;obtain⟨p,v1,a1,a2,a3⟩:=cd he ak d;have:=a2.jm;subst this;exact .neutral aA (.c .aL) λa _=>⟨p,by simp[aM,a1],a3 a⟩
 . rename_i d;cases h;obtain⟨p,v1,a1,a2,a3⟩:=cd he ak d;have:=a2.tA;subst this;exact .neutral aA (.c .aL) λa _=>⟨p,by simp[aM,a1],a3 a⟩
 . rename_i b d;cases h;obtain⟨p,v1,a1,a2,a3⟩:=cd he ak d;obtain⟨sz,n,rfl,_⟩:=a2.g';exact .neutral aA (.c .aL) λa _=>⟨p,by simp[aM,a1],a3 a⟩
 grind
theorem Qo:∀{vs:List (bC U)} {a:List V} {l:aW},zv vs=some l->aX (bN N J) vs a->aM.ri a=some l
 |[],[],l,h,.nil=>by simp[zv]at h;subst h;rfl
 |.c (.ptr b 0)::vs,d::a,l,h,.cons h1 e=>by
  simp only[zv]at h;split at h
  . rename_i f ad;cases h;have:=h1.gU;subst this;simp[aM.ri,Qo ad e]
  grind
theorem aa0{f:Nat}{caps:List aO}(h:cj gl gd env J N (.mkfn f caps)=some (c,v,J')):dX N J J1 (.mkfn f caps) env1 (cD env G gd) c v J':=by
 simp[cj]at h;split at h
 . rename_i vs b;split at h
   . rename_i l ad;cases h;obtain⟨p,d,a1,a2,a3⟩:=sB he ak b;exact .neutral aA (.c (.fn _ _)) λa _=>⟨p,by simp[aM,a1,Qo he ak aA ad a2],a3 a⟩
   . cases h
 grind
theorem aeT{i:Nat}(h:cj gl gd env J N (.ext x i)=some (c,v,J')):dX N J J1 (.ext x i) env1 (cD env G gd) c v J':=by
 simp[cj]at h;split at h
 . rename_i vs f;split at h
   . rename_i w a;cases h;obtain⟨p,v1,a1,a2,a3⟩:=cd he ak f;cases a2 with
     |a6 _ b ad d=>
      have g:=(dV.1 a).1;have e:=eF (l:=b) (i:=i) (by omega);exact .neutral aA (d i _ _ a e) λak _=>⟨p,by grind[aM],a3 ak⟩
   grind
 grind
theorem aa1(h:cj gl gd env J N (.max2 x y)=some (c,v,J')):dX N J J1 (.max2 x y) env1 (cD env G gd) c v J':=by
 simp only[cj]at h;split at h
 . rename_i k a l b aj f;simp at h;obtain⟨rfl,rfl,rfl,rfl⟩:=h;obtain⟨g,v1,a1,a2,a3⟩:=cd he ak aj;obtain⟨i,v2,b1,b2,e⟩:=cd he ak f;have:=a2.fp;subst this;have:=b2.fp;subst this;exact .neutral aA (.c (.t (U:=U) _)) λd j=>⟨g/\i,by simp[aM,a1,b1];rfl,a3 d,e d⟩
 grind
theorem aa2(h:cj gl gd env J N (.min2 x y)=some (c,v,J')):dX N J J1 (.min2 x y) env1 (cD env G gd) c v J':=by
 simp[cj]at h;split at h
 . rename_i k a l b aj f;simp at h;obtain⟨rfl,rfl,rfl,rfl⟩:=h;obtain⟨g,v1,a1,a2,a3⟩:=cd he ak aj;obtain⟨i,v2,b1,b2,e⟩:=cd he ak f;have:=a2.fp;subst this;have:=b2.fp;subst this;exact .neutral aA (.c (.t _)) λd j=>⟨g/\i,by simp only[aM,a1,b1,aq];rfl,a3 d,e d⟩
 grind
theorem Y2{z:List C}{parts:List (Nat×Nat×aO)}(h:cj gl gd env J N (.build z parts)=some (c,v,J')):dX N J J1 (.build z parts) env1 (cD env G gd) c v J':=by
 simp[cj]at h;split at h
 . rename_i f d;split at h
   . rename_i cs a;cases h;obtain⟨p,e,a1,a2,a3⟩:=QL he ak a (p9 d);exact .neutral aA (.agg a2) λb _=>⟨p,by grind[aM],a3 b⟩
   grind
 grind
theorem aac{cs:List C}(h:cj gl gd env J N (.alloc cs)=some (c,v,J')):dX N J J1 (.alloc cs) env1 (cD env G gd) c v J':=by
 simp[cj]at h;split at h
 . rename_i xs a;cases h;have k:dc N J (N+16) (cA J N (.box xs)):=kz;exact .store rfl k (.c (.ptr _ _)) λb _=>⟨True,_,rfl,trivial,aA.put (by simp) k (.box (p9 a))⟩
 grind
theorem aeS(h:cj gl gd env J N (.box x)=some (c,v,J')):dX N J J1 (.box x) env1 (cD env G gd) c v J':=by
 simp[cj]at h;split at h
 . rename_i w d;split at h
   . rename_i cs a;cases h;obtain⟨p,v1,a1,a2,a3⟩:=cd he ak d;obtain⟨e,b1,b2⟩:=pb a2 a;have k:dc N J (N+16) (cA J N (.box cs)):=kz;exact .store rfl k (.c (.ptr _ _)) λb _=>⟨p,_,by grind[aM],a3 b,aA.put (by simp) k (.box (b2.imp λ_ _ _=>b8.mono k))⟩
   grind
 grind
theorem X9{sz len:Nat}{z:List C}{parts:List (Nat×aO)}(h:cj gl gd env J N (.bslice sz len z parts)=some (c,v,J')):dX N J J1 (.bslice sz len z parts) env1 (cD env G gd) c v J':=by
 simp[cj]at h;split at h
 . rename_i m j;split at h
   . cases h
   . rename_i ts f;split at h
     . grind
     . rename_i b;have b:=cM b;split at h
       . rename_i rows a;cases h;have l:=p9 (N:=N) (J:=J) j;obtain⟨p,es,a1,a2,a4,a3⟩:=FM he ak a (aX.replicate (R:=λr e=>hA r=some e) f _) (by intro r a;rw[DM a];exact b);have k:dc N J (N+16) (cA J N (.rows sz rows)):=kz (by omega);refine .store rfl k (.c (.arr N sz es.length (by omega) ?_)) λi _=>⟨p,_,by simp[aM,xN l f,aq,a1,lW];rw[O' a1,List.length_replicate],a3 i,aA.put (by omega) k (.rows a2 a4)⟩
         intro x g q d;rw[hj,af rfl]at g;cases g;simp[cI.c8]at d;rw[<-d,a2.length]
       . cases h
 grind
omit he ak aA in
theorem Xy{a:List C}(h:toTs a=some ts):yx a=none:=by
 unfold yx;grind[toTs,toT]
omit he ak aA in
theorem X'{J1:aZ}{w:bC U}{d:V}(h:bN N J w d)(e:∀b a len,w≠.c (.dQ b a len))(f:∀b a len,w≠.c (.sub b a len))(g:w≠.c .dead):l3 v1 d=none:=by
 unfold l3;split
 . cases h with
   |c h=>
    cases h<;>grind
 rfl
theorem aad{k:Nat}(h:cj gl gd env J N (.store k x y)=some (c,v,J')):dX N J J1 (.store k x y) env1 (cD env G gd) c v J':=by
 simp only[cj]at h;split at h
 . rename_i b o w g s;split at h
   . rename_i cs n;split at h
     . rename_i u;have u:=cM u;split at h
       . rename_i X B;split at h
         . rename_i T;have T:=hK T;cases h;obtain⟨p,v1,a1,a2,a3⟩:=cd he ak g;obtain⟨q,v2,b1,b2,f⟩:=cd he ak s;have:=a2.gU;subst this;obtain⟨es,c1,c2⟩:=pb b2 n;obtain⟨A,z,d1,d2⟩:=aA b _ B;cases d2 with
           | @box _ fs d2=>
            have a:dc N J (N+16) (cA J b (.box (vP X o cs))):=nJ (by simp) B (λp h=>by grind[cI.c8]);refine .store rfl a (.a6 [] [] rfl (by simp)) λd _=>⟨p/\q,_,?_,⟨a3 d,f d⟩,aA.put (by omega) a (.box (Fb (d2.imp λ_ _ _=>b8.mono a) (c2.imp λ_ _ _=>b8.mono a)))⟩
            simp only[aM,a1,b1,aq,c1];rw[af (by rw[<-c2.length];grind),d1];dsimp only;rw[af (by rw[<-d2.length];grind)]
         grind
       . rename_i E H B;split at h
         . rename_i H _;cases h;obtain⟨p,v1,a1,a2,a3⟩:=cd he ak g;obtain⟨q,v2,b1,b2,f⟩:=cd he ak s;have:=a2.gU;obtain⟨es,c1,c2⟩:=pb b2 n;obtain⟨A,z,d1,d2⟩:=aA b _ B;cases d2 with
           |bT d2=>
            cases c2 with|cons c2 c3=>
            cases c3;have a:dc N J (N+16) (cA J b (.bT E H)):=nJ (by simp) B (λp h=>by grind[cI.c8]);refine .store rfl a (.a6 [] [] rfl (by simp)) λd _=>⟨p/\q,_,?_,⟨a3 d,f d⟩,aA.put (by omega) a (.bT (c2.mono a))⟩
            simp only[aM,a1,b1,aq,c1];grind
         grind
       grind
     grind
   grind
 . rename_i b t i o w g s;split at h
   . rename_i cs n;split at h
     . rename_i u;simp only[cX]at u;have P:=cM u.1;have K:=hK u.2;split at h
       . rename_i M R j;split at h
         . rename_i l ad;have e:=Cell.jS ad;cases e;split at h
           . rename_i I aa;cases h;obtain⟨rfl,O,rfl⟩:cs=[I]/\∃O,I= .arr O:=by
              unfold Ow at aa;grind
             obtain⟨p,v1,a1,a2,a3⟩:=cd he ak g;obtain⟨q,v2,b1,b2,f⟩:=cd he ak s;have:=a2.iM;obtain⟨es,c1,c2⟩:=pb b2 n;cases c2 with|cons c2 c3=>
             cases c3;have W:=c2;cases c2 with|arr _ aj ai ag ah=>
             obtain⟨A,z,d1,d2⟩:=aA b _ j;cases d2 with
             |arr=>
              have a:dc N J (N+16) (cA J b (.cz t l i o (.arr O))):=nJ (by simp) j (λp h=>by grind[cI.c8]);refine .store rfl a (.a6 [] [] rfl (by simp)) λd m=>⟨p/\q/\t.sz U=t.sz U/\i<(List.map (t.enc U) l).length/\o+k<=t.sz U,_,?_,⟨a3 d,f d,rfl,uS (gk m),K⟩,aA.put (by omega) a (.cz t l i o (W.mono a))⟩
              simp only[aM,a1,b1,aq,c1];simp_all[af,yx]
           split at h
           . rename_i l2 L;cases h;obtain⟨p,v1,a1,a2,a3⟩:=cd he ak g;obtain⟨q,v2,b1,b2,f⟩:=cd he ak s;have:=a2.iM;subst this;obtain⟨es,c1,c2⟩:=pb b2 n;obtain⟨A,z,d1,d2⟩:=aA b _ j;cases d2 with
             |arr=>
              have Z:l2.length=List.length l:=by
               grind[q1]
              have a:dc N J (N+16) (cA J b (.arr t l2)):=nJ (by simp) j (λp h=>by
               grind[cI.c8])
              refine .store rfl a (.a6 [] [] rfl (by simp)) λd m=>?_;have C:i<List.length l:=gk m;obtain⟨ts,aK,Y⟩:=Fy L C c2 (by grind);refine⟨p/\q/\t.sz U=t.sz U/\i<(List.map (t.enc U) l).length/\o+k<=t.sz U,_,?_,⟨a3 d,f d,rfl,uS C,K⟩,aA.put (by omega) a (.arr t l2)⟩;simp only[aM,a1,b1,aq,c1];rw[af (by rw[<-c2.length];grind),d1];grind[Xy]
           grind
         grind
       . rename_i M R D V H j;split at h
         . rename_i I;split at h
           . rename_i r;split at h
             . rename_i Q;cases h;have r:=cM r;have Q:=cM Q;subst r;obtain⟨p,v1,a1,a2,a3⟩:=cd he ak g;obtain⟨q,v2,b1,b2,f⟩:=cd he ak s;have:=a2.iM;subst this;obtain⟨es,c1,c2⟩:=pb b2 n;cases c2 with|cons c2 c3=>
               cases c3;obtain⟨A,z,d1,d2⟩:=aA b _ j;cases d2 with
               |cz _ _ _ _ d2=>
                have a:dc N J (N+16) (cA J b (.cz M R D o I)):=nJ (by simp) j (λp h=>by grind[cI.c8]);refine .store rfl a (.a6 [] [] rfl (by simp)) λd m=>⟨p/\q/\t.sz U=M.sz U/\i=D,_,?_,⟨a3 d,f d,Q,gk m⟩,aA.put (by omega) a (.cz M R D o (c2.mono a))⟩
                simp only[aM,a1,b1,aq,c1];rw[af (by simpa using P),d1];dsimp only;rw[af rfl]
             . cases h
           . rename_i r;have r:=hJ r;split at h
             . rename_i l ad;have e:=Cell.jS ad;cases e;split at h
               . rename_i l2 L;cases h;obtain⟨p,v1,a1,a2,a3⟩:=cd he ak g;obtain⟨q,v2,b1,b2,f⟩:=cd he ak s;have:=a2.iM;subst this;obtain⟨es,c1,c2⟩:=pb b2 n;obtain⟨A,z,d1,d2⟩:=aA b _ j;cases d2 with
                 |cz _ _ _ _ d2=>
                  have Z:l2.length=List.length l:=by
                   unfold q1 at L;grind
                  have a:dc N J (N+16) (cA J b (.cz t l2 D V H)):=nJ (by omega) j (λp h=>by
                   simp only[cI.c8]at h⊢
                   grind)
                  refine .store rfl a (.a6 [] [] rfl (by simp)) λd m=>?_;have C:i<List.length l:=gk m;obtain⟨ts,aK,Y⟩:=Fy L C c2 (by rw[P];exact K);cases c2 with| @cons _ S _ _ c2 c3=>
                  cases c3;obtain⟨F,ab,ae⟩:∃F,Shv.toT S=some F/\ts=[F]:=by
                   simp only[toTs]at aK;cases g:Shv.toT S with
                   |none=>rw[g]at aK;simp at aK
                   |some F=>rw[g]at aK;simp at aK;exact⟨F,rfl,aK.symm⟩
                  refine⟨p/\q/\t.sz U=t.sz U/\i<(List.map (t.enc U) l).length/\o+k<=t.sz U,_,?_,⟨a3 d,f d,rfl,uS C,K⟩,aA.put (by omega) a (.cz t l2 D V (d2.mono a))⟩;simp only[aM,a1,b1,aq,c1];rw[af (by simpa using P),d1];dsimp only;rw[al r,ab];subst ae;grind
               . cases h
             . cases h
         . cases h
       . cases h
     . cases h
   . cases h
 . cases h
inductive kn:fU U->List (List T)->Prop
 |ty (t:aF) (l:List (t.den U.D)):kn (.ty t l) (l.map (t.enc U))
 |rows {r es}:aX (λr e=>hA r=some e) r es->kn (.rows r) es
 |nil:kn .nil []
omit he ak aA in
theorem kn.length(h:kn e es):es.length=e.len:=by
 cases h with
 |ty t l=>simp[fU.len]
 |rows h=>simp[fU.len,h.length]
 |nil=>rfl
omit he ak aA in
theorem Fc:∀{xs:List (bh U)} {df:List aF} {e:List T} {row:List (Cell U.D)},ig df xs=some row->hA xs=some e->e=row.map (Cell.enc U)
 |[],df,e,row,h1,a=>by
  grind[ig,hA]
 |y::ys,[],e,row,h1,a=>by grind[ig]
 |y::ys,ty::df,e,row,h1,a=>by
  simp[hA]at a;split at a
  . rename_i t ts ht d;cases a;cases y with
    |t c=>
     simp[bh.toT]at ht;split at ht
     . grind
     . cases ht;cases ty<;>simp[ig]at h1<;>(split at h1<;>first|(cases h1;done)|(rename_i q b;cases h1;rw[Fc b d];rfl))
    |aL=>
     simp[bh.toT]at ht;subst ht;cases ty<;>simp[ig]at h1;split at h1
     . rename_i q b;cases h1;rw[Fc b d];rfl
     grind
    |_=>grind[bh.toT]
  grind
omit he ak aA in
theorem aa3{r:List (bh U)}{x:t.den U.D}{e:List T}(h:pD U t r=some x)(he:hA r=some e):t.enc U x=e:=by
 grind[pD,aF.tK,aF.DH,Fc]
omit he ak aA in
theorem u3:∀{r:List (List (bh U))} {l:List (t.den U.D)} {es:List (List T)},l4 U t r=some l->aX (λr e=>hA r=some e) r es->l.map (t.enc U)=es
 |[],l,es,h,a=>by cases a;grind[l4]
 |r::d,l,_::_,h,.cons h1 a=>by
  simp[l4]at h;split at h
  . rename_i x xs b c;cases h;rw[kd,aa3 b h1,u3 c a]
  grind
omit he ak aA in
theorem kn.as{l:List (t.den U.D)}(h:kn e es)(a:e.as t=some l):l.map (t.enc U)=es:=by
 cases h with
 |ty u c=>
  have:=Cell.jS a;grind
 |rows h=>exact u3 a h
 |nil=>grind[fU.as]
omit he ak aA in
theorem kn.join{x y z:fU U}{es fs:List (List T)}(f:kn x es)(c:kn y fs)(h:x.join y=some z):kn z (es++fs):=by
 cases f with
 |nil=>grind[fU.join]
 |ty t l=>
  simp[fU.join]at h;split at h
  . rename_i g ad;cases h;rw[<-c.as ad,<-vz];exact .ty t _
  grind
 |rows a=>
  cases c with
  |ty t l=>
   simp[fU.join]at h;split at h
   . rename_i g ad;cases h;rw[<-u3 ad a,<-vz];exact .ty t _
   grind
  |rows e=>simp[fU.join]at h;subst h;exact .rows (a.append e)
  |nil=>simp[fU.join]at h;subst h;rw[nQ];exact .rows a
omit he ak aA in
theorem kn.blk{e:fU U}{es:List (List T)}{sz:Nat}{b:cI U}(h:kn e es)(a:e.blk sz=some b):hC N' J' b (.arr sz es)/\(∀x,x∈es->x.length=sz)/\b.c8=some (sz,e.len):=by
 cases h with
 |ty t l=>
  simp[fU.blk]at a;split at a
  . rename_i hs;have:=cM hs;subst this;cases a;refine⟨.arr t l,λx c=>?_,rfl⟩;grind[aF.rq]
  grind
 | @rows r es f=>
  simp[fU.blk]at a;split at a
  . rename_i hs;cases a;simp only[f']at hs;refine⟨.rows f λx c=>cM (hs x c),λx c=>?_,rfl⟩;obtain⟨i,j,rfl⟩:=jf c;obtain⟨y,h1,g⟩:=(f.flip λ_ _ h=>h).get (eF j);rw[Fx g];grind[cM]
  grind
 |nil=>
  simp[fU.blk]at a;subst a;exact⟨.rows .nil (by simp),by simp,rfl⟩
omit he ak in
theorem GD{f:Option Nat}(c:bN N J v v1)(h:qZ J v=some (e,f)):∃es,lp J1 v1=some (es,f)/\kn e es:=by
 unfold qZ at h;split at h
 . rename_i t l;cases h;have:=c.jm;subst this;exact⟨_,rfl,.ty t l⟩
 . cases h;have:=c.tA;subst this;exact⟨_,rfl,.nil⟩
 . rename_i b;obtain⟨sz,n,rfl,i,d⟩:=c.g';split at h
   . rename_i t l ad;cases h;obtain⟨_,y,h1,a⟩:=aA b _ ad;cases a;have:=d _ ad _ rfl;cases this;exact⟨_,by simp[lp,h1],.ty t l⟩
   . rename_i j r ad;cases h;obtain⟨_,y,h1,a⟩:=aA b _ ad;cases a with
     |rows a g=>
      have:=d _ ad _ rfl;cases this;exact⟨_,by simp[lp,h1,a.length],.rows a⟩
   . cases h
 grind
theorem aeW{str:Bool}(h:cj gl gd env J N (.len str x)=some (c,v,J')):dX N J J1 (.len str x) env1 (cD env G gd) c v J':=by
 simp[cj]at h;split at h
 . rename_i s d;cases h;obtain⟨p,v1,a1,a2,a3⟩:=cd he ak d;have:=a2.kh;subst this;exact .neutral aA (.c (.t _)) λa _=>⟨p,by simp[aM,a1];rfl,a3 a⟩
 . rename_i b d;split at h
   . rename_i E s g;cases h;obtain⟨p,v1,a1,a2,a3⟩:=cd he ak d;obtain⟨n,rfl,_,f⟩:=a2.wb;have:=f _ g _ rfl;cases this;exact .neutral aA (.c (.t _)) λa _=>⟨p,by simp[aM,a1];rfl,a3 a⟩
   grind
 . rename_i w d;split at h
   . rename_i e dY;cases h;obtain⟨p,v1,a1,a2,a3⟩:=cd he ak d;refine .neutral aA (.c (.t (U:=U) ⟨.int .i64,_⟩)) λa _=>⟨p,?_,a3 a⟩
     unfold qZ at dY;split at dY
     . cases dY;have:=a2.jm;subst this;simp only[aM,a1,aq];exact ZJ
     . cases dY;have:=a2.tA;subst this;simp only[aM,a1,aq];rfl
     . obtain⟨sz,n,rfl,g,f⟩:=a2.g';simp[aM,a1];split at dY
       . rename_i t l ad;cases dY;have:=f _ ad _ rfl;cases this;rfl
       . rename_i i r ad;cases dY;have:=f _ ad _ rfl;cases this;rfl
       grind
     grind
   grind
 grind
omit he ak aA in
theorem F9{bytes n:Nat}:room bytes n=true↔(2*n+192)*bytes<=hr/\n<=dm:=by simp[room]
omit he ak aA in
theorem yi{bytes n:Nat}(h:room bytes n=true):jC n bytes/\n<=dm:=⟨.inl (F9.1 h).1,(F9.1 h).2⟩
omit he ak aA in
theorem yj:∀(l:au),bytesOf (List.map ((aF.int .u8).enc U) l)=some (strOf l)
 |[]=>rfl
 |m::l=>by
  have:=yj l;show bytesOf ([T.int _ m]::_)=_;simp[bytesOf,this];rfl
omit he ak aA in
theorem QV:∀{l:au},GM l=true->l.map ((aF.int .u8).enc U)=(strOf l).map λc=>[.int .u8 c.toNat]
 |[],_=>rfl
 |m::l,h=>by
  simp only[GM,pq,cX,gE]at h;have a:([T.int .u8 m]:List T)=[T.int .u8 ((UInt8.ofNat m.toNat).toNat:Int)]:=by rw[show((UInt8.ofNat m.toNat).toNat:Int)=m by simp[UInt8.toNat_ofNat'];omega]
  exact congr (dK List.cons a) (QV (l:=l) h.2)
theorem Ya{te sz bytes:Nat}(h:cj gl gd env J N (.append te sz bytes x y)=some (c,v,J')):dX N J J1 (.append te sz bytes x y) env1 (cD env G gd) c v J':=by
 simp only[cj]at h;split at h
 . rename_i w a s;split at h
   . rename_i ai au C;split at h
     . rename_i blk L;cases h;obtain⟨p,v1,a1,a2,a3⟩:=cd he ak a;obtain⟨q,v2,b1,b2,o⟩:=cd he ak s;have:=a2.tA;subst this;obtain⟨ys,c1,c2⟩:=GD aA b2 C;have k:dc N J (N+16) (cA J N blk):=kz (by omega);obtain⟨d1,d2,d3⟩:=c2.blk (N':=N+16) (J':=cA J N blk) L;refine .store rfl k (.c (.arr N sz ys.length (by omega) ?_)) λf j=>⟨p/\q/\(∀e,e∈ys->e.length=sz)/\jC ys.length bytes/\ys.length<=dm,_,by simp only[aM,a1,b1,aq,show l3 (.c .aL) v2=none from rfl,c1],⟨a3 f,o f,d2,?_⟩,aA.put (by omega) k d1⟩
       . intro x a r g;rw[hj,af rfl]at a;cases a;rw[d3]at g;cases g;rw[c2.length]
       . rw[c2.length];exact yi j
     . cases h
   . cases h
 . rename_i b w a s;split at h
   . rename_i pC xb ai ah aa C;split at h
     . grind
     . split at h
       . cases h
       . rename_i A;split at h
         . rename_i aw ag;split at h
           . rename_i blk L;cases h;obtain⟨p,v1,a1,a2,a3⟩:=cd he ak a;obtain⟨q,v2,b1,b2,o⟩:=cd he ak s;obtain⟨m,cF,Y,I,W⟩:=a2.g';subst Y;obtain⟨ys,c1,c2⟩:=GD aA b2 C;obtain⟨xs,aK,P⟩:=GD aA a2 aa;have d:=P.join c2 ag;have B:dc N (dl J b) (N+16) (cA (dl J b) N blk):=kz (by omega);have k:dc N J (N+16) (cA (dl J b) N blk):=dc.trans qD B;obtain⟨d1,d2,d3⟩:=d.blk (N':=N+16) (J':=cA (dl J b) N blk) L;obtain⟨hs,aP⟩:aR J1 b=some (.arr m xs)/\cF=xs.length:=by
              simp only[lp]at aK;grind
             have X:m=sz:=by
              unfold PX at A;split at A
              . rename_i z d;split at A
                . rename_i r g;have:=W _ d _ g;simp_all
                . cases A
              . cases A
             subst X;have H:cm N (dl J b) (gV J1 b):=by
              intro i z d;rw[mF]at d;split at d
              . cases d
              . rename_i Q;obtain⟨h1,y,F,u⟩:=aA i z d;exact⟨h1,y,by rw[fk,al Q];exact F,u.mono qD⟩
             have ar:ah≠some b:=by
              intro e;simp_all
             refine .store rfl k (.c (.arr N m (xs++ys).length (by omega) ?_)) λf j=>⟨p/\q/\m=m/\m=m/\0=0/\cF=xs.length/\(∀e,e∈ys->e.length=m)/\jC (xs.length+ys.length) bytes/\xs.length+ys.length<=dm,_,?_,⟨a3 f,o f,rfl,rfl,rfl,aP,λe he=>d2 e (by simp[he]),?_⟩,H.put (by omega) B d1⟩
             . intro x a r g;rw[hj,af rfl]at a;cases a;rw[d3]at g;cases g;rw[d.length]
             . have Z:l3 (.c (.arr b m 0 cF)) v2=none:=by
                refine X' (J1:=J1) b2 ?_ ?_ ?_<;>(intros;rintro rfl;simp[qZ]at C)
               simp only[aM,a1,b1,aq,Z,c1,hs];grind
             . have:=yi j;rw[<-d.length,db]at this;exact this
           . cases h
         . cases h
   . cases h
 . rename_i b h0 O D len a s;split at h
   . rename_i K;have K:=cM K;subst K;split at h
     . rename_i t l ad;split at h
       . rename_i R;have R:=cM R;cases h;obtain⟨p,v1,a1,a2,a3⟩:=cd he ak a;obtain⟨q,v2,b1,b2,o⟩:=cd he ak s;cases a2 with|c a2=>
         cases a2 with|pre _ s1 _ am ab=>
         cases b2 with|c b2=>
         cases b2 with|dQ _ av _ _ an ae=>
         have aK:=ab _ ad _ rfl;have P:=ae _ ad _ rfl;obtain⟨T,z,d1,d2⟩:=aA b _ ad;cases d2 with
         |arr=>
          have B:dc N (dl J b) (N+16) (cA (dl J b) N (.arr t (l.take h0++(l.drop D).take len))):=kz (by omega);have k:=dc.trans qD B;have H:cm N (dl J b) (gV J1 b):=by
           intro i z d;rw[mF]at d;split at d
           . cases d
           . rename_i Q;obtain⟨h1,y,F,u⟩:=aA i z d;exact⟨h1,y,by simp_all[fk,al],u.mono qD⟩
          refine .store rfl k (.c (.arr N (t.sz U) (l.take h0++(l.drop D).take len).length (by omega) ?_)) λf j=>?_
          . simp_all[hj,af,cI.c8,dP]
          . simp only[cX,gE]at j;have ao:(l.take h0++(l.drop D).take len).length=h0+len:=(by grind);refine⟨p/\q/\t.sz U=t.sz U/\t.sz U=t.sz U/\t.sz U=t.sz U/\0=0/\h0+len<=(l.map (t.enc U)).length/\D+len<=(l.map (t.enc U)).length,_,?_,⟨a3 f,o f,rfl,rfl,rfl,rfl,by grind,by grind⟩,H.put (by simp) B (.arr t _)⟩;grind[l3,aM,tz,List.map_take,List.map_drop]
       . cases h
     . cases h
   . cases h
 . rename_i b ys a s;split at h
   . rename_i E l I;split at h
     . rename_i M;simp only[cX]at M;have:=cM M.1;subst this;have:=cM M.2;subst this;cases h;obtain⟨p,v1,a1,a2,a3⟩:=cd he ak a;obtain⟨q,v2,b1,b2,o⟩:=cd he ak s;obtain⟨n,rfl,T,V⟩:=a2.wb;have:=V _ I _ rfl;cases this;have:=b2.jm;subst this;obtain⟨_,z,d1,d2⟩:=aA b _ I;cases d2;have bb:dc N J N (dl J b):=qD;have bq:dc N _ (N+16) (cA (dl J b) N (.buf E (tB l (strOf ys)))):=kz;have S:cm N (dl J b) (gV J1 b):=by
        intro O x a;rw[mF]at a;split at a
        . grind
        . rename_i ap;obtain⟨h1,y,F,u⟩:=aA O x a;exact⟨h1,y,by rw[fk];grind,u.mono bb⟩
       refine .store rfl (bb.trans bq) (.c (.cb N (List.length l+List.length (strOf ys)) (by simp) λx a p aj=>?_)) λf j=>?_
       . rw[hj,af rfl]at a;cases a;simp[cI.c8]at aj;exact aj.symm.trans (dK _ Qn)
       . simp only[cX]at j;have g:=yi j.1;refine⟨p/\q/\E=E/\1=1/\List.length l=List.length l/\ys.map ((aF.int .u8).enc U)=(strOf ys).map (λc=>[.int .u8 c.toNat])/\jC _ _/\List.length l+List.length (strOf ys)<=dm,_,?_,⟨a3 f,o f,rfl,rfl,rfl,QV j.2,g.1,g.2⟩,S.put (by simp) bq (.buf _ _)⟩;simp only[aM,a1,b1,aq,show l3 (.c (.cb b (List.length l))) (.c (.t (.slice (ys.map ((aF.int .u8).enc U)))))=none from rfl,show lp J1 (.c (.t (.slice (ys.map ((aF.int .u8).enc U)))))=some (_,none)from rfl,d1];exact dK (Option.map _) (yj (U:=U) ys)
     . cases h
   . cases h
 grind
omit he ak aA in
theorem Qp{t:aF}(ht:t.tQ=false):∀{xs:List (bh U)} {a:List C} {l:List (t.den U.D)},aX (b8 N J) xs a->tf t xs=some l->∃ts,toTs a=some ts/\ts.map (λx=>[x])=l.map (t.enc U)
 |[],[],l,_,h=>by simp[tf]at h;subst h;exact⟨[],rfl,rfl⟩
 |x::xs,d::a,l,.cons h1 e,h=>by
  unfold tf at h;split at h
  . grind
  . rename_i c r i;cases i;split at h
    . rename_i y m f j;cases h;obtain⟨ts,aK,b⟩:=Qp ht e j;cases h1;have g:=Cell.jS f;subst g;refine⟨Cell.enc U ⟨t,y⟩::ts,by simp[toTs,aK,toT],?_⟩;rw[kd,b];cases t<;>first|rfl|cases ht
    . cases h
  grind
omit he ak aA in
theorem Hw{t:aF}{d:t.den U.D}:∀{xs:List (bh U)} {a:List C} {l:List (t.den U.D)} (i:Nat),aX (b8 N J) xs a->tf t xs=some l->i<a.length->b8 N J (.t ⟨t,l.getD i d⟩) (a.getD i .dead)
 |[],[],l,i,_,h,b=>absurd b (Ax _)
 |x::xs,d::a,l,i,.cons h1 e,h,b=>by
  unfold tf at h;split at h
  . grind
  . rename_i c r j;cases j;split at h
    . rename_i y m f k;cases h;cases h1;have g:=Cell.jS f;subst g;cases i with
      |zero=>exact .t _
      |succ i=>exact Hw (d:=_) i e k (Nat.lt_of_succ_lt_succ b)
    . cases h
  grind
theorem aa4{k:Nat}(h:cj gl gd env J N (.idxV k x y)=some (c,v,J')):dX N J J1 (.idxV k x y) env1 (cD env G gd) c v J':=by
 simp only[cj]at h;split at h
 . rename_i cs u m aj o;split at h
   . rename_i t l j ad;cases h;obtain⟨p,v1,a1,a2,a3⟩:=cd he ak aj;obtain⟨q,v2,b1,b2,e⟩:=cd he ak o;obtain⟨f,rfl,b⟩:=a2.lu;have:=b2.fp;subst this;have n:f.length=k:=by rw[<-b.length];exact cM j
     unfold Cm at ad;split at ad
     . rename_i s r;split at ad
       . rename_i w ht hs;cases ad;by_cases d:aI m k=true
         . obtain⟨h1,g⟩:=qG.1 d;refine .neutral aA (.c (Hw (Int.toNat m) b hs (by omega))) λa _=>⟨p/\q/\(0:Int)<=m/\Int.toNat m<k,?_,a3 a,e a,h1,g⟩
           simp only[aM,a1,b1,aq,n,b7]
         . exact .neutral aA (.c (.t _)) λa i=>absurd i d
       . cases ad
     . cases ad
   . cases h
 . cases h
theorem Yb{sz bytes:Nat}{z:List C}(h:cj gl gd env J N (.mslice sz bytes z x)=some (c,v,J')):dX N J J1 (.mslice sz bytes z x) env1 (cD env G gd) c v J':=by
 simp only[cj]at h;split at h
 . rename_i k m t aj p;split at h
   . cases h
   . rename_i ts g;split at h
     . rename_i a;split at h
       . rename_i b d;cases h;have d:=cM d;subst d;obtain⟨s,v1,a1,a2,a3⟩:=cd he ak aj;have:=a2.fp;subst this;have r:=p9 (N:=N) (J:=J) p;have bb:dc N J (N+16) (cA J N (.arr a.ty (List.replicate (Int.toNat m) a.val))):=kz (by omega);have f:a.ty.sz U=1:=by
          generalize a.ty=t0 at b;cases t0<;>first|rfl|cases b
         have n:ts=a.ty.enc U a.val:=by
          obtain⟨ty,v0⟩:=a;cases ty<;>first|(cases g;rfl)|cases b
         have o:aM (.mslice 1 bytes z x) env1 J1 N=some (s/\(0:Int)<=m/\Int.toNat m*bytes<=hr/\Int.toNat m<=dm,.c (.arr N 1 0 (Int.toNat m)),c7 J1 N (.arr 1 (List.replicate (Int.toNat m) ts))):=by
          simp only[aM,a1,aq,xN r g]
         refine .store rfl bb (.c (.arr N 1 (Int.toNat m) (by omega) ?_)) λl j=>⟨_,_,o,⟨a3 l,JH.1 j⟩,aA.put (by omega) bb ?_⟩
         . intro x i q e;rw[hj,af rfl]at i;cases i;simp[cI.c8]at e;rw[<-e,f]
         . have:=hC.arr (N:=N+16) (J:=cA J N (.arr a.ty (List.replicate (Int.toNat m) a.val))) a.ty (List.replicate (Int.toNat m) a.val);rw[f,List.map_replicate,<-n]at this;exact this
       . cases h
     . cases h
 . cases h
theorem Yc{cs:List C}(h:cj gl gd env J N (.allocA cs)=some (c,v,J')):dX N J J1 (.allocA cs) env1 (cD env G gd) c v J':=by
 simp[cj]at h;split at h
 . rename_i xs d;split at h
   . rename_i t l ad;cases h;unfold Cm at ad;split at ad
     . rename_i b r;split at ad
       . rename_i a ht hs;cases ad;obtain⟨ts,aK,e⟩:=Qp ht (p9 (N:=N) (J:=J) d) hs;have k:dc N J (N+16) (cA J N (.arr _ a)):=kz;refine .store rfl k (.c (.ptr _ _)) λf _=>⟨True,_,by simp[aM,aK];rfl,trivial,aA.put (by simp) k ?_⟩
         have g:b.ty.sz U=1:=by
          generalize b.ty=t0 at ht;cases t0<;>first|rfl|cases ht
         have:=hC.arr (N:=N+16) (J:=cA J N (.arr _ a)) _ a;grind
       grind
     grind
   grind
 grind
theorem aa5{k:Nat}(h:cj gl gd env J N (.idxP k x y)=some (c,v,J')):dX N J J1 (.idxP k x y) env1 (cD env G gd) c v J':=by
 simp[cj]at h;split at h
 . rename_i b kk m aj g;split at h
   . split at h
     . rename_i e;have e:=cM e;cases h;obtain⟨i,v1,a1,a2,a3⟩:=cd he ak aj;obtain⟨j,v2,b1,b2,f⟩:=cd he ak g;have:=a2.gU;have:=b2.fp;refine .neutral aA (.c (.cG _ _ _ _)) λd a=>⟨i/\j/\(0:Int)<=m/\Int.toNat m<k,?_,a3 d,f d,(qG.1 a).1,(qG.1 a).2⟩
       grind[aM]
     grind
   grind
 grind
theorem aa6{k:Nat}{e d:Option aO}(h:cj gl gd env J N (.slcP k x e d)=some (c,v,J')):dX N J J1 (.slcP k x e d) env1 (cD env G gd) c v J':=by
 simp[cj]at h;split at h
 . rename_i b l r aj ad g;cases h;obtain⟨j,v1,a1,a2,a3⟩:=cd he ak aj;obtain⟨pl,i,l2⟩:=pc he ak aA ad;obtain⟨m,n,o⟩:=pc he ak aA g;have:=a2.gU;subst this;exact .neutral aA (.c (.sub _ _ _)) λa f=>⟨j/\pl/\m/\0<=l.getD 0/\l.getD 0<=r.getD _/\r.getD _<=k,by simp[aM,a1,i,n],a3 a,l2 a,o a,iI.1 f⟩
 grind
omit he ak aA in
theorem aae{b len:Nat}{s:ao}(h:aR J1 b=some (.arr 1 es))(hs:bytesOf ((es.drop off).take len)=some s):mX J1 (.c (.arr b 1 off len))=some (off+len<=es.length,s):=by grind[mX]
omit he ak aA in
theorem aaf{b len:Nat}{s:ao}(h:aR J1 b=some (.arr 1 es))(hs:bytesOf ((es.drop off).take len)=some s):mX J1 (.c (.fL b 1 off len))=some (off+len<=es.length,s):=by grind[mX]
omit he ak aA in
theorem Xz{s:ao}(hs:bytesOf es=some s):mX J1 (.c (.t (.slice es)))=some (True,s):=by grind[mX]
theorem aeQ(h:cj gl gd env J N (.b2s x)=some (c,v,J')):dX N J J1 (.b2s x) env1 (cD env G gd) c v J':=by
 simp only[cj]at h;split at h
 . rename_i l aj;cases h;obtain⟨d,v1,a1,a2,a3⟩:=cd he ak aj;have:=a2.jm;subst this
   exact .neutral aA (.c (.t (U:=U) _)) λa j=>⟨d/\True,by
    simp only[aM,a1,aq]
    exact(dK _ (Xz (yj (U:=U) l))).trans rfl,a3 a,trivial⟩
 . rename_i aj;cases h;obtain⟨d,v1,a1,a2,a3⟩:=cd he ak aj;have:=a2.tA;subst this;exact .neutral aA (.c (.t (U:=U) ⟨.str,_⟩)) λa j=>⟨d/\True,by simp only[aM,a1,mX];rfl,a3 a,trivial⟩
 . rename_i b aj;split at h
   . rename_i l f;cases h;obtain⟨d,v1,a1,a2,a3⟩:=cd he ak aj;obtain⟨o,n,rfl,m,a⟩:=a2.g';have:=a _ f _ rfl;cases this;obtain⟨_,y,k,i⟩:=aA _ _ f;cases i;refine .neutral aA (.c (.t (U:=U) ⟨.str,_⟩)) λa j=>⟨d/\(0+l.length<=(l.map ((aF.int .u8).enc U)).length),?_,a3 a,by simp⟩
     simp only[aM,a1,aq];have e:bytesOf (((l.map ((aF.int .u8).enc U)).drop 0).take l.length)=some (strOf l):=(by grind[List.take_of_length_le,yj]);exact(dK (Option.map _) (aae k e)).trans rfl
   grind
 . rename_i b g len aj;split at h
   . rename_i l f;cases h;obtain⟨d,v1,a1,a2,a3⟩:=cd he ak aj;have:v1= .c (.fL b 1 g len):=by cases a2 with|c h=>cases h;rfl
     subst this;obtain⟨_,y,k,i⟩:=aA _ _ f;cases i;refine .neutral aA (.c (.t (U:=U) ⟨.str,_⟩)) λa j=>⟨d/\(g+len<=(l.map ((aF.int .u8).enc U)).length),?_,a3 a,by grind[vI]⟩
     simp only[aM,a1,aq];have e:bytesOf (((l.map ((aF.int .u8).enc U)).drop g).take len)=some (strOf ((l.drop g).take len)):=by rw[<-List.map_drop,<-List.map_take];exact yj _
     exact(dK (Option.map _) (aaf k e)).trans rfl
   grind
 grind
theorem Yd{e e8:Nat}(h:cj gl gd env J N (.allocS e e8)=some (c,v,J')):dX N J J1 (.allocS e e8) env1 (cD env G gd) c v J':=by
 obtain⟨rfl,rfl,rfl⟩:=h;have f:dc N J (N+16) (cA (cA J (N+1) (.buf e8 [])) N (.bT e (.cb (N+1)))):=by
  refine⟨by simp,λb i g a=>?_⟩;grind[hj]
 refine .store rfl f (.c (.ptr _ _)) λ_ _=>⟨True,_,rfl,trivial,λb x a=>?_⟩
 rw[hj]at a;rw[cR];by_cases h1:N=b
 . rw[af h1]at a⊢;cases a;refine⟨by omega,_,rfl,.bT (.cb _ _ (by simp) λx a p aj=>?_)⟩;rw[hj,hj]at a;grind[cI.c8]
 . rw[al h1,hj]at a;rw[al h1,cR];by_cases d:N+1=b
   . rw[af d]at a⊢;cases a;exact⟨by omega,_,rfl,.buf _ _⟩
   . rw[al d]at a⊢;obtain⟨bb,y,bq,bU⟩:=aA b x a;exact⟨by omega,y,bq,bU.mono f⟩
theorem aag(h:cj gl gd env J N .mkset=some (c,v,J')):dX N J J1 .mkset env1 (cD env G gd) c v J':=by
 obtain⟨rfl,rfl,rfl⟩:=h;have k:dc N J (N+16) (cA J N (.set [])):=kz;exact .store rfl k (.c (.mp _)) λ_ _=>⟨True,_,rfl,trivial,aA.put (by simp) k (.set _)⟩
theorem aah(h:cj gl gd env J N (.lkset x y)=some (c,v,J')):dX N J J1 (.lkset x y) env1 (cD env G gd) c v J':=by
 simp[cj]at h;split at h
 . rename_i b s f g;split at h
   . rename_i ks e;cases h;obtain⟨p,v1,a1,a2,a3⟩:=cd he ak f;obtain⟨q,v2,b1,b2,d⟩:=cd he ak g;have:=a2.Am;subst this;have:=b2.kh;subst this;obtain⟨_,z,d1,d2⟩:=aA b _ e;cases d2;exact .neutral aA (.c (.t _)) λa _=>⟨p/\q,by simp[aM,a1,b1,d1];rfl,a3 a,d a⟩
   grind
 grind
theorem aai(h:cj gl gd env J N (.upset x y)=some (c,v,J')):dX N J J1 (.upset x y) env1 (cD env G gd) c v J':=by
 simp[cj]at h;split at h
 . rename_i b s g i;split at h
   . rename_i ks d;cases h;obtain⟨p,v1,a1,a2,a3⟩:=cd he ak g;obtain⟨q,v2,b1,b2,f⟩:=cd he ak i;have:=a2.Am;subst this;have:=b2.kh;subst this;obtain⟨j,z,d1,d2⟩:=aA b _ d;cases d2;have e:dc N J (N+16) (cA J b (.set (iC ks s))):=nJ (by omega) d (λp h=>by simp[cI.c8]at h);exact .store rfl e (.a6 [] [] rfl (by simp)) λa _=>⟨p/\q,_,by simp[aM,a1,b1,d1],⟨a3 a,f a⟩,aA.put (by omega) e (.set _)⟩
   . cases h
 grind
theorem XA{e bytes:Nat}(h:cj gl gd env J N (.appendB e bytes x y)=some (c,v,J')):dX N J J1 (.appendB e bytes x y) env1 (cD env G gd) c v J':=by
 simp[cj]at h;split at h
 . rename_i b s a u;split at h
   . rename_i d l f;split at h
     . rename_i t;have:=cM t;subst this;cases h;obtain⟨p,v1,a1,a2,a3⟩:=cd he ak a;obtain⟨q,v2,b1,b2,k⟩:=cd he ak u;obtain⟨n,rfl,A,r⟩:=a2.wb;have:=r _ f _ rfl;cases this;have:=b2.kh;subst this;obtain⟨_,z,d1,d2⟩:=aA b _ f;cases d2;have bb:dc N J N (dl J b):=qD;have bq:dc N _ (N+16) (cA (dl J b) N (.buf d (tB l s))):=kz;have o:cm N (dl J b) (gV J1 b):=by
        intro j x a;rw[mF]at a;split at a
        . grind
        . rename_i B;obtain⟨h1,y,w,m⟩:=aA j x a;exact⟨h1,y,by rw[fk];grind,m.mono bb⟩
       refine .store rfl (bb.trans bq) (.c (.cb N (List.length l+List.length s) (by simp) λx a p aj=>?_)) λi g=>⟨p/\q/\d=d/\List.length l=List.length l/\jC _ _/\List.length l+List.length s<=dm,_,?_,⟨a3 i,k i,rfl,rfl,(yi g).1,(yi g).2⟩,o.put (by simp) bq (.buf _ _)⟩
       . rw[hj,af rfl]at a;cases a;simp[cI.c8]at aj;exact aj.symm.trans (dK _ Qn)
       . simp only[aM,a1,b1,aq,d1];rfl
     grind
   grind
 grind
theorem aaj(h:cj gl gd env J N (.sdata x)=some (c,v,J')):dX N J J1 (.sdata x) env1 (cD env G gd) c v J':=by
 simp[cj]at h;split at h
 . rename_i b d;cases h;obtain⟨p,v1,a1,a2,a3⟩:=cd he ak d;obtain⟨n,rfl,_,_⟩:=a2.wb;exact .neutral aA (.c (.eu _)) λa _=>⟨p,by simp[aM,a1],a3 a⟩
 grind
theorem aa7{e:Nat}(h:cj gl gd env J N (.ustr e x y)=some (c,v,J')):dX N J J1 (.ustr e x y) env1 (cD env G gd) c v J':=by
 simp[cj]at h;split at h
 . rename_i b m a s;split at h
   . rename_i d l n;split at h
     . rename_i r;have:=cM r;subst this;cases h;obtain⟨p,v1,a1,a2,a3⟩:=cd he ak a;obtain⟨q,v2,b1,b2,i⟩:=cd he ak s;have:=a2.OR;subst this;have:=b2.fp;subst this;obtain⟨_,z,d1,d2⟩:=aA b _ n;cases d2;have bb:dc N J N (dl J b):=qD;have k:cm N (dl J b) (gV J1 b):=by
        intro g x a;rw[mF]at a;split at a
        . grind
        . obtain⟨h1,y,u,j⟩:=aA g x a;exact⟨h1,y,by simp_all[fk],j.mono bb⟩
       refine .store rfl (bb.trans (dc.more (by simp))) (.c (.t _)) λf o=>⟨p/\q/\d=d/\m=(List.length l:Int),_,?_,⟨a3 f,i f,rfl,Zg.1 o⟩,k.mono (by simp)⟩
       simp only[aM,a1,b1,aq,d1];rfl
     grind
   grind
 grind
theorem XB{e sz len:Nat}{z:List C}{parts:List (Nat×aO)}(h:cj gl gd env J N (.bsliceT e sz len z parts)=some (c,v,J')):dX N J J1 (.bsliceT e sz len z parts) env1 (cD env G gd) c v J':=by
 simp[cj]at h;split at h
 . grind
 . split at h
   . rename_i k i;split at h
     . grind
     . rename_i ts b;split at h
       . grind
       . rename_i a;have a:=cM a;split at h
         . rename_i rows g;split at h
           . rename_i l ad;cases h;have j:=p9 (N:=N) (J:=J) i;obtain⟨p,es,a1,a2,a4,a3⟩:=FM he ak g (aX.replicate (R:=λr e=>hA r=some e) b _) (by grind);have d:=u3 ad a2;refine .neutral aA (.c (.t _)) λf _=>⟨p,?_,a3 f⟩
             simp[aM,xN j b,aq,a1];rw[<-d];rfl
           grind
         grind
   grind
theorem QW(h:cj gl gd env J N o=some (c,v,J')):dX N J J1 o env1 (cD env G gd) c v J':=by
 cases o with
 |mov x=>exact aeX he ak aA h
 |pick c x y=>exact ZK he ak aA h
 |alloc cs=>exact aac he ak aA h
 |box x=>exact aeS he ak aA h
 |allocA cs=>exact Yc he ak aA h
 |idxP k x i=>exact aa5 he ak aA h
 |idxV k x i=>exact aa4 he ak aA h
 |mslice sz b z x=>exact Yb he ak aA h
 |slcP k x d a=>exact aa6 he ak aA h
 |b2s x=>exact aeQ he ak aA h
 |allocS e e8=>exact Yd he ak aA h
 |bsliceT e sz len z parts=>exact XB he ak aA h
 |mkset=>exact aag he ak aA h
 |lkset x k=>exact aah he ak aA h
 |upset x k=>exact aai he ak aA h
 |appendB e b x y=>exact XA he ak aA h
 |sdata x=>exact aaj he ak aA h
 |ustr e x k=>exact aa7 he ak aA h
 |build z parts=>exact Y2 he ak aA h
 |bslice sz len z parts=>exact X9 he ak aA h
 |load agg n x=>exact ZN he ak aA h
 |store n x v=>exact aad he ak aA h
 |nilCheck x=>exact Xg he ak aA h
 |bin op x y=>exact aeR he ak aA h
 |eqAgg neg ks x y=>exact Zh he ak aA h
 |eqBool neg x y=>exact YF he ak aA h
 |eqNil neg x=>simp[cj]at h
 |not x=>exact aeY he ak aA h
 |conv k x=>grind[ZL]
 |i2s x=>grind[aeV]
 |s2s x=>grind[aeZ]
 |fldA off x=>grind[ZM]
 |fld agg off n x=>grind[aeU]
 |idxA sz x i=>grind[ZO]
 |idxS x i=>grind[ZP]
 |slcS x d a=>grind[aaY]
 |slc sz x d a=>grind[ae0]
 |slc0 x=>grind[aaZ]
 |mkfn f caps=>grind[aa0]
 |ext x i=>grind[aeT]
 |len str x=>grind[aeW]
 |append sz bytes x y=>grind[Ya]
 |max2 x y=>grind[aa1]
 |min2 x y=>grind[aa2]
 |call f args=>simp[cj]at h
 |hW x args=>simp[cj]at h
end
end
end
section
open Go
variable {U:cE}
def bh.cc(b0:Nat)(c:Cell U.D):bh U->bh U
 |.arr b=>match Nat.beq b b0 with
  |true=>.t c
  |false=>.arr b
 |.cG b ty i o=>match Nat.beq b b0 with
  |true=>.dead
  |false=>.cG b ty i o
 |.pre b h=>match Nat.beq b b0 with
  |true=>.dead
  |false=>.pre b h
 |.dQ b a len=>match Nat.beq b b0 with
  |true=>.dead
  |false=>.dQ b a len
 |x=>x
def bC.cc(b0:Nat)(c:Cell U.D):bC U->bC U
 |.c x=>.c (x.cc b0 c)
 |.agg cs=>.agg (cs.map (bh.cc b0 c))
 |.a6 vs=>.a6 (go b0 c vs)
where go (b0:Nat) (c:Cell U.D):List (bC U)->List (bC U)
 |[]=>[]
 |v::vs=>v.cc b0 c::go b0 c vs
def cI.cc(b0:Nat)(c:Cell U.D):cI U->cI U
 |.box cs=>.box (cs.map (bh.cc b0 c))
 |.bT E x=>.bT E (x.cc b0 c)
 |.cz t l i o x=>.cz t l i o (x.cc b0 c)
 |x=>x
def q0(b0:Nat)(c:Cell U.D):bK U->bK U
 |[]=>[]
 |(k,v)::r=>(k,v.cc b0 c)::q0 b0 c r
def mN(b0:Nat)(c:Cell U.D):a7 U->a7 U
 |[]=>[]
 |(k,x)::r=>match Nat.beq k b0 with
  |true=>mN b0 c r
  |false=>(k,x.cc b0 c)::mN b0 c r
def vQ(b:Nat)(t:aF)(env:bK U)(J:a7 U):Option (bK U×a7 U):=
 match aT J b with
 |some (.arr a l)=>match Cell.as (.slice t) (⟨.slice a,l⟩:Cell U.D)with
  |some l=>some (q0 b ⟨.slice t,l⟩ env,mN b ⟨.slice t,l⟩ J)
  |none=>none
 |some (.rows _ r)=>match l4 U t r with
  |some l=>some (q0 b ⟨.slice t,l⟩ env,mN b ⟨.slice t,l⟩ J)
  |none=>none
 |_=>some (env,J)
def kl:List (Nat×aF)->bK U->a7 U->Option (bK U×a7 U)
 |[],env,J=>some (env,J)
 |(b,t)::r,env,J=>match vQ b t env J with
  |some (env',J')=>kl r env' J'
  |none=>none
variable{c:Cell U.D}{b0 j:Nat}{es:List (List T)}{t:aF}{cs:List C}{R:Type}
section
variable {kk N:Nat}{J J':a7 U}{J1:aZ}{env env':bK U}{env1:Env}{G:Nat->Bool}{gl:ev}
theorem B9:∀{env:bK U} {k:Nat},aT (q0 b0 c env) k=(aT env k).map (bC.cc b0 c)
 |[],k=>rfl
 |(i,v)::r,k=>by
  simp[q0,aT];cases Nat.beq i k with
  |true=>rfl
  |false=>exact B9
theorem sd:∀{J:a7 U} {k:Nat},aT (mN b0 c J) k=if k=b0 then none else(aT J k).map (cI.cc b0 c)
 |[],k=>by simp[mN,aT]
 |(i,x)::r,k=>by
  simp[mN];cases h:Nat.beq i b0 with
  |true=>
   simp[sd,aT];grind[cM]
  |false=>
   simp[aT,sd];grind
theorem cI.Ai{x:cI U}:(x.cc b0 c).c8=x.c8:=by cases x<;>rfl
theorem b8.cc{b0 sz:Nat}{c:Cell U.D}{es:List (List T)}{v:cI U}(h0:aT J b0=some v)(A:v.c8=some (sz,es.length))(w:c.enc U= .slice es){x:bh U}{d:C}(h:b8 N J x d):
 b8 N (mN b0 c J) (x.cc b0 c) (d.cc b0 sz es):=by
 cases h with
 |t c=>exact .t c
 |ptr b o=>exact .ptr b o
 |cG b t i o=>
  simp only[bh.cc,C.cc];cases h:Nat.beq b b0 with
  |true=>exact .dead _
  |false=>rw[al (hJ h)];exact .cG b t i o
 |dO t x o=>exact .dO t x o
 |arr b j n a h=>
  simp only[bh.cc,C.cc];cases e:Nat.beq b b0 with
  |true=>
   have:=cM e;subst this;have:=h v h0 _ A;cases this;rw[af rfl,af ⟨rfl,by simp⟩];have:cut es 0 es.length=es:=(by simp[cut]);rw[this,<-w];exact .t c
  |false=>
   rw[al (hJ e)];refine .arr b j n a λy g p aj=>?_;rw[sd]at g;grind[bu,cI.Ai]
 |sub b q len=>exact .sub b q len
 |pre b j n a h=>
  simp only[bh.cc];cases e:Nat.beq b b0 with
  |true=>exact .dead _
  |false=>
   simp only[C.cc];rw[al (hJ e)];refine .pre b j n a λy g p aj=>?_;rw[sd,al (hJ e)]at g;grind[bu,cI.Ai]
 |dQ b j q len a h=>
  simp only[bh.cc];cases e:Nat.beq b b0 with
  |true=>exact .dead _
  |false=>
   refine .dQ b j q len a λy g p aj=>?_;rw[sd,al (hJ e)]at g;grind[bu,cI.Ai]
 |mp b=>exact .mp b
 |eu b=>exact .eu b
 |cb b n a h=>
  refine .cb b n a λy g p aj=>?_;grind[sd,bu,cI.Ai]
 |aL=>exact .aL
 |e6=>exact .e6
 |e5=>exact .e5
 |fn f caps=>exact .fn f caps
 |dead d=>exact .dead _
theorem Qq:∀{vs:List (bC U)} {i:Nat},(bC.cc.go b0 c vs)[i]?=(vs[i]?).map (bC.cc b0 c)
 |[],i=>by rfl
 |v::vs,0=>by rfl
 |v::vs,i+1=>by simp[bC.cc.go,Qq]
theorem Py:∀{vs:List (bC U)},(bC.cc.go b0 c vs).length=vs.length
 |[]=>rfl
 |v::vs=>by simp[bC.cc.go,Py]
theorem bN.cc{sz:Nat}{f:cI U}(h0:aT J b0=some f)(e:f.c8=some (sz,es.length))(a:c.enc U= .slice es){x:bC U}{d:V}(h:bN N J x d):
 bN N (mN b0 c J) (x.cc b0 c) (d.cc b0 sz es):=by
 induction h with
 |c h=>exact .c (h.cc h0 e a)
 |agg h=>exact .agg (aX.map_map (h.imp λ_ _ _ aa=>aa.cc h0 e a))
 |a6 xs g ad h ih=>
  refine .a6 _ _ (by grind[Py,FB]) ?_;grind[Qq,Fv]
theorem JI{sz:Nat}{p:cI U}(h0:aT J b0=some p)(f:p.c8=some (sz,es.length))(e:c.enc U= .slice es)(hs:aR J1 b0=some (.arr sz es))(he:cN N J G env env1)(aA:cm N J J1):
 Conv kk N env1 J1 N (qI b0 sz es env1) (mD b0 sz es J1)/\cN N (mN b0 c J) G (q0 b0 c env) (qI b0 sz es env1)/\cm N (mN b0 c J) (mD b0 sz es J1):=by
 refine⟨Conv.freeze b0 hs,λk v n=>?_,λb x g=>?_⟩
 . rw[B9,bu]at n;obtain⟨v0,h1,rfl⟩:=n;obtain⟨d,j,m⟩:=he k v0 h1;exact⟨_,by grind[xT],m.cc h0 f e⟩
 . rw[sd]at g;split at g
   . grind
   . simp only[bu]at g;obtain⟨q,h1,rfl⟩:=g;obtain⟨j,y,m,a⟩:=aA b q h1;refine⟨j,y.cc b0 sz es,by simp_all[Cz,al],?_⟩;cases a with
     |box a=>exact .box (aX.map_map (a.imp λ_ _ _ aa=>aa.cc h0 f e))
     |arr t l=>exact .arr t l
     |set ks=>exact .set ks
     |buf E s=>exact .buf E s
     |bT a=>exact .bT (a.cc h0 f e)
     |cz t l i o a=>exact .cz t l i o (a.cc h0 f e)
     |rows a bp=>exact .rows a bp
theorem gJ.cc(h:gJ gl env G):gJ gl (q0 b0 c env) G:=by
 refine⟨h.free,λk t b e=>?_⟩;obtain⟨y,h1,a⟩:=h.held k t b e;refine⟨y,?_,a⟩;unfold fe at h1⊢;rw[B9];split at h1
 . rename_i x f;rw[f];exact h1
 grind
theorem aak{α a:Type}{f:α->a}{l:List α}{sz:Nat}:some (sz,l.length)=some (sz,(l.map f).length):=by simp
theorem QX{b:Nat}(h:vQ b t env J=some (env',J'))(he:cN N J G env env1)(aA:cm N J J1):
 ∃f bj,Conv kk N env1 J1 N f bj/\cN N J' G env' f/\cm N J' bj/\(gJ gl env G->gJ gl env' G):=by
 unfold vQ at h;split at h
 . rename_i k j ad;split at h
   . rename_i l d;have e:=Cell.jS d;cases e;cases h;obtain⟨_,y,h1,a⟩:=aA b _ ad;cases a;obtain⟨bb,bq,bU⟩:=JI (c:=⟨.slice t,l⟩) ad aak rfl h1 he aA;exact⟨_,_,bb,bq,bU,λak=>ak.cc⟩
   grind
 . rename_i sz r ad;split at h
   . rename_i l d;cases h;obtain⟨_,y,h1,a⟩:=aA b _ ad;cases a with
     | @rows _ _ es a i=>
      have g:=u3 d a;obtain⟨bb,bq,bU⟩:=JI (c:=⟨.slice t,l⟩) ad (by simp[cI.c8];rw[a.length]) (by rw[<-g];rfl) h1 he aA;exact⟨_,_,bb,bq,bU,λak=>ak.cc⟩
   grind
 grind[Conv.refl]
theorem uy:∀{l:List (Nat×aF)} {env env':bK U} {J J':a7 U} {env1:Env} {J1:aZ},kl l env J=some (env',J')->cN N J G env env1->cm N J J1->
 ∃a bj,Conv kk N env1 J1 N a bj/\cN N J' G env' a/\cm N J' bj/\(gJ gl env G->gJ gl env' G)
 |[],env,env',J,J',env1,J1,h,he,aA=>by grind[kl,Conv.refl]
 |(b,t)::r,env,env',J,J',env1,J1,h,he,aA=>by
  simp[kl]at h;split at h
  . rename_i e s h1;obtain⟨aK,s1,bb,bq,bU,cu⟩:=QX h1 he aA;obtain⟨c,j,d,f,g,i⟩:=uy h bq bU;exact⟨c,j,bb.trans d,f,g,λak=>i (cu ak)⟩
  grind
theorem Conv.close{b sz i o:Nat}{t:T}(c:aR J1 b=some (.cz sz es i o (.t t))):
 Conv kk N env1 J1 N env1 (c7 J1 b (.arr sz (es.set i ((el es i).take o++[t]++(el es i).drop (o+1))))):=by
 intro av nt φ S a w J R;obtain⟨⟨a1,a2,a3,a4,a5,F⟩,⟨vs,E,bb,bq,bU,g,cu,cW⟩,da⟩:=R.bD.blk _ _ c;have q:es[i]?=some (el es i):=by unfold el;rw[List.getD,eF a5];rfl
 have G:=a3 _ (e7 q);refine⟨φ,S,R.put (R.dG _ _ c).1 rfl ⟨by simpa using a1,by simpa using a2,λe he=>?_,a4,λ_=>⟨vs,E,bb,bq,λB j e D he ht=>?_,da⟩⟩ λh0=>⟨λk y A x p=>R.bD.inj k b y _ A c x p h0,R.own b _ c h0⟩⟩
 . grind
 . rw[x5]at he;by_cases v:i=B
   . subst v;rw[af rfl,af a5]at he;cases he;have f:=(nH (vs:=el es i) (off:=o) (xs:=[t]) (by simp;omega) j)
     unfold iN at f;rw[show o+[t].length=o+1 from rfl]at f;rw[f]at ht;by_cases c1:j=o
     . subst c1;rw[bR,gh,Nat.sub_self]at ht;cases ht;exact⟨g,cu,cW⟩
     . have H:(el es i)[j]?=some D:=by
        by_cases c2:j<o
        . rwa [af c2]at ht
        . rwa [al c2,bR]at ht
       grind
   grind
def B'(b:Nat)(env:bK U)(J:a7 U):Option (bK U×a7 U):=
 match aT J b with
 |some (.cz t l i o (.t c))=>match Nat.ble (o+1) (t.sz U)with
  |true=>match q1 U t l i o [.t c]with
   |some a=>some (env,cA J b (.arr t a))
   |none=>none
  |false=>none
 |_=>none
def Jg(b:Nat)(env:bK U)(J:a7 U):Option (bK U×a7 U):=
 match aT J b with
 |some (.cz t l i o (.arr b2))=>match (t.row U (t.at U l i))[o]? with
  |some ⟨.slice te,_⟩=>match vQ b2 te env J with
   |some (env',J')=>B' b env' J'
   |none=>none
  |_=>none
 |_=>B' b env J
def It:a7 U->Option Nat
 |[]=>none
 |(b,.cz ..)::_=>some b
 |_::r=>It r
def GN(env:bK U)(J:a7 U):Option (bK U×a7 U):=
 match It J with
 |none=>some (env,J)
 |some b=>Jg b env J
theorem Pa{b:Nat}(h:B' b env J=some (env',J'))(he:cN N J G env env1)(aA:cm N J J1):
 ∃e bj,Conv kk N env1 J1 N e bj/\cN N J' G env' e/\cm N J' bj:=by
 unfold B' at h;split at h
 . rename_i t l i o c ad;split at h
   . split at h
     . rename_i l2 k;cases h;obtain⟨g,y,h1,d⟩:=aA b _ ad;cases d with
       |cz _ _ _ _ d=>
        cases d;have q:l2.length=List.length l:=by
         grind[q1]
        have f:dc N J N (cA J b (.arr t l2)):=nJ (e9 _) ad (λp h=>by
         grind[cI.c8])
        refine⟨env1,c7 _ b _,?_,he.mono f,aA.put g f (.arr t l2)⟩;by_cases j:i<List.length l
        . obtain⟨ts,aK,m⟩:=Fy (N:=N) (J:=J) k j (.cons (.t c) .nil) (by simp_all);have:ts=[c.enc U]:=(by grind[toTs,toT]);have:=Conv.close (kk:=kk) (N:=N) (env1:=env1) h1;grind
        . intro av nt φ S a w n R;obtain⟨⟨_,_,_,_,a5,_⟩,_⟩:=R.bD.blk _ _ h1;grind
     grind
   grind
 grind
theorem Vg(h:GN env J=some (env',J'))(he:cN N J G env env1)(aA:cm N J J1):
 ∃a bj,Conv kk N env1 J1 N a bj/\cN N J' G env' a/\cm N J' bj:=by
 unfold GN at h;split at h
 . grind[Conv.refl]
 . unfold Jg at h;split at h
   . split at h
     . split at h
       . rename_i e s h1;obtain⟨aK,s1,bb,bq,bU,_⟩:=QX (gl:=[]) h1 he aA;obtain⟨b,g,c,d,f⟩:=Pa h bq bU;exact⟨b,g,bb.trans c,d,f⟩
       grind
     grind
   . exact Pa h he aA
theorem Conv.own{k:Nat}{g:Bool}{sz:Nat}(p:look env1 k=some (g,.c .aL))(q:0<sz)(A:kk<=N):Conv kk N env1 J1 (N+1) ((k,g,.c (.arr N sz 0 0))::env1) (c7 J1 N (.arr sz [])):=by
 intro av nt φ S a w y R;have f:=R.DJ q (by omega);have cp:eA φ N (0,0) N=(0,0):=by simp[eA]
 refine⟨eA φ N _,S,⟨f.bD,λi j v ad ak=>?_,λi j v ad ak=>?_,λi j v ad ak=>?_,f.dG,f.size,f.defers,f.ext,f.own,f.fix,f.gy⟩⟩
 . simp[look]at ad;split at ad
   . rename_i e;cases ad;subst e;obtain⟨x,t,o⟩:=f.fZ _ _ _ p ak;refine⟨x,t,?_⟩;cases o with
     |c o=>
      obtain⟨a,rfl⟩:=o;refine .c ⟨a,by grind,λh=>absurd (by grind) h,by simp⟩
   . exact f.fZ i j v ad ak
 . simp[look]at ad;split at ad
   . rename_i e;cases ad;subst e;exact f.gN _ _ _ p ak
   . exact f.gN i j v ad ak
 . simp only[look]at ad;split at ad
   . grind[V.ay,C.ay,lt]
   . exact f.fY i j v ad ak
theorem Conv.ad'{b:Nat}{sz:Nat}(O:aR J1 b=some (.box cs))(F:cs[j]?=some .aL)(P:b<N)(J:0<sz)(U:kk<=N):
 Conv kk N env1 J1 (N+1) env1 (c7 (c7 J1 N (.arr sz [])) b (.box (cs.set j (.arr N sz 0 0)))):=by
 intro av nt φ S a w Q R;have e:=R.DJ J (by omega);have cp:eA φ N (0,0) N=(0,0):=by simp[eA]
 have A:aR (c7 J1 N (.arr sz [])) b=some (.box cs):=by rw[cR];grind
 have B:∀c x,aR (c7 (c7 J1 N (.arr sz [])) b (.box (cs.set j (.arr N sz 0 0)))) c=some x->(c=b/\x= .box (cs.set j (.arr N sz 0 0)))\/aR (c7 J1 N (.arr sz [])) c=some x:=by
  grind[cR]
 have g:∀c x,aR (c7 (c7 J1 N (.arr sz [])) b (.box (cs.set j (.arr N sz 0 0)))) c=some x->∃y,aR (c7 J1 N (.arr sz [])) c=some y:=by grind
 refine⟨eA φ N _,S,⟨⟨λc x f=>?_,λc q x y f K G=>?_,e.bD.st⟩,e.fZ,e.gN,e.fY,λc x f=>?_,e.size,e.defers,e.ext,λc x f=>?_,e.fix,e.gy⟩⟩
 . rcases B c x f with⟨rfl,rfl⟩|h
   . obtain⟨h0,vs,E,h1,t,D⟩:=e.bD.blk _ _ A;refine⟨h0,vs,E,h1,?_,D⟩;obtain⟨v,X,H⟩:=t.get F;obtain⟨a,rfl⟩:=H;have:=aX.set (i:=j) t (a:= .arr N sz 0 0) (b:= .slice a 0 0) ⟨a,by grind,λh=>absurd (by grind) h,by simp⟩;have W:vs.set j (.slice a 0 0)=vs:=by
      apply vv;grind
     grind
   . exact e.bD.blk c x h
 . obtain⟨p,o⟩:=g c x f;obtain⟨M,L⟩:=g q y K;exact e.bD.inj c q p M o L G
 . rcases B c x f with⟨rfl,rfl⟩|h
   . have:=(e.dG _ _ A).2;grind[bP.ay,List.mem_or_eq_of_mem_set,C.ay,lt]
   . exact e.dG c x h
 . obtain⟨p,o⟩:=g c x f;exact e.own c p o
theorem Conv.trim{q b:Nat}{sz h:Nat}(U:aR J1 q=some (.box cs))(X:cs[j]?=some (.arr b sz 0 h))(O:aR J1 b=some (.arr sz es))(aa:h<=es.length)(a0:q<N):
 Conv kk N env1 J1 (N+1) env1 (c7 (c7 (gV J1 b) N (.arr sz (es.take h))) q (.box (cs.set j (.arr N sz 0 h)))):=by
 intro av nt φ S a w aH R;have aE:b<N:=by have:=(R.dG _ _ O).1;grind[lt]
 have W:∀c,lt N c=true->eA φ N (φ b) c=φ c:=by
  intro c t;simp only[lt,gE]at t;grind[eA]
 have D:∀c,lt N c=true->lt (N+1) c=true:=λc t=>B8 (by omega) t;have f:=R.sZ W;have cp:eA φ N (φ b) N=φ b:=by simp[eA]
 have P:=W b (by grind[lt]);have Q:∀c x,aR (c7 (c7 (gV J1 b) N (.arr sz (es.take h))) q (.box (cs.set j (.arr N sz 0 h)))) c=some x->(c=q/\x= .box (cs.set j (.arr N sz 0 h)))\/(c≠q/\c=N/\x= .arr sz (es.take h))\/(c≠q/\c≠N/\c≠b/\aR J1 c=some x):=by
  grind[cR,fk]
 have H:∀c x,aR (c7 (c7 (gV J1 b) N (.arr sz (es.take h))) q (.box (cs.set j (.arr N sz 0 h)))) c=some x->∃A y,aR J1 A=some y/\eA φ N (φ b) c=eA φ N (φ b) A/\(A=if c=N then b else c):=by grind
 refine⟨eA φ N (φ b),S,⟨⟨λc x o=>?_,λc A x y o am aY=>?_,f.bD.st⟩,f.fZ,f.gN,λk g v ad ak=>V.hg D (f.fY k g v ad ak),λc x o=>?_,f.size,f.defers,f.ext,λc x o h0=>?_,f.fix,λc t=>by have:=f.gy c t;exact D c this⟩⟩
 . rcases Q c x o with⟨rfl,rfl⟩|⟨_,rfl,rfl⟩|⟨_,_,_,p⟩
   . obtain⟨h0,vs,E,h1,B,G⟩:=f.bD.blk _ _ U;refine⟨h0,vs,E,h1,?_,G⟩;obtain⟨v,a2,Y⟩:=B.get X;have Z:bn (eA φ N (φ b)) w S (.arr N sz 0 h) v:=by
      obtain⟨a,aK,F,dD⟩:=Y;rw[P]at aK F dD;exact⟨a,by rw[cp];exact aK,by rw[cp];exact F,by rw[cp];exact dD⟩
     have:=aX.set (i:=j) B Z;have a1:vs.set j v=vs:=by
      apply vv;grind
     grind
   . obtain⟨h0,h1,B,G,p⟩:=f.bD.blk _ _ O;rw[P]at h0 p;refine⟨by rw[cp,vw];omega,by rw[vw];omega,λe he=>B e (sT he),G,λt=>?_⟩;grind
   . exact f.bD.blk c x p
 . obtain⟨d,K,J,aK,F⟩:=H c x o;obtain⟨L,ap,an,dD,ax⟩:=H A y am;have bY:d≠L:=(by grind);intro h0 M;rw[aK]at h0⊢;rw[dD]at M⊢;exact f.bD.inj d L K ap J an bY h0 M
 . rcases Q c x o with⟨rfl,rfl⟩|⟨_,rfl,rfl⟩|⟨_,_,_,p⟩
   . have:=(f.dG _ _ U).2;grind[bP.ay,List.all_eq_true,List.mem_or_eq_of_mem_set,C.hg,C.ay,lt]
   . exact⟨by simp[lt],rfl⟩
   . exact⟨D c (f.dG c x p).1,bP.hg D (f.dG c x p).2⟩
 . obtain⟨d,K,J,aK,_⟩:=H c x o;rw[aK]at h0⊢;exact f.own d K J h0
def u4:Nat->List (bh U)->Option (Nat×Nat×Nat)
 |_,[]=>none
 |j,.pre b h::_=>some (j,b,h)
 |j,_::r=>u4 (j+1) r
def qE(J:a7 U):a7 U->Option (Nat×List (bh U)×Nat×Nat×Nat)
 |[]=>none
 |(q,.box cs)::r=>match aT J q with
  |some (.box a)=>match u4 0 a with
   |some p=>some (q,a,p)
   |none=>qE J r
  |_=>qE J r
 |_::r=>qE J r
theorem Qr:∀{cs:List (bh U)} {j i b h:Nat},u4 j cs=some (i,b,h)->j<=i/\cs[i-j]?=some (.pre b h)
 |[],j,i,b,h,a=>by grind[u4]
 |c::r,j,i,b,h,a=>by
  have next:u4 (j+1) r=some (i,b,h)->j<=i/\(c::r)[i-j]?=some (.pre b h):=by
   intro a;obtain⟨h1,f⟩:=Qr a;grind
  cases c with
  |pre d e=>grind[u4,Option.some.injEq]
  |_=>exact next a
theorem AL{q:Nat}{cs:List (bh U)}{i b h:Nat}:∀{l:a7 U},qE J l=some (q,cs,i,b,h)->aT J q=some (.box cs)/\cs[i]?=some (.pre b h)
 |[],a=>by simp[qE]at a
 |(k,x)::r,a=>by
  cases x with
  |box d=>
   simp[qE]at a;split at a
   . rename_i e c;split at a
     . rename_i p aj;obtain⟨rfl,rfl,rfl⟩:=a;exact⟨c,by simpa using(Qr aj).2⟩
     . exact AL a
   . exact AL a
  |_=>exact AL (by simpa[qE]using a)
def CV{R:Type}(J:a7 U)(N:Nat)(k:a7 U->Nat->Option R):Option R:=
 match qE J J with
 |none=>k J N
 |some (q,cs,j,b,h)=>match aT J b with
  |some (.arr t l)=>if (h<=l.length:Bool) then k (cA (cA (dl J b) N (.arr t (l.take h))) q (.box (cs.set j (.arr N)))) (N+1)else none
  |_=>none
theorem QY{q b h0:Nat}{cs:List (bh U)}{x:bh U}{l:List (t.den U.D)}(u:aT J q=some (.box cs))(s:cs[j]?=some x)(m:aT J b=some (.arr t l))(a:∀d,b8 N J x d->d= .arr b (t.sz U) 0 h0)(F:h0<=l.length)
 (he:cN N J G env env1)(aA:cm N J J1):
 ∃bj,Conv kk N env1 J1 (N+1) env1 bj/\cN (N+1) (cA (cA (dl J b) N (.arr t (l.take h0))) q (.box (cs.set j (.arr N)))) G env env1/\cm (N+1) (cA (cA (dl J b) N (.arr t (l.take h0))) q (.box (cs.set j (.arr N)))) bj:=by
 obtain⟨z,I,w,f⟩:=aA q _ u;obtain⟨E,H,n,o⟩:=aA b _ m;cases o;cases f with
 | @box _ C f=>
  obtain⟨d,r,B⟩:=f.get s;have:=a d B;subst this;have A:q≠b:=by grind
  have bb:dc N J N (dl J b):=qD;have bq:dc N (dl J b) (N+1) (cA (dl J b) N (.arr t (l.take h0))):=kz;have v:aT (cA (dl J b) N (.arr t (l.take h0))) q=some (.box cs):=by rw[hj,bR,mF,al (λe=>A e.symm)];grind
  have bU:dc (N+1) (cA (dl J b) N (.arr t (l.take h0))) (N+1) (cA (cA (dl J b) N (.arr t (l.take h0))) q (.box (cs.set j (.arr N)))):=nJ (e9 _) v (λp h=>by grind[cI.c8]);have i:=(bb.trans bq).trans bU;have k:cm N (dl J b) (gV J1 b):=by
   intro c x a;rw[mF]at a;split at a
   . grind
   . obtain⟨g1,y,g2,g3⟩:=aA c x a;exact⟨g1,y,by simp_all[fk,al],g3.mono bb⟩
  refine⟨_,Conv.trim w r n (by grind) z,he.mono i,?_⟩;rw[<-List.map_take];refine(k.put (by simp) bq (.arr t (l.take h0))).put (by omega) bU (.box ?_);refine aX.set (f.imp λ_ _ _ g=>g.mono i) (.arr N _ _ (by simp) λx a p aj=>?_);rw[hj,hj,af rfl]at a;grind[cI.c8,Option.some.injEq,List.length_take,Nat.min_eq_left]
theorem Qs{k:a7 U->Nat->Option R}{r:R}(h:CV J N k=some r)(he:cN N J (λ_=>true) env env1)(aA:cm N J J1):
 ∃J' N' bj,k J' N'=some r/\Conv kk N env1 J1 N' env1 bj/\cN N' J' (λ_=>true) env env1/\cm N' J' bj/\N<=N':=by
 unfold CV at h;split at h
 . exact⟨J,N,J1,h,Conv.refl,he,aA,e9 _⟩
 . rename_i q cs j b h0 e;obtain⟨g,f⟩:=AL e;split at h
   . rename_i t l a;split at h
     . obtain⟨s1,m,n,o⟩:=QY (kk:=kk) (h0:=h0) g f a (λd i=>by
        cases i with
        |pre _ sz _ _ c=>
         have c:=c _ a _ rfl
         grind) (by grind) he aA
       grind
     grind
   grind
def se(kk:Nat):Nat->List (bh U)->Option (Nat×Nat)
 |_,[]=>none
 |j,.arr b::r=>match Nat.ble (b+1) kk with
  |true=>some (j,b)
  |false=>se kk (j+1) r
 |j,_::r=>se kk (j+1) r
def qF(kk:Nat)(J:a7 U):a7 U->Option (Nat×List (bh U)×Nat×Nat)
 |[]=>none
 |(q,.box _)::r=>match aT J q with
  |some (.box cs)=>match se kk 0 cs with
   |some p=>some (q,cs,p)
   |none=>qF kk J r
  |_=>qF kk J r
 |_::r=>qF kk J r
theorem Qt:∀{cs:List (bh U)} {j i b:Nat},se kk j cs=some (i,b)->j<=i/\cs[i-j]?=some (.arr b)
 |[],j,i,b,a=>by grind[se]
 |c::r,j,i,b,a=>by
  have next:se kk (j+1) r=some (i,b)->j<=i/\(c::r)[i-j]?=some (.arr b):=by
   intro a;obtain⟨h1,e⟩:=Qt a;grind
  cases c with
  |arr d=>
   grind[se]
  |_=>exact next a
theorem AM{kk q:Nat}{cs:List (bh U)}{i b:Nat}:∀{l:a7 U},qF kk J l=some (q,cs,i,b)->aT J q=some (.box cs)/\cs[i]?=some (.arr b)
 |[],a=>by grind[qF]
 |(k,x)::r,a=>by
  cases x with
  |box d=>
   simp only[qF]at a;split at a
   . rename_i e c;split at a
     . rename_i p aj;obtain⟨rfl,rfl,rfl⟩:=a;exact⟨c,by simpa using(Qt aj).2⟩
     . exact AM a
   . exact AM a
  |_=>exact AM (by simpa[qF]using a)
def CP{R:Type}(kk:Nat)(J:a7 U)(k:a7 U->Nat->Option R):Option R:=
 match qF kk J J with
 |none=>k J kk
 |some (q,cs,j,b)=>match aT J b with
  |some (.arr t l)=>k (cA (cA (dl J b) kk (.arr t l)) q (.box (cs.set j (.arr kk)))) (kk+1)
  |_=>k J kk
theorem Wi{k:a7 U->Nat->Option R}{r:R}(h:CP kk J k=some r)(he:cN kk J (λ_=>true) env env1)(aA:cm kk J J1):
 ∃J' N' bj,k J' N'=some r/\Conv kk kk env1 J1 N' env1 bj/\cN N' J' (λ_=>true) env env1/\cm N' J' bj/\kk<=N':=by
 unfold CP at h;split at h
 . exact⟨J,kk,J1,h,Conv.refl,he,aA,e9 _⟩
 . rename_i q cs j b e;obtain⟨g,f⟩:=AM e;split at h
   . rename_i t l a
     obtain⟨s1,m,o,p⟩:=QY (kk:=kk) g f a (λd i=>by
      cases i with
      |arr _ sz n _ c=>
       have c:=c _ a _ rfl
       grind) (e9 _) he aA
     grind
   . exact⟨J,kk,J1,h,Conv.refl,he,aA,e9 _⟩
inductive Pos where
 |slot (k:Nat)
 |cell (b j:Nat)
 |via (k j:Nat)
def zz(b j:Nat)(t:aF)(env:bK U)(J:a7 U)(N:Nat):Option (bK U×a7 U):=
 match aT J b with
 |some (.box cs)=>match cs[j]? with
  |some .aL=>some (env,cA (cA J N (.arr t [])) b (.box (cs.set j (.arr N))))
  |_=>some (env,J)
 |_=>none
def Hl(p:Pos)(t:aF)(env:bK U)(J:a7 U)(N:Nat):Option (bK U×a7 U):=
 match p with
 |.slot k=>match aT env k with
  |some (.c .aL)=>some ((k,.c (.arr N))::env,cA J N (.arr t []))
  |_=>some (env,J)
 |.cell b j=>zz b j t env J N
 |.via k j=>match aT env k with
  |some (.c (.ptr b _))=>zz b j t env J N
  |_=>none
def CR:List (Pos×aF)->bK U->a7 U->Nat->Option (bK U×a7 U×Nat)
 |[],env,J,N=>some (env,J,N)
 |(p,t)::r,env,J,N=>match Hl p t env J N with
  |some (env',J')=>CR r env' J' (N+1)
  |none=>none
theorem Hx{t:aF}(he:cN N J (λ_=>true) env env1)(aA:cm N J J1)(i:kk<=N):∃c bj,Conv kk N env1 J1 (N+1) c bj/\cN (N+1) J (λ_=>true) env c/\cm (N+1) J bj:=by
 refine⟨env1,c7 _ N (.arr 1 []),λav nt φ S a w g R=>⟨_,S,R.DJ (by simp) (by omega)⟩,he.mono (dc.more (by simp)),λb x e=>?_⟩;obtain⟨h1,y,f,d⟩:=aA b x e;exact⟨by omega,y,by grind[cR],d.mono (dc.more (by simp))⟩
theorem Fe{b:Nat}(h:zz b j t env J N=some (env',J'))(he:cN N J (λ_=>true) env env1)(aA:cm N J J1)(g:kk<=N):
 ∃f bj,Conv kk N env1 J1 (N+1) f bj/\cN (N+1) J' (λ_=>true) env' f/\cm (N+1) J' bj:=by
 have same:=Hx (t:=t) he aA g;unfold zz at h;split at h
 . rename_i cs k;split at h
   . rename_i n;cases h;obtain⟨i,y,h1,a⟩:=aA b _ k;cases a with
     | @box _ r a=>
      obtain⟨d,m,o⟩:=a.get n;cases o;have c:dc N J (N+1) (cA J N (.arr t [])):=kz;have l:aT (cA J N (.arr t [])) b=some (.box cs):=by rw[hj];grind
      have e:dc (N+1) _ (N+1) (cA _ b (.box (cs.set j (.arr N)))):=nJ (e9 _) l (λp h=>by grind[cI.c8]);refine⟨_,_,Conv.ad' h1 m i (aF.vJ (t:=t) (U:=U)) g,(he.mono c).mono e,(aA.put (by simp) c (.arr t [])).put (by omega) e (.box ?_)⟩;refine aX.set (a.imp λ_ _ _ h=>(h.mono c).mono e) (.arr N _ _ (by simp) λx q p aj=>?_);rw[hj,hj]at q;grind[cI.c8]
   grind
 grind
theorem Wj{p:Pos}(h:Hl p t env J N=some (env',J'))(he:cN N J (λ_=>true) env env1)(aA:cm N J J1)(e:kk<=N):
 ∃d bj,Conv kk N env1 J1 (N+1) d bj/\cN (N+1) J' (λ_=>true) env' d/\cm (N+1) J' bj:=by
 have same:=Hx (t:=t) he aA e;unfold Hl at h;split at h
 . rename_i k;split at h
   . rename_i j;cases h;obtain⟨v1,h1,g⟩:=he k _ j;have:=g.tA;subst this;have f:dc N J (N+1) (cA J N (.arr t [])):=kz;refine⟨_,_,Conv.own h1 (aF.vJ (t:=t) (U:=U)) e,λi v a=>?_,aA.put (by simp) f (.arr t [])⟩;simp only[aT]at a;simp only[look];split at a
     . rename_i b;cases a;rw[af (cM b)];refine⟨_,rfl,.c (.arr N _ _ (by simp) λx l p aj=>?_)⟩;rw[hj,af rfl]at l;grind[cI.c8]
     . rename_i b;rw[al (hJ b)];exact(he.mono f) i v a
   grind
 . grind[Fe]
 grind[Fe]
def GO:List (bh U)->List Bool->Bool
 |[],[]=>true
 |.t _::cs,false::bs=>GO cs bs
 |.aL::cs,true::bs=>GO cs bs
 |_,_=>false
def N1(cs:List (bh U)):List (List Bool×Nat×aF)->Option (Nat×aF)
 |[]=>none
 |(bs,p)::r=>match GO cs bs with
  |true=>some p
  |false=>N1 cs r
def G9(l:List (List Bool×Nat×aF)):a7 U->Option (Nat×Nat×aF)
 |[]=>none
 |(q,.box cs)::r=>match N1 cs l with
  |some p=>some (q,p)
  |none=>G9 l r
 |_::r=>G9 l r
def CT{R:Type}(env:bK U)(J:a7 U)(N:Nat)(k:bK U->a7 U->Nat->Option R):Option R:=
 match G9 U.own J with
 |none=>CV J N λJ N=>k env J N
 |some (q,j,t)=>match zz q j t env J N with
  |some (env,J)=>CV J (N+1) λJ N=>k env J N
  |none=>none
theorem Qu{k:bK U->a7 U->Nat->Option R}{r:R}(h:CT env J N k=some r)(he:cN N J (λ_=>true) env env1)(aA:cm N J J1)(d:kk<=N):
 ∃env' J' N' a bj,k env' J' N'=some r/\Conv kk N env1 J1 N' a bj/\cN N' J' (λ_=>true) env' a/\cm N' J' bj/\N<=N':=by
 unfold CT at h;split at h
 . obtain⟨i,c,g,g1,g2,g3,g4,b⟩:=Qs h he aA;exact⟨_,_,_,_,_,g1,g2,g3,g4,b⟩
 . split at h
   . rename_i e s f;obtain⟨aK,s1,c1,c2,c3⟩:=Fe f he aA d;obtain⟨i,c,g,g1,g2,g3,g4,b⟩:=Qs h c2 c3;exact⟨_,_,_,_,_,g1,c1.trans g2,g3,g4,by omega⟩
   grind
theorem QZ:∀{l:List (Pos×aF)} {env env':bK U} {J J':a7 U} {N N':Nat} {env1:Env} {J1:aZ},CR l env J N=some (env',J',N')->cN N J (λ_=>true) env env1->cm N J J1->kk<=N->
 ∃a bj,Conv kk N env1 J1 N' a bj/\cN N' J' (λ_=>true) env' a/\cm N' J' bj/\N<=N'
 |[],env,env',J,J',N,N',env1,J1,h,he,aA,b=>by obtain⟨rfl,rfl,rfl⟩:=h;exact⟨env1,J1,Conv.refl,he,aA,e9 _⟩
 |(p,t)::r,env,env',J,J',N,N',env1,J1,h,he,aA,b=>by
  simp[CR]at h;split at h
  . rename_i e s h1;obtain⟨aK,s1,bb,bq,bU⟩:=Wj h1 he aA b;obtain⟨c,i,d,f,g,j⟩:=QZ h bq bU (by omega);exact⟨c,i,bb.trans d,f,g,by omega⟩
  grind
end
end
section
open Go
variable {U:cE}
inductive kq where
 |hole (ty:aF)
 |ptr (b o:Nat)
 |cG (b:Nat)(ty:aF)(o:Nat)
 |dO (ty:aF)(o:Nat)
 |arr (b:Nat)
 |mp (b:Nat)
 |cb (b:Nat)
 |aL
 |e6
 |e5
 |fn (f:Nat)(caps:aW)
 |dead
inductive eU where
 |c (s:kq)
 |agg (l:List kq)
 |row (n:Nat)
 |a6 (l:List eU)
inductive fE where
 |box (l:List kq)
 |arr (ty:aF)
 |ba (n:Nat)
 |gone
 |set
 |buf (E:Nat)
 |bT (E:Nat)(s:kq)
structure Shape where
 env:List (Nat×eU)
 st:List fE
abbrev eL(U:cE):=List (Cell U.D)
def tL:kq->eL U->bh U×eL U
 |.hole _,c::r=>(.t c,r)
 |.hole _,[]=>(.dead,[])
 |.ptr b o,r=>(.ptr b o,r)
 |.cG b ty o,⟨.int _,n⟩::r=>(.cG b ty (Int.toNat n) o,r)
 |.cG _ _ _,r=>(.dead,r)
 |.dO _ o,c::r=>(.dO c.ty c.val o,r)
 |.dO _ _,[]=>(.dead,[])
 |.arr b,r=>(.arr b,r)
 |.mp b,r=>(.mp b,r)
 |.cb b,r=>(.cb b,r)
 |.aL,r=>(.aL,r)
 |.e6,r=>(.e6,r)
 |.e5,r=>(.e5,r)
 |.fn f caps,r=>(.fn f caps,r)
 |.dead,r=>(.dead,r)
def wG:List kq->eL U->List (bh U)×eL U
 |[],r=>([],r)
 |s::ss,r=>match tL s r with
  |(x,a)=>match wG ss a with
   |(xs,b)=>(x::xs,b)
mutual
def lR:eU->eL U->bC U×eL U
 |.c s,r=>match tL s r with
  |(x,a)=>(.c x,a)
 |.agg l,r=>match wG l r with
  |(xs,a)=>(.agg xs,a)
 |.row _,c::r=>(.agg ((c.ty.row U c.val).map .t),r)
 |.row _,[]=>(.a6 [],[])
 |.a6 l,r=>match j6 l r with
  |(xs,a)=>(.a6 xs,a)
def j6:List eU->eL U->List (bC U)×eL U
 |[],r=>([],r)
 |s::ss,r=>match lR s r with
  |(x,a)=>match j6 ss a with
   |(xs,e)=>(x::xs,e)
end
def Ah:List (Nat×eU)->eL U->bK U×eL U
 |[],r=>([],r)
 |(k,s)::ss,r=>match lR s r with
  |(x,a)=>match Ah ss a with
   |(xs,b)=>((k,x)::xs,b)
def jE:fE->eL U->Option (cI U)×eL U
 |.box l,r=>match wG l r with
  |(xs,a)=>(some (.box xs),a)
 |.arr _,⟨.slice t,l⟩::r=>(some (.arr t l),r)
 |.arr _,r=>(none,r)
 |.ba _,c::r=>(some (.box ((c.ty.row U c.val).map .t)),r)
 |.ba _,[]=>(none,[])
 |.gone,r=>(none,r)
 |.set,⟨.slice .str,l⟩::r=>(some (.set l),r)
 |.set,r=>(none,r)
 |.buf E,⟨.str,s⟩::r=>(some (.buf E s),r)
 |.buf _,r=>(none,r)
 |.bT E s,r=>match tL s r with
  |(x,a)=>(some (.bT E x),a)
def hi:Nat->List fE->eL U->a7 U
 |_,[],_=>[]
 |j,s::ss,r=>match jE s r with
  |(some x,a)=>(j,x)::hi (j+1) ss a
  |(none,a)=>hi (j+1) ss a
def pR{α:Type}:List α->Nat->Option α
 |[],_=>none
 |a::_,0=>some a
 |_::l,n+1=>pR l n
theorem Ca{α:Type}:∀{l:List α} {n:Nat},pR l n=l[n]?
 |[],n=>by rfl
 |a::l,0=>by rfl
 |a::l,n+1=>by simp[pR,Ca]
def qq(bs:aW)(j b:Nat):Bool:=match pR bs j with
 |some a=>Nat.beq a b
 |none=>false
def zR(bs:aW):aW->aW->Bool
 |[],[]=>true
 |j::a,c::cs=>qq bs j c&&zR bs a cs
 |_,_=>false
def EU(ty:aF):bh U->Option (Cell U.D)
 |.t c=>match Cell.as ty c with
  |some x=>some ⟨ty,x⟩
  |none=>none
 |.aL=>match ty with
  |.slice t=>some ⟨.slice t,([]:List (t.den U.D))⟩
  |_=>none
 |_=>none
def we(bs:aW):kq->bh U->Option (eL U)
 |.hole ty,x=>match EU ty x with
  |some c=>some [c]
  |none=>none
 |.ptr j o,.ptr b a=>match qq bs j b&&Nat.beq o a with
  |true=>some []
  |false=>none
 |.cG j ty o,.cG b d i a=>match qq bs j b&&(Nat.beq o a&&aF.beq ty d)with
  |true=>some [⟨.int .i64,(i:Int)⟩]
  |false=>none
 |.dO ty o,.dO d x a=>match Nat.beq o a,Cell.as ty (⟨d,x⟩:Cell U.D)with
  |true,some x=>some [⟨ty,x⟩]
  |_,_=>none
 |.arr j,.arr b=>match qq bs j b with
  |true=>some []
  |false=>none
 |.mp j,.mp b=>match qq bs j b with
  |true=>some []
  |false=>none
 |.cb j,.cb b=>match qq bs j b with
  |true=>some []
  |false=>none
 |.aL,.aL=>some []
 |.e6,.e6=>some []
 |.e5,.e5=>some []
 |.fn f g,.fn e cs=>match Nat.beq f e&&zR bs g cs with
  |true=>some []
  |false=>none
 |.dead,_=>some []
 |_,_=>none
def pI(bs:aW):List kq->List (bh U)->Option (eL U)
 |[],[]=>some []
 |s::ss,x::xs=>match we bs s x,pI bs ss xs with
  |some a,some b=>some (a++b)
  |_,_=>none
 |_,_=>none
mutual
def jD(bs:aW):eU->bC U->Option (eL U)
 |.c s,.c x=>we bs s x
 |.agg l,.agg xs=>pI bs l xs
 |.row n,.agg xs=>match pD U (.nm n) xs with
  |some x=>some [⟨.nm n,x⟩]
  |none=>none
 |.a6 l,.a6 xs=>me bs l xs
 |_,_=>none
def me(bs:aW):List eU->List (bC U)->Option (eL U)
 |[],[]=>some []
 |s::ss,x::xs=>match jD bs s x,me bs ss xs with
  |some a,some b=>some (a++b)
  |_,_=>none
 |_,_=>none
end
def wg(bs:aW)(env:bK U):List (Nat×eU)->Option (eL U)
 |[]=>some []
 |(k,s)::ss=>match aT env k with
  |some x=>match jD bs s x,wg bs env ss with
   |some a,some b=>some (a++b)
   |_,_=>none
  |none=>none
def oa(bs:aW):fE->cI U->Option (eL U)
 |.box l,.box xs=>pI bs l xs
 |.arr ty,.arr t l=>match Cell.as (.slice ty) (⟨.slice t,l⟩:Cell U.D)with
  |some l=>some [⟨.slice ty,l⟩]
  |none=>none
 |.arr ty,.rows sz r=>match Nat.beq (ty.sz U) sz,l4 U ty r with
  |true,some l=>some [⟨.slice ty,l⟩]
  |_,_=>none
 |.ba n,.box xs=>match pD U (.nm n) xs with
  |some x=>some [⟨.nm n,x⟩]
  |none=>none
 |.set,.set l=>some [⟨.slice .str,l⟩]
 |.buf E,.buf a s=>match Nat.beq E a with
  |true=>some [⟨.str,s⟩]
  |false=>none
 |.bT E s,.bT a x=>match Nat.beq E a with
  |true=>we bs s x
  |false=>none
 |_,_=>none
def iF(bs:aW)(J:a7 U):Nat->List fE->Option (eL U)
 |_,[]=>some []
 |j,.gone::ss=>iF bs J (j+1) ss
 |j,s::ss=>match pR bs j with
  |some b=>match aT J b with
   |some x=>match oa bs s x,iF bs J (j+1) ss with
    |some a,some r=>some (a++r)
    |_,_=>none
   |none=>none
  |none=>none
variable{a:eL U}{ss:List fE}
section
variable {kk N:Nat}{J Jc:a7 U}{J1:aZ}{env:bK U}{env1:Env}{bs:aW}
def Can(bs:aW)(J Jc:a7 U):Prop:=∀j b a,bs[j]?=some b->aT Jc j=some a->∃x,aT J b=some x/\∀p,a.c8=some p->x.c8=some p
theorem mv(bY:bs.Nodup){j b:Nat}(h:bs[j]?=some b):pos bs b=some j:=by
 induction bs generalizing j with
 |nil=>grind
 |cons a bs ih=>
  grind[pos]
theorem tZ{j b:Nat}(h:qq bs j b=true):bs[j]?=some b:=by
 unfold qq at h;rw[Ca]at h;split at h
 all_goals simp_all
theorem Q0(bY:bs.Nodup):∀{a cs:aW},zR bs a cs=true->oS bs cs=some a
 |[],[],_=>rfl
 |j::a,c::cs,h=>by
  simp[zR]at h;simp[oS,mv bY (tZ h.1),Q0 bY h.2]
theorem Xh{ty:aF}{x:bh U}{c:Cell U.D}{d:C}(h:EU ty x=some c)(a:b8 N J x d):dC (d.bO bs) (.t (c.enc U))/\c.ty=ty:=by
 unfold EU at h;split at h
 . split at h
   . rename_i e y b;cases h;rw[Cell.jS b]at a;cases a;exact⟨dC.refl _,rfl⟩
   grind
 . split at h
   . cases h;cases a;exact⟨dC.aL,rfl⟩
   grind
 grind
theorem Fz(bY:bs.Nodup)(v:Can bs J Jc){s:kq}{x:bh U}(h:we bs s x=some a):
 ∃y,(∀r,tL s (a++r)=(y,r))/\∀d,b8 N J x d->∃u,dC (d.bO bs) u/\b8 bs.length Jc y u:=by
 unfold we at h;split at h
 . split at h
   . rename_i c B;cases h;exact⟨.t c,λr=>rfl,λd g=>⟨_,(Xh B g).1,.t c⟩⟩
   grind
 . rename_i j o b w;split at h
   . rename_i k;simp only[cX]at k;have:=cM k.2;subst this;cases h;refine⟨.ptr j o,λr=>rfl,λd g=>⟨.ptr j o,?_,.ptr j o⟩⟩;cases g;simp only[C.bO,mv bY (tZ k.1)];exact dC.refl _
   grind
 . rename_i j ty o b F i w;split at h
   . rename_i k;simp only[cX]at k;have:=cM k.2.1;subst this;have:=aF.beq_eq k.2.2;subst this;cases h;refine⟨.cG j ty i o,λr=>rfl,λd g=>⟨.cG j (ty.sz U) i o,?_,.cG j ty i o⟩⟩;cases g;simp only[C.bO,mv bY (tZ k.1)];exact dC.refl _
   grind
 . rename_i ty o F x w;split at h
   . rename_i y D E;have:=cM D;subst this;cases h;have e:=Cell.jS E;cases e;refine⟨.dO ty y o,λr=>rfl,λd g=>⟨d,?_,?_⟩⟩
     . cases g;exact dC.refl _
     . cases g;exact .dO ty y o
   grind
 . rename_i j b;split at h
   . rename_i k;cases h;refine⟨.arr j,λr=>rfl,λd g=>?_⟩;cases g with
     |arr _ sz n A aa=>
      have l:=tZ k;refine⟨.arr j sz 0 n,?_,.arr j sz n (dV.1 l).1 λx m p aj=>?_⟩
      . simp only[C.bO,mv bY l];exact dC.refl _
      . obtain⟨G,h1,z⟩:=v j b x l m;grind
   grind
 . rename_i j b;split at h
   . rename_i k;cases h;refine⟨.mp j,λr=>rfl,λd g=>?_⟩;cases g;refine⟨.mp j,?_,.mp j⟩;simp only[C.bO,mv bY (tZ k)];exact dC.refl _
   grind
 . rename_i j b;split at h
   . rename_i k;cases h;refine⟨.cb j,λr=>rfl,λd g=>?_⟩;cases g with
     |cb _ n A aa=>
      have l:=tZ k;refine⟨.cb j n,?_,.cb j n (dV.1 l).1 λx m p aj=>?_⟩
      . simp only[C.bO,mv bY l];exact dC.refl _
      . obtain⟨G,h1,z⟩:=v j b x l m;grind
   grind
 . cases h;exact⟨.aL,λr=>rfl,λd g=>by cases g;exact⟨.aL,dC.refl _,.aL⟩⟩
 . cases h;exact⟨.e6,λr=>rfl,λd g=>by cases g;exact⟨.e6,dC.refl _,.e6⟩⟩
 . cases h;exact⟨.e5,λr=>rfl,λd g=>by cases g;exact⟨.e5,dC.refl _,.e5⟩⟩
 . rename_i f q H cs;split at h
   . rename_i k;simp only[cX]at k;have:=cM k.1;subst this;cases h;refine⟨.fn f q,λr=>rfl,λd g=>⟨.fn f q,?_,.fn f q⟩⟩;cases g;simp only[C.bO,Q0 bY k.2];exact dC.refl _
   grind
 . cases h;exact⟨.dead,λr=>rfl,λd g=>⟨.dead,dC.dead _,.dead _⟩⟩
 . cases h
theorem Ff(bY:bs.Nodup)(e:Can bs J Jc):∀{ss:List kq} {xs:List (bh U)} {a:eL U},pI bs ss xs=some a->
 ∃ys,(∀r,wG ss (a++r)=(ys,r))/\∀b,aX (b8 N J) xs b->∃c,aX dC (b.map (C.bO bs)) c/\aX (b8 bs.length Jc) ys c
 |[],[],a,h=>by simp[pI]at h;subst h;exact⟨[],λr=>rfl,λb d=>by cases d;exact⟨[],.nil,.nil⟩⟩
 |s::ss,x::xs,a,h=>by
  simp[pI]at h;split at h
  . rename_i a1 a2 h1 j;cases h;obtain⟨y,f1,g1⟩:=Fz bY e h1;obtain⟨ys,f2,g2⟩:=Ff bY e j;refine⟨y::ys,λr=>by simp[wG,f1,f2],λb d=>?_⟩;cases d with
    |cons tN k=>
     obtain⟨f,aK,g⟩:=g1 _ tN;obtain⟨c,dD,i⟩:=g2 _ k;exact⟨f::c,.cons aK dD,.cons g i⟩
  grind
 |[],_::_,a,h=>by simp[pI]at h
 |_::_,[],a,h=>by grind[pI]
theorem Hy{n:Nat}{xs:List (bh U)}{x:(aF.nm n).den U.D}(h:pD U (.nm n) xs=some x):∀b,aX (b8 N J) xs b->∃f,aX dC (b.map (C.bO bs)) f/\aX (b8 bs.length Jc) (((aF.nm n).row U x).map .t) f:=by
 intro b i;refine⟨((aF.nm n).enc U x).map .t,?_,xO⟩;unfold pD at h;split at h
 . rename_i row a;rw[aF.tK,aF.DH h];clear h;generalize (aF.nm n).cells U=df at a;induction xs generalizing df row b with
   |nil=>
    cases i;cases df<;>simp[ig]at a;subst a;exact .nil
   |cons y ys ih=>
    cases i with
    | @cons _ d _ b h1 g=>
     cases df with
     |nil=>grind[ig]
     |cons ty df=>
      cases h1 with
      |t c=>cases ty<;>simp[ig]at a<;>(split at a<;>first|(cases a;done)|(rename_i q e;cases a;exact .cons (dC.refl _) (ih _ g _ _ e)))
      |aL=>
       cases ty<;>simp[ig]at a;split at a
       . rename_i q e;cases a;exact .cons dC.aL (ih _ g _ _ e)
       grind
      |_=>grind[ig]
 grind
mutual
theorem Dd(bY:bs.Nodup)(w:Can bs J Jc):∀{s:eU} {x:bC U} {a:eL U},jD bs s x=some a->
 ∃y,(∀r,lR s (a++r)=(y,r))/\∀d,bN N J x d->∃j,gC (d.bO bs) j/\bN bs.length Jc y j
 |.c s,.c x,a,h=>by
  simp only[jD]at h;obtain⟨y,f,g⟩:=Fz (N:=N) bY w h;refine⟨.c y,λr=>by simp only[lR,f],λd e=>?_⟩;cases e with
  |c e=>obtain⟨j,aK,q⟩:=g _ e;exact⟨.c j,.c aK,.c q⟩
 |.agg l,.agg xs,a,h=>by
  simp only[jD]at h;obtain⟨y,f,g⟩:=Ff (N:=N) bY w h;refine⟨.agg y,λr=>by simp only[lR,f],λd e=>?_⟩;cases e with
  |agg e=>obtain⟨j,aK,q⟩:=g _ e;exact⟨.agg j,.agg aK,.agg q⟩
 |.row n,.agg xs,a,h=>by
  simp only[jD]at h;split at h
  . rename_i x v;cases h;refine⟨.agg (((aF.nm n).row U x).map .t),λr=>rfl,λd e=>?_⟩;cases e with
    |agg e=>obtain⟨j,aK,q⟩:=Hy v _ e;exact⟨.agg j,.agg aK,.agg q⟩
  . cases h
 |.a6 l,.a6 xs,a,h=>by
  simp only[jD]at h;obtain⟨ys,f,ad,g⟩:=tD bY w h;refine⟨.a6 ys,λr=>by simp only[lR,f],λd e=>?_⟩;cases e with
  |a6 _ o E e=>
   obtain⟨p,aK,q,dD⟩:=g o E e;refine⟨.a6 p,.a6 _ _ (by rw[A2];exact aK.symm) ?_,.a6 _ _ (by omega) λi x d v A=>(dD i x d v A)⟩;intro i x y v G;rw[BB,bu]at v;grind
 |.c _,.agg _,a,h=>by simp[jD]at h
 |.c _,.a6 _,a,h=>by simp[jD]at h
 |.agg _,.c _,a,h=>by simp[jD]at h
 |.agg _,.a6 _,a,h=>by simp[jD]at h
 |.row _,.c _,a,h=>by simp[jD]at h
 |.row _,.a6 _,a,h=>by simp[jD]at h
 |.a6 _,.c _,a,h=>by simp[jD]at h
 |.a6 _,.agg _,a,h=>by simp[jD]at h
theorem tD(bY:bs.Nodup)(w:Can bs J Jc):∀{ss:List eU} {xs:List (bC U)} {a:eL U},me bs ss xs=some a->
 ∃ys:List (bC U),(∀r,j6 ss (a++r)=(ys,r))/\ys.length=xs.length/\∀o:List V,xs.length=o.length->(∀(i:Nat) x d,xs[i]?=some x->o[i]?=some d->bN N J x d)->
  ∃p:List V,p.length=o.length/\(∀(i:Nat) (d j:V),o[i]?=some d->p[i]?=some j->gC (d.bO bs) j)/\(∀(i:Nat) y j,ys[i]?=some y->p[i]?=some j->bN bs.length Jc y j)
 |[],[],a,h=>by simp[me]at h;subst h;exact⟨[],λr=>rfl,rfl,λo ad e=>⟨[],by simpa using ad,by simp,by simp⟩⟩
 |s::ss,x::xs,a,h=>by
  simp only[me]at h;split at h
  . rename_i a1 a2 h1 D;cases h;obtain⟨y,f1,g1⟩:=Dd bY w h1;obtain⟨ys,f2,ad,g2⟩:=tD bY w D;refine⟨y::ys,λr=>by simp only[j6,jh,f1,f2],by simp[ad],λo B e=>?_⟩;cases o with
    |nil=>simp at B
    |cons d o=>
     obtain⟨j,aK,q⟩:=g1 d (e 0 x d rfl rfl);obtain⟨p,dD,F,j3⟩:=g2 o (by simpa using B) λi x d v A=>e (i+1) x d (by simpa using v) (by simpa using A);refine⟨j::p,by simp[dD],λi=>?_,λi=>?_⟩
     . grind
     grind
  . cases h
 |[],_::_,a,h=>by simp[me]at h
 |_::_,[],a,h=>by simp[me]at h
end
theorem FN:∀{ks:aW} {k:Nat} {g:Bool} {v:V},k∈ks->look env1 k=some (g,v)->look (nL bs env1 ks) k=some (g,v.bO bs)
 |x::ks,k,g,v,b,ad=>by
  simp[nL];by_cases h:x=k
  . grind[look]
  . have a:k∈ks:=(by grind);split
    . simp[look,al h];exact FN a ad
    . exact FN a ad
theorem Q1(bY:bs.Nodup)(f:Can bs J Jc)(he:cN N J (λ_=>true) env env1):∀{ss:List (Nat×eU)} {a:eL U},wg bs env ss=some a->
 ∃e,(∀r,Ah ss (a++r)=(e,r))/\∃c:Env,cN bs.length Jc (λ_=>true) e c/\∀k g j,look c k=some (g,j)->k∈ss.map Prod.fst/\∃v,look env1 k=some (g,v)/\gC (v.bO bs) j
 |[],a,h=>by simp[wg]at h;subst h;exact⟨[],λr=>rfl,[],λk v q=>by grind[aT],λk g v h=>by grind[look]⟩
 |(k,s)::ss,a,h=>by
  simp[wg]at h;split at h
  . rename_i x o;split at h
    . rename_i a1 a2 h1 m;cases h;obtain⟨y,f1,g1⟩:=Dd bY f h1;obtain⟨e,f2,c,aK,p⟩:=Q1 bY f he m;obtain⟨d,bb,bq⟩:=he k x o;obtain⟨l,t,u⟩:=g1 d bq;refine⟨(k,y)::e,λr=>by simp[Ah,f1,f2],(k,true,l)::c,λi v b=>?_,λi g v b=>?_⟩
      . simp[aT]at b;simp[look];split at b
        . simp_all
        . rename_i n;rw[al (hJ n)];exact aK i v b
      . simp[look]at b;grind
    . cases h
  grind
theorem FA(bY:bs.Nodup)(k:Can bs J Jc){s:fE}{x:cI U}(h:oa bs s x=some a):
 ∃y,(∀r,jE s (a++r)=(some y,r))/\(∀d,hC N J x d->∃i,km (d.bO bs) i/\hC bs.length Jc y i):=by
 unfold oa at h;split at h
 . obtain⟨ys,f,g⟩:=Ff bY k h;refine⟨.box ys,λr=>by grind[jE],λd b=>?_⟩;cases b with
   |box b=>obtain⟨j,aK,c⟩:=g _ b;exact⟨.box _,.box aK,.box c⟩
 . rename_i ty t p;split at h
   . rename_i l ad;cases h;have e:=Cell.jS ad;cases e;refine⟨.arr ty l,λr=>rfl,λd b=>?_⟩;cases b;exact⟨_,.arr,.arr ty l⟩
   grind
 . rename_i ty sz r;split at h
   . rename_i l m ad;cases h;have:=cM m;subst this;refine⟨.arr ty l,λr=>rfl,λd b=>?_⟩;cases b with
     |rows h1 o=>
      refine⟨_,.arr,?_⟩;rw[<-u3 ad h1];exact .arr ty l
   grind
 . split at h
   . rename_i x n;cases h;refine⟨.box _,λr=>rfl,λd b=>?_⟩;cases b with
     |box b=>obtain⟨j,aK,c⟩:=Hy n _ b;exact⟨.box j,.box aK,.box c⟩
   grind
 . cases h;refine⟨.set _,λr=>rfl,λd b=>?_⟩;cases b;exact⟨_,.same,.set _⟩
 . split at h
   . rename_i dY;have:=cM dY;subst this;cases h;refine⟨.buf _ _,λr=>rfl,λd b=>?_⟩;cases b;exact⟨_,.same,.buf _ _⟩
   grind
 . split at h
   . rename_i dY;have:=cM dY;subst this;obtain⟨y,f,g⟩:=Fz bY k h;refine⟨.bT _ y,λr=>by simp[jE,f];rfl,λd b=>?_⟩;cases b with
     |bT b=>obtain⟨i,aK,c⟩:=g _ b;exact⟨.bT _ i,.bT aK,.bT c⟩
   grind
 grind
theorem Qv{t:aF}:∀{r:List (List (bh U))} {l:List (t.den U.D)},l4 U t r=some l->l.length=r.length
 |[],l,h=>by grind[l4]
 |r::c,l,h=>by
  simp[l4]at h;split at h
  . rename_i x xs b a;cases h;simp[Qv a]
  grind
theorem Ye{s:fE}{x y:cI U}{r:eL U}(h:oa bs s x=some a)(b:jE s (a++r)=(some y,r)):∀p,y.c8=some p->x.c8=some p:=by
 unfold oa at h;split at h
 . grind[jE,cI.c8]
 . split at h
   . rename_i l ad;have e:=Cell.jS ad;simp only[jE,qQ,hZ,vn]at b;grind
   grind
 . split at h
   . rename_i l c ad;have:=cM c;subst this;simp only[jE,qQ,hZ,vn]at b;grind[cI.c8,Qv]
   grind
 . split at h
   . cases h;intro p aj;simp only[jE,qQ,hZ,ef,dP,vn]at b;grind[cI.c8]
   grind
 . simp only[jE,qQ,hZ,ef,dP,vn]at b;grind
 . split at h
   . rename_i dY;have:=cM dY;simp only[jE,qQ,hZ,ef,dP,vn]at b;grind
   grind
 . grind[jE,cI.c8]
 grind
theorem oI(bY:bs.Nodup):∀{ss:List fE} {j:Nat} {a:eL U},iF bs J j ss=some a->
 (∀i c,aT (hi j ss a) i=some c->j<=i/\i<j+ss.length/\∃b x,bs[i]?=some b/\aT J b=some x/\∃s d,oa bs s x=some d/\∀r,jE s (d++r)=(some c,r))
 |[],j,a,h=>by grind[hi,aT]
 |.gone::ss,j,a,h=>by
  intro i c e;simp only[iF]at h;obtain⟨h1,g,m⟩:=oI bY h i c e;grind
 |.box l::ss,j,a,h=>tC bY (λ{j a}=>oI bY) (by simpa only[iF]using h)
 |.arr l::ss,j,a,h=>tC bY (λ{j a}=>oI bY (a:=a)) (by simpa only[iF]using h)
 |.ba l::ss,j,a,h=>tC bY (λ{j a}=>oI bY (ss:=ss) (j:=j) (a:=a)) (by simpa only[iF]using h)
 |.set::ss,j,a,h=>tC bY (λ{j a}=>oI bY (ss:=ss) (j:=j) (a:=a)) (by simpa only[iF]using h)
 |.buf E::ss,j,a,h=>tC bY (λ{j a}=>oI bY (ss:=ss) (j:=j) (a:=a)) (by simpa only[iF]using h)
 |.bT E l::ss,j,a,h=>tC bY (λ{j a}=>oI bY (ss:=ss) (j:=j) (a:=a)) (by grind[iF])
where
 tC (bY:bs.Nodup) {s:fE} {ss:List fE} (ih:∀{j:Nat} {a:eL U},iF bs J j ss=some a->
  (∀i c,aT (hi j ss a) i=some c->j<=i/\i<j+ss.length/\∃b x,bs[i]?=some b/\aT J b=some x/\∃s d,oa bs s x=some d/\∀r,jE s (d++r)=(some c,r))) {j:Nat} {a:eL U} (h:(match pR bs j with
  |some b=>match aT J b with
   |some x=>match oa bs s x,iF bs J (j+1) ss with
    |some a,some r=>some (a++r)
    |_,_=>none
   |none=>none
  |none=>none)=some a):(∀i c,aT (hi j (s::ss) a) i=some c->j<=i/\i<j+(s::ss).length/\∃b x,bs[i]?=some b/\aT J b=some x/\∃s d,oa bs s x=some d/\∀r,jE s (d++r)=(some c,r)):=by
  intro i c e;split at h
  . rename_i b k;rw[Ca]at k;split at h
    . split at h
      . rename_i a1 a2 h1 g;cases h;obtain⟨y,f,_⟩:=FA (N:=0) (J:=J) (Jc:=[]) bY (λ_ _ _ _ h=>by simp[aT]at h) h1;simp only[hi,f,aT]at e;grind[cM]
      . cases h
    . cases h
  . cases h
def fh(U:cE)(sh:Shape)(a:eL U):bK U×a7 U:=
 match Ah sh.env a with
 |(e,r)=>(e,hi 0 sh.st r)
def Dc(bs:aW)(sh:Shape)(env:bK U)(J:a7 U):Option (eL U):=
 match wg bs env sh.env,iF bs J 0 sh.st with
 |some a,some b=>some (a++b)
 |_,_=>none
theorem y3(bY:bs.Nodup){b:eL U}(g:iF bs J 0 ss=some b):Can bs J (hi 0 ss b):=by
 intro j c k a i;obtain⟨_,_,m,x,h1,d,s,l,e,f⟩:=oI bY g j k i;rw[h1]at a;cases a;exact⟨x,d,Ye e (f [])⟩
theorem yk:∀{r:aW} {i j c:Nat} {x:bP},r[j]?=some c->aR J1 c=some x->aR (fH bs J1 i r) (i+j)=some (x.bO bs)
 |[],i,j,c,x,h,_=>by grind
 |b::r,i,0,c,x,h,a=>by
  grind[fH,aR]
 |b::r,i,j+1,c,x,h,a=>by
  simp[fH];have:=yk (i:=i+1) (j:=j) (r:=r) (by grind) a;grind[aR]
theorem CB(bY:bs.Nodup)(aA:cm N J J1){b:eL U}(o:iF bs J 0 ss=some b):
 ∃bj,re (fH bs J1 0 bs) bj/\cm bs.length (hi 0 ss b) bj:=by
 have E:=y3 bY o;have H:=oI bY o;generalize hi 0 ss b=Jc at*;have key:∀(l:a7 U),(∀i a,aT l i=some a->aT Jc i=some a)->∃bj:aZ,(∀i x,aR bj i=some x->∃y,aR (fH bs J1 0 bs) i=some y/\km y x)/\(∀i a,aT l i=some a->i<bs.length/\∃y,aR bj i=some y/\hC bs.length Jc a y):=by
  intro l;induction l with
  |nil=>intro _;exact⟨[],λi x h=>by grind[aR],λi x h=>by grind[aT]⟩
  |cons p l ih=>
   obtain⟨d,t⟩:=p;intro ad;have:=by
    have aux:∀(m:a7 U),(∀i a,i≠d->aT m i=some a->aT Jc i=some a)->∃bj:aZ,(∀i x,aR bj i=some x->∃y,aR (fH bs J1 0 bs) i=some y/\km y x)/\(∀i a,i≠d->aT m i=some a->i<bs.length/\∃y,aR bj i=some y/\hC bs.length Jc a y):=by
     intro m Q;have K:∀i a,aT (dl m d) i=some a->aT Jc i=some a:=by
      intro i a h;rw[mF]at h;grind
     have build:∀n,∃bj:aZ,(∀i x,aR bj i=some x->∃y,aR (fH bs J1 0 bs) i=some y/\km y x)/\(∀i a,i<n->aT (dl m d) i=some a->i<bs.length/\∃y,aR bj i=some y/\hC bs.length Jc a y):=by
      intro n;induction n with
      |zero=>exact⟨[],λi x h=>by grind[aR],λi x h=>by omega⟩
      |succ n M=>
       obtain⟨s,h1,g⟩:=M;cases aP:aT (dl m d) n with
       |none=>exact⟨s,h1,λi a k c=>g i a (by grind) c⟩
       |some D=>
        obtain⟨_,_,u,x,g1,g2,P,I,g3,g4⟩:=H n D (K n D aP);obtain⟨_,y,bb,bq⟩:=aA u x g2;obtain⟨z,f,q⟩:=FA (N:=N) bY E g3;have:z=D:=(by simp_all);subst this;obtain⟨r,O,w⟩:=q y bq;have ht:=yk (bs:=bs) (i:=0) (j:=n) g1 bb;refine⟨c7 s n r,λi x k=>?_,λi a k c=>?_⟩
        . grind[cR]
        . by_cases e:i=n
          . subst e;rw[aP]at c;cases c;exact⟨(dV.1 g1).1,r,by rw[cR,af rfl],w⟩
          . obtain⟨A,z,B,C⟩:=g i a (by omega) c;exact⟨A,z,by rw[cR,al (λv=>e v.symm)];exact B,C⟩
     obtain⟨s,h1,g⟩:=build bs.length;refine⟨s,h1,λi a G c=>?_⟩;have F:aT (dl m d) i=some a:=by rw[mF,al (λe=>G e.symm)];exact c
     grind
    exact aux l λi a G h=>ad i a (by
     grind[aT,cM])
   obtain⟨s,h1,g⟩:=this;have L:aT Jc d=some t:=ad d t (by simp[aT,Nat.beq_refl]);obtain⟨_,_,u,x,g1,g2,P,I,g3,g4⟩:=H d t L;obtain⟨_,y,bb,bq⟩:=aA u x g2;obtain⟨z,f,q⟩:=FA (N:=N) bY E g3;have:z=t:=(by simp_all);subst this;obtain⟨r,O,w⟩:=q y bq;have ht:=yk (bs:=bs) (i:=0) (j:=d) g1 bb;refine⟨c7 s d r,λi x k=>?_,λi a c=>?_⟩
   . rw[cR]at k;grind
   . by_cases e:i=d
     . subst e;simp[aT,Nat.beq_refl]at c;subst c;exact⟨(dV.1 g1).1,r,by rw[cR,af rfl],w⟩
     . have F:aT l i=some a:=by
        simp only[aT]at c;cases o:Nat.beq d i with
        |true=>exact absurd (cM o).symm e
        |false=>rw[o]at c;exact c
       obtain⟨A,z,B,C⟩:=g i a e F;exact⟨A,z,by rw[cR,al (λv=>e v.symm)];exact B,C⟩
 obtain⟨s,h1,g⟩:=key Jc λ_ _ h=>h;exact⟨s,λi x k=>h1 i x k,λi a c=>g i a c⟩
theorem XC(bY:bs.Nodup)(j:keeps kk bs=true)(he:cN N J (λ_=>true) env env1)(aA:cm N J J1){sh:Shape}(h:Dc bs sh env J=some a):
 ∃c bj,Conv kk N env1 J1 bs.length c bj/\cN bs.length (fh U sh a).2 (λ_=>true) (fh U sh a).1 c/\cm bs.length (fh U sh a).2 bj:=by
 unfold Dc at h;split at h
 . rename_i a1 b h1 d;cases h;obtain⟨e,f,c,aK,m⟩:=Q1 bY (y3 bY d) he h1;obtain⟨bj,s1,l⟩:=CB bY aA d;have i:fh U sh (a1++b)=(e,hi 0 sh.st b):=(by grind[fh]);rw[i];refine⟨c,bj,(Conv.tidy (sh.env.map Prod.fst) bs bY j).trans (Conv.weaken (λk g n ad=>?_) s1),aK,l⟩;grind[FN]
 grind
end
end
section
open Go
variable {U:cE}
def fj(D:Nat->Type):aF->List aF->Type
 |t,[]=>t.den D
 |t,u::r=>t.den D×fj D u r
def aJ(D:Nat->Type):List aF->Type
 |[]=>Unit
 |t::r=>fj D t r
def fj.cells(D:Nat->Type):(t:aF)->(ts:List aF)->fj D t ts->List (Cell D)
 |t,[],x=>[⟨t,x⟩]
 |t,u::r,x=>⟨t,x.1⟩::fj.cells D u r x.2
def aJ.cells(D:Nat->Type):(ts:List aF)->aJ D ts->List (Cell D)
 |[],_=>[]
 |t::r,x=>fj.cells D t r x
def DE{α:Type}:List α->Option α
 |[c]=>some c
 |_=>none
def tN{α:Type}:List α->Option (α×List α)
 |[]=>none
 |c::r=>some (c,r)
def fj.dec(D:Nat->Type):(t:aF)->(ts:List aF)->List (Cell D)->Option (fj D t ts)
 |t,[],l=>match DE l with
  |some c=>c.as t
  |none=>none
 |t,u::r,l=>match tN l with
  |some p=>match p.1.as t with
   |some x=>match fj.dec D u r p.2 with
    |some y=>some (x,y)
    |none=>none
   |none=>none
  |none=>none
def aJ.dec(D:Nat->Type):(ts:List aF)->List (Cell D)->Option (aJ D ts)
 |[],l=>match l with
  |[]=>some ()
  |_=>none
 |t::r,l=>fj.dec D t r l
variable{α:Type}{D:Nat->Type}{N:Nat}{J:a7 U}{c:α×List α}
theorem Xi{l:List α}{c:α}(h:DE l=some c):l=[c]:=by
 unfold DE at h;grind
theorem Yf{l:List α}(h:tN l=some c):l=c.1::c.2:=by
 unfold tN at h;grind
theorem fj.fl:∀{ts:List aF} {t:aF} {a:List (Cell D)} {h:fj D t ts},fj.dec D t ts a=some h->fj.cells D t ts h=a
 |[],t,a,h,e=>by
  unfold fj.dec at e;split at e
  . rename_i c f;rw[Xi f,Cell.jS e];rfl
  grind
 |u::r,t,a,h,e=>by
  unfold fj.dec at e;split at e
  . split at e
    . rename_i x j;split at e
      . rename_i y g;cases e;have:=fj.fl g;show⟨t,x⟩::fj.cells D u r y=a;grind[Yf,Cell.jS]
      grind
    grind
  grind
theorem aJ.fl:∀{ts:List aF} {a:List (Cell D)} {h:aJ D ts},aJ.dec D ts a=some h->aJ.cells D ts h=a
 |[],[],h,e=>rfl
 |[],_::_,h,e=>by cases (show none=some h from e)
 |t::r,a,h,e=>fj.fl e
def fj.j2(U:cE):(t:aF)->(ts:List aF)->fj U.D t ts
 |t,[]=>t.j2 U
 |t,u::r=>(t.j2 U,fj.j2 U u r)
def aJ.j2(U:cE):(ts:List aF)->aJ U.D ts
 |[]=>()
 |t::r=>fj.j2 U t r
abbrev jR:=List (Nat×Nat)×List (Nat×aF)
def Ek:kq->bh U->jR->jR
 |.ptr j _,.ptr b _,s=>((j,b)::s.1,s.2)
 |.cG j _ _,.cG b _ _ _,s=>((j,b)::s.1,s.2)
 |.arr j,.arr b,s=>((j,b)::s.1,s.2)
 |.mp j,.mp b,s=>((j,b)::s.1,s.2)
 |.cb j,.cb b,s=>((j,b)::s.1,s.2)
 |.fn _ a,.fn _ cs,s=>(a.zip cs++s.1,s.2)
 |.hole (.slice t),.arr b,s=>(s.1,(b,t)::s.2)
 |_,_,s=>s
def El:List kq->List (bh U)->jR->jR
 |a::as,x::xs,s=>El as xs (Ek a x s)
 |_,_,s=>s
def Ct:List aF->List (bh U)->jR->jR
 |.slice t::ts,.arr b::xs,s=>Ct ts xs (s.1,(b,t)::s.2)
 |_::ts,_::xs,s=>Ct ts xs s
 |_,_,s=>s
mutual
def En:eU->bC U->jR->jR
 |.c a,.c x,s=>Ek a x s
 |.agg l,.agg xs,s=>El l xs s
 |.row n,.agg xs,s=>Ct (U.df n) xs s
 |.a6 l,.a6 xs,s=>Cu l xs s
 |_,_,s=>s
def Cu:List eU->List (bC U)->jR->jR
 |a::as,x::xs,s=>Cu as xs (En a x s)
 |_,_,s=>s
end
def Em(env:bK U):List (Nat×eU)->jR->jR
 |[],s=>s
 |(k,a)::r,s=>match aT env k with
  |some x=>Em env r (En a x s)
  |none=>Em env r s
def aem:fE->cI U->jR->jR
 |.box l,.box xs,s=>El l xs s
 |.ba n,.box xs,s=>Ct (U.df n) xs s
 |.bT _ a,.bT _ x,s=>Ek a x s
 |_,_,s=>s
def vE(J:a7 U)(kk:Nat):Nat->List fE->jR->aW->aW×List (Nat×aF)
 |_,[],s,acc=>(acc.reverse,s.2)
 |j,a::r,s,acc=>
  let b:=match aT s.1 j with
   |some b=>b
   |none=>match Nat.ble (j+1) kk with
    |true=>j
    |false=>1000000+j
  match aT J b with
  |some x=>vE J kk (j+1) r (aem a x s) (b::acc)
  |none=>vE J kk (j+1) r s (b::acc)
def sn:aW->Bool
 |[]=>true
 |a::l=>(l.all λb=>!(Nat.beq a b))&&sn l
theorem yl:∀{l:aW},sn l=true->l.Nodup
 |[],_=>vj
 |a::l,h=>by
  simp[sn]at h;refine List.nodup_cons.2 ⟨λb=>?_,yl h.2⟩;have c:=h.1 a b;simp_all
def mP(kk:Nat)(own:List (Pos×aF))(sh:Shape)(ts:List aF)(env:bK U)(J:a7 U)(N:Nat):Option (aJ U.D ts):=
 match CR own env J N with
 |none=>none
 |some (env,J,_)=>match GN env J with
  |none=>none
  |some (env,J)=>match vE J kk 0 sh.st (Em env sh.env ([],[])) []with
   |(bs,b)=>match kl b env J with
    |none=>none
    |some (env,J)=>match sn bs&&(keeps kk bs&&Nat.beq bs.length sh.st.length)with
     |false=>none
     |true=>match Dc bs sh env J with
      |none=>none
      |some a=>aJ.dec U.D ts a
section
variable {kk N:Nat}{J:a7 U}{J1:aZ}{env:bK U}{env1:Env}
theorem uq{own:List (Pos×aF)}{sh:Shape}{ts:List aF}{h:aJ U.D ts}(b:mP kk own sh ts env J N=some h)(he:cN N J (λ_=>true) env env1)(aA:cm N J J1)(v:kk<=N):
 ∃c bj,Conv kk N env1 J1 sh.st.length c bj/\cN sh.st.length (fh U sh (aJ.cells U.D ts h)).2 (λ_=>true) (fh U sh (aJ.cells U.D ts h)).1 c/\cm sh.st.length (fh U sh (aJ.cells U.D ts h)).2 bj/\kk<=sh.st.length:=by
 unfold mP at b;split at b
 . grind
 . rename_i C J2 A h1;obtain⟨dh,vD,e,r,i,cp⟩:=QZ h1 he aA v;split at b
   . grind
   rename_i E y q;obtain⟨aK,s1,f,s,j⟩:=Vg q r i;have c1:=e.trans f;split at b;rename_i bs G _;split at b
   . grind
   . rename_i F z g;obtain⟨B,K,c2,t,k,_⟩:=uy (kk:=kk) (gl:=[]) g s j;split at b
     . grind
     . rename_i d;simp only[cX]at d;obtain⟨n,o,p⟩:=d;have w:=cM p;split at b
       . grind
       . rename_i a m;obtain⟨dD,x,c3,u,l⟩:=XC (yl n) o t k m;rw[aJ.fl b,<-w];refine⟨dD,x,c1.trans (c2.trans c3),u,l,?_⟩;by_cases H:kk=0
         . omega
         . have I:(bs[kk-1]?==some (kk-1))=true:=by
            grind[keeps]
           grind
end
structure cw (U:cE) where
 f:Nat
 ft:List eU
 st:List fE
 ts:List aF
 eJ:eU
 eG:List fE
 us:List aF
 F:aJ U.D ts->Option (aJ U.D us)
def cw.args(s:cw U)(h:aJ U.D s.ts):List (bC U):=(j6 s.ft (aJ.cells U.D s.ts h)).1
def cw.ia(s:cw U)(h:aJ U.D s.ts):a7 U:=hi 0 s.st (j6 s.ft (aJ.cells U.D s.ts h)).2
def cw.res(s:cw U)(r:aJ U.D s.us):bC U:=(lR s.eJ (aJ.cells U.D s.us r)).1
def cw.rest(s:cw U)(r:aJ U.D s.us):a7 U:=hi 0 s.eG (lR s.eJ (aJ.cells U.D s.us r)).2
def hn(P:Program)(s:cw U):Prop:=
 ∀h r,s.F h=some r->∀a J1,aX (bN s.st.length (s.ia h)) (s.args h) a->cm s.st.length (s.ia h) J1->
  eb P s.f a J1 s.st.length (λb bj N'=>N'=s.eG.length/\bN N' (s.rest r) (s.res r) b/\cm N' (s.rest r) bj)
def bh.qV:bh U->Bool
 |.t _|.dO .. |.aL|.e6|.e5=>true
 |.fn _ []=>true
 |_=>false
def gD:bC U->Bool
 |.c x=>x.qV
 |.agg cs=>cs.all bh.qV
 |.a6 vs=>go vs
where go:List (bC U)->Bool
 |[]=>true
 |v::vs=>gD v&&go vs
def bh.ob:bh U->C
 |.t c=>.t (c.enc U)
 |.dO ty x o=>.dO (ty.enc U x) o
 |.aL=>.aL
 |.e6=>.e6
 |.e5=>.e5
 |.fn f caps=>.fn f caps
 |_=>.dead
def fJ:bC U->V
 |.c x=>.c x.ob
 |.agg cs=>.agg (cs.map bh.ob)
 |.a6 vs=>.a6 (go vs)
where go:List (bC U)->List V
 |[]=>[]
 |v::vs=>fJ v::go vs
theorem xG{x:bh U}(h:x.qV=true):b8 N J x x.ob/\(∀d,b8 N J x d->d=x.ob)/\∀n,x.ob.ay n=true:=by
 cases x<;>simp[bh.qV]at h
 . exact⟨.t _,λd a=>by cases a;rfl,λ_=>rfl⟩
 . exact⟨.dO _ _ _,λd a=>by cases a;rfl,λ_=>rfl⟩
 . exact⟨.aL,λd a=>by cases a;rfl,λ_=>rfl⟩
 . exact⟨.e6,λd a=>by cases a;rfl,λ_=>rfl⟩
 . exact⟨.e5,λd a=>by cases a;rfl,λ_=>rfl⟩
 . rename_i f caps;cases caps with
   |nil=>exact⟨.fn _ _,λd a=>by cases a;rfl,λ_=>rfl⟩
   |cons=>grind
theorem Fg:∀{vs:List (bC U)} {i:Nat},(fJ.go vs)[i]?=(vs[i]?).map fJ
 |[],i=>by rfl
 |v::vs,0=>by rfl
 |v::vs,i+1=>by simp[fJ.go,Fg]
theorem Pz:∀{vs:List (bC U)},(fJ.go vs).length=vs.length
 |[]=>rfl
 |v::vs=>by simp[fJ.go,Pz]
theorem QM:∀{vs:List (bC U)} {i:Nat} {v:bC U},gD.go vs=true->vs[i]?=some v->gD v=true
 |[],i,v,_,h=>by grind
 |x::vs,0,v,hs,h=>by grind[gD.go]
 |x::vs,i+1,v,hs,h=>by simp[gD.go]at hs;exact QM hs.2 (by simpa using h)
theorem aux:∀(cs:List (bh U)),(∀x,x∈cs->x.qV=true)->aX (b8 N J) cs (cs.map bh.ob)
 |[],_=>.nil
 |a::l,h=>.cons (xG (h a (by simp))).1 (aux l λx b=>h x (by grind))
theorem u5{N:Nat}{J:a7 U}:∀{x:bC U},gD x=true->bN N J x (fJ x)/\∀n,(fJ x).ay n=true
 |.c x,h=>by
  obtain⟨h1,_,a⟩:=xG h;exact⟨.c h1,λn=>a n⟩
 |.agg cs,h=>by
  simp[gD]at h;refine⟨.agg ?_,λn=>?_⟩
  . grind[aux]
  . simp[fJ,V.ay];intro c b;exact(xG (N:=N) (J:=J) (h c b)).2.2 n
 |.a6 vs,h=>by
  have:=go (N:=N) (J:=J) vs h;refine⟨.a6 _ _ (by rw[Pz]) λi x d j g=>?_,λn=>?_⟩
  . grind[Fg]
  grind[fJ,V.ay]
where go {N:Nat} {J:a7 U}:∀(vs:List _),gD.go vs=true->(∀x,x∈vs->bN N J x (fJ x))/\∀n,V.ay.V.dw n (fJ.go vs)=true
 |[],_=>⟨by simp,λ_=>rfl⟩
 |v::vs,h=>by
  simp[gD.go,cX]at h;obtain⟨h1,e⟩:=u5 (N:=N) (J:=J) h.1;obtain⟨a,f⟩:=go (N:=N) (J:=J) vs h.2;simp_all[fJ.go,V.ay.V.dw]
theorem xH{x:bC U}{d:V}(h:bN N J x d):gD x=true->d=fJ x:=by
 induction h with
 |c h=>intro hs;rw[(xG hs).2.1 _ h];rfl
 | @agg xs b h=>
  intro hs;simp[gD]at hs
  congr 1
  induction h with
  |nil=>rfl
  |cons h1 f ih=>rw[kd,<-(xG (hs _ (by simp))).2.1 _ h1,<-ih (λx a=>hs x (by grind))]
 |a6 xs b ad h ih=>
  intro hs
  congr 1
  apply vv;intro i;rw[Fg];cases a:xs[i]? with
  |none=>grind
  |some x=>
   have g:=(dV.1 a).1;have e:=eF (l:=b) (i:=i) (by omega);rw[e]
   congr 1
   exact ih i x _ a e (QM hs a)
end
section
open Go
variable {U:cE}
variable{K:Env->aZ->Prop}{f:Nat->Nat}
section
variable {P:Program}{nt kk key N N':Nat}{env:Env}{J J':aZ}{Q mU:Exit->Env->aZ->Nat->Prop}
def KB(P:Program)(f:Nat)(args:List V)(J:aZ)(key:Nat)(env:Env)(K:V->aZ->Prop):Prop:=
 ∀av nt φ S a w,Rel av nt φ S env J (lt key) a w->V.ay.V.dw (lt key) args=true->∀vs:List Value,aX (bW φ w S) args vs->
  Calls P f vs.toArray w λe w'=>∃v r bc bd J',e= .returned v/\K r J'/\bW bc w' bd r v/\r.ay (ew (lt key) key)=true/\Rel av nt bc bd env J' (ew (lt key) key) a w'
def aa8(P:Program)(o:bZ)(env:Env)(f:Nat)(vs:List V):Prop:=
 (∃args p,o.op= .call f args/\hv env args=some (p,vs)/\p)\/
 (∃x args q p caps a,o.op= .hW x args/\x.get env=some (q,.c (.fn f caps))/\q/\hv env args=some (p,a)/\p/\hb P f=true/\vs=a++caps.map λb=>V.c (.ptr b 0))
def wh(P:Program)(o:bZ)(key:Nat)(env:Env)(J:aZ)(K:Env->aZ->Prop):Prop:=
 ha P o key env J K\/(fX env o.guard=some true/\∃f vs,aa8 P o env f vs/\KB P f vs J key env λr J'=>K (en env o.dst true r) J')
def mW(P:Program)(kk:Nat):List bZ->Nat->Env->aZ->(Env->aZ->Prop)->Prop
 |[],_,env,J,K=>K env J
 |o::r,key,env,J,K=>∃fm a,Conv kk key env J key fm a/\wh P o key fm a λe s=>mW P kk r (key+16) e s K
theorem Fh{av:Ctx}{φ:cZ}{S:c0}{a:Act}{w:World}(R:Rel av nt φ S env J (lt key) a w){ops:Array Oper}{o:Oper}{r:bZ}(A:um P nt ops o=some r)(h:wh P r key env J K){Q:Exit->Act->World->Prop}:
 if Region.wanted o (yielded ops a.tmps)then o.wp P a w (jr av nt (ew (lt key) key) K) Q else jr av nt (ew (lt key) key) K (a.put o.dst undef) w:=by
 rcases h with h|⟨ak,f,vs,G,y⟩
 . exact BA R (λb h1 _=>xS h1) A h
 . obtain⟨h1,d,s,u⟩:=Pm A;have N:=Qk R d ak;rw[N];rcases G with⟨args,p,m,l,aj⟩|⟨x,args,q,p,caps,E,m,L,M,l,aj,g,rfl⟩
   . rw[m]at h1;obtain⟨c,j,n⟩:=P2 (w7 h1 (by simp));obtain⟨k,g,e⟩:=Pf n;have B:=sJ (w:=w) (a:=a) j k rfl g;simp at B;obtain⟨g1,g2⟩:=qb R e l aj;exact Calls.next s u rfl (λ_ _ h=>h) (y av nt φ S a w R g2 _ g1) B
   . rw[m]at h1;obtain⟨c,j,n⟩:=PU (w7 h1 (by simp));obtain⟨t,rfl,k,e⟩:=PV n;obtain⟨g1,g2⟩:=qb R e l aj;have O:=cl (x:= .tmp t) R rfl L M;have T:=O.1.dT;have H:aX (bW φ w S) (caps.map λb=>V.c (.ptr b 0)) (caps.map λb=>Value.pointer (some ⟨(φ b).1,0,none⟩)):=by
      refine aX.lf (by simp) ?_;intro i v x h1 d;simp at h1 d;obtain⟨b,F,rfl⟩:=h1;obtain⟨U,z,rfl⟩:=d;rw[F]at z;cases z;exact .c rfl
     have I:V.ay.V.dw (lt key) (E++caps.map λb=>V.c (.ptr b 0))=true:=by
      refine rA ?_;intro i v D;by_cases W:i<E.length
      . grind[mo]
      . rw[yd (by omega)]at D;simp only[qP,bu]at D;grind[V.ay,C.ay]
     exact Calls.next s u rfl (λ_ _ h=>h) (y av nt φ S a w R I _ (g1.append H)) (sJ j k T g)
theorem Q2{av:Ctx}(g:av.k=kk){ops:Array Oper}{Q:Exit->Act->World->Prop}{K:Env->aZ->Nat->Prop}:∀{l:List Oper} {aY:List bZ} {k N:Nat} {env:Env} {J:aZ} {φ:cZ} {S:c0} {a:Act} {w:World},gK P nt ops l=some aY->(∀i:Nat,i<l.length->l[i]?=ops[k+i]?)->
 Rel av nt φ S env J (lt N) a w->mW P kk aY N env J (λe s=>K e s (N+16*aY.length))->(∀φ S e s N a w,K e s N->Rel av nt φ S e s (lt N) a w->Q .normal a w)->wpOps P ops Q (List.range' k l.length) a w
 |[],aY,k,N,env,J,φ,S,a,w,b,f,R,h,d=>by
  simp[gK]at b;subst b;exact d _ _ _ _ _ _ _ h R
 |o::l,aY,k,N,env,J,φ,S,a,w,b,f,R,h,d=>by
  simp[gK,bf,bu]at b;obtain⟨r,m,c,n,rfl⟩:=b;have t:ops[k]?=some o:=by have:=f 0 (by simp);grind
  rw[iP,x7,wpOps_cons];unfold wpOp;obtain⟨fm,q,p,u⟩:=h;obtain⟨v,v7,j⟩:=p av nt φ S a w g R;have hs:=Fh j m (K:=λe s=>mW P kk _ _ e s λe s=>K e s (N+16*(c.length+1))) (by omega) (Q:=Q);have next:∀bX w',jr av nt (ew (lt N) N) (λe s=>mW P kk c (N+16) e s λe s=>K e s (N+16*(c.length+1))) bX w'->wpOps P ops Q (List.range' (k+1) l.length) bX w':=by
   rintro bX w' ⟨bc,bd,e,s,bJ,R'⟩
   refine Q2 g n (λi aE=>?_) (R'.more λ_ h=>Cl h) ?_ d
   . have:=f (i+1) (by grind);grind
   grind
  split at hs
  . grind[Oper.wp_mono]
  grind
theorem ck.aef{aY:List bZ}(h:mW P kk aY N env J (λe s=>Q .normal e s (N+16*aY.length))):ck P nt kk (.region aY) env J N Q:=by
 intro code f av φ S a w g R;obtain⟨id,ops,rfl,j⟩:=Px f;refine wp_region ?_;have:=Q2 g (Q:=λe bX w'=>∃bc bd env' J' N',Q e env' J' N'/\Rel av nt bc bd env' J' (lt N') bX w') (k:=0) j (λi o=>by simp) R h
  (λφ S e s N a w bJ c=>⟨φ,S,e,s,N,bJ,c⟩)
 grind[List.range_eq_range']
theorem eb.conv{f k:Nat}{args p:List V}{Q:V->aZ->Nat->Prop}(t:aX gC args p)(hs:re J J')(h:eb P f p J' k Q):eb P f args J k Q:=by
 intro φ S w B o A K D vs F;refine h φ S w B ⟨λb x g=>?_,λb q x y g G=>?_,o.st⟩ (λb x g=>?_) (λb x g=>?_) ?_ vs ?_
 . obtain⟨j,h1,e⟩:=hs b x g;exact e.Ed (o.blk b j h1)
 . obtain⟨j,h1,e⟩:=hs b x g;obtain⟨H,bb,bq⟩:=hs q y G;exact o.inj b q j H h1 bb
 . obtain⟨j,h1,e⟩:=hs b x g;exact⟨(A b j h1).1,e.ay _ (A b j h1).2⟩
 . obtain⟨j,h1,e⟩:=hs b x g;grind
 . refine rA λi v E=>?_;obtain⟨v0,h1,e⟩:=(t.flip λ_ _ h=>h).get E;exact e.ay _ (mo D h1)
 . exact aX.comp (λa b c h1 e=>h1.Eh e) (t.flip λ_ _ h=>h) F
theorem eb.mono{f k:Nat}{args:List V}{Q mU:V->aZ->Nat->Prop}(h:eb P f args J k Q)(g:∀r s n,Q r s n->mU r s n):eb P f args J k mU:=by
 intro φ S w B h1 a c e vs bp;refine(h φ S w B h1 a c e vs bp).mono ?_;grind
theorem eb.tidy{f k:Nat}{args:List V}{Q mU:V->aZ->Nat->Prop}(h:eb P f args J k Q)
 (W:∀r J' N',Q r J' N'->∃bs D J2,bs.Nodup/\keeps k bs=true/\gC (r.bO bs) D/\re (fH bs J' 0 bs) J2/\mU D J2 bs.length):eb P f args J k mU:=by
 intro φ S w B h1 M N O vs bp;refine(h φ S w B h1 M N O vs bp).mono ?_
 rintro e w' ⟨v,r,bc,bd,J',N',he,R,bb,bq,bU,cu,cW,da,gx⟩
 obtain⟨bs,D,J2,bY,av,L,hs,U⟩:=W r J' N' R;have ap:∀i:Nat,i<k->bs[i]?=some i:=by
  grind[keeps]
 let G:cZ:=λi=>bc ((bs[i]?).getD 0);have A:∀(i:Nat) b,bs[i]?=some b->G i=bc b:=by intro i b h;simp[G,h]
 have t:∀b x,aR (fH bs J' 0 bs) b=some x->∃c a,bs[b]?=some c/\aR J' c=some a/\x=a.bO bs:=by
  grind[oK]
 have X:∀(a:bP),(a.bO bs).ay (lt bs.length)=true:=by
  intro a;cases a with
  |box cs=>grind[bP.bO,bP.ay,List.all_eq_true,C.jK]
  |arr sz es=>rfl
  |set ks=>rfl
  |buf E s=>rfl
  |bT E c=>exact C.jK c
  |cz sz es i o c=>exact C.jK c
 refine⟨v,D,G,bd,J2,bs.length,he,U,L.Eh (bW.bO A bb),L.ay _ (V.jK r),⟨λb x g=>?_,λb F x y g j ax h0 K=>?_,bU.st⟩,λb x g=>?_,cW,λb x g h0=>?_,λb p=>?_⟩
 . obtain⟨y,j,p⟩:=hs b x g;obtain⟨c,a,aK,q,rfl⟩:=t b y j;exact p.Ed (cP.bO A aK (bU.blk c a q))
 . obtain⟨am,Y,_⟩:=hs b x g;obtain⟨an,Z,_⟩:=hs F y j;obtain⟨c,a,aK,q,_⟩:=t b am Y;obtain⟨H,ad,f1,f2,_⟩:=t F an Z;rw[A b c aK]at h0⊢;rw[A F H f1]at K⊢;refine bU.inj c H a ad q f2 ?_ h0 K;have:=mv bY aK;grind[mv]
 . obtain⟨y,j,p⟩:=hs b x g;obtain⟨c,a,aK,q,rfl⟩:=t b y j;exact⟨(dV.1 aK).1,p.ay _ (X a)⟩
 . obtain⟨y,j,p⟩:=hs b x g;grind
 grind
end
def bh.b'(f:Nat->Nat):bh U->bh U
 |.ptr b o=>.ptr (f b) o
 |.cG b ty i o=>.cG (f b) ty i o
 |.arr b=>.arr (f b)
 |.sub b a len=>.sub (f b) a len
 |.pre b h=>.pre (f b) h
 |.dQ b a len=>.dQ (f b) a len
 |.mp b=>.mp (f b)
 |.eu b=>.eu (f b)
 |.cb b=>.cb (f b)
 |.fn g caps=>.fn g (caps.map f)
 |x=>x
def bC.b'(f:Nat->Nat):bC U->bC U
 |.c x=>.c (x.b' f)
 |.agg cs=>.agg (cs.map (bh.b' f))
 |.a6 vs=>.a6 (go f vs)
where go (f:Nat->Nat):List (bC U)->List (bC U)
 |[]=>[]
 |v::vs=>v.b' f::go f vs
def cI.b'(f:Nat->Nat):cI U->cI U
 |.box cs=>.box (cs.map (bh.b' f))
 |.arr ty l=>.arr ty l
 |.rows sz r=>.rows sz r
 |.set ks=>.set ks
 |.buf E s=>.buf E s
 |.bT E c=>.bT E (c.b' f)
 |.cz t l i o c=>.cz t l i o (c.b' f)
def CO(J:a7 U):aW->a7 U
 |[]=>J
 |b::r=>dl (CO J r) b
def mO(J:a7 U)(bs:aW)(f:Nat->Nat):a7 U->a7 U
 |[]=>CO J bs
 |(b,x)::r=>cA (mO J bs f r) (f b) (x.b' f)
def nW(J Jr:a7 U):Nat->aW->Option Bool
 |_,[]=>some true
 |i,b::r=>match aT Jr i with
  |none=>nW J Jr (i+1) r
  |some d=>match aT J b with
   |none=>none
   |some x=>match d.c8 with
    |none=>nW J Jr (i+1) r
    |some a=>match x.c8 with
     |none=>none
     |some p=>match Nat.beq a.1 p.1,nW J Jr (i+1) r with
      |true,some c=>some (decide (a.2=p.2)&&c)
      |_,_=>none
section
variable {key N':Nat}{J Jr:a7 U}{J1 Mg:aZ}{bs:aW}
theorem Iu:∀{bs:aW} {b:Nat},aT (CO J bs) b=if b∈bs then none else aT J b
 |[],b=>by rfl
 |c::r,b=>by
  simp[CO,mF,Iu];grind
theorem sK:∀{d:a7 U} {c:Nat} {x:cI U},aT (mO J bs f d) c=some x->(∃b a,c=f b/\aT d b=some a/\x=a.b' f)\/(c ∉ bs/\aT J c=some x)
 |[],c,x,h=>by
  grind[mO,Iu]
 |(b,y)::r,c,x,h=>by
  simp[mO,hj]at h;split at h
  . grind[aT,Nat.beq_refl]
  . rcases sK h with⟨e,a,h1,g,i⟩|h
    . grind[aT,cM]
    grind
theorem xU(bY:bs.Nodup)(aE:∀b,b∈bs->b<key){i j:Nat}(h:back bs key i=back bs key j):i=j:=by
 unfold back at h;cases d:bs[i]? with
 |some b=>
  rw[d]at h;have e:=aE b (e7 d);cases a:bs[j]? with
  |some c=>
   rw[a]at h;simp at h;subst h;have:=mv bY d;rw[mv bY a]at this;grind
  |none=>grind
 |none=>
  cases a:bs[j]? with
  |some c=>
   have e:=aE c (e7 a);grind
  |none=>grind
theorem QN(g:∀i j,f i=f j->i=j):∀{a:aZ} {b:Nat} {x:bP},aR a b=some x->aR (hf J1 bs f a) (f b)=some (x.b' f)
 |[],b,x,h=>by grind[aR]
 |(c,y)::r,b,x,h=>by
  simp[hf,cR];simp[aR]at h;by_cases d:c=b
  . grind
  . rw[al d]at h;rw[al (λe=>d (g _ _ e))];exact QN g h
theorem Pb{c:Nat}(e:c ∉ bs)(a:∀b,f b≠c):∀{d:aZ},aR (hf J1 bs f d) c=aR J1 c
 |[]=>by grind[hf,qA]
 |(b,y)::r=>by
  simp[hf,cR];rw[al (a b)];exact Pb e a
theorem cI.w2{x:cI U}:(x.b' f).c8=x.c8:=by cases x<;>rfl
theorem Qw:∀{l:aW} {f:Nat} {c:Bool},nW J Jr f l=some c->c=true->∀(j b:Nat) d,l[j]?=some b->aT Jr (f+j)=some d->∃x,aT J b=some x/\∀p,d.c8=some p->x.c8=some p
 |[],f,c,h,m,j,b,d,n,o=>by grind
 |a::l,f,c,h,m,j,b,d,n,o=>by
  simp[nW]at h;have next:∀{g},nW J Jr (f+1) l=some g->g=true->∀i,j=i+1->∃x,aT J b=some x/\∀p,d.c8=some p->x.c8=some p:=by
   intro g h1 k i e;exact Qw h1 k i b d (by grind) (by grind)
  cases j with
  |zero=>
   grind[cM]
  |succ j=>
   split at h
   . grind
   grind
variable (bY:bs.Nodup)(aE:∀b,b∈bs->b<key)(cp:N'<=bs.length+16)(aA:cm key J J1)
include bY aE cp aA in
theorem b8.b'{x:bh U}{d:C}(h:b8 N' Jr x d):b8 (key+16) (mO J bs (back bs key) Jr) (x.b' (back bs key)) (d.b' (back bs key)):=by
 cases h with
 |t c=>exact b8.t c
 |ptr b o=>exact b8.ptr _ o
 |cG b t i o=>exact b8.cG _ t i o
 |dO t x o=>exact b8.dO t x o
 |arr b sz n v h=>
  have e:back bs key b<key+16:=by
   unfold back;cases g:bs[b]? with
   |some c=>simp;have:=aE c (e7 g);omega
   |none=>grind
  refine b8.arr _ sz n e λx j p aj=>?_;rcases sK j with⟨q,A,h1,a,rfl⟩|⟨h1,a⟩
  . grind[xU,cI.w2]
  . have w:=(aA _ _ a).1;grind[back]
 |sub b y len=>exact b8.sub _ y _
 |pre b sz n v h=>
  have e:back bs key b<key+16:=by
   unfold back;cases g:bs[b]? with
   |some c=>simp;have:=aE c (e7 g);omega
   |none=>grind
  refine b8.pre _ sz n e λx j p aj=>?_;rcases sK j with⟨q,A,h1,a,rfl⟩|⟨h1,a⟩
  . grind[xU,cI.w2]
  . have w:=(aA _ _ a).1;grind[back]
 |dQ b sz y len v h=>
  have e:back bs key b<key+16:=by
   unfold back;cases g:bs[b]? with
   |some c=>simp;have:=aE c (e7 g);omega
   |none=>grind
  refine b8.dQ _ sz y _ e λx j p aj=>?_;rcases sK j with⟨q,A,h1,a,rfl⟩|⟨h1,a⟩
  . grind[xU,cI.w2]
  . have w:=(aA _ _ a).1;grind[back]
 |mp b=>exact b8.mp _
 |eu b=>exact b8.eu _
 |cb b n v h=>
  have e:back bs key b<key+16:=by
   unfold back;cases g:bs[b]? with
   |some c=>simp;have:=aE c (e7 g);omega
   |none=>grind
  refine b8.cb _ n e λx j p aj=>?_;rcases sK j with⟨q,A,h1,a,rfl⟩|⟨h1,a⟩
  . grind[xU,cI.w2]
  . have w:=(aA _ _ a).1;grind[back]
 |aL=>exact .aL
 |e6=>exact .e6
 |e5=>exact .e5
 |fn f caps=>exact b8.fn f _
 |dead d=>exact .dead _
theorem Q3:∀{vs:List (bC U)} {i:Nat},(bC.b'.go f vs)[i]?=(vs[i]?).map (bC.b' f)
 |[],i=>by rfl
 |v::vs,0=>by rfl
 |v::vs,i+1=>by simp[bC.b'.go,Q3]
theorem Pc:∀{vs:List (bC U)},(bC.b'.go f vs).length=vs.length
 |[]=>rfl
 |v::vs=>by simp[bC.b'.go,Pc]
include bY aE cp aA in
theorem bN.b'{x:bC U}{d:V}(h:bN N' Jr x d):bN (key+16) (mO J bs (back bs key) Jr) (x.b' (back bs key)) (d.b' (back bs key)):=by
 induction h with
 |c h=>exact .c (b8.b' bY aE cp aA h)
 |agg h=>exact .agg (aX.map_map (h.imp λ_ _ _ aa=>b8.b' bY aE cp aA aa))
 |a6 xs a ad h ih=>
  refine .a6 _ _ (by grind[Pc,FJ]) ?_;grind[Q3,GB]
include bY aE aA in
theorem BP(e:nW J Jr 0 bs=some true):dc key J (key+16) (mO J bs (back bs key) Jr):=by
 refine⟨by simp,λc x j f=>?_⟩;rcases sK f with⟨b,g,h1,d,rfl⟩|⟨h1,d⟩
 . unfold back at h1;cases a:bs[b]? with
   |some i=>
    rw[a]at h1;subst h1;obtain⟨x,bb,bq⟩:=Qw e rfl b c g a (by grind);grind[cI.w2]
   |none=>grind
 grind
include bY aE cp aA in
theorem cm.Du(q:nW J Jr 0 bs=some true)(w:cm N' Jr Mg):cm (key+16) (mO J bs (back bs key) Jr) (hf J1 bs (back bs key) Mg):=by
 intro c x A;have p:∀b,b<N'->back bs key b<key+16:=by
  intro b D;unfold back;cases v:bs[b]? with
  |some c=>simp;have:=aE c (e7 v);omega
  |none=>grind
 rcases sK A with⟨b,B,rfl,a,rfl⟩|⟨h1,a⟩
 . obtain⟨e,y,f,bp⟩:=w b B a;refine⟨p b e,y.b' _,QN (λi j=>xU bY aE) f,?_⟩;cases bp with
   |box bp=>exact .box (aX.map_map (bp.imp λ_ _ _ aa=>b8.b' bY aE cp aA aa))
   |arr t l=>exact .arr t l
   |set ks=>exact .set ks
   |buf E s=>exact .buf E s
   |bT bp=>exact .bT (b8.b' bY aE cp aA bp)
   |cz t l i o bp=>exact .cz t l i o (b8.b' bY aE cp aA bp)
   |rows bp g=>exact .rows bp g
 . obtain⟨e,y,f,bp⟩:=aA c x a;refine⟨by omega,y,?_,?_⟩
   . grind[Pb,back]
   . exact bp.mono (BP bY aE aA q)
end
end
section
open Go
variable {xb:aW}
def Cn(n:Nat):List (Nat×Nat)->Bool
 |(i,_)::_=>Nat.beq i n
 |[]=>false
theorem XD{l:List (bZ×aW)}{p:Nat×Nat}(h:p∈kV l):p.1<l.length:=by
 grind[kV,Df]
theorem Wk{l:List (bZ×aW)}(h:Cn l.length (rk l)=true):Ck l=true/\sg l.dropLast=true/\∀p,p∈kV l.dropLast->p∈rk l:=by
 unfold rk at h⊢;split at h
 . grind
 . cases ad:kV l with
   |nil=>rw[ad]at h;cases h
   |cons p r=>
    rw[ad]at h;have aj:p∈kV l:=(by grind);have:=XD aj;obtain⟨i,j⟩:=p;have a:Nat.beq i _=true:=h;simp_all
variable{D:Nat->aW}{listed:Array Bool}{Q:Exit->Env->aZ->Nat->Prop}
theorem Xj{l:List (bZ×aW)}{m:Nat}(g:l.length=m+1)(h:Ck l=true)(e:∀(i:Nat) x,l[i]?=some x->D i=x.2){p:Nat->Bool}(f:∀i,i<m->p i=true->∀d,d∈D i->p d=true)(ad:∀d,d∈D m->p d=true):
 ∀i,i<m->p i=true:=by
 have key:∀k i,i<m->m-i<=k->p i=true:=by
  intro k;induction k with
  |zero=>grind
  |succ k ih=>
   intro i h1 b;simp[Ck]at h;have c:=h i (by omega);grind
 exactλi a=>key m i a (by simp)
section
variable {P:Program}{av:Ctx}{nt kk:Nat}{N:Nat}{ops:Array Oper}{init:List bZ}{last:bZ}{E:Nat->Env}{T:Nat->aZ}{G:Nat->Bool}{W:Nat->V}
theorem CC{i m:Nat}(hs:listed.size=m+1)(a:i<m):listed.pop.getD i false=listed.getD i false:=by
 simp;grind
theorem aal{i m:Nat}(hs:listed.size=m+1)(a:i<m):(listed.setIfInBounds i true).pop=listed.pop.setIfInBounds i true:=by grind
theorem XE{Q:Exit->Act->World->Prop}{fuel:Nat}{a:Act}{w:World}(hs:listed.size=ops.size)(d:∀i,i<ops.size->listed.getD i false=true)(b:Q .normal a w):wpAny P .any ops Q fuel listed a w:=by
 have c:Region.ready .any ops listed=[]:=by
  rw[Ol];grind[mem_ready]
 cases fuel with
 |zero=>exact⟨c,b⟩
 |succ fuel=>exact⟨λ_=>b,λi e=>by grind⟩
theorem Xk(st:Stat xb init D E N)(z:nX xb P init N E T G W)(hres:gK P nt ops ops.toList=some (init++[last]))(B:∀(i:Nat) o,ops[i]?=some o->D i=hd o)
 (ar:∀(p:Nat->Bool),(∀i,i<init.length->p i=true->∀d,d∈D i->p d=true)->(∀d,d∈D init.length->p d=true)->∀i,i<init.length->p i=true)
 (an:∀d,d∈D init.length->d<init.length)
 {Q:Exit->Act->World->Prop}{K:Env->aZ->Prop}(aq:av.k=kk)
 (bJ:∃fm A,Conv kk (N+16*init.length) (E init.length) (T init.length) (N+16*init.length) fm A/\wh P last (N+16*init.length) fm A K)
 (ae:∀e s φ S a w,K e s->Rel av nt φ S e s (ew (lt (N+16*init.length)) (N+16*init.length)) a w->Q .normal a w):
 ∀(fuel:Nat) (listed:Array Bool) φ S env J a w,listed.size=init.length+1->listed.getD init.length false=false->listed.toList.countP (· ==false)<=fuel->Inv xb av nt init D N E T G W listed.pop φ S env J a w->wpAny P .any ops Q fuel listed a w:=by
 have V:=xA hres;simp at V;have au:∀(listed:Array Bool) (φ:cZ) (S:c0) (env:Env) (J:aZ) (a:Act) (w:World),listed.size=init.length+1->listed.getD init.length false=false->Inv xb av nt init D N E T G W listed.pop φ S env J a w->Region.ready .any ops listed≠[]:=by
  intro listed φ S env J a w hs v cr X;have C:∀i,i<init.length->listed.getD i false=true:=by
   intro i;induction i using Nat.strongRecOn with
   |_ i ih=>
    intro l;cases ad:listed.getD i false with
    |true=>rfl
    |false=>
     have y:i<ops.size:=(by omega);have c:ops[i]?=some ops[i]:=AG y;have:i∈Region.ready .any ops listed:=by
      rw[mem_ready];refine⟨?_,ops[i],c,λe he ai=>?_⟩
      . grind
      . have f:e.on∈D i:=by
         rw[B i _ c];simp only[hd,fT,sV];grind
        exact ih e.on (st.back i _ l f) (by have:=st.back i _ l f;omega)
     grind
  have y:init.length<ops.size:=by omega
  have c:ops[init.length]?=some ops[init.length]:=AG y;have:init.length∈Region.ready .any ops listed:=by
   rw[mem_ready];refine⟨?_,ops[init.length],c,λe he ai=>?_⟩
   . grind
   . have f:e.on∈D init.length:=by
      rw[B _ _ c];simp only[hd,fT,sV];grind
     grind
  grind
 intro fuel;induction fuel with
 |zero=>
  intro listed φ S env J a w hs v L cr;exfalso;have u:init.length<listed.size:=by omega
  have h0:listed.toList.countP (· ==false)=0:=by omega
  rw[List.countP_eq_zero]at h0;simp[u]at v;exact h0 listed[init.length] (by simp) (by grind)
 |succ fuel ih=>
  intro listed φ S env J a w hs v L cr;refine⟨λX=>absurd X (au listed φ S env J a w hs v cr),λi l=>?_⟩;rw[mem_ready]at l;obtain⟨h1,o,c,ax⟩:=l;have y:i<ops.size:=(yc.1 c).1;have u:i<listed.size:=by omega
  have aP:listed.getD i false=false:=by grind
  obtain⟨q,I,Y⟩:=EF hres (i:=i) (o:=o) (by grind);have f:∀d,d∈D i->listed.getD d false=true:=by
   intro d f;rw[B i o c]at f;simp only[hd,fT,sV]at f;grind
  have ap:listed.toList.countP (· ==false)<=fuel+1->(listed.setIfInBounds i true).toList.countP (· ==false)<=fuel:=by
   have:listed.toList[i]?=some false:=by simp[u]at aP⊢;exact aP
   grind
  rcases Nat.lt_or_ge i init.length with t|t
  ·
   have r:init[i]?=some q:=by rw[vo t]at I;exact I
   have M:∀d,d∈D i->listed.pop.getD d false=true:=λd g=>by rw[CC hs (by have:=st.back i d t g;omega)];exact f d g
   have F:listed.pop.getD i false=false:=by rw[CC hs t];exact aP
   obtain⟨ag,ah⟩:=cr.agree st z r F M;obtain⟨⟨bj,aw,aa⟩,_⟩:=(z.step i q r).1.local (env':=env) (J':=J) ag ah;have x:=BA cr.rel (key:=N+16*i) (λb ak am=>RC F ak am) Y (K:=λe s=>e=en env q.dst (G i) (W i)/\s=bj) (aw.ha ⟨rfl,rfl⟩) (Q:=Q);have next:∀bX w',jr av nt (ew (used N init.length listed.pop) (N+16*i)) (λe s=>e=en env q.dst (G i) (W i)/\s=bj) bX w'->wpAny P .any ops Q fuel (listed.setIfInBounds i true) bX w':=by
    rintro bX w' ⟨bc,bd,e,s,⟨rfl,rfl⟩,R'⟩
    have aj:=aal (listed:=listed) (i:=i) (m:=init.length) hs t;refine ih (listed.setIfInBounds i true) bc bd _ _ bX w' (by simpa using hs) ?_ (ap L) (by rw[aj];exact cr.step st z r F M aa R');rw[jy u,bR];exact v
   unfold wpOp;rw[c];dsimp only;split at x
   . rename_i n;rw[af n];exact .inl (Oper.wp_mono next x)
   . rename_i n;rw[al n];exact next _ _ x
  ·
   have l:i=init.length:=(by omega);subst l;have r:q=last:=(by grind);subst r;have C:=by
    refine ar (λj=>listed.pop.getD j false) (λj O aj d g=>cr.down j O aj d g) (λd g=>?_);rw[CC hs (an d g)];exact f d g
   have R:=cr.done st z C;obtain⟨fm,A,ao,x⟩:=bJ;obtain⟨az,v7,Z⟩:=ao av nt φ S a w aq R;have H:=Fh Z Y x (Q:=Q);have next:∀bX w',jr av nt (ew (lt (N+16*init.length)) (N+16*init.length)) K bX w'->wpAny P .any ops Q fuel (listed.setIfInBounds init.length true) bX w':=by
    rintro bX w' ⟨bc,bd,e,s,ab,R'⟩
    refine XE (by simp[hs,V]) (λj O=>?_) (ae e s bc bd bX w' ab R');rw[jy u];split
    . rfl
    . rename_i ay;have U:j<init.length:=(by omega);rw[<-CC hs U];exact C j U
   unfold wpOp;rw[c];dsimp only;split at H
   . rename_i n;rw[af n];exact .inl (Oper.wp_mono next H)
   . rename_i n;rw[al n];exact next _ _ H
theorem ck.aeg{fS:List (Nat×Nat)}{env:Env}{J:aZ}(be:Cn (init.length+1) fS=true)
 (h:wi xb P init N env J (λe s=>kE xb init e N fS=true/\mW P kk [last] (N+16*init.length) e s (λe s=>Q .normal e s (N+16*init.length+16)))):ck P nt kk (.nT (init++[last]) fS) env J N Q:=by
 intro code Y av φ S a w ap R;obtain⟨id,ops,rfl,hres,K,aE,rfl⟩:=Pn Y;have bd:=xA hres;have O:(fw ops (init++[last])).length=init.length+1:=by grind[fw]
 obtain⟨ax,F,a3⟩:=Wk (l:=fw ops (init++[last])) (by grind);obtain⟨E,T,G,W,L,dh,t0,Z,U⟩:=F8 h;have a0:(fw ops (init++[last])).dropLast=fw ops.pop init:=by
  obtain⟨M,x,v⟩:∃M x,ops.toList=M++[x]:=by
   cases ad:ops.toList.reverse with
   |nil=>simp_all
   |cons x r=>simp_all
  simp_all[fw,Array.toList_pop,vz,List.zip_append]
 rw[a0]at F;have am:kE xb init (E init.length) N (kV (fw ops.pop init))=true:=Fw (λp aj=>a3 p (by grind)) Z;have g:=JG (ops:=ops.pop) (by grind) F L am;let D:Nat->aW:=λi=>((ops[i]?).map hd).getD [];have B:∀i,i<init.length->((ops.pop[i]?).map hd).getD []=D i:=by grind
 have st:Stat xb init D E N:=by
  refine⟨λi d c an=>g.back i d c (by grind),λi j x y d v a9 bc=>?_,λi j b aH c H a4 q=>?_⟩
  . have:=g.vF i j x y d v a9 bc;grind
  . rcases g.ord i j b aH c H a4 q with⟨h1,f⟩|⟨h1,f⟩
    . exact .inl ⟨h1,f.congr g.back B H⟩
    . exact .inr ⟨h1,f.congr g.back B c⟩
 have a5:∀(i:Nat) x,(fw ops (init++[last]))[i]?=some x->D i=x.2:=by
  grind[fw]
 refine wp_region_any aE ?_;have a2:=U;have X:∀d,d∈D init.length->d<init.length:=by
  intro d an;simp only[sg,cX]at K;have v:(fw ops (init++[last]))[init.length]?=some _:=eF (by omega);have:=FL K.1.1 v d (by grind);omega
 refine Xk (av:=av) (nt:=nt) (D:=D) st L hres (λi o aY=>by grind) (λp h1 f=>Xj O ax a5 h1 f) X ap a2 (λe s φ S a w a1 R'=>⟨φ,S,e,s,_,a1,R'.more λb q=>Cl q⟩) ops.size _ φ S env J a _ ?_ ?_ ?_ ?_
 . grind
 . rw[Array.getD_eq_getD_getElem?,Array.getElem?_replicate];grind
 . grind[List.countP_le_length]
 . have R':=R.drew;have A:∀i,(Array.replicate ops.size false).pop.getD i false=true->False:=by
    intro i ad;simp only[Array.getD_eq_getD_getElem?,Array.getElem?_pop]at ad;grind
   refine⟨R'.more λb q=>by grind[used],by grind,λi c ad=>(A i ad).elim,λt _=>by grind,λt i o aY ad=>(A i ad).elim,λb _=>by grind,λb i c ad=>(A i ad).elim⟩
end
end
end Go.Proofs.YtkbmjabicjpmjaaGreatDoor.Shv
