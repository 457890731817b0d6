/- The library of this proof, part C: an abstract machine for the code of the program, and its soundness. -/
import Derived.Test.YtdjagncoefjfeaaGreatCtLB

namespace Go.Proofs.YtdjagncoefjfeaaGreat.Shv
set_option linter.all false
section
open Go
variable {xb:a7}
def kB(xb:a7)(bb:List ca)(env:Env)(N:Nat):List (Nat×Nat)->Bool
 |[]=>true
 |(i,j)::r=>(match bb[i]?,bb[j]? with
  |some x,some y=>(eo xb y.op env (N+16*j)).all λb=>!(cG xb x.op env (N+16*i) b)
  |_,_=>true)&&kB xb bb env N r
variable{bb:List ca}{N:Nat}{env:Env}
theorem Ku:∀{gg:List (Nat×Nat)} {i j:Nat} {x y:ca},kB xb bb env N gg=true->(i,j)∈gg->bb[i]?=some x->bb[j]?=some y->∀b,b∈eo xb y.op env (N+16*j)->cG xb x.op env (N+16*i) b=false
 |[],i,j,x,y,h,a,_,_,_,_=>by simp at a
 |(g,k)::r,i,j,x,y,h,a,d,f,b,c=>by
  simp only[kB,c5]at h;rcases eJ.1 a with e|a
  . grind
  . exact Ku h.2 a d f b c
section
variable {P:Program}{aD:Ctx}{nt kk:Nat}{N:Nat}{ops:Array Oper}{bb:List ca}{E:Nat->Env}{T:Nat->ba}{G:Nat->Bool}{W:Nat->V}
theorem Zk{i:Nat}{o:Oper}{x:ca}(a:ops[i]?=some o)(b:bb[i]?=some x):(fw ops bb)[i]?=some (x,hl o):=by
 unfold fw;grind
theorem OC(af:bb.length=ops.size)(K:ub (fw ops bb)=true)(ag:oS xb P bb N E T G W)(U:kB xb bb (E bb.length) N (lq (fw ops bb))=true):
 Stat xb bb (λi=>((ops[i]?).map hl).getD []) E N:=by
 simp only[ub,c5]at K;obtain⟨⟨S,L⟩,_⟩:=K;have g:∀i,i<bb.length->∃o x,ops[i]?=some o/\bb[i]?=some x/\(fw ops bb)[i]?=some (x,hl o):=by
  intro i m;have v:ops[i]?=some ops[i]:=Cj (by omega);have a:bb[i]?=some bb[i]:=e9 m;exact⟨_,_,v,a,Zk v a⟩
 have aa:∀i j,ahead (fw ops bb) j i=true->j<i/\j∈((ops[i]?).map hl).getD []:=by
  intro i j h;obtain⟨h1,y,q,Z⟩:=aaj h;refine⟨h1,?_⟩;have m:i<bb.length:=by
   have:=(dS.1 q).1;unfold fw at this;simp at this;omega
  grind
 have M:∀(i j:Nat) (x y:ca) (d:Nat),bb[i]?=some x->bb[j]?=some y->y.dst=some d->(d∈x.rd->(j<i/\j∈((ops[i]?).map hl).getD [])\/(x.op.neutral=true/\x.op.h'=false/\i<j/\i∈((ops[j]?).map hl).getD []))/\(i=j\/x.dst≠some d):=by
  intro i j x y d a c aj;obtain⟨z,Y,I,p,r⟩:=g i (dS.1 a).1;obtain⟨A,R,J,f,s⟩:=g j (dS.1 c).1;rw[a]at p;cases p;rw[c]at f;cases f;simp only[Tl,fK]at L;have h1:=L ((x,hl z),i) (fp (i:=i) (by simp[BZ,r]));have q:=h1 ((y,hl A),j) (fp (i:=j) (by simp[BZ,s]));grind
 refine⟨λi d m F=>?_,M,?_⟩
 . obtain⟨o,x,v,a,cX⟩:=g i m;rw[v]at F;have:=HI S cX d F;omega
 ·
  have H:∀(i:Nat) (x:ca),bb[i]?=some x->¬(x.op.neutral=true/\x.op.h'=false)->∀t,t∈x.op.reads->look (E bb.length) t=look (E i) t:=by
   intro i x a ah t ht;have m:=(dS.1 a).1;refine vX ag (by omega) (d' _) λj y ab ad c X=>?_;rcases (M i j x y t a c X).1 (Mx ht)with h|h
   . omega
   grind
  have ai:∀i j,ou (nB (fw ops bb) []) j i=true->j<i/\jg (λi=>((ops[i]?).map hl).getD []) j i:=by
   intro i j h;simp only[ou,c5,eT,List.contains_iff_mem]at h;refine⟨h.1,JQ (l:=fw ops bb) (acc:=[]) (λk x a=>?_) (λi j B=>by simp at B) i j h.2⟩;have ae:k<bb.length:=by
    have:=(dS.1 a).1;unfold fw at this;simp at this;omega
   grind
  have C:∀(i j:Nat) (x y:ca) (b:Nat),i≠j->bb[i]?=some x->bb[j]?=some y->cG xb x.op (E i) (N+16*i) b=true->b∈eo xb y.op (E j) (N+16*j)->ou (nB (fw ops bb) []) i j=true\/ou (nB (fw ops bb) []) j i=true:=by
   intro i j x y b u a c n e;by_cases h1:ou (nB (fw ops bb) []) i j=true
   . grind
   . by_cases q:ou (nB (fw ops bb) []) j i=true
     . grind
     . exfalso;obtain⟨z,Y,I,p,r⟩:=g i (dS.1 a).1;obtain⟨A,R,J,f,s⟩:=g j (dS.1 c).1;rw[a]at p;cases p;rw[c]at f;cases f;have ht:y.op.h'=true:=by
        cases h:y.op.h' with
        |true=>rfl
        |false=>rw[Y3 h]at e;simp at e
       have V:(i,j)∈lq (fw ops bb):=by
        simp only[lq,Fi,List.mem_flatMap];refine⟨((x,hl z),i),fp (i:=i) (by simp[BZ,r]),?_⟩;dsimp only;rw[Lt n];simp only[bY,b6,List.mem_filterMap];refine⟨((y,hl A),j),fp (i:=j) (by simp[BZ,s]),?_⟩;grind
       have:=Ku U V a c b (by rw[aai (H j y c (λh=>by rw[ht]at h;cases h.2))];exact e);rw[aah (H i x a (λh=>by rw[Lt n]at h;cases h.1))]at this;grind
  intro i j b u m B n e;obtain⟨z,x,I,a,r⟩:=g i m;obtain⟨A,y,J,c,s⟩:=g j B;have w:cG xb x.op (E i) (N+16*i) b=true:=by unfold iJ at n;rw[a]at n;exact n
  have conv:(ou (nB (fw ops bb) []) i j=true\/ou (nB (fw ops bb) []) j i=true)->(i<j/\jg (λi=>((ops[i]?).map hl).getD []) i j)\/(j<i/\jg (λi=>((ops[i]?).map hl).getD []) j i):=by grind
  rcases e with⟨R,f,e⟩|e
  . rw[c]at f;cases f;exact conv (C i j x y b u a c w e)
  . have D:cG xb y.op (E j) (N+16*j) b=true:=by unfold iJ at e;rw[c]at e;exact e
    cases Q:y.op.h' with
    |true=>exact conv (C i j x y b u a c w (Lh Q D))
    |false=>
     cases O:x.op.h' with
     |true=>exact conv (C j i y x b (ea u) c a D (Lh O w)).symm
     |false=>
      have h1:=OB O w;have q:=OB Q D;exfalso;omega
theorem G9:∀{l m:List (Nat×Nat)},(∀p,p∈l->p∈m)->kB xb bb env N m=true->kB xb bb env N l=true
 |[],_,_,_=>rfl
 |(i,j)::r,m,hs,h=>by
  simp only[kB,c5];refine⟨?_,G9 (λp c=>hs p (B0 _ c)) h⟩
  have:∀ (m:List (Nat×Nat)),(i,j)∈m->kB xb bb env N m = true->(match bb[i]?,bb[j]? with
   |some x,some y=>(eo xb y.op env (N+16*j)).all λb=>!(cG xb x.op env (N+16*i) b)
   |_,_=>true)=true:=by
   intro m;induction m with
   |nil=>intro h _;simp at h
   |cons q m ih=>
    intro d a;obtain⟨e,f⟩:=q;simp only[kB,c5]at a;grind
  grind
theorem aak{l:List (ca×a7)}{p:Nat×Nat}(h:p∈lq l):p∈sF l:=by
 unfold sF;grind
theorem cu.oI{gg:List (Nat×Nat)}{env:Env}{J:ba}{Q:Exit->Env->ba->Nat->Prop}(h:xL xb P bb N env J (λe s=>kB xb bb e N gg=true/\Q .normal e s (N+16*bb.length))):cu P nt kk (.oI bb gg) env J N Q:=by
 intro code v aD φ S a w H R;obtain⟨id,ops,rfl,hres,D,B,rfl⟩:=TQ v;have c:=zh hres;simp at c;obtain⟨E,T,G,W,ag,c4,t0,y,j⟩:=H9 h;refine wp_region_any B ?_;refine Zj (aD:=aD) (nt:=nt) (OC c D ag (G9 (λp F=>aak F) y)) ag hres (λi o f=>by simp[f]) (λφ S a w R'=>⟨φ,S,_,_,_,j,R'⟩) ops.size _ φ S env J a _ ?_ ?_
 . have:=List.countP_le_length (p:=λx:Bool=>x==false) (l:=(Array.replicate ops.size false).toList);grind
 . have R':Rel aD nt φ S env J (lt N) a {w with drawn:=w.drawn+1}:=R.drew;refine⟨R'.more λb q=>by simp[used,q],by simp[c],λi A af=>?_,λt _=>by rw[c4],λt i o f af=>?_,λb _=>by rw[t0],λb i A af=>?_⟩
   . simp_all
   . exfalso;simp[Array.getElem?_replicate]at af;split at af<;>simp at af
   simp_all
end
end
section
open Go
def ER(P:Program)(c:Code)(Q:Exit->Act->World->Prop)(a:Act)(w:World):Prop:=
 ∀(b:Frame) (k:List Item) (cs:List Frame),∃e d w',Q e d w'/\Arrives P (lone (b.at a (.code c:: .inLoop c::k)) cs w) b k cs e d w'
variable{w:World}{P:Program}{a:Act}{Q:Exit->Act->World->Prop}{c:dz}{S:dU}{φ:dD}{aD:Ctx}{D:Nat->Type}
theorem aal{c:Code}(h:c.wp P (Exit.then (ER P c Q) Q) a w):ER P c Q a w:=by
 intro b k cs;obtain⟨e,g,i,f,d⟩:=h b _ cs;cases e with
 |normal=>
  obtain⟨m,j,p,o,n⟩:=f b k cs;exact⟨m,j,p,o,.of_steps (Steps.trans d (.one step_inLoop)) n⟩
 |exit id=>exact⟨_,g,i,f,.pass rfl (λ_ _=>.inl (by simp)) d⟩
 |goto l=>exact⟨_,g,i,f,.pass (x:= .inLoop c) rfl (λ_ _=>.inl (by simp)) d⟩
 |ret=>exact⟨_,g,i,f,.pass (x:= .inLoop c) rfl (λ_ _=>.inl (by simp)) d⟩
 |panic q=>exact⟨_,g,i,f,.pass (x:= .inLoop c) rfl (λ_ _=>.inl (by simp)) d⟩
 |outgrown=>exact⟨_,g,i,f,.pass (x:= .inLoop c) rfl (λ_ _=>.inl (by simp)) d⟩
theorem ZH{c:Code}(h:ER P c Q a w):(Code.loop c).wp P Q a w:=by
 intro b k cs;obtain⟨e,d,w',g,f⟩:=h b k cs;exact⟨e,d,w',g,.of_steps (.one step_loop) f⟩
section
variable {P:Program}{nt kk:Nat}{env env':Env}{J J':ba}{N N':Nat}{Q ny:Exit->Env->ba->Nat->Prop}
def mu(P:Program)(nt kk:Nat)(c:dz)(env:Env)(J:ba)(N:Nat)(Q:Exit->Env->ba->Nat->Prop):Prop:=
 ∀code,resolve P nt code=some c->∀aD φ S a w,aD.k=kk->Rel aD nt φ S env J (lt N) a w->ER P code (λe b w'=>∃d bP env' J' N',Q e env' J' N'/\Rel aD nt d bP env' J' (lt N') b w') a w
theorem mu.round(h:cu P nt kk c env J N (andThen (λenv J N=>mu P nt kk c env J N Q) Q)):mu P nt kk c env J N Q:=by
 intro code f aD φ S a w j R;refine aal (wp_mono (h _ f aD φ S a w j R) ?_)
 rintro e p w' ⟨q,bP,env',J',N',o,R'⟩
 cases e with
 |normal=>exact o _ f aD _ bP p w' j R'
 |_=>exact⟨q,bP,env',J',N',o,R'⟩
theorem cu.ahC(h:mu P nt kk c env J N Q):cu P nt kk (.loop c) env J N Q:=by
 intro code f aD φ S a w j R;obtain⟨b,rfl,e⟩:=Zg f;exact ZH (h b e aD φ S a w j R)
def Conv(kk N:Nat)(env:Env)(J:ba)(N':Nat)(env':Env)(J':ba):Prop:=
 ∀aD nt φ S a w,aD.k=kk->Rel aD nt φ S env J (lt N) a w->∃b bP,Rel aD nt b bP env' J' (lt N') a w
theorem Conv.refl:Conv kk N env J N env J:=λ_ _ φ S _ _ _ R=>⟨φ,S,R⟩
theorem Conv.trans{c e f:Nat}{aN j dx:Env}{s1 p q:ba}(h:Conv kk c aN s1 e j p)(k:Conv kk e j p f dx q):Conv kk c aN s1 f dx q:=
 λaD nt φ S a w o R=>let⟨t,bP,R'⟩:=h aD nt φ S a w o R;k aD nt _ bP a w o R'
theorem cu.conv(f:Conv kk N env J N' env' J')(h:cu P nt kk c env' J' N' Q):cu P nt kk c env J N Q:=
 λcode j aD φ S a w e R=>let⟨o,bP,R'⟩:=f aD nt φ S a w e R;h _ j aD _ bP a w e R'
theorem mu.conv(f:Conv kk N env J N' env' J')(h:mu P nt kk c env' J' N' Q):mu P nt kk c env J N Q:=
 λcode j aD φ S a w e R=>let⟨o,bP,R'⟩:=f aD nt φ S a w e R;h _ j aD _ bP a w e R'
theorem Conv.tidy(ks bs:a7)(bZ:bs.Nodup)(e:keeps kk bs=true):Conv kk N env J bs.length (oq bs env ks) (fH bs J 0 bs):=
 λaD nt φ S a w f R=>let⟨c,R'⟩:=R.tidy ks bs bZ (by grind);⟨c,S,R'⟩
theorem Conv.freeze(b0:Nat){c:Nat}{es:List (List T)}(e:aX J b0=some (.arr c es)):Conv kk N env J N (rT b0 c es env) (nb b0 c es J):=
 λaD nt φ S a w f R=>⟨φ,_,R.freeze e⟩
def dE(c a:C):Prop:=(∀φ w S v,bp φ w S c v->bp φ w S a v)/\∀n,c.aE n=true->a.aE n=true
theorem dE.refl(c:C):dE c c:=⟨λ_ _ _ _ h=>h,λ_ h=>h⟩
theorem dE.dead(c:C):dE c .dead:=⟨λ_ _ _ _ h=>h.jc,λ_ _=>rfl⟩
theorem dE.aA:dE .aA (.t (.slice [])):=by
 refine⟨?_,λ_ _=>rfl⟩
 rintro φ w S v ⟨a,rfl⟩
 exact cj.slice [] a 0 0 0 0 (λ_ _=>undef) (by simp) (by simp) (by simp) (by simp) (by simp) (by simp)
inductive gG:V->V->Prop
 |c {x y}:dE x y->gG (.c x) (.c y)
 |agg {xs qw}:a' dE xs qw->gG (.agg xs) (.agg qw)
 |aY (xs qw:List V) (af:xs.length=qw.length) (h:∀(i:Nat) x y,xs[i]?=some x->qw[i]?=some y->gG x y):gG (.aY xs) (.aY qw)
theorem a'.comp{α e f:Type}{R:α->e->Prop}{R':e->f->Prop}{j:α->f->Prop}(h:∀a b c,R a b->R' b c->j a c):∀{l:List α} {m:List e} {k:List f},a' R l m->a' R' m k->a' j l k
 |[],[],[],_,_=>.nil
 |_::_,_::_,_::_,.cons h1 o,.cons k1 k2=>.cons (h _ _ _ h1 k1) (a'.comp h o k2)
theorem a'.flip{α c:Type}{R:α->c->Prop}{R':c->α->Prop}{l:List α}{m:List c}(h:a' R l m)(k:∀a b,R a b->R' b a):a' R' m l:=by
 induction h with
 |nil=>exact .nil
 |cons h _ ih=>exact .cons (k _ _ h) ih
theorem QO{n:Nat->Bool}:∀{vs:List V},(∀(i:Nat) v,vs[i]?=some v->v.aE n=true)->V.aE.V.dF n vs=true
 |[],_=>rfl
 |v::vs,h=>by simp[V.aE.V.dF];exact⟨h 0 v rfl,QO λi x a=>h (i+1) x (by grind)⟩
theorem gG.Gh{v j:V}(h:gG v j):∀{x},cl φ w S v x->cl φ w S j x:=by
 induction h with
 |c h=>intro x e;cases e with|c e=>exact .c (h.1 _ _ _ _ e)
 |agg h=>
  intro x e;cases e with
  |agg e=>exact .agg (a'.comp (λa b c h1 f=>h1.1 _ _ _ _ f) (h.flip λ_ _ h=>h) e)
 |aY xs q af h ih=>
  intro x e;cases e with
  |aY _ o p f=>
   refine .aY _ o (by omega) ?_;grind
theorem gG.aE{v f:V}(h:gG v f)(n:Nat->Bool):v.aE n=true->f.aE n=true:=by
 induction h with
 |c h=>intro e;exact h.2 n e
 | @agg xs q h=>
  intro e;simp[V.aE]at e⊢;intro c o;obtain⟨i,p,rfl⟩:=e1 o;obtain⟨a,j,hs⟩:=(h.flip λ_ _ h=>h).get (e9 p);exact hs.2 n (e a (fp j))
 |aY xs q af h ih=>
  grind[V.aE,QO,nZ]
inductive kr:bR->bR->Prop
 |box {xs qw}:a' dE xs qw->kr (.box xs) (.box qw)
 |arr {sz es}:kr (.arr sz es) (.arr sz es)
 |same {x}:kr x x
 |b9 {E c xE}:dE c xE->kr (.b9 E c) (.b9 E xE)
 |cA {sz es i o c xE}:dE c xE->kr (.cA sz es i o c) (.cA sz es i o xE)
def PF(env env':Env):Prop:=∀k g a,look env' k=some (g,a)->∃v,look env k=some (g,v)/\gG v a
def sv(J J':ba):Prop:=∀b a,aX J' b=some a->∃x,aX J b=some x/\kr x a
theorem kr.Gd{b:Nat}{x j:bR}(h:kr x j)(ag:cZ φ w S b x):cZ φ w S b j:=by
 cases h with
 |arr=>grind
 |same=>grind
 |b9 h=>
  obtain⟨h0,⟨p,v,h1,e,f⟩,o⟩:=ag;exact⟨h0,⟨p,v,h1,e,h.1 _ _ _ _ f⟩,o⟩
 |cA h=>
  obtain⟨h1,⟨vs,E,k1,k2,k3,v,k4,k5⟩,k6⟩:=ag;exact⟨h1,⟨vs,E,k1,k2,k3,v,k4,h.1 _ _ _ _ k5⟩,k6⟩
 |box h=>
  obtain⟨h0,vs,E,h1,e,f⟩:=ag;exact⟨h0,vs,E,h1,a'.comp (λa b c h1 e=>h1.1 _ _ _ _ e) (h.flip λ_ _ h=>h) e,f⟩
theorem kr.aE{x c:bR}(h:kr x c)(n:Nat->Bool)(a:x.aE n=true):c.aE n=true:=by
 cases h with
 |arr=>rfl
 |same=>grind
 |b9 h=>exact h.2 n a
 |cA h=>exact h.2 n a
 | @box xs e h=>
  have:=gG.aE (.agg h) n (by grind[V.aE,bR.aE]);grind[V.aE,bR.aE]
theorem Rel.weaken{n:Nat->Bool}(R:Rel aD nt φ S env J n a w)(he:PF env env')(hs:sv J J'):Rel aD nt φ S env' J' n a w:=by
 refine⟨⟨λb x e=>?_,λb j x y e o=>?_,R.bO.st⟩,λk g v af aq=>?_,λk g v af aq=>?_,λk g v af aq=>?_,λb x e=>?_,R.size,R.defers,R.ext,λb x e=>?_,R.fix,R.fR⟩
 . obtain⟨f,h1,c⟩:=hs b x e;exact c.Gd (R.bO.blk b f h1)
 . obtain⟨f,h1,c⟩:=hs b x e;obtain⟨p,k1,k2⟩:=hs j y o;exact R.bO.inj b j f p h1 k1
 . obtain⟨v0,h1,c⟩:=he k g v af;obtain⟨x,e,ag⟩:=R.gL k g v0 h1 aq;exact⟨x,e,c.Gh ag⟩
 . obtain⟨v0,h1,c⟩:=he k g v af;exact R.hJ k g v0 h1 aq
 . obtain⟨v0,h1,c⟩:=he k g v af;exact c.aE n (R.gK k g v0 h1 aq)
 . obtain⟨f,h1,c⟩:=hs b x e;exact⟨(R.dX b f h1).1,c.aE n (R.dX b f h1).2⟩
 . obtain⟨f,h1,c⟩:=hs b x e;exact R.own b f h1
theorem Conv.weaken(he:PF env env')(hs:sv J J'):Conv kk N env J N env' J':=λaD nt φ S a w _ R=>⟨φ,S,R.weaken he hs⟩
theorem Rel.FP(R:Rel aD nt φ S env J (lt N) a w){sz:Nat}(B:0<sz)(E:aD.k<=N):
 Rel aD nt (fV φ N (0,0)) S env (df J N (.arr sz [])) (lt (N+1)) a w:=by
 have D:∀b,lt N b=true->fV φ N (0,0) b=φ b:=by
  intro b j;simp[lt]at j;grind[fV]
 have o:∀b,lt N b=true->lt (N+1) b=true:=λb j=>OA (by simp) j;have e:=R.zj D;have cE:(fV φ N (0,0) N).2=0:=by simp[fV]
 have f:∀b x,aX (df J N (.arr sz [])) b=some x->(b=N/\x= .arr sz [])\/(b≠N/\aX J b=some x):=by
  grind[c2]
 refine⟨⟨λb x c=>?_,λb q x y c p A h0 t=>?_,e.bO.st⟩,e.gL,e.hJ,λk g v af aq=>V.ho o (e.gK k g v af aq),λb x c=>?_,e.size,e.defers,e.ext,λb x c h0=>?_,e.fix,λb j=>by simp[lt];omega⟩
 . rcases f b x c with⟨rfl,rfl⟩|⟨_,c⟩
   . exact⟨by simp,by simp,by simp,B,λh=>absurd cE h⟩
   . exact e.bO.blk b x c
 . rcases f b x c with⟨rfl,rfl⟩|⟨_,c⟩
   . grind
   . rcases f q y p with⟨rfl,rfl⟩|⟨_,p⟩
     . grind
     . exact e.bO.inj b q x y c p A h0 t
 . rcases f b x c with⟨rfl,rfl⟩|⟨_,c⟩
   . exact⟨by simp[lt],rfl⟩
   . exact⟨o b (e.dX b x c).1,bR.ho o (e.dX b x c).2⟩
 . rcases f b x c with⟨rfl,rfl⟩|⟨_,c⟩
   . grind
   . exact e.own b x c h0
end
inductive aL where
 |bool
 |int (k:IntKind)
 |str
 |slice (t:aL)
 |nm (n:Nat)
def aL.beq:aL->aL->Bool
 |.bool,.bool=>true
 |.int k,.int a=>decide (k=a)
 |.str,.str=>true
 |.slice r,.slice c=>aL.beq r c
 |.nm n,.nm m=>Nat.beq n m
 |_,_=>false
theorem aL.beq_eq:∀{a b:aL},aL.beq a b=true->a=b
 |.bool,.bool,_=>rfl
 |.int k,.int c,h=>by grind[aL.beq]
 |.str,.str,_=>rfl
 |.slice r,.slice e,h=>by simp[aL.beq]at h;rw[aL.beq_eq h]
 |.nm n,.nm m,h=>by grind[aL.beq,Nat.eq_of_beq_eq_true]
 |.bool,.int _,h|.bool,.str,h|.bool,.slice _,h|.bool,.nm _,h=>by simp[aL.beq]at h
 |.int _,.bool,h|.int _,.str,h|.int _,.slice _,h|.int _,.nm _,h=>by simp[aL.beq]at h
 |.str,.int _,h|.str,.bool,h|.str,.slice _,h|.str,.nm _,h=>by simp[aL.beq]at h
 |.slice _,.int _,h|.slice _,.str,h|.slice _,.bool,h|.slice _,.nm _,h=>by simp[aL.beq]at h
 |.nm _,.int _,h|.nm _,.str,h|.nm _,.bool,h|.nm _,.slice _,h=>by grind[aL.beq]
theorem aL.beq_refl:∀(a:aL),aL.beq a a=true
 |.bool=>rfl
 |.int k=>by simp[aL.beq]
 |.str=>rfl
 |.slice r=>by exact aL.beq_refl r
 |.nm n=>by grind[aL.beq,Nat.beq_refl]
def aL.dec(a b:aL):Decidable (a=b):=
 match h:aL.beq a b with
 |true=>.isTrue (aL.beq_eq h)
 |false=>.isFalse λe=>by rw[e,aL.beq_refl]at h;cases h
def aL.den(D:Nat->Type):aL->Type
 |.bool=>Bool
 |.int _=>Int
 |.str=>ak
 |.slice t=>List (aL.den D t)
 |.nm n=>D n
structure Cell (D:Nat->Type) where
 ty:aL
 val:ty.den D
def Cell.as{D:Nat->Type}(t:aL)(c:Cell D):Option (t.den D):=
 match aL.dec c.ty t with
 |.isTrue h=>some (Eq.rec (motive:=λt _=>aL.den D t) c.val h)
 |.isFalse _=>none
variable{t:aL}
theorem Cell.j7{c:Cell D}{x:t.den D}(h:c.as t=some x):c=⟨t,x⟩:=by
 obtain⟨u,v⟩:=c;unfold Cell.as at h;split at h
 all_goals grind
theorem Cell.QJ{x:t.den D}:Cell.as t (⟨t,x⟩:Cell D)=some x:=by
 unfold Cell.as;split
 . rfl
 grind
def FB(D:Nat->Type)(enc:∀n,D n->List T):(t:aL)->t.den D->List T
 |.bool,b=>[.bool b]
 |.int k,n=>[.int k n]
 |.str,s=>[.str s]
 |.slice t,l=>[.slice (List.map (FB D enc t) l)]
 |.nm n,x=>enc n x
def Sw(D:Nat->Type)(enc:∀n,D n->List T):Cell D->T
 |⟨.bool,b⟩=>.bool b
 |⟨.int k,n⟩=>.int k n
 |⟨.str,s⟩=>.str s
 |⟨.slice t,l⟩=>.slice (List.map (FB D enc t) l)
 |⟨.nm _,_⟩=>.bool false
structure cM where
 D:Nat->Type
 ke:∀n,D n
 oa:∀n,D n->List (Cell D)
 make:∀n,List (Cell D)->Option (D n)
 dq:Nat->List aL
 enc:∀n,D n->List T
 Sx:∀n x,enc n x=(oa n x).map (Sw D enc)
 mk_eq:∀n l x,make n l=some x->oa n x=l
 To:∀n x,(oa n x).map Cell.ty=dq n
 pos:∀n,0<(dq n).length
 Tn:Nat->Option aL:=λ_=>none
 own:List (List Bool×Nat×aL):=[]
variable {U:cM}
abbrev cM.C(U:cM):=Cell U.D
abbrev aL.d(U:cM)(t:aL):=t.den U.D
def aL.ke(U:cM):(t:aL)->t.den U.D
 |.bool=>false
 |.int _=>(0:Int)
 |.str=>([]:ak)
 |.slice t=>([]:List (t.den U.D))
 |.nm n=>U.ke n
def aL.vh:aL->Bool
 |.nm _=>true
 |_=>false
def aL.row(U:cM):(t:aL)->t.den U.D->List (Cell U.D)
 |.bool,b=>[⟨.bool,b⟩]
 |.int k,n=>[⟨.int k,n⟩]
 |.str,s=>[⟨.str,s⟩]
 |.slice t,l=>[⟨.slice t,l⟩]
 |.nm n,x=>U.oa n x
def aL.cells(U:cM):aL->List aL
 |.nm n=>U.dq n
 |t=>[t]
def aL.sz(U:cM)(t:aL):Nat:=(t.cells U).length
def jc(U:cM)(t:aL):List (Cell U.D)->Option (t.den U.D)
 |[c]=>c.as t
 |_=>none
def aL.mk(U:cM):(t:aL)->List (Cell U.D)->Option (t.den U.D)
 |.nm n,l=>U.make n l
 |.bool,l=>jc U .bool l
 |.int k,l=>jc U (.int k) l
 |.str,l=>jc U .str l
 |.slice t,l=>jc U (.slice t) l
variable{x:t.den U.D}
theorem CB{l:List (Cell U.D)}(h:jc U t l=some x):l=[⟨t,x⟩]:=by
 unfold jc at h;grind[Cell.j7]
def Cell.enc(U:cM)(c:Cell U.D):T:=Sw U.D U.enc c
def aL.enc(U:cM)(t:aL)(x:t.den U.D):List T:=FB U.D U.enc t x
theorem aL.u':t.enc U x=(t.row U x).map (Cell.enc U):=by
 cases t<;>first|rfl|skip
 case nm n=>exact U.Sx n x
theorem aL.ah2:(t.row U x).map Cell.ty=t.cells U:=by
 cases t<;>first|rfl|skip
 case nm n=>exact U.To n x
theorem aL.Ti:(t.row U x).length=t.sz U:=by
 rw[<-km,aL.ah2];rfl
theorem aL.sL:(t.enc U x).length=t.sz U:=by
 rw[aL.u',km,aL.Ti]
theorem aL.sd:0<t.sz U:=by
 cases t<;>simp[aL.sz,aL.cells];exact U.pos _
theorem aL.FN:∀{t:aL} {l:List (Cell U.D)} {x:t.den U.D},t.mk U l=some x->t.row U x=l
 |.nm n,l,x,h=>U.mk_eq n l x h
 |.bool,l,x,h=>(CB h).symm
 |.int k,l,x,h=>(CB h).symm
 |.str,l,x,h=>(CB h).symm
 |.slice t,l,x,h=>(CB h).symm
def aL.at(U:cM)(t:aL)(l:List (t.den U.D))(i:Nat):t.den U.D:=l.getD i (t.ke U)
theorem zO{l:List (t.den U.D)}{i:Nat}(h:i<l.length):el (l.map (t.enc U)) i=t.enc U (t.at U l i):=by
 simp[el,aL.at,e9 h]
end
section
open Go
variable {U:cM}
inductive bm (U:cM) where
 |t (c:Cell U.D)
 |ptr (b o:Nat)
 |cJ (b:Nat)(t:aL)(i o:Nat)
 |dM (t:aL)(x:t.den U.D)(o:Nat)
 |arr (b:Nat)
 |sub (b oA len:Nat)
 |pre (b h:Nat)
 |dO (b oA len:Nat)
 |mp (b:Nat)
 |ew (b:Nat)
 |cP (b:Nat)
 |aA
 |e7
 |e6
 |fn (f:Nat)(caps:a7)
 |dead
inductive bJ (U:cM) where
 |c (x:bm U)
 |agg (cs:List (bm U))
 |aY (vs:List (bJ U))
inductive cS (U:cM) where
 |box (cs:List (bm U))
 |arr (t:aL)(l:List (t.den U.D))
 |rows (sz:Nat)(r:List (List (bm U)))
 |set (ks:List ak)
 |buf (E:Nat)(s:ak)
 |b9 (E:Nat)(c:bm U)
 |cA (t:aL)(l:List (t.den U.D))(i o:Nat)(c:bm U)
abbrev bS(U:cM):=List (Nat×bJ U)
abbrev bg(U:cM):=List (Nat×cS U)
abbrev eA:=List (Nat×Nat×Bool)
def a8{α:Type}:List (Nat×α)->Nat->Option α
 |[],_=>none
 |(k,x)::r,i=>match Nat.beq k i with
  |true=>some x
  |false=>a8 r i
def cF{α:Type}:List (Nat×α)->Nat->α->List (Nat×α)
 |[],b,x=>[(b,x)]
 |(k,y)::r,b,x=>match Nat.beq k b with
  |true=>(k,x)::r
  |false=>(k,y)::cF r b x
def dl{α:Type}:List (Nat×α)->Nat->List (Nat×α)
 |[],_=>[]
 |(k,y)::r,b=>match Nat.beq k b with
  |true=>dl r b
  |false=>(k,y)::dl r b
theorem c1{a b:Nat}(h:Nat.beq a b=true):a=b:=Nat.eq_of_beq_eq_true h
theorem iD{a b:Nat}(h:Nat.beq a b=false):a≠b:=λe=>by simp_all
variable{α:Type}
theorem hP(J:List (Nat×α))(b:Nat)(x:α)(i:Nat):a8 (cF J b x) i=if b=i then some x else a8 J i:=by
 induction J with
 |nil=>
  grind[cF,a8,c1,iD]
 |cons y r ih=>
  grind[cF,c1,a8]
theorem oz(J:List (Nat×α))(b i:Nat):a8 (dl J b) i=if b=i then none else a8 J i:=by
 induction J with
 |nil=>simp[dl,a8]
 |cons y r ih=>
  grind[dl,c1,a8]
def EU:C->Option (bm U)
 |.t (.bool b)=>some (.t ⟨.bool,b⟩)
 |.t (.int k n)=>some (.t ⟨.int k,n⟩)
 |.t (.str s)=>some (.t ⟨.str,s⟩)
 |.aA=>some .aA
 |.e7=>some .e7
 |.e6=>some .e6
 |.dead=>some .dead
 |.fn f []=>some (.fn f [])
 |_=>none
def ns:List C->Option (List (bm U))
 |[]=>some []
 |c::cs=>match EU c,ns cs with
  |some x,some xs=>some (x::xs)
  |_,_=>none
def xq:V->Option (bJ U)
 |.c x=>match EU x with
  |some y=>some (.c y)
  |none=>none
 |.agg cs=>match ns cs with
  |some a=>some (.agg a)
  |none=>none
 |.aY _=>none
def xc(gl:eA):Nat->Option (Nat×Bool)->Nat->Bool
 |0,_,_=>false
 |b+1,gd,k=>match a8 gl k with
  |none=>true
  |some a=>match gd with
   |none=>false
   |some g=>(Nat.beq g.1 a.1&&(g.2==a.2))||xc gl b (a8 gl g.1) k
def fk(env:bS U)(t:Nat)(b:Bool):Option Bool:=
 match a8 env t with
 |some (.c (.t ⟨.bool,x⟩))=>some (match b with|true=>x|false=>!x)
 |_=>none
def lA(gl:eA)(env:bS U):Nat->Option (Nat×Bool)->Option Bool
 |_,none=>some true
 |0,some _=>none
 |a+1,some (t,b)=>match lA gl env a (a8 gl t),fk env t b with
  |some x,some y=>some (x&&y)
  |_,_=>none
def qI:Nat:=200
def dg(gl:eA)(gd:Option (Nat×Bool))(env:bS U):aR->Option (bJ U)
 |.const v=>xq v
 |.tmp k=>match xc gl qI gd k with
  |true=>a8 env k
  |false=>none
def EW(gl:eA)(gd:Option (Nat×Bool))(env:bS U)(c:aR)(b:Bool):aR->Option (bJ U)
 |.const v=>xq v
 |.tmp k=>match xc gl qI gd k with
  |true=>a8 env k
  |false=>match c,a8 gl k with
   |.tmp d,some (t,a)=>match Nat.beq t d&&(a==b)with
    |true=>a8 env k
    |false=>none
   |_,_=>none
def lI(gl:eA)(gd:Option (Nat×Bool))(env:bS U):List aR->Option (List (bJ U))
 |[]=>some []
 |x::r=>match dg gl gd env x,lI gl gd env r with
  |some v,some vs=>some (v::vs)
  |_,_=>none
def p1:bJ U->Option (List (bm U))
 |.c x=>some [x]
 |.agg cs=>some cs
 |.aY _=>none
def xp(a:List (bm U))(off:Nat)(cs:List (bm U)):List (bm U):=a.take off++cs++a.drop (off+cs.length)
def zP(gl:eA)(gd:Option (Nat×Bool))(env:bS U):List (bm U)->List (Nat×Nat×aR)->Option (List (bm U))
 |a,[]=>some a
 |a,(off,n,x)::r=>match dg gl gd env x with
  |none=>none
  |some v=>match p1 v with
   |none=>none
   |some cs=>match Nat.beq cs.length n&&Nat.ble (off+n) a.length with
    |true=>zP gl gd env (xp a off cs) r
    |false=>none
def bm.toT:bm U->Option T
 |.t c=>match c.ty.vh with
  |true=>none
  |false=>some (c.enc U)
 |.aA=>some (.slice [])
 |_=>none
def hT:List (bm U)->Option (List T)
 |[]=>some []
 |c::cs=>match c.toT,hT cs with
  |some t,some ts=>some (t::ts)
  |_,_=>none
def w2(gl:eA)(gd:Option (Nat×Bool))(env:bS U)(sz:Nat):List (List (bm U))->List (Nat×aR)->Option (List (List (bm U)))
 |rows,[]=>some rows
 |rows,(i,x)::r=>match dg gl gd env x with
  |none=>none
  |some v=>match p1 v with
   |none=>none
   |some cs=>match hT cs with
    |none=>none
    |some _=>match Nat.beq cs.length sz&&Nat.ble (i+1) rows.length with
     |true=>w2 gl gd env sz (rows.set i cs) r
     |false=>none
inductive fY (U:cM) where
 |ty (t:aL)(l:List (t.den U.D))
 |rows (r:List (List (bm U)))
 |nil
def fY.len:fY U->Nat
 |.ty _ l=>l.length
 |.rows r=>r.length
 |.nil=>0
def iF:List aL->List (bm U)->Option (List (Cell U.D))
 |[],[]=>some []
 |t::ts,.t c::cs=>match iF ts cs with
  |some l=>some (c::l)
  |none=>none
 |.slice t::ts,.aA::cs=>match iF ts cs with
  |some l=>some (⟨.slice t,([]:List (t.den U.D))⟩::l)
  |none=>none
 |_,_=>none
def qv(U:cM)(t:aL)(cs:List (bm U)):Option (t.den U.D):=
 match iF (t.cells U) cs with
 |some l=>t.mk U l
 |none=>none
def mq(U:cM)(t:aL):List (List (bm U))->Option (List (t.den U.D))
 |[]=>some []
 |r::a=>match qv U t r,mq U t a with
  |some x,some xs=>some (x::xs)
  |_,_=>none
def fY.as(t:aL):fY U->Option (List (t.den U.D))
 |.ty u l=>Cell.as (.slice t) ⟨.slice u,l⟩
 |.rows r=>mq U t r
 |.nil=>some []
def fY.join:fY U->fY U->Option (fY U)
 |.nil,y=>some y
 |.ty t l,y=>match y.as t with
  |some a=>some (.ty t (l++a))
  |none=>none
 |.rows r,.ty t l=>match mq U t r with
  |some c=>some (.ty t (c++l))
  |none=>none
 |.rows r,.rows e=>some (.rows (r++e))
 |.rows r,.nil=>some (.rows r)
def fY.blk(sz:Nat):fY U->Option (cS U)
 |.ty t l=>match Nat.beq (t.sz U) sz with
  |true=>some (.arr t l)
  |false=>none
 |.rows r=>match r.all λx=>Nat.beq x.length sz with
  |true=>some (.rows sz r)
  |false=>none
 |.nil=>some (.rows sz [])
def sh(J:bg U):bJ U->Option (fY U×Option Nat)
 |.c (.t ⟨.slice t,l⟩)=>some (.ty t l,none)
 |.c .aA=>some (.nil,none)
 |.c (.arr b)=>match a8 J b with
  |some (.arr t l)=>some (.ty t l,some b)
  |some (.rows _ r)=>some (.rows r,some b)
  |_=>none
 |_=>none
def cS.dh:cS U->Option (Nat×Nat)
 |.box _=>none
 |.arr t l=>some (t.sz U,l.length)
 |.rows sz r=>some (sz,r.length)
 |.set _=>none
 |.buf _ s=>some (1,s.length)
 |.b9 _ _=>none
 |.cA t l _ _ _=>some (t.sz U,l.length)
def Tw(J:bg U)(b sz:Nat):Bool:=
 match a8 J b with
 |some x=>(match x.dh with|some p=>Nat.beq p.1 sz|none=>false)
 |none=>false
def room(bytes n:Nat):Bool:=decide ((2*n+192)*bytes<=hZ)&&decide (n<=dY)
def Tt:BinOp->IntKind->IntKind->Int->Int->Option (Bool×Cell U.D)
 |.add,k,c,a,b=>if k=c then some (true,⟨.int k,k.wrap (a+b)⟩)else none
 |.sub,k,c,a,b=>if k=c then some (true,⟨.int k,k.wrap (a-b)⟩)else none
 |.mul,k,c,a,b=>if k=c then some (true,⟨.int k,k.wrap (a*b)⟩)else none
 |.quo,k,c,a,b=>if k=c then some (!decide (b=0),⟨.int k,k.wrap (a.tdiv b)⟩)else none
 |.rem,k,c,a,b=>if k=c then some (!decide (b=0),⟨.int k,a.tmod b⟩)else none
 |.and,k,c,a,b=>if k=c then some (true,⟨.int k,k.wrap (BitVec.ofInt k.bits a &&& BitVec.ofInt k.bits b).toNat⟩)else none
 |.or,k,c,a,b=>if k=c then some (true,⟨.int k,k.wrap (BitVec.ofInt k.bits a ||| BitVec.ofInt k.bits b).toNat⟩)else none
 |.xor,k,c,a,b=>if k=c then some (true,⟨.int k,k.wrap (BitVec.ofInt k.bits a ^^^ BitVec.ofInt k.bits b).toNat⟩)else none
 |.andNot,k,c,a,b=>if k=c then some (true,⟨.int k,k.wrap (BitVec.ofInt k.bits a &&& ~~~ BitVec.ofInt k.bits b).toNat⟩)else none
 |.shl,k,_,a,b=>some (decide (0<=b),⟨.int k,k.wrap (a*2^min b.toNat k.bits)⟩)
 |.shr,k,_,a,b=>some (decide (0<=b),⟨.int k,a.fdiv (2^min b.toNat k.bits)⟩)
 |.eql,k,c,a,b=>if k=c then some (true,⟨.bool,decide (a=b)⟩)else none
 |.neq,k,c,a,b=>if k=c then some (true,⟨.bool,!decide (a=b)⟩)else none
 |.lss,k,c,a,b=>if k=c then some (true,⟨.bool,decide (a<b)⟩)else none
 |.leq,k,c,a,b=>if k=c then some (true,⟨.bool,decide (a<=b)⟩)else none
 |.gtr,k,c,a,b=>if k=c then some (true,⟨.bool,decide (b<a)⟩)else none
 |.geq,k,c,a,b=>if k=c then some (true,⟨.bool,decide (b<=a)⟩)else none
def Tu:BinOp->ak->ak->Option (Bool×Cell U.D)
 |.add,a,b=>some (decide (a.length+b.length<=eF),⟨.str,a++b⟩)
 |.eql,a,b=>some (true,⟨.bool,decide (a=b)⟩)
 |.neq,a,b=>some (true,⟨.bool,!decide (a=b)⟩)
 |.lss,a,b=>some (true,⟨.bool,Op.bytesLess a b⟩)
 |.leq,a,b=>some (true,⟨.bool,Op.bytesLess a b||decide (a=b)⟩)
 |.gtr,a,b=>some (true,⟨.bool,!(Op.bytesLess a b||decide (a=b))⟩)
 |.geq,a,b=>some (true,⟨.bool,!(Op.bytesLess a b)⟩)
 |_,_,_=>none
def Ij(op:BinOp):Cell U.D->Cell U.D->Option (Bool×Cell U.D)
 |⟨.int k,a⟩,⟨.int c,b⟩=>Tt op k c a b
 |⟨.str,a⟩,⟨.str,b⟩=>Tu op a b
 |_,_=>none
def fy(a b:Bool):Bool:=a==b
def hK(a b:Int):Bool:=decide (a=b)
def i'(a b:ak):Bool:=decide (a=b)
def aG(m:Int)(n:Nat):Bool:=decide (0<=m)&&decide (m.toNat<n)
def dN(b a:Int)(n:Nat):Bool:=decide (0<=b)&&(decide (b<=a)&&decide (a<=n))
def dZ{α:Type}(l:List α)(b a:Int):List α:=(l.take a.toNat).drop b.toNat
def iq(a b:Int):Int:=Max.max a b
def ja(a b:Int):Int:=Min.min a b
def fI(s:ak)(m:Int):Int:=((s.getD m.toNat 0).toNat:Int)
def mV(m:Int):ak:=(Utf8.encode m).data.toList
def bT(k:IntKind)(m:Int):Int:=k.wrap m
def Bp(a b:ak):ak:=a++b
def Io:Nat->Cell U.D->Cell U.D->Option Bool
 |0,⟨.bool,a⟩,⟨.bool,b⟩=>some (fy a b)
 |1,⟨.int k,a⟩,⟨.int c,b⟩=>if k=c then some (hK a b)else none
 |2,⟨.str,a⟩,⟨.str,b⟩=>some (i' a b)
 |_,_,_=>none
def A7:a7->List (bm U)->List (bm U)->Option Bool
 |[],[],[]=>some true
 |k::ks,.t x::xs,.t y::a=>match Io k x y,A7 ks xs a with
  |some b,some r=>some (b&&r)
  |_,_=>none
 |_,_,_=>none
def rU(agg:Bool)(n:Nat)(cs:List (bm U))(o:Nat):Option (bJ U):=
 match agg with
 |true=>match Nat.ble (o+n) cs.length with
  |true=>some (.agg ((cs.drop o).take n))
  |false=>none
 |false=>match cs[o]? with
  |some c=>some (.c c)
  |none=>none
def ov(gl:eA)(gd:Option (Nat×Bool))(env:bS U):Option aR->Option (Option Int)
 |none=>some none
 |some x=>match dg gl gd env x with
  |some (.c (.t ⟨.int _,n⟩))=>some (some n)
  |_=>none
def A5:List (bJ U)->Option a7
 |[]=>some []
 |.c (.ptr b 0)::r=>match A5 r with
  |some l=>some (b::l)
  |none=>none
 |_=>none
abbrev ae0(U:cM):=Option (Bool×bJ U×bg U)
def sj(U:cM)(t:aL)(l:List (t.den U.D))(i o:Nat)(cs:List (bm U)):Option (List (t.den U.D)):=
 match qv U t (xp ((t.row U (t.at U l i)).map .t) o cs)with
 |some x=>some (l.set i x)
 |none=>none
def uN(t:aL):List (bm U)->Option (List (t.den U.D))
 |[]=>some []
 |.t c::r=>match c.as t,uN t r with
  |some x,some l=>some (x::l)
  |_,_=>none
 |_::_=>none
def Eh:List (bm U)->Option ((t:aL)×List (t.den U.D))
 |.t c::r=>match c.ty.vh,uN c.ty (.t c::r)with
  |false,some l=>some ⟨c.ty,l⟩
  |_,_=>none
 |_=>none
def strOf(l:ar):ak:=l.map λm=>UInt8.ofNat m.toNat
def xd(a len n:Nat):Bool:=decide (a+len<=n)
def S1:List (bm U)->Option (bm U)
 |[.arr b]=>some (.arr b)
 |_=>none
def FM(bytes:Nat)(m:Int):Bool:=decide (0<=m/\m.toNat*bytes<=hZ/\m.toNat<=dY)
theorem acZ{bytes:Nat}{m:Int}:FM bytes m=true↔0<=m/\m.toNat*bytes<=hZ/\m.toNat<=dY:=by simp[FM]
def cr(gl:eA)(gd:Option (Nat×Bool))(env:bS U)(J:bg U)(n:Nat)(o:cR):ae0 U:=
 match o with
 |.mov x=>match dg gl gd env x with
  |some v=>some (true,v,J)
  |none=>none
 |.pick c x y=>match dg gl gd env c,EW gl gd env c true x,EW gl gd env c false y with
  |some (.c (.t ⟨.bool,b⟩)),some (.c (.t ⟨.bool,p⟩)),some (.c (.t ⟨.bool,q⟩))=>some (true,.c (.t ⟨.bool,bif b then p else q⟩),J)
  |_,_,_=>none
 |.alloc cs=>match ns cs with
  |some xs=>some (true,.c (.ptr n 0),cF J n (.box xs))
  |none=>none
 |.allocA cs=>match ns cs with
  |some xs=>match Eh xs with
   |some ⟨t,l⟩=>some (true,.c (.ptr n 0),cF J n (.arr t l))
   |none=>none
  |none=>none
 |.idxP k x i=>match dg gl gd env x,dg gl gd env i with
  |some (.c (.ptr b 0)),some (.c (.t ⟨.int _,m⟩))=>match a8 J b with
   |some (.arr t _)=>match Nat.beq (t.sz U) 1 with
    |true=>some (aG m k,.c (.cJ b t (Int.toNat m) 0),J)
    |false=>none
   |_=>none
  |_,_=>none
 |.idxV k x i=>match dg gl gd env x,dg gl gd env i with
  |some (.agg cs),some (.c (.t ⟨.int _,m⟩))=>match Nat.beq cs.length k,Eh cs with
   |true,some ⟨t,l⟩=>some (aG m k,.c (.t ⟨t,t.at U l (Int.toNat m)⟩),J)
   |_,_=>none
  |_,_=>none
 |.mslice sz bytes z x=>match dg gl gd env x,ns z with
  |some (.c (.t ⟨.int _,m⟩)),some g=>match hT g with
   |none=>none
   |some _=>match g with
    |[.t c]=>match c.ty.vh,Nat.beq sz 1 with
     |false,true=>some (FM bytes m,.c (.arr n),cF J n (.arr c.ty (List.replicate (Int.toNat m) c.val)))
     |_,_=>none
    |_=>none
  |_,_=>none
 |.slcP k x d u=>match dg gl gd env x,ov gl gd env d,ov gl gd env u with
  |some (.c (.ptr b 0)),some l,some h=>
   some (dN (l.getD 0) (h.getD (k:Int)) k,.c (.sub b (Int.toNat (l.getD 0)) (Int.toNat (h.getD (k:Int))-Int.toNat (l.getD 0))),J)
  |_,_,_=>none
 |.b2s x=>match dg gl gd env x with
  |some (.c (.t ⟨.slice (.int .u8),l⟩))=>some (true,.c (.t ⟨.str,strOf l⟩),J)
  |some (.c .aA)=>some (true,.c (.t ⟨.str,[]⟩),J)
  |some (.c (.arr b))=>match a8 J b with
   |some (.arr (.int .u8) l)=>some (true,.c (.t ⟨.str,strOf l⟩),J)
   |_=>none
  |some (.c (.sub b d len))=>match a8 J b with
   |some (.arr (.int .u8) l)=>some (xd d len (List.length l),.c (.t ⟨.str,strOf ((l.drop d).take len)⟩),J)
   |_=>none
  |_=>none
 |.allocS e e8=>some (true,.c (.ptr n 0),cF (cF J (n+1) (.buf e8 [])) n (.b9 e (.cP (n+1))))
 |.bsliceT e sz len z parts=>match U.Tn e with
  |none=>none
  |some t=>match ns z with
   |some g=>match hT g with
    |none=>none
    |some _=>match Nat.beq g.length sz with
     |false=>none
     |true=>match w2 gl gd env sz (List.replicate len g) parts with
      |some rows=>match mq U t rows with
       |some l=>some (true,.c (.t ⟨.slice t,l⟩),J)
       |none=>none
      |none=>none
   |none=>none
 |.mkset=>some (true,.c (.mp n),cF J n (.set []))
 |.lkset x k=>match dg gl gd env x,dg gl gd env k with
  |some (.c (.mp b)),some (.c (.t ⟨.str,s⟩))=>match a8 J b with
   |some (.set ks)=>some (true,.c (.t ⟨.bool,js ks s⟩),J)
   |_=>none
  |_,_=>none
 |.upset x k=>match dg gl gd env x,dg gl gd env k with
  |some (.c (.mp b)),some (.c (.t ⟨.str,s⟩))=>match a8 J b with
   |some (.set ks)=>some (true,.aY [],cF J b (.set (iN ks s)))
   |_=>none
  |_,_=>none
 |.appendB e bytes x y=>match dg gl gd env x,dg gl gd env y with
  |some (.c (.cP b)),some (.c (.t ⟨.str,s⟩))=>match a8 J b with
   |some (.buf E l)=>match Nat.beq E e with
    |true=>some (room bytes (List.length l+List.length s),.c (.cP n),cF (dl J b) n (.buf e (Bp l s)))
    |false=>none
   |_=>none
  |_,_=>none
 |.sdata x=>match dg gl gd env x with
  |some (.c (.cP b))=>some (true,.c (.ew b),J)
  |_=>none
 |.ustr e x k=>match dg gl gd env x,dg gl gd env k with
  |some (.c (.ew b)),some (.c (.t ⟨.int .i64,m⟩))=>match a8 J b with
   |some (.buf E l)=>match Nat.beq E e with
    |true=>some (hK m (List.length l:Int),.c (.t ⟨.str,l⟩),dl J b)
    |false=>none
   |_=>none
  |_,_=>none
 |.box x=>match dg gl gd env x with
  |some v=>match p1 v with
   |some cs=>some (true,.c (.ptr n 0),cF J n (.box cs))
   |none=>none
  |none=>none
 |.build z parts=>match ns z with
  |some g=>match zP gl gd env g parts with
   |some cs=>some (true,.agg cs,J)
   |none=>none
  |none=>none
 |.bslice sz len z parts=>match ns z with
  |some g=>match hT g with
   |none=>none
   |some _=>match Nat.beq g.length sz with
    |false=>none
    |true=>match w2 gl gd env sz (List.replicate len g) parts with
     |some rows=>some (true,.c (.arr n),cF J n (.rows sz rows))
     |none=>none
  |none=>none
 |.load agg k x=>match dg gl gd env x with
  |some (.c (.ptr b o))=>match a8 J b with
   |some (.box cs)=>match rU agg k cs o with
    |some v=>some (true,v,J)
    |none=>none
   |some (.b9 _ c)=>match agg,o with
    |false,1=>some (true,.c c,J)
    |_,_=>none
   |_=>none
  |some (.c (.cJ b t i o))=>match a8 J b with
   |some (.arr j l)=>match Cell.as (.slice t) (⟨.slice j,l⟩:Cell U.D)with
    |some l=>match rU agg k ((t.row U (t.at U l i)).map .t) o with
     |some v=>some (decide (i<l.length),v,J)
     |none=>none
    |none=>none
   |some (.cA j l w A c)=>match agg with
    |true=>none
    |false=>match Nat.beq o A with
     |true=>match Nat.beq (t.sz U) (j.sz U)with
      |true=>some (decide (i=w),.c c,J)
      |false=>none
     |false=>match Cell.as (.slice t) (⟨.slice j,l⟩:Cell U.D)with
      |some l=>match rU false k ((t.row U (t.at U l i)).map .t) o with
       |some v=>some (decide (i<l.length),v,J)
       |none=>none
      |none=>none
   |_=>none
  |some (.c (.dM t x o))=>match rU agg k ((t.row U x).map .t) o with
   |some v=>some (true,v,J)
   |none=>none
  |_=>none
 |.store k x v=>match dg gl gd env x,dg gl gd env v with
  |some (.c (.ptr b o)),some v=>match p1 v with
   |some cs=>match Nat.beq cs.length k with
    |true=>match a8 J b with
     |some (.box H)=>match Nat.ble (o+k) H.length with
      |true=>some (true,.aY [],cF J b (.box (xp H o cs)))
      |false=>none
     |some (.b9 e _)=>match o,cs with
      |1,[c]=>some (true,.aY [],cF J b (.b9 e c))
      |_,_=>none
     |_=>none
    |false=>none
   |none=>none
  |some (.c (.cJ b t i o)),some v=>match p1 v with
   |some cs=>match Nat.beq cs.length k&&Nat.ble (o+k) (t.sz U)with
    |true=>match a8 J b with
     |some (.arr j l)=>match Cell.as (.slice t) (⟨.slice j,l⟩:Cell U.D)with
      |some l=>match S1 cs with
       |some c=>some (decide (i<l.length),.aY [],cF J b (.cA t l i o c))
       |none=>match sj U t l i o cs with
        |some G=>some (decide (i<l.length),.aY [],cF J b (.arr t G))
        |none=>none
      |none=>none
     |some (.cA j l w A K)=>match cs with
      |[c]=>match Nat.beq o A with
       |true=>match Nat.beq (t.sz U) (j.sz U)with
        |true=>some (decide (i=w),.aY [],cF J b (.cA j l w A c))
        |false=>none
       |false=>match Cell.as (.slice t) (⟨.slice j,l⟩:Cell U.D)with
        |some l=>match sj U t l i o [c]with
         |some G=>some (decide (i<l.length),.aY [],cF J b (.cA t G w A K))
         |none=>none
        |none=>none
      |_=>none
     |_=>none
    |false=>none
   |none=>none
  |_,_=>none
 |.nilCheck x=>match dg gl gd env x with
  |some (.c (.ptr b o))=>some (true,.c (.ptr b o),J)
  |some (.c (.cJ b t i o))=>some (true,.c (.cJ b t i o),J)
  |some (.c (.dM t x o))=>some (true,.c (.dM t x o),J)
  |_=>none
 |.bin op x y=>match dg gl gd env x,dg gl gd env y with
  |some (.c (.t p)),some (.c (.t q))=>match Ij op p q with
   |some (c,r)=>some (c,.c (.t r),J)
   |none=>none
  |_,_=>none
 |.eqAgg neg ks x y=>match dg gl gd env x,dg gl gd env y with
  |some (.agg p),some (.agg q)=>match A7 ks p q with
   |some r=>some (true,.c (.t ⟨.bool,match neg with|true=>!r|false=>r⟩),J)
   |none=>none
  |_,_=>none
 |.eqBool neg x y=>match dg gl gd env x,dg gl gd env y with
  |some (.c (.t ⟨.bool,p⟩)),some (.c (.t ⟨.bool,q⟩))=>some (true,.c (.t ⟨.bool,match neg with|true=>!(fy p q)|false=>fy p q⟩),J)
  |_,_=>none
 |.not x=>match dg gl gd env x with
  |some (.c (.t ⟨.bool,b⟩))=>some (true,.c (.t ⟨.bool,!b⟩),J)
  |_=>none
 |.conv k x=>match dg gl gd env x with
  |some (.c (.t ⟨.int _,m⟩))=>some (true,.c (.t ⟨.int k,bT k m⟩),J)
  |_=>none
 |.i2s x=>match dg gl gd env x with
  |some (.c (.t ⟨.int _,m⟩))=>some (true,.c (.t ⟨.str,mV m⟩),J)
  |_=>none
 |.s2s x=>match dg gl gd env x with
  |some (.c (.t ⟨.str,s⟩))=>some (true,.c (.t ⟨.str,s⟩),J)
  |_=>none
 |.fldA off x=>match dg gl gd env x with
  |some (.c (.ptr b o))=>some (true,.c (.ptr b (o+off)),J)
  |some (.c (.cJ b t i o))=>some (true,.c (.cJ b t i (o+off)),J)
  |some (.c (.dM t x o))=>some (true,.c (.dM t x (o+off)),J)
  |_=>none
 |.fld agg off k x=>match dg gl gd env x with
  |some (.agg cs)=>match rU agg k cs off with
   |some v=>some (true,v,J)
   |none=>none
  |_=>none
 |.idxA sz x i=>match dg gl gd env x,dg gl gd env i with
  |some (.c (.t ⟨.slice t,l⟩)),some (.c (.t ⟨.int _,m⟩))=>match Nat.beq (t.sz U) sz with
   |true=>some (aG m l.length,.c (.dM t (t.at U l (Int.toNat m)) 0),J)
   |false=>none
  |some (.c (.arr b)),some (.c (.t ⟨.int _,m⟩))=>match a8 J b with
   |some (.arr t l)=>match Nat.beq (t.sz U) sz with
    |true=>some (aG m l.length,.c (.cJ b t (Int.toNat m) 0),J)
    |false=>none
   |_=>none
  |_,_=>none
 |.idxS x i=>match dg gl gd env x,dg gl gd env i with
  |some (.c (.t ⟨.str,s⟩)),some (.c (.t ⟨.int _,m⟩))=>some (aG m s.length,.c (.t ⟨.int .u8,fI s m⟩),J)
  |_,_=>none
 |.slcS x d u=>match dg gl gd env x,ov gl gd env d,ov gl gd env u with
  |some (.c (.t ⟨.str,s⟩)),some l,some h=>
   some (dN (l.getD 0) (h.getD (s.length:Int)) s.length,.c (.t ⟨.str,dZ s (l.getD 0) (h.getD (s.length:Int))⟩),J)
  |_,_,_=>none
 |.slc sz x d u=>match dg gl gd env x,ov gl gd env d,ov gl gd env u with
  |some (.c (.t ⟨.slice t,s⟩)),some l,some h=>match Nat.beq (t.sz U) sz with
   |true=>some (dN (l.getD 0) (h.getD (s.length:Int)) s.length,.c (.t ⟨.slice t,dZ s (l.getD 0) (h.getD (s.length:Int))⟩),J)
   |false=>none
  |some (.c (.arr b)),some none,some h=>match a8 J b with
   |some (.arr t s)=>match Nat.beq (t.sz U) sz with
    |true=>some (dN 0 (h.getD (s.length:Int)) s.length,.c (.pre b (Int.toNat (h.getD (s.length:Int)))),J)
    |false=>none
   |_=>none
  |some (.c (.arr b)),some (some d),some h=>match a8 J b with
   |some (.arr t s)=>match Nat.beq (t.sz U) sz with
    |true=>some (dN d (h.getD (s.length:Int)) s.length,.c (.dO b (Int.toNat d) (Int.toNat (h.getD (s.length:Int))-Int.toNat d)),J)
    |false=>none
   |_=>none
  |_,_,_=>none
 |.slc0 x=>match dg gl gd env x with
  |some (.c (.t ⟨.slice _,_⟩))=>some (true,.c .aA,J)
  |some (.c .aA)=>some (true,.c .aA,J)
  |some (.c (.arr _))=>some (true,.c .aA,J)
  |_=>none
 |.mkfn f caps=>match lI gl gd env caps with
  |some vs=>match A5 vs with
   |some l=>some (true,.c (.fn f l),J)
   |none=>none
  |none=>none
 |.ext x i=>match dg gl gd env x with
  |some (.aY vs)=>match vs[i]? with
   |some v=>some (true,v,J)
   |none=>none
  |_=>none
 |.len str x=>match str,dg gl gd env x with
  |true,some (.c (.t ⟨.str,s⟩))=>some (true,.c (.t ⟨.int .i64,(s.length:Int)⟩),J)
  |false,some (.c (.cP b))=>match a8 J b with
   |some (.buf _ s)=>some (true,.c (.t ⟨.int .i64,(s.length:Int)⟩),J)
   |_=>none
  |false,some v=>match sh J v with
   |some e=>some (true,.c (.t ⟨.int .i64,(e.1.len:Int)⟩),J)
   |none=>none
  |_,_=>none
 |.append sz bytes x y=>match dg gl gd env x,dg gl gd env y with
  |some (.c .aA),some v=>match sh J v with
   |some (B,_)=>match B.blk sz with
    |some blk=>some (room bytes B.len,.c (.arr n),cF J n blk)
    |none=>none
   |none=>none
  |some (.c (.arr b)),some v=>match sh J (.c (.arr b)),sh J v with
   |some (L,_),some (B,M)=>match (match M with|some C=>Nat.beq C b|none=>false)with
    |true=>none
    |false=>match Tw J b sz with
     |false=>none
     |true=>match L.join B with
      |some I=>match I.blk sz with
       |some blk=>some (room bytes I.len,.c (.arr n),cF (dl J b) n blk)
       |none=>none
      |none=>none
   |_,_=>none
  |some (.c (.pre b h)),some (.c (.dO C d len))=>match Nat.beq b C with
   |true=>match a8 J b with
    |some (.arr t l)=>match Nat.beq (t.sz U) sz with
     |true=>some (decide (h+len<=l.length)&&decide (d+len<=l.length),.c (.arr n),cF (dl J b) n (.arr t (l.take h++(l.drop d).take len)))
     |false=>none
    |_=>none
   |false=>none
  |_,_=>none
 |.max2 x y=>match dg gl gd env x,dg gl gd env y with
  |some (.c (.t ⟨.int k,a⟩)),some (.c (.t ⟨.int F,b⟩))=>if k=F then some (true,.c (.t ⟨.int k,iq a b⟩),J)else none
  |_,_=>none
 |.min2 x y=>match dg gl gd env x,dg gl gd env y with
  |some (.c (.t ⟨.int k,a⟩)),some (.c (.t ⟨.int F,b⟩))=>if k=F then some (true,.c (.t ⟨.int k,ja a b⟩),J)else none
  |_,_=>none
 |.eqNil .. |.call .. |.ic .. =>none
end
section
open Go
variable {U:cM}
inductive cc (N:Nat)(J:bg U):bm U->C->Prop
 |t (c:Cell U.D):cc N J (.t c) (.t (c.enc U))
 |ptr (b o:Nat):cc N J (.ptr b o) (.ptr b o)
 |cJ (b:Nat) (t:aL) (i o:Nat):cc N J (.cJ b t i o) (.cJ b (t.sz U) i o)
 |dM (t:aL) (x:t.den U.D) (o:Nat):cc N J (.dM t x o) (.dM (t.enc U x) o)
 |arr (b sz n:Nat) (yb:b<N) (h:∀x,a8 J b=some x->∀p,x.dh=some p->p=(sz,n)):cc N J (.arr b) (.arr b sz 0 n)
 |sub (b oA len:Nat):cc N J (.sub b oA len) (.fL b 1 oA len)
 |pre (b sz h:Nat) (yb:b<N) (aht:∀x,a8 J b=some x->∀p,x.dh=some p->p.1=sz):cc N J (.pre b h) (.arr b sz 0 h)
 |dO (b sz oA len:Nat) (yb:b<N) (aht:∀x,a8 J b=some x->∀p,x.dh=some p->p.1=sz):cc N J (.dO b oA len) (.fL b sz oA len)
 |mp (b:Nat):cc N J (.mp b) (.mp b)
 |ew (b:Nat):cc N J (.ew b) (.ew b)
 |cP (b n:Nat) (yb:b<N) (h:∀x,a8 J b=some x->∀p,x.dh=some p->p=(1,n)):cc N J (.cP b) (.cP b n)
 |aA:cc N J .aA .aA
 |e7:cc N J .e7 .e7
 |e6:cc N J .e6 .e6
 |fn (f:Nat) (caps:a7):cc N J (.fn f caps) (.fn f caps)
 |dead (d:C):cc N J .dead d
inductive cb (N:Nat)(J:bg U):bJ U->V->Prop
 |c {x d}:cc N J x d->cb N J (.c x) (.c d)
 |agg {xs o5}:a' (cc N J) xs o5->cb N J (.agg xs) (.agg o5)
 |aY (xs:List (bJ U)) (o5:List V) (af:xs.length=o5.length) (h:∀(i:Nat) x d,xs[i]?=some x->o5[i]?=some d->cb N J x d):cb N J (.aY xs) (.aY o5)
inductive hV (N:Nat)(J:bg U):cS U->bR->Prop
 |box {cs o5}:a' (cc N J) cs o5->hV N J (.box cs) (.box o5)
 |arr (t:aL) (l:List (t.den U.D)):hV N J (.arr t l) (.arr (t.sz U) (l.map (t.enc U)))
 |set (ks:List ak):hV N J (.set ks) (.set ks)
 |buf (E:Nat) (s:ak):hV N J (.buf E s) (.buf E s)
 |b9 {E c d}:cc N J c d->hV N J (.b9 E c) (.b9 E d)
 |cA (t:aL) (l:List (t.den U.D)) (i o:Nat) {c d}:cc N J c d->hV N J (.cA t l i o c) (.cA (t.sz U) (l.map (t.enc U)) i o d)
 |rows {sz r es}:a' (λr e=>hT r=some e) r es->(∀x,x∈r->x.length=sz)->hV N J (.rows sz r) (.arr sz es)
def cz(N:Nat)(J:bg U)(J1:ba):Prop:=∀b x,a8 J b=some x->b<N/\∃y,aX J1 b=some y/\hV N J x y
def c6(N:Nat)(J:bg U)(G:Nat->Bool)(env:bS U)(env1:Env):Prop:=∀k v,a8 env k=some v->∃v1,look env1 k=some (G k,v1)/\cb N J v v1
structure gP (gl:eA)(env:bS U)(G:Nat->Bool):Prop where
 free:∀k,a8 gl k=none->G k=true
 held:∀k t b,a8 gl k=some (t,b)->∃y,fk env t b=some y/\G k=(G t&&y)
def ds(N:Nat)(J:bg U)(N':Nat)(J':bg U):Prop:=N<=N'/\∀b a,b<N->a8 J' b=some a->∃x,a8 J b=some x/\∀p,a.dh=some p->x.dh=some p
variable{J:bg U}{x:bm U}{v1:V}{t:aL}{o:Nat}{v:bJ U}{cs:List (bm U)}
theorem ds.refl{N:Nat}:ds N J N J:=⟨d' _,λ_ x _ h=>⟨x,h,λ_ h=>h⟩⟩
theorem ds.more{N N':Nat}(h:N<=N'):ds N J N' J:=⟨h,λ_ x _ h=>⟨x,h,λ_ h=>h⟩⟩
theorem ds.trans{a c e:Nat}{s1 j o:bg U}(h:ds a s1 c j)(k:ds c j e o):ds a s1 e o:=
 ⟨gp h.1 k.1,λb x f A=>let⟨y,h1,q⟩:=k.2 b x (l9 f h.1) A;let⟨z,t,v⟩:=h.2 b y f h1;⟨z,t,λp w=>v p (q p w)⟩⟩
section
variable {N N':Nat}{J J':bg U}{J1:ba}{env:bS U}{env1:Env}{G:Nat->Bool}{gl:eA}{gd:Option (Nat×Bool)}
theorem cc.mono(k:ds N J N' J'){d:C}(h:cc N J x d):cc N' J' x d:=by
 cases h with
 |t c=>exact .t c
 |ptr b o=>exact .ptr b o
 |cJ b t i o=>exact .cJ b t i o
 |dM t x o=>exact .dM t x o
 |arr b sz n a h=>
  refine .arr b sz n (l9 a k.1) λx e p q=>?_;obtain⟨y,h1,j⟩:=k.2 b x a e;grind
 |sub b v len=>exact .sub b v _
 |pre b sz n a h=>
  refine .pre b sz n (l9 a k.1) λx e p q=>?_;obtain⟨y,h1,j⟩:=k.2 b x a e;grind
 |dO b sz v len a h=>
  refine .dO b sz v _ (l9 a k.1) λx e p q=>?_;obtain⟨y,h1,j⟩:=k.2 b x a e;grind
 |mp b=>exact .mp b
 |ew b=>exact .ew b
 |cP b n a h=>
  refine .cP b n (l9 a k.1) λx e p q=>?_;obtain⟨y,h1,j⟩:=k.2 b x a e;grind
 |aA=>exact .aA
 |e7=>exact .e7
 |e6=>exact .e6
 |fn f caps=>exact .fn f _
 |dead d=>exact .dead d
theorem cb.mono(k:ds N J N' J'){x:bJ U}{d:V}(h:cb N J x d):cb N' J' x d:=by
 induction h with
 |c h=>exact .c (h.mono k)
 |agg h=>exact .agg (h.imp λ_ _ _=>cc.mono k)
 |aY xs a af h ih=>exact .aY xs a af ih
theorem hV.mono(k:ds N J N' J'){x:cS U}{d:bR}(h:hV N J x d):hV N' J' x d:=by
 cases h with
 |box h=>exact .box (h.imp λ_ _ _=>cc.mono k)
 |arr t l=>exact .arr t l
 |set ks=>exact .set ks
 |buf E s=>exact .buf E s
 |b9 h=>exact .b9 (h.mono k)
 |cA t l i o h=>exact .cA t l i o (h.mono k)
 |rows h a=>exact .rows h a
theorem c6.mono(k:ds N J N' J')(h:c6 N J G env env1):c6 N' J' G env env1:=λi v c=>let⟨v1,h1,a⟩:=h i v c;⟨v1,h1,a.mono k⟩
theorem cz.put(h:cz N J J1){b:Nat}{x:cS U}{y:bR}(p:b<N')(k:ds N J N' (cF J b x))(ag:hV N' (cF J b x) x y):cz N' (cF J b x) (df J1 b y):=by
 intro c z a;rw[hP]at a;rw[c2];by_cases j:b=c
 . grind
 . rw[al j]at a⊢;obtain⟨h1,o,e,f⟩:=h c z a;exact⟨l9 h1 k.1,o,e,f.mono k⟩
theorem lo{x:cS U}(h:N<=N':=by simp):ds N J N' (cF J N x):=by
 refine⟨h,λb d a c=>?_⟩;grind[hP]
theorem n0{b:Nat}{x a:cS U}(h:N<=N')(h0:a8 J b=some a)(e:∀p,x.dh=some p->a.dh=some p):ds N J N' (cF J b x):=by
 refine⟨h,λc g d f=>?_⟩;grind[hP]
theorem td{b:Nat}:ds N J N (dl J b):=by
 refine⟨d' _,λc e a d=>?_⟩;grind[oz]
theorem Kv{d:C}(h:EU d=some x):cc N J x d:=by
 unfold EU at h;split at h<;>cases h
 . exact cc.t _
 . exact cc.t _
 . exact cc.t (U:=U) _
 . exact .aA
 . exact .e7
 . exact .e6
 . exact .dead _
 . exact .fn _ _
theorem q':∀{a:List C} {xs:List (bm U)},ns a=some xs->a' (cc N J) xs a
 |[],xs,h=>by simp[ns]at h;subst h;exact .nil
 |d::a,xs,h=>by
  simp[ns]at h;split at h
  . rename_i x c h1 b;cases h;exact .cons (Kv h1) (q' b)
  grind
theorem Kw{d:V}{x:bJ U}(h:xq d=some x):cb N J x d:=by
 cases d with
 |c d=>
  simp[xq]at h;split at h
  . rename_i y a;cases h;exact .c (Kv a)
  grind
 |agg b=>
  simp[xq]at h;split at h
  . rename_i y a;cases h;exact .agg (q' a)
  grind
 |aY _=>grind[xq]
def cC(env:bS U)(G:Nat->Bool):Option (Nat×Bool)->Bool
 |none=>true
 |some (t,b)=>G t&&(fk env t b).getD false
theorem gP.a8(aq:gP gl env G)(k:Nat):cC env G (a8 gl k)=G k:=by
 cases h:Shv.a8 gl k with
 |none=>exact(aq.free k h).symm
 |some g=>
  obtain⟨t,b⟩:=g;obtain⟨y,h1,a⟩:=aq.held k t b h;grind[cC]
theorem Dl(aq:gP gl env G):∀{a:Nat} {gd:Option (Nat×Bool)} {g:Bool},lA gl env a gd=some g->g=cC env G gd
 |_,none,g,h=>by unfold lA at h;simp at h;subst h;rfl
 |0,some _,g,h=>by grind[lA]
 |a+1,some (t,b),g,h=>by
  simp[lA]at h;split at h
  . rename_i x y h1 c;cases h;rw[Dl aq h1,aq.a8 t];grind[cC]
  grind
theorem ab0:∀{a:Nat} {t:Nat} {b:Bool} {g:Bool},lA gl env a (some (t,b))=some g->∃y,fk env t b=some y
 |0,t,b,g,h=>by grind[lA]
 |a+1,t,b,g,h=>by
  grind[lA]
theorem cb.ed(h:cb N J (.c x) v1):∃d,v1= .c d/\cc N J x d:=by cases h<;>grind
theorem cb.mz{xs:List (bm U)}(h:cb N J (.agg xs) v1):∃a,v1= .agg a/\a' (cc N J) xs a:=by cases h<;>grind
theorem cb.xe{c:Cell U.D}(h:cb N J (.c (.t c)) v1):v1= .c (.t (c.enc U)):=by obtain⟨d,rfl,aa⟩:=h.ed;cases aa;rfl
theorem cb.jk{b:Bool}(h:cb N J (.c (.t ⟨.bool,b⟩)) v1):v1= .c (.t (.bool b)):=h.xe
theorem cb.fA{k:IntKind}{m:Int}(h:cb N J (.c (.t ⟨.int k,m⟩)) v1):v1= .c (.t (.int k m)):=h.xe
theorem cb.kq{s:ak}(h:cb N J (.c (.t ⟨.str,s⟩)) v1):v1= .c (.t (.str s)):=h.xe
theorem cb.kp{l:List (t.den U.D)}(h:cb N J (.c (.t ⟨.slice t,l⟩)) v1):v1= .c (.t (.slice (l.map (t.enc U)))):=h.xe
theorem cb.hS{b:Nat}(h:cb N J (.c (.ptr b o)) v1):v1= .c (.ptr b o):=by obtain⟨d,rfl,aa⟩:=h.ed;cases aa;rfl
theorem cb.iZ{b i:Nat}(h:cb N J (.c (.cJ b t i o)) v1):v1= .c (.cJ b (t.sz U) i o):=by obtain⟨d,rfl,aa⟩:=h.ed;cases aa;rfl
theorem cb.FF{x:t.den U.D}(h:cb N J (.c (.dM t x o)) v1):v1= .c (.dM (t.enc U x) o):=by obtain⟨d,rfl,aa⟩:=h.ed;cases aa;rfl
theorem cb.u2(h:cb N J (.c .aA) v1):v1= .c .aA:=by obtain⟨d,rfl,aa⟩:=h.ed;cases aa;rfl
theorem cb.hc{b:Nat}(h:cb N J (.c (.arr b)) v1):∃sz n,v1= .c (.arr b sz 0 n)/\b<N/\∀x,Shv.a8 J b=some x->∀p,x.dh=some p->p=(sz,n):=by
 obtain⟨d,rfl,aa⟩:=h.ed;cases aa<;>grind
theorem cb.FO{b:Nat}(h:cb N J (.c (.mp b)) v1):v1= .c (.mp b):=by obtain⟨d,rfl,aa⟩:=h.ed;cases aa;rfl
theorem cb.Tk{b:Nat}(h:cb N J (.c (.ew b)) v1):v1= .c (.ew b):=by obtain⟨d,rfl,aa⟩:=h.ed;cases aa;rfl
theorem cb.Bn{b:Nat}(h:cb N J (.c (.cP b)) v1):∃n,v1= .c (.cP b n)/\b<N/\∀x,Shv.a8 J b=some x->∀p,x.dh=some p->p=(1,n):=by
 obtain⟨d,rfl,aa⟩:=h.ed;cases aa<;>grind
theorem cb.FC{f:Nat}{caps:a7}(h:cb N J (.c (.fn f caps)) v1):v1= .c (.fn f caps):=by
 obtain⟨d,rfl,aa⟩:=h.ed;cases aa;rfl
theorem ab1{t:Nat}{b y:Bool}(he:c6 N J G env env1)(h:fk env t b=some y):∃x,look env1 t=some (G t,.c (.t (.bool x)))/\y=(x==b):=by
 unfold fk at h;split at h
 . rename_i x d;cases h;obtain⟨v1,h1,a⟩:=he t _ d;have:=a.jk;grind
 grind
theorem Dz(he:c6 N J G env env1)(h:gd=none\/∃t b y,gd=some (t,b)/\fk env t b=some y):gf env1 gd=some (cC env G gd):=by
 grind[ab1,gf,cC]
theorem Dm(aq:gP gl env G):∀{c:Nat} {gd:Option (Nat×Bool)} {k:Nat},cC env G gd=true->xc gl c gd k=true->G k=true
 |0,gd,k,_,h=>by grind[xc]
 |c+1,gd,k,i,h=>by
  simp[xc]at h;split at h
  . rename_i a;exact aq.free k a
  . rename_i d a;split at h
    . grind
    . rename_i g;obtain⟨t,b⟩:=g;obtain⟨j,f⟩:=d;simp only[me,c5,jx]at h;rcases h with⟨h1,e⟩|h
      . have:=c1 h1;subst this;subst e;obtain⟨y,k1,k2⟩:=aq.held k t b a;grind[cC]
      . refine Dm aq ?_ h;rw[aq.a8 t];grind[cC]
theorem cn(he:c6 N J G env env1)(aq:gP gl env G){x:aR}(h:dg gl gd env x=some v):
 ∃p v1,x.get env1=some (p,v1)/\cb N J v v1/\(cC env G gd=true->p):=by
 cases x with
 |const d=>exact⟨True,d,rfl,Kw h,λ_=>trivial⟩
 |tmp k=>
  simp[dg]at h;split at h
  . rename_i hs;obtain⟨v1,h1,a⟩:=he k v h;exact⟨_,v1,by grind[aR.get],a,λb=>Dm aq b hs⟩
  grind
theorem Lu(he:c6 N J G env env1)(aq:gP gl env G){c x:aR}{b y:Bool}{i:bJ U}(g:dg gl gd env c=some i)(n:i= .c (.t ⟨.bool,y⟩))(h:EW gl gd env c b x=some v):
 ∃p v1,x.get env1=some (p,v1)/\cb N J v v1/\(cC env G gd=true->y=b->p):=by
 cases x with
 |const d=>exact⟨True,d,rfl,Kw h,λ_ _=>trivial⟩
 |tmp k=>
  simp[EW]at h;split at h
  . rename_i hs;obtain⟨v1,h1,a⟩:=he k v h;exact⟨_,v1,by grind[aR.get],a,λe _=>Dm aq e hs⟩
  . split at h
    . rename_i q t j l;split at h
      . rename_i f;simp only[c5,jx]at f;obtain⟨h1,rfl⟩:=f;have:=c1 h1;obtain⟨v1,h1,a⟩:=he k v h;refine⟨G k=true,v1,by grind[aR.get],a,λe o=>?_⟩;simp[dg]at g;split at g
        . rename_i hs;have m:=Dm aq e hs;obtain⟨r,k1,k2⟩:=aq.held k t j l;grind[fk]
        grind
      grind
    grind
theorem tE(he:c6 N J G env env1)(aq:gP gl env G):∀{xs:List aR} {vs:List (bJ U)},lI gl gd env xs=some vs->
 ∃p a,hN env1 xs=some (p,a)/\a' (cb N J) vs a/\(cC env G gd=true->p)
 |[],vs,h=>by simp[lI]at h;subst h;exact⟨True,[],rfl,.nil,λ_=>trivial⟩
 |x::xs,vs,h=>by
  simp[lI]at h;split at h
  . rename_i v d h1 c;cases h;obtain⟨p,v1,a1,a2,a3⟩:=cn he aq h1;obtain⟨q,a,b1,b2,b3⟩:=tE he aq c;exact⟨p/\q,v1::a,by grind[hN],.cons a2 b2,λb=>⟨a3 b,b3 b⟩⟩
  grind
theorem pH(h:cb N J v v1)(a:p1 v=some cs):∃b,pY v1=some b/\a' (cc N J) cs b:=by
 cases h with
 |c h=>simp[p1]at a;subst a;exact⟨_,rfl,.cons h .nil⟩
 |agg h=>simp[p1]at a;subst a;exact⟨_,rfl,h⟩
 |aY=>grind[p1]
theorem Hj{a:List (bm U)}{b c:List C}(h:a' (cc N J) cs b)(d:a' (cc N J) a c):a' (cc N J) (xp cs o a) (vc b o c):=by
 unfold xp vc;rw[d.length];exact((h.take o).append d).append (h.drop _)
theorem jN{a b:Nat}(h:Nat.ble a b=true):a<=b:=F1 h
theorem Ki(he:c6 N J G env env1)(aq:gP gl env G):∀{ps:List (Nat×Nat×aR)} {cs c:List (bm U)} {b:List C},zP gl gd env cs ps=some c->a' (cc N J) cs b->
 ∃p d,lr env1 b ps=some (p,d)/\a' (cc N J) c d/\(cC env G gd=true->p)
 |[],cs,c,b,h,a=>by simp[zP]at h;subst h;exact⟨True,b,rfl,a,λ_=>trivial⟩
 |(o,n,x)::r,cs,c,b,h,a=>by
  simp[zP]at h;split at h
  . grind
  . rename_i v k;split at h
    . grind
    . rename_i es j;split at h
      . rename_i e;simp only[c5]at e;have l:=c1 e.1;have m:=jN e.2;obtain⟨p,v1,a1,a2,a3⟩:=cn he aq k;obtain⟨fs,b1,b2⟩:=pH a2 j;obtain⟨q,d,f,g,i⟩:=Ki he aq h (Hj a b2);refine⟨p/\q,d,?_,g,λa=>⟨a3 a,i a⟩⟩;simp only[lr,a1,ao,b1];rw[ae ⟨by rw[<-b2.length];grind,by rw[<-a.length];grind⟩,f];rfl
      grind
theorem abv{d:C}{t:T}(h:cc N J x d)(ht:x.toT=some t):Shv.toT d=some t:=by
 cases h<;>simp[bm.toT]at ht
 . split at ht
   . grind
   . cases ht;rfl
 . subst ht;rfl
theorem Ab:∀{cs:List (bm U)} {a:List C} {ts:List T},a' (cc N J) cs a->hT cs=some ts->toTs a=some ts
 |[],[],ts,_,h=>by simp[hT]at h;subst h;rfl
 |c::cs,d::a,ts,.cons h1 b,h=>by
  simp[hT]at h;split at h
  . rename_i t f ht e;cases h;simp[toTs,abv h1 ht,Ab b e]
  grind
theorem Ii:∀{cs:List (bm U)} {ts:List T},hT cs=some ts->ts.length=cs.length
 |[],ts,h=>by grind[hT]
 |c::cs,ts,h=>by
  simp[hT]at h;split at h
  . rename_i t b ht a;cases h;simp[Ii a]
  grind
theorem a'.set{α c:Type}{R:α->c->Prop}{l:List α}{m:List c}(h:a' R l m){i:Nat}{a:α}{b:c}(f:R a b):a' R (l.set i a) (m.set i b):=by
 induction h generalizing i with
 |nil=>exact .nil
 |cons h1 e ih=>cases i with
  |zero=>exact .cons f e
  |succ i=>exact .cons h1 ih
theorem HJ(he:c6 N J G env env1)(aq:gP gl env G){sz:Nat}:∀{ps:List (Nat×aR)} {a b:List (List (bm U))} {es:List (List T)},w2 gl gd env sz a ps=some b->
 a' (λr e=>hT r=some e) a es->(∀r,r∈a->r.length=sz)->∃p c,jQ env1 sz es ps=some (p,c)/\a' (λr e=>hT r=some e) b c/\(∀r,r∈b->r.length=sz)/\(cC env G gd=true->p)
 |[],a,b,es,h,ag,af=>by simp[w2]at h;subst h;exact⟨True,es,rfl,ag,af,λ_=>trivial⟩
 |(i,x)::ps,a,b,es,h,ag,af=>by
  simp[w2]at h;split at h
  . grind
  . rename_i v o;split at h
    . grind
    . rename_i cs n;split at h
      . grind
      . rename_i ts g;split at h
        . rename_i d;simp only[c5]at d;have t:=c1 d.1;have u:=jN d.2;obtain⟨p,v1,a1,a2,a3⟩:=cn he aq o;obtain⟨s,b1,b2⟩:=pH a2 n;obtain⟨q,c,j,k,m,l⟩:=HJ he aq h (a'.set ag g) (by grind);refine⟨p/\q,c,?_,k,m,λf=>⟨a3 f,l f⟩⟩;simp only[jQ,a1,ao,b1,Ab b2 g];rw[ae ⟨by grind[Ii],by rw[<-ag.length];omega⟩,j];rfl
        grind
end
end
section
open Go
variable {U:cM}
structure dT (N:Nat)(J:bg U)(J1:ba)(o:cR)(env1:Env)(g c:Bool)(v:bJ U)(J':bg U):Prop where
 val:∃v1,cb (N+16) J' v v1/\(g=true->c=true->∃p bq,aQ o env1 J1 N=some (p,v1,bq)/\p/\cz (N+16) J' bq)
 aiQ:ds N J (N+16) J'
 ahG:o.neutral=true->J'=J
variable{v1:V}{o:cR}{agg neg:Bool}{cs:List (bm U)}{α:Type}{t:aL}{ts:List T}{op:BinOp}{J1:ba}{x y:aR}{off:Nat}{e:fY U}{es:List (List T)}{R:α->α->Prop}
section
variable {N N':Nat}{J J':bg U}{J1:ba}{env:bS U}{env1:Env}{G:Nat->Bool}{gl:eA}{gd:Option (Nat×Bool)}{c:Bool}{v:bJ U}
theorem cz.mono(h:cz N J J1)(cE:N<=N'):cz N' J J1:=λb x e=>
 let⟨h1,y,a,c⟩:=h b x e;⟨l9 h1 cE,y,a,c.mono (ds.more cE)⟩
theorem dT.neutral{g:Bool}(aI:cz N J J1)(j:cb N J v v1)(e:g=true->c=true->∃p,aQ o env1 J1 N=some (p,v1,J1)/\p):dT N J J1 o env1 g c v J:=
 ⟨⟨v1,j.mono (ds.more (by simp)),λaq f=>let⟨p,h1,a⟩:=e aq f;⟨p,J1,h1,a,aI.mono (by simp)⟩⟩,ds.more (by simp),λ_=>rfl⟩
theorem dT.store{g:Bool}(aH:o.neutral=false)(e:ds N J (N+16) J')(f:cb (N+16) J' v v1)(a:g=true->c=true->∃p bq,aQ o env1 J1 N=some (p,v1,bq)/\p/\cz (N+16) J' bq):dT N J J1 o env1 g c v J':=
 ⟨⟨v1,f,a⟩,e,λh=>by grind⟩
theorem wv{k o:Nat}{b:List C}(a:a' (cc N J) cs b)(h:rU agg k cs o=some v):∃v1,jW agg k b o=some v1/\cb N J v v1:=by
 unfold rU at h;split at h
 . split at h
   . cases h;refine⟨_,by simp only[jW,b5];rw[ae (by rw[<-a.length];simp_all)],.agg ((a.drop o).take k)⟩
   grind
 . split at h
   . rename_i x f;cases h;obtain⟨d,h1,e⟩:=a.get f;exact⟨_,by grind[jW],.c e⟩
   grind
theorem a'.map_map{c e j:Type}{R:e->j->Prop}{f:α->e}{g:c->j}:∀{l:List α} {m:List c},a' (λa b=>R (f a) (g b)) l m->a' R (l.map f) (m.map g)
 |[],[],_=>.nil
 |_::_,_::_,.cons h1 o=>.cons h1 (a'.map_map o)
theorem a'.self(h:∀a,R a a):∀(l:List α),a' R l l
 |[]=>.nil
 |a::l=>.cons (h a) (a'.self h l)
theorem Ac{x:t.den U.D}:a' (cc N J) ((t.row U x).map .t) ((t.enc U x).map .t):=by
 rw[aL.u',List.map_map];exact a'.map_map (a'.self (λc=>cc.t c) _)
theorem IJ{k o:Nat}{v:V}(af:jW agg k (ts.map .t) o=some v):loadT agg k ts o=some v:=by
 unfold jW at af;unfold loadT;cases agg<;>simp_all
theorem ZI{p q:Cell U.D}{r:Cell U.D}(h:Ij op p q=some (c,r)):∃d,qC op (p.enc U) (q.enc U)=some (d,r.enc U)/\(c=true->d):=by
 unfold Ij at h;split at h
 . rename_i k a e b;show ∃d,qC op (.int k a) (.int e b)=some (d,r.enc U)/\(c=true->d);cases op<;>simp only[Tt,reduceCtorEq,eG]at h
   all_goals first
    |(obtain⟨rfl,rfl,rfl⟩:=h;exact⟨_,by simp only[qC];rfl,λh=>by simpa using h⟩)
    |(obtain⟨rfl,rfl⟩:=h)
    |(obtain⟨rfl,rfl,rfl⟩:=h)
 . rename_i a b;cases op<;>simp only[Tu,dV]at h
   all_goals first
    |(obtain⟨rfl,rfl⟩:=h;exact⟨_,by rfl,λh=>by simpa using h⟩)
    |(obtain⟨rfl,rfl⟩:=h)
 . cases h
theorem ZJ{k:Nat}{x y:Cell U.D}{b:Bool}(h:Io k x y=some b):BM k (x.enc U) (y.enc U)=some b:=by
 unfold Io at h;split at h
 . cases h;rfl
 . simp at h;obtain⟨rfl,rfl⟩:=h;show(if _ then _ else _)=_;rw[ae rfl];rfl
 . cases h;rfl
 grind
theorem JR:∀{ks:a7} {xs c:List (bm U)} {a es:List C} {b:Bool},A7 ks xs c=some b->a' (cc N J) xs a->a' (cc N J) c es->l1 ks a es=some b
 |[],[],[],[],[],b,h,.nil,.nil=>by simp[A7]at h;subst h;rfl
 |k::ks,.t x::xs,.t y::c,d::a,e::es,b,h,.cons h1 f,.cons g i=>by
  simp[A7]at h;split at h
  . rename_i b1 r j ag;cases h;cases h1;cases g;simp[l1,ZJ j,JR ag f i]
  grind
theorem Y4{a b:ak}:(Bp a b).length=a.length+b.length:=cq
theorem ac0{a b:Int}:hK a b=true↔a=b:=by simp[hK]
theorem rQ{m:Int}{n:Nat}:aG m n=true↔0<=m/\m.toNat<n:=by simp[aG]
theorem ij{b a:Int}{n:Nat}:dN b a n=true↔0<=b/\b<=a/\a<=n:=by simp[dN]
theorem adQ{s:List (t.den U.D)}{l r:Option Int}{a pl b:Prop}{sz:Nat}:
 (some (a/\pl/\b/\0<=l.getD 0/\l.getD 0<=r.getD ((List.map (t.enc U) s).length:Int)/\r.getD ((List.map (t.enc U) s).length:Int)<=((List.map (t.enc U) s).length:Int)/\∀e,e∈List.map (t.enc U) s->e.length=sz,
  V.c (C.t (T.slice (((List.map (t.enc U) s).take (r.getD ((List.map (t.enc U) s).length:Int)).toNat).drop (l.getD 0).toNat))),J1):Bb)=
 some (a/\pl/\b/\0<=l.getD 0/\l.getD 0<=r.getD (s.length:Int)/\r.getD (s.length:Int)<=(s.length:Int)/\∀e,e∈List.map (t.enc U) s->e.length=sz,
  V.c (C.t (Cell.enc U ⟨.slice t,dZ s (l.getD 0) (r.getD (s.length:Int))⟩)),J1):=by
 have:Cell.enc U ⟨.slice t,dZ s (l.getD 0) (r.getD s.length)⟩=T.slice (List.map (t.enc U) _):=rfl;grind[dZ,List.map_drop,List.map_take]
variable{a:Type}{f:α->a}
theorem adR{l:List α}{p:Prop}:(some (p,V.c (C.t (T.int .i64 ((l.map f).length:Int))),J1):Bb)=some (p,V.c (C.t (.int .i64 (l.length:Int))),J1):=by simp
theorem w3{l:List α}{i:Nat}(h:i<l.length):i<(l.map f).length:=by grind
theorem a'.replicate{c:Type}{R:α->c->Prop}{a:α}{b:c}(h:R a b):∀n:Nat,a' R (List.replicate n a) (List.replicate n b)
 |0=>.nil
 |n+1=>.cons h (a'.replicate h n)
theorem Gv:∀{xs:List (bm U)} {dq:List aL} {es:List C} {row:List (Cell U.D)},iF dq xs=some row->a' (cc N J) xs es->toTs es=some (row.map (Cell.enc U))
 |[],dq,es,row,h1,a=>by
  cases a;cases dq<;>simp[iF]at h1;subst h1;rfl
 |y::e,[],es,row,h1,a=>by grind[iF]
 |y::e,ty::dq,_::_,row,h1,.cons a d=>by
  cases a with
  |t c=>cases ty<;>simp only[iF]at h1<;>(split at h1<;>first|(cases h1;done)|(rename_i q b;cases h1;simp[toTs,toT,Gv b d]))
  |aA=>
   cases ty<;>simp[iF]at h1;split at h1
   . rename_i q b;cases h1;simp[toTs,Gv b d];rfl
   grind
  |_=>grind[iF]
theorem JY{sz:Nat}:∀{ps:List (Nat×aR)} {es c:List (List T)} {p:Prop},jQ env1 sz es ps=some (p,c)->c.length=es.length
 |[],es,c,p,h=>by grind[jQ]
 |(i,x)::ps,es,c,p,h=>by
  simp only[jQ,bn,eG,bz]at h;obtain⟨a,_,cs,_,ts,_,_,b,d,_,rfl⟩:=h;have:=JY d;grind
theorem Ik{l m:List (t.den U.D)}{i o:Nat}{e:List C}(h:sj U t l i o cs=some m)(s:i<l.length)(j:a' (cc N J) cs e)(y:o+cs.length<=t.sz U):
 ∃ts,toTs e=some ts/\m.map (t.enc U)=(l.map (t.enc U)).set i ((el (l.map (t.enc U)) i).take o++ts++(el (l.map (t.enc U)) i).drop (o+cs.length)):=by
 unfold sj at h;split at h
 . rename_i x d;cases h;unfold qv at d;split at d
   . rename_i row u;have ag:=aL.FN d;have key:=@Gv U N J;have v:a' (cc N J) ((t.row U (t.at U l i)).map .t) _:=Ac;have n:=Hj (o:=o) v j;have h1:=key u n;have g:∀{a b:List C} {r:List T},toTs (a++b)=some r->∃p q,toTs a=some p/\toTs b=some q/\r=p++q:=by
      intro a;induction a with
      |nil=>intro b r h;exact⟨[],r,rfl,h,rfl⟩
      |cons c a ih=>
       intro b r h;simp[toTs,bn,bz]at h;grind[toTs]
     have k:∀(ts:List T),toTs (ts.map .t)=some ts:=by
      intro ts;induction ts with
      |nil=>rfl
      |cons a ts ih=>grind[toTs,toT]
     obtain⟨p,q,aN,f,dx⟩:=g h1;obtain⟨z,w,f1,f2,f3⟩:=g aN;rw[<-List.map_take,k]at f1;cases f1;rw[<-List.map_drop,k]at f;cases f;refine⟨w,f2,?_⟩;rw[List.map_set,zO s,aL.u',ag,dx,f3,j.length]
   grind
 grind
variable (he:c6 N J G env env1)(aq:gP gl env G)(aI:cz N J J1)
section
include he aq aI
theorem aiA(h:cr gl gd env J N (.mov x)=some (c,v,J')):dT N J J1 (.mov x) env1 (cC env G gd) c v J':=by
 simp[cr]at h;split at h
 . rename_i w b;cases h;obtain⟨p,v1,a1,a2,a3⟩:=cn he aq b;exact .neutral aI a2 λa _=>⟨p,by grind[aQ],a3 a⟩
 grind
theorem adS{z:aR}(h:cr gl gd env J N (.pick x y z)=some (c,v,J')):dT N J J1 (.pick x y z) env1 (cC env G gd) c v J':=by
 simp[cr]at h;split at h
 . rename_i b p q h1 g i;cases h;obtain⟨j,v1,a1,a2,a3⟩:=cn he aq h1;obtain⟨k,m,b1,b2,b3⟩:=Lu he aq h1 rfl g;obtain⟨l,v3,d,e,f⟩:=Lu he aq h1 rfl i;have:=a2.jk;subst this;have:=b2.jk;subst this;have:=e.jk;subst this;refine .neutral aI (.c (.t _)) λa _=>⟨j/\(b=true->k)/\(b=false->l),by simp only[aQ,a1,b1,d];rfl,a3 a,b3 a,f a⟩
 grind
theorem ZK(h:cr gl gd env J N (.nilCheck x)=some (c,v,J')):dT N J J1 (.nilCheck x) env1 (cC env G gd) c v J':=by
 simp[cr]at h;split at h
 . rename_i b o d;cases h;obtain⟨p,v1,a1,a2,a3⟩:=cn he aq d;have:=a2.hS;subst this;exact .neutral aI a2 λa _=>⟨p,by simp[aQ,a1],a3 a⟩
 . rename_i b t i o d;cases h;obtain⟨p,v1,a1,a2,a3⟩:=cn he aq d;have:=a2.iZ;subst this;exact .neutral aI a2 λa _=>⟨p,by simp[aQ,a1],a3 a⟩
 . rename_i t e o d;cases h;obtain⟨p,v1,a1,a2,a3⟩:=cn he aq d;have:=a2.FF;subst this;exact .neutral aI a2 λa _=>⟨p,by simp[aQ,a1],a3 a⟩
 grind
theorem aiB(h:cr gl gd env J N (.not x)=some (c,v,J')):dT N J J1 (.not x) env1 (cC env G gd) c v J':=by
 simp[cr]at h;split at h
 . rename_i b d;cases h;obtain⟨p,v1,a1,a2,a3⟩:=cn he aq d;have:=a2.jk;subst this;exact .neutral aI (.c (.t _)) λa _=>⟨p,by simp[aQ,a1];rfl,a3 a⟩
 grind
theorem adT{k:IntKind}(h:cr gl gd env J N (.conv k x)=some (c,v,J')):dT N J J1 (.conv k x) env1 (cC env G gd) c v J':=by
 simp only[cr]at h;split at h
 . rename_i d m b;cases h;obtain⟨p,v1,a1,a2,a3⟩:=cn he aq b;have:=a2.fA;subst this;exact .neutral aI (.c (.t _)) λa _=>⟨p,by simp[aQ,a1];rfl,a3 a⟩
 grind
theorem aiy(h:cr gl gd env J N (.i2s x)=some (c,v,J')):dT N J J1 (.i2s x) env1 (cC env G gd) c v J':=by
 simp[cr]at h;split at h
 . rename_i d m b;cases h;obtain⟨p,v1,a1,a2,a3⟩:=cn he aq b;have:=a2.fA;subst this;exact .neutral aI (.c (.t _)) λa _=>⟨p,by simp[aQ,a1];rfl,a3 a⟩
 grind
theorem aiC(h:cr gl gd env J N (.s2s x)=some (c,v,J')):dT N J J1 (.s2s x) env1 (cC env G gd) c v J':=by
 simp[cr]at h;split at h
 . rename_i s b;cases h;obtain⟨p,v1,a1,a2,a3⟩:=cn he aq b;have:=a2.kq;subst this;exact .neutral aI a2 λa _=>⟨p,by simp[aQ,a1],a3 a⟩
 grind
theorem adU(h:cr gl gd env J N (.fldA off x)=some (c,v,J')):dT N J J1 (.fldA off x) env1 (cC env G gd) c v J':=by
 simp[cr]at h;split at h
 . rename_i b o d;cases h;obtain⟨p,v1,a1,a2,a3⟩:=cn he aq d;have:=a2.hS;subst this;exact .neutral aI (.c (.ptr _ _)) λa _=>⟨p,by simp[aQ,a1],a3 a⟩
 . rename_i b t i o d;cases h;obtain⟨p,v1,a1,a2,a3⟩:=cn he aq d;have:=a2.iZ;subst this;exact .neutral aI (.c (.cJ _ _ _ _)) λa _=>⟨p,by simp[aQ,a1],a3 a⟩
 . rename_i t e o d;cases h;obtain⟨p,v1,a1,a2,a3⟩:=cn he aq d;have:=a2.FF;subst this;exact .neutral aI (.c (.dM _ _ _)) λa _=>⟨p,by simp[aQ,a1],a3 a⟩
 grind
theorem aix{k:Nat}(h:cr gl gd env J N (.fld agg off k x)=some (c,v,J')):dT N J J1 (.fld agg off k x) env1 (cC env G gd) c v J':=by
 simp[cr]at h;split at h
 . rename_i cs d;split at h
   . rename_i w af;cases h;obtain⟨p,v1,a1,a2,a3⟩:=cn he aq d;obtain⟨f,rfl,b2⟩:=a2.mz;obtain⟨g,e,a⟩:=wv b2 af;exact .neutral aI a λb _=>⟨p,by grind[aQ],a3 b⟩
   grind
 grind
theorem adV{k:Nat}(h:cr gl gd env J N (.load agg k x)=some (c,v,J')):dT N J J1 (.load agg k x) env1 (cC env G gd) c v J':=by
 simp only[cr]at h;split at h
 . rename_i b o j;split at h
   . rename_i cs g;split at h
     . rename_i w af;cases h;obtain⟨p,v1,a1,a2,a3⟩:=cn he aq j;have:=a2.hS;subst this;obtain⟨_,y,b1,b2⟩:=aI b _ g;cases b2 with
       |box b2=>
        obtain⟨s,d,m⟩:=wv b2 af;exact .neutral aI m λa _=>⟨p,by simp[aQ,a1,b1,d],a3 a⟩
     . cases h
   . rename_i E z g;split at h
     . cases h;obtain⟨p,v1,a1,a2,a3⟩:=cn he aq j;have:=a2.hS;subst this;obtain⟨_,y,b1,b2⟩:=aI b _ g;cases b2 with
       |b9 b2=>exact .neutral aI (.c b2) λa _=>⟨p,by simp[aQ,a1,b1],a3 a⟩
     . cases h
   . cases h
 . rename_i b t i o j;split at h
   . rename_i u B g;split at h
     . rename_i l af;have e:=Cell.j7 af;split at h
       . rename_i w q;cases h;obtain⟨p,v1,a1,a2,a3⟩:=cn he aq j;have:=a2.iZ;subst this;obtain⟨_,y,b1,b2⟩:=aI b _ g;cases b2 with
         |arr=>
          obtain⟨s,d,m⟩:=wv Ac q;refine .neutral aI m λa f=>⟨p/\t.sz U=t.sz U/\i<(List.map (t.enc U) l).length,?_,a3 a,rfl,w3 (gM f)⟩
          simp only[eT]at f;grind[IJ,aQ,zO]
       . cases h
     . cases h
   . rename_i u B A C z g;split at h
     . cases h
     . split at h
       . rename_i n;split at h
         . rename_i r;cases h;have n:=c1 n;have r:=c1 r;subst n;obtain⟨p,v1,a1,a2,a3⟩:=cn he aq j;have:=a2.iZ;subst this;obtain⟨_,y,b1,b2⟩:=aI b _ g;cases b2 with
           |cA _ _ _ _ b2=>
            refine .neutral aI (.c b2) λa f=>⟨p/\t.sz U=u.sz U/\i=A,?_,a3 a,r,gM f⟩
            simp only[aQ,a1,ao,b1];simp
         . cases h
       . rename_i n;have n:=iD n;split at h
         . rename_i l af;have e:=Cell.j7 af;cases e;split at h
           . rename_i w q;cases h;obtain⟨p,v1,a1,a2,a3⟩:=cn he aq j;have:=a2.iZ;subst this;obtain⟨_,y,b1,b2⟩:=aI b _ g;cases b2 with
             |cA _ _ _ _ b2=>
              obtain⟨s,d,m⟩:=wv Ac q;refine .neutral aI m λa f=>⟨p/\t.sz U=t.sz U/\i<(List.map (t.enc U) l).length,?_,a3 a,rfl,w3 (gM f)⟩
              simp only[eT]at f;have d:=IJ d;simp only[aQ,a1,ao,b1];rw[bw,al n,zO f,d];rfl
           . cases h
         . cases h
   . cases h
 . rename_i t D o j;split at h
   . rename_i w af;cases h;obtain⟨p,v1,a1,a2,a3⟩:=cn he aq j;have:=a2.FF;subst this;obtain⟨s,d,m⟩:=wv Ac af;have d:=IJ d;exact .neutral aI m λa _=>⟨p,by simp[aQ,a1,d],a3 a⟩
   . cases h
 grind
theorem aiu(h:cr gl gd env J N (.bin op x y)=some (c,v,J')):dT N J J1 (.bin op x y) env1 (cC env G gd) c v J':=by
 simp[cr]at h;split at h
 . rename_i p q d e;split at h
   . rename_i j r ag;cases h;obtain⟨f,v1,a1,a2,a3⟩:=cn he aq d;obtain⟨g,k,b1,b2,b3⟩:=cn he aq e;have:=a2.xe;have:=b2.xe;obtain⟨i,d1,d2⟩:=ZI ag;exact .neutral aI (.c (.t _)) λa b=>⟨f/\g/\i,by grind[aQ],a3 a,b3 a,d2 b⟩
   grind
 grind
theorem ac1{ks:a7}(h:cr gl gd env J N (.eqAgg neg ks x y)=some (c,v,J')):dT N J J1 (.eqAgg neg ks x y) env1 (cC env G gd) c v J':=by
 simp[cr]at h;split at h
 . rename_i p q d e;split at h
   . rename_i r ag;cases h;obtain⟨f,v1,a1,a2,a3⟩:=cn he aq d;obtain⟨g,k,b1,b2,b3⟩:=cn he aq e;obtain⟨i,rfl,d2⟩:=a2.mz;obtain⟨es,rfl,b⟩:=b2.mz;have:=JR ag d2 b;exact .neutral aI (.c (.t _)) λa j=>⟨f/\g,by simp[aQ,a1,b1,this];cases neg<;>rfl,a3 a,b3 a⟩
   . cases h
 . cases h
theorem ab2(h:cr gl gd env J N (.eqBool neg x y)=some (c,v,J')):dT N J J1 (.eqBool neg x y) env1 (cC env G gd) c v J':=by
 simp[cr]at h;split at h
 . rename_i p q b d;cases h;obtain⟨e,v1,a1,a2,a3⟩:=cn he aq b;obtain⟨f,i,b1,b2,b3⟩:=cn he aq d;have:=a2.jk;subst this;have:=b2.jk;subst this;exact .neutral aI (.c (.t _)) λa g=>⟨e/\f,by simp only[aQ,a1,b1];cases neg<;>rfl,a3 a,b3 a⟩
 grind
theorem adW{sz:Nat}(h:cr gl gd env J N (.idxA sz x y)=some (c,v,J')):dT N J J1 (.idxA sz x y) env1 (cC env G gd) c v J':=by
 simp[cr]at h;split at h
 . rename_i t l k m g i;split at h
   . rename_i d;have d:=c1 d;cases h;obtain⟨j,v1,a1,a2,a3⟩:=cn he aq g;obtain⟨o,q,b1,b2,b3⟩:=cn he aq i;have:=a2.kp;subst this;have:=b2.fA;subst this;by_cases ag:aG m (List.length l)=true
     . obtain⟨h1,f⟩:=rQ.1 ag;refine .neutral aI (v1:= .c (.dM (el (List.map (t.enc U) l) (Int.toNat m)) 0)) ?_ λa e=>⟨j/\o/\(0:Int)<=m/\Int.toNat m<(List.map (t.enc U) l).length/\(el (List.map (t.enc U) l) (Int.toNat m)).length=sz,by simp only[aQ,a1,b1,ao],a3 a,b3 a,h1,w3 f,by rw[zO f,aL.sL];exact d⟩
       rw[zO f];exact .c (.dM _ _ _)
     . exact .neutral aI (.c (.dM _ _ _)) λa e=>absurd e ag
   . cases h
 . rename_i b k m g i;split at h
   . rename_i t l p;split at h
     . rename_i d;have d:=c1 d;cases h;obtain⟨j,v1,a1,a2,a3⟩:=cn he aq g;obtain⟨o,q,b1,b2,b3⟩:=cn he aq i;obtain⟨s,n,rfl,r,a⟩:=a2.hc;have:=b2.fA;subst this;have:=a _ p _ rfl;cases this;refine .neutral aI (.c (.cJ _ _ _ _)) λa e=>⟨j/\o/\(0:Int)<=m/\Int.toNat m<l.length/\sz=t.sz U,?_,a3 a,b3 a,(rQ.1 e).1,(rQ.1 e).2,d.symm⟩
       simp only[aQ,a1,b1,ao,h7,d]
     . cases h
   . cases h
 grind
theorem adX(h:cr gl gd env J N (.idxS x y)=some (c,v,J')):dT N J J1 (.idxS x y) env1 (cC env G gd) c v J':=by
 simp[cr]at h;split at h
 . rename_i s k m d e;cases h;obtain⟨f,v1,a1,a2,a3⟩:=cn he aq d;obtain⟨g,i,b1,b2,b3⟩:=cn he aq e;have:=a2.kq;subst this;have:=b2.fA;subst this;exact .neutral aI (.c (.t _)) λb a=>⟨f/\g/\(0:Int)<=m/\Int.toNat m<List.length s,by simp only[aQ,a1,b1];rfl,a3 b,b3 b,(rQ.1 a).1,(rQ.1 a).2⟩
 grind
theorem pI{x:Option aR}{l:Option Int}(h:ov gl gd env x=some l):∃p,jV env1 x=some (p,l)/\(cC env G gd=true->p):=by
 unfold ov at h;split at h
 . cases h;exact⟨True,rfl,λ_=>trivial⟩
 . split at h
   . rename_i k n a;cases h;obtain⟨b,v1,a1,a2,a3⟩:=cn he aq a;have:=a2.fA;subst this;exact⟨b,by simp[jV,a1],a3⟩
   grind
theorem adY{d b:Option aR}(h:cr gl gd env J N (.slcS x d b)=some (c,v,J')):dT N J J1 (.slcS x d b) env1 (cC env G gd) c v J':=by
 simp[cr]at h;split at h
 . rename_i s l r f af ag;cases h;obtain⟨i,v1,a1,a2,a3⟩:=cn he aq f;obtain⟨pl,g,l2⟩:=pI he aq aI af;obtain⟨j,k,m⟩:=pI he aq aI ag;have:=a2.kq;subst this;exact .neutral aI (.c (.t _)) λa e=>⟨i/\pl/\j/\0<=l.getD 0/\l.getD 0<=r.getD _/\r.getD _<=List.length s,by simp[aQ,a1,g,k];rfl,a3 a,l2 a,m a,ij.1 e⟩
 grind
theorem aiD{sz:Nat}{j B:Option aR}(h:cr gl gd env J N (.slc sz x j B)=some (c,v,J')):dT N J J1 (.slc sz x j B) env1 (cC env G gd) c v J':=by
 simp only[cr]at h;split at h
 . rename_i t s l r g af ag;split at h
   . rename_i d;have d:=c1 d;cases h;obtain⟨k,v1,a1,a2,a3⟩:=cn he aq g;obtain⟨pl,z,l2⟩:=pI he aq aI af;obtain⟨m,q,o⟩:=pI he aq aI ag;have:=a2.kp;subst this;refine .neutral aI (.c (.t (U:=U) ⟨.slice t,_⟩)) λf a=>⟨k/\pl/\m/\0<=l.getD 0/\l.getD 0<=r.getD (List.length s:Int)/\r.getD (List.length s:Int)<=(List.length s:Int)/\∀e,e∈List.map (t.enc U) s->e.length=sz,?_,a3 f,l2 f,o f,(ij.1 a).1,(ij.1 a).2.1,(ij.1 a).2.2,?_⟩
     . simp only[aQ,a1,z,q,ao];exact adQ
     grind[aL.sL]
   grind
 . rename_i b r g af ag;split at h
   . rename_i t s u;split at h
     . rename_i d;have d:=c1 d;cases h;obtain⟨k,v1,a1,a2,a3⟩:=cn he aq g;obtain⟨m,q,o⟩:=pI he aq aI ag;obtain⟨D,n,rfl,w,f⟩:=a2.hc;have A:=f _ u (t.sz U,s.length) rfl;have y:j=none:=by
        cases j with
        |none=>rfl
        |some x=>grind[ov]
       subst y;refine .neutral aI (.c (.pre b (t.sz U) _ w λx C p g=>?_)) λi a=>⟨k/\True/\m/\0<=(none:Option Int).getD 0/\(none:Option Int).getD 0<=r.getD (List.length s:Int)/\r.getD (List.length s:Int)<=(List.length s:Int)/\sz=t.sz U,?_,a3 i,trivial,o i,(ij.1 a).1,(ij.1 a).2.1,(ij.1 a).2.2,d.symm⟩
       . grind
       . have E:jV env1 none=some (True,none):=rfl;grind[aQ]
     grind
   grind
 . rename_i b l r g af ag;split at h
   . rename_i t s u;split at h
     . rename_i d;have d:=c1 d;cases h;obtain⟨k,v1,a1,a2,a3⟩:=cn he aq g;obtain⟨pl,z,l2⟩:=pI he aq aI af;obtain⟨m,q,o⟩:=pI he aq aI ag;obtain⟨D,n,rfl,w,f⟩:=a2.hc;have A:=f _ u (t.sz U,s.length) rfl;obtain⟨rfl,rfl⟩:=A;have y:j.isNone=false:=by
        cases j with
        |none=>simp[ov]at af
        |some x=>rfl
       refine .neutral aI (.c (.dO b (t.sz U) _ _ w λx C p g=>?_)) λi a=>⟨k/\pl/\m/\0<=(some l:Option Int).getD 0/\(some l:Option Int).getD 0<=r.getD (List.length s:Int)/\r.getD (List.length s:Int)<=(List.length s:Int)/\sz=t.sz U,?_,a3 i,l2 i,o i,(ij.1 a).1,(ij.1 a).2.1,(ij.1 a).2.2,d.symm⟩
       . grind
       . simp only[aQ,a1,z,q,ao,y,bY,b6,h7];rfl
     grind
   grind
 grind
theorem adZ(h:cr gl gd env J N (.slc0 x)=some (c,v,J')):dT N J J1 (.slc0 x) env1 (cC env G gd) c v J':=by
 simp[cr]at h;split at h
 . rename_i t l d;cases h;obtain⟨p,v1,a1,a2,a3⟩:=cn he aq d;have:=a2.kp;subst this;exact .neutral aI (.c .aA) λa _=>⟨p,by simp[aQ,a1],a3 a⟩
 . rename_i d;cases h;obtain⟨p,v1,a1,a2,a3⟩:=cn he aq d;have:=a2.u2;subst this;exact .neutral aI (.c .aA) λa _=>⟨p,by simp[aQ,a1],a3 a⟩
 . rename_i b d;cases h;obtain⟨p,v1,a1,a2,a3⟩:=cn he aq d;obtain⟨sz,n,rfl,_⟩:=a2.hc;exact .neutral aI (.c .aA) λa _=>⟨p,by simp[aQ,a1],a3 a⟩
 grind
theorem JS:∀{vs:List (bJ U)} {a:List V} {l:a7},A5 vs=some l->a' (cb N J) vs a->aQ.sD a=some l
 |[],[],l,h,.nil=>by simp[A5]at h;subst h;rfl
 |.c (.ptr b 0)::vs,d::a,l,h,.cons h1 e=>by
  simp only[A5]at h;split at h
  . rename_i f af;cases h;have:=h1.hS;subst this;simp[aQ.sD,JS af e]
  grind
theorem ad0{f:Nat}{caps:List aR}(h:cr gl gd env J N (.mkfn f caps)=some (c,v,J')):dT N J J1 (.mkfn f caps) env1 (cC env G gd) c v J':=by
 simp[cr]at h;split at h
 . rename_i vs b;split at h
   . rename_i l af;cases h;obtain⟨p,d,a1,a2,a3⟩:=tE he aq b;exact .neutral aI (.c (.fn _ _)) λa _=>⟨p,by simp[aQ,a1,JS he aq aI af a2],a3 a⟩
   . cases h
 grind
theorem aiw{i:Nat}(h:cr gl gd env J N (.ext x i)=some (c,v,J')):dT N J J1 (.ext x i) env1 (cC env G gd) c v J':=by
 simp[cr]at h;split at h
 . rename_i vs f;split at h
   . rename_i w a;cases h;obtain⟨p,v1,a1,a2,a3⟩:=cn he aq f;cases a2 with
     |aY _ b af d=>
      have g:=(dS.1 a).1;have e:=e9 (l:=b) (i:=i) (by omega);exact .neutral aI (d i _ _ a e) λaq _=>⟨p,by grind[aQ],a3 aq⟩
   grind
 grind
theorem ad1(h:cr gl gd env J N (.max2 x y)=some (c,v,J')):dT N J J1 (.max2 x y) env1 (cC env G gd) c v J':=by
 simp only[cr]at h;split at h
 . rename_i k a l b e f;simp at h;obtain⟨rfl,rfl,rfl,rfl⟩:=h;obtain⟨g,v1,a1,a2,a3⟩:=cn he aq e;obtain⟨i,m,b1,b2,b3⟩:=cn he aq f;have:=a2.fA;subst this;have:=b2.fA;subst this;exact .neutral aI (.c (.t (U:=U) _)) λd j=>⟨g/\i,by simp[aQ,a1,b1];rfl,a3 d,b3 d⟩
 grind
theorem ad2(h:cr gl gd env J N (.min2 x y)=some (c,v,J')):dT N J J1 (.min2 x y) env1 (cC env G gd) c v J':=by
 simp[cr]at h;split at h
 . rename_i k a l b e f;simp at h;obtain⟨rfl,rfl,rfl,rfl⟩:=h;obtain⟨g,v1,a1,a2,a3⟩:=cn he aq e;obtain⟨i,m,b1,b2,b3⟩:=cn he aq f;have:=a2.fA;subst this;have:=b2.fA;subst this;exact .neutral aI (.c (.t _)) λd j=>⟨g/\i,by simp only[aQ,a1,b1,ao];rfl,a3 d,b3 d⟩
 grind
theorem ac2{z:List C}{parts:List (Nat×Nat×aR)}(h:cr gl gd env J N (.build z parts)=some (c,v,J')):dT N J J1 (.build z parts) env1 (cC env G gd) c v J':=by
 simp[cr]at h;split at h
 . rename_i f d;split at h
   . rename_i cs a;cases h;obtain⟨p,e,a1,a2,a3⟩:=Ki he aq a (q' d);exact .neutral aI (.agg a2) λb _=>⟨p,by grind[aQ],a3 b⟩
   grind
 grind
theorem ac3{cs:List C}(h:cr gl gd env J N (.alloc cs)=some (c,v,J')):dT N J J1 (.alloc cs) env1 (cC env G gd) c v J':=by
 simp[cr]at h;split at h
 . rename_i xs a;cases h;have k:ds N J (N+16) (cF J N (.box xs)):=lo;exact .store rfl k (.c (.ptr _ _)) λb _=>⟨True,_,rfl,trivial,aI.put (by simp) k (.box (q' a))⟩
 grind
theorem aiv(h:cr gl gd env J N (.box x)=some (c,v,J')):dT N J J1 (.box x) env1 (cC env G gd) c v J':=by
 simp[cr]at h;split at h
 . rename_i w d;split at h
   . rename_i cs a;cases h;obtain⟨p,v1,a1,a2,a3⟩:=cn he aq d;obtain⟨e,b1,b2⟩:=pH a2 a;have k:ds N J (N+16) (cF J N (.box cs)):=lo;exact .store rfl k (.c (.ptr _ _)) λb _=>⟨p,_,by grind[aQ],a3 b,aI.put (by simp) k (.box (b2.imp λ_ _ _=>cc.mono k))⟩
   grind
 grind
theorem ab3{sz len:Nat}{z:List C}{parts:List (Nat×aR)}(h:cr gl gd env J N (.bslice sz len z parts)=some (c,v,J')):dT N J J1 (.bslice sz len z parts) env1 (cC env G gd) c v J':=by
 simp[cr]at h;split at h
 . rename_i l i;split at h
   . cases h
   . rename_i ts d;split at h
     . grind
     . rename_i a;have a:=c1 a;split at h
       . rename_i rows ag;cases h;have j:=q' (N:=N) (J:=J) i;obtain⟨p,es,a1,a2,a4,a3⟩:=HJ he aq ag (a'.replicate (R:=λr e=>hT r=some e) d _) (by intro r ag;rw[FT ag];exact a);have k:ds N J (N+16) (cF J N (.rows sz rows)):=lo (by omega);refine .store rfl k (.c (.arr N sz es.length (by omega) ?_)) λg _=>⟨p,_,by simp[aQ,Ab j d,ao,a1,mf];rw[JY a1,List.length_replicate],a3 g,aI.put (by omega) k (.rows a2 a4)⟩
         intro x f q b;rw[hP,ae rfl]at f;cases f;simp[cS.dh]at b;rw[<-b,a2.length]
       . cases h
 grind
omit he aq aI in
theorem abw{a:List C}(h:toTs a=some ts):yP a=none:=by
 unfold yP;grind[toTs,toT]
omit he aq aI in
theorem ab4{J1:ba}{w:bJ U}{d:V}(h:cb N J w d)(e:∀b a len,w≠.c (.dO b a len))(f:∀b a len,w≠.c (.sub b a len))(g:w≠.c .dead):oP v1 d=none:=by
 unfold oP;split
 . cases h with
   |c h=>
    cases h<;>grind
 rfl
theorem ac4{k:Nat}(h:cr gl gd env J N (.store k x y)=some (c,v,J')):dT N J J1 (.store k x y) env1 (cC env G gd) c v J':=by
 simp only[cr]at h;split at h
 . rename_i b o w j A;split at h
   . rename_i cs s;split at h
     . rename_i B;have B:=c1 B;split at h
       . rename_i aa D;split at h
         . rename_i X;have X:=jN X;cases h;obtain⟨p,v1,a1,a2,a3⟩:=cn he aq j;obtain⟨q,K,b1,b2,b3⟩:=cn he aq A;have:=a2.hS;subst this;obtain⟨es,g,d⟩:=pH b2 s;obtain⟨C,z,d1,d2⟩:=aI b _ D;cases d2 with
           | @box _ fs d2=>
            have a:ds N J (N+16) (cF J b (.box (xp aa o cs))):=n0 (by simp) D (λp h=>by grind[cS.dh]);refine .store rfl a (.aY [] [] rfl (by simp)) λf _=>⟨p/\q,_,?_,⟨a3 f,b3 f⟩,aI.put (by omega) a (.box (Hj (d2.imp λ_ _ _=>cc.mono a) (d.imp λ_ _ _=>cc.mono a)))⟩
            simp only[aQ,a1,b1,ao,g];rw[ae (by rw[<-d.length];grind),d1];dsimp only;rw[ae (by rw[<-d2.length];grind)]
         grind
       . rename_i E L D;split at h
         . rename_i L _;cases h;obtain⟨p,v1,a1,a2,a3⟩:=cn he aq j;obtain⟨q,K,b1,b2,b3⟩:=cn he aq A;have:=a2.hS;obtain⟨es,g,d⟩:=pH b2 s;obtain⟨C,z,d1,d2⟩:=aI b _ D;cases d2 with
           |b9 d2=>
            cases d with|cons d n=>
            cases n;have a:ds N J (N+16) (cF J b (.b9 E L)):=n0 (by simp) D (λp h=>by grind[cS.dh]);refine .store rfl a (.aY [] [] rfl (by simp)) λf _=>⟨p/\q,_,?_,⟨a3 f,b3 f⟩,aI.put (by omega) a (.b9 (d.mono a))⟩
            simp only[aQ,a1,b1,ao,g];grind
         grind
       grind
     grind
   grind
 . rename_i b t i o w j A;split at h
   . rename_i cs s;split at h
     . rename_i B;simp only[c5]at B;have S:=c1 B.1;have O:=jN B.2;split at h
       . rename_i Q V m;split at h
         . rename_i l af;have e:=Cell.j7 af;cases e;split at h
           . rename_i M ag;cases h;obtain⟨rfl,R,rfl⟩:cs=[M]/\∃R,M= .arr R:=by
              unfold S1 at ag;grind
             obtain⟨p,v1,a1,a2,a3⟩:=cn he aq j;obtain⟨q,K,b1,b2,b3⟩:=cn he aq A;have:=a2.iZ;obtain⟨es,g,d⟩:=pH b2 s;cases d with|cons d n=>
             cases n;have Z:=d;cases d with|arr _ an am aj ak=>
             obtain⟨C,z,d1,d2⟩:=aI b _ m;cases d2 with
             |arr=>
              have a:ds N J (N+16) (cF J b (.cA t l i o (.arr R))):=n0 (by simp) m (λp h=>by grind[cS.dh]);refine .store rfl a (.aY [] [] rfl (by simp)) λf r=>⟨p/\q/\t.sz U=t.sz U/\i<(List.map (t.enc U) l).length/\o+k<=t.sz U,_,?_,⟨a3 f,b3 f,rfl,w3 (gM r),O⟩,aI.put (by omega) a (.cA t l i o (Z.mono a))⟩
              simp only[aQ,a1,b1,ao,g];simp_all[ae,yP]
           split at h
           . rename_i l2 P;cases h;obtain⟨p,v1,a1,a2,a3⟩:=cn he aq j;obtain⟨q,K,b1,b2,b3⟩:=cn he aq A;have:=a2.iZ;subst this;obtain⟨es,g,d⟩:=pH b2 s;obtain⟨C,z,d1,d2⟩:=aI b _ m;cases d2 with
             |arr=>
              have ad:l2.length=List.length l:=by
               grind[sj]
              have a:ds N J (N+16) (cF J b (.arr t l2)):=n0 (by simp) m (λp h=>by
               grind[cS.dh])
              refine .store rfl a (.aY [] [] rfl (by simp)) λf r=>?_;have F:i<List.length l:=gM r;obtain⟨ts,aN,ab⟩:=Ik P F d (by grind);refine⟨p/\q/\t.sz U=t.sz U/\i<(List.map (t.enc U) l).length/\o+k<=t.sz U,_,?_,⟨a3 f,b3 f,rfl,w3 F,O⟩,aI.put (by omega) a (.arr t l2)⟩;simp only[aQ,a1,b1,ao,g];rw[ae (by rw[<-d.length];grind),d1];grind[abw]
           grind
         grind
       . rename_i Q V H Y L m;split at h
         . rename_i M;split at h
           . rename_i u;split at h
             . rename_i T;cases h;have u:=c1 u;have T:=c1 T;subst u;obtain⟨p,v1,a1,a2,a3⟩:=cn he aq j;obtain⟨q,K,b1,b2,b3⟩:=cn he aq A;have:=a2.iZ;subst this;obtain⟨es,g,d⟩:=pH b2 s;cases d with|cons d n=>
               cases n;obtain⟨C,z,d1,d2⟩:=aI b _ m;cases d2 with
               |cA _ _ _ _ d2=>
                have a:ds N J (N+16) (cF J b (.cA Q V H o M)):=n0 (by simp) m (λp h=>by grind[cS.dh]);refine .store rfl a (.aY [] [] rfl (by simp)) λf r=>⟨p/\q/\t.sz U=Q.sz U/\i=H,_,?_,⟨a3 f,b3 f,T,gM r⟩,aI.put (by omega) a (.cA Q V H o (d.mono a))⟩
                simp only[aQ,a1,b1,ao,g];rw[ae (by simpa using S),d1];dsimp only;rw[ae rfl]
             . cases h
           . rename_i u;have u:=iD u;split at h
             . rename_i l af;have e:=Cell.j7 af;cases e;split at h
               . rename_i l2 P;cases h;obtain⟨p,v1,a1,a2,a3⟩:=cn he aq j;obtain⟨q,K,b1,b2,b3⟩:=cn he aq A;have:=a2.iZ;subst this;obtain⟨es,g,d⟩:=pH b2 s;obtain⟨C,z,d1,d2⟩:=aI b _ m;cases d2 with
                 |cA _ _ _ _ d2=>
                  have ad:l2.length=List.length l:=by
                   unfold sj at P;grind
                  have a:ds N J (N+16) (cF J b (.cA t l2 H Y L)):=n0 (by omega) m (λp h=>by
                   simp only[cS.dh]at h⊢
                   grind)
                  refine .store rfl a (.aY [] [] rfl (by simp)) λf r=>?_;have F:i<List.length l:=gM r;obtain⟨ts,aN,ab⟩:=Ik P F d (by rw[S];exact O);cases d with| @cons _ W _ _ d n=>
                  cases n;obtain⟨I,ah,ai⟩:∃I,Shv.toT W=some I/\ts=[I]:=by
                   simp only[toTs]at aN;cases j:Shv.toT W with
                   |none=>rw[j]at aN;simp at aN
                   |some I=>rw[j]at aN;simp at aN;exact⟨I,rfl,aN.symm⟩
                  refine⟨p/\q/\t.sz U=t.sz U/\i<(List.map (t.enc U) l).length/\o+k<=t.sz U,_,?_,⟨a3 f,b3 f,rfl,w3 F,O⟩,aI.put (by omega) a (.cA t l2 H Y (d2.mono a))⟩;simp only[aQ,a1,b1,ao,g];rw[ae (by simpa using S),d1];dsimp only;rw[al u,ah];subst ai;grind
               . cases h
             . cases h
         . cases h
       . cases h
     . cases h
   . cases h
 . cases h
inductive kt:fY U->List (List T)->Prop
 |ty (t:aL) (l:List (t.den U.D)):kt (.ty t l) (l.map (t.enc U))
 |rows {r es}:a' (λr e=>hT r=some e) r es->kt (.rows r) es
 |nil:kt .nil []
omit he aq aI in
theorem kt.length(h:kt e es):es.length=e.len:=by
 cases h with
 |ty t l=>simp[fY.len]
 |rows h=>simp[fY.len,h.length]
 |nil=>rfl
omit he aq aI in
theorem Hk:∀{xs:List (bm U)} {dq:List aL} {e:List T} {row:List (Cell U.D)},iF dq xs=some row->hT xs=some e->e=row.map (Cell.enc U)
 |[],dq,e,row,h1,a=>by
  grind[iF,hT]
 |y::f,[],e,row,h1,a=>by grind[iF]
 |y::f,ty::dq,e,row,h1,a=>by
  simp[hT]at a;split at a
  . rename_i t ts ht d;cases a;cases y with
    |t c=>
     simp[bm.toT]at ht;split at ht
     . grind
     . cases ht;cases ty<;>simp[iF]at h1<;>(split at h1<;>first|(cases h1;done)|(rename_i q b;cases h1;rw[Hk b d];rfl))
    |aA=>
     simp[bm.toT]at ht;subst ht;cases ty<;>simp[iF]at h1;split at h1
     . rename_i q b;cases h1;rw[Hk b d];rfl
     grind
    |_=>grind[bm.toT]
  grind
omit he aq aI in
theorem ad3{r:List (bm U)}{x:t.den U.D}{e:List T}(h:qv U t r=some x)(he:hT r=some e):t.enc U x=e:=by
 grind[qv,aL.u',aL.FN,Hk]
omit he aq aI in
theorem wg:∀{r:List (List (bm U))} {l:List (t.den U.D)} {es:List (List T)},mq U t r=some l->a' (λr e=>hT r=some e) r es->l.map (t.enc U)=es
 |[],l,es,h,a=>by cases a;grind[mq]
 |r::d,l,_::_,h,.cons h1 a=>by
  simp[mq]at h;split at h
  . rename_i x xs b c;cases h;rw[gB,ad3 b h1,wg c a]
  grind
omit he aq aI in
theorem kt.as{l:List (t.den U.D)}(h:kt e es)(a:e.as t=some l):l.map (t.enc U)=es:=by
 cases h with
 |ty u c=>
  have:=Cell.j7 a;grind
 |rows h=>exact wg a h
 |nil=>grind[fY.as]
omit he aq aI in
theorem kt.join{x y z:fY U}{es fs:List (List T)}(e:kt x es)(a:kt y fs)(h:x.join y=some z):kt z (es++fs):=by
 cases e with
 |nil=>grind[fY.join]
 |ty t l=>
  simp[fY.join]at h;split at h
  . rename_i f af;cases h;rw[<-a.as af,<-r3];exact .ty t _
  grind
 |rows ag=>
  cases a with
  |ty t l=>
   simp[fY.join]at h;split at h
   . rename_i f af;cases h;rw[<-wg af ag,<-r3];exact .ty t _
   grind
  |rows c=>simp[fY.join]at h;subst h;exact .rows (ag.append c)
  |nil=>simp[fY.join]at h;subst h;rw[mg];exact .rows ag
omit he aq aI in
theorem kt.blk{e:fY U}{es:List (List T)}{sz:Nat}{b:cS U}(h:kt e es)(a:e.blk sz=some b):hV N' J' b (.arr sz es)/\(∀x,x∈es->x.length=sz)/\b.dh=some (sz,e.len):=by
 cases h with
 |ty t l=>
  simp[fY.blk]at a;split at a
  . rename_i hs;have:=c1 hs;subst this;cases a;refine⟨.arr t l,λx c=>?_,rfl⟩;grind[aL.sL]
  grind
 | @rows r es ag=>
  simp[fY.blk]at a;split at a
  . rename_i hs;cases a;simp only[fK]at hs;refine⟨.rows ag λx c=>c1 (hs x c),λx c=>?_,rfl⟩;obtain⟨i,j,rfl⟩:=e1 c;obtain⟨y,h1,f⟩:=(ag.flip λ_ _ h=>h).get (e9 j);rw[Ii f];grind[c1]
  grind
 |nil=>
  simp[fY.blk]at a;subst a;exact⟨.rows .nil (by simp),by simp,rfl⟩
omit he aq in
theorem HR{f:Option Nat}(c:cb N J v v1)(h:sh J v=some (e,f)):∃es,mr J1 v1=some (es,f)/\kt e es:=by
 unfold sh at h;split at h
 . rename_i t l;cases h;have:=c.kp;subst this;exact⟨_,rfl,.ty t l⟩
 . cases h;have:=c.u2;subst this;exact⟨_,rfl,.nil⟩
 . rename_i b;obtain⟨sz,n,rfl,i,d⟩:=c.hc;split at h
   . rename_i t l af;cases h;obtain⟨_,y,h1,a⟩:=aI b _ af;cases a;have:=d _ af _ rfl;cases this;exact⟨_,by simp[mr,h1],.ty t l⟩
   . rename_i j r af;cases h;obtain⟨_,y,h1,a⟩:=aI b _ af;cases a with
     |rows a g=>
      have:=d _ af _ rfl;cases this;exact⟨_,by simp[mr,h1,a.length],.rows a⟩
   . cases h
 grind
theorem aiz{str:Bool}(h:cr gl gd env J N (.len str x)=some (c,v,J')):dT N J J1 (.len str x) env1 (cC env G gd) c v J':=by
 simp[cr]at h;split at h
 . rename_i s d;cases h;obtain⟨p,v1,a1,a2,a3⟩:=cn he aq d;have:=a2.kq;subst this;exact .neutral aI (.c (.t _)) λa _=>⟨p,by simp[aQ,a1];rfl,a3 a⟩
 . rename_i b d;split at h
   . rename_i E s g;cases h;obtain⟨p,v1,a1,a2,a3⟩:=cn he aq d;obtain⟨n,rfl,_,f⟩:=a2.Bn;have:=f _ g _ rfl;cases this;exact .neutral aI (.c (.t _)) λa _=>⟨p,by simp[aQ,a1];rfl,a3 a⟩
   grind
 . rename_i w d;split at h
   . rename_i e dL;cases h;obtain⟨p,v1,a1,a2,a3⟩:=cn he aq d;refine .neutral aI (.c (.t (U:=U) ⟨.int .i64,_⟩)) λa _=>⟨p,?_,a3 a⟩
     unfold sh at dL;split at dL
     . cases dL;have:=a2.kp;subst this;simp only[aQ,a1,ao];exact adR
     . cases dL;have:=a2.u2;subst this;simp only[aQ,a1,ao];rfl
     . obtain⟨sz,n,rfl,g,f⟩:=a2.hc;simp[aQ,a1];split at dL
       . rename_i t l af;cases dL;have:=f _ af _ rfl;cases this;rfl
       . rename_i i r af;cases dL;have:=f _ af _ rfl;cases this;rfl
       grind
     grind
   grind
 grind
omit he aq aI in
theorem H'{bytes n:Nat}:room bytes n=true↔(2*n+192)*bytes<=hZ/\n<=dY:=by simp[room]
omit he aq aI in
theorem D2{bytes n:Nat}(h:room bytes n=true):lP n bytes/\n<=dY:=⟨.inl (H'.1 h).1,(H'.1 h).2⟩
theorem ab5{sz bytes:Nat}(h:cr gl gd env J N (.append sz bytes x y)=some (c,v,J')):dT N J J1 (.append sz bytes x y) env1 (cC env G gd) c v J':=by
 simp only[cr]at h;split at h
 . rename_i w d s;split at h
   . rename_i aa an A;split at h
     . rename_i blk I;cases h;obtain⟨p,v1,a1,a2,a3⟩:=cn he aq d;obtain⟨q,C,b1,b2,b3⟩:=cn he aq s;have:=a2.u2;subst this;obtain⟨g,D,m⟩:=HR aI b2 A;have k:ds N J (N+16) (cF J N blk):=lo (by omega);obtain⟨d1,d2,d3⟩:=m.blk (N':=N+16) (J':=cF J N blk) I;refine .store rfl k (.c (.arr N sz g.length (by omega) ?_)) λj n=>⟨p/\q/\(∀e,e∈g->e.length=sz)/\lP g.length bytes/\g.length<=dY,_,by simp only[aQ,a1,b1,ao,show oP (.c .aA) C=none from rfl,D],⟨a3 j,b3 j,d2,?_⟩,aI.put (by omega) k d1⟩
       . intro x d r ag;rw[hP,ae rfl]at d;cases d;rw[d3]at ag;cases ag;rw[m.length]
       . rw[m.length];exact D2 n
     . cases h
   . cases h
 . rename_i b w d s;split at h
   . rename_i ar xb aa Z V A;split at h
     . grind
     . split at h
       . cases h
       . rename_i o;split at h
         . rename_i au Y;split at h
           . rename_i blk I;cases h;obtain⟨p,v1,a1,a2,a3⟩:=cn he aq d;obtain⟨q,C,b1,b2,b3⟩:=cn he aq s;obtain⟨f,K,S,ad,Q⟩:=a2.hc;subst S;obtain⟨g,D,m⟩:=HR aI b2 A;obtain⟨xs,aN,L⟩:=HR aI a2 V;have a:=L.join m Y;have u:ds N (dl J b) (N+16) (cF (dl J b) N blk):=lo (by omega);have k:ds N J (N+16) (cF (dl J b) N blk):=ds.trans td u;obtain⟨d1,d2,d3⟩:=a.blk (N':=N+16) (J':=cF (dl J b) N blk) I;obtain⟨hs,aH⟩:aX J1 b=some (.arr f xs)/\K=xs.length:=by
              simp only[mr]at aN;grind
             have R:f=sz:=by
              unfold Tw at o;split at o
              . rename_i z a;split at o
                . rename_i r ag;have:=Q _ a _ ag;simp_all
                . cases o
              . cases o
             subst R;have F:cz N (dl J b) (h9 J1 b):=by
              intro i z a;rw[oz]at a;split at a
              . cases a
              . rename_i O;obtain⟨h1,y,M,E⟩:=aI i z a;exact⟨h1,y,by rw[fQ,al O];exact M,E.mono td⟩
             have am:Z≠some b:=by
              intro e;simp_all
             refine .store rfl k (.c (.arr N f (xs++g).length (by omega) ?_)) λj n=>⟨p/\q/\f=f/\f=f/\0=0/\K=xs.length/\(∀e,e∈g->e.length=f)/\lP (xs.length+g.length) bytes/\xs.length+g.length<=dY,_,?_,⟨a3 j,b3 j,rfl,rfl,rfl,aH,λe he=>d2 e (by simp[he]),?_⟩,F.put (by omega) u d1⟩
             . intro x d r ag;rw[hP,ae rfl]at d;cases d;rw[d3]at ag;cases ag;rw[a.length]
             . have T:oP (.c (.arr b f 0 K)) C=none:=by
                refine ab4 (J1:=J1) b2 ?_ ?_ ?_<;>(intros;rintro rfl;simp[sh]at A)
               simp only[aQ,a1,b1,ao,T,D,hs];grind
             . have:=D2 n;rw[<-a.length,cq]at this;exact this
           . cases h
         . cases h
   . cases h
 . rename_i b h0 ab B len d s;split at h
   . rename_i H;have H:=c1 H;subst H;split at h
     . rename_i t l af;split at h
       . rename_i P;have P:=c1 P;cases h;obtain⟨p,v1,a1,a2,a3⟩:=cn he aq d;obtain⟨q,C,b1,b2,b3⟩:=cn he aq s;cases a2 with|c a2=>
         cases a2 with|pre _ s1 _ ah W=>
         cases b2 with|c b2=>
         cases b2 with|dO _ ap _ _ ai X=>
         have aN:=W _ af _ rfl;have L:=X _ af _ rfl;obtain⟨aj,z,d1,d2⟩:=aI b _ af;cases d2 with
         |arr=>
          have u:ds N (dl J b) (N+16) (cF (dl J b) N (.arr t (l.take h0++(l.drop B).take len))):=lo (by omega);have k:=ds.trans td u;have F:cz N (dl J b) (h9 J1 b):=by
           intro i z a;rw[oz]at a;split at a
           . cases a
           . rename_i O;obtain⟨h1,y,M,E⟩:=aI i z a;exact⟨h1,y,by simp_all[fQ,al],E.mono td⟩
          refine .store rfl k (.c (.arr N (t.sz U) (l.take h0++(l.drop B).take len).length (by omega) ?_)) λj n=>?_
          . simp_all[hP,ae,cS.dh,dG]
          . simp only[c5,eT]at n;have ak:(l.take h0++(l.drop B).take len).length=h0+len:=(by grind);refine⟨p/\q/\t.sz U=t.sz U/\t.sz U=t.sz U/\t.sz U=t.sz U/\0=0/\h0+len<=(l.map (t.enc U)).length/\B+len<=(l.map (t.enc U)).length,_,?_,⟨a3 j,b3 j,rfl,rfl,rfl,rfl,by grind,by grind⟩,F.put (by simp) u (.arr t _)⟩;grind[oP,aQ,u0,List.map_take,List.map_drop]
       . cases h
     . cases h
   . cases h
 grind
omit he aq aI in
theorem JT{t:aL}(ht:t.vh=false):∀{xs:List (bm U)} {a:List C} {l:List (t.den U.D)},a' (cc N J) xs a->uN t xs=some l->∃ts,toTs a=some ts/\ts.map (λx=>[x])=l.map (t.enc U)
 |[],[],l,_,h=>by simp[uN]at h;subst h;exact⟨[],rfl,rfl⟩
 |x::xs,d::a,l,.cons h1 e,h=>by
  unfold uN at h;split at h
  . grind
  . rename_i c r i;cases i;split at h
    . rename_i y m f j;cases h;obtain⟨ts,aN,b⟩:=JT ht e j;cases h1;have g:=Cell.j7 f;subst g;refine⟨Cell.enc U ⟨t,y⟩::ts,by simp[toTs,aN,toT],?_⟩;rw[gB,b];cases t<;>first|rfl|cases ht
    . cases h
  grind
omit he aq aI in
theorem Lv{t:aL}{d:t.den U.D}:∀{xs:List (bm U)} {a:List C} {l:List (t.den U.D)} (i:Nat),a' (cc N J) xs a->uN t xs=some l->i<a.length->cc N J (.t ⟨t,l.getD i d⟩) (a.getD i .dead)
 |[],[],l,i,_,h,b=>absurd b (Nat.not_lt_zero _)
 |x::xs,d::a,l,i,.cons h1 e,h,b=>by
  unfold uN at h;split at h
  . grind
  . rename_i c r j;cases j;split at h
    . rename_i y m f k;cases h;cases h1;have g:=Cell.j7 f;subst g;cases i with
      |zero=>exact .t _
      |succ i=>exact Lv (d:=_) i e k (Nat.lt_of_succ_lt_succ b)
    . cases h
  grind
theorem ad4{k:Nat}(h:cr gl gd env J N (.idxV k x y)=some (c,v,J')):dT N J J1 (.idxV k x y) env1 (cC env G gd) c v J':=by
 simp only[cr]at h;split at h
 . rename_i cs s m j n;split at h
   . rename_i t l g af;cases h;obtain⟨o,v1,a1,a2,a3⟩:=cn he aq j;obtain⟨p,w,b1,b2,b3⟩:=cn he aq n;obtain⟨d,rfl,b⟩:=a2.mz;have:=b2.fA;subst this;have i:d.length=k:=by rw[<-b.length];exact c1 g
     unfold Eh at af;split at af
     . rename_i q r;split at af
       . rename_i u ht hs;cases af;by_cases ag:aG m k=true
         . obtain⟨h1,e⟩:=rQ.1 ag;refine .neutral aI (.c (Lv (Int.toNat m) b hs (by omega))) λa _=>⟨o/\p/\(0:Int)<=m/\Int.toNat m<k,?_,a3 a,b3 a,h1,e⟩
           simp only[aQ,a1,b1,ao,i,b5]
         . exact .neutral aI (.c (.t _)) λa f=>absurd f ag
       . cases af
     . cases af
   . cases h
 . cases h
theorem ab6{sz bytes:Nat}{z:List C}(h:cr gl gd env J N (.mslice sz bytes z x)=some (c,v,J')):dT N J J1 (.mslice sz bytes z x) env1 (cC env G gd) c v J':=by
 simp only[cr]at h;split at h
 . rename_i k m u o r;split at h
   . cases h
   . rename_i ts g;split at h
     . rename_i a;split at h
       . rename_i b d;cases h;have d:=c1 d;subst d;obtain⟨t,v1,a1,a2,a3⟩:=cn he aq o;have:=a2.fA;subst this;have s:=q' (N:=N) (J:=J) r;have k1:ds N J (N+16) (cF J N (.arr a.ty (List.replicate (Int.toNat m) a.val))):=lo (by omega);have f:a.ty.sz U=1:=by
          generalize a.ty=t0 at b;cases t0<;>first|rfl|cases b
         have n:ts=a.ty.enc U a.val:=by
          obtain⟨ty,v0⟩:=a;cases ty<;>first|(cases g;rfl)|cases b
         have p:aQ (.mslice 1 bytes z x) env1 J1 N=some (t/\(0:Int)<=m/\Int.toNat m*bytes<=hZ/\Int.toNat m<=dY,.c (.arr N 1 0 (Int.toNat m)),df J1 N (.arr 1 (List.replicate (Int.toNat m) ts))):=by
          simp only[aQ,a1,ao,Ab s g]
         refine .store rfl k1 (.c (.arr N 1 (Int.toNat m) (by omega) ?_)) λl j=>⟨_,_,p,⟨a3 l,acZ.1 j⟩,aI.put (by omega) k1 ?_⟩
         . intro x i q e;rw[hP,ae rfl]at i;cases i;simp[cS.dh]at e;rw[<-e,f]
         . have:=hV.arr (N:=N+16) (J:=cF J N (.arr a.ty (List.replicate (Int.toNat m) a.val))) a.ty (List.replicate (Int.toNat m) a.val);rw[f,List.map_replicate,<-n]at this;exact this
       . cases h
     . cases h
 . cases h
theorem ab7{cs:List C}(h:cr gl gd env J N (.allocA cs)=some (c,v,J')):dT N J J1 (.allocA cs) env1 (cC env G gd) c v J':=by
 simp[cr]at h;split at h
 . rename_i xs d;split at h
   . rename_i t l af;cases h;unfold Eh at af;split at af
     . rename_i b r;split at af
       . rename_i a ht hs;cases af;obtain⟨ts,aN,e⟩:=JT ht (q' (N:=N) (J:=J) d) hs;have k:ds N J (N+16) (cF J N (.arr _ a)):=lo;refine .store rfl k (.c (.ptr _ _)) λf _=>⟨True,_,by simp[aQ,aN];rfl,trivial,aI.put (by simp) k ?_⟩
         have g:b.ty.sz U=1:=by
          generalize b.ty=t0 at ht;cases t0<;>first|rfl|cases ht
         have:=hV.arr (N:=N+16) (J:=cF J N (.arr _ a)) _ a;grind
       grind
     grind
   grind
 grind
theorem ad5{k:Nat}(h:cr gl gd env J N (.idxP k x y)=some (c,v,J')):dT N J J1 (.idxP k x y) env1 (cC env G gd) c v J':=by
 simp[cr]at h;split at h
 . rename_i b kk m f g;split at h
   . split at h
     . rename_i e;have e:=c1 e;cases h;obtain⟨i,v1,a1,a2,a3⟩:=cn he aq f;obtain⟨j,l,b1,b2,b3⟩:=cn he aq g;have:=a2.hS;have:=b2.fA;refine .neutral aI (.c (.cJ _ _ _ _)) λd a=>⟨i/\j/\(0:Int)<=m/\Int.toNat m<k,?_,a3 d,b3 d,(rQ.1 a).1,(rQ.1 a).2⟩
       grind[aQ]
     grind
   grind
 grind
theorem ad6{k:Nat}{e d:Option aR}(h:cr gl gd env J N (.slcP k x e d)=some (c,v,J')):dT N J J1 (.slcP k x e d) env1 (cC env G gd) c v J':=by
 simp[cr]at h;split at h
 . rename_i b l r g af ag;cases h;obtain⟨j,v1,a1,a2,a3⟩:=cn he aq g;obtain⟨pl,i,l2⟩:=pI he aq aI af;obtain⟨m,n,o⟩:=pI he aq aI ag;have:=a2.hS;subst this;exact .neutral aI (.c (.sub _ _ _)) λa f=>⟨j/\pl/\m/\0<=l.getD 0/\l.getD 0<=r.getD _/\r.getD _<=k,by simp[aQ,a1,i,n],a3 a,l2 a,o a,ij.1 f⟩
 grind
omit he aq aI in
theorem DM:∀(l:ar),bytesOf (List.map ((aL.int .u8).enc U) l)=some (strOf l)
 |[]=>rfl
 |m::l=>by
  have:=DM l;show bytesOf ([T.int _ m]::_)=_;simp[bytesOf,this];rfl
omit he aq aI in
theorem ac5{b len:Nat}{s:ak}(h:aX J1 b=some (.arr 1 es))(hs:bytesOf ((es.drop off).take len)=some s):nA J1 (.c (.arr b 1 off len))=some (off+len<=es.length,s):=by grind[nA]
omit he aq aI in
theorem ac6{b len:Nat}{s:ak}(h:aX J1 b=some (.arr 1 es))(hs:bytesOf ((es.drop off).take len)=some s):nA J1 (.c (.fL b 1 off len))=some (off+len<=es.length,s):=by grind[nA]
omit he aq aI in
theorem abx{s:ak}(hs:bytesOf es=some s):nA J1 (.c (.t (.slice es)))=some (True,s):=by grind[nA]
theorem ait(h:cr gl gd env J N (.b2s x)=some (c,v,J')):dT N J J1 (.b2s x) env1 (cC env G gd) c v J':=by
 simp only[cr]at h;split at h
 . rename_i l d;cases h;obtain⟨f,v1,a1,a2,a3⟩:=cn he aq d;have:=a2.kp;subst this
   exact .neutral aI (.c (.t (U:=U) _)) λa k=>⟨f/\True,by
    simp only[aQ,a1,ao]
    exact(eu _ (abx (DM (U:=U) l))).trans rfl,a3 a,trivial⟩
 . rename_i d;cases h;obtain⟨f,v1,a1,a2,a3⟩:=cn he aq d;have:=a2.u2;subst this;exact .neutral aI (.c (.t (U:=U) ⟨.str,_⟩)) λa k=>⟨f/\True,by simp only[aQ,a1,nA];rfl,a3 a,trivial⟩
 . rename_i b d;split at h
   . rename_i l g;cases h;obtain⟨f,v1,a1,a2,a3⟩:=cn he aq d;obtain⟨p,n,rfl,o,a⟩:=a2.hc;have:=a _ g _ rfl;cases this;obtain⟨_,y,m,j⟩:=aI _ _ g;cases j;refine .neutral aI (.c (.t (U:=U) ⟨.str,_⟩)) λa k=>⟨f/\(0+l.length<=(l.map ((aL.int .u8).enc U)).length),?_,a3 a,by simp⟩
     simp only[aQ,a1,ao];have e:bytesOf (((l.map ((aL.int .u8).enc U)).drop 0).take l.length)=some (strOf l):=(by grind[List.take_of_length_le,DM]);exact(eu (Option.map _) (ac5 m e)).trans rfl
   grind
 . rename_i b i len d;split at h
   . rename_i l g;cases h;obtain⟨f,v1,a1,a2,a3⟩:=cn he aq d;have:v1= .c (.fL b 1 i len):=by cases a2 with|c h=>cases h;rfl
     subst this;obtain⟨_,y,m,j⟩:=aI _ _ g;cases j;refine .neutral aI (.c (.t (U:=U) ⟨.str,_⟩)) λa k=>⟨f/\(i+len<=(l.map ((aL.int .u8).enc U)).length),?_,a3 a,by grind[xd]⟩
     simp only[aQ,a1,ao];have e:bytesOf (((l.map ((aL.int .u8).enc U)).drop i).take len)=some (strOf ((l.drop i).take len)):=by rw[<-List.map_drop,<-List.map_take];exact DM _
     exact(eu (Option.map _) (ac6 m e)).trans rfl
   grind
 grind
theorem ab8{e e8:Nat}(h:cr gl gd env J N (.allocS e e8)=some (c,v,J')):dT N J J1 (.allocS e e8) env1 (cC env G gd) c v J':=by
 obtain⟨rfl,rfl,rfl⟩:=h;have f:ds N J (N+16) (cF (cF J (N+1) (.buf e8 [])) N (.b9 e (.cP (N+1)))):=by
  refine⟨by simp,λb j g a=>?_⟩;grind[hP]
 refine .store rfl f (.c (.ptr _ _)) λ_ _=>⟨True,_,rfl,trivial,λb x a=>?_⟩
 rw[hP]at a;rw[c2];by_cases h1:N=b
 . rw[ae h1]at a⊢;cases a;refine⟨by omega,_,rfl,.b9 (.cP _ _ (by simp) λx a p i=>?_)⟩;rw[hP,hP]at a;grind[cS.dh]
 . rw[al h1,hP]at a;rw[al h1,c2];by_cases d:N+1=b
   . rw[ae d]at a⊢;cases a;exact⟨by omega,_,rfl,.buf _ _⟩
   . rw[al d]at a⊢;obtain⟨k1,y,k2,k3⟩:=aI b x a;exact⟨by omega,y,k2,k3.mono f⟩
theorem ac7(h:cr gl gd env J N .mkset=some (c,v,J')):dT N J J1 .mkset env1 (cC env G gd) c v J':=by
 obtain⟨rfl,rfl,rfl⟩:=h;have k:ds N J (N+16) (cF J N (.set [])):=lo;exact .store rfl k (.c (.mp _)) λ_ _=>⟨True,_,rfl,trivial,aI.put (by simp) k (.set _)⟩
theorem ac8(h:cr gl gd env J N (.lkset x y)=some (c,v,J')):dT N J J1 (.lkset x y) env1 (cC env G gd) c v J':=by
 simp[cr]at h;split at h
 . rename_i b s e f;split at h
   . rename_i ks d;cases h;obtain⟨p,v1,a1,a2,a3⟩:=cn he aq e;obtain⟨q,g,b1,b2,b3⟩:=cn he aq f;have:=a2.FO;subst this;have:=b2.kq;subst this;obtain⟨_,z,d1,d2⟩:=aI b _ d;cases d2;exact .neutral aI (.c (.t _)) λa _=>⟨p/\q,by simp[aQ,a1,b1,d1];rfl,a3 a,b3 a⟩
   grind
 grind
theorem ac9(h:cr gl gd env J N (.upset x y)=some (c,v,J')):dT N J J1 (.upset x y) env1 (cC env G gd) c v J':=by
 simp[cr]at h;split at h
 . rename_i b s f g;split at h
   . rename_i ks d;cases h;obtain⟨p,v1,a1,a2,a3⟩:=cn he aq f;obtain⟨q,j,b1,b2,b3⟩:=cn he aq g;have:=a2.FO;subst this;have:=b2.kq;subst this;obtain⟨i,z,d1,d2⟩:=aI b _ d;cases d2;have e:ds N J (N+16) (cF J b (.set (iN ks s))):=n0 (by omega) d (λp h=>by simp[cS.dh]at h);exact .store rfl e (.aY [] [] rfl (by simp)) λa _=>⟨p/\q,_,by simp[aQ,a1,b1,d1],⟨a3 a,b3 a⟩,aI.put (by omega) e (.set _)⟩
   . cases h
 grind
theorem aby{e bytes:Nat}(h:cr gl gd env J N (.appendB e bytes x y)=some (c,v,J')):dT N J J1 (.appendB e bytes x y) env1 (cC env G gd) c v J':=by
 simp[cr]at h;split at h
 . rename_i b s a u;split at h
   . rename_i d l f;split at h
     . rename_i t;have:=c1 t;subst this;cases h;obtain⟨p,v1,a1,a2,a3⟩:=cn he aq a;obtain⟨q,C,b1,b2,b3⟩:=cn he aq u;obtain⟨n,rfl,A,r⟩:=a2.Bn;have:=r _ f _ rfl;cases this;have:=b2.kq;subst this;obtain⟨_,z,d1,d2⟩:=aI b _ f;cases d2;have k1:ds N J N (dl J b):=td;have k2:ds N _ (N+16) (cF (dl J b) N (.buf d (Bp l s))):=lo;have o:cz N (dl J b) (h9 J1 b):=by
        intro k x a;rw[oz]at a;split at a
        . grind
        . rename_i B;obtain⟨h1,y,w,m⟩:=aI k x a;exact⟨h1,y,by rw[fQ];grind,m.mono k1⟩
       refine .store rfl (k1.trans k2) (.c (.cP N (List.length l+List.length s) (by simp) λx a p j=>?_)) λi g=>⟨p/\q/\d=d/\List.length l=List.length l/\lP _ _/\List.length l+List.length s<=dY,_,?_,⟨a3 i,b3 i,rfl,rfl,(D2 g).1,(D2 g).2⟩,o.put (by simp) k2 (.buf _ _)⟩
       . rw[hP,ae rfl]at a;cases a;simp[cS.dh]at j;exact j.symm.trans (eu _ Y4)
       . simp only[aQ,a1,b1,ao,d1];rfl
     grind
   grind
 grind
theorem ac'(h:cr gl gd env J N (.sdata x)=some (c,v,J')):dT N J J1 (.sdata x) env1 (cC env G gd) c v J':=by
 simp[cr]at h;split at h
 . rename_i b d;cases h;obtain⟨p,v1,a1,a2,a3⟩:=cn he aq d;obtain⟨n,rfl,_,_⟩:=a2.Bn;exact .neutral aI (.c (.ew _)) λa _=>⟨p,by simp[aQ,a1],a3 a⟩
 grind
theorem ad7{e:Nat}(h:cr gl gd env J N (.ustr e x y)=some (c,v,J')):dT N J J1 (.ustr e x y) env1 (cC env G gd) c v J':=by
 simp[cr]at h;split at h
 . rename_i b m a r;split at h
   . rename_i d l k;split at h
     . rename_i o;have:=c1 o;subst this;cases h;obtain⟨p,v1,a1,a2,a3⟩:=cn he aq a;obtain⟨q,u,b1,b2,b3⟩:=cn he aq r;have:=a2.Tk;subst this;have:=b2.fA;subst this;obtain⟨_,z,d1,d2⟩:=aI b _ k;cases d2;have k1:ds N J N (dl J b):=td;have j:cz N (dl J b) (h9 J1 b):=by
        intro g x a;rw[oz]at a;split at a
        . grind
        . obtain⟨h1,y,s,i⟩:=aI g x a;exact⟨h1,y,by simp_all[fQ],i.mono k1⟩
       refine .store rfl (k1.trans (ds.more (by simp))) (.c (.t _)) λf n=>⟨p/\q/\d=d/\m=(List.length l:Int),_,?_,⟨a3 f,b3 f,rfl,ac0.1 n⟩,j.mono (by simp)⟩
       simp only[aQ,a1,b1,ao,d1];rfl
     grind
   grind
 grind
theorem abz{e sz len:Nat}{z:List C}{parts:List (Nat×aR)}(h:cr gl gd env J N (.bsliceT e sz len z parts)=some (c,v,J')):dT N J J1 (.bsliceT e sz len z parts) env1 (cC env G gd) c v J':=by
 simp[cr]at h;split at h
 . grind
 . split at h
   . rename_i j g;split at h
     . grind
     . rename_i ts b;split at h
       . grind
       . rename_i a;have a:=c1 a;split at h
         . rename_i rows ag;split at h
           . rename_i l af;cases h;have i:=q' (N:=N) (J:=J) g;obtain⟨p,es,a1,a2,a4,a3⟩:=HJ he aq ag (a'.replicate (R:=λr e=>hT r=some e) b _) (by grind);have d:=wg af a2;refine .neutral aI (.c (.t _)) λf _=>⟨p,?_,a3 f⟩
             simp[aQ,Ab i b,ao,a1];rw[<-d];rfl
           grind
         grind
   grind
theorem Kx(h:cr gl gd env J N o=some (c,v,J')):dT N J J1 o env1 (cC env G gd) c v J':=by
 cases o with
 |mov x=>exact aiA he aq aI h
 |pick c x y=>exact adS he aq aI h
 |alloc cs=>exact ac3 he aq aI h
 |box x=>exact aiv he aq aI h
 |allocA cs=>exact ab7 he aq aI h
 |idxP k x i=>exact ad5 he aq aI h
 |idxV k x i=>exact ad4 he aq aI h
 |mslice sz b z x=>exact ab6 he aq aI h
 |slcP k x d a=>exact ad6 he aq aI h
 |b2s x=>exact ait he aq aI h
 |allocS e e8=>exact ab8 he aq aI h
 |bsliceT e sz len z parts=>exact abz he aq aI h
 |mkset=>exact ac7 he aq aI h
 |lkset x k=>exact ac8 he aq aI h
 |upset x k=>exact ac9 he aq aI h
 |appendB e b x y=>exact aby he aq aI h
 |sdata x=>exact ac' he aq aI h
 |ustr e x k=>exact ad7 he aq aI h
 |build z parts=>exact ac2 he aq aI h
 |bslice sz len z parts=>exact ab3 he aq aI h
 |load agg n x=>exact adV he aq aI h
 |store n x v=>exact ac4 he aq aI h
 |nilCheck x=>exact ZK he aq aI h
 |bin op x y=>exact aiu he aq aI h
 |eqAgg neg ks x y=>exact ac1 he aq aI h
 |eqBool neg x y=>exact ab2 he aq aI h
 |eqNil neg x=>simp[cr]at h
 |not x=>exact aiB he aq aI h
 |conv k x=>grind[adT]
 |i2s x=>grind[aiy]
 |s2s x=>grind[aiC]
 |fldA off x=>grind[adU]
 |fld agg off n x=>grind[aix]
 |idxA sz x i=>grind[adW]
 |idxS x i=>grind[adX]
 |slcS x d a=>grind[adY]
 |slc sz x d a=>grind[aiD]
 |slc0 x=>grind[adZ]
 |mkfn f caps=>grind[ad0]
 |ext x i=>grind[aiw]
 |len str x=>grind[aiz]
 |append sz bytes x y=>grind[ab5]
 |max2 x y=>grind[ad1]
 |min2 x y=>grind[ad2]
 |call f args=>simp[cr]at h
 |ic x args=>simp[cr]at h
end
end
end
section
open Go
variable {U:cM}
def bm.cp(b0:Nat)(c:Cell U.D):bm U->bm U
 |.arr b=>match Nat.beq b b0 with
  |true=>.t c
  |false=>.arr b
 |.cJ b ty i o=>match Nat.beq b b0 with
  |true=>.dead
  |false=>.cJ b ty i o
 |.pre b h=>match Nat.beq b b0 with
  |true=>.dead
  |false=>.pre b h
 |.dO b a len=>match Nat.beq b b0 with
  |true=>.dead
  |false=>.dO b a len
 |x=>x
def bJ.cp(b0:Nat)(c:Cell U.D):bJ U->bJ U
 |.c x=>.c (x.cp b0 c)
 |.agg cs=>.agg (cs.map (bm.cp b0 c))
 |.aY vs=>.aY (go b0 c vs)
where go (b0:Nat) (c:Cell U.D):List (bJ U)->List (bJ U)
 |[]=>[]
 |v::vs=>v.cp b0 c::go b0 c vs
def cS.cp(b0:Nat)(c:Cell U.D):cS U->cS U
 |.box cs=>.box (cs.map (bm.cp b0 c))
 |.b9 E x=>.b9 E (x.cp b0 c)
 |.cA t l i o x=>.cA t l i o (x.cp b0 c)
 |x=>x
def si(b0:Nat)(c:Cell U.D):bS U->bS U
 |[]=>[]
 |(k,v)::r=>(k,v.cp b0 c)::si b0 c r
def nq(b0:Nat)(c:Cell U.D):bg U->bg U
 |[]=>[]
 |(k,x)::r=>match Nat.beq k b0 with
  |true=>nq b0 c r
  |false=>(k,x.cp b0 c)::nq b0 c r
def A8(b:Nat)(t:aL)(env:bS U)(J:bg U):Option (bS U×bg U):=
 match a8 J b with
 |some (.arr a l)=>match Cell.as (.slice t) (⟨.slice a,l⟩:Cell U.D)with
  |some l=>some (si b ⟨.slice t,l⟩ env,nq b ⟨.slice t,l⟩ J)
  |none=>none
 |some (.rows _ r)=>match mq U t r with
  |some l=>some (si b ⟨.slice t,l⟩ env,nq b ⟨.slice t,l⟩ J)
  |none=>none
 |_=>some (env,J)
def kY:List (Nat×aL)->bS U->bg U->Option (bS U×bg U)
 |[],env,J=>some (env,J)
 |(b,t)::r,env,J=>match A8 b t env J with
  |some (env',J')=>kY r env' J'
  |none=>none
variable{c:Cell U.D}{b0 j:Nat}{es:List (List T)}{t:aL}{cs:List C}{R:Type}
section
variable {kk N:Nat}{J J':bg U}{J1:ba}{env env':bS U}{env1:Env}{G:Nat->Bool}{gl:eA}
theorem D3:∀{env:bS U} {k:Nat},a8 (si b0 c env) k=(a8 env k).map (bJ.cp b0 c)
 |[],k=>rfl
 |(i,v)::r,k=>by
  simp[si,a8];cases Nat.beq i k with
  |true=>rfl
  |false=>exact D3
theorem t':∀{J:bg U} {k:Nat},a8 (nq b0 c J) k=if k=b0 then none else(a8 J k).map (cS.cp b0 c)
 |[],k=>by simp[nq,a8]
 |(i,x)::r,k=>by
  simp[nq];cases h:Nat.beq i b0 with
  |true=>
   simp[t',a8];grind[c1]
  |false=>
   simp[a8,t'];grind
theorem cS.BP{x:cS U}:(x.cp b0 c).dh=x.dh:=by cases x<;>rfl
theorem cc.cp{b0 sz:Nat}{c:Cell U.D}{es:List (List T)}{A:cS U}(h0:a8 J b0=some A)(E:A.dh=some (sz,es.length))(B:c.enc U= .slice es){x:bm U}{d:C}(h:cc N J x d):
 cc N (nq b0 c J) (x.cp b0 c) (d.cp b0 sz es):=by
 cases h with
 |t c=>exact .t c
 |ptr b o=>exact .ptr b o
 |cJ b t i o=>
  simp only[bm.cp,C.cp];cases h:Nat.beq b b0 with
  |true=>exact .dead _
  |false=>rw[al (iD h)];exact .cJ b t i o
 |dM t x o=>exact .dM t x o
 |arr b q n a h=>
  simp only[bm.cp,C.cp];cases e:Nat.beq b b0 with
  |true=>
   have:=c1 e;subst this;have:=h A h0 _ E;cases this;rw[ae rfl,ae ⟨rfl,by simp⟩];have:cut es 0 es.length=es:=(by simp[cut]);rw[this,<-B];exact .t c
  |false=>
   rw[al (iD e)];refine .arr b q n a λy j p v=>?_;rw[t']at j;grind[bz,cS.BP]
 |sub b w len=>exact .sub b w len
 |pre b q n a h=>
  simp only[bm.cp];cases e:Nat.beq b b0 with
  |true=>exact .dead _
  |false=>
   simp only[C.cp];rw[al (iD e)];refine .pre b q n a λy j p v=>?_;rw[t',al (iD e)]at j;grind[bz,cS.BP]
 |dO b q w len a h=>
  simp only[bm.cp];cases e:Nat.beq b b0 with
  |true=>exact .dead _
  |false=>
   refine .dO b q w len a λy j p v=>?_;rw[t',al (iD e)]at j;grind[bz,cS.BP]
 |mp b=>exact .mp b
 |ew b=>exact .ew b
 |cP b n a h=>
  refine .cP b n a λy j p v=>?_;grind[t',bz,cS.BP]
 |aA=>exact .aA
 |e7=>exact .e7
 |e6=>exact .e6
 |fn f caps=>exact .fn f caps
 |dead d=>exact .dead _
theorem JU:∀{vs:List (bJ U)} {i:Nat},(bJ.cp.go b0 c vs)[i]?=(vs[i]?).map (bJ.cp b0 c)
 |[],i=>by rfl
 |v::vs,0=>by rfl
 |v::vs,i+1=>by simp[bJ.cp.go,JU]
theorem T2:∀{vs:List (bJ U)},(bJ.cp.go b0 c vs).length=vs.length
 |[]=>rfl
 |v::vs=>by simp[bJ.cp.go,T2]
theorem cb.cp{sz:Nat}{f:cS U}(h0:a8 J b0=some f)(e:f.dh=some (sz,es.length))(a:c.enc U= .slice es){x:bJ U}{d:V}(h:cb N J x d):
 cb N (nq b0 c J) (x.cp b0 c) (d.cp b0 sz es):=by
 induction h with
 |c h=>exact .c (h.cp h0 e a)
 |agg h=>exact .agg (a'.map_map (h.imp λ_ _ _ aa=>aa.cp h0 e a))
 |aY xs j af h ih=>
  refine .aY _ _ (by grind[T2,Hz]) ?_;grind[JU,G8]
theorem OD{sz:Nat}{p:cS U}(h0:a8 J b0=some p)(f:p.dh=some (sz,es.length))(e:c.enc U= .slice es)(hs:aX J1 b0=some (.arr sz es))(he:c6 N J G env env1)(aI:cz N J J1):
 Conv kk N env1 J1 N (rT b0 sz es env1) (nb b0 sz es J1)/\c6 N (nq b0 c J) G (si b0 c env) (rT b0 sz es env1)/\cz N (nq b0 c J) (nb b0 sz es J1):=by
 refine⟨Conv.freeze b0 hs,λk v n=>?_,λb x g=>?_⟩
 . rw[D3,bz]at n;obtain⟨v0,h1,rfl⟩:=n;obtain⟨d,j,m⟩:=he k v0 h1;exact⟨_,by grind[zw],m.cp h0 f e⟩
 . rw[t']at g;split at g
   . grind
   . simp only[bz]at g;obtain⟨q,h1,rfl⟩:=g;obtain⟨j,y,m,a⟩:=aI b q h1;refine⟨j,y.cp b0 sz es,by simp_all[EB,al],?_⟩;cases a with
     |box a=>exact .box (a'.map_map (a.imp λ_ _ _ aa=>aa.cp h0 f e))
     |arr t l=>exact .arr t l
     |set ks=>exact .set ks
     |buf E s=>exact .buf E s
     |b9 a=>exact .b9 (a.cp h0 f e)
     |cA t l i o a=>exact .cA t l i o (a.cp h0 f e)
     |rows a bf=>exact .rows a bf
theorem gP.cp(h:gP gl env G):gP gl (si b0 c env) G:=by
 refine⟨h.free,λk t b e=>?_⟩;obtain⟨y,h1,a⟩:=h.held k t b e;refine⟨y,?_,a⟩;unfold fk at h1⊢;rw[D3];split at h1
 . rename_i x f;rw[f];exact h1
 grind
theorem ada{α a:Type}{f:α->a}{l:List α}{sz:Nat}:some (sz,l.length)=some (sz,(l.map f).length):=by simp
theorem Ky{b:Nat}(h:A8 b t env J=some (env',J'))(he:c6 N J G env env1)(aI:cz N J J1):
 ∃f bq,Conv kk N env1 J1 N f bq/\c6 N J' G env' f/\cz N J' bq/\(gP gl env G->gP gl env' G):=by
 unfold A8 at h;split at h
 . rename_i k j af;split at h
   . rename_i l d;have e:=Cell.j7 d;cases e;cases h;obtain⟨_,y,h1,a⟩:=aI b _ af;cases a;obtain⟨k1,k2,k3⟩:=OD (c:=⟨.slice t,l⟩) af ada rfl h1 he aI;exact⟨_,_,k1,k2,k3,λaq=>aq.cp⟩
   grind
 . rename_i sz r af;split at h
   . rename_i l d;cases h;obtain⟨_,y,h1,a⟩:=aI b _ af;cases a with
     | @rows _ _ es a i=>
      have g:=wg d a;obtain⟨k1,k2,k3⟩:=OD (c:=⟨.slice t,l⟩) af (by simp[cS.dh];rw[a.length]) (by rw[<-g];rfl) h1 he aI;exact⟨_,_,k1,k2,k3,λaq=>aq.cp⟩
   grind
 grind[Conv.refl]
theorem Ad:∀{l:List (Nat×aL)} {env env':bS U} {J J':bg U} {env1:Env} {J1:ba},kY l env J=some (env',J')->c6 N J G env env1->cz N J J1->
 ∃a bq,Conv kk N env1 J1 N a bq/\c6 N J' G env' a/\cz N J' bq/\(gP gl env G->gP gl env' G)
 |[],env,env',J,J',env1,J1,h,he,aI=>by grind[kY,Conv.refl]
 |(b,t)::r,env,env',J,J',env1,J1,h,he,aI=>by
  simp[kY]at h;split at h
  . rename_i e s h1;obtain⟨aN,s1,k1,k2,k3,k4⟩:=Ky h1 he aI;obtain⟨c,j,d,f,g,i⟩:=Ad h k2 k3;exact⟨c,j,k1.trans d,f,g,λaq=>i (k4 aq)⟩
  grind
theorem Conv.close{b sz i o:Nat}{t:T}(c:aX J1 b=some (.cA sz es i o (.t t))):
 Conv kk N env1 J1 N env1 (df J1 b (.arr sz (es.set i ((el es i).take o++[t]++(el es i).drop (o+1))))):=by
 intro aD nt φ S a w M R;obtain⟨⟨a1,a2,a3,a4,a5,J⟩,⟨vs,E,k1,k2,k3,v,k4,k5⟩,k6⟩:=R.bO.blk _ _ c;have A:es[i]?=some (el es i):=by unfold el;rw[List.getD,e9 a5];rfl
 have K:=a3 _ (fp A);refine⟨φ,S,R.put (R.dX _ _ c).1 rfl ⟨by simpa using a1,by simpa using a2,λe he=>?_,a4,λ_=>⟨vs,E,k1,k2,λG j e H he ht=>?_,k6⟩⟩ λh0=>⟨λk y F D x=>R.bO.inj k b y _ F c D x h0,R.own b _ c h0⟩⟩
 . grind
 . rw[B5]at he;by_cases B:i=G
   . subst B;rw[ae rfl,ae a5]at he;cases he;have f:=(nX (vs:=el es i) (off:=o) (xs:=[t]) (by simp;omega) j)
     unfold jr at f;rw[show o+[t].length=o+1 from rfl]at f;rw[f]at ht;by_cases q:j=o
     . subst q;rw[bB,fz,Ca]at ht;cases ht;exact⟨v,k4,k5⟩
     . have L:(el es i)[j]?=some H:=by
        by_cases p:j<o
        . rwa [ae p]at ht
        . rwa [al p,bB]at ht
       grind
   grind
def D4(b:Nat)(env:bS U)(J:bg U):Option (bS U×bg U):=
 match a8 J b with
 |some (.cA t l i o (.t c))=>match Nat.ble (o+1) (t.sz U)with
  |true=>match sj U t l i o [.t c]with
   |some a=>some (env,cF J b (.arr t a))
   |none=>none
  |false=>none
 |_=>none
def OE(b:Nat)(env:bS U)(J:bg U):Option (bS U×bg U):=
 match a8 J b with
 |some (.cA t l i o (.arr b2))=>match (t.row U (t.at U l i))[o]? with
  |some ⟨.slice a,_⟩=>match A8 b2 a env J with
   |some (env',J')=>D4 b env' J'
   |none=>none
  |_=>none
 |_=>D4 b env J
def My:bg U->Option Nat
 |[]=>none
 |(b,.cA ..)::_=>some b
 |_::r=>My r
def IS(env:bS U)(J:bg U):Option (bS U×bg U):=
 match My J with
 |none=>some (env,J)
 |some b=>OE b env J
theorem JZ{b:Nat}(h:D4 b env J=some (env',J'))(he:c6 N J G env env1)(aI:cz N J J1):
 ∃e bq,Conv kk N env1 J1 N e bq/\c6 N J' G env' e/\cz N J' bq:=by
 unfold D4 at h;split at h
 . rename_i t l i o c af;split at h
   . split at h
     . rename_i l2 k;cases h;obtain⟨g,y,h1,d⟩:=aI b _ af;cases d with
       |cA _ _ _ _ d=>
        cases d;have q:l2.length=List.length l:=by
         grind[sj]
        have f:ds N J N (cF J b (.arr t l2)):=n0 (d' _) af (λp h=>by
         grind[cS.dh])
        refine⟨env1,df _ b _,?_,he.mono f,aI.put g f (.arr t l2)⟩;by_cases j:i<List.length l
        . obtain⟨ts,aN,m⟩:=Ik (N:=N) (J:=J) k j (.cons (.t c) .nil) (by simp_all);have:ts=[c.enc U]:=(by grind[toTs,toT]);have:=Conv.close (kk:=kk) (N:=N) (env1:=env1) h1;grind
        . intro aD nt φ S a w n R;obtain⟨⟨_,_,_,_,a5,_⟩,_⟩:=R.bO.blk _ _ h1;grind
     grind
   grind
 grind
theorem Zl(h:IS env J=some (env',J'))(he:c6 N J G env env1)(aI:cz N J J1):
 ∃a bq,Conv kk N env1 J1 N a bq/\c6 N J' G env' a/\cz N J' bq:=by
 unfold IS at h;split at h
 . grind[Conv.refl]
 . unfold OE at h;split at h
   . split at h
     . split at h
       . rename_i e s h1;obtain⟨aN,s1,k1,k2,k3,_⟩:=Ky (gl:=[]) h1 he aI;obtain⟨b,g,c,d,f⟩:=JZ h k2 k3;exact⟨b,g,k1.trans c,d,f⟩
       grind
     grind
   . exact JZ h he aI
theorem Conv.own{k:Nat}{g:Bool}{sz:Nat}(o:look env1 k=some (g,.c .aA))(p:0<sz)(y:kk<=N):Conv kk N env1 J1 (N+1) ((k,g,.c (.arr N sz 0 0))::env1) (df J1 N (.arr sz [])):=by
 intro aD nt φ S a w t R;have f:=R.FP p (by omega);have cE:fV φ N (0,0) N=(0,0):=by simp[fV]
 refine⟨fV φ N _,S,⟨f.bO,λi j v af aq=>?_,λi j v af aq=>?_,λi j v af aq=>?_,f.dX,f.size,f.defers,f.ext,f.own,f.fix,f.fR⟩⟩
 . simp[look]at af;split at af
   . rename_i e;cases af;subst e;obtain⟨x,q,ag⟩:=f.gL _ _ _ o aq;refine⟨x,q,?_⟩;cases ag with
     |c ag=>
      obtain⟨a,rfl⟩:=ag;refine .c ⟨a,by grind,λh=>absurd (by grind) h,by simp⟩
   . exact f.gL i j v af aq
 . simp[look]at af;split at af
   . rename_i e;cases af;subst e;exact f.hJ _ _ _ o aq
   . exact f.hJ i j v af aq
 . simp only[look]at af;split at af
   . grind[V.aE,C.aE,lt]
   . exact f.gK i j v af aq
theorem Conv.ahR{b:Nat}{sz:Nat}(O:aX J1 b=some (.box cs))(G:cs[j]?=some .aA)(P:b<N)(J:0<sz)(U:kk<=N):
 Conv kk N env1 J1 (N+1) env1 (df (df J1 N (.arr sz [])) b (.box (cs.set j (.arr N sz 0 0)))):=by
 intro aD nt φ S a w Q R;have e:=R.FP J (by omega);have cE:fV φ N (0,0) N=(0,0):=by simp[fV]
 have B:aX (df J1 N (.arr sz [])) b=some (.box cs):=by rw[c2];grind
 have D:∀c x,aX (df (df J1 N (.arr sz [])) b (.box (cs.set j (.arr N sz 0 0)))) c=some x->(c=b/\x= .box (cs.set j (.arr N sz 0 0)))\/aX (df J1 N (.arr sz [])) c=some x:=by
  grind[c2]
 have o:∀c x,aX (df (df J1 N (.arr sz [])) b (.box (cs.set j (.arr N sz 0 0)))) c=some x->∃y,aX (df J1 N (.arr sz [])) c=some y:=by grind
 refine⟨fV φ N _,S,⟨⟨λc x f=>?_,λc t x y f K H=>?_,e.bO.st⟩,e.gL,e.hJ,e.gK,λc x f=>?_,e.size,e.defers,e.ext,λc x f=>?_,e.fix,e.fR⟩⟩
 . rcases D c x f with⟨rfl,rfl⟩|h
   . obtain⟨h0,vs,E,h1,A,F⟩:=e.bO.blk _ _ B;refine⟨h0,vs,E,h1,?_,F⟩;obtain⟨v,X,ag⟩:=A.get G;obtain⟨a,rfl⟩:=ag;have:=a'.set (i:=j) A (a:= .arr N sz 0 0) (b:= .slice a 0 0) ⟨a,by grind,λh=>absurd (by grind) h,by simp⟩;have W:vs.set j (.slice a 0 0)=vs:=by
      apply yE;grind
     grind
   . exact e.bO.blk c x h
 . obtain⟨q,p⟩:=o c x f;obtain⟨M,L⟩:=o t y K;exact e.bO.inj c t q M p L H
 . rcases D c x f with⟨rfl,rfl⟩|h
   . have:=(e.dX _ _ B).2;grind[bR.aE,List.mem_or_eq_of_mem_set,C.aE,lt]
   . exact e.dX c x h
 . obtain⟨q,p⟩:=o c x f;exact e.own c q p
theorem Conv.trim{q b:Nat}{sz h:Nat}(U:aX J1 q=some (.box cs))(X:cs[j]?=some (.arr b sz 0 h))(O:aX J1 b=some (.arr sz es))(aa:h<=es.length)(aJ:q<N):
 Conv kk N env1 J1 (N+1) env1 (df (df (h9 J1 b) N (.arr sz (es.take h))) q (.box (cs.set j (.arr N sz 0 h)))):=by
 intro aD nt φ S a w ax R;have ap:b<N:=by have:=(R.dX _ _ O).1;grind[lt]
 have W:∀c,lt N c=true->fV φ N (φ b) c=φ c:=by
  intro c t;simp only[lt,eT]at t;grind[fV]
 have D:∀c,lt N c=true->lt (N+1) c=true:=λc t=>OA (by omega) t;have f:=R.zj W;have cE:fV φ N (φ b) N=φ b:=by simp[fV]
 have P:=W b (by grind[lt]);have Q:∀c x,aX (df (df (h9 J1 b) N (.arr sz (es.take h))) q (.box (cs.set j (.arr N sz 0 h)))) c=some x->(c=q/\x= .box (cs.set j (.arr N sz 0 h)))\/(c≠q/\c=N/\x= .arr sz (es.take h))\/(c≠q/\c≠N/\c≠b/\aX J1 c=some x):=by
  grind[c2,fQ]
 have H:∀c x,aX (df (df (h9 J1 b) N (.arr sz (es.take h))) q (.box (cs.set j (.arr N sz 0 h)))) c=some x->∃A y,aX J1 A=some y/\fV φ N (φ b) c=fV φ N (φ b) A/\(A=if c=N then b else c):=by grind
 refine⟨fV φ N (φ b),S,⟨⟨λc x o=>?_,λc A x y o Z aB=>?_,f.bO.st⟩,f.gL,f.hJ,λk g v af aq=>V.ho D (f.gK k g v af aq),λc x o=>?_,f.size,f.defers,f.ext,λc x o h0=>?_,f.fix,λc t=>by have:=f.fR c t;exact D c this⟩⟩
 . rcases Q c x o with⟨rfl,rfl⟩|⟨_,rfl,rfl⟩|⟨_,_,_,p⟩
   . obtain⟨h0,vs,E,h1,B,G⟩:=f.bO.blk _ _ U;refine⟨h0,vs,E,h1,?_,G⟩;obtain⟨v,a1,ag⟩:=B.get X;have Y:bp (fV φ N (φ b)) w S (.arr N sz 0 h) v:=by
      obtain⟨a,aN,F,dx⟩:=ag;rw[P]at aN F dx;exact⟨a,by rw[cE];exact aN,by rw[cE];exact F,by rw[cE];exact dx⟩
     have:=a'.set (i:=j) B Y;have a0:vs.set j v=vs:=by
      apply yE;grind
     grind
   . obtain⟨h0,h1,B,G,p⟩:=f.bO.blk _ _ O;rw[P]at h0 p;refine⟨by rw[cE,oF];omega,by rw[oF];omega,λe he=>B e (r0 he),G,λt=>?_⟩;grind
   . exact f.bO.blk c x p
 . obtain⟨d,K,J,aN,F⟩:=H c x o;obtain⟨L,an,am,dx,hI⟩:=H A y Z;have bZ:d≠L:=(by grind);intro h0 M;rw[aN]at h0⊢;rw[dx]at M⊢;exact f.bO.inj d L K an J am bZ h0 M
 . rcases Q c x o with⟨rfl,rfl⟩|⟨_,rfl,rfl⟩|⟨_,_,_,p⟩
   . have:=(f.dX _ _ U).2;grind[bR.aE,List.all_eq_true,List.mem_or_eq_of_mem_set,C.ho,C.aE,lt]
   . exact⟨by simp[lt],rfl⟩
   . exact⟨D c (f.dX c x p).1,bR.ho D (f.dX c x p).2⟩
 . obtain⟨d,K,J,aN,_⟩:=H c x o;rw[aN]at h0⊢;exact f.own d K J h0
def wh:Nat->List (bm U)->Option (Nat×Nat×Nat)
 |_,[]=>none
 |j,.pre b h::_=>some (j,b,h)
 |j,_::r=>wh (j+1) r
def rN(J:bg U):bg U->Option (Nat×List (bm U)×Nat×Nat×Nat)
 |[]=>none
 |(q,.box cs)::r=>match a8 J q with
  |some (.box a)=>match wh 0 a with
   |some p=>some (q,a,p)
   |none=>rN J r
  |_=>rN J r
 |_::r=>rN J r
theorem Jt:∀{cs:List (bm U)} {j i b h:Nat},wh j cs=some (i,b,h)->j<=i/\cs[i-j]?=some (.pre b h)
 |[],j,i,b,h,a=>by grind[wh]
 |c::r,j,i,b,h,a=>by
  have next:wh (j+1) r=some (i,b,h)->j<=i/\(c::r)[i-j]?=some (.pre b h):=by
   intro a;obtain⟨h1,f⟩:=Jt a;grind
  cases c with
  |pre d e=>grind[wh,Option.some.injEq]
  |_=>exact next a
theorem CC{q:Nat}{cs:List (bm U)}{i b h:Nat}:∀{l:bg U},rN J l=some (q,cs,i,b,h)->a8 J q=some (.box cs)/\cs[i]?=some (.pre b h)
 |[],a=>by simp[rN]at a
 |(k,x)::r,a=>by
  cases x with
  |box e=>
   simp[rN]at a;split at a
   . rename_i f c;split at a
     . rename_i p d;obtain⟨rfl,rfl,rfl⟩:=a;exact⟨c,by simpa using(Jt d).2⟩
     . exact CC a
   . exact CC a
  |_=>exact CC (by simpa[rN]using a)
def EZ{R:Type}(J:bg U)(N:Nat)(k:bg U->Nat->Option R):Option R:=
 match rN J J with
 |none=>k J N
 |some (q,cs,j,b,h)=>match a8 J b with
  |some (.arr t l)=>if (h<=l.length:Bool) then k (cF (cF (dl J b) N (.arr t (l.take h))) q (.box (cs.set j (.arr N)))) (N+1)else none
  |_=>none
theorem Kz{q b h0:Nat}{cs:List (bm U)}{x:bm U}{l:List (t.den U.D)}(w:a8 J q=some (.box cs))(v:cs[j]?=some x)(o:a8 J b=some (.arr t l))(a:∀d,cc N J x d->d= .arr b (t.sz U) 0 h0)(I:h0<=l.length)
 (he:c6 N J G env env1)(aI:cz N J J1):
 ∃bq,Conv kk N env1 J1 (N+1) env1 bq/\c6 (N+1) (cF (cF (dl J b) N (.arr t (l.take h0))) q (.box (cs.set j (.arr N)))) G env env1/\cz (N+1) (cF (cF (dl J b) N (.arr t (l.take h0))) q (.box (cs.set j (.arr N)))) bq:=by
 obtain⟨B,M,A,f⟩:=aI q _ w;obtain⟨H,L,r,s⟩:=aI b _ o;cases s;cases f with
 | @box _ E f=>
  obtain⟨d,u,ag⟩:=f.get v;have:=a d ag;subst this;have C:q≠b:=by grind
  have k1:ds N J N (dl J b):=td;have k2:ds N (dl J b) (N+1) (cF (dl J b) N (.arr t (l.take h0))):=lo;have z:a8 (cF (dl J b) N (.arr t (l.take h0))) q=some (.box cs):=by rw[hP,bB,oz,al (λe=>C e.symm)];grind
  have k3:ds (N+1) (cF (dl J b) N (.arr t (l.take h0))) (N+1) (cF (cF (dl J b) N (.arr t (l.take h0))) q (.box (cs.set j (.arr N)))):=n0 (d' _) z (λp h=>by grind[cS.dh]);have i:=(k1.trans k2).trans k3;have n:cz N (dl J b) (h9 J1 b):=by
   intro c x a;rw[oz]at a;split at a
   . grind
   . obtain⟨k,y,F,m⟩:=aI c x a;exact⟨k,y,by simp_all[fQ,al],m.mono k1⟩
  refine⟨_,Conv.trim A u r (by grind) B,he.mono i,?_⟩;rw[<-List.map_take];refine(n.put (by simp) k2 (.arr t (l.take h0))).put (by omega) k3 (.box ?_);refine a'.set (f.imp λ_ _ _ g=>g.mono i) (.arr N _ _ (by simp) λx a p K=>?_);rw[hP,hP,ae rfl]at a;grind[cS.dh,Option.some.injEq,List.length_take,Nat.min_eq_left]
theorem Ju{k:bg U->Nat->Option R}{r:R}(h:EZ J N k=some r)(he:c6 N J (λ_=>true) env env1)(aI:cz N J J1):
 ∃J' N' bq,k J' N'=some r/\Conv kk N env1 J1 N' env1 bq/\c6 N' J' (λ_=>true) env env1/\cz N' J' bq/\N<=N':=by
 unfold EZ at h;split at h
 . exact⟨J,N,J1,h,Conv.refl,he,aI,d' _⟩
 . rename_i q cs j b h0 e;obtain⟨g,f⟩:=CC e;split at h
   . rename_i t l a;split at h
     . obtain⟨s1,i,m,n⟩:=Kz (kk:=kk) (h0:=h0) g f a (λd ag=>by
        cases ag with
        |pre _ sz _ _ c=>
         have c:=c _ a _ rfl
         grind) (by grind) he aI
       grind
     grind
   grind
def ua(kk:Nat):Nat->List (bm U)->Option (Nat×Nat)
 |_,[]=>none
 |j,.arr b::r=>match Nat.ble (b+1) kk with
  |true=>some (j,b)
  |false=>ua kk (j+1) r
 |j,_::r=>ua kk (j+1) r
def rO(kk:Nat)(J:bg U):bg U->Option (Nat×List (bm U)×Nat×Nat)
 |[]=>none
 |(q,.box _)::r=>match a8 J q with
  |some (.box cs)=>match ua kk 0 cs with
   |some p=>some (q,cs,p)
   |none=>rO kk J r
  |_=>rO kk J r
 |_::r=>rO kk J r
theorem Jv:∀{cs:List (bm U)} {j i b:Nat},ua kk j cs=some (i,b)->j<=i/\cs[i-j]?=some (.arr b)
 |[],j,i,b,a=>by grind[ua]
 |c::r,j,i,b,a=>by
  have next:ua kk (j+1) r=some (i,b)->j<=i/\(c::r)[i-j]?=some (.arr b):=by
   intro a;obtain⟨h1,e⟩:=Jv a;grind
  cases c with
  |arr d=>
   grind[ua]
  |_=>exact next a
theorem DD{kk q:Nat}{cs:List (bm U)}{i b:Nat}:∀{l:bg U},rO kk J l=some (q,cs,i,b)->a8 J q=some (.box cs)/\cs[i]?=some (.arr b)
 |[],a=>by grind[rO]
 |(k,x)::r,a=>by
  cases x with
  |box e=>
   simp only[rO]at a;split at a
   . rename_i f c;split at a
     . rename_i p d;obtain⟨rfl,rfl,rfl⟩:=a;exact⟨c,by simpa using(Jv d).2⟩
     . exact DD a
   . exact DD a
  |_=>exact DD (by simpa[rO]using a)
def ET{R:Type}(kk:Nat)(J:bg U)(k:bg U->Nat->Option R):Option R:=
 match rO kk J J with
 |none=>k J kk
 |some (q,cs,j,b)=>match a8 J b with
  |some (.arr t l)=>k (cF (cF (dl J b) kk (.arr t l)) q (.box (cs.set j (.arr kk)))) (kk+1)
  |_=>k J kk
theorem Y5{k:bg U->Nat->Option R}{r:R}(h:ET kk J k=some r)(he:c6 kk J (λ_=>true) env env1)(aI:cz kk J J1):
 ∃J' N' bq,k J' N'=some r/\Conv kk kk env1 J1 N' env1 bq/\c6 N' J' (λ_=>true) env env1/\cz N' J' bq/\kk<=N':=by
 unfold ET at h;split at h
 . exact⟨J,kk,J1,h,Conv.refl,he,aI,d' _⟩
 . rename_i q cs j b e;obtain⟨g,f⟩:=DD e;split at h
   . rename_i t l a
     obtain⟨s1,i,m,o⟩:=Kz (kk:=kk) g f a (λd ag=>by
      cases ag with
      |arr _ sz n _ c=>
       have c:=c _ a _ rfl
       grind) (d' _) he aI
     grind
   . exact⟨J,kk,J1,h,Conv.refl,he,aI,d' _⟩
inductive Pos where
 |slot (k:Nat)
 |cell (b j:Nat)
 |via (k j:Nat)
def A'(b j:Nat)(t:aL)(env:bS U)(J:bg U)(N:Nat):Option (bS U×bg U):=
 match a8 J b with
 |some (.box cs)=>match cs[j]? with
  |some .aA=>some (env,cF (cF J N (.arr t [])) b (.box (cs.set j (.arr N))))
  |_=>some (env,J)
 |_=>none
def Iy(p:Pos)(t:aL)(env:bS U)(J:bg U)(N:Nat):Option (bS U×bg U):=
 match p with
 |.slot k=>match a8 env k with
  |some (.c .aA)=>some ((k,.c (.arr N))::env,cF J N (.arr t []))
  |_=>some (env,J)
 |.cell b j=>A' b j t env J N
 |.via k j=>match a8 env k with
  |some (.c (.ptr b _))=>A' b j t env J N
  |_=>none
def EV:List (Pos×aL)->bS U->bg U->Nat->Option (bS U×bg U×Nat)
 |[],env,J,N=>some (env,J,N)
 |(p,t)::r,env,J,N=>match Iy p t env J N with
  |some (env',J')=>EV r env' J' (N+1)
  |none=>none
theorem Lw{t:aL}(he:c6 N J (λ_=>true) env env1)(aI:cz N J J1)(i:kk<=N):∃c bq,Conv kk N env1 J1 (N+1) c bq/\c6 (N+1) J (λ_=>true) env c/\cz (N+1) J bq:=by
 refine⟨env1,df _ N (.arr 1 []),λaD nt φ S a w g R=>⟨_,S,R.FP (by simp) (by omega)⟩,he.mono (ds.more (by simp)),λb x e=>?_⟩;obtain⟨h1,y,f,d⟩:=aI b x e;exact⟨by omega,y,by grind[c2],d.mono (ds.more (by simp))⟩
theorem Hl{b:Nat}(h:A' b j t env J N=some (env',J'))(he:c6 N J (λ_=>true) env env1)(aI:cz N J J1)(g:kk<=N):
 ∃f bq,Conv kk N env1 J1 (N+1) f bq/\c6 (N+1) J' (λ_=>true) env' f/\cz (N+1) J' bq:=by
 have same:=Lw (t:=t) he aI g;unfold A' at h;split at h
 . rename_i cs k;split at h
   . rename_i n;cases h;obtain⟨i,y,h1,a⟩:=aI b _ k;cases a with
     | @box _ q a=>
      obtain⟨d,m,ag⟩:=a.get n;cases ag;have c:ds N J (N+1) (cF J N (.arr t [])):=lo;have l:a8 (cF J N (.arr t [])) b=some (.box cs):=by rw[hP];grind
      have e:ds (N+1) _ (N+1) (cF _ b (.box (cs.set j (.arr N)))):=n0 (d' _) l (λp h=>by grind[cS.dh]);refine⟨_,_,Conv.ahR h1 m i (aL.sd (t:=t) (U:=U)) g,(he.mono c).mono e,(aI.put (by simp) c (.arr t [])).put (by omega) e (.box ?_)⟩;refine a'.set (a.imp λ_ _ _ h=>(h.mono c).mono e) (.arr N _ _ (by simp) λx o p r=>?_);rw[hP,hP]at o;grind[cS.dh]
   grind
 grind
theorem Y6{p:Pos}(h:Iy p t env J N=some (env',J'))(he:c6 N J (λ_=>true) env env1)(aI:cz N J J1)(e:kk<=N):
 ∃d bq,Conv kk N env1 J1 (N+1) d bq/\c6 (N+1) J' (λ_=>true) env' d/\cz (N+1) J' bq:=by
 have same:=Lw (t:=t) he aI e;unfold Iy at h;split at h
 . rename_i k;split at h
   . rename_i j;cases h;obtain⟨v1,h1,g⟩:=he k _ j;have:=g.u2;subst this;have f:ds N J (N+1) (cF J N (.arr t [])):=lo;refine⟨_,_,Conv.own h1 (aL.sd (t:=t) (U:=U)) e,λi v a=>?_,aI.put (by simp) f (.arr t [])⟩;simp only[a8]at a;simp only[look];split at a
     . rename_i b;cases a;rw[ae (c1 b)];refine⟨_,rfl,.c (.arr N _ _ (by simp) λx l p m=>?_)⟩;rw[hP,ae rfl]at l;grind[cS.dh]
     . rename_i b;rw[al (iD b)];exact(he.mono f) i v a
   grind
 . grind[Hl]
 grind[Hl]
def IT:List (bm U)->List Bool->Bool
 |[],[]=>true
 |.t _::cs,false::bs=>IT cs bs
 |.aA::cs,true::bs=>IT cs bs
 |_,_=>false
def SA(cs:List (bm U)):List (List Bool×Nat×aL)->Option (Nat×aL)
 |[]=>none
 |(bs,p)::r=>match IT cs bs with
  |true=>some p
  |false=>SA cs r
def Jg(l:List (List Bool×Nat×aL)):bg U->Option (Nat×Nat×aL)
 |[]=>none
 |(q,.box cs)::r=>match SA cs l with
  |some p=>some (q,p)
  |none=>Jg l r
 |_::r=>Jg l r
def EX{R:Type}(env:bS U)(J:bg U)(N:Nat)(k:bS U->bg U->Nat->Option R):Option R:=
 match Jg U.own J with
 |none=>EZ J N λJ N=>k env J N
 |some (q,j,t)=>match A' q j t env J N with
  |some (env,J)=>EZ J (N+1) λJ N=>k env J N
  |none=>none
theorem Jw{k:bS U->bg U->Nat->Option R}{r:R}(h:EX env J N k=some r)(he:c6 N J (λ_=>true) env env1)(aI:cz N J J1)(n:kk<=N):
 ∃env' J' N' f bq,k env' J' N'=some r/\Conv kk N env1 J1 N' f bq/\c6 N' J' (λ_=>true) env' f/\cz N' J' bq/\N<=N':=by
 unfold EX at h;split at h
 . obtain⟨q,i,p,a,b,c,d,g⟩:=Ju h he aI;exact⟨_,_,_,_,_,a,b,c,d,g⟩
 . split at h
   . rename_i e s o;obtain⟨aN,s1,j,l,m⟩:=Hl o he aI n;obtain⟨q,i,p,a,b,c,d,g⟩:=Ju h l m;exact⟨_,_,_,_,_,a,j.trans b,c,d,by omega⟩
   grind
theorem KA:∀{l:List (Pos×aL)} {env env':bS U} {J J':bg U} {N N':Nat} {env1:Env} {J1:ba},EV l env J N=some (env',J',N')->c6 N J (λ_=>true) env env1->cz N J J1->kk<=N->
 ∃a bq,Conv kk N env1 J1 N' a bq/\c6 N' J' (λ_=>true) env' a/\cz N' J' bq/\N<=N'
 |[],env,env',J,J',N,N',env1,J1,h,he,aI,b=>by obtain⟨rfl,rfl,rfl⟩:=h;exact⟨env1,J1,Conv.refl,he,aI,d' _⟩
 |(p,t)::r,env,env',J,J',N,N',env1,J1,h,he,aI,b=>by
  simp[EV]at h;split at h
  . rename_i e s h1;obtain⟨aN,s1,k1,k2,k3⟩:=Y6 h1 he aI b;obtain⟨c,i,d,f,g,j⟩:=KA h k2 k3 (by omega);exact⟨c,i,k1.trans d,f,g,by omega⟩
  grind
end
end
section
open Go
variable {U:cM}
inductive kv where
 |hole (ty:aL)
 |ptr (b o:Nat)
 |cJ (b:Nat)(ty:aL)(o:Nat)
 |dM (ty:aL)(o:Nat)
 |arr (b:Nat)
 |mp (b:Nat)
 |cP (b:Nat)
 |aA
 |e7
 |e6
 |fn (f:Nat)(caps:a7)
 |dead
inductive e4 where
 |c (s:kv)
 |agg (l:List kv)
 |row (n:Nat)
 |aY (l:List e4)
inductive fO where
 |box (l:List kv)
 |arr (ty:aL)
 |bk (n:Nat)
 |gone
 |set
 |buf (E:Nat)
 |b9 (E:Nat)(s:kv)
structure Shape where
 env:List (Nat×e4)
 st:List fO
abbrev eO(U:cM):=List (Cell U.D)
def vb:kv->eO U->bm U×eO U
 |.hole _,c::r=>(.t c,r)
 |.hole _,[]=>(.dead,[])
 |.ptr b o,r=>(.ptr b o,r)
 |.cJ b ty o,⟨.int _,n⟩::r=>(.cJ b ty (Int.toNat n) o,r)
 |.cJ _ _ _,r=>(.dead,r)
 |.dM _ o,c::r=>(.dM c.ty c.val o,r)
 |.dM _ _,[]=>(.dead,[])
 |.arr b,r=>(.arr b,r)
 |.mp b,r=>(.mp b,r)
 |.cP b,r=>(.cP b,r)
 |.aA,r=>(.aA,r)
 |.e7,r=>(.e7,r)
 |.e6,r=>(.e6,r)
 |.fn f caps,r=>(.fn f caps,r)
 |.dead,r=>(.dead,r)
def x8:List kv->eO U->List (bm U)×eO U
 |[],r=>([],r)
 |s::ss,r=>match vb s r with
  |(x,a)=>match x8 ss a with
   |(xs,b)=>(x::xs,b)
mutual
def l6:e4->eO U->bJ U×eO U
 |.c s,r=>match vb s r with
  |(x,a)=>(.c x,a)
 |.agg l,r=>match x8 l r with
  |(xs,a)=>(.agg xs,a)
 |.row _,c::r=>(.agg ((c.ty.row U c.val).map .t),r)
 |.row _,[]=>(.aY [],[])
 |.aY l,r=>match kO l r with
  |(xs,a)=>(.aY xs,a)
def kO:List e4->eO U->List (bJ U)×eO U
 |[],r=>([],r)
 |s::ss,r=>match l6 s r with
  |(x,a)=>match kO ss a with
   |(xs,e)=>(x::xs,e)
end
def BO:List (Nat×e4)->eO U->bS U×eO U
 |[],r=>([],r)
 |(k,s)::ss,r=>match l6 s r with
  |(x,a)=>match BO ss a with
   |(xs,b)=>((k,x)::xs,b)
def jU:fO->eO U->Option (cS U)×eO U
 |.box l,r=>match x8 l r with
  |(xs,a)=>(some (.box xs),a)
 |.arr _,⟨.slice t,l⟩::r=>(some (.arr t l),r)
 |.arr _,r=>(none,r)
 |.bk _,c::r=>(some (.box ((c.ty.row U c.val).map .t)),r)
 |.bk _,[]=>(none,[])
 |.gone,r=>(none,r)
 |.set,⟨.slice .str,l⟩::r=>(some (.set l),r)
 |.set,r=>(none,r)
 |.buf E,⟨.str,s⟩::r=>(some (.buf E s),r)
 |.buf _,r=>(none,r)
 |.b9 E s,r=>match vb s r with
  |(x,a)=>(some (.b9 E x),a)
def hL:Nat->List fO->eO U->bg U
 |_,[],_=>[]
 |j,s::ss,r=>match jU s r with
  |(some x,a)=>(j,x)::hL (j+1) ss a
  |(none,a)=>hL (j+1) ss a
def qJ{α:Type}:List α->Nat->Option α
 |[],_=>none
 |a::_,0=>some a
 |_::l,n+1=>qJ l n
theorem D5{α:Type}:∀{l:List α} {n:Nat},qJ l n=l[n]?
 |[],n=>by rfl
 |a::l,0=>by rfl
 |a::l,n+1=>by simp[qJ,D5]
def qM(bs:a7)(j b:Nat):Bool:=match qJ bs j with
 |some a=>Nat.beq a b
 |none=>false
def Bo(bs:a7):a7->a7->Bool
 |[],[]=>true
 |j::a,c::cs=>qM bs j c&&Bo bs a cs
 |_,_=>false
def Gt(ty:aL):bm U->Option (Cell U.D)
 |.t c=>match Cell.as ty c with
  |some x=>some ⟨ty,x⟩
  |none=>none
 |.aA=>match ty with
  |.slice t=>some ⟨.slice t,([]:List (t.den U.D))⟩
  |_=>none
 |_=>none
def xF(bs:a7):kv->bm U->Option (eO U)
 |.hole ty,x=>match Gt ty x with
  |some c=>some [c]
  |none=>none
 |.ptr j o,.ptr b a=>match qM bs j b&&Nat.beq o a with
  |true=>some []
  |false=>none
 |.cJ j ty o,.cJ b d i a=>match qM bs j b&&(Nat.beq o a&&aL.beq ty d)with
  |true=>some [⟨.int .i64,(i:Int)⟩]
  |false=>none
 |.dM ty o,.dM d x a=>match Nat.beq o a,Cell.as ty (⟨d,x⟩:Cell U.D)with
  |true,some x=>some [⟨ty,x⟩]
  |_,_=>none
 |.arr j,.arr b=>match qM bs j b with
  |true=>some []
  |false=>none
 |.mp j,.mp b=>match qM bs j b with
  |true=>some []
  |false=>none
 |.cP j,.cP b=>match qM bs j b with
  |true=>some []
  |false=>none
 |.aA,.aA=>some []
 |.e7,.e7=>some []
 |.e6,.e6=>some []
 |.fn f g,.fn e cs=>match Nat.beq f e&&Bo bs g cs with
  |true=>some []
  |false=>none
 |.dead,_=>some []
 |_,_=>none
def qE(bs:a7):List kv->List (bm U)->Option (eO U)
 |[],[]=>some []
 |s::ss,x::xs=>match xF bs s x,qE bs ss xs with
  |some a,some b=>some (a++b)
  |_,_=>none
 |_,_=>none
mutual
def jS(bs:a7):e4->bJ U->Option (eO U)
 |.c s,.c x=>xF bs s x
 |.agg l,.agg xs=>qE bs l xs
 |.row n,.agg xs=>match qv U (.nm n) xs with
  |some x=>some [⟨.nm n,x⟩]
  |none=>none
 |.aY l,.aY xs=>mD bs l xs
 |_,_=>none
def mD(bs:a7):List e4->List (bJ U)->Option (eO U)
 |[],[]=>some []
 |s::ss,x::xs=>match jS bs s x,mD bs ss xs with
  |some a,some b=>some (a++b)
  |_,_=>none
 |_,_=>none
end
def xG(bs:a7)(env:bS U):List (Nat×e4)->Option (eO U)
 |[]=>some []
 |(k,s)::ss=>match a8 env k with
  |some x=>match jS bs s x,xG bs env ss with
   |some a,some b=>some (a++b)
   |_,_=>none
  |none=>none
def o2(bs:a7):fO->cS U->Option (eO U)
 |.box l,.box xs=>qE bs l xs
 |.arr ty,.arr t l=>match Cell.as (.slice ty) (⟨.slice t,l⟩:Cell U.D)with
  |some l=>some [⟨.slice ty,l⟩]
  |none=>none
 |.arr ty,.rows sz r=>match Nat.beq (ty.sz U) sz,mq U ty r with
  |true,some l=>some [⟨.slice ty,l⟩]
  |_,_=>none
 |.bk n,.box xs=>match qv U (.nm n) xs with
  |some x=>some [⟨.nm n,x⟩]
  |none=>none
 |.set,.set l=>some [⟨.slice .str,l⟩]
 |.buf E,.buf a s=>match Nat.beq E a with
  |true=>some [⟨.str,s⟩]
  |false=>none
 |.b9 E s,.b9 a x=>match Nat.beq E a with
  |true=>xF bs s x
  |false=>none
 |_,_=>none
def iS(bs:a7)(J:bg U):Nat->List fO->Option (eO U)
 |_,[]=>some []
 |j,.gone::ss=>iS bs J (j+1) ss
 |j,s::ss=>match qJ bs j with
  |some b=>match a8 J b with
   |some x=>match o2 bs s x,iS bs J (j+1) ss with
    |some a,some r=>some (a++r)
    |_,_=>none
   |none=>none
  |none=>none
variable{a:eO U}{ss:List fO}
section
variable {kk N:Nat}{J Jc:bg U}{J1:ba}{env:bS U}{env1:Env}{bs:a7}
def Can(bs:a7)(J Jc:bg U):Prop:=∀j b a,bs[j]?=some b->a8 Jc j=some a->∃x,a8 J b=some x/\∀p,a.dh=some p->x.dh=some p
theorem m'(bZ:bs.Nodup){j b:Nat}(h:bs[j]?=some b):pos bs b=some j:=by
 induction bs generalizing j with
 |nil=>grind
 |cons a bs ih=>
  grind[pos]
theorem vY{j b:Nat}(h:qM bs j b=true):bs[j]?=some b:=by
 unfold qM at h;rw[D5]at h;split at h
 all_goals simp_all
theorem KB(bZ:bs.Nodup):∀{a cs:a7},Bo bs a cs=true->pZ bs cs=some a
 |[],[],_=>rfl
 |j::a,c::cs,h=>by
  simp[Bo]at h;simp[pZ,m' bZ (vY h.1),KB bZ h.2]
theorem ZL{ty:aL}{x:bm U}{c:Cell U.D}{d:C}(h:Gt ty x=some c)(ag:cc N J x d):dE (d.bQ bs) (.t (c.enc U))/\c.ty=ty:=by
 unfold Gt at h;split at h
 . split at h
   . rename_i b y a;cases h;rw[Cell.j7 a]at ag;cases ag;exact⟨dE.refl _,rfl⟩
   grind
 . split at h
   . cases h;cases ag;exact⟨dE.aA,rfl⟩
   grind
 grind
theorem Im(bZ:bs.Nodup)(v:Can bs J Jc){s:kv}{x:bm U}(h:xF bs s x=some a):
 ∃y,(∀r,vb s (a++r)=(y,r))/\∀d,cc N J x d->∃u,dE (d.bQ bs) u/\cc bs.length Jc y u:=by
 unfold xF at h;split at h
 . split at h
   . rename_i c B;cases h;exact⟨.t c,λr=>rfl,λd g=>⟨_,(ZL B g).1,.t c⟩⟩
   grind
 . rename_i j o b w;split at h
   . rename_i k;simp only[c5]at k;have:=c1 k.2;subst this;cases h;refine⟨.ptr j o,λr=>rfl,λd g=>⟨.ptr j o,?_,.ptr j o⟩⟩;cases g;simp only[C.bQ,m' bZ (vY k.1)];exact dE.refl _
   grind
 . rename_i j ty o b G i w;split at h
   . rename_i k;simp only[c5]at k;have:=c1 k.2.1;subst this;have:=aL.beq_eq k.2.2;subst this;cases h;refine⟨.cJ j ty i o,λr=>rfl,λd g=>⟨.cJ j (ty.sz U) i o,?_,.cJ j ty i o⟩⟩;cases g;simp only[C.bQ,m' bZ (vY k.1)];exact dE.refl _
   grind
 . rename_i ty o G x w;split at h
   . rename_i y D F;have:=c1 D;subst this;cases h;have e:=Cell.j7 F;cases e;refine⟨.dM ty y o,λr=>rfl,λd g=>⟨d,?_,?_⟩⟩
     . cases g;exact dE.refl _
     . cases g;exact .dM ty y o
   grind
 . rename_i j b;split at h
   . rename_i k;cases h;refine⟨.arr j,λr=>rfl,λd g=>?_⟩;cases g with
     |arr _ sz n A aa=>
      have l:=vY k;refine⟨.arr j sz 0 n,?_,.arr j sz n (dS.1 l).1 λx m p E=>?_⟩
      . simp only[C.bQ,m' bZ l];exact dE.refl _
      . obtain⟨H,h1,z⟩:=v j b x l m;grind
   grind
 . rename_i j b;split at h
   . rename_i k;cases h;refine⟨.mp j,λr=>rfl,λd g=>?_⟩;cases g;refine⟨.mp j,?_,.mp j⟩;simp only[C.bQ,m' bZ (vY k)];exact dE.refl _
   grind
 . rename_i j b;split at h
   . rename_i k;cases h;refine⟨.cP j,λr=>rfl,λd g=>?_⟩;cases g with
     |cP _ n A aa=>
      have l:=vY k;refine⟨.cP j n,?_,.cP j n (dS.1 l).1 λx m p E=>?_⟩
      . simp only[C.bQ,m' bZ l];exact dE.refl _
      . obtain⟨H,h1,z⟩:=v j b x l m;grind
   grind
 . cases h;exact⟨.aA,λr=>rfl,λd g=>by cases g;exact⟨.aA,dE.refl _,.aA⟩⟩
 . cases h;exact⟨.e7,λr=>rfl,λd g=>by cases g;exact⟨.e7,dE.refl _,.e7⟩⟩
 . cases h;exact⟨.e6,λr=>rfl,λd g=>by cases g;exact⟨.e6,dE.refl _,.e6⟩⟩
 . rename_i f q I cs;split at h
   . rename_i k;simp only[c5]at k;have:=c1 k.1;subst this;cases h;refine⟨.fn f q,λr=>rfl,λd g=>⟨.fn f q,?_,.fn f q⟩⟩;cases g;simp only[C.bQ,KB bZ k.2];exact dE.refl _
   grind
 . cases h;exact⟨.dead,λr=>rfl,λd g=>⟨.dead,dE.dead _,.dead _⟩⟩
 . cases h
theorem Hm(bZ:bs.Nodup)(f:Can bs J Jc):∀{ss:List kv} {xs:List (bm U)} {a:eO U},qE bs ss xs=some a->
 ∃d,(∀r,x8 ss (a++r)=(d,r))/\∀b,a' (cc N J) xs b->∃c,a' dE (b.map (C.bQ bs)) c/\a' (cc bs.length Jc) d c
 |[],[],a,h=>by simp[qE]at h;subst h;exact⟨[],λr=>rfl,λb e=>by cases e;exact⟨[],.nil,.nil⟩⟩
 |s::ss,x::xs,a,h=>by
  simp[qE]at h;split at h
  . rename_i a1 a2 h1 l;cases h;obtain⟨y,f1,j⟩:=Im bZ f h1;obtain⟨d,f2,k⟩:=Hm bZ f l;refine⟨y::d,λr=>by simp[x8,f1,f2],λb e=>?_⟩;cases e with
    |cons ve m=>
     obtain⟨g,aN,i⟩:=j _ ve;obtain⟨c,dx,hI⟩:=k _ m;exact⟨g::c,.cons aN dx,.cons i hI⟩
  grind
 |[],_::_,a,h=>by simp[qE]at h
 |_::_,[],a,h=>by grind[qE]
theorem Lx{n:Nat}{xs:List (bm U)}{x:(aL.nm n).den U.D}(h:qv U (.nm n) xs=some x):∀b,a' (cc N J) xs b->∃f,a' dE (b.map (C.bQ bs)) f/\a' (cc bs.length Jc) (((aL.nm n).row U x).map .t) f:=by
 intro b i;refine⟨((aL.nm n).enc U x).map .t,?_,Ac⟩;unfold qv at h;split at h
 . rename_i row a;rw[aL.u',aL.FN h];clear h;generalize (aL.nm n).cells U=dq at a;induction xs generalizing dq row b with
   |nil=>
    cases i;cases dq<;>simp[iF]at a;subst a;exact .nil
   |cons y j ih=>
    cases i with
    | @cons _ d _ b h1 g=>
     cases dq with
     |nil=>grind[iF]
     |cons ty dq=>
      cases h1 with
      |t c=>cases ty<;>simp[iF]at a<;>(split at a<;>first|(cases a;done)|(rename_i q e;cases a;exact .cons (dE.refl _) (ih _ g _ _ e)))
      |aA=>
       cases ty<;>simp[iF]at a;split at a
       . rename_i q e;cases a;exact .cons dE.aA (ih _ g _ _ e)
       grind
      |_=>grind[iF]
 grind
mutual
theorem Fh(bZ:bs.Nodup)(A:Can bs J Jc):∀{s:e4} {x:bJ U} {a:eO U},jS bs s x=some a->
 ∃y,(∀r,l6 s (a++r)=(y,r))/\∀d,cb N J x d->∃j,gG (d.bQ bs) j/\cb bs.length Jc y j
 |.c s,.c x,a,h=>by
  simp only[jS]at h;obtain⟨y,f,g⟩:=Im (N:=N) bZ A h;refine⟨.c y,λr=>by simp only[l6,f],λd e=>?_⟩;cases e with
  |c e=>obtain⟨j,aN,q⟩:=g _ e;exact⟨.c j,.c aN,.c q⟩
 |.agg l,.agg xs,a,h=>by
  simp only[jS]at h;obtain⟨y,f,g⟩:=Hm (N:=N) bZ A h;refine⟨.agg y,λr=>by simp only[l6,f],λd e=>?_⟩;cases e with
  |agg e=>obtain⟨j,aN,q⟩:=g _ e;exact⟨.agg j,.agg aN,.agg q⟩
 |.row n,.agg xs,a,h=>by
  simp only[jS]at h;split at h
  . rename_i x v;cases h;refine⟨.agg (((aL.nm n).row U x).map .t),λr=>rfl,λd e=>?_⟩;cases e with
    |agg e=>obtain⟨j,aN,q⟩:=Lx v _ e;exact⟨.agg j,.agg aN,.agg q⟩
  . cases h
 |.aY l,.aY xs,a,h=>by
  simp only[jS]at h;obtain⟨w,f,af,g⟩:=u4 bZ A h;refine⟨.aY w,λr=>by simp only[l6,f],λd e=>?_⟩;cases e with
  |aY _ o H e=>
   obtain⟨p,aN,q,dx⟩:=g o H e;refine⟨.aY p,.aY _ _ (by rw[CU];exact aN.symm) ?_,.aY _ _ (by omega) λi x d v B=>(dx i x d v B)⟩;intro i x y v K;rw[Dk,bz]at v;grind
 |.c _,.agg _,a,h=>by simp[jS]at h
 |.c _,.aY _,a,h=>by simp[jS]at h
 |.agg _,.c _,a,h=>by simp[jS]at h
 |.agg _,.aY _,a,h=>by simp[jS]at h
 |.row _,.c _,a,h=>by simp[jS]at h
 |.row _,.aY _,a,h=>by simp[jS]at h
 |.aY _,.c _,a,h=>by simp[jS]at h
 |.aY _,.agg _,a,h=>by simp[jS]at h
theorem u4(bZ:bs.Nodup)(A:Can bs J Jc):∀{ss:List e4} {xs:List (bJ U)} {a:eO U},mD bs ss xs=some a->
 ∃w:List (bJ U),(∀r,kO ss (a++r)=(w,r))/\w.length=xs.length/\∀o:List V,xs.length=o.length->(∀(i:Nat) x d,xs[i]?=some x->o[i]?=some d->cb N J x d)->
  ∃p:List V,p.length=o.length/\(∀(i:Nat) (d j:V),o[i]?=some d->p[i]?=some j->gG (d.bQ bs) j)/\(∀(i:Nat) y j,w[i]?=some y->p[i]?=some j->cb bs.length Jc y j)
 |[],[],a,h=>by simp[mD]at h;subst h;exact⟨[],λr=>rfl,rfl,λo af e=>⟨[],by simpa using af,by simp,by simp⟩⟩
 |s::ss,x::xs,a,h=>by
  simp only[mD]at h;split at h
  . rename_i a1 a2 h1 G;cases h;obtain⟨y,f1,E⟩:=Fh bZ A h1;obtain⟨w,f2,af,F⟩:=u4 bZ A G;refine⟨y::w,λr=>by simp only[kO,ir,f1,f2],by simp[af],λo D e=>?_⟩;cases o with
    |nil=>simp at D
    |cons d o=>
     obtain⟨j,aN,q⟩:=E d (e 0 x d rfl rfl);obtain⟨p,dx,hI,jT⟩:=F o (by simpa using D) λi x d v B=>e (i+1) x d (by simpa using v) (by simpa using B);refine⟨j::p,by simp[dx],λi=>?_,λi=>?_⟩
     . grind
     grind
  . cases h
 |[],_::_,a,h=>by simp[mD]at h
 |_::_,[],a,h=>by simp[mD]at h
end
theorem G':∀{ks:a7} {k:Nat} {g:Bool} {v:V},k∈ks->look env1 k=some (g,v)->look (oq bs env1 ks) k=some (g,v.bQ bs)
 |x::ks,k,g,v,b,af=>by
  simp[oq];by_cases h:x=k
  . grind[look]
  . have a:k∈ks:=(by grind);split
    . simp[look,al h];exact G' a af
    . exact G' a af
theorem KC(bZ:bs.Nodup)(f:Can bs J Jc)(he:c6 N J (λ_=>true) env env1):∀{ss:List (Nat×e4)} {a:eO U},xG bs env ss=some a->
 ∃e,(∀r,BO ss (a++r)=(e,r))/\∃c:Env,c6 bs.length Jc (λ_=>true) e c/\∀k g j,look c k=some (g,j)->k∈ss.map Prod.fst/\∃v,look env1 k=some (g,v)/\gG (v.bQ bs) j
 |[],a,h=>by simp[xG]at h;subst h;exact⟨[],λr=>rfl,[],λk v t=>by grind[a8],λk g v h=>by grind[look]⟩
 |(k,s)::ss,a,h=>by
  simp[xG]at h;split at h
  . rename_i x p;split at h
    . rename_i a1 a2 h1 n;cases h;obtain⟨y,f1,m⟩:=Fh bZ f h1;obtain⟨e,f2,c,aN,q⟩:=KC bZ f he n;obtain⟨d,k1,k2⟩:=he k x p;obtain⟨l,u,w⟩:=m d k2;refine⟨(k,y)::e,λr=>by simp[BO,f1,f2],(k,true,l)::c,λi v b=>?_,λi g v b=>?_⟩
      . simp[a8]at b;simp[look];split at b
        . simp_all
        . rename_i o;rw[al (iD o)];exact aN i v b
      . simp[look]at b;grind
    . cases h
  grind
theorem Ip(bZ:bs.Nodup)(k:Can bs J Jc){s:fO}{x:cS U}(h:o2 bs s x=some a):
 ∃y,(∀r,jU s (a++r)=(some y,r))/\(∀d,hV N J x d->∃i,kr (d.bQ bs) i/\hV bs.length Jc y i):=by
 unfold o2 at h;split at h
 . obtain⟨o,f,g⟩:=Hm bZ k h;refine⟨.box o,λr=>by grind[jU],λd b=>?_⟩;cases b with
   |box b=>obtain⟨j,aN,c⟩:=g _ b;exact⟨.box _,.box aN,.box c⟩
 . rename_i ty t q;split at h
   . rename_i l af;cases h;have e:=Cell.j7 af;cases e;refine⟨.arr ty l,λr=>rfl,λd b=>?_⟩;cases b;exact⟨_,.arr,.arr ty l⟩
   grind
 . rename_i ty sz r;split at h
   . rename_i l m af;cases h;have:=c1 m;subst this;refine⟨.arr ty l,λr=>rfl,λd b=>?_⟩;cases b with
     |rows h1 p=>
      refine⟨_,.arr,?_⟩;rw[<-wg af h1];exact .arr ty l
   grind
 . split at h
   . rename_i x n;cases h;refine⟨.box _,λr=>rfl,λd b=>?_⟩;cases b with
     |box b=>obtain⟨j,aN,c⟩:=Lx n _ b;exact⟨.box j,.box aN,.box c⟩
   grind
 . cases h;refine⟨.set _,λr=>rfl,λd b=>?_⟩;cases b;exact⟨_,.same,.set _⟩
 . split at h
   . rename_i dL;have:=c1 dL;subst this;cases h;refine⟨.buf _ _,λr=>rfl,λd b=>?_⟩;cases b;exact⟨_,.same,.buf _ _⟩
   grind
 . split at h
   . rename_i dL;have:=c1 dL;subst this;obtain⟨y,f,g⟩:=Im bZ k h;refine⟨.b9 _ y,λr=>by simp[jU,f];rfl,λd b=>?_⟩;cases b with
     |b9 b=>obtain⟨i,aN,c⟩:=g _ b;exact⟨.b9 _ i,.b9 aN,.b9 c⟩
   grind
 grind
theorem Jx{t:aL}:∀{r:List (List (bm U))} {l:List (t.den U.D)},mq U t r=some l->l.length=r.length
 |[],l,h=>by grind[mq]
 |r::c,l,h=>by
  simp[mq]at h;split at h
  . rename_i x xs b a;cases h;simp[Jx a]
  grind
theorem ab9{s:fO}{x y:cS U}{r:eO U}(h:o2 bs s x=some a)(b:jU s (a++r)=(some y,r)):∀p,y.dh=some p->x.dh=some p:=by
 unfold o2 at h;split at h
 . grind[jU,cS.dh]
 . split at h
   . rename_i l af;have e:=Cell.j7 af;simp only[jU,uz,fS,qj]at b;grind
   grind
 . split at h
   . rename_i l c af;have:=c1 c;subst this;simp only[jU,uz,fS,qj]at b;grind[cS.dh,Jx]
   grind
 . split at h
   . cases h;intro p d;simp only[jU,uz,fS,dV,dG,qj]at b;grind[cS.dh]
   grind
 . simp only[jU,uz,fS,dV,dG,qj]at b;grind
 . split at h
   . rename_i dL;have:=c1 dL;simp only[jU,uz,fS,dV,dG,qj]at b;grind
   grind
 . grind[jU,cS.dh]
 grind
theorem pM(bZ:bs.Nodup):∀{ss:List fO} {j:Nat} {a:eO U},iS bs J j ss=some a->
 (∀i c,a8 (hL j ss a) i=some c->j<=i/\i<j+ss.length/\∃b x,bs[i]?=some b/\a8 J b=some x/\∃s d,o2 bs s x=some d/\∀r,jU s (d++r)=(some c,r))
 |[],j,a,h=>by grind[hL,a8]
 |.gone::ss,j,a,h=>by
  intro i c e;simp only[iS]at h;obtain⟨h1,g,m⟩:=pM bZ h i c e;grind
 |.box l::ss,j,a,h=>u3 bZ (λ{j a}=>pM bZ) (by simpa only[iS]using h)
 |.arr l::ss,j,a,h=>u3 bZ (λ{j a}=>pM bZ (a:=a)) (by simpa only[iS]using h)
 |.bk l::ss,j,a,h=>u3 bZ (λ{j a}=>pM bZ (ss:=ss) (j:=j) (a:=a)) (by simpa only[iS]using h)
 |.set::ss,j,a,h=>u3 bZ (λ{j a}=>pM bZ (ss:=ss) (j:=j) (a:=a)) (by simpa only[iS]using h)
 |.buf E::ss,j,a,h=>u3 bZ (λ{j a}=>pM bZ (ss:=ss) (j:=j) (a:=a)) (by simpa only[iS]using h)
 |.b9 E l::ss,j,a,h=>u3 bZ (λ{j a}=>pM bZ (ss:=ss) (j:=j) (a:=a)) (by grind[iS])
where
 u3 (bZ:bs.Nodup) {s:fO} {ss:List fO} (ih:∀{j:Nat} {a:eO U},iS bs J j ss=some a->
  (∀i c,a8 (hL j ss a) i=some c->j<=i/\i<j+ss.length/\∃b x,bs[i]?=some b/\a8 J b=some x/\∃s d,o2 bs s x=some d/\∀r,jU s (d++r)=(some c,r))) {j:Nat} {a:eO U} (h:(match qJ bs j with
  |some b=>match a8 J b with
   |some x=>match o2 bs s x,iS bs J (j+1) ss with
    |some a,some r=>some (a++r)
    |_,_=>none
   |none=>none
  |none=>none)=some a):(∀i c,a8 (hL j (s::ss) a) i=some c->j<=i/\i<j+(s::ss).length/\∃b x,bs[i]?=some b/\a8 J b=some x/\∃s d,o2 bs s x=some d/\∀r,jU s (d++r)=(some c,r)):=by
  intro i c e;split at h
  . rename_i b k;rw[D5]at k;split at h
    . split at h
      . rename_i a1 a2 h1 g;cases h;obtain⟨y,f,_⟩:=Ip (N:=0) (J:=J) (Jc:=[]) bZ (λ_ _ _ _ h=>by simp[a8]at h) h1;simp only[hL,f,a8]at e;grind[c1]
      . cases h
    . cases h
  . cases h
def hq(U:cM)(bI:Shape)(a:eO U):bS U×bg U:=
 match BO bI.env a with
 |(e,r)=>(e,hL 0 bI.st r)
def Fg(bs:a7)(bI:Shape)(env:bS U)(J:bg U):Option (eO U):=
 match xG bs env bI.env,iS bs J 0 bI.st with
 |some a,some b=>some (a++b)
 |_,_=>none
theorem zQ(bZ:bs.Nodup){b:eO U}(g:iS bs J 0 ss=some b):Can bs J (hL 0 ss b):=by
 intro j c k a i;obtain⟨_,_,m,x,h1,d,s,l,e,f⟩:=pM bZ g j k i;rw[h1]at a;cases a;exact⟨x,d,ab9 e (f [])⟩
theorem yQ:∀{r:a7} {i j c:Nat} {x:bR},r[j]?=some c->aX J1 c=some x->aX (fH bs J1 i r) (i+j)=some (x.bQ bs)
 |[],i,j,c,x,h,_=>by grind
 |b::r,i,0,c,x,h,a=>by
  grind[fH,aX]
 |b::r,i,j+1,c,x,h,a=>by
  simp[fH];have:=yQ (i:=i+1) (j:=j) (r:=r) (by grind) a;grind[aX]
theorem ED(bZ:bs.Nodup)(aI:cz N J J1){b:eO U}(r:iS bs J 0 ss=some b):
 ∃bq,sv (fH bs J1 0 bs) bq/\cz bs.length (hL 0 ss b) bq:=by
 have H:=zQ bZ r;have L:=pM bZ r;generalize hL 0 ss b=Jc at*;have key:∀(l:bg U),(∀i a,a8 l i=some a->a8 Jc i=some a)->∃bq:ba,(∀i x,aX bq i=some x->∃y,aX (fH bs J1 0 bs) i=some y/\kr y x)/\(∀i a,a8 l i=some a->i<bs.length/\∃y,aX bq i=some y/\hV bs.length Jc a y):=by
  intro l;induction l with
  |nil=>intro _;exact⟨[],λi x h=>by grind[aX],λi x h=>by grind[a8]⟩
  |cons p l ih=>
   obtain⟨d,u⟩:=p;intro af;have:=by
    have aux:∀(m:bg U),(∀i a,i≠d->a8 m i=some a->a8 Jc i=some a)->∃bq:ba,(∀i x,aX bq i=some x->∃y,aX (fH bs J1 0 bs) i=some y/\kr y x)/\(∀i a,i≠d->a8 m i=some a->i<bs.length/\∃y,aX bq i=some y/\hV bs.length Jc a y):=by
     intro m V;have P:∀i a,a8 (dl m d) i=some a->a8 Jc i=some a:=by
      intro i a h;rw[oz]at h;grind
     have build:∀n,∃bq:ba,(∀i x,aX bq i=some x->∃y,aX (fH bs J1 0 bs) i=some y/\kr y x)/\(∀i a,i<n->a8 (dl m d) i=some a->i<bs.length/\∃y,aX bq i=some y/\hV bs.length Jc a y):=by
      intro n;induction n with
      |zero=>exact⟨[],λi x h=>by grind[aX],λi x h=>by omega⟩
      |succ n R=>
       obtain⟨s,h1,g⟩:=R;cases aH:a8 (dl m d) n with
       |none=>exact⟨s,h1,λi a k c=>g i a (by grind) c⟩
       |some G=>
        obtain⟨_,_,v,x,o,A,T,M,B,O⟩:=L n G (P n G aH);obtain⟨_,y,k1,k2⟩:=aI v x A;obtain⟨z,f,q⟩:=Ip (N:=N) bZ H B;have:z=G:=(by simp_all);subst this;obtain⟨t,S,C⟩:=q y k2;have ht:=yQ (bs:=bs) (i:=0) (j:=n) o k1;refine⟨df s n t,λi x k=>?_,λi a k c=>?_⟩
        . grind[c2]
        . by_cases e:i=n
          . subst e;rw[aH]at c;cases c;exact⟨(dS.1 o).1,t,by rw[c2,ae rfl],C⟩
          . obtain⟨D,z,E,F⟩:=g i a (by omega) c;exact⟨D,z,by rw[c2,al (λw=>e w.symm)];exact E,F⟩
     obtain⟨s,h1,g⟩:=build bs.length;refine⟨s,h1,λi a K c=>?_⟩;have I:a8 (dl m d) i=some a:=by rw[oz,al (λe=>K e.symm)];exact c
     grind
    exact aux l λi a K h=>af i a (by
     grind[a8,c1])
   obtain⟨s,h1,g⟩:=this;have Q:a8 Jc d=some u:=af d u (by simp[a8,Nat.beq_refl]);obtain⟨_,_,v,x,o,A,T,M,B,O⟩:=L d u Q;obtain⟨_,y,k1,k2⟩:=aI v x A;obtain⟨z,f,q⟩:=Ip (N:=N) bZ H B;have:z=u:=(by simp_all);subst this;obtain⟨t,S,C⟩:=q y k2;have ht:=yQ (bs:=bs) (i:=0) (j:=d) o k1;refine⟨df s d t,λi x k=>?_,λi a c=>?_⟩
   . rw[c2]at k;grind
   . by_cases e:i=d
     . subst e;simp[a8,Nat.beq_refl]at c;subst c;exact⟨(dS.1 o).1,t,by rw[c2,ae rfl],C⟩
     . have I:a8 l i=some a:=by
        simp only[a8]at c;cases r:Nat.beq d i with
        |true=>exact absurd (c1 r).symm e
        |false=>rw[r]at c;exact c
       obtain⟨D,z,E,F⟩:=g i a e I;exact⟨D,z,by rw[c2,al (λw=>e w.symm)];exact E,F⟩
 obtain⟨s,h1,g⟩:=key Jc λ_ _ h=>h;exact⟨s,λi x k=>h1 i x k,λi a c=>g i a c⟩
theorem abA(bZ:bs.Nodup)(j:keeps kk bs=true)(he:c6 N J (λ_=>true) env env1)(aI:cz N J J1){bI:Shape}(h:Fg bs bI env J=some a):
 ∃c bq,Conv kk N env1 J1 bs.length c bq/\c6 bs.length (hq U bI a).2 (λ_=>true) (hq U bI a).1 c/\cz bs.length (hq U bI a).2 bq:=by
 unfold Fg at h;split at h
 . rename_i a1 b h1 d;cases h;obtain⟨e,f,c,aN,m⟩:=KC bZ (zQ bZ d) he h1;obtain⟨bq,s1,l⟩:=ED bZ aI d;have i:hq U bI (a1++b)=(e,hL 0 bI.st b):=(by grind[hq]);rw[i];refine⟨c,bq,(Conv.tidy (bI.env.map Prod.fst) bs bZ j).trans (Conv.weaken (λk g n af=>?_) s1),aN,l⟩;grind[G']
 grind
end
end
section
open Go
variable {U:cM}
def fq(D:Nat->Type):aL->List aL->Type
 |t,[]=>t.den D
 |t,u::r=>t.den D×fq D u r
def aO(D:Nat->Type):List aL->Type
 |[]=>Unit
 |t::r=>fq D t r
def fq.cells(D:Nat->Type):(t:aL)->(ts:List aL)->fq D t ts->List (Cell D)
 |t,[],x=>[⟨t,x⟩]
 |t,u::r,x=>⟨t,x.1⟩::fq.cells D u r x.2
def aO.cells(D:Nat->Type):(ts:List aL)->aO D ts->List (Cell D)
 |[],_=>[]
 |t::r,x=>fq.cells D t r x
def FK{α:Type}:List α->Option α
 |[c]=>some c
 |_=>none
def ve{α:Type}:List α->Option (α×List α)
 |[]=>none
 |c::r=>some (c,r)
def fq.dec(D:Nat->Type):(t:aL)->(ts:List aL)->List (Cell D)->Option (fq D t ts)
 |t,[],l=>match FK l with
  |some c=>c.as t
  |none=>none
 |t,u::r,l=>match ve l with
  |some p=>match p.1.as t with
   |some x=>match fq.dec D u r p.2 with
    |some y=>some (x,y)
    |none=>none
   |none=>none
  |none=>none
def aO.dec(D:Nat->Type):(ts:List aL)->List (Cell D)->Option (aO D ts)
 |[],l=>match l with
  |[]=>some ()
  |_=>none
 |t::r,l=>fq.dec D t r l
variable{α:Type}{D:Nat->Type}{J:bg U}{N:Nat}{c:α×List α}
theorem ZM{l:List α}{c:α}(h:FK l=some c):l=[c]:=by
 unfold FK at h;grind
theorem ab'{l:List α}(h:ve l=some c):l=c.1::c.2:=by
 unfold ve at h;grind
theorem fq.fl:∀{ts:List aL} {t:aL} {a:List (Cell D)} {h:fq D t ts},fq.dec D t ts a=some h->fq.cells D t ts h=a
 |[],t,a,h,e=>by
  unfold fq.dec at e;split at e
  . rename_i c f;rw[ZM f,Cell.j7 e];rfl
  grind
 |u::r,t,a,h,e=>by
  unfold fq.dec at e;split at e
  . split at e
    . rename_i x o;split at e
      . rename_i y j;cases e;have:=fq.fl j;show⟨t,x⟩::fq.cells D u r y=a;grind[ab',Cell.j7]
      grind
    grind
  grind
theorem aO.fl:∀{ts:List aL} {a:List (Cell D)} {h:aO D ts},aO.dec D ts a=some h->aO.cells D ts h=a
 |[],[],h,e=>rfl
 |[],_::_,h,e=>by cases (show none=some h from e)
 |t::r,a,h,e=>fq.fl e
def fq.ke(U:cM):(t:aL)->(ts:List aL)->fq U.D t ts
 |t,[]=>t.ke U
 |t,u::r=>(t.ke U,fq.ke U u r)
def aO.ke(U:cM):(ts:List aL)->aO U.D ts
 |[]=>()
 |t::r=>fq.ke U t r
abbrev j6:=List (Nat×Nat)×List (Nat×aL)
def Gk:kv->bm U->j6->j6
 |.ptr j _,.ptr b _,s=>((j,b)::s.1,s.2)
 |.cJ j _ _,.cJ b _ _ _,s=>((j,b)::s.1,s.2)
 |.arr j,.arr b,s=>((j,b)::s.1,s.2)
 |.mp j,.mp b,s=>((j,b)::s.1,s.2)
 |.cP j,.cP b,s=>((j,b)::s.1,s.2)
 |.fn _ a,.fn _ cs,s=>(a.zip cs++s.1,s.2)
 |.hole (.slice t),.arr b,s=>(s.1,(b,t)::s.2)
 |_,_,s=>s
def Gl:List kv->List (bm U)->j6->j6
 |a::as,x::xs,s=>Gl as xs (Gk a x s)
 |_,_,s=>s
def C0:List aL->List (bm U)->j6->j6
 |.slice t::ts,.arr b::xs,s=>C0 ts xs (s.1,(b,t)::s.2)
 |_::ts,_::xs,s=>C0 ts xs s
 |_,_,s=>s
mutual
def Gn:e4->bJ U->j6->j6
 |.c a,.c x,s=>Gk a x s
 |.agg l,.agg xs,s=>Gl l xs s
 |.row n,.agg xs,s=>C0 (U.dq n) xs s
 |.aY l,.aY xs,s=>C1 l xs s
 |_,_,s=>s
def C1:List e4->List (bJ U)->j6->j6
 |a::as,x::xs,s=>C1 as xs (Gn a x s)
 |_,_,s=>s
end
def Gm(env:bS U):List (Nat×e4)->j6->j6
 |[],s=>s
 |(k,a)::r,s=>match a8 env k with
  |some x=>Gm env r (Gn a x s)
  |none=>Gm env r s
def ah3:fO->cS U->j6->j6
 |.box l,.box xs,s=>Gl l xs s
 |.bk n,.box xs,s=>C0 (U.dq n) xs s
 |.b9 _ a,.b9 _ x,s=>Gk a x s
 |_,_,s=>s
def w7(J:bg U)(kk:Nat):Nat->List fO->j6->a7->a7×List (Nat×aL)
 |_,[],s,acc=>(acc.reverse,s.2)
 |j,a::r,s,acc=>
  let b:=match a8 s.1 j with
   |some b=>b
   |none=>match Nat.ble (j+1) kk with
    |true=>j
    |false=>1000000+j
  match a8 J b with
  |some x=>w7 J kk (j+1) r (ah3 a x s) (b::acc)
  |none=>w7 J kk (j+1) r s (b::acc)
def ue:a7->Bool
 |[]=>true
 |a::l=>(l.all λb=>!(Nat.beq a b))&&ue l
theorem yR:∀{l:a7},ue l=true->l.Nodup
 |[],_=>wJ
 |a::l,h=>by
  simp[ue]at h;refine List.nodup_cons.2 ⟨λb=>?_,yR h.2⟩;have c:=h.1 a b;simp_all
def uL(kk:Nat)(own:List (Pos×aL))(bI:Shape)(ts:List aL)(env:bS U)(J:bg U)(N:Nat):Option (aO U.D ts):=
 match EV own env J N with
 |none=>none
 |some (env,J,_)=>match IS env J with
  |none=>none
  |some (env,J)=>match w7 J kk 0 bI.st (Gm env bI.env ([],[])) []with
   |(bs,b)=>match kY b env J with
    |none=>none
    |some (env,J)=>match ue bs&&(keeps kk bs&&Nat.beq bs.length bI.st.length)with
     |false=>none
     |true=>match Fg bs bI env J with
      |none=>none
      |some a=>aO.dec U.D ts a
section
variable {kk N:Nat}{J:bg U}{J1:ba}{env:bS U}{env1:Env}
theorem DN{own:List (Pos×aL)}{bI:Shape}{ts:List aL}{h:aO U.D ts}(b:uL kk own bI ts env J N=some h)(he:c6 N J (λ_=>true) env env1)(aI:cz N J J1)(y:kk<=N):
 ∃c bq,Conv kk N env1 J1 bI.st.length c bq/\c6 bI.st.length (hq U bI (aO.cells U.D ts h)).2 (λ_=>true) (hq U bI (aO.cells U.D ts h)).1 c/\cz bI.st.length (hq U bI (aO.cells U.D ts h)).2 bq/\kk<=bI.st.length:=by
 unfold uL at b;split at b
 . grind
 . rename_i G J2 E h1;obtain⟨c4,r8,e,u,l,cE⟩:=KA h1 he aI y;split at b
   . grind
   rename_i H B t;obtain⟨aN,s1,g,v,m⟩:=Zl t u l;have f:=e.trans g;split at b;rename_i bs K _;split at b
   . grind
   . rename_i I C k;obtain⟨F,O,i,w,n,_⟩:=Ad (kk:=kk) (gl:=[]) k v m;split at b
     . grind
     . rename_i d;simp only[c5]at d;obtain⟨q,r,s⟩:=d;have z:=c1 s;split at b
       . grind
       . rename_i a p;obtain⟨dx,A,j,x,o⟩:=abA (yR q) r w n p;rw[aO.fl b,<-z];refine⟨dx,A,f.trans (i.trans j),x,o,?_⟩;by_cases L:kk=0
         . omega
         . have M:(bs[kk-1]?==some (kk-1))=true:=by
            grind[keeps]
           grind
end
structure cH (U:cM) where
 f:Nat
 gC:List e4
 st:List fO
 ts:List aL
 eS:e4
 eK:List fO
 us:List aL
 F:aO U.D ts->Option (aO U.D us)
def cH.args(s:cH U)(h:aO U.D s.ts):List (bJ U):=(kO s.gC (aO.cells U.D s.ts h)).1
def cH.iA(s:cH U)(h:aO U.D s.ts):bg U:=hL 0 s.st (kO s.gC (aO.cells U.D s.ts h)).2
def cH.res(s:cH U)(r:aO U.D s.us):bJ U:=(l6 s.eS (aO.cells U.D s.us r)).1
def cH.rest(s:cH U)(r:aO U.D s.us):bg U:=hL 0 s.eK (l6 s.eS (aO.cells U.D s.us r)).2
def hz(P:Program)(s:cH U):Prop:=
 ∀h r,s.F h=some r->∀a J1,a' (cb s.st.length (s.iA h)) (s.args h) a->cz s.st.length (s.iA h) J1->
  eh P s.f a J1 s.st.length (λb bq N'=>N'=s.eK.length/\cb N' (s.rest r) (s.res r) b/\cz N' (s.rest r) bq)
def bm.sa:bm U->Bool
 |.t _|.dM .. |.aA|.e7|.e6=>true
 |.fn _ []=>true
 |_=>false
def gI:bJ U->Bool
 |.c x=>x.sa
 |.agg cs=>cs.all bm.sa
 |.aY vs=>go vs
where go:List (bJ U)->Bool
 |[]=>true
 |v::vs=>gI v&&go vs
def bm.o3:bm U->C
 |.t c=>.t (c.enc U)
 |.dM ty x o=>.dM (ty.enc U x) o
 |.aA=>.aA
 |.e7=>.e7
 |.e6=>.e6
 |.fn f caps=>.fn f caps
 |_=>.dead
def fJ:bJ U->V
 |.c x=>.c x.o3
 |.agg cs=>.agg (cs.map bm.o3)
 |.aY vs=>.aY (go vs)
where go:List (bJ U)->List V
 |[]=>[]
 |v::vs=>fJ v::go vs
theorem zJ{x:bm U}(h:x.sa=true):cc N J x x.o3/\(∀d,cc N J x d->d=x.o3)/\∀n,x.o3.aE n=true:=by
 cases x<;>simp[bm.sa]at h
 . exact⟨.t _,λd a=>by cases a;rfl,λ_=>rfl⟩
 . exact⟨.dM _ _ _,λd a=>by cases a;rfl,λ_=>rfl⟩
 . exact⟨.aA,λd a=>by cases a;rfl,λ_=>rfl⟩
 . exact⟨.e7,λd a=>by cases a;rfl,λ_=>rfl⟩
 . exact⟨.e6,λd a=>by cases a;rfl,λ_=>rfl⟩
 . rename_i f caps;cases caps with
   |nil=>exact⟨.fn _ _,λd a=>by cases a;rfl,λ_=>rfl⟩
   |cons=>grind
theorem Hn:∀{vs:List (bJ U)} {i:Nat},(fJ.go vs)[i]?=(vs[i]?).map fJ
 |[],i=>by rfl
 |v::vs,0=>by rfl
 |v::vs,i+1=>by simp[fJ.go,Hn]
theorem T3:∀{vs:List (bJ U)},(fJ.go vs).length=vs.length
 |[]=>rfl
 |v::vs=>by simp[fJ.go,T3]
theorem Kj:∀{vs:List (bJ U)} {i:Nat} {v:bJ U},gI.go vs=true->vs[i]?=some v->gI v=true
 |[],i,v,_,h=>by grind
 |x::vs,0,v,hs,h=>by grind[gI.go]
 |x::vs,i+1,v,hs,h=>by simp[gI.go]at hs;exact Kj hs.2 (by simpa using h)
theorem aux:∀(cs:List (bm U)),(∀x,x∈cs->x.sa=true)->a' (cc N J) cs (cs.map bm.o3)
 |[],_=>.nil
 |a::l,h=>.cons (zJ (h a (by simp))).1 (aux l λx b=>h x (by grind))
theorem vL{N:Nat}{J:bg U}:∀{x:bJ U},gI x=true->cb N J x (fJ x)/\∀n,(fJ x).aE n=true
 |.c x,h=>by
  obtain⟨h1,_,a⟩:=zJ h;exact⟨.c h1,λn=>a n⟩
 |.agg cs,h=>by
  simp[gI]at h;refine⟨.agg ?_,λn=>?_⟩
  . grind[aux]
  . simp[fJ,V.aE];intro c b;exact(zJ (N:=N) (J:=J) (h c b)).2.2 n
 |.aY vs,h=>by
  have:=go (N:=N) (J:=J) vs h;refine⟨.aY _ _ (by rw[T3]) λi x d j g=>?_,λn=>?_⟩
  . grind[Hn]
  grind[fJ,V.aE]
where go {N:Nat} {J:bg U}:∀(vs:List _),gI.go vs=true->(∀x,x∈vs->cb N J x (fJ x))/\∀n,V.aE.V.dF n (fJ.go vs)=true
 |[],_=>⟨by simp,λ_=>rfl⟩
 |v::vs,h=>by
  simp[gI.go,c5]at h;obtain⟨h1,e⟩:=vL (N:=N) (J:=J) h.1;obtain⟨a,f⟩:=go (N:=N) (J:=J) vs h.2;simp_all[fJ.go,V.aE.V.dF]
theorem zK{x:bJ U}{d:V}(h:cb N J x d):gI x=true->d=fJ x:=by
 induction h with
 |c h=>intro hs;rw[(zJ hs).2.1 _ h];rfl
 | @agg xs b h=>
  intro hs;simp[gI]at hs
  congr 1
  induction h with
  |nil=>rfl
  |cons h1 f ih=>rw[gB,<-(zJ (hs _ (by simp))).2.1 _ h1,<-ih (λx a=>hs x (by grind))]
 |aY xs b af h ih=>
  intro hs
  congr 1
  apply yE;intro i;rw[Hn];cases a:xs[i]? with
  |none=>grind
  |some x=>
   have g:=(dS.1 a).1;have e:=e9 (l:=b) (i:=i) (by omega);rw[e]
   congr 1
   exact ih i x _ a e (Kj hs a)
end
section
open Go
variable {U:cM}
variable{K:Env->ba->Prop}{f:Nat->Nat}
section
variable {P:Program}{nt kk key N N':Nat}{env:Env}{J J':ba}{Q ny:Exit->Env->ba->Nat->Prop}
def PG(P:Program)(f:Nat)(args:List V)(J:ba)(key:Nat)(env:Env)(K:V->ba->Prop):Prop:=
 ∀aD nt φ S a w,Rel aD nt φ S env J (lt key) a w->V.aE.V.dF (lt key) args=true->∀vs:List Value,a' (cl φ w S) args vs->
  Calls P f vs.toArray w λe w'=>∃v r b bP J',e= .returned v/\K r J'/\cl b w' bP r v/\r.aE (eI (lt key) key)=true/\Rel aD nt b bP env J' (eI (lt key) key) a w'
def ad8(P:Program)(o:ca)(env:Env)(f:Nat)(vs:List V):Prop:=
 (∃args p,o.op= .call f args/\hN env args=some (p,vs)/\p)\/
 (∃x args q p caps a,o.op= .ic x args/\x.get env=some (q,.c (.fn f caps))/\q/\hN env args=some (p,a)/\p/\hi P f=true/\vs=a++caps.map λb=>V.c (.ptr b 0))
def xI(P:Program)(o:ca)(key:Nat)(env:Env)(J:ba)(K:Env->ba->Prop):Prop:=
 hd P o key env J K\/(gf env o.guard=some true/\∃f vs,ad8 P o env f vs/\PG P f vs J key env λr J'=>K (er env o.dst true r) J')
def sx(P:Program)(kk:Nat):List ca->Nat->Env->ba->(Env->ba->Prop)->Prop
 |[],_,env,J,K=>K env J
 |o::r,key,env,J,K=>∃gy a,Conv kk key env J key gy a/\xI P o key gy a λe s=>sx P kk r (key+16) e s K
theorem Jy{aD:Ctx}{φ:dD}{S:dU}{a:Act}{w:World}(R:Rel aD nt φ S env J (lt key) a w){ops:Array Oper}{o:Oper}{u:ca}(ag:wz P nt ops o=some u)(h:xI P u key env J K){Q:Exit->Act->World->Prop}:
 if Region.wanted o (yielded ops a.tmps)then o.wp P a w (j5 aD nt (eI (lt key) key) K) Q else j5 aD nt (eI (lt key) key) K (a.put o.dst undef) w:=by
 rcases h with h|⟨aq,f,vs,I,B⟩
 . exact Dj R (λb h1 _=>H8 h1) ag h
 . obtain⟨h1,d,z,A⟩:=TP ag;have T:=JP R d aq;rw[T];rcases I with⟨args,p,n,m,r⟩|⟨x,args,q,p,caps,G,n,N,O,m,r,j,rfl⟩
   . rw[n]at h1;obtain⟨c,k,s⟩:=Ur (yS h1 (by simp));obtain⟨l,j,g⟩:=TI s;have E:=EA (w:=w) (a:=a) k l rfl j;simp at E;obtain⟨e,y⟩:=re R g m r;exact Calls.next z A rfl (λ_ _ h=>h) (B aD nt φ S a w R y _ e) E
   . rw[n]at h1;obtain⟨c,k,s⟩:=Uf (yS h1 (by simp));obtain⟨t,rfl,l,g⟩:=Ug s;obtain⟨e,y⟩:=re R g m r;have U:=ct (x:= .tmp t) R rfl N O;have W:=U.1.ed;have L:a' (cl φ w S) (caps.map λb=>V.c (.ptr b 0)) (caps.map λb=>Value.pointer (some ⟨(φ b).1,0,none⟩)):=by
      refine a'.lC (by simp) ?_;intro i v x h1 d;simp at h1 d;obtain⟨b,H,rfl⟩:=h1;obtain⟨X,D,rfl⟩:=d;rw[H]at D;cases D;exact .c rfl
     have M:V.aE.V.dF (lt key) (G++caps.map λb=>V.c (.ptr b 0))=true:=by
      refine tz ?_;intro i v F;by_cases Y:i<G.length
      . grind[nZ]
      . rw[wL (by omega)]at F;simp only[r1,bz]at F;grind[V.aE,C.aE]
     exact Calls.next z A rfl (λ_ _ h=>h) (B aD nt φ S a w R M _ (e.append L)) (EA k l W j)
theorem KD{aD:Ctx}(g:aD.k=kk){ops:Array Oper}{Q:Exit->Act->World->Prop}{K:Env->ba->Nat->Prop}:∀{l:List Oper} {bb:List ca} {k N:Nat} {env:Env} {J:ba} {φ:dD} {S:dU} {a:Act} {w:World},jn P nt ops l=some bb->(∀i:Nat,i<l.length->l[i]?=ops[k+i]?)->
 Rel aD nt φ S env J (lt N) a w->sx P kk bb N env J (λe s=>K e s (N+16*bb.length))->(∀φ S e s N a w,K e s N->Rel aD nt φ S e s (lt N) a w->Q .normal a w)->wpOps P ops Q (List.range' k l.length) a w
 |[],bb,k,N,env,J,φ,S,a,w,ag,f,R,h,d=>by
  simp[jn]at ag;subst ag;exact d _ _ _ _ _ _ _ h R
 |o::l,bb,k,N,env,J,φ,S,a,w,ag,f,R,h,d=>by
  simp[jn,bn,bz]at ag;obtain⟨r,m,c,n,rfl⟩:=ag;have t:ops[k]?=some o:=by have:=f 0 (by simp);grind
  rw[gA,B6,wpOps_cons];unfold wpOp;obtain⟨gy,q,p,u⟩:=h;obtain⟨x,E',j⟩:=p aD nt φ S a w g R;have hs:=Jy j m (K:=λe s=>sx P kk _ _ e s λe s=>K e s (N+16*(c.length+1))) (by omega) (Q:=Q);have next:∀b w',j5 aD nt (eI (lt N) N) (λe s=>sx P kk c (N+16) e s λe s=>K e s (N+16*(c.length+1))) b w'->wpOps P ops Q (List.range' (k+1) l.length) b w':=by
   rintro b w' ⟨v,bP,e,s,bD,R'⟩
   refine KD g n (λi aB=>?_) (R'.more λ_ h=>IP h) ?_ d
   . have:=f (i+1) (by grind);grind
   grind
  split at hs
  . grind[Oper.wp_mono]
  grind
theorem cu.ahW{bb:List ca}(h:sx P kk bb N env J (λe s=>Q .normal e s (N+16*bb.length))):cu P nt kk (.region bb) env J N Q:=by
 intro code j aD φ S a w o R;obtain⟨id,ops,rfl,ag⟩:=T1 j;refine wp_region ?_;have:=KD o (Q:=λe c w'=>∃p bP env' J' N',Q e env' J' N'/\Rel aD nt p bP env' J' (lt N') c w') (k:=0) ag (λi q=>by simp) R h
  (λφ S e s N a w bD f=>⟨φ,S,e,s,N,bD,f⟩)
 grind[List.range_eq_range']
theorem eh.conv{f k:Nat}{args q:List V}{Q:V->ba->Nat->Prop}(A:a' gG args q)(hs:sv J J')(h:eh P f q J' k Q):eh P f args J k Q:=by
 intro φ S w B p D L E vs G;refine h φ S w B ⟨λb x j=>?_,λb t x y j H=>?_,p.st⟩ (λb x j=>?_) (λb x j=>?_) ?_ vs ?_
 . obtain⟨o,h1,e⟩:=hs b x j;exact e.Gd (p.blk b o h1)
 . obtain⟨o,h1,e⟩:=hs b x j;obtain⟨K,k1,k2⟩:=hs t y H;exact p.inj b t o K h1 k1
 . obtain⟨o,h1,e⟩:=hs b x j;exact⟨(D b o h1).1,e.aE _ (D b o h1).2⟩
 . obtain⟨o,h1,e⟩:=hs b x j;grind
 . refine tz λi v F=>?_;obtain⟨v0,h1,e⟩:=(A.flip λ_ _ h=>h).get F;exact e.aE _ (nZ E h1)
 . exact a'.comp (λa b c h1 e=>h1.Gh e) (A.flip λ_ _ h=>h) G
theorem eh.mono{f k:Nat}{args:List V}{Q ny:V->ba->Nat->Prop}(h:eh P f args J k Q)(j:∀r s n,Q r s n->ny r s n):eh P f args J k ny:=by
 intro φ S w B h1 a c e vs bf;refine(h φ S w B h1 a c e vs bf).mono ?_;grind
theorem eh.tidy{f k:Nat}{args:List V}{Q ny:V->ba->Nat->Prop}(h:eh P f args J k Q)
 (X:∀r J' N',Q r J' N'->∃bs F J2,bs.Nodup/\keeps k bs=true/\gG (r.bQ bs) F/\sv (fH bs J' 0 bs) J2/\ny F J2 bs.length):eh P f args J k ny:=by
 intro φ S w B h1 N O R vs bf;refine(h φ S w B h1 N O R vs bf).mono ?_
 rintro e w' ⟨v,r,M,bP,J',N',he,U,k1,k2,k3,k4,k5,k6,k7⟩
 obtain⟨bs,F,J2,bZ,aB,ag,hs,W⟩:=X r J' N' U;have ax:∀i:Nat,i<k->bs[i]?=some i:=by
  grind[keeps]
 let H:dD:=λi=>M ((bs[i]?).getD 0);have D:∀(i:Nat) b,bs[i]?=some b->H i=M b:=by intro i b h;simp[H,h]
 have A:∀b x,aX (fH bs J' 0 bs) b=some x->∃c a,bs[b]?=some c/\aX J' c=some a/\x=a.bQ bs:=by
  grind[pQ]
 have Y:∀(a:bR),(a.bQ bs).aE (lt bs.length)=true:=by
  intro a;cases a with
  |box cs=>grind[bR.bQ,bR.aE,List.all_eq_true,C.j0]
  |arr sz es=>rfl
  |set ks=>rfl
  |buf E s=>rfl
  |b9 E c=>exact C.j0 c
  |cA sz es i o c=>exact C.j0 c
 refine⟨v,F,H,bP,J2,bs.length,he,W,ag.Gh (cl.bQ D k1),ag.aE _ (V.j0 r),⟨λb x j=>?_,λb G x y j p aD h0 L=>?_,k3.st⟩,λb x j=>?_,k5,λb x j h0=>?_,λb q=>?_⟩
 . obtain⟨y,p,q⟩:=hs b x j;obtain⟨c,a,aN,t,rfl⟩:=A b y p;exact q.Gd (cZ.bQ D aN (k3.blk c a t))
 . obtain⟨an,Z,_⟩:=hs b x j;obtain⟨ap,af,_⟩:=hs G y p;obtain⟨c,a,aN,t,_⟩:=A b an Z;obtain⟨K,am,f1,f2,_⟩:=A G ap af;rw[D b c aN]at h0⊢;rw[D G K f1]at L⊢;refine k3.inj c K a am t f2 ?_ h0 L;have:=m' bZ aN;grind[m']
 . obtain⟨y,p,q⟩:=hs b x j;obtain⟨c,a,aN,t,rfl⟩:=A b y p;exact⟨(dS.1 aN).1,q.aE _ (Y a)⟩
 . obtain⟨y,p,q⟩:=hs b x j;grind
 grind
end
def bm.cf(f:Nat->Nat):bm U->bm U
 |.ptr b o=>.ptr (f b) o
 |.cJ b ty i o=>.cJ (f b) ty i o
 |.arr b=>.arr (f b)
 |.sub b a len=>.sub (f b) a len
 |.pre b h=>.pre (f b) h
 |.dO b a len=>.dO (f b) a len
 |.mp b=>.mp (f b)
 |.ew b=>.ew (f b)
 |.cP b=>.cP (f b)
 |.fn g caps=>.fn g (caps.map f)
 |x=>x
def bJ.cf(f:Nat->Nat):bJ U->bJ U
 |.c x=>.c (x.cf f)
 |.agg cs=>.agg (cs.map (bm.cf f))
 |.aY vs=>.aY (go f vs)
where go (f:Nat->Nat):List (bJ U)->List (bJ U)
 |[]=>[]
 |v::vs=>v.cf f::go f vs
def cS.cf(f:Nat->Nat):cS U->cS U
 |.box cs=>.box (cs.map (bm.cf f))
 |.arr ty l=>.arr ty l
 |.rows sz r=>.rows sz r
 |.set ks=>.set ks
 |.buf E s=>.buf E s
 |.b9 E c=>.b9 E (c.cf f)
 |.cA t l i o c=>.cA t l i o (c.cf f)
def ES(J:bg U):a7->bg U
 |[]=>J
 |b::r=>dl (ES J r) b
def nr(J:bg U)(bs:a7)(f:Nat->Nat):bg U->bg U
 |[]=>ES J bs
 |(b,x)::r=>cF (nr J bs f r) (f b) (x.cf f)
def oQ(J Jr:bg U):Nat->a7->Option Bool
 |_,[]=>some true
 |i,b::r=>match a8 Jr i with
  |none=>oQ J Jr (i+1) r
  |some d=>match a8 J b with
   |none=>none
   |some x=>match d.dh with
    |none=>oQ J Jr (i+1) r
    |some a=>match x.dh with
     |none=>none
     |some p=>match Nat.beq a.1 p.1,oQ J Jr (i+1) r with
      |true,some c=>some (decide (a.2=p.2)&&c)
      |_,_=>none
section
variable {key N':Nat}{J Jr:bg U}{J1 QC:ba}{bs:a7}
theorem Mz:∀{bs:a7} {b:Nat},a8 (ES J bs) b=if b∈bs then none else a8 J b
 |[],b=>by rfl
 |c::r,b=>by
  simp[ES,oz,Mz];grind
theorem te:∀{d:bg U} {c:Nat} {x:cS U},a8 (nr J bs f d) c=some x->(∃b a,c=f b/\a8 d b=some a/\x=a.cf f)\/(c ∉ bs/\a8 J c=some x)
 |[],c,x,h=>by
  grind[nr,Mz]
 |(b,y)::r,c,x,h=>by
  simp[nr,hP]at h;split at h
  . grind[a8,Nat.beq_refl]
  . rcases te h with⟨e,a,h1,g,i⟩|h
    . grind[a8,c1]
    grind
theorem zx(bZ:bs.Nodup)(aB:∀b,b∈bs->b<key){i j:Nat}(h:back bs key i=back bs key j):i=j:=by
 unfold back at h;cases d:bs[i]? with
 |some b=>
  rw[d]at h;have e:=aB b (fp d);cases a:bs[j]? with
  |some c=>
   rw[a]at h;simp at h;subst h;have:=m' bZ d;rw[m' bZ a]at this;grind
  |none=>grind
 |none=>
  cases a:bs[j]? with
  |some c=>
   have e:=aB c (fp a);grind
  |none=>grind
theorem Kk(g:∀i j,f i=f j->i=j):∀{a:ba} {b:Nat} {x:bR},aX a b=some x->aX (hn J1 bs f a) (f b)=some (x.cf f)
 |[],b,x,h=>by grind[aX]
 |(c,y)::r,b,x,h=>by
  simp[hn,c2];simp[aX]at h;by_cases d:c=b
  . grind
  . rw[al d]at h;rw[al (λe=>d (g _ _ e))];exact Kk g h
theorem J0{c:Nat}(e:c ∉ bs)(a:∀b,f b≠c):∀{d:ba},aX (hn J1 bs f d) c=aX J1 c
 |[]=>by grind[hn,qO]
 |(b,y)::r=>by
  simp[hn,c2];rw[al (a b)];exact J0 e a
theorem cS.yc{x:cS U}:(x.cf f).dh=x.dh:=by cases x<;>rfl
theorem Jz:∀{l:a7} {f:Nat} {c:Bool},oQ J Jr f l=some c->c=true->∀(j b:Nat) d,l[j]?=some b->a8 Jr (f+j)=some d->∃x,a8 J b=some x/\∀p,d.dh=some p->x.dh=some p
 |[],f,c,h,m,j,b,d,n,o=>by grind
 |a::l,f,c,h,m,j,b,d,n,o=>by
  simp[oQ]at h;have next:∀{g},oQ J Jr (f+1) l=some g->g=true->∀i,j=i+1->∃x,a8 J b=some x/\∀p,d.dh=some p->x.dh=some p:=by
   intro g h1 k i e;exact Jz h1 k i b d (by grind) (by grind)
  cases j with
  |zero=>
   grind[c1]
  |succ j=>
   split at h
   . grind
   grind
variable (bZ:bs.Nodup)(aB:∀b,b∈bs->b<key)(cE:N'<=bs.length+16)(aI:cz key J J1)
include bZ aB cE aI in
theorem cc.cf{x:bm U}{d:C}(h:cc N' Jr x d):cc (key+16) (nr J bs (back bs key) Jr) (x.cf (back bs key)) (d.cf (back bs key)):=by
 cases h with
 |t c=>exact cc.t c
 |ptr b o=>exact cc.ptr _ o
 |cJ b t i o=>exact cc.cJ _ t i o
 |dM t x o=>exact cc.dM t x o
 |arr b sz n w h=>
  have e:back bs key b<key+16:=by
   unfold back;cases j:bs[b]? with
   |some c=>simp;have:=aB c (fp j);omega
   |none=>grind
  refine cc.arr _ sz n e λx q p A=>?_;rcases te q with⟨v,D,h1,a,rfl⟩|⟨h1,a⟩
  . grind[zx,cS.yc]
  . have y:=(aI _ _ a).1;grind[back]
 |sub b B len=>exact cc.sub _ B _
 |pre b sz n w h=>
  have e:back bs key b<key+16:=by
   unfold back;cases j:bs[b]? with
   |some c=>simp;have:=aB c (fp j);omega
   |none=>grind
  refine cc.pre _ sz n e λx q p A=>?_;rcases te q with⟨v,D,h1,a,rfl⟩|⟨h1,a⟩
  . grind[zx,cS.yc]
  . have y:=(aI _ _ a).1;grind[back]
 |dO b sz B len w h=>
  have e:back bs key b<key+16:=by
   unfold back;cases j:bs[b]? with
   |some c=>simp;have:=aB c (fp j);omega
   |none=>grind
  refine cc.dO _ sz B _ e λx q p A=>?_;rcases te q with⟨v,D,h1,a,rfl⟩|⟨h1,a⟩
  . grind[zx,cS.yc]
  . have y:=(aI _ _ a).1;grind[back]
 |mp b=>exact cc.mp _
 |ew b=>exact cc.ew _
 |cP b n w h=>
  have e:back bs key b<key+16:=by
   unfold back;cases j:bs[b]? with
   |some c=>simp;have:=aB c (fp j);omega
   |none=>grind
  refine cc.cP _ n e λx q p A=>?_;rcases te q with⟨v,D,h1,a,rfl⟩|⟨h1,a⟩
  . grind[zx,cS.yc]
  . have y:=(aI _ _ a).1;grind[back]
 |aA=>exact .aA
 |e7=>exact .e7
 |e6=>exact .e6
 |fn f caps=>exact cc.fn f _
 |dead d=>exact .dead _
theorem KE:∀{vs:List (bJ U)} {i:Nat},(bJ.cf.go f vs)[i]?=(vs[i]?).map (bJ.cf f)
 |[],i=>by rfl
 |v::vs,0=>by rfl
 |v::vs,i+1=>by simp[bJ.cf.go,KE]
theorem J3:∀{vs:List (bJ U)},(bJ.cf.go f vs).length=vs.length
 |[]=>rfl
 |v::vs=>by simp[bJ.cf.go,J3]
include bZ aB cE aI in
theorem cb.cf{x:bJ U}{d:V}(h:cb N' Jr x d):cb (key+16) (nr J bs (back bs key) Jr) (x.cf (back bs key)) (d.cf (back bs key)):=by
 induction h with
 |c h=>exact .c (cc.cf bZ aB cE aI h)
 |agg h=>exact .agg (a'.map_map (h.imp λ_ _ _ aa=>cc.cf bZ aB cE aI aa))
 |aY xs a af h ih=>
  refine .aY _ _ (by grind[J3,HG]) ?_;grind[KE,II]
include bZ aB aI in
theorem DA(e:oQ J Jr 0 bs=some true):ds key J (key+16) (nr J bs (back bs key) Jr):=by
 refine⟨by simp,λc x j f=>?_⟩;rcases te f with⟨b,g,h1,d,rfl⟩|⟨h1,d⟩
 . unfold back at h1;cases a:bs[b]? with
   |some i=>
    rw[a]at h1;subst h1;obtain⟨x,k1,k2⟩:=Jz e rfl b c g a (by grind);grind[cS.yc]
   |none=>grind
 grind
include bZ aB cE aI in
theorem cz.FD(v:oQ J Jr 0 bs=some true)(ag:cz N' Jr QC):cz (key+16) (nr J bs (back bs key) Jr) (hn J1 bs (back bs key) QC):=by
 intro c x A;have q:∀b,b<N'->back bs key b<key+16:=by
  intro b D;unfold back;cases w:bs[b]? with
  |some c=>simp;have:=aB c (fp w);omega
  |none=>grind
 rcases te A with⟨b,B,rfl,a,rfl⟩|⟨h1,a⟩
 . obtain⟨e,y,f,bf⟩:=ag b B a;refine⟨q b e,y.cf _,Kk (λi j=>zx bZ aB) f,?_⟩;cases bf with
   |box bf=>exact .box (a'.map_map (bf.imp λ_ _ _ aa=>cc.cf bZ aB cE aI aa))
   |arr t l=>exact .arr t l
   |set ks=>exact .set ks
   |buf E s=>exact .buf E s
   |b9 bf=>exact .b9 (cc.cf bZ aB cE aI bf)
   |cA t l i o bf=>exact .cA t l i o (cc.cf bZ aB cE aI bf)
   |rows bf p=>exact .rows bf p
 . obtain⟨e,y,f,bf⟩:=aI c x a;refine⟨by omega,y,?_,?_⟩
   . grind[J0,back]
   . exact bf.mono (DA bZ aB aI v)
end
end
section
open Go
variable {xb:a7}
def Ei(n:Nat):List (Nat×Nat)->Bool
 |(i,_)::_=>Nat.beq i n
 |[]=>false
theorem abB{l:List (ca×a7)}{p:Nat×Nat}(h:p∈lq l):p.1<l.length:=by
 grind[lq,Fi]
theorem Y7{l:List (ca×a7)}(h:Ei l.length (sF l)=true):Eg l=true/\ub l.dropLast=true/\∀p,p∈lq l.dropLast->p∈sF l:=by
 unfold sF at h⊢;split at h
 . grind
 . cases af:lq l with
   |nil=>rw[af]at h;cases h
   |cons p r=>
    rw[af]at h;have a:p∈lq l:=(by grind);have:=abB a;obtain⟨i,j⟩:=p;have b:Nat.beq i _=true:=h;simp_all
variable{D:Nat->a7}{Q:Exit->Env->ba->Nat->Prop}{gg:List (Nat×Nat)}
theorem ZN{l:List (ca×a7)}{m:Nat}(g:l.length=m+1)(h:Eg l=true)(e:∀(i:Nat) x,l[i]?=some x->D i=x.2){p:Nat->Bool}(f:∀i,i<m->p i=true->∀d,d∈D i->p d=true)(af:∀d,d∈D m->p d=true):
 ∀i,i<m->p i=true:=by
 have key:∀k i,i<m->m-i<=k->p i=true:=by
  intro k;induction k with
  |zero=>grind
  |succ k ih=>
   intro i h1 b;simp[Eg]at h;have c:=h i (by omega);grind
 exactλi a=>key m i a (by simp)
section
variable {P:Program}{aD:Ctx}{nt kk:Nat}{N:Nat}{ops:Array Oper}{init:List ca}{last:ca}{E:Nat->Env}{T:Nat->ba}{G:Nat->Bool}{W:Nat->V}
theorem EE{listed:Array Bool}{i m:Nat}(hs:listed.size=m+1)(a:i<m):listed.pop.getD i false=listed.getD i false:=by
 simp;grind
theorem adb{listed:Array Bool}{i m:Nat}(hs:listed.size=m+1)(a:i<m):(listed.setIfInBounds i true).pop=listed.pop.setIfInBounds i true:=by grind
theorem abC{Q:Exit->Act->World->Prop}{b:Nat}{listed:Array Bool}{a:Act}{w:World}(hs:listed.size=ops.size)(e:∀i,i<ops.size->listed.getD i false=true)(c:Q .normal a w):wpAny P .any ops Q b listed a w:=by
 have d:Region.ready .any ops listed=[]:=by
  rw[SP];grind[mem_ready]
 cases b with
 |zero=>exact⟨d,c⟩
 |succ b=>exact⟨λ_=>c,λi f=>by grind⟩
theorem ZO(st:Stat xb init D E N)(ag:oS xb P init N E T G W)(hres:jn P nt ops ops.toList=some (init++[last]))(C:∀(i:Nat) o,ops[i]?=some o->D i=hl o)
 (aw:∀(p:Nat->Bool),(∀i,i<init.length->p i=true->∀d,d∈D i->p d=true)->(∀d,d∈D init.length->p d=true)->∀i,i<init.length->p i=true)
 (aq:∀d,d∈D init.length->d<init.length)
 {Q:Exit->Act->World->Prop}{K:Env->ba->Prop}(av:aD.k=kk)
 (bD:∃gy B,Conv kk (N+16*init.length) (E init.length) (T init.length) (N+16*init.length) gy B/\xI P last (N+16*init.length) gy B K)
 (aj:∀e s φ S a w,K e s->Rel aD nt φ S e s (eI (lt (N+16*init.length)) (N+16*init.length)) a w->Q .normal a w):
 ∀(g:Nat) (listed:Array Bool) φ S env J a w,listed.size=init.length+1->listed.getD init.length false=false->listed.toList.countP (· ==false)<=g->Inv xb aD nt init D N E T G W listed.pop φ S env J a w->wpAny P .any ops Q g listed a w:=by
 have Z:=zh hres;simp at Z;have ax:∀(listed:Array Bool) (φ:dD) (S:dU) (env:Env) (J:ba) (a:Act) (w:World),listed.size=init.length+1->listed.getD init.length false=false->Inv xb aD nt init D N E T G W listed.pop φ S env J a w->Region.ready .any ops listed≠[]:=by
  intro listed φ S env J a w hs y cw aa;have F:∀i,i<init.length->listed.getD i false=true:=by
   intro i;induction i using Nat.strongRecOn with
   |_ i ih=>
    intro q;cases af:listed.getD i false with
    |true=>rfl
    |false=>
     have A:i<ops.size:=(by omega);have c:ops[i]?=some ops[i]:=Cj A;have:i∈Region.ready .any ops listed:=by
      rw[mem_ready];refine⟨?_,ops[i],c,λe he an=>?_⟩
      . grind
      . have l:e.on∈D i:=by
         rw[C i _ c];simp only[hl,e',r2];grind
        exact ih e.on (st.back i _ q l) (by have:=st.back i _ q l;omega)
     grind
  have A:init.length<ops.size:=by omega
  have c:ops[init.length]?=some ops[init.length]:=Cj A;have:init.length∈Region.ready .any ops listed:=by
   rw[mem_ready];refine⟨?_,ops[init.length],c,λe he an=>?_⟩
   . grind
   . have l:e.on∈D init.length:=by
      rw[C _ _ c];simp only[hl,e',r2];grind
     grind
  grind
 intro g;induction g with
 |zero=>
  intro listed φ S env J a w hs y U cw;exfalso;have x:init.length<listed.size:=by omega
  have h0:listed.toList.countP (· ==false)=0:=by omega
  rw[List.countP_eq_zero]at h0;simp[x]at y;exact h0 listed[init.length] (by simp) (by grind)
 |succ g ih=>
  intro listed φ S env J a w hs y U cw;refine⟨λaa=>absurd aa (ax listed φ S env J a w hs y cw),λi q=>?_⟩;rw[mem_ready]at q;obtain⟨h1,o,c,az⟩:=q;have A:i<ops.size:=(Cf.1 c).1;have x:i<listed.size:=by omega
  have aH:listed.getD i false=false:=by grind
  obtain⟨t,O,ab⟩:=GU hres (i:=i) (o:=o) (by grind);have l:∀d,d∈D i->listed.getD d false=true:=by
   intro d l;rw[C i o c]at l;simp only[hl,e',r2]at l;grind
  have au:listed.toList.countP (· ==false)<=g+1->(listed.setIfInBounds i true).toList.countP (· ==false)<=g:=by
   have:listed.toList[i]?=some false:=by simp[x]at aH⊢;exact aH
   grind
  rcases Nat.lt_or_ge i init.length with v|v
  ·
   have u:init[i]?=some t:=by rw[wM v]at O;exact O
   have V:∀d,d∈D i->listed.pop.getD d false=true:=λd n=>by rw[EE hs (by have:=st.back i d v n;omega)];exact l d n
   have H:listed.pop.getD i false=false:=by rw[EE hs v];exact aH
   obtain⟨ak,am⟩:=cw.agree st ag u H V;obtain⟨⟨bq,ay,ah⟩,_⟩:=(ag.step i t u).1.local (env':=env) (J':=J) ak am;have z:=Dj cw.rel (key:=N+16*i) (λb ao ap=>Kt H ao ap) ab (K:=λe s=>e=er env t.dst (G i) (W i)/\s=bq) (ay.hd ⟨rfl,rfl⟩) (Q:=Q);have next:∀f w',j5 aD nt (eI (used N init.length listed.pop) (N+16*i)) (λe s=>e=er env t.dst (G i) (W i)/\s=bq) f w'->wpAny P .any ops Q g (listed.setIfInBounds i true) f w':=by
    rintro f w' ⟨M,bP,e,s,⟨rfl,rfl⟩,R'⟩
    have I:=adb (listed:=listed) (i:=i) (m:=init.length) hs v;refine ih (listed.setIfInBounds i true) M bP _ _ f w' (by simpa using hs) ?_ (au U) (by rw[I];exact cw.step st ag u H V ah R');rw[mU x,bB];exact y
   unfold wpOp;rw[c];dsimp only;split at z
   . rename_i r;rw[ae r];exact .inl (Oper.wp_mono next z)
   . rename_i r;rw[al r];exact next _ _ z
  ·
   have q:i=init.length:=(by omega);subst q;have u:t=last:=(by grind);subst u;have F:=by
    refine aw (λj=>listed.pop.getD j false) (λj X I d n=>cw.down j X I d n) (λd n=>?_);rw[EE hs (aq d n)];exact l d n
   have R:=cw.done st ag F;obtain⟨gy,B,ar,z⟩:=bD;obtain⟨aB,E',ad⟩:=ar aD nt φ S a w av R;have L:=Jy ad ab z (Q:=Q);have next:∀f w',j5 aD nt (eI (lt (N+16*init.length)) (N+16*init.length)) K f w'->wpAny P .any ops Q g (listed.setIfInBounds init.length true) f w':=by
    rintro f w' ⟨M,bP,e,s,ai,R'⟩
    refine abC (by simp[hs,Z]) (λj X=>?_) (aj e s M bP f w' ai R');rw[mU x];split
    . rfl
    . rename_i aA;have Y:j<init.length:=(by omega);rw[<-EE hs Y];exact F j Y
   unfold wpOp;rw[c];dsimp only;split at L
   . rename_i r;rw[ae r];exact .inl (Oper.wp_mono next L)
   . rename_i r;rw[al r];exact next _ _ L
theorem cu.ahX{env:Env}{J:ba}(bf:Ei (init.length+1) gg=true)
 (h:xL xb P init N env J (λe s=>kB xb init e N gg=true/\sx P kk [last] (N+16*init.length) e s (λe s=>Q .normal e s (N+16*init.length+16)))):cu P nt kk (.oI (init++[last]) gg) env J N Q:=by
 intro code X aD φ S a w an R;obtain⟨id,ops,rfl,hres,L,ax,rfl⟩:=TQ X;have be:=zh hres;have cX:(fw ops (init++[last])).length=init.length+1:=by grind[fw]
 obtain⟨ap,H,a3⟩:=Y7 (l:=fw ops (init++[last])) (by grind);obtain⟨E,T,G,W,ag,c4,t0,Y,O⟩:=H9 h;have a0:(fw ops (init++[last])).dropLast=fw ops.pop init:=by
  obtain⟨M,x,A⟩:∃M x,ops.toList=M++[x]:=by
   cases af:ops.toList.reverse with
   |nil=>simp_all
   |cons x r=>simp_all
  simp_all[fw,Array.toList_pop,r3,List.zip_append]
 rw[a0]at H;have Z:kB xb init (E init.length) N (lq (fw ops.pop init))=true:=G9 (λp bi=>a3 p (by grind)) Y;have q:=OC (ops:=ops.pop) (by grind) H ag Z;let D:Nat->a7:=λi=>((ops[i]?).map hl).getD [];have F:∀i,i<init.length->((ops.pop[i]?).map hl).getD []=D i:=by grind
 have st:Stat xb init D E N:=by
  refine⟨λi d c am=>q.back i d c (by grind),λi j x y d A a9 bb=>?_,λi j b aB c K a4 v=>?_⟩
  . have:=q.w9 i j x y d A a9 bb;grind
  . rcases q.ord i j b aB c K a4 v with⟨h1,f⟩|⟨h1,f⟩
    . exact .inl ⟨h1,f.congr q.back F K⟩
    . exact .inr ⟨h1,f.congr q.back F c⟩
 have a5:∀(i:Nat) x,(fw ops (init++[last]))[i]?=some x->D i=x.2:=by
  grind[fw]
 refine wp_region_any ax ?_;have a2:=O;have U:∀d,d∈D init.length->d<init.length:=by
  intro d am;simp only[ub,c5]at L;have A:(fw ops (init++[last]))[init.length]?=some _:=e9 (by omega);have:=HI L.1.1 A d (by grind);omega
 refine ZO (aD:=aD) (nt:=nt) (D:=D) st ag hres (λi o aJ=>by grind) (λp h1 f=>ZN cX ap a5 h1 f) U an a2 (λe s φ S a w a1 R'=>⟨φ,S,e,s,_,a1,R'.more λb v=>IP v⟩) ops.size _ φ S env J a _ ?_ ?_ ?_ ?_
 . grind
 . rw[Array.getD_eq_getD_getElem?,Array.getElem?_replicate];grind
 . grind[List.countP_le_length]
 . have R':=R.drew;have B:∀i,(Array.replicate ops.size false).pop.getD i false=true->False:=by
    intro i af;simp only[Array.getD_eq_getD_getElem?,Array.getElem?_pop]at af;grind
   refine⟨R'.more λb v=>by grind[used],by grind,λi c af=>(B i af).elim,λt _=>by grind,λt i o aJ af=>(B i af).elim,λb _=>by grind,λb i c af=>(B i af).elim⟩
end
end
end Go.Proofs.YtdjagncoefjfeaaGreat.Shv
