/- The library of this proof, part C: an abstract machine for the code of the program, and its soundness. -/
import Derived.Test.YtdjagncoefjfeaaGreatCaLB

namespace Go.Proofs.YtdjagncoefjfeaaGreat.Shv
set_option linter.all false
section
open Go
variable {xb:a8}
def kx(xb:a8)(bb:List cb)(env:Env)(N:Nat):List (Nat×Nat)->Bool
 |[]=>true
 |(i,j)::r=>(match bb[i]?,bb[j]? with
  |some x,some y=>(ep xb y.op env (N+16*j)).all λb=>!(cJ xb x.op env (N+16*i) b)
  |_,_=>true)&&kx xb bb env N r
variable{env:Env}{N:Nat}{bb:List cb}
theorem K4:∀{gg:List (Nat×Nat)} {i j:Nat} {x y:cb},kx xb bb env N gg=true->(i,j)∈gg->bb[i]?=some x->bb[j]?=some y->∀b,b∈ep xb y.op env (N+16*j)->cJ xb x.op env (N+16*i) b=false
 |[],i,j,x,y,h,a,_,_,_,_=>by simp at a
 |(g,k)::r,i,j,x,y,h,a,d,f,b,c=>by
  simp only[kx,cC]at h;rcases eK.1 a with e|a
  . grind
  . exact K4 h.2 a d f b c
section
variable {P:Program}{aE:Ctx}{nt kk:Nat}{N:Nat}{ops:Array Oper}{bb:List cb}{E:Nat->Env}{T:Nat->a'}{G:Nat->Bool}{W:Nat->V}
theorem Yj{i:Nat}{o:Oper}{x:cb}(a:ops[i]?=some o)(b:bb[i]?=some x):(ft ops bb)[i]?=some (x,hn o):=by
 unfold ft;grind
theorem M1(ah:bb.length=ops.size)(K:tm (ft ops bb)=true)(ag:oL xb P bb N E T G W)(V:kx xb bb (E bb.length) N (lq (ft ops bb))=true):
 Stat xb bb (λi=>((ops[i]?).map hn).getD []) E N:=by
 simp only[tm,cC]at K;obtain⟨⟨U,L⟩,_⟩:=K;have g:∀i,i<bb.length->∃o x,ops[i]?=some o/\bb[i]?=some x/\(ft ops bb)[i]?=some (x,hn o):=by
  intro i m;have v:ops[i]?=some ops[i]:=BX (by omega);have a:bb[i]?=some bb[i]:=e' m;exact⟨_,_,v,a,Yj v a⟩
 have ab:∀i j,ahead (ft ops bb) j i=true->j<i/\j∈((ops[i]?).map hn).getD []:=by
  intro i j h;obtain⟨h1,y,q,aa⟩:=aaB h;refine⟨h1,?_⟩;have m:i<bb.length:=by
   have:=(ds.1 q).1;unfold ft at this;simp at this;omega
  grind
 have M:∀(i j:Nat) (x y:cb) (d:Nat),bb[i]?=some x->bb[j]?=some y->y.dst=some d->(d∈x.rd->(j<i/\j∈((ops[i]?).map hn).getD [])\/(x.op.neutral=true/\x.op.h9=false/\i<j/\i∈((ops[j]?).map hn).getD []))/\(i=j\/x.dst≠some d):=by
  intro i j x y d a c ak;obtain⟨z,Z,I,p,r⟩:=g i (ds.1 a).1;obtain⟨A,R,J,f,s⟩:=g j (ds.1 c).1;rw[a]at p;cases p;rw[c]at f;cases f;simp only[S1,dH]at L;have h1:=L ((x,hn z),i) (fj (i:=i) (by simp[B3,r]));have q:=h1 ((y,hn A),j) (fj (i:=j) (by simp[B3,s]));grind
 refine⟨λi d m F=>?_,M,?_⟩
 . obtain⟨o,x,v,a,S⟩:=g i m;rw[v]at F;have:=HE U S d F;omega
 ·
  have H:∀(i:Nat) (x:cb),bb[i]?=some x->¬(x.op.neutral=true/\x.op.h9=false)->∀t,t∈x.op.reads->look (E bb.length) t=look (E i) t:=by
   intro i x a ai t ht;have m:=(ds.1 a).1;refine vP ag (by omega) (dV _) λj y ad ae c Y=>?_;rcases (M i j x y t a c Y).1 (Me ht)with h|h
   . omega
   grind
  have aj:∀i j,og (nv (ft ops bb) []) j i=true->j<i/\jl (λi=>((ops[i]?).map hn).getD []) j i:=by
   intro i j h;simp only[og,cC,dO,List.contains_iff_mem]at h;refine⟨h.1,JA (l:=ft ops bb) (acc:=[]) (λk x a=>?_) (λi j B=>by simp at B) i j h.2⟩;have af:k<bb.length:=by
    have:=(ds.1 a).1;unfold ft at this;simp at this;omega
   grind
  have C:∀(i j:Nat) (x y:cb) (b:Nat),i≠j->bb[i]?=some x->bb[j]?=some y->cJ xb x.op (E i) (N+16*i) b=true->b∈ep xb y.op (E j) (N+16*j)->og (nv (ft ops bb) []) i j=true\/og (nv (ft ops bb) []) j i=true:=by
   intro i j x y b u a c n e;by_cases h1:og (nv (ft ops bb) []) i j=true
   . grind
   . by_cases q:og (nv (ft ops bb) []) j i=true
     . grind
     . exfalso;obtain⟨z,Z,I,p,r⟩:=g i (ds.1 a).1;obtain⟨A,R,J,f,s⟩:=g j (ds.1 c).1;rw[a]at p;cases p;rw[c]at f;cases f;have ht:y.op.h9=true:=by
        cases h:y.op.h9 with
        |true=>rfl
        |false=>rw[Zy h]at e;simp at e
       have X:(i,j)∈lq (ft ops bb):=by
        simp only[lq,Fb,List.mem_flatMap];refine⟨((x,hn z),i),fj (i:=i) (by simp[B3,r]),?_⟩;dsimp only;rw[LZ n];simp only[bZ,b9,List.mem_filterMap];refine⟨((y,hn A),j),fj (i:=j) (by simp[B3,s]),?_⟩;grind
       have:=K4 V X a c b (by rw[aaA (H j y c (λh=>by rw[ht]at h;cases h.2))];exact e);rw[aaz (H i x a (λh=>by rw[LZ n]at h;cases h.1))]at this;grind
  intro i j b u m B n e;obtain⟨z,x,I,a,r⟩:=g i m;obtain⟨A,y,J,c,s⟩:=g j B;have w:cJ xb x.op (E i) (N+16*i) b=true:=by unfold iP at n;rw[a]at n;exact n
  have conv:(og (nv (ft ops bb) []) i j=true\/og (nv (ft ops bb) []) j i=true)->(i<j/\jl (λi=>((ops[i]?).map hn).getD []) i j)\/(j<i/\jl (λi=>((ops[i]?).map hn).getD []) j i):=by grind
  rcases e with⟨R,f,e⟩|e
  . rw[c]at f;cases f;exact conv (C i j x y b u a c w e)
  . have D:cJ xb y.op (E j) (N+16*j) b=true:=by unfold iP at e;rw[c]at e;exact e
    cases Q:y.op.h9 with
    |true=>exact conv (C i j x y b u a c w (K1 Q D))
    |false=>
     cases O:x.op.h9 with
     |true=>exact conv (C j i y x b (dX u) c a D (K1 O w)).symm
     |false=>
      have h1:=Nv O w;have q:=Nv Q D;exfalso;omega
theorem Hv:∀{l m:List (Nat×Nat)},(∀p,p∈l->p∈m)->kx xb bb env N m=true->kx xb bb env N l=true
 |[],_,_,_=>rfl
 |(i,j)::r,m,hs,h=>by
  simp only[kx,cC];refine⟨?_,Hv (λp c=>hs p (FW _ c)) h⟩
  have:∀ (m:List (Nat×Nat)),(i,j)∈m->kx xb bb env N m = true->(match bb[i]?,bb[j]? with
   |some x,some y=>(ep xb y.op env (N+16*j)).all λb=>!(cJ xb x.op env (N+16*i) b)
   |_,_=>true)=true:=by
   intro m;induction m with
   |nil=>intro h _;simp at h
   |cons q m ih=>
    intro d a;obtain⟨e,f⟩:=q;simp only[kx,cC]at a;grind
  grind
theorem aaC{l:List (cb×a8)}{p:Nat×Nat}(h:p∈lq l):p∈sF l:=by
 unfold sF;grind
theorem cq.oA{gg:List (Nat×Nat)}{env:Env}{J:a'}{Q:Exit->Env->a'->Nat->Prop}(h:xA xb P bb N env J (λe s=>kx xb bb e N gg=true/\Q .normal e s (N+16*bb.length))):cq P nt kk (.oA bb gg) env J N Q:=by
 intro code v aE φ S a w H R;obtain⟨id,ops,rfl,hres,D,B,rfl⟩:=Tx v;have c:=x8 hres;simp at c;obtain⟨E,T,G,W,ag,cZ,t0,y,j⟩:=H3 h;refine wp_region_any B ?_;refine Yi (aE:=aE) (nt:=nt) (M1 c D ag (Hv (λp F=>aaC F) y)) ag hres (λi o f=>by simp[f]) (λφ S a w R'=>⟨φ,S,_,_,_,j,R'⟩) ops.size _ φ S env J a _ ?_ ?_
 . have:=List.countP_le_length (p:=λx:Bool=>x==false) (l:=(Array.replicate ops.size false).toList);grind
 . have R':Rel aE nt φ S env J (lt N) a {w with drawn:=w.drawn+1}:=R.drew;refine⟨R'.more λb q=>by simp[used,q],by simp[c],λi A af=>?_,λt _=>by rw[cZ],λt i o f af=>?_,λb _=>by rw[t0],λb i A af=>?_⟩
   . simp_all
   . exfalso;simp[Array.getElem?_replicate]at af;split at af<;>simp at af
   simp_all
end
end
section
open Go
def EL(P:Program)(c:Code)(Q:Exit->Act->World->Prop)(a:Act)(w:World):Prop:=
 ∀(b:Frame) (k:List Item) (cs:List Frame),∃e d w',Q e d w'/\Arrives P (lone (b.at a (.code c:: .inLoop c::k)) cs w) b k cs e d w'
variable{a:Act}{Q:Exit->Act->World->Prop}{w:World}{P:Program}{c:dA}{S:dT}{φ:dE}{aE:Ctx}{D:Nat->Type}
theorem aaD{c:Code}(h:c.wp P (Exit.then (EL P c Q) Q) a w):EL P c Q a w:=by
 intro b k cs;obtain⟨e,g,i,f,d⟩:=h b (.inLoop c::k) cs;cases e with
 |normal=>
  obtain⟨m,j,p,o,n⟩:=f b k cs;exact⟨m,j,p,o,.of_steps (Steps.trans d (.one step_inLoop)) n⟩
 |exit id=>exact⟨_,g,i,f,.pass (x:= .inLoop c) rfl (λ_ _=>.inl (by simp)) d⟩
 |goto l=>exact⟨_,g,i,f,.pass (x:= .inLoop c) rfl (λ_ _=>.inl (by simp)) d⟩
 |ret=>exact⟨_,g,i,f,.pass (x:= .inLoop c) rfl (λ_ _=>.inl (by simp)) d⟩
 |panic q=>exact⟨_,g,i,f,.pass (x:= .inLoop c) rfl (λ_ _=>.inl (by simp)) d⟩
 |outgrown=>exact⟨_,g,i,f,.pass (x:= .inLoop c) rfl (λ_ _=>.inl (by simp)) d⟩
theorem Z6{c:Code}(h:EL P c Q a w):(Code.loop c).wp P Q a w:=by
 intro b k cs;obtain⟨e,d,w',g,f⟩:=h b k cs;exact⟨e,d,w',g,.of_steps (.one step_loop) f⟩
section
variable {P:Program}{nt kk:Nat}{env env':Env}{J J':a'}{N N':Nat}{Q nr:Exit->Env->a'->Nat->Prop}
def mo(P:Program)(nt kk:Nat)(c:dA)(env:Env)(J:a')(N:Nat)(Q:Exit->Env->a'->Nat->Prop):Prop:=
 ∀code,resolve P nt code=some c->∀aE φ S a w,aE.k=kk->Rel aE nt φ S env J (lt N) a w->EL P code (λe b w'=>∃d bR env' J' N',Q e env' J' N'/\Rel aE nt d bR env' J' (lt N') b w') a w
theorem mo.round(h:cq P nt kk c env J N (andThen (λenv J N=>mo P nt kk c env J N Q) Q)):mo P nt kk c env J N Q:=by
 intro code f aE φ S a w j R;refine aaD (wp_mono (h code f aE φ S a w j R) ?_)
 rintro e q w' ⟨p,bR,env',J',N',o,R'⟩
 cases e with
 |normal=>exact o code f aE p bR q w' j R'
 |_=>exact⟨p,bR,env',J',N',o,R'⟩
theorem cq.ahl(h:mo P nt kk c env J N Q):cq P nt kk (.loop c) env J N Q:=by
 intro code f aE φ S a w j R;obtain⟨b,rfl,e⟩:=Yf f;exact Z6 (h b e aE φ S a w j R)
def Conv(kk N:Nat)(env:Env)(J:a')(N':Nat)(env':Env)(J':a'):Prop:=
 ∀aE nt φ S a w,aE.k=kk->Rel aE nt φ S env J (lt N) a w->∃b bR,Rel aE nt b bR env' J' (lt N') a w
theorem Conv.refl:Conv kk N env J N env J:=λ_ _ φ S _ _ _ R=>⟨φ,S,R⟩
theorem Conv.trans{c e f:Nat}{aM j di:Env}{s1 p q:a'}(h:Conv kk c aM s1 e j p)(k:Conv kk e j p f di q):Conv kk c aM s1 f di q:=
 λaE nt φ S a w o R=>let⟨t,bR,R'⟩:=h aE nt φ S a w o R;k aE nt t bR a w o R'
theorem cq.conv(f:Conv kk N env J N' env' J')(h:cq P nt kk c env' J' N' Q):cq P nt kk c env J N Q:=
 λcode j aE φ S a w e R=>let⟨o,bR,R'⟩:=f aE nt φ S a w e R;h code j aE o bR a w e R'
theorem mo.conv(f:Conv kk N env J N' env' J')(h:mo P nt kk c env' J' N' Q):mo P nt kk c env J N Q:=
 λcode j aE φ S a w e R=>let⟨o,bR,R'⟩:=f aE nt φ S a w e R;h code j aE o bR a w e R'
theorem Conv.tidy(ks bs:a8)(bS:bs.Nodup)(c:keeps kk bs=true):Conv kk N env J bs.length (oe bs env ks) (fI bs J 0 bs):=
 λaE nt φ S a w e R=>let⟨f,R'⟩:=R.tidy ks bs bS (by rw[e];exact c);⟨f,S,R'⟩
theorem Conv.freeze(b0:Nat){c:Nat}{es:List (List T)}(e:aX J b0=some (.arr c es)):Conv kk N env J N (rO b0 c es env) (mZ b0 c es J):=
 λaE nt φ S a w f R=>⟨φ,_,R.freeze e⟩
def dz(c a:C):Prop:=(∀φ w S v,bn φ w S c v->bn φ w S a v)/\∀n,c.aD n=true->a.aD n=true
theorem dz.refl(c:C):dz c c:=⟨λ_ _ _ _ h=>h,λ_ h=>h⟩
theorem dz.dead(c:C):dz c .dead:=⟨λ_ _ _ _ h=>h.ji,λ_ _=>rfl⟩
theorem dz.az:dz .az (.t (.slice [])):=by
 refine⟨?_,λ_ _=>rfl⟩
 rintro φ w S v ⟨a,rfl⟩
 exact cd.slice [] a 0 0 0 0 (λ_ _=>undef) (by simp) (by simp) (by simp) (by simp) (by simp) (by simp)
inductive gm:V->V->Prop
 |c {x y}:dz x y->gm (.c x) (.c y)
 |agg {xs qu}:ba dz xs qu->gm (.agg xs) (.agg qu)
 |aY (xs qu:List V) (af:xs.length=qu.length) (h:∀(i:Nat) x y,xs[i]?=some x->qu[i]?=some y->gm x y):gm (.aY xs) (.aY qu)
theorem ba.comp{α e f:Type}{R:α->e->Prop}{R':e->f->Prop}{j:α->f->Prop}(h:∀a b c,R a b->R' b c->j a c):∀{l:List α} {m:List e} {k:List f},ba R l m->ba R' m k->ba j l k
 |[],[],[],_,_=>.nil
 |_::_,_::_,_::_,.cons h1 o,.cons k1 k2=>.cons (h _ _ _ h1 k1) (ba.comp h o k2)
theorem ba.flip{α c:Type}{R:α->c->Prop}{R':c->α->Prop}{l:List α}{m:List c}(h:ba R l m)(k:∀a b,R a b->R' b a):ba R' m l:=by
 induction h with
 |nil=>exact .nil
 |cons h _ ih=>exact .cons (k _ _ h) ih
theorem Qu{n:Nat->Bool}:∀{vs:List V},(∀(i:Nat) v,vs[i]?=some v->v.aD n=true)->V.aD.V.dI n vs=true
 |[],_=>rfl
 |v::vs,h=>by simp only[V.aD.V.dI,cC];exact⟨h 0 v rfl,Qu λi x a=>h (i+1) x (by simpa using a)⟩
theorem gm.Gg{v j:V}(h:gm v j):∀{x},cl φ w S v x->cl φ w S j x:=by
 induction h with
 |c h=>intro x e;cases e with|c e=>exact .c (h.1 _ _ _ _ e)
 |agg h=>
  intro x e;cases e with
  |agg e=>exact .agg (ba.comp (λa b c h1 f=>h1.1 _ _ _ _ f) (h.flip (R':=λb a=>dz a b) λ_ _ h=>h) e)
 |aY xs q af h ih=>
  intro x e;cases e with
  |aY _ o p f=>
   refine .aY _ o (by omega) ?_;grind
theorem gm.aD{v o:V}(h:gm v o)(n:Nat->Bool):v.aD n=true->o.aD n=true:=by
 induction h with
 |c h=>intro e;exact h.2 n e
 | @agg xs t h=>
  intro e;simp only[V.aD,dH]at e⊢;intro c q;obtain⟨i,f,rfl⟩:=e3 q;obtain⟨a,p,hs⟩:=(h.flip (R':=λb a=>dz a b) λ_ _ h=>h).get (e' f);exact hs.2 n (e a (fj p))
 |aY xs t af h ih=>
  intro e;simp only[V.aD]at e⊢;refine Qu λi v j=>?_;have f:i<xs.length:=by rw[af];exact(ds.1 j).1
  exact ih i _ _ (e' f) j (nT e (e' f))
inductive kp:bP->bP->Prop
 |box {xs qu}:ba dz xs qu->kp (.box xs) (.box qu)
 |arr {sz es}:kp (.arr sz es) (.arr sz es)
 |same {x}:kp x x
 |b7 {E c xv}:dz c xv->kp (.b7 E c) (.b7 E xv)
 |cA {sz es i o c xv}:dz c xv->kp (.cA sz es i o c) (.cA sz es i o xv)
def Pl(env env':Env):Prop:=∀k g a,look env' k=some (g,a)->∃v,look env k=some (g,v)/\gm v a
def sr(J J':a'):Prop:=∀b a,aX J' b=some a->∃x,aX J b=some x/\kp x a
theorem kp.Gc{b:Nat}{x j:bP}(h:kp x j)(ag:c1 φ w S b x):c1 φ w S b j:=by
 cases h with
 |arr=>exact ag
 |same=>exact ag
 |b7 h=>
  obtain⟨h0,⟨p,v,h1,e,f⟩,o⟩:=ag;exact⟨h0,⟨p,v,h1,e,h.1 _ _ _ _ f⟩,o⟩
 |cA h=>
  obtain⟨h1,⟨vs,E,k1,k2,k3,v,k4,k5⟩,k6⟩:=ag;exact⟨h1,⟨vs,E,k1,k2,k3,v,k4,h.1 _ _ _ _ k5⟩,k6⟩
 |box h=>
  obtain⟨h0,vs,E,h1,e,f⟩:=ag;exact⟨h0,vs,E,h1,ba.comp (λa b c h1 e=>h1.1 _ _ _ _ e) (h.flip (R':=λb a=>dz a b) λ_ _ h=>h) e,f⟩
theorem kp.aD{x c:bP}(h:kp x c)(n:Nat->Bool)(a:x.aD n=true):c.aD n=true:=by
 cases h with
 |arr=>exact a
 |same=>exact a
 |b7 h=>exact h.2 n a
 |cA h=>exact h.2 n a
 | @box xs e h=>
  have:=gm.aD (.agg h) n (by simpa[V.aD,bP.aD]using a);simpa[V.aD,bP.aD]using this
theorem Rel.weaken{n:Nat->Bool}(R:Rel aE nt φ S env J n a w)(he:Pl env env')(hs:sr J J'):Rel aE nt φ S env' J' n a w:=by
 refine⟨⟨λb x e=>?_,λb j x y e o=>?_,R.bQ.st⟩,λk g v af aq=>?_,λk g v af aq=>?_,λk g v af aq=>?_,λb x e=>?_,R.size,R.defers,R.ext,λb x e=>?_,R.fix,R.fS⟩
 . obtain⟨f,h1,c⟩:=hs b x e;exact c.Gc (R.bQ.blk b f h1)
 . obtain⟨f,h1,c⟩:=hs b x e;obtain⟨p,k1,k2⟩:=hs j y o;exact R.bQ.inj b j f p h1 k1
 . obtain⟨v0,h1,c⟩:=he k g v af;obtain⟨x,e,ag⟩:=R.gK k g v0 h1 aq;exact⟨x,e,c.Gg ag⟩
 . obtain⟨v0,h1,c⟩:=he k g v af;exact R.hM k g v0 h1 aq
 . obtain⟨v0,h1,c⟩:=he k g v af;exact c.aD n (R.gJ k g v0 h1 aq)
 . obtain⟨f,h1,c⟩:=hs b x e;exact⟨(R.dU b f h1).1,c.aD n (R.dU b f h1).2⟩
 . obtain⟨f,h1,c⟩:=hs b x e;exact R.own b f h1
theorem Conv.weaken(he:Pl env env')(hs:sr J J'):Conv kk N env J N env' J':=λaE nt φ S a w _ R=>⟨φ,S,R.weaken he hs⟩
theorem Rel.FJ(R:Rel aE nt φ S env J (lt N) a w){sz:Nat}(B:0<sz)(E:aE.k<=N):
 Rel aE nt (fW φ N (0,0)) S env (df J N (.arr sz [])) (lt (N+1)) a w:=by
 have D:∀b,lt N b=true->fW φ N (0,0) b=φ b:=by
  intro b j;simp only[lt,dO]at j;simp only[fW];grind
 have o:∀b,lt N b=true->lt (N+1) b=true:=λb j=>Nu (by omega) j;have e:=R.zj D;have cz:(fW φ N (0,0) N).2=0:=by simp[fW]
 have f:∀b x,aX (df J N (.arr sz [])) b=some x->(b=N/\x= .arr sz [])\/(b≠N/\aX J b=some x):=by
  intro b x c;rw[c2]at c;grind
 refine⟨⟨λb x c=>?_,λb q x y c p A h0 t=>?_,e.bQ.st⟩,e.gK,e.hM,λk g v af aq=>V.hp o (e.gJ k g v af aq),λb x c=>?_,e.size,e.defers,e.ext,λb x c h0=>?_,e.fix,λb j=>by simp only[lt,dO];omega⟩
 . rcases f b x c with⟨rfl,rfl⟩|⟨_,c⟩
   . exact⟨by simp,by simp,by simp,B,λh=>absurd cz h⟩
   . exact e.bQ.blk b x c
 . rcases f b x c with⟨rfl,rfl⟩|⟨_,c⟩
   . exact absurd cz h0
   . rcases f q y p with⟨rfl,rfl⟩|⟨_,p⟩
     . exact absurd cz t
     . exact e.bQ.inj b q x y c p A h0 t
 . rcases f b x c with⟨rfl,rfl⟩|⟨_,c⟩
   . exact⟨by simp[lt],rfl⟩
   . exact⟨o b (e.dU b x c).1,bP.hp o (e.dU b x c).2⟩
 . rcases f b x c with⟨rfl,rfl⟩|⟨_,c⟩
   . exact absurd cz h0
   . exact e.own b x c h0
end
inductive aL where
 |bool
 |int (k:IntKind)
 |str
 |slice (t:aL)
 |nm (n:Nat)
def aL.beq:aL->aL->Bool
 |.bool,.bool=>true
 |.int k,.int a=>decide (k=a)
 |.str,.str=>true
 |.slice r,.slice c=>aL.beq r c
 |.nm n,.nm m=>Nat.beq n m
 |_,_=>false
theorem aL.beq_eq:∀{a b:aL},aL.beq a b=true->a=b
 |.bool,.bool,_=>rfl
 |.int k,.int c,h=>by simp[aL.beq]at h;rw[h]
 |.str,.str,_=>rfl
 |.slice r,.slice e,h=>by simp only[aL.beq]at h;rw[aL.beq_eq h]
 |.nm n,.nm m,h=>by simp only[aL.beq]at h;rw[Nat.eq_of_beq_eq_true h]
 |.bool,.int _,h|.bool,.str,h|.bool,.slice _,h|.bool,.nm _,h=>by simp[aL.beq]at h
 |.int _,.bool,h|.int _,.str,h|.int _,.slice _,h|.int _,.nm _,h=>by simp[aL.beq]at h
 |.str,.int _,h|.str,.bool,h|.str,.slice _,h|.str,.nm _,h=>by simp[aL.beq]at h
 |.slice _,.int _,h|.slice _,.str,h|.slice _,.bool,h|.slice _,.nm _,h=>by simp[aL.beq]at h
 |.nm _,.int _,h|.nm _,.str,h|.nm _,.bool,h|.nm _,.slice _,h=>by simp[aL.beq]at h
theorem aL.beq_refl:∀(a:aL),aL.beq a a=true
 |.bool=>rfl
 |.int k=>by simp[aL.beq]
 |.str=>rfl
 |.slice r=>by simp only[aL.beq];exact aL.beq_refl r
 |.nm n=>by simp only[aL.beq];exact Ce n
def aL.dec(a b:aL):Decidable (a=b):=
 match h:aL.beq a b with
 |true=>.isTrue (aL.beq_eq h)
 |false=>.isFalse λe=>by rw[e,aL.beq_refl]at h;cases h
def aL.den(D:Nat->Type):aL->Type
 |.bool=>Bool
 |.int _=>Int
 |.str=>ak
 |.slice t=>List (aL.den D t)
 |.nm n=>D n
structure Cell (D:Nat->Type) where
 ty:aL
 val:ty.den D
def Cell.as{D:Nat->Type}(t:aL)(c:Cell D):Option (t.den D):=
 match aL.dec c.ty t with
 |.isTrue h=>some (Eq.rec (motive:=λt _=>aL.den D t) c.val h)
 |.isFalse _=>none
variable{t:aL}
theorem Cell.ku{c:Cell D}{x:t.den D}(h:c.as t=some x):c=⟨t,x⟩:=by
 obtain⟨u,v⟩:=c;unfold Cell.as at h;split at h
 . grind
 . cases h
theorem Cell.Qp{x:t.den D}:Cell.as t (⟨t,x⟩:Cell D)=some x:=by
 unfold Cell.as;split
 . rfl
 grind
def Fw(D:Nat->Type)(enc:∀n,D n->List T):(t:aL)->t.den D->List T
 |.bool,b=>[.bool b]
 |.int k,n=>[.int k n]
 |.str,s=>[.str s]
 |.slice t,l=>[.slice (List.map (Fw D enc t) l)]
 |.nm n,x=>enc n x
def Sa(D:Nat->Type)(enc:∀n,D n->List T):Cell D->T
 |⟨.bool,b⟩=>.bool b
 |⟨.int k,n⟩=>.int k n
 |⟨.str,s⟩=>.str s
 |⟨.slice t,l⟩=>.slice (List.map (Fw D enc t) l)
 |⟨.nm _,_⟩=>.bool false
structure cL where
 D:Nat->Type
 kd:∀n,D n
 o2:∀n,D n->List (Cell D)
 make:∀n,List (Cell D)->Option (D n)
 dg:Nat->List aL
 enc:∀n,D n->List T
 Sb:∀n x,enc n x=(o2 n x).map (Sa D enc)
 mk_eq:∀n l x,make n l=some x->o2 n x=l
 S4:∀n x,(o2 n x).map Cell.ty=dg n
 pos:∀n,0<(dg n).length
 S3:Nat->Option aL:=λ_=>none
 own:List (List Bool×Nat×aL):=[]
variable {U:cL}
abbrev cL.C(U:cL):=Cell U.D
abbrev aL.d(U:cL)(t:aL):=t.den U.D
def aL.kd(U:cL):(t:aL)->t.den U.D
 |.bool=>false
 |.int _=>(0:Int)
 |.str=>([]:ak)
 |.slice t=>([]:List (t.den U.D))
 |.nm n=>U.kd n
def aL.x2:aL->Bool
 |.nm _=>true
 |_=>false
def aL.row(U:cL):(t:aL)->t.den U.D->List (Cell U.D)
 |.bool,b=>[⟨.bool,b⟩]
 |.int k,n=>[⟨.int k,n⟩]
 |.str,s=>[⟨.str,s⟩]
 |.slice t,l=>[⟨.slice t,l⟩]
 |.nm n,x=>U.o2 n x
def aL.cells(U:cL):aL->List aL
 |.nm n=>U.dg n
 |t=>[t]
def aL.sz(U:cL)(t:aL):Nat:=(t.cells U).length
def ji(U:cL)(t:aL):List (Cell U.D)->Option (t.den U.D)
 |[c]=>c.as t
 |_=>none
def aL.mk(U:cL):(t:aL)->List (Cell U.D)->Option (t.den U.D)
 |.nm n,l=>U.make n l
 |.bool,l=>ji U .bool l
 |.int k,l=>ji U (.int k) l
 |.str,l=>ji U .str l
 |.slice t,l=>ji U (.slice t) l
variable{x:t.den U.D}
theorem CX{l:List (Cell U.D)}(h:ji U t l=some x):l=[⟨t,x⟩]:=by
 unfold ji at h;split at h
 . rw[Cell.ku h]
 . cases h
def Cell.enc(U:cL)(c:Cell U.D):T:=Sa U.D U.enc c
def aL.enc(U:cL)(t:aL)(x:t.den U.D):List T:=Fw U.D U.enc t x
theorem aL.u9:t.enc U x=(t.row U x).map (Cell.enc U):=by
 cases t<;>first|rfl|skip
 case nm n=>exact U.Sb n x
theorem aL.ahK:(t.row U x).map Cell.ty=t.cells U:=by
 cases t<;>first|rfl|skip
 case nm n=>exact U.S4 n x
theorem aL.SY:(t.row U x).length=t.sz U:=by
 rw[<-iu (f:=Cell.ty),aL.ahK];rfl
theorem aL.sL:(t.enc U x).length=t.sz U:=by
 rw[aL.u9,iu,aL.SY]
theorem aL.r':0<t.sz U:=by
 cases t<;>simp[aL.sz,aL.cells];exact U.pos _
theorem aL.FH:∀{t:aL} {l:List (Cell U.D)} {x:t.den U.D},t.mk U l=some x->t.row U x=l
 |.nm n,l,x,h=>U.mk_eq n l x h
 |.bool,l,x,h=>(CX (t:= .bool) h).symm
 |.int k,l,x,h=>(CX (t:= .int k) h).symm
 |.str,l,x,h=>(CX (t:= .str) h).symm
 |.slice t,l,x,h=>(CX (t:= .slice t) h).symm
def aL.at(U:cL)(t:aL)(l:List (t.den U.D))(i:Nat):t.den U.D:=l.getD i (t.kd U)
theorem zJ{l:List (t.den U.D)}{i:Nat}(h:i<l.length):el (l.map (t.enc U)) i=t.enc U (t.at U l i):=by
 simp[el,aL.at,List.getD,e' h]
end
section
open Go
variable {U:cL}
inductive bm (U:cL) where
 |t (c:Cell U.D)
 |ptr (b o:Nat)
 |cG (b:Nat)(t:aL)(i o:Nat)
 |dN (t:aL)(x:t.den U.D)(o:Nat)
 |arr (b:Nat)
 |sub (b ot len:Nat)
 |pre (b h:Nat)
 |dP (b ot len:Nat)
 |mp (b:Nat)
 |ey (b:Nat)
 |cM (b:Nat)
 |az
 |e9
 |e7
 |fn (f:Nat)(caps:a8)
 |dead
inductive bG (U:cL) where
 |c (x:bm U)
 |agg (cs:List (bm U))
 |aY (vs:List (bG U))
inductive cT (U:cL) where
 |box (cs:List (bm U))
 |arr (t:aL)(l:List (t.den U.D))
 |rows (sz:Nat)(r:List (List (bm U)))
 |set (ks:List ak)
 |buf (E:Nat)(s:ak)
 |b7 (E:Nat)(c:bm U)
 |cA (t:aL)(l:List (t.den U.D))(i o:Nat)(c:bm U)
abbrev bT(U:cL):=List (Nat×bG U)
abbrev bf(U:cL):=List (Nat×cT U)
abbrev eB:=List (Nat×Nat×Bool)
def a6{α:Type}:List (Nat×α)->Nat->Option α
 |[],_=>none
 |(k,x)::r,i=>match Nat.beq k i with
  |true=>some x
  |false=>a6 r i
def cI{α:Type}:List (Nat×α)->Nat->α->List (Nat×α)
 |[],b,x=>[(b,x)]
 |(k,y)::r,b,x=>match Nat.beq k b with
  |true=>(k,x)::r
  |false=>(k,y)::cI r b x
def dl{α:Type}:List (Nat×α)->Nat->List (Nat×α)
 |[],_=>[]
 |(k,y)::r,b=>match Nat.beq k b with
  |true=>dl r b
  |false=>(k,y)::dl r b
theorem c5{a b:Nat}(h:Nat.beq a b=true):a=b:=Nat.eq_of_beq_eq_true h
theorem iG{a b:Nat}(h:Nat.beq a b=false):a≠b:=λe=>by simp_all
variable{α:Type}
theorem h3(J:List (Nat×α))(b:Nat)(x:α)(i:Nat):a6 (cI J b x) i=if b=i then some x else a6 J i:=by
 induction J with
 |nil=>
  grind[cI,a6,c5,iG]
 |cons y r ih=>
  grind[cI,c5,a6]
theorem oq(J:List (Nat×α))(b i:Nat):a6 (dl J b) i=if b=i then none else a6 J i:=by
 induction J with
 |nil=>simp[dl,a6]
 |cons y r ih=>
  grind[dl,c5,a6]
def EN:C->Option (bm U)
 |.t (.bool b)=>some (.t ⟨.bool,b⟩)
 |.t (.int k n)=>some (.t ⟨.int k,n⟩)
 |.t (.str s)=>some (.t ⟨.str,s⟩)
 |.az=>some .az
 |.e9=>some .e9
 |.e7=>some .e7
 |.dead=>some .dead
 |.fn f []=>some (.fn f [])
 |_=>none
def oJ:List C->Option (List (bm U))
 |[]=>some []
 |c::cs=>match EN c,oJ cs with
  |some x,some xs=>some (x::xs)
  |_,_=>none
def xh:V->Option (bG U)
 |.c x=>match EN x with
  |some y=>some (.c y)
  |none=>none
 |.agg cs=>match oJ cs with
  |some a=>some (.agg a)
  |none=>none
 |.aY _=>none
def w2(gl:eB):Nat->Option (Nat×Bool)->Nat->Bool
 |0,_,_=>false
 |b+1,gd,k=>match a6 gl k with
  |none=>true
  |some a=>match gd with
   |none=>false
   |some g=>(Nat.beq g.1 a.1&&(g.2==a.2))||w2 gl b (a6 gl g.1) k
def fm(env:bT U)(t:Nat)(b:Bool):Option Bool:=
 match a6 env t with
 |some (.c (.t ⟨.bool,x⟩))=>some (match b with|true=>x|false=>!x)
 |_=>none
def lA(gl:eB)(env:bT U):Nat->Option (Nat×Bool)->Option Bool
 |_,none=>some true
 |0,some _=>none
 |a+1,some (t,b)=>match lA gl env a (a6 gl t),fm env t b with
  |some x,some y=>some (x&&y)
  |_,_=>none
def qG:Nat:=200
def dn(gl:eB)(gd:Option (Nat×Bool))(env:bT U):aQ->Option (bG U)
 |.const v=>xh v
 |.tmp k=>match w2 gl qG gd k with
  |true=>a6 env k
  |false=>none
def EP(gl:eB)(gd:Option (Nat×Bool))(env:bT U)(c:aQ)(b:Bool):aQ->Option (bG U)
 |.const v=>xh v
 |.tmp k=>match w2 gl qG gd k with
  |true=>a6 env k
  |false=>match c,a6 gl k with
   |.tmp d,some (t,a)=>match Nat.beq t d&&(a==b)with
    |true=>a6 env k
    |false=>none
   |_,_=>none
def lK(gl:eB)(gd:Option (Nat×Bool))(env:bT U):List aQ->Option (List (bG U))
 |[]=>some []
 |x::r=>match dn gl gd env x,lK gl gd env r with
  |some v,some vs=>some (v::vs)
  |_,_=>none
def pU:bG U->Option (List (bm U))
 |.c x=>some [x]
 |.agg cs=>some cs
 |.aY _=>none
def xg(a:List (bm U))(off:Nat)(cs:List (bm U)):List (bm U):=a.take off++cs++a.drop (off+cs.length)
def zK(gl:eB)(gd:Option (Nat×Bool))(env:bT U):List (bm U)->List (Nat×Nat×aQ)->Option (List (bm U))
 |a,[]=>some a
 |a,(off,n,x)::r=>match dn gl gd env x with
  |none=>none
  |some v=>match pU v with
   |none=>none
   |some cs=>match Nat.beq cs.length n&&Nat.ble (off+n) a.length with
    |true=>zK gl gd env (xg a off cs) r
    |false=>none
def bm.toT:bm U->Option T
 |.t c=>match c.ty.x2 with
  |true=>none
  |false=>some (c.enc U)
 |.az=>some (.slice [])
 |_=>none
def ib:List (bm U)->Option (List T)
 |[]=>some []
 |c::cs=>match c.toT,ib cs with
  |some t,some ts=>some (t::ts)
  |_,_=>none
def wN(gl:eB)(gd:Option (Nat×Bool))(env:bT U)(sz:Nat):List (List (bm U))->List (Nat×aQ)->Option (List (List (bm U)))
 |rows,[]=>some rows
 |rows,(i,x)::r=>match dn gl gd env x with
  |none=>none
  |some v=>match pU v with
   |none=>none
   |some cs=>match ib cs with
    |none=>none
    |some _=>match Nat.beq cs.length sz&&Nat.ble (i+1) rows.length with
     |true=>wN gl gd env sz (rows.set i cs) r
     |false=>none
inductive fY (U:cL) where
 |ty (t:aL)(l:List (t.den U.D))
 |rows (r:List (List (bm U)))
 |nil
def fY.len:fY U->Nat
 |.ty _ l=>l.length
 |.rows r=>r.length
 |.nil=>0
def iI:List aL->List (bm U)->Option (List (Cell U.D))
 |[],[]=>some []
 |t::ts,.t c::cs=>match iI ts cs with
  |some l=>some (c::l)
  |none=>none
 |.slice t::ts,.az::cs=>match iI ts cs with
  |some l=>some (⟨.slice t,([]:List (t.den U.D))⟩::l)
  |none=>none
 |_,_=>none
def qt(U:cL)(t:aL)(cs:List (bm U)):Option (t.den U.D):=
 match iI (t.cells U) cs with
 |some l=>t.mk U l
 |none=>none
def mm(U:cL)(t:aL):List (List (bm U))->Option (List (t.den U.D))
 |[]=>some []
 |r::a=>match qt U t r,mm U t a with
  |some x,some xs=>some (x::xs)
  |_,_=>none
def fY.as(t:aL):fY U->Option (List (t.den U.D))
 |.ty u l=>Cell.as (.slice t) ⟨.slice u,l⟩
 |.rows r=>mm U t r
 |.nil=>some []
def fY.join:fY U->fY U->Option (fY U)
 |.nil,y=>some y
 |.ty t l,y=>match y.as t with
  |some a=>some (.ty t (l++a))
  |none=>none
 |.rows r,.ty t l=>match mm U t r with
  |some c=>some (.ty t (c++l))
  |none=>none
 |.rows r,.rows e=>some (.rows (r++e))
 |.rows r,.nil=>some (.rows r)
def fY.blk(sz:Nat):fY U->Option (cT U)
 |.ty t l=>match Nat.beq (t.sz U) sz with
  |true=>some (.arr t l)
  |false=>none
 |.rows r=>match r.all λx=>Nat.beq x.length sz with
  |true=>some (.rows sz r)
  |false=>none
 |.nil=>some (.rows sz [])
def se(J:bf U):bG U->Option (fY U×Option Nat)
 |.c (.t ⟨.slice t,l⟩)=>some (.ty t l,none)
 |.c .az=>some (.nil,none)
 |.c (.arr b)=>match a6 J b with
  |some (.arr t l)=>some (.ty t l,some b)
  |some (.rows _ r)=>some (.rows r,some b)
  |_=>none
 |_=>none
def cT.dd:cT U->Option (Nat×Nat)
 |.box _=>none
 |.arr t l=>some (t.sz U,l.length)
 |.rows sz r=>some (sz,r.length)
 |.set _=>none
 |.buf _ s=>some (1,s.length)
 |.b7 _ _=>none
 |.cA t l _ _ _=>some (t.sz U,l.length)
def Ta(J:bf U)(b sz:Nat):Bool:=
 match a6 J b with
 |some x=>(match x.dd with|some p=>Nat.beq p.1 sz|none=>false)
 |none=>false
def room(bytes n:Nat):Bool:=decide ((2*n+192)*bytes<=ka)&&decide (n<=eI)
def S8:BinOp->IntKind->IntKind->Int->Int->Option (Bool×Cell U.D)
 |.add,k,c,a,b=>if k=c then some (true,⟨.int k,k.wrap (a+b)⟩)else none
 |.sub,k,c,a,b=>if k=c then some (true,⟨.int k,k.wrap (a-b)⟩)else none
 |.mul,k,c,a,b=>if k=c then some (true,⟨.int k,k.wrap (a*b)⟩)else none
 |.quo,k,c,a,b=>if k=c then some (!decide (b=0),⟨.int k,k.wrap (a.tdiv b)⟩)else none
 |.rem,k,c,a,b=>if k=c then some (!decide (b=0),⟨.int k,a.tmod b⟩)else none
 |.and,k,c,a,b=>if k=c then some (true,⟨.int k,k.wrap (BitVec.ofInt k.bits a &&& BitVec.ofInt k.bits b).toNat⟩)else none
 |.or,k,c,a,b=>if k=c then some (true,⟨.int k,k.wrap (BitVec.ofInt k.bits a ||| BitVec.ofInt k.bits b).toNat⟩)else none
 |.xor,k,c,a,b=>if k=c then some (true,⟨.int k,k.wrap (BitVec.ofInt k.bits a ^^^ BitVec.ofInt k.bits b).toNat⟩)else none
 |.andNot,k,c,a,b=>if k=c then some (true,⟨.int k,k.wrap (BitVec.ofInt k.bits a &&& ~~~ BitVec.ofInt k.bits b).toNat⟩)else none
 |.shl,k,_,a,b=>some (decide (0<=b),⟨.int k,k.wrap (a*2^min b.toNat k.bits)⟩)
 |.shr,k,_,a,b=>some (decide (0<=b),⟨.int k,a.fdiv (2^min b.toNat k.bits)⟩)
 |.eql,k,c,a,b=>if k=c then some (true,⟨.bool,decide (a=b)⟩)else none
 |.neq,k,c,a,b=>if k=c then some (true,⟨.bool,!decide (a=b)⟩)else none
 |.lss,k,c,a,b=>if k=c then some (true,⟨.bool,decide (a<b)⟩)else none
 |.leq,k,c,a,b=>if k=c then some (true,⟨.bool,decide (a<=b)⟩)else none
 |.gtr,k,c,a,b=>if k=c then some (true,⟨.bool,decide (b<a)⟩)else none
 |.geq,k,c,a,b=>if k=c then some (true,⟨.bool,decide (b<=a)⟩)else none
def S9:BinOp->ak->ak->Option (Bool×Cell U.D)
 |.add,a,b=>some (decide (a.length+b.length<=eG),⟨.str,a++b⟩)
 |.eql,a,b=>some (true,⟨.bool,decide (a=b)⟩)
 |.neq,a,b=>some (true,⟨.bool,!decide (a=b)⟩)
 |.lss,a,b=>some (true,⟨.bool,Op.bytesLess a b⟩)
 |.leq,a,b=>some (true,⟨.bool,Op.bytesLess a b||decide (a=b)⟩)
 |.gtr,a,b=>some (true,⟨.bool,!(Op.bytesLess a b||decide (a=b))⟩)
 |.geq,a,b=>some (true,⟨.bool,!(Op.bytesLess a b)⟩)
 |_,_,_=>none
def Il(op:BinOp):Cell U.D->Cell U.D->Option (Bool×Cell U.D)
 |⟨.int k,a⟩,⟨.int c,b⟩=>S8 op k c a b
 |⟨.str,a⟩,⟨.str,b⟩=>S9 op a b
 |_,_=>none
def fy(a b:Bool):Bool:=a==b
def hN(a b:Int):Bool:=decide (a=b)
def iL(a b:ak):Bool:=decide (a=b)
def aH(m:Int)(n:Nat):Bool:=decide (0<=m)&&decide (m.toNat<n)
def dY(b a:Int)(n:Nat):Bool:=decide (0<=b)&&(decide (b<=a)&&decide (a<=n))
def ej{α:Type}(l:List α)(b a:Int):List α:=(l.take a.toNat).drop b.toNat
def iq(a b:Int):Int:=Max.max a b
def jf(a b:Int):Int:=Min.min a b
def fw(s:ak)(m:Int):Int:=((s.getD m.toNat 0).toNat:Int)
def mR(m:Int):ak:=(Utf8.encode m).data.toList
def bU(k:IntKind)(m:Int):Int:=k.wrap m
def Bo(a b:ak):ak:=a++b
def Iq:Nat->Cell U.D->Cell U.D->Option Bool
 |0,⟨.bool,a⟩,⟨.bool,b⟩=>some (fy a b)
 |1,⟨.int k,a⟩,⟨.int c,b⟩=>if k=c then some (hN a b)else none
 |2,⟨.str,a⟩,⟨.str,b⟩=>some (iL a b)
 |_,_,_=>none
def A4:a8->List (bm U)->List (bm U)->Option Bool
 |[],[],[]=>some true
 |k::ks,.t x::xs,.t y::a=>match Iq k x y,A4 ks xs a with
  |some b,some r=>some (b&&r)
  |_,_=>none
 |_,_,_=>none
def rP(agg:Bool)(n:Nat)(cs:List (bm U))(o:Nat):Option (bG U):=
 match agg with
 |true=>match Nat.ble (o+n) cs.length with
  |true=>some (.agg ((cs.drop o).take n))
  |false=>none
 |false=>match cs[o]? with
  |some c=>some (.c c)
  |none=>none
def oh(gl:eB)(gd:Option (Nat×Bool))(env:bT U):Option aQ->Option (Option Int)
 |none=>some none
 |some x=>match dn gl gd env x with
  |some (.c (.t ⟨.int _,n⟩))=>some (some n)
  |_=>none
def A1:List (bG U)->Option a8
 |[]=>some []
 |.c (.ptr b 0)::r=>match A1 r with
  |some l=>some (b::l)
  |none=>none
 |_=>none
abbrev aeJ(U:cL):=Option (Bool×bG U×bf U)
def sh(U:cL)(t:aL)(l:List (t.den U.D))(i o:Nat)(cs:List (bm U)):Option (List (t.den U.D)):=
 match qt U t (xg ((t.row U (t.at U l i)).map .t) o cs)with
 |some x=>some (l.set i x)
 |none=>none
def A9(t:aL):List (bm U)->Option (List (t.den U.D))
 |[]=>some []
 |.t c::r=>match c.as t,A9 t r with
  |some x,some l=>some (x::l)
  |_,_=>none
 |_::_=>none
def Pm:List (bm U)->Option ((t:aL)×List (t.den U.D))
 |.t c::r=>match c.ty.x2,A9 c.ty (.t c::r)with
  |false,some l=>some ⟨c.ty,l⟩
  |_,_=>none
 |_=>none
def strOf(l:ar):ak:=l.map λm=>UInt8.ofNat m.toNat
def w3(a len n:Nat):Bool:=decide (a+len<=n)
def SE:List (bm U)->Option (bm U)
 |[.arr b]=>some (.arr b)
 |_=>none
def cu(gl:eB)(gd:Option (Nat×Bool))(env:bT U)(J:bf U)(n:Nat)(o:cP):aeJ U:=
 match o with
 |.mov x=>match dn gl gd env x with
  |some v=>some (true,v,J)
  |none=>none
 |.pick c x y=>match dn gl gd env c,EP gl gd env c true x,EP gl gd env c false y with
  |some (.c (.t ⟨.bool,b⟩)),some (.c (.t ⟨.bool,p⟩)),some (.c (.t ⟨.bool,q⟩))=>some (true,.c (.t ⟨.bool,bif b then p else q⟩),J)
  |_,_,_=>none
 |.alloc cs=>match oJ cs with
  |some xs=>some (true,.c (.ptr n 0),cI J n (.box xs))
  |none=>none
 |.allocA cs=>match oJ cs with
  |some xs=>match Pm xs with
   |some ⟨t,l⟩=>some (true,.c (.ptr n 0),cI J n (.arr t l))
   |none=>none
  |none=>none
 |.idxP k x i=>match dn gl gd env x,dn gl gd env i with
  |some (.c (.ptr b 0)),some (.c (.t ⟨.int _,m⟩))=>match a6 J b with
   |some (.arr t _)=>match Nat.beq (t.sz U) 1 with
    |true=>some (aH m k,.c (.cG b t (Int.toNat m) 0),J)
    |false=>none
   |_=>none
  |_,_=>none
 |.slcP k x d u=>match dn gl gd env x,oh gl gd env d,oh gl gd env u with
  |some (.c (.ptr b 0)),some l,some h=>
   some (dY (l.getD 0) (h.getD (k:Int)) k,.c (.sub b (Int.toNat (l.getD 0)) (Int.toNat (h.getD (k:Int))-Int.toNat (l.getD 0))),J)
  |_,_,_=>none
 |.b2s x=>match dn gl gd env x with
  |some (.c (.t ⟨.slice (.int .u8),l⟩))=>some (true,.c (.t ⟨.str,strOf l⟩),J)
  |some (.c .az)=>some (true,.c (.t ⟨.str,[]⟩),J)
  |some (.c (.arr b))=>match a6 J b with
   |some (.arr (.int .u8) l)=>some (true,.c (.t ⟨.str,strOf l⟩),J)
   |_=>none
  |some (.c (.sub b d len))=>match a6 J b with
   |some (.arr (.int .u8) l)=>some (w3 d len (List.length l),.c (.t ⟨.str,strOf ((l.drop d).take len)⟩),J)
   |_=>none
  |_=>none
 |.allocS e e8=>some (true,.c (.ptr n 0),cI (cI J (n+1) (.buf e8 [])) n (.b7 e (.cM (n+1))))
 |.bsliceT e sz len z parts=>match U.S3 e with
  |none=>none
  |some t=>match oJ z with
   |some j=>match ib j with
    |none=>none
    |some _=>match Nat.beq j.length sz with
     |false=>none
     |true=>match wN gl gd env sz (List.replicate len j) parts with
      |some rows=>match mm U t rows with
       |some l=>some (true,.c (.t ⟨.slice t,l⟩),J)
       |none=>none
      |none=>none
   |none=>none
 |.mkset=>some (true,.c (.mp n),cI J n (.set []))
 |.lkset x k=>match dn gl gd env x,dn gl gd env k with
  |some (.c (.mp b)),some (.c (.t ⟨.str,s⟩))=>match a6 J b with
   |some (.set ks)=>some (true,.c (.t ⟨.bool,jw ks s⟩),J)
   |_=>none
  |_,_=>none
 |.upset x k=>match dn gl gd env x,dn gl gd env k with
  |some (.c (.mp b)),some (.c (.t ⟨.str,s⟩))=>match a6 J b with
   |some (.set ks)=>some (true,.aY [],cI J b (.set (iT ks s)))
   |_=>none
  |_,_=>none
 |.appendB e bytes x y=>match dn gl gd env x,dn gl gd env y with
  |some (.c (.cM b)),some (.c (.t ⟨.str,s⟩))=>match a6 J b with
   |some (.buf E l)=>match Nat.beq E e with
    |true=>some (room bytes (List.length l+List.length s),.c (.cM n),cI (dl J b) n (.buf e (Bo l s)))
    |false=>none
   |_=>none
  |_,_=>none
 |.sdata x=>match dn gl gd env x with
  |some (.c (.cM b))=>some (true,.c (.ey b),J)
  |_=>none
 |.ustr e x k=>match dn gl gd env x,dn gl gd env k with
  |some (.c (.ey b)),some (.c (.t ⟨.int .i64,m⟩))=>match a6 J b with
   |some (.buf E l)=>match Nat.beq E e with
    |true=>some (hN m (List.length l:Int),.c (.t ⟨.str,l⟩),dl J b)
    |false=>none
   |_=>none
  |_,_=>none
 |.box x=>match dn gl gd env x with
  |some v=>match pU v with
   |some cs=>some (true,.c (.ptr n 0),cI J n (.box cs))
   |none=>none
  |none=>none
 |.build z parts=>match oJ z with
  |some j=>match zK gl gd env j parts with
   |some cs=>some (true,.agg cs,J)
   |none=>none
  |none=>none
 |.bslice sz len z parts=>match oJ z with
  |some j=>match ib j with
   |none=>none
   |some _=>match Nat.beq j.length sz with
    |false=>none
    |true=>match wN gl gd env sz (List.replicate len j) parts with
     |some rows=>some (true,.c (.arr n),cI J n (.rows sz rows))
     |none=>none
  |none=>none
 |.load agg k x=>match dn gl gd env x with
  |some (.c (.ptr b o))=>match a6 J b with
   |some (.box cs)=>match rP agg k cs o with
    |some v=>some (true,v,J)
    |none=>none
   |some (.b7 _ c)=>match agg,o with
    |false,1=>some (true,.c c,J)
    |_,_=>none
   |_=>none
  |some (.c (.cG b t i o))=>match a6 J b with
   |some (.arr g l)=>match Cell.as (.slice t) (⟨.slice g,l⟩:Cell U.D)with
    |some l=>match rP agg k ((t.row U (t.at U l i)).map .t) o with
     |some v=>some (decide (i<l.length),v,J)
     |none=>none
    |none=>none
   |some (.cA g l w A c)=>match agg with
    |true=>none
    |false=>match Nat.beq o A with
     |true=>match Nat.beq (t.sz U) (g.sz U)with
      |true=>some (decide (i=w),.c c,J)
      |false=>none
     |false=>match Cell.as (.slice t) (⟨.slice g,l⟩:Cell U.D)with
      |some l=>match rP false k ((t.row U (t.at U l i)).map .t) o with
       |some v=>some (decide (i<l.length),v,J)
       |none=>none
      |none=>none
   |_=>none
  |some (.c (.dN t x o))=>match rP agg k ((t.row U x).map .t) o with
   |some v=>some (true,v,J)
   |none=>none
  |_=>none
 |.store k x v=>match dn gl gd env x,dn gl gd env v with
  |some (.c (.ptr b o)),some v=>match pU v with
   |some cs=>match Nat.beq cs.length k with
    |true=>match a6 J b with
     |some (.box H)=>match Nat.ble (o+k) H.length with
      |true=>some (true,.aY [],cI J b (.box (xg H o cs)))
      |false=>none
     |some (.b7 e _)=>match o,cs with
      |1,[c]=>some (true,.aY [],cI J b (.b7 e c))
      |_,_=>none
     |_=>none
    |false=>none
   |none=>none
  |some (.c (.cG b t i o)),some v=>match pU v with
   |some cs=>match Nat.beq cs.length k&&Nat.ble (o+k) (t.sz U)with
    |true=>match a6 J b with
     |some (.arr g l)=>match Cell.as (.slice t) (⟨.slice g,l⟩:Cell U.D)with
      |some l=>match SE cs with
       |some c=>some (decide (i<l.length),.aY [],cI J b (.cA t l i o c))
       |none=>match sh U t l i o cs with
        |some G=>some (decide (i<l.length),.aY [],cI J b (.arr t G))
        |none=>none
      |none=>none
     |some (.cA g l w A K)=>match cs with
      |[c]=>match Nat.beq o A with
       |true=>match Nat.beq (t.sz U) (g.sz U)with
        |true=>some (decide (i=w),.aY [],cI J b (.cA g l w A c))
        |false=>none
       |false=>match Cell.as (.slice t) (⟨.slice g,l⟩:Cell U.D)with
        |some l=>match sh U t l i o [c]with
         |some G=>some (decide (i<l.length),.aY [],cI J b (.cA t G w A K))
         |none=>none
        |none=>none
      |_=>none
     |_=>none
    |false=>none
   |none=>none
  |_,_=>none
 |.nilCheck x=>match dn gl gd env x with
  |some (.c (.ptr b o))=>some (true,.c (.ptr b o),J)
  |some (.c (.cG b t i o))=>some (true,.c (.cG b t i o),J)
  |some (.c (.dN t x o))=>some (true,.c (.dN t x o),J)
  |_=>none
 |.bin op x y=>match dn gl gd env x,dn gl gd env y with
  |some (.c (.t p)),some (.c (.t q))=>match Il op p q with
   |some (c,r)=>some (c,.c (.t r),J)
   |none=>none
  |_,_=>none
 |.eqAgg neg ks x y=>match dn gl gd env x,dn gl gd env y with
  |some (.agg p),some (.agg q)=>match A4 ks p q with
   |some r=>some (true,.c (.t ⟨.bool,match neg with|true=>!r|false=>r⟩),J)
   |none=>none
  |_,_=>none
 |.eqBool neg x y=>match dn gl gd env x,dn gl gd env y with
  |some (.c (.t ⟨.bool,p⟩)),some (.c (.t ⟨.bool,q⟩))=>some (true,.c (.t ⟨.bool,match neg with|true=>!(fy p q)|false=>fy p q⟩),J)
  |_,_=>none
 |.not x=>match dn gl gd env x with
  |some (.c (.t ⟨.bool,b⟩))=>some (true,.c (.t ⟨.bool,!b⟩),J)
  |_=>none
 |.conv k x=>match dn gl gd env x with
  |some (.c (.t ⟨.int _,m⟩))=>some (true,.c (.t ⟨.int k,bU k m⟩),J)
  |_=>none
 |.i2s x=>match dn gl gd env x with
  |some (.c (.t ⟨.int _,m⟩))=>some (true,.c (.t ⟨.str,mR m⟩),J)
  |_=>none
 |.s2s x=>match dn gl gd env x with
  |some (.c (.t ⟨.str,s⟩))=>some (true,.c (.t ⟨.str,s⟩),J)
  |_=>none
 |.fldA off x=>match dn gl gd env x with
  |some (.c (.ptr b o))=>some (true,.c (.ptr b (o+off)),J)
  |some (.c (.cG b t i o))=>some (true,.c (.cG b t i (o+off)),J)
  |some (.c (.dN t x o))=>some (true,.c (.dN t x (o+off)),J)
  |_=>none
 |.fld agg off k x=>match dn gl gd env x with
  |some (.agg cs)=>match rP agg k cs off with
   |some v=>some (true,v,J)
   |none=>none
  |_=>none
 |.idxA sz x i=>match dn gl gd env x,dn gl gd env i with
  |some (.c (.t ⟨.slice t,l⟩)),some (.c (.t ⟨.int _,m⟩))=>match Nat.beq (t.sz U) sz with
   |true=>some (aH m l.length,.c (.dN t (t.at U l (Int.toNat m)) 0),J)
   |false=>none
  |some (.c (.arr b)),some (.c (.t ⟨.int _,m⟩))=>match a6 J b with
   |some (.arr t l)=>match Nat.beq (t.sz U) sz with
    |true=>some (aH m l.length,.c (.cG b t (Int.toNat m) 0),J)
    |false=>none
   |_=>none
  |_,_=>none
 |.idxS x i=>match dn gl gd env x,dn gl gd env i with
  |some (.c (.t ⟨.str,s⟩)),some (.c (.t ⟨.int _,m⟩))=>some (aH m s.length,.c (.t ⟨.int .u8,fw s m⟩),J)
  |_,_=>none
 |.slcS x d u=>match dn gl gd env x,oh gl gd env d,oh gl gd env u with
  |some (.c (.t ⟨.str,s⟩)),some l,some h=>
   some (dY (l.getD 0) (h.getD (s.length:Int)) s.length,.c (.t ⟨.str,ej s (l.getD 0) (h.getD (s.length:Int))⟩),J)
  |_,_,_=>none
 |.slc sz x d u=>match dn gl gd env x,oh gl gd env d,oh gl gd env u with
  |some (.c (.t ⟨.slice t,s⟩)),some l,some h=>match Nat.beq (t.sz U) sz with
   |true=>some (dY (l.getD 0) (h.getD (s.length:Int)) s.length,.c (.t ⟨.slice t,ej s (l.getD 0) (h.getD (s.length:Int))⟩),J)
   |false=>none
  |some (.c (.arr b)),some none,some h=>match a6 J b with
   |some (.arr t s)=>match Nat.beq (t.sz U) sz with
    |true=>some (dY 0 (h.getD (s.length:Int)) s.length,.c (.pre b (Int.toNat (h.getD (s.length:Int)))),J)
    |false=>none
   |_=>none
  |some (.c (.arr b)),some (some d),some h=>match a6 J b with
   |some (.arr t s)=>match Nat.beq (t.sz U) sz with
    |true=>some (dY d (h.getD (s.length:Int)) s.length,.c (.dP b (Int.toNat d) (Int.toNat (h.getD (s.length:Int))-Int.toNat d)),J)
    |false=>none
   |_=>none
  |_,_,_=>none
 |.slc0 x=>match dn gl gd env x with
  |some (.c (.t ⟨.slice _,_⟩))=>some (true,.c .az,J)
  |some (.c .az)=>some (true,.c .az,J)
  |some (.c (.arr _))=>some (true,.c .az,J)
  |_=>none
 |.mkfn f caps=>match lK gl gd env caps with
  |some vs=>match A1 vs with
   |some l=>some (true,.c (.fn f l),J)
   |none=>none
  |none=>none
 |.ext x i=>match dn gl gd env x with
  |some (.aY vs)=>match vs[i]? with
   |some v=>some (true,v,J)
   |none=>none
  |_=>none
 |.len str x=>match str,dn gl gd env x with
  |true,some (.c (.t ⟨.str,s⟩))=>some (true,.c (.t ⟨.int .i64,(s.length:Int)⟩),J)
  |false,some (.c (.cM b))=>match a6 J b with
   |some (.buf _ s)=>some (true,.c (.t ⟨.int .i64,(s.length:Int)⟩),J)
   |_=>none
  |false,some v=>match se J v with
   |some e=>some (true,.c (.t ⟨.int .i64,(e.1.len:Int)⟩),J)
   |none=>none
  |_,_=>none
 |.append sz bytes x y=>match dn gl gd env x,dn gl gd env y with
  |some (.c .az),some v=>match se J v with
   |some (B,_)=>match B.blk sz with
    |some blk=>some (room bytes B.len,.c (.arr n),cI J n blk)
    |none=>none
   |none=>none
  |some (.c (.arr b)),some v=>match se J (.c (.arr b)),se J v with
   |some (L,_),some (B,M)=>match (match M with|some C=>Nat.beq C b|none=>false)with
    |true=>none
    |false=>match Ta J b sz with
     |false=>none
     |true=>match L.join B with
      |some I=>match I.blk sz with
       |some blk=>some (room bytes I.len,.c (.arr n),cI (dl J b) n blk)
       |none=>none
      |none=>none
   |_,_=>none
  |some (.c (.pre b h)),some (.c (.dP C d len))=>match Nat.beq b C with
   |true=>match a6 J b with
    |some (.arr t l)=>match Nat.beq (t.sz U) sz with
     |true=>some (decide (h+len<=l.length)&&decide (d+len<=l.length),.c (.arr n),cI (dl J b) n (.arr t (l.take h++(l.drop d).take len)))
     |false=>none
    |_=>none
   |false=>none
  |_,_=>none
 |.max2 x y=>match dn gl gd env x,dn gl gd env y with
  |some (.c (.t ⟨.int k,a⟩)),some (.c (.t ⟨.int F,b⟩))=>if k=F then some (true,.c (.t ⟨.int k,iq a b⟩),J)else none
  |_,_=>none
 |.min2 x y=>match dn gl gd env x,dn gl gd env y with
  |some (.c (.t ⟨.int k,a⟩)),some (.c (.t ⟨.int F,b⟩))=>if k=F then some (true,.c (.t ⟨.int k,jf a b⟩),J)else none
  |_,_=>none
 |.eqNil .. |.call .. |.iE .. =>none
end
section
open Go
variable {U:cL}
inductive cj (N:Nat)(J:bf U):bm U->C->Prop
 |t (c:Cell U.D):cj N J (.t c) (.t (c.enc U))
 |ptr (b o:Nat):cj N J (.ptr b o) (.ptr b o)
 |cG (b:Nat) (t:aL) (i o:Nat):cj N J (.cG b t i o) (.cG b (t.sz U) i o)
 |dN (t:aL) (x:t.den U.D) (o:Nat):cj N J (.dN t x o) (.dN (t.enc U x) o)
 |arr (b sz n:Nat) (x1:b<N) (h:∀x,a6 J b=some x->∀p,x.dd=some p->p=(sz,n)):cj N J (.arr b) (.arr b sz 0 n)
 |sub (b ot len:Nat):cj N J (.sub b ot len) (.fJ b 1 ot len)
 |pre (b sz h:Nat) (x1:b<N) (ahc:∀x,a6 J b=some x->∀p,x.dd=some p->p.1=sz):cj N J (.pre b h) (.arr b sz 0 h)
 |dP (b sz ot len:Nat) (x1:b<N) (ahc:∀x,a6 J b=some x->∀p,x.dd=some p->p.1=sz):cj N J (.dP b ot len) (.fJ b sz ot len)
 |mp (b:Nat):cj N J (.mp b) (.mp b)
 |ey (b:Nat):cj N J (.ey b) (.ey b)
 |cM (b n:Nat) (x1:b<N) (h:∀x,a6 J b=some x->∀p,x.dd=some p->p=(1,n)):cj N J (.cM b) (.cM b n)
 |az:cj N J .az .az
 |e9:cj N J .e9 .e9
 |e7:cj N J .e7 .e7
 |fn (f:Nat) (caps:a8):cj N J (.fn f caps) (.fn f caps)
 |dead (d:C):cj N J .dead d
inductive ca (N:Nat)(J:bf U):bG U->V->Prop
 |c {x d}:cj N J x d->ca N J (.c x) (.c d)
 |agg {xs oX}:ba (cj N J) xs oX->ca N J (.agg xs) (.agg oX)
 |aY (xs:List (bG U)) (oX:List V) (af:xs.length=oX.length) (h:∀(i:Nat) x d,xs[i]?=some x->oX[i]?=some d->ca N J x d):ca N J (.aY xs) (.aY oX)
inductive ic (N:Nat)(J:bf U):cT U->bP->Prop
 |box {cs oX}:ba (cj N J) cs oX->ic N J (.box cs) (.box oX)
 |arr (t:aL) (l:List (t.den U.D)):ic N J (.arr t l) (.arr (t.sz U) (l.map (t.enc U)))
 |set (ks:List ak):ic N J (.set ks) (.set ks)
 |buf (E:Nat) (s:ak):ic N J (.buf E s) (.buf E s)
 |b7 {E c d}:cj N J c d->ic N J (.b7 E c) (.b7 E d)
 |cA (t:aL) (l:List (t.den U.D)) (i o:Nat) {c d}:cj N J c d->ic N J (.cA t l i o c) (.cA (t.sz U) (l.map (t.enc U)) i o d)
 |rows {sz r es}:ba (λr e=>ib r=some e) r es->(∀x,x∈r->x.length=sz)->ic N J (.rows sz r) (.arr sz es)
def cx(N:Nat)(J:bf U)(J1:a'):Prop:=∀b x,a6 J b=some x->b<N/\∃y,aX J1 b=some y/\ic N J x y
def c4(N:Nat)(J:bf U)(G:Nat->Bool)(env:bT U)(env1:Env):Prop:=∀k v,a6 env k=some v->∃v1,look env1 k=some (G k,v1)/\ca N J v v1
structure gP (gl:eB)(env:bT U)(G:Nat->Bool):Prop where
 free:∀k,a6 gl k=none->G k=true
 held:∀k t b,a6 gl k=some (t,b)->∃y,fm env t b=some y/\G k=(G t&&y)
def dw(N:Nat)(J:bf U)(N':Nat)(J':bf U):Prop:=N<=N'/\∀b a,b<N->a6 J' b=some a->∃x,a6 J b=some x/\∀p,a.dd=some p->x.dd=some p
variable{J:bf U}{x:bm U}{v1:V}{t:aL}{o:Nat}{v:bG U}{cs:List (bm U)}
theorem dw.refl{N:Nat}:dw N J N J:=⟨dV _,λ_ x _ h=>⟨x,h,λ_ h=>h⟩⟩
theorem dw.more{N N':Nat}(h:N<=N'):dw N J N' J:=⟨h,λ_ x _ h=>⟨x,h,λ_ h=>h⟩⟩
theorem dw.trans{a c e:Nat}{s1 j o:bf U}(h:dw a s1 c j)(k:dw c j e o):dw a s1 e o:=
 ⟨gv h.1 k.1,λb x f A=>let⟨y,h1,q⟩:=k.2 b x (l9 f h.1) A;let⟨z,t,v⟩:=h.2 b y f h1;⟨z,t,λp w=>v p (q p w)⟩⟩
section
variable {N N':Nat}{J J':bf U}{J1:a'}{env:bT U}{env1:Env}{G:Nat->Bool}{gl:eB}{gd:Option (Nat×Bool)}
theorem cj.mono(k:dw N J N' J'){d:C}(h:cj N J x d):cj N' J' x d:=by
 cases h with
 |t c=>exact .t c
 |ptr b o=>exact .ptr b o
 |cG b t i o=>exact .cG b t i o
 |dN t x o=>exact .dN t x o
 |arr b sz n a h=>
  refine .arr b sz n (l9 a k.1) λx e p q=>?_;obtain⟨y,h1,j⟩:=k.2 b x a e;grind
 |sub b v len=>exact .sub b v _
 |pre b sz n a h=>
  refine .pre b sz n (l9 a k.1) λx e p q=>?_;obtain⟨y,h1,j⟩:=k.2 b x a e;grind
 |dP b sz v len a h=>
  refine .dP b sz v _ (l9 a k.1) λx e p q=>?_;obtain⟨y,h1,j⟩:=k.2 b x a e;grind
 |mp b=>exact .mp b
 |ey b=>exact .ey b
 |cM b n a h=>
  refine .cM b n (l9 a k.1) λx e p q=>?_;obtain⟨y,h1,j⟩:=k.2 b x a e;grind
 |az=>exact .az
 |e9=>exact .e9
 |e7=>exact .e7
 |fn f caps=>exact .fn f _
 |dead d=>exact .dead d
theorem ca.mono(k:dw N J N' J'){x:bG U}{d:V}(h:ca N J x d):ca N' J' x d:=by
 induction h with
 |c h=>exact .c (h.mono k)
 |agg h=>exact .agg (h.imp λ_ _ _=>cj.mono k)
 |aY xs a af h ih=>exact .aY xs a af ih
theorem ic.mono(k:dw N J N' J'){x:cT U}{d:bP}(h:ic N J x d):ic N' J' x d:=by
 cases h with
 |box h=>exact .box (h.imp λ_ _ _=>cj.mono k)
 |arr t l=>exact .arr t l
 |set ks=>exact .set ks
 |buf E s=>exact .buf E s
 |b7 h=>exact .b7 (h.mono k)
 |cA t l i o h=>exact .cA t l i o (h.mono k)
 |rows h a=>exact .rows h a
theorem c4.mono(k:dw N J N' J')(h:c4 N J G env env1):c4 N' J' G env env1:=λi v c=>let⟨v1,h1,a⟩:=h i v c;⟨v1,h1,a.mono k⟩
theorem cx.put(h:cx N J J1){b:Nat}{x:cT U}{y:bP}(p:b<N')(k:dw N J N' (cI J b x))(ag:ic N' (cI J b x) x y):cx N' (cI J b x) (df J1 b y):=by
 intro c z a;rw[h3]at a;rw[c2];by_cases j:b=c
 . grind
 . rw[al j]at a⊢;obtain⟨h1,o,e,f⟩:=h c z a;exact⟨l9 h1 k.1,o,e,f.mono k⟩
theorem l1{x:cT U}(h:N<=N':=by simp):dw N J N' (cI J N x):=by
 refine⟨h,λb d a c=>?_⟩;grind[h3]
theorem nU{b:Nat}{x a:cT U}(h:N<=N')(h0:a6 J b=some a)(e:∀p,x.dd=some p->a.dd=some p):dw N J N' (cI J b x):=by
 refine⟨h,λc g d f=>?_⟩;grind[h3]
theorem tM{b:Nat}:dw N J N (dl J b):=by
 refine⟨dV _,λc e a d=>?_⟩;grind[oq]
theorem K5{d:C}(h:EN d=some x):cj N J x d:=by
 unfold EN at h;split at h<;>cases h
 . exact cj.t _
 . exact cj.t _
 . exact cj.t (U:=U) _
 . exact .az
 . exact .e9
 . exact .e7
 . exact .dead _
 . exact .fn _ _
theorem tA:∀{a:List C} {xs:List (bm U)},oJ a=some xs->ba (cj N J) xs a
 |[],xs,h=>by simp[oJ]at h;subst h;exact .nil
 |d::a,xs,h=>by
  simp[oJ]at h;split at h
  . rename_i x c h1 b;cases h;exact .cons (K5 h1) (tA b)
  grind
theorem K6{d:V}{x:bG U}(h:xh d=some x):ca N J x d:=by
 cases d with
 |c d=>
  simp[xh]at h;split at h
  . rename_i y a;cases h;exact .c (K5 a)
  grind
 |agg b=>
  simp[xh]at h;split at h
  . rename_i y a;cases h;exact .agg (tA a)
  grind
 |aY _=>grind[xh]
def cE(env:bT U)(G:Nat->Bool):Option (Nat×Bool)->Bool
 |none=>true
 |some (t,b)=>G t&&(fm env t b).getD false
theorem gP.a6(aq:gP gl env G)(k:Nat):cE env G (a6 gl k)=G k:=by
 cases h:Shv.a6 gl k with
 |none=>exact(aq.free k h).symm
 |some g=>
  obtain⟨t,b⟩:=g;obtain⟨y,h1,a⟩:=aq.held k t b h;grind[cE]
theorem Dg(aq:gP gl env G):∀{a:Nat} {gd:Option (Nat×Bool)} {g:Bool},lA gl env a gd=some g->g=cE env G gd
 |_,none,g,h=>by unfold lA at h;simp at h;subst h;rfl
 |0,some _,g,h=>by grind[lA]
 |a+1,some (t,b),g,h=>by
  simp[lA]at h;split at h
  . rename_i x y h1 c;cases h;rw[Dg aq h1,aq.a6 t];grind[cE]
  grind
theorem acq:∀{a:Nat} {t:Nat} {b:Bool} {g:Bool},lA gl env a (some (t,b))=some g->∃y,fm env t b=some y
 |0,t,b,g,h=>by grind[lA]
 |a+1,t,b,g,h=>by
  grind[lA]
theorem ca.eb(h:ca N J (.c x) v1):∃d,v1= .c d/\cj N J x d:=by cases h<;>grind
theorem ca.sv{xs:List (bm U)}(h:ca N J (.agg xs) v1):∃a,v1= .agg a/\ba (cj N J) xs a:=by cases h<;>grind
theorem ca.w4{c:Cell U.D}(h:ca N J (.c (.t c)) v1):v1= .c (.t (c.enc U)):=by obtain⟨d,rfl,aa⟩:=h.eb;cases aa;rfl
theorem ca.jq{b:Bool}(h:ca N J (.c (.t ⟨.bool,b⟩)) v1):v1= .c (.t (.bool b)):=h.w4
theorem ca.gr{k:IntKind}{m:Int}(h:ca N J (.c (.t ⟨.int k,m⟩)) v1):v1= .c (.t (.int k m)):=h.w4
theorem ca.kn{s:ak}(h:ca N J (.c (.t ⟨.str,s⟩)) v1):v1= .c (.t (.str s)):=h.w4
theorem ca.km{l:List (t.den U.D)}(h:ca N J (.c (.t ⟨.slice t,l⟩)) v1):v1= .c (.t (.slice (l.map (t.enc U)))):=h.w4
theorem ca.hT{b:Nat}(h:ca N J (.c (.ptr b o)) v1):v1= .c (.ptr b o):=by obtain⟨d,rfl,aa⟩:=h.eb;cases aa;rfl
theorem ca.jd{b i:Nat}(h:ca N J (.c (.cG b t i o)) v1):v1= .c (.cG b (t.sz U) i o):=by obtain⟨d,rfl,aa⟩:=h.eb;cases aa;rfl
theorem ca.FA{x:t.den U.D}(h:ca N J (.c (.dN t x o)) v1):v1= .c (.dN (t.enc U x) o):=by obtain⟨d,rfl,aa⟩:=h.eb;cases aa;rfl
theorem ca.u0(h:ca N J (.c .az) v1):v1= .c .az:=by obtain⟨d,rfl,aa⟩:=h.eb;cases aa;rfl
theorem ca.hd{b:Nat}(h:ca N J (.c (.arr b)) v1):∃sz n,v1= .c (.arr b sz 0 n)/\b<N/\∀x,Shv.a6 J b=some x->∀p,x.dd=some p->p=(sz,n):=by
 obtain⟨d,rfl,aa⟩:=h.eb;cases aa<;>grind
theorem ca.FI{b:Nat}(h:ca N J (.c (.mp b)) v1):v1= .c (.mp b):=by obtain⟨d,rfl,aa⟩:=h.eb;cases aa;rfl
theorem ca.S0{b:Nat}(h:ca N J (.c (.ey b)) v1):v1= .c (.ey b):=by obtain⟨d,rfl,aa⟩:=h.eb;cases aa;rfl
theorem ca.Bm{b:Nat}(h:ca N J (.c (.cM b)) v1):∃n,v1= .c (.cM b n)/\b<N/\∀x,Shv.a6 J b=some x->∀p,x.dd=some p->p=(1,n):=by
 obtain⟨d,rfl,aa⟩:=h.eb;cases aa<;>grind
theorem ca.Fx{f:Nat}{caps:a8}(h:ca N J (.c (.fn f caps)) v1):v1= .c (.fn f caps):=by
 obtain⟨d,rfl,aa⟩:=h.eb;cases aa;rfl
theorem acr{t:Nat}{b y:Bool}(he:c4 N J G env env1)(h:fm env t b=some y):∃x,look env1 t=some (G t,.c (.t (.bool x)))/\y=(x==b):=by
 unfold fm at h;split at h
 . rename_i x d;cases h;obtain⟨v1,h1,a⟩:=he t _ d;have:=a.jq;grind
 grind
theorem Du(he:c4 N J G env env1)(h:gd=none\/∃t b y,gd=some (t,b)/\fm env t b=some y):f' env1 gd=some (cE env G gd):=by
 grind[acr,f',cE]
theorem Dh(aq:gP gl env G):∀{c:Nat} {gd:Option (Nat×Bool)} {k:Nat},cE env G gd=true->w2 gl c gd k=true->G k=true
 |0,gd,k,_,h=>by grind[w2]
 |c+1,gd,k,i,h=>by
  simp[w2]at h;split at h
  . rename_i a;exact aq.free k a
  . rename_i d a;split at h
    . grind
    . rename_i g;obtain⟨t,b⟩:=g;obtain⟨j,f⟩:=d;simp only[iv,cC,jh]at h;rcases h with⟨h1,e⟩|h
      . have:=c5 h1;subst this;subst e;obtain⟨y,k1,k2⟩:=aq.held k t b a;grind[cE]
      . refine Dh aq ?_ h;rw[aq.a6 t];grind[cE]
theorem cr(he:c4 N J G env env1)(aq:gP gl env G){x:aQ}(h:dn gl gd env x=some v):
 ∃p v1,x.get env1=some (p,v1)/\ca N J v v1/\(cE env G gd=true->p):=by
 cases x with
 |const d=>exact⟨True,d,rfl,K6 h,λ_=>trivial⟩
 |tmp k=>
  simp[dn]at h;split at h
  . rename_i hs;obtain⟨v1,h1,a⟩:=he k v h;exact⟨_,v1,by grind[aQ.get],a,λb=>Dh aq b hs⟩
  grind
theorem L0(he:c4 N J G env env1)(aq:gP gl env G){c x:aQ}{b y:Bool}{i:bG U}(g:dn gl gd env c=some i)(n:i= .c (.t ⟨.bool,y⟩))(h:EP gl gd env c b x=some v):
 ∃p v1,x.get env1=some (p,v1)/\ca N J v v1/\(cE env G gd=true->y=b->p):=by
 cases x with
 |const d=>exact⟨True,d,rfl,K6 h,λ_ _=>trivial⟩
 |tmp k=>
  simp[EP]at h;split at h
  . rename_i hs;obtain⟨v1,h1,a⟩:=he k v h;exact⟨_,v1,by grind[aQ.get],a,λe _=>Dh aq e hs⟩
  . split at h
    . rename_i q t j l;split at h
      . rename_i f;simp only[cC,jh]at f;obtain⟨h1,rfl⟩:=f;have:=c5 h1;obtain⟨v1,h1,a⟩:=he k v h;refine⟨G k=true,v1,by grind[aQ.get],a,λe o=>?_⟩;simp[dn]at g;split at g
        . rename_i hs;have m:=Dh aq e hs;obtain⟨r,k1,k2⟩:=aq.held k t j l;grind[fm]
        grind
      grind
    grind
theorem tE(he:c4 N J G env env1)(aq:gP gl env G):∀{xs:List aQ} {vs:List (bG U)},lK gl gd env xs=some vs->
 ∃p a,hP env1 xs=some (p,a)/\ba (ca N J) vs a/\(cE env G gd=true->p)
 |[],vs,h=>by simp[lK]at h;subst h;exact⟨True,[],rfl,.nil,λ_=>trivial⟩
 |x::xs,vs,h=>by
  simp[lK]at h;split at h
  . rename_i v d h1 c;cases h;obtain⟨p,v1,a1,a2,a3⟩:=cr he aq h1;obtain⟨q,a,b1,b2,b3⟩:=tE he aq c;exact⟨p/\q,v1::a,by grind[hP],.cons a2 b2,λb=>⟨a3 b,b3 b⟩⟩
  grind
theorem p'(h:ca N J v v1)(a:pU v=some cs):∃b,pR v1=some b/\ba (cj N J) cs b:=by
 cases h with
 |c h=>simp[pU]at a;subst a;exact⟨_,rfl,.cons h .nil⟩
 |agg h=>simp[pU]at a;subst a;exact⟨_,rfl,h⟩
 |aY=>grind[pU]
theorem He{a:List (bm U)}{b c:List C}(h:ba (cj N J) cs b)(d:ba (cj N J) a c):ba (cj N J) (xg cs o a) (qE b o c):=by
 unfold xg qE;rw[d.length];exact((h.take o).append d).append (h.drop _)
theorem ig{a b:Nat}(h:Nat.ble a b=true):a<=b:=FU h
theorem J0(he:c4 N J G env env1)(aq:gP gl env G):∀{ps:List (Nat×Nat×aQ)} {cs c:List (bm U)} {b:List C},zK gl gd env cs ps=some c->ba (cj N J) cs b->
 ∃p d,lr env1 b ps=some (p,d)/\ba (cj N J) c d/\(cE env G gd=true->p)
 |[],cs,c,b,h,a=>by simp[zK]at h;subst h;exact⟨True,b,rfl,a,λ_=>trivial⟩
 |(o,n,x)::r,cs,c,b,h,a=>by
  simp[zK]at h;split at h
  . grind
  . rename_i v k;split at h
    . grind
    . rename_i es j;split at h
      . rename_i e;simp only[cC]at e;have l:=c5 e.1;have m:=ig e.2;obtain⟨p,v1,a1,a2,a3⟩:=cr he aq k;obtain⟨fs,b1,b2⟩:=p' a2 j;obtain⟨q,d,f,g,i⟩:=J0 he aq h (He a b2);refine⟨p/\q,d,?_,g,λa=>⟨a3 a,i a⟩⟩;simp only[lr,a1,ao,b1];rw[ae ⟨by rw[<-b2.length];grind,by rw[<-a.length];grind⟩,f];rfl
      grind
theorem aaE{d:C}{t:T}(h:cj N J x d)(ht:x.toT=some t):Shv.toT d=some t:=by
 cases h<;>simp[bm.toT]at ht
 . split at ht
   . grind
   . cases ht;rfl
 . subst ht;rfl
theorem Dv:∀{cs:List (bm U)} {a:List C} {ts:List T},ba (cj N J) cs a->ib cs=some ts->toTs a=some ts
 |[],[],ts,_,h=>by simp[ib]at h;subst h;rfl
 |c::cs,d::a,ts,.cons h1 b,h=>by
  simp[ib]at h;split at h
  . rename_i t f ht e;cases h;simp[toTs,aaE h1 ht,Dv b e]
  grind
theorem Hw:∀{cs:List (bm U)} {ts:List T},ib cs=some ts->ts.length=cs.length
 |[],ts,h=>by grind[ib]
 |c::cs,ts,h=>by
  simp[ib]at h;split at h
  . rename_i t b ht a;cases h;simp[Hw a]
  grind
theorem ba.set{α c:Type}{R:α->c->Prop}{l:List α}{m:List c}(h:ba R l m){i:Nat}{a:α}{b:c}(f:R a b):ba R (l.set i a) (m.set i b):=by
 induction h generalizing i with
 |nil=>exact .nil
 |cons h1 e ih=>cases i with
  |zero=>exact .cons f e
  |succ i=>exact .cons h1 ih
theorem HF(he:c4 N J G env env1)(aq:gP gl env G){sz:Nat}:∀{ps:List (Nat×aQ)} {a b:List (List (bm U))} {es:List (List T)},wN gl gd env sz a ps=some b->
 ba (λr e=>ib r=some e) a es->(∀r,r∈a->r.length=sz)->∃p c,jO env1 sz es ps=some (p,c)/\ba (λr e=>ib r=some e) b c/\(∀r,r∈b->r.length=sz)/\(cE env G gd=true->p)
 |[],a,b,es,h,ag,af=>by simp[wN]at h;subst h;exact⟨True,es,rfl,ag,af,λ_=>trivial⟩
 |(i,x)::ps,a,b,es,h,ag,af=>by
  simp[wN]at h;split at h
  . grind
  . rename_i v o;split at h
    . grind
    . rename_i cs n;split at h
      . grind
      . rename_i ts g;split at h
        . rename_i d;simp only[cC]at d;have t:=c5 d.1;have u:=ig d.2;obtain⟨p,v1,a1,a2,a3⟩:=cr he aq o;obtain⟨s,b1,b2⟩:=p' a2 n;obtain⟨q,c,j,k,m,l⟩:=HF he aq h (ba.set ag g) (by grind);refine⟨p/\q,c,?_,k,m,λf=>⟨a3 f,l f⟩⟩;simp only[jO,a1,ao,b1,Dv b2 g];rw[ae ⟨by grind[Hw],by rw[<-ag.length];omega⟩,j];rfl
        grind
end
end
section
open Go
variable {U:cL}
structure ea (N:Nat)(J:bf U)(J1:a')(o:cP)(env1:Env)(g c:Bool)(v:bG U)(J':bf U):Prop where
 val:∃v1,ca (N+16) J' v v1/\(g=true->c=true->∃p bq,aR o env1 J1 N=some (p,v1,bq)/\p/\cx (N+16) J' bq)
 aiz:dw N J (N+16) J'
 ahp:o.neutral=true->J'=J
variable{o:cP}{v1:V}{agg neg:Bool}{cs:List (bm U)}{α:Type}{t:aL}{ts:List T}{op:BinOp}{J1:a'}{x y:aQ}{off:Nat}{es:List (List T)}{e:fY U}{R:α->α->Prop}
section
variable {N N':Nat}{J J':bf U}{J1:a'}{env:bT U}{env1:Env}{G:Nat->Bool}{gl:eB}{gd:Option (Nat×Bool)}{c:Bool}{v:bG U}
theorem cx.mono(h:cx N J J1)(cz:N<=N'):cx N' J J1:=λb x e=>
 let⟨h1,y,a,c⟩:=h b x e;⟨l9 h1 cz,y,a,c.mono (dw.more cz)⟩
theorem ea.neutral{g:Bool}(aI:cx N J J1)(j:ca N J v v1)(e:g=true->c=true->∃p,aR o env1 J1 N=some (p,v1,J1)/\p):ea N J J1 o env1 g c v J:=
 ⟨⟨v1,j.mono (dw.more (by simp)),λaq f=>let⟨p,h1,a⟩:=e aq f;⟨p,J1,h1,a,aI.mono (by simp)⟩⟩,dw.more (by simp),λ_=>rfl⟩
theorem ea.store{g:Bool}(aG:o.neutral=false)(e:dw N J (N+16) J')(f:ca (N+16) J' v v1)(a:g=true->c=true->∃p bq,aR o env1 J1 N=some (p,v1,bq)/\p/\cx (N+16) J' bq):ea N J J1 o env1 g c v J':=
 ⟨⟨v1,f,a⟩,e,λh=>by grind⟩
theorem wi{k o:Nat}{b:List C}(a:ba (cj N J) cs b)(h:rP agg k cs o=some v):∃v1,jT agg k b o=some v1/\ca N J v v1:=by
 unfold rP at h;split at h
 . split at h
   . cases h;refine⟨_,by simp only[jT,b5];rw[ae (by rw[<-a.length];simp_all)],.agg ((a.drop o).take k)⟩
   grind
 . split at h
   . rename_i x f;cases h;obtain⟨d,h1,e⟩:=a.get f;exact⟨_,by grind[jT],.c e⟩
   grind
theorem ba.map_map{c e j:Type}{R:e->j->Prop}{f:α->e}{g:c->j}:∀{l:List α} {m:List c},ba (λa b=>R (f a) (g b)) l m->ba R (l.map f) (m.map g)
 |[],[],_=>.nil
 |_::_,_::_,.cons h1 o=>.cons h1 (ba.map_map o)
theorem ba.self(h:∀a,R a a):∀(l:List α),ba R l l
 |[]=>.nil
 |a::l=>.cons (h a) (ba.self h l)
theorem zX{x:t.den U.D}:ba (cj N J) ((t.row U x).map .t) ((t.enc U x).map .t):=by
 rw[aL.u9,List.map_map];exact ba.map_map (ba.self (λc=>cj.t c) _)
theorem Iy{k o:Nat}{v:V}(af:jT agg k (ts.map .t) o=some v):loadT agg k ts o=some v:=by
 unfold jT at af;unfold loadT;cases agg<;>simp_all
theorem Z7{p q:Cell U.D}{r:Cell U.D}(h:Il op p q=some (c,r)):∃d,qz op (p.enc U) (q.enc U)=some (d,r.enc U)/\(c=true->d):=by
 unfold Il at h;split at h
 . rename_i k a e b;show ∃d,qz op (.int k a) (.int e b)=some (d,r.enc U)/\(c=true->d);cases op<;>simp only[S8,reduceCtorEq,ew]at h
   all_goals first
    |(obtain⟨rfl,rfl,rfl⟩:=h;exact⟨_,by simp only[qz];rfl,λh=>by simpa using h⟩)
    |(obtain⟨rfl,rfl⟩:=h)
    |(obtain⟨rfl,rfl,rfl⟩:=h)
 . rename_i a b;cases op<;>simp only[S9,dv]at h
   all_goals first
    |(obtain⟨rfl,rfl⟩:=h;exact⟨_,by rfl,λh=>by simpa using h⟩)
    |(obtain⟨rfl,rfl⟩:=h)
 . cases h
theorem Z8{k:Nat}{x y:Cell U.D}{b:Bool}(h:Iq k x y=some b):BL k (x.enc U) (y.enc U)=some b:=by
 unfold Iq at h;split at h
 . cases h;rfl
 . simp at h;obtain⟨rfl,rfl⟩:=h;show(if _ then _ else _)=_;rw[ae rfl];rfl
 . cases h;rfl
 grind
theorem JB:∀{ks:a8} {xs c:List (bm U)} {a es:List C} {b:Bool},A4 ks xs c=some b->ba (cj N J) xs a->ba (cj N J) c es->sM ks a es=some b
 |[],[],[],[],[],b,h,.nil,.nil=>by simp[A4]at h;subst h;rfl
 |k::ks,.t x::xs,.t y::c,d::a,e::es,b,h,.cons h1 f,.cons g i=>by
  simp[A4]at h;split at h
  . rename_i b1 r j ag;cases h;cases h1;cases g;simp[sM,Z8 j,JB ag f i]
  grind
theorem Zz{a b:ak}:(Bo a b).length=a.length+b.length:=cm
theorem ady{a b:Int}:hN a b=true↔a=b:=by simp[hN]
theorem ti{m:Int}{n:Nat}:aH m n=true↔0<=m/\m.toNat<n:=by simp[aH]
theorem iJ{b a:Int}{n:Nat}:dY b a n=true↔0<=b/\b<=a/\a<=n:=by simp[dY]
theorem aem{s:List (t.den U.D)}{l r:Option Int}{a pl b:Prop}{sz:Nat}:
 (some (a/\pl/\b/\0<=l.getD 0/\l.getD 0<=r.getD ((List.map (t.enc U) s).length:Int)/\r.getD ((List.map (t.enc U) s).length:Int)<=((List.map (t.enc U) s).length:Int)/\∀e,e∈List.map (t.enc U) s->e.length=sz,
  V.c (C.t (T.slice (((List.map (t.enc U) s).take (r.getD ((List.map (t.enc U) s).length:Int)).toNat).drop (l.getD 0).toNat))),J1):A')=
 some (a/\pl/\b/\0<=l.getD 0/\l.getD 0<=r.getD (s.length:Int)/\r.getD (s.length:Int)<=(s.length:Int)/\∀e,e∈List.map (t.enc U) s->e.length=sz,
  V.c (C.t (Cell.enc U ⟨.slice t,ej s (l.getD 0) (r.getD (s.length:Int))⟩)),J1):=by
 have:Cell.enc U ⟨.slice t,ej s (l.getD 0) (r.getD s.length)⟩=T.slice (List.map (t.enc U) _):=rfl;grind[ej,List.map_drop,List.map_take]
variable{a:Type}{f:α->a}
theorem aen{l:List α}{p:Prop}:(some (p,V.c (C.t (T.int .i64 ((l.map f).length:Int))),J1):A')=some (p,V.c (C.t (.int .i64 (l.length:Int))),J1):=by simp
theorem wO{l:List α}{i:Nat}(h:i<l.length):i<(l.map f).length:=by grind
theorem ba.replicate{c:Type}{R:α->c->Prop}{a:α}{b:c}(h:R a b):∀n:Nat,ba R (List.replicate n a) (List.replicate n b)
 |0=>.nil
 |n+1=>.cons h (ba.replicate h n)
theorem GL:∀{xs:List (bm U)} {dg:List aL} {es:List C} {row:List (Cell U.D)},iI dg xs=some row->ba (cj N J) xs es->toTs es=some (row.map (Cell.enc U))
 |[],dg,es,row,h1,a=>by
  cases a;cases dg<;>simp[iI]at h1;subst h1;rfl
 |y::e,[],es,row,h1,a=>by grind[iI]
 |y::e,ty::dg,_::_,row,h1,.cons a d=>by
  cases a with
  |t c=>cases ty<;>simp only[iI]at h1<;>(split at h1<;>first|(cases h1;done)|(rename_i q b;cases h1;simp[toTs,toT,GL b d]))
  |az=>
   cases ty<;>simp[iI]at h1;split at h1
   . rename_i q b;cases h1;simp[toTs,GL b d];rfl
   grind
  |_=>grind[iI]
theorem TQ{sz:Nat}:∀{ps:List (Nat×aQ)} {es c:List (List T)} {p:Prop},jO env1 sz es ps=some (p,c)->c.length=es.length
 |[],es,c,p,h=>by grind[jO]
 |(i,x)::ps,es,c,p,h=>by
  simp only[jO,br,ew,bo]at h;obtain⟨a,_,cs,_,ts,_,_,b,d,_,rfl⟩:=h;have:=TQ d;grind
theorem G6{l m:List (t.den U.D)}{i o:Nat}{e:List C}(h:sh U t l i o cs=some m)(s:i<l.length)(j:ba (cj N J) cs e)(y:o+cs.length<=t.sz U):
 ∃ts,toTs e=some ts/\m.map (t.enc U)=(l.map (t.enc U)).set i ((el (l.map (t.enc U)) i).take o++ts++(el (l.map (t.enc U)) i).drop (o+cs.length)):=by
 unfold sh at h;split at h
 . rename_i x d;cases h;unfold qt at d;split at d
   . rename_i row u;have ag:=aL.FH d;have key:=@GL U N J;have v:ba (cj N J) ((t.row U (t.at U l i)).map .t) _:=zX;have n:=He (o:=o) v j;have h1:=key u n;have g:∀{a b:List C} {r:List T},toTs (a++b)=some r->∃p q,toTs a=some p/\toTs b=some q/\r=p++q:=by
      intro a;induction a with
      |nil=>intro b r h;exact⟨[],r,rfl,h,rfl⟩
      |cons c a ih=>
       intro b r h;simp[toTs,br,bo]at h;grind[toTs]
     have k:∀(ts:List T),toTs (ts.map .t)=some ts:=by
      intro ts;induction ts with
      |nil=>rfl
      |cons a ts ih=>grind[toTs,toT]
     obtain⟨p,q,aM,f,di⟩:=g h1;obtain⟨z,w,f1,f2,f3⟩:=g aM;rw[<-List.map_take,k]at f1;cases f1;rw[<-List.map_drop,k]at f;cases f;refine⟨w,f2,?_⟩;rw[List.map_set,zJ s,aL.u9,ag,di,f3,j.length]
   grind
 grind
variable (he:c4 N J G env env1)(aq:gP gl env G)(aI:cx N J J1)
section
include he aq aI
theorem aij(h:cu gl gd env J N (.mov x)=some (c,v,J')):ea N J J1 (.mov x) env1 (cE env G gd) c v J':=by
 simp[cu]at h;split at h
 . rename_i w b;cases h;obtain⟨p,v1,a1,a2,a3⟩:=cr he aq b;exact .neutral aI a2 λa _=>⟨p,by grind[aR],a3 a⟩
 grind
theorem aeo{z:aQ}(h:cu gl gd env J N (.pick x y z)=some (c,v,J')):ea N J J1 (.pick x y z) env1 (cE env G gd) c v J':=by
 simp[cu]at h;split at h
 . rename_i b p q h1 g i;cases h;obtain⟨j,v1,a1,a2,a3⟩:=cr he aq h1;obtain⟨k,m,b1,b2,b3⟩:=L0 he aq h1 rfl g;obtain⟨l,v3,d,e,f⟩:=L0 he aq h1 rfl i;have:=a2.jq;subst this;have:=b2.jq;subst this;have:=e.jq;subst this;refine .neutral aI (.c (.t _)) λa _=>⟨j/\(b=true->k)/\(b=false->l),by simp only[aR,a1,b1,d];rfl,a3 a,b3 a,f a⟩
 grind
theorem Z9(h:cu gl gd env J N (.nilCheck x)=some (c,v,J')):ea N J J1 (.nilCheck x) env1 (cE env G gd) c v J':=by
 simp[cu]at h;split at h
 . rename_i b o d;cases h;obtain⟨p,v1,a1,a2,a3⟩:=cr he aq d;have:=a2.hT;subst this;exact .neutral aI a2 λa _=>⟨p,by simp[aR,a1],a3 a⟩
 . rename_i b t i o d;cases h;obtain⟨p,v1,a1,a2,a3⟩:=cr he aq d;have:=a2.jd;subst this;exact .neutral aI a2 λa _=>⟨p,by simp[aR,a1],a3 a⟩
 . rename_i t e o d;cases h;obtain⟨p,v1,a1,a2,a3⟩:=cr he aq d;have:=a2.FA;subst this;exact .neutral aI a2 λa _=>⟨p,by simp[aR,a1],a3 a⟩
 grind
theorem aik(h:cu gl gd env J N (.not x)=some (c,v,J')):ea N J J1 (.not x) env1 (cE env G gd) c v J':=by
 simp[cu]at h;split at h
 . rename_i b d;cases h;obtain⟨p,v1,a1,a2,a3⟩:=cr he aq d;have:=a2.jq;subst this;exact .neutral aI (.c (.t _)) λa _=>⟨p,by simp[aR,a1];rfl,a3 a⟩
 grind
theorem aep{k:IntKind}(h:cu gl gd env J N (.conv k x)=some (c,v,J')):ea N J J1 (.conv k x) env1 (cE env G gd) c v J':=by
 simp only[cu]at h;split at h
 . rename_i d m b;cases h;obtain⟨p,v1,a1,a2,a3⟩:=cr he aq b;have:=a2.gr;subst this;exact .neutral aI (.c (.t _)) λa _=>⟨p,by simp[aR,a1];rfl,a3 a⟩
 grind
theorem aih(h:cu gl gd env J N (.i2s x)=some (c,v,J')):ea N J J1 (.i2s x) env1 (cE env G gd) c v J':=by
 simp[cu]at h;split at h
 . rename_i d m b;cases h;obtain⟨p,v1,a1,a2,a3⟩:=cr he aq b;have:=a2.gr;subst this;exact .neutral aI (.c (.t _)) λa _=>⟨p,by simp[aR,a1];rfl,a3 a⟩
 grind
theorem ail(h:cu gl gd env J N (.s2s x)=some (c,v,J')):ea N J J1 (.s2s x) env1 (cE env G gd) c v J':=by
 simp[cu]at h;split at h
 . rename_i s b;cases h;obtain⟨p,v1,a1,a2,a3⟩:=cr he aq b;have:=a2.kn;subst this;exact .neutral aI a2 λa _=>⟨p,by simp[aR,a1],a3 a⟩
 grind
theorem aeq(h:cu gl gd env J N (.fldA off x)=some (c,v,J')):ea N J J1 (.fldA off x) env1 (cE env G gd) c v J':=by
 simp[cu]at h;split at h
 . rename_i b o d;cases h;obtain⟨p,v1,a1,a2,a3⟩:=cr he aq d;have:=a2.hT;subst this;exact .neutral aI (.c (.ptr _ _)) λa _=>⟨p,by simp[aR,a1],a3 a⟩
 . rename_i b t i o d;cases h;obtain⟨p,v1,a1,a2,a3⟩:=cr he aq d;have:=a2.jd;subst this;exact .neutral aI (.c (.cG _ _ _ _)) λa _=>⟨p,by simp[aR,a1],a3 a⟩
 . rename_i t e o d;cases h;obtain⟨p,v1,a1,a2,a3⟩:=cr he aq d;have:=a2.FA;subst this;exact .neutral aI (.c (.dN _ _ _)) λa _=>⟨p,by simp[aR,a1],a3 a⟩
 grind
theorem aif{k:Nat}(h:cu gl gd env J N (.fld agg off k x)=some (c,v,J')):ea N J J1 (.fld agg off k x) env1 (cE env G gd) c v J':=by
 simp[cu]at h;split at h
 . rename_i cs d;split at h
   . rename_i w af;cases h;obtain⟨p,v1,a1,a2,a3⟩:=cr he aq d;obtain⟨f,rfl,b2⟩:=a2.sv;obtain⟨g,e,a⟩:=wi b2 af;exact .neutral aI a λb _=>⟨p,by grind[aR],a3 b⟩
   grind
 grind
theorem aer{k:Nat}(h:cu gl gd env J N (.load agg k x)=some (c,v,J')):ea N J J1 (.load agg k x) env1 (cE env G gd) c v J':=by
 simp only[cu]at h;split at h
 . rename_i b o j;split at h
   . rename_i cs g;split at h
     . rename_i w af;cases h;obtain⟨p,v1,a1,a2,a3⟩:=cr he aq j;have:=a2.hT;subst this;obtain⟨_,y,b1,b2⟩:=aI b _ g;cases b2 with
       |box b2=>
        obtain⟨s,d,m⟩:=wi b2 af;exact .neutral aI m λa _=>⟨p,by simp[aR,a1,b1,d],a3 a⟩
     . cases h
   . rename_i E z g;split at h
     . cases h;obtain⟨p,v1,a1,a2,a3⟩:=cr he aq j;have:=a2.hT;subst this;obtain⟨_,y,b1,b2⟩:=aI b _ g;cases b2 with
       |b7 b2=>exact .neutral aI (.c b2) λa _=>⟨p,by simp[aR,a1,b1],a3 a⟩
     . cases h
   . cases h
 . rename_i b t i o j;split at h
   . rename_i u B g;split at h
     . rename_i l af;have e:=Cell.ku af;split at h
       . rename_i w q;cases h;obtain⟨p,v1,a1,a2,a3⟩:=cr he aq j;have:=a2.jd;subst this;obtain⟨_,y,b1,b2⟩:=aI b _ g;cases b2 with
         |arr=>
          obtain⟨s,d,m⟩:=wi zX q;refine .neutral aI m λa f=>⟨p/\t.sz U=t.sz U/\i<(List.map (t.enc U) l).length,?_,a3 a,rfl,wO (gY f)⟩
          simp only[dO]at f;grind[Iy,aR,zJ]
       . cases h
     . cases h
   . rename_i u B A C z g;split at h
     . cases h
     . split at h
       . rename_i n;split at h
         . rename_i r;cases h;have n:=c5 n;have r:=c5 r;subst n;obtain⟨p,v1,a1,a2,a3⟩:=cr he aq j;have:=a2.jd;subst this;obtain⟨_,y,b1,b2⟩:=aI b _ g;cases b2 with
           |cA _ _ _ _ b2=>
            refine .neutral aI (.c b2) λa f=>⟨p/\t.sz U=u.sz U/\i=A,?_,a3 a,r,gY f⟩
            simp only[aR,a1,ao,b1];simp
         . cases h
       . rename_i n;have n:=iG n;split at h
         . rename_i l af;have e:=Cell.ku af;cases e;split at h
           . rename_i w q;cases h;obtain⟨p,v1,a1,a2,a3⟩:=cr he aq j;have:=a2.jd;subst this;obtain⟨_,y,b1,b2⟩:=aI b _ g;cases b2 with
             |cA _ _ _ _ b2=>
              obtain⟨s,d,m⟩:=wi zX q;refine .neutral aI m λa f=>⟨p/\t.sz U=t.sz U/\i<(List.map (t.enc U) l).length,?_,a3 a,rfl,wO (gY f)⟩
              simp only[dO]at f;have d:=Iy d;simp only[aR,a1,ao,b1];rw[bz,al n,zJ f,d];rfl
           . cases h
         . cases h
   . cases h
 . rename_i t D o j;split at h
   . rename_i w af;cases h;obtain⟨p,v1,a1,a2,a3⟩:=cr he aq j;have:=a2.FA;subst this;obtain⟨s,d,m⟩:=wi zX af;have d:=Iy d;exact .neutral aI m λa _=>⟨p,by simp[aR,a1,d],a3 a⟩
   . cases h
 grind
theorem aic(h:cu gl gd env J N (.bin op x y)=some (c,v,J')):ea N J J1 (.bin op x y) env1 (cE env G gd) c v J':=by
 simp[cu]at h;split at h
 . rename_i p q d e;split at h
   . rename_i j r ag;cases h;obtain⟨f,v1,a1,a2,a3⟩:=cr he aq d;obtain⟨g,k,b1,b2,b3⟩:=cr he aq e;have:=a2.w4;have:=b2.w4;obtain⟨i,d1,d2⟩:=Z7 ag;exact .neutral aI (.c (.t _)) λa b=>⟨f/\g/\i,by grind[aR],a3 a,b3 a,d2 b⟩
   grind
 grind
theorem adz{ks:a8}(h:cu gl gd env J N (.eqAgg neg ks x y)=some (c,v,J')):ea N J J1 (.eqAgg neg ks x y) env1 (cE env G gd) c v J':=by
 simp[cu]at h;split at h
 . rename_i p q d e;split at h
   . rename_i r ag;cases h;obtain⟨f,v1,a1,a2,a3⟩:=cr he aq d;obtain⟨g,k,b1,b2,b3⟩:=cr he aq e;obtain⟨i,rfl,d2⟩:=a2.sv;obtain⟨es,rfl,b⟩:=b2.sv;have:=JB ag d2 b;exact .neutral aI (.c (.t _)) λa j=>⟨f/\g,by simp[aR,a1,b1,this];cases neg<;>rfl,a3 a,b3 a⟩
   . cases h
 . cases h
theorem acs(h:cu gl gd env J N (.eqBool neg x y)=some (c,v,J')):ea N J J1 (.eqBool neg x y) env1 (cE env G gd) c v J':=by
 simp[cu]at h;split at h
 . rename_i p q b d;cases h;obtain⟨e,v1,a1,a2,a3⟩:=cr he aq b;obtain⟨f,i,b1,b2,b3⟩:=cr he aq d;have:=a2.jq;subst this;have:=b2.jq;subst this;exact .neutral aI (.c (.t _)) λa g=>⟨e/\f,by simp only[aR,a1,b1];cases neg<;>rfl,a3 a,b3 a⟩
 grind
theorem aes{sz:Nat}(h:cu gl gd env J N (.idxA sz x y)=some (c,v,J')):ea N J J1 (.idxA sz x y) env1 (cE env G gd) c v J':=by
 simp[cu]at h;split at h
 . rename_i t l k m g i;split at h
   . rename_i d;have d:=c5 d;cases h;obtain⟨j,v1,a1,a2,a3⟩:=cr he aq g;obtain⟨o,q,b1,b2,b3⟩:=cr he aq i;have:=a2.km;subst this;have:=b2.gr;subst this;by_cases ag:aH m (List.length l)=true
     . obtain⟨h1,f⟩:=ti.1 ag;refine .neutral aI (v1:= .c (.dN (el (List.map (t.enc U) l) (Int.toNat m)) 0)) ?_ λa e=>⟨j/\o/\(0:Int)<=m/\Int.toNat m<(List.map (t.enc U) l).length/\(el (List.map (t.enc U) l) (Int.toNat m)).length=sz,by simp only[aR,a1,b1,ao],a3 a,b3 a,h1,wO f,by rw[zJ f,aL.sL];exact d⟩
       rw[zJ f];exact .c (.dN _ _ _)
     . exact .neutral aI (.c (.dN _ _ _)) λa e=>absurd e ag
   . cases h
 . rename_i b k m g i;split at h
   . rename_i t l p;split at h
     . rename_i d;have d:=c5 d;cases h;obtain⟨j,v1,a1,a2,a3⟩:=cr he aq g;obtain⟨o,q,b1,b2,b3⟩:=cr he aq i;obtain⟨s,n,rfl,r,a⟩:=a2.hd;have:=b2.gr;subst this;have:=a _ p _ rfl;cases this;refine .neutral aI (.c (.cG _ _ _ _)) λa e=>⟨j/\o/\(0:Int)<=m/\Int.toNat m<l.length/\sz=t.sz U,?_,a3 a,b3 a,(ti.1 e).1,(ti.1 e).2,d.symm⟩
       simp only[aR,a1,b1,ao,hR,d]
     . cases h
   . cases h
 grind
theorem aet(h:cu gl gd env J N (.idxS x y)=some (c,v,J')):ea N J J1 (.idxS x y) env1 (cE env G gd) c v J':=by
 simp[cu]at h;split at h
 . rename_i s k m d e;cases h;obtain⟨f,v1,a1,a2,a3⟩:=cr he aq d;obtain⟨g,i,b1,b2,b3⟩:=cr he aq e;have:=a2.kn;subst this;have:=b2.gr;subst this;exact .neutral aI (.c (.t _)) λb a=>⟨f/\g/\(0:Int)<=m/\Int.toNat m<List.length s,by simp only[aR,a1,b1];rfl,a3 b,b3 b,(ti.1 a).1,(ti.1 a).2⟩
 grind
theorem pB{x:Option aQ}{l:Option Int}(h:oh gl gd env x=some l):∃p,jS env1 x=some (p,l)/\(cE env G gd=true->p):=by
 unfold oh at h;split at h
 . cases h;exact⟨True,rfl,λ_=>trivial⟩
 . split at h
   . rename_i k n a;cases h;obtain⟨b,v1,a1,a2,a3⟩:=cr he aq a;have:=a2.gr;subst this;exact⟨b,by simp[jS,a1],a3⟩
   grind
theorem aeu{d b:Option aQ}(h:cu gl gd env J N (.slcS x d b)=some (c,v,J')):ea N J J1 (.slcS x d b) env1 (cE env G gd) c v J':=by
 simp[cu]at h;split at h
 . rename_i s l r f af ag;cases h;obtain⟨i,v1,a1,a2,a3⟩:=cr he aq f;obtain⟨pl,g,l2⟩:=pB he aq aI af;obtain⟨j,k,m⟩:=pB he aq aI ag;have:=a2.kn;subst this;exact .neutral aI (.c (.t _)) λa e=>⟨i/\pl/\j/\0<=l.getD 0/\l.getD 0<=r.getD _/\r.getD _<=List.length s,by simp[aR,a1,g,k];rfl,a3 a,l2 a,m a,iJ.1 e⟩
 grind
theorem aim{sz:Nat}{j B:Option aQ}(h:cu gl gd env J N (.slc sz x j B)=some (c,v,J')):ea N J J1 (.slc sz x j B) env1 (cE env G gd) c v J':=by
 simp only[cu]at h;split at h
 . rename_i t s l r g af ag;split at h
   . rename_i d;have d:=c5 d;cases h;obtain⟨k,v1,a1,a2,a3⟩:=cr he aq g;obtain⟨pl,z,l2⟩:=pB he aq aI af;obtain⟨m,q,o⟩:=pB he aq aI ag;have:=a2.km;subst this;refine .neutral aI (.c (.t (U:=U) ⟨.slice t,_⟩)) λf a=>⟨k/\pl/\m/\0<=l.getD 0/\l.getD 0<=r.getD (List.length s:Int)/\r.getD (List.length s:Int)<=(List.length s:Int)/\∀e,e∈List.map (t.enc U) s->e.length=sz,?_,a3 f,l2 f,o f,(iJ.1 a).1,(iJ.1 a).2.1,(iJ.1 a).2.2,?_⟩
     . simp only[aR,a1,z,q,ao];exact aem
     grind[aL.sL]
   grind
 . rename_i b r g af ag;split at h
   . rename_i t s u;split at h
     . rename_i d;have d:=c5 d;cases h;obtain⟨k,v1,a1,a2,a3⟩:=cr he aq g;obtain⟨m,q,o⟩:=pB he aq aI ag;obtain⟨D,n,rfl,w,f⟩:=a2.hd;have A:=f _ u (t.sz U,s.length) rfl;have y:j=none:=by
        cases j with
        |none=>rfl
        |some x=>grind[oh]
       subst y;refine .neutral aI (.c (.pre b (t.sz U) _ w λx C p g=>?_)) λi a=>⟨k/\True/\m/\0<=(none:Option Int).getD 0/\(none:Option Int).getD 0<=r.getD (List.length s:Int)/\r.getD (List.length s:Int)<=(List.length s:Int)/\sz=t.sz U,?_,a3 i,trivial,o i,(iJ.1 a).1,(iJ.1 a).2.1,(iJ.1 a).2.2,d.symm⟩
       . grind
       . have E:jS env1 none=some (True,none):=rfl;grind[aR]
     grind
   grind
 . rename_i b l r g af ag;split at h
   . rename_i t s u;split at h
     . rename_i d;have d:=c5 d;cases h;obtain⟨k,v1,a1,a2,a3⟩:=cr he aq g;obtain⟨pl,z,l2⟩:=pB he aq aI af;obtain⟨m,q,o⟩:=pB he aq aI ag;obtain⟨D,n,rfl,w,f⟩:=a2.hd;have A:=f _ u (t.sz U,s.length) rfl;obtain⟨rfl,rfl⟩:=A;have y:j.isNone=false:=by
        cases j with
        |none=>simp[oh]at af
        |some x=>rfl
       refine .neutral aI (.c (.dP b (t.sz U) _ _ w λx C p g=>?_)) λi a=>⟨k/\pl/\m/\0<=(some l:Option Int).getD 0/\(some l:Option Int).getD 0<=r.getD (List.length s:Int)/\r.getD (List.length s:Int)<=(List.length s:Int)/\sz=t.sz U,?_,a3 i,l2 i,o i,(iJ.1 a).1,(iJ.1 a).2.1,(iJ.1 a).2.2,d.symm⟩
       . grind
       . simp only[aR,a1,z,q,ao,y,bZ,b9,hR];rfl
     grind
   grind
 grind
theorem aev(h:cu gl gd env J N (.slc0 x)=some (c,v,J')):ea N J J1 (.slc0 x) env1 (cE env G gd) c v J':=by
 simp[cu]at h;split at h
 . rename_i t l d;cases h;obtain⟨p,v1,a1,a2,a3⟩:=cr he aq d;have:=a2.km;subst this;exact .neutral aI (.c .az) λa _=>⟨p,by simp[aR,a1],a3 a⟩
 . rename_i d;cases h;obtain⟨p,v1,a1,a2,a3⟩:=cr he aq d;have:=a2.u0;subst this;exact .neutral aI (.c .az) λa _=>⟨p,by simp[aR,a1],a3 a⟩
 . rename_i b d;cases h;obtain⟨p,v1,a1,a2,a3⟩:=cr he aq d;obtain⟨sz,n,rfl,_⟩:=a2.hd;exact .neutral aI (.c .az) λa _=>⟨p,by simp[aR,a1],a3 a⟩
 grind
theorem JC:∀{vs:List (bG U)} {a:List V} {l:a8},A1 vs=some l->ba (ca N J) vs a->aR.sD a=some l
 |[],[],l,h,.nil=>by simp[A1]at h;subst h;rfl
 |.c (.ptr b 0)::vs,d::a,l,h,.cons h1 e=>by
  simp only[A1]at h;split at h
  . rename_i f af;cases h;have:=h1.hT;subst this;simp[aR.sD,JC af e]
  grind
theorem aew{f:Nat}{caps:List aQ}(h:cu gl gd env J N (.mkfn f caps)=some (c,v,J')):ea N J J1 (.mkfn f caps) env1 (cE env G gd) c v J':=by
 simp[cu]at h;split at h
 . rename_i vs b;split at h
   . rename_i l af;cases h;obtain⟨p,d,a1,a2,a3⟩:=tE he aq b;exact .neutral aI (.c (.fn _ _)) λa _=>⟨p,by simp[aR,a1,JC he aq aI af a2],a3 a⟩
   . cases h
 grind
theorem aie{i:Nat}(h:cu gl gd env J N (.ext x i)=some (c,v,J')):ea N J J1 (.ext x i) env1 (cE env G gd) c v J':=by
 simp[cu]at h;split at h
 . rename_i vs f;split at h
   . rename_i w a;cases h;obtain⟨p,v1,a1,a2,a3⟩:=cr he aq f;cases a2 with
     |aY _ b af d=>
      have g:=(ds.1 a).1;have e:=e' (l:=b) (i:=i) (by omega);exact .neutral aI (d i _ _ a e) λaq _=>⟨p,by grind[aR],a3 aq⟩
   grind
 grind
theorem aex(h:cu gl gd env J N (.max2 x y)=some (c,v,J')):ea N J J1 (.max2 x y) env1 (cE env G gd) c v J':=by
 simp only[cu]at h;split at h
 . rename_i k a l b e f;simp at h;obtain⟨rfl,rfl,rfl,rfl⟩:=h;obtain⟨g,v1,a1,a2,a3⟩:=cr he aq e;obtain⟨i,m,b1,b2,b3⟩:=cr he aq f;have:=a2.gr;subst this;have:=b2.gr;subst this;exact .neutral aI (.c (.t (U:=U) _)) λd j=>⟨g/\i,by simp[aR,a1,b1];rfl,a3 d,b3 d⟩
 grind
theorem aey(h:cu gl gd env J N (.min2 x y)=some (c,v,J')):ea N J J1 (.min2 x y) env1 (cE env G gd) c v J':=by
 simp[cu]at h;split at h
 . rename_i k a l b e f;simp at h;obtain⟨rfl,rfl,rfl,rfl⟩:=h;obtain⟨g,v1,a1,a2,a3⟩:=cr he aq e;obtain⟨i,m,b1,b2,b3⟩:=cr he aq f;have:=a2.gr;subst this;have:=b2.gr;subst this;exact .neutral aI (.c (.t _)) λd j=>⟨g/\i,by simp only[aR,a1,b1,ao];rfl,a3 d,b3 d⟩
 grind
theorem Ts{z:List C}{parts:List (Nat×Nat×aQ)}(h:cu gl gd env J N (.build z parts)=some (c,v,J')):ea N J J1 (.build z parts) env1 (cE env G gd) c v J':=by
 simp[cu]at h;split at h
 . rename_i f d;split at h
   . rename_i cs a;cases h;obtain⟨p,e,a1,a2,a3⟩:=J0 he aq a (tA d);exact .neutral aI (.agg a2) λb _=>⟨p,by grind[aR],a3 b⟩
   grind
 grind
theorem adA{cs:List C}(h:cu gl gd env J N (.alloc cs)=some (c,v,J')):ea N J J1 (.alloc cs) env1 (cE env G gd) c v J':=by
 simp[cu]at h;split at h
 . rename_i xs a;cases h;have k:dw N J (N+16) (cI J N (.box xs)):=l1;exact .store rfl k (.c (.ptr _ _)) λb _=>⟨True,_,rfl,trivial,aI.put (by simp) k (.box (tA a))⟩
 grind
theorem aid(h:cu gl gd env J N (.box x)=some (c,v,J')):ea N J J1 (.box x) env1 (cE env G gd) c v J':=by
 simp[cu]at h;split at h
 . rename_i w d;split at h
   . rename_i cs a;cases h;obtain⟨p,v1,a1,a2,a3⟩:=cr he aq d;obtain⟨e,b1,b2⟩:=p' a2 a;have k:dw N J (N+16) (cI J N (.box cs)):=l1;exact .store rfl k (.c (.ptr _ _)) λb _=>⟨p,_,by grind[aR],a3 b,aI.put (by simp) k (.box (b2.imp λ_ _ _=>cj.mono k))⟩
   grind
 grind
theorem acu{sz len:Nat}{z:List C}{parts:List (Nat×aQ)}(h:cu gl gd env J N (.bslice sz len z parts)=some (c,v,J')):ea N J J1 (.bslice sz len z parts) env1 (cE env G gd) c v J':=by
 simp[cu]at h;split at h
 . rename_i l i;split at h
   . cases h
   . rename_i ts d;split at h
     . grind
     . rename_i a;have a:=c5 a;split at h
       . rename_i rows ag;cases h;have j:=tA (N:=N) (J:=J) i;obtain⟨p,es,a1,a2,a4,a3⟩:=HF he aq ag (ba.replicate (R:=λr e=>ib r=some e) d _) (by intro r ag;rw[List.eq_of_mem_replicate ag];exact a);have k:dw N J (N+16) (cI J N (.rows sz rows)):=l1 (by omega);refine .store rfl k (.c (.arr N sz es.length (by omega) ?_)) λg _=>⟨p,_,by simp[aR,Dv j d,ao,a1,jV];rw[TQ a1,List.length_replicate],a3 g,aI.put (by omega) k (.rows a2 a4)⟩
         intro x f q b;rw[h3,ae rfl]at f;cases f;simp[cT.dd]at b;rw[<-b,a2.length]
       . cases h
 grind
omit he aq aI in
theorem aaF{a:List C}(h:toTs a=some ts):yN a=none:=by
 unfold yN;grind[toTs,toT]
omit he aq aI in
theorem acv{J1:a'}{w:bG U}{d:V}(h:ca N J w d)(e:∀b a len,w≠.c (.dP b a len))(f:∀b a len,w≠.c (.sub b a len))(g:w≠.c .dead):oH v1 d=none:=by
 unfold oH;split
 . cases h with
   |c h=>
    cases h<;>grind
 rfl
theorem adB{k:Nat}(h:cu gl gd env J N (.store k x y)=some (c,v,J')):ea N J J1 (.store k x y) env1 (cE env G gd) c v J':=by
 simp only[cu]at h;split at h
 . rename_i b o w j A;split at h
   . rename_i cs s;split at h
     . rename_i B;have B:=c5 B;split at h
       . rename_i aa D;split at h
         . rename_i X;have X:=ig X;cases h;obtain⟨p,v1,a1,a2,a3⟩:=cr he aq j;obtain⟨q,K,b1,b2,b3⟩:=cr he aq A;have:=a2.hT;subst this;obtain⟨es,g,d⟩:=p' b2 s;obtain⟨C,z,d1,d2⟩:=aI b _ D;cases d2 with
           | @box _ fs d2=>
            have a:dw N J (N+16) (cI J b (.box (xg aa o cs))):=nU (by simp) D (λp h=>by grind[cT.dd]);refine .store rfl a (.aY [] [] rfl (by simp)) λf _=>⟨p/\q,_,?_,⟨a3 f,b3 f⟩,aI.put (by omega) a (.box (He (d2.imp λ_ _ _=>cj.mono a) (d.imp λ_ _ _=>cj.mono a)))⟩
            simp only[aR,a1,b1,ao,g];rw[ae (by rw[<-d.length];grind),d1];dsimp only;rw[ae (by rw[<-d2.length];grind)]
         grind
       . rename_i E L D;split at h
         . rename_i L _;cases h;obtain⟨p,v1,a1,a2,a3⟩:=cr he aq j;obtain⟨q,K,b1,b2,b3⟩:=cr he aq A;have:=a2.hT;obtain⟨es,g,d⟩:=p' b2 s;obtain⟨C,z,d1,d2⟩:=aI b _ D;cases d2 with
           |b7 d2=>
            cases d with|cons d n=>
            cases n;have a:dw N J (N+16) (cI J b (.b7 E L)):=nU (by simp) D (λp h=>by grind[cT.dd]);refine .store rfl a (.aY [] [] rfl (by simp)) λf _=>⟨p/\q,_,?_,⟨a3 f,b3 f⟩,aI.put (by omega) a (.b7 (d.mono a))⟩
            simp only[aR,a1,b1,ao,g];grind
         grind
       grind
     grind
   grind
 . rename_i b t i o w j A;split at h
   . rename_i cs s;split at h
     . rename_i B;simp only[cC]at B;have S:=c5 B.1;have O:=ig B.2;split at h
       . rename_i Q V m;split at h
         . rename_i l af;have e:=Cell.ku af;cases e;split at h
           . rename_i M ag;cases h;obtain⟨rfl,R,rfl⟩:cs=[M]/\∃R,M= .arr R:=by
              unfold SE at ag;grind
             obtain⟨p,v1,a1,a2,a3⟩:=cr he aq j;obtain⟨q,K,b1,b2,b3⟩:=cr he aq A;have:=a2.jd;obtain⟨es,g,d⟩:=p' b2 s;cases d with|cons d n=>
             cases n;have Z:=d;cases d with|arr _ an am aj ak=>
             obtain⟨C,z,d1,d2⟩:=aI b _ m;cases d2 with
             |arr=>
              have a:dw N J (N+16) (cI J b (.cA t l i o (.arr R))):=nU (by simp) m (λp h=>by grind[cT.dd]);refine .store rfl a (.aY [] [] rfl (by simp)) λf r=>⟨p/\q/\t.sz U=t.sz U/\i<(List.map (t.enc U) l).length/\o+k<=t.sz U,_,?_,⟨a3 f,b3 f,rfl,wO (gY r),O⟩,aI.put (by omega) a (.cA t l i o (Z.mono a))⟩
              simp only[aR,a1,b1,ao,g];simp_all[ae,yN]
           split at h
           . rename_i l2 P;cases h;obtain⟨p,v1,a1,a2,a3⟩:=cr he aq j;obtain⟨q,K,b1,b2,b3⟩:=cr he aq A;have:=a2.jd;subst this;obtain⟨es,g,d⟩:=p' b2 s;obtain⟨C,z,d1,d2⟩:=aI b _ m;cases d2 with
             |arr=>
              have ad:l2.length=List.length l:=by
               grind[sh]
              have a:dw N J (N+16) (cI J b (.arr t l2)):=nU (by simp) m (λp h=>by
               grind[cT.dd])
              refine .store rfl a (.aY [] [] rfl (by simp)) λf r=>?_;have F:i<List.length l:=gY r;obtain⟨ts,aM,ab⟩:=G6 P F d (by grind);refine⟨p/\q/\t.sz U=t.sz U/\i<(List.map (t.enc U) l).length/\o+k<=t.sz U,_,?_,⟨a3 f,b3 f,rfl,wO F,O⟩,aI.put (by omega) a (.arr t l2)⟩;simp only[aR,a1,b1,ao,g];rw[ae (by rw[<-d.length];grind),d1];grind[aaF]
           grind
         grind
       . rename_i Q V H Y L m;split at h
         . rename_i M;split at h
           . rename_i u;split at h
             . rename_i T;cases h;have u:=c5 u;have T:=c5 T;subst u;obtain⟨p,v1,a1,a2,a3⟩:=cr he aq j;obtain⟨q,K,b1,b2,b3⟩:=cr he aq A;have:=a2.jd;subst this;obtain⟨es,g,d⟩:=p' b2 s;cases d with|cons d n=>
               cases n;obtain⟨C,z,d1,d2⟩:=aI b _ m;cases d2 with
               |cA _ _ _ _ d2=>
                have a:dw N J (N+16) (cI J b (.cA Q V H o M)):=nU (by simp) m (λp h=>by grind[cT.dd]);refine .store rfl a (.aY [] [] rfl (by simp)) λf r=>⟨p/\q/\t.sz U=Q.sz U/\i=H,_,?_,⟨a3 f,b3 f,T,gY r⟩,aI.put (by omega) a (.cA Q V H o (d.mono a))⟩
                simp only[aR,a1,b1,ao,g];rw[ae (by simpa using S),d1];dsimp only;rw[ae rfl]
             . cases h
           . rename_i u;have u:=iG u;split at h
             . rename_i l af;have e:=Cell.ku af;cases e;split at h
               . rename_i l2 P;cases h;obtain⟨p,v1,a1,a2,a3⟩:=cr he aq j;obtain⟨q,K,b1,b2,b3⟩:=cr he aq A;have:=a2.jd;subst this;obtain⟨es,g,d⟩:=p' b2 s;obtain⟨C,z,d1,d2⟩:=aI b _ m;cases d2 with
                 |cA _ _ _ _ d2=>
                  have ad:l2.length=List.length l:=by
                   unfold sh at P;grind
                  have a:dw N J (N+16) (cI J b (.cA t l2 H Y L)):=nU (by omega) m (λp h=>by
                   simp only[cT.dd]at h⊢
                   grind)
                  refine .store rfl a (.aY [] [] rfl (by simp)) λf r=>?_;have F:i<List.length l:=gY r;obtain⟨ts,aM,ab⟩:=G6 P F d (by rw[S];exact O);cases d with| @cons _ W _ _ d n=>
                  cases n;obtain⟨I,ah,ai⟩:∃I,Shv.toT W=some I/\ts=[I]:=by
                   simp only[toTs]at aM;cases j:Shv.toT W with
                   |none=>rw[j]at aM;simp at aM
                   |some I=>rw[j]at aM;simp at aM;exact⟨I,rfl,aM.symm⟩
                  refine⟨p/\q/\t.sz U=t.sz U/\i<(List.map (t.enc U) l).length/\o+k<=t.sz U,_,?_,⟨a3 f,b3 f,rfl,wO F,O⟩,aI.put (by omega) a (.cA t l2 H Y (d2.mono a))⟩;simp only[aR,a1,b1,ao,g];rw[ae (by simpa using S),d1];dsimp only;rw[al u,ah];subst ai;grind
               . cases h
             . cases h
         . cases h
       . cases h
     . cases h
   . cases h
 . cases h
inductive kq:fY U->List (List T)->Prop
 |ty (t:aL) (l:List (t.den U.D)):kq (.ty t l) (l.map (t.enc U))
 |rows {r es}:ba (λr e=>ib r=some e) r es->kq (.rows r) es
 |nil:kq .nil []
omit he aq aI in
theorem kq.length(h:kq e es):es.length=e.len:=by
 cases h with
 |ty t l=>simp[fY.len]
 |rows h=>simp[fY.len,h.length]
 |nil=>rfl
omit he aq aI in
theorem Hf:∀{xs:List (bm U)} {dg:List aL} {e:List T} {row:List (Cell U.D)},iI dg xs=some row->ib xs=some e->e=row.map (Cell.enc U)
 |[],dg,e,row,h1,a=>by
  grind[iI,ib]
 |y::f,[],e,row,h1,a=>by grind[iI]
 |y::f,ty::dg,e,row,h1,a=>by
  simp[ib]at a;split at a
  . rename_i t ts ht d;cases a;cases y with
    |t c=>
     simp[bm.toT]at ht;split at ht
     . grind
     . cases ht;cases ty<;>simp[iI]at h1<;>(split at h1<;>first|(cases h1;done)|(rename_i q b;cases h1;rw[Hf b d];rfl))
    |az=>
     simp[bm.toT]at ht;subst ht;cases ty<;>simp[iI]at h1;split at h1
     . rename_i q b;cases h1;rw[Hf b d];rfl
     grind
    |_=>grind[bm.toT]
  grind
omit he aq aI in
theorem aez{r:List (bm U)}{x:t.den U.D}{e:List T}(h:qt U t r=some x)(he:ib r=some e):t.enc U x=e:=by
 grind[qt,aL.u9,aL.FH,Hf]
omit he aq aI in
theorem vZ:∀{r:List (List (bm U))} {l:List (t.den U.D)} {es:List (List T)},mm U t r=some l->ba (λr e=>ib r=some e) r es->l.map (t.enc U)=es
 |[],l,es,h,a=>by cases a;grind[mm]
 |r::d,l,_::_,h,.cons h1 a=>by
  simp[mm]at h;split at h
  . rename_i x xs b c;cases h;rw[fB,aez b h1,vZ c a]
  grind
omit he aq aI in
theorem kq.as{l:List (t.den U.D)}(h:kq e es)(a:e.as t=some l):l.map (t.enc U)=es:=by
 cases h with
 |ty u c=>
  have:=Cell.ku a;grind
 |rows h=>exact vZ a h
 |nil=>grind[fY.as]
omit he aq aI in
theorem kq.join{x y z:fY U}{es fs:List (List T)}(e:kq x es)(a:kq y fs)(h:x.join y=some z):kq z (es++fs):=by
 cases e with
 |nil=>grind[fY.join]
 |ty t l=>
  simp[fY.join]at h;split at h
  . rename_i f af;cases h;rw[<-a.as af,<-r2];exact .ty t _
  grind
 |rows ag=>
  cases a with
  |ty t l=>
   simp[fY.join]at h;split at h
   . rename_i f af;cases h;rw[<-vZ af ag,<-r2];exact .ty t _
   grind
  |rows c=>simp[fY.join]at h;subst h;exact .rows (ag.append c)
  |nil=>simp[fY.join]at h;subst h;rw[lD];exact .rows ag
omit he aq aI in
theorem kq.blk{e:fY U}{es:List (List T)}{sz:Nat}{b:cT U}(h:kq e es)(a:e.blk sz=some b):ic N' J' b (.arr sz es)/\(∀x,x∈es->x.length=sz)/\b.dd=some (sz,e.len):=by
 cases h with
 |ty t l=>
  simp[fY.blk]at a;split at a
  . rename_i hs;have:=c5 hs;subst this;cases a;refine⟨.arr t l,λx c=>?_,rfl⟩;grind[aL.sL]
  grind
 | @rows r es ag=>
  simp[fY.blk]at a;split at a
  . rename_i hs;cases a;simp only[dH]at hs;refine⟨.rows ag λx c=>c5 (hs x c),λx c=>?_,rfl⟩;obtain⟨i,j,rfl⟩:=e3 c;obtain⟨y,h1,f⟩:=(ag.flip λ_ _ h=>h).get (e' j);rw[Hw f];grind[c5]
  grind
 |nil=>
  simp[fY.blk]at a;subst a;exact⟨.rows .nil (by simp),by simp,rfl⟩
omit he aq in
theorem IB{f:Option Nat}(c:ca N J v v1)(h:se J v=some (e,f)):∃es,mn J1 v1=some (es,f)/\kq e es:=by
 unfold se at h;split at h
 . rename_i t l;cases h;have:=c.km;subst this;exact⟨_,rfl,.ty t l⟩
 . cases h;have:=c.u0;subst this;exact⟨_,rfl,.nil⟩
 . rename_i b;obtain⟨sz,n,rfl,i,d⟩:=c.hd;split at h
   . rename_i t l af;cases h;obtain⟨_,y,h1,a⟩:=aI b _ af;cases a;have:=d _ af _ rfl;cases this;exact⟨_,by simp[mn,h1],.ty t l⟩
   . rename_i j r af;cases h;obtain⟨_,y,h1,a⟩:=aI b _ af;cases a with
     |rows a g=>
      have:=d _ af _ rfl;cases this;exact⟨_,by simp[mn,h1,a.length],.rows a⟩
   . cases h
 grind
theorem aii{str:Bool}(h:cu gl gd env J N (.len str x)=some (c,v,J')):ea N J J1 (.len str x) env1 (cE env G gd) c v J':=by
 simp[cu]at h;split at h
 . rename_i s d;cases h;obtain⟨p,v1,a1,a2,a3⟩:=cr he aq d;have:=a2.kn;subst this;exact .neutral aI (.c (.t _)) λa _=>⟨p,by simp[aR,a1];rfl,a3 a⟩
 . rename_i b d;split at h
   . rename_i E s g;cases h;obtain⟨p,v1,a1,a2,a3⟩:=cr he aq d;obtain⟨n,rfl,_,f⟩:=a2.Bm;have:=f _ g _ rfl;cases this;exact .neutral aI (.c (.t _)) λa _=>⟨p,by simp[aR,a1];rfl,a3 a⟩
   grind
 . rename_i w d;split at h
   . rename_i e dM;cases h;obtain⟨p,v1,a1,a2,a3⟩:=cr he aq d;refine .neutral aI (.c (.t (U:=U) ⟨.int .i64,_⟩)) λa _=>⟨p,?_,a3 a⟩
     unfold se at dM;split at dM
     . cases dM;have:=a2.km;subst this;simp only[aR,a1,ao];exact aen
     . cases dM;have:=a2.u0;subst this;simp only[aR,a1,ao];rfl
     . obtain⟨sz,n,rfl,g,f⟩:=a2.hd;simp[aR,a1];split at dM
       . rename_i t l af;cases dM;have:=f _ af _ rfl;cases this;rfl
       . rename_i i r af;cases dM;have:=f _ af _ rfl;cases this;rfl
       grind
     grind
   grind
 grind
omit he aq aI in
theorem H4{bytes n:Nat}:room bytes n=true↔(2*n+192)*bytes<=ka/\n<=eI:=by simp[room]
omit he aq aI in
theorem EG{bytes n:Nat}(h:room bytes n=true):lR n bytes/\n<=eI:=⟨.inl (H4.1 h).1,(H4.1 h).2⟩
theorem acw{sz bytes:Nat}(h:cu gl gd env J N (.append sz bytes x y)=some (c,v,J')):ea N J J1 (.append sz bytes x y) env1 (cE env G gd) c v J':=by
 simp only[cu]at h;split at h
 . rename_i w d s;split at h
   . rename_i aa an A;split at h
     . rename_i blk I;cases h;obtain⟨p,v1,a1,a2,a3⟩:=cr he aq d;obtain⟨q,C,b1,b2,b3⟩:=cr he aq s;have:=a2.u0;subst this;obtain⟨g,D,m⟩:=IB aI b2 A;have k:dw N J (N+16) (cI J N blk):=l1 (by omega);obtain⟨d1,d2,d3⟩:=m.blk (N':=N+16) (J':=cI J N blk) I;refine .store rfl k (.c (.arr N sz g.length (by omega) ?_)) λj n=>⟨p/\q/\(∀e,e∈g->e.length=sz)/\lR g.length bytes/\g.length<=eI,_,by simp only[aR,a1,b1,ao,show oH (.c .az) C=none from rfl,D],⟨a3 j,b3 j,d2,?_⟩,aI.put (by omega) k d1⟩
       . intro x d r ag;rw[h3,ae rfl]at d;cases d;rw[d3]at ag;cases ag;rw[m.length]
       . rw[m.length];exact EG n
     . cases h
   . cases h
 . rename_i b w d s;split at h
   . rename_i ar xb aa Z V A;split at h
     . grind
     . split at h
       . cases h
       . rename_i o;split at h
         . rename_i au Y;split at h
           . rename_i blk I;cases h;obtain⟨p,v1,a1,a2,a3⟩:=cr he aq d;obtain⟨q,C,b1,b2,b3⟩:=cr he aq s;obtain⟨f,K,S,ad,Q⟩:=a2.hd;subst S;obtain⟨g,D,m⟩:=IB aI b2 A;obtain⟨xs,aM,L⟩:=IB aI a2 V;have a:=L.join m Y;have u:dw N (dl J b) (N+16) (cI (dl J b) N blk):=l1 (by omega);have k:dw N J (N+16) (cI (dl J b) N blk):=dw.trans tM u;obtain⟨d1,d2,d3⟩:=a.blk (N':=N+16) (J':=cI (dl J b) N blk) I;obtain⟨hs,aG⟩:aX J1 b=some (.arr f xs)/\K=xs.length:=by
              simp only[mn]at aM;grind
             have R:f=sz:=by
              unfold Ta at o;split at o
              . rename_i z a;split at o
                . rename_i r ag;have:=Q _ a _ ag;simp_all
                . cases o
              . cases o
             subst R;have F:cx N (dl J b) (h8 J1 b):=by
              intro i z a;rw[oq]at a;split at a
              . cases a
              . rename_i O;obtain⟨h1,y,M,E⟩:=aI i z a;exact⟨h1,y,by rw[fP,al O];exact M,E.mono tM⟩
             have am:Z≠some b:=by
              intro e;simp_all
             refine .store rfl k (.c (.arr N f (xs++g).length (by omega) ?_)) λj n=>⟨p/\q/\f=f/\f=f/\0=0/\K=xs.length/\(∀e,e∈g->e.length=f)/\lR (xs.length+g.length) bytes/\xs.length+g.length<=eI,_,?_,⟨a3 j,b3 j,rfl,rfl,rfl,aG,λe he=>d2 e (by simp[he]),?_⟩,F.put (by omega) u d1⟩
             . intro x d r ag;rw[h3,ae rfl]at d;cases d;rw[d3]at ag;cases ag;rw[a.length]
             . have T:oH (.c (.arr b f 0 K)) C=none:=by
                refine acv (J1:=J1) b2 ?_ ?_ ?_<;>(intros;rintro rfl;simp[se]at A)
               simp only[aR,a1,b1,ao,T,D,hs];grind
             . have:=EG n;rw[<-a.length,cm]at this;exact this
           . cases h
         . cases h
   . cases h
 . rename_i b h0 ab B len d s;split at h
   . rename_i H;have H:=c5 H;subst H;split at h
     . rename_i t l af;split at h
       . rename_i P;have P:=c5 P;cases h;obtain⟨p,v1,a1,a2,a3⟩:=cr he aq d;obtain⟨q,C,b1,b2,b3⟩:=cr he aq s;cases a2 with|c a2=>
         cases a2 with|pre _ s1 _ ah W=>
         cases b2 with|c b2=>
         cases b2 with|dP _ ap _ _ ai X=>
         have aM:=W _ af _ rfl;have L:=X _ af _ rfl;obtain⟨aj,z,d1,d2⟩:=aI b _ af;cases d2 with
         |arr=>
          have u:dw N (dl J b) (N+16) (cI (dl J b) N (.arr t (l.take h0++(l.drop B).take len))):=l1 (by omega);have k:=dw.trans tM u;have F:cx N (dl J b) (h8 J1 b):=by
           intro i z a;rw[oq]at a;split at a
           . cases a
           . rename_i O;obtain⟨h1,y,M,E⟩:=aI i z a;exact⟨h1,y,by simp_all[fP,al],E.mono tM⟩
          refine .store rfl k (.c (.arr N (t.sz U) (l.take h0++(l.drop B).take len).length (by omega) ?_)) λj n=>?_
          . simp_all[h3,ae,cT.dd,dp]
          . simp only[cC,dO]at n;have ak:(l.take h0++(l.drop B).take len).length=h0+len:=(by grind);refine⟨p/\q/\t.sz U=t.sz U/\t.sz U=t.sz U/\t.sz U=t.sz U/\0=0/\h0+len<=(l.map (t.enc U)).length/\B+len<=(l.map (t.enc U)).length,_,?_,⟨a3 j,b3 j,rfl,rfl,rfl,rfl,by grind,by grind⟩,F.put (by simp) u (.arr t _)⟩;grind[oH,aR,uY,List.map_take,List.map_drop]
       . cases h
     . cases h
   . cases h
 grind
omit he aq aI in
theorem JD{t:aL}(ht:t.x2=false):∀{xs:List (bm U)} {a:List C} {l:List (t.den U.D)},ba (cj N J) xs a->A9 t xs=some l->∃ts,toTs a=some ts/\ts.map (λx=>[x])=l.map (t.enc U)
 |[],[],l,_,h=>by simp[A9]at h;subst h;exact⟨[],rfl,rfl⟩
 |x::xs,d::a,l,.cons h1 e,h=>by
  unfold A9 at h;split at h
  . grind
  . rename_i c r i;cases i;split at h
    . rename_i y m f j;cases h;obtain⟨ts,aM,b⟩:=JD ht e j;cases h1;have g:=Cell.ku f;subst g;refine⟨Cell.enc U ⟨t,y⟩::ts,by simp[toTs,aM,toT],?_⟩;rw[fB,b];cases t<;>first|rfl|cases ht
    . cases h
  grind
theorem acx{cs:List C}(h:cu gl gd env J N (.allocA cs)=some (c,v,J')):ea N J J1 (.allocA cs) env1 (cE env G gd) c v J':=by
 simp[cu]at h;split at h
 . rename_i xs d;split at h
   . rename_i t l af;cases h;unfold Pm at af;split at af
     . rename_i b r;split at af
       . rename_i a ht hs;cases af;obtain⟨ts,aM,e⟩:=JD ht (tA (N:=N) (J:=J) d) hs;have k:dw N J (N+16) (cI J N (.arr _ a)):=l1;refine .store rfl k (.c (.ptr _ _)) λf _=>⟨True,_,by simp[aR,aM];rfl,trivial,aI.put (by simp) k ?_⟩
         have g:b.ty.sz U=1:=by
          generalize b.ty=t0 at ht;cases t0<;>first|rfl|cases ht
         have:=ic.arr (N:=N+16) (J:=cI J N (.arr _ a)) _ a;grind
       grind
     grind
   grind
 grind
theorem aeA{k:Nat}(h:cu gl gd env J N (.idxP k x y)=some (c,v,J')):ea N J J1 (.idxP k x y) env1 (cE env G gd) c v J':=by
 simp[cu]at h;split at h
 . rename_i b kk m f g;split at h
   . split at h
     . rename_i e;have e:=c5 e;cases h;obtain⟨i,v1,a1,a2,a3⟩:=cr he aq f;obtain⟨j,l,b1,b2,b3⟩:=cr he aq g;have:=a2.hT;have:=b2.gr;refine .neutral aI (.c (.cG _ _ _ _)) λd a=>⟨i/\j/\(0:Int)<=m/\Int.toNat m<k,?_,a3 d,b3 d,(ti.1 a).1,(ti.1 a).2⟩
       grind[aR]
     grind
   grind
 grind
theorem adP{k:Nat}{e d:Option aQ}(h:cu gl gd env J N (.slcP k x e d)=some (c,v,J')):ea N J J1 (.slcP k x e d) env1 (cE env G gd) c v J':=by
 simp[cu]at h;split at h
 . rename_i b l r g af ag;cases h;obtain⟨j,v1,a1,a2,a3⟩:=cr he aq g;obtain⟨pl,i,l2⟩:=pB he aq aI af;obtain⟨m,n,o⟩:=pB he aq aI ag;have:=a2.hT;subst this;exact .neutral aI (.c (.sub _ _ _)) λa f=>⟨j/\pl/\m/\0<=l.getD 0/\l.getD 0<=r.getD _/\r.getD _<=k,by simp[aR,a1,i,n],a3 a,l2 a,o a,iJ.1 f⟩
 grind
omit he aq aI in
theorem DG:∀(l:ar),bytesOf (List.map ((aL.int .u8).enc U) l)=some (strOf l)
 |[]=>rfl
 |m::l=>by
  have:=DG l;show bytesOf ([T.int _ m]::_)=_;simp[bytesOf,this];rfl
omit he aq aI in
theorem adC{b len:Nat}{s:ak}(h:aX J1 b=some (.arr 1 es))(hs:bytesOf ((es.drop off).take len)=some s):nu J1 (.c (.arr b 1 off len))=some (off+len<=es.length,s):=by grind[nu]
omit he aq aI in
theorem adD{b len:Nat}{s:ak}(h:aX J1 b=some (.arr 1 es))(hs:bytesOf ((es.drop off).take len)=some s):nu J1 (.c (.fJ b 1 off len))=some (off+len<=es.length,s):=by grind[nu]
omit he aq aI in
theorem aaG{s:ak}(hs:bytesOf es=some s):nu J1 (.c (.t (.slice es)))=some (True,s):=by grind[nu]
theorem aib(h:cu gl gd env J N (.b2s x)=some (c,v,J')):ea N J J1 (.b2s x) env1 (cE env G gd) c v J':=by
 simp only[cu]at h;split at h
 . rename_i l d;cases h;obtain⟨f,v1,a1,a2,a3⟩:=cr he aq d;have:=a2.km;subst this
   exact .neutral aI (.c (.t (U:=U) _)) λa k=>⟨f/\True,by
    simp only[aR,a1,ao]
    exact(ee _ (aaG (DG (U:=U) l))).trans rfl,a3 a,trivial⟩
 . rename_i d;cases h;obtain⟨f,v1,a1,a2,a3⟩:=cr he aq d;have:=a2.u0;subst this;exact .neutral aI (.c (.t (U:=U) ⟨.str,_⟩)) λa k=>⟨f/\True,by simp only[aR,a1,nu];rfl,a3 a,trivial⟩
 . rename_i b d;split at h
   . rename_i l g;cases h;obtain⟨f,v1,a1,a2,a3⟩:=cr he aq d;obtain⟨p,n,rfl,o,a⟩:=a2.hd;have:=a _ g _ rfl;cases this;obtain⟨_,y,m,j⟩:=aI _ _ g;cases j;refine .neutral aI (.c (.t (U:=U) ⟨.str,_⟩)) λa k=>⟨f/\(0+l.length<=(l.map ((aL.int .u8).enc U)).length),?_,a3 a,by simp⟩
     simp only[aR,a1,ao];have e:bytesOf (((l.map ((aL.int .u8).enc U)).drop 0).take l.length)=some (strOf l):=(by grind[List.take_of_length_le,DG]);exact(ee (Option.map _) (adC m e)).trans rfl
   grind
 . rename_i b i len d;split at h
   . rename_i l g;cases h;obtain⟨f,v1,a1,a2,a3⟩:=cr he aq d;have:v1= .c (.fJ b 1 i len):=by cases a2 with|c h=>cases h;rfl
     subst this;obtain⟨_,y,m,j⟩:=aI _ _ g;cases j;refine .neutral aI (.c (.t (U:=U) ⟨.str,_⟩)) λa k=>⟨f/\(i+len<=(l.map ((aL.int .u8).enc U)).length),?_,a3 a,by grind[w3]⟩
     simp only[aR,a1,ao];have e:bytesOf (((l.map ((aL.int .u8).enc U)).drop i).take len)=some (strOf ((l.drop i).take len)):=by rw[<-List.map_drop,<-List.map_take];exact DG _
     exact(ee (Option.map _) (adD m e)).trans rfl
   grind
 grind
theorem acy{e e8:Nat}(h:cu gl gd env J N (.allocS e e8)=some (c,v,J')):ea N J J1 (.allocS e e8) env1 (cE env G gd) c v J':=by
 obtain⟨rfl,rfl,rfl⟩:=h;have f:dw N J (N+16) (cI (cI J (N+1) (.buf e8 [])) N (.b7 e (.cM (N+1)))):=by
  refine⟨by simp,λb j g a=>?_⟩;grind[h3]
 refine .store rfl f (.c (.ptr _ _)) λ_ _=>⟨True,_,rfl,trivial,λb x a=>?_⟩
 rw[h3]at a;rw[c2];by_cases h1:N=b
 . rw[ae h1]at a⊢;cases a;refine⟨by omega,_,rfl,.b7 (.cM _ _ (by simp) λx a p i=>?_)⟩;rw[h3,h3]at a;grind[cT.dd]
 . rw[al h1,h3]at a;rw[al h1,c2];by_cases d:N+1=b
   . rw[ae d]at a⊢;cases a;exact⟨by omega,_,rfl,.buf _ _⟩
   . rw[al d]at a⊢;obtain⟨k1,y,k2,k3⟩:=aI b x a;exact⟨by omega,y,k2,k3.mono f⟩
theorem adE(h:cu gl gd env J N .mkset=some (c,v,J')):ea N J J1 .mkset env1 (cE env G gd) c v J':=by
 obtain⟨rfl,rfl,rfl⟩:=h;have k:dw N J (N+16) (cI J N (.set [])):=l1;exact .store rfl k (.c (.mp _)) λ_ _=>⟨True,_,rfl,trivial,aI.put (by simp) k (.set _)⟩
theorem adF(h:cu gl gd env J N (.lkset x y)=some (c,v,J')):ea N J J1 (.lkset x y) env1 (cE env G gd) c v J':=by
 simp[cu]at h;split at h
 . rename_i b s e f;split at h
   . rename_i ks d;cases h;obtain⟨p,v1,a1,a2,a3⟩:=cr he aq e;obtain⟨q,g,b1,b2,b3⟩:=cr he aq f;have:=a2.FI;subst this;have:=b2.kn;subst this;obtain⟨_,z,d1,d2⟩:=aI b _ d;cases d2;exact .neutral aI (.c (.t _)) λa _=>⟨p/\q,by simp[aR,a1,b1,d1];rfl,a3 a,b3 a⟩
   grind
 grind
theorem acS(h:cu gl gd env J N (.upset x y)=some (c,v,J')):ea N J J1 (.upset x y) env1 (cE env G gd) c v J':=by
 simp[cu]at h;split at h
 . rename_i b s f g;split at h
   . rename_i ks d;cases h;obtain⟨p,v1,a1,a2,a3⟩:=cr he aq f;obtain⟨q,j,b1,b2,b3⟩:=cr he aq g;have:=a2.FI;subst this;have:=b2.kn;subst this;obtain⟨i,z,d1,d2⟩:=aI b _ d;cases d2;have e:dw N J (N+16) (cI J b (.set (iT ks s))):=nU (by omega) d (λp h=>by simp[cT.dd]at h);exact .store rfl e (.aY [] [] rfl (by simp)) λa _=>⟨p/\q,_,by simp[aR,a1,b1,d1],⟨a3 a,b3 a⟩,aI.put (by omega) e (.set _)⟩
   . cases h
 grind
theorem aaH{e bytes:Nat}(h:cu gl gd env J N (.appendB e bytes x y)=some (c,v,J')):ea N J J1 (.appendB e bytes x y) env1 (cE env G gd) c v J':=by
 simp[cu]at h;split at h
 . rename_i b s a u;split at h
   . rename_i d l f;split at h
     . rename_i t;have:=c5 t;subst this;cases h;obtain⟨p,v1,a1,a2,a3⟩:=cr he aq a;obtain⟨q,C,b1,b2,b3⟩:=cr he aq u;obtain⟨n,rfl,A,r⟩:=a2.Bm;have:=r _ f _ rfl;cases this;have:=b2.kn;subst this;obtain⟨_,z,d1,d2⟩:=aI b _ f;cases d2;have k1:dw N J N (dl J b):=tM;have k2:dw N _ (N+16) (cI (dl J b) N (.buf d (Bo l s))):=l1;have o:cx N (dl J b) (h8 J1 b):=by
        intro k x a;rw[oq]at a;split at a
        . grind
        . rename_i B;obtain⟨h1,y,w,m⟩:=aI k x a;exact⟨h1,y,by rw[fP];grind,m.mono k1⟩
       refine .store rfl (k1.trans k2) (.c (.cM N (List.length l+List.length s) (by simp) λx a p j=>?_)) λi g=>⟨p/\q/\d=d/\List.length l=List.length l/\lR _ _/\List.length l+List.length s<=eI,_,?_,⟨a3 i,b3 i,rfl,rfl,(EG g).1,(EG g).2⟩,o.put (by simp) k2 (.buf _ _)⟩
       . rw[h3,ae rfl]at a;cases a;simp[cT.dd]at j;exact j.symm.trans (ee _ Zz)
       . simp only[aR,a1,b1,ao,d1];rfl
     grind
   grind
 grind
theorem acT(h:cu gl gd env J N (.sdata x)=some (c,v,J')):ea N J J1 (.sdata x) env1 (cE env G gd) c v J':=by
 simp[cu]at h;split at h
 . rename_i b d;cases h;obtain⟨p,v1,a1,a2,a3⟩:=cr he aq d;obtain⟨n,rfl,_,_⟩:=a2.Bm;exact .neutral aI (.c (.ey _)) λa _=>⟨p,by simp[aR,a1],a3 a⟩
 grind
theorem adQ{e:Nat}(h:cu gl gd env J N (.ustr e x y)=some (c,v,J')):ea N J J1 (.ustr e x y) env1 (cE env G gd) c v J':=by
 simp[cu]at h;split at h
 . rename_i b m a r;split at h
   . rename_i d l k;split at h
     . rename_i o;have:=c5 o;subst this;cases h;obtain⟨p,v1,a1,a2,a3⟩:=cr he aq a;obtain⟨q,u,b1,b2,b3⟩:=cr he aq r;have:=a2.S0;subst this;have:=b2.gr;subst this;obtain⟨_,z,d1,d2⟩:=aI b _ k;cases d2;have k1:dw N J N (dl J b):=tM;have j:cx N (dl J b) (h8 J1 b):=by
        intro g x a;rw[oq]at a;split at a
        . grind
        . obtain⟨h1,y,s,i⟩:=aI g x a;exact⟨h1,y,by simp_all[fP],i.mono k1⟩
       refine .store rfl (k1.trans (dw.more (by simp))) (.c (.t _)) λf n=>⟨p/\q/\d=d/\m=(List.length l:Int),_,?_,⟨a3 f,b3 f,rfl,ady.1 n⟩,j.mono (by simp)⟩
       simp only[aR,a1,b1,ao,d1];rfl
     grind
   grind
 grind
theorem aaI{e sz len:Nat}{z:List C}{parts:List (Nat×aQ)}(h:cu gl gd env J N (.bsliceT e sz len z parts)=some (c,v,J')):ea N J J1 (.bsliceT e sz len z parts) env1 (cE env G gd) c v J':=by
 simp[cu]at h;split at h
 . grind
 . split at h
   . rename_i j g;split at h
     . grind
     . rename_i ts b;split at h
       . grind
       . rename_i a;have a:=c5 a;split at h
         . rename_i rows ag;split at h
           . rename_i l af;cases h;have i:=tA (N:=N) (J:=J) g;obtain⟨p,es,a1,a2,a4,a3⟩:=HF he aq ag (ba.replicate (R:=λr e=>ib r=some e) b _) (by grind);have d:=vZ af a2;refine .neutral aI (.c (.t _)) λf _=>⟨p,?_,a3 f⟩
             simp[aR,Dv i b,ao,a1];rw[<-d];rfl
           grind
         grind
   grind
theorem K7(h:cu gl gd env J N o=some (c,v,J')):ea N J J1 o env1 (cE env G gd) c v J':=by
 cases o with
 |mov x=>exact aij he aq aI h
 |pick c x y=>exact aeo he aq aI h
 |alloc cs=>exact adA he aq aI h
 |box x=>exact aid he aq aI h
 |allocA cs=>exact acx he aq aI h
 |idxP k x i=>exact aeA he aq aI h
 |slcP k x d a=>exact adP he aq aI h
 |b2s x=>exact aib he aq aI h
 |allocS e e8=>exact acy he aq aI h
 |bsliceT e sz len z parts=>exact aaI he aq aI h
 |mkset=>exact adE he aq aI h
 |lkset x k=>exact adF he aq aI h
 |upset x k=>exact acS he aq aI h
 |appendB e b x y=>exact aaH he aq aI h
 |sdata x=>exact acT he aq aI h
 |ustr e x k=>exact adQ he aq aI h
 |build z parts=>exact Ts he aq aI h
 |bslice sz len z parts=>exact acu he aq aI h
 |load agg n x=>exact aer he aq aI h
 |store n x v=>exact adB he aq aI h
 |nilCheck x=>exact Z9 he aq aI h
 |bin op x y=>exact aic he aq aI h
 |eqAgg neg ks x y=>exact adz he aq aI h
 |eqBool neg x y=>exact acs he aq aI h
 |eqNil neg x=>simp[cu]at h
 |not x=>exact aik he aq aI h
 |conv k x=>grind[aep]
 |i2s x=>grind[aih]
 |s2s x=>grind[ail]
 |fldA off x=>grind[aeq]
 |fld agg off n x=>grind[aif]
 |idxA sz x i=>grind[aes]
 |idxS x i=>grind[aet]
 |slcS x d a=>grind[aeu]
 |slc sz x d a=>grind[aim]
 |slc0 x=>grind[aev]
 |mkfn f caps=>grind[aew]
 |ext x i=>grind[aie]
 |len str x=>grind[aii]
 |append sz bytes x y=>grind[acw]
 |max2 x y=>grind[aex]
 |min2 x y=>grind[aey]
 |call f args=>simp[cu]at h
 |iE x args=>simp[cu]at h
end
end
end
section
open Go
variable {U:cL}
def bm.cp(b0:Nat)(c:Cell U.D):bm U->bm U
 |.arr b=>match Nat.beq b b0 with
  |true=>.t c
  |false=>.arr b
 |.cG b ty i o=>match Nat.beq b b0 with
  |true=>.dead
  |false=>.cG b ty i o
 |.pre b h=>match Nat.beq b b0 with
  |true=>.dead
  |false=>.pre b h
 |.dP b a len=>match Nat.beq b b0 with
  |true=>.dead
  |false=>.dP b a len
 |x=>x
def bG.cp(b0:Nat)(c:Cell U.D):bG U->bG U
 |.c x=>.c (x.cp b0 c)
 |.agg cs=>.agg (cs.map (bm.cp b0 c))
 |.aY vs=>.aY (go b0 c vs)
where go (b0:Nat) (c:Cell U.D):List (bG U)->List (bG U)
 |[]=>[]
 |v::vs=>v.cp b0 c::go b0 c vs
def cT.cp(b0:Nat)(c:Cell U.D):cT U->cT U
 |.box cs=>.box (cs.map (bm.cp b0 c))
 |.b7 E x=>.b7 E (x.cp b0 c)
 |.cA t l i o x=>.cA t l i o (x.cp b0 c)
 |x=>x
def sf(b0:Nat)(c:Cell U.D):bT U->bT U
 |[]=>[]
 |(k,v)::r=>(k,v.cp b0 c)::sf b0 c r
def nj(b0:Nat)(c:Cell U.D):bf U->bf U
 |[]=>[]
 |(k,x)::r=>match Nat.beq k b0 with
  |true=>nj b0 c r
  |false=>(k,x.cp b0 c)::nj b0 c r
def A5(b:Nat)(t:aL)(env:bT U)(J:bf U):Option (bT U×bf U):=
 match a6 J b with
 |some (.arr a l)=>match Cell.as (.slice t) (⟨.slice a,l⟩:Cell U.D)with
  |some l=>some (sf b ⟨.slice t,l⟩ env,nj b ⟨.slice t,l⟩ J)
  |none=>none
 |some (.rows _ r)=>match mm U t r with
  |some l=>some (sf b ⟨.slice t,l⟩ env,nj b ⟨.slice t,l⟩ J)
  |none=>none
 |_=>some (env,J)
def kX:List (Nat×aL)->bT U->bf U->Option (bT U×bf U)
 |[],env,J=>some (env,J)
 |(b,t)::r,env,J=>match A5 b t env J with
  |some (env',J')=>kX r env' J'
  |none=>none
variable{b0 j:Nat}{c:Cell U.D}{es:List (List T)}{t:aL}{cs:List C}{R:Type}
section
variable {kk N:Nat}{J J':bf U}{J1:a'}{env env':bT U}{env1:Env}{G:Nat->Bool}{gl:eB}
theorem DZ:∀{env:bT U} {k:Nat},a6 (sf b0 c env) k=(a6 env k).map (bG.cp b0 c)
 |[],k=>rfl
 |(i,v)::r,k=>by
  simp[sf,a6];cases Nat.beq i k with
  |true=>rfl
  |false=>exact DZ
theorem tj:∀{J:bf U} {k:Nat},a6 (nj b0 c J) k=if k=b0 then none else(a6 J k).map (cT.cp b0 c)
 |[],k=>by simp[nj,a6]
 |(i,x)::r,k=>by
  simp[nj];cases h:Nat.beq i b0 with
  |true=>
   simp[tj,a6];grind[c5]
  |false=>
   simp[a6,tj];grind
theorem cT.BO{x:cT U}:(x.cp b0 c).dd=x.dd:=by cases x<;>rfl
theorem cj.cp{b0 sz:Nat}{c:Cell U.D}{es:List (List T)}{A:cT U}(h0:a6 J b0=some A)(E:A.dd=some (sz,es.length))(B:c.enc U= .slice es){x:bm U}{d:C}(h:cj N J x d):
 cj N (nj b0 c J) (x.cp b0 c) (d.cp b0 sz es):=by
 cases h with
 |t c=>exact .t c
 |ptr b o=>exact .ptr b o
 |cG b t i o=>
  simp only[bm.cp,C.cp];cases h:Nat.beq b b0 with
  |true=>exact .dead _
  |false=>rw[al (iG h)];exact .cG b t i o
 |dN t x o=>exact .dN t x o
 |arr b q n a h=>
  simp only[bm.cp,C.cp];cases e:Nat.beq b b0 with
  |true=>
   have:=c5 e;subst this;have:=h A h0 _ E;cases this;rw[ae rfl,ae ⟨rfl,by simp⟩];have:cut es 0 es.length=es:=(by simp[cut]);rw[this,<-B];exact .t c
  |false=>
   rw[al (iG e)];refine .arr b q n a λy j p v=>?_;rw[tj]at j;grind[bo,cT.BO]
 |sub b w len=>exact .sub b w len
 |pre b q n a h=>
  simp only[bm.cp];cases e:Nat.beq b b0 with
  |true=>exact .dead _
  |false=>
   simp only[C.cp];rw[al (iG e)];refine .pre b q n a λy j p v=>?_;rw[tj,al (iG e)]at j;grind[bo,cT.BO]
 |dP b q w len a h=>
  simp only[bm.cp];cases e:Nat.beq b b0 with
  |true=>exact .dead _
  |false=>
   refine .dP b q w len a λy j p v=>?_;rw[tj,al (iG e)]at j;grind[bo,cT.BO]
 |mp b=>exact .mp b
 |ey b=>exact .ey b
 |cM b n a h=>
  refine .cM b n a λy j p v=>?_;grind[tj,bo,cT.BO]
 |az=>exact .az
 |e9=>exact .e9
 |e7=>exact .e7
 |fn f caps=>exact .fn f caps
 |dead d=>exact .dead _
theorem JE:∀{vs:List (bG U)} {i:Nat},(bG.cp.go b0 c vs)[i]?=(vs[i]?).map (bG.cp b0 c)
 |[],i=>by rfl
 |v::vs,0=>by rfl
 |v::vs,i+1=>by simp[bG.cp.go,JE]
theorem TJ:∀{vs:List (bG U)},(bG.cp.go b0 c vs).length=vs.length
 |[]=>rfl
 |v::vs=>by simp[bG.cp.go,TJ]
theorem ca.cp{sz:Nat}{f:cT U}(h0:a6 J b0=some f)(e:f.dd=some (sz,es.length))(a:c.enc U= .slice es){x:bG U}{d:V}(h:ca N J x d):
 ca N (nj b0 c J) (x.cp b0 c) (d.cp b0 sz es):=by
 induction h with
 |c h=>exact .c (h.cp h0 e a)
 |agg h=>exact .agg (ba.map_map (h.imp λ_ _ _ aa=>aa.cp h0 e a))
 |aY xs j af h ih=>
  refine .aY _ _ (by grind[TJ,Gs]) ?_;grind[JE,Hu]
theorem M3{sz:Nat}{p:cT U}(h0:a6 J b0=some p)(f:p.dd=some (sz,es.length))(e:c.enc U= .slice es)(hs:aX J1 b0=some (.arr sz es))(he:c4 N J G env env1)(aI:cx N J J1):
 Conv kk N env1 J1 N (rO b0 sz es env1) (mZ b0 sz es J1)/\c4 N (nj b0 c J) G (sf b0 c env) (rO b0 sz es env1)/\cx N (nj b0 c J) (mZ b0 sz es J1):=by
 refine⟨Conv.freeze b0 hs,λk v n=>?_,λb x g=>?_⟩
 . rw[DZ,bo]at n;obtain⟨v0,h1,rfl⟩:=n;obtain⟨d,j,m⟩:=he k v0 h1;exact⟨_,by grind[Ag],m.cp h0 f e⟩
 . rw[tj]at g;split at g
   . grind
   . simp only[bo]at g;obtain⟨q,h1,rfl⟩:=g;obtain⟨j,y,m,a⟩:=aI b q h1;refine⟨j,y.cp b0 sz es,by simp_all[Ev,al],?_⟩;cases a with
     |box a=>exact .box (ba.map_map (a.imp λ_ _ _ aa=>aa.cp h0 f e))
     |arr t l=>exact .arr t l
     |set ks=>exact .set ks
     |buf E s=>exact .buf E s
     |b7 a=>exact .b7 (a.cp h0 f e)
     |cA t l i o a=>exact .cA t l i o (a.cp h0 f e)
     |rows a bc=>exact .rows a bc
theorem gP.cp(h:gP gl env G):gP gl (sf b0 c env) G:=by
 refine⟨h.free,λk t b e=>?_⟩;obtain⟨y,h1,a⟩:=h.held k t b e;refine⟨y,?_,a⟩;unfold fm at h1⊢;rw[DZ];split at h1
 . rename_i x f;rw[f];exact h1
 grind
theorem acU{α a:Type}{f:α->a}{l:List α}{sz:Nat}:some (sz,l.length)=some (sz,(l.map f).length):=by simp
theorem K8{b:Nat}(h:A5 b t env J=some (env',J'))(he:c4 N J G env env1)(aI:cx N J J1):
 ∃f bq,Conv kk N env1 J1 N f bq/\c4 N J' G env' f/\cx N J' bq/\(gP gl env G->gP gl env' G):=by
 unfold A5 at h;split at h
 . rename_i k j af;split at h
   . rename_i l d;have e:=Cell.ku d;cases e;cases h;obtain⟨_,y,h1,a⟩:=aI b _ af;cases a;obtain⟨k1,k2,k3⟩:=M3 (c:=⟨.slice t,l⟩) af acU rfl h1 he aI;exact⟨_,_,k1,k2,k3,λaq=>aq.cp⟩
   grind
 . rename_i sz r af;split at h
   . rename_i l d;cases h;obtain⟨_,y,h1,a⟩:=aI b _ af;cases a with
     | @rows _ _ es a i=>
      have g:=vZ d a;obtain⟨k1,k2,k3⟩:=M3 (c:=⟨.slice t,l⟩) af (by simp[cT.dd];rw[a.length]) (by rw[<-g];rfl) h1 he aI;exact⟨_,_,k1,k2,k3,λaq=>aq.cp⟩
   grind
 grind[Conv.refl]
theorem zY:∀{l:List (Nat×aL)} {env env':bT U} {J J':bf U} {env1:Env} {J1:a'},kX l env J=some (env',J')->c4 N J G env env1->cx N J J1->
 ∃a bq,Conv kk N env1 J1 N a bq/\c4 N J' G env' a/\cx N J' bq/\(gP gl env G->gP gl env' G)
 |[],env,env',J,J',env1,J1,h,he,aI=>by grind[kX,Conv.refl]
 |(b,t)::r,env,env',J,J',env1,J1,h,he,aI=>by
  simp[kX]at h;split at h
  . rename_i e s h1;obtain⟨aM,s1,k1,k2,k3,k4⟩:=K8 h1 he aI;obtain⟨c,j,d,f,g,i⟩:=zY h k2 k3;exact⟨c,j,k1.trans d,f,g,λaq=>i (k4 aq)⟩
  grind
theorem Conv.close{b sz i o:Nat}{t:T}(c:aX J1 b=some (.cA sz es i o (.t t))):
 Conv kk N env1 J1 N env1 (df J1 b (.arr sz (es.set i ((el es i).take o++[t]++(el es i).drop (o+1))))):=by
 intro aE nt φ S a w M R;obtain⟨⟨a1,a2,a3,a4,a5,J⟩,⟨vs,E,k1,k2,k3,v,k4,k5⟩,k6⟩:=R.bQ.blk _ _ c;have A:es[i]?=some (el es i):=by unfold el;rw[List.getD,e' a5];rfl
 have K:=a3 _ (fj A);refine⟨φ,S,R.put (R.dU _ _ c).1 rfl ⟨by simpa using a1,by simpa using a2,λe he=>?_,a4,λ_=>⟨vs,E,k1,k2,λG j e H he ht=>?_,k6⟩⟩ λh0=>⟨λk y F D x=>R.bQ.inj k b y _ F c D x h0,R.own b _ c h0⟩⟩
 . grind
 . rw[B6]at he;by_cases B:i=G
   . subst B;rw[ae rfl,ae a5]at he;cases he;have f:=(nR (vs:=el es i) (off:=o) (xs:=[t]) (by simp;omega) j)
     unfold iM at f;rw[show o+[t].length=o+1 from rfl]at f;rw[f]at ht;by_cases q:j=o
     . subst q;rw[bx,fz,Cb]at ht;cases ht;exact⟨v,k4,k5⟩
     . have L:(el es i)[j]?=some H:=by
        by_cases p:j<o
        . rwa [ae p]at ht
        . rwa [al p,bx]at ht
       grind
   grind
def D0(b:Nat)(env:bT U)(J:bf U):Option (bT U×bf U):=
 match a6 J b with
 |some (.cA t l i o (.t c))=>match Nat.ble (o+1) (t.sz U)with
  |true=>match sh U t l i o [.t c]with
   |some a=>some (env,cI J b (.arr t a))
   |none=>none
  |false=>none
 |_=>none
def M4(b:Nat)(env:bT U)(J:bf U):Option (bT U×bf U):=
 match a6 J b with
 |some (.cA t l i o (.arr b2))=>match (t.row U (t.at U l i))[o]? with
  |some ⟨.slice a,_⟩=>match A5 b2 a env J with
   |some (env',J')=>D0 b env' J'
   |none=>none
  |_=>none
 |_=>D0 b env J
def Mf:bf U->Option Nat
 |[]=>none
 |(b,.cA ..)::_=>some b
 |_::r=>Mf r
def Jg(env:bT U)(J:bf U):Option (bT U×bf U):=
 match Mf J with
 |none=>some (env,J)
 |some b=>M4 b env J
theorem TR{b:Nat}(h:D0 b env J=some (env',J'))(he:c4 N J G env env1)(aI:cx N J J1):
 ∃e bq,Conv kk N env1 J1 N e bq/\c4 N J' G env' e/\cx N J' bq:=by
 unfold D0 at h;split at h
 . rename_i t l i o c af;split at h
   . split at h
     . rename_i l2 k;cases h;obtain⟨g,y,h1,d⟩:=aI b _ af;cases d with
       |cA _ _ _ _ d=>
        cases d;have q:l2.length=List.length l:=by
         grind[sh]
        have f:dw N J N (cI J b (.arr t l2)):=nU (dV _) af (λp h=>by
         grind[cT.dd])
        refine⟨env1,df _ b _,?_,he.mono f,aI.put g f (.arr t l2)⟩;by_cases j:i<List.length l
        . obtain⟨ts,aM,m⟩:=G6 (N:=N) (J:=J) k j (.cons (.t c) .nil) (by simp_all);have:ts=[c.enc U]:=(by grind[toTs,toT]);have:=Conv.close (kk:=kk) (N:=N) (env1:=env1) h1;grind
        . intro aE nt φ S a w n R;obtain⟨⟨_,_,_,_,a5,_⟩,_⟩:=R.bQ.blk _ _ h1;grind
     grind
   grind
 grind
theorem XS(h:Jg env J=some (env',J'))(he:c4 N J G env env1)(aI:cx N J J1):
 ∃a bq,Conv kk N env1 J1 N a bq/\c4 N J' G env' a/\cx N J' bq:=by
 unfold Jg at h;split at h
 . grind[Conv.refl]
 . unfold M4 at h;split at h
   . split at h
     . split at h
       . rename_i e s h1;obtain⟨aM,s1,k1,k2,k3,_⟩:=K8 (gl:=[]) h1 he aI;obtain⟨b,g,c,d,f⟩:=TR h k2 k3;exact⟨b,g,k1.trans c,d,f⟩
       grind
     grind
   . exact TR h he aI
theorem Conv.own{k:Nat}{g:Bool}{sz:Nat}(o:look env1 k=some (g,.c .az))(p:0<sz)(y:kk<=N):Conv kk N env1 J1 (N+1) ((k,g,.c (.arr N sz 0 0))::env1) (df J1 N (.arr sz [])):=by
 intro aE nt φ S a w t R;have f:=R.FJ p (by omega);have cz:fW φ N (0,0) N=(0,0):=by simp[fW]
 refine⟨fW φ N _,S,⟨f.bQ,λi j v af aq=>?_,λi j v af aq=>?_,λi j v af aq=>?_,f.dU,f.size,f.defers,f.ext,f.own,f.fix,f.fS⟩⟩
 . simp[look]at af;split at af
   . rename_i e;cases af;subst e;obtain⟨x,q,ag⟩:=f.gK _ _ _ o aq;refine⟨x,q,?_⟩;cases ag with
     |c ag=>
      obtain⟨a,rfl⟩:=ag;refine .c ⟨a,by grind,λh=>absurd (by grind) h,by simp⟩
   . exact f.gK i j v af aq
 . simp[look]at af;split at af
   . rename_i e;cases af;subst e;exact f.hM _ _ _ o aq
   . exact f.hM i j v af aq
 . simp only[look]at af;split at af
   . grind[V.aD,C.aD,lt]
   . exact f.gJ i j v af aq
theorem Conv.ahz{b:Nat}{sz:Nat}(O:aX J1 b=some (.box cs))(G:cs[j]?=some .az)(P:b<N)(J:0<sz)(U:kk<=N):
 Conv kk N env1 J1 (N+1) env1 (df (df J1 N (.arr sz [])) b (.box (cs.set j (.arr N sz 0 0)))):=by
 intro aE nt φ S a w Q R;have e:=R.FJ J (by omega);have cz:fW φ N (0,0) N=(0,0):=by simp[fW]
 have B:aX (df J1 N (.arr sz [])) b=some (.box cs):=by rw[c2];grind
 have D:∀c x,aX (df (df J1 N (.arr sz [])) b (.box (cs.set j (.arr N sz 0 0)))) c=some x->(c=b/\x= .box (cs.set j (.arr N sz 0 0)))\/aX (df J1 N (.arr sz [])) c=some x:=by
  grind[c2]
 have o:∀c x,aX (df (df J1 N (.arr sz [])) b (.box (cs.set j (.arr N sz 0 0)))) c=some x->∃y,aX (df J1 N (.arr sz [])) c=some y:=by grind
 refine⟨fW φ N _,S,⟨⟨λc x f=>?_,λc t x y f K H=>?_,e.bQ.st⟩,e.gK,e.hM,e.gJ,λc x f=>?_,e.size,e.defers,e.ext,λc x f=>?_,e.fix,e.fS⟩⟩
 . rcases D c x f with⟨rfl,rfl⟩|h
   . obtain⟨h0,vs,E,h1,A,F⟩:=e.bQ.blk _ _ B;refine⟨h0,vs,E,h1,?_,F⟩;obtain⟨v,X,ag⟩:=A.get G;obtain⟨a,rfl⟩:=ag;have:=ba.set (i:=j) A (a:= .arr N sz 0 0) (b:= .slice a 0 0) ⟨a,by grind,λh=>absurd (by grind) h,by simp⟩;have W:vs.set j (.slice a 0 0)=vs:=by
      apply yC;grind
     grind
   . exact e.bQ.blk c x h
 . obtain⟨q,p⟩:=o c x f;obtain⟨M,L⟩:=o t y K;exact e.bQ.inj c t q M p L H
 . rcases D c x f with⟨rfl,rfl⟩|h
   . have:=(e.dU _ _ B).2;grind[bP.aD,List.mem_or_eq_of_mem_set,C.aD,lt]
   . exact e.dU c x h
 . obtain⟨q,p⟩:=o c x f;exact e.own c q p
theorem Conv.trim{q b:Nat}{sz h:Nat}(U:aX J1 q=some (.box cs))(X:cs[j]?=some (.arr b sz 0 h))(O:aX J1 b=some (.arr sz es))(aa:h<=es.length)(aK:q<N):
 Conv kk N env1 J1 (N+1) env1 (df (df (h8 J1 b) N (.arr sz (es.take h))) q (.box (cs.set j (.arr N sz 0 h)))):=by
 intro aE nt φ S a w ax R;have ap:b<N:=by have:=(R.dU _ _ O).1;grind[lt]
 have W:∀c,lt N c=true->fW φ N (φ b) c=φ c:=by
  intro c t;simp only[lt,dO]at t;grind[fW]
 have D:∀c,lt N c=true->lt (N+1) c=true:=λc t=>Nu (by omega) t;have f:=R.zj W;have cz:fW φ N (φ b) N=φ b:=by simp[fW]
 have P:=W b (by grind[lt]);have Q:∀c x,aX (df (df (h8 J1 b) N (.arr sz (es.take h))) q (.box (cs.set j (.arr N sz 0 h)))) c=some x->(c=q/\x= .box (cs.set j (.arr N sz 0 h)))\/(c≠q/\c=N/\x= .arr sz (es.take h))\/(c≠q/\c≠N/\c≠b/\aX J1 c=some x):=by
  grind[c2,fP]
 have H:∀c x,aX (df (df (h8 J1 b) N (.arr sz (es.take h))) q (.box (cs.set j (.arr N sz 0 h)))) c=some x->∃A y,aX J1 A=some y/\fW φ N (φ b) c=fW φ N (φ b) A/\(A=if c=N then b else c):=by grind
 refine⟨fW φ N (φ b),S,⟨⟨λc x o=>?_,λc A x y o Z aC=>?_,f.bQ.st⟩,f.gK,f.hM,λk g v af aq=>V.hp D (f.gJ k g v af aq),λc x o=>?_,f.size,f.defers,f.ext,λc x o h0=>?_,f.fix,λc t=>by have:=f.fS c t;exact D c this⟩⟩
 . rcases Q c x o with⟨rfl,rfl⟩|⟨_,rfl,rfl⟩|⟨_,_,_,p⟩
   . obtain⟨h0,vs,E,h1,B,G⟩:=f.bQ.blk _ _ U;refine⟨h0,vs,E,h1,?_,G⟩;obtain⟨v,a1,ag⟩:=B.get X;have Y:bn (fW φ N (φ b)) w S (.arr N sz 0 h) v:=by
      obtain⟨a,aM,F,di⟩:=ag;rw[P]at aM F di;exact⟨a,by rw[cz];exact aM,by rw[cz];exact F,by rw[cz];exact di⟩
     have:=ba.set (i:=j) B Y;have a0:vs.set j v=vs:=by
      apply yC;grind
     grind
   . obtain⟨h0,h1,B,G,p⟩:=f.bQ.blk _ _ O;rw[P]at h0 p;refine⟨by rw[cz,qg];omega,by rw[qg];omega,λe he=>B e (uy he),G,λt=>?_⟩;grind
   . exact f.bQ.blk c x p
 . obtain⟨d,K,J,aM,F⟩:=H c x o;obtain⟨L,an,am,di,hL⟩:=H A y Z;have bS:d≠L:=(by grind);intro h0 M;rw[aM]at h0⊢;rw[di]at M⊢;exact f.bQ.inj d L K an J am bS h0 M
 . rcases Q c x o with⟨rfl,rfl⟩|⟨_,rfl,rfl⟩|⟨_,_,_,p⟩
   . have:=(f.dU _ _ U).2;grind[bP.aD,List.all_eq_true,List.mem_or_eq_of_mem_set,C.hp,C.aD,lt]
   . exact⟨by simp[lt],rfl⟩
   . exact⟨D c (f.dU c x p).1,bP.hp D (f.dU c x p).2⟩
 . obtain⟨d,K,J,aM,_⟩:=H c x o;rw[aM]at h0⊢;exact f.own d K J h0
def v7:Nat->List (bm U)->Option (Nat×Nat×Nat)
 |_,[]=>none
 |j,.pre b h::_=>some (j,b,h)
 |j,_::r=>v7 (j+1) r
def qP(J:bf U):bf U->Option (Nat×List (bm U)×Nat×Nat×Nat)
 |[]=>none
 |(q,.box cs)::r=>match a6 J q with
  |some (.box a)=>match v7 0 a with
   |some p=>some (q,a,p)
   |none=>qP J r
  |_=>qP J r
 |_::r=>qP J r
theorem JF:∀{cs:List (bm U)} {j i b h:Nat},v7 j cs=some (i,b,h)->j<=i/\cs[i-j]?=some (.pre b h)
 |[],j,i,b,h,a=>by grind[v7]
 |c::r,j,i,b,h,a=>by
  have next:v7 (j+1) r=some (i,b,h)->j<=i/\(c::r)[i-j]?=some (.pre b h):=by
   intro a;obtain⟨h1,f⟩:=JF a;grind
  cases c with
  |pre d e=>grind[v7,Option.some.injEq]
  |_=>exact next a
theorem CY{q:Nat}{cs:List (bm U)}{i b h:Nat}:∀{l:bf U},qP J l=some (q,cs,i,b,h)->a6 J q=some (.box cs)/\cs[i]?=some (.pre b h)
 |[],a=>by simp[qP]at a
 |(k,x)::r,a=>by
  cases x with
  |box e=>
   simp[qP]at a;split at a
   . rename_i f c;split at a
     . rename_i p d;obtain⟨rfl,rfl,rfl⟩:=a;exact⟨c,by simpa using(JF d).2⟩
     . exact CY a
   . exact CY a
  |_=>exact CY (by simpa[qP]using a)
def ET{R:Type}(J:bf U)(N:Nat)(k:bf U->Nat->Option R):Option R:=
 match qP J J with
 |none=>k J N
 |some (q,cs,j,b,h)=>match a6 J b with
  |some (.arr t l)=>if (h<=l.length:Bool) then k (cI (cI (dl J b) N (.arr t (l.take h))) q (.box (cs.set j (.arr N)))) (N+1)else none
  |_=>none
theorem K9{q b h0:Nat}{cs:List (bm U)}{x:bm U}{l:List (t.den U.D)}(w:a6 J q=some (.box cs))(v:cs[j]?=some x)(o:a6 J b=some (.arr t l))(a:∀d,cj N J x d->d= .arr b (t.sz U) 0 h0)(I:h0<=l.length)
 (he:c4 N J G env env1)(aI:cx N J J1):
 ∃bq,Conv kk N env1 J1 (N+1) env1 bq/\c4 (N+1) (cI (cI (dl J b) N (.arr t (l.take h0))) q (.box (cs.set j (.arr N)))) G env env1/\cx (N+1) (cI (cI (dl J b) N (.arr t (l.take h0))) q (.box (cs.set j (.arr N)))) bq:=by
 obtain⟨B,M,A,f⟩:=aI q _ w;obtain⟨H,L,r,s⟩:=aI b _ o;cases s;cases f with
 | @box _ E f=>
  obtain⟨d,u,ag⟩:=f.get v;have:=a d ag;subst this;have C:q≠b:=by grind
  have k1:dw N J N (dl J b):=tM;have k2:dw N (dl J b) (N+1) (cI (dl J b) N (.arr t (l.take h0))):=l1;have z:a6 (cI (dl J b) N (.arr t (l.take h0))) q=some (.box cs):=by rw[h3,bx,oq,al (λe=>C e.symm)];grind
  have k3:dw (N+1) (cI (dl J b) N (.arr t (l.take h0))) (N+1) (cI (cI (dl J b) N (.arr t (l.take h0))) q (.box (cs.set j (.arr N)))):=nU (dV _) z (λp h=>by grind[cT.dd]);have i:=(k1.trans k2).trans k3;have n:cx N (dl J b) (h8 J1 b):=by
   intro c x a;rw[oq]at a;split at a
   . grind
   . obtain⟨k,y,F,m⟩:=aI c x a;exact⟨k,y,by simp_all[fP,al],m.mono k1⟩
  refine⟨_,Conv.trim A u r (by grind) B,he.mono i,?_⟩;rw[<-List.map_take];refine(n.put (by simp) k2 (.arr t (l.take h0))).put (by omega) k3 (.box ?_);refine ba.set (f.imp λ_ _ _ g=>g.mono i) (.arr N _ _ (by simp) λx a p K=>?_);rw[h3,h3,ae rfl]at a;grind[cT.dd,Option.some.injEq,List.length_take,Nat.min_eq_left]
theorem JG{k:bf U->Nat->Option R}{r:R}(h:ET J N k=some r)(he:c4 N J (λ_=>true) env env1)(aI:cx N J J1):
 ∃J' N' bq,k J' N'=some r/\Conv kk N env1 J1 N' env1 bq/\c4 N' J' (λ_=>true) env env1/\cx N' J' bq/\N<=N':=by
 unfold ET at h;split at h
 . exact⟨J,N,J1,h,Conv.refl,he,aI,dV _⟩
 . rename_i q cs j b h0 e;obtain⟨g,f⟩:=CY e;split at h
   . rename_i t l a;split at h
     . obtain⟨s1,i,m,n⟩:=K9 (kk:=kk) (h0:=h0) g f a (λd ag=>by
        cases ag with
        |pre _ sz _ _ c=>
         have c:=c _ a _ rfl
         grind) (by grind) he aI
       grind
     grind
   grind
def tk(kk:Nat):Nat->List (bm U)->Option (Nat×Nat)
 |_,[]=>none
 |j,.arr b::r=>match Nat.ble (b+1) kk with
  |true=>some (j,b)
  |false=>tk kk (j+1) r
 |j,_::r=>tk kk (j+1) r
def qQ(kk:Nat)(J:bf U):bf U->Option (Nat×List (bm U)×Nat×Nat)
 |[]=>none
 |(q,.box _)::r=>match a6 J q with
  |some (.box cs)=>match tk kk 0 cs with
   |some p=>some (q,cs,p)
   |none=>qQ kk J r
  |_=>qQ kk J r
 |_::r=>qQ kk J r
theorem JH:∀{cs:List (bm U)} {j i b:Nat},tk kk j cs=some (i,b)->j<=i/\cs[i-j]?=some (.arr b)
 |[],j,i,b,a=>by grind[tk]
 |c::r,j,i,b,a=>by
  have next:tk kk (j+1) r=some (i,b)->j<=i/\(c::r)[i-j]?=some (.arr b):=by
   intro a;obtain⟨h1,e⟩:=JH a;grind
  cases c with
  |arr d=>
   grind[tk]
  |_=>exact next a
theorem CZ{kk q:Nat}{cs:List (bm U)}{i b:Nat}:∀{l:bf U},qQ kk J l=some (q,cs,i,b)->a6 J q=some (.box cs)/\cs[i]?=some (.arr b)
 |[],a=>by grind[qQ]
 |(k,x)::r,a=>by
  cases x with
  |box e=>
   simp only[qQ]at a;split at a
   . rename_i f c;split at a
     . rename_i p d;obtain⟨rfl,rfl,rfl⟩:=a;exact⟨c,by simpa using(JH d).2⟩
     . exact CZ a
   . exact CZ a
  |_=>exact CZ (by simpa[qQ]using a)
def EM{R:Type}(kk:Nat)(J:bf U)(k:bf U->Nat->Option R):Option R:=
 match qQ kk J J with
 |none=>k J kk
 |some (q,cs,j,b)=>match a6 J b with
  |some (.arr t l)=>k (cI (cI (dl J b) kk (.arr t l)) q (.box (cs.set j (.arr kk)))) (kk+1)
  |_=>k J kk
theorem YR{k:bf U->Nat->Option R}{r:R}(h:EM kk J k=some r)(he:c4 kk J (λ_=>true) env env1)(aI:cx kk J J1):
 ∃J' N' bq,k J' N'=some r/\Conv kk kk env1 J1 N' env1 bq/\c4 N' J' (λ_=>true) env env1/\cx N' J' bq/\kk<=N':=by
 unfold EM at h;split at h
 . exact⟨J,kk,J1,h,Conv.refl,he,aI,dV _⟩
 . rename_i q cs j b e;obtain⟨g,f⟩:=CZ e;split at h
   . rename_i t l a
     obtain⟨s1,i,m,o⟩:=K9 (kk:=kk) g f a (λd ag=>by
      cases ag with
      |arr _ sz n _ c=>
       have c:=c _ a _ rfl
       grind) (dV _) he aI
     grind
   . exact⟨J,kk,J1,h,Conv.refl,he,aI,dV _⟩
inductive Pos where
 |slot (k:Nat)
 |cell (b j:Nat)
 |via (k j:Nat)
def A7(b j:Nat)(t:aL)(env:bT U)(J:bf U)(N:Nat):Option (bT U×bf U):=
 match a6 J b with
 |some (.box cs)=>match cs[j]? with
  |some .az=>some (env,cI (cI J N (.arr t [])) b (.box (cs.set j (.arr N))))
  |_=>some (env,J)
 |_=>none
def IA(p:Pos)(t:aL)(env:bT U)(J:bf U)(N:Nat):Option (bT U×bf U):=
 match p with
 |.slot k=>match a6 env k with
  |some (.c .az)=>some ((k,.c (.arr N))::env,cI J N (.arr t []))
  |_=>some (env,J)
 |.cell b j=>A7 b j t env J N
 |.via k j=>match a6 env k with
  |some (.c (.ptr b _))=>A7 b j t env J N
  |_=>none
def EO:List (Pos×aL)->bT U->bf U->Nat->Option (bT U×bf U×Nat)
 |[],env,J,N=>some (env,J,N)
 |(p,t)::r,env,J,N=>match IA p t env J N with
  |some (env',J')=>EO r env' J' (N+1)
  |none=>none
theorem L1{t:aL}(he:c4 N J (λ_=>true) env env1)(aI:cx N J J1)(i:kk<=N):∃c bq,Conv kk N env1 J1 (N+1) c bq/\c4 (N+1) J (λ_=>true) env c/\cx (N+1) J bq:=by
 refine⟨env1,df _ N (.arr 1 []),λaE nt φ S a w g R=>⟨_,S,R.FJ (by simp) (by omega)⟩,he.mono (dw.more (by simp)),λb x e=>?_⟩;obtain⟨h1,y,f,d⟩:=aI b x e;exact⟨by omega,y,by grind[c2],d.mono (dw.more (by simp))⟩
theorem Hg{b:Nat}(h:A7 b j t env J N=some (env',J'))(he:c4 N J (λ_=>true) env env1)(aI:cx N J J1)(g:kk<=N):
 ∃f bq,Conv kk N env1 J1 (N+1) f bq/\c4 (N+1) J' (λ_=>true) env' f/\cx (N+1) J' bq:=by
 have same:=L1 (t:=t) he aI g;unfold A7 at h;split at h
 . rename_i cs k;split at h
   . rename_i n;cases h;obtain⟨i,y,h1,a⟩:=aI b _ k;cases a with
     | @box _ q a=>
      obtain⟨d,m,ag⟩:=a.get n;cases ag;have c:dw N J (N+1) (cI J N (.arr t [])):=l1;have l:a6 (cI J N (.arr t [])) b=some (.box cs):=by rw[h3];grind
      have e:dw (N+1) _ (N+1) (cI _ b (.box (cs.set j (.arr N)))):=nU (dV _) l (λp h=>by grind[cT.dd]);refine⟨_,_,Conv.ahz h1 m i (aL.r' (t:=t) (U:=U)) g,(he.mono c).mono e,(aI.put (by simp) c (.arr t [])).put (by omega) e (.box ?_)⟩;refine ba.set (a.imp λ_ _ _ h=>(h.mono c).mono e) (.arr N _ _ (by simp) λx o p r=>?_);rw[h3,h3]at o;grind[cT.dd]
   grind
 grind
theorem YS{p:Pos}(h:IA p t env J N=some (env',J'))(he:c4 N J (λ_=>true) env env1)(aI:cx N J J1)(e:kk<=N):
 ∃d bq,Conv kk N env1 J1 (N+1) d bq/\c4 (N+1) J' (λ_=>true) env' d/\cx (N+1) J' bq:=by
 have same:=L1 (t:=t) he aI e;unfold IA at h;split at h
 . rename_i k;split at h
   . rename_i j;cases h;obtain⟨v1,h1,g⟩:=he k _ j;have:=g.u0;subst this;have f:dw N J (N+1) (cI J N (.arr t [])):=l1;refine⟨_,_,Conv.own h1 (aL.r' (t:=t) (U:=U)) e,λi v a=>?_,aI.put (by simp) f (.arr t [])⟩;simp only[a6]at a;simp only[look];split at a
     . rename_i b;cases a;rw[ae (c5 b)];refine⟨_,rfl,.c (.arr N _ _ (by simp) λx l p m=>?_)⟩;rw[h3,ae rfl]at l;grind[cT.dd]
     . rename_i b;rw[al (iG b)];exact(he.mono f) i v a
   grind
 . grind[Hg]
 grind[Hg]
def Jh:List (bm U)->List Bool->Bool
 |[],[]=>true
 |.t _::cs,false::bs=>Jh cs bs
 |.az::cs,true::bs=>Jh cs bs
 |_,_=>false
def Se(cs:List (bm U)):List (List Bool×Nat×aL)->Option (Nat×aL)
 |[]=>none
 |(bs,p)::r=>match Jh cs bs with
  |true=>some p
  |false=>Se cs r
def IZ(l:List (List Bool×Nat×aL)):bf U->Option (Nat×Nat×aL)
 |[]=>none
 |(q,.box cs)::r=>match Se cs l with
  |some p=>some (q,p)
  |none=>IZ l r
 |_::r=>IZ l r
def ER{R:Type}(env:bT U)(J:bf U)(N:Nat)(k:bT U->bf U->Nat->Option R):Option R:=
 match IZ U.own J with
 |none=>ET J N λJ N=>k env J N
 |some (q,j,t)=>match A7 q j t env J N with
  |some (env,J)=>ET J (N+1) λJ N=>k env J N
  |none=>none
theorem JI{k:bT U->bf U->Nat->Option R}{r:R}(h:ER env J N k=some r)(he:c4 N J (λ_=>true) env env1)(aI:cx N J J1)(n:kk<=N):
 ∃env' J' N' f bq,k env' J' N'=some r/\Conv kk N env1 J1 N' f bq/\c4 N' J' (λ_=>true) env' f/\cx N' J' bq/\N<=N':=by
 unfold ER at h;split at h
 . obtain⟨q,i,p,a,b,c,d,g⟩:=JG h he aI;exact⟨_,_,_,_,_,a,b,c,d,g⟩
 . split at h
   . rename_i e s o;obtain⟨aM,s1,j,l,m⟩:=Hg o he aI n;obtain⟨q,i,p,a,b,c,d,g⟩:=JG h l m;exact⟨_,_,_,_,_,a,j.trans b,c,d,by omega⟩
   grind
theorem K':∀{l:List (Pos×aL)} {env env':bT U} {J J':bf U} {N N':Nat} {env1:Env} {J1:a'},EO l env J N=some (env',J',N')->c4 N J (λ_=>true) env env1->cx N J J1->kk<=N->
 ∃a bq,Conv kk N env1 J1 N' a bq/\c4 N' J' (λ_=>true) env' a/\cx N' J' bq/\N<=N'
 |[],env,env',J,J',N,N',env1,J1,h,he,aI,b=>by obtain⟨rfl,rfl,rfl⟩:=h;exact⟨env1,J1,Conv.refl,he,aI,dV _⟩
 |(p,t)::r,env,env',J,J',N,N',env1,J1,h,he,aI,b=>by
  simp[EO]at h;split at h
  . rename_i e s h1;obtain⟨aM,s1,k1,k2,k3⟩:=YS h1 he aI b;obtain⟨c,i,d,f,g,j⟩:=K' h k2 k3 (by omega);exact⟨c,i,k1.trans d,f,g,by omega⟩
  grind
end
end
section
open Go
variable {U:cL}
inductive kr where
 |hole (ty:aL)
 |ptr (b o:Nat)
 |cG (b:Nat)(ty:aL)(o:Nat)
 |dN (ty:aL)(o:Nat)
 |arr (b:Nat)
 |mp (b:Nat)
 |cM (b:Nat)
 |az
 |e9
 |e7
 |fn (f:Nat)(caps:a8)
 |dead
inductive e5 where
 |c (s:kr)
 |agg (l:List kr)
 |row (n:Nat)
 |aY (l:List e5)
inductive fN where
 |box (l:List kr)
 |arr (ty:aL)
 |bj (n:Nat)
 |gone
 |set
 |buf (E:Nat)
 |b7 (E:Nat)(s:kr)
structure Shape where
 env:List (Nat×e5)
 st:List fN
abbrev eQ(U:cL):=List (Cell U.D)
def qD:kr->eQ U->bm U×eQ U
 |.hole _,c::r=>(.t c,r)
 |.hole _,[]=>(.dead,[])
 |.ptr b o,r=>(.ptr b o,r)
 |.cG b ty o,⟨.int _,n⟩::r=>(.cG b ty (Int.toNat n) o,r)
 |.cG _ _ _,r=>(.dead,r)
 |.dN _ o,c::r=>(.dN c.ty c.val o,r)
 |.dN _ _,[]=>(.dead,[])
 |.arr b,r=>(.arr b,r)
 |.mp b,r=>(.mp b,r)
 |.cM b,r=>(.cM b,r)
 |.az,r=>(.az,r)
 |.e9,r=>(.e9,r)
 |.e7,r=>(.e7,r)
 |.fn f caps,r=>(.fn f caps,r)
 |.dead,r=>(.dead,r)
def xX:List kr->eQ U->List (bm U)×eQ U
 |[],r=>([],r)
 |s::ss,r=>match qD s r with
  |(x,a)=>match xX ss a with
   |(xs,b)=>(x::xs,b)
mutual
def kO:e5->eQ U->bG U×eQ U
 |.c s,r=>match qD s r with
  |(x,a)=>(.c x,a)
 |.agg l,r=>match xX l r with
  |(xs,a)=>(.agg xs,a)
 |.row _,c::r=>(.agg ((c.ty.row U c.val).map .t),r)
 |.row _,[]=>(.aY [],[])
 |.aY l,r=>match kP l r with
  |(xs,a)=>(.aY xs,a)
def kP:List e5->eQ U->List (bG U)×eQ U
 |[],r=>([],r)
 |s::ss,r=>match kO s r with
  |(x,a)=>match kP ss a with
   |(xs,e)=>(x::xs,e)
end
def BN:List (Nat×e5)->eQ U->bT U×eQ U
 |[],r=>([],r)
 |(k,s)::ss,r=>match kO s r with
  |(x,a)=>match BN ss a with
   |(xs,b)=>((k,x)::xs,b)
def je:fN->eQ U->Option (cT U)×eQ U
 |.box l,r=>match xX l r with
  |(xs,a)=>(some (.box xs),a)
 |.arr _,⟨.slice t,l⟩::r=>(some (.arr t l),r)
 |.arr _,r=>(none,r)
 |.bj _,c::r=>(some (.box ((c.ty.row U c.val).map .t)),r)
 |.bj _,[]=>(none,[])
 |.gone,r=>(none,r)
 |.set,⟨.slice .str,l⟩::r=>(some (.set l),r)
 |.set,r=>(none,r)
 |.buf E,⟨.str,s⟩::r=>(some (.buf E s),r)
 |.buf _,r=>(none,r)
 |.b7 E s,r=>match qD s r with
  |(x,a)=>(some (.b7 E x),a)
def gL:Nat->List fN->eQ U->bf U
 |_,[],_=>[]
 |j,s::ss,r=>match je s r with
  |(some x,a)=>(j,x)::gL (j+1) ss a
  |(none,a)=>gL (j+1) ss a
def qH{α:Type}:List α->Nat->Option α
 |[],_=>none
 |a::_,0=>some a
 |_::l,n+1=>qH l n
theorem D1{α:Type}:∀{l:List α} {n:Nat},qH l n=l[n]?
 |[],n=>by rfl
 |a::l,0=>by rfl
 |a::l,n+1=>by simp[qH,D1]
def qL(bs:a8)(j b:Nat):Bool:=match qH bs j with
 |some a=>Nat.beq a b
 |none=>false
def Bn(bs:a8):a8->a8->Bool
 |[],[]=>true
 |j::a,c::cs=>qL bs j c&&Bn bs a cs
 |_,_=>false
def Gr(ty:aL):bm U->Option (Cell U.D)
 |.t c=>match Cell.as ty c with
  |some x=>some ⟨ty,x⟩
  |none=>none
 |.az=>match ty with
  |.slice t=>some ⟨.slice t,([]:List (t.den U.D))⟩
  |_=>none
 |_=>none
def xw(bs:a8):kr->bm U->Option (eQ U)
 |.hole ty,x=>match Gr ty x with
  |some c=>some [c]
  |none=>none
 |.ptr j o,.ptr b a=>match qL bs j b&&Nat.beq o a with
  |true=>some []
  |false=>none
 |.cG j ty o,.cG b d i a=>match qL bs j b&&(Nat.beq o a&&aL.beq ty d)with
  |true=>some [⟨.int .i64,(i:Int)⟩]
  |false=>none
 |.dN ty o,.dN d x a=>match Nat.beq o a,Cell.as ty (⟨d,x⟩:Cell U.D)with
  |true,some x=>some [⟨ty,x⟩]
  |_,_=>none
 |.arr j,.arr b=>match qL bs j b with
  |true=>some []
  |false=>none
 |.mp j,.mp b=>match qL bs j b with
  |true=>some []
  |false=>none
 |.cM j,.cM b=>match qL bs j b with
  |true=>some []
  |false=>none
 |.az,.az=>some []
 |.e9,.e9=>some []
 |.e7,.e7=>some []
 |.fn f g,.fn e cs=>match Nat.beq f e&&Bn bs g cs with
  |true=>some []
  |false=>none
 |.dead,_=>some []
 |_,_=>none
def qA(bs:a8):List kr->List (bm U)->Option (eQ U)
 |[],[]=>some []
 |s::ss,x::xs=>match xw bs s x,qA bs ss xs with
  |some a,some b=>some (a++b)
  |_,_=>none
 |_,_=>none
mutual
def jQ(bs:a8):e5->bG U->Option (eQ U)
 |.c s,.c x=>xw bs s x
 |.agg l,.agg xs=>qA bs l xs
 |.row n,.agg xs=>match qt U (.nm n) xs with
  |some x=>some [⟨.nm n,x⟩]
  |none=>none
 |.aY l,.aY xs=>mz bs l xs
 |_,_=>none
def mz(bs:a8):List e5->List (bG U)->Option (eQ U)
 |[],[]=>some []
 |s::ss,x::xs=>match jQ bs s x,mz bs ss xs with
  |some a,some b=>some (a++b)
  |_,_=>none
 |_,_=>none
end
def xx(bs:a8)(env:bT U):List (Nat×e5)->Option (eQ U)
 |[]=>some []
 |(k,s)::ss=>match a6 env k with
  |some x=>match jQ bs s x,xx bs env ss with
   |some a,some b=>some (a++b)
   |_,_=>none
  |none=>none
def oV(bs:a8):fN->cT U->Option (eQ U)
 |.box l,.box xs=>qA bs l xs
 |.arr ty,.arr t l=>match Cell.as (.slice ty) (⟨.slice t,l⟩:Cell U.D)with
  |some l=>some [⟨.slice ty,l⟩]
  |none=>none
 |.arr ty,.rows sz r=>match Nat.beq (ty.sz U) sz,mm U ty r with
  |true,some l=>some [⟨.slice ty,l⟩]
  |_,_=>none
 |.bj n,.box xs=>match qt U (.nm n) xs with
  |some x=>some [⟨.nm n,x⟩]
  |none=>none
 |.set,.set l=>some [⟨.slice .str,l⟩]
 |.buf E,.buf a s=>match Nat.beq E a with
  |true=>some [⟨.str,s⟩]
  |false=>none
 |.b7 E s,.b7 a x=>match Nat.beq E a with
  |true=>xw bs s x
  |false=>none
 |_,_=>none
def iX(bs:a8)(J:bf U):Nat->List fN->Option (eQ U)
 |_,[]=>some []
 |j,.gone::ss=>iX bs J (j+1) ss
 |j,s::ss=>match qH bs j with
  |some b=>match a6 J b with
   |some x=>match oV bs s x,iX bs J (j+1) ss with
    |some a,some r=>some (a++r)
    |_,_=>none
   |none=>none
  |none=>none
variable{a:eQ U}{ss:List fN}
section
variable {kk N:Nat}{J Jc:bf U}{J1:a'}{env:bT U}{env1:Env}{bs:a8}
def Can(bs:a8)(J Jc:bf U):Prop:=∀j b a,bs[j]?=some b->a6 Jc j=some a->∃x,a6 J b=some x/\∀p,a.dd=some p->x.dd=some p
theorem mW(bS:bs.Nodup){j b:Nat}(h:bs[j]?=some b):pos bs b=some j:=by
 induction bs generalizing j with
 |nil=>grind
 |cons a bs ih=>
  grind[pos]
theorem vQ{j b:Nat}(h:qL bs j b=true):bs[j]?=some b:=by
 unfold qL at h;rw[D1]at h;split at h
 all_goals simp_all
theorem La(bS:bs.Nodup):∀{a cs:a8},Bn bs a cs=true->pS bs cs=some a
 |[],[],_=>rfl
 |j::a,c::cs,h=>by
  simp[Bn]at h;simp[pS,mW bS (vQ h.1),La bS h.2]
theorem Z'{ty:aL}{x:bm U}{c:Cell U.D}{d:C}(h:Gr ty x=some c)(ag:cj N J x d):dz (d.bO bs) (.t (c.enc U))/\c.ty=ty:=by
 unfold Gr at h;split at h
 . split at h
   . rename_i b y a;cases h;rw[Cell.ku a]at ag;cases ag;exact⟨dz.refl _,rfl⟩
   grind
 . split at h
   . cases h;cases ag;exact⟨dz.az,rfl⟩
   grind
 grind
theorem G7(bS:bs.Nodup)(v:Can bs J Jc){s:kr}{x:bm U}(h:xw bs s x=some a):
 ∃y,(∀r,qD s (a++r)=(y,r))/\∀d,cj N J x d->∃u,dz (d.bO bs) u/\cj bs.length Jc y u:=by
 unfold xw at h;split at h
 . split at h
   . rename_i c B;cases h;exact⟨.t c,λr=>rfl,λd g=>⟨_,(Z' B g).1,.t c⟩⟩
   grind
 . rename_i j o b w;split at h
   . rename_i k;simp only[cC]at k;have:=c5 k.2;subst this;cases h;refine⟨.ptr j o,λr=>rfl,λd g=>⟨.ptr j o,?_,.ptr j o⟩⟩;cases g;simp only[C.bO,mW bS (vQ k.1)];exact dz.refl _
   grind
 . rename_i j ty o b G i w;split at h
   . rename_i k;simp only[cC]at k;have:=c5 k.2.1;subst this;have:=aL.beq_eq k.2.2;subst this;cases h;refine⟨.cG j ty i o,λr=>rfl,λd g=>⟨.cG j (ty.sz U) i o,?_,.cG j ty i o⟩⟩;cases g;simp only[C.bO,mW bS (vQ k.1)];exact dz.refl _
   grind
 . rename_i ty o G x w;split at h
   . rename_i y D F;have:=c5 D;subst this;cases h;have e:=Cell.ku F;cases e;refine⟨.dN ty y o,λr=>rfl,λd g=>⟨d,?_,?_⟩⟩
     . cases g;exact dz.refl _
     . cases g;exact .dN ty y o
   grind
 . rename_i j b;split at h
   . rename_i k;cases h;refine⟨.arr j,λr=>rfl,λd g=>?_⟩;cases g with
     |arr _ sz n A aa=>
      have l:=vQ k;refine⟨.arr j sz 0 n,?_,.arr j sz n (ds.1 l).1 λx m p E=>?_⟩
      . simp only[C.bO,mW bS l];exact dz.refl _
      . obtain⟨H,h1,z⟩:=v j b x l m;grind
   grind
 . rename_i j b;split at h
   . rename_i k;cases h;refine⟨.mp j,λr=>rfl,λd g=>?_⟩;cases g;refine⟨.mp j,?_,.mp j⟩;simp only[C.bO,mW bS (vQ k)];exact dz.refl _
   grind
 . rename_i j b;split at h
   . rename_i k;cases h;refine⟨.cM j,λr=>rfl,λd g=>?_⟩;cases g with
     |cM _ n A aa=>
      have l:=vQ k;refine⟨.cM j n,?_,.cM j n (ds.1 l).1 λx m p E=>?_⟩
      . simp only[C.bO,mW bS l];exact dz.refl _
      . obtain⟨H,h1,z⟩:=v j b x l m;grind
   grind
 . cases h;exact⟨.az,λr=>rfl,λd g=>by cases g;exact⟨.az,dz.refl _,.az⟩⟩
 . cases h;exact⟨.e9,λr=>rfl,λd g=>by cases g;exact⟨.e9,dz.refl _,.e9⟩⟩
 . cases h;exact⟨.e7,λr=>rfl,λd g=>by cases g;exact⟨.e7,dz.refl _,.e7⟩⟩
 . rename_i f q I cs;split at h
   . rename_i k;simp only[cC]at k;have:=c5 k.1;subst this;cases h;refine⟨.fn f q,λr=>rfl,λd g=>⟨.fn f q,?_,.fn f q⟩⟩;cases g;simp only[C.bO,La bS k.2];exact dz.refl _
   grind
 . cases h;exact⟨.dead,λr=>rfl,λd g=>⟨.dead,dz.dead _,.dead _⟩⟩
 . cases h
theorem Hh(bS:bs.Nodup)(f:Can bs J Jc):∀{ss:List kr} {xs:List (bm U)} {a:eQ U},qA bs ss xs=some a->
 ∃d,(∀r,xX ss (a++r)=(d,r))/\∀b,ba (cj N J) xs b->∃c,ba dz (b.map (C.bO bs)) c/\ba (cj bs.length Jc) d c
 |[],[],a,h=>by simp[qA]at h;subst h;exact⟨[],λr=>rfl,λb e=>by cases e;exact⟨[],.nil,.nil⟩⟩
 |s::ss,x::xs,a,h=>by
  simp[qA]at h;split at h
  . rename_i a1 a2 h1 l;cases h;obtain⟨y,f1,j⟩:=G7 bS f h1;obtain⟨d,f2,k⟩:=Hh bS f l;refine⟨y::d,λr=>by simp[xX,f1,f2],λb e=>?_⟩;cases e with
    |cons vb m=>
     obtain⟨g,aM,i⟩:=j _ vb;obtain⟨c,di,hL⟩:=k _ m;exact⟨g::c,.cons aM di,.cons i hL⟩
  grind
 |[],_::_,a,h=>by simp[qA]at h
 |_::_,[],a,h=>by grind[qA]
theorem L2{n:Nat}{xs:List (bm U)}{x:(aL.nm n).den U.D}(h:qt U (.nm n) xs=some x):∀b,ba (cj N J) xs b->∃f,ba dz (b.map (C.bO bs)) f/\ba (cj bs.length Jc) (((aL.nm n).row U x).map .t) f:=by
 intro b i;refine⟨((aL.nm n).enc U x).map .t,?_,zX⟩;unfold qt at h;split at h
 . rename_i row a;rw[aL.u9,aL.FH h];clear h;generalize (aL.nm n).cells U=dg at a;induction xs generalizing dg row b with
   |nil=>
    cases i;cases dg<;>simp[iI]at a;subst a;exact .nil
   |cons y j ih=>
    cases i with
    | @cons _ d _ b h1 g=>
     cases dg with
     |nil=>grind[iI]
     |cons ty dg=>
      cases h1 with
      |t c=>cases ty<;>simp[iI]at a<;>(split at a<;>first|(cases a;done)|(rename_i q e;cases a;exact .cons (dz.refl _) (ih _ g _ _ e)))
      |az=>
       cases ty<;>simp[iI]at a;split at a
       . rename_i q e;cases a;exact .cons dz.az (ih _ g _ _ e)
       grind
      |_=>grind[iI]
 grind
mutual
theorem Fa(bS:bs.Nodup)(A:Can bs J Jc):∀{s:e5} {x:bG U} {a:eQ U},jQ bs s x=some a->
 ∃y,(∀r,kO s (a++r)=(y,r))/\∀d,ca N J x d->∃j,gm (d.bO bs) j/\ca bs.length Jc y j
 |.c s,.c x,a,h=>by
  simp only[jQ]at h;obtain⟨y,f,g⟩:=G7 (N:=N) bS A h;refine⟨.c y,λr=>by simp only[kO,f],λd e=>?_⟩;cases e with
  |c e=>obtain⟨j,aM,q⟩:=g _ e;exact⟨.c j,.c aM,.c q⟩
 |.agg l,.agg xs,a,h=>by
  simp only[jQ]at h;obtain⟨y,f,g⟩:=Hh (N:=N) bS A h;refine⟨.agg y,λr=>by simp only[kO,f],λd e=>?_⟩;cases e with
  |agg e=>obtain⟨j,aM,q⟩:=g _ e;exact⟨.agg j,.agg aM,.agg q⟩
 |.row n,.agg xs,a,h=>by
  simp only[jQ]at h;split at h
  . rename_i x v;cases h;refine⟨.agg (((aL.nm n).row U x).map .t),λr=>rfl,λd e=>?_⟩;cases e with
    |agg e=>obtain⟨j,aM,q⟩:=L2 v _ e;exact⟨.agg j,.agg aM,.agg q⟩
  . cases h
 |.aY l,.aY xs,a,h=>by
  simp only[jQ]at h;obtain⟨w,f,af,g⟩:=u2 bS A h;refine⟨.aY w,λr=>by simp only[kO,f],λd e=>?_⟩;cases e with
  |aY _ o H e=>
   obtain⟨p,aM,q,di⟩:=g o H e;refine⟨.aY p,.aY _ _ (by rw[CO];exact aM.symm) ?_,.aY _ _ (by omega) λi x d v B=>(di i x d v B)⟩;intro i x y v K;rw[Df,bo]at v;grind
 |.c _,.agg _,a,h=>by simp[jQ]at h
 |.c _,.aY _,a,h=>by simp[jQ]at h
 |.agg _,.c _,a,h=>by simp[jQ]at h
 |.agg _,.aY _,a,h=>by simp[jQ]at h
 |.row _,.c _,a,h=>by simp[jQ]at h
 |.row _,.aY _,a,h=>by simp[jQ]at h
 |.aY _,.c _,a,h=>by simp[jQ]at h
 |.aY _,.agg _,a,h=>by simp[jQ]at h
theorem u2(bS:bs.Nodup)(A:Can bs J Jc):∀{ss:List e5} {xs:List (bG U)} {a:eQ U},mz bs ss xs=some a->
 ∃w:List (bG U),(∀r,kP ss (a++r)=(w,r))/\w.length=xs.length/\∀o:List V,xs.length=o.length->(∀(i:Nat) x d,xs[i]?=some x->o[i]?=some d->ca N J x d)->
  ∃p:List V,p.length=o.length/\(∀(i:Nat) (d j:V),o[i]?=some d->p[i]?=some j->gm (d.bO bs) j)/\(∀(i:Nat) y j,w[i]?=some y->p[i]?=some j->ca bs.length Jc y j)
 |[],[],a,h=>by simp[mz]at h;subst h;exact⟨[],λr=>rfl,rfl,λo af e=>⟨[],by simpa using af,by simp,by simp⟩⟩
 |s::ss,x::xs,a,h=>by
  simp only[mz]at h;split at h
  . rename_i a1 a2 h1 G;cases h;obtain⟨y,f1,E⟩:=Fa bS A h1;obtain⟨w,f2,af,F⟩:=u2 bS A G;refine⟨y::w,λr=>by simp only[kP,ir,f1,f2],by simp[af],λo D e=>?_⟩;cases o with
    |nil=>simp at D
    |cons d o=>
     obtain⟨j,aM,q⟩:=E d (e 0 x d rfl rfl);obtain⟨p,di,hL,jR⟩:=F o (by simpa using D) λi x d v B=>e (i+1) x d (by simpa using v) (by simpa using B);refine⟨j::p,by simp[di],λi=>?_,λi=>?_⟩
     . grind
     grind
  . cases h
 |[],_::_,a,h=>by simp[mz]at h
 |_::_,[],a,h=>by simp[mz]at h
end
theorem HG:∀{ks:a8} {k:Nat} {g:Bool} {v:V},k∈ks->look env1 k=some (g,v)->look (oe bs env1 ks) k=some (g,v.bO bs)
 |x::ks,k,g,v,b,af=>by
  simp[oe];by_cases h:x=k
  . grind[look]
  . have a:k∈ks:=(by grind);split
    . simp[look,al h];exact HG a af
    . exact HG a af
theorem Km(bS:bs.Nodup)(f:Can bs J Jc)(he:c4 N J (λ_=>true) env env1):∀{ss:List (Nat×e5)} {a:eQ U},xx bs env ss=some a->
 ∃e,(∀r,BN ss (a++r)=(e,r))/\∃c:Env,c4 bs.length Jc (λ_=>true) e c/\∀k g j,look c k=some (g,j)->k∈ss.map Prod.fst/\∃v,look env1 k=some (g,v)/\gm (v.bO bs) j
 |[],a,h=>by simp[xx]at h;subst h;exact⟨[],λr=>rfl,[],λk v t=>by grind[a6],λk g v h=>by grind[look]⟩
 |(k,s)::ss,a,h=>by
  simp[xx]at h;split at h
  . rename_i x p;split at h
    . rename_i a1 a2 h1 n;cases h;obtain⟨y,f1,m⟩:=Fa bS f h1;obtain⟨e,f2,c,aM,q⟩:=Km bS f he n;obtain⟨d,k1,k2⟩:=he k x p;obtain⟨l,u,w⟩:=m d k2;refine⟨(k,y)::e,λr=>by simp[BN,f1,f2],(k,true,l)::c,λi v b=>?_,λi g v b=>?_⟩
      . simp[a6]at b;simp[look];split at b
        . simp_all
        . rename_i o;rw[al (iG o)];exact aM i v b
      . simp[look]at b;grind
    . cases h
  grind
theorem G8(bS:bs.Nodup)(k:Can bs J Jc){s:fN}{x:cT U}(h:oV bs s x=some a):
 ∃y,(∀r,je s (a++r)=(some y,r))/\(∀d,ic N J x d->∃i,kp (d.bO bs) i/\ic bs.length Jc y i):=by
 unfold oV at h;split at h
 . obtain⟨o,f,g⟩:=Hh bS k h;refine⟨.box o,λr=>by grind[je],λd b=>?_⟩;cases b with
   |box b=>obtain⟨j,aM,c⟩:=g _ b;exact⟨.box _,.box aM,.box c⟩
 . rename_i ty t q;split at h
   . rename_i l af;cases h;have e:=Cell.ku af;cases e;refine⟨.arr ty l,λr=>rfl,λd b=>?_⟩;cases b;exact⟨_,.arr,.arr ty l⟩
   grind
 . rename_i ty sz r;split at h
   . rename_i l m af;cases h;have:=c5 m;subst this;refine⟨.arr ty l,λr=>rfl,λd b=>?_⟩;cases b with
     |rows h1 p=>
      refine⟨_,.arr,?_⟩;rw[<-vZ af h1];exact .arr ty l
   grind
 . split at h
   . rename_i x n;cases h;refine⟨.box _,λr=>rfl,λd b=>?_⟩;cases b with
     |box b=>obtain⟨j,aM,c⟩:=L2 n _ b;exact⟨.box j,.box aM,.box c⟩
   grind
 . cases h;refine⟨.set _,λr=>rfl,λd b=>?_⟩;cases b;exact⟨_,.same,.set _⟩
 . split at h
   . rename_i dM;have:=c5 dM;subst this;cases h;refine⟨.buf _ _,λr=>rfl,λd b=>?_⟩;cases b;exact⟨_,.same,.buf _ _⟩
   grind
 . split at h
   . rename_i dM;have:=c5 dM;subst this;obtain⟨y,f,g⟩:=G7 bS k h;refine⟨.b7 _ y,λr=>by simp[je,f];rfl,λd b=>?_⟩;cases b with
     |b7 b=>obtain⟨i,aM,c⟩:=g _ b;exact⟨.b7 _ i,.b7 aM,.b7 c⟩
   grind
 grind
theorem JJ{t:aL}:∀{r:List (List (bm U))} {l:List (t.den U.D)},mm U t r=some l->l.length=r.length
 |[],l,h=>by grind[mm]
 |r::c,l,h=>by
  simp[mm]at h;split at h
  . rename_i x xs b a;cases h;simp[JJ a]
  grind
theorem acz{s:fN}{x y:cT U}{r:eQ U}(h:oV bs s x=some a)(b:je s (a++r)=(some y,r)):∀p,y.dd=some p->x.dd=some p:=by
 unfold oV at h;split at h
 . grind[je,cT.dd]
 . split at h
   . rename_i l af;have e:=Cell.ku af;simp only[je,uA,fT,qc]at b;grind
   grind
 . split at h
   . rename_i l c af;have:=c5 c;subst this;simp only[je,uA,fT,qc]at b;grind[cT.dd,JJ]
   grind
 . split at h
   . cases h;intro p d;simp only[je,uA,fT,dv,dp,qc]at b;grind[cT.dd]
   grind
 . simp only[je,uA,fT,dv,dp,qc]at b;grind
 . split at h
   . rename_i dM;have:=c5 dM;simp only[je,uA,fT,dv,dp,qc]at b;grind
   grind
 . grind[je,cT.dd]
 grind
theorem pF(bS:bs.Nodup):∀{ss:List fN} {j:Nat} {a:eQ U},iX bs J j ss=some a->
 (∀i c,a6 (gL j ss a) i=some c->j<=i/\i<j+ss.length/\∃b x,bs[i]?=some b/\a6 J b=some x/\∃s d,oV bs s x=some d/\∀r,je s (d++r)=(some c,r))
 |[],j,a,h=>by grind[gL,a6]
 |.gone::ss,j,a,h=>by
  intro i c e;simp only[iX]at h;obtain⟨h1,g,m⟩:=pF bS h i c e;grind
 |.box l::ss,j,a,h=>u1 bS (λ{j a}=>pF bS) (by simpa only[iX]using h)
 |.arr l::ss,j,a,h=>u1 bS (λ{j a}=>pF bS (a:=a)) (by simpa only[iX]using h)
 |.bj l::ss,j,a,h=>u1 bS (λ{j a}=>pF bS (ss:=ss) (j:=j) (a:=a)) (by simpa only[iX]using h)
 |.set::ss,j,a,h=>u1 bS (λ{j a}=>pF bS (ss:=ss) (j:=j) (a:=a)) (by simpa only[iX]using h)
 |.buf E::ss,j,a,h=>u1 bS (λ{j a}=>pF bS (ss:=ss) (j:=j) (a:=a)) (by simpa only[iX]using h)
 |.b7 E l::ss,j,a,h=>u1 bS (λ{j a}=>pF bS (ss:=ss) (j:=j) (a:=a)) (by grind[iX])
where
 u1 (bS:bs.Nodup) {s:fN} {ss:List fN} (ih:∀{j:Nat} {a:eQ U},iX bs J j ss=some a->
  (∀i c,a6 (gL j ss a) i=some c->j<=i/\i<j+ss.length/\∃b x,bs[i]?=some b/\a6 J b=some x/\∃s d,oV bs s x=some d/\∀r,je s (d++r)=(some c,r))) {j:Nat} {a:eQ U} (h:(match qH bs j with
  |some b=>match a6 J b with
   |some x=>match oV bs s x,iX bs J (j+1) ss with
    |some a,some r=>some (a++r)
    |_,_=>none
   |none=>none
  |none=>none)=some a):(∀i c,a6 (gL j (s::ss) a) i=some c->j<=i/\i<j+(s::ss).length/\∃b x,bs[i]?=some b/\a6 J b=some x/\∃s d,oV bs s x=some d/\∀r,je s (d++r)=(some c,r)):=by
  intro i c e;split at h
  . rename_i b k;rw[D1]at k;split at h
    . split at h
      . rename_i a1 a2 h1 g;cases h;obtain⟨y,f,_⟩:=G8 (N:=0) (J:=J) (Jc:=[]) bS (λ_ _ _ _ h=>by simp[a6]at h) h1;simp only[gL,f,a6]at e;grind[c5]
      . cases h
    . cases h
  . cases h
def hr(U:cL)(bD:Shape)(a:eQ U):bT U×bf U:=
 match BN bD.env a with
 |(e,r)=>(e,gL 0 bD.st r)
def E'(bs:a8)(bD:Shape)(env:bT U)(J:bf U):Option (eQ U):=
 match xx bs env bD.env,iX bs J 0 bD.st with
 |some a,some b=>some (a++b)
 |_,_=>none
theorem zL(bS:bs.Nodup){b:eQ U}(g:iX bs J 0 ss=some b):Can bs J (gL 0 ss b):=by
 intro j c k a i;obtain⟨_,_,m,x,h1,d,s,l,e,f⟩:=pF bS g j k i;rw[h1]at a;cases a;exact⟨x,d,acz e (f [])⟩
theorem y9:∀{r:a8} {i j c:Nat} {x:bP},r[j]?=some c->aX J1 c=some x->aX (fI bs J1 i r) (i+j)=some (x.bO bs)
 |[],i,j,c,x,h,_=>by grind
 |b::r,i,0,c,x,h,a=>by
  grind[fI,aX]
 |b::r,i,j+1,c,x,h,a=>by
  simp[fI];have:=y9 (i:=i+1) (j:=j) (r:=r) (by grind) a;grind[aX]
theorem Ex(bS:bs.Nodup)(aI:cx N J J1){b:eQ U}(r:iX bs J 0 ss=some b):
 ∃bq,sr (fI bs J1 0 bs) bq/\cx bs.length (gL 0 ss b) bq:=by
 have H:=zL bS r;have L:=pF bS r;generalize gL 0 ss b=Jc at*;have key:∀(l:bf U),(∀i a,a6 l i=some a->a6 Jc i=some a)->∃bq:a',(∀i x,aX bq i=some x->∃y,aX (fI bs J1 0 bs) i=some y/\kp y x)/\(∀i a,a6 l i=some a->i<bs.length/\∃y,aX bq i=some y/\ic bs.length Jc a y):=by
  intro l;induction l with
  |nil=>intro _;exact⟨[],λi x h=>by grind[aX],λi x h=>by grind[a6]⟩
  |cons p l ih=>
   obtain⟨d,u⟩:=p;intro af;have:=by
    have aux:∀(m:bf U),(∀i a,i≠d->a6 m i=some a->a6 Jc i=some a)->∃bq:a',(∀i x,aX bq i=some x->∃y,aX (fI bs J1 0 bs) i=some y/\kp y x)/\(∀i a,i≠d->a6 m i=some a->i<bs.length/\∃y,aX bq i=some y/\ic bs.length Jc a y):=by
     intro m V;have P:∀i a,a6 (dl m d) i=some a->a6 Jc i=some a:=by
      intro i a h;rw[oq]at h;grind
     have build:∀n,∃bq:a',(∀i x,aX bq i=some x->∃y,aX (fI bs J1 0 bs) i=some y/\kp y x)/\(∀i a,i<n->a6 (dl m d) i=some a->i<bs.length/\∃y,aX bq i=some y/\ic bs.length Jc a y):=by
      intro n;induction n with
      |zero=>exact⟨[],λi x h=>by grind[aX],λi x h=>by omega⟩
      |succ n R=>
       obtain⟨s,h1,g⟩:=R;cases aG:a6 (dl m d) n with
       |none=>exact⟨s,h1,λi a k c=>g i a (by grind) c⟩
       |some G=>
        obtain⟨_,_,v,x,o,A,T,M,B,O⟩:=L n G (P n G aG);obtain⟨_,y,k1,k2⟩:=aI v x A;obtain⟨z,f,q⟩:=G8 (N:=N) bS H B;have:z=G:=(by simp_all);subst this;obtain⟨t,S,C⟩:=q y k2;have ht:=y9 (bs:=bs) (i:=0) (j:=n) o k1;refine⟨df s n t,λi x k=>?_,λi a k c=>?_⟩
        . grind[c2]
        . by_cases e:i=n
          . subst e;rw[aG]at c;cases c;exact⟨(ds.1 o).1,t,by rw[c2,ae rfl],C⟩
          . obtain⟨D,z,E,F⟩:=g i a (by omega) c;exact⟨D,z,by rw[c2,al (λw=>e w.symm)];exact E,F⟩
     obtain⟨s,h1,g⟩:=build bs.length;refine⟨s,h1,λi a K c=>?_⟩;have I:a6 (dl m d) i=some a:=by rw[oq,al (λe=>K e.symm)];exact c
     grind
    exact aux l λi a K h=>af i a (by
     grind[a6,c5])
   obtain⟨s,h1,g⟩:=this;have Q:a6 Jc d=some u:=af d u (by simp[a6,Ce]);obtain⟨_,_,v,x,o,A,T,M,B,O⟩:=L d u Q;obtain⟨_,y,k1,k2⟩:=aI v x A;obtain⟨z,f,q⟩:=G8 (N:=N) bS H B;have:z=u:=(by simp_all);subst this;obtain⟨t,S,C⟩:=q y k2;have ht:=y9 (bs:=bs) (i:=0) (j:=d) o k1;refine⟨df s d t,λi x k=>?_,λi a c=>?_⟩
   . rw[c2]at k;grind
   . by_cases e:i=d
     . subst e;simp[a6,Ce]at c;subst c;exact⟨(ds.1 o).1,t,by rw[c2,ae rfl],C⟩
     . have I:a6 l i=some a:=by
        simp only[a6]at c;cases r:Nat.beq d i with
        |true=>exact absurd (c5 r).symm e
        |false=>rw[r]at c;exact c
       obtain⟨D,z,E,F⟩:=g i a e I;exact⟨D,z,by rw[c2,al (λw=>e w.symm)];exact E,F⟩
 obtain⟨s,h1,g⟩:=key Jc λ_ _ h=>h;exact⟨s,λi x k=>h1 i x k,λi a c=>g i a c⟩
theorem aaJ(bS:bs.Nodup)(j:keeps kk bs=true)(he:c4 N J (λ_=>true) env env1)(aI:cx N J J1){bD:Shape}(h:E' bs bD env J=some a):
 ∃c bq,Conv kk N env1 J1 bs.length c bq/\c4 bs.length (hr U bD a).2 (λ_=>true) (hr U bD a).1 c/\cx bs.length (hr U bD a).2 bq:=by
 unfold E' at h;split at h
 . rename_i a1 b h1 d;cases h;obtain⟨e,f,c,aM,m⟩:=Km bS (zL bS d) he h1;obtain⟨bq,s1,l⟩:=Ex bS aI d;have i:hr U bD (a1++b)=(e,gL 0 bD.st b):=(by grind[hr]);rw[i];refine⟨c,bq,(Conv.tidy (bD.env.map Prod.fst) bs bS j).trans (Conv.weaken (λk g n af=>?_) s1),aM,l⟩;grind[HG]
 grind
end
end
section
open Go
variable {U:cL}
def fe(D:Nat->Type):aL->List aL->Type
 |t,[]=>t.den D
 |t,u::r=>t.den D×fe D u r
def aO(D:Nat->Type):List aL->Type
 |[]=>Unit
 |t::r=>fe D t r
def fe.cells(D:Nat->Type):(t:aL)->(ts:List aL)->fe D t ts->List (Cell D)
 |t,[],x=>[⟨t,x⟩]
 |t,u::r,x=>⟨t,x.1⟩::fe.cells D u r x.2
def aO.cells(D:Nat->Type):(ts:List aL)->aO D ts->List (Cell D)
 |[],_=>[]
 |t::r,x=>fe.cells D t r x
def FF{α:Type}:List α->Option α
 |[c]=>some c
 |_=>none
def vb{α:Type}:List α->Option (α×List α)
 |[]=>none
 |c::r=>some (c,r)
def fe.dec(D:Nat->Type):(t:aL)->(ts:List aL)->List (Cell D)->Option (fe D t ts)
 |t,[],l=>match FF l with
  |some c=>c.as t
  |none=>none
 |t,u::r,l=>match vb l with
  |some p=>match p.1.as t with
   |some x=>match fe.dec D u r p.2 with
    |some y=>some (x,y)
    |none=>none
   |none=>none
  |none=>none
def aO.dec(D:Nat->Type):(ts:List aL)->List (Cell D)->Option (aO D ts)
 |[],l=>match l with
  |[]=>some ()
  |_=>none
 |t::r,l=>fe.dec D t r l
variable{α:Type}{D:Nat->Type}{N:Nat}{J:bf U}{c:α×List α}
theorem aaa{l:List α}{c:α}(h:FF l=some c):l=[c]:=by
 unfold FF at h;split at h
 . cases h;rfl
 . cases h
theorem acA{l:List α}(h:vb l=some c):l=c.1::c.2:=by
 unfold vb at h;split at h
 . cases h
 grind
theorem fe.fp:∀{ts:List aL} {t:aL} {a:List (Cell D)} {h:fe D t ts},fe.dec D t ts a=some h->fe.cells D t ts h=a
 |[],t,a,h,e=>by
  unfold fe.dec at e;split at e
  . rename_i c f;rw[aaa f,Cell.ku (t:=t) (x:=h) e];rfl
  . cases e
 |u::r,t,a,h,e=>by
  unfold fe.dec at e;split at e
  . rename_i p j;split at e
    . rename_i x o;split at e
      . rename_i y q;cases e;have:=fe.fp q;show⟨t,x⟩::fe.cells D u r y=a;rw[this,acA j,<-Cell.ku o]
      . cases e
    . cases e
  . cases e
theorem aO.fp:∀{ts:List aL} {a:List (Cell D)} {h:aO D ts},aO.dec D ts a=some h->aO.cells D ts h=a
 |[],[],h,e=>rfl
 |[],_::_,h,e=>by cases (show(none:Option Unit)=some h from e)
 |t::r,a,h,e=>fe.fp e
def fe.kd(U:cL):(t:aL)->(ts:List aL)->fe U.D t ts
 |t,[]=>t.kd U
 |t,u::r=>(t.kd U,fe.kd U u r)
def aO.kd(U:cL):(ts:List aL)->aO U.D ts
 |[]=>()
 |t::r=>fe.kd U t r
abbrev j2:=List (Nat×Nat)×List (Nat×aL)
def Gi:kr->bm U->j2->j2
 |.ptr j _,.ptr b _,s=>((j,b)::s.1,s.2)
 |.cG j _ _,.cG b _ _ _,s=>((j,b)::s.1,s.2)
 |.arr j,.arr b,s=>((j,b)::s.1,s.2)
 |.mp j,.mp b,s=>((j,b)::s.1,s.2)
 |.cM j,.cM b,s=>((j,b)::s.1,s.2)
 |.fn _ a,.fn _ cs,s=>(a.zip cs++s.1,s.2)
 |.hole (.slice t),.arr b,s=>(s.1,(b,t)::s.2)
 |_,_,s=>s
def Gj:List kr->List (bm U)->j2->j2
 |a::as,x::xs,s=>Gj as xs (Gi a x s)
 |_,_,s=>s
def C0:List aL->List (bm U)->j2->j2
 |.slice t::ts,.arr b::xs,s=>C0 ts xs (s.1,(b,t)::s.2)
 |_::ts,_::xs,s=>C0 ts xs s
 |_,_,s=>s
mutual
def Gl:e5->bG U->j2->j2
 |.c a,.c x,s=>Gi a x s
 |.agg l,.agg xs,s=>Gj l xs s
 |.row n,.agg xs,s=>C0 (U.dg n) xs s
 |.aY l,.aY xs,s=>C1 l xs s
 |_,_,s=>s
def C1:List e5->List (bG U)->j2->j2
 |a::as,x::xs,s=>C1 as xs (Gl a x s)
 |_,_,s=>s
end
def Gk(env:bT U):List (Nat×e5)->j2->j2
 |[],s=>s
 |(k,a)::r,s=>match a6 env k with
  |some x=>Gk env r (Gl a x s)
  |none=>Gk env r s
def ahL:fN->cT U->j2->j2
 |.box l,.box xs,s=>Gj l xs s
 |.bj n,.box xs,s=>C0 (U.dg n) xs s
 |.b7 _ a,.b7 _ x,s=>Gi a x s
 |_,_,s=>s
def wY(J:bf U)(kk:Nat):Nat->List fN->j2->a8->a8×List (Nat×aL)
 |_,[],s,acc=>(acc.reverse,s.2)
 |j,a::r,s,acc=>
  let b:=match a6 s.1 j with
   |some b=>b
   |none=>match Nat.ble (j+1) kk with
    |true=>j
    |false=>1000000+j
  match a6 J b with
  |some x=>wY J kk (j+1) r (ahL a x s) (b::acc)
  |none=>wY J kk (j+1) r s (b::acc)
def ue:a8->Bool
 |[]=>true
 |a::l=>(l.all λb=>!(Nat.beq a b))&&ue l
theorem y':∀{l:a8},ue l=true->l.Nodup
 |[],_=>wC
 |a::l,h=>by
  simp only[ue,cC,dH,r0]at h;refine List.nodup_cons.2 ⟨λb=>?_,y' h.2⟩;have c:=h.1 a b;simp_all
def sg(kk:Nat)(own:List (Pos×aL))(bD:Shape)(ts:List aL)(env:bT U)(J:bf U)(N:Nat):Option (aO U.D ts):=
 match EO own env J N with
 |none=>none
 |some (env,J,_)=>match Jg env J with
  |none=>none
  |some (env,J)=>match wY J kk 0 bD.st (Gk env bD.env ([],[])) []with
   |(bs,b)=>match kX b env J with
    |none=>none
    |some (env,J)=>match ue bs&&(keeps kk bs&&Nat.beq bs.length bD.st.length)with
     |false=>none
     |true=>match E' bs bD env J with
      |none=>none
      |some a=>aO.dec U.D ts a
section
variable {kk N:Nat}{J:bf U}{J1:a'}{env:bT U}{env1:Env}
theorem DH{own:List (Pos×aL)}{bD:Shape}{ts:List aL}{h:aO U.D ts}(b:sg kk own bD ts env J N=some h)(he:c4 N J (λ_=>true) env env1)(aI:cx N J J1)(z:kk<=N):
 ∃c bq,Conv kk N env1 J1 bD.st.length c bq/\c4 bD.st.length (hr U bD (aO.cells U.D ts h)).2 (λ_=>true) (hr U bD (aO.cells U.D ts h)).1 c/\cx bD.st.length (hr U bD (aO.cells U.D ts h)).2 bq/\kk<=bD.st.length:=by
 unfold sg at b;split at b
 . cases b
 . rename_i I J2 G h1;obtain⟨cZ,r6,f,v,n,cz⟩:=K' h1 he aI z;split at b
   . cases b
   rename_i K E u;obtain⟨aM,s1,i,w,o⟩:=XS (kk:=kk) u v n;have g:=f.trans i;split at b;rename_i bs M _;split at b
   . cases b
   . rename_i L F l;obtain⟨H,P,j,x,p,_⟩:=zY (kk:=kk) (gl:=[]) l w o;split at b
     . cases b
     . rename_i d;simp only[cC]at d;obtain⟨s,e,t⟩:=d;have A:=c5 t;split at b
       . cases b
       . rename_i a r;obtain⟨di,C,k,y,q⟩:=aaJ (y' s) e x p r;rw[aO.fp b,<-A];refine⟨di,C,g.trans (j.trans k),y,q,?_⟩;by_cases O:kk=0
         . omega
         . have B:(bs[kk-1]?==some (kk-1))=true:=by
            unfold keeps at e;grind
           have m:bs[kk-1]?=some (kk-1):=(by simpa using B);have:=(ds.1 m).1;omega
end
structure cD (U:cL) where
 f:Nat
 gC:List e5
 st:List fN
 ts:List aL
 eT:e5
 eL:List fN
 us:List aL
 F:aO U.D ts->Option (aO U.D us)
def cD.args(s:cD U)(h:aO U.D s.ts):List (bG U):=(kP s.gC (aO.cells U.D s.ts h)).1
def cD.iC(s:cD U)(h:aO U.D s.ts):bf U:=gL 0 s.st (kP s.gC (aO.cells U.D s.ts h)).2
def cD.res(s:cD U)(r:aO U.D s.us):bG U:=(kO s.eT (aO.cells U.D s.us r)).1
def cD.rest(s:cD U)(r:aO U.D s.us):bf U:=gL 0 s.eL (kO s.eT (aO.cells U.D s.us r)).2
def hB(P:Program)(s:cD U):Prop:=
 ∀h r,s.F h=some r->∀a J1,ba (ca s.st.length (s.iC h)) (s.args h) a->cx s.st.length (s.iC h) J1->
  eg P s.f a J1 s.st.length (λb bq N'=>N'=s.eL.length/\ca N' (s.rest r) (s.res r) b/\cx N' (s.rest r) bq)
def bm.qk:bm U->Bool
 |.t _|.dN .. |.az|.e9|.e7=>true
 |.fn _ []=>true
 |_=>false
def fQ:bG U->Bool
 |.c x=>x.qk
 |.agg cs=>cs.all bm.qk
 |.aY vs=>go vs
where go:List (bG U)->Bool
 |[]=>true
 |v::vs=>fQ v&&go vs
def bm.oW:bm U->C
 |.t c=>.t (c.enc U)
 |.dN ty x o=>.dN (ty.enc U x) o
 |.az=>.az
 |.e9=>.e9
 |.e7=>.e7
 |.fn f caps=>.fn f caps
 |_=>.dead
def fh:bG U->V
 |.c x=>.c x.oW
 |.agg cs=>.agg (cs.map bm.oW)
 |.aY vs=>.aY (go vs)
where go:List (bG U)->List V
 |[]=>[]
 |v::vs=>fh v::go vs
theorem zE{x:bm U}(h:x.qk=true):cj N J x x.oW/\(∀d,cj N J x d->d=x.oW)/\∀n,x.oW.aD n=true:=by
 cases x<;>simp[bm.qk]at h
 . exact⟨.t _,λd a=>by cases a;rfl,λ_=>rfl⟩
 . exact⟨.dN _ _ _,λd a=>by cases a;rfl,λ_=>rfl⟩
 . exact⟨.az,λd a=>by cases a;rfl,λ_=>rfl⟩
 . exact⟨.e9,λd a=>by cases a;rfl,λ_=>rfl⟩
 . exact⟨.e7,λd a=>by cases a;rfl,λ_=>rfl⟩
 . rename_i f caps;cases caps with
   |nil=>exact⟨.fn _ _,λd a=>by cases a;rfl,λ_=>rfl⟩
   |cons=>simp[bm.qk]at h
theorem Hi:∀{vs:List (bG U)} {i:Nat},(fh.go vs)[i]?=(vs[i]?).map fh
 |[],i=>by simp[fh.go]
 |v::vs,0=>by simp[fh.go]
 |v::vs,i+1=>by simp[fh.go,Hi]
theorem TK:∀{vs:List (bG U)},(fh.go vs).length=vs.length
 |[]=>rfl
 |v::vs=>by simp[fh.go,TK]
theorem J3:∀{vs:List (bG U)} {i:Nat} {v:bG U},fQ.go vs=true->vs[i]?=some v->fQ v=true
 |[],i,v,_,h=>by simp at h
 |x::vs,0,v,hs,h=>by simp[fQ.go]at hs;simp at h;subst h;exact hs.1
 |x::vs,i+1,v,hs,h=>by simp[fQ.go]at hs;exact J3 hs.2 (by simpa using h)
theorem aux:∀(cs:List (bm U)),(∀x,x∈cs->x.qk=true)->ba (cj N J) cs (cs.map bm.oW)
 |[],_=>.nil
 |a::l,h=>.cons (zE (h a (by simp))).1 (aux l λx b=>h x (by simp[b]))
theorem v8{N:Nat}{J:bf U}:∀{x:bG U},fQ x=true->ca N J x (fh x)/\∀n,(fh x).aD n=true
 |.c x,h=>by
  simp only[fQ]at h;obtain⟨h1,_,b⟩:=zE (N:=N) (J:=J) h;exact⟨.c h1,λn=>b n⟩
 |.agg cs,h=>by
  simp only[fQ,dH]at h;refine⟨.agg ?_,λn=>?_⟩
  . exact aux cs h
  . simp only[fh,V.aD,qh,dH];intro c g;exact(zE (N:=N) (J:=J) (h c g)).2.2 n
 |.aY vs,h=>by
  simp only[fQ]at h;have:=go (N:=N) (J:=J) vs h;refine⟨.aY _ _ (by rw[TK]) λi x d a j=>?_,λn=>?_⟩
  . rw[Hi,a]at j;grind
  . simp only[fh,V.aD];exact this.2 n
where go {N:Nat} {J:bf U}:∀(vs:List (bG U)),fQ.go vs=true->(∀x,x∈vs->ca N J x (fh x))/\∀n,V.aD.V.dI n (fh.go vs)=true
 |[],_=>⟨by simp,λ_=>rfl⟩
 |v::vs,h=>by
  simp only[fQ.go,cC]at h;obtain⟨h1,e⟩:=v8 (N:=N) (J:=J) h.1;obtain⟨b,f⟩:=go (N:=N) (J:=J) vs h.2;refine⟨λx a=>?_,λn=>by simp only[fh.go,V.aD.V.dI,cC];exact⟨e n,f n⟩⟩;rcases eK.1 a with rfl|a
  . exact h1
  . exact b x a
theorem zF{x:bG U}{d:V}(h:ca N J x d):fQ x=true->d=fh x:=by
 induction h with
 |c h=>intro hs;simp only[fQ]at hs;rw[(zE (N:=N) (J:=J) hs).2.1 _ h];rfl
 | @agg xs b h=>
  intro hs;simp only[fQ,dH]at hs;simp only[fh]
  congr 1
  induction h with
  |nil=>rfl
  |cons h1 f ih=>rw[fB,<-(zE (N:=N) (J:=J) (hs _ (by simp))).2.1 _ h1,<-ih (λx a=>hs x (by simp[a]))]
 |aY xs b af h ih=>
  intro hs;simp only[fQ]at hs;simp only[fh]
  congr 1
  apply yC;intro i;rw[Hi];cases a:xs[i]? with
  |none=>grind
  |some x=>
   have g:=(ds.1 a).1;have e:=e' (l:=b) (i:=i) (by omega);rw[e,jV]
   congr 1
   exact ih i x _ a e (J3 hs a)
end
section
open Go
variable {U:cL}
variable{K:Env->a'->Prop}{f:Nat->Nat}
section
variable {P:Program}{nt kk key N N':Nat}{env:Env}{J J':a'}{Q nr:Exit->Env->a'->Nat->Prop}
def Pn(P:Program)(f:Nat)(args:List V)(J:a')(key:Nat)(env:Env)(K:V->a'->Prop):Prop:=
 ∀aE nt φ S a w,Rel aE nt φ S env J (lt key) a w->V.aD.V.dI (lt key) args=true->∀vs:List Value,ba (cl φ w S) args vs->
  Calls P f vs.toArray w λe w'=>∃v r b bR J',e= .returned v/\K r J'/\cl b w' bR r v/\r.aD (eH (lt key) key)=true/\Rel aE nt b bR env J' (eH (lt key) key) a w'
def adR(P:Program)(o:cb)(env:Env)(f:Nat)(vs:List V):Prop:=
 (∃args p,o.op= .call f args/\hP env args=some (p,vs)/\p)\/
 (∃x args q p caps a,o.op= .iE x args/\x.get env=some (q,.c (.fn f caps))/\q/\hP env args=some (p,a)/\p/\hj P f=true/\vs=a++caps.map λb=>V.c (.ptr b 0))
def u3(P:Program)(o:cb)(key:Nat)(env:Env)(J:a')(K:Env->a'->Prop):Prop:=
 hf P o key env J K\/(f' env o.guard=some true/\∃f vs,adR P o env f vs/\Pn P f vs J key env λr J'=>K (eu env o.dst true r) J')
def sw(P:Program)(kk:Nat):List cb->Nat->Env->a'->(Env->a'->Prop)->Prop
 |[],_,env,J,K=>K env J
 |o::r,key,env,J,K=>∃fR a,Conv kk key env J key fR a/\u3 P o key fR a λe s=>sw P kk r (key+16) e s K
theorem JK{aE:Ctx}{φ:dE}{S:dT}{a:Act}{w:World}(R:Rel aE nt φ S env J (lt key) a w){ops:Array Oper}{o:Oper}{z:cb}(ag:wm P nt ops o=some z)(h:u3 P z key env J K){Q:Exit->Act->World->Prop}:
 if Region.wanted o (yielded ops a.tmps)then o.wp P a w (j1 aE nt (eH (lt key) key) K) Q else j1 aE nt (eH (lt key) key) K (a.put o.dst undef) w:=by
 rcases h with h|⟨aq,f,vs,L,D⟩
 . exact DU R (λb h1 _=>H2 h1) ag h
 . obtain⟨h1,e,A,B⟩:=Ug ag;have W:=Jz R e aq;rw[W];simp only[b5];rcases L with⟨args,p,s,r,u⟩|⟨x,args,q,p,caps,I,s,O,U,r,u,l,rfl⟩
   . rw[s]at h1;obtain⟨c,m,y⟩:=T8 (zg h1 (by simp));obtain⟨n,l,k⟩:=T9 y;have G:=Eu (P:=P) (w:=w) (a:=a) m n (f:=f) (caps:=[]) rfl l;simp only[lD]at G;obtain⟨g,j⟩:=q' R k r u;exact Calls.next A B rfl (λ_ _ h=>h) (D aE nt φ S a w R j _ g) G
   . rw[s]at h1;obtain⟨c,m,y⟩:=TX (zg h1 (by simp));obtain⟨t,rfl,n,k⟩:=TY y;obtain⟨g,j⟩:=q' R k r u;have H:=cy (x:= .tmp t) R rfl O U;have X:a.eval (.tmp t)= .func (.func f) #[] (caps.map λb=>Value.pointer (some ⟨(φ b).1,0,none⟩)).toArray:=H.1.eb;have M:ba (cl φ w S) (caps.map λb=>V.c (.ptr b 0)) (caps.map λb=>Value.pointer (some ⟨(φ b).1,0,none⟩)):=by
      refine ba.lE (by simp) ?_;intro i v x h1 e;simp only[qe,bo]at h1 e;obtain⟨b,E,rfl⟩:=h1;obtain⟨Y,F,rfl⟩:=e;rw[E]at F;cases F;exact .c rfl
     have N:V.aD.V.dI (lt key) (I++caps.map λb=>V.c (.ptr b 0))=true:=by
      refine tz ?_;intro i v d;by_cases T:i<I.length
      . rw[uw T]at d;exact nT j d
      . rw[wF (by omega)]at d;simp only[qe,bo]at d;obtain⟨b,E,rfl⟩:=d;have aa:=H.2;simp only[V.aD,C.aD,dH]at aa⊢;grind
     exact Calls.next A B rfl (λ_ _ h=>h) (D aE nt φ S a w R N _ (g.append M)) (Eu m n X l)
theorem Kn{aE:Ctx}(g:aE.k=kk){ops:Array Oper}{Q:Exit->Act->World->Prop}{K:Env->a'->Nat->Prop}:∀{l:List Oper} {bb:List cb} {k N:Nat} {env:Env} {J:a'} {φ:dE} {S:dT} {a:Act} {w:World},jt P nt ops l=some bb->(∀i:Nat,i<l.length->l[i]?=ops[k+i]?)->
 Rel aE nt φ S env J (lt N) a w->sw P kk bb N env J (λe s=>K e s (N+16*bb.length))->(∀φ S e s N a w,K e s N->Rel aE nt φ S e s (lt N) a w->Q .normal a w)->wpOps P ops Q (List.range' k l.length) a w
 |[],bb,k,N,env,J,φ,S,a,w,ag,f,R,h,d=>by
  simp[jt]at ag;subst ag;simp only[h6,List.range'_zero,wpOps];exact d _ _ _ _ _ _ _ h R
 |o::l,bb,k,N,env,J,φ,S,a,w,ag,f,R,h,d=>by
  simp only[jt,br,bo]at ag;obtain⟨u,m,b,n,rfl⟩:=ag;have q:ops[k]?=some o:=by have:=f 0 (by simp);simpa using this.symm
  rw[gi,F2,wpOps_cons];unfold wpOp;rw[q];simp only;obtain⟨fR,t,p,v⟩:=h;obtain⟨y,E4,j⟩:=p aE nt φ S a w g R;have hs:=JK j m (K:=λe s=>sw P kk b (N+16) e s λe s=>K e s (N+16*(b.length+1))) (by omega) (Q:=Q);have next:∀c w',j1 aE nt (eH (lt N) N) (λe s=>sw P kk b (N+16) e s λe s=>K e s (N+16*(b.length+1))) c w'->wpOps P ops Q (List.range' (k+1) l.length) c w':=by
   rintro c w' ⟨x,bR,e,s,bC,R'⟩
   refine Kn g (k:=k+1) (N:=N+16) n (λi aC=>?_) (R'.more λ_ h=>Je h) (K:=K) ?_ d
   . have:=f (i+1) (by simp;omega);grind
   grind
  split at hs
  . rename_i r;rw[ae r];exact .inl (Oper.wp_mono next hs)
  grind
theorem cq.ahE{bb:List cb}(h:sw P kk bb N env J (λe s=>Q .normal e s (N+16*bb.length))):cq P nt kk (.region bb) env J N Q:=by
 intro code j aE φ S a w o R;obtain⟨id,ops,rfl,ag⟩:=TI j;refine wp_region ?_;have:=Kn (P:=P) o (ops:=ops) (K:=λe s N=>Q .normal e s N) (Q:=λe c w'=>∃p bR env' J' N',Q e env' J' N'/\Rel aE nt p bR env' J' (lt N') c w') (k:=0) ag (λi q=>by simp) R h
  (λφ S e s N a w bC f=>⟨φ,S,e,s,N,bC,f⟩)
 rw[List.range_eq_range'];omega
theorem eg.conv{f k:Nat}{args q:List V}{Q:V->a'->Nat->Prop}(A:ba gm args q)(hs:sr J J')(h:eg P f q J' k Q):eg P f args J k Q:=by
 intro φ S w B p D F E vs H;refine h φ S w B ⟨λb x o=>?_,λb t x y o K=>?_,p.st⟩ (λb x o=>?_) (λb x o=>?_) ?_ vs ?_
 . obtain⟨j,h1,e⟩:=hs b x o;exact e.Gc (p.blk b j h1)
 . obtain⟨j,h1,e⟩:=hs b x o;obtain⟨L,k1,k2⟩:=hs t y K;exact p.inj b t j L h1 k1
 . obtain⟨j,h1,e⟩:=hs b x o;exact⟨(D b j h1).1,e.aD _ (D b j h1).2⟩
 . obtain⟨j,h1,e⟩:=hs b x o;exact F b j h1
 . refine tz λi v G=>?_;obtain⟨v0,h1,e⟩:=(A.flip (R':=λb a=>gm a b) λ_ _ h=>h).get G;exact e.aD _ (nT E h1)
 . exact ba.comp (λa b c h1 e=>h1.Gg e) (A.flip (R':=λb a=>gm a b) λ_ _ h=>h) H
theorem eg.mono{f k:Nat}{args:List V}{Q nr:V->a'->Nat->Prop}(h:eg P f args J k Q)(j:∀r s n,Q r s n->nr r s n):eg P f args J k nr:=by
 intro φ S w B h1 a c e vs bc;refine(h φ S w B h1 a c e vs bc).mono ?_;grind
theorem eg.tidy{f k:Nat}{args:List V}{Q nr:V->a'->Nat->Prop}(h:eg P f args J k Q)
 (am:∀r J' N',Q r J' N'->∃bs G J2,bs.Nodup/\keeps k bs=true/\gm (r.bO bs) G/\sr (fI bs J' 0 bs) J2/\nr G J2 bs.length):eg P f args J k nr:=by
 intro φ S w B h1 N O U vs bc;refine(h φ S w B h1 N O U vs bc).mono ?_
 rintro e w' ⟨v,r,R,bR,J',N',he,W,k1,k2,k3,k4,k5,k6,k7⟩
 obtain⟨bs,G,J2,bS,Z,ag,hs,X⟩:=am r J' N' W;have Y:∀i:Nat,i<k->bs[i]?=some i:=by
  intro i a0;unfold keeps at Z;grind
 let K:dE:=λi=>R ((bs[i]?).getD 0);have D:∀(i:Nat) b,bs[i]?=some b->K i=R b:=by intro i b h;simp[K,h]
 have F:∀b x,aX (fI bs J' 0 bs) b=some x->∃c a,bs[b]?=some c/\aX J' c=some a/\x=a.bO bs:=by
  intro b x p;obtain⟨j,c,a,rfl,N,O,rfl⟩:=pJ p;grind
 have an:∀(a:bP),(a.bO bs).aD (lt bs.length)=true:=by
  intro a;cases a with
  |box cs=>simp only[bP.bO,bP.aD,qh,dH];intro c _;exact C.jY c
  |arr sz es=>rfl
  |set ks=>rfl
  |buf E s=>rfl
  |b7 E c=>exact C.jY c
  |cA sz es i o c=>exact C.jY c
 refine⟨v,G,K,bR,J2,bs.length,he,X,ag.Gg (cl.bO D k1),ag.aD _ (V.jY r),⟨λb x p=>?_,λb H x y p t af h0 M=>?_,k3.st⟩,λb x p=>?_,k5,λb x p h0=>?_,λb q=>?_⟩
 . obtain⟨y,t,q⟩:=hs b x p;obtain⟨c,a,aM,A,rfl⟩:=F b y t;exact q.Gc (c1.bO D aM (k3.blk c a A))
 . obtain⟨aE,ap,_⟩:=hs b x p;obtain⟨aK,ax,_⟩:=hs H y t;obtain⟨c,a,aM,A,_⟩:=F b aE ap;obtain⟨L,aC,f1,f2,_⟩:=F H aK ax;rw[D b c aM]at h0⊢;rw[D H L f1]at M⊢;refine k3.inj c L a aC A f2 ?_ h0 M;intro e;subst e;have:=mW bS aM;rw[mW bS f1]at this;cases this;exact af rfl
 . obtain⟨y,t,q⟩:=hs b x p;obtain⟨c,a,aM,A,rfl⟩:=F b y t;exact⟨(ds.1 aM).1,q.aD _ (an a)⟩
 . obtain⟨y,t,q⟩:=hs b x p;obtain⟨c,a,aM,A,rfl⟩:=F b y t;rw[D b c aM]at h0⊢;exact k6 c a A h0
 . rw[D b b (Y b q)];exact k7 b q
end
def bm.b8(f:Nat->Nat):bm U->bm U
 |.ptr b o=>.ptr (f b) o
 |.cG b ty i o=>.cG (f b) ty i o
 |.arr b=>.arr (f b)
 |.sub b a len=>.sub (f b) a len
 |.pre b h=>.pre (f b) h
 |.dP b a len=>.dP (f b) a len
 |.mp b=>.mp (f b)
 |.ey b=>.ey (f b)
 |.cM b=>.cM (f b)
 |.fn g caps=>.fn g (caps.map f)
 |x=>x
def bG.b8(f:Nat->Nat):bG U->bG U
 |.c x=>.c (x.b8 f)
 |.agg cs=>.agg (cs.map (bm.b8 f))
 |.aY vs=>.aY (go f vs)
where go (f:Nat->Nat):List (bG U)->List (bG U)
 |[]=>[]
 |v::vs=>v.b8 f::go f vs
def cT.b8(f:Nat->Nat):cT U->cT U
 |.box cs=>.box (cs.map (bm.b8 f))
 |.arr ty l=>.arr ty l
 |.rows sz r=>.rows sz r
 |.set ks=>.set ks
 |.buf E s=>.buf E s
 |.b7 E c=>.b7 E (c.b8 f)
 |.cA t l i o c=>.cA t l i o (c.b8 f)
def A3(J:bf U):a8->bf U
 |[]=>J
 |b::r=>dl (A3 J r) b
def nk(J:bf U)(bs:a8)(f:Nat->Nat):bf U->bf U
 |[]=>A3 J bs
 |(b,x)::r=>cI (nk J bs f r) (f b) (x.b8 f)
def oI(J Jr:bf U):Nat->a8->Option Bool
 |_,[]=>some true
 |i,b::r=>match a6 Jr i with
  |none=>oI J Jr (i+1) r
  |some d=>match a6 J b with
   |none=>none
   |some x=>match d.dd with
    |none=>oI J Jr (i+1) r
    |some a=>match x.dd with
     |none=>none
     |some p=>match Nat.beq a.1 p.1,oI J Jr (i+1) r with
      |true,some c=>some (decide (a.2=p.2)&&c)
      |_,_=>none
section
variable {key N':Nat}{J Jr:bf U}{J1 Qi:a'}{bs:a8}
theorem Mg:∀{bs:a8} {b:Nat},a6 (A3 J bs) b=if b∈bs then none else a6 J b
 |[],b=>by simp[A3]
 |c::r,b=>by
  simp only[A3,oq,Mg (bs:=r)];grind
theorem tN{f:Nat->Nat}:∀{e:bf U} {c:Nat} {x:cT U},a6 (nk J bs f e) c=some x->(∃b a,c=f b/\a6 e b=some a/\x=a.b8 f)\/(c ∉ bs/\a6 J c=some x)
 |[],c,x,h=>by
  simp only[nk,Mg]at h;grind
 |(b,y)::r,c,x,h=>by
  simp only[nk,h3]at h;split at h
  . rename_i d;cases h;exact .inl ⟨b,y,d.symm,by simp[a6,Ce],rfl⟩
  . rename_i d;rcases tN h with⟨g,a,h1,i,j⟩|h
    . refine .inl ⟨g,a,h1,?_,j⟩;simp only[a6];cases k:Nat.beq b g with
      |true=>exact absurd (by rw[c5 k];exact h1.symm) d
      |false=>exact i
    grind
theorem Ah(bS:bs.Nodup)(aC:∀b,b∈bs->b<key){i j:Nat}(h:back bs key i=back bs key j):i=j:=by
 unfold back at h;cases d:bs[i]? with
 |some b=>
  rw[d]at h;have e:=aC b (fj d);cases a:bs[j]? with
  |some c=>
   rw[a]at h;simp at h;subst h;have:=mW bS d;rw[mW bS a]at this;grind
  |none=>rw[a]at h;simp at h;omega
 |none=>
  rw[d]at h;have f:=ux.1 d;cases a:bs[j]? with
  |some c=>
   rw[a]at h;have e:=aC c (fj a);grind
  |none=>grind
theorem J4(g:∀i j,f i=f j->i=j):∀{a:a'} {b:Nat} {x:bP},aX a b=some x->aX (ho J1 bs f a) (f b)=some (x.b8 f)
 |[],b,x,h=>by simp[aX]at h
 |(c,y)::r,b,x,h=>by
  simp only[ho,c2];simp only[aX]at h;by_cases d:c=b
  . grind
  . rw[al d]at h;rw[al (λe=>d (g _ _ e))];exact J4 g h
theorem TS{c:Nat}(a:c ∉ bs)(d:∀b,f b≠c):∀{e:a'},aX (ho J1 bs f e) c=aX J1 c
 |[]=>by simp only[ho,rh,al a]
 |(b,y)::r=>by
  simp only[ho,c2];rw[al (d b)];exact TS a d
theorem cT.x4{x:cT U}:(x.b8 f).dd=x.dd:=by cases x<;>rfl
theorem JL:∀{l:a8} {d:Nat} {c:Bool},oI J Jr d l=some c->c=true->∀(j b:Nat) f,l[j]?=some b->a6 Jr (d+j)=some f->∃x,a6 J b=some x/\∀p,f.dd=some p->x.dd=some p
 |[],d,c,h,n,j,b,f,g,m=>by simp at g
 |a::l,d,c,h,n,j,b,f,g,m=>by
  simp only[oI]at h;have next:∀{k},oI J Jr (d+1) l=some k->k=true->∀i,j=i+1->∃x,a6 J b=some x/\∀p,f.dd=some p->x.dd=some p:=by
   intro k h1 r i e;subst e;exact JL h1 r i b f (by simpa using g) (by rw[show d+1+i=d+(i+1) by omega];exact m)
  cases j with
  |zero=>
   simp at g;subst g;simp only[uu]at m;rw[m]at h;simp only at h;split at h
   . cases h
   . rename_i x v;split at h
     . grind
     . rename_i y t;split at h
       . cases h
       . rename_i p u;split at h
         . rename_i k s w;cases h;simp only[cC,dO]at n;refine⟨x,v,λq o=>?_⟩;rw[t]at o;cases o;rw[u];have:=c5 s;grind
         . cases h
  |succ j=>
   split at h
   . grind
   grind
variable (bS:bs.Nodup)(aC:∀b,b∈bs->b<key)(cz:N'<=bs.length+16)(aI:cx key J J1)
include bS aC cz aI in
theorem cj.b8{x:bm U}{d:C}(h:cj N' Jr x d):cj (key+16) (nk J bs (back bs key) Jr) (x.b8 (back bs key)) (d.b8 (back bs key)):=by
 cases h with
 |t c=>exact cj.t c
 |ptr b o=>exact cj.ptr _ o
 |cG b t i o=>exact cj.cG _ t i o
 |dN t x o=>exact cj.dN t x o
 |arr b sz n A h=>
  have j:back bs key b<key+16:=by
   unfold back;cases e:bs[b]? with
   |some c=>simp;have:=aC c (fj e);omega
   |none=>have:=ux.1 e;simp;omega
  refine cj.arr _ sz n j λx w p v=>?_;rcases tN w with⟨y,D,h1,a,rfl⟩|⟨h1,a⟩
  . have:=Ah bS aC h1;subst this;rw[cT.x4]at v;grind
  . exfalso;have q:=(aI _ _ a).1;unfold back at h1 q;grind
 |sub b B len=>exact cj.sub _ B len
 |pre b sz n A h=>
  have j:back bs key b<key+16:=by
   unfold back;cases e:bs[b]? with
   |some c=>simp;have:=aC c (fj e);omega
   |none=>have:=ux.1 e;simp;omega
  refine cj.pre _ sz n j λx w p v=>?_;rcases tN w with⟨y,D,h1,a,rfl⟩|⟨h1,a⟩
  . have:=Ah bS aC h1;subst this;rw[cT.x4]at v;grind
  . exfalso;have q:=(aI _ _ a).1;unfold back at h1 q;grind
 |dP b sz B len A h=>
  have j:back bs key b<key+16:=by
   unfold back;cases e:bs[b]? with
   |some c=>simp;have:=aC c (fj e);omega
   |none=>have:=ux.1 e;simp;omega
  refine cj.dP _ sz B len j λx w p v=>?_;rcases tN w with⟨y,D,h1,a,rfl⟩|⟨h1,a⟩
  . have:=Ah bS aC h1;subst this;rw[cT.x4]at v;grind
  . exfalso;have q:=(aI _ _ a).1;unfold back at h1 q;grind
 |mp b=>exact cj.mp _
 |ey b=>exact cj.ey _
 |cM b n A h=>
  have j:back bs key b<key+16:=by
   unfold back;cases e:bs[b]? with
   |some c=>simp;have:=aC c (fj e);omega
   |none=>have:=ux.1 e;simp;omega
  refine cj.cM _ n j λx w p v=>?_;rcases tN w with⟨y,D,h1,a,rfl⟩|⟨h1,a⟩
  . have:=Ah bS aC h1;subst this;rw[cT.x4]at v;grind
  . exfalso;have q:=(aI _ _ a).1;unfold back at h1 q;grind
 |az=>exact .az
 |e9=>exact .e9
 |e7=>exact .e7
 |fn f caps=>exact cj.fn f _
 |dead d=>exact .dead _
theorem Ko:∀{vs:List (bG U)} {i:Nat},(bG.b8.go f vs)[i]?=(vs[i]?).map (bG.b8 f)
 |[],i=>by simp[bG.b8.go]
 |v::vs,0=>by simp[bG.b8.go]
 |v::vs,i+1=>by simp[bG.b8.go,Ko]
theorem TT:∀{vs:List (bG U)},(bG.b8.go f vs).length=vs.length
 |[]=>rfl
 |v::vs=>by simp[bG.b8.go,TT]
include bS aC cz aI in
theorem ca.b8{x:bG U}{d:V}(h:ca N' Jr x d):ca (key+16) (nk J bs (back bs key) Jr) (x.b8 (back bs key)) (d.b8 (back bs key)):=by
 induction h with
 |c h=>exact .c (cj.b8 bS aC cz aI h)
 |agg h=>exact .agg (ba.map_map (h.imp λ_ _ _ aa=>cj.b8 bS aC cz aI aa))
 |aY xs f af h ih=>
  refine .aY _ _ (by rw[TT,HC];exact af) ?_;intro i x d e a;rw[Ko,bo]at e;rw[Ix,bo]at a;grind
include bS aC aI in
theorem Dw(f:oI J Jr 0 bs=some true):dw key J (key+16) (nk J bs (back bs key) Jr):=by
 refine⟨by omega,λc x k g=>?_⟩;rcases tN g with⟨b,i,h1,d,rfl⟩|⟨h1,d⟩
 . unfold back at h1;cases a:bs[b]? with
   |some j=>
    rw[a]at h1;simp at h1;subst h1;obtain⟨x,k1,k2⟩:=JL f rfl b c i a (by rw[hR];exact d);exact⟨x,k1,λp e=>k2 p (by rw[cT.x4]at e;exact e)⟩
   |none=>rw[a]at h1;simp at h1;omega
 grind
include bS aC cz aI in
theorem cx.Fy(w:oI J Jr 0 bs=some true)(ag:cx N' Jr Qi):cx (key+16) (nk J bs (back bs key) Jr) (ho J1 bs (back bs key) Qi):=by
 intro c x A;have v:∀b,b<N'->back bs key b<key+16:=by
  intro b D;unfold back;cases p:bs[b]? with
  |some c=>simp;have:=aC c (fj p);omega
  |none=>have:=ux.1 p;simp;omega
 rcases tN A with⟨b,B,rfl,a,rfl⟩|⟨h1,a⟩
 . obtain⟨f,y,e,bc⟩:=ag b B a;refine⟨v b f,y.b8 (back bs key),J4 (λi j=>Ah bS aC) e,?_⟩;cases bc with
   |box bc=>exact .box (ba.map_map (bc.imp λ_ _ _ aa=>cj.b8 bS aC cz aI aa))
   |arr t l=>exact .arr t l
   |set ks=>exact .set ks
   |buf E s=>exact .buf E s
   |b7 bc=>exact .b7 (cj.b8 bS aC cz aI bc)
   |cA t l i o bc=>exact .cA t l i o (cj.b8 bS aC cz aI bc)
   |rows bc q=>exact .rows bc q
 . obtain⟨f,y,e,bc⟩:=aI c x a;refine⟨by omega,y,?_,?_⟩
   . rw[TS h1 λb=>?_]
     . exact e
     . unfold back;grind
   . exact bc.mono (Dw bS aC aI w)
end
end
section
open Go
variable {xb:a8}
def Ed(n:Nat):List (Nat×Nat)->Bool
 |(i,_)::_=>Nat.beq i n
 |[]=>false
theorem aaK{l:List (cb×a8)}{p:Nat×Nat}(h:p∈lq l):p.1<l.length:=by
 simp only[lq,Fb,List.mem_flatMap]at h;grind
theorem YT{l:List (cb×a8)}(h:Ed l.length (sF l)=true):Ec l=true/\tm l.dropLast=true/\∀p,p∈lq l.dropLast->p∈sF l:=by
 unfold sF at h⊢;split at h
 . grind
 . exfalso;cases af:lq l with
   |nil=>rw[af]at h;cases h
   |cons p r=>
    rw[af]at h;have a:p∈lq l:=by rw[af];simp
    have:=aaK a;obtain⟨i,j⟩:=p;have b:Nat.beq i l.length=true:=h;simp_all
variable{D:Nat->a8}{gg:List (Nat×Nat)}{Q:Exit->Env->a'->Nat->Prop}
theorem aab{l:List (cb×a8)}{m:Nat}(g:l.length=m+1)(h:Ec l=true)(e:∀(i:Nat) x,l[i]?=some x->D i=x.2){p:Nat->Bool}(f:∀i,i<m->p i=true->∀d,d∈D i->p d=true)(af:∀d,d∈D m->p d=true):
 ∀i,i<m->p i=true:=by
 have key:∀k i,i<m->m-i<=k->p i=true:=by
  intro k;induction k with
  |zero=>intro i h1 a;omega
  |succ k ih=>
   intro i h1 a;simp only[Ec,dH,List.mem_range]at h;have c:=h i (by omega);grind
 exactλi b=>key m i b (by omega)
section
variable {P:Program}{aE:Ctx}{nt kk:Nat}{N:Nat}{ops:Array Oper}{init:List cb}{last:cb}{E:Nat->Env}{T:Nat->a'}{G:Nat->Bool}{W:Nat->V}
theorem Ey{listed:Array Bool}{i m:Nat}(hs:listed.size=m+1)(a:i<m):listed.pop.getD i false=listed.getD i false:=by
 simp only[FL,Array.getElem?_pop];grind
theorem acV{listed:Array Bool}{i m:Nat}(hs:listed.size=m+1)(a:i<m):(listed.setIfInBounds i true).pop=listed.pop.setIfInBounds i true:=by grind
theorem aae{Q:Exit->Act->World->Prop}{c:Nat}{listed:Array Bool}{a:Act}{w:World}(hs:listed.size=ops.size)(f:∀i,i<ops.size->listed.getD i false=true)(d:Q .normal a w):wpAny P .any ops Q c listed a w:=by
 have e:Region.ready .any ops listed=[]:=by
  rw[Su];intro i b;rw[mem_ready]at b;grind
 cases c with
 |zero=>exact⟨e,d⟩
 |succ c=>exact⟨λ_=>d,λi b=>by rw[e]at b;cases b⟩
theorem aac(st:Stat xb init D E N)(ag:oL xb P init N E T G W)(hres:jt P nt ops ops.toList=some (init++[last]))(C:∀(i:Nat) o,ops[i]?=some o->D i=hn o)
 (aw:∀(p:Nat->Bool),(∀i,i<init.length->p i=true->∀d,d∈D i->p d=true)->(∀d,d∈D init.length->p d=true)->∀i,i<init.length->p i=true)
 (aq:∀d,d∈D init.length->d<init.length)
 {Q:Exit->Act->World->Prop}{K:Env->a'->Prop}(av:aE.k=kk)
 (bC:∃fR B,Conv kk (N+16*init.length) (E init.length) (T init.length) (N+16*init.length) fR B/\u3 P last (N+16*init.length) fR B K)
 (aj:∀e s φ S a w,K e s->Rel aE nt φ S e s (eH (lt (N+16*init.length)) (N+16*init.length)) a w->Q .normal a w):
 ∀(g:Nat) (listed:Array Bool) φ S env J a w,listed.size=init.length+1->listed.getD init.length false=false->listed.toList.countP (· ==false)<=g->Inv xb aE nt init D N E T G W listed.pop φ S env J a w->wpAny P .any ops Q g listed a w:=by
 have Z:=x8 hres;simp at Z;have ax:∀(listed:Array Bool) (φ:dE) (S:dT) (env:Env) (J:a') (a:Act) (w:World),listed.size=init.length+1->listed.getD init.length false=false->Inv xb aE nt init D N E T G W listed.pop φ S env J a w->Region.ready .any ops listed≠[]:=by
  intro listed φ S env J a w hs u cv aa;have F:∀i,i<init.length->listed.getD i false=true:=by
   intro i;induction i using Nat.strongRecOn with
   |_ i ih=>
    intro q;cases af:listed.getD i false with
    |true=>rfl
    |false=>
     exfalso;have A:i<ops.size:=(by omega);have c:ops[i]?=some ops[i]:=BX A;have:i∈Region.ready .any ops listed:=by
      rw[mem_ready];refine⟨?_,ops[i],c,λe he an=>?_⟩
      . grind
      . have l:e.on∈D i:=by
         rw[C i _ c];simp only[hn,e0,r1];grind
        exact ih e.on (st.back i _ q l) (by have:=st.back i _ q l;omega)
     grind
  have A:init.length<ops.size:=by omega
  have c:ops[init.length]?=some ops[init.length]:=BX A;have:init.length∈Region.ready .any ops listed:=by
   rw[mem_ready];refine⟨?_,ops[init.length],c,λe he an=>?_⟩
   . grind
   . have l:e.on∈D init.length:=by
      rw[C _ _ c];simp only[hn,e0,r1];grind
     grind
  grind
 intro g;induction g with
 |zero=>
  intro listed φ S env J a w hs u H cv;exfalso;have t:init.length<listed.size:=by omega
  have h0:listed.toList.countP (· ==false)=0:=by omega
  rw[List.countP_eq_zero]at h0;simp[t]at u;exact h0 listed[init.length] (by simp) (by simp[u])
 |succ g ih=>
  intro listed φ S env J a w hs u H cv;refine⟨λaa=>absurd aa (ax listed φ S env J a w hs u cv),λi q=>?_⟩;rw[mem_ready]at q;obtain⟨h1,o,c,az⟩:=q;have A:i<ops.size:=(BU.1 c).1;have t:i<listed.size:=by omega
  have aG:listed.getD i false=false:=by simp[t]at h1⊢;exact h1
  obtain⟨v,U,ab⟩:=GK hres (i:=i) (o:=o) (by simpa using c);have l:∀d,d∈D i->listed.getD d false=true:=by
   intro d l;rw[C i o c]at l;simp only[hn,e0,r1]at l;grind
  have au:listed.toList.countP (· ==false)<=g+1->(listed.setIfInBounds i true).toList.countP (· ==false)<=g:=by
   intro H;have:listed.toList[i]?=some false:=by simp[t]at aG⊢;exact aG
   grind
  rcases Nat.lt_or_ge i init.length with y|y
  ·
   have x:init[i]?=some v:=by rw[uw y]at U;exact U
   have V:∀d,d∈D i->listed.pop.getD d false=true:=λd n=>by rw[Ey hs (by have:=st.back i d y n;omega)];exact l d n
   have I:listed.pop.getD i false=false:=by rw[Ey hs y];exact aG
   obtain⟨ak,am⟩:=cv.agree st ag x I V;obtain⟨⟨bq,ay,ah⟩,_⟩:=(ag.step i v x).1.local (env':=env) (J':=J) ak am;have z:=DU cv.rel (key:=N+16*i) (λb ao ap=>K3 I ao ap) ab (K:=λe s=>e=eu env v.dst (G i) (W i)/\s=bq) (ay.hf ⟨rfl,rfl⟩) (Q:=Q);have next:∀f w',j1 aE nt (eH (used N init.length listed.pop) (N+16*i)) (λe s=>e=eu env v.dst (G i) (W i)/\s=bq) f w'->wpAny P .any ops Q g (listed.setIfInBounds i true) f w':=by
    rintro f w' ⟨O,bR,e,s,⟨rfl,rfl⟩,R'⟩
    have L:=acV (listed:=listed) (i:=i) (m:=init.length) hs y;refine ih (listed.setIfInBounds i true) O bR _ _ f w' (by simpa using hs) ?_ (au H) (by rw[L];exact cv.step st ag x I V ah R');rw[mQ t,bx];exact u
   unfold wpOp;rw[c];dsimp only;split at z
   . rename_i r;rw[ae r];exact .inl (Oper.wp_mono next z)
   . rename_i r;rw[al r];exact next _ _ z
  ·
   have q:i=init.length:=(by omega);subst q;have x:v=last:=(by grind);subst x;have F:∀j,j<init.length->listed.pop.getD j false=true:=by
    refine aw (λj=>listed.pop.getD j false) (λj X L d n=>cv.down j X L d n) (λd n=>?_);rw[Ey hs (aq d n)];exact l d n
   have R:=cv.done st ag F;obtain⟨fR,B,ar,z⟩:=bC;obtain⟨aB,E4,ad⟩:=ar aE nt φ S a w av R;have M:=JK ad ab z (Q:=Q);have next:∀f w',j1 aE nt (eH (lt (N+16*init.length)) (N+16*init.length)) K f w'->wpAny P .any ops Q g (listed.setIfInBounds init.length true) f w':=by
    rintro f w' ⟨O,bR,e,s,ai,R'⟩
    refine aae (by simp[hs,Z]) (λj X=>?_) (aj e s O bR f w' ai R');rw[mQ t];split
    . rfl
    . rename_i aA;have Y:j<init.length:=(by omega);rw[<-Ey hs Y];exact F j Y
   unfold wpOp;rw[c];dsimp only;split at M
   . rename_i r;rw[ae r];exact .inl (Oper.wp_mono next M)
   . rename_i r;rw[al r];exact next _ _ M
theorem cq.ahF{env:Env}{J:a'}(a5:Ed (init.length+1) gg=true)
 (h:xA xb P init N env J (λe s=>kx xb init e N gg=true/\sw P kk [last] (N+16*init.length) e s (λe s=>Q .normal e s (N+16*init.length+16)))):cq P nt kk (.oA (init++[last]) gg) env J N Q:=by
 intro code aK aE φ S a w a2 R;obtain⟨id,ops,rfl,hres,Z,a9,rfl⟩:=Tx aK;have K:=x8 hres;simp at K;have U:(ft ops (init++[last])).length=init.length+1:=by simp[ft,K]
 obtain⟨a4,X,bq⟩:=YT (l:=ft ops (init++[last])) (by rw[U];exact a5);obtain⟨E,T,G,W,ag,cZ,t0,a0,ax⟩:=H3 h;have am:(ft ops (init++[last])).dropLast=ft ops.pop init:=by
  obtain⟨M,x,c⟩:∃M x,ops.toList=M++[x]:=by
   cases af:ops.toList.reverse with
   |nil=>exfalso;have h1:=ee List.length af;rw[List.length_reverse,rY,h6]at h1;omega
   |cons x r=>exact⟨r.reverse,x,by have:=ee List.reverse af;simpa using this⟩
  have a3:M.length=init.length:=by have h1:=ee List.length c;rw[rY,cm,List.length_singleton]at h1;omega
  unfold ft;rw[Array.toList_pop,c,r2,List.zip_append (by simp[a3])];simp
 rw[am]at X;have a1:kx xb init (E init.length) N (lq (ft ops.pop init))=true:=Hv (λp bc=>bq p (by rw[am];exact bc)) a0;have A:=M1 (ops:=ops.pop) (by simp;omega) X ag a1;let D:Nat->a8:=λi=>((ops[i]?).map hn).getD [];have B:∀i,i<init.length->((ops.pop[i]?).map hn).getD []=D i:=by grind
 have st:Stat xb init D E N:=by
  refine⟨λi d f F=>A.back i d f (by rw[B i f];exact F),λi j x y d c ap bv=>?_,λi j b bb f H bs v=>?_⟩
  . have f:=(ds.1 c).1;have H:=(ds.1 ap).1;have:=A.w0 i j x y d c ap bv;grind
  . rcases A.ord i j b bb f H bs v with⟨h1,q⟩|⟨h1,q⟩
    . exact .inl ⟨h1,q.congr A.back B H⟩
    . exact .inr ⟨h1,q.congr A.back B f⟩
 have an:∀(i:Nat) x,(ft ops (init++[last]))[i]?=some x->D i=x.2:=by
  intro i x c;unfold ft at c;grind
 refine wp_region_any a9 ?_;have bi:∃fR O,Conv kk (N+16*init.length) (E init.length) (T init.length) (N+16*init.length) fR O/\u3 P last (N+16*init.length) fR O (λe s=>Q .normal e s (N+16*init.length+16)):=ax;have aC:∀d,d∈D init.length->d<init.length:=by
  intro d F;simp only[tm,cC]at Z;have c:(ft ops (init++[last]))[init.length]?=some (ft ops (init++[last]))[init.length]:=e' (by omega);have:=HE Z.1.1 c d (by rw[<-an _ _ c];exact F);omega
 refine aac (aE:=aE) (nt:=nt) (D:=D) st ag hres (λi o Y=>by simp[D,Y]) (λp h1 q=>aab U a4 an h1 q) aC a2 bi (λe s φ S a w be R'=>⟨φ,S,e,s,_,be,R'.more λb v=>Je v⟩) ops.size _ φ S env J a _ ?_ ?_ ?_ ?_
 . simp[K]
 . rw[FL,Array.getElem?_replicate];split<;>rfl
 . have:=List.countP_le_length (p:=λx:Bool=>x==false) (l:=(Array.replicate ops.size false).toList);simpa using this
 . have R':Rel aE nt φ S env J (lt N) a {w with drawn:=w.drawn+1}:=R.drew;have L:∀i,(Array.replicate ops.size false).pop.getD i false=true->False:=by
    intro i af;simp only[FL,Array.getElem?_pop]at af;grind
   refine⟨R'.more λb v=>by simp[used,v],by simp;omega,λi f af=>(L i af).elim,λt _=>by rw[cZ],λt i o Y af=>(L i af).elim,λb _=>by rw[t0],λb i f af=>(L i af).elim⟩
end
end
end Go.Proofs.YtdjagncoefjfeaaGreat.Shv
