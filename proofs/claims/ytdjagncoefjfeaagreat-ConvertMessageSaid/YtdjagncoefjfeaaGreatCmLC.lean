/- The library of this proof, part C: an abstract machine for the code of the program, and its soundness. -/
import Derived.Test.YtdjagncoefjfeaaGreatCmLB

namespace Go.Proofs.YtdjagncoefjfeaaGreat.Shv
set_option linter.all false
section
open Go
variable {xb:a7}
def kK(xb:a7)(aZ:List cb)(env:Env)(N:Nat):List (Nat×Nat)->Bool
 |[]=>true
 |(i,j)::r=>(match aZ[i]?,aZ[j]? with
  |some x,some y=>(eh xb y.op env (N+16*j)).all λb=>!(cD xb x.op env (N+16*i) b)
  |_,_=>true)&&kK xb aZ env N r
variable{env:Env}{aZ:List cb}{N:Nat}
theorem I0:∀{fY:List (Nat×Nat)} {i j:Nat} {x y:cb},kK xb aZ env N fY=true->(i,j)∈fY->aZ[i]?=some x->aZ[j]?=some y->∀b,b∈eh xb y.op env (N+16*j)->cD xb x.op env (N+16*i) b=false
 |[],i,j,x,y,h,a,_,_,_,_=>by simp at a
 |(g,k)::r,i,j,x,y,h,a,d,f,b,c=>by
  simp only[kK,cd]at h;rcases fe.1 a with e|a
  . grind
  . exact I0 h.2 a d f b c
section
variable {P:Program}{aC:Ctx}{nt kk:Nat}{N:Nat}{ops:Array Oper}{aZ:List cb}{E:Nat->Env}{T:Nat->a8}{G:Nat->Bool}{W:Nat->V}
theorem WX{i:Nat}{o:Oper}{x:cb}(a:ops[i]?=some o)(b:aZ[i]?=some x):(fh ops aZ)[i]?=some (x,hd o):=by
 unfold fh;grind
theorem MW(ah:aZ.length=ops.size)(K:tc (fh ops aZ)=true)(Y:oy xb P aZ N E T G W)(V:kK xb aZ (E aZ.length) N (k' (fh ops aZ))=true):
 Stat xb aZ (λi=>((ops[i]?).map hd).getD []) E N:=by
 simp only[tc,cd]at K;obtain⟨⟨U,L⟩,_⟩:=K;have g:∀i,i<aZ.length->∃o x,ops[i]?=some o/\aZ[i]?=some x/\(fh ops aZ)[i]?=some (x,hd o):=by
  intro i m;have v:ops[i]?=some ops[i]:=BC (by omega);have a:aZ[i]?=some aZ[i]:=eH m;exact⟨_,_,v,a,WX v a⟩
 have ad:∀i j,ahead (fh ops aZ) j i=true->j<i/\j∈((ops[i]?).map hd).getD []:=by
  intro i j h;obtain⟨h1,y,q,ab⟩:=ZB h;refine⟨h1,?_⟩;have m:i<aZ.length:=by
   have:=(c5.1 q).1;unfold fh at this;simp at this;omega
  grind
 have M:∀(i j:Nat) (x y:cb) (d:Nat),aZ[i]?=some x->aZ[j]?=some y->y.dst=some d->(d∈x.rd->(j<i/\j∈((ops[i]?).map hd).getD [])\/(x.op.neutral=true/\x.op.ie=false/\i<j/\i∈((ops[j]?).map hd).getD []))/\(i=j\/x.dst≠some d):=by
  intro i j x y d a c ak;obtain⟨z,aa,I,p,r⟩:=g i (c5.1 a).1;obtain⟨A,R,J,f,s⟩:=g j (c5.1 c).1;rw[a]at p;cases p;rw[c]at f;cases f;simp only[Rx,cY]at L;have h1:=L ((x,hd z),i) (eM (i:=i) (by simp[BK,r]));have q:=h1 ((y,hd A),j) (eM (i:=j) (by simp[BK,s]));grind
 refine⟨λi d m F=>?_,M,?_⟩
 . obtain⟨o,x,v,a,S⟩:=g i m;rw[v]at F;have:=Gr U S d F;omega
 ·
  have H:∀(i:Nat) (x:cb),aZ[i]?=some x->¬(x.op.neutral=true/\x.op.ie=false)->∀t,t∈x.op.reads->look (E aZ.length) t=look (E i) t:=by
   intro i x a ai t ht;have m:=(c5.1 a).1;refine vf Y (by omega) (ef _) λj y ae af c Z=>?_;rcases (M i j x y t a c Z).1 (KW ht)with h|h
   . omega
   grind
  have aj:∀i j,nJ (mg (fh ops aZ) []) j i=true->j<i/\jn (λi=>((ops[i]?).map hd).getD []) j i:=by
   intro i j h;simp only[nJ,cd,dn,List.contains_iff_mem]at h;refine⟨h.1,SY (l:=fh ops aZ) (acc:=[]) (λk x a=>?_) (λi j B=>by simp at B) i j h.2⟩;have ag:k<aZ.length:=by
    have:=(c5.1 a).1;unfold fh at this;simp at this;omega
   grind
  have C:∀(i j:Nat) (x y:cb) (b:Nat),i≠j->aZ[i]?=some x->aZ[j]?=some y->cD xb x.op (E i) (N+16*i) b=true->b∈eh xb y.op (E j) (N+16*j)->nJ (mg (fh ops aZ) []) i j=true\/nJ (mg (fh ops aZ) []) j i=true:=by
   intro i j x y b u a c n e;by_cases h1:nJ (mg (fh ops aZ) []) i j=true
   . grind
   . by_cases q:nJ (mg (fh ops aZ) []) j i=true
     . grind
     . exfalso;obtain⟨z,aa,I,p,r⟩:=g i (c5.1 a).1;obtain⟨A,R,J,f,s⟩:=g j (c5.1 c).1;rw[a]at p;cases p;rw[c]at f;cases f;have ht:y.op.ie=true:=by
        cases h:y.op.ie with
        |true=>rfl
        |false=>rw[YA h]at e;simp at e
       have X:(i,j)∈k' (fh ops aZ):=by
        simp only[k',Ez,Fu];refine⟨((x,hd z),i),eM (i:=i) (by simp[BK,r]),?_⟩;dsimp only;rw[JW n];simp only[bV,b6,List.mem_filterMap];refine⟨((y,hd A),j),eM (i:=j) (by simp[BK,s]),?_⟩;grind
       have:=I0 V X a c b (by rw[ZA (H j y c (λh=>by rw[ht]at h;cases h.2))];exact e);rw[Zz (H i x a (λh=>by rw[JW n]at h;cases h.1))]at this;grind
  intro i j b u m B n e;obtain⟨z,x,I,a,r⟩:=g i m;obtain⟨A,y,J,c,s⟩:=g j B;have w:cD xb x.op (E i) (N+16*i) b=true:=by unfold ig at n;rw[a]at n;exact n
  have conv:(nJ (mg (fh ops aZ) []) i j=true\/nJ (mg (fh ops aZ) []) j i=true)->(i<j/\jn (λi=>((ops[i]?).map hd).getD []) i j)\/(j<i/\jn (λi=>((ops[i]?).map hd).getD []) j i):=by grind
  rcases e with⟨R,f,e⟩|e
  . rw[c]at f;cases f;exact conv (C i j x y b u a c w e)
  . have D:cD xb y.op (E j) (N+16*j) b=true:=by unfold ig at e;rw[c]at e;exact e
    cases Q:y.op.ie with
    |true=>exact conv (C i j x y b u a c w (IY Q D))
    |false=>
     cases O:x.op.ie with
     |true=>exact conv (C j i y x b (dJ u) c a D (IY O w)).symm
     |false=>
      have h1:=MV O w;have q:=MV Q D;exfalso;omega
theorem HE:∀{l m:List (Nat×Nat)},(∀p,p∈l->p∈m)->kK xb aZ env N m=true->kK xb aZ env N l=true
 |[],_,_,_=>rfl
 |(i,j)::r,m,hs,h=>by
  simp only[kK,cd];refine⟨?_,HE (λp c=>hs p (Fh _ c)) h⟩
  have:∀ (m:List (Nat×Nat)),(i,j)∈m->kK xb aZ env N m = true->(match aZ[i]?,aZ[j]? with
   |some x,some y=>(eh xb y.op env (N+16*j)).all λb=>!(cD xb x.op env (N+16*i) b)
   |_,_=>true)=true:=by
   intro m;induction m with
   |nil=>intro h _;simp at h
   |cons q m ih=>
    intro d a;obtain⟨e,f⟩:=q;simp only[kK,cd]at a;grind
  grind
theorem ZC{l:List (cb×a7)}{p:Nat×Nat}(h:p∈k' l):p∈r7 l:=by
 unfold r7;grind
theorem cu.om{fY:List (Nat×Nat)}{env:Env}{J:a8}{Q:Exit->Env->a8->Nat->Prop}(h:w3 xb P aZ N env J (λe s=>kK xb aZ e N fY=true/\Q .normal e s (N+16*aZ.length))):cu P nt kk (.om aZ fY) env J N Q:=by
 intro code v aC φ S a w F R;obtain⟨id,ops,rfl,hres,B,A,rfl⟩:=R8 v;have c:=xV hres;simp at c;obtain⟨E,T,G,W,j,cX,t0,y,q⟩:=G9 h;refine wp_region_any A ?_;refine WW (aC:=aC) (nt:=nt) (MW c B j (HE (λp D=>ZC D) y)) j hres (λi o f=>by simp[f]) (λφ S a w R'=>⟨φ,S,_,_,_,q,R'⟩) ops.size _ φ S env J a _ ?_ ?_
 . have:=List.countP_le_length (p:=λx:Bool=>x==false) (l:=(Array.replicate ops.size false).toList);grind
 . have R':Rel aC nt φ S env J (lt N) a {w with drawn:=w.drawn+1}:=R.drew;refine⟨R'.more λb u=>by simp[used,u],by simp[c],λi z af=>?_,λt _=>by rw[cX],λt i o f af=>?_,λb _=>by rw[t0],λb i z af=>?_⟩
   . simp_all
   . exfalso;simp[Array.getElem?_replicate]at af;split at af<;>simp at af
   simp_all
end
end
section
open Go
def Ea(P:Program)(c:Code)(Q:Exit->Act->World->Prop)(a:Act)(w:World):Prop:=
 ∀(b:Frame) (k:List Item) (cs:List Frame),∃e d w',Q e d w'/\Arrives P (lone (b.at a (.code c:: .inLoop c::k)) cs w) b k cs e d w'
variable{w:World}{P:Program}{Q:Exit->Act->World->Prop}{a:Act}{c:dy}{S:dQ}{φ:dE}{aC:Ctx}{D:Nat->Type}
theorem ZD{c:Code}(h:c.wp P (Exit.then (Ea P c Q) Q) a w):Ea P c Q a w:=by
 intro b k cs;obtain⟨e,g,i,f,d⟩:=h b (.inLoop c::k) cs;cases e with
 |normal=>
  obtain⟨m,j,p,o,n⟩:=f b k cs;exact⟨m,j,p,o,.of_steps (Steps.trans d (.one step_inLoop)) n⟩
 |exit id=>exact⟨_,g,i,f,.pass (x:= .inLoop c) rfl (λ_ _=>.inl (by simp)) d⟩
 |goto l=>exact⟨_,g,i,f,.pass (x:= .inLoop c) rfl (λ_ _=>.inl (by simp)) d⟩
 |ret=>exact⟨_,g,i,f,.pass (x:= .inLoop c) rfl (λ_ _=>.inl (by simp)) d⟩
 |panic q=>exact⟨_,g,i,f,.pass (x:= .inLoop c) rfl (λ_ _=>.inl (by simp)) d⟩
 |outgrown=>exact⟨_,g,i,f,.pass (x:= .inLoop c) rfl (λ_ _=>.inl (by simp)) d⟩
theorem Zs{c:Code}(h:Ea P c Q a w):(Code.loop c).wp P Q a w:=by
 intro b k cs;obtain⟨e,d,w',g,f⟩:=h b k cs;exact⟨e,d,w',g,.of_steps (.one step_loop) f⟩
section
variable {P:Program}{nt kk:Nat}{env env':Env}{J J':a8}{N N':Nat}{Q mY:Exit->Env->a8->Nat->Prop}
def l8(P:Program)(nt kk:Nat)(c:dy)(env:Env)(J:a8)(N:Nat)(Q:Exit->Env->a8->Nat->Prop):Prop:=
 ∀code,resolve P nt code=some c->∀aC φ S a w,aC.k=kk->Rel aC nt φ S env J (lt N) a w->Ea P code (λe b w'=>∃d bQ env' J' N',Q e env' J' N'/\Rel aC nt d bQ env' J' (lt N') b w') a w
theorem l8.round(h:cu P nt kk c env J N (andThen (λenv J N=>l8 P nt kk c env J N Q) Q)):l8 P nt kk c env J N Q:=by
 intro code f aC φ S a w j R;refine ZD (wp_mono (h code f aC φ S a w j R) ?_)
 rintro e q w' ⟨p,bQ,env',J',N',o,R'⟩
 cases e with
 |normal=>exact o code f aC p bQ q w' j R'
 |_=>exact⟨p,bQ,env',J',N',o,R'⟩
theorem cu.agj(h:l8 P nt kk c env J N Q):cu P nt kk (.loop c) env J N Q:=by
 intro code f aC φ S a w j R;obtain⟨b,rfl,e⟩:=Xq f;exact Zs (h b e aC φ S a w j R)
def Conv(kk N:Nat)(env:Env)(J:a8)(N':Nat)(env':Env)(J':a8):Prop:=
 ∀aC nt φ S a w,aC.k=kk->Rel aC nt φ S env J (lt N) a w->∃b bQ,Rel aC nt b bQ env' J' (lt N') a w
theorem Conv.refl:Conv kk N env J N env J:=λ_ _ φ S _ _ _ R=>⟨φ,S,R⟩
theorem Conv.trans{c e f:Nat}{aK j c9:Env}{s1 p q:a8}(h:Conv kk c aK s1 e j p)(k:Conv kk e j p f c9 q):Conv kk c aK s1 f c9 q:=
 λaC nt φ S a w o R=>let⟨t,bQ,R'⟩:=h aC nt φ S a w o R;k aC nt t bQ a w o R'
theorem cu.conv(f:Conv kk N env J N' env' J')(h:cu P nt kk c env' J' N' Q):cu P nt kk c env J N Q:=
 λcode j aC φ S a w e R=>let⟨o,bQ,R'⟩:=f aC nt φ S a w e R;h code j aC o bQ a w e R'
theorem l8.conv(f:Conv kk N env J N' env' J')(h:l8 P nt kk c env' J' N' Q):l8 P nt kk c env J N Q:=
 λcode j aC φ S a w e R=>let⟨o,bQ,R'⟩:=f aC nt φ S a w e R;h code j aC o bQ a w e R'
theorem Conv.tidy(ks bs:a7)(bT:bs.Nodup)(c:keeps kk bs=true):Conv kk N env J bs.length (nH bs env ks) (fp bs J 0 bs):=
 λaC nt φ S a w e R=>let⟨f,R'⟩:=R.tidy ks bs bT (by rw[e];exact c);⟨f,S,R'⟩
theorem Conv.freeze(b0:Nat){c:Nat}{es:List (List T)}(e:aW J b0=some (.arr c es)):Conv kk N env J N (qT b0 c es env) (mH b0 c es J):=
 λaC nt φ S a w f R=>⟨φ,_,R.freeze e⟩
def dx(c a:C):Prop:=(∀φ w S v,bm φ w S c v->bm φ w S a v)/\∀n,c.aA n=true->a.aA n=true
theorem dx.refl(c:C):dx c c:=⟨λ_ _ _ _ h=>h,λ_ h=>h⟩
theorem dx.dead(c:C):dx c .dead:=⟨λ_ _ _ _ h=>h.jh,λ_ _=>rfl⟩
theorem dx.ay:dx .ay (.t (.slice [])):=by
 refine⟨?_,λ_ _=>rfl⟩
 rintro φ w S v ⟨a,rfl⟩
 exact cf.slice [] a 0 0 0 0 (λ_ _=>undef) (by simp) (by simp) (by simp) (by simp) (by simp) (by simp)
inductive gi:V->V->Prop
 |c {x y}:dx x y->gi (.c x) (.c y)
 |agg {xs ys}:a' dx xs ys->gi (.agg xs) (.agg ys)
 |aY (xs ys:List V) (af:xs.length=ys.length) (h:∀(i:Nat) x y,xs[i]?=some x->ys[i]?=some y->gi x y):gi (.aY xs) (.aY ys)
theorem a'.comp{α e f:Type}{R:α->e->Prop}{R':e->f->Prop}{j:α->f->Prop}(h:∀a b c,R a b->R' b c->j a c):∀{l:List α} {m:List e} {k:List f},a' R l m->a' R' m k->a' j l k
 |[],[],[],_,_=>.nil
 |_::_,_::_,_::_,.cons h1 o,.cons p q=>.cons (h _ _ _ h1 p) (a'.comp h o q)
theorem a'.flip{α c:Type}{R:α->c->Prop}{R':c->α->Prop}{l:List α}{m:List c}(h:a' R l m)(k:∀a b,R a b->R' b a):a' R' m l:=by
 induction h with
 |nil=>exact .nil
 |cons h _ ih=>exact .cons (k _ _ h) ih
theorem O8{n:Nat->Bool}:∀{vs:List V},(∀(i:Nat) v,vs[i]?=some v->v.aA n=true)->V.aA.V.dF n vs=true
 |[],_=>rfl
 |v::vs,h=>by simp only[V.aA.V.dF,cd];exact⟨h 0 v rfl,O8 λi x a=>h (i+1) x (by simpa using a)⟩
theorem gi.FJ{v j:V}(h:gi v j):∀{x},cm φ w S v x->cm φ w S j x:=by
 induction h with
 |c h=>intro x e;cases e with|c e=>exact .c (h.1 _ _ _ _ e)
 |agg h=>
  intro x e;cases e with
  |agg e=>exact .agg (a'.comp (λa b c h1 f=>h1.1 _ _ _ _ f) (h.flip (R':=λb a=>dx a b) λ_ _ h=>h) e)
 |aY xs ys af h ih=>
  intro x e;cases e with
  |aY _ o p f=>
   refine .aY _ o (by omega) ?_;grind
theorem gi.aA{v o:V}(h:gi v o)(n:Nat->Bool):v.aA n=true->o.aA n=true:=by
 induction h with
 |c h=>intro e;exact h.2 n e
 | @agg xs ys h=>
  intro e;simp only[V.aA,cY]at e⊢;intro c q;obtain⟨i,f,rfl⟩:=eZ q;obtain⟨a,p,hs⟩:=(h.flip (R':=λb a=>dx a b) λ_ _ h=>h).get (eH f);exact hs.2 n (e a (eM p))
 |aY xs ys af h ih=>
  intro e;simp only[V.aA]at e⊢;refine O8 λi v j=>?_;have f:i<xs.length:=by rw[af];exact(c5.1 j).1
  exact ih i _ _ (eH f) j (nC e (eH f))
inductive jX:bO->bO->Prop
 |box {xs ys}:a' dx xs ys->jX (.box xs) (.box ys)
 |arr {sz es}:jX (.arr sz es) (.arr sz es)
 |same {x}:jX x x
 |b8 {E c wY}:dx c wY->jX (.b8 E c) (.b8 E wY)
 |cA {sz es i o c wY}:dx c wY->jX (.cA sz es i o c) (.cA sz es i o wY)
def NS(env env':Env):Prop:=∀k g a,look env' k=some (g,a)->∃v,look env k=some (g,v)/\gi v a
def rX(J J':a8):Prop:=∀b a,aW J' b=some a->∃x,aW J b=some x/\jX x a
theorem jX.FF{b:Nat}{x o:bO}(h:jX x o)(f:c1 φ w S b x):c1 φ w S b o:=by
 cases h with
 |arr=>exact f
 |same=>exact f
 |b8 h=>
  obtain⟨h0,⟨p,v,h1,e,j⟩,q⟩:=f;exact⟨h0,⟨p,v,h1,e,h.1 _ _ _ _ j⟩,q⟩
 |cA h=>
  obtain⟨h1,⟨vs,E,t,u,y,v,z,A⟩,B⟩:=f;exact⟨h1,⟨vs,E,t,u,y,v,z,h.1 _ _ _ _ A⟩,B⟩
 |box h=>
  obtain⟨h0,vs,E,h1,e,j⟩:=f;exact⟨h0,vs,E,h1,a'.comp (λa b c h1 e=>h1.1 _ _ _ _ e) (h.flip (R':=λb a=>dx a b) λ_ _ h=>h) e,j⟩
theorem jX.aA{x c:bO}(h:jX x c)(n:Nat->Bool)(a:x.aA n=true):c.aA n=true:=by
 cases h with
 |arr=>exact a
 |same=>exact a
 |b8 h=>exact h.2 n a
 |cA h=>exact h.2 n a
 | @box xs ys h=>
  have:=gi.aA (.agg h) n (by simpa[V.aA,bO.aA]using a);simpa[V.aA,bO.aA]using this
theorem Rel.weaken{n:Nat->Bool}(R:Rel aC nt φ S env J n a w)(he:NS env env')(hs:rX J J'):Rel aC nt φ S env' J' n a w:=by
 refine⟨⟨λb x e=>?_,λb j x y e p=>?_,R.bP.st⟩,λk g v af al=>?_,λk g v af al=>?_,λk g v af al=>?_,λb x e=>?_,R.size,R.defers,R.ext,λb x e=>?_,R.fix,R.fQ⟩
 . obtain⟨f,h1,c⟩:=hs b x e;exact c.FF (R.bP.blk b f h1)
 . obtain⟨f,h1,c⟩:=hs b x e;obtain⟨t,q,u⟩:=hs j y p;exact R.bP.inj b j f t h1 q
 . obtain⟨v0,h1,c⟩:=he k g v af;obtain⟨x,e,o⟩:=R.gF k g v0 h1 al;exact⟨x,e,c.FJ o⟩
 . obtain⟨v0,h1,c⟩:=he k g v af;exact R.hI k g v0 h1 al
 . obtain⟨v0,h1,c⟩:=he k g v af;exact c.aA n (R.gE k g v0 h1 al)
 . obtain⟨f,h1,c⟩:=hs b x e;exact⟨(R.dN b f h1).1,c.aA n (R.dN b f h1).2⟩
 . obtain⟨f,h1,c⟩:=hs b x e;exact R.own b f h1
theorem Conv.weaken(he:NS env env')(hs:rX J J'):Conv kk N env J N env' J':=λaC nt φ S a w _ R=>⟨φ,S,R.weaken he hs⟩
theorem Rel.E6(R:Rel aC nt φ S env J (lt N) a w){sz:Nat}(z:0<sz)(B:aC.k<=N):
 Rel aC nt (fF φ N (0,0)) S env (da J N (.arr sz [])) (lt (N+1)) a w:=by
 have A:∀b,lt N b=true->fF φ N (0,0) b=φ b:=by
  intro b j;simp only[lt,dn]at j;simp only[fF];grind
 have o:∀b,lt N b=true->lt (N+1) b=true:=λb j=>LB (by omega) j;have e:=R.zf A;have cq:(fF φ N (0,0) N).2=0:=by simp[fF]
 have f:∀b x,aW (da J N (.arr sz [])) b=some x->(b=N/\x= .arr sz [])\/(b≠N/\aW J b=some x):=by
  intro b x c;rw[cV]at c;grind
 refine⟨⟨λb x c=>?_,λb q x y c p u h0 t=>?_,e.bP.st⟩,e.gF,e.hI,λk g v af al=>V.hh o (e.gE k g v af al),λb x c=>?_,e.size,e.defers,e.ext,λb x c h0=>?_,e.fix,λb j=>by simp only[lt,dn];omega⟩
 . rcases f b x c with⟨rfl,rfl⟩|⟨_,c⟩
   . exact⟨by simp,by simp,by simp,z,λh=>absurd cq h⟩
   . exact e.bP.blk b x c
 . rcases f b x c with⟨rfl,rfl⟩|⟨_,c⟩
   . exact absurd cq h0
   . rcases f q y p with⟨rfl,rfl⟩|⟨_,p⟩
     . exact absurd cq t
     . exact e.bP.inj b q x y c p u h0 t
 . rcases f b x c with⟨rfl,rfl⟩|⟨_,c⟩
   . exact⟨by simp[lt],rfl⟩
   . exact⟨o b (e.dN b x c).1,bO.hh o (e.dN b x c).2⟩
 . rcases f b x c with⟨rfl,rfl⟩|⟨_,c⟩
   . exact absurd cq h0
   . exact e.own b x c h0
end
inductive aJ where
 |bool
 |int (k:IntKind)
 |str
 |slice (t:aJ)
 |nm (n:Nat)
def aJ.beq:aJ->aJ->Bool
 |.bool,.bool=>true
 |.int k,.int a=>decide (k=a)
 |.str,.str=>true
 |.slice r,.slice c=>aJ.beq r c
 |.nm n,.nm m=>Nat.beq n m
 |_,_=>false
theorem aJ.beq_eq:∀{a b:aJ},aJ.beq a b=true->a=b
 |.bool,.bool,_=>rfl
 |.int k,.int c,h=>by simp[aJ.beq]at h;rw[h]
 |.str,.str,_=>rfl
 |.slice r,.slice e,h=>by simp only[aJ.beq]at h;rw[aJ.beq_eq h]
 |.nm n,.nm m,h=>by simp only[aJ.beq]at h;rw[Nat.eq_of_beq_eq_true h]
 |.bool,.int _,h|.bool,.str,h|.bool,.slice _,h|.bool,.nm _,h=>by simp[aJ.beq]at h
 |.int _,.bool,h|.int _,.str,h|.int _,.slice _,h|.int _,.nm _,h=>by simp[aJ.beq]at h
 |.str,.int _,h|.str,.bool,h|.str,.slice _,h|.str,.nm _,h=>by simp[aJ.beq]at h
 |.slice _,.int _,h|.slice _,.str,h|.slice _,.bool,h|.slice _,.nm _,h=>by simp[aJ.beq]at h
 |.nm _,.int _,h|.nm _,.str,h|.nm _,.bool,h|.nm _,.slice _,h=>by simp[aJ.beq]at h
theorem aJ.beq_refl:∀(a:aJ),aJ.beq a a=true
 |.bool=>rfl
 |.int k=>by simp[aJ.beq]
 |.str=>rfl
 |.slice r=>by simp only[aJ.beq];exact aJ.beq_refl r
 |.nm n=>by simp only[aJ.beq];exact yp n
def aJ.dec(a b:aJ):Decidable (a=b):=
 match h:aJ.beq a b with
 |true=>.isTrue (aJ.beq_eq h)
 |false=>.isFalse λe=>by rw[e,aJ.beq_refl]at h;cases h
def aJ.den(D:Nat->Type):aJ->Type
 |.bool=>Bool
 |.int _=>Int
 |.str=>aj
 |.slice t=>List (aJ.den D t)
 |.nm n=>D n
structure Cell (D:Nat->Type) where
 ty:aJ
 val:ty.den D
def Cell.as{D:Nat->Type}(t:aJ)(c:Cell D):Option (t.den D):=
 match aJ.dec c.ty t with
 |.isTrue h=>some (Eq.rec (motive:=λt _=>aJ.den D t) c.val h)
 |.isFalse _=>none
variable{t:aJ}
theorem Cell.ku{c:Cell D}{x:t.den D}(h:c.as t=some x):c=⟨t,x⟩:=by
 obtain⟨u,v⟩:=c;unfold Cell.as at h;split at h
 . grind
 . cases h
theorem Cell.O3{x:t.den D}:Cell.as t (⟨t,x⟩:Cell D)=some x:=by
 unfold Cell.as;split
 . rfl
 grind
def ET(D:Nat->Type)(enc:∀n,D n->List T):(t:aJ)->t.den D->List T
 |.bool,b=>[.bool b]
 |.int k,n=>[.int k n]
 |.str,s=>[.str s]
 |.slice t,l=>[.slice (List.map (ET D enc t) l)]
 |.nm n,x=>enc n x
def QK(D:Nat->Type)(enc:∀n,D n->List T):Cell D->T
 |⟨.bool,b⟩=>.bool b
 |⟨.int k,n⟩=>.int k n
 |⟨.str,s⟩=>.str s
 |⟨.slice t,l⟩=>.slice (List.map (ET D enc t) l)
 |⟨.nm _,_⟩=>.bool false
structure cK where
 D:Nat->Type
 kb:∀n,D n
 oO:∀n,D n->List (Cell D)
 make:∀n,List (Cell D)->Option (D n)
 db:Nat->List aJ
 enc:∀n,D n->List T
 QL:∀n x,enc n x=(oO n x).map (QK D enc)
 mk_eq:∀n l x,make n l=some x->oO n x=l
 RA:∀n x,(oO n x).map Cell.ty=db n
 pos:∀n,0<(db n).length
 Rz:Nat->Option aJ:=λ_=>none
 own:List (List Bool×Nat×aJ):=[]
variable {U:cK}
abbrev cK.C(U:cK):=Cell U.D
abbrev aJ.d(U:cK)(t:aJ):=t.den U.D
def aJ.kb(U:cK):(t:aJ)->t.den U.D
 |.bool=>false
 |.int _=>(0:Int)
 |.str=>([]:aj)
 |.slice t=>([]:List (t.den U.D))
 |.nm n=>U.kb n
def aJ.xy:aJ->Bool
 |.nm _=>true
 |_=>false
def aJ.row(U:cK):(t:aJ)->t.den U.D->List (Cell U.D)
 |.bool,b=>[⟨.bool,b⟩]
 |.int k,n=>[⟨.int k,n⟩]
 |.str,s=>[⟨.str,s⟩]
 |.slice t,l=>[⟨.slice t,l⟩]
 |.nm n,x=>U.oO n x
def aJ.cells(U:cK):aJ->List aJ
 |.nm n=>U.db n
 |t=>[t]
def aJ.sz(U:cK)(t:aJ):Nat:=(t.cells U).length
def jh(U:cK)(t:aJ):List (Cell U.D)->Option (t.den U.D)
 |[c]=>c.as t
 |_=>none
def aJ.mk(U:cK):(t:aJ)->List (Cell U.D)->Option (t.den U.D)
 |.nm n,l=>U.make n l
 |.bool,l=>jh U .bool l
 |.int k,l=>jh U (.int k) l
 |.str,l=>jh U .str l
 |.slice t,l=>jh U (.slice t) l
variable{x:t.den U.D}
theorem C5{l:List (Cell U.D)}(h:jh U t l=some x):l=[⟨t,x⟩]:=by
 unfold jh at h;split at h
 . rw[Cell.ku h]
 . cases h
def Cell.enc(U:cK)(c:Cell U.D):T:=QK U.D U.enc c
def aJ.enc(U:cK)(t:aJ)(x:t.den U.D):List T:=ET U.D U.enc t x
theorem aJ.uD:t.enc U x=(t.row U x).map (Cell.enc U):=by
 cases t<;>first|rfl|skip
 case nm n=>exact U.QL n x
theorem aJ.agK:(t.row U x).map Cell.ty=t.cells U:=by
 cases t<;>first|rfl|skip
 case nm n=>exact U.RA n x
theorem aJ.Ru:(t.row U x).length=t.sz U:=by
 rw[<-gy (f:=Cell.ty),aJ.agK];rfl
theorem aJ.sb:(t.enc U x).length=t.sz U:=by
 rw[aJ.uD,gy,aJ.Ru]
theorem aJ.wF:0<t.sz U:=by
 cases t<;>simp[aJ.sz,aJ.cells];exact U.pos _
theorem aJ.E4:∀{t:aJ} {l:List (Cell U.D)} {x:t.den U.D},t.mk U l=some x->t.row U x=l
 |.nm n,l,x,h=>U.mk_eq n l x h
 |.bool,l,x,h=>(C5 (t:= .bool) h).symm
 |.int k,l,x,h=>(C5 (t:= .int k) h).symm
 |.str,l,x,h=>(C5 (t:= .str) h).symm
 |.slice t,l,x,h=>(C5 (t:= .slice t) h).symm
def aJ.at(U:cK)(t:aJ)(l:List (t.den U.D))(i:Nat):t.den U.D:=l.getD i (t.kb U)
theorem zY{l:List (t.den U.D)}{i:Nat}(h:i<l.length):el (l.map (t.enc U)) i=t.enc U (t.at U l i):=by
 simp[el,aJ.at,List.getD,eH h]
end
section
open Go
variable {U:cK}
inductive bl (U:cK) where
 |t (c:Cell U.D)
 |ptr (b o:Nat)
 |cF (b:Nat)(t:aJ)(i o:Nat)
 |dM (t:aJ)(x:t.den U.D)(o:Nat)
 |arr (b:Nat)
 |sub (b n9 len:Nat)
 |pre (b h:Nat)
 |dG (b n9 len:Nat)
 |mp (b:Nat)
 |eg (b:Nat)
 |cG (b:Nat)
 |ay
 |e3
 |e2
 |fn (f:Nat)(caps:a7)
 |dead
inductive bz (U:cK) where
 |c (x:bl U)
 |agg (cs:List (bl U))
 |aY (vs:List (bz U))
inductive cO (U:cK) where
 |box (cs:List (bl U))
 |arr (t:aJ)(l:List (t.den U.D))
 |rows (sz:Nat)(r:List (List (bl U)))
 |set (ks:List aj)
 |buf (E:Nat)(s:aj)
 |b8 (E:Nat)(c:bl U)
 |cA (t:aJ)(l:List (t.den U.D))(i o:Nat)(c:bl U)
abbrev bU(U:cK):=List (Nat×bz U)
abbrev bf(U:cK):=List (Nat×cO U)
abbrev ew:=List (Nat×Nat×Bool)
def aX{α:Type}:List (Nat×α)->Nat->Option α
 |[],_=>none
 |(k,x)::r,i=>match Nat.beq k i with
  |true=>some x
  |false=>aX r i
def cC{α:Type}:List (Nat×α)->Nat->α->List (Nat×α)
 |[],b,x=>[(b,x)]
 |(k,y)::r,b,x=>match Nat.beq k b with
  |true=>(k,x)::r
  |false=>(k,y)::cC r b x
def dl{α:Type}:List (Nat×α)->Nat->List (Nat×α)
 |[],_=>[]
 |(k,y)::r,b=>match Nat.beq k b with
  |true=>dl r b
  |false=>(k,y)::dl r b
theorem cT{a b:Nat}(h:Nat.beq a b=true):a=b:=Nat.eq_of_beq_eq_true h
theorem hE{a b:Nat}(h:Nat.beq a b=false):a≠b:=λe=>by rw[e,yp]at h;cases h
variable{α:Type}
theorem hN(J:List (Nat×α))(b:Nat)(x:α)(i:Nat):aX (cC J b x) i=if b=i then some x else aX J i:=by
 induction J with
 |nil=>
  simp only[cC,aX];cases h:Nat.beq b i with
  |true=>simp[cT h]
  |false=>simp[hE h]
 |cons y r ih=>
  obtain⟨k,y⟩:=y;simp only[cC];cases h:Nat.beq k b with
  |true=>
   have:=cT h;subst this;simp only[aX];cases a:Nat.beq k i with
   |true=>simp[cT a]
   |false=>simp[hE a]
  |false=>
   simp only[aX,ih];grind
theorem n5(J:List (Nat×α))(b i:Nat):aX (dl J b) i=if b=i then none else aX J i:=by
 induction J with
 |nil=>simp[dl,aX]
 |cons y r ih=>
  obtain⟨k,y⟩:=y;simp only[dl];cases h:Nat.beq k b with
  |true=>
   have:=cT h;subst this;simp only[aX,ih];by_cases a:k=i
   . grind
   . rw[ak a,ak a];cases c:Nat.beq k i with
     |true=>exact absurd (cT c) a
     |false=>rfl
  |false=>
   simp only[aX,ih];grind
def Ec:C->Option (bl U)
 |.t (.bool b)=>some (.t ⟨.bool,b⟩)
 |.t (.int k n)=>some (.t ⟨.int k,n⟩)
 |.t (.str s)=>some (.t ⟨.str,s⟩)
 |.ay=>some .ay
 |.e3=>some .e3
 |.e2=>some .e2
 |.dead=>some .dead
 |.fn f []=>some (.fn f [])
 |_=>none
def ox:List C->Option (List (bl U))
 |[]=>some []
 |c::cs=>match Ec c,ox cs with
  |some x,some xs=>some (x::xs)
  |_,_=>none
def wK:V->Option (bz U)
 |.c x=>match Ec x with
  |some y=>some (.c y)
  |none=>none
 |.agg cs=>match ox cs with
  |some ys=>some (.agg ys)
  |none=>none
 |.aY _=>none
def wD(gl:ew):Nat->Option (Nat×Bool)->Nat->Bool
 |0,_,_=>false
 |b+1,gd,k=>match aX gl k with
  |none=>true
  |some a=>match gd with
   |none=>false
   |some g=>(Nat.beq g.1 a.1&&(g.2==a.2))||wD gl b (aX gl g.1) k
def fa(env:bU U)(t:Nat)(b:Bool):Option Bool:=
 match aX env t with
 |some (.c (.t ⟨.bool,x⟩))=>some (match b with|true=>x|false=>!x)
 |_=>none
def lj(gl:ew)(env:bU U):Nat->Option (Nat×Bool)->Option Bool
 |_,none=>some true
 |0,some _=>none
 |a+1,some (t,b)=>match lj gl env a (aX gl t),fa env t b with
  |some x,some y=>some (x&&y)
  |_,_=>none
def ql:Nat:=200
def dd(gl:ew)(gd:Option (Nat×Bool))(env:bU U):aP->Option (bz U)
 |.const v=>wK v
 |.tmp k=>match wD gl ql gd k with
  |true=>aX env k
  |false=>none
def Ed(gl:ew)(gd:Option (Nat×Bool))(env:bU U)(c:aP)(b:Bool):aP->Option (bz U)
 |.const v=>wK v
 |.tmp k=>match wD gl ql gd k with
  |true=>aX env k
  |false=>match c,aX gl k with
   |.tmp d,some (t,a)=>match Nat.beq t d&&(a==b)with
    |true=>aX env k
    |false=>none
   |_,_=>none
def ko(gl:ew)(gd:Option (Nat×Bool))(env:bU U):List aP->Option (List (bz U))
 |[]=>some []
 |x::r=>match dd gl gd env x,ko gl gd env r with
  |some v,some vs=>some (v::vs)
  |_,_=>none
def pF:bz U->Option (List (bl U))
 |.c x=>some [x]
 |.agg cs=>some cs
 |.aY _=>none
def wJ(a:List (bl U))(off:Nat)(cs:List (bl U)):List (bl U):=a.take off++cs++a.drop (off+cs.length)
def zZ(gl:ew)(gd:Option (Nat×Bool))(env:bU U):List (bl U)->List (Nat×Nat×aP)->Option (List (bl U))
 |a,[]=>some a
 |a,(off,n,x)::r=>match dd gl gd env x with
  |none=>none
  |some v=>match pF v with
   |none=>none
   |some cs=>match Nat.beq cs.length n&&Nat.ble (off+n) a.length with
    |true=>zZ gl gd env (wJ a off cs) r
    |false=>none
def bl.toT:bl U->Option T
 |.t c=>match c.ty.xy with
  |true=>none
  |false=>some (c.enc U)
 |.ay=>some (.slice [])
 |_=>none
def hT:List (bl U)->Option (List T)
 |[]=>some []
 |c::cs=>match c.toT,hT cs with
  |some t,some ts=>some (t::ts)
  |_,_=>none
def vM(gl:ew)(gd:Option (Nat×Bool))(env:bU U)(sz:Nat):List (List (bl U))->List (Nat×aP)->Option (List (List (bl U)))
 |rows,[]=>some rows
 |rows,(i,x)::r=>match dd gl gd env x with
  |none=>none
  |some v=>match pF v with
   |none=>none
   |some cs=>match hT cs with
    |none=>none
    |some _=>match Nat.beq cs.length sz&&Nat.ble (i+1) rows.length with
     |true=>vM gl gd env sz (rows.set i cs) r
     |false=>none
inductive fK (U:cK) where
 |ty (t:aJ)(l:List (t.den U.D))
 |rows (r:List (List (bl U)))
 |nil
def fK.len:fK U->Nat
 |.ty _ l=>l.length
 |.rows r=>r.length
 |.nil=>0
def iJ:List aJ->List (bl U)->Option (List (Cell U.D))
 |[],[]=>some []
 |t::ts,.t c::cs=>match iJ ts cs with
  |some l=>some (c::l)
  |none=>none
 |.slice t::ts,.ay::cs=>match iJ ts cs with
  |some l=>some (⟨.slice t,([]:List (t.den U.D))⟩::l)
  |none=>none
 |_,_=>none
def qa(U:cK)(t:aJ)(cs:List (bl U)):Option (t.den U.D):=
 match iJ (t.cells U) cs with
 |some l=>t.mk U l
 |none=>none
def l6(U:cK)(t:aJ):List (List (bl U))->Option (List (t.den U.D))
 |[]=>some []
 |r::a=>match qa U t r,l6 U t a with
  |some x,some xs=>some (x::xs)
  |_,_=>none
def fK.as(t:aJ):fK U->Option (List (t.den U.D))
 |.ty u l=>Cell.as (.slice t) ⟨.slice u,l⟩
 |.rows r=>l6 U t r
 |.nil=>some []
def fK.join:fK U->fK U->Option (fK U)
 |.nil,y=>some y
 |.ty t l,y=>match y.as t with
  |some a=>some (.ty t (l++a))
  |none=>none
 |.rows r,.ty t l=>match l6 U t r with
  |some c=>some (.ty t (c++l))
  |none=>none
 |.rows r,.rows e=>some (.rows (r++e))
 |.rows r,.nil=>some (.rows r)
def fK.blk(sz:Nat):fK U->Option (cO U)
 |.ty t l=>match Nat.beq (t.sz U) sz with
  |true=>some (.arr t l)
  |false=>none
 |.rows r=>match r.all λx=>Nat.beq x.length sz with
  |true=>some (.rows sz r)
  |false=>none
 |.nil=>some (.rows sz [])
def rN(J:bf U):bz U->Option (fK U×Option Nat)
 |.c (.t ⟨.slice t,l⟩)=>some (.ty t l,none)
 |.c .ay=>some (.nil,none)
 |.c (.arr b)=>match aX J b with
  |some (.arr t l)=>some (.ty t l,some b)
  |some (.rows _ r)=>some (.rows r,some b)
  |_=>none
 |_=>none
def cO.dc:cO U->Option (Nat×Nat)
 |.box _=>none
 |.arr t l=>some (t.sz U,l.length)
 |.rows sz r=>some (sz,r.length)
 |.set _=>none
 |.buf _ s=>some (1,s.length)
 |.b8 _ _=>none
 |.cA t l _ _ _=>some (t.sz U,l.length)
def RM(J:bf U)(b sz:Nat):Bool:=
 match aX J b with
 |some x=>(match x.dc with|some p=>Nat.beq p.1 sz|none=>false)
 |none=>false
def room(bytes n:Nat):Bool:=decide ((2*n+192)*bytes<=j8)&&decide (n<=eG)
def RJ:BinOp->IntKind->IntKind->Int->Int->Option (Bool×Cell U.D)
 |.add,k,c,a,b=>if k=c then some (true,⟨.int k,k.wrap (a+b)⟩)else none
 |.sub,k,c,a,b=>if k=c then some (true,⟨.int k,k.wrap (a-b)⟩)else none
 |.mul,k,c,a,b=>if k=c then some (true,⟨.int k,k.wrap (a*b)⟩)else none
 |.quo,k,c,a,b=>if k=c then some (!decide (b=0),⟨.int k,k.wrap (a.tdiv b)⟩)else none
 |.rem,k,c,a,b=>if k=c then some (!decide (b=0),⟨.int k,a.tmod b⟩)else none
 |.and,k,c,a,b=>if k=c then some (true,⟨.int k,k.wrap (BitVec.ofInt k.bits a &&& BitVec.ofInt k.bits b).toNat⟩)else none
 |.or,k,c,a,b=>if k=c then some (true,⟨.int k,k.wrap (BitVec.ofInt k.bits a ||| BitVec.ofInt k.bits b).toNat⟩)else none
 |.xor,k,c,a,b=>if k=c then some (true,⟨.int k,k.wrap (BitVec.ofInt k.bits a ^^^ BitVec.ofInt k.bits b).toNat⟩)else none
 |.andNot,k,c,a,b=>if k=c then some (true,⟨.int k,k.wrap (BitVec.ofInt k.bits a &&& ~~~ BitVec.ofInt k.bits b).toNat⟩)else none
 |.shl,k,_,a,b=>some (decide (0<=b),⟨.int k,k.wrap (a*2^min b.toNat k.bits)⟩)
 |.shr,k,_,a,b=>some (decide (0<=b),⟨.int k,a.fdiv (2^min b.toNat k.bits)⟩)
 |.eql,k,c,a,b=>if k=c then some (true,⟨.bool,decide (a=b)⟩)else none
 |.neq,k,c,a,b=>if k=c then some (true,⟨.bool,!decide (a=b)⟩)else none
 |.lss,k,c,a,b=>if k=c then some (true,⟨.bool,decide (a<b)⟩)else none
 |.leq,k,c,a,b=>if k=c then some (true,⟨.bool,decide (a<=b)⟩)else none
 |.gtr,k,c,a,b=>if k=c then some (true,⟨.bool,decide (b<a)⟩)else none
 |.geq,k,c,a,b=>if k=c then some (true,⟨.bool,decide (b<=a)⟩)else none
def RK:BinOp->aj->aj->Option (Bool×Cell U.D)
 |.add,a,b=>some (decide (a.length+b.length<=eC),⟨.str,a++b⟩)
 |.eql,a,b=>some (true,⟨.bool,decide (a=b)⟩)
 |.neq,a,b=>some (true,⟨.bool,!decide (a=b)⟩)
 |.lss,a,b=>some (true,⟨.bool,Op.bytesLess a b⟩)
 |.leq,a,b=>some (true,⟨.bool,Op.bytesLess a b||decide (a=b)⟩)
 |.gtr,a,b=>some (true,⟨.bool,!(Op.bytesLess a b||decide (a=b))⟩)
 |.geq,a,b=>some (true,⟨.bool,!(Op.bytesLess a b)⟩)
 |_,_,_=>none
def Ii(op:BinOp):Cell U.D->Cell U.D->Option (Bool×Cell U.D)
 |⟨.int k,a⟩,⟨.int c,b⟩=>RJ op k c a b
 |⟨.str,a⟩,⟨.str,b⟩=>RK op a b
 |_,_=>none
def ft(a b:Bool):Bool:=a==b
def hJ(a b:Int):Bool:=decide (a=b)
def jz(a b:aj):Bool:=decide (a=b)
def aH(m:Int)(n:Nat):Bool:=decide (0<=m)&&decide (m.toNat<n)
def dS(b a:Int)(n:Nat):Bool:=decide (0<=b)&&(decide (b<=a)&&decide (a<=n))
def d'{α:Type}(l:List α)(b a:Int):List α:=(l.take a.toNat).drop b.toNat
def iv(a b:Int):Int:=Max.max a b
def je(a b:Int):Int:=Min.min a b
def fq(s:aj)(m:Int):Int:=((s.getD m.toNat 0).toNat:Int)
def mz(m:Int):aj:=(Utf8.encode m).data.toList
def bW(k:IntKind)(m:Int):Int:=k.wrap m
def A6(a b:aj):aj:=a++b
def Im:Nat->Cell U.D->Cell U.D->Option Bool
 |0,⟨.bool,a⟩,⟨.bool,b⟩=>some (ft a b)
 |1,⟨.int k,a⟩,⟨.int c,b⟩=>if k=c then some (hJ a b)else none
 |2,⟨.str,a⟩,⟨.str,b⟩=>some (jz a b)
 |_,_,_=>none
def AM:a7->List (bl U)->List (bl U)->Option Bool
 |[],[],[]=>some true
 |k::ks,.t x::xs,.t y::ys=>match Im k x y,AM ks xs ys with
  |some b,some r=>some (b&&r)
  |_,_=>none
 |_,_,_=>none
def qU(agg:Bool)(n:Nat)(cs:List (bl U))(o:Nat):Option (bz U):=
 match agg with
 |true=>match Nat.ble (o+n) cs.length with
  |true=>some (.agg ((cs.drop o).take n))
  |false=>none
 |false=>match cs[o]? with
  |some c=>some (.c c)
  |none=>none
def n1(gl:ew)(gd:Option (Nat×Bool))(env:bU U):Option aP->Option (Option Int)
 |none=>some none
 |some x=>match dd gl gd env x with
  |some (.c (.t ⟨.int _,n⟩))=>some (some n)
  |_=>none
def AJ:List (bz U)->Option a7
 |[]=>some []
 |.c (.ptr b 0)::r=>match AJ r with
  |some l=>some (b::l)
  |none=>none
 |_=>none
abbrev adK(U:cK):=Option (Bool×bz U×bf U)
def rQ(U:cK)(t:aJ)(l:List (t.den U.D))(i o:Nat)(cs:List (bl U)):Option (List (t.den U.D)):=
 match qa U t (wJ ((t.row U (t.at U l i)).map .t) o cs)with
 |some x=>some (l.set i x)
 |none=>none
def AS(t:aJ):List (bl U)->Option (List (t.den U.D))
 |[]=>some []
 |.t c::r=>match c.as t,AS t r with
  |some x,some l=>some (x::l)
  |_,_=>none
 |_::_=>none
def NT:List (bl U)->Option ((t:aJ)×List (t.den U.D))
 |.t c::r=>match c.ty.xy,AS c.ty (.t c::r)with
  |false,some l=>some ⟨c.ty,l⟩
  |_,_=>none
 |_=>none
def strOf(l:aq):aj:=l.map λm=>UInt8.ofNat m.toNat
def wE(a len n:Nat):Bool:=decide (a+len<=n)
def Rb:List (bl U)->Option (bl U)
 |[.arr b]=>some (.arr b)
 |_=>none
def ct(gl:ew)(gd:Option (Nat×Bool))(env:bU U)(J:bf U)(n:Nat)(o:cJ):adK U:=
 match o with
 |.mov x=>match dd gl gd env x with
  |some v=>some (true,v,J)
  |none=>none
 |.pick c x y=>match dd gl gd env c,Ed gl gd env c true x,Ed gl gd env c false y with
  |some (.c (.t ⟨.bool,b⟩)),some (.c (.t ⟨.bool,p⟩)),some (.c (.t ⟨.bool,q⟩))=>some (true,.c (.t ⟨.bool,bif b then p else q⟩),J)
  |_,_,_=>none
 |.alloc cs=>match ox cs with
  |some xs=>some (true,.c (.ptr n 0),cC J n (.box xs))
  |none=>none
 |.allocA cs=>match ox cs with
  |some xs=>match NT xs with
   |some ⟨t,l⟩=>some (true,.c (.ptr n 0),cC J n (.arr t l))
   |none=>none
  |none=>none
 |.idxP k x i=>match dd gl gd env x,dd gl gd env i with
  |some (.c (.ptr b 0)),some (.c (.t ⟨.int _,m⟩))=>match aX J b with
   |some (.arr t _)=>match Nat.beq (t.sz U) 1 with
    |true=>some (aH m k,.c (.cF b t (Int.toNat m) 0),J)
    |false=>none
   |_=>none
  |_,_=>none
 |.slcP k x d u=>match dd gl gd env x,n1 gl gd env d,n1 gl gd env u with
  |some (.c (.ptr b 0)),some l,some h=>
   some (dS (l.getD 0) (h.getD (k:Int)) k,.c (.sub b (Int.toNat (l.getD 0)) (Int.toNat (h.getD (k:Int))-Int.toNat (l.getD 0))),J)
  |_,_,_=>none
 |.b2s x=>match dd gl gd env x with
  |some (.c (.t ⟨.slice (.int .u8),l⟩))=>some (true,.c (.t ⟨.str,strOf l⟩),J)
  |some (.c .ay)=>some (true,.c (.t ⟨.str,[]⟩),J)
  |some (.c (.arr b))=>match aX J b with
   |some (.arr (.int .u8) l)=>some (true,.c (.t ⟨.str,strOf l⟩),J)
   |_=>none
  |some (.c (.sub b d len))=>match aX J b with
   |some (.arr (.int .u8) l)=>some (wE d len (List.length l),.c (.t ⟨.str,strOf ((l.drop d).take len)⟩),J)
   |_=>none
  |_=>none
 |.allocS e e8=>some (true,.c (.ptr n 0),cC (cC J (n+1) (.buf e8 [])) n (.b8 e (.cG (n+1))))
 |.bsliceT e sz len z parts=>match U.Rz e with
  |none=>none
  |some t=>match ox z with
   |some j=>match hT j with
    |none=>none
    |some _=>match Nat.beq j.length sz with
     |false=>none
     |true=>match vM gl gd env sz (List.replicate len j) parts with
      |some rows=>match l6 U t rows with
       |some l=>some (true,.c (.t ⟨.slice t,l⟩),J)
       |none=>none
      |none=>none
   |none=>none
 |.mkset=>some (true,.c (.mp n),cC J n (.set []))
 |.lkset x k=>match dd gl gd env x,dd gl gd env k with
  |some (.c (.mp b)),some (.c (.t ⟨.str,s⟩))=>match aX J b with
   |some (.set ks)=>some (true,.c (.t ⟨.bool,jd ks s⟩),J)
   |_=>none
  |_,_=>none
 |.upset x k=>match dd gl gd env x,dd gl gd env k with
  |some (.c (.mp b)),some (.c (.t ⟨.str,s⟩))=>match aX J b with
   |some (.set ks)=>some (true,.aY [],cC J b (.set (iR ks s)))
   |_=>none
  |_,_=>none
 |.appendB e bytes x y=>match dd gl gd env x,dd gl gd env y with
  |some (.c (.cG b)),some (.c (.t ⟨.str,s⟩))=>match aX J b with
   |some (.buf E l)=>match Nat.beq E e with
    |true=>some (room bytes (List.length l+List.length s),.c (.cG n),cC (dl J b) n (.buf e (A6 l s)))
    |false=>none
   |_=>none
  |_,_=>none
 |.sdata x=>match dd gl gd env x with
  |some (.c (.cG b))=>some (true,.c (.eg b),J)
  |_=>none
 |.ustr e x k=>match dd gl gd env x,dd gl gd env k with
  |some (.c (.eg b)),some (.c (.t ⟨.int .i64,m⟩))=>match aX J b with
   |some (.buf E l)=>match Nat.beq E e with
    |true=>some (hJ m (List.length l:Int),.c (.t ⟨.str,l⟩),dl J b)
    |false=>none
   |_=>none
  |_,_=>none
 |.box x=>match dd gl gd env x with
  |some v=>match pF v with
   |some cs=>some (true,.c (.ptr n 0),cC J n (.box cs))
   |none=>none
  |none=>none
 |.build z parts=>match ox z with
  |some j=>match zZ gl gd env j parts with
   |some cs=>some (true,.agg cs,J)
   |none=>none
  |none=>none
 |.bslice sz len z parts=>match ox z with
  |some j=>match hT j with
   |none=>none
   |some _=>match Nat.beq j.length sz with
    |false=>none
    |true=>match vM gl gd env sz (List.replicate len j) parts with
     |some rows=>some (true,.c (.arr n),cC J n (.rows sz rows))
     |none=>none
  |none=>none
 |.load agg k x=>match dd gl gd env x with
  |some (.c (.ptr b o))=>match aX J b with
   |some (.box cs)=>match qU agg k cs o with
    |some v=>some (true,v,J)
    |none=>none
   |some (.b8 _ c)=>match agg,o with
    |false,1=>some (true,.c c,J)
    |_,_=>none
   |_=>none
  |some (.c (.cF b t i o))=>match aX J b with
   |some (.arr g l)=>match Cell.as (.slice t) (⟨.slice g,l⟩:Cell U.D)with
    |some l=>match qU agg k ((t.row U (t.at U l i)).map .t) o with
     |some v=>some (decide (i<l.length),v,J)
     |none=>none
    |none=>none
   |some (.cA g l w A c)=>match agg with
    |true=>none
    |false=>match Nat.beq o A with
     |true=>match Nat.beq (t.sz U) (g.sz U)with
      |true=>some (decide (i=w),.c c,J)
      |false=>none
     |false=>match Cell.as (.slice t) (⟨.slice g,l⟩:Cell U.D)with
      |some l=>match qU false k ((t.row U (t.at U l i)).map .t) o with
       |some v=>some (decide (i<l.length),v,J)
       |none=>none
      |none=>none
   |_=>none
  |some (.c (.dM t x o))=>match qU agg k ((t.row U x).map .t) o with
   |some v=>some (true,v,J)
   |none=>none
  |_=>none
 |.store k x v=>match dd gl gd env x,dd gl gd env v with
  |some (.c (.ptr b o)),some v=>match pF v with
   |some cs=>match Nat.beq cs.length k with
    |true=>match aX J b with
     |some (.box ds)=>match Nat.ble (o+k) ds.length with
      |true=>some (true,.aY [],cC J b (.box (wJ ds o cs)))
      |false=>none
     |some (.b8 e _)=>match o,cs with
      |1,[c]=>some (true,.aY [],cC J b (.b8 e c))
      |_,_=>none
     |_=>none
    |false=>none
   |none=>none
  |some (.c (.cF b t i o)),some v=>match pF v with
   |some cs=>match Nat.beq cs.length k&&Nat.ble (o+k) (t.sz U)with
    |true=>match aX J b with
     |some (.arr g l)=>match Cell.as (.slice t) (⟨.slice g,l⟩:Cell U.D)with
      |some l=>match Rb cs with
       |some c=>some (decide (i<l.length),.aY [],cC J b (.cA t l i o c))
       |none=>match rQ U t l i o cs with
        |some G=>some (decide (i<l.length),.aY [],cC J b (.arr t G))
        |none=>none
      |none=>none
     |some (.cA g l w A I)=>match cs with
      |[c]=>match Nat.beq o A with
       |true=>match Nat.beq (t.sz U) (g.sz U)with
        |true=>some (decide (i=w),.aY [],cC J b (.cA g l w A c))
        |false=>none
       |false=>match Cell.as (.slice t) (⟨.slice g,l⟩:Cell U.D)with
        |some l=>match rQ U t l i o [c]with
         |some G=>some (decide (i<l.length),.aY [],cC J b (.cA t G w A I))
         |none=>none
        |none=>none
      |_=>none
     |_=>none
    |false=>none
   |none=>none
  |_,_=>none
 |.nilCheck x=>match dd gl gd env x with
  |some (.c (.ptr b o))=>some (true,.c (.ptr b o),J)
  |some (.c (.cF b t i o))=>some (true,.c (.cF b t i o),J)
  |some (.c (.dM t x o))=>some (true,.c (.dM t x o),J)
  |_=>none
 |.bin op x y=>match dd gl gd env x,dd gl gd env y with
  |some (.c (.t p)),some (.c (.t q))=>match Ii op p q with
   |some (c,r)=>some (c,.c (.t r),J)
   |none=>none
  |_,_=>none
 |.eqAgg neg ks x y=>match dd gl gd env x,dd gl gd env y with
  |some (.agg p),some (.agg q)=>match AM ks p q with
   |some r=>some (true,.c (.t ⟨.bool,match neg with|true=>!r|false=>r⟩),J)
   |none=>none
  |_,_=>none
 |.eqBool neg x y=>match dd gl gd env x,dd gl gd env y with
  |some (.c (.t ⟨.bool,p⟩)),some (.c (.t ⟨.bool,q⟩))=>some (true,.c (.t ⟨.bool,match neg with|true=>!(ft p q)|false=>ft p q⟩),J)
  |_,_=>none
 |.not x=>match dd gl gd env x with
  |some (.c (.t ⟨.bool,b⟩))=>some (true,.c (.t ⟨.bool,!b⟩),J)
  |_=>none
 |.conv k x=>match dd gl gd env x with
  |some (.c (.t ⟨.int _,m⟩))=>some (true,.c (.t ⟨.int k,bW k m⟩),J)
  |_=>none
 |.i2s x=>match dd gl gd env x with
  |some (.c (.t ⟨.int _,m⟩))=>some (true,.c (.t ⟨.str,mz m⟩),J)
  |_=>none
 |.s2s x=>match dd gl gd env x with
  |some (.c (.t ⟨.str,s⟩))=>some (true,.c (.t ⟨.str,s⟩),J)
  |_=>none
 |.fldA off x=>match dd gl gd env x with
  |some (.c (.ptr b o))=>some (true,.c (.ptr b (o+off)),J)
  |some (.c (.cF b t i o))=>some (true,.c (.cF b t i (o+off)),J)
  |some (.c (.dM t x o))=>some (true,.c (.dM t x (o+off)),J)
  |_=>none
 |.fld agg off k x=>match dd gl gd env x with
  |some (.agg cs)=>match qU agg k cs off with
   |some v=>some (true,v,J)
   |none=>none
  |_=>none
 |.idxA sz x i=>match dd gl gd env x,dd gl gd env i with
  |some (.c (.t ⟨.slice t,l⟩)),some (.c (.t ⟨.int _,m⟩))=>match Nat.beq (t.sz U) sz with
   |true=>some (aH m l.length,.c (.dM t (t.at U l (Int.toNat m)) 0),J)
   |false=>none
  |some (.c (.arr b)),some (.c (.t ⟨.int _,m⟩))=>match aX J b with
   |some (.arr t l)=>match Nat.beq (t.sz U) sz with
    |true=>some (aH m l.length,.c (.cF b t (Int.toNat m) 0),J)
    |false=>none
   |_=>none
  |_,_=>none
 |.idxS x i=>match dd gl gd env x,dd gl gd env i with
  |some (.c (.t ⟨.str,s⟩)),some (.c (.t ⟨.int _,m⟩))=>some (aH m s.length,.c (.t ⟨.int .u8,fq s m⟩),J)
  |_,_=>none
 |.slcS x d u=>match dd gl gd env x,n1 gl gd env d,n1 gl gd env u with
  |some (.c (.t ⟨.str,s⟩)),some l,some h=>
   some (dS (l.getD 0) (h.getD (s.length:Int)) s.length,.c (.t ⟨.str,d' s (l.getD 0) (h.getD (s.length:Int))⟩),J)
  |_,_,_=>none
 |.slc sz x d u=>match dd gl gd env x,n1 gl gd env d,n1 gl gd env u with
  |some (.c (.t ⟨.slice t,s⟩)),some l,some h=>match Nat.beq (t.sz U) sz with
   |true=>some (dS (l.getD 0) (h.getD (s.length:Int)) s.length,.c (.t ⟨.slice t,d' s (l.getD 0) (h.getD (s.length:Int))⟩),J)
   |false=>none
  |some (.c (.arr b)),some none,some h=>match aX J b with
   |some (.arr t s)=>match Nat.beq (t.sz U) sz with
    |true=>some (dS 0 (h.getD (s.length:Int)) s.length,.c (.pre b (Int.toNat (h.getD (s.length:Int)))),J)
    |false=>none
   |_=>none
  |some (.c (.arr b)),some (some d),some h=>match aX J b with
   |some (.arr t s)=>match Nat.beq (t.sz U) sz with
    |true=>some (dS d (h.getD (s.length:Int)) s.length,.c (.dG b (Int.toNat d) (Int.toNat (h.getD (s.length:Int))-Int.toNat d)),J)
    |false=>none
   |_=>none
  |_,_,_=>none
 |.slc0 x=>match dd gl gd env x with
  |some (.c (.t ⟨.slice _,_⟩))=>some (true,.c .ay,J)
  |some (.c .ay)=>some (true,.c .ay,J)
  |some (.c (.arr _))=>some (true,.c .ay,J)
  |_=>none
 |.mkfn f caps=>match ko gl gd env caps with
  |some vs=>match AJ vs with
   |some l=>some (true,.c (.fn f l),J)
   |none=>none
  |none=>none
 |.ext x i=>match dd gl gd env x with
  |some (.aY vs)=>match vs[i]? with
   |some v=>some (true,v,J)
   |none=>none
  |_=>none
 |.len str x=>match str,dd gl gd env x with
  |true,some (.c (.t ⟨.str,s⟩))=>some (true,.c (.t ⟨.int .i64,(s.length:Int)⟩),J)
  |false,some (.c (.cG b))=>match aX J b with
   |some (.buf _ s)=>some (true,.c (.t ⟨.int .i64,(s.length:Int)⟩),J)
   |_=>none
  |false,some v=>match rN J v with
   |some e=>some (true,.c (.t ⟨.int .i64,(e.1.len:Int)⟩),J)
   |none=>none
  |_,_=>none
 |.append sz bytes x y=>match dd gl gd env x,dd gl gd env y with
  |some (.c .ay),some v=>match rN J v with
   |some (B,_)=>match B.blk sz with
    |some blk=>some (room bytes B.len,.c (.arr n),cC J n blk)
    |none=>none
   |none=>none
  |some (.c (.arr b)),some v=>match rN J (.c (.arr b)),rN J v with
   |some (K,_),some (B,L)=>match (match L with|some C=>Nat.beq C b|none=>false)with
    |true=>none
    |false=>match RM J b sz with
     |false=>none
     |true=>match K.join B with
      |some H=>match H.blk sz with
       |some blk=>some (room bytes H.len,.c (.arr n),cC (dl J b) n blk)
       |none=>none
      |none=>none
   |_,_=>none
  |some (.c (.pre b h)),some (.c (.dG C d len))=>match Nat.beq b C with
   |true=>match aX J b with
    |some (.arr t l)=>match Nat.beq (t.sz U) sz with
     |true=>some (decide (h+len<=l.length)&&decide (d+len<=l.length),.c (.arr n),cC (dl J b) n (.arr t (l.take h++(l.drop d).take len)))
     |false=>none
    |_=>none
   |false=>none
  |_,_=>none
 |.max2 x y=>match dd gl gd env x,dd gl gd env y with
  |some (.c (.t ⟨.int k,a⟩)),some (.c (.t ⟨.int F,b⟩))=>if k=F then some (true,.c (.t ⟨.int k,iv a b⟩),J)else none
  |_,_=>none
 |.min2 x y=>match dd gl gd env x,dd gl gd env y with
  |some (.c (.t ⟨.int k,a⟩)),some (.c (.t ⟨.int F,b⟩))=>if k=F then some (true,.c (.t ⟨.int k,je a b⟩),J)else none
  |_,_=>none
 |.eqNil .. |.call .. |.iG .. =>none
end
section
open Go
variable {U:cK}
inductive cj (N:Nat)(J:bf U):bl U->C->Prop
 |t (c:Cell U.D):cj N J (.t c) (.t (c.enc U))
 |ptr (b o:Nat):cj N J (.ptr b o) (.ptr b o)
 |cF (b:Nat) (t:aJ) (i o:Nat):cj N J (.cF b t i o) (.cF b (t.sz U) i o)
 |dM (t:aJ) (x:t.den U.D) (o:Nat):cj N J (.dM t x o) (.dM (t.enc U x) o)
 |arr (b sz n:Nat) (xw:b<N) (h:∀x,aX J b=some x->∀p,x.dc=some p->p=(sz,n)):cj N J (.arr b) (.arr b sz 0 n)
 |sub (b n9 len:Nat):cj N J (.sub b n9 len) (.fw b 1 n9 len)
 |pre (b sz h:Nat) (xw:b<N) (af':∀x,aX J b=some x->∀p,x.dc=some p->p.1=sz):cj N J (.pre b h) (.arr b sz 0 h)
 |dG (b sz n9 len:Nat) (xw:b<N) (af':∀x,aX J b=some x->∀p,x.dc=some p->p.1=sz):cj N J (.dG b n9 len) (.fw b sz n9 len)
 |mp (b:Nat):cj N J (.mp b) (.mp b)
 |eg (b:Nat):cj N J (.eg b) (.eg b)
 |cG (b n:Nat) (xw:b<N) (h:∀x,aX J b=some x->∀p,x.dc=some p->p=(1,n)):cj N J (.cG b) (.cG b n)
 |ay:cj N J .ay .ay
 |e3:cj N J .e3 .e3
 |e2:cj N J .e2 .e2
 |fn (f:Nat) (caps:a7):cj N J (.fn f caps) (.fn f caps)
 |dead (d:C):cj N J .dead d
inductive ca (N:Nat)(J:bf U):bz U->V->Prop
 |c {x d}:cj N J x d->ca N J (.c x) (.c d)
 |agg {xs ds}:a' (cj N J) xs ds->ca N J (.agg xs) (.agg ds)
 |aY (xs:List (bz U)) (ds:List V) (af:xs.length=ds.length) (h:∀(i:Nat) x d,xs[i]?=some x->ds[i]?=some d->ca N J x d):ca N J (.aY xs) (.aY ds)
inductive hU (N:Nat)(J:bf U):cO U->bO->Prop
 |box {cs ds}:a' (cj N J) cs ds->hU N J (.box cs) (.box ds)
 |arr (t:aJ) (l:List (t.den U.D)):hU N J (.arr t l) (.arr (t.sz U) (l.map (t.enc U)))
 |set (ks:List aj):hU N J (.set ks) (.set ks)
 |buf (E:Nat) (s:aj):hU N J (.buf E s) (.buf E s)
 |b8 {E c d}:cj N J c d->hU N J (.b8 E c) (.b8 E d)
 |cA (t:aJ) (l:List (t.den U.D)) (i o:Nat) {c d}:cj N J c d->hU N J (.cA t l i o c) (.cA (t.sz U) (l.map (t.enc U)) i o d)
 |rows {sz r es}:a' (λr e=>hT r=some e) r es->(∀x,x∈r->x.length=sz)->hU N J (.rows sz r) (.arr sz es)
def cx(N:Nat)(J:bf U)(J1:a8):Prop:=∀b x,aX J b=some x->b<N/\∃y,aW J1 b=some y/\hU N J x y
def c3(N:Nat)(J:bf U)(G:Nat->Bool)(env:bU U)(env1:Env):Prop:=∀k v,aX env k=some v->∃v1,look env1 k=some (G k,v1)/\ca N J v v1
structure gI (gl:ew)(env:bU U)(G:Nat->Bool):Prop where
 free:∀k,aX gl k=none->G k=true
 held:∀k t b,aX gl k=some (t,b)->∃y,fa env t b=some y/\G k=(G t&&y)
def dk(N:Nat)(J:bf U)(N':Nat)(J':bf U):Prop:=N<=N'/\∀b a,b<N->aX J' b=some a->∃x,aX J b=some x/\∀p,a.dc=some p->x.dc=some p
variable{J:bf U}{x:bl U}{v1:V}{t:aJ}{o:Nat}{v:bz U}{cs:List (bl U)}
theorem dk.refl{N:Nat}:dk N J N J:=⟨ef _,λ_ x _ h=>⟨x,h,λ_ h=>h⟩⟩
theorem dk.more{N N':Nat}(h:N<=N'):dk N J N' J:=⟨h,λ_ x _ h=>⟨x,h,λ_ h=>h⟩⟩
theorem dk.trans{a c e:Nat}{s1 j o:bf U}(h:dk a s1 c j)(k:dk c j e o):dk a s1 e o:=
 ⟨h9 h.1 k.1,λb x f w=>let⟨y,h1,q⟩:=k.2 b x (lT f h.1) w;let⟨z,t,u⟩:=h.2 b y f h1;⟨z,t,λp v=>u p (q p v)⟩⟩
section
variable {N N':Nat}{J J':bf U}{J1:a8}{env:bU U}{env1:Env}{G:Nat->Bool}{gl:ew}{gd:Option (Nat×Bool)}
theorem cj.mono(k:dk N J N' J'){d:C}(h:cj N J x d):cj N' J' x d:=by
 cases h with
 |t c=>exact .t c
 |ptr b o=>exact .ptr b o
 |cF b t i o=>exact .cF b t i o
 |dM t x o=>exact .dM t x o
 |arr b sz n a h=>
  refine .arr b sz n (lT a k.1) λx e p q=>?_;obtain⟨y,h1,j⟩:=k.2 b x a e;grind
 |sub b u len=>exact .sub b u len
 |pre b sz n a h=>
  refine .pre b sz n (lT a k.1) λx e p q=>?_;obtain⟨y,h1,j⟩:=k.2 b x a e;grind
 |dG b sz u len a h=>
  refine .dG b sz u len (lT a k.1) λx e p q=>?_;obtain⟨y,h1,j⟩:=k.2 b x a e;exact h y h1 p (j p q)
 |mp b=>exact .mp b
 |eg b=>exact .eg b
 |cG b n a h=>
  refine .cG b n (lT a k.1) λx e p q=>?_;obtain⟨y,h1,j⟩:=k.2 b x a e;grind
 |ay=>exact .ay
 |e3=>exact .e3
 |e2=>exact .e2
 |fn f caps=>exact .fn f caps
 |dead d=>exact .dead d
theorem ca.mono(k:dk N J N' J'){x:bz U}{d:V}(h:ca N J x d):ca N' J' x d:=by
 induction h with
 |c h=>exact .c (h.mono k)
 |agg h=>exact .agg (h.imp λ_ _ _=>cj.mono k)
 |aY xs ds af h ih=>exact .aY xs ds af ih
theorem hU.mono(k:dk N J N' J'){x:cO U}{d:bO}(h:hU N J x d):hU N' J' x d:=by
 cases h with
 |box h=>exact .box (h.imp λ_ _ _=>cj.mono k)
 |arr t l=>exact .arr t l
 |set ks=>exact .set ks
 |buf E s=>exact .buf E s
 |b8 h=>exact .b8 (h.mono k)
 |cA t l i o h=>exact .cA t l i o (h.mono k)
 |rows h a=>exact .rows h a
theorem c3.mono(k:dk N J N' J')(h:c3 N J G env env1):c3 N' J' G env env1:=λi v c=>let⟨v1,h1,a⟩:=h i v c;⟨v1,h1,a.mono k⟩
theorem cx.put(h:cx N J J1){b:Nat}{x:cO U}{y:bO}(p:b<N')(k:dk N J N' (cC J b x))(q:hU N' (cC J b x) x y):cx N' (cC J b x) (da J1 b y):=by
 intro c z a;rw[hN]at a;rw[cV];by_cases j:b=c
 . grind
 . rw[ak j]at a⊢;obtain⟨h1,o,e,f⟩:=h c z a;exact⟨lT h1 k.1,o,e,f.mono k⟩
theorem lM{x:cO U}(h:N<=N':=by omega):dk N J N' (cC J N x):=by
 refine⟨h,λb d c a=>?_⟩;rw[hN,bq]at a;grind
theorem nD{b:Nat}{x a:cO U}(h:N<=N')(h0:aX J b=some a)(f:∀p,x.dc=some p->a.dc=some p):dk N J N' (cC J b x):=by
 refine⟨h,λc g e d=>?_⟩;rw[hN]at d;grind
theorem s5{b:Nat}:dk N J N (dl J b):=by
 refine⟨ef _,λc e d a=>?_⟩;rw[n5]at a;grind
theorem I1{d:C}(h:Ec d=some x):cj N J x d:=by
 unfold Ec at h;split at h<;>cases h
 . exact cj.t (U:=U) ⟨.bool,_⟩
 . exact cj.t (U:=U) ⟨.int _,_⟩
 . exact cj.t (U:=U) ⟨.str,_⟩
 . exact .ay
 . exact .e3
 . exact .e2
 . exact .dead _
 . exact .fn _ _
theorem tz:∀{ds:List C} {xs:List (bl U)},ox ds=some xs->a' (cj N J) xs ds
 |[],xs,h=>by simp[ox]at h;subst h;exact .nil
 |d::ds,xs,h=>by
  simp only[ox]at h;split at h
  . rename_i x ys h1 a;cases h;exact .cons (I1 h1) (tz a)
  . cases h
theorem I2{d:V}{x:bz U}(h:wK d=some x):ca N J x d:=by
 cases d with
 |c d=>
  simp only[wK]at h;split at h
  . rename_i y a;cases h;exact .c (I1 a)
  . cases h
 |agg ds=>
  simp only[wK]at h;split at h
  . rename_i y a;cases h;exact .agg (tz a)
  . cases h
 |aY _=>simp[wK]at h
def cE(env:bU U)(G:Nat->Bool):Option (Nat×Bool)->Bool
 |none=>true
 |some (t,b)=>G t&&(fa env t b).getD false
theorem gI.aX(al:gI gl env G)(k:Nat):cE env G (aX gl k)=G k:=by
 cases h:Shv.aX gl k with
 |none=>exact(al.free k h).symm
 |some g=>
  obtain⟨t,b⟩:=g;obtain⟨y,h1,a⟩:=al.held k t b h;simp[cE,h1,a]
theorem CR(al:gI gl env G):∀{a:Nat} {gd:Option (Nat×Bool)} {g:Bool},lj gl env a gd=some g->g=cE env G gd
 |_,none,g,h=>by unfold lj at h;simp at h;subst h;rfl
 |0,some _,g,h=>by simp[lj]at h
 |a+1,some (t,b),g,h=>by
  simp only[lj]at h;split at h
  . rename_i x y h1 c;cases h;rw[CR al h1,al.aX t];simp[cE,c]
  . cases h
theorem aah:∀{a:Nat} {t:Nat} {b:Bool} {g:Bool},lj gl env a (some (t,b))=some g->∃y,fa env t b=some y
 |0,t,b,g,h=>by simp[lj]at h
 |a+1,t,b,g,h=>by
  simp only[lj]at h;grind
theorem ca.dW(h:ca N J (.c x) v1):∃d,v1= .c d/\cj N J x d:=by cases h with|c h=>exact⟨_,rfl,h⟩
theorem ca.rZ{xs:List (bl U)}(h:ca N J (.agg xs) v1):∃ds,v1= .agg ds/\a' (cj N J) xs ds:=by cases h with|agg h=>exact⟨_,rfl,h⟩
theorem ca.wG{c:Cell U.D}(h:ca N J (.c (.t c)) v1):v1= .c (.t (c.enc U)):=by obtain⟨d,rfl,aa⟩:=h.dW;cases aa;rfl
theorem ca.js{b:Bool}(h:ca N J (.c (.t ⟨.bool,b⟩)) v1):v1= .c (.t (.bool b)):=h.wG
theorem ca.gn{k:IntKind}{m:Int}(h:ca N J (.c (.t ⟨.int k,m⟩)) v1):v1= .c (.t (.int k m)):=h.wG
theorem ca.km{s:aj}(h:ca N J (.c (.t ⟨.str,s⟩)) v1):v1= .c (.t (.str s)):=h.wG
theorem ca.kl{l:List (t.den U.D)}(h:ca N J (.c (.t ⟨.slice t,l⟩)) v1):v1= .c (.t (.slice (l.map (t.enc U)))):=h.wG
theorem ca.hQ{b:Nat}(h:ca N J (.c (.ptr b o)) v1):v1= .c (.ptr b o):=by obtain⟨d,rfl,aa⟩:=h.dW;cases aa;rfl
theorem ca.jc{b i:Nat}(h:ca N J (.c (.cF b t i o)) v1):v1= .c (.cF b (t.sz U) i o):=by obtain⟨d,rfl,aa⟩:=h.dW;cases aa;rfl
theorem ca.EX{x:t.den U.D}(h:ca N J (.c (.dM t x o)) v1):v1= .c (.dM (t.enc U x) o):=by obtain⟨d,rfl,aa⟩:=h.dW;cases aa;rfl
theorem ca.uu(h:ca N J (.c .ay) v1):v1= .c .ay:=by obtain⟨d,rfl,aa⟩:=h.dW;cases aa;rfl
theorem ca.gY{b:Nat}(h:ca N J (.c (.arr b)) v1):∃sz n,v1= .c (.arr b sz 0 n)/\b<N/\∀x,Shv.aX J b=some x->∀p,x.dc=some p->p=(sz,n):=by
 obtain⟨d,rfl,aa⟩:=h.dW;cases aa with
 |arr _ sz n e a=>exact⟨_,_,rfl,e,a⟩
theorem ca.E5{b:Nat}(h:ca N J (.c (.mp b)) v1):v1= .c (.mp b):=by obtain⟨d,rfl,aa⟩:=h.dW;cases aa;rfl
theorem ca.Rw{b:Nat}(h:ca N J (.c (.eg b)) v1):v1= .c (.eg b):=by obtain⟨d,rfl,aa⟩:=h.dW;cases aa;rfl
theorem ca.A4{b:Nat}(h:ca N J (.c (.cG b)) v1):∃n,v1= .c (.cG b n)/\b<N/\∀x,Shv.aX J b=some x->∀p,x.dc=some p->p=(1,n):=by
 obtain⟨d,rfl,aa⟩:=h.dW;cases aa with
 |cG _ n e a=>exact⟨_,rfl,e,a⟩
theorem ca.EU{f:Nat}{caps:a7}(h:ca N J (.c (.fn f caps)) v1):v1= .c (.fn f caps):=by
 obtain⟨d,rfl,aa⟩:=h.dW;cases aa;rfl
theorem aai{t:Nat}{b y:Bool}(he:c3 N J G env env1)(h:fa env t b=some y):∃x,look env1 t=some (G t,.c (.t (.bool x)))/\y=(x==b):=by
 unfold fa at h;split at h
 . rename_i x d;cases h;obtain⟨v1,h1,a⟩:=he t _ d;have:=a.js;grind
 . cases h
theorem DB(he:c3 N J G env env1)(h:gd=none\/∃t b y,gd=some (t,b)/\fa env t b=some y):fO env1 gd=some (cE env G gd):=by
 rcases h with rfl|⟨t,b,y,rfl,h⟩
 . rfl
 . obtain⟨x,h1,rfl⟩:=aai he h;simp[fO,h1,cE,h]
theorem CS(al:gI gl env G):∀{d:Nat} {gd:Option (Nat×Bool)} {k:Nat},cE env G gd=true->wD gl d gd k=true->G k=true
 |0,gd,k,_,h=>by simp[wD]at h
 |d+1,gd,k,a,h=>by
  simp only[wD]at h;split at h
  . rename_i c;exact al.free k c
  . rename_i e c;split at h
    . cases h
    . rename_i g;obtain⟨t,b⟩:=g;obtain⟨m,l⟩:=e;simp only[hO,cd,iM]at h;rcases h with⟨h1,f⟩|h
      . have:=cT h1;subst this;subst f;obtain⟨y,i,j⟩:=al.held k t b c;simp only[cE,i,lo]at a;rw[j,a]
      . refine CS al (gd:=Shv.aX gl t) ?_ h;rw[al.aX t];simp only[cE,cd]at a;exact a.1
theorem cv(he:c3 N J G env env1)(al:gI gl env G){x:aP}(h:dd gl gd env x=some v):
 ∃p v1,x.get env1=some (p,v1)/\ca N J v v1/\(cE env G gd=true->p):=by
 cases x with
 |const d=>exact⟨True,d,rfl,I2 h,λ_=>trivial⟩
 |tmp k=>
  simp only[dd]at h;split at h
  . rename_i hs;obtain⟨v1,h1,a⟩:=he k v h;exact⟨_,v1,by simp[aP.get,h1],a,λb=>CS al b hs⟩
  . cases h
theorem JX(he:c3 N J G env env1)(al:gI gl env G){c x:aP}{b y:Bool}{j:bz U}(a:dd gl gd env c=some j)(n:j= .c (.t ⟨.bool,y⟩))(h:Ed gl gd env c b x=some v):
 ∃p v1,x.get env1=some (p,v1)/\ca N J v v1/\(cE env G gd=true->y=b->p):=by
 cases x with
 |const d=>exact⟨True,d,rfl,I2 h,λ_ _=>trivial⟩
 |tmp k=>
  simp only[Ed]at h;split at h
  . rename_i hs;obtain⟨v1,h1,e⟩:=he k v h;exact⟨_,v1,by simp[aP.get,h1],e,λf _=>CS al f hs⟩
  . split at h
    . rename_i s t l o;split at h
      . rename_i i;simp only[cd,iM]at i;obtain⟨h1,rfl⟩:=i;have:=cT h1;subst this;obtain⟨v1,h1,e⟩:=he k v h;refine⟨G k=true,v1,by simp[aP.get,h1],e,λf q=>?_⟩;simp only[dd]at a;split at a
        . rename_i hs;have m:=CS al f hs;obtain⟨u,g,r⟩:=al.held k t l o;simp only[fa,a,n]at g;rw[r,m];subst q;cases y<;>simp at g<;>simp[<-g]
        . cases a
      . cases h
    . cases h
theorem tD(he:c3 N J G env env1)(al:gI gl env G):∀{xs:List aP} {vs:List (bz U)},ko gl gd env xs=some vs->
 ∃p vs1,ho env1 xs=some (p,vs1)/\a' (ca N J) vs vs1/\(cE env G gd=true->p)
 |[],vs,h=>by simp[ko]at h;subst h;exact⟨True,[],rfl,.nil,λ_=>trivial⟩
 |x::xs,vs,h=>by
  simp only[ko]at h;split at h
  . rename_i v c h1 b;cases h;obtain⟨p,v1,a1,a2,a3⟩:=cv he al h1;obtain⟨q,vs1,b1,b2,b3⟩:=tD he al b;exact⟨p/\q,v1::vs1,by simp[ho,a1,b1],.cons a2 b2,λa=>⟨a3 a,b3 a⟩⟩
  . cases h
theorem pR(h:ca N J v v1)(a:pF v=some cs):∃ds,pE v1=some ds/\a' (cj N J) cs ds:=by
 cases h with
 |c h=>simp[pF]at a;subst a;exact⟨_,rfl,.cons h .nil⟩
 |agg h=>simp[pF]at a;subst a;exact⟨_,rfl,h⟩
 |aY=>simp[pF]at a
theorem GC{a:List (bl U)}{ds b:List C}(h:a' (cj N J) cs ds)(c:a' (cj N J) a b):a' (cj N J) (wJ cs o a) (oN ds o b):=by
 unfold wJ oN;rw[c.length];exact((h.take o).append c).append (h.drop _)
theorem h2{a b:Nat}(h:Nat.ble a b=true):a<=b:=BI h
theorem Tp(he:c3 N J G env env1)(al:gI gl env G):∀{ps:List (Nat×Nat×aP)} {cs b:List (bl U)} {ds:List C},zZ gl gd env cs ps=some b->a' (cj N J) cs ds->
 ∃p c,la env1 ds ps=some (p,c)/\a' (cj N J) b c/\(cE env G gd=true->p)
 |[],cs,b,ds,h,a=>by simp[zZ]at h;subst h;exact⟨True,ds,rfl,a,λ_=>trivial⟩
 |(o,n,x)::r,cs,b,ds,h,a=>by
  simp only[zZ]at h;split at h
  . cases h
  . rename_i v l;split at h
    . cases h
    . rename_i es k;split at h
      . rename_i d;simp only[cd]at d;have i:=cT d.1;have j:=h2 d.2;obtain⟨p,v1,a1,a2,a3⟩:=cv he al l;obtain⟨fs,b1,b2⟩:=pR a2 k;obtain⟨q,c,e,f,g⟩:=Tp he al h (GC (o:=o) a b2);refine⟨p/\q,c,?_,f,λa=>⟨a3 a,g a⟩⟩;simp only[la,a1,ao,b1];rw[ad ⟨by rw[<-b2.length];exact i,by rw[<-a.length];exact j⟩,e];rfl
      . cases h
theorem ZE{d:C}{t:T}(h:cj N J x d)(ht:x.toT=some t):Shv.toT d=some t:=by
 cases h<;>simp only[bl.toT,reduceCtorEq,bF]at ht
 . split at ht
   . cases ht
   . cases ht;rfl
 . subst ht;rfl
theorem DC:∀{cs:List (bl U)} {ds:List C} {ts:List T},a' (cj N J) cs ds->hT cs=some ts->toTs ds=some ts
 |[],[],ts,_,h=>by simp[hT]at h;subst h;rfl
 |c::cs,d::ds,ts,.cons h1 a,h=>by
  simp only[hT]at h;split at h
  . rename_i t e ht b;cases h;simp[toTs,ZE h1 ht,DC a b]
  . cases h
theorem HF:∀{cs:List (bl U)} {ts:List T},hT cs=some ts->ts.length=cs.length
 |[],ts,h=>by simp[hT]at h;subst h;rfl
 |c::cs,ts,h=>by
  simp only[hT]at h;split at h
  . rename_i t b ht a;cases h;simp[HF a]
  . cases h
theorem a'.set{α c:Type}{R:α->c->Prop}{l:List α}{m:List c}(h:a' R l m){i:Nat}{a:α}{b:c}(f:R a b):a' R (l.set i a) (m.set i b):=by
 induction h generalizing i with
 |nil=>exact .nil
 |cons h1 e ih=>cases i with
  |zero=>exact .cons f e
  |succ i=>exact .cons h1 ih
theorem Gs(he:c3 N J G env env1)(al:gI gl env G){sz:Nat}:∀{ps:List (Nat×aP)} {a b:List (List (bl U))} {es:List (List T)},vM gl gd env sz a ps=some b->
 a' (λr e=>hT r=some e) a es->(∀r,r∈a->r.length=sz)->∃p es',jM env1 sz es ps=some (p,es')/\a' (λr e=>hT r=some e) b es'/\(∀r,r∈b->r.length=sz)/\(cE env G gd=true->p)
 |[],a,b,es,h,c,af=>by simp[vM]at h;subst h;exact⟨True,es,rfl,c,af,λ_=>trivial⟩
 |(i,x)::ps,a,b,es,h,c,af=>by
  simp only[vM]at h;split at h
  . cases h
  . rename_i v s;split at h
    . cases h
    . rename_i cs o;split at h
      . cases h
      . rename_i ts f;split at h
        . rename_i d;simp only[cd]at d;have n:=cT d.1;have t:=h2 d.2;obtain⟨p,v1,a1,a2,a3⟩:=cv he al s;obtain⟨ds,b1,b2⟩:=pR a2 o;obtain⟨q,es',j,k,m,l⟩:=Gs he al h (a'.set c f) (by grind);refine⟨p/\q,es',?_,k,m,λg=>⟨a3 g,l g⟩⟩;simp only[jM,a1,ao,b1,DC b2 f];rw[ad ⟨by rw[HF f];exact n,by rw[<-c.length];omega⟩,j];rfl
        . cases h
end
end
section
open Go
variable {U:cK}
structure dV (N:Nat)(J:bf U)(J1:a8)(o:cJ)(env1:Env)(g c:Bool)(v:bz U)(J':bf U):Prop where
 val:∃v1,ca (N+16) J' v v1/\(g=true->c=true->∃p bo,aO o env1 J1 N=some (p,v1,bo)/\p/\cx (N+16) J' bo)
 ahz:dk N J (N+16) J'
 ago:o.neutral=true->J'=J
variable{o:cJ}{v1:V}{ds z:List C}{cs:List (bl U)}{agg neg:Bool}{α:Type}{t:aJ}{ts:List T}{op:BinOp}{J1:a8}{x y:aP}{off e:Nat}{es:List (List T)}{R:α->α->Prop}
section
variable {N N':Nat}{J J':bf U}{J1:a8}{env:bU U}{env1:Env}{G:Nat->Bool}{gl:ew}{gd:Option (Nat×Bool)}{c:Bool}{v:bz U}
theorem cx.mono(h:cx N J J1)(cq:N<=N'):cx N' J J1:=λb x e=>
 let⟨h1,y,a,c⟩:=h b x e;⟨lT h1 cq,y,a,c.mono (dk.more cq)⟩
theorem dV.neutral{g:Bool}(aF:cx N J J1)(j:ca N J v v1)(e:g=true->c=true->∃p,aO o env1 J1 N=some (p,v1,J1)/\p):dV N J J1 o env1 g c v J:=
 ⟨⟨v1,j.mono (dk.more (by omega)),λal f=>let⟨p,h1,a⟩:=e al f;⟨p,J1,h1,a,aF.mono (by omega)⟩⟩,dk.more (by omega),λ_=>rfl⟩
theorem dV.store{g:Bool}(aD:o.neutral=false)(e:dk N J (N+16) J')(f:ca (N+16) J' v v1)(a:g=true->c=true->∃p bo,aO o env1 J1 N=some (p,v1,bo)/\p/\cx (N+16) J' bo):dV N J J1 o env1 g c v J':=
 ⟨⟨v1,f,a⟩,e,λh=>by rw[aD]at h;cases h⟩
theorem uX{k o:Nat}(a:a' (cj N J) cs ds)(h:qU agg k cs o=some v):∃v1,jP agg k ds o=some v1/\ca N J v v1:=by
 unfold qU at h;split at h
 . split at h
   . rename_i e;cases h;refine⟨_,by simp only[jP,bS];rw[ad (by rw[<-a.length];exact h2 e)],.agg ((a.drop o).take k)⟩
   . cases h
 . split at h
   . rename_i x f;cases h;obtain⟨d,h1,b⟩:=a.get f;exact⟨_,by simp[jP,h1],.c b⟩
   . cases h
theorem a'.map_map{c e j:Type}{R:e->j->Prop}{f:α->e}{g:c->j}:∀{l:List α} {m:List c},a' (λa b=>R (f a) (g b)) l m->a' R (l.map f) (m.map g)
 |[],[],_=>.nil
 |_::_,_::_,.cons h1 o=>.cons h1 (a'.map_map o)
theorem a'.self(h:∀a,R a a):∀(l:List α),a' R l l
 |[]=>.nil
 |a::l=>.cons (h a) (a'.self h l)
theorem yY{x:t.den U.D}:a' (cj N J) ((t.row U x).map .t) ((t.enc U x).map .t):=by
 rw[aJ.uD,List.map_map];exact a'.map_map (a'.self (R:=λa b=>cj N J (.t a) (.t (b.enc U))) (λc=>cj.t c) _)
theorem Hj{k o:Nat}{v:V}(af:jP agg k (ts.map .t) o=some v):loadT agg k ts o=some v:=by
 unfold jP at af;unfold loadT;cases agg with
 |true=>simpa using af
 |false=>simpa[Option.map_map]using af
theorem Zt{p q:Cell U.D}{r:Cell U.D}(h:Ii op p q=some (c,r)):∃d,k0 op (p.enc U) (q.enc U)=some (d,r.enc U)/\(c=true->d):=by
 unfold Ii at h;split at h
 . rename_i k a e b;show ∃d,k0 op (.int k a) (.int e b)=some (d,r.enc U)/\(c=true->d);cases op<;>simp only[RJ,reduceCtorEq,dC,bF,bB]at h
   all_goals first
    |(obtain⟨rfl,rfl,rfl⟩:=h;exact⟨_,by simp only[k0,bS];rfl,λh=>by simpa using h⟩)
    |(obtain⟨rfl,rfl⟩:=h;exact⟨_,by simp only[k0];rfl,λh=>by simpa using h⟩)
    |(obtain⟨rfl,rfl,rfl⟩:=h;exact⟨_,by simp only[k0,bS];rfl,λh=>trivial⟩)
 . rename_i a b;show ∃d,k0 op (.str a) (.str b)=some (d,r.enc U)/\(c=true->d);cases op<;>simp only[RK,reduceCtorEq,bF,bB]at h
   all_goals first
    |(obtain⟨rfl,rfl⟩:=h;exact⟨_,by simp only[k0];rfl,λh=>by simpa using h⟩)
    |(obtain⟨rfl,rfl⟩:=h;exact⟨_,by simp only[k0];rfl,λh=>trivial⟩)
 . cases h
theorem Zu{k:Nat}{x y:Cell U.D}{b:Bool}(h:Im k x y=some b):Br k (x.enc U) (y.enc U)=some b:=by
 unfold Im at h;split at h
 . cases h;rfl
 . simp only[dC,bF]at h;obtain⟨rfl,rfl⟩:=h;show(if _ then _ else _)=_;rw[ad rfl];rfl
 . cases h;rfl
 . cases h
theorem SZ:∀{ks:a7} {xs ys:List (bl U)} {ds es:List C} {b:Bool},AM ks xs ys=some b->a' (cj N J) xs ds->a' (cj N J) ys es->sd ks ds es=some b
 |[],[],[],[],[],b,h,.nil,.nil=>by simp[AM]at h;subst h;rfl
 |k::ks,.t x::xs,.t y::ys,d::ds,e::es,b,h,.cons h1 a,.cons c f=>by
  simp only[AM]at h;split at h
  . rename_i b1 r g i;cases h;cases h1;cases c;simp[sd,Zu g,SZ i a f]
  . cases h
theorem YB{a b:aj}:(A6 a b).length=a.length+b.length:=c2
theorem acv{a b:Int}:hJ a b=true↔a=b:=by simp[hJ]
theorem s9{m:Int}{n:Nat}:aH m n=true↔0<=m/\m.toNat<n:=by simp[aH]
theorem iK{b a:Int}{n:Nat}:dS b a n=true↔0<=b/\b<=a/\a<=n:=by simp[dS]
theorem adu{s:List (t.den U.D)}{l r:Option Int}{a pl b:Prop}{sz:Nat}:
 (some (a/\pl/\b/\0<=l.getD 0/\l.getD 0<=r.getD ((List.map (t.enc U) s).length:Int)/\r.getD ((List.map (t.enc U) s).length:Int)<=((List.map (t.enc U) s).length:Int)/\∀e,e∈List.map (t.enc U) s->e.length=sz,
  V.c (C.t (T.slice (((List.map (t.enc U) s).take (r.getD ((List.map (t.enc U) s).length:Int)).toNat).drop (l.getD 0).toNat))),J1):AT)=
 some (a/\pl/\b/\0<=l.getD 0/\l.getD 0<=r.getD (s.length:Int)/\r.getD (s.length:Int)<=(s.length:Int)/\∀e,e∈List.map (t.enc U) s->e.length=sz,
  V.c (C.t (Cell.enc U ⟨.slice t,d' s (l.getD 0) (r.getD (s.length:Int))⟩)),J1):=by
 have:Cell.enc U ⟨.slice t,d' s (l.getD 0) (r.getD (s.length:Int))⟩=T.slice (List.map (t.enc U) (d' s (l.getD 0) (r.getD (s.length:Int)))):=rfl;rw[this,gy];simp only[d',BN,ym]
variable{a:Type}{f:α->a}
theorem adv{l:List α}{p:Prop}:(some (p,V.c (C.t (T.int .i64 ((l.map f).length:Int))),J1):AT)=some (p,V.c (C.t (.int .i64 (l.length:Int))),J1):=by rw[gy]
theorem vN{l:List α}{i:Nat}(h:i<l.length):i<(l.map f).length:=by rw[gy];exact h
theorem a'.replicate{c:Type}{R:α->c->Prop}{a:α}{b:c}(h:R a b):∀n:Nat,a' R (List.replicate n a) (List.replicate n b)
 |0=>.nil
 |n+1=>.cons h (a'.replicate h n)
theorem GO:∀{xs:List (bl U)} {db:List aJ} {es:List C} {row:List (Cell U.D)},iJ db xs=some row->a' (cj N J) xs es->toTs es=some (row.map (Cell.enc U))
 |[],db,es,row,h1,a=>by
  cases a;cases db<;>simp[iJ]at h1;subst h1;rfl
 |y::ys,[],es,row,h1,a=>by simp[iJ]at h1
 |y::ys,ty::db,_::_,row,h1,.cons a d=>by
  cases a with
  |t c=>cases ty<;>simp only[iJ]at h1<;>(split at h1<;>first|(cases h1;done)|(rename_i q b;cases h1;simp[toTs,toT,GO b d]))
  |ay=>
   cases ty<;>simp only[iJ,reduceCtorEq]at h1;split at h1
   . rename_i q b;cases h1;simp[toTs,toT,GO b d];rfl
   . cases h1
  |_=>cases ty<;>simp[iJ]at h1
theorem S7{sz:Nat}:∀{ps:List (Nat×aP)} {es es':List (List T)} {p:Prop},jM env1 sz es ps=some (p,es')->es'.length=es.length
 |[],es,es',p,h=>by simp[jM]at h;rw[h.2]
 |(i,x)::ps,es,es',p,h=>by
  simp only[jM,bp,dC,bb,bB]at h;obtain⟨a,_,cs,_,ts,_,_,b,c,_,rfl⟩:=h;have:=S7 (p:=b.1) (es':=b.2) c;grind
theorem HG{l k:List (t.den U.D)}{i o:Nat}(h:rQ U t l i o cs=some k)(n:i<l.length)(g:a' (cj N J) cs ds)(A:o+cs.length<=t.sz U):
 ∃ts,toTs ds=some ts/\k.map (t.enc U)=(l.map (t.enc U)).set i ((el (l.map (t.enc U)) i).take o++ts++(el (l.map (t.enc U)) i).drop (o+cs.length)):=by
 unfold rQ at h;split at h
 . rename_i x e;cases h;unfold qa at e;split at e
   . rename_i row v;have s:=aJ.E4 e;have key:=@GO U N J;have w:a' (cj N J) ((t.row U (t.at U l i)).map .t) ((t.enc U (t.at U l i)).map .t):=yY;have m:=GC (o:=o) w g;have h1:=key v m;have f:∀{a b:List C} {r:List T},toTs (a++b)=some r->∃p q,toTs a=some p/\toTs b=some q/\r=p++q:=by
      intro a;induction a with
      |nil=>intro b r h;exact⟨[],r,rfl,h,rfl⟩
      |cons c a ih=>
       intro b r h;simp only[rz,toTs,bp,bb]at h;obtain⟨t0,y,E,u,rfl⟩:=h;obtain⟨p,q,aK,d,rfl⟩:=ih u;exact⟨t0::p,q,by simp[toTs,y,aK],d,rfl⟩
     have j:∀(ts:List T),toTs (ts.map .t)=some ts:=by
      intro ts;induction ts with
      |nil=>rfl
      |cons a ts ih=>simp[toTs,toT,ih]
     unfold oN at h1;obtain⟨p,q,aK,d,c9⟩:=f h1;obtain⟨B,z,f1,f2,f3⟩:=f aK;rw[<-ym,j]at f1;cases f1;rw[<-BN,j]at d;cases d;refine⟨z,f2,?_⟩;rw[List.map_set,zY n,aJ.uD (x:=x),s,c9,f3,g.length]
   . cases e
 . cases h
variable (he:c3 N J G env env1)(al:gI gl env G)(aF:cx N J J1)
section
include he al aF
theorem ahi(h:ct gl gd env J N (.mov x)=some (c,v,J')):dV N J J1 (.mov x) env1 (cE env G gd) c v J':=by
 simp only[ct]at h;split at h
 . rename_i w b;cases h;obtain⟨p,v1,a1,a2,a3⟩:=cv he al b;exact .neutral aF a2 λa _=>⟨p,by simp[aO,a1],a3 a⟩
 . cases h
theorem adw{z:aP}(h:ct gl gd env J N (.pick x y z)=some (c,v,J')):dV N J J1 (.pick x y z) env1 (cE env G gd) c v J':=by
 simp only[ct]at h;split at h
 . rename_i b p q h1 g i;cases h;obtain⟨j,v1,a1,a2,a3⟩:=cv he al h1;obtain⟨k,m,b1,b2,b3⟩:=JX he al h1 rfl g;obtain⟨l,v3,d,e,f⟩:=JX he al h1 rfl i;have:=a2.js;subst this;have:=b2.js;subst this;have:=e.js;subst this;refine .neutral aF (.c (.t (U:=U) ⟨.bool,_⟩)) λa _=>⟨j/\(b=true->k)/\(b=false->l),by simp only[aO,a1,b1,d,ao];rfl,a3 a,b3 a,f a⟩
 . cases h
theorem Zv(h:ct gl gd env J N (.nilCheck x)=some (c,v,J')):dV N J J1 (.nilCheck x) env1 (cE env G gd) c v J':=by
 simp only[ct]at h;split at h
 . rename_i b o d;cases h;obtain⟨p,v1,a1,a2,a3⟩:=cv he al d;have:=a2.hQ;subst this;exact .neutral aF a2 λa _=>⟨p,by simp[aO,a1],a3 a⟩
 . rename_i b t i o d;cases h;obtain⟨p,v1,a1,a2,a3⟩:=cv he al d;have:=a2.jc;subst this;exact .neutral aF a2 λa _=>⟨p,by simp[aO,a1],a3 a⟩
 . rename_i t e o d;cases h;obtain⟨p,v1,a1,a2,a3⟩:=cv he al d;have:=a2.EX;subst this;exact .neutral aF a2 λa _=>⟨p,by simp[aO,a1],a3 a⟩
 . cases h
theorem ahj(h:ct gl gd env J N (.not x)=some (c,v,J')):dV N J J1 (.not x) env1 (cE env G gd) c v J':=by
 simp only[ct]at h;split at h
 . rename_i b d;cases h;obtain⟨p,v1,a1,a2,a3⟩:=cv he al d;have:=a2.js;subst this;exact .neutral aF (.c (.t (U:=U) ⟨.bool,_⟩)) λa _=>⟨p,by simp[aO,a1];rfl,a3 a⟩
 . cases h
theorem adx{k:IntKind}(h:ct gl gd env J N (.conv k x)=some (c,v,J')):dV N J J1 (.conv k x) env1 (cE env G gd) c v J':=by
 simp only[ct]at h;split at h
 . rename_i d m b;cases h;obtain⟨p,v1,a1,a2,a3⟩:=cv he al b;have:=a2.gn;subst this;exact .neutral aF (.c (.t (U:=U) ⟨.int k,_⟩)) λa _=>⟨p,by simp[aO,a1];rfl,a3 a⟩
 . cases h
theorem ahg(h:ct gl gd env J N (.i2s x)=some (c,v,J')):dV N J J1 (.i2s x) env1 (cE env G gd) c v J':=by
 simp only[ct]at h;split at h
 . rename_i d m b;cases h;obtain⟨p,v1,a1,a2,a3⟩:=cv he al b;have:=a2.gn;subst this;exact .neutral aF (.c (.t (U:=U) ⟨.str,_⟩)) λa _=>⟨p,by simp[aO,a1];rfl,a3 a⟩
 . cases h
theorem ahk(h:ct gl gd env J N (.s2s x)=some (c,v,J')):dV N J J1 (.s2s x) env1 (cE env G gd) c v J':=by
 simp only[ct]at h;split at h
 . rename_i s b;cases h;obtain⟨p,v1,a1,a2,a3⟩:=cv he al b;have:=a2.km;subst this;exact .neutral aF a2 λa _=>⟨p,by simp[aO,a1],a3 a⟩
 . cases h
theorem ady(h:ct gl gd env J N (.fldA off x)=some (c,v,J')):dV N J J1 (.fldA off x) env1 (cE env G gd) c v J':=by
 simp only[ct]at h;split at h
 . rename_i b o d;cases h;obtain⟨p,v1,a1,a2,a3⟩:=cv he al d;have:=a2.hQ;subst this;exact .neutral aF (.c (.ptr _ _)) λa _=>⟨p,by simp[aO,a1],a3 a⟩
 . rename_i b t i o d;cases h;obtain⟨p,v1,a1,a2,a3⟩:=cv he al d;have:=a2.jc;subst this;exact .neutral aF (.c (.cF _ _ _ _)) λa _=>⟨p,by simp[aO,a1],a3 a⟩
 . rename_i t e o d;cases h;obtain⟨p,v1,a1,a2,a3⟩:=cv he al d;have:=a2.EX;subst this;exact .neutral aF (.c (.dM _ _ _)) λa _=>⟨p,by simp[aO,a1],a3 a⟩
 . cases h
theorem ahf{k:Nat}(h:ct gl gd env J N (.fld agg off k x)=some (c,v,J')):dV N J J1 (.fld agg off k x) env1 (cE env G gd) c v J':=by
 simp only[ct]at h;split at h
 . rename_i cs e;split at h
   . rename_i w af;cases h;obtain⟨p,v1,a1,a2,a3⟩:=cv he al e;obtain⟨ds,rfl,b2⟩:=a2.rZ;obtain⟨f,a,b⟩:=uX b2 af;exact .neutral aF b λd _=>⟨p,by simp[aO,a1,a],a3 d⟩
   . cases h
 . cases h
theorem adz{k:Nat}(h:ct gl gd env J N (.load agg k x)=some (c,v,J')):dV N J J1 (.load agg k x) env1 (cE env G gd) c v J':=by
 simp only[ct]at h;split at h
 . rename_i b o j;split at h
   . rename_i cs g;split at h
     . rename_i w af;cases h;obtain⟨p,v1,a1,a2,a3⟩:=cv he al j;have:=a2.hQ;subst this;obtain⟨_,y,b1,b2⟩:=aF b _ g;cases b2 with
       |box b2=>
        obtain⟨s,a,m⟩:=uX b2 af;exact .neutral aF m λd _=>⟨p,by simp[aO,a1,b1,a],a3 d⟩
     . cases h
   . rename_i E z g;split at h
     . cases h;obtain⟨p,v1,a1,a2,a3⟩:=cv he al j;have:=a2.hQ;subst this;obtain⟨_,y,b1,b2⟩:=aF b _ g;cases b2 with
       |b8 b2=>exact .neutral aF (.c b2) λd _=>⟨p,by simp[aO,a1,b1],a3 d⟩
     . cases h
   . cases h
 . rename_i b t i o j;split at h
   . rename_i u B g;split at h
     . rename_i l af;have e:=Cell.ku af;cases e;split at h
       . rename_i w q;cases h;obtain⟨p,v1,a1,a2,a3⟩:=cv he al j;have:=a2.jc;subst this;obtain⟨_,y,b1,b2⟩:=aF b _ g;cases b2 with
         |arr=>
          obtain⟨s,a,m⟩:=uX yY q;refine .neutral aF m λd f=>⟨p/\t.sz U=t.sz U/\i<(List.map (t.enc U) l).length,?_,a3 d,rfl,vN (gR f)⟩
          simp only[dn]at f;have a:=Hj a;simp only[aO,a1,ao,b1];rw[zY f,a];rfl
       . cases h
     . cases h
   . rename_i u B A C z g;split at h
     . cases h
     . split at h
       . rename_i n;split at h
         . rename_i r;cases h;have n:=cT n;have r:=cT r;subst n;obtain⟨p,v1,a1,a2,a3⟩:=cv he al j;have:=a2.jc;subst this;obtain⟨_,y,b1,b2⟩:=aF b _ g;cases b2 with
           |cA _ _ _ _ b2=>
            refine .neutral aF (.c b2) λd f=>⟨p/\t.sz U=u.sz U/\i=A,?_,a3 d,r,gR f⟩
            simp only[aO,a1,ao,b1];simp
         . cases h
       . rename_i n;have n:=hE n;split at h
         . rename_i l af;have e:=Cell.ku af;cases e;split at h
           . rename_i w q;cases h;obtain⟨p,v1,a1,a2,a3⟩:=cv he al j;have:=a2.jc;subst this;obtain⟨_,y,b1,b2⟩:=aF b _ g;cases b2 with
             |cA _ _ _ _ b2=>
              obtain⟨s,a,m⟩:=uX yY q;refine .neutral aF m λd f=>⟨p/\t.sz U=t.sz U/\i<(List.map (t.enc U) l).length,?_,a3 d,rfl,vN (gR f)⟩
              simp only[dn]at f;have a:=Hj a;simp only[aO,a1,ao,b1];rw[bt,ak n,zY f,a];rfl
           . cases h
         . cases h
   . cases h
 . rename_i t D o j;split at h
   . rename_i w af;cases h;obtain⟨p,v1,a1,a2,a3⟩:=cv he al j;have:=a2.EX;subst this;obtain⟨s,a,m⟩:=uX yY af;have a:=Hj a;exact .neutral aF m λd _=>⟨p,by simp[aO,a1,a],a3 d⟩
   . cases h
 . cases h
theorem ahc(h:ct gl gd env J N (.bin op x y)=some (c,v,J')):dV N J J1 (.bin op x y) env1 (cE env G gd) c v J':=by
 simp only[ct]at h;split at h
 . rename_i p q d e;split at h
   . rename_i k r f;cases h;obtain⟨g,v1,a1,a2,a3⟩:=cv he al d;obtain⟨i,l,b1,b2,b3⟩:=cv he al e;have:=a2.wG;subst this;have:=b2.wG;subst this;obtain⟨j,d1,d2⟩:=Zt f;exact .neutral aF (.c (.t _)) λa b=>⟨g/\i/\j,by simp only[aO,a1,b1,ao,d1];rfl,a3 a,b3 a,d2 b⟩
   . cases h
 . cases h
theorem acw{ks:a7}(h:ct gl gd env J N (.eqAgg neg ks x y)=some (c,v,J')):dV N J J1 (.eqAgg neg ks x y) env1 (cE env G gd) c v J':=by
 simp only[ct]at h;split at h
 . rename_i p q d e;split at h
   . rename_i r f;cases h;obtain⟨g,v1,a1,a2,a3⟩:=cv he al d;obtain⟨i,k,b1,b2,b3⟩:=cv he al e;obtain⟨ds,rfl,d2⟩:=a2.rZ;obtain⟨es,rfl,b⟩:=b2.rZ;have:=SZ f d2 b;exact .neutral aF (.c (.t (U:=U) ⟨.bool,_⟩)) λa j=>⟨g/\i,by simp only[aO,a1,b1,ao,this];cases neg<;>rfl,a3 a,b3 a⟩
   . cases h
 . cases h
theorem aaj(h:ct gl gd env J N (.eqBool neg x y)=some (c,v,J')):dV N J J1 (.eqBool neg x y) env1 (cE env G gd) c v J':=by
 simp only[ct]at h;split at h
 . rename_i p q b d;cases h;obtain⟨e,v1,a1,a2,a3⟩:=cv he al b;obtain⟨f,i,b1,b2,b3⟩:=cv he al d;have:=a2.js;subst this;have:=b2.js;subst this;exact .neutral aF (.c (.t (U:=U) ⟨.bool,_⟩)) λa g=>⟨e/\f,by simp only[aO,a1,b1,ao];cases neg<;>rfl,a3 a,b3 a⟩
 . cases h
theorem Ts{sz:Nat}(h:ct gl gd env J N (.idxA sz x y)=some (c,v,J')):dV N J J1 (.idxA sz x y) env1 (cE env G gd) c v J':=by
 simp only[ct]at h;split at h
 . rename_i t l k m g i;split at h
   . rename_i d;have d:=cT d;cases h;obtain⟨j,v1,a1,a2,a3⟩:=cv he al g;obtain⟨o,r,b1,b2,b3⟩:=cv he al i;have:=a2.kl;subst this;have:=b2.gn;subst this;by_cases p:aH m (List.length l)=true
     . obtain⟨h1,f⟩:=s9.1 p;refine .neutral aF (v1:= .c (.dM (el (List.map (t.enc U) l) (Int.toNat m)) 0)) ?_ λa e=>⟨j/\o/\(0:Int)<=m/\Int.toNat m<(List.map (t.enc U) l).length/\(el (List.map (t.enc U) l) (Int.toNat m)).length=sz,by simp only[aO,a1,b1,ao],a3 a,b3 a,h1,vN f,by rw[zY f,aJ.sb];exact d⟩
       rw[zY f];exact .c (.dM _ _ _)
     . exact .neutral aF (.c (.dM _ _ _)) λa e=>absurd e p
   . cases h
 . rename_i b k m g i;split at h
   . rename_i t l q;split at h
     . rename_i d;have d:=cT d;cases h;obtain⟨j,v1,a1,a2,a3⟩:=cv he al g;obtain⟨o,r,b1,b2,b3⟩:=cv he al i;obtain⟨u,n,rfl,s,a⟩:=a2.gY;have:=b2.gn;subst this;have:=a _ q _ rfl;cases this;refine .neutral aF (.c (.cF _ _ _ _)) λa e=>⟨j/\o/\(0:Int)<=m/\Int.toNat m<l.length/\sz=t.sz U,?_,a3 a,b3 a,(s9.1 e).1,(s9.1 e).2,d.symm⟩
       simp only[aO,a1,b1,ao,ga,d]
     . cases h
   . cases h
 . cases h
theorem adA(h:ct gl gd env J N (.idxS x y)=some (c,v,J')):dV N J J1 (.idxS x y) env1 (cE env G gd) c v J':=by
 simp only[ct]at h;split at h
 . rename_i s k m d e;cases h;obtain⟨f,v1,a1,a2,a3⟩:=cv he al d;obtain⟨g,i,b1,b2,b3⟩:=cv he al e;have:=a2.km;subst this;have:=b2.gn;subst this;exact .neutral aF (.c (.t (U:=U) ⟨.int .u8,_⟩)) λb a=>⟨f/\g/\(0:Int)<=m/\Int.toNat m<List.length s,by simp only[aO,a1,b1,ao];rfl,a3 b,b3 b,(s9.1 a).1,(s9.1 a).2⟩
 . cases h
theorem pS{x:Option aP}{l:Option Int}(h:n1 gl gd env x=some l):∃p,jO env1 x=some (p,l)/\(cE env G gd=true->p):=by
 unfold n1 at h;split at h
 . cases h;exact⟨True,rfl,λ_=>trivial⟩
 . split at h
   . rename_i k n a;cases h;obtain⟨b,v1,a1,a2,a3⟩:=cv he al a;have:=a2.gn;subst this;exact⟨b,by simp only[jO,a1,ao],a3⟩
   . cases h
theorem adB{d b:Option aP}(h:ct gl gd env J N (.slcS x d b)=some (c,v,J')):dV N J J1 (.slcS x d b) env1 (cE env G gd) c v J':=by
 simp only[ct]at h;split at h
 . rename_i s l r f af g;cases h;obtain⟨j,v1,a1,a2,a3⟩:=cv he al f;obtain⟨pl,i,l2⟩:=pS he al aF af;obtain⟨k,m,n⟩:=pS he al aF g;have:=a2.km;subst this;exact .neutral aF (.c (.t (U:=U) ⟨.str,_⟩)) λa e=>⟨j/\pl/\k/\0<=l.getD 0/\l.getD 0<=r.getD (List.length s:Int)/\r.getD (List.length s:Int)<=(List.length s:Int),by simp only[aO,a1,i,m,ao];rfl,a3 a,l2 a,n a,iK.1 e⟩
 . cases h
theorem ahl{sz:Nat}{j D:Option aP}(h:ct gl gd env J N (.slc sz x j D)=some (c,v,J')):dV N J J1 (.slc sz x j D) env1 (cE env G gd) c v J':=by
 simp only[ct]at h;split at h
 . rename_i t s l r g af m;split at h
   . rename_i d;have d:=cT d;cases h;obtain⟨o,v1,a1,a2,a3⟩:=cv he al g;obtain⟨pl,C,l2⟩:=pS he al aF af;obtain⟨q,u,w⟩:=pS he al aF m;have:=a2.kl;subst this;refine .neutral aF (.c (.t (U:=U) ⟨.slice t,_⟩)) λf a=>⟨o/\pl/\q/\0<=l.getD 0/\l.getD 0<=r.getD (List.length s:Int)/\r.getD (List.length s:Int)<=(List.length s:Int)/\∀e,e∈List.map (t.enc U) s->e.length=sz,?_,a3 f,l2 f,w f,(iK.1 a).1,(iK.1 a).2.1,(iK.1 a).2.2,?_⟩
     . simp only[aO,a1,C,u,ao];exact adu
     . intro e F;obtain⟨y,_,rfl⟩:=eO.1 F;rw[aJ.sb];exact d
   . cases h
 . rename_i b r g af m;split at h
   . rename_i t s z;split at h
     . rename_i d;have d:=cT d;cases h;obtain⟨o,v1,a1,a2,a3⟩:=cv he al g;obtain⟨q,u,w⟩:=pS he al aF m;obtain⟨I,n,rfl,A,f⟩:=a2.gY;have k:=f _ z (t.sz U,s.length) rfl;simp only[bB]at k;obtain⟨rfl,rfl⟩:=k;have B:j=none:=by
        cases j with
        |none=>rfl
        |some x=>simp only[n1]at af;split at af<;>cases af
       subst B;refine .neutral aF (.c (.pre b (t.sz U) _ A λx H p g=>?_)) λi a=>⟨o/\True/\q/\0<=(none:Option Int).getD 0/\(none:Option Int).getD 0<=r.getD (List.length s:Int)/\r.getD (List.length s:Int)<=(List.length s:Int)/\sz=t.sz U,?_,a3 i,trivial,w i,(iK.1 a).1,(iK.1 a).2.1,(iK.1 a).2.2,d.symm⟩
       . grind
       . have E:jO env1 none=some (True,none):=rfl;simp only[aO,a1,E,u,ao];rfl
     . cases h
   . cases h
 . rename_i b l r g af m;split at h
   . rename_i t s z;split at h
     . rename_i d;have d:=cT d;cases h;obtain⟨o,v1,a1,a2,a3⟩:=cv he al g;obtain⟨pl,C,l2⟩:=pS he al aF af;obtain⟨q,u,w⟩:=pS he al aF m;obtain⟨I,n,rfl,A,f⟩:=a2.gY;have k:=f _ z (t.sz U,s.length) rfl;simp only[bB]at k;obtain⟨rfl,rfl⟩:=k;have B:j.isNone=false:=by
        cases j with
        |none=>simp[n1]at af
        |some x=>rfl
       refine .neutral aF (.c (.dG b (t.sz U) _ _ A λx H p g=>?_)) λi a=>⟨o/\pl/\q/\0<=(some l:Option Int).getD 0/\(some l:Option Int).getD 0<=r.getD (List.length s:Int)/\r.getD (List.length s:Int)<=(List.length s:Int)/\sz=t.sz U,?_,a3 i,l2 i,w i,(iK.1 a).1,(iK.1 a).2.1,(iK.1 a).2.2,d.symm⟩
       . grind
       . simp only[aO,a1,C,u,ao,B,bV,b6,ga];rfl
     . cases h
   . cases h
 . cases h
theorem adC(h:ct gl gd env J N (.slc0 x)=some (c,v,J')):dV N J J1 (.slc0 x) env1 (cE env G gd) c v J':=by
 simp only[ct]at h;split at h
 . rename_i t l d;cases h;obtain⟨p,v1,a1,a2,a3⟩:=cv he al d;have:=a2.kl;subst this;exact .neutral aF (.c .ay) λa _=>⟨p,by simp[aO,a1],a3 a⟩
 . rename_i d;cases h;obtain⟨p,v1,a1,a2,a3⟩:=cv he al d;have:=a2.uu;subst this;exact .neutral aF (.c .ay) λa _=>⟨p,by simp[aO,a1],a3 a⟩
 . rename_i b d;cases h;obtain⟨p,v1,a1,a2,a3⟩:=cv he al d;obtain⟨sz,n,rfl,_⟩:=a2.gY;exact .neutral aF (.c .ay) λa _=>⟨p,by simp[aO,a1],a3 a⟩
 . cases h
theorem S0:∀{vs:List (bz U)} {ds:List V} {l:a7},AJ vs=some l->a' (ca N J) vs ds->aO.r5 ds=some l
 |[],[],l,h,.nil=>by simp[AJ]at h;subst h;rfl
 |.c (.ptr b 0)::vs,d::ds,l,h,.cons h1 a=>by
  simp only[AJ]at h;split at h
  . rename_i e af;cases h;have:=h1.hQ;subst this;simp[aO.r5,S0 af a]
  . cases h
theorem adD{f:Nat}{caps:List aP}(h:ct gl gd env J N (.mkfn f caps)=some (c,v,J')):dV N J J1 (.mkfn f caps) env1 (cE env G gd) c v J':=by
 simp only[ct]at h;split at h
 . rename_i vs b;split at h
   . rename_i l af;cases h;obtain⟨p,ds,a1,a2,a3⟩:=tD he al b;exact .neutral aF (.c (.fn _ _)) λa _=>⟨p,by simp[aO,a1,S0 he al aF af a2],a3 a⟩
   . cases h
 . cases h
theorem ahe{i:Nat}(h:ct gl gd env J N (.ext x i)=some (c,v,J')):dV N J J1 (.ext x i) env1 (cE env G gd) c v J':=by
 simp only[ct]at h;split at h
 . rename_i vs e;split at h
   . rename_i w b;cases h;obtain⟨p,v1,a1,a2,a3⟩:=cv he al e;cases a2 with
     |aY _ ds af d=>
      have f:=(c5.1 b).1;have a:=eH (l:=ds) (i:=i) (by omega);exact .neutral aF (d i _ _ b a) λal _=>⟨p,by simp only[aO,a1,ao,a,fZ],a3 al⟩
   . cases h
 . cases h
theorem adE(h:ct gl gd env J N (.max2 x y)=some (c,v,J')):dV N J J1 (.max2 x y) env1 (cE env G gd) c v J':=by
 simp only[ct]at h;split at h
 . rename_i k a l b e f;simp only[dC,bF,bB]at h;obtain⟨rfl,rfl,rfl,rfl⟩:=h;obtain⟨g,v1,a1,a2,a3⟩:=cv he al e;obtain⟨i,m,b1,b2,b3⟩:=cv he al f;have:=a2.gn;subst this;have:=b2.gn;subst this;exact .neutral aF (.c (.t (U:=U) ⟨.int k,_⟩)) λd j=>⟨g/\i,by simp only[aO,a1,b1,ao,bS];rfl,a3 d,b3 d⟩
 . cases h
theorem adF(h:ct gl gd env J N (.min2 x y)=some (c,v,J')):dV N J J1 (.min2 x y) env1 (cE env G gd) c v J':=by
 simp only[ct]at h;split at h
 . rename_i k a l b e f;simp only[dC,bF,bB]at h;obtain⟨rfl,rfl,rfl,rfl⟩:=h;obtain⟨g,v1,a1,a2,a3⟩:=cv he al e;obtain⟨i,m,b1,b2,b3⟩:=cv he al f;have:=a2.gn;subst this;have:=b2.gn;subst this;exact .neutral aF (.c (.t (U:=U) ⟨.int k,_⟩)) λd j=>⟨g/\i,by simp only[aO,a1,b1,ao,bS];rfl,a3 d,b3 d⟩
 . cases h
theorem acx{parts:List (Nat×Nat×aP)}(h:ct gl gd env J N (.build z parts)=some (c,v,J')):dV N J J1 (.build z parts) env1 (cE env G gd) c v J':=by
 simp only[ct]at h;split at h
 . rename_i e d;split at h
   . rename_i cs a;cases h;obtain⟨p,ds,a1,a2,a3⟩:=Tp he al a (tz d);exact .neutral aF (.agg a2) λb _=>⟨p,by simp[aO,a1],a3 b⟩
   . cases h
 . cases h
theorem acy{cs:List C}(h:ct gl gd env J N (.alloc cs)=some (c,v,J')):dV N J J1 (.alloc cs) env1 (cE env G gd) c v J':=by
 simp only[ct]at h;split at h
 . rename_i xs a;cases h;have k:dk N J (N+16) (cC J N (.box xs)):=lM;exact .store rfl k (.c (.ptr _ _)) λb _=>⟨True,_,rfl,trivial,aF.put (by omega) k (.box (tz a))⟩
 . cases h
theorem ahd(h:ct gl gd env J N (.box x)=some (c,v,J')):dV N J J1 (.box x) env1 (cE env G gd) c v J':=by
 simp only[ct]at h;split at h
 . rename_i w d;split at h
   . rename_i cs a;cases h;obtain⟨p,v1,a1,a2,a3⟩:=cv he al d;obtain⟨ds,b1,b2⟩:=pR a2 a;have k:dk N J (N+16) (cC J N (.box cs)):=lM;exact .store rfl k (.c (.ptr _ _)) λb _=>⟨p,_,by simp only[aO,a1,ao,b1,fZ],a3 b,aF.put (by omega) k (.box (b2.imp λ_ _ _=>cj.mono k))⟩
   . cases h
 . cases h
theorem aak{sz len:Nat}{parts:List (Nat×aP)}(h:ct gl gd env J N (.bslice sz len z parts)=some (c,v,J')):dV N J J1 (.bslice sz len z parts) env1 (cE env G gd) c v J':=by
 simp only[ct]at h;split at h
 . rename_i m j;split at h
   . cases h
   . rename_i ts f;split at h
     . cases h
     . rename_i b;have b:=cT b;split at h
       . rename_i rows a;cases h;have l:=tz (N:=N) (J:=J) j;obtain⟨p,es,a1,a2,a4,a3⟩:=Gs he al a (es:=List.replicate len ts) (a'.replicate (R:=λr e=>hT r=some e) f len) (by intro r a;rw[BD a];exact b);have k:dk N J (N+16) (cC J N (.rows sz rows)):=lM;refine .store rfl k (.c (.arr N sz es.length (by omega) ?_)) λi _=>⟨p,_,by simp only[aO,DC l f,ao,a1,fZ];rw[S7 a1,List.length_replicate],a3 i,aF.put (by omega) k (.rows a2 a4)⟩
         intro x g q d;rw[hN,ad rfl]at g;cases g;simp only[cO.dc,bF]at d;rw[<-d,a2.length]
       . cases h
 . cases h
omit he al aF in
theorem ZF(h:toTs ds=some ts):yI ds=none:=by
 unfold yI;split
 . simp[toTs,toT]at h
 . rfl
omit he al aF in
theorem aal{J1:a8}{w:bz U}{d:V}(h:ca N J w d)(e:∀b a len,w≠.c (.dG b a len))(f:∀b a len,w≠.c (.sub b a len))(g:w≠.c .dead):mR v1 d=none:=by
 unfold mR;split
 . cases h with
   |c h=>
    cases h with
    |sub b a len=>exact absurd rfl (f _ _ _)
    |dG b sz a len=>exact absurd rfl (e _ _ _)
    |dead d=>exact absurd rfl g
 . rfl
theorem acz{k:Nat}(h:ct gl gd env J N (.store k x y)=some (c,v,J')):dV N J J1 (.store k x y) env1 (cE env G gd) c v J':=by
 simp only[ct]at h;split at h
 . rename_i b o w j B;split at h
   . rename_i cs s;split at h
     . rename_i u;have u:=cT u;split at h
       . rename_i ds F;split at h
         . rename_i V;have V:=h2 V;cases h;obtain⟨p,v1,a1,a2,a3⟩:=cv he al j;obtain⟨q,O,b1,b2,b3⟩:=cv he al B;have:=a2.hQ;subst this;obtain⟨es,g,d⟩:=pR b2 s;obtain⟨D,z,d1,d2⟩:=aF b _ F;cases d2 with
           | @box _ fs d2=>
            have a:dk N J (N+16) (cC J b (.box (wJ ds o cs))):=nD (by omega) F (λp h=>by simp[cO.dc]at h);refine .store rfl a (.aY [] [] rfl (by simp)) λf _=>⟨p/\q,_,?_,⟨a3 f,b3 f⟩,aF.put (by omega) a (.box (GC (d2.imp λ_ _ _=>cj.mono a) (d.imp λ_ _ _=>cj.mono a)))⟩
            simp only[aO,a1,b1,ao,g];rw[ad (by rw[<-d.length];exact u),d1];dsimp only;rw[ad (by rw[<-d2.length];exact V)]
         . cases h
       . rename_i E P F;split at h
         . rename_i P _;cases h;obtain⟨p,v1,a1,a2,a3⟩:=cv he al j;obtain⟨q,O,b1,b2,b3⟩:=cv he al B;have:=a2.hQ;subst this;obtain⟨es,g,d⟩:=pR b2 s;obtain⟨D,z,d1,d2⟩:=aF b _ F;cases d2 with
           |b8 d2=>
            cases d with|cons d n=>
            cases n;have a:dk N J (N+16) (cC J b (.b8 E P)):=nD (by omega) F (λp h=>by simp[cO.dc]at h);refine .store rfl a (.aY [] [] rfl (by simp)) λf _=>⟨p/\q,_,?_,⟨a3 f,b3 f⟩,aF.put (by omega) a (.b8 (d.mono a))⟩
            simp only[aO,a1,b1,ao,g];grind
         . cases h
       . cases h
     . cases h
   . cases h
 . rename_i b t i o w j B;split at h
   . rename_i cs s;split at h
     . rename_i u;simp only[cd]at u;have C:=cT u.1;have I:=h2 u.2;split at h
       . rename_i S X m;split at h
         . rename_i l af;have e:=Cell.ku af;cases e;split at h
           . rename_i Q R;cases h;obtain⟨rfl,T,rfl⟩:cs=[Q]/\∃T,Q= .arr T:=by
              unfold Rb at R;split at R<;>cases R;exact⟨rfl,_,rfl⟩
             obtain⟨p,v1,a1,a2,a3⟩:=cv he al j;obtain⟨q,O,b1,b2,b3⟩:=cv he al B;have:=a2.jc;subst this;obtain⟨es,g,d⟩:=pR b2 s;cases d with|cons d n=>
             cases n;have aa:=d;cases d with|arr _ an am ai aj=>
             obtain⟨D,z,d1,d2⟩:=aF b _ m;cases d2 with
             |arr=>
              have a:dk N J (N+16) (cC J b (.cA t l i o (.arr T))):=nD (by omega) m (λp h=>by simpa[cO.dc]using h);refine .store rfl a (.aY [] [] rfl (by simp)) λf r=>⟨p/\q/\t.sz U=t.sz U/\i<(List.map (t.enc U) l).length/\o+k<=t.sz U,_,?_,⟨a3 f,b3 f,rfl,vN (gR r),I⟩,aF.put (by omega) a (.cA t l i o (aa.mono a))⟩
              simp only[aO,a1,b1,ao,g];rw[ad (by simpa using C)];simp only[d1,yI]
           rename_i R;split at h
           . rename_i l2 K;cases h;obtain⟨p,v1,a1,a2,a3⟩:=cv he al j;obtain⟨q,O,b1,b2,b3⟩:=cv he al B;have:=a2.jc;subst this;obtain⟨es,g,d⟩:=pR b2 s;obtain⟨D,z,d1,d2⟩:=aF b _ m;cases d2 with
             |arr=>
              have ae:l2.length=List.length l:=by
               unfold rQ at K;grind
              have a:dk N J (N+16) (cC J b (.arr t l2)):=nD (by omega) m (λp h=>by
               simp only[cO.dc]at h⊢
               grind)
              refine .store rfl a (.aY [] [] rfl (by simp)) λf r=>?_;have H:i<List.length l:=gR r;obtain⟨ts,aK,ab⟩:=HG K H d (by rw[C];exact I);refine⟨p/\q/\t.sz U=t.sz U/\i<(List.map (t.enc U) l).length/\o+k<=t.sz U,_,?_,⟨a3 f,b3 f,rfl,vN H,I⟩,aF.put (by omega) a (.arr t l2)⟩;simp only[aO,a1,b1,ao,g];rw[ad (by rw[<-d.length];exact C),d1];dsimp only;rw[ZF aK];grind
           . cases h
         . cases h
       . rename_i S X L Z P m;split at h
         . rename_i Q;split at h
           . rename_i A;split at h
             . rename_i W;cases h;have A:=cT A;have W:=cT W;subst A;obtain⟨p,v1,a1,a2,a3⟩:=cv he al j;obtain⟨q,O,b1,b2,b3⟩:=cv he al B;have:=a2.jc;subst this;obtain⟨es,g,d⟩:=pR b2 s;cases d with|cons d n=>
               cases n;obtain⟨D,z,d1,d2⟩:=aF b _ m;cases d2 with
               |cA _ _ _ _ d2=>
                have a:dk N J (N+16) (cC J b (.cA S X L o Q)):=nD (by omega) m (λp h=>by simpa[cO.dc]using h);refine .store rfl a (.aY [] [] rfl (by simp)) λf r=>⟨p/\q/\t.sz U=S.sz U/\i=L,_,?_,⟨a3 f,b3 f,W,gR r⟩,aF.put (by omega) a (.cA S X L o (d.mono a))⟩
                simp only[aO,a1,b1,ao,g];rw[ad (by simpa using C),d1];dsimp only;rw[ad rfl]
             . cases h
           . rename_i A;have A:=hE A;split at h
             . rename_i l af;have e:=Cell.ku af;cases e;split at h
               . rename_i l2 K;cases h;obtain⟨p,v1,a1,a2,a3⟩:=cv he al j;obtain⟨q,O,b1,b2,b3⟩:=cv he al B;have:=a2.jc;subst this;obtain⟨es,g,d⟩:=pR b2 s;obtain⟨D,z,d1,d2⟩:=aF b _ m;cases d2 with
                 |cA _ _ _ _ d2=>
                  have ae:l2.length=List.length l:=by
                   unfold rQ at K;grind
                  have a:dk N J (N+16) (cC J b (.cA t l2 L Z P)):=nD (by omega) m (λp h=>by
                   simp only[cO.dc]at h⊢
                   grind)
                  refine .store rfl a (.aY [] [] rfl (by simp)) λf r=>?_;have H:i<List.length l:=gR r;obtain⟨ts,aK,ab⟩:=HG K H d (by rw[C];exact I);cases d with| @cons _ Y _ _ d n=>
                  cases n;obtain⟨M,ag,ah⟩:∃M,Shv.toT Y=some M/\ts=[M]:=by
                   simp only[toTs]at aK;cases j:Shv.toT Y with
                   |none=>rw[j]at aK;simp at aK
                   |some M=>rw[j]at aK;simp at aK;exact⟨M,rfl,aK.symm⟩
                  refine⟨p/\q/\t.sz U=t.sz U/\i<(List.map (t.enc U) l).length/\o+k<=t.sz U,_,?_,⟨a3 f,b3 f,rfl,vN H,I⟩,aF.put (by omega) a (.cA t l2 L Z (d2.mono a))⟩;simp only[aO,a1,b1,ao,g];rw[ad (by simpa using C),d1];dsimp only;rw[ak A,ag];subst ah;grind
               . cases h
             . cases h
         . cases h
       . cases h
     . cases h
   . cases h
 . cases h
inductive kq:fK U->List (List T)->Prop
 |ty (t:aJ) (l:List (t.den U.D)):kq (.ty t l) (l.map (t.enc U))
 |rows {r es}:a' (λr e=>hT r=some e) r es->kq (.rows r) es
 |nil:kq .nil []
omit he al aF in
theorem kq.length{e:fK U}(h:kq e es):es.length=e.len:=by
 cases h with
 |ty t l=>simp[fK.len]
 |rows h=>simp[fK.len,h.length]
 |nil=>rfl
omit he al aF in
theorem GD:∀{xs:List (bl U)} {db:List aJ} {e:List T} {row:List (Cell U.D)},iJ db xs=some row->hT xs=some e->e=row.map (Cell.enc U)
 |[],db,e,row,h1,a=>by
  cases db<;>simp[iJ]at h1;simp[hT]at a;grind
 |y::ys,[],e,row,h1,a=>by cases y<;>simp[iJ]at h1
 |y::ys,ty::db,e,row,h1,a=>by
  simp only[hT]at a;split at a
  . rename_i t ts ht d;cases a;cases y with
    |t c=>
     simp only[bl.toT]at ht;split at ht
     . cases ht
     . cases ht;cases ty<;>simp only[iJ]at h1<;>(split at h1<;>first|(cases h1;done)|(rename_i q b;cases h1;rw[GD b d];rfl))
    |ay=>
     simp only[bl.toT,bF]at ht;subst ht;cases ty<;>simp only[iJ,reduceCtorEq]at h1;split at h1
     . rename_i q b;cases h1;rw[GD b d];rfl
     . cases h1
    |_=>simp[bl.toT]at ht
  . cases a
omit he al aF in
theorem acS{r:List (bl U)}{x:t.den U.D}{e:List T}(h:qa U t r=some x)(he:hT r=some e):t.enc U x=e:=by
 unfold qa at h;split at h
 . rename_i row a;rw[aJ.uD,aJ.E4 h,GD a he]
 . cases h
omit he al aF in
theorem v'{t:aJ}:∀{r:List (List (bl U))} {l:List (t.den U.D)} {es:List (List T)},l6 U t r=some l->a' (λr e=>hT r=some e) r es->l.map (t.enc U)=es
 |[],l,es,h,a=>by cases a;simp[l6]at h;subst h;rfl
 |r::d,l,_::_,h,.cons h1 a=>by
  simp only[l6]at h;split at h
  . rename_i x xs b c;cases h;rw[gz,acS b h1,v' c a]
  . cases h
omit he al aF in
theorem kq.as{t:aJ}{e:fK U}{es:List (List T)}{l:List (t.den U.D)}(h:kq e es)(a:e.as t=some l):l.map (t.enc U)=es:=by
 cases h with
 |ty u c=>
  simp only[fK.as]at a;have:=Cell.ku a;grind
 |rows h=>exact v' a h
 |nil=>simp[fK.as]at a;subst a;rfl
omit he al aF in
theorem kq.join{x y z:fK U}{es fs:List (List T)}(f:kq x es)(c:kq y fs)(h:x.join y=some z):kq z (es++fs):=by
 cases f with
 |nil=>simp[fK.join]at h;subst h;exact c
 |ty t l=>
  simp only[fK.join]at h;split at h
  . rename_i j af;cases h;rw[<-c.as af,<-p4];exact .ty t _
  . cases h
 |rows a=>
  cases c with
  |ty t l=>
   simp only[fK.join]at h;split at h
   . rename_i j af;cases h;rw[<-v' af a,<-p4];exact .ty t _
   . cases h
  |rows e=>simp[fK.join]at h;subst h;exact .rows (a.append e)
  |nil=>simp[fK.join]at h;subst h;rw[lX];exact .rows a
omit he al aF in
theorem kq.blk{e:fK U}{es:List (List T)}{sz:Nat}{b:cO U}(h:kq e es)(a:e.blk sz=some b):hU N' J' b (.arr sz es)/\(∀x,x∈es->x.length=sz)/\b.dc=some (sz,e.len):=by
 cases h with
 |ty t l=>
  simp only[fK.blk]at a;split at a
  . rename_i hs;have:=cT hs;subst this;cases a;refine⟨.arr t l,λx c=>?_,rfl⟩;obtain⟨y,_,rfl⟩:=eO.1 c;exact aJ.sb
  . cases a
 | @rows r es f=>
  simp only[fK.blk]at a;split at a
  . rename_i hs;cases a;simp only[cY]at hs;refine⟨.rows f λx c=>cT (hs x c),λx c=>?_,rfl⟩;obtain⟨i,o,rfl⟩:=eZ c;obtain⟨y,h1,j⟩:=(f.flip (R':=λe r=>hT r=some e) λ_ _ h=>h).get (eH o);rw[HF j];exact cT (hs y (eM h1))
  . cases a
 |nil=>
  simp only[fK.blk,bF]at a;subst a;exact⟨.rows .nil (by simp),by simp,rfl⟩
omit he al in
theorem Hk{e:fK U}{f:Option Nat}(c:ca N J v v1)(h:rN J v=some (e,f)):∃es,l7 J1 v1=some (es,f)/\kq e es:=by
 unfold rN at h;split at h
 . rename_i t l;cases h;have:=c.kl;subst this;exact⟨_,rfl,.ty t l⟩
 . cases h;have:=c.uu;subst this;exact⟨_,rfl,.nil⟩
 . rename_i b;obtain⟨sz,n,rfl,i,d⟩:=c.gY;split at h
   . rename_i t l af;cases h;obtain⟨_,y,h1,a⟩:=aF b _ af;cases a;have:=d _ af _ rfl;cases this;exact⟨_,by simp[l7,h1],.ty t l⟩
   . rename_i j r af;cases h;obtain⟨_,y,h1,a⟩:=aF b _ af;cases a with
     |rows a g=>
      have:=d _ af _ rfl;cases this;exact⟨_,by simp[l7,h1,a.length],.rows a⟩
   . cases h
 . cases h
theorem ahh{str:Bool}(h:ct gl gd env J N (.len str x)=some (c,v,J')):dV N J J1 (.len str x) env1 (cE env G gd) c v J':=by
 simp only[ct]at h;split at h
 . rename_i s d;cases h;obtain⟨p,v1,a1,a2,a3⟩:=cv he al d;have:=a2.km;subst this;exact .neutral aF (.c (.t (U:=U) ⟨.int .i64,_⟩)) λa _=>⟨p,by simp only[aO,a1,ao];rfl,a3 a⟩
 . rename_i b d;split at h
   . rename_i E s g;cases h;obtain⟨p,v1,a1,a2,a3⟩:=cv he al d;obtain⟨n,rfl,_,f⟩:=a2.A4;have:=f _ g _ rfl;cases this;exact .neutral aF (.c (.t (U:=U) ⟨.int .i64,_⟩)) λa _=>⟨p,by simp only[aO,a1,ao];rfl,a3 a⟩
   . cases h
 . rename_i w d;split at h
   . rename_i e dR;obtain⟨e,i⟩:=e;cases h;obtain⟨p,v1,a1,a2,a3⟩:=cv he al d;refine .neutral aF (.c (.t (U:=U) ⟨.int .i64,_⟩)) λa _=>⟨p,?_,a3 a⟩
     unfold rN at dR;split at dR
     . rename_i t l;cases dR;have:=a2.kl;subst this;simp only[aO,a1,ao];exact adv
     . cases dR;have:=a2.uu;subst this;simp only[aO,a1,ao];rfl
     . rename_i b;obtain⟨sz,n,rfl,g,f⟩:=a2.gY;simp only[aO,a1,ao];split at dR
       . rename_i t l af;cases dR;have:=f _ af _ rfl;cases this;rfl
       . rename_i j r af;cases dR;have:=f _ af _ rfl;cases this;rfl
       . cases dR
     . cases dR
   . cases h
 . cases h
omit he al aF in
theorem G'{bytes n:Nat}:room bytes n=true↔(2*n+192)*bytes<=j8/\n<=eG:=by simp[room]
omit he al aF in
theorem Dn{bytes n:Nat}(h:room bytes n=true):lC n bytes/\n<=eG:=⟨.inl (G'.1 h).1,(G'.1 h).2⟩
theorem aam{sz bytes:Nat}(h:ct gl gd env J N (.append sz bytes x y)=some (c,v,J')):dV N J J1 (.append sz bytes x y) env1 (cE env G gd) c v J':=by
 simp only[ct]at h;split at h
 . rename_i w d u;split at h
   . rename_i ab ap C;split at h
     . rename_i blk M;cases h;obtain⟨p,v1,a1,a2,a3⟩:=cv he al d;obtain⟨q,D,b1,b2,b3⟩:=cv he al u;have:=a2.uu;subst this;obtain⟨ys,E,o⟩:=Hk aF b2 C;have k:dk N J (N+16) (cC J N blk):=lM;obtain⟨d1,d2,d3⟩:=o.blk (N':=N+16) (J':=cC J N blk) M;refine .store rfl k (.c (.arr N sz ys.length (by omega) ?_)) λj m=>⟨p/\q/\(∀e,e∈ys->e.length=sz)/\lC ys.length bytes/\ys.length<=eG,_,by simp only[aO,a1,b1,ao,show mR (.c .ay) D=none from rfl,E],⟨a3 j,b3 j,d2,?_⟩,aF.put (by omega) k d1⟩
       . intro x d r f;rw[hN,ad rfl]at d;cases d;rw[d3]at f;cases f;rw[o.length]
       . rw[o.length];exact Dn m
     . cases h
   . cases h
 . rename_i b w d u;split at h
   . rename_i ar xb ab aa W C;split at h
     . cases h
     . rename_i am;split at h
       . cases h
       . rename_i s;split at h
         . rename_i au Z;split at h
           . rename_i blk M;cases h;obtain⟨p,v1,a1,a2,a3⟩:=cv he al d;obtain⟨q,D,b1,b2,b3⟩:=cv he al u;obtain⟨g,Q,V,ag,R⟩:=a2.gY;subst V;obtain⟨ys,E,o⟩:=Hk aF b2 C;obtain⟨xs,aK,B⟩:=Hk aF a2 W;have a:=B.join o Z;have A:dk N (dl J b) (N+16) (cC (dl J b) N blk):=lM;have k:dk N J (N+16) (cC (dl J b) N blk):=dk.trans s5 A;obtain⟨d1,d2,d3⟩:=a.blk (N':=N+16) (J':=cC (dl J b) N blk) M;obtain⟨hs,aD⟩:aW J1 b=some (.arr g xs)/\Q=xs.length:=by
              simp only[l7]at aK;grind
             have T:g=sz:=by
              unfold RM at s;split at s
              . rename_i z a;split at s
                . rename_i r f;have:=R _ a _ f;simp_all
                . cases s
              . cases s
             subst T;have I:cx N (dl J b) (ib J1 b):=by
              intro i z a;rw[n5]at a;split at a
              . cases a
              . rename_i L;obtain⟨h1,y,F,H⟩:=aF i z a;exact⟨h1,y,by rw[fN,ak L];exact F,H.mono s5⟩
             have an:aa≠some b:=by
              intro e;simp_all
             refine .store rfl k (.c (.arr N g (xs++ys).length (by omega) ?_)) λj m=>⟨p/\q/\g=g/\g=g/\0=0/\Q=xs.length/\(∀e,e∈ys->e.length=g)/\lC (xs.length+ys.length) bytes/\xs.length+ys.length<=eG,_,?_,⟨a3 j,b3 j,rfl,rfl,rfl,aD,λe he=>d2 e (by simp[he]),?_⟩,I.put (by omega) A d1⟩
             . intro x d r f;rw[hN,ad rfl]at d;cases d;rw[d3]at f;cases f;rw[a.length]
             . have P:mR (.c (.arr b g 0 Q)) D=none:=by
                refine aal (J1:=J1) b2 ?_ ?_ ?_<;>(intros;rintro rfl;simp[rN]at C)
               simp only[aO,a1,b1,ao,P,E,hs];grind
             . have:=Dn m;rw[<-a.length,c2]at this;exact this
           . cases h
         . cases h
   . cases h
 . rename_i b h0 ae n len d u;split at h
   . rename_i K;have K:=cT K;subst K;split at h
     . rename_i t l af;split at h
       . rename_i O;have O:=cT O;cases h;obtain⟨p,v1,a1,a2,a3⟩:=cv he al d;obtain⟨q,D,b1,b2,b3⟩:=cv he al u;cases a2 with|c a2=>
         cases a2 with|pre _ s1 _ ah X=>
         cases b2 with|c b2=>
         cases b2 with|dG _ aq _ _ ai Y=>
         have aK:=X _ af _ rfl;have B:=Y _ af _ rfl;dsimp only at aK B;subst aK B;obtain⟨aj,z,d1,d2⟩:=aF b _ af;cases d2 with
         |arr=>
          have A:dk N (dl J b) (N+16) (cC (dl J b) N (.arr t (l.take h0++(l.drop n).take len))):=lM;have k:dk N J (N+16) (cC (dl J b) N (.arr t (l.take h0++(l.drop n).take len))):=dk.trans s5 A;have I:cx N (dl J b) (ib J1 b):=by
           intro i z a;rw[n5]at a;split at a
           . cases a
           . rename_i L;obtain⟨h1,y,F,H⟩:=aF i z a;exact⟨h1,y,by rw[fN,ak L];exact F,H.mono s5⟩
          refine .store rfl k (.c (.arr N (t.sz U) (l.take h0++(l.drop n).take len).length (by omega) ?_)) λj m=>?_
          . intro x d r f;rw[hN,ad rfl]at d;cases d;simp only[cO.dc,bF]at f;exact f.symm
          . simp only[cd,dn]at m;have S:(l.take h0++(l.drop n).take len).length=h0+len:=by simp;omega
            refine⟨p/\q/\t.sz U=t.sz U/\t.sz U=t.sz U/\t.sz U=t.sz U/\0=0/\h0+len<=(l.map (t.enc U)).length/\n+len<=(l.map (t.enc U)).length,_,?_,⟨a3 j,b3 j,rfl,rfl,rfl,rfl,by simpa using m.1,by simpa using m.2⟩,I.put (by omega) A (.arr t _)⟩;have P:mR (.c (.arr b (t.sz U) 0 h0)) (.c (.fw b (t.sz U) n len))=some (b,t.sz U,0,h0,t.sz U,n,len):=(by simp[mR]);simp only[aO,a1,b1,ao,P,uq,d1,S,p4,ym,BN];subst O;simp
       . cases h
     . cases h
   . cases h
 . cases h
omit he al aF in
theorem S1{t:aJ}(ht:t.xy=false):∀{xs:List (bl U)} {ds:List C} {l:List (t.den U.D)},a' (cj N J) xs ds->AS t xs=some l->∃ts,toTs ds=some ts/\ts.map (λx=>[x])=l.map (t.enc U)
 |[],[],l,_,h=>by simp[AS]at h;subst h;exact⟨[],rfl,rfl⟩
 |x::xs,d::ds,l,.cons h1 b,h=>by
  unfold AS at h;split at h
  . grind
  . rename_i c r g;cases g;split at h
    . rename_i y m e i;cases h;obtain⟨ts,aK,a⟩:=S1 ht b i;cases h1;have f:=Cell.ku e;subst f;refine⟨Cell.enc U ⟨t,y⟩::ts,by simp[toTs,aK,toT],?_⟩;rw[gz,a,gz]
      congr 1
      cases t<;>first|rfl|cases ht
    . cases h
  . cases h
theorem abw{cs:List C}(h:ct gl gd env J N (.allocA cs)=some (c,v,J')):dV N J J1 (.allocA cs) env1 (cE env G gd) c v J':=by
 simp only[ct]at h;split at h
 . rename_i xs e;split at h
   . rename_i t l af;cases h;unfold NT at af;split at af
     . rename_i a r;split at af
       . rename_i b ht hs;cases af;obtain⟨ts,aK,d⟩:=S1 ht (tz (N:=N) (J:=J) e) hs;have k:dk N J (N+16) (cC J N (.arr a.ty b)):=lM;refine .store rfl k (.c (.ptr _ _)) λf _=>⟨True,_,by simp only[aO,aK,fZ,d];rfl,trivial,aF.put (by omega) k ?_⟩
         have g:a.ty.sz U=1:=by
          generalize a.ty=t0 at ht;cases t0<;>first|rfl|cases ht
         have:=hU.arr (N:=N+16) (J:=cC J N (.arr a.ty b)) a.ty b;grind
       . cases af
     . cases af
   . cases h
 . cases h
theorem acT{k:Nat}(h:ct gl gd env J N (.idxP k x y)=some (c,v,J')):dV N J J1 (.idxP k x y) env1 (cE env G gd) c v J':=by
 simp only[ct]at h;split at h
 . rename_i b kk m f g;split at h
   . rename_i t l n;split at h
     . rename_i a;have a:=cT a;cases h;obtain⟨i,v1,a1,a2,a3⟩:=cv he al f;obtain⟨j,o,b1,b2,b3⟩:=cv he al g;have:=a2.hQ;subst this;have:=b2.gn;subst this;refine .neutral aF (.c (.cF _ _ _ _)) λe d=>⟨i/\j/\(0:Int)<=m/\Int.toNat m<k,?_,a3 e,b3 e,(s9.1 d).1,(s9.1 d).2⟩
       simp only[aO,a1,b1,ao,a];rfl
     . cases h
   . cases h
 . cases h
theorem acU{k:Nat}{e d:Option aP}(h:ct gl gd env J N (.slcP k x e d)=some (c,v,J')):dV N J J1 (.slcP k x e d) env1 (cE env G gd) c v J':=by
 simp only[ct]at h;split at h
 . rename_i b l r g af i;cases h;obtain⟨m,v1,a1,a2,a3⟩:=cv he al g;obtain⟨pl,j,l2⟩:=pS he al aF af;obtain⟨n,o,p⟩:=pS he al aF i;have:=a2.hQ;subst this;exact .neutral aF (.c (.sub _ _ _)) λa f=>⟨m/\pl/\n/\0<=l.getD 0/\l.getD 0<=r.getD (k:Int)/\r.getD (k:Int)<=(k:Int),by simp only[aO,a1,j,o,ao],a3 a,l2 a,p a,iK.1 f⟩
 . cases h
omit he al aF in
theorem CD:∀(l:aq),bytesOf (List.map ((aJ.int .u8).enc U) l)=some (strOf l)
 |[]=>rfl
 |m::l=>by
  have:=CD l;show bytesOf ([T.int .u8 m]::_)=_;simp only[bytesOf,this];rfl
omit he al aF in
theorem acA{b len:Nat}{s:aj}(h:aW J1 b=some (.arr 1 es))(hs:bytesOf ((es.drop off).take len)=some s):m' J1 (.c (.arr b 1 off len))=some (off+len<=es.length,s):=by simp[m',h,hs]
omit he al aF in
theorem acB{b len:Nat}{s:aj}(h:aW J1 b=some (.arr 1 es))(hs:bytesOf ((es.drop off).take len)=some s):m' J1 (.c (.fw b 1 off len))=some (off+len<=es.length,s):=by simp[m',h,hs]
omit he al aF in
theorem ZG{s:aj}(hs:bytesOf es=some s):m' J1 (.c (.t (.slice es)))=some (True,s):=by simp[m',hs]
theorem ahb(h:ct gl gd env J N (.b2s x)=some (c,v,J')):dV N J J1 (.b2s x) env1 (cE env G gd) c v J':=by
 simp only[ct]at h;split at h
 . rename_i l d;cases h;obtain⟨f,v1,a1,a2,a3⟩:=cv he al d;have:=a2.kl;subst this
   exact .neutral aF (.c (.t (U:=U) ⟨.str,_⟩)) λa j=>⟨f/\True,by
    simp only[aO,a1,ao]
    exact(ep (Option.map _) (ZG (J1:=J1) (CD (U:=U) l))).trans rfl,a3 a,trivial⟩
 . rename_i d;cases h;obtain⟨f,v1,a1,a2,a3⟩:=cv he al d;have:=a2.uu;subst this;exact .neutral aF (.c (.t (U:=U) ⟨.str,_⟩)) λa j=>⟨f/\True,by simp only[aO,a1,ao,m',fZ];rfl,a3 a,trivial⟩
 . rename_i b d;split at h
   . rename_i l i;cases h;obtain⟨f,v1,a1,a2,a3⟩:=cv he al d;obtain⟨p,n,rfl,o,a⟩:=a2.gY;have:=a _ i _ rfl;cases this;obtain⟨_,y,m,k⟩:=aF _ _ i;cases k;refine .neutral aF (.c (.t (U:=U) ⟨.str,_⟩)) λa j=>⟨f/\(0+l.length<=(l.map ((aJ.int .u8).enc U)).length),?_,a3 a,by simp⟩
     simp only[aO,a1,ao];have e:bytesOf (((l.map ((aJ.int .u8).enc U)).drop 0).take l.length)=some (strOf l):=by rw[fE,ob (by simp)];exact CD l
     exact(ep (Option.map _) (acA m e)).trans rfl
   . cases h
 . rename_i b g len d;split at h
   . rename_i l i;cases h;obtain⟨f,v1,a1,a2,a3⟩:=cv he al d;have:v1= .c (.fw b 1 g len):=by cases a2 with|c h=>cases h;rfl
     subst this;obtain⟨_,y,m,k⟩:=aF _ _ i;cases k;refine .neutral aF (.c (.t (U:=U) ⟨.str,_⟩)) λa j=>⟨f/\(g+len<=(l.map ((aJ.int .u8).enc U)).length),?_,a3 a,by simpa[wE]using j⟩
     simp only[aO,a1,ao];have e:bytesOf (((l.map ((aJ.int .u8).enc U)).drop g).take len)=some (strOf ((l.drop g).take len)):=by rw[<-BN,<-ym];exact CD ((l.drop g).take len)
     exact(ep (Option.map _) (acB m e)).trans rfl
   . cases h
 . cases h
theorem abx{e8:Nat}(h:ct gl gd env J N (.allocS e e8)=some (c,v,J')):dV N J J1 (.allocS e e8) env1 (cE env G gd) c v J':=by
 simp only[ct,bF,bB]at h;obtain⟨rfl,rfl,rfl⟩:=h;have f:dk N J (N+16) (cC (cC J (N+1) (.buf e8 [])) N (.b8 e (.cG (N+1)))):=by
  refine⟨by omega,λb m k a=>?_⟩;rw[hN,bq,hN,bq]at a;grind
 refine .store rfl f (.c (.ptr _ _)) λ_ _=>⟨True,_,rfl,trivial,λb x a=>?_⟩
 rw[hN]at a;rw[cV];by_cases h1:N=b
 . rw[ad h1]at a⊢;cases a;refine⟨by omega,_,rfl,.b8 (.cG _ _ (by omega) λx a p g=>?_)⟩;rw[hN,bq,hN,ad rfl]at a;cases a;simpa[cO.dc]using g.symm
 . rw[ak h1,hN]at a;rw[ak h1,cV];by_cases d:N+1=b
   . rw[ad d]at a⊢;cases a;exact⟨by omega,_,rfl,.buf _ _⟩
   . rw[ak d]at a⊢;obtain⟨l,y,i,j⟩:=aF b x a;exact⟨by omega,y,i,j.mono f⟩
theorem acC(h:ct gl gd env J N .mkset=some (c,v,J')):dV N J J1 .mkset env1 (cE env G gd) c v J':=by
 simp only[ct,bF,bB]at h;obtain⟨rfl,rfl,rfl⟩:=h;have k:dk N J (N+16) (cC J N (.set [])):=lM;exact .store rfl k (.c (.mp _)) λ_ _=>⟨True,_,rfl,trivial,aF.put (by omega) k (.set _)⟩
theorem acD(h:ct gl gd env J N (.lkset x y)=some (c,v,J')):dV N J J1 (.lkset x y) env1 (cE env G gd) c v J':=by
 simp only[ct]at h;split at h
 . rename_i b s e f;split at h
   . rename_i ks d;cases h;obtain⟨p,v1,a1,a2,a3⟩:=cv he al e;obtain⟨q,g,b1,b2,b3⟩:=cv he al f;have:=a2.E5;subst this;have:=b2.km;subst this;obtain⟨_,z,d1,d2⟩:=aF b _ d;cases d2;exact .neutral aF (.c (.t (U:=U) ⟨.bool,_⟩)) λa _=>⟨p/\q,by simp only[aO,a1,b1,ao,d1];rfl,a3 a,b3 a⟩
   . cases h
 . cases h
theorem acE(h:ct gl gd env J N (.upset x y)=some (c,v,J')):dV N J J1 (.upset x y) env1 (cE env G gd) c v J':=by
 simp only[ct]at h;split at h
 . rename_i b s f g;split at h
   . rename_i ks d;cases h;obtain⟨p,v1,a1,a2,a3⟩:=cv he al f;obtain⟨q,j,b1,b2,b3⟩:=cv he al g;have:=a2.E5;subst this;have:=b2.km;subst this;obtain⟨i,z,d1,d2⟩:=aF b _ d;cases d2;have e:dk N J (N+16) (cC J b (.set (iR ks s))):=nD (by omega) d (λp h=>by simp[cO.dc]at h);exact .store rfl e (.aY [] [] rfl (by simp)) λa _=>⟨p/\q,_,by simp only[aO,a1,b1,ao,d1],⟨a3 a,b3 a⟩,aF.put (by omega) e (.set _)⟩
   . cases h
 . cases h
theorem ZH{bytes:Nat}(h:ct gl gd env J N (.appendB e bytes x y)=some (c,v,J')):dV N J J1 (.appendB e bytes x y) env1 (cE env G gd) c v J':=by
 simp only[ct]at h;split at h
 . rename_i b s a C;split at h
   . rename_i d l f;split at h
     . rename_i A;have:=cT A;subst this;cases h;obtain⟨p,v1,a1,a2,a3⟩:=cv he al a;obtain⟨q,E,b1,b2,b3⟩:=cv he al C;obtain⟨n,rfl,D,w⟩:=a2.A4;have:=w _ f _ rfl;cases this;have:=b2.km;subst this;obtain⟨_,z,d1,d2⟩:=aF b _ f;cases d2;have k:dk N J N (dl J b):=s5;have m:dk N (dl J b) (N+16) (cC (dl J b) N (.buf d (A6 l s))):=lM;have u:cx N (dl J b) (ib J1 b):=by
        intro o x a;rw[n5]at a;split at a
        . cases a
        . rename_i B;obtain⟨h1,y,r,t⟩:=aF o x a;exact⟨h1,y,by rw[fN,ak B];exact r,t.mono k⟩
       refine .store rfl (k.trans m) (.c (.cG N (List.length l+List.length s) (by omega) λx a p j=>?_)) λi g=>⟨p/\q/\d=d/\List.length l=List.length l/\lC (List.length l+List.length s) bytes/\List.length l+List.length s<=eG,_,?_,⟨a3 i,b3 i,rfl,rfl,(Dn g).1,(Dn g).2⟩,u.put (by omega) m (.buf _ _)⟩
       . rw[hN,ad rfl]at a;cases a;simp only[cO.dc,bF]at j;exact j.symm.trans (ep (Prod.mk 1) YB)
       . simp only[aO,a1,b1,ao,d1];rfl
     . cases h
   . cases h
 . cases h
theorem acF(h:ct gl gd env J N (.sdata x)=some (c,v,J')):dV N J J1 (.sdata x) env1 (cE env G gd) c v J':=by
 simp only[ct]at h;split at h
 . rename_i b d;cases h;obtain⟨p,v1,a1,a2,a3⟩:=cv he al d;obtain⟨n,rfl,_,_⟩:=a2.A4;exact .neutral aF (.c (.eg _)) λa _=>⟨p,by simp[aO,a1],a3 a⟩
 . cases h
theorem acV(h:ct gl gd env J N (.ustr e x y)=some (c,v,J')):dV N J J1 (.ustr e x y) env1 (cE env G gd) c v J':=by
 simp only[ct]at h;split at h
 . rename_i b m a w;split at h
   . rename_i d l o;split at h
     . rename_i s;have:=cT s;subst this;cases h;obtain⟨p,v1,a1,a2,a3⟩:=cv he al a;obtain⟨q,A,b1,b2,b3⟩:=cv he al w;have:=a2.Rw;subst this;have:=b2.gn;subst this;obtain⟨_,z,d1,d2⟩:=aF b _ o;cases d2;have g:dk N J N (dl J b):=s5;have n:cx N (dl J b) (ib J1 b):=by
        intro i x a;rw[n5]at a;split at a
        . cases a
        . rename_i u;obtain⟨h1,y,j,k⟩:=aF i x a;exact⟨h1,y,by rw[fN,ak u];exact j,k.mono g⟩
       refine .store rfl (g.trans (dk.more (by omega))) (.c (.t (U:=U) ⟨.str,_⟩)) λf r=>⟨p/\q/\d=d/\m=(List.length l:Int),_,?_,⟨a3 f,b3 f,rfl,acv.1 r⟩,n.mono (by omega)⟩
       simp only[aO,a1,b1,ao,d1];rfl
     . cases h
   . cases h
 . cases h
theorem ZI{sz len:Nat}{parts:List (Nat×aP)}(h:ct gl gd env J N (.bsliceT e sz len z parts)=some (c,v,J')):dV N J J1 (.bsliceT e sz len z parts) env1 (cE env G gd) c v J':=by
 simp only[ct]at h;split at h
 . cases h
 . rename_i t ht;split at h
   . rename_i k i;split at h
     . cases h
     . rename_i ts d;split at h
       . cases h
       . rename_i b;have b:=cT b;split at h
         . rename_i rows a;split at h
           . rename_i l af;cases h;have j:=tz (N:=N) (J:=J) i;obtain⟨p,es,a1,a2,a4,a3⟩:=Gs he al a (es:=List.replicate len ts) (a'.replicate (R:=λr e=>hT r=some e) d len) (by intro r a;rw[BD a];exact b);have f:l.map (t.enc U)=es:=v' af a2;refine .neutral aF (.c (.t (U:=U) ⟨.slice t,l⟩)) λg _=>⟨p,?_,a3 g⟩
             simp only[aO,DC j d,ao,a1,fZ];rw[<-f];rfl
           . cases h
         . cases h
   . cases h
theorem I3(h:ct gl gd env J N o=some (c,v,J')):dV N J J1 o env1 (cE env G gd) c v J':=by
 cases o with
 |mov x=>exact ahi he al aF h
 |pick c x y=>exact adw he al aF h
 |alloc cs=>exact acy he al aF h
 |box x=>exact ahd he al aF h
 |allocA cs=>exact abw he al aF h
 |idxP k x i=>exact acT he al aF h
 |slcP k x d a=>exact acU he al aF h
 |b2s x=>exact ahb he al aF h
 |allocS e e8=>exact abx he al aF h
 |bsliceT e sz len z parts=>exact ZI he al aF h
 |mkset=>exact acC he al aF h
 |lkset x k=>exact acD he al aF h
 |upset x k=>exact acE he al aF h
 |appendB e b x y=>exact ZH he al aF h
 |sdata x=>exact acF he al aF h
 |ustr e x k=>exact acV he al aF h
 |build z parts=>exact acx he al aF h
 |bslice sz len z parts=>exact aak he al aF h
 |load agg n x=>exact adz he al aF h
 |store n x v=>exact acz he al aF h
 |nilCheck x=>exact Zv he al aF h
 |bin op x y=>exact ahc he al aF h
 |eqAgg neg ks x y=>exact acw he al aF h
 |eqBool neg x y=>exact aaj he al aF h
 |eqNil neg x=>simp[ct]at h
 |not x=>exact ahj he al aF h
 |conv k x=>exact adx he al aF h
 |i2s x=>exact ahg he al aF h
 |s2s x=>exact ahk he al aF h
 |fldA off x=>exact ady he al aF h
 |fld agg off n x=>exact ahf he al aF h
 |idxA sz x i=>exact Ts he al aF h
 |idxS x i=>exact adA he al aF h
 |slcS x d a=>exact adB he al aF h
 |slc sz x d a=>exact ahl he al aF h
 |slc0 x=>exact adC he al aF h
 |mkfn f caps=>exact adD he al aF h
 |ext x i=>exact ahe he al aF h
 |len str x=>exact ahh he al aF h
 |append sz bytes x y=>exact aam he al aF h
 |max2 x y=>exact adE he al aF h
 |min2 x y=>exact adF he al aF h
 |call f args=>simp[ct]at h
 |iG x args=>simp[ct]at h
end
end
end
section
open Go
variable {U:cK}
def bl.ch(b0:Nat)(c:Cell U.D):bl U->bl U
 |.arr b=>match Nat.beq b b0 with
  |true=>.t c
  |false=>.arr b
 |.cF b ty i o=>match Nat.beq b b0 with
  |true=>.dead
  |false=>.cF b ty i o
 |.pre b h=>match Nat.beq b b0 with
  |true=>.dead
  |false=>.pre b h
 |.dG b a len=>match Nat.beq b b0 with
  |true=>.dead
  |false=>.dG b a len
 |x=>x
def bz.ch(b0:Nat)(c:Cell U.D):bz U->bz U
 |.c x=>.c (x.ch b0 c)
 |.agg cs=>.agg (cs.map (bl.ch b0 c))
 |.aY vs=>.aY (go b0 c vs)
where go (b0:Nat) (c:Cell U.D):List (bz U)->List (bz U)
 |[]=>[]
 |v::vs=>v.ch b0 c::go b0 c vs
def cO.ch(b0:Nat)(c:Cell U.D):cO U->cO U
 |.box cs=>.box (cs.map (bl.ch b0 c))
 |.b8 E x=>.b8 E (x.ch b0 c)
 |.cA t l i o x=>.cA t l i o (x.ch b0 c)
 |x=>x
def rO(b0:Nat)(c:Cell U.D):bU U->bU U
 |[]=>[]
 |(k,v)::r=>(k,v.ch b0 c)::rO b0 c r
def mT(b0:Nat)(c:Cell U.D):bf U->bf U
 |[]=>[]
 |(k,x)::r=>match Nat.beq k b0 with
  |true=>mT b0 c r
  |false=>(k,x.ch b0 c)::mT b0 c r
def AN(b:Nat)(t:aJ)(env:bU U)(J:bf U):Option (bU U×bf U):=
 match aX J b with
 |some (.arr a l)=>match Cell.as (.slice t) (⟨.slice a,l⟩:Cell U.D)with
  |some l=>some (rO b ⟨.slice t,l⟩ env,mT b ⟨.slice t,l⟩ J)
  |none=>none
 |some (.rows _ r)=>match l6 U t r with
  |some l=>some (rO b ⟨.slice t,l⟩ env,mT b ⟨.slice t,l⟩ J)
  |none=>none
 |_=>some (env,J)
def kT:List (Nat×aJ)->bU U->bf U->Option (bU U×bf U)
 |[],env,J=>some (env,J)
 |(b,t)::r,env,J=>match AN b t env J with
  |some (env',J')=>kT r env' J'
  |none=>none
variable{b0 j:Nat}{c:Cell U.D}{es:List (List T)}{t:aJ}{cs:List C}{R:Type}
section
variable {kk N:Nat}{J J':bf U}{J1:a8}{env env':bU U}{env1:Env}{G:Nat->Bool}{gl:ew}
theorem Dp:∀{env:bU U} {k:Nat},aX (rO b0 c env) k=(aX env k).map (bz.ch b0 c)
 |[],k=>rfl
 |(i,v)::r,k=>by
  simp only[rO,aX];cases Nat.beq i k with
  |true=>rfl
  |false=>exact Dp
theorem s'{b0:Nat}{c:Cell U.D}:∀{J:bf U} {k:Nat},aX (mT b0 c J) k=if k=b0 then none else(aX J k).map (cO.ch b0 c)
 |[],k=>by simp[mT,aX]
 |(i,x)::r,k=>by
  simp only[mT];cases h:Nat.beq i b0 with
  |true=>
   have:=cT h;subst this;simp only[s',aX];by_cases a:k=i
   . grind
   . rw[ak a,ak a];cases b:Nat.beq i k with
     |true=>exact absurd (cT b).symm a
     |false=>rfl
  |false=>
   simp only[aX,s'];grind
theorem cO.Bu{x:cO U}:(x.ch b0 c).dc=x.dc:=by cases x<;>rfl
theorem cj.ch{b0 sz:Nat}{c:Cell U.D}{es:List (List T)}{A:cO U}(h0:aX J b0=some A)(E:A.dc=some (sz,es.length))(B:c.enc U= .slice es){x:bl U}{d:C}(h:cj N J x d):
 cj N (mT b0 c J) (x.ch b0 c) (d.ch b0 sz es):=by
 cases h with
 |t c=>exact .t c
 |ptr b o=>exact .ptr b o
 |cF b t i o=>
  simp only[bl.ch,C.ch];cases h:Nat.beq b b0 with
  |true=>rw[ad (cT h)];exact .dead _
  |false=>rw[ak (hE h)];exact .cF b t i o
 |dM t x o=>exact .dM t x o
 |arr b w n q h=>
  simp only[bl.ch,C.ch];cases j:Nat.beq b b0 with
  |true=>
   have:=cT j;subst this;have:=h A h0 _ E;cases this;rw[ad rfl,ad ⟨rfl,by omega⟩];have:cut es 0 es.length=es:=(by simp[cut]);rw[this,<-B];exact .t c
  |false=>
   rw[ak (hE j)];refine .arr b w n q λy a p e=>?_;rw[s',ak (hE j)]at a;simp only[bb]at a;obtain⟨v,u,rfl⟩:=a;rw[cO.Bu]at e;exact h v u p e
 |sub b z len=>exact .sub b z len
 |pre b w n q h=>
  simp only[bl.ch];cases j:Nat.beq b b0 with
  |true=>exact .dead _
  |false=>
   simp only[C.ch];rw[ak (hE j)];refine .pre b w n q λy a p e=>?_;rw[s',ak (hE j)]at a;simp only[bb]at a;obtain⟨v,u,rfl⟩:=a;rw[cO.Bu]at e;exact h v u p e
 |dG b w z len q h=>
  simp only[bl.ch];cases j:Nat.beq b b0 with
  |true=>exact .dead _
  |false=>
   simp only[C.ch];refine .dG b w z len q λy a p e=>?_;rw[s',ak (hE j)]at a;simp only[bb]at a;obtain⟨v,u,rfl⟩:=a;rw[cO.Bu]at e;exact h v u p e
 |mp b=>exact .mp b
 |eg b=>exact .eg b
 |cG b n q h=>
  refine .cG b n q λy a p e=>?_;rw[s']at a;split at a
  . cases a
  . simp only[bb]at a;obtain⟨v,u,rfl⟩:=a;rw[cO.Bu]at e;exact h v u p e
 |ay=>exact .ay
 |e3=>exact .e3
 |e2=>exact .e2
 |fn f caps=>exact .fn f caps
 |dead d=>exact .dead _
theorem S2:∀{vs:List (bz U)} {i:Nat},(bz.ch.go b0 c vs)[i]?=(vs[i]?).map (bz.ch b0 c)
 |[],i=>by simp[bz.ch.go]
 |v::vs,0=>by simp[bz.ch.go]
 |v::vs,i+1=>by simp[bz.ch.go,S2]
theorem RO:∀{vs:List (bz U)},(bz.ch.go b0 c vs).length=vs.length
 |[]=>rfl
 |v::vs=>by simp[bz.ch.go,RO]
theorem ca.ch{b0 sz:Nat}{c:Cell U.D}{es:List (List T)}{o:cO U}(h0:aX J b0=some o)(e:o.dc=some (sz,es.length))(a:c.enc U= .slice es){x:bz U}{d:V}(h:ca N J x d):
 ca N (mT b0 c J) (x.ch b0 c) (d.ch b0 sz es):=by
 induction h with
 |c h=>exact .c (h.ch h0 e a)
 |agg h=>exact .agg (a'.map_map (h.imp λ_ _ _ aa=>aa.ch h0 e a))
 |aY xs ds af h ih=>
  refine .aY _ _ (by rw[RO,GW];exact af) ?_;intro i x d j f;rw[S2,bb]at j;rw[HD,bb]at f;obtain⟨u,t,rfl⟩:=j;obtain⟨p,q,rfl⟩:=f;exact ih i u p t q
theorem MX{sz:Nat}{p:cO U}(h0:aX J b0=some p)(g:p.dc=some (sz,es.length))(f:c.enc U= .slice es)(hs:aW J1 b0=some (.arr sz es))(he:c3 N J G env env1)(aF:cx N J J1):
 Conv kk N env1 J1 N (qT b0 sz es env1) (mH b0 sz es J1)/\c3 N (mT b0 c J) G (rO b0 c env) (qT b0 sz es env1)/\cx N (mT b0 c J) (mH b0 sz es J1):=by
 refine⟨Conv.freeze b0 hs,λk v n=>?_,λb x e=>?_⟩
 . rw[Dp,bb]at n;obtain⟨v0,h1,rfl⟩:=n;obtain⟨d,j,m⟩:=he k v0 h1;exact⟨_,by rw[y5,j];rfl,m.ch h0 g f⟩
 . rw[s']at e;split at e
   . cases e
   . rename_i q;simp only[bb]at e;obtain⟨r,h1,rfl⟩:=e;obtain⟨j,y,m,a⟩:=aF b r h1;refine⟨j,y.ch b0 sz es,by rw[Dc,ak q,m];rfl,?_⟩;cases a with
     |box a=>exact .box (a'.map_map (a.imp λ_ _ _ aa=>aa.ch h0 g f))
     |arr t l=>exact .arr t l
     |set ks=>exact .set ks
     |buf E s=>exact .buf E s
     |b8 a=>exact .b8 (a.ch h0 g f)
     |cA t l i o a=>exact .cA t l i o (a.ch h0 g f)
     |rows a ba=>exact .rows a ba
theorem gI.ch(h:gI gl env G):gI gl (rO b0 c env) G:=by
 refine⟨h.free,λk t b e=>?_⟩;obtain⟨y,h1,a⟩:=h.held k t b e;refine⟨y,?_,a⟩;unfold fa at h1⊢;rw[Dp];split at h1
 . rename_i x f;rw[f];show some _=some y;exact h1
 . cases h1
theorem acG{α a:Type}{f:α->a}{l:List α}{sz:Nat}:some (sz,l.length)=some (sz,(l.map f).length):=by rw[gy]
theorem I4{b:Nat}(h:AN b t env J=some (env',J'))(he:c3 N J G env env1)(aF:cx N J J1):
 ∃j bo,Conv kk N env1 J1 N j bo/\c3 N J' G env' j/\cx N J' bo/\(gI gl env G->gI gl env' G):=by
 unfold AN at h;split at h
 . rename_i o n af;split at h
   . rename_i l d;have e:=Cell.ku d;cases e;cases h;obtain⟨_,y,h1,a⟩:=aF b _ af;cases a;obtain⟨f,g,i⟩:=MX (kk:=kk) (c:=⟨.slice t,l⟩) (es:=List.map (t.enc U) l) af acG rfl h1 he aF;exact⟨_,_,f,g,i,λal=>al.ch⟩
   . cases h
 . rename_i sz r af;split at h
   . rename_i l d;cases h;obtain⟨_,y,h1,a⟩:=aF b _ af;cases a with
     | @rows _ _ es a m=>
      have k:=v' d a;obtain⟨f,g,i⟩:=MX (kk:=kk) (c:=⟨.slice t,l⟩) (es:=es) af (by simp only[cO.dc];rw[a.length]) (by rw[<-k];rfl) h1 he aF;exact⟨_,_,f,g,i,λal=>al.ch⟩
   . cases h
 . cases h;exact⟨env1,J1,Conv.refl,he,aF,λh=>h⟩
theorem yZ:∀{l:List (Nat×aJ)} {env env':bU U} {J J':bf U} {env1:Env} {J1:a8},kT l env J=some (env',J')->c3 N J G env env1->cx N J J1->
 ∃a bo,Conv kk N env1 J1 N a bo/\c3 N J' G env' a/\cx N J' bo/\(gI gl env G->gI gl env' G)
 |[],env,env',J,J',env1,J1,h,he,aF=>by simp[kT]at h;obtain⟨rfl,rfl⟩:=h;exact⟨env1,J1,Conv.refl,he,aF,λh=>h⟩
 |(b,t)::r,env,env',J,J',env1,J1,h,he,aF=>by
  simp only[kT]at h;split at h
  . rename_i e s h1;obtain⟨aK,s1,d,f,g,i⟩:=I4 (kk:=kk) (gl:=gl) h1 he aF;obtain⟨c,o,j,k,m,n⟩:=yZ h f g;exact⟨c,o,d.trans j,k,m,λal=>n (i al)⟩
  . cases h
theorem Conv.close{b sz i o:Nat}{t:T}(c:aW J1 b=some (.cA sz es i o (.t t))):
 Conv kk N env1 J1 N env1 (da J1 b (.arr sz (es.set i ((el es i).take o++[t]++(el es i).drop (o+1))))):=by
 intro aC nt φ S a w U R;obtain⟨⟨a1,a2,a3,a4,a5,P⟩,⟨vs,E,H,J,x,z,K,L⟩,M⟩:=R.bP.blk _ _ c;have v:es[i]?=some (el es i):=by unfold el;rw[List.getD,eH a5];rfl
 have Q:(el es i).length=sz:=a3 _ (eM v);refine⟨φ,S,R.put (R.dN _ _ c).1 rfl ⟨by simpa using a1,by simpa using a2,λe he=>?_,a4,λ_=>⟨vs,E,H,J,λG j e O he ht=>?_,M⟩⟩ λh0=>⟨λk y F D A=>R.bP.inj k b y _ F c D A h0,R.own b _ c h0⟩⟩
 . rcases tO he with he|rfl
   . exact a3 e he
   . simp;omega
 . rw[BM]at he;by_cases p:i=G
   . subst p;rw[ad rfl,ad a5]at he;cases he;have f:=(my (vs:=el es i) (off:=o) (xs:=[t]) (by simp;omega) j)
     unfold iu at f;rw[show o+[t].length=o+1 from rfl]at f;rw[f]at ht;by_cases q:j=o
     . subst q;rw[bq,fu,BO]at ht;cases ht;exact⟨z,K,L⟩
     . have B:(el es i)[j]?=some O:=by
        by_cases u:j<o
        . rwa [ad u]at ht
        . rwa [ak u,bq]at ht
       exact x _ _ _ _ v B (λh=>q h.2)
   . rw[ak p]at he;exact x _ _ _ _ he ht (λh=>p h.1.symm)
def Dq(b:Nat)(env:bU U)(J:bf U):Option (bU U×bf U):=
 match aX J b with
 |some (.cA t l i o (.t c))=>match Nat.ble (o+1) (t.sz U)with
  |true=>match rQ U t l i o [.t c]with
   |some a=>some (env,cC J b (.arr t a))
   |none=>none
  |false=>none
 |_=>none
def MY(b:Nat)(env:bU U)(J:bf U):Option (bU U×bf U):=
 match aX J b with
 |some (.cA t l i o (.arr b2))=>match (t.row U (t.at U l i))[o]? with
  |some ⟨.slice a,_⟩=>match AN b2 a env J with
   |some (env',J')=>Dq b env' J'
   |none=>none
  |_=>none
 |_=>Dq b env J
def KX:bf U->Option Nat
 |[]=>none
 |(b,.cA ..)::_=>some b
 |_::r=>KX r
def H3(env:bU U)(J:bf U):Option (bU U×bf U):=
 match KX J with
 |none=>some (env,J)
 |some b=>MY b env J
theorem S8{b:Nat}(h:Dq b env J=some (env',J'))(he:c3 N J G env env1)(aF:cx N J J1):
 ∃f bo,Conv kk N env1 J1 N f bo/\c3 N J' G env' f/\cx N J' bo:=by
 unfold Dq at h;split at h
 . rename_i t l i o c af;split at h
   . rename_i e;have e:=BI e;split at h
     . rename_i l2 g;cases h;obtain⟨m,y,h1,d⟩:=aF b _ af;cases d with
       |cA _ _ _ _ d=>
        cases d;have r:l2.length=List.length l:=by
         unfold rQ at g;grind
        have j:dk N J N (cC J b (.arr t l2)):=nD (ef _) af (λp h=>by
         simp only[cO.dc]at h⊢
         grind)
        refine⟨env1,da J1 b (.arr (t.sz U) (l2.map (t.enc U))),?_,he.mono j,aF.put m j (.arr t l2)⟩;by_cases n:i<List.length l
        . obtain⟨ts,aK,k⟩:=HG (N:=N) (J:=J) (ds:=[.t (c.enc U)]) g n (.cons (.t c) .nil) (by simpa using e);have:ts=[c.enc U]:=(by simpa[toTs,toT]using aK.symm);subst this;have:=Conv.close (kk:=kk) (N:=N) (env1:=env1) h1;rw[k];simpa using this
        . intro aC nt φ S a w q R;obtain⟨⟨_,_,_,_,a5,_⟩,_⟩:=R.bP.blk _ _ h1;simp at a5;omega
     . cases h
   . cases h
 . cases h
theorem M2(h:H3 env J=some (env',J'))(he:c3 N J G env env1)(aF:cx N J J1):
 ∃a bo,Conv kk N env1 J1 N a bo/\c3 N J' G env' a/\cx N J' bo:=by
 unfold H3 at h;split at h
 . cases h;exact⟨env1,J1,Conv.refl,he,aF⟩
 . unfold MY at h;split at h
   . split at h
     . split at h
       . rename_i e s h1;obtain⟨aK,s1,c,d,f,_⟩:=I4 (kk:=kk) (gl:=[]) h1 he aF;obtain⟨b,k,g,i,j⟩:=S8 (kk:=kk) h d f;exact⟨b,k,c.trans g,i,j⟩
       . cases h
     . cases h
   . exact S8 h he aF
theorem Conv.own{k:Nat}{g:Bool}{sz:Nat}(p:look env1 k=some (g,.c .ay))(q:0<sz)(y:kk<=N):Conv kk N env1 J1 (N+1) ((k,g,.c (.arr N sz 0 0))::env1) (da J1 N (.arr sz [])):=by
 intro aC nt φ S a w u R;have f:=R.E6 q (by omega);have cq:fF φ N (0,0) N=(0,0):=by simp[fF]
 refine⟨fF φ N (0,0),S,⟨f.bP,λi j v af al=>?_,λi j v af al=>?_,λi j v af al=>?_,f.dN,f.size,f.defers,f.ext,f.own,f.fix,f.fQ⟩⟩
 . simp only[look]at af;split at af
   . rename_i e;cases af;subst e;obtain⟨x,t,o⟩:=f.gF _ _ _ p al;refine⟨x,t,?_⟩;cases o with
     |c o=>
      obtain⟨a,rfl⟩:=o;refine .c ⟨a,by rw[cq];rfl,λh=>absurd (by rw[cq]) h,by rw[cq];exact ef _⟩
   . exact f.gF i j v af al
 . simp only[look]at af;split at af
   . rename_i e;cases af;subst e;exact f.hI _ _ _ p al
   . exact f.hI i j v af al
 . simp only[look]at af;split at af
   . cases af;simp[V.aA,C.aA,lt]
   . exact f.gE i j v af al
theorem Conv.agz{b:Nat}{sz:Nat}(D:aW J1 b=some (.box cs))(G:cs[j]?=some .ay)(Q:b<N)(L:0<sz)(W:kk<=N):
 Conv kk N env1 J1 (N+1) env1 (da (da J1 N (.arr sz [])) b (.box (cs.set j (.arr N sz 0 0)))):=by
 intro aC nt φ S a w U R;have e:=R.E6 L (by omega);have cq:fF φ N (0,0) N=(0,0):=by simp[fF]
 have o:aW (da J1 N (.arr sz [])) b=some (.box cs):=by rw[cV,bq];exact D
 have A:∀c x,aW (da (da J1 N (.arr sz [])) b (.box (cs.set j (.arr N sz 0 0)))) c=some x->(c=b/\x= .box (cs.set j (.arr N sz 0 0)))\/aW (da J1 N (.arr sz [])) c=some x:=by
  intro c x f;rw[cV]at f;grind
 have p:∀c x,aW (da (da J1 N (.arr sz [])) b (.box (cs.set j (.arr N sz 0 0)))) c=some x->∃y,aW (da J1 N (.arr sz [])) c=some y:=by grind
 refine⟨fF φ N (0,0),S,⟨⟨λc x f=>?_,λc u x y f M H=>?_,e.bP.st⟩,e.gF,e.hI,e.gE,λc x f=>?_,e.size,e.defers,e.ext,λc x f=>?_,e.fix,e.fQ⟩⟩
 . rcases A c x f with⟨rfl,rfl⟩|h
   . obtain⟨h0,vs,E,h1,z,B⟩:=e.bP.blk _ _ o;refine⟨h0,vs,E,h1,?_,B⟩;obtain⟨v,X,J⟩:=z.get G;obtain⟨a,rfl⟩:=J;have:=a'.set (i:=j) z (a:= .arr N sz 0 0) (b:= .slice a 0 0) ⟨a,by rw[cq];rfl,λh=>absurd (by rw[cq]) h,by rw[cq];exact ef _⟩;have K:vs.set j (.slice a 0 0)=vs:=by
      apply yh;grind
     rw[K]at this;exact this
   . exact e.bP.blk c x h
 . obtain⟨t,q⟩:=p c x f;obtain⟨P,O⟩:=p u y M;exact e.bP.inj c u t P q O H
 . rcases A c x f with⟨rfl,rfl⟩|h
   . refine⟨(e.dN _ _ o).1,?_⟩;have:=(e.dN _ _ o).2;simp only[bO.aA,cY]at this⊢;intro d F;rcases tO F with h|h
     . exact this d h
     . rw[h];simp[C.aA,lt]
   . exact e.dN c x h
 . obtain⟨t,q⟩:=p c x f;exact e.own c t q
theorem Conv.trim{q b:Nat}{sz h:Nat}(G:aW J1 q=some (.box cs))(ap:cs[j]?=some (.arr b sz 0 h))(F:aW J1 b=some (.arr sz es))(aa:h<=es.length)(a4:q<N):
 Conv kk N env1 J1 (N+1) env1 (da (da (ib J1 b) N (.arr sz (es.take h))) q (.box (cs.set j (.arr N sz 0 h)))):=by
 intro aC nt φ S a w a2 R;have am:b<N:=by have:=(R.dN _ _ F).1;simpa[lt]using this
 have a5:q≠b:=by intro e;subst e;rw[G]at F;cases F
 have U:∀c,lt N c=true->fF φ N (φ b) c=φ c:=by
  intro c p;simp only[lt,dn]at p;simp only[fF];grind
 have z:∀c,lt N c=true->lt (N+1) c=true:=λc p=>LB (by omega) p;have f:=R.zf U;have cq:fF φ N (φ b) N=φ b:=by simp[fF]
 have P:fF φ N (φ b) b=φ b:=U b (by simpa[lt]using am);have Q:∀c x,aW (da (da (ib J1 b) N (.arr sz (es.take h))) q (.box (cs.set j (.arr N sz 0 h)))) c=some x->(c=q/\x= .box (cs.set j (.arr N sz 0 h)))\/(c≠q/\c=N/\x= .arr sz (es.take h))\/(c≠q/\c≠N/\c≠b/\aW J1 c=some x):=by
  intro c x o;rw[cV]at o;split at o
  . grind
  . rename_i e;rw[cV]at o;split at o
    . grind
    . rename_i B;rw[fN]at o;grind
 have J:∀c x,aW (da (da (ib J1 b) N (.arr sz (es.take h))) q (.box (cs.set j (.arr N sz 0 h)))) c=some x->∃A y,aW J1 A=some y/\fF φ N (φ b) c=fF φ N (φ b) A/\(A=if c=N then b else c):=by grind
 refine⟨fF φ N (φ b),S,⟨⟨λc x o=>?_,λc A x y o aZ a3=>?_,f.bP.st⟩,f.gF,f.hI,λk g v af al=>V.hh z (f.gE k g v af al),λc x o=>?_,f.size,f.defers,f.ext,λc x o h0=>?_,f.fix,λc p=>by have:=f.fQ c p;exact z c this⟩⟩
 . rcases Q c x o with⟨rfl,rfl⟩|⟨_,rfl,rfl⟩|⟨_,_,_,u⟩
   . obtain⟨h0,vs,E,h1,D,H⟩:=f.bP.blk _ _ G;refine⟨h0,vs,E,h1,?_,H⟩;obtain⟨v,a9,ax⟩:=D.get ap;have aB:bm (fF φ N (φ b)) w S (.arr N sz 0 h) v:=by
      obtain⟨a,aK,B,c9⟩:=ax;rw[P]at aK B c9;exact⟨a,by rw[cq];exact aK,by rw[cq];exact B,by rw[cq];exact c9⟩
     have:=a'.set (i:=j) D aB;have aI:vs.set j v=vs:=by
      apply yh;grind
     rw[aI]at this;exact this
   . obtain⟨h0,h1,D,H,u⟩:=f.bP.blk _ _ F;rw[P]at h0 u;refine⟨by rw[cq,oh];omega,by rw[oh];omega,λe he=>D e (p1 he),H,λp=>?_⟩;rw[cq]at p⊢;obtain⟨vs,E,W,X,Y,Z⟩:=u p;refine⟨vs,E,W,X,λi j e t he ht=>?_,Z⟩;rw[ln]at he;split at he
     . exact Y i j e t he ht
     . cases he
   . exact f.bP.blk c x u
 . obtain⟨d,L,K,aK,B⟩:=J c x o;obtain⟨M,a1,a0,c9,iq⟩:=J A y aZ;have bT:d≠M:=(by grind);intro h0 O;rw[aK]at h0⊢;rw[c9]at O⊢;exact f.bP.inj d M L a1 K a0 bT h0 O
 . rcases Q c x o with⟨rfl,rfl⟩|⟨_,rfl,rfl⟩|⟨_,_,_,u⟩
   . refine⟨z _ (f.dN _ _ G).1,?_⟩;have:=(f.dN _ _ G).2;simp only[bO.aA,cY]at this⊢;intro d an;rcases tO an with h|h
     . exact C.hh z (this d h)
     . rw[h];simp[C.aA,lt]
   . exact⟨by simp[lt],rfl⟩
   . exact⟨z c (f.dN c x u).1,bO.hh z (f.dN c x u).2⟩
 . obtain⟨d,L,K,aK,_⟩:=J c x o;rw[aK]at h0⊢;exact f.own d L K h0
def wa:Nat->List (bl U)->Option (Nat×Nat×Nat)
 |_,[]=>none
 |j,.pre b h::_=>some (j,b,h)
 |j,_::r=>wa (j+1) r
def qO(J:bf U):bf U->Option (Nat×List (bl U)×Nat×Nat×Nat)
 |[]=>none
 |(q,.box cs)::r=>match aX J q with
  |some (.box a)=>match wa 0 a with
   |some p=>some (q,a,p)
   |none=>qO J r
  |_=>qO J r
 |_::r=>qO J r
theorem S3:∀{cs:List (bl U)} {j i b h:Nat},wa j cs=some (i,b,h)->j<=i/\cs[i-j]?=some (.pre b h)
 |[],j,i,b,h,a=>by simp[wa]at a
 |c::r,j,i,b,h,a=>by
  have next:wa (j+1) r=some (i,b,h)->j<=i/\(c::r)[i-j]?=some (.pre b h):=by
   intro a;obtain⟨h1,f⟩:=S3 a;grind
  cases c with
  |pre d e=>simp only[wa,bF,bB]at a;obtain⟨rfl,rfl,rfl⟩:=a;simp
  |_=>exact next a
theorem C6{q:Nat}{cs:List (bl U)}{i b h:Nat}:∀{l:bf U},qO J l=some (q,cs,i,b,h)->aX J q=some (.box cs)/\cs[i]?=some (.pre b h)
 |[],a=>by simp[qO]at a
 |(k,x)::r,a=>by
  cases x with
  |box e=>
   simp only[qO]at a;split at a
   . rename_i f c;split at a
     . rename_i p d;simp only[bF,bB]at a;obtain⟨rfl,rfl,rfl⟩:=a;exact⟨c,by simpa using(S3 d).2⟩
     . exact C6 a
   . exact C6 a
  |_=>exact C6 (by simpa only[qO]using a)
def Eg{R:Type}(J:bf U)(N:Nat)(k:bf U->Nat->Option R):Option R:=
 match qO J J with
 |none=>k J N
 |some (q,cs,j,b,h)=>match aX J b with
  |some (.arr t l)=>if (h<=l.length:Bool) then k (cC (cC (dl J b) N (.arr t (l.take h))) q (.box (cs.set j (.arr N)))) (N+1)else none
  |_=>none
theorem I5{q b h0:Nat}{cs:List (bl U)}{x:bl U}{l:List (t.den U.D)}(k:aX J q=some (.box cs))(F:cs[j]?=some x)(i:aX J b=some (.arr t l))(a:∀d,cj N J x d->d= .arr b (t.sz U) 0 h0)(m:h0<=l.length)
 (he:c3 N J G env env1)(aF:cx N J J1):
 ∃bo,Conv kk N env1 J1 (N+1) env1 bo/\c3 (N+1) (cC (cC (dl J b) N (.arr t (l.take h0))) q (.box (cs.set j (.arr N)))) G env env1/\cx (N+1) (cC (cC (dl J b) N (.arr t (l.take h0))) q (.box (cs.set j (.arr N)))) bo:=by
 obtain⟨L,R,K,f⟩:=aF q _ k;obtain⟨P,Q,B,C⟩:=aF b _ i;cases C;cases f with
 | @box _ ds f=>
  obtain⟨d,E,O⟩:=f.get F;have:=a d O;subst this;have M:q≠b:=by intro e;subst e;rw[k]at i;cases i
  have o:dk N J N (dl J b):=s5;have r:dk N (dl J b) (N+1) (cC (dl J b) N (.arr t (l.take h0))):=lM;have I:aX (cC (dl J b) N (.arr t (l.take h0))) q=some (.box cs):=by rw[hN,bq,n5,ak (λe=>M e.symm)];exact k
  have s:dk (N+1) (cC (dl J b) N (.arr t (l.take h0))) (N+1) (cC (cC (dl J b) N (.arr t (l.take h0))) q (.box (cs.set j (.arr N)))):=nD (ef _) I (λp h=>by simp[cO.dc]at h);have u:=(o.trans r).trans s;have A:cx N (dl J b) (ib J1 b):=by
   intro c x a;rw[n5]at a;split at a
   . cases a
   . rename_i H;obtain⟨v,y,w,z⟩:=aF c x a;exact⟨v,y,by rw[fN,ak H];exact w,z.mono o⟩
  refine⟨_,Conv.trim K E B (by rw[gy];exact m) L,he.mono u,?_⟩;rw[<-ym];refine(A.put (by omega) r (.arr t (l.take h0))).put (by omega) s (.box ?_);refine a'.set (f.imp λ_ _ _ g=>g.mono u) (.arr N _ _ (by omega) λx a p n=>?_);rw[hN,bq,hN,ad rfl]at a;cases a;simp only[cO.dc,bF]at n;rw[<-n,oh,Nat.min_eq_left m]
theorem S4{k:bf U->Nat->Option R}{r:R}(h:Eg J N k=some r)(he:c3 N J (λ_=>true) env env1)(aF:cx N J J1):
 ∃J' N' bo,k J' N'=some r/\Conv kk N env1 J1 N' env1 bo/\c3 N' J' (λ_=>true) env env1/\cx N' J' bo/\N<=N':=by
 unfold Eg at h;split at h
 . exact⟨J,N,J1,h,Conv.refl,he,aF,ef _⟩
 . rename_i q cs j b h0 e;obtain⟨i,f⟩:=C6 e;split at h
   . rename_i t l a;split at h
     . rename_i g
       obtain⟨s1,n,o,p⟩:=I5 (kk:=kk) (h0:=h0) i f a (λd m=>by
        cases m with
        |pre _ sz _ _ c=>
         have c:=c _ a _ rfl
         grind) (by simpa using g) he aF
       exact⟨_,_,s1,h,n,o,p,by omega⟩
     . cases h
   . cases h
def ta(kk:Nat):Nat->List (bl U)->Option (Nat×Nat)
 |_,[]=>none
 |j,.arr b::r=>match Nat.ble (b+1) kk with
  |true=>some (j,b)
  |false=>ta kk (j+1) r
 |j,_::r=>ta kk (j+1) r
def qP(kk:Nat)(J:bf U):bf U->Option (Nat×List (bl U)×Nat×Nat)
 |[]=>none
 |(q,.box _)::r=>match aX J q with
  |some (.box cs)=>match ta kk 0 cs with
   |some p=>some (q,cs,p)
   |none=>qP kk J r
  |_=>qP kk J r
 |_::r=>qP kk J r
theorem S5:∀{cs:List (bl U)} {j i b:Nat},ta kk j cs=some (i,b)->j<=i/\cs[i-j]?=some (.arr b)
 |[],j,i,b,a=>by simp[ta]at a
 |c::r,j,i,b,a=>by
  have next:ta kk (j+1) r=some (i,b)->j<=i/\(c::r)[i-j]?=some (.arr b):=by
   intro a;obtain⟨h1,e⟩:=S5 a;grind
  cases c with
  |arr d=>
   simp only[ta]at a;grind
  |_=>exact next a
theorem C7{kk q:Nat}{cs:List (bl U)}{i b:Nat}:∀{l:bf U},qP kk J l=some (q,cs,i,b)->aX J q=some (.box cs)/\cs[i]?=some (.arr b)
 |[],a=>by simp[qP]at a
 |(k,x)::r,a=>by
  cases x with
  |box e=>
   simp only[qP]at a;split at a
   . rename_i f c;split at a
     . rename_i p d;simp only[bF,bB]at a;obtain⟨rfl,rfl,rfl⟩:=a;exact⟨c,by simpa using(S5 d).2⟩
     . exact C7 a
   . exact C7 a
  |_=>exact C7 (by simpa only[qP]using a)
def Eb{R:Type}(kk:Nat)(J:bf U)(k:bf U->Nat->Option R):Option R:=
 match qP kk J J with
 |none=>k J kk
 |some (q,cs,j,b)=>match aX J b with
  |some (.arr t l)=>k (cC (cC (dl J b) kk (.arr t l)) q (.box (cs.set j (.arr kk)))) (kk+1)
  |_=>k J kk
theorem YC{k:bf U->Nat->Option R}{r:R}(h:Eb kk J k=some r)(he:c3 kk J (λ_=>true) env env1)(aF:cx kk J J1):
 ∃J' N' bo,k J' N'=some r/\Conv kk kk env1 J1 N' env1 bo/\c3 N' J' (λ_=>true) env env1/\cx N' J' bo/\kk<=N':=by
 unfold Eb at h;split at h
 . exact⟨J,kk,J1,h,Conv.refl,he,aF,ef _⟩
 . rename_i q cs j b g;obtain⟨m,i⟩:=C7 g;split at h
   . rename_i t l a
     obtain⟨s1,p,e,f⟩:=I5 (kk:=kk) (h0:=l.length) m i a (λd o=>by
      cases o with
      |arr _ sz n _ c=>
       have c:=c _ a _ rfl
       grind) (ef _) he aF
     rw[List.take_length]at e f;exact⟨_,_,s1,h,p,e,f,by omega⟩
   . exact⟨J,kk,J1,h,Conv.refl,he,aF,ef _⟩
inductive Pos where
 |slot (k:Nat)
 |cell (b j:Nat)
 |via (k j:Nat)
def AQ(b j:Nat)(t:aJ)(env:bU U)(J:bf U)(N:Nat):Option (bU U×bf U):=
 match aX J b with
 |some (.box cs)=>match cs[j]? with
  |some .ay=>some (env,cC (cC J N (.arr t [])) b (.box (cs.set j (.arr N))))
  |_=>some (env,J)
 |_=>none
def Ix(p:Pos)(t:aJ)(env:bU U)(J:bf U)(N:Nat):Option (bU U×bf U):=
 match p with
 |.slot k=>match aX env k with
  |some (.c .ay)=>some ((k,.c (.arr N))::env,cC J N (.arr t []))
  |_=>some (env,J)
 |.cell b j=>AQ b j t env J N
 |.via k j=>match aX env k with
  |some (.c (.ptr b _))=>AQ b j t env J N
  |_=>none
def AP:List (Pos×aJ)->bU U->bf U->Nat->Option (bU U×bf U×Nat)
 |[],env,J,N=>some (env,J,N)
 |(p,t)::r,env,J,N=>match Ix p t env J N with
  |some (env',J')=>AP r env' J' (N+1)
  |none=>none
theorem JY{t:aJ}(he:c3 N J (λ_=>true) env env1)(aF:cx N J J1)(i:kk<=N):∃c bo,Conv kk N env1 J1 (N+1) c bo/\c3 (N+1) J (λ_=>true) env c/\cx (N+1) J bo:=by
 refine⟨env1,da J1 N (.arr 1 []),λaC nt φ S a w g R=>⟨_,S,R.E6 (by omega) (by omega)⟩,he.mono (dk.more (by omega)),λb x f=>?_⟩;obtain⟨h1,y,d,e⟩:=aF b x f;exact⟨by omega,y,by rw[cV,bq];exact d,e.mono (dk.more (by omega))⟩
theorem GF{b:Nat}(h:AQ b j t env J N=some (env',J'))(he:c3 N J (λ_=>true) env env1)(aF:cx N J J1)(i:kk<=N):
 ∃f bo,Conv kk N env1 J1 (N+1) f bo/\c3 (N+1) J' (λ_=>true) env' f/\cx (N+1) J' bo:=by
 have same:=JY (t:=t) he aF i;unfold AQ at h;split at h
 . rename_i cs g;split at h
   . rename_i q;cases h;obtain⟨m,y,h1,a⟩:=aF b _ g;cases a with
     | @box _ ds a=>
      obtain⟨d,o,r⟩:=a.get q;cases r;have c:dk N J (N+1) (cC J N (.arr t [])):=lM;have n:aX (cC J N (.arr t [])) b=some (.box cs):=by rw[hN,bq];exact g
      have e:dk (N+1) (cC J N (.arr t [])) (N+1) (cC (cC J N (.arr t [])) b (.box (cs.set j (.arr N)))):=nD (ef _) n (λp h=>by simp[cO.dc]at h);refine⟨_,_,Conv.agz h1 o m (aJ.wF (t:=t) (U:=U)) i,(he.mono c).mono e,(aF.put (by omega) c (.arr t [])).put (by omega) e (.box ?_)⟩;refine a'.set (a.imp λ_ _ _ h=>(h.mono c).mono e) (.arr N _ _ (by omega) λx l p k=>?_);rw[hN,bq,hN,ad rfl]at l;cases l;simp[cO.dc]at k;exact k.symm
   . cases h;exact same
 . cases h
theorem YD{p:Pos}(h:Ix p t env J N=some (env',J'))(he:c3 N J (λ_=>true) env env1)(aF:cx N J J1)(b:kk<=N):
 ∃e bo,Conv kk N env1 J1 (N+1) e bo/\c3 (N+1) J' (λ_=>true) env' e/\cx (N+1) J' bo:=by
 have same:=JY (t:=t) he aF b;unfold Ix at h;split at h
 . rename_i k;split at h
   . rename_i m;cases h;obtain⟨v1,h1,l⟩:=he k _ m;have:=l.uu;subst this;have j:dk N J (N+1) (cC J N (.arr t [])):=lM;refine⟨_,_,Conv.own h1 (aJ.wF (t:=t) (U:=U)) b,λi v a=>?_,aF.put (by omega) j (.arr t [])⟩;simp only[aX]at a;simp only[look];split at a
     . rename_i d;cases a;rw[ad (cT d)];refine⟨_,rfl,.c (.arr N _ _ (by omega) λx g p f=>?_)⟩;rw[hN,ad rfl]at g;cases g;simp[cO.dc]at f;exact f.symm
     . rename_i d;rw[ak (hE d)];exact(he.mono j) i v a
   . cases h;exact same
 . exact GF h he aF b
 . split at h
   . exact GF h he aF b
   . cases h
def H4:List (bl U)->List Bool->Bool
 |[],[]=>true
 |.t _::cs,false::bs=>H4 cs bs
 |.ay::cs,true::bs=>H4 cs bs
 |_,_=>false
def QO(cs:List (bl U)):List (List Bool×Nat×aJ)->Option (Nat×aJ)
 |[]=>none
 |(bs,p)::r=>match H4 cs bs with
  |true=>some p
  |false=>QO cs r
def IG(l:List (List Bool×Nat×aJ)):bf U->Option (Nat×Nat×aJ)
 |[]=>none
 |(q,.box cs)::r=>match QO cs l with
  |some p=>some (q,p)
  |none=>IG l r
 |_::r=>IG l r
def Ee{R:Type}(env:bU U)(J:bf U)(N:Nat)(k:bU U->bf U->Nat->Option R):Option R:=
 match IG U.own J with
 |none=>Eg J N λJ N=>k env J N
 |some (q,j,t)=>match AQ q j t env J N with
  |some (env,J)=>Eg J (N+1) λJ N=>k env J N
  |none=>none
theorem Je{k:bU U->bf U->Nat->Option R}{r:R}(h:Ee env J N k=some r)(he:c3 N J (λ_=>true) env env1)(aF:cx N J J1)(n:kk<=N):
 ∃env' J' N' f bo,k env' J' N'=some r/\Conv kk N env1 J1 N' f bo/\c3 N' J' (λ_=>true) env' f/\cx N' J' bo/\N<=N':=by
 unfold Ee at h;split at h
 . obtain⟨q,i,p,a,b,c,d,g⟩:=S4 h he aF;exact⟨_,_,_,_,_,a,b,c,d,g⟩
 . split at h
   . rename_i e s o;obtain⟨aK,s1,j,l,m⟩:=GF o he aF n;obtain⟨q,i,p,a,b,c,d,g⟩:=S4 h l m;exact⟨_,_,_,_,_,a,j.trans b,c,d,by omega⟩
   . cases h
theorem I6:∀{l:List (Pos×aJ)} {env env':bU U} {J J':bf U} {N N':Nat} {env1:Env} {J1:a8},AP l env J N=some (env',J',N')->c3 N J (λ_=>true) env env1->cx N J J1->kk<=N->
 ∃a bo,Conv kk N env1 J1 N' a bo/\c3 N' J' (λ_=>true) env' a/\cx N' J' bo/\N<=N'
 |[],env,env',J,J',N,N',env1,J1,h,he,aF,b=>by simp[AP]at h;obtain⟨rfl,rfl,rfl⟩:=h;exact⟨env1,J1,Conv.refl,he,aF,ef _⟩
 |(p,t)::r,env,env',J,J',N,N',env1,J1,h,he,aF,b=>by
  simp only[AP]at h;split at h
  . rename_i e s h1;obtain⟨aK,s1,d,f,g⟩:=YD h1 he aF b;obtain⟨c,m,i,j,k,n⟩:=I6 h f g (by omega);exact⟨c,m,d.trans i,j,k,by omega⟩
  . cases h
end
end
section
open Go
variable {U:cK}
inductive kr where
 |hole (ty:aJ)
 |ptr (b o:Nat)
 |cF (b:Nat)(ty:aJ)(o:Nat)
 |dM (ty:aJ)(o:Nat)
 |arr (b:Nat)
 |mp (b:Nat)
 |cG (b:Nat)
 |ay
 |e3
 |e2
 |fn (f:Nat)(caps:a7)
 |dead
inductive e1 where
 |c (s:kr)
 |agg (l:List kr)
 |row (n:Nat)
 |aY (l:List e1)
inductive fJ where
 |box (l:List kr)
 |arr (ty:aJ)
 |bj (n:Nat)
 |gone
 |set
 |buf (E:Nat)
 |b8 (E:Nat)(s:kr)
structure Shape where
 env:List (Nat×e1)
 st:List fJ
abbrev eP(U:cK):=List (Cell U.D)
def qj:kr->eP U->bl U×eP U
 |.hole _,c::r=>(.t c,r)
 |.hole _,[]=>(.dead,[])
 |.ptr b o,r=>(.ptr b o,r)
 |.cF b ty o,⟨.int _,n⟩::r=>(.cF b ty (Int.toNat n) o,r)
 |.cF _ _ _,r=>(.dead,r)
 |.dM _ o,c::r=>(.dM c.ty c.val o,r)
 |.dM _ _,[]=>(.dead,[])
 |.arr b,r=>(.arr b,r)
 |.mp b,r=>(.mp b,r)
 |.cG b,r=>(.cG b,r)
 |.ay,r=>(.ay,r)
 |.e3,r=>(.e3,r)
 |.e2,r=>(.e2,r)
 |.fn f caps,r=>(.fn f caps,r)
 |.dead,r=>(.dead,r)
def xr:List kr->eP U->List (bl U)×eP U
 |[],r=>([],r)
 |s::ss,r=>match qj s r with
  |(x,a)=>match xr ss a with
   |(xs,b)=>(x::xs,b)
mutual
def kM:e1->eP U->bz U×eP U
 |.c s,r=>match qj s r with
  |(x,a)=>(.c x,a)
 |.agg l,r=>match xr l r with
  |(xs,a)=>(.agg xs,a)
 |.row _,c::r=>(.agg ((c.ty.row U c.val).map .t),r)
 |.row _,[]=>(.aY [],[])
 |.aY l,r=>match kN l r with
  |(xs,a)=>(.aY xs,a)
def kN:List e1->eP U->List (bz U)×eP U
 |[],r=>([],r)
 |s::ss,r=>match kM s r with
  |(x,a)=>match kN ss a with
   |(xs,e)=>(x::xs,e)
end
def Bt:List (Nat×e1)->eP U->bU U×eP U
 |[],r=>([],r)
 |(k,s)::ss,r=>match kM s r with
  |(x,a)=>match Bt ss a with
   |(xs,b)=>((k,x)::xs,b)
def iL:fJ->eP U->Option (cO U)×eP U
 |.box l,r=>match xr l r with
  |(xs,a)=>(some (.box xs),a)
 |.arr _,⟨.slice t,l⟩::r=>(some (.arr t l),r)
 |.arr _,r=>(none,r)
 |.bj _,c::r=>(some (.box ((c.ty.row U c.val).map .t)),r)
 |.bj _,[]=>(none,[])
 |.gone,r=>(none,r)
 |.set,⟨.slice .str,l⟩::r=>(some (.set l),r)
 |.set,r=>(none,r)
 |.buf E,⟨.str,s⟩::r=>(some (.buf E s),r)
 |.buf _,r=>(none,r)
 |.b8 E s,r=>match qj s r with
  |(x,a)=>(some (.b8 E x),a)
def gv:Nat->List fJ->eP U->bf U
 |_,[],_=>[]
 |j,s::ss,r=>match iL s r with
  |(some x,a)=>(j,x)::gv (j+1) ss a
  |(none,a)=>gv (j+1) ss a
def nY{α:Type}:List α->Nat->Option α
 |[],_=>none
 |a::_,0=>some a
 |_::l,n+1=>nY l n
theorem zS{α:Type}:∀{l:List α} {n:Nat},nY l n=l[n]?
 |[],n=>by simp[nY]
 |a::l,0=>by simp[nY]
 |a::l,n+1=>by simp[nY,zS (l:=l)]
def qw(bs:a7)(j b:Nat):Bool:=match nY bs j with
 |some a=>Nat.beq a b
 |none=>false
def A5(bs:a7):a7->a7->Bool
 |[],[]=>true
 |j::a,c::cs=>qw bs j c&&A5 bs a cs
 |_,_=>false
def FU(ty:aJ):bl U->Option (Cell U.D)
 |.t c=>match Cell.as ty c with
  |some x=>some ⟨ty,x⟩
  |none=>none
 |.ay=>match ty with
  |.slice t=>some ⟨.slice t,([]:List (t.den U.D))⟩
  |_=>none
 |_=>none
def wZ(bs:a7):kr->bl U->Option (eP U)
 |.hole ty,x=>match FU ty x with
  |some c=>some [c]
  |none=>none
 |.ptr j o,.ptr b a=>match qw bs j b&&Nat.beq o a with
  |true=>some []
  |false=>none
 |.cF j ty o,.cF b d i a=>match qw bs j b&&(Nat.beq o a&&aJ.beq ty d)with
  |true=>some [⟨.int .i64,(i:Int)⟩]
  |false=>none
 |.dM ty o,.dM d x a=>match Nat.beq o a,Cell.as ty (⟨d,x⟩:Cell U.D)with
  |true,some x=>some [⟨ty,x⟩]
  |_,_=>none
 |.arr j,.arr b=>match qw bs j b with
  |true=>some []
  |false=>none
 |.mp j,.mp b=>match qw bs j b with
  |true=>some []
  |false=>none
 |.cG j,.cG b=>match qw bs j b with
  |true=>some []
  |false=>none
 |.ay,.ay=>some []
 |.e3,.e3=>some []
 |.e2,.e2=>some []
 |.fn f g,.fn e cs=>match Nat.beq f e&&A5 bs g cs with
  |true=>some []
  |false=>none
 |.dead,_=>some []
 |_,_=>none
def qg(bs:a7):List kr->List (bl U)->Option (eP U)
 |[],[]=>some []
 |s::ss,x::xs=>match wZ bs s x,qg bs ss xs with
  |some a,some b=>some (a++b)
  |_,_=>none
 |_,_=>none
mutual
def jN(bs:a7):e1->bz U->Option (eP U)
 |.c s,.c x=>wZ bs s x
 |.agg l,.agg xs=>qg bs l xs
 |.row n,.agg xs=>match qa U (.nm n) xs with
  |some x=>some [⟨.nm n,x⟩]
  |none=>none
 |.aY l,.aY xs=>mf bs l xs
 |_,_=>none
def mf(bs:a7):List e1->List (bz U)->Option (eP U)
 |[],[]=>some []
 |s::ss,x::xs=>match jN bs s x,mf bs ss xs with
  |some a,some b=>some (a++b)
  |_,_=>none
 |_,_=>none
end
def w0(bs:a7)(env:bU U):List (Nat×e1)->Option (eP U)
 |[]=>some []
 |(k,s)::ss=>match aX env k with
  |some x=>match jN bs s x,w0 bs env ss with
   |some a,some b=>some (a++b)
   |_,_=>none
  |none=>none
def oI(bs:a7):fJ->cO U->Option (eP U)
 |.box l,.box xs=>qg bs l xs
 |.arr ty,.arr t l=>match Cell.as (.slice ty) (⟨.slice t,l⟩:Cell U.D)with
  |some l=>some [⟨.slice ty,l⟩]
  |none=>none
 |.arr ty,.rows sz r=>match Nat.beq (ty.sz U) sz,l6 U ty r with
  |true,some l=>some [⟨.slice ty,l⟩]
  |_,_=>none
 |.bj n,.box xs=>match qa U (.nm n) xs with
  |some x=>some [⟨.nm n,x⟩]
  |none=>none
 |.set,.set l=>some [⟨.slice .str,l⟩]
 |.buf E,.buf a s=>match Nat.beq E a with
  |true=>some [⟨.str,s⟩]
  |false=>none
 |.b8 E s,.b8 a x=>match Nat.beq E a with
  |true=>wZ bs s x
  |false=>none
 |_,_=>none
def iV(bs:a7)(J:bf U):Nat->List fJ->Option (eP U)
 |_,[]=>some []
 |j,.gone::ss=>iV bs J (j+1) ss
 |j,s::ss=>match nY bs j with
  |some b=>match aX J b with
   |some x=>match oI bs s x,iV bs J (j+1) ss with
    |some a,some r=>some (a++r)
    |_,_=>none
   |none=>none
  |none=>none
variable{a:eP U}{ss:List fJ}
section
variable {kk N:Nat}{J Jc:bf U}{J1:a8}{env:bU U}{env1:Env}{bs:a7}
def Can(bs:a7)(J Jc:bf U):Prop:=∀j b a,bs[j]?=some b->aX Jc j=some a->∃x,aX J b=some x/\∀p,a.dc=some p->x.dc=some p
theorem mD(bT:bs.Nodup){j b:Nat}(h:bs[j]?=some b):pos bs b=some j:=by
 induction bs generalizing j with
 |nil=>simp at h
 |cons a bs ih=>
  simp only[pos];grind
theorem vg{j b:Nat}(h:qw bs j b=true):bs[j]?=some b:=by
 unfold qw at h;rw[zS]at h;split at h
 . simp_all
 . cases h
theorem I7(bT:bs.Nodup):∀{a cs:a7},A5 bs a cs=true->nZ bs cs=some a
 |[],[],_=>rfl
 |j::a,c::cs,h=>by
  simp only[A5,cd]at h;simp[nZ,mD bT (vg h.1),I7 bT h.2]
theorem Zw{ty:aJ}{x:bl U}{c:Cell U.D}{d:C}(h:FU ty x=some c)(a:cj N J x d):dx (d.bN bs) (.t (c.enc U))/\c.ty=ty:=by
 unfold FU at h;split at h
 . split at h
   . rename_i e y b;cases h;rw[Cell.ku b]at a;cases a;exact⟨dx.refl _,rfl⟩
   . cases h
 . split at h
   . cases h;cases a;exact⟨dx.ay,rfl⟩
   . cases h
 . cases h
theorem HH(bT:bs.Nodup)(A:Can bs J Jc){s:kr}{x:bl U}(h:wZ bs s x=some a):
 ∃y,(∀r,qj s (a++r)=(y,r))/\∀d,cj N J x d->∃z,dx (d.bN bs) z/\cj bs.length Jc y z:=by
 unfold wZ at h;split at h
 . split at h
   . rename_i c E;cases h;exact⟨.t c,λr=>rfl,λd g=>⟨_,(Zw E g).1,.t c⟩⟩
   . cases h
 . rename_i j o b B;split at h
   . rename_i k;simp only[cd]at k;have:=cT k.2;subst this;cases h;refine⟨.ptr j o,λr=>rfl,λd g=>⟨.ptr j o,?_,.ptr j o⟩⟩;cases g;simp only[C.bN,mD bT (vg k.1)];exact dx.refl _
   . cases h
 . rename_i j ty o b H i B;split at h
   . rename_i k;simp only[cd]at k;have:=cT k.2.1;subst this;have:=aJ.beq_eq k.2.2;subst this;cases h;refine⟨.cF j ty i o,λr=>rfl,λd g=>⟨.cF j (ty.sz U) i o,?_,.cF j ty i o⟩⟩;cases g;simp only[C.bN,mD bT (vg k.1)];exact dx.refl _
   . cases h
 . rename_i ty o H x B;split at h
   . rename_i y F G;have:=cT F;subst this;cases h;have e:=Cell.ku G;cases e;refine⟨.dM ty y o,λr=>rfl,λd g=>⟨d,?_,?_⟩⟩
     . cases g;exact dx.refl _
     . cases g;exact .dM ty y o
   . cases h
 . rename_i j b;split at h
   . rename_i k;cases h;refine⟨.arr j,λr=>rfl,λd g=>?_⟩;cases g with
     |arr _ sz n D aa=>
      have l:=vg k;refine⟨.arr j sz 0 n,?_,.arr j sz n (c5.1 l).1 λx u p q=>?_⟩
      . simp only[C.bN,mD bT l];exact dx.refl _
      . obtain⟨w,h1,m⟩:=A j b x l u;exact aa w h1 p (m p q)
   . cases h
 . rename_i j b;split at h
   . rename_i k;cases h;refine⟨.mp j,λr=>rfl,λd g=>?_⟩;cases g;refine⟨.mp j,?_,.mp j⟩;simp only[C.bN,mD bT (vg k)];exact dx.refl _
   . cases h
 . rename_i j b;split at h
   . rename_i k;cases h;refine⟨.cG j,λr=>rfl,λd g=>?_⟩;cases g with
     |cG _ n D aa=>
      have l:=vg k;refine⟨.cG j n,?_,.cG j n (c5.1 l).1 λx u p q=>?_⟩
      . simp only[C.bN,mD bT l];exact dx.refl _
      . obtain⟨w,h1,m⟩:=A j b x l u;exact aa w h1 p (m p q)
   . cases h
 . cases h;exact⟨.ay,λr=>rfl,λd g=>by cases g;exact⟨.ay,dx.refl _,.ay⟩⟩
 . cases h;exact⟨.e3,λr=>rfl,λd g=>by cases g;exact⟨.e3,dx.refl _,.e3⟩⟩
 . cases h;exact⟨.e2,λr=>rfl,λd g=>by cases g;exact⟨.e2,dx.refl _,.e2⟩⟩
 . rename_i f v I cs;split at h
   . rename_i k;simp only[cd]at k;have:=cT k.1;subst this;cases h;refine⟨.fn f v,λr=>rfl,λd g=>⟨.fn f v,?_,.fn f v⟩⟩;cases g;simp only[C.bN,I7 bT k.2];exact dx.refl _
   . cases h
 . cases h;exact⟨.dead,λr=>rfl,λd g=>⟨.dead,dx.dead _,.dead _⟩⟩
 . cases h
theorem GG(bT:bs.Nodup)(d:Can bs J Jc):∀{ss:List kr} {xs:List (bl U)} {a:eP U},qg bs ss xs=some a->
 ∃ys,(∀r,xr ss (a++r)=(ys,r))/\∀ds,a' (cj N J) xs ds->∃b,a' dx (ds.map (C.bN bs)) b/\a' (cj bs.length Jc) ys b
 |[],[],a,h=>by simp[qg]at h;subst h;exact⟨[],λr=>rfl,λds c=>by cases c;exact⟨[],.nil,.nil⟩⟩
 |s::ss,x::xs,a,h=>by
  simp only[qg]at h;split at h
  . rename_i a1 a2 h1 j;cases h;obtain⟨y,f1,g⟩:=HH (N:=N) bT d h1;obtain⟨ys,f2,i⟩:=GG bT d j;refine⟨y::ys,λr=>by simp only[xr,hp,f1,f2],λds c=>?_⟩;cases c with
    |cons uH k=>
     obtain⟨e,aK,f⟩:=g _ uH;obtain⟨b,c9,iq⟩:=i _ k;exact⟨e::b,.cons aK c9,.cons f iq⟩
  . cases h
 |[],_::_,a,h=>by simp[qg]at h
 |_::_,[],a,h=>by simp[qg]at h
theorem JZ{n:Nat}{xs:List (bl U)}{x:(aJ.nm n).den U.D}(h:qa U (.nm n) xs=some x):∀ds,a' (cj N J) xs ds->∃e,a' dx (ds.map (C.bN bs)) e/\a' (cj bs.length Jc) (((aJ.nm n).row U x).map .t) e:=by
 intro ds g;refine⟨((aJ.nm n).enc U x).map .t,?_,yY⟩;unfold qa at h;split at h
 . rename_i row a;rw[aJ.uD,aJ.E4 h,List.map_map];clear h;generalize (aJ.nm n).cells U=db at a;induction xs generalizing db row ds with
   |nil=>
    cases g;cases db<;>simp[iJ]at a;subst a;exact .nil
   |cons y ys ih=>
    cases g with
    | @cons _ d _ ds h1 f=>
     cases db with
     |nil=>cases y<;>simp[iJ]at a
     |cons ty db=>
      cases h1 with
      |t c=>cases ty<;>simp only[iJ]at a<;>(split at a<;>first|(cases a;done)|(rename_i q b;cases a;exact .cons (dx.refl _) (ih _ f _ _ b)))
      |ay=>
       cases ty<;>simp only[iJ,reduceCtorEq]at a;split at a
       . rename_i q b;cases a;exact .cons dx.ay (ih _ f _ _ b)
       . cases a
      |_=>cases ty<;>simp[iJ]at a
 . cases h
mutual
theorem Ey(bT:bs.Nodup)(u:Can bs J Jc):∀{s:e1} {x:bz U} {a:eP U},jN bs s x=some a->
 ∃y,(∀r,kM s (a++r)=(y,r))/\∀d,ca N J x d->∃j,gi (d.bN bs) j/\ca bs.length Jc y j
 |.c s,.c x,a,h=>by
  simp only[jN]at h;obtain⟨y,f,g⟩:=HH (N:=N) bT u h;refine⟨.c y,λr=>by simp only[kM,f],λd e=>?_⟩;cases e with
  |c e=>obtain⟨j,aK,p⟩:=g _ e;exact⟨.c j,.c aK,.c p⟩
 |.agg l,.agg xs,a,h=>by
  simp only[jN]at h;obtain⟨y,f,g⟩:=GG (N:=N) bT u h;refine⟨.agg y,λr=>by simp only[kM,f],λd e=>?_⟩;cases e with
  |agg e=>obtain⟨j,aK,p⟩:=g _ e;exact⟨.agg j,.agg aK,.agg p⟩
 |.row n,.agg xs,a,h=>by
  simp only[jN]at h;split at h
  . rename_i x q;cases h;refine⟨.agg (((aJ.nm n).row U x).map .t),λr=>rfl,λd e=>?_⟩;cases e with
    |agg e=>obtain⟨j,aK,p⟩:=JZ q _ e;exact⟨.agg j,.agg aK,.agg p⟩
  . cases h
 |.aY l,.aY xs,a,h=>by
  simp only[jN]at h;obtain⟨ys,f,af,g⟩:=uw bT u h;refine⟨.aY ys,λr=>by simp only[kM,f],λd e=>?_⟩;cases e with
  |aY _ ds D e=>
   obtain⟨o,aK,p,c9⟩:=g ds D e;refine⟨.aY o,.aY _ _ (by rw[BV];exact aK.symm) ?_,.aY _ _ (by omega) λi x d q v=>(c9 i x d q v)⟩;intro i x y q E;rw[CQ,bb]at q;grind
 |.c _,.agg _,a,h=>by simp[jN]at h
 |.c _,.aY _,a,h=>by simp[jN]at h
 |.agg _,.c _,a,h=>by simp[jN]at h
 |.agg _,.aY _,a,h=>by simp[jN]at h
 |.row _,.c _,a,h=>by simp[jN]at h
 |.row _,.aY _,a,h=>by simp[jN]at h
 |.aY _,.c _,a,h=>by simp[jN]at h
 |.aY _,.agg _,a,h=>by simp[jN]at h
theorem uw(bT:bs.Nodup)(u:Can bs J Jc):∀{ss:List e1} {xs:List (bz U)} {a:eP U},mf bs ss xs=some a->
 ∃ys:List (bz U),(∀r,kN ss (a++r)=(ys,r))/\ys.length=xs.length/\∀ds:List V,xs.length=ds.length->(∀(i:Nat) x d,xs[i]?=some x->ds[i]?=some d->ca N J x d)->
  ∃o:List V,o.length=ds.length/\(∀(i:Nat) (d j:V),ds[i]?=some d->o[i]?=some j->gi (d.bN bs) j)/\(∀(i:Nat) y j,ys[i]?=some y->o[i]?=some j->ca bs.length Jc y j)
 |[],[],a,h=>by simp[mf]at h;subst h;exact⟨[],λr=>rfl,rfl,λds af e=>⟨[],by simpa using af,by simp,by simp⟩⟩
 |s::ss,x::xs,a,h=>by
  simp only[mf]at h;split at h
  . rename_i a1 a2 h1 B;cases h;obtain⟨y,f1,z⟩:=Ey bT u h1;obtain⟨ys,f2,af,A⟩:=uw bT u B;refine⟨y::ys,λr=>by simp only[kN,hp,f1,f2],by simp[af],λds w e=>?_⟩;cases ds with
    |nil=>simp at w
    |cons d ds=>
     obtain⟨j,aK,p⟩:=z d (e 0 x d rfl rfl);obtain⟨o,c9,iq,kL⟩:=A ds (by simpa using w) λi x d q v=>e (i+1) x d (by simpa using q) (by simpa using v);refine⟨j::o,by simp[c9],λi=>?_,λi=>?_⟩
     . grind
     grind
  . cases h
 |[],_::_,a,h=>by simp[mf]at h
 |_::_,[],a,h=>by simp[mf]at h
end
theorem Gt:∀{ks:a7} {k:Nat} {g:Bool} {v:V},k∈ks->look env1 k=some (g,v)->look (nH bs env1 ks) k=some (g,v.bN bs)
 |x::ks,k,g,v,b,af=>by
  simp only[nH];by_cases h:x=k
  . subst h;rw[af];simp[look]
  . have a:k∈ks:=(by grind);split
    . simp only[look,ak h];exact Gt a af
    . exact Gt a af
theorem I8(bT:bs.Nodup)(f:Can bs J Jc)(he:c3 N J (λ_=>true) env env1):∀{ss:List (Nat×e1)} {a:eP U},w0 bs env ss=some a->
 ∃e,(∀r,Bt ss (a++r)=(e,r))/\∃c:Env,c3 bs.length Jc (λ_=>true) e c/\∀k g j,look c k=some (g,j)->k∈ss.map Prod.fst/\∃v,look env1 k=some (g,v)/\gi (v.bN bs) j
 |[],a,h=>by simp[w0]at h;subst h;exact⟨[],λr=>rfl,[],λk v p=>by simp[aX]at p,λk g v h=>by simp[look]at h⟩
 |(k,s)::ss,a,h=>by
  simp only[w0]at h;split at h
  . rename_i x q;split at h
    . rename_i a1 a2 h1 n;cases h;obtain⟨y,f1,m⟩:=Ey (N:=N) bT f h1;obtain⟨e,f2,c,aK,u⟩:=I8 bT f he n;obtain⟨d,w,t⟩:=he k x q;obtain⟨l,z,A⟩:=m d t;refine⟨(k,y)::e,λr=>by simp only[Bt,hp,f1,f2],(k,true,l)::c,λi v b=>?_,λi g v b=>?_⟩
      . simp only[aX]at b;simp only[look];split at b
        . simp_all
        . rename_i o;rw[ak (hE o)];exact aK i v b
      . simp only[look]at b;grind
    . cases h
  . cases h
theorem HI(bT:bs.Nodup)(k:Can bs J Jc){s:fJ}{x:cO U}(h:oI bs s x=some a):
 ∃y,(∀r,iL s (a++r)=(some y,r))/\(∀d,hU N J x d->∃i,jX (d.bN bs) i/\hU bs.length Jc y i):=by
 unfold oI at h;split at h
 . obtain⟨ys,f,g⟩:=GG (N:=N) bT k h;refine⟨.box ys,λr=>by simp only[iL,f],λd b=>?_⟩;cases b with
   |box b=>obtain⟨j,aK,c⟩:=g _ b;exact⟨.box j,.box aK,.box c⟩
 . rename_i ty t q;split at h
   . rename_i l af;cases h;have e:=Cell.ku af;cases e;refine⟨.arr ty l,λr=>rfl,λd b=>?_⟩;cases b;exact⟨_,.arr,.arr ty l⟩
   . cases h
 . rename_i ty sz r;split at h
   . rename_i l m af;cases h;have:=cT m;subst this;refine⟨.arr ty l,λr=>rfl,λd b=>?_⟩;cases b with
     |rows h1 p=>
      refine⟨_,.arr,?_⟩;rw[<-v' af h1];exact .arr ty l
   . cases h
 . rename_i n xs;split at h
   . rename_i x o;cases h;refine⟨.box (((aJ.nm n).row U x).map .t),λr=>rfl,λd b=>?_⟩;cases b with
     |box b=>obtain⟨j,aK,c⟩:=JZ o _ b;exact⟨.box j,.box aK,.box c⟩
   . cases h
 . cases h;refine⟨.set _,λr=>rfl,λd b=>?_⟩;cases b;exact⟨_,.same,.set _⟩
 . split at h
   . rename_i dR;have:=cT dR;subst this;cases h;refine⟨.buf _ _,λr=>rfl,λd b=>?_⟩;cases b;exact⟨_,.same,.buf _ _⟩
   . cases h
 . split at h
   . rename_i dR;have:=cT dR;subst this;obtain⟨y,f,g⟩:=HH (N:=N) bT k h;refine⟨.b8 _ y,λr=>by simp only[iL,f];rfl,λd b=>?_⟩;cases b with
     |b8 b=>obtain⟨i,aK,c⟩:=g _ b;exact⟨.b8 _ i,.b8 aK,.b8 c⟩
   . cases h
 . cases h
theorem Jf{t:aJ}:∀{r:List (List (bl U))} {l:List (t.den U.D)},l6 U t r=some l->l.length=r.length
 |[],l,h=>by simp[l6]at h;subst h;rfl
 |r::c,l,h=>by
  simp only[l6]at h;split at h
  . rename_i x xs b a;cases h;simp[Jf a]
  . cases h
theorem aby{s:fJ}{x y:cO U}{r:eP U}(h:oI bs s x=some a)(b:iL s (a++r)=(some y,r)):∀p,y.dc=some p->x.dc=some p:=by
 unfold oI at h;split at h
 . intro p c;simp only[iL,bB,bF]at b;rw[<-b.1]at c;simp[cO.dc]at c
 . rename_i ty t g;split at h
   . rename_i l af;cases h;have e:=Cell.ku af;cases e;simp only[iL,rz,fR,bB,bF,pZ]at b;grind
   . cases h
 . rename_i ty sz i;split at h
   . rename_i l d af;cases h;have:=cT d;subst this;simp only[iL,rz,fR,bB,bF,pZ]at b;rw[<-b];intro p c;simp only[cO.dc]at c⊢;rw[<-Jf af];exact c
   . cases h
 . rename_i n xs;split at h
   . rename_i x f;cases h;intro p c;simp only[iL,rz,fR,bB,bF,pZ]at b;rw[<-b]at c;simp[cO.dc]at c
   . cases h
 . cases h;simp only[iL,rz,fR,bB,bF,pZ]at b;grind
 . split at h
   . rename_i dR;have:=cT dR;subst this;cases h;simp only[iL,rz,fR,bB,bF,pZ]at b;grind
   . cases h
 . split at h
   . intro p c;simp only[iL,bB,bF]at b;rw[<-b.1]at c;simp[cO.dc]at c
   . cases h
 . cases h
theorem pV(bT:bs.Nodup):∀{ss:List fJ} {j:Nat} {a:eP U},iV bs J j ss=some a->
 (∀i c,aX (gv j ss a) i=some c->j<=i/\i<j+ss.length/\∃b x,bs[i]?=some b/\aX J b=some x/\∃s e,oI bs s x=some e/\∀r,iL s (e++r)=(some c,r))
 |[],j,a,h=>by intro i c d;simp[gv,aX]at d
 |.gone::ss,j,a,h=>by
  intro i c d;simp only[iV]at h;simp only[gv,iL]at d;obtain⟨h1,g,p⟩:=pV bT h i c d;grind
 |.box l::ss,j,a,h=>uv bT (s:= .box l) (λ{j a}=>pV bT (ss:=ss) (j:=j) (a:=a)) (by simpa only[iV]using h)
 |.arr l::ss,j,a,h=>uv bT (s:= .arr l) (λ{j a}=>pV bT (ss:=ss) (j:=j) (a:=a)) (by simpa only[iV]using h)
 |.bj l::ss,j,a,h=>uv bT (s:= .bj l) (λ{j a}=>pV bT (ss:=ss) (j:=j) (a:=a)) (by simpa only[iV]using h)
 |.set::ss,j,a,h=>uv bT (s:= .set) (λ{j a}=>pV bT (ss:=ss) (j:=j) (a:=a)) (by simpa only[iV]using h)
 |.buf E::ss,j,a,h=>uv bT (s:= .buf E) (λ{j a}=>pV bT (ss:=ss) (j:=j) (a:=a)) (by simpa only[iV]using h)
 |.b8 E l::ss,j,a,h=>uv bT (s:= .b8 E l) (λ{j a}=>pV bT (ss:=ss) (j:=j) (a:=a)) (by simpa only[iV]using h)
where
 uv (bT:bs.Nodup) {s:fJ} {ss:List fJ} (ih:∀{j:Nat} {a:eP U},iV bs J j ss=some a->
  (∀i c,aX (gv j ss a) i=some c->j<=i/\i<j+ss.length/\∃b x,bs[i]?=some b/\aX J b=some x/\∃s e,oI bs s x=some e/\∀r,iL s (e++r)=(some c,r))) {j:Nat} {a:eP U} (h:(match nY bs j with
  |some b=>match aX J b with
   |some x=>match oI bs s x,iV bs J (j+1) ss with
    |some a,some r=>some (a++r)
    |_,_=>none
   |none=>none
  |none=>none)=some a):(∀i c,aX (gv j (s::ss) a) i=some c->j<=i/\i<j+(s::ss).length/\∃b x,bs[i]?=some b/\aX J b=some x/\∃s e,oI bs s x=some e/\∀r,iL s (e++r)=(some c,r)):=by
  intro i c d;split at h
  . rename_i b k;rw[zS]at k;split at h
    . rename_i x n;split at h
      . rename_i a1 a2 h1 g;cases h;obtain⟨y,f,_⟩:=HI (N:=0) (J:=J) (Jc:=[]) bT (λ_ _ _ _ h=>by simp[aX]at h) h1;simp only[gv,f,aX]at d;split at d
        . rename_i m;have:=cT m;subst this;cases d;exact⟨ef _,by simp,b,x,k,n,s,a1,h1,f⟩
        . obtain⟨q,t,o⟩:=ih g i c d;exact⟨by omega,by simp;omega,o⟩
      . cases h
    . cases h
  . cases h
def hn(U:cK)(bx:Shape)(a:eP U):bU U×bf U:=
 match Bt bx.env a with
 |(e,r)=>(e,gv 0 bx.st r)
def Ex(bs:a7)(bx:Shape)(env:bU U)(J:bf U):Option (eP U):=
 match w0 bs env bx.env,iV bs J 0 bx.st with
 |some a,some b=>some (a++b)
 |_,_=>none
theorem z'(bT:bs.Nodup){b:eP U}(g:iV bs J 0 ss=some b):Can bs J (gv 0 ss b):=by
 intro j c k a i;obtain⟨_,_,m,x,h1,d,s,l,e,f⟩:=pV bT g j k i;rw[h1]at a;cases a;exact⟨x,d,aby e (f [])⟩
theorem zh{J1:a8}:∀{r:a7} {i j c:Nat} {x:bO},r[j]?=some c->aW J1 c=some x->aW (fp bs J1 i r) (i+j)=some (x.bN bs)
 |[],i,j,c,x,h,_=>by simp at h
 |b::r,i,0,c,x,h,a=>by
  simp at h;subst h;simp only[fp,a,aW,l0,bS]
 |b::r,i,j+1,c,x,h,a=>by
  simp only[fp];have:=zh (i:=i+1) (j:=j) (r:=r) (by simpa using h) a;rw[show i+1+j=i+(j+1) by omega]at this;split
  . simp only[aW];rw[bq];exact this
  omega
theorem De(bT:bs.Nodup)(aF:cx N J J1){b:eP U}(k:iV bs J 0 ss=some b):
 ∃bo,rX (fp bs J1 0 bs) bo/\cx bs.length (gv 0 ss b) bo:=by
 have M:=z' bT k;have P:=pV bT k;generalize gv 0 ss b=Jc at*;have key:∀(l:bf U),(∀i a,aX l i=some a->aX Jc i=some a)->∃bo:a8,(∀i x,aW bo i=some x->∃y,aW (fp bs J1 0 bs) i=some y/\jX y x)/\(∀i a,aX l i=some a->i<bs.length/\∃y,aW bo i=some y/\hU bs.length Jc a y):=by
  intro l;induction l with
  |nil=>intro _;exact⟨[],λi x h=>by simp[aW]at h,λi x h=>by simp[aX]at h⟩
  |cons p l ih=>
   obtain⟨d,u⟩:=p;intro af;have:∃bo:a8,(∀i x,aW bo i=some x->∃y,aW (fp bs J1 0 bs) i=some y/\jX y x)/\(∀i a,i≠d->aX l i=some a->i<bs.length/\∃y,aW bo i=some y/\hU bs.length Jc a y):=by
    have:=ih;have aux:∀(m:bf U),(∀i a,i≠d->aX m i=some a->aX Jc i=some a)->∃bo:a8,(∀i x,aW bo i=some x->∃y,aW (fp bs J1 0 bs) i=some y/\jX y x)/\(∀i a,i≠d->aX m i=some a->i<bs.length/\∃y,aW bo i=some y/\hU bs.length Jc a y):=by
     intro m X;have R:∀i a,aX (dl m d) i=some a->aX Jc i=some a:=by
      intro i a h;rw[n5]at h;grind
     have build:∀n,∃bo:a8,(∀i x,aW bo i=some x->∃y,aW (fp bs J1 0 bs) i=some y/\jX y x)/\(∀i a,i<n->aX (dl m d) i=some a->i<bs.length/\∃y,aW bo i=some y/\hU bs.length Jc a y):=by
      intro n;induction n with
      |zero=>exact⟨[],λi x h=>by simp[aW]at h,λi x h=>by omega⟩
      |succ n T=>
       obtain⟨s,h1,g⟩:=T;cases aD:aX (dl m d) n with
       |none=>exact ⟨s,h1,λi a o c=>g i a (by have:i≠n:=λe=>by subst e; rw [aD] at c; cases c
                                              omega) c⟩
       |some L=>
        obtain⟨_,_,v,x,r,A,W,Q,B,C⟩:=P n L (R n L aD);obtain⟨_,y,E,F⟩:=aF v x A;obtain⟨z,f,q⟩:=HI (N:=N) bT M B;have:z=L:=by have:=(f []).symm.trans (C []);simpa using this
        subst this;obtain⟨t,V,G⟩:=q y F;have ht:=zh (bs:=bs) (i:=0) (j:=n) r E;rw[ga]at ht;refine⟨da s n t,λi x o=>?_,λi a o c=>?_⟩
        . rw[cV]at o;grind
        . by_cases e:i=n
          . subst e;rw[aD]at c;cases c;exact⟨(c5.1 r).1,t,by rw[cV,ad rfl],G⟩
          . obtain⟨H,z,I,K⟩:=g i a (by omega) c;exact⟨H,z,by rw[cV,ak (λw=>e w.symm)];exact I,K⟩
     obtain⟨s,h1,g⟩:=build bs.length;refine⟨s,h1,λi a D c=>?_⟩;have O:aX (dl m d) i=some a:=by rw[n5,ak (λe=>D e.symm)];exact c
     grind
    exact aux l λi a D h=>af i a (by
     simp only[aX];cases k:Nat.beq d i with
     |true=>exact absurd (cT k).symm D
     |false=>exact h)
   obtain⟨s,h1,g⟩:=this;have S:aX Jc d=some u:=af d u (by simp[aX,yp]);obtain⟨_,_,v,x,r,A,W,Q,B,C⟩:=P d u S;obtain⟨_,y,E,F⟩:=aF v x A;obtain⟨z,f,q⟩:=HI (N:=N) bT M B;have:z=u:=by have:=(f []).symm.trans (C []);simpa using this
   subst this;obtain⟨t,V,G⟩:=q y F;have ht:=zh (bs:=bs) (i:=0) (j:=d) r E;rw[ga]at ht;refine⟨da s d t,λi x o=>?_,λi a c=>?_⟩
   . rw[cV]at o;grind
   . by_cases e:i=d
     . subst e;simp[aX,yp]at c;subst c;exact⟨(c5.1 r).1,t,by rw[cV,ad rfl],G⟩
     . have O:aX l i=some a:=by
        simp only[aX]at c;cases k:Nat.beq d i with
        |true=>exact absurd (cT k).symm e
        |false=>rw[k]at c;exact c
       obtain⟨H,z,I,K⟩:=g i a e O;exact⟨H,z,by rw[cV,ak (λw=>e w.symm)];exact I,K⟩
 obtain⟨s,h1,g⟩:=key Jc λ_ _ h=>h;exact⟨s,λi x o=>h1 i x o,λi a c=>g i a c⟩
theorem ZJ(bT:bs.Nodup)(l:keeps kk bs=true)(he:c3 N J (λ_=>true) env env1)(aF:cx N J J1){bx:Shape}(h:Ex bs bx env J=some a):
 ∃c bo,Conv kk N env1 J1 bs.length c bo/\c3 bs.length (hn U bx a).2 (λ_=>true) (hn U bx a).1 c/\cx bs.length (hn U bx a).2 bo:=by
 unfold Ex at h;split at h
 . rename_i a1 b h1 d;cases h;obtain⟨i,f,c,aK,e⟩:=I8 bT (z' bT d) he h1;obtain⟨bo,s1,o⟩:=De bT aF d;have j:hn U bx (a1++b)=(i,gv 0 bx.st b):=(by simp only[hn,f]);rw[j];refine⟨c,bo,(Conv.tidy (bx.env.map Prod.fst) bs bT l).trans (Conv.weaken (λk g p af=>?_) s1),aK,o⟩;obtain⟨m,v,n,hs⟩:=e k g p af;exact⟨_,Gt m n,hs⟩
 . cases h
end
end
section
open Go
variable {U:cK}
def e4(D:Nat->Type):aJ->List aJ->Type
 |t,[]=>t.den D
 |t,u::r=>t.den D×e4 D u r
def aL(D:Nat->Type):List aJ->Type
 |[]=>Unit
 |t::r=>e4 D t r
def e4.cells(D:Nat->Type):(t:aJ)->(ts:List aJ)->e4 D t ts->List (Cell D)
 |t,[],x=>[⟨t,x⟩]
 |t,u::r,x=>⟨t,x.1⟩::e4.cells D u r x.2
def aL.cells(D:Nat->Type):(ts:List aJ)->aL D ts->List (Cell D)
 |[],_=>[]
 |t::r,x=>e4.cells D t r x
def E2{α:Type}:List α->Option α
 |[c]=>some c
 |_=>none
def uH{α:Type}:List α->Option (α×List α)
 |[]=>none
 |c::r=>some (c,r)
def e4.dec(D:Nat->Type):(t:aJ)->(ts:List aJ)->List (Cell D)->Option (e4 D t ts)
 |t,[],l=>match E2 l with
  |some c=>c.as t
  |none=>none
 |t,u::r,l=>match uH l with
  |some p=>match p.1.as t with
   |some x=>match e4.dec D u r p.2 with
    |some y=>some (x,y)
    |none=>none
   |none=>none
  |none=>none
def aL.dec(D:Nat->Type):(ts:List aJ)->List (Cell D)->Option (aL D ts)
 |[],l=>match l with
  |[]=>some ()
  |_=>none
 |t::r,l=>e4.dec D t r l
variable{α:Type}{D:Nat->Type}{J:bf U}{N:Nat}{c:α×List α}
theorem Zx{l:List α}{c:α}(h:E2 l=some c):l=[c]:=by
 unfold E2 at h;split at h
 . cases h;rfl
 . cases h
theorem abz{l:List α}(h:uH l=some c):l=c.1::c.2:=by
 unfold uH at h;split at h
 . cases h
 grind
theorem e4.fb:∀{ts:List aJ} {t:aJ} {a:List (Cell D)} {h:e4 D t ts},e4.dec D t ts a=some h->e4.cells D t ts h=a
 |[],t,a,h,e=>by
  unfold e4.dec at e;split at e
  . rename_i c f;rw[Zx f,Cell.ku (t:=t) (x:=h) e];rfl
  . cases e
 |u::r,t,a,h,e=>by
  unfold e4.dec at e;split at e
  . rename_i p j;split at e
    . rename_i x o;split at e
      . rename_i y q;cases e;have:=e4.fb q;show⟨t,x⟩::e4.cells D u r y=a;rw[this,abz j,<-Cell.ku o]
      . cases e
    . cases e
  . cases e
theorem aL.fb:∀{ts:List aJ} {a:List (Cell D)} {h:aL D ts},aL.dec D ts a=some h->aL.cells D ts h=a
 |[],[],h,e=>rfl
 |[],_::_,h,e=>by cases (show(none:Option Unit)=some h from e)
 |t::r,a,h,e=>e4.fb e
def e4.kb(U:cK):(t:aJ)->(ts:List aJ)->e4 U.D t ts
 |t,[]=>t.kb U
 |t,u::r=>(t.kb U,e4.kb U u r)
def aL.kb(U:cK):(ts:List aJ)->aL U.D ts
 |[]=>()
 |t::r=>e4.kb U t r
abbrev j0:=List (Nat×Nat)×List (Nat×aJ)
def FL:kr->bl U->j0->j0
 |.ptr j _,.ptr b _,s=>((j,b)::s.1,s.2)
 |.cF j _ _,.cF b _ _ _,s=>((j,b)::s.1,s.2)
 |.arr j,.arr b,s=>((j,b)::s.1,s.2)
 |.mp j,.mp b,s=>((j,b)::s.1,s.2)
 |.cG j,.cG b,s=>((j,b)::s.1,s.2)
 |.fn _ a,.fn _ cs,s=>(a.zip cs++s.1,s.2)
 |.hole (.slice t),.arr b,s=>(s.1,(b,t)::s.2)
 |_,_,s=>s
def FM:List kr->List (bl U)->j0->j0
 |a::as,x::xs,s=>FM as xs (FL a x s)
 |_,_,s=>s
def CW:List aJ->List (bl U)->j0->j0
 |.slice t::ts,.arr b::xs,s=>CW ts xs (s.1,(b,t)::s.2)
 |_::ts,_::xs,s=>CW ts xs s
 |_,_,s=>s
mutual
def FO:e1->bz U->j0->j0
 |.c a,.c x,s=>FL a x s
 |.agg l,.agg xs,s=>FM l xs s
 |.row n,.agg xs,s=>CW (U.db n) xs s
 |.aY l,.aY xs,s=>CX l xs s
 |_,_,s=>s
def CX:List e1->List (bz U)->j0->j0
 |a::as,x::xs,s=>CX as xs (FO a x s)
 |_,_,s=>s
end
def FN(env:bU U):List (Nat×e1)->j0->j0
 |[],s=>s
 |(k,a)::r,s=>match aX env k with
  |some x=>FN env r (FO a x s)
  |none=>FN env r s
def agL:fJ->cO U->j0->j0
 |.box l,.box xs,s=>FM l xs s
 |.bj n,.box xs,s=>CW (U.db n) xs s
 |.b8 _ a,.b8 _ x,s=>FL a x s
 |_,_,s=>s
def wz(J:bf U)(kk:Nat):Nat->List fJ->j0->a7->a7×List (Nat×aJ)
 |_,[],s,acc=>(acc.reverse,s.2)
 |j,a::r,s,acc=>
  let b:=match aX s.1 j with
   |some b=>b
   |none=>match Nat.ble (j+1) kk with
    |true=>j
    |false=>1000000+j
  match aX J b with
  |some x=>wz J kk (j+1) r (agL a x s) (b::acc)
  |none=>wz J kk (j+1) r s (b::acc)
def tf:a7->Bool
 |[]=>true
 |a::l=>(l.all λb=>!(Nat.beq a b))&&tf l
theorem zi:∀{l:a7},tf l=true->l.Nodup
 |[],_=>wj
 |a::l,h=>by
  simp only[tf,cd,cY,p3]at h;refine List.nodup_cons.2 ⟨λb=>?_,zi h.2⟩;have c:=h.1 a b;simp_all
def rP(kk:Nat)(own:List (Pos×aJ))(bx:Shape)(ts:List aJ)(env:bU U)(J:bf U)(N:Nat):Option (aL U.D ts):=
 match AP own env J N with
 |none=>none
 |some (env,J,_)=>match H3 env J with
  |none=>none
  |some (env,J)=>match wz J kk 0 bx.st (FN env bx.env ([],[])) []with
   |(bs,b)=>match kT b env J with
    |none=>none
    |some (env,J)=>match tf bs&&(keeps kk bs&&Nat.beq bs.length bx.st.length)with
     |false=>none
     |true=>match Ex bs bx env J with
      |none=>none
      |some a=>aL.dec U.D ts a
section
variable {kk N:Nat}{J:bf U}{J1:a8}{env:bU U}{env1:Env}
theorem CE{own:List (Pos×aJ)}{bx:Shape}{ts:List aJ}{h:aL U.D ts}(b:rP kk own bx ts env J N=some h)(he:c3 N J (λ_=>true) env env1)(aF:cx N J J1)(z:kk<=N):
 ∃c bo,Conv kk N env1 J1 bx.st.length c bo/\c3 bx.st.length (hn U bx (aL.cells U.D ts h)).2 (λ_=>true) (hn U bx (aL.cells U.D ts h)).1 c/\cx bx.st.length (hn U bx (aL.cells U.D ts h)).2 bo/\kk<=bx.st.length:=by
 unfold rP at b;split at b
 . cases b
 . rename_i I J2 G h1;obtain⟨cX,rD,f,v,n,cq⟩:=I6 h1 he aF z;split at b
   . cases b
   rename_i K E u;obtain⟨aK,s1,i,w,o⟩:=M2 (kk:=kk) u v n;have g:=f.trans i;split at b;rename_i bs M _;split at b
   . cases b
   . rename_i L F l;obtain⟨H,P,j,x,p,_⟩:=yZ (kk:=kk) (gl:=[]) l w o;split at b
     . cases b
     . rename_i d;simp only[cd]at d;obtain⟨s,e,t⟩:=d;have A:=cT t;split at b
       . cases b
       . rename_i a r;obtain⟨c9,C,k,y,q⟩:=ZJ (zi s) e x p r;rw[aL.fb b,<-A];refine⟨c9,C,g.trans (j.trans k),y,q,?_⟩;by_cases O:kk=0
         . omega
         . have B:(bs[kk-1]?==some (kk-1))=true:=by
            unfold keeps at e;grind
           have m:bs[kk-1]?=some (kk-1):=(by simpa using B);have:=(c5.1 m).1;omega
end
structure cB (U:cK) where
 f:Nat
 gA:List e1
 st:List fJ
 ts:List aJ
 eR:e1
 er:List fJ
 us:List aJ
 F:aL U.D ts->Option (aL U.D us)
def cB.args(s:cB U)(h:aL U.D s.ts):List (bz U):=(kN s.gA (aL.cells U.D s.ts h)).1
def cB.iE(s:cB U)(h:aL U.D s.ts):bf U:=gv 0 s.st (kN s.gA (aL.cells U.D s.ts h)).2
def cB.res(s:cB U)(r:aL U.D s.us):bz U:=(kM s.eR (aL.cells U.D s.us r)).1
def cB.rest(s:cB U)(r:aL U.D s.us):bf U:=gv 0 s.er (kM s.eR (aL.cells U.D s.us r)).2
def hV(P:Program)(s:cB U):Prop:=
 ∀h r,s.F h=some r->∀a J1,a' (ca s.st.length (s.iE h)) (s.args h) a->cx s.st.length (s.iE h) J1->
  ea P s.f a J1 s.st.length (λb bo N'=>N'=s.er.length/\ca N' (s.rest r) (s.res r) b/\cx N' (s.rest r) bo)
def bl.oq:bl U->Bool
 |.t _|.dM .. |.ay|.e3|.e2=>true
 |.fn _ []=>true
 |_=>false
def fB:bz U->Bool
 |.c x=>x.oq
 |.agg cs=>cs.all bl.oq
 |.aY vs=>go vs
where go:List (bz U)->Bool
 |[]=>true
 |v::vs=>fB v&&go vs
def bl.oJ:bl U->C
 |.t c=>.t (c.enc U)
 |.dM ty x o=>.dM (ty.enc U x) o
 |.ay=>.ay
 |.e3=>.e3
 |.e2=>.e2
 |.fn f caps=>.fn f caps
 |_=>.dead
def e5:bz U->V
 |.c x=>.c x.oJ
 |.agg cs=>.agg (cs.map bl.oJ)
 |.aY vs=>.aY (go vs)
where go:List (bz U)->List V
 |[]=>[]
 |v::vs=>e5 v::go vs
theorem zT{x:bl U}(h:x.oq=true):cj N J x x.oJ/\(∀d,cj N J x d->d=x.oJ)/\∀n,x.oJ.aA n=true:=by
 cases x<;>simp[bl.oq]at h
 . exact⟨.t _,λd a=>by cases a;rfl,λ_=>rfl⟩
 . exact⟨.dM _ _ _,λd a=>by cases a;rfl,λ_=>rfl⟩
 . exact⟨.ay,λd a=>by cases a;rfl,λ_=>rfl⟩
 . exact⟨.e3,λd a=>by cases a;rfl,λ_=>rfl⟩
 . exact⟨.e2,λd a=>by cases a;rfl,λ_=>rfl⟩
 . rename_i f caps;cases caps with
   |nil=>exact⟨.fn _ _,λd a=>by cases a;rfl,λ_=>rfl⟩
   |cons=>simp[bl.oq]at h
theorem GH:∀{vs:List (bz U)} {i:Nat},(e5.go vs)[i]?=(vs[i]?).map e5
 |[],i=>by simp[e5.go]
 |v::vs,0=>by simp[e5.go]
 |v::vs,i+1=>by simp[e5.go,GH]
theorem RP:∀{vs:List (bz U)},(e5.go vs).length=vs.length
 |[]=>rfl
 |v::vs=>by simp[e5.go,RP]
theorem Tq:∀{vs:List (bz U)} {i:Nat} {v:bz U},fB.go vs=true->vs[i]?=some v->fB v=true
 |[],i,v,_,h=>by simp at h
 |x::vs,0,v,hs,h=>by simp[fB.go]at hs;simp at h;subst h;exact hs.1
 |x::vs,i+1,v,hs,h=>by simp[fB.go]at hs;exact Tq hs.2 (by simpa using h)
theorem aux:∀(cs:List (bl U)),(∀x,x∈cs->x.oq=true)->a' (cj N J) cs (cs.map bl.oJ)
 |[],_=>.nil
 |a::l,h=>.cons (zT (h a (by simp))).1 (aux l λx b=>h x (by simp[b]))
theorem wb{N:Nat}{J:bf U}:∀{x:bz U},fB x=true->ca N J x (e5 x)/\∀n,(e5 x).aA n=true
 |.c x,h=>by
  simp only[fB]at h;obtain⟨h1,_,b⟩:=zT (N:=N) (J:=J) h;exact⟨.c h1,λn=>b n⟩
 |.agg cs,h=>by
  simp only[fB,cY]at h;refine⟨.agg ?_,λn=>?_⟩
  . exact aux cs h
  . simp only[e5,V.aA,mL,cY];intro c g;exact(zT (N:=N) (J:=J) (h c g)).2.2 n
 |.aY vs,h=>by
  simp only[fB]at h;have:=go (N:=N) (J:=J) vs h;refine⟨.aY _ _ (by rw[RP]) λi x d a j=>?_,λn=>?_⟩
  . rw[GH,a]at j;grind
  . simp only[e5,V.aA];exact this.2 n
where go {N:Nat} {J:bf U}:∀(vs:List (bz U)),fB.go vs=true->(∀x,x∈vs->ca N J x (e5 x))/\∀n,V.aA.V.dF n (e5.go vs)=true
 |[],_=>⟨by simp,λ_=>rfl⟩
 |v::vs,h=>by
  simp only[fB.go,cd]at h;obtain⟨h1,e⟩:=wb (N:=N) (J:=J) h.1;obtain⟨b,f⟩:=go (N:=N) (J:=J) vs h.2;refine⟨λx a=>?_,λn=>by simp only[e5.go,V.aA.V.dF,cd];exact⟨e n,f n⟩⟩;rcases fe.1 a with rfl|a
  . exact h1
  . exact b x a
theorem zU{x:bz U}{d:V}(h:ca N J x d):fB x=true->d=e5 x:=by
 induction h with
 |c h=>intro hs;simp only[fB]at hs;rw[(zT (N:=N) (J:=J) hs).2.1 _ h];rfl
 | @agg xs ds h=>
  intro hs;simp only[fB,cY]at hs;simp only[e5]
  congr 1
  induction h with
  |nil=>rfl
  |cons h1 e ih=>rw[gz,<-(zT (N:=N) (J:=J) (hs _ (by simp))).2.1 _ h1,<-ih (λx a=>hs x (by simp[a]))]
 |aY xs ds af h ih=>
  intro hs;simp only[fB]at hs;simp only[e5]
  congr 1
  apply yh;intro i;rw[GH];cases a:xs[i]? with
  |none=>grind
  |some x=>
   have f:=(c5.1 a).1;have b:=eH (l:=ds) (i:=i) (by omega);rw[b,fZ]
   congr 1
   exact ih i x _ a b (Tq hs a)
end
section
open Go
variable {U:cK}
variable{K:Env->a8->Prop}{f:Nat->Nat}
section
variable {P:Program}{nt kk key N N':Nat}{env:Env}{J J':a8}{Q mY:Exit->Env->a8->Nat->Prop}
def NU(P:Program)(f:Nat)(args:List V)(J:a8)(key:Nat)(env:Env)(K:V->a8->Prop):Prop:=
 ∀aC nt φ S a w,Rel aC nt φ S env J (lt key) a w->V.aA.V.dF (lt key) args=true->∀vs:List Value,a' (cm φ w S) args vs->
  Calls P f vs.toArray w λe w'=>∃v r b bQ J',e= .returned v/\K r J'/\cm b w' bQ r v/\r.aA (eD (lt key) key)=true/\Rel aC nt b bQ env J' (eD (lt key) key) a w'
def acW(P:Program)(o:cb)(env:Env)(f:Nat)(vs:List V):Prop:=
 (∃args p,o.op= .call f args/\ho env args=some (p,vs)/\p)\/
 (∃x args q p caps a,o.op= .iG x args/\x.get env=some (q,.c (.fn f caps))/\q/\ho env args=some (p,a)/\p/\hF P f=true/\vs=a++caps.map λb=>V.c (.ptr b 0))
def ux(P:Program)(o:cb)(key:Nat)(env:Env)(J:a8)(K:Env->a8->Prop):Prop:=
 gZ P o key env J K\/(fO env o.guard=some true/\∃f vs,acW P o env f vs/\NU P f vs J key env λr J'=>K (en env o.dst true r) J')
def qf(P:Program)(kk:Nat):List cb->Nat->Env->a8->(Env->a8->Prop)->Prop
 |[],_,env,J,K=>K env J
 |o::r,key,env,J,K=>∃fP a,Conv kk key env J key fP a/\ux P o key fP a λe s=>qf P kk r (key+16) e s K
theorem Jg{aC:Ctx}{φ:dE}{S:dQ}{a:Act}{w:World}(R:Rel aC nt φ S env J (lt key) a w){ops:Array Oper}{o:Oper}{z:cb}(G:u0 P nt ops o=some z)(h:ux P z key env J K){Q:Exit->Act->World->Prop}:
 if Region.wanted o (yielded ops a.tmps)then o.wp P a w (jZ aC nt (eD (lt key) key) K) Q else jZ aC nt (eD (lt key) key) K (a.put o.dst undef) w:=by
 rcases h with h|⟨al,f,vs,M,D⟩
 . exact CP R (λb h1 _=>G8 h1) G h
 . obtain⟨h1,e,A,B⟩:=R7 G;have X:=SX R e al;rw[X];simp only[bS];rcases M with⟨args,p,s,r,u⟩|⟨x,args,q,p,caps,L,s,T,W,r,u,l,rfl⟩
   . rw[s]at h1;obtain⟨c,m,y⟩:=RY (x2 h1 (by simp));obtain⟨n,l,k⟩:=RZ y;have H:=Db (P:=P) (w:=w) (a:=a) m n (f:=f) (caps:=[]) rfl l;simp only[lX]at H;obtain⟨g,j⟩:=qG R k r u;exact Calls.next A B rfl (λ_ _ h=>h) (D aC nt φ S a w R j _ g) H
   . rw[s]at h1;obtain⟨c,m,y⟩:=Sy (x2 h1 (by simp));obtain⟨t,rfl,n,k⟩:=Sz y;obtain⟨g,j⟩:=qG R k r u;have I:=cz (x:= .tmp t) R rfl T W;have Y:a.eval (.tmp t)= .func (.func f) #[] (caps.map λb=>Value.pointer (some ⟨(φ b).1,0,none⟩)).toArray:=I.1.dW;have N:a' (cm φ w S) (caps.map λb=>V.c (.ptr b 0)) (caps.map λb=>Value.pointer (some ⟨(φ b).1,0,none⟩)):=by
      refine a'.lp (by simp) ?_;intro i v x h1 e;simp only[oc,bb]at h1 e;obtain⟨b,E,rfl⟩:=h1;obtain⟨Z,F,rfl⟩:=e;rw[E]at F;cases F;exact .c rfl
     have O:V.aA.V.dF (lt key) (L++caps.map λb=>V.c (.ptr b 0))=true:=by
      refine tx ?_;intro i v d;by_cases U:i<L.length
      . rw[n' U]at d;exact nC j d
      . rw[p0 (by omega)]at d;simp only[oc,bb]at d;obtain⟨b,E,rfl⟩:=d;have aa:=I.2;simp only[V.aA,C.aA,cY]at aa⊢;grind
     exact Calls.next A B rfl (λ_ _ h=>h) (D aC nt φ S a w R O _ (g.append N)) (Db m n Y l)
theorem I9{aC:Ctx}(j:aC.k=kk){ops:Array Oper}{Q:Exit->Act->World->Prop}{K:Env->a8->Nat->Prop}:∀{l:List Oper} {aZ:List cb} {k N:Nat} {env:Env} {J:a8} {φ:dE} {S:dQ} {a:Act} {w:World},jv P nt ops l=some aZ->(∀i:Nat,i<l.length->l[i]?=ops[k+i]?)->
 Rel aC nt φ S env J (lt N) a w->qf P kk aZ N env J (λe s=>K e s (N+16*aZ.length))->(∀φ S e s N a w,K e s N->Rel aC nt φ S e s (lt N) a w->Q .normal a w)->wpOps P ops Q (List.range' k l.length) a w
 |[],aZ,k,N,env,J,φ,S,a,w,b,g,R,h,f=>by
  simp[jv]at b;subst b;simp only[h8,List.range'_zero,wpOps];exact f _ _ _ _ _ _ _ h R
 |o::l,aZ,k,N,env,J,φ,S,a,w,b,g,R,h,f=>by
  simp only[jv,bp,bb]at b;obtain⟨v,n,c,p,rfl⟩:=b;have r:ops[k]?=some o:=by have:=g 0 (by simp);simpa using this.symm
  rw[iw,Fs,wpOps_cons];unfold wpOp;rw[r];simp only;obtain⟨fP,u,q,x⟩:=h;obtain⟨z,Es,m⟩:=q aC nt φ S a w j R;have hs:=Jg m n (K:=λe s=>qf P kk c (N+16) e s λe s=>K e s (N+16*(c.length+1))) (by omega) (Q:=Q);have next:∀d w',jZ aC nt (eD (lt N) N) (λe s=>qf P kk c (N+16) e s λe s=>K e s (N+16*(c.length+1))) d w'->wpOps P ops Q (List.range' (k+1) l.length) d w':=by
   rintro d w' ⟨y,bQ,e,s,bH,R'⟩
   refine I9 j (k:=k+1) (N:=N+16) p (λi aB=>?_) (R'.more λ_ h=>H0 h) (K:=K) ?_ f
   . have:=g (i+1) (by simp;omega);grind
   grind
  split at hs
  . rename_i t;rw[ad t];exact .inl (Oper.wp_mono next hs)
  grind
theorem cu.agE{aZ:List cb}(h:qf P kk aZ N env J (λe s=>Q .normal e s (N+16*aZ.length))):cu P nt kk (.region aZ) env J N Q:=by
 intro code j aC φ S a w o R;obtain⟨id,ops,rfl,p⟩:=RN j;refine wp_region ?_;have:=I9 (P:=P) o (ops:=ops) (K:=λe s N=>Q .normal e s N) (Q:=λe c w'=>∃q bQ env' J' N',Q e env' J' N'/\Rel aC nt q bQ env' J' (lt N') c w') (k:=0) p (λi t=>by simp) R h
  (λφ S e s N a w bH f=>⟨φ,S,e,s,N,bH,f⟩)
 rw[List.range_eq_range'];omega
theorem ea.conv{f k:Nat}{args q:List V}{Q:V->a8->Nat->Prop}(u:a' gi args q)(hs:rX J J')(h:ea P f q J' k Q):ea P f args J k Q:=by
 intro φ S w B p z D A vs F;refine h φ S w B ⟨λb x o=>?_,λb t x y o G=>?_,p.st⟩ (λb x o=>?_) (λb x o=>?_) ?_ vs ?_
 . obtain⟨j,h1,e⟩:=hs b x o;exact e.FF (p.blk b j h1)
 . obtain⟨j,h1,e⟩:=hs b x o;obtain⟨K,H,L⟩:=hs t y G;exact p.inj b t j K h1 H
 . obtain⟨j,h1,e⟩:=hs b x o;exact⟨(z b j h1).1,e.aA _ (z b j h1).2⟩
 . obtain⟨j,h1,e⟩:=hs b x o;exact D b j h1
 . refine tx λi v E=>?_;obtain⟨v0,h1,e⟩:=(u.flip (R':=λb a=>gi a b) λ_ _ h=>h).get E;exact e.aA _ (nC A h1)
 . exact a'.comp (λa b c h1 e=>h1.FJ e) (u.flip (R':=λb a=>gi a b) λ_ _ h=>h) F
theorem ea.mono{f k:Nat}{args:List V}{Q mY:V->a8->Nat->Prop}(h:ea P f args J k Q)(j:∀r s n,Q r s n->mY r s n):ea P f args J k mY:=by
 intro φ S w B h1 a c e vs ba;refine(h φ S w B h1 a c e vs ba).mono ?_;grind
theorem ea.tidy{f k:Nat}{args:List V}{Q mY:V->a8->Nat->Prop}(h:ea P f args J k Q)
 (am:∀r J' N',Q r J' N'->∃bs D J2,bs.Nodup/\keeps k bs=true/\gi (r.bN bs) D/\rX (fp bs J' 0 bs) J2/\mY D J2 bs.length):ea P f args J k mY:=by
 intro φ S w B h1 M N U vs ba;refine(h φ S w B h1 M N U vs ba).mono ?_
 rintro e w' ⟨v,r,R,bQ,J',N',he,W,aB,a3,G,a4,aC,aI,fi⟩
 obtain⟨bs,D,J2,bT,Z,O,hs,X⟩:=am r J' N' W;have Y:∀i:Nat,i<k->bs[i]?=some i:=by
  intro i a2;unfold keeps at Z;grind
 let H:dE:=λi=>R ((bs[i]?).getD 0);have z:∀(i:Nat) b,bs[i]?=some b->H i=R b:=by intro i b h;simp[H,h]
 have A:∀b x,aW (fp bs J' 0 bs) b=some x->∃c a,bs[b]?=some c/\aW J' c=some a/\x=a.bN bs:=by
  intro b x p;obtain⟨j,c,a,rfl,M,N,rfl⟩:=pv p;grind
 have an:∀(a:bO),(a.bN bs).aA (lt bs.length)=true:=by
  intro a;cases a with
  |box cs=>simp only[bO.bN,bO.aA,mL,cY];intro c _;exact C.jU c
  |arr sz es=>rfl
  |set ks=>rfl
  |buf E s=>rfl
  |b8 E c=>exact C.jU c
  |cA sz es i o c=>exact C.jU c
 refine⟨v,D,H,bQ,J2,bs.length,he,X,O.FJ (cm.bN z aB),O.aA _ (V.jU r),⟨λb x p=>?_,λb F x y p t af h0 L=>?_,G.st⟩,λb x p=>?_,aC,λb x p h0=>?_,λb q=>?_⟩
 . obtain⟨y,t,q⟩:=hs b x p;obtain⟨c,a,aK,u,rfl⟩:=A b y t;exact q.FF (c1.bN z aK (G.blk c a u))
 . obtain⟨a0,ap,_⟩:=hs b x p;obtain⟨a1,ax,_⟩:=hs F y t;obtain⟨c,a,aK,u,_⟩:=A b a0 ap;obtain⟨K,aZ,f1,f2,_⟩:=A F a1 ax;rw[z b c aK]at h0⊢;rw[z F K f1]at L⊢;refine G.inj c K a aZ u f2 ?_ h0 L;intro e;subst e;have:=mD bT aK;rw[mD bT f1]at this;cases this;exact af rfl
 . obtain⟨y,t,q⟩:=hs b x p;obtain⟨c,a,aK,u,rfl⟩:=A b y t;exact⟨(c5.1 aK).1,q.aA _ (an a)⟩
 . obtain⟨y,t,q⟩:=hs b x p;obtain⟨c,a,aK,u,rfl⟩:=A b y t;rw[z b c aK]at h0⊢;exact aI c a u h0
 . rw[z b b (Y b q)];exact fi b q
end
def bl.b9(f:Nat->Nat):bl U->bl U
 |.ptr b o=>.ptr (f b) o
 |.cF b ty i o=>.cF (f b) ty i o
 |.arr b=>.arr (f b)
 |.sub b a len=>.sub (f b) a len
 |.pre b h=>.pre (f b) h
 |.dG b a len=>.dG (f b) a len
 |.mp b=>.mp (f b)
 |.eg b=>.eg (f b)
 |.cG b=>.cG (f b)
 |.fn g caps=>.fn g (caps.map f)
 |x=>x
def bz.b9(f:Nat->Nat):bz U->bz U
 |.c x=>.c (x.b9 f)
 |.agg cs=>.agg (cs.map (bl.b9 f))
 |.aY vs=>.aY (go f vs)
where go (f:Nat->Nat):List (bz U)->List (bz U)
 |[]=>[]
 |v::vs=>v.b9 f::go f vs
def cO.b9(f:Nat->Nat):cO U->cO U
 |.box cs=>.box (cs.map (bl.b9 f))
 |.arr ty l=>.arr ty l
 |.rows sz r=>.rows sz r
 |.set ks=>.set ks
 |.buf E s=>.buf E s
 |.b8 E c=>.b8 E (c.b9 f)
 |.cA t l i o c=>.cA t l i o (c.b9 f)
def AL(J:bf U):a7->bf U
 |[]=>J
 |b::r=>dl (AL J r) b
def mU(J:bf U)(bs:a7)(f:Nat->Nat):bf U->bf U
 |[]=>AL J bs
 |(b,x)::r=>cC (mU J bs f r) (f b) (x.b9 f)
def ow(J Jr:bf U):Nat->a7->Option Bool
 |_,[]=>some true
 |i,b::r=>match aX Jr i with
  |none=>ow J Jr (i+1) r
  |some d=>match aX J b with
   |none=>none
   |some x=>match d.dc with
    |none=>ow J Jr (i+1) r
    |some a=>match x.dc with
     |none=>none
     |some p=>match Nat.beq a.1 p.1,ow J Jr (i+1) r with
      |true,some c=>some (decide (a.2=p.2)&&c)
      |_,_=>none
section
variable {key N':Nat}{J Jr:bf U}{J1 OW:a8}{bs:a7}
theorem KY:∀{bs:a7} {b:Nat},aX (AL J bs) b=if b∈bs then none else aX J b
 |[],b=>by simp[AL]
 |c::r,b=>by
  simp only[AL,n5,KY (bs:=r)];grind
theorem s6{f:Nat->Nat}:∀{e:bf U} {c:Nat} {x:cO U},aX (mU J bs f e) c=some x->(∃b a,c=f b/\aX e b=some a/\x=a.b9 f)\/(c ∉ bs/\aX J c=some x)
 |[],c,x,h=>by
  simp only[mU,KY]at h;grind
 |(b,y)::r,c,x,h=>by
  simp only[mU,hN]at h;split at h
  . rename_i d;cases h;exact .inl ⟨b,y,d.symm,by simp[aX,yp],rfl⟩
  . rename_i d;rcases s6 h with⟨g,a,h1,i,j⟩|h
    . refine .inl ⟨g,a,h1,?_,j⟩;simp only[aX];cases k:Nat.beq b g with
      |true=>exact absurd (by rw[cT k];exact h1.symm) d
      |false=>exact i
    grind
theorem y6(bT:bs.Nodup)(aB:∀b,b∈bs->b<key){i j:Nat}(h:back bs key i=back bs key j):i=j:=by
 unfold back at h;cases d:bs[i]? with
 |some b=>
  rw[d]at h;have e:=aB b (eM d);cases a:bs[j]? with
  |some c=>
   rw[a]at h;simp at h;subst h;have:=mD bT d;rw[mD bT a]at this;grind
  |none=>rw[a]at h;simp at h;omega
 |none=>
  rw[d]at h;have f:=tP.1 d;cases a:bs[j]? with
  |some c=>
   rw[a]at h;have e:=aB c (eM a);grind
  |none=>grind
theorem SF(g:∀i j,f i=f j->i=j):∀{a:a8} {b:Nat} {x:bO},aW a b=some x->aW (hf J1 bs f a) (f b)=some (x.b9 f)
 |[],b,x,h=>by simp[aW]at h
 |(c,y)::r,b,x,h=>by
  simp only[hf,cV];simp only[aW]at h;by_cases d:c=b
  . grind
  . rw[ak d]at h;rw[ak (λe=>d (g _ _ e))];exact SF g h
theorem S9{c:Nat}(a:c ∉ bs)(d:∀b,f b≠c):∀{e:a8},aW (hf J1 bs f e) c=aW J1 c
 |[]=>by simp only[hf,pw,ak a]
 |(b,y)::r=>by
  simp only[hf,cV];rw[ak (d b)];exact S9 a d
theorem cO.xA{x:cO U}:(x.b9 f).dc=x.dc:=by cases x<;>rfl
theorem Jh:∀{l:a7} {d:Nat} {c:Bool},ow J Jr d l=some c->c=true->∀(j b:Nat) f,l[j]?=some b->aX Jr (d+j)=some f->∃x,aX J b=some x/\∀p,f.dc=some p->x.dc=some p
 |[],d,c,h,n,j,b,f,g,m=>by simp at g
 |a::l,d,c,h,n,j,b,f,g,m=>by
  simp only[ow]at h;have next:∀{k},ow J Jr (d+1) l=some k->k=true->∀i,j=i+1->∃x,aX J b=some x/\∀p,f.dc=some p->x.dc=some p:=by
   intro k h1 r i e;subst e;exact Jh h1 r i b f (by simpa using g) (by rw[show d+1+i=d+(i+1) by omega];exact m)
  cases j with
  |zero=>
   simp at g;subst g;simp only[l0]at m;rw[m]at h;simp only at h;split at h
   . cases h
   . rename_i x v;split at h
     . grind
     . rename_i y t;split at h
       . cases h
       . rename_i p u;split at h
         . rename_i k s w;cases h;simp only[cd,dn]at n;refine⟨x,v,λq o=>?_⟩;rw[t]at o;cases o;rw[u];have:=cT s;grind
         . cases h
  |succ j=>
   split at h
   . grind
   grind
variable (bT:bs.Nodup)(aB:∀b,b∈bs->b<key)(cq:N'<=bs.length+16)(aF:cx key J J1)
include bT aB cq aF in
theorem cj.b9{x:bl U}{d:C}(h:cj N' Jr x d):cj (key+16) (mU J bs (back bs key) Jr) (x.b9 (back bs key)) (d.b9 (back bs key)):=by
 cases h with
 |t c=>exact cj.t c
 |ptr b o=>exact cj.ptr _ o
 |cF b t i o=>exact cj.cF _ t i o
 |dM t x o=>exact cj.dM t x o
 |arr b sz n y h=>
  have j:back bs key b<key+16:=by
   unfold back;cases e:bs[b]? with
   |some c=>simp;have:=aB c (eM e);omega
   |none=>have:=tP.1 e;simp;omega
  refine cj.arr _ sz n j λx v p u=>?_;rcases s6 v with⟨w,A,h1,a,rfl⟩|⟨h1,a⟩
  . have:=y6 bT aB h1;subst this;rw[cO.xA]at u;grind
  . exfalso;have q:=(aF _ _ a).1;unfold back at h1 q;grind
 |sub b z len=>exact cj.sub _ z len
 |pre b sz n y h=>
  have j:back bs key b<key+16:=by
   unfold back;cases e:bs[b]? with
   |some c=>simp;have:=aB c (eM e);omega
   |none=>have:=tP.1 e;simp;omega
  refine cj.pre _ sz n j λx v p u=>?_;rcases s6 v with⟨w,A,h1,a,rfl⟩|⟨h1,a⟩
  . have:=y6 bT aB h1;subst this;rw[cO.xA]at u;grind
  . exfalso;have q:=(aF _ _ a).1;unfold back at h1 q;grind
 |dG b sz z len y h=>
  have j:back bs key b<key+16:=by
   unfold back;cases e:bs[b]? with
   |some c=>simp;have:=aB c (eM e);omega
   |none=>have:=tP.1 e;simp;omega
  refine cj.dG _ sz z len j λx v p u=>?_;rcases s6 v with⟨w,A,h1,a,rfl⟩|⟨h1,a⟩
  . have:=y6 bT aB h1;subst this;rw[cO.xA]at u;grind
  . exfalso;have q:=(aF _ _ a).1;unfold back at h1 q;grind
 |mp b=>exact cj.mp _
 |eg b=>exact cj.eg _
 |cG b n y h=>
  have j:back bs key b<key+16:=by
   unfold back;cases e:bs[b]? with
   |some c=>simp;have:=aB c (eM e);omega
   |none=>have:=tP.1 e;simp;omega
  refine cj.cG _ n j λx v p u=>?_;rcases s6 v with⟨w,A,h1,a,rfl⟩|⟨h1,a⟩
  . have:=y6 bT aB h1;subst this;rw[cO.xA]at u;grind
  . exfalso;have q:=(aF _ _ a).1;unfold back at h1 q;grind
 |ay=>exact .ay
 |e3=>exact .e3
 |e2=>exact .e2
 |fn f caps=>exact cj.fn f _
 |dead d=>exact .dead _
theorem I':∀{vs:List (bz U)} {i:Nat},(bz.b9.go f vs)[i]?=(vs[i]?).map (bz.b9 f)
 |[],i=>by simp[bz.b9.go]
 |v::vs,0=>by simp[bz.b9.go]
 |v::vs,i+1=>by simp[bz.b9.go,I']
theorem S':∀{vs:List (bz U)},(bz.b9.go f vs).length=vs.length
 |[]=>rfl
 |v::vs=>by simp[bz.b9.go,S']
include bT aB cq aF in
theorem ca.b9{x:bz U}{d:V}(h:ca N' Jr x d):ca (key+16) (mU J bs (back bs key) Jr) (x.b9 (back bs key)) (d.b9 (back bs key)):=by
 induction h with
 |c h=>exact .c (cj.b9 bT aB cq aF h)
 |agg h=>exact .agg (a'.map_map (h.imp λ_ _ _ aa=>cj.b9 bT aB cq aF aa))
 |aY xs ds af h ih=>
  refine .aY _ _ (by rw[S',G5];exact af) ?_;intro i x d e a;rw[I',bb]at e;rw[Hi,bb]at a;grind
include bT aB aF in
theorem DD(f:ow J Jr 0 bs=some true):dk key J (key+16) (mU J bs (back bs key) Jr):=by
 refine⟨by omega,λc x m g=>?_⟩;rcases s6 g with⟨b,k,h1,d,rfl⟩|⟨h1,d⟩
 . unfold back at h1;cases a:bs[b]? with
   |some l=>
    rw[a]at h1;simp at h1;subst h1;obtain⟨x,i,j⟩:=Jh f rfl b c k a (by rw[ga];exact d);exact⟨x,i,λp e=>j p (by rw[cO.xA]at e;exact e)⟩
   |none=>rw[a]at h1;simp at h1;omega
 grind
include bT aB cq aF in
theorem cx.EV(v:ow J Jr 0 bs=some true)(w:cx N' Jr OW):cx (key+16) (mU J bs (back bs key) Jr) (hf J1 bs (back bs key) OW):=by
 intro c x z;have u:∀b,b<N'->back bs key b<key+16:=by
  intro b B;unfold back;cases p:bs[b]? with
  |some c=>simp;have:=aB c (eM p);omega
  |none=>have:=tP.1 p;simp;omega
 rcases s6 z with⟨b,A,rfl,a,rfl⟩|⟨h1,a⟩
 . obtain⟨f,y,e,ba⟩:=w b A a;refine⟨u b f,y.b9 (back bs key),SF (λi j=>y6 bT aB) e,?_⟩;cases ba with
   |box ba=>exact .box (a'.map_map (ba.imp λ_ _ _ aa=>cj.b9 bT aB cq aF aa))
   |arr t l=>exact .arr t l
   |set ks=>exact .set ks
   |buf E s=>exact .buf E s
   |b8 ba=>exact .b8 (cj.b9 bT aB cq aF ba)
   |cA t l i o ba=>exact .cA t l i o (cj.b9 bT aB cq aF ba)
   |rows ba q=>exact .rows ba q
 . obtain⟨f,y,e,ba⟩:=aF c x a;refine⟨by omega,y,?_,?_⟩
   . rw[S9 h1 λb=>?_]
     . exact e
     . unfold back;grind
   . exact ba.mono (DD bT aB aF v)
end
end
section
open Go
variable {xb:a7}
def DV(n:Nat):List (Nat×Nat)->Bool
 |(i,_)::_=>Nat.beq i n
 |[]=>false
theorem ZK{l:List (cb×a7)}{p:Nat×Nat}(h:p∈k' l):p.1<l.length:=by
 simp only[k',Ez,Fu]at h;grind
theorem YE{l:List (cb×a7)}(h:DV l.length (r7 l)=true):DU l=true/\tc l.dropLast=true/\∀p,p∈k' l.dropLast->p∈r7 l:=by
 unfold r7 at h⊢;split at h
 . grind
 . exfalso;cases af:k' l with
   |nil=>rw[af]at h;cases h
   |cons p r=>
    rw[af]at h;have a:p∈k' l:=by rw[af];simp
    have:=ZK a;obtain⟨i,j⟩:=p;have b:Nat.beq i l.length=true:=h;simp_all
variable{D:Nat->a7}{listed:Array Bool}{fY:List (Nat×Nat)}{Q:Exit->Env->a8->Nat->Prop}
theorem YP{l:List (cb×a7)}{m:Nat}(g:l.length=m+1)(h:DU l=true)(e:∀(i:Nat) x,l[i]?=some x->D i=x.2){p:Nat->Bool}(f:∀i,i<m->p i=true->∀d,d∈D i->p d=true)(af:∀d,d∈D m->p d=true):
 ∀i,i<m->p i=true:=by
 have key:∀k i,i<m->m-i<=k->p i=true:=by
  intro k;induction k with
  |zero=>intro i h1 a;omega
  |succ k ih=>
   intro i h1 a;simp only[DU,cY,wi]at h;have c:=h i (by omega);grind
 exactλi b=>key m i b (by omega)
section
variable {P:Program}{aC:Ctx}{nt kk:Nat}{N:Nat}{ops:Array Oper}{init:List cb}{last:cb}{E:Nat->Env}{T:Nat->a8}{G:Nat->Bool}{W:Nat->V}
theorem Df{i m:Nat}(hs:listed.size=m+1)(a:i<m):listed.pop.getD i false=listed.getD i false:=by
 simp only[BA,Array.getElem?_pop];grind
theorem acH{i m:Nat}(hs:listed.size=m+1)(a:i<m):(listed.setIfInBounds i true).pop=listed.pop.setIfInBounds i true:=by grind
theorem ZL{Q:Exit->Act->World->Prop}{c:Nat}{a:Act}{w:World}(hs:listed.size=ops.size)(f:∀i,i<ops.size->listed.getD i false=true)(d:Q .normal a w):wpAny P .any ops Q c listed a w:=by
 have e:Region.ready .any ops listed=[]:=by
  rw[Q3];intro i b;rw[mem_ready]at b;grind
 cases c with
 |zero=>exact⟨e,d⟩
 |succ c=>exact⟨λ_=>d,λi b=>by rw[e]at b;cases b⟩
theorem YQ(st:Stat xb init D E N)(B:oy xb P init N E T G W)(hres:jv P nt ops ops.toList=some (init++[last]))(F:∀(i:Nat) o,ops[i]?=some o->D i=hd o)
 (aw:∀(p:Nat->Bool),(∀i,i<init.length->p i=true->∀d,d∈D i->p d=true)->(∀d,d∈D init.length->p d=true)->∀i,i<init.length->p i=true)
 (aq:∀d,d∈D init.length->d<init.length)
 {Q:Exit->Act->World->Prop}{K:Env->a8->Prop}(av:aC.k=kk)
 (bH:∃fP C,Conv kk (N+16*init.length) (E init.length) (T init.length) (N+16*init.length) fP C/\ux P last (N+16*init.length) fP C K)
 (aj:∀e s φ S a w,K e s->Rel aC nt φ S e s (eD (lt (N+16*init.length)) (N+16*init.length)) a w->Q .normal a w):
 ∀(g:Nat) (listed:Array Bool) φ S env J a w,listed.size=init.length+1->listed.getD init.length false=false->listed.toList.countP (· ==false)<=g->Inv xb aC nt init D N E T G W listed.pop φ S env J a w->wpAny P .any ops Q g listed a w:=by
 have aa:=xV hres;simp at aa;have ax:∀(listed:Array Bool) (φ:dE) (S:dQ) (env:Env) (J:a8) (a:Act) (w:World),listed.size=init.length+1->listed.getD init.length false=false->Inv xb aC nt init D N E T G W listed.pop φ S env J a w->Region.ready .any ops listed≠[]:=by
  intro listed φ S env J a w hs u cy ab;have H:∀i,i<init.length->listed.getD i false=true:=by
   intro i;induction i using Nat.strongRecOn with
   |_ i ih=>
    intro q;cases af:listed.getD i false with
    |true=>rfl
    |false=>
     exfalso;have A:i<ops.size:=(by omega);have c:ops[i]?=some ops[i]:=BC A;have:i∈Region.ready .any ops listed:=by
      rw[mem_ready];refine⟨?_,ops[i],c,λe he an=>?_⟩
      . grind
      . have l:e.on∈D i:=by
         rw[F i _ c];simp only[hd,eO,rA];grind
        exact ih e.on (st.back i _ q l) (by have:=st.back i _ q l;omega)
     grind
  have A:init.length<ops.size:=by omega
  have c:ops[init.length]?=some ops[init.length]:=BC A;have:init.length∈Region.ready .any ops listed:=by
   rw[mem_ready];refine⟨?_,ops[init.length],c,λe he an=>?_⟩
   . grind
   . have l:e.on∈D init.length:=by
      rw[F _ _ c];simp only[hd,eO,rA];grind
     grind
  grind
 intro g;induction g with
 |zero=>
  intro listed φ S env J a w hs u I cy;exfalso;have t:init.length<listed.size:=by omega
  have h0:listed.toList.countP (· ==false)=0:=by omega
  rw[List.countP_eq_zero]at h0;simp[t]at u;exact h0 listed[init.length] (by simp) (by simp[u])
 |succ g ih=>
  intro listed φ S env J a w hs u I cy;refine⟨λab=>absurd ab (ax listed φ S env J a w hs u cy),λi q=>?_⟩;rw[mem_ready]at q;obtain⟨h1,o,c,az⟩:=q;have A:i<ops.size:=(yt.1 c).1;have t:i<listed.size:=by omega
  have aD:listed.getD i false=false:=by simp[t]at h1⊢;exact h1
  obtain⟨v,V,ae⟩:=GN hres (i:=i) (o:=o) (by simpa using c);have l:∀d,d∈D i->listed.getD d false=true:=by
   intro d l;rw[F i o c]at l;simp only[hd,eO,rA]at l;grind
  have au:listed.toList.countP (· ==false)<=g+1->(listed.setIfInBounds i true).toList.countP (· ==false)<=g:=by
   intro I;have:listed.toList[i]?=some false:=by simp[t]at aD⊢;exact aD
   grind
  rcases Nat.lt_or_ge i init.length with y|y
  ·
   have x:init[i]?=some v:=by rw[n' y]at V;exact V
   have X:∀d,d∈D i->listed.pop.getD d false=true:=λd n=>by rw[Df hs (by have:=st.back i d y n;omega)];exact l d n
   have L:listed.pop.getD i false=false:=by rw[Df hs y];exact aD
   obtain⟨al,am⟩:=cy.agree st B x L X;obtain⟨⟨bo,ay,ah⟩,_⟩:=(B.step i v x).1.local (env':=env) (J':=J) al am;have z:=CP cy.rel (key:=N+16*i) (λb ao ap=>IZ L ao ap) ae (K:=λe s=>e=en env v.dst (G i) (W i)/\s=bo) (ay.gZ ⟨rfl,rfl⟩) (Q:=Q);have next:∀f w',jZ aC nt (eD (used N init.length listed.pop) (N+16*i)) (λe s=>e=en env v.dst (G i) (W i)/\s=bo) f w'->wpAny P .any ops Q g (listed.setIfInBounds i true) f w':=by
    rintro f w' ⟨U,bQ,e,s,⟨rfl,rfl⟩,R'⟩
    have M:=acH (listed:=listed) (i:=i) (m:=init.length) hs y;refine ih (listed.setIfInBounds i true) U bQ _ _ f w' (by simpa using hs) ?_ (au I) (by rw[M];exact cy.step st B x L X ah R');rw[k8 t,bq];exact u
   unfold wpOp;rw[c];dsimp only;split at z
   . rename_i r;rw[ad r];exact .inl (Oper.wp_mono next z)
   . rename_i r;rw[ak r];exact next _ _ z
  ·
   have q:i=init.length:=(by omega);subst q;have x:v=last:=(by grind);subst x;have H:∀j,j<init.length->listed.pop.getD j false=true:=by
    refine aw (λj=>listed.pop.getD j false) (λj Y M d n=>cy.down j Y M d n) (λd n=>?_);rw[Df hs (aq d n)];exact l d n
   have R:=cy.done st B H;obtain⟨fP,C,ar,z⟩:=bH;obtain⟨aB,Es,ag⟩:=ar aC nt φ S a w av R;have O:=Jg ag ae z (Q:=Q);have next:∀f w',jZ aC nt (eD (lt (N+16*init.length)) (N+16*init.length)) K f w'->wpAny P .any ops Q g (listed.setIfInBounds init.length true) f w':=by
    rintro f w' ⟨U,bQ,e,s,ai,R'⟩
    refine ZL (by simp[hs,aa]) (λj Y=>?_) (aj e s U bQ f w' ai R');rw[k8 t];split
    . rfl
    . rename_i aA;have Z:j<init.length:=(by omega);rw[<-Df hs Z];exact H j Z
   unfold wpOp;rw[c];dsimp only;split at O
   . rename_i r;rw[ad r];exact .inl (Oper.wp_mono next O)
   . rename_i r;rw[ak r];exact next _ _ O
theorem cu.agF{env:Env}{J:a8}(a3:DV (init.length+1) fY=true)
 (h:w3 xb P init N env J (λe s=>kK xb init e N fY=true/\qf P kk [last] (N+16*init.length) e s (λe s=>Q .normal e s (N+16*init.length+16)))):cu P nt kk (.om (init++[last]) fY) env J N Q:=by
 intro code aB aC φ S a w a0 R;obtain⟨id,ops,rfl,hres,X,a4,rfl⟩:=R8 aB;have F:=xV hres;simp at F;have M:(fh ops (init++[last])).length=init.length+1:=by simp[fh,F]
 obtain⟨a2,O,bi⟩:=YE (l:=fh ops (init++[last])) (by rw[M];exact a3);obtain⟨E,T,G,W,Z,cX,t0,aI,ap⟩:=G9 h;have Y:(fh ops (init++[last])).dropLast=fh ops.pop init:=by
  obtain⟨K,x,c⟩:∃K x,ops.toList=K++[x]:=by
   cases af:ops.toList.reverse with
   |nil=>exfalso;have h1:=ep List.length af;rw[List.length_reverse,rv,h8]at h1;omega
   |cons x r=>exact⟨r.reverse,x,by have:=ep List.reverse af;simpa using this⟩
  have a1:K.length=init.length:=by have h1:=ep List.length c;rw[rv,c2,List.length_singleton]at h1;omega
  unfold fh;rw[Array.toList_pop,c,p4,List.zip_append (by simp[a1])];simp
 rw[Y]at O;have aZ:kK xb init (E init.length) N (k' (fh ops.pop init))=true:=HE (λp a9=>bi p (by rw[Y];exact a9)) aI;have v:=MW (ops:=ops.pop) (by simp;omega) O Z aZ;let D:Nat->a7:=λi=>((ops[i]?).map hd).getD [];have z:∀i,i<init.length->((ops.pop[i]?).map hd).getD []=D i:=by grind
 have st:Stat xb init D E N:=by
  refine⟨λi d f A=>v.back i d f (by rw[z i f];exact A),λi j x y d c an bs=>?_,λi j b a5 f B bo u=>?_⟩
  . have f:=(c5.1 c).1;have B:=(c5.1 an).1;have:=v.wB i j x y d c an bs;grind
  . rcases v.ord i j b a5 f B bo u with⟨h1,q⟩|⟨h1,q⟩
    . exact .inl ⟨h1,q.congr v.back z B⟩
    . exact .inr ⟨h1,q.congr v.back z f⟩
 have am:∀(i:Nat) x,(fh ops (init++[last]))[i]?=some x->D i=x.2:=by
  intro i x c;unfold fh at c;grind
 refine wp_region_any a4 ?_;have be:∃fP L,Conv kk (N+16*init.length) (E init.length) (T init.length) (N+16*init.length) fP L/\ux P last (N+16*init.length) fP L (λe s=>Q .normal e s (N+16*init.length+16)):=ap;have ax:∀d,d∈D init.length->d<init.length:=by
  intro d A;simp only[tc,cd]at X;have c:(fh ops (init++[last]))[init.length]?=some (fh ops (init++[last]))[init.length]:=eH (by omega);have:=Gr X.1.1 c d (by rw[<-am _ _ c];exact A);omega
 refine YQ (aC:=aC) (nt:=nt) (D:=D) st Z hres (λi o U=>by simp[D,U]) (λp h1 q=>YP M a2 am h1 q) ax a0 be (λe s φ S a w ba R'=>⟨φ,S,e,s,_,ba,R'.more λb u=>H0 u⟩) ops.size _ φ S env J a _ ?_ ?_ ?_ ?_
 . simp[F]
 . rw[BA,Array.getElem?_replicate];split<;>rfl
 . have:=List.countP_le_length (p:=λx:Bool=>x==false) (l:=(Array.replicate ops.size false).toList);simpa using this
 . have R':Rel aC nt φ S env J (lt N) a {w with drawn:=w.drawn+1}:=R.drew;have H:∀i,(Array.replicate ops.size false).pop.getD i false=true->False:=by
    intro i af;simp only[BA,Array.getElem?_pop]at af;grind
   refine⟨R'.more λb u=>by simp[used,u],by simp;omega,λi f af=>(H i af).elim,λt _=>by rw[cX],λt i o U af=>(H i af).elim,λb _=>by rw[t0],λb i f af=>(H i af).elim⟩
end
end
end Go.Proofs.YtdjagncoefjfeaaGreat.Shv
