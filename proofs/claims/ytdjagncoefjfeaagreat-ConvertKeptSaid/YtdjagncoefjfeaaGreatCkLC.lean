/- The library, part C: an abstract machine for the code of the program, and its soundness. -/
import Derived.Test.YtdjagncoefjfeaaGreatCkLB

namespace Go.Proofs.YtdjagncoefjfeaaGreat.Shv
set_option linter.all false
section
open Go
variable {xb:a7}
def kQ(xb:a7)(bb:List ca)(env:Env)(N:Nat):List (Nat×Nat)->Bool
 |[]=>true
 |(i,j)::r=>(match bb[i]?,bb[j]? with
  |some x,some y=>(eo xb y.op env (N+16*j)).all λb=>!(cF xb x.op env (N+16*i) b)
  |_,_=>true)&&kQ xb bb env N r
variable{env:Env}{bb:List ca}{N:Nat}
theorem Nj:∀{gf:List (Nat×Nat)} {i j:Nat} {x y:ca},kQ xb bb env N gf=true->(i,j)∈gf->bb[i]?=some x->bb[j]?=some y->∀b,b∈eo xb y.op env (N+16*j)->cF xb x.op env (N+16*i) b=false
 |[],i,j,x,y,h,a,_,_,_,_=>by simp at a
 |(g,k)::r,i,j,x,y,h,a,d,f,b,c=>by
  simp only[kQ,c7]at h;rcases eR.1 a with e|a
  . grind
  . exact Nj h.2 a d f b c
section
variable {P:Program}{aE:Ctx}{nt kk:Nat}{N:Nat}{ops:Array Oper}{bb:List ca}{E:Nat->Env}{T:Nat->ba}{G:Nat->Bool}{W:Nat->V}
theorem aai{i:Nat}{o:Oper}{x:ca}(a:ops[i]?=some o)(b:bb[i]?=some x):(fx ops bb)[i]?=some (x,hq o):=by
 unfold fx;grind
theorem QB(ah:bb.length=ops.size)(K:t' (fx ops bb)=true)(Y:o2 xb P bb N E T G W)(V:kQ xb bb (E bb.length) N (lE (fx ops bb))=true):
 Stat xb bb (λi=>((ops[i]?).map hq).getD []) E N:=by
 simp only[t',c7]at K;obtain⟨⟨U,L⟩,_⟩:=K;have g:∀i,i<bb.length->∃o x,ops[i]?=some o/\bb[i]?=some x/\(fx ops bb)[i]?=some (x,hq o):=by
  intro i m;have v:ops[i]?=some ops[i]:=CV (by omega);have a:bb[i]?=some bb[i]:=fb m;exact⟨_,_,v,a,aai v a⟩
 have ad:∀i j,ahead (fx ops bb) j i=true->j<i/\j∈((ops[i]?).map hq).getD []:=by
  intro i j h;obtain⟨h1,y,q,ab⟩:=acO h;refine⟨h1,?_⟩;have m:i<bb.length:=by
   have:=(dQ.1 q).1;unfold fx at this;simp at this;omega
  grind
 have M:∀(i j:Nat) (x y:ca) (d:Nat),bb[i]?=some x->bb[j]?=some y->y.dst=some d->(d∈x.rd->(j<i/\j∈((ops[i]?).map hq).getD [])\/(x.op.neutral=true/\x.op.ib=false/\i<j/\i∈((ops[j]?).map hq).getD []))/\(i=j\/x.dst≠some d):=by
  intro i j x y d a c ak;obtain⟨z,aa,I,p,r⟩:=g i (dQ.1 a).1;obtain⟨A,R,J,f,s⟩:=g j (dQ.1 c).1;rw[a]at p;cases p;rw[c]at f;cases f;simp only[U8,gh]at L;have h1:=L ((x,hq z),i) (fl (i:=i) (by simp[CE,r]));have q:=h1 ((y,hq A),j) (fl (i:=j) (by simp[CE,s]));grind
 refine⟨λi d m F=>?_,M,?_⟩
 . obtain⟨o,x,v,a,S⟩:=g i m;rw[v]at F;have:=IN U S d F;omega
 ·
  have H:∀(i:Nat) (x:ca),bb[i]?=some x->¬(x.op.neutral=true/\x.op.ib=false)->∀t,t∈x.op.reads->look (E bb.length) t=look (E i) t:=by
   intro i x a ai t ht;have m:=(dQ.1 a).1;refine xp Y (by omega) (eI _) λj y ae af c Z=>?_;rcases (M i j x y t a c Z).1 (Oy ht)with h|h
   . omega
   grind
  have aj:∀i j,ov (nV (fx ops bb) []) j i=true->j<i/\jl (λi=>((ops[i]?).map hq).getD []) j i:=by
   intro i j h;simp only[ov,c7,e4,List.contains_iff_mem]at h;refine⟨h.1,LU (l:=fx ops bb) (acc:=[]) (λk x a=>?_) (λi j B=>by simp at B) i j h.2⟩;have ag:k<bb.length:=by
    have:=(dQ.1 a).1;unfold fx at this;simp at this;omega
   grind
  have C:∀(i j:Nat) (x y:ca) (b:Nat),i≠j->bb[i]?=some x->bb[j]?=some y->cF xb x.op (E i) (N+16*i) b=true->b∈eo xb y.op (E j) (N+16*j)->ov (nV (fx ops bb) []) i j=true\/ov (nV (fx ops bb) []) j i=true:=by
   intro i j x y b u a c n e;by_cases h1:ov (nV (fx ops bb) []) i j=true
   . grind
   . by_cases q:ov (nV (fx ops bb) []) j i=true
     . grind
     . exfalso;obtain⟨z,aa,I,p,r⟩:=g i (dQ.1 a).1;obtain⟨A,R,J,f,s⟩:=g j (dQ.1 c).1;rw[a]at p;cases p;rw[c]at f;cases f;have ht:y.op.ib=true:=by
        cases h:y.op.ib with
        |true=>rfl
        |false=>rw[aaZ h]at e;simp at e
       have X:(i,j)∈lE (fx ops bb):=by
        simp only[lE,FP,List.mem_flatMap];refine⟨((x,hq z),i),fl (i:=i) (by simp[CE,r]),?_⟩;dsimp only;rw[NC n];simp only[bW,b6,List.mem_filterMap];refine⟨((y,hq A),j),fl (i:=j) (by simp[CE,s]),?_⟩;grind
       have:=Nj V X a c b (by rw[acN (H j y c (λh=>by rw[ht]at h;cases h.2))];exact e);rw[acM (H i x a (λh=>by rw[NC n]at h;cases h.1))]at this;grind
  intro i j b u m B n e;obtain⟨z,x,I,a,r⟩:=g i m;obtain⟨A,y,J,c,s⟩:=g j B;have w:cF xb x.op (E i) (N+16*i) b=true:=by unfold iL at n;rw[a]at n;exact n
  have conv:(ov (nV (fx ops bb) []) i j=true\/ov (nV (fx ops bb) []) j i=true)->(i<j/\jl (λi=>((ops[i]?).map hq).getD []) i j)\/(j<i/\jl (λi=>((ops[i]?).map hq).getD []) j i):=by grind
  rcases e with⟨R,f,e⟩|e
  . rw[c]at f;cases f;exact conv (C i j x y b u a c w e)
  . have D:cF xb y.op (E j) (N+16*j) b=true:=by unfold iL at e;rw[c]at e;exact e
    cases Q:y.op.ib with
    |true=>exact conv (C i j x y b u a c w (Nh Q D))
    |false=>
     cases O:x.op.ib with
     |true=>exact conv (C j i y x b (dZ u) c a D (Nh O w)).symm
     |false=>
      have h1:=QA O w;have q:=QA Q D;exfalso;omega
theorem Iz:∀{l m:List (Nat×Nat)},(∀p,p∈l->p∈m)->kQ xb bb env N m=true->kQ xb bb env N l=true
 |[],_,_,_=>rfl
 |(i,j)::r,m,hs,h=>by
  simp only[kQ,c7];refine⟨?_,Iz (λp c=>hs p (GB _ c)) h⟩
  have:∀ (m:List (Nat×Nat)),(i,j)∈m->kQ xb bb env N m = true->(match bb[i]?,bb[j]? with
   |some x,some y=>(eo xb y.op env (N+16*j)).all λb=>!(cF xb x.op env (N+16*i) b)
   |_,_=>true)=true:=by
   intro m;induction m with
   |nil=>intro h _;simp at h
   |cons q m ih=>
    intro d a;obtain⟨e,f⟩:=q;simp only[kQ,c7]at a;grind
  grind
theorem acP{l:List (ca×a7)}{p:Nat×Nat}(h:p∈lE l):p∈sP l:=by
 unfold sP;grind
theorem ct.oW{gf:List (Nat×Nat)}{env:Env}{J:ba}{Q:Exit->Env->ba->Nat->Prop}(h:x8 xb P bb N env J (λe s=>kQ xb bb e N gf=true/\Q .normal e s (N+16*bb.length))):ct P nt kk (.oW bb gf) env J N Q:=by
 intro code y aE φ S a w K R;obtain⟨id,ops,rfl,hres,F,D,rfl⟩:=K0 y;have c:=zb hres;simp at c;obtain⟨E,T,G,W,j,cQ,t0,A,q⟩:=Jq h;refine wp_region_any D ?_;refine aah (aE:=aE) (nt:=nt) (QB c F j (Iz (λp H=>acP H) A)) j hres (λi o f=>by simp[f]) (λφ S a w R'=>⟨φ,S,_,_,_,q,R'⟩) ops.size _ φ S env J a _ ?_ ?_
 . have:=List.countP_le_length (p:=λx:Bool=>x==false) (l:=(Array.replicate ops.size false).toList);grind
 . have R':Rel aE nt φ S env J (lt N) a {w with drawn:=w.drawn+1}:=R.drew;refine⟨R'.more λb v=>by simp[used,v],by simp[c],λi B ah=>?_,λt _=>by rw[cQ],λt i o f ah=>?_,λb _=>by rw[t0],λb i B ah=>?_⟩
   . simp_all
   . exfalso;simp[Array.getElem?_replicate]at ah;split at ah<;>simp at ah
   simp_all
end
end
section
open Go
def Fp(P:Program)(c:Code)(Q:Exit->Act->World->Prop)(a:Act)(w:World):Prop:=
 ∀(b:Frame) (k:List Item) (cs:List Frame),∃e d w',Q e d w'/\Arrives P (lone (b.at a (.code c:: .inLoop c::k)) cs w) b k cs e d w'
variable{w:World}{Q:Exit->Act->World->Prop}{P:Program}{a:Act}{c:dw}{S:dS}{φ:dz}{aE:Ctx}{D:Nat->Type}
theorem acQ{c:Code}(h:c.wp P (Exit.then (Fp P c Q) Q) a w):Fp P c Q a w:=by
 intro b k cs;obtain⟨e,g,i,f,d⟩:=h b _ cs;cases e with
 |normal=>
  obtain⟨m,j,p,o,n⟩:=f b k cs;exact⟨m,j,p,o,.of_steps (Steps.trans d (.one step_inLoop)) n⟩
 |exit id=>exact⟨_,g,i,f,.pass rfl (λ_ _=>.inl (by simp)) d⟩
 |goto l=>exact⟨_,g,i,f,.pass (x:= .inLoop c) rfl (λ_ _=>.inl (by simp)) d⟩
 |ret=>exact⟨_,g,i,f,.pass (x:= .inLoop c) rfl (λ_ _=>.inl (by simp)) d⟩
 |panic q=>exact⟨_,g,i,f,.pass (x:= .inLoop c) rfl (λ_ _=>.inl (by simp)) d⟩
 |outgrown=>exact⟨_,g,i,f,.pass (x:= .inLoop c) rfl (λ_ _=>.inl (by simp)) d⟩
theorem aav{c:Code}(h:Fp P c Q a w):(Code.loop c).wp P Q a w:=by
 intro b k cs;obtain⟨e,d,w',g,f⟩:=h b k cs;exact⟨e,d,w',g,.of_steps (.one step_loop) f⟩
section
variable {P:Program}{nt kk:Nat}{env env':Env}{J J':ba}{N N':Nat}{Q nR:Exit->Env->ba->Nat->Prop}
def mK(P:Program)(nt kk:Nat)(c:dw)(env:Env)(J:ba)(N:Nat)(Q:Exit->Env->ba->Nat->Prop):Prop:=
 ∀code,resolve P nt code=some c->∀aE φ S a w,aE.k=kk->Rel aE nt φ S env J (lt N) a w->Fp P code (λe b w'=>∃d bT env' J' N',Q e env' J' N'/\Rel aE nt d bT env' J' (lt N') b w') a w
theorem mK.round(h:ct P nt kk c env J N (andThen (λenv J N=>mK P nt kk c env J N Q) Q)):mK P nt kk c env J N Q:=by
 intro code f aE φ S a w j R;refine acQ (wp_mono (h _ f aE φ S a w j R) ?_)
 rintro e p w' ⟨q,bT,env',J',N',o,R'⟩
 cases e with
 |normal=>exact o _ f aE _ bT p w' j R'
 |_=>exact⟨q,bT,env',J',N',o,R'⟩
theorem ct.aiI(h:mK P nt kk c env J N Q):ct P nt kk (.loop c) env J N Q:=by
 intro code f aE φ S a w j R;obtain⟨b,rfl,e⟩:=aae f;exact aav (h b e aE φ S a w j R)
def Conv(kk N:Nat)(env:Env)(J:ba)(N':Nat)(env':Env)(J':ba):Prop:=
 ∀aE nt φ S a w,aE.k=kk->Rel aE nt φ S env J (lt N) a w->∃b bT,Rel aE nt b bT env' J' (lt N') a w
theorem Conv.refl:Conv kk N env J N env J:=λ_ _ φ S _ _ _ R=>⟨φ,S,R⟩
theorem Conv.trans{c e f:Nat}{aM j c2:Env}{s1 p q:ba}(h:Conv kk c aM s1 e j p)(k:Conv kk e j p f c2 q):Conv kk c aM s1 f c2 q:=
 λaE nt φ S a w o R=>let⟨t,bT,R'⟩:=h aE nt φ S a w o R;k aE nt _ bT a w o R'
theorem ct.conv(f:Conv kk N env J N' env' J')(h:ct P nt kk c env' J' N' Q):ct P nt kk c env J N Q:=
 λcode j aE φ S a w e R=>let⟨o,bT,R'⟩:=f aE nt φ S a w e R;h _ j aE _ bT a w e R'
theorem mK.conv(f:Conv kk N env J N' env' J')(h:mK P nt kk c env' J' N' Q):mK P nt kk c env J N Q:=
 λcode j aE φ S a w e R=>let⟨o,bT,R'⟩:=f aE nt φ S a w e R;h _ j aE _ bT a w e R'
theorem Conv.tidy(ks bs:a7)(b7:bs.Nodup)(e:keeps kk bs=true):Conv kk N env J bs.length (oq bs env ks) (fF bs J 0 bs):=
 λaE nt φ S a w f R=>let⟨c,R'⟩:=R.tidy ks bs b7 (by grind);⟨c,S,R'⟩
theorem Conv.freeze(b0:Nat){c:Nat}{es:List (List T)}(e:aY J b0=some (.arr c es)):Conv kk N env J N (rQ b0 c es env) (nv b0 c es J):=
 λaE nt φ S a w f R=>⟨φ,_,R.freeze e⟩
def dA(c a:C):Prop:=(∀φ w S v,bq φ w S c v->bq φ w S a v)/\∀n,c.aF n=true->a.aF n=true
theorem dA.refl(c:C):dA c c:=⟨λ_ _ _ _ h=>h,λ_ h=>h⟩
theorem dA.dead(c:C):dA c .dead:=⟨λ_ _ _ _ h=>h.je,λ_ _=>rfl⟩
theorem dA.aA:dA .aA (.t (.slice [])):=by
 refine⟨?_,λ_ _=>rfl⟩
 rintro φ w S v ⟨a,rfl⟩
 exact ch.slice [] a 0 0 0 0 (λ_ _=>undef) (by simp) (by simp) (by simp) (by simp) (by simp) (by simp)
inductive gJ:V->V->Prop
 |c {x y}:dA x y->gJ (.c x) (.c y)
 |agg {xs qN}:a' dA xs qN->gJ (.agg xs) (.agg qN)
 |a6 (xs qN:List V) (ah:xs.length=qN.length) (h:∀(i:Nat) x y,xs[i]?=some x->qN[i]?=some y->gJ x y):gJ (.a6 xs) (.a6 qN)
theorem a'.comp{α e f:Type}{R:α->e->Prop}{R':e->f->Prop}{j:α->f->Prop}(h:∀a b c,R a b->R' b c->j a c):∀{l:List α} {m:List e} {k:List f},a' R l m->a' R' m k->a' j l k
 |[],[],[],_,_=>.nil
 |_::_,_::_,_::_,.cons h1 o,.cons k1 k2=>.cons (h _ _ _ h1 k1) (a'.comp h o k2)
theorem a'.flip{α c:Type}{R:α->c->Prop}{R':c->α->Prop}{l:List α}{m:List c}(h:a' R l m)(k:∀a b,R a b->R' b a):a' R' m l:=by
 induction h with
 |nil=>exact .nil
 |cons h _ ih=>exact .cons (k _ _ h) ih
theorem SH{n:Nat->Bool}:∀{vs:List V},(∀(i:Nat) v,vs[i]?=some v->v.aF n=true)->V.aF.V.dC n vs=true
 |[],_=>rfl
 |v::vs,h=>by simp[V.aF.V.dC];exact⟨h 0 v rfl,SH λi x a=>h (i+1) x (by grind)⟩
theorem gJ.G3{v j:V}(h:gJ v j):∀{x},ck φ w S v x->ck φ w S j x:=by
 induction h with
 |c h=>intro x e;cases e with|c e=>exact .c (h.1 _ _ _ _ e)
 |agg h=>
  intro x e;cases e with
  |agg e=>exact .agg (a'.comp (λa b c h1 f=>h1.1 _ _ _ _ f) (h.flip λ_ _ h=>h) e)
 |a6 xs q ah h ih=>
  intro x e;cases e with
  |a6 _ o p f=>
   refine .a6 _ o (by omega) ?_;grind
theorem gJ.aF{v f:V}(h:gJ v f)(n:Nat->Bool):v.aF n=true->f.aF n=true:=by
 induction h with
 |c h=>intro e;exact h.2 n e
 | @agg xs q h=>
  intro e;simp[V.aF]at e⊢;intro c o;obtain⟨i,p,rfl⟩:=e3 o;obtain⟨a,j,hs⟩:=(h.flip λ_ _ h=>h).get (fb p);exact hs.2 n (e a (fl j))
 |a6 xs q ah h ih=>
  grind[V.aF,SH,oK]
inductive kD:bV->bV->Prop
 |box {xs qN}:a' dA xs qN->kD (.box xs) (.box qN)
 |arr {sz es}:kD (.arr sz es) (.arr sz es)
 |same {x}:kD x x
 |b' {E c x2}:dA c x2->kD (.b' E c) (.b' E x2)
 |cA {sz es i o c x2}:dA c x2->kD (.cA sz es i o c) (.cA sz es i o x2)
def Rz(env env':Env):Prop:=∀k g a,look env' k=some (g,a)->∃v,look env k=some (g,v)/\gJ v a
def sG(J J':ba):Prop:=∀b a,aY J' b=some a->∃x,aY J b=some x/\kD x a
theorem kD.GU{b:Nat}{x o:bV}(h:kD x o)(j:cW φ w S b x):cW φ w S b o:=by
 cases h with
 |arr=>grind
 |same=>grind
 |b' h=>
  obtain⟨h0,⟨p,v,h1,e,f⟩,q⟩:=j;exact⟨h0,⟨p,v,h1,e,h.1 _ _ _ _ f⟩,q⟩
 |cA h=>
  obtain⟨h1,⟨vs,E,k1,k2,k3,v,k4,k5⟩,k6⟩:=j;exact⟨h1,⟨vs,E,k1,k2,k3,v,k4,h.1 _ _ _ _ k5⟩,k6⟩
 |box h=>
  obtain⟨h0,vs,E,h1,e,f⟩:=j;exact⟨h0,vs,E,h1,a'.comp (λa b c h1 e=>h1.1 _ _ _ _ e) (h.flip λ_ _ h=>h) e,f⟩
theorem kD.aF{x c:bV}(h:kD x c)(n:Nat->Bool)(a:x.aF n=true):c.aF n=true:=by
 cases h with
 |arr=>rfl
 |same=>grind
 |b' h=>exact h.2 n a
 |cA h=>exact h.2 n a
 | @box xs e h=>
  have:=gJ.aF (.agg h) n (by grind[V.aF,bV.aF]);grind[V.aF,bV.aF]
theorem Rel.weaken{n:Nat->Bool}(R:Rel aE nt φ S env J n a w)(he:Rz env env')(hs:sG J J'):Rel aE nt φ S env' J' n a w:=by
 refine⟨⟨λb x e=>?_,λb j x y e p=>?_,R.bR.st⟩,λk g v ah aq=>?_,λk g v ah aq=>?_,λk g v ah aq=>?_,λb x e=>?_,R.size,R.defers,R.ext,λb x e=>?_,R.fix,R.gO⟩
 . obtain⟨f,h1,c⟩:=hs b x e;exact c.GU (R.bR.blk b f h1)
 . obtain⟨f,h1,c⟩:=hs b x e;obtain⟨q,k1,k2⟩:=hs j y p;exact R.bR.inj b j f q h1 k1
 . obtain⟨v0,h1,c⟩:=he k g v ah;obtain⟨x,e,o⟩:=R.gN k g v0 h1 aq;exact⟨x,e,c.G3 o⟩
 . obtain⟨v0,h1,c⟩:=he k g v ah;exact R.hK k g v0 h1 aq
 . obtain⟨v0,h1,c⟩:=he k g v ah;exact c.aF n (R.gM k g v0 h1 aq)
 . obtain⟨f,h1,c⟩:=hs b x e;exact⟨(R.dV b f h1).1,c.aF n (R.dV b f h1).2⟩
 . obtain⟨f,h1,c⟩:=hs b x e;exact R.own b f h1
theorem Conv.weaken(he:Rz env env')(hs:sG J J'):Conv kk N env J N env' J':=λaE nt φ S a w _ R=>⟨φ,S,R.weaken he hs⟩
theorem Rel.Gm(R:Rel aE nt φ S env J (lt N) a w){sz:Nat}(B:0<sz)(E:aE.k<=N):
 Rel aE nt (fS φ N (0,0)) S env (c9 J N (.arr sz [])) (lt (N+1)) a w:=by
 have D:∀b,lt N b=true->fS φ N (0,0) b=φ b:=by
  intro b j;simp[lt]at j;grind[fS]
 have o:∀b,lt N b=true->lt (N+1) b=true:=λb j=>Qz (by simp) j;have e:=R.zp D;have cq:(fS φ N (0,0) N).2=0:=by simp[fS]
 have f:∀b x,aY (c9 J N (.arr sz [])) b=some x->(b=N/\x= .arr sz [])\/(b≠N/\aY J b=some x):=by
  grind[c0]
 refine⟨⟨λb x c=>?_,λb q x y c p A h0 t=>?_,e.bR.st⟩,e.gN,e.hK,λk g v ah aq=>V.hv o (e.gM k g v ah aq),λb x c=>?_,e.size,e.defers,e.ext,λb x c h0=>?_,e.fix,λb j=>by simp[lt];omega⟩
 . rcases f b x c with⟨rfl,rfl⟩|⟨_,c⟩
   . exact⟨by simp,by simp,by simp,B,λh=>absurd cq h⟩
   . exact e.bR.blk b x c
 . rcases f b x c with⟨rfl,rfl⟩|⟨_,c⟩
   . grind
   . rcases f q y p with⟨rfl,rfl⟩|⟨_,p⟩
     . grind
     . exact e.bR.inj b q x y c p A h0 t
 . rcases f b x c with⟨rfl,rfl⟩|⟨_,c⟩
   . exact⟨by simp[lt],rfl⟩
   . exact⟨o b (e.dV b x c).1,bV.hv o (e.dV b x c).2⟩
 . rcases f b x c with⟨rfl,rfl⟩|⟨_,c⟩
   . grind
   . exact e.own b x c h0
end
inductive aN where
 |bool
 |int (k:IntKind)
 |str
 |slice (t:aN)
 |nm (n:Nat)
def aN.beq:aN->aN->Bool
 |.bool,.bool=>true
 |.int k,.int a=>decide (k=a)
 |.str,.str=>true
 |.slice r,.slice c=>aN.beq r c
 |.nm n,.nm m=>Nat.beq n m
 |_,_=>false
theorem aN.beq_eq:∀{a b:aN},aN.beq a b=true->a=b
 |.bool,.bool,_=>rfl
 |.int k,.int c,h=>by grind[aN.beq]
 |.str,.str,_=>rfl
 |.slice r,.slice e,h=>by simp[aN.beq]at h;rw[aN.beq_eq h]
 |.nm n,.nm m,h=>by grind[aN.beq,Nat.eq_of_beq_eq_true]
 |.bool,.int _,h|.bool,.str,h|.bool,.slice _,h|.bool,.nm _,h=>by simp[aN.beq]at h
 |.int _,.bool,h|.int _,.str,h|.int _,.slice _,h|.int _,.nm _,h=>by simp[aN.beq]at h
 |.str,.int _,h|.str,.bool,h|.str,.slice _,h|.str,.nm _,h=>by simp[aN.beq]at h
 |.slice _,.int _,h|.slice _,.str,h|.slice _,.bool,h|.slice _,.nm _,h=>by simp[aN.beq]at h
 |.nm _,.int _,h|.nm _,.str,h|.nm _,.bool,h|.nm _,.slice _,h=>by grind[aN.beq]
theorem aN.beq_refl:∀(a:aN),aN.beq a a=true
 |.bool=>rfl
 |.int k=>by simp[aN.beq]
 |.str=>rfl
 |.slice r=>by exact aN.beq_refl r
 |.nm n=>by grind[aN.beq,Nat.beq_refl]
def aN.dec(a b:aN):Decidable (a=b):=
 match h:aN.beq a b with
 |true=>.isTrue (aN.beq_eq h)
 |false=>.isFalse λe=>by rw[e,aN.beq_refl]at h;cases h
def aN.den(D:Nat->Type):aN->Type
 |.bool=>Bool
 |.int _=>Int
 |.str=>aj
 |.slice t=>List (aN.den D t)
 |.nm n=>D n
structure Cell (D:Nat->Type) where
 ty:aN
 val:ty.den D
def Cell.as{D:Nat->Type}(t:aN)(c:Cell D):Option (t.den D):=
 match aN.dec c.ty t with
 |.isTrue h=>some (Eq.rec (motive:=λt _=>aN.den D t) c.val h)
 |.isFalse _=>none
variable{t:aN}
theorem Cell.kf{c:Cell D}{x:t.den D}(h:c.as t=some x):c=⟨t,x⟩:=by
 obtain⟨u,v⟩:=c;unfold Cell.as at h;split at h
 all_goals grind
theorem Cell.SC{x:t.den D}:Cell.as t (⟨t,x⟩:Cell D)=some x:=by
 unfold Cell.as;split
 . rfl
 grind
def F9(D:Nat->Type)(enc:∀n,D n->List T):(t:aN)->t.den D->List T
 |.bool,b=>[.bool b]
 |.int k,n=>[.int k n]
 |.str,s=>[.str s]
 |.slice t,l=>[.slice (List.map (F9 D enc t) l)]
 |.nm n,x=>enc n x
def Up(D:Nat->Type)(enc:∀n,D n->List T):Cell D->T
 |⟨.bool,b⟩=>.bool b
 |⟨.int k,n⟩=>.int k n
 |⟨.str,s⟩=>.str s
 |⟨.slice t,l⟩=>.slice (List.map (F9 D enc t) l)
 |⟨.nm _,_⟩=>.bool false
structure cJ where
 D:Nat->Type
 ki:∀n,D n
 pj:∀n,D n->List (Cell D)
 make:∀n,List (Cell D)->Option (D n)
 dj:Nat->List aN
 enc:∀n,D n->List T
 Uq:∀n x,enc n x=(pj n x).map (Up D enc)
 mk_eq:∀n l x,make n l=some x->pj n x=l
 Va:∀n x,(pj n x).map Cell.ty=dj n
 pos:∀n,0<(dj n).length
 U':Nat->Option aN:=λ_=>none
 own:List (List Bool×Nat×aN):=[]
variable {U:cJ}
abbrev cJ.C(U:cJ):=Cell U.D
abbrev aN.d(U:cJ)(t:aN):=t.den U.D
def aN.ki(U:cJ):(t:aN)->t.den U.D
 |.bool=>false
 |.int _=>(0:Int)
 |.str=>([]:aj)
 |.slice t=>([]:List (t.den U.D))
 |.nm n=>U.ki n
def aN.vF:aN->Bool
 |.nm _=>true
 |_=>false
def aN.row(U:cJ):(t:aN)->t.den U.D->List (Cell U.D)
 |.bool,b=>[⟨.bool,b⟩]
 |.int k,n=>[⟨.int k,n⟩]
 |.str,s=>[⟨.str,s⟩]
 |.slice t,l=>[⟨.slice t,l⟩]
 |.nm n,x=>U.pj n x
def aN.cells(U:cJ):aN->List aN
 |.nm n=>U.dj n
 |t=>[t]
def aN.sz(U:cJ)(t:aN):Nat:=(t.cells U).length
def je(U:cJ)(t:aN):List (Cell U.D)->Option (t.den U.D)
 |[c]=>c.as t
 |_=>none
def aN.mk(U:cJ):(t:aN)->List (Cell U.D)->Option (t.den U.D)
 |.nm n,l=>U.make n l
 |.bool,l=>je U .bool l
 |.int k,l=>je U (.int k) l
 |.str,l=>je U .str l
 |.slice t,l=>je U (.slice t) l
variable{x:t.den U.D}
theorem Dx{l:List (Cell U.D)}(h:je U t l=some x):l=[⟨t,x⟩]:=by
 unfold je at h;grind[Cell.kf]
def Cell.enc(U:cJ)(c:Cell U.D):T:=Up U.D U.enc c
def aN.enc(U:cJ)(t:aN)(x:t.den U.D):List T:=F9 U.D U.enc t x
theorem aN.vw:t.enc U x=(t.row U x).map (Cell.enc U):=by
 cases t<;>first|rfl|skip
 case nm n=>exact U.Uq n x
theorem aN.ai':(t.row U x).map Cell.ty=t.cells U:=by
 cases t<;>first|rfl|skip
 case nm n=>exact U.Va n x
theorem aN.U5:(t.row U x).length=t.sz U:=by
 rw[<-jc,aN.ai'];rfl
theorem aN.sV:(t.enc U x).length=t.sz U:=by
 rw[aN.vw,jc,aN.U5]
theorem aN.xH:0<t.sz U:=by
 cases t<;>simp[aN.sz,aN.cells];exact U.pos _
theorem aN.Gk:∀{t:aN} {l:List (Cell U.D)} {x:t.den U.D},t.mk U l=some x->t.row U x=l
 |.nm n,l,x,h=>U.mk_eq n l x h
 |.bool,l,x,h=>(Dx h).symm
 |.int k,l,x,h=>(Dx h).symm
 |.str,l,x,h=>(Dx h).symm
 |.slice t,l,x,h=>(Dx h).symm
def aN.at(U:cJ)(t:aN)(l:List (t.den U.D))(i:Nat):t.den U.D:=l.getD i (t.ki U)
theorem AJ{l:List (t.den U.D)}{i:Nat}(h:i<l.length):el (l.map (t.enc U)) i=t.enc U (t.at U l i):=by
 simp[el,aN.at,fb h]
end
section
open Go
variable {U:cJ}
inductive bk (U:cJ) where
 |t (c:Cell U.D)
 |ptr (b o:Nat)
 |cH (b:Nat)(t:aN)(i o:Nat)
 |dJ (t:aN)(x:t.den U.D)(o:Nat)
 |arr (b:Nat)
 |sub (b oR len:Nat)
 |pre (b h:Nat)
 |dK (b oR len:Nat)
 |mp (b:Nat)
 |ev (b:Nat)
 |cL (b:Nat)
 |aA
 |fa
 |e'
 |fn (f:Nat)(caps:a7)
 |dead
inductive bL (U:cJ) where
 |c (x:bk U)
 |agg (cs:List (bk U))
 |a6 (vs:List (bL U))
inductive cO (U:cJ) where
 |box (cs:List (bk U))
 |arr (t:aN)(l:List (t.den U.D))
 |rows (sz:Nat)(r:List (List (bk U)))
 |set (ks:List aj)
 |buf (E:Nat)(s:aj)
 |b' (E:Nat)(c:bk U)
 |cA (t:aN)(l:List (t.den U.D))(i o:Nat)(c:bk U)
abbrev bX(U:cJ):=List (Nat×bL U)
abbrev bh(U:cJ):=List (Nat×cO U)
abbrev eB:=List (Nat×Nat×Bool)
def a8{α:Type}:List (Nat×α)->Nat->Option α
 |[],_=>none
 |(k,x)::r,i=>match Nat.beq k i with
  |true=>some x
  |false=>a8 r i
def cE{α:Type}:List (Nat×α)->Nat->α->List (Nat×α)
 |[],b,x=>[(b,x)]
 |(k,y)::r,b,x=>match Nat.beq k b with
  |true=>(k,x)::r
  |false=>(k,y)::cE r b x
def dl{α:Type}:List (Nat×α)->Nat->List (Nat×α)
 |[],_=>[]
 |(k,y)::r,b=>match Nat.beq k b with
  |true=>dl r b
  |false=>(k,y)::dl r b
theorem cY{a b:Nat}(h:Nat.beq a b=true):a=b:=Nat.eq_of_beq_eq_true h
theorem iC{a b:Nat}(h:Nat.beq a b=false):a≠b:=λe=>by simp_all
variable{α:Type}
theorem hR(J:List (Nat×α))(b:Nat)(x:α)(i:Nat):a8 (cE J b x) i=if b=i then some x else a8 J i:=by
 induction J with
 |nil=>
  grind[cE,a8,cY,iC]
 |cons y r ih=>
  grind[cE,cY,a8]
theorem oQ(J:List (Nat×α))(b i:Nat):a8 (dl J b) i=if b=i then none else a8 J i:=by
 induction J with
 |nil=>simp[dl,a8]
 |cons y r ih=>
  grind[dl,cY,a8]
def Ft:C->Option (bk U)
 |.t (.bool b)=>some (.t ⟨.bool,b⟩)
 |.t (.int k n)=>some (.t ⟨.int k,n⟩)
 |.t (.str s)=>some (.t ⟨.str,s⟩)
 |.aA=>some .aA
 |.fa=>some .fa
 |.e'=>some .e'
 |.dead=>some .dead
 |.fn f []=>some (.fn f [])
 |_=>none
def nM:List C->Option (List (bk U))
 |[]=>some []
 |c::cs=>match Ft c,nM cs with
  |some x,some xs=>some (x::xs)
  |_,_=>none
def xQ:V->Option (bL U)
 |.c x=>match Ft x with
  |some y=>some (.c y)
  |none=>none
 |.agg cs=>match nM cs with
  |some a=>some (.agg a)
  |none=>none
 |.a6 _=>none
def xF(gl:eB):Nat->Option (Nat×Bool)->Nat->Bool
 |0,_,_=>false
 |b+1,gd,k=>match a8 gl k with
  |none=>true
  |some a=>match gd with
   |none=>false
   |some g=>(Nat.beq g.1 a.1&&(g.2==a.2))||xF gl b (a8 gl g.1) k
def fi(env:bX U)(t:Nat)(b:Bool):Option Bool:=
 match a8 env t with
 |some (.c (.t ⟨.bool,x⟩))=>some (match b with|true=>x|false=>!x)
 |_=>none
def lL(gl:eB)(env:bX U):Nat->Option (Nat×Bool)->Option Bool
 |_,none=>some true
 |0,some _=>none
 |a+1,some (t,b)=>match lL gl env a (a8 gl t),fi env t b with
  |some x,some y=>some (x&&y)
  |_,_=>none
def qX:Nat:=200
def c'(gl:eB)(gd:Option (Nat×Bool))(env:bX U):aU->Option (bL U)
 |.const v=>xQ v
 |.tmp k=>match xF gl qX gd k with
  |true=>a8 env k
  |false=>none
def Fv(gl:eB)(gd:Option (Nat×Bool))(env:bX U)(c:aU)(b:Bool):aU->Option (bL U)
 |.const v=>xQ v
 |.tmp k=>match xF gl qX gd k with
  |true=>a8 env k
  |false=>match c,a8 gl k with
   |.tmp d,some (t,a)=>match Nat.beq t d&&(a==b)with
    |true=>a8 env k
    |false=>none
   |_,_=>none
def lU(gl:eB)(gd:Option (Nat×Bool))(env:bX U):List aU->Option (List (bL U))
 |[]=>some []
 |x::r=>match c' gl gd env x,lU gl gd env r with
  |some v,some vs=>some (v::vs)
  |_,_=>none
def qv:bL U->Option (List (bk U))
 |.c x=>some [x]
 |.agg cs=>some cs
 |.a6 _=>none
def xP(a:List (bk U))(off:Nat)(cs:List (bk U)):List (bk U):=a.take off++cs++a.drop (off+cs.length)
def AK(gl:eB)(gd:Option (Nat×Bool))(env:bX U):List (bk U)->List (Nat×Nat×aU)->Option (List (bk U))
 |a,[]=>some a
 |a,(off,n,x)::r=>match c' gl gd env x with
  |none=>none
  |some v=>match qv v with
   |none=>none
   |some cs=>match Nat.beq cs.length n&&Nat.ble (off+n) a.length with
    |true=>AK gl gd env (xP a off cs) r
    |false=>none
def bk.toT:bk U->Option T
 |.t c=>match c.ty.vF with
  |true=>none
  |false=>some (c.enc U)
 |.aA=>some (.slice [])
 |_=>none
def hV:List (bk U)->Option (List T)
 |[]=>some []
 |c::cs=>match c.toT,hV cs with
  |some t,some ts=>some (t::ts)
  |_,_=>none
def w3(gl:eB)(gd:Option (Nat×Bool))(env:bX U)(sz:Nat):List (List (bk U))->List (Nat×aU)->Option (List (List (bk U)))
 |rows,[]=>some rows
 |rows,(i,x)::r=>match c' gl gd env x with
  |none=>none
  |some v=>match qv v with
   |none=>none
   |some cs=>match hV cs with
    |none=>none
    |some _=>match Nat.beq cs.length sz&&Nat.ble (i+1) rows.length with
     |true=>w3 gl gd env sz (rows.set i cs) r
     |false=>none
inductive fW (U:cJ) where
 |ty (t:aN)(l:List (t.den U.D))
 |rows (r:List (List (bk U)))
 |nil
def fW.len:fW U->Nat
 |.ty _ l=>l.length
 |.rows r=>r.length
 |.nil=>0
def iD:List aN->List (bk U)->Option (List (Cell U.D))
 |[],[]=>some []
 |t::ts,.t c::cs=>match iD ts cs with
  |some l=>some (c::l)
  |none=>none
 |.slice t::ts,.aA::cs=>match iD ts cs with
  |some l=>some (⟨.slice t,([]:List (t.den U.D))⟩::l)
  |none=>none
 |_,_=>none
def qM(U:cJ)(t:aN)(cs:List (bk U)):Option (t.den U.D):=
 match iD (t.cells U) cs with
 |some l=>t.mk U l
 |none=>none
def mI(U:cJ)(t:aN):List (List (bk U))->Option (List (t.den U.D))
 |[]=>some []
 |r::a=>match qM U t r,mI U t a with
  |some x,some xs=>some (x::xs)
  |_,_=>none
def fW.as(t:aN):fW U->Option (List (t.den U.D))
 |.ty u l=>Cell.as (.slice t) ⟨.slice u,l⟩
 |.rows r=>mI U t r
 |.nil=>some []
def fW.join:fW U->fW U->Option (fW U)
 |.nil,y=>some y
 |.ty t l,y=>match y.as t with
  |some a=>some (.ty t (l++a))
  |none=>none
 |.rows r,.ty t l=>match mI U t r with
  |some c=>some (.ty t (c++l))
  |none=>none
 |.rows r,.rows e=>some (.rows (r++e))
 |.rows r,.nil=>some (.rows r)
def fW.blk(sz:Nat):fW U->Option (cO U)
 |.ty t l=>match Nat.beq (t.sz U) sz with
  |true=>some (.arr t l)
  |false=>none
 |.rows r=>match r.all λx=>Nat.beq x.length sz with
  |true=>some (.rows sz r)
  |false=>none
 |.nil=>some (.rows sz [])
def sw(J:bh U):bL U->Option (fW U×Option Nat)
 |.c (.t ⟨.slice t,l⟩)=>some (.ty t l,none)
 |.c .aA=>some (.nil,none)
 |.c (.arr b)=>match a8 J b with
  |some (.arr t l)=>some (.ty t l,some b)
  |some (.rows _ r)=>some (.rows r,some b)
  |_=>none
 |_=>none
def cO.db:cO U->Option (Nat×Nat)
 |.box _=>none
 |.arr t l=>some (t.sz U,l.length)
 |.rows sz r=>some (sz,r.length)
 |.set _=>none
 |.buf _ s=>some (1,s.length)
 |.b' _ _=>none
 |.cA t l _ _ _=>some (t.sz U,l.length)
def Vi(J:bh U)(b sz:Nat):Bool:=
 match a8 J b with
 |some x=>(match x.db with|some p=>Nat.beq p.1 sz|none=>false)
 |none=>false
def room(bytes n:Nat):Bool:=decide ((2*n+192)*bytes<=hF)&&decide (n<=dT)
def Vf:BinOp->IntKind->IntKind->Int->Int->Option (Bool×Cell U.D)
 |.add,k,c,a,b=>if k=c then some (true,⟨.int k,k.wrap (a+b)⟩)else none
 |.sub,k,c,a,b=>if k=c then some (true,⟨.int k,k.wrap (a-b)⟩)else none
 |.mul,k,c,a,b=>if k=c then some (true,⟨.int k,k.wrap (a*b)⟩)else none
 |.quo,k,c,a,b=>if k=c then some (!decide (b=0),⟨.int k,k.wrap (a.tdiv b)⟩)else none
 |.rem,k,c,a,b=>if k=c then some (!decide (b=0),⟨.int k,a.tmod b⟩)else none
 |.and,k,c,a,b=>if k=c then some (true,⟨.int k,k.wrap (BitVec.ofInt k.bits a &&& BitVec.ofInt k.bits b).toNat⟩)else none
 |.or,k,c,a,b=>if k=c then some (true,⟨.int k,k.wrap (BitVec.ofInt k.bits a ||| BitVec.ofInt k.bits b).toNat⟩)else none
 |.xor,k,c,a,b=>if k=c then some (true,⟨.int k,k.wrap (BitVec.ofInt k.bits a ^^^ BitVec.ofInt k.bits b).toNat⟩)else none
 |.andNot,k,c,a,b=>if k=c then some (true,⟨.int k,k.wrap (BitVec.ofInt k.bits a &&& ~~~ BitVec.ofInt k.bits b).toNat⟩)else none
 |.shl,k,_,a,b=>some (decide (0<=b),⟨.int k,k.wrap (a*2^min b.toNat k.bits)⟩)
 |.shr,k,_,a,b=>some (decide (0<=b),⟨.int k,a.fdiv (2^min b.toNat k.bits)⟩)
 |.eql,k,c,a,b=>if k=c then some (true,⟨.bool,decide (a=b)⟩)else none
 |.neq,k,c,a,b=>if k=c then some (true,⟨.bool,!decide (a=b)⟩)else none
 |.lss,k,c,a,b=>if k=c then some (true,⟨.bool,decide (a<b)⟩)else none
 |.leq,k,c,a,b=>if k=c then some (true,⟨.bool,decide (a<=b)⟩)else none
 |.gtr,k,c,a,b=>if k=c then some (true,⟨.bool,decide (b<a)⟩)else none
 |.geq,k,c,a,b=>if k=c then some (true,⟨.bool,decide (b<=a)⟩)else none
def Vg:BinOp->aj->aj->Option (Bool×Cell U.D)
 |.add,a,b=>some (decide (a.length+b.length<=eE),⟨.str,a++b⟩)
 |.eql,a,b=>some (true,⟨.bool,decide (a=b)⟩)
 |.neq,a,b=>some (true,⟨.bool,!decide (a=b)⟩)
 |.lss,a,b=>some (true,⟨.bool,Op.bytesLess a b⟩)
 |.leq,a,b=>some (true,⟨.bool,Op.bytesLess a b||decide (a=b)⟩)
 |.gtr,a,b=>some (true,⟨.bool,!(Op.bytesLess a b||decide (a=b))⟩)
 |.geq,a,b=>some (true,⟨.bool,!(Op.bytesLess a b)⟩)
 |_,_,_=>none
def IG(op:BinOp):Cell U.D->Cell U.D->Option (Bool×Cell U.D)
 |⟨.int k,a⟩,⟨.int c,b⟩=>Vf op k c a b
 |⟨.str,a⟩,⟨.str,b⟩=>Vg op a b
 |_,_=>none
def fy(a b:Bool):Bool:=a==b
def hL(a b:Int):Bool:=decide (a=b)
def jx(a b:aj):Bool:=decide (a=b)
def ay(m:Int)(n:Nat):Bool:=decide (0<=m)&&decide (m.toNat<n)
def d'(b a:Int)(n:Nat):Bool:=decide (0<=b)&&(decide (b<=a)&&decide (a<=n))
def et{α:Type}(l:List α)(b a:Int):List α:=(l.take a.toNat).drop b.toNat
def iI(a b:Int):Int:=Max.max a b
def ja(a b:Int):Int:=Min.min a b
def fY(s:aj)(m:Int):Int:=((s.getD m.toNat 0).toNat:Int)
def nw(m:Int):aj:=(Utf8.encode m).data.toList
def bY(k:IntKind)(m:Int):Int:=k.wrap m
def B4(a b:aj):aj:=a++b
def IK:Nat->Cell U.D->Cell U.D->Option Bool
 |0,⟨.bool,a⟩,⟨.bool,b⟩=>some (fy a b)
 |1,⟨.int k,a⟩,⟨.int c,b⟩=>if k=c then some (hL a b)else none
 |2,⟨.str,a⟩,⟨.str,b⟩=>some (jx a b)
 |_,_,_=>none
def BJ:a7->List (bk U)->List (bk U)->Option Bool
 |[],[],[]=>some true
 |k::ks,.t x::xs,.t y::a=>match IK k x y,BJ ks xs a with
  |some b,some r=>some (b&&r)
  |_,_=>none
 |_,_,_=>none
def rR(agg:Bool)(n:Nat)(cs:List (bk U))(o:Nat):Option (bL U):=
 match agg with
 |true=>match Nat.ble (o+n) cs.length with
  |true=>some (.agg ((cs.drop o).take n))
  |false=>none
 |false=>match cs[o]? with
  |some c=>some (.c c)
  |none=>none
def ow(gl:eB)(gd:Option (Nat×Bool))(env:bX U):Option aU->Option (Option Int)
 |none=>some none
 |some x=>match c' gl gd env x with
  |some (.c (.t ⟨.int _,n⟩))=>some (some n)
  |_=>none
def BH:List (bL U)->Option a7
 |[]=>some []
 |.c (.ptr b 0)::r=>match BH r with
  |some l=>some (b::l)
  |none=>none
 |_=>none
abbrev af9(U:cJ):=Option (Bool×bL U×bh U)
def sy(U:cJ)(t:aN)(l:List (t.den U.D))(i o:Nat)(cs:List (bk U)):Option (List (t.den U.D)):=
 match qM U t (xP ((t.row U (t.at U l i)).map .t) o cs)with
 |some x=>some (l.set i x)
 |none=>none
def u9(t:aN):List (bk U)->Option (List (t.den U.D))
 |[]=>some []
 |.t c::r=>match c.as t,u9 t r with
  |some x,some l=>some (x::l)
  |_,_=>none
 |_::_=>none
def ES:List (bk U)->Option ((t:aN)×List (t.den U.D))
 |.t c::r=>match c.ty.vF,u9 c.ty (.t c::r)with
  |false,some l=>some ⟨c.ty,l⟩
  |_,_=>none
 |_=>none
def strOf(l:ao):aj:=l.map λm=>UInt8.ofNat m.toNat
def xG(a len n:Nat):Bool:=decide (a+len<=n)
def UR:List (bk U)->Option (bk U)
 |[.arr b]=>some (.arr b)
 |_=>none
def Gj(bytes:Nat)(m:Int):Bool:=decide (0<=m/\m.toNat*bytes<=hF/\m.toNat<=dT)
theorem aeb{bytes:Nat}{m:Int}:Gj bytes m=true↔0<=m/\m.toNat*bytes<=hF/\m.toNat<=dT:=by simp[Gj]
def cn(gl:eB)(gd:Option (Nat×Bool))(env:bX U)(J:bh U)(n:Nat)(o:cN):af9 U:=
 match o with
 |.mov x=>match c' gl gd env x with
  |some v=>some (true,v,J)
  |none=>none
 |.pick c x y=>match c' gl gd env c,Fv gl gd env c true x,Fv gl gd env c false y with
  |some (.c (.t ⟨.bool,b⟩)),some (.c (.t ⟨.bool,p⟩)),some (.c (.t ⟨.bool,q⟩))=>some (true,.c (.t ⟨.bool,bif b then p else q⟩),J)
  |_,_,_=>none
 |.alloc cs=>match nM cs with
  |some xs=>some (true,.c (.ptr n 0),cE J n (.box xs))
  |none=>none
 |.allocA cs=>match nM cs with
  |some xs=>match ES xs with
   |some ⟨t,l⟩=>some (true,.c (.ptr n 0),cE J n (.arr t l))
   |none=>none
  |none=>none
 |.idxP k x i=>match c' gl gd env x,c' gl gd env i with
  |some (.c (.ptr b 0)),some (.c (.t ⟨.int _,m⟩))=>match a8 J b with
   |some (.arr t _)=>match Nat.beq (t.sz U) 1 with
    |true=>some (ay m k,.c (.cH b t (Int.toNat m) 0),J)
    |false=>none
   |_=>none
  |_,_=>none
 |.idxV k x i=>match c' gl gd env x,c' gl gd env i with
  |some (.agg cs),some (.c (.t ⟨.int _,m⟩))=>match Nat.beq cs.length k,ES cs with
   |true,some ⟨t,l⟩=>some (ay m k,.c (.t ⟨t,t.at U l (Int.toNat m)⟩),J)
   |_,_=>none
  |_,_=>none
 |.mslice sz bytes z x=>match c' gl gd env x,nM z with
  |some (.c (.t ⟨.int _,m⟩)),some g=>match hV g with
   |none=>none
   |some _=>match g with
    |[.t c]=>match c.ty.vF,Nat.beq sz 1 with
     |false,true=>some (Gj bytes m,.c (.arr n),cE J n (.arr c.ty (List.replicate (Int.toNat m) c.val)))
     |_,_=>none
    |_=>none
  |_,_=>none
 |.slcP k x d u=>match c' gl gd env x,ow gl gd env d,ow gl gd env u with
  |some (.c (.ptr b 0)),some l,some h=>
   some (d' (l.getD 0) (h.getD (k:Int)) k,.c (.sub b (Int.toNat (l.getD 0)) (Int.toNat (h.getD (k:Int))-Int.toNat (l.getD 0))),J)
  |_,_,_=>none
 |.b2s x=>match c' gl gd env x with
  |some (.c (.t ⟨.slice (.int .u8),l⟩))=>some (true,.c (.t ⟨.str,strOf l⟩),J)
  |some (.c .aA)=>some (true,.c (.t ⟨.str,[]⟩),J)
  |some (.c (.arr b))=>match a8 J b with
   |some (.arr (.int .u8) l)=>some (true,.c (.t ⟨.str,strOf l⟩),J)
   |_=>none
  |some (.c (.sub b d len))=>match a8 J b with
   |some (.arr (.int .u8) l)=>some (xG d len (List.length l),.c (.t ⟨.str,strOf ((l.drop d).take len)⟩),J)
   |_=>none
  |_=>none
 |.allocS e e8=>some (true,.c (.ptr n 0),cE (cE J (n+1) (.buf e8 [])) n (.b' e (.cL (n+1))))
 |.bsliceT e sz len z parts=>match U.U' e with
  |none=>none
  |some t=>match nM z with
   |some g=>match hV g with
    |none=>none
    |some _=>match Nat.beq g.length sz with
     |false=>none
     |true=>match w3 gl gd env sz (List.replicate len g) parts with
      |some rows=>match mI U t rows with
       |some l=>some (true,.c (.t ⟨.slice t,l⟩),J)
       |none=>none
      |none=>none
   |none=>none
 |.mkset=>some (true,.c (.mp n),cE J n (.set []))
 |.lkset x k=>match c' gl gd env x,c' gl gd env k with
  |some (.c (.mp b)),some (.c (.t ⟨.str,s⟩))=>match a8 J b with
   |some (.set ks)=>some (true,.c (.t ⟨.bool,jz ks s⟩),J)
   |_=>none
  |_,_=>none
 |.upset x k=>match c' gl gd env x,c' gl gd env k with
  |some (.c (.mp b)),some (.c (.t ⟨.str,s⟩))=>match a8 J b with
   |some (.set ks)=>some (true,.a6 [],cE J b (.set (iN ks s)))
   |_=>none
  |_,_=>none
 |.appendB e bytes x y=>match c' gl gd env x,c' gl gd env y with
  |some (.c (.cL b)),some (.c (.t ⟨.str,s⟩))=>match a8 J b with
   |some (.buf E l)=>match Nat.beq E e with
    |true=>some (room bytes (List.length l+List.length s),.c (.cL n),cE (dl J b) n (.buf e (B4 l s)))
    |false=>none
   |_=>none
  |_,_=>none
 |.sdata x=>match c' gl gd env x with
  |some (.c (.cL b))=>some (true,.c (.ev b),J)
  |_=>none
 |.ustr e x k=>match c' gl gd env x,c' gl gd env k with
  |some (.c (.ev b)),some (.c (.t ⟨.int .i64,m⟩))=>match a8 J b with
   |some (.buf E l)=>match Nat.beq E e with
    |true=>some (hL m (List.length l:Int),.c (.t ⟨.str,l⟩),dl J b)
    |false=>none
   |_=>none
  |_,_=>none
 |.box x=>match c' gl gd env x with
  |some v=>match qv v with
   |some cs=>some (true,.c (.ptr n 0),cE J n (.box cs))
   |none=>none
  |none=>none
 |.build z parts=>match nM z with
  |some g=>match AK gl gd env g parts with
   |some cs=>some (true,.agg cs,J)
   |none=>none
  |none=>none
 |.bslice sz len z parts=>match nM z with
  |some g=>match hV g with
   |none=>none
   |some _=>match Nat.beq g.length sz with
    |false=>none
    |true=>match w3 gl gd env sz (List.replicate len g) parts with
     |some rows=>some (true,.c (.arr n),cE J n (.rows sz rows))
     |none=>none
  |none=>none
 |.load agg k x=>match c' gl gd env x with
  |some (.c (.ptr b o))=>match a8 J b with
   |some (.box cs)=>match rR agg k cs o with
    |some v=>some (true,v,J)
    |none=>none
   |some (.b' _ c)=>match agg,o with
    |false,1=>some (true,.c c,J)
    |_,_=>none
   |_=>none
  |some (.c (.cH b t i o))=>match a8 J b with
   |some (.arr j l)=>match Cell.as (.slice t) (⟨.slice j,l⟩:Cell U.D)with
    |some l=>match rR agg k ((t.row U (t.at U l i)).map .t) o with
     |some v=>some (decide (i<l.length),v,J)
     |none=>none
    |none=>none
   |some (.cA j l w A c)=>match agg with
    |true=>none
    |false=>match Nat.beq o A with
     |true=>match Nat.beq (t.sz U) (j.sz U)with
      |true=>some (decide (i=w),.c c,J)
      |false=>none
     |false=>match Cell.as (.slice t) (⟨.slice j,l⟩:Cell U.D)with
      |some l=>match rR false k ((t.row U (t.at U l i)).map .t) o with
       |some v=>some (decide (i<l.length),v,J)
       |none=>none
      |none=>none
   |_=>none
  |some (.c (.dJ t x o))=>match rR agg k ((t.row U x).map .t) o with
   |some v=>some (true,v,J)
   |none=>none
  |_=>none
 |.store k x v=>match c' gl gd env x,c' gl gd env v with
  |some (.c (.ptr b o)),some v=>match qv v with
   |some cs=>match Nat.beq cs.length k with
    |true=>match a8 J b with
     |some (.box H)=>match Nat.ble (o+k) H.length with
      |true=>some (true,.a6 [],cE J b (.box (xP H o cs)))
      |false=>none
     |some (.b' e _)=>match o,cs with
      |1,[c]=>some (true,.a6 [],cE J b (.b' e c))
      |_,_=>none
     |_=>none
    |false=>none
   |none=>none
  |some (.c (.cH b t i o)),some v=>match qv v with
   |some cs=>match Nat.beq cs.length k&&Nat.ble (o+k) (t.sz U)with
    |true=>match a8 J b with
     |some (.arr j l)=>match Cell.as (.slice t) (⟨.slice j,l⟩:Cell U.D)with
      |some l=>match UR cs with
       |some c=>some (decide (i<l.length),.a6 [],cE J b (.cA t l i o c))
       |none=>match sy U t l i o cs with
        |some G=>some (decide (i<l.length),.a6 [],cE J b (.arr t G))
        |none=>none
      |none=>none
     |some (.cA j l w A K)=>match cs with
      |[c]=>match Nat.beq o A with
       |true=>match Nat.beq (t.sz U) (j.sz U)with
        |true=>some (decide (i=w),.a6 [],cE J b (.cA j l w A c))
        |false=>none
       |false=>match Cell.as (.slice t) (⟨.slice j,l⟩:Cell U.D)with
        |some l=>match sy U t l i o [c]with
         |some G=>some (decide (i<l.length),.a6 [],cE J b (.cA t G w A K))
         |none=>none
        |none=>none
      |_=>none
     |_=>none
    |false=>none
   |none=>none
  |_,_=>none
 |.nilCheck x=>match c' gl gd env x with
  |some (.c (.ptr b o))=>some (true,.c (.ptr b o),J)
  |some (.c (.cH b t i o))=>some (true,.c (.cH b t i o),J)
  |some (.c (.dJ t x o))=>some (true,.c (.dJ t x o),J)
  |_=>none
 |.bin op x y=>match c' gl gd env x,c' gl gd env y with
  |some (.c (.t p)),some (.c (.t q))=>match IG op p q with
   |some (c,r)=>some (c,.c (.t r),J)
   |none=>none
  |_,_=>none
 |.eqAgg neg ks x y=>match c' gl gd env x,c' gl gd env y with
  |some (.agg p),some (.agg q)=>match BJ ks p q with
   |some r=>some (true,.c (.t ⟨.bool,match neg with|true=>!r|false=>r⟩),J)
   |none=>none
  |_,_=>none
 |.eqBool neg x y=>match c' gl gd env x,c' gl gd env y with
  |some (.c (.t ⟨.bool,p⟩)),some (.c (.t ⟨.bool,q⟩))=>some (true,.c (.t ⟨.bool,match neg with|true=>!(fy p q)|false=>fy p q⟩),J)
  |_,_=>none
 |.not x=>match c' gl gd env x with
  |some (.c (.t ⟨.bool,b⟩))=>some (true,.c (.t ⟨.bool,!b⟩),J)
  |_=>none
 |.conv k x=>match c' gl gd env x with
  |some (.c (.t ⟨.int _,m⟩))=>some (true,.c (.t ⟨.int k,bY k m⟩),J)
  |_=>none
 |.i2s x=>match c' gl gd env x with
  |some (.c (.t ⟨.int _,m⟩))=>some (true,.c (.t ⟨.str,nw m⟩),J)
  |_=>none
 |.s2s x=>match c' gl gd env x with
  |some (.c (.t ⟨.str,s⟩))=>some (true,.c (.t ⟨.str,s⟩),J)
  |_=>none
 |.fldA off x=>match c' gl gd env x with
  |some (.c (.ptr b o))=>some (true,.c (.ptr b (o+off)),J)
  |some (.c (.cH b t i o))=>some (true,.c (.cH b t i (o+off)),J)
  |some (.c (.dJ t x o))=>some (true,.c (.dJ t x (o+off)),J)
  |_=>none
 |.fld agg off k x=>match c' gl gd env x with
  |some (.agg cs)=>match rR agg k cs off with
   |some v=>some (true,v,J)
   |none=>none
  |_=>none
 |.idxA sz x i=>match c' gl gd env x,c' gl gd env i with
  |some (.c (.t ⟨.slice t,l⟩)),some (.c (.t ⟨.int _,m⟩))=>match Nat.beq (t.sz U) sz with
   |true=>some (ay m l.length,.c (.dJ t (t.at U l (Int.toNat m)) 0),J)
   |false=>none
  |some (.c (.arr b)),some (.c (.t ⟨.int _,m⟩))=>match a8 J b with
   |some (.arr t l)=>match Nat.beq (t.sz U) sz with
    |true=>some (ay m l.length,.c (.cH b t (Int.toNat m) 0),J)
    |false=>none
   |_=>none
  |_,_=>none
 |.idxS x i=>match c' gl gd env x,c' gl gd env i with
  |some (.c (.t ⟨.str,s⟩)),some (.c (.t ⟨.int _,m⟩))=>some (ay m s.length,.c (.t ⟨.int .u8,fY s m⟩),J)
  |_,_=>none
 |.slcS x d u=>match c' gl gd env x,ow gl gd env d,ow gl gd env u with
  |some (.c (.t ⟨.str,s⟩)),some l,some h=>
   some (d' (l.getD 0) (h.getD (s.length:Int)) s.length,.c (.t ⟨.str,et s (l.getD 0) (h.getD (s.length:Int))⟩),J)
  |_,_,_=>none
 |.slc sz x d u=>match c' gl gd env x,ow gl gd env d,ow gl gd env u with
  |some (.c (.t ⟨.slice t,s⟩)),some l,some h=>match Nat.beq (t.sz U) sz with
   |true=>some (d' (l.getD 0) (h.getD (s.length:Int)) s.length,.c (.t ⟨.slice t,et s (l.getD 0) (h.getD (s.length:Int))⟩),J)
   |false=>none
  |some (.c (.arr b)),some none,some h=>match a8 J b with
   |some (.arr t s)=>match Nat.beq (t.sz U) sz with
    |true=>some (d' 0 (h.getD (s.length:Int)) s.length,.c (.pre b (Int.toNat (h.getD (s.length:Int)))),J)
    |false=>none
   |_=>none
  |some (.c (.arr b)),some (some d),some h=>match a8 J b with
   |some (.arr t s)=>match Nat.beq (t.sz U) sz with
    |true=>some (d' d (h.getD (s.length:Int)) s.length,.c (.dK b (Int.toNat d) (Int.toNat (h.getD (s.length:Int))-Int.toNat d)),J)
    |false=>none
   |_=>none
  |_,_,_=>none
 |.slc0 x=>match c' gl gd env x with
  |some (.c (.t ⟨.slice _,_⟩))=>some (true,.c .aA,J)
  |some (.c .aA)=>some (true,.c .aA,J)
  |some (.c (.arr _))=>some (true,.c .aA,J)
  |_=>none
 |.mkfn f caps=>match lU gl gd env caps with
  |some vs=>match BH vs with
   |some l=>some (true,.c (.fn f l),J)
   |none=>none
  |none=>none
 |.ext x i=>match c' gl gd env x with
  |some (.a6 vs)=>match vs[i]? with
   |some v=>some (true,v,J)
   |none=>none
  |_=>none
 |.len str x=>match str,c' gl gd env x with
  |true,some (.c (.t ⟨.str,s⟩))=>some (true,.c (.t ⟨.int .i64,(s.length:Int)⟩),J)
  |false,some (.c (.cL b))=>match a8 J b with
   |some (.buf _ s)=>some (true,.c (.t ⟨.int .i64,(s.length:Int)⟩),J)
   |_=>none
  |false,some v=>match sw J v with
   |some e=>some (true,.c (.t ⟨.int .i64,(e.1.len:Int)⟩),J)
   |none=>none
  |_,_=>none
 |.append sz bytes x y=>match c' gl gd env x,c' gl gd env y with
  |some (.c .aA),some v=>match sw J v with
   |some (B,_)=>match B.blk sz with
    |some blk=>some (room bytes B.len,.c (.arr n),cE J n blk)
    |none=>none
   |none=>none
  |some (.c (.arr b)),some v=>match sw J (.c (.arr b)),sw J v with
   |some (L,_),some (B,M)=>match (match M with|some C=>Nat.beq C b|none=>false)with
    |true=>none
    |false=>match Vi J b sz with
     |false=>none
     |true=>match L.join B with
      |some I=>match I.blk sz with
       |some blk=>some (room bytes I.len,.c (.arr n),cE (dl J b) n blk)
       |none=>none
      |none=>none
   |_,_=>none
  |some (.c (.pre b h)),some (.c (.dK C d len))=>match Nat.beq b C with
   |true=>match a8 J b with
    |some (.arr t l)=>match Nat.beq (t.sz U) sz with
     |true=>some (decide (h+len<=l.length)&&decide (d+len<=l.length),.c (.arr n),cE (dl J b) n (.arr t (l.take h++(l.drop d).take len)))
     |false=>none
    |_=>none
   |false=>none
  |_,_=>none
 |.max2 x y=>match c' gl gd env x,c' gl gd env y with
  |some (.c (.t ⟨.int k,a⟩)),some (.c (.t ⟨.int F,b⟩))=>if k=F then some (true,.c (.t ⟨.int k,iI a b⟩),J)else none
  |_,_=>none
 |.min2 x y=>match c' gl gd env x,c' gl gd env y with
  |some (.c (.t ⟨.int k,a⟩)),some (.c (.t ⟨.int F,b⟩))=>if k=F then some (true,.c (.t ⟨.int k,ja a b⟩),J)else none
  |_,_=>none
 |.eqNil .. |.call .. |.ic .. =>none
end
section
open Go
variable {U:cJ}
inductive cd (N:Nat)(J:bh U):bk U->C->Prop
 |t (c:Cell U.D):cd N J (.t c) (.t (c.enc U))
 |ptr (b o:Nat):cd N J (.ptr b o) (.ptr b o)
 |cH (b:Nat) (t:aN) (i o:Nat):cd N J (.cH b t i o) (.cH b (t.sz U) i o)
 |dJ (t:aN) (x:t.den U.D) (o:Nat):cd N J (.dJ t x o) (.dJ (t.enc U x) o)
 |arr (b sz n:Nat) (yF:b<N) (h:∀x,a8 J b=some x->∀p,x.db=some p->p=(sz,n)):cd N J (.arr b) (.arr b sz 0 n)
 |sub (b oR len:Nat):cd N J (.sub b oR len) (.fI b 1 oR len)
 |pre (b sz h:Nat) (yF:b<N) (aiz:∀x,a8 J b=some x->∀p,x.db=some p->p.1=sz):cd N J (.pre b h) (.arr b sz 0 h)
 |dK (b sz oR len:Nat) (yF:b<N) (aiz:∀x,a8 J b=some x->∀p,x.db=some p->p.1=sz):cd N J (.dK b oR len) (.fI b sz oR len)
 |mp (b:Nat):cd N J (.mp b) (.mp b)
 |ev (b:Nat):cd N J (.ev b) (.ev b)
 |cL (b n:Nat) (yF:b<N) (h:∀x,a8 J b=some x->∀p,x.db=some p->p=(1,n)):cd N J (.cL b) (.cL b n)
 |aA:cd N J .aA .aA
 |fa:cd N J .fa .fa
 |e':cd N J .e' .e'
 |fn (f:Nat) (caps:a7):cd N J (.fn f caps) (.fn f caps)
 |dead (d:C):cd N J .dead d
inductive cb (N:Nat)(J:bh U):bL U->V->Prop
 |c {x d}:cd N J x d->cb N J (.c x) (.c d)
 |agg {xs pe}:a' (cd N J) xs pe->cb N J (.agg xs) (.agg pe)
 |a6 (xs:List (bL U)) (pe:List V) (ah:xs.length=pe.length) (h:∀(i:Nat) x d,xs[i]?=some x->pe[i]?=some d->cb N J x d):cb N J (.a6 xs) (.a6 pe)
inductive hX (N:Nat)(J:bh U):cO U->bV->Prop
 |box {cs pe}:a' (cd N J) cs pe->hX N J (.box cs) (.box pe)
 |arr (t:aN) (l:List (t.den U.D)):hX N J (.arr t l) (.arr (t.sz U) (l.map (t.enc U)))
 |set (ks:List aj):hX N J (.set ks) (.set ks)
 |buf (E:Nat) (s:aj):hX N J (.buf E s) (.buf E s)
 |b' {E c d}:cd N J c d->hX N J (.b' E c) (.b' E d)
 |cA (t:aN) (l:List (t.den U.D)) (i o:Nat) {c d}:cd N J c d->hX N J (.cA t l i o c) (.cA (t.sz U) (l.map (t.enc U)) i o d)
 |rows {sz r es}:a' (λr e=>hV r=some e) r es->(∀x,x∈r->x.length=sz)->hX N J (.rows sz r) (.arr sz es)
def cz(N:Nat)(J:bh U)(J1:ba):Prop:=∀b x,a8 J b=some x->b<N/\∃y,aY J1 b=some y/\hX N J x y
def c3(N:Nat)(J:bh U)(G:Nat->Bool)(env:bX U)(env1:Env):Prop:=∀k v,a8 env k=some v->∃v1,look env1 k=some (G k,v1)/\cb N J v v1
structure gT (gl:eB)(env:bX U)(G:Nat->Bool):Prop where
 free:∀k,a8 gl k=none->G k=true
 held:∀k t b,a8 gl k=some (t,b)->∃y,fi env t b=some y/\G k=(G t&&y)
def dn(N:Nat)(J:bh U)(N':Nat)(J':bh U):Prop:=N<=N'/\∀b a,b<N->a8 J' b=some a->∃x,a8 J b=some x/\∀p,a.db=some p->x.db=some p
variable{J:bh U}{x:bk U}{v1:V}{t:aN}{o:Nat}{v:bL U}{cs:List (bk U)}
theorem dn.refl{N:Nat}:dn N J N J:=⟨eI _,λ_ x _ h=>⟨x,h,λ_ h=>h⟩⟩
theorem dn.more{N N':Nat}(h:N<=N'):dn N J N' J:=⟨h,λ_ x _ h=>⟨x,h,λ_ h=>h⟩⟩
theorem dn.trans{a c e:Nat}{s1 j o:bh U}(h:dn a s1 c j)(k:dn c j e o):dn a s1 e o:=
 ⟨fg h.1 k.1,λb x f A=>let⟨y,h1,q⟩:=k.2 b x (mx f h.1) A;let⟨z,t,v⟩:=h.2 b y f h1;⟨z,t,λp w=>v p (q p w)⟩⟩
section
variable {N N':Nat}{J J':bh U}{J1:ba}{env:bX U}{env1:Env}{G:Nat->Bool}{gl:eB}{gd:Option (Nat×Bool)}
theorem cd.mono(k:dn N J N' J'){d:C}(h:cd N J x d):cd N' J' x d:=by
 cases h with
 |t c=>exact .t c
 |ptr b o=>exact .ptr b o
 |cH b t i o=>exact .cH b t i o
 |dJ t x o=>exact .dJ t x o
 |arr b sz n a h=>
  refine .arr b sz n (mx a k.1) λx e p q=>?_;obtain⟨y,h1,j⟩:=k.2 b x a e;grind
 |sub b v len=>exact .sub b v _
 |pre b sz n a h=>
  refine .pre b sz n (mx a k.1) λx e p q=>?_;obtain⟨y,h1,j⟩:=k.2 b x a e;grind
 |dK b sz v len a h=>
  refine .dK b sz v _ (mx a k.1) λx e p q=>?_;obtain⟨y,h1,j⟩:=k.2 b x a e;grind
 |mp b=>exact .mp b
 |ev b=>exact .ev b
 |cL b n a h=>
  refine .cL b n (mx a k.1) λx e p q=>?_;obtain⟨y,h1,j⟩:=k.2 b x a e;grind
 |aA=>exact .aA
 |fa=>exact .fa
 |e'=>exact .e'
 |fn f caps=>exact .fn f _
 |dead d=>exact .dead d
theorem cb.mono(k:dn N J N' J'){x:bL U}{d:V}(h:cb N J x d):cb N' J' x d:=by
 induction h with
 |c h=>exact .c (h.mono k)
 |agg h=>exact .agg (h.imp λ_ _ _=>cd.mono k)
 |a6 xs a ah h ih=>exact .a6 xs a ah ih
theorem hX.mono(k:dn N J N' J'){x:cO U}{d:bV}(h:hX N J x d):hX N' J' x d:=by
 cases h with
 |box h=>exact .box (h.imp λ_ _ _=>cd.mono k)
 |arr t l=>exact .arr t l
 |set ks=>exact .set ks
 |buf E s=>exact .buf E s
 |b' h=>exact .b' (h.mono k)
 |cA t l i o h=>exact .cA t l i o (h.mono k)
 |rows h a=>exact .rows h a
theorem c3.mono(k:dn N J N' J')(h:c3 N J G env env1):c3 N' J' G env env1:=λi v c=>let⟨v1,h1,a⟩:=h i v c;⟨v1,h1,a.mono k⟩
theorem cz.put(h:cz N J J1){b:Nat}{x:cO U}{y:bV}(p:b<N')(k:dn N J N' (cE J b x))(q:hX N' (cE J b x) x y):cz N' (cE J b x) (c9 J1 b y):=by
 intro c z a;rw[hR]at a;rw[c0];by_cases j:b=c
 . grind
 . rw[al j]at a⊢;obtain⟨h1,o,e,f⟩:=h c z a;exact⟨mx h1 k.1,o,e,f.mono k⟩
theorem lz{x:cO U}(h:N<=N':=by simp):dn N J N' (cE J N x):=by
 refine⟨h,λb d a c=>?_⟩;grind[hR]
theorem oL{b:Nat}{x a:cO U}(h:N<=N')(h0:a8 J b=some a)(e:∀p,x.db=some p->a.db=some p):dn N J N' (cE J b x):=by
 refine⟨h,λc g d f=>?_⟩;grind[hR]
theorem uG{b:Nat}:dn N J N (dl J b):=by
 refine⟨eI _,λc e a d=>?_⟩;grind[oQ]
theorem Nk{d:C}(h:Ft d=some x):cd N J x d:=by
 unfold Ft at h;split at h<;>cases h
 . exact cd.t _
 . exact cd.t _
 . exact cd.t (U:=U) _
 . exact .aA
 . exact .fa
 . exact .e'
 . exact .dead _
 . exact .fn _ _
theorem rX:∀{a:List C} {xs:List (bk U)},nM a=some xs->a' (cd N J) xs a
 |[],xs,h=>by simp[nM]at h;subst h;exact .nil
 |d::a,xs,h=>by
  simp[nM]at h;split at h
  . rename_i x c h1 b;cases h;exact .cons (Nk h1) (rX b)
  grind
theorem Mz{d:V}{x:bL U}(h:xQ d=some x):cb N J x d:=by
 cases d with
 |c d=>
  simp[xQ]at h;split at h
  . rename_i y a;cases h;exact .c (Nk a)
  grind
 |agg b=>
  simp[xQ]at h;split at h
  . rename_i y a;cases h;exact .agg (rX a)
  grind
 |a6 _=>grind[xQ]
def cB(env:bX U)(G:Nat->Bool):Option (Nat×Bool)->Bool
 |none=>true
 |some (t,b)=>G t&&(fi env t b).getD false
theorem gT.a8(aq:gT gl env G)(k:Nat):cB env G (a8 gl k)=G k:=by
 cases h:Shv.a8 gl k with
 |none=>exact(aq.free k h).symm
 |some g=>
  obtain⟨t,b⟩:=g;obtain⟨y,h1,a⟩:=aq.held k t b h;grind[cB]
theorem EF(aq:gT gl env G):∀{a:Nat} {gd:Option (Nat×Bool)} {g:Bool},lL gl env a gd=some g->g=cB env G gd
 |_,none,g,h=>by unfold lL at h;simp at h;subst h;rfl
 |0,some _,g,h=>by grind[lL]
 |a+1,some (t,b),g,h=>by
  simp[lL]at h;split at h
  . rename_i x y h1 c;cases h;rw[EF aq h1,aq.a8 t];grind[cB]
  grind
theorem adg:∀{a:Nat} {t:Nat} {b:Bool} {g:Bool},lL gl env a (some (t,b))=some g->∃y,fi env t b=some y
 |0,t,b,g,h=>by grind[lL]
 |a+1,t,b,g,h=>by
  grind[lL]
theorem cb.eb(h:cb N J (.c x) v1):∃d,v1= .c d/\cd N J x d:=by cases h<;>grind
theorem cb.mP{xs:List (bk U)}(h:cb N J (.agg xs) v1):∃a,v1= .agg a/\a' (cd N J) xs a:=by cases h<;>grind
theorem cb.xI{c:Cell U.D}(h:cb N J (.c (.t c)) v1):v1= .c (.t (c.enc U)):=by obtain⟨d,rfl,aa⟩:=h.eb;cases aa;rfl
theorem cb.jq{b:Bool}(h:cb N J (.c (.t ⟨.bool,b⟩)) v1):v1= .c (.t (.bool b)):=h.xI
theorem cb.fA{k:IntKind}{m:Int}(h:cb N J (.c (.t ⟨.int k,m⟩)) v1):v1= .c (.t (.int k m)):=h.xI
theorem cb.kB{s:aj}(h:cb N J (.c (.t ⟨.str,s⟩)) v1):v1= .c (.t (.str s)):=h.xI
theorem cb.kz{l:List (t.den U.D)}(h:cb N J (.c (.t ⟨.slice t,l⟩)) v1):v1= .c (.t (.slice (l.map (t.enc U)))):=h.xI
theorem cb.hS{b:Nat}(h:cb N J (.c (.ptr b o)) v1):v1= .c (.ptr b o):=by obtain⟨d,rfl,aa⟩:=h.eb;cases aa;rfl
theorem cb.i'{b i:Nat}(h:cb N J (.c (.cH b t i o)) v1):v1= .c (.cH b (t.sz U) i o):=by obtain⟨d,rfl,aa⟩:=h.eb;cases aa;rfl
theorem cb.Gc{x:t.den U.D}(h:cb N J (.c (.dJ t x o)) v1):v1= .c (.dJ (t.enc U x) o):=by obtain⟨d,rfl,aa⟩:=h.eb;cases aa;rfl
theorem cb.vn(h:cb N J (.c .aA) v1):v1= .c .aA:=by obtain⟨d,rfl,aa⟩:=h.eb;cases aa;rfl
theorem cb.hl{b:Nat}(h:cb N J (.c (.arr b)) v1):∃sz n,v1= .c (.arr b sz 0 n)/\b<N/\∀x,Shv.a8 J b=some x->∀p,x.db=some p->p=(sz,n):=by
 obtain⟨d,rfl,aa⟩:=h.eb;cases aa<;>grind
theorem cb.Gl{b:Nat}(h:cb N J (.c (.mp b)) v1):v1= .c (.mp b):=by obtain⟨d,rfl,aa⟩:=h.eb;cases aa;rfl
theorem cb.U7{b:Nat}(h:cb N J (.c (.ev b)) v1):v1= .c (.ev b):=by obtain⟨d,rfl,aa⟩:=h.eb;cases aa;rfl
theorem cb.B2{b:Nat}(h:cb N J (.c (.cL b)) v1):∃n,v1= .c (.cL b n)/\b<N/\∀x,Shv.a8 J b=some x->∀p,x.db=some p->p=(1,n):=by
 obtain⟨d,rfl,aa⟩:=h.eb;cases aa<;>grind
theorem cb.F'{f:Nat}{caps:a7}(h:cb N J (.c (.fn f caps)) v1):v1= .c (.fn f caps):=by
 obtain⟨d,rfl,aa⟩:=h.eb;cases aa;rfl
theorem adh{t:Nat}{b y:Bool}(he:c3 N J G env env1)(h:fi env t b=some y):∃x,look env1 t=some (G t,.c (.t (.bool x)))/\y=(x==b):=by
 unfold fi at h;split at h
 . rename_i x d;cases h;obtain⟨v1,h1,a⟩:=he t _ d;have:=a.jq;grind
 grind
theorem D7(he:c3 N J G env env1)(h:gd=none\/∃t b y,gd=some (t,b)/\fi env t b=some y):gb env1 gd=some (cB env G gd):=by
 grind[adh,gb,cB]
theorem EG(aq:gT gl env G):∀{c:Nat} {gd:Option (Nat×Bool)} {k:Nat},cB env G gd=true->xF gl c gd k=true->G k=true
 |0,gd,k,_,h=>by grind[xF]
 |c+1,gd,k,i,h=>by
  simp[xF]at h;split at h
  . rename_i a;exact aq.free k a
  . rename_i d a;split at h
    . grind
    . rename_i g;obtain⟨t,b⟩:=g;obtain⟨j,f⟩:=d;simp only[nB,c7,jC]at h;rcases h with⟨h1,e⟩|h
      . have:=cY h1;subst this;subst e;obtain⟨y,k1,k2⟩:=aq.held k t b a;grind[cB]
      . refine EG aq ?_ h;rw[aq.a8 t];grind[cB]
theorem cl(he:c3 N J G env env1)(aq:gT gl env G){x:aU}(h:c' gl gd env x=some v):
 ∃p v1,x.get env1=some (p,v1)/\cb N J v v1/\(cB env G gd=true->p):=by
 cases x with
 |const d=>exact⟨True,d,rfl,Mz h,λ_=>trivial⟩
 |tmp k=>
  simp[c']at h;split at h
  . rename_i hs;obtain⟨v1,h1,a⟩:=he k v h;exact⟨_,v1,by grind[aU.get],a,λb=>EG aq b hs⟩
  grind
theorem ND(he:c3 N J G env env1)(aq:gT gl env G){c x:aU}{b y:Bool}{i:bL U}(g:c' gl gd env c=some i)(n:i= .c (.t ⟨.bool,y⟩))(h:Fv gl gd env c b x=some v):
 ∃p v1,x.get env1=some (p,v1)/\cb N J v v1/\(cB env G gd=true->y=b->p):=by
 cases x with
 |const d=>exact⟨True,d,rfl,Mz h,λ_ _=>trivial⟩
 |tmp k=>
  simp[Fv]at h;split at h
  . rename_i hs;obtain⟨v1,h1,a⟩:=he k v h;exact⟨_,v1,by grind[aU.get],a,λe _=>EG aq e hs⟩
  . split at h
    . rename_i q t j l;split at h
      . rename_i f;simp only[c7,jC]at f;obtain⟨h1,rfl⟩:=f;have:=cY h1;obtain⟨v1,h1,a⟩:=he k v h;refine⟨G k=true,v1,by grind[aU.get],a,λe o=>?_⟩;simp[c']at g;split at g
        . rename_i hs;have m:=EG aq e hs;obtain⟨r,k1,k2⟩:=aq.held k t j l;grind[fi]
        grind
      grind
    grind
theorem ux(he:c3 N J G env env1)(aq:gT gl env G):∀{xs:List aU} {vs:List (bL U)},lU gl gd env xs=some vs->
 ∃p a,hP env1 xs=some (p,a)/\a' (cb N J) vs a/\(cB env G gd=true->p)
 |[],vs,h=>by simp[lU]at h;subst h;exact⟨True,[],rfl,.nil,λ_=>trivial⟩
 |x::xs,vs,h=>by
  simp[lU]at h;split at h
  . rename_i v d h1 c;cases h;obtain⟨p,v1,a1,a2,a3⟩:=cl he aq h1;obtain⟨q,a,b1,b2,b3⟩:=ux he aq c;exact⟨p/\q,v1::a,by grind[hP],.cons a2 b2,λb=>⟨a3 b,b3 b⟩⟩
  grind
theorem pX(h:cb N J v v1)(a:qv v=some cs):∃b,qs v1=some b/\a' (cd N J) cs b:=by
 cases h with
 |c h=>simp[qv]at a;subst a;exact⟨_,rfl,.cons h .nil⟩
 |agg h=>simp[qv]at a;subst a;exact⟨_,rfl,h⟩
 |a6=>grind[qv]
theorem Ig{a:List (bk U)}{b c:List C}(h:a' (cd N J) cs b)(d:a' (cd N J) a c):a' (cd N J) (xP cs o a) (vA b o c):=by
 unfold xP vA;rw[d.length];exact((h.take o).append d).append (h.drop _)
theorem jV{a b:Nat}(h:Nat.ble a b=true):a<=b:=Gy h
theorem Ms(he:c3 N J G env env1)(aq:gT gl env G):∀{ps:List (Nat×Nat×aU)} {cs c:List (bk U)} {b:List C},AK gl gd env cs ps=some c->a' (cd N J) cs b->
 ∃p d,lF env1 b ps=some (p,d)/\a' (cd N J) c d/\(cB env G gd=true->p)
 |[],cs,c,b,h,a=>by simp[AK]at h;subst h;exact⟨True,b,rfl,a,λ_=>trivial⟩
 |(o,n,x)::r,cs,c,b,h,a=>by
  simp[AK]at h;split at h
  . grind
  . rename_i v k;split at h
    . grind
    . rename_i es j;split at h
      . rename_i e;simp only[c7]at e;have l:=cY e.1;have m:=jV e.2;obtain⟨p,v1,a1,a2,a3⟩:=cl he aq k;obtain⟨fs,b1,b2⟩:=pX a2 j;obtain⟨q,d,f,g,i⟩:=Ms he aq h (Ig a b2);refine⟨p/\q,d,?_,g,λa=>⟨a3 a,i a⟩⟩;simp only[lF,a1,ak,b1];rw[ae ⟨by rw[<-b2.length];grind,by rw[<-a.length];grind⟩,f];rfl
      grind
theorem acR{d:C}{t:T}(h:cd N J x d)(ht:x.toT=some t):Shv.toT d=some t:=by
 cases h<;>simp[bk.toT]at ht
 . split at ht
   . grind
   . cases ht;rfl
 . subst ht;rfl
theorem zP:∀{cs:List (bk U)} {a:List C} {ts:List T},a' (cd N J) cs a->hV cs=some ts->toTs a=some ts
 |[],[],ts,_,h=>by simp[hV]at h;subst h;rfl
 |c::cs,d::a,ts,.cons h1 b,h=>by
  simp[hV]at h;split at h
  . rename_i t f ht e;cases h;simp[toTs,acR h1 ht,zP b e]
  grind
theorem IA:∀{cs:List (bk U)} {ts:List T},hV cs=some ts->ts.length=cs.length
 |[],ts,h=>by grind[hV]
 |c::cs,ts,h=>by
  simp[hV]at h;split at h
  . rename_i t b ht a;cases h;simp[IA a]
  grind
theorem a'.set{α c:Type}{R:α->c->Prop}{l:List α}{m:List c}(h:a' R l m){i:Nat}{a:α}{b:c}(f:R a b):a' R (l.set i a) (m.set i b):=by
 induction h generalizing i with
 |nil=>exact .nil
 |cons h1 e ih=>cases i with
  |zero=>exact .cons f e
  |succ i=>exact .cons h1 ih
theorem IP(he:c3 N J G env env1)(aq:gT gl env G){sz:Nat}:∀{ps:List (Nat×aU)} {a b:List (List (bk U))} {es:List (List T)},w3 gl gd env sz a ps=some b->
 a' (λr e=>hV r=some e) a es->(∀r,r∈a->r.length=sz)->∃p c,jY env1 sz es ps=some (p,c)/\a' (λr e=>hV r=some e) b c/\(∀r,r∈b->r.length=sz)/\(cB env G gd=true->p)
 |[],a,b,es,h,d,ah=>by simp[w3]at h;subst h;exact⟨True,es,rfl,d,ah,λ_=>trivial⟩
 |(i,x)::ps,a,b,es,h,d,ah=>by
  simp[w3]at h;split at h
  . grind
  . rename_i v s;split at h
    . grind
    . rename_i cs o;split at h
      . grind
      . rename_i ts j;split at h
        . rename_i f;simp only[c7]at f;have u:=cY f.1;have w:=jV f.2;obtain⟨p,v1,a1,a2,a3⟩:=cl he aq s;obtain⟨t,b1,b2⟩:=pX a2 o;obtain⟨q,c,k,l,n,m⟩:=IP he aq h (a'.set d j) (by grind);refine⟨p/\q,c,?_,l,n,λg=>⟨a3 g,m g⟩⟩;simp only[jY,a1,ak,b1,zP b2 j];rw[ae ⟨by grind[IA],by rw[<-d.length];omega⟩,k];rfl
        grind
end
end
section
open Go
variable {U:cJ}
structure dR (N:Nat)(J:bh U)(J1:ba)(o:cN)(env1:Env)(g c:Bool)(v:bL U)(J':bh U):Prop where
 val:∃v1,cb (N+16) J' v v1/\(g=true->c=true->∃p br,aT o env1 J1 N=some (p,v1,br)/\p/\cz (N+16) J' br)
 aj1:dn N J (N+16) J'
 aiM:o.neutral=true->J'=J
variable{o:cN}{v1:V}{cs:List (bk U)}{agg neg:Bool}{α:Type}{t:aN}{ts:List T}{op:BinOp}{J1:ba}{x y:aU}{off:Nat}{es:List (List T)}{e:fW U}{R:α->α->Prop}
section
variable {N N':Nat}{J J':bh U}{J1:ba}{env:bX U}{env1:Env}{G:Nat->Bool}{gl:eB}{gd:Option (Nat×Bool)}{c:Bool}{v:bL U}
theorem cz.mono(h:cz N J J1)(cq:N<=N'):cz N' J J1:=λb x e=>
 let⟨h1,y,a,c⟩:=h b x e;⟨mx h1 cq,y,a,c.mono (dn.more cq)⟩
theorem dR.neutral{g:Bool}(aI:cz N J J1)(j:cb N J v v1)(e:g=true->c=true->∃p,aT o env1 J1 N=some (p,v1,J1)/\p):dR N J J1 o env1 g c v J:=
 ⟨⟨v1,j.mono (dn.more (by simp)),λaq f=>let⟨p,h1,a⟩:=e aq f;⟨p,J1,h1,a,aI.mono (by simp)⟩⟩,dn.more (by simp),λ_=>rfl⟩
theorem dR.store{g:Bool}(aJ:o.neutral=false)(e:dn N J (N+16) J')(f:cb (N+16) J' v v1)(a:g=true->c=true->∃p br,aT o env1 J1 N=some (p,v1,br)/\p/\cz (N+16) J' br):dR N J J1 o env1 g c v J':=
 ⟨⟨v1,f,a⟩,e,λh=>by grind⟩
theorem v8{k o:Nat}{b:List C}(a:a' (cd N J) cs b)(h:rR agg k cs o=some v):∃v1,j3 agg k b o=some v1/\cb N J v v1:=by
 unfold rR at h;split at h
 . split at h
   . cases h;refine⟨_,by simp only[j3,bM];rw[ae (by rw[<-a.length];simp_all)],.agg ((a.drop o).take k)⟩
   grind
 . split at h
   . rename_i x f;cases h;obtain⟨d,h1,e⟩:=a.get f;exact⟨_,by grind[j3],.c e⟩
   grind
theorem a'.map_map{c e j:Type}{R:e->j->Prop}{f:α->e}{g:c->j}:∀{l:List α} {m:List c},a' (λa b=>R (f a) (g b)) l m->a' R (l.map f) (m.map g)
 |[],[],_=>.nil
 |_::_,_::_,.cons h1 o=>.cons h1 (a'.map_map o)
theorem a'.self(h:∀a,R a a):∀(l:List α),a' R l l
 |[]=>.nil
 |a::l=>.cons (h a) (a'.self h l)
theorem zQ{x:t.den U.D}:a' (cd N J) ((t.row U x).map .t) ((t.enc U x).map .t):=by
 rw[aN.vw,List.map_map];exact a'.map_map (a'.self (λc=>cd.t c) _)
theorem JL{k o:Nat}{v:V}(ah:j3 agg k (ts.map .t) o=some v):loadT agg k ts o=some v:=by
 unfold j3 at ah;unfold loadT;cases agg<;>simp_all
theorem aaw{p q:Cell U.D}{r:Cell U.D}(h:IG op p q=some (c,r)):∃d,qR op (p.enc U) (q.enc U)=some (d,r.enc U)/\(c=true->d):=by
 unfold IG at h;split at h
 . rename_i k a e b;show ∃d,qR op (.int k a) (.int e b)=some (d,r.enc U)/\(c=true->d);cases op<;>simp only[Vf,reduceCtorEq,eF]at h
   all_goals first
    |(obtain⟨rfl,rfl,rfl⟩:=h;exact⟨_,by simp only[qR];rfl,λh=>by simpa using h⟩)
    |(obtain⟨rfl,rfl⟩:=h)
    |(obtain⟨rfl,rfl,rfl⟩:=h)
 . rename_i a b;cases op<;>simp only[Vg,dY]at h
   all_goals first
    |(obtain⟨rfl,rfl⟩:=h;exact⟨_,by rfl,λh=>by simpa using h⟩)
    |(obtain⟨rfl,rfl⟩:=h)
 . cases h
theorem aax{k:Nat}{x y:Cell U.D}{b:Bool}(h:IK k x y=some b):Cu k (x.enc U) (y.enc U)=some b:=by
 unfold IK at h;split at h
 . cases h;rfl
 . simp at h;obtain⟨rfl,rfl⟩:=h;show(if _ then _ else _)=_;rw[ae rfl];rfl
 . cases h;rfl
 grind
theorem LV:∀{ks:a7} {xs c:List (bk U)} {a es:List C} {b:Bool},BJ ks xs c=some b->a' (cd N J) xs a->a' (cd N J) c es->ml ks a es=some b
 |[],[],[],[],[],b,h,.nil,.nil=>by simp[BJ]at h;subst h;rfl
 |k::ks,.t x::xs,.t y::c,d::a,e::es,b,h,.cons h1 f,.cons g i=>by
  simp[BJ]at h;split at h
  . rename_i b1 r j l;cases h;cases h1;cases g;simp[ml,aax j,LV l f i]
  grind
theorem aa0{a b:aj}:(B4 a b).length=a.length+b.length:=cc
theorem aec{a b:Int}:hL a b=true↔a=b:=by simp[hL]
theorem rM{m:Int}{n:Nat}:ay m n=true↔0<=m/\m.toNat<n:=by simp[ay]
theorem iF{b a:Int}{n:Nat}:d' b a n=true↔0<=b/\b<=a/\a<=n:=by simp[d']
theorem ae0{s:List (t.den U.D)}{l r:Option Int}{a pl b:Prop}{sz:Nat}:
 (some (a/\pl/\b/\0<=l.getD 0/\l.getD 0<=r.getD ((List.map (t.enc U) s).length:Int)/\r.getD ((List.map (t.enc U) s).length:Int)<=((List.map (t.enc U) s).length:Int)/\∀e,e∈List.map (t.enc U) s->e.length=sz,
  V.c (C.t (T.slice (((List.map (t.enc U) s).take (r.getD ((List.map (t.enc U) s).length:Int)).toNat).drop (l.getD 0).toNat))),J1):BO)=
 some (a/\pl/\b/\0<=l.getD 0/\l.getD 0<=r.getD (s.length:Int)/\r.getD (s.length:Int)<=(s.length:Int)/\∀e,e∈List.map (t.enc U) s->e.length=sz,
  V.c (C.t (Cell.enc U ⟨.slice t,et s (l.getD 0) (r.getD (s.length:Int))⟩)),J1):=by
 have:Cell.enc U ⟨.slice t,et s (l.getD 0) (r.getD s.length)⟩=T.slice (List.map (t.enc U) _):=rfl;grind[et,List.map_drop,List.map_take]
variable{a:Type}{f:α->a}
theorem ae1{l:List α}{p:Prop}:(some (p,V.c (C.t (T.int .i64 ((l.map f).length:Int))),J1):BO)=some (p,V.c (C.t (.int .i64 (l.length:Int))),J1):=by simp
theorem w4{l:List α}{i:Nat}(h:i<l.length):i<(l.map f).length:=by grind
theorem a'.replicate{c:Type}{R:α->c->Prop}{a:α}{b:c}(h:R a b):∀n:Nat,a' R (List.replicate n a) (List.replicate n b)
 |0=>.nil
 |n+1=>.cons h (a'.replicate h n)
theorem HH:∀{xs:List (bk U)} {dj:List aN} {es:List C} {row:List (Cell U.D)},iD dj xs=some row->a' (cd N J) xs es->toTs es=some (row.map (Cell.enc U))
 |[],dj,es,row,h1,a=>by
  cases a;cases dj<;>simp[iD]at h1;subst h1;rfl
 |y::e,[],es,row,h1,a=>by grind[iD]
 |y::e,ty::dj,_::_,row,h1,.cons a d=>by
  cases a with
  |t c=>cases ty<;>simp only[iD]at h1<;>(split at h1<;>first|(cases h1;done)|(rename_i q b;cases h1;simp[toTs,toT,HH b d]))
  |aA=>
   cases ty<;>simp[iD]at h1;split at h1
   . rename_i q b;cases h1;simp[toTs,HH b d];rfl
   grind
  |_=>grind[iD]
theorem L9{sz:Nat}:∀{ps:List (Nat×aU)} {es c:List (List T)} {p:Prop},jY env1 sz es ps=some (p,c)->c.length=es.length
 |[],es,c,p,h=>by grind[jY]
 |(i,x)::ps,es,c,p,h=>by
  simp only[jY,bo,eF,bB]at h;obtain⟨a,_,cs,_,ts,_,_,b,d,_,rfl⟩:=h;have:=L9 d;grind
theorem IB{l m:List (t.den U.D)}{i o:Nat}{e:List C}(h:sy U t l i o cs=some m)(s:i<l.length)(j:a' (cd N J) cs e)(z:o+cs.length<=t.sz U):
 ∃ts,toTs e=some ts/\m.map (t.enc U)=(l.map (t.enc U)).set i ((el (l.map (t.enc U)) i).take o++ts++(el (l.map (t.enc U)) i).drop (o+cs.length)):=by
 unfold sy at h;split at h
 . rename_i x d;cases h;unfold qM at d;split at d
   . rename_i row v;have u:=aN.Gk d;have key:=@HH U N J;have w:a' (cd N J) ((t.row U (t.at U l i)).map .t) _:=zQ;have n:=Ig (o:=o) w j;have h1:=key v n;have g:∀{a b:List C} {r:List T},toTs (a++b)=some r->∃p q,toTs a=some p/\toTs b=some q/\r=p++q:=by
      intro a;induction a with
      |nil=>intro b r h;exact⟨[],r,rfl,h,rfl⟩
      |cons c a ih=>
       intro b r h;simp[toTs,bo,bB]at h;grind[toTs]
     have k:∀(ts:List T),toTs (ts.map .t)=some ts:=by
      intro ts;induction ts with
      |nil=>rfl
      |cons a ts ih=>grind[toTs,toT]
     obtain⟨p,q,aM,f,c2⟩:=g h1;obtain⟨A,y,f1,f2,f3⟩:=g aM;rw[<-List.map_take,k]at f1;cases f1;rw[<-List.map_drop,k]at f;cases f;refine⟨y,f2,?_⟩;rw[List.map_set,AJ s,aN.vw,u,c2,f3,j.length]
   grind
 grind
variable (he:c3 N J G env env1)(aq:gT gl env G)(aI:cz N J J1)
section
include he aq aI
theorem ajK(h:cn gl gd env J N (.mov x)=some (c,v,J')):dR N J J1 (.mov x) env1 (cB env G gd) c v J':=by
 simp[cn]at h;split at h
 . rename_i w b;cases h;obtain⟨p,v1,a1,a2,a3⟩:=cl he aq b;exact .neutral aI a2 λa _=>⟨p,by grind[aT],a3 a⟩
 grind
theorem ae2{z:aU}(h:cn gl gd env J N (.pick x y z)=some (c,v,J')):dR N J J1 (.pick x y z) env1 (cB env G gd) c v J':=by
 simp[cn]at h;split at h
 . rename_i b p q h1 g i;cases h;obtain⟨j,v1,a1,a2,a3⟩:=cl he aq h1;obtain⟨k,m,b1,b2,b3⟩:=ND he aq h1 rfl g;obtain⟨l,v3,d,e,f⟩:=ND he aq h1 rfl i;have:=a2.jq;subst this;have:=b2.jq;subst this;have:=e.jq;subst this;refine .neutral aI (.c (.t _)) λa _=>⟨j/\(b=true->k)/\(b=false->l),by simp only[aT,a1,b1,d];rfl,a3 a,b3 a,f a⟩
 grind
theorem aay(h:cn gl gd env J N (.nilCheck x)=some (c,v,J')):dR N J J1 (.nilCheck x) env1 (cB env G gd) c v J':=by
 simp[cn]at h;split at h
 . rename_i b o d;cases h;obtain⟨p,v1,a1,a2,a3⟩:=cl he aq d;have:=a2.hS;subst this;exact .neutral aI a2 λa _=>⟨p,by simp[aT,a1],a3 a⟩
 . rename_i b t i o d;cases h;obtain⟨p,v1,a1,a2,a3⟩:=cl he aq d;have:=a2.i';subst this;exact .neutral aI a2 λa _=>⟨p,by simp[aT,a1],a3 a⟩
 . rename_i t e o d;cases h;obtain⟨p,v1,a1,a2,a3⟩:=cl he aq d;have:=a2.Gc;subst this;exact .neutral aI a2 λa _=>⟨p,by simp[aT,a1],a3 a⟩
 grind
theorem ajL(h:cn gl gd env J N (.not x)=some (c,v,J')):dR N J J1 (.not x) env1 (cB env G gd) c v J':=by
 simp[cn]at h;split at h
 . rename_i b d;cases h;obtain⟨p,v1,a1,a2,a3⟩:=cl he aq d;have:=a2.jq;subst this;exact .neutral aI (.c (.t _)) λa _=>⟨p,by simp[aT,a1];rfl,a3 a⟩
 grind
theorem ae3{k:IntKind}(h:cn gl gd env J N (.conv k x)=some (c,v,J')):dR N J J1 (.conv k x) env1 (cB env G gd) c v J':=by
 simp only[cn]at h;split at h
 . rename_i d m b;cases h;obtain⟨p,v1,a1,a2,a3⟩:=cl he aq b;have:=a2.fA;subst this;exact .neutral aI (.c (.t _)) λa _=>⟨p,by simp[aT,a1];rfl,a3 a⟩
 grind
theorem ajI(h:cn gl gd env J N (.i2s x)=some (c,v,J')):dR N J J1 (.i2s x) env1 (cB env G gd) c v J':=by
 simp[cn]at h;split at h
 . rename_i d m b;cases h;obtain⟨p,v1,a1,a2,a3⟩:=cl he aq b;have:=a2.fA;subst this;exact .neutral aI (.c (.t _)) λa _=>⟨p,by simp[aT,a1];rfl,a3 a⟩
 grind
theorem ajM(h:cn gl gd env J N (.s2s x)=some (c,v,J')):dR N J J1 (.s2s x) env1 (cB env G gd) c v J':=by
 simp[cn]at h;split at h
 . rename_i s b;cases h;obtain⟨p,v1,a1,a2,a3⟩:=cl he aq b;have:=a2.kB;subst this;exact .neutral aI a2 λa _=>⟨p,by simp[aT,a1],a3 a⟩
 grind
theorem ae4(h:cn gl gd env J N (.fldA off x)=some (c,v,J')):dR N J J1 (.fldA off x) env1 (cB env G gd) c v J':=by
 simp[cn]at h;split at h
 . rename_i b o d;cases h;obtain⟨p,v1,a1,a2,a3⟩:=cl he aq d;have:=a2.hS;subst this;exact .neutral aI (.c (.ptr _ _)) λa _=>⟨p,by simp[aT,a1],a3 a⟩
 . rename_i b t i o d;cases h;obtain⟨p,v1,a1,a2,a3⟩:=cl he aq d;have:=a2.i';subst this;exact .neutral aI (.c (.cH _ _ _ _)) λa _=>⟨p,by simp[aT,a1],a3 a⟩
 . rename_i t e o d;cases h;obtain⟨p,v1,a1,a2,a3⟩:=cl he aq d;have:=a2.Gc;subst this;exact .neutral aI (.c (.dJ _ _ _)) λa _=>⟨p,by simp[aT,a1],a3 a⟩
 grind
theorem ajH{k:Nat}(h:cn gl gd env J N (.fld agg off k x)=some (c,v,J')):dR N J J1 (.fld agg off k x) env1 (cB env G gd) c v J':=by
 simp[cn]at h;split at h
 . rename_i cs d;split at h
   . rename_i w ah;cases h;obtain⟨p,v1,a1,a2,a3⟩:=cl he aq d;obtain⟨f,rfl,b2⟩:=a2.mP;obtain⟨g,e,a⟩:=v8 b2 ah;exact .neutral aI a λb _=>⟨p,by grind[aT],a3 b⟩
   grind
 grind
theorem ae5{k:Nat}(h:cn gl gd env J N (.load agg k x)=some (c,v,J')):dR N J J1 (.load agg k x) env1 (cB env G gd) c v J':=by
 simp only[cn]at h;split at h
 . rename_i b o j;split at h
   . rename_i cs g;split at h
     . rename_i w ah;cases h;obtain⟨p,v1,a1,a2,a3⟩:=cl he aq j;have:=a2.hS;subst this;obtain⟨_,y,b1,b2⟩:=aI b _ g;cases b2 with
       |box b2=>
        obtain⟨s,d,m⟩:=v8 b2 ah;exact .neutral aI m λa _=>⟨p,by simp[aT,a1,b1,d],a3 a⟩
     . cases h
   . rename_i E z g;split at h
     . cases h;obtain⟨p,v1,a1,a2,a3⟩:=cl he aq j;have:=a2.hS;subst this;obtain⟨_,y,b1,b2⟩:=aI b _ g;cases b2 with
       |b' b2=>exact .neutral aI (.c b2) λa _=>⟨p,by simp[aT,a1,b1],a3 a⟩
     . cases h
   . cases h
 . rename_i b t i o j;split at h
   . rename_i u B g;split at h
     . rename_i l ah;have e:=Cell.kf ah;split at h
       . rename_i w q;cases h;obtain⟨p,v1,a1,a2,a3⟩:=cl he aq j;have:=a2.i';subst this;obtain⟨_,y,b1,b2⟩:=aI b _ g;cases b2 with
         |arr=>
          obtain⟨s,d,m⟩:=v8 zQ q;refine .neutral aI m λa f=>⟨p/\t.sz U=t.sz U/\i<(List.map (t.enc U) l).length,?_,a3 a,rfl,w4 (gP f)⟩
          simp only[e4]at f;grind[JL,aT,AJ]
       . cases h
     . cases h
   . rename_i u B A C z g;split at h
     . cases h
     . split at h
       . rename_i n;split at h
         . rename_i r;cases h;have n:=cY n;have r:=cY r;subst n;obtain⟨p,v1,a1,a2,a3⟩:=cl he aq j;have:=a2.i';subst this;obtain⟨_,y,b1,b2⟩:=aI b _ g;cases b2 with
           |cA _ _ _ _ b2=>
            refine .neutral aI (.c b2) λa f=>⟨p/\t.sz U=u.sz U/\i=A,?_,a3 a,r,gP f⟩
            simp only[aT,a1,ak,b1];simp
         . cases h
       . rename_i n;have n:=iC n;split at h
         . rename_i l ah;have e:=Cell.kf ah;cases e;split at h
           . rename_i w q;cases h;obtain⟨p,v1,a1,a2,a3⟩:=cl he aq j;have:=a2.i';subst this;obtain⟨_,y,b1,b2⟩:=aI b _ g;cases b2 with
             |cA _ _ _ _ b2=>
              obtain⟨s,d,m⟩:=v8 zQ q;refine .neutral aI m λa f=>⟨p/\t.sz U=t.sz U/\i<(List.map (t.enc U) l).length,?_,a3 a,rfl,w4 (gP f)⟩
              simp only[e4]at f;have d:=JL d;simp only[aT,a1,ak,b1];rw[bz,al n,AJ f,d];rfl
           . cases h
         . cases h
   . cases h
 . rename_i t D o j;split at h
   . rename_i w ah;cases h;obtain⟨p,v1,a1,a2,a3⟩:=cl he aq j;have:=a2.Gc;subst this;obtain⟨s,d,m⟩:=v8 zQ ah;have d:=JL d;exact .neutral aI m λa _=>⟨p,by simp[aT,a1,d],a3 a⟩
   . cases h
 grind
theorem ajE(h:cn gl gd env J N (.bin op x y)=some (c,v,J')):dR N J J1 (.bin op x y) env1 (cB env G gd) c v J':=by
 simp[cn]at h;split at h
 . rename_i p q d e;split at h
   . rename_i k r f;cases h;obtain⟨g,v1,a1,a2,a3⟩:=cl he aq d;obtain⟨i,l,b1,b2,b3⟩:=cl he aq e;have:=a2.xI;have:=b2.xI;obtain⟨j,d1,d2⟩:=aaw f;exact .neutral aI (.c (.t _)) λa b=>⟨g/\i/\j,by grind[aT],a3 a,b3 a,d2 b⟩
   grind
 grind
theorem aed{ks:a7}(h:cn gl gd env J N (.eqAgg neg ks x y)=some (c,v,J')):dR N J J1 (.eqAgg neg ks x y) env1 (cB env G gd) c v J':=by
 simp[cn]at h;split at h
 . rename_i p q d e;split at h
   . rename_i r f;cases h;obtain⟨g,v1,a1,a2,a3⟩:=cl he aq d;obtain⟨i,l,b1,b2,b3⟩:=cl he aq e;obtain⟨j,rfl,d2⟩:=a2.mP;obtain⟨es,rfl,b⟩:=b2.mP;have:=LV f d2 b;exact .neutral aI (.c (.t _)) λa k=>⟨g/\i,by simp[aT,a1,b1,this];cases neg<;>rfl,a3 a,b3 a⟩
   . cases h
 . cases h
theorem adi(h:cn gl gd env J N (.eqBool neg x y)=some (c,v,J')):dR N J J1 (.eqBool neg x y) env1 (cB env G gd) c v J':=by
 simp[cn]at h;split at h
 . rename_i p q b d;cases h;obtain⟨e,v1,a1,a2,a3⟩:=cl he aq b;obtain⟨f,i,b1,b2,b3⟩:=cl he aq d;have:=a2.jq;subst this;have:=b2.jq;subst this;exact .neutral aI (.c (.t _)) λa g=>⟨e/\f,by simp only[aT,a1,b1];cases neg<;>rfl,a3 a,b3 a⟩
 grind
theorem ae6{sz:Nat}(h:cn gl gd env J N (.idxA sz x y)=some (c,v,J')):dR N J J1 (.idxA sz x y) env1 (cB env G gd) c v J':=by
 simp[cn]at h;split at h
 . rename_i t l k m g i;split at h
   . rename_i d;have d:=cY d;cases h;obtain⟨j,v1,a1,a2,a3⟩:=cl he aq g;obtain⟨o,r,b1,b2,b3⟩:=cl he aq i;have:=a2.kz;subst this;have:=b2.fA;subst this;by_cases p:ay m (List.length l)=true
     . obtain⟨h1,f⟩:=rM.1 p;refine .neutral aI (v1:= .c (.dJ (el (List.map (t.enc U) l) (Int.toNat m)) 0)) ?_ λa e=>⟨j/\o/\(0:Int)<=m/\Int.toNat m<(List.map (t.enc U) l).length/\(el (List.map (t.enc U) l) (Int.toNat m)).length=sz,by simp only[aT,a1,b1,ak],a3 a,b3 a,h1,w4 f,by rw[AJ f,aN.sV];exact d⟩
       rw[AJ f];exact .c (.dJ _ _ _)
     . exact .neutral aI (.c (.dJ _ _ _)) λa e=>absurd e p
   . cases h
 . rename_i b k m g i;split at h
   . rename_i t l q;split at h
     . rename_i d;have d:=cY d;cases h;obtain⟨j,v1,a1,a2,a3⟩:=cl he aq g;obtain⟨o,r,b1,b2,b3⟩:=cl he aq i;obtain⟨u,n,rfl,s,a⟩:=a2.hl;have:=b2.fA;subst this;have:=a _ q _ rfl;cases this;refine .neutral aI (.c (.cH _ _ _ _)) λa e=>⟨j/\o/\(0:Int)<=m/\Int.toNat m<l.length/\sz=t.sz U,?_,a3 a,b3 a,(rM.1 e).1,(rM.1 e).2,d.symm⟩
       simp only[aT,a1,b1,ak,gC,d]
     . cases h
   . cases h
 grind
theorem ae7(h:cn gl gd env J N (.idxS x y)=some (c,v,J')):dR N J J1 (.idxS x y) env1 (cB env G gd) c v J':=by
 simp[cn]at h;split at h
 . rename_i s k m d e;cases h;obtain⟨f,v1,a1,a2,a3⟩:=cl he aq d;obtain⟨g,i,b1,b2,b3⟩:=cl he aq e;have:=a2.kB;subst this;have:=b2.fA;subst this;exact .neutral aI (.c (.t _)) λb a=>⟨f/\g/\(0:Int)<=m/\Int.toNat m<List.length s,by simp only[aT,a1,b1];rfl,a3 b,b3 b,(rM.1 a).1,(rM.1 a).2⟩
 grind
theorem pY{x:Option aU}{l:Option Int}(h:ow gl gd env x=some l):∃p,j2 env1 x=some (p,l)/\(cB env G gd=true->p):=by
 unfold ow at h;split at h
 . cases h;exact⟨True,rfl,λ_=>trivial⟩
 . split at h
   . rename_i k n a;cases h;obtain⟨b,v1,a1,a2,a3⟩:=cl he aq a;have:=a2.fA;subst this;exact⟨b,by simp[j2,a1],a3⟩
   grind
theorem ae8{d b:Option aU}(h:cn gl gd env J N (.slcS x d b)=some (c,v,J')):dR N J J1 (.slcS x d b) env1 (cB env G gd) c v J':=by
 simp[cn]at h;split at h
 . rename_i s l r f ah g;cases h;obtain⟨j,v1,a1,a2,a3⟩:=cl he aq f;obtain⟨pl,i,l2⟩:=pY he aq aI ah;obtain⟨k,m,n⟩:=pY he aq aI g;have:=a2.kB;subst this;exact .neutral aI (.c (.t _)) λa e=>⟨j/\pl/\k/\0<=l.getD 0/\l.getD 0<=r.getD _/\r.getD _<=List.length s,by simp[aT,a1,i,m];rfl,a3 a,l2 a,n a,iF.1 e⟩
 grind
theorem ajN{sz:Nat}{j C:Option aU}(h:cn gl gd env J N (.slc sz x j C)=some (c,v,J')):dR N J J1 (.slc sz x j C) env1 (cB env G gd) c v J':=by
 simp only[cn]at h;split at h
 . rename_i t s l r g ah k;split at h
   . rename_i d;have d:=cY d;cases h;obtain⟨m,v1,a1,a2,a3⟩:=cl he aq g;obtain⟨pl,A,l2⟩:=pY he aq aI ah;obtain⟨o,u,q⟩:=pY he aq aI k;have:=a2.kz;subst this;refine .neutral aI (.c (.t (U:=U) ⟨.slice t,_⟩)) λf a=>⟨m/\pl/\o/\0<=l.getD 0/\l.getD 0<=r.getD (List.length s:Int)/\r.getD (List.length s:Int)<=(List.length s:Int)/\∀e,e∈List.map (t.enc U) s->e.length=sz,?_,a3 f,l2 f,q f,(iF.1 a).1,(iF.1 a).2.1,(iF.1 a).2.2,?_⟩
     . simp only[aT,a1,A,u,ak];exact ae0
     grind[aN.sV]
   grind
 . rename_i b r g ah k;split at h
   . rename_i t s w;split at h
     . rename_i d;have d:=cY d;cases h;obtain⟨m,v1,a1,a2,a3⟩:=cl he aq g;obtain⟨o,u,q⟩:=pY he aq aI k;obtain⟨E,n,rfl,y,f⟩:=a2.hl;have B:=f _ w (t.sz U,s.length) rfl;have z:j=none:=by
        cases j with
        |none=>rfl
        |some x=>grind[ow]
       subst z;refine .neutral aI (.c (.pre b (t.sz U) _ y λx D p g=>?_)) λi a=>⟨m/\True/\o/\0<=(none:Option Int).getD 0/\(none:Option Int).getD 0<=r.getD (List.length s:Int)/\r.getD (List.length s:Int)<=(List.length s:Int)/\sz=t.sz U,?_,a3 i,trivial,q i,(iF.1 a).1,(iF.1 a).2.1,(iF.1 a).2.2,d.symm⟩
       . grind
       . have F:j2 env1 none=some (True,none):=rfl;grind[aT]
     grind
   grind
 . rename_i b l r g ah k;split at h
   . rename_i t s w;split at h
     . rename_i d;have d:=cY d;cases h;obtain⟨m,v1,a1,a2,a3⟩:=cl he aq g;obtain⟨pl,A,l2⟩:=pY he aq aI ah;obtain⟨o,u,q⟩:=pY he aq aI k;obtain⟨E,n,rfl,y,f⟩:=a2.hl;have B:=f _ w (t.sz U,s.length) rfl;obtain⟨rfl,rfl⟩:=B;have z:j.isNone=false:=by
        cases j with
        |none=>simp[ow]at ah
        |some x=>rfl
       refine .neutral aI (.c (.dK b (t.sz U) _ _ y λx D p g=>?_)) λi a=>⟨m/\pl/\o/\0<=(some l:Option Int).getD 0/\(some l:Option Int).getD 0<=r.getD (List.length s:Int)/\r.getD (List.length s:Int)<=(List.length s:Int)/\sz=t.sz U,?_,a3 i,l2 i,q i,(iF.1 a).1,(iF.1 a).2.1,(iF.1 a).2.2,d.symm⟩
       . grind
       . simp only[aT,a1,A,u,ak,z,bW,b6,gC];rfl
     grind
   grind
 grind
theorem ae9(h:cn gl gd env J N (.slc0 x)=some (c,v,J')):dR N J J1 (.slc0 x) env1 (cB env G gd) c v J':=by
 simp[cn]at h;split at h
 . rename_i t l d;cases h;obtain⟨p,v1,a1,a2,a3⟩:=cl he aq d;have:=a2.kz;subst this;exact .neutral aI (.c .aA) λa _=>⟨p,by simp[aT,a1],a3 a⟩
 . rename_i d;cases h;obtain⟨p,v1,a1,a2,a3⟩:=cl he aq d;have:=a2.vn;subst this;exact .neutral aI (.c .aA) λa _=>⟨p,by simp[aT,a1],a3 a⟩
 . rename_i b d;cases h;obtain⟨p,v1,a1,a2,a3⟩:=cl he aq d;obtain⟨sz,n,rfl,_⟩:=a2.hl;exact .neutral aI (.c .aA) λa _=>⟨p,by simp[aT,a1],a3 a⟩
 grind
theorem LW:∀{vs:List (bL U)} {a:List V} {l:a7},BH vs=some l->a' (cb N J) vs a->aT.sN a=some l
 |[],[],l,h,.nil=>by simp[BH]at h;subst h;rfl
 |.c (.ptr b 0)::vs,d::a,l,h,.cons h1 e=>by
  simp only[BH]at h;split at h
  . rename_i f ah;cases h;have:=h1.hS;subst this;simp[aT.sN,LW ah e]
  grind
theorem ae'{f:Nat}{caps:List aU}(h:cn gl gd env J N (.mkfn f caps)=some (c,v,J')):dR N J J1 (.mkfn f caps) env1 (cB env G gd) c v J':=by
 simp[cn]at h;split at h
 . rename_i vs b;split at h
   . rename_i l ah;cases h;obtain⟨p,d,a1,a2,a3⟩:=ux he aq b;exact .neutral aI (.c (.fn _ _)) λa _=>⟨p,by simp[aT,a1,LW he aq aI ah a2],a3 a⟩
   . cases h
 grind
theorem ajG{i:Nat}(h:cn gl gd env J N (.ext x i)=some (c,v,J')):dR N J J1 (.ext x i) env1 (cB env G gd) c v J':=by
 simp[cn]at h;split at h
 . rename_i vs f;split at h
   . rename_i w a;cases h;obtain⟨p,v1,a1,a2,a3⟩:=cl he aq f;cases a2 with
     |a6 _ b ah d=>
      have g:=(dQ.1 a).1;have e:=fb (l:=b) (i:=i) (by omega);exact .neutral aI (d i _ _ a e) λaq _=>⟨p,by grind[aT],a3 aq⟩
   grind
 grind
theorem afa(h:cn gl gd env J N (.max2 x y)=some (c,v,J')):dR N J J1 (.max2 x y) env1 (cB env G gd) c v J':=by
 simp only[cn]at h;split at h
 . rename_i k a l b e f;simp at h;obtain⟨rfl,rfl,rfl,rfl⟩:=h;obtain⟨g,v1,a1,a2,a3⟩:=cl he aq e;obtain⟨i,m,b1,b2,b3⟩:=cl he aq f;have:=a2.fA;subst this;have:=b2.fA;subst this;exact .neutral aI (.c (.t (U:=U) _)) λd j=>⟨g/\i,by simp[aT,a1,b1];rfl,a3 d,b3 d⟩
 grind
theorem afb(h:cn gl gd env J N (.min2 x y)=some (c,v,J')):dR N J J1 (.min2 x y) env1 (cB env G gd) c v J':=by
 simp[cn]at h;split at h
 . rename_i k a l b e f;simp at h;obtain⟨rfl,rfl,rfl,rfl⟩:=h;obtain⟨g,v1,a1,a2,a3⟩:=cl he aq e;obtain⟨i,m,b1,b2,b3⟩:=cl he aq f;have:=a2.fA;subst this;have:=b2.fA;subst this;exact .neutral aI (.c (.t _)) λd j=>⟨g/\i,by simp only[aT,a1,b1,ak];rfl,a3 d,b3 d⟩
 grind
theorem aee{z:List C}{parts:List (Nat×Nat×aU)}(h:cn gl gd env J N (.build z parts)=some (c,v,J')):dR N J J1 (.build z parts) env1 (cB env G gd) c v J':=by
 simp[cn]at h;split at h
 . rename_i f d;split at h
   . rename_i cs a;cases h;obtain⟨p,e,a1,a2,a3⟩:=Ms he aq a (rX d);exact .neutral aI (.agg a2) λb _=>⟨p,by grind[aT],a3 b⟩
   grind
 grind
theorem aef{cs:List C}(h:cn gl gd env J N (.alloc cs)=some (c,v,J')):dR N J J1 (.alloc cs) env1 (cB env G gd) c v J':=by
 simp[cn]at h;split at h
 . rename_i xs a;cases h;have k:dn N J (N+16) (cE J N (.box xs)):=lz;exact .store rfl k (.c (.ptr _ _)) λb _=>⟨True,_,rfl,trivial,aI.put (by simp) k (.box (rX a))⟩
 grind
theorem ajF(h:cn gl gd env J N (.box x)=some (c,v,J')):dR N J J1 (.box x) env1 (cB env G gd) c v J':=by
 simp[cn]at h;split at h
 . rename_i w d;split at h
   . rename_i cs a;cases h;obtain⟨p,v1,a1,a2,a3⟩:=cl he aq d;obtain⟨e,b1,b2⟩:=pX a2 a;have k:dn N J (N+16) (cE J N (.box cs)):=lz;exact .store rfl k (.c (.ptr _ _)) λb _=>⟨p,_,by grind[aT],a3 b,aI.put (by simp) k (.box (b2.imp λ_ _ _=>cd.mono k))⟩
   grind
 grind
theorem adj{sz len:Nat}{z:List C}{parts:List (Nat×aU)}(h:cn gl gd env J N (.bslice sz len z parts)=some (c,v,J')):dR N J J1 (.bslice sz len z parts) env1 (cB env G gd) c v J':=by
 simp[cn]at h;split at h
 . rename_i m j;split at h
   . cases h
   . rename_i ts f;split at h
     . grind
     . rename_i b;have b:=cY b;split at h
       . rename_i rows a;cases h;have l:=rX (N:=N) (J:=J) j;obtain⟨p,es,a1,a2,a4,a3⟩:=IP he aq a (a'.replicate (R:=λr e=>hV r=some e) f _) (by intro r a;rw[Gr a];exact b);have k:dn N J (N+16) (cE J N (.rows sz rows)):=lz (by omega);refine .store rfl k (.c (.arr N sz es.length (by omega) ?_)) λi _=>⟨p,_,by simp[aT,zP l f,ak,a1,mB];rw[L9 a1,List.length_replicate],a3 i,aI.put (by omega) k (.rows a2 a4)⟩
         intro x g q d;rw[hR,ae rfl]at g;cases g;simp[cO.db]at d;rw[<-d,a2.length]
       . cases h
 grind
omit he aq aI in
theorem acS{a:List C}(h:toTs a=some ts):yV a=none:=by
 unfold yV;grind[toTs,toT]
omit he aq aI in
theorem adk{J1:ba}{w:bL U}{d:V}(h:cb N J w d)(e:∀b a len,w≠.c (.dK b a len))(f:∀b a len,w≠.c (.sub b a len))(g:w≠.c .dead):oZ v1 d=none:=by
 unfold oZ;split
 . cases h with
   |c h=>
    cases h<;>grind
 rfl
theorem aeg{k:Nat}(h:cn gl gd env J N (.store k x y)=some (c,v,J')):dR N J J1 (.store k x y) env1 (cB env G gd) c v J':=by
 simp only[cn]at h;split at h
 . rename_i b o w j A;split at h
   . rename_i cs s;split at h
     . rename_i B;have B:=cY B;split at h
       . rename_i aa D;split at h
         . rename_i X;have X:=jV X;cases h;obtain⟨p,v1,a1,a2,a3⟩:=cl he aq j;obtain⟨q,K,b1,b2,b3⟩:=cl he aq A;have:=a2.hS;subst this;obtain⟨es,g,d⟩:=pX b2 s;obtain⟨C,z,d1,d2⟩:=aI b _ D;cases d2 with
           | @box _ fs d2=>
            have a:dn N J (N+16) (cE J b (.box (xP aa o cs))):=oL (by simp) D (λp h=>by grind[cO.db]);refine .store rfl a (.a6 [] [] rfl (by simp)) λf _=>⟨p/\q,_,?_,⟨a3 f,b3 f⟩,aI.put (by omega) a (.box (Ig (d2.imp λ_ _ _=>cd.mono a) (d.imp λ_ _ _=>cd.mono a)))⟩
            simp only[aT,a1,b1,ak,g];rw[ae (by rw[<-d.length];grind),d1];dsimp only;rw[ae (by rw[<-d2.length];grind)]
         grind
       . rename_i E L D;split at h
         . rename_i L _;cases h;obtain⟨p,v1,a1,a2,a3⟩:=cl he aq j;obtain⟨q,K,b1,b2,b3⟩:=cl he aq A;have:=a2.hS;obtain⟨es,g,d⟩:=pX b2 s;obtain⟨C,z,d1,d2⟩:=aI b _ D;cases d2 with
           |b' d2=>
            cases d with|cons d n=>
            cases n;have a:dn N J (N+16) (cE J b (.b' E L)):=oL (by simp) D (λp h=>by grind[cO.db]);refine .store rfl a (.a6 [] [] rfl (by simp)) λf _=>⟨p/\q,_,?_,⟨a3 f,b3 f⟩,aI.put (by omega) a (.b' (d.mono a))⟩
            simp only[aT,a1,b1,ak,g];grind
         grind
       grind
     grind
   grind
 . rename_i b t i o w j A;split at h
   . rename_i cs s;split at h
     . rename_i B;simp only[c7]at B;have S:=cY B.1;have O:=jV B.2;split at h
       . rename_i Q V m;split at h
         . rename_i l ah;have e:=Cell.kf ah;cases e;split at h
           . rename_i M af;cases h;obtain⟨rfl,R,rfl⟩:cs=[M]/\∃R,M= .arr R:=by
              unfold UR at af;grind
             obtain⟨p,v1,a1,a2,a3⟩:=cl he aq j;obtain⟨q,K,b1,b2,b3⟩:=cl he aq A;have:=a2.i';obtain⟨es,g,d⟩:=pX b2 s;cases d with|cons d n=>
             cases n;have Z:=d;cases d with|arr _ ao an aj am=>
             obtain⟨C,z,d1,d2⟩:=aI b _ m;cases d2 with
             |arr=>
              have a:dn N J (N+16) (cE J b (.cA t l i o (.arr R))):=oL (by simp) m (λp h=>by grind[cO.db]);refine .store rfl a (.a6 [] [] rfl (by simp)) λf r=>⟨p/\q/\t.sz U=t.sz U/\i<(List.map (t.enc U) l).length/\o+k<=t.sz U,_,?_,⟨a3 f,b3 f,rfl,w4 (gP r),O⟩,aI.put (by omega) a (.cA t l i o (Z.mono a))⟩
              simp only[aT,a1,b1,ak,g];simp_all[ae,yV]
           split at h
           . rename_i l2 P;cases h;obtain⟨p,v1,a1,a2,a3⟩:=cl he aq j;obtain⟨q,K,b1,b2,b3⟩:=cl he aq A;have:=a2.i';subst this;obtain⟨es,g,d⟩:=pX b2 s;obtain⟨C,z,d1,d2⟩:=aI b _ m;cases d2 with
             |arr=>
              have ad:l2.length=List.length l:=by
               grind[sy]
              have a:dn N J (N+16) (cE J b (.arr t l2)):=oL (by simp) m (λp h=>by
               grind[cO.db])
              refine .store rfl a (.a6 [] [] rfl (by simp)) λf r=>?_;have F:i<List.length l:=gP r;obtain⟨ts,aM,ab⟩:=IB P F d (by grind);refine⟨p/\q/\t.sz U=t.sz U/\i<(List.map (t.enc U) l).length/\o+k<=t.sz U,_,?_,⟨a3 f,b3 f,rfl,w4 F,O⟩,aI.put (by omega) a (.arr t l2)⟩;simp only[aT,a1,b1,ak,g];rw[ae (by rw[<-d.length];grind),d1];grind[acS]
           grind
         grind
       . rename_i Q V H Y L m;split at h
         . rename_i M;split at h
           . rename_i u;split at h
             . rename_i T;cases h;have u:=cY u;have T:=cY T;subst u;obtain⟨p,v1,a1,a2,a3⟩:=cl he aq j;obtain⟨q,K,b1,b2,b3⟩:=cl he aq A;have:=a2.i';subst this;obtain⟨es,g,d⟩:=pX b2 s;cases d with|cons d n=>
               cases n;obtain⟨C,z,d1,d2⟩:=aI b _ m;cases d2 with
               |cA _ _ _ _ d2=>
                have a:dn N J (N+16) (cE J b (.cA Q V H o M)):=oL (by simp) m (λp h=>by grind[cO.db]);refine .store rfl a (.a6 [] [] rfl (by simp)) λf r=>⟨p/\q/\t.sz U=Q.sz U/\i=H,_,?_,⟨a3 f,b3 f,T,gP r⟩,aI.put (by omega) a (.cA Q V H o (d.mono a))⟩
                simp only[aT,a1,b1,ak,g];rw[ae (by simpa using S),d1];dsimp only;rw[ae rfl]
             . cases h
           . rename_i u;have u:=iC u;split at h
             . rename_i l ah;have e:=Cell.kf ah;cases e;split at h
               . rename_i l2 P;cases h;obtain⟨p,v1,a1,a2,a3⟩:=cl he aq j;obtain⟨q,K,b1,b2,b3⟩:=cl he aq A;have:=a2.i';subst this;obtain⟨es,g,d⟩:=pX b2 s;obtain⟨C,z,d1,d2⟩:=aI b _ m;cases d2 with
                 |cA _ _ _ _ d2=>
                  have ad:l2.length=List.length l:=by
                   unfold sy at P;grind
                  have a:dn N J (N+16) (cE J b (.cA t l2 H Y L)):=oL (by omega) m (λp h=>by
                   simp only[cO.db]at h⊢
                   grind)
                  refine .store rfl a (.a6 [] [] rfl (by simp)) λf r=>?_;have F:i<List.length l:=gP r;obtain⟨ts,aM,ab⟩:=IB P F d (by rw[S];exact O);cases d with| @cons _ W _ _ d n=>
                  cases n;obtain⟨I,ag,ai⟩:∃I,Shv.toT W=some I/\ts=[I]:=by
                   simp only[toTs]at aM;cases j:Shv.toT W with
                   |none=>rw[j]at aM;simp at aM
                   |some I=>rw[j]at aM;simp at aM;exact⟨I,rfl,aM.symm⟩
                  refine⟨p/\q/\t.sz U=t.sz U/\i<(List.map (t.enc U) l).length/\o+k<=t.sz U,_,?_,⟨a3 f,b3 f,rfl,w4 F,O⟩,aI.put (by omega) a (.cA t l2 H Y (d2.mono a))⟩;simp only[aT,a1,b1,ak,g];rw[ae (by simpa using S),d1];dsimp only;rw[al u,ag];subst ai;grind
               . cases h
             . cases h
         . cases h
       . cases h
     . cases h
   . cases h
 . cases h
inductive kE:fW U->List (List T)->Prop
 |ty (t:aN) (l:List (t.den U.D)):kE (.ty t l) (l.map (t.enc U))
 |rows {r es}:a' (λr e=>hV r=some e) r es->kE (.rows r) es
 |nil:kE .nil []
omit he aq aI in
theorem kE.length(h:kE e es):es.length=e.len:=by
 cases h with
 |ty t l=>simp[fW.len]
 |rows h=>simp[fW.len,h.length]
 |nil=>rfl
omit he aq aI in
theorem Ih:∀{xs:List (bk U)} {dj:List aN} {e:List T} {row:List (Cell U.D)},iD dj xs=some row->hV xs=some e->e=row.map (Cell.enc U)
 |[],dj,e,row,h1,a=>by
  grind[iD,hV]
 |y::f,[],e,row,h1,a=>by grind[iD]
 |y::f,ty::dj,e,row,h1,a=>by
  simp[hV]at a;split at a
  . rename_i t ts ht d;cases a;cases y with
    |t c=>
     simp[bk.toT]at ht;split at ht
     . grind
     . cases ht;cases ty<;>simp[iD]at h1<;>(split at h1<;>first|(cases h1;done)|(rename_i q b;cases h1;rw[Ih b d];rfl))
    |aA=>
     simp[bk.toT]at ht;subst ht;cases ty<;>simp[iD]at h1;split at h1
     . rename_i q b;cases h1;rw[Ih b d];rfl
     grind
    |_=>grind[bk.toT]
  grind
omit he aq aI in
theorem afc{r:List (bk U)}{x:t.den U.D}{e:List T}(h:qM U t r=some x)(he:hV r=some e):t.enc U x=e:=by
 grind[qM,aN.vw,aN.Gk,Ih]
omit he aq aI in
theorem wP:∀{r:List (List (bk U))} {l:List (t.den U.D)} {es:List (List T)},mI U t r=some l->a' (λr e=>hV r=some e) r es->l.map (t.enc U)=es
 |[],l,es,h,a=>by cases a;grind[mI]
 |r::d,l,_::_,h,.cons h1 a=>by
  simp[mI]at h;split at h
  . rename_i x xs b c;cases h;rw[iJ,afc b h1,wP c a]
  grind
omit he aq aI in
theorem kE.as{l:List (t.den U.D)}(h:kE e es)(a:e.as t=some l):l.map (t.enc U)=es:=by
 cases h with
 |ty u c=>
  have:=Cell.kf a;grind
 |rows h=>exact wP a h
 |nil=>grind[fW.as]
omit he aq aI in
theorem kE.join{x y z:fW U}{es fs:List (List T)}(f:kE x es)(c:kE y fs)(h:x.join y=some z):kE z (es++fs):=by
 cases f with
 |nil=>grind[fW.join]
 |ty t l=>
  simp[fW.join]at h;split at h
  . rename_i j ah;cases h;rw[<-c.as ah,<-qC];exact .ty t _
  grind
 |rows a=>
  cases c with
  |ty t l=>
   simp[fW.join]at h;split at h
   . rename_i j ah;cases h;rw[<-wP ah a,<-qC];exact .ty t _
   grind
  |rows e=>simp[fW.join]at h;subst h;exact .rows (a.append e)
  |nil=>simp[fW.join]at h;subst h;rw[h9];exact .rows a
omit he aq aI in
theorem kE.blk{e:fW U}{es:List (List T)}{sz:Nat}{b:cO U}(h:kE e es)(a:e.blk sz=some b):hX N' J' b (.arr sz es)/\(∀x,x∈es->x.length=sz)/\b.db=some (sz,e.len):=by
 cases h with
 |ty t l=>
  simp[fW.blk]at a;split at a
  . rename_i hs;have:=cY hs;subst this;cases a;refine⟨.arr t l,λx c=>?_,rfl⟩;grind[aN.sV]
  grind
 | @rows r es f=>
  simp[fW.blk]at a;split at a
  . rename_i hs;cases a;simp only[gh]at hs;refine⟨.rows f λx c=>cY (hs x c),λx c=>?_,rfl⟩;obtain⟨i,o,rfl⟩:=e3 c;obtain⟨y,h1,j⟩:=(f.flip λ_ _ h=>h).get (fb o);rw[IA j];grind[cY]
  grind
 |nil=>
  simp[fW.blk]at a;subst a;exact⟨.rows .nil (by simp),by simp,rfl⟩
omit he aq in
theorem JM{f:Option Nat}(c:cb N J v v1)(h:sw J v=some (e,f)):∃es,mJ J1 v1=some (es,f)/\kE e es:=by
 unfold sw at h;split at h
 . rename_i t l;cases h;have:=c.kz;subst this;exact⟨_,rfl,.ty t l⟩
 . cases h;have:=c.vn;subst this;exact⟨_,rfl,.nil⟩
 . rename_i b;obtain⟨sz,n,rfl,i,d⟩:=c.hl;split at h
   . rename_i t l ah;cases h;obtain⟨_,y,h1,a⟩:=aI b _ ah;cases a;have:=d _ ah _ rfl;cases this;exact⟨_,by simp[mJ,h1],.ty t l⟩
   . rename_i j r ah;cases h;obtain⟨_,y,h1,a⟩:=aI b _ ah;cases a with
     |rows a g=>
      have:=d _ ah _ rfl;cases this;exact⟨_,by simp[mJ,h1,a.length],.rows a⟩
   . cases h
 grind
theorem ajJ{str:Bool}(h:cn gl gd env J N (.len str x)=some (c,v,J')):dR N J J1 (.len str x) env1 (cB env G gd) c v J':=by
 simp[cn]at h;split at h
 . rename_i s d;cases h;obtain⟨p,v1,a1,a2,a3⟩:=cl he aq d;have:=a2.kB;subst this;exact .neutral aI (.c (.t _)) λa _=>⟨p,by simp[aT,a1];rfl,a3 a⟩
 . rename_i b d;split at h
   . rename_i E s g;cases h;obtain⟨p,v1,a1,a2,a3⟩:=cl he aq d;obtain⟨n,rfl,_,f⟩:=a2.B2;have:=f _ g _ rfl;cases this;exact .neutral aI (.c (.t _)) λa _=>⟨p,by simp[aT,a1];rfl,a3 a⟩
   grind
 . rename_i w d;split at h
   . rename_i e ec;cases h;obtain⟨p,v1,a1,a2,a3⟩:=cl he aq d;refine .neutral aI (.c (.t (U:=U) ⟨.int .i64,_⟩)) λa _=>⟨p,?_,a3 a⟩
     unfold sw at ec;split at ec
     . cases ec;have:=a2.kz;subst this;simp only[aT,a1,ak];exact ae1
     . cases ec;have:=a2.vn;subst this;simp only[aT,a1,ak];rfl
     . obtain⟨sz,n,rfl,g,f⟩:=a2.hl;simp[aT,a1];split at ec
       . rename_i t l ah;cases ec;have:=f _ ah _ rfl;cases this;rfl
       . rename_i i r ah;cases ec;have:=f _ ah _ rfl;cases this;rfl
       grind
     grind
   grind
 grind
omit he aq aI in
theorem Js{bytes n:Nat}:room bytes n=true↔(2*n+192)*bytes<=hF/\n<=dT:=by simp[room]
omit he aq aI in
theorem Fb{bytes n:Nat}(h:room bytes n=true):l0 n bytes/\n<=dT:=⟨.inl (Js.1 h).1,(Js.1 h).2⟩
theorem adl{sz bytes:Nat}(h:cn gl gd env J N (.append sz bytes x y)=some (c,v,J')):dR N J J1 (.append sz bytes x y) env1 (cB env G gd) c v J':=by
 simp only[cn]at h;split at h
 . rename_i w d u;split at h
   . rename_i ab ao B;split at h
     . rename_i blk K;cases h;obtain⟨p,v1,a1,a2,a3⟩:=cl he aq d;obtain⟨q,D,b1,b2,b3⟩:=cl he aq u;have:=a2.vn;subst this;obtain⟨g,E,n⟩:=JM aI b2 B;have k:dn N J (N+16) (cE J N blk):=lz (by omega);obtain⟨d1,d2,d3⟩:=n.blk (N':=N+16) (J':=cE J N blk) K;refine .store rfl k (.c (.arr N sz g.length (by omega) ?_)) λj o=>⟨p/\q/\(∀e,e∈g->e.length=sz)/\l0 g.length bytes/\g.length<=dT,_,by simp only[aT,a1,b1,ak,show oZ (.c .aA) D=none from rfl,E],⟨a3 j,b3 j,d2,?_⟩,aI.put (by omega) k d1⟩
       . intro x d r m;rw[hR,ae rfl]at d;cases d;rw[d3]at m;cases m;rw[n.length]
       . rw[n.length];exact Fb o
     . cases h
   . cases h
 . rename_i b w d u;split at h
   . rename_i ar xb ab aa W B;split at h
     . grind
     . split at h
       . cases h
       . rename_i s;split at h
         . rename_i au Z;split at h
           . rename_i blk K;cases h;obtain⟨p,v1,a1,a2,a3⟩:=cl he aq d;obtain⟨q,D,b1,b2,b3⟩:=cl he aq u;obtain⟨f,L,T,af,R⟩:=a2.hl;subst T;obtain⟨g,E,n⟩:=JM aI b2 B;obtain⟨xs,aM,M⟩:=JM aI a2 W;have a:=M.join n Z;have A:dn N (dl J b) (N+16) (cE (dl J b) N blk):=lz (by omega);have k:dn N J (N+16) (cE (dl J b) N blk):=dn.trans uG A;obtain⟨d1,d2,d3⟩:=a.blk (N':=N+16) (J':=cE (dl J b) N blk) K;obtain⟨hs,aJ⟩:aY J1 b=some (.arr f xs)/\L=xs.length:=by
              simp only[mJ]at aM;grind
             have S:f=sz:=by
              unfold Vi at s;split at s
              . rename_i z a;split at s
                . rename_i r m;have:=R _ a _ m;simp_all
                . cases s
              . cases s
             subst S;have H:cz N (dl J b) (ia J1 b):=by
              intro i z a;rw[oQ]at a;split at a
              . cases a
              . rename_i P;obtain⟨h1,y,O,F⟩:=aI i z a;exact⟨h1,y,by rw[fN,al P];exact O,F.mono uG⟩
             have an:aa≠some b:=by
              intro e;simp_all
             refine .store rfl k (.c (.arr N f (xs++g).length (by omega) ?_)) λj o=>⟨p/\q/\f=f/\f=f/\0=0/\L=xs.length/\(∀e,e∈g->e.length=f)/\l0 (xs.length+g.length) bytes/\xs.length+g.length<=dT,_,?_,⟨a3 j,b3 j,rfl,rfl,rfl,aJ,λe he=>d2 e (by simp[he]),?_⟩,H.put (by omega) A d1⟩
             . intro x d r m;rw[hR,ae rfl]at d;cases d;rw[d3]at m;cases m;rw[a.length]
             . have V:oZ (.c (.arr b f 0 L)) D=none:=by
                refine adk (J1:=J1) b2 ?_ ?_ ?_<;>(intros;rintro rfl;simp[sw]at B)
               simp only[aT,a1,b1,ak,V,E,hs];grind
             . have:=Fb o;rw[<-a.length,cc]at this;exact this
           . cases h
         . cases h
   . cases h
 . rename_i b h0 ad C len d u;split at h
   . rename_i I;have I:=cY I;subst I;split at h
     . rename_i t l ah;split at h
       . rename_i Q;have Q:=cY Q;cases h;obtain⟨p,v1,a1,a2,a3⟩:=cl he aq d;obtain⟨q,D,b1,b2,b3⟩:=cl he aq u;cases a2 with|c a2=>
         cases a2 with|pre _ s1 _ ag X=>
         cases b2 with|c b2=>
         cases b2 with|dK _ ap _ _ ai Y=>
         have aM:=X _ ah _ rfl;have M:=Y _ ah _ rfl;obtain⟨aj,z,d1,d2⟩:=aI b _ ah;cases d2 with
         |arr=>
          have A:dn N (dl J b) (N+16) (cE (dl J b) N (.arr t (l.take h0++(l.drop C).take len))):=lz (by omega);have k:=dn.trans uG A;have H:cz N (dl J b) (ia J1 b):=by
           intro i z a;rw[oQ]at a;split at a
           . cases a
           . rename_i P;obtain⟨h1,y,O,F⟩:=aI i z a;exact⟨h1,y,by simp_all[fN,al],F.mono uG⟩
          refine .store rfl k (.c (.arr N (t.sz U) (l.take h0++(l.drop C).take len).length (by omega) ?_)) λj o=>?_
          . simp_all[hR,ae,cO.db,dF]
          . simp only[c7,e4]at o;have am:(l.take h0++(l.drop C).take len).length=h0+len:=(by grind);refine⟨p/\q/\t.sz U=t.sz U/\t.sz U=t.sz U/\t.sz U=t.sz U/\0=0/\h0+len<=(l.map (t.enc U)).length/\C+len<=(l.map (t.enc U)).length,_,?_,⟨a3 j,b3 j,rfl,rfl,rfl,rfl,by grind,by grind⟩,H.put (by simp) A (.arr t _)⟩;grind[oZ,aT,vl,List.map_take,List.map_drop]
       . cases h
     . cases h
   . cases h
 grind
omit he aq aI in
theorem LX{t:aN}(ht:t.vF=false):∀{xs:List (bk U)} {a:List C} {l:List (t.den U.D)},a' (cd N J) xs a->u9 t xs=some l->∃ts,toTs a=some ts/\ts.map (λx=>[x])=l.map (t.enc U)
 |[],[],l,_,h=>by simp[u9]at h;subst h;exact⟨[],rfl,rfl⟩
 |x::xs,d::a,l,.cons h1 e,h=>by
  unfold u9 at h;split at h
  . grind
  . rename_i c r i;cases i;split at h
    . rename_i y m f j;cases h;obtain⟨ts,aM,b⟩:=LX ht e j;cases h1;have g:=Cell.kf f;subst g;refine⟨Cell.enc U ⟨t,y⟩::ts,by simp[toTs,aM,toT],?_⟩;rw[iJ,b];cases t<;>first|rfl|cases ht
    . cases h
  grind
omit he aq aI in
theorem NF{t:aN}{d:t.den U.D}:∀{xs:List (bk U)} {a:List C} {l:List (t.den U.D)} (i:Nat),a' (cd N J) xs a->u9 t xs=some l->i<a.length->cd N J (.t ⟨t,l.getD i d⟩) (a.getD i .dead)
 |[],[],l,i,_,h,b=>absurd b (Nat.not_lt_zero _)
 |x::xs,d::a,l,i,.cons h1 e,h,b=>by
  unfold u9 at h;split at h
  . grind
  . rename_i c r j;cases j;split at h
    . rename_i y m f k;cases h;cases h1;have g:=Cell.kf f;subst g;cases i with
      |zero=>exact .t _
      |succ i=>exact NF (d:=_) i e k (Nat.lt_of_succ_lt_succ b)
    . cases h
  grind
theorem afd{k:Nat}(h:cn gl gd env J N (.idxV k x y)=some (c,v,J')):dR N J J1 (.idxV k x y) env1 (cB env G gd) c v J':=by
 simp only[cn]at h;split at h
 . rename_i cs u m n o;split at h
   . rename_i t l i ah;cases h;obtain⟨p,v1,a1,a2,a3⟩:=cl he aq n;obtain⟨q,z,b1,b2,b3⟩:=cl he aq o;obtain⟨e,rfl,b⟩:=a2.mP;have:=b2.fA;subst this;have j:e.length=k:=by rw[<-b.length];exact cY i
     unfold ES at ah;split at ah
     . rename_i s r;split at ah
       . rename_i w ht hs;cases ah;by_cases d:ay m k=true
         . obtain⟨h1,f⟩:=rM.1 d;refine .neutral aI (.c (NF (Int.toNat m) b hs (by omega))) λa _=>⟨p/\q/\(0:Int)<=m/\Int.toNat m<k,?_,a3 a,b3 a,h1,f⟩
           simp only[aT,a1,b1,ak,j,bM]
         . exact .neutral aI (.c (.t _)) λa g=>absurd g d
       . cases ah
     . cases ah
   . cases h
 . cases h
theorem adm{sz bytes:Nat}{z:List C}(h:cn gl gd env J N (.mslice sz bytes z x)=some (c,v,J')):dR N J J1 (.mslice sz bytes z x) env1 (cB env G gd) c v J':=by
 simp only[cn]at h;split at h
 . rename_i k m u o r;split at h
   . cases h
   . rename_i ts g;split at h
     . rename_i a;split at h
       . rename_i b d;cases h;have d:=cY d;subst d;obtain⟨t,v1,a1,a2,a3⟩:=cl he aq o;have:=a2.fA;subst this;have s:=rX (N:=N) (J:=J) r;have k1:dn N J (N+16) (cE J N (.arr a.ty (List.replicate (Int.toNat m) a.val))):=lz (by omega);have f:a.ty.sz U=1:=by
          generalize a.ty=t0 at b;cases t0<;>first|rfl|cases b
         have n:ts=a.ty.enc U a.val:=by
          obtain⟨ty,v0⟩:=a;cases ty<;>first|(cases g;rfl)|cases b
         have p:aT (.mslice 1 bytes z x) env1 J1 N=some (t/\(0:Int)<=m/\Int.toNat m*bytes<=hF/\Int.toNat m<=dT,.c (.arr N 1 0 (Int.toNat m)),c9 J1 N (.arr 1 (List.replicate (Int.toNat m) ts))):=by
          simp only[aT,a1,ak,zP s g]
         refine .store rfl k1 (.c (.arr N 1 (Int.toNat m) (by omega) ?_)) λl j=>⟨_,_,p,⟨a3 l,aeb.1 j⟩,aI.put (by omega) k1 ?_⟩
         . intro x i q e;rw[hR,ae rfl]at i;cases i;simp[cO.db]at e;rw[<-e,f]
         . have:=hX.arr (N:=N+16) (J:=cE J N (.arr a.ty (List.replicate (Int.toNat m) a.val))) a.ty (List.replicate (Int.toNat m) a.val);rw[f,List.map_replicate,<-n]at this;exact this
       . cases h
     . cases h
 . cases h
theorem adn{cs:List C}(h:cn gl gd env J N (.allocA cs)=some (c,v,J')):dR N J J1 (.allocA cs) env1 (cB env G gd) c v J':=by
 simp[cn]at h;split at h
 . rename_i xs d;split at h
   . rename_i t l ah;cases h;unfold ES at ah;split at ah
     . rename_i b r;split at ah
       . rename_i a ht hs;cases ah;obtain⟨ts,aM,e⟩:=LX ht (rX (N:=N) (J:=J) d) hs;have k:dn N J (N+16) (cE J N (.arr _ a)):=lz;refine .store rfl k (.c (.ptr _ _)) λf _=>⟨True,_,by simp[aT,aM];rfl,trivial,aI.put (by simp) k ?_⟩
         have g:b.ty.sz U=1:=by
          generalize b.ty=t0 at ht;cases t0<;>first|rfl|cases ht
         have:=hX.arr (N:=N+16) (J:=cE J N (.arr _ a)) _ a;grind
       grind
     grind
   grind
 grind
theorem afe{k:Nat}(h:cn gl gd env J N (.idxP k x y)=some (c,v,J')):dR N J J1 (.idxP k x y) env1 (cB env G gd) c v J':=by
 simp[cn]at h;split at h
 . rename_i b kk m f g;split at h
   . split at h
     . rename_i e;have e:=cY e;cases h;obtain⟨i,v1,a1,a2,a3⟩:=cl he aq f;obtain⟨j,l,b1,b2,b3⟩:=cl he aq g;have:=a2.hS;have:=b2.fA;refine .neutral aI (.c (.cH _ _ _ _)) λd a=>⟨i/\j/\(0:Int)<=m/\Int.toNat m<k,?_,a3 d,b3 d,(rM.1 a).1,(rM.1 a).2⟩
       grind[aT]
     grind
   grind
 grind
theorem aff{k:Nat}{e d:Option aU}(h:cn gl gd env J N (.slcP k x e d)=some (c,v,J')):dR N J J1 (.slcP k x e d) env1 (cB env G gd) c v J':=by
 simp[cn]at h;split at h
 . rename_i b l r g ah i;cases h;obtain⟨m,v1,a1,a2,a3⟩:=cl he aq g;obtain⟨pl,j,l2⟩:=pY he aq aI ah;obtain⟨n,o,p⟩:=pY he aq aI i;have:=a2.hS;subst this;exact .neutral aI (.c (.sub _ _ _)) λa f=>⟨m/\pl/\n/\0<=l.getD 0/\l.getD 0<=r.getD _/\r.getD _<=k,by simp[aT,a1,j,o],a3 a,l2 a,p a,iF.1 f⟩
 grind
omit he aq aI in
theorem DH:∀(l:ao),bytesOf (List.map ((aN.int .u8).enc U) l)=some (strOf l)
 |[]=>rfl
 |m::l=>by
  have:=DH l;show bytesOf ([T.int _ m]::_)=_;simp[bytesOf,this];rfl
omit he aq aI in
theorem aeh{b len:Nat}{s:aj}(h:aY J1 b=some (.arr 1 es))(hs:bytesOf ((es.drop off).take len)=some s):nU J1 (.c (.arr b 1 off len))=some (off+len<=es.length,s):=by grind[nU]
omit he aq aI in
theorem aei{b len:Nat}{s:aj}(h:aY J1 b=some (.arr 1 es))(hs:bytesOf ((es.drop off).take len)=some s):nU J1 (.c (.fI b 1 off len))=some (off+len<=es.length,s):=by grind[nU]
omit he aq aI in
theorem acT{s:aj}(hs:bytesOf es=some s):nU J1 (.c (.t (.slice es)))=some (True,s):=by grind[nU]
theorem ajD(h:cn gl gd env J N (.b2s x)=some (c,v,J')):dR N J J1 (.b2s x) env1 (cB env G gd) c v J':=by
 simp only[cn]at h;split at h
 . rename_i l d;cases h;obtain⟨f,v1,a1,a2,a3⟩:=cl he aq d;have:=a2.kz;subst this
   exact .neutral aI (.c (.t (U:=U) _)) λa k=>⟨f/\True,by
    simp only[aT,a1,ak]
    exact(eM _ (acT (DH (U:=U) l))).trans rfl,a3 a,trivial⟩
 . rename_i d;cases h;obtain⟨f,v1,a1,a2,a3⟩:=cl he aq d;have:=a2.vn;subst this;exact .neutral aI (.c (.t (U:=U) ⟨.str,_⟩)) λa k=>⟨f/\True,by simp only[aT,a1,nU];rfl,a3 a,trivial⟩
 . rename_i b d;split at h
   . rename_i l g;cases h;obtain⟨f,v1,a1,a2,a3⟩:=cl he aq d;obtain⟨p,n,rfl,o,a⟩:=a2.hl;have:=a _ g _ rfl;cases this;obtain⟨_,y,m,j⟩:=aI _ _ g;cases j;refine .neutral aI (.c (.t (U:=U) ⟨.str,_⟩)) λa k=>⟨f/\(0+l.length<=(l.map ((aN.int .u8).enc U)).length),?_,a3 a,by simp⟩
     simp only[aT,a1,ak];have e:bytesOf (((l.map ((aN.int .u8).enc U)).drop 0).take l.length)=some (strOf l):=(by grind[List.take_of_length_le,DH]);exact(eM (Option.map _) (aeh m e)).trans rfl
   grind
 . rename_i b i len d;split at h
   . rename_i l g;cases h;obtain⟨f,v1,a1,a2,a3⟩:=cl he aq d;have:v1= .c (.fI b 1 i len):=by cases a2 with|c h=>cases h;rfl
     subst this;obtain⟨_,y,m,j⟩:=aI _ _ g;cases j;refine .neutral aI (.c (.t (U:=U) ⟨.str,_⟩)) λa k=>⟨f/\(i+len<=(l.map ((aN.int .u8).enc U)).length),?_,a3 a,by grind[xG]⟩
     simp only[aT,a1,ak];have e:bytesOf (((l.map ((aN.int .u8).enc U)).drop i).take len)=some (strOf ((l.drop i).take len)):=by rw[<-List.map_drop,<-List.map_take];exact DH _
     exact(eM (Option.map _) (aei m e)).trans rfl
   grind
 grind
theorem ado{e e8:Nat}(h:cn gl gd env J N (.allocS e e8)=some (c,v,J')):dR N J J1 (.allocS e e8) env1 (cB env G gd) c v J':=by
 obtain⟨rfl,rfl,rfl⟩:=h;have f:dn N J (N+16) (cE (cE J (N+1) (.buf e8 [])) N (.b' e (.cL (N+1)))):=by
  refine⟨by simp,λb j g a=>?_⟩;grind[hR]
 refine .store rfl f (.c (.ptr _ _)) λ_ _=>⟨True,_,rfl,trivial,λb x a=>?_⟩
 rw[hR]at a;rw[c0];by_cases h1:N=b
 . rw[ae h1]at a⊢;cases a;refine⟨by omega,_,rfl,.b' (.cL _ _ (by simp) λx a p i=>?_)⟩;rw[hR,hR]at a;grind[cO.db]
 . rw[al h1,hR]at a;rw[al h1,c0];by_cases d:N+1=b
   . rw[ae d]at a⊢;cases a;exact⟨by omega,_,rfl,.buf _ _⟩
   . rw[al d]at a⊢;obtain⟨k1,y,k2,k3⟩:=aI b x a;exact⟨by omega,y,k2,k3.mono f⟩
theorem aej(h:cn gl gd env J N .mkset=some (c,v,J')):dR N J J1 .mkset env1 (cB env G gd) c v J':=by
 obtain⟨rfl,rfl,rfl⟩:=h;have k:dn N J (N+16) (cE J N (.set [])):=lz;exact .store rfl k (.c (.mp _)) λ_ _=>⟨True,_,rfl,trivial,aI.put (by simp) k (.set _)⟩
theorem aek(h:cn gl gd env J N (.lkset x y)=some (c,v,J')):dR N J J1 (.lkset x y) env1 (cB env G gd) c v J':=by
 simp[cn]at h;split at h
 . rename_i b s e f;split at h
   . rename_i ks d;cases h;obtain⟨p,v1,a1,a2,a3⟩:=cl he aq e;obtain⟨q,g,b1,b2,b3⟩:=cl he aq f;have:=a2.Gl;subst this;have:=b2.kB;subst this;obtain⟨_,z,d1,d2⟩:=aI b _ d;cases d2;exact .neutral aI (.c (.t _)) λa _=>⟨p/\q,by simp[aT,a1,b1,d1];rfl,a3 a,b3 a⟩
   grind
 grind
theorem ael(h:cn gl gd env J N (.upset x y)=some (c,v,J')):dR N J J1 (.upset x y) env1 (cB env G gd) c v J':=by
 simp[cn]at h;split at h
 . rename_i b s f g;split at h
   . rename_i ks d;cases h;obtain⟨p,v1,a1,a2,a3⟩:=cl he aq f;obtain⟨q,j,b1,b2,b3⟩:=cl he aq g;have:=a2.Gl;subst this;have:=b2.kB;subst this;obtain⟨i,z,d1,d2⟩:=aI b _ d;cases d2;have e:dn N J (N+16) (cE J b (.set (iN ks s))):=oL (by omega) d (λp h=>by simp[cO.db]at h);exact .store rfl e (.a6 [] [] rfl (by simp)) λa _=>⟨p/\q,_,by simp[aT,a1,b1,d1],⟨a3 a,b3 a⟩,aI.put (by omega) e (.set _)⟩
   . cases h
 grind
theorem acU{e bytes:Nat}(h:cn gl gd env J N (.appendB e bytes x y)=some (c,v,J')):dR N J J1 (.appendB e bytes x y) env1 (cB env G gd) c v J':=by
 simp[cn]at h;split at h
 . rename_i b s a u;split at h
   . rename_i d l f;split at h
     . rename_i t;have:=cY t;subst this;cases h;obtain⟨p,v1,a1,a2,a3⟩:=cl he aq a;obtain⟨q,C,b1,b2,b3⟩:=cl he aq u;obtain⟨n,rfl,A,r⟩:=a2.B2;have:=r _ f _ rfl;cases this;have:=b2.kB;subst this;obtain⟨_,z,d1,d2⟩:=aI b _ f;cases d2;have k1:dn N J N (dl J b):=uG;have k2:dn N _ (N+16) (cE (dl J b) N (.buf d (B4 l s))):=lz;have o:cz N (dl J b) (ia J1 b):=by
        intro k x a;rw[oQ]at a;split at a
        . grind
        . rename_i B;obtain⟨h1,y,w,m⟩:=aI k x a;exact⟨h1,y,by rw[fN];grind,m.mono k1⟩
       refine .store rfl (k1.trans k2) (.c (.cL N (List.length l+List.length s) (by simp) λx a p j=>?_)) λi g=>⟨p/\q/\d=d/\List.length l=List.length l/\l0 _ _/\List.length l+List.length s<=dT,_,?_,⟨a3 i,b3 i,rfl,rfl,(Fb g).1,(Fb g).2⟩,o.put (by simp) k2 (.buf _ _)⟩
       . rw[hR,ae rfl]at a;cases a;simp[cO.db]at j;exact j.symm.trans (eM _ aa0)
       . simp only[aT,a1,b1,ak,d1];rfl
     grind
   grind
 grind
theorem aem(h:cn gl gd env J N (.sdata x)=some (c,v,J')):dR N J J1 (.sdata x) env1 (cB env G gd) c v J':=by
 simp[cn]at h;split at h
 . rename_i b d;cases h;obtain⟨p,v1,a1,a2,a3⟩:=cl he aq d;obtain⟨n,rfl,_,_⟩:=a2.B2;exact .neutral aI (.c (.ev _)) λa _=>⟨p,by simp[aT,a1],a3 a⟩
 grind
theorem afg{e:Nat}(h:cn gl gd env J N (.ustr e x y)=some (c,v,J')):dR N J J1 (.ustr e x y) env1 (cB env G gd) c v J':=by
 simp[cn]at h;split at h
 . rename_i b m a r;split at h
   . rename_i d l k;split at h
     . rename_i o;have:=cY o;subst this;cases h;obtain⟨p,v1,a1,a2,a3⟩:=cl he aq a;obtain⟨q,u,b1,b2,b3⟩:=cl he aq r;have:=a2.U7;subst this;have:=b2.fA;subst this;obtain⟨_,z,d1,d2⟩:=aI b _ k;cases d2;have k1:dn N J N (dl J b):=uG;have j:cz N (dl J b) (ia J1 b):=by
        intro g x a;rw[oQ]at a;split at a
        . grind
        . obtain⟨h1,y,s,i⟩:=aI g x a;exact⟨h1,y,by simp_all[fN],i.mono k1⟩
       refine .store rfl (k1.trans (dn.more (by simp))) (.c (.t _)) λf n=>⟨p/\q/\d=d/\m=(List.length l:Int),_,?_,⟨a3 f,b3 f,rfl,aec.1 n⟩,j.mono (by simp)⟩
       simp only[aT,a1,b1,ak,d1];rfl
     grind
   grind
 grind
theorem acV{e sz len:Nat}{z:List C}{parts:List (Nat×aU)}(h:cn gl gd env J N (.bsliceT e sz len z parts)=some (c,v,J')):dR N J J1 (.bsliceT e sz len z parts) env1 (cB env G gd) c v J':=by
 simp[cn]at h;split at h
 . grind
 . split at h
   . rename_i k i;split at h
     . grind
     . rename_i ts b;split at h
       . grind
       . rename_i a;have a:=cY a;split at h
         . rename_i rows g;split at h
           . rename_i l ah;cases h;have j:=rX (N:=N) (J:=J) i;obtain⟨p,es,a1,a2,a4,a3⟩:=IP he aq g (a'.replicate (R:=λr e=>hV r=some e) b _) (by grind);have d:=wP ah a2;refine .neutral aI (.c (.t _)) λf _=>⟨p,?_,a3 f⟩
             simp[aT,zP j b,ak,a1];rw[<-d];rfl
           grind
         grind
   grind
theorem MA(h:cn gl gd env J N o=some (c,v,J')):dR N J J1 o env1 (cB env G gd) c v J':=by
 cases o with
 |mov x=>exact ajK he aq aI h
 |pick c x y=>exact ae2 he aq aI h
 |alloc cs=>exact aef he aq aI h
 |box x=>exact ajF he aq aI h
 |allocA cs=>exact adn he aq aI h
 |idxP k x i=>exact afe he aq aI h
 |idxV k x i=>exact afd he aq aI h
 |mslice sz b z x=>exact adm he aq aI h
 |slcP k x d a=>exact aff he aq aI h
 |b2s x=>exact ajD he aq aI h
 |allocS e e8=>exact ado he aq aI h
 |bsliceT e sz len z parts=>exact acV he aq aI h
 |mkset=>exact aej he aq aI h
 |lkset x k=>exact aek he aq aI h
 |upset x k=>exact ael he aq aI h
 |appendB e b x y=>exact acU he aq aI h
 |sdata x=>exact aem he aq aI h
 |ustr e x k=>exact afg he aq aI h
 |build z parts=>exact aee he aq aI h
 |bslice sz len z parts=>exact adj he aq aI h
 |load agg n x=>exact ae5 he aq aI h
 |store n x v=>exact aeg he aq aI h
 |nilCheck x=>exact aay he aq aI h
 |bin op x y=>exact ajE he aq aI h
 |eqAgg neg ks x y=>exact aed he aq aI h
 |eqBool neg x y=>exact adi he aq aI h
 |eqNil neg x=>simp[cn]at h
 |not x=>exact ajL he aq aI h
 |conv k x=>grind[ae3]
 |i2s x=>grind[ajI]
 |s2s x=>grind[ajM]
 |fldA off x=>grind[ae4]
 |fld agg off n x=>grind[ajH]
 |idxA sz x i=>grind[ae6]
 |idxS x i=>grind[ae7]
 |slcS x d a=>grind[ae8]
 |slc sz x d a=>grind[ajN]
 |slc0 x=>grind[ae9]
 |mkfn f caps=>grind[ae']
 |ext x i=>grind[ajG]
 |len str x=>grind[ajJ]
 |append sz bytes x y=>grind[adl]
 |max2 x y=>grind[afa]
 |min2 x y=>grind[afb]
 |call f args=>simp[cn]at h
 |ic x args=>simp[cn]at h
end
end
end
section
open Go
variable {U:cJ}
def bk.cm(b0:Nat)(c:Cell U.D):bk U->bk U
 |.arr b=>match Nat.beq b b0 with
  |true=>.t c
  |false=>.arr b
 |.cH b ty i o=>match Nat.beq b b0 with
  |true=>.dead
  |false=>.cH b ty i o
 |.pre b h=>match Nat.beq b b0 with
  |true=>.dead
  |false=>.pre b h
 |.dK b a len=>match Nat.beq b b0 with
  |true=>.dead
  |false=>.dK b a len
 |x=>x
def bL.cm(b0:Nat)(c:Cell U.D):bL U->bL U
 |.c x=>.c (x.cm b0 c)
 |.agg cs=>.agg (cs.map (bk.cm b0 c))
 |.a6 vs=>.a6 (go b0 c vs)
where go (b0:Nat) (c:Cell U.D):List (bL U)->List (bL U)
 |[]=>[]
 |v::vs=>v.cm b0 c::go b0 c vs
def cO.cm(b0:Nat)(c:Cell U.D):cO U->cO U
 |.box cs=>.box (cs.map (bk.cm b0 c))
 |.b' E x=>.b' E (x.cm b0 c)
 |.cA t l i o x=>.cA t l i o (x.cm b0 c)
 |x=>x
def sx(b0:Nat)(c:Cell U.D):bX U->bX U
 |[]=>[]
 |(k,v)::r=>(k,v.cm b0 c)::sx b0 c r
def nK(b0:Nat)(c:Cell U.D):bh U->bh U
 |[]=>[]
 |(k,x)::r=>match Nat.beq k b0 with
  |true=>nK b0 c r
  |false=>(k,x.cm b0 c)::nK b0 c r
def BK(b:Nat)(t:aN)(env:bX U)(J:bh U):Option (bX U×bh U):=
 match a8 J b with
 |some (.arr a l)=>match Cell.as (.slice t) (⟨.slice a,l⟩:Cell U.D)with
  |some l=>some (sx b ⟨.slice t,l⟩ env,nK b ⟨.slice t,l⟩ J)
  |none=>none
 |some (.rows _ r)=>match mI U t r with
  |some l=>some (sx b ⟨.slice t,l⟩ env,nK b ⟨.slice t,l⟩ J)
  |none=>none
 |_=>some (env,J)
def lg:List (Nat×aN)->bX U->bh U->Option (bX U×bh U)
 |[],env,J=>some (env,J)
 |(b,t)::r,env,J=>match BK b t env J with
  |some (env',J')=>lg r env' J'
  |none=>none
variable{b0 j:Nat}{c:Cell U.D}{es:List (List T)}{t:aN}{cs:List C}{R:Type}
section
variable {kk N:Nat}{J J':bh U}{J1:ba}{env env':bX U}{env1:Env}{G:Nat->Bool}{gl:eB}
theorem Fc:∀{env:bX U} {k:Nat},a8 (sx b0 c env) k=(a8 env k).map (bL.cm b0 c)
 |[],k=>rfl
 |(i,v)::r,k=>by
  simp[sx,a8];cases Nat.beq i k with
  |true=>rfl
  |false=>exact Fc
theorem tY:∀{J:bh U} {k:Nat},a8 (nK b0 c J) k=if k=b0 then none else(a8 J k).map (cO.cm b0 c)
 |[],k=>by simp[nK,a8]
 |(i,x)::r,k=>by
  simp[nK];cases h:Nat.beq i b0 with
  |true=>
   simp[tY,a8];grind[cY]
  |false=>
   simp[a8,tY];grind
theorem cO.Cx{x:cO U}:(x.cm b0 c).db=x.db:=by cases x<;>rfl
theorem cd.cm{b0 sz:Nat}{c:Cell U.D}{es:List (List T)}{A:cO U}(h0:a8 J b0=some A)(E:A.db=some (sz,es.length))(B:c.enc U= .slice es){x:bk U}{d:C}(h:cd N J x d):
 cd N (nK b0 c J) (x.cm b0 c) (d.cm b0 sz es):=by
 cases h with
 |t c=>exact .t c
 |ptr b o=>exact .ptr b o
 |cH b t i o=>
  simp only[bk.cm,C.cm];cases h:Nat.beq b b0 with
  |true=>exact .dead _
  |false=>rw[al (iC h)];exact .cH b t i o
 |dJ t x o=>exact .dJ t x o
 |arr b q n a h=>
  simp only[bk.cm,C.cm];cases e:Nat.beq b b0 with
  |true=>
   have:=cY e;subst this;have:=h A h0 _ E;cases this;rw[ae rfl,ae ⟨rfl,by simp⟩];have:cut es 0 es.length=es:=(by simp[cut]);rw[this,<-B];exact .t c
  |false=>
   rw[al (iC e)];refine .arr b q n a λy j p v=>?_;rw[tY]at j;grind[bB,cO.Cx]
 |sub b w len=>exact .sub b w len
 |pre b q n a h=>
  simp only[bk.cm];cases e:Nat.beq b b0 with
  |true=>exact .dead _
  |false=>
   simp only[C.cm];rw[al (iC e)];refine .pre b q n a λy j p v=>?_;rw[tY,al (iC e)]at j;grind[bB,cO.Cx]
 |dK b q w len a h=>
  simp only[bk.cm];cases e:Nat.beq b b0 with
  |true=>exact .dead _
  |false=>
   refine .dK b q w len a λy j p v=>?_;rw[tY,al (iC e)]at j;grind[bB,cO.Cx]
 |mp b=>exact .mp b
 |ev b=>exact .ev b
 |cL b n a h=>
  refine .cL b n a λy j p v=>?_;grind[tY,bB,cO.Cx]
 |aA=>exact .aA
 |fa=>exact .fa
 |e'=>exact .e'
 |fn f caps=>exact .fn f caps
 |dead d=>exact .dead _
theorem LY:∀{vs:List (bL U)} {i:Nat},(bL.cm.go b0 c vs)[i]?=(vs[i]?).map (bL.cm b0 c)
 |[],i=>by rfl
 |v::vs,0=>by rfl
 |v::vs,i+1=>by simp[bL.cm.go,LY]
theorem KL:∀{vs:List (bL U)},(bL.cm.go b0 c vs).length=vs.length
 |[]=>rfl
 |v::vs=>by simp[bL.cm.go,KL]
theorem cb.cm{sz:Nat}{f:cO U}(h0:a8 J b0=some f)(e:f.db=some (sz,es.length))(a:c.enc U= .slice es){x:bL U}{d:V}(h:cb N J x d):
 cb N (nK b0 c J) (x.cm b0 c) (d.cm b0 sz es):=by
 induction h with
 |c h=>exact .c (h.cm h0 e a)
 |agg h=>exact .agg (a'.map_map (h.imp λ_ _ _ aa=>aa.cm h0 e a))
 |a6 xs j ah h ih=>
  refine .a6 _ _ (by grind[KL,HO]) ?_;grind[LY,Iy]
theorem QC{sz:Nat}{p:cO U}(h0:a8 J b0=some p)(f:p.db=some (sz,es.length))(e:c.enc U= .slice es)(hs:aY J1 b0=some (.arr sz es))(he:c3 N J G env env1)(aI:cz N J J1):
 Conv kk N env1 J1 N (rQ b0 sz es env1) (nv b0 sz es J1)/\c3 N (nK b0 c J) G (sx b0 c env) (rQ b0 sz es env1)/\cz N (nK b0 c J) (nv b0 sz es J1):=by
 refine⟨Conv.freeze b0 hs,λk v n=>?_,λb x g=>?_⟩
 . rw[Fc,bB]at n;obtain⟨v0,h1,rfl⟩:=n;obtain⟨d,j,m⟩:=he k v0 h1;exact⟨_,by grind[AV],m.cm h0 f e⟩
 . rw[tY]at g;split at g
   . grind
   . simp only[bB]at g;obtain⟨q,h1,rfl⟩:=g;obtain⟨j,y,m,a⟩:=aI b q h1;refine⟨j,y.cm b0 sz es,by simp_all[Ep,al],?_⟩;cases a with
     |box a=>exact .box (a'.map_map (a.imp λ_ _ _ aa=>aa.cm h0 f e))
     |arr t l=>exact .arr t l
     |set ks=>exact .set ks
     |buf E s=>exact .buf E s
     |b' a=>exact .b' (a.cm h0 f e)
     |cA t l i o a=>exact .cA t l i o (a.cm h0 f e)
     |rows a bf=>exact .rows a bf
theorem gT.cm(h:gT gl env G):gT gl (sx b0 c env) G:=by
 refine⟨h.free,λk t b e=>?_⟩;obtain⟨y,h1,a⟩:=h.held k t b e;refine⟨y,?_,a⟩;unfold fi at h1⊢;rw[Fc];split at h1
 . rename_i x f;rw[f];exact h1
 grind
theorem aen{α a:Type}{f:α->a}{l:List α}{sz:Nat}:some (sz,l.length)=some (sz,(l.map f).length):=by simp
theorem MB{b:Nat}(h:BK b t env J=some (env',J'))(he:c3 N J G env env1)(aI:cz N J J1):
 ∃f br,Conv kk N env1 J1 N f br/\c3 N J' G env' f/\cz N J' br/\(gT gl env G->gT gl env' G):=by
 unfold BK at h;split at h
 . rename_i k j ah;split at h
   . rename_i l d;have e:=Cell.kf d;cases e;cases h;obtain⟨_,y,h1,a⟩:=aI b _ ah;cases a;obtain⟨k1,k2,k3⟩:=QC (c:=⟨.slice t,l⟩) ah aen rfl h1 he aI;exact⟨_,_,k1,k2,k3,λaq=>aq.cm⟩
   grind
 . rename_i sz r ah;split at h
   . rename_i l d;cases h;obtain⟨_,y,h1,a⟩:=aI b _ ah;cases a with
     | @rows _ _ es a i=>
      have g:=wP d a;obtain⟨k1,k2,k3⟩:=QC (c:=⟨.slice t,l⟩) ah (by simp[cO.db];rw[a.length]) (by rw[<-g];rfl) h1 he aI;exact⟨_,_,k1,k2,k3,λaq=>aq.cm⟩
   grind
 grind[Conv.refl]
theorem zR:∀{l:List (Nat×aN)} {env env':bX U} {J J':bh U} {env1:Env} {J1:ba},lg l env J=some (env',J')->c3 N J G env env1->cz N J J1->
 ∃a br,Conv kk N env1 J1 N a br/\c3 N J' G env' a/\cz N J' br/\(gT gl env G->gT gl env' G)
 |[],env,env',J,J',env1,J1,h,he,aI=>by grind[lg,Conv.refl]
 |(b,t)::r,env,env',J,J',env1,J1,h,he,aI=>by
  simp[lg]at h;split at h
  . rename_i e s h1;obtain⟨aM,s1,k1,k2,k3,k4⟩:=MB h1 he aI;obtain⟨c,j,d,f,g,i⟩:=zR h k2 k3;exact⟨c,j,k1.trans d,f,g,λaq=>i (k4 aq)⟩
  grind
theorem Conv.close{b sz i o:Nat}{t:T}(c:aY J1 b=some (.cA sz es i o (.t t))):
 Conv kk N env1 J1 N env1 (c9 J1 b (.arr sz (es.set i ((el es i).take o++[t]++(el es i).drop (o+1))))):=by
 intro aE nt φ S a w M R;obtain⟨⟨a1,a2,a3,a4,a5,J⟩,⟨vs,E,k1,k2,k3,v,k4,k5⟩,k6⟩:=R.bR.blk _ _ c;have A:es[i]?=some (el es i):=by unfold el;rw[List.getD,fb a5];rfl
 have K:=a3 _ (fl A);refine⟨φ,S,R.put (R.dV _ _ c).1 rfl ⟨by simpa using a1,by simpa using a2,λe he=>?_,a4,λ_=>⟨vs,E,k1,k2,λG j e H he ht=>?_,k6⟩⟩ λh0=>⟨λk y F D x=>R.bR.inj k b y _ F c D x h0,R.own b _ c h0⟩⟩
 . grind
 . rw[CK]at he;by_cases B:i=G
   . subst B;rw[ae rfl,ae a5]at he;cases he;have f:=(oH (vs:=el es i) (off:=o) (xs:=[t]) (by simp;omega) j)
     unfold jy at f;rw[show o+[t].length=o+1 from rfl]at f;rw[f]at ht;by_cases q:j=o
     . subst q;rw[bl,fe,CP]at ht;cases ht;exact⟨v,k4,k5⟩
     . have L:(el es i)[j]?=some H:=by
        by_cases p:j<o
        . rwa [ae p]at ht
        . rwa [al p,bl]at ht
       grind
   grind
def Fe(b:Nat)(env:bX U)(J:bh U):Option (bX U×bh U):=
 match a8 J b with
 |some (.cA t l i o (.t c))=>match Nat.ble (o+1) (t.sz U)with
  |true=>match sy U t l i o [.t c]with
   |some a=>some (env,cE J b (.arr t a))
   |none=>none
  |false=>none
 |_=>none
def QD(b:Nat)(env:bX U)(J:bh U):Option (bX U×bh U):=
 match a8 J b with
 |some (.cA t l i o (.arr b2))=>match (t.row U (t.at U l i))[o]? with
  |some ⟨.slice a,_⟩=>match BK b2 a env J with
   |some (env',J')=>Fe b env' J'
   |none=>none
  |_=>none
 |_=>Fe b env J
def Oz:bh U->Option Nat
 |[]=>none
 |(b,.cA ..)::_=>some b
 |_::r=>Oz r
def J0(env:bX U)(J:bh U):Option (bX U×bh U):=
 match Oz J with
 |none=>some (env,J)
 |some b=>QD b env J
theorem Ma{b:Nat}(h:Fe b env J=some (env',J'))(he:c3 N J G env env1)(aI:cz N J J1):
 ∃e br,Conv kk N env1 J1 N e br/\c3 N J' G env' e/\cz N J' br:=by
 unfold Fe at h;split at h
 . rename_i t l i o c ah;split at h
   . split at h
     . rename_i l2 k;cases h;obtain⟨g,y,h1,d⟩:=aI b _ ah;cases d with
       |cA _ _ _ _ d=>
        cases d;have q:l2.length=List.length l:=by
         grind[sy]
        have f:dn N J N (cE J b (.arr t l2)):=oL (eI _) ah (λp h=>by
         grind[cO.db])
        refine⟨env1,c9 _ b _,?_,he.mono f,aI.put g f (.arr t l2)⟩;by_cases j:i<List.length l
        . obtain⟨ts,aM,m⟩:=IB (N:=N) (J:=J) k j (.cons (.t c) .nil) (by simp_all);have:ts=[c.enc U]:=(by grind[toTs,toT]);have:=Conv.close (kk:=kk) (N:=N) (env1:=env1) h1;grind
        . intro aE nt φ S a w n R;obtain⟨⟨_,_,_,_,a5,_⟩,_⟩:=R.bR.blk _ _ h1;grind
     grind
   grind
 grind
theorem aaj(h:J0 env J=some (env',J'))(he:c3 N J G env env1)(aI:cz N J J1):
 ∃a br,Conv kk N env1 J1 N a br/\c3 N J' G env' a/\cz N J' br:=by
 unfold J0 at h;split at h
 . grind[Conv.refl]
 . unfold QD at h;split at h
   . split at h
     . split at h
       . rename_i e s h1;obtain⟨aM,s1,k1,k2,k3,_⟩:=MB (gl:=[]) h1 he aI;obtain⟨b,g,c,d,f⟩:=Ma h k2 k3;exact⟨b,g,k1.trans c,d,f⟩
       grind
     grind
   . exact Ma h he aI
theorem Conv.own{k:Nat}{g:Bool}{sz:Nat}(p:look env1 k=some (g,.c .aA))(q:0<sz)(A:kk<=N):Conv kk N env1 J1 (N+1) ((k,g,.c (.arr N sz 0 0))::env1) (c9 J1 N (.arr sz [])):=by
 intro aE nt φ S a w y R;have f:=R.Gm q (by omega);have cq:fS φ N (0,0) N=(0,0):=by simp[fS]
 refine⟨fS φ N _,S,⟨f.bR,λi j v ah aq=>?_,λi j v ah aq=>?_,λi j v ah aq=>?_,f.dV,f.size,f.defers,f.ext,f.own,f.fix,f.gO⟩⟩
 . simp[look]at ah;split at ah
   . rename_i e;cases ah;subst e;obtain⟨x,t,o⟩:=f.gN _ _ _ p aq;refine⟨x,t,?_⟩;cases o with
     |c o=>
      obtain⟨a,rfl⟩:=o;refine .c ⟨a,by grind,λh=>absurd (by grind) h,by simp⟩
   . exact f.gN i j v ah aq
 . simp[look]at ah;split at ah
   . rename_i e;cases ah;subst e;exact f.hK _ _ _ p aq
   . exact f.hK i j v ah aq
 . simp only[look]at ah;split at ah
   . grind[V.aF,C.aF,lt]
   . exact f.gM i j v ah aq
theorem Conv.aiZ{b:Nat}{sz:Nat}(P:aY J1 b=some (.box cs))(G:cs[j]?=some .aA)(Q:b<N)(K:0<sz)(W:kk<=N):
 Conv kk N env1 J1 (N+1) env1 (c9 (c9 J1 N (.arr sz [])) b (.box (cs.set j (.arr N sz 0 0)))):=by
 intro aE nt φ S a w U R;have e:=R.Gm K (by omega);have cq:fS φ N (0,0) N=(0,0):=by simp[fS]
 have B:aY (c9 J1 N (.arr sz [])) b=some (.box cs):=by rw[c0];grind
 have D:∀c x,aY (c9 (c9 J1 N (.arr sz [])) b (.box (cs.set j (.arr N sz 0 0)))) c=some x->(c=b/\x= .box (cs.set j (.arr N sz 0 0)))\/aY (c9 J1 N (.arr sz [])) c=some x:=by
  grind[c0]
 have o:∀c x,aY (c9 (c9 J1 N (.arr sz [])) b (.box (cs.set j (.arr N sz 0 0)))) c=some x->∃y,aY (c9 J1 N (.arr sz [])) c=some y:=by grind
 refine⟨fS φ N _,S,⟨⟨λc x f=>?_,λc t x y f L H=>?_,e.bR.st⟩,e.gN,e.hK,e.gM,λc x f=>?_,e.size,e.defers,e.ext,λc x f=>?_,e.fix,e.gO⟩⟩
 . rcases D c x f with⟨rfl,rfl⟩|h
   . obtain⟨h0,vs,E,h1,A,F⟩:=e.bR.blk _ _ B;refine⟨h0,vs,E,h1,?_,F⟩;obtain⟨v,Y,J⟩:=A.get G;obtain⟨a,rfl⟩:=J;have:=a'.set (i:=j) A (a:= .arr N sz 0 0) (b:= .slice a 0 0) ⟨a,by grind,λh=>absurd (by grind) h,by simp⟩;have X:vs.set j (.slice a 0 0)=vs:=by
      apply yM;grind
     grind
   . exact e.bR.blk c x h
 . obtain⟨q,p⟩:=o c x f;obtain⟨O,M⟩:=o t y L;exact e.bR.inj c t q O p M H
 . rcases D c x f with⟨rfl,rfl⟩|h
   . have:=(e.dV _ _ B).2;grind[bV.aF,List.mem_or_eq_of_mem_set,C.aF,lt]
   . exact e.dV c x h
 . obtain⟨q,p⟩:=o c x f;exact e.own c q p
theorem Conv.trim{q b:Nat}{sz h:Nat}(U:aY J1 q=some (.box cs))(X:cs[j]?=some (.arr b sz 0 h))(O:aY J1 b=some (.arr sz es))(aa:h<=es.length)(a0:q<N):
 Conv kk N env1 J1 (N+1) env1 (c9 (c9 (ia J1 b) N (.arr sz (es.take h))) q (.box (cs.set j (.arr N sz 0 h)))):=by
 intro aE nt φ S a w aC R;have ax:b<N:=by have:=(R.dV _ _ O).1;grind[lt]
 have W:∀c,lt N c=true->fS φ N (φ b) c=φ c:=by
  intro c t;simp only[lt,e4]at t;grind[fS]
 have D:∀c,lt N c=true->lt (N+1) c=true:=λc t=>Qz (by omega) t;have f:=R.zp W;have cq:fS φ N (φ b) N=φ b:=by simp[fS]
 have P:=W b (by grind[lt]);have Q:∀c x,aY (c9 (c9 (ia J1 b) N (.arr sz (es.take h))) q (.box (cs.set j (.arr N sz 0 h)))) c=some x->(c=q/\x= .box (cs.set j (.arr N sz 0 h)))\/(c≠q/\c=N/\x= .arr sz (es.take h))\/(c≠q/\c≠N/\c≠b/\aY J1 c=some x):=by
  grind[c0,fN]
 have H:∀c x,aY (c9 (c9 (ia J1 b) N (.arr sz (es.take h))) q (.box (cs.set j (.arr N sz 0 h)))) c=some x->∃A y,aY J1 A=some y/\fS φ N (φ b) c=fS φ N (φ b) A/\(A=if c=N then b else c):=by grind
 refine⟨fS φ N (φ b),S,⟨⟨λc x o=>?_,λc A x y o am aL=>?_,f.bR.st⟩,f.gN,f.hK,λk g v ah aq=>V.hv D (f.gM k g v ah aq),λc x o=>?_,f.size,f.defers,f.ext,λc x o h0=>?_,f.fix,λc t=>by have:=f.gO c t;exact D c this⟩⟩
 . rcases Q c x o with⟨rfl,rfl⟩|⟨_,rfl,rfl⟩|⟨_,_,_,p⟩
   . obtain⟨h0,vs,E,h1,B,G⟩:=f.bR.blk _ _ U;refine⟨h0,vs,E,h1,?_,G⟩;obtain⟨v,a2,Y⟩:=B.get X;have Z:bq (fS φ N (φ b)) w S (.arr N sz 0 h) v:=by
      obtain⟨a,aM,F,c2⟩:=Y;rw[P]at aM F c2;exact⟨a,by rw[cq];exact aM,by rw[cq];exact F,by rw[cq];exact c2⟩
     have:=a'.set (i:=j) B Z;have a1:vs.set j v=vs:=by
      apply yM;grind
     grind
   . obtain⟨h0,h1,B,G,p⟩:=f.bR.blk _ _ O;rw[P]at h0 p;refine⟨by rw[cq,uQ];omega,by rw[uQ];omega,λe he=>B e (uP he),G,λt=>?_⟩;grind
   . exact f.bR.blk c x p
 . obtain⟨d,K,J,aM,F⟩:=H c x o;obtain⟨L,ap,an,c2,h5⟩:=H A y am;have b7:d≠L:=(by grind);intro h0 M;rw[aM]at h0⊢;rw[c2]at M⊢;exact f.bR.inj d L K ap J an b7 h0 M
 . rcases Q c x o with⟨rfl,rfl⟩|⟨_,rfl,rfl⟩|⟨_,_,_,p⟩
   . have:=(f.dV _ _ U).2;grind[bV.aF,List.all_eq_true,List.mem_or_eq_of_mem_set,C.hv,C.aF,lt]
   . exact⟨by simp[lt],rfl⟩
   . exact⟨D c (f.dV c x p).1,bV.hv D (f.dV c x p).2⟩
 . obtain⟨d,K,J,aM,_⟩:=H c x o;rw[aM]at h0⊢;exact f.own d K J h0
def wQ:Nat->List (bk U)->Option (Nat×Nat×Nat)
 |_,[]=>none
 |j,.pre b h::_=>some (j,b,h)
 |j,_::r=>wQ (j+1) r
def rJ(J:bh U):bh U->Option (Nat×List (bk U)×Nat×Nat×Nat)
 |[]=>none
 |(q,.box cs)::r=>match a8 J q with
  |some (.box a)=>match wQ 0 a with
   |some p=>some (q,a,p)
   |none=>rJ J r
  |_=>rJ J r
 |_::r=>rJ J r
theorem LZ:∀{cs:List (bk U)} {j i b h:Nat},wQ j cs=some (i,b,h)->j<=i/\cs[i-j]?=some (.pre b h)
 |[],j,i,b,h,a=>by grind[wQ]
 |c::r,j,i,b,h,a=>by
  have next:wQ (j+1) r=some (i,b,h)->j<=i/\(c::r)[i-j]?=some (.pre b h):=by
   intro a;obtain⟨h1,f⟩:=LZ a;grind
  cases c with
  |pre d e=>grind[wQ,Option.some.injEq]
  |_=>exact next a
theorem Dy{q:Nat}{cs:List (bk U)}{i b h:Nat}:∀{l:bh U},rJ J l=some (q,cs,i,b,h)->a8 J q=some (.box cs)/\cs[i]?=some (.pre b h)
 |[],a=>by simp[rJ]at a
 |(k,x)::r,a=>by
  cases x with
  |box e=>
   simp[rJ]at a;split at a
   . rename_i f c;split at a
     . rename_i p d;obtain⟨rfl,rfl,rfl⟩:=a;exact⟨c,by simpa using(LZ d).2⟩
     . exact Dy a
   . exact Dy a
  |_=>exact Dy (by simpa[rJ]using a)
def Fy{R:Type}(J:bh U)(N:Nat)(k:bh U->Nat->Option R):Option R:=
 match rJ J J with
 |none=>k J N
 |some (q,cs,j,b,h)=>match a8 J b with
  |some (.arr t l)=>if (h<=l.length:Bool) then k (cE (cE (dl J b) N (.arr t (l.take h))) q (.box (cs.set j (.arr N)))) (N+1)else none
  |_=>none
theorem MC{q b h0:Nat}{cs:List (bk U)}{x:bk U}{l:List (t.den U.D)}(w:a8 J q=some (.box cs))(v:cs[j]?=some x)(o:a8 J b=some (.arr t l))(a:∀d,cd N J x d->d= .arr b (t.sz U) 0 h0)(K:h0<=l.length)
 (he:c3 N J G env env1)(aI:cz N J J1):
 ∃br,Conv kk N env1 J1 (N+1) env1 br/\c3 (N+1) (cE (cE (dl J b) N (.arr t (l.take h0))) q (.box (cs.set j (.arr N)))) G env env1/\cz (N+1) (cE (cE (dl J b) N (.arr t (l.take h0))) q (.box (cs.set j (.arr N)))) br:=by
 obtain⟨B,O,A,f⟩:=aI q _ w;obtain⟨I,M,r,s⟩:=aI b _ o;cases s;cases f with
 | @box _ F f=>
  obtain⟨d,u,E⟩:=f.get v;have:=a d E;subst this;have C:q≠b:=by grind
  have k1:dn N J N (dl J b):=uG;have k2:dn N (dl J b) (N+1) (cE (dl J b) N (.arr t (l.take h0))):=lz;have z:a8 (cE (dl J b) N (.arr t (l.take h0))) q=some (.box cs):=by rw[hR,bl,oQ,al (λe=>C e.symm)];grind
  have k3:dn (N+1) (cE (dl J b) N (.arr t (l.take h0))) (N+1) (cE (cE (dl J b) N (.arr t (l.take h0))) q (.box (cs.set j (.arr N)))):=oL (eI _) z (λp h=>by grind[cO.db]);have i:=(k1.trans k2).trans k3;have n:cz N (dl J b) (ia J1 b):=by
   intro c x a;rw[oQ]at a;split at a
   . grind
   . obtain⟨k,y,H,m⟩:=aI c x a;exact⟨k,y,by simp_all[fN,al],m.mono k1⟩
  refine⟨_,Conv.trim A u r (by grind) B,he.mono i,?_⟩;rw[<-List.map_take];refine(n.put (by simp) k2 (.arr t (l.take h0))).put (by omega) k3 (.box ?_);refine a'.set (f.imp λ_ _ _ g=>g.mono i) (.arr N _ _ (by simp) λx a p L=>?_);rw[hR,hR,ae rfl]at a;grind[cO.db,Option.some.injEq,List.length_take,Nat.min_eq_left]
theorem L0{k:bh U->Nat->Option R}{r:R}(h:Fy J N k=some r)(he:c3 N J (λ_=>true) env env1)(aI:cz N J J1):
 ∃J' N' br,k J' N'=some r/\Conv kk N env1 J1 N' env1 br/\c3 N' J' (λ_=>true) env env1/\cz N' J' br/\N<=N':=by
 unfold Fy at h;split at h
 . exact⟨J,N,J1,h,Conv.refl,he,aI,eI _⟩
 . rename_i q cs j b h0 e;obtain⟨g,f⟩:=Dy e;split at h
   . rename_i t l a;split at h
     . obtain⟨s1,m,n,o⟩:=MC (kk:=kk) (h0:=h0) g f a (λd i=>by
        cases i with
        |pre _ sz _ _ c=>
         have c:=c _ a _ rfl
         grind) (by grind) he aI
       grind
     grind
   grind
def tZ(kk:Nat):Nat->List (bk U)->Option (Nat×Nat)
 |_,[]=>none
 |j,.arr b::r=>match Nat.ble (b+1) kk with
  |true=>some (j,b)
  |false=>tZ kk (j+1) r
 |j,_::r=>tZ kk (j+1) r
def rK(kk:Nat)(J:bh U):bh U->Option (Nat×List (bk U)×Nat×Nat)
 |[]=>none
 |(q,.box _)::r=>match a8 J q with
  |some (.box cs)=>match tZ kk 0 cs with
   |some p=>some (q,cs,p)
   |none=>rK kk J r
  |_=>rK kk J r
 |_::r=>rK kk J r
theorem L1:∀{cs:List (bk U)} {j i b:Nat},tZ kk j cs=some (i,b)->j<=i/\cs[i-j]?=some (.arr b)
 |[],j,i,b,a=>by grind[tZ]
 |c::r,j,i,b,a=>by
  have next:tZ kk (j+1) r=some (i,b)->j<=i/\(c::r)[i-j]?=some (.arr b):=by
   intro a;obtain⟨h1,e⟩:=L1 a;grind
  cases c with
  |arr d=>
   grind[tZ]
  |_=>exact next a
theorem Dz{kk q:Nat}{cs:List (bk U)}{i b:Nat}:∀{l:bh U},rK kk J l=some (q,cs,i,b)->a8 J q=some (.box cs)/\cs[i]?=some (.arr b)
 |[],a=>by grind[rK]
 |(k,x)::r,a=>by
  cases x with
  |box e=>
   simp only[rK]at a;split at a
   . rename_i f c;split at a
     . rename_i p d;obtain⟨rfl,rfl,rfl⟩:=a;exact⟨c,by simpa using(L1 d).2⟩
     . exact Dz a
   . exact Dz a
  |_=>exact Dz (by simpa[rK]using a)
def Fs{R:Type}(kk:Nat)(J:bh U)(k:bh U->Nat->Option R):Option R:=
 match rK kk J J with
 |none=>k J kk
 |some (q,cs,j,b)=>match a8 J b with
  |some (.arr t l)=>k (cE (cE (dl J b) kk (.arr t l)) q (.box (cs.set j (.arr kk)))) (kk+1)
  |_=>k J kk
theorem aa1{k:bh U->Nat->Option R}{r:R}(h:Fs kk J k=some r)(he:c3 kk J (λ_=>true) env env1)(aI:cz kk J J1):
 ∃J' N' br,k J' N'=some r/\Conv kk kk env1 J1 N' env1 br/\c3 N' J' (λ_=>true) env env1/\cz N' J' br/\kk<=N':=by
 unfold Fs at h;split at h
 . exact⟨J,kk,J1,h,Conv.refl,he,aI,eI _⟩
 . rename_i q cs j b e;obtain⟨g,f⟩:=Dz e;split at h
   . rename_i t l a
     obtain⟨s1,m,o,p⟩:=MC (kk:=kk) g f a (λd i=>by
      cases i with
      |arr _ sz n _ c=>
       have c:=c _ a _ rfl
       grind) (eI _) he aI
     grind
   . exact⟨J,kk,J1,h,Conv.refl,he,aI,eI _⟩
inductive Pos where
 |slot (k:Nat)
 |cell (b j:Nat)
 |via (k j:Nat)
def BM(b j:Nat)(t:aN)(env:bX U)(J:bh U)(N:Nat):Option (bX U×bh U):=
 match a8 J b with
 |some (.box cs)=>match cs[j]? with
  |some .aA=>some (env,cE (cE J N (.arr t [])) b (.box (cs.set j (.arr N))))
  |_=>some (env,J)
 |_=>none
def IW(p:Pos)(t:aN)(env:bX U)(J:bh U)(N:Nat):Option (bX U×bh U):=
 match p with
 |.slot k=>match a8 env k with
  |some (.c .aA)=>some ((k,.c (.arr N))::env,cE J N (.arr t []))
  |_=>some (env,J)
 |.cell b j=>BM b j t env J N
 |.via k j=>match a8 env k with
  |some (.c (.ptr b _))=>BM b j t env J N
  |_=>none
def Fu:List (Pos×aN)->bX U->bh U->Nat->Option (bX U×bh U×Nat)
 |[],env,J,N=>some (env,J,N)
 |(p,t)::r,env,J,N=>match IW p t env J N with
  |some (env',J')=>Fu r env' J' (N+1)
  |none=>none
theorem NG{t:aN}(he:c3 N J (λ_=>true) env env1)(aI:cz N J J1)(i:kk<=N):∃c br,Conv kk N env1 J1 (N+1) c br/\c3 (N+1) J (λ_=>true) env c/\cz (N+1) J br:=by
 refine⟨env1,c9 _ N (.arr 1 []),λaE nt φ S a w g R=>⟨_,S,R.Gm (by simp) (by omega)⟩,he.mono (dn.more (by simp)),λb x e=>?_⟩;obtain⟨h1,y,f,d⟩:=aI b x e;exact⟨by omega,y,by grind[c0],d.mono (dn.more (by simp))⟩
theorem Ii{b:Nat}(h:BM b j t env J N=some (env',J'))(he:c3 N J (λ_=>true) env env1)(aI:cz N J J1)(g:kk<=N):
 ∃f br,Conv kk N env1 J1 (N+1) f br/\c3 (N+1) J' (λ_=>true) env' f/\cz (N+1) J' br:=by
 have same:=NG (t:=t) he aI g;unfold BM at h;split at h
 . rename_i cs k;split at h
   . rename_i n;cases h;obtain⟨i,y,h1,a⟩:=aI b _ k;cases a with
     | @box _ r a=>
      obtain⟨d,m,o⟩:=a.get n;cases o;have c:dn N J (N+1) (cE J N (.arr t [])):=lz;have l:a8 (cE J N (.arr t [])) b=some (.box cs):=by rw[hR];grind
      have e:dn (N+1) _ (N+1) (cE _ b (.box (cs.set j (.arr N)))):=oL (eI _) l (λp h=>by grind[cO.db]);refine⟨_,_,Conv.aiZ h1 m i (aN.xH (t:=t) (U:=U)) g,(he.mono c).mono e,(aI.put (by simp) c (.arr t [])).put (by omega) e (.box ?_)⟩;refine a'.set (a.imp λ_ _ _ h=>(h.mono c).mono e) (.arr N _ _ (by simp) λx q p s=>?_);rw[hR,hR]at q;grind[cO.db]
   grind
 grind
theorem aa2{p:Pos}(h:IW p t env J N=some (env',J'))(he:c3 N J (λ_=>true) env env1)(aI:cz N J J1)(e:kk<=N):
 ∃d br,Conv kk N env1 J1 (N+1) d br/\c3 (N+1) J' (λ_=>true) env' d/\cz (N+1) J' br:=by
 have same:=NG (t:=t) he aI e;unfold IW at h;split at h
 . rename_i k;split at h
   . rename_i j;cases h;obtain⟨v1,h1,g⟩:=he k _ j;have:=g.vn;subst this;have f:dn N J (N+1) (cE J N (.arr t [])):=lz;refine⟨_,_,Conv.own h1 (aN.xH (t:=t) (U:=U)) e,λi v a=>?_,aI.put (by simp) f (.arr t [])⟩;simp only[a8]at a;simp only[look];split at a
     . rename_i b;cases a;rw[ae (cY b)];refine⟨_,rfl,.c (.arr N _ _ (by simp) λx l p m=>?_)⟩;rw[hR,ae rfl]at l;grind[cO.db]
     . rename_i b;rw[al (iC b)];exact(he.mono f) i v a
   grind
 . grind[Ii]
 grind[Ii]
def J3:List (bk U)->List Bool->Bool
 |[],[]=>true
 |.t _::cs,false::bs=>J3 cs bs
 |.aA::cs,true::bs=>J3 cs bs
 |_,_=>false
def Ut(cs:List (bk U)):List (List Bool×Nat×aN)->Option (Nat×aN)
 |[]=>none
 |(bs,p)::r=>match J3 cs bs with
  |true=>some p
  |false=>Ut cs r
def Kn(l:List (List Bool×Nat×aN)):bh U->Option (Nat×Nat×aN)
 |[]=>none
 |(q,.box cs)::r=>match Ut cs l with
  |some p=>some (q,p)
  |none=>Kn l r
 |_::r=>Kn l r
def Fw{R:Type}(env:bX U)(J:bh U)(N:Nat)(k:bX U->bh U->Nat->Option R):Option R:=
 match Kn U.own J with
 |none=>Fy J N λJ N=>k env J N
 |some (q,j,t)=>match BM q j t env J N with
  |some (env,J)=>Fy J (N+1) λJ N=>k env J N
  |none=>none
theorem L2{k:bX U->bh U->Nat->Option R}{r:R}(h:Fw env J N k=some r)(he:c3 N J (λ_=>true) env env1)(aI:cz N J J1)(n:kk<=N):
 ∃env' J' N' f br,k env' J' N'=some r/\Conv kk N env1 J1 N' f br/\c3 N' J' (λ_=>true) env' f/\cz N' J' br/\N<=N':=by
 unfold Fw at h;split at h
 . obtain⟨q,i,p,a,b,c,d,g⟩:=L0 h he aI;exact⟨_,_,_,_,_,a,b,c,d,g⟩
 . split at h
   . rename_i e s o;obtain⟨aM,s1,j,l,m⟩:=Ii o he aI n;obtain⟨q,i,p,a,b,c,d,g⟩:=L0 h l m;exact⟨_,_,_,_,_,a,j.trans b,c,d,by omega⟩
   grind
theorem MD:∀{l:List (Pos×aN)} {env env':bX U} {J J':bh U} {N N':Nat} {env1:Env} {J1:ba},Fu l env J N=some (env',J',N')->c3 N J (λ_=>true) env env1->cz N J J1->kk<=N->
 ∃a br,Conv kk N env1 J1 N' a br/\c3 N' J' (λ_=>true) env' a/\cz N' J' br/\N<=N'
 |[],env,env',J,J',N,N',env1,J1,h,he,aI,b=>by obtain⟨rfl,rfl,rfl⟩:=h;exact⟨env1,J1,Conv.refl,he,aI,eI _⟩
 |(p,t)::r,env,env',J,J',N,N',env1,J1,h,he,aI,b=>by
  simp[Fu]at h;split at h
  . rename_i e s h1;obtain⟨aM,s1,k1,k2,k3⟩:=aa2 h1 he aI b;obtain⟨c,i,d,f,g,j⟩:=MD h k2 k3 (by omega);exact⟨c,i,k1.trans d,f,g,by omega⟩
  grind
end
end
section
open Go
variable {U:cJ}
inductive kF where
 |hole (ty:aN)
 |ptr (b o:Nat)
 |cH (b:Nat)(ty:aN)(o:Nat)
 |dJ (ty:aN)(o:Nat)
 |arr (b:Nat)
 |mp (b:Nat)
 |cL (b:Nat)
 |aA
 |fa
 |e'
 |fn (f:Nat)(caps:a7)
 |dead
inductive e7 where
 |c (s:kF)
 |agg (l:List kF)
 |row (n:Nat)
 |a6 (l:List e7)
inductive fL where
 |box (l:List kF)
 |arr (ty:aN)
 |bc (n:Nat)
 |gone
 |set
 |buf (E:Nat)
 |b' (E:Nat)(s:kF)
structure Shape where
 env:List (Nat×e7)
 st:List fL
abbrev eN(U:cJ):=List (Cell U.D)
def vz:kF->eN U->bk U×eN U
 |.hole _,c::r=>(.t c,r)
 |.hole _,[]=>(.dead,[])
 |.ptr b o,r=>(.ptr b o,r)
 |.cH b ty o,⟨.int _,n⟩::r=>(.cH b ty (Int.toNat n) o,r)
 |.cH _ _ _,r=>(.dead,r)
 |.dJ _ o,c::r=>(.dJ c.ty c.val o,r)
 |.dJ _ _,[]=>(.dead,[])
 |.arr b,r=>(.arr b,r)
 |.mp b,r=>(.mp b,r)
 |.cL b,r=>(.cL b,r)
 |.aA,r=>(.aA,r)
 |.fa,r=>(.fa,r)
 |.e',r=>(.e',r)
 |.fn f caps,r=>(.fn f caps,r)
 |.dead,r=>(.dead,r)
def yB:List kF->eN U->List (bk U)×eN U
 |[],r=>([],r)
 |s::ss,r=>match vz s r with
  |(x,a)=>match yB ss a with
   |(xs,b)=>(x::xs,b)
mutual
def mr:e7->eN U->bL U×eN U
 |.c s,r=>match vz s r with
  |(x,a)=>(.c x,a)
 |.agg l,r=>match yB l r with
  |(xs,a)=>(.agg xs,a)
 |.row _,c::r=>(.agg ((c.ty.row U c.val).map .t),r)
 |.row _,[]=>(.a6 [],[])
 |.a6 l,r=>match kZ l r with
  |(xs,a)=>(.a6 xs,a)
def kZ:List e7->eN U->List (bL U)×eN U
 |[],r=>([],r)
 |s::ss,r=>match mr s r with
  |(x,a)=>match kZ ss a with
   |(xs,e)=>(x::xs,e)
end
def Cw:List (Nat×e7)->eN U->bX U×eN U
 |[],r=>([],r)
 |(k,s)::ss,r=>match mr s r with
  |(x,a)=>match Cw ss a with
   |(xs,b)=>((k,x)::xs,b)
def j1:fL->eN U->Option (cO U)×eN U
 |.box l,r=>match yB l r with
  |(xs,a)=>(some (.box xs),a)
 |.arr _,⟨.slice t,l⟩::r=>(some (.arr t l),r)
 |.arr _,r=>(none,r)
 |.bc _,c::r=>(some (.box ((c.ty.row U c.val).map .t)),r)
 |.bc _,[]=>(none,[])
 |.gone,r=>(none,r)
 |.set,⟨.slice .str,l⟩::r=>(some (.set l),r)
 |.set,r=>(none,r)
 |.buf E,⟨.str,s⟩::r=>(some (.buf E s),r)
 |.buf _,r=>(none,r)
 |.b' E s,r=>match vz s r with
  |(x,a)=>(some (.b' E x),a)
def hN:Nat->List fL->eN U->bh U
 |_,[],_=>[]
 |j,s::ss,r=>match j1 s r with
  |(some x,a)=>(j,x)::hN (j+1) ss a
  |(none,a)=>hN (j+1) ss a
def qY{α:Type}:List α->Nat->Option α
 |[],_=>none
 |a::_,0=>some a
 |_::l,n+1=>qY l n
theorem Ff{α:Type}:∀{l:List α} {n:Nat},qY l n=l[n]?
 |[],n=>by rfl
 |a::l,0=>by rfl
 |a::l,n+1=>by simp[qY,Ff]
def qZ(bs:a7)(j b:Nat):Bool:=match qY bs j with
 |some a=>Nat.beq a b
 |none=>false
def B3(bs:a7):a7->a7->Bool
 |[],[]=>true
 |j::a,c::cs=>qZ bs j c&&B3 bs a cs
 |_,_=>false
def He(ty:aN):bk U->Option (Cell U.D)
 |.t c=>match Cell.as ty c with
  |some x=>some ⟨ty,x⟩
  |none=>none
 |.aA=>match ty with
  |.slice t=>some ⟨.slice t,([]:List (t.den U.D))⟩
  |_=>none
 |_=>none
def x3(bs:a7):kF->bk U->Option (eN U)
 |.hole ty,x=>match He ty x with
  |some c=>some [c]
  |none=>none
 |.ptr j o,.ptr b a=>match qZ bs j b&&Nat.beq o a with
  |true=>some []
  |false=>none
 |.cH j ty o,.cH b d i a=>match qZ bs j b&&(Nat.beq o a&&aN.beq ty d)with
  |true=>some [⟨.int .i64,(i:Int)⟩]
  |false=>none
 |.dJ ty o,.dJ d x a=>match Nat.beq o a,Cell.as ty (⟨d,x⟩:Cell U.D)with
  |true,some x=>some [⟨ty,x⟩]
  |_,_=>none
 |.arr j,.arr b=>match qZ bs j b with
  |true=>some []
  |false=>none
 |.mp j,.mp b=>match qZ bs j b with
  |true=>some []
  |false=>none
 |.cL j,.cL b=>match qZ bs j b with
  |true=>some []
  |false=>none
 |.aA,.aA=>some []
 |.fa,.fa=>some []
 |.e',.e'=>some []
 |.fn f g,.fn e cs=>match Nat.beq f e&&B3 bs g cs with
  |true=>some []
  |false=>none
 |.dead,_=>some []
 |_,_=>none
def qT(bs:a7):List kF->List (bk U)->Option (eN U)
 |[],[]=>some []
 |s::ss,x::xs=>match x3 bs s x,qT bs ss xs with
  |some a,some b=>some (a++b)
  |_,_=>none
 |_,_=>none
mutual
def jZ(bs:a7):e7->bL U->Option (eN U)
 |.c s,.c x=>x3 bs s x
 |.agg l,.agg xs=>qT bs l xs
 |.row n,.agg xs=>match qM U (.nm n) xs with
  |some x=>some [⟨.nm n,x⟩]
  |none=>none
 |.a6 l,.a6 xs=>mT bs l xs
 |_,_=>none
def mT(bs:a7):List e7->List (bL U)->Option (eN U)
 |[],[]=>some []
 |s::ss,x::xs=>match jZ bs s x,mT bs ss xs with
  |some a,some b=>some (a++b)
  |_,_=>none
 |_,_=>none
end
def x4(bs:a7)(env:bX U):List (Nat×e7)->Option (eN U)
 |[]=>some []
 |(k,s)::ss=>match a8 env k with
  |some x=>match jZ bs s x,x4 bs env ss with
   |some a,some b=>some (a++b)
   |_,_=>none
  |none=>none
def pb(bs:a7):fL->cO U->Option (eN U)
 |.box l,.box xs=>qT bs l xs
 |.arr ty,.arr t l=>match Cell.as (.slice ty) (⟨.slice t,l⟩:Cell U.D)with
  |some l=>some [⟨.slice ty,l⟩]
  |none=>none
 |.arr ty,.rows sz r=>match Nat.beq (ty.sz U) sz,mI U ty r with
  |true,some l=>some [⟨.slice ty,l⟩]
  |_,_=>none
 |.bc n,.box xs=>match qM U (.nm n) xs with
  |some x=>some [⟨.nm n,x⟩]
  |none=>none
 |.set,.set l=>some [⟨.slice .str,l⟩]
 |.buf E,.buf a s=>match Nat.beq E a with
  |true=>some [⟨.str,s⟩]
  |false=>none
 |.b' E s,.b' a x=>match Nat.beq E a with
  |true=>x3 bs s x
  |false=>none
 |_,_=>none
def iV(bs:a7)(J:bh U):Nat->List fL->Option (eN U)
 |_,[]=>some []
 |j,.gone::ss=>iV bs J (j+1) ss
 |j,s::ss=>match qY bs j with
  |some b=>match a8 J b with
   |some x=>match pb bs s x,iV bs J (j+1) ss with
    |some a,some r=>some (a++r)
    |_,_=>none
   |none=>none
  |none=>none
variable{a:eN U}{ss:List fL}
section
variable {kk N:Nat}{J Jc:bh U}{J1:ba}{env:bX U}{env1:Env}{bs:a7}
def Can(bs:a7)(J Jc:bh U):Prop:=∀j b a,bs[j]?=some b->a8 Jc j=some a->∃x,a8 J b=some x/\∀p,a.db=some p->x.db=some p
theorem nd(b7:bs.Nodup){j b:Nat}(h:bs[j]?=some b):pos bs b=some j:=by
 induction bs generalizing j with
 |nil=>grind
 |cons a bs ih=>
  grind[pos]
theorem xq{j b:Nat}(h:qZ bs j b=true):bs[j]?=some b:=by
 unfold qZ at h;rw[Ff]at h;split at h
 all_goals simp_all
theorem ME(b7:bs.Nodup):∀{a cs:a7},B3 bs a cs=true->qt bs cs=some a
 |[],[],_=>rfl
 |j::a,c::cs,h=>by
  simp[B3]at h;simp[qt,nd b7 (xq h.1),ME b7 h.2]
theorem aaz{ty:aN}{x:bk U}{c:Cell U.D}{d:C}(h:He ty x=some c)(a:cd N J x d):dA (d.bU bs) (.t (c.enc U))/\c.ty=ty:=by
 unfold He at h;split at h
 . split at h
   . rename_i e y b;cases h;rw[Cell.kf b]at a;cases a;exact⟨dA.refl _,rfl⟩
   grind
 . split at h
   . cases h;cases a;exact⟨dA.aA,rfl⟩
   grind
 grind
theorem IC(b7:bs.Nodup)(v:Can bs J Jc){s:kF}{x:bk U}(h:x3 bs s x=some a):
 ∃y,(∀r,vz s (a++r)=(y,r))/\∀d,cd N J x d->∃u,dA (d.bU bs) u/\cd bs.length Jc y u:=by
 unfold x3 at h;split at h
 . split at h
   . rename_i c B;cases h;exact⟨.t c,λr=>rfl,λd g=>⟨_,(aaz B g).1,.t c⟩⟩
   grind
 . rename_i j o b w;split at h
   . rename_i k;simp only[c7]at k;have:=cY k.2;subst this;cases h;refine⟨.ptr j o,λr=>rfl,λd g=>⟨.ptr j o,?_,.ptr j o⟩⟩;cases g;simp only[C.bU,nd b7 (xq k.1)];exact dA.refl _
   grind
 . rename_i j ty o b G i w;split at h
   . rename_i k;simp only[c7]at k;have:=cY k.2.1;subst this;have:=aN.beq_eq k.2.2;subst this;cases h;refine⟨.cH j ty i o,λr=>rfl,λd g=>⟨.cH j (ty.sz U) i o,?_,.cH j ty i o⟩⟩;cases g;simp only[C.bU,nd b7 (xq k.1)];exact dA.refl _
   grind
 . rename_i ty o G x w;split at h
   . rename_i y D F;have:=cY D;subst this;cases h;have e:=Cell.kf F;cases e;refine⟨.dJ ty y o,λr=>rfl,λd g=>⟨d,?_,?_⟩⟩
     . cases g;exact dA.refl _
     . cases g;exact .dJ ty y o
   grind
 . rename_i j b;split at h
   . rename_i k;cases h;refine⟨.arr j,λr=>rfl,λd g=>?_⟩;cases g with
     |arr _ sz n A aa=>
      have l:=xq k;refine⟨.arr j sz 0 n,?_,.arr j sz n (dQ.1 l).1 λx m p E=>?_⟩
      . simp only[C.bU,nd b7 l];exact dA.refl _
      . obtain⟨H,h1,z⟩:=v j b x l m;grind
   grind
 . rename_i j b;split at h
   . rename_i k;cases h;refine⟨.mp j,λr=>rfl,λd g=>?_⟩;cases g;refine⟨.mp j,?_,.mp j⟩;simp only[C.bU,nd b7 (xq k)];exact dA.refl _
   grind
 . rename_i j b;split at h
   . rename_i k;cases h;refine⟨.cL j,λr=>rfl,λd g=>?_⟩;cases g with
     |cL _ n A aa=>
      have l:=xq k;refine⟨.cL j n,?_,.cL j n (dQ.1 l).1 λx m p E=>?_⟩
      . simp only[C.bU,nd b7 l];exact dA.refl _
      . obtain⟨H,h1,z⟩:=v j b x l m;grind
   grind
 . cases h;exact⟨.aA,λr=>rfl,λd g=>by cases g;exact⟨.aA,dA.refl _,.aA⟩⟩
 . cases h;exact⟨.fa,λr=>rfl,λd g=>by cases g;exact⟨.fa,dA.refl _,.fa⟩⟩
 . cases h;exact⟨.e',λr=>rfl,λd g=>by cases g;exact⟨.e',dA.refl _,.e'⟩⟩
 . rename_i f q I cs;split at h
   . rename_i k;simp only[c7]at k;have:=cY k.1;subst this;cases h;refine⟨.fn f q,λr=>rfl,λd g=>⟨.fn f q,?_,.fn f q⟩⟩;cases g;simp only[C.bU,ME b7 k.2];exact dA.refl _
   grind
 . cases h;exact⟨.dead,λr=>rfl,λd g=>⟨.dead,dA.dead _,.dead _⟩⟩
 . cases h
theorem Ij(b7:bs.Nodup)(f:Can bs J Jc):∀{ss:List kF} {xs:List (bk U)} {a:eN U},qT bs ss xs=some a->
 ∃d,(∀r,yB ss (a++r)=(d,r))/\∀b,a' (cd N J) xs b->∃c,a' dA (b.map (C.bU bs)) c/\a' (cd bs.length Jc) d c
 |[],[],a,h=>by simp[qT]at h;subst h;exact⟨[],λr=>rfl,λb e=>by cases e;exact⟨[],.nil,.nil⟩⟩
 |s::ss,x::xs,a,h=>by
  simp[qT]at h;split at h
  . rename_i a1 a2 h1 l;cases h;obtain⟨y,f1,j⟩:=IC b7 f h1;obtain⟨d,f2,k⟩:=Ij b7 f l;refine⟨y::d,λr=>by simp[yB,f1,f2],λb e=>?_⟩;cases e with
    |cons vC m=>
     obtain⟨g,aM,i⟩:=j _ vC;obtain⟨c,c2,h5⟩:=k _ m;exact⟨g::c,.cons aM c2,.cons i h5⟩
  grind
 |[],_::_,a,h=>by simp[qT]at h
 |_::_,[],a,h=>by grind[qT]
theorem NH{n:Nat}{xs:List (bk U)}{x:(aN.nm n).den U.D}(h:qM U (.nm n) xs=some x):∀b,a' (cd N J) xs b->∃f,a' dA (b.map (C.bU bs)) f/\a' (cd bs.length Jc) (((aN.nm n).row U x).map .t) f:=by
 intro b i;refine⟨((aN.nm n).enc U x).map .t,?_,zQ⟩;unfold qM at h;split at h
 . rename_i row a;rw[aN.vw,aN.Gk h];clear h;generalize (aN.nm n).cells U=dj at a;induction xs generalizing dj row b with
   |nil=>
    cases i;cases dj<;>simp[iD]at a;subst a;exact .nil
   |cons y j ih=>
    cases i with
    | @cons _ d _ b h1 g=>
     cases dj with
     |nil=>grind[iD]
     |cons ty dj=>
      cases h1 with
      |t c=>cases ty<;>simp[iD]at a<;>(split at a<;>first|(cases a;done)|(rename_i q e;cases a;exact .cons (dA.refl _) (ih _ g _ _ e)))
      |aA=>
       cases ty<;>simp[iD]at a;split at a
       . rename_i q e;cases a;exact .cons dA.aA (ih _ g _ _ e)
       grind
      |_=>grind[iD]
 grind
mutual
theorem FO(b7:bs.Nodup)(A:Can bs J Jc):∀{s:e7} {x:bL U} {a:eN U},jZ bs s x=some a->
 ∃y,(∀r,mr s (a++r)=(y,r))/\∀d,cb N J x d->∃j,gJ (d.bU bs) j/\cb bs.length Jc y j
 |.c s,.c x,a,h=>by
  simp only[jZ]at h;obtain⟨y,f,g⟩:=IC (N:=N) b7 A h;refine⟨.c y,λr=>by simp only[mr,f],λd e=>?_⟩;cases e with
  |c e=>obtain⟨j,aM,q⟩:=g _ e;exact⟨.c j,.c aM,.c q⟩
 |.agg l,.agg xs,a,h=>by
  simp only[jZ]at h;obtain⟨y,f,g⟩:=Ij (N:=N) b7 A h;refine⟨.agg y,λr=>by simp only[mr,f],λd e=>?_⟩;cases e with
  |agg e=>obtain⟨j,aM,q⟩:=g _ e;exact⟨.agg j,.agg aM,.agg q⟩
 |.row n,.agg xs,a,h=>by
  simp only[jZ]at h;split at h
  . rename_i x v;cases h;refine⟨.agg (((aN.nm n).row U x).map .t),λr=>rfl,λd e=>?_⟩;cases e with
    |agg e=>obtain⟨j,aM,q⟩:=NH v _ e;exact⟨.agg j,.agg aM,.agg q⟩
  . cases h
 |.a6 l,.a6 xs,a,h=>by
  simp only[jZ]at h;obtain⟨w,f,ah,g⟩:=vp b7 A h;refine⟨.a6 w,λr=>by simp only[mr,f],λd e=>?_⟩;cases e with
  |a6 _ o H e=>
   obtain⟨p,aM,q,c2⟩:=g o H e;refine⟨.a6 p,.a6 _ _ (by rw[Dp];exact aM.symm) ?_,.a6 _ _ (by omega) λi x d v B=>(c2 i x d v B)⟩;intro i x y v K;rw[EE,bB]at v;grind
 |.c _,.agg _,a,h=>by simp[jZ]at h
 |.c _,.a6 _,a,h=>by simp[jZ]at h
 |.agg _,.c _,a,h=>by simp[jZ]at h
 |.agg _,.a6 _,a,h=>by simp[jZ]at h
 |.row _,.c _,a,h=>by simp[jZ]at h
 |.row _,.a6 _,a,h=>by simp[jZ]at h
 |.a6 _,.c _,a,h=>by simp[jZ]at h
 |.a6 _,.agg _,a,h=>by simp[jZ]at h
theorem vp(b7:bs.Nodup)(A:Can bs J Jc):∀{ss:List e7} {xs:List (bL U)} {a:eN U},mT bs ss xs=some a->
 ∃w:List (bL U),(∀r,kZ ss (a++r)=(w,r))/\w.length=xs.length/\∀o:List V,xs.length=o.length->(∀(i:Nat) x d,xs[i]?=some x->o[i]?=some d->cb N J x d)->
  ∃p:List V,p.length=o.length/\(∀(i:Nat) (d j:V),o[i]?=some d->p[i]?=some j->gJ (d.bU bs) j)/\(∀(i:Nat) y j,w[i]?=some y->p[i]?=some j->cb bs.length Jc y j)
 |[],[],a,h=>by simp[mT]at h;subst h;exact⟨[],λr=>rfl,rfl,λo ah e=>⟨[],by simpa using ah,by simp,by simp⟩⟩
 |s::ss,x::xs,a,h=>by
  simp only[mT]at h;split at h
  . rename_i a1 a2 h1 G;cases h;obtain⟨y,f1,E⟩:=FO b7 A h1;obtain⟨w,f2,ah,F⟩:=vp b7 A G;refine⟨y::w,λr=>by simp only[kZ,gg,f1,f2],by simp[ah],λo D e=>?_⟩;cases o with
    |nil=>simp at D
    |cons d o=>
     obtain⟨j,aM,q⟩:=E d (e 0 x d rfl rfl);obtain⟨p,c2,h5,lJ⟩:=F o (by simpa using D) λi x d v B=>e (i+1) x d (by simpa using v) (by simpa using B);refine⟨j::p,by simp[c2],λi=>?_,λi=>?_⟩
     . grind
     grind
  . cases h
 |[],_::_,a,h=>by simp[mT]at h
 |_::_,[],a,h=>by simp[mT]at h
end
theorem IQ:∀{ks:a7} {k:Nat} {g:Bool} {v:V},k∈ks->look env1 k=some (g,v)->look (oq bs env1 ks) k=some (g,v.bU bs)
 |x::ks,k,g,v,b,ah=>by
  simp[oq];by_cases h:x=k
  . grind[look]
  . have a:k∈ks:=(by grind);split
    . simp[look,al h];exact IQ a ah
    . exact IQ a ah
theorem MF(b7:bs.Nodup)(f:Can bs J Jc)(he:c3 N J (λ_=>true) env env1):∀{ss:List (Nat×e7)} {a:eN U},x4 bs env ss=some a->
 ∃e,(∀r,Cw ss (a++r)=(e,r))/\∃c:Env,c3 bs.length Jc (λ_=>true) e c/\∀k g j,look c k=some (g,j)->k∈ss.map Prod.fst/\∃v,look env1 k=some (g,v)/\gJ (v.bU bs) j
 |[],a,h=>by simp[x4]at h;subst h;exact⟨[],λr=>rfl,[],λk v t=>by grind[a8],λk g v h=>by grind[look]⟩
 |(k,s)::ss,a,h=>by
  simp[x4]at h;split at h
  . rename_i x p;split at h
    . rename_i a1 a2 h1 n;cases h;obtain⟨y,f1,m⟩:=FO b7 f h1;obtain⟨e,f2,c,aM,q⟩:=MF b7 f he n;obtain⟨d,k1,k2⟩:=he k x p;obtain⟨l,u,w⟩:=m d k2;refine⟨(k,y)::e,λr=>by simp[Cw,f1,f2],(k,true,l)::c,λi v b=>?_,λi g v b=>?_⟩
      . simp[a8]at b;simp[look];split at b
        . simp_all
        . rename_i o;rw[al (iC o)];exact aM i v b
      . simp[look]at b;grind
    . cases h
  grind
theorem ID(b7:bs.Nodup)(k:Can bs J Jc){s:fL}{x:cO U}(h:pb bs s x=some a):
 ∃y,(∀r,j1 s (a++r)=(some y,r))/\(∀d,hX N J x d->∃i,kD (d.bU bs) i/\hX bs.length Jc y i):=by
 unfold pb at h;split at h
 . obtain⟨o,f,g⟩:=Ij b7 k h;refine⟨.box o,λr=>by grind[j1],λd b=>?_⟩;cases b with
   |box b=>obtain⟨j,aM,c⟩:=g _ b;exact⟨.box _,.box aM,.box c⟩
 . rename_i ty t q;split at h
   . rename_i l ah;cases h;have e:=Cell.kf ah;cases e;refine⟨.arr ty l,λr=>rfl,λd b=>?_⟩;cases b;exact⟨_,.arr,.arr ty l⟩
   grind
 . rename_i ty sz r;split at h
   . rename_i l m ah;cases h;have:=cY m;subst this;refine⟨.arr ty l,λr=>rfl,λd b=>?_⟩;cases b with
     |rows h1 p=>
      refine⟨_,.arr,?_⟩;rw[<-wP ah h1];exact .arr ty l
   grind
 . split at h
   . rename_i x n;cases h;refine⟨.box _,λr=>rfl,λd b=>?_⟩;cases b with
     |box b=>obtain⟨j,aM,c⟩:=NH n _ b;exact⟨.box j,.box aM,.box c⟩
   grind
 . cases h;refine⟨.set _,λr=>rfl,λd b=>?_⟩;cases b;exact⟨_,.same,.set _⟩
 . split at h
   . rename_i ec;have:=cY ec;subst this;cases h;refine⟨.buf _ _,λr=>rfl,λd b=>?_⟩;cases b;exact⟨_,.same,.buf _ _⟩
   grind
 . split at h
   . rename_i ec;have:=cY ec;subst this;obtain⟨y,f,g⟩:=IC b7 k h;refine⟨.b' _ y,λr=>by simp[j1,f];rfl,λd b=>?_⟩;cases b with
     |b' b=>obtain⟨i,aM,c⟩:=g _ b;exact⟨.b' _ i,.b' aM,.b' c⟩
   grind
 grind
theorem Lv{t:aN}:∀{r:List (List (bk U))} {l:List (t.den U.D)},mI U t r=some l->l.length=r.length
 |[],l,h=>by grind[mI]
 |r::c,l,h=>by
  simp[mI]at h;split at h
  . rename_i x xs b a;cases h;simp[Lv a]
  grind
theorem adp{s:fL}{x y:cO U}{r:eN U}(h:pb bs s x=some a)(b:j1 s (a++r)=(some y,r)):∀p,y.db=some p->x.db=some p:=by
 unfold pb at h;split at h
 . grind[j1,cO.db]
 . split at h
   . rename_i l ah;have e:=Cell.kf ah;simp only[j1,uR,fH,qA]at b;grind
   grind
 . split at h
   . rename_i l c ah;have:=cY c;subst this;simp only[j1,uR,fH,qA]at b;grind[cO.db,Lv]
   grind
 . split at h
   . cases h;intro p d;simp only[j1,uR,fH,dY,dF,qA]at b;grind[cO.db]
   grind
 . simp only[j1,uR,fH,dY,dF,qA]at b;grind
 . split at h
   . rename_i ec;have:=cY ec;simp only[j1,uR,fH,dY,dF,qA]at b;grind
   grind
 . grind[j1,cO.db]
 grind
theorem p1(b7:bs.Nodup):∀{ss:List fL} {j:Nat} {a:eN U},iV bs J j ss=some a->
 (∀i c,a8 (hN j ss a) i=some c->j<=i/\i<j+ss.length/\∃b x,bs[i]?=some b/\a8 J b=some x/\∃s d,pb bs s x=some d/\∀r,j1 s (d++r)=(some c,r))
 |[],j,a,h=>by grind[hN,a8]
 |.gone::ss,j,a,h=>by
  intro i c e;simp only[iV]at h;obtain⟨h1,g,m⟩:=p1 b7 h i c e;grind
 |.box l::ss,j,a,h=>vo b7 (λ{j a}=>p1 b7) (by simpa only[iV]using h)
 |.arr l::ss,j,a,h=>vo b7 (λ{j a}=>p1 b7 (a:=a)) (by simpa only[iV]using h)
 |.bc l::ss,j,a,h=>vo b7 (λ{j a}=>p1 b7 (ss:=ss) (j:=j) (a:=a)) (by simpa only[iV]using h)
 |.set::ss,j,a,h=>vo b7 (λ{j a}=>p1 b7 (ss:=ss) (j:=j) (a:=a)) (by simpa only[iV]using h)
 |.buf E::ss,j,a,h=>vo b7 (λ{j a}=>p1 b7 (ss:=ss) (j:=j) (a:=a)) (by simpa only[iV]using h)
 |.b' E l::ss,j,a,h=>vo b7 (λ{j a}=>p1 b7 (ss:=ss) (j:=j) (a:=a)) (by grind[iV])
where
 vo (b7:bs.Nodup) {s:fL} {ss:List fL} (ih:∀{j:Nat} {a:eN U},iV bs J j ss=some a->
  (∀i c,a8 (hN j ss a) i=some c->j<=i/\i<j+ss.length/\∃b x,bs[i]?=some b/\a8 J b=some x/\∃s d,pb bs s x=some d/\∀r,j1 s (d++r)=(some c,r))) {j:Nat} {a:eN U} (h:(match qY bs j with
  |some b=>match a8 J b with
   |some x=>match pb bs s x,iV bs J (j+1) ss with
    |some a,some r=>some (a++r)
    |_,_=>none
   |none=>none
  |none=>none)=some a):(∀i c,a8 (hN j (s::ss) a) i=some c->j<=i/\i<j+(s::ss).length/\∃b x,bs[i]?=some b/\a8 J b=some x/\∃s d,pb bs s x=some d/\∀r,j1 s (d++r)=(some c,r)):=by
  intro i c e;split at h
  . rename_i b k;rw[Ff]at k;split at h
    . split at h
      . rename_i a1 a2 h1 g;cases h;obtain⟨y,f,_⟩:=ID (N:=0) (J:=J) (Jc:=[]) b7 (λ_ _ _ _ h=>by simp[a8]at h) h1;simp only[hN,f,a8]at e;grind[cY]
      . cases h
    . cases h
  . cases h
def hx(U:cJ)(bK:Shape)(a:eN U):bX U×bh U:=
 match Cw bK.env a with
 |(e,r)=>(e,hN 0 bK.st r)
def FN(bs:a7)(bK:Shape)(env:bX U)(J:bh U):Option (eN U):=
 match x4 bs env bK.env,iV bs J 0 bK.st with
 |some a,some b=>some (a++b)
 |_,_=>none
theorem AL(b7:bs.Nodup){b:eN U}(g:iV bs J 0 ss=some b):Can bs J (hN 0 ss b):=by
 intro j c k a i;obtain⟨_,_,m,x,h1,d,s,l,e,f⟩:=p1 b7 g j k i;rw[h1]at a;cases a;exact⟨x,d,adp e (f [])⟩
theorem An:∀{r:a7} {i j c:Nat} {x:bV},r[j]?=some c->aY J1 c=some x->aY (fF bs J1 i r) (i+j)=some (x.bU bs)
 |[],i,j,c,x,h,_=>by grind
 |b::r,i,0,c,x,h,a=>by
  grind[fF,aY]
 |b::r,i,j+1,c,x,h,a=>by
  simp[fF];have:=An (i:=i+1) (j:=j) (r:=r) (by grind) a;grind[aY]
theorem Es(b7:bs.Nodup)(aI:cz N J J1){b:eN U}(r:iV bs J 0 ss=some b):
 ∃br,sG (fF bs J1 0 bs) br/\cz bs.length (hN 0 ss b) br:=by
 have H:=AL b7 r;have L:=p1 b7 r;generalize hN 0 ss b=Jc at*;have key:∀(l:bh U),(∀i a,a8 l i=some a->a8 Jc i=some a)->∃br:ba,(∀i x,aY br i=some x->∃y,aY (fF bs J1 0 bs) i=some y/\kD y x)/\(∀i a,a8 l i=some a->i<bs.length/\∃y,aY br i=some y/\hX bs.length Jc a y):=by
  intro l;induction l with
  |nil=>intro _;exact⟨[],λi x h=>by grind[aY],λi x h=>by grind[a8]⟩
  |cons p l ih=>
   obtain⟨d,u⟩:=p;intro ah;have:=by
    have aux:∀(m:bh U),(∀i a,i≠d->a8 m i=some a->a8 Jc i=some a)->∃br:ba,(∀i x,aY br i=some x->∃y,aY (fF bs J1 0 bs) i=some y/\kD y x)/\(∀i a,i≠d->a8 m i=some a->i<bs.length/\∃y,aY br i=some y/\hX bs.length Jc a y):=by
     intro m V;have P:∀i a,a8 (dl m d) i=some a->a8 Jc i=some a:=by
      intro i a h;rw[oQ]at h;grind
     have build:∀n,∃br:ba,(∀i x,aY br i=some x->∃y,aY (fF bs J1 0 bs) i=some y/\kD y x)/\(∀i a,i<n->a8 (dl m d) i=some a->i<bs.length/\∃y,aY br i=some y/\hX bs.length Jc a y):=by
      intro n;induction n with
      |zero=>exact⟨[],λi x h=>by grind[aY],λi x h=>by omega⟩
      |succ n R=>
       obtain⟨s,h1,g⟩:=R;cases aJ:a8 (dl m d) n with
       |none=>exact⟨s,h1,λi a k c=>g i a (by grind) c⟩
       |some G=>
        obtain⟨_,_,v,x,o,A,T,M,B,O⟩:=L n G (P n G aJ);obtain⟨_,y,k1,k2⟩:=aI v x A;obtain⟨z,f,q⟩:=ID (N:=N) b7 H B;have:z=G:=(by simp_all);subst this;obtain⟨t,S,C⟩:=q y k2;have ht:=An (bs:=bs) (i:=0) (j:=n) o k1;refine⟨c9 s n t,λi x k=>?_,λi a k c=>?_⟩
        . grind[c0]
        . by_cases e:i=n
          . subst e;rw[aJ]at c;cases c;exact⟨(dQ.1 o).1,t,by rw[c0,ae rfl],C⟩
          . obtain⟨D,z,E,F⟩:=g i a (by omega) c;exact⟨D,z,by rw[c0,al (λw=>e w.symm)];exact E,F⟩
     obtain⟨s,h1,g⟩:=build bs.length;refine⟨s,h1,λi a K c=>?_⟩;have I:a8 (dl m d) i=some a:=by rw[oQ,al (λe=>K e.symm)];exact c
     grind
    exact aux l λi a K h=>ah i a (by
     grind[a8,cY])
   obtain⟨s,h1,g⟩:=this;have Q:a8 Jc d=some u:=ah d u (by simp[a8,Nat.beq_refl]);obtain⟨_,_,v,x,o,A,T,M,B,O⟩:=L d u Q;obtain⟨_,y,k1,k2⟩:=aI v x A;obtain⟨z,f,q⟩:=ID (N:=N) b7 H B;have:z=u:=(by simp_all);subst this;obtain⟨t,S,C⟩:=q y k2;have ht:=An (bs:=bs) (i:=0) (j:=d) o k1;refine⟨c9 s d t,λi x k=>?_,λi a c=>?_⟩
   . rw[c0]at k;grind
   . by_cases e:i=d
     . subst e;simp[a8,Nat.beq_refl]at c;subst c;exact⟨(dQ.1 o).1,t,by rw[c0,ae rfl],C⟩
     . have I:a8 l i=some a:=by
        simp only[a8]at c;cases r:Nat.beq d i with
        |true=>exact absurd (cY r).symm e
        |false=>rw[r]at c;exact c
       obtain⟨D,z,E,F⟩:=g i a e I;exact⟨D,z,by rw[c0,al (λw=>e w.symm)];exact E,F⟩
 obtain⟨s,h1,g⟩:=key Jc λ_ _ h=>h;exact⟨s,λi x k=>h1 i x k,λi a c=>g i a c⟩
theorem acg(b7:bs.Nodup)(j:keeps kk bs=true)(he:c3 N J (λ_=>true) env env1)(aI:cz N J J1){bK:Shape}(h:FN bs bK env J=some a):
 ∃c br,Conv kk N env1 J1 bs.length c br/\c3 bs.length (hx U bK a).2 (λ_=>true) (hx U bK a).1 c/\cz bs.length (hx U bK a).2 br:=by
 unfold FN at h;split at h
 . rename_i a1 b h1 d;cases h;obtain⟨e,f,c,aM,m⟩:=MF b7 (AL b7 d) he h1;obtain⟨br,s1,l⟩:=Es b7 aI d;have i:hx U bK (a1++b)=(e,hN 0 bK.st b):=(by grind[hx]);rw[i];refine⟨c,br,(Conv.tidy (bK.env.map Prod.fst) bs b7 j).trans (Conv.weaken (λk g n ah=>?_) s1),aM,l⟩;grind[IQ]
 grind
end
end
section
open Go
variable {U:cJ}
def fp(D:Nat->Type):aN->List aN->Type
 |t,[]=>t.den D
 |t,u::r=>t.den D×fp D u r
def aQ(D:Nat->Type):List aN->Type
 |[]=>Unit
 |t::r=>fp D t r
def fp.cells(D:Nat->Type):(t:aN)->(ts:List aN)->fp D t ts->List (Cell D)
 |t,[],x=>[⟨t,x⟩]
 |t,u::r,x=>⟨t,x.1⟩::fp.cells D u r x.2
def aQ.cells(D:Nat->Type):(ts:List aN)->aQ D ts->List (Cell D)
 |[],_=>[]
 |t::r,x=>fp.cells D t r x
def Gh{α:Type}:List α->Option α
 |[c]=>some c
 |_=>none
def vC{α:Type}:List α->Option (α×List α)
 |[]=>none
 |c::r=>some (c,r)
def fp.dec(D:Nat->Type):(t:aN)->(ts:List aN)->List (Cell D)->Option (fp D t ts)
 |t,[],l=>match Gh l with
  |some c=>c.as t
  |none=>none
 |t,u::r,l=>match vC l with
  |some p=>match p.1.as t with
   |some x=>match fp.dec D u r p.2 with
    |some y=>some (x,y)
    |none=>none
   |none=>none
  |none=>none
def aQ.dec(D:Nat->Type):(ts:List aN)->List (Cell D)->Option (aQ D ts)
 |[],l=>match l with
  |[]=>some ()
  |_=>none
 |t::r,l=>fp.dec D t r l
variable{α:Type}{D:Nat->Type}{N:Nat}{J:bh U}{c:α×List α}
theorem aaA{l:List α}{c:α}(h:Gh l=some c):l=[c]:=by
 unfold Gh at h;grind
theorem adq{l:List α}(h:vC l=some c):l=c.1::c.2:=by
 unfold vC at h;grind
theorem fp.fj:∀{ts:List aN} {t:aN} {a:List (Cell D)} {h:fp D t ts},fp.dec D t ts a=some h->fp.cells D t ts h=a
 |[],t,a,h,e=>by
  unfold fp.dec at e;split at e
  . rename_i c f;rw[aaA f,Cell.kf e];rfl
  grind
 |u::r,t,a,h,e=>by
  unfold fp.dec at e;split at e
  . split at e
    . rename_i x o;split at e
      . rename_i y j;cases e;have:=fp.fj j;show⟨t,x⟩::fp.cells D u r y=a;grind[adq,Cell.kf]
      grind
    grind
  grind
theorem aQ.fj:∀{ts:List aN} {a:List (Cell D)} {h:aQ D ts},aQ.dec D ts a=some h->aQ.cells D ts h=a
 |[],[],h,e=>rfl
 |[],_::_,h,e=>by cases (show none=some h from e)
 |t::r,a,h,e=>fp.fj e
def fp.ki(U:cJ):(t:aN)->(ts:List aN)->fp U.D t ts
 |t,[]=>t.ki U
 |t,u::r=>(t.ki U,fp.ki U u r)
def aQ.ki(U:cJ):(ts:List aN)->aQ U.D ts
 |[]=>()
 |t::r=>fp.ki U t r
abbrev ke:=List (Nat×Nat)×List (Nat×aN)
def G6:kF->bk U->ke->ke
 |.ptr j _,.ptr b _,s=>((j,b)::s.1,s.2)
 |.cH j _ _,.cH b _ _ _,s=>((j,b)::s.1,s.2)
 |.arr j,.arr b,s=>((j,b)::s.1,s.2)
 |.mp j,.mp b,s=>((j,b)::s.1,s.2)
 |.cL j,.cL b,s=>((j,b)::s.1,s.2)
 |.fn _ a,.fn _ cs,s=>(a.zip cs++s.1,s.2)
 |.hole (.slice t),.arr b,s=>(s.1,(b,t)::s.2)
 |_,_,s=>s
def G7:List kF->List (bk U)->ke->ke
 |a::as,x::xs,s=>G7 as xs (G6 a x s)
 |_,_,s=>s
def Dk:List aN->List (bk U)->ke->ke
 |.slice t::ts,.arr b::xs,s=>Dk ts xs (s.1,(b,t)::s.2)
 |_::ts,_::xs,s=>Dk ts xs s
 |_,_,s=>s
mutual
def G9:e7->bL U->ke->ke
 |.c a,.c x,s=>G6 a x s
 |.agg l,.agg xs,s=>G7 l xs s
 |.row n,.agg xs,s=>Dk (U.dj n) xs s
 |.a6 l,.a6 xs,s=>Dl l xs s
 |_,_,s=>s
def Dl:List e7->List (bL U)->ke->ke
 |a::as,x::xs,s=>Dl as xs (G9 a x s)
 |_,_,s=>s
end
def G8(env:bX U):List (Nat×e7)->ke->ke
 |[],s=>s
 |(k,a)::r,s=>match a8 env k with
  |some x=>G8 env r (G9 a x s)
  |none=>G8 env r s
def aja:fL->cO U->ke->ke
 |.box l,.box xs,s=>G7 l xs s
 |.bc n,.box xs,s=>Dk (U.dj n) xs s
 |.b' _ a,.b' _ x,s=>G6 a x s
 |_,_,s=>s
def xB(J:bh U)(kk:Nat):Nat->List fL->ke->a7->a7×List (Nat×aN)
 |_,[],s,acc=>(acc.reverse,s.2)
 |j,a::r,s,acc=>
  let b:=match a8 s.1 j with
   |some b=>b
   |none=>match Nat.ble (j+1) kk with
    |true=>j
    |false=>1000000+j
  match a8 J b with
  |some x=>xB J kk (j+1) r (aja a x s) (b::acc)
  |none=>xB J kk (j+1) r s (b::acc)
def uc:a7->Bool
 |[]=>true
 |a::l=>(l.all λb=>!(Nat.beq a b))&&uc l
theorem zy:∀{l:a7},uc l=true->l.Nodup
 |[],_=>w5
 |a::l,h=>by
  simp[uc]at h;refine List.nodup_cons.2 ⟨λb=>?_,zy h.2⟩;have c:=h.1 a b;simp_all
def u6(kk:Nat)(own:List (Pos×aN))(bK:Shape)(ts:List aN)(env:bX U)(J:bh U)(N:Nat):Option (aQ U.D ts):=
 match Fu own env J N with
 |none=>none
 |some (env,J,_)=>match J0 env J with
  |none=>none
  |some (env,J)=>match xB J kk 0 bK.st (G8 env bK.env ([],[])) []with
   |(bs,b)=>match lg b env J with
    |none=>none
    |some (env,J)=>match uc bs&&(keeps kk bs&&Nat.beq bs.length bK.st.length)with
     |false=>none
     |true=>match FN bs bK env J with
      |none=>none
      |some a=>aQ.dec U.D ts a
section
variable {kk N:Nat}{J:bh U}{J1:ba}{env:bX U}{env1:Env}
theorem DI{own:List (Pos×aN)}{bK:Shape}{ts:List aN}{h:aQ U.D ts}(b:u6 kk own bK ts env J N=some h)(he:c3 N J (λ_=>true) env env1)(aI:cz N J J1)(y:kk<=N):
 ∃c br,Conv kk N env1 J1 bK.st.length c br/\c3 bK.st.length (hx U bK (aQ.cells U.D ts h)).2 (λ_=>true) (hx U bK (aQ.cells U.D ts h)).1 c/\cz bK.st.length (hx U bK (aQ.cells U.D ts h)).2 br/\kk<=bK.st.length:=by
 unfold u6 at b;split at b
 . grind
 . rename_i G J2 E h1;obtain⟨cQ,sg,e,u,l,cq⟩:=MD h1 he aI y;split at b
   . grind
   rename_i H B t;obtain⟨aM,s1,g,v,m⟩:=aaj t u l;have f:=e.trans g;split at b;rename_i bs K _;split at b
   . grind
   . rename_i I C k;obtain⟨F,O,i,w,n,_⟩:=zR (kk:=kk) (gl:=[]) k v m;split at b
     . grind
     . rename_i d;simp only[c7]at d;obtain⟨q,r,s⟩:=d;have z:=cY s;split at b
       . grind
       . rename_i a p;obtain⟨c2,A,j,x,o⟩:=acg (zy q) r w n p;rw[aQ.fj b,<-z];refine⟨c2,A,f.trans (i.trans j),x,o,?_⟩;by_cases L:kk=0
         . omega
         . have M:(bs[kk-1]?==some (kk-1))=true:=by
            grind[keeps]
           grind
end
structure cI (U:cJ) where
 f:Nat
 gD:List e7
 st:List fL
 ts:List aN
 eT:e7
 eJ:List fL
 us:List aN
 F:aQ U.D ts->Option (aQ U.D us)
def cI.args(s:cI U)(h:aQ U.D s.ts):List (bL U):=(kZ s.gD (aQ.cells U.D s.ts h)).1
def cI.iy(s:cI U)(h:aQ U.D s.ts):bh U:=hN 0 s.st (kZ s.gD (aQ.cells U.D s.ts h)).2
def cI.res(s:cI U)(r:aQ U.D s.us):bL U:=(mr s.eT (aQ.cells U.D s.us r)).1
def cI.rest(s:cI U)(r:aQ U.D s.us):bh U:=hN 0 s.eJ (mr s.eT (aQ.cells U.D s.us r)).2
def hY(P:Program)(s:cI U):Prop:=
 ∀h r,s.F h=some r->∀a J1,a' (cb s.st.length (s.iy h)) (s.args h) a->cz s.st.length (s.iy h) J1->
  ej P s.f a J1 s.st.length (λb br N'=>N'=s.eJ.length/\cb N' (s.rest r) (s.res r) b/\cz N' (s.rest r) br)
def bk.sj:bk U->Bool
 |.t _|.dJ .. |.aA|.fa|.e'=>true
 |.fn _ []=>true
 |_=>false
def gL:bL U->Bool
 |.c x=>x.sj
 |.agg cs=>cs.all bk.sj
 |.a6 vs=>go vs
where go:List (bL U)->Bool
 |[]=>true
 |v::vs=>gL v&&go vs
def bk.pc:bk U->C
 |.t c=>.t (c.enc U)
 |.dJ ty x o=>.dJ (ty.enc U x) o
 |.aA=>.aA
 |.fa=>.fa
 |.e'=>.e'
 |.fn f caps=>.fn f caps
 |_=>.dead
def fG:bL U->V
 |.c x=>.c x.pc
 |.agg cs=>.agg (cs.map bk.pc)
 |.a6 vs=>.a6 (go vs)
where go:List (bL U)->List V
 |[]=>[]
 |v::vs=>fG v::go vs
theorem Ay{x:bk U}(h:x.sj=true):cd N J x x.pc/\(∀d,cd N J x d->d=x.pc)/\∀n,x.pc.aF n=true:=by
 cases x<;>simp[bk.sj]at h
 . exact⟨.t _,λd a=>by cases a;rfl,λ_=>rfl⟩
 . exact⟨.dJ _ _ _,λd a=>by cases a;rfl,λ_=>rfl⟩
 . exact⟨.aA,λd a=>by cases a;rfl,λ_=>rfl⟩
 . exact⟨.fa,λd a=>by cases a;rfl,λ_=>rfl⟩
 . exact⟨.e',λd a=>by cases a;rfl,λ_=>rfl⟩
 . rename_i f caps;cases caps with
   |nil=>exact⟨.fn _ _,λd a=>by cases a;rfl,λ_=>rfl⟩
   |cons=>grind
theorem Ik:∀{vs:List (bL U)} {i:Nat},(fG.go vs)[i]?=(vs[i]?).map fG
 |[],i=>by rfl
 |v::vs,0=>by rfl
 |v::vs,i+1=>by simp[fG.go,Ik]
theorem KM:∀{vs:List (bL U)},(fG.go vs).length=vs.length
 |[]=>rfl
 |v::vs=>by simp[fG.go,KM]
theorem Mt:∀{vs:List (bL U)} {i:Nat} {v:bL U},gL.go vs=true->vs[i]?=some v->gL v=true
 |[],i,v,_,h=>by grind
 |x::vs,0,v,hs,h=>by grind[gL.go]
 |x::vs,i+1,v,hs,h=>by simp[gL.go]at hs;exact Mt hs.2 (by simpa using h)
theorem aux:∀(cs:List (bk U)),(∀x,x∈cs->x.sj=true)->a' (cd N J) cs (cs.map bk.pc)
 |[],_=>.nil
 |a::l,h=>.cons (Ay (h a (by simp))).1 (aux l λx b=>h x (by grind))
theorem wR{N:Nat}{J:bh U}:∀{x:bL U},gL x=true->cb N J x (fG x)/\∀n,(fG x).aF n=true
 |.c x,h=>by
  obtain⟨h1,_,a⟩:=Ay h;exact⟨.c h1,λn=>a n⟩
 |.agg cs,h=>by
  simp[gL]at h;refine⟨.agg ?_,λn=>?_⟩
  . grind[aux]
  . simp[fG,V.aF];intro c b;exact(Ay (N:=N) (J:=J) (h c b)).2.2 n
 |.a6 vs,h=>by
  have:=go (N:=N) (J:=J) vs h;refine⟨.a6 _ _ (by rw[KM]) λi x d j g=>?_,λn=>?_⟩
  . grind[Ik]
  grind[fG,V.aF]
where go {N:Nat} {J:bh U}:∀(vs:List _),gL.go vs=true->(∀x,x∈vs->cb N J x (fG x))/\∀n,V.aF.V.dC n (fG.go vs)=true
 |[],_=>⟨by simp,λ_=>rfl⟩
 |v::vs,h=>by
  simp[gL.go,c7]at h;obtain⟨h1,e⟩:=wR (N:=N) (J:=J) h.1;obtain⟨a,f⟩:=go (N:=N) (J:=J) vs h.2;simp_all[fG.go,V.aF.V.dC]
theorem Az{x:bL U}{d:V}(h:cb N J x d):gL x=true->d=fG x:=by
 induction h with
 |c h=>intro hs;rw[(Ay hs).2.1 _ h];rfl
 | @agg xs b h=>
  intro hs;simp[gL]at hs
  congr 1
  induction h with
  |nil=>rfl
  |cons h1 f ih=>rw[iJ,<-(Ay (hs _ (by simp))).2.1 _ h1,<-ih (λx a=>hs x (by grind))]
 |a6 xs b ah h ih=>
  intro hs
  congr 1
  apply yM;intro i;rw[Ik];cases a:xs[i]? with
  |none=>grind
  |some x=>
   have g:=(dQ.1 a).1;have e:=fb (l:=b) (i:=i) (by omega);rw[e]
   congr 1
   exact ih i x _ a e (Mt hs a)
end
section
open Go
variable {U:cJ}
variable{K:Env->ba->Prop}{f:Nat->Nat}
section
variable {P:Program}{nt kk key N N':Nat}{env:Env}{J J':ba}{Q nR:Exit->Env->ba->Nat->Prop}
def RA(P:Program)(f:Nat)(args:List V)(J:ba)(key:Nat)(env:Env)(K:V->ba->Prop):Prop:=
 ∀aE nt φ S a w,Rel aE nt φ S env J (lt key) a w->V.aF.V.dC (lt key) args=true->∀vs:List Value,a' (ck φ w S) args vs->
  Calls P f vs.toArray w λe w'=>∃v r b bT J',e= .returned v/\K r J'/\ck b w' bT r v/\r.aF (eG (lt key) key)=true/\Rel aE nt b bT env J' (eG (lt key) key) a w'
def afh(P:Program)(o:ca)(env:Env)(f:Nat)(vs:List V):Prop:=
 (∃args p,o.op= .call f args/\hP env args=some (p,vs)/\p)\/
 (∃x args q p caps a,o.op= .ic x args/\x.get env=some (q,.c (.fn f caps))/\q/\hP env args=some (p,a)/\p/\hG P f=true/\vs=a++caps.map λb=>V.c (.ptr b 0))
def x6(P:Program)(o:ca)(key:Nat)(env:Env)(J:ba)(K:Env->ba->Prop):Prop:=
 hn P o key env J K\/(gb env o.guard=some true/\∃f vs,afh P o env f vs/\RA P f vs J key env λr J'=>K (er env o.dst true r) J')
def sI(P:Program)(kk:Nat):List ca->Nat->Env->ba->(Env->ba->Prop)->Prop
 |[],_,env,J,K=>K env J
 |o::r,key,env,J,K=>∃gz a,Conv kk key env J key gz a/\x6 P o key gz a λe s=>sI P kk r (key+16) e s K
theorem Lw{aE:Ctx}{φ:dz}{S:dS}{a:Act}{w:World}(R:Rel aE nt φ S env J (lt key) a w){ops:Array Oper}{o:Oper}{u:ca}(E:wc P nt ops o=some u)(h:x6 P u key env J K){Q:Exit->Act->World->Prop}:
 if Region.wanted o (yielded ops a.tmps)then o.wp P a w (kd aE nt (eG (lt key) key) K) Q else kd aE nt (eG (lt key) key) K (a.put o.dst undef) w:=by
 rcases h with h|⟨aq,f,vs,L,B⟩
 . exact ED R (λb h1 _=>Jp h1) E h
 . obtain⟨h1,d,z,A⟩:=KZ E;have U:=LS R d aq;rw[U];rcases L with⟨args,p,n,m,r⟩|⟨x,args,q,p,caps,H,n,O,T,m,r,j,rfl⟩
   . rw[n]at h1;obtain⟨c,k,s⟩:=KP (zh h1 (by simp));obtain⟨l,j,g⟩:=KQ s;have F:=Eo (w:=w) (a:=a) k l rfl j;simp at F;obtain⟨e,y⟩:=r0 R g m r;exact Calls.next z A rfl (λ_ _ h=>h) (B aE nt φ S a w R y _ e) F
   . rw[n]at h1;obtain⟨c,k,s⟩:=Lm (zh h1 (by simp));obtain⟨t,rfl,l,g⟩:=Ln s;obtain⟨e,y⟩:=r0 R g m r;have W:=cp (x:= .tmp t) R rfl O T;have X:=W.1.eb;have M:a' (ck φ w S) (caps.map λb=>V.c (.ptr b 0)) (caps.map λb=>Value.pointer (some ⟨(φ b).1,0,none⟩)):=by
      refine a'.lM (by simp) ?_;intro i v x h1 d;simp at h1 d;obtain⟨b,I,rfl⟩:=h1;obtain⟨Y,D,rfl⟩:=d;rw[I]at D;cases D;exact .c rfl
     have N:V.aF.V.dC (lt key) (H++caps.map λb=>V.c (.ptr b 0))=true:=by
      refine uq ?_;intro i v G;by_cases Z:i<H.length
      . grind[oK]
      . rw[w8 (by omega)]at G;simp only[r9,bB]at G;grind[V.aF,C.aF]
     exact Calls.next z A rfl (λ_ _ h=>h) (B aE nt φ S a w R N _ (e.append M)) (Eo k l X j)
theorem MG{aE:Ctx}(j:aE.k=kk){ops:Array Oper}{Q:Exit->Act->World->Prop}{K:Env->ba->Nat->Prop}:∀{l:List Oper} {bb:List ca} {k N:Nat} {env:Env} {J:ba} {φ:dz} {S:dS} {a:Act} {w:World},jt P nt ops l=some bb->(∀i:Nat,i<l.length->l[i]?=ops[k+i]?)->
 Rel aE nt φ S env J (lt N) a w->sI P kk bb N env J (λe s=>K e s (N+16*bb.length))->(∀φ S e s N a w,K e s N->Rel aE nt φ S e s (lt N) a w->Q .normal a w)->wpOps P ops Q (List.range' k l.length) a w
 |[],bb,k,N,env,J,φ,S,a,w,b,g,R,h,f=>by
  simp[jt]at b;subst b;exact f _ _ _ _ _ _ _ h R
 |o::l,bb,k,N,env,J,φ,S,a,w,b,g,R,h,f=>by
  simp[jt,bo,bB]at b;obtain⟨t,n,d,p,rfl⟩:=b;have u:ops[k]?=some o:=by have:=g 0 (by simp);grind
  rw[h8,CL,wpOps_cons];unfold wpOp;obtain⟨gz,r,q,v⟩:=h;obtain⟨y,FI,m⟩:=q aE nt φ S a w j R;have hs:=Lw m n (K:=λe s=>sI P kk _ _ e s λe s=>K e s (N+16*(d.length+1))) (by omega) (Q:=Q);have next:∀c w',kd aE nt (eG (lt N) N) (λe s=>sI P kk d (N+16) e s λe s=>K e s (N+16*(d.length+1))) c w'->wpOps P ops Q (List.range' (k+1) l.length) c w':=by
   rintro c w' ⟨x,bT,e,s,bD,R'⟩
   refine MG j p (λi aC=>?_) (R'.more λ_ h=>KD h) ?_ f
   . have:=g (i+1) (by grind);grind
   grind
  split at hs
  . grind[Oper.wp_mono]
  grind
theorem ct.ai4{bb:List ca}(h:sI P kk bb N env J (λe s=>Q .normal e s (N+16*bb.length))):ct P nt kk (.region bb) env J N Q:=by
 intro code f aE φ S a w j R;obtain⟨id,ops,rfl,o⟩:=KK f;refine wp_region ?_;have:=MG j (Q:=λe c w'=>∃p bT env' J' N',Q e env' J' N'/\Rel aE nt p bT env' J' (lt N') c w') (k:=0) o (λi q=>by simp) R h
  (λφ S e s N a w bD dm=>⟨φ,S,e,s,N,bD,dm⟩)
 grind[List.range_eq_range']
theorem ej.conv{f k:Nat}{args q:List V}{Q:V->ba->Nat->Prop}(A:a' gJ args q)(hs:sG J J')(h:ej P f q J' k Q):ej P f args J k Q:=by
 intro φ S w B p D L E vs G;refine h φ S w B ⟨λb x j=>?_,λb t x y j H=>?_,p.st⟩ (λb x j=>?_) (λb x j=>?_) ?_ vs ?_
 . obtain⟨o,h1,e⟩:=hs b x j;exact e.GU (p.blk b o h1)
 . obtain⟨o,h1,e⟩:=hs b x j;obtain⟨K,k1,k2⟩:=hs t y H;exact p.inj b t o K h1 k1
 . obtain⟨o,h1,e⟩:=hs b x j;exact⟨(D b o h1).1,e.aF _ (D b o h1).2⟩
 . obtain⟨o,h1,e⟩:=hs b x j;grind
 . refine uq λi v F=>?_;obtain⟨v0,h1,e⟩:=(A.flip λ_ _ h=>h).get F;exact e.aF _ (oK E h1)
 . exact a'.comp (λa b c h1 e=>h1.G3 e) (A.flip λ_ _ h=>h) G
theorem ej.mono{f k:Nat}{args:List V}{Q nR:V->ba->Nat->Prop}(h:ej P f args J k Q)(j:∀r s n,Q r s n->nR r s n):ej P f args J k nR:=by
 intro φ S w B h1 a c e vs bf;refine(h φ S w B h1 a c e vs bf).mono ?_;grind
theorem ej.tidy{f k:Nat}{args:List V}{Q nR:V->ba->Nat->Prop}(h:ej P f args J k Q)
 (Y:∀r J' N',Q r J' N'->∃bs F J2,bs.Nodup/\keeps k bs=true/\gJ (r.bU bs) F/\sG (fF bs J' 0 bs) J2/\nR F J2 bs.length):ej P f args J k nR:=by
 intro φ S w B h1 O R U vs bf;refine(h φ S w B h1 O R U vs bf).mono ?_
 rintro e w' ⟨v,r,N,bT,J',N',he,W,k1,k2,k3,k4,k5,k6,k7⟩
 obtain⟨bs,F,J2,b7,aE,M,hs,X⟩:=Y r J' N' W;have aC:∀i:Nat,i<k->bs[i]?=some i:=by
  grind[keeps]
 let H:dz:=λi=>N ((bs[i]?).getD 0);have D:∀(i:Nat) b,bs[i]?=some b->H i=N b:=by intro i b h;simp[H,h]
 have A:∀b x,aY (fF bs J' 0 bs) b=some x->∃c a,bs[b]?=some c/\aY J' c=some a/\x=a.bU bs:=by
  grind[qi]
 have Z:∀(a:bV),(a.bU bs).aF (lt bs.length)=true:=by
  intro a;cases a with
  |box cs=>grind[bV.bU,bV.aF,List.all_eq_true,C.j7]
  |arr sz es=>rfl
  |set ks=>rfl
  |buf E s=>rfl
  |b' E c=>exact C.j7 c
  |cA sz es i o c=>exact C.j7 c
 refine⟨v,F,H,bT,J2,bs.length,he,X,M.G3 (ck.bU D k1),M.aF _ (V.j7 r),⟨λb x j=>?_,λb G x y j p aL h0 L=>?_,k3.st⟩,λb x j=>?_,k5,λb x j h0=>?_,λb q=>?_⟩
 . obtain⟨y,p,q⟩:=hs b x j;obtain⟨c,a,aM,t,rfl⟩:=A b y p;exact q.GU (cW.bU D aM (k3.blk c a t))
 . obtain⟨ap,ah,_⟩:=hs b x j;obtain⟨ax,am,_⟩:=hs G y p;obtain⟨c,a,aM,t,_⟩:=A b ap ah;obtain⟨K,an,f1,f2,_⟩:=A G ax am;rw[D b c aM]at h0⊢;rw[D G K f1]at L⊢;refine k3.inj c K a an t f2 ?_ h0 L;have:=nd b7 aM;grind[nd]
 . obtain⟨y,p,q⟩:=hs b x j;obtain⟨c,a,aM,t,rfl⟩:=A b y p;exact⟨(dQ.1 aM).1,q.aF _ (Z a)⟩
 . obtain⟨y,p,q⟩:=hs b x j;grind
 grind
end
def bk.cf(f:Nat->Nat):bk U->bk U
 |.ptr b o=>.ptr (f b) o
 |.cH b ty i o=>.cH (f b) ty i o
 |.arr b=>.arr (f b)
 |.sub b a len=>.sub (f b) a len
 |.pre b h=>.pre (f b) h
 |.dK b a len=>.dK (f b) a len
 |.mp b=>.mp (f b)
 |.ev b=>.ev (f b)
 |.cL b=>.cL (f b)
 |.fn g caps=>.fn g (caps.map f)
 |x=>x
def bL.cf(f:Nat->Nat):bL U->bL U
 |.c x=>.c (x.cf f)
 |.agg cs=>.agg (cs.map (bk.cf f))
 |.a6 vs=>.a6 (go f vs)
where go (f:Nat->Nat):List (bL U)->List (bL U)
 |[]=>[]
 |v::vs=>v.cf f::go f vs
def cO.cf(f:Nat->Nat):cO U->cO U
 |.box cs=>.box (cs.map (bk.cf f))
 |.arr ty l=>.arr ty l
 |.rows sz r=>.rows sz r
 |.set ks=>.set ks
 |.buf E s=>.buf E s
 |.b' E c=>.b' E (c.cf f)
 |.cA t l i o c=>.cA t l i o (c.cf f)
def Fq(J:bh U):a7->bh U
 |[]=>J
 |b::r=>dl (Fq J r) b
def nL(J:bh U)(bs:a7)(f:Nat->Nat):bh U->bh U
 |[]=>Fq J bs
 |(b,x)::r=>cE (nL J bs f r) (f b) (x.cf f)
def o0(J Jr:bh U):Nat->a7->Option Bool
 |_,[]=>some true
 |i,b::r=>match a8 Jr i with
  |none=>o0 J Jr (i+1) r
  |some d=>match a8 J b with
   |none=>none
   |some x=>match d.db with
    |none=>o0 J Jr (i+1) r
    |some a=>match x.db with
     |none=>none
     |some p=>match Nat.beq a.1 p.1,o0 J Jr (i+1) r with
      |true,some c=>some (decide (a.2=p.2)&&c)
      |_,_=>none
section
variable {key N':Nat}{J Jr:bh U}{J1 Sv:ba}{bs:a7}
theorem OA:∀{bs:a7} {b:Nat},a8 (Fq J bs) b=if b∈bs then none else a8 J b
 |[],b=>by rfl
 |c::r,b=>by
  simp[Fq,oQ,OA];grind
theorem uH:∀{d:bh U} {c:Nat} {x:cO U},a8 (nL J bs f d) c=some x->(∃b a,c=f b/\a8 d b=some a/\x=a.cf f)\/(c ∉ bs/\a8 J c=some x)
 |[],c,x,h=>by
  grind[nL,OA]
 |(b,y)::r,c,x,h=>by
  simp[nL,hR]at h;split at h
  . grind[a8,Nat.beq_refl]
  . rcases uH h with⟨e,a,h1,g,i⟩|h
    . grind[a8,cY]
    grind
theorem AY(b7:bs.Nodup)(aC:∀b,b∈bs->b<key){i j:Nat}(h:back bs key i=back bs key j):i=j:=by
 unfold back at h;cases d:bs[i]? with
 |some b=>
  rw[d]at h;have e:=aC b (fl d);cases a:bs[j]? with
  |some c=>
   rw[a]at h;simp at h;subst h;have:=nd b7 d;rw[nd b7 a]at this;grind
  |none=>grind
 |none=>
  cases a:bs[j]? with
  |some c=>
   have e:=aC c (fl a);grind
  |none=>grind
theorem LD(g:∀i j,f i=f j->i=j):∀{a:ba} {b:Nat} {x:bV},aY a b=some x->aY (hr J1 bs f a) (f b)=some (x.cf f)
 |[],b,x,h=>by grind[aY]
 |(c,y)::r,b,x,h=>by
  simp[hr,c0];simp[aY]at h;by_cases d:c=b
  . grind
  . rw[al d]at h;rw[al (λe=>d (g _ _ e))];exact LD g h
theorem Mb{c:Nat}(e:c ∉ bs)(a:∀b,f b≠c):∀{d:ba},aY (hr J1 bs f d) c=aY J1 c
 |[]=>by grind[hr,r5]
 |(b,y)::r=>by
  simp[hr,c0];rw[al (a b)];exact Mb e a
theorem cO.yG{x:cO U}:(x.cf f).db=x.db:=by cases x<;>rfl
theorem Lx:∀{l:a7} {f:Nat} {c:Bool},o0 J Jr f l=some c->c=true->∀(j b:Nat) d,l[j]?=some b->a8 Jr (f+j)=some d->∃x,a8 J b=some x/\∀p,d.db=some p->x.db=some p
 |[],f,c,h,m,j,b,d,n,o=>by grind
 |a::l,f,c,h,m,j,b,d,n,o=>by
  simp[o0]at h;have next:∀{g},o0 J Jr (f+1) l=some g->g=true->∀i,j=i+1->∃x,a8 J b=some x/\∀p,d.db=some p->x.db=some p:=by
   intro g h1 k i e;exact Lx h1 k i b d (by grind) (by grind)
  cases j with
  |zero=>
   grind[cY]
  |succ j=>
   split at h
   . grind
   grind
variable (b7:bs.Nodup)(aC:∀b,b∈bs->b<key)(cq:N'<=bs.length+16)(aI:cz key J J1)
include b7 aC cq aI in
theorem cd.cf{x:bk U}{d:C}(h:cd N' Jr x d):cd (key+16) (nL J bs (back bs key) Jr) (x.cf (back bs key)) (d.cf (back bs key)):=by
 cases h with
 |t c=>exact cd.t c
 |ptr b o=>exact cd.ptr _ o
 |cH b t i o=>exact cd.cH _ t i o
 |dJ t x o=>exact cd.dJ t x o
 |arr b sz n w h=>
  have e:back bs key b<key+16:=by
   unfold back;cases j:bs[b]? with
   |some c=>simp;have:=aC c (fl j);omega
   |none=>grind
  refine cd.arr _ sz n e λx q p A=>?_;rcases uH q with⟨v,D,h1,a,rfl⟩|⟨h1,a⟩
  . grind[AY,cO.yG]
  . have y:=(aI _ _ a).1;grind[back]
 |sub b B len=>exact cd.sub _ B _
 |pre b sz n w h=>
  have e:back bs key b<key+16:=by
   unfold back;cases j:bs[b]? with
   |some c=>simp;have:=aC c (fl j);omega
   |none=>grind
  refine cd.pre _ sz n e λx q p A=>?_;rcases uH q with⟨v,D,h1,a,rfl⟩|⟨h1,a⟩
  . grind[AY,cO.yG]
  . have y:=(aI _ _ a).1;grind[back]
 |dK b sz B len w h=>
  have e:back bs key b<key+16:=by
   unfold back;cases j:bs[b]? with
   |some c=>simp;have:=aC c (fl j);omega
   |none=>grind
  refine cd.dK _ sz B _ e λx q p A=>?_;rcases uH q with⟨v,D,h1,a,rfl⟩|⟨h1,a⟩
  . grind[AY,cO.yG]
  . have y:=(aI _ _ a).1;grind[back]
 |mp b=>exact cd.mp _
 |ev b=>exact cd.ev _
 |cL b n w h=>
  have e:back bs key b<key+16:=by
   unfold back;cases j:bs[b]? with
   |some c=>simp;have:=aC c (fl j);omega
   |none=>grind
  refine cd.cL _ n e λx q p A=>?_;rcases uH q with⟨v,D,h1,a,rfl⟩|⟨h1,a⟩
  . grind[AY,cO.yG]
  . have y:=(aI _ _ a).1;grind[back]
 |aA=>exact .aA
 |fa=>exact .fa
 |e'=>exact .e'
 |fn f caps=>exact cd.fn f _
 |dead d=>exact .dead _
theorem MH:∀{vs:List (bL U)} {i:Nat},(bL.cf.go f vs)[i]?=(vs[i]?).map (bL.cf f)
 |[],i=>by rfl
 |v::vs,0=>by rfl
 |v::vs,i+1=>by simp[bL.cf.go,MH]
theorem Mc:∀{vs:List (bL U)},(bL.cf.go f vs).length=vs.length
 |[]=>rfl
 |v::vs=>by simp[bL.cf.go,Mc]
include b7 aC cq aI in
theorem cb.cf{x:bL U}{d:V}(h:cb N' Jr x d):cb (key+16) (nL J bs (back bs key) Jr) (x.cf (back bs key)) (d.cf (back bs key)):=by
 induction h with
 |c h=>exact .c (cd.cf b7 aC cq aI h)
 |agg h=>exact .agg (a'.map_map (h.imp λ_ _ _ aa=>cd.cf b7 aC cq aI aa))
 |a6 xs a ah h ih=>
  refine .a6 _ _ (by grind[Mc,IL]) ?_;grind[MH,JK]
include b7 aC aI in
theorem D8(e:o0 J Jr 0 bs=some true):dn key J (key+16) (nL J bs (back bs key) Jr):=by
 refine⟨by simp,λc x j f=>?_⟩;rcases uH f with⟨b,g,h1,d,rfl⟩|⟨h1,d⟩
 . unfold back at h1;cases a:bs[b]? with
   |some i=>
    rw[a]at h1;subst h1;obtain⟨x,k1,k2⟩:=Lx e rfl b c g a (by grind);grind[cO.yG]
   |none=>grind
 grind
include b7 aC cq aI in
theorem cz.Ga(v:o0 J Jr 0 bs=some true)(A:cz N' Jr Sv):cz (key+16) (nL J bs (back bs key) Jr) (hr J1 bs (back bs key) Sv):=by
 intro c x B;have q:∀b,b<N'->back bs key b<key+16:=by
  intro b F;unfold back;cases w:bs[b]? with
  |some c=>simp;have:=aC c (fl w);omega
  |none=>grind
 rcases uH B with⟨b,D,rfl,a,rfl⟩|⟨h1,a⟩
 . obtain⟨e,y,f,bf⟩:=A b D a;refine⟨q b e,y.cf _,LD (λi j=>AY b7 aC) f,?_⟩;cases bf with
   |box bf=>exact .box (a'.map_map (bf.imp λ_ _ _ aa=>cd.cf b7 aC cq aI aa))
   |arr t l=>exact .arr t l
   |set ks=>exact .set ks
   |buf E s=>exact .buf E s
   |b' bf=>exact .b' (cd.cf b7 aC cq aI bf)
   |cA t l i o bf=>exact .cA t l i o (cd.cf b7 aC cq aI bf)
   |rows bf p=>exact .rows bf p
 . obtain⟨e,y,f,bf⟩:=aI c x a;refine⟨by omega,y,?_,?_⟩
   . grind[Mb,back]
   . exact bf.mono (D8 b7 aC aI v)
end
end
section
open Go
variable {xb:a7}
def ET(n:Nat):List (Nat×Nat)->Bool
 |(i,_)::_=>Nat.beq i n
 |[]=>false
theorem ach{l:List (ca×a7)}{p:Nat×Nat}(h:p∈lE l):p.1<l.length:=by
 grind[lE,FP]
theorem aa3{l:List (ca×a7)}(h:ET l.length (sP l)=true):ER l=true/\t' l.dropLast=true/\∀p,p∈lE l.dropLast->p∈sP l:=by
 unfold sP at h⊢;split at h
 . grind
 . cases ah:lE l with
   |nil=>rw[ah]at h;cases h
   |cons p r=>
    rw[ah]at h;have a:p∈lE l:=(by grind);have:=ach a;obtain⟨i,j⟩:=p;have b:Nat.beq i _=true:=h;simp_all
variable{D:Nat->a7}{listed:Array Bool}{gf:List (Nat×Nat)}{Q:Exit->Env->ba->Nat->Prop}
theorem aaB{l:List (ca×a7)}{m:Nat}(g:l.length=m+1)(h:ER l=true)(e:∀(i:Nat) x,l[i]?=some x->D i=x.2){p:Nat->Bool}(f:∀i,i<m->p i=true->∀d,d∈D i->p d=true)(ah:∀d,d∈D m->p d=true):
 ∀i,i<m->p i=true:=by
 have key:∀k i,i<m->m-i<=k->p i=true:=by
  intro k;induction k with
  |zero=>grind
  |succ k ih=>
   intro i h1 b;simp[ER]at h;have c:=h i (by omega);grind
 exactλi a=>key m i a (by simp)
section
variable {P:Program}{aE:Ctx}{nt kk:Nat}{N:Nat}{ops:Array Oper}{init:List ca}{last:ca}{E:Nat->Env}{T:Nat->ba}{G:Nat->Bool}{W:Nat->V}
theorem Et{i m:Nat}(hs:listed.size=m+1)(a:i<m):listed.pop.getD i false=listed.getD i false:=by
 simp;grind
theorem aeo{i m:Nat}(hs:listed.size=m+1)(a:i<m):(listed.setIfInBounds i true).pop=listed.pop.setIfInBounds i true:=by grind
theorem aci{Q:Exit->Act->World->Prop}{b:Nat}{a:Act}{w:World}(hs:listed.size=ops.size)(e:∀i,i<ops.size->listed.getD i false=true)(c:Q .normal a w):wpAny P .any ops Q b listed a w:=by
 have d:Region.ready .any ops listed=[]:=by
  rw[UI];grind[mem_ready]
 cases b with
 |zero=>exact⟨d,c⟩
 |succ b=>exact⟨λ_=>c,λi f=>by grind⟩
theorem abL(st:Stat xb init D E N)(B:o2 xb P init N E T G W)(hres:jt P nt ops ops.toList=some (init++[last]))(F:∀(i:Nat) o,ops[i]?=some o->D i=hq o)
 (aw:∀(p:Nat->Bool),(∀i,i<init.length->p i=true->∀d,d∈D i->p d=true)->(∀d,d∈D init.length->p d=true)->∀i,i<init.length->p i=true)
 (aq:∀d,d∈D init.length->d<init.length)
 {Q:Exit->Act->World->Prop}{K:Env->ba->Prop}(av:aE.k=kk)
 (bD:∃gz C,Conv kk (N+16*init.length) (E init.length) (T init.length) (N+16*init.length) gz C/\x6 P last (N+16*init.length) gz C K)
 (aj:∀e s φ S a w,K e s->Rel aE nt φ S e s (eG (lt (N+16*init.length)) (N+16*init.length)) a w->Q .normal a w):
 ∀(g:Nat) (listed:Array Bool) φ S env J a w,listed.size=init.length+1->listed.getD init.length false=false->listed.toList.countP (· ==false)<=g->Inv xb aE nt init D N E T G W listed.pop φ S env J a w->wpAny P .any ops Q g listed a w:=by
 have aa:=zb hres;simp at aa;have ax:∀(listed:Array Bool) (φ:dz) (S:dS) (env:Env) (J:ba) (a:Act) (w:World),listed.size=init.length+1->listed.getD init.length false=false->Inv xb aE nt init D N E T G W listed.pop φ S env J a w->Region.ready .any ops listed≠[]:=by
  intro listed φ S env J a w hs y cu ab;have H:∀i,i<init.length->listed.getD i false=true:=by
   intro i;induction i using Nat.strongRecOn with
   |_ i ih=>
    intro q;cases ah:listed.getD i false with
    |true=>rfl
    |false=>
     have A:i<ops.size:=(by omega);have c:ops[i]?=some ops[i]:=CV A;have:i∈Region.ready .any ops listed:=by
      rw[mem_ready];refine⟨?_,ops[i],c,λe he an=>?_⟩
      . grind
      . have l:e.on∈D i:=by
         rw[F i _ c];simp only[hq,eS,r'];grind
        exact ih e.on (st.back i _ q l) (by have:=st.back i _ q l;omega)
     grind
  have A:init.length<ops.size:=by omega
  have c:ops[init.length]?=some ops[init.length]:=CV A;have:init.length∈Region.ready .any ops listed:=by
   rw[mem_ready];refine⟨?_,ops[init.length],c,λe he an=>?_⟩
   . grind
   . have l:e.on∈D init.length:=by
      rw[F _ _ c];simp only[hq,eS,r'];grind
     grind
  grind
 intro g;induction g with
 |zero=>
  intro listed φ S env J a w hs y V cu;exfalso;have x:init.length<listed.size:=by omega
  have h0:listed.toList.countP (· ==false)=0:=by omega
  rw[List.countP_eq_zero]at h0;simp[x]at y;exact h0 listed[init.length] (by simp) (by grind)
 |succ g ih=>
  intro listed φ S env J a w hs y V cu;refine⟨λab=>absurd ab (ax listed φ S env J a w hs y cu),λi q=>?_⟩;rw[mem_ready]at q;obtain⟨h1,o,c,az⟩:=q;have A:i<ops.size:=(CS.1 c).1;have x:i<listed.size:=by omega
  have aJ:listed.getD i false=false:=by grind
  obtain⟨t,U,ad⟩:=HG hres (i:=i) (o:=o) (by grind);have l:∀d,d∈D i->listed.getD d false=true:=by
   intro d l;rw[F i o c]at l;simp only[hq,eS,r']at l;grind
  have au:listed.toList.countP (· ==false)<=g+1->(listed.setIfInBounds i true).toList.countP (· ==false)<=g:=by
   have:listed.toList[i]?=some false:=by simp[x]at aJ⊢;exact aJ
   grind
  rcases Nat.lt_or_ge i init.length with v|v
  ·
   have u:init[i]?=some t:=by rw[w9 v]at U;exact U
   have X:∀d,d∈D i->listed.pop.getD d false=true:=λd n=>by rw[Et hs (by have:=st.back i d v n;omega)];exact l d n
   have I:listed.pop.getD i false=false:=by rw[Et hs v];exact aJ
   obtain⟨ak,am⟩:=cu.agree st B u I X;obtain⟨⟨br,ay,ag⟩,_⟩:=(B.step i t u).1.local (env':=env) (J':=J) ak am;have z:=ED cu.rel (key:=N+16*i) (λb ao ap=>Ni I ao ap) ad (K:=λe s=>e=er env t.dst (G i) (W i)/\s=br) (ay.hn ⟨rfl,rfl⟩) (Q:=Q);have next:∀f w',kd aE nt (eG (used N init.length listed.pop) (N+16*i)) (λe s=>e=er env t.dst (G i) (W i)/\s=br) f w'->wpAny P .any ops Q g (listed.setIfInBounds i true) f w':=by
    rintro f w' ⟨O,bT,e,s,⟨rfl,rfl⟩,R'⟩
    have L:=aeo (listed:=listed) (i:=i) (m:=init.length) hs v;refine ih (listed.setIfInBounds i true) O bT _ _ f w' (by simpa using hs) ?_ (au V) (by rw[L];exact cu.step st B u I X ag R');rw[nu x,bl];exact y
   unfold wpOp;rw[c];dsimp only;split at z
   . rename_i r;rw[ae r];exact .inl (Oper.wp_mono next z)
   . rename_i r;rw[al r];exact next _ _ z
  ·
   have q:i=init.length:=(by omega);subst q;have u:t=last:=(by grind);subst u;have H:=by
    refine aw (λj=>listed.pop.getD j false) (λj Y L d n=>cu.down j Y L d n) (λd n=>?_);rw[Et hs (aq d n)];exact l d n
   have R:=cu.done st B H;obtain⟨gz,C,ar,z⟩:=bD;obtain⟨aB,FI,af⟩:=ar aE nt φ S a w av R;have M:=Lw af ad z (Q:=Q);have next:∀f w',kd aE nt (eG (lt (N+16*init.length)) (N+16*init.length)) K f w'->wpAny P .any ops Q g (listed.setIfInBounds init.length true) f w':=by
    rintro f w' ⟨O,bT,e,s,ai,R'⟩
    refine aci (by simp[hs,aa]) (λj Y=>?_) (aj e s O bT f w' ai R');rw[nu x];split
    . rfl
    . rename_i aA;have Z:j<init.length:=(by omega);rw[<-Et hs Z];exact H j Z
   unfold wpOp;rw[c];dsimp only;split at M
   . rename_i r;rw[ae r];exact .inl (Oper.wp_mono next M)
   . rename_i r;rw[al r];exact next _ _ M
theorem ct.ai5{env:Env}{J:ba}(br:ET (init.length+1) gf=true)
 (h:x8 xb P init N env J (λe s=>kQ xb init e N gf=true/\sI P kk [last] (N+16*init.length) e s (λe s=>Q .normal e s (N+16*init.length+16)))):ct P nt kk (.oW (init++[last]) gf) env J N Q:=by
 intro code Z aE φ S a w ax R;obtain⟨id,ops,rfl,hres,L,aL,rfl⟩:=K0 Z;have bi:=zb hres;have U:(fx ops (init++[last])).length=init.length+1:=by grind[fx]
 obtain⟨aC,H,a5⟩:=aa3 (l:=fx ops (init++[last])) (by grind);obtain⟨E,T,G,W,M,cQ,t0,am,X⟩:=Jq h;have a2:(fx ops (init++[last])).dropLast=fx ops.pop init:=by
  obtain⟨O,x,A⟩:∃O x,ops.toList=O++[x]:=by
   cases ah:ops.toList.reverse with
   |nil=>simp_all
   |cons x r=>simp_all
  simp_all[fx,Array.toList_pop,qC,List.zip_append]
 rw[a2]at H;have an:kQ xb init (E init.length) N (lE (fx ops.pop init))=true:=Iz (λp bs=>a5 p (by grind)) am;have q:=QB (ops:=ops.pop) (by grind) H M an;let D:Nat->a7:=λi=>((ops[i]?).map hq).getD [];have F:∀i,i<init.length->((ops.pop[i]?).map hq).getD []=D i:=by grind
 have st:Stat xb init D E N:=by
  refine⟨λi d c ap=>q.back i d c (by grind),λi j x y d A be bf=>?_,λi j b a0 c K a9 v=>?_⟩
  . have:=q.xD i j x y d A be bf;grind
  . rcases q.ord i j b a0 c K a9 v with⟨h1,f⟩|⟨h1,f⟩
    . exact .inl ⟨h1,f.congr q.back F K⟩
    . exact .inr ⟨h1,f.congr q.back F c⟩
 have bb:∀(i:Nat) x,(fx ops (init++[last]))[i]?=some x->D i=x.2:=by
  grind[fx]
 refine wp_region_any aL ?_;have a4:=X;have Y:∀d,d∈D init.length->d<init.length:=by
  intro d ap;simp only[t',c7]at L;have A:(fx ops (init++[last]))[init.length]?=some _:=fb (by omega);have:=IN L.1.1 A d (by grind);omega
 refine abL (aE:=aE) (nt:=nt) (D:=D) st M hres (λi o a1=>by grind) (λp h1 f=>aaB U aC bb h1 f) Y ax a4 (λe s φ S a w a3 R'=>⟨φ,S,e,s,_,a3,R'.more λb v=>KD v⟩) ops.size _ φ S env J a _ ?_ ?_ ?_ ?_
 . grind
 . rw[Array.getD_eq_getD_getElem?,Array.getElem?_replicate];grind
 . grind[List.countP_le_length]
 . have R':=R.drew;have B:∀i,(Array.replicate ops.size false).pop.getD i false=true->False:=by
    intro i ah;simp only[Array.getD_eq_getD_getElem?,Array.getElem?_pop]at ah;grind
   refine⟨R'.more λb v=>by grind[used],by grind,λi c ah=>(B i ah).elim,λt _=>by grind,λt i o a1 ah=>(B i ah).elim,λb _=>by grind,λb i c ah=>(B i ah).elim⟩
end
end
end Go.Proofs.YtdjagncoefjfeaaGreat.Shv
