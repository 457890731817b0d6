/- The library of this proof, part C: an abstract machine for the code of the program, and its soundness. -/
import Derived.Test.YtopcfbelfjclmaaGreatDoorCkLB

namespace Go.Proofs.YtopcfbelfjclmaaGreatDoor.Shv
set_option linter.all false
section
open Go
variable {xb:ba}
def kZ(xb:ba)(bd:I cf)(env:Env)(N:Nat):I (Nat×Nat)->J
 |[]=>true
 |(i,j)::r=>(match bd[i]?,bd[j]? with
  |some x,some y=>(ew xb y.op env (N+16*j)).all λb=>!(cT xb x.op env (N+16*i) b)
  |_,_=>true)&&kZ xb bd env N r
variable{env:Env}{N:Nat}{bd:I cf}
theorem LN:∀{fw:I (Nat×Nat)} {i j:Nat} {x y:cf},kZ xb bd env N fw->(i,j)∈fw->bd[i]?=some x->bd[j]?=some y->∀b,b∈ew xb y.op env (N+16*j)->cT xb x.op env (N+16*i) b=false
 |[],i,j,x,y,h,a,_,_,_,_=>by simp at a
 |(d,f)::r,i,j,x,y,h,a,aa,al,b,c=>by
  simp only[kZ,dh]at h;rcases eE.1 a with e|a;grind;exact LN h.2 a aa al b c
section
variable {P:Program}{aA:Ctx}{nt kk:Nat}{N:Nat}{ops:Array Oper}{bd:I cf}{E:Nat->Env}{T:Nat->bg}{G:Nat->J}{W:Nat->V}
theorem abU{i:Nat}{o:Oper}{x:cf}(a:ops[i]?=some o)(aa:bd[i]?=some x):(fL ops bd)[i]?=some (x,hG o):=by
 unfold fL;grind
theorem Pt(ag:bd.length=ops.size)(I:tQ (fL ops bd))(V:o7 xb P bd N E T G W)(S:kZ xb bd (E bd.length) N (lu (fL ops bd))):
 Stat xb bd (λi=>((ops[i]?).map hG).getD []) E N:=by
 simp only[tQ,dh]at I;obtain⟨⟨R,J⟩,_⟩:=I;have e:∀i,i<bd.length->∃o x,ops[i]?=some o/\bd[i]?=some x/\(fL ops bd)[i]?=some (x,hG o):=by
  intro i f;have s:ops[i]?=some ops[i]:=C6 (by omega);have aa:bd[i]?=some bd[i]:=e0 f;exact⟨_,_,s,aa,abU s aa⟩
 have ab:∀i j,ahead (fL ops bd) j i->j<i/\j∈((ops[i]?).map hG).getD []:=by
  intro i j h;obtain⟨h1,y,n,Z⟩:=aec h;refine⟨h1,?_⟩;have f:i<bd.length:=by
   have:=(ed.1 n).1;unfold fL at this;simp at this;omega
  grind
 have K:∀(i j:Nat) (x y:cf) (d:Nat),bd[i]?=some x->bd[j]?=some y->y.dst=some d->(d∈x.rd->(j<i/\j∈((ops[i]?).map hG).getD [])\/(x.op.cE/\x.op.il=false/\i<j/\i∈((ops[j]?).map hG).getD []))/\(i=j\/x.dst≠some d):=by
  intro i j x y d aa al aj;obtain⟨v,Y,F,m,p⟩:=e i (ed.1 aa).1;obtain⟨w,O,H,c,q⟩:=e j (ed.1 al).1;rw[aa]at m;cases m;rw[al]at c;cases c;simp only[VZ,gk]at J;have h1:=J ((x,hG v),i) (fr (i:=i) (by simp[CS,p]));have n:=h1 ((y,hG w),j) (fr (i:=j) (by simp[CS,q]));grind
 refine⟨λi d f C=>?_,K,?_⟩;obtain⟨o,x,s,aa,Q⟩:=e i f;rw[s]at C;have:=Ij R Q d C;omega
 ·
  have D:∀(i:Nat) (x:cf),bd[i]?=some x->¬(x.op.cE/\x.op.il=false)->∀t,t∈x.op.reads->look (E bd.length) t=look (E i) t:=by
   intro i x aa ah t ht;have f:=(ed.1 aa).1;refine wM V (by omega) (ek _) λj y ad ae al X=>?_;rcases (K i j x y t aa al X).1 (O' ht)with h|h
   omega;grind
  have ai:∀i j,oB (n0 (fL ops bd) []) j i->j<i/\jn (λi=>((ops[i]?).map hG).getD []) j i:=by
   intro i j h;simp only[oB,dh,fI,List.contains_iff_mem]at h;refine⟨h.1,Mr (l:=fL ops bd) (acc:=[]) (λk x aa=>?_) (λi j z=>by simp at z) i j h.2⟩;have af:k<bd.length:=by
    have:=(ed.1 aa).1;unfold fL at this;simp at this;omega
   grind
  have A:∀(i j:Nat) (x y:cf) (b:Nat),i≠j->bd[i]?=some x->bd[j]?=some y->cT xb x.op (E i) (N+16*i) b->b∈ew xb y.op (E j) (N+16*j)->oB (n0 (fL ops bd) []) i j\/oB (n0 (fL ops bd) []) j i:=by
   intro i j x y b r aa al g a;by_cases h1:oB (n0 (fL ops bd) []) i j=true;grind
   . by_cases n:oB (n0 (fL ops bd) []) j i=true
     grind
     . exfalso;obtain⟨v,Y,F,m,p⟩:=e i (ed.1 aa).1;obtain⟨w,O,H,c,q⟩:=e j (ed.1 al).1;rw[aa]at m;cases m;rw[al]at c;cases c;have ht:y.op.il:=by
        cases h:y.op.il with
        |true=>rfl
        |false=>rw[acC h]at a;simp at a
       have U:(i,j)∈lu (fL ops bd):=by
        simp only[lu,Gk,List.mem_flatMap];refine⟨((x,hG v),i),fr (i:=i) (by simp[CS,p]),?_⟩;dsimp only;rw[MM g];simp only[cx,cF,List.mem_filterMap];refine⟨((y,hG w),j),fr (i:=j) (by simp[CS,q]),?_⟩;grind
       have:=LN S U aa al b (by rw[aeb (D j y al (λh=>by rw[ht]at h;cases h.2))];exact a);rw[aea (D i x aa (λh=>by rw[MM g]at h;cases h.1))]at this;grind
  intro i j b r f z g a;obtain⟨v,x,F,aa,p⟩:=e i f;obtain⟨w,y,H,al,q⟩:=e j z;have u:cT xb x.op (E i) (N+16*i) b:=by unfold iW at g;rw[aa]at g;exact g
  have conv:(oB (n0 (fL ops bd) []) i j\/oB (n0 (fL ops bd) []) j i)->(i<j/\jn (λi=>((ops[i]?).map hG).getD []) i j)\/(j<i/\jn (λi=>((ops[i]?).map hG).getD []) j i):=by grind
  rcases a with⟨O,c,a⟩|a
  . rw[al]at c;cases c;exact conv (A i j x y b r aa al u a)
  . have B:cT xb y.op (E j) (N+16*j) b:=by unfold iW at a;rw[al]at a;exact a
    cases M:y.op.il with
    |true=>exact conv (A i j x y b r aa al u (LL M B))
    |false=>
     cases L:x.op.il with
     |true=>exact conv (A j i y x b (dN r) al aa B (LL L u)).symm
     |false=>
      have h1:=PU L u;have n:=PU M B;exfalso;omega
theorem IP:∀{l m:I (Nat×Nat)},(∀p,p∈l->p∈m)->kZ xb bd env N m->kZ xb bd env N l=true
 |[],_,_,_=>rfl
 |(i,j)::r,m,hs,h=>by
  simp only[kZ,dh];refine⟨?_,IP (λp ar=>hs p (CT _ ar)) h⟩
  have:∀ (m:I (Nat×Nat)),(i,j)∈m->kZ xb bd env N m->(match bd[i]?,bd[j]? with
   |some x,some y=>(ew xb y.op env (N+16*j)).all λb=>!(cT xb x.op env (N+16*i) b)
   |_,_=>true)=true:=by
   intro m;induction m with
   |nil=>intro h _;simp at h
   |cons q m ih=>
    intro c a;obtain⟨d,e⟩:=q;simp only[kZ,dh]at a;grind
  grind
theorem aed{l:I (cf×ba)}{p:Nat×Nat}(h:p∈lu l):p∈s3 l:=by
 unfold s3;grind
theorem cH.o2{fw:I (Nat×Nat)}{env:Env}{σ:bg}{Q:Exit->Env->bg->Nat->Prop}(h:yu xb P bd N env σ (λe s=>kZ xb bd e N fw=true/\Q .normal e s (N+16*bd.length))):cH P nt kk (.o2 bd fw) env σ N Q:=by
 intro B u aA φ S a w D R;obtain⟨id,ops,rfl,hres,A,z,rfl⟩:=Lq u;have c:=y4 hres;simp at c;obtain⟨E,T,G,W,g,dp,t0,v,j⟩:=Ke h;refine wp_region_any z ?_;refine abT (aA:=aA) (nt:=nt) (Pt c A g (IP (λp ar=>aed ar) v)) g hres (λi o f=>by simp[f]) (λφ S a w R'=>⟨φ,S,_,_,_,j,R'⟩) ops.size _ φ S env σ a _ ?_ ?_
 have:=List.countP_le_length (p:=λx:J=>x==false) (l:=(Array.replicate ops.size false).toList);grind
 . have R':Rel aA nt φ S env σ (lt N) a {w with drawn:=w.drawn+1}:=R.drew;refine⟨R'.more λb q=>by simp[used,q],by simp[c],λi y ak=>?_,λt _=>by rw[dp],λt i o f ak=>?_,λb _=>by rw[t0],λb i y ak=>?_⟩
   simp_all;exfalso;simp[Array.getElem?_replicate]at ak;split at ak<;>simp at ak;simp_all
end
end
section
open Go
def vd(P:Program)(c:Code)(Q:Exit->Act->World->Prop)(a:Act)(w:World):Prop:=
 ∀(b:Frame) (k:I Item) (cs:I Frame),∃e ca w',Q e ca w'/\Arrives P (lone (b.at a (.code c:: .inLoop c::k)) cs w) b k cs e ca w'
variable{Q:Exit->Act->World->Prop}{a:Act}{P:Program}{w:World}{c:dG}{φ:dk}{S:dm}{aA:Ctx}{D:Nat->Type}
theorem xg{c:Code}(h:c.wp P (Exit.then (vd P c Q) Q) a w):vd P c Q a w:=by
 intro b k cs;obtain⟨e,g,i,f,d⟩:=h b _ cs;cases e with
 |normal=>
  obtain⟨m,j,p,o,n⟩:=f b k cs;exact⟨m,j,p,o,.of_steps (Steps.trans d (.one step_inLoop)) n⟩
 |exit id=>exact⟨_,g,i,f,.pass rfl (λ_ _=>.inl (by simp)) d⟩
 |goto l=>exact⟨_,g,i,f,.pass (x:= .inLoop c) rfl (λ_ _=>.inl (by simp)) d⟩
 |ret=>exact⟨_,g,i,f,.pass (x:= .inLoop c) rfl (λ_ _=>.inl (by simp)) d⟩
 |panic q=>exact⟨_,g,i,f,.pass (x:= .inLoop c) rfl (λ_ _=>.inl (by simp)) d⟩
 |outgrown=>exact⟨_,g,i,f,.pass (x:= .inLoop c) rfl (λ_ _=>.inl (by simp)) d⟩
theorem E2{c:Code}(h:vd P c Q a w):(Code.loop c).wp P Q a w:=by
 intro b k cs;obtain⟨e,ca,w',f,d⟩:=h b k cs;exact⟨e,ca,w',f,.of_steps (.one step_loop) d⟩
section
variable {P:Program}{nt kk:Nat}{env env':Env}{σ σ':bg}{N N':Nat}{Q nV:Exit->Env->bg->Nat->Prop}
def mM(P:Program)(nt kk:Nat)(c:dG)(env:Env)(σ:bg)(N:Nat)(Q:Exit->Env->bg->Nat->Prop):Prop:=
 ∀b,resolve P nt b=some c->∀aA φ S a w,aA.k=kk->Rel aA nt φ S env σ (lt N) a w->vd P b (λe ca w'=>∃bq bu env' σ' N',Q e env' σ' N'/\Rel aA nt bq bu env' σ' (lt N') ca w') a w
theorem mM.round(h:cH P nt kk c env σ N (andThen (λenv σ N=>mM P nt kk c env σ N Q) Q)):mM P nt kk c env σ N Q:=by
 intro o f aA φ S a w g R;refine xg (wp_mono (h _ f aA φ S a w g R) ?_);rintro e ca w' ⟨bq,bu,env',σ',N',j,R'⟩
 cases e with
 |normal=>exact j _ f aA _ bu ca w' g R'
 |_=>exact⟨bq,bu,env',σ',N',j,R'⟩
theorem cH.ajT(h:mM P nt kk c env σ N Q):cH P nt kk (.loop c) env σ N Q:=by
 intro j f aA φ S a w g R;obtain⟨b,rfl,e⟩:=abQ f;exact E2 (h b e aA φ S a w g R)
def Conv(kk N:Nat)(env:Env)(σ:bg)(N':Nat)(env':Env)(σ':bg):Prop:=
 ∀aA nt φ S a w,aA.k=kk->Rel aA nt φ S env σ (lt N) a w->∃bq bu,Rel aA nt bq bu env' σ' (lt N') a w
theorem Conv.refl:Conv kk N env σ N env σ:=λ_ _ φ S _ _ _ R=>⟨φ,S,R⟩
theorem Conv.trans{c e f:Nat}{aJ g c3:Env}{s1 o p:bg}(h:Conv kk c aJ s1 e g o)(k:Conv kk e g o f c3 p):Conv kk c aJ s1 f c3 p:=
 λaA nt φ S a w j R=>let⟨bq,bu,R'⟩:=h aA nt φ S a w j R;k aA nt _ bu a w j R'
theorem cH.conv(f:Conv kk N env σ N' env' σ')(h:cH P nt kk c env' σ' N' Q):cH P nt kk c env σ N Q:=
 λj g aA φ S a w e R=>let⟨bq,bu,R'⟩:=f aA nt φ S a w e R;h _ g aA _ bu a w e R'
theorem mM.conv(f:Conv kk N env σ N' env' σ')(h:mM P nt kk c env' σ' N' Q):mM P nt kk c env σ N Q:=
 λj g aA φ S a w e R=>let⟨bq,bu,R'⟩:=f aA nt φ S a w e R;h _ g aA _ bu a w e R'
theorem Conv.tidy(ks bs:ba)(cd:bs.Nodup)(c:keeps kk bs):Conv kk N env σ bs.length (ox bs env ks) (fV bs σ 0 bs):=
 λaA nt φ S a w e R=>let⟨bq,R'⟩:=R.tidy ks bs cd (by grind);⟨bq,S,R'⟩
theorem Conv.freeze(b0:Nat){c:Nat}{es:I (I T)}(e:aV σ b0=some (.arr c es)):Conv kk N env σ N (rR b0 c es env) (nB b0 c es σ):=
 λaA nt φ S a w f R=>⟨φ,_,R.freeze e⟩
def dQ(c a:C):Prop:=(∀φ w S v,bD φ w S c v->bD φ w S a v)/\∀n,c.aK n->a.aK n=true
theorem dQ.refl(c:C):dQ c c:=⟨λ_ _ _ _ h=>h,λ_ h=>h⟩
theorem dQ.dead(c:C):dQ c .dead:=⟨λ_ _ _ _ h=>h.jk,λ_ _=>rfl⟩
theorem dQ.bV:dQ .bV (.t (.slice [])):=by
 refine⟨?_,λ_ _=>rfl⟩;rintro φ w S v ⟨a,rfl⟩;exact b6.slice [] a 0 0 0 0 (λ_ _=>undef) (by simp) (by simp) (by simp) (by simp) (by simp) (by simp)
inductive gY:V->V->Prop
 |c {x y}:dQ x y->gY (.c x) (.c y)
 |agg {xs qK}:bb dQ xs qK->gY (.agg xs) (.agg qK)
 |bf (xs qK:List V) (ak:xs.length=qK.length) (h:∀(i:Nat) x y,xs[i]?=some x->qK[i]?=some y->gY x y):gY (.bf xs) (.bf qK)
theorem bb.comp{α e γ:Type}{R:α->e->Prop}{R':e->γ->Prop}{f:α->γ->Prop}(h:∀a b c,R a b->R' b c->f a c):∀{l:I α} {m:I e} {k:I γ},bb R l m->bb R' m k->bb f l k
 |[],[],[],_,_=>.nil
 |_::_,_::_,_::_,.cons h1 g,.cons k1 k2=>.cons (h _ _ _ h1 k1) (bb.comp h g k2)
theorem bb.flip{α c:Type}{R:α->c->Prop}{R':c->α->Prop}{l:I α}{m:I c}(h:bb R l m)(k:∀a b,R a b->R' b a):bb R' m l:=by
 induction h with
 |nil=>exact .nil
 |cons h _ ih=>exact .cons (k _ _ h) ih
theorem SZ{n:Nat->J}:∀{vs:I V},(∀(i:Nat) v,vs[i]?=some v->v.aK n)->V.aK.V.dI n vs=true
 |[],_=>rfl
 |v::vs,h=>by simp[V.aK.V.dI];exact⟨h 0 v rfl,SZ λi x aa=>h (i+1) x (by grind)⟩
theorem gY.Hv{v f:V}(h:gY v f):∀{x},cc φ w S v x->cc φ w S f x:=by
 induction h with
 |c h=>intro x aa;cases aa with|c aa=>exact .c (h.1 _ _ _ _ aa)
 |agg h=>
  intro x aa;cases aa with
  |agg aa=>exact .agg (bb.comp (λa b c h1 e=>h1.1 _ _ _ _ e) (h.flip λ_ _ h=>h) aa)
 |bf xs o ak h ih=>
  intro x aa;cases aa with
  |bf _ g j e=>
   refine .bf _ g (by omega) ?_;grind
theorem gY.aK{v f:V}(h:gY v f)(n:Nat->J):v.aK n->f.aK n:=by
 induction h with
 |c h=>intro e;exact h.2 n e
 | @agg xs p h=>
  intro e;simp[V.aK]at e⊢;intro c j;obtain⟨i,o,rfl⟩:=gT j;obtain⟨a,g,hs⟩:=(h.flip λ_ _ h=>h).get (e0 o);exact hs.2 n (e a (fr g))
 |bf xs p ak h ih=>
  grind[V.aK,SZ,nn]
inductive kJ:b9->b9->Prop
 |box {xs qK}:bb dQ xs qK->kJ (.box xs) (.box qK)
 |arr {sz es}:kJ (.arr sz es) (.arr sz es)
 |same {x}:kJ x x
 |cm {E c yo}:dQ c yo->kJ (.cm E c) (.cm E yo)
 |cR {sz es i o c yo}:dQ c yo->kJ (.cR sz es i o c) (.cR sz es i o yo)
def RJ(env env':Env):Prop:=∀k g a,look env' k=some (g,a)->∃v,look env k=some (g,v)/\gY v a
def sU(σ σ':bg):Prop:=∀b a,aV σ' b=some a->∃x,aV σ b=some x/\kJ x a
theorem kJ.Hs{b:Nat}{x j:b9}(h:kJ x j)(g:c8 φ w S b x):c8 φ w S b j:=by
 cases h with
 |arr=>grind
 |same=>grind
 |cm h=>
  obtain⟨h0,⟨p,v,h1,e,f⟩,o⟩:=g;exact⟨h0,⟨p,v,h1,e,h.1 _ _ _ _ f⟩,o⟩
 |cR h=>
  obtain⟨h1,⟨vs,E,k1,k2,k3,v,k4,k5⟩,k6⟩:=g;exact⟨h1,⟨vs,E,k1,k2,k3,v,k4,h.1 _ _ _ _ k5⟩,k6⟩
 |box h=>
  obtain⟨h0,vs,E,h1,e,f⟩:=g;exact⟨h0,vs,E,h1,bb.comp (λa b c h1 e=>h1.1 _ _ _ _ e) (h.flip λ_ _ h=>h) e,f⟩
theorem kJ.aK{x c:b9}(h:kJ x c)(n:Nat->J)(a:x.aK n):c.aK n:=by
 cases h with
 |arr=>rfl
 |same=>grind
 |cm h=>exact h.2 n a
 |cR h=>exact h.2 n a
 | @box xs e h=>
  have:=gY.aK (.agg h) n (by grind[V.aK,b9.aK]);grind[V.aK,b9.aK]
theorem Rel.weaken{n:Nat->J}(R:Rel aA nt φ S env σ n a w)(he:RJ env env')(hs:sU σ σ'):Rel aA nt φ S env' σ' n a w:=by
 refine⟨⟨λb x aa=>?_,λb f x y aa al=>?_,R.bS.st⟩,λk g v ak av=>?_,λk g v ak av=>?_,λk g v ak av=>?_,λb x aa=>?_,R.size,R.defers,R.ext,λb x aa=>?_,R.fix,R.gS⟩;obtain⟨e,h1,c⟩:=hs b x aa;exact c.Hs (R.bS.blk b e h1);obtain⟨e,h1,c⟩:=hs b x aa;obtain⟨o,k1,k2⟩:=hs f y al;exact R.bS.inj b f e o h1 k1;obtain⟨v0,h1,c⟩:=he k g v ak;obtain⟨x,aa,j⟩:=R.gx k g v0 h1 av;exact⟨x,aa,c.Hv j⟩;obtain⟨v0,h1,c⟩:=he k g v ak;exact R.hl k g v0 h1 av;obtain⟨v0,h1,c⟩:=he k g v ak;exact c.aK n (R.gw k g v0 h1 av);obtain⟨e,h1,c⟩:=hs b x aa;exact⟨(R.dT b e h1).1,c.aK n (R.dT b e h1).2⟩;obtain⟨e,h1,c⟩:=hs b x aa;exact R.own b e h1
theorem Conv.weaken(he:RJ env env')(hs:sU σ σ'):Conv kk N env σ N env' σ':=λaA nt φ S a w _ R=>⟨φ,S,R.weaken he hs⟩
theorem Rel.GX(R:Rel aA nt φ S env σ (lt N) a w){sz:Nat}(t:0<sz)(z:aA.k<=N):
 Rel aA nt (eN φ N (0,0)) S env (dn σ N (.arr sz [])) (lt (N+1)) a w:=by
 have u:∀b,lt N b->eN φ N (0,0) b=φ b:=by
  intro b f;simp[lt]at f;grind[eN]
 have j:∀b,lt N b->lt (N+1) b:=λb f=>EA (by simp) f;have c:=R.u3 u;have ec:(eN φ N (0,0) N).2=0:=by simp[eN]
 have e:∀b x,aV (dn σ N (.arr sz [])) b=some x->(b=N/\x= .arr sz [])\/(b≠N/\aV σ b=some x):=by
  grind[c9]
 refine⟨⟨λb x aa=>?_,λb o x y aa al q h0 p=>?_,c.bS.st⟩,c.gx,c.hl,λk g v ak av=>V.hJ j (c.gw k g v ak av),λb x aa=>?_,c.size,c.defers,c.ext,λb x aa h0=>?_,c.fix,λb f=>by simp[lt];omega⟩
 . rcases e b x aa with⟨rfl,rfl⟩|⟨_,aa⟩
   exact⟨by simp,by simp,by simp,t,λh=>absurd ec h⟩;exact c.bS.blk b x aa
 . rcases e b x aa with⟨rfl,rfl⟩|⟨_,aa⟩
   grind
   . rcases e o y al with⟨rfl,rfl⟩|⟨_,al⟩
     grind;exact c.bS.inj b o x y aa al q h0 p
 . rcases e b x aa with⟨rfl,rfl⟩|⟨_,aa⟩
   exact⟨by simp[lt],rfl⟩;exact⟨j b (c.dT b x aa).1,b9.hJ j (c.dT b x aa).2⟩
 . rcases e b x aa with⟨rfl,rfl⟩|⟨_,aa⟩
   grind;exact c.own b x aa h0
end
inductive aL where
 |bool
 |int (k:IntKind)
 |str
 |slice (t:aL)
 |nm (n:Nat)
def aL.beq:aL->aL->J
 |.bool,.bool=>true
 |.int k,.int a=>(k=a:J)
 |.str,.str=>true
 |.slice r,.slice c=>aL.beq r c
 |.nm n,.nm m=>Nat.beq n m
 |_,_=>false
theorem aL.beq_eq:∀{a b:aL},aL.beq a b->a=b
 |.bool,.bool,_=>rfl
 |.int k,.int c,h=>by grind[aL.beq]
 |.str,.str,_=>rfl
 |.slice r,.slice e,h=>by simp[aL.beq]at h;rw[aL.beq_eq h]
 |.nm n,.nm m,h=>by grind[aL.beq,Nat.eq_of_beq_eq_true]
 |.bool,.int _,h|.bool,.str,h|.bool,.slice _,h|.bool,.nm _,h=>by simp[aL.beq]at h
 |.int _,.bool,h|.int _,.str,h|.int _,.slice _,h|.int _,.nm _,h=>by simp[aL.beq]at h
 |.str,.int _,h|.str,.bool,h|.str,.slice _,h|.str,.nm _,h=>by simp[aL.beq]at h
 |.slice _,.int _,h|.slice _,.str,h|.slice _,.bool,h|.slice _,.nm _,h=>by simp[aL.beq]at h
 |.nm _,.int _,h|.nm _,.str,h|.nm _,.bool,h|.nm _,.slice _,h=>by grind[aL.beq]
theorem aL.beq_refl:∀(a:aL),aL.beq a a=true
 |.bool=>rfl
 |.int k=>by simp[aL.beq]
 |.str=>rfl
 |.slice r=>by exact aL.beq_refl r
 |.nm n=>by grind[aL.beq,Nat.beq_refl]
def aL.dec(a b:aL):Decidable (a=b):=
 match h:aL.beq a b with
 |true=>.isTrue (aL.beq_eq h)
 |false=>.isFalse λe=>by rw[e,aL.beq_refl]at h;cases h
def aL.den(D:Nat->Type):aL->Type
 |.bool=>J
 |.int _=>Int
 |.str=>aq
 |.slice t=>I (aL.den D t)
 |.nm n=>D n
structure bL (D:Nat->Type) where
 ty:aL
 val:ty.den D
def bL.as{D:Nat->Type}(t:aL)(c:bL D):ag (t.den D):=
 match aL.dec c.ty t with
 |.isTrue h=>some (Eq.rec (motive:=λt _=>aL.den D t) c.val h)
 |.isFalse _=>none
variable{t:aL}
theorem bL.ki{c:bL D}{x:t.den D}(h:c.as t=some x):c=⟨t,x⟩:=by
 obtain⟨u,v⟩:=c;unfold bL.as at h;split at h
 all_goals grind
theorem bL.SY{x:t.den D}:bL.as t (⟨t,x⟩:bL D)=some x:=by
 unfold bL.as;split;rfl;grind
def GC(D:Nat->Type)(bJ:∀n,D n->I T):(t:aL)->t.den D->I T
 |.bool,b=>[.bool b]
 |.int k,n=>[.int k n]
 |.str,s=>[.str s]
 |.slice t,l=>[.slice (List.map (GC D bJ t) l)]
 |.nm n,x=>bJ n x
def U2(D:Nat->Type)(bJ:∀n,D n->I T):bL D->T
 |⟨.bool,b⟩=>.bool b
 |⟨.int k,n⟩=>.int k n
 |⟨.str,s⟩=>.str s
 |⟨.slice t,l⟩=>.slice (List.map (GC D bJ t) l)
 |⟨.nm _,_⟩=>.bool false
structure cM where
 D:Nat->Type
 mY:∀n,D n
 jZ:∀n,D n->List (bL D)
 make:∀n,List (bL D)->Option (D n)
 dx:Nat->List aL
 bJ:∀n,D n->List T
 U3:∀n x,bJ n x=(jZ n x).map (U2 D bJ)
 mk_eq:∀n l x,make n l=some x->jZ n x=l
 V2:∀n x,(jZ n x).map bL.ty=dx n
 pos:∀n,0<(dx n).length
 V1:Nat->Option aL:=λ_=>none
 own:List (List Bool×Nat×aL):=[]
 cz:Option aL:=none
variable {U:cM}
abbrev cM.C(U:cM):=bL U.D
abbrev aL.d(U:cM)(t:aL):=t.den U.D
def aL.mY(U:cM):(t:aL)->t.den U.D
 |.bool=>false
 |.int _=>(0:Int)
 |.str=>([]:aq)
 |.slice t=>([]:I (t.den U.D))
 |.nm n=>U.mY n
def aL.vQ:aL->J
 |.nm _=>true
 |_=>false
def aL.row(U:cM):(t:aL)->t.den U.D->I (bL U.D)
 |.bool,b=>[⟨.bool,b⟩]
 |.int k,n=>[⟨.int k,n⟩]
 |.str,s=>[⟨.str,s⟩]
 |.slice t,l=>[⟨.slice t,l⟩]
 |.nm n,x=>U.jZ n x
def aL.cells(U:cM):aL->I aL
 |.nm n=>U.dx n
 |t=>[t]
def aL.sz(U:cM)(t:aL):Nat:=(t.cells U).length
def jk(U:cM)(t:aL):I (bL U.D)->ag (t.den U.D)
 |[c]=>c.as t
 |_=>none
def aL.mk(U:cM):(t:aL)->I (bL U.D)->ag (t.den U.D)
 |.nm n,l=>U.make n l
 |.bool,l=>jk U .bool l
 |.int k,l=>jk U (.int k) l
 |.str,l=>jk U .str l
 |.slice t,l=>jk U (.slice t) l
variable{x:t.den U.D}
theorem DW{l:I (bL U.D)}(h:jk U t l=some x):l=[⟨t,x⟩]:=by
 unfold jk at h;grind[bL.ki]
def bL.bJ(U:cM)(c:bL U.D):T:=U2 U.D U.bJ c
def aL.bJ(U:cM)(t:aL)(x:t.den U.D):I T:=GC U.D U.bJ t x
theorem aL.vK:t.bJ U x=(t.row U x).map (bL.bJ U):=by
 cases t<;>first|rfl|skip
 case nm n=>exact U.U3 n x
theorem aL.akk:(t.row U x).map bL.ty=t.cells U:=by
 cases t<;>first|rfl|skip
 case nm n=>exact U.V2 n x
theorem aL.VR:(t.row U x).length=t.sz U:=by
 rw[<-sv,aL.akk];rfl
theorem aL.s8:(t.bJ U x).length=t.sz U:=by
 rw[aL.vK,sv,aL.VR]
theorem aL.nK:0<t.sz U:=by
 cases t<;>simp[aL.sz,aL.cells];exact U.pos _
theorem aL.GU:∀{t:aL} {l:I (bL U.D)} {x:t.den U.D},t.mk U l=some x->t.row U x=l
 |.nm n,l,x,h=>U.mk_eq n l x h
 |.bool,l,x,h=>(DW h).symm
 |.int k,l,x,h=>(DW h).symm
 |.str,l,x,h=>(DW h).symm
 |.slice t,l,x,h=>(DW h).symm
def aL.at(U:cM)(t:aL)(l:I (t.den U.D))(i:Nat):t.den U.D:=l.getD i (t.mY U)
theorem BI{l:I (t.den U.D)}{i:Nat}(h:i<l.length):el (l.map (t.bJ U)) i=t.bJ U (t.at U l i):=by
 simp[el,aL.at,e0 h]
end
section
open Go
variable {U:cM}
inductive bx (U:cM) where
 |t (c:bL U.D)
 |ptr (b o:Nat)
 |cW (b:Nat)(t:aL)(i o:Nat)
 |dY (t:aL)(x:t.den U.D)(o:Nat)
 |arr (b:Nat)
 |sub (b oT len:Nat)
 |pre (b h:Nat)
 |hP (b oT len:Nat)
 |mp (b:Nat)
 |eF (b:Nat)
 |cN (b:Nat)
 |bV
 |fp
 |fm
 |fn (f:Nat)(caps:ba)
 |dead
inductive bP (U:cM) where
 |c (x:bx U)
 |agg (cs:List (bx U))
 |bf (vs:List (bP U))
inductive c1 (U:cM) where
 |box (cs:List (bx U))
 |arr (t:aL)(l:List (t.den U.D))
 |rows (sz:Nat)(r:List (List (bx U)))
 |set (ks:List aq)
 |buf (E:Nat)(s:aq)
 |cm (E:Nat)(c:bx U)
 |cR (t:aL)(l:List (t.den U.D))(i o:Nat)(c:bx U)
abbrev b3(U:cM):=I (Nat×bP U)
abbrev bl(U:cM):=I (Nat×c1 U)
abbrev eH:=I (Nat×Nat×J)
def a8{α:Type}:I (Nat×α)->Nat->ag α
 |[],_=>none
 |(k,x)::r,i=>match Nat.beq k i with
  |true=>some x
  |false=>a8 r i
def cS{α:Type}:I (Nat×α)->Nat->α->I (Nat×α)
 |[],b,x=>[(b,x)]
 |(k,y)::r,b,x=>match Nat.beq k b with
  |true=>(k,x)::r
  |false=>(k,y)::cS r b x
def dl{α:Type}:I (Nat×α)->Nat->I (Nat×α)
 |[],_=>[]
 |(k,y)::r,b=>match Nat.beq k b with
  |true=>dl r b
  |false=>(k,y)::dl r b
theorem c7{a b:Nat}(h:Nat.beq a b):a=b:=Nat.eq_of_beq_eq_true h
theorem ib{a b:Nat}(h:Nat.beq a b=false):a≠b:=λe=>by simp_all
variable{α:Type}
theorem hM(σ:I (Nat×α))(b:Nat)(x:α)(i:Nat):a8 (cS σ b x) i=if b=i then some x else a8 σ i:=by
 induction σ with
 |nil=>
  grind[cS,a8,c7,ib]
 |cons y r ih=>
  grind[cS,c7,a8]
theorem nD(σ:I (Nat×α))(b i:Nat):a8 (dl σ b) i=if b=i then none else a8 σ i:=by
 induction σ with
 |nil=>simp[dl,a8]
 |cons y r ih=>
  grind[dl,c7,a8]
def FQ:C->ag (bx U)
 |.t (.bool b)=>some (.t ⟨.bool,b⟩)
 |.t (.int k n)=>some (.t ⟨.int k,n⟩)
 |.t (.str s)=>some (.t ⟨.str,s⟩)
 |.bV=>some .bV
 |.fp=>some .fp
 |.fm=>some .fm
 |.dead=>some .dead
 |.fn f []=>some (.fn f [])
 |_=>none
def nQ:I C->ag (I (bx U))
 |[]=>some []
 |c::cs=>match FQ c,nQ cs with
  |some x,some xs=>some (x::xs)
  |_,_=>none
def x5:V->ag (bP U)
 |.c x=>match FQ x with
  |some y=>some (.c y)
  |none=>none
 |.agg cs=>match nQ cs with
  |some a=>some (.agg a)
  |none=>none
 |.bf _=>none
def xX(gl:eH):Nat->ag (Nat×J)->Nat->J
 |0,_,_=>false
 |b+1,gd,k=>match a8 gl k with
  |none=>true
  |some a=>match gd with
   |none=>false
   |some g=>(Nat.beq g.1 a.1&&(g.2==a.2))||xX gl b (a8 gl g.1) k
def fA(env:b3 U)(t:Nat)(b:J):ag J:=
 match a8 env t with
 |some (.c (.t ⟨.bool,x⟩))=>some (match b with|true=>x|false=>!x)
 |_=>none
def lK(gl:eH)(env:b3 U):Nat->ag (Nat×J)->ag J
 |_,none=>some true
 |0,some _=>none
 |a+1,some (t,b)=>match lK gl env a (a8 gl t),fA env t b with
  |some x,some y=>some (x&&y)
  |_,_=>none
def qY:Nat:=200
def dr(gl:eH)(gd:ag (Nat×J))(env:b3 U):aS->ag (bP U)
 |.const v=>x5 v
 |.tmp k=>match xX gl qY gd k with
  |true=>a8 env k
  |false=>none
def FT(gl:eH)(gd:ag (Nat×J))(env:b3 U)(c:aS)(b:J):aS->ag (bP U)
 |.const v=>x5 v
 |.tmp k=>match xX gl qY gd k with
  |true=>a8 env k
  |false=>match c,a8 gl k with
   |.tmp d,some (t,a)=>match Nat.beq t d&&(a==b)with
    |true=>a8 env k
    |false=>none
   |_,_=>none
def lV(gl:eH)(gd:ag (Nat×J))(env:b3 U):I aS->ag (I (bP U))
 |[]=>some []
 |x::r=>match dr gl gd env x,lV gl gd env r with
  |some v,some vs=>some (v::vs)
  |_,_=>none
def qj:bP U->ag (I (bx U))
 |.c x=>some [x]
 |.agg cs=>some cs
 |.bf _=>none
def x3(a:I (bx U))(off:Nat)(cs:I (bx U)):I (bx U):=a.take off++cs++a.drop (off+cs.length)
def BJ(gl:eH)(gd:ag (Nat×J))(env:b3 U):I (bx U)->I (Nat×Nat×aS)->ag (I (bx U))
 |a,[]=>some a
 |a,(off,n,x)::r=>match dr gl gd env x with
  |none=>none
  |some v=>match qj v with
   |none=>none
   |some cs=>match Nat.beq cs.length n&&Nat.ble (off+n) a.length with
    |true=>BJ gl gd env (x3 a off cs) r
    |false=>none
def bx.toT:bx U->ag T
 |.t c=>match c.ty.vQ with
  |true=>none
  |false=>some (c.bJ U)
 |.bV=>some (.slice [])
 |_=>none
def h6:I (bx U)->ag (I T)
 |[]=>some []
 |c::cs=>match c.toT,h6 cs with
  |some t,some ts=>some (t::ts)
  |_,_=>none
def xF(gl:eH)(gd:ag (Nat×J))(env:b3 U)(sz:Nat):I (I (bx U))->I (Nat×aS)->ag (I (I (bx U)))
 |rows,[]=>some rows
 |rows,(i,x)::r=>match dr gl gd env x with
  |none=>none
  |some v=>match qj v with
   |none=>none
   |some cs=>match h6 cs with
    |none=>none
    |some _=>match Nat.beq cs.length sz&&Nat.ble (i+1) rows.length with
     |true=>xF gl gd env sz (rows.set i cs) r
     |false=>none
inductive gp (U:cM) where
 |ty (t:aL)(l:List (t.den U.D))
 |rows (r:List (List (bx U)))
 |nil
def gp.len:gp U->Nat
 |.ty _ l=>l.length
 |.rows r=>r.length
 |.nil=>0
def iM:I aL->I (bx U)->ag (I (bL U.D))
 |[],[]=>some []
 |t::ts,.t c::cs=>match iM ts cs with
  |some l=>some (c::l)
  |none=>none
 |.slice t::ts,.bV::cs=>match iM ts cs with
  |some l=>some (⟨.slice t,([]:I (t.den U.D))⟩::l)
  |none=>none
 |_,_=>none
def qJ(U:cM)(t:aL)(cs:I (bx U)):ag (t.den U.D):=
 match iM (t.cells U) cs with
 |some l=>t.mk U l
 |none=>none
def mJ(U:cM)(t:aL):I (I (bx U))->ag (I (t.den U.D))
 |[]=>some []
 |r::a=>match qJ U t r,mJ U t a with
  |some x,some xs=>some (x::xs)
  |_,_=>none
def gp.as(t:aL):gp U->ag (I (t.den U.D))
 |.ty u l=>bL.as (.slice t) ⟨.slice u,l⟩
 |.rows r=>mJ U t r
 |.nil=>some []
def gp.join:gp U->gp U->ag (gp U)
 |.nil,y=>some y
 |.ty t l,y=>match y.as t with
  |some a=>some (.ty t (l++a))
  |none=>none
 |.rows r,.ty t l=>match mJ U t r with
  |some c=>some (.ty t (c++l))
  |none=>none
 |.rows r,.rows e=>some (.rows (r++e))
 |.rows r,.nil=>some (.rows r)
def gp.blk(sz:Nat):gp U->ag (c1 U)
 |.ty t l=>match Nat.beq (t.sz U) sz with
  |true=>some (.arr t l)
  |false=>none
 |.rows r=>match r.all λx=>Nat.beq x.length sz with
  |true=>some (.rows sz r)
  |false=>none
 |.nil=>some (.rows sz [])
def sJ(σ:bl U):bP U->ag (gp U×ag Nat)
 |.c (.t ⟨.slice t,l⟩)=>some (.ty t l,none)
 |.c .bV=>some (.nil,none)
 |.c (.arr b)=>match a8 σ b with
  |some (.arr t l)=>some (.ty t l,some b)
  |some (.rows _ r)=>some (.rows r,some b)
  |_=>none
 |_=>none
def c1.dq:c1 U->ag (Nat×Nat)
 |.box _=>none
 |.arr t l=>some (t.sz U,l.length)
 |.rows sz r=>some (sz,r.length)
 |.set _=>none
 |.buf _ s=>some (1,s.length)
 |.cm _ _=>none
 |.cR t l _ _ _=>some (t.sz U,l.length)
def Wb(σ:bl U)(b sz:Nat):J:=
 match a8 σ b with
 |some x=>(match x.dq with|some p=>Nat.beq p.1 sz|none=>false)
 |none=>false
def cn(bytes n:Nat):J:=((2*n+192)*bytes<=hD:J)&&(n<=dB:J)
def V9:BinOp->IntKind->IntKind->Int->Int->ag (J×bL U.D)
 |.add,k,c,a,b=>ite (k=c) (some (true,⟨.int k,k.wrap (a+b)⟩)) none
 |.sub,k,c,a,b=>ite (k=c) (some (true,⟨.int k,k.wrap (a-b)⟩)) none
 |.mul,k,c,a,b=>ite (k=c) (some (true,⟨.int k,k.wrap (a*b)⟩)) none
 |.quo,k,c,a,b=>ite (k=c) (some (!(b=0:J),⟨.int k,k.wrap (a.tdiv b)⟩)) none
 |.rem,k,c,a,b=>ite (k=c) (some (!(b=0:J),⟨.int k,a.tmod b⟩)) none
 |.and,k,c,a,b=>ite (k=c) (some (true,⟨.int k,k.wrap (BitVec.ofInt k.bits a &&& BitVec.ofInt k.bits b).toNat⟩)) none
 |.or,k,c,a,b=>ite (k=c) (some (true,⟨.int k,k.wrap (BitVec.ofInt k.bits a ||| BitVec.ofInt k.bits b).toNat⟩)) none
 |.xor,k,c,a,b=>ite (k=c) (some (true,⟨.int k,k.wrap (BitVec.ofInt k.bits a ^^^ BitVec.ofInt k.bits b).toNat⟩)) none
 |.andNot,k,c,a,b=>ite (k=c) (some (true,⟨.int k,k.wrap (BitVec.ofInt k.bits a &&& ~~~ BitVec.ofInt k.bits b).toNat⟩)) none
 |.shl,k,_,a,b=>some ((0<=b:J),⟨.int k,k.wrap (a*2^min b.toNat k.bits)⟩)
 |.shr,k,_,a,b=>some ((0<=b:J),⟨.int k,a.fdiv (2^min b.toNat k.bits)⟩)
 |.eql,k,c,a,b=>ite (k=c) (some (true,⟨.bool,(a=b:J)⟩)) none
 |.neq,k,c,a,b=>ite (k=c) (some (true,⟨.bool,!(a=b:J)⟩)) none
 |.lss,k,c,a,b=>ite (k=c) (some (true,⟨.bool,(a<b:J)⟩)) none
 |.leq,k,c,a,b=>ite (k=c) (some (true,⟨.bool,(a<=b:J)⟩)) none
 |.gtr,k,c,a,b=>ite (k=c) (some (true,⟨.bool,(b<a:J)⟩)) none
 |.geq,k,c,a,b=>ite (k=c) (some (true,⟨.bool,(b<=a:J)⟩)) none
def V':BinOp->aq->aq->ag (J×bL U.D)
 |.add,a,b=>some ((a.length+b.length<=eS:J),⟨.str,a++b⟩)
 |.eql,a,b=>some (true,⟨.bool,(a=b:J)⟩)
 |.neq,a,b=>some (true,⟨.bool,!(a=b:J)⟩)
 |.lss,a,b=>some (true,⟨.bool,Op.bytesLess a b⟩)
 |.leq,a,b=>some (true,⟨.bool,Op.bytesLess a b||(a=b:J)⟩)
 |.gtr,a,b=>some (true,⟨.bool,!(Op.bytesLess a b||(a=b:J))⟩)
 |.geq,a,b=>some (true,⟨.bool,!(Op.bytesLess a b)⟩)
 |_,_,_=>none
def I7(op:BinOp):bL U.D->bL U.D->ag (J×bL U.D)
 |⟨.int k,a⟩,⟨.int c,b⟩=>V9 op k c a b
 |⟨.str,a⟩,⟨.str,b⟩=>V' op a b
 |_,_=>none
def e7(a b:J):J:=a==b
def eJ(a b:Int):J:=(a=b:J)
def jA(a b:aq):J:=(a=b:J)
def aE(m:Int)(n:Nat):J:=(0<=m:J)&&(m.toNat<n:J)
def fy(b a:Int)(n:Nat):J:=(0<=b:J)&&((b<=a:J)&&(a<=n:J))
def gG{α:Type}(l:I α)(b a:Int):I α:=(l.take a.toNat).drop b.toNat
def mx(a b:Int):Int:=Max.max a b
def c4(a b:Int):Int:=Min.min a b
def gj(s:aq)(m:Int):Int:=((s.getD m.toNat 0).toNat:Int)
def afE(m:Int):aq:=(Utf8.encode m).data.toList
def da(k:IntKind)(m:Int):Int:=k.wrap m
def vz(a b:aq):aq:=a++b
def Ja:Nat->bL U.D->bL U.D->ag J
 |0,⟨.bool,a⟩,⟨.bool,b⟩=>some (e7 a b)
 |1,⟨.int k,a⟩,⟨.int c,b⟩=>ite (k=c) (some (eJ a b)) none
 |2,⟨.str,a⟩,⟨.str,b⟩=>some (jA a b)
 |_,_,_=>none
def Cb:ba->I (bx U)->I (bx U)->ag J
 |[],[],[]=>some true
 |k::ks,.t x::xs,.t y::a=>match Ja k x y,Cb ks xs a with
  |some b,some r=>some (b&&r)
  |_,_=>none
 |_,_,_=>none
def rS(agg:J)(n:Nat)(cs:I (bx U))(o:Nat):ag (bP U):=
 match agg with
 |true=>match Nat.ble (o+n) cs.length with
  |true=>some (.agg ((cs.drop o).take n))
  |false=>none
 |false=>match cs[o]? with
  |some c=>some (.c c)
  |none=>none
def oC(gl:eH)(gd:ag (Nat×J))(env:b3 U):ag aS->ag (ag Int)
 |none=>some none
 |some x=>match dr gl gd env x with
  |some (.c (.t ⟨.int _,n⟩))=>some (some n)
  |_=>none
def B':I (bP U)->ag ba
 |[]=>some []
 |.c (.ptr b 0)::r=>match B' r with
  |some l=>some (b::l)
  |none=>none
 |_=>none
abbrev ahJ(U:cM):=ag (J×bP U×bl U)
def sL(U:cM)(t:aL)(l:I (t.den U.D))(i o:Nat)(cs:I (bx U)):ag (I (t.den U.D)):=
 match qJ U t (x3 ((t.row U (t.at U l i)).map .t) o cs)with
 |some x=>some (l.set i x)
 |none=>none
def vf(t:aL):I (bx U)->ag (I (t.den U.D))
 |[]=>some []
 |.t c::r=>match c.as t,vf t r with
  |some x,some l=>some (x::l)
  |_,_=>none
 |_::_=>none
def FI:I (bx U)->ag ((t:aL)×I (t.den U.D))
 |.t c::r=>match c.ty.vQ,vf c.ty (.t c::r)with
  |false,some l=>some ⟨c.ty,l⟩
  |_,_=>none
 |_=>none
def strOf(l:az):aq:=l.map λm=>UInt8.ofNat m.toNat
def Kw(l:az):J:=l.all λm=>(0<=m:J)&&(m<256:J)
def xY(a len n:Nat):J:=(a+len<=n:J)
def Vx:I (bx U)->ag (bx U)
 |[.arr b]=>some (.arr b)
 |_=>none
def y2(bytes:Nat)(m:Int):J:=(0<=m/\m.toNat*bytes<=hD/\m.toNat<=dB:J)
theorem JS{bytes:Nat}{m:Int}:y2 bytes m↔0<=m/\m.toNat*bytes<=hD/\m.toNat<=dB:=by simp[y2]
def cG(gl:eH)(gd:ag (Nat×J))(env:b3 U)(σ:bl U)(n:Nat)(o:c0):ahJ U:=
 match o with
 |.mov x=>match dr gl gd env x with
  |some v=>some (true,v,σ)
  |none=>none
 |.pick c x y=>match dr gl gd env c,FT gl gd env c true x,FT gl gd env c false y with
  |some (.c (.t ⟨.bool,b⟩)),some (.c (.t ⟨.bool,p⟩)),some (.c (.t ⟨.bool,q⟩))=>some (true,.c (.t ⟨.bool,bif b then p else q⟩),σ)
  |_,_,_=>none
 |.alloc cs=>match nQ cs with
  |some xs=>some (true,.c (.ptr n 0),cS σ n (.box xs))
  |none=>none
 |.allocA cs=>match nQ cs with
  |some xs=>match FI xs with
   |some ⟨t,l⟩=>some (true,.c (.ptr n 0),cS σ n (.arr t l))
   |none=>none
  |none=>none
 |.idxP k x i=>match dr gl gd env x,dr gl gd env i with
  |some (.c (.ptr b 0)),some (.c (.t ⟨.int _,m⟩))=>match a8 σ b with
   |some (.arr t _)=>match Nat.beq (t.sz U) 1 with
    |true=>some (aE m k,.c (.cW b t (Int.toNat m) 0),σ)
    |false=>none
   |_=>none
  |_,_=>none
 |.idxV k x i=>match dr gl gd env x,dr gl gd env i with
  |some (.agg cs),some (.c (.t ⟨.int _,m⟩))=>match Nat.beq cs.length k,FI cs with
   |true,some ⟨t,l⟩=>some (aE m k,.c (.t ⟨t,t.at U l (Int.toNat m)⟩),σ)
   |_,_=>none
  |_,_=>none
 |.mslice sz bytes z x=>match dr gl gd env x,nQ z with
  |some (.c (.t ⟨.int _,m⟩)),some g=>match h6 g with
   |none=>none
   |some _=>match g with
    |[.t c]=>match c.ty.vQ,Nat.beq sz 1 with
     |false,true=>some (y2 bytes m,.c (.arr n),cS σ n (.arr c.ty (List.replicate (Int.toNat m) c.val)))
     |_,_=>none
    |_=>none
  |_,_=>none
 |.slcP k x d w=>match dr gl gd env x,oC gl gd env d,oC gl gd env w with
  |some (.c (.ptr b 0)),some l,some h=>
   some (fy (l.getD 0) (h.getD (k:Int)) k,.c (.sub b (Int.toNat (l.getD 0)) (Int.toNat (h.getD (k:Int))-Int.toNat (l.getD 0))),σ)
  |_,_,_=>none
 |.b2s x=>match dr gl gd env x with
  |some (.c (.t ⟨.slice (.int .u8),l⟩))=>some (true,.c (.t ⟨.str,strOf l⟩),σ)
  |some (.c .bV)=>some (true,.c (.t ⟨.str,[]⟩),σ)
  |some (.c (.arr b))=>match a8 σ b with
   |some (.arr (.int .u8) l)=>some (true,.c (.t ⟨.str,strOf l⟩),σ)
   |_=>none
  |some (.c (.sub b d len))=>match a8 σ b with
   |some (.arr (.int .u8) l)=>some (xY d len (List.length l),.c (.t ⟨.str,strOf ((l.drop d).take len)⟩),σ)
   |_=>none
  |_=>none
 |.allocS e e8=>some (true,.c (.ptr n 0),cS (cS σ (n+1) (.buf e8 [])) n (.cm e (.cN (n+1))))
 |.bsliceT e sz len z parts=>match U.V1 e with
  |none=>none
  |some t=>match nQ z with
   |some g=>match h6 g with
    |none=>none
    |some _=>match Nat.beq g.length sz with
     |false=>none
     |true=>match xF gl gd env sz (List.replicate len g) parts with
      |some rows=>match mJ U t rows with
       |some l=>some (true,.c (.t ⟨.slice t,l⟩),σ)
       |none=>none
      |none=>none
   |none=>none
 |.mkset=>some (true,.c (.mp n),cS σ n (.set []))
 |.lkset x k=>match dr gl gd env x,dr gl gd env k with
  |some (.c (.mp b)),some (.c (.t ⟨.str,s⟩))=>match a8 σ b with
   |some (.set ks)=>some (true,.c (.t ⟨.bool,hc ks s⟩),σ)
   |_=>none
  |_,_=>none
 |.upset x k=>match dr gl gd env x,dr gl gd env k with
  |some (.c (.mp b)),some (.c (.t ⟨.str,s⟩))=>match a8 σ b with
   |some (.set ks)=>some (true,.bf [],cS σ b (.set (iY ks s)))
   |_=>none
  |_,_=>none
 |.appendB e bytes x y=>match dr gl gd env x,dr gl gd env y with
  |some (.c (.cN b)),some (.c (.t ⟨.str,s⟩))=>match a8 σ b with
   |some (.buf u l)=>match Nat.beq u e with
    |true=>some (cn bytes (List.length l+List.length s),.c (.cN n),cS (dl σ b) n (.buf e (vz l s)))
    |false=>none
   |_=>none
  |_,_=>none
 |.sdata x=>match dr gl gd env x with
  |some (.c (.cN b))=>some (true,.c (.eF b),σ)
  |_=>none
 |.ustr e x k=>match dr gl gd env x,dr gl gd env k with
  |some (.c (.eF b)),some (.c (.t ⟨.int .i64,m⟩))=>match a8 σ b with
   |some (.buf u l)=>match Nat.beq u e with
    |true=>some (eJ m (List.length l:Int),.c (.t ⟨.str,l⟩),dl σ b)
    |false=>none
   |_=>none
  |_,_=>none
 |.box x=>match dr gl gd env x with
  |some v=>match qj v with
   |some cs=>some (true,.c (.ptr n 0),cS σ n (.box cs))
   |none=>none
  |none=>none
 |.build z parts=>match nQ z with
  |some g=>match BJ gl gd env g parts with
   |some cs=>some (true,.agg cs,σ)
   |none=>none
  |none=>none
 |.bslice sz len z parts=>match nQ z with
  |some g=>match h6 g with
   |none=>none
   |some _=>match Nat.beq g.length sz with
    |false=>none
    |true=>match xF gl gd env sz (List.replicate len g) parts with
     |some rows=>some (true,.c (.arr n),cS σ n (.rows sz rows))
     |none=>none
  |none=>none
 |.load agg k x=>match dr gl gd env x with
  |some (.c (.ptr b o))=>match a8 σ b with
   |some (.box cs)=>match rS agg k cs o with
    |some v=>some (true,v,σ)
    |none=>none
   |some (.cm _ c)=>match agg,o with
    |false,1=>some (true,.c c,σ)
    |_,_=>none
   |_=>none
  |some (.c (.cW b t i o))=>match a8 σ b with
   |some (.arr j l)=>match bL.as (.slice t) (⟨.slice j,l⟩:bL U.D)with
    |some l=>match rS agg k ((t.row U (t.at U l i)).map .t) o with
     |some v=>some ((i<l.length:J),v,σ)
     |none=>none
    |none=>none
   |some (.cR j l A B c)=>match agg with
    |true=>none
    |false=>match Nat.beq o B with
     |true=>match Nat.beq (t.sz U) (j.sz U)with
      |true=>some ((i=A:J),.c c,σ)
      |false=>none
     |false=>match bL.as (.slice t) (⟨.slice j,l⟩:bL U.D)with
      |some l=>match rS false k ((t.row U (t.at U l i)).map .t) o with
       |some v=>some ((i<l.length:J),v,σ)
       |none=>none
      |none=>none
   |_=>none
  |some (.c (.dY t x o))=>match rS agg k ((t.row U x).map .t) o with
   |some v=>some (true,v,σ)
   |none=>none
  |_=>none
 |.store k x v=>match dr gl gd env x,dr gl gd env v with
  |some (.c (.ptr b o)),some v=>match qj v with
   |some cs=>match Nat.beq cs.length k with
    |true=>match a8 σ b with
     |some (.box ds)=>match Nat.ble (o+k) ds.length with
      |true=>some (true,.bf [],cS σ b (.box (x3 ds o cs)))
      |false=>none
     |some (.cm e _)=>match o,cs with
      |1,[c]=>some (true,.bf [],cS σ b (.cm e c))
      |_,_=>none
     |_=>none
    |false=>none
   |none=>none
  |some (.c (.cW b t i o)),some v=>match qj v with
   |some cs=>match Nat.beq cs.length k&&Nat.ble (o+k) (t.sz U)with
    |true=>match a8 σ b with
     |some (.arr j l)=>match bL.as (.slice t) (⟨.slice j,l⟩:bL U.D)with
      |some l=>match Vx cs with
       |some c=>some ((i<l.length:J),.bf [],cS σ b (.cR t l i o c))
       |none=>match sL U t l i o cs with
        |some G=>some ((i<l.length:J),.bf [],cS σ b (.arr t G))
        |none=>none
      |none=>none
     |some (.cR j l A B K)=>match cs with
      |[c]=>match Nat.beq o B with
       |true=>match Nat.beq (t.sz U) (j.sz U)with
        |true=>some ((i=A:J),.bf [],cS σ b (.cR j l A B c))
        |false=>none
       |false=>match bL.as (.slice t) (⟨.slice j,l⟩:bL U.D)with
        |some l=>match sL U t l i o [c]with
         |some G=>some ((i<l.length:J),.bf [],cS σ b (.cR t G A B K))
         |none=>none
        |none=>none
      |_=>none
     |_=>none
    |false=>none
   |none=>none
  |_,_=>none
 |.nilCheck x=>match dr gl gd env x with
  |some (.c (.ptr b o))=>some (true,.c (.ptr b o),σ)
  |some (.c (.cW b t i o))=>some (true,.c (.cW b t i o),σ)
  |some (.c (.dY t x o))=>some (true,.c (.dY t x o),σ)
  |_=>none
 |.bin op x y=>match dr gl gd env x,dr gl gd env y with
  |some (.c (.t p)),some (.c (.t q))=>match I7 op p q with
   |some (c,r)=>some (c,.c (.t r),σ)
   |none=>none
  |_,_=>none
 |.eqAgg neg ks x y=>match dr gl gd env x,dr gl gd env y with
  |some (.agg p),some (.agg q)=>match Cb ks p q with
   |some r=>some (true,.c (.t ⟨.bool,match neg with|true=>!r|false=>r⟩),σ)
   |none=>none
  |_,_=>none
 |.eqBool neg x y=>match dr gl gd env x,dr gl gd env y with
  |some (.c (.t ⟨.bool,p⟩)),some (.c (.t ⟨.bool,q⟩))=>some (true,.c (.t ⟨.bool,match neg with|true=>!(e7 p q)|false=>e7 p q⟩),σ)
  |_,_=>none
 |.not x=>match dr gl gd env x with
  |some (.c (.t ⟨.bool,b⟩))=>some (true,.c (.t ⟨.bool,!b⟩),σ)
  |_=>none
 |.conv k x=>match dr gl gd env x with
  |some (.c (.t ⟨.int _,m⟩))=>some (true,.c (.t ⟨.int k,da k m⟩),σ)
  |_=>none
 |.i2s x=>match dr gl gd env x with
  |some (.c (.t ⟨.int _,m⟩))=>some (true,.c (.t ⟨.str,afE m⟩),σ)
  |_=>none
 |.s2s x=>match dr gl gd env x with
  |some (.c (.t ⟨.str,s⟩))=>some (true,.c (.t ⟨.str,s⟩),σ)
  |_=>none
 |.fldA off x=>match dr gl gd env x with
  |some (.c (.ptr b o))=>some (true,.c (.ptr b (o+off)),σ)
  |some (.c (.cW b t i o))=>some (true,.c (.cW b t i (o+off)),σ)
  |some (.c (.dY t x o))=>some (true,.c (.dY t x (o+off)),σ)
  |_=>none
 |.fld agg off k x=>match dr gl gd env x with
  |some (.agg cs)=>match rS agg k cs off with
   |some v=>some (true,v,σ)
   |none=>none
  |_=>none
 |.idxA sz x i=>match dr gl gd env x,dr gl gd env i with
  |some (.c (.t ⟨.slice t,l⟩)),some (.c (.t ⟨.int _,m⟩))=>match Nat.beq (t.sz U) sz with
   |true=>some (aE m l.length,.c (.dY t (t.at U l (Int.toNat m)) 0),σ)
   |false=>none
  |some (.c (.arr b)),some (.c (.t ⟨.int _,m⟩))=>match a8 σ b with
   |some (.arr t l)=>match Nat.beq (t.sz U) sz with
    |true=>some (aE m l.length,.c (.cW b t (Int.toNat m) 0),σ)
    |false=>none
   |_=>none
  |_,_=>none
 |.idxS x i=>match dr gl gd env x,dr gl gd env i with
  |some (.c (.t ⟨.str,s⟩)),some (.c (.t ⟨.int _,m⟩))=>some (aE m s.length,.c (.t ⟨.int .u8,gj s m⟩),σ)
  |_,_=>none
 |.slcS x d w=>match dr gl gd env x,oC gl gd env d,oC gl gd env w with
  |some (.c (.t ⟨.str,s⟩)),some l,some h=>
   some (fy (l.getD 0) (h.getD (s.length:Int)) s.length,.c (.t ⟨.str,gG s (l.getD 0) (h.getD (s.length:Int))⟩),σ)
  |_,_,_=>none
 |.slc sz x d w=>match dr gl gd env x,oC gl gd env d,oC gl gd env w with
  |some (.c (.t ⟨.slice t,s⟩)),some l,some h=>match Nat.beq (t.sz U) sz with
   |true=>some (fy (l.getD 0) (h.getD (s.length:Int)) s.length,.c (.t ⟨.slice t,gG s (l.getD 0) (h.getD (s.length:Int))⟩),σ)
   |false=>none
  |some (.c (.arr b)),some none,some h=>match a8 σ b with
   |some (.arr t s)=>match Nat.beq (t.sz U) sz with
    |true=>some (fy 0 (h.getD (s.length:Int)) s.length,.c (.pre b (Int.toNat (h.getD (s.length:Int)))),σ)
    |false=>none
   |_=>none
  |some (.c (.arr b)),some (some d),some h=>match a8 σ b with
   |some (.arr t s)=>match Nat.beq (t.sz U) sz with
    |true=>some (fy d (h.getD (s.length:Int)) s.length,.c (.hP b (Int.toNat d) (Int.toNat (h.getD (s.length:Int))-Int.toNat d)),σ)
    |false=>none
   |_=>none
  |_,_,_=>none
 |.slc0 x=>match dr gl gd env x with
  |some (.c (.t ⟨.slice _,_⟩))=>some (true,.c .bV,σ)
  |some (.c .bV)=>some (true,.c .bV,σ)
  |some (.c (.arr _))=>some (true,.c .bV,σ)
  |_=>none
 |.mkfn f caps=>match lV gl gd env caps with
  |some vs=>match B' vs with
   |some l=>some (true,.c (.fn f l),σ)
   |none=>none
  |none=>none
 |.ext x i=>match dr gl gd env x with
  |some (.bf vs)=>match vs[i]? with
   |some v=>some (true,v,σ)
   |none=>none
  |_=>none
 |.len str x=>match str,dr gl gd env x with
  |true,some (.c (.t ⟨.str,s⟩))=>some (true,.c (.t ⟨.int .i64,(s.length:Int)⟩),σ)
  |false,some (.c (.cN b))=>match a8 σ b with
   |some (.buf _ s)=>some (true,.c (.t ⟨.int .i64,(s.length:Int)⟩),σ)
   |_=>none
  |false,some v=>match sJ σ v with
   |some e=>some (true,.c (.t ⟨.int .i64,(e.1.len:Int)⟩),σ)
   |none=>none
  |_,_=>none
 |.append te sz bytes x y=>match dr gl gd env x,dr gl gd env y with
  |some (.c .bV),some v=>match sJ σ v with
   |some (C,_)=>match C.blk sz with
    |some blk=>some (cn bytes C.len,.c (.arr n),cS σ n blk)
    |none=>none
   |none=>none
  |some (.c (.arr b)),some v=>match sJ σ (.c (.arr b)),sJ σ v with
   |some (qI,_),some (C,L)=>match (match L with|some E=>Nat.beq E b|none=>false)with
    |true=>none
    |false=>match Wb σ b sz with
     |false=>none
     |true=>match qI.join C with
      |some I=>match I.blk sz with
       |some blk=>some (cn bytes I.len,.c (.arr n),cS (dl σ b) n blk)
       |none=>none
      |none=>none
   |_,_=>none
  |some (.c (.pre b h)),some (.c (.hP E d len))=>match Nat.beq b E with
   |true=>match a8 σ b with
    |some (.arr t l)=>match Nat.beq (t.sz U) sz with
     |true=>some ((h+len<=l.length:J)&&(d+len<=l.length:J),.c (.arr n),cS (dl σ b) n (.arr t (l.take h++(l.drop d).take len)))
     |false=>none
    |_=>none
   |false=>none
  |some (.c (.cN b)),some (.c (.t ⟨.slice (.int .u8),H⟩))=>match a8 σ b with
   |some (.buf u l)=>match Nat.beq u te&&Nat.beq sz 1 with
    |true=>some (cn bytes (List.length l+List.length (strOf H))&&Kw H,.c (.cN n),cS (dl σ b) n (.buf u (vz l (strOf H))))
    |false=>none
   |_=>none
  |_,_=>none
 |.max2 x y=>match dr gl gd env x,dr gl gd env y with
  |some (.c (.t ⟨.int k,a⟩)),some (.c (.t ⟨.int F,b⟩))=>ite (k=F) (some (true,.c (.t ⟨.int k,mx a b⟩),σ)) none
  |_,_=>none
 |.min2 x y=>match dr gl gd env x,dr gl gd env y with
  |some (.c (.t ⟨.int k,a⟩)),some (.c (.t ⟨.int F,b⟩))=>ite (k=F) (some (true,.c (.t ⟨.int k,c4 a b⟩),σ)) none
  |_,_=>none
 |.eqNil .. |.call .. |.iv .. =>none
end
section
open Go
variable {U:cM}
inductive cr (N:Nat)(σ:bl U):bx U->C->Prop
 |t (c:bL U.D):cr N σ (.t c) (.t (c.bJ U))
 |ptr (b o:Nat):cr N σ (.ptr b o) (.ptr b o)
 |cW (b:Nat) (t:aL) (i o:Nat):cr N σ (.cW b t i o) (.cW b (t.sz U) i o)
 |dY (t:aL) (x:t.den U.D) (o:Nat):cr N σ (.dY t x o) (.dY (t.bJ U x) o)
 |arr (b sz n:Nat) (yX:b<N) (h:∀x,a8 σ b=some x->∀p,x.dq=some p->p=(sz,n)):cr N σ (.arr b) (.arr b sz 0 n)
 |sub (b oT len:Nat):cr N σ (.sub b oT len) (.gf b 1 oT len)
 |pre (b sz h:Nat) (yX:b<N) (ajI:∀x,a8 σ b=some x->∀p,x.dq=some p->p.1=sz):cr N σ (.pre b h) (.arr b sz 0 h)
 |hP (b sz oT len:Nat) (yX:b<N) (ajI:∀x,a8 σ b=some x->∀p,x.dq=some p->p.1=sz):cr N σ (.hP b oT len) (.gf b sz oT len)
 |mp (b:Nat):cr N σ (.mp b) (.mp b)
 |eF (b:Nat):cr N σ (.eF b) (.eF b)
 |cN (b n:Nat) (yX:b<N) (h:∀x,a8 σ b=some x->∀p,x.dq=some p->p=(1,n)):cr N σ (.cN b) (.cN b n)
 |bV:cr N σ .bV .bV
 |fp:cr N σ .fp .fp
 |fm:cr N σ .fm .fm
 |fn (f:Nat) (caps:ba):cr N σ (.fn f caps) (.fn f caps)
 |dead (d:C):cr N σ .dead d
inductive b7 (N:Nat)(σ:bl U):bP U->V->Prop
 |c {x d}:cr N σ x d->b7 N σ (.c x) (.c d)
 |agg {xs ds}:bb (cr N σ) xs ds->b7 N σ (.agg xs) (.agg ds)
 |bf (xs:List (bP U)) (ds:List V) (ak:xs.length=ds.length) (h:∀(i:Nat) x d,xs[i]?=some x->ds[i]?=some d->b7 N σ x d):b7 N σ (.bf xs) (.bf ds)
inductive h8 (N:Nat)(σ:bl U):c1 U->b9->Prop
 |box {cs ds}:bb (cr N σ) cs ds->h8 N σ (.box cs) (.box ds)
 |arr (t:aL) (l:List (t.den U.D)):h8 N σ (.arr t l) (.arr (t.sz U) (l.map (t.bJ U)))
 |set (ks:List aq):h8 N σ (.set ks) (.set ks)
 |buf (E:Nat) (s:aq):h8 N σ (.buf E s) (.buf E s)
 |cm {E c d}:cr N σ c d->h8 N σ (.cm E c) (.cm E d)
 |cR (t:aL) (l:List (t.den U.D)) (i o:Nat) {c d}:cr N σ c d->h8 N σ (.cR t l i o c) (.cR (t.sz U) (l.map (t.bJ U)) i o d)
 |rows {sz r es}:bb (λr e=>h6 r=some e) r es->(∀x,x∈r->x.length=sz)->h8 N σ (.rows sz r) (.arr sz es)
def cB(N:Nat)(σ:bl U)(σ1:bg):Prop:=∀b x,a8 σ b=some x->b<N/\∃y,aV σ1 b=some y/\h8 N σ x y
def c6(N:Nat)(σ:bl U)(G:Nat->J)(env:b3 U)(env1:Env):Prop:=∀k v,a8 env k=some v->∃v1,look env1 k=some (G k,v1)/\b7 N σ v v1
structure hf (gl:eH)(env:b3 U)(G:Nat->Bool):Prop where
 free:∀k,a8 gl k=none->G k=true
 held:∀k t b,a8 gl k=some (t,b)->∃y,fA env t b=some y/\G k=(G t&&y)
def du(N:Nat)(σ:bl U)(N':Nat)(σ':bl U):Prop:=N<=N'/\∀b a,b<N->a8 σ' b=some a->∃x,a8 σ b=some x/\∀p,a.dq=some p->x.dq=some p
variable{σ:bl U}{x:bx U}{v1:V}{t:aL}{o:Nat}{v:bP U}{cs:I (bx U)}
theorem du.refl{N:Nat}:du N σ N σ:=⟨ek _,λ_ x _ h=>⟨x,h,λ_ h=>h⟩⟩
theorem du.more{N N':Nat}(h:N<=N'):du N σ N' σ:=⟨h,λ_ x _ h=>⟨x,h,λ_ h=>h⟩⟩
theorem du.trans{a c e:Nat}{s1 g j:bl U}(h:du a s1 c g)(k:du c g e j):du a s1 e j:=
 ⟨hN h.1 k.1,λb x f aa=>let⟨y,h1,o⟩:=k.2 b x (jD f h.1) aa;let⟨z,q,t⟩:=h.2 b y f h1;⟨z,q,λp ar=>t p (o p ar)⟩⟩
section
variable {N N':Nat}{σ σ':bl U}{σ1:bg}{env:b3 U}{env1:Env}{G:Nat->J}{gl:eH}{gd:ag (Nat×J)}
theorem cr.mono(k:du N σ N' σ'){d:C}(h:cr N σ x d):cr N' σ' x d:=by
 cases h with
 |t c=>exact .t c
 |ptr b o=>exact .ptr b o
 |cW b t i o=>exact .cW b t i o
 |dY t x o=>exact .dY t x o
 |arr b sz n a h=>
  refine .arr b sz n (jD a k.1) λx aa p ar=>?_;obtain⟨y,h1,e⟩:=k.2 b x a aa;grind
 |sub b g len=>exact .sub b g _
 |pre b sz n a h=>
  refine .pre b sz n (jD a k.1) λx aa p ar=>?_;obtain⟨y,h1,e⟩:=k.2 b x a aa;grind
 |hP b sz g len a h=>
  refine .hP b sz g _ (jD a k.1) λx aa p ar=>?_;obtain⟨y,h1,e⟩:=k.2 b x a aa;grind
 |mp b=>exact .mp b
 |eF b=>exact .eF b
 |cN b n a h=>
  refine .cN b n (jD a k.1) λx aa p ar=>?_;obtain⟨y,h1,e⟩:=k.2 b x a aa;grind
 |bV=>exact .bV
 |fp=>exact .fp
 |fm=>exact .fm
 |fn f caps=>exact .fn f _
 |dead d=>exact .dead d
theorem b7.mono(k:du N σ N' σ'){x:bP U}{d:V}(h:b7 N σ x d):b7 N' σ' x d:=by
 induction h with
 |c h=>exact .c (h.mono k)
 |agg h=>exact .agg (h.imp λ_ _ _=>cr.mono k)
 |bf xs ds ak h ih=>exact .bf xs ds ak ih
theorem h8.mono(k:du N σ N' σ'){x:c1 U}{d:b9}(h:h8 N σ x d):h8 N' σ' x d:=by
 cases h with
 |box h=>exact .box (h.imp λ_ _ _=>cr.mono k)
 |arr t l=>exact .arr t l
 |set ks=>exact .set ks
 |buf E s=>exact .buf E s
 |cm h=>exact .cm (h.mono k)
 |cR t l i o h=>exact .cR t l i o (h.mono k)
 |rows h a=>exact .rows h a
theorem c6.mono(k:du N σ N' σ')(h:c6 N σ G env env1):c6 N' σ' G env env1:=λi v c=>let⟨v1,h1,a⟩:=h i v c;⟨v1,h1,a.mono k⟩
theorem cB.put(h:cB N σ σ1){b:Nat}{x:c1 U}{y:b9}(o:b<N')(k:du N σ N' (cS σ b x))(p:h8 N' (cS σ b x) x y):cB N' (cS σ b x) (dn σ1 b y):=by
 intro c z a;rw[hM]at a;rw[c9];by_cases g:b=c;grind;rw[au g]at a⊢;obtain⟨h1,j,e,f⟩:=h c z a;exact⟨jD h1 k.1,j,e,f.mono k⟩
theorem kU{x:c1 U}(h:N<=N':=by simp):du N σ N' (cS σ N x):=by
 refine⟨h,λb c a aa=>?_⟩;grind[hM]
theorem ot{b:Nat}{x a:c1 U}(h:N<=N')(h0:a8 σ b=some a)(e:∀p,x.dq=some p->a.dq=some p):du N σ N' (cS σ b x):=by
 refine⟨h,λc f d aa=>?_⟩;grind[hM]
theorem rJ{b:Nat}:du N σ N (dl σ b):=by
 refine⟨ek _,λc d a aa=>?_⟩;grind[nD]
theorem LO{d:C}(h:FQ d=some x):cr N σ x d:=by
 unfold FQ at h;split at h<;>cases h;exact cr.t _;exact cr.t _;exact cr.t (U:=U) _;exact .bV;exact .fp;exact .fm;exact .dead _;exact .fn _ _
theorem si:∀{ds:I C} {xs:I (bx U)},nQ ds=some xs->bb (cr N σ) xs ds
 |[],xs,h=>by simp[nQ]at h;subst h;exact .nil
 |d::ds,xs,h=>by
  simp[nQ]at h;split at h;rename_i x b h1 a;cases h;exact .cons (LO h1) (si a);grind
theorem Na{d:V}{x:bP U}(h:x5 d=some x):b7 N σ x d:=by
 cases d with
 |c d=>
  simp[x5]at h;split at h;rename_i y al;cases h;exact .c (LO al);grind
 |agg ds=>
  simp[x5]at h;split at h;rename_i y al;cases h;exact .agg (si al);grind
 |bf _=>grind[x5]
def cU(env:b3 U)(G:Nat->J):ag (Nat×J)->J
 |none=>true
 |some (t,b)=>G t&&(fA env t b).getD false
theorem hf.a8(av:hf gl env G)(k:Nat):cU env G (a8 gl k)=G k:=by
 cases h:Shv.a8 gl k with
 |none=>exact(av.free k h).symm
 |some g=>
  obtain⟨t,b⟩:=g;obtain⟨y,h1,a⟩:=av.held k t b h;grind[cU]
theorem E3(av:hf gl env G):∀{a:Nat} {gd:ag (Nat×J)} {g:J},lK gl env a gd=some g->g=cU env G gd
 |_,none,g,h=>by unfold lK at h;simp at h;subst h;rfl
 |0,some _,g,h=>by grind[lK]
 |a+1,some (t,b),g,h=>by
  simp[lK]at h;split at h;rename_i x y h1 c;cases h;rw[E3 av h1,av.a8 t];grind[cU];grind
theorem aeB:∀{a:Nat} {t:Nat} {b:J} {g:J},lK gl env a (some (t,b))=some g->∃y,fA env t b=some y
 |0,t,b,g,h=>by grind[lK]
 |a+1,t,b,g,h=>by
  grind[lK]
theorem b7.ea(h:b7 N σ (.c x) v1):∃d,v1= .c d/\cr N σ x d:=by cases h<;>grind
theorem b7.l1{xs:I (bx U)}(h:b7 N σ (.agg xs) v1):∃ds,v1= .agg ds/\bb (cr N σ) xs ds:=by cases h<;>grind
theorem b7.xZ{c:bL U.D}(h:b7 N σ (.c (.t c)) v1):v1= .c (.t (c.bJ U)):=by obtain⟨d,rfl,ad⟩:=h.ea;cases ad;rfl
theorem b7.js{b:J}(h:b7 N σ (.c (.t ⟨.bool,b⟩)) v1):v1= .c (.t (.bool b)):=h.xZ
theorem b7.fG{k:IntKind}{m:Int}(h:b7 N σ (.c (.t ⟨.int k,m⟩)) v1):v1= .c (.t (.int k m)):=h.xZ
theorem b7.kF{s:aq}(h:b7 N σ (.c (.t ⟨.str,s⟩)) v1):v1= .c (.t (.str s)):=h.xZ
theorem b7.jI{l:I (t.den U.D)}(h:b7 N σ (.c (.t ⟨.slice t,l⟩)) v1):v1= .c (.t (.slice (l.map (t.bJ U)))):=h.xZ
theorem b7.hr{b:Nat}(h:b7 N σ (.c (.ptr b o)) v1):v1= .c (.ptr b o):=by obtain⟨d,rfl,ad⟩:=h.ea;cases ad;rfl
theorem b7.jh{b i:Nat}(h:b7 N σ (.c (.cW b t i o)) v1):v1= .c (.cW b (t.sz U) i o):=by obtain⟨d,rfl,ad⟩:=h.ea;cases ad;rfl
theorem b7.GJ{x:t.den U.D}(h:b7 N σ (.c (.dY t x o)) v1):v1= .c (.dY (t.bJ U x) o):=by obtain⟨d,rfl,ad⟩:=h.ea;cases ad;rfl
theorem b7.vy(h:b7 N σ (.c .bV) v1):v1= .c .bV:=by obtain⟨d,rfl,ad⟩:=h.ea;cases ad;rfl
theorem b7.hA{b:Nat}(h:b7 N σ (.c (.arr b)) v1):∃sz n,v1= .c (.arr b sz 0 n)/\b<N/\∀x,Shv.a8 σ b=some x->∀p,x.dq=some p->p=(sz,n):=by
 obtain⟨d,rfl,ad⟩:=h.ea;cases ad<;>grind
theorem b7.CN{b:Nat}(h:b7 N σ (.c (.mp b)) v1):v1= .c (.mp b):=by obtain⟨d,rfl,ad⟩:=h.ea;cases ad;rfl
theorem b7.VY{b:Nat}(h:b7 N σ (.c (.eF b)) v1):v1= .c (.eF b):=by obtain⟨d,rfl,ad⟩:=h.ea;cases ad;rfl
theorem b7.yn{b:Nat}(h:b7 N σ (.c (.cN b)) v1):∃n,v1= .c (.cN b n)/\b<N/\∀x,Shv.a8 σ b=some x->∀p,x.dq=some p->p=(1,n):=by
 obtain⟨d,rfl,ad⟩:=h.ea;cases ad<;>grind
theorem b7.GD{f:Nat}{caps:ba}(h:b7 N σ (.c (.fn f caps)) v1):v1= .c (.fn f caps):=by
 obtain⟨d,rfl,ad⟩:=h.ea;cases ad;rfl
theorem aeC{t:Nat}{b y:J}(he:c6 N σ G env env1)(h:fA env t b=some y):∃x,look env1 t=some (G t,.c (.t (.bool x)))/\y=(x==b):=by
 unfold fA at h;split at h;rename_i x aa;cases h;obtain⟨v1,h1,a⟩:=he t _ aa;have:=a.js;grind;grind
theorem Fh(he:c6 N σ G env env1)(h:gd=none\/∃t b y,gd=some (t,b)/\fA env t b=some y):gu env1 gd=some (cU env G gd):=by
 grind[aeC,gu,cU]
theorem E4(av:hf gl env G):∀{c:Nat} {gd:ag (Nat×J)} {k:Nat},cU env G gd->xX gl c gd k->G k=true
 |0,gd,k,_,h=>by grind[xX]
 |c+1,gd,k,i,h=>by
  simp[xX]at h;split at h;rename_i a;exact av.free k a
  . rename_i d a;split at h
    grind
    . rename_i g;obtain⟨t,b⟩:=g;obtain⟨j,f⟩:=d;simp only[lN,dh,iS]at h;rcases h with⟨h1,e⟩|h
      have:=c7 h1;subst this;subst e;obtain⟨y,k1,k2⟩:=av.held k t b a;grind[cU]
      . refine E4 av ?_ h;rw[av.a8 t];grind[cU]
theorem cC(he:c6 N σ G env env1)(av:hf gl env G){x:aS}(h:dr gl gd env x=some v):
 ∃p v1,x.get env1=some (p,v1)/\b7 N σ v v1/\(cU env G gd->p):=by
 cases x with
 |const d=>exact⟨True,d,rfl,Na h,λ_=>trivial⟩
 |tmp k=>
  simp[dr]at h;split at h;rename_i hs;obtain⟨v1,h1,a⟩:=he k v h;exact⟨_,v1,by grind[aS.get],a,λb=>E4 av b hs⟩;grind
theorem N9(he:c6 N σ G env env1)(av:hf gl env G){c x:aS}{b y:J}{i:bP U}(g:dr gl gd env c=some i)(n:i= .c (.t ⟨.bool,y⟩))(h:FT gl gd env c b x=some v):
 ∃p v1,x.get env1=some (p,v1)/\b7 N σ v v1/\(cU env G gd->y=b->p):=by
 cases x with
 |const d=>exact⟨True,d,rfl,Na h,λ_ _=>trivial⟩
 |tmp k=>
  simp[FT]at h;split at h;rename_i hs;obtain⟨v1,h1,a⟩:=he k v h;exact⟨_,v1,by grind[aS.get],a,λe _=>E4 av e hs⟩
  . split at h
    . rename_i o t j l;split at h
      . rename_i f;simp only[dh,iS]at f;obtain⟨h1,rfl⟩:=f;have:=c7 h1;obtain⟨v1,h1,a⟩:=he k v h;refine⟨G k=true,v1,by grind[aS.get],a,λe al=>?_⟩;simp[dr]at g;split at g
        rename_i hs;have m:=E4 av e hs;obtain⟨q,k1,k2⟩:=av.held k t j l;grind[fA];grind
      grind
    grind
theorem ub(he:c6 N σ G env env1)(av:hf gl env G):∀{xs:I aS} {vs:I (bP U)},lV gl gd env xs=some vs->
 ∃p a,h2 env1 xs=some (p,a)/\bb (b7 N σ) vs a/\(cU env G gd->p)
 |[],vs,h=>by simp[lV]at h;subst h;exact⟨True,[],rfl,.nil,λ_=>trivial⟩
 |x::xs,vs,h=>by
  simp[lV]at h;split at h;rename_i v e h1 d;cases h;obtain⟨p,v1,a1,a2,a3⟩:=cC he av h1;obtain⟨q,a,b1,b2,c⟩:=ub he av d;exact⟨p/\q,v1::a,by grind[h2],.cons a2 b2,λb=>⟨a3 b,c b⟩⟩;grind
theorem pP(h:b7 N σ v v1)(a:qj v=some cs):∃ds,qg v1=some ds/\bb (cr N σ) cs ds:=by
 cases h with
 |c h=>simp[qj]at a;subst a;exact⟨_,rfl,.cons h .nil⟩
 |agg h=>simp[qj]at a;subst a;exact⟨_,rfl,h⟩
 |bf=>grind[qj]
theorem Ji{a:I (bx U)}{ds b:I C}(h:bb (cr N σ) cs ds)(c:bb (cr N σ) a b):bb (cr N σ) (x3 cs o a) (vN ds o b):=by
 unfold x3 vN;rw[c.length];exact((h.take o).append c).append (h.drop _)
theorem ic{a b:Nat}(h:Nat.ble a b):a<=b:=uT h
theorem KQ(he:c6 N σ G env env1)(av:hf gl env G):∀{ps:I (Nat×Nat×aS)} {cs b:I (bx U)} {ds:I C},BJ gl gd env cs ps=some b->bb (cr N σ) cs ds->
 ∃p c,lv env1 ds ps=some (p,c)/\bb (cr N σ) b c/\(cU env G gd->p)
 |[],cs,b,ds,h,a=>by simp[BJ]at h;subst h;exact⟨True,ds,rfl,a,λ_=>trivial⟩
 |(o,n,x)::r,cs,b,ds,h,a=>by
  simp[BJ]at h;split at h;grind
  . rename_i v j;split at h
    grind
    . rename_i es i;split at h
      rename_i d;simp only[dh]at d;have k:=c7 d.1;have l:=ic d.2;obtain⟨p,v1,a1,a2,a3⟩:=cC he av j;obtain⟨fs,b1,b2⟩:=pP a2 i;obtain⟨q,c,e,f,g⟩:=KQ he av h (Ji a b2);refine⟨p/\q,c,?_,f,λa=>⟨a3 a,g a⟩⟩;simp only[lv,a1,ay,b1];rw[ah ⟨by rw[<-b2.length];grind,by rw[<-a.length];grind⟩,e];rfl;grind
theorem aee{d:C}{t:T}(h:cr N σ x d)(ht:x.toT=some t):Shv.toT d=some t:=by
 cases h<;>simp[bx.toT]at ht
 . split at ht
   grind;cases ht;rfl
 subst ht;rfl
theorem A':∀{cs:I (bx U)} {ds:I C} {ts:I T},bb (cr N σ) cs ds->h6 cs=some ts->toTs ds=some ts
 |[],[],ts,_,h=>by simp[h6]at h;subst h;rfl
 |c::cs,d::ds,ts,.cons h1 a,h=>by
  simp[h6]at h;split at h;rename_i t e ht b;cases h;simp[toTs,aee h1 ht,A' a b];grind
theorem IQ:∀{cs:I (bx U)} {ts:I T},h6 cs=some ts->ts.length=cs.length
 |[],ts,h=>by grind[h6]
 |c::cs,ts,h=>by
  simp[h6]at h;split at h;rename_i t b ht a;cases h;simp[IQ a];grind
theorem bb.set{α c:Type}{R:α->c->Prop}{l:I α}{m:I c}(h:bb R l m){i:Nat}{a:α}{b:c}(f:R a b):bb R (l.set i a) (m.set i b):=by
 induction h generalizing i with
 |nil=>exact .nil
 |cons h1 e ih=>cases i with
  |zero=>exact .cons f e
  |succ i=>exact .cons h1 ih
theorem Ik(he:c6 N σ G env env1)(av:hf gl env G){sz:Nat}:∀{ps:I (Nat×aS)} {a b:I (I (bx U))} {es:I (I T)},xF gl gd env sz a ps=some b->
 bb (λr e=>h6 r=some e) a es->(∀r,r∈a->r.length=sz)->∃p c,jU env1 sz es ps=some (p,c)/\bb (λr e=>h6 r=some e) b c/\(∀r,r∈b->r.length=sz)/\(cU env G gd->p)
 |[],a,b,es,h,d,ak=>by simp[xF]at h;subst h;exact⟨True,es,rfl,d,ak,λ_=>trivial⟩
 |(i,x)::ps,a,b,es,h,d,ak=>by
  simp[xF]at h;split at h;grind
  . rename_i v s;split at h
    grind
    . rename_i cs o;split at h
      grind
      . rename_i ts j;split at h
        rename_i f;simp only[dh]at f;have t:=c7 f.1;have u:=ic f.2;obtain⟨p,v1,a1,a2,a3⟩:=cC he av s;obtain⟨ds,b1,b2⟩:=pP a2 o;obtain⟨q,c,k,l,n,m⟩:=Ik he av h (bb.set d j) (by grind);refine⟨p/\q,c,?_,l,n,λg=>⟨a3 g,m g⟩⟩;simp only[jU,a1,ay,b1,A' b2 j];rw[ah ⟨by grind[IQ],by rw[<-d.length];omega⟩,k];rfl;grind
end
end
section
open Go
variable {U:cM}
structure dM (N:Nat)(σ:bl U)(σ1:bg)(o:c0)(env1:Env)(g c:Bool)(v:bP U)(σ':bl U):Prop where
 val:∃v1,b7 (N+16) σ' v v1/\(g=true->c=true->∃p bz,aQ o env1 σ1 N=some (p,v1,bz)/\p/\cB (N+16) σ' bz)
 ald:du N σ (N+16) σ'
 aj2:o.cE->σ'=σ
variable{v1:V}{o:c0}{ds z:I C}{agg:J}{cs:I (bx U)}{α:Type}{t:aL}{ts:I T}{σ1:bg}{x y:aS}{off:Nat}{e:gp U}{es:I (I T)}
section
variable {N N':Nat}{σ σ':bl U}{σ1:bg}{env:b3 U}{env1:Env}{G:Nat->J}{gl:eH}{gd:ag (Nat×J)}{c:J}{v:bP U}
theorem cB.mono(h:cB N σ σ1)(ec:N<=N'):cB N' σ σ1:=λb x aa=>
 let⟨h1,y,a,c⟩:=h b x aa;⟨jD h1 ec,y,a,c.mono (du.more ec)⟩
theorem dM.cE{g:J}(aG:cB N σ σ1)(j:b7 N σ v v1)(e:g=true->c=true->∃p,aQ o env1 σ1 N=some (p,v1,σ1)/\p):dM N σ σ1 o env1 g c v σ:=
 ⟨⟨v1,j.mono (du.more (by simp)),λav f=>let⟨p,h1,a⟩:=e av f;⟨p,σ1,h1,a,aG.mono (by simp)⟩⟩,du.more (by simp),λ_=>rfl⟩
theorem dM.store{g:J}(aI:o.cE=false)(e:du N σ (N+16) σ')(f:b7 (N+16) σ' v v1)(a:g=true->c=true->∃p bz,aQ o env1 σ1 N=some (p,v1,bz)/\p/\cB (N+16) σ' bz):dM N σ σ1 o env1 g c v σ':=
 ⟨⟨v1,f,a⟩,e,λh=>by grind⟩
theorem wm{k o:Nat}(a:bb (cr N σ) cs ds)(h:rS agg k cs o=some v):∃v1,j2 agg k ds o=some v1/\b7 N σ v v1:=by
 unfold rS at h;split at h
 . split at h
   cases h;refine⟨_,by simp only[j2,cl];rw[ah (by rw[<-a.length];simp_all)],.agg ((a.drop o).take k)⟩;grind
 . split at h
   rename_i x aa;cases h;obtain⟨d,h1,b⟩:=a.get aa;exact⟨_,by grind[j2],.c b⟩;grind
theorem bb.map_map{c γ e:Type}{R:γ->e->Prop}{f:α->γ}{g:c->e}:∀{l:I α} {m:I c},bb (λa b=>R (f a) (g b)) l m->bb R (l.map f) (m.map g)
 |[],[],_=>.nil
 |_::_,_::_,.cons h1 j=>.cons h1 (bb.map_map j)
theorem bb.self{R:α->α->Prop}(h:∀a,R a a):∀(l:I α),bb R l l
 |[]=>.nil
 |a::l=>.cons (h a) (bb.self h l)
theorem Ar{x:t.den U.D}:bb (cr N σ) ((t.row U x).map .t) ((t.bJ U x).map .t):=by
 rw[aL.vK,List.map_map];exact bb.map_map (bb.self (λc=>cr.t c) _)
theorem IA{k o:Nat}{v:V}(ak:j2 agg k (ts.map .t) o=some v):loadT agg k ts o=some v:=by
 unfold j2 at ak;unfold loadT;cases agg<;>simp_all
theorem ab4{op:BinOp}{p q:bL U.D}{r:bL U.D}(h:I7 op p q=some (c,r)):∃d,qR op (p.bJ U) (q.bJ U)=some (d,r.bJ U)/\(c=true->d):=by
 unfold I7 at h;split at h
 . rename_i k a e b;show ∃d,qR op (.int k a) (.int e b)=some (d,r.bJ U)/\(c=true->d);cases op<;>simp only[V9,reduceCtorEq,eM]at h
   all_goals first
    |(obtain⟨rfl,rfl,rfl⟩:=h;exact⟨_,by simp only[qR];rfl,λh=>by simpa using h⟩)
    |(obtain⟨rfl,rfl⟩:=h)
    |(obtain⟨rfl,rfl,rfl⟩:=h)
 . rename_i a b;cases op<;>simp only[V',eg]at h
   all_goals first
    |(obtain⟨rfl,rfl⟩:=h;exact⟨_,by rfl,λh=>by simpa using h⟩)
    |(obtain⟨rfl,rfl⟩:=h)
 cases h
theorem ab5{k:Nat}{x y:bL U.D}{b:J}(h:Ja k x y=some b):yO k (x.bJ U) (y.bJ U)=some b:=by
 unfold Ja at h;split at h;cases h;rfl;simp at h;obtain⟨rfl,rfl⟩:=h;show(if _ then _ else _)=_;rw[ah rfl];rfl;cases h;rfl;grind
theorem Ms:∀{ks:ba} {xs a:I (bx U)} {ds es:I C} {b:J},Cb ks xs a=some b->bb (cr N σ) xs ds->bb (cr N σ) a es->lJ ks ds es=some b
 |[],[],[],[],[],b,h,.nil,.nil=>by simp[Cb]at h;subst h;rfl
 |k::ks,.t x::xs,.t y::a,d::ds,e::es,b,h,.cons h1 c,.cons f g=>by
  simp[Cb]at h;split at h;rename_i b1 r i j;cases h;cases h1;cases f;simp[lJ,ab5 i,Ms j c g];grind
theorem Mu{a b:aq}:(vz a b).length=a.length+b.length:=eh
theorem ae8{a b:Int}:eJ a b↔a=b:=by simp[eJ]
theorem rM{m:Int}{n:Nat}:aE m n↔0<=m/\m.toNat<n:=by simp[aE]
theorem jx{b a:Int}{n:Nat}:fy b a n↔0<=b/\b<=a/\a<=n:=by simp[fy]
theorem af8{s:I (t.den U.D)}{l r:ag Int}{a pl b:Prop}{sz:Nat}:
 (some (a/\pl/\b/\0<=l.getD 0/\l.getD 0<=r.getD ((List.map (t.bJ U) s).length:Int)/\r.getD ((List.map (t.bJ U) s).length:Int)<=((List.map (t.bJ U) s).length:Int)/\∀e,e∈List.map (t.bJ U) s->e.length=sz,
  V.c (C.t (T.slice (((List.map (t.bJ U) s).take (r.getD ((List.map (t.bJ U) s).length:Int)).toNat).drop (l.getD 0).toNat))),σ1):Cf)=
 some (a/\pl/\b/\0<=l.getD 0/\l.getD 0<=r.getD (s.length:Int)/\r.getD (s.length:Int)<=(s.length:Int)/\∀e,e∈List.map (t.bJ U) s->e.length=sz,
  V.c (C.t (bL.bJ U ⟨.slice t,gG s (l.getD 0) (r.getD (s.length:Int))⟩)),σ1):=by
 have:bL.bJ U ⟨.slice t,gG s (l.getD 0) (r.getD s.length)⟩=T.slice (List.map (t.bJ U) _):=rfl;grind[gG,List.map_drop,List.map_take]
variable{a:Type}{f:α->a}
theorem af9{l:I α}{p:Prop}:(some (p,V.c (C.t (T.int .i64 ((l.map f).length:Int))),σ1):Cf)=some (p,V.c (C.t (.int .i64 (l.length:Int))),σ1):=by simp
theorem xG{l:I α}{i:Nat}(h:i<l.length):i<(l.map f).length:=by grind
theorem bb.replicate{c:Type}{R:α->c->Prop}{a:α}{b:c}(h:R a b):∀n:Nat,bb R (List.replicate n a) (List.replicate n b)
 |0=>.nil
 |n+1=>.cons h (bb.replicate h n)
theorem H0:∀{xs:I (bx U)} {dx:I aL} {es:I C} {row:I (bL U.D)},iM dx xs=some row->bb (cr N σ) xs es->toTs es=some (row.map (bL.bJ U))
 |[],dx,es,row,h1,a=>by
  cases a;cases dx<;>simp[iM]at h1;subst h1;rfl
 |y::e,[],es,row,h1,a=>by grind[iM]
 |y::e,ty::dx,_::_,row,h1,.cons a d=>by
  cases a with
  |t c=>cases ty<;>simp only[iM]at h1<;>(split at h1<;>first|(cases h1;done)|(rename_i q b;cases h1;simp[toTs,toT,H0 b d]))
  |bV=>
   cases ty<;>simp[iM]at h1;split at h1;rename_i q b;cases h1;simp[toTs,H0 b d];rfl;grind
  |_=>grind[iM]
theorem K0{sz:Nat}:∀{ps:I (Nat×aS)} {es c:I (I T)} {p:Prop},jU env1 sz es ps=some (p,c)->c.length=es.length
 |[],es,c,p,h=>by grind[jU]
 |(i,x)::ps,es,c,p,h=>by
  simp only[jU,bw,eM,bF]at h;obtain⟨a,_,cs,_,ts,_,_,b,d,_,rfl⟩:=h;have:=K0 d;grind
theorem IS{l j:I (t.den U.D)}{i o:Nat}(h:sL U t l i o cs=some j)(m:i<l.length)(f:bb (cr N σ) cs ds)(w:o+cs.length<=t.sz U):
 ∃ts,toTs ds=some ts/\j.map (t.bJ U)=(l.map (t.bJ U)).set i ((el (l.map (t.bJ U)) i).take o++ts++(el (l.map (t.bJ U)) i).drop (o+cs.length)):=by
 unfold sL at h;split at h
 . rename_i x aa;cases h;unfold qJ at aa;split at aa
   . rename_i row s;have n:=aL.GU aa;have key:=@H0 U N σ;have u:bb (cr N σ) ((t.row U (t.at U l i)).map .t) _:=Ar;have k:=Ji (o:=o) u f;have h1:=key s k;have e:∀{a b:I C} {r:I T},toTs (a++b)=some r->∃p q,toTs a=some p/\toTs b=some q/\r=p++q:=by
      intro a;induction a with
      |nil=>intro b r h;exact⟨[],r,rfl,h,rfl⟩
      |cons c a ih=>
       intro b r h;simp[toTs,bw,bF]at h;grind[toTs]
     have g:∀(ts:I T),toTs (ts.map .t)=some ts:=by
      intro ts;induction ts with
      |nil=>rfl
      |cons a ts ih=>grind[toTs,toT]
     obtain⟨p,q,aJ,d,c3⟩:=e h1;obtain⟨y,v,f1,f2,f3⟩:=e aJ;rw[<-List.map_take,g]at f1;cases f1;rw[<-List.map_drop,g]at d;cases d;refine⟨v,f2,?_⟩;rw[List.map_set,BI m,aL.vK,n,c3,f3,f.length]
   grind
 grind
variable (he:c6 N σ G env env1)(av:hf gl env G)(aG:cB N σ σ1)
section
include he av aG
theorem akY(h:cG gl gd env σ N (.mov x)=some (c,v,σ')):dM N σ σ1 (.mov x) env1 (cU env G gd) c v σ':=by
 simp[cG]at h;split at h;rename_i w b;cases h;obtain⟨p,v1,a1,a2,a3⟩:=cC he av b;exact .cE aG a2 λa _=>⟨p,by grind[aQ],a3 a⟩;grind
theorem af'{z:aS}(h:cG gl gd env σ N (.pick x y z)=some (c,v,σ')):dM N σ σ1 (.pick x y z) env1 (cU env G gd) c v σ':=by
 simp[cG]at h;split at h;rename_i b p q h1 i j;cases h;obtain⟨k,v1,a1,a2,a3⟩:=cC he av h1;obtain⟨l,v2,b1,b2,d⟩:=N9 he av h1 rfl i;obtain⟨m,v3,e,f,g⟩:=N9 he av h1 rfl j;have:=a2.js;subst this;have:=b2.js;subst this;have:=f.js;subst this;refine .cE aG (.c (.t _)) λa _=>⟨k/\(b=true->l)/\(b=false->m),by simp only[aQ,a1,b1,e];rfl,a3 a,d a,g a⟩;grind
theorem ab6(h:cG gl gd env σ N (.nilCheck x)=some (c,v,σ')):dM N σ σ1 (.nilCheck x) env1 (cU env G gd) c v σ':=by
 simp[cG]at h;split at h;rename_i b o d;cases h;obtain⟨p,v1,a1,a2,a3⟩:=cC he av d;have:=a2.hr;subst this;exact .cE aG a2 λa _=>⟨p,by simp[aQ,a1],a3 a⟩;rename_i b t i o d;cases h;obtain⟨p,v1,a1,a2,a3⟩:=cC he av d;have:=a2.jh;subst this;exact .cE aG a2 λa _=>⟨p,by simp[aQ,a1],a3 a⟩;rename_i t e o d;cases h;obtain⟨p,v1,a1,a2,a3⟩:=cC he av d;have:=a2.GJ;subst this;exact .cE aG a2 λa _=>⟨p,by simp[aQ,a1],a3 a⟩;grind
theorem akZ(h:cG gl gd env σ N (.not x)=some (c,v,σ')):dM N σ σ1 (.not x) env1 (cU env G gd) c v σ':=by
 simp[cG]at h;split at h;rename_i b d;cases h;obtain⟨p,v1,a1,a2,a3⟩:=cC he av d;have:=a2.js;subst this;exact .cE aG (.c (.t _)) λa _=>⟨p,by simp[aQ,a1];rfl,a3 a⟩;grind
theorem aga{k:IntKind}(h:cG gl gd env σ N (.conv k x)=some (c,v,σ')):dM N σ σ1 (.conv k x) env1 (cU env G gd) c v σ':=by
 simp only[cG]at h;split at h;rename_i d m b;cases h;obtain⟨p,v1,a1,a2,a3⟩:=cC he av b;have:=a2.fG;subst this;exact .cE aG (.c (.t _)) λa _=>⟨p,by simp[aQ,a1];rfl,a3 a⟩;grind
theorem akW(h:cG gl gd env σ N (.i2s x)=some (c,v,σ')):dM N σ σ1 (.i2s x) env1 (cU env G gd) c v σ':=by
 simp[cG]at h;split at h;rename_i d m b;cases h;obtain⟨p,v1,a1,a2,a3⟩:=cC he av b;have:=a2.fG;subst this;exact .cE aG (.c (.t _)) λa _=>⟨p,by simp[aQ,a1];rfl,a3 a⟩;grind
theorem ak0(h:cG gl gd env σ N (.s2s x)=some (c,v,σ')):dM N σ σ1 (.s2s x) env1 (cU env G gd) c v σ':=by
 simp[cG]at h;split at h;rename_i s b;cases h;obtain⟨p,v1,a1,a2,a3⟩:=cC he av b;have:=a2.kF;subst this;exact .cE aG a2 λa _=>⟨p,by simp[aQ,a1],a3 a⟩;grind
theorem agb(h:cG gl gd env σ N (.fldA off x)=some (c,v,σ')):dM N σ σ1 (.fldA off x) env1 (cU env G gd) c v σ':=by
 simp[cG]at h;split at h;rename_i b o d;cases h;obtain⟨p,v1,a1,a2,a3⟩:=cC he av d;have:=a2.hr;subst this;exact .cE aG (.c (.ptr _ _)) λa _=>⟨p,by simp[aQ,a1],a3 a⟩;rename_i b t i o d;cases h;obtain⟨p,v1,a1,a2,a3⟩:=cC he av d;have:=a2.jh;subst this;exact .cE aG (.c (.cW _ _ _ _)) λa _=>⟨p,by simp[aQ,a1],a3 a⟩;rename_i t e o d;cases h;obtain⟨p,v1,a1,a2,a3⟩:=cC he av d;have:=a2.GJ;subst this;exact .cE aG (.c (.dY _ _ _)) λa _=>⟨p,by simp[aQ,a1],a3 a⟩;grind
theorem akV{k:Nat}(h:cG gl gd env σ N (.fld agg off k x)=some (c,v,σ')):dM N σ σ1 (.fld agg off k x) env1 (cU env G gd) c v σ':=by
 simp[cG]at h;split at h
 . rename_i cs d;split at h
   rename_i w ak;cases h;obtain⟨p,v1,a1,a2,a3⟩:=cC he av d;obtain⟨ds,rfl,b2⟩:=a2.l1;obtain⟨v2,e,a⟩:=wm b2 ak;exact .cE aG a λb _=>⟨p,by grind[aQ],a3 b⟩;grind
 grind
theorem ahk{k:Nat}(h:cG gl gd env σ N (.load agg k x)=some (c,v,σ')):dM N σ σ1 (.load agg k x) env1 (cU env G gd) c v σ':=by
 simp only[cG]at h;split at h
 . rename_i b o j;split at h
   . rename_i cs g;split at h
     . rename_i w ak;cases h;obtain⟨p,v1,a1,a2,a3⟩:=cC he av j;have:=a2.hr;subst this;obtain⟨_,y,b1,b2⟩:=aG b _ g;cases b2 with
       |box b2=>
        obtain⟨v2,d,m⟩:=wm b2 ak;exact .cE aG m λa _=>⟨p,by simp[aQ,a1,b1,d],a3 a⟩
     cases h
   . rename_i E u g;split at h
     . cases h;obtain⟨p,v1,a1,a2,a3⟩:=cC he av j;have:=a2.hr;subst this;obtain⟨_,y,b1,b2⟩:=aG b _ g;cases b2 with
       |cm b2=>exact .cE aG (.c b2) λa _=>⟨p,by simp[aQ,a1,b1],a3 a⟩
     cases h
   cases h
 . rename_i b t i o j;split at h
   . rename_i s A g;split at h
     . rename_i l ak;have e:=bL.ki ak;split at h
       . rename_i w q;cases h;obtain⟨p,v1,a1,a2,a3⟩:=cC he av j;have:=a2.jh;subst this;obtain⟨_,y,b1,b2⟩:=aG b _ g;cases b2 with
         |arr=>
          obtain⟨v2,d,m⟩:=wm Ar q;refine .cE aG m λa f=>⟨p/\t.sz U=t.sz U/\i<(List.map (t.bJ U) l).length,?_,a3 a,rfl,xG (gU f)⟩;simp only[fI]at f;grind[IA,aQ,BI]
       cases h
     cases h
   . rename_i s A z B u g;split at h
     cases h
     . split at h
       . rename_i n;split at h
         . rename_i r;cases h;have n:=c7 n;have r:=c7 r;subst n;obtain⟨p,v1,a1,a2,a3⟩:=cC he av j;have:=a2.jh;subst this;obtain⟨_,y,b1,b2⟩:=aG b _ g;cases b2 with
           |cR _ _ _ _ b2=>
            refine .cE aG (.c b2) λa f=>⟨p/\t.sz U=s.sz U/\i=z,?_,a3 a,r,gU f⟩;simp only[aQ,a1,ay,b1];simp
         cases h
       . rename_i n;have n:=ib n;split at h
         . rename_i l ak;have e:=bL.ki ak;cases e;split at h
           . rename_i w q;cases h;obtain⟨p,v1,a1,a2,a3⟩:=cC he av j;have:=a2.jh;subst this;obtain⟨_,y,b1,b2⟩:=aG b _ g;cases b2 with
             |cR _ _ _ _ b2=>
              obtain⟨v2,d,m⟩:=wm Ar q;refine .cE aG m λa f=>⟨p/\t.sz U=t.sz U/\i<(List.map (t.bJ U) l).length,?_,a3 a,rfl,xG (gU f)⟩;simp only[fI]at f;have d:=IA d;simp only[aQ,a1,ay,b1];rw[cq,au n,BI f,d];rfl
           cases h
         cases h
   cases h
 . rename_i t C o j;split at h
   rename_i w ak;cases h;obtain⟨p,v1,a1,a2,a3⟩:=cC he av j;have:=a2.GJ;subst this;obtain⟨v2,d,m⟩:=wm Ar ak;have d:=IA d;exact .cE aG m λa _=>⟨p,by simp[aQ,a1,d],a3 a⟩;cases h
 grind
theorem akS{op:BinOp}(h:cG gl gd env σ N (.bin op x y)=some (c,v,σ')):dM N σ σ1 (.bin op x y) env1 (cU env G gd) c v σ':=by
 simp[cG]at h;split at h
 . rename_i p q ar e;split at h
   rename_i k r f;cases h;obtain⟨g,v1,a1,a2,a3⟩:=cC he av ar;obtain⟨i,v2,b1,b2,b⟩:=cC he av e;have:=a2.xZ;have:=b2.xZ;obtain⟨j,d1,d2⟩:=ab4 f;exact .cE aG (.c (.t _)) λa d=>⟨g/\i/\j,by grind[aQ],a3 a,b a,d2 d⟩;grind
 grind
theorem ae9{neg:J}{ks:ba}(h:cG gl gd env σ N (.eqAgg neg ks x y)=some (c,v,σ')):dM N σ σ1 (.eqAgg neg ks x y) env1 (cU env G gd) c v σ':=by
 simp[cG]at h;split at h
 . rename_i p q ar e;split at h
   rename_i r f;cases h;obtain⟨g,v1,a1,a2,a3⟩:=cC he av ar;obtain⟨i,v2,b1,b2,b⟩:=cC he av e;obtain⟨ds,rfl,d2⟩:=a2.l1;obtain⟨es,rfl,d⟩:=b2.l1;have:=Ms f d2 d;exact .cE aG (.c (.t _)) λa j=>⟨g/\i,by simp[aQ,a1,b1,this];cases neg<;>rfl,a3 a,b a⟩;cases h
 cases h
theorem aeD{neg:J}(h:cG gl gd env σ N (.eqBool neg x y)=some (c,v,σ')):dM N σ σ1 (.eqBool neg x y) env1 (cU env G gd) c v σ':=by
 simp[cG]at h;split at h;rename_i p q ar d;cases h;obtain⟨e,v1,a1,a2,a3⟩:=cC he av ar;obtain⟨f,v2,b1,b2,b⟩:=cC he av d;have:=a2.js;subst this;have:=b2.js;subst this;exact .cE aG (.c (.t _)) λa g=>⟨e/\f,by simp only[aQ,a1,b1];cases neg<;>rfl,a3 a,b a⟩;grind
theorem ahl{sz:Nat}(h:cG gl gd env σ N (.idxA sz x y)=some (c,v,σ')):dM N σ σ1 (.idxA sz x y) env1 (cU env G gd) c v σ':=by
 simp[cG]at h;split at h
 . rename_i t l k m ar i;split at h
   . rename_i d;have d:=c7 d;cases h;obtain⟨j,v1,a1,a2,a3⟩:=cC he av ar;obtain⟨o,v2,b1,b2,f⟩:=cC he av i;have:=a2.jI;subst this;have:=b2.fG;subst this;by_cases p:aE m (List.length l)=true
     . obtain⟨h1,g⟩:=rM.1 p;refine .cE aG (v1:= .c (.dY (el (List.map (t.bJ U) l) (Int.toNat m)) 0)) ?_ λa e=>⟨j/\o/\(0:Int)<=m/\Int.toNat m<(List.map (t.bJ U) l).length/\(el (List.map (t.bJ U) l) (Int.toNat m)).length=sz,by simp only[aQ,a1,b1,ay],a3 a,f a,h1,xG g,by rw[BI g,aL.s8];exact d⟩
       rw[BI g];exact .c (.dY _ _ _)
     exact .cE aG (.c (.dY _ _ _)) λa e=>absurd e p
   cases h
 . rename_i b k m ar i;split at h
   . rename_i t l q;split at h
     . rename_i d;have d:=c7 d;cases h;obtain⟨j,v1,a1,a2,a3⟩:=cC he av ar;obtain⟨o,v2,b1,b2,f⟩:=cC he av i;obtain⟨s,n,rfl,r,a⟩:=a2.hA;have:=b2.fG;subst this;have:=a _ q _ rfl;cases this;refine .cE aG (.c (.cW _ _ _ _)) λa e=>⟨j/\o/\(0:Int)<=m/\Int.toNat m<l.length/\sz=t.sz U,?_,a3 a,f a,(rM.1 e).1,(rM.1 e).2,d.symm⟩
       simp only[aQ,a1,b1,ay,ij,d]
     cases h
   cases h
 grind
theorem ahm(h:cG gl gd env σ N (.idxS x y)=some (c,v,σ')):dM N σ σ1 (.idxS x y) env1 (cU env G gd) c v σ':=by
 simp[cG]at h;split at h;rename_i s k m ar e;cases h;obtain⟨f,v1,a1,a2,a3⟩:=cC he av ar;obtain⟨g,v2,b1,b2,d⟩:=cC he av e;have:=a2.kF;subst this;have:=b2.fG;subst this;exact .cE aG (.c (.t _)) λb a=>⟨f/\g/\(0:Int)<=m/\Int.toNat m<List.length s,by simp only[aQ,a1,b1];rfl,a3 b,d b,(rM.1 a).1,(rM.1 a).2⟩;grind
theorem pQ{x:ag aS}{l:ag Int}(h:oC gl gd env x=some l):∃p,j0 env1 x=some (p,l)/\(cU env G gd->p):=by
 unfold oC at h;split at h;cases h;exact⟨True,rfl,λ_=>trivial⟩
 . split at h
   rename_i k n aa;cases h;obtain⟨a,v1,a1,a2,a3⟩:=cC he av aa;have:=a2.fG;subst this;exact⟨a,by simp[j0,a1],a3⟩;grind
theorem ahn{d b:ag aS}(h:cG gl gd env σ N (.slcS x d b)=some (c,v,σ')):dM N σ σ1 (.slcS x d b) env1 (cU env G gd) c v σ':=by
 simp[cG]at h;split at h;rename_i s l r ar ak f;cases h;obtain⟨i,v1,a1,a2,a3⟩:=cC he av ar;obtain⟨pl,g,l2⟩:=pQ he av aG ak;obtain⟨j,k,m⟩:=pQ he av aG f;have:=a2.kF;subst this;exact .cE aG (.c (.t _)) λa e=>⟨i/\pl/\j/\0<=l.getD 0/\l.getD 0<=r.getD _/\r.getD _<=List.length s,by simp[aQ,a1,g,k];rfl,a3 a,l2 a,m a,jx.1 e⟩;grind
theorem ak1{sz:Nat}{i B:ag aS}(h:cG gl gd env σ N (.slc sz x i B)=some (c,v,σ')):dM N σ σ1 (.slc sz x i B) env1 (cU env G gd) c v σ':=by
 simp only[cG]at h;split at h
 . rename_i t s l r ar ak j;split at h
   . rename_i d;have d:=c7 d;cases h;obtain⟨k,v1,a1,a2,a3⟩:=cC he av ar;obtain⟨pl,z,l2⟩:=pQ he av aG ak;obtain⟨m,q,o⟩:=pQ he av aG j;have:=a2.jI;subst this;refine .cE aG (.c (.t (U:=U) ⟨.slice t,_⟩)) λf a=>⟨k/\pl/\m/\0<=l.getD 0/\l.getD 0<=r.getD (List.length s:Int)/\r.getD (List.length s:Int)<=(List.length s:Int)/\∀e,e∈List.map (t.bJ U) s->e.length=sz,?_,a3 f,l2 f,o f,(jx.1 a).1,(jx.1 a).2.1,(jx.1 a).2.2,?_⟩
     simp only[aQ,a1,z,q,ay];exact af8;grind[aL.s8]
   grind
 . rename_i b r ar ak j;split at h
   . rename_i t s u;split at h
     . rename_i d;have d:=c7 d;cases h;obtain⟨k,v1,a1,a2,a3⟩:=cC he av ar;obtain⟨m,q,o⟩:=pQ he av aG j;obtain⟨C,n,rfl,w,f⟩:=a2.hA;have A:=f _ u (t.sz U,s.length) rfl;have y:i=none:=by
        cases i with
        |none=>rfl
        |some x=>grind[oC]
       subst y;refine .cE aG (.c (.pre b (t.sz U) _ w λx aa p ar=>?_)) λg a=>⟨k/\True/\m/\0<=(none:ag Int).getD 0/\(none:ag Int).getD 0<=r.getD (List.length s:Int)/\r.getD (List.length s:Int)<=(List.length s:Int)/\sz=t.sz U,?_,a3 g,trivial,o g,(jx.1 a).1,(jx.1 a).2.1,(jx.1 a).2.2,d.symm⟩;grind;have D:j0 env1 none=some (True,none):=rfl;grind[aQ]
     grind
   grind
 . rename_i b l r ar ak j;split at h
   . rename_i t s u;split at h
     . rename_i d;have d:=c7 d;cases h;obtain⟨k,v1,a1,a2,a3⟩:=cC he av ar;obtain⟨pl,z,l2⟩:=pQ he av aG ak;obtain⟨m,q,o⟩:=pQ he av aG j;obtain⟨C,n,rfl,w,f⟩:=a2.hA;have A:=f _ u (t.sz U,s.length) rfl;obtain⟨rfl,rfl⟩:=A;have y:i.isNone=false:=by
        cases i with
        |none=>simp[oC]at ak
        |some x=>rfl
       refine .cE aG (.c (.hP b (t.sz U) _ _ w λx aa p ar=>?_)) λg a=>⟨k/\pl/\m/\0<=(some l:ag Int).getD 0/\(some l:ag Int).getD 0<=r.getD (List.length s:Int)/\r.getD (List.length s:Int)<=(List.length s:Int)/\sz=t.sz U,?_,a3 g,l2 g,o g,(jx.1 a).1,(jx.1 a).2.1,(jx.1 a).2.2,d.symm⟩;grind;simp only[aQ,a1,z,q,ay,y,cx,cF,ij];rfl
     grind
   grind
 grind
theorem aho(h:cG gl gd env σ N (.slc0 x)=some (c,v,σ')):dM N σ σ1 (.slc0 x) env1 (cU env G gd) c v σ':=by
 simp[cG]at h;split at h;rename_i t l d;cases h;obtain⟨p,v1,a1,a2,a3⟩:=cC he av d;have:=a2.jI;subst this;exact .cE aG (.c .bV) λa _=>⟨p,by simp[aQ,a1],a3 a⟩;rename_i d;cases h;obtain⟨p,v1,a1,a2,a3⟩:=cC he av d;have:=a2.vy;subst this;exact .cE aG (.c .bV) λa _=>⟨p,by simp[aQ,a1],a3 a⟩;rename_i b d;cases h;obtain⟨p,v1,a1,a2,a3⟩:=cC he av d;obtain⟨sz,n,rfl,_⟩:=a2.hA;exact .cE aG (.c .bV) λa _=>⟨p,by simp[aQ,a1],a3 a⟩;grind
theorem Mv:∀{vs:I (bP U)} {ds:I V} {l:ba},B' vs=some l->bb (b7 N σ) vs ds->aQ.sZ ds=some l
 |[],[],l,h,.nil=>by simp[B']at h;subst h;rfl
 |.c (.ptr b 0)::vs,d::ds,l,h,.cons h1 a=>by
  simp only[B']at h;split at h;rename_i e ak;cases h;have:=h1.hr;subst this;simp[aQ.sZ,Mv ak a];grind
theorem ahp{f:Nat}{caps:I aS}(h:cG gl gd env σ N (.mkfn f caps)=some (c,v,σ')):dM N σ σ1 (.mkfn f caps) env1 (cU env G gd) c v σ':=by
 simp[cG]at h;split at h
 . rename_i vs b;split at h
   rename_i l ak;cases h;obtain⟨p,ds,a1,a2,a3⟩:=ub he av b;exact .cE aG (.c (.fn _ _)) λa _=>⟨p,by simp[aQ,a1,Mv he av aG ak a2],a3 a⟩;cases h
 grind
theorem akU{i:Nat}(h:cG gl gd env σ N (.ext x i)=some (c,v,σ')):dM N σ σ1 (.ext x i) env1 (cU env G gd) c v σ':=by
 simp[cG]at h;split at h
 . rename_i vs e;split at h
   . rename_i w a;cases h;obtain⟨p,v1,a1,a2,a3⟩:=cC he av e;cases a2 with
     |bf _ ds ak b=>
      have f:=(ed.1 a).1;have d:=e0 (l:=ds) (i:=i) (by omega);exact .cE aG (b i _ _ a d) λav _=>⟨p,by grind[aQ],a3 av⟩
   grind
 grind
theorem ahq(h:cG gl gd env σ N (.max2 x y)=some (c,v,σ')):dM N σ σ1 (.max2 x y) env1 (cU env G gd) c v σ':=by
 simp only[cG]at h;split at h;rename_i k a l b ar f;simp at h;obtain⟨rfl,rfl,rfl,rfl⟩:=h;obtain⟨g,v1,a1,a2,a3⟩:=cC he av ar;obtain⟨i,v2,b1,b2,e⟩:=cC he av f;have:=a2.fG;subst this;have:=b2.fG;subst this;exact .cE aG (.c (.t (U:=U) _)) λd j=>⟨g/\i,by simp[aQ,a1,b1];rfl,a3 d,e d⟩;grind
theorem ahr(h:cG gl gd env σ N (.min2 x y)=some (c,v,σ')):dM N σ σ1 (.min2 x y) env1 (cU env G gd) c v σ':=by
 simp[cG]at h;split at h;rename_i k a l b ar f;simp at h;obtain⟨rfl,rfl,rfl,rfl⟩:=h;obtain⟨g,v1,a1,a2,a3⟩:=cC he av ar;obtain⟨i,v2,b1,b2,e⟩:=cC he av f;have:=a2.fG;subst this;have:=b2.fG;subst this;exact .cE aG (.c (.t _)) λd j=>⟨g/\i,by simp only[aQ,a1,b1,ay];rfl,a3 d,e d⟩;grind
theorem ae'{parts:I (Nat×Nat×aS)}(h:cG gl gd env σ N (.build z parts)=some (c,v,σ')):dM N σ σ1 (.build z parts) env1 (cU env G gd) c v σ':=by
 simp[cG]at h;split at h
 . rename_i e d;split at h
   rename_i cs a;cases h;obtain⟨p,ds,a1,a2,a3⟩:=KQ he av a (si d);exact .cE aG (.agg a2) λb _=>⟨p,by grind[aQ],a3 b⟩;grind
 grind
theorem afa{cs:I C}(h:cG gl gd env σ N (.alloc cs)=some (c,v,σ')):dM N σ σ1 (.alloc cs) env1 (cU env G gd) c v σ':=by
 simp[cG]at h;split at h;rename_i xs a;cases h;have k:du N σ (N+16) (cS σ N (.box xs)):=kU;exact .store rfl k (.c (.ptr _ _)) λb _=>⟨True,_,rfl,trivial,aG.put (by simp) k (.box (si a))⟩;grind
theorem akT(h:cG gl gd env σ N (.box x)=some (c,v,σ')):dM N σ σ1 (.box x) env1 (cU env G gd) c v σ':=by
 simp[cG]at h;split at h
 . rename_i w d;split at h
   rename_i cs a;cases h;obtain⟨p,v1,a1,a2,a3⟩:=cC he av d;obtain⟨ds,b1,b2⟩:=pP a2 a;have k:du N σ (N+16) (cS σ N (.box cs)):=kU;exact .store rfl k (.c (.ptr _ _)) λb _=>⟨p,_,by grind[aQ],a3 b,aG.put (by simp) k (.box (b2.imp λ_ _ _=>cr.mono k))⟩;grind
 grind
theorem aeE{sz len:Nat}{parts:I (Nat×aS)}(h:cG gl gd env σ N (.bslice sz len z parts)=some (c,v,σ')):dM N σ σ1 (.bslice sz len z parts) env1 (cU env G gd) c v σ':=by
 simp[cG]at h;split at h
 . rename_i l i;split at h
   cases h
   . rename_i ts f;split at h
     grind
     . rename_i b;have b:=c7 b;split at h
       . rename_i rows a;cases h;have j:=si (N:=N) (σ:=σ) i;obtain⟨p,es,a1,a2,a4,a3⟩:=Ik he av a (bb.replicate (R:=λr e=>h6 r=some e) f _) (by intro r a;rw[G2 a];exact b);have k:du N σ (N+16) (cS σ N (.rows sz rows)):=kU (by omega);refine .store rfl k (.c (.arr N sz es.length (by omega) ?_)) λg _=>⟨p,_,by simp[aQ,A' j f,ay,a1,mA];rw[K0 a1,List.length_replicate],a3 g,aG.put (by omega) k (.rows a2 a4)⟩
         intro x aa q d;rw[hM,ah rfl]at aa;cases aa;simp[c1.dq]at d;rw[<-d,a2.length]
       cases h
 grind
omit he av aG in
theorem aef(h:toTs ds=some ts):zK ds=none:=by
 unfold zK;grind[toTs,toT]
omit he av aG in
theorem aeF{σ1:bg}{w:bP U}{d:V}(h:b7 N σ w d)(e:∀b a len,w≠.c (.hP b a len))(f:∀b a len,w≠.c (.sub b a len))(g:w≠.c .dead):mI v1 d=none:=by
 unfold mI;split
 . cases h with
   |c h=>
    cases h<;>grind
 rfl
theorem afb{k:Nat}(h:cG gl gd env σ N (.store k x y)=some (c,v,σ')):dM N σ σ1 (.store k x y) env1 (cU env G gd) c v σ':=by
 simp only[cG]at h;split at h
 . rename_i b o w aa al;split at h
   . rename_i cs s;split at h
     . rename_i A;have A:=c7 A;split at h
       . rename_i ds C;split at h
         . rename_i T;have T:=ic T;cases h;obtain⟨p,v1,a1,a2,a3⟩:=cC he av aa;obtain⟨q,v2,b1,b2,g⟩:=cC he av al;have:=a2.hr;subst this;obtain⟨es,j,d⟩:=pP b2 s;obtain⟨B,z,d1,d2⟩:=aG b _ C;cases d2 with
           | @box _ fs d2=>
            have a:du N σ (N+16) (cS σ b (.box (x3 ds o cs))):=ot (by simp) C (λp h=>by grind[c1.dq]);refine .store rfl a (.bf [] [] rfl (by simp)) λf _=>⟨p/\q,_,?_,⟨a3 f,g f⟩,aG.put (by omega) a (.box (Ji (d2.imp λ_ _ _=>cr.mono a) (d.imp λ_ _ _=>cr.mono a)))⟩;simp only[aQ,a1,b1,ay,j];rw[ah (by rw[<-d.length];grind),d1];dsimp only;rw[ah (by rw[<-d2.length];grind)]
         grind
       . rename_i E I C;split at h
         . rename_i I _;cases h;obtain⟨p,v1,a1,a2,a3⟩:=cC he av aa;obtain⟨q,v2,b1,b2,g⟩:=cC he av al;have:=a2.hr;obtain⟨es,j,d⟩:=pP b2 s;obtain⟨B,z,d1,d2⟩:=aG b _ C;cases d2 with
           |cm d2=>
            cases d with|cons d n=>
            cases n;have a:du N σ (N+16) (cS σ b (.cm E I)):=ot (by simp) C (λp h=>by grind[c1.dq]);refine .store rfl a (.bf [] [] rfl (by simp)) λf _=>⟨p/\q,_,?_,⟨a3 f,g f⟩,aG.put (by omega) a (.cm (d.mono a))⟩;simp only[aQ,a1,b1,ay,j];grind
         grind
       grind
     grind
   grind
 . rename_i b t i o w aa al;split at h
   . rename_i cs s;split at h
     . rename_i A;simp only[dh]at A;have P:=c7 A.1;have K:=ic A.2;split at h
       . rename_i M R m;split at h
         . rename_i l ak;have e:=bL.ki ak;cases e;split at h
           . rename_i J Z;cases h;obtain⟨rfl,O,rfl⟩:cs=[J]/\∃O,J= .arr O:=by
              unfold Vx at Z;grind
             obtain⟨p,v1,a1,a2,a3⟩:=cC he av aa;obtain⟨q,v2,b1,b2,g⟩:=cC he av al;have:=a2.jh;obtain⟨es,j,d⟩:=pP b2 s;cases d with|cons d n=>
             cases n;have W:=d;cases d with|arr _ ai ag ae af=>
             obtain⟨B,z,d1,d2⟩:=aG b _ m;cases d2 with
             |arr=>
              have a:du N σ (N+16) (cS σ b (.cR t l i o (.arr O))):=ot (by simp) m (λp h=>by grind[c1.dq]);refine .store rfl a (.bf [] [] rfl (by simp)) λf r=>⟨p/\q/\t.sz U=t.sz U/\i<(List.map (t.bJ U) l).length/\o+k<=t.sz U,_,?_,⟨a3 f,g f,rfl,xG (gU r),K⟩,aG.put (by omega) a (.cR t l i o (W.mono a))⟩;simp only[aQ,a1,b1,ay,j];simp_all[ah,zK]
           split at h
           . rename_i l2 L;cases h;obtain⟨p,v1,a1,a2,a3⟩:=cC he av aa;obtain⟨q,v2,b1,b2,g⟩:=cC he av al;have:=a2.jh;subst this;obtain⟨es,j,d⟩:=pP b2 s;obtain⟨B,z,d1,d2⟩:=aG b _ m;cases d2 with
             |arr=>
              have Y:l2.length=List.length l:=by
               grind[sL]
              have a:du N σ (N+16) (cS σ b (.arr t l2)):=ot (by simp) m (λp h=>by
               grind[c1.dq])
              refine .store rfl a (.bf [] [] rfl (by simp)) λf r=>?_;have D:i<List.length l:=gU r;obtain⟨ts,aJ,X⟩:=IS L D d (by grind);refine⟨p/\q/\t.sz U=t.sz U/\i<(List.map (t.bJ U) l).length/\o+k<=t.sz U,_,?_,⟨a3 f,g f,rfl,xG D,K⟩,aG.put (by omega) a (.arr t l2)⟩;simp only[aQ,a1,b1,ay,j];rw[ah (by rw[<-d.length];grind),d1];grind[aef]
           grind
         grind
       . rename_i M R F V I m;split at h
         . rename_i J;split at h
           . rename_i u;split at h
             . rename_i Q;cases h;have u:=c7 u;have Q:=c7 Q;subst u;obtain⟨p,v1,a1,a2,a3⟩:=cC he av aa;obtain⟨q,v2,b1,b2,g⟩:=cC he av al;have:=a2.jh;subst this;obtain⟨es,j,d⟩:=pP b2 s;cases d with|cons d n=>
               cases n;obtain⟨B,z,d1,d2⟩:=aG b _ m;cases d2 with
               |cR _ _ _ _ d2=>
                have a:du N σ (N+16) (cS σ b (.cR M R F o J)):=ot (by simp) m (λp h=>by grind[c1.dq]);refine .store rfl a (.bf [] [] rfl (by simp)) λf r=>⟨p/\q/\t.sz U=M.sz U/\i=F,_,?_,⟨a3 f,g f,Q,gU r⟩,aG.put (by omega) a (.cR M R F o (d.mono a))⟩;simp only[aQ,a1,b1,ay,j];rw[ah (by simpa using P),d1];dsimp only;rw[ah rfl]
             cases h
           . rename_i u;have u:=ib u;split at h
             . rename_i l ak;have e:=bL.ki ak;cases e;split at h
               . rename_i l2 L;cases h;obtain⟨p,v1,a1,a2,a3⟩:=cC he av aa;obtain⟨q,v2,b1,b2,g⟩:=cC he av al;have:=a2.jh;subst this;obtain⟨es,j,d⟩:=pP b2 s;obtain⟨B,z,d1,d2⟩:=aG b _ m;cases d2 with
                 |cR _ _ _ _ d2=>
                  have Y:l2.length=List.length l:=by
                   unfold sL at L;grind
                  have a:du N σ (N+16) (cS σ b (.cR t l2 F V I)):=ot (by omega) m (λp h=>by
                   simp only[c1.dq]at h⊢
                   grind)
                  refine .store rfl a (.bf [] [] rfl (by simp)) λf r=>?_;have D:i<List.length l:=gU r;obtain⟨ts,aJ,X⟩:=IS L D d (by rw[P];exact K);cases d with| @cons _ S _ _ d n=>
                  cases n;obtain⟨H,ab,ad⟩:∃H,Shv.toT S=some H/\ts=[H]:=by
                   simp only[toTs]at aJ;cases aa:Shv.toT S with
                   |none=>rw[aa]at aJ;simp at aJ
                   |some H=>rw[aa]at aJ;simp at aJ;exact⟨H,rfl,aJ.symm⟩
                  refine⟨p/\q/\t.sz U=t.sz U/\i<(List.map (t.bJ U) l).length/\o+k<=t.sz U,_,?_,⟨a3 f,g f,rfl,xG D,K⟩,aG.put (by omega) a (.cR t l2 F V (d2.mono a))⟩;simp only[aQ,a1,b1,ay,j];rw[ah (by simpa using P),d1];dsimp only;rw[au u,ab];subst ad;grind
               cases h
             cases h
         cases h
       cases h
     cases h
   cases h
 cases h
inductive kK:gp U->List (List T)->Prop
 |ty (t:aL) (l:List (t.den U.D)):kK (.ty t l) (l.map (t.bJ U))
 |rows {r es}:bb (λr e=>h6 r=some e) r es->kK (.rows r) es
 |nil:kK .nil []
omit he av aG in
theorem kK.length(h:kK e es):es.length=e.len:=by
 cases h with
 |ty t l=>simp[gp.len]
 |rows h=>simp[gp.len,h.length]
 |nil=>rfl
omit he av aG in
theorem Jl:∀{xs:I (bx U)} {dx:I aL} {e:I T} {row:I (bL U.D)},iM dx xs=some row->h6 xs=some e->e=row.map (bL.bJ U)
 |[],dx,e,row,h1,a=>by
  grind[iM,h6]
 |y::f,[],e,row,h1,a=>by grind[iM]
 |y::f,ty::dx,e,row,h1,a=>by
  simp[h6]at a;split at a
  . rename_i t ts ht d;cases a;cases y with
    |t c=>
     simp[bx.toT]at ht;split at ht;grind;cases ht;cases ty<;>simp[iM]at h1<;>(split at h1<;>first|(cases h1;done)|(rename_i q b;cases h1;rw[Jl b d];rfl))
    |bV=>
     simp[bx.toT]at ht;subst ht;cases ty<;>simp[iM]at h1;split at h1;rename_i q b;cases h1;rw[Jl b d];rfl;grind
    |_=>grind[bx.toT]
  grind
omit he av aG in
theorem ahs{r:I (bx U)}{x:t.den U.D}{e:I T}(h:qJ U t r=some x)(he:h6 r=some e):t.bJ U x=e:=by
 grind[qJ,aL.vK,aL.GU,Jl]
omit he av aG in
theorem wY:∀{r:I (I (bx U))} {l:I (t.den U.D)} {es:I (I T)},mJ U t r=some l->bb (λr e=>h6 r=some e) r es->l.map (t.bJ U)=es
 |[],l,es,h,a=>by cases a;grind[mJ]
 |r::c,l,_::_,h,.cons h1 a=>by
  simp[mJ]at h;split at h;rename_i x xs aa b;cases h;rw[mB,ahs aa h1,wY b a];grind
omit he av aG in
theorem kK.as{l:I (t.den U.D)}(h:kK e es)(a:e.as t=some l):l.map (t.bJ U)=es:=by
 cases h with
 |ty u c=>
  have:=bL.ki a;grind
 |rows h=>exact wY a h
 |nil=>grind[gp.as]
omit he av aG in
theorem kK.join{x y z:gp U}{es fs:I (I T)}(aa:kK x es)(al:kK y fs)(h:x.join y=some z):kK z (es++fs):=by
 cases aa with
 |nil=>grind[gp.join]
 |ty t l=>
  simp[gp.join]at h;split at h;rename_i e ak;cases h;rw[<-al.as ak,<-xk];exact .ty t _;grind
 |rows a=>
  cases al with
  |ty t l=>
   simp[gp.join]at h;split at h;rename_i e ak;cases h;rw[<-wY ak a,<-xk];exact .ty t _;grind
  |rows c=>simp[gp.join]at h;subst h;exact .rows (a.append c)
  |nil=>simp[gp.join]at h;subst h;rw[nF];exact .rows a
omit he av aG in
theorem kK.blk{e:gp U}{es:I (I T)}{sz:Nat}{b:c1 U}(h:kK e es)(a:e.blk sz=some b):h8 N' σ' b (.arr sz es)/\(∀x,x∈es->x.length=sz)/\b.dq=some (sz,e.len):=by
 cases h with
 |ty t l=>
  simp[gp.blk]at a;split at a;rename_i hs;have:=c7 hs;subst this;cases a;refine⟨.arr t l,λx aa=>?_,rfl⟩;grind[aL.s8];grind
 | @rows r es c=>
  simp[gp.blk]at a;split at a;rename_i hs;cases a;simp only[gk]at hs;refine⟨.rows c λx aa=>c7 (hs x aa),λx aa=>?_,rfl⟩;obtain⟨i,g,rfl⟩:=gT aa;obtain⟨y,h1,f⟩:=(c.flip λ_ _ h=>h).get (e0 g);rw[IQ f];grind[c7];grind
 |nil=>
  simp[gp.blk]at a;subst a;exact⟨.rows .nil (by simp),by simp,rfl⟩
omit he av in
theorem IB{f:ag Nat}(c:b7 N σ v v1)(h:sJ σ v=some (e,f)):∃es,lW σ1 v1=some (es,f)/\kK e es:=by
 unfold sJ at h;split at h;rename_i t l;cases h;have:=c.jI;subst this;exact⟨_,rfl,.ty t l⟩;cases h;have:=c.vy;subst this;exact⟨_,rfl,.nil⟩
 . rename_i b;obtain⟨sz,n,rfl,i,d⟩:=c.hA;split at h
   rename_i t l ak;cases h;obtain⟨_,y,h1,a⟩:=aG b _ ak;cases a;have:=d _ ak _ rfl;cases this;exact⟨_,by simp[lW,h1],.ty t l⟩
   . rename_i j r ak;cases h;obtain⟨_,y,h1,a⟩:=aG b _ ak;cases a with
     |rows a g=>
      have:=d _ ak _ rfl;cases this;exact⟨_,by simp[lW,h1,a.length],.rows a⟩
   cases h
 grind
theorem akX{str:J}(h:cG gl gd env σ N (.len str x)=some (c,v,σ')):dM N σ σ1 (.len str x) env1 (cU env G gd) c v σ':=by
 simp[cG]at h;split at h;rename_i s d;cases h;obtain⟨p,v1,a1,a2,a3⟩:=cC he av d;have:=a2.kF;subst this;exact .cE aG (.c (.t _)) λa _=>⟨p,by simp[aQ,a1];rfl,a3 a⟩
 . rename_i b d;split at h
   rename_i E s g;cases h;obtain⟨p,v1,a1,a2,a3⟩:=cC he av d;obtain⟨n,rfl,_,f⟩:=a2.yn;have:=f _ g _ rfl;cases this;exact .cE aG (.c (.t _)) λa _=>⟨p,by simp[aQ,a1];rfl,a3 a⟩;grind
 . rename_i w d;split at h
   . rename_i e er;cases h;obtain⟨p,v1,a1,a2,a3⟩:=cC he av d;refine .cE aG (.c (.t (U:=U) ⟨.int .i64,_⟩)) λa _=>⟨p,?_,a3 a⟩
     unfold sJ at er;split at er;cases er;have:=a2.jI;subst this;simp only[aQ,a1,ay];exact af9;cases er;have:=a2.vy;subst this;simp only[aQ,a1,ay];rfl
     . obtain⟨sz,n,rfl,g,f⟩:=a2.hA;simp[aQ,a1];split at er
       rename_i t l ak;cases er;have:=f _ ak _ rfl;cases this;rfl;rename_i i r ak;cases er;have:=f _ ak _ rfl;cases this;rfl;grind
     grind
   grind
 grind
omit he av aG in
theorem Kf{bytes n:Nat}:cn bytes n↔(2*n+192)*bytes<=hD/\n<=dB:=by simp[cn]
omit he av aG in
theorem AL{bytes n:Nat}(h:cn bytes n):jW n bytes/\n<=dB:=⟨.inl (Kf.1 h).1,(Kf.1 h).2⟩
omit he av aG in
theorem AS:∀(l:az),bytesOf (List.map ((aL.int .u8).bJ U) l)=some (strOf l)
 |[]=>rfl
 |m::l=>by
  have:=AS l;show bytesOf ([T.int _ m]::_)=_;simp[bytesOf,this];rfl
omit he av aG in
theorem Nb:∀{l:az},Kw l->l.map ((aL.int .u8).bJ U)=(strOf l).map λc=>[.int .u8 c.toNat]
 |[],_=>rfl
 |m::l,h=>by
  simp only[Kw,kB,dh,fI]at h;have a:([T.int .u8 m]:I T)=[T.int .u8 ((UInt8.ofNat m.toNat).toNat:Int)]:=by rw[show((UInt8.ofNat m.toNat).toNat:Int)=m by simp[UInt8.toNat_ofNat'];omega]
  exact congr (dA List.cons a) (Nb (l:=l) h.2)
theorem aeG{te sz bytes:Nat}(h:cG gl gd env σ N (.append te sz bytes x y)=some (c,v,σ')):dM N σ σ1 (.append te sz bytes x y) env1 (cU env G gd) c v σ':=by
 simp only[cG]at h;split at h
 . rename_i w aa al;split at h
   . rename_i ai aq C;split at h
     . rename_i blk L;cases h;obtain⟨p,v1,a1,a2,a3⟩:=cC he av aa;obtain⟨q,v2,b1,b2,o⟩:=cC he av al;have:=a2.vy;subst this;obtain⟨a,E,s⟩:=IB aG b2 C;have k:du N σ (N+16) (cS σ N blk):=kU (by omega);obtain⟨d1,d2,d3⟩:=s.blk (N':=N+16) (σ':=cS σ N blk) L;refine .store rfl k (.c (.arr N sz a.length (by omega) ?_)) λf j=>⟨p/\q/\(∀e,e∈a->e.length=sz)/\jW a.length bytes/\a.length<=dB,_,by simp only[aQ,a1,b1,ay,show mI (.c .bV) v2=none from rfl,E],⟨a3 f,o f,d2,?_⟩,aG.put (by omega) k d1⟩
       intro x aa r g;rw[hM,ah rfl]at aa;cases aa;rw[d3]at g;cases g;rw[s.length];rw[s.length];exact AL j
     cases h
   cases h
 . rename_i b w aa al;split at h
   . rename_i qI xb ai ag ab C;split at h
     grind
     . split at h
       cases h
       . rename_i A;split at h
         . rename_i ax af;split at h
           . rename_i blk L;cases h;obtain⟨p,v1,a1,a2,a3⟩:=cC he av aa;obtain⟨q,v2,b1,b2,o⟩:=cC he av al;obtain⟨m,c5,Y,J,W⟩:=a2.hA;subst Y;obtain⟨a,E,s⟩:=IB aG b2 C;obtain⟨xs,aJ,P⟩:=IB aG a2 ab;have d:=P.join s af;have B:du N (dl σ b) (N+16) (cS (dl σ b) N blk):=kU (by omega);have k:du N σ (N+16) (cS (dl σ b) N blk):=du.trans rJ B;obtain⟨d1,d2,d3⟩:=d.blk (N':=N+16) (σ':=cS (dl σ b) N blk) L;obtain⟨hs,aI⟩:aV σ1 b=some (.arr m xs)/\c5=xs.length:=by
              simp only[lW]at aJ;grind
             have X:m=sz:=by
              unfold Wb at A;split at A
              . rename_i z d;split at A
                rename_i r g;have:=W _ d _ g;simp_all;cases A
              cases A
             subst X;have I:cB N (dl σ b) (hx σ1 b):=by
              intro i z d;rw[nD]at d;split at d;cases d;rename_i Q;obtain⟨h1,y,H,u⟩:=aG i z d;exact⟨h1,y,by rw[fD,au Q];exact H,u.mono rJ⟩
             have ap:ag≠some b:=by
              intro e;simp_all
             refine .store rfl k (.c (.arr N m (xs++a).length (by omega) ?_)) λf j=>⟨p/\q/\m=m/\m=m/\0=0/\c5=xs.length/\(∀e,e∈a->e.length=m)/\jW (xs.length+a.length) bytes/\xs.length+a.length<=dB,_,?_,⟨a3 f,o f,rfl,rfl,rfl,aI,λe he=>d2 e (by simp[he]),?_⟩,I.put (by omega) B d1⟩;intro x aa r g;rw[hM,ah rfl]at aa;cases aa;rw[d3]at g;cases g;rw[d.length]
             . have Z:mI (.c (.arr b m 0 c5)) v2=none:=by
                refine aeF (σ1:=σ1) b2 ?_ ?_ ?_<;>(intros;rintro rfl;simp[sJ]at C)
               simp only[aQ,a1,b1,ay,Z,E,hs];grind
             have:=AL j;rw[<-d.length,eh]at this;exact this
           cases h
         cases h
   cases h
 . rename_i b h0 O D len aa al;split at h
   . rename_i K;have K:=c7 K;subst K;split at h
     . rename_i t l ak;split at h
       . rename_i R;have R:=c7 R;cases h;obtain⟨p,v1,a1,a2,a3⟩:=cC he av aa;obtain⟨q,v2,b1,b2,o⟩:=cC he av al;cases a2 with|c a2=>
         cases a2 with|pre _ s1 _ aj ad=>
         cases b2 with|c b2=>
         cases b2 with|hP _ aw _ _ am ae=>
         have aJ:=ad _ ak _ rfl;have P:=ae _ ak _ rfl;obtain⟨T,z,d1,d2⟩:=aG b _ ak;cases d2 with
         |arr=>
          have B:du N (dl σ b) (N+16) (cS (dl σ b) N (.arr t (l.take h0++(l.drop D).take len))):=kU (by omega);have k:=du.trans rJ B;have I:cB N (dl σ b) (hx σ1 b):=by
           intro i z d;rw[nD]at d;split at d;cases d;rename_i Q;obtain⟨h1,y,H,u⟩:=aG i z d;exact⟨h1,y,by simp_all[fD,au],u.mono rJ⟩
          refine .store rfl k (.c (.arr N (t.sz U) (l.take h0++(l.drop D).take len).length (by omega) ?_)) λf j=>?_
          simp_all[hM,ah,c1.dq,dW];simp only[dh,fI]at j;have an:(l.take h0++(l.drop D).take len).length=h0+len:=(by grind);refine⟨p/\q/\t.sz U=t.sz U/\t.sz U=t.sz U/\t.sz U=t.sz U/\0=0/\h0+len<=(l.map (t.bJ U)).length/\D+len<=(l.map (t.bJ U)).length,_,?_,⟨a3 f,o f,rfl,rfl,rfl,rfl,by grind,by grind⟩,I.put (by simp) B (.arr t _)⟩;grind[mI,aQ,vx,List.map_take,List.map_drop]
       cases h
     cases h
   cases h
 . rename_i b a aa al;split at h
   . rename_i F l J;split at h
     . rename_i M;simp only[dh]at M;have:=c7 M.1;subst this;have:=c7 M.2;subst this;cases h;obtain⟨p,v1,a1,a2,a3⟩:=cC he av aa;obtain⟨q,v2,b1,b2,o⟩:=cC he av al;obtain⟨n,rfl,T,V⟩:=a2.yn;have:=V _ J _ rfl;cases this;have:=b2.jI;subst this;obtain⟨_,z,d1,d2⟩:=aG b _ J;cases d2;have k1:du N σ N (dl σ b):=rJ;have k2:du N _ (N+16) (cS (dl σ b) N (.buf F (vz l (strOf a)))):=kU;have S:cB N (dl σ b) (hx σ1 b):=by
        intro O x aa;rw[nD]at aa;split at aa;grind;rename_i ao;obtain⟨h1,y,H,u⟩:=aG O x aa;exact⟨h1,y,by rw[fD];grind,u.mono k1⟩
       refine .store rfl (k1.trans k2) (.c (.cN N (List.length l+List.length (strOf a)) (by simp) λx aa p ar=>?_)) λf j=>?_
       rw[hM,ah rfl]at aa;cases aa;simp[c1.dq]at ar;exact ar.symm.trans (dA _ Mu);simp only[dh]at j;have g:=AL j.1;refine⟨p/\q/\F=F/\1=1/\List.length l=List.length l/\a.map ((aL.int .u8).bJ U)=(strOf a).map (λc=>[.int .u8 c.toNat])/\jW _ _/\List.length l+List.length (strOf a)<=dB,_,?_,⟨a3 f,o f,rfl,rfl,rfl,Nb j.2,g.1,g.2⟩,S.put (by simp) k2 (.buf _ _)⟩;simp only[aQ,a1,b1,ay,show mI (.c (.cN b (List.length l))) (.c (.t (.slice (a.map ((aL.int .u8).bJ U)))))=none from rfl,show lW σ1 (.c (.t (.slice (a.map ((aL.int .u8).bJ U)))))=some (_,none)from rfl,d1];exact dA (Option.map _) (AS (U:=U) a)
     cases h
   cases h
 grind
omit he av aG in
theorem Mw{t:aL}(ht:t.vQ=false):∀{xs:I (bx U)} {ds:I C} {l:I (t.den U.D)},bb (cr N σ) xs ds->vf t xs=some l->∃ts,toTs ds=some ts/\ts.map (λx=>[x])=l.map (t.bJ U)
 |[],[],l,_,h=>by simp[vf]at h;subst h;exact⟨[],rfl,rfl⟩
 |x::xs,d::ds,l,.cons h1 b,h=>by
  unfold vf at h;split at h;grind
  . rename_i c r g;cases g;split at h
    . rename_i y m e i;cases h;obtain⟨ts,aJ,a⟩:=Mw ht b i;cases h1;have f:=bL.ki e;subst f;refine⟨bL.bJ U ⟨t,y⟩::ts,by simp[toTs,aJ,toT],?_⟩;rw[mB,a];cases t<;>first|rfl|cases ht
    cases h
  grind
omit he av aG in
theorem Oa{t:aL}{d:t.den U.D}:∀{xs:I (bx U)} {ds:I C} {l:I (t.den U.D)} (i:Nat),bb (cr N σ) xs ds->vf t xs=some l->i<ds.length->cr N σ (.t ⟨t,l.getD i d⟩) (ds.getD i .dead)
 |[],[],l,i,_,h,a=>absurd a (Nat.not_lt_zero _)
 |x::xs,d::ds,l,i,.cons h1 b,h,a=>by
  unfold vf at h;split at h;grind
  . rename_i c r g;cases g;split at h
    . rename_i y m e j;cases h;cases h1;have f:=bL.ki e;subst f;cases i with
      |zero=>exact .t _
      |succ i=>exact Oa (d:=_) i b j (Nat.lt_of_succ_lt_succ a)
    cases h
  grind
theorem aht{k:Nat}(h:cG gl gd env σ N (.idxV k x y)=some (c,v,σ')):dM N σ σ1 (.idxV k x y) env1 (cU env G gd) c v σ':=by
 simp only[cG]at h;split at h
 . rename_i cs s m ar n;split at h
   . rename_i t l i ak;cases h;obtain⟨o,v1,a1,a2,a3⟩:=cC he av ar;obtain⟨p,v2,b1,b2,e⟩:=cC he av n;obtain⟨ds,rfl,b⟩:=a2.l1;have:=b2.fG;subst this;have j:ds.length=k:=by rw[<-b.length];exact c7 i
     unfold FI at ak;split at ak
     . rename_i q r;split at ak
       . rename_i u ht hs;cases ak;by_cases d:aE m k=true
         . obtain⟨h1,f⟩:=rM.1 d;refine .cE aG (.c (Oa (Int.toNat m) b hs (by omega))) λa _=>⟨o/\p/\(0:Int)<=m/\Int.toNat m<k,?_,a3 a,e a,h1,f⟩
           simp only[aQ,a1,b1,ay,j,cl]
         exact .cE aG (.c (.t _)) λa g=>absurd g d
       cases ak
     cases ak
   cases h
 cases h
theorem aeH{sz bytes:Nat}(h:cG gl gd env σ N (.mslice sz bytes z x)=some (c,v,σ')):dM N σ σ1 (.mslice sz bytes z x) env1 (cU env G gd) c v σ':=by
 simp only[cG]at h;split at h
 . rename_i k m s ar o;split at h
   cases h
   . rename_i ts g;split at h
     . rename_i a;split at h
       . rename_i b d;cases h;have d:=c7 d;subst d;obtain⟨r,v1,a1,a2,a3⟩:=cC he av ar;have:=a2.fG;subst this;have p:=si (N:=N) (σ:=σ) o;have k1:du N σ (N+16) (cS σ N (.arr a.ty (List.replicate (Int.toNat m) a.val))):=kU (by omega);have f:a.ty.sz U=1:=by
          generalize a.ty=t0 at b;cases t0<;>first|rfl|cases b
         have l:ts=a.ty.bJ U a.val:=by
          obtain⟨ty,v0⟩:=a;cases ty<;>first|(cases g;rfl)|cases b
         have n:aQ (.mslice 1 bytes z x) env1 σ1 N=some (r/\(0:Int)<=m/\Int.toNat m*bytes<=hD/\Int.toNat m<=dB,.c (.arr N 1 0 (Int.toNat m)),dn σ1 N (.arr 1 (List.replicate (Int.toNat m) ts))):=by
          simp only[aQ,a1,ay,A' p g]
         refine .store rfl k1 (.c (.arr N 1 (Int.toNat m) (by omega) ?_)) λj i=>⟨_,_,n,⟨a3 j,JS.1 i⟩,aG.put (by omega) k1 ?_⟩;intro x aa q e;rw[hM,ah rfl]at aa;cases aa;simp[c1.dq]at e;rw[<-e,f];have:=h8.arr (N:=N+16) (σ:=cS σ N (.arr a.ty (List.replicate (Int.toNat m) a.val))) a.ty (List.replicate (Int.toNat m) a.val);rw[f,List.map_replicate,<-l]at this;exact this
       cases h
     cases h
 cases h
theorem aeI{cs:I C}(h:cG gl gd env σ N (.allocA cs)=some (c,v,σ')):dM N σ σ1 (.allocA cs) env1 (cU env G gd) c v σ':=by
 simp[cG]at h;split at h
 . rename_i xs d;split at h
   . rename_i t l ak;cases h;unfold FI at ak;split at ak
     . rename_i b r;split at ak
       . rename_i a ht hs;cases ak;obtain⟨ts,aJ,e⟩:=Mw ht (si (N:=N) (σ:=σ) d) hs;have k:du N σ (N+16) (cS σ N (.arr _ a)):=kU;refine .store rfl k (.c (.ptr _ _)) λf _=>⟨True,_,by simp[aQ,aJ];rfl,trivial,aG.put (by simp) k ?_⟩
         have g:b.ty.sz U=1:=by
          generalize b.ty=t0 at ht;cases t0<;>first|rfl|cases ht
         have:=h8.arr (N:=N+16) (σ:=cS σ N (.arr _ a)) _ a;grind
       grind
     grind
   grind
 grind
theorem ahu{k:Nat}(h:cG gl gd env σ N (.idxP k x y)=some (c,v,σ')):dM N σ σ1 (.idxP k x y) env1 (cU env G gd) c v σ':=by
 simp[cG]at h;split at h
 . rename_i b kk m ar g;split at h
   . split at h
     . rename_i e;have e:=c7 e;cases h;obtain⟨i,v1,a1,a2,a3⟩:=cC he av ar;obtain⟨j,v2,b1,b2,f⟩:=cC he av g;have:=a2.hr;have:=b2.fG;refine .cE aG (.c (.cW _ _ _ _)) λd a=>⟨i/\j/\(0:Int)<=m/\Int.toNat m<k,?_,a3 d,f d,(rM.1 a).1,(rM.1 a).2⟩
       grind[aQ]
     grind
   grind
 grind
theorem ahv{k:Nat}{e d:ag aS}(h:cG gl gd env σ N (.slcP k x e d)=some (c,v,σ')):dM N σ σ1 (.slcP k x e d) env1 (cU env G gd) c v σ':=by
 simp[cG]at h;split at h;rename_i b l r ar ak g;cases h;obtain⟨j,v1,a1,a2,a3⟩:=cC he av ar;obtain⟨pl,i,l2⟩:=pQ he av aG ak;obtain⟨m,n,o⟩:=pQ he av aG g;have:=a2.hr;subst this;exact .cE aG (.c (.sub _ _ _)) λa f=>⟨j/\pl/\m/\0<=l.getD 0/\l.getD 0<=r.getD _/\r.getD _<=k,by simp[aQ,a1,i,n],a3 a,l2 a,o a,jx.1 f⟩;grind
omit he av aG in
theorem afc{b len:Nat}{s:aq}(h:aV σ1 b=some (.arr 1 es))(hs:bytesOf ((es.drop off).take len)=some s):nZ σ1 (.c (.arr b 1 off len))=some (off+len<=es.length,s):=by grind[nZ]
omit he av aG in
theorem afd{b len:Nat}{s:aq}(h:aV σ1 b=some (.arr 1 es))(hs:bytesOf ((es.drop off).take len)=some s):nZ σ1 (.c (.gf b 1 off len))=some (off+len<=es.length,s):=by grind[nZ]
omit he av aG in
theorem aeg{s:aq}(hs:bytesOf es=some s):nZ σ1 (.c (.t (.slice es)))=some (True,s):=by grind[nZ]
theorem akR(h:cG gl gd env σ N (.b2s x)=some (c,v,σ')):dM N σ σ1 (.b2s x) env1 (cU env G gd) c v σ':=by
 simp only[cG]at h;split at h
 . rename_i l ar;cases h;obtain⟨d,v1,a1,a2,a3⟩:=cC he av ar;have:=a2.jI;subst this
   exact .cE aG (.c (.t (U:=U) _)) λa j=>⟨d/\True,by
    simp only[aQ,a1,ay]
    exact(dA _ (aeg (AS (U:=U) l))).trans rfl,a3 a,trivial⟩
 rename_i ar;cases h;obtain⟨d,v1,a1,a2,a3⟩:=cC he av ar;have:=a2.vy;subst this;exact .cE aG (.c (.t (U:=U) ⟨.str,_⟩)) λa j=>⟨d/\True,by simp only[aQ,a1,nZ];rfl,a3 a,trivial⟩
 . rename_i b ar;split at h
   . rename_i l f;cases h;obtain⟨d,v1,a1,a2,a3⟩:=cC he av ar;obtain⟨m,n,rfl,k,a⟩:=a2.hA;have:=a _ f _ rfl;cases this;obtain⟨_,y,al,i⟩:=aG _ _ f;cases i;refine .cE aG (.c (.t (U:=U) ⟨.str,_⟩)) λa j=>⟨d/\(0+l.length<=(l.map ((aL.int .u8).bJ U)).length),?_,a3 a,by simp⟩
     simp only[aQ,a1,ay];have e:bytesOf (((l.map ((aL.int .u8).bJ U)).drop 0).take l.length)=some (strOf l):=(by grind[List.take_of_length_le,AS]);exact(dA (Option.map _) (afc al e)).trans rfl
   grind
 . rename_i b g len ar;split at h
   . rename_i l f;cases h;obtain⟨d,v1,a1,a2,a3⟩:=cC he av ar;have:v1= .c (.gf b 1 g len):=by cases a2 with|c h=>cases h;rfl
     subst this;obtain⟨_,y,al,i⟩:=aG _ _ f;cases i;refine .cE aG (.c (.t (U:=U) ⟨.str,_⟩)) λa j=>⟨d/\(g+len<=(l.map ((aL.int .u8).bJ U)).length),?_,a3 a,by grind[xY]⟩
     simp only[aQ,a1,ay];have e:bytesOf (((l.map ((aL.int .u8).bJ U)).drop g).take len)=some (strOf ((l.drop g).take len)):=by rw[<-List.map_drop,<-List.map_take];exact AS _
     exact(dA (Option.map _) (afd al e)).trans rfl
   grind
 grind
theorem aeJ{e e8:Nat}(h:cG gl gd env σ N (.allocS e e8)=some (c,v,σ')):dM N σ σ1 (.allocS e e8) env1 (cU env G gd) c v σ':=by
 obtain⟨rfl,rfl,rfl⟩:=h;have d:du N σ (N+16) (cS (cS σ (N+1) (.buf e8 [])) N (.cm e (.cN (N+1)))):=by
  refine⟨by simp,λb g f aa=>?_⟩;grind[hM]
 refine .store rfl d (.c (.ptr _ _)) λ_ _=>⟨True,_,rfl,trivial,λb x aa=>?_⟩;rw[hM]at aa;rw[c9];by_cases h1:N=b;rw[ah h1]at aa⊢;cases aa;refine⟨by omega,_,rfl,.cm (.cN _ _ (by simp) λx aa p ar=>?_)⟩;rw[hM,hM]at aa;grind[c1.dq]
 . rw[au h1,hM]at aa;rw[au h1,c9];by_cases a:N+1=b
   rw[ah a]at aa⊢;cases aa;exact⟨by omega,_,rfl,.buf _ _⟩;rw[au a]at aa⊢;obtain⟨k1,y,k2,k3⟩:=aG b x aa;exact⟨by omega,y,k2,k3.mono d⟩
theorem afe(h:cG gl gd env σ N .mkset=some (c,v,σ')):dM N σ σ1 .mkset env1 (cU env G gd) c v σ':=by
 obtain⟨rfl,rfl,rfl⟩:=h;have k:du N σ (N+16) (cS σ N (.set [])):=kU;exact .store rfl k (.c (.mp _)) λ_ _=>⟨True,_,rfl,trivial,aG.put (by simp) k (.set _)⟩
theorem aff(h:cG gl gd env σ N (.lkset x y)=some (c,v,σ')):dM N σ σ1 (.lkset x y) env1 (cU env G gd) c v σ':=by
 simp[cG]at h;split at h
 . rename_i b s aa al;split at h
   rename_i ks e;cases h;obtain⟨p,v1,a1,a2,a3⟩:=cC he av aa;obtain⟨q,v2,b1,b2,d⟩:=cC he av al;have:=a2.CN;subst this;have:=b2.kF;subst this;obtain⟨_,z,d1,d2⟩:=aG b _ e;cases d2;exact .cE aG (.c (.t _)) λa _=>⟨p/\q,by simp[aQ,a1,b1,d1];rfl,a3 a,d a⟩;grind
 grind
theorem afg(h:cG gl gd env σ N (.upset x y)=some (c,v,σ')):dM N σ σ1 (.upset x y) env1 (cU env G gd) c v σ':=by
 simp[cG]at h;split at h
 . rename_i b s aa al;split at h
   rename_i ks d;cases h;obtain⟨p,v1,a1,a2,a3⟩:=cC he av aa;obtain⟨q,v2,b1,b2,f⟩:=cC he av al;have:=a2.CN;subst this;have:=b2.kF;subst this;obtain⟨g,z,d1,d2⟩:=aG b _ d;cases d2;have e:du N σ (N+16) (cS σ b (.set (iY ks s))):=ot (by omega) d (λp h=>by simp[c1.dq]at h);exact .store rfl e (.bf [] [] rfl (by simp)) λa _=>⟨p/\q,_,by simp[aQ,a1,b1,d1],⟨a3 a,f a⟩,aG.put (by omega) e (.set _)⟩;cases h
 grind
theorem aeh{e bytes:Nat}(h:cG gl gd env σ N (.appendB e bytes x y)=some (c,v,σ')):dM N σ σ1 (.appendB e bytes x y) env1 (cU env G gd) c v σ':=by
 simp[cG]at h;split at h
 . rename_i b s aa al;split at h
   . rename_i a l d;split at h
     . rename_i r;have:=c7 r;subst this;cases h;obtain⟨p,v1,a1,a2,a3⟩:=cC he av aa;obtain⟨q,v2,b1,b2,j⟩:=cC he av al;obtain⟨n,rfl,u,o⟩:=a2.yn;have:=o _ d _ rfl;cases this;have:=b2.kF;subst this;obtain⟨_,z,d1,d2⟩:=aG b _ d;cases d2;have k1:du N σ N (dl σ b):=rJ;have k2:du N _ (N+16) (cS (dl σ b) N (.buf a (vz l s))):=kU;have m:cB N (dl σ b) (hx σ1 b):=by
        intro i x aa;rw[nD]at aa;split at aa;grind;rename_i w;obtain⟨h1,y,t,k⟩:=aG i x aa;exact⟨h1,y,by rw[fD];grind,k.mono k1⟩
       refine .store rfl (k1.trans k2) (.c (.cN N (List.length l+List.length s) (by simp) λx aa p ar=>?_)) λg f=>⟨p/\q/\a=a/\List.length l=List.length l/\jW _ _/\List.length l+List.length s<=dB,_,?_,⟨a3 g,j g,rfl,rfl,(AL f).1,(AL f).2⟩,m.put (by simp) k2 (.buf _ _)⟩;rw[hM,ah rfl]at aa;cases aa;simp[c1.dq]at ar;exact ar.symm.trans (dA _ Mu);simp only[aQ,a1,b1,ay,d1];rfl
     grind
   grind
 grind
theorem agB(h:cG gl gd env σ N (.sdata x)=some (c,v,σ')):dM N σ σ1 (.sdata x) env1 (cU env G gd) c v σ':=by
 simp[cG]at h;split at h;rename_i b aa;cases h;obtain⟨p,v1,a1,a2,a3⟩:=cC he av aa;obtain⟨n,rfl,_,_⟩:=a2.yn;exact .cE aG (.c (.eF _)) λa _=>⟨p,by simp[aQ,a1],a3 a⟩;grind
theorem ahw{e:Nat}(h:cG gl gd env σ N (.ustr e x y)=some (c,v,σ')):dM N σ σ1 (.ustr e x y) env1 (cU env G gd) c v σ':=by
 simp[cG]at h;split at h
 . rename_i b m aa al;split at h
   . rename_i a l k;split at h
     . rename_i o;have:=c7 o;subst this;cases h;obtain⟨p,v1,a1,a2,a3⟩:=cC he av aa;obtain⟨q,v2,b1,b2,g⟩:=cC he av al;have:=a2.VY;subst this;have:=b2.fG;subst this;obtain⟨_,z,d1,d2⟩:=aG b _ k;cases d2;have k1:du N σ N (dl σ b):=rJ;have j:cB N (dl σ b) (hx σ1 b):=by
        intro f x aa;rw[nD]at aa;split at aa;grind;obtain⟨h1,y,r,i⟩:=aG f x aa;exact⟨h1,y,by simp_all[fD],i.mono k1⟩
       refine .store rfl (k1.trans (du.more (by simp))) (.c (.t _)) λd n=>⟨p/\q/\a=a/\m=(List.length l:Int),_,?_,⟨a3 d,g d,rfl,ae8.1 n⟩,j.mono (by simp)⟩;simp only[aQ,a1,b1,ay,d1];rfl
     grind
   grind
 grind
theorem aei{e sz len:Nat}{parts:I (Nat×aS)}(h:cG gl gd env σ N (.bsliceT e sz len z parts)=some (c,v,σ')):dM N σ σ1 (.bsliceT e sz len z parts) env1 (cU env G gd) c v σ':=by
 simp[cG]at h;split at h;grind
 . split at h
   . rename_i k i;split at h
     grind
     . rename_i ts b;split at h
       grind
       . rename_i a;have a:=c7 a;split at h
         . rename_i rows g;split at h
           . rename_i l ak;cases h;have j:=si (N:=N) (σ:=σ) i;obtain⟨p,es,a1,a2,a4,a3⟩:=Ik he av g (bb.replicate (R:=λr e=>h6 r=some e) b _) (by grind);have d:=wY ak a2;refine .cE aG (.c (.t _)) λf _=>⟨p,?_,a3 f⟩
             simp[aQ,A' j b,ay,a1];rw[<-d];rfl
           grind
         grind
   grind
theorem Nc(h:cG gl gd env σ N o=some (c,v,σ')):dM N σ σ1 o env1 (cU env G gd) c v σ':=by
 cases o with
 |mov x=>exact akY he av aG h
 |pick c x y=>exact af' he av aG h
 |alloc cs=>exact afa he av aG h
 |box x=>exact akT he av aG h
 |allocA cs=>exact aeI he av aG h
 |idxP k x i=>exact ahu he av aG h
 |idxV k x i=>exact aht he av aG h
 |mslice sz b z x=>exact aeH he av aG h
 |slcP k x d a=>exact ahv he av aG h
 |b2s x=>exact akR he av aG h
 |allocS e e8=>exact aeJ he av aG h
 |bsliceT e sz len z parts=>exact aei he av aG h
 |mkset=>exact afe he av aG h
 |lkset x k=>exact aff he av aG h
 |upset x k=>exact afg he av aG h
 |appendB e b x y=>exact aeh he av aG h
 |sdata x=>exact agB he av aG h
 |ustr e x k=>exact ahw he av aG h
 |build z parts=>exact ae' he av aG h
 |bslice sz len z parts=>exact aeE he av aG h
 |load agg n x=>exact ahk he av aG h
 |store n x v=>exact afb he av aG h
 |nilCheck x=>exact ab6 he av aG h
 |bin op x y=>exact akS he av aG h
 |eqAgg neg ks x y=>exact ae9 he av aG h
 |eqBool neg x y=>exact aeD he av aG h
 |eqNil neg x=>simp[cG]at h
 |not x=>exact akZ he av aG h
 |conv k x=>grind[aga]
 |i2s x=>grind[akW]
 |s2s x=>grind[ak0]
 |fldA off x=>grind[agb]
 |fld agg off n x=>grind[akV]
 |idxA sz x i=>grind[ahl]
 |idxS x i=>grind[ahm]
 |slcS x d a=>grind[ahn]
 |slc sz x d a=>grind[ak1]
 |slc0 x=>grind[aho]
 |mkfn f caps=>grind[ahp]
 |ext x i=>grind[akU]
 |len str x=>grind[akX]
 |append sz bytes x y=>grind[aeG]
 |max2 x y=>grind[ahq]
 |min2 x y=>grind[ahr]
 |call f args=>simp[cG]at h
 |iv x args=>simp[cG]at h
end
end
end
section
open Go
variable {U:cM}
def bx.cz(b0:Nat)(c:bL U.D):bx U->bx U
 |.arr b=>match Nat.beq b b0 with
  |true=>.t c
  |false=>.arr b
 |.cW b ty i o=>match Nat.beq b b0 with
  |true=>.dead
  |false=>.cW b ty i o
 |.pre b h=>match Nat.beq b b0 with
  |true=>.dead
  |false=>.pre b h
 |.hP b a len=>match Nat.beq b b0 with
  |true=>.dead
  |false=>.hP b a len
 |x=>x
def bP.cz(b0:Nat)(c:bL U.D):bP U->bP U
 |.c x=>.c (x.cz b0 c)
 |.agg cs=>.agg (cs.map (bx.cz b0 c))
 |.bf vs=>.bf (go b0 c vs)
where go (b0:Nat) (c:bL U.D):I (bP U)->I (bP U)
 |[]=>[]
 |v::vs=>v.cz b0 c::go b0 c vs
def c1.cz(b0:Nat)(c:bL U.D):c1 U->c1 U
 |.box cs=>.box (cs.map (bx.cz b0 c))
 |.cm E x=>.cm E (x.cz b0 c)
 |.cR t l i o x=>.cR t l i o (x.cz b0 c)
 |x=>x
def sK(b0:Nat)(c:bL U.D):b3 U->b3 U
 |[]=>[]
 |(k,v)::r=>(k,v.cz b0 c)::sK b0 c r
def nN(b0:Nat)(c:bL U.D):bl U->bl U
 |[]=>[]
 |(k,x)::r=>match Nat.beq k b0 with
  |true=>nN b0 c r
  |false=>(k,x.cz b0 c)::nN b0 c r
def x4(b:Nat)(t:aL)(env:b3 U)(σ:bl U):ag (b3 U×bl U):=
 match a8 σ b with
 |some (.arr a l)=>match bL.as (.slice t) (⟨.slice a,l⟩:bL U.D)with
  |some l=>some (sK b ⟨.slice t,l⟩ env,nN b ⟨.slice t,l⟩ σ)
  |none=>none
 |some (.rows _ r)=>match mJ U t r with
  |some l=>some (sK b ⟨.slice t,l⟩ env,nN b ⟨.slice t,l⟩ σ)
  |none=>none
 |_=>some (env,σ)
def kH:I (Nat×aL)->b3 U->bl U->ag (b3 U×bl U)
 |[],env,σ=>some (env,σ)
 |(b,t)::r,env,σ=>match x4 b t env σ with
  |some (env',σ')=>kH r env' σ'
  |none=>none
variable{c:bL U.D}{b0 j:Nat}{es:I (I T)}{t:aL}{cs:I C}
section
variable {kk N:Nat}{σ σ':bl U}{σ1:bg}{env env':b3 U}{env1:Env}{G:Nat->J}{gl:eH}
theorem EB:∀{env:b3 U} {k:Nat},a8 (sK b0 c env) k=(a8 env k).map (bP.cz b0 c)
 |[],k=>rfl
 |(i,v)::r,k=>by
  simp[sK,a8];cases Nat.beq i k with
  |true=>rfl
  |false=>exact EB
theorem ur:∀{σ:bl U} {k:Nat},a8 (nN b0 c σ) k=if k=b0 then none else(a8 σ k).map (c1.cz b0 c)
 |[],k=>by simp[nN,a8]
 |(i,x)::r,k=>by
  simp[nN];cases h:Nat.beq i b0 with
  |true=>
   simp[ur,a8];grind[c7]
  |false=>
   simp[a8,ur];grind
theorem c1.CK{x:c1 U}:(x.cz b0 c).dq=x.dq:=by cases x<;>rfl
theorem cr.cz{b0 sz:Nat}{c:bL U.D}{es:I (I T)}{q:c1 U}(h0:a8 σ b0=some q)(v:q.dq=some (sz,es.length))(u:c.bJ U= .slice es){x:bx U}{d:C}(h:cr N σ x d):
 cr N (nN b0 c σ) (x.cz b0 c) (d.cz b0 sz es):=by
 cases h with
 |t c=>exact .t c
 |ptr b o=>exact .ptr b o
 |cW b t i o=>
  simp only[bx.cz,C.cz];cases h:Nat.beq b b0 with
  |true=>exact .dead _
  |false=>rw[au (ib h)];exact .cW b t i o
 |dY t x o=>exact .dY t x o
 |arr b g n a h=>
  simp only[bx.cz,C.cz];cases e:Nat.beq b b0 with
  |true=>
   have:=c7 e;subst this;have:=h q h0 _ v;cases this;rw[ah rfl,ah ⟨rfl,by simp⟩];have:cut es 0 es.length=es:=(by simp[cut]);rw[this,<-u];exact .t c
  |false=>
   rw[au (ib e)];refine .arr b g n a λy al p ar=>?_;rw[ur]at al;grind[bF,c1.CK]
 |sub b j len=>exact .sub b j len
 |pre b g n a h=>
  simp only[bx.cz];cases e:Nat.beq b b0 with
  |true=>exact .dead _
  |false=>
   simp only[C.cz];rw[au (ib e)];refine .pre b g n a λy al p ar=>?_;rw[ur,au (ib e)]at al;grind[bF,c1.CK]
 |hP b g j len a h=>
  simp only[bx.cz];cases e:Nat.beq b b0 with
  |true=>exact .dead _
  |false=>
   refine .hP b g j len a λy al p ar=>?_;rw[ur,au (ib e)]at al;grind[bF,c1.CK]
 |mp b=>exact .mp b
 |eF b=>exact .eF b
 |cN b n a h=>
  refine .cN b n a λy al p ar=>?_;grind[ur,bF,c1.CK]
 |bV=>exact .bV
 |fp=>exact .fp
 |fm=>exact .fm
 |fn f caps=>exact .fn f caps
 |dead d=>exact .dead _
theorem Mx:∀{vs:I (bP U)} {i:Nat},(bP.cz.go b0 c vs)[i]?=(vs[i]?).map (bP.cz b0 c)
 |[],i=>by rfl
 |v::vs,0=>by rfl
 |v::vs,i+1=>by simp[bP.cz.go,Mx]
theorem LF:∀{vs:I (bP U)},(bP.cz.go b0 c vs).length=vs.length
 |[]=>rfl
 |v::vs=>by simp[bP.cz.go,LF]
theorem b7.cz{sz:Nat}{f:c1 U}(h0:a8 σ b0=some f)(e:f.dq=some (sz,es.length))(a:c.bJ U= .slice es){x:bP U}{d:V}(h:b7 N σ x d):
 b7 N (nN b0 c σ) (x.cz b0 c) (d.cz b0 sz es):=by
 induction h with
 |c h=>exact .c (h.cz h0 e a)
 |agg h=>exact .agg (bb.map_map (h.imp λ_ _ _ ad=>ad.cz h0 e a))
 |bf xs ds ak h ih=>
  refine .bf _ _ (by grind[LF,H9]) ?_;grind[Mx,IN]
theorem Pu{sz:Nat}{n:c1 U}(h0:a8 σ b0=some n)(f:n.dq=some (sz,es.length))(e:c.bJ U= .slice es)(hs:aV σ1 b0=some (.arr sz es))(he:c6 N σ G env env1)(aG:cB N σ σ1):
 Conv kk N env1 σ1 N (rR b0 sz es env1) (nB b0 sz es σ1)/\c6 N (nN b0 c σ) G (sK b0 c env) (rR b0 sz es env1)/\cB N (nN b0 c σ) (nB b0 sz es σ1):=by
 refine⟨Conv.freeze b0 hs,λk v m=>?_,λb x aa=>?_⟩;rw[EB,bF]at m;obtain⟨v0,h1,rfl⟩:=m;obtain⟨d,g,j⟩:=he k v0 h1;exact⟨_,by grind[Ay],j.cz h0 f e⟩
 . rw[ur]at aa;split at aa
   grind
   . simp only[bF]at aa;obtain⟨q,h1,rfl⟩:=aa;obtain⟨g,y,j,a⟩:=aG b q h1;refine⟨g,y.cz b0 sz es,by simp_all[EM,au],?_⟩;cases a with
     |box a=>exact .box (bb.map_map (a.imp λ_ _ _ ad=>ad.cz h0 f e))
     |arr t l=>exact .arr t l
     |set ks=>exact .set ks
     |buf E s=>exact .buf E s
     |cm a=>exact .cm (a.cz h0 f e)
     |cR t l i o a=>exact .cR t l i o (a.cz h0 f e)
     |rows a p=>exact .rows a p
theorem hf.cz(h:hf gl env G):hf gl (sK b0 c env) G:=by
 refine⟨h.free,λk t b e=>?_⟩;obtain⟨y,h1,a⟩:=h.held k t b e;refine⟨y,?_,a⟩;unfold fA at h1⊢;rw[EB];split at h1;rename_i x aa;rw[aa];exact h1;grind
theorem agC{α a:Type}{f:α->a}{l:I α}{sz:Nat}:some (sz,l.length)=some (sz,(l.map f).length):=by simp
theorem Nd{b:Nat}(h:x4 b t env σ=some (env',σ'))(he:c6 N σ G env env1)(aG:cB N σ σ1):
 ∃f bz,Conv kk N env1 σ1 N f bz/\c6 N σ' G env' f/\cB N σ' bz/\(hf gl env G->hf gl env' G):=by
 unfold x4 at h;split at h
 . rename_i k j ak;split at h
   rename_i l d;have e:=bL.ki d;cases e;cases h;obtain⟨_,y,h1,a⟩:=aG b _ ak;cases a;obtain⟨k1,k2,k3⟩:=Pu (c:=⟨.slice t,l⟩) ak agC rfl h1 he aG;exact⟨_,_,k1,k2,k3,λav=>av.cz⟩;grind
 . rename_i sz r ak;split at h
   . rename_i l d;cases h;obtain⟨_,y,h1,a⟩:=aG b _ ak;cases a with
     | @rows _ _ es a i=>
      have g:=wY d a;obtain⟨k1,k2,k3⟩:=Pu (c:=⟨.slice t,l⟩) ak (by simp[c1.dq];rw[a.length]) (by rw[<-g];rfl) h1 he aG;exact⟨_,_,k1,k2,k3,λav=>av.cz⟩
   grind
 grind[Conv.refl]
theorem xh:∀{l:I (Nat×aL)} {env env':b3 U} {σ σ':bl U} {env1:Env} {σ1:bg},kH l env σ=some (env',σ')->c6 N σ G env env1->cB N σ σ1->
 ∃a bz,Conv kk N env1 σ1 N a bz/\c6 N σ' G env' a/\cB N σ' bz/\(hf gl env G->hf gl env' G)
 |[],env,env',σ,σ',env1,σ1,h,he,aG=>by grind[kH,Conv.refl]
 |(b,t)::r,env,env',σ,σ',env1,σ1,h,he,aG=>by
  simp[kH]at h;split at h;rename_i e s h1;obtain⟨aJ,s1,k1,k2,k3,k4⟩:=Nd h1 he aG;obtain⟨c,j,d,f,g,i⟩:=xh h k2 k3;exact⟨c,j,k1.trans d,f,g,λav=>i (k4 av)⟩;grind
theorem Conv.close{b sz i o:Nat}{t:T}(c:aV σ1 b=some (.cR sz es i o (.t t))):
 Conv kk N env1 σ1 N env1 (dn σ1 b (.arr sz (es.set i ((el es i).take o++[t]++(el es i).drop (o+1))))):=by
 intro aA nt φ S a w H R;obtain⟨⟨a1,a2,a3,a4,a5,D⟩,⟨vs,E,k1,k2,k3,q,k4,k5⟩,k6⟩:=R.bS.blk _ _ c;have v:es[i]?=some (el es i):=by unfold el;rw[List.getD,e0 a5];rfl
 have F:=a3 _ (fr v);refine⟨φ,S,R.put (R.dT _ _ c).1 rfl ⟨by simpa using a1,by simpa using a2,λe he=>?_,a4,λ_=>⟨vs,E,k1,k2,λA j e B he ht=>?_,k6⟩⟩ λh0=>⟨λk y al z u=>R.bS.inj k b y _ al c z u h0,R.own b _ c h0⟩⟩;grind
 . rw[CW]at he;by_cases x:i=A
   . subst x;rw[ah rfl,ah a5]at he;cases he;have f:=(oo (vs:=el es i) (off:=o) (xs:=[t]) (by simp;omega) j)
     unfold ji at f;rw[show o+[t].length=o+1 from rfl]at f;rw[f]at ht;by_cases p:j=o;subst p;rw[cb,jB,Nat.sub_self]at ht;cases ht;exact⟨q,k4,k5⟩
     . have G:(el es i)[j]?=some B:=by
        by_cases g:j<o;rwa [ah g]at ht;rwa [au g,cb]at ht
       grind
   grind
def EC(b:Nat)(env:b3 U)(σ:bl U):ag (b3 U×bl U):=
 match a8 σ b with
 |some (.cR t l i o (.t c))=>match Nat.ble (o+1) (t.sz U)with
  |true=>match sL U t l i o [.t c]with
   |some a=>some (env,cS σ b (.arr t a))
   |none=>none
  |false=>none
 |_=>none
def Pv(b:Nat)(env:b3 U)(σ:bl U):ag (b3 U×bl U):=
 match a8 σ b with
 |some (.cR t l i o (.arr b2))=>match (t.row U (t.at U l i))[o]? with
  |some ⟨.slice te,_⟩=>match x4 b2 te env σ with
   |some (env',σ')=>EC b env' σ'
   |none=>none
  |_=>none
 |_=>EC b env σ
def Pa:bl U->ag Nat
 |[]=>none
 |(b,.cR ..)::_=>some b
 |_::r=>Pa r
def Kx(env:b3 U)(σ:bl U):ag (b3 U×bl U):=
 match Pa σ with
 |none=>some (env,σ)
 |some b=>Pv b env σ
theorem K1{b:Nat}(h:EC b env σ=some (env',σ'))(he:c6 N σ G env env1)(aG:cB N σ σ1):
 ∃e bz,Conv kk N env1 σ1 N e bz/\c6 N σ' G env' e/\cB N σ' bz:=by
 unfold EC at h;split at h
 . rename_i t l i o c ak;split at h
   . split at h
     . rename_i l2 k;cases h;obtain⟨g,y,h1,d⟩:=aG b _ ak;cases d with
       |cR _ _ _ _ d=>
        cases d;have q:l2.length=List.length l:=by
         grind[sL]
        have f:du N σ N (cS σ b (.arr t l2)):=ot (ek _) ak (λp h=>by
         grind[c1.dq])
        refine⟨env1,dn _ b _,?_,he.mono f,aG.put g f (.arr t l2)⟩;by_cases j:i<List.length l;obtain⟨ts,aJ,m⟩:=IS (N:=N) (σ:=σ) k j (.cons (.t c) .nil) (by simp_all);have:ts=[c.bJ U]:=(by grind[toTs,toT]);have:=Conv.close (kk:=kk) (N:=N) (env1:=env1) h1;grind;intro aA nt φ S a w n R;obtain⟨⟨_,_,_,_,a5,_⟩,_⟩:=R.bS.blk _ _ h1;grind
     grind
   grind
 grind
theorem abV(h:Kx env σ=some (env',σ'))(he:c6 N σ G env env1)(aG:cB N σ σ1):
 ∃a bz,Conv kk N env1 σ1 N a bz/\c6 N σ' G env' a/\cB N σ' bz:=by
 unfold Kx at h;split at h;grind[Conv.refl]
 . unfold Pv at h;split at h
   . split at h
     . split at h
       rename_i e s h1;obtain⟨aJ,s1,k1,k2,k3,_⟩:=Nd (gl:=[]) h1 he aG;obtain⟨b,g,c,d,f⟩:=K1 h k2 k3;exact⟨b,g,k1.trans c,d,f⟩;grind
     grind
   exact K1 h he aG
theorem Conv.own{k:Nat}{g:J}{sz:Nat}(p:look env1 k=some (g,.c .bV))(q:0<sz)(u:kk<=N):Conv kk N env1 σ1 (N+1) ((k,g,.c (.arr N sz 0 0))::env1) (dn σ1 N (.arr sz [])):=by
 intro aA nt φ S a w t R;have f:=R.GX q (by omega);have ec:eN φ N (0,0) N=(0,0):=by simp[eN]
 refine⟨eN φ N _,S,⟨f.bS,λi j v ak av=>?_,λi j v ak av=>?_,λi j v ak av=>?_,f.dT,f.size,f.defers,f.ext,f.own,f.fix,f.gS⟩⟩
 . simp[look]at ak;split at ak
   . rename_i e;cases ak;subst e;obtain⟨x,aa,o⟩:=f.gx _ _ _ p av;refine⟨x,aa,?_⟩;cases o with
     |c o=>
      obtain⟨a,rfl⟩:=o;refine .c ⟨a,by grind,λh=>absurd (by grind) h,by simp⟩
   exact f.gx i j v ak av
 . simp[look]at ak;split at ak
   rename_i e;cases ak;subst e;exact f.hl _ _ _ p av;exact f.hl i j v ak av
 . simp only[look]at ak;split at ak
   grind[V.aK,C.aK,lt];exact f.gw i j v ak av
theorem Conv.aj'{b:Nat}{sz:Nat}(K:aV σ1 b=some (.box cs))(A:cs[j]?=some .bV)(L:b<N)(F:0<sz)(P:kk<=N):
 Conv kk N env1 σ1 (N+1) env1 (dn (dn σ1 N (.arr sz [])) b (.box (cs.set j (.arr N sz 0 0)))):=by
 intro aA nt φ S a w O R;have e:=R.GX F (by omega);have ec:eN φ N (0,0) N=(0,0):=by simp[eN]
 have t:aV (dn σ1 N (.arr sz [])) b=some (.box cs):=by rw[c9];grind
 have u:∀c x,aV (dn (dn σ1 N (.arr sz [])) b (.box (cs.set j (.arr N sz 0 0)))) c=some x->(c=b/\x= .box (cs.set j (.arr N sz 0 0)))\/aV (dn σ1 N (.arr sz [])) c=some x:=by
  grind[c9]
 have f:∀c x,aV (dn (dn σ1 N (.arr sz [])) b (.box (cs.set j (.arr N sz 0 0)))) c=some x->∃y,aV (dn σ1 N (.arr sz [])) c=some y:=by grind
 refine⟨eN φ N _,S,⟨⟨λc x aa=>?_,λc p x y aa al B=>?_,e.bS.st⟩,e.gx,e.hl,e.gw,λc x aa=>?_,e.size,e.defers,e.ext,λc x aa=>?_,e.fix,e.gS⟩⟩
 . rcases u c x aa with⟨rfl,rfl⟩|h
   . obtain⟨h0,vs,E,h1,q,z⟩:=e.bS.blk _ _ t;refine⟨h0,vs,E,h1,?_,z⟩;obtain⟨v,U,D⟩:=q.get A;obtain⟨a,rfl⟩:=D;have:=bb.set (i:=j) q (a:= .arr N sz 0 0) (b:= .slice a 0 0) ⟨a,by grind,λh=>absurd (by grind) h,by simp⟩;have Q:vs.set j (.slice a 0 0)=vs:=by
      apply xz;grind
     grind
   exact e.bS.blk c x h
 obtain⟨o,g⟩:=f c x aa;obtain⟨H,G⟩:=f p y al;exact e.bS.inj c p o H g G B
 . rcases u c x aa with⟨rfl,rfl⟩|h
   have:=(e.dT _ _ t).2;grind[b9.aK,List.mem_or_eq_of_mem_set,C.aK,lt];exact e.dT c x h
 obtain⟨o,g⟩:=f c x aa;exact e.own c o g
theorem Conv.trim{q b:Nat}{sz h:Nat}(Q:aV σ1 q=some (.box cs))(W:cs[j]?=some (.arr b sz 0 h))(L:aV σ1 b=some (.arr sz es))(ad:h<=es.length)(aD:q<N):
 Conv kk N env1 σ1 (N+1) env1 (dn (dn (hx σ1 b) N (.arr sz (es.take h))) q (.box (cs.set j (.arr N sz 0 h)))):=by
 intro aA nt φ S a w ap R;have an:b<N:=by have:=(R.dT _ _ L).1;grind[lt]
 have U:∀c,lt N c->eN φ N (φ b) c=φ c:=by
  intro c p;simp only[lt,fI]at p;grind[eN]
 have z:∀c,lt N c->lt (N+1) c:=λc p=>EA (by omega) p;have f:=R.u3 U;have ec:eN φ N (φ b) N=φ b:=by simp[eN]
 have O:=U b (by grind[lt]);have P:∀c x,aV (dn (dn (hx σ1 b) N (.arr sz (es.take h))) q (.box (cs.set j (.arr N sz 0 h)))) c=some x->(c=q/\x= .box (cs.set j (.arr N sz 0 h)))\/(c≠q/\c=N/\x= .arr sz (es.take h))\/(c≠q/\c≠N/\c≠b/\aV σ1 c=some x):=by
  grind[c9,fD]
 have D:∀c x,aV (dn (dn (hx σ1 b) N (.arr sz (es.take h))) q (.box (cs.set j (.arr N sz 0 h)))) c=some x->∃t y,aV σ1 t=some y/\eN φ N (φ b) c=eN φ N (φ b) t/\(t=if c=N then b else c):=by grind
 refine⟨eN φ N (φ b),S,⟨⟨λc x aa=>?_,λc t x y aa al ax=>?_,f.bS.st⟩,f.gx,f.hl,λk g v ak av=>V.hJ z (f.gw k g v ak av),λc x aa=>?_,f.size,f.defers,f.ext,λc x aa h0=>?_,f.fix,λc p=>by have:=f.gS c p;exact z c this⟩⟩
 . rcases P c x aa with⟨rfl,rfl⟩|⟨_,rfl,rfl⟩|⟨_,_,_,o⟩
   . obtain⟨h0,vs,E,h1,u,B⟩:=f.bS.blk _ _ Q;refine⟨h0,vs,E,h1,?_,B⟩;obtain⟨v,a1,X⟩:=u.get W;have Y:bD (eN φ N (φ b)) w S (.arr N sz 0 h) v:=by
      obtain⟨a,aJ,A,c3⟩:=X;rw[O]at aJ A c3;exact⟨a,by rw[ec];exact aJ,by rw[ec];exact A,by rw[ec];exact c3⟩
     have:=bb.set (i:=j) u Y;have a0:vs.set j v=vs:=by
      apply xz;grind
     grind
   obtain⟨h0,h1,u,B,o⟩:=f.bS.blk _ _ L;rw[O]at h0 o;refine⟨by rw[ec,zx];omega,by rw[zx];omega,λe he=>u e (Hb he),B,λp=>?_⟩;grind;exact f.bS.blk c x o
 obtain⟨d,G,F,aJ,A⟩:=D c x aa;obtain⟨H,am,Z,c3,gH⟩:=D t y al;have cd:d≠H:=(by grind);intro h0 K;rw[aJ]at h0⊢;rw[c3]at K⊢;exact f.bS.inj d H G am F Z cd h0 K
 . rcases P c x aa with⟨rfl,rfl⟩|⟨_,rfl,rfl⟩|⟨_,_,_,o⟩
   have:=(f.dT _ _ Q).2;grind[b9.aK,List.all_eq_true,List.mem_or_eq_of_mem_set,C.hJ,C.aK,lt];exact⟨by simp[lt],rfl⟩;exact⟨z c (f.dT c x o).1,b9.hJ z (f.dT c x o).2⟩
 obtain⟨d,G,F,aJ,_⟩:=D c x aa;rw[aJ]at h0⊢;exact f.own d G F h0
def wZ:Nat->I (bx U)->ag (Nat×Nat×Nat)
 |_,[]=>none
 |j,.pre b h::_=>some (j,b,h)
 |j,_::r=>wZ (j+1) r
def rK(σ:bl U):bl U->ag (Nat×I (bx U)×Nat×Nat×Nat)
 |[]=>none
 |(q,.box cs)::r=>match a8 σ q with
  |some (.box a)=>match wZ 0 a with
   |some p=>some (q,a,p)
   |none=>rK σ r
  |_=>rK σ r
 |_::r=>rK σ r
theorem My:∀{cs:I (bx U)} {j i b h:Nat},wZ j cs=some (i,b,h)->j<=i/\cs[i-j]?=some (.pre b h)
 |[],j,i,b,h,a=>by grind[wZ]
 |c::r,j,i,b,h,a=>by
  have next:wZ (j+1) r=some (i,b,h)->j<=i/\(c::r)[i-j]?=some (.pre b h):=by
   intro a;obtain⟨h1,f⟩:=My a;grind
  cases c with
  |pre d e=>grind[wZ,Option.some.injEq]
  |_=>exact next a
theorem DX{q:Nat}{cs:I (bx U)}{i b h:Nat}:∀{l:bl U},rK σ l=some (q,cs,i,b,h)->a8 σ q=some (.box cs)/\cs[i]?=some (.pre b h)
 |[],a=>by simp[rK]at a
 |(k,x)::r,a=>by
  cases x with
  |box d=>
   simp[rK]at a;split at a
   . rename_i e c;split at a
     rename_i p ar;obtain⟨rfl,rfl,rfl⟩:=a;exact⟨c,by simpa using(My ar).2⟩;exact DX a
   exact DX a
  |_=>exact DX (by simpa[rK]using a)
def FW{R:Type}(σ:bl U)(N:Nat)(k:bl U->Nat->ag R):ag R:=
 match rK σ σ with
 |none=>k σ N
 |some (q,cs,j,b,h)=>match a8 σ b with
  |some (.arr t l)=>ite (h<=l.length:J) (k (cS (cS (dl σ b) N (.arr t (l.take h))) q (.box (cs.set j (.arr N)))) (N+1)) none
  |_=>none
theorem Nf{q b h0:Nat}{cs:I (bx U)}{x:bx U}{l:I (t.den U.D)}(s:a8 σ q=some (.box cs))(r:cs[j]?=some x)(k:a8 σ b=some (.arr t l))(aa:∀d,cr N σ x d->d= .arr b (t.sz U) 0 h0)(C:h0<=l.length)
 (he:c6 N σ G env env1)(aG:cB N σ σ1):
 ∃bz,Conv kk N env1 σ1 (N+1) env1 bz/\c6 (N+1) (cS (cS (dl σ b) N (.arr t (l.take h0))) q (.box (cs.set j (.arr N)))) G env env1/\cB (N+1) (cS (cS (dl σ b) N (.arr t (l.take h0))) q (.box (cs.set j (.arr N)))) bz:=by
 obtain⟨w,F,v,a⟩:=aG q _ s;obtain⟨B,E,m,n⟩:=aG b _ k;cases n;cases a with
 | @box _ ds a=>
  obtain⟨d,o,A⟩:=a.get r;have:=aa d A;subst this;have z:q≠b:=by grind
  have k1:du N σ N (dl σ b):=rJ;have k2:du N (dl σ b) (N+1) (cS (dl σ b) N (.arr t (l.take h0))):=kU;have u:a8 (cS (dl σ b) N (.arr t (l.take h0))) q=some (.box cs):=by rw[hM,cb,nD,au (λe=>z e.symm)];grind
  have k3:du (N+1) (cS (dl σ b) N (.arr t (l.take h0))) (N+1) (cS (cS (dl σ b) N (.arr t (l.take h0))) q (.box (cs.set j (.arr N)))):=ot (ek _) u (λp h=>by grind[c1.dq]);have f:=(k1.trans k2).trans k3;have i:cB N (dl σ b) (hx σ1 b):=by
   intro c x aa;rw[nD]at aa;split at aa;grind;obtain⟨g1,y,g2,g3⟩:=aG c x aa;exact⟨g1,y,by simp_all[fD,au],g3.mono k1⟩
  refine⟨_,Conv.trim v o m (by grind) w,he.mono f,?_⟩;rw[<-List.map_take];refine(i.put (by simp) k2 (.arr t (l.take h0))).put (by omega) k3 (.box ?_);refine bb.set (a.imp λ_ _ _ g=>g.mono f) (.arr N _ _ (by simp) λx aa p ar=>?_);rw[hM,hM,ah rfl]at aa;grind[c1.dq,Option.some.injEq,List.length_take,Nat.min_eq_left]
theorem Mz{R:Type}{k:bl U->Nat->ag R}{r:R}(h:FW σ N k=some r)(he:c6 N σ (λ_=>true) env env1)(aG:cB N σ σ1):
 ∃σ' N' bz,k σ' N'=some r/\Conv kk N env1 σ1 N' env1 bz/\c6 N' σ' (λ_=>true) env env1/\cB N' σ' bz/\N<=N':=by
 unfold FW at h;split at h;exact⟨σ,N,σ1,h,Conv.refl,he,aG,ek _⟩
 . rename_i q cs j b h0 e;obtain⟨g,f⟩:=DX e;split at h
   . rename_i t l a;split at h
     . obtain⟨s1,m,n,o⟩:=Nf (kk:=kk) (h0:=h0) g f a (λd i=>by
        cases i with
        |pre _ sz _ _ c=>
         have c:=c _ a _ rfl
         grind) (by grind) he aG
       grind
     grind
   grind
def uu(kk:Nat):Nat->I (bx U)->ag (Nat×Nat)
 |_,[]=>none
 |j,.arr b::r=>match Nat.ble (b+1) kk with
  |true=>some (j,b)
  |false=>uu kk (j+1) r
 |j,_::r=>uu kk (j+1) r
def rL(kk:Nat)(σ:bl U):bl U->ag (Nat×I (bx U)×Nat×Nat)
 |[]=>none
 |(q,.box _)::r=>match a8 σ q with
  |some (.box cs)=>match uu kk 0 cs with
   |some p=>some (q,cs,p)
   |none=>rL kk σ r
  |_=>rL kk σ r
 |_::r=>rL kk σ r
theorem MA:∀{cs:I (bx U)} {j i b:Nat},uu kk j cs=some (i,b)->j<=i/\cs[i-j]?=some (.arr b)
 |[],j,i,b,a=>by grind[uu]
 |c::r,j,i,b,a=>by
  have next:uu kk (j+1) r=some (i,b)->j<=i/\(c::r)[i-j]?=some (.arr b):=by
   intro a;obtain⟨h1,e⟩:=MA a;grind
  cases c with
  |arr d=>
   grind[uu]
  |_=>exact next a
theorem DY{kk q:Nat}{cs:I (bx U)}{i b:Nat}:∀{l:bl U},rL kk σ l=some (q,cs,i,b)->a8 σ q=some (.box cs)/\cs[i]?=some (.arr b)
 |[],a=>by grind[rL]
 |(k,x)::r,a=>by
  cases x with
  |box d=>
   simp only[rL]at a;split at a
   . rename_i e c;split at a
     rename_i p ar;obtain⟨rfl,rfl,rfl⟩:=a;exact⟨c,by simpa using(MA ar).2⟩;exact DY a
   exact DY a
  |_=>exact DY (by simpa[rL]using a)
def FP{R:Type}(kk:Nat)(σ:bl U)(k:bl U->Nat->ag R):ag R:=
 match rL kk σ σ with
 |none=>k σ kk
 |some (q,cs,j,b)=>match a8 σ b with
  |some (.arr t l)=>k (cS (cS (dl σ b) kk (.arr t l)) q (.box (cs.set j (.arr kk)))) (kk+1)
  |_=>k σ kk
theorem acD{R:Type}{k:bl U->Nat->ag R}{r:R}(h:FP kk σ k=some r)(he:c6 kk σ (λ_=>true) env env1)(aG:cB kk σ σ1):
 ∃σ' N' bz,k σ' N'=some r/\Conv kk kk env1 σ1 N' env1 bz/\c6 N' σ' (λ_=>true) env env1/\cB N' σ' bz/\kk<=N':=by
 unfold FP at h;split at h;exact⟨σ,kk,σ1,h,Conv.refl,he,aG,ek _⟩
 . rename_i q cs j b e;obtain⟨g,f⟩:=DY e;split at h
   . rename_i t l a
     obtain⟨s1,m,o,p⟩:=Nf (kk:=kk) g f a (λd i=>by
      cases i with
      |arr _ sz n _ c=>
       have c:=c _ a _ rfl
       grind) (ek _) he aG
     grind
   exact⟨σ,kk,σ1,h,Conv.refl,he,aG,ek _⟩
inductive Pos where
 |slot (k:Nat)
 |cell (b j:Nat)
 |via (k j:Nat)
def Cd(b j:Nat)(t:aL)(env:b3 U)(σ:bl U)(N:Nat):ag (b3 U×bl U):=
 match a8 σ b with
 |some (.box cs)=>match cs[j]? with
  |some .bV=>some (env,cS (cS σ N (.arr t [])) b (.box (cs.set j (.arr N))))
  |_=>some (env,σ)
 |_=>none
def Jk(p:Pos)(t:aL)(env:b3 U)(σ:bl U)(N:Nat):ag (b3 U×bl U):=
 match p with
 |.slot k=>match a8 env k with
  |some (.c .bV)=>some ((k,.c (.arr N))::env,cS σ N (.arr t []))
  |_=>some (env,σ)
 |.cell b j=>Cd b j t env σ N
 |.via k j=>match a8 env k with
  |some (.c (.ptr b _))=>Cd b j t env σ N
  |_=>none
def FR:I (Pos×aL)->b3 U->bl U->Nat->ag (b3 U×bl U×Nat)
 |[],env,σ,N=>some (env,σ,N)
 |(p,t)::r,env,σ,N=>match Jk p t env σ N with
  |some (env',σ')=>FR r env' σ' (N+1)
  |none=>none
theorem Ob{t:aL}(he:c6 N σ (λ_=>true) env env1)(aG:cB N σ σ1)(g:kk<=N):∃c bz,Conv kk N env1 σ1 (N+1) c bz/\c6 (N+1) σ (λ_=>true) env c/\cB (N+1) σ bz:=by
 refine⟨env1,dn _ N (.arr 1 []),λaA nt φ S a w f R=>⟨_,S,R.GX (by simp) (by omega)⟩,he.mono (du.more (by simp)),λb x aa=>?_⟩;obtain⟨h1,y,e,d⟩:=aG b x aa;exact⟨by omega,y,by grind[c9],d.mono (du.more (by simp))⟩
theorem Jm{b:Nat}(h:Cd b j t env σ N=some (env',σ'))(he:c6 N σ (λ_=>true) env env1)(aG:cB N σ σ1)(g:kk<=N):
 ∃f bz,Conv kk N env1 σ1 (N+1) f bz/\c6 (N+1) σ' (λ_=>true) env' f/\cB (N+1) σ' bz:=by
 have same:=Ob (t:=t) he aG g;unfold Cd at h;split at h
 . rename_i cs k;split at h
   . rename_i n;cases h;obtain⟨i,y,h1,a⟩:=aG b _ k;cases a with
     | @box _ ds a=>
      obtain⟨d,m,o⟩:=a.get n;cases o;have c:du N σ (N+1) (cS σ N (.arr t [])):=kU;have l:a8 (cS σ N (.arr t [])) b=some (.box cs):=by rw[hM];grind
      have e:du (N+1) _ (N+1) (cS _ b (.box (cs.set j (.arr N)))):=ot (ek _) l (λp h=>by grind[c1.dq]);refine⟨_,_,Conv.aj' h1 m i (aL.nK (t:=t) (U:=U)) g,(he.mono c).mono e,(aG.put (by simp) c (.arr t [])).put (by omega) e (.box ?_)⟩;refine bb.set (a.imp λ_ _ _ h=>(h.mono c).mono e) (.arr N _ _ (by simp) λx aa p ar=>?_);rw[hM,hM]at aa;grind[c1.dq]
   grind
 grind
theorem acE{p:Pos}(h:Jk p t env σ N=some (env',σ'))(he:c6 N σ (λ_=>true) env env1)(aG:cB N σ σ1)(e:kk<=N):
 ∃d bz,Conv kk N env1 σ1 (N+1) d bz/\c6 (N+1) σ' (λ_=>true) env' d/\cB (N+1) σ' bz:=by
 have same:=Ob (t:=t) he aG e;unfold Jk at h;split at h
 . rename_i k;split at h
   . rename_i j;cases h;obtain⟨v1,h1,g⟩:=he k _ j;have:=g.vy;subst this;have f:du N σ (N+1) (cS σ N (.arr t [])):=kU;refine⟨_,_,Conv.own h1 (aL.nK (t:=t) (U:=U)) e,λi v a=>?_,aG.put (by simp) f (.arr t [])⟩;simp only[a8]at a;simp only[look];split at a
     rename_i b;cases a;rw[ah (c7 b)];refine⟨_,rfl,.c (.arr N _ _ (by simp) λx aa p ar=>?_)⟩;rw[hM,ah rfl]at aa;grind[c1.dq];rename_i b;rw[au (ib b)];exact(he.mono f) i v a
   grind
 grind[Jm];grind[Jm]
def Ky:I (bx U)->I J->J
 |[],[]=>true
 |.t _::cs,false::bs=>Ky cs bs
 |.bV::cs,true::bs=>Ky cs bs
 |_,_=>false
def U7(cs:I (bx U)):I (I J×Nat×aL)->ag (Nat×aL)
 |[]=>none
 |(bs,p)::r=>match Ky cs bs with
  |true=>some p
  |false=>U7 cs r
def JT(l:I (I J×Nat×aL)):bl U->ag (Nat×Nat×aL)
 |[]=>none
 |(q,.box cs)::r=>match U7 cs l with
  |some p=>some (q,p)
  |none=>JT l r
 |_::r=>JT l r
def FU{R:Type}(env:b3 U)(σ:bl U)(N:Nat)(k:b3 U->bl U->Nat->ag R):ag R:=
 match JT U.own σ with
 |none=>FW σ N λσ N=>k env σ N
 |some (q,j,t)=>match Cd q j t env σ N with
  |some (env,σ)=>FW σ (N+1) λσ N=>k env σ N
  |none=>none
theorem MB{R:Type}{k:b3 U->bl U->Nat->ag R}{r:R}(h:FU env σ N k=some r)(he:c6 N σ (λ_=>true) env env1)(aG:cB N σ σ1)(i:kk<=N):
 ∃env' σ' N' a bz,k env' σ' N'=some r/\Conv kk N env1 σ1 N' a bz/\c6 N' σ' (λ_=>true) env' a/\cB N' σ' bz/\N<=N':=by
 unfold FU at h;split at h;obtain⟨m,c,l,g1,g2,g3,g4,b⟩:=Mz h he aG;exact⟨_,_,_,_,_,g1,g2,g3,g4,b⟩
 . split at h
   rename_i e s j;obtain⟨aJ,s1,d,f,g⟩:=Jm j he aG i;obtain⟨m,c,l,g1,g2,g3,g4,b⟩:=Mz h f g;exact⟨_,_,_,_,_,g1,d.trans g2,g3,g4,by omega⟩;grind
theorem Ng:∀{l:I (Pos×aL)} {env env':b3 U} {σ σ':bl U} {N N':Nat} {env1:Env} {σ1:bg},FR l env σ N=some (env',σ',N')->c6 N σ (λ_=>true) env env1->cB N σ σ1->kk<=N->
 ∃a bz,Conv kk N env1 σ1 N' a bz/\c6 N' σ' (λ_=>true) env' a/\cB N' σ' bz/\N<=N'
 |[],env,env',σ,σ',N,N',env1,σ1,h,he,aG,b=>by obtain⟨rfl,rfl,rfl⟩:=h;exact⟨env1,σ1,Conv.refl,he,aG,ek _⟩
 |(p,t)::r,env,env',σ,σ',N,N',env1,σ1,h,he,aG,b=>by
  simp[FR]at h;split at h;rename_i e s h1;obtain⟨aJ,s1,k1,k2,k3⟩:=acE h1 he aG b;obtain⟨c,i,d,f,g,j⟩:=Ng h k2 k3 (by omega);exact⟨c,i,k1.trans d,f,g,by omega⟩;grind
end
end
section
open Go
variable {U:cM}
inductive gB where
 |hole (ty:aL)
 |ptr (b o:Nat)
 |cW (b:Nat)(ty:aL)(o:Nat)
 |dY (ty:aL)(o:Nat)
 |arr (b:Nat)
 |mp (b:Nat)
 |cN (b:Nat)
 |bV
 |fp
 |fm
 |fn (f:Nat)(caps:ba)
 |dead
inductive dy where
 |c (s:gB)
 |agg (l:List gB)
 |row (n:Nat)
 |bf (l:List dy)
inductive dL where
 |box (l:List gB)
 |arr (ty:aL)
 |bk (n:Nat)
 |gone
 |set
 |buf (E:Nat)
 |cm (E:Nat)(s:gB)
structure Shape where
 env:List (Nat×dy)
 st:List dL
abbrev e2(U:cM):=I (bL U.D)
def vM:gB->e2 U->bx U×e2 U
 |.hole _,c::r=>(.t c,r)
 |.hole _,[]=>(.dead,[])
 |.ptr b o,r=>(.ptr b o,r)
 |.cW b ty o,⟨.int _,n⟩::r=>(.cW b ty (Int.toNat n) o,r)
 |.cW _ _ _,r=>(.dead,r)
 |.dY _ o,c::r=>(.dY c.ty c.val o,r)
 |.dY _ _,[]=>(.dead,[])
 |.arr b,r=>(.arr b,r)
 |.mp b,r=>(.mp b,r)
 |.cN b,r=>(.cN b,r)
 |.bV,r=>(.bV,r)
 |.fp,r=>(.fp,r)
 |.fm,r=>(.fm,r)
 |.fn f caps,r=>(.fn f caps,r)
 |.dead,r=>(.dead,r)
def yR:I gB->e2 U->I (bx U)×e2 U
 |[],r=>([],r)
 |s::ss,r=>match vM s r with
  |(x,a)=>match yR ss a with
   |(xs,b)=>(x::xs,b)
mutual
def mr:dy->e2 U->bP U×e2 U
 |.c s,r=>match vM s r with
  |(x,a)=>(.c x,a)
 |.agg l,r=>match yR l r with
  |(xs,a)=>(.agg xs,a)
 |.row _,c::r=>(.agg ((c.ty.row U c.val).map .t),r)
 |.row _,[]=>(.bf [],[])
 |.bf l,r=>match ku l r with
  |(xs,a)=>(.bf xs,a)
def ku:I dy->e2 U->I (bP U)×e2 U
 |[],r=>([],r)
 |s::ss,r=>match mr s r with
  |(x,a)=>match ku ss a with
   |(xs,e)=>(x::xs,e)
end
def CJ:I (Nat×dy)->e2 U->b3 U×e2 U
 |[],r=>([],r)
 |(k,s)::ss,r=>match mr s r with
  |(x,a)=>match CJ ss a with
   |(xs,b)=>((k,x)::xs,b)
def jY:dL->e2 U->ag (c1 U)×e2 U
 |.box l,r=>match yR l r with
  |(xs,a)=>(some (.box xs),a)
 |.arr _,⟨.slice t,l⟩::r=>(some (.arr t l),r)
 |.arr _,r=>(none,r)
 |.bk _,c::r=>(some (.box ((c.ty.row U c.val).map .t)),r)
 |.bk _,[]=>(none,[])
 |.gone,r=>(none,r)
 |.set,⟨.slice .str,l⟩::r=>(some (.set l),r)
 |.set,r=>(none,r)
 |.buf E,⟨.str,s⟩::r=>(some (.buf E s),r)
 |.buf _,r=>(none,r)
 |.cm E s,r=>match vM s r with
  |(x,a)=>(some (.cm E x),a)
def hL:Nat->I dL->e2 U->bl U
 |_,[],_=>[]
 |j,s::ss,r=>match jY s r with
  |(some x,a)=>(j,x)::hL (j+1) ss a
  |(none,a)=>hL (j+1) ss a
def q0{α:Type}:I α->Nat->ag α
 |[],_=>none
 |a::_,0=>some a
 |_::l,n+1=>q0 l n
theorem Fy{α:Type}:∀{l:I α} {n:Nat},q0 l n=l[n]?
 |[],n=>by rfl
 |a::l,0=>by rfl
 |a::l,n+1=>by simp[q0,Fy]
def rq(bs:ba)(j b:Nat):J:=match q0 bs j with
 |some a=>Nat.beq a b
 |none=>false
def Cq(bs:ba):ba->ba->J
 |[],[]=>true
 |j::a,c::cs=>rq bs j c&&Cq bs a cs
 |_,_=>false
def HF(ty:aL):bx U->ag (bL U.D)
 |.t c=>match bL.as ty c with
  |some x=>some ⟨ty,x⟩
  |none=>none
 |.bV=>match ty with
  |.slice t=>some ⟨.slice t,([]:I (t.den U.D))⟩
  |_=>none
 |_=>none
def yp(bs:ba):gB->bx U->ag (e2 U)
 |.hole ty,x=>match HF ty x with
  |some c=>some [c]
  |none=>none
 |.ptr j o,.ptr b a=>match rq bs j b&&Nat.beq o a with
  |true=>some []
  |false=>none
 |.cW j ty o,.cW b d i a=>match rq bs j b&&(Nat.beq o a&&aL.beq ty d)with
  |true=>some [⟨.int .i64,(i:Int)⟩]
  |false=>none
 |.dY ty o,.dY d x a=>match Nat.beq o a,bL.as ty (⟨d,x⟩:bL U.D)with
  |true,some x=>some [⟨ty,x⟩]
  |_,_=>none
 |.arr j,.arr b=>match rq bs j b with
  |true=>some []
  |false=>none
 |.mp j,.mp b=>match rq bs j b with
  |true=>some []
  |false=>none
 |.cN j,.cN b=>match rq bs j b with
  |true=>some []
  |false=>none
 |.bV,.bV=>some []
 |.fp,.fp=>some []
 |.fm,.fm=>some []
 |.fn f g,.fn e cs=>match Nat.beq f e&&Cq bs g cs with
  |true=>some []
  |false=>none
 |.dead,_=>some []
 |_,_=>none
def qS(bs:ba):I gB->I (bx U)->ag (e2 U)
 |[],[]=>some []
 |s::ss,x::xs=>match yp bs s x,qS bs ss xs with
  |some a,some b=>some (a++b)
  |_,_=>none
 |_,_=>none
mutual
def jX(bs:ba):dy->bP U->ag (e2 U)
 |.c s,.c x=>yp bs s x
 |.agg l,.agg xs=>qS bs l xs
 |.row n,.agg xs=>match qJ U (.nm n) xs with
  |some x=>some [⟨.nm n,x⟩]
  |none=>none
 |.bf l,.bf xs=>mV bs l xs
 |_,_=>none
def mV(bs:ba):I dy->I (bP U)->ag (e2 U)
 |[],[]=>some []
 |s::ss,x::xs=>match jX bs s x,mV bs ss xs with
  |some a,some b=>some (a++b)
  |_,_=>none
 |_,_=>none
end
def yq(bs:ba)(env:b3 U):I (Nat×dy)->ag (e2 U)
 |[]=>some []
 |(k,s)::ss=>match a8 env k with
  |some x=>match jX bs s x,yq bs env ss with
   |some a,some b=>some (a++b)
   |_,_=>none
  |none=>none
def pj(bs:ba):dL->c1 U->ag (e2 U)
 |.box l,.box xs=>qS bs l xs
 |.arr ty,.arr t l=>match bL.as (.slice ty) (⟨.slice t,l⟩:bL U.D)with
  |some l=>some [⟨.slice ty,l⟩]
  |none=>none
 |.arr ty,.rows sz r=>match Nat.beq (ty.sz U) sz,mJ U ty r with
  |true,some l=>some [⟨.slice ty,l⟩]
  |_,_=>none
 |.bk n,.box xs=>match qJ U (.nm n) xs with
  |some x=>some [⟨.nm n,x⟩]
  |none=>none
 |.set,.set l=>some [⟨.slice .str,l⟩]
 |.buf E,.buf a s=>match Nat.beq E a with
  |true=>some [⟨.str,s⟩]
  |false=>none
 |.cm E s,.cm a x=>match Nat.beq E a with
  |true=>yp bs s x
  |false=>none
 |_,_=>none
def i'(bs:ba)(σ:bl U):Nat->I dL->ag (e2 U)
 |_,[]=>some []
 |j,.gone::ss=>i' bs σ (j+1) ss
 |j,s::ss=>match q0 bs j with
  |some b=>match a8 σ b with
   |some x=>match pj bs s x,i' bs σ (j+1) ss with
    |some a,some r=>some (a++r)
    |_,_=>none
   |none=>none
  |none=>none
variable{a:e2 U}{ss:I dL}
section
variable {kk N:Nat}{σ σc:bl U}{σ1:bg}{env:b3 U}{env1:Env}{bs:ba}
def Can(bs:ba)(σ σc:bl U):Prop:=∀j b a,bs[j]?=some b->a8 σc j=some a->∃x,a8 σ b=some x/\∀p,a.dq=some p->x.dq=some p
theorem ns(cd:bs.Nodup){j b:Nat}(h:bs[j]?=some b):pos bs b=some j:=by
 induction bs generalizing j with
 |nil=>grind
 |cons a bs ih=>
  grind[pos]
theorem wN{j b:Nat}(h:rq bs j b):bs[j]?=some b:=by
 unfold rq at h;rw[Fy]at h;split at h
 all_goals simp_all
theorem Nh(cd:bs.Nodup):∀{a cs:ba},Cq bs a cs->qh bs cs=some a
 |[],[],_=>rfl
 |j::a,c::cs,h=>by
  simp[Cq]at h;simp[qh,ns cd (wN h.1),Nh cd h.2]
theorem ab7{ty:aL}{x:bx U}{c:bL U.D}{d:C}(h:HF ty x=some c)(a:cr N σ x d):dQ (d.b8 bs) (.t (c.bJ U))/\c.ty=ty:=by
 unfold HF at h;split at h
 . split at h
   rename_i b y al;cases h;rw[bL.ki al]at a;cases a;exact⟨dQ.refl _,rfl⟩;grind
 . split at h
   cases h;cases a;exact⟨dQ.bV,rfl⟩;grind
 grind
theorem IT(cd:bs.Nodup)(u:Can bs σ σc){s:gB}{x:bx U}(h:yp bs s x=some a):
 ∃y,(∀r,vM s (a++r)=(y,r))/\∀d,cr N σ x d->∃q,dQ (d.b8 bs) q/\cr bs.length σc y q:=by
 unfold yp at h;split at h
 . split at h
   rename_i c A;cases h;exact⟨.t c,λr=>rfl,λd g=>⟨_,(ab7 A g).1,.t c⟩⟩;grind
 . rename_i j o b v;split at h
   rename_i k;simp only[dh]at k;have:=c7 k.2;subst this;cases h;refine⟨.ptr j o,λr=>rfl,λd g=>⟨.ptr j o,?_,.ptr j o⟩⟩;cases g;simp only[C.b8,ns cd (wN k.1)];exact dQ.refl _;grind
 . rename_i j ty o b D i v;split at h
   rename_i k;simp only[dh]at k;have:=c7 k.2.1;subst this;have:=aL.beq_eq k.2.2;subst this;cases h;refine⟨.cW j ty i o,λr=>rfl,λd g=>⟨.cW j (ty.sz U) i o,?_,.cW j ty i o⟩⟩;cases g;simp only[C.b8,ns cd (wN k.1)];exact dQ.refl _;grind
 . rename_i ty o D x v;split at h
   . rename_i y B al;have:=c7 B;subst this;cases h;have e:=bL.ki al;cases e;refine⟨.dY ty y o,λr=>rfl,λd g=>⟨d,?_,?_⟩⟩
     cases g;exact dQ.refl _;cases g;exact .dY ty y o
   grind
 . rename_i j b;split at h
   . rename_i k;cases h;refine⟨.arr j,λr=>rfl,λd g=>?_⟩;cases g with
     |arr _ sz n z ad=>
      have l:=wN k;refine⟨.arr j sz 0 n,?_,.arr j sz n (ed.1 l).1 λx aa p ar=>?_⟩;simp only[C.b8,ns cd l];exact dQ.refl _;obtain⟨E,h1,w⟩:=u j b x l aa;grind
   grind
 . rename_i j b;split at h
   rename_i k;cases h;refine⟨.mp j,λr=>rfl,λd g=>?_⟩;cases g;refine⟨.mp j,?_,.mp j⟩;simp only[C.b8,ns cd (wN k)];exact dQ.refl _;grind
 . rename_i j b;split at h
   . rename_i k;cases h;refine⟨.cN j,λr=>rfl,λd g=>?_⟩;cases g with
     |cN _ n z ad=>
      have l:=wN k;refine⟨.cN j n,?_,.cN j n (ed.1 l).1 λx aa p ar=>?_⟩;simp only[C.b8,ns cd l];exact dQ.refl _;obtain⟨E,h1,w⟩:=u j b x l aa;grind
   grind
 cases h;exact⟨.bV,λr=>rfl,λd g=>by cases g;exact⟨.bV,dQ.refl _,.bV⟩⟩;cases h;exact⟨.fp,λr=>rfl,λd g=>by cases g;exact⟨.fp,dQ.refl _,.fp⟩⟩;cases h;exact⟨.fm,λr=>rfl,λd g=>by cases g;exact⟨.fm,dQ.refl _,.fm⟩⟩
 . rename_i f m F cs;split at h
   rename_i k;simp only[dh]at k;have:=c7 k.1;subst this;cases h;refine⟨.fn f m,λr=>rfl,λd g=>⟨.fn f m,?_,.fn f m⟩⟩;cases g;simp only[C.b8,Nh cd k.2];exact dQ.refl _;grind
 cases h;exact⟨.dead,λr=>rfl,λd g=>⟨.dead,dQ.dead _,.dead _⟩⟩;cases h
theorem Jn(cd:bs.Nodup)(e:Can bs σ σc):∀{ss:I gB} {xs:I (bx U)} {a:e2 U},qS bs ss xs=some a->
 ∃c,(∀r,yR ss (a++r)=(c,r))/\∀ds,bb (cr N σ) xs ds->∃b,bb dQ (ds.map (C.b8 bs)) b/\bb (cr bs.length σc) c b
 |[],[],a,h=>by simp[qS]at h;subst h;exact⟨[],λr=>rfl,λds d=>by cases d;exact⟨[],.nil,.nil⟩⟩
 |s::ss,x::xs,a,h=>by
  simp[qS]at h;split at h
  . rename_i a1 a2 h1 i;cases h;obtain⟨y,f1,g1⟩:=IT cd e h1;obtain⟨c,f2,g2⟩:=Jn cd e i;refine⟨y::c,λr=>by simp[yR,f1,f2],λds d=>?_⟩;cases d with
    |cons vO j=>
     obtain⟨f,aJ,g⟩:=g1 _ vO;obtain⟨b,c3,gH⟩:=g2 _ j;exact⟨f::b,.cons aJ c3,.cons g gH⟩
  grind
 |[],_::_,a,h=>by simp[qS]at h
 |_::_,[],a,h=>by grind[qS]
theorem Oc{n:Nat}{xs:I (bx U)}{x:(aL.nm n).den U.D}(h:qJ U (.nm n) xs=some x):∀ds,bb (cr N σ) xs ds->∃e,bb dQ (ds.map (C.b8 bs)) e/\bb (cr bs.length σc) (((aL.nm n).row U x).map .t) e:=by
 intro ds g;refine⟨((aL.nm n).bJ U x).map .t,?_,Ar⟩;unfold qJ at h;split at h
 . rename_i row a;rw[aL.vK,aL.GU h];clear h;generalize (aL.nm n).cells U=dx at a;induction xs generalizing dx row ds with
   |nil=>
    cases g;cases dx<;>simp[iM]at a;subst a;exact .nil
   |cons y i ih=>
    cases g with
    | @cons _ d _ ds h1 f=>
     cases dx with
     |nil=>grind[iM]
     |cons ty dx=>
      cases h1 with
      |t c=>cases ty<;>simp[iM]at a<;>(split at a<;>first|(cases a;done)|(rename_i q b;cases a;exact .cons (dQ.refl _) (ih _ f _ _ b)))
      |bV=>
       cases ty<;>simp[iM]at a;split at a;rename_i q b;cases a;exact .cons dQ.bV (ih _ f _ _ b);grind
      |_=>grind[iM]
 grind
mutual
theorem Gj(cd:bs.Nodup)(u:Can bs σ σc):∀{s:dy} {x:bP U} {a:e2 U},jX bs s x=some a->
 ∃y,(∀r,mr s (a++r)=(y,r))/\∀d,b7 N σ x d->∃j,gY (d.b8 bs) j/\b7 bs.length σc y j
 |.c s,.c x,a,h=>by
  simp only[jX]at h;obtain⟨y,f,g⟩:=IT (N:=N) cd u h;refine⟨.c y,λr=>by simp only[mr,f],λd e=>?_⟩;cases e with
  |c e=>obtain⟨j,aJ,p⟩:=g _ e;exact⟨.c j,.c aJ,.c p⟩
 |.agg l,.agg xs,a,h=>by
  simp only[jX]at h;obtain⟨y,f,g⟩:=Jn (N:=N) cd u h;refine⟨.agg y,λr=>by simp only[mr,f],λd e=>?_⟩;cases e with
  |agg e=>obtain⟨j,aJ,p⟩:=g _ e;exact⟨.agg j,.agg aJ,.agg p⟩
 |.row n,.agg xs,a,h=>by
  simp only[jX]at h;split at h
  . rename_i x aa;cases h;refine⟨.agg (((aL.nm n).row U x).map .t),λr=>rfl,λd e=>?_⟩;cases e with
    |agg e=>obtain⟨j,aJ,p⟩:=Oc aa _ e;exact⟨.agg j,.agg aJ,.agg p⟩
  cases h
 |.bf l,.bf xs,a,h=>by
  simp only[jX]at h;obtain⟨q,f,ak,g⟩:=vB cd u h;refine⟨.bf q,λr=>by simp only[mr,f],λd e=>?_⟩;cases e with
  |bf _ ds A e=>
   obtain⟨o,aJ,p,c3⟩:=g ds A e;refine⟨.bf o,.bf _ _ (by rw[Eo];exact aJ.symm) ?_,.bf _ _ (by omega) λi x d aa v=>(c3 i x d aa v)⟩;intro i x y aa al;rw[Ef,bF]at aa;grind
 |.c _,.agg _,a,h=>by simp[jX]at h
 |.c _,.bf _,a,h=>by simp[jX]at h
 |.agg _,.c _,a,h=>by simp[jX]at h
 |.agg _,.bf _,a,h=>by simp[jX]at h
 |.row _,.c _,a,h=>by simp[jX]at h
 |.row _,.bf _,a,h=>by simp[jX]at h
 |.bf _,.c _,a,h=>by simp[jX]at h
 |.bf _,.agg _,a,h=>by simp[jX]at h
theorem vB(cd:bs.Nodup)(u:Can bs σ σc):∀{ss:I dy} {xs:I (bP U)} {a:e2 U},mV bs ss xs=some a->
 ∃q:I (bP U),(∀r,ku ss (a++r)=(q,r))/\q.length=xs.length/\∀ds:I V,xs.length=ds.length->(∀(i:Nat) x d,xs[i]?=some x->ds[i]?=some d->b7 N σ x d)->
  ∃o:I V,o.length=ds.length/\(∀(i:Nat) (d j:V),ds[i]?=some d->o[i]?=some j->gY (d.b8 bs) j)/\(∀(i:Nat) y j,q[i]?=some y->o[i]?=some j->b7 bs.length σc y j)
 |[],[],a,h=>by simp[mV]at h;subst h;exact⟨[],λr=>rfl,rfl,λds ak e=>⟨[],by simpa using ak,by simp,by simp⟩⟩
 |s::ss,x::xs,a,h=>by
  simp only[mV]at h;split at h
  . rename_i a1 a2 h1 z;cases h;obtain⟨y,f1,g1⟩:=Gj cd u h1;obtain⟨q,f2,ak,g2⟩:=vB cd u z;refine⟨y::q,λr=>by simp only[ku,lL,f1,f2],by simp[ak],λds w e=>?_⟩;cases ds with
    |nil=>simp at w
    |cons d ds=>
     obtain⟨j,aJ,p⟩:=g1 d (e 0 x d rfl rfl);obtain⟨o,c3,gH,mq⟩:=g2 ds (by simpa using w) λi x d aa v=>e (i+1) x d (by simpa using aa) (by simpa using v);refine⟨j::o,by simp[c3],λi=>?_,λi=>?_⟩;grind;grind
  cases h
 |[],_::_,a,h=>by simp[mV]at h
 |_::_,[],a,h=>by simp[mV]at h
end
theorem I6:∀{ks:ba} {k:Nat} {g:J} {v:V},k∈ks->look env1 k=some (g,v)->look (ox bs env1 ks) k=some (g,v.b8 bs)
 |x::ks,k,g,v,b,ak=>by
  simp[ox];by_cases h:x=k;grind[look]
  . have a:k∈ks:=(by grind);split
    simp[look,au h];exact I6 a ak;exact I6 a ak
theorem Ni(cd:bs.Nodup)(f:Can bs σ σc)(he:c6 N σ (λ_=>true) env env1):∀{ss:I (Nat×dy)} {a:e2 U},yq bs env ss=some a->
 ∃e,(∀r,CJ ss (a++r)=(e,r))/\∃c:Env,c6 bs.length σc (λ_=>true) e c/\∀k g j,look c k=some (g,j)->k∈ss.map Prod.fst/\∃v,look env1 k=some (g,v)/\gY (v.b8 bs) j
 |[],a,h=>by simp[yq]at h;subst h;exact⟨[],λr=>rfl,[],λk v p=>by grind[a8],λk g v h=>by grind[look]⟩
 |(k,s)::ss,a,h=>by
  simp[yq]at h;split at h
  . rename_i x aa;split at h
    . rename_i a1 a2 h1 m;cases h;obtain⟨y,f1,g1⟩:=Gj cd f h1;obtain⟨e,f2,c,aJ,o⟩:=Ni cd f he m;obtain⟨d,k1,k2⟩:=he k x aa;obtain⟨l,q,t⟩:=g1 d k2;refine⟨(k,y)::e,λr=>by simp[CJ,f1,f2],(k,true,l)::c,λi v b=>?_,λi g v b=>?_⟩
      . simp[a8]at b;simp[look];split at b
        simp_all;rename_i n;rw[au (ib n)];exact aJ i v b
      simp[look]at b;grind
    cases h
  grind
theorem IU(cd:bs.Nodup)(k:Can bs σ σc){s:dL}{x:c1 U}(h:pj bs s x=some a):
 ∃y,(∀r,jY s (a++r)=(some y,r))/\(∀d,h8 N σ x d->∃i,kJ (d.b8 bs) i/\h8 bs.length σc y i):=by
 unfold pj at h;split at h
 . obtain⟨n,f,g⟩:=Jn cd k h;refine⟨.box n,λr=>by grind[jY],λd b=>?_⟩;cases b with
   |box b=>obtain⟨j,aJ,c⟩:=g _ b;exact⟨.box _,.box aJ,.box c⟩
 . rename_i ty t p;split at h
   rename_i l ak;cases h;have e:=bL.ki ak;cases e;refine⟨.arr ty l,λr=>rfl,λd b=>?_⟩;cases b;exact⟨_,.arr,.arr ty l⟩;grind
 . rename_i ty sz r;split at h
   . rename_i l m ak;cases h;have:=c7 m;subst this;refine⟨.arr ty l,λr=>rfl,λd b=>?_⟩;cases b with
     |rows h1 o=>
      refine⟨_,.arr,?_⟩;rw[<-wY ak h1];exact .arr ty l
   grind
 . split at h
   . rename_i x aa;cases h;refine⟨.box _,λr=>rfl,λd b=>?_⟩;cases b with
     |box b=>obtain⟨j,aJ,c⟩:=Oc aa _ b;exact⟨.box j,.box aJ,.box c⟩
   grind
 cases h;refine⟨.set _,λr=>rfl,λd b=>?_⟩;cases b;exact⟨_,.same,.set _⟩
 . split at h
   rename_i er;have:=c7 er;subst this;cases h;refine⟨.buf _ _,λr=>rfl,λd b=>?_⟩;cases b;exact⟨_,.same,.buf _ _⟩;grind
 . split at h
   . rename_i er;have:=c7 er;subst this;obtain⟨y,f,g⟩:=IT cd k h;refine⟨.cm _ y,λr=>by simp[jY,f];rfl,λd b=>?_⟩;cases b with
     |cm b=>obtain⟨i,aJ,c⟩:=g _ b;exact⟨.cm _ i,.cm aJ,.cm c⟩
   grind
 grind
theorem MC{t:aL}:∀{r:I (I (bx U))} {l:I (t.den U.D)},mJ U t r=some l->l.length=r.length
 |[],l,h=>by grind[mJ]
 |r::b,l,h=>by
  simp[mJ]at h;split at h;rename_i x xs aa a;cases h;simp[MC a];grind
theorem afF{s:dL}{x y:c1 U}{r:e2 U}(h:pj bs s x=some a)(b:jY s (a++r)=(some y,r)):∀p,y.dq=some p->x.dq=some p:=by
 unfold pj at h;split at h;grind[jY,c1.dq]
 . split at h
   rename_i l ak;have e:=bL.ki ak;simp only[jY,xA,jE,xq]at b;grind;grind
 . split at h
   rename_i l c ak;have:=c7 c;subst this;simp only[jY,xA,jE,xq]at b;grind[c1.dq,MC];grind
 . split at h
   cases h;intro p ar;simp only[jY,xA,jE,eg,dW,xq]at b;grind[c1.dq];grind
 simp only[jY,xA,jE,eg,dW,xq]at b;grind
 . split at h
   rename_i er;have:=c7 er;simp only[jY,xA,jE,eg,dW,xq]at b;grind;grind
 grind[jY,c1.dq];grind
theorem pS(cd:bs.Nodup):∀{ss:I dL} {j:Nat} {a:e2 U},i' bs σ j ss=some a->
 (∀i c,a8 (hL j ss a) i=some c->j<=i/\i<j+ss.length/\∃b x,bs[i]?=some b/\a8 σ b=some x/\∃s d,pj bs s x=some d/\∀r,jY s (d++r)=(some c,r))
 |[],j,a,h=>by grind[hL,a8]
 |.gone::ss,j,a,h=>by
  intro i c e;simp only[i']at h;obtain⟨h1,g,m⟩:=pS cd h i c e;grind
 |.box l::ss,j,a,h=>vA cd (λ{j a}=>pS cd) (by simpa only[i']using h)
 |.arr l::ss,j,a,h=>vA cd (λ{j a}=>pS cd (a:=a)) (by simpa only[i']using h)
 |.bk l::ss,j,a,h=>vA cd (λ{j a}=>pS cd (ss:=ss) (j:=j) (a:=a)) (by simpa only[i']using h)
 |.set::ss,j,a,h=>vA cd (λ{j a}=>pS cd (ss:=ss) (j:=j) (a:=a)) (by simpa only[i']using h)
 |.buf E::ss,j,a,h=>vA cd (λ{j a}=>pS cd (ss:=ss) (j:=j) (a:=a)) (by simpa only[i']using h)
 |.cm E l::ss,j,a,h=>vA cd (λ{j a}=>pS cd (ss:=ss) (j:=j) (a:=a)) (by grind[i'])
where
 vA (cd:bs.Nodup) {s:dL} {ss:I dL} (ih:∀{j:Nat} {a:e2 U},i' bs σ j ss=some a->
  (∀i c,a8 (hL j ss a) i=some c->j<=i/\i<j+ss.length/\∃b x,bs[i]?=some b/\a8 σ b=some x/\∃s d,pj bs s x=some d/\∀r,jY s (d++r)=(some c,r))) {j:Nat} {a:e2 U} (h:(match q0 bs j with
  |some b=>match a8 σ b with
   |some x=>match pj bs s x,i' bs σ (j+1) ss with
    |some a,some r=>some (a++r)
    |_,_=>none
   |none=>none
  |none=>none)=some a):(∀i c,a8 (hL j (s::ss) a) i=some c->j<=i/\i<j+(s::ss).length/\∃b x,bs[i]?=some b/\a8 σ b=some x/\∃s d,pj bs s x=some d/\∀r,jY s (d++r)=(some c,r)):=by
  intro i c e;split at h
  . rename_i b k;rw[Fy]at k;split at h
    . split at h
      rename_i a1 a2 h1 g;cases h;obtain⟨y,f,_⟩:=IU (N:=0) (σ:=σ) (σc:=[]) cd (λ_ _ _ _ h=>by simp[a8]at h) h1;simp only[hL,f,a8]at e;grind[c7];cases h
    cases h
  cases h
def fN(U:cM)(sh:Shape)(a:e2 U):b3 U×bl U:=
 match CJ sh.env a with
 |(e,r)=>(e,hL 0 sh.st r)
def Gi(bs:ba)(sh:Shape)(env:b3 U)(σ:bl U):ag (e2 U):=
 match yq bs env sh.env,i' bs σ 0 sh.st with
 |some a,some b=>some (a++b)
 |_,_=>none
theorem BK(cd:bs.Nodup){b:e2 U}(g:i' bs σ 0 ss=some b):Can bs σ (hL 0 ss b):=by
 intro j c k a i;obtain⟨_,_,m,x,h1,d,s,l,e,f⟩:=pS cd g j k i;rw[h1]at a;cases a;exact⟨x,d,afF e (f [])⟩
theorem AT:∀{r:ba} {i j c:Nat} {x:b9},r[j]?=some c->aV σ1 c=some x->aV (fV bs σ1 i r) (i+j)=some (x.b8 bs)
 |[],i,j,c,x,h,_=>by grind
 |b::r,i,0,c,x,h,aa=>by
  grind[fV,aV]
 |b::r,i,j+1,c,x,h,aa=>by
  simp[fV];have:=AT (i:=i+1) (j:=j) (r:=r) (by grind) aa;grind[aV]
theorem EO(cd:bs.Nodup)(aG:cB N σ σ1){b:e2 U}(o:i' bs σ 0 ss=some b):
 ∃bz,sU (fV bs σ1 0 bs) bz/\cB bs.length (hL 0 ss b) bz:=by
 have E:=BK cd o;have aa:=pS cd o;generalize hL 0 ss b=σc at*;have key:∀(l:bl U),(∀i a,a8 l i=some a->a8 σc i=some a)->∃bz:bg,(∀i x,aV bz i=some x->∃y,aV (fV bs σ1 0 bs) i=some y/\kJ y x)/\(∀i a,a8 l i=some a->i<bs.length/\∃y,aV bz i=some y/\h8 bs.length σc a y):=by
  intro l;induction l with
  |nil=>intro _;exact⟨[],λi x h=>by grind[aV],λi x h=>by grind[a8]⟩
  |cons p l ih=>
   obtain⟨d,t⟩:=p;intro ak;have:=by
    have aux:∀(m:bl U),(∀i a,i≠d->a8 m i=some a->a8 σc i=some a)->∃bz:bg,(∀i x,aV bz i=some x->∃y,aV (fV bs σ1 0 bs) i=some y/\kJ y x)/\(∀i a,i≠d->a8 m i=some a->i<bs.length/\∃y,aV bz i=some y/\h8 bs.length σc a y):=by
     intro m P;have J:∀i a,a8 (dl m d) i=some a->a8 σc i=some a:=by
      intro i a h;rw[nD]at h;grind
     have build:∀n,∃bz:bg,(∀i x,aV bz i=some x->∃y,aV (fV bs σ1 0 bs) i=some y/\kJ y x)/\(∀i a,i<n->a8 (dl m d) i=some a->i<bs.length/\∃y,aV bz i=some y/\h8 bs.length σc a y):=by
      intro n;induction n with
      |zero=>exact⟨[],λi x h=>by grind[aV],λi x h=>by omega⟩
      |succ n L=>
       obtain⟨s,h1,g⟩:=L;cases aI:a8 (dl m d) n with
       |none=>exact⟨s,h1,λi a k c=>g i a (by grind) c⟩
       |some D=>
        obtain⟨_,_,u,x,g1,g2,O,H,g3,g4⟩:=aa n D (J n D aI);obtain⟨_,y,k1,k2⟩:=aG u x g2;obtain⟨z,f,q⟩:=IU (N:=N) cd E g3;have:z=D:=(by simp_all);subst this;obtain⟨r,M,w⟩:=q y k2;have ht:=AT (bs:=bs) (i:=0) (j:=n) g1 k1;refine⟨dn s n r,λi x k=>?_,λi a k c=>?_⟩;grind[c9]
        . by_cases e:i=n
          subst e;rw[aI]at c;cases c;exact⟨(ed.1 g1).1,r,by rw[c9,ah rfl],w⟩;obtain⟨A,z,B,C⟩:=g i a (by omega) c;exact⟨A,z,by rw[c9,au (λv=>e v.symm)];exact B,C⟩
     obtain⟨s,h1,g⟩:=build bs.length;refine⟨s,h1,λi a G c=>?_⟩;have F:a8 (dl m d) i=some a:=by rw[nD,au (λe=>G e.symm)];exact c
     grind
    exact aux l λi a G h=>ak i a (by
     grind[a8,c7])
   obtain⟨s,h1,g⟩:=this;have K:a8 σc d=some t:=ak d t (by simp[a8,Nat.beq_refl]);obtain⟨_,_,u,x,g1,g2,O,H,g3,g4⟩:=aa d t K;obtain⟨_,y,k1,k2⟩:=aG u x g2;obtain⟨z,f,q⟩:=IU (N:=N) cd E g3;have:z=t:=(by simp_all);subst this;obtain⟨r,M,w⟩:=q y k2;have ht:=AT (bs:=bs) (i:=0) (j:=d) g1 k1;refine⟨dn s d r,λi x k=>?_,λi a c=>?_⟩;rw[c9]at k;grind
   . by_cases e:i=d
     subst e;simp[a8,Nat.beq_refl]at c;subst c;exact⟨(ed.1 g1).1,r,by rw[c9,ah rfl],w⟩
     . have F:a8 l i=some a:=by
        simp only[a8]at c;cases o:Nat.beq d i with
        |true=>exact absurd (c7 o).symm e
        |false=>rw[o]at c;exact c
       obtain⟨A,z,B,C⟩:=g i a e F;exact⟨A,z,by rw[c9,au (λv=>e v.symm)];exact B,C⟩
 obtain⟨s,h1,g⟩:=key σc λ_ _ h=>h;exact⟨s,λi x k=>h1 i x k,λi a c=>g i a c⟩
theorem aej(cd:bs.Nodup)(j:keeps kk bs)(he:c6 N σ (λ_=>true) env env1)(aG:cB N σ σ1){sh:Shape}(h:Gi bs sh env σ=some a):
 ∃c bz,Conv kk N env1 σ1 bs.length c bz/\c6 bs.length (fN U sh a).2 (λ_=>true) (fN U sh a).1 c/\cB bs.length (fN U sh a).2 bz:=by
 unfold Gi at h;split at h;rename_i a1 b h1 d;cases h;obtain⟨e,f,c,aJ,m⟩:=Ni cd (BK cd d) he h1;obtain⟨bz,s1,l⟩:=EO cd aG d;have i:fN U sh (a1++b)=(e,hL 0 sh.st b):=(by grind[fN]);rw[i];refine⟨c,bz,(Conv.tidy (sh.env.map Prod.fst) bs cd j).trans (Conv.weaken (λk g n ak=>?_) s1),aJ,l⟩;grind[I6];grind
end
end
section
open Go
variable {U:cM}
def fC(D:Nat->Type):aL->I aL->Type
 |t,[]=>t.den D
 |t,u::r=>t.den D×fC D u r
def a6(D:Nat->Type):I aL->Type
 |[]=>Unit
 |t::r=>fC D t r
def fC.cells(D:Nat->Type):(t:aL)->(ts:I aL)->fC D t ts->I (bL D)
 |t,[],x=>[⟨t,x⟩]
 |t,u::r,x=>⟨t,x.1⟩::fC.cells D u r x.2
def a6.cells(D:Nat->Type):(ts:I aL)->a6 D ts->I (bL D)
 |[],_=>[]
 |t::r,x=>fC.cells D t r x
def GQ{α:Type}:I α->ag α
 |[c]=>some c
 |_=>none
def vO{α:Type}:I α->ag (α×I α)
 |[]=>none
 |c::r=>some (c,r)
def fC.dec(D:Nat->Type):(t:aL)->(ts:I aL)->I (bL D)->ag (fC D t ts)
 |t,[],l=>match GQ l with
  |some c=>c.as t
  |none=>none
 |t,u::r,l=>match vO l with
  |some p=>match p.1.as t with
   |some x=>match fC.dec D u r p.2 with
    |some y=>some (x,y)
    |none=>none
   |none=>none
  |none=>none
def a6.dec(D:Nat->Type):(ts:I aL)->I (bL D)->ag (a6 D ts)
 |[],l=>match l with
  |[]=>some ()
  |_=>none
 |t::r,l=>fC.dec D t r l
variable{α:Type}{D:Nat->Type}{N:Nat}{σ:bl U}
theorem ab8{l:I α}{c:α}(h:GQ l=some c):l=[c]:=by
 unfold GQ at h;grind
theorem afG{l:I α}{c:α×I α}(h:vO l=some c):l=c.1::c.2:=by
 unfold vO at h;grind
theorem fC.mX:∀{ts:I aL} {t:aL} {a:I (bL D)} {h:fC D t ts},fC.dec D t ts a=some h->fC.cells D t ts h=a
 |[],t,a,h,e=>by
  unfold fC.dec at e;split at e;rename_i c f;rw[ab8 f,bL.ki e];rfl;grind
 |u::r,t,a,h,e=>by
  unfold fC.dec at e;split at e
  . split at e
    . rename_i x aa;split at e
      rename_i y al;cases e;have:=fC.mX al;show⟨t,x⟩::fC.cells D u r y=a;grind[afG,bL.ki];grind
    grind
  grind
theorem a6.mX:∀{ts:I aL} {a:I (bL D)} {h:a6 D ts},a6.dec D ts a=some h->a6.cells D ts h=a
 |[],[],h,e=>rfl
 |[],_::_,h,e=>by cases (show none=some h from e)
 |t::r,a,h,e=>fC.mX e
def fC.mY(U:cM):(t:aL)->(ts:I aL)->fC U.D t ts
 |t,[]=>t.mY U
 |t,u::r=>(t.mY U,fC.mY U u r)
def a6.mY(U:cM):(ts:I aL)->a6 U.D ts
 |[]=>()
 |t::r=>fC.mY U t r
abbrev kg:=I (Nat×Nat)×I (Nat×aL)
def Hx:gB->bx U->kg->kg
 |.ptr j _,.ptr b _,s=>((j,b)::s.1,s.2)
 |.cW j _ _,.cW b _ _ _,s=>((j,b)::s.1,s.2)
 |.arr j,.arr b,s=>((j,b)::s.1,s.2)
 |.mp j,.mp b,s=>((j,b)::s.1,s.2)
 |.cN j,.cN b,s=>((j,b)::s.1,s.2)
 |.fn _ a,.fn _ cs,s=>(a.zip cs++s.1,s.2)
 |.hole (.slice t),.arr b,s=>(s.1,(b,t)::s.2)
 |_,_,s=>s
def Hy:I gB->I (bx U)->kg->kg
 |a::as,x::xs,s=>Hy as xs (Hx a x s)
 |_,_,s=>s
def DI:I aL->I (bx U)->kg->kg
 |.slice t::ts,.arr b::xs,s=>DI ts xs (s.1,(b,t)::s.2)
 |_::ts,_::xs,s=>DI ts xs s
 |_,_,s=>s
mutual
def HA:dy->bP U->kg->kg
 |.c a,.c x,s=>Hx a x s
 |.agg l,.agg xs,s=>Hy l xs s
 |.row n,.agg xs,s=>DI (U.dx n) xs s
 |.bf l,.bf xs,s=>DJ l xs s
 |_,_,s=>s
def DJ:I dy->I (bP U)->kg->kg
 |a::as,x::xs,s=>DJ as xs (HA a x s)
 |_,_,s=>s
end
def Hz(env:b3 U):I (Nat×dy)->kg->kg
 |[],s=>s
 |(k,a)::r,s=>match a8 env k with
  |some x=>Hz env r (HA a x s)
  |none=>Hz env r s
def akl:dL->c1 U->kg->kg
 |.box l,.box xs,s=>Hy l xs s
 |.bk n,.box xs,s=>DI (U.dx n) xs s
 |.cm _ a,.cm _ x,s=>Hx a x s
 |_,_,s=>s
def xT(σ:bl U)(kk:Nat):Nat->I dL->kg->ba->ba×I (Nat×aL)
 |_,[],s,acc=>(acc.reverse,s.2)
 |j,a::r,s,acc=>
  let b:=match a8 s.1 j with
   |some b=>b
   |none=>match Nat.ble (j+1) kk with
    |true=>j
    |false=>1000000+j
  match a8 σ b with
  |some x=>xT σ kk (j+1) r (akl a x s) (b::acc)
  |none=>xT σ kk (j+1) r s (b::acc)
def tU:ba->J
 |[]=>true
 |a::l=>(l.all λb=>!(Nat.beq a b))&&tU l
theorem AU:∀{l:ba},tU l->l.Nodup
 |[],_=>xm
 |a::l,h=>by
  simp[tU]at h;refine List.nodup_cons.2 ⟨λb=>?_,AU h.2⟩;have c:=h.1 a b;simp_all
def nP(kk:Nat)(own:I (Pos×aL))(sh:Shape)(ts:I aL)(env:b3 U)(σ:bl U)(N:Nat):ag (a6 U.D ts):=
 match FR own env σ N with
 |none=>none
 |some (env,σ,_)=>match Kx env σ with
  |none=>none
  |some (env,σ)=>match xT σ kk 0 sh.st (Hz env sh.env ([],[])) []with
   |(bs,b)=>match kH b env σ with
    |none=>none
    |some (env,σ)=>match tU bs&&(keeps kk bs&&Nat.beq bs.length sh.st.length)with
     |false=>none
     |true=>match Gi bs sh env σ with
      |none=>none
      |some a=>a6.dec U.D ts a
section
variable {kk N:Nat}{σ:bl U}{σ1:bg}{env:b3 U}{env1:Env}
theorem w7{own:I (Pos×aL)}{sh:Shape}{ts:I aL}{h:a6 U.D ts}(aa:nP kk own sh ts env σ N=some h)(he:c6 N σ (λ_=>true) env env1)(aG:cB N σ σ1)(x:kk<=N):
 ∃b bz,Conv kk N env1 σ1 sh.st.length b bz/\c6 sh.st.length (fN U sh (a6.cells U.D ts h)).2 (λ_=>true) (fN U sh (a6.cells U.D ts h)).1 b/\cB sh.st.length (fN U sh (a6.cells U.D ts h)).2 bz/\kk<=sh.st.length:=by
 unfold nP at aa;split at aa;grind
 . rename_i C σ2 A h1;obtain⟨dp,nJ,d,t,k,ec⟩:=Ng h1 he aG x;split at aa
   grind;rename_i E L s;obtain⟨aJ,s1,f,u,l⟩:=abV s t k;have e:=d.trans f;split at aa;rename_i bs G _;split at aa;grind
   . rename_i F M j;obtain⟨B,K,g,v,m,_⟩:=xh (kk:=kk) (gl:=[]) j u l;split at aa
     grind
     . rename_i c;simp only[dh]at c;obtain⟨p,q,r⟩:=c;have y:=c7 r;split at aa
       grind
       . rename_i a o;obtain⟨c3,z,i,w,n⟩:=aej (AU p) q v m o;rw[a6.mX aa,<-y];refine⟨c3,z,e.trans (g.trans i),w,n,?_⟩;by_cases H:kk=0
         omega
         . have J:(bs[kk-1]?==some (kk-1)):=by
            grind[keeps]
           grind
end
structure cP (U:cM) where
 f:Nat
 fJ:List dy
 st:List dL
 ts:List aL
 e1:dy
 eT:List dL
 us:List aL
 F:a6 U.D ts->Option (a6 U.D us)
def cP.args(s:cP U)(h:a6 U.D s.ts):I (bP U):=(ku s.fJ (a6.cells U.D s.ts h)).1
def cP.iL(s:cP U)(h:a6 U.D s.ts):bl U:=hL 0 s.st (ku s.fJ (a6.cells U.D s.ts h)).2
def cP.res(s:cP U)(r:a6 U.D s.us):bP U:=(mr s.e1 (a6.cells U.D s.us r)).1
def cP.rest(s:cP U)(r:a6 U.D s.us):bl U:=hL 0 s.eT (mr s.e1 (a6.cells U.D s.us r)).2
def hU(P:Program)(s:cP U):Prop:=
 ∀h r,s.F h=some r->∀a σ1,bb (b7 s.st.length (s.iL h)) (s.args h) a->cB s.st.length (s.iL h) σ1->
  eo P s.f a σ1 s.st.length (λb bz N'=>N'=s.eT.length/\b7 N' (s.rest r) (s.res r) b/\cB N' (s.rest r) bz)
def bx.sF:bx U->J
 |.t _|.dY .. |.bV|.fp|.fm=>true
 |.fn _ []=>true
 |_=>false
def hb:bP U->J
 |.c x=>x.sF
 |.agg cs=>cs.all bx.sF
 |.bf vs=>go vs
where go:I (bP U)->J
 |[]=>true
 |v::vs=>hb v&&go vs
def bx.pn:bx U->C
 |.t c=>.t (c.bJ U)
 |.dY ty x o=>.dY (ty.bJ U x) o
 |.bV=>.bV
 |.fp=>.fp
 |.fm=>.fm
 |.fn f caps=>.fn f caps
 |_=>.dead
def fW:bP U->V
 |.c x=>.c x.pn
 |.agg cs=>.agg (cs.map bx.pn)
 |.bf vs=>.bf (go vs)
where go:I (bP U)->I V
 |[]=>[]
 |v::vs=>fW v::go vs
theorem AM{x:bx U}(h:x.sF):cr N σ x x.pn/\(∀d,cr N σ x d->d=x.pn)/\∀n,x.pn.aK n=true:=by
 cases x<;>simp[bx.sF]at h;exact⟨.t _,λd a=>by cases a;rfl,λ_=>rfl⟩;exact⟨.dY _ _ _,λd a=>by cases a;rfl,λ_=>rfl⟩;exact⟨.bV,λd a=>by cases a;rfl,λ_=>rfl⟩;exact⟨.fp,λd a=>by cases a;rfl,λ_=>rfl⟩;exact⟨.fm,λd a=>by cases a;rfl,λ_=>rfl⟩
 . rename_i f caps;cases caps with
   |nil=>exact⟨.fn _ _,λd a=>by cases a;rfl,λ_=>rfl⟩
   |cons=>grind
theorem Jq:∀{vs:I (bP U)} {i:Nat},(fW.go vs)[i]?=(vs[i]?).map fW
 |[],i=>by rfl
 |v::vs,0=>by rfl
 |v::vs,i+1=>by simp[fW.go,Jq]
theorem LG:∀{vs:I (bP U)},(fW.go vs).length=vs.length
 |[]=>rfl
 |v::vs=>by simp[fW.go,LG]
theorem KR:∀{vs:I (bP U)} {i:Nat} {v:bP U},hb.go vs->vs[i]?=some v->hb v=true
 |[],i,v,_,h=>by grind
 |x::vs,0,v,hs,h=>by grind[hb.go]
 |x::vs,i+1,v,hs,h=>by simp[hb.go]at hs;exact KR hs.2 (by simpa using h)
theorem aux:∀(cs:I (bx U)),(∀x,x∈cs->x.sF)->bb (cr N σ) cs (cs.map bx.pn)
 |[],_=>.nil
 |a::l,h=>.cons (AM (h a (by simp))).1 (aux l λx aa=>h x (by grind))
theorem w0{N:Nat}{σ:bl U}:∀{x:bP U},hb x->b7 N σ x (fW x)/\∀n,(fW x).aK n=true
 |.c x,h=>by
  obtain⟨h1,_,a⟩:=AM h;exact⟨.c h1,λn=>a n⟩
 |.agg cs,h=>by
  simp[hb]at h;refine⟨.agg ?_,λn=>?_⟩;grind[aux];simp[fW,V.aK];intro c b;exact(AM (N:=N) (σ:=σ) (h c b)).2.2 n
 |.bf vs,h=>by
  have:=go (N:=N) (σ:=σ) vs h;refine⟨.bf _ _ (by rw[LG]) λi x d aa g=>?_,λn=>?_⟩;grind[Jq];grind[fW,V.aK]
where go {N:Nat} {σ:bl U}:∀(vs:I _),hb.go vs->(∀x,x∈vs->b7 N σ x (fW x))/\∀n,V.aK.V.dI n (fW.go vs)=true
 |[],_=>⟨by simp,λ_=>rfl⟩
 |v::vs,h=>by
  simp[hb.go,dh]at h;obtain⟨h1,e⟩:=w0 (N:=N) (σ:=σ) h.1;obtain⟨a,f⟩:=go (N:=N) (σ:=σ) vs h.2;simp_all[fW.go,V.aK.V.dI]
theorem AN{x:bP U}{d:V}(h:b7 N σ x d):hb x->d=fW x:=by
 induction h with
 |c h=>intro hs;rw[(AM hs).2.1 _ h];rfl
 | @agg xs ds h=>
  intro hs;simp[hb]at hs;congr 1
  induction h with
  |nil=>rfl
  |cons h1 b ih=>rw[mB,<-(AM (hs _ (by simp))).2.1 _ h1,<-ih (λx aa=>hs x (by grind))]
 |bf xs ds ak h ih=>
  intro hs;congr 1
  apply xz;intro i;rw[Jq];cases aa:xs[i]? with
  |none=>grind
  |some x=>
   have e:=(ed.1 aa).1;have a:=e0 (l:=ds) (i:=i) (by omega);rw[a];congr 1;exact ih i x _ aa a (KR hs aa)
end
section
open Go
variable {U:cM}
variable{K:Env->bg->Prop}{f:Nat->Nat}
section
variable {P:Program}{nt kk key N N':Nat}{env:Env}{σ σ':bg}{Q nV:Exit->Env->bg->Nat->Prop}
def RK(P:Program)(f:Nat)(args:I V)(σ:bg)(key:Nat)(env:Env)(K:V->bg->Prop):Prop:=
 ∀aA nt φ S a w,Rel aA nt φ S env σ (lt key) a w->V.aK.V.dI (lt key) args->∀vs:I Value,bb (cc φ w S) args vs->
  Calls P f vs.toArray w λe w'=>∃v r bq bu σ',e= .returned v/\K r σ'/\cc bq w' bu r v/\r.aK (eK (lt key) key)/\Rel aA nt bq bu env σ' (eK (lt key) key) a w'
def ahx(P:Program)(o:cf)(env:Env)(f:Nat)(vs:I V):Prop:=
 (∃args p,o.op= .call f args/\h2 env args=some (p,vs)/\p)\/
 (∃x args q p caps a,o.op= .iv x args/\x.get env=some (q,.c (.fn f caps))/\q/\h2 env args=some (p,a)/\p/\hE P f/\vs=a++caps.map λb=>V.c (.ptr b 0))
def ys(P:Program)(o:cf)(key:Nat)(env:Env)(σ:bg)(K:Env->bg->Prop):Prop:=
 hB P o key env σ K\/(gu env o.guard=some true/\∃f vs,ahx P o env f vs/\RK P f vs σ key env λr σ'=>K (eB env o.dst true r) σ')
def nY(P:Program)(kk:Nat):I cf->Nat->Env->bg->(Env->bg->Prop)->Prop
 |[],_,env,σ,K=>K env σ
 |o::r,key,env,σ,K=>∃fF a,Conv kk key env σ key fF a/\ys P o key fF a λe s=>nY P kk r (key+16) e s K
theorem Jr{aA:Ctx}{φ:dk}{S:dm}{a:Act}{w:World}(R:Rel aA nt φ S env σ (lt key) a w){ops:Array Oper}{o:Oper}{r:cf}(A:w5 P nt ops o=some r)(h:ys P r key env σ K){Q:Exit->Act->World->Prop}:
 if Region.wanted o (yielded ops a.tmps)then o.wp P a w (jN aA nt (eK (lt key) key) K) Q else jN aA nt (eK (lt key) key) K (a.put o.dst undef) w:=by
 rcases h with h|⟨av,f,vs,G,y⟩;exact Ee R (λb h1 _=>Ax h1) A h
 . obtain⟨h1,d,s,u⟩:=Lp A;have M:=Mq R d av;rw[M];rcases G with⟨args,p,m,l,ar⟩|⟨x,args,q,p,caps,E,m,J,L,l,ar,g,rfl⟩
   rw[m]at h1;obtain⟨c,j,n⟩:=Li (Ak h1 (by simp));obtain⟨k,g,e⟩:=Lj n;have B:=ui (w:=w) (a:=a) j k rfl g;simp at B;obtain⟨g1,g2⟩:=rA R e l ar;exact Calls.next s u rfl (λ_ _ h=>h) (y aA nt φ S a w R g2 _ g1) B
   . rw[m]at h1;obtain⟨c,j,n⟩:=WX (Ak h1 (by simp));obtain⟨t,rfl,k,e⟩:=WY n;obtain⟨g1,g2⟩:=rA R e l ar;have aa:=cI (x:= .tmp t) R rfl J L;have N:=aa.1.ea;have H:bb (cc φ w S) (caps.map λb=>V.c (.ptr b 0)) (caps.map λb=>Value.pointer (some ⟨(φ b).1,0,none⟩)):=by
      refine bb.lO (by simp) ?_;intro i v x h1 d;simp at h1 d;obtain⟨b,F,rfl⟩:=h1;obtain⟨O,z,rfl⟩:=d;rw[F]at z;cases z;exact .c rfl
     have I:V.aK.V.dI (lt key) (E++caps.map λb=>V.c (.ptr b 0)):=by
      refine tY ?_;intro i v D;by_cases T:i<E.length
      grind[nn];rw[zG (by omega)]at D;simp only[qu,bF]at D;grind[V.aK,C.aK]
     exact Calls.next s u rfl (λ_ _ h=>h) (y aA nt φ S a w R I _ (g1.append H)) (ui j k N g)
theorem Nj{aA:Ctx}(g:aA.k=kk){ops:Array Oper}{Q:Exit->Act->World->Prop}{K:Env->bg->Nat->Prop}:∀{l:I Oper} {bd:I cf} {k N:Nat} {env:Env} {σ:bg} {φ:dk} {S:dm} {a:Act} {w:World},hh P nt ops l=some bd->(∀i:Nat,i<l.length->l[i]?=ops[k+i]?)->
 Rel aA nt φ S env σ (lt N) a w->nY P kk bd N env σ (λe s=>K e s (N+16*bd.length))->(∀φ S e s N a w,K e s N->Rel aA nt φ S e s (lt N) a w->Q .normal a w)->wpOps P ops Q (List.range' k l.length) a w
 |[],bd,k,N,env,σ,φ,S,a,w,b,f,R,h,d=>by
  simp[hh]at b;subst b;exact d _ _ _ _ _ _ _ h R
 |o::l,bd,k,N,env,σ,φ,S,a,w,b,f,R,h,d=>by
  simp[hh,bw,bF]at b;obtain⟨q,m,c,n,rfl⟩:=b;have r:ops[k]?=some o:=by have:=f 0 (by simp);grind
  rw[lg,zv,wpOps_cons];unfold wpOp;obtain⟨fF,u,p,t⟩:=h;obtain⟨v,yi,j⟩:=p aA nt φ S a w g R;have hs:=Jr j m (K:=λe s=>nY P kk _ _ e s λe s=>K e s (N+16*(c.length+1))) (by omega) (Q:=Q);have next:∀ca w',jN aA nt (eK (lt N) N) (λe s=>nY P kk c (N+16) e s λe s=>K e s (N+16*(c.length+1))) ca w'->wpOps P ops Q (List.range' (k+1) l.length) ca w':=by
   rintro ca w' ⟨bq,bu,e,s,bW,R'⟩
   refine Nj g n (λi aD=>?_) (R'.more λ_ h=>FH h) ?_ d
   have:=f (i+1) (by grind);grind;grind
  split at hs;grind[Oper.wp_mono];grind
theorem cH.ake{bd:I cf}(h:nY P kk bd N env σ (λe s=>Q .normal e s (N+16*bd.length))):cH P nt kk (.region bd) env σ N Q:=by
 intro o f aA φ S a w g R;obtain⟨id,ops,rfl,j⟩:=LD f;refine wp_region ?_;have:=Nj g (Q:=λe ca w'=>∃bq bu env' σ' N',Q e env' σ' N'/\Rel aA nt bq bu env' σ' (lt N') ca w') (k:=0) j (λi p=>by simp) R h
  (λφ S e s N a w bW c=>⟨φ,S,e,s,N,bW,c⟩)
 grind[List.range_eq_range']
theorem eo.conv{f k:Nat}{args o:I V}{Q:V->bg->Nat->Prop}(q:bb gY args o)(hs:sU σ σ')(h:eo P f o σ' k Q):eo P f args σ k Q:=by
 intro φ S w B j t E u vs A;refine h φ S w B ⟨λb x aa=>?_,λb p x y aa al=>?_,j.st⟩ (λb x aa=>?_) (λb x aa=>?_) ?_ vs ?_
 obtain⟨g,h1,e⟩:=hs b x aa;exact e.Hs (j.blk b g h1);obtain⟨g,h1,e⟩:=hs b x aa;obtain⟨D,k1,k2⟩:=hs p y al;exact j.inj b p g D h1 k1;obtain⟨g,h1,e⟩:=hs b x aa;exact⟨(t b g h1).1,e.aK _ (t b g h1).2⟩;obtain⟨g,h1,e⟩:=hs b x aa;grind
 . refine tY λi v z=>?_;obtain⟨v0,h1,e⟩:=(q.flip λ_ _ h=>h).get z;exact e.aK _ (nn u h1)
 exact bb.comp (λa b c h1 e=>h1.Hv e) (q.flip λ_ _ h=>h) A
theorem eo.mono{f k:Nat}{args:I V}{Q nV:V->bg->Nat->Prop}(h:eo P f args σ k Q)(j:∀r s n,Q r s n->nV r s n):eo P f args σ k nV:=by
 intro φ S w B h1 a c e vs g;refine(h φ S w B h1 a c e vs g).mono ?_;grind
theorem eo.tidy{f k:Nat}{args:I V}{Q nV:V->bg->Nat->Prop}(h:eo P f args σ k Q)
 (U:∀r σ' N',Q r σ' N'->∃bs t σ2,bs.Nodup/\keeps k bs/\gY (r.b8 bs) t/\sU (fV bs σ' 0 bs) σ2/\nV t σ2 bs.length):eo P f args σ k nV:=by
 intro φ S w B h1 G H K vs L;refine(h φ S w B h1 G H K vs L).mono ?_
 rintro e w' ⟨v,r,bq,bu,σ',N',he,N,k1,k2,k3,k4,k5,k6,k7⟩
 obtain⟨bs,t,σ2,cd,ap,F,hs,O⟩:=U r σ' N' N;have an:∀i:Nat,i<k->bs[i]?=some i:=by
  grind[keeps]
 let z:dk:=λi=>bq ((bs[i]?).getD 0);have q:∀(i:Nat) b,bs[i]?=some b->z i=bq b:=by intro i b h;simp[z,h]
 have p:∀b x,aV (fV bs σ' 0 bs) b=some x->∃c a,bs[b]?=some c/\aV σ' c=some a/\x=a.b8 bs:=by
  grind[pU]
 have W:∀(a:b9),(a.b8 bs).aK (lt bs.length)=true:=by
  intro a;cases a with
  |box cs=>grind[b9.b8,b9.aK,List.all_eq_true,C.j6]
  |arr sz es=>rfl
  |set ks=>rfl
  |buf E s=>rfl
  |cm E c=>exact C.j6 c
  |cR sz es i o c=>exact C.j6 c
 refine⟨v,t,z,bu,σ2,bs.length,he,O,F.Hv (cc.b8 q k1),F.aK _ (V.j6 r),⟨λb x aa=>?_,λb u x y aa al ax h0 D=>?_,k3.st⟩,λb x aa=>?_,k5,λb x aa h0=>?_,λb g=>?_⟩;obtain⟨y,al,g⟩:=hs b x aa;obtain⟨c,a,aJ,j,rfl⟩:=p b y al;exact g.Hs (c8.b8 q aJ (k3.blk c a j))
 . obtain⟨ak,X,_⟩:=hs b x aa;obtain⟨am,Y,_⟩:=hs u y al;obtain⟨c,a,aJ,j,_⟩:=p b ak X;obtain⟨A,Z,f1,f2,_⟩:=p u am Y;rw[q b c aJ]at h0⊢;rw[q u A f1]at D⊢;refine k3.inj c A a Z j f2 ?_ h0 D;have:=ns cd aJ;grind[ns]
 obtain⟨y,al,g⟩:=hs b x aa;obtain⟨c,a,aJ,j,rfl⟩:=p b y al;exact⟨(ed.1 aJ).1,g.aK _ (W a)⟩;obtain⟨y,al,g⟩:=hs b x aa;grind;grind
end
def bx.cu(f:Nat->Nat):bx U->bx U
 |.ptr b o=>.ptr (f b) o
 |.cW b ty i o=>.cW (f b) ty i o
 |.arr b=>.arr (f b)
 |.sub b a len=>.sub (f b) a len
 |.pre b h=>.pre (f b) h
 |.hP b a len=>.hP (f b) a len
 |.mp b=>.mp (f b)
 |.eF b=>.eF (f b)
 |.cN b=>.cN (f b)
 |.fn g caps=>.fn g (caps.map f)
 |x=>x
def bP.cu(f:Nat->Nat):bP U->bP U
 |.c x=>.c (x.cu f)
 |.agg cs=>.agg (cs.map (bx.cu f))
 |.bf vs=>.bf (go f vs)
where go (f:Nat->Nat):I (bP U)->I (bP U)
 |[]=>[]
 |v::vs=>v.cu f::go f vs
def c1.cu(f:Nat->Nat):c1 U->c1 U
 |.box cs=>.box (cs.map (bx.cu f))
 |.arr ty l=>.arr ty l
 |.rows sz r=>.rows sz r
 |.set ks=>.set ks
 |.buf E s=>.buf E s
 |.cm E c=>.cm E (c.cu f)
 |.cR t l i o c=>.cR t l i o (c.cu f)
def FO(σ:bl U):ba->bl U
 |[]=>σ
 |b::r=>dl (FO σ r) b
def nO(σ:bl U)(bs:ba)(f:Nat->Nat):bl U->bl U
 |[]=>FO σ bs
 |(b,x)::r=>cS (nO σ bs f r) (f b) (x.cu f)
def o6(σ σr:bl U):Nat->ba->ag J
 |_,[]=>some true
 |i,b::r=>match a8 σr i with
  |none=>o6 σ σr (i+1) r
  |some d=>match a8 σ b with
   |none=>none
   |some x=>match d.dq with
    |none=>o6 σ σr (i+1) r
    |some a=>match x.dq with
     |none=>none
     |some p=>match Nat.beq a.1 p.1,o6 σ σr (i+1) r with
      |true,some c=>some ((a.2=p.2:J)&&c)
      |_,_=>none
section
variable {key N':Nat}{σ σr:bl U}{σ1 W2:bg}{bs:ba}
theorem Pb:∀{bs:ba} {b:Nat},a8 (FO σ bs) b=if b∈bs then none else a8 σ b
 |[],b=>by rfl
 |c::r,b=>by
  simp[FO,nD,Pb];grind
theorem uj:∀{d:bl U} {c:Nat} {x:c1 U},a8 (nO σ bs f d) c=some x->(∃b a,c=f b/\a8 d b=some a/\x=a.cu f)\/(c ∉ bs/\a8 σ c=some x)
 |[],c,x,h=>by
  grind[nO,Pb]
 |(b,y)::r,c,x,h=>by
  simp[nO,hM]at h;split at h;grind[a8,Nat.beq_refl]
  . rcases uj h with⟨e,a,h1,g,i⟩|h
    grind[a8,c7];grind
theorem Az(cd:bs.Nodup)(aD:∀b,b∈bs->b<key){i j:Nat}(h:back bs key i=back bs key j):i=j:=by
 unfold back at h;cases d:bs[i]? with
 |some b=>
  rw[d]at h;have e:=aD b (fr d);cases a:bs[j]? with
  |some c=>
   rw[a]at h;simp at h;subst h;have:=ns cd d;rw[ns cd a]at this;grind
  |none=>grind
 |none=>
  cases a:bs[j]? with
  |some c=>
   have e:=aD c (fr a);grind
  |none=>grind
theorem KS(d:∀i j,f i=f j->i=j):∀{g:bg} {b:Nat} {x:b9},aV g b=some x->aV (hI σ1 bs f g) (f b)=some (x.cu f)
 |[],b,x,h=>by grind[aV]
 |(c,y)::r,b,x,h=>by
  simp[hI,c9];simp[aV]at h;by_cases a:c=b;grind;rw[au a]at h;rw[au (λe=>a (d _ _ e))];exact KS d h
theorem K3{c:Nat}(d:c ∉ bs)(a:∀b,f b≠c):∀{e:bg},aV (hI σ1 bs f e) c=aV σ1 c
 |[]=>by grind[hI,rG]
 |(b,y)::r=>by
  simp[hI,c9];rw[au (a b)];exact K3 d a
theorem c1.y0{x:c1 U}:(x.cu f).dq=x.dq:=by cases x<;>rfl
theorem MD:∀{l:ba} {f:Nat} {c:J},o6 σ σr f l=some c->c=true->∀(j b:Nat) d,l[j]?=some b->a8 σr (f+j)=some d->∃x,a8 σ b=some x/\∀p,d.dq=some p->x.dq=some p
 |[],f,c,h,m,j,b,d,n,aa=>by grind
 |a::l,f,c,h,m,j,b,d,n,aa=>by
  simp[o6]at h;have next:∀{g},o6 σ σr (f+1) l=some g->g=true->∀i,j=i+1->∃x,a8 σ b=some x/\∀p,d.dq=some p->x.dq=some p:=by
   intro g h1 k i e;exact MD h1 k i b d (by grind) (by grind)
  cases j with
  |zero=>
   grind[c7]
  |succ j=>
   split at h;grind;grind
variable (cd:bs.Nodup)(aD:∀b,b∈bs->b<key)(ec:N'<=bs.length+16)(aG:cB key σ σ1)
include cd aD ec aG in
theorem cr.cu{x:bx U}{d:C}(h:cr N' σr x d):cr (key+16) (nO σ bs (back bs key) σr) (x.cu (back bs key)) (d.cu (back bs key)):=by
 cases h with
 |t c=>exact cr.t c
 |ptr b o=>exact cr.ptr _ o
 |cW b t i o=>exact cr.cW _ t i o
 |dY t x o=>exact cr.dY t x o
 |arr b sz n q h=>
  have e:back bs key b<key+16:=by
   unfold back;cases g:bs[b]? with
   |some c=>simp;have:=aD c (fr g);omega
   |none=>grind
  refine cr.arr _ sz n e λx aa p ar=>?_;rcases uj aa with⟨j,w,h1,a,rfl⟩|⟨h1,a⟩
  grind[Az,c1.y0];have u:=(aG _ _ a).1;grind[back]
 |sub b v len=>exact cr.sub _ v _
 |pre b sz n q h=>
  have e:back bs key b<key+16:=by
   unfold back;cases g:bs[b]? with
   |some c=>simp;have:=aD c (fr g);omega
   |none=>grind
  refine cr.pre _ sz n e λx aa p ar=>?_;rcases uj aa with⟨j,w,h1,a,rfl⟩|⟨h1,a⟩
  grind[Az,c1.y0];have u:=(aG _ _ a).1;grind[back]
 |hP b sz v len q h=>
  have e:back bs key b<key+16:=by
   unfold back;cases g:bs[b]? with
   |some c=>simp;have:=aD c (fr g);omega
   |none=>grind
  refine cr.hP _ sz v _ e λx aa p ar=>?_;rcases uj aa with⟨j,w,h1,a,rfl⟩|⟨h1,a⟩
  grind[Az,c1.y0];have u:=(aG _ _ a).1;grind[back]
 |mp b=>exact cr.mp _
 |eF b=>exact cr.eF _
 |cN b n q h=>
  have e:back bs key b<key+16:=by
   unfold back;cases g:bs[b]? with
   |some c=>simp;have:=aD c (fr g);omega
   |none=>grind
  refine cr.cN _ n e λx aa p ar=>?_;rcases uj aa with⟨j,w,h1,a,rfl⟩|⟨h1,a⟩
  grind[Az,c1.y0];have u:=(aG _ _ a).1;grind[back]
 |bV=>exact .bV
 |fp=>exact .fp
 |fm=>exact .fm
 |fn f caps=>exact cr.fn f _
 |dead d=>exact .dead _
theorem Nk:∀{vs:I (bP U)} {i:Nat},(bP.cu.go f vs)[i]?=(vs[i]?).map (bP.cu f)
 |[],i=>by rfl
 |v::vs,0=>by rfl
 |v::vs,i+1=>by simp[bP.cu.go,Nk]
theorem K4:∀{vs:I (bP U)},(bP.cu.go f vs).length=vs.length
 |[]=>rfl
 |v::vs=>by simp[bP.cu.go,K4]
include cd aD ec aG in
theorem b7.cu{x:bP U}{d:V}(h:b7 N' σr x d):b7 (key+16) (nO σ bs (back bs key) σr) (x.cu (back bs key)) (d.cu (back bs key)):=by
 induction h with
 |c h=>exact .c (cr.cu cd aD ec aG h)
 |agg h=>exact .agg (bb.map_map (h.imp λ_ _ _ ad=>cr.cu cd aD ec aG ad))
 |bf xs ds ak h ih=>
  refine .bf _ _ (by grind[K4,Ih]) ?_;grind[Nk,Iz]
include cd aD aG in
theorem Fi(e:o6 σ σr 0 bs=some true):du key σ (key+16) (nO σ bs (back bs key) σr):=by
 refine⟨by simp,λc x i aa=>?_⟩;rcases uj aa with⟨b,f,h1,d,rfl⟩|⟨h1,d⟩
 . unfold back at h1;cases a:bs[b]? with
   |some g=>
    rw[a]at h1;subst h1;obtain⟨x,k1,k2⟩:=MD e rfl b c f a (by grind);grind[c1.y0]
   |none=>grind
 grind
include cd aD ec aG in
theorem cB.GG(u:o6 σ σr 0 bs=some true)(w:cB N' σr W2):cB (key+16) (nO σ bs (back bs key) σr) (hI σ1 bs (back bs key) W2):=by
 intro c x aa;have q:∀b,b<N'->back bs key b<key+16:=by
  intro b A;unfold back;cases v:bs[b]? with
  |some c=>simp;have:=aD c (fr v);omega
  |none=>grind
 rcases uj aa with⟨b,z,rfl,e,rfl⟩|⟨h1,e⟩
 . obtain⟨f,y,g,a⟩:=w b z e;refine⟨q b f,y.cu _,KS (λi j=>Az cd aD) g,?_⟩;cases a with
   |box a=>exact .box (bb.map_map (a.imp λ_ _ _ ad=>cr.cu cd aD ec aG ad))
   |arr t l=>exact .arr t l
   |set ks=>exact .set ks
   |buf E s=>exact .buf E s
   |cm a=>exact .cm (cr.cu cd aD ec aG a)
   |cR t l i o a=>exact .cR t l i o (cr.cu cd aD ec aG a)
   |rows a p=>exact .rows a p
 . obtain⟨f,y,g,a⟩:=aG c x e;refine⟨by omega,y,?_,?_⟩
   grind[K3,back];exact a.mono (Fi cd aD aG u)
end
end
section
open Go
variable {xb:ba}
def FJ(n:Nat):I (Nat×Nat)->J
 |(i,_)::_=>Nat.beq i n
 |[]=>false
theorem aek{l:I (cf×ba)}{p:Nat×Nat}(h:p∈lu l):p.1<l.length:=by
 grind[lu,Gk]
theorem acF{l:I (cf×ba)}(h:FJ l.length (s3 l)):FG l/\tQ l.dropLast/\∀p,p∈lu l.dropLast->p∈s3 l:=by
 unfold s3 at h⊢;split at h;grind
 . cases ak:lu l with
   |nil=>rw[ak]at h;cases h
   |cons p r=>
    rw[ak]at h;have ar:p∈lu l:=(by grind);have:=aek ar;obtain⟨i,j⟩:=p;have a:Nat.beq i _:=h;simp_all
variable{D:Nat->ba}{listed:Array J}{Q:Exit->Env->bg->Nat->Prop}
theorem ab9{l:I (cf×ba)}{m:Nat}(g:l.length=m+1)(h:FG l)(e:∀(i:Nat) x,l[i]?=some x->D i=x.2){p:Nat->J}(f:∀i,i<m->p i->∀d,d∈D i->p d)(ak:∀d,d∈D m->p d):
 ∀i,i<m->p i:=by
 have key:∀k i,i<m->m-i<=k->p i:=by
  intro k;induction k with
  |zero=>grind
  |succ k ih=>
   intro i h1 b;simp[FG]at h;have c:=h i (by omega);grind
 exactλi a=>key m i a (by simp)
section
variable {P:Program}{aA:Ctx}{nt kk:Nat}{N:Nat}{ops:Array Oper}{init:I cf}{last:cf}{E:Nat->Env}{T:Nat->bg}{G:Nat->J}{W:Nat->V}
theorem EP{i m:Nat}(hs:listed.size=m+1)(a:i<m):listed.pop.getD i false=listed.getD i false:=by
 simp;grind
theorem agD{i m:Nat}(hs:listed.size=m+1)(a:i<m):(listed.setIfInBounds i true).pop=listed.pop.setIfInBounds i true:=by grind
theorem ael{Q:Exit->Act->World->Prop}{fuel:Nat}{a:Act}{w:World}(hs:listed.size=ops.size)(d:∀i,i<ops.size->listed.getD i false)(b:Q .normal a w):wpAny P .any ops Q fuel listed a w:=by
 have c:Region.ready .any ops listed=[]:=by
  rw[Vq];grind[mem_ready]
 cases fuel with
 |zero=>exact⟨c,b⟩
 |succ fuel=>exact⟨λ_=>b,λi e=>by grind⟩
theorem adm(st:Stat xb init D E N)(z:o7 xb P init N E T G W)(hres:hh P nt ops ops.toList=some (init++[last]))(A:∀(i:Nat) o,ops[i]?=some o->D i=hG o)
 (ao:∀(p:Nat->J),(∀i,i<init.length->p i->∀d,d∈D i->p d)->(∀d,d∈D init.length->p d)->∀i,i<init.length->p i)
 (aj:∀d,d∈D init.length->d<init.length)
 {Q:Exit->Act->World->Prop}{K:Env->bg->Prop}(an:aA.k=kk)
 (bW:∃fF H,Conv kk (N+16*init.length) (E init.length) (T init.length) (N+16*init.length) fF H/\ys P last (N+16*init.length) fF H K)
 (ab:∀e s φ S a w,K e s->Rel aA nt φ S e s (eK (lt (N+16*init.length)) (N+16*init.length)) a w->Q .normal a w):
 ∀(fuel:Nat) (listed:Array J) φ S env σ a w,listed.size=init.length+1->listed.getD init.length false=false->listed.toList.countP (· ==false)<=fuel->Inv xb aA nt init D N E T G W listed.pop φ S env σ a w->wpAny P .any ops Q fuel listed a w:=by
 have V:=y4 hres;simp at V;have ap:∀(listed:Array J) (φ:dk) (S:dm) (env:Env) (σ:bg) (a:Act) (w:World),listed.size=init.length+1->listed.getD init.length false=false->Inv xb aA nt init D N E T G W listed.pop φ S env σ a w->Region.ready .any ops listed≠[]:=by
  intro listed φ S env σ a w hs v bC X;have B:∀i,i<init.length->listed.getD i false:=by
   intro i;induction i using Nat.strongRecOn with
   |_ i ih=>
    intro l;cases ak:listed.getD i false with
    |true=>rfl
    |false=>
     have y:i<ops.size:=(by omega);have c:ops[i]?=some ops[i]:=C6 y;have:i∈Region.ready .any ops listed:=by
      rw[mem_ready];refine⟨?_,ops[i],c,λe he af=>?_⟩;grind
      . have f:e.on∈D i:=by
         rw[A i _ c];simp only[hG,fY,uX];grind
        exact ih e.on (st.back i _ l f) (by have:=st.back i _ l f;omega)
     grind
  have y:init.length<ops.size:=by omega
  have c:ops[init.length]?=some ops[init.length]:=C6 y;have:init.length∈Region.ready .any ops listed:=by
   rw[mem_ready];refine⟨?_,ops[init.length],c,λe he af=>?_⟩;grind
   . have f:e.on∈D init.length:=by
      rw[A _ _ c];simp only[hG,fY,uX];grind
     grind
  grind
 intro fuel;induction fuel with
 |zero=>
  intro listed φ S env σ a w hs v L bC;exfalso;have u:init.length<listed.size:=by omega
  have h0:listed.toList.countP (· ==false)=0:=by omega
  rw[List.countP_eq_zero]at h0;simp[u]at v;exact h0 listed[init.length] (by simp) (by grind)
 |succ fuel ih=>
  intro listed φ S env σ a w hs v L bC;refine⟨λX=>absurd X (ap listed φ S env σ a w hs v bC),λi l=>?_⟩;rw[mem_ready]at l;obtain⟨h1,o,c,aw⟩:=l;have y:i<ops.size:=(zF.1 c).1;have u:i<listed.size:=by omega
  have aI:listed.getD i false=false:=by grind
  obtain⟨q,I,Y⟩:=HZ hres (i:=i) (o:=o) (by grind);have f:∀d,d∈D i->listed.getD d false:=by
   intro d f;rw[A i o c]at f;simp only[hG,fY,uX]at f;grind
  have am:listed.toList.countP (· ==false)<=fuel+1->(listed.setIfInBounds i true).toList.countP (· ==false)<=fuel:=by
   have:listed.toList[i]?=some false:=by simp[u]at aI⊢;exact aI
   grind
  rcases Nat.lt_or_ge i init.length with t|t
  ·
   have r:init[i]?=some q:=by rw[xr t]at I;exact I
   have M:∀d,d∈D i->listed.pop.getD d false:=λd g=>by rw[EP hs (by have:=st.back i d t g;omega)];exact f d g
   have C:listed.pop.getD i false=false:=by rw[EP hs t];exact aI
   obtain⟨ad,ae⟩:=bC.agree st z r C M;obtain⟨⟨bz,aq,av⟩,_⟩:=(z.step i q r).1.local (env':=env) (σ':=σ) ad ae;have x:=Ee bC.rel (key:=N+16*i) (λb ag ai=>LM C ag ai) Y (K:=λe s=>e=eB env q.dst (G i) (W i)/\s=bz) (aq.hB ⟨rfl,rfl⟩) (Q:=Q);have next:∀ca w',jN aA nt (eK (used N init.length listed.pop) (N+16*i)) (λe s=>e=eB env q.dst (G i) (W i)/\s=bz) ca w'->wpAny P .any ops Q fuel (listed.setIfInBounds i true) ca w':=by
    rintro ca w' ⟨bq,bu,e,s,⟨rfl,rfl⟩,R'⟩
    have ar:=agD (listed:=listed) (i:=i) (m:=init.length) hs t;refine ih (listed.setIfInBounds i true) bq bu _ _ ca w' (by simpa using hs) ?_ (am L) (by rw[ar];exact bC.step st z r C M av R');rw[jT u,cb];exact v
   unfold wpOp;rw[c];dsimp only;split at x;rename_i n;rw[ah n];exact .inl (Oper.wp_mono next x)
   . rename_i n;rw[au n];exact next _ _ x
  ·
   have l:i=init.length:=(by omega);subst l;have r:q=last:=(by grind);subst r;have B:=by
    refine ao (λj=>listed.pop.getD j false) (λj O ar d g=>bC.down j O ar d g) (λd g=>?_);rw[EP hs (aj d g)];exact f d g
   have R:=bC.done st z B;obtain⟨fF,H,al,x⟩:=bW;obtain⟨ay,yi,Z⟩:=al aA nt φ S a w an R;have F:=Jr Z Y x (Q:=Q);have next:∀ca w',jN aA nt (eK (lt (N+16*init.length)) (N+16*init.length)) K ca w'->wpAny P .any ops Q fuel (listed.setIfInBounds init.length true) ca w':=by
    rintro ca w' ⟨bq,bu,e,s,aa,R'⟩;refine ael (by simp[hs,V]) (λj O=>?_) (ab e s bq bu ca w' aa R');rw[jT u];split;rfl;rename_i ax;have U:j<init.length:=(by omega);rw[<-EP hs U];exact B j U
   unfold wpOp;rw[c];dsimp only;split at F;rename_i n;rw[ah n];exact .inl (Oper.wp_mono next F)
   . rename_i n;rw[au n];exact next _ _ F
theorem cH.akf{fw:I (Nat×Nat)}{env:Env}{σ:bg}(bi:FJ (init.length+1) fw)
 (h:yu xb P init N env σ (λe s=>kZ xb init e N fw=true/\nY P kk [last] (N+16*init.length) e s (λe s=>Q .normal e s (N+16*init.length+16)))):cH P nt kk (.o2 (init++[last]) fw) env σ N Q:=by
 intro bd U aA φ S a w am R;obtain⟨id,ops,rfl,hres,B,ap,rfl⟩:=Lq U;have be:=y4 hres;have K:(fL ops (init++[last])).length=init.length+1:=by grind[fL]
 obtain⟨an,z,a3⟩:=acF (l:=fL ops (init++[last])) (by grind);obtain⟨E,T,G,W,F,dp,t0,X,L⟩:=Ke h;have a0:(fL ops (init++[last])).dropLast=fL ops.pop init:=by
  obtain⟨H,x,aa⟩:∃H x,ops.toList=H++[x]:=by
   cases ak:ops.toList.reverse with
   |nil=>simp_all
   |cons x r=>simp_all
  simp_all[fL,Array.toList_pop,xk,List.zip_append]
 rw[a0]at z;have Y:kZ xb init (E init.length) N (lu (fL ops.pop init)):=IP (λp ar=>a3 p (by grind)) X;have g:=Pt (ops:=ops.pop) (by grind) z F Y;let D:Nat->ba:=λi=>((ops[i]?).map hG).getD [];have v:∀i,i<init.length->((ops.pop[i]?).map hG).getD []=D i:=by grind
 have st:Stat xb init D E N:=by
  refine⟨λi d c Z=>g.back i d c (by grind),λi j x y d aa al a9=>?_,λi j b ax c A a4 q=>?_⟩;have:=g.xV i j x y d aa al a9;grind
  . rcases g.ord i j b ax c A a4 q with⟨h1,f⟩|⟨h1,f⟩
    exact .inl ⟨h1,f.congr g.back v A⟩;exact .inr ⟨h1,f.congr g.back v c⟩
 have a5:∀(i:Nat) x,(fL ops (init++[last]))[i]?=some x->D i=x.2:=by
  grind[fL]
 refine wp_region_any ap ?_;have a2:=L;have O:∀d,d∈D init.length->d<init.length:=by
  intro d Z;simp only[tQ,dh]at B;have aa:(fL ops (init++[last]))[init.length]?=some _:=e0 (by omega);have:=Ij B.1.1 aa d (by grind);omega
 refine adm (aA:=aA) (nt:=nt) (D:=D) st F hres (λi o aD=>by grind) (λp h1 f=>ab9 K an a5 h1 f) O am a2 (λe s φ S a w a1 R'=>⟨φ,S,e,s,_,a1,R'.more λb q=>FH q⟩) ops.size _ φ S env σ a _ ?_ ?_ ?_ ?_
 grind;rw[Array.getD_eq_getD_getElem?,Array.getElem?_replicate];grind;grind[List.countP_le_length]
 . have R':=R.drew;have u:∀i,(Array.replicate ops.size false).pop.getD i false->False:=by
    intro i ak;simp only[Array.getD_eq_getD_getElem?,Array.getElem?_pop]at ak;grind
   refine⟨R'.more λb q=>by grind[used],by grind,λi c ak=>(u i ak).elim,λt _=>by grind,λt i o aD ak=>(u i ak).elim,λb _=>by grind,λb i c ak=>(u i ak).elim⟩
end
end
end Go.Proofs.YtopcfbelfjclmaaGreatDoor.Shv
