/- The library of this proof, part C: an abstract machine for the code of the program, and its soundness. -/
import Derived.Test.YtfcnkdegapjgnaaGreatDoorTrLB

namespace Go.Proofs.YtfcnkdegapjgnaaGreatDoor.Shv
set_option linter.all false
section
open Go
variable [da]
variable {xb rof:List Nat}
def sP(xb:List Nat)(aP:List bL)(env:Env)(N:Nat):List (Nat×Nat)->Bool
 |[]=>true
 |(i,j)::r=>(match aP[i]?,aP[j]? with
  |some x,some y=>(ds xb y.op env (N+16*j)).all λb=>!(b7 xb x.op env (N+16*i) b)
  |_,_=>true)&&sP xb aP env N r
def jq(xb rof:List Nat)(aP:List bL)(env:Env)(N:Nat):List (Nat×Nat)->Bool
 |[]=>true
 |(i,j)::r=>(match aP[i]?,aP[j]? with
  |some x,some y=>gY rof x.op||(ds xb y.op env (N+16*j)).all λb=>!(b7 xb x.op env (N+16*i) b)
  |_,_=>true)&&jq xb rof aP env N r
theorem F5{aP:List bL}{env:Env}{N:Nat}:∀{dV:List (Nat×Nat)},sP xb aP env N dV=true->jq xb rof aP env N dV=true
 |[],_=>rfl
 |(i,j)::r,h=>by
  simp only[sP,cH]at h;simp only[jq,cH];refine⟨?_,F5 h.2⟩;have h1:=h.1;split at h1
  . rename_i x y a b;simp only[ko];exact .inr h1
  . rfl
theorem Tq{aP:List bL}{env:Env}{N:Nat}:∀{dV:List (Nat×Nat)} {i j:Nat} {x y:bL},jq xb rof aP env N dV=true->(i,j)∈dV->aP[i]?=some x->aP[j]?=some y->gY rof x.op=false->∀b,b∈ds xb y.op env (N+16*j)->b7 xb x.op env (N+16*i) b=false
 |[],i,j,x,y,h,a,_,_,_=>by simp at a
 |(i0,k)::r,i,j,x,y,h,a,f,g,d=>by
  intro b c;simp only[jq,cH]at h;rcases fF.1 a with e|a
  . cases e;have h1:=h.1;rw[f,g]at h1;simp only[d,AT,dW]at h1
    simpa using h1 b c
  . exact Tq h.2 a f g d b c
section
variable {P:Program}{ao:Ctx}{nt kk:Nat}{N:Nat}{ops:Array Oper}{aP:List bL}{E:Nat->Env}{T:Nat->aF}{G:Nat->Bool}{W:Nat->V}
theorem W4{i:Nat}{o:Oper}{x:bL}(a:ops[i]?=some o)(b:aP[i]?=some x):(fj ops aP)[i]?=some (x,gT o):=by
 unfold fj
 grind
theorem L7(al:aP.length=ops.size)(J:sN (fj ops aP)=true)(aa:oa xb P aP N E T G W)(V:jq xb rof aP (E aP.length) N (kO (fj ops aP))=true):
 Stat xb rof aP (λi=>((ops[i]?).map gT).getD []) E N:=by
 simp only[sN,cH]at J;obtain⟨⟨U,L⟩,_⟩:=J;have g:∀i,i<aP.length->∃o x,ops[i]?=some o/\aP[i]?=some x/\(fj ops aP)[i]?=some (x,gT o):=by
  intro i hi;have u:ops[i]?=some ops[i]:=AZ (by omega);have a:aP[i]?=some aP[i]:=eu hi;exact⟨_,_,u,a,W4 u a⟩
 have ah:∀i j,ahead (fj ops aP) j i=true->j<i/\j∈((ops[i]?).map gT).getD []:=by
  intro i j h;obtain⟨h1,y,p,ag⟩:=ZV h;refine⟨h1,?_⟩;have hi:i<aP.length:=by
   have:=(dO.1 p).1;unfold fj at this;simp at this;omega
  grind
 have M:∀(i j:Nat) (x y:bL) (d:Nat),aP[i]?=some x->aP[j]?=some y->y.dst=some d->(d∈x.rd->(j<i/\j∈((ops[i]?).map gT).getD [])\/(x.op.neutral=true/\x.op.hP=false/\i<j/\i∈((ops[j]?).map gT).getD []))/\(i=j\/x.dst≠some d):=by
  intro i j x y d a c ao;obtain⟨w,af,H,n,q⟩:=g i (dO.1 a).1;obtain⟨z,R,I,f,r⟩:=g j (dO.1 c).1;rw[a]at n;cases n;rw[c]at f;cases f;simp only[QE,dW]at L;have h1:=L ((x,gT w),i) (eU (i:=i) (by simp[AG,q]))
  have p:=h1 ((y,gT z),j) (eU (i:=j) (by simp[AG,r]))
  grind
 refine⟨λi d hi D=>?_,M,?_⟩
 . obtain⟨o,x,u,a,S⟩:=g i hi;rw[u]at D;have:=Gj U S d D;omega
 ·
  have F:∀(i:Nat) (x:bL),aP[i]?=some x->¬(x.op.neutral=true/\x.op.hP=false)->∀t,t∈x.op.reads->look (E aP.length) t=look (E i) t:=by
   intro i x a am t ht;have hi:=(dO.1 a).1;refine vd aa (by omega) (eJ _) λj y ai aj c ae=>?_
   rcases (M i j x y t a c ae).1 (KS ht)with h|h
   . omega
   grind
  have an:∀i j,nA (mY (fj ops aP) []) j i=true->j<i/\iU (λi=>((ops[i]?).map gT).getD []) j i:=by
   intro i j h;simp only[nA,cH,hq,AF]at h;refine⟨h.1,Tp (l:=fj ops aP) (acc:=[]) (λk x a=>?_) (λi j A=>by simp at A) i j h.2⟩;have ak:k<aP.length:=by
    have:=(dO.1 a).1;unfold fj at this;simp at this;omega
   grind
  have B:∀(i j:Nat) (x y:bL) (b:Nat),i≠j->aP[i]?=some x->aP[j]?=some y->gY rof x.op=false->b7 xb x.op (E i) (N+16*i) b=true->b∈ds xb y.op (E j) (N+16*j)->nA (mY (fj ops aP) []) i j=true\/nA (mY (fj ops aP) []) j i=true:=by
   intro i j x y b s a c Y m e;by_cases h1:nA (mY (fj ops aP) []) i j=true
   . grind
   . by_cases p:nA (mY (fj ops aP) []) j i=true
     . grind
     . exfalso
       obtain⟨w,af,H,n,q⟩:=g i (dO.1 a).1;obtain⟨z,R,I,f,r⟩:=g j (dO.1 c).1;rw[a]at n;cases n;rw[c]at f;cases f;have ht:y.op.hP=true:=by
        cases h:y.op.hP with
        |true=>rfl
        |false=>rw[XX h]at e;simp at e
       have X:(i,j)∈kO (fj ops aP):=by
        simp only[kO,DQ,List.mem_flatMap];refine⟨((x,gT w),i),eU (i:=i) (by simp[AG,q]),?_⟩;dsimp only;rw[J6 m];simp only[cN,cv,List.mem_filterMap];refine⟨((y,gT z),j),eU (i:=j) (by simp[AG,r]),?_⟩
        grind
       have:=Tq V X a c Y b (by rw[ZU (F j y c (λh=>by rw[ht]at h;cases h.2))];exact e);rw[ZT (F i x a (λh=>by rw[J6 m]at h;cases h.1))]at this
       grind
  intro i j b s hi A m e;obtain⟨w,x,H,a,q⟩:=g i hi;obtain⟨z,y,I,c,r⟩:=g j A;have ab:gY rof x.op=false/\b7 xb x.op (E i) (N+16*i) b=true:=by unfold hQ at m;rw[a]at m;simpa using m
  obtain⟨K,v⟩:=ab;have conv:(nA (mY (fj ops aP) []) i j=true\/nA (mY (fj ops aP) []) j i=true)->(i<j/\iU (λi=>((ops[i]?).map gT).getD []) i j)\/(j<i/\iU (λi=>((ops[i]?).map gT).getD []) j i):=by grind
  rcases e with⟨R,f,e⟩|e
  . rw[c]at f;cases f;exact conv (B i j x y b s a c K v e)
  . have ad:gY rof y.op=false/\b7 xb y.op (E j) (N+16*j) b=true:=by unfold hQ at e;rw[c]at e;simpa using e
    obtain⟨Z,C⟩:=ad;cases Q:y.op.hP with
    |true=>exact conv (B i j x y b s a c K v (F4 Q C))
    |false=>
     cases O:x.op.hP with
     |true=>exact conv (B j i y x b (cW s) c a Z C (F4 O v)).symm
     |false=>
      have h1:=L6 O v;have p:=L6 Q C
      exfalso;omega
theorem FM{aP:List bL}{env:Env}{N:Nat}:∀{l m:List (Nat×Nat)},(∀p,p∈l->p∈m)->jq xb rof aP env N m=true->jq xb rof aP env N l=true
 |[],_,_,_=>rfl
 |(i,j)::r,m,hs,h=>by
  simp only[jq,cH];refine⟨?_,FM (λp c=>hs p (AH _ c)) h⟩
  have:∀ (m:List (Nat×Nat)),(i,j)∈m->jq xb rof aP env N m = true->(match aP[i]?,aP[j]? with
   |some x,some y=>gY rof x.op||(ds xb y.op env (N+16*j)).all λb=>!(b7 xb x.op env (N+16*i) b)
   |_,_=>true)=true:=by
   intro m
   induction m with
   |nil=>intro h _;simp at h
   |cons q m ih=>
    intro d a;obtain⟨e,f⟩:=q;simp only[jq,cH]at a
    grind
  grind
theorem ZW{l:List (bL×List Nat)}{p:Nat×Nat}(h:p∈kO l):p∈ru l:=by
 unfold ru
 grind
theorem bJ.Qu{dV:List (Nat×Nat)}{env:Env}{J:aF}{Q:Exit->Env->aF->Nat->Prop}(h:tS xb rof P aP N env J (λe s=>jq xb rof aP e N dV=true/\Q .normal e s (N+16*aP.length))):bJ P nt kk (.jY aP dV) env J N Q:=by
 intro code v ao φ S a w H R;obtain⟨id,ops,rfl,hres,B,A,rfl⟩:=R1 v;have c:=xe hres;simp at c;obtain⟨E,T,G,W,g,F,bM,t0,y,j⟩:=Hc h;refine wp_region_any A ?_;refine W3 (ao:=ao) (nt:=nt) (L7 c B g (FM (λp D=>ZW D) y)) g F hres (λi o f=>by simp[f]) (λφ S a w R'=>⟨φ,S,_,_,_,j,R'⟩) ops.size _ φ S env J a _ ?_ ?_
 . have:=List.countP_le_length (p:=λx:Bool=>x==false) (l:=(Array.replicate ops.size false).toList)
   grind
 . have R':Rel ao nt φ S env J (lt N) a {w with drawn:=w.drawn+1}:=R.drew;refine⟨R'.more λb q=>by simp[used,q],by simp[c],λi hi ad=>?_,λt _=>by rw[bM],λt i o f ad=>?_,λb _=>by rw[t0],λb i hi ad=>?_⟩
   . simp_all
   . exfalso;simp[Array.getElem?_replicate]at ad;split at ad<;>simp at ad
   simp_all
theorem Hd{K a:Env->aF->Prop}(br:∀e s,K e s->a e s):∀{aP:List bL} {key:Nat} {env:Env} {J:aF},rv xb P aP key env J K->rv xb P aP key env J a
 |[],key,env,J,h=>br _ _ h
 |o::r,key,env,J,h=>by
  obtain⟨g,v,J1,h1,b⟩:=h;exact⟨g,v,J1,h1,Hd br b⟩
theorem bJ.jY{dV:List (Nat×Nat)}{env:Env}{J:aF}{Q:Exit->Env->aF->Nat->Prop}(h:rv xb P aP N env J (λe s=>sP xb aP e N dV=true/\Q .normal e s (N+16*aP.length))):bJ P nt kk (.jY aP dV) env J N Q:=
 bJ.Qu (rof:=[]) (GP (Hd (λe s h=>⟨F5 h.1,h.2⟩) h))
end
end
section
open Go
variable [da]
def De(P:Program)(c:Code)(Q:Exit->Act->World->Prop)(a:Act)(w:World):Prop:=
 ∀(b:Frame) (k:List Item) (cs:List Frame),∃e d w',Q e d w'/\Arrives P (lone (b.at a (.code c:: .inLoop c::k)) cs w) b k cs e d w'
theorem ZX{P:Program}{c:Code}{Q:Exit->Act->World->Prop}{a:Act}{w:World}(h:c.wp P (Exit.then (De P c Q) Q) a w):De P c Q a w:=by
 intro b k cs;obtain⟨e,g,i,f,d⟩:=h b _ cs;cases e with
 |normal=>
  obtain⟨m,j,p,o,n⟩:=f b k cs;exact⟨m,j,p,o,.of_steps (Steps.trans d (.one step_inLoop)) n⟩
 |exit id=>exact⟨_,g,i,f,.pass rfl (λ_ _=>.inl (by simp)) d⟩
 |goto l=>exact⟨_,g,i,f,.pass (x:= .inLoop c) rfl (λ_ _=>.inl (by simp)) d⟩
 |ret=>exact⟨_,g,i,f,.pass (x:= .inLoop c) rfl (λ_ _=>.inl (by simp)) d⟩
 |panic q=>exact⟨_,g,i,f,.pass (x:= .inLoop c) rfl (λ_ _=>.inl (by simp)) d⟩
 |outgrown=>exact⟨_,g,i,f,.pass (x:= .inLoop c) rfl (λ_ _=>.inl (by simp)) d⟩
theorem Zo{P:Program}{c:Code}{Q:Exit->Act->World->Prop}{a:Act}{w:World}(h:De P c Q a w):(Code.loop c).wp P Q a w:=by
 intro b k cs;obtain⟨e,d,w',g,f⟩:=h b k cs;exact⟨e,d,w',g,.of_steps (.one step_loop) f⟩
section
variable {P:Program}{nt kk:Nat}{env env':Env}{J J':aF}{N N':Nat}{Q kG:Exit->Env->aF->Nat->Prop}
def l4(P:Program)(nt kk:Nat)(c:di)(env:Env)(J:aF)(N:Nat)(Q:Exit->Env->aF->Nat->Prop):Prop:=
 ∀code,resolve P nt code=some c->∀ao φ S a w,ao.k=kk->Rel ao nt φ S env J (lt N) a w->De P code (λe b w'=>∃d bH env' J' N',Q e env' J' N'/\Rel ao nt d bH env' J' (lt N') b w') a w
theorem l4.round{c:di}(h:bJ P nt kk c env J N (andThen (λenv J N=>l4 P nt kk c env J N Q) Q)):l4 P nt kk c env J N Q:=by
 intro code f ao φ S a w g R;refine ZX (wp_mono (h _ f ao φ S a w g R) ?_)
 rintro e o w' ⟨p,bH,env',J',N',j,R'⟩
 cases e with
 |normal=>exact j _ f ao _ bH o w' g R'
 |_=>exact⟨p,bH,env',J',N',j,R'⟩
theorem bJ.af2{c:di}(h:l4 P nt kk c env J N Q):bJ P nt kk (.loop c) env J N Q:=by
 intro code f ao φ S a w g R;obtain⟨b,rfl,e⟩:=RQ f;exact Zo (h b e ao φ S a w g R)
def Conv(kk N:Nat)(env:Env)(J:aF)(N':Nat)(env':Env)(J':aF):Prop:=
 ∀ao nt φ S a w,ao.k=kk->Rel ao nt φ S env J (lt N) a w->∃b bH,Rel ao nt b bH env' J' (lt N') a w
theorem Conv.refl{kk N:Nat}:Conv kk N env J N env J:=λ_ _ φ S _ _ _ R=>⟨φ,S,R⟩
theorem Conv.trans{kk c e f:Nat}{az g cz:Env}{s1 o p:aF}(h:Conv kk c az s1 e g o)(k:Conv kk e g o f cz p):Conv kk c az s1 f cz p:=
 λao nt φ S a w j R=>let⟨q,bH,R'⟩:=h ao nt φ S a w j R;k ao nt _ bH a w j R'
theorem bJ.conv{c:di}(f:Conv kk N env J N' env' J')(h:bJ P nt kk c env' J' N' Q):bJ P nt kk c env J N Q:=
 λcode g ao φ S a w e R=>let⟨j,bH,R'⟩:=f ao nt φ S a w e R;h _ g ao _ bH a w e R'
theorem l4.conv{c:di}(f:Conv kk N env J N' env' J')(h:l4 P nt kk c env' J' N' Q):l4 P nt kk c env J N Q:=
 λcode g ao φ S a w e R=>let⟨j,bH,R'⟩:=f ao nt φ S a w e R;h _ g ao _ bH a w e R'
theorem Conv.tidy(ks bs:List Nat)(bR:bs.Nodup)(e:keeps kk bs=true):Conv kk N env J bs.length (mn bs env ks) (eO bs J 0 bs):=
 λao nt φ S a w f R=>let⟨c,R'⟩:=R.tidy ks bs bR (by grind);⟨c,S,R'⟩
theorem Conv.freeze(b0:Nat){sz0:Nat}{es:List (List T)}(c:aJ J b0=some (.arr sz0 es)):Conv kk N env J N (nB b0 sz0 es env) (k6 b0 sz0 es J):=
 λao nt φ S a w e R=>⟨φ,_,R.freeze c⟩
def dv(c a:C):Prop:=(∀φ w S v,aX φ w S c v->aX φ w S a v)/\∀n,c.aq n=true->a.aq n=true
theorem dv.refl(c:C):dv c c:=⟨λ_ _ _ _ h=>h,λ_ h=>h⟩
theorem dv.dead(c:C):dv c .dead:=⟨λ_ _ _ _ h=>h.iQ,λ_ _=>rfl⟩
theorem dv.bC:dv .bC (.t (.slice [])):=by
 refine⟨?_,λ_ _=>rfl⟩
 rintro φ w S v ⟨a,rfl⟩
 exact b5.slice [] a 0 0 0 0 (λ_ _=>undef) (by simp) (by simp) (by simp) (by simp) (by simp) (by simp)
inductive fi:V->V->Prop
 |c {x y}:dv x y->fi (.c x) (.c y)
 |agg {xs l1}:aQ dv xs l1->fi (.agg xs) (.agg l1)
 |aS (xs l1:List V) (ad:xs.length=l1.length) (h:∀(i:Nat) x y,xs[i]?=some x->l1[i]?=some y->fi x y):fi (.aS xs) (.aS l1)
theorem aQ.comp{α e f:Type}{R:α->e->Prop}{R':e->f->Prop}{g:α->f->Prop}(h:∀a b c,R a b->R' b c->g a c):∀{l:List α} {m:List e} {k:List f},aQ R l m->aQ R' m k->aQ g l k
 |[],[],[],_,_=>.nil
 |_::_,_::_,_::_,.cons h1 j,.cons aZ ba=>.cons (h _ _ _ h1 aZ) (aQ.comp h j ba)
theorem aQ.flip{α c:Type}{R:α->c->Prop}{R':c->α->Prop}{l:List α}{m:List c}(h:aQ R l m)(k:∀a b,R a b->R' b a):aQ R' m l:=by
 induction h with
 |nil=>exact .nil
 |cons h _ ih=>exact .cons (k _ _ h) ih
theorem N4{n:Nat->Bool}:∀{vs:List V},(∀(i:Nat) v,vs[i]?=some v->v.aq n=true)->V.aq.V.dI n vs=true
 |[],_=>rfl
 |v::vs,h=>by simp[V.aq.V.dI];exact⟨h 0 v rfl,N4 λi x a=>h (i+1) x (by grind)⟩
theorem fi.EO{φ:db}{w:World}{S:dj}{v g:V}(h:fi v g):∀{x},cd φ w S v x->cd φ w S g x:=by
 induction h with
 |c h=>intro x e;cases e with|c e=>exact .c (h.1 _ _ _ _ e)
 |agg h=>
  intro x e;cases e with
  |agg e=>exact .agg (aQ.comp (λa b c h1 f=>h1.1 _ _ _ _ f) (h.flip λ_ _ h=>h) e)
 |aS xs p ad h ih=>
  intro x e;cases e with
  |aS _ j o f=>
   refine .aS _ j (by omega) ?_
   grind
theorem fi.aq{v f:V}(h:fi v f)(n:Nat->Bool):v.aq n=true->f.aq n=true:=by
 induction h with
 |c h=>intro e;exact h.2 n e
 | @agg xs o h=>
  intro e;simp[V.aq]at e⊢;intro c j;obtain⟨i,hi,rfl⟩:=jd j;obtain⟨a,g,hs⟩:=(h.flip λ_ _ h=>h).get (eu hi);exact hs.2 n (e a (eU g))
 |aS xs o ad h ih=>
  grind[V.aq,N4,ns]
inductive jz:bp->bp->Prop
 |box {xs l1}:aQ dv xs l1->jz (.box xs) (.box l1)
 |arr {sz es}:jz (.arr sz es) (.arr sz es)
 |same {x}:jz x x
 |bX {E c wm}:dv c wm->jz (.bX E c) (.bX E wm)
 |cu {sz es i o c wm}:dv c wm->jz (.cu sz es i o c) (.cu sz es i o wm)
 |vec {sz xs l1}:aQ dv xs l1->jz (.vec sz xs) (.vec sz l1)
def M0(env env':Env):Prop:=∀k g a,look env' k=some (g,a)->∃v,look env k=some (g,v)/\fi v a
def pX(J J':aF):Prop:=∀b a,aJ J' b=some a->∃x,aJ J b=some x/\jz x a
theorem jz.EF{φ:db}{w:World}{S:dj}{b:Nat}{x o:bp}(h:jz x o)(g:cD φ w S b x):cD φ w S b o:=by
 cases h with
 |arr=>grind
 |same=>grind
 |bX h=>
  obtain⟨h0,⟨p,v,h1,e,f⟩,j⟩:=g;exact⟨h0,⟨p,v,h1,e,h.1 _ _ _ _ f⟩,j⟩
 |cu h=>
  obtain⟨h1,⟨vs,E,aZ,ba,bE,v,bU,cL⟩,cM⟩:=g;exact⟨h1,⟨vs,E,aZ,ba,bE,v,bU,h.1 _ _ _ _ cL⟩,cM⟩
 |box h=>
  obtain⟨h0,vs,E,h1,e,f⟩:=g;exact⟨h0,vs,E,h1,aQ.comp (λa b c h1 e=>h1.1 _ _ _ _ e) (h.flip λ_ _ h=>h) e,f⟩
 |vec h=>
  obtain⟨h0,vs,E,h1,⟨e,j⟩,f⟩:=g;exact⟨h0,vs,E,h1,⟨by rw[<-h.length];exact aQ.comp (λa b c h1 e=>h1.1 _ _ _ _ e) (h.flip λ_ _ h=>h) e,j⟩,f⟩
theorem jz.aq{x c:bp}(h:jz x c)(n:Nat->Bool)(a:x.aq n=true):c.aq n=true:=by
 cases h with
 |arr=>rfl
 |same=>grind
 |bX h=>exact h.2 n a
 |cu h=>exact h.2 n a
 | @vec sz xs e h=>
  have:=fi.aq (.agg h) n (by grind[V.aq,bp.aq])
  grind[V.aq,bp.aq]
 | @box xs e h=>
  have:=fi.aq (.agg h) n (by grind[V.aq,bp.aq])
  grind[V.aq,bp.aq]
theorem Rel.weaken{ao:Ctx}{φ:db}{S:dj}{n:Nat->Bool}{a:Act}{w:World}(R:Rel ao nt φ S env J n a w)(he:M0 env env')(hs:pX J J'):Rel ao nt φ S env' J' n a w:=by
 refine⟨⟨λb x e=>?_,λb j x y e p=>?_,R.bm.st⟩,λk g v ad aj=>?_,λk g v ad aj=>?_,λk g v ad aj=>?_,λb x e=>?_,R.size,R.defers,R.ext,λb x e=>?_,R.fix,R.fV⟩
 . obtain⟨f,h1,c⟩:=hs b x e;exact c.EF (R.bm.blk b f h1)
 . obtain⟨f,h1,c⟩:=hs b x e;obtain⟨q,aZ,ba⟩:=hs j y p;exact R.bm.inj b j f q h1 aZ
 . obtain⟨v0,h1,c⟩:=he k g v ad;obtain⟨x,e,o⟩:=R.fT k g v0 h1 aj;exact⟨x,e,c.EO o⟩
 . obtain⟨v0,h1,c⟩:=he k g v ad;exact R.gJ k g v0 h1 aj
 . obtain⟨v0,h1,c⟩:=he k g v ad;exact c.aq n (R.fS k g v0 h1 aj)
 . obtain⟨f,h1,c⟩:=hs b x e;exact⟨(R.dp b f h1).1,c.aq n (R.dp b f h1).2⟩
 . obtain⟨f,h1,c⟩:=hs b x e;exact R.own b f h1
theorem Conv.weaken(he:M0 env env')(hs:pX J J'):Conv kk N env J N env' J':=λao nt φ S a w _ R=>⟨φ,S,R.weaken he hs⟩
theorem Rel.Ei{ao:Ctx}{φ:db}{S:dj}{a:Act}{w:World}(R:Rel ao nt φ S env J (lt N) a w){sz:Nat}(B:0<sz)(E:ao.k<=N):
 Rel ao nt (fe φ N (0,0)) S env (cn J N (.arr sz [])) (lt (N+1)) a w:=by
 have D:∀b,lt N b=true->fe φ N (0,0) b=φ b:=by
  intro b j;simp[lt]at j
  grind[fe]
 have o:∀b,lt N b=true->lt (N+1) b=true:=λb j=>L5 (by simp) j
 have e:=R.zb D;have cm:(fe φ N (0,0) N).2=0:=by simp[fe]
 have f:∀b x,aJ (cn J N (.arr sz [])) b=some x->(b=N/\x= .arr sz [])\/(b≠N/\aJ J b=some x):=by
  grind[cE]
 refine⟨⟨λb x c=>?_,λb q x y c p A h0 t=>?_,e.bm.st⟩,e.fT,e.gJ,λk g v ad aj=>V.gH o (e.fS k g v ad aj),λb x c=>?_,e.size,e.defers,e.ext,λb x c h0=>?_,e.fix,λb j=>by simp[lt];omega⟩
 . rcases f b x c with⟨rfl,rfl⟩|⟨_,c⟩
   . exact⟨by simp,by simp,by simp,B,λh=>absurd cm h⟩
   . exact e.bm.blk b x c
 . rcases f b x c with⟨rfl,rfl⟩|⟨_,c⟩
   . grind
   . rcases f q y p with⟨rfl,rfl⟩|⟨_,p⟩
     . grind
     . exact e.bm.inj b q x y c p A h0 t
 . rcases f b x c with⟨rfl,rfl⟩|⟨_,c⟩
   . exact⟨by simp[lt],rfl⟩
   . exact⟨o b (e.dp b x c).1,bp.gH o (e.dp b x c).2⟩
 . rcases f b x c with⟨rfl,rfl⟩|⟨_,c⟩
   . grind
   . exact e.own b x c h0
end
end
section
open Go
variable [da]
inductive aD where
 |bool
 |int (k:IntKind)
 |str
 |slice (t:aD)
 |nm (n:Nat)
def aD.beq:aD->aD->Bool
 |.bool,.bool=>true
 |.int k,.int a=>decide (k=a)
 |.str,.str=>true
 |.slice r,.slice c=>aD.beq r c
 |.nm n,.nm m=>Nat.beq n m
 |_,_=>false
theorem aD.beq_eq:∀{a b:aD},aD.beq a b=true->a=b
 |.bool,.bool,_=>rfl
 |.int k,.int c,h=>by grind[aD.beq]
 |.str,.str,_=>rfl
 |.slice r,.slice e,h=>by simp[aD.beq]at h;rw[aD.beq_eq h]
 |.nm n,.nm m,h=>by grind[aD.beq,Nat.eq_of_beq_eq_true]
 |.bool,.int _,h|.bool,.str,h|.bool,.slice _,h|.bool,.nm _,h=>by simp[aD.beq]at h
 |.int _,.bool,h|.int _,.str,h|.int _,.slice _,h|.int _,.nm _,h=>by simp[aD.beq]at h
 |.str,.int _,h|.str,.bool,h|.str,.slice _,h|.str,.nm _,h=>by simp[aD.beq]at h
 |.slice _,.int _,h|.slice _,.str,h|.slice _,.bool,h|.slice _,.nm _,h=>by simp[aD.beq]at h
 |.nm _,.int _,h|.nm _,.str,h|.nm _,.bool,h|.nm _,.slice _,h=>by grind[aD.beq]
theorem aD.beq_refl:∀(a:aD),aD.beq a a=true
 |.bool=>rfl
 |.int k=>by simp[aD.beq]
 |.str=>rfl
 |.slice r=>by exact aD.beq_refl r
 |.nm n=>by grind[aD.beq,Nat.beq_refl]
def aD.dec(a b:aD):Decidable (a=b):=
 match h:aD.beq a b with
 |true=>.isTrue (aD.beq_eq h)
 |false=>.isFalse λe=>by rw[e,aD.beq_refl]at h;cases h
def aD.den(D:Nat->Type):aD->Type
 |.bool=>Bool
 |.int _=>Int
 |.str=>List UInt8
 |.slice t=>List (aD.den D t)
 |.nm n=>D n
structure Cell (D:Nat->Type) where
 ty:aD
 val:ty.den D
def Cell.as{D:Nat->Type}(t:aD)(c:Cell D):Option (t.den D):=
 match aD.dec c.ty t with
 |.isTrue h=>some (Eq.rec (motive:=λt _=>aD.den D t) c.val h)
 |.isFalse _=>none
theorem Cell.jE{D:Nat->Type}{t:aD}{c:Cell D}{x:t.den D}(h:c.as t=some x):c=⟨t,x⟩:=by
 obtain⟨u,v⟩:=c;unfold Cell.as at h;split at h
 all_goals grind
theorem Cell.N0{D:Nat->Type}{t:aD}{x:t.den D}:Cell.as t (⟨t,x⟩:Cell D)=some x:=by
 unfold Cell.as;split
 . rfl
 grind
def D0(D:Nat->Type)(enc:∀n,D n->List T):(t:aD)->t.den D->List T
 |.bool,b=>[.bool b]
 |.int k,n=>[.int k n]
 |.str,s=>[.str s]
 |.slice t,l=>[.slice (List.map (D0 D enc t) l)]
 |.nm n,x=>enc n x
def PI(D:Nat->Type)(enc:∀n,D n->List T):Cell D->T
 |⟨.bool,b⟩=>.bool b
 |⟨.int k,n⟩=>.int k n
 |⟨.str,s⟩=>.str s
 |⟨.slice t,l⟩=>.slice (List.map (D0 D enc t) l)
 |⟨.nm _,_⟩=>.bool false
structure cK where
 D:Nat->Type
 jP:∀n,D n
 rE:∀n,D n->List (Cell D)
 make:∀n,List (Cell D)->Option (D n)
 du:Nat->List aD
 enc:∀n,D n->List T
 PJ:∀n x,enc n x=(rE n x).map (PI D enc)
 mk_eq:∀n l x,make n l=some x->rE n x=l
 QJ:∀n x,(rE n x).map Cell.ty=du n
 pos:∀n,0<(du n).length
 QI:Nat->Option aD:=λ_=>none
 own:List (List Bool×Nat×aD):=[]
 cb:Option aD:=none
 ro:List Nat:=[]
 P0:Nat->Option aD:=λ_=>none
variable {U:cK}
abbrev cK.C(U:cK):=Cell U.D
abbrev aD.d(U:cK)(t:aD):=t.den U.D
def aD.jP(U:cK):(t:aD)->t.den U.D
 |.bool=>false
 |.int _=>(0:Int)
 |.str=>([]:List UInt8)
 |.slice t=>([]:List (t.den U.D))
 |.nm n=>U.jP n
def aD.uc:aD->Bool
 |.nm _=>true
 |_=>false
def aD.row(U:cK):(t:aD)->t.den U.D->List (Cell U.D)
 |.bool,b=>[⟨.bool,b⟩]
 |.int k,n=>[⟨.int k,n⟩]
 |.str,s=>[⟨.str,s⟩]
 |.slice t,l=>[⟨.slice t,l⟩]
 |.nm n,x=>U.rE n x
def aD.cells(U:cK):aD->List aD
 |.nm n=>U.du n
 |t=>[t]
def aD.sz(U:cK)(t:aD):Nat:=(t.cells U).length
def iQ(U:cK)(t:aD):List (Cell U.D)->Option (t.den U.D)
 |[c]=>c.as t
 |_=>none
def aD.mk(U:cK):(t:aD)->List (Cell U.D)->Option (t.den U.D)
 |.nm n,l=>U.make n l
 |.bool,l=>iQ U .bool l
 |.int k,l=>iQ U (.int k) l
 |.str,l=>iQ U .str l
 |.slice t,l=>iQ U (.slice t) l
theorem A7{t:aD}{l:List (Cell U.D)}{x:t.den U.D}(h:iQ U t l=some x):l=[⟨t,x⟩]:=by
 unfold iQ at h
 grind[Cell.jE]
def Cell.enc(U:cK)(c:Cell U.D):T:=PI U.D U.enc c
def aD.enc(U:cK)(t:aD)(x:t.den U.D):List T:=D0 U.D U.enc t x
theorem aD.tY{t:aD}{x:t.den U.D}:t.enc U x=(t.row U x).map (Cell.enc U):=by
 cases t<;>first|rfl|skip
 case nm n=>exact U.PJ n x
theorem aD.ago{t:aD}{x:t.den U.D}:(t.row U x).map Cell.ty=t.cells U:=by
 cases t<;>first|rfl|skip
 case nm n=>exact U.QJ n x
theorem aD.EL{t:aD}{x:t.den U.D}:(t.row U x).length=t.sz U:=by
 rw[<-kn,aD.ago];rfl
theorem aD.rC{t:aD}{x:t.den U.D}:(t.enc U x).length=t.sz U:=by
 rw[aD.tY,kn,aD.EL]
theorem aD.vK{t:aD}:0<t.sz U:=by
 cases t<;>simp[aD.sz,aD.cells]
 exact U.pos _
theorem aD.Ef:∀{t:aD} {l:List (Cell U.D)} {x:t.den U.D},t.mk U l=some x->t.row U x=l
 |.nm n,l,x,h=>U.mk_eq n l x h
 |.bool,l,x,h=>(A7 h).symm
 |.int k,l,x,h=>(A7 h).symm
 |.str,l,x,h=>(A7 h).symm
 |.slice t,l,x,h=>(A7 h).symm
def aD.at(U:cK)(t:aD)(l:List (t.den U.D))(i:Nat):t.den U.D:=l.getD i (t.jP U)
theorem za{t:aD}{l:List (t.den U.D)}{i:Nat}(h:i<l.length):el (l.map (t.enc U)) i=t.enc U (t.at U l i):=by
 simp[el,aD.at,eu h]
end
section
open Go
variable [da]
variable {U:cK}
inductive bc (U:cK) where
 |t (c:Cell U.D)
 |ptr (b o:Nat)
 |cl (b:Nat)(t:aD)(i o:Nat)
 |dx (t:aD)(x:t.den U.D)(o:Nat)
 |arr (b:Nat)
 |sub (b lo len:Nat)
 |pre (b h:Nat)
 |dS (b lo len:Nat)
 |mp (b:Nat)
 |eh (b:Nat)
 |cr (b:Nat)
 |bC
 |eT
 |eS
 |fn (f:Nat)(caps:List Nat)
 |dead
inductive bF (U:cK) where
 |c (x:bc U)
 |agg (cs:List (bc U))
 |aS (vs:List (bF U))
inductive ct (U:cK) where
 |box (cs:List (bc U))
 |arr (t:aD)(l:List (t.den U.D))
 |rows (sz:Nat)(r:List (List (bc U)))
 |set (ks:List (List UInt8))
 |buf (E:Nat)(s:List UInt8)
 |bX (E:Nat)(c:bc U)
 |cu (t:aD)(l:List (t.den U.D))(i o:Nat)(c:bc U)
abbrev bO(U:cK):=List (Nat×bF U)
abbrev a'(U:cK):=List (Nat×ct U)
abbrev ej:=List (Nat×Nat×Bool)
def aU{α:Type}:List (Nat×α)->Nat->Option α
 |[],_=>none
 |(k,x)::r,i=>match Nat.beq k i with
  |true=>some x
  |false=>aU r i
def cj{α:Type}:List (Nat×α)->Nat->α->List (Nat×α)
 |[],b,x=>[(b,x)]
 |(k,y)::r,b,x=>match Nat.beq k b with
  |true=>(k,x)::r
  |false=>(k,y)::cj r b x
def dl{α:Type}:List (Nat×α)->Nat->List (Nat×α)
 |[],_=>[]
 |(k,y)::r,b=>match Nat.beq k b with
  |true=>dl r b
  |false=>(k,y)::dl r b
theorem cR{a b:Nat}(h:Nat.beq a b=true):a=b:=Ep h
theorem ij{a b:Nat}(h:Nat.beq a b=false):a≠b:=λe=>by simp_all
theorem gi{α:Type}(J:List (Nat×α))(b:Nat)(x:α)(i:Nat):aU (cj J b x) i=if b=i then some x else aU J i:=by
 induction J with
 |nil=>
  grind[cj,aU,cR,ij]
 |cons y r ih=>
  grind[cj,cR,aU]
theorem lS{α:Type}(J:List (Nat×α))(b i:Nat):aU (dl J b) i=if b=i then none else aU J i:=by
 induction J with
 |nil=>simp[dl,aU]
 |cons y r ih=>
  grind[dl,cR,aU]
def vS:C->Option (bc U)
 |.t (.bool b)=>some (.t ⟨.bool,b⟩)
 |.t (.int k n)=>some (.t ⟨.int k,n⟩)
 |.t (.str s)=>some (.t ⟨.str,s⟩)
 |.bC=>some .bC
 |.eT=>some .eT
 |.eS=>some .eS
 |.dead=>some .dead
 |.fn f []=>some (.fn f [])
 |_=>none
def lp:List C->Option (List (bc U))
 |[]=>some []
 |c::cs=>match vS c,lp cs with
  |some x,some xs=>some (x::xs)
  |_,_=>none
def vT:V->Option (bF U)
 |.c x=>match vS x with
  |some y=>some (.c y)
  |none=>none
 |.agg cs=>match lp cs with
  |some a=>some (.agg a)
  |none=>none
 |.aS _=>none
def vI(gl:ej):Nat->Option (Nat×Bool)->Nat->Bool
 |0,_,_=>false
 |b+1,gd,k=>match aU gl k with
  |none=>true
  |some a=>match gd with
   |none=>false
   |some g=>(Nat.beq g.1 a.1&&(g.2==a.2))||vI gl b (aU gl g.1) k
def e5(env:bO U)(t:Nat)(b:Bool):Option Bool:=
 match aU env t with
 |some (.c (.t ⟨.bool,x⟩))=>some (match b with|true=>x|false=>!x)
 |_=>none
def k7(gl:ej)(env:bO U):Nat->Option (Nat×Bool)->Option Bool
 |_,none=>some true
 |0,some _=>none
 |a+1,some (t,b)=>match k7 gl env a (aU gl t),e5 env t b with
  |some x,some y=>some (x&&y)
  |_,_=>none
def p4:Nat:=200
def de(gl:ej)(gd:Option (Nat×Bool))(env:bO U):aL->Option (bF U)
 |.const v=>vT v
 |.tmp k=>match vI gl p4 gd k with
  |true=>aU env k
  |false=>none
def Di(gl:ej)(gd:Option (Nat×Bool))(env:bO U)(c:aL)(b:Bool):aL->Option (bF U)
 |.const v=>vT v
 |.tmp k=>match vI gl p4 gd k with
  |true=>aU env k
  |false=>match c,aU gl k with
   |.tmp d,some (t,a)=>match Nat.beq t d&&(a==b)with
    |true=>aU env k
    |false=>none
   |_,_=>none
def lq(gl:ej)(gd:Option (Nat×Bool))(env:bO U):List aL->Option (List (bF U))
 |[]=>some []
 |x::r=>match de gl gd env x,lq gl gd env r with
  |some v,some vs=>some (v::vs)
  |_,_=>none
def pq:bF U->Option (List (bc U))
 |.c x=>some [x]
 |.agg cs=>some cs
 |.aS _=>none
def n'(a:List (bc U))(off:Nat)(cs:List (bc U)):List (bc U):=a.take off++cs++a.drop (off+cs.length)
def zc(gl:ej)(gd:Option (Nat×Bool))(env:bO U):List (bc U)->List (Nat×Nat×aL)->Option (List (bc U))
 |a,[]=>some a
 |a,(off,n,x)::r=>match de gl gd env x with
  |none=>none
  |some v=>match pq v with
   |none=>none
   |some cs=>match Nat.beq cs.length n&&Nat.ble (off+n) a.length with
    |true=>zc gl gd env (n' a off cs) r
    |false=>none
theorem J7{a cs:List (bc U)}{o:Nat}(h:o+cs.length<=a.length):(n' a o cs).length=a.length:=by
 simp only[n',dP,ju,pH];omega
def bc.toT:bc U->Option T
 |.t c=>match c.ty.uc with
  |true=>none
  |false=>some (c.enc U)
 |.bC=>some (.slice [])
 |_=>none
def ha:List (bc U)->Option (List T)
 |[]=>some []
 |c::cs=>match c.toT,ha cs with
  |some t,some ts=>some (t::ts)
  |_,_=>none
def uX(gl:ej)(gd:Option (Nat×Bool))(env:bO U)(sz:Nat):List (List (bc U))->List (Nat×aL)->Option (List (List (bc U)))
 |rows,[]=>some rows
 |rows,(i,x)::r=>match de gl gd env x with
  |none=>none
  |some v=>match pq v with
   |none=>none
   |some cs=>match ha cs with
    |none=>none
    |some _=>match Nat.beq cs.length sz&&Nat.ble (i+1) rows.length with
     |true=>uX gl gd env sz (rows.set i cs) r
     |false=>none
inductive fz (U:cK) where
 |ty (t:aD)(l:List (t.den U.D))
 |rows (r:List (List (bc U)))
 |nil
def fz.len:fz U->Nat
 |.ty _ l=>l.length
 |.rows r=>r.length
 |.nil=>0
def hh:List aD->List (bc U)->Option (List (Cell U.D))
 |[],[]=>some []
 |t::ts,.t c::cs=>match hh ts cs with
  |some l=>some (c::l)
  |none=>none
 |.slice t::ts,.bC::cs=>match hh ts cs with
  |some l=>some (⟨.slice t,([]:List (t.den U.D))⟩::l)
  |none=>none
 |_,_=>none
def mQ(U:cK)(t:aD)(cs:List (bc U)):Option (t.den U.D):=
 match hh (t.cells U) cs with
 |some l=>t.mk U l
 |none=>none
def l0(U:cK)(t:aD):List (List (bc U))->Option (List (t.den U.D))
 |[]=>some []
 |r::a=>match mQ U t r,l0 U t a with
  |some x,some xs=>some (x::xs)
  |_,_=>none
def fz.as(t:aD):fz U->Option (List (t.den U.D))
 |.ty u l=>Cell.as (.slice t) ⟨.slice u,l⟩
 |.rows r=>l0 U t r
 |.nil=>some []
def fz.join:fz U->fz U->Option (fz U)
 |.nil,y=>some y
 |.ty t l,y=>match y.as t with
  |some a=>some (.ty t (l++a))
  |none=>none
 |.rows r,.ty t l=>match l0 U t r with
  |some c=>some (.ty t (c++l))
  |none=>none
 |.rows r,.rows e=>some (.rows (r++e))
 |.rows r,.nil=>some (.rows r)
def fz.blk(sz:Nat):fz U->Option (ct U)
 |.ty t l=>match Nat.beq (t.sz U) sz with
  |true=>some (.arr t l)
  |false=>none
 |.rows r=>match r.all λx=>Nat.beq x.length sz with
  |true=>some (.rows sz r)
  |false=>none
 |.nil=>some (.rows sz [])
def mN(J:a' U):bF U->Option (fz U×Option Nat)
 |.c (.t ⟨.slice t,l⟩)=>some (.ty t l,none)
 |.c .bC=>some (.nil,none)
 |.c (.arr b)=>match aU J b with
  |some (.arr t l)=>some (.ty t l,some b)
  |some (.rows _ r)=>some (.rows r,some b)
  |_=>none
 |_=>none
def ct.cU:ct U->Option (Nat×Nat)
 |.box cs=>some (1,cs.length)
 |.arr t l=>some (t.sz U,l.length)
 |.rows sz r=>some (sz,r.length)
 |.set _=>none
 |.buf _ s=>some (1,s.length)
 |.bX _ _=>none
 |.cu t l _ _ _=>some (t.sz U,l.length)
def Dl(J:a' U)(b sz:Nat):Bool:=
 match aU J b with
 |some x=>(match x.cU with|some p=>Nat.beq p.1 sz|none=>false)
 |none=>false
def room(bytes n:Nat):Bool:=decide ((2*n+192)*bytes<=gr)&&decide (n<=dd)
def Rm:BinOp->IntKind->IntKind->Int->Int->Option (Bool×Cell U.D)
 |.add,k,c,a,b=>if k=c then some (true,⟨.int k,k.wrap (a+b)⟩)else none
 |.sub,k,c,a,b=>if k=c then some (true,⟨.int k,k.wrap (a-b)⟩)else none
 |.mul,k,c,a,b=>if k=c then some (true,⟨.int k,k.wrap (a*b)⟩)else none
 |.quo,k,c,a,b=>if k=c then some (!decide (b=0),⟨.int k,k.wrap (a.tdiv b)⟩)else none
 |.rem,k,c,a,b=>if k=c then some (!decide (b=0),⟨.int k,a.tmod b⟩)else none
 |.and,k,c,a,b=>if k=c then some (true,⟨.int k,k.wrap (BitVec.ofInt k.bits a &&& BitVec.ofInt k.bits b).toNat⟩)else none
 |.or,k,c,a,b=>if k=c then some (true,⟨.int k,k.wrap (BitVec.ofInt k.bits a ||| BitVec.ofInt k.bits b).toNat⟩)else none
 |.xor,k,c,a,b=>if k=c then some (true,⟨.int k,k.wrap (BitVec.ofInt k.bits a ^^^ BitVec.ofInt k.bits b).toNat⟩)else none
 |.andNot,k,c,a,b=>if k=c then some (true,⟨.int k,k.wrap (BitVec.ofInt k.bits a &&& ~~~ BitVec.ofInt k.bits b).toNat⟩)else none
 |.shl,k,_,a,b=>some (decide (0<=b),⟨.int k,k.wrap (a*2^min b.toNat k.bits)⟩)
 |.shr,k,_,a,b=>some (decide (0<=b),⟨.int k,a.fdiv (2^min b.toNat k.bits)⟩)
 |.eql,k,c,a,b=>if k=c then some (true,⟨.bool,decide (a=b)⟩)else none
 |.neq,k,c,a,b=>if k=c then some (true,⟨.bool,!decide (a=b)⟩)else none
 |.lss,k,c,a,b=>if k=c then some (true,⟨.bool,decide (a<b)⟩)else none
 |.leq,k,c,a,b=>if k=c then some (true,⟨.bool,decide (a<=b)⟩)else none
 |.gtr,k,c,a,b=>if k=c then some (true,⟨.bool,decide (b<a)⟩)else none
 |.geq,k,c,a,b=>if k=c then some (true,⟨.bool,decide (b<=a)⟩)else none
def Rn:BinOp->List UInt8->List UInt8->Option (Bool×Cell U.D)
 |.add,a,b=>some (decide (a.length+b.length<=dK),⟨.str,a++b⟩)
 |.eql,a,b=>some (true,⟨.bool,decide (a=b)⟩)
 |.neq,a,b=>some (true,⟨.bool,!decide (a=b)⟩)
 |.lss,a,b=>some (true,⟨.bool,Op.bytesLess a b⟩)
 |.leq,a,b=>some (true,⟨.bool,Op.bytesLess a b||decide (a=b)⟩)
 |.gtr,a,b=>some (true,⟨.bool,!(Op.bytesLess a b||decide (a=b))⟩)
 |.geq,a,b=>some (true,⟨.bool,!(Op.bytesLess a b)⟩)
 |_,_,_=>none
def H3(op:BinOp):Cell U.D->Cell U.D->Option (Bool×Cell U.D)
 |⟨.int k,a⟩,⟨.int c,b⟩=>Rm op k c a b
 |⟨.str,a⟩,⟨.str,b⟩=>Rn op a b
 |_,_=>none
def fc(a b:Bool):Bool:=a==b
def hJ(a b:Int):Bool:=decide (a=b)
def jb(a b:List UInt8):Bool:=decide (a=b)
def aB(m:Int)(n:Nat):Bool:=decide (0<=m)&&decide (m.toNat<n)
def ed(lo hi:Int)(n:Nat):Bool:=decide (0<=lo)&&(decide (lo<=hi)&&decide (hi<=n))
def eI{α:Type}(l:List α)(lo hi:Int):List α:=(l.take hi.toNat).drop lo.toNat
def ki(a b:Int):Int:=Max.max a b
def dD(a b:Int):Int:=Min.min a b
def hY(s:List UInt8)(m:Int):Int:=((s.getD m.toNat 0).toNat:Int)
def mo(m:Int):List UInt8:=(Utf8.encode m).data.toList
def bW(k:IntKind)(m:Int):Int:=k.wrap m
def tO(a b:List UInt8):List UInt8:=a++b
def H7:Nat->Cell U.D->Cell U.D->Option Bool
 |0,⟨.bool,a⟩,⟨.bool,b⟩=>some (fc a b)
 |1,⟨.int k,a⟩,⟨.int c,b⟩=>if k=c then some (hJ a b)else none
 |2,⟨.str,a⟩,⟨.str,b⟩=>some (jb a b)
 |_,_,_=>none
def zD:List Nat->List (bc U)->List (bc U)->Option Bool
 |[],[],[]=>some true
 |k::ks,.t x::xs,.t y::a=>match H7 k x y,zD ks xs a with
  |some b,some r=>some (b&&r)
  |_,_=>none
 |_,_,_=>none
def pr(agg:Bool)(n:Nat)(cs:List (bc U))(o:Nat):Option (bF U):=
 match agg with
 |true=>match Nat.ble (o+n) cs.length with
  |true=>some (.agg ((cs.drop o).take n))
  |false=>none
 |false=>match cs[o]? with
  |some c=>some (.c c)
  |none=>none
def nD(gl:ej)(gd:Option (Nat×Bool))(env:bO U):Option aL->Option (Option Int)
 |none=>some none
 |some x=>match de gl gd env x with
  |some (.c (.t ⟨.int _,n⟩))=>some (some n)
  |_=>none
def zB:List (bF U)->Option (List Nat)
 |[]=>some []
 |.c (.ptr b 0)::r=>match zB r with
  |some l=>some (b::l)
  |none=>none
 |_=>none
abbrev adK(U:cK):=Option (Bool×bF U×a' U)
def rk(U:cK)(t:aD)(l:List (t.den U.D))(i o:Nat)(cs:List (bc U)):Option (List (t.den U.D)):=
 match mQ U t (n' ((t.row U (t.at U l i)).map .t) o cs)with
 |some x=>some (l.set i x)
 |none=>none
def tk(t:aD):List (bc U)->Option (List (t.den U.D))
 |[]=>some []
 |.t c::r=>match c.as t,tk t r with
  |some x,some l=>some (x::l)
  |_,_=>none
 |_::_=>none
def CQ:List (bc U)->Option ((t:aD)×List (t.den U.D))
 |.t c::r=>match c.ty.uc,tk c.ty (.t c::r)with
  |false,some l=>some ⟨c.ty,l⟩
  |_,_=>none
 |_=>none
def strOf(l:List Int):List UInt8:=l.map λm=>UInt8.ofNat m.toNat
def HJ(l:List Int):Bool:=l.all λm=>decide (0<=m)&&decide (m<256)
def vJ(lo len n:Nat):Bool:=decide (lo+len<=n)
def Qd:List (bc U)->Option (bc U)
 |[.arr b]=>some (.arr b)
 |_=>none
def pB(bytes:Nat)(m:Int):Bool:=decide (0<=m/\m.toNat*bytes<=gr/\m.toNat<=dd)
theorem lO{bytes:Nat}{m:Int}:pB bytes m=true↔0<=m/\m.toNat*bytes<=gr/\m.toNat<=dd:=by simp[pB]
def cc(gl:ej)(gd:Option (Nat×Bool))(env:bO U)(J:a' U)(n:Nat)(o:b9):adK U:=
 match o with
 |.mov x=>match de gl gd env x with
  |some v=>some (true,v,J)
  |none=>none
 |.pick c x y=>match de gl gd env c,Di gl gd env c true x,Di gl gd env c false y with
  |some (.c (.t ⟨.bool,b⟩)),some (.c (.t ⟨.bool,p⟩)),some (.c (.t ⟨.bool,q⟩))=>some (true,.c (.t ⟨.bool,bif b then p else q⟩),J)
  |_,_,_=>none
 |.alloc cs=>match lp cs with
  |some xs=>some (true,.c (.ptr n 0),cj J n (.box xs))
  |none=>none
 |.allocA cs=>match lp cs with
  |some xs=>match CQ xs with
   |some ⟨t,l⟩=>some (true,.c (.ptr n 0),cj J n (.arr t l))
   |none=>none
  |none=>none
 |.idxP k x i=>match de gl gd env x,de gl gd env i with
  |some (.c (.ptr b 0)),some (.c (.t ⟨.int _,m⟩))=>match aU J b with
   |some (.arr t _)=>match Nat.beq (t.sz U) 1 with
    |true=>some (aB m k,.c (.cl b t (Int.toNat m) 0),J)
    |false=>none
   |_=>none
  |_,_=>none
 |.idxV k x i=>match de gl gd env x,de gl gd env i with
  |some (.agg cs),some (.c (.t ⟨.int _,m⟩))=>match Nat.beq cs.length k,CQ cs with
   |true,some ⟨t,l⟩=>some (aB m k,.c (.t ⟨t,t.at U l (Int.toNat m)⟩),J)
   |_,_=>none
  |_,_=>none
 |.mslice sz bytes z x=>match de gl gd env x,lp z with
  |some (.c (.t ⟨.int _,m⟩)),some d=>match ha d with
   |none=>none
   |some _=>match d with
    |[.t c]=>match c.ty.uc,Nat.beq sz 1 with
     |false,true=>some (pB bytes m,.c (.arr n),cj J n (.arr c.ty (List.replicate (Int.toNat m) c.val)))
     |_,_=>none
    |[.bC]=>match Nat.beq sz 1 with
     |true=>some (pB bytes m && !decide (Int.toNat m=0),.c (.arr n),cj J n (.box (List.replicate (Int.toNat m) .bC)))
     |false=>none
    |d=>match U.P0 sz with
     |some t=>match mQ U t d,Nat.beq (t.sz U) sz with
      |some x,true=>some (pB bytes m,.c (.arr n),cj J n (.arr t (List.replicate (Int.toNat m) x)))
      |_,_=>none
     |none=>match Nat.beq d.length sz with
      |true=>some (pB bytes m,.c (.arr n),cj J n (.rows sz (List.replicate (Int.toNat m) d)))
      |false=>none
  |_,_=>none
 |.slcP k x lo hi=>match de gl gd env x,nD gl gd env lo,nD gl gd env hi with
  |some (.c (.ptr b 0)),some l,some h=>
   some (ed (l.getD 0) (h.getD (k:Int)) k,.c (.sub b (Int.toNat (l.getD 0)) (Int.toNat (h.getD (k:Int))-Int.toNat (l.getD 0))),J)
  |_,_,_=>none
 |.b2s x=>match de gl gd env x with
  |some (.c (.t ⟨.slice (.int .u8),l⟩))=>some (true,.c (.t ⟨.str,strOf l⟩),J)
  |some (.c .bC)=>some (true,.c (.t ⟨.str,[]⟩),J)
  |some (.c (.arr b))=>match aU J b with
   |some (.arr (.int .u8) l)=>some (true,.c (.t ⟨.str,strOf l⟩),J)
   |_=>none
  |some (.c (.sub b lo len))=>match aU J b with
   |some (.arr (.int .u8) l)=>some (vJ lo len (List.length l),.c (.t ⟨.str,strOf ((l.drop lo).take len)⟩),J)
   |_=>none
  |_=>none
 |.allocS e e8=>some (true,.c (.ptr n 0),cj (cj J (n+1) (.buf e8 [])) n (.bX e (.cr (n+1))))
 |.bsliceT e sz len z parts=>match U.QI e with
  |none=>none
  |some t=>match lp z with
   |some d=>match ha d with
    |none=>none
    |some _=>match Nat.beq d.length sz with
     |false=>none
     |true=>match uX gl gd env sz (List.replicate len d) parts with
      |some rows=>match l0 U t rows with
       |some l=>some (true,.c (.t ⟨.slice t,l⟩),J)
       |none=>none
      |none=>none
   |none=>none
 |.mkset=>some (true,.c (.mp n),cj J n (.set []))
 |.lkset x k=>match de gl gd env x,de gl gd env k with
  |some (.c (.mp b)),some (.c (.t ⟨.str,s⟩))=>match aU J b with
   |some (.set ks)=>some (true,.c (.t ⟨.bool,iN ks s⟩),J)
   |_=>none
  |_,_=>none
 |.upset x k=>match de gl gd env x,de gl gd env k with
  |some (.c (.mp b)),some (.c (.t ⟨.str,s⟩))=>match aU J b with
   |some (.set ks)=>some (true,.aS [],cj J b (.set (ig ks s)))
   |_=>none
  |_,_=>none
 |.appendB e bytes x y=>match de gl gd env x,de gl gd env y with
  |some (.c (.cr b)),some (.c (.t ⟨.str,s⟩))=>match aU J b with
   |some (.buf j l)=>match Nat.beq j e with
    |true=>some (room bytes (List.length l+List.length s),.c (.cr n),cj (dl J b) n (.buf e (tO l s)))
    |false=>none
   |_=>none
  |_,_=>none
 |.sdata x=>match de gl gd env x with
  |some (.c (.cr b))=>some (true,.c (.eh b),J)
  |_=>none
 |.ustr e x k=>match de gl gd env x,de gl gd env k with
  |some (.c (.eh b)),some (.c (.t ⟨.int .i64,m⟩))=>match aU J b with
   |some (.buf j l)=>match Nat.beq j e with
    |true=>some (hJ m (List.length l:Int),.c (.t ⟨.str,l⟩),dl J b)
    |false=>none
   |_=>none
  |_,_=>none
 |.box x=>match de gl gd env x with
  |some v=>match pq v with
   |some cs=>some (true,.c (.ptr n 0),cj J n (.box cs))
   |none=>none
  |none=>none
 |.build z parts=>match lp z with
  |some d=>match zc gl gd env d parts with
   |some cs=>some (true,.agg cs,J)
   |none=>none
  |none=>none
 |.bslice sz len z parts=>match lp z with
  |some d=>match ha d with
   |none=>none
   |some _=>match Nat.beq d.length sz with
    |false=>none
    |true=>match uX gl gd env sz (List.replicate len d) parts with
     |some rows=>some (true,.c (.arr n),cj J n (.rows sz rows))
     |none=>none
  |none=>none
 |.load agg k x=>match de gl gd env x with
  |some (.c (.ptr b o))=>match aU J b with
   |some (.box cs)=>match pr agg k cs o with
    |some v=>some (true,v,J)
    |none=>none
   |some (.bX _ c)=>match agg,o with
    |false,1=>some (true,.c c,J)
    |_,_=>none
   |_=>none
  |some (.c (.cl b t i o))=>match aU J b with
   |some (.arr g l)=>match Cell.as (.slice t) (⟨.slice g,l⟩:Cell U.D)with
    |some l=>match pr agg k ((t.row U (t.at U l i)).map .t) o with
     |some v=>some (decide (i<l.length),v,J)
     |none=>none
    |none=>none
   |some (.box cs)=>match pr agg k cs (i*t.sz U+o)with
    |some v=>some (true,v,J)
    |none=>none
   |some (.cu g l B C c)=>match agg with
    |true=>none
    |false=>match Nat.beq o C with
     |true=>match Nat.beq (t.sz U) (g.sz U)with
      |true=>some (decide (i=B),.c c,J)
      |false=>none
     |false=>match Cell.as (.slice t) (⟨.slice g,l⟩:Cell U.D)with
      |some l=>match pr false k ((t.row U (t.at U l i)).map .t) o with
       |some v=>some (decide (i<l.length),v,J)
       |none=>none
      |none=>none
   |_=>none
  |some (.c (.dx t x o))=>match pr agg k ((t.row U x).map .t) o with
   |some v=>some (true,v,J)
   |none=>none
  |_=>none
 |.store k x v=>match de gl gd env x,de gl gd env v with
  |some (.c (.ptr b o)),some v=>match pq v with
   |some cs=>match Nat.beq cs.length k with
    |true=>match aU J b with
     |some (.box A)=>match Nat.ble (o+k) A.length with
      |true=>some (true,.aS [],cj J b (.box (n' A o cs)))
      |false=>none
     |some (.bX e _)=>match o,cs with
      |1,[c]=>some (true,.aS [],cj J b (.bX e c))
      |_,_=>none
     |_=>none
    |false=>none
   |none=>none
  |some (.c (.cl b t i o)),some v=>match pq v with
   |some cs=>match Nat.beq cs.length k&&Nat.ble (o+k) (t.sz U)with
    |true=>match aU J b with
     |some (.arr g l)=>match Cell.as (.slice t) (⟨.slice g,l⟩:Cell U.D)with
      |some l=>match Qd cs with
       |some c=>some (decide (i<l.length),.aS [],cj J b (.cu t l i o c))
       |none=>match rk U t l i o cs with
        |some F=>some (decide (i<l.length),.aS [],cj J b (.arr t F))
        |none=>none
      |none=>none
     |some (.box A)=>match Nat.ble (i*t.sz U+o+k) A.length with
      |true=>some (true,.aS [],cj J b (.box (n' A (i*t.sz U+o) cs)))
      |false=>none
     |some (.cu g l B C c0)=>match cs with
      |[c]=>match Nat.beq o C with
       |true=>match Nat.beq (t.sz U) (g.sz U)with
        |true=>some (decide (i=B),.aS [],cj J b (.cu g l B C c))
        |false=>none
       |false=>match Cell.as (.slice t) (⟨.slice g,l⟩:Cell U.D)with
        |some l=>match rk U t l i o [c]with
         |some F=>some (decide (i<l.length),.aS [],cj J b (.cu t F B C c0))
         |none=>none
        |none=>none
      |_=>none
     |_=>none
    |false=>none
   |none=>none
  |_,_=>none
 |.nilCheck x=>match de gl gd env x with
  |some (.c (.ptr b o))=>some (true,.c (.ptr b o),J)
  |some (.c (.cl b t i o))=>some (true,.c (.cl b t i o),J)
  |some (.c (.dx t x o))=>some (true,.c (.dx t x o),J)
  |_=>none
 |.bin op x y=>match de gl gd env x,de gl gd env y with
  |some (.c (.t p)),some (.c (.t q))=>match H3 op p q with
   |some (c,r)=>some (c,.c (.t r),J)
   |none=>none
  |_,_=>none
 |.eqAgg neg ks x y=>match de gl gd env x,de gl gd env y with
  |some (.agg p),some (.agg q)=>match zD ks p q with
   |some r=>some (true,.c (.t ⟨.bool,match neg with|true=>!r|false=>r⟩),J)
   |none=>none
  |_,_=>none
 |.eqBool neg x y=>match de gl gd env x,de gl gd env y with
  |some (.c (.t ⟨.bool,p⟩)),some (.c (.t ⟨.bool,q⟩))=>some (true,.c (.t ⟨.bool,match neg with|true=>!(fc p q)|false=>fc p q⟩),J)
  |_,_=>none
 |.not x=>match de gl gd env x with
  |some (.c (.t ⟨.bool,b⟩))=>some (true,.c (.t ⟨.bool,!b⟩),J)
  |_=>none
 |.conv k x=>match de gl gd env x with
  |some (.c (.t ⟨.int _,m⟩))=>some (true,.c (.t ⟨.int k,bW k m⟩),J)
  |_=>none
 |.i2s x=>match de gl gd env x with
  |some (.c (.t ⟨.int _,m⟩))=>some (true,.c (.t ⟨.str,mo m⟩),J)
  |_=>none
 |.s2s x=>match de gl gd env x with
  |some (.c (.t ⟨.str,s⟩))=>some (true,.c (.t ⟨.str,s⟩),J)
  |_=>none
 |.fldA off x=>match de gl gd env x with
  |some (.c (.ptr b o))=>some (true,.c (.ptr b (o+off)),J)
  |some (.c (.cl b t i o))=>some (true,.c (.cl b t i (o+off)),J)
  |some (.c (.dx t x o))=>some (true,.c (.dx t x (o+off)),J)
  |_=>none
 |.fld agg off k x=>match de gl gd env x with
  |some (.agg cs)=>match pr agg k cs off with
   |some v=>some (true,v,J)
   |none=>none
  |_=>none
 |.idxA sz x i=>match de gl gd env x,de gl gd env i with
  |some (.c (.t ⟨.slice t,l⟩)),some (.c (.t ⟨.int _,m⟩))=>match Nat.beq (t.sz U) sz with
   |true=>some (aB m l.length,.c (.dx t (t.at U l (Int.toNat m)) 0),J)
   |false=>none
  |some (.c (.arr b)),some (.c (.t ⟨.int _,m⟩))=>match aU J b with
   |some (.arr t l)=>match Nat.beq (t.sz U) sz with
    |true=>some (aB m l.length,.c (.cl b t (Int.toNat m) 0),J)
    |false=>none
   |some (.box cs)=>match Nat.beq 1 sz with
    |true=>some (aB m cs.length,.c (.cl b .bool (Int.toNat m) 0),J)
    |false=>none
   |_=>none
  |_,_=>none
 |.idxS x i=>match de gl gd env x,de gl gd env i with
  |some (.c (.t ⟨.str,s⟩)),some (.c (.t ⟨.int _,m⟩))=>some (aB m s.length,.c (.t ⟨.int .u8,hY s m⟩),J)
  |_,_=>none
 |.slcS x lo hi=>match de gl gd env x,nD gl gd env lo,nD gl gd env hi with
  |some (.c (.t ⟨.str,s⟩)),some l,some h=>
   some (ed (l.getD 0) (h.getD (s.length:Int)) s.length,.c (.t ⟨.str,eI s (l.getD 0) (h.getD (s.length:Int))⟩),J)
  |_,_,_=>none
 |.slc sz x lo hi=>match de gl gd env x,nD gl gd env lo,nD gl gd env hi with
  |some (.c (.t ⟨.slice t,s⟩)),some l,some h=>match Nat.beq (t.sz U) sz with
   |true=>some (ed (l.getD 0) (h.getD (s.length:Int)) s.length,.c (.t ⟨.slice t,eI s (l.getD 0) (h.getD (s.length:Int))⟩),J)
   |false=>none
  |some (.c (.arr b)),some none,some h=>match aU J b with
   |some (.arr t s)=>match Nat.beq (t.sz U) sz with
    |true=>some (ed 0 (h.getD (s.length:Int)) s.length,.c (.pre b (Int.toNat (h.getD (s.length:Int)))),J)
    |false=>none
   |_=>none
  |some (.c (.arr b)),some (some lo),some h=>match aU J b with
   |some (.arr t s)=>match Nat.beq (t.sz U) sz with
    |true=>some (ed lo (h.getD (s.length:Int)) s.length,.c (.dS b (Int.toNat lo) (Int.toNat (h.getD (s.length:Int))-Int.toNat lo)),J)
    |false=>none
   |_=>none
  |_,_,_=>none
 |.slc0 x=>match de gl gd env x with
  |some (.c (.t ⟨.slice _,_⟩))=>some (true,.c .bC,J)
  |some (.c .bC)=>some (true,.c .bC,J)
  |some (.c (.arr _))=>some (true,.c .bC,J)
  |_=>none
 |.mkfn f caps=>match lq gl gd env caps with
  |some vs=>match zB vs with
   |some l=>some (true,.c (.fn f l),J)
   |none=>none
  |none=>none
 |.ext x i=>match de gl gd env x with
  |some (.aS vs)=>match vs[i]? with
   |some v=>some (true,v,J)
   |none=>none
  |_=>none
 |.len str x=>match str,de gl gd env x with
  |true,some (.c (.t ⟨.str,s⟩))=>some (true,.c (.t ⟨.int .i64,(s.length:Int)⟩),J)
  |false,some (.c (.cr b))=>match aU J b with
   |some (.buf _ s)=>some (true,.c (.t ⟨.int .i64,(s.length:Int)⟩),J)
   |_=>none
  |false,some v=>match mN J v with
   |some e=>some (true,.c (.t ⟨.int .i64,(e.1.len:Int)⟩),J)
   |none=>match v with
    |.c (.arr b)=>match aU J b with
     |some (.box cs)=>some (true,.c (.t ⟨.int .i64,(cs.length:Int)⟩),J)
     |_=>none
    |_=>none
  |_,_=>none
 |.append te sz bytes x y=>match de gl gd env x,de gl gd env y with
  |some (.c .bC),some v=>match mN J v with
   |some (u,_)=>match u.blk sz with
    |some blk=>some (room bytes u.len,.c (.arr n),cj J n blk)
    |none=>none
   |none=>none
  |some (.c (.arr b)),some v=>match mN J (.c (.arr b)),mN J v with
   |some (G,_),some (u,H)=>match (match H with|some w=>Nat.beq w b|none=>false)with
    |true=>none
    |false=>match Dl J b sz with
     |false=>none
     |true=>match G.join u with
      |some K=>match K.blk sz with
       |some blk=>some (room bytes K.len,.c (.arr n),cj (dl J b) n blk)
       |none=>none
      |none=>none
   |_,_=>none
  |some (.c (.pre b h)),some (.c (.dS w lo len))=>match Nat.beq b w with
   |true=>match aU J b with
    |some (.arr t l)=>match Nat.beq (t.sz U) sz with
     |true=>some (decide (h+len<=l.length)&&decide (lo+len<=l.length),.c (.arr n),cj (dl J b) n (.arr t (l.take h++(l.drop lo).take len)))
     |false=>none
    |_=>none
   |false=>none
  |some (.c (.cr b)),some (.c (.t ⟨.slice (.int .u8),I⟩))=>match aU J b with
   |some (.buf j l)=>match Nat.beq j te&&Nat.beq sz 1 with
    |true=>some (room bytes (List.length l+List.length (strOf I))&&HJ I,.c (.cr n),cj (dl J b) n (.buf j (tO l (strOf I))))
    |false=>none
   |_=>none
  |_,_=>none
 |.appendT _ sz bytes x y=>match de gl gd env x,de gl gd env y with
  |some (.c (.arr b)),some v=>match mN J (.c (.arr b)),mN J v with
   |some (G,_),some (u,H)=>match (match H with|some w=>Nat.beq w b|none=>false)with
    |true=>none
    |false=>match Dl J b sz with
     |false=>none
     |true=>match G.join u with
      |some (.ty t l)=>match Nat.beq (t.sz U) sz with
       |true=>some (room bytes l.length,.c (.t ⟨.slice t,l⟩),dl J b)
       |false=>none
      |_=>none
   |_,_=>none
  |_,_=>none
 |.max2 x y=>match de gl gd env x,de gl gd env y with
  |some (.c (.t ⟨.int k,a⟩)),some (.c (.t ⟨.int E,b⟩))=>if k=E then some (true,.c (.t ⟨.int k,ki a b⟩),J)else none
  |_,_=>none
 |.min2 x y=>match de gl gd env x,de gl gd env y with
  |some (.c (.t ⟨.int k,a⟩)),some (.c (.t ⟨.int E,b⟩))=>if k=E then some (true,.c (.t ⟨.int k,dD a b⟩),J)else none
  |_,_=>none
 |.eqNil .. |.call .. |.callv .. |.lkE .. |.upD .. |.bsliceC .. |.appendC .. =>none
end
section
open Go
variable [da]
variable {U:cK}
inductive ca (N:Nat)(J:a' U):bc U->C->Prop
 |t (c:Cell U.D):ca N J (.t c) (.t (c.enc U))
 |ptr (b o:Nat):ca N J (.ptr b o) (.ptr b o)
 |cl (b:Nat) (t:aD) (i o:Nat):ca N J (.cl b t i o) (.cl b (t.sz U) i o)
 |dx (t:aD) (x:t.den U.D) (o:Nat):ca N J (.dx t x o) (.dx (t.enc U x) o)
 |arr (b sz n:Nat) (w1:b<N) (h:∀x,aU J b=some x->∀p,x.cU=some p->p=(sz,n)):ca N J (.arr b) (.arr b sz 0 n)
 |sub (b lo len:Nat):ca N J (.sub b lo len) (.fq b 1 lo len)
 |pre (b sz h:Nat) (w1:b<N) (afM:∀x,aU J b=some x->∀p,x.cU=some p->p.1=sz):ca N J (.pre b h) (.arr b sz 0 h)
 |dS (b sz lo len:Nat) (w1:b<N) (afM:∀x,aU J b=some x->∀p,x.cU=some p->p.1=sz):ca N J (.dS b lo len) (.fq b sz lo len)
 |mp (b:Nat):ca N J (.mp b) (.mp b)
 |eh (b:Nat):ca N J (.eh b) (.eh b)
 |cr (b n:Nat) (w1:b<N) (h:∀x,aU J b=some x->∀p,x.cU=some p->p=(1,n)):ca N J (.cr b) (.cr b n)
 |bC:ca N J .bC .bC
 |eT:ca N J .eT .eT
 |eS:ca N J .eS .eS
 |fn (f:Nat) (caps:List Nat):ca N J (.fn f caps) (.fn f caps)
 |dead (d:C):ca N J .dead d
inductive b6 (N:Nat)(J:a' U):bF U->V->Prop
 |c {x d}:ca N J x d->b6 N J (.c x) (.c d)
 |agg {xs oq}:aQ (ca N J) xs oq->b6 N J (.agg xs) (.agg oq)
 |aS (xs:List (bF U)) (oq:List V) (ad:xs.length=oq.length) (h:∀(i:Nat) x d,xs[i]?=some x->oq[i]?=some d->b6 N J x d):b6 N J (.aS xs) (.aS oq)
inductive hb (N:Nat)(J:a' U):ct U->bp->Prop
 |box {cs oq}:aQ (ca N J) cs oq->hb N J (.box cs) (.box oq)
 |arr (t:aD) (l:List (t.den U.D)):hb N J (.arr t l) (.arr (t.sz U) (l.map (t.enc U)))
 |set (ks:List (List UInt8)):hb N J (.set ks) (.set ks)
 |buf (E:Nat) (s:List UInt8):hb N J (.buf E s) (.buf E s)
 |bX {E c d}:ca N J c d->hb N J (.bX E c) (.bX E d)
 |cu (t:aD) (l:List (t.den U.D)) (i o:Nat) {c d}:ca N J c d->hb N J (.cu t l i o c) (.cu (t.sz U) (l.map (t.enc U)) i o d)
 |rows {sz r es}:aQ (λr e=>ha r=some e) r es->(∀x,x∈r->x.length=sz)->hb N J (.rows sz r) (.arr sz es)
def cq(N:Nat)(J:a' U)(J1:aF):Prop:=∀b x,aU J b=some x->b<N/\∃y,aJ J1 b=some y/\hb N J x y
def c6(N:Nat)(J:a' U)(G:Nat->Bool)(env:bO U)(env1:Env):Prop:=∀k v,aU env k=some v->∃v1,look env1 k=some (G k,v1)/\b6 N J v v1
structure gE (gl:ej)(env:bO U)(G:Nat->Bool):Prop where
 free:∀k,aU gl k=none->G k=true
 held:∀k t b,aU gl k=some (t,b)->∃y,e5 env t b=some y/\G k=(G t&&y)
def c7(N:Nat)(J:a' U)(N':Nat)(J':a' U):Prop:=N<=N'/\∀b a,b<N->aU J' b=some a->∃x,aU J b=some x/\∀p,a.cU=some p->x.cU=some p
theorem c7.refl{N:Nat}{J:a' U}:c7 N J N J:=⟨eJ _,λ_ x _ h=>⟨x,h,λ_ h=>h⟩⟩
theorem c7.more{N N':Nat}{J:a' U}(h:N<=N'):c7 N J N' J:=⟨h,λ_ x _ h=>⟨x,h,λ_ h=>h⟩⟩
theorem c7.trans{a c e:Nat}{s1 g j:a' U}(h:c7 a s1 c g)(k:c7 c g e j):c7 a s1 e j:=
 ⟨iO h.1 k.1,λb x f w=>let⟨y,h1,o⟩:=k.2 b x (k' f h.1) w;let⟨z,q,t⟩:=h.2 b y f h1;⟨z,q,λp v=>t p (o p v)⟩⟩
section
variable {N N':Nat}{J J':a' U}{J1:aF}{env:bO U}{env1:Env}{G:Nat->Bool}{gl:ej}{gd:Option (Nat×Bool)}
theorem ca.mono(k:c7 N J N' J'){x:bc U}{d:C}(h:ca N J x d):ca N' J' x d:=by
 cases h with
 |t c=>exact .t c
 |ptr b o=>exact .ptr b o
 |cl b t i o=>exact .cl b t i o
 |dx t x o=>exact .dx t x o
 |arr b sz n a h=>
  refine .arr b sz n (k' a k.1) λx e p j=>?_
  obtain⟨y,h1,g⟩:=k.2 b x a e
  grind
 |sub b lo len=>exact .sub b lo _
 |pre b sz n a h=>
  refine .pre b sz n (k' a k.1) λx e p j=>?_
  obtain⟨y,h1,g⟩:=k.2 b x a e
  grind
 |dS b sz lo len a h=>
  refine .dS b sz lo _ (k' a k.1) λx e p j=>?_
  obtain⟨y,h1,g⟩:=k.2 b x a e
  grind
 |mp b=>exact .mp b
 |eh b=>exact .eh b
 |cr b n a h=>
  refine .cr b n (k' a k.1) λx e p j=>?_
  obtain⟨y,h1,g⟩:=k.2 b x a e
  grind
 |bC=>exact .bC
 |eT=>exact .eT
 |eS=>exact .eS
 |fn f caps=>exact .fn f _
 |dead d=>exact .dead d
theorem b6.mono(k:c7 N J N' J'){x:bF U}{d:V}(h:b6 N J x d):b6 N' J' x d:=by
 induction h with
 |c h=>exact .c (h.mono k)
 |agg h=>exact .agg (h.imp λ_ _ _=>ca.mono k)
 |aS xs a ad h ih=>exact .aS xs a ad ih
theorem hb.mono(k:c7 N J N' J'){x:ct U}{d:bp}(h:hb N J x d):hb N' J' x d:=by
 cases h with
 |box h=>exact .box (h.imp λ_ _ _=>ca.mono k)
 |arr t l=>exact .arr t l
 |set ks=>exact .set ks
 |buf E s=>exact .buf E s
 |bX h=>exact .bX (h.mono k)
 |cu t l i o h=>exact .cu t l i o (h.mono k)
 |rows h a=>exact .rows h a
theorem c6.mono(k:c7 N J N' J')(h:c6 N J G env env1):c6 N' J' G env env1:=λi v hi=>let⟨v1,h1,a⟩:=h i v hi;⟨v1,h1,a.mono k⟩
theorem cq.put(h:cq N J J1){b:Nat}{x:ct U}{y:bp}(o:b<N')(k:c7 N J N' (cj J b x))(p:hb N' (cj J b x) x y):cq N' (cj J b x) (cn J1 b y):=by
 intro c z a;rw[gi]at a;rw[cE];by_cases g:b=c
 . grind
 . rw[ag g]at a⊢;obtain⟨h1,j,e,f⟩:=h c z a;exact⟨k' h1 k.1,j,e,f.mono k⟩
theorem iZ{x:ct U}(h:N<=N'):c7 N J N' (cj J N x):=by
 refine⟨h,λb d a c=>?_⟩
 grind[gi]
theorem mj{b:Nat}{x a:ct U}(h:N<=N')(h0:aU J b=some a)(e:∀p,x.cU=some p->a.cU=some p):c7 N J N' (cj J b x):=by
 refine⟨h,λc g d f=>?_⟩
 grind[gi]
theorem oW{b:Nat}:c7 N J N (dl J b):=by
 refine⟨eJ _,λc e a d=>?_⟩
 grind[lS]
theorem I7{d:C}{x:bc U}(h:vS d=some x):ca N J x d:=by
 unfold vS at h;split at h<;>cases h
 . exact ca.t _
 . exact ca.t _
 . exact ca.t (U:=U) _
 . exact .bC
 . exact .eT
 . exact .eS
 . exact .dead _
 . exact .fn _ _
theorem mh:∀{a:List C} {xs:List (bc U)},lp a=some xs->aQ (ca N J) xs a
 |[],xs,h=>by simp[lp]at h;subst h;exact .nil
 |d::a,xs,h=>by
  simp[lp]at h;split at h
  . rename_i x c h1 b;cases h;exact .cons (I7 h1) (mh b)
  grind
theorem I8{d:V}{x:bF U}(h:vT d=some x):b6 N J x d:=by
 cases d with
 |c d=>
  simp[vT]at h;split at h
  . rename_i y a;cases h;exact .c (I7 a)
  grind
 |agg b=>
  simp[vT]at h;split at h
  . rename_i y a;cases h;exact .agg (mh a)
  grind
 |aS _=>grind[vT]
def cy(env:bO U)(G:Nat->Bool):Option (Nat×Bool)->Bool
 |none=>true
 |some (t,b)=>G t&&(e5 env t b).getD false
theorem gE.aU(aj:gE gl env G)(k:Nat):cy env G (aU gl k)=G k:=by
 cases h:Shv.aU gl k with
 |none=>exact(aj.free k h).symm
 |some g=>
  obtain⟨t,b⟩:=g;obtain⟨y,h1,a⟩:=aj.held k t b h
  grind[cy]
theorem B3(aj:gE gl env G):∀{a:Nat} {gd:Option (Nat×Bool)} {g:Bool},k7 gl env a gd=some g->g=cy env G gd
 |_,none,g,h=>by unfold k7 at h;simp at h;subst h;rfl
 |0,some _,g,h=>by grind[k7]
 |a+1,some (t,b),g,h=>by
  simp[k7]at h;split at h
  . rename_i x y h1 c;cases h;rw[B3 aj h1,aj.aU t]
    grind[cy]
  grind
theorem abD:∀{a:Nat} {t:Nat} {b:Bool} {g:Bool},k7 gl env a (some (t,b))=some g->∃y,e5 env t b=some y
 |0,t,b,g,h=>by grind[k7]
 |a+1,t,b,g,h=>by
  grind[k7]
theorem b6.dF{x:bc U}{v1:V}(h:b6 N J (.c x) v1):∃d,v1= .c d/\ca N J x d:=by cases h<;>grind
theorem b6.l'{xs:List (bc U)}{v1:V}(h:b6 N J (.agg xs) v1):∃a,v1= .agg a/\aQ (ca N J) xs a:=by cases h<;>grind
theorem b6.vL{c:Cell U.D}{v1:V}(h:b6 N J (.c (.t c)) v1):v1= .c (.t (c.enc U)):=by obtain⟨d,rfl,aa⟩:=h.dF;cases aa;rfl
theorem b6.iW{b:Bool}{v1:V}(h:b6 N J (.c (.t ⟨.bool,b⟩)) v1):v1= .c (.t (.bool b)):=h.vL
theorem b6.eR{k:IntKind}{m:Int}{v1:V}(h:b6 N J (.c (.t ⟨.int k,m⟩)) v1):v1= .c (.t (.int k m)):=h.vL
theorem b6.iR{s:List UInt8}{v1:V}(h:b6 N J (.c (.t ⟨.str,s⟩)) v1):v1= .c (.t (.str s)):=h.vL
theorem b6.jw{t:aD}{l:List (t.den U.D)}{v1:V}(h:b6 N J (.c (.t ⟨.slice t,l⟩)) v1):v1= .c (.t (.slice (l.map (t.enc U)))):=h.vL
theorem b6.hx{b o:Nat}{v1:V}(h:b6 N J (.c (.ptr b o)) v1):v1= .c (.ptr b o):=by obtain⟨d,rfl,aa⟩:=h.dF;cases aa;rfl
theorem b6.gK{b i o:Nat}{t:aD}{v1:V}(h:b6 N J (.c (.cl b t i o)) v1):v1= .c (.cl b (t.sz U) i o):=by obtain⟨d,rfl,aa⟩:=h.dF;cases aa;rfl
theorem b6.D8{o:Nat}{t:aD}{x:t.den U.D}{v1:V}(h:b6 N J (.c (.dx t x o)) v1):v1= .c (.dx (t.enc U x) o):=by obtain⟨d,rfl,aa⟩:=h.dF;cases aa;rfl
theorem b6.tN{v1:V}(h:b6 N J (.c .bC) v1):v1= .c .bC:=by obtain⟨d,rfl,aa⟩:=h.dF;cases aa;rfl
theorem b6.fH{b:Nat}{v1:V}(h:b6 N J (.c (.arr b)) v1):∃sz n,v1= .c (.arr b sz 0 n)/\b<N/\∀x,Shv.aU J b=some x->∀p,x.cU=some p->p=(sz,n):=by
 obtain⟨d,rfl,aa⟩:=h.dF;cases aa<;>grind
theorem b6.Eg{b:Nat}{v1:V}(h:b6 N J (.c (.mp b)) v1):v1= .c (.mp b):=by obtain⟨d,rfl,aa⟩:=h.dF;cases aa;rfl
theorem b6.QD{b:Nat}{v1:V}(h:b6 N J (.c (.eh b)) v1):v1= .c (.eh b):=by obtain⟨d,rfl,aa⟩:=h.dF;cases aa;rfl
theorem b6.wk{b:Nat}{v1:V}(h:b6 N J (.c (.cr b)) v1):∃n,v1= .c (.cr b n)/\b<N/\∀x,Shv.aU J b=some x->∀p,x.cU=some p->p=(1,n):=by
 obtain⟨d,rfl,aa⟩:=h.dF;cases aa<;>grind
theorem b6.D2{f:Nat}{caps:List Nat}{v1:V}(h:b6 N J (.c (.fn f caps)) v1):v1= .c (.fn f caps):=by
 obtain⟨d,rfl,aa⟩:=h.dF;cases aa;rfl
theorem abE{t:Nat}{b y:Bool}(he:c6 N J G env env1)(h:e5 env t b=some y):∃x,look env1 t=some (G t,.c (.t (.bool x)))/\y=(x==b):=by
 unfold e5 at h;split at h
 . rename_i x d;cases h;obtain⟨v1,h1,a⟩:=he t _ d;have:=a.iW
   grind
 grind
theorem Cd(he:c6 N J G env env1)(h:gd=none\/∃t b y,gd=some (t,b)/\e5 env t b=some y):fB env1 gd=some (cy env G gd):=by
 grind[abE,fB,cy]
theorem B4(aj:gE gl env G):∀{c:Nat} {gd:Option (Nat×Bool)} {k:Nat},cy env G gd=true->vI gl c gd k=true->G k=true
 |0,gd,k,_,h=>by grind[vI]
 |c+1,gd,k,i,h=>by
  simp[vI]at h;split at h
  . rename_i a;exact aj.free k a
  . rename_i d a;split at h
    . grind
    . rename_i g;obtain⟨t,b⟩:=g;obtain⟨j,f⟩:=d;simp only[ko,cH,gX]at h;rcases h with⟨h1,e⟩|h
      . have:=cR h1;subst this;subst e;obtain⟨y,aZ,ba⟩:=aj.held k t b a
        grind[cy]
      . refine B4 aj ?_ h;rw[aj.aU t]
        grind[cy]
theorem bZ(he:c6 N J G env env1)(aj:gE gl env G){x:aL}{v:bF U}(h:de gl gd env x=some v):
 ∃p v1,x.get env1=some (p,v1)/\b6 N J v v1/\(cy env G gd=true->p):=by
 cases x with
 |const d=>exact⟨True,d,rfl,I8 h,λ_=>trivial⟩
 |tmp k=>
  simp[de]at h;split at h
  . rename_i hs;obtain⟨v1,h1,a⟩:=he k v h;exact⟨_,v1,by grind[aL.get],a,λb=>B4 aj b hs⟩
  grind
theorem J8(he:c6 N J G env env1)(aj:gE gl env G){c x:aL}{b y:Bool}{v i:bF U}(g:de gl gd env c=some i)(n:i= .c (.t ⟨.bool,y⟩))(h:Di gl gd env c b x=some v):
 ∃p v1,x.get env1=some (p,v1)/\b6 N J v v1/\(cy env G gd=true->y=b->p):=by
 cases x with
 |const d=>exact⟨True,d,rfl,I8 h,λ_ _=>trivial⟩
 |tmp k=>
  simp[Di]at h;split at h
  . rename_i hs;obtain⟨v1,h1,a⟩:=he k v h;exact⟨_,v1,by grind[aL.get],a,λe _=>B4 aj e hs⟩
  . split at h
    . rename_i q t j l;split at h
      . rename_i f;simp only[cH,gX]at f;obtain⟨h1,rfl⟩:=f;have:=cR h1;obtain⟨v1,h1,a⟩:=he k v h;refine⟨G k=true,v1,by grind[aL.get],a,λe o=>?_⟩;simp[de]at g;split at g
        . rename_i hs;have m:=B4 aj e hs;obtain⟨r,aZ,ba⟩:=aj.held k t j l
          grind[e5]
        grind
      grind
    grind
theorem sh(he:c6 N J G env env1)(aj:gE gl env G):∀{xs:List aL} {vs:List (bF U)},lq gl gd env xs=some vs->
 ∃p a,gL env1 xs=some (p,a)/\aQ (b6 N J) vs a/\(cy env G gd=true->p)
 |[],vs,h=>by simp[lq]at h;subst h;exact⟨True,[],rfl,.nil,λ_=>trivial⟩
 |x::xs,vs,h=>by
  simp[lq]at h;split at h
  . rename_i v e h1 d;cases h;obtain⟨p,v1,a1,a2,a3⟩:=bZ he aj h1;obtain⟨q,a,b1,b2,c⟩:=sh he aj d;exact⟨p/\q,v1::a,by grind[gL],.cons a2 b2,λb=>⟨a3 b,c b⟩⟩
  grind
theorem nk{v:bF U}{v1:V}{cs:List (bc U)}(h:b6 N J v v1)(a:pq v=some cs):∃b,kP v1=some b/\aQ (ca N J) cs b:=by
 cases h with
 |c h=>simp[pq]at a;subst a;exact⟨_,rfl,.cons h .nil⟩
 |agg h=>simp[pq]at a;subst a;exact⟨_,rfl,h⟩
 |aS=>grind[pq]
theorem Ct{cs a:List (bc U)}{b c:List C}{o:Nat}(h:aQ (ca N J) cs b)(d:aQ (ca N J) a c):aQ (ca N J) (n' cs o a) (k5 b o c):=by
 unfold n' k5;rw[d.length];exact((h.take o).append d).append (h.drop _)
theorem ik{a b:Nat}(h:Nat.ble a b=true):a<=b:=yo h
theorem RV(he:c6 N J G env env1)(aj:gE gl env G):∀{ps:List (Nat×Nat×aL)} {cs c:List (bc U)} {b:List C},zc gl gd env cs ps=some c->aQ (ca N J) cs b->
 ∃p d,iI env1 b ps=some (p,d)/\aQ (ca N J) c d/\(cy env G gd=true->p)
 |[],cs,c,b,h,a=>by simp[zc]at h;subst h;exact⟨True,b,rfl,a,λ_=>trivial⟩
 |(o,n,x)::r,cs,c,b,h,a=>by
  simp[zc]at h;split at h
  . grind
  . rename_i v g;split at h
    . grind
    . rename_i es f;split at h
      . rename_i e;simp only[cH]at e;have i:=cR e.1;have j:=ik e.2;obtain⟨p,v1,a1,a2,a3⟩:=bZ he aj g;obtain⟨fs,b1,b2⟩:=nk a2 f;obtain⟨q,d,c1,c2,c3⟩:=RV he aj h (Ct a b2);refine⟨p/\q,d,?_,c2,λa=>⟨a3 a,c3 a⟩⟩;simp only[iI,a1,ak,b1];rw[ab ⟨by rw[<-b2.length];grind,by rw[<-a.length];grind⟩,c1]
        rfl
      grind
theorem ZY{x:bc U}{d:C}{t:T}(h:ca N J x d)(ht:x.toT=some t):Shv.toT d=some t:=by
 cases h<;>simp[bc.toT]at ht
 . split at ht
   . grind
   . cases ht;rfl
 . subst ht;rfl
theorem sk:∀{cs:List (bc U)} {a:List C} {ts:List T},aQ (ca N J) cs a->ha cs=some ts->toTs a=some ts
 |[],[],ts,_,h=>by simp[ha]at h;subst h;rfl
 |c::cs,d::a,ts,.cons h1 b,h=>by
  simp[ha]at h;split at h
  . rename_i t f ht e;cases h;simp[toTs,ZY h1 ht,sk b e]
  grind
theorem F6:∀{cs:List (bc U)} {ts:List T},ha cs=some ts->ts.length=cs.length
 |[],ts,h=>by grind[ha]
 |c::cs,ts,h=>by
  simp[ha]at h;split at h
  . rename_i t b ht a;cases h;simp[F6 a]
  grind
theorem aQ.set{α c:Type}{R:α->c->Prop}{l:List α}{m:List c}(h:aQ R l m){i:Nat}{a:α}{b:c}(f:R a b):aQ R (l.set i a) (m.set i b):=by
 induction h generalizing i with
 |nil=>exact .nil
 |cons h1 e ih=>cases i with
  |zero=>exact .cons f e
  |succ i=>exact .cons h1 ih
theorem Gk(he:c6 N J G env env1)(aj:gE gl env G){sz:Nat}:∀{ps:List (Nat×aL)} {a b:List (List (bc U))} {es:List (List T)},uX gl gd env sz a ps=some b->
 aQ (λr e=>ha r=some e) a es->(∀r,r∈a->r.length=sz)->∃p c,iJ env1 sz es ps=some (p,c)/\aQ (λr e=>ha r=some e) b c/\(∀r,r∈b->r.length=sz)/\(cy env G gd=true->p)
 |[],a,b,es,h,d,ad=>by simp[uX]at h;subst h;exact⟨True,es,rfl,d,ad,λ_=>trivial⟩
 |(i,x)::ps,a,b,es,h,d,ad=>by
  simp[uX]at h;split at h
  . grind
  . rename_i v l;split at h
    . grind
    . rename_i cs k;split at h
      . grind
      . rename_i ts j;split at h
        . rename_i f;simp only[cH]at f;have n:=cR f.1;have o:=ik f.2;obtain⟨p,v1,a1,a2,a3⟩:=bZ he aj l;obtain⟨m,b1,b2⟩:=nk a2 k;obtain⟨q,c,c1,c2,c4,c3⟩:=Gk he aj h (aQ.set d j) (by grind);refine⟨p/\q,c,?_,c2,c4,λg=>⟨a3 g,c3 g⟩⟩;simp only[iJ,a1,ak,b1,sk b2 j]
          rw[ab ⟨by grind[F6],by rw[<-d.length];omega⟩,c1];rfl
        grind
end
end
section
open Go
variable [da]
variable {U:cK}
structure dT (N:Nat)(J:a' U)(J1:aF)(o:b9)(env1:Env)(g c:Bool)(v:bF U)(J':a' U):Prop where
 val:∃v1,b6 (N+16) J' v v1/\(g=true->c=true->∃p bg,aw o env1 J1 N=some (p,v1,bg)/\p/\cq (N+16) J' bg)
 ahh:c7 N J (N+16) J'
 af6:o.neutral=true->J'=J
section
variable {N N':Nat}{J J':a' U}{J1:aF}{env:bO U}{env1:Env}{G:Nat->Bool}{gl:ej}{gd:Option (Nat×Bool)}{c:Bool}{v:bF U}
theorem cq.mono(h:cq N J J1)(cm:N<=N'):cq N' J J1:=λb x e=>
 let⟨h1,y,a,c⟩:=h b x e;⟨k' h1 cm,y,a,c.mono (c7.more cm)⟩
theorem dT.neutral{o:b9}{g:Bool}(ay:cq N J J1){v1:V}(j:b6 N J v v1)(e:g=true->c=true->∃p,aw o env1 J1 N=some (p,v1,J1)/\p):dT N J J1 o env1 g c v J:=
 ⟨⟨v1,j.mono (c7.more (by simp)),λaj f=>let⟨p,h1,a⟩:=e aj f;⟨p,J1,h1,a,ay.mono (by simp)⟩⟩,c7.more (by simp),λ_=>rfl⟩
theorem dT.store{o:b9}{g:Bool}(aA:o.neutral=false)(e:c7 N J (N+16) J'){v1:V}(f:b6 (N+16) J' v v1)(a:g=true->c=true->∃p bg,aw o env1 J1 N=some (p,v1,bg)/\p/\cq (N+16) J' bg):dT N J J1 o env1 g c v J':=
 ⟨⟨v1,f,a⟩,e,λh=>by grind⟩
theorem r'{agg:Bool}{k o:Nat}{cs:List (bc U)}{b:List C}(a:aQ (ca N J) cs b)(h:pr agg k cs o=some v):∃v1,hp agg k b o=some v1/\b6 N J v v1:=by
 unfold pr at h;split at h
 . split at h
   . cases h;refine⟨_,by simp only[hp,cw];rw[ab (by rw[<-a.length];simp_all)],.agg ((a.drop o).take k)⟩
   grind
 . split at h
   . rename_i x f;cases h;obtain⟨d,h1,e⟩:=a.get f;exact⟨_,by grind[hp],.c e⟩
   grind
theorem aQ.map_map{α c e j:Type}{R:e->j->Prop}{f:α->e}{g:c->j}:∀{l:List α} {m:List c},aQ (λa b=>R (f a) (g b)) l m->aQ R (l.map f) (m.map g)
 |[],[],_=>.nil
 |_::_,_::_,.cons h1 o=>.cons h1 (aQ.map_map o)
theorem aQ.self{α:Type}{R:α->α->Prop}(h:∀a,R a a):∀(l:List α),aQ R l l
 |[]=>.nil
 |a::l=>.cons (h a) (aQ.self h l)
theorem x0{t:aD}{x:t.den U.D}:aQ (ca N J) ((t.row U x).map .t) ((t.enc U x).map .t):=by
 rw[aD.tY,List.map_map];exact aQ.map_map (aQ.self (λc=>ca.t c) _)
theorem He{agg:Bool}{k o:Nat}{ts:List T}{v:V}(ad:hp agg k (ts.map .t) o=some v):loadT agg k ts o=some v:=by
 unfold hp at ad;unfold loadT;cases agg<;>simp_all
theorem Zp{op:BinOp}{p q:Cell U.D}{r:Cell U.D}(h:H3 op p q=some (c,r)):∃d,mX op (p.enc U) (q.enc U)=some (d,r.enc U)/\(c=true->d):=by
 unfold H3 at h;split at h
 . rename_i k a e b;show ∃d,mX op (.int k a) (.int e b)=some (d,r.enc U)/\(c=true->d);cases op<;>simp only[Rm,reduceCtorEq,cZ]at h
   all_goals first
    |(obtain⟨rfl,rfl,rfl⟩:=h;exact⟨_,by simp only[mX];rfl,λh=>by simpa using h⟩)
    |(obtain⟨rfl,rfl⟩:=h)
    |(obtain⟨rfl,rfl,rfl⟩:=h)
 . rename_i a b;cases op<;>simp only[Rn,c8]at h
   all_goals first
    |(obtain⟨rfl,rfl⟩:=h;exact⟨_,by rfl,λh=>by simpa using h⟩)
    |(obtain⟨rfl,rfl⟩:=h)
 . cases h
theorem Zq{k:Nat}{x y:Cell U.D}{b:Bool}(h:H7 k x y=some b):As k (x.enc U) (y.enc U)=some b:=by
 unfold H7 at h;split at h
 . cases h;rfl
 . simp at h;obtain⟨rfl,rfl⟩:=h;show(if _ then _ else _)=_;rw[ab rfl];rfl
 . cases h;rfl
 grind
theorem Tr:∀{ks:List Nat} {xs c:List (bc U)} {a es:List C} {b:Bool},zD ks xs c=some b->aQ (ca N J) xs a->aQ (ca N J) c es->k3 ks a es=some b
 |[],[],[],[],[],b,h,.nil,.nil=>by simp[zD]at h;subst h;rfl
 |k::ks,.t x::xs,.t y::c,d::a,e::es,b,h,.cons h1 f,.cons g i=>by
  simp[zD]at h;split at h
  . rename_i b1 r j l;cases h;cases h1;cases g;simp[k3,Zq j,Tr l f i]
  grind
theorem Ts{a b:List UInt8}:(tO a b).length=a.length+b.length:=dP
theorem aa5{a b:Int}:hJ a b=true↔a=b:=by simp[hJ]
theorem nw{m:Int}{n:Nat}:aB m n=true↔0<=m/\m.toNat<n:=by simp[aB]
theorem iF{lo hi:Int}{n:Nat}:ed lo hi n=true↔0<=lo/\lo<=hi/\hi<=n:=by simp[ed]
theorem adi{t:aD}{s:List (t.den U.D)}{l r:Option Int}{a pl b:Prop}{sz:Nat}{J1:aF}:
 (some (a/\pl/\b/\0<=l.getD 0/\l.getD 0<=r.getD ((List.map (t.enc U) s).length:Int)/\r.getD ((List.map (t.enc U) s).length:Int)<=((List.map (t.enc U) s).length:Int)/\∀e,e∈List.map (t.enc U) s->e.length=sz,
  V.c (C.t (T.slice (((List.map (t.enc U) s).take (r.getD ((List.map (t.enc U) s).length:Int)).toNat).drop (l.getD 0).toNat))),J1):zJ)=
 some (a/\pl/\b/\0<=l.getD 0/\l.getD 0<=r.getD (s.length:Int)/\r.getD (s.length:Int)<=(s.length:Int)/\∀e,e∈List.map (t.enc U) s->e.length=sz,
  V.c (C.t (Cell.enc U ⟨.slice t,eI s (l.getD 0) (r.getD (s.length:Int))⟩)),J1):=by
 have:Cell.enc U ⟨.slice t,eI s (l.getD 0) (r.getD s.length)⟩=T.slice (List.map (t.enc U) _):=rfl
 grind[eI,List.map_drop,List.map_take]
theorem adj{α a:Type}{f:α->a}{l:List α}{p:Prop}{J1:aF}:(some (p,V.c (C.t (T.int .i64 ((l.map f).length:Int))),J1):zJ)=some (p,V.c (C.t (.int .i64 (l.length:Int))),J1):=by simp
theorem uY{α a:Type}{f:α->a}{l:List α}{i:Nat}(h:i<l.length):i<(l.map f).length:=by grind
theorem aQ.replicate{α c:Type}{R:α->c->Prop}{a:α}{b:c}(h:R a b):∀n:Nat,aQ R (List.replicate n a) (List.replicate n b)
 |0=>.nil
 |n+1=>.cons h (aQ.replicate h n)
theorem Fb:∀{xs:List (bc U)} {du:List aD} {es:List C} {row:List (Cell U.D)},hh du xs=some row->aQ (ca N J) xs es->toTs es=some (row.map (Cell.enc U))
 |[],du,es,row,h1,a=>by
  cases a;cases du<;>simp[hh]at h1
  subst h1;rfl
 |y::e,[],es,row,h1,a=>by grind[hh]
 |y::e,ty::du,_::_,row,h1,.cons a d=>by
  cases a with
  |t c=>cases ty<;>simp only[hh]at h1<;>(split at h1<;>first|(cases h1;done)|(rename_i q b;cases h1;simp[toTs,toT,Fb b d]))
  |bC=>
   cases ty<;>simp[hh]at h1
   split at h1
   . rename_i q b;cases h1;simp[toTs,Fb b d];rfl
   grind
  |_=>grind[hh]
theorem RB{sz:Nat}:∀{ps:List (Nat×aL)} {es c:List (List T)} {p:Prop},iJ env1 sz es ps=some (p,c)->c.length=es.length
 |[],es,c,p,h=>by grind[iJ]
 |(i,x)::ps,es,c,p,h=>by
  simp only[iJ,a6,cZ,bb]at h;obtain⟨a,_,cs,_,ts,_,_,b,d,_,rfl⟩:=h;have:=RB d
  grind
theorem F7{t:aD}{l m:List (t.den U.D)}{i o:Nat}{cs:List (bc U)}{e:List C}(h:rk U t l i o cs=some m)(hi:i<l.length)(j:aQ (ca N J) cs e)(y:o+cs.length<=t.sz U):
 ∃ts,toTs e=some ts/\m.map (t.enc U)=(l.map (t.enc U)).set i ((el (l.map (t.enc U)) i).take o++ts++(el (l.map (t.enc U)) i).drop (o+cs.length)):=by
 unfold rk at h;split at h
 . rename_i x d;cases h;unfold mQ at d;split at d
   . rename_i row u;have s:=aD.Ef d;have key:=@Fb _ U N J;have v:aQ (ca N J) ((t.row U (t.at U l i)).map .t) _:=x0;have n:=Ct (o:=o) v j;have h1:=key u n
     have g:∀{a b:List C} {r:List T},toTs (a++b)=some r->∃p q,toTs a=some p/\toTs b=some q/\r=p++q:=by
      intro a
      induction a with
      |nil=>intro b r h;exact⟨[],r,rfl,h,rfl⟩
      |cons c a ih=>
       intro b r h;simp[toTs,a6,bb]at h
       grind[toTs]
     have k:∀(ts:List T),toTs (ts.map .t)=some ts:=by
      intro ts
      induction ts with
      |nil=>rfl
      |cons a ts ih=>grind[toTs,toT]
     obtain⟨p,q,az,f,cz⟩:=g h1;obtain⟨z,w,f1,f2,f3⟩:=g az;rw[<-List.map_take,k]at f1;cases f1;rw[<-List.map_drop,k]at f;cases f;refine⟨w,f2,?_⟩;rw[List.map_set,za hi,aD.tY,s,cz,f3,j.length]
   grind
 grind
variable (he:c6 N J G env env1)(aj:gE gl env G)(ay:cq N J J1)
section
include he aj ay
theorem ag1{x:aL}(h:cc gl gd env J N (.mov x)=some (c,v,J')):dT N J J1 (.mov x) env1 (cy env G gd) c v J':=by
 simp[cc]at h;split at h
 . rename_i w b;cases h;obtain⟨p,v1,a1,a2,a3⟩:=bZ he aj b;exact .neutral ay a2 λa _=>⟨p,by grind[aw],a3 a⟩
 grind
theorem adk{x y z:aL}(h:cc gl gd env J N (.pick x y z)=some (c,v,J')):dT N J J1 (.pick x y z) env1 (cy env G gd) c v J':=by
 simp[cc]at h;split at h
 . rename_i b p q h1 e f;cases h;obtain⟨g,v1,a1,a2,a3⟩:=bZ he aj h1;obtain⟨i,v2,b1,b2,d⟩:=J8 he aj h1 rfl e;obtain⟨j,v3,c1,c2,c3⟩:=J8 he aj h1 rfl f;have:=a2.iW;subst this;have:=b2.iW;subst this;have:=c2.iW;subst this
   refine .neutral ay (.c (.t _)) λa _=>⟨g/\(b=true->i)/\(b=false->j),by simp only[aw,a1,b1,c1];rfl,a3 a,d a,c3 a⟩
 grind
theorem Zr{x:aL}(h:cc gl gd env J N (.nilCheck x)=some (c,v,J')):dT N J J1 (.nilCheck x) env1 (cy env G gd) c v J':=by
 simp[cc]at h;split at h
 . rename_i b o d;cases h;obtain⟨p,v1,a1,a2,a3⟩:=bZ he aj d;have:=a2.hx;subst this;exact .neutral ay a2 λa _=>⟨p,by simp[aw,a1],a3 a⟩
 . rename_i b t i o d;cases h;obtain⟨p,v1,a1,a2,a3⟩:=bZ he aj d;have:=a2.gK;subst this;exact .neutral ay a2 λa _=>⟨p,by simp[aw,a1],a3 a⟩
 . rename_i t e o d;cases h;obtain⟨p,v1,a1,a2,a3⟩:=bZ he aj d;have:=a2.D8;subst this;exact .neutral ay a2 λa _=>⟨p,by simp[aw,a1],a3 a⟩
 grind
theorem ag2{x:aL}(h:cc gl gd env J N (.not x)=some (c,v,J')):dT N J J1 (.not x) env1 (cy env G gd) c v J':=by
 simp[cc]at h;split at h
 . rename_i b d;cases h;obtain⟨p,v1,a1,a2,a3⟩:=bZ he aj d;have:=a2.iW;subst this;exact .neutral ay (.c (.t _)) λa _=>⟨p,by simp[aw,a1];rfl,a3 a⟩
 grind
theorem adl{k:IntKind}{x:aL}(h:cc gl gd env J N (.conv k x)=some (c,v,J')):dT N J J1 (.conv k x) env1 (cy env G gd) c v J':=by
 simp only[cc]at h;split at h
 . rename_i d m b;cases h;obtain⟨p,v1,a1,a2,a3⟩:=bZ he aj b;have:=a2.eR;subst this;exact .neutral ay (.c (.t _)) λa _=>⟨p,by simp[aw,a1];rfl,a3 a⟩
 grind
theorem agZ{x:aL}(h:cc gl gd env J N (.i2s x)=some (c,v,J')):dT N J J1 (.i2s x) env1 (cy env G gd) c v J':=by
 simp[cc]at h;split at h
 . rename_i d m b;cases h;obtain⟨p,v1,a1,a2,a3⟩:=bZ he aj b;have:=a2.eR;subst this;exact .neutral ay (.c (.t _)) λa _=>⟨p,by simp[aw,a1];rfl,a3 a⟩
 grind
theorem ag3{x:aL}(h:cc gl gd env J N (.s2s x)=some (c,v,J')):dT N J J1 (.s2s x) env1 (cy env G gd) c v J':=by
 simp[cc]at h;split at h
 . rename_i s b;cases h;obtain⟨p,v1,a1,a2,a3⟩:=bZ he aj b;have:=a2.iR;subst this;exact .neutral ay a2 λa _=>⟨p,by simp[aw,a1],a3 a⟩
 grind
theorem adm{off:Nat}{x:aL}(h:cc gl gd env J N (.fldA off x)=some (c,v,J')):dT N J J1 (.fldA off x) env1 (cy env G gd) c v J':=by
 simp[cc]at h;split at h
 . rename_i b o d;cases h;obtain⟨p,v1,a1,a2,a3⟩:=bZ he aj d;have:=a2.hx;subst this;exact .neutral ay (.c (.ptr _ _)) λa _=>⟨p,by simp[aw,a1],a3 a⟩
 . rename_i b t i o d;cases h;obtain⟨p,v1,a1,a2,a3⟩:=bZ he aj d;have:=a2.gK;subst this;exact .neutral ay (.c (.cl _ _ _ _)) λa _=>⟨p,by simp[aw,a1],a3 a⟩
 . rename_i t e o d;cases h;obtain⟨p,v1,a1,a2,a3⟩:=bZ he aj d;have:=a2.D8;subst this;exact .neutral ay (.c (.dx _ _ _)) λa _=>⟨p,by simp[aw,a1],a3 a⟩
 grind
theorem agY{agg:Bool}{off k:Nat}{x:aL}(h:cc gl gd env J N (.fld agg off k x)=some (c,v,J')):dT N J J1 (.fld agg off k x) env1 (cy env G gd) c v J':=by
 simp[cc]at h;split at h
 . rename_i cs b;split at h
   . rename_i w ad;cases h;obtain⟨p,v1,a1,a2,a3⟩:=bZ he aj b;obtain⟨d,rfl,b2⟩:=a2.l';obtain⟨v2,c1,c2⟩:=r' b2 ad;exact .neutral ay c2 λa _=>⟨p,by grind[aw],a3 a⟩
   grind
 grind
theorem adn{agg:Bool}{k:Nat}{x:aL}(h:cc gl gd env J N (.load agg k x)=some (c,v,J')):dT N J J1 (.load agg k x) env1 (cy env G gd) c v J':=by
 simp only[cc]at h;split at h
 . rename_i b o f;split at h
   . rename_i cs d;split at h
     . rename_i w ad;cases h;obtain⟨p,v1,a1,a2,a3⟩:=bZ he aj f;have:=a2.hx;subst this;obtain⟨_,y,b1,b2⟩:=ay b _ d;cases b2 with
       |box b2=>
        obtain⟨v2,c1,c2⟩:=r' b2 ad;exact .neutral ay c2 λa _=>⟨p,by simp[aw,a1,b1,c1],a3 a⟩
     . cases h
   . rename_i E c0 d;split at h
     . cases h;obtain⟨p,v1,a1,a2,a3⟩:=bZ he aj f;have:=a2.hx;subst this;obtain⟨_,y,b1,b2⟩:=ay b _ d;cases b2 with
       |bX b2=>exact .neutral ay (.c b2) λa _=>⟨p,by simp[aw,a1,b1],a3 a⟩
     . cases h
   . cases h
 . rename_i b t i o f;split at h
   . rename_i q s d;split at h
     . rename_i l ad;have e:=Cell.jE ad;split at h
       . rename_i w m;cases h;obtain⟨p,v1,a1,a2,a3⟩:=bZ he aj f;have:=a2.gK;subst this;obtain⟨_,y,b1,b2⟩:=ay b _ d;cases b2 with
         |arr=>
          obtain⟨v2,c1,c2⟩:=r' x0 m;refine .neutral ay c2 λa g=>⟨p/\t.sz U=t.sz U/\i<(List.map (t.enc U) l).length,?_,a3 a,rfl,uY (fm g)⟩
          simp only[hq]at g
          grind[He,aw,za]
       . cases h
     . cases h
   . rename_i cs d;split at h
     . rename_i w ad;cases h;obtain⟨p,v1,a1,a2,a3⟩:=bZ he aj f;have:=a2.gK;subst this;obtain⟨_,y,b1,b2⟩:=ay b _ d;cases b2 with
       |box b2=>
        obtain⟨v2,c1,c2⟩:=r' b2 ad;exact .neutral ay c2 λa _=>⟨p,by simp[aw,a1,b1,c1],a3 a⟩
     . cases h
   . rename_i q s r u c0 d;split at h
     . cases h
     . split at h
       . rename_i j;split at h
         . rename_i n;cases h;have j:=cR j;have n:=cR n;subst j;obtain⟨p,v1,a1,a2,a3⟩:=bZ he aj f;have:=a2.gK;subst this;obtain⟨_,y,b1,b2⟩:=ay b _ d;cases b2 with
           |cu _ _ _ _ b2=>
            refine .neutral ay (.c b2) λa g=>⟨p/\t.sz U=q.sz U/\i=r,?_,a3 a,n,fm g⟩
            simp only[aw,a1,ak,b1];simp
         . cases h
       . rename_i j;have j:=ij j;split at h
         . rename_i l ad;have e:=Cell.jE ad;cases e;split at h
           . rename_i w m;cases h;obtain⟨p,v1,a1,a2,a3⟩:=bZ he aj f;have:=a2.gK;subst this;obtain⟨_,y,b1,b2⟩:=ay b _ d;cases b2 with
             |cu _ _ _ _ b2=>
              obtain⟨v2,c1,c2⟩:=r' x0 m;refine .neutral ay c2 λa g=>⟨p/\t.sz U=t.sz U/\i<(List.map (t.enc U) l).length,?_,a3 a,rfl,uY (fm g)⟩
              simp only[hq]at g;have c1:=He c1;simp only[aw,a1,ak,b1];rw[ag (by simp),ag j,za g,c1];rfl
           . cases h
         . cases h
   . cases h
 . rename_i t z o f;split at h
   . rename_i w ad;cases h;obtain⟨p,v1,a1,a2,a3⟩:=bZ he aj f;have:=a2.D8;subst this;obtain⟨v2,c1,c2⟩:=r' x0 ad;have c1:=He c1;exact .neutral ay c2 λa _=>⟨p,by simp[aw,a1,c1],a3 a⟩
   . cases h
 grind
theorem agV{op:BinOp}{x y:aL}(h:cc gl gd env J N (.bin op x y)=some (c,v,J')):dT N J J1 (.bin op x y) env1 (cy env G gd) c v J':=by
 simp[cc]at h;split at h
 . rename_i p q e f;split at h
   . rename_i l r g;cases h;obtain⟨i,v1,a1,a2,a3⟩:=bZ he aj e;obtain⟨j,v2,b1,b2,b⟩:=bZ he aj f;have:=a2.vL;have:=b2.vL;obtain⟨k,d1,d2⟩:=Zp g;exact .neutral ay (.c (.t _)) λa d=>⟨i/\j/\k,by grind[aw],a3 a,b a,d2 d⟩
   grind
 grind
theorem aa6{neg:Bool}{ks:List Nat}{x y:aL}(h:cc gl gd env J N (.eqAgg neg ks x y)=some (c,v,J')):dT N J J1 (.eqAgg neg ks x y) env1 (cy env G gd) c v J':=by
 simp[cc]at h;split at h
 . rename_i p q e f;split at h
   . rename_i r g;cases h;obtain⟨i,v1,a1,a2,a3⟩:=bZ he aj e;obtain⟨j,v2,b1,b2,b⟩:=bZ he aj f;obtain⟨k,rfl,d2⟩:=a2.l';obtain⟨es,rfl,d⟩:=b2.l';have:=Tr g d2 d;exact .neutral ay (.c (.t _)) λa l=>⟨i/\j,by simp[aw,a1,b1,this];cases neg<;>rfl,a3 a,b a⟩
   . cases h
 . cases h
theorem abF{neg:Bool}{x y:aL}(h:cc gl gd env J N (.eqBool neg x y)=some (c,v,J')):dT N J J1 (.eqBool neg x y) env1 (cy env G gd) c v J':=by
 simp[cc]at h;split at h
 . rename_i p q d e;cases h;obtain⟨f,v1,a1,a2,a3⟩:=bZ he aj d;obtain⟨g,v2,b1,b2,b⟩:=bZ he aj e;have:=a2.iW;subst this;have:=b2.iW;subst this;exact .neutral ay (.c (.t _)) λa i=>⟨f/\g,by simp only[aw,a1,b1];cases neg<;>rfl,a3 a,b a⟩
 grind
theorem ado{sz:Nat}{x y:aL}(h:cc gl gd env J N (.idxA sz x y)=some (c,v,J')):dT N J J1 (.idxA sz x y) env1 (cy env G gd) c v J':=by
 simp[cc]at h;split at h
 . rename_i t l k m j o;split at h
   . rename_i d;have d:=cR d;cases h;obtain⟨g,v1,a1,a2,a3⟩:=bZ he aj j;obtain⟨i,v2,b1,b2,f⟩:=bZ he aj o;have:=a2.jw;subst this;have:=b2.eR;subst this;by_cases r:aB m (List.length l)=true
     . obtain⟨h1,p⟩:=nw.1 r;refine .neutral ay (v1:= .c (.dx (el (List.map (t.enc U) l) (Int.toNat m)) 0)) ?_ λa e=>⟨g/\i/\(0:Int)<=m/\Int.toNat m<(List.map (t.enc U) l).length/\(el (List.map (t.enc U) l) (Int.toNat m)).length=sz,by simp only[aw,a1,b1,ak],a3 a,f a,h1,uY p,by rw[za p,aD.rC];exact d⟩
       rw[za p];exact .c (.dx _ _ _)
     . exact .neutral ay (.c (.dx _ _ _)) λa e=>absurd e r
   . cases h
 . rename_i b k m j o;split at h
   . rename_i t l q;split at h
     . rename_i d;have d:=cR d;cases h;obtain⟨g,v1,a1,a2,a3⟩:=bZ he aj j;obtain⟨i,v2,b1,b2,f⟩:=bZ he aj o;obtain⟨u,n,rfl,s,a⟩:=a2.fH;have:=b2.eR;subst this;have:=a _ q _ rfl;cases this
       refine .neutral ay (.c (.cl _ _ _ _)) λa e=>⟨g/\i/\(0:Int)<=m/\Int.toNat m<l.length/\sz=t.sz U,?_,a3 a,f a,(nw.1 e).1,(nw.1 e).2,d.symm⟩
       simp only[aw,a1,b1,ak,fp,d]
     . cases h
   . rename_i cs q;split at h
     . rename_i d;have d:=cR d;cases h;obtain⟨g,v1,a1,a2,a3⟩:=bZ he aj j;obtain⟨i,v2,b1,b2,f⟩:=bZ he aj o;obtain⟨u,n,rfl,s,a⟩:=a2.fH;have:=b2.eR;subst this;have:=a _ q _ rfl;cases this
       refine .neutral ay (.c (.cl _ .bool _ _)) λa e=>⟨g/\i/\(0:Int)<=m/\Int.toNat m<cs.length/\sz=1,?_,a3 a,f a,(nw.1 e).1,(nw.1 e).2,d.symm⟩
       simp only[aw,a1,b1,ak,fp,<-d];rfl
     . cases h
   . cases h
 grind
theorem adp{x y:aL}(h:cc gl gd env J N (.idxS x y)=some (c,v,J')):dT N J J1 (.idxS x y) env1 (cy env G gd) c v J':=by
 simp[cc]at h;split at h
 . rename_i s k m e f;cases h;obtain⟨g,v1,a1,a2,a3⟩:=bZ he aj e;obtain⟨i,v2,b1,b2,d⟩:=bZ he aj f;have:=a2.iR;subst this;have:=b2.eR;subst this;exact .neutral ay (.c (.t _)) λb a=>⟨g/\i/\(0:Int)<=m/\Int.toNat m<List.length s,by simp only[aw,a1,b1];rfl,a3 b,d b,(nw.1 a).1,(nw.1 a).2⟩
 grind
theorem oL{x:Option aL}{l:Option Int}(h:nD gl gd env x=some l):∃p,iM env1 x=some (p,l)/\(cy env G gd=true->p):=by
 unfold nD at h;split at h
 . cases h;exact⟨True,rfl,λ_=>trivial⟩
 . split at h
   . rename_i k n a;cases h;obtain⟨b,v1,a1,a2,a3⟩:=bZ he aj a;have:=a2.eR;subst this;exact⟨b,by simp[iM,a1],a3⟩
   grind
theorem adq{x:aL}{lo hi:Option aL}(h:cc gl gd env J N (.slcS x lo hi)=some (c,v,J')):dT N J J1 (.slcS x lo hi) env1 (cy env G gd) c v J':=by
 simp[cc]at h;split at h
 . rename_i s l r d ad e;cases h;obtain⟨g,v1,a1,a2,a3⟩:=bZ he aj d;obtain⟨pl,f,l2⟩:=oL he aj ay ad;obtain⟨i,j,k⟩:=oL he aj ay e;have:=a2.iR;subst this;exact .neutral ay (.c (.t _)) λa b=>⟨g/\pl/\i/\0<=l.getD 0/\l.getD 0<=r.getD _/\r.getD _<=List.length s,by simp[aw,a1,f,j];rfl,a3 a,l2 a,k a,iF.1 b⟩
 grind
theorem ag4{sz:Nat}{x:aL}{lo hi:Option aL}(h:cc gl gd env J N (.slc sz x lo hi)=some (c,v,J')):dT N J J1 (.slc sz x lo hi) env1 (cy env G gd) c v J':=by
 simp only[cc]at h;split at h
 . rename_i t s l r g ad j;split at h
   . rename_i d;have d:=cR d;cases h;obtain⟨k,v1,a1,a2,a3⟩:=bZ he aj g;obtain⟨pl,z,l2⟩:=oL he aj ay ad;obtain⟨m,q,o⟩:=oL he aj ay j;have:=a2.jw;subst this
     refine .neutral ay (.c (.t (U:=U) ⟨.slice t,_⟩)) λf a=>⟨k/\pl/\m/\0<=l.getD 0/\l.getD 0<=r.getD (List.length s:Int)/\r.getD (List.length s:Int)<=(List.length s:Int)/\∀e,e∈List.map (t.enc U) s->e.length=sz,?_,a3 f,l2 f,o f,(iF.1 a).1,(iF.1 a).2.1,(iF.1 a).2.2,?_⟩
     . simp only[aw,a1,z,q,ak];exact adi
     grind[aD.rC]
   grind
 . rename_i b r g ad j;split at h
   . rename_i t s u;split at h
     . rename_i d;have d:=cR d;cases h;obtain⟨k,v1,a1,a2,a3⟩:=bZ he aj g;obtain⟨m,q,o⟩:=oL he aj ay j;obtain⟨C,n,rfl,w,f⟩:=a2.fH;have A:=f _ u (t.sz U,s.length) rfl;have y:lo=none:=by
        cases lo with
        |none=>rfl
        |some x=>grind[nD]
       subst y;refine .neutral ay (.c (.pre b (t.sz U) _ w λx B p g=>?_)) λi a=>⟨k/\True/\m/\0<=(none:Option Int).getD 0/\(none:Option Int).getD 0<=r.getD (List.length s:Int)/\r.getD (List.length s:Int)<=(List.length s:Int)/\sz=t.sz U,?_,a3 i,trivial,o i,(iF.1 a).1,(iF.1 a).2.1,(iF.1 a).2.2,d.symm⟩
       . grind
       . have D:iM env1 none=some (True,none):=rfl
         grind[aw]
     grind
   grind
 . rename_i b l r g ad j;split at h
   . rename_i t s u;split at h
     . rename_i d;have d:=cR d;cases h;obtain⟨k,v1,a1,a2,a3⟩:=bZ he aj g;obtain⟨pl,z,l2⟩:=oL he aj ay ad;obtain⟨m,q,o⟩:=oL he aj ay j;obtain⟨C,n,rfl,w,f⟩:=a2.fH;have A:=f _ u (t.sz U,s.length) rfl;obtain⟨rfl,rfl⟩:=A;have y:lo.isNone=false:=by
        cases lo with
        |none=>simp[nD]at ad
        |some x=>rfl
       refine .neutral ay (.c (.dS b (t.sz U) _ _ w λx B p g=>?_)) λi a=>⟨k/\pl/\m/\0<=(some l:Option Int).getD 0/\(some l:Option Int).getD 0<=r.getD (List.length s:Int)/\r.getD (List.length s:Int)<=(List.length s:Int)/\sz=t.sz U,?_,a3 i,l2 i,o i,(iF.1 a).1,(iF.1 a).2.1,(iF.1 a).2.2,d.symm⟩
       . grind
       . simp only[aw,a1,z,q,ak,y,cN,cv,fp];rfl
     grind
   grind
 grind
theorem adr{x:aL}(h:cc gl gd env J N (.slc0 x)=some (c,v,J')):dT N J J1 (.slc0 x) env1 (cy env G gd) c v J':=by
 simp[cc]at h;split at h
 . rename_i t l d;cases h;obtain⟨p,v1,a1,a2,a3⟩:=bZ he aj d;have:=a2.jw;subst this;exact .neutral ay (.c .bC) λa _=>⟨p,by simp[aw,a1],a3 a⟩
 . rename_i d;cases h;obtain⟨p,v1,a1,a2,a3⟩:=bZ he aj d;have:=a2.tN;subst this;exact .neutral ay (.c .bC) λa _=>⟨p,by simp[aw,a1],a3 a⟩
 . rename_i b d;cases h;obtain⟨p,v1,a1,a2,a3⟩:=bZ he aj d;obtain⟨sz,n,rfl,_⟩:=a2.fH;exact .neutral ay (.c .bC) λa _=>⟨p,by simp[aw,a1],a3 a⟩
 grind
theorem Tt:∀{vs:List (bF U)} {a:List V} {l:List Nat},zB vs=some l->aQ (b6 N J) vs a->aw.pZ a=some l
 |[],[],l,h,.nil=>by simp[zB]at h;subst h;rfl
 |.c (.ptr b 0)::vs,d::a,l,h,.cons h1 e=>by
  simp only[zB]at h;split at h
  . rename_i f ad;cases h;have:=h1.hx;subst this;simp[aw.pZ,Tt ad e]
  grind
theorem ads{f:Nat}{caps:List aL}(h:cc gl gd env J N (.mkfn f caps)=some (c,v,J')):dT N J J1 (.mkfn f caps) env1 (cy env G gd) c v J':=by
 simp[cc]at h;split at h
 . rename_i vs b;split at h
   . rename_i l ad;cases h;obtain⟨p,d,a1,a2,a3⟩:=sh he aj b;exact .neutral ay (.c (.fn _ _)) λa _=>⟨p,by simp[aw,a1,Tt he aj ay ad a2],a3 a⟩
   . cases h
 grind
theorem agX{x:aL}{i:Nat}(h:cc gl gd env J N (.ext x i)=some (c,v,J')):dT N J J1 (.ext x i) env1 (cy env G gd) c v J':=by
 simp[cc]at h;split at h
 . rename_i vs f;split at h
   . rename_i w a;cases h;obtain⟨p,v1,a1,a2,a3⟩:=bZ he aj f;cases a2 with
     |aS _ b ad d=>
      have hi:=(dO.1 a).1;have e:=eu (l:=b) (i:=i) (by omega);exact .neutral ay (d i _ _ a e) λaj _=>⟨p,by grind[aw],a3 aj⟩
   grind
 grind
theorem adt{x y:aL}(h:cc gl gd env J N (.max2 x y)=some (c,v,J')):dT N J J1 (.max2 x y) env1 (cy env G gd) c v J':=by
 simp only[cc]at h;split at h
 . rename_i k a m b f g;simp at h;obtain⟨rfl,rfl,rfl,rfl⟩:=h;obtain⟨i,v1,a1,a2,a3⟩:=bZ he aj f;obtain⟨j,v2,b1,b2,e⟩:=bZ he aj g;have:=a2.eR;subst this;have:=b2.eR;subst this;exact .neutral ay (.c (.t (U:=U) _)) λd l=>⟨i/\j,by simp[aw,a1,b1];rfl,a3 d,e d⟩
 grind
theorem adu{x y:aL}(h:cc gl gd env J N (.min2 x y)=some (c,v,J')):dT N J J1 (.min2 x y) env1 (cy env G gd) c v J':=by
 simp[cc]at h;split at h
 . rename_i k a m b f g;simp at h;obtain⟨rfl,rfl,rfl,rfl⟩:=h;obtain⟨i,v1,a1,a2,a3⟩:=bZ he aj f;obtain⟨j,v2,b1,b2,e⟩:=bZ he aj g;have:=a2.eR;subst this;have:=b2.eR;subst this;exact .neutral ay (.c (.t _)) λd l=>⟨i/\j,by simp only[aw,a1,b1,ak];rfl,a3 d,e d⟩
 grind
theorem aa7{z:List C}{parts:List (Nat×Nat×aL)}(h:cc gl gd env J N (.build z parts)=some (c,v,J')):dT N J J1 (.build z parts) env1 (cy env G gd) c v J':=by
 simp[cc]at h;split at h
 . rename_i f d;split at h
   . rename_i cs a;cases h;obtain⟨p,e,a1,a2,a3⟩:=RV he aj a (mh d);exact .neutral ay (.agg a2) λb _=>⟨p,by grind[aw],a3 b⟩
   grind
 grind
theorem aa8{cs:List C}(h:cc gl gd env J N (.alloc cs)=some (c,v,J')):dT N J J1 (.alloc cs) env1 (cy env G gd) c v J':=by
 simp[cc]at h;split at h
 . rename_i xs a;cases h;have k:c7 N J (N+16) (cj J N (.box xs)):=iZ (by simp);exact .store rfl k (.c (.ptr _ _)) λb _=>⟨True,_,rfl,trivial,ay.put (by simp) k (.box (mh a))⟩
 grind
theorem agW{x:aL}(h:cc gl gd env J N (.box x)=some (c,v,J')):dT N J J1 (.box x) env1 (cy env G gd) c v J':=by
 simp[cc]at h;split at h
 . rename_i w d;split at h
   . rename_i cs a;cases h;obtain⟨p,v1,a1,a2,a3⟩:=bZ he aj d;obtain⟨e,b1,b2⟩:=nk a2 a;have k:c7 N J (N+16) (cj J N (.box cs)):=iZ (by simp);exact .store rfl k (.c (.ptr _ _)) λb _=>⟨p,_,by grind[aw],a3 b,ay.put (by simp) k (.box (b2.imp λ_ _ _=>ca.mono k))⟩
   grind
 grind
theorem abG{sz len:Nat}{z:List C}{parts:List (Nat×aL)}(h:cc gl gd env J N (.bslice sz len z parts)=some (c,v,J')):dT N J J1 (.bslice sz len z parts) env1 (cy env G gd) c v J':=by
 simp[cc]at h;split at h
 . rename_i m j;split at h
   . cases h
   . rename_i ts f;split at h
     . grind
     . rename_i b;have b:=cR b;split at h
       . rename_i rows a;cases h;have l:=mh (N:=N) (J:=J) j;obtain⟨p,es,a1,a2,a4,a3⟩:=Gk he aj a (aQ.replicate (R:=λr e=>ha r=some e) f _) (by intro r a;rw[yl a];exact b);have k:c7 N J (N+16) (cj J N (.rows sz rows)):=iZ (by omega)
         refine .store rfl k (.c (.arr N sz es.length (by omega) ?_)) λi _=>⟨p,_,by simp[aw,sk l f,ak,a1,jW];rw[RB a1,List.length_replicate],a3 i,ay.put (by omega) k (.rows a2 a4)⟩
         intro x g q d;rw[gi,ab rfl]at g;cases g;simp[ct.cU]at d;rw[<-d,a2.length]
       . cases h
 grind
omit he aj ay in
theorem ZZ{a:List C}{ts:List T}(h:toTs a=some ts):vB a=none:=by
 unfold vB
 grind[toTs,toT]
omit he aj ay in
theorem KT{J:a' U}{J1:aF}{v1:V}{w:bF U}{d:V}(h:b6 N J w d)(a:∀b lo len,w≠.c (.dS b lo len))(e:∀b lo len,w≠.c (.sub b lo len))(f:w≠.c .dead):jy v1 d=none:=by
 unfold jy;split
 . cases h with
   |c h=>
    cases h<;>grind
 rfl
theorem aa9{k:Nat}{x y:aL}(h:cc gl gd env J N (.store k x y)=some (c,v,J')):dT N J J1 (.store k x y) env1 (cy env G gd) c v J':=by
 simp only[cc]at h;split at h
 . rename_i b o w g r;split at h
   . rename_i cs m;split at h
     . rename_i B;have B:=cR B;split at h
       . rename_i C n;split at h
         . rename_i D;have D:=ik D;cases h;obtain⟨p,v1,a1,a2,a3⟩:=bZ he aj g;obtain⟨q,v2,b1,b2,f⟩:=bZ he aj r;have:=a2.hx;subst this;obtain⟨es,c1,c2⟩:=nk b2 m;obtain⟨A,z,d1,d2⟩:=ay b _ n;cases d2 with
           | @box _ fs d2=>
            have a:c7 N J (N+16) (cj J b (.box (n' C o cs))):=mj (by simp) n (λp h=>by
             simp only[ct.cU,J7 (show o+cs.length<=C.length by omega)]at h⊢
             exact h)
            refine .store rfl a (.aS [] [] rfl (by simp)) λd _=>⟨p/\q,_,?_,⟨a3 d,f d⟩,ay.put (by omega) a (.box (Ct (d2.imp λ_ _ _=>ca.mono a) (c2.imp λ_ _ _=>ca.mono a)))⟩
            simp only[aw,a1,b1,ak,c1];rw[ab (by rw[<-c2.length];grind),d1];dsimp only;rw[ab (by rw[<-d2.length];grind)]
         grind
       . rename_i E c0 n;split at h
         . rename_i c0 _;cases h;obtain⟨p,v1,a1,a2,a3⟩:=bZ he aj g;obtain⟨q,v2,b1,b2,f⟩:=bZ he aj r;have:=a2.hx;obtain⟨es,c1,c2⟩:=nk b2 m;obtain⟨A,z,d1,d2⟩:=ay b _ n;cases d2 with
           |bX d2=>
            cases c2 with|cons c2 c3=>
            cases c3;have a:c7 N J (N+16) (cj J b (.bX E c0)):=mj (by simp) n (λp h=>by grind[ct.cU]);refine .store rfl a (.aS [] [] rfl (by simp)) λd _=>⟨p/\q,_,?_,⟨a3 d,f d⟩,ay.put (by omega) a (.bX (c2.mono a))⟩
            simp only[aw,a1,b1,ak,c1]
            grind
         grind
       grind
     grind
   grind
 . rename_i b t i o w g r;split at h
   . rename_i cs m;split at h
     . rename_i B;simp only[cH]at B;have P:=cR B.1;have K:=ik B.2;split at h
       . rename_i M R j;split at h
         . rename_i l ad;have e:=Cell.jE ad;cases e;split at h
           . rename_i I Y;cases h;obtain⟨rfl,O,rfl⟩:cs=[I]/\∃O,I= .arr O:=by
              unfold Qd at Y
              grind
             obtain⟨p,v1,a1,a2,a3⟩:=bZ he aj g;obtain⟨q,v2,b1,b2,f⟩:=bZ he aj r;have:=a2.gK;obtain⟨es,c1,c2⟩:=nk b2 m;cases c2 with|cons c2 c3=>
             cases c3;have V:=c2;cases c2 with|arr _ ai ah ae af=>
             obtain⟨A,z,d1,d2⟩:=ay b _ j;cases d2 with
             |arr=>
              have a:c7 N J (N+16) (cj J b (.cu t l i o (.arr O))):=mj (by simp) j (λp h=>by grind[ct.cU]);refine .store rfl a (.aS [] [] rfl (by simp)) λd s=>⟨p/\q/\t.sz U=t.sz U/\i<(List.map (t.enc U) l).length/\o+k<=t.sz U,_,?_,⟨a3 d,f d,rfl,uY (fm s),K⟩,ay.put (by omega) a (.cu t l i o (V.mono a))⟩
              simp only[aw,a1,b1,ak,c1];simp_all[ab,vB]
           split at h
           . rename_i l2 L;cases h;obtain⟨p,v1,a1,a2,a3⟩:=bZ he aj g;obtain⟨q,v2,b1,b2,f⟩:=bZ he aj r;have:=a2.gK;subst this;obtain⟨es,c1,c2⟩:=nk b2 m;obtain⟨A,z,d1,d2⟩:=ay b _ j;cases d2 with
             |arr=>
              have X:l2.length=List.length l:=by
               grind[rk]
              have a:c7 N J (N+16) (cj J b (.arr t l2)):=mj (by simp) j (λp h=>by
               grind[ct.cU])
              refine .store rfl a (.aS [] [] rfl (by simp)) λd s=>?_
              have hi:i<List.length l:=fm s;obtain⟨ts,az,W⟩:=F7 L hi c2 (by grind);refine⟨p/\q/\t.sz U=t.sz U/\i<(List.map (t.enc U) l).length/\o+k<=t.sz U,_,?_,⟨a3 d,f d,rfl,uY hi,K⟩,ay.put (by omega) a (.arr t l2)⟩;simp only[aw,a1,b1,ak,c1];rw[ab (by rw[<-c2.length];grind),d1]
              grind[ZZ]
           grind
         grind
       . rename_i C n;split at h
         . rename_i D;have D:=ik D;cases h;obtain⟨p,v1,a1,a2,a3⟩:=bZ he aj g;obtain⟨q,v2,b1,b2,f⟩:=bZ he aj r;have:=a2.gK;subst this;obtain⟨es,c1,c2⟩:=nk b2 m;obtain⟨A,z,d1,d2⟩:=ay b _ n;cases d2 with
           | @box _ fs d2=>
            have a:c7 N J (N+16) (cj J b (.box (n' C (i*t.sz U+o) cs))):=mj (by simp) n (λp h=>by
             simp only[ct.cU,J7 (show i*t.sz U+o+cs.length<=C.length by omega)]at h⊢
             exact h)
            refine .store rfl a (.aS [] [] rfl (by simp)) λd _=>⟨p/\q,_,?_,⟨a3 d,f d⟩,ay.put (by omega) a (.box (Ct (d2.imp λ_ _ _=>ca.mono a) (c2.imp λ_ _ _=>ca.mono a)))⟩
            simp only[aw,a1,b1,ak,c1];rw[ab (by rw[<-c2.length];grind),d1];dsimp only;rw[ab (by rw[<-d2.length];grind)]
         . cases h
       . rename_i M R F T c0 j;split at h
         . rename_i I;split at h
           . rename_i u;split at h
             . rename_i Q;cases h;have u:=cR u;have Q:=cR Q;subst u;obtain⟨p,v1,a1,a2,a3⟩:=bZ he aj g;obtain⟨q,v2,b1,b2,f⟩:=bZ he aj r;have:=a2.gK;subst this;obtain⟨es,c1,c2⟩:=nk b2 m;cases c2 with|cons c2 c3=>
               cases c3;obtain⟨A,z,d1,d2⟩:=ay b _ j;cases d2 with
               |cu _ _ _ _ d2=>
                have a:c7 N J (N+16) (cj J b (.cu M R F o I)):=mj (by simp) j (λp h=>by grind[ct.cU]);refine .store rfl a (.aS [] [] rfl (by simp)) λd s=>⟨p/\q/\t.sz U=M.sz U/\i=F,_,?_,⟨a3 d,f d,Q,fm s⟩,ay.put (by omega) a (.cu M R F o (c2.mono a))⟩
                simp only[aw,a1,b1,ak,c1];rw[ab (by simpa using P),d1];dsimp only;rw[ab rfl]
             . cases h
           . rename_i u;have u:=ij u;split at h
             . rename_i l ad;have e:=Cell.jE ad;cases e;split at h
               . rename_i l2 L;cases h;obtain⟨p,v1,a1,a2,a3⟩:=bZ he aj g;obtain⟨q,v2,b1,b2,f⟩:=bZ he aj r;have:=a2.gK;subst this;obtain⟨es,c1,c2⟩:=nk b2 m;obtain⟨A,z,d1,d2⟩:=ay b _ j;cases d2 with
                 |cu _ _ _ _ d2=>
                  have X:l2.length=List.length l:=by
                   unfold rk at L
                   grind
                  have a:c7 N J (N+16) (cj J b (.cu t l2 F T c0)):=mj (by omega) j (λp h=>by
                   simp only[ct.cU]at h⊢
                   grind)
                  refine .store rfl a (.aS [] [] rfl (by simp)) λd s=>?_
                  have hi:i<List.length l:=fm s;obtain⟨ts,az,W⟩:=F7 L hi c2 (by rw[P];exact K);cases c2 with| @cons _ S _ _ c2 c3=>
                  cases c3;obtain⟨H,Z,aa⟩:∃H,Shv.toT S=some H/\ts=[H]:=by
                   simp only[toTs]at az;cases g:Shv.toT S with
                   |none=>rw[g]at az;simp at az
                   |some H=>rw[g]at az;simp at az;exact⟨H,rfl,az.symm⟩
                  refine⟨p/\q/\t.sz U=t.sz U/\i<(List.map (t.enc U) l).length/\o+k<=t.sz U,_,?_,⟨a3 d,f d,rfl,uY hi,K⟩,ay.put (by omega) a (.cu t l2 F T (d2.mono a))⟩;simp only[aw,a1,b1,ak,c1];rw[ab (by simpa using P),d1];dsimp only;rw[ag u,Z];subst aa
                  grind
               . cases h
             . cases h
         . cases h
       . cases h
     . cases h
   . cases h
 . cases h
inductive jA:fz U->List (List T)->Prop
 |ty (t:aD) (l:List (t.den U.D)):jA (.ty t l) (l.map (t.enc U))
 |rows {r es}:aQ (λr e=>ha r=some e) r es->jA (.rows r) es
 |nil:jA .nil []
omit he aj ay in
theorem jA.length{e:fz U}{es:List (List T)}(h:jA e es):es.length=e.len:=by
 cases h with
 |ty t l=>simp[fz.len]
 |rows h=>simp[fz.len,h.length]
 |nil=>rfl
omit he aj ay in
theorem FN:∀{xs:List (bc U)} {du:List aD} {e:List T} {row:List (Cell U.D)},hh du xs=some row->ha xs=some e->e=row.map (Cell.enc U)
 |[],du,e,row,h1,a=>by
  grind[hh,ha]
 |y::f,[],e,row,h1,a=>by grind[hh]
 |y::f,ty::du,e,row,h1,a=>by
  simp[ha]at a;split at a
  . rename_i t ts ht d;cases a;cases y with
    |t c=>
     simp[bc.toT]at ht;split at ht
     . grind
     . cases ht;cases ty<;>simp[hh]at h1<;>(split at h1<;>first|(cases h1;done)|(rename_i q b;cases h1;rw[FN b d];rfl))
    |bC=>
     simp[bc.toT]at ht;subst ht;cases ty<;>simp[hh]at h1
     split at h1
     . rename_i q b;cases h1;rw[FN b d];rfl
     grind
    |_=>grind[bc.toT]
  grind
omit he aj ay in
theorem M1{t:aD}{r:List (bc U)}{x:t.den U.D}{e:List T}(h:mQ U t r=some x)(he:ha r=some e):t.enc U x=e:=by
 grind[mQ,aD.tY,aD.Ef,FN]
omit he aj ay in
theorem vn{t:aD}:∀{r:List (List (bc U))} {l:List (t.den U.D)} {es:List (List T)},l0 U t r=some l->aQ (λr e=>ha r=some e) r es->l.map (t.enc U)=es
 |[],l,es,h,a=>by cases a;grind[l0]
 |r::d,l,_::_,h,.cons h1 a=>by
  simp[l0]at h;split at h
  . rename_i x xs b c;cases h;rw[je,M1 b h1,vn c a]
  grind
omit he aj ay in
theorem jA.as{t:aD}{e:fz U}{es:List (List T)}{l:List (t.den U.D)}(h:jA e es)(a:e.as t=some l):l.map (t.enc U)=es:=by
 cases h with
 |ty u c=>
  have:=Cell.jE a
  grind
 |rows h=>exact vn a h
 |nil=>grind[fz.as]
omit he aj ay in
theorem jA.join{x y z:fz U}{es fs:List (List T)}(f:jA x es)(c:jA y fs)(h:x.join y=some z):jA z (es++fs):=by
 cases f with
 |nil=>grind[fz.join]
 |ty t l=>
  simp[fz.join]at h;split at h
  . rename_i g ad;cases h;rw[<-c.as ad,<-yf];exact .ty t _
  grind
 |rows a=>
  cases c with
  |ty t l=>
   simp[fz.join]at h;split at h
   . rename_i g ad;cases h;rw[<-vn ad a,<-yf];exact .ty t _
   grind
  |rows e=>simp[fz.join]at h;subst h;exact .rows (a.append e)
  |nil=>simp[fz.join]at h;subst h;rw[pI];exact .rows a
omit he aj ay in
theorem jA.blk{e:fz U}{es:List (List T)}{sz:Nat}{b:ct U}(h:jA e es)(a:e.blk sz=some b):hb N' J' b (.arr sz es)/\(∀x,x∈es->x.length=sz)/\b.cU=some (sz,e.len):=by
 cases h with
 |ty t l=>
  simp[fz.blk]at a;split at a
  . rename_i hs;have:=cR hs;subst this;cases a;refine⟨.arr t l,λx c=>?_,rfl⟩
    grind[aD.rC]
  grind
 | @rows r es f=>
  simp[fz.blk]at a;split at a
  . rename_i hs;cases a;simp only[dW]at hs;refine⟨.rows f λx c=>cR (hs x c),λx c=>?_,rfl⟩;obtain⟨i,hi,rfl⟩:=jd c;obtain⟨y,h1,g⟩:=(f.flip λ_ _ h=>h).get (eu hi);rw[F6 g]
    grind[cR]
  grind
 |nil=>
  simp[fz.blk]at a;subst a;exact⟨.rows .nil (by simp),by simp,rfl⟩
omit he aj in
theorem x1{v:bF U}{v1:V}{e:fz U}{f:Option Nat}(c:b6 N J v v1)(h:mN J v=some (e,f)):∃es,ia J1 v1=some (es,f)/\jA e es:=by
 unfold mN at h;split at h
 . rename_i t l;cases h;have:=c.jw;subst this;exact⟨_,rfl,.ty t l⟩
 . cases h;have:=c.tN;subst this;exact⟨_,rfl,.nil⟩
 . rename_i b;obtain⟨sz,n,rfl,i,d⟩:=c.fH;split at h
   . rename_i t l ad;cases h;obtain⟨_,y,h1,a⟩:=ay b _ ad;cases a;have:=d _ ad _ rfl;cases this;exact⟨_,by simp[ia,h1],.ty t l⟩
   . rename_i j r ad;cases h;obtain⟨_,y,h1,a⟩:=ay b _ ad;cases a with
     |rows a g=>
      have:=d _ ad _ rfl;cases this;exact⟨_,by simp[ia,h1,a.length],.rows a⟩
   . cases h
 grind
theorem ag0{str:Bool}{x:aL}(h:cc gl gd env J N (.len str x)=some (c,v,J')):dT N J J1 (.len str x) env1 (cy env G gd) c v J':=by
 simp[cc]at h;split at h
 . rename_i s f;cases h;obtain⟨p,v1,a1,a2,a3⟩:=bZ he aj f;have:=a2.iR;subst this;exact .neutral ay (.c (.t _)) λa _=>⟨p,by simp[aw,a1];rfl,a3 a⟩
 . rename_i b f;split at h
   . rename_i E s g;cases h;obtain⟨p,v1,a1,a2,a3⟩:=bZ he aj f;obtain⟨n,rfl,_,d⟩:=a2.wk;have:=d _ g _ rfl;cases this;exact .neutral ay (.c (.t _)) λa _=>⟨p,by simp[aw,a1];rfl,a3 a⟩
   grind
 . rename_i w f;split at h
   . rename_i e cp;cases h;obtain⟨p,v1,a1,a2,a3⟩:=bZ he aj f;refine .neutral ay (.c (.t (U:=U) ⟨.int .i64,_⟩)) λa _=>⟨p,?_,a3 a⟩
     unfold mN at cp;split at cp
     . cases cp;have:=a2.jw;subst this;simp only[aw,a1,ak];exact adj
     . cases cp;have:=a2.tN;subst this;simp only[aw,a1,ak];rfl
     . obtain⟨sz,n,rfl,g,d⟩:=a2.fH;simp[aw,a1];split at cp
       . rename_i t l ad;cases cp;have:=d _ ad _ rfl;cases this;rfl
       . rename_i i r ad;cases cp;have:=d _ ad _ rfl;cases this;rfl
       grind
     grind
   . split at h
     . rename_i b;split at h
       . rename_i cs ad;cases h;obtain⟨p,v1,a1,a2,a3⟩:=bZ he aj f;obtain⟨sz,n,rfl,g,d⟩:=a2.fH;have:=d _ ad _ rfl;cases this;exact .neutral ay (.c (.t (U:=U) ⟨.int .i64,_⟩)) λa _=>⟨p,by simp[aw,a1];rfl,a3 a⟩
       . cases h
     . cases h
 grind
omit he aj ay in
theorem GQ{bytes n:Nat}:room bytes n=true↔(2*n+192)*bytes<=gr/\n<=dd:=by simp[room]
omit he aj ay in
theorem uO{bytes n:Nat}(h:room bytes n=true):gv n bytes/\n<=dd:=⟨.inl (GQ.1 h).1,(GQ.1 h).2⟩
omit he aj ay in
theorem w9:∀(l:List Int),bytesOf (List.map ((aD.int .u8).enc U) l)=some (strOf l)
 |[]=>rfl
 |m::l=>by
  have:=w9 l;show bytesOf ([T.int _ m]::_)=_;simp[bytesOf,this];rfl
omit he aj ay in
theorem I9:∀{l:List Int},HJ l=true->l.map ((aD.int .u8).enc U)=(strOf l).map λc=>[.int .u8 c.toNat]
 |[],_=>rfl
 |m::l,h=>by
  simp only[HJ,lY,cH,hq]at h;have a:([T.int .u8 m]:List T)=[T.int .u8 ((UInt8.ofNat m.toNat).toNat:Int)]:=by rw[show((UInt8.ofNat m.toNat).toNat:Int)=m by simp[UInt8.toNat_ofNat'];omega]
  exact congr (cC List.cons a) (I9 (l:=l) h.2)
theorem Z0{te sz bytes:Nat}{x y:aL}(h:cc gl gd env J N (.appendT te sz bytes x y)=some (c,v,J')):dT N J J1 (.appendT te sz bytes x y) env1 (cy env G gd) c v J':=by
 simp only[cc]at h;split at h
 . rename_i b w M P;split at h
   . rename_i W xb X R O m;split at h
     . grind
     . split at h
       . cases h
       . rename_i g;split at h
         . rename_i t l Q;split at h
           . rename_i I;cases h;obtain⟨p,v1,a1,a2,a3⟩:=bZ he aj M;obtain⟨q,v2,b1,b2,n⟩:=bZ he aj P;obtain⟨d,b3,K,S,D⟩:=a2.fH;subst K;obtain⟨f,c1,c2⟩:=x1 ay b2 m;obtain⟨xs,az,o⟩:=x1 ay a2 O;have a:=o.join c2 Q;have k:c7 N J (N+16) (dl J b):=c7.trans oW (c7.more (by omega))
             obtain⟨d1,d2,d3⟩:=a.blk (N':=N+16) (J':=dl J b) (sz:=sz) (b:= .arr t l) (by simp only[fz.blk,I]);obtain⟨hs,aA⟩:aJ J1 b=some (.arr d xs)/\b3=xs.length:=by
              simp only[ia]at az
              grind
             have H:d=sz:=by
              unfold Dl at g;split at g
              . rename_i z a;split at g
                . rename_i r F;have:=D _ a _ F;simp_all
                . cases g
              . cases g
             subst H;have A:cq (N+16) (dl J b) (eM J1 b):=by
              intro i z a;rw[lS]at a;split at a
              . cases a
              . rename_i B;obtain⟨h1,y,s,u⟩:=ay i z a;exact⟨by omega,y,by rw[d',ag B];exact s,u.mono k⟩
             have V:R≠some b:=by
              intro e;simp_all
             have ad:xs++f=l.map (t.enc U):=(show ∀{es:List (List T)},jA (.ty t l) es->es=l.map (t.enc U)fromλh=>by cases h;rfl) a;have E:(xs++f).length=l.length:=by rw[ad,kn]
             refine .store rfl k (v1:= .c (.t (.slice (xs++f)))) (by rw[ad];exact .c (.t ⟨.slice t,l⟩)) λj C=>⟨p/\q/\d=d/\d=d/\0=0/\b3=xs.length/\(∀e,e∈f->e.length=d)/\gv (xs.length+f.length) bytes/\xs.length+f.length<=dd,_,?_,⟨a3 j,n j,rfl,rfl,rfl,aA,λe he=>d2 e (by simp[he]),?_⟩,A⟩
             . have L:jy (.c (.arr b d 0 b3)) v2=none:=by
                refine KT (J1:=J1) b2 ?_ ?_ ?_<;>(intros;rintro rfl;simp[mN]at m)
               simp only[aw,a1,b1,ak,L,c1,hs]
               grind
             . have:=uO C;rw[<-E,dP]at this;exact this
           . cases h
         . cases h
   . cases h
 . cases h
theorem abH{te sz bytes:Nat}{x y:aL}(h:cc gl gd env J N (.append te sz bytes x y)=some (c,v,J')):dT N J J1 (.append te sz bytes x y) env1 (cy env G gd) c v J':=by
 simp only[cc]at h;split at h
 . rename_i w a u;split at h
   . rename_i am au D;split at h
     . rename_i blk L;cases h;obtain⟨p,v1,a1,a2,a3⟩:=bZ he aj a;obtain⟨q,v2,b1,b2,s⟩:=bZ he aj u;have:=a2.tN;subst this;obtain⟨d,c1,c2⟩:=x1 ay b2 D;have k:c7 N J (N+16) (cj J N blk):=iZ (by omega);obtain⟨d1,d2,d3⟩:=c2.blk (N':=N+16) (J':=cj J N blk) L
       refine .store rfl k (.c (.arr N sz d.length (by omega) ?_)) λg m=>⟨p/\q/\(∀e,e∈d->e.length=sz)/\gv d.length bytes/\d.length<=dd,_,by simp only[aw,a1,b1,ak,show jy (.c .bC) v2=none from rfl,c1],⟨a3 g,s g,d2,?_⟩,ay.put (by omega) k d1⟩
       . intro x a r j;rw[gi,ab rfl]at a;cases a;rw[d3]at j;cases j;rw[c2.length]
       . rw[c2.length];exact uO m
     . cases h
   . cases h
 . rename_i b w a u;split at h
   . rename_i ax xb am al ae D;split at h
     . grind
     . split at h
       . cases h
       . rename_i B;split at h
         . rename_i aB ai;split at h
           . rename_i blk L;cases h;obtain⟨p,v1,a1,a2,a3⟩:=bZ he aj a;obtain⟨q,v2,b1,b2,s⟩:=bZ he aj u;obtain⟨o,b3,Z,I,X⟩:=a2.fH;subst Z;obtain⟨d,c1,c2⟩:=x1 ay b2 D;obtain⟨xs,az,P⟩:=x1 ay a2 ae;have f:=P.join c2 ai;have C:c7 N (dl J b) (N+16) (cj (dl J b) N blk):=iZ (by omega)
             have k:c7 N J (N+16) (cj (dl J b) N blk):=c7.trans oW C;obtain⟨d1,d2,d3⟩:=f.blk (N':=N+16) (J':=cj (dl J b) N blk) L
             obtain⟨hs,aA⟩:aJ J1 b=some (.arr o xs)/\b3=xs.length:=by
              simp only[ia]at az
              grind
             have Y:o=sz:=by
              unfold Dl at B;split at B
              . rename_i z f;split at B
                . rename_i r j;have:=X _ f _ j;simp_all
                . cases B
              . cases B
             subst Y;have H:cq N (dl J b) (eM J1 b):=by
              intro i z f;rw[lS]at f;split at f
              . cases f
              . rename_i Q;obtain⟨h1,y,F,A⟩:=ay i z f;exact⟨h1,y,by rw[d',ag Q];exact F,A.mono oW⟩
             have ar:al≠some b:=by
              intro e;simp_all
             refine .store rfl k (.c (.arr N o (xs++d).length (by omega) ?_)) λg m=>⟨p/\q/\o=o/\o=o/\0=0/\b3=xs.length/\(∀e,e∈d->e.length=o)/\gv (xs.length+d.length) bytes/\xs.length+d.length<=dd,_,?_,⟨a3 g,s g,rfl,rfl,rfl,aA,λe he=>d2 e (by simp[he]),?_⟩,H.put (by omega) C d1⟩
             . intro x a r j;rw[gi,ab rfl]at a;cases a;rw[d3]at j;cases j;rw[f.length]
             . have aa:jy (.c (.arr b o 0 b3)) v2=none:=by
                refine KT (J1:=J1) b2 ?_ ?_ ?_<;>(intros;rintro rfl;simp[mN]at D)
               simp only[aw,a1,b1,ak,aa,c1,hs]
               grind
             . have:=uO m;rw[<-f.length,dP]at this;exact this
           . cases h
         . cases h
   . cases h
 . rename_i b h0 O lo len a u;split at h
   . rename_i K;have K:=cR K;subst K;split at h
     . rename_i t l ad;split at h
       . rename_i S;have S:=cR S;cases h;obtain⟨p,v1,a1,a2,a3⟩:=bZ he aj a;obtain⟨q,v2,b1,b2,s⟩:=bZ he aj u;cases a2 with|c a2=>
         cases a2 with|pre _ s1 _ an af=>
         cases b2 with|c b2=>
         cases b2 with|dS _ av _ _ ao ah=>
         have az:=af _ ad _ rfl;have P:=ah _ ad _ rfl;obtain⟨V,z,d1,d2⟩:=ay b _ ad;cases d2 with
         |arr=>
          have C:c7 N (dl J b) (N+16) (cj (dl J b) N (.arr t (l.take h0++(l.drop lo).take len))):=iZ (by omega);have k:=c7.trans oW C;have H:cq N (dl J b) (eM J1 b):=by
           intro i z f;rw[lS]at f;split at f
           . cases f
           . rename_i Q;obtain⟨h1,y,F,A⟩:=ay i z f;exact⟨h1,y,by simp_all[d',ag],A.mono oW⟩
          refine .store rfl k (.c (.arr N (t.sz U) (l.take h0++(l.drop lo).take len).length (by omega) ?_)) λg m=>?_
          . simp_all[gi,ab,ct.cU,cQ]
          . simp only[cH,hq]at m;have ap:(l.take h0++(l.drop lo).take len).length=h0+len:=by grind
            refine⟨p/\q/\t.sz U=t.sz U/\t.sz U=t.sz U/\t.sz U=t.sz U/\0=0/\h0+len<=(l.map (t.enc U)).length/\lo+len<=(l.map (t.enc U)).length,_,?_,⟨a3 g,s g,rfl,rfl,rfl,rfl,by grind,by grind⟩,H.put (by simp) C (.arr t _)⟩
            grind[jy,aw,tI,List.map_take,List.map_drop]
       . cases h
     . cases h
   . cases h
 . rename_i b d a u;split at h
   . rename_i E l I;split at h
     . rename_i M;simp only[cH]at M;have:=cR M.1;subst this;have:=cR M.2;subst this;cases h;obtain⟨p,v1,a1,a2,a3⟩:=bZ he aj a;obtain⟨q,v2,b1,b2,s⟩:=bZ he aj u;obtain⟨n,rfl,V,W⟩:=a2.wk;have:=W _ I _ rfl;cases this;have:=b2.jw;subst this;obtain⟨_,z,d1,d2⟩:=ay b _ I;cases d2;have aZ:c7 N J N (dl J b):=oW
       have ba:c7 N _ (N+16) (cj (dl J b) N (.buf E (tO l (strOf d)))):=iZ (by simp);have T:cq N (dl J b) (eM J1 b):=by
        intro O x a;rw[lS]at a;split at a
        . grind
        . rename_i aq;obtain⟨h1,y,F,A⟩:=ay O x a;exact⟨h1,y,by rw[d'];grind,A.mono aZ⟩
       refine .store rfl (aZ.trans ba) (.c (.cr N (List.length l+List.length (strOf d)) (by simp) λx a p R=>?_)) λg m=>?_
       . rw[gi,ab rfl]at a;cases a;simp[ct.cU]at R;exact R.symm.trans (cC _ Ts)
       . simp only[cH]at m;have j:=uO m.1;refine⟨p/\q/\E=E/\1=1/\List.length l=List.length l/\d.map ((aD.int .u8).enc U)=(strOf d).map (λc=>[.int .u8 c.toNat])/\gv _ _/\List.length l+List.length (strOf d)<=dd,_,?_,⟨a3 g,s g,rfl,rfl,rfl,I9 m.2,j.1,j.2⟩,T.put (by simp) ba (.buf _ _)⟩
         simp only[aw,a1,b1,ak,show jy (.c (.cr b (List.length l))) (.c (.t (.slice (d.map ((aD.int .u8).enc U)))))=none from rfl,show ia J1 (.c (.t (.slice (d.map ((aD.int .u8).enc U)))))=some (_,none)from rfl,d1];exact cC (Option.map _) (w9 (U:=U) d)
     . cases h
   . cases h
 grind
omit he aj ay in
theorem Tu{t:aD}(ht:t.uc=false):∀{xs:List (bc U)} {a:List C} {l:List (t.den U.D)},aQ (ca N J) xs a->tk t xs=some l->∃ts,toTs a=some ts/\ts.map (λx=>[x])=l.map (t.enc U)
 |[],[],l,_,h=>by simp[tk]at h;subst h;exact⟨[],rfl,rfl⟩
 |x::xs,d::a,l,.cons h1 e,h=>by
  unfold tk at h;split at h
  . grind
  . rename_i c r i;cases i;split at h
    . rename_i y m f j;cases h;obtain⟨ts,az,b⟩:=Tu ht e j;cases h1;have g:=Cell.jE f;subst g;refine⟨Cell.enc U ⟨t,y⟩::ts,by simp[toTs,az,toT],?_⟩;rw[je,b];cases t<;>first|rfl|cases ht
    . cases h
  grind
omit he aj ay in
theorem J9{t:aD}{d:t.den U.D}:∀{xs:List (bc U)} {a:List C} {l:List (t.den U.D)} (i:Nat),aQ (ca N J) xs a->tk t xs=some l->i<a.length->ca N J (.t ⟨t,l.getD i d⟩) (a.getD i .dead)
 |[],[],l,i,_,h,hi=>absurd hi (Nat.not_lt_zero _)
 |x::xs,d::a,l,i,.cons h1 b,h,hi=>by
  unfold tk at h;split at h
  . grind
  . rename_i c r g;cases g;split at h
    . rename_i y m e j;cases h;cases h1;have f:=Cell.jE e;subst f;cases i with
      |zero=>exact .t _
      |succ i=>exact J9 (d:=_) i b j (Nat.lt_of_succ_lt_succ hi)
    . cases h
  grind
theorem acQ{k:Nat}{x y:aL}(h:cc gl gd env J N (.idxV k x y)=some (c,v,J')):dT N J J1 (.idxV k x y) env1 (cy env G gd) c v J':=by
 simp only[cc]at h;split at h
 . rename_i cs u m o p;split at h
   . rename_i t l j ad;cases h;obtain⟨q,v1,a1,a2,a3⟩:=bZ he aj o;obtain⟨s,v2,b1,b2,e⟩:=bZ he aj p;obtain⟨f,rfl,b⟩:=a2.l';have:=b2.eR;subst this;have n:f.length=k:=by rw[<-b.length];exact cR j
     unfold CQ at ad;split at ad
     . rename_i c0 r;split at ad
       . rename_i w ht hs;cases ad;by_cases d:aB m k=true
         . obtain⟨h1,g⟩:=nw.1 d;refine .neutral ay (.c (J9 (Int.toNat m) b hs (by omega))) λa _=>⟨q/\s/\(0:Int)<=m/\Int.toNat m<k,?_,a3 a,e a,h1,g⟩
           simp only[aw,a1,b1,ak,n,cw]
         . exact .neutral ay (.c (.t _)) λa i=>absurd i d
       . cases ad
     . cases ad
   . cases h
 . cases h
theorem abI{sz bytes:Nat}{z:List C}{x:aL}(h:cc gl gd env J N (.mslice sz bytes z x)=some (c,v,J')):dT N J J1 (.mslice sz bytes z x) env1 (cy env G gd) c v J':=by
 simp only[cc]at h;split at h
 . rename_i k m A s i;split at h
   . cases h
   . rename_i ts p;split at h
     . rename_i c0;split at h
       . rename_i y a;cases h;have a:=cR a;subst a;obtain⟨o,v1,a1,a2,a3⟩:=bZ he aj s;have:=a2.eR;subst this;have j:=mh (N:=N) (J:=J) i;have aZ:c7 N J (N+16) (cj J N (.arr c0.ty (List.replicate (Int.toNat m) c0.val))):=iZ (by omega);have D:c0.ty.sz U=1:=by
          generalize c0.ty=t0 at y;cases t0<;>first|rfl|cases y
         have w:ts=c0.ty.enc U c0.val:=by
          obtain⟨ty,v0⟩:=c0;cases ty<;>first|(cases p;rfl)|cases y
         have g:kI z=false:=by
          cases j with|cons z1 z2=>
          cases z1;rfl
         have n:aw (.mslice 1 bytes z x) env1 J1 N=some (o/\(0:Int)<=m/\Int.toNat m*bytes<=gr/\Int.toNat m<=dd/\(kI z=true->Int.toNat m≠0),.c (.arr N 1 0 (Int.toNat m)),cn J1 N (.arr 1 (List.replicate (Int.toNat m) ts))):=by
          simp only[aw,a1,ak,sk j p,g];rfl
         refine .store rfl aZ (.c (.arr N 1 (Int.toNat m) (by omega) ?_)) λl b=>⟨_,_,n,⟨a3 l,(lO.1 b).1,(lO.1 b).2.1,(lO.1 b).2.2,λe=>by rw[g]at e;cases e⟩,ay.put (by omega) aZ ?_⟩
         . intro x f q d;rw[gi,ab rfl]at f;cases f;simp[ct.cU]at d;rw[<-d,D]
         . have:=hb.arr (N:=N+16) (J:=cj J N (.arr c0.ty (List.replicate (Int.toNat m) c0.val))) c0.ty (List.replicate (Int.toNat m) c0.val);rw[D,List.map_replicate,<-w]at this;exact this
       . cases h
     . split at h
       . rename_i a;have a:=cR a;subst a;cases h;obtain⟨o,v1,a1,a2,a3⟩:=bZ he aj s;have:=a2.eR;subst this;have j:=mh (N:=N) (J:=J) i;have M:z=[.bC]:=by
          cases j with|cons z1 z2=>
          cases z1;cases z2;rfl
         subst M;have aZ:c7 N J (N+16) (cj J N (.box (List.replicate (Int.toNat m) .bC))):=iZ (by omega);have n:aw (.mslice 1 bytes [.bC] x) env1 J1 N=some (o/\(0:Int)<=m/\Int.toNat m*bytes<=gr/\Int.toNat m<=dd/\(kI [.bC]=true->Int.toNat m≠0),.c (.arr N 1 0 (Int.toNat m)),cn J1 N (.box (List.replicate (Int.toNat m) .bC))):=by
          simp only[aw,a1,ak];rfl
         refine .store rfl aZ (.c (.arr N 1 (Int.toNat m) (by omega) ?_)) λl b=>⟨_,_,n,⟨a3 l,?_⟩,ay.put (by omega) aZ (.box (aQ.replicate .bC _))⟩
         . intro x f q d;rw[gi,ab rfl]at f;cases f;simp[ct.cU]at d;rw[<-d]
         . simp only[cH,s3,AD]at b;obtain⟨H,I⟩:=b;obtain⟨h1,E,F⟩:=lO.1 H;exact⟨h1,E,F,λ_=>I⟩
       . cases h
     . rename_i O B;split at h
       . rename_i t ht;split at h
         . rename_i u L a;have a:=cR a;subst a;cases h;obtain⟨o,v1,a1,a2,a3⟩:=bZ he aj s;have:=a2.eR;subst this;have j:=mh (N:=N) (J:=J) i;have g:kI z=false:=by
            unfold kI;split
            . exact absurd (show A=[.bC] by simp only[lp,vS]at i;cases i;rfl) B
            . rfl
           have w:t.enc U u=ts:=M1 L p;have aZ:c7 N J (N+16) (cj J N (.arr t (List.replicate (Int.toNat m) u))):=iZ (by omega)
           have n:aw (.mslice (t.sz U) bytes z x) env1 J1 N=some (o/\(0:Int)<=m/\Int.toNat m*bytes<=gr/\Int.toNat m<=dd/\(kI z=true->Int.toNat m≠0),.c (.arr N (t.sz U) 0 (Int.toNat m)),cn J1 N (.arr (t.sz U) (List.replicate (Int.toNat m) ts))):=by
            simp only[aw,a1,ak,sk j p,g];rfl
           refine .store rfl aZ (.c (.arr N (t.sz U) (Int.toNat m) (by omega) ?_)) λl b=>⟨_,_,n,⟨a3 l,(lO.1 b).1,(lO.1 b).2.1,(lO.1 b).2.2,λe=>by rw[g]at e;cases e⟩,ay.put (by omega) aZ ?_⟩
           . intro x f q d;rw[gi,ab rfl]at f;cases f;simp[ct.cU]at d;rw[<-d]
           . have:=hb.arr (N:=N+16) (J:=cj J N (.arr t (List.replicate (Int.toNat m) u))) t (List.replicate (Int.toNat m) u);rw[List.map_replicate,w]at this;exact this
         . cases h
       split at h
       . rename_i a;have a:=cR a;cases h;obtain⟨o,v1,a1,a2,a3⟩:=bZ he aj s;have:=a2.eR;subst this;have j:=mh (N:=N) (J:=J) i;have g:kI z=false:=by
          unfold kI;split
          . exact absurd (show A=[.bC] by simp only[lp,vS]at i;cases i;rfl) B
          . rfl
         have aZ:c7 N J (N+16) (cj J N (.rows sz (List.replicate (Int.toNat m) A))):=iZ (by omega);have n:aw (.mslice sz bytes z x) env1 J1 N=some (o/\(0:Int)<=m/\Int.toNat m*bytes<=gr/\Int.toNat m<=dd/\(kI z=true->Int.toNat m≠0),.c (.arr N sz 0 (Int.toNat m)),cn J1 N (.arr sz (List.replicate (Int.toNat m) ts))):=by
          simp only[aw,a1,ak,sk j p,g];rfl
         refine .store rfl aZ (.c (.arr N sz (Int.toNat m) (by omega) ?_)) λl b=>⟨_,_,n,⟨a3 l,(lO.1 b).1,(lO.1 b).2.1,(lO.1 b).2.2,λe=>by rw[g]at e;cases e⟩,ay.put (by omega) aZ (.rows (aQ.replicate (R:=λr e=>ha r=some e) p _) (by intro r K;rw[yl K];exact a))⟩
         intro x f q d;rw[gi,ab rfl]at f;cases f;simp[ct.cU]at d;rw[<-d]
       . cases h
 . cases h
theorem abJ{cs:List C}(h:cc gl gd env J N (.allocA cs)=some (c,v,J')):dT N J J1 (.allocA cs) env1 (cy env G gd) c v J':=by
 simp[cc]at h;split at h
 . rename_i xs b;split at h
   . rename_i t l ad;cases h;unfold CQ at ad;split at ad
     . rename_i c0 r;split at ad
       . rename_i a ht hs;cases ad;obtain⟨ts,az,d⟩:=Tu ht (mh (N:=N) (J:=J) b) hs;have k:c7 N J (N+16) (cj J N (.arr _ a)):=iZ (by simp);refine .store rfl k (.c (.ptr _ _)) λe _=>⟨True,_,by simp[aw,az];rfl,trivial,ay.put (by simp) k ?_⟩
         have f:c0.ty.sz U=1:=by
          generalize c0.ty=t0 at ht;cases t0<;>first|rfl|cases ht
         have:=hb.arr (N:=N+16) (J:=cj J N (.arr _ a)) _ a
         grind
       grind
     grind
   grind
 grind
theorem acR{k:Nat}{x y:aL}(h:cc gl gd env J N (.idxP k x y)=some (c,v,J')):dT N J J1 (.idxP k x y) env1 (cy env G gd) c v J':=by
 simp[cc]at h;split at h
 . rename_i b kk m g i;split at h
   . split at h
     . rename_i e;have e:=cR e;cases h;obtain⟨j,v1,a1,a2,a3⟩:=bZ he aj g;obtain⟨l,v2,b1,b2,f⟩:=bZ he aj i;have:=a2.hx;have:=b2.eR;refine .neutral ay (.c (.cl _ _ _ _)) λd a=>⟨j/\l/\(0:Int)<=m/\Int.toNat m<k,?_,a3 d,f d,(nw.1 a).1,(nw.1 a).2⟩
       grind[aw]
     grind
   grind
 grind
theorem acS{k:Nat}{x:aL}{lo hi:Option aL}(h:cc gl gd env J N (.slcP k x lo hi)=some (c,v,J')):dT N J J1 (.slcP k x lo hi) env1 (cy env G gd) c v J':=by
 simp[cc]at h;split at h
 . rename_i b l r e ad f;cases h;obtain⟨i,v1,a1,a2,a3⟩:=bZ he aj e;obtain⟨pl,g,l2⟩:=oL he aj ay ad;obtain⟨j,m,n⟩:=oL he aj ay f;have:=a2.hx;subst this;exact .neutral ay (.c (.sub _ _ _)) λa d=>⟨i/\pl/\j/\0<=l.getD 0/\l.getD 0<=r.getD _/\r.getD _<=k,by simp[aw,a1,g,m],a3 a,l2 a,n a,iF.1 d⟩
 grind
omit he aj ay in
theorem aci{b off len:Nat}{es:List (List T)}{s:List UInt8}(h:aJ J1 b=some (.arr 1 es))(hs:bytesOf ((es.drop off).take len)=some s):mW J1 (.c (.arr b 1 off len))=some (off+len<=es.length,s):=by grind[mW]
omit he aj ay in
theorem acj{b off len:Nat}{es:List (List T)}{s:List UInt8}(h:aJ J1 b=some (.arr 1 es))(hs:bytesOf ((es.drop off).take len)=some s):mW J1 (.c (.fq b 1 off len))=some (off+len<=es.length,s):=by grind[mW]
omit he aj ay in
theorem Zs{es:List (List T)}{s:List UInt8}(hs:bytesOf es=some s):mW J1 (.c (.t (.slice es)))=some (True,s):=by grind[mW]
theorem agU{x:aL}(h:cc gl gd env J N (.b2s x)=some (c,v,J')):dT N J J1 (.b2s x) env1 (cy env G gd) c v J':=by
 simp only[cc]at h;split at h
 . rename_i l d;cases h;obtain⟨f,v1,a1,a2,a3⟩:=bZ he aj d;have:=a2.jw;subst this
   exact .neutral ay (.c (.t (U:=U) _)) λa j=>⟨f/\True,by
    simp only[aw,a1,ak]
    exact(cC _ (Zs (w9 (U:=U) l))).trans rfl,a3 a,trivial⟩
 . rename_i d;cases h;obtain⟨f,v1,a1,a2,a3⟩:=bZ he aj d;have:=a2.tN;subst this;exact .neutral ay (.c (.t (U:=U) ⟨.str,_⟩)) λa j=>⟨f/\True,by simp only[aw,a1,mW];rfl,a3 a,trivial⟩
 . rename_i b d;split at h
   . rename_i l g;cases h;obtain⟨f,v1,a1,a2,a3⟩:=bZ he aj d;obtain⟨o,n,rfl,m,a⟩:=a2.fH;have:=a _ g _ rfl;cases this;obtain⟨_,y,k,i⟩:=ay _ _ g;cases i;refine .neutral ay (.c (.t (U:=U) ⟨.str,_⟩)) λa j=>⟨f/\(0+l.length<=(l.map ((aD.int .u8).enc U)).length),?_,a3 a,by simp⟩
     simp only[aw,a1,ak];have e:bytesOf (((l.map ((aD.int .u8).enc U)).drop 0).take l.length)=some (strOf l):=by grind[List.take_of_length_le,w9]
     exact(cC (Option.map _) (aci k e)).trans rfl
   grind
 . rename_i b lo len d;split at h
   . rename_i l g;cases h;obtain⟨f,v1,a1,a2,a3⟩:=bZ he aj d;have:v1= .c (.fq b 1 lo len):=by cases a2 with|c h=>cases h;rfl
     subst this;obtain⟨_,y,k,i⟩:=ay _ _ g;cases i;refine .neutral ay (.c (.t (U:=U) ⟨.str,_⟩)) λa j=>⟨f/\(lo+len<=(l.map ((aD.int .u8).enc U)).length),?_,a3 a,by grind[vJ]⟩
     simp only[aw,a1,ak];have e:bytesOf (((l.map ((aD.int .u8).enc U)).drop lo).take len)=some (strOf ((l.drop lo).take len)):=by rw[<-List.map_drop,<-List.map_take];exact w9 _
     exact(cC (Option.map _) (acj k e)).trans rfl
   grind
 grind
theorem abK{e e8:Nat}(h:cc gl gd env J N (.allocS e e8)=some (c,v,J')):dT N J J1 (.allocS e e8) env1 (cy env G gd) c v J':=by
 obtain⟨rfl,rfl,rfl⟩:=h;have f:c7 N J (N+16) (cj (cj J (N+1) (.buf e8 [])) N (.bX e (.cr (N+1)))):=by
  refine⟨by simp,λb j g a=>?_⟩
  grind[gi]
 refine .store rfl f (.c (.ptr _ _)) λ_ _=>⟨True,_,rfl,trivial,λb x a=>?_⟩
 rw[gi]at a;rw[cE];by_cases h1:N=b
 . rw[ab h1]at a⊢;cases a;refine⟨by omega,_,rfl,.bX (.cr _ _ (by simp) λx a p i=>?_)⟩;rw[gi,gi]at a
   grind[ct.cU]
 . rw[ag h1,gi]at a;rw[ag h1,cE];by_cases d:N+1=b
   . rw[ab d]at a⊢;cases a;exact⟨by omega,_,rfl,.buf _ _⟩
   . rw[ag d]at a⊢;obtain⟨aZ,y,ba,bE⟩:=ay b x a;exact⟨by omega,y,ba,bE.mono f⟩
theorem ack(h:cc gl gd env J N .mkset=some (c,v,J')):dT N J J1 .mkset env1 (cy env G gd) c v J':=by
 obtain⟨rfl,rfl,rfl⟩:=h;have k:c7 N J (N+16) (cj J N (.set [])):=iZ (by simp);exact .store rfl k (.c (.mp _)) λ_ _=>⟨True,_,rfl,trivial,ay.put (by simp) k (.set _)⟩
theorem acm{x y:aL}(h:cc gl gd env J N (.lkset x y)=some (c,v,J')):dT N J J1 (.lkset x y) env1 (cy env G gd) c v J':=by
 simp[cc]at h;split at h
 . rename_i b s f g;split at h
   . rename_i ks e;cases h;obtain⟨p,v1,a1,a2,a3⟩:=bZ he aj f;obtain⟨q,v2,b1,b2,d⟩:=bZ he aj g;have:=a2.Eg;subst this;have:=b2.iR;subst this;obtain⟨_,z,d1,d2⟩:=ay b _ e;cases d2;exact .neutral ay (.c (.t _)) λa _=>⟨p/\q,by simp[aw,a1,b1,d1];rfl,a3 a,d a⟩
   grind
 grind
theorem acn{x y:aL}(h:cc gl gd env J N (.upset x y)=some (c,v,J')):dT N J J1 (.upset x y) env1 (cy env G gd) c v J':=by
 simp[cc]at h;split at h
 . rename_i b s g i;split at h
   . rename_i ks d;cases h;obtain⟨p,v1,a1,a2,a3⟩:=bZ he aj g;obtain⟨q,v2,b1,b2,f⟩:=bZ he aj i;have:=a2.Eg;subst this;have:=b2.iR;subst this;obtain⟨j,z,d1,d2⟩:=ay b _ d;cases d2;have e:c7 N J (N+16) (cj J b (.set (ig ks s))):=mj (by omega) d (λp h=>by simp[ct.cU]at h)
     exact .store rfl e (.aS [] [] rfl (by simp)) λa _=>⟨p/\q,_,by simp[aw,a1,b1,d1],⟨a3 a,f a⟩,ay.put (by omega) e (.set _)⟩
   . cases h
 grind
theorem Zt{e bytes:Nat}{x y:aL}(h:cc gl gd env J N (.appendB e bytes x y)=some (c,v,J')):dT N J J1 (.appendB e bytes x y) env1 (cy env G gd) c v J':=by
 simp[cc]at h;split at h
 . rename_i b s a w;split at h
   . rename_i d l f;split at h
     . rename_i u;have:=cR u;subst this;cases h;obtain⟨p,v1,a1,a2,a3⟩:=bZ he aj a;obtain⟨q,v2,b1,b2,m⟩:=bZ he aj w;obtain⟨n,rfl,B,t⟩:=a2.wk;have:=t _ f _ rfl;cases this;have:=b2.iR;subst this;obtain⟨_,z,d1,d2⟩:=ay b _ f;cases d2;have aZ:c7 N J N (dl J b):=oW
       have ba:c7 N _ (N+16) (cj (dl J b) N (.buf d (tO l s))):=iZ (by simp);have r:cq N (dl J b) (eM J1 b):=by
        intro k x a;rw[lS]at a;split at a
        . grind
        . rename_i C;obtain⟨h1,y,A,o⟩:=ay k x a;exact⟨h1,y,by rw[d'];grind,o.mono aZ⟩
       refine .store rfl (aZ.trans ba) (.c (.cr N (List.length l+List.length s) (by simp) λx a p j=>?_)) λi g=>⟨p/\q/\d=d/\List.length l=List.length l/\gv _ _/\List.length l+List.length s<=dd,_,?_,⟨a3 i,m i,rfl,rfl,(uO g).1,(uO g).2⟩,r.put (by simp) ba (.buf _ _)⟩
       . rw[gi,ab rfl]at a;cases a;simp[ct.cU]at j;exact j.symm.trans (cC _ Ts)
       . simp only[aw,a1,b1,ak,d1];rfl
     grind
   grind
 grind
theorem aco{x:aL}(h:cc gl gd env J N (.sdata x)=some (c,v,J')):dT N J J1 (.sdata x) env1 (cy env G gd) c v J':=by
 simp[cc]at h;split at h
 . rename_i b d;cases h;obtain⟨p,v1,a1,a2,a3⟩:=bZ he aj d;obtain⟨n,rfl,_,_⟩:=a2.wk;exact .neutral ay (.c (.eh _)) λa _=>⟨p,by simp[aw,a1],a3 a⟩
 grind
theorem acT{e:Nat}{x y:aL}(h:cc gl gd env J N (.ustr e x y)=some (c,v,J')):dT N J J1 (.ustr e x y) env1 (cy env G gd) c v J':=by
 simp[cc]at h;split at h
 . rename_i b m a s;split at h
   . rename_i d l n;split at h
     . rename_i r;have:=cR r;subst this;cases h;obtain⟨p,v1,a1,a2,a3⟩:=bZ he aj a;obtain⟨q,v2,b1,b2,i⟩:=bZ he aj s;have:=a2.QD;subst this;have:=b2.eR;subst this;obtain⟨_,z,d1,d2⟩:=ay b _ n;cases d2;have aZ:c7 N J N (dl J b):=oW;have k:cq N (dl J b) (eM J1 b):=by
        intro g x a;rw[lS]at a;split at a
        . grind
        . obtain⟨h1,y,u,j⟩:=ay g x a;exact⟨h1,y,by simp_all[d'],j.mono aZ⟩
       refine .store rfl (aZ.trans (c7.more (by simp))) (.c (.t _)) λf o=>⟨p/\q/\d=d/\m=(List.length l:Int),_,?_,⟨a3 f,i f,rfl,aa5.1 o⟩,k.mono (by simp)⟩
       simp only[aw,a1,b1,ak,d1];rfl
     grind
   grind
 grind
theorem Zu{e sz len:Nat}{z:List C}{parts:List (Nat×aL)}(h:cc gl gd env J N (.bsliceT e sz len z parts)=some (c,v,J')):dT N J J1 (.bsliceT e sz len z parts) env1 (cy env G gd) c v J':=by
 simp[cc]at h;split at h
 . grind
 . split at h
   . rename_i k i;split at h
     . grind
     . rename_i ts b;split at h
       . grind
       . rename_i a;have a:=cR a;split at h
         . rename_i rows g;split at h
           . rename_i l ad;cases h;have j:=mh (N:=N) (J:=J) i;obtain⟨p,es,a1,a2,a4,a3⟩:=Gk he aj g (aQ.replicate (R:=λr e=>ha r=some e) b _) (by grind);have d:=vn ad a2;refine .neutral ay (.c (.t _)) λf _=>⟨p,?_,a3 f⟩
             simp[aw,sk j b,ak,a1];rw[<-d];rfl
           grind
         grind
   grind
theorem I'{o:b9}(h:cc gl gd env J N o=some (c,v,J')):dT N J J1 o env1 (cy env G gd) c v J':=by
 cases o with
 |mov x=>exact ag1 he aj ay h
 |pick c x y=>exact adk he aj ay h
 |alloc cs=>exact aa8 he aj ay h
 |box x=>exact agW he aj ay h
 |allocA cs=>exact abJ he aj ay h
 |idxP k x i=>exact acR he aj ay h
 |idxV k x i=>exact acQ he aj ay h
 |mslice sz b z x=>exact abI he aj ay h
 |slcP k x lo hi=>exact acS he aj ay h
 |b2s x=>exact agU he aj ay h
 |allocS e e8=>exact abK he aj ay h
 |bsliceT e sz len z parts=>exact Zu he aj ay h
 |mkset=>exact ack he aj ay h
 |lkset x k=>exact acm he aj ay h
 |upset x k=>exact acn he aj ay h
 |appendB e b x y=>exact Zt he aj ay h
 |sdata x=>exact aco he aj ay h
 |ustr e x k=>exact acT he aj ay h
 |build z parts=>exact aa7 he aj ay h
 |bslice sz len z parts=>exact abG he aj ay h
 |load agg n x=>exact adn he aj ay h
 |store n x v=>exact aa9 he aj ay h
 |nilCheck x=>exact Zr he aj ay h
 |bin op x y=>exact agV he aj ay h
 |eqAgg neg ks x y=>exact aa6 he aj ay h
 |eqBool neg x y=>exact abF he aj ay h
 |eqNil neg x=>simp[cc]at h
 |lkE z x k=>simp[cc]at h
 |upD x k v=>simp[cc]at h
 |bsliceC sz z ps=>simp[cc]at h
 |appendC sz b x y=>simp[cc]at h
 |not x=>exact ag2 he aj ay h
 |conv k x=>grind[adl]
 |i2s x=>grind[agZ]
 |s2s x=>grind[ag3]
 |fldA off x=>grind[adm]
 |fld agg off n x=>grind[agY]
 |idxA sz x i=>grind[ado]
 |idxS x i=>grind[adp]
 |slcS x lo hi=>grind[adq]
 |slc sz x lo hi=>grind[ag4]
 |slc0 x=>grind[adr]
 |mkfn f caps=>grind[ads]
 |ext x i=>grind[agX]
 |len str x=>grind[ag0]
 |append sz bytes x y=>grind[abH]
 |appendT te sz bytes x y=>exact Z0 he aj ay h
 |max2 x y=>grind[adt]
 |min2 x y=>grind[adu]
 |call f args=>simp[cc]at h
 |callv x args=>simp[cc]at h
end
end
end
section
open Go
variable [da]
variable {U:cK}
def bc.cb(b0:Nat)(c:Cell U.D):bc U->bc U
 |.arr b=>match Nat.beq b b0 with
  |true=>.t c
  |false=>.arr b
 |.cl b ty i o=>match Nat.beq b b0 with
  |true=>.dead
  |false=>.cl b ty i o
 |.pre b h=>match Nat.beq b b0 with
  |true=>.dead
  |false=>.pre b h
 |.dS b lo len=>match Nat.beq b b0 with
  |true=>.dead
  |false=>.dS b lo len
 |x=>x
def bF.cb(b0:Nat)(c:Cell U.D):bF U->bF U
 |.c x=>.c (x.cb b0 c)
 |.agg cs=>.agg (cs.map (bc.cb b0 c))
 |.aS vs=>.aS (go b0 c vs)
where go (b0:Nat) (c:Cell U.D):List (bF U)->List (bF U)
 |[]=>[]
 |v::vs=>v.cb b0 c::go b0 c vs
def ct.cb(b0:Nat)(c:Cell U.D):ct U->ct U
 |.box cs=>.box (cs.map (bc.cb b0 c))
 |.bX E x=>.bX E (x.cb b0 c)
 |.cu t l i o x=>.cu t l i o (x.cb b0 c)
 |x=>x
def rj(b0:Nat)(c:Cell U.D):bO U->bO U
 |[]=>[]
 |(k,v)::r=>(k,v.cb b0 c)::rj b0 c r
def mO(b0:Nat)(c:Cell U.D):a' U->a' U
 |[]=>[]
 |(k,x)::r=>match Nat.beq k b0 with
  |true=>mO b0 c r
  |false=>(k,x.cb b0 c)::mO b0 c r
def vR(b:Nat)(t:aD)(env:bO U)(J:a' U):Option (bO U×a' U):=
 match aU J b with
 |some (.arr a l)=>match Cell.as (.slice t) (⟨.slice a,l⟩:Cell U.D)with
  |some l=>some (rj b ⟨.slice t,l⟩ env,mO b ⟨.slice t,l⟩ J)
  |none=>none
 |some (.rows _ r)=>match l0 U t r with
  |some l=>some (rj b ⟨.slice t,l⟩ env,mO b ⟨.slice t,l⟩ J)
  |none=>none
 |_=>some (env,J)
def j1:List (Nat×aD)->bO U->a' U->Option (bO U×a' U)
 |[],env,J=>some (env,J)
 |(b,t)::r,env,J=>match vR b t env J with
  |some (env',J')=>j1 r env' J'
  |none=>none
section
variable {kk N:Nat}{J J':a' U}{J1:aF}{env env':bO U}{env1:Env}{G:Nat->Bool}{gl:ej}
theorem CG{b0:Nat}{c:Cell U.D}:∀{env:bO U} {k:Nat},aU (rj b0 c env) k=(aU env k).map (bF.cb b0 c)
 |[],k=>rfl
 |(i,v)::r,k=>by
  simp[rj,aU];cases Nat.beq i k with
  |true=>rfl
  |false=>exact CG
theorem sv{b0:Nat}{c:Cell U.D}:∀{J:a' U} {k:Nat},aU (mO b0 c J) k=if k=b0 then none else(aU J k).map (ct.cb b0 c)
 |[],k=>by simp[mO,aU]
 |(i,x)::r,k=>by
  simp[mO];cases h:Nat.beq i b0 with
  |true=>
   simp[sv,aU]
   grind[cR]
  |false=>
   simp[aU,sv]
   grind
theorem ct.Aw{b0:Nat}{c:Cell U.D}{x:ct U}:(x.cb b0 c).cU=x.cU:=by cases x<;>simp[ct.cb,ct.cU]
theorem ca.cb{b0 sz:Nat}{c:Cell U.D}{es:List (List T)}{v:ct U}(h0:aU J b0=some v)(A:v.cU=some (sz,es.length))(w:c.enc U= .slice es){x:bc U}{d:C}(h:ca N J x d):
 ca N (mO b0 c J) (x.cb b0 c) (d.cb b0 sz es):=by
 cases h with
 |t c=>exact .t c
 |ptr b o=>exact .ptr b o
 |cl b t i o=>
  simp only[bc.cb,C.cb];cases h:Nat.beq b b0 with
  |true=>exact .dead _
  |false=>rw[ag (ij h)];exact .cl b t i o
 |dx t x o=>exact .dx t x o
 |arr b j n a h=>
  simp only[bc.cb,C.cb];cases e:Nat.beq b b0 with
  |true=>
   have:=cR e;subst this;have:=h v h0 _ A;cases this;rw[ab rfl,ab ⟨rfl,by simp⟩];have:cut es 0 es.length=es:=by simp[cut]
   rw[this,<-w];exact .t c
  |false=>
   rw[ag (ij e)];refine .arr b j n a λy g p q=>?_
   rw[sv]at g
   grind[bb,ct.Aw]
 |sub b lo len=>exact .sub b lo len
 |pre b j n a h=>
  simp only[bc.cb];cases e:Nat.beq b b0 with
  |true=>exact .dead _
  |false=>
   simp only[C.cb];rw[ag (ij e)];refine .pre b j n a λy g p q=>?_
   rw[sv,ag (ij e)]at g
   grind[bb,ct.Aw]
 |dS b j lo len a h=>
  simp only[bc.cb];cases e:Nat.beq b b0 with
  |true=>exact .dead _
  |false=>
   refine .dS b j lo len a λy g p q=>?_
   rw[sv,ag (ij e)]at g
   grind[bb,ct.Aw]
 |mp b=>exact .mp b
 |eh b=>exact .eh b
 |cr b n a h=>
  refine .cr b n a λy g p q=>?_
  grind[sv,bb,ct.Aw]
 |bC=>exact .bC
 |eT=>exact .eT
 |eS=>exact .eS
 |fn f caps=>exact .fn f caps
 |dead d=>exact .dead _
theorem Tv{b0:Nat}{c:Cell U.D}:∀{vs:List (bF U)} {i:Nat},(bF.cb.go b0 c vs)[i]?=(vs[i]?).map (bF.cb b0 c)
 |[],i=>by rfl
 |v::vs,0=>by rfl
 |v::vs,i+1=>by simp[bF.cb.go,Tv]
theorem Sb{b0:Nat}{c:Cell U.D}:∀{vs:List (bF U)},(bF.cb.go b0 c vs).length=vs.length
 |[]=>rfl
 |v::vs=>by simp[bF.cb.go,Sb]
theorem b6.cb{b0 sz:Nat}{c:Cell U.D}{es:List (List T)}{f:ct U}(h0:aU J b0=some f)(e:f.cU=some (sz,es.length))(a:c.enc U= .slice es){x:bF U}{d:V}(h:b6 N J x d):
 b6 N (mO b0 c J) (x.cb b0 c) (d.cb b0 sz es):=by
 induction h with
 |c h=>exact .c (h.cb h0 e a)
 |agg h=>exact .agg (aQ.map_map (h.imp λ_ _ _ aa=>aa.cb h0 e a))
 |aS xs g ad h ih=>
  refine .aS _ _ (by grind[Sb,Fj]) ?_
  grind[Tv,F1]
theorem L8{b0 sz:Nat}{c:Cell U.D}{es:List (List T)}{p:ct U}(h0:aU J b0=some p)(f:p.cU=some (sz,es.length))(e:c.enc U= .slice es)(hs:aJ J1 b0=some (.arr sz es))(he:c6 N J G env env1)(ay:cq N J J1):
 Conv kk N env1 J1 N (nB b0 sz es env1) (k6 b0 sz es J1)/\c6 N (mO b0 c J) G (rj b0 c env) (nB b0 sz es env1)/\cq N (mO b0 c J) (k6 b0 sz es J1):=by
 refine⟨Conv.freeze b0 hs,λk v n=>?_,λb x g=>?_⟩
 . rw[CG,bb]at n;obtain⟨v0,h1,rfl⟩:=n;obtain⟨d,j,m⟩:=he k v0 h1;exact⟨_,by grind[x7],m.cb h0 f e⟩
 . rw[sv]at g;split at g
   . grind
   . simp only[bb]at g;obtain⟨q,h1,rfl⟩:=g;obtain⟨j,y,m,a⟩:=ay b q h1;refine⟨j,y.cb b0 sz es,by simp_all[C6,ag],?_⟩;cases a with
     |box a=>exact .box (aQ.map_map (a.imp λ_ _ _ aa=>aa.cb h0 f e))
     |arr t l=>exact .arr t l
     |set ks=>exact .set ks
     |buf E s=>exact .buf E s
     |bX a=>exact .bX (a.cb h0 f e)
     |cu t l i o a=>exact .cu t l i o (a.cb h0 f e)
     |rows a bf=>exact .rows a bf
theorem gE.cb{b0:Nat}{c:Cell U.D}(h:gE gl env G):gE gl (rj b0 c env) G:=by
 refine⟨h.free,λk t b e=>?_⟩;obtain⟨y,h1,a⟩:=h.held k t b e;refine⟨y,?_,a⟩;unfold e5 at h1⊢;rw[CG];split at h1
 . rename_i x f;rw[f];exact h1
 grind
theorem acp{α a:Type}{f:α->a}{l:List α}{sz:Nat}:some (sz,l.length)=some (sz,(l.map f).length):=by simp
theorem Ja{b:Nat}{t:aD}(h:vR b t env J=some (env',J'))(he:c6 N J G env env1)(ay:cq N J J1):
 ∃f bg,Conv kk N env1 J1 N f bg/\c6 N J' G env' f/\cq N J' bg/\(gE gl env G->gE gl env' G):=by
 unfold vR at h;split at h
 . rename_i k j ad;split at h
   . rename_i l d;have e:=Cell.jE d;cases e;cases h;obtain⟨_,y,h1,a⟩:=ay b _ ad;cases a;obtain⟨aZ,ba,bE⟩:=L8 (c:=⟨.slice t,l⟩) ad acp rfl h1 he ay;exact⟨_,_,aZ,ba,bE,λaj=>aj.cb⟩
   grind
 . rename_i sz r ad;split at h
   . rename_i l d;cases h;obtain⟨_,y,h1,a⟩:=ay b _ ad;cases a with
     | @rows _ _ es a i=>
      have g:=vn d a;obtain⟨aZ,ba,bE⟩:=L8 (c:=⟨.slice t,l⟩) ad (by simp[ct.cU];rw[a.length]) (by rw[<-g];rfl) h1 he ay;exact⟨_,_,aZ,ba,bE,λaj=>aj.cb⟩
   grind
 grind[Conv.refl]
theorem uh:∀{l:List (Nat×aD)} {env env':bO U} {J J':a' U} {env1:Env} {J1:aF},j1 l env J=some (env',J')->c6 N J G env env1->cq N J J1->
 ∃a bg,Conv kk N env1 J1 N a bg/\c6 N J' G env' a/\cq N J' bg/\(gE gl env G->gE gl env' G)
 |[],env,env',J,J',env1,J1,h,he,ay=>by grind[j1,Conv.refl]
 |(b,t)::r,env,env',J,J',env1,J1,h,he,ay=>by
  simp[j1]at h;split at h
  . rename_i e s h1;obtain⟨az,s1,aZ,ba,bE,bU⟩:=Ja h1 he ay;obtain⟨c,j,d,f,g,i⟩:=uh h ba bE;exact⟨c,j,aZ.trans d,f,g,λaj=>i (bU aj)⟩
  grind
theorem Conv.close{b sz i o:Nat}{es:List (List T)}{t:T}(c:aJ J1 b=some (.cu sz es i o (.t t))):
 Conv kk N env1 J1 N env1 (cn J1 b (.arr sz (es.set i ((el es i).take o++[t]++(el es i).drop (o+1))))):=by
 intro ao nt φ S a w J R;obtain⟨⟨a1,a2,a3,a4,a5,F⟩,⟨vs,E,aZ,ba,bE,g,bU,cL⟩,cM⟩:=R.bm.blk _ _ c;have q:es[i]?=some (el es i):=by unfold el;rw[List.getD,eu a5];rfl
 have G:=a3 _ (eU q);refine⟨φ,S,R.put (R.dp _ _ c).1 rfl ⟨by simpa using a1,by simpa using a2,λe he=>?_,a4,λ_=>⟨vs,E,aZ,ba,λB j e D he ht=>?_,cM⟩⟩ λh0=>⟨λk y A x p=>R.bm.inj k b y _ A c x p h0,R.own b _ c h0⟩⟩
 . grind
 . rw[AK]at he;by_cases v:i=B
   . subst v;rw[ab rfl,ab a5]at he;cases he;have f:=(lM (vs:=el es i) (off:=o) (xs:=[t]) (by simp;omega) j)
     unfold hK at f;rw[show o+[t].length=o+1 from rfl]at f;rw[f]at ht;by_cases c1:j=o
     . subst c1;rw[ag (by omega),ab (by omega),Nat.sub_self]at ht;cases ht;exact⟨g,bU,cL⟩
     . have H:(el es i)[j]?=some D:=by
        by_cases c2:j<o
        . rwa [ab c2]at ht
        . rwa [ag c2,ag (by omega)]at ht
       grind
   grind
def CH(b:Nat)(env:bO U)(J:a' U):Option (bO U×a' U):=
 match aU J b with
 |some (.cu t l i o (.t c))=>match Nat.ble (o+1) (t.sz U)with
  |true=>match rk U t l i o [.t c]with
   |some a=>some (env,cj J b (.arr t a))
   |none=>none
  |false=>none
 |_=>none
def L9(b:Nat)(env:bO U)(J:a' U):Option (bO U×a' U):=
 match aU J b with
 |some (.cu t l i o (.arr b2))=>match (t.row U (t.at U l i))[o]? with
  |some ⟨.slice te,_⟩=>match vR b2 te env J with
   |some (env',J')=>CH b env' J'
   |none=>none
  |_=>none
 |_=>CH b env J
def KU:a' U->Option Nat
 |[]=>none
 |(b,.cu ..)::_=>some b
 |_::r=>KU r
def HK(env:bO U)(J:a' U):Option (bO U×a' U):=
 match KU J with
 |none=>some (env,J)
 |some b=>L9 b env J
theorem RC{b:Nat}(h:CH b env J=some (env',J'))(he:c6 N J G env env1)(ay:cq N J J1):
 ∃e bg,Conv kk N env1 J1 N e bg/\c6 N J' G env' e/\cq N J' bg:=by
 unfold CH at h;split at h
 . rename_i t l i o c ad;split at h
   . split at h
     . rename_i l2 j;cases h;obtain⟨g,y,h1,d⟩:=ay b _ ad;cases d with
       |cu _ _ _ _ d=>
        cases d;have n:l2.length=List.length l:=by
         grind[rk]
        have f:c7 N J N (cj J b (.arr t l2)):=mj (eJ _) ad (λp h=>by
         grind[ct.cU])
        refine⟨env1,cn _ b _,?_,he.mono f,ay.put g f (.arr t l2)⟩;by_cases hi:i<List.length l
        . obtain⟨ts,az,k⟩:=F7 (N:=N) (J:=J) j hi (.cons (.t c) .nil) (by simp_all);have:ts=[c.enc U]:=by grind[toTs,toT]
          have:=Conv.close (kk:=kk) (N:=N) (env1:=env1) h1
          grind
        . intro ao nt φ S a w m R;obtain⟨⟨_,_,_,_,a5,_⟩,_⟩:=R.bm.blk _ _ h1
          grind
     grind
   grind
 grind
theorem W5(h:HK env J=some (env',J'))(he:c6 N J G env env1)(ay:cq N J J1):
 ∃a bg,Conv kk N env1 J1 N a bg/\c6 N J' G env' a/\cq N J' bg:=by
 unfold HK at h;split at h
 . grind[Conv.refl]
 . unfold L9 at h;split at h
   . split at h
     . split at h
       . rename_i e s h1;obtain⟨az,s1,aZ,ba,bE,_⟩:=Ja (gl:=[]) h1 he ay;obtain⟨b,g,c,d,f⟩:=RC h ba bE;exact⟨b,g,aZ.trans c,d,f⟩
       grind
     grind
   . exact RC h he ay
theorem Conv.own{k:Nat}{g:Bool}{sz:Nat}(p:look env1 k=some (g,.c .bC))(q:0<sz)(A:kk<=N):Conv kk N env1 J1 (N+1) ((k,g,.c (.arr N sz 0 0))::env1) (cn J1 N (.arr sz [])):=by
 intro ao nt φ S a w y R;have f:=R.Ei q (by omega);have cm:fe φ N (0,0) N=(0,0):=by simp[fe]
 refine⟨fe φ N _,S,⟨f.bm,λi j v ad aj=>?_,λi j v ad aj=>?_,λi j v ad aj=>?_,f.dp,f.size,f.defers,f.ext,f.own,f.fix,f.fV⟩⟩
 . simp[look]at ad;split at ad
   . rename_i e;cases ad;subst e;obtain⟨x,t,o⟩:=f.fT _ _ _ p aj;refine⟨x,t,?_⟩;cases o with
     |c o=>
      obtain⟨a,rfl⟩:=o;refine .c ⟨a,by grind,λh=>absurd (by grind) h,by simp⟩
   . exact f.fT i j v ad aj
 . simp[look]at ad;split at ad
   . rename_i e;cases ad;subst e;exact f.gJ _ _ _ p aj
   . exact f.gJ i j v ad aj
 . simp only[look]at ad;split at ad
   . grind[V.aq,C.aq,lt]
   . exact f.fS i j v ad aj
theorem Conv.agf{b j:Nat}{sz:Nat}{cs:List C}(O:aJ J1 b=some (.box cs))(F:cs[j]?=some .bC)(P:b<N)(J:0<sz)(U:kk<=N):
 Conv kk N env1 J1 (N+1) env1 (cn (cn J1 N (.arr sz [])) b (.box (cs.set j (.arr N sz 0 0)))):=by
 intro ao nt φ S a w Q R;have e:=R.Ei J (by omega);have cm:fe φ N (0,0) N=(0,0):=by simp[fe]
 have A:aJ (cn J1 N (.arr sz [])) b=some (.box cs):=by rw[cE];grind
 have B:∀c x,aJ (cn (cn J1 N (.arr sz [])) b (.box (cs.set j (.arr N sz 0 0)))) c=some x->(c=b/\x= .box (cs.set j (.arr N sz 0 0)))\/aJ (cn J1 N (.arr sz [])) c=some x:=by
  grind[cE]
 have g:∀c x,aJ (cn (cn J1 N (.arr sz [])) b (.box (cs.set j (.arr N sz 0 0)))) c=some x->∃y,aJ (cn J1 N (.arr sz [])) c=some y:=by grind
 refine⟨fe φ N _,S,⟨⟨λc x f=>?_,λc q x y f K G=>?_,e.bm.st⟩,e.fT,e.gJ,e.fS,λc x f=>?_,e.size,e.defers,e.ext,λc x f=>?_,e.fix,e.fV⟩⟩
 . rcases B c x f with⟨rfl,rfl⟩|h
   . obtain⟨h0,vs,E,h1,t,D⟩:=e.bm.blk _ _ A;refine⟨h0,vs,E,h1,?_,D⟩;obtain⟨v,X,H⟩:=t.get F;obtain⟨a,rfl⟩:=H;have:=aQ.set (i:=j) t (a:= .arr N sz 0 0) (b:= .slice a 0 0) ⟨a,by grind,λh=>absurd (by grind) h,by simp⟩;have W:vs.set j (.slice a 0 0)=vs:=by
      apply s5
      grind
     grind
   . exact e.bm.blk c x h
 . obtain⟨p,o⟩:=g c x f;obtain⟨M,L⟩:=g q y K;exact e.bm.inj c q p M o L G
 . rcases B c x f with⟨rfl,rfl⟩|h
   . have:=(e.dp _ _ A).2
     grind[bp.aq,List.mem_or_eq_of_mem_set,C.aq,lt]
   . exact e.dp c x h
 . obtain⟨p,o⟩:=g c x f;exact e.own c p o
theorem Conv.trim{q b j:Nat}{sz h:Nat}{cs:List C}{es:List (List T)}(U:aJ J1 q=some (.box cs))(X:cs[j]?=some (.arr b sz 0 h))(O:aJ J1 b=some (.arr sz es))(aa:h<=es.length)(aP:q<N):
 Conv kk N env1 J1 (N+1) env1 (cn (cn (eM J1 b) N (.arr sz (es.take h))) q (.box (cs.set j (.arr N sz 0 h)))):=by
 intro ao nt φ S a w aG R;have ax:b<N:=by have:=(R.dp _ _ O).1;grind[lt]
 have W:∀c,lt N c=true->fe φ N (φ b) c=φ c:=by
  intro c t;simp only[lt,hq]at t
  grind[fe]
 have D:∀c,lt N c=true->lt (N+1) c=true:=λc t=>L5 (by omega) t
 have f:=R.zb W;have cm:fe φ N (φ b) N=φ b:=by simp[fe]
 have P:=W b (by grind[lt]);have Q:∀c x,aJ (cn (cn (eM J1 b) N (.arr sz (es.take h))) q (.box (cs.set j (.arr N sz 0 h)))) c=some x->(c=q/\x= .box (cs.set j (.arr N sz 0 h)))\/(c≠q/\c=N/\x= .arr sz (es.take h))\/(c≠q/\c≠N/\c≠b/\aJ J1 c=some x):=by
  grind[cE,d']
 have H:∀c x,aJ (cn (cn (eM J1 b) N (.arr sz (es.take h))) q (.box (cs.set j (.arr N sz 0 h)))) c=some x->∃A y,aJ J1 A=some y/\fe φ N (φ b) c=fe φ N (φ b) A/\(A=if c=N then b else c):=by grind
 refine⟨fe φ N (φ b),S,⟨⟨λc x o=>?_,λc A x y o am aI=>?_,f.bm.st⟩,f.fT,f.gJ,λk g v ad aj=>V.gH D (f.fS k g v ad aj),λc x o=>?_,f.size,f.defers,f.ext,λc x o h0=>?_,f.fix,λc t=>by have:=f.fV c t;exact D c this⟩⟩
 . rcases Q c x o with⟨rfl,rfl⟩|⟨_,rfl,rfl⟩|⟨_,_,_,p⟩
   . obtain⟨h0,vs,E,h1,B,G⟩:=f.bm.blk _ _ U;refine⟨h0,vs,E,h1,?_,G⟩;obtain⟨v,a1,Y⟩:=B.get X;have Z:aX (fe φ N (φ b)) w S (.arr N sz 0 h) v:=by
      obtain⟨a,az,F,cz⟩:=Y;rw[P]at az F cz;exact⟨a,by rw[cm];exact az,by rw[cm];exact F,by rw[cm];exact cz⟩
     have:=aQ.set (i:=j) B Z;have a0:vs.set j v=vs:=by
      apply s5
      grind
     grind
   . obtain⟨h0,h1,B,G,p⟩:=f.bm.blk _ _ O;rw[P]at h0 p;refine⟨by rw[cm,ju];omega,by rw[ju];omega,λe he=>B e (pG he),G,λt=>?_⟩
     grind
   . exact f.bm.blk c x p
 . obtain⟨d,K,J,az,F⟩:=H c x o;obtain⟨L,ap,an,cz,e6⟩:=H A y am;have bR:d≠L:=by grind
   intro h0 M;rw[az]at h0⊢;rw[cz]at M⊢;exact f.bm.inj d L K ap J an bR h0 M
 . rcases Q c x o with⟨rfl,rfl⟩|⟨_,rfl,rfl⟩|⟨_,_,_,p⟩
   . have:=(f.dp _ _ U).2
     grind[bp.aq,List.all_eq_true,List.mem_or_eq_of_mem_set,C.gH,C.aq,lt]
   . exact⟨by simp[lt],rfl⟩
   . exact⟨D c (f.dp c x p).1,bp.gH D (f.dp c x p).2⟩
 . obtain⟨d,K,J,az,_⟩:=H c x o;rw[az]at h0⊢;exact f.own d K J h0
def uP:Nat->List (bc U)->Option (Nat×Nat×Nat)
 |_,[]=>none
 |j,.pre b h::_=>some (j,b,h)
 |j,_::r=>uP (j+1) r
def qz(J:a' U):a' U->Option (Nat×List (bc U)×Nat×Nat×Nat)
 |[]=>none
 |(q,.box cs)::r=>match aU J q with
  |some (.box a)=>match uP 0 a with
   |some p=>some (q,a,p)
   |none=>qz J r
  |_=>qz J r
 |_::r=>qz J r
theorem Tw:∀{cs:List (bc U)} {j i b h:Nat},uP j cs=some (i,b,h)->j<=i/\cs[i-j]?=some (.pre b h)
 |[],j,i,b,h,a=>by grind[uP]
 |c::r,j,i,b,h,a=>by
  have next:uP (j+1) r=some (i,b,h)->j<=i/\(c::r)[i-j]?=some (.pre b h):=by
   intro a;obtain⟨h1,f⟩:=Tw a
   grind
  cases c with
  |pre d e=>grind[uP,Option.some.injEq]
  |_=>exact next a
theorem A8{q:Nat}{cs:List (bc U)}{i b h:Nat}:∀{l:a' U},qz J l=some (q,cs,i,b,h)->aU J q=some (.box cs)/\cs[i]?=some (.pre b h)
 |[],a=>by simp[qz]at a
 |(k,x)::r,a=>by
  cases x with
  |box c0=>
   simp[qz]at a;split at a
   . rename_i e c;split at a
     . rename_i p d;obtain⟨rfl,rfl,rfl⟩:=a;exact⟨c,by simpa using(Tw d).2⟩
     . exact A8 a
   . exact A8 a
  |_=>exact A8 (by simpa[qz]using a)
def Dm{R:Type}(J:a' U)(N:Nat)(k:a' U->Nat->Option R):Option R:=
 match qz J J with
 |none=>k J N
 |some (q,cs,j,b,h)=>match aU J b with
  |some (.arr t l)=>if decide (h<=l.length)=true then k (cj (cj (dl J b) N (.arr t (l.take h))) q (.box (cs.set j (.arr N)))) (N+1)else none
  |_=>none
theorem Jb {q j b h0:Nat}{cs:List (bc U)}{x:bc U}{t:aD}{l:List (t.den U.D)}(w:aU J q=some (.box cs))(v:cs[j]?=some x)(o:aU J b=some (.arr t l))(a:∀d,ca N J x d->d= .arr b (t.sz U) 0 h0)(K:h0<=l.length)
 (he:c6 N J G env env1)(ay:cq N J J1):
 ∃bg,Conv kk N env1 J1 (N+1) env1 bg/\c6 (N+1) (cj (cj (dl J b) N (.arr t (l.take h0))) q (.box (cs.set j (.arr N)))) G env env1/\cq (N+1) (cj (cj (dl J b) N (.arr t (l.take h0))) q (.box (cs.set j (.arr N)))) bg:=by
 obtain⟨B,O,A,f⟩:=ay q _ w;obtain⟨I,M,r,s⟩:=ay b _ o;cases s;cases f with
 | @box _ F f=>
  obtain⟨d,u,E⟩:=f.get v;have:=a d E;subst this;have C:q≠b:=by grind
  have aZ:c7 N J N (dl J b):=oW;have ba:c7 N (dl J b) (N+1) (cj (dl J b) N (.arr t (l.take h0))):=iZ (by simp);have z:aU (cj (dl J b) N (.arr t (l.take h0))) q=some (.box cs):=by rw[gi,ag (by omega),lS,ag (λe=>C e.symm)];grind
  have bE:c7 (N+1) (cj (dl J b) N (.arr t (l.take h0))) (N+1) (cj (cj (dl J b) N (.arr t (l.take h0))) q (.box (cs.set j (.arr N)))):=mj (eJ _) z (λp h=>by grind[ct.cU]);have i:=(aZ.trans ba).trans bE;have n:cq N (dl J b) (eM J1 b):=by
   intro c x a;rw[lS]at a;split at a
   . grind
   . obtain⟨k,y,H,m⟩:=ay c x a;exact⟨k,y,by simp_all[d',ag],m.mono aZ⟩
  refine⟨_,Conv.trim A u r (by grind) B,he.mono i,?_⟩;rw[<-List.map_take];refine(n.put (by simp) ba (.arr t (l.take h0))).put (by omega) bE (.box ?_);refine aQ.set (f.imp λ_ _ _ g=>g.mono i) (.arr N _ _ (by simp) λx a p L=>?_);rw[gi,gi,ab rfl]at a
  grind[ct.cU,Option.some.injEq,List.length_take,Nat.min_eq_left]
theorem Tx{R:Type}{k:a' U->Nat->Option R}{r:R}(h:Dm J N k=some r)(he:c6 N J (λ_=>true) env env1)(ay:cq N J J1):
 ∃J' N' bg,k J' N'=some r/\Conv kk N env1 J1 N' env1 bg/\c6 N' J' (λ_=>true) env env1/\cq N' J' bg/\N<=N':=by
 unfold Dm at h;split at h
 . exact⟨J,N,J1,h,Conv.refl,he,ay,eJ _⟩
 . rename_i q cs j b h0 e;obtain⟨g,f⟩:=A8 e;split at h
   . rename_i t l a;split at h
     . obtain⟨s1,m,n,o⟩:=Jb (kk:=kk) (h0:=h0) g f a (λd i=>by
        cases i with
        |pre _ sz _ _ c=>
         have c:=c _ a _ rfl
         grind) (by grind) he ay
       grind
     grind
   grind
def sJ(kk:Nat):Nat->List (bc U)->Option (Nat×Nat)
 |_,[]=>none
 |j,.arr b::r=>match Nat.ble (b+1) kk with
  |true=>some (j,b)
  |false=>sJ kk (j+1) r
 |j,_::r=>sJ kk (j+1) r
def qA(kk:Nat)(J:a' U):a' U->Option (Nat×List (bc U)×Nat×Nat)
 |[]=>none
 |(q,.box _)::r=>match aU J q with
  |some (.box cs)=>match sJ kk 0 cs with
   |some p=>some (q,cs,p)
   |none=>qA kk J r
  |_=>qA kk J r
 |_::r=>qA kk J r
theorem Ty{kk:Nat}:∀{cs:List (bc U)} {j i b:Nat},sJ kk j cs=some (i,b)->j<=i/\cs[i-j]?=some (.arr b)
 |[],j,i,b,a=>by grind[sJ]
 |c::r,j,i,b,a=>by
  have next:sJ kk (j+1) r=some (i,b)->j<=i/\(c::r)[i-j]?=some (.arr b):=by
   intro a;obtain⟨h1,e⟩:=Ty a
   grind
  cases c with
  |arr d=>
   grind[sJ]
  |_=>exact next a
theorem Cg{kk q:Nat}{cs:List (bc U)}{i b:Nat}:∀{l:a' U},qA kk J l=some (q,cs,i,b)->aU J q=some (.box cs)/\cs[i]?=some (.arr b)
 |[],a=>by grind[qA]
 |(k,x)::r,a=>by
  cases x with
  |box c0=>
   simp only[qA]at a;split at a
   . rename_i e c;split at a
     . rename_i p d;obtain⟨rfl,rfl,rfl⟩:=a;exact⟨c,by simpa using(Ty d).2⟩
     . exact Cg a
   . exact Cg a
  |_=>exact Cg (by simpa[qA]using a)
def Dg{R:Type}(kk:Nat)(J:a' U)(k:a' U->Nat->Option R):Option R:=
 match qA kk J J with
 |none=>k J kk
 |some (q,cs,j,b)=>match aU J b with
  |some (.arr t l)=>k (cj (cj (dl J b) kk (.arr t l)) q (.box (cs.set j (.arr kk)))) (kk+1)
  |_=>k J kk
theorem XY{R:Type}{k:a' U->Nat->Option R}{r:R}(h:Dg kk J k=some r)(he:c6 kk J (λ_=>true) env env1)(ay:cq kk J J1):
 ∃J' N' bg,k J' N'=some r/\Conv kk kk env1 J1 N' env1 bg/\c6 N' J' (λ_=>true) env env1/\cq N' J' bg/\kk<=N':=by
 unfold Dg at h;split at h
 . exact⟨J,kk,J1,h,Conv.refl,he,ay,eJ _⟩
 . rename_i q cs j b e;obtain⟨g,f⟩:=Cg e;split at h
   . rename_i t l a
     obtain⟨s1,m,o,p⟩:=Jb (kk:=kk) g f a (λd i=>by
      cases i with
      |arr _ sz n _ c=>
       have c:=c _ a _ rfl
       grind) (eJ _) he ay
     grind
   . exact⟨J,kk,J1,h,Conv.refl,he,ay,eJ _⟩
inductive Pos where
 |slot (k:Nat)
 |cell (b j:Nat)
 |via (k j:Nat)
def zG(b j:Nat)(t:aD)(env:bO U)(J:a' U)(N:Nat):Option (bO U×a' U):=
 match aU J b with
 |some (.box cs)=>match cs[j]? with
  |some .bC=>some (env,cj (cj J N (.arr t [])) b (.box (cs.set j (.arr N))))
  |_=>some (env,J)
 |_=>none
def Ih(p:Pos)(t:aD)(env:bO U)(J:a' U)(N:Nat):Option (bO U×a' U):=
 match p with
 |.slot k=>match aU env k with
  |some (.c .bC)=>some ((k,.c (.arr N))::env,cj J N (.arr t []))
  |_=>some (env,J)
 |.cell b j=>zG b j t env J N
 |.via k j=>match aU env k with
  |some (.c (.ptr b _))=>zG b j t env J N
  |_=>none
def Dh:List (Pos×aD)->bO U->a' U->Nat->Option (bO U×a' U×Nat)
 |[],env,J,N=>some (env,J,N)
 |(p,t)::r,env,J,N=>match Ih p t env J N with
  |some (env',J')=>Dh r env' J' (N+1)
  |none=>none
theorem Ka{t:aD}(he:c6 N J (λ_=>true) env env1)(ay:cq N J J1)(i:kk<=N):∃c bg,Conv kk N env1 J1 (N+1) c bg/\c6 (N+1) J (λ_=>true) env c/\cq (N+1) J bg:=by
 refine⟨env1,cn _ N (.arr 1 []),λao nt φ S a w g R=>⟨_,S,R.Ei (by simp) (by omega)⟩,he.mono (c7.more (by simp)),λb x e=>?_⟩;obtain⟨h1,y,f,d⟩:=ay b x e;exact⟨by omega,y,by grind[cE],d.mono (c7.more (by simp))⟩
theorem FO{b j:Nat}{t:aD}(h:zG b j t env J N=some (env',J'))(he:c6 N J (λ_=>true) env env1)(ay:cq N J J1)(g:kk<=N):
 ∃f bg,Conv kk N env1 J1 (N+1) f bg/\c6 (N+1) J' (λ_=>true) env' f/\cq (N+1) J' bg:=by
 have same:=Ka (t:=t) he ay g;unfold zG at h;split at h
 . rename_i cs k;split at h
   . rename_i n;cases h;obtain⟨i,y,h1,a⟩:=ay b _ k;cases a with
     | @box _ r a=>
      obtain⟨d,m,o⟩:=a.get n;cases o;have c:c7 N J (N+1) (cj J N (.arr t [])):=iZ (by simp);have l:aU (cj J N (.arr t [])) b=some (.box cs):=by rw[gi];grind
      have e:c7 (N+1) _ (N+1) (cj _ b (.box (cs.set j (.arr N)))):=mj (eJ _) l (λp h=>by grind[ct.cU]);refine⟨_,_,Conv.agf h1 m i (aD.vK (t:=t) (U:=U)) g,(he.mono c).mono e,(ay.put (by simp) c (.arr t [])).put (by omega) e (.box ?_)⟩;refine aQ.set (a.imp λ_ _ _ h=>(h.mono c).mono e) (.arr N _ _ (by simp) λx q p s=>?_)
      rw[gi,gi]at q
      grind[ct.cU]
   grind
 grind
theorem XZ{p:Pos}{t:aD}(h:Ih p t env J N=some (env',J'))(he:c6 N J (λ_=>true) env env1)(ay:cq N J J1)(d:kk<=N):
 ∃b bg,Conv kk N env1 J1 (N+1) b bg/\c6 (N+1) J' (λ_=>true) env' b/\cq (N+1) J' bg:=by
 have same:=Ka (t:=t) he ay d;unfold Ih at h;split at h
 . rename_i k;split at h
   . rename_i g;cases h;obtain⟨v1,h1,f⟩:=he k _ g;have:=f.tN;subst this;have e:c7 N J (N+1) (cj J N (.arr t [])):=iZ (by simp);refine⟨_,_,Conv.own h1 (aD.vK (t:=t) (U:=U)) d,λi v hi=>?_,ay.put (by simp) e (.arr t [])⟩;simp only[aU]at hi;simp only[look];split at hi
     . rename_i a;cases hi;rw[ab (cR a)];refine⟨_,rfl,.c (.arr N _ _ (by simp) λx j p l=>?_)⟩;rw[gi,ab rfl]at j;grind[ct.cU]
     . rename_i a;rw[ag (ij a)];exact(he.mono e) i v hi
   grind
 . grind[FO]
 grind[FO]
def HL:List (bc U)->List Bool->Bool
 |[],[]=>true
 |.t _::cs,false::bs=>HL cs bs
 |.bC::cs,true::bs=>HL cs bs
 |_,_=>false
def PN(cs:List (bc U)):List (List Bool×Nat×aD)->Option (Nat×aD)
 |[]=>none
 |(bs,p)::r=>match HL cs bs with
  |true=>some p
  |false=>PN cs r
def Hq(l:List (List Bool×Nat×aD)):a' U->Option (Nat×Nat×aD)
 |[]=>none
 |(q,.box cs)::r=>match PN cs l with
  |some p=>some (q,p)
  |none=>Hq l r
 |_::r=>Hq l r
def Dj{R:Type}(env:bO U)(J:a' U)(N:Nat)(k:bO U->a' U->Nat->Option R):Option R:=
 match Hq U.own J with
 |none=>Dm J N λJ N=>k env J N
 |some (q,j,t)=>match zG q j t env J N with
  |some (env,J)=>Dm J (N+1) λJ N=>k env J N
  |none=>none
theorem Tz{R:Type}{k:bO U->a' U->Nat->Option R}{r:R}(h:Dj env J N k=some r)(he:c6 N J (λ_=>true) env env1)(ay:cq N J J1)(j:kk<=N):
 ∃env' J' N' f bg,k env' J' N'=some r/\Conv kk N env1 J1 N' f bg/\c6 N' J' (λ_=>true) env' f/\cq N' J' bg/\N<=N':=by
 unfold Dj at h;split at h
 . obtain⟨n,i,m,a,b,c,d,g⟩:=Tx h he ay;exact⟨_,_,_,_,_,a,b,c,d,g⟩
 . split at h
   . rename_i e s l;obtain⟨az,s1,c1,c2,c3⟩:=FO l he ay j;obtain⟨n,i,m,a,b,c,d,g⟩:=Tx h c2 c3;exact⟨_,_,_,_,_,a,c1.trans b,c,d,by omega⟩
   grind
theorem Jd:∀{l:List (Pos×aD)} {env env':bO U} {J J':a' U} {N N':Nat} {env1:Env} {J1:aF},Dh l env J N=some (env',J',N')->c6 N J (λ_=>true) env env1->cq N J J1->kk<=N->
 ∃a bg,Conv kk N env1 J1 N' a bg/\c6 N' J' (λ_=>true) env' a/\cq N' J' bg/\N<=N'
 |[],env,env',J,J',N,N',env1,J1,h,he,ay,b=>by obtain⟨rfl,rfl,rfl⟩:=h;exact⟨env1,J1,Conv.refl,he,ay,eJ _⟩
 |(p,t)::r,env,env',J,J',N,N',env1,J1,h,he,ay,b=>by
  simp[Dh]at h;split at h
  . rename_i e s h1;obtain⟨az,s1,aZ,ba,bE⟩:=XZ h1 he ay b;obtain⟨c,i,d,f,g,j⟩:=Jd h ba bE (by omega);exact⟨c,i,aZ.trans d,f,g,by omega⟩
  grind
end
end
section
open Go
variable [da]
variable {U:cK}
inductive fO where
 |hole (ty:aD)
 |ptr (b o:Nat)
 |cl (b:Nat)(ty:aD)(o:Nat)
 |dx (ty:aD)(o:Nat)
 |arr (b:Nat)
 |mp (b:Nat)
 |cr (b:Nat)
 |bC
 |eT
 |eS
 |fn (f:Nat)(caps:List Nat)
 |dead
inductive dw where
 |c (s:fO)
 |agg (l:List fO)
 |row (n:Nat)
 |aS (l:List dw)
inductive dJ where
 |box (l:List fO)
 |arr (ty:aD)
 |bK (n:Nat)
 |gone
 |set
 |buf (E:Nat)
 |bX (E:Nat)(s:fO)
structure Shape where
 env:List (Nat×dw)
 st:List dJ
abbrev ep(U:cK):=List (Cell U.D)
def tZ:fO->ep U->bc U×ep U
 |.hole _,c::r=>(.t c,r)
 |.hole _,[]=>(.dead,[])
 |.ptr b o,r=>(.ptr b o,r)
 |.cl b ty o,⟨.int _,n⟩::r=>(.cl b ty (Int.toNat n) o,r)
 |.cl _ _ _,r=>(.dead,r)
 |.dx _ o,c::r=>(.dx c.ty c.val o,r)
 |.dx _ _,[]=>(.dead,[])
 |.arr b,r=>(.arr b,r)
 |.mp b,r=>(.mp b,r)
 |.cr b,r=>(.cr b,r)
 |.bC,r=>(.bC,r)
 |.eT,r=>(.eT,r)
 |.eS,r=>(.eS,r)
 |.fn f caps,r=>(.fn f caps,r)
 |.dead,r=>(.dead,r)
def p3:List fO->ep U->List (bc U)×ep U
 |[],r=>([],r)
 |s::ss,r=>match tZ s r with
  |(x,a)=>match p3 ss a with
   |(xs,b)=>(x::xs,b)
mutual
def lQ:dw->ep U->bF U×ep U
 |.c s,r=>match tZ s r with
  |(x,a)=>(.c x,a)
 |.agg l,r=>match p3 l r with
  |(xs,a)=>(.agg xs,a)
 |.row _,c::r=>(.agg ((c.ty.row U c.val).map .t),r)
 |.row _,[]=>(.aS [],[])
 |.aS l,r=>match kg l r with
  |(xs,a)=>(.aS xs,a)
def kg:List dw->ep U->List (bF U)×ep U
 |[],r=>([],r)
 |s::ss,r=>match lQ s r with
  |(x,a)=>match kg ss a with
   |(xs,e)=>(x::xs,e)
end
def Av:List (Nat×dw)->ep U->bO U×ep U
 |[],r=>([],r)
 |(k,s)::ss,r=>match lQ s r with
  |(x,a)=>match Av ss a with
   |(xs,b)=>((k,x)::xs,b)
def js:dJ->ep U->Option (ct U)×ep U
 |.box l,r=>match p3 l r with
  |(xs,a)=>(some (.box xs),a)
 |.arr _,⟨.slice t,l⟩::r=>(some (.arr t l),r)
 |.arr _,r=>(none,r)
 |.bK _,c::r=>(some (.box ((c.ty.row U c.val).map .t)),r)
 |.bK _,[]=>(none,[])
 |.gone,r=>(none,r)
 |.set,⟨.slice .str,l⟩::r=>(some (.set l),r)
 |.set,r=>(none,r)
 |.buf E,⟨.str,s⟩::r=>(some (.buf E s),r)
 |.buf _,r=>(none,r)
 |.bX E s,r=>match tZ s r with
  |(x,a)=>(some (.bX E x),a)
def hn:Nat->List dJ->ep U->a' U
 |_,[],_=>[]
 |j,s::ss,r=>match js s r with
  |(some x,a)=>(j,x)::hn (j+1) ss a
  |(none,a)=>hn (j+1) ss a
def p5{α:Type}:List α->Nat->Option α
 |[],_=>none
 |a::_,0=>some a
 |_::l,n+1=>p5 l n
theorem xO{α:Type}:∀{l:List α} {n:Nat},p5 l n=l[n]?
 |[],n=>by rfl
 |a::l,0=>by rfl
 |a::l,n+1=>by simp[p5,xO]
def qv(bs:List Nat)(j b:Nat):Bool:=match p5 bs j with
 |some a=>Nat.beq a b
 |none=>false
def z8(bs:List Nat):List Nat->List Nat->Bool
 |[],[]=>true
 |j::a,c::cs=>qv bs j c&&z8 bs a cs
 |_,_=>false
def Fv(ty:aD):bc U->Option (Cell U.D)
 |.t c=>match Cell.as ty c with
  |some x=>some ⟨ty,x⟩
  |none=>none
 |.bC=>match ty with
  |.slice t=>some ⟨.slice t,([]:List (t.den U.D))⟩
  |_=>none
 |_=>none
def wo(bs:List Nat):fO->bc U->Option (ep U)
 |.hole ty,x=>match Fv ty x with
  |some c=>some [c]
  |none=>none
 |.ptr j o,.ptr b a=>match qv bs j b&&Nat.beq o a with
  |true=>some []
  |false=>none
 |.cl j ty o,.cl b d i a=>match qv bs j b&&(Nat.beq o a&&aD.beq ty d)with
  |true=>some [⟨.int .i64,(i:Int)⟩]
  |false=>none
 |.dx ty o,.dx d x a=>match Nat.beq o a,Cell.as ty (⟨d,x⟩:Cell U.D)with
  |true,some x=>some [⟨ty,x⟩]
  |_,_=>none
 |.arr j,.arr b=>match qv bs j b with
  |true=>some []
  |false=>none
 |.mp j,.mp b=>match qv bs j b with
  |true=>some []
  |false=>none
 |.cr j,.cr b=>match qv bs j b with
  |true=>some []
  |false=>none
 |.bC,.bC=>some []
 |.eT,.eT=>some []
 |.eS,.eS=>some []
 |.fn f g,.fn e cs=>match Nat.beq f e&&z8 bs g cs with
  |true=>some []
  |false=>none
 |.dead,_=>some []
 |_,_=>none
def lA(bs:List Nat):List fO->List (bc U)->Option (ep U)
 |[],[]=>some []
 |s::ss,x::xs=>match wo bs s x,lA bs ss xs with
  |some a,some b=>some (a++b)
  |_,_=>none
 |_,_=>none
mutual
def jr(bs:List Nat):dw->bF U->Option (ep U)
 |.c s,.c x=>wo bs s x
 |.agg l,.agg xs=>lA bs l xs
 |.row n,.agg xs=>match mQ U (.nm n) xs with
  |some x=>some [⟨.nm n,x⟩]
  |none=>none
 |.aS l,.aS xs=>mb bs l xs
 |_,_=>none
def mb(bs:List Nat):List dw->List (bF U)->Option (ep U)
 |[],[]=>some []
 |s::ss,x::xs=>match jr bs s x,mb bs ss xs with
  |some a,some b=>some (a++b)
  |_,_=>none
 |_,_=>none
end
def wq(bs:List Nat)(env:bO U):List (Nat×dw)->Option (ep U)
 |[]=>some []
 |(k,s)::ss=>match aU env k with
  |some x=>match jr bs s x,wq bs env ss with
   |some a,some b=>some (a++b)
   |_,_=>none
  |none=>none
def oj(bs:List Nat):dJ->ct U->Option (ep U)
 |.box l,.box xs=>lA bs l xs
 |.arr ty,.arr t l=>match Cell.as (.slice ty) (⟨.slice t,l⟩:Cell U.D)with
  |some l=>some [⟨.slice ty,l⟩]
  |none=>none
 |.arr ty,.rows sz r=>match Nat.beq (ty.sz U) sz,l0 U ty r with
  |true,some l=>some [⟨.slice ty,l⟩]
  |_,_=>none
 |.bK n,.box xs=>match mQ U (.nm n) xs with
  |some x=>some [⟨.nm n,x⟩]
  |none=>none
 |.set,.set l=>some [⟨.slice .str,l⟩]
 |.buf E,.buf a s=>match Nat.beq E a with
  |true=>some [⟨.str,s⟩]
  |false=>none
 |.bX E s,.bX a x=>match Nat.beq E a with
  |true=>wo bs s x
  |false=>none
 |_,_=>none
def iz(bs:List Nat)(J:a' U):Nat->List dJ->Option (ep U)
 |_,[]=>some []
 |j,.gone::ss=>iz bs J (j+1) ss
 |j,s::ss=>match p5 bs j with
  |some b=>match aU J b with
   |some x=>match oj bs s x,iz bs J (j+1) ss with
    |some a,some r=>some (a++r)
    |_,_=>none
   |none=>none
  |none=>none
section
variable {kk N:Nat}{J Jc:a' U}{J1:aF}{env:bO U}{env1:Env}{bs:List Nat}
def Can(bs:List Nat)(J Jc:a' U):Prop:=∀j b a,bs[j]?=some b->aU Jc j=some a->∃x,aU J b=some x/\∀p,a.cU=some p->x.cU=some p
theorem mv{bs:List Nat}(bR:bs.Nodup){j b:Nat}(h:bs[j]?=some b):pos bs b=some j:=by
 induction bs generalizing j with
 |nil=>grind
 |cons a bs ih=>
  grind[pos]
theorem ve{j b:Nat}(h:qv bs j b=true):bs[j]?=some b:=by
 unfold qv at h;rw[xO]at h;split at h
 all_goals simp_all
theorem Je(bR:bs.Nodup):∀{a cs:List Nat},z8 bs a cs=true->po bs cs=some a
 |[],[],_=>rfl
 |j::a,c::cs,h=>by
  simp[z8]at h;simp[po,mv bR (ve h.1),Je bR h.2]
theorem YJ{ty:aD}{x:bc U}{c:Cell U.D}{d:C}(h:Fv ty x=some c)(a:ca N J x d):dv (d.bG bs) (.t (c.enc U))/\c.ty=ty:=by
 unfold Fv at h;split at h
 . split at h
   . rename_i e y b;cases h;rw[Cell.jE b]at a;cases a;exact⟨dv.refl _,rfl⟩
   grind
 . split at h
   . cases h;cases a;exact⟨dv.bC,rfl⟩
   grind
 grind
theorem F8(bR:bs.Nodup)(v:Can bs J Jc){s:fO}{x:bc U}{a:ep U}(h:wo bs s x=some a):
 ∃y,(∀r,tZ s (a++r)=(y,r))/\∀d,ca N J x d->∃u,dv (d.bG bs) u/\ca bs.length Jc y u:=by
 unfold wo at h;split at h
 . split at h
   . rename_i c B;cases h;exact⟨.t c,λr=>rfl,λd g=>⟨_,(YJ B g).1,.t c⟩⟩
   grind
 . rename_i j o b w;split at h
   . rename_i k;simp only[cH]at k;have:=cR k.2;subst this;cases h;refine⟨.ptr j o,λr=>rfl,λd g=>⟨.ptr j o,?_,.ptr j o⟩⟩;cases g;simp only[C.bG,mv bR (ve k.1)];exact dv.refl _
   grind
 . rename_i j ty o b G i w;split at h
   . rename_i k;simp only[cH]at k;have:=cR k.2.1;subst this;have:=aD.beq_eq k.2.2;subst this;cases h;refine⟨.cl j ty i o,λr=>rfl,λd g=>⟨.cl j (ty.sz U) i o,?_,.cl j ty i o⟩⟩;cases g;simp only[C.bG,mv bR (ve k.1)];exact dv.refl _
   grind
 . rename_i ty o G x w;split at h
   . rename_i y D F;have:=cR D;subst this;cases h;have e:=Cell.jE F;cases e;refine⟨.dx ty y o,λr=>rfl,λd g=>⟨d,?_,?_⟩⟩
     . cases g;exact dv.refl _
     . cases g;exact .dx ty y o
   grind
 . rename_i j b;split at h
   . rename_i k;cases h;refine⟨.arr j,λr=>rfl,λd g=>?_⟩;cases g with
     |arr _ sz n A aa=>
      have l:=ve k;refine⟨.arr j sz 0 n,?_,.arr j sz n (dO.1 l).1 λx m p E=>?_⟩
      . simp only[C.bG,mv bR l];exact dv.refl _
      . obtain⟨H,h1,z⟩:=v j b x l m
        grind
   grind
 . rename_i j b;split at h
   . rename_i k;cases h;refine⟨.mp j,λr=>rfl,λd g=>?_⟩;cases g;refine⟨.mp j,?_,.mp j⟩;simp only[C.bG,mv bR (ve k)];exact dv.refl _
   grind
 . rename_i j b;split at h
   . rename_i k;cases h;refine⟨.cr j,λr=>rfl,λd g=>?_⟩;cases g with
     |cr _ n A aa=>
      have l:=ve k;refine⟨.cr j n,?_,.cr j n (dO.1 l).1 λx m p E=>?_⟩
      . simp only[C.bG,mv bR l];exact dv.refl _
      . obtain⟨H,h1,z⟩:=v j b x l m
        grind
   grind
 . cases h;exact⟨.bC,λr=>rfl,λd g=>by cases g;exact⟨.bC,dv.refl _,.bC⟩⟩
 . cases h;exact⟨.eT,λr=>rfl,λd g=>by cases g;exact⟨.eT,dv.refl _,.eT⟩⟩
 . cases h;exact⟨.eS,λr=>rfl,λd g=>by cases g;exact⟨.eS,dv.refl _,.eS⟩⟩
 . rename_i f q I cs;split at h
   . rename_i k;simp only[cH]at k;have:=cR k.1;subst this;cases h;refine⟨.fn f q,λr=>rfl,λd g=>⟨.fn f q,?_,.fn f q⟩⟩;cases g;simp only[C.bG,Je bR k.2];exact dv.refl _
   grind
 . cases h;exact⟨.dead,λr=>rfl,λd g=>⟨.dead,dv.dead _,.dead _⟩⟩
 . cases h
theorem FP(bR:bs.Nodup)(f:Can bs J Jc):∀{ss:List fO} {xs:List (bc U)} {a:ep U},lA bs ss xs=some a->
 ∃d,(∀r,p3 ss (a++r)=(d,r))/\∀b,aQ (ca N J) xs b->∃c,aQ dv (b.map (C.bG bs)) c/\aQ (ca bs.length Jc) d c
 |[],[],a,h=>by simp[lA]at h;subst h;exact⟨[],λr=>rfl,λb e=>by cases e;exact⟨[],.nil,.nil⟩⟩
 |s::ss,x::xs,a,h=>by
  simp[lA]at h;split at h
  . rename_i a1 a2 h1 l;cases h;obtain⟨y,f1,j⟩:=F8 bR f h1;obtain⟨d,f2,k⟩:=FP bR f l;refine⟨y::d,λr=>by simp[p3,f1,f2],λb e=>?_⟩;cases e with
    |cons t' m=>
     obtain⟨g,az,i⟩:=j _ t';obtain⟨c,cz,e6⟩:=k _ m;exact⟨g::c,.cons az cz,.cons i e6⟩
  grind
 |[],_::_,a,h=>by simp[lA]at h
 |_::_,[],a,h=>by grind[lA]
theorem Kb{n:Nat}{xs:List (bc U)}{x:(aD.nm n).den U.D}(h:mQ U (.nm n) xs=some x):∀b,aQ (ca N J) xs b->∃f,aQ dv (b.map (C.bG bs)) f/\aQ (ca bs.length Jc) (((aD.nm n).row U x).map .t) f:=by
 intro b i;refine⟨((aD.nm n).enc U x).map .t,?_,x0⟩;unfold mQ at h;split at h
 . rename_i row a;rw[aD.tY,aD.Ef h];clear h;generalize (aD.nm n).cells U=du at a
   induction xs generalizing du row b with
   |nil=>
    cases i;cases du<;>simp[hh]at a
    subst a;exact .nil
   |cons y j ih=>
    cases i with
    | @cons _ d _ b h1 g=>
     cases du with
     |nil=>grind[hh]
     |cons ty du=>
      cases h1 with
      |t c=>cases ty<;>simp[hh]at a<;>(split at a<;>first|(cases a;done)|(rename_i q e;cases a;exact .cons (dv.refl _) (ih _ g _ _ e)))
      |bC=>
       cases ty<;>simp[hh]at a
       split at a
       . rename_i q e;cases a;exact .cons dv.bC (ih _ g _ _ e)
       grind
      |_=>grind[hh]
 grind
mutual
theorem DO(bR:bs.Nodup)(A:Can bs J Jc):∀{s:dw} {x:bF U} {a:ep U},jr bs s x=some a->
 ∃y,(∀r,lQ s (a++r)=(y,r))/\∀d,b6 N J x d->∃j,fi (d.bG bs) j/\b6 bs.length Jc y j
 |.c s,.c x,a,h=>by
  simp only[jr]at h;obtain⟨y,f,g⟩:=F8 (N:=N) bR A h;refine⟨.c y,λr=>by simp only[lQ,f],λd e=>?_⟩;cases e with
  |c e=>obtain⟨j,az,q⟩:=g _ e;exact⟨.c j,.c az,.c q⟩
 |.agg l,.agg xs,a,h=>by
  simp only[jr]at h;obtain⟨y,f,g⟩:=FP (N:=N) bR A h;refine⟨.agg y,λr=>by simp only[lQ,f],λd e=>?_⟩;cases e with
  |agg e=>obtain⟨j,az,q⟩:=g _ e;exact⟨.agg j,.agg az,.agg q⟩
 |.row n,.agg xs,a,h=>by
  simp only[jr]at h;split at h
  . rename_i x v;cases h;refine⟨.agg (((aD.nm n).row U x).map .t),λr=>rfl,λd e=>?_⟩;cases e with
    |agg e=>obtain⟨j,az,q⟩:=Kb v _ e;exact⟨.agg j,.agg az,.agg q⟩
  . cases h
 |.aS l,.aS xs,a,h=>by
  simp only[jr]at h;obtain⟨w,f,ad,g⟩:=tQ bR A h;refine⟨.aS w,λr=>by simp only[lQ,f],λd e=>?_⟩;cases e with
  |aS _ o H e=>
   obtain⟨p,az,q,cz⟩:=g o H e;refine⟨.aS p,.aS _ _ (by rw[Br];exact az.symm) ?_,.aS _ _ (by omega) λi x d v B=>(cz i x d v B)⟩;intro i x y v K;rw[B2,bb]at v
   grind
 |.c _,.agg _,a,h=>by simp[jr]at h
 |.c _,.aS _,a,h=>by simp[jr]at h
 |.agg _,.c _,a,h=>by simp[jr]at h
 |.agg _,.aS _,a,h=>by simp[jr]at h
 |.row _,.c _,a,h=>by simp[jr]at h
 |.row _,.aS _,a,h=>by simp[jr]at h
 |.aS _,.c _,a,h=>by simp[jr]at h
 |.aS _,.agg _,a,h=>by simp[jr]at h
theorem tQ(bR:bs.Nodup)(A:Can bs J Jc):∀{ss:List dw} {xs:List (bF U)} {a:ep U},mb bs ss xs=some a->
 ∃w:List (bF U),(∀r,kg ss (a++r)=(w,r))/\w.length=xs.length/\∀o:List V,xs.length=o.length->(∀(i:Nat) x d,xs[i]?=some x->o[i]?=some d->b6 N J x d)->
  ∃p:List V,p.length=o.length/\(∀(i:Nat) (d j:V),o[i]?=some d->p[i]?=some j->fi (d.bG bs) j)/\(∀(i:Nat) y j,w[i]?=some y->p[i]?=some j->b6 bs.length Jc y j)
 |[],[],a,h=>by simp[mb]at h;subst h;exact⟨[],λr=>rfl,rfl,λo ad e=>⟨[],by simpa using ad,by simp,by simp⟩⟩
 |s::ss,x::xs,a,h=>by
  simp only[mb]at h;split at h
  . rename_i a1 a2 h1 G;cases h;obtain⟨y,f1,E⟩:=DO bR A h1;obtain⟨w,f2,ad,F⟩:=tQ bR A G;refine⟨y::w,λr=>by simp only[kg,jV,f1,f2],by simp[ad],λo D e=>?_⟩;cases o with
    |nil=>simp at D
    |cons d o=>
     obtain⟨j,az,q⟩:=E d (e 0 x d rfl rfl);obtain⟨p,cz,e6,gx⟩:=F o (by simpa using D) λi x d v B=>e (i+1) x d (by simpa using v) (by simpa using B)
     refine⟨j::p,by simp[cz],λi=>?_,λi=>?_⟩
     . grind
     grind
  . cases h
 |[],_::_,a,h=>by simp[mb]at h
 |_::_,[],a,h=>by simp[mb]at h
end
theorem Gl:∀{ks:List Nat} {k:Nat} {g:Bool} {v:V},k∈ks->look env1 k=some (g,v)->look (mn bs env1 ks) k=some (g,v.bG bs)
 |x::ks,k,g,v,b,ad=>by
  simp[mn];by_cases h:x=k
  . grind[look]
  . have a:k∈ks:=by grind
    split
    . simp[look,ag h];exact Gl a ad
    . exact Gl a ad
theorem Jf(bR:bs.Nodup)(e:Can bs J Jc)(he:c6 N J (λ_=>true) env env1):∀{ss:List (Nat×dw)} {a:ep U},wq bs env ss=some a->
 ∃c,(∀r,Av ss (a++r)=(c,r))/\∃b:Env,c6 bs.length Jc (λ_=>true) c b/\∀k g f,look b k=some (g,f)->k∈ss.map Prod.fst/\∃v,look env1 k=some (g,v)/\fi (v.bG bs) f
 |[],a,h=>by simp[wq]at h;subst h;exact⟨[],λr=>rfl,[],λk v q=>by grind[aU],λk g v h=>by grind[look]⟩
 |(k,s)::ss,a,h=>by
  simp[wq]at h;split at h
  . rename_i x o;split at h
    . rename_i a1 a2 h1 m;cases h;obtain⟨y,f1,l⟩:=DO bR e h1;obtain⟨c,f2,b,az,p⟩:=Jf bR e he m;obtain⟨d,aZ,ba⟩:=he k x o;obtain⟨j,t,u⟩:=l d ba;refine⟨(k,y)::c,λr=>by simp[Av,f1,f2],(k,true,j)::b,λi v hi=>?_,λi g v hi=>?_⟩
      . simp[aU]at hi;simp[look];split at hi
        . simp_all
        . rename_i n;rw[ag (ij n)];exact az i v hi
      . simp[look]at hi
        grind
    . cases h
  grind
theorem F9(bR:bs.Nodup)(k:Can bs J Jc){s:dJ}{x:ct U}{a:ep U}(h:oj bs s x=some a):
 ∃y,(∀r,js s (a++r)=(some y,r))/\(∀d,hb N J x d->∃i,jz (d.bG bs) i/\hb bs.length Jc y i):=by
 unfold oj at h;split at h
 . obtain⟨o,f,g⟩:=FP bR k h;refine⟨.box o,λr=>by grind[js],λd b=>?_⟩;cases b with
   |box b=>obtain⟨j,az,c⟩:=g _ b;exact⟨.box _,.box az,.box c⟩
 . rename_i ty t q;split at h
   . rename_i l ad;cases h;have e:=Cell.jE ad;cases e;refine⟨.arr ty l,λr=>rfl,λd b=>?_⟩;cases b;exact⟨_,.arr,.arr ty l⟩
   grind
 . rename_i ty sz r;split at h
   . rename_i l m ad;cases h;have:=cR m;subst this;refine⟨.arr ty l,λr=>rfl,λd b=>?_⟩;cases b with
     |rows h1 p=>
      refine⟨_,.arr,?_⟩;rw[<-vn ad h1];exact .arr ty l
   grind
 . split at h
   . rename_i x n;cases h;refine⟨.box _,λr=>rfl,λd b=>?_⟩;cases b with
     |box b=>obtain⟨j,az,c⟩:=Kb n _ b;exact⟨.box j,.box az,.box c⟩
   grind
 . cases h;refine⟨.set _,λr=>rfl,λd b=>?_⟩;cases b;exact⟨_,.same,.set _⟩
 . split at h
   . rename_i cp;have:=cR cp;subst this;cases h;refine⟨.buf _ _,λr=>rfl,λd b=>?_⟩;cases b;exact⟨_,.same,.buf _ _⟩
   grind
 . split at h
   . rename_i cp;have:=cR cp;subst this;obtain⟨y,f,g⟩:=F8 bR k h;refine⟨.bX _ y,λr=>by simp[js,f];rfl,λd b=>?_⟩;cases b with
     |bX b=>obtain⟨i,az,c⟩:=g _ b;exact⟨.bX _ i,.bX az,.bX c⟩
   grind
 grind
theorem TA{t:aD}:∀{r:List (List (bc U))} {l:List (t.den U.D)},l0 U t r=some l->l.length=r.length
 |[],l,h=>by grind[l0]
 |r::c,l,h=>by
  simp[l0]at h;split at h
  . rename_i x xs b a;cases h;simp[TA a]
  grind
theorem RW:∀{l:List fO} {r:ep U},(p3 l r).1.length=l.length
 |[],r=>rfl
 |s::ss,r=>by
  simp only[p3,jv];rw[RW]
theorem RX:∀{l:List fO} {xs:List (bc U)} {a:ep U},lA bs l xs=some a->l.length=xs.length
 |[],[],a,h=>rfl
 |[],_::_,a,h=>by simp[lA]at h
 |_::_,[],a,h=>by simp[lA]at h
 |s::ss,x::xs,a,h=>by
  simp only[lA]at h;split at h
  . rename_i h1 b;simp[RX b]
  . cases h
theorem Wq:∀{ts:List aD} {cs:List (bc U)} {l:List (Cell U.D)},hh ts cs=some l->cs.length=ts.length:=by
 intro ts cs
 induction cs generalizing ts with
 |nil=>intro l h;unfold hh at h;split at h<;>simp_all
 |cons c cs ih=>
  intro l h;unfold hh at h;split at h
  . cases ‹_::_=[]›
  . rename_i e;cases e;split at h
    . rename_i h1;simp[ih h1]
    . cases h
  . rename_i e;cases e;split at h
    . rename_i h1;simp[ih h1]
    . cases h
  . cases h
theorem abL{s:dJ}{x y:ct U}{a r:ep U}(h:oj bs s x=some a)(b:js s (a++r)=(some y,r)):∀p,y.cU=some p->x.cU=some p:=by
 unfold oj at h;split at h
 . intro p c;have:=RX h;rename_i g i;have e:y= .box (p3 g (a++r)).1:=by
    simp only[js]at b;exact(lW (cC Prod.fst b)).symm
   subst e;simp only[ct.cU,RW]at c⊢;rw[<-c,this]
 . split at h
   . rename_i l ad;have e:=Cell.jE ad;simp only[js,q7,hr,vu]at b
     grind
   grind
 . split at h
   . rename_i l f ad;have:=cR f;subst this;simp only[js,q7,hr,vu]at b
     grind[ct.cU,TA]
   grind
 . split at h
   . rename_i x d;cases h;intro p c;simp only[js,q7,hr,c8,cQ,vu]at b;subst b;simp only[ct.cU,kn,aD.EL]at c⊢;unfold mQ at d;split at d
     . rename_i l ad;rw[<-c,Wq ad];rfl
     . cases d
   grind
 . simp only[js,q7,hr,c8,cQ,vu]at b
   grind
 . split at h
   . rename_i cp;have:=cR cp;simp only[js,q7,hr,c8,cQ,vu]at b
     grind
   grind
 . grind[js,ct.cU]
 grind
theorem oP(bR:bs.Nodup):∀{ss:List dJ} {j:Nat} {a:ep U},iz bs J j ss=some a->
 (∀i c,aU (hn j ss a) i=some c->j<=i/\i<j+ss.length/\∃b x,bs[i]?=some b/\aU J b=some x/\∃s d,oj bs s x=some d/\∀r,js s (d++r)=(some c,r))
 |[],j,a,h=>by grind[hn,aU]
 |.gone::ss,j,a,h=>by
  intro i c hi;simp only[iz]at h;obtain⟨h1,e,k⟩:=oP bR h i c hi
  grind
 |.box l::ss,j,a,h=>tP bR (λ{j a}=>oP bR) (by simpa only[iz]using h)
 |.arr l::ss,j,a,h=>tP bR (λ{j a}=>oP bR (a:=a)) (by simpa only[iz]using h)
 |.bK l::ss,j,a,h=>tP bR (λ{j a}=>oP bR (ss:=ss) (j:=j) (a:=a)) (by simpa only[iz]using h)
 |.set::ss,j,a,h=>tP bR (λ{j a}=>oP bR (ss:=ss) (j:=j) (a:=a)) (by simpa only[iz]using h)
 |.buf E::ss,j,a,h=>tP bR (λ{j a}=>oP bR (ss:=ss) (j:=j) (a:=a)) (by simpa only[iz]using h)
 |.bX E l::ss,j,a,h=>tP bR (λ{j a}=>oP bR (ss:=ss) (j:=j) (a:=a)) (by grind[iz])
where
 tP (bR:bs.Nodup) {s:dJ} {ss:List dJ} (ih:∀{j:Nat} {a:ep U},iz bs J j ss=some a->
  (∀i c,aU (hn j ss a) i=some c->j<=i/\i<j+ss.length/\∃b x,bs[i]?=some b/\aU J b=some x/\∃s d,oj bs s x=some d/\∀r,js s (d++r)=(some c,r))) {j:Nat} {a:ep U} (h:(match p5 bs j with
  |some b=>match aU J b with
   |some x=>match oj bs s x,iz bs J (j+1) ss with
    |some a,some r=>some (a++r)
    |_,_=>none
   |none=>none
  |none=>none)=some a):(∀i c,aU (hn j (s::ss) a) i=some c->j<=i/\i<j+(s::ss).length/\∃b x,bs[i]?=some b/\aU J b=some x/\∃s d,oj bs s x=some d/\∀r,js s (d++r)=(some c,r)):=by
  intro i c hi;split at h
  . rename_i b g;rw[xO]at g;split at h
    . split at h
      . rename_i a1 a2 h1 e;cases h;obtain⟨y,f,_⟩:=F9 (N:=0) (J:=J) (Jc:=[]) bR (λ_ _ _ _ h=>by simp[aU]at h) h1;simp only[hn,f,aU]at hi
        grind[cR]
      . cases h
    . cases h
  . cases h
def gU(U:cK)(bu:Shape)(a:ep U):bO U×a' U:=
 match Av bu.env a with
 |(e,r)=>(e,hn 0 bu.st r)
def DN(bs:List Nat)(bu:Shape)(env:bO U)(J:a' U):Option (ep U):=
 match wq bs env bu.env,iz bs J 0 bu.st with
 |some a,some b=>some (a++b)
 |_,_=>none
theorem zd(bR:bs.Nodup){ss:List dJ}{b:ep U}(g:iz bs J 0 ss=some b):Can bs J (hn 0 ss b):=by
 intro j c k a i;obtain⟨_,_,m,x,h1,d,s,l,e,f⟩:=oP bR g j k i;rw[h1]at a;cases a;exact⟨x,d,abL e (f [])⟩
theorem ys{J1:aF}:∀{r:List Nat} {i j c:Nat} {x:bp},r[j]?=some c->aJ J1 c=some x->aJ (eO bs J1 i r) (i+j)=some (x.bG bs)
 |[],i,j,c,x,h,_=>by grind
 |b::r,i,0,c,x,h,a=>by
  grind[eO,aJ]
 |b::r,i,j+1,c,x,h,a=>by
  simp[eO];have:=ys (i:=i+1) (j:=j) (r:=r) (by grind) a
  grind[aJ]
theorem CA(bR:bs.Nodup)(ay:cq N J J1){ss:List dJ}{b:ep U}(k:iz bs J 0 ss=some b):
 ∃bg,pX (eO bs J1 0 bs) bg/\cq bs.length (hn 0 ss b) bg:=by
 have F:=zd bR k;have I:=oP bR k;generalize hn 0 ss b=Jc at*
 have key:∀(l:a' U),(∀i a,aU l i=some a->aU Jc i=some a)->∃bg:aF,(∀i x,aJ bg i=some x->∃y,aJ (eO bs J1 0 bs) i=some y/\jz y x)/\(∀i a,aU l i=some a->i<bs.length/\∃y,aJ bg i=some y/\hb bs.length Jc a y):=by
  intro l
  induction l with
  |nil=>intro _;exact⟨[],λi x h=>by grind[aJ],λi x h=>by grind[aU]⟩
  |cons p l ih=>
   obtain⟨i0,r⟩:=p;intro ad
   have:=by
    have aux:∀(m:a' U),(∀i a,i≠i0->aU m i=some a->aU Jc i=some a)->∃bg:aF,(∀i x,aJ bg i=some x->∃y,aJ (eO bs J1 0 bs) i=some y/\jz y x)/\(∀i a,i≠i0->aU m i=some a->i<bs.length/\∃y,aJ bg i=some y/\hb bs.length Jc a y):=by
     intro m S;have M:∀i a,aU (dl m i0) i=some a->aU Jc i=some a:=by
      intro i a h;rw[lS]at h
      grind
     have build:∀n,∃bg:aF,(∀i x,aJ bg i=some x->∃y,aJ (eO bs J1 0 bs) i=some y/\jz y x)/\(∀i a,i<n->aU (dl m i0) i=some a->i<bs.length/\∃y,aJ bg i=some y/\hb bs.length Jc a y):=by
      intro n
      induction n with
      |zero=>exact⟨[],λi x h=>by grind[aJ],λi x h=>by omega⟩
      |succ n P=>
       obtain⟨s,h1,d⟩:=P;cases aA:aU (dl m i0) n with
       |none=>exact⟨s,h1,λi a hi c=>d i a (by grind) c⟩
       |some E=>
        obtain⟨_,_,t,x,g,v,R,K,w,L⟩:=I n E (M n E aA);obtain⟨_,y,aZ,ba⟩:=ay t x v;obtain⟨z,f,q⟩:=F9 (N:=N) bR F w;have:z=E:=by simp_all
        subst this;obtain⟨o,Q,A⟩:=q y ba;have ht:=ys (bs:=bs) (i:=0) (j:=n) g aZ;refine⟨cn s n o,λi x hi=>?_,λi a hi c=>?_⟩
        . grind[cE]
        . by_cases e:i=n
          . subst e;rw[aA]at c;cases c;exact⟨(dO.1 g).1,o,by rw[cE,ab rfl],A⟩
          . obtain⟨B,z,C,D⟩:=d i a (by omega) c;exact⟨B,z,by rw[cE,ag (λu=>e u.symm)];exact C,D⟩
     obtain⟨s,h1,d⟩:=build bs.length;refine⟨s,h1,λi a H c=>?_⟩;have G:aU (dl m i0) i=some a:=by rw[lS,ag (λe=>H e.symm)];exact c
     grind
    exact aux l λi a H h=>ad i a (by
     grind[aU,cR])
   obtain⟨s,h1,d⟩:=this;have O:aU Jc i0=some r:=ad i0 r (by simp[aU,Nat.beq_refl]);obtain⟨_,_,t,x,g,v,R,K,w,L⟩:=I i0 r O;obtain⟨_,y,aZ,ba⟩:=ay t x v;obtain⟨z,f,q⟩:=F9 (N:=N) bR F w;have:z=r:=by simp_all
   subst this;obtain⟨o,Q,A⟩:=q y ba;have ht:=ys (bs:=bs) (i:=0) (j:=i0) g aZ;refine⟨cn s i0 o,λi x hi=>?_,λi a c=>?_⟩
   . rw[cE]at hi
     grind
   . by_cases e:i=i0
     . subst e;simp[aU,Nat.beq_refl]at c;subst c;exact⟨(dO.1 g).1,o,by rw[cE,ab rfl],A⟩
     . have G:aU l i=some a:=by
        simp only[aU]at c;cases k:Nat.beq i0 i with
        |true=>exact absurd (cR k).symm e
        |false=>rw[k]at c;exact c
       obtain⟨B,z,C,D⟩:=d i a e G;exact⟨B,z,by rw[cE,ag (λu=>e u.symm)];exact C,D⟩
 obtain⟨s,h1,d⟩:=key Jc λ_ _ h=>h
 exact⟨s,λi x hi=>h1 i x hi,λi a c=>d i a c⟩
theorem Zv(bR:bs.Nodup)(j:keeps kk bs=true)(he:c6 N J (λ_=>true) env env1)(ay:cq N J J1){bu:Shape}{a:ep U}(h:DN bs bu env J=some a):
 ∃c bg,Conv kk N env1 J1 bs.length c bg/\c6 bs.length (gU U bu a).2 (λ_=>true) (gU U bu a).1 c/\cq bs.length (gU U bu a).2 bg:=by
 unfold DN at h;split at h
 . rename_i a1 b h1 d;cases h;obtain⟨e,f,c,az,m⟩:=Jf bR (zd bR d) he h1;obtain⟨bg,s1,l⟩:=CA bR ay d;have i:gU U bu (a1++b)=(e,hn 0 bu.st b):=by grind[gU]
   rw[i];refine⟨c,bg,(Conv.tidy (bu.env.map Prod.fst) bs bR j).trans (Conv.weaken (λk g n ad=>?_) s1),az,l⟩
   grind[Gl]
 grind
end
end
section
open Go
variable [da]
variable {U:cK}
def e9(D:Nat->Type):aD->List aD->Type
 |t,[]=>t.den D
 |t,a::r=>t.den D×e9 D a r
def aR(D:Nat->Type):List aD->Type
 |[]=>Unit
 |t::r=>e9 D t r
def e9.cells(D:Nat->Type):(t:aD)->(ts:List aD)->e9 D t ts->List (Cell D)
 |t,[],x=>[⟨t,x⟩]
 |t,u::r,x=>⟨t,x.1⟩::e9.cells D u r x.2
def aR.cells(D:Nat->Type):(ts:List aD)->aR D ts->List (Cell D)
 |[],_=>[]
 |t::r,x=>e9.cells D t r x
def Ed{α:Type}:List α->Option α
 |[c]=>some c
 |_=>none
def t'{α:Type}:List α->Option (α×List α)
 |[]=>none
 |c::r=>some (c,r)
def e9.dec(D:Nat->Type):(t:aD)->(ts:List aD)->List (Cell D)->Option (e9 D t ts)
 |t,[],l=>match Ed l with
  |some c=>c.as t
  |none=>none
 |t,u::r,l=>match t' l with
  |some p=>match p.1.as t with
   |some x=>match e9.dec D u r p.2 with
    |some y=>some (x,y)
    |none=>none
   |none=>none
  |none=>none
def aR.dec(D:Nat->Type):(ts:List aD)->List (Cell D)->Option (aR D ts)
 |[],l=>match l with
  |[]=>some ()
  |_=>none
 |t::r,l=>e9.dec D t r l
theorem YK{α:Type}{l:List α}{c:α}(h:Ed l=some c):l=[c]:=by
 unfold Ed at h;grind
theorem abM{α:Type}{l:List α}{c:α×List α}(h:t' l=some c):l=c.1::c.2:=by
 unfold t' at h;grind
theorem e9.mc{D:Nat->Type}:∀{ts:List aD} {t:aD} {a:List (Cell D)} {h:e9 D t ts},e9.dec D t ts a=some h->e9.cells D t ts h=a
 |[],t,a,h,e=>by
  unfold e9.dec at e;split at e
  . rename_i c f;rw[YK f,Cell.jE e];rfl
  grind
 |u::r,t,a,h,e=>by
  unfold e9.dec at e;split at e
  . split at e
    . rename_i x j;split at e
      . rename_i y g;cases e;have:=e9.mc g;show⟨t,x⟩::e9.cells D u r y=a
        grind[abM,Cell.jE]
      grind
    grind
  grind
theorem aR.mc{D:Nat->Type}:∀{ts:List aD} {a:List (Cell D)} {h:aR D ts},aR.dec D ts a=some h->aR.cells D ts h=a
 |[],[],h,e=>rfl
 |[],_::_,h,e=>by cases (show none=some h from e)
 |t::r,a,h,e=>e9.mc e
def e9.jP(U:cK):(t:aD)->(ts:List aD)->e9 U.D t ts
 |t,[]=>t.jP U
 |t,u::r=>(t.jP U,e9.jP U u r)
def aR.jP(U:cK):(ts:List aD)->aR U.D ts
 |[]=>()
 |t::r=>e9.jP U t r
abbrev jD:=List (Nat×Nat)×List (Nat×aD)
def ET:fO->bc U->jD->jD
 |.ptr j _,.ptr b _,s=>((j,b)::s.1,s.2)
 |.cl j _ _,.cl b _ _ _,s=>((j,b)::s.1,s.2)
 |.arr j,.arr b,s=>((j,b)::s.1,s.2)
 |.mp j,.mp b,s=>((j,b)::s.1,s.2)
 |.cr j,.cr b,s=>((j,b)::s.1,s.2)
 |.fn _ a,.fn _ cs,s=>(a.zip cs++s.1,s.2)
 |.hole (.slice t),.arr b,s=>(s.1,(b,t)::s.2)
 |_,_,s=>s
def EU:List fO->List (bc U)->jD->jD
 |a::as,x::xs,s=>EU as xs (ET a x s)
 |_,_,s=>s
def CW:List aD->List (bc U)->jD->jD
 |.slice t::ts,.arr b::xs,s=>CW ts xs (s.1,(b,t)::s.2)
 |_::ts,_::xs,s=>CW ts xs s
 |_,_,s=>s
mutual
def EW:dw->bF U->jD->jD
 |.c a,.c x,s=>ET a x s
 |.agg l,.agg xs,s=>EU l xs s
 |.row n,.agg xs,s=>CW (U.du n) xs s
 |.aS l,.aS xs,s=>CX l xs s
 |_,_,s=>s
def CX:List dw->List (bF U)->jD->jD
 |a::as,x::xs,s=>CX as xs (EW a x s)
 |_,_,s=>s
end
def EV(env:bO U):List (Nat×dw)->jD->jD
 |[],s=>s
 |(k,a)::r,s=>match aU env k with
  |some x=>EV env r (EW a x s)
  |none=>EV env r s
def agp:dJ->ct U->jD->jD
 |.box l,.box xs,s=>EU l xs s
 |.bK n,.box xs,s=>CW (U.du n) xs s
 |.bX _ a,.bX _ x,s=>ET a x s
 |_,_,s=>s
def vF(J:a' U)(kk:Nat):Nat->List dJ->jD->List Nat->List Nat×List (Nat×aD)
 |_,[],s,acc=>(acc.reverse,s.2)
 |j,a::r,s,acc=>
  let b:=match aU s.1 j with
   |some b=>b
   |none=>match Nat.ble (j+1) kk with
    |true=>j
    |false=>1000000+j
  match aU J b with
  |some x=>vF J kk (j+1) r (agp a x s) (b::acc)
  |none=>vF J kk (j+1) r s (b::acc)
def sQ:List Nat->Bool
 |[]=>true
 |a::l=>(l.all λb=>!(Nat.beq a b))&&sQ l
theorem yu:∀{l:List Nat},sQ l=true->l.Nodup
 |[],_=>vo
 |a::l,h=>by
  simp[sQ]at h;refine List.nodup_cons.2 ⟨λb=>?_,yu h.2⟩;have c:=h.1 a b;simp_all
def pS(kk:Nat)(own:List (Pos×aD))(bu:Shape)(ts:List aD)(env:bO U)(J:a' U)(N:Nat):Option (aR U.D ts):=
 match Dh own env J N with
 |none=>none
 |some (env,J,_)=>match HK env J with
  |none=>none
  |some (env,J)=>match vF J kk 0 bu.st (EV env bu.env ([],[])) []with
   |(bs,b)=>match j1 b env J with
    |none=>none
    |some (env,J)=>match sQ bs&&(keeps kk bs&&Nat.beq bs.length bu.st.length)with
     |false=>none
     |true=>match DN bs bu env J with
      |none=>none
      |some a=>aR.dec U.D ts a
section
variable {kk N:Nat}{J:a' U}{J1:aF}{env:bO U}{env1:Env}
theorem Cu{own:List (Pos×aD)}{bu:Shape}{ts:List aD}{h:aR U.D ts}(b:pS kk own bu ts env J N=some h)(he:c6 N J (λ_=>true) env env1)(ay:cq N J J1)(u:kk<=N):
 ∃c bg,Conv kk N env1 J1 bu.st.length c bg/\c6 bu.st.length (gU U bu (aR.cells U.D ts h)).2 (λ_=>true) (gU U bu (aR.cells U.D ts h)).1 c/\cq bu.st.length (gU U bu (aR.cells U.D ts h)).2 bg/\kk<=bu.st.length:=by
 unfold pS at b;split at b
 . grind
 . rename_i B J2 z h1;obtain⟨bM,vE,c0,q,g,cm⟩:=Jd h1 he ay u;split at b
   . grind
   rename_i C x p;obtain⟨az,s1,e,r,i⟩:=W5 p q g;have c1:=c0.trans e;split at b;rename_i bs F _;split at b
   . grind
   . rename_i E y f;obtain⟨A,I,c2,s,j,_⟩:=uh (kk:=kk) (gl:=[]) f r i;split at b
     . grind
     . rename_i d;simp only[cH]at d;obtain⟨m,n,o⟩:=d;have v:=cR o;split at b
       . grind
       . rename_i a l;obtain⟨cz,w,c3,t,k⟩:=Zv (yu m) n s j l;rw[aR.mc b,<-v];refine⟨cz,w,c1.trans (c2.trans c3),t,k,?_⟩
         by_cases G:kk=0
         . omega
         . have H:(bs[kk-1]?==some (kk-1))=true:=by
            grind[keeps]
           grind
end
structure cx (U:cK) where
 f:Nat
 gk:List dw
 st:List dJ
 ts:List aD
 eC:dw
 ev:List dJ
 us:List aD
 F:aR U.D ts->Option (aR U.D us)
def cx.args(s:cx U)(h:aR U.D s.ts):List (bF U):=(kg s.gk (aR.cells U.D s.ts h)).1
def cx.hc(s:cx U)(h:aR U.D s.ts):a' U:=hn 0 s.st (kg s.gk (aR.cells U.D s.ts h)).2
def cx.res(s:cx U)(r:aR U.D s.us):bF U:=(lQ s.eC (aR.cells U.D s.us r)).1
def cx.rest(s:cx U)(r:aR U.D s.us):a' U:=hn 0 s.ev (lQ s.eC (aR.cells U.D s.us r)).2
def hz(P:Program)(s:cx U):Prop:=
 ∀h r,s.F h=some r->∀a J1,aQ (b6 s.st.length (s.hc h)) (s.args h) a->cq s.st.length (s.hc h) J1->
  dG P s.f a J1 s.st.length (λb bg N'=>N'=s.ev.length/\b6 N' (s.rest r) (s.res r) b/\cq N' (s.rest r) bg)
def bc.ra:bc U->Bool
 |.t _|.dx .. |.bC|.eT|.eS=>true
 |.fn _ []=>true
 |_=>false
def gu:bF U->Bool
 |.c x=>x.ra
 |.agg cs=>cs.all bc.ra
 |.aS vs=>go vs
where go:List (bF U)->Bool
 |[]=>true
 |v::vs=>gu v&&go vs
def bc.om:bc U->C
 |.t c=>.t (c.enc U)
 |.dx ty x o=>.dx (ty.enc U x) o
 |.bC=>.bC
 |.eT=>.eT
 |.eS=>.eS
 |.fn f caps=>.fn f caps
 |_=>.dead
def fb:bF U->V
 |.c x=>.c x.om
 |.agg cs=>.agg (cs.map bc.om)
 |.aS vs=>.aS (go vs)
where go:List (bF U)->List V
 |[]=>[]
 |v::vs=>fb v::go vs
theorem xP{N:Nat}{J:a' U}{x:bc U}(h:x.ra=true):ca N J x x.om/\(∀d,ca N J x d->d=x.om)/\∀n,x.om.aq n=true:=by
 cases x<;>simp[bc.ra]at h
 . exact⟨.t _,λd a=>by cases a;rfl,λ_=>rfl⟩
 . exact⟨.dx _ _ _,λd a=>by cases a;rfl,λ_=>rfl⟩
 . exact⟨.bC,λd a=>by cases a;rfl,λ_=>rfl⟩
 . exact⟨.eT,λd a=>by cases a;rfl,λ_=>rfl⟩
 . exact⟨.eS,λd a=>by cases a;rfl,λ_=>rfl⟩
 . rename_i f caps;cases caps with
   |nil=>exact⟨.fn _ _,λd a=>by cases a;rfl,λ_=>rfl⟩
   |cons=>grind
theorem FQ:∀{vs:List (bF U)} {i:Nat},(fb.go vs)[i]?=(vs[i]?).map fb
 |[],i=>by rfl
 |v::vs,0=>by rfl
 |v::vs,i+1=>by simp[fb.go,FQ]
theorem Sc:∀{vs:List (bF U)},(fb.go vs).length=vs.length
 |[]=>rfl
 |v::vs=>by simp[fb.go,Sc]
theorem RY:∀{vs:List (bF U)} {i:Nat} {v:bF U},gu.go vs=true->vs[i]?=some v->gu v=true
 |[],i,v,_,h=>by grind
 |x::vs,0,v,hs,h=>by grind[gu.go]
 |x::vs,i+1,v,hs,h=>by simp[gu.go]at hs;exact RY hs.2 (by simpa using h)
theorem aux{N:Nat}{J:a' U}:∀(cs:List (bc U)),(∀x,x∈cs->x.ra=true)->aQ (ca N J) cs (cs.map bc.om)
 |[],_=>.nil
 |a::l,h=>.cons (xP (h a (by simp))).1 (aux l λx b=>h x (by grind))
theorem sK{N:Nat}{J:a' U}:∀{x:bF U},gu x=true->b6 N J x (fb x)/\∀n,(fb x).aq n=true
 |.c x,h=>by
  obtain⟨h1,_,a⟩:=xP h;exact⟨.c h1,λn=>a n⟩
 |.agg cs,h=>by
  simp[gu]at h;refine⟨.agg ?_,λn=>?_⟩
  . grind[aux]
  . simp[fb,V.aq];intro c b;exact(xP (N:=N) (J:=J) (h c b)).2.2 n
 |.aS vs,h=>by
  have:=go (N:=N) (J:=J) vs h;refine⟨.aS _ _ (by rw[Sc]) λi x d j g=>?_,λn=>?_⟩
  . grind[FQ]
  grind[fb,V.aq]
where go {N:Nat} {J:a' U}:∀(vs:List _),gu.go vs=true->(∀x,x∈vs->b6 N J x (fb x))/\∀n,V.aq.V.dI n (fb.go vs)=true
 |[],_=>⟨by simp,λ_=>rfl⟩
 |v::vs,h=>by
  simp[gu.go,cH]at h;obtain⟨h1,e⟩:=sK (N:=N) (J:=J) h.1;obtain⟨a,f⟩:=go (N:=N) (J:=J) vs h.2;simp_all[fb.go,V.aq.V.dI]
theorem xQ{N:Nat}{J:a' U}{x:bF U}{d:V}(h:b6 N J x d):gu x=true->d=fb x:=by
 induction h with
 |c h=>intro hs;rw[(xP hs).2.1 _ h];rfl
 | @agg xs b h=>
  intro hs;simp[gu]at hs
  congr 1
  induction h with
  |nil=>rfl
  |cons h1 f ih=>rw[je,<-(xP (hs _ (by simp))).2.1 _ h1,<-ih (λx a=>hs x (by grind))]
 |aS xs b ad h ih=>
  intro hs
  congr 1
  apply s5;intro i;rw[FQ];cases a:xs[i]? with
  |none=>grind
  |some x=>
   have hi:=(dO.1 a).1;have e:=eu (l:=b) (i:=i) (by omega);rw[e]
   congr 1
   exact ih i x _ a e (RY hs a)
end
section
open Go
variable [da]
variable {U:cK}
section
variable {P:Program}{nt kk key N N':Nat}{env:Env}{J J':aF}{Q kG:Exit->Env->aF->Nat->Prop}
def Hj(P:Program)(f:Nat)(args:List V)(J:aF)(key:Nat)(env:Env)(K:V->aF->Prop):Prop:=
 ∀ao nt φ S a w,Rel ao nt φ S env J (lt key) a w->V.aq.V.dI (lt key) args=true->∀vs:List Value,aQ (cd φ w S) args vs->
  Calls P f vs.toArray w λe w'=>∃v r b bH J',e= .returned v/\K r J'/\cd b w' bH r v/\r.aq (er (lt key) key)=true/\Rel ao nt b bH env J' (er (lt key) key) a w'
def acU(P:Program)(o:bL)(env:Env)(f:Nat)(vs:List V):Prop:=
 (∃args p,o.op= .call f args/\gL env args=some (p,vs)/\p)\/
 (∃x args q p caps a,o.op= .callv x args/\x.get env=some (q,.c (.fn f caps))/\q/\gL env args=some (p,a)/\p/\gS P f=true/\vs=a++caps.map λb=>V.c (.ptr b 0))
def tR(P:Program)(o:bL)(key:Nat)(env:Env)(J:aF)(K:Env->aF->Prop):Prop:=
 fP P o key env J K\/(fB env o.guard=some true/\∃f vs,acU P o env f vs/\Hj P f vs J key env λr J'=>K (dX env o.dst true r) J')
def og(P:Program)(kk:Nat):List bL->Nat->Env->aF->(Env->aF->Prop)->Prop
 |[],_,env,J,K=>K env J
 |o::r,key,env,J,K=>∃fD a,Conv kk key env J key fD a/\tR P o key fD a λe s=>og P kk r (key+16) e s K
theorem Sn{ao:Ctx}{φ:db}{S:dj}{a:Act}{w:World}(R:Rel ao nt φ S env J (lt key) a w){ops:Array Oper}{o:Oper}{u:bL}(E:uH P nt ops o=some u){K:Env->aF->Prop}(h:tR P u key env J K){Q:Exit->Act->World->Prop}:
 if Region.wanted o (yielded ops a.tmps)then o.wp P a w (jC ao nt (er (lt key) key) K) Q else jC ao nt (er (lt key) key) K (a.put o.dst undef) w:=by
 rcases h with h|⟨aj,f,vs,L,B⟩
 . exact B1 R (λb h1 _=>C9 h1) E h
 . obtain⟨h1,d,z,A⟩:=R0 E;have U:=To R d aj;rw[U];rcases L with⟨args,p,n,m,r⟩|⟨x,args,q,p,caps,H,n,O,T,m,r,j,rfl⟩
   . rw[n]at h1;obtain⟨c,k,s⟩:=QQ (xi h1 (by simp) (by simp) (by simp) (by simp));obtain⟨l,j,g⟩:=QR s;have F:=C8 (w:=w) (a:=a) k l rfl j;simp at F;obtain⟨e,y⟩:=qT R g m r;exact Calls.next z A rfl (λ_ _ h=>h) (B ao nt φ S a w R y _ e) F
   . rw[n]at h1;obtain⟨c,k,s⟩:=Re (xi h1 (by simp) (by simp) (by simp) (by simp));obtain⟨t,rfl,l,g⟩:=Rf s;obtain⟨e,y⟩:=qT R g m r;have W:=bT (x:= .tmp t) R rfl O T;have X:=W.1.dF;have M:aQ (cd φ w S) (caps.map λb=>V.c (.ptr b 0)) (caps.map λb=>Value.pointer (some ⟨(φ b).1,0,none⟩)):=by
      refine aQ.kr (by simp) ?_;intro i v x h1 d;simp at h1 d;obtain⟨b,I,rfl⟩:=h1;obtain⟨Y,D,rfl⟩:=d;rw[I]at D;cases D;exact .c rfl
     have N:V.aq.V.dI (lt key) (H++caps.map λb=>V.c (.ptr b 0))=true:=by
      refine sb ?_;intro i v G;by_cases hi:i<H.length
      . grind[ns]
      . rw[yk (by omega)]at G;simp only[nY,bb]at G
        grind[V.aq,C.aq]
     exact Calls.next z A rfl (λ_ _ h=>h) (B ao nt φ S a w R N _ (e.append M)) (C8 k l X j)
theorem Jg{ao:Ctx}(g:ao.k=kk){ops:Array Oper}{Q:Exit->Act->World->Prop}{K:Env->aF->Nat->Prop}:∀{l:List Oper} {aP:List bL} {k N:Nat} {env:Env} {J:aF} {φ:db} {S:dj} {a:Act} {w:World},iY P nt ops l=some aP->(∀i:Nat,i<l.length->l[i]?=ops[k+i]?)->
 Rel ao nt φ S env J (lt N) a w->og P kk aP N env J (λe s=>K e s (N+16*aP.length))->(∀φ S e s N a w,K e s N->Rel ao nt φ S e s (lt N) a w->Q .normal a w)->wpOps P ops Q (List.range' k l.length) a w
 |[],aP,k,N,env,J,φ,S,a,w,b,hi,R,h,f=>by
  simp[iY]at b;subst b;exact f _ _ _ _ _ _ _ h R
 |o::l,aP,k,N,env,J,φ,S,a,w,b,hi,R,h,f=>by
  simp[iY,a6,bb]at b;obtain⟨r,m,d,n,rfl⟩:=b;have t:ops[k]?=some o:=by have:=hi 0 (by simp);grind
  rw[jv,AM,wpOps_cons];unfold wpOp;obtain⟨fD,q,p,u⟩:=h;obtain⟨x,zV,j⟩:=p ao nt φ S a w g R;have hs:=Sn j m (K:=λe s=>og P kk _ _ e s λe s=>K e s (N+16*(d.length+1))) (by omega) (Q:=Q)
  have next:∀c w',jC ao nt (er (lt N) N) (λe s=>og P kk d (N+16) e s λe s=>K e s (N+16*(d.length+1))) c w'->wpOps P ops Q (List.range' (k+1) l.length) c w':=by
   rintro c w' ⟨v,bH,e,s,br,R'⟩
   refine Jg g n (λi aI=>?_) (R'.more λ_ h=>HH h) ?_ f
   . have:=hi (i+1) (by grind)
     grind
   grind
  split at hs
  . grind[Oper.wp_mono]
  grind
theorem bJ.Qt{aP:List bL}(h:og P kk aP N env J (λe s=>Q .normal e s (N+16*aP.length))):bJ P nt kk (.region aP) env J N Q:=by
 intro code g ao φ S a w j R;obtain⟨id,ops,rfl,o⟩:=Sa g;refine wp_region ?_;have:=Jg j (Q:=λe c w'=>∃p bH env' J' N',Q e env' J' N'/\Rel ao nt p bH env' J' (lt N') c w') (k:=0) o (λi hi=>by simp) R h
  (λφ S e s N a w br f=>⟨φ,S,e,s,N,br,f⟩)
 grind[List.range_eq_range']
theorem dG.conv{f k:Nat}{args args':List V}{Q:V->aF->Nat->Prop}(q:aQ fi args args')(hs:pX J J')(h:dG P f args' J' k Q):dG P f args J k Q:=by
 intro φ S w B o t K A D vs F;refine h φ S w B ⟨λb x g=>?_,λb p x y g G=>?_,o.st⟩ (λb x g=>?_) (λb x g=>?_) A ?_ vs ?_
 . obtain⟨j,h1,e⟩:=hs b x g;exact e.EF (o.blk b j h1)
 . obtain⟨j,h1,e⟩:=hs b x g;obtain⟨H,aZ,ba⟩:=hs p y G;exact o.inj b p j H h1 aZ
 . obtain⟨j,h1,e⟩:=hs b x g;exact⟨(t b j h1).1,e.aq _ (t b j h1).2⟩
 . obtain⟨j,h1,e⟩:=hs b x g;grind
 . refine sb λi v E=>?_
   obtain⟨v0,h1,e⟩:=(q.flip λ_ _ h=>h).get E;exact e.aq _ (ns D h1)
 . exact aQ.comp (λa b c h1 e=>h1.EO e) (q.flip λ_ _ h=>h) F
theorem dG.mono{f k:Nat}{args:List V}{Q kG:V->aF->Nat->Prop}(h:dG P f args J k Q)(j:∀r s n,Q r s n->kG r s n):dG P f args J k kG:=by
 intro φ S w B h1 a c g e vs bf;refine(h φ S w B h1 a c g e vs bf).mono ?_
 grind
theorem dG.tidy {f k:Nat}{args:List V}{J:aF}{Q kG:V->aF->Nat->Prop}(h:dG P f args J k Q)
 (Y:∀r J' N',Q r J' N'->∃bs D J2,bs.Nodup/\keeps k bs=true/\fi (r.bG bs) D/\pX (eO bs J' 0 bs) J2/\kG D J2 bs.length):dG P f args J k kG:=by
 intro φ S w B h1 N O U R vs bf;refine(h φ S w B h1 N O U R vs bf).mono ?_
 rintro e w' ⟨v,r,M,bH,J',N',he,W,aZ,ba,bE,bU,cL,cM,fK⟩
 obtain⟨bs,D,J2,bR,aG,L,hs,X⟩:=Y r J' N' W;have ax:∀i:Nat,i<k->bs[i]?=some i:=by
  grind[keeps]
 let G:db:=λi=>M ((bs[i]?).getD 0)
 have A:∀(i:Nat) b,bs[i]?=some b->G i=M b:=by intro i b h;simp[G,h]
 have t:∀b x,aJ (eO bs J' 0 bs) b=some x->∃c a,bs[b]?=some c/\aJ J' c=some a/\x=a.bG bs:=by
  grind[nr]
 have Z:∀(a:bp),(a.bG bs).aq (lt bs.length)=true:=by
  intro a;cases a with
  |box cs=>grind[bp.bG,bp.aq,List.all_eq_true,C.ir]
  |arr sz es=>rfl
  |set ks=>rfl
  |buf E s=>rfl
  |bX E c=>exact C.ir c
  |cu sz es i o c=>exact C.ir c
  |vec sz cs=>grind[bp.bG,bp.aq,List.all_eq_true,C.ir]
 refine⟨v,D,G,bH,J2,bs.length,he,X,L.EO (cd.bG A aZ),L.aq _ (V.ir r),⟨λb x g=>?_,λb F x y g j aI h0 K=>?_,bE.st⟩,λb x g=>?_,cL,λb x g h0=>?_,λb p=>?_⟩
 . obtain⟨y,j,p⟩:=hs b x g;obtain⟨c,a,az,q,rfl⟩:=t b y j;exact p.EF (cD.bG A az (bE.blk c a q))
 . obtain⟨ao,ad,_⟩:=hs b x g;obtain⟨ap,am,_⟩:=hs F y j;obtain⟨c,a,az,q,_⟩:=t b ao ad;obtain⟨H,an,f1,f2,_⟩:=t F ap am;rw[A b c az]at h0⊢;rw[A F H f1]at K⊢;refine bE.inj c H a an q f2 ?_ h0 K;have:=mv bR az
   grind[mv]
 . obtain⟨y,j,p⟩:=hs b x g;obtain⟨c,a,az,q,rfl⟩:=t b y j;exact⟨(dO.1 az).1,p.aq _ (Z a)⟩
 . obtain⟨y,j,p⟩:=hs b x g
   grind
 grind
end
def bc.bV(f:Nat->Nat):bc U->bc U
 |.ptr b o=>.ptr (f b) o
 |.cl b ty i o=>.cl (f b) ty i o
 |.arr b=>.arr (f b)
 |.sub b lo len=>.sub (f b) lo len
 |.pre b h=>.pre (f b) h
 |.dS b lo len=>.dS (f b) lo len
 |.mp b=>.mp (f b)
 |.eh b=>.eh (f b)
 |.cr b=>.cr (f b)
 |.fn g caps=>.fn g (caps.map f)
 |x=>x
def bF.bV(f:Nat->Nat):bF U->bF U
 |.c x=>.c (x.bV f)
 |.agg cs=>.agg (cs.map (bc.bV f))
 |.aS vs=>.aS (go f vs)
where go (f:Nat->Nat):List (bF U)->List (bF U)
 |[]=>[]
 |v::vs=>v.bV f::go f vs
def ct.bV(f:Nat->Nat):ct U->ct U
 |.box cs=>.box (cs.map (bc.bV f))
 |.arr ty l=>.arr ty l
 |.rows sz r=>.rows sz r
 |.set ks=>.set ks
 |.buf E s=>.buf E s
 |.bX E c=>.bX E (c.bV f)
 |.cu t l i o c=>.cu t l i o (c.bV f)
def Df(J:a' U):List Nat->a' U
 |[]=>J
 |b::r=>dl (Df J r) b
def mP(J:a' U)(bs:List Nat)(f:Nat->Nat):a' U->a' U
 |[]=>Df J bs
 |(b,x)::r=>cj (mP J bs f r) (f b) (x.bV f)
def n9(J Jr:a' U):Nat->List Nat->Option Bool
 |_,[]=>some true
 |i,b::r=>match aU Jr i with
  |none=>n9 J Jr (i+1) r
  |some d=>match aU J b with
   |none=>none
   |some x=>match d.cU with
    |none=>n9 J Jr (i+1) r
    |some a=>match x.cU with
     |none=>none
     |some p=>match Nat.beq a.1 p.1,n9 J Jr (i+1) r with
      |true,some c=>some (decide (a.2=p.2)&&c)
      |_,_=>none
section
variable {key N':Nat}{J Jr:a' U}{J1 NT:aF}{bs:List Nat}
theorem KV:∀{bs:List Nat} {b:Nat},aU (Df J bs) b=if b∈bs then none else aU J b
 |[],b=>by rfl
 |c::r,b=>by
  simp[Df,lS,KV]
  grind
theorem sr{f:Nat->Nat}:∀{d:a' U} {c:Nat} {x:ct U},aU (mP J bs f d) c=some x->(∃b a,c=f b/\aU d b=some a/\x=a.bV f)\/(c ∉ bs/\aU J c=some x)
 |[],c,x,h=>by
  grind[mP,KV]
 |(b,y)::r,c,x,h=>by
  simp[mP,gi]at h;split at h
  . grind[aU,Nat.beq_refl]
  . rcases sr h with⟨e,a,h1,g,i⟩|h
    . grind[aU,cR]
    grind
theorem x8(bR:bs.Nodup)(aI:∀b,b∈bs->b<key){i j:Nat}(h:back bs key i=back bs key j):i=j:=by
 unfold back at h;cases hi:bs[i]? with
 |some b=>
  rw[hi]at h;have d:=aI b (eU hi);cases a:bs[j]? with
  |some c=>
   rw[a]at h;simp at h;subst h;have:=mv bR hi;rw[mv bR a]at this
   grind
  |none=>grind
 |none=>
  cases a:bs[j]? with
  |some c=>
   have d:=aI c (eU a)
   grind
  |none=>grind
theorem RZ{f:Nat->Nat}(g:∀i j,f i=f j->i=j):∀{a:aF} {b:Nat} {x:bp},aJ a b=some x->aJ (fI J1 bs f a) (f b)=some (x.bV f)
 |[],b,x,h=>by grind[aJ]
 |(c,y)::r,b,x,h=>by
  simp[fI,cE];simp[aJ]at h;by_cases d:c=b
  . grind
  . rw[ag d]at h;rw[ag (λe=>d (g _ _ e))];exact RZ g h
theorem RD{f:Nat->Nat}{c:Nat}(e:c ∉ bs)(a:∀b,f b≠c):∀{d:aF},aJ (fI J1 bs f d) c=aJ J1 c
 |[]=>by grind[fI,oS]
 |(b,y)::r=>by
  simp[fI,cE];rw[ag (a b)];exact RD e a
theorem ct.w8{f:Nat->Nat}{x:ct U}:(x.bV f).cU=x.cU:=by cases x<;>simp[ct.bV,ct.cU]
theorem Sp:∀{l:List Nat} {i0:Nat} {c:Bool},n9 J Jr i0 l=some c->c=true->∀(j b:Nat) d,l[j]?=some b->aU Jr (i0+j)=some d->∃x,aU J b=some x/\∀p,d.cU=some p->x.cU=some p
 |[],i0,c,h,k,j,b,d,m,n=>by grind
 |a::l,i0,c,h,k,j,b,d,m,n=>by
  simp[n9]at h;have next:∀{f},n9 J Jr (i0+1) l=some f->f=true->∀g,j=g+1->∃x,aU J b=some x/\∀p,d.cU=some p->x.cU=some p:=by
   intro f h1 i g e;exact Sp h1 i g b d (by grind) (by grind)
  cases j with
  |zero=>
   grind[cR]
  |succ j=>
   split at h
   . grind
   grind
variable (bR:bs.Nodup)(aI:∀b,b∈bs->b<key)(cm:N'<=bs.length+16)(ay:cq key J J1)
include bR aI cm ay in
theorem ca.bV{x:bc U}{d:C}(h:ca N' Jr x d):ca (key+16) (mP J bs (back bs key) Jr) (x.bV (back bs key)) (d.bV (back bs key)):=by
 cases h with
 |t c=>exact ca.t c
 |ptr b o=>exact ca.ptr _ o
 |cl b t i o=>exact ca.cl _ t i o
 |dx t x o=>exact ca.dx t x o
 |arr b sz n q h=>
  have e:back bs key b<key+16:=by
   unfold back;cases hi:bs[b]? with
   |some c=>simp;have:=aI c (eU hi);omega
   |none=>grind
  refine ca.arr _ sz n e λx g p w=>?_
  rcases sr g with⟨j,y,h1,a,rfl⟩|⟨h1,a⟩
  . grind[x8,ct.w8]
  . have v:=(ay _ _ a).1
    grind[back]
 |sub b lo len=>exact ca.sub _ lo _
 |pre b sz n q h=>
  have e:back bs key b<key+16:=by
   unfold back;cases hi:bs[b]? with
   |some c=>simp;have:=aI c (eU hi);omega
   |none=>grind
  refine ca.pre _ sz n e λx g p w=>?_
  rcases sr g with⟨j,y,h1,a,rfl⟩|⟨h1,a⟩
  . grind[x8,ct.w8]
  . have v:=(ay _ _ a).1
    grind[back]
 |dS b sz lo len q h=>
  have e:back bs key b<key+16:=by
   unfold back;cases hi:bs[b]? with
   |some c=>simp;have:=aI c (eU hi);omega
   |none=>grind
  refine ca.dS _ sz lo _ e λx g p w=>?_
  rcases sr g with⟨j,y,h1,a,rfl⟩|⟨h1,a⟩
  . grind[x8,ct.w8]
  . have v:=(ay _ _ a).1
    grind[back]
 |mp b=>exact ca.mp _
 |eh b=>exact ca.eh _
 |cr b n q h=>
  have e:back bs key b<key+16:=by
   unfold back;cases hi:bs[b]? with
   |some c=>simp;have:=aI c (eU hi);omega
   |none=>grind
  refine ca.cr _ n e λx g p w=>?_
  rcases sr g with⟨j,y,h1,a,rfl⟩|⟨h1,a⟩
  . grind[x8,ct.w8]
  . have v:=(ay _ _ a).1
    grind[back]
 |bC=>exact .bC
 |eT=>exact .eT
 |eS=>exact .eS
 |fn f caps=>exact ca.fn f _
 |dead d=>exact .dead _
theorem Jh{f:Nat->Nat}:∀{vs:List (bF U)} {i:Nat},(bF.bV.go f vs)[i]?=(vs[i]?).map (bF.bV f)
 |[],i=>by rfl
 |v::vs,0=>by rfl
 |v::vs,i+1=>by simp[bF.bV.go,Jh]
theorem RE{f:Nat->Nat}:∀{vs:List (bF U)},(bF.bV.go f vs).length=vs.length
 |[]=>rfl
 |v::vs=>by simp[bF.bV.go,RE]
include bR aI cm ay in
theorem b6.bV{x:bF U}{d:V}(h:b6 N' Jr x d):b6 (key+16) (mP J bs (back bs key) Jr) (x.bV (back bs key)) (d.bV (back bs key)):=by
 induction h with
 |c h=>exact .c (ca.bV bR aI cm ay h)
 |agg h=>exact .agg (aQ.map_map (h.imp λ_ _ _ aa=>ca.bV bR aI cm ay aa))
 |aS xs a ad h ih=>
  refine .aS _ _ (by grind[RE,Gg]) ?_
  grind[Jh,Hb]
include bR aI ay in
theorem Ce(d:n9 J Jr 0 bs=some true):c7 key J (key+16) (mP J bs (back bs key) Jr):=by
 refine⟨by simp,λc x i e=>?_⟩;rcases sr e with⟨b,f,h1,a,rfl⟩|⟨h1,a⟩
 . unfold back at h1;cases hi:bs[b]? with
   |some g=>
    rw[hi]at h1;subst h1;obtain⟨x,aZ,ba⟩:=Sp d rfl b c f hi (by grind)
    grind[ct.w8]
   |none=>grind
 grind
include bR aI cm ay in
theorem cq.D4(q:n9 J Jr 0 bs=some true)(v:cq N' Jr NT):cq (key+16) (mP J bs (back bs key) Jr) (fI J1 bs (back bs key) NT):=by
 intro c x w;have p:∀b,b<N'->back bs key b<key+16:=by
  intro b B;unfold back;cases hi:bs[b]? with
  |some c=>simp;have:=aI c (eU hi);omega
  |none=>grind
 rcases sr w with⟨b,A,rfl,a,rfl⟩|⟨h1,a⟩
 . obtain⟨e,y,f,bf⟩:=v b A a;refine⟨p b e,y.bV _,RZ (λi j=>x8 bR aI) f,?_⟩;cases bf with
   |box bf=>exact .box (aQ.map_map (bf.imp λ_ _ _ aa=>ca.bV bR aI cm ay aa))
   |arr t l=>exact .arr t l
   |set ks=>exact .set ks
   |buf E s=>exact .buf E s
   |bX bf=>exact .bX (ca.bV bR aI cm ay bf)
   |cu t l i o bf=>exact .cu t l i o (ca.bV bR aI cm ay bf)
   |rows bf g=>exact .rows bf g
 . obtain⟨e,y,f,bf⟩:=ay c x a;refine⟨by omega,y,?_,?_⟩
   . grind[RD,back]
   . exact bf.mono (Ce bR aI ay q)
end
end
section
open Go
variable [da]
variable {xb rof:List Nat}
def uZ(n:Nat):List (Nat×Nat)->Bool
 |(i,_)::_=>Nat.beq i n
 |[]=>false
theorem Zw{l:List (bL×List Nat)}{p:Nat×Nat}(h:p∈kO l):p.1<l.length:=by
 grind[kO,DQ]
theorem X0{l:List (bL×List Nat)}(h:uZ l.length (ru l)=true):CP l=true/\sN l.dropLast=true/\∀p,p∈kO l.dropLast->p∈ru l:=by
 unfold ru at h⊢;split at h
 . grind
 . cases ad:kO l with
   |nil=>rw[ad]at h;cases h
   |cons p r=>
    rw[ad]at h;have a:p∈kO l:=by grind
    have:=Zw a;obtain⟨i,j⟩:=p;have b:Nat.beq i _=true:=h;simp_all
theorem YL{l:List (bL×List Nat)}{m:Nat}(f:l.length=m+1)(h:CP l=true){D:Nat->List Nat}(c:∀(i:Nat) x,l[i]?=some x->D i=x.2){p:Nat->Bool}(e:∀i,i<m->p i=true->∀d,d∈D i->p d=true)(ad:∀d,d∈D m->p d=true):
 ∀i,i<m->p i=true:=by
 have key:∀k i,i<m->m-i<=k->p i=true:=by
  intro k
  induction k with
  |zero=>grind
  |succ k ih=>
   intro i h1 a;simp[CP]at h;have b:=h i (by omega)
   grind
 exactλi hi=>key m i hi (by simp)
section
variable {P:Program}{ao:Ctx}{nt kk:Nat}{N:Nat}{ops:Array Oper}{init:List bL}{last:bL}{E:Nat->Env}{T:Nat->aF}{G:Nat->Bool}{W:Nat->V}
theorem CB{listed:Array Bool}{i m:Nat}(hs:listed.size=m+1)(hi:i<m):listed.pop.getD i false=listed.getD i false:=by
 simp
 grind
theorem acq{listed:Array Bool}{i m:Nat}(hs:listed.size=m+1)(hi:i<m):(listed.setIfInBounds i true).pop=listed.pop.setIfInBounds i true:=by grind
theorem Zx{Q:Exit->Act->World->Prop}{b:Nat}{listed:Array Bool}{a:Act}{w:World}(hs:listed.size=ops.size)(e:∀i,i<ops.size->listed.getD i false=true)(c:Q .normal a w):wpAny P .any ops Q b listed a w:=by
 have d:Region.ready .any ops listed=[]:=by
  rw[P5]
  grind[mem_ready]
 cases b with
 |zero=>exact⟨d,c⟩
 |succ b=>exact⟨λ_=>c,λi hi=>by grind⟩
theorem YM {D:Nat->List Nat}(st:Stat xb rof init D E N)(A:oa xb P init N E T G W)(L:rp rof init T)(hres:iY P nt ops ops.toList=some (init++[last]))(C:∀(i:Nat) o,ops[i]?=some o->D i=gT o)
 (ax:∀(p:Nat->Bool),(∀i,i<init.length->p i=true->∀d,d∈D i->p d=true)->(∀d,d∈D init.length->p d=true)->∀i,i<init.length->p i=true)
 (ar:∀d,d∈D init.length->d<init.length)
 {Q:Exit->Act->World->Prop}{K:Env->aF->Prop}(aw:ao.k=kk)
 (br:∃fD B,Conv kk (N+16*init.length) (E init.length) (T init.length) (N+16*init.length) fD B/\tR P last (N+16*init.length) fD B K)
 (ak:∀e s φ S a w,K e s->Rel ao nt φ S e s (er (lt (N+16*init.length)) (N+16*init.length)) a w->Q .normal a w):
 ∀(g:Nat) (listed:Array Bool) φ S env J a w,listed.size=init.length+1->listed.getD init.length false=false->listed.toList.countP (· ==false)<=g->Inv xb rof ao nt init D N E T G W listed.pop φ S env J a w->wpAny P .any ops Q g listed a w:=by
 have aa:=xe hres;simp at aa;have ay:∀(listed:Array Bool) (φ:db) (S:dj) (env:Env) (J:aF) (a:Act) (w:World),listed.size=init.length+1->listed.getD init.length false=false->Inv xb rof ao nt init D N E T G W listed.pop φ S env J a w->Region.ready .any ops listed≠[]:=by
  intro listed φ S env J a w hs x ch ae;have F:∀i,i<init.length->listed.getD i false=true:=by
   intro i
   induction i using Nat.strongRecOn with
   |_ i ih=>
    intro hi;cases ad:listed.getD i false with
    |true=>rfl
    |false=>
     have z:i<ops.size:=by omega
     have c:ops[i]?=some ops[i]:=AZ z;have:i∈Region.ready .any ops listed:=by
      rw[mem_ready];refine⟨?_,ops[i],c,λe he an=>?_⟩
      . grind
      . have l:e.on∈D i:=by
         rw[C i _ c];simp only[gT,hM,ye]
         grind
        exact ih e.on (st.back i _ hi l) (by have:=st.back i _ hi l;omega)
     grind
  have z:init.length<ops.size:=by omega
  have c:ops[init.length]?=some ops[init.length]:=AZ z;have:init.length∈Region.ready .any ops listed:=by
   rw[mem_ready];refine⟨?_,ops[init.length],c,λe he an=>?_⟩
   . grind
   . have l:e.on∈D init.length:=by
      rw[C _ _ c];simp only[gT,hM,ye]
      grind
     grind
  grind
 intro g
 induction g with
 |zero=>
  intro listed φ S env J a w hs x V ch
  exfalso
  have v:init.length<listed.size:=by omega
  have h0:listed.toList.countP (· ==false)=0:=by omega
  rw[List.countP_eq_zero]at h0;simp[v]at x;exact h0 listed[init.length] (by simp) (by grind)
 |succ g ih=>
  intro listed φ S env J a w hs x V ch;refine⟨λae=>absurd ae (ay listed φ S env J a w hs x ch),λi hi=>?_⟩;rw[mem_ready]at hi;obtain⟨h1,o,c,aB⟩:=hi;have z:i<ops.size:=(vv.1 c).1;have v:i<listed.size:=by omega
  have aA:listed.getD i false=false:=by grind
  obtain⟨r,U,af⟩:=Fa hres (i:=i) (o:=o) (by grind);have l:∀d,d∈D i->listed.getD d false=true:=by
   intro d l;rw[C i o c]at l;simp only[gT,hM,ye]at l
   grind
  have av:listed.toList.countP (· ==false)<=g+1->(listed.setIfInBounds i true).toList.countP (· ==false)<=g:=by
   have:listed.toList[i]?=some false:=by simp[v]at aA⊢;exact aA
   grind
  rcases Nat.lt_or_ge i init.length with u|u
  ·
   have t:init[i]?=some r:=by rw[vw u]at U;exact U
   have X:∀d,d∈D i->listed.pop.getD d false=true:=λd n=>by rw[CB hs (by have:=st.back i d u n;omega)];exact l d n
   have H:listed.pop.getD i false=false:=by rw[CB hs u];exact aA
   obtain⟨al,am⟩:=ch.agree st A L t H X;obtain⟨⟨bg,az,ai⟩,_⟩:=(A.step i r t).1.local (env':=env) (J':=J) al am;have y:=B1 ch.rel (key:=N+16*i) (λb ap aq=>I6 H ap aq) af (K:=λe s=>e=dX env r.dst (G i) (W i)/\s=bg) (az.fP ⟨rfl,rfl⟩) (Q:=Q)
   have next:∀f w',jC ao nt (er (used N init.length listed.pop) (N+16*i)) (λe s=>e=dX env r.dst (G i) (W i)/\s=bg) f w'->wpAny P .any ops Q g (listed.setIfInBounds i true) f w':=by
    rintro f w' ⟨O,bH,e,s,⟨rfl,rfl⟩,R'⟩
    have I:=acq (listed:=listed) (i:=i) (m:=init.length) hs u;refine ih (listed.setIfInBounds i true) O bH _ _ f w' (by simpa using hs) ?_ (av V) (by rw[I];exact ch.step st A L t H X ai R');rw[jo v,ag (by omega)];exact x
   unfold wpOp;rw[c];dsimp only;split at y
   . rename_i q;rw[ab q];exact .inl (Oper.wp_mono next y)
   . rename_i q;rw[ag q];exact next _ _ y
  ·
   have hi:i=init.length:=by omega
   subst hi;have t:r=last:=by grind
   subst t;have F:=by
    refine ax (λj=>listed.pop.getD j false) (λj Y I d n=>ch.down j Y I d n) (λd n=>?_);rw[CB hs (ar d n)];exact l d n
   have R:=ch.done st A L F;obtain⟨fD,B,au,y⟩:=br;obtain⟨aD,zV,ah⟩:=au ao nt φ S a w aw R;have M:=Sn ah af y (Q:=Q);have next:∀f w',jC ao nt (er (lt (N+16*init.length)) (N+16*init.length)) K f w'->wpAny P .any ops Q g (listed.setIfInBounds init.length true) f w':=by
    rintro f w' ⟨O,bH,e,s,aj,R'⟩
    refine Zx (by simp[hs,aa]) (λj Y=>?_) (ak e s O bH f w' aj R');rw[jo v];split
    . rfl
    . rename_i aC;have Z:j<init.length:=by omega
      rw[<-CB hs Z];exact F j Z
   unfold wpOp;rw[c];dsimp only;split at M
   . rename_i q;rw[ab q];exact .inl (Oper.wp_mono next M)
   . rename_i q;rw[ag q];exact next _ _ M
theorem bJ.Qv {dV:List (Nat×Nat)}{env:Env}{J:aF}{Q:Exit->Env->aF->Nat->Prop}(bg:uZ (init.length+1) dV=true)
 (h:tS xb rof P init N env J (λe s=>jq xb rof init e N dV=true/\og P kk [last] (N+16*init.length) e s (λe s=>Q .normal e s (N+16*init.length+16)))):bJ P nt kk (.jY (init++[last]) dV) env J N Q:=by
 intro code X ao φ S a w an R;obtain⟨id,ops,rfl,hres,H,ax,rfl⟩:=R1 X;have bf:=xe hres;have M:(fj ops (init++[last])).length=init.length+1:=by grind[fj]
 obtain⟨ap,B,a3⟩:=X0 (l:=fj ops (init++[last])) (by grind);obtain⟨E,T,G,W,K,a1,bM,t0,Y,O⟩:=Hc h
 have aP:(fj ops (init++[last])).dropLast=fj ops.pop init:=by
  obtain⟨L,x,q⟩:∃L x,ops.toList=L++[x]:=by
   cases ad:ops.toList.reverse with
   |nil=>simp_all
   |cons x r=>simp_all
  simp_all[fj,Array.toList_pop,yf,List.zip_append]
 rw[aP]at B;have Z:jq xb rof init (E init.length) N (kO (fj ops.pop init))=true:=FM (λp bi=>a3 p (by grind)) Y;have f:=L7 (ops:=ops.pop) (by grind) B K Z
 let D:Nat->List Nat:=λi=>((ops[i]?).map gT).getD []
 have A:∀i,i<init.length->((ops.pop[i]?).map gT).getD []=D i:=by grind
 have st:Stat xb rof init D E N:=by
  refine⟨λi d hi am=>f.back i d hi (by grind),λi j x y d q a9 be=>?_,λi j b aG hi F a4 g=>?_⟩
  . have:=f.vG i j x y d q a9 be
    grind
  . rcases f.ord i j b aG hi F a4 g with⟨h1,c⟩|⟨h1,c⟩
    . exact .inl ⟨h1,c.congr f.back A F⟩
    . exact .inr ⟨h1,c.congr f.back A hi⟩
 have a5:∀(i:Nat) x,(fj ops (init++[last]))[i]?=some x->D i=x.2:=by
  grind[fj]
 refine wp_region_any ax ?_;have a2:=O;have U:∀d,d∈D init.length->d<init.length:=by
  intro d am;simp only[sN,cH]at H;have q:(fj ops (init++[last]))[init.length]?=some _:=eu (by omega);have:=Gj H.1.1 q d (by grind);omega
 refine YM (ao:=ao) (nt:=nt) (D:=D) st K a1 hres (λi o aI=>by grind) (λp h1 c=>YL M ap a5 h1 c) U an a2 (λe s φ S a w a0 R'=>⟨φ,S,e,s,_,a0,R'.more λb g=>HH g⟩) ops.size _ φ S env J a _ ?_ ?_ ?_ ?_
 . grind
 . rw[Array.getD_eq_getD_getElem?,Array.getElem?_replicate]
   grind
 . grind[List.countP_le_length]
 . have R':=R.drew;have v:∀i,(Array.replicate ops.size false).pop.getD i false=true->False:=by
    intro i ad;simp only[Array.getD_eq_getD_getElem?,Array.getElem?_pop]at ad
    grind
   refine⟨R'.more λb g=>by grind[used],by grind,λi hi ad=>(v i ad).elim,λt _=>by grind,λt i o aI ad=>(v i ad).elim,λb _=>by grind,λb i hi ad=>(v i ad).elim⟩
theorem bJ.agk {dV:List (Nat×Nat)}{env:Env}{J:aF}{Q:Exit->Env->aF->Nat->Prop}(a:uZ (init.length+1) dV=true)
 (h:rv xb P init N env J (λe s=>sP xb init e N dV=true/\og P kk [last] (N+16*init.length) e s (λe s=>Q .normal e s (N+16*init.length+16)))):bJ P nt kk (.jY (init++[last]) dV) env J N Q:=
 bJ.Qv (rof:=[]) a (GP (Hd (λe s h=>⟨F5 h.1,h.2⟩) h))
end
end
end Go.Proofs.YtfcnkdegapjgnaaGreatDoor.Shv
