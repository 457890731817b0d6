/- The library of this proof, part C: an abstract machine for the code of the program, and its soundness. -/
import Derived.Test.YtkbmjabicjpmjaaGreatDoorCdLB

namespace Go.Proofs.YtkbmjabicjpmjaaGreatDoor.Shv
set_option linter.all false
section
open Go
variable {xb:bb}
def k6(xb:bb)(bg:I cl)(env:Env)(N:Nat):I (Nat×Nat)->J
 |[]=>true
 |(i,j)::r=>(match bg[i]?,bg[j]? with
  |some x,some y=>(eL xb y.op env (N+16*j)).all λb=>!(cX xb x.op env (N+16*i) b)
  |_,_=>true)&&k6 xb bg env N r
variable{bg:I cl}{env:Env}{N:Nat}
theorem NF:∀{fq:I (Nat×Nat)} {i j:Nat} {x y:cl},k6 xb bg env N fq->(i,j)∈fq->bg[i]?=some x->bg[j]?=some y->∀b,b∈eL xb y.op env (N+16*j)->cX xb x.op env (N+16*i) b=false
 |[],i,j,x,y,h,a,_,_,_,_=>by simp at a
 |(d,f)::r,i,j,x,y,h,a,aa,al,b,c=>by
  simp only[k6,dr]at h;rcases fk.1 a with e|a;grind;exact NF h.2 a aa al b c
section
variable {P:Program}{aB:Ctx}{nt kk:Nat}{N:Nat}{ops:Array Oper}{bg:I cl}{E:Nat->Env}{T:Nat->bh}{G:Nat->J}{W:Nat->V}
theorem aa6{i:Nat}{o:Oper}{x:cl}(a:ops[i]?=some o)(aa:bg[i]?=some x):(gn ops bg)[i]?=some (x,h6 o):=by
 unfold gn;grind
theorem Q3(ag:bg.length=ops.size)(I:uJ (gn ops bg))(V:pk xb P bg N E T G W)(S:k6 xb bg (E bg.length) N (lN (gn ops bg))):
 Stat xb bg (λi=>((ops[i]?).map h6).getD []) E N:=by
 simp only[uJ,dr]at I;obtain⟨⟨R,J⟩,_⟩:=I;have e:∀i,i<bg.length->∃o x,ops[i]?=some o/\bg[i]?=some x/\(gn ops bg)[i]?=some (x,h6 o):=by
  intro i f;have s:ops[i]?=some ops[i]:=C' (by omega);have aa:bg[i]?=some bg[i]:=fm f;exact⟨_,_,s,aa,aa6 s aa⟩
 have ab:∀i j,ahead (gn ops bg) j i->j<i/\j∈((ops[i]?).map h6).getD []:=by
  intro i j h;obtain⟨h1,y,n,Z⟩:=aex h;refine⟨h1,?_⟩;have f:i<bg.length:=by
   have:=(ev.1 n).1;unfold gn at this;simp at this;omega
  grind
 have K:∀(i j:Nat) (x y:cl) (d:Nat),bg[i]?=some x->bg[j]?=some y->y.dst=some d->(d∈x.rd->(j<i/\j∈((ops[i]?).map h6).getD [])\/(x.op.cG/\x.op.iL=false/\i<j/\i∈((ops[j]?).map h6).getD []))/\(i=j\/x.dst≠some d):=by
  intro i j x y d aa al aj;obtain⟨v,Y,F,m,p⟩:=e i (ev.1 aa).1;obtain⟨w,O,H,c,q⟩:=e j (ev.1 al).1;rw[aa]at m;cases m;rw[al]at c;cases c;simp only[WK,gF]at J;have h1:=J ((x,h6 v),i) (fQ (i:=i) (by simp[Df,p]));have n:=h1 ((y,h6 w),j) (fQ (i:=j) (by simp[Df,q]));grind
 refine⟨λi d f C=>?_,K,?_⟩;obtain⟨o,x,s,aa,Q⟩:=e i f;rw[s]at C;have:=I6 R Q d C;omega
 ·
  have D:∀(i:Nat) (x:cl),bg[i]?=some x->¬(x.op.cG/\x.op.iL=false)->∀t,t∈x.op.reads->look (E bg.length) t=look (E i) t:=by
   intro i x aa ah t ht;have f:=(ev.1 aa).1;refine x2 V (by omega) (e' _) λj y ad ae al X=>?_;rcases (K i j x y t aa al X).1 (Pa ht)with h|h
   omega;grind
  have ai:∀i j,o1 (oi (gn ops bg) []) j i->j<i/\jK (λi=>((ops[i]?).map h6).getD []) j i:=by
   intro i j h;simp only[o1,dr,gP,List.contains_iff_mem]at h;refine⟨h.1,Mk (l:=gn ops bg) (acc:=[]) (λk x aa=>?_) (λi j z=>by simp at z) i j h.2⟩;have af:k<bg.length:=by
    have:=(ev.1 aa).1;unfold gn at this;simp at this;omega
   grind
  have A:∀(i j:Nat) (x y:cl) (b:Nat),i≠j->bg[i]?=some x->bg[j]?=some y->cX xb x.op (E i) (N+16*i) b->b∈eL xb y.op (E j) (N+16*j)->o1 (oi (gn ops bg) []) i j\/o1 (oi (gn ops bg) []) j i:=by
   intro i j x y b r aa al g a;by_cases h1:o1 (oi (gn ops bg) []) i j=true;grind
   . by_cases n:o1 (oi (gn ops bg) []) j i=true
     grind
     . exfalso;obtain⟨v,Y,F,m,p⟩:=e i (ev.1 aa).1;obtain⟨w,O,H,c,q⟩:=e j (ev.1 al).1;rw[aa]at m;cases m;rw[al]at c;cases c;have ht:y.op.iL:=by
        cases h:y.op.iL with
        |true=>rfl
        |false=>rw[abZ h]at a;simp at a
       have U:(i,j)∈lN (gn ops bg):=by
        simp only[lN,GR,List.mem_flatMap];refine⟨((x,h6 v),i),fQ (i:=i) (by simp[Df,p]),?_⟩;dsimp only;rw[OF g];simp only[cm,cw,HG];refine⟨((y,h6 w),j),fQ (i:=j) (by simp[Df,q]),?_⟩;grind
       have:=NF S U aa al b (by rw[aew (D j y al (λh=>by rw[ht]at h;cases h.2))];exact a);rw[adM (D i x aa (λh=>by rw[OF g]at h;cases h.1))]at this;grind
  intro i j b r f z g a;obtain⟨v,x,F,aa,p⟩:=e i f;obtain⟨w,y,H,al,q⟩:=e j z;have u:cX xb x.op (E i) (N+16*i) b:=by unfold jo at g;rw[aa]at g;exact g
  have conv:(o1 (oi (gn ops bg) []) i j\/o1 (oi (gn ops bg) []) j i)->(i<j/\jK (λi=>((ops[i]?).map h6).getD []) i j)\/(j<i/\jK (λi=>((ops[i]?).map h6).getD []) j i):=by grind
  rcases a with⟨O,c,a⟩|a
  . rw[al]at c;cases c;exact conv (A i j x y b r aa al u a)
  . have B:cX xb y.op (E j) (N+16*j) b:=by unfold jo at a;rw[al]at a;exact a
    cases M:y.op.iL with
    |true=>exact conv (A i j x y b r aa al u (NC M B))
    |false=>
     cases L:x.op.iL with
     |true=>exact conv (A j i y x b (ee r) al aa B (NC L u)).symm
     |false=>
      have h1:=Q2 L u;have n:=Q2 M B;exfalso;omega
theorem Kp:∀{l m:I (Nat×Nat)},(∀p,p∈l->p∈m)->k6 xb bg env N m->k6 xb bg env N l=true
 |[],_,_,_=>rfl
 |(i,j)::r,m,hs,h=>by
  simp only[k6,dr];refine⟨?_,Kp (λp ar=>hs p (HC _ ar)) h⟩
  have:∀ (m:I (Nat×Nat)),(i,j)∈m->k6 xb bg env N m->(match bg[i]?,bg[j]? with
   |some x,some y=>(eL xb y.op env (N+16*j)).all λb=>!(cX xb x.op env (N+16*i) b)
   |_,_=>true)=true:=by
   intro m;induction m with
   |nil=>intro h _;simp at h
   |cons q m ih=>
    intro c a;obtain⟨d,e⟩:=q;simp only[k6,dr]at a;grind
  grind
theorem aey{l:I (cl×bb)}{p:Nat×Nat}(h:p∈lN l):p∈tn l:=by
 unfold tn;grind
theorem cJ.pf{fq:I (Nat×Nat)}{env:Env}{σ:bh}{Q:Exit->Env->bh->Nat->Prop}(h:yT xb P bg N env σ (λe s=>k6 xb bg e N fq=true/\Q .normal e s (N+16*bg.length))):cJ P nt kk (.pf bg fq) env σ N Q:=by
 intro code v aB φ S a w F R;obtain⟨id,ops,rfl,hres,D,B,rfl⟩:=LC v;have c:=zW hres;simp at c;obtain⟨E,T,G,W,g,dw,t0,y,j⟩:=JQ h;refine wp_region_any B ?_;refine aa5 (aB:=aB) (nt:=nt) (Q3 c D g (Kp (λp ar=>aey ar) y)) g hres (λi o f=>by simp[f]) (λφ S a w R'=>⟨φ,S,_,_,_,j,R'⟩) ops.size _ φ S env σ a _ ?_ ?_
 have:=List.countP_le_length (p:=λx:J=>x==false) (l:=(Array.replicate ops.size false).toList);grind
 . have R':Rel aB nt φ S env σ (lt N) a {w with drawn:=w.drawn+1}:=R.drew;refine⟨R'.more λb q=>by simp[used,q],by simp[c],λi A ak=>?_,λt _=>by rw[dw],λt i o f ak=>?_,λb _=>by rw[t0],λb i A ak=>?_⟩
   simp_all;exfalso;simp[Array.getElem?_replicate]at ak;split at ak<;>simp at ak;simp_all
end
end
section
open Go
def vD(P:Program)(c:Code)(Q:Exit->Act->World->Prop)(a:Act)(w:World):Prop:=
 ∀(b:Frame) (k:I Item) (cs:I Frame),∃e cj w',Q e cj w'/\Arrives P (lone (b.at a (.code c:: .inLoop c::k)) cs w) b k cs e cj w'
variable{Q:Exit->Act->World->Prop}{a:Act}{w:World}{P:Program}{c:dY}{S:dy}{φ:dx}{aB:Ctx}{D:Nat->Type}
theorem w9{c:Code}(h:c.wp P (Exit.then (vD P c Q) Q) a w):vD P c Q a w:=by
 intro b k cs;obtain⟨e,g,i,f,d⟩:=h b _ cs;cases e with
 |normal=>
  obtain⟨m,j,p,o,n⟩:=f b k cs;exact⟨m,j,p,o,.of_steps (Steps.trans d (.one step_inLoop)) n⟩
 |exit id=>exact⟨_,g,i,f,.pass rfl (λ_ _=>.inl (by simp)) d⟩
 |goto l=>exact⟨_,g,i,f,.pass (x:= .inLoop c) rfl (λ_ _=>.inl (by simp)) d⟩
 |ret=>exact⟨_,g,i,f,.pass (x:= .inLoop c) rfl (λ_ _=>.inl (by simp)) d⟩
 |panic lF=>exact⟨_,g,i,f,.pass (x:= .inLoop c) rfl (λ_ _=>.inl (by simp)) d⟩
 |outgrown=>exact⟨_,g,i,f,.pass (x:= .inLoop c) rfl (λ_ _=>.inl (by simp)) d⟩
theorem Fg{c:Code}(h:vD P c Q a w):(Code.loop c).wp P Q a w:=by
 intro b k cs;obtain⟨e,cj,w',f,d⟩:=h b k cs;exact⟨e,cj,w',f,.of_steps (.one step_loop) d⟩
section
variable {P:Program}{nt kk:Nat}{env env':Env}{σ σ':bh}{N N':Nat}{Q od:Exit->Env->bh->Nat->Prop}
def mX(P:Program)(nt kk:Nat)(c:dY)(env:Env)(σ:bh)(N:Nat)(Q:Exit->Env->bh->Nat->Prop):Prop:=
 ∀code,resolve P nt code=some c->∀aB φ S a w,aB.k=kk->Rel aB nt φ S env σ (lt N) a w->vD P code (λe cj w'=>∃bw bx env' σ' N',Q e env' σ' N'/\Rel aB nt bw bx env' σ' (lt N') cj w') a w
theorem mX.round(h:cJ P nt kk c env σ N (andThen (λenv σ N=>mX P nt kk c env σ N Q) Q)):mX P nt kk c env σ N Q:=by
 intro code f aB φ S a w g R;refine w9 (wp_mono (h _ f aB φ S a w g R) ?_);rintro e cj w' ⟨bw,bx,env',σ',N',j,R'⟩
 cases e with
 |normal=>exact j _ f aB _ bx cj w' g R'
 |_=>exact⟨bw,bx,env',σ',N',j,R'⟩
theorem cJ.akT(h:mX P nt kk c env σ N Q):cJ P nt kk (.loop c) env σ N Q:=by
 intro code f aB φ S a w g R;obtain⟨b,rfl,e⟩:=abl f;exact Fg (h b e aB φ S a w g R)
def Conv(kk N:Nat)(env:Env)(σ:bh)(N':Nat)(env':Env)(σ':bh):Prop:=
 ∀aB nt φ S a w,aB.k=kk->Rel aB nt φ S env σ (lt N) a w->∃bw bx,Rel aB nt bw bx env' σ' (lt N') a w
theorem Conv.refl:Conv kk N env σ N env σ:=λ_ _ φ S _ _ _ R=>⟨φ,S,R⟩
theorem Conv.trans{c e f:Nat}{aK g dB:Env}{s1 o p:bh}(h:Conv kk c aK s1 e g o)(k:Conv kk e g o f dB p):Conv kk c aK s1 f dB p:=
 λaB nt φ S a w j R=>let⟨bw,bx,R'⟩:=h aB nt φ S a w j R;k aB nt _ bx a w j R'
theorem cJ.conv(f:Conv kk N env σ N' env' σ')(h:cJ P nt kk c env' σ' N' Q):cJ P nt kk c env σ N Q:=
 λcode g aB φ S a w e R=>let⟨bw,bx,R'⟩:=f aB nt φ S a w e R;h _ g aB _ bx a w e R'
theorem mX.conv(f:Conv kk N env σ N' env' σ')(h:mX P nt kk c env' σ' N' Q):mX P nt kk c env σ N Q:=
 λcode g aB φ S a w e R=>let⟨bw,bx,R'⟩:=f aB nt φ S a w e R;h _ g aB _ bx a w e R'
theorem Conv.tidy(ks bs:bb)(ck:bs.Nodup)(c:keeps kk bs):Conv kk N env σ bs.length (oW bs env ks) (gB bs σ 0 bs):=
 λaB nt φ S a w e R=>let⟨bw,R'⟩:=R.tidy ks bs ck (by grind);⟨bw,S,R'⟩
theorem Conv.freeze(b0:Nat){c:Nat}{es:I (I T)}(e:aZ σ b0=some (.arr c es)):Conv kk N env σ N (sr b0 c es env) (nN b0 c es σ):=
 λaB nt φ S a w f R=>⟨φ,_,R.freeze e⟩
def eg(c a:C):Prop:=(∀φ w S v,bG φ w S c v->bG φ w S a v)/\∀n,c.aJ n->a.aJ n=true
theorem eg.refl(c:C):eg c c:=⟨λ_ _ _ _ h=>h,λ_ h=>h⟩
theorem eg.dead(c:C):eg c .dead:=⟨λ_ _ _ _ h=>h.jG,λ_ _=>rfl⟩
theorem eg.bX:eg .bX (.t (.slice [])):=by
 refine⟨?_,λ_ _=>rfl⟩;rintro φ w S v ⟨a,rfl⟩;exact ca.slice [] a 0 0 0 0 (λ_ _=>undef) (by simp) (by simp) (by simp) (by simp) (by simp) (by simp)
inductive hA:V->V->Prop
 |c {x y}:eg x y->hA (.c x) (.c y)
 |agg {xs rb}:bc eg xs rb->hA (.agg xs) (.agg rb)
 |bd (xs rb:List V) (ak:xs.length=rb.length) (h:∀(i:Nat) x y,xs[i]?=some x->rb[i]?=some y->hA x y):hA (.bd xs) (.bd rb)
theorem bc.comp{α e γ:Type}{R:α->e->Prop}{R':e->γ->Prop}{f:α->γ->Prop}(h:∀a b c,R a b->R' b c->f a c):∀{l:I α} {m:I e} {k:I γ},bc R l m->bc R' m k->bc f l k
 |[],[],[],_,_=>.nil
 |_::_,_::_,_::_,.cons h1 g,.cons bj bq=>.cons (h _ _ _ h1 bj) (bc.comp h g bq)
theorem bc.flip{α c:Type}{R:α->c->Prop}{R':c->α->Prop}{l:I α}{m:I c}(h:bc R l m)(k:∀a b,R a b->R' b a):bc R' m l:=by
 induction h with
 |nil=>exact .nil
 |cons h _ ih=>exact .cons (k _ _ h) ih
theorem Ue{n:Nat->J}:∀{vs:I V},(∀(i:Nat) v,vs[i]?=some v->v.aJ n)->V.aJ.V.d' n vs=true
 |[],_=>rfl
 |v::vs,h=>by simp[V.aJ.V.d'];exact⟨h 0 v rfl,Ue λi x aa=>h (i+1) x (by grind)⟩
theorem hA.H9{v f:V}(h:hA v f):∀{x},ch φ w S v x->ch φ w S f x:=by
 induction h with
 |c h=>intro x aa;cases aa with|c aa=>exact .c (h.1 _ _ _ _ aa)
 |agg h=>
  intro x aa;cases aa with
  |agg aa=>exact .agg (bc.comp (λa b c h1 e=>h1.1 _ _ _ _ e) (h.flip λ_ _ h=>h) aa)
 |bd xs o ak h ih=>
  intro x aa;cases aa with
  |bd _ g j e=>
   refine .bd _ g (by omega) ?_;grind
theorem hA.aJ{v f:V}(h:hA v f)(n:Nat->J):v.aJ n->f.aJ n:=by
 induction h with
 |c h=>intro e;exact h.2 n e
 | @agg xs p h=>
  intro e;simp[V.aJ]at e⊢;intro c j;obtain⟨i,o,rfl⟩:=hE j;obtain⟨a,g,hs⟩:=(h.flip λ_ _ h=>h).get (fm o);exact hs.2 n (e a (fQ g))
 |bd xs p ak h ih=>
  grind[V.aJ,Ue,nG]
inductive kY:cd->cd->Prop
 |box {xs rb}:bc eg xs rb->kY (.box xs) (.box rb)
 |arr {sz es}:kY (.arr sz es) (.arr sz es)
 |same {x}:kY x x
 |cu {E c yO}:eg c yO->kY (.cu E c) (.cu E yO)
 |cV {sz es i o c yO}:eg c yO->kY (.cV sz es i o c) (.cV sz es i o yO)
def R7(env env':Env):Prop:=∀k g a,look env' k=some (g,a)->∃v,look env k=some (g,v)/\hA v a
def tg(σ σ':bh):Prop:=∀b a,aZ σ' b=some a->∃x,aZ σ b=some x/\kY x a
theorem kY.HZ{b:Nat}{x j:cd}(h:kY x j)(g:dj φ w S b x):dj φ w S b j:=by
 cases h with
 |arr=>grind
 |same=>grind
 |cu h=>
  obtain⟨h0,⟨p,v,h1,e,f⟩,o⟩:=g;exact⟨h0,⟨p,v,h1,e,h.1 _ _ _ _ f⟩,o⟩
 |cV h=>
  obtain⟨h1,⟨vs,E,bj,bq,b4,v,cv,cZ⟩,c7⟩:=g;exact⟨h1,⟨vs,E,bj,bq,b4,v,cv,h.1 _ _ _ _ cZ⟩,c7⟩
 |box h=>
  obtain⟨h0,vs,E,h1,e,f⟩:=g;exact⟨h0,vs,E,h1,bc.comp (λa b c h1 e=>h1.1 _ _ _ _ e) (h.flip λ_ _ h=>h) e,f⟩
theorem kY.aJ{x c:cd}(h:kY x c)(n:Nat->J)(a:x.aJ n):c.aJ n:=by
 cases h with
 |arr=>rfl
 |same=>grind
 |cu h=>exact h.2 n a
 |cV h=>exact h.2 n a
 | @box xs e h=>
  have:=hA.aJ (.agg h) n (by grind[V.aJ,cd.aJ]);grind[V.aJ,cd.aJ]
theorem Rel.weaken{n:Nat->J}(R:Rel aB nt φ S env σ n a w)(he:R7 env env')(hs:tg σ σ'):Rel aB nt φ S env' σ' n a w:=by
 refine⟨⟨λb x aa=>?_,λb f x y aa al=>?_,R.b3.st⟩,λk g v ak av=>?_,λk g v ak av=>?_,λk g v ak av=>?_,λb x aa=>?_,R.size,R.defers,R.ext,λb x aa=>?_,R.fix,R.hv⟩;obtain⟨e,h1,c⟩:=hs b x aa;exact c.HZ (R.b3.blk b e h1);obtain⟨e,h1,c⟩:=hs b x aa;obtain⟨o,bj,bq⟩:=hs f y al;exact R.b3.inj b f e o h1 bj;obtain⟨v0,h1,c⟩:=he k g v ak;obtain⟨x,aa,j⟩:=R.gY k g v0 h1 av;exact⟨x,aa,c.H9 j⟩;obtain⟨v0,h1,c⟩:=he k g v ak;exact R.hL k g v0 h1 av;obtain⟨v0,h1,c⟩:=he k g v ak;exact c.aJ n (R.gX k g v0 h1 av);obtain⟨e,h1,c⟩:=hs b x aa;exact⟨(R.ei b e h1).1,c.aJ n (R.ei b e h1).2⟩;obtain⟨e,h1,c⟩:=hs b x aa;exact R.own b e h1
theorem Conv.weaken(he:R7 env env')(hs:tg σ σ'):Conv kk N env σ N env' σ':=λaB nt φ S a w _ R=>⟨φ,S,R.weaken he hs⟩
theorem Rel.Hm(R:Rel aB nt φ S env σ (lt N) a w){sz:Nat}(t:0<sz)(B:aB.k<=N):
 Rel aB nt (e3 φ N (0,0)) S env (dA σ N (.arr sz [])) (lt (N+1)) a w:=by
 have A:∀b,lt N b->e3 φ N (0,0) b=φ b:=by
  intro b f;simp[lt]at f;grind[e3]
 have j:∀b,lt N b->lt (N+1) b:=λb f=>FZ (by simp) f;have c:=R.vp A;have cM:(e3 φ N (0,0) N).2=0:=by simp[e3]
 have e:∀b x,aZ (dA σ N (.arr sz [])) b=some x->(b=N/\x= .arr sz [])\/(b≠N/\aZ σ b=some x):=by
  grind[dk]
 refine⟨⟨λb x aa=>?_,λb o x y aa al q h0 p=>?_,c.b3.st⟩,c.gY,c.hL,λk g v ak av=>V.h8 j (c.gX k g v ak av),λb x aa=>?_,c.size,c.defers,c.ext,λb x aa h0=>?_,c.fix,λb f=>by simp[lt];omega⟩
 . rcases e b x aa with⟨rfl,rfl⟩|⟨_,aa⟩
   exact⟨by simp,by simp,by simp,t,λh=>absurd cM h⟩;exact c.b3.blk b x aa
 . rcases e b x aa with⟨rfl,rfl⟩|⟨_,aa⟩
   grind
   . rcases e o y al with⟨rfl,rfl⟩|⟨_,al⟩
     grind;exact c.b3.inj b o x y aa al q h0 p
 . rcases e b x aa with⟨rfl,rfl⟩|⟨_,aa⟩
   exact⟨by simp[lt],rfl⟩;exact⟨j b (c.ei b x aa).1,cd.h8 j (c.ei b x aa).2⟩
 . rcases e b x aa with⟨rfl,rfl⟩|⟨_,aa⟩
   grind;exact c.own b x aa h0
end
inductive aO where
 |bool
 |int (k:IntKind)
 |str
 |slice (t:aO)
 |nm (n:Nat)
def aO.beq:aO->aO->J
 |.bool,.bool=>true
 |.int k,.int a=>(k=a:J)
 |.str,.str=>true
 |.slice r,.slice c=>aO.beq r c
 |.nm n,.nm m=>Nat.beq n m
 |_,_=>false
theorem aO.beq_eq:∀{a b:aO},aO.beq a b->a=b
 |.bool,.bool,_=>rfl
 |.int k,.int c,h=>by grind[aO.beq]
 |.str,.str,_=>rfl
 |.slice r,.slice e,h=>by simp[aO.beq]at h;rw[aO.beq_eq h]
 |.nm n,.nm m,h=>by grind[aO.beq,Nat.eq_of_beq_eq_true]
 |.bool,.int _,h|.bool,.str,h|.bool,.slice _,h|.bool,.nm _,h=>by simp[aO.beq]at h
 |.int _,.bool,h|.int _,.str,h|.int _,.slice _,h|.int _,.nm _,h=>by simp[aO.beq]at h
 |.str,.int _,h|.str,.bool,h|.str,.slice _,h|.str,.nm _,h=>by simp[aO.beq]at h
 |.slice _,.int _,h|.slice _,.str,h|.slice _,.bool,h|.slice _,.nm _,h=>by simp[aO.beq]at h
 |.nm _,.int _,h|.nm _,.str,h|.nm _,.bool,h|.nm _,.slice _,h=>by grind[aO.beq]
theorem aO.beq_refl:∀(a:aO),aO.beq a a=true
 |.bool=>rfl
 |.int k=>by simp[aO.beq]
 |.str=>rfl
 |.slice r=>by exact aO.beq_refl r
 |.nm n=>by grind[aO.beq,Nat.beq_refl]
def aO.dec(a b:aO):Decidable (a=b):=
 match h:aO.beq a b with
 |true=>.isTrue (aO.beq_eq h)
 |false=>.isFalse λe=>by rw[e,aO.beq_refl]at h;cases h
def aO.den(D:Nat->Type):aO->Type
 |.bool=>J
 |.int _=>Int
 |.str=>au
 |.slice t=>I (aO.den D t)
 |.nm n=>D n
structure bZ (D:Nat->Type) where
 ty:aO
 val:ty.den D
def bZ.as{D:Nat->Type}(t:aO)(c:bZ D):ai (t.den D):=
 match aO.dec c.ty t with
 |.isTrue h=>some (Eq.rec (motive:=λt _=>aO.den D t) c.val h)
 |.isFalse _=>none
variable{t:aO}
theorem bZ.kA{c:bZ D}{x:t.den D}(h:c.as t=some x):c=⟨t,x⟩:=by
 obtain⟨u,v⟩:=c;unfold bZ.as at h;split at h
 all_goals grind
theorem bZ.Ud{x:t.den D}:bZ.as t (⟨t,x⟩:bZ D)=some x:=by
 unfold bZ.as;split;rfl;grind
def G6(D:Nat->Type)(enc:∀n,D n->I T):(t:aO)->t.den D->I T
 |.bool,b=>[.bool b]
 |.int k,n=>[.int k n]
 |.str,s=>[.str s]
 |.slice t,l=>[.slice (List.map (G6 D enc t) l)]
 |.nm n,x=>enc n x
def VV(D:Nat->Type)(enc:∀n,D n->I T):bZ D->T
 |⟨.bool,b⟩=>.bool b
 |⟨.int k,n⟩=>.int k n
 |⟨.str,s⟩=>.str s
 |⟨.slice t,l⟩=>.slice (List.map (G6 D enc t) l)
 |⟨.nm _,_⟩=>.bool false
structure c0 where
 D:Nat->Type
 kH:∀n,D n
 wu:∀n,D n->List (bZ D)
 make:∀n,List (bZ D)->Option (D n)
 dR:Nat->List aO
 enc:∀n,D n->List T
 VW:∀n x,enc n x=(wu n x).map (VV D enc)
 mk_eq:∀n l x,make n l=some x->wu n x=l
 WN:∀n x,(wu n x).map bZ.ty=dR n
 pos:∀n,0<(dR n).length
 WM:Nat->Option aO:=λ_=>none
 own:List (List Bool×Nat×aO):=[]
 cC:Option aO:=none
variable {U:c0}
abbrev c0.C(U:c0):=bZ U.D
abbrev aO.d(U:c0)(t:aO):=t.den U.D
def aO.kH(U:c0):(t:aO)->t.den U.D
 |.bool=>false
 |.int _=>(0:Int)
 |.str=>([]:au)
 |.slice t=>([]:I (t.den U.D))
 |.nm n=>U.kH n
def aO.wz:aO->J
 |.nm _=>true
 |_=>false
def aO.row(U:c0):(t:aO)->t.den U.D->I (bZ U.D)
 |.bool,b=>[⟨.bool,b⟩]
 |.int k,n=>[⟨.int k,n⟩]
 |.str,s=>[⟨.str,s⟩]
 |.slice t,l=>[⟨.slice t,l⟩]
 |.nm n,x=>U.wu n x
def aO.cells(U:c0):aO->I aO
 |.nm n=>U.dR n
 |t=>[t]
def aO.sz(U:c0)(t:aO):Nat:=(t.cells U).length
def jG(U:c0)(t:aO):I (bZ U.D)->ai (t.den U.D)
 |[c]=>c.as t
 |_=>none
def aO.mk(U:c0):(t:aO)->I (bZ U.D)->ai (t.den U.D)
 |.nm n,l=>U.make n l
 |.bool,l=>jG U .bool l
 |.int k,l=>jG U (.int k) l
 |.str,l=>jG U .str l
 |.slice t,l=>jG U (.slice t) l
variable{x:t.den U.D}
theorem D9{l:I (bZ U.D)}(h:jG U t l=some x):l=[⟨t,x⟩]:=by
 unfold jG at h;grind[bZ.kA]
def bZ.enc(U:c0)(c:bZ U.D):T:=VV U.D U.enc c
def aO.enc(U:c0)(t:aO)(x:t.den U.D):I T:=G6 U.D U.enc t x
theorem aO.wk:t.enc U x=(t.row U x).map (bZ.enc U):=by
 cases t<;>first|rfl|skip
 case nm n=>exact U.VW n x
theorem aO.alm:(t.row U x).map bZ.ty=t.cells U:=by
 cases t<;>first|rfl|skip
 case nm n=>exact U.WN n x
theorem aO.WG:(t.row U x).length=t.sz U:=by
 rw[<-sQ,aO.alm];rfl
theorem aO.tA:(t.enc U x).length=t.sz U:=by
 rw[aO.wk,sQ,aO.WG]
theorem aO.yl:0<t.sz U:=by
 cases t<;>simp[aO.sz,aO.cells];exact U.pos _
theorem aO.Hl:∀{t:aO} {l:I (bZ U.D)} {x:t.den U.D},t.mk U l=some x->t.row U x=l
 |.nm n,l,x,h=>U.mk_eq n l x h
 |.bool,l,x,h=>(D9 h).symm
 |.int k,l,x,h=>(D9 h).symm
 |.str,l,x,h=>(D9 h).symm
 |.slice t,l,x,h=>(D9 h).symm
def aO.at(U:c0)(t:aO)(l:I (t.den U.D))(i:Nat):t.den U.D:=l.getD i (t.kH U)
theorem Bn{l:I (t.den U.D)}{i:Nat}(h:i<l.length):el (l.map (t.enc U)) i=t.enc U (t.at U l i):=by
 simp[el,aO.at,fm h]
end
section
open Go
variable {U:c0}
inductive bB (U:c0) where
 |t (c:bZ U.D)
 |ptr (b o:Nat)
 |c9 (b:Nat)(t:aO)(i o:Nat)
 |ep (t:aO)(x:t.den U.D)(o:Nat)
 |arr (b:Nat)
 |sub (b o6 len:Nat)
 |pre (b h:Nat)
 |hT (b o6 len:Nat)
 |mp (b:Nat)
 |eV (b:Nat)
 |cQ (b:Nat)
 |bX
 |fN
 |fM
 |fn (f:Nat)(caps:bb)
 |dead
inductive bU (U:c0) where
 |c (x:bB U)
 |agg (cs:List (bB U))
 |bd (vs:List (bU U))
inductive dc (U:c0) where
 |box (cs:List (bB U))
 |arr (t:aO)(l:List (t.den U.D))
 |rows (sz:Nat)(r:List (List (bB U)))
 |set (ks:List au)
 |buf (E:Nat)(s:au)
 |cu (E:Nat)(c:bB U)
 |cV (t:aO)(l:List (t.den U.D))(i o:Nat)(c:bB U)
abbrev b8(U:c0):=I (Nat×bU U)
abbrev bm(U:c0):=I (Nat×dc U)
abbrev eY:=I (Nat×Nat×J)
def ba{α:Type}:I (Nat×α)->Nat->ai α
 |[],_=>none
 |(k,x)::r,i=>match Nat.beq k i with
  |true=>some x
  |false=>ba r i
def cW{α:Type}:I (Nat×α)->Nat->α->I (Nat×α)
 |[],b,x=>[(b,x)]
 |(k,y)::r,b,x=>match Nat.beq k b with
  |true=>(k,x)::r
  |false=>(k,y)::cW r b x
def dl{α:Type}:I (Nat×α)->Nat->I (Nat×α)
 |[],_=>[]
 |(k,y)::r,b=>match Nat.beq k b with
  |true=>dl r b
  |false=>(k,y)::dl r b
theorem dh{a b:Nat}(h:Nat.beq a b):a=b:=Nat.eq_of_beq_eq_true h
theorem iG{a b:Nat}(h:Nat.beq a b=false):a≠b:=λe=>by simp_all
variable{α:Type}
theorem h'(σ:I (Nat×α))(b:Nat)(x:α)(i:Nat):ba (cW σ b x) i=if b=i then some x else ba σ i:=by
 induction σ with
 |nil=>
  grind[cW,ba,dh,iG]
 |cons y r ih=>
  grind[cW,dh,ba]
theorem nP(σ:I (Nat×α))(b i:Nat):ba (dl σ b) i=if b=i then none else ba σ i:=by
 induction σ with
 |nil=>simp[dl,ba]
 |cons y r ih=>
  grind[dl,dh,ba]
def F7:C->ai (bB U)
 |.t (.bool b)=>some (.t ⟨.bool,b⟩)
 |.t (.int k n)=>some (.t ⟨.int k,n⟩)
 |.t (.str s)=>some (.t ⟨.str,s⟩)
 |.bX=>some .bX
 |.fN=>some .fN
 |.fM=>some .fM
 |.dead=>some .dead
 |.fn f []=>some (.fn f [])
 |_=>none
def n':I C->ai (I (bB U))
 |[]=>some []
 |c::cs=>match F7 c,n' cs with
  |some x,some xs=>some (x::xs)
  |_,_=>none
def yu:V->ai (bU U)
 |.c x=>match F7 x with
  |some y=>some (.c y)
  |none=>none
 |.agg cs=>match n' cs with
  |some a=>some (.agg a)
  |none=>none
 |.bd _=>none
def yj(gl:eY):Nat->ai (Nat×J)->Nat->J
 |0,_,_=>false
 |b+1,gd,k=>match ba gl k with
  |none=>true
  |some a=>match gd with
   |none=>false
   |some g=>(Nat.beq g.1 a.1&&(g.2==a.2))||yj gl b (ba gl g.1) k
def fW(env:b8 U)(t:Nat)(b:J):ai J:=
 match ba env t with
 |some (.c (.t ⟨.bool,x⟩))=>some (match b with|true=>x|false=>!x)
 |_=>none
def lV(gl:eY)(env:b8 U):Nat->ai (Nat×J)->ai J
 |_,none=>some true
 |0,some _=>none
 |a+1,some (t,b)=>match lV gl env a (ba gl t),fW env t b with
  |some x,some y=>some (x&&y)
  |_,_=>none
def rq:Nat:=200
def dH(gl:eY)(gd:ai (Nat×J))(env:b8 U):aV->ai (bU U)
 |.const v=>yu v
 |.tmp k=>match yj gl rq gd k with
  |true=>ba env k
  |false=>none
def F9(gl:eY)(gd:ai (Nat×J))(env:b8 U)(c:aV)(b:J):aV->ai (bU U)
 |.const v=>yu v
 |.tmp k=>match yj gl rq gd k with
  |true=>ba env k
  |false=>match c,ba gl k with
   |.tmp d,some (t,a)=>match Nat.beq t d&&(a==b)with
    |true=>ba env k
    |false=>none
   |_,_=>none
def l7(gl:eY)(gd:ai (Nat×J))(env:b8 U):I aV->ai (I (bU U))
 |[]=>some []
 |x::r=>match dH gl gd env x,l7 gl gd env r with
  |some v,some vs=>some (v::vs)
  |_,_=>none
def qp:bU U->ai (I (bB U))
 |.c x=>some [x]
 |.agg cs=>some cs
 |.bd _=>none
def yr(a:I (bB U))(off:Nat)(cs:I (bB U)):I (bB U):=a.take off++cs++a.drop (off+cs.length)
def Bo(gl:eY)(gd:ai (Nat×J))(env:b8 U):I (bB U)->I (Nat×Nat×aV)->ai (I (bB U))
 |a,[]=>some a
 |a,(off,n,x)::r=>match dH gl gd env x with
  |none=>none
  |some v=>match qp v with
   |none=>none
   |some cs=>match Nat.beq cs.length n&&Nat.ble (off+n) a.length with
    |true=>Bo gl gd env (yr a off cs) r
    |false=>none
def bB.toT:bB U->ai T
 |.t c=>match c.ty.wz with
  |true=>none
  |false=>some (c.enc U)
 |.bX=>some (.slice [])
 |_=>none
def iB:I (bB U)->ai (I T)
 |[]=>some []
 |c::cs=>match c.toT,iB cs with
  |some t,some ts=>some (t::ts)
  |_,_=>none
def xA(gl:eY)(gd:ai (Nat×J))(env:b8 U)(sz:Nat):I (I (bB U))->I (Nat×aV)->ai (I (I (bB U)))
 |rows,[]=>some rows
 |rows,(i,x)::r=>match dH gl gd env x with
  |none=>none
  |some v=>match qp v with
   |none=>none
   |some cs=>match iB cs with
    |none=>none
    |some _=>match Nat.beq cs.length sz&&Nat.ble (i+1) rows.length with
     |true=>xA gl gd env sz (rows.set i cs) r
     |false=>none
inductive gT (U:c0) where
 |ty (t:aO)(l:List (t.den U.D))
 |rows (r:List (List (bB U)))
 |nil
def gT.len:gT U->Nat
 |.ty _ l=>l.length
 |.rows r=>r.length
 |.nil=>0
def ji:I aO->I (bB U)->ai (I (bZ U.D))
 |[],[]=>some []
 |t::ts,.t c::cs=>match ji ts cs with
  |some l=>some (c::l)
  |none=>none
 |.slice t::ts,.bX::cs=>match ji ts cs with
  |some l=>some (⟨.slice t,([]:I (t.den U.D))⟩::l)
  |none=>none
 |_,_=>none
def ra(U:c0)(t:aO)(cs:I (bB U)):ai (t.den U.D):=
 match ji (t.cells U) cs with
 |some l=>t.mk U l
 |none=>none
def mT(U:c0)(t:aO):I (I (bB U))->ai (I (t.den U.D))
 |[]=>some []
 |r::a=>match ra U t r,mT U t a with
  |some x,some xs=>some (x::xs)
  |_,_=>none
def gT.as(t:aO):gT U->ai (I (t.den U.D))
 |.ty u l=>bZ.as (.slice t) ⟨.slice u,l⟩
 |.rows r=>mT U t r
 |.nil=>some []
def gT.join:gT U->gT U->ai (gT U)
 |.nil,y=>some y
 |.ty t l,y=>match y.as t with
  |some a=>some (.ty t (l++a))
  |none=>none
 |.rows r,.ty t l=>match mT U t r with
  |some c=>some (.ty t (c++l))
  |none=>none
 |.rows r,.rows e=>some (.rows (r++e))
 |.rows r,.nil=>some (.rows r)
def gT.blk(sz:Nat):gT U->ai (dc U)
 |.ty t l=>match Nat.beq (t.sz U) sz with
  |true=>some (.arr t l)
  |false=>none
 |.rows r=>match r.all λx=>Nat.beq x.length sz with
  |true=>some (.rows sz r)
  |false=>none
 |.nil=>some (.rows sz [])
def s4(σ:bm U):bU U->ai (gT U×ai Nat)
 |.c (.t ⟨.slice t,l⟩)=>some (.ty t l,none)
 |.c .bX=>some (.nil,none)
 |.c (.arr b)=>match ba σ b with
  |some (.arr t l)=>some (.ty t l,some b)
  |some (.rows _ r)=>some (.rows r,some b)
  |_=>none
 |_=>none
def dc.dD:dc U->ai (Nat×Nat)
 |.box _=>none
 |.arr t l=>some (t.sz U,l.length)
 |.rows sz r=>some (sz,r.length)
 |.set _=>none
 |.buf _ s=>some (1,s.length)
 |.cu _ _=>none
 |.cV t l _ _ _=>some (t.sz U,l.length)
def WY(σ:bm U)(b sz:Nat):J:=
 match ba σ b with
 |some x=>(match x.dD with|some p=>Nat.beq p.1 sz|none=>false)
 |none=>false
def bR(bytes n:Nat):J:=((2*n+192)*bytes<=h4:J)&&(n<=dT:J)
def WV:BinOp->IntKind->IntKind->Int->Int->ai (J×bZ U.D)
 |.add,k,c,a,b=>ite (k=c) (some (true,⟨.int k,k.wrap (a+b)⟩)) none
 |.sub,k,c,a,b=>ite (k=c) (some (true,⟨.int k,k.wrap (a-b)⟩)) none
 |.mul,k,c,a,b=>ite (k=c) (some (true,⟨.int k,k.wrap (a*b)⟩)) none
 |.quo,k,c,a,b=>ite (k=c) (some (!(b=0:J),⟨.int k,k.wrap (a.tdiv b)⟩)) none
 |.rem,k,c,a,b=>ite (k=c) (some (!(b=0:J),⟨.int k,a.tmod b⟩)) none
 |.and,k,c,a,b=>ite (k=c) (some (true,⟨.int k,k.wrap (BitVec.ofInt k.bits a &&& BitVec.ofInt k.bits b).toNat⟩)) none
 |.or,k,c,a,b=>ite (k=c) (some (true,⟨.int k,k.wrap (BitVec.ofInt k.bits a ||| BitVec.ofInt k.bits b).toNat⟩)) none
 |.xor,k,c,a,b=>ite (k=c) (some (true,⟨.int k,k.wrap (BitVec.ofInt k.bits a ^^^ BitVec.ofInt k.bits b).toNat⟩)) none
 |.andNot,k,c,a,b=>ite (k=c) (some (true,⟨.int k,k.wrap (BitVec.ofInt k.bits a &&& ~~~ BitVec.ofInt k.bits b).toNat⟩)) none
 |.shl,k,_,a,b=>some ((0<=b:J),⟨.int k,k.wrap (a*2^min b.toNat k.bits)⟩)
 |.shr,k,_,a,b=>some ((0<=b:J),⟨.int k,a.fdiv (2^min b.toNat k.bits)⟩)
 |.eql,k,c,a,b=>ite (k=c) (some (true,⟨.bool,(a=b:J)⟩)) none
 |.neq,k,c,a,b=>ite (k=c) (some (true,⟨.bool,!(a=b:J)⟩)) none
 |.lss,k,c,a,b=>ite (k=c) (some (true,⟨.bool,(a<b:J)⟩)) none
 |.leq,k,c,a,b=>ite (k=c) (some (true,⟨.bool,(a<=b:J)⟩)) none
 |.gtr,k,c,a,b=>ite (k=c) (some (true,⟨.bool,(b<a:J)⟩)) none
 |.geq,k,c,a,b=>ite (k=c) (some (true,⟨.bool,(b<=a:J)⟩)) none
def WW:BinOp->au->au->ai (J×bZ U.D)
 |.add,a,b=>some ((a.length+b.length<=eT:J),⟨.str,a++b⟩)
 |.eql,a,b=>some (true,⟨.bool,(a=b:J)⟩)
 |.neq,a,b=>some (true,⟨.bool,!(a=b:J)⟩)
 |.lss,a,b=>some (true,⟨.bool,Op.bytesLess a b⟩)
 |.leq,a,b=>some (true,⟨.bool,Op.bytesLess a b||(a=b:J)⟩)
 |.gtr,a,b=>some (true,⟨.bool,!(Op.bytesLess a b||(a=b:J))⟩)
 |.geq,a,b=>some (true,⟨.bool,!(Op.bytesLess a b)⟩)
 |_,_,_=>none
def Jr(op:BinOp):bZ U.D->bZ U.D->ai (J×bZ U.D)
 |⟨.int k,a⟩,⟨.int c,b⟩=>WV op k c a b
 |⟨.str,a⟩,⟨.str,b⟩=>WW op a b
 |_,_=>none
def ft(a b:J):J:=a==b
def eZ(a b:Int):J:=(a=b:J)
def jW(a b:au):J:=(a=b:J)
def aG(m:Int)(n:Nat):J:=(0<=m:J)&&(m.toNat<n:J)
def fI(b a:Int)(n:Nat):J:=(0<=b:J)&&((b<=a:J)&&(a<=n:J))
def hd{α:Type}(l:I α)(b a:Int):I α:=(l.take a.toNat).drop b.toNat
def mJ(a b:Int):Int:=Max.max a b
def ed(a b:Int):Int:=Min.min a b
def gC(s:au)(m:Int):Int:=((s.getD m.toNat 0).toNat:Int)
def oX(m:Int):au:=(Utf8.encode m).data.toList
def b7(k:IntKind)(m:Int):Int:=k.wrap m
def v8(a b:au):au:=a++b
def Jv:Nat->bZ U.D->bZ U.D->ai J
 |0,⟨.bool,a⟩,⟨.bool,b⟩=>some (ft a b)
 |1,⟨.int k,a⟩,⟨.int c,b⟩=>ite (k=c) (some (eZ a b)) none
 |2,⟨.str,a⟩,⟨.str,b⟩=>some (jW a b)
 |_,_,_=>none
def Cp:bb->I (bB U)->I (bB U)->ai J
 |[],[],[]=>some true
 |k::ks,.t x::xs,.t y::a=>match Jv k x y,Cp ks xs a with
  |some b,some r=>some (b&&r)
  |_,_=>none
 |_,_,_=>none
def su(agg:J)(n:Nat)(cs:I (bB U))(o:Nat):ai (bU U):=
 match agg with
 |true=>match Nat.ble (o+n) cs.length with
  |true=>some (.agg ((cs.drop o).take n))
  |false=>none
 |false=>match cs[o]? with
  |some c=>some (.c c)
  |none=>none
def o2(gl:eY)(gd:ai (Nat×J))(env:b8 U):ai aV->ai (ai Int)
 |none=>some none
 |some x=>match dH gl gd env x with
  |some (.c (.t ⟨.int _,n⟩))=>some (some n)
  |_=>none
def Cn:I (bU U)->ai bb
 |[]=>some []
 |.c (.ptr b 0)::r=>match Cn r with
  |some l=>some (b::l)
  |none=>none
 |_=>none
abbrev ahM(U:c0):=ai (J×bU U×bm U)
def s6(U:c0)(t:aO)(l:I (t.den U.D))(i o:Nat)(cs:I (bB U)):ai (I (t.den U.D)):=
 match ra U t (yr ((t.row U (t.at U l i)).map .t) o cs)with
 |some x=>some (l.set i x)
 |none=>none
def vG(t:aO):I (bB U)->ai (I (t.den U.D))
 |[]=>some []
 |.t c::r=>match c.as t,vG t r with
  |some x,some l=>some (x::l)
  |_,_=>none
 |_::_=>none
def FB:I (bB U)->ai ((t:aO)×I (t.den U.D))
 |.t c::r=>match c.ty.wz,vG c.ty (.t c::r)with
  |false,some l=>some ⟨c.ty,l⟩
  |_,_=>none
 |_=>none
def strOf(l:az):au:=l.map λm=>UInt8.ofNat m.toNat
def K1(l:az):J:=l.all λm=>(0<=m:J)&&(m<256:J)
def yk(a len n:Nat):J:=(a+len<=n:J)
def Wp:I (bB U)->ai (bB U)
 |[.arr b]=>some (.arr b)
 |_=>none
def zl(bytes:Nat)(m:Int):J:=(0<=m/\m.toNat*bytes<=h4/\m.toNat<=dT:J)
theorem Lu{bytes:Nat}{m:Int}:zl bytes m↔0<=m/\m.toNat*bytes<=h4/\m.toNat<=dT:=by simp[zl]
def cI(gl:eY)(gd:ai (Nat×J))(env:b8 U)(σ:bm U)(n:Nat)(o:db):ahM U:=
 match o with
 |.mov x=>match dH gl gd env x with
  |some v=>some (true,v,σ)
  |none=>none
 |.pick c x y=>match dH gl gd env c,F9 gl gd env c true x,F9 gl gd env c false y with
  |some (.c (.t ⟨.bool,b⟩)),some (.c (.t ⟨.bool,p⟩)),some (.c (.t ⟨.bool,q⟩))=>some (true,.c (.t ⟨.bool,bif b then p else q⟩),σ)
  |_,_,_=>none
 |.alloc cs=>match n' cs with
  |some xs=>some (true,.c (.ptr n 0),cW σ n (.box xs))
  |none=>none
 |.allocA cs=>match n' cs with
  |some xs=>match FB xs with
   |some ⟨t,l⟩=>some (true,.c (.ptr n 0),cW σ n (.arr t l))
   |none=>none
  |none=>none
 |.idxP k x i=>match dH gl gd env x,dH gl gd env i with
  |some (.c (.ptr b 0)),some (.c (.t ⟨.int _,m⟩))=>match ba σ b with
   |some (.arr t _)=>match Nat.beq (t.sz U) 1 with
    |true=>some (aG m k,.c (.c9 b t (Int.toNat m) 0),σ)
    |false=>none
   |_=>none
  |_,_=>none
 |.idxV k x i=>match dH gl gd env x,dH gl gd env i with
  |some (.agg cs),some (.c (.t ⟨.int _,m⟩))=>match Nat.beq cs.length k,FB cs with
   |true,some ⟨t,l⟩=>some (aG m k,.c (.t ⟨t,t.at U l (Int.toNat m)⟩),σ)
   |_,_=>none
  |_,_=>none
 |.mslice sz bytes z x=>match dH gl gd env x,n' z with
  |some (.c (.t ⟨.int _,m⟩)),some g=>match iB g with
   |none=>none
   |some _=>match g with
    |[.t c]=>match c.ty.wz,Nat.beq sz 1 with
     |false,true=>some (zl bytes m,.c (.arr n),cW σ n (.arr c.ty (List.replicate (Int.toNat m) c.val)))
     |_,_=>none
    |_=>none
  |_,_=>none
 |.slcP k x d w=>match dH gl gd env x,o2 gl gd env d,o2 gl gd env w with
  |some (.c (.ptr b 0)),some l,some h=>
   some (fI (l.getD 0) (h.getD (k:Int)) k,.c (.sub b (Int.toNat (l.getD 0)) (Int.toNat (h.getD (k:Int))-Int.toNat (l.getD 0))),σ)
  |_,_,_=>none
 |.b2s x=>match dH gl gd env x with
  |some (.c (.t ⟨.slice (.int .u8),l⟩))=>some (true,.c (.t ⟨.str,strOf l⟩),σ)
  |some (.c .bX)=>some (true,.c (.t ⟨.str,[]⟩),σ)
  |some (.c (.arr b))=>match ba σ b with
   |some (.arr (.int .u8) l)=>some (true,.c (.t ⟨.str,strOf l⟩),σ)
   |_=>none
  |some (.c (.sub b d len))=>match ba σ b with
   |some (.arr (.int .u8) l)=>some (yk d len (List.length l),.c (.t ⟨.str,strOf ((l.drop d).take len)⟩),σ)
   |_=>none
  |_=>none
 |.allocS e e8=>some (true,.c (.ptr n 0),cW (cW σ (n+1) (.buf e8 [])) n (.cu e (.cQ (n+1))))
 |.bsliceT e sz len z parts=>match U.WM e with
  |none=>none
  |some t=>match n' z with
   |some g=>match iB g with
    |none=>none
    |some _=>match Nat.beq g.length sz with
     |false=>none
     |true=>match xA gl gd env sz (List.replicate len g) parts with
      |some rows=>match mT U t rows with
       |some l=>some (true,.c (.t ⟨.slice t,l⟩),σ)
       |none=>none
      |none=>none
   |none=>none
 |.mkset=>some (true,.c (.mp n),cW σ n (.set []))
 |.lkset x k=>match dH gl gd env x,dH gl gd env k with
  |some (.c (.mp b)),some (.c (.t ⟨.str,s⟩))=>match ba σ b with
   |some (.set ks)=>some (true,.c (.t ⟨.bool,hr ks s⟩),σ)
   |_=>none
  |_,_=>none
 |.upset x k=>match dH gl gd env x,dH gl gd env k with
  |some (.c (.mp b)),some (.c (.t ⟨.str,s⟩))=>match ba σ b with
   |some (.set ks)=>some (true,.bd [],cW σ b (.set (jr ks s)))
   |_=>none
  |_,_=>none
 |.appendB e bytes x y=>match dH gl gd env x,dH gl gd env y with
  |some (.c (.cQ b)),some (.c (.t ⟨.str,s⟩))=>match ba σ b with
   |some (.buf u l)=>match Nat.beq u e with
    |true=>some (bR bytes (List.length l+List.length s),.c (.cQ n),cW (dl σ b) n (.buf e (v8 l s)))
    |false=>none
   |_=>none
  |_,_=>none
 |.sdata x=>match dH gl gd env x with
  |some (.c (.cQ b))=>some (true,.c (.eV b),σ)
  |_=>none
 |.ustr e x k=>match dH gl gd env x,dH gl gd env k with
  |some (.c (.eV b)),some (.c (.t ⟨.int .i64,m⟩))=>match ba σ b with
   |some (.buf u l)=>match Nat.beq u e with
    |true=>some (eZ m (List.length l:Int),.c (.t ⟨.str,l⟩),dl σ b)
    |false=>none
   |_=>none
  |_,_=>none
 |.box x=>match dH gl gd env x with
  |some v=>match qp v with
   |some cs=>some (true,.c (.ptr n 0),cW σ n (.box cs))
   |none=>none
  |none=>none
 |.build z parts=>match n' z with
  |some g=>match Bo gl gd env g parts with
   |some cs=>some (true,.agg cs,σ)
   |none=>none
  |none=>none
 |.bslice sz len z parts=>match n' z with
  |some g=>match iB g with
   |none=>none
   |some _=>match Nat.beq g.length sz with
    |false=>none
    |true=>match xA gl gd env sz (List.replicate len g) parts with
     |some rows=>some (true,.c (.arr n),cW σ n (.rows sz rows))
     |none=>none
  |none=>none
 |.load agg k x=>match dH gl gd env x with
  |some (.c (.ptr b o))=>match ba σ b with
   |some (.box cs)=>match su agg k cs o with
    |some v=>some (true,v,σ)
    |none=>none
   |some (.cu _ c)=>match agg,o with
    |false,1=>some (true,.c c,σ)
    |_,_=>none
   |_=>none
  |some (.c (.c9 b t i o))=>match ba σ b with
   |some (.arr j l)=>match bZ.as (.slice t) (⟨.slice j,l⟩:bZ U.D)with
    |some l=>match su agg k ((t.row U (t.at U l i)).map .t) o with
     |some v=>some ((i<l.length:J),v,σ)
     |none=>none
    |none=>none
   |some (.cV j l A B c)=>match agg with
    |true=>none
    |false=>match Nat.beq o B with
     |true=>match Nat.beq (t.sz U) (j.sz U)with
      |true=>some ((i=A:J),.c c,σ)
      |false=>none
     |false=>match bZ.as (.slice t) (⟨.slice j,l⟩:bZ U.D)with
      |some l=>match su false k ((t.row U (t.at U l i)).map .t) o with
       |some v=>some ((i<l.length:J),v,σ)
       |none=>none
      |none=>none
   |_=>none
  |some (.c (.ep t x o))=>match su agg k ((t.row U x).map .t) o with
   |some v=>some (true,v,σ)
   |none=>none
  |_=>none
 |.store k x v=>match dH gl gd env x,dH gl gd env v with
  |some (.c (.ptr b o)),some v=>match qp v with
   |some cs=>match Nat.beq cs.length k with
    |true=>match ba σ b with
     |some (.box I)=>match Nat.ble (o+k) I.length with
      |true=>some (true,.bd [],cW σ b (.box (yr I o cs)))
      |false=>none
     |some (.cu e _)=>match o,cs with
      |1,[c]=>some (true,.bd [],cW σ b (.cu e c))
      |_,_=>none
     |_=>none
    |false=>none
   |none=>none
  |some (.c (.c9 b t i o)),some v=>match qp v with
   |some cs=>match Nat.beq cs.length k&&Nat.ble (o+k) (t.sz U)with
    |true=>match ba σ b with
     |some (.arr j l)=>match bZ.as (.slice t) (⟨.slice j,l⟩:bZ U.D)with
      |some l=>match Wp cs with
       |some c=>some ((i<l.length:J),.bd [],cW σ b (.cV t l i o c))
       |none=>match s6 U t l i o cs with
        |some G=>some ((i<l.length:J),.bd [],cW σ b (.arr t G))
        |none=>none
      |none=>none
     |some (.cV j l A B L)=>match cs with
      |[c]=>match Nat.beq o B with
       |true=>match Nat.beq (t.sz U) (j.sz U)with
        |true=>some ((i=A:J),.bd [],cW σ b (.cV j l A B c))
        |false=>none
       |false=>match bZ.as (.slice t) (⟨.slice j,l⟩:bZ U.D)with
        |some l=>match s6 U t l i o [c]with
         |some G=>some ((i<l.length:J),.bd [],cW σ b (.cV t G A B L))
         |none=>none
        |none=>none
      |_=>none
     |_=>none
    |false=>none
   |none=>none
  |_,_=>none
 |.nilCheck x=>match dH gl gd env x with
  |some (.c (.ptr b o))=>some (true,.c (.ptr b o),σ)
  |some (.c (.c9 b t i o))=>some (true,.c (.c9 b t i o),σ)
  |some (.c (.ep t x o))=>some (true,.c (.ep t x o),σ)
  |_=>none
 |.bin op x y=>match dH gl gd env x,dH gl gd env y with
  |some (.c (.t p)),some (.c (.t q))=>match Jr op p q with
   |some (c,r)=>some (c,.c (.t r),σ)
   |none=>none
  |_,_=>none
 |.eqAgg neg ks x y=>match dH gl gd env x,dH gl gd env y with
  |some (.agg p),some (.agg q)=>match Cp ks p q with
   |some r=>some (true,.c (.t ⟨.bool,match neg with|true=>!r|false=>r⟩),σ)
   |none=>none
  |_,_=>none
 |.eqBool neg x y=>match dH gl gd env x,dH gl gd env y with
  |some (.c (.t ⟨.bool,p⟩)),some (.c (.t ⟨.bool,q⟩))=>some (true,.c (.t ⟨.bool,match neg with|true=>!(ft p q)|false=>ft p q⟩),σ)
  |_,_=>none
 |.not x=>match dH gl gd env x with
  |some (.c (.t ⟨.bool,b⟩))=>some (true,.c (.t ⟨.bool,!b⟩),σ)
  |_=>none
 |.conv k x=>match dH gl gd env x with
  |some (.c (.t ⟨.int _,m⟩))=>some (true,.c (.t ⟨.int k,b7 k m⟩),σ)
  |_=>none
 |.i2s x=>match dH gl gd env x with
  |some (.c (.t ⟨.int _,m⟩))=>some (true,.c (.t ⟨.str,oX m⟩),σ)
  |_=>none
 |.s2s x=>match dH gl gd env x with
  |some (.c (.t ⟨.str,s⟩))=>some (true,.c (.t ⟨.str,s⟩),σ)
  |_=>none
 |.fldA off x=>match dH gl gd env x with
  |some (.c (.ptr b o))=>some (true,.c (.ptr b (o+off)),σ)
  |some (.c (.c9 b t i o))=>some (true,.c (.c9 b t i (o+off)),σ)
  |some (.c (.ep t x o))=>some (true,.c (.ep t x (o+off)),σ)
  |_=>none
 |.fld agg off k x=>match dH gl gd env x with
  |some (.agg cs)=>match su agg k cs off with
   |some v=>some (true,v,σ)
   |none=>none
  |_=>none
 |.idxA sz x i=>match dH gl gd env x,dH gl gd env i with
  |some (.c (.t ⟨.slice t,l⟩)),some (.c (.t ⟨.int _,m⟩))=>match Nat.beq (t.sz U) sz with
   |true=>some (aG m l.length,.c (.ep t (t.at U l (Int.toNat m)) 0),σ)
   |false=>none
  |some (.c (.arr b)),some (.c (.t ⟨.int _,m⟩))=>match ba σ b with
   |some (.arr t l)=>match Nat.beq (t.sz U) sz with
    |true=>some (aG m l.length,.c (.c9 b t (Int.toNat m) 0),σ)
    |false=>none
   |_=>none
  |_,_=>none
 |.idxS x i=>match dH gl gd env x,dH gl gd env i with
  |some (.c (.t ⟨.str,s⟩)),some (.c (.t ⟨.int _,m⟩))=>some (aG m s.length,.c (.t ⟨.int .u8,gC s m⟩),σ)
  |_,_=>none
 |.slcS x d w=>match dH gl gd env x,o2 gl gd env d,o2 gl gd env w with
  |some (.c (.t ⟨.str,s⟩)),some l,some h=>
   some (fI (l.getD 0) (h.getD (s.length:Int)) s.length,.c (.t ⟨.str,hd s (l.getD 0) (h.getD (s.length:Int))⟩),σ)
  |_,_,_=>none
 |.slc sz x d w=>match dH gl gd env x,o2 gl gd env d,o2 gl gd env w with
  |some (.c (.t ⟨.slice t,s⟩)),some l,some h=>match Nat.beq (t.sz U) sz with
   |true=>some (fI (l.getD 0) (h.getD (s.length:Int)) s.length,.c (.t ⟨.slice t,hd s (l.getD 0) (h.getD (s.length:Int))⟩),σ)
   |false=>none
  |some (.c (.arr b)),some none,some h=>match ba σ b with
   |some (.arr t s)=>match Nat.beq (t.sz U) sz with
    |true=>some (fI 0 (h.getD (s.length:Int)) s.length,.c (.pre b (Int.toNat (h.getD (s.length:Int)))),σ)
    |false=>none
   |_=>none
  |some (.c (.arr b)),some (some d),some h=>match ba σ b with
   |some (.arr t s)=>match Nat.beq (t.sz U) sz with
    |true=>some (fI d (h.getD (s.length:Int)) s.length,.c (.hT b (Int.toNat d) (Int.toNat (h.getD (s.length:Int))-Int.toNat d)),σ)
    |false=>none
   |_=>none
  |_,_,_=>none
 |.slc0 x=>match dH gl gd env x with
  |some (.c (.t ⟨.slice _,_⟩))=>some (true,.c .bX,σ)
  |some (.c .bX)=>some (true,.c .bX,σ)
  |some (.c (.arr _))=>some (true,.c .bX,σ)
  |_=>none
 |.mkfn f caps=>match l7 gl gd env caps with
  |some vs=>match Cn vs with
   |some l=>some (true,.c (.fn f l),σ)
   |none=>none
  |none=>none
 |.ext x i=>match dH gl gd env x with
  |some (.bd vs)=>match vs[i]? with
   |some v=>some (true,v,σ)
   |none=>none
  |_=>none
 |.len str x=>match str,dH gl gd env x with
  |true,some (.c (.t ⟨.str,s⟩))=>some (true,.c (.t ⟨.int .i64,(s.length:Int)⟩),σ)
  |false,some (.c (.cQ b))=>match ba σ b with
   |some (.buf _ s)=>some (true,.c (.t ⟨.int .i64,(s.length:Int)⟩),σ)
   |_=>none
  |false,some v=>match s4 σ v with
   |some e=>some (true,.c (.t ⟨.int .i64,(e.1.len:Int)⟩),σ)
   |none=>none
  |_,_=>none
 |.append te sz bytes x y=>match dH gl gd env x,dH gl gd env y with
  |some (.c .bX),some v=>match s4 σ v with
   |some (C,_)=>match C.blk sz with
    |some blk=>some (bR bytes C.len,.c (.arr n),cW σ n blk)
    |none=>none
   |none=>none
  |some (.c (.arr b)),some v=>match s4 σ (.c (.arr b)),s4 σ v with
   |some (q',_),some (C,M)=>match (match M with|some E=>Nat.beq E b|none=>false)with
    |true=>none
    |false=>match WY σ b sz with
     |false=>none
     |true=>match q'.join C with
      |some K=>match K.blk sz with
       |some blk=>some (bR bytes K.len,.c (.arr n),cW (dl σ b) n blk)
       |none=>none
      |none=>none
   |_,_=>none
  |some (.c (.pre b h)),some (.c (.hT E d len))=>match Nat.beq b E with
   |true=>match ba σ b with
    |some (.arr t l)=>match Nat.beq (t.sz U) sz with
     |true=>some ((h+len<=l.length:J)&&(d+len<=l.length:J),.c (.arr n),cW (dl σ b) n (.arr t (l.take h++(l.drop d).take len)))
     |false=>none
    |_=>none
   |false=>none
  |some (.c (.cQ b)),some (.c (.t ⟨.slice (.int .u8),H⟩))=>match ba σ b with
   |some (.buf u l)=>match Nat.beq u te&&Nat.beq sz 1 with
    |true=>some (bR bytes (List.length l+List.length (strOf H))&&K1 H,.c (.cQ n),cW (dl σ b) n (.buf u (v8 l (strOf H))))
    |false=>none
   |_=>none
  |_,_=>none
 |.max2 x y=>match dH gl gd env x,dH gl gd env y with
  |some (.c (.t ⟨.int k,a⟩)),some (.c (.t ⟨.int F,b⟩))=>ite (k=F) (some (true,.c (.t ⟨.int k,mJ a b⟩),σ)) none
  |_,_=>none
 |.min2 x y=>match dH gl gd env x,dH gl gd env y with
  |some (.c (.t ⟨.int k,a⟩)),some (.c (.t ⟨.int F,b⟩))=>ite (k=F) (some (true,.c (.t ⟨.int k,ed a b⟩),σ)) none
  |_,_=>none
 |.eqNil .. |.call .. |.iO .. =>none
end
section
open Go
variable {U:c0}
inductive cy (N:Nat)(σ:bm U):bB U->C->Prop
 |t (c:bZ U.D):cy N σ (.t c) (.t (c.enc U))
 |ptr (b o:Nat):cy N σ (.ptr b o) (.ptr b o)
 |c9 (b:Nat) (t:aO) (i o:Nat):cy N σ (.c9 b t i o) (.c9 b (t.sz U) i o)
 |ep (t:aO) (x:t.den U.D) (o:Nat):cy N σ (.ep t x o) (.ep (t.enc U x) o)
 |arr (b sz n:Nat) (zf:b<N) (h:∀x,ba σ b=some x->∀p,x.dD=some p->p=(sz,n)):cy N σ (.arr b) (.arr b sz 0 n)
 |sub (b o6 len:Nat):cy N σ (.sub b o6 len) (.gK b 1 o6 len)
 |pre (b sz h:Nat) (zf:b<N) (akH:∀x,ba σ b=some x->∀p,x.dD=some p->p.1=sz):cy N σ (.pre b h) (.arr b sz 0 h)
 |hT (b sz o6 len:Nat) (zf:b<N) (akH:∀x,ba σ b=some x->∀p,x.dD=some p->p.1=sz):cy N σ (.hT b o6 len) (.gK b sz o6 len)
 |mp (b:Nat):cy N σ (.mp b) (.mp b)
 |eV (b:Nat):cy N σ (.eV b) (.eV b)
 |cQ (b n:Nat) (zf:b<N) (h:∀x,ba σ b=some x->∀p,x.dD=some p->p=(1,n)):cy N σ (.cQ b) (.cQ b n)
 |bX:cy N σ .bX .bX
 |fN:cy N σ .fN .fN
 |fM:cy N σ .fM .fM
 |fn (f:Nat) (caps:bb):cy N σ (.fn f caps) (.fn f caps)
 |dead (d:C):cy N σ .dead d
inductive cb (N:Nat)(σ:bm U):bU U->V->Prop
 |c {x d}:cy N σ x d->cb N σ (.c x) (.c d)
 |agg {xs pH}:bc (cy N σ) xs pH->cb N σ (.agg xs) (.agg pH)
 |bd (xs:List (bU U)) (pH:List V) (ak:xs.length=pH.length) (h:∀(i:Nat) x d,xs[i]?=some x->pH[i]?=some d->cb N σ x d):cb N σ (.bd xs) (.bd pH)
inductive iD (N:Nat)(σ:bm U):dc U->cd->Prop
 |box {cs pH}:bc (cy N σ) cs pH->iD N σ (.box cs) (.box pH)
 |arr (t:aO) (l:List (t.den U.D)):iD N σ (.arr t l) (.arr (t.sz U) (l.map (t.enc U)))
 |set (ks:List au):iD N σ (.set ks) (.set ks)
 |buf (E:Nat) (s:au):iD N σ (.buf E s) (.buf E s)
 |cu {E c d}:cy N σ c d->iD N σ (.cu E c) (.cu E d)
 |cV (t:aO) (l:List (t.den U.D)) (i o:Nat) {c d}:cy N σ c d->iD N σ (.cV t l i o c) (.cV (t.sz U) (l.map (t.enc U)) i o d)
 |rows {sz r es}:bc (λr e=>iB r=some e) r es->(∀x,x∈r->x.length=sz)->iD N σ (.rows sz r) (.arr sz es)
def cH(N:Nat)(σ:bm U)(σ1:bh):Prop:=∀b x,ba σ b=some x->b<N/\∃y,aZ σ1 b=some y/\iD N σ x y
def df(N:Nat)(σ:bm U)(G:Nat->J)(env:b8 U)(env1:Env):Prop:=∀k v,ba env k=some v->∃v1,look env1 k=some (G k,v1)/\cb N σ v v1
structure hI (gl:eY)(env:b8 U)(G:Nat->Bool):Prop where
 free:∀k,ba gl k=none->G k=true
 held:∀k t b,ba gl k=some (t,b)->∃y,fW env t b=some y/\G k=(G t&&y)
def dI(N:Nat)(σ:bm U)(N':Nat)(σ':bm U):Prop:=N<=N'/\∀b a,b<N->ba σ' b=some a->∃x,ba σ b=some x/\∀p,a.dD=some p->x.dD=some p
variable{σ:bm U}{x:bB U}{v1:V}{t:aO}{o:Nat}{v:bU U}{cs:I (bB U)}
theorem dI.refl{N:Nat}:dI N σ N σ:=⟨e' _,λ_ x _ h=>⟨x,h,λ_ h=>h⟩⟩
theorem dI.more{N N':Nat}(h:N<=N'):dI N σ N' σ:=⟨h,λ_ x _ h=>⟨x,h,λ_ h=>h⟩⟩
theorem dI.trans{a c e:Nat}{s1 g j:bm U}(h:dI a s1 c g)(k:dI c g e j):dI a s1 e j:=
 ⟨hF h.1 k.1,λb x f aa=>let⟨y,h1,o⟩:=k.2 b x (j0 f h.1) aa;let⟨z,q,t⟩:=h.2 b y f h1;⟨z,q,λp ar=>t p (o p ar)⟩⟩
section
variable {N N':Nat}{σ σ':bm U}{σ1:bh}{env:b8 U}{env1:Env}{G:Nat->J}{gl:eY}{gd:ai (Nat×J)}
theorem cy.mono(k:dI N σ N' σ'){d:C}(h:cy N σ x d):cy N' σ' x d:=by
 cases h with
 |t c=>exact .t c
 |ptr b o=>exact .ptr b o
 |c9 b t i o=>exact .c9 b t i o
 |ep t x o=>exact .ep t x o
 |arr b sz n a h=>
  refine .arr b sz n (j0 a k.1) λx aa p ar=>?_;obtain⟨y,h1,e⟩:=k.2 b x a aa;grind
 |sub b g len=>exact .sub b g _
 |pre b sz n a h=>
  refine .pre b sz n (j0 a k.1) λx aa p ar=>?_;obtain⟨y,h1,e⟩:=k.2 b x a aa;grind
 |hT b sz g len a h=>
  refine .hT b sz g _ (j0 a k.1) λx aa p ar=>?_;obtain⟨y,h1,e⟩:=k.2 b x a aa;grind
 |mp b=>exact .mp b
 |eV b=>exact .eV b
 |cQ b n a h=>
  refine .cQ b n (j0 a k.1) λx aa p ar=>?_;obtain⟨y,h1,e⟩:=k.2 b x a aa;grind
 |bX=>exact .bX
 |fN=>exact .fN
 |fM=>exact .fM
 |fn f caps=>exact .fn f _
 |dead d=>exact .dead d
theorem cb.mono(k:dI N σ N' σ'){x:bU U}{d:V}(h:cb N σ x d):cb N' σ' x d:=by
 induction h with
 |c h=>exact .c (h.mono k)
 |agg h=>exact .agg (h.imp λ_ _ _=>cy.mono k)
 |bd xs a ak h ih=>exact .bd xs a ak ih
theorem iD.mono(k:dI N σ N' σ'){x:dc U}{d:cd}(h:iD N σ x d):iD N' σ' x d:=by
 cases h with
 |box h=>exact .box (h.imp λ_ _ _=>cy.mono k)
 |arr t l=>exact .arr t l
 |set ks=>exact .set ks
 |buf E s=>exact .buf E s
 |cu h=>exact .cu (h.mono k)
 |cV t l i o h=>exact .cV t l i o (h.mono k)
 |rows h a=>exact .rows h a
theorem df.mono(k:dI N σ N' σ')(h:df N σ G env env1):df N' σ' G env env1:=λi v c=>let⟨v1,h1,a⟩:=h i v c;⟨v1,h1,a.mono k⟩
theorem cH.put(h:cH N σ σ1){b:Nat}{x:dc U}{y:cd}(o:b<N')(k:dI N σ N' (cW σ b x))(p:iD N' (cW σ b x) x y):cH N' (cW σ b x) (dA σ1 b y):=by
 intro c z a;rw[h']at a;rw[dk];by_cases g:b=c;grind;rw[aq g]at a⊢;obtain⟨h1,j,e,f⟩:=h c z a;exact⟨j0 h1 k.1,j,e,f.mono k⟩
theorem lg{x:dc U}(h:N<=N':=by simp):dI N σ N' (cW σ N x):=by
 refine⟨h,λb c a aa=>?_⟩;grind[h']
theorem oS{b:Nat}{x a:dc U}(h:N<=N')(h0:ba σ b=some a)(e:∀p,x.dD=some p->a.dD=some p):dI N σ N' (cW σ b x):=by
 refine⟨h,λc f d aa=>?_⟩;grind[h']
theorem sI{b:Nat}:dI N σ N (dl σ b):=by
 refine⟨e' _,λc d a aa=>?_⟩;grind[nP]
theorem NG{d:C}(h:F7 d=some x):cy N σ x d:=by
 unfold F7 at h;split at h<;>cases h;exact cy.t _;exact cy.t _;exact cy.t (U:=U) _;exact .bX;exact .fN;exact .fM;exact .dead _;exact .fn _ _
theorem r0:∀{a:I C} {xs:I (bB U)},n' a=some xs->bc (cy N σ) xs a
 |[],xs,h=>by simp[n']at h;subst h;exact .nil
 |d::a,xs,h=>by
  simp[n']at h;split at h;rename_i x c h1 b;cases h;exact .cons (NG h1) (r0 b);grind
theorem NH{d:V}{x:bU U}(h:yu d=some x):cb N σ x d:=by
 cases d with
 |c d=>
  simp[yu]at h;split at h;rename_i y al;cases h;exact .c (NG al);grind
 |agg a=>
  simp[yu]at h;split at h;rename_i y al;cases h;exact .agg (r0 al);grind
 |bd _=>grind[yu]
def cY(env:b8 U)(G:Nat->J):ai (Nat×J)->J
 |none=>true
 |some (t,b)=>G t&&(fW env t b).getD false
theorem hI.ba(av:hI gl env G)(k:Nat):cY env G (ba gl k)=G k:=by
 cases h:Shv.ba gl k with
 |none=>exact(av.free k h).symm
 |some g=>
  obtain⟨t,b⟩:=g;obtain⟨y,h1,a⟩:=av.held k t b h;grind[cY]
theorem Fh(av:hI gl env G):∀{a:Nat} {gd:ai (Nat×J)} {g:J},lV gl env a gd=some g->g=cY env G gd
 |_,none,g,h=>by unfold lV at h;simp at h;subst h;rfl
 |0,some _,g,h=>by grind[lV]
 |a+1,some (t,b),g,h=>by
  simp[lV]at h;split at h;rename_i x y h1 c;cases h;rw[Fh av h1,av.ba t];grind[cY];grind
theorem afO:∀{a:Nat} {t:Nat} {b:J} {g:J},lV gl env a (some (t,b))=some g->∃y,fW env t b=some y
 |0,t,b,g,h=>by grind[lV]
 |a+1,t,b,g,h=>by
  grind[lV]
theorem cb.et(h:cb N σ (.c x) v1):∃d,v1= .c d/\cy N σ x d:=by cases h<;>grind
theorem cb.mb{xs:I (bB U)}(h:cb N σ (.agg xs) v1):∃a,v1= .agg a/\bc (cy N σ) xs a:=by cases h<;>grind
theorem cb.ym{c:bZ U.D}(h:cb N σ (.c (.t c)) v1):v1= .c (.t (c.enc U)):=by obtain⟨d,rfl,ad⟩:=h.et;cases ad;rfl
theorem cb.jO{b:J}(h:cb N σ (.c (.t ⟨.bool,b⟩)) v1):v1= .c (.t (.bool b)):=h.ym
theorem cb.gh{k:IntKind}{m:Int}(h:cb N σ (.c (.t ⟨.int k,m⟩)) v1):v1= .c (.t (.int k m)):=h.ym
theorem cb.kU{s:au}(h:cb N σ (.c (.t ⟨.str,s⟩)) v1):v1= .c (.t (.str s)):=h.ym
theorem cb.j5{l:I (t.den U.D)}(h:cb N σ (.c (.t ⟨.slice t,l⟩)) v1):v1= .c (.t (.slice (l.map (t.enc U)))):=h.ym
theorem cb.hQ{b:Nat}(h:cb N σ (.c (.ptr b o)) v1):v1= .c (.ptr b o):=by obtain⟨d,rfl,ad⟩:=h.et;cases ad;rfl
theorem cb.jB{b i:Nat}(h:cb N σ (.c (.c9 b t i o)) v1):v1= .c (.c9 b (t.sz U) i o):=by obtain⟨d,rfl,ad⟩:=h.et;cases ad;rfl
theorem cb.Hc{x:t.den U.D}(h:cb N σ (.c (.ep t x o)) v1):v1= .c (.ep (t.enc U x) o):=by obtain⟨d,rfl,ad⟩:=h.et;cases ad;rfl
theorem cb.v7(h:cb N σ (.c .bX) v1):v1= .c .bX:=by obtain⟨d,rfl,ad⟩:=h.et;cases ad;rfl
theorem cb.hZ{b:Nat}(h:cb N σ (.c (.arr b)) v1):∃sz n,v1= .c (.arr b sz 0 n)/\b<N/\∀x,Shv.ba σ b=some x->∀p,x.dD=some p->p=(sz,n):=by
 obtain⟨d,rfl,ad⟩:=h.et;cases ad<;>grind
theorem cb.C6{b:Nat}(h:cb N σ (.c (.mp b)) v1):v1= .c (.mp b):=by obtain⟨d,rfl,ad⟩:=h.et;cases ad;rfl
theorem cb.WJ{b:Nat}(h:cb N σ (.c (.eV b)) v1):v1= .c (.eV b):=by obtain⟨d,rfl,ad⟩:=h.et;cases ad;rfl
theorem cb.yN{b:Nat}(h:cb N σ (.c (.cQ b)) v1):∃n,v1= .c (.cQ b n)/\b<N/\∀x,Shv.ba σ b=some x->∀p,x.dD=some p->p=(1,n):=by
 obtain⟨d,rfl,ad⟩:=h.et;cases ad<;>grind
theorem cb.G7{f:Nat}{caps:bb}(h:cb N σ (.c (.fn f caps)) v1):v1= .c (.fn f caps):=by
 obtain⟨d,rfl,ad⟩:=h.et;cases ad;rfl
theorem ae3{t:Nat}{b y:J}(he:df N σ G env env1)(h:fW env t b=some y):∃x,look env1 t=some (G t,.c (.t (.bool x)))/\y=(x==b):=by
 unfold fW at h;split at h;rename_i x aa;cases h;obtain⟨v1,h1,a⟩:=he t _ aa;have:=a.jO;grind;grind
theorem EL(he:df N σ G env env1)(h:gd=none\/∃t b y,gd=some (t,b)/\fW env t b=some y):gU env1 gd=some (cY env G gd):=by
 grind[ae3,gU,cY]
theorem Fi(av:hI gl env G):∀{c:Nat} {gd:ai (Nat×J)} {k:Nat},cY env G gd->yj gl c gd k->G k=true
 |0,gd,k,_,h=>by grind[yj]
 |c+1,gd,k,i,h=>by
  simp[yj]at h;split at h;rename_i a;exact av.free k a
  . rename_i d a;split at h
    grind
    . rename_i g;obtain⟨t,b⟩:=g;obtain⟨j,f⟩:=d;simp only[lW,dr,jl]at h;rcases h with⟨h1,e⟩|h
      have:=dh h1;subst this;subst e;obtain⟨y,bj,bq⟩:=av.held k t b a;grind[cY]
      . refine Fi av ?_ h;rw[av.ba t];grind[cY]
theorem cE(he:df N σ G env env1)(av:hI gl env G){x:aV}(h:dH gl gd env x=some v):
 ∃p v1,x.get env1=some (p,v1)/\cb N σ v v1/\(cY env G gd->p):=by
 cases x with
 |const d=>exact⟨True,d,rfl,NH h,λ_=>trivial⟩
 |tmp k=>
  simp[dH]at h;split at h;rename_i hs;obtain⟨v1,h1,a⟩:=he k v h;exact⟨_,v1,by grind[aV.get],a,λb=>Fi av b hs⟩;grind
theorem OG(he:df N σ G env env1)(av:hI gl env G){c x:aV}{b y:J}{i:bU U}(g:dH gl gd env c=some i)(n:i= .c (.t ⟨.bool,y⟩))(h:F9 gl gd env c b x=some v):
 ∃p v1,x.get env1=some (p,v1)/\cb N σ v v1/\(cY env G gd->y=b->p):=by
 cases x with
 |const d=>exact⟨True,d,rfl,NH h,λ_ _=>trivial⟩
 |tmp k=>
  simp[F9]at h;split at h;rename_i hs;obtain⟨v1,h1,a⟩:=he k v h;exact⟨_,v1,by grind[aV.get],a,λe _=>Fi av e hs⟩
  . split at h
    . rename_i o t j l;split at h
      . rename_i f;simp only[dr,jl]at f;obtain⟨h1,rfl⟩:=f;have:=dh h1;obtain⟨v1,h1,a⟩:=he k v h;refine⟨G k=true,v1,by grind[aV.get],a,λe al=>?_⟩;simp[dH]at g;split at g
        rename_i hs;have m:=Fi av e hs;obtain⟨q,bj,bq⟩:=av.held k t j l;grind[fW];grind
      grind
    grind
theorem uV(he:df N σ G env env1)(av:hI gl env G):∀{xs:I aV} {vs:I (bU U)},l7 gl gd env xs=some vs->
 ∃p a,ix env1 xs=some (p,a)/\bc (cb N σ) vs a/\(cY env G gd->p)
 |[],vs,h=>by simp[l7]at h;subst h;exact⟨True,[],rfl,.nil,λ_=>trivial⟩
 |x::xs,vs,h=>by
  simp[l7]at h;split at h;rename_i v e h1 d;cases h;obtain⟨p,v1,a1,a2,a3⟩:=cE he av h1;obtain⟨q,a,b1,b2,c⟩:=uV he av d;exact⟨p/\q,v1::a,by grind[ix],.cons a2 b2,λb=>⟨a3 b,c b⟩⟩;grind
theorem p6(h:cb N σ v v1)(a:qp v=some cs):∃b,qm v1=some b/\bc (cy N σ) cs b:=by
 cases h with
 |c h=>simp[qp]at a;subst a;exact⟨_,rfl,.cons h .nil⟩
 |agg h=>simp[qp]at a;subst a;exact⟨_,rfl,h⟩
 |bd=>grind[qp]
theorem Ji{a:I (bB U)}{b c:I C}(h:bc (cy N σ) cs b)(d:bc (cy N σ) a c):bc (cy N σ) (yr cs o a) (wq b o c):=by
 unfold yr wq;rw[d.length];exact((h.take o).append d).append (h.drop _)
theorem iH{a b:Nat}(h:Nat.ble a b):a<=b:=vi h
theorem Mx(he:df N σ G env env1)(av:hI gl env G):∀{ps:I (Nat×Nat×aV)} {cs c:I (bB U)} {b:I C},Bo gl gd env cs ps=some c->bc (cy N σ) cs b->
 ∃p d,lO env1 b ps=some (p,d)/\bc (cy N σ) c d/\(cY env G gd->p)
 |[],cs,c,b,h,a=>by simp[Bo]at h;subst h;exact⟨True,b,rfl,a,λ_=>trivial⟩
 |(o,n,x)::r,cs,c,b,h,a=>by
  simp[Bo]at h;split at h;grind
  . rename_i v g;split at h
    grind
    . rename_i es f;split at h
      rename_i e;simp only[dr]at e;have i:=dh e.1;have j:=iH e.2;obtain⟨p,v1,a1,a2,a3⟩:=cE he av g;obtain⟨fs,b1,b2⟩:=p6 a2 f;obtain⟨q,d,c1,c2,c3⟩:=Mx he av h (Ji a b2);refine⟨p/\q,d,?_,c2,λa=>⟨a3 a,c3 a⟩⟩;simp only[lO,a1,ay,b1];rw[ag ⟨by rw[<-b2.length];grind,by rw[<-a.length];grind⟩,c1];rfl;grind
theorem aez{d:C}{t:T}(h:cy N σ x d)(ht:x.toT=some t):Shv.toT d=some t:=by
 cases h<;>simp[bB.toT]at ht
 . split at ht
   grind;cases ht;rfl
 subst ht;rfl
theorem AH:∀{cs:I (bB U)} {a:I C} {ts:I T},bc (cy N σ) cs a->iB cs=some ts->toTs a=some ts
 |[],[],ts,_,h=>by simp[iB]at h;subst h;rfl
 |c::cs,d::a,ts,.cons h1 b,h=>by
  simp[iB]at h;split at h;rename_i t f ht e;cases h;simp[toTs,aez h1 ht,AH b e];grind
theorem Kq:∀{cs:I (bB U)} {ts:I T},iB cs=some ts->ts.length=cs.length
 |[],ts,h=>by grind[iB]
 |c::cs,ts,h=>by
  simp[iB]at h;split at h;rename_i t b ht a;cases h;simp[Kq a];grind
theorem bc.set{α c:Type}{R:α->c->Prop}{l:I α}{m:I c}(h:bc R l m){i:Nat}{a:α}{b:c}(f:R a b):bc R (l.set i a) (m.set i b):=by
 induction h generalizing i with
 |nil=>exact .nil
 |cons h1 e ih=>cases i with
  |zero=>exact .cons f e
  |succ i=>exact .cons h1 ih
theorem I7(he:df N σ G env env1)(av:hI gl env G){sz:Nat}:∀{ps:I (Nat×aV)} {a b:I (I (bB U))} {es:I (I T)},xA gl gd env sz a ps=some b->
 bc (λr e=>iB r=some e) a es->(∀r,r∈a->r.length=sz)->∃p c,kg env1 sz es ps=some (p,c)/\bc (λr e=>iB r=some e) b c/\(∀r,r∈b->r.length=sz)/\(cY env G gd->p)
 |[],a,b,es,h,d,ak=>by simp[xA]at h;subst h;exact⟨True,es,rfl,d,ak,λ_=>trivial⟩
 |(i,x)::ps,a,b,es,h,d,ak=>by
  simp[xA]at h;split at h;grind
  . rename_i v l;split at h
    grind
    . rename_i cs k;split at h
      grind
      . rename_i ts j;split at h
        rename_i f;simp only[dr]at f;have n:=dh f.1;have o:=iH f.2;obtain⟨p,v1,a1,a2,a3⟩:=cE he av l;obtain⟨m,b1,b2⟩:=p6 a2 k;obtain⟨q,c,c1,c2,c4,c3⟩:=I7 he av h (bc.set d j) (by grind);refine⟨p/\q,c,?_,c2,c4,λg=>⟨a3 g,c3 g⟩⟩;simp only[kg,a1,ay,b1,AH b2 j];rw[ag ⟨by grind[Kq],by rw[<-d.length];omega⟩,c1];rfl;grind
end
end
section
open Go
variable {U:c0}
structure ew (N:Nat)(σ:bm U)(σ1:bh)(o:db)(env1:Env)(g c:Bool)(v:bU U)(σ':bm U):Prop where
 val:∃v1,cb (N+16) σ' v v1/\(g=true->c=true->∃p bE,aU o env1 σ1 N=some (p,v1,bE)/\p/\cH (N+16) σ' bE)
 amh:dI N σ (N+16) σ'
 ak1:o.cG->σ'=σ
variable{v1:V}{o:db}{cs:I (bB U)}{agg:J}{α:Type}{t:aO}{ts:I T}{σ1:bh}{x y:aV}{off:Nat}{es:I (I T)}{e:gT U}{R:α->α->Prop}
section
variable {N N':Nat}{σ σ':bm U}{σ1:bh}{env:b8 U}{env1:Env}{G:Nat->J}{gl:eY}{gd:ai (Nat×J)}{c:J}{v:bU U}
theorem cH.mono(h:cH N σ σ1)(cM:N<=N'):cH N' σ σ1:=λb x aa=>
 let⟨h1,y,a,c⟩:=h b x aa;⟨j0 h1 cM,y,a,c.mono (dI.more cM)⟩
theorem ew.cG{g:J}(aH:cH N σ σ1)(j:cb N σ v v1)(e:g=true->c=true->∃p,aU o env1 σ1 N=some (p,v1,σ1)/\p):ew N σ σ1 o env1 g c v σ:=
 ⟨⟨v1,j.mono (dI.more (by simp)),λav f=>let⟨p,h1,a⟩:=e av f;⟨p,σ1,h1,a,aH.mono (by simp)⟩⟩,dI.more (by simp),λ_=>rfl⟩
theorem ew.store{g:J}(aL:o.cG=false)(e:dI N σ (N+16) σ')(f:cb (N+16) σ' v v1)(a:g=true->c=true->∃p bE,aU o env1 σ1 N=some (p,v1,bE)/\p/\cH (N+16) σ' bE):ew N σ σ1 o env1 g c v σ':=
 ⟨⟨v1,f,a⟩,e,λh=>by grind⟩
theorem wX{k o:Nat}{b:I C}(a:bc (cy N σ) cs b)(h:su agg k cs o=some v):∃v1,kn agg k b o=some v1/\cb N σ v v1:=by
 unfold su at h;split at h
 . split at h
   cases h;refine⟨_,by simp only[kn,cg];rw[ag (by rw[<-a.length];simp_all)],.agg ((a.drop o).take k)⟩;grind
 . split at h
   rename_i x aa;cases h;obtain⟨d,h1,e⟩:=a.get aa;exact⟨_,by grind[kn],.c e⟩;grind
theorem bc.map_map{c γ e:Type}{R:γ->e->Prop}{f:α->γ}{g:c->e}:∀{l:I α} {m:I c},bc (λa b=>R (f a) (g b)) l m->bc R (l.map f) (m.map g)
 |[],[],_=>.nil
 |_::_,_::_,.cons h1 j=>.cons h1 (bc.map_map j)
theorem bc.self(h:∀a,R a a):∀(l:I α),bc R l l
 |[]=>.nil
 |a::l=>.cons (h a) (bc.self h l)
theorem AI{x:t.den U.D}:bc (cy N σ) ((t.row U x).map .t) ((t.enc U x).map .t):=by
 rw[aO.wk,List.map_map];exact bc.map_map (bc.self (λc=>cy.t c) _)
theorem JZ{k o:Nat}{v:V}(ak:kn agg k (ts.map .t) o=some v):loadT agg k ts o=some v:=by
 unfold kn at ak;unfold loadT;cases agg<;>simp_all
theorem adr{op:BinOp}{p q:bZ U.D}{r:bZ U.D}(h:Jr op p q=some (c,r)):∃d,rj op (p.enc U) (q.enc U)=some (d,r.enc U)/\(c=true->d):=by
 unfold Jr at h;split at h
 . rename_i k a e b;show ∃d,rj op (.int k a) (.int e b)=some (d,r.enc U)/\(c=true->d);cases op<;>simp only[WV,reduceCtorEq,e2]at h
   all_goals first
    |(obtain⟨rfl,rfl,rfl⟩:=h;exact⟨_,by simp only[rj];rfl,λh=>by simpa using h⟩)
    |(obtain⟨rfl,rfl⟩:=h)
    |(obtain⟨rfl,rfl,rfl⟩:=h)
 . rename_i a b;cases op<;>simp only[WW,eB]at h
   all_goals first
    |(obtain⟨rfl,rfl⟩:=h;exact⟨_,by rfl,λh=>by simpa using h⟩)
    |(obtain⟨rfl,rfl⟩:=h)
 cases h
theorem ads{k:Nat}{x y:bZ U.D}{b:J}(h:Jv k x y=some b):y7 k (x.enc U) (y.enc U)=some b:=by
 unfold Jv at h;split at h;cases h;rfl;simp at h;obtain⟨rfl,rfl⟩:=h;show(if _ then _ else _)=_;rw[ag rfl];rfl;cases h;rfl;grind
theorem Ml:∀{ks:bb} {xs c:I (bB U)} {a es:I C} {b:J},Cp ks xs c=some b->bc (cy N σ) xs a->bc (cy N σ) c es->lU ks a es=some b
 |[],[],[],[],[],b,h,.nil,.nil=>by simp[Cp]at h;subst h;rfl
 |k::ks,.t x::xs,.t y::c,d::a,e::es,b,h,.cons h1 f,.cons g i=>by
  simp[Cp]at h;split at h;rename_i b1 r j l;cases h;cases h1;cases g;simp[lU,ads j,Ml l f i];grind
theorem Mm{a b:au}:(v8 a b).length=a.length+b.length:=ea
theorem af0{a b:Int}:eZ a b↔a=b:=by simp[eZ]
theorem sn{m:Int}{n:Nat}:aG m n↔0<=m/\m.toNat<n:=by simp[aG]
theorem jj{b a:Int}{n:Nat}:fI b a n↔0<=b/\b<=a/\a<=n:=by simp[fI]
theorem ag1{s:I (t.den U.D)}{l r:ai Int}{a pl b:Prop}{sz:Nat}:
 (some (a/\pl/\b/\0<=l.getD 0/\l.getD 0<=r.getD ((List.map (t.enc U) s).length:Int)/\r.getD ((List.map (t.enc U) s).length:Int)<=((List.map (t.enc U) s).length:Int)/\∀e,e∈List.map (t.enc U) s->e.length=sz,
  V.c (C.t (T.slice (((List.map (t.enc U) s).take (r.getD ((List.map (t.enc U) s).length:Int)).toNat).drop (l.getD 0).toNat))),σ1):Ct)=
 some (a/\pl/\b/\0<=l.getD 0/\l.getD 0<=r.getD (s.length:Int)/\r.getD (s.length:Int)<=(s.length:Int)/\∀e,e∈List.map (t.enc U) s->e.length=sz,
  V.c (C.t (bZ.enc U ⟨.slice t,hd s (l.getD 0) (r.getD (s.length:Int))⟩)),σ1):=by
 have:bZ.enc U ⟨.slice t,hd s (l.getD 0) (r.getD s.length)⟩=T.slice (List.map (t.enc U) _):=rfl;grind[hd,List.map_drop,List.map_take]
variable{a:Type}{f:α->a}
theorem ag2{l:I α}{p:Prop}:(some (p,V.c (C.t (T.int .i64 ((l.map f).length:Int))),σ1):Ct)=some (p,V.c (C.t (.int .i64 (l.length:Int))),σ1):=by simp
theorem xB{l:I α}{i:Nat}(h:i<l.length):i<(l.map f).length:=by grind
theorem bc.replicate{c:Type}{R:α->c->Prop}{a:α}{b:c}(h:R a b):∀n:Nat,bc R (List.replicate n a) (List.replicate n b)
 |0=>.nil
 |n+1=>.cons h (bc.replicate h n)
theorem Jw:∀{xs:I (bB U)} {dR:I aO} {es:I C} {row:I (bZ U.D)},ji dR xs=some row->bc (cy N σ) xs es->toTs es=some (row.map (bZ.enc U))
 |[],dR,es,row,h1,a=>by
  cases a;cases dR<;>simp[ji]at h1;subst h1;rfl
 |y::e,[],es,row,h1,a=>by grind[ji]
 |y::e,ty::dR,_::_,row,h1,.cons a d=>by
  cases a with
  |t c=>cases ty<;>simp only[ji]at h1<;>(split at h1<;>first|(cases h1;done)|(rename_i q b;cases h1;simp[toTs,toT,Jw b d]))
  |bX=>
   cases ty<;>simp[ji]at h1;split at h1;rename_i q b;cases h1;simp[toTs,Jw b d];rfl;grind
  |_=>grind[ji]
theorem M4{sz:Nat}:∀{ps:I (Nat×aV)} {es c:I (I T)} {p:Prop},kg env1 sz es ps=some (p,c)->c.length=es.length
 |[],es,c,p,h=>by grind[kg]
 |(i,x)::ps,es,c,p,h=>by
  simp only[kg,bz,e2,bL]at h;obtain⟨a,_,cs,_,ts,_,_,b,d,_,rfl⟩:=h;have:=M4 d;grind
theorem Kr{l k:I (t.den U.D)}{i o:Nat}{d:I C}(h:s6 U t l i o cs=some k)(n:i<l.length)(g:bc (cy N σ) cs d)(y:o+cs.length<=t.sz U):
 ∃ts,toTs d=some ts/\k.map (t.enc U)=(l.map (t.enc U)).set i ((el (l.map (t.enc U)) i).take o++ts++(el (l.map (t.enc U)) i).drop (o+cs.length)):=by
 unfold s6 at h;split at h
 . rename_i x aa;cases h;unfold ra at aa;split at aa
   . rename_i row u;have s:=aO.Hl aa;have key:=@Jw U N σ;have v:bc (cy N σ) ((t.row U (t.at U l i)).map .t) _:=AI;have m:=Ji (o:=o) v g;have h1:=key u m;have f:∀{a b:I C} {r:I T},toTs (a++b)=some r->∃p q,toTs a=some p/\toTs b=some q/\r=p++q:=by
      intro a;induction a with
      |nil=>intro b r h;exact⟨[],r,rfl,h,rfl⟩
      |cons c a ih=>
       intro b r h;simp[toTs,bz,bL]at h;grind[toTs]
     have j:∀(ts:I T),toTs (ts.map .t)=some ts:=by
      intro ts;induction ts with
      |nil=>rfl
      |cons a ts ih=>grind[toTs,toT]
     obtain⟨p,q,aK,e,dB⟩:=f h1;obtain⟨z,w,f1,f2,f3⟩:=f aK;rw[<-List.map_take,j]at f1;cases f1;rw[<-List.map_drop,j]at e;cases e;refine⟨w,f2,?_⟩;rw[List.map_set,Bn n,aO.wk,s,dB,f3,g.length]
   grind
 grind
variable (he:df N σ G env env1)(av:hI gl env G)(aH:cH N σ σ1)
section
include he av aH
theorem alX(h:cI gl gd env σ N (.mov x)=some (c,v,σ')):ew N σ σ1 (.mov x) env1 (cY env G gd) c v σ':=by
 simp[cI]at h;split at h;rename_i w b;cases h;obtain⟨p,v1,a1,a2,a3⟩:=cE he av b;exact .cG aH a2 λa _=>⟨p,by grind[aU],a3 a⟩;grind
theorem ag3{z:aV}(h:cI gl gd env σ N (.pick x y z)=some (c,v,σ')):ew N σ σ1 (.pick x y z) env1 (cY env G gd) c v σ':=by
 simp[cI]at h;split at h;rename_i b p q h1 e f;cases h;obtain⟨g,v1,a1,a2,a3⟩:=cE he av h1;obtain⟨i,v2,b1,b2,d⟩:=OG he av h1 rfl e;obtain⟨j,v3,c1,c2,c3⟩:=OG he av h1 rfl f;have:=a2.jO;subst this;have:=b2.jO;subst this;have:=c2.jO;subst this;refine .cG aH (.c (.t _)) λa _=>⟨g/\(b=true->i)/\(b=false->j),by simp only[aU,a1,b1,c1];rfl,a3 a,d a,c3 a⟩;grind
theorem adt(h:cI gl gd env σ N (.nilCheck x)=some (c,v,σ')):ew N σ σ1 (.nilCheck x) env1 (cY env G gd) c v σ':=by
 simp[cI]at h;split at h;rename_i b o d;cases h;obtain⟨p,v1,a1,a2,a3⟩:=cE he av d;have:=a2.hQ;subst this;exact .cG aH a2 λa _=>⟨p,by simp[aU,a1],a3 a⟩;rename_i b t i o d;cases h;obtain⟨p,v1,a1,a2,a3⟩:=cE he av d;have:=a2.jB;subst this;exact .cG aH a2 λa _=>⟨p,by simp[aU,a1],a3 a⟩;rename_i t e o d;cases h;obtain⟨p,v1,a1,a2,a3⟩:=cE he av d;have:=a2.Hc;subst this;exact .cG aH a2 λa _=>⟨p,by simp[aU,a1],a3 a⟩;grind
theorem alY(h:cI gl gd env σ N (.not x)=some (c,v,σ')):ew N σ σ1 (.not x) env1 (cY env G gd) c v σ':=by
 simp[cI]at h;split at h;rename_i b d;cases h;obtain⟨p,v1,a1,a2,a3⟩:=cE he av d;have:=a2.jO;subst this;exact .cG aH (.c (.t _)) λa _=>⟨p,by simp[aU,a1];rfl,a3 a⟩;grind
theorem ag4{k:IntKind}(h:cI gl gd env σ N (.conv k x)=some (c,v,σ')):ew N σ σ1 (.conv k x) env1 (cY env G gd) c v σ':=by
 simp only[cI]at h;split at h;rename_i d m b;cases h;obtain⟨p,v1,a1,a2,a3⟩:=cE he av b;have:=a2.gh;subst this;exact .cG aH (.c (.t _)) λa _=>⟨p,by simp[aU,a1];rfl,a3 a⟩;grind
theorem alV(h:cI gl gd env σ N (.i2s x)=some (c,v,σ')):ew N σ σ1 (.i2s x) env1 (cY env G gd) c v σ':=by
 simp[cI]at h;split at h;rename_i d m b;cases h;obtain⟨p,v1,a1,a2,a3⟩:=cE he av b;have:=a2.gh;subst this;exact .cG aH (.c (.t _)) λa _=>⟨p,by simp[aU,a1];rfl,a3 a⟩;grind
theorem alZ(h:cI gl gd env σ N (.s2s x)=some (c,v,σ')):ew N σ σ1 (.s2s x) env1 (cY env G gd) c v σ':=by
 simp[cI]at h;split at h;rename_i s b;cases h;obtain⟨p,v1,a1,a2,a3⟩:=cE he av b;have:=a2.kU;subst this;exact .cG aH a2 λa _=>⟨p,by simp[aU,a1],a3 a⟩;grind
theorem ag5(h:cI gl gd env σ N (.fldA off x)=some (c,v,σ')):ew N σ σ1 (.fldA off x) env1 (cY env G gd) c v σ':=by
 simp[cI]at h;split at h;rename_i b o d;cases h;obtain⟨p,v1,a1,a2,a3⟩:=cE he av d;have:=a2.hQ;subst this;exact .cG aH (.c (.ptr _ _)) λa _=>⟨p,by simp[aU,a1],a3 a⟩;rename_i b t i o d;cases h;obtain⟨p,v1,a1,a2,a3⟩:=cE he av d;have:=a2.jB;subst this;exact .cG aH (.c (.c9 _ _ _ _)) λa _=>⟨p,by simp[aU,a1],a3 a⟩;rename_i t e o d;cases h;obtain⟨p,v1,a1,a2,a3⟩:=cE he av d;have:=a2.Hc;subst this;exact .cG aH (.c (.ep _ _ _)) λa _=>⟨p,by simp[aU,a1],a3 a⟩;grind
theorem alU{k:Nat}(h:cI gl gd env σ N (.fld agg off k x)=some (c,v,σ')):ew N σ σ1 (.fld agg off k x) env1 (cY env G gd) c v σ':=by
 simp[cI]at h;split at h
 . rename_i cs b;split at h
   rename_i w ak;cases h;obtain⟨p,v1,a1,a2,a3⟩:=cE he av b;obtain⟨d,rfl,b2⟩:=a2.mb;obtain⟨v2,c1,c2⟩:=wX b2 ak;exact .cG aH c2 λa _=>⟨p,by grind[aU],a3 a⟩;grind
 grind
theorem ag6{k:Nat}(h:cI gl gd env σ N (.load agg k x)=some (c,v,σ')):ew N σ σ1 (.load agg k x) env1 (cY env G gd) c v σ':=by
 simp only[cI]at h;split at h
 . rename_i b o g;split at h
   . rename_i cs f;split at h
     . rename_i w ak;cases h;obtain⟨p,v1,a1,a2,a3⟩:=cE he av g;have:=a2.hQ;subst this;obtain⟨_,y,b1,b2⟩:=aH b _ f;cases b2 with
       |box b2=>
        obtain⟨v2,c1,c2⟩:=wX b2 ak;exact .cG aH c2 λa _=>⟨p,by simp[aU,a1,b1,c1],a3 a⟩
     cases h
   . rename_i E r f;split at h
     . cases h;obtain⟨p,v1,a1,a2,a3⟩:=cE he av g;have:=a2.hQ;subst this;obtain⟨_,y,b1,b2⟩:=aH b _ f;cases b2 with
       |cu b2=>exact .cG aH (.c b2) λa _=>⟨p,by simp[aU,a1,b1],a3 a⟩
     cases h
   cases h
 . rename_i b t i o g;split at h
   . rename_i q u f;split at h
     . rename_i l ak;have e:=bZ.kA ak;split at h
       . rename_i w m;cases h;obtain⟨p,v1,a1,a2,a3⟩:=cE he av g;have:=a2.jB;subst this;obtain⟨_,y,b1,b2⟩:=aH b _ f;cases b2 with
         |arr=>
          obtain⟨v2,c1,c2⟩:=wX AI m;refine .cG aH c2 λa d=>⟨p/\t.sz U=t.sz U/\i<(List.map (t.enc U) l).length,?_,a3 a,rfl,xB (hx d)⟩;simp only[gP]at d;grind[JZ,aU,Bn]
       cases h
     cases h
   . rename_i q u s z r f;split at h
     cases h
     . split at h
       . rename_i j;split at h
         . rename_i n;cases h;have j:=dh j;have n:=dh n;subst j;obtain⟨p,v1,a1,a2,a3⟩:=cE he av g;have:=a2.jB;subst this;obtain⟨_,y,b1,b2⟩:=aH b _ f;cases b2 with
           |cV _ _ _ _ b2=>
            refine .cG aH (.c b2) λa d=>⟨p/\t.sz U=q.sz U/\i=s,?_,a3 a,n,hx d⟩;simp only[aU,a1,ay,b1];simp
         cases h
       . rename_i j;have j:=iG j;split at h
         . rename_i l ak;have e:=bZ.kA ak;cases e;split at h
           . rename_i w m;cases h;obtain⟨p,v1,a1,a2,a3⟩:=cE he av g;have:=a2.jB;subst this;obtain⟨_,y,b1,b2⟩:=aH b _ f;cases b2 with
             |cV _ _ _ _ b2=>
              obtain⟨v2,c1,c2⟩:=wX AI m;refine .cG aH c2 λa d=>⟨p/\t.sz U=t.sz U/\i<(List.map (t.enc U) l).length,?_,a3 a,rfl,xB (hx d)⟩;simp only[gP]at d;have c1:=JZ c1;simp only[aU,a1,ay,b1];rw[cN,aq j,Bn d,c1];rfl
           cases h
         cases h
   cases h
 . rename_i t A o g;split at h
   rename_i w ak;cases h;obtain⟨p,v1,a1,a2,a3⟩:=cE he av g;have:=a2.Hc;subst this;obtain⟨v2,c1,c2⟩:=wX AI ak;have c1:=JZ c1;exact .cG aH c2 λa _=>⟨p,by simp[aU,a1,c1],a3 a⟩;cases h
 grind
theorem alR{op:BinOp}(h:cI gl gd env σ N (.bin op x y)=some (c,v,σ')):ew N σ σ1 (.bin op x y) env1 (cY env G gd) c v σ':=by
 simp[cI]at h;split at h
 . rename_i p q ar e;split at h
   rename_i k r f;cases h;obtain⟨g,v1,a1,a2,a3⟩:=cE he av ar;obtain⟨i,v2,b1,b2,b⟩:=cE he av e;have:=a2.ym;have:=b2.ym;obtain⟨j,d1,d2⟩:=adr f;exact .cG aH (.c (.t _)) λa d=>⟨g/\i/\j,by grind[aU],a3 a,b a,d2 d⟩;grind
 grind
theorem af1{neg:J}{ks:bb}(h:cI gl gd env σ N (.eqAgg neg ks x y)=some (c,v,σ')):ew N σ σ1 (.eqAgg neg ks x y) env1 (cY env G gd) c v σ':=by
 simp[cI]at h;split at h
 . rename_i p q ar e;split at h
   rename_i r f;cases h;obtain⟨g,v1,a1,a2,a3⟩:=cE he av ar;obtain⟨i,v2,b1,b2,b⟩:=cE he av e;obtain⟨j,rfl,d2⟩:=a2.mb;obtain⟨es,rfl,d⟩:=b2.mb;have:=Ml f d2 d;exact .cG aH (.c (.t _)) λa k=>⟨g/\i,by simp[aU,a1,b1,this];cases neg<;>rfl,a3 a,b a⟩;cases h
 cases h
theorem ae4{neg:J}(h:cI gl gd env σ N (.eqBool neg x y)=some (c,v,σ')):ew N σ σ1 (.eqBool neg x y) env1 (cY env G gd) c v σ':=by
 simp[cI]at h;split at h;rename_i p q ar d;cases h;obtain⟨e,v1,a1,a2,a3⟩:=cE he av ar;obtain⟨f,v2,b1,b2,b⟩:=cE he av d;have:=a2.jO;subst this;have:=b2.jO;subst this;exact .cG aH (.c (.t _)) λa g=>⟨e/\f,by simp only[aU,a1,b1];cases neg<;>rfl,a3 a,b a⟩;grind
theorem ag7{sz:Nat}(h:cI gl gd env σ N (.idxA sz x y)=some (c,v,σ')):ew N σ σ1 (.idxA sz x y) env1 (cY env G gd) c v σ':=by
 simp[cI]at h;split at h
 . rename_i t l k m ar i;split at h
   . rename_i d;have d:=dh d;cases h;obtain⟨j,v1,a1,a2,a3⟩:=cE he av ar;obtain⟨o,v2,b1,b2,f⟩:=cE he av i;have:=a2.j5;subst this;have:=b2.gh;subst this;by_cases p:aG m (List.length l)=true
     . obtain⟨h1,g⟩:=sn.1 p;refine .cG aH (v1:= .c (.ep (el (List.map (t.enc U) l) (Int.toNat m)) 0)) ?_ λa e=>⟨j/\o/\(0:Int)<=m/\Int.toNat m<(List.map (t.enc U) l).length/\(el (List.map (t.enc U) l) (Int.toNat m)).length=sz,by simp only[aU,a1,b1,ay],a3 a,f a,h1,xB g,by rw[Bn g,aO.tA];exact d⟩
       rw[Bn g];exact .c (.ep _ _ _)
     exact .cG aH (.c (.ep _ _ _)) λa e=>absurd e p
   cases h
 . rename_i b k m ar i;split at h
   . rename_i t l q;split at h
     . rename_i d;have d:=dh d;cases h;obtain⟨j,v1,a1,a2,a3⟩:=cE he av ar;obtain⟨o,v2,b1,b2,f⟩:=cE he av i;obtain⟨s,n,rfl,r,a⟩:=a2.hZ;have:=b2.gh;subst this;have:=a _ q _ rfl;cases this;refine .cG aH (.c (.c9 _ _ _ _)) λa e=>⟨j/\o/\(0:Int)<=m/\Int.toNat m<l.length/\sz=t.sz U,?_,a3 a,f a,(sn.1 e).1,(sn.1 e).2,d.symm⟩
       simp only[aU,a1,b1,ay,iy,d]
     cases h
   cases h
 grind
theorem ag8(h:cI gl gd env σ N (.idxS x y)=some (c,v,σ')):ew N σ σ1 (.idxS x y) env1 (cY env G gd) c v σ':=by
 simp[cI]at h;split at h;rename_i s k m ar e;cases h;obtain⟨f,v1,a1,a2,a3⟩:=cE he av ar;obtain⟨g,v2,b1,b2,d⟩:=cE he av e;have:=a2.kU;subst this;have:=b2.gh;subst this;exact .cG aH (.c (.t _)) λb a=>⟨f/\g/\(0:Int)<=m/\Int.toNat m<List.length s,by simp only[aU,a1,b1];rfl,a3 b,d b,(sn.1 a).1,(sn.1 a).2⟩;grind
theorem p7{x:ai aV}{l:ai Int}(h:o2 gl gd env x=some l):∃p,km env1 x=some (p,l)/\(cY env G gd->p):=by
 unfold o2 at h;split at h;cases h;exact⟨True,rfl,λ_=>trivial⟩
 . split at h
   rename_i k n aa;cases h;obtain⟨a,v1,a1,a2,a3⟩:=cE he av aa;have:=a2.gh;subst this;exact⟨a,by simp[km,a1],a3⟩;grind
theorem ag9{d b:ai aV}(h:cI gl gd env σ N (.slcS x d b)=some (c,v,σ')):ew N σ σ1 (.slcS x d b) env1 (cY env G gd) c v σ':=by
 simp[cI]at h;split at h;rename_i s l r ar ak f;cases h;obtain⟨i,v1,a1,a2,a3⟩:=cE he av ar;obtain⟨pl,g,l2⟩:=p7 he av aH ak;obtain⟨j,k,m⟩:=p7 he av aH f;have:=a2.kU;subst this;exact .cG aH (.c (.t _)) λa e=>⟨i/\pl/\j/\0<=l.getD 0/\l.getD 0<=r.getD _/\r.getD _<=List.length s,by simp[aU,a1,g,k];rfl,a3 a,l2 a,m a,jj.1 e⟩;grind
theorem al0{sz:Nat}{i B:ai aV}(h:cI gl gd env σ N (.slc sz x i B)=some (c,v,σ')):ew N σ σ1 (.slc sz x i B) env1 (cY env G gd) c v σ':=by
 simp only[cI]at h;split at h
 . rename_i t s l r ar ak j;split at h
   . rename_i d;have d:=dh d;cases h;obtain⟨k,v1,a1,a2,a3⟩:=cE he av ar;obtain⟨pl,z,l2⟩:=p7 he av aH ak;obtain⟨m,q,o⟩:=p7 he av aH j;have:=a2.j5;subst this;refine .cG aH (.c (.t (U:=U) ⟨.slice t,_⟩)) λf a=>⟨k/\pl/\m/\0<=l.getD 0/\l.getD 0<=r.getD (List.length s:Int)/\r.getD (List.length s:Int)<=(List.length s:Int)/\∀e,e∈List.map (t.enc U) s->e.length=sz,?_,a3 f,l2 f,o f,(jj.1 a).1,(jj.1 a).2.1,(jj.1 a).2.2,?_⟩
     simp only[aU,a1,z,q,ay];exact ag1;grind[aO.tA]
   grind
 . rename_i b r ar ak j;split at h
   . rename_i t s u;split at h
     . rename_i d;have d:=dh d;cases h;obtain⟨k,v1,a1,a2,a3⟩:=cE he av ar;obtain⟨m,q,o⟩:=p7 he av aH j;obtain⟨C,n,rfl,w,f⟩:=a2.hZ;have A:=f _ u (t.sz U,s.length) rfl;have y:i=none:=by
        cases i with
        |none=>rfl
        |some x=>grind[o2]
       subst y;refine .cG aH (.c (.pre b (t.sz U) _ w λx aa p ar=>?_)) λg a=>⟨k/\True/\m/\0<=(none:ai Int).getD 0/\(none:ai Int).getD 0<=r.getD (List.length s:Int)/\r.getD (List.length s:Int)<=(List.length s:Int)/\sz=t.sz U,?_,a3 g,trivial,o g,(jj.1 a).1,(jj.1 a).2.1,(jj.1 a).2.2,d.symm⟩;grind;have D:km env1 none=some (True,none):=rfl;grind[aU]
     grind
   grind
 . rename_i b l r ar ak j;split at h
   . rename_i t s u;split at h
     . rename_i d;have d:=dh d;cases h;obtain⟨k,v1,a1,a2,a3⟩:=cE he av ar;obtain⟨pl,z,l2⟩:=p7 he av aH ak;obtain⟨m,q,o⟩:=p7 he av aH j;obtain⟨C,n,rfl,w,f⟩:=a2.hZ;have A:=f _ u (t.sz U,s.length) rfl;obtain⟨rfl,rfl⟩:=A;have y:i.isNone=false:=by
        cases i with
        |none=>simp[o2]at ak
        |some x=>rfl
       refine .cG aH (.c (.hT b (t.sz U) _ _ w λx aa p ar=>?_)) λg a=>⟨k/\pl/\m/\0<=(some l:ai Int).getD 0/\(some l:ai Int).getD 0<=r.getD (List.length s:Int)/\r.getD (List.length s:Int)<=(List.length s:Int)/\sz=t.sz U,?_,a3 g,l2 g,o g,(jj.1 a).1,(jj.1 a).2.1,(jj.1 a).2.2,d.symm⟩;grind;simp only[aU,a1,z,q,ay,y,cm,cw,iy];rfl
     grind
   grind
 grind
theorem ag'(h:cI gl gd env σ N (.slc0 x)=some (c,v,σ')):ew N σ σ1 (.slc0 x) env1 (cY env G gd) c v σ':=by
 simp[cI]at h;split at h;rename_i t l d;cases h;obtain⟨p,v1,a1,a2,a3⟩:=cE he av d;have:=a2.j5;subst this;exact .cG aH (.c .bX) λa _=>⟨p,by simp[aU,a1],a3 a⟩;rename_i d;cases h;obtain⟨p,v1,a1,a2,a3⟩:=cE he av d;have:=a2.v7;subst this;exact .cG aH (.c .bX) λa _=>⟨p,by simp[aU,a1],a3 a⟩;rename_i b d;cases h;obtain⟨p,v1,a1,a2,a3⟩:=cE he av d;obtain⟨sz,n,rfl,_⟩:=a2.hZ;exact .cG aH (.c .bX) λa _=>⟨p,by simp[aU,a1],a3 a⟩;grind
theorem NK:∀{vs:I (bU U)} {a:I V} {l:bb},Cn vs=some l->bc (cb N σ) vs a->aU.tl a=some l
 |[],[],l,h,.nil=>by simp[Cn]at h;subst h;rfl
 |.c (.ptr b 0)::vs,d::a,l,h,.cons h1 e=>by
  simp only[Cn]at h;split at h;rename_i f ak;cases h;have:=h1.hQ;subst this;simp[aU.tl,NK ak e];grind
theorem aha{f:Nat}{caps:I aV}(h:cI gl gd env σ N (.mkfn f caps)=some (c,v,σ')):ew N σ σ1 (.mkfn f caps) env1 (cY env G gd) c v σ':=by
 simp[cI]at h;split at h
 . rename_i vs b;split at h
   rename_i l ak;cases h;obtain⟨p,d,a1,a2,a3⟩:=uV he av b;exact .cG aH (.c (.fn _ _)) λa _=>⟨p,by simp[aU,a1,NK he av aH ak a2],a3 a⟩;cases h
 grind
theorem alT{i:Nat}(h:cI gl gd env σ N (.ext x i)=some (c,v,σ')):ew N σ σ1 (.ext x i) env1 (cY env G gd) c v σ':=by
 simp[cI]at h;split at h
 . rename_i vs f;split at h
   . rename_i w a;cases h;obtain⟨p,v1,a1,a2,a3⟩:=cE he av f;cases a2 with
     |bd _ b ak d=>
      have g:=(ev.1 a).1;have e:=fm (l:=b) (i:=i) (by omega);exact .cG aH (d i _ _ a e) λav _=>⟨p,by grind[aU],a3 av⟩
   grind
 grind
theorem ahb(h:cI gl gd env σ N (.max2 x y)=some (c,v,σ')):ew N σ σ1 (.max2 x y) env1 (cY env G gd) c v σ':=by
 simp only[cI]at h;split at h;rename_i k a l b ar f;simp at h;obtain⟨rfl,rfl,rfl,rfl⟩:=h;obtain⟨g,v1,a1,a2,a3⟩:=cE he av ar;obtain⟨i,v2,b1,b2,e⟩:=cE he av f;have:=a2.gh;subst this;have:=b2.gh;subst this;exact .cG aH (.c (.t (U:=U) _)) λd j=>⟨g/\i,by simp[aU,a1,b1];rfl,a3 d,e d⟩;grind
theorem ahc(h:cI gl gd env σ N (.min2 x y)=some (c,v,σ')):ew N σ σ1 (.min2 x y) env1 (cY env G gd) c v σ':=by
 simp[cI]at h;split at h;rename_i k a l b ar f;simp at h;obtain⟨rfl,rfl,rfl,rfl⟩:=h;obtain⟨g,v1,a1,a2,a3⟩:=cE he av ar;obtain⟨i,v2,b1,b2,e⟩:=cE he av f;have:=a2.gh;subst this;have:=b2.gh;subst this;exact .cG aH (.c (.t _)) λd j=>⟨g/\i,by simp only[aU,a1,b1,ay];rfl,a3 d,e d⟩;grind
theorem af2{z:I C}{parts:I (Nat×Nat×aV)}(h:cI gl gd env σ N (.build z parts)=some (c,v,σ')):ew N σ σ1 (.build z parts) env1 (cY env G gd) c v σ':=by
 simp[cI]at h;split at h
 . rename_i f d;split at h
   rename_i cs a;cases h;obtain⟨p,e,a1,a2,a3⟩:=Mx he av a (r0 d);exact .cG aH (.agg a2) λb _=>⟨p,by grind[aU],a3 b⟩;grind
 grind
theorem af3{cs:I C}(h:cI gl gd env σ N (.alloc cs)=some (c,v,σ')):ew N σ σ1 (.alloc cs) env1 (cY env G gd) c v σ':=by
 simp[cI]at h;split at h;rename_i xs a;cases h;have k:dI N σ (N+16) (cW σ N (.box xs)):=lg;exact .store rfl k (.c (.ptr _ _)) λb _=>⟨True,_,rfl,trivial,aH.put (by simp) k (.box (r0 a))⟩;grind
theorem alS(h:cI gl gd env σ N (.box x)=some (c,v,σ')):ew N σ σ1 (.box x) env1 (cY env G gd) c v σ':=by
 simp[cI]at h;split at h
 . rename_i w d;split at h
   rename_i cs a;cases h;obtain⟨p,v1,a1,a2,a3⟩:=cE he av d;obtain⟨e,b1,b2⟩:=p6 a2 a;have k:dI N σ (N+16) (cW σ N (.box cs)):=lg;exact .store rfl k (.c (.ptr _ _)) λb _=>⟨p,_,by grind[aU],a3 b,aH.put (by simp) k (.box (b2.imp λ_ _ _=>cy.mono k))⟩;grind
 grind
theorem ae5{sz len:Nat}{z:I C}{parts:I (Nat×aV)}(h:cI gl gd env σ N (.bslice sz len z parts)=some (c,v,σ')):ew N σ σ1 (.bslice sz len z parts) env1 (cY env G gd) c v σ':=by
 simp[cI]at h;split at h
 . rename_i l i;split at h
   cases h
   . rename_i ts f;split at h
     grind
     . rename_i b;have b:=dh b;split at h
       . rename_i rows a;cases h;have j:=r0 (N:=N) (σ:=σ) i;obtain⟨p,es,a1,a2,a4,a3⟩:=I7 he av a (bc.replicate (R:=λr e=>iB r=some e) f _) (by intro r a;rw[Hs a];exact b);have k:dI N σ (N+16) (cW σ N (.rows sz rows)):=lg (by omega);refine .store rfl k (.c (.arr N sz es.length (by omega) ?_)) λg _=>⟨p,_,by simp[aU,AH j f,ay,a1,mM];rw[M4 a1,List.length_replicate],a3 g,aH.put (by omega) k (.rows a2 a4)⟩
         intro x aa q d;rw[h',ag rfl]at aa;cases aa;simp[dc.dD]at d;rw[<-d,a2.length]
       cases h
 grind
omit he av aH in
theorem aeA{a:I C}(h:toTs a=some ts):zH a=none:=by
 unfold zH;grind[toTs,toT]
omit he av aH in
theorem ae6{σ1:bh}{w:bU U}{d:V}(h:cb N σ w d)(e:∀b a len,w≠.c (.hT b a len))(f:∀b a len,w≠.c (.sub b a len))(g:w≠.c .dead):mS v1 d=none:=by
 unfold mS;split
 . cases h with
   |c h=>
    cases h<;>grind
 rfl
theorem af4{k:Nat}(h:cI gl gd env σ N (.store k x y)=some (c,v,σ')):ew N σ σ1 (.store k x y) env1 (cY env G gd) c v σ':=by
 simp only[cI]at h;split at h
 . rename_i b o w aa al;split at h
   . rename_i cs m;split at h
     . rename_i r;have r:=dh r;split at h
       . rename_i T u;split at h
         . rename_i Q;have Q:=iH Q;cases h;obtain⟨p,v1,a1,a2,a3⟩:=cE he av aa;obtain⟨q,v2,b1,b2,f⟩:=cE he av al;have:=a2.hQ;subst this;obtain⟨es,c1,c2⟩:=p6 b2 m;obtain⟨s,z,d1,d2⟩:=aH b _ u;cases d2 with
           | @box _ fs d2=>
            have a:dI N σ (N+16) (cW σ b (.box (yr T o cs))):=oS (by simp) u (λp h=>by grind[dc.dD]);refine .store rfl a (.bd [] [] rfl (by simp)) λd _=>⟨p/\q,_,?_,⟨a3 d,f d⟩,aH.put (by omega) a (.box (Ji (d2.imp λ_ _ _=>cy.mono a) (c2.imp λ_ _ _=>cy.mono a)))⟩;simp only[aU,a1,b1,ay,c1];rw[ag (by rw[<-c2.length];grind),d1];dsimp only;rw[ag (by rw[<-d2.length];grind)]
         grind
       . rename_i E D u;split at h
         . rename_i D _;cases h;obtain⟨p,v1,a1,a2,a3⟩:=cE he av aa;obtain⟨q,v2,b1,b2,f⟩:=cE he av al;have:=a2.hQ;obtain⟨es,c1,c2⟩:=p6 b2 m;obtain⟨s,z,d1,d2⟩:=aH b _ u;cases d2 with
           |cu d2=>
            cases c2 with|cons c2 c3=>
            cases c3;have a:dI N σ (N+16) (cW σ b (.cu E D)):=oS (by simp) u (λp h=>by grind[dc.dD]);refine .store rfl a (.bd [] [] rfl (by simp)) λd _=>⟨p/\q,_,?_,⟨a3 d,f d⟩,aH.put (by omega) a (.cu (c2.mono a))⟩;simp only[aU,a1,b1,ay,c1];grind
         grind
       grind
     grind
   grind
 . rename_i b t i o w aa al;split at h
   . rename_i cs m;split at h
     . rename_i r;simp only[dr]at r;have L:=dh r.1;have H:=iH r.2;split at h
       . rename_i J O g;split at h
         . rename_i l ak;have e:=bZ.kA ak;cases e;split at h
           . rename_i F X;cases h;obtain⟨rfl,K,rfl⟩:cs=[F]/\∃K,F= .arr K:=by
              unfold Wp at X;grind
             obtain⟨p,v1,a1,a2,a3⟩:=cE he av aa;obtain⟨q,v2,b1,b2,f⟩:=cE he av al;have:=a2.jB;obtain⟨es,c1,c2⟩:=p6 b2 m;cases c2 with|cons c2 c3=>
             cases c3;have S:=c2;cases c2 with|arr _ af ae ab ad=>
             obtain⟨s,z,d1,d2⟩:=aH b _ g;cases d2 with
             |arr=>
              have a:dI N σ (N+16) (cW σ b (.cV t l i o (.arr K))):=oS (by simp) g (λp h=>by grind[dc.dD]);refine .store rfl a (.bd [] [] rfl (by simp)) λd j=>⟨p/\q/\t.sz U=t.sz U/\i<(List.map (t.enc U) l).length/\o+k<=t.sz U,_,?_,⟨a3 d,f d,rfl,xB (hx j),H⟩,aH.put (by omega) a (.cV t l i o (S.mono a))⟩;simp only[aU,a1,b1,ay,c1];simp_all[ag,zH]
           split at h
           . rename_i l2 I;cases h;obtain⟨p,v1,a1,a2,a3⟩:=cE he av aa;obtain⟨q,v2,b1,b2,f⟩:=cE he av al;have:=a2.jB;subst this;obtain⟨es,c1,c2⟩:=p6 b2 m;obtain⟨s,z,d1,d2⟩:=aH b _ g;cases d2 with
             |arr=>
              have W:l2.length=List.length l:=by
               grind[s6]
              have a:dI N σ (N+16) (cW σ b (.arr t l2)):=oS (by simp) g (λp h=>by
               grind[dc.dD])
              refine .store rfl a (.bd [] [] rfl (by simp)) λd j=>?_;have A:i<List.length l:=hx j;obtain⟨ts,aK,V⟩:=Kr I A c2 (by grind);refine⟨p/\q/\t.sz U=t.sz U/\i<(List.map (t.enc U) l).length/\o+k<=t.sz U,_,?_,⟨a3 d,f d,rfl,xB A,H⟩,aH.put (by omega) a (.arr t l2)⟩;simp only[aU,a1,b1,ay,c1];rw[ag (by rw[<-c2.length];grind),d1];grind[aeA]
           grind
         grind
       . rename_i J O B R D g;split at h
         . rename_i F;split at h
           . rename_i n;split at h
             . rename_i M;cases h;have n:=dh n;have M:=dh M;subst n;obtain⟨p,v1,a1,a2,a3⟩:=cE he av aa;obtain⟨q,v2,b1,b2,f⟩:=cE he av al;have:=a2.jB;subst this;obtain⟨es,c1,c2⟩:=p6 b2 m;cases c2 with|cons c2 c3=>
               cases c3;obtain⟨s,z,d1,d2⟩:=aH b _ g;cases d2 with
               |cV _ _ _ _ d2=>
                have a:dI N σ (N+16) (cW σ b (.cV J O B o F)):=oS (by simp) g (λp h=>by grind[dc.dD]);refine .store rfl a (.bd [] [] rfl (by simp)) λd j=>⟨p/\q/\t.sz U=J.sz U/\i=B,_,?_,⟨a3 d,f d,M,hx j⟩,aH.put (by omega) a (.cV J O B o (c2.mono a))⟩;simp only[aU,a1,b1,ay,c1];rw[ag (by simpa using L),d1];dsimp only;rw[ag rfl]
             cases h
           . rename_i n;have n:=iG n;split at h
             . rename_i l ak;have e:=bZ.kA ak;cases e;split at h
               . rename_i l2 I;cases h;obtain⟨p,v1,a1,a2,a3⟩:=cE he av aa;obtain⟨q,v2,b1,b2,f⟩:=cE he av al;have:=a2.jB;subst this;obtain⟨es,c1,c2⟩:=p6 b2 m;obtain⟨s,z,d1,d2⟩:=aH b _ g;cases d2 with
                 |cV _ _ _ _ d2=>
                  have W:l2.length=List.length l:=by
                   unfold s6 at I;grind
                  have a:dI N σ (N+16) (cW σ b (.cV t l2 B R D)):=oS (by omega) g (λp h=>by
                   simp only[dc.dD]at h⊢
                   grind)
                  refine .store rfl a (.bd [] [] rfl (by simp)) λd j=>?_;have A:i<List.length l:=hx j;obtain⟨ts,aK,V⟩:=Kr I A c2 (by rw[L];exact H);cases c2 with| @cons _ P _ _ c2 c3=>
                  cases c3;obtain⟨C,Y,Z⟩:∃C,Shv.toT P=some C/\ts=[C]:=by
                   simp only[toTs]at aK;cases aa:Shv.toT P with
                   |none=>rw[aa]at aK;simp at aK
                   |some C=>rw[aa]at aK;simp at aK;exact⟨C,rfl,aK.symm⟩
                  refine⟨p/\q/\t.sz U=t.sz U/\i<(List.map (t.enc U) l).length/\o+k<=t.sz U,_,?_,⟨a3 d,f d,rfl,xB A,H⟩,aH.put (by omega) a (.cV t l2 B R (d2.mono a))⟩;simp only[aU,a1,b1,ay,c1];rw[ag (by simpa using L),d1];dsimp only;rw[aq n,Y];subst Z;grind
               cases h
             cases h
         cases h
       cases h
     cases h
   cases h
 cases h
inductive kZ:gT U->List (List T)->Prop
 |ty (t:aO) (l:List (t.den U.D)):kZ (.ty t l) (l.map (t.enc U))
 |rows {r es}:bc (λr e=>iB r=some e) r es->kZ (.rows r) es
 |nil:kZ .nil []
omit he av aH in
theorem kZ.length(h:kZ e es):es.length=e.len:=by
 cases h with
 |ty t l=>simp[gT.len]
 |rows h=>simp[gT.len,h.length]
 |nil=>rfl
omit he av aH in
theorem Jj:∀{xs:I (bB U)} {dR:I aO} {e:I T} {row:I (bZ U.D)},ji dR xs=some row->iB xs=some e->e=row.map (bZ.enc U)
 |[],dR,e,row,h1,a=>by
  grind[ji,iB]
 |y::f,[],e,row,h1,a=>by grind[ji]
 |y::f,ty::dR,e,row,h1,a=>by
  simp[iB]at a;split at a
  . rename_i t ts ht d;cases a;cases y with
    |t c=>
     simp[bB.toT]at ht;split at ht;grind;cases ht;cases ty<;>simp[ji]at h1<;>(split at h1<;>first|(cases h1;done)|(rename_i q b;cases h1;rw[Jj b d];rfl))
    |bX=>
     simp[bB.toT]at ht;subst ht;cases ty<;>simp[ji]at h1;split at h1;rename_i q b;cases h1;rw[Jj b d];rfl;grind
    |_=>grind[bB.toT]
  grind
omit he av aH in
theorem ahd{r:I (bB U)}{x:t.den U.D}{e:I T}(h:ra U t r=some x)(he:iB r=some e):t.enc U x=e:=by
 grind[ra,aO.wk,aO.Hl,Jj]
omit he av aH in
theorem xq:∀{r:I (I (bB U))} {l:I (t.den U.D)} {es:I (I T)},mT U t r=some l->bc (λr e=>iB r=some e) r es->l.map (t.enc U)=es
 |[],l,es,h,a=>by cases a;grind[mT]
 |r::c,l,_::_,h,.cons h1 a=>by
  simp[mT]at h;split at h;rename_i x xs aa b;cases h;rw[qT,ahd aa h1,xq b a];grind
omit he av aH in
theorem kZ.as{l:I (t.den U.D)}(h:kZ e es)(a:e.as t=some l):l.map (t.enc U)=es:=by
 cases h with
 |ty u c=>
  have:=bZ.kA a;grind
 |rows h=>exact xq a h
 |nil=>grind[gT.as]
omit he av aH in
theorem kZ.join{x y z:gT U}{es fs:I (I T)}(aa:kZ x es)(al:kZ y fs)(h:x.join y=some z):kZ z (es++fs):=by
 cases aa with
 |nil=>grind[gT.join]
 |ty t l=>
  simp[gT.join]at h;split at h;rename_i e ak;cases h;rw[<-al.as ak,<-xK];exact .ty t _;grind
 |rows a=>
  cases al with
  |ty t l=>
   simp[gT.join]at h;split at h;rename_i e ak;cases h;rw[<-xq ak a,<-xK];exact .ty t _;grind
  |rows c=>simp[gT.join]at h;subst h;exact .rows (a.append c)
  |nil=>simp[gT.join]at h;subst h;rw[nT];exact .rows a
omit he av aH in
theorem kZ.blk{e:gT U}{es:I (I T)}{sz:Nat}{b:dc U}(h:kZ e es)(a:e.blk sz=some b):iD N' σ' b (.arr sz es)/\(∀x,x∈es->x.length=sz)/\b.dD=some (sz,e.len):=by
 cases h with
 |ty t l=>
  simp[gT.blk]at a;split at a;rename_i hs;have:=dh hs;subst this;cases a;refine⟨.arr t l,λx aa=>?_,rfl⟩;grind[aO.tA];grind
 | @rows r es c=>
  simp[gT.blk]at a;split at a;rename_i hs;cases a;simp only[gF]at hs;refine⟨.rows c λx aa=>dh (hs x aa),λx aa=>?_,rfl⟩;obtain⟨i,g,rfl⟩:=hE aa;obtain⟨y,h1,f⟩:=(c.flip λ_ _ h=>h).get (fm g);rw[Kq f];grind[dh];grind
 |nil=>
  simp[gT.blk]at a;subst a;exact⟨.rows .nil (by simp),by simp,rfl⟩
omit he av in
theorem J0{f:ai Nat}(c:cb N σ v v1)(h:s4 σ v=some (e,f)):∃es,l8 σ1 v1=some (es,f)/\kZ e es:=by
 unfold s4 at h;split at h;rename_i t l;cases h;have:=c.j5;subst this;exact⟨_,rfl,.ty t l⟩;cases h;have:=c.v7;subst this;exact⟨_,rfl,.nil⟩
 . rename_i b;obtain⟨sz,n,rfl,i,d⟩:=c.hZ;split at h
   rename_i t l ak;cases h;obtain⟨_,y,h1,a⟩:=aH b _ ak;cases a;have:=d _ ak _ rfl;cases this;exact⟨_,by simp[l8,h1],.ty t l⟩
   . rename_i j r ak;cases h;obtain⟨_,y,h1,a⟩:=aH b _ ak;cases a with
     |rows a g=>
      have:=d _ ak _ rfl;cases this;exact⟨_,by simp[l8,h1,a.length],.rows a⟩
   cases h
 grind
theorem alW{str:J}(h:cI gl gd env σ N (.len str x)=some (c,v,σ')):ew N σ σ1 (.len str x) env1 (cY env G gd) c v σ':=by
 simp[cI]at h;split at h;rename_i s d;cases h;obtain⟨p,v1,a1,a2,a3⟩:=cE he av d;have:=a2.kU;subst this;exact .cG aH (.c (.t _)) λa _=>⟨p,by simp[aU,a1];rfl,a3 a⟩
 . rename_i b d;split at h
   rename_i E s g;cases h;obtain⟨p,v1,a1,a2,a3⟩:=cE he av d;obtain⟨n,rfl,_,f⟩:=a2.yN;have:=f _ g _ rfl;cases this;exact .cG aH (.c (.t _)) λa _=>⟨p,by simp[aU,a1];rfl,a3 a⟩;grind
 . rename_i w d;split at h
   . rename_i e eI;cases h;obtain⟨p,v1,a1,a2,a3⟩:=cE he av d;refine .cG aH (.c (.t (U:=U) ⟨.int .i64,_⟩)) λa _=>⟨p,?_,a3 a⟩
     unfold s4 at eI;split at eI;cases eI;have:=a2.j5;subst this;simp only[aU,a1,ay];exact ag2;cases eI;have:=a2.v7;subst this;simp only[aU,a1,ay];rfl
     . obtain⟨sz,n,rfl,g,f⟩:=a2.hZ;simp[aU,a1];split at eI
       rename_i t l ak;cases eI;have:=f _ ak _ rfl;cases this;rfl;rename_i i r ak;cases eI;have:=f _ ak _ rfl;cases this;rfl;grind
     grind
   grind
 grind
omit he av aH in
theorem JR{bytes n:Nat}:bR bytes n↔(2*n+192)*bytes<=h4/\n<=dT:=by simp[bR]
omit he av aH in
theorem BM{bytes n:Nat}(h:bR bytes n):ki n bytes/\n<=dT:=⟨.inl (JR.1 h).1,(JR.1 h).2⟩
omit he av aH in
theorem A6:∀(l:az),bytesOf (List.map ((aO.int .u8).enc U) l)=some (strOf l)
 |[]=>rfl
 |m::l=>by
  have:=A6 l;show bytesOf ([T.int _ m]::_)=_;simp[bytesOf,this];rfl
omit he av aH in
theorem NI:∀{l:az},K1 l->l.map ((aO.int .u8).enc U)=(strOf l).map λc=>[.int .u8 c.toNat]
 |[],_=>rfl
 |m::l,h=>by
  simp only[K1,nV,dr,gP]at h;have a:([T.int .u8 m]:I T)=[T.int .u8 ((UInt8.ofNat m.toNat).toNat:Int)]:=by rw[show((UInt8.ofNat m.toNat).toNat:Int)=m by simp[UInt8.toNat_ofNat'];omega]
  exact congr (dN List.cons a) (NI (l:=l) h.2)
theorem ae7{te sz bytes:Nat}(h:cI gl gd env σ N (.append te sz bytes x y)=some (c,v,σ')):ew N σ σ1 (.append te sz bytes x y) env1 (cY env G gd) c v σ':=by
 simp only[cI]at h;split at h
 . rename_i w aa al;split at h
   . rename_i af ao B;split at h
     . rename_i blk J;cases h;obtain⟨p,v1,a1,a2,a3⟩:=cE he av aa;obtain⟨q,v2,b1,b2,o⟩:=cE he av al;have:=a2.v7;subst this;obtain⟨a,c1,c2⟩:=J0 aH b2 B;have k:dI N σ (N+16) (cW σ N blk):=lg (by omega);obtain⟨d1,d2,d3⟩:=c2.blk (N':=N+16) (σ':=cW σ N blk) J;refine .store rfl k (.c (.arr N sz a.length (by omega) ?_)) λf j=>⟨p/\q/\(∀e,e∈a->e.length=sz)/\ki a.length bytes/\a.length<=dT,_,by simp only[aU,a1,b1,ay,show mS (.c .bX) v2=none from rfl,c1],⟨a3 f,o f,d2,?_⟩,aH.put (by omega) k d1⟩
       intro x aa r g;rw[h',ag rfl]at aa;cases aa;rw[d3]at g;cases g;rw[c2.length];rw[c2.length];exact BM j
     cases h
   cases h
 . rename_i b w aa al;split at h
   . rename_i q' xb af ae Y B;split at h
     grind
     . split at h
       cases h
       . rename_i u;split at h
         . rename_i au ad;split at h
           . rename_i blk J;cases h;obtain⟨p,v1,a1,a2,a3⟩:=cE he av aa;obtain⟨q,v2,b1,b2,o⟩:=cE he av al;obtain⟨m,cS,W,H,T⟩:=a2.hZ;subst W;obtain⟨a,c1,c2⟩:=J0 aH b2 B;obtain⟨xs,aK,M⟩:=J0 aH a2 Y;have d:=M.join c2 ad;have A:dI N (dl σ b) (N+16) (cW (dl σ b) N blk):=lg (by omega);have k:dI N σ (N+16) (cW (dl σ b) N blk):=dI.trans sI A;obtain⟨d1,d2,d3⟩:=d.blk (N':=N+16) (σ':=cW (dl σ b) N blk) J;obtain⟨hs,aL⟩:aZ σ1 b=some (.arr m xs)/\cS=xs.length:=by
              simp only[l8]at aK;grind
             have V:m=sz:=by
              unfold WY at u;split at u
              . rename_i z d;split at u
                rename_i r g;have:=T _ d _ g;simp_all;cases u
              cases u
             subst V;have F:cH N (dl σ b) (hS σ1 b):=by
              intro i z d;rw[nP]at d;split at d;cases d;rename_i O;obtain⟨h1,y,E,s⟩:=aH i z d;exact⟨h1,y,by rw[gb,aq O];exact E,s.mono sI⟩
             have an:ae≠some b:=by
              intro e;simp_all
             refine .store rfl k (.c (.arr N m (xs++a).length (by omega) ?_)) λf j=>⟨p/\q/\m=m/\m=m/\0=0/\cS=xs.length/\(∀e,e∈a->e.length=m)/\ki (xs.length+a.length) bytes/\xs.length+a.length<=dT,_,?_,⟨a3 f,o f,rfl,rfl,rfl,aL,λe he=>d2 e (by simp[he]),?_⟩,F.put (by omega) A d1⟩;intro x aa r g;rw[h',ag rfl]at aa;cases aa;rw[d3]at g;cases g;rw[d.length]
             . have X:mS (.c (.arr b m 0 cS)) v2=none:=by
                refine ae6 (σ1:=σ1) b2 ?_ ?_ ?_<;>(intros;rintro rfl;simp[s4]at B)
               simp only[aU,a1,b1,ay,X,c1,hs];grind
             have:=BM j;rw[<-d.length,ea]at this;exact this
           cases h
         cases h
   cases h
 . rename_i b h0 L C len aa al;split at h
   . rename_i I;have I:=dh I;subst I;split at h
     . rename_i t l ak;split at h
       . rename_i P;have P:=dh P;cases h;obtain⟨p,v1,a1,a2,a3⟩:=cE he av aa;obtain⟨q,v2,b1,b2,o⟩:=cE he av al;cases a2 with|c a2=>
         cases a2 with|pre _ s1 _ ah Z=>
         cases b2 with|c b2=>
         cases b2 with|hT _ ap _ _ ai ab=>
         have aK:=Z _ ak _ rfl;have M:=ab _ ak _ rfl;obtain⟨R,z,d1,d2⟩:=aH b _ ak;cases d2 with
         |arr=>
          have A:dI N (dl σ b) (N+16) (cW (dl σ b) N (.arr t (l.take h0++(l.drop C).take len))):=lg (by omega);have k:=dI.trans sI A;have F:cH N (dl σ b) (hS σ1 b):=by
           intro i z d;rw[nP]at d;split at d;cases d;rename_i O;obtain⟨h1,y,E,s⟩:=aH i z d;exact⟨h1,y,by simp_all[gb,aq],s.mono sI⟩
          refine .store rfl k (.c (.arr N (t.sz U) (l.take h0++(l.drop C).take len).length (by omega) ?_)) λf j=>?_
          simp_all[h',ag,dc.dD,eo];simp only[dr,gP]at j;have aj:(l.take h0++(l.drop C).take len).length=h0+len:=(by grind);refine⟨p/\q/\t.sz U=t.sz U/\t.sz U=t.sz U/\t.sz U=t.sz U/\0=0/\h0+len<=(l.map (t.enc U)).length/\C+len<=(l.map (t.enc U)).length,_,?_,⟨a3 f,o f,rfl,rfl,rfl,rfl,by grind,by grind⟩,F.put (by simp) A (.arr t _)⟩;grind[mS,aU,vZ,List.map_take,List.map_drop]
       cases h
     cases h
   cases h
 . rename_i b a aa al;split at h
   . rename_i D l H;split at h
     . rename_i K;simp only[dr]at K;have:=dh K.1;subst this;have:=dh K.2;subst this;cases h;obtain⟨p,v1,a1,a2,a3⟩:=cE he av aa;obtain⟨q,v2,b1,b2,o⟩:=cE he av al;obtain⟨n,rfl,R,S⟩:=a2.yN;have:=S _ H _ rfl;cases this;have:=b2.j5;subst this;obtain⟨_,z,d1,d2⟩:=aH b _ H;cases d2;have bj:dI N σ N (dl σ b):=sI;have bq:dI N _ (N+16) (cW (dl σ b) N (.buf D (v8 l (strOf a)))):=lg;have Q:cH N (dl σ b) (hS σ1 b):=by
        intro L x aa;rw[nP]at aa;split at aa;grind;rename_i am;obtain⟨h1,y,E,s⟩:=aH L x aa;exact⟨h1,y,by rw[gb];grind,s.mono bj⟩
       refine .store rfl (bj.trans bq) (.c (.cQ N (List.length l+List.length (strOf a)) (by simp) λx aa p ar=>?_)) λf j=>?_
       rw[h',ag rfl]at aa;cases aa;simp[dc.dD]at ar;exact ar.symm.trans (dN _ Mm);simp only[dr]at j;have g:=BM j.1;refine⟨p/\q/\D=D/\1=1/\List.length l=List.length l/\a.map ((aO.int .u8).enc U)=(strOf a).map (λc=>[.int .u8 c.toNat])/\ki _ _/\List.length l+List.length (strOf a)<=dT,_,?_,⟨a3 f,o f,rfl,rfl,rfl,NI j.2,g.1,g.2⟩,Q.put (by simp) bq (.buf _ _)⟩;simp only[aU,a1,b1,ay,show mS (.c (.cQ b (List.length l))) (.c (.t (.slice (a.map ((aO.int .u8).enc U)))))=none from rfl,show l8 σ1 (.c (.t (.slice (a.map ((aO.int .u8).enc U)))))=some (_,none)from rfl,d1];exact dN (Option.map _) (A6 (U:=U) a)
     cases h
   cases h
 grind
omit he av aH in
theorem NL{t:aO}(ht:t.wz=false):∀{xs:I (bB U)} {a:I C} {l:I (t.den U.D)},bc (cy N σ) xs a->vG t xs=some l->∃ts,toTs a=some ts/\ts.map (λx=>[x])=l.map (t.enc U)
 |[],[],l,_,h=>by simp[vG]at h;subst h;exact⟨[],rfl,rfl⟩
 |x::xs,d::a,l,.cons h1 e,h=>by
  unfold vG at h;split at h;grind
  . rename_i c r i;cases i;split at h
    . rename_i y m f j;cases h;obtain⟨ts,aK,b⟩:=NL ht e j;cases h1;have g:=bZ.kA f;subst g;refine⟨bZ.enc U ⟨t,y⟩::ts,by simp[toTs,aK,toT],?_⟩;rw[qT,b];cases t<;>first|rfl|cases ht
    cases h
  grind
omit he av aH in
theorem OH{t:aO}{d:t.den U.D}:∀{xs:I (bB U)} {a:I C} {l:I (t.den U.D)} (i:Nat),bc (cy N σ) xs a->vG t xs=some l->i<a.length->cy N σ (.t ⟨t,l.getD i d⟩) (a.getD i .dead)
 |[],[],l,i,_,h,b=>absurd b (xL _)
 |x::xs,d::a,l,i,.cons h1 e,h,b=>by
  unfold vG at h;split at h;grind
  . rename_i c r j;cases j;split at h
    . rename_i y m f k;cases h;cases h1;have g:=bZ.kA f;subst g;cases i with
      |zero=>exact .t _
      |succ i=>exact OH (d:=_) i e k (Nat.lt_of_succ_lt_succ b)
    cases h
  grind
theorem ahe{k:Nat}(h:cI gl gd env σ N (.idxV k x y)=some (c,v,σ')):ew N σ σ1 (.idxV k x y) env1 (cY env G gd) c v σ':=by
 simp only[cI]at h;split at h
 . rename_i cs u m ar o;split at h
   . rename_i t l j ak;cases h;obtain⟨p,v1,a1,a2,a3⟩:=cE he av ar;obtain⟨q,v2,b1,b2,e⟩:=cE he av o;obtain⟨f,rfl,b⟩:=a2.mb;have:=b2.gh;subst this;have n:f.length=k:=by rw[<-b.length];exact dh j
     unfold FB at ak;split at ak
     . rename_i s r;split at ak
       . rename_i w ht hs;cases ak;by_cases d:aG m k=true
         . obtain⟨h1,g⟩:=sn.1 d;refine .cG aH (.c (OH (Int.toNat m) b hs (by omega))) λa _=>⟨p/\q/\(0:Int)<=m/\Int.toNat m<k,?_,a3 a,e a,h1,g⟩
           simp only[aU,a1,b1,ay,n,cg]
         exact .cG aH (.c (.t _)) λa i=>absurd i d
       cases ak
     cases ak
   cases h
 cases h
theorem ae8{sz bytes:Nat}{z:I C}(h:cI gl gd env σ N (.mslice sz bytes z x)=some (c,v,σ')):ew N σ σ1 (.mslice sz bytes z x) env1 (cY env G gd) c v σ':=by
 simp only[cI]at h;split at h
 . rename_i k m s ar o;split at h
   cases h
   . rename_i ts g;split at h
     . rename_i a;split at h
       . rename_i b d;cases h;have d:=dh d;subst d;obtain⟨r,v1,a1,a2,a3⟩:=cE he av ar;have:=a2.gh;subst this;have p:=r0 (N:=N) (σ:=σ) o;have bj:dI N σ (N+16) (cW σ N (.arr a.ty (List.replicate (Int.toNat m) a.val))):=lg (by omega);have f:a.ty.sz U=1:=by
          generalize a.ty=t0 at b;cases t0<;>first|rfl|cases b
         have l:ts=a.ty.enc U a.val:=by
          obtain⟨ty,v0⟩:=a;cases ty<;>first|(cases g;rfl)|cases b
         have n:aU (.mslice 1 bytes z x) env1 σ1 N=some (r/\(0:Int)<=m/\Int.toNat m*bytes<=h4/\Int.toNat m<=dT,.c (.arr N 1 0 (Int.toNat m)),dA σ1 N (.arr 1 (List.replicate (Int.toNat m) ts))):=by
          simp only[aU,a1,ay,AH p g]
         refine .store rfl bj (.c (.arr N 1 (Int.toNat m) (by omega) ?_)) λj i=>⟨_,_,n,⟨a3 j,Lu.1 i⟩,aH.put (by omega) bj ?_⟩;intro x aa q e;rw[h',ag rfl]at aa;cases aa;simp[dc.dD]at e;rw[<-e,f];have:=iD.arr (N:=N+16) (σ:=cW σ N (.arr a.ty (List.replicate (Int.toNat m) a.val))) a.ty (List.replicate (Int.toNat m) a.val);rw[f,List.map_replicate,<-l]at this;exact this
       cases h
     cases h
 cases h
theorem ae9{cs:I C}(h:cI gl gd env σ N (.allocA cs)=some (c,v,σ')):ew N σ σ1 (.allocA cs) env1 (cY env G gd) c v σ':=by
 simp[cI]at h;split at h
 . rename_i xs d;split at h
   . rename_i t l ak;cases h;unfold FB at ak;split at ak
     . rename_i b r;split at ak
       . rename_i a ht hs;cases ak;obtain⟨ts,aK,e⟩:=NL ht (r0 (N:=N) (σ:=σ) d) hs;have k:dI N σ (N+16) (cW σ N (.arr _ a)):=lg;refine .store rfl k (.c (.ptr _ _)) λf _=>⟨True,_,by simp[aU,aK];rfl,trivial,aH.put (by simp) k ?_⟩
         have g:b.ty.sz U=1:=by
          generalize b.ty=t0 at ht;cases t0<;>first|rfl|cases ht
         have:=iD.arr (N:=N+16) (σ:=cW σ N (.arr _ a)) _ a;grind
       grind
     grind
   grind
 grind
theorem ahf{k:Nat}(h:cI gl gd env σ N (.idxP k x y)=some (c,v,σ')):ew N σ σ1 (.idxP k x y) env1 (cY env G gd) c v σ':=by
 simp[cI]at h;split at h
 . rename_i b kk m ar g;split at h
   . split at h
     . rename_i e;have e:=dh e;cases h;obtain⟨i,v1,a1,a2,a3⟩:=cE he av ar;obtain⟨j,v2,b1,b2,f⟩:=cE he av g;have:=a2.hQ;have:=b2.gh;refine .cG aH (.c (.c9 _ _ _ _)) λd a=>⟨i/\j/\(0:Int)<=m/\Int.toNat m<k,?_,a3 d,f d,(sn.1 a).1,(sn.1 a).2⟩
       grind[aU]
     grind
   grind
 grind
theorem ahg{k:Nat}{e d:ai aV}(h:cI gl gd env σ N (.slcP k x e d)=some (c,v,σ')):ew N σ σ1 (.slcP k x e d) env1 (cY env G gd) c v σ':=by
 simp[cI]at h;split at h;rename_i b l r ar ak g;cases h;obtain⟨j,v1,a1,a2,a3⟩:=cE he av ar;obtain⟨pl,i,l2⟩:=p7 he av aH ak;obtain⟨m,n,o⟩:=p7 he av aH g;have:=a2.hQ;subst this;exact .cG aH (.c (.sub _ _ _)) λa f=>⟨j/\pl/\m/\0<=l.getD 0/\l.getD 0<=r.getD _/\r.getD _<=k,by simp[aU,a1,i,n],a3 a,l2 a,o a,jj.1 f⟩;grind
omit he av aH in
theorem af5{b len:Nat}{s:au}(h:aZ σ1 b=some (.arr 1 es))(hs:bytesOf ((es.drop off).take len)=some s):oh σ1 (.c (.arr b 1 off len))=some (off+len<=es.length,s):=by grind[oh]
omit he av aH in
theorem af6{b len:Nat}{s:au}(h:aZ σ1 b=some (.arr 1 es))(hs:bytesOf ((es.drop off).take len)=some s):oh σ1 (.c (.gK b 1 off len))=some (off+len<=es.length,s):=by grind[oh]
omit he av aH in
theorem aeB{s:au}(hs:bytesOf es=some s):oh σ1 (.c (.t (.slice es)))=some (True,s):=by grind[oh]
theorem alQ(h:cI gl gd env σ N (.b2s x)=some (c,v,σ')):ew N σ σ1 (.b2s x) env1 (cY env G gd) c v σ':=by
 simp only[cI]at h;split at h
 . rename_i l ar;cases h;obtain⟨d,v1,a1,a2,a3⟩:=cE he av ar;have:=a2.j5;subst this
   exact .cG aH (.c (.t (U:=U) _)) λa j=>⟨d/\True,by
    simp only[aU,a1,ay]
    exact(dN _ (aeB (A6 (U:=U) l))).trans rfl,a3 a,trivial⟩
 rename_i ar;cases h;obtain⟨d,v1,a1,a2,a3⟩:=cE he av ar;have:=a2.v7;subst this;exact .cG aH (.c (.t (U:=U) ⟨.str,_⟩)) λa j=>⟨d/\True,by simp only[aU,a1,oh];rfl,a3 a,trivial⟩
 . rename_i b ar;split at h
   . rename_i l f;cases h;obtain⟨d,v1,a1,a2,a3⟩:=cE he av ar;obtain⟨m,n,rfl,k,a⟩:=a2.hZ;have:=a _ f _ rfl;cases this;obtain⟨_,y,al,i⟩:=aH _ _ f;cases i;refine .cG aH (.c (.t (U:=U) ⟨.str,_⟩)) λa j=>⟨d/\(0+l.length<=(l.map ((aO.int .u8).enc U)).length),?_,a3 a,by simp⟩
     simp only[aU,a1,ay];have e:bytesOf (((l.map ((aO.int .u8).enc U)).drop 0).take l.length)=some (strOf l):=(by grind[List.take_of_length_le,A6]);exact(dN (Option.map _) (af5 al e)).trans rfl
   grind
 . rename_i b g len ar;split at h
   . rename_i l f;cases h;obtain⟨d,v1,a1,a2,a3⟩:=cE he av ar;have:v1= .c (.gK b 1 g len):=by cases a2 with|c h=>cases h;rfl
     subst this;obtain⟨_,y,al,i⟩:=aH _ _ f;cases i;refine .cG aH (.c (.t (U:=U) ⟨.str,_⟩)) λa j=>⟨d/\(g+len<=(l.map ((aO.int .u8).enc U)).length),?_,a3 a,by grind[yk]⟩
     simp only[aU,a1,ay];have e:bytesOf (((l.map ((aO.int .u8).enc U)).drop g).take len)=some (strOf ((l.drop g).take len)):=by rw[<-List.map_drop,<-List.map_take];exact A6 _
     exact(dN (Option.map _) (af6 al e)).trans rfl
   grind
 grind
theorem ae'{e e8:Nat}(h:cI gl gd env σ N (.allocS e e8)=some (c,v,σ')):ew N σ σ1 (.allocS e e8) env1 (cY env G gd) c v σ':=by
 obtain⟨rfl,rfl,rfl⟩:=h;have d:dI N σ (N+16) (cW (cW σ (N+1) (.buf e8 [])) N (.cu e (.cQ (N+1)))):=by
  refine⟨by simp,λb g f aa=>?_⟩;grind[h']
 refine .store rfl d (.c (.ptr _ _)) λ_ _=>⟨True,_,rfl,trivial,λb x aa=>?_⟩;rw[h']at aa;rw[dk];by_cases h1:N=b;rw[ag h1]at aa⊢;cases aa;refine⟨by omega,_,rfl,.cu (.cQ _ _ (by simp) λx aa p ar=>?_)⟩;rw[h',h']at aa;grind[dc.dD]
 . rw[aq h1,h']at aa;rw[aq h1,dk];by_cases a:N+1=b
   rw[ag a]at aa⊢;cases aa;exact⟨by omega,_,rfl,.buf _ _⟩;rw[aq a]at aa⊢;obtain⟨bj,y,bq,b4⟩:=aH b x aa;exact⟨by omega,y,bq,b4.mono d⟩
theorem af7(h:cI gl gd env σ N .mkset=some (c,v,σ')):ew N σ σ1 .mkset env1 (cY env G gd) c v σ':=by
 obtain⟨rfl,rfl,rfl⟩:=h;have k:dI N σ (N+16) (cW σ N (.set [])):=lg;exact .store rfl k (.c (.mp _)) λ_ _=>⟨True,_,rfl,trivial,aH.put (by simp) k (.set _)⟩
theorem af8(h:cI gl gd env σ N (.lkset x y)=some (c,v,σ')):ew N σ σ1 (.lkset x y) env1 (cY env G gd) c v σ':=by
 simp[cI]at h;split at h
 . rename_i b s aa al;split at h
   rename_i ks e;cases h;obtain⟨p,v1,a1,a2,a3⟩:=cE he av aa;obtain⟨q,v2,b1,b2,d⟩:=cE he av al;have:=a2.C6;subst this;have:=b2.kU;subst this;obtain⟨_,z,d1,d2⟩:=aH b _ e;cases d2;exact .cG aH (.c (.t _)) λa _=>⟨p/\q,by simp[aU,a1,b1,d1];rfl,a3 a,d a⟩;grind
 grind
theorem af9(h:cI gl gd env σ N (.upset x y)=some (c,v,σ')):ew N σ σ1 (.upset x y) env1 (cY env G gd) c v σ':=by
 simp[cI]at h;split at h
 . rename_i b s aa al;split at h
   rename_i ks d;cases h;obtain⟨p,v1,a1,a2,a3⟩:=cE he av aa;obtain⟨q,v2,b1,b2,f⟩:=cE he av al;have:=a2.C6;subst this;have:=b2.kU;subst this;obtain⟨g,z,d1,d2⟩:=aH b _ d;cases d2;have e:dI N σ (N+16) (cW σ b (.set (jr ks s))):=oS (by omega) d (λp h=>by simp[dc.dD]at h);exact .store rfl e (.bd [] [] rfl (by simp)) λa _=>⟨p/\q,_,by simp[aU,a1,b1,d1],⟨a3 a,f a⟩,aH.put (by omega) e (.set _)⟩;cases h
 grind
theorem aeC{e bytes:Nat}(h:cI gl gd env σ N (.appendB e bytes x y)=some (c,v,σ')):ew N σ σ1 (.appendB e bytes x y) env1 (cY env G gd) c v σ':=by
 simp[cI]at h;split at h
 . rename_i b s aa al;split at h
   . rename_i a l d;split at h
     . rename_i r;have:=dh r;subst this;cases h;obtain⟨p,v1,a1,a2,a3⟩:=cE he av aa;obtain⟨q,v2,b1,b2,j⟩:=cE he av al;obtain⟨n,rfl,u,o⟩:=a2.yN;have:=o _ d _ rfl;cases this;have:=b2.kU;subst this;obtain⟨_,z,d1,d2⟩:=aH b _ d;cases d2;have bj:dI N σ N (dl σ b):=sI;have bq:dI N _ (N+16) (cW (dl σ b) N (.buf a (v8 l s))):=lg;have m:cH N (dl σ b) (hS σ1 b):=by
        intro i x aa;rw[nP]at aa;split at aa;grind;rename_i w;obtain⟨h1,y,t,k⟩:=aH i x aa;exact⟨h1,y,by rw[gb];grind,k.mono bj⟩
       refine .store rfl (bj.trans bq) (.c (.cQ N (List.length l+List.length s) (by simp) λx aa p ar=>?_)) λg f=>⟨p/\q/\a=a/\List.length l=List.length l/\ki _ _/\List.length l+List.length s<=dT,_,?_,⟨a3 g,j g,rfl,rfl,(BM f).1,(BM f).2⟩,m.put (by simp) bq (.buf _ _)⟩;rw[h',ag rfl]at aa;cases aa;simp[dc.dD]at ar;exact ar.symm.trans (dN _ Mm);simp only[aU,a1,b1,ay,d1];rfl
     grind
   grind
 grind
theorem af'(h:cI gl gd env σ N (.sdata x)=some (c,v,σ')):ew N σ σ1 (.sdata x) env1 (cY env G gd) c v σ':=by
 simp[cI]at h;split at h;rename_i b aa;cases h;obtain⟨p,v1,a1,a2,a3⟩:=cE he av aa;obtain⟨n,rfl,_,_⟩:=a2.yN;exact .cG aH (.c (.eV _)) λa _=>⟨p,by simp[aU,a1],a3 a⟩;grind
theorem ahh{e:Nat}(h:cI gl gd env σ N (.ustr e x y)=some (c,v,σ')):ew N σ σ1 (.ustr e x y) env1 (cY env G gd) c v σ':=by
 simp[cI]at h;split at h
 . rename_i b m aa al;split at h
   . rename_i a l k;split at h
     . rename_i o;have:=dh o;subst this;cases h;obtain⟨p,v1,a1,a2,a3⟩:=cE he av aa;obtain⟨q,v2,b1,b2,g⟩:=cE he av al;have:=a2.WJ;subst this;have:=b2.gh;subst this;obtain⟨_,z,d1,d2⟩:=aH b _ k;cases d2;have bj:dI N σ N (dl σ b):=sI;have j:cH N (dl σ b) (hS σ1 b):=by
        intro f x aa;rw[nP]at aa;split at aa;grind;obtain⟨h1,y,r,i⟩:=aH f x aa;exact⟨h1,y,by simp_all[gb],i.mono bj⟩
       refine .store rfl (bj.trans (dI.more (by simp))) (.c (.t _)) λd n=>⟨p/\q/\a=a/\m=(List.length l:Int),_,?_,⟨a3 d,g d,rfl,af0.1 n⟩,j.mono (by simp)⟩;simp only[aU,a1,b1,ay,d1];rfl
     grind
   grind
 grind
theorem aeD{e sz len:Nat}{z:I C}{parts:I (Nat×aV)}(h:cI gl gd env σ N (.bsliceT e sz len z parts)=some (c,v,σ')):ew N σ σ1 (.bsliceT e sz len z parts) env1 (cY env G gd) c v σ':=by
 simp[cI]at h;split at h;grind
 . split at h
   . rename_i k i;split at h
     grind
     . rename_i ts b;split at h
       grind
       . rename_i a;have a:=dh a;split at h
         . rename_i rows g;split at h
           . rename_i l ak;cases h;have j:=r0 (N:=N) (σ:=σ) i;obtain⟨p,es,a1,a2,a4,a3⟩:=I7 he av g (bc.replicate (R:=λr e=>iB r=some e) b _) (by grind);have d:=xq ak a2;refine .cG aH (.c (.t _)) λf _=>⟨p,?_,a3 f⟩
             simp[aU,AH j b,ay,a1];rw[<-d];rfl
           grind
         grind
   grind
theorem NJ(h:cI gl gd env σ N o=some (c,v,σ')):ew N σ σ1 o env1 (cY env G gd) c v σ':=by
 cases o with
 |mov x=>exact alX he av aH h
 |pick c x y=>exact ag3 he av aH h
 |alloc cs=>exact af3 he av aH h
 |box x=>exact alS he av aH h
 |allocA cs=>exact ae9 he av aH h
 |idxP k x i=>exact ahf he av aH h
 |idxV k x i=>exact ahe he av aH h
 |mslice sz b z x=>exact ae8 he av aH h
 |slcP k x d a=>exact ahg he av aH h
 |b2s x=>exact alQ he av aH h
 |allocS e e8=>exact ae' he av aH h
 |bsliceT e sz len z parts=>exact aeD he av aH h
 |mkset=>exact af7 he av aH h
 |lkset x k=>exact af8 he av aH h
 |upset x k=>exact af9 he av aH h
 |appendB e b x y=>exact aeC he av aH h
 |sdata x=>exact af' he av aH h
 |ustr e x k=>exact ahh he av aH h
 |build z parts=>exact af2 he av aH h
 |bslice sz len z parts=>exact ae5 he av aH h
 |load agg n x=>exact ag6 he av aH h
 |store n x v=>exact af4 he av aH h
 |nilCheck x=>exact adt he av aH h
 |bin op x y=>exact alR he av aH h
 |eqAgg neg ks x y=>exact af1 he av aH h
 |eqBool neg x y=>exact ae4 he av aH h
 |eqNil neg x=>simp[cI]at h
 |not x=>exact alY he av aH h
 |conv k x=>grind[ag4]
 |i2s x=>grind[alV]
 |s2s x=>grind[alZ]
 |fldA off x=>grind[ag5]
 |fld agg off n x=>grind[alU]
 |idxA sz x i=>grind[ag7]
 |idxS x i=>grind[ag8]
 |slcS x d a=>grind[ag9]
 |slc sz x d a=>grind[al0]
 |slc0 x=>grind[ag']
 |mkfn f caps=>grind[aha]
 |ext x i=>grind[alT]
 |len str x=>grind[alW]
 |append sz bytes x y=>grind[ae7]
 |max2 x y=>grind[ahb]
 |min2 x y=>grind[ahc]
 |call f args=>simp[cI]at h
 |iO x args=>simp[cI]at h
end
end
end
section
open Go
variable {U:c0}
def bB.cC(b0:Nat)(c:bZ U.D):bB U->bB U
 |.arr b=>match Nat.beq b b0 with
  |true=>.t c
  |false=>.arr b
 |.c9 b ty i o=>match Nat.beq b b0 with
  |true=>.dead
  |false=>.c9 b ty i o
 |.pre b h=>match Nat.beq b b0 with
  |true=>.dead
  |false=>.pre b h
 |.hT b a len=>match Nat.beq b b0 with
  |true=>.dead
  |false=>.hT b a len
 |x=>x
def bU.cC(b0:Nat)(c:bZ U.D):bU U->bU U
 |.c x=>.c (x.cC b0 c)
 |.agg cs=>.agg (cs.map (bB.cC b0 c))
 |.bd vs=>.bd (go b0 c vs)
where go (b0:Nat) (c:bZ U.D):I (bU U)->I (bU U)
 |[]=>[]
 |v::vs=>v.cC b0 c::go b0 c vs
def dc.cC(b0:Nat)(c:bZ U.D):dc U->dc U
 |.box cs=>.box (cs.map (bB.cC b0 c))
 |.cu E x=>.cu E (x.cC b0 c)
 |.cV t l i o x=>.cV t l i o (x.cC b0 c)
 |x=>x
def s5(b0:Nat)(c:bZ U.D):b8 U->b8 U
 |[]=>[]
 |(k,v)::r=>(k,v.cC b0 c)::s5 b0 c r
def n4(b0:Nat)(c:bZ U.D):bm U->bm U
 |[]=>[]
 |(k,x)::r=>match Nat.beq k b0 with
  |true=>n4 b0 c r
  |false=>(k,x.cC b0 c)::n4 b0 c r
def ys(b:Nat)(t:aO)(env:b8 U)(σ:bm U):ai (b8 U×bm U):=
 match ba σ b with
 |some (.arr a l)=>match bZ.as (.slice t) (⟨.slice a,l⟩:bZ U.D)with
  |some l=>some (s5 b ⟨.slice t,l⟩ env,n4 b ⟨.slice t,l⟩ σ)
  |none=>none
 |some (.rows _ r)=>match mT U t r with
  |some l=>some (s5 b ⟨.slice t,l⟩ env,n4 b ⟨.slice t,l⟩ σ)
  |none=>none
 |_=>some (env,σ)
def kX:I (Nat×aO)->b8 U->bm U->ai (b8 U×bm U)
 |[],env,σ=>some (env,σ)
 |(b,t)::r,env,σ=>match ys b t env σ with
  |some (env',σ')=>kX r env' σ'
  |none=>none
variable{b0 j:Nat}{c:bZ U.D}{es:I (I T)}{t:aO}{cs:I C}{R:Type}
section
variable {kk N:Nat}{σ σ':bm U}{σ1:bh}{env env':b8 U}{env1:Env}{G:Nat->J}{gl:eY}
theorem F0:∀{env:b8 U} {k:Nat},ba (s5 b0 c env) k=(ba env k).map (bU.cC b0 c)
 |[],k=>rfl
 |(i,v)::r,k=>by
  simp[s5,ba];cases Nat.beq i k with
  |true=>rfl
  |false=>exact F0
theorem va:∀{σ:bm U} {k:Nat},ba (n4 b0 c σ) k=if k=b0 then none else(ba σ k).map (dc.cC b0 c)
 |[],k=>by simp[n4,ba]
 |(i,x)::r,k=>by
  simp[n4];cases h:Nat.beq i b0 with
  |true=>
   simp[va,ba];grind[dh]
  |false=>
   simp[ba,va];grind
theorem dc.C2{x:dc U}:(x.cC b0 c).dD=x.dD:=by cases x<;>rfl
theorem cy.cC{b0 sz:Nat}{c:bZ U.D}{es:I (I T)}{q:dc U}(h0:ba σ b0=some q)(w:q.dD=some (sz,es.length))(v:c.enc U= .slice es){x:bB U}{d:C}(h:cy N σ x d):
 cy N (n4 b0 c σ) (x.cC b0 c) (d.cC b0 sz es):=by
 cases h with
 |t c=>exact .t c
 |ptr b o=>exact .ptr b o
 |c9 b t i o=>
  simp only[bB.cC,C.cC];cases h:Nat.beq b b0 with
  |true=>exact .dead _
  |false=>rw[aq (iG h)];exact .c9 b t i o
 |ep t x o=>exact .ep t x o
 |arr b g n a h=>
  simp only[bB.cC,C.cC];cases e:Nat.beq b b0 with
  |true=>
   have:=dh e;subst this;have:=h q h0 _ w;cases this;rw[ag rfl,ag ⟨rfl,by simp⟩];have:cut es 0 es.length=es:=(by simp[cut]);rw[this,<-v];exact .t c
  |false=>
   rw[aq (iG e)];refine .arr b g n a λy al p ar=>?_;rw[va]at al;grind[bL,dc.C2]
 |sub b j len=>exact .sub b j len
 |pre b g n a h=>
  simp only[bB.cC];cases e:Nat.beq b b0 with
  |true=>exact .dead _
  |false=>
   simp only[C.cC];rw[aq (iG e)];refine .pre b g n a λy al p ar=>?_;rw[va,aq (iG e)]at al;grind[bL,dc.C2]
 |hT b g j len a h=>
  simp only[bB.cC];cases e:Nat.beq b b0 with
  |true=>exact .dead _
  |false=>
   refine .hT b g j len a λy al p ar=>?_;rw[va,aq (iG e)]at al;grind[bL,dc.C2]
 |mp b=>exact .mp b
 |eV b=>exact .eV b
 |cQ b n a h=>
  refine .cQ b n a λy al p ar=>?_;grind[va,bL,dc.C2]
 |bX=>exact .bX
 |fN=>exact .fN
 |fM=>exact .fM
 |fn f caps=>exact .fn f caps
 |dead d=>exact .dead _
theorem NM:∀{vs:I (bU U)} {i:Nat},(bU.cC.go b0 c vs)[i]?=(vs[i]?).map (bU.cC b0 c)
 |[],i=>by rfl
 |v::vs,0=>by rfl
 |v::vs,i+1=>by simp[bU.cC.go,NM]
theorem MV:∀{vs:I (bU U)},(bU.cC.go b0 c vs).length=vs.length
 |[]=>rfl
 |v::vs=>by simp[bU.cC.go,MV]
theorem cb.cC{sz:Nat}{f:dc U}(h0:ba σ b0=some f)(e:f.dD=some (sz,es.length))(a:c.enc U= .slice es){x:bU U}{d:V}(h:cb N σ x d):
 cb N (n4 b0 c σ) (x.cC b0 c) (d.cC b0 sz es):=by
 induction h with
 |c h=>exact .c (h.cC h0 e a)
 |agg h=>exact .agg (bc.map_map (h.imp λ_ _ _ ad=>ad.cC h0 e a))
 |bd xs g ak h ih=>
  refine .bd _ _ (by grind[MV,JH]) ?_;grind[NM,Ko]
theorem Q4{sz:Nat}{n:dc U}(h0:ba σ b0=some n)(f:n.dD=some (sz,es.length))(e:c.enc U= .slice es)(hs:aZ σ1 b0=some (.arr sz es))(he:df N σ G env env1)(aH:cH N σ σ1):
 Conv kk N env1 σ1 N (sr b0 sz es env1) (nN b0 sz es σ1)/\df N (n4 b0 c σ) G (s5 b0 c env) (sr b0 sz es env1)/\cH N (n4 b0 c σ) (nN b0 sz es σ1):=by
 refine⟨Conv.freeze b0 hs,λk v m=>?_,λb x aa=>?_⟩;rw[F0,bL]at m;obtain⟨v0,h1,rfl⟩:=m;obtain⟨d,g,j⟩:=he k v0 h1;exact⟨_,by grind[AQ],j.cC h0 f e⟩
 . rw[va]at aa;split at aa
   grind
   . simp only[bL]at aa;obtain⟨p,h1,rfl⟩:=aa;obtain⟨g,y,j,a⟩:=aH b p h1;refine⟨g,y.cC b0 sz es,by simp_all[EA,aq],?_⟩;cases a with
     |box a=>exact .box (bc.map_map (a.imp λ_ _ _ ad=>ad.cC h0 f e))
     |arr t l=>exact .arr t l
     |set ks=>exact .set ks
     |buf E s=>exact .buf E s
     |cu a=>exact .cu (a.cC h0 f e)
     |cV t l i o a=>exact .cV t l i o (a.cC h0 f e)
     |rows a bu=>exact .rows a bu
theorem hI.cC(h:hI gl env G):hI gl (s5 b0 c env) G:=by
 refine⟨h.free,λk t b e=>?_⟩;obtain⟨y,h1,a⟩:=h.held k t b e;refine⟨y,?_,a⟩;unfold fW at h1⊢;rw[F0];split at h1;rename_i x aa;rw[aa];exact h1;grind
theorem aga{α a:Type}{f:α->a}{l:I α}{sz:Nat}:some (sz,l.length)=some (sz,(l.map f).length):=by simp
theorem Nc{b:Nat}(h:ys b t env σ=some (env',σ'))(he:df N σ G env env1)(aH:cH N σ σ1):
 ∃f bE,Conv kk N env1 σ1 N f bE/\df N σ' G env' f/\cH N σ' bE/\(hI gl env G->hI gl env' G):=by
 unfold ys at h;split at h
 . rename_i k j ak;split at h
   rename_i l d;have e:=bZ.kA d;cases e;cases h;obtain⟨_,y,h1,a⟩:=aH b _ ak;cases a;obtain⟨bj,bq,b4⟩:=Q4 (c:=⟨.slice t,l⟩) ak aga rfl h1 he aH;exact⟨_,_,bj,bq,b4,λav=>av.cC⟩;grind
 . rename_i sz r ak;split at h
   . rename_i l d;cases h;obtain⟨_,y,h1,a⟩:=aH b _ ak;cases a with
     | @rows _ _ es a i=>
      have g:=xq d a;obtain⟨bj,bq,b4⟩:=Q4 (c:=⟨.slice t,l⟩) ak (by simp[dc.dD];rw[a.length]) (by rw[<-g];rfl) h1 he aH;exact⟨_,_,bj,bq,b4,λav=>av.cC⟩
   grind
 grind[Conv.refl]
theorem xa:∀{l:I (Nat×aO)} {env env':b8 U} {σ σ':bm U} {env1:Env} {σ1:bh},kX l env σ=some (env',σ')->df N σ G env env1->cH N σ σ1->
 ∃a bE,Conv kk N env1 σ1 N a bE/\df N σ' G env' a/\cH N σ' bE/\(hI gl env G->hI gl env' G)
 |[],env,env',σ,σ',env1,σ1,h,he,aH=>by grind[kX,Conv.refl]
 |(b,t)::r,env,env',σ,σ',env1,σ1,h,he,aH=>by
  simp[kX]at h;split at h;rename_i e s h1;obtain⟨aK,s1,bj,bq,b4,cv⟩:=Nc h1 he aH;obtain⟨c,j,d,f,g,i⟩:=xa h bq b4;exact⟨c,j,bj.trans d,f,g,λav=>i (cv av)⟩;grind
theorem Conv.close{b sz i o:Nat}{t:T}(c:aZ σ1 b=some (.cV sz es i o (.t t))):
 Conv kk N env1 σ1 N env1 (dA σ1 b (.arr sz (es.set i ((el es i).take o++[t]++(el es i).drop (o+1))))):=by
 intro aB nt φ S a w H R;obtain⟨⟨a1,a2,a3,a4,a5,D⟩,⟨vs,E,bj,bq,b4,g,cv,cZ⟩,c7⟩:=R.b3.blk _ _ c;have q:es[i]?=some (el es i):=by unfold el;rw[List.getD,fm a5];rfl
 have F:=a3 _ (fQ q);refine⟨φ,S,R.put (R.ei _ _ c).1 rfl ⟨by simpa using a1,by simpa using a2,λe he=>?_,a4,λ_=>⟨vs,E,bj,bq,λA j e B he ht=>?_,c7⟩⟩ λh0=>⟨λk y al x p=>R.b3.inj k b y _ al c x p h0,R.own b _ c h0⟩⟩;grind
 . rw[Di]at he;by_cases v:i=A
   . subst v;rw[ag rfl,ag a5]at he;cases he;have f:=(oK (vs:=el es i) (off:=o) (xs:=[t]) (by simp;omega) j)
     unfold jC at f;rw[show o+[t].length=o+1 from rfl]at f;rw[f]at ht;by_cases c1:j=o;subst c1;rw[b9,jE,Nat.sub_self]at ht;cases ht;exact⟨g,cv,cZ⟩
     . have G:(el es i)[j]?=some B:=by
        by_cases c2:j<o;rwa [ag c2]at ht;rwa [aq c2,b9]at ht
       grind
   grind
def F1(b:Nat)(env:b8 U)(σ:bm U):ai (b8 U×bm U):=
 match ba σ b with
 |some (.cV t l i o (.t c))=>match Nat.ble (o+1) (t.sz U)with
  |true=>match s6 U t l i o [.t c]with
   |some a=>some (env,cW σ b (.arr t a))
   |none=>none
  |false=>none
 |_=>none
def Q5(b:Nat)(env:b8 U)(σ:bm U):ai (b8 U×bm U):=
 match ba σ b with
 |some (.cV t l i o (.arr b2))=>match (t.row U (t.at U l i))[o]? with
  |some ⟨.slice te,_⟩=>match ys b2 te env σ with
   |some (env',σ')=>F1 b env' σ'
   |none=>none
  |_=>none
 |_=>F1 b env σ
def Pb:bm U->ai Nat
 |[]=>none
 |(b,.cV ..)::_=>some b
 |_::r=>Pb r
def K3(env:b8 U)(σ:bm U):ai (b8 U×bm U):=
 match Pb σ with
 |none=>some (env,σ)
 |some b=>Q5 b env σ
theorem M5{b:Nat}(h:F1 b env σ=some (env',σ'))(he:df N σ G env env1)(aH:cH N σ σ1):
 ∃e bE,Conv kk N env1 σ1 N e bE/\df N σ' G env' e/\cH N σ' bE:=by
 unfold F1 at h;split at h
 . rename_i t l i o c ak;split at h
   . split at h
     . rename_i l2 k;cases h;obtain⟨g,y,h1,d⟩:=aH b _ ak;cases d with
       |cV _ _ _ _ d=>
        cases d;have q:l2.length=List.length l:=by
         grind[s6]
        have f:dI N σ N (cW σ b (.arr t l2)):=oS (e' _) ak (λp h=>by
         grind[dc.dD])
        refine⟨env1,dA _ b _,?_,he.mono f,aH.put g f (.arr t l2)⟩;by_cases j:i<List.length l;obtain⟨ts,aK,m⟩:=Kr (N:=N) (σ:=σ) k j (.cons (.t c) .nil) (by simp_all);have:ts=[c.enc U]:=(by grind[toTs,toT]);have:=Conv.close (kk:=kk) (N:=N) (env1:=env1) h1;grind;intro aB nt φ S a w n R;obtain⟨⟨_,_,_,_,a5,_⟩,_⟩:=R.b3.blk _ _ h1;grind
     grind
   grind
 grind
theorem aa7(h:K3 env σ=some (env',σ'))(he:df N σ G env env1)(aH:cH N σ σ1):
 ∃a bE,Conv kk N env1 σ1 N a bE/\df N σ' G env' a/\cH N σ' bE:=by
 unfold K3 at h;split at h;grind[Conv.refl]
 . unfold Q5 at h;split at h
   . split at h
     . split at h
       rename_i e s h1;obtain⟨aK,s1,bj,bq,b4,_⟩:=Nc (gl:=[]) h1 he aH;obtain⟨b,g,c,d,f⟩:=M5 h bq b4;exact⟨b,g,bj.trans c,d,f⟩;grind
     grind
   exact M5 h he aH
theorem Conv.own{k:Nat}{g:J}{sz:Nat}(p:look env1 k=some (g,.c .bX))(q:0<sz)(y:kk<=N):Conv kk N env1 σ1 (N+1) ((k,g,.c (.arr N sz 0 0))::env1) (dA σ1 N (.arr sz [])):=by
 intro aB nt φ S a w t R;have f:=R.Hm q (by omega);have cM:e3 φ N (0,0) N=(0,0):=by simp[e3]
 refine⟨e3 φ N _,S,⟨f.b3,λi j v ak av=>?_,λi j v ak av=>?_,λi j v ak av=>?_,f.ei,f.size,f.defers,f.ext,f.own,f.fix,f.hv⟩⟩
 . simp[look]at ak;split at ak
   . rename_i e;cases ak;subst e;obtain⟨x,aa,o⟩:=f.gY _ _ _ p av;refine⟨x,aa,?_⟩;cases o with
     |c o=>
      obtain⟨a,rfl⟩:=o;refine .c ⟨a,by grind,λh=>absurd (by grind) h,by simp⟩
   exact f.gY i j v ak av
 . simp[look]at ak;split at ak
   rename_i e;cases ak;subst e;exact f.hL _ _ _ p av;exact f.hL i j v ak av
 . simp only[look]at ak;split at ak
   grind[V.aJ,C.aJ,lt];exact f.gX i j v ak av
theorem Conv.ak9{b:Nat}{sz:Nat}(M:aZ σ1 b=some (.box cs))(D:cs[j]?=some .bX)(O:b<N)(H:0<sz)(Q:kk<=N):
 Conv kk N env1 σ1 (N+1) env1 (dA (dA σ1 N (.arr sz [])) b (.box (cs.set j (.arr N sz 0 0)))):=by
 intro aB nt φ S a w P R;have e:=R.Hm H (by omega);have cM:e3 φ N (0,0) N=(0,0):=by simp[e3]
 have t:aZ (dA σ1 N (.arr sz [])) b=some (.box cs):=by rw[dk];grind
 have A:∀c x,aZ (dA (dA σ1 N (.arr sz [])) b (.box (cs.set j (.arr N sz 0 0)))) c=some x->(c=b/\x= .box (cs.set j (.arr N sz 0 0)))\/aZ (dA σ1 N (.arr sz [])) c=some x:=by
  grind[dk]
 have f:∀c x,aZ (dA (dA σ1 N (.arr sz [])) b (.box (cs.set j (.arr N sz 0 0)))) c=some x->∃y,aZ (dA σ1 N (.arr sz [])) c=some y:=by grind
 refine⟨e3 φ N _,S,⟨⟨λc x aa=>?_,λc p x y aa al F=>?_,e.b3.st⟩,e.gY,e.hL,e.gX,λc x aa=>?_,e.size,e.defers,e.ext,λc x aa=>?_,e.fix,e.hv⟩⟩
 . rcases A c x aa with⟨rfl,rfl⟩|h
   . obtain⟨h0,vs,E,h1,q,B⟩:=e.b3.blk _ _ t;refine⟨h0,vs,E,h1,?_,B⟩;obtain⟨v,W,G⟩:=q.get D;obtain⟨a,rfl⟩:=G;have:=bc.set (i:=j) q (a:= .arr N sz 0 0) (b:= .slice a 0 0) ⟨a,by grind,λh=>absurd (by grind) h,by simp⟩;have U:vs.set j (.slice a 0 0)=vs:=by
      apply xX;grind
     grind
   exact e.b3.blk c x h
 obtain⟨o,g⟩:=f c x aa;obtain⟨L,K⟩:=f p y al;exact e.b3.inj c p o L g K F
 . rcases A c x aa with⟨rfl,rfl⟩|h
   have:=(e.ei _ _ t).2;grind[cd.aJ,List.mem_or_eq_of_mem_set,C.aJ,lt];exact e.ei c x h
 obtain⟨o,g⟩:=f c x aa;exact e.own c o g
theorem Conv.trim{q b:Nat}{sz h:Nat}(U:aZ σ1 q=some (.box cs))(X:cs[j]?=some (.arr b sz 0 h))(O:aZ σ1 b=some (.arr sz es))(ad:h<=es.length)(a0:q<N):
 Conv kk N env1 σ1 (N+1) env1 (dA (dA (hS σ1 b) N (.arr sz (es.take h))) q (.box (cs.set j (.arr N sz 0 h)))):=by
 intro aB nt φ S a w aD R;have ax:b<N:=by have:=(R.ei _ _ O).1;grind[lt]
 have W:∀c,lt N c->e3 φ N (φ b) c=φ c:=by
  intro c p;simp only[lt,gP]at p;grind[e3]
 have B:∀c,lt N c->lt (N+1) c:=λc p=>FZ (by omega) p;have f:=R.vp W;have cM:e3 φ N (φ b) N=φ b:=by simp[e3]
 have P:=W b (by grind[lt]);have Q:∀c x,aZ (dA (dA (hS σ1 b) N (.arr sz (es.take h))) q (.box (cs.set j (.arr N sz 0 h)))) c=some x->(c=q/\x= .box (cs.set j (.arr N sz 0 h)))\/(c≠q/\c=N/\x= .arr sz (es.take h))\/(c≠q/\c≠N/\c≠b/\aZ σ1 c=some x):=by
  grind[dk,gb]
 have G:∀c x,aZ (dA (dA (hS σ1 b) N (.arr sz (es.take h))) q (.box (cs.set j (.arr N sz 0 h)))) c=some x->∃t y,aZ σ1 t=some y/\e3 φ N (φ b) c=e3 φ N (φ b) t/\(t=if c=N then b else c):=by grind
 refine⟨e3 φ N (φ b),S,⟨⟨λc x aa=>?_,λc t x y aa al aP=>?_,f.b3.st⟩,f.gY,f.hL,λk g v ak av=>V.h8 B (f.gX k g v ak av),λc x aa=>?_,f.size,f.defers,f.ext,λc x aa h0=>?_,f.fix,λc p=>by have:=f.hv c p;exact B c this⟩⟩
 . rcases Q c x aa with⟨rfl,rfl⟩|⟨_,rfl,rfl⟩|⟨_,_,_,o⟩
   . obtain⟨h0,vs,E,h1,A,F⟩:=f.b3.blk _ _ U;refine⟨h0,vs,E,h1,?_,F⟩;obtain⟨v,a2,Y⟩:=A.get X;have Z:bG (e3 φ N (φ b)) w S (.arr N sz 0 h) v:=by
      obtain⟨a,aK,D,dB⟩:=Y;rw[P]at aK D dB;exact⟨a,by rw[cM];exact aK,by rw[cM];exact D,by rw[cM];exact dB⟩
     have:=bc.set (i:=j) A Z;have a1:vs.set j v=vs:=by
      apply xX;grind
     grind
   obtain⟨h0,h1,A,F,o⟩:=f.b3.blk _ _ O;rw[P]at h0 o;refine⟨by rw[cM,vk];omega,by rw[vk];omega,λe he=>A e (zF he),F,λp=>?_⟩;grind;exact f.b3.blk c x o
 obtain⟨d,K,H,aK,D⟩:=G c x aa;obtain⟨L,an,am,dB,ap⟩:=G t y al;have ck:d≠L:=(by grind);intro h0 M;rw[aK]at h0⊢;rw[dB]at M⊢;exact f.b3.inj d L K an H am ck h0 M
 . rcases Q c x aa with⟨rfl,rfl⟩|⟨_,rfl,rfl⟩|⟨_,_,_,o⟩
   have:=(f.ei _ _ U).2;grind[cd.aJ,List.all_eq_true,List.mem_or_eq_of_mem_set,C.h8,C.aJ,lt];exact⟨by simp[lt],rfl⟩;exact⟨B c (f.ei c x o).1,cd.h8 B (f.ei c x o).2⟩
 obtain⟨d,K,H,aK,_⟩:=G c x aa;rw[aK]at h0⊢;exact f.own d K H h0
def xr:Nat->I (bB U)->ai (Nat×Nat×Nat)
 |_,[]=>none
 |j,.pre b h::_=>some (j,b,h)
 |j,_::r=>xr (j+1) r
def sJ(σ:bm U):bm U->ai (Nat×I (bB U)×Nat×Nat×Nat)
 |[]=>none
 |(q,.box cs)::r=>match ba σ q with
  |some (.box a)=>match xr 0 a with
   |some p=>some (q,a,p)
   |none=>sJ σ r
  |_=>sJ σ r
 |_::r=>sJ σ r
theorem NN:∀{cs:I (bB U)} {j i b h:Nat},xr j cs=some (i,b,h)->j<=i/\cs[i-j]?=some (.pre b h)
 |[],j,i,b,h,a=>by grind[xr]
 |c::r,j,i,b,h,a=>by
  have next:xr (j+1) r=some (i,b,h)->j<=i/\(c::r)[i-j]?=some (.pre b h):=by
   intro a;obtain⟨h1,f⟩:=NN a;grind
  cases c with
  |pre d e=>grind[xr,Option.some.injEq]
  |_=>exact next a
theorem D'{q:Nat}{cs:I (bB U)}{i b h:Nat}:∀{l:bm U},sJ σ l=some (q,cs,i,b,h)->ba σ q=some (.box cs)/\cs[i]?=some (.pre b h)
 |[],a=>by simp[sJ]at a
 |(k,x)::r,a=>by
  cases x with
  |box d=>
   simp[sJ]at a;split at a
   . rename_i e c;split at a
     rename_i p ar;obtain⟨rfl,rfl,rfl⟩:=a;exact⟨c,by simpa using(NN ar).2⟩;exact D' a
   exact D' a
  |_=>exact D' (by simpa[sJ]using a)
def Gb{R:Type}(σ:bm U)(N:Nat)(k:bm U->Nat->ai R):ai R:=
 match sJ σ σ with
 |none=>k σ N
 |some (q,cs,j,b,h)=>match ba σ b with
  |some (.arr t l)=>ite (h<=l.length:J) (k (cW (cW (dl σ b) N (.arr t (l.take h))) q (.box (cs.set j (.arr N)))) (N+1)) none
  |_=>none
theorem Nd{q b h0:Nat}{cs:I (bB U)}{x:bB U}{l:I (t.den U.D)}(s:ba σ q=some (.box cs))(r:cs[j]?=some x)(k:ba σ b=some (.arr t l))(aa:∀d,cy N σ x d->d= .arr b (t.sz U) 0 h0)(E:h0<=l.length)
 (he:df N σ G env env1)(aH:cH N σ σ1):
 ∃bE,Conv kk N env1 σ1 (N+1) env1 bE/\df (N+1) (cW (cW (dl σ b) N (.arr t (l.take h0))) q (.box (cs.set j (.arr N)))) G env env1/\cH (N+1) (cW (cW (dl σ b) N (.arr t (l.take h0))) q (.box (cs.set j (.arr N)))) bE:=by
 obtain⟨w,H,v,a⟩:=aH q _ s;obtain⟨C,F,m,n⟩:=aH b _ k;cases n;cases a with
 | @box _ B a=>
  obtain⟨d,o,A⟩:=a.get r;have:=aa d A;subst this;have z:q≠b:=by grind
  have bj:dI N σ N (dl σ b):=sI;have bq:dI N (dl σ b) (N+1) (cW (dl σ b) N (.arr t (l.take h0))):=lg;have u:ba (cW (dl σ b) N (.arr t (l.take h0))) q=some (.box cs):=by rw[h',b9,nP,aq (λe=>z e.symm)];grind
  have b4:dI (N+1) (cW (dl σ b) N (.arr t (l.take h0))) (N+1) (cW (cW (dl σ b) N (.arr t (l.take h0))) q (.box (cs.set j (.arr N)))):=oS (e' _) u (λp h=>by grind[dc.dD]);have f:=(bj.trans bq).trans b4;have i:cH N (dl σ b) (hS σ1 b):=by
   intro c x aa;rw[nP]at aa;split at aa;grind;obtain⟨g1,y,g2,g3⟩:=aH c x aa;exact⟨g1,y,by simp_all[gb,aq],g3.mono bj⟩
  refine⟨_,Conv.trim v o m (by grind) w,he.mono f,?_⟩;rw[<-List.map_take];refine(i.put (by simp) bq (.arr t (l.take h0))).put (by omega) b4 (.box ?_);refine bc.set (a.imp λ_ _ _ g=>g.mono f) (.arr N _ _ (by simp) λx aa p ar=>?_);rw[h',h',ag rfl]at aa;grind[dc.dD,Option.some.injEq,List.length_take,Nat.min_eq_left]
theorem NO{k:bm U->Nat->ai R}{r:R}(h:Gb σ N k=some r)(he:df N σ (λ_=>true) env env1)(aH:cH N σ σ1):
 ∃σ' N' bE,k σ' N'=some r/\Conv kk N env1 σ1 N' env1 bE/\df N' σ' (λ_=>true) env env1/\cH N' σ' bE/\N<=N':=by
 unfold Gb at h;split at h;exact⟨σ,N,σ1,h,Conv.refl,he,aH,e' _⟩
 . rename_i q cs j b h0 e;obtain⟨g,f⟩:=D' e;split at h
   . rename_i t l a;split at h
     . obtain⟨s1,m,n,o⟩:=Nd (kk:=kk) (h0:=h0) g f a (λd i=>by
        cases i with
        |pre _ sz _ _ c=>
         have c:=c _ a _ rfl
         grind) (by grind) he aH
       grind
     grind
   grind
def vb(kk:Nat):Nat->I (bB U)->ai (Nat×Nat)
 |_,[]=>none
 |j,.arr b::r=>match Nat.ble (b+1) kk with
  |true=>some (j,b)
  |false=>vb kk (j+1) r
 |j,_::r=>vb kk (j+1) r
def sK(kk:Nat)(σ:bm U):bm U->ai (Nat×I (bB U)×Nat×Nat)
 |[]=>none
 |(q,.box _)::r=>match ba σ q with
  |some (.box cs)=>match vb kk 0 cs with
   |some p=>some (q,cs,p)
   |none=>sK kk σ r
  |_=>sK kk σ r
 |_::r=>sK kk σ r
theorem NP:∀{cs:I (bB U)} {j i b:Nat},vb kk j cs=some (i,b)->j<=i/\cs[i-j]?=some (.arr b)
 |[],j,i,b,a=>by grind[vb]
 |c::r,j,i,b,a=>by
  have next:vb kk (j+1) r=some (i,b)->j<=i/\(c::r)[i-j]?=some (.arr b):=by
   intro a;obtain⟨h1,e⟩:=NP a;grind
  cases c with
  |arr d=>
   grind[vb]
  |_=>exact next a
theorem Ea{kk q:Nat}{cs:I (bB U)}{i b:Nat}:∀{l:bm U},sK kk σ l=some (q,cs,i,b)->ba σ q=some (.box cs)/\cs[i]?=some (.arr b)
 |[],a=>by grind[sK]
 |(k,x)::r,a=>by
  cases x with
  |box d=>
   simp only[sK]at a;split at a
   . rename_i e c;split at a
     rename_i p ar;obtain⟨rfl,rfl,rfl⟩:=a;exact⟨c,by simpa using(NP ar).2⟩;exact Ea a
   exact Ea a
  |_=>exact Ea (by simpa[sK]using a)
def F6{R:Type}(kk:Nat)(σ:bm U)(k:bm U->Nat->ai R):ai R:=
 match sK kk σ σ with
 |none=>k σ kk
 |some (q,cs,j,b)=>match ba σ b with
  |some (.arr t l)=>k (cW (cW (dl σ b) kk (.arr t l)) q (.box (cs.set j (.arr kk)))) (kk+1)
  |_=>k σ kk
theorem ab0{k:bm U->Nat->ai R}{r:R}(h:F6 kk σ k=some r)(he:df kk σ (λ_=>true) env env1)(aH:cH kk σ σ1):
 ∃σ' N' bE,k σ' N'=some r/\Conv kk kk env1 σ1 N' env1 bE/\df N' σ' (λ_=>true) env env1/\cH N' σ' bE/\kk<=N':=by
 unfold F6 at h;split at h;exact⟨σ,kk,σ1,h,Conv.refl,he,aH,e' _⟩
 . rename_i q cs j b e;obtain⟨g,f⟩:=Ea e;split at h
   . rename_i t l a
     obtain⟨s1,m,o,p⟩:=Nd (kk:=kk) g f a (λd i=>by
      cases i with
      |arr _ sz n _ c=>
       have c:=c _ a _ rfl
       grind) (e' _) he aH
     grind
   exact⟨σ,kk,σ1,h,Conv.refl,he,aH,e' _⟩
inductive Pos where
 |slot (k:Nat)
 |cell (b j:Nat)
 |via (k j:Nat)
def Cr(b j:Nat)(t:aO)(env:b8 U)(σ:bm U)(N:Nat):ai (b8 U×bm U):=
 match ba σ b with
 |some (.box cs)=>match cs[j]? with
  |some .bX=>some (env,cW (cW σ N (.arr t [])) b (.box (cs.set j (.arr N))))
  |_=>some (env,σ)
 |_=>none
def JF(p:Pos)(t:aO)(env:b8 U)(σ:bm U)(N:Nat):ai (b8 U×bm U):=
 match p with
 |.slot k=>match ba env k with
  |some (.c .bX)=>some ((k,.c (.arr N))::env,cW σ N (.arr t []))
  |_=>some (env,σ)
 |.cell b j=>Cr b j t env σ N
 |.via k j=>match ba env k with
  |some (.c (.ptr b _))=>Cr b j t env σ N
  |_=>none
def F8:I (Pos×aO)->b8 U->bm U->Nat->ai (b8 U×bm U×Nat)
 |[],env,σ,N=>some (env,σ,N)
 |(p,t)::r,env,σ,N=>match JF p t env σ N with
  |some (env',σ')=>F8 r env' σ' (N+1)
  |none=>none
theorem OI{t:aO}(he:df N σ (λ_=>true) env env1)(aH:cH N σ σ1)(g:kk<=N):∃c bE,Conv kk N env1 σ1 (N+1) c bE/\df (N+1) σ (λ_=>true) env c/\cH (N+1) σ bE:=by
 refine⟨env1,dA _ N (.arr 1 []),λaB nt φ S a w f R=>⟨_,S,R.Hm (by simp) (by omega)⟩,he.mono (dI.more (by simp)),λb x aa=>?_⟩;obtain⟨h1,y,e,d⟩:=aH b x aa;exact⟨by omega,y,by grind[dk],d.mono (dI.more (by simp))⟩
theorem Jk{b:Nat}(h:Cr b j t env σ N=some (env',σ'))(he:df N σ (λ_=>true) env env1)(aH:cH N σ σ1)(g:kk<=N):
 ∃f bE,Conv kk N env1 σ1 (N+1) f bE/\df (N+1) σ' (λ_=>true) env' f/\cH (N+1) σ' bE:=by
 have same:=OI (t:=t) he aH g;unfold Cr at h;split at h
 . rename_i cs k;split at h
   . rename_i n;cases h;obtain⟨i,y,h1,a⟩:=aH b _ k;cases a with
     | @box _ q a=>
      obtain⟨d,m,o⟩:=a.get n;cases o;have c:dI N σ (N+1) (cW σ N (.arr t [])):=lg;have l:ba (cW σ N (.arr t [])) b=some (.box cs):=by rw[h'];grind
      have e:dI (N+1) _ (N+1) (cW _ b (.box (cs.set j (.arr N)))):=oS (e' _) l (λp h=>by grind[dc.dD]);refine⟨_,_,Conv.ak9 h1 m i (aO.yl (t:=t) (U:=U)) g,(he.mono c).mono e,(aH.put (by simp) c (.arr t [])).put (by omega) e (.box ?_)⟩;refine bc.set (a.imp λ_ _ _ h=>(h.mono c).mono e) (.arr N _ _ (by simp) λx aa p ar=>?_);rw[h',h']at aa;grind[dc.dD]
   grind
 grind
theorem ab1{p:Pos}(h:JF p t env σ N=some (env',σ'))(he:df N σ (λ_=>true) env env1)(aH:cH N σ σ1)(e:kk<=N):
 ∃d bE,Conv kk N env1 σ1 (N+1) d bE/\df (N+1) σ' (λ_=>true) env' d/\cH (N+1) σ' bE:=by
 have same:=OI (t:=t) he aH e;unfold JF at h;split at h
 . rename_i k;split at h
   . rename_i j;cases h;obtain⟨v1,h1,g⟩:=he k _ j;have:=g.v7;subst this;have f:dI N σ (N+1) (cW σ N (.arr t [])):=lg;refine⟨_,_,Conv.own h1 (aO.yl (t:=t) (U:=U)) e,λi v a=>?_,aH.put (by simp) f (.arr t [])⟩;simp only[ba]at a;simp only[look];split at a
     rename_i b;cases a;rw[ag (dh b)];refine⟨_,rfl,.c (.arr N _ _ (by simp) λx aa p ar=>?_)⟩;rw[h',ag rfl]at aa;grind[dc.dD];rename_i b;rw[aq (iG b)];exact(he.mono f) i v a
   grind
 grind[Jk];grind[Jk]
def K4:I (bB U)->I J->J
 |[],[]=>true
 |.t _::cs,false::bs=>K4 cs bs
 |.bX::cs,true::bs=>K4 cs bs
 |_,_=>false
def VZ(cs:I (bB U)):I (I J×Nat×aO)->ai (Nat×aO)
 |[]=>none
 |(bs,p)::r=>match K4 cs bs with
  |true=>some p
  |false=>VZ cs r
def Lv(l:I (I J×Nat×aO)):bm U->ai (Nat×Nat×aO)
 |[]=>none
 |(q,.box cs)::r=>match VZ cs l with
  |some p=>some (q,p)
  |none=>Lv l r
 |_::r=>Lv l r
def F'{R:Type}(env:b8 U)(σ:bm U)(N:Nat)(k:b8 U->bm U->Nat->ai R):ai R:=
 match Lv U.own σ with
 |none=>Gb σ N λσ N=>k env σ N
 |some (q,j,t)=>match Cr q j t env σ N with
  |some (env,σ)=>Gb σ (N+1) λσ N=>k env σ N
  |none=>none
theorem NQ{k:b8 U->bm U->Nat->ai R}{r:R}(h:F' env σ N k=some r)(he:df N σ (λ_=>true) env env1)(aH:cH N σ σ1)(d:kk<=N):
 ∃env' σ' N' a bE,k env' σ' N'=some r/\Conv kk N env1 σ1 N' a bE/\df N' σ' (λ_=>true) env' a/\cH N' σ' bE/\N<=N':=by
 unfold F' at h;split at h;obtain⟨i,c,g,g1,g2,g3,g4,b⟩:=NO h he aH;exact⟨_,_,_,_,_,g1,g2,g3,g4,b⟩
 . split at h
   rename_i e s f;obtain⟨aK,s1,c1,c2,c3⟩:=Jk f he aH d;obtain⟨i,c,g,g1,g2,g3,g4,b⟩:=NO h c2 c3;exact⟨_,_,_,_,_,g1,c1.trans g2,g3,g4,by omega⟩;grind
theorem Nf:∀{l:I (Pos×aO)} {env env':b8 U} {σ σ':bm U} {N N':Nat} {env1:Env} {σ1:bh},F8 l env σ N=some (env',σ',N')->df N σ (λ_=>true) env env1->cH N σ σ1->kk<=N->
 ∃a bE,Conv kk N env1 σ1 N' a bE/\df N' σ' (λ_=>true) env' a/\cH N' σ' bE/\N<=N'
 |[],env,env',σ,σ',N,N',env1,σ1,h,he,aH,b=>by obtain⟨rfl,rfl,rfl⟩:=h;exact⟨env1,σ1,Conv.refl,he,aH,e' _⟩
 |(p,t)::r,env,env',σ,σ',N,N',env1,σ1,h,he,aH,b=>by
  simp[F8]at h;split at h;rename_i e s h1;obtain⟨aK,s1,bj,bq,b4⟩:=ab1 h1 he aH b;obtain⟨c,i,d,f,g,j⟩:=Nf h bq b4 (by omega);exact⟨c,i,bj.trans d,f,g,by omega⟩;grind
end
end
section
open Go
variable {U:c0}
inductive gS where
 |hole (ty:aO)
 |ptr (b o:Nat)
 |c9 (b:Nat)(ty:aO)(o:Nat)
 |ep (ty:aO)(o:Nat)
 |arr (b:Nat)
 |mp (b:Nat)
 |cQ (b:Nat)
 |bX
 |fN
 |fM
 |fn (f:Nat)(caps:bb)
 |dead
inductive dO where
 |c (s:gS)
 |agg (l:List gS)
 |row (n:Nat)
 |bd (l:List dO)
inductive dZ where
 |box (l:List gS)
 |arr (ty:aO)
 |bl (n:Nat)
 |gone
 |set
 |buf (E:Nat)
 |cu (E:Nat)(s:gS)
structure Shape where
 env:List (Nat×dO)
 st:List dZ
abbrev fh(U:c0):=I (bZ U.D)
def wo:gS->fh U->bB U×fh U
 |.hole _,c::r=>(.t c,r)
 |.hole _,[]=>(.dead,[])
 |.ptr b o,r=>(.ptr b o,r)
 |.c9 b ty o,⟨.int _,n⟩::r=>(.c9 b ty (Int.toNat n) o,r)
 |.c9 _ _ _,r=>(.dead,r)
 |.ep _ o,c::r=>(.ep c.ty c.val o,r)
 |.ep _ _,[]=>(.dead,[])
 |.arr b,r=>(.arr b,r)
 |.mp b,r=>(.mp b,r)
 |.cQ b,r=>(.cQ b,r)
 |.bX,r=>(.bX,r)
 |.fN,r=>(.fN,r)
 |.fM,r=>(.fM,r)
 |.fn f caps,r=>(.fn f caps,r)
 |.dead,r=>(.dead,r)
def y':I gS->fh U->I (bB U)×fh U
 |[],r=>([],r)
 |s::ss,r=>match wo s r with
  |(x,a)=>match y' ss a with
   |(xs,b)=>(x::xs,b)
mutual
def mF:dO->fh U->bU U×fh U
 |.c s,r=>match wo s r with
  |(x,a)=>(.c x,a)
 |.agg l,r=>match y' l r with
  |(xs,a)=>(.agg xs,a)
 |.row _,c::r=>(.agg ((c.ty.row U c.val).map .t),r)
 |.row _,[]=>(.bd [],[])
 |.bd l,r=>match kL l r with
  |(xs,a)=>(.bd xs,a)
def kL:I dO->fh U->I (bU U)×fh U
 |[],r=>([],r)
 |s::ss,r=>match mF s r with
  |(x,a)=>match kL ss a with
   |(xs,e)=>(x::xs,e)
end
def C1:I (Nat×dO)->fh U->b8 U×fh U
 |[],r=>([],r)
 |(k,s)::ss,r=>match mF s r with
  |(x,a)=>match C1 ss a with
   |(xs,b)=>((k,x)::xs,b)
def kl:dZ->fh U->ai (dc U)×fh U
 |.box l,r=>match y' l r with
  |(xs,a)=>(some (.box xs),a)
 |.arr _,⟨.slice t,l⟩::r=>(some (.arr t l),r)
 |.arr _,r=>(none,r)
 |.bl _,c::r=>(some (.box ((c.ty.row U c.val).map .t)),r)
 |.bl _,[]=>(none,[])
 |.gone,r=>(none,r)
 |.set,⟨.slice .str,l⟩::r=>(some (.set l),r)
 |.set,r=>(none,r)
 |.buf E,⟨.str,s⟩::r=>(some (.buf E s),r)
 |.buf _,r=>(none,r)
 |.cu E s,r=>match wo s r with
  |(x,a)=>(some (.cu E x),a)
def h9:Nat->I dZ->fh U->bm U
 |_,[],_=>[]
 |j,s::ss,r=>match kl s r with
  |(some x,a)=>(j,x)::h9 (j+1) ss a
  |(none,a)=>h9 (j+1) ss a
def rr{α:Type}:I α->Nat->ai α
 |[],_=>none
 |a::_,0=>some a
 |_::l,n+1=>rr l n
theorem Fp{α:Type}:∀{l:I α} {n:Nat},rr l n=l[n]?
 |[],n=>by rfl
 |a::l,0=>by rfl
 |a::l,n+1=>by simp[rr,Fp]
def ru(bs:bb)(j b:Nat):J:=match rr bs j with
 |some a=>Nat.beq a b
 |none=>false
def CH(bs:bb):bb->bb->J
 |[],[]=>true
 |j::a,c::cs=>ru bs j c&&CH bs a cs
 |_,_=>false
def Ik(ty:aO):bB U->ai (bZ U.D)
 |.t c=>match bZ.as ty c with
  |some x=>some ⟨ty,x⟩
  |none=>none
 |.bX=>match ty with
  |.slice t=>some ⟨.slice t,([]:I (t.den U.D))⟩
  |_=>none
 |_=>none
def yP(bs:bb):gS->bB U->ai (fh U)
 |.hole ty,x=>match Ik ty x with
  |some c=>some [c]
  |none=>none
 |.ptr j o,.ptr b a=>match ru bs j b&&Nat.beq o a with
  |true=>some []
  |false=>none
 |.c9 j ty o,.c9 b d i a=>match ru bs j b&&(Nat.beq o a&&aO.beq ty d)with
  |true=>some [⟨.int .i64,(i:Int)⟩]
  |false=>none
 |.ep ty o,.ep d x a=>match Nat.beq o a,bZ.as ty (⟨d,x⟩:bZ U.D)with
  |true,some x=>some [⟨ty,x⟩]
  |_,_=>none
 |.arr j,.arr b=>match ru bs j b with
  |true=>some []
  |false=>none
 |.mp j,.mp b=>match ru bs j b with
  |true=>some []
  |false=>none
 |.cQ j,.cQ b=>match ru bs j b with
  |true=>some []
  |false=>none
 |.bX,.bX=>some []
 |.fN,.fN=>some []
 |.fM,.fM=>some []
 |.fn f g,.fn e cs=>match Nat.beq f e&&CH bs g cs with
  |true=>some []
  |false=>none
 |.dead,_=>some []
 |_,_=>none
def rk(bs:bb):I gS->I (bB U)->ai (fh U)
 |[],[]=>some []
 |s::ss,x::xs=>match yP bs s x,rk bs ss xs with
  |some a,some b=>some (a++b)
  |_,_=>none
 |_,_=>none
mutual
def kj(bs:bb):dO->bU U->ai (fh U)
 |.c s,.c x=>yP bs s x
 |.agg l,.agg xs=>rk bs l xs
 |.row n,.agg xs=>match ra U (.nm n) xs with
  |some x=>some [⟨.nm n,x⟩]
  |none=>none
 |.bd l,.bd xs=>ng bs l xs
 |_,_=>none
def ng(bs:bb):I dO->I (bU U)->ai (fh U)
 |[],[]=>some []
 |s::ss,x::xs=>match kj bs s x,ng bs ss xs with
  |some a,some b=>some (a++b)
  |_,_=>none
 |_,_=>none
end
def yQ(bs:bb)(env:b8 U):I (Nat×dO)->ai (fh U)
 |[]=>some []
 |(k,s)::ss=>match ba env k with
  |some x=>match kj bs s x,yQ bs env ss with
   |some a,some b=>some (a++b)
   |_,_=>none
  |none=>none
def pE(bs:bb):dZ->dc U->ai (fh U)
 |.box l,.box xs=>rk bs l xs
 |.arr ty,.arr t l=>match bZ.as (.slice ty) (⟨.slice t,l⟩:bZ U.D)with
  |some l=>some [⟨.slice ty,l⟩]
  |none=>none
 |.arr ty,.rows sz r=>match Nat.beq (ty.sz U) sz,mT U ty r with
  |true,some l=>some [⟨.slice ty,l⟩]
  |_,_=>none
 |.bl n,.box xs=>match ra U (.nm n) xs with
  |some x=>some [⟨.nm n,x⟩]
  |none=>none
 |.set,.set l=>some [⟨.slice .str,l⟩]
 |.buf E,.buf a s=>match Nat.beq E a with
  |true=>some [⟨.str,s⟩]
  |false=>none
 |.cu E s,.cu a x=>match Nat.beq E a with
  |true=>yP bs s x
  |false=>none
 |_,_=>none
def jz(bs:bb)(σ:bm U):Nat->I dZ->ai (fh U)
 |_,[]=>some []
 |j,.gone::ss=>jz bs σ (j+1) ss
 |j,s::ss=>match rr bs j with
  |some b=>match ba σ b with
   |some x=>match pE bs s x,jz bs σ (j+1) ss with
    |some a,some r=>some (a++r)
    |_,_=>none
   |none=>none
  |none=>none
variable{a:fh U}{ss:I dZ}
section
variable {kk N:Nat}{σ σc:bm U}{σ1:bh}{env:b8 U}{env1:Env}{bs:bb}
def Can(bs:bb)(σ σc:bm U):Prop:=∀j b a,bs[j]?=some b->ba σc j=some a->∃x,ba σ b=some x/\∀p,a.dD=some p->x.dD=some p
theorem nM(ck:bs.Nodup){j b:Nat}(h:bs[j]?=some b):pos bs b=some j:=by
 induction bs generalizing j with
 |nil=>grind
 |cons a bs ih=>
  grind[pos]
theorem x3{j b:Nat}(h:ru bs j b):bs[j]?=some b:=by
 unfold ru at h;rw[Fp]at h;split at h
 all_goals simp_all
theorem Ng(ck:bs.Nodup):∀{a cs:bb},CH bs a cs->qn bs cs=some a
 |[],[],_=>rfl
 |j::a,c::cs,h=>by
  simp[CH]at h;simp[qn,nM ck (x3 h.1),Ng ck h.2]
theorem acQ{ty:aO}{x:bB U}{c:bZ U.D}{d:C}(h:Ik ty x=some c)(a:cy N σ x d):eg (d.cc bs) (.t (c.enc U))/\c.ty=ty:=by
 unfold Ik at h;split at h
 . split at h
   rename_i b y al;cases h;rw[bZ.kA al]at a;cases a;exact⟨eg.refl _,rfl⟩;grind
 . split at h
   cases h;cases a;exact⟨eg.bX,rfl⟩;grind
 grind
theorem Ks(ck:bs.Nodup)(u:Can bs σ σc){s:gS}{x:bB U}(h:yP bs s x=some a):
 ∃y,(∀r,wo s (a++r)=(y,r))/\∀d,cy N σ x d->∃q,eg (d.cc bs) q/\cy bs.length σc y q:=by
 unfold yP at h;split at h
 . split at h
   rename_i c A;cases h;exact⟨.t c,λr=>rfl,λd g=>⟨_,(acQ A g).1,.t c⟩⟩;grind
 . rename_i j o b v;split at h
   rename_i k;simp only[dr]at k;have:=dh k.2;subst this;cases h;refine⟨.ptr j o,λr=>rfl,λd g=>⟨.ptr j o,?_,.ptr j o⟩⟩;cases g;simp only[C.cc,nM ck (x3 k.1)];exact eg.refl _;grind
 . rename_i j ty o b D i v;split at h
   rename_i k;simp only[dr]at k;have:=dh k.2.1;subst this;have:=aO.beq_eq k.2.2;subst this;cases h;refine⟨.c9 j ty i o,λr=>rfl,λd g=>⟨.c9 j (ty.sz U) i o,?_,.c9 j ty i o⟩⟩;cases g;simp only[C.cc,nM ck (x3 k.1)];exact eg.refl _;grind
 . rename_i ty o D x v;split at h
   . rename_i y B al;have:=dh B;subst this;cases h;have e:=bZ.kA al;cases e;refine⟨.ep ty y o,λr=>rfl,λd g=>⟨d,?_,?_⟩⟩
     cases g;exact eg.refl _;cases g;exact .ep ty y o
   grind
 . rename_i j b;split at h
   . rename_i k;cases h;refine⟨.arr j,λr=>rfl,λd g=>?_⟩;cases g with
     |arr _ sz n z ad=>
      have l:=x3 k;refine⟨.arr j sz 0 n,?_,.arr j sz n (ev.1 l).1 λx aa p ar=>?_⟩;simp only[C.cc,nM ck l];exact eg.refl _;obtain⟨E,h1,w⟩:=u j b x l aa;grind
   grind
 . rename_i j b;split at h
   rename_i k;cases h;refine⟨.mp j,λr=>rfl,λd g=>?_⟩;cases g;refine⟨.mp j,?_,.mp j⟩;simp only[C.cc,nM ck (x3 k)];exact eg.refl _;grind
 . rename_i j b;split at h
   . rename_i k;cases h;refine⟨.cQ j,λr=>rfl,λd g=>?_⟩;cases g with
     |cQ _ n z ad=>
      have l:=x3 k;refine⟨.cQ j n,?_,.cQ j n (ev.1 l).1 λx aa p ar=>?_⟩;simp only[C.cc,nM ck l];exact eg.refl _;obtain⟨E,h1,w⟩:=u j b x l aa;grind
   grind
 cases h;exact⟨.bX,λr=>rfl,λd g=>by cases g;exact⟨.bX,eg.refl _,.bX⟩⟩;cases h;exact⟨.fN,λr=>rfl,λd g=>by cases g;exact⟨.fN,eg.refl _,.fN⟩⟩;cases h;exact⟨.fM,λr=>rfl,λd g=>by cases g;exact⟨.fM,eg.refl _,.fM⟩⟩
 . rename_i f m F cs;split at h
   rename_i k;simp only[dr]at k;have:=dh k.1;subst this;cases h;refine⟨.fn f m,λr=>rfl,λd g=>⟨.fn f m,?_,.fn f m⟩⟩;cases g;simp only[C.cc,Ng ck k.2];exact eg.refl _;grind
 cases h;exact⟨.dead,λr=>rfl,λd g=>⟨.dead,eg.dead _,.dead _⟩⟩;cases h
theorem Jl(ck:bs.Nodup)(f:Can bs σ σc):∀{ss:I gS} {xs:I (bB U)} {a:fh U},rk bs ss xs=some a->
 ∃d,(∀r,y' ss (a++r)=(d,r))/\∀b,bc (cy N σ) xs b->∃c,bc eg (b.map (C.cc bs)) c/\bc (cy bs.length σc) d c
 |[],[],a,h=>by simp[rk]at h;subst h;exact⟨[],λr=>rfl,λb e=>by cases e;exact⟨[],.nil,.nil⟩⟩
 |s::ss,x::xs,a,h=>by
  simp[rk]at h;split at h
  . rename_i a1 a2 h1 k;cases h;obtain⟨y,f1,g1⟩:=Ks ck f h1;obtain⟨d,f2,g2⟩:=Jl ck f k;refine⟨y::d,λr=>by simp[y',f1,f2],λb e=>?_⟩;cases e with
    |cons wv l=>
     obtain⟨g,aK,i⟩:=g1 _ wv;obtain⟨c,dB,j⟩:=g2 _ l;exact⟨g::c,.cons aK dB,.cons i j⟩
  grind
 |[],_::_,a,h=>by simp[rk]at h
 |_::_,[],a,h=>by grind[rk]
theorem OJ{n:Nat}{xs:I (bB U)}{x:(aO.nm n).den U.D}(h:ra U (.nm n) xs=some x):∀b,bc (cy N σ) xs b->∃f,bc eg (b.map (C.cc bs)) f/\bc (cy bs.length σc) (((aO.nm n).row U x).map .t) f:=by
 intro b i;refine⟨((aO.nm n).enc U x).map .t,?_,AI⟩;unfold ra at h;split at h
 . rename_i row a;rw[aO.wk,aO.Hl h];clear h;generalize (aO.nm n).cells U=dR at a;induction xs generalizing dR row b with
   |nil=>
    cases i;cases dR<;>simp[ji]at a;subst a;exact .nil
   |cons y j ih=>
    cases i with
    | @cons _ d _ b h1 g=>
     cases dR with
     |nil=>grind[ji]
     |cons ty dR=>
      cases h1 with
      |t c=>cases ty<;>simp[ji]at a<;>(split at a<;>first|(cases a;done)|(rename_i q e;cases a;exact .cons (eg.refl _) (ih _ g _ _ e)))
      |bX=>
       cases ty<;>simp[ji]at a;split at a;rename_i q e;cases a;exact .cons eg.bX (ih _ g _ _ e);grind
      |_=>grind[ji]
 grind
mutual
theorem GO(ck:bs.Nodup)(w:Can bs σ σc):∀{s:dO} {x:bU U} {a:fh U},kj bs s x=some a->
 ∃y,(∀r,mF s (a++r)=(y,r))/\∀d,cb N σ x d->∃j,hA (d.cc bs) j/\cb bs.length σc y j
 |.c s,.c x,a,h=>by
  simp only[kj]at h;obtain⟨y,f,g⟩:=Ks (N:=N) ck w h;refine⟨.c y,λr=>by simp only[mF,f],λd e=>?_⟩;cases e with
  |c e=>obtain⟨j,aK,q⟩:=g _ e;exact⟨.c j,.c aK,.c q⟩
 |.agg l,.agg xs,a,h=>by
  simp only[kj]at h;obtain⟨y,f,g⟩:=Jl (N:=N) ck w h;refine⟨.agg y,λr=>by simp only[mF,f],λd e=>?_⟩;cases e with
  |agg e=>obtain⟨j,aK,q⟩:=g _ e;exact⟨.agg j,.agg aK,.agg q⟩
 |.row n,.agg xs,a,h=>by
  simp only[kj]at h;split at h
  . rename_i x aa;cases h;refine⟨.agg (((aO.nm n).row U x).map .t),λr=>rfl,λd e=>?_⟩;cases e with
    |agg e=>obtain⟨j,aK,q⟩:=OJ aa _ e;exact⟨.agg j,.agg aK,.agg q⟩
  cases h
 |.bd l,.bd xs,a,h=>by
  simp only[kj]at h;obtain⟨v,f,ak,g⟩:=wa ck w h;refine⟨.bd v,λr=>by simp only[mF,f],λd e=>?_⟩;cases e with
  |bd _ o E e=>
   obtain⟨p,aK,q,dB⟩:=g o E e;refine⟨.bd p,.bd _ _ (by rw[DX];exact aK.symm) ?_,.bd _ _ (by omega) λi x d aa A=>(dB i x d aa A)⟩;intro i x y aa al;rw[Ff,bL]at aa;grind
 |.c _,.agg _,a,h=>by simp[kj]at h
 |.c _,.bd _,a,h=>by simp[kj]at h
 |.agg _,.c _,a,h=>by simp[kj]at h
 |.agg _,.bd _,a,h=>by simp[kj]at h
 |.row _,.c _,a,h=>by simp[kj]at h
 |.row _,.bd _,a,h=>by simp[kj]at h
 |.bd _,.c _,a,h=>by simp[kj]at h
 |.bd _,.agg _,a,h=>by simp[kj]at h
theorem wa(ck:bs.Nodup)(w:Can bs σ σc):∀{ss:I dO} {xs:I (bU U)} {a:fh U},ng bs ss xs=some a->
 ∃v:I (bU U),(∀r,kL ss (a++r)=(v,r))/\v.length=xs.length/\∀o:I V,xs.length=o.length->(∀(i:Nat) x d,xs[i]?=some x->o[i]?=some d->cb N σ x d)->
  ∃p:I V,p.length=o.length/\(∀(i:Nat) (d j:V),o[i]?=some d->p[i]?=some j->hA (d.cc bs) j)/\(∀(i:Nat) y j,v[i]?=some y->p[i]?=some j->cb bs.length σc y j)
 |[],[],a,h=>by simp[ng]at h;subst h;exact⟨[],λr=>rfl,rfl,λo ak e=>⟨[],by simpa using ak,by simp,by simp⟩⟩
 |s::ss,x::xs,a,h=>by
  simp only[ng]at h;split at h
  . rename_i a1 a2 h1 D;cases h;obtain⟨y,f1,g1⟩:=GO ck w h1;obtain⟨v,f2,ak,g2⟩:=wa ck w D;refine⟨y::v,λr=>by simp only[kL,j1,f1,f2],by simp[ak],λo B e=>?_⟩;cases o with
    |nil=>simp at B
    |cons d o=>
     obtain⟨j,aK,q⟩:=g1 d (e 0 x d rfl rfl);obtain⟨p,dB,F,iW⟩:=g2 o (by simpa using B) λi x d aa A=>e (i+1) x d (by simpa using aa) (by simpa using A);refine⟨j::p,by simp[dB],λi=>?_,λi=>?_⟩;grind;grind
  cases h
 |[],_::_,a,h=>by simp[ng]at h
 |_::_,[],a,h=>by simp[ng]at h
end
theorem I8:∀{ks:bb} {k:Nat} {g:J} {v:V},k∈ks->look env1 k=some (g,v)->look (oW bs env1 ks) k=some (g,v.cc bs)
 |x::ks,k,g,v,b,ak=>by
  simp[oW];by_cases h:x=k;grind[look]
  . have a:k∈ks:=(by grind);split
    simp[look,aq h];exact I8 a ak;exact I8 a ak
theorem Nh(ck:bs.Nodup)(f:Can bs σ σc)(he:df N σ (λ_=>true) env env1):∀{ss:I (Nat×dO)} {a:fh U},yQ bs env ss=some a->
 ∃e,(∀r,C1 ss (a++r)=(e,r))/\∃c:Env,df bs.length σc (λ_=>true) e c/\∀k g j,look c k=some (g,j)->k∈ss.map Prod.fst/\∃v,look env1 k=some (g,v)/\hA (v.cc bs) j
 |[],a,h=>by simp[yQ]at h;subst h;exact⟨[],λr=>rfl,[],λk v p=>by grind[ba],λk g v h=>by grind[look]⟩
 |(k,s)::ss,a,h=>by
  simp[yQ]at h;split at h
  . rename_i x aa;split at h
    . rename_i a1 a2 h1 m;cases h;obtain⟨y,f1,g1⟩:=GO ck f h1;obtain⟨e,f2,c,aK,o⟩:=Nh ck f he m;obtain⟨d,bj,bq⟩:=he k x aa;obtain⟨l,q,t⟩:=g1 d bq;refine⟨(k,y)::e,λr=>by simp[C1,f1,f2],(k,true,l)::c,λi v b=>?_,λi g v b=>?_⟩
      . simp[ba]at b;simp[look];split at b
        simp_all;rename_i n;rw[aq (iG n)];exact aK i v b
      simp[look]at b;grind
    cases h
  grind
theorem Kt(ck:bs.Nodup)(k:Can bs σ σc){s:dZ}{x:dc U}(h:pE bs s x=some a):
 ∃y,(∀r,kl s (a++r)=(some y,r))/\(∀d,iD N σ x d->∃i,kY (d.cc bs) i/\iD bs.length σc y i):=by
 unfold pE at h;split at h
 . obtain⟨n,f,g⟩:=Jl ck k h;refine⟨.box n,λr=>by grind[kl],λd b=>?_⟩;cases b with
   |box b=>obtain⟨j,aK,c⟩:=g _ b;exact⟨.box _,.box aK,.box c⟩
 . rename_i ty t p;split at h
   rename_i l ak;cases h;have e:=bZ.kA ak;cases e;refine⟨.arr ty l,λr=>rfl,λd b=>?_⟩;cases b;exact⟨_,.arr,.arr ty l⟩;grind
 . rename_i ty sz r;split at h
   . rename_i l m ak;cases h;have:=dh m;subst this;refine⟨.arr ty l,λr=>rfl,λd b=>?_⟩;cases b with
     |rows h1 o=>
      refine⟨_,.arr,?_⟩;rw[<-xq ak h1];exact .arr ty l
   grind
 . split at h
   . rename_i x aa;cases h;refine⟨.box _,λr=>rfl,λd b=>?_⟩;cases b with
     |box b=>obtain⟨j,aK,c⟩:=OJ aa _ b;exact⟨.box j,.box aK,.box c⟩
   grind
 cases h;refine⟨.set _,λr=>rfl,λd b=>?_⟩;cases b;exact⟨_,.same,.set _⟩
 . split at h
   rename_i eI;have:=dh eI;subst this;cases h;refine⟨.buf _ _,λr=>rfl,λd b=>?_⟩;cases b;exact⟨_,.same,.buf _ _⟩;grind
 . split at h
   . rename_i eI;have:=dh eI;subst this;obtain⟨y,f,g⟩:=Ks ck k h;refine⟨.cu _ y,λr=>by simp[kl,f];rfl,λd b=>?_⟩;cases b with
     |cu b=>obtain⟨i,aK,c⟩:=g _ b;exact⟨.cu _ i,.cu aK,.cu c⟩
   grind
 grind
theorem NR{t:aO}:∀{r:I (I (bB U))} {l:I (t.den U.D)},mT U t r=some l->l.length=r.length
 |[],l,h=>by grind[mT]
 |r::b,l,h=>by
  simp[mT]at h;split at h;rename_i x xs aa a;cases h;simp[NR a];grind
theorem afa{s:dZ}{x y:dc U}{r:fh U}(h:pE bs s x=some a)(b:kl s (a++r)=(some y,r)):∀p,y.dD=some p->x.dD=some p:=by
 unfold pE at h;split at h;grind[kl,dc.dD]
 . split at h
   rename_i l ak;have e:=bZ.kA ak;simp only[kl,xI,iY,vg]at b;grind;grind
 . split at h
   rename_i l c ak;have:=dh c;subst this;simp only[kl,xI,iY,vg]at b;grind[dc.dD,NR];grind
 . split at h
   cases h;intro p ar;simp only[kl,xI,iY,eB,eo,vg]at b;grind[dc.dD];grind
 simp only[kl,xI,iY,eB,eo,vg]at b;grind
 . split at h
   rename_i eI;have:=dh eI;simp only[kl,xI,iY,eB,eo,vg]at b;grind;grind
 grind[kl,dc.dD];grind
theorem p'(ck:bs.Nodup):∀{ss:I dZ} {j:Nat} {a:fh U},jz bs σ j ss=some a->
 (∀i c,ba (h9 j ss a) i=some c->j<=i/\i<j+ss.length/\∃b x,bs[i]?=some b/\ba σ b=some x/\∃s d,pE bs s x=some d/\∀r,kl s (d++r)=(some c,r))
 |[],j,a,h=>by grind[h9,ba]
 |.gone::ss,j,a,h=>by
  intro i c e;simp only[jz]at h;obtain⟨h1,g,m⟩:=p' ck h i c e;grind
 |.box l::ss,j,a,h=>v' ck (λ{j a}=>p' ck) (by simpa only[jz]using h)
 |.arr l::ss,j,a,h=>v' ck (λ{j a}=>p' ck (a:=a)) (by simpa only[jz]using h)
 |.bl l::ss,j,a,h=>v' ck (λ{j a}=>p' ck (ss:=ss) (j:=j) (a:=a)) (by simpa only[jz]using h)
 |.set::ss,j,a,h=>v' ck (λ{j a}=>p' ck (ss:=ss) (j:=j) (a:=a)) (by simpa only[jz]using h)
 |.buf E::ss,j,a,h=>v' ck (λ{j a}=>p' ck (ss:=ss) (j:=j) (a:=a)) (by simpa only[jz]using h)
 |.cu E l::ss,j,a,h=>v' ck (λ{j a}=>p' ck (ss:=ss) (j:=j) (a:=a)) (by grind[jz])
where
 v' (ck:bs.Nodup) {s:dZ} {ss:I dZ} (ih:∀{j:Nat} {a:fh U},jz bs σ j ss=some a->
  (∀i c,ba (h9 j ss a) i=some c->j<=i/\i<j+ss.length/\∃b x,bs[i]?=some b/\ba σ b=some x/\∃s d,pE bs s x=some d/\∀r,kl s (d++r)=(some c,r))) {j:Nat} {a:fh U} (h:(match rr bs j with
  |some b=>match ba σ b with
   |some x=>match pE bs s x,jz bs σ (j+1) ss with
    |some a,some r=>some (a++r)
    |_,_=>none
   |none=>none
  |none=>none)=some a):(∀i c,ba (h9 j (s::ss) a) i=some c->j<=i/\i<j+(s::ss).length/\∃b x,bs[i]?=some b/\ba σ b=some x/\∃s d,pE bs s x=some d/\∀r,kl s (d++r)=(some c,r)):=by
  intro i c e;split at h
  . rename_i b k;rw[Fp]at k;split at h
    . split at h
      rename_i a1 a2 h1 g;cases h;obtain⟨y,f,_⟩:=Kt (N:=0) (σ:=σ) (σc:=[]) ck (λ_ _ _ _ h=>by simp[ba]at h) h1;simp only[h9,f,ba]at e;grind[dh];cases h
    cases h
  cases h
def gq(U:c0)(sh:Shape)(a:fh U):b8 U×bm U:=
 match C1 sh.env a with
 |(e,r)=>(e,h9 0 sh.st r)
def GN(bs:bb)(sh:Shape)(env:b8 U)(σ:bm U):ai (fh U):=
 match yQ bs env sh.env,jz bs σ 0 sh.st with
 |some a,some b=>some (a++b)
 |_,_=>none
theorem Bp(ck:bs.Nodup){b:fh U}(g:jz bs σ 0 ss=some b):Can bs σ (h9 0 ss b):=by
 intro j c k a i;obtain⟨_,_,m,x,h1,d,s,l,e,f⟩:=p' ck g j k i;rw[h1]at a;cases a;exact⟨x,d,afa e (f [])⟩
theorem A7:∀{r:bb} {i j c:Nat} {x:cd},r[j]?=some c->aZ σ1 c=some x->aZ (gB bs σ1 i r) (i+j)=some (x.cc bs)
 |[],i,j,c,x,h,_=>by grind
 |b::r,i,0,c,x,h,aa=>by
  grind[gB,aZ]
 |b::r,i,j+1,c,x,h,aa=>by
  simp[gB];have:=A7 (i:=i+1) (j:=j) (r:=r) (by grind) aa;grind[aZ]
theorem EC(ck:bs.Nodup)(aH:cH N σ σ1){b:fh U}(o:jz bs σ 0 ss=some b):
 ∃bE,tg (gB bs σ1 0 bs) bE/\cH bs.length (h9 0 ss b) bE:=by
 have E:=Bp ck o;have aa:=p' ck o;generalize h9 0 ss b=σc at*;have key:∀(l:bm U),(∀i a,ba l i=some a->ba σc i=some a)->∃bE:bh,(∀i x,aZ bE i=some x->∃y,aZ (gB bs σ1 0 bs) i=some y/\kY y x)/\(∀i a,ba l i=some a->i<bs.length/\∃y,aZ bE i=some y/\iD bs.length σc a y):=by
  intro l;induction l with
  |nil=>intro _;exact⟨[],λi x h=>by grind[aZ],λi x h=>by grind[ba]⟩
  |cons p l ih=>
   obtain⟨d,t⟩:=p;intro ak;have:=by
    have aux:∀(m:bm U),(∀i a,i≠d->ba m i=some a->ba σc i=some a)->∃bE:bh,(∀i x,aZ bE i=some x->∃y,aZ (gB bs σ1 0 bs) i=some y/\kY y x)/\(∀i a,i≠d->ba m i=some a->i<bs.length/\∃y,aZ bE i=some y/\iD bs.length σc a y):=by
     intro m P;have J:∀i a,ba (dl m d) i=some a->ba σc i=some a:=by
      intro i a h;rw[nP]at h;grind
     have build:∀n,∃bE:bh,(∀i x,aZ bE i=some x->∃y,aZ (gB bs σ1 0 bs) i=some y/\kY y x)/\(∀i a,i<n->ba (dl m d) i=some a->i<bs.length/\∃y,aZ bE i=some y/\iD bs.length σc a y):=by
      intro n;induction n with
      |zero=>exact⟨[],λi x h=>by grind[aZ],λi x h=>by omega⟩
      |succ n L=>
       obtain⟨s,h1,g⟩:=L;cases aL:ba (dl m d) n with
       |none=>exact⟨s,h1,λi a k c=>g i a (by grind) c⟩
       |some D=>
        obtain⟨_,_,u,x,g1,g2,O,H,g3,g4⟩:=aa n D (J n D aL);obtain⟨_,y,bj,bq⟩:=aH u x g2;obtain⟨z,f,q⟩:=Kt (N:=N) ck E g3;have:z=D:=(by simp_all);subst this;obtain⟨r,M,w⟩:=q y bq;have ht:=A7 (bs:=bs) (i:=0) (j:=n) g1 bj;refine⟨dA s n r,λi x k=>?_,λi a k c=>?_⟩;grind[dk]
        . by_cases e:i=n
          subst e;rw[aL]at c;cases c;exact⟨(ev.1 g1).1,r,by rw[dk,ag rfl],w⟩;obtain⟨A,z,B,C⟩:=g i a (by omega) c;exact⟨A,z,by rw[dk,aq (λv=>e v.symm)];exact B,C⟩
     obtain⟨s,h1,g⟩:=build bs.length;refine⟨s,h1,λi a G c=>?_⟩;have F:ba (dl m d) i=some a:=by rw[nP,aq (λe=>G e.symm)];exact c
     grind
    exact aux l λi a G h=>ak i a (by
     grind[ba,dh])
   obtain⟨s,h1,g⟩:=this;have K:ba σc d=some t:=ak d t (by simp[ba,Nat.beq_refl]);obtain⟨_,_,u,x,g1,g2,O,H,g3,g4⟩:=aa d t K;obtain⟨_,y,bj,bq⟩:=aH u x g2;obtain⟨z,f,q⟩:=Kt (N:=N) ck E g3;have:z=t:=(by simp_all);subst this;obtain⟨r,M,w⟩:=q y bq;have ht:=A7 (bs:=bs) (i:=0) (j:=d) g1 bj;refine⟨dA s d r,λi x k=>?_,λi a c=>?_⟩;rw[dk]at k;grind
   . by_cases e:i=d
     subst e;simp[ba,Nat.beq_refl]at c;subst c;exact⟨(ev.1 g1).1,r,by rw[dk,ag rfl],w⟩
     . have F:ba l i=some a:=by
        simp only[ba]at c;cases o:Nat.beq d i with
        |true=>exact absurd (dh o).symm e
        |false=>rw[o]at c;exact c
       obtain⟨A,z,B,C⟩:=g i a e F;exact⟨A,z,by rw[dk,aq (λv=>e v.symm)];exact B,C⟩
 obtain⟨s,h1,g⟩:=key σc λ_ _ h=>h;exact⟨s,λi x k=>h1 i x k,λi a c=>g i a c⟩
theorem aeE(ck:bs.Nodup)(j:keeps kk bs)(he:df N σ (λ_=>true) env env1)(aH:cH N σ σ1){sh:Shape}(h:GN bs sh env σ=some a):
 ∃c bE,Conv kk N env1 σ1 bs.length c bE/\df bs.length (gq U sh a).2 (λ_=>true) (gq U sh a).1 c/\cH bs.length (gq U sh a).2 bE:=by
 unfold GN at h;split at h;rename_i a1 b h1 d;cases h;obtain⟨e,f,c,aK,m⟩:=Nh ck (Bp ck d) he h1;obtain⟨bE,s1,l⟩:=EC ck aH d;have i:gq U sh (a1++b)=(e,h9 0 sh.st b):=(by grind[gq]);rw[i];refine⟨c,bE,(Conv.tidy (sh.env.map Prod.fst) bs ck j).trans (Conv.weaken (λk g n ak=>?_) s1),aK,l⟩;grind[I8];grind
end
end
section
open Go
variable {U:c0}
def f'(D:Nat->Type):aO->I aO->Type
 |t,[]=>t.den D
 |t,u::r=>t.den D×f' D u r
def a8(D:Nat->Type):I aO->Type
 |[]=>Unit
 |t::r=>f' D t r
def f'.cells(D:Nat->Type):(t:aO)->(ts:I aO)->f' D t ts->I (bZ D)
 |t,[],x=>[⟨t,x⟩]
 |t,u::r,x=>⟨t,x.1⟩::f'.cells D u r x.2
def a8.cells(D:Nat->Type):(ts:I aO)->a8 D ts->I (bZ D)
 |[],_=>[]
 |t::r,x=>f'.cells D t r x
def Hi{α:Type}:I α->ai α
 |[c]=>some c
 |_=>none
def wv{α:Type}:I α->ai (α×I α)
 |[]=>none
 |c::r=>some (c,r)
def f'.dec(D:Nat->Type):(t:aO)->(ts:I aO)->I (bZ D)->ai (f' D t ts)
 |t,[],l=>match Hi l with
  |some c=>c.as t
  |none=>none
 |t,u::r,l=>match wv l with
  |some p=>match p.1.as t with
   |some x=>match f'.dec D u r p.2 with
    |some y=>some (x,y)
    |none=>none
   |none=>none
  |none=>none
def a8.dec(D:Nat->Type):(ts:I aO)->I (bZ D)->ai (a8 D ts)
 |[],l=>match l with
  |[]=>some ()
  |_=>none
 |t::r,l=>f'.dec D t r l
variable{α:Type}{D:Nat->Type}{N:Nat}{σ:bm U}
theorem acR{l:I α}{c:α}(h:Hi l=some c):l=[c]:=by
 unfold Hi at h;grind
theorem afb{l:I α}{c:α×I α}(h:wv l=some c):l=c.1::c.2:=by
 unfold wv at h;grind
theorem f'.nh:∀{ts:I aO} {t:aO} {a:I (bZ D)} {h:f' D t ts},f'.dec D t ts a=some h->f'.cells D t ts h=a
 |[],t,a,h,e=>by
  unfold f'.dec at e;split at e;rename_i c f;rw[acR f,bZ.kA e];rfl;grind
 |u::r,t,a,h,e=>by
  unfold f'.dec at e;split at e
  . split at e
    . rename_i x aa;split at e
      rename_i y al;cases e;have:=f'.nh al;show⟨t,x⟩::f'.cells D u r y=a;grind[afb,bZ.kA];grind
    grind
  grind
theorem a8.nh:∀{ts:I aO} {a:I (bZ D)} {h:a8 D ts},a8.dec D ts a=some h->a8.cells D ts h=a
 |[],[],h,e=>rfl
 |[],_::_,h,e=>by cases (show none=some h from e)
 |t::r,a,h,e=>f'.nh e
def f'.kH(U:c0):(t:aO)->(ts:I aO)->f' U.D t ts
 |t,[]=>t.kH U
 |t,u::r=>(t.kH U,f'.kH U u r)
def a8.kH(U:c0):(ts:I aO)->a8 U.D ts
 |[]=>()
 |t::r=>f'.kH U t r
abbrev kz:=I (Nat×Nat)×I (Nat×aO)
def Ia:gS->bB U->kz->kz
 |.ptr j _,.ptr b _,s=>((j,b)::s.1,s.2)
 |.c9 j _ _,.c9 b _ _ _,s=>((j,b)::s.1,s.2)
 |.arr j,.arr b,s=>((j,b)::s.1,s.2)
 |.mp j,.mp b,s=>((j,b)::s.1,s.2)
 |.cQ j,.cQ b,s=>((j,b)::s.1,s.2)
 |.fn _ a,.fn _ cs,s=>(a.zip cs++s.1,s.2)
 |.hole (.slice t),.arr b,s=>(s.1,(b,t)::s.2)
 |_,_,s=>s
def Ib:I gS->I (bB U)->kz->kz
 |a::as,x::xs,s=>Ib as xs (Ia a x s)
 |_,_,s=>s
def DS:I aO->I (bB U)->kz->kz
 |.slice t::ts,.arr b::xs,s=>DS ts xs (s.1,(b,t)::s.2)
 |_::ts,_::xs,s=>DS ts xs s
 |_,_,s=>s
mutual
def Ie:dO->bU U->kz->kz
 |.c a,.c x,s=>Ia a x s
 |.agg l,.agg xs,s=>Ib l xs s
 |.row n,.agg xs,s=>DS (U.dR n) xs s
 |.bd l,.bd xs,s=>DT l xs s
 |_,_,s=>s
def DT:I dO->I (bU U)->kz->kz
 |a::as,x::xs,s=>DT as xs (Ie a x s)
 |_,_,s=>s
end
def Ic(env:b8 U):I (Nat×dO)->kz->kz
 |[],s=>s
 |(k,a)::r,s=>match ba env k with
  |some x=>Ic env r (Ie a x s)
  |none=>Ic env r s
def aln:dZ->dc U->kz->kz
 |.box l,.box xs,s=>Ib l xs s
 |.bl n,.box xs,s=>DS (U.dR n) xs s
 |.cu _ a,.cu _ x,s=>Ia a x s
 |_,_,s=>s
def yf(σ:bm U)(kk:Nat):Nat->I dZ->kz->bb->bb×I (Nat×aO)
 |_,[],s,acc=>(acc.reverse,s.2)
 |j,a::r,s,acc=>
  let b:=match ba s.1 j with
   |some b=>b
   |none=>match Nat.ble (j+1) kk with
    |true=>j
    |false=>1000000+j
  match ba σ b with
  |some x=>yf σ kk (j+1) r (aln a x s) (b::acc)
  |none=>yf σ kk (j+1) r s (b::acc)
def uN:bb->J
 |[]=>true
 |a::l=>(l.all λb=>!(Nat.beq a b))&&uN l
theorem A8:∀{l:bb},uN l->l.Nodup
 |[],_=>xM
 |a::l,h=>by
  simp[uN]at h;refine List.nodup_cons.2 ⟨λb=>?_,A8 h.2⟩;have c:=h.1 a b;simp_all
def n9(kk:Nat)(own:I (Pos×aO))(sh:Shape)(ts:I aO)(env:b8 U)(σ:bm U)(N:Nat):ai (a8 U.D ts):=
 match F8 own env σ N with
 |none=>none
 |some (env,σ,_)=>match K3 env σ with
  |none=>none
  |some (env,σ)=>match yf σ kk 0 sh.st (Ic env sh.env ([],[])) []with
   |(bs,b)=>match kX b env σ with
    |none=>none
    |some (env,σ)=>match uN bs&&(keeps kk bs&&Nat.beq bs.length sh.st.length)with
     |false=>none
     |true=>match GN bs sh env σ with
      |none=>none
      |some a=>a8.dec U.D ts a
section
variable {kk N:Nat}{σ:bm U}{σ1:bh}{env:b8 U}{env1:Env}
theorem w2{own:I (Pos×aO)}{sh:Shape}{ts:I aO}{h:a8 U.D ts}(aa:n9 kk own sh ts env σ N=some h)(he:df N σ (λ_=>true) env env1)(aH:cH N σ σ1)(u:kk<=N):
 ∃b bE,Conv kk N env1 σ1 sh.st.length b bE/\df sh.st.length (gq U sh (a8.cells U.D ts h)).2 (λ_=>true) (gq U sh (a8.cells U.D ts h)).1 b/\cH sh.st.length (gq U sh (a8.cells U.D ts h)).2 bE/\kk<=sh.st.length:=by
 unfold n9 at aa;split at aa;grind
 . rename_i z σ2 x h1;obtain⟨dw,n0,d,q,g,cM⟩:=Nf h1 he aH u;split at aa
   grind;rename_i A H p;obtain⟨aK,s1,e,r,i⟩:=aa7 p q g;have c1:=d.trans e;split at aa;rename_i bs C _;split at aa;grind
   . rename_i B J f;obtain⟨y,G,c2,s,j,_⟩:=xa (kk:=kk) (gl:=[]) f r i;split at aa
     grind
     . rename_i c;simp only[dr]at c;obtain⟨m,n,o⟩:=c;have v:=dh o;split at aa
       grind
       . rename_i a l;obtain⟨dB,w,c3,t,k⟩:=aeE (A8 m) n s j l;rw[a8.nh aa,<-v];refine⟨dB,w,c1.trans (c2.trans c3),t,k,?_⟩;by_cases E:kk=0
         omega
         . have F:(bs[kk-1]?==some (kk-1)):=by
            grind[keeps]
           grind
end
structure cT (U:c0) where
 f:Nat
 gm:List dO
 st:List dZ
 ts:List aO
 fg:dO
 fa:List dZ
 us:List aO
 F:a8 U.D ts->Option (a8 U.D us)
def cT.args(s:cT U)(h:a8 U.D s.ts):I (bU U):=(kL s.gm (a8.cells U.D s.ts h)).1
def cT.jg(s:cT U)(h:a8 U.D s.ts):bm U:=h9 0 s.st (kL s.gm (a8.cells U.D s.ts h)).2
def cT.res(s:cT U)(r:a8 U.D s.us):bU U:=(mF s.fg (a8.cells U.D s.us r)).1
def cT.rest(s:cT U)(r:a8 U.D s.us):bm U:=h9 0 s.fa (mF s.fg (a8.cells U.D s.us r)).2
def ij(P:Program)(s:cT U):Prop:=
 ∀h r,s.F h=some r->∀a σ1,bc (cb s.st.length (s.jg h)) (s.args h) a->cH s.st.length (s.jg h) σ1->
  eG P s.f a σ1 s.st.length (λb bE N'=>N'=s.fa.length/\cb N' (s.rest r) (s.res r) b/\cH N' (s.rest r) bE)
def bB.sW:bB U->J
 |.t _|.ep .. |.bX|.fN|.fM=>true
 |.fn _ []=>true
 |_=>false
def hD:bU U->J
 |.c x=>x.sW
 |.agg cs=>cs.all bB.sW
 |.bd vs=>go vs
where go:I (bU U)->J
 |[]=>true
 |v::vs=>hD v&&go vs
def bB.pF:bB U->C
 |.t c=>.t (c.enc U)
 |.ep ty x o=>.ep (ty.enc U x) o
 |.bX=>.bX
 |.fN=>.fN
 |.fM=>.fM
 |.fn f caps=>.fn f caps
 |_=>.dead
def gD:bU U->V
 |.c x=>.c x.pF
 |.agg cs=>.agg (cs.map bB.pF)
 |.bd vs=>.bd (go vs)
where go:I (bU U)->I V
 |[]=>[]
 |v::vs=>gD v::go vs
theorem BN{x:bB U}(h:x.sW):cy N σ x x.pF/\(∀d,cy N σ x d->d=x.pF)/\∀n,x.pF.aJ n=true:=by
 cases x<;>simp[bB.sW]at h;exact⟨.t _,λd a=>by cases a;rfl,λ_=>rfl⟩;exact⟨.ep _ _ _,λd a=>by cases a;rfl,λ_=>rfl⟩;exact⟨.bX,λd a=>by cases a;rfl,λ_=>rfl⟩;exact⟨.fN,λd a=>by cases a;rfl,λ_=>rfl⟩;exact⟨.fM,λd a=>by cases a;rfl,λ_=>rfl⟩
 . rename_i f caps;cases caps with
   |nil=>exact⟨.fn _ _,λd a=>by cases a;rfl,λ_=>rfl⟩
   |cons=>grind
theorem Jm:∀{vs:I (bU U)} {i:Nat},(gD.go vs)[i]?=(vs[i]?).map gD
 |[],i=>by rfl
 |v::vs,0=>by rfl
 |v::vs,i+1=>by simp[gD.go,Jm]
theorem MW:∀{vs:I (bU U)},(gD.go vs).length=vs.length
 |[]=>rfl
 |v::vs=>by simp[gD.go,MW]
theorem My:∀{vs:I (bU U)} {i:Nat} {v:bU U},hD.go vs->vs[i]?=some v->hD v=true
 |[],i,v,_,h=>by grind
 |x::vs,0,v,hs,h=>by grind[hD.go]
 |x::vs,i+1,v,hs,h=>by simp[hD.go]at hs;exact My hs.2 (by simpa using h)
theorem aux:∀(cs:I (bB U)),(∀x,x∈cs->x.sW)->bc (cy N σ) cs (cs.map bB.pF)
 |[],_=>.nil
 |a::l,h=>.cons (BN (h a (by simp))).1 (aux l λx aa=>h x (by grind))
theorem xt{N:Nat}{σ:bm U}:∀{x:bU U},hD x->cb N σ x (gD x)/\∀n,(gD x).aJ n=true
 |.c x,h=>by
  obtain⟨h1,_,a⟩:=BN h;exact⟨.c h1,λn=>a n⟩
 |.agg cs,h=>by
  simp[hD]at h;refine⟨.agg ?_,λn=>?_⟩;grind[aux];simp[gD,V.aJ];intro c b;exact(BN (N:=N) (σ:=σ) (h c b)).2.2 n
 |.bd vs,h=>by
  have:=go (N:=N) (σ:=σ) vs h;refine⟨.bd _ _ (by rw[MW]) λi x d aa g=>?_,λn=>?_⟩;grind[Jm];grind[gD,V.aJ]
where go {N:Nat} {σ:bm U}:∀(vs:I _),hD.go vs->(∀x,x∈vs->cb N σ x (gD x))/\∀n,V.aJ.V.d' n (gD.go vs)=true
 |[],_=>⟨by simp,λ_=>rfl⟩
 |v::vs,h=>by
  simp[hD.go,dr]at h;obtain⟨h1,e⟩:=xt (N:=N) (σ:=σ) h.1;obtain⟨a,f⟩:=go (N:=N) (σ:=σ) vs h.2;simp_all[gD.go,V.aJ.V.d']
theorem BO{x:bU U}{d:V}(h:cb N σ x d):hD x->d=gD x:=by
 induction h with
 |c h=>intro hs;rw[(BN hs).2.1 _ h];rfl
 | @agg xs a h=>
  intro hs;simp[hD]at hs;congr 1
  induction h with
  |nil=>rfl
  |cons h1 e ih=>rw[qT,<-(BN (hs _ (by simp))).2.1 _ h1,<-ih (λx aa=>hs x (by grind))]
 |bd xs a ak h ih=>
  intro hs;congr 1
  apply xX;intro i;rw[Jm];cases aa:xs[i]? with
  |none=>grind
  |some x=>
   have f:=(ev.1 aa).1;have b:=fm (l:=a) (i:=i) (by omega);rw[b];congr 1;exact ih i x _ aa b (My hs aa)
end
section
open Go
variable {U:c0}
variable{K:Env->bh->Prop}{f:Nat->Nat}
section
variable {P:Program}{nt kk key N N':Nat}{env:Env}{σ σ':bh}{Q od:Exit->Env->bh->Nat->Prop}
def R8(P:Program)(f:Nat)(args:I V)(σ:bh)(key:Nat)(env:Env)(K:V->bh->Prop):Prop:=
 ∀aB nt φ S a w,Rel aB nt φ S env σ (lt key) a w->V.aJ.V.d' (lt key) args->∀vs:I Value,bc (ch φ w S) args vs->
  Calls P f vs.toArray w λe w'=>∃v r bw bx σ',e= .returned v/\K r σ'/\ch bw w' bx r v/\r.aJ (e1 (lt key) key)/\Rel aB nt bw bx env σ' (e1 (lt key) key) a w'
def agM(P:Program)(o:cl)(env:Env)(f:Nat)(vs:I V):Prop:=
 (∃args p,o.op= .call f args/\ix env args=some (p,vs)/\p)\/
 (∃x args q p caps a,o.op= .iO x args/\x.get env=some (q,.c (.fn f caps))/\q/\ix env args=some (p,a)/\p/\h5 P f/\vs=a++caps.map λb=>V.c (.ptr b 0))
def yS(P:Program)(o:cl)(key:Nat)(env:Env)(σ:bh)(K:Env->bh->Prop):Prop:=
 h2 P o key env σ K\/(gU env o.guard=some true/\∃f vs,agM P o env f vs/\R8 P f vs σ key env λr σ'=>K (eO env o.dst true r) σ')
def og(P:Program)(kk:Nat):I cl->Nat->Env->bh->(Env->bh->Prop)->Prop
 |[],_,env,σ,K=>K env σ
 |o::r,key,env,σ,K=>∃gf a,Conv kk key env σ key gf a/\yS P o key gf a λe s=>og P kk r (key+16) e s K
theorem Jn{aB:Ctx}{φ:dx}{S:dy}{a:Act}{w:World}(R:Rel aB nt φ S env σ (lt key) a w){ops:Array Oper}{o:Oper}{r:cl}(A:w0 P nt ops o=some r)(h:yS P r key env σ K){Q:Exit->Act->World->Prop}:
 if Region.wanted o (yielded ops a.tmps)then o.wp P a w (j9 aB nt (e1 (lt key) key) K) Q else j9 aB nt (e1 (lt key) key) K (a.put o.dst undef) w:=by
 rcases h with h|⟨av,f,vs,G,y⟩;exact Fe R (λb h1 _=>AP h1) A h
 . obtain⟨h1,d,s,u⟩:=LB A;have M:=Mj R d av;rw[M];rcases G with⟨args,p,m,l,ar⟩|⟨x,args,q,p,caps,E,m,J,L,l,ar,g,rfl⟩
   rw[m]at h1;obtain⟨c,j,n⟩:=LZ (Ac h1 (by simp));obtain⟨k,g,e⟩:=Lw n;have B:=u4 (w:=w) (a:=a) j k rfl g;simp at B;obtain⟨g1,g2⟩:=rA R e l ar;exact Calls.next s u rfl (λ_ _ h=>h) (y aB nt φ S a w R g2 _ g1) B
   . rw[m]at h1;obtain⟨c,j,n⟩:=LP (Ac h1 (by simp));obtain⟨t,rfl,k,e⟩:=LQ n;obtain⟨g1,g2⟩:=rA R e l ar;have aa:=cK (x:= .tmp t) R rfl J L;have N:=aa.1.et;have H:bc (ch φ w S) (caps.map λb=>V.c (.ptr b 0)) (caps.map λb=>Value.pointer (some ⟨(φ b).1,0,none⟩)):=by
      refine bc.lX (by simp) ?_;intro i v x h1 d;simp at h1 d;obtain⟨b,F,rfl⟩:=h1;obtain⟨O,z,rfl⟩:=d;rw[F]at z;cases z;exact .c rfl
     have I:V.aJ.V.d' (lt key) (E++caps.map λb=>V.c (.ptr b 0)):=by
      refine tS ?_;intro i v D;by_cases T:i<E.length
      grind[nG];rw[zC (by omega)]at D;simp only[sP,bL]at D;grind[V.aJ,C.aJ]
     exact Calls.next s u rfl (λ_ _ h=>h) (y aB nt φ S a w R I _ (g1.append H)) (u4 j k N g)
theorem Ni{aB:Ctx}(g:aB.k=kk){ops:Array Oper}{Q:Exit->Act->World->Prop}{K:Env->bh->Nat->Prop}:∀{l:I Oper} {bg:I cl} {k N:Nat} {env:Env} {σ:bh} {φ:dx} {S:dy} {a:Act} {w:World},hJ P nt ops l=some bg->(∀i:Nat,i<l.length->l[i]?=ops[k+i]?)->
 Rel aB nt φ S env σ (lt N) a w->og P kk bg N env σ (λe s=>K e s (N+16*bg.length))->(∀φ S e s N a w,K e s N->Rel aB nt φ S e s (lt N) a w->Q .normal a w)->wpOps P ops Q (List.range' k l.length) a w
 |[],bg,k,N,env,σ,φ,S,a,w,b,f,R,h,d=>by
  simp[hJ]at b;subst b;exact d _ _ _ _ _ _ _ h R
 |o::l,bg,k,N,env,σ,φ,S,a,w,b,f,R,h,d=>by
  simp[hJ,bz,bL]at b;obtain⟨q,m,c,n,rfl⟩:=b;have r:ops[k]?=some o:=by have:=f 0 (by simp);grind
  rw[kR,zx,wpOps_cons];unfold wpOp;obtain⟨gf,u,p,t⟩:=h;obtain⟨v,yJ,j⟩:=p aB nt φ S a w g R;have hs:=Jn j m (K:=λe s=>og P kk _ _ e s λe s=>K e s (N+16*(c.length+1))) (by omega) (Q:=Q);have next:∀cj w',j9 aB nt (e1 (lt N) N) (λe s=>og P kk c (N+16) e s λe s=>K e s (N+16*(c.length+1))) cj w'->wpOps P ops Q (List.range' (k+1) l.length) cj w':=by
   rintro cj w' ⟨bw,bx,e,s,bS,R'⟩
   refine Ni g n (λi aD=>?_) (R'.more λ_ h=>FA h) ?_ d
   have:=f (i+1) (by grind);grind;grind
  split at hs;grind[Oper.wp_mono];grind
theorem cJ.ale{bg:I cl}(h:og P kk bg N env σ (λe s=>Q .normal e s (N+16*bg.length))):cJ P nt kk (.region bg) env σ N Q:=by
 intro code f aB φ S a w g R;obtain⟨id,ops,rfl,j⟩:=MU f;refine wp_region ?_;have:=Ni g (Q:=λe cj w'=>∃bw bx env' σ' N',Q e env' σ' N'/\Rel aB nt bw bx env' σ' (lt N') cj w') (k:=0) j (λi o=>by simp) R h
  (λφ S e s N a w bS c=>⟨φ,S,e,s,N,bS,c⟩)
 grind[List.range_eq_range']
theorem eG.conv{f k:Nat}{args o:I V}{Q:V->bh->Nat->Prop}(q:bc hA args o)(hs:tg σ σ')(h:eG P f o σ' k Q):eG P f args σ k Q:=by
 intro φ S w B j t G A vs E;refine h φ S w B ⟨λb x aa=>?_,λb p x y aa al=>?_,j.st⟩ (λb x aa=>?_) (λb x aa=>?_) ?_ vs ?_
 obtain⟨g,h1,e⟩:=hs b x aa;exact e.HZ (j.blk b g h1);obtain⟨g,h1,e⟩:=hs b x aa;obtain⟨F,bj,bq⟩:=hs p y al;exact j.inj b p g F h1 bj;obtain⟨g,h1,e⟩:=hs b x aa;exact⟨(t b g h1).1,e.aJ _ (t b g h1).2⟩;obtain⟨g,h1,e⟩:=hs b x aa;grind
 . refine tS λi v D=>?_;obtain⟨v0,h1,e⟩:=(q.flip λ_ _ h=>h).get D;exact e.aJ _ (nG A h1)
 exact bc.comp (λa b c h1 e=>h1.H9 e) (q.flip λ_ _ h=>h) E
theorem eG.mono{f k:Nat}{args:I V}{Q od:V->bh->Nat->Prop}(h:eG P f args σ k Q)(g:∀r s n,Q r s n->od r s n):eG P f args σ k od:=by
 intro φ S w B h1 a c e vs bu;refine(h φ S w B h1 a c e vs bu).mono ?_;grind
theorem eG.tidy{f k:Nat}{args:I V}{Q od:V->bh->Nat->Prop}(h:eG P f args σ k Q)
 (R:∀r σ' N',Q r σ' N'->∃bs t σ2,bs.Nodup/\keeps k bs/\hA (r.cc bs) t/\tg (gB bs σ' 0 bs) σ2/\od t σ2 bs.length):eG P f args σ k od:=by
 intro φ S w B h1 K L M vs bu;refine(h φ S w B h1 K L M vs bu).mono ?_
 rintro e w' ⟨v,r,bw,bx,σ',N',he,N,bj,bq,b4,cv,cZ,c7,fc⟩
 obtain⟨bs,t,σ2,ck,an,H,hs,O⟩:=R r σ' N' N;have am:∀i:Nat,i<k->bs[i]?=some i:=by
  grind[keeps]
 let D:dx:=λi=>bw ((bs[i]?).getD 0);have q:∀(i:Nat) b,bs[i]?=some b->D i=bw b:=by intro i b h;simp[D,h]
 have p:∀b x,aZ (gB bs σ' 0 bs) b=some x->∃c a,bs[b]?=some c/\aZ σ' c=some a/\x=a.cc bs:=by
  grind[qb]
 have U:∀(a:cd),(a.cc bs).aJ (lt bs.length)=true:=by
  intro a;cases a with
  |box cs=>grind[cd.cc,cd.aJ,List.all_eq_true,C.kq]
  |arr sz es=>rfl
  |set ks=>rfl
  |buf E s=>rfl
  |cu E c=>exact C.kq c
  |cV sz es i o c=>exact C.kq c
 refine⟨v,t,D,bx,σ2,bs.length,he,O,H.H9 (ch.cc q bj),H.aJ _ (V.kq r),⟨λb x aa=>?_,λb A x y aa al ap h0 G=>?_,b4.st⟩,λb x aa=>?_,cZ,λb x aa h0=>?_,λb g=>?_⟩;obtain⟨y,al,g⟩:=hs b x aa;obtain⟨c,a,aK,j,rfl⟩:=p b y al;exact g.HZ (dj.cc q aK (b4.blk c a j))
 . obtain⟨Z,W,_⟩:=hs b x aa;obtain⟨ak,X,_⟩:=hs A y al;obtain⟨c,a,aK,j,_⟩:=p b Z W;obtain⟨F,Y,f1,f2,_⟩:=p A ak X;rw[q b c aK]at h0⊢;rw[q A F f1]at G⊢;refine b4.inj c F a Y j f2 ?_ h0 G;have:=nM ck aK;grind[nM]
 obtain⟨y,al,g⟩:=hs b x aa;obtain⟨c,a,aK,j,rfl⟩:=p b y al;exact⟨(ev.1 aK).1,g.aJ _ (U a)⟩;obtain⟨y,al,g⟩:=hs b x aa;grind;grind
end
def bB.cA(f:Nat->Nat):bB U->bB U
 |.ptr b o=>.ptr (f b) o
 |.c9 b ty i o=>.c9 (f b) ty i o
 |.arr b=>.arr (f b)
 |.sub b a len=>.sub (f b) a len
 |.pre b h=>.pre (f b) h
 |.hT b a len=>.hT (f b) a len
 |.mp b=>.mp (f b)
 |.eV b=>.eV (f b)
 |.cQ b=>.cQ (f b)
 |.fn g caps=>.fn g (caps.map f)
 |x=>x
def bU.cA(f:Nat->Nat):bU U->bU U
 |.c x=>.c (x.cA f)
 |.agg cs=>.agg (cs.map (bB.cA f))
 |.bd vs=>.bd (go f vs)
where go (f:Nat->Nat):I (bU U)->I (bU U)
 |[]=>[]
 |v::vs=>v.cA f::go f vs
def dc.cA(f:Nat->Nat):dc U->dc U
 |.box cs=>.box (cs.map (bB.cA f))
 |.arr ty l=>.arr ty l
 |.rows sz r=>.rows sz r
 |.set ks=>.set ks
 |.buf E s=>.buf E s
 |.cu E c=>.cu E (c.cA f)
 |.cV t l i o c=>.cV t l i o (c.cA f)
def F5(σ:bm U):bb->bm U
 |[]=>σ
 |b::r=>dl (F5 σ r) b
def n5(σ:bm U)(bs:bb)(f:Nat->Nat):bm U->bm U
 |[]=>F5 σ bs
 |(b,x)::r=>cW (n5 σ bs f r) (f b) (x.cA f)
def pj(σ σr:bm U):Nat->bb->ai J
 |_,[]=>some true
 |i,b::r=>match ba σr i with
  |none=>pj σ σr (i+1) r
  |some d=>match ba σ b with
   |none=>none
   |some x=>match d.dD with
    |none=>pj σ σr (i+1) r
    |some a=>match x.dD with
     |none=>none
     |some p=>match Nat.beq a.1 p.1,pj σ σr (i+1) r with
      |true,some c=>some ((a.2=p.2:J)&&c)
      |_,_=>none
section
variable {key N':Nat}{σ σr:bm U}{σ1 Xr:bh}{bs:bb}
theorem Pc:∀{bs:bb} {b:Nat},ba (F5 σ bs) b=if b∈bs then none else ba σ b
 |[],b=>by rfl
 |c::r,b=>by
  simp[F5,nP,Pc];grind
theorem u5:∀{d:bm U} {c:Nat} {x:dc U},ba (n5 σ bs f d) c=some x->(∃b a,c=f b/\ba d b=some a/\x=a.cA f)\/(c ∉ bs/\ba σ c=some x)
 |[],c,x,h=>by
  grind[n5,Pc]
 |(b,y)::r,c,x,h=>by
  simp[n5,h']at h;split at h;grind[ba,Nat.beq_refl]
  . rcases u5 h with⟨e,a,h1,g,i⟩|h
    grind[ba,dh];grind
theorem AR(ck:bs.Nodup)(aD:∀b,b∈bs->b<key){i j:Nat}(h:back bs key i=back bs key j):i=j:=by
 unfold back at h;cases d:bs[i]? with
 |some b=>
  rw[d]at h;have e:=aD b (fQ d);cases a:bs[j]? with
  |some c=>
   rw[a]at h;simp at h;subst h;have:=nM ck d;rw[nM ck a]at this;grind
  |none=>grind
 |none=>
  cases a:bs[j]? with
  |some c=>
   have e:=aD c (fQ a);grind
  |none=>grind
theorem Mz(d:∀i j,f i=f j->i=j):∀{g:bh} {b:Nat} {x:cd},aZ g b=some x->aZ (h7 σ1 bs f g) (f b)=some (x.cA f)
 |[],b,x,h=>by grind[aZ]
 |(c,y)::r,b,x,h=>by
  simp[h7,dk];simp[aZ]at h;by_cases a:c=b;grind;rw[aq a]at h;rw[aq (λe=>a (d _ _ e))];exact Mz d h
theorem M6{c:Nat}(d:c ∉ bs)(a:∀b,f b≠c):∀{e:bh},aZ (h7 σ1 bs f e) c=aZ σ1 c
 |[]=>by grind[h7,sF]
 |(b,y)::r=>by
  simp[h7,dk];rw[aq (a b)];exact M6 d a
theorem dc.zj{x:dc U}:(x.cA f).dD=x.dD:=by cases x<;>rfl
theorem NS:∀{l:bb} {f:Nat} {c:J},pj σ σr f l=some c->c=true->∀(j b:Nat) d,l[j]?=some b->ba σr (f+j)=some d->∃x,ba σ b=some x/\∀p,d.dD=some p->x.dD=some p
 |[],f,c,h,m,j,b,d,n,aa=>by grind
 |a::l,f,c,h,m,j,b,d,n,aa=>by
  simp[pj]at h;have next:∀{g},pj σ σr (f+1) l=some g->g=true->∀i,j=i+1->∃x,ba σ b=some x/\∀p,d.dD=some p->x.dD=some p:=by
   intro g h1 k i e;exact NS h1 k i b d (by grind) (by grind)
  cases j with
  |zero=>
   grind[dh]
  |succ j=>
   split at h;grind;grind
variable (ck:bs.Nodup)(aD:∀b,b∈bs->b<key)(cM:N'<=bs.length+16)(aH:cH key σ σ1)
include ck aD cM aH in
theorem cy.cA{x:bB U}{d:C}(h:cy N' σr x d):cy (key+16) (n5 σ bs (back bs key) σr) (x.cA (back bs key)) (d.cA (back bs key)):=by
 cases h with
 |t c=>exact cy.t c
 |ptr b o=>exact cy.ptr _ o
 |c9 b t i o=>exact cy.c9 _ t i o
 |ep t x o=>exact cy.ep t x o
 |arr b sz n q h=>
  have e:back bs key b<key+16:=by
   unfold back;cases g:bs[b]? with
   |some c=>simp;have:=aD c (fQ g);omega
   |none=>grind
  refine cy.arr _ sz n e λx aa p ar=>?_;rcases u5 aa with⟨j,y,h1,a,rfl⟩|⟨h1,a⟩
  grind[AR,dc.zj];have v:=(aH _ _ a).1;grind[back]
 |sub b w len=>exact cy.sub _ w _
 |pre b sz n q h=>
  have e:back bs key b<key+16:=by
   unfold back;cases g:bs[b]? with
   |some c=>simp;have:=aD c (fQ g);omega
   |none=>grind
  refine cy.pre _ sz n e λx aa p ar=>?_;rcases u5 aa with⟨j,y,h1,a,rfl⟩|⟨h1,a⟩
  grind[AR,dc.zj];have v:=(aH _ _ a).1;grind[back]
 |hT b sz w len q h=>
  have e:back bs key b<key+16:=by
   unfold back;cases g:bs[b]? with
   |some c=>simp;have:=aD c (fQ g);omega
   |none=>grind
  refine cy.hT _ sz w _ e λx aa p ar=>?_;rcases u5 aa with⟨j,y,h1,a,rfl⟩|⟨h1,a⟩
  grind[AR,dc.zj];have v:=(aH _ _ a).1;grind[back]
 |mp b=>exact cy.mp _
 |eV b=>exact cy.eV _
 |cQ b n q h=>
  have e:back bs key b<key+16:=by
   unfold back;cases g:bs[b]? with
   |some c=>simp;have:=aD c (fQ g);omega
   |none=>grind
  refine cy.cQ _ n e λx aa p ar=>?_;rcases u5 aa with⟨j,y,h1,a,rfl⟩|⟨h1,a⟩
  grind[AR,dc.zj];have v:=(aH _ _ a).1;grind[back]
 |bX=>exact .bX
 |fN=>exact .fN
 |fM=>exact .fM
 |fn f caps=>exact cy.fn f _
 |dead d=>exact .dead _
theorem Nj:∀{vs:I (bU U)} {i:Nat},(bU.cA.go f vs)[i]?=(vs[i]?).map (bU.cA f)
 |[],i=>by rfl
 |v::vs,0=>by rfl
 |v::vs,i+1=>by simp[bU.cA.go,Nj]
theorem M7:∀{vs:I (bU U)},(bU.cA.go f vs).length=vs.length
 |[]=>rfl
 |v::vs=>by simp[bU.cA.go,M7]
include ck aD cM aH in
theorem cb.cA{x:bU U}{d:V}(h:cb N' σr x d):cb (key+16) (n5 σ bs (back bs key) σr) (x.cA (back bs key)) (d.cA (back bs key)):=by
 induction h with
 |c h=>exact .c (cy.cA ck aD cM aH h)
 |agg h=>exact .agg (bc.map_map (h.imp λ_ _ _ ad=>cy.cA ck aD cM aH ad))
 |bd xs a ak h ih=>
  refine .bd _ _ (by grind[M7,I4]) ?_;grind[Nj,JY]
include ck aD aH in
theorem EM(e:pj σ σr 0 bs=some true):dI key σ (key+16) (n5 σ bs (back bs key) σr):=by
 refine⟨by simp,λc x i aa=>?_⟩;rcases u5 aa with⟨b,f,h1,d,rfl⟩|⟨h1,d⟩
 . unfold back at h1;cases a:bs[b]? with
   |some g=>
    rw[a]at h1;subst h1;obtain⟨x,bj,bq⟩:=NS e rfl b c f a (by grind);grind[dc.zj]
   |none=>grind
 grind
include ck aD cM aH in
theorem cH.G8(q:pj σ σr 0 bs=some true)(w:cH N' σr Xr):cH (key+16) (n5 σ bs (back bs key) σr) (h7 σ1 bs (back bs key) Xr):=by
 intro c x aa;have p:∀b,b<N'->back bs key b<key+16:=by
  intro b B;unfold back;cases v:bs[b]? with
  |some c=>simp;have:=aD c (fQ v);omega
  |none=>grind
 rcases u5 aa with⟨b,A,rfl,a,rfl⟩|⟨h1,a⟩
 . obtain⟨e,y,f,bu⟩:=w b A a;refine⟨p b e,y.cA _,Mz (λi j=>AR ck aD) f,?_⟩;cases bu with
   |box bu=>exact .box (bc.map_map (bu.imp λ_ _ _ ad=>cy.cA ck aD cM aH ad))
   |arr t l=>exact .arr t l
   |set ks=>exact .set ks
   |buf E s=>exact .buf E s
   |cu bu=>exact .cu (cy.cA ck aD cM aH bu)
   |cV t l i o bu=>exact .cV t l i o (cy.cA ck aD cM aH bu)
   |rows bu g=>exact .rows bu g
 . obtain⟨e,y,f,bu⟩:=aH c x a;refine⟨by omega,y,?_,?_⟩
   grind[M6,back];exact bu.mono (EM ck aD aH q)
end
end
section
open Go
variable {xb:bb}
def FC(n:Nat):I (Nat×Nat)->J
 |(i,_)::_=>Nat.beq i n
 |[]=>false
theorem aeF{l:I (cl×bb)}{p:Nat×Nat}(h:p∈lN l):p.1<l.length:=by
 grind[lN,GR]
theorem ab2{l:I (cl×bb)}(h:FC l.length (tn l)):Fz l/\uJ l.dropLast/\∀p,p∈lN l.dropLast->p∈tn l:=by
 unfold tn at h⊢;split at h;grind
 . cases ak:lN l with
   |nil=>rw[ak]at h;cases h
   |cons p r=>
    rw[ak]at h;have ar:p∈lN l:=(by grind);have:=aeF ar;obtain⟨i,j⟩:=p;have a:Nat.beq i _:=h;simp_all
variable{D:Nat->bb}{listed:Array J}{Q:Exit->Env->bh->Nat->Prop}
theorem acS{l:I (cl×bb)}{m:Nat}(g:l.length=m+1)(h:Fz l)(e:∀(i:Nat) x,l[i]?=some x->D i=x.2){p:Nat->J}(f:∀i,i<m->p i->∀d,d∈D i->p d)(ak:∀d,d∈D m->p d):
 ∀i,i<m->p i:=by
 have key:∀k i,i<m->m-i<=k->p i:=by
  intro k;induction k with
  |zero=>grind
  |succ k ih=>
   intro i h1 b;simp[Fz]at h;have c:=h i (by omega);grind
 exactλi a=>key m i a (by simp)
section
variable {P:Program}{aB:Ctx}{nt kk:Nat}{N:Nat}{ops:Array Oper}{init:I cl}{last:cl}{E:Nat->Env}{T:Nat->bh}{G:Nat->J}{W:Nat->V}
theorem ED{i m:Nat}(hs:listed.size=m+1)(a:i<m):listed.pop.getD i false=listed.getD i false:=by
 simp;grind
theorem agb{i m:Nat}(hs:listed.size=m+1)(a:i<m):(listed.setIfInBounds i true).pop=listed.pop.setIfInBounds i true:=by grind
theorem aeG{Q:Exit->Act->World->Prop}{fuel:Nat}{a:Act}{w:World}(hs:listed.size=ops.size)(d:∀i,i<ops.size->listed.getD i false)(b:Q .normal a w):wpAny P .any ops Q fuel listed a w:=by
 have c:Region.ready .any ops listed=[]:=by
  rw[Wh];grind[mem_ready]
 cases fuel with
 |zero=>exact⟨c,b⟩
 |succ fuel=>exact⟨λ_=>b,λi e=>by grind⟩
theorem acT(st:Stat xb init D E N)(z:pk xb P init N E T G W)(hres:hJ P nt ops ops.toList=some (init++[last]))(A:∀(i:Nat) o,ops[i]?=some o->D i=h6 o)
 (ao:∀(p:Nat->J),(∀i,i<init.length->p i->∀d,d∈D i->p d)->(∀d,d∈D init.length->p d)->∀i,i<init.length->p i)
 (aj:∀d,d∈D init.length->d<init.length)
 {Q:Exit->Act->World->Prop}{K:Env->bh->Prop}(an:aB.k=kk)
 (bS:∃gf H,Conv kk (N+16*init.length) (E init.length) (T init.length) (N+16*init.length) gf H/\yS P last (N+16*init.length) gf H K)
 (ab:∀e s φ S a w,K e s->Rel aB nt φ S e s (e1 (lt (N+16*init.length)) (N+16*init.length)) a w->Q .normal a w):
 ∀(fuel:Nat) (listed:Array J) φ S env σ a w,listed.size=init.length+1->listed.getD init.length false=false->listed.toList.countP (· ==false)<=fuel->Inv xb aB nt init D N E T G W listed.pop φ S env σ a w->wpAny P .any ops Q fuel listed a w:=by
 have V:=zW hres;simp at V;have ap:∀(listed:Array J) (φ:dx) (S:dy) (env:Env) (σ:bh) (a:Act) (w:World),listed.size=init.length+1->listed.getD init.length false=false->Inv xb aB nt init D N E T G W listed.pop φ S env σ a w->Region.ready .any ops listed≠[]:=by
  intro listed φ S env σ a w hs v cr X;have B:∀i,i<init.length->listed.getD i false:=by
   intro i;induction i using Nat.strongRecOn with
   |_ i ih=>
    intro l;cases ak:listed.getD i false with
    |true=>rfl
    |false=>
     have y:i<ops.size:=(by omega);have c:ops[i]?=some ops[i]:=C' y;have:i∈Region.ready .any ops listed:=by
      rw[mem_ready];refine⟨?_,ops[i],c,λe he af=>?_⟩;grind
      . have f:e.on∈D i:=by
         rw[A i _ c];simp only[h6,fl,vl];grind
        exact ih e.on (st.back i _ l f) (by have:=st.back i _ l f;omega)
     grind
  have y:init.length<ops.size:=by omega
  have c:ops[init.length]?=some ops[init.length]:=C' y;have:init.length∈Region.ready .any ops listed:=by
   rw[mem_ready];refine⟨?_,ops[init.length],c,λe he af=>?_⟩;grind
   . have f:e.on∈D init.length:=by
      rw[A _ _ c];simp only[h6,fl,vl];grind
     grind
  grind
 intro fuel;induction fuel with
 |zero=>
  intro listed φ S env σ a w hs v L cr;exfalso;have u:init.length<listed.size:=by omega
  have h0:listed.toList.countP (· ==false)=0:=by omega
  rw[List.countP_eq_zero]at h0;simp[u]at v;exact h0 listed[init.length] (by simp) (by grind)
 |succ fuel ih=>
  intro listed φ S env σ a w hs v L cr;refine⟨λX=>absurd X (ap listed φ S env σ a w hs v cr),λi l=>?_⟩;rw[mem_ready]at l;obtain⟨h1,o,c,aw⟩:=l;have y:i<ops.size:=(zB.1 c).1;have u:i<listed.size:=by omega
  have aL:listed.getD i false=false:=by grind
  obtain⟨q,I,Y⟩:=Ju hres (i:=i) (o:=o) (by grind);have f:∀d,d∈D i->listed.getD d false:=by
   intro d f;rw[A i o c]at f;simp only[h6,fl,vl]at f;grind
  have am:listed.toList.countP (· ==false)<=fuel+1->(listed.setIfInBounds i true).toList.countP (· ==false)<=fuel:=by
   have:listed.toList[i]?=some false:=by simp[u]at aL⊢;exact aL
   grind
  rcases Nat.lt_or_ge i init.length with t|t
  ·
   have r:init[i]?=some q:=by rw[xQ t]at I;exact I
   have M:∀d,d∈D i->listed.pop.getD d false:=λd g=>by rw[ED hs (by have:=st.back i d t g;omega)];exact f d g
   have C:listed.pop.getD i false=false:=by rw[ED hs t];exact aL
   obtain⟨ad,ae⟩:=cr.agree st z r C M;obtain⟨⟨bE,au,av⟩,_⟩:=(z.step i q r).1.local (env':=env) (σ':=σ) ad ae;have x:=Fe cr.rel (key:=N+16*i) (λb ah ai=>ND C ah ai) Y (K:=λe s=>e=eO env q.dst (G i) (W i)/\s=bE) (au.h2 ⟨rfl,rfl⟩) (Q:=Q);have next:∀cj w',j9 aB nt (e1 (used N init.length listed.pop) (N+16*i)) (λe s=>e=eO env q.dst (G i) (W i)/\s=bE) cj w'->wpAny P .any ops Q fuel (listed.setIfInBounds i true) cj w':=by
    rintro cj w' ⟨bw,bx,e,s,⟨rfl,rfl⟩,R'⟩
    have ar:=agb (listed:=listed) (i:=i) (m:=init.length) hs t;refine ih (listed.setIfInBounds i true) bw bx _ _ cj w' (by simpa using hs) ?_ (am L) (by rw[ar];exact cr.step st z r C M av R');rw[kf u,b9];exact v
   unfold wpOp;rw[c];dsimp only;split at x;rename_i n;rw[ag n];exact .inl (Oper.wp_mono next x)
   . rename_i n;rw[aq n];exact next _ _ x
  ·
   have l:i=init.length:=(by omega);subst l;have r:q=last:=(by grind);subst r;have B:=by
    refine ao (λj=>listed.pop.getD j false) (λj O ar d g=>cr.down j O ar d g) (λd g=>?_);rw[ED hs (aj d g)];exact f d g
   have R:=cr.done st z B;obtain⟨gf,H,al,x⟩:=bS;obtain⟨ay,yJ,Z⟩:=al aB nt φ S a w an R;have F:=Jn Z Y x (Q:=Q);have next:∀cj w',j9 aB nt (e1 (lt (N+16*init.length)) (N+16*init.length)) K cj w'->wpAny P .any ops Q fuel (listed.setIfInBounds init.length true) cj w':=by
    rintro cj w' ⟨bw,bx,e,s,aa,R'⟩;refine aeG (by simp[hs,V]) (λj O=>?_) (ab e s bw bx cj w' aa R');rw[kf u];split;rfl;rename_i ax;have U:j<init.length:=(by omega);rw[<-ED hs U];exact B j U
   unfold wpOp;rw[c];dsimp only;split at F;rename_i n;rw[ag n];exact .inl (Oper.wp_mono next F)
   . rename_i n;rw[aq n];exact next _ _ F
theorem cJ.alf{fq:I (Nat×Nat)}{env:Env}{σ:bh}(bg:FC (init.length+1) fq)
 (h:yT xb P init N env σ (λe s=>k6 xb init e N fq=true/\og P kk [last] (N+16*init.length) e s (λe s=>Q .normal e s (N+16*init.length+16)))):cJ P nt kk (.pf (init++[last]) fq) env σ N Q:=by
 intro code X aB φ S a w an R;obtain⟨id,ops,rfl,hres,H,ax,rfl⟩:=LC X;have be:=zW hres;have M:(gn ops (init++[last])).length=init.length+1:=by grind[gn]
 obtain⟨ap,B,a3⟩:=ab2 (l:=gn ops (init++[last])) (by grind);obtain⟨E,T,G,W,K,dw,t0,Y,O⟩:=JQ h;have a0:(gn ops (init++[last])).dropLast=gn ops.pop init:=by
  obtain⟨L,x,aa⟩:∃L x,ops.toList=L++[x]:=by
   cases ak:ops.toList.reverse with
   |nil=>simp_all
   |cons x r=>simp_all
  simp_all[gn,Array.toList_pop,xK,List.zip_append]
 rw[a0]at B;have Z:k6 xb init (E init.length) N (lN (gn ops.pop init)):=Kp (λp ar=>a3 p (by grind)) Y;have g:=Q3 (ops:=ops.pop) (by grind) B K Z;let D:Nat->bb:=λi=>((ops[i]?).map h6).getD [];have A:∀i,i<init.length->((ops.pop[i]?).map h6).getD []=D i:=by grind
 have st:Stat xb init D E N:=by
  refine⟨λi d c am=>g.back i d c (by grind),λi j x y d aa al a9=>?_,λi j b aD c F a4 q=>?_⟩;have:=g.yh i j x y d aa al a9;grind
  . rcases g.ord i j b aD c F a4 q with⟨h1,f⟩|⟨h1,f⟩
    exact .inl ⟨h1,f.congr g.back A F⟩;exact .inr ⟨h1,f.congr g.back A c⟩
 have a5:∀(i:Nat) x,(gn ops (init++[last]))[i]?=some x->D i=x.2:=by
  grind[gn]
 refine wp_region_any ax ?_;have a2:=O;have U:∀d,d∈D init.length->d<init.length:=by
  intro d am;simp only[uJ,dr]at H;have aa:(gn ops (init++[last]))[init.length]?=some _:=fm (by omega);have:=I6 H.1.1 aa d (by grind);omega
 refine acT (aB:=aB) (nt:=nt) (D:=D) st K hres (λi o aP=>by grind) (λp h1 f=>acS M ap a5 h1 f) U an a2 (λe s φ S a w a1 R'=>⟨φ,S,e,s,_,a1,R'.more λb q=>FA q⟩) ops.size _ φ S env σ a _ ?_ ?_ ?_ ?_
 grind;rw[Array.getD_eq_getD_getElem?,Array.getElem?_replicate];grind;grind[List.countP_le_length]
 . have R':=R.drew;have v:∀i,(Array.replicate ops.size false).pop.getD i false->False:=by
    intro i ak;simp only[Array.getD_eq_getD_getElem?,Array.getElem?_pop]at ak;grind
   refine⟨R'.more λb q=>by grind[used],by grind,λi c ak=>(v i ak).elim,λt _=>by grind,λt i o aP ak=>(v i ak).elim,λb _=>by grind,λb i c ak=>(v i ak).elim⟩
end
end
end Go.Proofs.YtkbmjabicjpmjaaGreatDoor.Shv
