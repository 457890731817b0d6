/- The library of this proof, part C: an abstract machine for the code of the program, and its soundness. -/
import Derived.Test.YtklfhpkljddjbaaGreatDoorTpLB

namespace Go.Proofs.YtklfhpkljddjbaaGreatDoor.Shv
set_option linter.all false
section
open Go
variable {xb:List Nat}
def rk(xb:List Nat)(bp:List cF)(env:Env)(N:Nat):List (Nat×Nat)->Bool
 |[]=>true
 |(i,j)::r=>(match bp[i]?,bp[j]? with
  |some x,some y=>(fS xb y.op env (N+16*j)).all λb=>!(du xb x.op env (N+16*i) b)
  |_,_=>true)&&rk xb bp env N r
theorem amA{bp:List cF}{env:Env}{N:Nat}:∀{hg:List (Nat×Nat)} {i j:Nat} {x y:cF},rk xb bp env N hg=true->(i,j)∈hg->bp[i]?=some x->bp[j]?=some y->∀b,b∈fS xb y.op env (N+16*j)->du xb x.op env (N+16*i) b=false
 |[],i,j,x,y,h,hm,_,_,_,_=>by simp at hm
 |(i0,aFh)::r,i,j,x,y,h,hm,I,ao,b,ag=>by
  simp only[rk,dM]at h;rcases fz.1 hm with e|hm
  . grind
  . exact amA h.2 hm I ao b ag
section
variable {P:Program}{aG:Ctx}{nt kk:Nat}{N:Nat}{ops:Array Oper}{bp:List cF}{E:Nat->Env}{T:Nat->br}{G:Nat->Bool}{W:Nat->V}
theorem aqI{i:Nat}{o:Oper}{x:cF}(aO:ops[i]?=some o)(I:bp[i]?=some x):(iz ops bp)[i]?=some (x,ly o):=by
 unfold iz
 grind
theorem aeo(hlen:bp.length=ops.size)(ot:DU (iz ops bp)=true)(ai:xo xb P bp N E T G W)(azo:rk xb bp (E bp.length) N (si (iz ops bp))=true):
 Stat xb bp (λi=>((ops[i]?).map ly).getD []) E N:=by
 simp only[DU,dM]at ot;obtain⟨⟨Vn,aiw⟩,_⟩:=ot;have eU:∀i,i<bp.length->∃o x,ops[i]?=some o/\bp[i]?=some x/\(iz ops bp)[i]?=some (x,ly o):=by
  intro i ak;have aO:ops[i]?=some ops[i]:=QO (by omega);have I:bp[i]?=some bp[i]:=gQ ak;exact⟨_,_,aO,I,aqI aO I⟩
 have aEG:∀i j,ahead (iz ops bp) j i=true->j<i/\j∈((ops[i]?).map ly).getD []:=by
  intro i j h;obtain⟨h1,y,aa,aA⟩:=atB h;refine⟨h1,?_⟩;have ak:i<bp.length:=by
   have:=(fv.1 aa).1;unfold iz at this;simp at this;omega
  grind
 have aix:∀(i j:Nat) (x y:cF) (d:Nat),bp[i]?=some x->bp[j]?=some y->y.dst=some d->(d∈x.rd->(j<i/\j∈((ops[i]?).map ly).getD [])\/(x.op.neutral=true/\x.op.ns=false/\i<j/\i∈((ops[j]?).map ly).getD []))/\(i=j\/x.dst≠some d):=by
  intro i j x y d I ao aiK;obtain⟨QR,cH,ail,hB,PG⟩:=eU i (fv.1 I).1;obtain⟨QS,mM,aim,l',PH⟩:=eU j (fv.1 ao).1;rw[I]at hB;cases hB;rw[ao]at l';cases l';simp only[ajO,ik]at aiw;have h1:=aiw ((x,ly QR),i) (hp (i:=i) (by simp[Qx,PG]))
  have aa:=h1 ((y,ly QS),j) (hp (i:=j) (by simp[Qx,PH]))
  grind
 refine⟨λi d ak av=>?_,aix,?_⟩
 . obtain⟨o,x,aO,I,gB⟩:=eU i ak;rw[aO]at av;have:=Yn Vn gB d av;omega
 ·
  have ah7:∀(i:Nat) (x:cF),bp[i]?=some x->¬(x.op.neutral=true/\x.op.ns=false)->∀t,t∈x.op.reads->look (E bp.length) t=look (E i) t:=by
   intro i x I qH t ht;have ak:=(fv.1 I).1;refine GG ai (by omega) (gP _) λj y AD JQ ao hh=>?_
   rcases (aix i j x y t I ao hh).1 (ack ht)with h|h
   . omega
   grind
  have aE2:∀i j,wI (vT (iz ops bp) []) j i=true->j<i/\oJ (λi=>((ops[i]?).map ly).getD []) j i:=by
   intro i j h;simp only[wI,dM,ij,List.contains_iff_mem]at h;refine⟨h.1,al4 (l:=iz ops bp) (acc:=[]) (λk x I=>?_) (λi j aM=>by simp at aM) i j h.2⟩;have hk:k<bp.length:=by
    have:=(fv.1 I).1;unfold iz at this;simp at this;omega
   grind
  have V8:∀(i j:Nat) (x y:cF) (b:Nat),i≠j->bp[i]?=some x->bp[j]?=some y->du xb x.op (E i) (N+16*i) b=true->b∈fS xb y.op (E j) (N+16*j)->wI (vT (iz ops bp) []) i j=true\/wI (vT (iz ops bp) []) j i=true:=by
   intro i j x y b b4 I ao hw ag;by_cases h1:wI (vT (iz ops bp) []) i j=true
   . grind
   . by_cases aa:wI (vT (iz ops bp) []) j i=true
     . grind
     . exfalso
       obtain⟨QR,cH,ail,hB,PG⟩:=eU i (fv.1 I).1;obtain⟨QS,mM,aim,l',PH⟩:=eU j (fv.1 ao).1;rw[I]at hB;cases hB;rw[ao]at l';cases l';have ht:y.op.ns=true:=by
        cases h:y.op.ns with
        |true=>rfl
        |false=>rw[arO h]at ag;simp at ag
       have hm:(i,j)∈si (iz ops bp):=by
        simp only[si,Uw,List.mem_flatMap];refine⟨((x,ly QR),i),hp (i:=i) (by simp[Qx,PG]),?_⟩;dsimp only;rw[abp hw];simp only[dK,dB,WY];refine⟨((y,ly QS),j),hp (i:=j) (by simp[Qx,PH]),?_⟩
        grind
       have:=amA azo hm I ao b (by rw[atA (ah7 j y ao (λh=>by rw[ht]at h;cases h.2))];exact ag);rw[atz (ah7 i x I (λh=>by rw[abp hw]at h;cases h.1))]at this
       grind
  intro i j b b4 ak aM hw ag;obtain⟨QR,x,ail,I,PG⟩:=eU i ak;obtain⟨QS,y,aim,ao,PH⟩:=eU j aM;have Qc:du xb x.op (E i) (N+16*i) b=true:=by unfold n0 at hw;rw[I]at hw;exact hw
  have conv:(wI (vT (iz ops bp) []) i j=true\/wI (vT (iz ops bp) []) j i=true)->(i<j/\oJ (λi=>((ops[i]?).map ly).getD []) i j)\/(j<i/\oJ (λi=>((ops[i]?).map ly).getD []) j i):=by grind
  rcases ag with⟨mM,l',ag⟩|ag
  . rw[ao]at l';cases l';exact conv (V8 i j x y b b4 I ao Qc ag)
  . have Wq:du xb y.op (E j) (N+16*j) b=true:=by unfold n0 at ag;rw[ao]at ag;exact ag
    cases dI:y.op.ns with
    |true=>exact conv (V8 i j x y b b4 I ao Qc (amy dI Wq))
    |false=>
     cases aiC:x.op.ns with
     |true=>exact conv (V8 j i y x b (eW b4) ao I Wq (amy aiC Qc)).symm
     |false=>
      have h1:=aen aiC Qc;have aa:=aen dI Wq
      exfalso;omega
theorem YY{bp:List cF}{env:Env}{N:Nat}:∀{l m:List (Nat×Nat)},(∀p,p∈l->p∈m)->rk xb bp env N m=true->rk xb bp env N l=true
 |[],_,_,_=>rfl
 |(i,j)::r,m,hs,h=>by
  simp only[rk,dM];refine⟨?_,YY (λp ar=>hs p (Qy _ ar)) h⟩
  have:∀ (m:List (Nat×Nat)),(i,j)∈m->rk xb bp env N m = true->(match bp[i]?,bp[j]? with
   |some x,some y=>(fS xb y.op env (N+16*j)).all λb=>!(du xb x.op env (N+16*i) b)
   |_,_=>true)=true:=by
   intro m
   induction m with
   |nil=>intro h _;simp at h
   |cons q m ih=>
    intro hm ay;obtain⟨aFB,aFC⟩:=q;simp only[rk,dM]at ay
    grind
  grind
theorem atC{l:List (cF×List Nat)}{p:Nat×Nat}(h:p∈si l):p∈Cs l:=by
 unfold Cs
 grind
theorem c9.xc{hg:List (Nat×Nat)}{env:Env}{J:br}{Q:Exit->Env->br->Nat->Prop}(h:I6 xb P bp N env J (λe s=>rk xb bp e N hg=true/\Q .normal e s (N+16*bp.length))):c9 P nt kk (.xc bp hg) env J N Q:=by
 intro code ay aG φ S a w ct R;obtain⟨id,ops,rfl,hres,ot,VZ,rfl⟩:=ak5 ay;have hlen:=Kz hres;simp at hlen;obtain⟨E,T,G,W,ai,e0,t0,pV,e1⟩:=ZI h;refine wp_region_any VZ ?_;refine aqH (aG:=aG) (nt:=nt) (aeo hlen ot ai (YY (λp ar=>atC ar) pV)) ai hres (λi o aO=>by simp[aO]) (λφ S a w R'=>⟨φ,S,_,_,_,e1,R'⟩) ops.size _ φ S env J a _ ?_ ?_
 . have:=List.countP_le_length (p:=λx:Bool=>x==false) (l:=(Array.replicate ops.size false).toList)
   grind
 . have R':Rel aG nt φ S env J (lt N) a {w with drawn:=w.drawn+1}:=R.drew;refine⟨R'.more λb ag=>by simp[used,ag],by simp[hlen],λi ak aj=>?_,λt _=>by rw[e0],λt i o aO aj=>?_,λb _=>by rw[t0],λb i ak aj=>?_⟩
   . simp_all
   . exfalso;simp[Array.getElem?_replicate]at aj;split at aj<;>simp at aj
   simp_all
end
end
section
open Go
def zy(P:Program)(c:Code)(Q:Exit->Act->World->Prop)(a:Act)(w:World):Prop:=
 ∀(b:Frame) (k:List Item) (cs:List Frame),∃e cx w',Q e cx w'/\Arrives P (lone (b.at a (.code c:: .inLoop c::k)) cs w) b k cs e cx w'
theorem yy{P:Program}{c:Code}{Q:Exit->Act->World->Prop}{a:Act}{w:World}(h:c.wp P (Exit.then (zy P c Q) Q) a w):zy P c Q a w:=by
 intro b k cs;obtain⟨e,IB,Nd,aE,Av⟩:=h b _ cs;cases e with
 |normal=>
  obtain⟨ayJ,axx,aDP,aAw,azc⟩:=aE b k cs;exact⟨ayJ,axx,aDP,aAw,.of_steps (Steps.trans Av (.one step_inLoop)) azc⟩
 |exit id=>exact⟨_,IB,Nd,aE,.pass rfl (λ_ _=>.inl (by simp)) Av⟩
 |goto l=>exact⟨_,IB,Nd,aE,.pass (x:= .inLoop c) rfl (λ_ _=>.inl (by simp)) Av⟩
 |ret=>exact⟨_,IB,Nd,aE,.pass (x:= .inLoop c) rfl (λ_ _=>.inl (by simp)) Av⟩
 |panic r9=>exact⟨_,IB,Nd,aE,.pass (x:= .inLoop c) rfl (λ_ _=>.inl (by simp)) Av⟩
 |outgrown=>exact⟨_,IB,Nd,aE,.pass (x:= .inLoop c) rfl (λ_ _=>.inl (by simp)) Av⟩
theorem G6{P:Program}{c:Code}{Q:Exit->Act->World->Prop}{a:Act}{w:World}(h:zy P c Q a w):(Code.loop c).wp P Q a w:=by
 intro b k cs;obtain⟨e,cx,w',aE,Av⟩:=h b k cs;exact⟨e,cx,w',aE,.of_steps (.one step_loop) Av⟩
section
variable {P:Program}{nt kk:Nat}{env env':Env}{J J':br}{N N':Nat}{Q vE:Exit->Env->br->Nat->Prop}
def t'(P:Program)(nt kk:Nat)(c:eY)(env:Env)(J:br)(N:Nat)(Q:Exit->Env->br->Nat->Prop):Prop:=
 ∀code,resolve P nt code=some c->∀aG φ S a w,aG.k=kk->Rel aG nt φ S env J (lt N) a w->zy P code (λe cx w'=>∃bB bC env' J' N',Q e env' J' N'/\Rel aG nt bB bC env' J' (lt N') cx w') a w
theorem t'.round{c:eY}(h:c9 P nt kk c env J N (andThen (λenv J N=>t' P nt kk c env J N Q) Q)):t' P nt kk c env J N Q:=by
 intro code ay aG φ S a w ct R;refine yy (wp_mono (h _ ay aG φ S a w ct R) ?_)
 rintro e cx w' ⟨bB,bC,env',J',N',aE,R'⟩
 cases e with
 |normal=>exact aE _ ay aG _ bC cx w' ct R'
 |_=>exact⟨bB,bC,env',J',N',aE,R'⟩
theorem c9.aBq{c:eY}(h:t' P nt kk c env J N Q):c9 P nt kk (.loop c) env J N Q:=by
 intro code ay aG φ S a w ct R;obtain⟨b,rfl,ag⟩:=aqE ay;exact G6 (h b ag aG φ S a w ct R)
def Conv(kk N:Nat)(env:Env)(J:br)(N':Nat)(env':Env)(J':br):Prop:=
 ∀aG nt φ S a w,aG.k=kk->Rel aG nt φ S env J (lt N) a w->∃bB bC,Rel aG nt bB bC env' J' (lt N') a w
theorem Conv.refl{kk N:Nat}:Conv kk N env J N env J:=λ_ _ φ S _ _ _ R=>⟨φ,S,R⟩
theorem Conv.trans{kk rW qZ It:Nat}{aR bw e7:Env}{s1 s2 p8:br}(h:Conv kk rW aR s1 qZ bw s2)(k:Conv kk qZ bw s2 It e7 p8):Conv kk rW aR s1 It e7 p8:=
 λaG nt φ S a w hk R=>let⟨bB,bC,R'⟩:=h aG nt φ S a w hk R;k aG nt _ bC a w hk R'
theorem c9.conv{c:eY}(ay:Conv kk N env J N' env' J')(h:c9 P nt kk c env' J' N' Q):c9 P nt kk c env J N Q:=
 λcode JG aG φ S a w ct R=>let⟨bB,bC,R'⟩:=ay aG nt φ S a w ct R;h _ JG aG _ bC a w ct R'
theorem t'.conv{c:eY}(ay:Conv kk N env J N' env' J')(h:t' P nt kk c env' J' N' Q):t' P nt kk c env J N Q:=
 λcode JG aG φ S a w ct R=>let⟨bB,bC,R'⟩:=ay aG nt φ S a w ct R;h _ JG aG _ bC a w ct R'
theorem Conv.tidy(ks bs:List Nat)(cC:bs.Nodup)(hk:keeps kk bs=true):Conv kk N env J bs.length (wC bs env ks) (iR bs J 0 bs):=
 λaG nt φ S a w ct R=>let⟨bB,R'⟩:=R.tidy ks bs cC (by grind);⟨bB,S,R'⟩
theorem Conv.freeze(b0:Nat){e2:Nat}{es:List (List T)}(cQ:bf J b0=some (.arr e2 es)):Conv kk N env J N (A' b0 e2 es env) (uZ b0 e2 es J):=
 λaG nt φ S a w ct R=>⟨φ,_,R.freeze cQ⟩
def fb(c eE:C):Prop:=(∀φ w S v,bP φ w S c v->bP φ w S eE v)/\∀n,c.aP n=true->eE.aP n=true
theorem fb.refl(c:C):fb c c:=⟨λ_ _ _ _ h=>h,λ_ h=>h⟩
theorem fb.dead(c:C):fb c .dead:=⟨λ_ _ _ _ h=>h.oy,λ_ _=>rfl⟩
theorem fb.aT:fb .aT (.t (.slice [])):=by
 refine⟨?_,λ_ _=>rfl⟩
 rintro φ w S v ⟨a,rfl⟩
 exact cl.slice [] a 0 0 0 0 (λ_ _=>undef) (by simp) (by simp) (by simp) (by simp) (by simp) (by simp)
inductive kc:V->V->Prop
 |c {x y}:fb x y->kc (.c x) (.c y)
 |agg {xs bG}:bk fb xs bG->kc (.agg xs) (.agg bG)
 |bn (xs bG:List V) (aj:xs.length=bG.length) (h:∀(i:Nat) x y,xs[i]?=some x->bG[i]?=some y->kc x y):kc (.bn xs) (.bn bG)
theorem bk.comp{α β jL:Type}{R:α->β->Prop}{R':β->jL->Prop}{af7:α->jL->Prop}(h:∀a b c,R a b->R' b c->af7 a c):∀{l:List α} {m:List β} {k:List jL},bk R l m->bk R' m k->bk af7 l k
 |[],[],[],_,_=>.nil
 |_::_,_::_,_::_,.cons h1 aa,.cons k1 k2=>.cons (h _ _ _ h1 k1) (bk.comp h aa k2)
theorem bk.flip{α β:Type}{R:α->β->Prop}{R':β->α->Prop}{l:List α}{m:List β}(h:bk R l m)(k:∀a b,R a b->R' b a):bk R' m l:=by
 induction h with
 |nil=>exact .nil
 |cons h _ ih=>exact .cons (k _ _ h) ih
theorem agr{n:Nat->Bool}:∀{vs:List V},(∀(i:Nat) v,vs[i]?=some v->v.aP n=true)->V.aP.V.e3 n vs=true
 |[],_=>rfl
 |v::vs,h=>by simp[V.aP.V.e3];exact⟨h 0 v rfl,agr λi x I=>h (i+1) x (by grind)⟩
theorem kc.xe{φ:ea}{w:World}{S:dV}{v iI:V}(h:kc v iI):∀{x},cy φ w S v x->cy φ w S iI x:=by
 induction h with
 |c h=>intro x I;cases I with|c I=>exact .c (h.1 _ _ _ _ I)
 |agg h=>
  intro x I;cases I with
  |agg I=>exact .agg (bk.comp (λa b c h1 aa=>h1.1 _ _ _ _ aa) (h.flip λ_ _ h=>h) I)
 |bn xs bG aj h ih=>
  intro x I;cases I with
  |bn _ dW e4 aa=>
   refine .bn _ dW (by omega) ?_
   grind
theorem kc.aP{v iI:V}(h:kc v iI)(n:Nat->Bool):v.aP n=true->iI.aP n=true:=by
 induction h with
 |c h=>intro ag;exact h.2 n ag
 | @agg xs bG h=>
  intro ag;simp[V.aP]at ag⊢;intro c ay;obtain⟨i,ak,rfl⟩:=la ay;obtain⟨a,aC,hs⟩:=(h.flip λ_ _ h=>h).get (gQ ak);exact hs.2 n (ag a (hp aC))
 |bn xs bG aj h ih=>
  grind[V.aP,agr,uN]
inductive qX:ck->ck->Prop
 |box {xs bG}:bk fb xs bG->qX (.box xs) (.box bG)
 |arr {sz es}:qX (.arr sz es) (.arr sz es)
 |same {x}:qX x x
 |cL {E c eE}:fb c eE->qX (.cL E c) (.cL E eE)
 |dr {sz es i o c eE}:fb c eE->qX (.dr sz es i o c) (.dr sz es i o eE)
def adX(env env':Env):Prop:=∀k g iI,look env' k=some (g,iI)->∃v,look env k=some (g,v)/\kc v iI
def Ck(J J':br):Prop:=∀b cH,bf J' b=some cH->∃x,bf J b=some x/\qX x cH
theorem qX.Ei{φ:ea}{w:World}{S:dV}{b:Nat}{x cH:ck}(h:qX x cH)(ai:dU φ w S b x):dU φ w S b cH:=by
 cases h with
 |arr=>grind
 |same=>grind
 |cL h=>
  obtain⟨h0,⟨p,v,h1,aa,aA⟩,aU⟩:=ai;exact⟨h0,⟨p,v,h1,aa,h.1 _ _ _ _ aA⟩,aU⟩
 |dr h=>
  obtain⟨h1,⟨vs,E,k1,k2,k3,v,k4,k5⟩,k6⟩:=ai;exact⟨h1,⟨vs,E,k1,k2,k3,v,k4,h.1 _ _ _ _ k5⟩,k6⟩
 |box h=>
  obtain⟨h0,vs,E,h1,aa,aA⟩:=ai;exact⟨h0,vs,E,h1,bk.comp (λa b c h1 aa=>h1.1 _ _ _ _ aa) (h.flip λ_ _ h=>h) aa,aA⟩
theorem qX.aP{x cH:ck}(h:qX x cH)(n:Nat->Bool)(ag:x.aP n=true):cH.aP n=true:=by
 cases h with
 |arr=>rfl
 |same=>grind
 |cL h=>exact h.2 n ag
 |dr h=>exact h.2 n ag
 | @box xs bG h=>
  have:=kc.aP (.agg h) n (by grind[V.aP,ck.aP])
  grind[V.aP,ck.aP]
theorem Rel.weaken{aG:Ctx}{φ:ea}{S:dV}{n:Nat->Bool}{a:Act}{w:World}(R:Rel aG nt φ S env J n a w)(he:adX env env')(hs:Ck J J'):Rel aG nt φ S env' J' n a w:=by
 refine⟨⟨λb x I=>?_,λb bI x y I ao=>?_,R.b'.st⟩,λk g v aj az=>?_,λk g v aj az=>?_,λk g v aj az=>?_,λb x I=>?_,R.size,R.defers,R.ext,λb x I=>?_,R.fix,R.j4⟩
 . obtain⟨aw,h1,aa⟩:=hs b x I;exact aa.Ei (R.b'.blk b aw h1)
 . obtain⟨aw,h1,aa⟩:=hs b x I;obtain⟨pt,k1,k2⟩:=hs bI y ao;exact R.b'.inj b bI aw pt h1 k1
 . obtain⟨v0,h1,aa⟩:=he k g v aj;obtain⟨x,I,ai⟩:=R.jE k g v0 h1 az;exact⟨x,I,aa.xe ai⟩
 . obtain⟨v0,h1,aa⟩:=he k g v aj;exact R.kQ k g v0 h1 az
 . obtain⟨v0,h1,aa⟩:=he k g v aj;exact aa.aP n (R.jD k g v0 h1 az)
 . obtain⟨aw,h1,aa⟩:=hs b x I;exact⟨(R.eX b aw h1).1,aa.aP n (R.eX b aw h1).2⟩
 . obtain⟨aw,h1,aa⟩:=hs b x I;exact R.own b aw h1
theorem Conv.weaken(he:adX env env')(hs:Ck J J'):Conv kk N env J N env' J':=λaG nt φ S a w _ R=>⟨φ,S,R.weaken he hs⟩
theorem Rel.WM{aG:Ctx}{φ:ea}{S:dV}{a:Act}{w:World}(R:Rel aG nt φ S env J (lt N) a w){sz:Nat}(b8:0<sz)(hk:aG.k<=N):
 Rel aG nt (ga φ N (0,0)) S env (ee J N (.arr sz [])) (lt (N+1)) a w:=by
 have fQ:∀b,lt N b=true->ga φ N (0,0) b=φ b:=by
  intro b ag;simp[lt]at ag
  grind[ga]
 have hm:∀b,lt N b=true->lt (N+1) b=true:=λb ag=>Sz (by simp) ag
 have cS:=R.Ee fQ;have dh:(ga φ N (0,0) N).2=0:=by simp[ga]
 have eU:∀b x,bf (ee J N (.arr sz [])) b=some x->(b=N/\x= .arr sz [])\/(b≠N/\bf J b=some x):=by
  grind[dX]
 refine⟨⟨λb x I=>?_,λb bI x y I ao b4 h0 fF=>?_,cS.b'.st⟩,cS.jE,cS.kQ,λk g v aj az=>V.lB hm (cS.jD k g v aj az),λb x I=>?_,cS.size,cS.defers,cS.ext,λb x I h0=>?_,cS.fix,λb ag=>by simp[lt];omega⟩
 . rcases eU b x I with⟨rfl,rfl⟩|⟨_,I⟩
   . exact⟨by simp,by simp,by simp,b8,λh=>absurd dh h⟩
   . exact cS.b'.blk b x I
 . rcases eU b x I with⟨rfl,rfl⟩|⟨_,I⟩
   . grind
   . rcases eU bI y ao with⟨rfl,rfl⟩|⟨_,ao⟩
     . grind
     . exact cS.b'.inj b bI x y I ao b4 h0 fF
 . rcases eU b x I with⟨rfl,rfl⟩|⟨_,I⟩
   . exact⟨by simp[lt],rfl⟩
   . exact⟨hm b (cS.eX b x I).1,ck.lB hm (cS.eX b x I).2⟩
 . rcases eU b x I with⟨rfl,rfl⟩|⟨_,I⟩
   . grind
   . exact cS.own b x I h0
end
inductive aS where
 |bool
 |int (k:IntKind)
 |str
 |slice (t:aS)
 |nm (n:Nat)
def aS.beq:aS->aS->Bool
 |.bool,.bool=>true
 |.int k,.int cI=>decide (k=cI)
 |.str,.str=>true
 |.slice r,.slice fw=>aS.beq r fw
 |.nm n,.nm m=>Nat.beq n m
 |_,_=>false
theorem aS.beq_eq:∀{a b:aS},aS.beq a b=true->a=b
 |.bool,.bool,_=>rfl
 |.int k,.int cI,h=>by grind[aS.beq]
 |.str,.str,_=>rfl
 |.slice r,.slice fw,h=>by simp[aS.beq]at h;rw[aS.beq_eq h]
 |.nm n,.nm m,h=>by grind[aS.beq,Nat.eq_of_beq_eq_true]
 |.bool,.int _,h|.bool,.str,h|.bool,.slice _,h|.bool,.nm _,h=>by simp[aS.beq]at h
 |.int _,.bool,h|.int _,.str,h|.int _,.slice _,h|.int _,.nm _,h=>by simp[aS.beq]at h
 |.str,.int _,h|.str,.bool,h|.str,.slice _,h|.str,.nm _,h=>by simp[aS.beq]at h
 |.slice _,.int _,h|.slice _,.str,h|.slice _,.bool,h|.slice _,.nm _,h=>by simp[aS.beq]at h
 |.nm _,.int _,h|.nm _,.str,h|.nm _,.bool,h|.nm _,.slice _,h=>by grind[aS.beq]
theorem aS.beq_refl:∀(a:aS),aS.beq a a=true
 |.bool=>rfl
 |.int k=>by simp[aS.beq]
 |.str=>rfl
 |.slice r=>by exact aS.beq_refl r
 |.nm n=>by grind[aS.beq,Nat.beq_refl]
def aS.dec(a b:aS):Decidable (a=b):=
 match h:aS.beq a b with
 |true=>.isTrue (aS.beq_eq h)
 |false=>.isFalse λe=>by rw[e,aS.beq_refl]at h;cases h
def aS.den(D:Nat->Type):aS->Type
 |.bool=>Bool
 |.int _=>Int
 |.str=>List UInt8
 |.slice t=>List (aS.den D t)
 |.nm n=>D n
structure Cell (D:Nat->Type) where
 ty:aS
 val:ty.den D
def Cell.as{D:Nat->Type}(t:aS)(c:Cell D):Option (t.den D):=
 match aS.dec c.ty t with
 |.isTrue h=>some (Eq.rec (motive:=λt _=>aS.den D t) c.val h)
 |.isFalse _=>none
theorem Cell.qi{D:Nat->Type}{t:aS}{c:Cell D}{x:t.den D}(h:c.as t=some x):c=⟨t,x⟩:=by
 obtain⟨u,v⟩:=c;unfold Cell.as at h;split at h
 all_goals grind
theorem Cell.agf{D:Nat->Type}{t:aS}{x:t.den D}:Cell.as t (⟨t,x⟩:Cell D)=some x:=by
 unfold Cell.as;split
 . rfl
 grind
def U2(D:Nat->Type)(enc:∀n,D n->List T):(t:aS)->t.den D->List T
 |.bool,b=>[.bool b]
 |.int k,n=>[.int k n]
 |.str,s=>[.str s]
 |.slice t,l=>[.slice (List.map (U2 D enc t) l)]
 |.nm n,x=>enc n x
def ahb(D:Nat->Type)(enc:∀n,D n->List T):Cell D->T
 |⟨.bool,b⟩=>.bool b
 |⟨.int k,n⟩=>.int k n
 |⟨.str,s⟩=>.str s
 |⟨.slice t,l⟩=>.slice (List.map (U2 D enc t) l)
 |⟨.nm _,_⟩=>.bool false
structure dC where
 D:Nat->Type
 qB:∀n,D n
 Fv:∀n,D n->List (Cell D)
 make:∀n,List (Cell D)->Option (D n)
 eM:Nat->List aS
 enc:∀n,D n->List T
 ahc:∀n x,enc n x=(Fv n x).map (ahb D enc)
 mk_eq:∀n l x,make n l=some x->Fv n x=l
 akB:∀n x,(Fv n x).map Cell.ty=eM n
 pos:∀n,0<(eM n).length
 akA:Nat->Option aS:=λ_=>none
 own:List (List Bool×Nat×aS):=[]
 c2:Option aS:=none
variable {U:dC}
abbrev dC.C(U:dC):=Cell U.D
abbrev aS.d(U:dC)(t:aS):=t.den U.D
def aS.qB(U:dC):(t:aS)->t.den U.D
 |.bool=>false
 |.int _=>(0:Int)
 |.str=>([]:List UInt8)
 |.slice t=>([]:List (t.den U.D))
 |.nm n=>U.qB n
def aS.F6:aS->Bool
 |.nm _=>true
 |_=>false
def aS.row(U:dC):(t:aS)->t.den U.D->List (Cell U.D)
 |.bool,b=>[⟨.bool,b⟩]
 |.int k,n=>[⟨.int k,n⟩]
 |.str,s=>[⟨.str,s⟩]
 |.slice t,l=>[⟨.slice t,l⟩]
 |.nm n,x=>U.Fv n x
def aS.cells(U:dC):aS->List aS
 |.nm n=>U.eM n
 |t=>[t]
def aS.sz(U:dC)(t:aS):Nat:=(t.cells U).length
def oy(U:dC)(t:aS):List (Cell U.D)->Option (t.den U.D)
 |[c]=>c.as t
 |_=>none
def aS.mk(U:dC):(t:aS)->List (Cell U.D)->Option (t.den U.D)
 |.nm n,l=>U.make n l
 |.bool,l=>oy U .bool l
 |.int k,l=>oy U (.int k) l
 |.str,l=>oy U .str l
 |.slice t,l=>oy U (.slice t) l
theorem R2{t:aS}{l:List (Cell U.D)}{x:t.den U.D}(h:oy U t l=some x):l=[⟨t,x⟩]:=by
 unfold oy at h
 grind[Cell.qi]
def Cell.enc(U:dC)(c:Cell U.D):T:=ahb U.D U.enc c
def aS.enc(U:dC)(t:aS)(x:t.den U.D):List T:=U2 U.D U.enc t x
theorem aS.Fq{t:aS}{x:t.den U.D}:t.enc U x=(t.row U x).map (Cell.enc U):=by
 cases t<;>first|rfl|skip
 case nm n=>exact U.ahc n x
theorem aS.aCK{t:aS}{x:t.den U.D}:(t.row U x).map Cell.ty=t.cells U:=by
 cases t<;>first|rfl|skip
 case nm n=>exact U.akB n x
theorem aS.Xw{t:aS}{x:t.den U.D}:(t.row U x).length=t.sz U:=by
 rw[<-p3,aS.aCK];rfl
theorem aS.CB{t:aS}{x:t.den U.D}:(t.enc U x).length=t.sz U:=by
 rw[aS.Fq,p3,aS.Xw]
theorem aS.BR{t:aS}:0<t.sz U:=by
 cases t<;>simp[aS.sz,aS.cells]
 exact U.pos _
theorem aS.WJ:∀{t:aS} {l:List (Cell U.D)} {x:t.den U.D},t.mk U l=some x->t.row U x=l
 |.nm n,l,x,h=>U.mk_eq n l x h
 |.bool,l,x,h=>(R2 h).symm
 |.int k,l,x,h=>(R2 h).symm
 |.str,l,x,h=>(R2 h).symm
 |.slice t,l,x,h=>(R2 h).symm
def aS.at(U:dC)(t:aS)(l:List (t.den U.D))(i:Nat):t.den U.D:=l.getD i (t.qB U)
theorem LC{t:aS}{l:List (t.den U.D)}{i:Nat}(h:i<l.length):el (l.map (t.enc U)) i=t.enc U (t.at U l i):=by
 simp[el,aS.at,gQ h]
end
section
open Go
variable {U:dC}
inductive bH (U:dC) where
 |t (c:Cell U.D)
 |ptr (b o:Nat)
 |dw (b:Nat)(t:aS)(i o:Nat)
 |ft (t:aS)(x:t.den U.D)(o:Nat)
 |arr (b:Nat)
 |sub (b bE len:Nat)
 |pre (b h:Nat)
 |fx (b bE len:Nat)
 |mp (b:Nat)
 |gw (b:Nat)
 |df (b:Nat)
 |aT
 |hE
 |hD
 |fn (f:Nat)(caps:List Nat)
 |dead
inductive b9 (U:dC) where
 |c (x:bH U)
 |agg (cs:List (bH U))
 |bn (vs:List (b9 U))
inductive ds (U:dC) where
 |box (cs:List (bH U))
 |arr (t:aS)(l:List (t.den U.D))
 |rows (sz:Nat)(r:List (List (bH U)))
 |set (ks:List (List UInt8))
 |buf (E:Nat)(s:List UInt8)
 |cL (E:Nat)(c:bH U)
 |dr (t:aS)(l:List (t.den U.D))(i o:Nat)(c:bH U)
abbrev cj(U:dC):=List (Nat×b9 U)
abbrev bA(U:dC):=List (Nat×ds U)
abbrev gy:=List (Nat×Nat×Bool)
def bh{α:Type}:List (Nat×α)->Nat->Option α
 |[],_=>none
 |(k,x)::r,i=>match Nat.beq k i with
  |true=>some x
  |false=>bh r i
def dd{α:Type}:List (Nat×α)->Nat->α->List (Nat×α)
 |[],b,x=>[(b,x)]
 |(k,y)::r,b,x=>match Nat.beq k b with
  |true=>(k,x)::r
  |false=>(k,y)::dd r b x
def dl{α:Type}:List (Nat×α)->Nat->List (Nat×α)
 |[],_=>[]
 |(k,y)::r,b=>match Nat.beq k b with
  |true=>dl r b
  |false=>(k,y)::dl r b
theorem dN{a b:Nat}(h:Nat.beq a b=true):a=b:=Nat.eq_of_beq_eq_true h
theorem mr{a b:Nat}(h:Nat.beq a b=false):a≠b:=λe=>by simp_all
theorem kq{α:Type}(J:List (Nat×α))(b:Nat)(x:α)(i:Nat):bh (dd J b x) i=if b=i then some x else bh J i:=by
 induction J with
 |nil=>
  grind[dd,bh,dN,mr]
 |cons y r ih=>
  grind[dd,dN,bh]
theorem vc{α:Type}(J:List (Nat×α))(b i:Nat):bh (dl J b) i=if b=i then none else bh J i:=by
 induction J with
 |nil=>simp[dl,bh]
 |cons y r ih=>
  grind[dl,dN,bh]
def Nk:C->Option (bH U)
 |.t (.bool b)=>some (.t ⟨.bool,b⟩)
 |.t (.int k n)=>some (.t ⟨.int k,n⟩)
 |.t (.str s)=>some (.t ⟨.str,s⟩)
 |.aT=>some .aT
 |.hE=>some .hE
 |.hD=>some .hD
 |.dead=>some .dead
 |.fn f []=>some (.fn f [])
 |_=>none
def tY:List C->Option (List (bH U))
 |[]=>some []
 |c::cs=>match Nk c,tY cs with
  |some x,some xs=>some (x::xs)
  |_,_=>none
def Ii:V->Option (b9 U)
 |.c x=>match Nk x with
  |some y=>some (.c y)
  |none=>none
 |.agg cs=>match tY cs with
  |some bG=>some (.agg bG)
  |none=>none
 |.bn _=>none
def HS(gl:gy):Nat->Option (Nat×Bool)->Nat->Bool
 |0,_,_=>false
 |mY+1,gd,k=>match bh gl k with
  |none=>true
  |some mZ=>match gd with
   |none=>false
   |some g=>(Nat.beq g.1 mZ.1&&(g.2==mZ.2))||HS gl mY (bh gl g.1) k
def hT(env:cj U)(t:Nat)(b:Bool):Option Bool:=
 match bh env t with
 |some (.c (.t ⟨.bool,x⟩))=>some (match b with|true=>x|false=>!x)
 |_=>none
def su(gl:gy)(env:cj U):Nat->Option (Nat×Bool)->Option Bool
 |_,none=>some true
 |0,some _=>none
 |mY+1,some (t,b)=>match su gl env mY (bh gl t),hT env t b with
  |some x,some y=>some (x&&y)
  |_,_=>none
def z':Nat:=200
def eu(gl:gy)(gd:Option (Nat×Bool))(env:cj U):ba->Option (b9 U)
 |.const v=>Ii v
 |.tmp k=>match HS gl z' gd k with
  |true=>bh env k
  |false=>none
def TL(gl:gy)(gd:Option (Nat×Bool))(env:cj U)(c:ba)(b:Bool):ba->Option (b9 U)
 |.const v=>Ii v
 |.tmp k=>match HS gl z' gd k with
  |true=>bh env k
  |false=>match c,bh gl k with
   |.tmp y5,some (t,bI)=>match Nat.beq t y5&&(bI==b)with
    |true=>bh env k
    |false=>none
   |_,_=>none
def sT(gl:gy)(gd:Option (Nat×Bool))(env:cj U):List ba->Option (List (b9 U))
 |[]=>some []
 |x::r=>match eu gl gd env x,sT gl gd env r with
  |some v,some vs=>some (v::vs)
  |_,_=>none
def yn:b9 U->Option (List (bH U))
 |.c x=>some [x]
 |.agg cs=>some cs
 |.bn _=>none
def xl(cells:List (bH U))(off:Nat)(cs:List (bH U)):List (bH U):=cells.take off++cs++cells.drop (off+cs.length)
def LD(gl:gy)(gd:Option (Nat×Bool))(env:cj U):List (bH U)->List (Nat×Nat×ba)->Option (List (bH U))
 |cells,[]=>some cells
 |cells,(off,n,x)::r=>match eu gl gd env x with
  |none=>none
  |some v=>match yn v with
   |none=>none
   |some cs=>match Nat.beq cs.length n&&Nat.ble (off+n) cells.length with
    |true=>LD gl gd env (xl cells off cs) r
    |false=>none
theorem abq{bc cs:List (bH U)}{o:Nat}(h:o+cs.length<=bc.length):(xl bc o cs).length=bc.length:=by
 simp only[xl,fp,BD,tJ];omega
def bH.toT:bH U->Option T
 |.t c=>match c.ty.F6 with
  |true=>none
  |false=>some (c.enc U)
 |.aT=>some (.slice [])
 |_=>none
def lQ:List (bH U)->Option (List T)
 |[]=>some []
 |c::cs=>match c.toT,lQ cs with
  |some t,some ts=>some (t::ts)
  |_,_=>none
def Gu(gl:gy)(gd:Option (Nat×Bool))(env:cj U)(sz:Nat):List (List (bH U))->List (Nat×ba)->Option (List (List (bH U)))
 |rows,[]=>some rows
 |rows,(i,x)::r=>match eu gl gd env x with
  |none=>none
  |some v=>match yn v with
   |none=>none
   |some cs=>match lQ cs with
    |none=>none
    |some _=>match Nat.beq cs.length sz&&Nat.ble (i+1) rows.length with
     |true=>Gu gl gd env sz (rows.set i cs) r
     |false=>none
inductive jy (U:dC) where
 |ty (t:aS)(l:List (t.den U.D))
 |rows (r:List (List (bH U)))
 |nil
def jy.len:jy U->Nat
 |.ty _ l=>l.length
 |.rows r=>r.length
 |.nil=>0
def lY:List aS->List (bH U)->Option (List (Cell U.D))
 |[],[]=>some []
 |t::ts,.t c::cs=>match lY ts cs with
  |some l=>some (c::l)
  |none=>none
 |.slice t::ts,.aT::cs=>match lY ts cs with
  |some l=>some (⟨.slice t,([]:List (t.den U.D))⟩::l)
  |none=>none
 |_,_=>none
def xm(U:dC)(t:aS)(cs:List (bH U)):Option (t.den U.D):=
 match lY (t.cells U) cs with
 |some l=>t.mk U l
 |none=>none
def tX(U:dC)(t:aS):List (List (bH U))->Option (List (t.den U.D))
 |[]=>some []
 |r::rs=>match xm U t r,tX U t rs with
  |some x,some xs=>some (x::xs)
  |_,_=>none
def jy.as(t:aS):jy U->Option (List (t.den U.D))
 |.ty u l=>Cell.as (.slice t) ⟨.slice u,l⟩
 |.rows r=>tX U t r
 |.nil=>some []
def jy.join:jy U->jy U->Option (jy U)
 |.nil,y=>some y
 |.ty t l,y=>match y.as t with
  |some fm=>some (.ty t (l++fm))
  |none=>none
 |.rows r,.ty t l=>match tX U t r with
  |some ng=>some (.ty t (ng++l))
  |none=>none
 |.rows r,.rows fw=>some (.rows (r++fw))
 |.rows r,.nil=>some (.rows r)
def jy.blk(sz:Nat):jy U->Option (ds U)
 |.ty t l=>match Nat.beq (t.sz U) sz with
  |true=>some (.arr t l)
  |false=>none
 |.rows r=>match r.all λx=>Nat.beq x.length sz with
  |true=>some (.rows sz r)
  |false=>none
 |.nil=>some (.rows sz [])
def B2(J:bA U):b9 U->Option (jy U×Option Nat)
 |.c (.t ⟨.slice t,l⟩)=>some (.ty t l,none)
 |.c .aT=>some (.nil,none)
 |.c (.arr b)=>match bh J b with
  |some (.arr t l)=>some (.ty t l,some b)
  |some (.rows _ r)=>some (.rows r,some b)
  |_=>none
 |_=>none
def ds.ep:ds U->Option (Nat×Nat)
 |.box cs=>some (1,cs.length)
 |.arr t l=>some (t.sz U,l.length)
 |.rows sz r=>some (sz,r.length)
 |.set _=>none
 |.buf _ s=>some (1,s.length)
 |.cL _ _=>none
 |.dr t l _ _ _=>some (t.sz U,l.length)
def als(J:bA U)(b sz:Nat):Bool:=
 match bh J b with
 |some x=>(match x.ep with|some p=>Nat.beq p.1 sz|none=>false)
 |none=>false
def room(bytes n:Nat):Bool:=decide ((2*n+192)*bytes<=kJ)&&decide (n<=en)
def alg:BinOp->IntKind->IntKind->Int->Int->Option (Bool×Cell U.D)
 |.add,k,cI,a,b=>if k=cI then some (true,⟨.int k,k.wrap (a+b)⟩)else none
 |.sub,k,cI,a,b=>if k=cI then some (true,⟨.int k,k.wrap (a-b)⟩)else none
 |.mul,k,cI,a,b=>if k=cI then some (true,⟨.int k,k.wrap (a*b)⟩)else none
 |.quo,k,cI,a,b=>if k=cI then some (!decide (b=0),⟨.int k,k.wrap (a.tdiv b)⟩)else none
 |.rem,k,cI,a,b=>if k=cI then some (!decide (b=0),⟨.int k,a.tmod b⟩)else none
 |.and,k,cI,a,b=>if k=cI then some (true,⟨.int k,k.wrap (BitVec.ofInt k.bits a &&& BitVec.ofInt k.bits b).toNat⟩)else none
 |.or,k,cI,a,b=>if k=cI then some (true,⟨.int k,k.wrap (BitVec.ofInt k.bits a ||| BitVec.ofInt k.bits b).toNat⟩)else none
 |.xor,k,cI,a,b=>if k=cI then some (true,⟨.int k,k.wrap (BitVec.ofInt k.bits a ^^^ BitVec.ofInt k.bits b).toNat⟩)else none
 |.andNot,k,cI,a,b=>if k=cI then some (true,⟨.int k,k.wrap (BitVec.ofInt k.bits a &&& ~~~ BitVec.ofInt k.bits b).toNat⟩)else none
 |.shl,k,_,a,b=>some (decide (0<=b),⟨.int k,k.wrap (a*2^min b.toNat k.bits)⟩)
 |.shr,k,_,a,b=>some (decide (0<=b),⟨.int k,a.fdiv (2^min b.toNat k.bits)⟩)
 |.eql,k,cI,a,b=>if k=cI then some (true,⟨.bool,decide (a=b)⟩)else none
 |.neq,k,cI,a,b=>if k=cI then some (true,⟨.bool,!decide (a=b)⟩)else none
 |.lss,k,cI,a,b=>if k=cI then some (true,⟨.bool,decide (a<b)⟩)else none
 |.leq,k,cI,a,b=>if k=cI then some (true,⟨.bool,decide (a<=b)⟩)else none
 |.gtr,k,cI,a,b=>if k=cI then some (true,⟨.bool,decide (b<a)⟩)else none
 |.geq,k,cI,a,b=>if k=cI then some (true,⟨.bool,decide (b<=a)⟩)else none
def alh:BinOp->List UInt8->List UInt8->Option (Bool×Cell U.D)
 |.add,a,b=>some (decide (a.length+b.length<=iQ),⟨.str,a++b⟩)
 |.eql,a,b=>some (true,⟨.bool,decide (a=b)⟩)
 |.neq,a,b=>some (true,⟨.bool,!decide (a=b)⟩)
 |.lss,a,b=>some (true,⟨.bool,Op.bytesLess a b⟩)
 |.leq,a,b=>some (true,⟨.bool,Op.bytesLess a b||decide (a=b)⟩)
 |.gtr,a,b=>some (true,⟨.bool,!(Op.bytesLess a b||decide (a=b))⟩)
 |.geq,a,b=>some (true,⟨.bool,!(Op.bytesLess a b)⟩)
 |_,_,_=>none
def aaU(op:BinOp):Cell U.D->Cell U.D->Option (Bool×Cell U.D)
 |⟨.int k,a⟩,⟨.int cI,b⟩=>alg op k cI a b
 |⟨.str,a⟩,⟨.str,b⟩=>alh op a b
 |_,_=>none
def kh(a b:Bool):Bool:=a==b
def gu(a b:Int):Bool:=decide (a=b)
def rr(a b:List UInt8):Bool:=decide (a=b)
def bd(m:Int)(n:Nat):Bool:=decide (0<=m)&&decide (m.toNat<n)
def gW(bE ak:Int)(n:Nat):Bool:=decide (0<=bE)&&(decide (bE<=ak)&&decide (ak<=n))
def hU{α:Type}(l:List α)(bE ak:Int):List α:=(l.take ak.toNat).drop bE.toNat
def tH(a b:Int):Int:=Max.max a b
def fV(a b:Int):Int:=Min.min a b
def mR(s:List UInt8)(m:Int):Int:=((s.getD m.toNat 0).toNat:Int)
def uU(m:Int):List UInt8:=(Utf8.encode m).data.toList
def cU(k:IntKind)(m:Int):Int:=k.wrap m
def E4(a b:List UInt8):List UInt8:=a++b
def aaY:Nat->Cell U.D->Cell U.D->Option Bool
 |0,⟨.bool,a⟩,⟨.bool,b⟩=>some (kh a b)
 |1,⟨.int k,a⟩,⟨.int cI,b⟩=>if k=cI then some (gu a b)else none
 |2,⟨.str,a⟩,⟨.str,b⟩=>some (rr a b)
 |_,_,_=>none
def Nh:List Nat->List (bH U)->List (bH U)->Option Bool
 |[],[],[]=>some true
 |k::ks,.t x::xs,.t y::bG=>match aaY k x y,Nh ks xs bG with
  |some b,some r=>some (b&&r)
  |_,_=>none
 |_,_,_=>none
def yo(agg:Bool)(n:Nat)(cs:List (bH U))(o:Nat):Option (b9 U):=
 match agg with
 |true=>match Nat.ble (o+n) cs.length with
  |true=>some (.agg ((cs.drop o).take n))
  |false=>none
 |false=>match cs[o]? with
  |some c=>some (.c c)
  |none=>none
def wJ(gl:gy)(gd:Option (Nat×Bool))(env:cj U):Option ba->Option (Option Int)
 |none=>some none
 |some x=>match eu gl gd env x with
  |some (.c (.t ⟨.int _,n⟩))=>some (some n)
  |_=>none
def Nf:List (b9 U)->Option (List Nat)
 |[]=>some []
 |.c (.ptr b 0)::r=>match Nf r with
  |some l=>some (b::l)
  |none=>none
 |_=>none
abbrev axn(U:dC):=Option (Bool×b9 U×bA U)
def B4(U:dC)(t:aS)(l:List (t.den U.D))(i o:Nat)(cs:List (bH U)):Option (List (t.den U.D)):=
 match xm U t (xl ((t.row U (t.at U l i)).map .t) o cs)with
 |some x=>some (l.set i x)
 |none=>none
def Ey(t:aS):List (bH U)->Option (List (t.den U.D))
 |[]=>some []
 |.t c::r=>match c.as t,Ey t r with
  |some x,some l=>some (x::l)
  |_,_=>none
 |_::_=>none
def Tl:List (bH U)->Option ((t:aS)×List (t.den U.D))
 |.t c::r=>match c.ty.F6,Ey c.ty (.t c::r)with
  |false,some l=>some ⟨c.ty,l⟩
  |_,_=>none
 |_=>none
def strOf(l:List Int):List UInt8:=l.map λm=>UInt8.ofNat m.toNat
def aar(l:List Int):Bool:=l.all λm=>decide (0<=m)&&decide (m<256)
def HT(bE len n:Nat):Bool:=decide (bE+len<=n)
def ajn:List (bH U)->Option (bH U)
 |[.arr b]=>some (.arr b)
 |_=>none
def Hh(bytes:Nat)(m:Int):Bool:=decide (0<=m/\m.toNat*bytes<=kJ/\m.toNat<=en)
theorem A9{bytes:Nat}{m:Int}:Hh bytes m=true↔0<=m/\m.toNat*bytes<=kJ/\m.toNat<=en:=by simp[Hh]
def c'(gl:gy)(gd:Option (Nat×Bool))(env:cj U)(J:bA U)(n:Nat)(o:dG):axn U:=
 match o with
 |.mov x=>match eu gl gd env x with
  |some v=>some (true,v,J)
  |none=>none
 |.pick c x y=>match eu gl gd env c,TL gl gd env c true x,TL gl gd env c false y with
  |some (.c (.t ⟨.bool,b⟩)),some (.c (.t ⟨.bool,p⟩)),some (.c (.t ⟨.bool,q⟩))=>some (true,.c (.t ⟨.bool,bif b then p else q⟩),J)
  |_,_,_=>none
 |.alloc cs=>match tY cs with
  |some xs=>some (true,.c (.ptr n 0),dd J n (.box xs))
  |none=>none
 |.allocA cs=>match tY cs with
  |some xs=>match Tl xs with
   |some ⟨t,l⟩=>some (true,.c (.ptr n 0),dd J n (.arr t l))
   |none=>none
  |none=>none
 |.idxP k x i=>match eu gl gd env x,eu gl gd env i with
  |some (.c (.ptr b 0)),some (.c (.t ⟨.int _,m⟩))=>match bh J b with
   |some (.arr t _)=>match Nat.beq (t.sz U) 1 with
    |true=>some (bd m k,.c (.dw b t (Int.toNat m) 0),J)
    |false=>none
   |_=>none
  |_,_=>none
 |.idxV k x i=>match eu gl gd env x,eu gl gd env i with
  |some (.agg cs),some (.c (.t ⟨.int _,m⟩))=>match Nat.beq cs.length k,Tl cs with
   |true,some ⟨t,l⟩=>some (bd m k,.c (.t ⟨t,t.at U l (Int.toNat m)⟩),J)
   |_,_=>none
  |_,_=>none
 |.mslice sz bytes z x=>match eu gl gd env x,tY z with
  |some (.c (.t ⟨.int _,m⟩)),some dW=>match lQ dW with
   |none=>none
   |some _=>match dW with
    |[.t c]=>match c.ty.F6,Nat.beq sz 1 with
     |false,true=>some (Hh bytes m,.c (.arr n),dd J n (.arr c.ty (List.replicate (Int.toNat m) c.val)))
     |_,_=>none
    |[.aT]=>match Nat.beq sz 1 with
     |true=>some (Hh bytes m && !decide (Int.toNat m=0),.c (.arr n),dd J n (.box (List.replicate (Int.toNat m) .aT)))
     |false=>none
    |dW=>match Nat.beq dW.length sz with
     |true=>some (Hh bytes m,.c (.arr n),dd J n (.rows sz (List.replicate (Int.toNat m) dW)))
     |false=>none
  |_,_=>none
 |.slcP k x bE ak=>match eu gl gd env x,wJ gl gd env bE,wJ gl gd env ak with
  |some (.c (.ptr b 0)),some l,some h=>
   some (gW (l.getD 0) (h.getD (k:Int)) k,.c (.sub b (Int.toNat (l.getD 0)) (Int.toNat (h.getD (k:Int))-Int.toNat (l.getD 0))),J)
  |_,_,_=>none
 |.b2s x=>match eu gl gd env x with
  |some (.c (.t ⟨.slice (.int .u8),l⟩))=>some (true,.c (.t ⟨.str,strOf l⟩),J)
  |some (.c .aT)=>some (true,.c (.t ⟨.str,[]⟩),J)
  |some (.c (.arr b))=>match bh J b with
   |some (.arr (.int .u8) l)=>some (true,.c (.t ⟨.str,strOf l⟩),J)
   |_=>none
  |some (.c (.sub b bE len))=>match bh J b with
   |some (.arr (.int .u8) l)=>some (HT bE len (List.length l),.c (.t ⟨.str,strOf ((l.drop bE).take len)⟩),J)
   |_=>none
  |_=>none
 |.allocS e e8=>some (true,.c (.ptr n 0),dd (dd J (n+1) (.buf e8 [])) n (.cL e (.df (n+1))))
 |.bsliceT e sz len z parts=>match U.akA e with
  |none=>none
  |some t=>match tY z with
   |some dW=>match lQ dW with
    |none=>none
    |some _=>match Nat.beq dW.length sz with
     |false=>none
     |true=>match Gu gl gd env sz (List.replicate len dW) parts with
      |some rows=>match tX U t rows with
       |some l=>some (true,.c (.t ⟨.slice t,l⟩),J)
       |none=>none
      |none=>none
   |none=>none
 |.mkset=>some (true,.c (.mp n),dd J n (.set []))
 |.lkset x k=>match eu gl gd env x,eu gl gd env k with
  |some (.c (.mp b)),some (.c (.t ⟨.str,s⟩))=>match bh J b with
   |some (.set ks)=>some (true,.c (.t ⟨.bool,ki ks s⟩),J)
   |_=>none
  |_,_=>none
 |.upset x k=>match eu gl gd env x,eu gl gd env k with
  |some (.c (.mp b)),some (.c (.t ⟨.str,s⟩))=>match bh J b with
   |some (.set ks)=>some (true,.bn [],dd J b (.set (n2 ks s)))
   |_=>none
  |_,_=>none
 |.appendB e bytes x y=>match eu gl gd env x,eu gl gd env y with
  |some (.c (.df b)),some (.c (.t ⟨.str,s⟩))=>match bh J b with
   |some (.buf c7 l)=>match Nat.beq c7 e with
    |true=>some (room bytes (List.length l+List.length s),.c (.df n),dd (dl J b) n (.buf e (E4 l s)))
    |false=>none
   |_=>none
  |_,_=>none
 |.sdata x=>match eu gl gd env x with
  |some (.c (.df b))=>some (true,.c (.gw b),J)
  |_=>none
 |.ustr e x k=>match eu gl gd env x,eu gl gd env k with
  |some (.c (.gw b)),some (.c (.t ⟨.int .i64,m⟩))=>match bh J b with
   |some (.buf c7 l)=>match Nat.beq c7 e with
    |true=>some (gu m (List.length l:Int),.c (.t ⟨.str,l⟩),dl J b)
    |false=>none
   |_=>none
  |_,_=>none
 |.box x=>match eu gl gd env x with
  |some v=>match yn v with
   |some cs=>some (true,.c (.ptr n 0),dd J n (.box cs))
   |none=>none
  |none=>none
 |.build z parts=>match tY z with
  |some dW=>match LD gl gd env dW parts with
   |some cs=>some (true,.agg cs,J)
   |none=>none
  |none=>none
 |.bslice sz len z parts=>match tY z with
  |some dW=>match lQ dW with
   |none=>none
   |some _=>match Nat.beq dW.length sz with
    |false=>none
    |true=>match Gu gl gd env sz (List.replicate len dW) parts with
     |some rows=>some (true,.c (.arr n),dd J n (.rows sz rows))
     |none=>none
  |none=>none
 |.load agg k x=>match eu gl gd env x with
  |some (.c (.ptr b o))=>match bh J b with
   |some (.box cs)=>match yo agg k cs o with
    |some v=>some (true,v,J)
    |none=>none
   |some (.cL _ c)=>match agg,o with
    |false,1=>some (true,.c c,J)
    |_,_=>none
   |_=>none
  |some (.c (.dw b t i o))=>match bh J b with
   |some (.arr hF l)=>match Cell.as (.slice t) (⟨.slice hF,l⟩:Cell U.D)with
    |some l=>match yo agg k ((t.row U (t.at U l i)).map .t) o with
     |some v=>some (decide (i<l.length),v,J)
     |none=>none
    |none=>none
   |some (.box cs)=>match yo agg k cs (i*t.sz U+o)with
    |some v=>some (true,v,J)
    |none=>none
   |some (.dr hF l dk ed c)=>match agg with
    |true=>none
    |false=>match Nat.beq o ed with
     |true=>match Nat.beq (t.sz U) (hF.sz U)with
      |true=>some (decide (i=dk),.c c,J)
      |false=>none
     |false=>match Cell.as (.slice t) (⟨.slice hF,l⟩:Cell U.D)with
      |some l=>match yo false k ((t.row U (t.at U l i)).map .t) o with
       |some v=>some (decide (i<l.length),v,J)
       |none=>none
      |none=>none
   |_=>none
  |some (.c (.ft t x o))=>match yo agg k ((t.row U x).map .t) o with
   |some v=>some (true,v,J)
   |none=>none
  |_=>none
 |.store k x v=>match eu gl gd env x,eu gl gd env v with
  |some (.c (.ptr b o)),some v=>match yn v with
   |some cs=>match Nat.beq cs.length k with
    |true=>match bh J b with
     |some (.box bc)=>match Nat.ble (o+k) bc.length with
      |true=>some (true,.bn [],dd J b (.box (xl bc o cs)))
      |false=>none
     |some (.cL e _)=>match o,cs with
      |1,[c]=>some (true,.bn [],dd J b (.cL e c))
      |_,_=>none
     |_=>none
    |false=>none
   |none=>none
  |some (.c (.dw b t i o)),some v=>match yn v with
   |some cs=>match Nat.beq cs.length k&&Nat.ble (o+k) (t.sz U)with
    |true=>match bh J b with
     |some (.arr hF l)=>match Cell.as (.slice t) (⟨.slice hF,l⟩:Cell U.D)with
      |some l=>match ajn cs with
       |some c=>some (decide (i<l.length),.bn [],dd J b (.dr t l i o c))
       |none=>match B4 U t l i o cs with
        |some fm=>some (decide (i<l.length),.bn [],dd J b (.arr t fm))
        |none=>none
      |none=>none
     |some (.box bc)=>match Nat.ble (i*t.sz U+o+k) bc.length with
      |true=>some (true,.bn [],dd J b (.box (xl bc (i*t.sz U+o) cs)))
      |false=>none
     |some (.dr hF l dk ed gA)=>match cs with
      |[c]=>match Nat.beq o ed with
       |true=>match Nat.beq (t.sz U) (hF.sz U)with
        |true=>some (decide (i=dk),.bn [],dd J b (.dr hF l dk ed c))
        |false=>none
       |false=>match Cell.as (.slice t) (⟨.slice hF,l⟩:Cell U.D)with
        |some l=>match B4 U t l i o [c]with
         |some fm=>some (decide (i<l.length),.bn [],dd J b (.dr t fm dk ed gA))
         |none=>none
        |none=>none
      |_=>none
     |_=>none
    |false=>none
   |none=>none
  |_,_=>none
 |.nilCheck x=>match eu gl gd env x with
  |some (.c (.ptr b o))=>some (true,.c (.ptr b o),J)
  |some (.c (.dw b t i o))=>some (true,.c (.dw b t i o),J)
  |some (.c (.ft t x o))=>some (true,.c (.ft t x o),J)
  |_=>none
 |.bin op x y=>match eu gl gd env x,eu gl gd env y with
  |some (.c (.t p)),some (.c (.t q))=>match aaU op p q with
   |some (c,r)=>some (c,.c (.t r),J)
   |none=>none
  |_,_=>none
 |.eqAgg neg ks x y=>match eu gl gd env x,eu gl gd env y with
  |some (.agg p),some (.agg q)=>match Nh ks p q with
   |some r=>some (true,.c (.t ⟨.bool,match neg with|true=>!r|false=>r⟩),J)
   |none=>none
  |_,_=>none
 |.eqBool neg x y=>match eu gl gd env x,eu gl gd env y with
  |some (.c (.t ⟨.bool,p⟩)),some (.c (.t ⟨.bool,q⟩))=>some (true,.c (.t ⟨.bool,match neg with|true=>!(kh p q)|false=>kh p q⟩),J)
  |_,_=>none
 |.not x=>match eu gl gd env x with
  |some (.c (.t ⟨.bool,b⟩))=>some (true,.c (.t ⟨.bool,!b⟩),J)
  |_=>none
 |.conv k x=>match eu gl gd env x with
  |some (.c (.t ⟨.int _,m⟩))=>some (true,.c (.t ⟨.int k,cU k m⟩),J)
  |_=>none
 |.i2s x=>match eu gl gd env x with
  |some (.c (.t ⟨.int _,m⟩))=>some (true,.c (.t ⟨.str,uU m⟩),J)
  |_=>none
 |.s2s x=>match eu gl gd env x with
  |some (.c (.t ⟨.str,s⟩))=>some (true,.c (.t ⟨.str,s⟩),J)
  |_=>none
 |.fldA off x=>match eu gl gd env x with
  |some (.c (.ptr b o))=>some (true,.c (.ptr b (o+off)),J)
  |some (.c (.dw b t i o))=>some (true,.c (.dw b t i (o+off)),J)
  |some (.c (.ft t x o))=>some (true,.c (.ft t x (o+off)),J)
  |_=>none
 |.fld agg off k x=>match eu gl gd env x with
  |some (.agg cs)=>match yo agg k cs off with
   |some v=>some (true,v,J)
   |none=>none
  |_=>none
 |.idxA sz x i=>match eu gl gd env x,eu gl gd env i with
  |some (.c (.t ⟨.slice t,l⟩)),some (.c (.t ⟨.int _,m⟩))=>match Nat.beq (t.sz U) sz with
   |true=>some (bd m l.length,.c (.ft t (t.at U l (Int.toNat m)) 0),J)
   |false=>none
  |some (.c (.arr b)),some (.c (.t ⟨.int _,m⟩))=>match bh J b with
   |some (.arr t l)=>match Nat.beq (t.sz U) sz with
    |true=>some (bd m l.length,.c (.dw b t (Int.toNat m) 0),J)
    |false=>none
   |some (.box cs)=>match Nat.beq 1 sz with
    |true=>some (bd m cs.length,.c (.dw b .bool (Int.toNat m) 0),J)
    |false=>none
   |_=>none
  |_,_=>none
 |.idxS x i=>match eu gl gd env x,eu gl gd env i with
  |some (.c (.t ⟨.str,s⟩)),some (.c (.t ⟨.int _,m⟩))=>some (bd m s.length,.c (.t ⟨.int .u8,mR s m⟩),J)
  |_,_=>none
 |.slcS x bE ak=>match eu gl gd env x,wJ gl gd env bE,wJ gl gd env ak with
  |some (.c (.t ⟨.str,s⟩)),some l,some h=>
   some (gW (l.getD 0) (h.getD (s.length:Int)) s.length,.c (.t ⟨.str,hU s (l.getD 0) (h.getD (s.length:Int))⟩),J)
  |_,_,_=>none
 |.slc sz x bE ak=>match eu gl gd env x,wJ gl gd env bE,wJ gl gd env ak with
  |some (.c (.t ⟨.slice t,s⟩)),some l,some h=>match Nat.beq (t.sz U) sz with
   |true=>some (gW (l.getD 0) (h.getD (s.length:Int)) s.length,.c (.t ⟨.slice t,hU s (l.getD 0) (h.getD (s.length:Int))⟩),J)
   |false=>none
  |some (.c (.arr b)),some none,some h=>match bh J b with
   |some (.arr t s)=>match Nat.beq (t.sz U) sz with
    |true=>some (gW 0 (h.getD (s.length:Int)) s.length,.c (.pre b (Int.toNat (h.getD (s.length:Int)))),J)
    |false=>none
   |_=>none
  |some (.c (.arr b)),some (some bE),some h=>match bh J b with
   |some (.arr t s)=>match Nat.beq (t.sz U) sz with
    |true=>some (gW bE (h.getD (s.length:Int)) s.length,.c (.fx b (Int.toNat bE) (Int.toNat (h.getD (s.length:Int))-Int.toNat bE)),J)
    |false=>none
   |_=>none
  |_,_,_=>none
 |.slc0 x=>match eu gl gd env x with
  |some (.c (.t ⟨.slice _,_⟩))=>some (true,.c .aT,J)
  |some (.c .aT)=>some (true,.c .aT,J)
  |some (.c (.arr _))=>some (true,.c .aT,J)
  |_=>none
 |.mkfn f caps=>match sT gl gd env caps with
  |some vs=>match Nf vs with
   |some l=>some (true,.c (.fn f l),J)
   |none=>none
  |none=>none
 |.ext x i=>match eu gl gd env x with
  |some (.bn vs)=>match vs[i]? with
   |some v=>some (true,v,J)
   |none=>none
  |_=>none
 |.len str x=>match str,eu gl gd env x with
  |true,some (.c (.t ⟨.str,s⟩))=>some (true,.c (.t ⟨.int .i64,(s.length:Int)⟩),J)
  |false,some (.c (.df b))=>match bh J b with
   |some (.buf _ s)=>some (true,.c (.t ⟨.int .i64,(s.length:Int)⟩),J)
   |_=>none
  |false,some v=>match B2 J v with
   |some e=>some (true,.c (.t ⟨.int .i64,(e.1.len:Int)⟩),J)
   |none=>match v with
    |.c (.arr b)=>match bh J b with
     |some (.box cs)=>some (true,.c (.t ⟨.int .i64,(cs.length:Int)⟩),J)
     |_=>none
    |_=>none
  |_,_=>none
 |.append te sz bytes x y=>match eu gl gd env x,eu gl gd env y with
  |some (.c .aT),some v=>match B2 J v with
   |some (qd,_)=>match qd.blk sz with
    |some blk=>some (room bytes qd.len,.c (.arr n),dd J n blk)
    |none=>none
   |none=>none
  |some (.c (.arr b)),some v=>match B2 J (.c (.arr b)),B2 J v with
   |some (zA,_),some (qd,TQ)=>match (match TQ with|some bI=>Nat.beq bI b|none=>false)with
    |true=>none
    |false=>match als J b sz with
     |false=>none
     |true=>match zA.join qd with
      |some aa7=>match aa7.blk sz with
       |some blk=>some (room bytes aa7.len,.c (.arr n),dd (dl J b) n blk)
       |none=>none
      |none=>none
   |_,_=>none
  |some (.c (.pre b h)),some (.c (.fx bI bE len))=>match Nat.beq b bI with
   |true=>match bh J b with
    |some (.arr t l)=>match Nat.beq (t.sz U) sz with
     |true=>some (decide (h+len<=l.length)&&decide (bE+len<=l.length),.c (.arr n),dd (dl J b) n (.arr t (l.take h++(l.drop bE).take len)))
     |false=>none
    |_=>none
   |false=>none
  |some (.c (.df b)),some (.c (.t ⟨.slice (.int .u8),bG⟩))=>match bh J b with
   |some (.buf c7 l)=>match Nat.beq c7 te&&Nat.beq sz 1 with
    |true=>some (room bytes (List.length l+List.length (strOf bG))&&aar bG,.c (.df n),dd (dl J b) n (.buf c7 (E4 l (strOf bG))))
    |false=>none
   |_=>none
  |_,_=>none
 |.max2 x y=>match eu gl gd env x,eu gl gd env y with
  |some (.c (.t ⟨.int k,a⟩)),some (.c (.t ⟨.int cI,b⟩))=>if k=cI then some (true,.c (.t ⟨.int k,tH a b⟩),J)else none
  |_,_=>none
 |.min2 x y=>match eu gl gd env x,eu gl gd env y with
  |some (.c (.t ⟨.int k,a⟩)),some (.c (.t ⟨.int cI,b⟩))=>if k=cI then some (true,.c (.t ⟨.int k,fV a b⟩),J)else none
  |_,_=>none
 |.eqNil .. |.call .. |.mV .. =>none
end
section
open Go
variable {U:dC}
inductive cR (N:Nat)(J:bA U):bH U->C->Prop
 |t (c:Cell U.D):cR N J (.t c) (.t (c.enc U))
 |ptr (b o:Nat):cR N J (.ptr b o) (.ptr b o)
 |dw (b:Nat) (t:aS) (i o:Nat):cR N J (.dw b t i o) (.dw b (t.sz U) i o)
 |ft (t:aS) (x:t.den U.D) (o:Nat):cR N J (.ft t x o) (.ft (t.enc U x) o)
 |arr (b sz n:Nat) (ag:b<N) (h:∀x,bh J b=some x->∀p,x.ep=some p->p=(sz,n)):cR N J (.arr b) (.arr b sz 0 n)
 |sub (b bE len:Nat):cR N J (.sub b bE len) (.je b 1 bE len)
 |pre (b sz h:Nat) (ag:b<N) (bq:∀x,bh J b=some x->∀p,x.ep=some p->p.1=sz):cR N J (.pre b h) (.arr b sz 0 h)
 |fx (b sz bE len:Nat) (ag:b<N) (bq:∀x,bh J b=some x->∀p,x.ep=some p->p.1=sz):cR N J (.fx b bE len) (.je b sz bE len)
 |mp (b:Nat):cR N J (.mp b) (.mp b)
 |gw (b:Nat):cR N J (.gw b) (.gw b)
 |df (b n:Nat) (ag:b<N) (h:∀x,bh J b=some x->∀p,x.ep=some p->p=(1,n)):cR N J (.df b) (.df b n)
 |aT:cR N J .aT .aT
 |hE:cR N J .hE .hE
 |hD:cR N J .hD .hD
 |fn (f:Nat) (caps:List Nat):cR N J (.fn f caps) (.fn f caps)
 |dead (d:C):cR N J .dead d
inductive cn (N:Nat)(J:bA U):b9 U->V->Prop
 |c {x d}:cR N J x d->cn N J (.c x) (.c d)
 |agg {xs bc}:bk (cR N J) xs bc->cn N J (.agg xs) (.agg bc)
 |bn (xs:List (b9 U)) (bc:List V) (aj:xs.length=bc.length) (h:∀(i:Nat) x d,xs[i]?=some x->bc[i]?=some d->cn N J x d):cn N J (.bn xs) (.bn bc)
inductive ml (N:Nat)(J:bA U):ds U->ck->Prop
 |box {cs bc}:bk (cR N J) cs bc->ml N J (.box cs) (.box bc)
 |arr (t:aS) (l:List (t.den U.D)):ml N J (.arr t l) (.arr (t.sz U) (l.map (t.enc U)))
 |set (ks:List (List UInt8)):ml N J (.set ks) (.set ks)
 |buf (E:Nat) (s:List UInt8):ml N J (.buf E s) (.buf E s)
 |cL {E c d}:cR N J c d->ml N J (.cL E c) (.cL E d)
 |dr (t:aS) (l:List (t.den U.D)) (i o:Nat) {c d}:cR N J c d->ml N J (.dr t l i o c) (.dr (t.sz U) (l.map (t.enc U)) i o d)
 |rows {sz r es}:bk (λr e=>lQ r=some e) r es->(∀x,x∈r->x.length=sz)->ml N J (.rows sz r) (.arr sz es)
def da(N:Nat)(J:bA U)(J1:br):Prop:=∀b x,bh J b=some x->b<N/\∃y,bf J1 b=some y/\ml N J x y
def dT(N:Nat)(J:bA U)(G:Nat->Bool)(env:cj U)(env1:Env):Prop:=∀k v,bh env k=some v->∃v1,look env1 k=some (G k,v1)/\cn N J v v1
structure kz (gl:gy)(env:cj U)(G:Nat->Bool):Prop where
 free:∀k,bh gl k=none->G k=true
 held:∀k t b,bh gl k=some (t,b)->∃y,hT env t b=some y/\G k=(G t&&y)
def ek(N:Nat)(J:bA U)(N':Nat)(J':bA U):Prop:=N<=N'/\∀b cH,b<N->bh J' b=some cH->∃x,bh J b=some x/\∀p,cH.ep=some p->x.ep=some p
theorem ek.refl{N:Nat}{J:bA U}:ek N J N J:=⟨gP _,λ_ x _ h=>⟨x,h,λ_ h=>h⟩⟩
theorem ek.more{N N':Nat}{J:bA U}(h:N<=N'):ek N J N' J:=⟨h,λ_ x _ h=>⟨x,h,λ_ h=>h⟩⟩
theorem ek.trans{rW qZ It:Nat}{s1 s2 p8:bA U}(h:ek rW s1 qZ s2)(k:ek qZ s2 It p8):ek rW s1 It p8:=
 ⟨jJ h.1 k.1,λb x ag I=>let⟨y,h1,aa⟩:=k.2 b x (pd ag h.1) I;let⟨z,aA,aU⟩:=h.2 b y ag h1;⟨z,aA,λp ar=>aU p (aa p ar)⟩⟩
section
variable {N N':Nat}{J J':bA U}{J1:br}{env:cj U}{env1:Env}{G:Nat->Bool}{gl:gy}{gd:Option (Nat×Bool)}
theorem cR.mono(k:ek N J N' J'){x:bH U}{d:C}(h:cR N J x d):cR N' J' x d:=by
 cases h with
 |t c=>exact .t c
 |ptr b o=>exact .ptr b o
 |dw b t i o=>exact .dw b t i o
 |ft t x o=>exact .ft t x o
 |arr b sz n ag h=>
  refine .arr b sz n (pd ag k.1) λx I p ar=>?_
  obtain⟨y,h1,aa⟩:=k.2 b x ag I
  grind
 |sub b bE len=>exact .sub b bE _
 |pre b sz n ag h=>
  refine .pre b sz n (pd ag k.1) λx I p ar=>?_
  obtain⟨y,h1,aa⟩:=k.2 b x ag I
  grind
 |fx b sz bE len ag h=>
  refine .fx b sz bE _ (pd ag k.1) λx I p ar=>?_
  obtain⟨y,h1,aa⟩:=k.2 b x ag I
  grind
 |mp b=>exact .mp b
 |gw b=>exact .gw b
 |df b n ag h=>
  refine .df b n (pd ag k.1) λx I p ar=>?_
  obtain⟨y,h1,aa⟩:=k.2 b x ag I
  grind
 |aT=>exact .aT
 |hE=>exact .hE
 |hD=>exact .hD
 |fn f caps=>exact .fn f _
 |dead d=>exact .dead d
theorem cn.mono(k:ek N J N' J'){x:b9 U}{d:V}(h:cn N J x d):cn N' J' x d:=by
 induction h with
 |c h=>exact .c (h.mono k)
 |agg h=>exact .agg (h.imp λ_ _ _=>cR.mono k)
 |bn xs bc aj h ih=>exact .bn xs bc aj ih
theorem ml.mono(k:ek N J N' J'){x:ds U}{d:ck}(h:ml N J x d):ml N' J' x d:=by
 cases h with
 |box h=>exact .box (h.imp λ_ _ _=>cR.mono k)
 |arr t l=>exact .arr t l
 |set ks=>exact .set ks
 |buf E s=>exact .buf E s
 |cL h=>exact .cL (h.mono k)
 |dr t l i o h=>exact .dr t l i o (h.mono k)
 |rows h aa=>exact .rows h aa
theorem dT.mono(k:ek N J N' J')(h:dT N J G env env1):dT N' J' G env env1:=λi v ak=>let⟨v1,h1,aa⟩:=h i v ak;⟨v1,h1,aa.mono k⟩
theorem da.put(h:da N J J1){b:Nat}{x:ds U}{y:ck}(ag:b<N')(k:ek N J N' (dd J b x))(ai:ml N' (dd J b x) x y):da N' (dd J b x) (ee J1 b y):=by
 intro c z bq;rw[kq]at bq;rw[dX];by_cases azf:b=c
 . grind
 . rw[ah azf]at bq⊢;obtain⟨h1,mM,aa,aA⟩:=h c z bq;exact⟨pd h1 k.1,mM,aa,aA.mono k⟩
theorem pI{x:ds U}(h:N<=N'):ek N J N' (dd J N x):=by
 refine⟨h,λb cH ag I=>?_⟩
 grind[kq]
theorem uO{b:Nat}{x aw:ds U}(h:N<=N')(h0:bh J b=some aw)(av:∀p,x.ep=some p->aw.ep=some p):ek N J N' (dd J b x):=by
 refine⟨h,λc cH ag I=>?_⟩
 grind[kq]
theorem A3{b:Nat}:ek N J N (dl J b):=by
 refine⟨gP _,λc cH ag I=>?_⟩
 grind[vc]
theorem amB{d:C}{x:bH U}(h:Nk d=some x):cR N J x d:=by
 unfold Nk at h;split at h<;>cases h
 . exact cR.t _
 . exact cR.t _
 . exact cR.t (U:=U) _
 . exact .aT
 . exact .hE
 . exact .hD
 . exact .dead _
 . exact .fn _ _
theorem wq:∀{bc:List C} {xs:List (bH U)},tY bc=some xs->bk (cR N J) xs bc
 |[],xs,h=>by simp[tY]at h;subst h;exact .nil
 |d::bc,xs,h=>by
  simp[tY]at h;split at h
  . rename_i x bG h1 aa;cases h;exact .cons (amB h1) (wq aa)
  grind
theorem amC{d:V}{x:b9 U}(h:Ii d=some x):cn N J x d:=by
 cases d with
 |c d=>
  simp[Ii]at h;split at h
  . rename_i y ao;cases h;exact .c (amB ao)
  grind
 |agg bc=>
  simp[Ii]at h;split at h
  . rename_i y ao;cases h;exact .agg (wq ao)
  grind
 |bn _=>grind[Ii]
def dv(env:cj U)(G:Nat->Bool):Option (Nat×Bool)->Bool
 |none=>true
 |some (t,b)=>G t&&(hT env t b).getD false
theorem kz.bh(az:kz gl env G)(k:Nat):dv env G (bh gl k)=G k:=by
 cases h:Shv.bh gl k with
 |none=>exact(az.free k h).symm
 |some g=>
  obtain⟨t,b⟩:=g;obtain⟨y,h1,aa⟩:=az.held k t b h
  grind[dv]
theorem RJ(az:kz gl env G):∀{mY:Nat} {gd:Option (Nat×Bool)} {g:Bool},su gl env mY gd=some g->g=dv env G gd
 |_,none,g,h=>by unfold su at h;simp at h;subst h;rfl
 |0,some _,g,h=>by grind[su]
 |mY+1,some (t,b),g,h=>by
  simp[su]at h;split at h
  . rename_i x y h1 aa;cases h;rw[RJ az h1,az.bh t]
    grind[dv]
  grind
theorem at0:∀{mY:Nat} {t:Nat} {b:Bool} {g:Bool},su gl env mY (some (t,b))=some g->∃y,hT env t b=some y
 |0,t,b,g,h=>by grind[su]
 |mY+1,t,b,g,h=>by
  grind[su]
theorem cn.fy{x:bH U}{v1:V}(h:cn N J (.c x) v1):∃d,v1= .c d/\cR N J x d:=by cases h<;>grind
theorem cn.s0{xs:List (bH U)}{v1:V}(h:cn N J (.agg xs) v1):∃bc,v1= .agg bc/\bk (cR N J) xs bc:=by cases h<;>grind
theorem cn.HY{c:Cell U.D}{v1:V}(h:cn N J (.c (.t c)) v1):v1= .c (.t (c.enc U)):=by obtain⟨d,rfl,ab⟩:=h.fy;cases ab;rfl
theorem cn.oX{b:Bool}{v1:V}(h:cn N J (.c (.t ⟨.bool,b⟩)) v1):v1= .c (.t (.bool b)):=h.HY
theorem cn.hM{k:IntKind}{m:Int}{v1:V}(h:cn N J (.c (.t ⟨.int k,m⟩)) v1):v1= .c (.t (.int k m)):=h.HY
theorem cn.qR{s:List UInt8}{v1:V}(h:cn N J (.c (.t ⟨.str,s⟩)) v1):v1= .c (.t (.str s)):=h.HY
theorem cn.pj{t:aS}{l:List (t.den U.D)}{v1:V}(h:cn N J (.c (.t ⟨.slice t,l⟩)) v1):v1= .c (.t (.slice (l.map (t.enc U)))):=h.HY
theorem cn.lg{b o:Nat}{v1:V}(h:cn N J (.c (.ptr b o)) v1):v1= .c (.ptr b o):=by obtain⟨d,rfl,ab⟩:=h.fy;cases ab;rfl
theorem cn.l3{b i o:Nat}{t:aS}{v1:V}(h:cn N J (.c (.dw b t i o)) v1):v1= .c (.dw b (t.sz U) i o):=by obtain⟨d,rfl,ab⟩:=h.fy;cases ab;rfl
theorem cn.Ww{o:Nat}{t:aS}{x:t.den U.D}{v1:V}(h:cn N J (.c (.ft t x o)) v1):v1= .c (.ft (t.enc U x) o):=by obtain⟨d,rfl,ab⟩:=h.fy;cases ab;rfl
theorem cn.E3{v1:V}(h:cn N J (.c .aT) v1):v1= .c .aT:=by obtain⟨d,rfl,ab⟩:=h.fy;cases ab;rfl
theorem cn.kd{b:Nat}{v1:V}(h:cn N J (.c (.arr b)) v1):∃sz n,v1= .c (.arr b sz 0 n)/\b<N/\∀x,Shv.bh J b=some x->∀p,x.ep=some p->p=(sz,n):=by
 obtain⟨d,rfl,ab⟩:=h.fy;cases ab<;>grind
theorem cn.Qo{b:Nat}{v1:V}(h:cn N J (.c (.mp b)) v1):v1= .c (.mp b):=by obtain⟨d,rfl,ab⟩:=h.fy;cases ab;rfl
theorem cn.ajN{b:Nat}{v1:V}(h:cn N J (.c (.gw b)) v1):v1= .c (.gw b):=by obtain⟨d,rfl,ab⟩:=h.fy;cases ab;rfl
theorem cn.IZ{b:Nat}{v1:V}(h:cn N J (.c (.df b)) v1):∃n,v1= .c (.df b n)/\b<N/\∀x,Shv.bh J b=some x->∀p,x.ep=some p->p=(1,n):=by
 obtain⟨d,rfl,ab⟩:=h.fy;cases ab<;>grind
theorem cn.U6{f:Nat}{caps:List Nat}{v1:V}(h:cn N J (.c (.fn f caps)) v1):v1= .c (.fn f caps):=by
 obtain⟨d,rfl,ab⟩:=h.fy;cases ab;rfl
theorem at1{t:Nat}{b y:Bool}(he:dT N J G env env1)(h:hT env t b=some y):∃x,look env1 t=some (G t,.c (.t (.bool x)))/\y=(x==b):=by
 unfold hT at h;split at h
 . rename_i x I;cases h;obtain⟨v1,h1,aa⟩:=he t _ I;have:=aa.oX
   grind
 grind
theorem RR(he:dT N J G env env1)(h:gd=none\/∃t b y,gd=some (t,b)/\hT env t b=some y):jB env1 gd=some (dv env G gd):=by
 grind[at1,jB,dv]
theorem RK(az:kz gl env G):∀{mY:Nat} {gd:Option (Nat×Bool)} {k:Nat},dv env G gd=true->HS gl mY gd k=true->G k=true
 |0,gd,k,_,h=>by grind[HS]
 |mY+1,gd,k,av,h=>by
  simp[HS]at h;split at h
  . rename_i hk;exact az.free k hk
  . rename_i mZ hk;split at h
    . grind
    . rename_i g;obtain⟨t,b⟩:=g;obtain⟨hF,bI⟩:=mZ;simp only[tK,dM,nV]at h;rcases h with⟨h1,aa⟩|h
      . have:=dN h1;subst this;subst aa;obtain⟨y,k1,k2⟩:=az.held k t b hk
        grind[dv]
      . refine RK az ?_ h;rw[az.bh t]
        grind[dv]
theorem cP(he:dT N J G env env1)(az:kz gl env G){x:ba}{v:b9 U}(h:eu gl gd env x=some v):
 ∃p v1,x.get env1=some (p,v1)/\cn N J v v1/\(dv env G gd=true->p):=by
 cases x with
 |const d=>exact⟨True,d,rfl,amC h,λ_=>trivial⟩
 |tmp k=>
  simp[eu]at h;split at h
  . rename_i hs;obtain⟨v1,h1,aa⟩:=he k v h;exact⟨_,v1,by grind[ba.get],aa,λav=>RK az av hs⟩
  grind
theorem abr(he:dT N J G env env1)(az:kz gl env G){c x:ba}{b y:Bool}{v ZZ:b9 U}(ay:eu gl gd env c=some ZZ)(kl:ZZ= .c (.t ⟨.bool,y⟩))(h:TL gl gd env c b x=some v):
 ∃p v1,x.get env1=some (p,v1)/\cn N J v v1/\(dv env G gd=true->y=b->p):=by
 cases x with
 |const d=>exact⟨True,d,rfl,amC h,λ_ _=>trivial⟩
 |tmp k=>
  simp[TL]at h;split at h
  . rename_i hs;obtain⟨v1,h1,aa⟩:=he k v h;exact⟨_,v1,by grind[ba.get],aa,λav _=>RK az av hs⟩
  . split at h
    . rename_i y5 t bI hk;split at h
      . rename_i ag;simp only[dM,nV]at ag;obtain⟨h1,rfl⟩:=ag;have:=dN h1;obtain⟨v1,h1,aa⟩:=he k v h;refine⟨G k=true,v1,by grind[ba.get],aa,λav ao=>?_⟩;simp[eu]at ay;split at ay
        . rename_i hs;have PE:=RK az av hs;obtain⟨mM,k1,k2⟩:=az.held k t bI hk
          grind[hT]
        grind
      grind
    grind
theorem Dh(he:dT N J G env env1)(az:kz gl env G):∀{xs:List ba} {vs:List (b9 U)},sT gl gd env xs=some vs->
 ∃p eR,l4 env1 xs=some (p,eR)/\bk (cn N J) vs eR/\(dv env G gd=true->p)
 |[],vs,h=>by simp[sT]at h;subst h;exact⟨True,[],rfl,.nil,λ_=>trivial⟩
 |x::xs,vs,h=>by
  simp[sT]at h;split at h
  . rename_i v sQ h1 aa;cases h;obtain⟨p,v1,a1,a2,a3⟩:=cP he az h1;obtain⟨q,eR,b1,b2,cf⟩:=Dh he az aa;exact⟨p/\q,v1::eR,by grind[l4],.cons a2 b2,λav=>⟨a3 av,cf av⟩⟩
  grind
theorem wj{v:b9 U}{v1:V}{cs:List (bH U)}(h:cn N J v v1)(ay:yn v=some cs):∃bc,yI v1=some bc/\bk (cR N J) cs bc:=by
 cases h with
 |c h=>simp[yn]at ay;subst ay;exact⟨_,rfl,.cons h .nil⟩
 |agg h=>simp[yn]at ay;subst ay;exact⟨_,rfl,h⟩
 |bn=>grind[yn]
theorem Sb{cs kP:List (bH U)}{bc gj:List C}{o:Nat}(h:bk (cR N J) cs bc)(bg:bk (cR N J) kP gj):bk (cR N J) (xl cs o kP) (CE bc o gj):=by
 unfold xl CE;rw[bg.length];exact((h.take o).append bg).append (h.drop _)
theorem kK{a b:Nat}(h:Nat.ble a b=true):a<=b:=BA h
theorem alH(he:dT N J G env env1)(az:kz gl env G):∀{ps:List (Nat×Nat×ba)} {cs kP:List (bH U)} {bc:List C},LD gl gd env cs ps=some kP->bk (cR N J) cs bc->
 ∃p gj,sj env1 bc ps=some (p,gj)/\bk (cR N J) kP gj/\(dv env G gd=true->p)
 |[],cs,kP,bc,h,av=>by simp[LD]at h;subst h;exact⟨True,bc,rfl,av,λ_=>trivial⟩
 |(o,n,x)::r,cs,kP,bc,h,av=>by
  simp[LD]at h;split at h
  . grind
  . rename_i v aF;split at h
    . grind
    . rename_i es fO;split at h
      . rename_i ag;simp only[dM]at ag;have kU:=dN ag.1;have jn:=kK ag.2;obtain⟨p,v1,a1,a2,a3⟩:=cP he az aF;obtain⟨fs,b1,b2⟩:=wj a2 fO;obtain⟨q,gj,bD,bJ,c1⟩:=alH he az h (Sb av b2);refine⟨p/\q,gj,?_,bJ,λav=>⟨a3 av,c1 av⟩⟩;simp only[sj,a1,aK,b1];rw[af ⟨by rw[<-b2.length];grind,by rw[<-av.length];grind⟩,bD]
        rfl
      grind
theorem atD{x:bH U}{d:C}{t:T}(h:cR N J x d)(ht:x.toT=some t):Shv.toT d=some t:=by
 cases h<;>simp[bH.toT]at ht
 . split at ht
   . grind
   . cases ht;rfl
 . subst ht;rfl
theorem Gx:∀{cs:List (bH U)} {bc:List C} {ts:List T},bk (cR N J) cs bc->lQ cs=some ts->toTs bc=some ts
 |[],[],ts,_,h=>by simp[lQ]at h;subst h;rfl
 |c::cs,d::bc,ts,.cons h1 aa,h=>by
  simp[lQ]at h;split at h
  . rename_i t YI ht hK;cases h;simp[toTs,atD h1 ht,Gx aa hK]
  grind
theorem YZ:∀{cs:List (bH U)} {ts:List T},lQ cs=some ts->ts.length=cs.length
 |[],ts,h=>by grind[lQ]
 |c::cs,ts,h=>by
  simp[lQ]at h;split at h
  . rename_i t YI ht hK;cases h;simp[YZ hK]
  grind
theorem bk.set{α β:Type}{R:α->β->Prop}{l:List α}{m:List β}(h:bk R l m){i:Nat}{a:α}{b:β}(j0:R a b):bk R (l.set i a) (m.set i b):=by
 induction h generalizing i with
 |nil=>exact .nil
 |cons h1 aa ih=>cases i with
  |zero=>exact .cons j0 aa
  |succ i=>exact .cons h1 ih
theorem Yo(he:dT N J G env env1)(az:kz gl env G){sz:Nat}:∀{ps:List (Nat×ba)} {rs ML:List (List (bH U))} {es:List (List T)},Gu gl gd env sz rs ps=some ML->
 bk (λr e=>lQ r=some e) rs es->(∀r,r∈rs->r.length=sz)->∃p gJ,pJ env1 sz es ps=some (p,gJ)/\bk (λr e=>lQ r=some e) ML gJ/\(∀r,r∈ML->r.length=sz)/\(dv env G gd=true->p)
 |[],rs,ML,es,h,ai,aj=>by simp[Gu]at h;subst h;exact⟨True,es,rfl,ai,aj,λ_=>trivial⟩
 |(i,x)::ps,rs,ML,es,h,ai,aj=>by
  simp[Gu]at h;split at h
  . grind
  . rename_i v aF;split at h
    . grind
    . rename_i cs eJ;split at h
      . grind
      . rename_i ts hK;split at h
        . rename_i ag;simp only[dM]at ag;have kU:=dN ag.1;have jn:=kK ag.2;obtain⟨p,v1,a1,a2,a3⟩:=cP he az aF;obtain⟨bc,b1,b2⟩:=wj a2 eJ;obtain⟨q,gJ,bD,bJ,gr,c1⟩:=Yo he az h (bk.set ai hK) (by grind);refine⟨p/\q,gJ,?_,bJ,gr,λav=>⟨a3 av,c1 av⟩⟩;simp only[pJ,a1,aK,b1,Gx b2 hK]
          rw[af ⟨by grind[YZ],by rw[<-ai.length];omega⟩,bD];rfl
        grind
end
end
section
open Go
variable {U:dC}
structure fD (N:Nat)(J:bA U)(J1:br)(o:dG)(env1:Env)(g c:Bool)(v:b9 U)(J':bA U):Prop where
 val:∃v1,cn (N+16) J' v v1/\(g=true->c=true->∃p bM,a7 o env1 J1 N=some (p,v1,bM)/\p/\da (N+16) J' bM)
 aFn:ek N J (N+16) J'
 aB4:o.neutral=true->J'=J
section
variable {N N':Nat}{J J':bA U}{J1:br}{env:cj U}{env1:Env}{G:Nat->Bool}{gl:gy}{gd:Option (Nat×Bool)}{c:Bool}{v:b9 U}
theorem da.mono(h:da N J J1)(dh:N<=N'):da N' J J1:=λb x I=>
 let⟨h1,y,aa,aA⟩:=h b x I;⟨pd h1 dh,y,aa,aA.mono (ek.more dh)⟩
theorem fD.neutral{o:dG}{g:Bool}(aN:da N J J1){v1:V}(aF:cn N J v v1)(aC:g=true->c=true->∃p,a7 o env1 J1 N=some (p,v1,J1)/\p):fD N J J1 o env1 g c v J:=
 ⟨⟨v1,aF.mono (ek.more (by simp)),λaz ay=>let⟨p,h1,aa⟩:=aC az ay;⟨p,J1,h1,aa,aN.mono (by simp)⟩⟩,ek.more (by simp),λ_=>rfl⟩
theorem fD.store{o:dG}{g:Bool}(a':o.neutral=false)(hk:ek N J (N+16) J'){v1:V}(aF:cn (N+16) J' v v1)(aC:g=true->c=true->∃p bM,a7 o env1 J1 N=some (p,v1,bM)/\p/\da (N+16) J' bM):fD N J J1 o env1 g c v J':=
 ⟨⟨v1,aF,aC⟩,hk,λh=>by grind⟩
theorem Dd{agg:Bool}{k o:Nat}{cs:List (bH U)}{bc:List C}(ay:bk (cR N J) cs bc)(h:yo agg k cs o=some v):∃v1,pb agg k bc o=some v1/\cn N J v v1:=by
 unfold yo at h;split at h
 . split at h
   . cases h;refine⟨_,by simp only[pb,dc];rw[af (by rw[<-ay.length];simp_all)],.agg ((ay.drop o).take k)⟩
   grind
 . split at h
   . rename_i x I;cases h;obtain⟨d,h1,aa⟩:=ay.get I;exact⟨_,by grind[pb],.c aa⟩
   grind
theorem bk.map_map{α β jL anb:Type}{R:jL->anb->Prop}{f:α->jL}{g:β->anb}:∀{l:List α} {m:List β},bk (λa b=>R (f a) (g b)) l m->bk R (l.map f) (m.map g)
 |[],[],_=>.nil
 |_::_,_::_,.cons h1 aa=>.cons h1 (bk.map_map aa)
theorem bk.self{α:Type}{R:α->α->Prop}(h:∀a,R a a):∀(l:List α),bk R l l
 |[]=>.nil
 |a::l=>.cons (h a) (bk.self h l)
theorem K9{t:aS}{x:t.den U.D}:bk (cR N J) ((t.row U x).map .t) ((t.enc U x).map .t):=by
 rw[aS.Fq,List.map_map];exact bk.map_map (bk.self (λc=>cR.t c) _)
theorem Z0{agg:Bool}{k o:Nat}{ts:List T}{v:V}(aj:pb agg k (ts.map .t) o=some v):loadT agg k ts o=some v:=by
 unfold pb at aj;unfold loadT;cases agg<;>simp_all
theorem asL{op:BinOp}{p q:Cell U.D}{r:Cell U.D}(h:aaU op p q=some (c,r)):∃lM,zQ op (p.enc U) (q.enc U)=some (lM,r.enc U)/\(c=true->lM):=by
 unfold aaU at h;split at h
 . rename_i k a cI b;show ∃lM,zQ op (.int k a) (.int cI b)=some (lM,r.enc U)/\(c=true->lM);cases op<;>simp only[alg,reduceCtorEq,gn]at h
   all_goals first
    |(obtain⟨rfl,rfl,rfl⟩:=h;exact⟨_,by simp only[zQ];rfl,λh=>by simpa using h⟩)
    |(obtain⟨rfl,rfl⟩:=h)
    |(obtain⟨rfl,rfl,rfl⟩:=h)
 . rename_i a b;cases op<;>simp only[alh,fu]at h
   all_goals first
    |(obtain⟨rfl,rfl⟩:=h;exact⟨_,by rfl,λh=>by simpa using h⟩)
    |(obtain⟨rfl,rfl⟩:=h)
 . cases h
theorem asM{k:Nat}{x y:Cell U.D}{b:Bool}(h:aaY k x y=some b):Jp k (x.enc U) (y.enc U)=some b:=by
 unfold aaY at h;split at h
 . cases h;rfl
 . simp at h;obtain⟨rfl,rfl⟩:=h;show(if _ then _ else _)=_;rw[af rfl];rfl
 . cases h;rfl
 grind
theorem alz:∀{ks:List Nat} {xs bG:List (bH U)} {bc es:List C} {b:Bool},Nh ks xs bG=some b->bk (cR N J) xs bc->bk (cR N J) bG es->sr ks bc es=some b
 |[],[],[],[],[],b,h,.nil,.nil=>by simp[Nh]at h;subst h;rfl
 |k::ks,.t x::xs,.t y::bG,d::bc,e::es,b,h,.cons h1 aa,.cons aA aU=>by
  simp[Nh]at h;split at h
  . rename_i b1 r ag ai;cases h;cases h1;cases aA;simp[sr,asM ag,alz ai aa aU]
  grind
theorem alA{a b:List UInt8}:(E4 a b).length=a.length+b.length:=fp
theorem auP{a b:Int}:gu a b=true↔a=b:=by simp[gu]
theorem wD{m:Int}{n:Nat}:bd m n=true↔0<=m/\m.toNat<n:=by simp[bd]
theorem oj{bE ak:Int}{n:Nat}:gW bE ak n=true↔0<=bE/\bE<=ak/\ak<=n:=by simp[gW]
theorem avv{t:aS}{s:List (t.den U.D)}{l r:Option Int}{pp pl lM:Prop}{sz:Nat}{J1:br}:
 (some (pp/\pl/\lM/\0<=l.getD 0/\l.getD 0<=r.getD ((List.map (t.enc U) s).length:Int)/\r.getD ((List.map (t.enc U) s).length:Int)<=((List.map (t.enc U) s).length:Int)/\∀e,e∈List.map (t.enc U) s->e.length=sz,
  V.c (C.t (T.slice (((List.map (t.enc U) s).take (r.getD ((List.map (t.enc U) s).length:Int)).toNat).drop (l.getD 0).toNat))),J1):Nr)=
 some (pp/\pl/\lM/\0<=l.getD 0/\l.getD 0<=r.getD (s.length:Int)/\r.getD (s.length:Int)<=(s.length:Int)/\∀e,e∈List.map (t.enc U) s->e.length=sz,
  V.c (C.t (Cell.enc U ⟨.slice t,hU s (l.getD 0) (r.getD (s.length:Int))⟩)),J1):=by
 have:Cell.enc U ⟨.slice t,hU s (l.getD 0) (r.getD s.length)⟩=T.slice (List.map (t.enc U) _):=rfl
 grind[hU,List.map_drop,List.map_take]
theorem avw{α β:Type}{f:α->β}{l:List α}{p:Prop}{J1:br}:(some (p,V.c (C.t (T.int .i64 ((l.map f).length:Int))),J1):Nr)=some (p,V.c (C.t (.int .i64 (l.length:Int))),J1):=by simp
theorem Gv{α β:Type}{f:α->β}{l:List α}{i:Nat}(h:i<l.length):i<(l.map f).length:=by grind
theorem bk.replicate{α β:Type}{R:α->β->Prop}{a:α}{b:β}(h:R a b):∀n:Nat,bk R (List.replicate n a) (List.replicate n b)
 |0=>.nil
 |n+1=>.cons h (bk.replicate h n)
theorem YE:∀{xs:List (bH U)} {eM:List aS} {es:List C} {row:List (Cell U.D)},lY eM xs=some row->bk (cR N J) xs es->toTs es=some (row.map (Cell.enc U))
 |[],eM,es,row,h1,aa=>by
  cases aa;cases eM<;>simp[lY]at h1
  subst h1;rfl
 |y::bG,[],es,row,h1,aa=>by grind[lY]
 |y::bG,ty::eM,_::_,row,h1,.cons aa aA=>by
  cases aa with
  |t c=>cases ty<;>simp only[lY]at h1<;>(split at h1<;>first|(cases h1;done)|(rename_i q aE;cases h1;simp[toTs,toT,YE aE aA]))
  |aT=>
   cases ty<;>simp[lY]at h1
   split at h1
   . rename_i q aE;cases h1;simp[toTs,YE aE aA];rfl
   grind
  |_=>grind[lY]
theorem al6{sz:Nat}:∀{ps:List (Nat×ba)} {es gJ:List (List T)} {p:Prop},pJ env1 sz es ps=some (p,gJ)->gJ.length=es.length
 |[],es,gJ,p,h=>by grind[pJ]
 |(i,x)::ps,es,gJ,p,h=>by
  simp only[pJ,bK,gn,bV]at h;obtain⟨a,_,cs,_,ts,_,_,b,ag,_,rfl⟩:=h;have:=al6 ag
  grind
theorem Y0{t:aS}{l fm:List (t.den U.D)}{i o:Nat}{cs:List (bH U)}{bc:List C}(h:B4 U t l i o cs=some fm)(ak:i<l.length)(ay:bk (cR N J) cs bc)(hle:o+cs.length<=t.sz U):
 ∃ts,toTs bc=some ts/\fm.map (t.enc U)=(l.map (t.enc U)).set i ((el (l.map (t.enc U)) i).take o++ts++(el (l.map (t.enc U)) i).drop (o+cs.length)):=by
 unfold B4 at h;split at h
 . rename_i x I;cases h;unfold xm at I;split at I
   . rename_i row k0;have ai:=aS.WJ I;have key:=@YE U N J;have aAC:bk (cR N J) ((t.row U (t.at U l i)).map .t) _:=K9;have azD:=Sb (o:=o) aAC ay;have h1:=key k0 azD
     have ahz:∀{a b:List C} {r:List T},toTs (a++b)=some r->∃p q,toTs a=some p/\toTs b=some q/\r=p++q:=by
      intro a
      induction a with
      |nil=>intro b r h;exact⟨[],r,rfl,h,rfl⟩
      |cons c a ih=>
       intro b r h;simp[toTs,bK,bV]at h
       grind[toTs]
     have aib:∀(ts:List T),toTs (ts.map .t)=some ts:=by
      intro ts
      induction ts with
      |nil=>rfl
      |cons a ts ih=>grind[toTs,toT]
     obtain⟨p,q,aR,bw,e7⟩:=ahz h1;obtain⟨np,w6,f1,f2,f3⟩:=ahz aR;rw[<-List.map_take,aib]at f1;cases f1;rw[<-List.map_drop,aib]at bw;cases bw;refine⟨w6,f2,?_⟩;rw[List.map_set,LC ak,aS.Fq,ai,e7,f3,ay.length]
   grind
 grind
variable (he:dT N J G env env1)(az:kz gl env G)(aN:da N J J1)
section
include he az aN
theorem aDZ{x:ba}(h:c' gl gd env J N (.mov x)=some (c,v,J')):fD N J J1 (.mov x) env1 (dv env G gd) c v J':=by
 simp[c']at h;split at h
 . rename_i w hw;cases h;obtain⟨p,v1,a1,a2,a3⟩:=cP he az hw;exact .neutral aN a2 λav _=>⟨p,by grind[a7],a3 av⟩
 grind
theorem avx{x y z:ba}(h:c' gl gd env J N (.pick x y z)=some (c,v,J')):fD N J J1 (.pick x y z) env1 (dv env G gd) c v J':=by
 simp[c']at h;split at h
 . rename_i b p q h1 aa aA;cases h;obtain⟨tM,v1,a1,a2,a3⟩:=cP he az h1;obtain⟨vg,v2,b1,b2,cf⟩:=abr he az h1 rfl aa;obtain⟨vh,v3,bD,bJ,c1⟩:=abr he az h1 rfl aA;have:=a2.oX;subst this;have:=b2.oX;subst this;have:=bJ.oX;subst this
   refine .neutral aN (.c (.t _)) λav _=>⟨tM/\(b=true->vg)/\(b=false->vh),by simp only[a7,a1,b1,bD];rfl,a3 av,cf av,c1 av⟩
 grind
theorem asN{x:ba}(h:c' gl gd env J N (.nilCheck x)=some (c,v,J')):fD N J J1 (.nilCheck x) env1 (dv env G gd) c v J':=by
 simp[c']at h;split at h
 . rename_i b o hw;cases h;obtain⟨p,v1,a1,a2,a3⟩:=cP he az hw;have:=a2.lg;subst this;exact .neutral aN a2 λav _=>⟨p,by simp[a7,a1],a3 av⟩
 . rename_i b t i o hw;cases h;obtain⟨p,v1,a1,a2,a3⟩:=cP he az hw;have:=a2.l3;subst this;exact .neutral aN a2 λav _=>⟨p,by simp[a7,a1],a3 av⟩
 . rename_i t cH o hw;cases h;obtain⟨p,v1,a1,a2,a3⟩:=cP he az hw;have:=a2.Ww;subst this;exact .neutral aN a2 λav _=>⟨p,by simp[a7,a1],a3 av⟩
 grind
theorem aD0{x:ba}(h:c' gl gd env J N (.not x)=some (c,v,J')):fD N J J1 (.not x) env1 (dv env G gd) c v J':=by
 simp[c']at h;split at h
 . rename_i b hw;cases h;obtain⟨p,v1,a1,a2,a3⟩:=cP he az hw;have:=a2.oX;subst this;exact .neutral aN (.c (.t _)) λav _=>⟨p,by simp[a7,a1];rfl,a3 av⟩
 grind
theorem avy{k:IntKind}{x:ba}(h:c' gl gd env J N (.conv k x)=some (c,v,J')):fD N J J1 (.conv k x) env1 (dv env G gd) c v J':=by
 simp only[c']at h;split at h
 . rename_i cI m hw;cases h;obtain⟨p,v1,a1,a2,a3⟩:=cP he az hw;have:=a2.hM;subst this;exact .neutral aN (.c (.t _)) λav _=>⟨p,by simp[a7,a1];rfl,a3 av⟩
 grind
theorem aDX{x:ba}(h:c' gl gd env J N (.i2s x)=some (c,v,J')):fD N J J1 (.i2s x) env1 (dv env G gd) c v J':=by
 simp[c']at h;split at h
 . rename_i cI m hw;cases h;obtain⟨p,v1,a1,a2,a3⟩:=cP he az hw;have:=a2.hM;subst this;exact .neutral aN (.c (.t _)) λav _=>⟨p,by simp[a7,a1];rfl,a3 av⟩
 grind
theorem aD1{x:ba}(h:c' gl gd env J N (.s2s x)=some (c,v,J')):fD N J J1 (.s2s x) env1 (dv env G gd) c v J':=by
 simp[c']at h;split at h
 . rename_i s hw;cases h;obtain⟨p,v1,a1,a2,a3⟩:=cP he az hw;have:=a2.qR;subst this;exact .neutral aN a2 λav _=>⟨p,by simp[a7,a1],a3 av⟩
 grind
theorem avz{off:Nat}{x:ba}(h:c' gl gd env J N (.fldA off x)=some (c,v,J')):fD N J J1 (.fldA off x) env1 (dv env G gd) c v J':=by
 simp[c']at h;split at h
 . rename_i b o hw;cases h;obtain⟨p,v1,a1,a2,a3⟩:=cP he az hw;have:=a2.lg;subst this;exact .neutral aN (.c (.ptr _ _)) λav _=>⟨p,by simp[a7,a1],a3 av⟩
 . rename_i b t i o hw;cases h;obtain⟨p,v1,a1,a2,a3⟩:=cP he az hw;have:=a2.l3;subst this;exact .neutral aN (.c (.dw _ _ _ _)) λav _=>⟨p,by simp[a7,a1],a3 av⟩
 . rename_i t cH o hw;cases h;obtain⟨p,v1,a1,a2,a3⟩:=cP he az hw;have:=a2.Ww;subst this;exact .neutral aN (.c (.ft _ _ _)) λav _=>⟨p,by simp[a7,a1],a3 av⟩
 grind
theorem aDW{agg:Bool}{off k:Nat}{x:ba}(h:c' gl gd env J N (.fld agg off k x)=some (c,v,J')):fD N J J1 (.fld agg off k x) env1 (dv env G gd) c v J':=by
 simp[c']at h;split at h
 . rename_i cs hw;split at h
   . rename_i w aj;cases h;obtain⟨p,v1,a1,a2,a3⟩:=cP he az hw;obtain⟨bc,rfl,b2⟩:=a2.s0;obtain⟨v2,bD,bJ⟩:=Dd b2 aj;exact .neutral aN bJ λav _=>⟨p,by grind[a7],a3 av⟩
   grind
 grind
theorem awI{agg:Bool}{k:Nat}{x:ba}(h:c' gl gd env J N (.load agg k x)=some (c,v,J')):fD N J J1 (.load agg k x) env1 (dv env G gd) c v J':=by
 simp only[c']at h;split at h
 . rename_i b o hw;split at h
   . rename_i cs eJ;split at h
     . rename_i w aj;cases h;obtain⟨p,v1,a1,a2,a3⟩:=cP he az hw;have:=a2.lg;subst this;obtain⟨_,y,b1,b2⟩:=aN b _ eJ;cases b2 with
       |box b2=>
        obtain⟨v2,bD,bJ⟩:=Dd b2 aj;exact .neutral aN bJ λav _=>⟨p,by simp[a7,a1,b1,bD],a3 av⟩
     . cases h
   . rename_i E gA eJ;split at h
     . cases h;obtain⟨p,v1,a1,a2,a3⟩:=cP he az hw;have:=a2.lg;subst this;obtain⟨_,y,b1,b2⟩:=aN b _ eJ;cases b2 with
       |cL b2=>exact .neutral aN (.c b2) λav _=>⟨p,by simp[a7,a1,b1],a3 av⟩
     . cases h
   . cases h
 . rename_i b t i o hw;split at h
   . rename_i hF fm eJ;split at h
     . rename_i l aj;have e:=Cell.qi aj;split at h
       . rename_i w e4;cases h;obtain⟨p,v1,a1,a2,a3⟩:=cP he az hw;have:=a2.l3;subst this;obtain⟨_,y,b1,b2⟩:=aN b _ eJ;cases b2 with
         |arr=>
          obtain⟨v2,bD,bJ⟩:=Dd K9 e4;refine .neutral aN bJ λav ay=>⟨p/\t.sz U=t.sz U/\i<(List.map (t.enc U) l).length,?_,a3 av,rfl,Gv (lK ay)⟩
          simp only[ij]at ay
          grind[Z0,a7,LC]
       . cases h
     . cases h
   . rename_i cs eJ;split at h
     . rename_i w aj;cases h;obtain⟨p,v1,a1,a2,a3⟩:=cP he az hw;have:=a2.l3;subst this;obtain⟨_,y,b1,b2⟩:=aN b _ eJ;cases b2 with
       |box b2=>
        obtain⟨v2,bD,bJ⟩:=Dd b2 aj;exact .neutral aN bJ λav _=>⟨p,by simp[a7,a1,b1,bD],a3 av⟩
     . cases h
   . rename_i hF fm dk ed gA eJ;split at h
     . cases h
     . split at h
       . rename_i jq;split at h
         . rename_i b8;cases h;have jq:=dN jq;have b8:=dN b8;subst jq;obtain⟨p,v1,a1,a2,a3⟩:=cP he az hw;have:=a2.l3;subst this;obtain⟨_,y,b1,b2⟩:=aN b _ eJ;cases b2 with
           |dr _ _ _ _ b2=>
            refine .neutral aN (.c b2) λav ay=>⟨p/\t.sz U=hF.sz U/\i=dk,?_,a3 av,b8,lK ay⟩
            simp only[a7,a1,aK,b1];simp
         . cases h
       . rename_i jq;have jq:=mr jq;split at h
         . rename_i l aj;have e:=Cell.qi aj;cases e;split at h
           . rename_i w e4;cases h;obtain⟨p,v1,a1,a2,a3⟩:=cP he az hw;have:=a2.l3;subst this;obtain⟨_,y,b1,b2⟩:=aN b _ eJ;cases b2 with
             |dr _ _ _ _ b2=>
              obtain⟨v2,bD,bJ⟩:=Dd K9 e4;refine .neutral aN bJ λav ay=>⟨p/\t.sz U=t.sz U/\i<(List.map (t.enc U) l).length,?_,a3 av,rfl,Gv (lK ay)⟩
              simp only[ij]at ay;have bD:=Z0 bD;simp only[a7,a1,aK,b1];rw[ah (by simp),ah jq,LC ay,bD];rfl
           . cases h
         . cases h
   . cases h
 . rename_i t cH o hw;split at h
   . rename_i w aj;cases h;obtain⟨p,v1,a1,a2,a3⟩:=cP he az hw;have:=a2.Ww;subst this;obtain⟨v2,bD,bJ⟩:=Dd K9 aj;have bD:=Z0 bD;exact .neutral aN bJ λav _=>⟨p,by simp[a7,a1,bD],a3 av⟩
   . cases h
 grind
theorem aDT{op:BinOp}{x y:ba}(h:c' gl gd env J N (.bin op x y)=some (c,v,J')):fD N J J1 (.bin op x y) env1 (dv env G gd) c v J':=by
 simp[c']at h;split at h
 . rename_i p q ar aE;split at h
   . rename_i eE r ai;cases h;obtain⟨pp,v1,a1,a2,a3⟩:=cP he az ar;obtain⟨mH,v2,b1,b2,cf⟩:=cP he az aE;have:=a2.HY;have:=b2.HY;obtain⟨lM,d1,d2⟩:=asL ai;exact .neutral aN (.c (.t _)) λav ay=>⟨pp/\mH/\lM,by grind[a7],a3 av,cf av,d2 ay⟩
   grind
 grind
theorem auQ{neg:Bool}{ks:List Nat}{x y:ba}(h:c' gl gd env J N (.eqAgg neg ks x y)=some (c,v,J')):fD N J J1 (.eqAgg neg ks x y) env1 (dv env G gd) c v J':=by
 simp[c']at h;split at h
 . rename_i p q ar aE;split at h
   . rename_i r ai;cases h;obtain⟨pp,v1,a1,a2,a3⟩:=cP he az ar;obtain⟨mH,v2,b1,b2,cf⟩:=cP he az aE;obtain⟨bc,rfl,d2⟩:=a2.s0;obtain⟨es,rfl,bw⟩:=b2.s0;have:=alz ai d2 bw;exact .neutral aN (.c (.t _)) λav ay=>⟨pp/\mH,by simp[a7,a1,b1,this];cases neg<;>rfl,a3 av,cf av⟩
   . cases h
 . cases h
theorem at2{neg:Bool}{x y:ba}(h:c' gl gd env J N (.eqBool neg x y)=some (c,v,J')):fD N J J1 (.eqBool neg x y) env1 (dv env G gd) c v J':=by
 simp[c']at h;split at h
 . rename_i p q ar aE;cases h;obtain⟨pp,v1,a1,a2,a3⟩:=cP he az ar;obtain⟨mH,v2,b1,b2,cf⟩:=cP he az aE;have:=a2.oX;subst this;have:=b2.oX;subst this;exact .neutral aN (.c (.t _)) λav ay=>⟨pp/\mH,by simp only[a7,a1,b1];cases neg<;>rfl,a3 av,cf av⟩
 grind
theorem awJ{sz:Nat}{x y:ba}(h:c' gl gd env J N (.idxA sz x y)=some (c,v,J')):fD N J J1 (.idxA sz x y) env1 (dv env G gd) c v J':=by
 simp[c']at h;split at h
 . rename_i t l k m ar aE;split at h
   . rename_i b8;have b8:=dN b8;cases h;obtain⟨pp,v1,a1,a2,a3⟩:=cP he az ar;obtain⟨mH,v2,b1,b2,cf⟩:=cP he az aE;have:=a2.pj;subst this;have:=b2.hM;subst this;by_cases ai:bd m (List.length l)=true
     . obtain⟨h1,aa⟩:=wD.1 ai;refine .neutral aN (v1:= .c (.ft (el (List.map (t.enc U) l) (Int.toNat m)) 0)) ?_ λav ay=>⟨pp/\mH/\(0:Int)<=m/\Int.toNat m<(List.map (t.enc U) l).length/\(el (List.map (t.enc U) l) (Int.toNat m)).length=sz,by simp only[a7,a1,b1,aK],a3 av,cf av,h1,Gv aa,by rw[LC aa,aS.CB];exact b8⟩
       rw[LC aa];exact .c (.ft _ _ _)
     . exact .neutral aN (.c (.ft _ _ _)) λav ay=>absurd ay ai
   . cases h
 . rename_i b k m ar aE;split at h
   . rename_i t l ag;split at h
     . rename_i b8;have b8:=dN b8;cases h;obtain⟨pp,v1,a1,a2,a3⟩:=cP he az ar;obtain⟨mH,v2,b1,b2,cf⟩:=cP he az aE;obtain⟨dp,n,rfl,j2,av⟩:=a2.kd;have:=b2.hM;subst this;have:=av _ ag _ rfl;cases this
       refine .neutral aN (.c (.dw _ _ _ _)) λav ay=>⟨pp/\mH/\(0:Int)<=m/\Int.toNat m<l.length/\sz=t.sz U,?_,a3 av,cf av,(wD.1 ay).1,(wD.1 ay).2,b8.symm⟩
       simp only[a7,a1,b1,aK,kt,b8]
     . cases h
   . rename_i cs ag;split at h
     . rename_i b8;have b8:=dN b8;cases h;obtain⟨pp,v1,a1,a2,a3⟩:=cP he az ar;obtain⟨mH,v2,b1,b2,cf⟩:=cP he az aE;obtain⟨dp,n,rfl,j2,av⟩:=a2.kd;have:=b2.hM;subst this;have:=av _ ag _ rfl;cases this
       refine .neutral aN (.c (.dw _ .bool _ _)) λav ay=>⟨pp/\mH/\(0:Int)<=m/\Int.toNat m<cs.length/\sz=1,?_,a3 av,cf av,(wD.1 ay).1,(wD.1 ay).2,b8.symm⟩
       simp only[a7,a1,b1,aK,kt,<-b8];rfl
     . cases h
   . cases h
 grind
theorem awK{x y:ba}(h:c' gl gd env J N (.idxS x y)=some (c,v,J')):fD N J J1 (.idxS x y) env1 (dv env G gd) c v J':=by
 simp[c']at h;split at h
 . rename_i s k m ar aE;cases h;obtain⟨pp,v1,a1,a2,a3⟩:=cP he az ar;obtain⟨mH,v2,b1,b2,cf⟩:=cP he az aE;have:=a2.qR;subst this;have:=b2.hM;subst this;exact .neutral aN (.c (.t _)) λav ay=>⟨pp/\mH/\(0:Int)<=m/\Int.toNat m<List.length s,by simp only[a7,a1,b1];rfl,a3 av,cf av,(wD.1 ay).1,(wD.1 ay).2⟩
 grind
theorem yh{x:Option ba}{l:Option Int}(h:wJ gl gd env x=some l):∃p,pQ env1 x=some (p,l)/\(dv env G gd=true->p):=by
 unfold wJ at h;split at h
 . cases h;exact⟨True,rfl,λ_=>trivial⟩
 . split at h
   . rename_i k n I;cases h;obtain⟨pp,v1,a1,a2,a3⟩:=cP he az I;have:=a2.hM;subst this;exact⟨pp,by simp[pQ,a1],a3⟩
   grind
theorem awL{x:ba}{bE ak:Option ba}(h:c' gl gd env J N (.slcS x bE ak)=some (c,v,J')):fD N J J1 (.slcS x bE ak) env1 (dv env G gd) c v J':=by
 simp[c']at h;split at h
 . rename_i s l r ar aj ai;cases h;obtain⟨pp,v1,a1,a2,a3⟩:=cP he az ar;obtain⟨pl,hC,l2⟩:=yh he az aN aj;obtain⟨lM,cc,eC⟩:=yh he az aN ai;have:=a2.qR;subst this;exact .neutral aN (.c (.t _)) λav ay=>⟨pp/\pl/\lM/\0<=l.getD 0/\l.getD 0<=r.getD _/\r.getD _<=List.length s,by simp[a7,a1,hC,cc];rfl,a3 av,l2 av,eC av,oj.1 ay⟩
 grind
theorem aD2{sz:Nat}{x:ba}{bE ak:Option ba}(h:c' gl gd env J N (.slc sz x bE ak)=some (c,v,J')):fD N J J1 (.slc sz x bE ak) env1 (dv env G gd) c v J':=by
 simp only[c']at h;split at h
 . rename_i t s l r ar aj ai;split at h
   . rename_i b8;have b8:=dN b8;cases h;obtain⟨pp,v1,a1,a2,a3⟩:=cP he az ar;obtain⟨pl,hC,l2⟩:=yh he az aN aj;obtain⟨lM,cc,eC⟩:=yh he az aN ai;have:=a2.pj;subst this
     refine .neutral aN (.c (.t (U:=U) ⟨.slice t,_⟩)) λav ay=>⟨pp/\pl/\lM/\0<=l.getD 0/\l.getD 0<=r.getD (List.length s:Int)/\r.getD (List.length s:Int)<=(List.length s:Int)/\∀e,e∈List.map (t.enc U) s->e.length=sz,?_,a3 av,l2 av,eC av,(oj.1 ay).1,(oj.1 ay).2.1,(oj.1 ay).2.2,?_⟩
     . simp only[a7,a1,hC,cc,aK];exact avv
     grind[aS.CB]
   grind
 . rename_i b r ar aj ai;split at h
   . rename_i t s ag;split at h
     . rename_i b8;have b8:=dN b8;cases h;obtain⟨pp,v1,a1,a2,a3⟩:=cP he az ar;obtain⟨lM,cc,eC⟩:=yh he az aN ai;obtain⟨dp,n,rfl,j2,av⟩:=a2.kd;have qE:=av _ ag (t.sz U,s.length) rfl;have km:bE=none:=by
        cases bE with
        |none=>rfl
        |some x=>grind[wJ]
       subst km;refine .neutral aN (.c (.pre b (t.sz U) _ j2 λx I p ar=>?_)) λiB ay=>⟨pp/\True/\lM/\0<=(none:Option Int).getD 0/\(none:Option Int).getD 0<=r.getD (List.length s:Int)/\r.getD (List.length s:Int)<=(List.length s:Int)/\sz=t.sz U,?_,a3 iB,trivial,eC iB,(oj.1 ay).1,(oj.1 ay).2.1,(oj.1 ay).2.2,b8.symm⟩
       . grind
       . have FK:pQ env1 none=some (True,none):=rfl
         grind[a7]
     grind
   grind
 . rename_i b l r ar aj ai;split at h
   . rename_i t s ag;split at h
     . rename_i b8;have b8:=dN b8;cases h;obtain⟨pp,v1,a1,a2,a3⟩:=cP he az ar;obtain⟨pl,hC,l2⟩:=yh he az aN aj;obtain⟨lM,cc,eC⟩:=yh he az aN ai;obtain⟨dp,n,rfl,j2,av⟩:=a2.kd;have qE:=av _ ag (t.sz U,s.length) rfl;obtain⟨rfl,rfl⟩:=qE;have km:bE.isNone=false:=by
        cases bE with
        |none=>simp[wJ]at aj
        |some x=>rfl
       refine .neutral aN (.c (.fx b (t.sz U) _ _ j2 λx I p ar=>?_)) λiB ay=>⟨pp/\pl/\lM/\0<=(some l:Option Int).getD 0/\(some l:Option Int).getD 0<=r.getD (List.length s:Int)/\r.getD (List.length s:Int)<=(List.length s:Int)/\sz=t.sz U,?_,a3 iB,l2 iB,eC iB,(oj.1 ay).1,(oj.1 ay).2.1,(oj.1 ay).2.2,b8.symm⟩
       . grind
       . simp only[a7,a1,hC,cc,aK,km,dK,dB,kt];rfl
     grind
   grind
 grind
theorem awM{x:ba}(h:c' gl gd env J N (.slc0 x)=some (c,v,J')):fD N J J1 (.slc0 x) env1 (dv env G gd) c v J':=by
 simp[c']at h;split at h
 . rename_i t l hw;cases h;obtain⟨p,v1,a1,a2,a3⟩:=cP he az hw;have:=a2.pj;subst this;exact .neutral aN (.c .aT) λav _=>⟨p,by simp[a7,a1],a3 av⟩
 . rename_i hw;cases h;obtain⟨p,v1,a1,a2,a3⟩:=cP he az hw;have:=a2.E3;subst this;exact .neutral aN (.c .aT) λav _=>⟨p,by simp[a7,a1],a3 av⟩
 . rename_i b hw;cases h;obtain⟨p,v1,a1,a2,a3⟩:=cP he az hw;obtain⟨sz,n,rfl,_⟩:=a2.kd;exact .neutral aN (.c .aT) λav _=>⟨p,by simp[a7,a1],a3 av⟩
 grind
theorem alB:∀{vs:List (b9 U)} {bc:List V} {l:List Nat},Nf vs=some l->bk (cn N J) vs bc->a7.Cp bc=some l
 |[],[],l,h,.nil=>by simp[Nf]at h;subst h;rfl
 |.c (.ptr b 0)::vs,d::bc,l,h,.cons h1 aa=>by
  simp only[Nf]at h;split at h
  . rename_i fm aj;cases h;have:=h1.lg;subst this;simp[a7.Cp,alB aj aa]
  grind
theorem awN{f:Nat}{caps:List ba}(h:c' gl gd env J N (.mkfn f caps)=some (c,v,J')):fD N J J1 (.mkfn f caps) env1 (dv env G gd) c v J':=by
 simp[c']at h;split at h
 . rename_i vs fP;split at h
   . rename_i l aj;cases h;obtain⟨p,bc,a1,a2,a3⟩:=Dh he az fP;exact .neutral aN (.c (.fn _ _)) λav _=>⟨p,by simp[a7,a1,alB he az aN aj a2],a3 av⟩
   . cases h
 grind
theorem aDV{x:ba}{i:Nat}(h:c' gl gd env J N (.ext x i)=some (c,v,J')):fD N J J1 (.ext x i) env1 (dv env G gd) c v J':=by
 simp[c']at h;split at h
 . rename_i vs fP;split at h
   . rename_i w hw;cases h;obtain⟨p,v1,a1,a2,a3⟩:=cP he az fP;cases a2 with
     |bn _ bc aj aa=>
      have ak:=(fv.1 hw).1;have av:=gQ (l:=bc) (i:=i) (by omega);exact .neutral aN (aa i _ _ hw av) λaz _=>⟨p,by grind[a7],a3 az⟩
   grind
 grind
theorem awO{x y:ba}(h:c' gl gd env J N (.max2 x y)=some (c,v,J')):fD N J J1 (.max2 x y) env1 (dv env G gd) c v J':=by
 simp only[c']at h;split at h
 . rename_i k a cI b ar aE;simp at h;obtain⟨rfl,rfl,rfl,rfl⟩:=h;obtain⟨pp,v1,a1,a2,a3⟩:=cP he az ar;obtain⟨mH,v2,b1,b2,cf⟩:=cP he az aE;have:=a2.hM;subst this;have:=b2.hM;subst this;exact .neutral aN (.c (.t (U:=U) _)) λav ay=>⟨pp/\mH,by simp[a7,a1,b1];rfl,a3 av,cf av⟩
 grind
theorem awP{x y:ba}(h:c' gl gd env J N (.min2 x y)=some (c,v,J')):fD N J J1 (.min2 x y) env1 (dv env G gd) c v J':=by
 simp[c']at h;split at h
 . rename_i k a cI b ar aE;simp at h;obtain⟨rfl,rfl,rfl,rfl⟩:=h;obtain⟨pp,v1,a1,a2,a3⟩:=cP he az ar;obtain⟨mH,v2,b1,b2,cf⟩:=cP he az aE;have:=a2.hM;subst this;have:=b2.hM;subst this;exact .neutral aN (.c (.t _)) λav ay=>⟨pp/\mH,by simp only[a7,a1,b1,aK];rfl,a3 av,cf av⟩
 grind
theorem auR{z:List C}{parts:List (Nat×Nat×ba)}(h:c' gl gd env J N (.build z parts)=some (c,v,J')):fD N J J1 (.build z parts) env1 (dv env G gd) c v J':=by
 simp[c']at h;split at h
 . rename_i dW bq;split at h
   . rename_i cs eJ;cases h;obtain⟨p,bc,a1,a2,a3⟩:=alH he az eJ (wq bq);exact .neutral aN (.agg a2) λav _=>⟨p,by grind[a7],a3 av⟩
   grind
 grind
theorem auS{cs:List C}(h:c' gl gd env J N (.alloc cs)=some (c,v,J')):fD N J J1 (.alloc cs) env1 (dv env G gd) c v J':=by
 simp[c']at h;split at h
 . rename_i xs ov;cases h;have k:ek N J (N+16) (dd J N (.box xs)):=pI (by simp);exact .store rfl k (.c (.ptr _ _)) λav _=>⟨True,_,rfl,trivial,aN.put (by simp) k (.box (wq ov))⟩
 grind
theorem aDU{x:ba}(h:c' gl gd env J N (.box x)=some (c,v,J')):fD N J J1 (.box x) env1 (dv env G gd) c v J':=by
 simp[c']at h;split at h
 . rename_i w hw;split at h
   . rename_i cs eJ;cases h;obtain⟨p,v1,a1,a2,a3⟩:=cP he az hw;obtain⟨bc,b1,b2⟩:=wj a2 eJ;have k:ek N J (N+16) (dd J N (.box cs)):=pI (by simp);exact .store rfl k (.c (.ptr _ _)) λav _=>⟨p,_,by grind[a7],a3 av,aN.put (by simp) k (.box (b2.imp λ_ _ _=>cR.mono k))⟩
   grind
 grind
theorem at3{sz len:Nat}{z:List C}{parts:List (Nat×ba)}(h:c' gl gd env J N (.bslice sz len z parts)=some (c,v,J')):fD N J J1 (.bslice sz len z parts) env1 (dv env G gd) c v J':=by
 simp[c']at h;split at h
 . rename_i dW bq;split at h
   . cases h
   . rename_i ts hK;split at h
     . grind
     . rename_i b8;have b8:=dN b8;split at h
       . rename_i rows ai;cases h;have nQ:=wq (N:=N) (J:=J) bq;obtain⟨p,es,a1,a2,a4,a3⟩:=Yo he az ai (bk.replicate (R:=λr e=>lQ r=some e) hK _) (by intro r ai;rw[L9 ai];exact b8);have k:ek N J (N+16) (dd J N (.rows sz rows)):=pI (by omega)
         refine .store rfl k (.c (.arr N sz es.length (by omega) ?_)) λav _=>⟨p,_,by simp[a7,Gx nQ hK,aK,a1,sH];rw[al6 a1,List.length_replicate],a3 av,aN.put (by omega) k (.rows a2 a4)⟩
         intro x I q aE;rw[kq,af rfl]at I;cases I;simp[ds.ep]at aE;rw[<-aE,a2.length]
       . cases h
 grind
omit he az aN in
theorem atE{bc:List C}{ts:List T}(h:toTs bc=some ts):Mq bc=none:=by
 unfold Mq
 grind[toTs,toT]
omit he az aN in
theorem at4{J:bA U}{J1:br}{v1:V}{w:b9 U}{d:V}(h:cn N J w d)(hw:∀b bE len,w≠.c (.fx b bE len))(FZ:∀b bE len,w≠.c (.sub b bE len))(aE8:w≠.c .dead):tV v1 d=none:=by
 unfold tV;split
 . cases h with
   |c h=>
    cases h<;>grind
 rfl
theorem auT{k:Nat}{x y:ba}(h:c' gl gd env J N (.store k x y)=some (c,v,J')):fD N J J1 (.store k x y) env1 (dv env G gd) c v J':=by
 simp only[c']at h;split at h
 . rename_i b o w I ao;split at h
   . rename_i cs eJ;split at h
     . rename_i hk;have hk:=dN hk;split at h
       . rename_i bc l7;split at h
         . rename_i hle;have hle:=kK hle;cases h;obtain⟨p,v1,a1,a2,a3⟩:=cP he az I;obtain⟨q,v2,b1,b2,cf⟩:=cP he az ao;have:=a2.lg;subst this;obtain⟨es,bD,bJ⟩:=wj b2 eJ;obtain⟨j2,z,d1,d2⟩:=aN b _ l7;cases d2 with
           | @box _ fs d2=>
            have gK:ek N J (N+16) (dd J b (.box (xl bc o cs))):=uO (by simp) l7 (λp h=>by
             simp only[ds.ep,abq (show o+cs.length<=bc.length by omega)]at h⊢
             exact h)
            refine .store rfl gK (.bn [] [] rfl (by simp)) λav _=>⟨p/\q,_,?_,⟨a3 av,cf av⟩,aN.put (by omega) gK (.box (Sb (d2.imp λ_ _ _=>cR.mono gK) (bJ.imp λ_ _ _=>cR.mono gK)))⟩
            simp only[a7,a1,b1,aK,bD];rw[af (by rw[<-bJ.length];grind),d1];dsimp only;rw[af (by rw[<-d2.length];grind)]
         grind
       . rename_i E gA l7;split at h
         . rename_i gA _;cases h;obtain⟨p,v1,a1,a2,a3⟩:=cP he az I;obtain⟨q,v2,b1,b2,cf⟩:=cP he az ao;have:=a2.lg;obtain⟨es,bD,bJ⟩:=wj b2 eJ;obtain⟨j2,z,d1,d2⟩:=aN b _ l7;cases d2 with
           |cL d2=>
            cases bJ with|cons bJ c1=>
            cases c1;have gK:ek N J (N+16) (dd J b (.cL E gA)):=uO (by simp) l7 (λp h=>by grind[ds.ep]);refine .store rfl gK (.bn [] [] rfl (by simp)) λav _=>⟨p/\q,_,?_,⟨a3 av,cf av⟩,aN.put (by omega) gK (.cL (bJ.mono gK))⟩
            simp only[a7,a1,b1,aK,bD]
            grind
         grind
       grind
     grind
   grind
 . rename_i b t i o w I ao;split at h
   . rename_i cs eJ;split at h
     . rename_i hk;simp only[dM]at hk;have nN:=dN hk.1;have sy:=kK hk.2;split at h
       . rename_i hF fm kX;split at h
         . rename_i l aj;have e:=Cell.qi aj;cases e;split at h
           . rename_i E8 aAm;cases h;obtain⟨rfl,bI,rfl⟩:cs=[E8]/\∃bI,E8= .arr bI:=by
              unfold ajn at aAm
              grind
             obtain⟨p,v1,a1,a2,a3⟩:=cP he az I;obtain⟨q,v2,b1,b2,cf⟩:=cP he az ao;have:=a2.l3;obtain⟨es,bD,bJ⟩:=wj b2 eJ;cases bJ with|cons bJ c1=>
             cases c1;have axE:=bJ;cases bJ with|arr _ s2 dn jn ahE=>
             obtain⟨j2,z,d1,d2⟩:=aN b _ kX;cases d2 with
             |arr=>
              have gK:ek N J (N+16) (dd J b (.dr t l i o (.arr bI))):=uO (by simp) kX (λp h=>by grind[ds.ep]);refine .store rfl gK (.bn [] [] rfl (by simp)) λav ay=>⟨p/\q/\t.sz U=t.sz U/\i<(List.map (t.enc U) l).length/\o+k<=t.sz U,_,?_,⟨a3 av,cf av,rfl,Gv (lK ay),sy⟩,aN.put (by omega) gK (.dr t l i o (axE.mono gK))⟩
              simp only[a7,a1,b1,aK,bD];simp_all[af,Mq]
           split at h
           . rename_i l2 e4;cases h;obtain⟨p,v1,a1,a2,a3⟩:=cP he az I;obtain⟨q,v2,b1,b2,cf⟩:=cP he az ao;have:=a2.l3;subst this;obtain⟨es,bD,bJ⟩:=wj b2 eJ;obtain⟨j2,z,d1,d2⟩:=aN b _ kX;cases d2 with
             |arr=>
              have hlen:l2.length=List.length l:=by
               grind[B4]
              have gK:ek N J (N+16) (dd J b (.arr t l2)):=uO (by simp) kX (λp h=>by
               grind[ds.ep])
              refine .store rfl gK (.bn [] [] rfl (by simp)) λav ay=>?_
              have ak:i<List.length l:=lK ay;obtain⟨ts,aR,bw⟩:=Y0 e4 ak bJ (by grind);refine⟨p/\q/\t.sz U=t.sz U/\i<(List.map (t.enc U) l).length/\o+k<=t.sz U,_,?_,⟨a3 av,cf av,rfl,Gv ak,sy⟩,aN.put (by omega) gK (.arr t l2)⟩;simp only[a7,a1,b1,aK,bD];rw[af (by rw[<-bJ.length];grind),d1]
              grind[atE]
           grind
         grind
       . rename_i bc l7;split at h
         . rename_i hle;have hle:=kK hle;cases h;obtain⟨p,v1,a1,a2,a3⟩:=cP he az I;obtain⟨q,v2,b1,b2,cf⟩:=cP he az ao;have:=a2.l3;subst this;obtain⟨es,bD,bJ⟩:=wj b2 eJ;obtain⟨j2,z,d1,d2⟩:=aN b _ l7;cases d2 with
           | @box _ fs d2=>
            have gK:ek N J (N+16) (dd J b (.box (xl bc (i*t.sz U+o) cs))):=uO (by simp) l7 (λp h=>by
             simp only[ds.ep,abq (show i*t.sz U+o+cs.length<=bc.length by omega)]at h⊢
             exact h)
            refine .store rfl gK (.bn [] [] rfl (by simp)) λav _=>⟨p/\q,_,?_,⟨a3 av,cf av⟩,aN.put (by omega) gK (.box (Sb (d2.imp λ_ _ _=>cR.mono gK) (bJ.imp λ_ _ _=>cR.mono gK)))⟩
            simp only[a7,a1,b1,aK,bD];rw[af (by rw[<-bJ.length];grind),d1];dsimp only;rw[af (by rw[<-d2.length];grind)]
         . cases h
       . rename_i hF fm dk ed gA kX;split at h
         . rename_i E8;split at h
           . rename_i jq;split at h
             . rename_i b8;cases h;have jq:=dN jq;have b8:=dN b8;subst jq;obtain⟨p,v1,a1,a2,a3⟩:=cP he az I;obtain⟨q,v2,b1,b2,cf⟩:=cP he az ao;have:=a2.l3;subst this;obtain⟨es,bD,bJ⟩:=wj b2 eJ;cases bJ with|cons bJ c1=>
               cases c1;obtain⟨j2,z,d1,d2⟩:=aN b _ kX;cases d2 with
               |dr _ _ _ _ d2=>
                have gK:ek N J (N+16) (dd J b (.dr hF fm dk o E8)):=uO (by simp) kX (λp h=>by grind[ds.ep]);refine .store rfl gK (.bn [] [] rfl (by simp)) λav ay=>⟨p/\q/\t.sz U=hF.sz U/\i=dk,_,?_,⟨a3 av,cf av,b8,lK ay⟩,aN.put (by omega) gK (.dr hF fm dk o (bJ.mono gK))⟩
                simp only[a7,a1,b1,aK,bD];rw[af (by simpa using nN),d1];dsimp only;rw[af rfl]
             . cases h
           . rename_i jq;have jq:=mr jq;split at h
             . rename_i l aj;have e:=Cell.qi aj;cases e;split at h
               . rename_i l2 e4;cases h;obtain⟨p,v1,a1,a2,a3⟩:=cP he az I;obtain⟨q,v2,b1,b2,cf⟩:=cP he az ao;have:=a2.l3;subst this;obtain⟨es,bD,bJ⟩:=wj b2 eJ;obtain⟨j2,z,d1,d2⟩:=aN b _ kX;cases d2 with
                 |dr _ _ _ _ d2=>
                  have hlen:l2.length=List.length l:=by
                   unfold B4 at e4
                   grind
                  have gK:ek N J (N+16) (dd J b (.dr t l2 dk ed gA)):=uO (by omega) kX (λp h=>by
                   simp only[ds.ep]at h⊢
                   grind)
                  refine .store rfl gK (.bn [] [] rfl (by simp)) λav ay=>?_
                  have ak:i<List.length l:=lK ay;obtain⟨ts,aR,bw⟩:=Y0 e4 ak bJ (by rw[nN];exact sy);cases bJ with| @cons _ agC _ _ bJ c1=>
                  cases c1;obtain⟨M5,Wh,aAL⟩:∃M5,Shv.toT agC=some M5/\ts=[M5]:=by
                   simp only[toTs]at aR;cases I:Shv.toT agC with
                   |none=>rw[I]at aR;simp at aR
                   |some M5=>rw[I]at aR;simp at aR;exact⟨M5,rfl,aR.symm⟩
                  refine⟨p/\q/\t.sz U=t.sz U/\i<(List.map (t.enc U) l).length/\o+k<=t.sz U,_,?_,⟨a3 av,cf av,rfl,Gv ak,sy⟩,aN.put (by omega) gK (.dr t l2 dk ed (d2.mono gK))⟩;simp only[a7,a1,b1,aK,bD];rw[af (by simpa using nN),d1];dsimp only;rw[ah jq,Wh];subst aAL
                  grind
               . cases h
             . cases h
         . cases h
       . cases h
     . cases h
   . cases h
 . cases h
inductive qY:jy U->List (List T)->Prop
 |ty (t:aS) (l:List (t.den U.D)):qY (.ty t l) (l.map (t.enc U))
 |rows {r es}:bk (λr e=>lQ r=some e) r es->qY (.rows r) es
 |nil:qY .nil []
omit he az aN in
theorem qY.length{e:jy U}{es:List (List T)}(h:qY e es):es.length=e.len:=by
 cases h with
 |ty t l=>simp[jy.len]
 |rows h=>simp[jy.len,h.length]
 |nil=>rfl
omit he az aN in
theorem Zl:∀{xs:List (bH U)} {eM:List aS} {e:List T} {row:List (Cell U.D)},lY eM xs=some row->lQ xs=some e->e=row.map (Cell.enc U)
 |[],eM,e,row,h1,aa=>by
  grind[lY,lQ]
 |y::bG,[],e,row,h1,aa=>by grind[lY]
 |y::bG,ty::eM,e,row,h1,aa=>by
  simp[lQ]at aa;split at aa
  . rename_i t ts ht hK;cases aa;cases y with
    |t c=>
     simp[bH.toT]at ht;split at ht
     . grind
     . cases ht;cases ty<;>simp[lY]at h1<;>(split at h1<;>first|(cases h1;done)|(rename_i q aE;cases h1;rw[Zl aE hK];rfl))
    |aT=>
     simp[bH.toT]at ht;subst ht;cases ty<;>simp[lY]at h1
     split at h1
     . rename_i q aE;cases h1;rw[Zl aE hK];rfl
     grind
    |_=>grind[bH.toT]
  grind
omit he az aN in
theorem awQ{t:aS}{r:List (bH U)}{x:t.den U.D}{e:List T}(h:xm U t r=some x)(he:lQ r=some e):t.enc U x=e:=by
 grind[xm,aS.Fq,aS.WJ,Zl]
omit he az aN in
theorem GP{t:aS}:∀{r:List (List (bH U))} {l:List (t.den U.D)} {es:List (List T)},tX U t r=some l->bk (λr e=>lQ r=some e) r es->l.map (t.enc U)=es
 |[],l,es,h,aa=>by cases aa;grind[tX]
 |r::rs,l,_::_,h,.cons h1 aa=>by
  simp[tX]at h;split at h
  . rename_i x xs I ov;cases h;rw[p4,awQ I h1,GP ov aa]
  grind
omit he az aN in
theorem qY.as{t:aS}{e:jy U}{es:List (List T)}{l:List (t.den U.D)}(h:qY e es)(aC:e.as t=some l):l.map (t.enc U)=es:=by
 cases h with
 |ty u fm=>
  have:=Cell.qi aC
  grind
 |rows h=>exact GP aC h
 |nil=>grind[jy.as]
omit he az aN in
theorem qY.join{x y z:jy U}{es fs:List (List T)}(I:qY x es)(ao:qY y fs)(h:x.join y=some z):qY z (es++fs):=by
 cases I with
 |nil=>grind[jy.join]
 |ty t l=>
  simp[jy.join]at h;split at h
  . rename_i fm aj;cases h;rw[<-ao.as aj,<-BG];exact .ty t _
  grind
 |rows ai=>
  cases ao with
  |ty t l=>
   simp[jy.join]at h;split at h
   . rename_i fm aj;cases h;rw[<-GP aj ai,<-BG];exact .ty t _
   grind
  |rows y2=>simp[jy.join]at h;subst h;exact .rows (ai.append y2)
  |nil=>simp[jy.join]at h;subst h;rw[BH];exact .rows ai
omit he az aN in
theorem qY.blk{e:jy U}{es:List (List T)}{sz:Nat}{b:ds U}(h:qY e es)(ag:e.blk sz=some b):ml N' J' b (.arr sz es)/\(∀x,x∈es->x.length=sz)/\b.ep=some (sz,e.len):=by
 cases h with
 |ty t l=>
  simp[jy.blk]at ag;split at ag
  . rename_i hs;have:=dN hs;subst this;cases ag;refine⟨.arr t l,λx I=>?_,rfl⟩
    grind[aS.CB]
  grind
 | @rows r es ai=>
  simp[jy.blk]at ag;split at ag
  . rename_i hs;cases ag;simp only[ik]at hs;refine⟨.rows ai λx I=>dN (hs x I),λx I=>?_,rfl⟩;obtain⟨i,ak,rfl⟩:=la I;obtain⟨y,h1,aa⟩:=(ai.flip λ_ _ h=>h).get (gQ ak);rw[YZ aa]
    grind[dN]
  grind
 |nil=>
  simp[jy.blk]at ag;subst ag;exact⟨.rows .nil (by simp),by simp,rfl⟩
omit he az in
theorem Z1{v:b9 U}{v1:V}{e:jy U}{W5:Option Nat}(aF:cn N J v v1)(h:B2 J v=some (e,W5)):∃es,sV J1 v1=some (es,W5)/\qY e es:=by
 unfold B2 at h;split at h
 . rename_i t l;cases h;have:=aF.pj;subst this;exact⟨_,rfl,.ty t l⟩
 . cases h;have:=aF.E3;subst this;exact⟨_,rfl,.nil⟩
 . rename_i b;obtain⟨sz,n,rfl,ag,av⟩:=aF.kd;split at h
   . rename_i t l aj;cases h;obtain⟨_,y,h1,aa⟩:=aN b _ aj;cases aa;have:=av _ aj _ rfl;cases this;exact⟨_,by simp[sV,h1],.ty t l⟩
   . rename_i dp r aj;cases h;obtain⟨_,y,h1,aa⟩:=aN b _ aj;cases aa with
     |rows aa aA=>
      have:=av _ aj _ rfl;cases this;exact⟨_,by simp[sV,h1,aa.length],.rows aa⟩
   . cases h
 grind
theorem aDY{str:Bool}{x:ba}(h:c' gl gd env J N (.len str x)=some (c,v,J')):fD N J J1 (.len str x) env1 (dv env G gd) c v J':=by
 simp[c']at h;split at h
 . rename_i s hw;cases h;obtain⟨p,v1,a1,a2,a3⟩:=cP he az hw;have:=a2.qR;subst this;exact .neutral aN (.c (.t _)) λav _=>⟨p,by simp[a7,a1];rfl,a3 av⟩
 . rename_i b hw;split at h
   . rename_i E s ag;cases h;obtain⟨p,v1,a1,a2,a3⟩:=cP he az hw;obtain⟨n,rfl,_,iB⟩:=a2.IZ;have:=iB _ ag _ rfl;cases this;exact .neutral aN (.c (.t _)) λav _=>⟨p,by simp[a7,a1];rfl,a3 av⟩
   grind
 . rename_i w hw;split at h
   . rename_i e fe;cases h;obtain⟨p,v1,a1,a2,a3⟩:=cP he az hw;refine .neutral aN (.c (.t (U:=U) ⟨.int .i64,_⟩)) λav _=>⟨p,?_,a3 av⟩
     unfold B2 at fe;split at fe
     . cases fe;have:=a2.pj;subst this;simp only[a7,a1,aK];exact avw
     . cases fe;have:=a2.E3;subst this;simp only[a7,a1,aK];rfl
     . obtain⟨sz,n,rfl,ag,iB⟩:=a2.kd;simp[a7,a1];split at fe
       . rename_i t l aj;cases fe;have:=iB _ aj _ rfl;cases this;rfl
       . rename_i dp r aj;cases fe;have:=iB _ aj _ rfl;cases this;rfl
       grind
     grind
   . split at h
     . rename_i b;split at h
       . rename_i cs aj;cases h;obtain⟨p,v1,a1,a2,a3⟩:=cP he az hw;obtain⟨sz,n,rfl,ag,iB⟩:=a2.kd;have:=iB _ aj _ rfl;cases this;exact .neutral aN (.c (.t (U:=U) ⟨.int .i64,_⟩)) λav _=>⟨p,by simp[a7,a1];rfl,a3 av⟩
       . cases h
     . cases h
 grind
omit he az aN in
theorem ZJ{bytes n:Nat}:room bytes n=true↔(2*n+192)*bytes<=kJ/\n<=en:=by simp[room]
omit he az aN in
theorem Mk{bytes n:Nat}(h:room bytes n=true):pK n bytes/\n<=en:=⟨.inl (ZJ.1 h).1,(ZJ.1 h).2⟩
omit he az aN in
theorem Lt:∀(l:List Int),bytesOf (List.map ((aS.int .u8).enc U) l)=some (strOf l)
 |[]=>rfl
 |m::l=>by
  have:=Lt l;show bytesOf ([T.int _ m]::_)=_;simp[bytesOf,this];rfl
omit he az aN in
theorem amD:∀{l:List Int},aar l=true->l.map ((aS.int .u8).enc U)=(strOf l).map λc=>[.int .u8 c.toNat]
 |[],_=>rfl
 |m::l,h=>by
  simp only[aar,sJ,dM,ij]at h;have aa:([T.int .u8 m]:List T)=[T.int .u8 ((UInt8.ofNat m.toNat).toNat:Int)]:=by rw[show((UInt8.ofNat m.toNat).toNat:Int)=m by simp[UInt8.toNat_ofNat'];omega]
  exact congr (eL List.cons aa) (amD (l:=l) h.2)
theorem at6{te sz bytes:Nat}{x y:ba}(h:c' gl gd env J N (.append te sz bytes x y)=some (c,v,J')):fD N J J1 (.append te sz bytes x y) env1 (dv env G gd) c v J':=by
 simp only[c']at h;split at h
 . rename_i w I ao;split at h
   . rename_i qd W5 Qf;split at h
     . rename_i blk hblk;cases h;obtain⟨p,v1,a1,a2,a3⟩:=cP he az I;obtain⟨q,v2,b1,b2,cf⟩:=cP he az ao;have:=a2.E3;subst this;obtain⟨bG,bD,bJ⟩:=Z1 aN b2 Qf;have k:ek N J (N+16) (dd J N blk):=pI (by omega);obtain⟨d1,d2,d3⟩:=bJ.blk (N':=N+16) (J':=dd J N blk) hblk
       refine .store rfl k (.c (.arr N sz bG.length (by omega) ?_)) λav ay=>⟨p/\q/\(∀e,e∈bG->e.length=sz)/\pK bG.length bytes/\bG.length<=en,_,by simp only[a7,a1,b1,aK,show tV (.c .aT) v2=none from rfl,bD],⟨a3 av,cf av,d2,?_⟩,aN.put (by omega) k d1⟩
       . intro x I r ai;rw[kq,af rfl]at I;cases I;rw[d3]at ai;cases ai;rw[bJ.length]
       . rw[bJ.length];exact Mk ay
     . cases h
   . cases h
 . rename_i b w I ao;split at h
   . rename_i zA xb qd TQ Ka Qf;split at h
     . grind
     . split at h
       . cases h
       . rename_i Kb;split at h
         . rename_i aa7 aA1;split at h
           . rename_i blk hblk;cases h;obtain⟨p,v1,a1,a2,a3⟩:=cP he az I;obtain⟨q,v2,b1,b2,cf⟩:=cP he az ao;obtain⟨dp,dY,u7,ag,qE⟩:=a2.kd;subst u7;obtain⟨bG,bD,bJ⟩:=Z1 aN b2 Qf;obtain⟨xs,aR,bw⟩:=Z1 aN a2 Ka;have bq:=bw.join bJ aA1;have js:ek N (dl J b) (N+16) (dd (dl J b) N blk):=pI (by omega)
             have k:ek N J (N+16) (dd (dl J b) N blk):=ek.trans A3 js;obtain⟨d1,d2,d3⟩:=bq.blk (N':=N+16) (J':=dd (dl J b) N blk) hblk
             obtain⟨hs,a'⟩:bf J1 b=some (.arr dp xs)/\dY=xs.length:=by
              simp only[sV]at aR
              grind
             have aAJ:dp=sz:=by
              unfold als at Kb;split at Kb
              . rename_i z bq;split at Kb
                . rename_i r ai;have:=qE _ bq _ ai;simp_all
                . cases Kb
              . cases Kb
             subst aAJ;have Jy:da N (dl J b) (lh J1 b):=by
              intro i z bq;rw[vc]at bq;split at bq
              . cases bq
              . rename_i ahB;obtain⟨h1,y,aa,aA⟩:=aN i z bq;exact⟨h1,y,by rw[ib,ah ahB];exact aa,aA.mono A3⟩
             have aFe:TQ≠some b:=by
              intro e;simp_all
             refine .store rfl k (.c (.arr N dp (xs++bG).length (by omega) ?_)) λav ay=>⟨p/\q/\dp=dp/\dp=dp/\0=0/\dY=xs.length/\(∀e,e∈bG->e.length=dp)/\pK (xs.length+bG.length) bytes/\xs.length+bG.length<=en,_,?_,⟨a3 av,cf av,rfl,rfl,rfl,a',λe he=>d2 e (by simp[he]),?_⟩,Jy.put (by omega) js d1⟩
             . intro x I r ai;rw[kq,af rfl]at I;cases I;rw[d3]at ai;cases ai;rw[bq.length]
             . have aAX:tV (.c (.arr b dp 0 dY)) v2=none:=by
                refine at4 (J1:=J1) b2 ?_ ?_ ?_<;>(intros;rintro rfl;simp[B2]at Qf)
               simp only[a7,a1,b1,aK,aAX,bD,hs]
               grind
             . have:=Mk ay;rw[<-bq.length,fp]at this;exact this
           . cases h
         . cases h
   . cases h
 . rename_i b h0 bI bE len I ao;split at h
   . rename_i pS;have pS:=dN pS;subst pS;split at h
     . rename_i t l aj;split at h
       . rename_i b8;have b8:=dN b8;cases h;obtain⟨p,v1,a1,a2,a3⟩:=cP he az I;obtain⟨q,v2,b1,b2,cf⟩:=cP he az ao;cases a2 with|c a2=>
         cases a2 with|pre _ s1 _ kU nQ=>
         cases b2 with|c b2=>
         cases b2 with|fx _ s2 _ _ jn AN=>
         have aR:=nQ _ aj _ rfl;have bw:=AN _ aj _ rfl;obtain⟨j2,z,d1,d2⟩:=aN b _ aj;cases d2 with
         |arr=>
          have js:ek N (dl J b) (N+16) (dd (dl J b) N (.arr t (l.take h0++(l.drop bE).take len))):=pI (by omega);have k:=ek.trans A3 js;have Jy:da N (dl J b) (lh J1 b):=by
           intro i z bq;rw[vc]at bq;split at bq
           . cases bq
           . rename_i ahB;obtain⟨h1,y,aa,aA⟩:=aN i z bq;exact⟨h1,y,by simp_all[ib,ah],aA.mono A3⟩
          refine .store rfl k (.c (.arr N (t.sz U) (l.take h0++(l.drop bE).take len).length (by omega) ?_)) λav ay=>?_
          . simp_all[kq,af,ds.ep,fa]
          . simp only[dM,ij]at ay;have hlen:(l.take h0++(l.drop bE).take len).length=h0+len:=by grind
            refine⟨p/\q/\t.sz U=t.sz U/\t.sz U=t.sz U/\t.sz U=t.sz U/\0=0/\h0+len<=(l.map (t.enc U)).length/\bE+len<=(l.map (t.enc U)).length,_,?_,⟨a3 av,cf av,rfl,rfl,rfl,rfl,by grind,by grind⟩,Jy.put (by simp) js (.arr t _)⟩
            grind[tV,a7,EW,List.map_take,List.map_drop]
       . cases h
     . cases h
   . cases h
 . rename_i b bG I ao;split at h
   . rename_i c7 l ag;split at h
     . rename_i sw;simp only[dM]at sw;have:=dN sw.1;subst this;have:=dN sw.2;subst this;cases h;obtain⟨p,v1,a1,a2,a3⟩:=cP he az I;obtain⟨q,v2,b1,b2,cf⟩:=cP he az ao;obtain⟨n,rfl,j2,iB⟩:=a2.IZ;have:=iB _ ag _ rfl;cases this;have:=b2.pj;subst this;obtain⟨_,z,d1,d2⟩:=aN b _ ag;cases d2;have k1:ek N J N (dl J b):=A3
       have k2:ek N _ (N+16) (dd (dl J b) N (.buf c7 (E4 l (strOf bG)))):=pI (by simp);have qC:da N (dl J b) (lh J1 b):=by
        intro bI x I;rw[vc]at I;split at I
        . grind
        . rename_i b4;obtain⟨h1,y,aa,aA⟩:=aN bI x I;exact⟨h1,y,by rw[ib];grind,aA.mono k1⟩
       refine .store rfl (k1.trans k2) (.c (.df N (List.length l+List.length (strOf bG)) (by simp) λx I p ar=>?_)) λav ay=>?_
       . rw[kq,af rfl]at I;cases I;simp[ds.ep]at ar;exact ar.symm.trans (eL _ alA)
       . simp only[dM]at ay;have ai:=Mk ay.1;refine⟨p/\q/\c7=c7/\1=1/\List.length l=List.length l/\bG.map ((aS.int .u8).enc U)=(strOf bG).map (λc=>[.int .u8 c.toNat])/\pK _ _/\List.length l+List.length (strOf bG)<=en,_,?_,⟨a3 av,cf av,rfl,rfl,rfl,amD ay.2,ai.1,ai.2⟩,qC.put (by simp) k2 (.buf _ _)⟩
         simp only[a7,a1,b1,aK,show tV (.c (.df b (List.length l))) (.c (.t (.slice (bG.map ((aS.int .u8).enc U)))))=none from rfl,show sV J1 (.c (.t (.slice (bG.map ((aS.int .u8).enc U)))))=some (_,none)from rfl,d1];exact eL (Option.map _) (Lt (U:=U) bG)
     . cases h
   . cases h
 grind
omit he az aN in
theorem alC{t:aS}(ht:t.F6=false):∀{xs:List (bH U)} {bc:List C} {l:List (t.den U.D)},bk (cR N J) xs bc->Ey t xs=some l->∃ts,toTs bc=some ts/\ts.map (λx=>[x])=l.map (t.enc U)
 |[],[],l,_,h=>by simp[Ey]at h;subst h;exact⟨[],rfl,rfl⟩
 |x::xs,d::bc,l,.cons h1 aa,h=>by
  unfold Ey at h;split at h
  . grind
  . rename_i c r heq;cases heq;split at h
    . rename_i y m ay hm;cases h;obtain⟨ts,aR,bw⟩:=alC ht aa hm;cases h1;have eJ:=Cell.qi ay;subst eJ;refine⟨Cell.enc U ⟨t,y⟩::ts,by simp[toTs,aR,toT],?_⟩;rw[p4,bw];cases t<;>first|rfl|cases ht
    . cases h
  grind
omit he az aN in
theorem abt{t:aS}{d:t.den U.D}:∀{xs:List (bH U)} {bc:List C} {l:List (t.den U.D)} (i:Nat),bk (cR N J) xs bc->Ey t xs=some l->i<bc.length->cR N J (.t ⟨t,l.getD i d⟩) (bc.getD i .dead)
 |[],[],l,i,_,h,ak=>absurd ak (L2 _)
 |x::xs,d::bc,l,i,.cons h1 aa,h,ak=>by
  unfold Ey at h;split at h
  . grind
  . rename_i c r heq;cases heq;split at h
    . rename_i y m ay hm;cases h;cases h1;have eJ:=Cell.qi ay;subst eJ;cases i with
      |zero=>exact .t _
      |succ i=>exact abt (d:=_) i aa hm (Nat.lt_of_succ_lt_succ ak)
    . cases h
  grind
theorem awR{k:Nat}{x y:ba}(h:c' gl gd env J N (.idxV k x y)=some (c,v,J')):fD N J J1 (.idxV k x y) env1 (dv env G gd) c v J':=by
 simp only[c']at h;split at h
 . rename_i cs cI m ar aE;split at h
   . rename_i t l hk aj;cases h;obtain⟨pp,v1,a1,a2,a3⟩:=cP he az ar;obtain⟨mH,v2,b1,b2,cf⟩:=cP he az aE;obtain⟨bc,rfl,cK⟩:=a2.s0;have:=b2.hM;subst this;have hlen:bc.length=k:=by rw[<-cK.length];exact dN hk
     unfold Tl at aj;split at aj
     . rename_i gA r;split at aj
       . rename_i ng ht hs;cases aj;by_cases ai:bd m k=true
         . obtain⟨h1,aa⟩:=wD.1 ai;refine .neutral aN (.c (abt (Int.toNat m) cK hs (by omega))) λav _=>⟨pp/\mH/\(0:Int)<=m/\Int.toNat m<k,?_,a3 av,cf av,h1,aa⟩
           simp only[a7,a1,b1,aK,hlen,dc]
         . exact .neutral aN (.c (.t _)) λav ay=>absurd ay ai
       . cases aj
     . cases aj
   . cases h
 . cases h
theorem at7{sz bytes:Nat}{z:List C}{x:ba}(h:c' gl gd env J N (.mslice sz bytes z x)=some (c,v,J')):fD N J J1 (.mslice sz bytes z x) env1 (dv env G gd) c v J':=by
 simp only[c']at h;split at h
 . rename_i k m dW ar bq;split at h
   . cases h
   . rename_i ts hK;split at h
     . rename_i gA;split at h
       . rename_i yZ b8;cases h;have b8:=dN b8;subst b8;obtain⟨pp,v1,a1,a2,a3⟩:=cP he az ar;have:=a2.hM;subst this;have nQ:=wq (N:=N) (J:=J) bq;have k1:ek N J (N+16) (dd J N (.arr gA.ty (List.replicate (Int.toNat m) gA.val))):=pI (by omega);have P5:gA.ty.sz U=1:=by
          generalize gA.ty=t0 at yZ;cases t0<;>first|rfl|cases yZ
         have VB:ts=gA.ty.enc U gA.val:=by
          obtain⟨ty,v0⟩:=gA;cases ty<;>first|(cases hK;rfl)|cases yZ
         have Aw:vS z=false:=by
          cases nQ with|cons z1 z2=>
          cases z1;rfl
         have aF:a7 (.mslice 1 bytes z x) env1 J1 N=some (pp/\(0:Int)<=m/\Int.toNat m*bytes<=kJ/\Int.toNat m<=en/\(vS z=true->Int.toNat m≠0),.c (.arr N 1 0 (Int.toNat m)),ee J1 N (.arr 1 (List.replicate (Int.toNat m) ts))):=by
          simp only[a7,a1,aK,Gx nQ hK,Aw];rfl
         refine .store rfl k1 (.c (.arr N 1 (Int.toNat m) (by omega) ?_)) λav ay=>⟨_,_,aF,⟨a3 av,(A9.1 ay).1,(A9.1 ay).2.1,(A9.1 ay).2.2,λe=>by rw[Aw]at e;cases e⟩,aN.put (by omega) k1 ?_⟩
         . intro x I q aE;rw[kq,af rfl]at I;cases I;simp[ds.ep]at aE;rw[<-aE,P5]
         . have:=ml.arr (N:=N+16) (J:=dd J N (.arr gA.ty (List.replicate (Int.toNat m) gA.val))) gA.ty (List.replicate (Int.toNat m) gA.val);rw[P5,List.map_replicate,<-VB]at this;exact this
       . cases h
     . split at h
       . rename_i b8;have b8:=dN b8;subst b8;cases h;obtain⟨pp,v1,a1,a2,a3⟩:=cP he az ar;have:=a2.hM;subst this;have nQ:=wq (N:=N) (J:=J) bq;have AN:z=[.aT]:=by
          cases nQ with|cons z1 z2=>
          cases z1;cases z2;rfl
         subst AN;have k1:ek N J (N+16) (dd J N (.box (List.replicate (Int.toNat m) .aT))):=pI (by omega);have aF:a7 (.mslice 1 bytes [.aT] x) env1 J1 N=some (pp/\(0:Int)<=m/\Int.toNat m*bytes<=kJ/\Int.toNat m<=en/\(vS [.aT]=true->Int.toNat m≠0),.c (.arr N 1 0 (Int.toNat m)),ee J1 N (.box (List.replicate (Int.toNat m) .aT))):=by
          simp only[a7,a1,aK];rfl
         refine .store rfl k1 (.c (.arr N 1 (Int.toNat m) (by omega) ?_)) λav ay=>⟨_,_,aF,⟨a3 av,?_⟩,aN.put (by omega) k1 (.box (bk.replicate .aT _))⟩
         . intro x I q aE;rw[kq,af rfl]at I;cases I;simp[ds.ep]at aE;rw[<-aE]
         . simp only[dM,L0,WR]at ay;obtain⟨pU,wP⟩:=ay;obtain⟨h1,aa,aA⟩:=A9.1 pU;exact⟨h1,aa,aA,λ_=>wP⟩
       . cases h
     . rename_i aET aAa;split at h
       . rename_i b8;have b8:=dN b8;cases h;obtain⟨pp,v1,a1,a2,a3⟩:=cP he az ar;have:=a2.hM;subst this;have nQ:=wq (N:=N) (J:=J) bq;have Aw:vS z=false:=by
          unfold vS;split
          . exact absurd (show dW=[.aT] by simp only[tY,Nk]at bq;cases bq;rfl) aAa
          . rfl
         have k1:ek N J (N+16) (dd J N (.rows sz (List.replicate (Int.toNat m) dW))):=pI (by omega);have aF:a7 (.mslice sz bytes z x) env1 J1 N=some (pp/\(0:Int)<=m/\Int.toNat m*bytes<=kJ/\Int.toNat m<=en/\(vS z=true->Int.toNat m≠0),.c (.arr N sz 0 (Int.toNat m)),ee J1 N (.arr sz (List.replicate (Int.toNat m) ts))):=by
          simp only[a7,a1,aK,Gx nQ hK,Aw];rfl
         refine .store rfl k1 (.c (.arr N sz (Int.toNat m) (by omega) ?_)) λav ay=>⟨_,_,aF,⟨a3 av,(A9.1 ay).1,(A9.1 ay).2.1,(A9.1 ay).2.2,λe=>by rw[Aw]at e;cases e⟩,aN.put (by omega) k1 (.rows (bk.replicate (R:=λr e=>lQ r=some e) hK _) (by intro r ai;rw[L9 ai];exact b8))⟩
         intro x I q aE;rw[kq,af rfl]at I;cases I;simp[ds.ep]at aE;rw[<-aE]
       . cases h
 . cases h
theorem at8{cs:List C}(h:c' gl gd env J N (.allocA cs)=some (c,v,J')):fD N J J1 (.allocA cs) env1 (dv env G gd) c v J':=by
 simp[c']at h;split at h
 . rename_i xs ov;split at h
   . rename_i t l aj;cases h;unfold Tl at aj;split at aj
     . rename_i gA r;split at aj
       . rename_i ng ht hs;cases aj;obtain⟨ts,aR,bw⟩:=alC ht (wq (N:=N) (J:=J) ov) hs;have k:ek N J (N+16) (dd J N (.arr _ ng)):=pI (by simp);refine .store rfl k (.c (.ptr _ _)) λav _=>⟨True,_,by simp[a7,aR];rfl,trivial,aN.put (by simp) k ?_⟩
         have b8:gA.ty.sz U=1:=by
          generalize gA.ty=t0 at ht;cases t0<;>first|rfl|cases ht
         have:=ml.arr (N:=N+16) (J:=dd J N (.arr _ ng)) _ ng
         grind
       grind
     grind
   grind
 grind
theorem awS{k:Nat}{x y:ba}(h:c' gl gd env J N (.idxP k x y)=some (c,v,J')):fD N J J1 (.idxP k x y) env1 (dv env G gd) c v J':=by
 simp[c']at h;split at h
 . rename_i b kk m ar aE;split at h
   . split at h
     . rename_i b8;have b8:=dN b8;cases h;obtain⟨pp,v1,a1,a2,a3⟩:=cP he az ar;obtain⟨mH,v2,b1,b2,cf⟩:=cP he az aE;have:=a2.lg;have:=b2.hM;refine .neutral aN (.c (.dw _ _ _ _)) λav ay=>⟨pp/\mH/\(0:Int)<=m/\Int.toNat m<k,?_,a3 av,cf av,(wD.1 ay).1,(wD.1 ay).2⟩
       grind[a7]
     grind
   grind
 grind
theorem awT{k:Nat}{x:ba}{bE ak:Option ba}(h:c' gl gd env J N (.slcP k x bE ak)=some (c,v,J')):fD N J J1 (.slcP k x bE ak) env1 (dv env G gd) c v J':=by
 simp[c']at h;split at h
 . rename_i b l r ar aj ai;cases h;obtain⟨pp,v1,a1,a2,a3⟩:=cP he az ar;obtain⟨pl,hC,l2⟩:=yh he az aN aj;obtain⟨lM,cc,eC⟩:=yh he az aN ai;have:=a2.lg;subst this;exact .neutral aN (.c (.sub _ _ _)) λav ay=>⟨pp/\pl/\lM/\0<=l.getD 0/\l.getD 0<=r.getD _/\r.getD _<=k,by simp[a7,a1,hC,cc],a3 av,l2 av,eC av,oj.1 ay⟩
 grind
omit he az aN in
theorem auU{b off len:Nat}{es:List (List T)}{s:List UInt8}(h:bf J1 b=some (.arr 1 es))(hs:bytesOf ((es.drop off).take len)=some s):vL J1 (.c (.arr b 1 off len))=some (off+len<=es.length,s):=by grind[vL]
omit he az aN in
theorem auV{b off len:Nat}{es:List (List T)}{s:List UInt8}(h:bf J1 b=some (.arr 1 es))(hs:bytesOf ((es.drop off).take len)=some s):vL J1 (.c (.je b 1 off len))=some (off+len<=es.length,s):=by grind[vL]
omit he az aN in
theorem atF{es:List (List T)}{s:List UInt8}(hs:bytesOf es=some s):vL J1 (.c (.t (.slice es)))=some (True,s):=by grind[vL]
theorem aDS{x:ba}(h:c' gl gd env J N (.b2s x)=some (c,v,J')):fD N J J1 (.b2s x) env1 (dv env G gd) c v J':=by
 simp only[c']at h;split at h
 . rename_i l ar;cases h;obtain⟨pp,v1,a1,a2,a3⟩:=cP he az ar;have:=a2.pj;subst this
   exact .neutral aN (.c (.t (U:=U) _)) λav ay=>⟨pp/\True,by
    simp only[a7,a1,aK]
    exact(eL _ (atF (Lt (U:=U) l))).trans rfl,a3 av,trivial⟩
 . rename_i ar;cases h;obtain⟨pp,v1,a1,a2,a3⟩:=cP he az ar;have:=a2.E3;subst this;exact .neutral aN (.c (.t (U:=U) ⟨.str,_⟩)) λav ay=>⟨pp/\True,by simp only[a7,a1,vL];rfl,a3 av,trivial⟩
 . rename_i b ar;split at h
   . rename_i l ag;cases h;obtain⟨pp,v1,a1,a2,a3⟩:=cP he az ar;obtain⟨dp,n,rfl,j2,av⟩:=a2.kd;have:=av _ ag _ rfl;cases this;obtain⟨_,y,ao,Vp⟩:=aN _ _ ag;cases Vp;refine .neutral aN (.c (.t (U:=U) ⟨.str,_⟩)) λav ay=>⟨pp/\(0+l.length<=(l.map ((aS.int .u8).enc U)).length),?_,a3 av,by simp⟩
     simp only[a7,a1,aK];have e:bytesOf (((l.map ((aS.int .u8).enc U)).drop 0).take l.length)=some (strOf l):=by grind[List.take_of_length_le,Lt]
     exact(eL (Option.map _) (auU ao e)).trans rfl
   grind
 . rename_i b bE len ar;split at h
   . rename_i l ag;cases h;obtain⟨pp,v1,a1,a2,a3⟩:=cP he az ar;have:v1= .c (.je b 1 bE len):=by cases a2 with|c h=>cases h;rfl
     subst this;obtain⟨_,y,ao,Vp⟩:=aN _ _ ag;cases Vp;refine .neutral aN (.c (.t (U:=U) ⟨.str,_⟩)) λav ay=>⟨pp/\(bE+len<=(l.map ((aS.int .u8).enc U)).length),?_,a3 av,by grind[HT]⟩
     simp only[a7,a1,aK];have e:bytesOf (((l.map ((aS.int .u8).enc U)).drop bE).take len)=some (strOf ((l.drop bE).take len)):=by rw[<-List.map_drop,<-List.map_take];exact Lt _
     exact(eL (Option.map _) (auV ao e)).trans rfl
   grind
 grind
theorem at9{e e8:Nat}(h:c' gl gd env J N (.allocS e e8)=some (c,v,J')):fD N J J1 (.allocS e e8) env1 (dv env G gd) c v J':=by
 obtain⟨rfl,rfl,rfl⟩:=h;have hk:ek N J (N+16) (dd (dd J (N+1) (.buf e8 [])) N (.cL e (.df (N+1)))):=by
  refine⟨by simp,λb cH ag I=>?_⟩
  grind[kq]
 refine .store rfl hk (.c (.ptr _ _)) λ_ _=>⟨True,_,rfl,trivial,λb x I=>?_⟩
 rw[kq]at I;rw[dX];by_cases h1:N=b
 . rw[af h1]at I⊢;cases I;refine⟨by omega,_,rfl,.cL (.df _ _ (by simp) λx I p ar=>?_)⟩;rw[kq,kq]at I
   grind[ds.ep]
 . rw[ah h1,kq]at I;rw[ah h1,dX];by_cases aa:N+1=b
   . rw[af aa]at I⊢;cases I;exact⟨by omega,_,rfl,.buf _ _⟩
   . rw[ah aa]at I⊢;obtain⟨k1,y,k2,k3⟩:=aN b x I;exact⟨by omega,y,k2,k3.mono hk⟩
theorem auW(h:c' gl gd env J N .mkset=some (c,v,J')):fD N J J1 .mkset env1 (dv env G gd) c v J':=by
 obtain⟨rfl,rfl,rfl⟩:=h;have k:ek N J (N+16) (dd J N (.set [])):=pI (by simp);exact .store rfl k (.c (.mp _)) λ_ _=>⟨True,_,rfl,trivial,aN.put (by simp) k (.set _)⟩
theorem auX{x y:ba}(h:c' gl gd env J N (.lkset x y)=some (c,v,J')):fD N J J1 (.lkset x y) env1 (dv env G gd) c v J':=by
 simp[c']at h;split at h
 . rename_i b s I ao;split at h
   . rename_i ks jo;cases h;obtain⟨p,v1,a1,a2,a3⟩:=cP he az I;obtain⟨q,v2,b1,b2,cf⟩:=cP he az ao;have:=a2.Qo;subst this;have:=b2.qR;subst this;obtain⟨_,z,d1,d2⟩:=aN b _ jo;cases d2;exact .neutral aN (.c (.t _)) λav _=>⟨p/\q,by simp[a7,a1,b1,d1];rfl,a3 av,cf av⟩
   grind
 grind
theorem auY{x y:ba}(h:c' gl gd env J N (.upset x y)=some (c,v,J')):fD N J J1 (.upset x y) env1 (dv env G gd) c v J':=by
 simp[c']at h;split at h
 . rename_i b s I ao;split at h
   . rename_i ks jo;cases h;obtain⟨p,v1,a1,a2,a3⟩:=cP he az I;obtain⟨q,v2,b1,b2,cf⟩:=cP he az ao;have:=a2.Qo;subst this;have:=b2.qR;subst this;obtain⟨j2,z,d1,d2⟩:=aN b _ jo;cases d2;have gK:ek N J (N+16) (dd J b (.set (n2 ks s))):=uO (by omega) jo (λp h=>by simp[ds.ep]at h)
     exact .store rfl gK (.bn [] [] rfl (by simp)) λav _=>⟨p/\q,_,by simp[a7,a1,b1,d1],⟨a3 av,cf av⟩,aN.put (by omega) gK (.set _)⟩
   . cases h
 grind
theorem atG{e bytes:Nat}{x y:ba}(h:c' gl gd env J N (.appendB e bytes x y)=some (c,v,J')):fD N J J1 (.appendB e bytes x y) env1 (dv env G gd) c v J':=by
 simp[c']at h;split at h
 . rename_i b s I ao;split at h
   . rename_i c7 l ag;split at h
     . rename_i sw;have:=dN sw;subst this;cases h;obtain⟨p,v1,a1,a2,a3⟩:=cP he az I;obtain⟨q,v2,b1,b2,cf⟩:=cP he az ao;obtain⟨n,rfl,j2,iB⟩:=a2.IZ;have:=iB _ ag _ rfl;cases this;have:=b2.qR;subst this;obtain⟨_,z,d1,d2⟩:=aN b _ ag;cases d2;have k1:ek N J N (dl J b):=A3
       have k2:ek N _ (N+16) (dd (dl J b) N (.buf c7 (E4 l s))):=pI (by simp);have qC:da N (dl J b) (lh J1 b):=by
        intro bI x I;rw[vc]at I;split at I
        . grind
        . rename_i b4;obtain⟨h1,y,aa,aA⟩:=aN bI x I;exact⟨h1,y,by rw[ib];grind,aA.mono k1⟩
       refine .store rfl (k1.trans k2) (.c (.df N (List.length l+List.length s) (by simp) λx I p ar=>?_)) λav ay=>⟨p/\q/\c7=c7/\List.length l=List.length l/\pK _ _/\List.length l+List.length s<=en,_,?_,⟨a3 av,cf av,rfl,rfl,(Mk ay).1,(Mk ay).2⟩,qC.put (by simp) k2 (.buf _ _)⟩
       . rw[kq,af rfl]at I;cases I;simp[ds.ep]at ar;exact ar.symm.trans (eL _ alA)
       . simp only[a7,a1,b1,aK,d1];rfl
     grind
   grind
 grind
theorem auZ{x:ba}(h:c' gl gd env J N (.sdata x)=some (c,v,J')):fD N J J1 (.sdata x) env1 (dv env G gd) c v J':=by
 simp[c']at h;split at h
 . rename_i b I;cases h;obtain⟨p,v1,a1,a2,a3⟩:=cP he az I;obtain⟨n,rfl,_,_⟩:=a2.IZ;exact .neutral aN (.c (.gw _)) λav _=>⟨p,by simp[a7,a1],a3 av⟩
 grind
theorem awU{e:Nat}{x y:ba}(h:c' gl gd env J N (.ustr e x y)=some (c,v,J')):fD N J J1 (.ustr e x y) env1 (dv env G gd) c v J':=by
 simp[c']at h;split at h
 . rename_i b m I ao;split at h
   . rename_i c7 l ag;split at h
     . rename_i sw;have:=dN sw;subst this;cases h;obtain⟨p,v1,a1,a2,a3⟩:=cP he az I;obtain⟨q,v2,b1,b2,cf⟩:=cP he az ao;have:=a2.ajN;subst this;have:=b2.hM;subst this;obtain⟨_,z,d1,d2⟩:=aN b _ ag;cases d2;have k1:ek N J N (dl J b):=A3;have qC:da N (dl J b) (lh J1 b):=by
        intro bI x I;rw[vc]at I;split at I
        . grind
        . obtain⟨h1,y,aa,aA⟩:=aN bI x I;exact⟨h1,y,by simp_all[ib],aA.mono k1⟩
       refine .store rfl (k1.trans (ek.more (by simp))) (.c (.t _)) λav ay=>⟨p/\q/\c7=c7/\m=(List.length l:Int),_,?_,⟨a3 av,cf av,rfl,auP.1 ay⟩,qC.mono (by simp)⟩
       simp only[a7,a1,b1,aK,d1];rfl
     grind
   grind
 grind
theorem atH{e sz len:Nat}{z:List C}{parts:List (Nat×ba)}(h:c' gl gd env J N (.bsliceT e sz len z parts)=some (c,v,J')):fD N J J1 (.bsliceT e sz len z parts) env1 (dv env G gd) c v J':=by
 simp[c']at h;split at h
 . grind
 . split at h
   . rename_i dW bq;split at h
     . grind
     . rename_i ts hK;split at h
       . grind
       . rename_i b8;have b8:=dN b8;split at h
         . rename_i rows ai;split at h
           . rename_i l aj;cases h;have nQ:=wq (N:=N) (J:=J) bq;obtain⟨p,es,a1,a2,a4,a3⟩:=Yo he az ai (bk.replicate (R:=λr e=>lQ r=some e) hK _) (by grind);have bw:=GP aj a2;refine .neutral aN (.c (.t _)) λav _=>⟨p,?_,a3 av⟩
             simp[a7,Gx nQ hK,aK,a1];rw[<-bw];rfl
           grind
         grind
   grind
theorem amE{o:dG}(h:c' gl gd env J N o=some (c,v,J')):fD N J J1 o env1 (dv env G gd) c v J':=by
 cases o with
 |mov x=>exact aDZ he az aN h
 |pick c x y=>exact avx he az aN h
 |alloc cs=>exact auS he az aN h
 |box x=>exact aDU he az aN h
 |allocA cs=>exact at8 he az aN h
 |idxP k x i=>exact awS he az aN h
 |idxV k x i=>exact awR he az aN h
 |mslice sz b z x=>exact at7 he az aN h
 |slcP k x bE ak=>exact awT he az aN h
 |b2s x=>exact aDS he az aN h
 |allocS e e8=>exact at9 he az aN h
 |bsliceT e sz len z parts=>exact atH he az aN h
 |mkset=>exact auW he az aN h
 |lkset x k=>exact auX he az aN h
 |upset x k=>exact auY he az aN h
 |appendB e b x y=>exact atG he az aN h
 |sdata x=>exact auZ he az aN h
 |ustr e x k=>exact awU he az aN h
 |build z parts=>exact auR he az aN h
 |bslice sz len z parts=>exact at3 he az aN h
 |load agg n x=>exact awI he az aN h
 |store n x v=>exact auT he az aN h
 |nilCheck x=>exact asN he az aN h
 |bin op x y=>exact aDT he az aN h
 |eqAgg neg ks x y=>exact auQ he az aN h
 |eqBool neg x y=>exact at2 he az aN h
 |eqNil neg x=>simp[c']at h
 |not x=>exact aD0 he az aN h
 |conv k x=>grind[avy]
 |i2s x=>grind[aDX]
 |s2s x=>grind[aD1]
 |fldA off x=>grind[avz]
 |fld agg off n x=>grind[aDW]
 |idxA sz x i=>grind[awJ]
 |idxS x i=>grind[awK]
 |slcS x bE ak=>grind[awL]
 |slc sz x bE ak=>grind[aD2]
 |slc0 x=>grind[awM]
 |mkfn f caps=>grind[awN]
 |ext x i=>grind[aDV]
 |len str x=>grind[aDY]
 |append sz bytes x y=>grind[at6]
 |max2 x y=>grind[awO]
 |min2 x y=>grind[awP]
 |call f args=>simp[c']at h
 |mV x args=>simp[c']at h
end
end
end
section
open Go
variable {U:dC}
def bH.c2(b0:Nat)(c:Cell U.D):bH U->bH U
 |.arr b=>match Nat.beq b b0 with
  |true=>.t c
  |false=>.arr b
 |.dw b ty i o=>match Nat.beq b b0 with
  |true=>.dead
  |false=>.dw b ty i o
 |.pre b h=>match Nat.beq b b0 with
  |true=>.dead
  |false=>.pre b h
 |.fx b bE len=>match Nat.beq b b0 with
  |true=>.dead
  |false=>.fx b bE len
 |x=>x
def b9.c2(b0:Nat)(c:Cell U.D):b9 U->b9 U
 |.c x=>.c (x.c2 b0 c)
 |.agg cs=>.agg (cs.map (bH.c2 b0 c))
 |.bn vs=>.bn (go b0 c vs)
where go (b0:Nat) (c:Cell U.D):List (b9 U)->List (b9 U)
 |[]=>[]
 |v::vs=>v.c2 b0 c::go b0 c vs
def ds.c2(b0:Nat)(c:Cell U.D):ds U->ds U
 |.box cs=>.box (cs.map (bH.c2 b0 c))
 |.cL E x=>.cL E (x.c2 b0 c)
 |.dr t l i o x=>.dr t l i o (x.c2 b0 c)
 |x=>x
def B3(b0:Nat)(c:Cell U.D):cj U->cj U
 |[]=>[]
 |(k,v)::r=>(k,v.c2 b0 c)::B3 b0 c r
def vx(b0:Nat)(c:Cell U.D):bA U->bA U
 |[]=>[]
 |(k,x)::r=>match Nat.beq k b0 with
  |true=>vx b0 c r
  |false=>(k,x.c2 b0 c)::vx b0 c r
def Ih(b:Nat)(t:aS)(env:cj U)(J:bA U):Option (cj U×bA U):=
 match bh J b with
 |some (.arr hF l)=>match Cell.as (.slice t) (⟨.slice hF,l⟩:Cell U.D)with
  |some l=>some (B3 b ⟨.slice t,l⟩ env,vx b ⟨.slice t,l⟩ J)
  |none=>none
 |some (.rows _ r)=>match tX U t r with
  |some l=>some (B3 b ⟨.slice t,l⟩ env,vx b ⟨.slice t,l⟩ J)
  |none=>none
 |_=>some (env,J)
def qW:List (Nat×aS)->cj U->bA U->Option (cj U×bA U)
 |[],env,J=>some (env,J)
 |(b,t)::r,env,J=>match Ih b t env J with
  |some (env',J')=>qW r env' J'
  |none=>none
section
variable {kk N:Nat}{J J':bA U}{J1:br}{env env':cj U}{env1:Env}{G:Nat->Bool}{gl:gy}
theorem SA{b0:Nat}{c:Cell U.D}:∀{env:cj U} {k:Nat},bh (B3 b0 c env) k=(bh env k).map (b9.c2 b0 c)
 |[],k=>rfl
 |(i,v)::r,k=>by
  simp[B3,bh];cases Nat.beq i k with
  |true=>rfl
  |false=>exact SA
theorem DR{b0:Nat}{c:Cell U.D}:∀{J:bA U} {k:Nat},bh (vx b0 c J) k=if k=b0 then none else(bh J k).map (ds.c2 b0 c)
 |[],k=>by simp[vx,bh]
 |(i,x)::r,k=>by
  simp[vx];cases h:Nat.beq i b0 with
  |true=>
   simp[DR,bh]
   grind[dN]
  |false=>
   simp[bh,DR]
   grind
theorem ds.PB{b0:Nat}{c:Cell U.D}{x:ds U}:(x.c2 b0 c).ep=x.ep:=by cases x<;>simp[ds.c2,ds.ep]
theorem cR.c2{b0 sz:Nat}{c:Cell U.D}{es:List (List T)}{aw:ds U}(h0:bh J b0=some aw)(av:aw.ep=some (sz,es.length))(ay:c.enc U= .slice es){x:bH U}{d:C}(h:cR N J x d):
 cR N (vx b0 c J) (x.c2 b0 c) (d.c2 b0 sz es):=by
 cases h with
 |t c=>exact .t c
 |ptr b o=>exact .ptr b o
 |dw b t i o=>
  simp only[bH.c2,C.c2];cases h:Nat.beq b b0 with
  |true=>exact .dead _
  |false=>rw[ah (mr h)];exact .dw b t i o
 |ft t x o=>exact .ft t x o
 |arr b dp n ag h=>
  simp only[bH.c2,C.c2];cases pS:Nat.beq b b0 with
  |true=>
   have:=dN pS;subst this;have:=h aw h0 _ av;cases this;rw[af rfl,af ⟨rfl,by simp⟩];have:cut es 0 es.length=es:=by simp[cut]
   rw[this,<-ay];exact .t c
  |false=>
   rw[ah (mr pS)];refine .arr b dp n ag λy ao p ar=>?_
   rw[DR]at ao
   grind[bV,ds.PB]
 |sub b bE len=>exact .sub b bE len
 |pre b dp n ag h=>
  simp only[bH.c2];cases pS:Nat.beq b b0 with
  |true=>exact .dead _
  |false=>
   simp only[C.c2];rw[ah (mr pS)];refine .pre b dp n ag λy ao p ar=>?_
   rw[DR,ah (mr pS)]at ao
   grind[bV,ds.PB]
 |fx b dp bE len ag h=>
  simp only[bH.c2];cases pS:Nat.beq b b0 with
  |true=>exact .dead _
  |false=>
   refine .fx b dp bE len ag λy ao p ar=>?_
   rw[DR,ah (mr pS)]at ao
   grind[bV,ds.PB]
 |mp b=>exact .mp b
 |gw b=>exact .gw b
 |df b n ag h=>
  refine .df b n ag λy ao p ar=>?_
  grind[DR,bV,ds.PB]
 |aT=>exact .aT
 |hE=>exact .hE
 |hD=>exact .hD
 |fn f caps=>exact .fn f caps
 |dead d=>exact .dead _
theorem alD{b0:Nat}{c:Cell U.D}:∀{vs:List (b9 U)} {i:Nat},(b9.c2.go b0 c vs)[i]?=(vs[i]?).map (b9.c2 b0 c)
 |[],i=>by rfl
 |v::vs,0=>by rfl
 |v::vs,i+1=>by simp[b9.c2.go,alD]
theorem alf{b0:Nat}{c:Cell U.D}:∀{vs:List (b9 U)},(b9.c2.go b0 c vs).length=vs.length
 |[]=>rfl
 |v::vs=>by simp[b9.c2.go,alf]
theorem cn.c2{b0 sz:Nat}{c:Cell U.D}{es:List (List T)}{aw:ds U}(h0:bh J b0=some aw)(av:aw.ep=some (sz,es.length))(ay:c.enc U= .slice es){x:b9 U}{d:V}(h:cn N J x d):
 cn N (vx b0 c J) (x.c2 b0 c) (d.c2 b0 sz es):=by
 induction h with
 |c h=>exact .c (h.c2 h0 av ay)
 |agg h=>exact .agg (bk.map_map (h.imp λ_ _ _ ab=>ab.c2 h0 av ay))
 |bn xs bc aj h ih=>
  refine .bn _ _ (by grind[alf,X9]) ?_
  grind[alD,YW]
theorem aep{b0 sz:Nat}{c:Cell U.D}{es:List (List T)}{aw:ds U}(h0:bh J b0=some aw)(av:aw.ep=some (sz,es.length))(ay:c.enc U= .slice es)(hs:bf J1 b0=some (.arr sz es))(he:dT N J G env env1)(aN:da N J J1):
 Conv kk N env1 J1 N (A' b0 sz es env1) (uZ b0 sz es J1)/\dT N (vx b0 c J) G (B3 b0 c env) (A' b0 sz es env1)/\da N (vx b0 c J) (uZ b0 sz es J1):=by
 refine⟨Conv.freeze b0 hs,λk v hk=>?_,λb x I=>?_⟩
 . rw[SA,bV]at hk;obtain⟨v0,h1,rfl⟩:=hk;obtain⟨d,aa,aA⟩:=he k v0 h1;exact⟨_,by grind[Li],aA.c2 h0 av ay⟩
 . rw[DR]at I;split at I
   . grind
   . simp only[bV]at I;obtain⟨cH,h1,rfl⟩:=I;obtain⟨aa,y,aA,aU⟩:=aN b cH h1;refine⟨aa,y.c2 b0 sz es,by simp_all[Sj,ah],?_⟩;cases aU with
     |box aU=>exact .box (bk.map_map (aU.imp λ_ _ _ ab=>ab.c2 h0 av ay))
     |arr t l=>exact .arr t l
     |set ks=>exact .set ks
     |buf E s=>exact .buf E s
     |cL aU=>exact .cL (aU.c2 h0 av ay)
     |dr t l i o aU=>exact .dr t l i o (aU.c2 h0 av ay)
     |rows aU bN=>exact .rows aU bN
theorem kz.c2{b0:Nat}{c:Cell U.D}(h:kz gl env G):kz gl (B3 b0 c env) G:=by
 refine⟨h.free,λk t b hk=>?_⟩;obtain⟨y,h1,aa⟩:=h.held k t b hk;refine⟨y,?_,aa⟩;unfold hT at h1⊢;rw[SA];split at h1
 . rename_i x I;rw[I];exact h1
 grind
theorem au0{α β:Type}{f:α->β}{l:List α}{sz:Nat}:some (sz,l.length)=some (sz,(l.map f).length):=by simp
theorem amF{b:Nat}{t:aS}(h:Ih b t env J=some (env',J'))(he:dT N J G env env1)(aN:da N J J1):
 ∃cT bM,Conv kk N env1 J1 N cT bM/\dT N J' G env' cT/\da N J' bM/\(kz gl env G->kz gl env' G):=by
 unfold Ih at h;split at h
 . rename_i hF fm aj;split at h
   . rename_i l aC;have e:=Cell.qi aC;cases e;cases h;obtain⟨_,y,h1,aa⟩:=aN b _ aj;cases aa;obtain⟨k1,k2,k3⟩:=aep (c:=⟨.slice t,l⟩) aj au0 rfl h1 he aN;exact⟨_,_,k1,k2,k3,λaz=>az.c2⟩
   grind
 . rename_i sz r aj;split at h
   . rename_i l aC;cases h;obtain⟨_,y,h1,aa⟩:=aN b _ aj;cases aa with
     | @rows _ _ es aa aA=>
      have hm:=GP aC aa;obtain⟨k1,k2,k3⟩:=aep (c:=⟨.slice t,l⟩) aj (by simp[ds.ep];rw[aa.length]) (by rw[<-hm];rfl) h1 he aN;exact⟨_,_,k1,k2,k3,λaz=>az.c2⟩
   grind
 grind[Conv.refl]
theorem Gy:∀{l:List (Nat×aS)} {env env':cj U} {J J':bA U} {env1:Env} {J1:br},qW l env J=some (env',J')->dT N J G env env1->da N J J1->
 ∃cT bM,Conv kk N env1 J1 N cT bM/\dT N J' G env' cT/\da N J' bM/\(kz gl env G->kz gl env' G)
 |[],env,env',J,J',env1,J1,h,he,aN=>by grind[qW,Conv.refl]
 |(b,t)::r,env,env',J,J',env1,J1,h,he,aN=>by
  simp[qW]at h;split at h
  . rename_i e s h1;obtain⟨aR,s1,k1,k2,k3,k4⟩:=amF h1 he aN;obtain⟨bw,s2,m1,m2,m3,m4⟩:=Gy h k2 k3;exact⟨bw,s2,k1.trans m1,m2,m3,λaz=>m4 (k4 az)⟩
  grind
theorem Conv.close{b sz i o:Nat}{es:List (List T)}{t:T}(ag:bf J1 b=some (.dr sz es i o (.t t))):
 Conv kk N env1 J1 N env1 (ee J1 b (.arr sz (es.set i ((el es i).take o++[t]++(el es i).drop (o+1))))):=by
 intro aG nt φ S a w nc R;obtain⟨⟨a1,a2,a3,a4,a5,bx⟩,⟨vs,E,k1,k2,k3,I3,k4,k5⟩,k6⟩:=R.b'.blk _ _ ag;have PO:es[i]?=some (el es i):=by unfold el;rw[List.getD,gQ a5];rfl
 have ahI:=a3 _ (hp PO);refine⟨φ,S,R.put (R.eX _ _ ag).1 rfl ⟨by simpa using a1,by simpa using a2,λe he=>?_,a4,λ_=>⟨vs,E,k1,k2,λdk j e hF he ht=>?_,k6⟩⟩ λh0=>⟨λk y ao hk fF=>R.b'.inj k b y _ ao ag hk fF h0,R.own b _ ag h0⟩⟩
 . grind
 . rw[QC]at he;by_cases jH:i=dk
   . subst jH;rw[af rfl,af a5]at he;cases he;have jF:=(wx (vs:=el es i) (off:=o) (xs:=[t]) (by simp;omega) j)
     unfold oo at jF;rw[show o+[t].length=o+1 from rfl]at jF;rw[jF]at ht;by_cases bD:j=o
     . subst bD;rw[ah (by omega),af (by omega),Nat.sub_self]at ht;cases ht;exact⟨I3,k4,k5⟩
     . have VN:(el es i)[j]?=some hF:=by
        by_cases bJ:j<o
        . rwa [af bJ]at ht
        . rwa [ah bJ,ah (by omega)]at ht
       grind
   grind
def SB(b:Nat)(env:cj U)(J:bA U):Option (cj U×bA U):=
 match bh J b with
 |some (.dr t l i o (.t c))=>match Nat.ble (o+1) (t.sz U)with
  |true=>match B4 U t l i o [.t c]with
   |some fm=>some (env,dd J b (.arr t fm))
   |none=>none
  |false=>none
 |_=>none
def aeq(b:Nat)(env:cj U)(J:bA U):Option (cj U×bA U):=
 match bh J b with
 |some (.dr t l i o (.arr b2))=>match (t.row U (t.at U l i))[o]? with
  |some ⟨.slice te,_⟩=>match Ih b2 te env J with
   |some (env',J')=>SB b env' J'
   |none=>none
  |_=>none
 |_=>SB b env J
def acm:bA U->Option Nat
 |[]=>none
 |(b,.dr ..)::_=>some b
 |_::r=>acm r
def aas(env:cj U)(J:bA U):Option (cj U×bA U):=
 match acm J with
 |none=>some (env,J)
 |some b=>aeq b env J
theorem al7{b:Nat}(h:SB b env J=some (env',J'))(he:dT N J G env env1)(aN:da N J J1):
 ∃cT bM,Conv kk N env1 J1 N cT bM/\dT N J' G env' cT/\da N J' bM:=by
 unfold SB at h;split at h
 . rename_i t l i o c aj;split at h
   . split at h
     . rename_i l2 e4;cases h;obtain⟨j2,y,h1,aa⟩:=aN b _ aj;cases aa with
       |dr _ _ _ _ aa=>
        cases aa;have hlen:l2.length=List.length l:=by
         grind[B4]
        have gK:ek N J N (dd J b (.arr t l2)):=uO (gP _) aj (λp h=>by
         grind[ds.ep])
        refine⟨env1,ee _ b _,?_,he.mono gK,aN.put j2 gK (.arr t l2)⟩;by_cases ak:i<List.length l
        . obtain⟨ts,aR,bw⟩:=Y0 (N:=N) (J:=J) e4 ak (.cons (.t c) .nil) (by simp_all);have:ts=[c.enc U]:=by grind[toTs,toT]
          have:=Conv.close (kk:=kk) (N:=N) (env1:=env1) h1
          grind
        . intro aG nt φ S a w nc R;obtain⟨⟨_,_,_,_,a5,_⟩,_⟩:=R.b'.blk _ _ h1
          grind
     grind
   grind
 grind
theorem aqJ(h:aas env J=some (env',J'))(he:dT N J G env env1)(aN:da N J J1):
 ∃cT bM,Conv kk N env1 J1 N cT bM/\dT N J' G env' cT/\da N J' bM:=by
 unfold aas at h;split at h
 . grind[Conv.refl]
 . unfold aeq at h;split at h
   . split at h
     . split at h
       . rename_i e s h1;obtain⟨aR,s1,k1,k2,k3,_⟩:=amF (gl:=[]) h1 he aN;obtain⟨bw,s2,m1,m2,m3⟩:=al7 h k2 k3;exact⟨bw,s2,k1.trans m1,m2,m3⟩
       grind
     grind
   . exact al7 h he aN
theorem Conv.own{k:Nat}{g:Bool}{sz:Nat}(hk:look env1 k=some (g,.c .aT))(b8:0<sz)(ct:kk<=N):Conv kk N env1 J1 (N+1) ((k,g,.c (.arr N sz 0 0))::env1) (ee J1 N (.arr sz [])):=by
 intro aG nt φ S a w nc R;have cS:=R.WM b8 (by omega);have dh:ga φ N (0,0) N=(0,0):=by simp[ga]
 refine⟨ga φ N _,S,⟨cS.b',λi mZ v aj az=>?_,λi mZ v aj az=>?_,λi mZ v aj az=>?_,cS.eX,cS.size,cS.defers,cS.ext,cS.own,cS.fix,cS.j4⟩⟩
 . simp[look]at aj;split at aj
   . rename_i e;cases aj;subst e;obtain⟨x,I,ai⟩:=cS.jE _ _ _ hk az;refine⟨x,I,?_⟩;cases ai with
     |c ai=>
      obtain⟨a,rfl⟩:=ai;refine .c ⟨a,by grind,λh=>absurd (by grind) h,by simp⟩
   . exact cS.jE i mZ v aj az
 . simp[look]at aj;split at aj
   . rename_i e;cases aj;subst e;exact cS.kQ _ _ _ hk az
   . exact cS.kQ i mZ v aj az
 . simp only[look]at aj;split at aj
   . grind[V.aP,C.aP,lt]
   . exact cS.jD i mZ v aj az
theorem Conv.aCf{b j:Nat}{sz:Nat}{cs:List C}(ag:bf J1 b=some (.box cs))(aM:cs[j]?=some .aT)(j2:b<N)(b8:0<sz)(ct:kk<=N):
 Conv kk N env1 J1 (N+1) env1 (ee (ee J1 N (.arr sz [])) b (.box (cs.set j (.arr N sz 0 0)))):=by
 intro aG nt φ S a w nc R;have cS:=R.WM b8 (by omega);have dh:ga φ N (0,0) N=(0,0):=by simp[ga]
 have kU:bf (ee J1 N (.arr sz [])) b=some (.box cs):=by rw[dX];grind
 have eU:∀c x,bf (ee (ee J1 N (.arr sz [])) b (.box (cs.set j (.arr N sz 0 0)))) c=some x->(c=b/\x= .box (cs.set j (.arr N sz 0 0)))\/bf (ee J1 N (.arr sz [])) c=some x:=by
  grind[dX]
 have VH:∀c x,bf (ee (ee J1 N (.arr sz [])) b (.box (cs.set j (.arr N sz 0 0)))) c=some x->∃y,bf (ee J1 N (.arr sz [])) c=some y:=by grind
 refine⟨ga φ N _,S,⟨⟨λc x I=>?_,λc eE x y I ao b4=>?_,cS.b'.st⟩,cS.jE,cS.kQ,cS.jD,λc x I=>?_,cS.size,cS.defers,cS.ext,λc x I=>?_,cS.fix,cS.j4⟩⟩
 . rcases eU c x I with⟨rfl,rfl⟩|h
   . obtain⟨h0,vs,E,h1,aa,aA⟩:=cS.b'.blk _ _ kU;refine⟨h0,vs,E,h1,?_,aA⟩;obtain⟨v,aF,ai⟩:=aa.get aM;obtain⟨a,rfl⟩:=ai;have:=bk.set (i:=j) aa (a:= .arr N sz 0 0) (b:= .slice a 0 0) ⟨a,by grind,λh=>absurd (by grind) h,by simp⟩;have aAE:vs.set j (.slice a 0 0)=vs:=by
      apply Hz
      grind
     grind
   . exact cS.b'.blk c x h
 . obtain⟨cH,hB⟩:=VH c x I;obtain⟨mM,l'⟩:=VH eE y ao;exact cS.b'.inj c eE cH mM hB l' b4
 . rcases eU c x I with⟨rfl,rfl⟩|h
   . have:=(cS.eX _ _ kU).2
     grind[ck.aP,List.mem_or_eq_of_mem_set,C.aP,lt]
   . exact cS.eX c x h
 . obtain⟨cH,hB⟩:=VH c x I;exact cS.own c cH hB
theorem Conv.trim{q b j:Nat}{sz h:Nat}{cs:List C}{es:List (List T)}(aE:bf J1 q=some (.box cs))(aM:cs[j]?=some (.arr b sz 0 h))(ag:bf J1 b=some (.arr sz es))(ab:h<=es.length)(aio:q<N):
 Conv kk N env1 J1 (N+1) env1 (ee (ee (lh J1 b) N (.arr sz (es.take h))) q (.box (cs.set j (.arr N sz 0 h)))):=by
 intro aG nt φ S a w nc R;have j2:b<N:=by have:=(R.eX _ _ ag).1;grind[lt]
 have fQ:∀c,lt N c=true->ga φ N (φ b) c=φ c:=by
  intro c ay;simp only[lt,ij]at ay
  grind[ga]
 have hm:∀c,lt N c=true->lt (N+1) c=true:=λc ay=>Sz (by omega) ay
 have cS:=R.Ee fQ;have dh:ga φ N (φ b) N=φ b:=by simp[ga]
 have ahC:=fQ b (by grind[lt]);have eU:∀c x,bf (ee (ee (lh J1 b) N (.arr sz (es.take h))) q (.box (cs.set j (.arr N sz 0 h)))) c=some x->(c=q/\x= .box (cs.set j (.arr N sz 0 h)))\/(c≠q/\c=N/\x= .arr sz (es.take h))\/(c≠q/\c≠N/\c≠b/\bf J1 c=some x):=by
  grind[dX,ib]
 have hold:∀c x,bf (ee (ee (lh J1 b) N (.arr sz (es.take h))) q (.box (cs.set j (.arr N sz 0 h)))) c=some x->∃eE y,bf J1 eE=some y/\ga φ N (φ b) c=ga φ N (φ b) eE/\(eE=if c=N then b else c):=by grind
 refine⟨ga φ N (φ b),S,⟨⟨λc x I=>?_,λc eE x y I ao b4=>?_,cS.b'.st⟩,cS.jE,cS.kQ,λk g v aj az=>V.lB hm (cS.jD k g v aj az),λc x I=>?_,cS.size,cS.defers,cS.ext,λc x I h0=>?_,cS.fix,λc ay=>by have:=cS.j4 c ay;exact hm c this⟩⟩
 . rcases eU c x I with⟨rfl,rfl⟩|⟨_,rfl,rfl⟩|⟨_,_,_,aU⟩
   . obtain⟨h0,vs,E,h1,aa,aA⟩:=cS.b'.blk _ _ aE;refine⟨h0,vs,E,h1,?_,aA⟩;obtain⟨v,aF,ai⟩:=aa.get aM;have y2:bP (ga φ N (φ b)) w S (.arr N sz 0 h) v:=by
      obtain⟨a,aR,bw,e7⟩:=ai;rw[ahC]at aR bw e7;exact⟨a,by rw[dh];exact aR,by rw[dh];exact bw,by rw[dh];exact e7⟩
     have:=bk.set (i:=j) aa y2;have aAE:vs.set j v=vs:=by
      apply Hz
      grind
     grind
   . obtain⟨h0,h1,aa,aA,aU⟩:=cS.b'.blk _ _ ag;rw[ahC]at h0 aU;refine⟨by rw[dh,BD];omega,by rw[BD];omega,λe he=>aa e (Hv he),aA,λay=>?_⟩
     grind
   . exact cS.b'.blk c x aU
 . obtain⟨d,cH,hB,aR,bw⟩:=hold c x I;obtain⟨fj,mM,l',e7,mX⟩:=hold eE y ao;have cC:d≠fj:=by grind
   intro h0 fF;rw[aR]at h0⊢;rw[e7]at fF⊢;exact cS.b'.inj d fj cH mM hB l' cC h0 fF
 . rcases eU c x I with⟨rfl,rfl⟩|⟨_,rfl,rfl⟩|⟨_,_,_,aU⟩
   . have:=(cS.eX _ _ aE).2
     grind[ck.aP,List.all_eq_true,List.mem_or_eq_of_mem_set,C.lB,C.aP,lt]
   . exact⟨by simp[lt],rfl⟩
   . exact⟨hm c (cS.eX c x aU).1,ck.lB hm (cS.eX c x aU).2⟩
 . obtain⟨d,cH,hB,aR,_⟩:=hold c x I;rw[aR]at h0⊢;exact cS.own d cH hB h0
def GQ:Nat->List (bH U)->Option (Nat×Nat×Nat)
 |_,[]=>none
 |j,.pre b h::_=>some (j,b,h)
 |j,_::r=>GQ (j+1) r
def A4(J:bA U):bA U->Option (Nat×List (bH U)×Nat×Nat×Nat)
 |[]=>none
 |(q,.box cs)::r=>match bh J q with
  |some (.box kP)=>match GQ 0 kP with
   |some p=>some (q,kP,p)
   |none=>A4 J r
  |_=>A4 J r
 |_::r=>A4 J r
theorem alE:∀{cs:List (bH U)} {j i b h:Nat},GQ j cs=some (i,b,h)->j<=i/\cs[i-j]?=some (.pre b h)
 |[],j,i,b,h,aJ=>by grind[GQ]
 |c::r,j,i,b,h,aJ=>by
  have next:GQ (j+1) r=some (i,b,h)->j<=i/\(c::r)[i-j]?=some (.pre b h):=by
   intro aJ;obtain⟨h1,aa⟩:=alE aJ
   grind
  cases c with
  |pre bI bg=>grind[GQ,Option.some.injEq]
  |_=>exact next aJ
theorem R3{q:Nat}{cs:List (bH U)}{i b h:Nat}:∀{l:bA U},A4 J l=some (q,cs,i,b,h)->bh J q=some (.box cs)/\cs[i]?=some (.pre b h)
 |[],aJ=>by simp[A4]at aJ
 |(k,x)::r,aJ=>by
  cases x with
  |box gA=>
   simp[A4]at aJ;split at aJ
   . rename_i kP hk;split at aJ
     . rename_i p ar;obtain⟨rfl,rfl,rfl⟩:=aJ;exact⟨hk,by simpa using(alE ar).2⟩
     . exact R3 aJ
   . exact R3 aJ
  |_=>exact R3 (by simpa[A4]using aJ)
def TP{R:Type}(J:bA U)(N:Nat)(k:bA U->Nat->Option R):Option R:=
 match A4 J J with
 |none=>k J N
 |some (q,cs,j,b,h)=>match bh J b with
  |some (.arr t l)=>if decide (h<=l.length)=true then k (dd (dd (dl J b) N (.arr t (l.take h))) q (.box (cs.set j (.arr N)))) (N+1)else none
  |_=>none
theorem amG {q j b h0:Nat}{cs:List (bH U)}{x:bH U}{t:aS}{l:List (t.den U.D)}(aE:bh J q=some (.box cs))(aM:cs[j]?=some x)(ag:bh J b=some (.arr t l))(I:∀d,cR N J x d->d= .arr b (t.sz U) 0 h0)(hle:h0<=l.length)
 (he:dT N J G env env1)(aN:da N J J1):
 ∃bM,Conv kk N env1 J1 (N+1) env1 bM/\dT (N+1) (dd (dd (dl J b) N (.arr t (l.take h0))) q (.box (cs.set j (.arr N)))) G env env1/\da (N+1) (dd (dd (dl J b) N (.arr t (l.take h0))) q (.box (cs.set j (.arr N)))) bM:=by
 obtain⟨aio,aFO,V',P4⟩:=aN q _ aE;obtain⟨j2,TQ,kU,jn⟩:=aN b _ ag;cases jn;cases P4 with
 | @box _ bc P4=>
  obtain⟨d,av,ai⟩:=P4.get aM;have:=I d ai;subst this;have aAt:q≠b:=by grind
  have k1:ek N J N (dl J b):=A3;have k2:ek N (dl J b) (N+1) (dd (dl J b) N (.arr t (l.take h0))):=pI (by simp);have qI:bh (dd (dl J b) N (.arr t (l.take h0))) q=some (.box cs):=by rw[kq,ah (by omega),vc,ah (λe=>aAt e.symm)];grind
  have k3:ek (N+1) (dd (dl J b) N (.arr t (l.take h0))) (N+1) (dd (dd (dl J b) N (.arr t (l.take h0))) q (.box (cs.set j (.arr N)))):=uO (gP _) qI (λp h=>by grind[ds.ep]);have aiU:=(k1.trans k2).trans k3;have Vh:da N (dl J b) (lh J1 b):=by
   intro c x I;rw[vc]at I;split at I
   . grind
   . obtain⟨g1,y,g2,g3⟩:=aN c x I;exact⟨g1,y,by simp_all[ib,ah],g3.mono k1⟩
  refine⟨_,Conv.trim V' av kU (by grind) aio,he.mono aiU,?_⟩;rw[<-List.map_take];refine(Vh.put (by simp) k2 (.arr t (l.take h0))).put (by omega) k3 (.box ?_);refine bk.set (P4.imp λ_ _ _ g=>g.mono aiU) (.arr N _ _ (by simp) λx I p ar=>?_);rw[kq,kq,af rfl]at I
  grind[ds.ep,Option.some.injEq,List.length_take,Nat.min_eq_left]
theorem alF{R:Type}{k:bA U->Nat->Option R}{r:R}(h:TP J N k=some r)(he:dT N J (λ_=>true) env env1)(aN:da N J J1):
 ∃J' N' bM,k J' N'=some r/\Conv kk N env1 J1 N' env1 bM/\dT N' J' (λ_=>true) env env1/\da N' J' bM/\N<=N':=by
 unfold TP at h;split at h
 . exact⟨J,N,J1,h,Conv.refl,he,aN,gP _⟩
 . rename_i q cs j b h0 aJ;obtain⟨aE,aM⟩:=R3 aJ;split at h
   . rename_i t l ag;split at h
     . obtain⟨s1,m1,m2,m3⟩:=amG (kk:=kk) (h0:=h0) aE aM ag (λd ai=>by
        cases ai with
        |pre _ sz _ _ bq=>
         have bq:=bq _ ag _ rfl
         grind) (by grind) he aN
       grind
     grind
   grind
def DS(kk:Nat):Nat->List (bH U)->Option (Nat×Nat)
 |_,[]=>none
 |j,.arr b::r=>match Nat.ble (b+1) kk with
  |true=>some (j,b)
  |false=>DS kk (j+1) r
 |j,_::r=>DS kk (j+1) r
def A5(kk:Nat)(J:bA U):bA U->Option (Nat×List (bH U)×Nat×Nat)
 |[]=>none
 |(q,.box _)::r=>match bh J q with
  |some (.box cs)=>match DS kk 0 cs with
   |some p=>some (q,cs,p)
   |none=>A5 kk J r
  |_=>A5 kk J r
 |_::r=>A5 kk J r
theorem amQ{kk:Nat}:∀{cs:List (bH U)} {j i b:Nat},DS kk j cs=some (i,b)->j<=i/\cs[i-j]?=some (.arr b)
 |[],j,i,b,aJ=>by grind[DS]
 |c::r,j,i,b,aJ=>by
  have next:DS kk (j+1) r=some (i,b)->j<=i/\(c::r)[i-j]?=some (.arr b):=by
   intro aJ;obtain⟨h1,aa⟩:=amQ aJ
   grind
  cases c with
  |arr bI=>
   grind[DS]
  |_=>exact next aJ
theorem R4{kk q:Nat}{cs:List (bH U)}{i b:Nat}:∀{l:bA U},A5 kk J l=some (q,cs,i,b)->bh J q=some (.box cs)/\cs[i]?=some (.arr b)
 |[],aJ=>by grind[A5]
 |(k,x)::r,aJ=>by
  cases x with
  |box gA=>
   simp only[A5]at aJ;split at aJ
   . rename_i kP hk;split at aJ
     . rename_i p ar;obtain⟨rfl,rfl,rfl⟩:=aJ;exact⟨hk,by simpa using(amQ ar).2⟩
     . exact R4 aJ
   . exact R4 aJ
  |_=>exact R4 (by simpa[A5]using aJ)
def TJ{R:Type}(kk:Nat)(J:bA U)(k:bA U->Nat->Option R):Option R:=
 match A5 kk J J with
 |none=>k J kk
 |some (q,cs,j,b)=>match bh J b with
  |some (.arr t l)=>k (dd (dd (dl J b) kk (.arr t l)) q (.box (cs.set j (.arr kk)))) (kk+1)
  |_=>k J kk
theorem arP{R:Type}{k:bA U->Nat->Option R}{r:R}(h:TJ kk J k=some r)(he:dT kk J (λ_=>true) env env1)(aN:da kk J J1):
 ∃J' N' bM,k J' N'=some r/\Conv kk kk env1 J1 N' env1 bM/\dT N' J' (λ_=>true) env env1/\da N' J' bM/\kk<=N':=by
 unfold TJ at h;split at h
 . exact⟨J,kk,J1,h,Conv.refl,he,aN,gP _⟩
 . rename_i q cs j b aJ;obtain⟨aE,aM⟩:=R4 aJ;split at h
   . rename_i t l ag
     obtain⟨s1,m1,m2,m3⟩:=amG (kk:=kk) aE aM ag (λd ai=>by
      cases ai with
      |arr _ sz n _ bq=>
       have bq:=bq _ ag _ rfl
       grind) (gP _) he aN
     grind
   . exact⟨J,kk,J1,h,Conv.refl,he,aN,gP _⟩
inductive Pos where
 |slot (k:Nat)
 |cell (b j:Nat)
 |via (k j:Nat)
def Nn(b j:Nat)(t:aS)(env:cj U)(J:bA U)(N:Nat):Option (cj U×bA U):=
 match bh J b with
 |some (.box cs)=>match cs[j]? with
  |some .aT=>some (env,dd (dd J N (.arr t [])) b (.box (cs.set j (.arr N))))
  |_=>some (env,J)
 |_=>none
def aa3(p:Pos)(t:aS)(env:cj U)(J:bA U)(N:Nat):Option (cj U×bA U):=
 match p with
 |.slot k=>match bh env k with
  |some (.c .aT)=>some ((k,.c (.arr N))::env,dd J N (.arr t []))
  |_=>some (env,J)
 |.cell b j=>Nn b j t env J N
 |.via k j=>match bh env k with
  |some (.c (.ptr b _))=>Nn b j t env J N
  |_=>none
def TK:List (Pos×aS)->cj U->bA U->Nat->Option (cj U×bA U×Nat)
 |[],env,J,N=>some (env,J,N)
 |(p,t)::r,env,J,N=>match aa3 p t env J N with
  |some (env',J')=>TK r env' J' (N+1)
  |none=>none
theorem abu{t:aS}(he:dT N J (λ_=>true) env env1)(aN:da N J J1)(ct:kk<=N):∃cT bM,Conv kk N env1 J1 (N+1) cT bM/\dT (N+1) J (λ_=>true) env cT/\da (N+1) J bM:=by
 refine⟨env1,ee _ N (.arr 1 []),λaG nt φ S a w hk R=>⟨_,S,R.WM (by simp) (by omega)⟩,he.mono (ek.more (by simp)),λb x I=>?_⟩;obtain⟨h1,y,aa,aA⟩:=aN b x I;exact⟨by omega,y,by grind[dX],aA.mono (ek.more (by simp))⟩
theorem Zm{b j:Nat}{t:aS}(h:Nn b j t env J N=some (env',J'))(he:dT N J (λ_=>true) env env1)(aN:da N J J1)(ct:kk<=N):
 ∃cT bM,Conv kk N env1 J1 (N+1) cT bM/\dT (N+1) J' (λ_=>true) env' cT/\da (N+1) J' bM:=by
 have same:=abu (t:=t) he aN ct;unfold Nn at h;split at h
 . rename_i cs eJ;split at h
   . rename_i aM;cases h;obtain⟨j2,y,h1,aa⟩:=aN b _ eJ;cases aa with
     | @box _ bc aa=>
      obtain⟨d,av,ai⟩:=aa.get aM;cases ai;have gK:ek N J (N+1) (dd J N (.arr t [])):=pI (by simp);have azp:bh (dd J N (.arr t [])) b=some (.box cs):=by rw[kq];grind
      have Wx:ek (N+1) _ (N+1) (dd _ b (.box (cs.set j (.arr N)))):=uO (gP _) azp (λp h=>by grind[ds.ep]);refine⟨_,_,Conv.aCf h1 av j2 (aS.BR (t:=t) (U:=U)) ct,(he.mono gK).mono Wx,(aN.put (by simp) gK (.arr t [])).put (by omega) Wx (.box ?_)⟩;refine bk.set (aa.imp λ_ _ _ h=>(h.mono gK).mono Wx) (.arr N _ _ (by simp) λx I p ar=>?_)
      rw[kq,kq]at I
      grind[ds.ep]
   grind
 grind
theorem arQ{p:Pos}{t:aS}(h:aa3 p t env J N=some (env',J'))(he:dT N J (λ_=>true) env env1)(aN:da N J J1)(ct:kk<=N):
 ∃cT bM,Conv kk N env1 J1 (N+1) cT bM/\dT (N+1) J' (λ_=>true) env' cT/\da (N+1) J' bM:=by
 have same:=abu (t:=t) he aN ct;unfold aa3 at h;split at h
 . rename_i k;split at h
   . rename_i hk;cases h;obtain⟨v1,h1,aa⟩:=he k _ hk;have:=aa.E3;subst this;have gK:ek N J (N+1) (dd J N (.arr t [])):=pI (by simp);refine⟨_,_,Conv.own h1 (aS.BR (t:=t) (U:=U)) ct,λi v ak=>?_,aN.put (by simp) gK (.arr t [])⟩;simp only[bh]at ak;simp only[look];split at ak
     . rename_i ag;cases ak;rw[af (dN ag)];refine⟨_,rfl,.c (.arr N _ _ (by simp) λx I p ar=>?_)⟩;rw[kq,af rfl]at I;grind[ds.ep]
     . rename_i ag;rw[ah (mr ag)];exact(he.mono gK) i v ak
   grind
 . grind[Zm]
 grind[Zm]
def aat:List (bH U)->List Bool->Bool
 |[],[]=>true
 |.t _::cs,false::bs=>aat cs bs
 |.aT::cs,true::bs=>aat cs bs
 |_,_=>false
def ahg(cs:List (bH U)):List (List Bool×Nat×aS)->Option (Nat×aS)
 |[]=>none
 |(bs,p)::r=>match aat cs bs with
  |true=>some p
  |false=>ahg cs r
def aaJ(l:List (List Bool×Nat×aS)):bA U->Option (Nat×Nat×aS)
 |[]=>none
 |(q,.box cs)::r=>match ahg cs l with
  |some p=>some (q,p)
  |none=>aaJ l r
 |_::r=>aaJ l r
def TM{R:Type}(env:cj U)(J:bA U)(N:Nat)(k:cj U->bA U->Nat->Option R):Option R:=
 match aaJ U.own J with
 |none=>TP J N λJ N=>k env J N
 |some (q,j,t)=>match Nn q j t env J N with
  |some (env,J)=>TP J (N+1) λJ N=>k env J N
  |none=>none
theorem amR{R:Type}{k:cj U->bA U->Nat->Option R}{r:R}(h:TM env J N k=some r)(he:dT N J (λ_=>true) env env1)(aN:da N J J1)(ct:kk<=N):
 ∃env' J' N' cT bM,k env' J' N'=some r/\Conv kk N env1 J1 N' cT bM/\dT N' J' (λ_=>true) env' cT/\da N' J' bM/\N<=N':=by
 unfold TM at h;split at h
 . obtain⟨s2,qZ,HN,g1,g2,g3,g4,g5⟩:=alF h he aN;exact⟨_,_,_,_,_,g1,g2,g3,g4,g5⟩
 . split at h
   . rename_i e s aO;obtain⟨aR,s1,bD,bJ,c1⟩:=Zm aO he aN ct;obtain⟨s2,qZ,HN,g1,g2,g3,g4,g5⟩:=alF h bJ c1;exact⟨_,_,_,_,_,g1,bD.trans g2,g3,g4,by omega⟩
   grind
theorem amH:∀{l:List (Pos×aS)} {env env':cj U} {J J':bA U} {N N':Nat} {env1:Env} {J1:br},TK l env J N=some (env',J',N')->dT N J (λ_=>true) env env1->da N J J1->kk<=N->
 ∃cT bM,Conv kk N env1 J1 N' cT bM/\dT N' J' (λ_=>true) env' cT/\da N' J' bM/\N<=N'
 |[],env,env',J,J',N,N',env1,J1,h,he,aN,ct=>by obtain⟨rfl,rfl,rfl⟩:=h;exact⟨env1,J1,Conv.refl,he,aN,gP _⟩
 |(p,t)::r,env,env',J,J',N,N',env1,J1,h,he,aN,ct=>by
  simp[TK]at h;split at h
  . rename_i e s h1;obtain⟨aR,s1,k1,k2,k3⟩:=arQ h1 he aN ct;obtain⟨bw,s2,m1,m2,m3,m4⟩:=amH h k2 k3 (by omega);exact⟨bw,s2,k1.trans m1,m2,m3,by omega⟩
  grind
end
end
section
open Go
variable {U:dC}
inductive pA where
 |hole (ty:aS)
 |ptr (b o:Nat)
 |dw (b:Nat)(ty:aS)(o:Nat)
 |ft (ty:aS)(o:Nat)
 |arr (b:Nat)
 |mp (b:Nat)
 |df (b:Nat)
 |aT
 |hE
 |hD
 |fn (f:Nat)(caps:List Nat)
 |dead
inductive gS where
 |c (s:pA)
 |agg (l:List pA)
 |row (n:Nat)
 |bn (l:List gS)
inductive iw where
 |box (l:List pA)
 |arr (ty:aS)
 |bz (n:Nat)
 |gone
 |set
 |buf (E:Nat)
 |cL (E:Nat)(s:pA)
structure Shape where
 env:List (Nat×gS)
 st:List iw
abbrev gE(U:dC):=List (Cell U.D)
def Fu:pA->gE U->bH U×gE U
 |.hole _,c::r=>(.t c,r)
 |.hole _,[]=>(.dead,[])
 |.ptr b o,r=>(.ptr b o,r)
 |.dw b ty o,⟨.int _,n⟩::r=>(.dw b ty (Int.toNat n) o,r)
 |.dw _ _ _,r=>(.dead,r)
 |.ft _ o,c::r=>(.ft c.ty c.val o,r)
 |.ft _ _,[]=>(.dead,[])
 |.arr b,r=>(.arr b,r)
 |.mp b,r=>(.mp b,r)
 |.df b,r=>(.df b,r)
 |.aT,r=>(.aT,r)
 |.hE,r=>(.hE,r)
 |.hD,r=>(.hD,r)
 |.fn f caps,r=>(.fn f caps,r)
 |.dead,r=>(.dead,r)
def z6:List pA->gE U->List (bH U)×gE U
 |[],r=>([],r)
 |s::ss,r=>match Fu s r with
  |(x,cc)=>match z6 ss cc with
   |(xs,eC)=>(x::xs,eC)
mutual
def tu:gS->gE U->b9 U×gE U
 |.c s,r=>match Fu s r with
  |(x,cc)=>(.c x,cc)
 |.agg l,r=>match z6 l r with
  |(xs,cc)=>(.agg xs,cc)
 |.row _,c::r=>(.agg ((c.ty.row U c.val).map .t),r)
 |.row _,[]=>(.bn [],[])
 |.bn l,r=>match pP l r with
  |(xs,cc)=>(.bn xs,cc)
def pP:List gS->gE U->List (b9 U)×gE U
 |[],r=>([],r)
 |s::ss,r=>match tu s r with
  |(x,cc)=>match pP ss cc with
   |(xs,eC)=>(x::xs,eC)
end
def Pz:List (Nat×gS)->gE U->cj U×gE U
 |[],r=>([],r)
 |(k,s)::ss,r=>match tu s r with
  |(x,cc)=>match Pz ss cc with
   |(xs,eC)=>((k,x)::xs,eC)
def pO:iw->gE U->Option (ds U)×gE U
 |.box l,r=>match z6 l r with
  |(xs,cc)=>(some (.box xs),cc)
 |.arr _,⟨.slice t,l⟩::r=>(some (.arr t l),r)
 |.arr _,r=>(none,r)
 |.bz _,c::r=>(some (.box ((c.ty.row U c.val).map .t)),r)
 |.bz _,[]=>(none,[])
 |.gone,r=>(none,r)
 |.set,⟨.slice .str,l⟩::r=>(some (.set l),r)
 |.set,r=>(none,r)
 |.buf E,⟨.str,s⟩::r=>(some (.buf E s),r)
 |.buf _,r=>(none,r)
 |.cL E s,r=>match Fu s r with
  |(x,cc)=>(some (.cL E x),cc)
def lD:Nat->List iw->gE U->bA U
 |_,[],_=>[]
 |j,s::ss,r=>match pO s r with
  |(some x,cc)=>(j,x)::lD (j+1) ss cc
  |(none,cc)=>lD (j+1) ss cc
def Aq{α:Type}:List α->Nat->Option α
 |[],_=>none
 |a::_,0=>some a
 |_::l,n+1=>Aq l n
theorem SC{α:Type}:∀{l:List α} {n:Nat},Aq l n=l[n]?
 |[],n=>by rfl
 |a::l,0=>by rfl
 |a::l,n+1=>by simp[Aq,SC]
def Bn(bs:List Nat)(j b:Nat):Bool:=match Aq bs j with
 |some bI=>Nat.beq bI b
 |none=>false
def N1(bs:List Nat):List Nat->List Nat->Bool
 |[],[]=>true
 |j::sE,c::cs=>Bn bs j c&&N1 bs sE cs
 |_,_=>false
def Yy(ty:aS):bH U->Option (Cell U.D)
 |.t c=>match Cell.as ty c with
  |some x=>some ⟨ty,x⟩
  |none=>none
 |.aT=>match ty with
  |.slice t=>some ⟨.slice t,([]:List (t.den U.D))⟩
  |_=>none
 |_=>none
def I0(bs:List Nat):pA->bH U->Option (gE U)
 |.hole ty,x=>match Yy ty x with
  |some c=>some [c]
  |none=>none
 |.ptr j o,.ptr b ed=>match Bn bs j b&&Nat.beq o ed with
  |true=>some []
  |false=>none
 |.dw j ty o,.dw b zv i ed=>match Bn bs j b&&(Nat.beq o ed&&aS.beq ty zv)with
  |true=>some [⟨.int .i64,(i:Int)⟩]
  |false=>none
 |.ft ty o,.ft zv x ed=>match Nat.beq o ed,Cell.as ty (⟨zv,x⟩:Cell U.D)with
  |true,some x=>some [⟨ty,x⟩]
  |_,_=>none
 |.arr j,.arr b=>match Bn bs j b with
  |true=>some []
  |false=>none
 |.mp j,.mp b=>match Bn bs j b with
  |true=>some []
  |false=>none
 |.df j,.df b=>match Bn bs j b with
  |true=>some []
  |false=>none
 |.aT,.aT=>some []
 |.hE,.hE=>some []
 |.hD,.hD=>some []
 |.fn f sE,.fn Js cs=>match Nat.beq f Js&&N1 bs sE cs with
  |true=>some []
  |false=>none
 |.dead,_=>some []
 |_,_=>none
def s9(bs:List Nat):List pA->List (bH U)->Option (gE U)
 |[],[]=>some []
 |s::ss,x::xs=>match I0 bs s x,s9 bs ss xs with
  |some a,some b=>some (a++b)
  |_,_=>none
 |_,_=>none
mutual
def pL(bs:List Nat):gS->b9 U->Option (gE U)
 |.c s,.c x=>I0 bs s x
 |.agg l,.agg xs=>s9 bs l xs
 |.row n,.agg xs=>match xm U (.nm n) xs with
  |some x=>some [⟨.nm n,x⟩]
  |none=>none
 |.bn l,.bn xs=>uz bs l xs
 |_,_=>none
def uz(bs:List Nat):List gS->List (b9 U)->Option (gE U)
 |[],[]=>some []
 |s::ss,x::xs=>match pL bs s x,uz bs ss xs with
  |some a,some b=>some (a++b)
  |_,_=>none
 |_,_=>none
end
def I1(bs:List Nat)(env:cj U):List (Nat×gS)->Option (gE U)
 |[]=>some []
 |(k,s)::ss=>match bh env k with
  |some x=>match pL bs s x,I1 bs env ss with
   |some a,some b=>some (a++b)
   |_,_=>none
  |none=>none
def xP(bs:List Nat):iw->ds U->Option (gE U)
 |.box l,.box xs=>s9 bs l xs
 |.arr ty,.arr t l=>match Cell.as (.slice ty) (⟨.slice t,l⟩:Cell U.D)with
  |some l=>some [⟨.slice ty,l⟩]
  |none=>none
 |.arr ty,.rows sz r=>match Nat.beq (ty.sz U) sz,tX U ty r with
  |true,some l=>some [⟨.slice ty,l⟩]
  |_,_=>none
 |.bz n,.box xs=>match xm U (.nm n) xs with
  |some x=>some [⟨.nm n,x⟩]
  |none=>none
 |.set,.set l=>some [⟨.slice .str,l⟩]
 |.buf E,.buf vC s=>match Nat.beq E vC with
  |true=>some [⟨.str,s⟩]
  |false=>none
 |.cL E s,.cL vC x=>match Nat.beq E vC with
  |true=>I0 bs s x
  |false=>none
 |_,_=>none
def od(bs:List Nat)(J:bA U):Nat->List iw->Option (gE U)
 |_,[]=>some []
 |j,.gone::ss=>od bs J (j+1) ss
 |j,s::ss=>match Aq bs j with
  |some b=>match bh J b with
   |some x=>match xP bs s x,od bs J (j+1) ss with
    |some a,some r=>some (a++r)
    |_,_=>none
   |none=>none
  |none=>none
section
variable {kk N:Nat}{J Jc:bA U}{J1:br}{env:cj U}{env1:Env}{bs:List Nat}
def Can(bs:List Nat)(J Jc:bA U):Prop:=∀j b cH,bs[j]?=some b->bh Jc j=some cH->∃x,bh J b=some x/\∀p,cH.ep=some p->x.ep=some p
theorem uR{bs:List Nat}(cC:bs.Nodup){j b:Nat}(h:bs[j]?=some b):pos bs b=some j:=by
 induction bs generalizing j with
 |nil=>grind
 |cons a bs ih=>
  grind[pos]
theorem GH{j b:Nat}(h:Bn bs j b=true):bs[j]?=some b:=by
 unfold Bn at h;rw[SC]at h;split at h
 all_goals simp_all
theorem amI(cC:bs.Nodup):∀{sE cs:List Nat},N1 bs sE cs=true->yl bs cs=some sE
 |[],[],_=>rfl
 |j::sE,c::cs,h=>by
  simp[N1]at h;simp[yl,uR cC (GH h.1),amI cC h.2]
theorem asO{ty:aS}{x:bH U}{c:Cell U.D}{d:C}(h:Yy ty x=some c)(ai:cR N J x d):fb (d.cu bs) (.t (c.enc U))/\c.ty=ty:=by
 unfold Yy at h;split at h
 . split at h
   . rename_i eE y ao;cases h;rw[Cell.qi ao]at ai;cases ai;exact⟨fb.refl _,rfl⟩
   grind
 . split at h
   . cases h;cases ai;exact⟨fb.aT,rfl⟩
   grind
 grind
theorem Y1(cC:bs.Nodup)(kj:Can bs J Jc){s:pA}{x:bH U}{a:gE U}(h:I0 bs s x=some a):
 ∃y,(∀r,Fu s (a++r)=(y,r))/\∀d,cR N J x d->∃fj,fb (d.cu bs) fj/\cR bs.length Jc y fj:=by
 unfold I0 at h;split at h
 . split at h
   . rename_i c ay;cases h;exact⟨.t c,λr=>rfl,λd av=>⟨_,(asO ay av).1,.t c⟩⟩
   grind
 . rename_i j o b ed;split at h
   . rename_i ag;simp only[dM]at ag;have:=dN ag.2;subst this;cases h;refine⟨.ptr j o,λr=>rfl,λd av=>⟨.ptr j o,?_,.ptr j o⟩⟩;cases av;simp only[C.cu,uR cC (GH ag.1)];exact fb.refl _
   grind
 . rename_i j ty o b zv i ed;split at h
   . rename_i ag;simp only[dM]at ag;have:=dN ag.2.1;subst this;have:=aS.beq_eq ag.2.2;subst this;cases h;refine⟨.dw j ty i o,λr=>rfl,λd av=>⟨.dw j (ty.sz U) i o,?_,.dw j ty i o⟩⟩;cases av;simp only[C.cu,uR cC (GH ag.1)];exact fb.refl _
   grind
 . rename_i ty o zv x ed;split at h
   . rename_i y aO ao;have:=dN aO;subst this;cases h;have e:=Cell.qi ao;cases e;refine⟨.ft ty y o,λr=>rfl,λd av=>⟨d,?_,?_⟩⟩
     . cases av;exact fb.refl _
     . cases av;exact .ft ty y o
   grind
 . rename_i j b;split at h
   . rename_i ag;cases h;refine⟨.arr j,λr=>rfl,λd av=>?_⟩;cases av with
     |arr _ sz n j2 ab=>
      have aM:=GH ag;refine⟨.arr j sz 0 n,?_,.arr j sz n (fv.1 aM).1 λx I p ar=>?_⟩
      . simp only[C.cu,uR cC aM];exact fb.refl _
      . obtain⟨aw,h1,aa⟩:=kj j b x aM I
        grind
   grind
 . rename_i j b;split at h
   . rename_i ag;cases h;refine⟨.mp j,λr=>rfl,λd av=>?_⟩;cases av;refine⟨.mp j,?_,.mp j⟩;simp only[C.cu,uR cC (GH ag)];exact fb.refl _
   grind
 . rename_i j b;split at h
   . rename_i ag;cases h;refine⟨.df j,λr=>rfl,λd av=>?_⟩;cases av with
     |df _ n j2 ab=>
      have aM:=GH ag;refine⟨.df j n,?_,.df j n (fv.1 aM).1 λx I p ar=>?_⟩
      . simp only[C.cu,uR cC aM];exact fb.refl _
      . obtain⟨aw,h1,aa⟩:=kj j b x aM I
        grind
   grind
 . cases h;exact⟨.aT,λr=>rfl,λd av=>by cases av;exact⟨.aT,fb.refl _,.aT⟩⟩
 . cases h;exact⟨.hE,λr=>rfl,λd av=>by cases av;exact⟨.hE,fb.refl _,.hE⟩⟩
 . cases h;exact⟨.hD,λr=>rfl,λd av=>by cases av;exact⟨.hD,fb.refl _,.hD⟩⟩
 . rename_i f sE Js cs;split at h
   . rename_i ag;simp only[dM]at ag;have:=dN ag.1;subst this;cases h;refine⟨.fn f sE,λr=>rfl,λd av=>⟨.fn f sE,?_,.fn f sE⟩⟩;cases av;simp only[C.cu,amI cC ag.2];exact fb.refl _
   grind
 . cases h;exact⟨.dead,λr=>rfl,λd av=>⟨.dead,fb.dead _,.dead _⟩⟩
 . cases h
theorem Zn(cC:bs.Nodup)(kj:Can bs J Jc):∀{ss:List pA} {xs:List (bH U)} {a:gE U},s9 bs ss xs=some a->
 ∃bG,(∀r,z6 ss (a++r)=(bG,r))/\∀bc,bk (cR N J) xs bc->∃gj,bk fb (bc.map (C.cu bs)) gj/\bk (cR bs.length Jc) bG gj
 |[],[],a,h=>by simp[s9]at h;subst h;exact⟨[],λr=>rfl,λbc av=>by cases av;exact⟨[],.nil,.nil⟩⟩
 |s::ss,x::xs,a,h=>by
  simp[s9]at h;split at h
  . rename_i a1 a2 h1 aa;cases h;obtain⟨y,f1,g1⟩:=Y1 cC kj h1;obtain⟨bG,f2,g2⟩:=Zn cC kj aa;refine⟨y::bG,λr=>by simp[z6,f1,f2],λbc av=>?_⟩;cases av with
    |cons FG ahE=>
     obtain⟨fj,aR,bw⟩:=g1 _ FG;obtain⟨gj,e7,mX⟩:=g2 _ ahE;exact⟨fj::gj,.cons aR e7,.cons bw mX⟩
  grind
 |[],_::_,a,h=>by simp[s9]at h
 |_::_,[],a,h=>by grind[s9]
theorem abv{n:Nat}{xs:List (bH U)}{x:(aS.nm n).den U.D}(h:xm U (.nm n) xs=some x):∀bc,bk (cR N J) xs bc->∃gj,bk fb (bc.map (C.cu bs)) gj/\bk (cR bs.length Jc) (((aS.nm n).row U x).map .t) gj:=by
 intro bc av;refine⟨((aS.nm n).enc U x).map .t,?_,K9⟩;unfold xm at h;split at h
 . rename_i row k0;rw[aS.Fq,aS.WJ h];clear h;generalize (aS.nm n).cells U=eM at k0
   induction xs generalizing eM row bc with
   |nil=>
    cases av;cases eM<;>simp[lY]at k0
    subst k0;exact .nil
   |cons y bG ih=>
    cases av with
    | @cons _ d _ bc h1 aa=>
     cases eM with
     |nil=>grind[lY]
     |cons ty eM=>
      cases h1 with
      |t c=>cases ty<;>simp[lY]at k0<;>(split at k0<;>first|(cases k0;done)|(rename_i q aE;cases k0;exact .cons (fb.refl _) (ih _ aa _ _ aE)))
      |aT=>
       cases ty<;>simp[lY]at k0
       split at k0
       . rename_i q aE;cases k0;exact .cons fb.aT (ih _ aa _ _ aE)
       grind
      |_=>grind[lY]
 grind
mutual
theorem Us(cC:bs.Nodup)(kj:Can bs J Jc):∀{s:gS} {x:b9 U} {a:gE U},pL bs s x=some a->
 ∃y,(∀r,tu s (a++r)=(y,r))/\∀d,cn N J x d->∃fj,kc (d.cu bs) fj/\cn bs.length Jc y fj
 |.c s,.c x,a,h=>by
  simp only[pL]at h;obtain⟨y,f,g⟩:=Y1 (N:=N) cC kj h;refine⟨.c y,λr=>by simp only[tu,f],λd av=>?_⟩;cases av with
  |c av=>obtain⟨fj,aR,bw⟩:=g _ av;exact⟨.c fj,.c aR,.c bw⟩
 |.agg l,.agg xs,a,h=>by
  simp only[pL]at h;obtain⟨y,f,g⟩:=Zn (N:=N) cC kj h;refine⟨.agg y,λr=>by simp only[tu,f],λd av=>?_⟩;cases av with
  |agg av=>obtain⟨fj,aR,bw⟩:=g _ av;exact⟨.agg fj,.agg aR,.agg bw⟩
 |.row n,.agg xs,a,h=>by
  simp only[pL]at h;split at h
  . rename_i x I;cases h;refine⟨.agg (((aS.nm n).row U x).map .t),λr=>rfl,λd av=>?_⟩;cases av with
    |agg av=>obtain⟨fj,aR,bw⟩:=abv I _ av;exact⟨.agg fj,.agg aR,.agg bw⟩
  . cases h
 |.bn l,.bn xs,a,h=>by
  simp only[pL]at h;obtain⟨bG,f,aj,g⟩:=E6 cC kj h;refine⟨.bn bG,λr=>by simp only[tu,f],λd av=>?_⟩;cases av with
  |bn _ bc e4 av=>
   obtain⟨gj,aR,bw,e7⟩:=g bc e4 av;refine⟨.bn gj,.bn _ _ (by rw[Rc];exact aR.symm) ?_,.bn _ _ (by omega) λi x d I iB=>(e7 i x d I iB)⟩;intro i x y I ao;rw[RI,bV]at I
   grind
 |.c _,.agg _,a,h=>by simp[pL]at h
 |.c _,.bn _,a,h=>by simp[pL]at h
 |.agg _,.c _,a,h=>by simp[pL]at h
 |.agg _,.bn _,a,h=>by simp[pL]at h
 |.row _,.c _,a,h=>by simp[pL]at h
 |.row _,.bn _,a,h=>by simp[pL]at h
 |.bn _,.c _,a,h=>by simp[pL]at h
 |.bn _,.agg _,a,h=>by simp[pL]at h
theorem E6(cC:bs.Nodup)(kj:Can bs J Jc):∀{ss:List gS} {xs:List (b9 U)} {a:gE U},uz bs ss xs=some a->
 ∃bG:List (b9 U),(∀r,pP ss (a++r)=(bG,r))/\bG.length=xs.length/\∀bc:List V,xs.length=bc.length->(∀(i:Nat) x d,xs[i]?=some x->bc[i]?=some d->cn N J x d)->
  ∃gj:List V,gj.length=bc.length/\(∀(i:Nat) (d fj:V),bc[i]?=some d->gj[i]?=some fj->kc (d.cu bs) fj)/\(∀(i:Nat) y fj,bG[i]?=some y->gj[i]?=some fj->cn bs.length Jc y fj)
 |[],[],a,h=>by simp[uz]at h;subst h;exact⟨[],λr=>rfl,rfl,λbc aj av=>⟨[],by simpa using aj,by simp,by simp⟩⟩
 |s::ss,x::xs,a,h=>by
  simp only[uz]at h;split at h
  . rename_i a1 a2 h1 aa;cases h;obtain⟨y,f1,g1⟩:=Us cC kj h1;obtain⟨bG,f2,aj,g2⟩:=E6 cC kj aa;refine⟨y::bG,λr=>by simp only[pP,rI,f1,f2],by simp[aj],λbc hlen av=>?_⟩;cases bc with
    |nil=>simp at hlen
    |cons d bc=>
     obtain⟨fj,aR,bw⟩:=g1 d (av 0 x d rfl rfl);obtain⟨gj,e7,mX,nF⟩:=g2 bc (by simpa using hlen) λi x d I iB=>av (i+1) x d (by simpa using I) (by simpa using iB)
     refine⟨fj::gj,by simp[e7],λi=>?_,λi=>?_⟩
     . grind
     grind
  . cases h
 |[],_::_,a,h=>by simp[uz]at h
 |_::_,[],a,h=>by simp[uz]at h
end
theorem Yp:∀{ks:List Nat} {k:Nat} {g:Bool} {v:V},k∈ks->look env1 k=some (g,v)->look (wC bs env1 ks) k=some (g,v.cu bs)
 |x::ks,k,g,v,hm,aj=>by
  simp[wC];by_cases h:x=k
  . grind[look]
  . have sA:k∈ks:=by grind
    split
    . simp[look,ah h];exact Yp sA aj
    . exact Yp sA aj
theorem amJ(cC:bs.Nodup)(kj:Can bs J Jc)(he:dT N J (λ_=>true) env env1):∀{ss:List (Nat×gS)} {a:gE U},I1 bs env ss=some a->
 ∃Fs,(∀r,Pz ss (a++r)=(Fs,r))/\∃cT:Env,dT bs.length Jc (λ_=>true) Fs cT/\∀k g iI,look cT k=some (g,iI)->k∈ss.map Prod.fst/\∃v,look env1 k=some (g,v)/\kc (v.cu bs) iI
 |[],a,h=>by simp[I1]at h;subst h;exact⟨[],λr=>rfl,[],λk v hk=>by grind[bh],λk g v h=>by grind[look]⟩
 |(k,s)::ss,a,h=>by
  simp[I1]at h;split at h
  . rename_i x I;split at h
    . rename_i a1 a2 h1 aa;cases h;obtain⟨y,f1,g1⟩:=Us cC kj h1;obtain⟨Fs,f2,cT,aR,bw⟩:=amJ cC kj he aa;obtain⟨d,k1,k2⟩:=he k x I;obtain⟨fj,m1,m2⟩:=g1 d k2;refine⟨(k,y)::Fs,λr=>by simp[Pz,f1,f2],(k,true,fj)::cT,λi v ak=>?_,λi g v ak=>?_⟩
      . simp[bh]at ak;simp[look];split at ak
        . simp_all
        . rename_i ag;rw[ah (mr ag)];exact aR i v ak
      . simp[look]at ak
        grind
    . cases h
  grind
theorem Y2(cC:bs.Nodup)(kj:Can bs J Jc){s:iw}{x:ds U}{a:gE U}(h:xP bs s x=some a):
 ∃y,(∀r,pO s (a++r)=(some y,r))/\(∀d,ml N J x d->∃fj,qX (d.cu bs) fj/\ml bs.length Jc y fj):=by
 unfold xP at h;split at h
 . obtain⟨bG,f,g⟩:=Zn cC kj h;refine⟨.box bG,λr=>by grind[pO],λd av=>?_⟩;cases av with
   |box av=>obtain⟨gj,aR,bw⟩:=g _ av;exact⟨.box _,.box aR,.box bw⟩
 . rename_i ty t ng;split at h
   . rename_i l aj;cases h;have e:=Cell.qi aj;cases e;refine⟨.arr ty l,λr=>rfl,λd av=>?_⟩;cases av;exact⟨_,.arr,.arr ty l⟩
   grind
 . rename_i ty sz r;split at h
   . rename_i l b8 aj;cases h;have:=dN b8;subst this;refine⟨.arr ty l,λr=>rfl,λd av=>?_⟩;cases av with
     |rows h1 aa=>
      refine⟨_,.arr,?_⟩;rw[<-GP aj h1];exact .arr ty l
   grind
 . split at h
   . rename_i x I;cases h;refine⟨.box _,λr=>rfl,λd av=>?_⟩;cases av with
     |box av=>obtain⟨gj,aR,bw⟩:=abv I _ av;exact⟨.box gj,.box aR,.box bw⟩
   grind
 . cases h;refine⟨.set _,λr=>rfl,λd av=>?_⟩;cases av;exact⟨_,.same,.set _⟩
 . split at h
   . rename_i fe;have:=dN fe;subst this;cases h;refine⟨.buf _ _,λr=>rfl,λd av=>?_⟩;cases av;exact⟨_,.same,.buf _ _⟩
   grind
 . split at h
   . rename_i fe;have:=dN fe;subst this;obtain⟨y,f,g⟩:=Y1 cC kj h;refine⟨.cL _ y,λr=>by simp[pO,f];rfl,λd av=>?_⟩;cases av with
     |cL av=>obtain⟨fj,aR,bw⟩:=g _ av;exact⟨.cL _ fj,.cL aR,.cL bw⟩
   grind
 grind
theorem amS{t:aS}:∀{r:List (List (bH U))} {l:List (t.den U.D)},tX U t r=some l->l.length=r.length
 |[],l,h=>by grind[tX]
 |r::rs,l,h=>by
  simp[tX]at h;split at h
  . rename_i x xs I ov;cases h;simp[amS ov]
  grind
theorem alI:∀{l:List pA} {r:gE U},(z6 l r).1.length=l.length
 |[],r=>rfl
 |s::ss,r=>by
  simp only[z6,lf];rw[alI]
theorem alJ:∀{l:List pA} {xs:List (bH U)} {a:gE U},s9 bs l xs=some a->l.length=xs.length
 |[],[],a,h=>rfl
 |[],_::_,a,h=>by simp[s9]at h
 |_::_,[],a,h=>by simp[s9]at h
 |s::ss,x::xs,a,h=>by
  simp only[s9]at h;split at h
  . rename_i h1 aa;simp[alJ aa]
  . cases h
theorem aqg:∀{ts:List aS} {cs:List (bH U)} {l:List (Cell U.D)},lY ts cs=some l->cs.length=ts.length:=by
 intro ts cs
 induction cs generalizing ts with
 |nil=>intro l h;unfold lY at h;split at h<;>simp_all
 |cons c cs ih=>
  intro l h;unfold lY at h;split at h
  . cases ‹_::_=[]›
  . rename_i e;cases e;split at h
    . rename_i h1;simp[ih h1]
    . cases h
  . rename_i e;cases e;split at h
    . rename_i h1;simp[ih h1]
    . cases h
  . cases h
theorem at'{s:iw}{x y:ds U}{a r:gE U}(h:xP bs s x=some a)(aJ:pO s (a++r)=(some y,r)):∀p,y.ep=some p->x.ep=some p:=by
 unfold xP at h;split at h
 . intro p ar;have:=alJ h;rename_i ng aFN;have e:y= .box (z6 ng (a++r)).1:=by
    simp only[pO]at aJ;exact(w3 (eL Prod.fst aJ)).symm
   subst e;simp only[ds.ep,alI]at ar⊢;rw[<-ar,this]
 . split at h
   . rename_i l aj;have e:=Cell.qi aj;simp only[pO,Ed,ox,D7]at aJ
     grind
   grind
 . split at h
   . rename_i l b8 aj;have:=dN b8;subst this;simp only[pO,Ed,ox,D7]at aJ
     grind[ds.ep,amS]
   grind
 . split at h
   . rename_i x I;cases h;intro p ar;simp only[pO,Ed,ox,fu,fa,D7]at aJ;subst aJ;simp only[ds.ep,p3,aS.Xw]at ar⊢;unfold xm at I;split at I
     . rename_i l aj;rw[<-ar,aqg aj];rfl
     . cases I
   grind
 . simp only[pO,Ed,ox,fu,fa,D7]at aJ
   grind
 . split at h
   . rename_i fe;have:=dN fe;simp only[pO,Ed,ox,fu,fa,D7]at aJ
     grind
   grind
 . grind[pO,ds.ep]
 grind
theorem yr(cC:bs.Nodup):∀{ss:List iw} {j:Nat} {a:gE U},od bs J j ss=some a->
 (∀i cH,bh (lD j ss a) i=some cH->j<=i/\i<j+ss.length/\∃b x,bs[i]?=some b/\bh J b=some x/\∃s uk,xP bs s x=some uk/\∀r,pO s (uk++r)=(some cH,r))
 |[],j,a,h=>by grind[lD,bh]
 |.gone::ss,j,a,h=>by
  intro i cH ak;simp only[od]at h;obtain⟨h1,aa,aA⟩:=yr cC h i cH ak
  grind
 |.box l::ss,j,a,h=>E5 cC (λ{j a}=>yr cC) (by simpa only[od]using h)
 |.arr l::ss,j,a,h=>E5 cC (λ{j a}=>yr cC (a:=a)) (by simpa only[od]using h)
 |.bz l::ss,j,a,h=>E5 cC (λ{j a}=>yr cC (ss:=ss) (j:=j) (a:=a)) (by simpa only[od]using h)
 |.set::ss,j,a,h=>E5 cC (λ{j a}=>yr cC (ss:=ss) (j:=j) (a:=a)) (by simpa only[od]using h)
 |.buf E::ss,j,a,h=>E5 cC (λ{j a}=>yr cC (ss:=ss) (j:=j) (a:=a)) (by simpa only[od]using h)
 |.cL E l::ss,j,a,h=>E5 cC (λ{j a}=>yr cC (ss:=ss) (j:=j) (a:=a)) (by grind[od])
where
 E5 (cC:bs.Nodup) {s:iw} {ss:List iw} (ih:∀{j:Nat} {a:gE U},od bs J j ss=some a->
  (∀i cH,bh (lD j ss a) i=some cH->j<=i/\i<j+ss.length/\∃b x,bs[i]?=some b/\bh J b=some x/\∃s uk,xP bs s x=some uk/\∀r,pO s (uk++r)=(some cH,r))) {j:Nat} {a:gE U} (h:(match Aq bs j with
  |some b=>match bh J b with
   |some x=>match xP bs s x,od bs J (j+1) ss with
    |some a,some r=>some (a++r)
    |_,_=>none
   |none=>none
  |none=>none)=some a):(∀i cH,bh (lD j (s::ss) a) i=some cH->j<=i/\i<j+(s::ss).length/\∃b x,bs[i]?=some b/\bh J b=some x/\∃s uk,xP bs s x=some uk/\∀r,pO s (uk++r)=(some cH,r)):=by
  intro i cH ak;split at h
  . rename_i b ag;rw[SC]at ag;split at h
    . split at h
      . rename_i a1 a2 h1 aa;cases h;obtain⟨y,f,_⟩:=Y2 (N:=0) (J:=J) (Jc:=[]) cC (λ_ _ _ _ h=>by simp[bh]at h) h1;simp only[lD,f,bh]at ak
        grind[dN]
      . cases h
    . cases h
  . cases h
def iA(U:dC)(sh:Shape)(a:gE U):cj U×bA U:=
 match Pz sh.env a with
 |(e,r)=>(e,lD 0 sh.st r)
def Ur(bs:List Nat)(sh:Shape)(env:cj U)(J:bA U):Option (gE U):=
 match I1 bs env sh.env,od bs J 0 sh.st with
 |some a,some b=>some (a++b)
 |_,_=>none
theorem LF(cC:bs.Nodup){ss:List iw}{b:gE U}(ag:od bs J 0 ss=some b):Can bs J (lD 0 ss b):=by
 intro j c cH aM hB;obtain⟨_,_,bI,x,h1,aa,s,uk,aA,aU⟩:=yr cC ag j cH hB;rw[h1]at aM;cases aM;exact⟨x,aa,at' aA (aU [])⟩
theorem Lu{J1:br}:∀{r:List Nat} {i j c:Nat} {x:ck},r[j]?=some c->bf J1 c=some x->bf (iR bs J1 i r) (i+j)=some (x.cu bs)
 |[],i,j,c,x,h,_=>by grind
 |b::r,i,0,c,x,h,I=>by
  grind[iR,bf]
 |b::r,i,j+1,c,x,h,I=>by
  simp[iR];have:=Lu (i:=i+1) (j:=j) (r:=r) (by grind) I
  grind[bf]
theorem Sl(cC:bs.Nodup)(aN:da N J J1){ss:List iw}{b:gE U}(ag:od bs J 0 ss=some b):
 ∃bM,Ck (iR bs J1 0 bs) bM/\da bs.length (lD 0 ss b) bM:=by
 have kj:=LF cC ag;have I:=yr cC ag;generalize lD 0 ss b=Jc at*
 have key:∀(l:bA U),(∀i cH,bh l i=some cH->bh Jc i=some cH)->∃bM:br,(∀i x,bf bM i=some x->∃y,bf (iR bs J1 0 bs) i=some y/\qX y x)/\(∀i cH,bh l i=some cH->i<bs.length/\∃y,bf bM i=some y/\ml bs.length Jc cH y):=by
  intro l
  induction l with
  |nil=>intro _;exact⟨[],λi x h=>by grind[bf],λi x h=>by grind[bh]⟩
  |cons p l ih=>
   obtain⟨i0,aw⟩:=p;intro aj
   have:=by
    have aux:∀(m:bA U),(∀i cH,i≠i0->bh m i=some cH->bh Jc i=some cH)->∃bM:br,(∀i x,bf bM i=some x->∃y,bf (iR bs J1 0 bs) i=some y/\qX y x)/\(∀i cH,i≠i0->bh m i=some cH->i<bs.length/\∃y,bf bM i=some y/\ml bs.length Jc cH y):=by
     intro m hm;have av:∀i cH,bh (dl m i0) i=some cH->bh Jc i=some cH:=by
      intro i cH h;rw[vc]at h
      grind
     have build:∀n,∃bM:br,(∀i x,bf bM i=some x->∃y,bf (iR bs J1 0 bs) i=some y/\qX y x)/\(∀i cH,i<n->bh (dl m i0) i=some cH->i<bs.length/\∃y,bf bM i=some y/\ml bs.length Jc cH y):=by
      intro n
      induction n with
      |zero=>exact⟨[],λi x h=>by grind[bf],λi x h=>by omega⟩
      |succ n aA6=>
       obtain⟨s,h1,aa⟩:=aA6;cases a':bh (dl m i0) n with
       |none=>exact⟨s,h1,λi cH ak hZ=>aa i cH (by grind) hZ⟩
       |some aa2=>
        obtain⟨_,_,bI,x,g1,g2,XU,uk,g3,g4⟩:=I n aa2 (av n aa2 a');obtain⟨_,y,k1,k2⟩:=aN bI x g2;obtain⟨z,f,q⟩:=Y2 (N:=N) cC kj g3;have:z=aa2:=by simp_all
        subst this;obtain⟨mM,c3,dE⟩:=q y k2;have ht:=Lu (bs:=bs) (i:=0) (j:=n) g1 k1;refine⟨ee s n mM,λi x ak=>?_,λi cH ak hZ=>?_⟩
        . grind[dX]
        . by_cases e:i=n
          . subst e;rw[a']at hZ;cases hZ;exact⟨(fv.1 g1).1,mM,by rw[dX,af rfl],dE⟩
          . obtain⟨cc,z,eC,MD⟩:=aa i cH (by omega) hZ;exact⟨cc,z,by rw[dX,ah (λc7=>e c7.symm)];exact eC,MD⟩
     obtain⟨s,h1,aa⟩:=build bs.length;refine⟨s,h1,λi cH b4 hZ=>?_⟩;have ah5:bh (dl m i0) i=some cH:=by rw[vc,ah (λe=>b4 e.symm)];exact hZ
     grind
    exact aux l λi cH b4 h=>aj i cH (by
     grind[bh,dN])
   obtain⟨s,h1,aa⟩:=this;have jr:bh Jc i0=some aw:=aj i0 aw (by simp[bh,Nat.beq_refl]);obtain⟨_,_,bI,x,g1,g2,XU,uk,g3,g4⟩:=I i0 aw jr;obtain⟨_,y,k1,k2⟩:=aN bI x g2;obtain⟨z,f,q⟩:=Y2 (N:=N) cC kj g3;have:z=aw:=by simp_all
   subst this;obtain⟨mM,c3,dE⟩:=q y k2;have ht:=Lu (bs:=bs) (i:=0) (j:=i0) g1 k1;refine⟨ee s i0 mM,λi x ak=>?_,λi cH hZ=>?_⟩
   . rw[dX]at ak
     grind
   . by_cases e:i=i0
     . subst e;simp[bh,Nat.beq_refl]at hZ;subst hZ;exact⟨(fv.1 g1).1,mM,by rw[dX,af rfl],dE⟩
     . have ah5:bh l i=some cH:=by
        simp only[bh]at hZ;cases ag:Nat.beq i0 i with
        |true=>exact absurd (dN ag).symm e
        |false=>rw[ag]at hZ;exact hZ
       obtain⟨cc,z,eC,MD⟩:=aa i cH e ah5;exact⟨cc,z,by rw[dX,ah (λc7=>e c7.symm)];exact eC,MD⟩
 obtain⟨s,h1,aa⟩:=key Jc λ_ _ h=>h
 exact⟨s,λi x ak=>h1 i x ak,λi cH hZ=>aa i cH hZ⟩
theorem atI(cC:bs.Nodup)(hk:keeps kk bs=true)(he:dT N J (λ_=>true) env env1)(aN:da N J J1){sh:Shape}{a:gE U}(h:Ur bs sh env J=some a):
 ∃cT bM,Conv kk N env1 J1 bs.length cT bM/\dT bs.length (iA U sh a).2 (λ_=>true) (iA U sh a).1 cT/\da bs.length (iA U sh a).2 bM:=by
 unfold Ur at h;split at h
 . rename_i a1 b h1 aa;cases h;obtain⟨Fs,f,cT,aR,bw⟩:=amJ cC (LF cC aa) he h1;obtain⟨bM,s1,s2⟩:=Sl cC aN aa;have aJ:iA U sh (a1++b)=(Fs,lD 0 sh.st b):=by grind[iA]
   rw[aJ];refine⟨cT,bM,(Conv.tidy (sh.env.map Prod.fst) bs cC hk).trans (Conv.weaken (λk g iI aj=>?_) s1),aR,s2⟩
   grind[Yp]
 grind
end
end
section
open Go
variable {U:dC}
def h7(D:Nat->Type):aS->List aS->Type
 |t,[]=>t.den D
 |t,u::r=>t.den D×h7 D u r
def bb(D:Nat->Type):List aS->Type
 |[]=>Unit
 |t::r=>h7 D t r
def h7.cells(D:Nat->Type):(t:aS)->(ts:List aS)->h7 D t ts->List (Cell D)
 |t,[],x=>[⟨t,x⟩]
 |t,u::r,x=>⟨t,x.1⟩::h7.cells D u r x.2
def bb.cells(D:Nat->Type):(ts:List aS)->bb D ts->List (Cell D)
 |[],_=>[]
 |t::r,x=>h7.cells D t r x
def WB{α:Type}:List α->Option α
 |[c]=>some c
 |_=>none
def FG{α:Type}:List α->Option (α×List α)
 |[]=>none
 |c::r=>some (c,r)
def h7.dec(D:Nat->Type):(t:aS)->(ts:List aS)->List (Cell D)->Option (h7 D t ts)
 |t,[],l=>match WB l with
  |some c=>c.as t
  |none=>none
 |t,u::r,l=>match FG l with
  |some p=>match p.1.as t with
   |some x=>match h7.dec D u r p.2 with
    |some y=>some (x,y)
    |none=>none
   |none=>none
  |none=>none
def bb.dec(D:Nat->Type):(ts:List aS)->List (Cell D)->Option (bb D ts)
 |[],l=>match l with
  |[]=>some ()
  |_=>none
 |t::r,l=>h7.dec D t r l
theorem asP{α:Type}{l:List α}{c:α}(h:WB l=some c):l=[c]:=by
 unfold WB at h;grind
theorem aua{α:Type}{l:List α}{c:α×List α}(h:FG l=some c):l=c.1::c.2:=by
 unfold FG at h;grind
theorem h7.uP{D:Nat->Type}:∀{ts:List aS} {t:aS} {a:List (Cell D)} {h:h7 D t ts},h7.dec D t ts a=some h->h7.cells D t ts h=a
 |[],t,a,h,e=>by
  unfold h7.dec at e;split at e
  . rename_i c ay;rw[asP ay,Cell.qi e];rfl
  grind
 |u::r,t,a,h,e=>by
  unfold h7.dec at e;split at e
  . split at e
    . rename_i x I;split at e
      . rename_i y ao;cases e;have:=h7.uP ao;show⟨t,x⟩::h7.cells D u r y=a
        grind[aua,Cell.qi]
      grind
    grind
  grind
theorem bb.uP{D:Nat->Type}:∀{ts:List aS} {a:List (Cell D)} {h:bb D ts},bb.dec D ts a=some h->bb.cells D ts h=a
 |[],[],h,e=>rfl
 |[],_::_,h,e=>by cases (show none=some h from e)
 |t::r,a,h,e=>h7.uP e
def h7.qB(U:dC):(t:aS)->(ts:List aS)->h7 U.D t ts
 |t,[]=>t.qB U
 |t,u::r=>(t.qB U,h7.qB U u r)
def bb.qB(U:dC):(ts:List aS)->bb U.D ts
 |[]=>()
 |t::r=>h7.qB U t r
abbrev kb:=List (Nat×Nat)×List (Nat×aS)
def XV:pA->bH U->kb->kb
 |.ptr j _,.ptr b _,s=>((j,b)::s.1,s.2)
 |.dw j _ _,.dw b _ _ _,s=>((j,b)::s.1,s.2)
 |.arr j,.arr b,s=>((j,b)::s.1,s.2)
 |.mp j,.mp b,s=>((j,b)::s.1,s.2)
 |.df j,.df b,s=>((j,b)::s.1,s.2)
 |.fn _ sE,.fn _ cs,s=>(sE.zip cs++s.1,s.2)
 |.hole (.slice t),.arr b,s=>(s.1,(b,t)::s.2)
 |_,_,s=>s
def XW:List pA->List (bH U)->kb->kb
 |a::as,x::xs,s=>XW as xs (XV a x s)
 |_,_,s=>s
def Tf:List aS->List (bH U)->kb->kb
 |.slice t::ts,.arr b::xs,s=>Tf ts xs (s.1,(b,t)::s.2)
 |_::ts,_::xs,s=>Tf ts xs s
 |_,_,s=>s
mutual
def XY:gS->b9 U->kb->kb
 |.c a,.c x,s=>XV a x s
 |.agg l,.agg xs,s=>XW l xs s
 |.row n,.agg xs,s=>Tf (U.eM n) xs s
 |.bn l,.bn xs,s=>Tg l xs s
 |_,_,s=>s
def Tg:List gS->List (b9 U)->kb->kb
 |a::as,x::xs,s=>Tg as xs (XY a x s)
 |_,_,s=>s
end
def XX(env:cj U):List (Nat×gS)->kb->kb
 |[],s=>s
 |(k,a)::r,s=>match bh env k with
  |some x=>XX env r (XY a x s)
  |none=>XX env r s
def aCM:iw->ds U->kb->kb
 |.box l,.box xs,s=>XW l xs s
 |.bz n,.box xs,s=>Tf (U.eM n) xs s
 |.cL _ a,.cL _ x,s=>XV a x s
 |_,_,s=>s
def HO(J:bA U)(kk:Nat):Nat->List iw->kb->List Nat->List Nat×List (Nat×aS)
 |_,[],s,acc=>(acc.reverse,s.2)
 |j,a::r,s,acc=>
  let b:=match bh s.1 j with
   |some b=>b
   |none=>match Nat.ble (j+1) kk with
    |true=>j
    |false=>1000000+j
  match bh J b with
  |some x=>HO J kk (j+1) r (aCM a x s) (b::acc)
  |none=>HO J kk (j+1) r s (b::acc)
def DY:List Nat->Bool
 |[]=>true
 |a::l=>(l.all λb=>!(Nat.beq a b))&&DY l
theorem Lv:∀{l:List Nat},DY l=true->l.Nodup
 |[],_=>Ho
 |a::l,h=>by
  simp[DY]at h;refine List.nodup_cons.2 ⟨λhm=>?_,Lv h.2⟩;have aA:=h.1 a hm;simp_all
def sS(kk:Nat)(own:List (Pos×aS))(sh:Shape)(ts:List aS)(env:cj U)(J:bA U)(N:Nat):Option (bb U.D ts):=
 match TK own env J N with
 |none=>none
 |some (env,J,_)=>match aas env J with
  |none=>none
  |some (env,J)=>match HO J kk 0 sh.st (XX env sh.env ([],[])) []with
   |(bs,o3)=>match qW o3 env J with
    |none=>none
    |some (env,J)=>match DY bs&&(keeps kk bs&&Nat.beq bs.length sh.st.length)with
     |false=>none
     |true=>match Ur bs sh env J with
      |none=>none
      |some a=>bb.dec U.D ts a
section
variable {kk N:Nat}{J:bA U}{J1:br}{env:cj U}{env1:Env}
theorem G1{own:List (Pos×aS)}{sh:Shape}{ts:List aS}{h:bb U.D ts}(I:sS kk own sh ts env J N=some h)(he:dT N J (λ_=>true) env env1)(aN:da N J J1)(ct:kk<=N):
 ∃cT bM,Conv kk N env1 J1 sh.st.length cT bM/\dT sh.st.length (iA U sh (bb.cells U.D ts h)).2 (λ_=>true) (iA U sh (bb.cells U.D ts h)).1 cT/\da sh.st.length (iA U sh (bb.cells U.D ts h)).2 bM/\kk<=sh.st.length:=by
 unfold sS at I;split at I
 . grind
 . rename_i ayC J2 qZ h1;obtain⟨e0,qQ,gA,pW,ay2,dh⟩:=amH h1 he aN ct;split at I
   . grind
   rename_i aEw aEf Vy;obtain⟨aR,s1,Uq,azw,Vh⟩:=aqJ Vy pW ay2;have bD:=gA.trans Uq;split at I;rename_i bs o3 _;split at I
   . grind
   . rename_i aEx Cc aa;obtain⟨bw,s2,bJ,VB,Jy,_⟩:=Gy (kk:=kk) (gl:=[]) aa azw Vh;split at I
     . grind
     . rename_i ag;simp only[dM]at ag;obtain⟨kU,jn,CH⟩:=ag;have hlen:=dN CH;split at I
       . grind
       . rename_i a aC;obtain⟨e7,p8,c1,azx,ay3⟩:=atI (Lv kU) jn VB Jy aC;rw[bb.uP I,<-hlen];refine⟨e7,p8,bD.trans (bJ.trans c1),azx,ay3,?_⟩
         by_cases nc:kk=0
         . omega
         . have dx:(bs[kk-1]?==some (kk-1))=true:=by
            grind[keeps]
           grind
end
structure cY (U:dC) where
 f:Nat
 hb:List gS
 st:List iw
 ts:List aS
 f':gS
 fq:List iw
 us:List aS
 F:bb U.D ts->Option (bb U.D us)
def cY.args(s:cY U)(h:bb U.D s.ts):List (b9 U):=(pP s.hb (bb.cells U.D s.ts h)).1
def cY.nx(s:cY U)(h:bb U.D s.ts):bA U:=lD 0 s.st (pP s.hb (bb.cells U.D s.ts h)).2
def cY.res(s:cY U)(r:bb U.D s.us):b9 U:=(tu s.f' (bb.cells U.D s.us r)).1
def cY.rest(s:cY U)(r:bb U.D s.us):bA U:=lD 0 s.fq (tu s.f' (bb.cells U.D s.us r)).2
def mm(P:Program)(s:cY U):Prop:=
 ∀h r,s.F h=some r->∀h' J1,bk (cn s.st.length (s.nx h)) (s.args h) h'->da s.st.length (s.nx h) J1->
  gf P s.f h' J1 s.st.length (λcc bM N'=>N'=s.fq.length/\cn N' (s.rest r) (s.res r) cc/\da N' (s.rest r) bM)
def bH.BQ:bH U->Bool
 |.t _|.ft .. |.aT|.hE|.hD=>true
 |.fn _ []=>true
 |_=>false
def ke:b9 U->Bool
 |.c x=>x.BQ
 |.agg cs=>cs.all bH.BQ
 |.bn vs=>go vs
where go:List (b9 U)->Bool
 |[]=>true
 |v::vs=>ke v&&go vs
def bH.xR:bH U->C
 |.t c=>.t (c.enc U)
 |.ft ty x o=>.ft (ty.enc U x) o
 |.aT=>.aT
 |.hE=>.hE
 |.hD=>.hD
 |.fn f caps=>.fn f caps
 |_=>.dead
def iT:b9 U->V
 |.c x=>.c x.xR
 |.agg cs=>.agg (cs.map bH.xR)
 |.bn vs=>.bn (go vs)
where go:List (b9 U)->List V
 |[]=>[]
 |v::vs=>iT v::go vs
theorem Ml{N:Nat}{J:bA U}{x:bH U}(h:x.BQ=true):cR N J x x.xR/\(∀d,cR N J x d->d=x.xR)/\∀n,x.xR.aP n=true:=by
 cases x<;>simp[bH.BQ]at h
 . exact⟨.t _,λd av=>by cases av;rfl,λ_=>rfl⟩
 . exact⟨.ft _ _ _,λd av=>by cases av;rfl,λ_=>rfl⟩
 . exact⟨.aT,λd av=>by cases av;rfl,λ_=>rfl⟩
 . exact⟨.hE,λd av=>by cases av;rfl,λ_=>rfl⟩
 . exact⟨.hD,λd av=>by cases av;rfl,λ_=>rfl⟩
 . rename_i f caps;cases caps with
   |nil=>exact⟨.fn _ _,λd av=>by cases av;rfl,λ_=>rfl⟩
   |cons=>grind
theorem Zo:∀{vs:List (b9 U)} {i:Nat},(iT.go vs)[i]?=(vs[i]?).map iT
 |[],i=>by rfl
 |v::vs,0=>by rfl
 |v::vs,i+1=>by simp[iT.go,Zo]
theorem akN:∀{vs:List (b9 U)},(iT.go vs).length=vs.length
 |[]=>rfl
 |v::vs=>by simp[iT.go,akN]
theorem alK:∀{vs:List (b9 U)} {i:Nat} {v:b9 U},ke.go vs=true->vs[i]?=some v->ke v=true
 |[],i,v,_,h=>by grind
 |x::vs,0,v,hs,h=>by grind[ke.go]
 |x::vs,i+1,v,hs,h=>by simp[ke.go]at hs;exact alK hs.2 (by simpa using h)
theorem aux{N:Nat}{J:bA U}:∀(cs:List (bH U)),(∀x,x∈cs->x.BQ=true)->bk (cR N J) cs (cs.map bH.xR)
 |[],_=>.nil
 |a::l,h=>.cons (Ml (h a (by simp))).1 (aux l λx I=>h x (by grind))
theorem GR{N:Nat}{J:bA U}:∀{x:b9 U},ke x=true->cn N J x (iT x)/\∀n,(iT x).aP n=true
 |.c x,h=>by
  obtain⟨h1,_,aA⟩:=Ml h;exact⟨.c h1,λn=>aA n⟩
 |.agg cs,h=>by
  simp[ke]at h;refine⟨.agg ?_,λn=>?_⟩
  . grind[aux]
  . simp[iT,V.aP];intro c ay;exact(Ml (N:=N) (J:=J) (h c ay)).2.2 n
 |.bn vs,h=>by
  have:=go (N:=N) (J:=J) vs h;refine⟨.bn _ _ (by rw[akN]) λi x d I av=>?_,λn=>?_⟩
  . grind[Zo]
  grind[iT,V.aP]
where go {N:Nat} {J:bA U}:∀(vs:List _),ke.go vs=true->(∀x,x∈vs->cn N J x (iT x))/\∀n,V.aP.V.e3 n (iT.go vs)=true
 |[],_=>⟨by simp,λ_=>rfl⟩
 |v::vs,h=>by
  simp[ke.go,dM]at h;obtain⟨h1,aa⟩:=GR (N:=N) (J:=J) h.1;obtain⟨aA,aU⟩:=go (N:=N) (J:=J) vs h.2;simp_all[iT.go,V.aP.V.e3]
theorem Mo{N:Nat}{J:bA U}{x:b9 U}{d:V}(h:cn N J x d):ke x=true->d=iT x:=by
 induction h with
 |c h=>intro hs;rw[(Ml hs).2.1 _ h];rfl
 | @agg xs bc h=>
  intro hs;simp[ke]at hs
  congr 1
  induction h with
  |nil=>rfl
  |cons h1 aa ih=>rw[p4,<-(Ml (hs _ (by simp))).2.1 _ h1,<-ih (λx I=>hs x (by grind))]
 |bn xs bc aj h ih=>
  intro hs
  congr 1
  apply Hz;intro i;rw[Zo];cases I:xs[i]? with
  |none=>grind
  |some x=>
   have ak:=(fv.1 I).1;have av:=gQ (l:=bc) (i:=i) (by omega);rw[av]
   congr 1
   exact ih i x _ I av (alK hs I)
end
section
open Go
variable {U:dC}
section
variable {P:Program}{nt kk key N N':Nat}{env:Env}{J J':br}{Q vE:Exit->Env->br->Nat->Prop}
def afc(P:Program)(f:Nat)(args:List V)(J:br)(key:Nat)(env:Env)(K:V->br->Prop):Prop:=
 ∀aG nt φ S a w,Rel aG nt φ S env J (lt key) a w->V.aP.V.e3 (lt key) args=true->∀vs:List Value,bk (cy φ w S) args vs->
  Calls P f vs.toArray w λe w'=>∃v r bB bC J',e= .returned v/\K r J'/\cy bB w' bC r v/\r.aP (gC (lt key) key)=true/\Rel aG nt bB bC env J' (gC (lt key) key) a w'
def awV(P:Program)(o:cF)(env:Env)(f:Nat)(vs:List V):Prop:=
 (∃args p,o.op= .call f args/\l4 env args=some (p,vs)/\p)\/
 (∃x args q p caps vt,o.op= .mV x args/\x.get env=some (q,.c (.fn f caps))/\q/\l4 env args=some (p,vt)/\p/\kL P f=true/\vs=vt++caps.map λb=>V.c (.ptr b 0))
def I2(P:Program)(o:cF)(key:Nat)(env:Env)(J:br)(K:Env->br->Prop):Prop:=
 lu P o key env J K\/(jB env o.guard=some true/\∃f vs,awV P o env f vs/\afc P f vs J key env λr J'=>K (gh env o.dst true r) J')
def vJ(P:Program)(kk:Nat):List cF->Nat->Env->br->(Env->br->Prop)->Prop
 |[],_,env,J,K=>K env J
 |o::r,key,env,J,K=>∃ie cO,Conv kk key env J key ie cO/\I2 P o key ie cO λe s=>vJ P kk r (key+16) e s K
theorem Zp{aG:Ctx}{φ:ea}{S:dV}{a:Act}{w:World}(R:Rel aG nt φ S env J (lt key) a w){ops:Array Oper}{o:Oper}{eo:cF}(ai:GZ P nt ops o=some eo){K:Env->br->Prop}(h:I2 P eo key env J K){Q:Exit->Act->World->Prop}:
 if Region.wanted o (yielded ops a.tmps)then o.wp P a w (pz aG nt (gC (lt key) key) K) Q else pz aG nt (gC (lt key) key) K (a.put o.dst undef) w:=by
 rcases h with h|⟨az,f,vs,Vu,fr⟩
 . exact RH R (λb h1 _=>Lh h1) ai h
 . obtain⟨h1,aa,aA,aU⟩:=ak4 ai;have hw:=al3 R aa az;rw[hw];rcases Vu with⟨args,p,eb,hX,ar⟩|⟨x,args,q,p,caps,vt,eb,cv,aE,hX,ar,ag,rfl⟩
   . rw[eb]at h1;obtain⟨c,pU,y3⟩:=ak0 (KA h1 (by simp));obtain⟨wP,ag,l5⟩:=ak1 y3;have eQ:=CX (w:=w) (a:=a) pU wP rfl ag;simp at eQ;obtain⟨g1,g2⟩:=AS R l5 hX ar;exact Calls.next aA aU rfl (λ_ _ h=>h) (fr aG nt φ S a w R g2 _ g1) eQ
   . rw[eb]at h1;obtain⟨c,pU,y3⟩:=akT (KA h1 (by simp));obtain⟨t,rfl,wP,l5⟩:=akU y3;obtain⟨g1,g2⟩:=AS R l5 hX ar;have I:=c4 (x:= .tmp t) R rfl cv aE;have Ka:=I.1.fy;have Vv:bk (cy φ w S) (caps.map λb=>V.c (.ptr b 0)) (caps.map λb=>Value.pointer (some ⟨(φ b).1,0,none⟩)):=by
      refine bk.rK (by simp) ?_;intro i v x h1 aa;simp at h1 aa;obtain⟨b,kU,rfl⟩:=h1;obtain⟨bI,jn,rfl⟩:=aa;rw[kU]at jn;cases jn;exact .c rfl
     have kl:V.aP.V.e3 (lt key) (vt++caps.map λb=>V.c (.ptr b 0))=true:=by
      refine De ?_;intro i v aF;by_cases ak:i<vt.length
      . grind[uN]
      . rw[L8 (by omega)]at aF;simp only[BB,bV]at aF
        grind[V.aP,C.aP]
     exact Calls.next aA aU rfl (λ_ _ h=>h) (fr aG nt φ S a w R kl _ (g1.append Vv)) (CX pU wP Ka ag)
theorem amK{aG:Ctx}(ct:aG.k=kk){ops:Array Oper}{Q:Exit->Act->World->Prop}{K:Env->br->Nat->Prop}:∀{l:List Oper} {bp:List cF} {k N:Nat} {env:Env} {J:br} {φ:ea} {S:dV} {a:Act} {w:World},kH P nt ops l=some bp->(∀i:Nat,i<l.length->l[i]?=ops[k+i]?)->
 Rel aG nt φ S env J (lt N) a w->vJ P kk bp N env J (λe s=>K e s (N+16*bp.length))->(∀φ S e s N a w,K e s N->Rel aG nt φ S e s (lt N) a w->Q .normal a w)->wpOps P ops Q (List.range' k l.length) a w
 |[],bp,k,N,env,J,φ,S,a,w,ai,ak,R,h,e1=>by
  simp[kH]at ai;subst ai;exact e1 _ _ _ _ _ _ _ h R
 |o::l,bp,k,N,env,J,φ,S,a,w,ai,ak,R,h,e1=>by
  simp[kH,bK,bV]at ai;obtain⟨eo,oq,q3,CG,rfl⟩:=ai;have aO:ops[k]?=some o:=by have:=ak 0 (by simp);grind
  rw[lf,QE,wpOps_cons];unfold wpOp;obtain⟨ie,cO,yR,mC⟩:=h;obtain⟨sW,zG,Ci⟩:=yR aG nt φ S a w ct R;have hs:=Zp Ci oq (K:=λe s=>vJ P kk _ _ e s λe s=>K e s (N+16*(q3.length+1))) (by omega) (Q:=Q)
  have next:∀cx w',pz aG nt (gC (lt N) N) (λe s=>vJ P kk q3 (N+16) e s λe s=>K e s (N+16*(q3.length+1))) cx w'->wpOps P ops Q (List.range' (k+1) l.length) cx w':=by
   rintro cx w' ⟨bB,bC,e,s,cq,R'⟩
   refine amK ct CG (λi aV=>?_) (R'.more λ_ h=>Tk h) ?_ e1
   . have:=ak (i+1) (by grind)
     grind
   grind
  split at hs
  . grind[Oper.wp_mono]
  grind
theorem c9.aCD{bp:List cF}(h:vJ P kk bp N env J (λe s=>Q .normal e s (N+16*bp.length))):c9 P nt kk (.region bp) env J N Q:=by
 intro code ay aG φ S a w ct R;obtain⟨id,ops,rfl,ai⟩:=ale ay;refine wp_region ?_;have:=amK ct (Q:=λe cx w'=>∃bB bC env' J' N',Q e env' J' N'/\Rel aG nt bB bC env' J' (lt N') cx w') (k:=0) ai (λi ak=>by simp) R h
  (λφ S e s N a w cq fG=>⟨φ,S,e,s,N,cq,fG⟩)
 grind[List.range_eq_range']
theorem gf.conv{f k:Nat}{args IA:List V}{Q:V->br->Nat->Prop}(aC:bk kc args IA)(hs:Ck J J')(h:gf P f IA J' k Q):gf P f args J k Q:=by
 intro φ S w B iX fH wT j0 vs fP;refine h φ S w B ⟨λb x I=>?_,λb bI x y I ao=>?_,iX.st⟩ (λb x I=>?_) (λb x I=>?_) ?_ vs ?_
 . obtain⟨aw,h1,aa⟩:=hs b x I;exact aa.Ei (iX.blk b aw h1)
 . obtain⟨aw,h1,aa⟩:=hs b x I;obtain⟨pt,k1,k2⟩:=hs bI y ao;exact iX.inj b bI aw pt h1 k1
 . obtain⟨aw,h1,aa⟩:=hs b x I;exact⟨(fH b aw h1).1,aa.aP _ (fH b aw h1).2⟩
 . obtain⟨aw,h1,aa⟩:=hs b x I;grind
 . refine De λi v aF=>?_
   obtain⟨v0,h1,aa⟩:=(aC.flip λ_ _ h=>h).get aF;exact aa.aP _ (uN j0 h1)
 . exact bk.comp (λa b c h1 aa=>h1.xe aa) (aC.flip λ_ _ h=>h) fP
theorem gf.mono{f k:Nat}{args:List V}{Q vE:V->br->Nat->Prop}(h:gf P f args J k Q)(aE:∀r s n,Q r s n->vE r s n):gf P f args J k vE:=by
 intro φ S w B h1 aa aA aU vs bN;refine(h φ S w B h1 aa aA aU vs bN).mono ?_
 grind
theorem gf.tidy {f k:Nat}{args:List V}{J:br}{Q vE:V->br->Nat->Prop}(h:gf P f args J k Q)
 (aE:∀r J' N',Q r J' N'->∃bs eC J2,bs.Nodup/\keeps k bs=true/\kc (r.cu bs) eC/\Ck (iR bs J' 0 bs) J2/\vE eC J2 bs.length):gf P f args J k vE:=by
 intro φ S w B h1 aa aA aU vs bN;refine(h φ S w B h1 aa aA aU vs bN).mono ?_
 rintro e w' ⟨v,r,bB,bC,J',N',he,e1,k1,k2,k3,k4,k5,k6,k7⟩
 obtain⟨bs,eC,J2,cC,aEM,ai,hs,ayX⟩:=aE r J' N' e1;have ah0:∀i:Nat,i<k->bs[i]?=some i:=by
  grind[keeps]
 let mi:ea:=λi=>bB ((bs[i]?).getD 0)
 have Qh:∀(i:Nat) b,bs[i]?=some b->mi i=bB b:=by intro i b h;simp[mi,h]
 have P7:∀b x,bf (iR bs J' 0 bs) b=some x->∃c aw,bs[b]?=some c/\bf J' c=some aw/\x=aw.cu bs:=by
  grind[yx]
 have aAz:∀(aw:ck),(aw.cu bs).aP (lt bs.length)=true:=by
  intro aw;cases aw with
  |box cs=>grind[ck.cu,ck.aP,List.all_eq_true,C.p7]
  |arr sz es=>rfl
  |set ks=>rfl
  |buf E s=>rfl
  |cL E c=>exact C.p7 c
  |dr sz es i o c=>exact C.p7 c
 refine⟨v,eC,mi,bC,J2,bs.length,he,ayX,ai.xe (cy.cu Qh k1),ai.aP _ (V.p7 r),⟨λb x I=>?_,λb bI x y I ao b4 h0 fF=>?_,k3.st⟩,λb x I=>?_,k5,λb x I h0=>?_,λb ag=>?_⟩
 . obtain⟨y,ao,ag⟩:=hs b x I;obtain⟨c,aw,aR,bw,rfl⟩:=P7 b y ao;exact ag.Ei (dU.cu Qh aR (k3.blk c aw bw))
 . obtain⟨jQ,Kc,_⟩:=hs b x I;obtain⟨sU,Qe,_⟩:=hs bI y ao;obtain⟨c,aw,aR,bw,_⟩:=P7 b jQ Kc;obtain⟨eE,pq,f1,f2,_⟩:=P7 bI sU Qe;rw[Qh b c aR]at h0⊢;rw[Qh bI eE f1]at fF⊢;refine k3.inj c eE aw pq bw f2 ?_ h0 fF;have:=uR cC aR
   grind[uR]
 . obtain⟨y,ao,ag⟩:=hs b x I;obtain⟨c,aw,aR,bw,rfl⟩:=P7 b y ao;exact⟨(fv.1 aR).1,ag.aP _ (aAz aw)⟩
 . obtain⟨y,ao,ag⟩:=hs b x I
   grind
 grind
end
def bH.cW(f:Nat->Nat):bH U->bH U
 |.ptr b o=>.ptr (f b) o
 |.dw b ty i o=>.dw (f b) ty i o
 |.arr b=>.arr (f b)
 |.sub b bE len=>.sub (f b) bE len
 |.pre b h=>.pre (f b) h
 |.fx b bE len=>.fx (f b) bE len
 |.mp b=>.mp (f b)
 |.gw b=>.gw (f b)
 |.df b=>.df (f b)
 |.fn g caps=>.fn g (caps.map f)
 |x=>x
def b9.cW(f:Nat->Nat):b9 U->b9 U
 |.c x=>.c (x.cW f)
 |.agg cs=>.agg (cs.map (bH.cW f))
 |.bn vs=>.bn (go f vs)
where go (f:Nat->Nat):List (b9 U)->List (b9 U)
 |[]=>[]
 |v::vs=>v.cW f::go f vs
def ds.cW(f:Nat->Nat):ds U->ds U
 |.box cs=>.box (cs.map (bH.cW f))
 |.arr ty l=>.arr ty l
 |.rows sz r=>.rows sz r
 |.set ks=>.set ks
 |.buf E s=>.buf E s
 |.cL E c=>.cL E (c.cW f)
 |.dr t l i o c=>.dr t l i o (c.cW f)
def TI(J:bA U):List Nat->bA U
 |[]=>J
 |b::r=>dl (TI J r) b
def vy(J:bA U)(bs:List Nat)(f:Nat->Nat):bA U->bA U
 |[]=>TI J bs
 |(b,x)::r=>dd (vy J bs f r) (f b) (x.cW f)
def xk(J Jr:bA U):Nat->List Nat->Option Bool
 |_,[]=>some true
 |i,b::r=>match bh Jr i with
  |none=>xk J Jr (i+1) r
  |some cH=>match bh J b with
   |none=>none
   |some x=>match cH.ep with
    |none=>xk J Jr (i+1) r
    |some np=>match x.ep with
     |none=>none
     |some p=>match Nat.beq np.1 p.1,xk J Jr (i+1) r with
      |true,some c=>some (decide (np.2=p.2)&&c)
      |_,_=>none
section
variable {key N':Nat}{J Jr:bA U}{J1 afX:br}{bs:List Nat}
theorem acn:∀{bs:List Nat} {b:Nat},bh (TI J bs) b=if b∈bs then none else bh J b
 |[],b=>by rfl
 |c::r,b=>by
  simp[TI,vc,acn]
  grind
theorem CY{f:Nat->Nat}:∀{cO:bA U} {c:Nat} {x:ds U},bh (vy J bs f cO) c=some x->(∃b aw,c=f b/\bh cO b=some aw/\x=aw.cW f)\/(c ∉ bs/\bh J c=some x)
 |[],c,x,h=>by
  grind[vy,acn]
 |(b,y)::r,c,x,h=>by
  simp[vy,kq]at h;split at h
  . grind[bh,Nat.beq_refl]
  . rcases CY h with⟨bI,aw,h1,aa,aA⟩|h
    . grind[bh,dN]
    grind
theorem KV(cC:bs.Nodup)(aV:∀b,b∈bs->b<key){i j:Nat}(h:back bs key i=back bs key j):i=j:=by
 unfold back at h;cases ak:bs[i]? with
 |some b=>
  rw[ak]at h;have azi:=aV b (hp ak);cases aM:bs[j]? with
  |some c=>
   rw[aM]at h;simp at h;subst h;have:=uR cC ak;rw[uR cC aM]at this
   grind
  |none=>grind
 |none=>
  cases aM:bs[j]? with
  |some c=>
   have azi:=aV c (hp aM)
   grind
  |none=>grind
theorem alL{f:Nat->Nat}(aJ:∀i j,f i=f j->i=j):∀{cO:br} {b:Nat} {x:ck},bf cO b=some x->bf (lz J1 bs f cO) (f b)=some (x.cW f)
 |[],b,x,h=>by grind[bf]
 |(c,y)::r,b,x,h=>by
  simp[lz,dX];simp[bf]at h;by_cases kl:c=b
  . grind
  . rw[ah kl]at h;rw[ah (λe=>kl (aJ _ _ e))];exact alL aJ h
theorem al8{f:Nat->Nat}{c:Nat}(ay:c ∉ bs)(aJ:∀b,f b≠c):∀{cO:br},bf (lz J1 bs f cO) c=bf J1 c
 |[]=>by grind[lz,AZ]
 |(b,y)::r=>by
  simp[lz,dX];rw[ah (aJ b)];exact al8 ay aJ
theorem ds.KL{f:Nat->Nat}{x:ds U}:(x.cW f).ep=x.ep:=by cases x<;>simp[ds.cW,ds.ep]
theorem amT:∀{l:List Nat} {i0:Nat} {c:Bool},xk J Jr i0 l=some c->c=true->∀(j b:Nat) cH,l[j]?=some b->bh Jr (i0+j)=some cH->∃x,bh J b=some x/\∀p,cH.ep=some p->x.ep=some p
 |[],i0,c,h,ay,j,b,cH,aM,I=>by grind
 |a::l,i0,c,h,ay,j,b,cH,aM,I=>by
  simp[xk]at h;have next:∀{eE},xk J Jr (i0+1) l=some eE->eE=true->∀Bt,j=Bt+1->∃x,bh J b=some x/\∀p,cH.ep=some p->x.ep=some p:=by
   intro eE h1 aa Bt e;exact amT h1 aa Bt b cH (by grind) (by grind)
  cases j with
  |zero=>
   grind[dN]
  |succ j=>
   split at h
   . grind
   grind
variable (cC:bs.Nodup)(aV:∀b,b∈bs->b<key)(dh:N'<=bs.length+16)(aN:da key J J1)
include cC aV dh aN in
theorem cR.cW{x:bH U}{d:C}(h:cR N' Jr x d):cR (key+16) (vy J bs (back bs key) Jr) (x.cW (back bs key)) (d.cW (back bs key)):=by
 cases h with
 |t c=>exact cR.t c
 |ptr b o=>exact cR.ptr _ o
 |dw b t i o=>exact cR.dw _ t i o
 |ft t x o=>exact cR.ft t x o
 |arr b sz n ag h=>
  have yQ:back bs key b<key+16:=by
   unfold back;cases ak:bs[b]? with
   |some c=>simp;have:=aV c (hp ak);omega
   |none=>grind
  refine cR.arr _ sz n yQ λx I p ar=>?_
  rcases CY I with⟨bI,aw,h1,aa,rfl⟩|⟨h1,aa⟩
  . grind[KV,ds.KL]
  . have hk:=(aN _ _ aa).1
    grind[back]
 |sub b bE len=>exact cR.sub _ bE _
 |pre b sz n ag h=>
  have yQ:back bs key b<key+16:=by
   unfold back;cases ak:bs[b]? with
   |some c=>simp;have:=aV c (hp ak);omega
   |none=>grind
  refine cR.pre _ sz n yQ λx I p ar=>?_
  rcases CY I with⟨bI,aw,h1,aa,rfl⟩|⟨h1,aa⟩
  . grind[KV,ds.KL]
  . have hk:=(aN _ _ aa).1
    grind[back]
 |fx b sz bE len ag h=>
  have yQ:back bs key b<key+16:=by
   unfold back;cases ak:bs[b]? with
   |some c=>simp;have:=aV c (hp ak);omega
   |none=>grind
  refine cR.fx _ sz bE _ yQ λx I p ar=>?_
  rcases CY I with⟨bI,aw,h1,aa,rfl⟩|⟨h1,aa⟩
  . grind[KV,ds.KL]
  . have hk:=(aN _ _ aa).1
    grind[back]
 |mp b=>exact cR.mp _
 |gw b=>exact cR.gw _
 |df b n ag h=>
  have yQ:back bs key b<key+16:=by
   unfold back;cases ak:bs[b]? with
   |some c=>simp;have:=aV c (hp ak);omega
   |none=>grind
  refine cR.df _ n yQ λx I p ar=>?_
  rcases CY I with⟨bI,aw,h1,aa,rfl⟩|⟨h1,aa⟩
  . grind[KV,ds.KL]
  . have hk:=(aN _ _ aa).1
    grind[back]
 |aT=>exact .aT
 |hE=>exact .hE
 |hD=>exact .hD
 |fn f caps=>exact cR.fn f _
 |dead d=>exact .dead _
theorem amL{f:Nat->Nat}:∀{vs:List (b9 U)} {i:Nat},(b9.cW.go f vs)[i]?=(vs[i]?).map (b9.cW f)
 |[],i=>by rfl
 |v::vs,0=>by rfl
 |v::vs,i+1=>by simp[b9.cW.go,amL]
theorem al9{f:Nat->Nat}:∀{vs:List (b9 U)},(b9.cW.go f vs).length=vs.length
 |[]=>rfl
 |v::vs=>by simp[b9.cW.go,al9]
include cC aV dh aN in
theorem cn.cW{x:b9 U}{d:V}(h:cn N' Jr x d):cn (key+16) (vy J bs (back bs key) Jr) (x.cW (back bs key)) (d.cW (back bs key)):=by
 induction h with
 |c h=>exact .c (cR.cW cC aV dh aN h)
 |agg h=>exact .agg (bk.map_map (h.imp λ_ _ _ ab=>cR.cW cC aV dh aN ab))
 |bn xs bc aj h ih=>
  refine .bn _ _ (by grind[al9,Yl]) ?_
  grind[amL,ZY]
include cC aV aN in
theorem Rq(av:xk J Jr 0 bs=some true):ek key J (key+16) (vy J bs (back bs key) Jr):=by
 refine⟨by simp,λc x ay I=>?_⟩;rcases CY I with⟨b,aw,h1,aa,rfl⟩|⟨h1,aa⟩
 . unfold back at h1;cases ak:bs[b]? with
   |some eE=>
    rw[ak]at h1;subst h1;obtain⟨x,k1,k2⟩:=amT av rfl b c aw ak (by grind)
    grind[ds.KL]
   |none=>grind
 grind
include cC aV dh aN in
theorem da.U9(av:xk J Jr 0 bs=some true)(ai:da N' Jr afX):da (key+16) (vy J bs (back bs key) Jr) (lz J1 bs (back bs key) afX):=by
 intro c x I;have yQ:∀b,b<N'->back bs key b<key+16:=by
  intro b ag;unfold back;cases ak:bs[b]? with
  |some c=>simp;have:=aV c (hp ak);omega
  |none=>grind
 rcases CY I with⟨b,aw,rfl,aa,rfl⟩|⟨h1,aa⟩
 . obtain⟨aA,y,aU,bN⟩:=ai b aw aa;refine⟨yQ b aA,y.cW _,alL (λi j=>KV cC aV) aU,?_⟩;cases bN with
   |box bN=>exact .box (bk.map_map (bN.imp λ_ _ _ ab=>cR.cW cC aV dh aN ab))
   |arr t l=>exact .arr t l
   |set ks=>exact .set ks
   |buf E s=>exact .buf E s
   |cL bN=>exact .cL (cR.cW cC aV dh aN bN)
   |dr t l i o bN=>exact .dr t l i o (cR.cW cC aV dh aN bN)
   |rows bN dO=>exact .rows bN dO
 . obtain⟨aA,y,aU,bN⟩:=aN c x aa;refine⟨by omega,y,?_,?_⟩
   . grind[al8,back]
   . exact bN.mono (Rq cC aV aN av)
end
end
section
open Go
variable {xb:List Nat}
def Tm(n:Nat):List (Nat×Nat)->Bool
 |(i,_)::_=>Nat.beq i n
 |[]=>false
theorem atJ{l:List (cF×List Nat)}{p:Nat×Nat}(h:p∈si l):p.1<l.length:=by
 grind[si,Uw]
theorem arR{l:List (cF×List Nat)}(h:Tm l.length (Cs l)=true):Tj l=true/\DU l.dropLast=true/\∀p,p∈si l.dropLast->p∈Cs l:=by
 unfold Cs at h⊢;split at h
 . grind
 . cases aj:si l with
   |nil=>rw[aj]at h;cases h
   |cons p r=>
    rw[aj]at h;have ar:p∈si l:=by grind
    have:=atJ ar;obtain⟨i,j⟩:=p;have bg:Nat.beq i _=true:=h;simp_all
theorem asQ{l:List (cF×List Nat)}{m:Nat}(hm:l.length=m+1)(h:Tj l=true){D:Nat->List Nat}(jO:∀(i:Nat) x,l[i]?=some x->D i=x.2){p:Nat->Bool}(azu:∀i,i<m->p i=true->∀d,d∈D i->p d=true)(aj:∀d,d∈D m->p d=true):
 ∀i,i<m->p i=true:=by
 have key:∀k i,i<m->m-i<=k->p i=true:=by
  intro k
  induction k with
  |zero=>grind
  |succ k ih=>
   intro i h1 aa;simp[Tj]at h;have aA:=h i (by omega)
   grind
 exactλi ak=>key m i ak (by simp)
section
variable {P:Program}{aG:Ctx}{nt kk:Nat}{N:Nat}{ops:Array Oper}{init:List cF}{last:cF}{E:Nat->Env}{T:Nat->br}{G:Nat->Bool}{W:Nat->V}
theorem Sm{listed:Array Bool}{i m:Nat}(hs:listed.size=m+1)(ak:i<m):listed.pop.getD i false=listed.getD i false:=by
 simp
 grind
theorem au1{listed:Array Bool}{i m:Nat}(hs:listed.size=m+1)(ak:i<m):(listed.setIfInBounds i true).pop=listed.pop.setIfInBounds i true:=by grind
theorem atK{Q:Exit->Act->World->Prop}{fuel:Nat}{listed:Array Bool}{a:Act}{w:World}(hs:listed.size=ops.size)(c8:∀i,i<ops.size->listed.getD i false=true)(e1:Q .normal a w):wpAny P .any ops Q fuel listed a w:=by
 have rB:Region.ready .any ops listed=[]:=by
  rw[aje]
  grind[mem_ready]
 cases fuel with
 |zero=>exact⟨rB,e1⟩
 |succ fuel=>exact⟨λ_=>e1,λi ak=>by grind⟩
theorem asR {D:Nat->List Nat}(st:Stat xb init D E N)(ai:xo xb P init N E T G W)(hres:kH P nt ops ops.toList=some (init++[last]))(jO:∀(i:Nat) o,ops[i]?=some o->D i=ly o)
 (azY:∀(p:Nat->Bool),(∀i,i<init.length->p i=true->∀d,d∈D i->p d=true)->(∀d,d∈D init.length->p d=true)->∀i,i<init.length->p i=true)
 (Vn:∀d,d∈D init.length->d<init.length)
 {Q:Exit->Act->World->Prop}{K:Env->br->Prop}(ct:aG.k=kk)
 (cq:∃ie cO,Conv kk (N+16*init.length) (E init.length) (T init.length) (N+16*init.length) ie cO/\I2 P last (N+16*init.length) ie cO K)
 (e1:∀e s φ S a w,K e s->Rel aG nt φ S e s (gC (lt (N+16*init.length)) (N+16*init.length)) a w->Q .normal a w):
 ∀(fuel:Nat) (listed:Array Bool) φ S env J a w,listed.size=init.length+1->listed.getD init.length false=false->listed.toList.countP (· ==false)<=fuel->Inv xb aG nt init D N E T G W listed.pop φ S env J a w->wpAny P .any ops Q fuel listed a w:=by
 have hlen:=Kz hres;simp at hlen;have Wa:∀(listed:Array Bool) (φ:ea) (S:dV) (env:Env) (J:br) (a:Act) (w:World),listed.size=init.length+1->listed.getD init.length false=false->Inv xb aG nt init D N E T G W listed.pop φ S env J a w->Region.ready .any ops listed≠[]:=by
  intro listed φ S env J a w hs hm dR rB;have c8:∀i,i<init.length->listed.getD i false=true:=by
   intro i
   induction i using Nat.strongRecOn with
   |_ i ih=>
    intro ak;cases aj:listed.getD i false with
    |true=>rfl
    |false=>
     have FO:i<ops.size:=by omega
     have aO:ops[i]?=some ops[i]:=QO FO;have:i∈Region.ready .any ops listed:=by
      rw[mem_ready];refine⟨?_,ops[i],aO,λe he ag=>?_⟩
      . grind
      . have av:e.on∈D i:=by
         rw[jO i _ aO];simp only[ly,gO,BF]
         grind
        exact ih e.on (st.back i _ ak av) (by have:=st.back i _ ak av;omega)
     grind
  have FO:init.length<ops.size:=by omega
  have aO:ops[init.length]?=some ops[init.length]:=QO FO;have:init.length∈Region.ready .any ops listed:=by
   rw[mem_ready];refine⟨?_,ops[init.length],aO,λe he ag=>?_⟩
   . grind
   . have av:e.on∈D init.length:=by
      rw[jO _ _ aO];simp only[ly,gO,BF]
      grind
     grind
  grind
 intro fuel
 induction fuel with
 |zero=>
  intro listed φ S env J a w hs hm ay dR
  exfalso
  have nb:init.length<listed.size:=by omega
  have h0:listed.toList.countP (· ==false)=0:=by omega
  rw[List.countP_eq_zero]at h0;simp[nb]at hm;exact h0 listed[init.length] (by simp) (by grind)
 |succ fuel ih=>
  intro listed φ S env J a w hs hm ay dR;refine⟨λrB=>absurd rB (Wa listed φ S env J a w hs hm dR),λi ak=>?_⟩;rw[mem_ready]at ak;obtain⟨h1,o,aO,azr⟩:=ak;have FO:i<ops.size:=(L7.1 aO).1;have nb:i<listed.size:=by omega
  have a':listed.getD i false=false:=by grind
  obtain⟨eo,oq,u5⟩:=YD hres (i:=i) (o:=o) (by grind);have av:∀d,d∈D i->listed.getD d false=true:=by
   intro d av;rw[jO i o aO]at av;simp only[ly,gO,BF]at av
   grind
  have azn:listed.toList.countP (· ==false)<=fuel+1->(listed.setIfInBounds i true).toList.countP (· ==false)<=fuel:=by
   have:listed.toList[i]?=some false:=by simp[nb]at a'⊢;exact a'
   grind
  rcases Nat.lt_or_ge i init.length with FN|FN
  ·
   have JA:init[i]?=some eo:=by rw[Hs FN]at oq;exact oq
   have iB:∀d,d∈D i->listed.pop.getD d false=true:=λd qE=>by rw[Sm hs (by have:=st.back i d FN qE;omega)];exact av d qE
   have V0:listed.pop.getD i false=false:=by rw[Sm hs FN];exact a'
   obtain⟨Vj,yN⟩:=dR.agree st ai JA V0 iB;obtain⟨⟨bM,ec,cQ⟩,_⟩:=(ai.step i eo JA).1.local (env':=env) (J':=J) Vj yN;have mC:=RH dR.rel (key:=N+16*i) (λb kU jn=>amz V0 kU jn) u5 (K:=λe s=>e=gh env eo.dst (G i) (W i)/\s=bM) (ec.lu ⟨rfl,rfl⟩) (Q:=Q)
   have next:∀cx w',pz aG nt (gC (used N init.length listed.pop) (N+16*i)) (λe s=>e=gh env eo.dst (G i) (W i)/\s=bM) cx w'->wpAny P .any ops Q fuel (listed.setIfInBounds i true) cx w':=by
    rintro cx w' ⟨bB,bC,e,s,⟨rfl,rfl⟩,R'⟩
    have ar:=au1 (listed:=listed) (i:=i) (m:=init.length) hs FN;refine ih (listed.setIfInBounds i true) bB bC _ _ cx w' (by simpa using hs) ?_ (azn ay) (by rw[ar];exact dR.step st ai JA V0 iB cQ R');rw[rf nb,ah (by omega)];exact hm
   unfold wpOp;rw[aO];dsimp only;split at mC
   . rename_i hw;rw[af hw];exact .inl (Oper.wp_mono next mC)
   . rename_i hw;rw[ah hw];exact next _ _ mC
  ·
   have ak:i=init.length:=by omega
   subst ak;have JA:eo=last:=by grind
   subst JA;have c8:=by
    refine azY (λj=>listed.pop.getD j false) (λj aM ar d qE=>dR.down j aM ar d qE) (λd qE=>?_);rw[Sm hs (Vn d qE)];exact av d qE
   have R:=dR.done st ai c8;obtain⟨ie,cO,yR,mC⟩:=cq;obtain⟨sW,zG,Ci⟩:=yR aG nt φ S a w ct R;have ko:=Zp Ci u5 mC (Q:=Q);have next:∀cx w',pz aG nt (gC (lt (N+16*init.length)) (N+16*init.length)) K cx w'->wpAny P .any ops Q fuel (listed.setIfInBounds init.length true) cx w':=by
    rintro cx w' ⟨bB,bC,e,s,yL,R'⟩
    refine atK (by simp[hs,hlen]) (λj aM=>?_) (e1 e s bB bC cx w' yL R');rw[rf nb];split
    . rfl
    . rename_i b4;have o6:j<init.length:=by omega
      rw[<-Sm hs o6];exact c8 j o6
   unfold wpOp;rw[aO];dsimp only;split at ko
   . rename_i hw;rw[af hw];exact .inl (Oper.wp_mono next ko)
   . rename_i hw;rw[ah hw];exact next _ _ ko
theorem c9.aCE {hg:List (Nat×Nat)}{env:Env}{J:br}{Q:Exit->Env->br->Nat->Prop}(hm:Tm (init.length+1) hg=true)
 (h:I6 xb P init N env J (λe s=>rk xb init e N hg=true/\vJ P kk [last] (N+16*init.length) e s (λe s=>Q .normal e s (N+16*init.length+16)))):c9 P nt kk (.xc (init++[last]) hg) env J N Q:=by
 intro code ay aG φ S a w ct R;obtain⟨id,ops,rfl,hres,ot,VZ,rfl⟩:=ak5 ay;have hlen:=Kz hres;have gB:(iz ops (init++[last])).length=init.length+1:=by grind[iz]
 obtain⟨azZ,ahH,j3⟩:=arR (l:=iz ops (init++[last])) (by grind);obtain⟨E,T,G,W,ai,e0,t0,pV,e1⟩:=ZI h
 have aAq:(iz ops (init++[last])).dropLast=iz ops.pop init:=by
  obtain⟨fm,x,I⟩:∃fm x,ops.toList=fm++[x]:=by
   cases aj:ops.toList.reverse with
   |nil=>simp_all
   |cons x r=>simp_all
  simp_all[iz,Array.toList_pop,BG,List.zip_append]
 rw[aAq]at ahH;have PM:rk xb init (E init.length) N (si (iz ops.pop init))=true:=YY (λp ar=>j3 p (by grind)) pV;have ec:=aeo (ops:=ops.pop) (by grind) ahH ai PM
 let D:Nat->List Nat:=λi=>((ops[i]?).map ly).getD []
 have ahp:∀i,i<init.length->((ops.pop[i]?).map ly).getD []=D i:=by grind
 have st:Stat xb init D E N:=by
  refine⟨λi d ak av=>ec.back i d ak (by grind),λi j x y d I ao aiK=>?_,λi j b b4 ak aM hw ag=>?_⟩
  . have:=ec.HP i j x y d I ao aiK
    grind
  . rcases ec.ord i j b b4 ak aM hw ag with⟨h1,aa⟩|⟨h1,aa⟩
    . exact .inl ⟨h1,aa.congr ec.back ahp aM⟩
    . exact .inr ⟨h1,aa.congr ec.back ahp ak⟩
 have aAV:∀(i:Nat) x,(iz ops (init++[last]))[i]?=some x->D i=x.2:=by
  grind[iz]
 refine wp_region_any VZ ?_;have mC:=e1;have aze:∀d,d∈D init.length->d<init.length:=by
  intro d av;simp only[DU,dM]at ot;have I:(iz ops (init++[last]))[init.length]?=some _:=gQ (by omega);have:=Yn ot.1.1 I d (by grind);omega
 refine asR (aG:=aG) (nt:=nt) (D:=D) st ai hres (λi o aO=>by grind) (λp h1 aa=>asQ gB azZ aAV h1 aa) aze ct mC (λe s φ S a w aE R'=>⟨φ,S,e,s,_,aE,R'.more λb ag=>Tk ag⟩) ops.size _ φ S env J a _ ?_ ?_ ?_ ?_
 . grind
 . rw[Array.getD_eq_getD_getElem?,Array.getElem?_replicate]
   grind
 . grind[List.countP_le_length]
 . have R':=R.drew;have Wc:∀i,(Array.replicate ops.size false).pop.getD i false=true->False:=by
    intro i aj;simp only[Array.getD_eq_getD_getElem?,Array.getElem?_pop]at aj
    grind
   refine⟨R'.more λb ag=>by grind[used],by grind,λi ak aj=>(Wc i aj).elim,λt _=>by grind,λt i o aO aj=>(Wc i aj).elim,λb _=>by grind,λb i ak aj=>(Wc i aj).elim⟩
end
end
end Go.Proofs.YtklfhpkljddjbaaGreatDoor.Shv
