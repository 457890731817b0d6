/- The library of this proof, part C: an abstract machine for the code of the program, and its soundness. -/
import Derived.Test.YtandcioiaooocaaGreatMaLB

namespace Go.Proofs.YtandcioiaooocaaGreat.Shv
set_option linter.all false
section
open Go
variable {xb:ey}
def Rn(xb:ey)(eh:List h2)(env:hc)(N:Nat):List (Nat×Nat)->Bool
 |[]=>true
 |(i,j)::r=>(match eh[i]?,eh[j]? with
  |some x,some y=>(y' xb y.op env (N+16*j)).all λb=>!(k2 xb x.op env (N+16*i) b)
  |_,_=>true)&&Rn xb eh env N r
theorem atI{eh:List h2}{env:hc}{N:Nat}:∀{Lc:List (Nat×Nat)} {i j:Nat} {x y:h2},Rn xb eh env N Lc=true->(i,j)∈Lc->eh[i]?=some x->eh[j]?=some y->∀b,b∈y' xb y.op env (N+16*j)->k2 xb x.op env (N+16*i) b=false
 |[],i,j,x,y,h,hm,_,_,_,_=>by simp at hm
 |(i0,aOj)::r,i,j,x,y,h,hm,aa,bo,b,ai=>by
  simp only[Rn,h5]at h;rcases Nx.1 hm with e|hm
  . grind
  . exact atI h.2 hm aa bo b ai
section
variable {P:Program}{cm:K5}{nt kk:Nat}{N:Nat}{ops:Array Oper}{eh:List h2}{E:Nat->hc}{T:Nat->ee}{G:Nat->Bool}{W:Nat->V}
theorem aFL{i:Nat}{o:Oper}{x:h2}(cJ:ops[i]?=some o)(aa:eh[i]?=some x):(i4 ops eh)[i]?=some (x,M9 o):=by
 unfold i4
 grind
theorem axl(n':eh.length=ops.size)(Oq:aaw (i4 ops eh)=true)(al:WR xb P eh N E T G W)(aKX:Rn xb eh (E eh.length) N (SE (i4 ops eh))=true):
 Stat xb eh (λi=>((ops[i]?).map M9).getD []) E N:=by
 simp only[aaw,h5]at Oq;obtain⟨⟨aoQ,ayS⟩,_⟩:=Oq;have t':∀i,i<eh.length->∃o x,ops[i]?=some o/\eh[i]?=some x/\(i4 ops eh)[i]?=some (x,M9 o):=by
  intro i ao;have cJ:ops[i]?=some ops[i]:=ak' (by omega);have aa:eh[i]?=some eh[i]:=HJ ao;exact⟨_,_,cJ,aa,aFL cJ aa⟩
 have aN4:∀i j,ahead (i4 ops eh) j i=true->j<i/\j∈((ops[i]?).map M9).getD []:=by
  intro i j h;obtain⟨h1,y,ad,a'⟩:=aId h;refine⟨h1,?_⟩;have ao:i<eh.length:=by
   have:=(pv.1 ad).1;unfold i4 at this;simp at this;omega
  grind
 have ayT:∀(i j:Nat) (x y:h2) (d:Nat),eh[i]?=some x->eh[j]?=some y->y.dst=some d->(d∈x.rd->(j<i/\j∈((ops[i]?).map M9).getD [])\/(x.op.neutral=true/\x.op.OD=false/\i<j/\i∈((ops[j]?).map M9).getD []))/\(i=j\/x.dst≠some d):=by
  intro i j x y d aa bo ay3;obtain⟨alg,hO,ayI,Jx,aky⟩:=t' i (pv.1 aa).1;obtain⟨alh,NH,ayJ,MN,akz⟩:=t' j (pv.1 bo).1;rw[aa]at Jx;cases Jx;rw[bo]at MN;cases MN;simp only[azS,qa]at ayS;have h1:=ayS ((x,M9 alg),i) (F' (i:=i) (by simp[ak3,aky]))
  have ad:=h1 ((y,M9 alh),j) (F' (i:=j) (by simp[ak3,akz]))
  grind
 refine⟨λi d ao ay=>?_,ayT,?_⟩
 . obtain⟨o,x,cJ,aa,U5⟩:=t' i ao;rw[cJ]at ay;have:=aml aoQ U5 d ay;omega
 ·
  have ayA:∀(i:Nat) (x:h2),eh[i]?=some x->¬(x.op.neutral=true/\x.op.OD=false)->∀t,t∈x.op.reads->look (E eh.length) t=look (E i) t:=by
   intro i x aa akJ t ht;have ao:=(pv.1 aa).1;refine acr al (by omega) (DJ _) λj y ag7 ag8 bo I1=>?_
   rcases (ayT i j x y t aa bo I1).1 (aui ht)with h|h
   . omega
   grind
  have aOc:∀i j,VP (U1 (i4 ops eh) []) j i=true->j<i/\PQ (λi=>((ops[i]?).map M9).getD []) j i:=by
   intro i j h;simp only[VP,h5,u2,List.contains_iff_mem]at h;refine⟨h.1,asn (l:=i4 ops eh) (acc:=[]) (λk x aa=>?_) (λi j ea=>by simp at ea) i j h.2⟩;have hk:k<eh.length:=by
    have:=(pv.1 aa).1;unfold i4 at this;simp at this;omega
   grind
  have apl:∀(i j:Nat) (x y:h2) (b:Nat),i≠j->eh[i]?=some x->eh[j]?=some y->k2 xb x.op (E i) (N+16*i) b=true->b∈y' xb y.op (E j) (N+16*j)->VP (U1 (i4 ops eh) []) i j=true\/VP (U1 (i4 ops eh) []) j i=true:=by
   intro i j x y b hn aa bo hw ai;by_cases h1:VP (U1 (i4 ops eh) []) i j=true
   . grind
   . by_cases ad:VP (U1 (i4 ops eh) []) j i=true
     . grind
     . exfalso
       obtain⟨alg,hO,ayI,Jx,aky⟩:=t' i (pv.1 aa).1;obtain⟨alh,NH,ayJ,MN,akz⟩:=t' j (pv.1 bo).1;rw[aa]at Jx;cases Jx;rw[bo]at MN;cases MN;have ht:y.op.OD=true:=by
        cases h:y.op.OD with
        |true=>rfl
        |false=>rw[aF8 h]at ai;simp at ai
       have hm:(i,j)∈SE (i4 ops eh):=by
        simp only[SE,aol,ap5];refine⟨((x,M9 alg),i),F' (i:=i) (by simp[ak3,aky]),?_⟩;dsimp only;rw[auw hw];simp only[y0,Jb,List.mem_filterMap];refine⟨((y,M9 alh),j),F' (i:=j) (by simp[ak3,akz]),?_⟩
        grind
       have:=atI aKX hm aa bo b (by rw[aIc (ayA j y bo (λh=>by rw[ht]at h;cases h.2))];exact ai);rw[aIb (ayA i x aa (λh=>by rw[auw hw]at h;cases h.1))]at this
       grind
  intro i j b hn ao ea hw ai;obtain⟨alg,x,ayI,aa,aky⟩:=t' i ao;obtain⟨alh,y,ayJ,bo,akz⟩:=t' j ea;have akU:k2 xb x.op (E i) (N+16*i) b=true:=by unfold N7 at hw;rw[aa]at hw;exact hw
  have conv:(VP (U1 (i4 ops eh) []) i j=true\/VP (U1 (i4 ops eh) []) j i=true)->(i<j/\PQ (λi=>((ops[i]?).map M9).getD []) i j)\/(j<i/\PQ (λi=>((ops[i]?).map M9).getD []) j i):=by grind
  rcases ai with⟨NH,MN,ai⟩|ai
  . rw[bo]at MN;cases MN;exact conv (apl i j x y b hn aa bo akU ai)
  . have apC:k2 xb y.op (E j) (N+16*j) b=true:=by unfold N7 at ai;rw[bo]at ai;exact ai
    cases oo:y.op.OD with
    |true=>exact conv (apl i j x y b hn aa bo akU (atG oo apC))
    |false=>
     cases ayY:x.op.OD with
     |true=>exact conv (apl j i y x b (u4 hn) bo aa apC (atG ayY akU)).symm
     |false=>
      have h1:=axk ayY akU;have ad:=axk oo apC
      exfalso;omega
theorem anG{eh:List h2}{env:hc}{N:Nat}:∀{l m:List (Nat×Nat)},(∀p,p∈l->p∈m)->Rn xb eh env N m=true->Rn xb eh env N l=true
 |[],_,_,_=>rfl
 |(i,j)::r,m,hs,h=>by
  simp only[Rn,h5];refine⟨?_,anG (λp aJ=>hs p (apZ _ aJ)) h⟩
  have:∀ (m:List (Nat×Nat)),(i,j)∈m->Rn xb eh env N m = true->(match eh[i]?,eh[j]? with
   |some x,some y=>(y' xb y.op env (N+16*j)).all λb=>!(k2 xb x.op env (N+16*i) b)
   |_,_=>true)=true:=by
   intro m
   induction m with
   |nil=>intro h _;simp at h
   |cons q m ih=>
    intro hm a7;obtain⟨aOt,aOu⟩:=q;simp only[Rn,h5]at a7
    grind
  grind
theorem aIe{l:List (h2×ey)}{p:Nat×Nat}(h:p∈SE l):p∈aa9 l:=by
 unfold aa9
 grind
theorem kc.WG{Lc:List (Nat×Nat)}{env:hc}{J:ee}{Q:Exit->hc->ee->Nat->Prop}(h:agB xb P eh N env J (λe s=>Rn xb eh e N Lc=true/\Q .normal e s (N+16*eh.length))):kc P nt kk (.WG eh Lc) env J N Q:=by
 intro code a7 cm φ S a w j1 R;obtain⟨id,ops,rfl,hres,Oq,apd,rfl⟩:=arz a7;have n':=afr hres;simp at n';obtain⟨E,T,G,W,al,vK,t0,X5,wk⟩:=amN h;refine wp_region_any apd ?_;refine aGt (cm:=cm) (nt:=nt) (axl n' Oq al (anG (λp aJ=>aIe aJ) X5)) al hres (λi o cJ=>by simp[cJ]) (λφ S a w R'=>⟨φ,S,_,_,_,wk,R'⟩) ops.size _ φ S env J a _ ?_ ?_
 . have:=List.countP_le_length (p:=λx:Bool=>x==false) (l:=(Array.replicate ops.size false).toList)
   grind
 . have R':ga cm nt φ S env J (lt N) a {w with drawn:=w.drawn+1}:=R.drew;refine⟨R'.more λb ai=>by simp[Um,ai],by simp[n'],λi ao ar=>?_,λt _=>by rw[vK],λt i o cJ ar=>?_,λb _=>by rw[t0],λb i ao ar=>?_⟩
   . simp_all
   . exfalso;simp[Array.getElem?_replicate]at ar;split at ar<;>simp at ar
   simp_all
end
end
section
open Go
def alF(P:Program)(c:Code)(Q:Exit->Act->World->Prop)(a:Act)(w:World):Prop:=
 ∀(b:Frame) (k:List Item) (cs:List Frame),∃e n1 w',Q e n1 w'/\Arrives P (lone (b.at a (.code c:: .inLoop c::k)) cs w) b k cs e n1 w'
theorem aIf{P:Program}{c:Code}{Q:Exit->Act->World->Prop}{a:Act}{w:World}(h:c.wp P (Exit.then (alF P c Q) Q) a w):alF P c Q a w:=by
 intro b k cs;obtain⟨e,agc,aik,e1,Zk⟩:=h b (.inLoop c::k) cs;cases e with
 |normal=>
  obtain⟨aC9,aBc,aNt,aLF,aKJ⟩:=e1 b k cs;exact⟨aC9,aBc,aNt,aLF,.of_steps (Steps.trans Zk (.one step_inLoop)) aKJ⟩
 |exit id=>exact⟨_,agc,aik,e1,.pass (x:= .inLoop c) rfl (λ_ _=>.inl (by simp)) Zk⟩
 |goto l=>exact⟨_,agc,aik,e1,.pass (x:= .inLoop c) rfl (λ_ _=>.inl (by simp)) Zk⟩
 |ret=>exact⟨_,agc,aik,e1,.pass (x:= .inLoop c) rfl (λ_ _=>.inl (by simp)) Zk⟩
 |panic avn=>exact⟨_,agc,aik,e1,.pass (x:= .inLoop c) rfl (λ_ _=>.inl (by simp)) Zk⟩
 |outgrown=>exact⟨_,agc,aik,e1,.pass (x:= .inLoop c) rfl (λ_ _=>.inl (by simp)) Zk⟩
theorem aGJ{P:Program}{c:Code}{Q:Exit->Act->World->Prop}{a:Act}{w:World}(h:alF P c Q a w):(Code.loop c).wp P Q a w:=by
 intro b k cs;obtain⟨e,n1,w',e1,Zk⟩:=h b k cs;exact⟨e,n1,w',e1,.of_steps (.one step_loop) Zk⟩
section
variable {P:Program}{nt kk:Nat}{env env':hc}{J J':ee}{N N':Nat}{Q VY:Exit->hc->ee->Nat->Prop}
def Ux(P:Program)(nt kk:Nat)(c:sK)(env:hc)(J:ee)(N:Nat)(Q:Exit->hc->ee->Nat->Prop):Prop:=
 ∀code,resolve P nt code=some c->∀cm φ S a w,cm.k=kk->ga cm nt φ S env J (lt N) a w->alF P code (λe n1 w'=>∃hi hJ env' J' N',Q e env' J' N'/\ga cm nt hi hJ env' J' (lt N') n1 w') a w
theorem Ux.round{c:sK}(h:kc P nt kk c env J N (andThen (λenv J N=>Ux P nt kk c env J N Q) Q)):Ux P nt kk c env J N Q:=by
 intro code a7 cm φ S a w j1 R;refine aIf (wp_mono (h code a7 cm φ S a w j1 R) ?_)
 rintro e n1 w' ⟨hi,hJ,env',J',N',e1,R'⟩
 cases e with
 |normal=>exact e1 code a7 cm hi hJ n1 w' j1 R'
 |_=>exact⟨hi,hJ,env',J',N',e1,R'⟩
theorem kc.aMj{c:sK}(h:Ux P nt kk c env J N Q):kc P nt kk (.loop c) env J N Q:=by
 intro code a7 cm φ S a w j1 R;obtain⟨b,rfl,ai⟩:=aGq a7;exact aGJ (h b ai cm φ S a w j1 R)
def Conv(kk N:Nat)(env:hc)(J:ee)(N':Nat)(env':hc)(J':ee):Prop:=
 ∀cm nt φ S a w,cm.k=kk->ga cm nt φ S env J (lt N) a w->∃hi hJ,ga cm nt hi hJ env' J' (lt N') a w
theorem Conv.refl{kk N:Nat}:Conv kk N env J N env J:=λ_ _ φ S _ _ _ R=>⟨φ,S,R⟩
theorem Conv.trans{kk SJ Ru aeE:Nat}{ep hp zt:hc}{s1 s2 Ul:ee}(h:Conv kk SJ ep s1 Ru hp s2)(k:Conv kk Ru hp s2 aeE zt Ul):Conv kk SJ ep s1 aeE zt Ul:=
 λcm nt φ S a w hk R=>let⟨hi,hJ,R'⟩:=h cm nt φ S a w hk R;k cm nt hi hJ a w hk R'
theorem kc.conv{c:sK}(a7:Conv kk N env J N' env' J')(h:kc P nt kk c env' J' N' Q):kc P nt kk c env J N Q:=
 λcode agX cm φ S a w j1 R=>let⟨hi,hJ,R'⟩:=a7 cm nt φ S a w j1 R;h code agX cm hi hJ a w j1 R'
theorem Ux.conv{c:sK}(a7:Conv kk N env J N' env' J')(h:Ux P nt kk c env' J' N' Q):Ux P nt kk c env J N Q:=
 λcode agX cm φ S a w j1 R=>let⟨hi,hJ,R'⟩:=a7 cm nt φ S a w j1 R;h code agX cm hi hJ a w j1 R'
theorem Conv.tidy(ks bs:ey)(hL:bs.Nodup)(hk:S' kk bs=true):Conv kk N env J bs.length (VO bs env ks) (JX bs J 0 bs):=
 λcm nt φ S a w j1 R=>let⟨hi,R'⟩:=R.tidy ks bs hL (by rw[j1];exact hk);⟨hi,S,R'⟩
theorem Conv.freeze(b0:Nat){sr:Nat}{es:List (List T)}(j':eb J b0=some (.arr sr es)):Conv kk N env J N (YD b0 sr es env) (U3 b0 sr es J):=
 λcm nt φ S a w j1 R=>⟨φ,_,R.freeze j'⟩
def r1(c vJ:C):Prop:=(∀φ w S v,fJ φ w S c v->fJ φ w S vJ v)/\∀n,c.cv n=true->vJ.cv n=true
theorem r1.refl(c:C):r1 c c:=⟨λ_ _ _ _ h=>h,λ_ h=>h⟩
theorem r1.dead(c:C):r1 c .dead:=⟨λ_ _ _ _ h=>h.PH,λ_ _=>rfl⟩
theorem r1.hN:r1 .hN (.t (.slice [])):=by
 refine⟨?_,λ_ _=>rfl⟩
 rintro φ w S v ⟨a,rfl⟩
 exact hY.slice [] a 0 0 0 0 (λ_ _=>undef) (by simp) (by simp) (by simp) (by simp) (by simp) (by simp)
inductive La:V->V->Prop
 |c {x y}:r1 x y->La (.c x) (.c y)
 |agg {xs ys}:er r1 xs ys->La (.agg xs) (.agg ys)
 |e2 (xs ys:List V) (ar:xs.length=ys.length) (h:∀(i:Nat) x y,xs[i]?=some x->ys[i]?=some y->La x y):La (.e2 xs) (.e2 ys)
theorem er.comp{α β LV:Type}{R:α->β->Prop}{R':β->LV->Prop}{art:α->LV->Prop}(h:∀a b c,R a b->R' b c->art a c):∀{l:List α} {m:List β} {k:List LV},er R l m->er R' m k->er art l k
 |[],[],[],_,_=>.nil
 |_::_,_::_,_::_,.cons h1 ad,.cons ha hg=>.cons (h _ _ _ h1 ha) (er.comp h ad hg)
theorem er.flip{α β:Type}{R:α->β->Prop}{R':β->α->Prop}{l:List α}{m:List β}(h:er R l m)(k:∀a b,R a b->R' b a):er R' m l:=by
 induction h with
 |nil=>exact .nil
 |cons h _ ih=>exact .cons (k _ _ h) ih
theorem avk{n:Nat->Bool}:∀{vs:List V},(∀(i:Nat) v,vs[i]?=some v->v.cv n=true)->V.cv.V.vn n vs=true
 |[],_=>rfl
 |v::vs,h=>by simp only[V.cv.V.vn,h5];exact⟨h 0 v rfl,avk λi x aa=>h (i+1) x (by simpa using aa)⟩
theorem La.WH{φ:q3}{w:World}{S:r'}{v Ju:V}(h:La v Ju):∀{x},jJ φ w S v x->jJ φ w S Ju x:=by
 induction h with
 |c h=>intro x aa;cases aa with|c aa=>exact .c (h.1 _ _ _ _ aa)
 |agg h=>
  intro x aa;cases aa with
  |agg aa=>exact .agg (er.comp (λa b c h1 ad=>h1.1 _ _ _ _ ad) (h.flip (R':=λb a=>r1 a b) λ_ _ h=>h) aa)
 |e2 xs ys ar h ih=>
  intro x aa;cases aa with
  |e2 _ tw Jo ad=>
   refine .e2 _ tw (by omega) ?_
   grind
theorem La.cv{v Ju:V}(h:La v Ju)(n:Nat->Bool):v.cv n=true->Ju.cv n=true:=by
 induction h with
 |c h=>intro ai;exact h.2 n ai
 | @agg xs ys h=>
  intro ai;simp only[V.cv,qa]at ai⊢;intro c a7;obtain⟨i,ao,rfl⟩:=OV a7;obtain⟨a,b6,hs⟩:=(h.flip (R':=λb a=>r1 a b) λ_ _ h=>h).get (HJ ao);exact hs.2 n (ai a (F' b6))
 |e2 xs ys ar h ih=>
  intro ai;simp only[V.cv]at ai⊢;refine avk λi v ch=>?_
  have ao:i<xs.length:=by rw[ar];exact(pv.1 ch).1
  exact ih i _ _ (HJ ao) ch (VL ai (HJ ao))
inductive QB:hF->hF->Prop
 |box {xs ys}:er r1 xs ys->QB (.box xs) (.box ys)
 |arr {sz es}:QB (.arr sz es) (.arr sz es)
 |same {x}:QB x x
 |hZ {E c vJ}:r1 c vJ->QB (.hZ E c) (.hZ E vJ)
 |kx {sz es i o c vJ}:r1 c vJ->QB (.kx sz es i o c) (.kx sz es i o vJ)
def awU(env env':hc):Prop:=∀k g Ju,look env' k=some (g,Ju)->∃v,look env k=some (g,v)/\La v Ju
def aaW(J J':ee):Prop:=∀b hO,eb J' b=some hO->∃x,eb J b=some x/\QB x hO
theorem QB.aqv{φ:q3}{w:World}{S:r'}{b:Nat}{x hO:hF}(h:QB x hO)(al:o1 φ w S b x):o1 φ w S b hO:=by
 cases h with
 |arr=>exact al
 |same=>exact al
 |hZ h=>
  obtain⟨h0,⟨p,v,h1,ad,a'⟩,d'⟩:=al;exact⟨h0,⟨p,v,h1,ad,h.1 _ _ _ _ a'⟩,d'⟩
 |kx h=>
  obtain⟨h1,⟨vs,E,ha,hg,hQ,v,oi,te⟩,q'⟩:=al;exact⟨h1,⟨vs,E,ha,hg,hQ,v,oi,h.1 _ _ _ _ te⟩,q'⟩
 |box h=>
  obtain⟨h0,vs,E,h1,ad,a'⟩:=al;exact⟨h0,vs,E,h1,er.comp (λa b c h1 ad=>h1.1 _ _ _ _ ad) (h.flip (R':=λb a=>r1 a b) λ_ _ h=>h) ad,a'⟩
theorem QB.cv{x hO:hF}(h:QB x hO)(n:Nat->Bool)(ai:x.cv n=true):hO.cv n=true:=by
 cases h with
 |arr=>exact ai
 |same=>exact ai
 |hZ h=>exact h.2 n ai
 |kx h=>exact h.2 n ai
 | @box xs ys h=>
  have:=La.cv (.agg h) n (by simpa[V.cv,hF.cv]using ai)
  simpa[V.cv,hF.cv]using this
theorem ga.weaken{cm:K5}{φ:q3}{S:r'}{n:Nat->Bool}{a:Act}{w:World}(R:ga cm nt φ S env J n a w)(he:awU env env')(hs:aaW J J'):ga cm nt φ S env' J' n a w:=by
 refine⟨⟨λb x aa=>?_,λb hf x y aa bo=>?_,R.hI.st⟩,λk g v ar a8=>?_,λk g v ar a8=>?_,λk g v ar a8=>?_,λb x aa=>?_,R.size,R.defers,R.ext,λb x aa=>?_,R.fix,R.OU⟩
 . obtain⟨b9,h1,ad⟩:=hs b x aa;exact ad.aqv (R.hI.blk b b9 h1)
 . obtain⟨b9,h1,ad⟩:=hs b x aa;obtain⟨Ri,ha,hg⟩:=hs hf y bo;exact R.hI.inj b hf b9 Ri h1 ha
 . obtain⟨v0,h1,ad⟩:=he k g v ar;obtain⟨x,aa,al⟩:=R.L0 k g v0 h1 a8;exact⟨x,aa,ad.WH al⟩
 . obtain⟨v0,h1,ad⟩:=he k g v ar;exact R.Np k g v0 h1 a8
 . obtain⟨v0,h1,ad⟩:=he k g v ar;exact ad.cv n (R.LZ k g v0 h1 a8)
 . obtain⟨b9,h1,ad⟩:=hs b x aa;exact⟨(R.vi b b9 h1).1,ad.cv n (R.vi b b9 h1).2⟩
 . obtain⟨b9,h1,ad⟩:=hs b x aa;exact R.own b b9 h1
theorem Conv.weaken(he:awU env env')(hs:aaW J J'):Conv kk N env J N env' J':=λcm nt φ S a w _ R=>⟨φ,S,R.weaken he hs⟩
theorem ga.apS{cm:K5}{φ:q3}{S:r'}{a:Act}{w:World}(R:ga cm nt φ S env J (lt N) a w){sz:Nat}(hG:0<sz)(hk:cm.k<=N):
 ga cm nt (Ks φ N (0,0)) S env (qJ J N (.arr sz [])) (lt (N+1)) a w:=by
 have kJ:∀b,lt N b=true->Ks φ N (0,0) b=φ b:=by
  intro b ai;simp only[lt,u2]at ai;simp only[Ks]
  grind
 have hm:∀b,lt N b=true->lt (N+1) b=true:=λb ai=>axj (by omega) ai
 have h':=R.ah3 kJ;have vc:(Ks φ N (0,0) N).2=0:=by simp[Ks]
 have t':∀b x,eb (qJ J N (.arr sz [])) b=some x->(b=N/\x= .arr sz [])\/(b≠N/\eb J b=some x):=by
  intro b x aa;rw[n2]at aa
  grind
 refine⟨⟨λb x aa=>?_,λb hf x y aa bo hn h0 BJ=>?_,h'.hI.st⟩,h'.L0,h'.Np,λk g v ar a8=>V.MV hm (h'.LZ k g v ar a8),λb x aa=>?_,h'.size,h'.defers,h'.ext,λb x aa h0=>?_,h'.fix,λb ai=>by simp only[lt,u2];omega⟩
 . rcases t' b x aa with⟨rfl,rfl⟩|⟨_,aa⟩
   . exact⟨by simp,by simp,by simp,hG,λh=>absurd vc h⟩
   . exact h'.hI.blk b x aa
 . rcases t' b x aa with⟨rfl,rfl⟩|⟨_,aa⟩
   . exact absurd vc h0
   . rcases t' hf y bo with⟨rfl,rfl⟩|⟨_,bo⟩
     . exact absurd vc BJ
     . exact h'.hI.inj b hf x y aa bo hn h0 BJ
 . rcases t' b x aa with⟨rfl,rfl⟩|⟨_,aa⟩
   . exact⟨by simp[lt],rfl⟩
   . exact⟨hm b (h'.vi b x aa).1,hF.MV hm (h'.vi b x aa).2⟩
 . rcases t' b x aa with⟨rfl,rfl⟩|⟨_,aa⟩
   . exact absurd vc h0
   . exact h'.own b x aa h0
end
inductive c8 where
 |bool
 |int (k:IntKind)
 |str
 |slice (t:c8)
 |nm (n:Nat)
def c8.beq:c8->c8->Bool
 |.bool,.bool=>true
 |.int k,.int h8=>decide (k=h8)
 |.str,.str=>true
 |.slice r,.slice Js=>c8.beq r Js
 |.nm n,.nm m=>Nat.beq n m
 |_,_=>false
theorem c8.beq_eq:∀{a b:c8},c8.beq a b=true->a=b
 |.bool,.bool,_=>rfl
 |.int k,.int h8,h=>by simp[c8.beq]at h;rw[h]
 |.str,.str,_=>rfl
 |.slice r,.slice Js,h=>by simp only[c8.beq]at h;rw[c8.beq_eq h]
 |.nm n,.nm m,h=>by simp only[c8.beq]at h;rw[Nat.eq_of_beq_eq_true h]
 |.bool,.int _,h|.bool,.str,h|.bool,.slice _,h|.bool,.nm _,h=>by simp[c8.beq]at h
 |.int _,.bool,h|.int _,.str,h|.int _,.slice _,h|.int _,.nm _,h=>by simp[c8.beq]at h
 |.str,.int _,h|.str,.bool,h|.str,.slice _,h|.str,.nm _,h=>by simp[c8.beq]at h
 |.slice _,.int _,h|.slice _,.str,h|.slice _,.bool,h|.slice _,.nm _,h=>by simp[c8.beq]at h
 |.nm _,.int _,h|.nm _,.str,h|.nm _,.bool,h|.nm _,.slice _,h=>by simp[c8.beq]at h
theorem c8.beq_refl:∀(a:c8),c8.beq a a=true
 |.bool=>rfl
 |.int k=>by simp[c8.beq]
 |.str=>rfl
 |.slice r=>by simp only[c8.beq];exact c8.beq_refl r
 |.nm n=>by simp only[c8.beq];exact ahN n
def c8.dec(a b:c8):Decidable (a=b):=
 match h:c8.beq a b with
 |true=>.isTrue (c8.beq_eq h)
 |false=>.isFalse λe=>by rw[e,c8.beq_refl]at h;cases h
def c8.den(D:Nat->Type):c8->Type
 |.bool=>Bool
 |.int _=>Int
 |.str=>b8
 |.slice t=>List (c8.den D t)
 |.nm n=>D n
structure Cell (D:Nat->Type) where
 ty:c8
 val:ty.den D
def Cell.as{D:Nat->Type}(t:c8)(c:Cell D):Option (t.den D):=
 match c8.dec c.ty t with
 |.isTrue h=>some (Eq.rec (motive:=λt _=>c8.den D t) c.val h)
 |.isFalse _=>none
theorem Cell.RD{D:Nat->Type}{t:c8}{c:Cell D}{x:t.den D}(h:c.as t=some x):c=⟨t,x⟩:=by
 obtain⟨u,v⟩:=c;unfold Cell.as at h;split at h
 . grind
 . cases h
theorem Cell.auZ{D:Nat->Type}{t:c8}{x:t.den D}:Cell.as t (⟨t,x⟩:Cell D)=some x:=by
 unfold Cell.as;split
 . rfl
 grind
def aoA(D:Nat->Type)(enc:∀n,D n->List T):(t:c8)->t.den D->List T
 |.bool,b=>[.bool b]
 |.int k,n=>[.int k n]
 |.str,s=>[.str s]
 |.slice t,l=>[.slice (List.map (aoA D enc t) l)]
 |.nm n,x=>enc n x
def awg(D:Nat->Type)(enc:∀n,D n->List T):Cell D->T
 |⟨.bool,b⟩=>.bool b
 |⟨.int k,n⟩=>.int k n
 |⟨.str,s⟩=>.str s
 |⟨.slice t,l⟩=>.slice (List.map (aoA D enc t) l)
 |⟨.nm _,_⟩=>.bool false
structure k9 where
 D:Nat->Type
 TZ:∀n,D n
 Wh:∀n,D n->List (Cell D)
 make:∀n,List (Cell D)->Option (D n)
 q0:Nat->List c8
 enc:∀n,D n->List T
 awh:∀n x,enc n x=(Wh n x).map (awg D enc)
 mk_eq:∀n l x,make n l=some x->Wh n x=l
 aAc:∀n x,(Wh n x).map Cell.ty=q0 n
 pos:∀n,0<(q0 n).length
 aAb:Nat->Option c8:=λ_=>none
 own:List (List Bool×Nat×c8):=[]
variable {U:k9}
abbrev k9.C(U:k9):=Cell U.D
abbrev c8.d(U:k9)(t:c8):=t.den U.D
def c8.TZ(U:k9):(t:c8)->t.den U.D
 |.bool=>false
 |.int _=>(0:Int)
 |.str=>([]:b8)
 |.slice t=>([]:List (t.den U.D))
 |.nm n=>U.TZ n
def c8.ahx:c8->Bool
 |.nm _=>true
 |_=>false
def c8.row(U:k9):(t:c8)->t.den U.D->List (Cell U.D)
 |.bool,b=>[⟨.bool,b⟩]
 |.int k,n=>[⟨.int k,n⟩]
 |.str,s=>[⟨.str,s⟩]
 |.slice t,l=>[⟨.slice t,l⟩]
 |.nm n,x=>U.Wh n x
def c8.cells(U:k9):c8->List c8
 |.nm n=>U.q0 n
 |t=>[t]
def c8.sz(U:k9)(t:c8):Nat:=(t.cells U).length
def PH(U:k9)(t:c8):List (Cell U.D)->Option (t.den U.D)
 |[c]=>c.as t
 |_=>none
def c8.mk(U:k9):(t:c8)->List (Cell U.D)->Option (t.den U.D)
 |.nm n,l=>U.make n l
 |.bool,l=>PH U .bool l
 |.int k,l=>PH U (.int k) l
 |.str,l=>PH U .str l
 |.slice t,l=>PH U (.slice t) l
theorem ajB{t:c8}{l:List (Cell U.D)}{x:t.den U.D}(h:PH U t l=some x):l=[⟨t,x⟩]:=by
 unfold PH at h;split at h
 . rw[Cell.RD h]
 . cases h
def Cell.enc(U:k9)(c:Cell U.D):T:=awg U.D U.enc c
def c8.enc(U:k9)(t:c8)(x:t.den U.D):List T:=aoA U.D U.enc t x
theorem c8.adg{t:c8}{x:t.den U.D}:t.enc U x=(t.row U x).map (Cell.enc U):=by
 cases t<;>first|rfl|skip
 case nm n=>exact U.awh n x
theorem c8.aMV{t:c8}{x:t.den U.D}:(t.row U x).map Cell.ty=t.cells U:=by
 cases t<;>first|rfl|skip
 case nm n=>exact U.aAc n x
theorem c8.azO{t:c8}{x:t.den U.D}:(t.row U x).length=t.sz U:=by
 rw[<-PE (f:=Cell.ty),c8.aMV];rfl
theorem c8.abc{t:c8}{x:t.den U.D}:(t.enc U x).length=t.sz U:=by
 rw[c8.adg,PE,c8.azO]
theorem c8.aeg{t:c8}:0<t.sz U:=by
 cases t<;>simp[c8.sz,c8.cells]
 exact U.pos _
theorem c8.apQ:∀{t:c8} {l:List (Cell U.D)} {x:t.den U.D},t.mk U l=some x->t.row U x=l
 |.nm n,l,x,h=>U.mk_eq n l x h
 |.bool,l,x,h=>(ajB (t:= .bool) h).symm
 |.int k,l,x,h=>(ajB (t:= .int k) h).symm
 |.str,l,x,h=>(ajB (t:= .str) h).symm
 |.slice t,l,x,h=>(ajB (t:= .slice t) h).symm
def c8.at(U:k9)(t:c8)(l:List (t.den U.D))(i:Nat):t.den U.D:=l.getD i (t.TZ U)
theorem af4{t:c8}{l:List (t.den U.D)}{i:Nat}(h:i<l.length):el (l.map (t.enc U)) i=t.enc U (t.at U l i):=by
 simp[el,c8.at,List.getD,HJ h]
end
section
open Go
variable {U:k9}
inductive fz (U:k9) where
 |t (c:Cell U.D)
 |ptr (b o:Nat)
 |k' (b:Nat)(t:c8)(i o:Nat)
 |vt (t:c8)(x:t.den U.D)(o:Nat)
 |arr (b:Nat)
 |sub (b fu len:Nat)
 |pre (b h:Nat)
 |LU (b fu len:Nat)
 |mp (b:Nat)
 |y2 (b:Nat)
 |lJ (b:Nat)
 |hN
 |Jq
 |Jp
 |fn (f:Nat)(caps:ey)
 |dead
inductive hl (U:k9) where
 |c (x:fz U)
 |agg (cs:List (fz U))
 |e2 (vs:List (hl U))
inductive ni (U:k9) where
 |box (cs:List (fz U))
 |arr (t:c8)(l:List (t.den U.D))
 |rows (sz:Nat)(r:List (List (fz U)))
 |set (ks:List b8)
 |buf (E:Nat)(s:b8)
 |hZ (E:Nat)(c:fz U)
 |kx (t:c8)(l:List (t.den U.D))(i o:Nat)(c:fz U)
abbrev hM(U:k9):=List (Nat×hl U)
abbrev fr(U:k9):=List (Nat×ni U)
abbrev zJ:=List (Nat×Nat×Bool)
def eg{α:Type}:List (Nat×α)->Nat->Option α
 |[],_=>none
 |(k,x)::r,i=>match Nat.beq k i with
  |true=>some x
  |false=>eg r i
def k1{α:Type}:List (Nat×α)->Nat->α->List (Nat×α)
 |[],b,x=>[(b,x)]
 |(k,y)::r,b,x=>match Nat.beq k b with
  |true=>(k,x)::r
  |false=>(k,y)::k1 r b x
def dl{α:Type}:List (Nat×α)->Nat->List (Nat×α)
 |[],_=>[]
 |(k,y)::r,b=>match Nat.beq k b with
  |true=>dl r b
  |false=>(k,y)::dl r b
theorem em{a b:Nat}(h:Nat.beq a b=true):a=b:=Nat.eq_of_beq_eq_true h
theorem ND{a b:Nat}(h:Nat.beq a b=false):a≠b:=λe=>by rw[e,ahN]at h;cases h
theorem Nv{α:Type}(J:List (Nat×α))(b:Nat)(x:α)(i:Nat):eg (k1 J b x) i=if b=i then some x else eg J i:=by
 induction J with
 |nil=>
  simp only[k1,eg];cases h:Nat.beq b i with
  |true=>simp[em h]
  |false=>simp[ND h]
 |cons y r ih=>
  obtain⟨k,y⟩:=y;simp only[k1];cases h:Nat.beq k b with
  |true=>
   have:=em h;subst this;simp only[eg];cases ad:Nat.beq k i with
   |true=>simp[em ad]
   |false=>simp[ND ad]
  |false=>
   simp only[eg,ih]
   grind
theorem Wv{α:Type}(J:List (Nat×α))(b i:Nat):eg (dl J b) i=if b=i then none else eg J i:=by
 induction J with
 |nil=>simp[dl,eg]
 |cons y r ih=>
  obtain⟨k,y⟩:=y;simp only[dl];cases h:Nat.beq k b with
  |true=>
   have:=em h;subst this;simp only[eg,ih];by_cases ad:k=i
   . grind
   . rw[cx ad,cx ad];cases a':Nat.beq k i with
     |true=>exact absurd (em a') ad
     |false=>rfl
  |false=>
   simp only[eg,ih]
   grind
def alH:C->Option (fz U)
 |.t (.bool b)=>some (.t ⟨.bool,b⟩)
 |.t (.int k n)=>some (.t ⟨.int k,n⟩)
 |.t (.str s)=>some (.t ⟨.str,s⟩)
 |.hN=>some .hN
 |.Jq=>some .Jq
 |.Jp=>some .Jp
 |.dead=>some .dead
 |.fn f []=>some (.fn f [])
 |_=>none
def WO:List C->Option (List (fz U))
 |[]=>some []
 |c::cs=>match alH c,WO cs with
  |some x,some xs=>some (x::xs)
  |_,_=>none
def aep:V->Option (hl U)
 |.c x=>match alH x with
  |some y=>some (.c y)
  |none=>none
 |.agg cs=>match WO cs with
  |some ys=>some (.agg ys)
  |none=>none
 |.e2 _=>none
def aee(gl:zJ):Nat->Option (Nat×Bool)->Nat->Bool
 |0,_,_=>false
 |Og+1,gd,k=>match eg gl k with
  |none=>true
  |some NQ=>match gd with
   |none=>false
   |some g=>(Nat.beq g.1 NQ.1&&(g.2==NQ.2))||aee gl Og (eg gl g.1) k
def JA(env:hM U)(t:Nat)(b:Bool):Option Bool:=
 match eg env t with
 |some (.c (.t ⟨.bool,x⟩))=>some (match b with|true=>x|false=>!x)
 |_=>none
def SY(gl:zJ)(env:hM U):Nat->Option (Nat×Bool)->Option Bool
 |_,none=>some true
 |0,some _=>none
 |Og+1,some (t,b)=>match SY gl env Og (eg gl t),JA env t b with
  |some x,some y=>some (x&&y)
  |_,_=>none
def Zh:Nat:=200
def q2(gl:zJ)(gd:Option (Nat×Bool))(env:hM U):dy->Option (hl U)
 |.const v=>aep v
 |.tmp k=>match aee gl Zh gd k with
  |true=>eg env k
  |false=>none
def alI(gl:zJ)(gd:Option (Nat×Bool))(env:hM U)(c:dy)(b:Bool):dy->Option (hl U)
 |.const v=>aep v
 |.tmp k=>match aee gl Zh gd k with
  |true=>eg env k
  |false=>match c,eg gl k with
   |.tmp azc,some (t,hf)=>match Nat.beq t azc&&(hf==b)with
    |true=>eg env k
    |false=>none
   |_,_=>none
def Rf(gl:zJ)(gd:Option (Nat×Bool))(env:hM U):List dy->Option (List (hl U))
 |[]=>some []
 |x::r=>match q2 gl gd env x,Rf gl gd env r with
  |some v,some vs=>some (v::vs)
  |_,_=>none
def Xv:hl U->Option (List (fz U))
 |.c x=>some [x]
 |.agg cs=>some cs
 |.e2 _=>none
def aeo(cells:List (fz U))(off:Nat)(cs:List (fz U)):List (fz U):=cells.take off++cs++cells.drop (off+cs.length)
def af5(gl:zJ)(gd:Option (Nat×Bool))(env:hM U):List (fz U)->List (Nat×Nat×dy)->Option (List (fz U))
 |cells,[]=>some cells
 |cells,(off,n,x)::r=>match q2 gl gd env x with
  |none=>none
  |some v=>match Xv v with
   |none=>none
   |some cs=>match Nat.beq cs.length n&&Nat.ble (off+n) cells.length with
    |true=>af5 gl gd env (aeo cells off cs) r
    |false=>none
def fz.toT:fz U->Option T
 |.t c=>match c.ty.ahx with
  |true=>none
  |false=>some (c.enc U)
 |.hN=>some (.slice [])
 |_=>none
def NG:List (fz U)->Option (List T)
 |[]=>some []
 |c::cs=>match c.toT,NG cs with
  |some t,some ts=>some (t::ts)
  |_,_=>none
def acg(gl:zJ)(gd:Option (Nat×Bool))(env:hM U)(sz:Nat):List (List (fz U))->List (Nat×dy)->Option (List (List (fz U)))
 |rows,[]=>some rows
 |rows,(i,x)::r=>match q2 gl gd env x with
  |none=>none
  |some v=>match Xv v with
   |none=>none
   |some cs=>match NG cs with
    |none=>none
    |some _=>match Nat.beq cs.length sz&&Nat.ble (i+1) rows.length with
     |true=>acg gl gd env sz (rows.set i cs) r
     |false=>none
inductive KR (U:k9) where
 |ty (t:c8)(l:List (t.den U.D))
 |rows (r:List (List (fz U)))
 |nil
def KR.len:KR U->Nat
 |.ty _ l=>l.length
 |.rows r=>r.length
 |.nil=>0
def OE:List c8->List (fz U)->Option (List (Cell U.D))
 |[],[]=>some []
 |t::ts,.t c::cs=>match OE ts cs with
  |some l=>some (c::l)
  |none=>none
 |.slice t::ts,.hN::cs=>match OE ts cs with
  |some l=>some (⟨.slice t,([]:List (t.den U.D))⟩::l)
  |none=>none
 |_,_=>none
def Yw(U:k9)(t:c8)(cs:List (fz U)):Option (t.den U.D):=
 match OE (t.cells U) cs with
 |some l=>t.mk U l
 |none=>none
def Us(U:k9)(t:c8):List (List (fz U))->Option (List (t.den U.D))
 |[]=>some []
 |r::rs=>match Yw U t r,Us U t rs with
  |some x,some xs=>some (x::xs)
  |_,_=>none
def KR.as(t:c8):KR U->Option (List (t.den U.D))
 |.ty u l=>Cell.as (.slice t) ⟨.slice u,l⟩
 |.rows r=>Us U t r
 |.nil=>some []
def KR.join:KR U->KR U->Option (KR U)
 |.nil,y=>some y
 |.ty t l,y=>match y.as t with
  |some C0=>some (.ty t (l++C0))
  |none=>none
 |.rows r,.ty t l=>match Us U t r with
  |some Q1=>some (.ty t (Q1++l))
  |none=>none
 |.rows r,.rows Js=>some (.rows (r++Js))
 |.rows r,.nil=>some (.rows r)
def KR.blk(sz:Nat):KR U->Option (ni U)
 |.ty t l=>match Nat.beq (t.sz U) sz with
  |true=>some (.arr t l)
  |false=>none
 |.rows r=>match r.all λx=>Nat.beq x.length sz with
  |true=>some (.rows sz r)
  |false=>none
 |.nil=>some (.rows sz [])
def Z1(J:fr U):hl U->Option (KR U×Option Nat)
 |.c (.t ⟨.slice t,l⟩)=>some (.ty t l,none)
 |.c .hN=>some (.nil,none)
 |.c (.arr b)=>match eg J b with
  |some (.arr t l)=>some (.ty t l,some b)
  |some (.rows _ r)=>some (.rows r,some b)
  |_=>none
 |_=>none
def ni.rz:ni U->Option (Nat×Nat)
 |.box _=>none
 |.arr t l=>some (t.sz U,l.length)
 |.rows sz r=>some (sz,r.length)
 |.set _=>none
 |.buf _ s=>some (1,s.length)
 |.hZ _ _=>none
 |.kx t l _ _ _=>some (t.sz U,l.length)
def aAn(J:fr U)(b sz:Nat):Bool:=
 match eg J b with
 |some x=>(match x.rz with|some p=>Nat.beq p.1 sz|none=>false)
 |none=>false
def q5(bytes n:Nat):Bool:=decide ((2*n+192)*bytes<=UE)&&decide (n<=I')
def aAj:BinOp->IntKind->IntKind->Int->Int->Option (Bool×Cell U.D)
 |.add,k,h8,a,b=>if k=h8 then some (true,⟨.int k,k.wrap (a+b)⟩)else none
 |.sub,k,h8,a,b=>if k=h8 then some (true,⟨.int k,k.wrap (a-b)⟩)else none
 |.mul,k,h8,a,b=>if k=h8 then some (true,⟨.int k,k.wrap (a*b)⟩)else none
 |.quo,k,h8,a,b=>if k=h8 then some (!decide (b=0),⟨.int k,k.wrap (a.tdiv b)⟩)else none
 |.rem,k,h8,a,b=>if k=h8 then some (!decide (b=0),⟨.int k,a.tmod b⟩)else none
 |.and,k,h8,a,b=>if k=h8 then some (true,⟨.int k,k.wrap (BitVec.ofInt k.bits a &&& BitVec.ofInt k.bits b).toNat⟩)else none
 |.or,k,h8,a,b=>if k=h8 then some (true,⟨.int k,k.wrap (BitVec.ofInt k.bits a ||| BitVec.ofInt k.bits b).toNat⟩)else none
 |.xor,k,h8,a,b=>if k=h8 then some (true,⟨.int k,k.wrap (BitVec.ofInt k.bits a ^^^ BitVec.ofInt k.bits b).toNat⟩)else none
 |.andNot,k,h8,a,b=>if k=h8 then some (true,⟨.int k,k.wrap (BitVec.ofInt k.bits a &&& ~~~ BitVec.ofInt k.bits b).toNat⟩)else none
 |.shl,k,_,a,b=>some (decide (0<=b),⟨.int k,k.wrap (a*2^min b.toNat k.bits)⟩)
 |.shr,k,_,a,b=>some (decide (0<=b),⟨.int k,a.fdiv (2^min b.toNat k.bits)⟩)
 |.eql,k,h8,a,b=>if k=h8 then some (true,⟨.bool,decide (a=b)⟩)else none
 |.neq,k,h8,a,b=>if k=h8 then some (true,⟨.bool,!decide (a=b)⟩)else none
 |.lss,k,h8,a,b=>if k=h8 then some (true,⟨.bool,decide (a<b)⟩)else none
 |.leq,k,h8,a,b=>if k=h8 then some (true,⟨.bool,decide (a<=b)⟩)else none
 |.gtr,k,h8,a,b=>if k=h8 then some (true,⟨.bool,decide (b<a)⟩)else none
 |.geq,k,h8,a,b=>if k=h8 then some (true,⟨.bool,decide (b<=a)⟩)else none
def aAk:BinOp->b8->b8->Option (Bool×Cell U.D)
 |.add,a,b=>some (decide (a.length+b.length<=TG),⟨.str,a++b⟩)
 |.eql,a,b=>some (true,⟨.bool,decide (a=b)⟩)
 |.neq,a,b=>some (true,⟨.bool,!decide (a=b)⟩)
 |.lss,a,b=>some (true,⟨.bool,Op.bytesLess a b⟩)
 |.leq,a,b=>some (true,⟨.bool,Op.bytesLess a b||decide (a=b)⟩)
 |.gtr,a,b=>some (true,⟨.bool,!(Op.bytesLess a b||decide (a=b))⟩)
 |.geq,a,b=>some (true,⟨.bool,!(Op.bytesLess a b)⟩)
 |_,_,_=>none
def aqV(op:BinOp):Cell U.D->Cell U.D->Option (Bool×Cell U.D)
 |⟨.int k,a⟩,⟨.int h8,b⟩=>aAj op k h8 a b
 |⟨.str,a⟩,⟨.str,b⟩=>aAk op a b
 |_,_=>none
def JB(a b:Bool):Bool:=a==b
def NN(a b:Int):Bool:=decide (a=b)
def Pj(a b:b8):Bool:=decide (a=b)
def hz(m:Int)(n:Nat):Bool:=decide (0<=m)&&decide (m.toNat<n)
def ME(fu ao:Int)(n:Nat):Bool:=decide (0<=fu)&&(decide (fu<=ao)&&decide (ao<=n))
def LY{α:Type}(l:List α)(fu ao:Int):List α:=(l.take ao.toNat).drop fu.toNat
def ZC(a b:Int):Int:=Max.max a b
def ahC(a b:Int):Int:=Min.min a b
def m5(s:b8)(m:Int):Int:=((s.getD m.toNat 0).toNat:Int)
def aIB(m:Int):b8:=(Utf8.encode m).data.toList
def G'(k:IntKind)(m:Int):Int:=k.wrap m
def aoh(a b:b8):b8:=a++b
def aqX:Nat->Cell U.D->Cell U.D->Option Bool
 |0,⟨.bool,a⟩,⟨.bool,b⟩=>some (JB a b)
 |1,⟨.int k,a⟩,⟨.int h8,b⟩=>if k=h8 then some (NN a b)else none
 |2,⟨.str,a⟩,⟨.str,b⟩=>some (Pj a b)
 |_,_,_=>none
def aio:ey->List (fz U)->List (fz U)->Option Bool
 |[],[],[]=>some true
 |k::ks,.t x::xs,.t y::ys=>match aqX k x y,aio ks xs ys with
  |some b,some r=>some (b&&r)
  |_,_=>none
 |_,_,_=>none
def YE(agg:Bool)(n:Nat)(cs:List (fz U))(o:Nat):Option (hl U):=
 match agg with
 |true=>match Nat.ble (o+n) cs.length with
  |true=>some (.agg ((cs.drop o).take n))
  |false=>none
 |false=>match cs[o]? with
  |some c=>some (.c c)
  |none=>none
def VT(gl:zJ)(gd:Option (Nat×Bool))(env:hM U):Option dy->Option (Option Int)
 |none=>some none
 |some x=>match q2 gl gd env x with
  |some (.c (.t ⟨.int _,n⟩))=>some (some n)
  |_=>none
def ail:List (hl U)->Option ey
 |[]=>some []
 |.c (.ptr b 0)::r=>match ail r with
  |some l=>some (b::l)
  |none=>none
 |_=>none
abbrev aAY(U:k9):=Option (Bool×hl U×fr U)
def Z4(U:k9)(t:c8)(l:List (t.den U.D))(i o:Nat)(cs:List (fz U)):Option (List (t.den U.D)):=
 match Yw U t (aeo ((t.row U (t.at U l i)).map .t) o cs)with
 |some x=>some (l.set i x)
 |none=>none
def aiv(t:c8):List (fz U)->Option (List (t.den U.D))
 |[]=>some []
 |.t c::r=>match c.as t,aiv t r with
  |some x,some l=>some (x::l)
  |_,_=>none
 |_::_=>none
def awW:List (fz U)->Option ((t:c8)×List (t.den U.D))
 |.t c::r=>match c.ty.ahx,aiv c.ty (.t c::r)with
  |false,some l=>some ⟨c.ty,l⟩
  |_,_=>none
 |_=>none
def aed(l:ev):b8:=l.map λm=>UInt8.ofNat m.toNat
def azT(fu len n:Nat):Bool:=decide (fu+len<=n)
def azv:List (fz U)->Option (fz U)
 |[.arr b]=>some (.arr b)
 |_=>none
def ka(gl:zJ)(gd:Option (Nat×Bool))(env:hM U)(J:fr U)(n:Nat)(o:l1):aAY U:=
 match o with
 |.mov x=>match q2 gl gd env x with
  |some v=>some (true,v,J)
  |none=>none
 |.pick c x y=>match q2 gl gd env c,alI gl gd env c true x,alI gl gd env c false y with
  |some (.c (.t ⟨.bool,b⟩)),some (.c (.t ⟨.bool,p⟩)),some (.c (.t ⟨.bool,q⟩))=>some (true,.c (.t ⟨.bool,bif b then p else q⟩),J)
  |_,_,_=>none
 |.alloc cs=>match WO cs with
  |some xs=>some (true,.c (.ptr n 0),k1 J n (.box xs))
  |none=>none
 |.allocA cs=>match WO cs with
  |some xs=>match awW xs with
   |some ⟨t,l⟩=>some (true,.c (.ptr n 0),k1 J n (.arr t l))
   |none=>none
  |none=>none
 |.idxP k x i=>match q2 gl gd env x,q2 gl gd env i with
  |some (.c (.ptr b 0)),some (.c (.t ⟨.int _,m⟩))=>match eg J b with
   |some (.arr t _)=>match Nat.beq (t.sz U) 1 with
    |true=>some (hz m k,.c (.k' b t (Int.toNat m) 0),J)
    |false=>none
   |_=>none
  |_,_=>none
 |.slcP k x fu ao=>match q2 gl gd env x,VT gl gd env fu,VT gl gd env ao with
  |some (.c (.ptr b 0)),some l,some h=>
   some (ME (l.getD 0) (h.getD (k:Int)) k,.c (.sub b (Int.toNat (l.getD 0)) (Int.toNat (h.getD (k:Int))-Int.toNat (l.getD 0))),J)
  |_,_,_=>none
 |.b2s x=>match q2 gl gd env x with
  |some (.c (.t ⟨.slice (.int .u8),l⟩))=>some (true,.c (.t ⟨.str,aed l⟩),J)
  |some (.c .hN)=>some (true,.c (.t ⟨.str,[]⟩),J)
  |some (.c (.arr b))=>match eg J b with
   |some (.arr (.int .u8) l)=>some (true,.c (.t ⟨.str,aed l⟩),J)
   |_=>none
  |some (.c (.sub b fu len))=>match eg J b with
   |some (.arr (.int .u8) l)=>some (azT fu len (List.length l),.c (.t ⟨.str,aed ((l.drop fu).take len)⟩),J)
   |_=>none
  |_=>none
 |.allocS e e8=>some (true,.c (.ptr n 0),k1 (k1 J (n+1) (.buf e8 [])) n (.hZ e (.lJ (n+1))))
 |.bsliceT e sz len z parts=>match U.aAb e with
  |none=>none
  |some t=>match WO z with
   |some tw=>match NG tw with
    |none=>none
    |some _=>match Nat.beq tw.length sz with
     |false=>none
     |true=>match acg gl gd env sz (List.replicate len tw) parts with
      |some rows=>match Us U t rows with
       |some l=>some (true,.c (.t ⟨.slice t,l⟩),J)
       |none=>none
      |none=>none
   |none=>none
 |.mkset=>some (true,.c (.mp n),k1 J n (.set []))
 |.lkset x k=>match q2 gl gd env x,q2 gl gd env k with
  |some (.c (.mp b)),some (.c (.t ⟨.str,s⟩))=>match eg J b with
   |some (.set ks)=>some (true,.c (.t ⟨.bool,Pn ks s⟩),J)
   |_=>none
  |_,_=>none
 |.upset x k=>match q2 gl gd env x,q2 gl gd env k with
  |some (.c (.mp b)),some (.c (.t ⟨.str,s⟩))=>match eg J b with
   |some (.set ks)=>some (true,.e2 [],k1 J b (.set (O7 ks s)))
   |_=>none
  |_,_=>none
 |.appendB e bytes x y=>match q2 gl gd env x,q2 gl gd env y with
  |some (.c (.lJ b)),some (.c (.t ⟨.str,s⟩))=>match eg J b with
   |some (.buf pJ l)=>match Nat.beq pJ e with
    |true=>some (q5 bytes (List.length l+List.length s),.c (.lJ n),k1 (dl J b) n (.buf e (aoh l s)))
    |false=>none
   |_=>none
  |_,_=>none
 |.sdata x=>match q2 gl gd env x with
  |some (.c (.lJ b))=>some (true,.c (.y2 b),J)
  |_=>none
 |.ustr e x k=>match q2 gl gd env x,q2 gl gd env k with
  |some (.c (.y2 b)),some (.c (.t ⟨.int .i64,m⟩))=>match eg J b with
   |some (.buf pJ l)=>match Nat.beq pJ e with
    |true=>some (NN m (List.length l:Int),.c (.t ⟨.str,l⟩),dl J b)
    |false=>none
   |_=>none
  |_,_=>none
 |.box x=>match q2 gl gd env x with
  |some v=>match Xv v with
   |some cs=>some (true,.c (.ptr n 0),k1 J n (.box cs))
   |none=>none
  |none=>none
 |.build z parts=>match WO z with
  |some tw=>match af5 gl gd env tw parts with
   |some cs=>some (true,.agg cs,J)
   |none=>none
  |none=>none
 |.bslice sz len z parts=>match WO z with
  |some tw=>match NG tw with
   |none=>none
   |some _=>match Nat.beq tw.length sz with
    |false=>none
    |true=>match acg gl gd env sz (List.replicate len tw) parts with
     |some rows=>some (true,.c (.arr n),k1 J n (.rows sz rows))
     |none=>none
  |none=>none
 |.load agg k x=>match q2 gl gd env x with
  |some (.c (.ptr b o))=>match eg J b with
   |some (.box cs)=>match YE agg k cs o with
    |some v=>some (true,v,J)
    |none=>none
   |some (.hZ _ c)=>match agg,o with
    |false,1=>some (true,.c c,J)
    |_,_=>none
   |_=>none
  |some (.c (.k' b t i o))=>match eg J b with
   |some (.arr Jt l)=>match Cell.as (.slice t) (⟨.slice Jt,l⟩:Cell U.D)with
    |some l=>match YE agg k ((t.row U (t.at U l i)).map .t) o with
     |some v=>some (decide (i<l.length),v,J)
     |none=>none
    |none=>none
   |some (.kx Jt l py ny c)=>match agg with
    |true=>none
    |false=>match Nat.beq o ny with
     |true=>match Nat.beq (t.sz U) (Jt.sz U)with
      |true=>some (decide (i=py),.c c,J)
      |false=>none
     |false=>match Cell.as (.slice t) (⟨.slice Jt,l⟩:Cell U.D)with
      |some l=>match YE false k ((t.row U (t.at U l i)).map .t) o with
       |some v=>some (decide (i<l.length),v,J)
       |none=>none
      |none=>none
   |_=>none
  |some (.c (.vt t x o))=>match YE agg k ((t.row U x).map .t) o with
   |some v=>some (true,v,J)
   |none=>none
  |_=>none
 |.store k x v=>match q2 gl gd env x,q2 gl gd env v with
  |some (.c (.ptr b o)),some v=>match Xv v with
   |some cs=>match Nat.beq cs.length k with
    |true=>match eg J b with
     |some (.box ds)=>match Nat.ble (o+k) ds.length with
      |true=>some (true,.e2 [],k1 J b (.box (aeo ds o cs)))
      |false=>none
     |some (.hZ e _)=>match o,cs with
      |1,[c]=>some (true,.e2 [],k1 J b (.hZ e c))
      |_,_=>none
     |_=>none
    |false=>none
   |none=>none
  |some (.c (.k' b t i o)),some v=>match Xv v with
   |some cs=>match Nat.beq cs.length k&&Nat.ble (o+k) (t.sz U)with
    |true=>match eg J b with
     |some (.arr Jt l)=>match Cell.as (.slice t) (⟨.slice Jt,l⟩:Cell U.D)with
      |some l=>match azv cs with
       |some c=>some (decide (i<l.length),.e2 [],k1 J b (.kx t l i o c))
       |none=>match Z4 U t l i o cs with
        |some C0=>some (decide (i<l.length),.e2 [],k1 J b (.arr t C0))
        |none=>none
      |none=>none
     |some (.kx Jt l py ny KU)=>match cs with
      |[c]=>match Nat.beq o ny with
       |true=>match Nat.beq (t.sz U) (Jt.sz U)with
        |true=>some (decide (i=py),.e2 [],k1 J b (.kx Jt l py ny c))
        |false=>none
       |false=>match Cell.as (.slice t) (⟨.slice Jt,l⟩:Cell U.D)with
        |some l=>match Z4 U t l i o [c]with
         |some C0=>some (decide (i<l.length),.e2 [],k1 J b (.kx t C0 py ny KU))
         |none=>none
        |none=>none
      |_=>none
     |_=>none
    |false=>none
   |none=>none
  |_,_=>none
 |.nilCheck x=>match q2 gl gd env x with
  |some (.c (.ptr b o))=>some (true,.c (.ptr b o),J)
  |some (.c (.k' b t i o))=>some (true,.c (.k' b t i o),J)
  |some (.c (.vt t x o))=>some (true,.c (.vt t x o),J)
  |_=>none
 |.bin op x y=>match q2 gl gd env x,q2 gl gd env y with
  |some (.c (.t p)),some (.c (.t q))=>match aqV op p q with
   |some (c,r)=>some (c,.c (.t r),J)
   |none=>none
  |_,_=>none
 |.eqAgg neg ks x y=>match q2 gl gd env x,q2 gl gd env y with
  |some (.agg p),some (.agg q)=>match aio ks p q with
   |some r=>some (true,.c (.t ⟨.bool,match neg with|true=>!r|false=>r⟩),J)
   |none=>none
  |_,_=>none
 |.eqBool neg x y=>match q2 gl gd env x,q2 gl gd env y with
  |some (.c (.t ⟨.bool,p⟩)),some (.c (.t ⟨.bool,q⟩))=>some (true,.c (.t ⟨.bool,match neg with|true=>!(JB p q)|false=>JB p q⟩),J)
  |_,_=>none
 |.not x=>match q2 gl gd env x with
  |some (.c (.t ⟨.bool,b⟩))=>some (true,.c (.t ⟨.bool,!b⟩),J)
  |_=>none
 |.conv k x=>match q2 gl gd env x with
  |some (.c (.t ⟨.int _,m⟩))=>some (true,.c (.t ⟨.int k,G' k m⟩),J)
  |_=>none
 |.i2s x=>match q2 gl gd env x with
  |some (.c (.t ⟨.int _,m⟩))=>some (true,.c (.t ⟨.str,aIB m⟩),J)
  |_=>none
 |.s2s x=>match q2 gl gd env x with
  |some (.c (.t ⟨.str,s⟩))=>some (true,.c (.t ⟨.str,s⟩),J)
  |_=>none
 |.fldA off x=>match q2 gl gd env x with
  |some (.c (.ptr b o))=>some (true,.c (.ptr b (o+off)),J)
  |some (.c (.k' b t i o))=>some (true,.c (.k' b t i (o+off)),J)
  |some (.c (.vt t x o))=>some (true,.c (.vt t x (o+off)),J)
  |_=>none
 |.fld agg off k x=>match q2 gl gd env x with
  |some (.agg cs)=>match YE agg k cs off with
   |some v=>some (true,v,J)
   |none=>none
  |_=>none
 |.idxA sz x i=>match q2 gl gd env x,q2 gl gd env i with
  |some (.c (.t ⟨.slice t,l⟩)),some (.c (.t ⟨.int _,m⟩))=>match Nat.beq (t.sz U) sz with
   |true=>some (hz m l.length,.c (.vt t (t.at U l (Int.toNat m)) 0),J)
   |false=>none
  |some (.c (.arr b)),some (.c (.t ⟨.int _,m⟩))=>match eg J b with
   |some (.arr t l)=>match Nat.beq (t.sz U) sz with
    |true=>some (hz m l.length,.c (.k' b t (Int.toNat m) 0),J)
    |false=>none
   |_=>none
  |_,_=>none
 |.idxS x i=>match q2 gl gd env x,q2 gl gd env i with
  |some (.c (.t ⟨.str,s⟩)),some (.c (.t ⟨.int _,m⟩))=>some (hz m s.length,.c (.t ⟨.int .u8,m5 s m⟩),J)
  |_,_=>none
 |.slcS x fu ao=>match q2 gl gd env x,VT gl gd env fu,VT gl gd env ao with
  |some (.c (.t ⟨.str,s⟩)),some l,some h=>
   some (ME (l.getD 0) (h.getD (s.length:Int)) s.length,.c (.t ⟨.str,LY s (l.getD 0) (h.getD (s.length:Int))⟩),J)
  |_,_,_=>none
 |.slc sz x fu ao=>match q2 gl gd env x,VT gl gd env fu,VT gl gd env ao with
  |some (.c (.t ⟨.slice t,s⟩)),some l,some h=>match Nat.beq (t.sz U) sz with
   |true=>some (ME (l.getD 0) (h.getD (s.length:Int)) s.length,.c (.t ⟨.slice t,LY s (l.getD 0) (h.getD (s.length:Int))⟩),J)
   |false=>none
  |some (.c (.arr b)),some none,some h=>match eg J b with
   |some (.arr t s)=>match Nat.beq (t.sz U) sz with
    |true=>some (ME 0 (h.getD (s.length:Int)) s.length,.c (.pre b (Int.toNat (h.getD (s.length:Int)))),J)
    |false=>none
   |_=>none
  |some (.c (.arr b)),some (some fu),some h=>match eg J b with
   |some (.arr t s)=>match Nat.beq (t.sz U) sz with
    |true=>some (ME fu (h.getD (s.length:Int)) s.length,.c (.LU b (Int.toNat fu) (Int.toNat (h.getD (s.length:Int))-Int.toNat fu)),J)
    |false=>none
   |_=>none
  |_,_,_=>none
 |.slc0 x=>match q2 gl gd env x with
  |some (.c (.t ⟨.slice _,_⟩))=>some (true,.c .hN,J)
  |some (.c .hN)=>some (true,.c .hN,J)
  |some (.c (.arr _))=>some (true,.c .hN,J)
  |_=>none
 |.mkfn f caps=>match Rf gl gd env caps with
  |some vs=>match ail vs with
   |some l=>some (true,.c (.fn f l),J)
   |none=>none
  |none=>none
 |.ext x i=>match q2 gl gd env x with
  |some (.e2 vs)=>match vs[i]? with
   |some v=>some (true,v,J)
   |none=>none
  |_=>none
 |.len str x=>match str,q2 gl gd env x with
  |true,some (.c (.t ⟨.str,s⟩))=>some (true,.c (.t ⟨.int .i64,(s.length:Int)⟩),J)
  |false,some (.c (.lJ b))=>match eg J b with
   |some (.buf _ s)=>some (true,.c (.t ⟨.int .i64,(s.length:Int)⟩),J)
   |_=>none
  |false,some v=>match Z1 J v with
   |some e=>some (true,.c (.t ⟨.int .i64,(e.1.len:Int)⟩),J)
   |none=>none
  |_,_=>none
 |.append sz bytes x y=>match q2 gl gd env x,q2 gl gd env y with
  |some (.c .hN),some v=>match Z1 J v with
   |some (Sl,_)=>match Sl.blk sz with
    |some blk=>some (q5 bytes Sl.len,.c (.arr n),k1 J n blk)
    |none=>none
   |none=>none
  |some (.c (.arr b)),some v=>match Z1 J (.c (.arr b)),Z1 J v with
   |some (aAl,_),some (Sl,alM)=>match (match alM with|some hf=>Nat.beq hf b|none=>false)with
    |true=>none
    |false=>match aAn J b sz with
     |false=>none
     |true=>match aAl.join Sl with
      |some arc=>match arc.blk sz with
       |some blk=>some (q5 bytes arc.len,.c (.arr n),k1 (dl J b) n blk)
       |none=>none
      |none=>none
   |_,_=>none
  |some (.c (.pre b h)),some (.c (.LU hf fu len))=>match Nat.beq b hf with
   |true=>match eg J b with
    |some (.arr t l)=>match Nat.beq (t.sz U) sz with
     |true=>some (decide (h+len<=l.length)&&decide (fu+len<=l.length),.c (.arr n),k1 (dl J b) n (.arr t (l.take h++(l.drop fu).take len)))
     |false=>none
    |_=>none
   |false=>none
  |_,_=>none
 |.max2 x y=>match q2 gl gd env x,q2 gl gd env y with
  |some (.c (.t ⟨.int k,a⟩)),some (.c (.t ⟨.int h8,b⟩))=>if k=h8 then some (true,.c (.t ⟨.int k,ZC a b⟩),J)else none
  |_,_=>none
 |.min2 x y=>match q2 gl gd env x,q2 gl gd env y with
  |some (.c (.t ⟨.int k,a⟩)),some (.c (.t ⟨.int h8,b⟩))=>if k=h8 then some (true,.c (.t ⟨.int k,ahC a b⟩),J)else none
  |_,_=>none
 |.eqNil .. |.call .. |.OK .. =>none
end
section
open Go
variable {U:k9}
inductive i' (N:Nat)(J:fr U):fz U->C->Prop
 |t (c:Cell U.D):i' N J (.t c) (.t (c.enc U))
 |ptr (b o:Nat):i' N J (.ptr b o) (.ptr b o)
 |k' (b:Nat) (t:c8) (i o:Nat):i' N J (.k' b t i o) (.k' b (t.sz U) i o)
 |vt (t:c8) (x:t.den U.D) (o:Nat):i' N J (.vt t x o) (.vt (t.enc U x) o)
 |arr (b sz n:Nat) (ai:b<N) (h:∀x,eg J b=some x->∀p,x.rz=some p->p=(sz,n)):i' N J (.arr b) (.arr b sz 0 n)
 |sub (b fu len:Nat):i' N J (.sub b fu len) (.J0 b 1 fu len)
 |pre (b sz h:Nat) (ai:b<N) (gb:∀x,eg J b=some x->∀p,x.rz=some p->p.1=sz):i' N J (.pre b h) (.arr b sz 0 h)
 |LU (b sz fu len:Nat) (ai:b<N) (gb:∀x,eg J b=some x->∀p,x.rz=some p->p.1=sz):i' N J (.LU b fu len) (.J0 b sz fu len)
 |mp (b:Nat):i' N J (.mp b) (.mp b)
 |y2 (b:Nat):i' N J (.y2 b) (.y2 b)
 |lJ (b n:Nat) (ai:b<N) (h:∀x,eg J b=some x->∀p,x.rz=some p->p=(1,n)):i' N J (.lJ b) (.lJ b n)
 |hN:i' N J .hN .hN
 |Jq:i' N J .Jq .Jq
 |Jp:i' N J .Jp .Jp
 |fn (f:Nat) (caps:ey):i' N J (.fn f caps) (.fn f caps)
 |dead (d:C):i' N J .dead d
inductive hV (N:Nat)(J:fr U):hl U->V->Prop
 |c {x d}:i' N J x d->hV N J (.c x) (.c d)
 |agg {xs ds}:er (i' N J) xs ds->hV N J (.agg xs) (.agg ds)
 |e2 (xs:List (hl U)) (ds:List V) (ar:xs.length=ds.length) (h:∀(i:Nat) x d,xs[i]?=some x->ds[i]?=some d->hV N J x d):hV N J (.e2 xs) (.e2 ds)
inductive NJ (N:Nat)(J:fr U):ni U->hF->Prop
 |box {cs ds}:er (i' N J) cs ds->NJ N J (.box cs) (.box ds)
 |arr (t:c8) (l:List (t.den U.D)):NJ N J (.arr t l) (.arr (t.sz U) (l.map (t.enc U)))
 |set (ks:List b8):NJ N J (.set ks) (.set ks)
 |buf (E:Nat) (s:b8):NJ N J (.buf E s) (.buf E s)
 |hZ {E c d}:i' N J c d->NJ N J (.hZ E c) (.hZ E d)
 |kx (t:c8) (l:List (t.den U.D)) (i o:Nat) {c d}:i' N J c d->NJ N J (.kx t l i o c) (.kx (t.sz U) (l.map (t.enc U)) i o d)
 |rows {sz r es}:er (λr e=>NG r=some e) r es->(∀x,x∈r->x.length=sz)->NJ N J (.rows sz r) (.arr sz es)
def l3(N:Nat)(J:fr U)(J1:ee):Prop:=∀b x,eg J b=some x->b<N/\∃y,eb J1 b=some y/\NJ N J x y
def pq(N:Nat)(J:fr U)(G:Nat->Bool)(env:hM U)(env1:hc):Prop:=∀k v,eg env k=some v->∃v1,look env1 k=some (G k,v1)/\hV N J v v1
structure MF (gl:zJ)(env:hM U)(G:Nat->Bool):Prop where
 free:∀k,eg gl k=none->G k=true
 held:∀k t b,eg gl k=some (t,b)->∃y,JA env t b=some y/\G k=(G t&&y)
def rm(N:Nat)(J:fr U)(N':Nat)(J':fr U):Prop:=N<=N'/\∀b hO,b<N->eg J' b=some hO->∃x,eg J b=some x/\∀p,hO.rz=some p->x.rz=some p
theorem rm.refl{N:Nat}{J:fr U}:rm N J N J:=⟨DJ _,λ_ x _ h=>⟨x,h,λ_ h=>h⟩⟩
theorem rm.more{N N':Nat}{J:fr U}(h:N<=N'):rm N J N' J:=⟨h,λ_ x _ h=>⟨x,h,λ_ h=>h⟩⟩
theorem rm.trans{SJ Ru aeE:Nat}{s1 s2 Ul:fr U}(h:rm SJ s1 Ru s2)(k:rm Ru s2 aeE Ul):rm SJ s1 aeE Ul:=
 ⟨Ug h.1 k.1,λb x ai aa=>let⟨y,h1,ad⟩:=k.2 b x (Uc ai h.1) aa;let⟨z,a',d'⟩:=h.2 b y ai h1;⟨z,a',λp aJ=>d' p (ad p aJ)⟩⟩
section
variable {N N':Nat}{J J':fr U}{J1:ee}{env:hM U}{env1:hc}{G:Nat->Bool}{gl:zJ}{gd:Option (Nat×Bool)}
theorem i'.mono(k:rm N J N' J'){x:fz U}{d:C}(h:i' N J x d):i' N' J' x d:=by
 cases h with
 |t c=>exact .t c
 |ptr b o=>exact .ptr b o
 |k' b t i o=>exact .k' b t i o
 |vt t x o=>exact .vt t x o
 |arr b sz n ai h=>
  refine .arr b sz n (Uc ai k.1) λx aa p aJ=>?_
  obtain⟨y,h1,ad⟩:=k.2 b x ai aa
  grind
 |sub b fu len=>exact .sub b fu len
 |pre b sz n ai h=>
  refine .pre b sz n (Uc ai k.1) λx aa p aJ=>?_
  obtain⟨y,h1,ad⟩:=k.2 b x ai aa
  grind
 |LU b sz fu len ai h=>
  refine .LU b sz fu len (Uc ai k.1) λx aa p aJ=>?_
  obtain⟨y,h1,ad⟩:=k.2 b x ai aa;exact h y h1 p (ad p aJ)
 |mp b=>exact .mp b
 |y2 b=>exact .y2 b
 |lJ b n ai h=>
  refine .lJ b n (Uc ai k.1) λx aa p aJ=>?_
  obtain⟨y,h1,ad⟩:=k.2 b x ai aa
  grind
 |hN=>exact .hN
 |Jq=>exact .Jq
 |Jp=>exact .Jp
 |fn f caps=>exact .fn f caps
 |dead d=>exact .dead d
theorem hV.mono(k:rm N J N' J'){x:hl U}{d:V}(h:hV N J x d):hV N' J' x d:=by
 induction h with
 |c h=>exact .c (h.mono k)
 |agg h=>exact .agg (h.imp λ_ _ _=>i'.mono k)
 |e2 xs ds ar h ih=>exact .e2 xs ds ar ih
theorem NJ.mono(k:rm N J N' J'){x:ni U}{d:hF}(h:NJ N J x d):NJ N' J' x d:=by
 cases h with
 |box h=>exact .box (h.imp λ_ _ _=>i'.mono k)
 |arr t l=>exact .arr t l
 |set ks=>exact .set ks
 |buf E s=>exact .buf E s
 |hZ h=>exact .hZ (h.mono k)
 |kx t l i o h=>exact .kx t l i o (h.mono k)
 |rows h ad=>exact .rows h ad
theorem pq.mono(k:rm N J N' J')(h:pq N J G env env1):pq N' J' G env env1:=λi v ao=>let⟨v1,h1,ad⟩:=h i v ao;⟨v1,h1,ad.mono k⟩
theorem l3.put(h:l3 N J J1){b:Nat}{x:ni U}{y:hF}(ai:b<N')(k:rm N J N' (k1 J b x))(al:NJ N' (k1 J b x) x y):l3 N' (k1 J b x) (qJ J1 b y):=by
 intro c z gb;rw[Nv]at gb;rw[n2];by_cases aKM:b=c
 . grind
 . rw[cx aKM]at gb⊢;obtain⟨h1,NH,ad,a'⟩:=h c z gb;exact⟨Uc h1 k.1,NH,ad,a'.mono k⟩
theorem TD{x:ni U}(h:N<=N':=by omega):rm N J N' (k1 J N x):=by
 refine⟨h,λb hO ai aa=>?_⟩;rw[Nv,I2]at aa
 grind
theorem VM{b:Nat}{x b9:ni U}(h:N<=N')(h0:eg J b=some b9)(ay:∀p,x.rz=some p->b9.rz=some p):rm N J N' (k1 J b x):=by
 refine⟨h,λc hO ai aa=>?_⟩;rw[Nv]at aa
 grind
theorem aao{b:Nat}:rm N J N (dl J b):=by
 refine⟨DJ _,λc hO ai aa=>?_⟩;rw[Wv]at aa
 grind
theorem atJ{d:C}{x:fz U}(h:alH d=some x):i' N J x d:=by
 unfold alH at h;split at h<;>cases h
 . exact i'.t (U:=U) ⟨.bool,_⟩
 . exact i'.t (U:=U) ⟨.int _,_⟩
 . exact i'.t (U:=U) ⟨.str,_⟩
 . exact .hN
 . exact .Jq
 . exact .Jp
 . exact .dead _
 . exact .fn _ _
theorem aah:∀{ds:List C} {xs:List (fz U)},WO ds=some xs->er (i' N J) xs ds
 |[],xs,h=>by simp[WO]at h;subst h;exact .nil
 |d::ds,xs,h=>by
  simp only[WO]at h;split at h
  . rename_i x ys h1 ad;cases h;exact .cons (atJ h1) (aah ad)
  . cases h
theorem atK{d:V}{x:hl U}(h:aep d=some x):hV N J x d:=by
 cases d with
 |c d=>
  simp only[aep]at h;split at h
  . rename_i y bo;cases h;exact .c (atJ bo)
  . cases h
 |agg ds=>
  simp only[aep]at h;split at h
  . rename_i y bo;cases h;exact .agg (aah bo)
  . cases h
 |e2 _=>simp[aep]at h
def k3(env:hM U)(G:Nat->Bool):Option (Nat×Bool)->Bool
 |none=>true
 |some (t,b)=>G t&&(JA env t b).getD false
theorem MF.eg(a8:MF gl env G)(k:Nat):k3 env G (eg gl k)=G k:=by
 cases h:Shv.eg gl k with
 |none=>exact(a8.free k h).symm
 |some g=>
  obtain⟨t,b⟩:=g;obtain⟨y,h1,ad⟩:=a8.held k t b h;simp[k3,h1,ad]
theorem ajg(a8:MF gl env G):∀{Og:Nat} {gd:Option (Nat×Bool)} {g:Bool},SY gl env Og gd=some g->g=k3 env G gd
 |_,none,g,h=>by unfold SY at h;simp at h;subst h;rfl
 |0,some _,g,h=>by simp[SY]at h
 |Og+1,some (t,b),g,h=>by
  simp only[SY]at h;split at h
  . rename_i x y h1 ad;cases h;rw[ajg a8 h1,a8.eg t];simp[k3,ad]
  . cases h
theorem aHz:∀{Og:Nat} {t:Nat} {b:Bool} {g:Bool},SY gl env Og (some (t,b))=some g->∃y,JA env t b=some y
 |0,t,b,g,h=>by simp[SY]at h
 |Og+1,t,b,g,h=>by
  simp only[SY]at h
  grind
theorem hV.xJ{x:fz U}{v1:V}(h:hV N J (.c x) v1):∃d,v1= .c d/\i' N J x d:=by cases h with|c h=>exact⟨_,rfl,h⟩
theorem hV.aaY{xs:List (fz U)}{v1:V}(h:hV N J (.agg xs) v1):∃ds,v1= .agg ds/\er (i' N J) xs ds:=by cases h with|agg h=>exact⟨_,rfl,h⟩
theorem hV.aeh{c:Cell U.D}{v1:V}(h:hV N J (.c (.t c)) v1):v1= .c (.t (c.enc U)):=by obtain⟨d,rfl,ak⟩:=h.xJ;cases ak;rfl
theorem hV.P0{b:Bool}{v1:V}(h:hV N J (.c (.t ⟨.bool,b⟩)) v1):v1= .c (.t (.bool b)):=h.aeh
theorem hV.Lp{k:IntKind}{m:Int}{v1:V}(h:hV N J (.c (.t ⟨.int k,m⟩)) v1):v1= .c (.t (.int k m)):=h.aeh
theorem hV.Q9{s:b8}{v1:V}(h:hV N J (.c (.t ⟨.str,s⟩)) v1):v1= .c (.t (.str s)):=h.aeh
theorem hV.Q8{t:c8}{l:List (t.den U.D)}{v1:V}(h:hV N J (.c (.t ⟨.slice t,l⟩)) v1):v1= .c (.t (.slice (l.map (t.enc U)))):=h.aeh
theorem hV.Ny{b o:Nat}{v1:V}(h:hV N J (.c (.ptr b o)) v1):v1= .c (.ptr b o):=by obtain⟨d,rfl,ak⟩:=h.xJ;cases ak;rfl
theorem hV.Ph{b i o:Nat}{t:c8}{v1:V}(h:hV N J (.c (.k' b t i o)) v1):v1= .c (.k' b (t.sz U) i o):=by obtain⟨d,rfl,ak⟩:=h.xJ;cases ak;rfl
theorem hV.apH{o:Nat}{t:c8}{x:t.den U.D}{v1:V}(h:hV N J (.c (.vt t x o)) v1):v1= .c (.vt (t.enc U x) o):=by obtain⟨d,rfl,ak⟩:=h.xJ;cases ak;rfl
theorem hV.ac9{v1:V}(h:hV N J (.c .hN) v1):v1= .c .hN:=by obtain⟨d,rfl,ak⟩:=h.xJ;cases ak;rfl
theorem hV.MR{b:Nat}{v1:V}(h:hV N J (.c (.arr b)) v1):∃sz n,v1= .c (.arr b sz 0 n)/\b<N/\∀x,Shv.eg J b=some x->∀p,x.rz=some p->p=(sz,n):=by
 obtain⟨d,rfl,ak⟩:=h.xJ;cases ak with
 |arr _ sz n ai ad=>exact⟨_,_,rfl,ai,ad⟩
theorem hV.apR{b:Nat}{v1:V}(h:hV N J (.c (.mp b)) v1):v1= .c (.mp b):=by obtain⟨d,rfl,ak⟩:=h.xJ;cases ak;rfl
theorem hV.azR{b:Nat}{v1:V}(h:hV N J (.c (.y2 b)) v1):v1= .c (.y2 b):=by obtain⟨d,rfl,ak⟩:=h.xJ;cases ak;rfl
theorem hV.akh{b:Nat}{v1:V}(h:hV N J (.c (.lJ b)) v1):∃n,v1= .c (.lJ b n)/\b<N/\∀x,Shv.eg J b=some x->∀p,x.rz=some p->p=(1,n):=by
 obtain⟨d,rfl,ak⟩:=h.xJ;cases ak with
 |lJ _ n ai ad=>exact⟨_,rfl,ai,ad⟩
theorem hV.aoC{f:Nat}{caps:ey}{v1:V}(h:hV N J (.c (.fn f caps)) v1):v1= .c (.fn f caps):=by
 obtain⟨d,rfl,ak⟩:=h.xJ;cases ak;rfl
theorem aHA{t:Nat}{b y:Bool}(he:pq N J G env env1)(h:JA env t b=some y):∃x,look env1 t=some (G t,.c (.t (.bool x)))/\y=(x==b):=by
 unfold JA at h;split at h
 . rename_i x aa;cases h;obtain⟨v1,h1,ad⟩:=he t _ aa;have:=ad.P0
   grind
 . cases h
theorem ajo(he:pq N J G env env1)(h:gd=none\/∃t b y,gd=some (t,b)/\JA env t b=some y):mt env1 gd=some (k3 env G gd):=by
 rcases h with rfl|⟨t,b,y,rfl,h⟩
 . rfl
 . obtain⟨x,h1,rfl⟩:=aHA he h;simp[mt,h1,k3,h]
theorem ajh(a8:MF gl env G):∀{Og:Nat} {gd:Option (Nat×Bool)} {k:Nat},k3 env G gd=true->aee gl Og gd k=true->G k=true
 |0,gd,k,_,h=>by simp[aee]at h
 |Og+1,gd,k,ay,h=>by
  simp only[aee]at h;split at h
  . rename_i hk;exact a8.free k hk
  . rename_i NQ hk;split at h
    . cases h
    . rename_i g;obtain⟨t,b⟩:=g;obtain⟨Jt,hf⟩:=NQ;simp only[Oz,h5,OX]at h;rcases h with⟨h1,ad⟩|h
      . have:=em h1;subst this;subst ad;obtain⟨y,ha,hg⟩:=a8.held k t b hk;simp only[k3,ha,WC]at ay;rw[hg,ay]
      . refine ajh a8 (gd:=Shv.eg gl t) ?_ h;rw[a8.eg t];simp only[k3,h5]at ay;exact ay.1
theorem ki(he:pq N J G env env1)(a8:MF gl env G){x:dy}{v:hl U}(h:q2 gl gd env x=some v):
 ∃p v1,x.get env1=some (p,v1)/\hV N J v v1/\(k3 env G gd=true->p):=by
 cases x with
 |const d=>exact⟨True,d,rfl,atK h,λ_=>trivial⟩
 |tmp k=>
  simp only[q2]at h;split at h
  . rename_i hs;obtain⟨v1,h1,ad⟩:=he k v h;exact⟨_,v1,by simp[dy.get,h1],ad,λay=>ajh a8 ay hs⟩
  . cases h
theorem auy(he:pq N J G env env1)(a8:MF gl env G){c x:dy}{b y:Bool}{v aqR:hl U}(a7:q2 gl gd env c=some aqR)(Ll:aqR= .c (.t ⟨.bool,y⟩))(h:alI gl gd env c b x=some v):
 ∃p v1,x.get env1=some (p,v1)/\hV N J v v1/\(k3 env G gd=true->y=b->p):=by
 cases x with
 |const d=>exact⟨True,d,rfl,atK h,λ_ _=>trivial⟩
 |tmp k=>
  simp only[alI]at h;split at h
  . rename_i hs;obtain⟨v1,h1,ad⟩:=he k v h;exact⟨_,v1,by simp[dy.get,h1],ad,λay _=>ajh a8 ay hs⟩
  . split at h
    . rename_i azc t hf hk;split at h
      . rename_i ai;simp only[h5,OX]at ai;obtain⟨h1,rfl⟩:=ai;have:=em h1;subst this;obtain⟨v1,h1,ad⟩:=he k v h;refine⟨G k=true,v1,by simp[dy.get,h1],ad,λay bo=>?_⟩;simp only[q2]at a7;split at a7
        . rename_i hs;have aKu:=ajh a8 ay hs;obtain⟨NH,ha,hg⟩:=a8.held k t hf hk;simp only[JA,a7,Ll]at ha;rw[hg,aKu];subst bo;cases y<;>simp at ha<;>simp[<-ha]
        . cases a7
      . cases h
    . cases h
theorem aak(he:pq N J G env env1)(a8:MF gl env G):∀{xs:List dy} {vs:List (hl U)},Rf gl gd env xs=some vs->
 ∃p vs1,MY env1 xs=some (p,vs1)/\er (hV N J) vs vs1/\(k3 env G gd=true->p)
 |[],vs,h=>by simp[Rf]at h;subst h;exact⟨True,[],rfl,.nil,λ_=>trivial⟩
 |x::xs,vs,h=>by
  simp only[Rf]at h;split at h
  . rename_i v Tu h1 ad;cases h;obtain⟨p,v1,a1,a2,a3⟩:=ki he a8 h1;obtain⟨q,vs1,b1,b2,pI⟩:=aak he a8 ad;exact⟨p/\q,v1::vs1,by simp[MY,a1,b1],.cons a2 b2,λay=>⟨a3 ay,pI ay⟩⟩
  . cases h
theorem Xj{v:hl U}{v1:V}{cs:List (fz U)}(h:hV N J v v1)(a7:Xv v=some cs):∃ds,Xu v1=some ds/\er (i' N J) cs ds:=by
 cases h with
 |c h=>simp[Xv]at a7;subst a7;exact⟨_,rfl,.cons h .nil⟩
 |agg h=>simp[Xv]at a7;subst a7;exact⟨_,rfl,h⟩
 |e2=>simp[Xv]at a7
theorem anr{cs MH:List (fz U)}{ds yq:List C}{o:Nat}(h:er (i' N J) cs ds)(s':er (i' N J) MH yq):er (i' N J) (aeo cs o MH) (XY ds o yq):=by
 unfold aeo XY;rw[s'.length];exact((h.take o).append s').append (h.drop _)
theorem N5{a b:Nat}(h:Nat.ble a b=true):a<=b:=ak2 h
theorem ar9(he:pq N J G env env1)(a8:MF gl env G):∀{ps:List (Nat×Nat×dy)} {cs MH:List (fz U)} {ds:List C},af5 gl gd env cs ps=some MH->er (i' N J) cs ds->
 ∃p yq,SG env1 ds ps=some (p,yq)/\er (i' N J) MH yq/\(k3 env G gd=true->p)
 |[],cs,MH,ds,h,ay=>by simp[af5]at h;subst h;exact⟨True,ds,rfl,ay,λ_=>trivial⟩
 |(o,n,x)::r,cs,MH,ds,h,ay=>by
  simp only[af5]at h;split at h
  . cases h
  . rename_i v ch;split at h
    . cases h
    . rename_i es EJ;split at h
      . rename_i ai;simp only[h5]at ai;have KX:=em ai.1;have JS:=N5 ai.2;obtain⟨p,v1,a1,a2,a3⟩:=ki he a8 ch;obtain⟨fs,b1,b2⟩:=Xj a2 EJ;obtain⟨q,yq,kn,k0,A'⟩:=ar9 he a8 h (anr (o:=o) ay b2);refine⟨p/\q,yq,?_,k0,λay=>⟨a3 ay,A' ay⟩⟩;simp only[SG,a1,ec,b1]
        rw[bJ ⟨by rw[<-b2.length];exact KX,by rw[<-ay.length];exact JS⟩,kn];rfl
      . cases h
theorem aIg{x:fz U}{d:C}{t:T}(h:i' N J x d)(ht:x.toT=some t):Shv.toT d=some t:=by
 cases h<;>simp only[fz.toT,reduceCtorEq,hr]at ht
 . split at ht
   . cases ht
   . cases ht;rfl
 . subst ht;rfl
theorem ajp:∀{cs:List (fz U)} {ds:List C} {ts:List T},er (i' N J) cs ds->NG cs=some ts->toTs ds=some ts
 |[],[],ts,_,h=>by simp[NG]at h;subst h;rfl
 |c::cs,d::ds,ts,.cons h1 ad,h=>by
  simp only[NG]at h;split at h
  . rename_i t aqQ ht J7;cases h;simp[toTs,aIg h1 ht,ajp ad J7]
  . cases h
theorem anH:∀{cs:List (fz U)} {ts:List T},NG cs=some ts->ts.length=cs.length
 |[],ts,h=>by simp[NG]at h;subst h;rfl
 |c::cs,ts,h=>by
  simp only[NG]at h;split at h
  . rename_i t aqQ ht J7;cases h;simp[anH J7]
  . cases h
theorem er.set{α β:Type}{R:α->β->Prop}{l:List α}{m:List β}(h:er R l m){i:Nat}{a:α}{b:β}(zv:R a b):er R (l.set i a) (m.set i b):=by
 induction h generalizing i with
 |nil=>exact .nil
 |cons h1 ad ih=>cases i with
  |zero=>exact .cons zv ad
  |succ i=>exact .cons h1 ih
theorem amm(he:pq N J G env env1)(a8:MF gl env G){sz:Nat}:∀{ps:List (Nat×dy)} {rs ah9:List (List (fz U))} {es:List (List T)},acg gl gd env sz rs ps=some ah9->
 er (λr e=>NG r=some e) rs es->(∀r,r∈rs->r.length=sz)->∃p es',Qh env1 sz es ps=some (p,es')/\er (λr e=>NG r=some e) ah9 es'/\(∀r,r∈ah9->r.length=sz)/\(k3 env G gd=true->p)
 |[],rs,ah9,es,h,al,ar=>by simp[acg]at h;subst h;exact⟨True,es,rfl,al,ar,λ_=>trivial⟩
 |(i,x)::ps,rs,ah9,es,h,al,ar=>by
  simp only[acg]at h;split at h
  . cases h
  . rename_i v ch;split at h
    . cases h
    . rename_i cs sa;split at h
      . cases h
      . rename_i ts J7;split at h
        . rename_i ai;simp only[h5]at ai;have KX:=em ai.1;have JS:=N5 ai.2;obtain⟨p,v1,a1,a2,a3⟩:=ki he a8 ch;obtain⟨ds,b1,b2⟩:=Xj a2 sa;obtain⟨q,es',kn,k0,OJ,A'⟩:=amm he a8 h (er.set al J7) (by grind);refine⟨p/\q,es',?_,k0,OJ,λay=>⟨a3 ay,A' ay⟩⟩;simp only[Qh,a1,ec,b1,ajp b2 J7]
          rw[bJ ⟨by rw[anH J7];exact KX,by rw[<-al.length];omega⟩,kn];rfl
        . cases h
end
end
section
open Go
variable {U:k9}
structure xn (N:Nat)(J:fr U)(J1:ee)(o:l1)(env1:hc)(g c:Bool)(v:hl U)(J':fr U):Prop where
 val:∃v1,hV (N+16) J' v v1/\(g=true->c=true->∃p f',dx o env1 J1 N=some (p,v1,f')/\p/\l3 (N+16) J' f')
 aOk:rm N J (N+16) J'
 aMp:o.neutral=true->J'=J
section
variable {N N':Nat}{J J':fr U}{J1:ee}{env:hM U}{env1:hc}{G:Nat->Bool}{gl:zJ}{gd:Option (Nat×Bool)}{c:Bool}{v:hl U}
theorem l3.mono(h:l3 N J J1)(vc:N<=N'):l3 N' J J1:=λb x aa=>
 let⟨h1,y,ad,a'⟩:=h b x aa;⟨Uc h1 vc,y,ad,a'.mono (rm.more vc)⟩
theorem xn.neutral{o:l1}{g:Bool}(cy:l3 N J J1){v1:V}(ch:hV N J v v1)(b6:g=true->c=true->∃p,dx o env1 J1 N=some (p,v1,J1)/\p):xn N J J1 o env1 g c v J:=
 ⟨⟨v1,ch.mono (rm.more (by omega)),λa8 a7=>let⟨p,h1,ad⟩:=b6 a8 a7;⟨p,J1,h1,ad,cy.mono (by omega)⟩⟩,rm.more (by omega),λ_=>rfl⟩
theorem xn.store{o:l1}{g:Bool}(eJ:o.neutral=false)(hk:rm N J (N+16) J'){v1:V}(ch:hV (N+16) J' v v1)(b6:g=true->c=true->∃p f',dx o env1 J1 N=some (p,v1,f')/\p/\l3 (N+16) J' f'):xn N J J1 o env1 g c v J':=
 ⟨⟨v1,ch,b6⟩,hk,λh=>by rw[eJ]at h;cases h⟩
theorem acL{agg:Bool}{k o:Nat}{cs:List (fz U)}{ds:List C}(a7:er (i' N J) cs ds)(h:YE agg k cs o=some v):∃v1,Qu agg k ds o=some v1/\hV N J v v1:=by
 unfold YE at h;split at h
 . split at h
   . rename_i ai;cases h;refine⟨_,by simp only[Qu,xe];rw[bJ (by rw[<-a7.length];exact N5 ai)],.agg ((a7.drop o).take k)⟩
   . cases h
 . split at h
   . rename_i x aa;cases h;obtain⟨d,h1,ad⟩:=a7.get aa;exact⟨_,by simp[Qu,h1],.c ad⟩
   . cases h
theorem er.map_map{α β LV aAJ:Type}{R:LV->aAJ->Prop}{f:α->LV}{g:β->aAJ}:∀{l:List α} {m:List β},er (λa b=>R (f a) (g b)) l m->er R (l.map f) (m.map g)
 |[],[],_=>.nil
 |_::_,_::_,.cons h1 ad=>.cons h1 (er.map_map ad)
theorem er.self{α:Type}{R:α->α->Prop}(h:∀a,R a a):∀(l:List α),er R l l
 |[]=>.nil
 |a::l=>.cons (h a) (er.self h l)
theorem aeH{t:c8}{x:t.den U.D}:er (i' N J) ((t.row U x).map .t) ((t.enc U x).map .t):=by
 rw[c8.adg,List.map_map];exact er.map_map (er.self (R:=λa b=>i' N J (.t a) (.t (b.enc U))) (λc=>i'.t c) _)
theorem am6{agg:Bool}{k o:Nat}{ts:List T}{v:V}(ar:Qu agg k (ts.map .t) o=some v):ZA agg k ts o=some v:=by
 unfold Qu at ar;unfold ZA;cases agg with
 |true=>simpa using ar
 |false=>simpa[Option.map_map]using ar
theorem aGK{op:BinOp}{p q:Cell U.D}{r:Cell U.D}(h:aqV op p q=some (c,r)):∃LR,SX op (p.enc U) (q.enc U)=some (LR,r.enc U)/\(c=true->LR):=by
 unfold aqV at h;split at h
 . rename_i k a h8 b;show ∃LR,SX op (.int k a) (.int h8 b)=some (LR,r.enc U)/\(c=true->LR);cases op<;>simp only[aAj,reduceCtorEq,tr,hr,ho]at h
   all_goals first
    |(obtain⟨rfl,rfl,rfl⟩:=h;exact⟨_,by simp only[SX,xe];rfl,λh=>by simpa using h⟩)
    |(obtain⟨rfl,rfl⟩:=h;exact⟨_,by simp only[SX];rfl,λh=>by simpa using h⟩)
    |(obtain⟨rfl,rfl,rfl⟩:=h;exact⟨_,by simp only[SX,xe];rfl,λh=>trivial⟩)
 . rename_i a b;show ∃LR,SX op (.str a) (.str b)=some (LR,r.enc U)/\(c=true->LR);cases op<;>simp only[aAk,reduceCtorEq,hr,ho]at h
   all_goals first
    |(obtain⟨rfl,rfl⟩:=h;exact⟨_,by simp only[SX];rfl,λh=>by simpa using h⟩)
    |(obtain⟨rfl,rfl⟩:=h;exact⟨_,by simp only[SX];rfl,λh=>trivial⟩)
 . cases h
theorem aGL{k:Nat}{x y:Cell U.D}{b:Bool}(h:aqX k x y=some b):aks k (x.enc U) (y.enc U)=some b:=by
 unfold aqX at h;split at h
 . cases h;rfl
 . simp only[tr,hr]at h;obtain⟨rfl,rfl⟩:=h;show(if _ then _ else _)=_;rw[bJ rfl];rfl
 . cases h;rfl
 . cases h
theorem aso:∀{ks:ey} {xs ys:List (fz U)} {ds es:List C} {b:Bool},aio ks xs ys=some b->er (i' N J) xs ds->er (i' N J) ys es->abd ks ds es=some b
 |[],[],[],[],[],b,h,.nil,.nil=>by simp[aio]at h;subst h;rfl
 |k::ks,.t x::xs,.t y::ys,d::ds,e::es,b,h,.cons h1 ad,.cons a' d'=>by
  simp only[aio]at h;split at h
  . rename_i b1 r ai al;cases h;cases h1;cases a';simp[abd,aGL ai,aso al ad d']
  . cases h
theorem aFB{a b:b8}:(aoh a b).length=a.length+b.length:=ZI
theorem aIC{a b:Int}:NN a b=true↔a=b:=by simp[NN]
theorem aar{m:Int}{n:Nat}:hz m n=true↔0<=m/\m.toNat<n:=by simp[hz]
theorem Qg{fu ao:Int}{n:Nat}:ME fu ao n=true↔0<=fu/\fu<=ao/\ao<=n:=by simp[ME]
theorem aJ0{t:c8}{s:List (t.den U.D)}{l r:Option Int}{pp pl LR:Prop}{sz:Nat}{J1:ee}:
 (some (pp/\pl/\LR/\0<=l.getD 0/\l.getD 0<=r.getD ((List.map (t.enc U) s).length:Int)/\r.getD ((List.map (t.enc U) s).length:Int)<=((List.map (t.enc U) s).length:Int)/\∀e,e∈List.map (t.enc U) s->e.length=sz,
  V.c (C.t (T.slice (((List.map (t.enc U) s).take (r.getD ((List.map (t.enc U) s).length:Int)).toNat).drop (l.getD 0).toNat))),J1):aix)=
 some (pp/\pl/\LR/\0<=l.getD 0/\l.getD 0<=r.getD (s.length:Int)/\r.getD (s.length:Int)<=(s.length:Int)/\∀e,e∈List.map (t.enc U) s->e.length=sz,
  V.c (C.t (Cell.enc U ⟨.slice t,LY s (l.getD 0) (r.getD (s.length:Int))⟩)),J1):=by
 have:Cell.enc U ⟨.slice t,LY s (l.getD 0) (r.getD (s.length:Int))⟩=T.slice (List.map (t.enc U) (LY s (l.getD 0) (r.getD (s.length:Int)))):=rfl;rw[this,PE];simp only[LY,ak6,ahJ]
theorem aJ1{α β:Type}{f:α->β}{l:List α}{p:Prop}{J1:ee}:(some (p,V.c (C.t (T.int .i64 ((l.map f).length:Int))),J1):aix)=some (p,V.c (C.t (.int .i64 (l.length:Int))),J1):=by rw[PE]
theorem ach{α β:Type}{f:α->β}{l:List α}{i:Nat}(h:i<l.length):i<(l.map f).length:=by rw[PE];exact h
theorem er.replicate{α β:Type}{R:α->β->Prop}{a:α}{b:β}(h:R a b):∀n:Nat,er R (List.replicate n a) (List.replicate n b)
 |0=>.nil
 |n+1=>.cons h (er.replicate h n)
theorem UV:∀{xs:List (fz U)} {q0:List c8} {es:List C} {row:List (Cell U.D)},OE q0 xs=some row->er (i' N J) xs es->toTs es=some (row.map (Cell.enc U))
 |[],q0,es,row,h1,ad=>by
  cases ad;cases q0<;>simp[OE]at h1
  subst h1;rfl
 |y::ys,[],es,row,h1,ad=>by simp[OE]at h1
 |y::ys,ty::q0,_::_,row,h1,.cons ad a'=>by
  cases ad with
  |t c=>cases ty<;>simp only[OE]at h1<;>(split at h1<;>first|(cases h1;done)|(rename_i q e1;cases h1;simp[toTs,toT,UV e1 a']))
  |hN=>
   cases ty<;>simp only[OE,reduceCtorEq]at h1
   split at h1
   . rename_i q e1;cases h1;simp[toTs,toT,UV e1 a'];rfl
   . cases h1
  |_=>cases ty<;>simp[OE]at h1
theorem asD{sz:Nat}:∀{ps:List (Nat×dy)} {es es':List (List T)} {p:Prop},Qh env1 sz es ps=some (p,es')->es'.length=es.length
 |[],es,es',p,h=>by simp[Qh]at h;rw[h.2]
 |(i,x)::ps,es,es',p,h=>by
  simp only[Qh,gA,tr,e0,ho]at h;obtain⟨a,_,cs,_,ts,_,_,b,ai,_,rfl⟩:=h;have:=asD (p:=b.1) (es':=b.2) ai
  grind
theorem anI{t:c8}{l C0:List (t.den U.D)}{i o:Nat}{cs:List (fz U)}{ds:List C}(h:Z4 U t l i o cs=some C0)(ao:i<l.length)(a7:er (i' N J) cs ds)(q4:o+cs.length<=t.sz U):
 ∃ts,toTs ds=some ts/\C0.map (t.enc U)=(l.map (t.enc U)).set i ((el (l.map (t.enc U)) i).take o++ts++(el (l.map (t.enc U)) i).drop (o+cs.length)):=by
 unfold Z4 at h;split at h
 . rename_i x aa;cases h;unfold Yw at aa;split at aa
   . rename_i row KY;have al:=c8.apQ aa;have key:=@UV U N J;have aLK:er (i' N J) ((t.row U (t.at U l i)).map .t) ((t.enc U (t.at U l i)).map .t):=aeH;have aLc:=anr (o:=o) aLK a7;have h1:=key KY aLc
     have ayc:∀{a b:List C} {r:List T},toTs (a++b)=some r->∃p q,toTs a=some p/\toTs b=some q/\r=p++q:=by
      intro a
      induction a with
      |nil=>intro b r h;exact⟨[],r,rfl,h,rfl⟩
      |cons c a ih=>
       intro b r h;simp only[adX,toTs,gA,e0]at h;obtain⟨t0,akQ,aOw,aLG,rfl⟩:=h;obtain⟨p,q,ep,hp,rfl⟩:=ih aLG;exact⟨t0::p,q,by simp[toTs,akQ,ep],hp,rfl⟩
     have ayB:∀(ts:List T),toTs (ts.map .t)=some ts:=by
      intro ts
      induction ts with
      |nil=>rfl
      |cons a ts ih=>simp[toTs,toT,ih]
     unfold XY at h1;obtain⟨p,q,ep,hp,zt⟩:=ayc h1;obtain⟨ali,ZP,f1,f2,f3⟩:=ayc ep;rw[<-ahJ,ayB]at f1;cases f1;rw[<-ak6,ayB]at hp;cases hp;refine⟨ZP,f2,?_⟩;rw[List.map_set,af4 ao,c8.adg (x:=x),al,zt,f3,a7.length]
   . cases aa
 . cases h
variable (he:pq N J G env env1)(a8:MF gl env G)(cy:l3 N J J1)
section
include he a8 cy
theorem aNB{x:dy}(h:ka gl gd env J N (.mov x)=some (c,v,J')):xn N J J1 (.mov x) env1 (k3 env G gd) c v J':=by
 simp only[ka]at h;split at h
 . rename_i w hw;cases h;obtain⟨p,v1,a1,a2,a3⟩:=ki he a8 hw;exact .neutral cy a2 λay _=>⟨p,by simp[dx,a1],a3 ay⟩
 . cases h
theorem aJ2{x y z:dy}(h:ka gl gd env J N (.pick x y z)=some (c,v,J')):xn N J J1 (.pick x y z) env1 (k3 env G gd) c v J':=by
 simp only[ka]at h;split at h
 . rename_i b p q h1 ad a';cases h;obtain⟨aqc,v1,a1,a2,a3⟩:=ki he a8 h1;obtain⟨aMC,v2,b1,b2,pI⟩:=auy he a8 h1 rfl ad;obtain⟨aMD,v3,kn,k0,A'⟩:=auy he a8 h1 rfl a';have:=a2.P0;subst this;have:=b2.P0;subst this;have:=k0.P0;subst this
   refine .neutral cy (.c (.t (U:=U) ⟨.bool,_⟩)) λay _=>⟨aqc/\(b=true->aMC)/\(b=false->aMD),by simp only[dx,a1,b1,kn,ec];rfl,a3 ay,pI ay,A' ay⟩
 . cases h
theorem aGM{x:dy}(h:ka gl gd env J N (.nilCheck x)=some (c,v,J')):xn N J J1 (.nilCheck x) env1 (k3 env G gd) c v J':=by
 simp only[ka]at h;split at h
 . rename_i b o hw;cases h;obtain⟨p,v1,a1,a2,a3⟩:=ki he a8 hw;have:=a2.Ny;subst this;exact .neutral cy a2 λay _=>⟨p,by simp[dx,a1],a3 ay⟩
 . rename_i b t i o hw;cases h;obtain⟨p,v1,a1,a2,a3⟩:=ki he a8 hw;have:=a2.Ph;subst this;exact .neutral cy a2 λay _=>⟨p,by simp[dx,a1],a3 ay⟩
 . rename_i t hO o hw;cases h;obtain⟨p,v1,a1,a2,a3⟩:=ki he a8 hw;have:=a2.apH;subst this;exact .neutral cy a2 λay _=>⟨p,by simp[dx,a1],a3 ay⟩
 . cases h
theorem aNC{x:dy}(h:ka gl gd env J N (.not x)=some (c,v,J')):xn N J J1 (.not x) env1 (k3 env G gd) c v J':=by
 simp only[ka]at h;split at h
 . rename_i b hw;cases h;obtain⟨p,v1,a1,a2,a3⟩:=ki he a8 hw;have:=a2.P0;subst this;exact .neutral cy (.c (.t (U:=U) ⟨.bool,_⟩)) λay _=>⟨p,by simp[dx,a1];rfl,a3 ay⟩
 . cases h
theorem aJ3{k:IntKind}{x:dy}(h:ka gl gd env J N (.conv k x)=some (c,v,J')):xn N J J1 (.conv k x) env1 (k3 env G gd) c v J':=by
 simp only[ka]at h;split at h
 . rename_i h8 m hw;cases h;obtain⟨p,v1,a1,a2,a3⟩:=ki he a8 hw;have:=a2.Lp;subst this;exact .neutral cy (.c (.t (U:=U) ⟨.int k,_⟩)) λay _=>⟨p,by simp[dx,a1];rfl,a3 ay⟩
 . cases h
theorem aNz{x:dy}(h:ka gl gd env J N (.i2s x)=some (c,v,J')):xn N J J1 (.i2s x) env1 (k3 env G gd) c v J':=by
 simp only[ka]at h;split at h
 . rename_i h8 m hw;cases h;obtain⟨p,v1,a1,a2,a3⟩:=ki he a8 hw;have:=a2.Lp;subst this;exact .neutral cy (.c (.t (U:=U) ⟨.str,_⟩)) λay _=>⟨p,by simp[dx,a1];rfl,a3 ay⟩
 . cases h
theorem aND{x:dy}(h:ka gl gd env J N (.s2s x)=some (c,v,J')):xn N J J1 (.s2s x) env1 (k3 env G gd) c v J':=by
 simp only[ka]at h;split at h
 . rename_i s hw;cases h;obtain⟨p,v1,a1,a2,a3⟩:=ki he a8 hw;have:=a2.Q9;subst this;exact .neutral cy a2 λay _=>⟨p,by simp[dx,a1],a3 ay⟩
 . cases h
theorem aJ4{off:Nat}{x:dy}(h:ka gl gd env J N (.fldA off x)=some (c,v,J')):xn N J J1 (.fldA off x) env1 (k3 env G gd) c v J':=by
 simp only[ka]at h;split at h
 . rename_i b o hw;cases h;obtain⟨p,v1,a1,a2,a3⟩:=ki he a8 hw;have:=a2.Ny;subst this;exact .neutral cy (.c (.ptr _ _)) λay _=>⟨p,by simp[dx,a1],a3 ay⟩
 . rename_i b t i o hw;cases h;obtain⟨p,v1,a1,a2,a3⟩:=ki he a8 hw;have:=a2.Ph;subst this;exact .neutral cy (.c (.k' _ _ _ _)) λay _=>⟨p,by simp[dx,a1],a3 ay⟩
 . rename_i t hO o hw;cases h;obtain⟨p,v1,a1,a2,a3⟩:=ki he a8 hw;have:=a2.apH;subst this;exact .neutral cy (.c (.vt _ _ _)) λay _=>⟨p,by simp[dx,a1],a3 ay⟩
 . cases h
theorem aNy{agg:Bool}{off k:Nat}{x:dy}(h:ka gl gd env J N (.fld agg off k x)=some (c,v,J')):xn N J J1 (.fld agg off k x) env1 (k3 env G gd) c v J':=by
 simp only[ka]at h;split at h
 . rename_i cs hw;split at h
   . rename_i w ar;cases h;obtain⟨p,v1,a1,a2,a3⟩:=ki he a8 hw;obtain⟨ds,rfl,b2⟩:=a2.aaY;obtain⟨v2,kn,k0⟩:=acL b2 ar;exact .neutral cy k0 λay _=>⟨p,by simp[dx,a1,kn],a3 ay⟩
   . cases h
 . cases h
theorem aJ5{agg:Bool}{k:Nat}{x:dy}(h:ka gl gd env J N (.load agg k x)=some (c,v,J')):xn N J J1 (.load agg k x) env1 (k3 env G gd) c v J':=by
 simp only[ka]at h;split at h
 . rename_i b o hw;split at h
   . rename_i cs sa;split at h
     . rename_i w ar;cases h;obtain⟨p,v1,a1,a2,a3⟩:=ki he a8 hw;have:=a2.Ny;subst this;obtain⟨_,y,b1,b2⟩:=cy b _ sa;cases b2 with
       |box b2=>
        obtain⟨v2,kn,k0⟩:=acL b2 ar;exact .neutral cy k0 λay _=>⟨p,by simp[dx,a1,b1,kn],a3 ay⟩
     . cases h
   . rename_i E KU sa;split at h
     . cases h;obtain⟨p,v1,a1,a2,a3⟩:=ki he a8 hw;have:=a2.Ny;subst this;obtain⟨_,y,b1,b2⟩:=cy b _ sa;cases b2 with
       |hZ b2=>exact .neutral cy (.c b2) λay _=>⟨p,by simp[dx,a1,b1],a3 ay⟩
     . cases h
   . cases h
 . rename_i b t i o hw;split at h
   . rename_i Jt C0 sa;split at h
     . rename_i l ar;have e:=Cell.RD ar;cases e;split at h
       . rename_i w Jo;cases h;obtain⟨p,v1,a1,a2,a3⟩:=ki he a8 hw;have:=a2.Ph;subst this;obtain⟨_,y,b1,b2⟩:=cy b _ sa;cases b2 with
         |arr=>
          obtain⟨v2,kn,k0⟩:=acL aeH Jo;refine .neutral cy k0 λay a7=>⟨p/\t.sz U=t.sz U/\i<(List.map (t.enc U) l).length,?_,a3 ay,rfl,ach (abK a7)⟩
          simp only[u2]at a7;have kn:=am6 kn;simp only[dx,a1,ec,b1];rw[af4 a7,kn];rfl
       . cases h
     . cases h
   . rename_i Jt C0 py ny KU sa;split at h
     . cases h
     . split at h
       . rename_i JF;split at h
         . rename_i hG;cases h;have JF:=em JF;have hG:=em hG;subst JF;obtain⟨p,v1,a1,a2,a3⟩:=ki he a8 hw;have:=a2.Ph;subst this;obtain⟨_,y,b1,b2⟩:=cy b _ sa;cases b2 with
           |kx _ _ _ _ b2=>
            refine .neutral cy (.c b2) λay a7=>⟨p/\t.sz U=Jt.sz U/\i=py,?_,a3 ay,hG,abK a7⟩
            simp only[dx,a1,ec,b1];simp
         . cases h
       . rename_i JF;have JF:=ND JF;split at h
         . rename_i l ar;have e:=Cell.RD ar;cases e;split at h
           . rename_i w Jo;cases h;obtain⟨p,v1,a1,a2,a3⟩:=ki he a8 hw;have:=a2.Ph;subst this;obtain⟨_,y,b1,b2⟩:=cy b _ sa;cases b2 with
             |kx _ _ _ _ b2=>
              obtain⟨v2,kn,k0⟩:=acL aeH Jo;refine .neutral cy k0 λay a7=>⟨p/\t.sz U=t.sz U/\i<(List.map (t.enc U) l).length,?_,a3 ay,rfl,ach (abK a7)⟩
              simp only[u2]at a7;have kn:=am6 kn;simp only[dx,a1,ec,b1];rw[nc,cx JF,af4 a7,kn];rfl
           . cases h
         . cases h
   . cases h
 . rename_i t hO o hw;split at h
   . rename_i w ar;cases h;obtain⟨p,v1,a1,a2,a3⟩:=ki he a8 hw;have:=a2.apH;subst this;obtain⟨v2,kn,k0⟩:=acL aeH ar;have kn:=am6 kn;exact .neutral cy k0 λay _=>⟨p,by simp[dx,a1,kn],a3 ay⟩
   . cases h
 . cases h
theorem aNv{op:BinOp}{x y:dy}(h:ka gl gd env J N (.bin op x y)=some (c,v,J')):xn N J J1 (.bin op x y) env1 (k3 env G gd) c v J':=by
 simp only[ka]at h;split at h
 . rename_i p q aJ e1;split at h
   . rename_i vJ r al;cases h;obtain⟨pp,v1,a1,a2,a3⟩:=ki he a8 aJ;obtain⟨P',v2,b1,b2,pI⟩:=ki he a8 e1;have:=a2.aeh;subst this;have:=b2.aeh;subst this;obtain⟨LR,d1,d2⟩:=aGK al;exact .neutral cy (.c (.t _)) λay a7=>⟨pp/\P'/\LR,by simp only[dx,a1,b1,ec,d1];rfl,a3 ay,pI ay,d2 a7⟩
   . cases h
 . cases h
theorem aID{neg:Bool}{ks:ey}{x y:dy}(h:ka gl gd env J N (.eqAgg neg ks x y)=some (c,v,J')):xn N J J1 (.eqAgg neg ks x y) env1 (k3 env G gd) c v J':=by
 simp only[ka]at h;split at h
 . rename_i p q aJ e1;split at h
   . rename_i r al;cases h;obtain⟨pp,v1,a1,a2,a3⟩:=ki he a8 aJ;obtain⟨P',v2,b1,b2,pI⟩:=ki he a8 e1;obtain⟨ds,rfl,d2⟩:=a2.aaY;obtain⟨es,rfl,hp⟩:=b2.aaY;have:=aso al d2 hp;exact .neutral cy (.c (.t (U:=U) ⟨.bool,_⟩)) λay a7=>⟨pp/\P',by simp only[dx,a1,b1,ec,this];cases neg<;>rfl,a3 ay,pI ay⟩
   . cases h
 . cases h
theorem aHB{neg:Bool}{x y:dy}(h:ka gl gd env J N (.eqBool neg x y)=some (c,v,J')):xn N J J1 (.eqBool neg x y) env1 (k3 env G gd) c v J':=by
 simp only[ka]at h;split at h
 . rename_i p q aJ e1;cases h;obtain⟨pp,v1,a1,a2,a3⟩:=ki he a8 aJ;obtain⟨P',v2,b1,b2,pI⟩:=ki he a8 e1;have:=a2.P0;subst this;have:=b2.P0;subst this;exact .neutral cy (.c (.t (U:=U) ⟨.bool,_⟩)) λay a7=>⟨pp/\P',by simp only[dx,a1,b1,ec];cases neg<;>rfl,a3 ay,pI ay⟩
 . cases h
theorem aJ6{sz:Nat}{x y:dy}(h:ka gl gd env J N (.idxA sz x y)=some (c,v,J')):xn N J J1 (.idxA sz x y) env1 (k3 env G gd) c v J':=by
 simp only[ka]at h;split at h
 . rename_i t l k m aJ e1;split at h
   . rename_i hG;have hG:=em hG;cases h;obtain⟨pp,v1,a1,a2,a3⟩:=ki he a8 aJ;obtain⟨P',v2,b1,b2,pI⟩:=ki he a8 e1;have:=a2.Q8;subst this;have:=b2.Lp;subst this;by_cases al:hz m (List.length l)=true
     . obtain⟨h1,ad⟩:=aar.1 al;refine .neutral cy (v1:= .c (.vt (el (List.map (t.enc U) l) (Int.toNat m)) 0)) ?_ λay a7=>⟨pp/\P'/\(0:Int)<=m/\Int.toNat m<(List.map (t.enc U) l).length/\(el (List.map (t.enc U) l) (Int.toNat m)).length=sz,by simp only[dx,a1,b1,ec],a3 ay,pI ay,h1,ach ad,by rw[af4 ad,c8.abc];exact hG⟩
       rw[af4 ad];exact .c (.vt _ _ _)
     . exact .neutral cy (.c (.vt _ _ _)) λay a7=>absurd a7 al
   . cases h
 . rename_i b k m aJ e1;split at h
   . rename_i t l ai;split at h
     . rename_i hG;have hG:=em hG;cases h;obtain⟨pp,v1,a1,a2,a3⟩:=ki he a8 aJ;obtain⟨P',v2,b1,b2,pI⟩:=ki he a8 e1;obtain⟨j2,n,rfl,ML,ay⟩:=a2.MR;have:=b2.Lp;subst this;have:=ay _ ai _ rfl;cases this
       refine .neutral cy (.c (.k' _ _ _ _)) λay a7=>⟨pp/\P'/\(0:Int)<=m/\Int.toNat m<l.length/\sz=t.sz U,?_,a3 ay,pI ay,(aar.1 a7).1,(aar.1 a7).2,hG.symm⟩
       simp only[dx,a1,b1,ec,Lt,hG]
     . cases h
   . cases h
 . cases h
theorem aJ7{x y:dy}(h:ka gl gd env J N (.idxS x y)=some (c,v,J')):xn N J J1 (.idxS x y) env1 (k3 env G gd) c v J':=by
 simp only[ka]at h;split at h
 . rename_i s k m aJ e1;cases h;obtain⟨pp,v1,a1,a2,a3⟩:=ki he a8 aJ;obtain⟨P',v2,b1,b2,pI⟩:=ki he a8 e1;have:=a2.Q9;subst this;have:=b2.Lp;subst this;exact .neutral cy (.c (.t (U:=U) ⟨.int .u8,_⟩)) λay a7=>⟨pp/\P'/\(0:Int)<=m/\Int.toNat m<List.length s,by simp only[dx,a1,b1,ec];rfl,a3 ay,pI ay,(aar.1 a7).1,(aar.1 a7).2⟩
 . cases h
theorem Xk{x:Option dy}{l:Option Int}(h:VT gl gd env x=some l):∃p,Ql env1 x=some (p,l)/\(k3 env G gd=true->p):=by
 unfold VT at h;split at h
 . cases h;exact⟨True,rfl,λ_=>trivial⟩
 . split at h
   . rename_i k n aa;cases h;obtain⟨pp,v1,a1,a2,a3⟩:=ki he a8 aa;have:=a2.Lp;subst this;exact⟨pp,by simp only[Ql,a1,ec],a3⟩
   . cases h
theorem aJ8{x:dy}{fu ao:Option dy}(h:ka gl gd env J N (.slcS x fu ao)=some (c,v,J')):xn N J J1 (.slcS x fu ao) env1 (k3 env G gd) c v J':=by
 simp only[ka]at h;split at h
 . rename_i s l r aJ ar al;cases h;obtain⟨pp,v1,a1,a2,a3⟩:=ki he a8 aJ;obtain⟨pl,Qs,l2⟩:=Xk he a8 cy ar;obtain⟨LR,ln,sb⟩:=Xk he a8 cy al;have:=a2.Q9;subst this
   exact .neutral cy (.c (.t (U:=U) ⟨.str,_⟩)) λay a7=>⟨pp/\pl/\LR/\0<=l.getD 0/\l.getD 0<=r.getD (List.length s:Int)/\r.getD (List.length s:Int)<=(List.length s:Int),by simp only[dx,a1,Qs,ln,ec];rfl,a3 ay,l2 ay,sb ay,Qg.1 a7⟩
 . cases h
theorem aNE{sz:Nat}{x:dy}{fu ao:Option dy}(h:ka gl gd env J N (.slc sz x fu ao)=some (c,v,J')):xn N J J1 (.slc sz x fu ao) env1 (k3 env G gd) c v J':=by
 simp only[ka]at h;split at h
 . rename_i t s l r aJ ar al;split at h
   . rename_i hG;have hG:=em hG;cases h;obtain⟨pp,v1,a1,a2,a3⟩:=ki he a8 aJ;obtain⟨pl,Qs,l2⟩:=Xk he a8 cy ar;obtain⟨LR,ln,sb⟩:=Xk he a8 cy al;have:=a2.Q8;subst this
     refine .neutral cy (.c (.t (U:=U) ⟨.slice t,_⟩)) λay a7=>⟨pp/\pl/\LR/\0<=l.getD 0/\l.getD 0<=r.getD (List.length s:Int)/\r.getD (List.length s:Int)<=(List.length s:Int)/\∀e,e∈List.map (t.enc U) s->e.length=sz,?_,a3 ay,l2 ay,sb ay,(Qg.1 a7).1,(Qg.1 a7).2.1,(Qg.1 a7).2.2,?_⟩
     . simp only[dx,a1,Qs,ln,ec];exact aJ0
     . intro e hm;obtain⟨y,_,rfl⟩:=PG.1 hm;rw[c8.abc];exact hG
   . cases h
 . rename_i b r aJ ar al;split at h
   . rename_i t s ai;split at h
     . rename_i hG;have hG:=em hG;cases h;obtain⟨pp,v1,a1,a2,a3⟩:=ki he a8 aJ;obtain⟨LR,ln,sb⟩:=Xk he a8 cy al;obtain⟨j2,n,rfl,ML,ay⟩:=a2.MR;have Pq:=ay _ ai (t.sz U,s.length) rfl;simp only[ho]at Pq;obtain⟨rfl,rfl⟩:=Pq;have MM:fu=none:=by
        cases fu with
        |none=>rfl
        |some x=>simp only[VT]at ar;split at ar<;>cases ar
       subst MM;refine .neutral cy (.c (.pre b (t.sz U) _ ML λx aa p aJ=>?_)) λJU a7=>⟨pp/\True/\LR/\0<=(none:Option Int).getD 0/\(none:Option Int).getD 0<=r.getD (List.length s:Int)/\r.getD (List.length s:Int)<=(List.length s:Int)/\sz=t.sz U,?_,a3 JU,trivial,sb JU,(Qg.1 a7).1,(Qg.1 a7).2.1,(Qg.1 a7).2.2,hG.symm⟩
       . grind
       . have abh:Ql env1 none=some (True,none):=rfl;simp only[dx,a1,abh,ln,ec];rfl
     . cases h
   . cases h
 . rename_i b l r aJ ar al;split at h
   . rename_i t s ai;split at h
     . rename_i hG;have hG:=em hG;cases h;obtain⟨pp,v1,a1,a2,a3⟩:=ki he a8 aJ;obtain⟨pl,Qs,l2⟩:=Xk he a8 cy ar;obtain⟨LR,ln,sb⟩:=Xk he a8 cy al;obtain⟨j2,n,rfl,ML,ay⟩:=a2.MR;have Pq:=ay _ ai (t.sz U,s.length) rfl;simp only[ho]at Pq;obtain⟨rfl,rfl⟩:=Pq;have MM:fu.isNone=false:=by
        cases fu with
        |none=>simp[VT]at ar
        |some x=>rfl
       refine .neutral cy (.c (.LU b (t.sz U) _ _ ML λx aa p aJ=>?_)) λJU a7=>⟨pp/\pl/\LR/\0<=(some l:Option Int).getD 0/\(some l:Option Int).getD 0<=r.getD (List.length s:Int)/\r.getD (List.length s:Int)<=(List.length s:Int)/\sz=t.sz U,?_,a3 JU,l2 JU,sb JU,(Qg.1 a7).1,(Qg.1 a7).2.1,(Qg.1 a7).2.2,hG.symm⟩
       . grind
       . simp only[dx,a1,Qs,ln,ec,MM,y0,Jb,Lt];rfl
     . cases h
   . cases h
 . cases h
theorem aJ9{x:dy}(h:ka gl gd env J N (.slc0 x)=some (c,v,J')):xn N J J1 (.slc0 x) env1 (k3 env G gd) c v J':=by
 simp only[ka]at h;split at h
 . rename_i t l hw;cases h;obtain⟨p,v1,a1,a2,a3⟩:=ki he a8 hw;have:=a2.Q8;subst this;exact .neutral cy (.c .hN) λay _=>⟨p,by simp[dx,a1],a3 ay⟩
 . rename_i hw;cases h;obtain⟨p,v1,a1,a2,a3⟩:=ki he a8 hw;have:=a2.ac9;subst this;exact .neutral cy (.c .hN) λay _=>⟨p,by simp[dx,a1],a3 ay⟩
 . rename_i b hw;cases h;obtain⟨p,v1,a1,a2,a3⟩:=ki he a8 hw;obtain⟨sz,n,rfl,_⟩:=a2.MR;exact .neutral cy (.c .hN) λay _=>⟨p,by simp[dx,a1],a3 ay⟩
 . cases h
theorem asp:∀{vs:List (hl U)} {ds:List V} {l:ey},ail vs=some l->er (hV N J) vs ds->dx.aa6 ds=some l
 |[],[],l,h,.nil=>by simp[ail]at h;subst h;rfl
 |.c (.ptr b 0)::vs,d::ds,l,h,.cons h1 ad=>by
  simp only[ail]at h;split at h
  . rename_i C0 ar;cases h;have:=h1.Ny;subst this;simp[dx.aa6,asp ar ad]
  . cases h
theorem aJ'{f:Nat}{caps:List dy}(h:ka gl gd env J N (.mkfn f caps)=some (c,v,J')):xn N J J1 (.mkfn f caps) env1 (k3 env G gd) c v J':=by
 simp only[ka]at h;split at h
 . rename_i vs x1;split at h
   . rename_i l ar;cases h;obtain⟨p,ds,a1,a2,a3⟩:=aak he a8 x1;exact .neutral cy (.c (.fn _ _)) λay _=>⟨p,by simp[dx,a1,asp he a8 cy ar a2],a3 ay⟩
   . cases h
 . cases h
theorem aNx{x:dy}{i:Nat}(h:ka gl gd env J N (.ext x i)=some (c,v,J')):xn N J J1 (.ext x i) env1 (k3 env G gd) c v J':=by
 simp only[ka]at h;split at h
 . rename_i vs x1;split at h
   . rename_i w hw;cases h;obtain⟨p,v1,a1,a2,a3⟩:=ki he a8 x1;cases a2 with
     |e2 _ ds ar ad=>
      have ao:=(pv.1 hw).1;have ay:=HJ (l:=ds) (i:=i) (by omega);exact .neutral cy (ad i _ _ hw ay) λa8 _=>⟨p,by simp only[dx,a1,ec,ay,LO],a3 a8⟩
   . cases h
 . cases h
theorem aKa{x y:dy}(h:ka gl gd env J N (.max2 x y)=some (c,v,J')):xn N J J1 (.max2 x y) env1 (k3 env G gd) c v J':=by
 simp only[ka]at h;split at h
 . rename_i k a h8 b aJ e1;simp only[tr,hr,ho]at h;obtain⟨rfl,rfl,rfl,rfl⟩:=h;obtain⟨pp,v1,a1,a2,a3⟩:=ki he a8 aJ;obtain⟨P',v2,b1,b2,pI⟩:=ki he a8 e1;have:=a2.Lp;subst this;have:=b2.Lp;subst this
   exact .neutral cy (.c (.t (U:=U) ⟨.int k,_⟩)) λay a7=>⟨pp/\P',by simp only[dx,a1,b1,ec,xe];rfl,a3 ay,pI ay⟩
 . cases h
theorem aKb{x y:dy}(h:ka gl gd env J N (.min2 x y)=some (c,v,J')):xn N J J1 (.min2 x y) env1 (k3 env G gd) c v J':=by
 simp only[ka]at h;split at h
 . rename_i k a h8 b aJ e1;simp only[tr,hr,ho]at h;obtain⟨rfl,rfl,rfl,rfl⟩:=h;obtain⟨pp,v1,a1,a2,a3⟩:=ki he a8 aJ;obtain⟨P',v2,b1,b2,pI⟩:=ki he a8 e1;have:=a2.Lp;subst this;have:=b2.Lp;subst this
   exact .neutral cy (.c (.t (U:=U) ⟨.int k,_⟩)) λay a7=>⟨pp/\P',by simp only[dx,a1,b1,ec,xe];rfl,a3 ay,pI ay⟩
 . cases h
theorem aIE{z:List C}{parts:List (Nat×Nat×dy)}(h:ka gl gd env J N (.build z parts)=some (c,v,J')):xn N J J1 (.build z parts) env1 (k3 env G gd) c v J':=by
 simp only[ka]at h;split at h
 . rename_i tw gb;split at h
   . rename_i cs sa;cases h;obtain⟨p,ds,a1,a2,a3⟩:=ar9 he a8 sa (aah gb);exact .neutral cy (.agg a2) λay _=>⟨p,by simp[dx,a1],a3 ay⟩
   . cases h
 . cases h
theorem aIF{cs:List C}(h:ka gl gd env J N (.alloc cs)=some (c,v,J')):xn N J J1 (.alloc cs) env1 (k3 env G gd) c v J':=by
 simp only[ka]at h;split at h
 . rename_i xs P8;cases h;have k:rm N J (N+16) (k1 J N (.box xs)):=TD;exact .store rfl k (.c (.ptr _ _)) λay _=>⟨True,_,rfl,trivial,cy.put (by omega) k (.box (aah P8))⟩
 . cases h
theorem aNw{x:dy}(h:ka gl gd env J N (.box x)=some (c,v,J')):xn N J J1 (.box x) env1 (k3 env G gd) c v J':=by
 simp only[ka]at h;split at h
 . rename_i w hw;split at h
   . rename_i cs sa;cases h;obtain⟨p,v1,a1,a2,a3⟩:=ki he a8 hw;obtain⟨ds,b1,b2⟩:=Xj a2 sa;have k:rm N J (N+16) (k1 J N (.box cs)):=TD;exact .store rfl k (.c (.ptr _ _)) λay _=>⟨p,_,by simp only[dx,a1,ec,b1,LO],a3 ay,cy.put (by omega) k (.box (b2.imp λ_ _ _=>i'.mono k))⟩
   . cases h
 . cases h
theorem aIW{sz len:Nat}{z:List C}{parts:List (Nat×dy)}(h:ka gl gd env J N (.bslice sz len z parts)=some (c,v,J')):xn N J J1 (.bslice sz len z parts) env1 (k3 env G gd) c v J':=by
 simp only[ka]at h;split at h
 . rename_i tw gb;split at h
   . cases h
   . rename_i ts J7;split at h
     . cases h
     . rename_i hG;have hG:=em hG;split at h
       . rename_i rows al;cases h;have abu:=aah (N:=N) (J:=J) gb;obtain⟨p,es,a1,a2,a4,a3⟩:=amm he a8 al (es:=List.replicate len ts) (er.replicate (R:=λr e=>NG r=some e) J7 len) (by intro r al;rw[ala al];exact hG);have k:rm N J (N+16) (k1 J N (.rows sz rows)):=TD
         refine .store rfl k (.c (.arr N sz es.length (by omega) ?_)) λay _=>⟨p,_,by simp only[dx,ajp abu J7,ec,a1,LO];rw[asD a1,List.length_replicate],a3 ay,cy.put (by omega) k (.rows a2 a4)⟩
         intro x aa q e1;rw[Nv,bJ rfl]at aa;cases aa;simp only[ni.rz,hr]at e1;rw[<-e1,a2.length]
       . cases h
 . cases h
omit he a8 cy in
theorem aIh{ds:List C}{ts:List T}(h:toTs ds=some ts):ah1 ds=none:=by
 unfold ah1;split
 . simp[toTs,toT]at h
 . rfl
omit he a8 cy in
theorem aIX{J:fr U}{J1:ee}{v1:V}{w:hl U}{d:V}(h:hV N J w d)(hw:∀b fu len,w≠.c (.LU b fu len))(aLY:∀b fu len,w≠.c (.sub b fu len))(aLZ:w≠.c .dead):Vy v1 d=none:=by
 unfold Vy;split
 . cases h with
   |c h=>
    cases h with
    |sub b fu len=>exact absurd rfl (aLY _ _ _)
    |LU b sz fu len=>exact absurd rfl (hw _ _ _)
    |dead d=>exact absurd rfl aLZ
 . rfl
theorem aIG{k:Nat}{x y:dy}(h:ka gl gd env J N (.store k x y)=some (c,v,J')):xn N J J1 (.store k x y) env1 (k3 env G gd) c v J':=by
 simp only[ka]at h;split at h
 . rename_i b o w aa bo;split at h
   . rename_i cs sa;split at h
     . rename_i hk;have hk:=em hk;split at h
       . rename_i ds RN;split at h
         . rename_i q4;have q4:=N5 q4;cases h;obtain⟨p,v1,a1,a2,a3⟩:=ki he a8 aa;obtain⟨q,v2,b1,b2,pI⟩:=ki he a8 bo;have:=a2.Ny;subst this;obtain⟨es,kn,k0⟩:=Xj b2 sa;obtain⟨ML,z,d1,d2⟩:=cy b _ RN;cases d2 with
           | @box _ fs d2=>
            have Ji:rm N J (N+16) (k1 J b (.box (aeo ds o cs))):=VM (by omega) RN (λp h=>by simp[ni.rz]at h);refine .store rfl Ji (.e2 [] [] rfl (by simp)) λay _=>⟨p/\q,_,?_,⟨a3 ay,pI ay⟩,cy.put (by omega) Ji (.box (anr (d2.imp λ_ _ _=>i'.mono Ji) (k0.imp λ_ _ _=>i'.mono Ji)))⟩
            simp only[dx,a1,b1,ec,kn];rw[bJ (by rw[<-k0.length];exact hk),d1];dsimp only;rw[bJ (by rw[<-d2.length];exact q4)]
         . cases h
       . rename_i E KU RN;split at h
         . rename_i KU _;cases h;obtain⟨p,v1,a1,a2,a3⟩:=ki he a8 aa;obtain⟨q,v2,b1,b2,pI⟩:=ki he a8 bo;have:=a2.Ny;subst this;obtain⟨es,kn,k0⟩:=Xj b2 sa;obtain⟨ML,z,d1,d2⟩:=cy b _ RN;cases d2 with
           |hZ d2=>
            cases k0 with|cons k0 A'=>
            cases A';have Ji:rm N J (N+16) (k1 J b (.hZ E KU)):=VM (by omega) RN (λp h=>by simp[ni.rz]at h);refine .store rfl Ji (.e2 [] [] rfl (by simp)) λay _=>⟨p/\q,_,?_,⟨a3 ay,pI ay⟩,cy.put (by omega) Ji (.hZ (k0.mono Ji))⟩
            simp only[dx,a1,b1,ec,kn]
            grind
         . cases h
       . cases h
     . cases h
   . cases h
 . rename_i b t i o w aa bo;split at h
   . rename_i cs sa;split at h
     . rename_i hk;simp only[h5]at hk;have L8:=em hk.1;have P4:=N5 hk.2;split at h
       . rename_i Jt C0 Lm;split at h
         . rename_i l ar;have e:=Cell.RD ar;cases e;split at h
           . rename_i adf akM;cases h;obtain⟨rfl,hf,rfl⟩:cs=[adf]/\∃hf,adf= .arr hf:=by
              unfold azv at akM;split at akM<;>cases akM
              exact⟨rfl,_,rfl⟩
             obtain⟨p,v1,a1,a2,a3⟩:=ki he a8 aa;obtain⟨q,v2,b1,b2,pI⟩:=ki he a8 bo;have:=a2.Ph;subst this;obtain⟨es,kn,k0⟩:=Xj b2 sa;cases k0 with|cons k0 A'=>
             cases A';have aBh:=k0;cases k0 with|arr _ s2 Wx JS akD=>
             obtain⟨ML,z,d1,d2⟩:=cy b _ Lm;cases d2 with
             |arr=>
              have Ji:rm N J (N+16) (k1 J b (.kx t l i o (.arr hf))):=VM (by omega) Lm (λp h=>by simpa[ni.rz]using h)
              refine .store rfl Ji (.e2 [] [] rfl (by simp)) λay a7=>⟨p/\q/\t.sz U=t.sz U/\i<(List.map (t.enc U) l).length/\o+k<=t.sz U,_,?_,⟨a3 ay,pI ay,rfl,ach (abK a7),P4⟩,cy.put (by omega) Ji (.kx t l i o (aBh.mono Ji))⟩
              simp only[dx,a1,b1,ec,kn];rw[bJ (by simpa using L8)];simp only[d1,ah1]
           rename_i akM;split at h
           . rename_i l2 Jo;cases h;obtain⟨p,v1,a1,a2,a3⟩:=ki he a8 aa;obtain⟨q,v2,b1,b2,pI⟩:=ki he a8 bo;have:=a2.Ph;subst this;obtain⟨es,kn,k0⟩:=Xj b2 sa;obtain⟨ML,z,d1,d2⟩:=cy b _ Lm;cases d2 with
             |arr=>
              have n':l2.length=List.length l:=by
               unfold Z4 at Jo
               grind
              have Ji:rm N J (N+16) (k1 J b (.arr t l2)):=VM (by omega) Lm (λp h=>by
               simp only[ni.rz]at h⊢
               grind)
              refine .store rfl Ji (.e2 [] [] rfl (by simp)) λay a7=>?_
              have ao:i<List.length l:=abK a7;obtain⟨ts,ep,hp⟩:=anI Jo ao k0 (by rw[L8];exact P4);refine⟨p/\q/\t.sz U=t.sz U/\i<(List.map (t.enc U) l).length/\o+k<=t.sz U,_,?_,⟨a3 ay,pI ay,rfl,ach ao,P4⟩,cy.put (by omega) Ji (.arr t l2)⟩;simp only[dx,a1,b1,ec,kn];rw[bJ (by rw[<-k0.length];exact L8),d1]
              dsimp only;rw[aIh ep]
              grind
           . cases h
         . cases h
       . rename_i Jt C0 py ny KU Lm;split at h
         . rename_i adf;split at h
           . rename_i JF;split at h
             . rename_i hG;cases h;have JF:=em JF;have hG:=em hG;subst JF;obtain⟨p,v1,a1,a2,a3⟩:=ki he a8 aa;obtain⟨q,v2,b1,b2,pI⟩:=ki he a8 bo;have:=a2.Ph;subst this;obtain⟨es,kn,k0⟩:=Xj b2 sa;cases k0 with|cons k0 A'=>
               cases A';obtain⟨ML,z,d1,d2⟩:=cy b _ Lm;cases d2 with
               |kx _ _ _ _ d2=>
                have Ji:rm N J (N+16) (k1 J b (.kx Jt C0 py o adf)):=VM (by omega) Lm (λp h=>by simpa[ni.rz]using h);refine .store rfl Ji (.e2 [] [] rfl (by simp)) λay a7=>⟨p/\q/\t.sz U=Jt.sz U/\i=py,_,?_,⟨a3 ay,pI ay,hG,abK a7⟩,cy.put (by omega) Ji (.kx Jt C0 py o (k0.mono Ji))⟩
                simp only[dx,a1,b1,ec,kn];rw[bJ (by simpa using L8),d1];dsimp only;rw[bJ rfl]
             . cases h
           . rename_i JF;have JF:=ND JF;split at h
             . rename_i l ar;have e:=Cell.RD ar;cases e;split at h
               . rename_i l2 Jo;cases h;obtain⟨p,v1,a1,a2,a3⟩:=ki he a8 aa;obtain⟨q,v2,b1,b2,pI⟩:=ki he a8 bo;have:=a2.Ph;subst this;obtain⟨es,kn,k0⟩:=Xj b2 sa;obtain⟨ML,z,d1,d2⟩:=cy b _ Lm;cases d2 with
                 |kx _ _ _ _ d2=>
                  have n':l2.length=List.length l:=by
                   unfold Z4 at Jo
                   grind
                  have Ji:rm N J (N+16) (k1 J b (.kx t l2 py ny KU)):=VM (by omega) Lm (λp h=>by
                   simp only[ni.rz]at h⊢
                   grind)
                  refine .store rfl Ji (.e2 [] [] rfl (by simp)) λay a7=>?_
                  have ao:i<List.length l:=abK a7;obtain⟨ts,ep,hp⟩:=anI Jo ao k0 (by rw[L8];exact P4);cases k0 with| @cons _ avp _ _ k0 A'=>
                  cases A';obtain⟨aif,apx,aLS⟩:∃aif,Shv.toT avp=some aif/\ts=[aif]:=by
                   simp only[toTs]at ep;cases aa:Shv.toT avp with
                   |none=>rw[aa]at ep;simp at ep
                   |some aif=>rw[aa]at ep;simp at ep;exact⟨aif,rfl,ep.symm⟩
                  refine⟨p/\q/\t.sz U=t.sz U/\i<(List.map (t.enc U) l).length/\o+k<=t.sz U,_,?_,⟨a3 ay,pI ay,rfl,ach ao,P4⟩,cy.put (by omega) Ji (.kx t l2 py ny (d2.mono Ji))⟩;simp only[dx,a1,b1,ec,kn];rw[bJ (by simpa using L8),d1];dsimp only;rw[cx JF,apx];subst aLS
                  grind
               . cases h
             . cases h
         . cases h
       . cases h
     . cases h
   . cases h
 . cases h
inductive Rj:KR U->List (List T)->Prop
 |ty (t:c8) (l:List (t.den U.D)):Rj (.ty t l) (l.map (t.enc U))
 |rows {r es}:er (λr e=>NG r=some e) r es->Rj (.rows r) es
 |nil:Rj .nil []
omit he a8 cy in
theorem Rj.length{e:KR U}{es:List (List T)}(h:Rj e es):es.length=e.len:=by
 cases h with
 |ty t l=>simp[KR.len]
 |rows h=>simp[KR.len,h.length]
 |nil=>rfl
omit he a8 cy in
theorem ant:∀{xs:List (fz U)} {q0:List c8} {e:List T} {row:List (Cell U.D)},OE q0 xs=some row->NG xs=some e->e=row.map (Cell.enc U)
 |[],q0,e,row,h1,ad=>by
  cases q0<;>simp[OE]at h1
  simp[NG]at ad
  grind
 |y::ys,[],e,row,h1,ad=>by cases y<;>simp[OE]at h1
 |y::ys,ty::q0,e,row,h1,ad=>by
  simp only[NG]at ad;split at ad
  . rename_i t ts ht J7;cases ad;cases y with
    |t c=>
     simp only[fz.toT]at ht;split at ht
     . cases ht
     . cases ht;cases ty<;>simp only[OE]at h1<;>(split at h1<;>first|(cases h1;done)|(rename_i q e1;cases h1;rw[ant e1 J7];rfl))
    |hN=>
     simp only[fz.toT,hr]at ht;subst ht;cases ty<;>simp only[OE,reduceCtorEq]at h1
     split at h1
     . rename_i q e1;cases h1;rw[ant e1 J7];rfl
     . cases h1
    |_=>simp[fz.toT]at ht
  . cases ad
omit he a8 cy in
theorem aKc{t:c8}{r:List (fz U)}{x:t.den U.D}{e:List T}(h:Yw U t r=some x)(he:NG r=some e):t.enc U x=e:=by
 unfold Yw at h;split at h
 . rename_i row KY;rw[c8.adg,c8.apQ h,ant KY he]
 . cases h
omit he a8 cy in
theorem acx{t:c8}:∀{r:List (List (fz U))} {l:List (t.den U.D)} {es:List (List T)},Us U t r=some l->er (λr e=>NG r=some e) r es->l.map (t.enc U)=es
 |[],l,es,h,ad=>by cases ad;simp[Us]at h;subst h;rfl
 |r::rs,l,_::_,h,.cons h1 ad=>by
  simp only[Us]at h;split at h
  . rename_i x xs aa P8;cases h;rw[Vk,aKc aa h1,acx P8 ad]
  . cases h
omit he a8 cy in
theorem Rj.as{t:c8}{e:KR U}{es:List (List T)}{l:List (t.den U.D)}(h:Rj e es)(b6:e.as t=some l):l.map (t.enc U)=es:=by
 cases h with
 |ty u C0=>
  simp only[KR.as]at b6;have:=Cell.RD b6
  grind
 |rows h=>exact acx b6 h
 |nil=>simp[KR.as]at b6;subst b6;rfl
omit he a8 cy in
theorem Rj.join{x y z:KR U}{es fs:List (List T)}(aa:Rj x es)(bo:Rj y fs)(h:x.join y=some z):Rj z (es++fs):=by
 cases aa with
 |nil=>simp[KR.join]at h;subst h;exact bo
 |ty t l=>
  simp only[KR.join]at h;split at h
  . rename_i C0 ar;cases h;rw[<-bo.as ar,<-ak5];exact .ty t _
  . cases h
 |rows al=>
  cases bo with
  |ty t l=>
   simp only[KR.join]at h;split at h
   . rename_i C0 ar;cases h;rw[<-acx ar al,<-ak5];exact .ty t _
   . cases h
  |rows abl=>simp[KR.join]at h;subst h;exact .rows (al.append abl)
  |nil=>simp[KR.join]at h;subst h;rw[Ym];exact .rows al
omit he a8 cy in
theorem Rj.blk{e:KR U}{es:List (List T)}{sz:Nat}{b:ni U}(h:Rj e es)(ai:e.blk sz=some b):NJ N' J' b (.arr sz es)/\(∀x,x∈es->x.length=sz)/\b.rz=some (sz,e.len):=by
 cases h with
 |ty t l=>
  simp only[KR.blk]at ai;split at ai
  . rename_i hs;have:=em hs;subst this;cases ai;refine⟨.arr t l,λx aa=>?_,rfl⟩;obtain⟨y,_,rfl⟩:=PG.1 aa;exact c8.abc
  . cases ai
 | @rows r es al=>
  simp only[KR.blk]at ai;split at ai
  . rename_i hs;cases ai;simp only[qa]at hs;refine⟨.rows al λx aa=>em (hs x aa),λx aa=>?_,rfl⟩;obtain⟨i,ao,rfl⟩:=OV aa;obtain⟨y,h1,ad⟩:=(al.flip (R':=λe r=>NG r=some e) λ_ _ h=>h).get (HJ ao);rw[anH ad];exact em (hs y (F' h1))
  . cases ai
 |nil=>
  simp only[KR.blk,hr]at ai;subst ai;exact⟨.rows .nil (by simp),by simp,rfl⟩
omit he a8 in
theorem am7{v:hl U}{v1:V}{e:KR U}{ale:Option Nat}(ch:hV N J v v1)(h:Z1 J v=some (e,ale)):∃es,Ut J1 v1=some (es,ale)/\Rj e es:=by
 unfold Z1 at h;split at h
 . rename_i t l;cases h;have:=ch.Q8;subst this;exact⟨_,rfl,.ty t l⟩
 . cases h;have:=ch.ac9;subst this;exact⟨_,rfl,.nil⟩
 . rename_i b;obtain⟨sz,n,rfl,ai,ay⟩:=ch.MR;split at h
   . rename_i t l ar;cases h;obtain⟨_,y,h1,ad⟩:=cy b _ ar;cases ad;have:=ay _ ar _ rfl;cases this;exact⟨_,by simp[Ut,h1],.ty t l⟩
   . rename_i j2 r ar;cases h;obtain⟨_,y,h1,ad⟩:=cy b _ ar;cases ad with
     |rows ad a'=>
      have:=ay _ ar _ rfl;cases this;exact⟨_,by simp[Ut,h1,ad.length],.rows ad⟩
   . cases h
 . cases h
theorem aNA{str:Bool}{x:dy}(h:ka gl gd env J N (.len str x)=some (c,v,J')):xn N J J1 (.len str x) env1 (k3 env G gd) c v J':=by
 simp only[ka]at h;split at h
 . rename_i s hw;cases h;obtain⟨p,v1,a1,a2,a3⟩:=ki he a8 hw;have:=a2.Q9;subst this;exact .neutral cy (.c (.t (U:=U) ⟨.int .i64,_⟩)) λay _=>⟨p,by simp only[dx,a1,ec];rfl,a3 ay⟩
 . rename_i b hw;split at h
   . rename_i E s ai;cases h;obtain⟨p,v1,a1,a2,a3⟩:=ki he a8 hw;obtain⟨n,rfl,_,JU⟩:=a2.akh;have:=JU _ ai _ rfl;cases this;exact .neutral cy (.c (.t (U:=U) ⟨.int .i64,_⟩)) λay _=>⟨p,by simp only[dx,a1,ec];rfl,a3 ay⟩
   . cases h
 . rename_i w hw;split at h
   . rename_i e Jn;obtain⟨e,ale⟩:=e;cases h;obtain⟨p,v1,a1,a2,a3⟩:=ki he a8 hw;refine .neutral cy (.c (.t (U:=U) ⟨.int .i64,_⟩)) λay _=>⟨p,?_,a3 ay⟩
     unfold Z1 at Jn;split at Jn
     . rename_i t l;cases Jn;have:=a2.Q8;subst this;simp only[dx,a1,ec];exact aJ1
     . cases Jn;have:=a2.ac9;subst this;simp only[dx,a1,ec];rfl
     . rename_i b;obtain⟨sz,n,rfl,ai,JU⟩:=a2.MR;simp only[dx,a1,ec];split at Jn
       . rename_i t l ar;cases Jn;have:=JU _ ar _ rfl;cases this;rfl
       . rename_i j2 r ar;cases Jn;have:=JU _ ar _ rfl;cases this;rfl
       . cases Jn
     . cases Jn
   . cases h
 . cases h
omit he a8 cy in
theorem amO{bytes n:Nat}:q5 bytes n=true↔(2*n+192)*bytes<=UE/\n<=I':=by simp[q5]
omit he a8 cy in
theorem ajS{bytes n:Nat}(h:q5 bytes n=true):TY n bytes/\n<=I':=⟨.inl (amO.1 h).1,(amO.1 h).2⟩
theorem aIY{sz bytes:Nat}{x y:dy}(h:ka gl gd env J N (.append sz bytes x y)=some (c,v,J')):xn N J J1 (.append sz bytes x y) env1 (k3 env G gd) c v J':=by
 simp only[ka]at h;split at h
 . rename_i w aa bo;split at h
   . rename_i Sl ale akW;split at h
     . rename_i blk Wl;cases h;obtain⟨p,v1,a1,a2,a3⟩:=ki he a8 aa;obtain⟨q,v2,b1,b2,pI⟩:=ki he a8 bo;have:=a2.ac9;subst this;obtain⟨ys,kn,k0⟩:=am7 cy b2 akW;have k:rm N J (N+16) (k1 J N blk):=TD;obtain⟨d1,d2,d3⟩:=k0.blk (N':=N+16) (J':=k1 J N blk) Wl
       refine .store rfl k (.c (.arr N sz ys.length (by omega) ?_)) λay a7=>⟨p/\q/\(∀e,e∈ys->e.length=sz)/\TY ys.length bytes/\ys.length<=I',_,by simp only[dx,a1,b1,ec,show Vy (.c .hN) v2=none from rfl,kn],⟨a3 ay,pI ay,d2,?_⟩,cy.put (by omega) k d1⟩
       . intro x aa r al;rw[Nv,bJ rfl]at aa;cases aa;rw[d3]at al;cases al;rw[k0.length]
       . rw[k0.length];exact ajS a7
     . cases h
   . cases h
 . rename_i b w aa bo;split at h
   . rename_i aAl xb Sl alM aho akW;split at h
     . cases h
     . rename_i aOh;split at h
       . cases h
       . rename_i ahp;split at h
         . rename_i arc aL6;split at h
           . rename_i blk Wl;cases h;obtain⟨p,v1,a1,a2,a3⟩:=ki he a8 aa;obtain⟨q,v2,b1,b2,pI⟩:=ki he a8 bo;obtain⟨j2,M4,Zu,ai,Pq⟩:=a2.MR;subst Zu;obtain⟨ys,kn,k0⟩:=am7 cy b2 akW;obtain⟨xs,ep,hp⟩:=am7 cy a2 aho;have gb:=hp.join k0 aL6;have M3:rm N (dl J b) (N+16) (k1 (dl J b) N blk):=TD
             have k:rm N J (N+16) (k1 (dl J b) N blk):=rm.trans aao M3;obtain⟨d1,d2,d3⟩:=gb.blk (N':=N+16) (J':=k1 (dl J b) N blk) Wl
             obtain⟨hs,eJ⟩:eb J1 b=some (.arr j2 xs)/\M4=xs.length:=by
              simp only[Ut]at ep
              grind
             have aLQ:j2=sz:=by
              unfold aAn at ahp;split at ahp
              . rename_i z gb;split at ahp
                . rename_i r al;have:=Pq _ gb _ al;simp_all
                . cases ahp
              . cases ahp
             subst aLQ;have agR:l3 N (dl J b) (N1 J1 b):=by
              intro i z gb;rw[Wv]at gb;split at gb
              . cases gb
              . rename_i aoT;obtain⟨h1,y,ad,a'⟩:=cy i z gb;exact⟨h1,y,by rw[li,cx aoT];exact ad,a'.mono aao⟩
             have aOi:alM≠some b:=by
              intro e;simp_all
             refine .store rfl k (.c (.arr N j2 (xs++ys).length (by omega) ?_)) λay a7=>⟨p/\q/\j2=j2/\j2=j2/\0=0/\M4=xs.length/\(∀e,e∈ys->e.length=j2)/\TY (xs.length+ys.length) bytes/\xs.length+ys.length<=I',_,?_,⟨a3 ay,pI ay,rfl,rfl,rfl,eJ,λe he=>d2 e (by simp[he]),?_⟩,agR.put (by omega) M3 d1⟩
             . intro x aa r al;rw[Nv,bJ rfl]at aa;cases aa;rw[d3]at al;cases al;rw[gb.length]
             . have apB:Vy (.c (.arr b j2 0 M4)) v2=none:=by
                refine aIX (J1:=J1) b2 ?_ ?_ ?_<;>(intros;rintro rfl;simp[Z1]at akW)
               simp only[dx,a1,b1,ec,apB,kn,hs]
               grind
             . have:=ajS a7;rw[<-gb.length,ZI]at this;exact this
           . cases h
         . cases h
   . cases h
 . rename_i b h0 hf fu len aa bo;split at h
   . rename_i OP;have OP:=em OP;subst OP;split at h
     . rename_i t l ar;split at h
       . rename_i hG;have hG:=em hG;cases h;obtain⟨p,v1,a1,a2,a3⟩:=ki he a8 aa;obtain⟨q,v2,b1,b2,pI⟩:=ki he a8 bo;cases a2 with|c a2=>
         cases a2 with|pre _ s1 _ KX abu=>
         cases b2 with|c b2=>
         cases b2 with|LU _ s2 _ _ JS ahs=>
         have ep:=abu _ ar _ rfl;have hp:=ahs _ ar _ rfl;dsimp only at ep hp;subst ep hp;obtain⟨ML,z,d1,d2⟩:=cy b _ ar;cases d2 with
         |arr=>
          have M3:rm N (dl J b) (N+16) (k1 (dl J b) N (.arr t (l.take h0++(l.drop fu).take len))):=TD;have k:rm N J (N+16) (k1 (dl J b) N (.arr t (l.take h0++(l.drop fu).take len))):=rm.trans aao M3;have agR:l3 N (dl J b) (N1 J1 b):=by
           intro i z gb;rw[Wv]at gb;split at gb
           . cases gb
           . rename_i aoT;obtain⟨h1,y,ad,a'⟩:=cy i z gb;exact⟨h1,y,by rw[li,cx aoT];exact ad,a'.mono aao⟩
          refine .store rfl k (.c (.arr N (t.sz U) (l.take h0++(l.drop fu).take len).length (by omega) ?_)) λay a7=>?_
          . intro x aa r al;rw[Nv,bJ rfl]at aa;cases aa;simp only[ni.rz,hr]at al;exact al.symm
          . simp only[h5,u2]at a7;have n':(l.take h0++(l.drop fu).take len).length=h0+len:=by simp;omega
            refine⟨p/\q/\t.sz U=t.sz U/\t.sz U=t.sz U/\t.sz U=t.sz U/\0=0/\h0+len<=(l.map (t.enc U)).length/\fu+len<=(l.map (t.enc U)).length,_,?_,⟨a3 ay,pI ay,rfl,rfl,rfl,rfl,by simpa using a7.1,by simpa using a7.2⟩,agR.put (by omega) M3 (.arr t _)⟩
            have apB:Vy (.c (.arr b (t.sz U) 0 h0)) (.c (.J0 b (t.sz U) fu len))=some (b,t.sz U,0,h0,t.sz U,fu,len):=by simp[Vy]
            simp only[dx,a1,b1,ec,apB,acY,d1,n',ak5,ahJ,ak6];subst hG;simp
       . cases h
     . cases h
   . cases h
 . cases h
omit he a8 cy in
theorem arV{t:c8}(ht:t.ahx=false):∀{xs:List (fz U)} {ds:List C} {l:List (t.den U.D)},er (i' N J) xs ds->aiv t xs=some l->∃ts,toTs ds=some ts/\ts.map (λx=>[x])=l.map (t.enc U)
 |[],[],l,_,h=>by simp[aiv]at h;subst h;exact⟨[],rfl,rfl⟩
 |x::xs,d::ds,l,.cons h1 ad,h=>by
  unfold aiv at h;split at h
  . grind
  . rename_i c r Va;cases Va;split at h
    . rename_i y m a7 hm;cases h;obtain⟨ts,ep,hp⟩:=arV ht ad hm;cases h1;have sa:=Cell.RD a7;subst sa;refine⟨Cell.enc U ⟨t,y⟩::ts,by simp[toTs,ep,toT],?_⟩;rw[Vk,hp,Vk]
      congr 1
      cases t<;>first|rfl|cases ht
    . cases h
  . cases h
theorem aIZ{cs:List C}(h:ka gl gd env J N (.allocA cs)=some (c,v,J')):xn N J J1 (.allocA cs) env1 (k3 env G gd) c v J':=by
 simp only[ka]at h;split at h
 . rename_i xs P8;split at h
   . rename_i t l ar;cases h;unfold awW at ar;split at ar
     . rename_i KU r;split at ar
       . rename_i Q1 ht hs;cases ar;obtain⟨ts,ep,hp⟩:=arV ht (aah (N:=N) (J:=J) P8) hs;have k:rm N J (N+16) (k1 J N (.arr KU.ty Q1)):=TD;refine .store rfl k (.c (.ptr _ _)) λay _=>⟨True,_,by simp only[dx,ep,LO,hp];rfl,trivial,cy.put (by omega) k ?_⟩
         have hG:KU.ty.sz U=1:=by
          generalize KU.ty=t0 at ht;cases t0<;>first|rfl|cases ht
         have:=NJ.arr (N:=N+16) (J:=k1 J N (.arr KU.ty Q1)) KU.ty Q1
         grind
       . cases ar
     . cases ar
   . cases h
 . cases h
theorem aKd{k:Nat}{x y:dy}(h:ka gl gd env J N (.idxP k x y)=some (c,v,J')):xn N J J1 (.idxP k x y) env1 (k3 env G gd) c v J':=by
 simp only[ka]at h;split at h
 . rename_i b kk m aJ e1;split at h
   . rename_i t l ai;split at h
     . rename_i hG;have hG:=em hG;cases h;obtain⟨pp,v1,a1,a2,a3⟩:=ki he a8 aJ;obtain⟨P',v2,b1,b2,pI⟩:=ki he a8 e1;have:=a2.Ny;subst this;have:=b2.Lp;subst this;refine .neutral cy (.c (.k' _ _ _ _)) λay a7=>⟨pp/\P'/\(0:Int)<=m/\Int.toNat m<k,?_,a3 ay,pI ay,(aar.1 a7).1,(aar.1 a7).2⟩
       simp only[dx,a1,b1,ec,hG];rfl
     . cases h
   . cases h
 . cases h
theorem aKe{k:Nat}{x:dy}{fu ao:Option dy}(h:ka gl gd env J N (.slcP k x fu ao)=some (c,v,J')):xn N J J1 (.slcP k x fu ao) env1 (k3 env G gd) c v J':=by
 simp only[ka]at h;split at h
 . rename_i b l r aJ ar al;cases h;obtain⟨pp,v1,a1,a2,a3⟩:=ki he a8 aJ;obtain⟨pl,Qs,l2⟩:=Xk he a8 cy ar;obtain⟨LR,ln,sb⟩:=Xk he a8 cy al;have:=a2.Ny;subst this
   exact .neutral cy (.c (.sub _ _ _)) λay a7=>⟨pp/\pl/\LR/\0<=l.getD 0/\l.getD 0<=r.getD (k:Int)/\r.getD (k:Int)<=(k:Int),by simp only[dx,a1,Qs,ln,ec],a3 ay,l2 ay,sb ay,Qg.1 a7⟩
 . cases h
omit he a8 cy in
theorem ajG:∀(l:ev),bytesOf (List.map ((c8.int .u8).enc U) l)=some (aed l)
 |[]=>rfl
 |m::l=>by
  have:=ajG l;show bytesOf ([T.int .u8 m]::_)=_;simp only[bytesOf,this];rfl
omit he a8 cy in
theorem aIH{b off len:Nat}{es:List (List T)}{s:b8}(h:eb J1 b=some (.arr 1 es))(hs:bytesOf ((es.drop off).take len)=some s):V2 J1 (.c (.arr b 1 off len))=some (off+len<=es.length,s):=by simp[V2,h,hs]
omit he a8 cy in
theorem aII{b off len:Nat}{es:List (List T)}{s:b8}(h:eb J1 b=some (.arr 1 es))(hs:bytesOf ((es.drop off).take len)=some s):V2 J1 (.c (.J0 b 1 off len))=some (off+len<=es.length,s):=by simp[V2,h,hs]
omit he a8 cy in
theorem aIi{es:List (List T)}{s:b8}(hs:bytesOf es=some s):V2 J1 (.c (.t (.slice es)))=some (True,s):=by simp[V2,hs]
theorem aNu{x:dy}(h:ka gl gd env J N (.b2s x)=some (c,v,J')):xn N J J1 (.b2s x) env1 (k3 env G gd) c v J':=by
 simp only[ka]at h;split at h
 . rename_i l aJ;cases h;obtain⟨pp,v1,a1,a2,a3⟩:=ki he a8 aJ;have:=a2.Q8;subst this
   exact .neutral cy (.c (.t (U:=U) ⟨.str,_⟩)) λay a7=>⟨pp/\True,by
    simp only[dx,a1,ec]
    exact(Jy (Option.map _) (aIi (J1:=J1) (ajG (U:=U) l))).trans rfl,a3 ay,trivial⟩
 . rename_i aJ;cases h;obtain⟨pp,v1,a1,a2,a3⟩:=ki he a8 aJ;have:=a2.ac9;subst this;exact .neutral cy (.c (.t (U:=U) ⟨.str,_⟩)) λay a7=>⟨pp/\True,by simp only[dx,a1,ec,V2,LO];rfl,a3 ay,trivial⟩
 . rename_i b aJ;split at h
   . rename_i l ai;cases h;obtain⟨pp,v1,a1,a2,a3⟩:=ki he a8 aJ;obtain⟨j2,n,rfl,ML,ay⟩:=a2.MR;have:=ay _ ai _ rfl;cases this;obtain⟨_,y,bo,aoU⟩:=cy _ _ ai;cases aoU;refine .neutral cy (.c (.t (U:=U) ⟨.str,_⟩)) λay a7=>⟨pp/\(0+l.length<=(l.map ((c8.int .u8).enc U)).length),?_,a3 ay,by simp⟩
     simp only[dx,a1,ec];have e:bytesOf (((l.map ((c8.int .u8).enc U)).drop 0).take l.length)=some (aed l):=by rw[Yn,abJ (by simp)];exact ajG l
     exact(Jy (Option.map _) (aIH bo e)).trans rfl
   . cases h
 . rename_i b fu len aJ;split at h
   . rename_i l ai;cases h;obtain⟨pp,v1,a1,a2,a3⟩:=ki he a8 aJ;have:v1= .c (.J0 b 1 fu len):=by cases a2 with|c h=>cases h;rfl
     subst this;obtain⟨_,y,bo,aoU⟩:=cy _ _ ai;cases aoU;refine .neutral cy (.c (.t (U:=U) ⟨.str,_⟩)) λay a7=>⟨pp/\(fu+len<=(l.map ((c8.int .u8).enc U)).length),?_,a3 ay,by simpa[azT]using a7⟩
     simp only[dx,a1,ec];have e:bytesOf (((l.map ((c8.int .u8).enc U)).drop fu).take len)=some (aed ((l.drop fu).take len)):=by rw[<-ak6,<-ahJ];exact ajG ((l.drop fu).take len)
     exact(Jy (Option.map _) (aII bo e)).trans rfl
   . cases h
 . cases h
theorem aI0{e e8:Nat}(h:ka gl gd env J N (.allocS e e8)=some (c,v,J')):xn N J J1 (.allocS e e8) env1 (k3 env G gd) c v J':=by
 simp only[ka,hr,ho]at h;obtain⟨rfl,rfl,rfl⟩:=h;have hk:rm N J (N+16) (k1 (k1 J (N+1) (.buf e8 [])) N (.hZ e (.lJ (N+1)))):=by
  refine⟨by omega,λb hO ai aa=>?_⟩;rw[Nv,I2,Nv,I2]at aa
  grind
 refine .store rfl hk (.c (.ptr _ _)) λ_ _=>⟨True,_,rfl,trivial,λb x aa=>?_⟩
 rw[Nv]at aa;rw[n2];by_cases h1:N=b
 . rw[bJ h1]at aa⊢;cases aa;refine⟨by omega,_,rfl,.hZ (.lJ _ _ (by omega) λx aa p aJ=>?_)⟩;rw[Nv,I2,Nv,bJ rfl]at aa;cases aa
   simpa[ni.rz]using aJ.symm
 . rw[cx h1,Nv]at aa;rw[cx h1,n2];by_cases ad:N+1=b
   . rw[bJ ad]at aa⊢;cases aa;exact⟨by omega,_,rfl,.buf _ _⟩
   . rw[cx ad]at aa⊢;obtain⟨ha,y,hg,hQ⟩:=cy b x aa;exact⟨by omega,y,hg,hQ.mono hk⟩
theorem aIJ(h:ka gl gd env J N .mkset=some (c,v,J')):xn N J J1 .mkset env1 (k3 env G gd) c v J':=by
 simp only[ka,hr,ho]at h;obtain⟨rfl,rfl,rfl⟩:=h;have k:rm N J (N+16) (k1 J N (.set [])):=TD;exact .store rfl k (.c (.mp _)) λ_ _=>⟨True,_,rfl,trivial,cy.put (by omega) k (.set _)⟩
theorem aIK{x y:dy}(h:ka gl gd env J N (.lkset x y)=some (c,v,J')):xn N J J1 (.lkset x y) env1 (k3 env G gd) c v J':=by
 simp only[ka]at h;split at h
 . rename_i b s aa bo;split at h
   . rename_i ks NT;cases h;obtain⟨p,v1,a1,a2,a3⟩:=ki he a8 aa;obtain⟨q,v2,b1,b2,pI⟩:=ki he a8 bo;have:=a2.apR;subst this;have:=b2.Q9;subst this;obtain⟨_,z,d1,d2⟩:=cy b _ NT;cases d2;exact .neutral cy (.c (.t (U:=U) ⟨.bool,_⟩)) λay _=>⟨p/\q,by simp only[dx,a1,b1,ec,d1];rfl,a3 ay,pI ay⟩
   . cases h
 . cases h
theorem aIL{x y:dy}(h:ka gl gd env J N (.upset x y)=some (c,v,J')):xn N J J1 (.upset x y) env1 (k3 env G gd) c v J':=by
 simp only[ka]at h;split at h
 . rename_i b s aa bo;split at h
   . rename_i ks NT;cases h;obtain⟨p,v1,a1,a2,a3⟩:=ki he a8 aa;obtain⟨q,v2,b1,b2,pI⟩:=ki he a8 bo;have:=a2.apR;subst this;have:=b2.Q9;subst this;obtain⟨ML,z,d1,d2⟩:=cy b _ NT;cases d2;have Ji:rm N J (N+16) (k1 J b (.set (O7 ks s))):=VM (by omega) NT (λp h=>by simp[ni.rz]at h)
     exact .store rfl Ji (.e2 [] [] rfl (by simp)) λay _=>⟨p/\q,_,by simp only[dx,a1,b1,ec,d1],⟨a3 ay,pI ay⟩,cy.put (by omega) Ji (.set _)⟩
   . cases h
 . cases h
theorem aIj{e bytes:Nat}{x y:dy}(h:ka gl gd env J N (.appendB e bytes x y)=some (c,v,J')):xn N J J1 (.appendB e bytes x y) env1 (k3 env G gd) c v J':=by
 simp only[ka]at h;split at h
 . rename_i b s aa bo;split at h
   . rename_i pJ l ai;split at h
     . rename_i X6;have:=em X6;subst this;cases h;obtain⟨p,v1,a1,a2,a3⟩:=ki he a8 aa;obtain⟨q,v2,b1,b2,pI⟩:=ki he a8 bo;obtain⟨n,rfl,ML,JU⟩:=a2.akh;have:=JU _ ai _ rfl;cases this;have:=b2.Q9;subst this;obtain⟨_,z,d1,d2⟩:=cy b _ ai;cases d2;have ha:rm N J N (dl J b):=aao
       have hg:rm N (dl J b) (N+16) (k1 (dl J b) N (.buf pJ (aoh l s))):=TD;have S0:l3 N (dl J b) (N1 J1 b):=by
        intro hf x aa;rw[Wv]at aa;split at aa
        . cases aa
        . rename_i hn;obtain⟨h1,y,ad,a'⟩:=cy hf x aa;exact⟨h1,y,by rw[li,cx hn];exact ad,a'.mono ha⟩
       refine .store rfl (ha.trans hg) (.c (.lJ N (List.length l+List.length s) (by omega) λx aa p aJ=>?_)) λay a7=>⟨p/\q/\pJ=pJ/\List.length l=List.length l/\TY (List.length l+List.length s) bytes/\List.length l+List.length s<=I',_,?_,⟨a3 ay,pI ay,rfl,rfl,(ajS a7).1,(ajS a7).2⟩,S0.put (by omega) hg (.buf _ _)⟩
       . rw[Nv,bJ rfl]at aa;cases aa;simp only[ni.rz,hr]at aJ;exact aJ.symm.trans (Jy (Prod.mk 1) aFB)
       . simp only[dx,a1,b1,ec,d1];rfl
     . cases h
   . cases h
 . cases h
theorem aIM{x:dy}(h:ka gl gd env J N (.sdata x)=some (c,v,J')):xn N J J1 (.sdata x) env1 (k3 env G gd) c v J':=by
 simp only[ka]at h;split at h
 . rename_i b aa;cases h;obtain⟨p,v1,a1,a2,a3⟩:=ki he a8 aa;obtain⟨n,rfl,_,_⟩:=a2.akh;exact .neutral cy (.c (.y2 _)) λay _=>⟨p,by simp[dx,a1],a3 ay⟩
 . cases h
theorem aKf{e:Nat}{x y:dy}(h:ka gl gd env J N (.ustr e x y)=some (c,v,J')):xn N J J1 (.ustr e x y) env1 (k3 env G gd) c v J':=by
 simp only[ka]at h;split at h
 . rename_i b m aa bo;split at h
   . rename_i pJ l ai;split at h
     . rename_i X6;have:=em X6;subst this;cases h;obtain⟨p,v1,a1,a2,a3⟩:=ki he a8 aa;obtain⟨q,v2,b1,b2,pI⟩:=ki he a8 bo;have:=a2.azR;subst this;have:=b2.Lp;subst this;obtain⟨_,z,d1,d2⟩:=cy b _ ai;cases d2;have ha:rm N J N (dl J b):=aao;have S0:l3 N (dl J b) (N1 J1 b):=by
        intro hf x aa;rw[Wv]at aa;split at aa
        . cases aa
        . rename_i hn;obtain⟨h1,y,ad,a'⟩:=cy hf x aa;exact⟨h1,y,by rw[li,cx hn];exact ad,a'.mono ha⟩
       refine .store rfl (ha.trans (rm.more (by omega))) (.c (.t (U:=U) ⟨.str,_⟩)) λay a7=>⟨p/\q/\pJ=pJ/\m=(List.length l:Int),_,?_,⟨a3 ay,pI ay,rfl,aIC.1 a7⟩,S0.mono (by omega)⟩
       simp only[dx,a1,b1,ec,d1];rfl
     . cases h
   . cases h
 . cases h
theorem aIk{e sz len:Nat}{z:List C}{parts:List (Nat×dy)}(h:ka gl gd env J N (.bsliceT e sz len z parts)=some (c,v,J')):xn N J J1 (.bsliceT e sz len z parts) env1 (k3 env G gd) c v J':=by
 simp only[ka]at h;split at h
 . cases h
 . rename_i t ht;split at h
   . rename_i tw gb;split at h
     . cases h
     . rename_i ts J7;split at h
       . cases h
       . rename_i hG;have hG:=em hG;split at h
         . rename_i rows al;split at h
           . rename_i l ar;cases h;have abu:=aah (N:=N) (J:=J) gb;obtain⟨p,es,a1,a2,a4,a3⟩:=amm he a8 al (es:=List.replicate len ts) (er.replicate (R:=λr e=>NG r=some e) J7 len) (by intro r al;rw[ala al];exact hG);have hp:l.map (t.enc U)=es:=acx ar a2;refine .neutral cy (.c (.t (U:=U) ⟨.slice t,l⟩)) λay _=>⟨p,?_,a3 ay⟩
             simp only[dx,ajp abu J7,ec,a1,LO];rw[<-hp];rfl
           . cases h
         . cases h
   . cases h
theorem atL{o:l1}(h:ka gl gd env J N o=some (c,v,J')):xn N J J1 o env1 (k3 env G gd) c v J':=by
 cases o with
 |mov x=>exact aNB he a8 cy h
 |pick c x y=>exact aJ2 he a8 cy h
 |alloc cs=>exact aIF he a8 cy h
 |box x=>exact aNw he a8 cy h
 |allocA cs=>exact aIZ he a8 cy h
 |idxP k x i=>exact aKd he a8 cy h
 |slcP k x fu ao=>exact aKe he a8 cy h
 |b2s x=>exact aNu he a8 cy h
 |allocS e e8=>exact aI0 he a8 cy h
 |bsliceT e sz len z parts=>exact aIk he a8 cy h
 |mkset=>exact aIJ he a8 cy h
 |lkset x k=>exact aIK he a8 cy h
 |upset x k=>exact aIL he a8 cy h
 |appendB e b x y=>exact aIj he a8 cy h
 |sdata x=>exact aIM he a8 cy h
 |ustr e x k=>exact aKf he a8 cy h
 |build z parts=>exact aIE he a8 cy h
 |bslice sz len z parts=>exact aIW he a8 cy h
 |load agg n x=>exact aJ5 he a8 cy h
 |store n x v=>exact aIG he a8 cy h
 |nilCheck x=>exact aGM he a8 cy h
 |bin op x y=>exact aNv he a8 cy h
 |eqAgg neg ks x y=>exact aID he a8 cy h
 |eqBool neg x y=>exact aHB he a8 cy h
 |eqNil neg x=>simp[ka]at h
 |not x=>exact aNC he a8 cy h
 |conv k x=>exact aJ3 he a8 cy h
 |i2s x=>exact aNz he a8 cy h
 |s2s x=>exact aND he a8 cy h
 |fldA off x=>exact aJ4 he a8 cy h
 |fld agg off n x=>exact aNy he a8 cy h
 |idxA sz x i=>exact aJ6 he a8 cy h
 |idxS x i=>exact aJ7 he a8 cy h
 |slcS x fu ao=>exact aJ8 he a8 cy h
 |slc sz x fu ao=>exact aNE he a8 cy h
 |slc0 x=>exact aJ9 he a8 cy h
 |mkfn f caps=>exact aJ' he a8 cy h
 |ext x i=>exact aNx he a8 cy h
 |len str x=>exact aNA he a8 cy h
 |append sz bytes x y=>exact aIY he a8 cy h
 |max2 x y=>exact aKa he a8 cy h
 |min2 x y=>exact aKb he a8 cy h
 |call f args=>simp[ka]at h
 |OK x args=>simp[ka]at h
end
end
end
section
open Go
variable {U:k9}
def fz.iJ(b0:Nat)(c:Cell U.D):fz U->fz U
 |.arr b=>match Nat.beq b b0 with
  |true=>.t c
  |false=>.arr b
 |.k' b ty i o=>match Nat.beq b b0 with
  |true=>.dead
  |false=>.k' b ty i o
 |.pre b h=>match Nat.beq b b0 with
  |true=>.dead
  |false=>.pre b h
 |.LU b fu len=>match Nat.beq b b0 with
  |true=>.dead
  |false=>.LU b fu len
 |x=>x
def hl.iJ(b0:Nat)(c:Cell U.D):hl U->hl U
 |.c x=>.c (x.iJ b0 c)
 |.agg cs=>.agg (cs.map (fz.iJ b0 c))
 |.e2 vs=>.e2 (go b0 c vs)
where go (b0:Nat) (c:Cell U.D):List (hl U)->List (hl U)
 |[]=>[]
 |v::vs=>v.iJ b0 c::go b0 c vs
def ni.iJ(b0:Nat)(c:Cell U.D):ni U->ni U
 |.box cs=>.box (cs.map (fz.iJ b0 c))
 |.hZ E x=>.hZ E (x.iJ b0 c)
 |.kx t l i o x=>.kx t l i o (x.iJ b0 c)
 |x=>x
def Z2(b0:Nat)(c:Cell U.D):hM U->hM U
 |[]=>[]
 |(k,v)::r=>(k,v.iJ b0 c)::Z2 b0 c r
def Vz(b0:Nat)(c:Cell U.D):fr U->fr U
 |[]=>[]
 |(k,x)::r=>match Nat.beq k b0 with
  |true=>Vz b0 c r
  |false=>(k,x.iJ b0 c)::Vz b0 c r
def aip(b:Nat)(t:c8)(env:hM U)(J:fr U):Option (hM U×fr U):=
 match eg J b with
 |some (.arr Jt l)=>match Cell.as (.slice t) (⟨.slice Jt,l⟩:Cell U.D)with
  |some l=>some (Z2 b ⟨.slice t,l⟩ env,Vz b ⟨.slice t,l⟩ J)
  |none=>none
 |some (.rows _ r)=>match Us U t r with
  |some l=>some (Z2 b ⟨.slice t,l⟩ env,Vz b ⟨.slice t,l⟩ J)
  |none=>none
 |_=>some (env,J)
def Sj:List (Nat×c8)->hM U->fr U->Option (hM U×fr U)
 |[],env,J=>some (env,J)
 |(b,t)::r,env,J=>match aip b t env J with
  |some (env',J')=>Sj r env' J'
  |none=>none
section
variable {kk N:Nat}{J J':fr U}{J1:ee}{env env':hM U}{env1:hc}{G:Nat->Bool}{gl:zJ}
theorem ajT{b0:Nat}{c:Cell U.D}:∀{env:hM U} {k:Nat},eg (Z2 b0 c env) k=(eg env k).map (hl.iJ b0 c)
 |[],k=>rfl
 |(i,v)::r,k=>by
  simp only[Z2,eg];cases Nat.beq i k with
  |true=>rfl
  |false=>exact ajT
theorem aas{b0:Nat}{c:Cell U.D}:∀{J:fr U} {k:Nat},eg (Vz b0 c J) k=if k=b0 then none else(eg J k).map (ni.iJ b0 c)
 |[],k=>by simp[Vz,eg]
 |(i,x)::r,k=>by
  simp only[Vz];cases h:Nat.beq i b0 with
  |true=>
   have:=em h;subst this;simp only[aas,eg];by_cases ad:k=i
   . grind
   . rw[cx ad,cx ad];cases a':Nat.beq i k with
     |true=>exact absurd (em a').symm ad
     |false=>rfl
  |false=>
   simp only[eg,aas]
   grind
theorem ni.akw{b0:Nat}{c:Cell U.D}{x:ni U}:(x.iJ b0 c).rz=x.rz:=by cases x<;>rfl
theorem i'.iJ{b0 sz:Nat}{c:Cell U.D}{es:List (List T)}{b9:ni U}(h0:eg J b0=some b9)(ay:b9.rz=some (sz,es.length))(a7:c.enc U= .slice es){x:fz U}{d:C}(h:i' N J x d):
 i' N (Vz b0 c J) (x.iJ b0 c) (d.iJ b0 sz es):=by
 cases h with
 |t c=>exact .t c
 |ptr b o=>exact .ptr b o
 |k' b t i o=>
  simp only[fz.iJ,C.iJ];cases h:Nat.beq b b0 with
  |true=>rw[bJ (em h)];exact .dead _
  |false=>rw[cx (ND h)];exact .k' b t i o
 |vt t x o=>exact .vt t x o
 |arr b j2 n ai h=>
  simp only[fz.iJ,C.iJ];cases OP:Nat.beq b b0 with
  |true=>
   have:=em OP;subst this;have:=h b9 h0 _ ay;cases this;rw[bJ rfl,bJ ⟨rfl,by omega⟩];have:cut es 0 es.length=es:=by simp[cut]
   rw[this,<-a7];exact .t c
  |false=>
   rw[cx (ND OP)];refine .arr b j2 n ai λy bo p aJ=>?_
   rw[aas,cx (ND OP)]at bo;simp only[e0]at bo;obtain⟨Ri,S8,rfl⟩:=bo;rw[ni.akw]at aJ;exact h Ri S8 p aJ
 |sub b fu len=>exact .sub b fu len
 |pre b j2 n ai h=>
  simp only[fz.iJ];cases OP:Nat.beq b b0 with
  |true=>exact .dead _
  |false=>
   simp only[C.iJ];rw[cx (ND OP)];refine .pre b j2 n ai λy bo p aJ=>?_
   rw[aas,cx (ND OP)]at bo;simp only[e0]at bo;obtain⟨Ri,S8,rfl⟩:=bo;rw[ni.akw]at aJ;exact h Ri S8 p aJ
 |LU b j2 fu len ai h=>
  simp only[fz.iJ];cases OP:Nat.beq b b0 with
  |true=>exact .dead _
  |false=>
   simp only[C.iJ];refine .LU b j2 fu len ai λy bo p aJ=>?_
   rw[aas,cx (ND OP)]at bo;simp only[e0]at bo;obtain⟨Ri,S8,rfl⟩:=bo;rw[ni.akw]at aJ;exact h Ri S8 p aJ
 |mp b=>exact .mp b
 |y2 b=>exact .y2 b
 |lJ b n ai h=>
  refine .lJ b n ai λy bo p aJ=>?_
  rw[aas]at bo;split at bo
  . cases bo
  . simp only[e0]at bo;obtain⟨Ri,S8,rfl⟩:=bo;rw[ni.akw]at aJ;exact h Ri S8 p aJ
 |hN=>exact .hN
 |Jq=>exact .Jq
 |Jp=>exact .Jp
 |fn f caps=>exact .fn f caps
 |dead d=>exact .dead _
theorem arW{b0:Nat}{c:Cell U.D}:∀{vs:List (hl U)} {i:Nat},(hl.iJ.go b0 c vs)[i]?=(vs[i]?).map (hl.iJ b0 c)
 |[],i=>by simp[hl.iJ.go]
 |v::vs,0=>by simp[hl.iJ.go]
 |v::vs,i+1=>by simp[hl.iJ.go,arW]
theorem asv{b0:Nat}{c:Cell U.D}:∀{vs:List (hl U)},(hl.iJ.go b0 c vs).length=vs.length
 |[]=>rfl
 |v::vs=>by simp[hl.iJ.go,asv]
theorem hV.iJ{b0 sz:Nat}{c:Cell U.D}{es:List (List T)}{b9:ni U}(h0:eg J b0=some b9)(ay:b9.rz=some (sz,es.length))(a7:c.enc U= .slice es){x:hl U}{d:V}(h:hV N J x d):
 hV N (Vz b0 c J) (x.iJ b0 c) (d.iJ b0 sz es):=by
 induction h with
 |c h=>exact .c (h.iJ h0 ay a7)
 |agg h=>exact .agg (er.map_map (h.imp λ_ _ _ ak=>ak.iJ h0 ay a7))
 |e2 xs ds ar h ih=>
  refine .e2 _ _ (by rw[asv,ame];exact ar) ?_;intro i x d aa JU;rw[arW,e0]at aa;rw[anF,e0]at JU;obtain⟨hO,Jx,rfl⟩:=aa;obtain⟨vv,aKZ,rfl⟩:=JU;exact ih i hO vv Jx aKZ
theorem axm{b0 sz:Nat}{c:Cell U.D}{es:List (List T)}{b9:ni U}(h0:eg J b0=some b9)(ay:b9.rz=some (sz,es.length))(a7:c.enc U= .slice es)(hs:eb J1 b0=some (.arr sz es))(he:pq N J G env env1)(cy:l3 N J J1):
 Conv kk N env1 J1 N (YD b0 sz es env1) (U3 b0 sz es J1)/\pq N (Vz b0 c J) G (Z2 b0 c env) (YD b0 sz es env1)/\l3 N (Vz b0 c J) (U3 b0 sz es J1):=by
 refine⟨Conv.freeze b0 hs,λk v hk=>?_,λb x aa=>?_⟩
 . rw[ajT,e0]at hk;obtain⟨v0,h1,rfl⟩:=hk;obtain⟨d,ad,a'⟩:=he k v0 h1;exact⟨_,by rw[aeM,ad];rfl,a'.iJ h0 ay a7⟩
 . rw[aas]at aa;split at aa
   . cases aa
   . rename_i hn;simp only[e0]at aa;obtain⟨hO,h1,rfl⟩:=aa;obtain⟨ad,y,a',d'⟩:=cy b hO h1;refine⟨ad,y.iJ b0 sz es,by rw[ajL,cx hn,a'];rfl,?_⟩;cases d' with
     |box d'=>exact .box (er.map_map (d'.imp λ_ _ _ ak=>ak.iJ h0 ay a7))
     |arr t l=>exact .arr t l
     |set ks=>exact .set ks
     |buf E s=>exact .buf E s
     |hZ d'=>exact .hZ (d'.iJ h0 ay a7)
     |kx t l i o d'=>exact .kx t l i o (d'.iJ h0 ay a7)
     |rows d' hy=>exact .rows d' hy
theorem MF.iJ{b0:Nat}{c:Cell U.D}(h:MF gl env G):MF gl (Z2 b0 c env) G:=by
 refine⟨h.free,λk t b hk=>?_⟩;obtain⟨y,h1,ad⟩:=h.held k t b hk;refine⟨y,?_,ad⟩;unfold JA at h1⊢;rw[ajT];split at h1
 . rename_i x aa;rw[aa];show some _=some y;exact h1
 . cases h1
theorem aIN{α β:Type}{f:α->β}{l:List α}{sz:Nat}:some (sz,l.length)=some (sz,(l.map f).length):=by rw[PE]
theorem atM{b:Nat}{t:c8}(h:aip b t env J=some (env',J'))(he:pq N J G env env1)(cy:l3 N J J1):
 ∃j0 f',Conv kk N env1 J1 N j0 f'/\pq N J' G env' j0/\l3 N J' f'/\(MF gl env G->MF gl env' G):=by
 unfold aip at h;split at h
 . rename_i Jt C0 ar;split at h
   . rename_i l b6;have e:=Cell.RD b6;cases e;cases h;obtain⟨_,y,h1,ad⟩:=cy b _ ar;cases ad;obtain⟨ha,hg,hQ⟩:=axm (kk:=kk) (c:=⟨.slice t,l⟩) (es:=List.map (t.enc U) l) ar aIN rfl h1 he cy;exact⟨_,_,ha,hg,hQ,λa8=>a8.iJ⟩
   . cases h
 . rename_i sz r ar;split at h
   . rename_i l b6;cases h;obtain⟨_,y,h1,ad⟩:=cy b _ ar;cases ad with
     | @rows _ _ es ad a'=>
      have hm:=acx b6 ad;obtain⟨ha,hg,hQ⟩:=axm (kk:=kk) (c:=⟨.slice t,l⟩) (es:=es) ar (by simp only[ni.rz];rw[ad.length]) (by rw[<-hm];rfl) h1 he cy;exact⟨_,_,ha,hg,hQ,λa8=>a8.iJ⟩
   . cases h
 . cases h;exact⟨env1,J1,Conv.refl,he,cy,λh=>h⟩
theorem aeI:∀{l:List (Nat×c8)} {env env':hM U} {J J':fr U} {env1:hc} {J1:ee},Sj l env J=some (env',J')->pq N J G env env1->l3 N J J1->
 ∃j0 f',Conv kk N env1 J1 N j0 f'/\pq N J' G env' j0/\l3 N J' f'/\(MF gl env G->MF gl env' G)
 |[],env,env',J,J',env1,J1,h,he,cy=>by simp[Sj]at h;obtain⟨rfl,rfl⟩:=h;exact⟨env1,J1,Conv.refl,he,cy,λh=>h⟩
 |(b,t)::r,env,env',J,J',env1,J1,h,he,cy=>by
  simp only[Sj]at h;split at h
  . rename_i e s h1;obtain⟨ep,s1,ha,hg,hQ,oi⟩:=atM (kk:=kk) (gl:=gl) h1 he cy;obtain⟨hp,s2,m1,m2,m3,m4⟩:=aeI h hg hQ;exact⟨hp,s2,ha.trans m1,m2,m3,λa8=>m4 (oi a8)⟩
  . cases h
theorem Conv.close{b sz i o:Nat}{es:List (List T)}{t:T}(ai:eb J1 b=some (.kx sz es i o (.t t))):
 Conv kk N env1 J1 N env1 (qJ J1 b (.arr sz (es.set i ((el es i).take o++[t]++(el es i).drop (o+1))))):=by
 intro cm nt φ S a w Oo R;obtain⟨⟨a1,a2,a3,a4,a5,TK⟩,⟨vs,E,ha,hg,hQ,agA,oi,te⟩,q'⟩:=R.hI.blk _ _ ai;have ag2:es[i]?=some (el es i):=by unfold el;rw[List.getD,HJ a5];rfl
 have aym:(el es i).length=sz:=a3 _ (F' ag2);refine⟨φ,S,R.put (R.vi _ _ ai).1 rfl ⟨by simpa using a1,by simpa using a2,λe he=>?_,a4,λ_=>⟨vs,E,ha,hg,λpy j e Jt he ht=>?_,q'⟩⟩ λh0=>⟨λk y bo hk BJ=>R.hI.inj k b y _ bo ai hk BJ h0,R.own b _ ai h0⟩⟩
 . rcases ahQ he with he|rfl
   . exact a3 e he
   . simp;omega
 . rw[ak4]at he;by_cases QU:i=py
   . subst QU;rw[bJ rfl,bJ a5]at he;cases he;have J5:=(UD (vs:=el es i) (off:=o) (xs:=[t]) (by simp;omega) j)
     unfold Of at J5;rw[show o+[t].length=o+1 from rfl]at J5;rw[J5]at ht;by_cases kn:j=o
     . subst kn;rw[I2,bJ (by omega),Nat.sub_self]at ht;cases ht;exact⟨agA,oi,te⟩
     . have akE:(el es i)[j]?=some Jt:=by
        by_cases k0:j<o
        . rwa [bJ k0]at ht
        . rwa [cx k0,I2]at ht
       exact hQ _ _ _ _ ag2 akE (λh=>kn h.2)
   . rw[cx QU]at he;exact hQ _ _ _ _ he ht (λh=>QU h.1.symm)
def ajU(b:Nat)(env:hM U)(J:fr U):Option (hM U×fr U):=
 match eg J b with
 |some (.kx t l i o (.t c))=>match Nat.ble (o+1) (t.sz U)with
  |true=>match Z4 U t l i o [.t c]with
   |some C0=>some (env,k1 J b (.arr t C0))
   |none=>none
  |false=>none
 |_=>none
def axn(b:Nat)(env:hM U)(J:fr U):Option (hM U×fr U):=
 match eg J b with
 |some (.kx t l i o (.arr b2))=>match (t.row U (t.at U l i))[o]? with
  |some ⟨.slice aNk,_⟩=>match aip b2 aNk env J with
   |some (env',J')=>ajU b env' J'
   |none=>none
  |_=>none
 |_=>ajU b env J
def auj:fr U->Option Nat
 |[]=>none
 |(b,.kx ..)::_=>some b
 |_::r=>auj r
def an7(env:hM U)(J:fr U):Option (hM U×fr U):=
 match auj J with
 |none=>some (env,J)
 |some b=>axn b env J
theorem asE{b:Nat}(h:ajU b env J=some (env',J'))(he:pq N J G env env1)(cy:l3 N J J1):
 ∃j0 f',Conv kk N env1 J1 N j0 f'/\pq N J' G env' j0/\l3 N J' f':=by
 unfold ajU at h;split at h
 . rename_i t l i o c ar;split at h
   . rename_i cJ;have cJ:=ak2 cJ;split at h
     . rename_i l2 Jo;cases h;obtain⟨ML,y,h1,ad⟩:=cy b _ ar;cases ad with
       |kx _ _ _ _ ad=>
        cases ad;have n':l2.length=List.length l:=by
         unfold Z4 at Jo
         grind
        have Ji:rm N J N (k1 J b (.arr t l2)):=VM (DJ _) ar (λp h=>by
         simp only[ni.rz]at h⊢
         grind)
        refine⟨env1,qJ J1 b (.arr (t.sz U) (l2.map (t.enc U))),?_,he.mono Ji,cy.put ML Ji (.arr t l2)⟩;by_cases ao:i<List.length l
        . obtain⟨ts,ep,hp⟩:=anI (N:=N) (J:=J) (ds:=[.t (c.enc U)]) Jo ao (.cons (.t c) .nil) (by simpa using cJ);have:ts=[c.enc U]:=by simpa[toTs,toT]using ep.symm
          subst this;have:=Conv.close (kk:=kk) (N:=N) (env1:=env1) h1;rw[hp]
          simpa using this
        . intro cm nt φ S a w Oo R;obtain⟨⟨_,_,_,_,a5,_⟩,_⟩:=R.hI.blk _ _ h1;simp at a5;omega
     . cases h
   . cases h
 . cases h
theorem aFM(h:an7 env J=some (env',J'))(he:pq N J G env env1)(cy:l3 N J J1):
 ∃j0 f',Conv kk N env1 J1 N j0 f'/\pq N J' G env' j0/\l3 N J' f':=by
 unfold an7 at h;split at h
 . cases h;exact⟨env1,J1,Conv.refl,he,cy⟩
 . unfold axn at h;split at h
   . split at h
     . split at h
       . rename_i e s h1;obtain⟨ep,s1,ha,hg,hQ,_⟩:=atM (kk:=kk) (gl:=[]) h1 he cy;obtain⟨hp,s2,m1,m2,m3⟩:=asE (kk:=kk) h hg hQ;exact⟨hp,s2,ha.trans m1,m2,m3⟩
       . cases h
     . cases h
   . exact asE h he cy
theorem Conv.own{k:Nat}{g:Bool}{sz:Nat}(hk:look env1 k=some (g,.c .hN))(hG:0<sz)(j1:kk<=N):Conv kk N env1 J1 (N+1) ((k,g,.c (.arr N sz 0 0))::env1) (qJ J1 N (.arr sz [])):=by
 intro cm nt φ S a w Oo R;have h':=R.apS hG (by omega);have vc:Ks φ N (0,0) N=(0,0):=by simp[Ks]
 refine⟨Ks φ N (0,0),S,⟨h'.hI,λi NQ v ar a8=>?_,λi NQ v ar a8=>?_,λi NQ v ar a8=>?_,h'.vi,h'.size,h'.defers,h'.ext,h'.own,h'.fix,h'.OU⟩⟩
 . simp only[look]at ar;split at ar
   . rename_i e;cases ar;subst e;obtain⟨x,aa,al⟩:=h'.L0 _ _ _ hk a8;refine⟨x,aa,?_⟩;cases al with
     |c al=>
      obtain⟨a,rfl⟩:=al;refine .c ⟨a,by rw[vc];rfl,λh=>absurd (by rw[vc]) h,by rw[vc];exact DJ _⟩
   . exact h'.L0 i NQ v ar a8
 . simp only[look]at ar;split at ar
   . rename_i e;cases ar;subst e;exact h'.Np _ _ _ hk a8
   . exact h'.Np i NQ v ar a8
 . simp only[look]at ar;split at ar
   . cases ar;simp[V.cv,C.cv,lt]
   . exact h'.LZ i NQ v ar a8
theorem Conv.aMA{b j:Nat}{sz:Nat}{cs:List C}(ai:eb J1 b=some (.box cs))(ea:cs[j]?=some .hN)(ML:b<N)(hG:0<sz)(j1:kk<=N):
 Conv kk N env1 J1 (N+1) env1 (qJ (qJ J1 N (.arr sz [])) b (.box (cs.set j (.arr N sz 0 0)))):=by
 intro cm nt φ S a w Oo R;have h':=R.apS hG (by omega);have vc:Ks φ N (0,0) N=(0,0):=by simp[Ks]
 have KX:eb (qJ J1 N (.arr sz [])) b=some (.box cs):=by rw[n2,I2];exact ai
 have t':∀c x,eb (qJ (qJ J1 N (.arr sz [])) b (.box (cs.set j (.arr N sz 0 0)))) c=some x->(c=b/\x= .box (cs.set j (.arr N sz 0 0)))\/eb (qJ J1 N (.arr sz [])) c=some x:=by
  intro c x aa;rw[n2]at aa
  grind
 have ao5:∀c x,eb (qJ (qJ J1 N (.arr sz [])) b (.box (cs.set j (.arr N sz 0 0)))) c=some x->∃y,eb (qJ J1 N (.arr sz [])) c=some y:=by grind
 refine⟨Ks φ N (0,0),S,⟨⟨λc x aa=>?_,λc vJ x y aa bo hn=>?_,h'.hI.st⟩,h'.L0,h'.Np,h'.LZ,λc x aa=>?_,h'.size,h'.defers,h'.ext,λc x aa=>?_,h'.fix,h'.OU⟩⟩
 . rcases t' c x aa with⟨rfl,rfl⟩|h
   . obtain⟨h0,vs,E,h1,ad,a'⟩:=h'.hI.blk _ _ KX;refine⟨h0,vs,E,h1,?_,a'⟩;obtain⟨v,ch,al⟩:=ad.get ea;obtain⟨a,rfl⟩:=al;have:=er.set (i:=j) ad (a:= .arr N sz 0 0) (b:= .slice a 0 0) ⟨a,by rw[vc];rfl,λh=>absurd (by rw[vc]) h,by rw[vc];exact DJ _⟩;have apu:vs.set j (.slice a 0 0)=vs:=by
      apply ahW
      grind
     rw[apu]at this;exact this
   . exact h'.hI.blk c x h
 . obtain⟨hO,Jx⟩:=ao5 c x aa;obtain⟨NH,MN⟩:=ao5 vJ y bo;exact h'.hI.inj c vJ hO NH Jx MN hn
 . rcases t' c x aa with⟨rfl,rfl⟩|h
   . refine⟨(h'.vi _ _ KX).1,?_⟩;have:=(h'.vi _ _ KX).2;simp only[hF.cv,qa]at this⊢;intro d ay;rcases ahQ ay with h|h
     . exact this d h
     . rw[h];simp[C.cv,lt]
   . exact h'.vi c x h
 . obtain⟨hO,Jx⟩:=ao5 c x aa;exact h'.own c hO Jx
theorem Conv.trim{q b j:Nat}{sz h:Nat}{cs:List C}{es:List (List T)}(e1:eb J1 q=some (.box cs))(ea:cs[j]?=some (.arr b sz 0 h))(ai:eb J1 b=some (.arr sz es))(ak:h<=es.length)(ayP:q<N):
 Conv kk N env1 J1 (N+1) env1 (qJ (qJ (N1 J1 b) N (.arr sz (es.take h))) q (.box (cs.set j (.arr N sz 0 h)))):=by
 intro cm nt φ S a w Oo R;have ML:b<N:=by have:=(R.vi _ _ ai).1;simpa[lt]using this
 have ayQ:q≠b:=by intro e;subst e;rw[e1]at ai;cases ai
 have kJ:∀c,lt N c=true->Ks φ N (φ b) c=φ c:=by
  intro c a7;simp only[lt,u2]at a7;simp only[Ks]
  grind
 have hm:∀c,lt N c=true->lt (N+1) c=true:=λc a7=>axj (by omega) a7
 have h':=R.ah3 kJ;have vc:Ks φ N (φ b) N=φ b:=by simp[Ks]
 have aye:Ks φ N (φ b) b=φ b:=kJ b (by simpa[lt]using ML);have t':∀c x,eb (qJ (qJ (N1 J1 b) N (.arr sz (es.take h))) q (.box (cs.set j (.arr N sz 0 h)))) c=some x->(c=q/\x= .box (cs.set j (.arr N sz 0 h)))\/(c≠q/\c=N/\x= .arr sz (es.take h))\/(c≠q/\c≠N/\c≠b/\eb J1 c=some x):=by
  intro c x aa;rw[n2]at aa;split at aa
  . grind
  . rename_i e;rw[n2]at aa;split at aa
    . grind
    . rename_i hp;rw[li]at aa
      grind
 have Qp:∀c x,eb (qJ (qJ (N1 J1 b) N (.arr sz (es.take h))) q (.box (cs.set j (.arr N sz 0 h)))) c=some x->∃vJ y,eb J1 vJ=some y/\Ks φ N (φ b) c=Ks φ N (φ b) vJ/\(vJ=if c=N then b else c):=by grind
 refine⟨Ks φ N (φ b),S,⟨⟨λc x aa=>?_,λc vJ x y aa bo hn=>?_,h'.hI.st⟩,h'.L0,h'.Np,λk g v ar a8=>V.MV hm (h'.LZ k g v ar a8),λc x aa=>?_,h'.size,h'.defers,h'.ext,λc x aa h0=>?_,h'.fix,λc a7=>by have:=h'.OU c a7;exact hm c this⟩⟩
 . rcases t' c x aa with⟨rfl,rfl⟩|⟨_,rfl,rfl⟩|⟨_,_,_,d'⟩
   . obtain⟨h0,vs,E,h1,ad,a'⟩:=h'.hI.blk _ _ e1;refine⟨h0,vs,E,h1,?_,a'⟩;obtain⟨v,ch,al⟩:=ad.get ea;have abl:fJ (Ks φ N (φ b)) w S (.arr N sz 0 h) v:=by
      obtain⟨a,ep,hp,zt⟩:=al;rw[aye]at ep hp zt;exact⟨a,by rw[vc];exact ep,by rw[vc];exact hp,by rw[vc];exact zt⟩
     have:=er.set (i:=j) ad abl;have apu:vs.set j v=vs:=by
      apply ahW
      grind
     rw[apu]at this;exact this
   . obtain⟨h0,h1,ad,a',d'⟩:=h'.hI.blk _ _ ai;rw[aye]at h0 d';refine⟨by rw[vc,ahG];omega,by rw[ahG];omega,λe he=>ad e (ahU he),a',λa7=>?_⟩;rw[vc]at a7⊢;obtain⟨vs,E,g1,g2,g3,g4⟩:=d' a7;refine⟨vs,E,g1,g2,λi j e t he ht=>?_,g4⟩;rw[Td]at he;split at he
     . exact g3 i j e t he ht
     . cases he
   . exact h'.hI.blk c x d'
 . obtain⟨d,hO,Jx,ep,hp⟩:=Qp c x aa;obtain⟨vv,NH,MN,zt,T0⟩:=Qp vJ y bo;have hL:d≠vv:=by grind
   intro h0 BJ;rw[ep]at h0⊢;rw[zt]at BJ⊢;exact h'.hI.inj d vv hO NH Jx MN hL h0 BJ
 . rcases t' c x aa with⟨rfl,rfl⟩|⟨_,rfl,rfl⟩|⟨_,_,_,d'⟩
   . refine⟨hm _ (h'.vi _ _ e1).1,?_⟩;have:=(h'.vi _ _ e1).2;simp only[hF.cv,qa]at this⊢;intro d ay;rcases ahQ ay with h|h
     . exact C.MV hm (this d h)
     . rw[h];simp[C.cv,lt]
   . exact⟨by simp[lt],rfl⟩
   . exact⟨hm c (h'.vi c x d').1,hF.MV hm (h'.vi c x d').2⟩
 . obtain⟨d,hO,Jx,ep,_⟩:=Qp c x aa;rw[ep]at h0⊢;exact h'.own d hO Jx h0
def acy:Nat->List (fz U)->Option (Nat×Nat×Nat)
 |_,[]=>none
 |j,.pre b h::_=>some (j,b,h)
 |j,_::r=>acy (j+1) r
def Y0(J:fr U):fr U->Option (Nat×List (fz U)×Nat×Nat×Nat)
 |[]=>none
 |(q,.box cs)::r=>match eg J q with
  |some (.box MH)=>match acy 0 MH with
   |some p=>some (q,MH,p)
   |none=>Y0 J r
  |_=>Y0 J r
 |_::r=>Y0 J r
theorem arX:∀{cs:List (fz U)} {j i b h:Nat},acy j cs=some (i,b,h)->j<=i/\cs[i-j]?=some (.pre b h)
 |[],j,i,b,h,c9=>by simp[acy]at c9
 |c::r,j,i,b,h,c9=>by
  have next:acy (j+1) r=some (i,b,h)->j<=i/\(c::r)[i-j]?=some (.pre b h):=by
   intro c9;obtain⟨h1,ad⟩:=arX c9
   grind
  cases c with
  |pre hf s'=>simp only[acy,hr,ho]at c9;obtain⟨rfl,rfl,rfl⟩:=c9;simp
  |_=>exact next c9
theorem ajC{q:Nat}{cs:List (fz U)}{i b h:Nat}:∀{l:fr U},Y0 J l=some (q,cs,i,b,h)->eg J q=some (.box cs)/\cs[i]?=some (.pre b h)
 |[],c9=>by simp[Y0]at c9
 |(k,x)::r,c9=>by
  cases x with
  |box KU=>
   simp only[Y0]at c9;split at c9
   . rename_i MH hk;split at c9
     . rename_i p aJ;simp only[hr,ho]at c9;obtain⟨rfl,rfl,rfl⟩:=c9;exact⟨hk,by simpa using(arX aJ).2⟩
     . exact ajC c9
   . exact ajC c9
  |_=>exact ajC (by simpa only[Y0]using c9)
def alL{R:Type}(J:fr U)(N:Nat)(k:fr U->Nat->Option R):Option R:=
 match Y0 J J with
 |none=>k J N
 |some (q,cs,j,b,h)=>match eg J b with
  |some (.arr t l)=>if decide (h<=l.length)=true then k (k1 (k1 (dl J b) N (.arr t (l.take h))) q (.box (cs.set j (.arr N)))) (N+1)else none
  |_=>none
theorem atN {q j b h0:Nat}{cs:List (fz U)}{x:fz U}{t:c8}{l:List (t.den U.D)}(e1:eg J q=some (.box cs))(ea:cs[j]?=some x)(ai:eg J b=some (.arr t l))(aa:∀d,i' N J x d->d= .arr b (t.sz U) 0 h0)(q4:h0<=l.length)
 (he:pq N J G env env1)(cy:l3 N J J1):
 ∃f',Conv kk N env1 J1 (N+1) env1 f'/\pq (N+1) (k1 (k1 (dl J b) N (.arr t (l.take h0))) q (.box (cs.set j (.arr N)))) G env env1/\l3 (N+1) (k1 (k1 (dl J b) N (.arr t (l.take h0))) q (.box (cs.set j (.arr N)))) f':=by
 obtain⟨ayP,aOC,apo,akN⟩:=cy q _ e1;obtain⟨ML,alM,KX,JS⟩:=cy b _ ai;cases JS;cases akN with
 | @box _ ds akN=>
  obtain⟨d,ay,al⟩:=akN.get ea;have:=aa d al;subst this;have ayQ:q≠b:=by intro e;subst e;rw[e1]at ai;cases ai
  have ha:rm N J N (dl J b):=aao;have hg:rm N (dl J b) (N+1) (k1 (dl J b) N (.arr t (l.take h0))):=TD;have ahh:eg (k1 (dl J b) N (.arr t (l.take h0))) q=some (.box cs):=by rw[Nv,I2,Wv,cx (λe=>ayQ e.symm)];exact e1
  have hQ:rm (N+1) (k1 (dl J b) N (.arr t (l.take h0))) (N+1) (k1 (k1 (dl J b) N (.arr t (l.take h0))) q (.box (cs.set j (.arr N)))):=VM (DJ _) ahh (λp h=>by simp[ni.rz]at h);have azd:=(ha.trans hg).trans hQ;have aoJ:l3 N (dl J b) (N1 J1 b):=by
   intro c x aa;rw[Wv]at aa;split at aa
   . cases aa
   . rename_i hn;obtain⟨g1,y,g2,g3⟩:=cy c x aa;exact⟨g1,y,by rw[li,cx hn];exact g2,g3.mono ha⟩
  refine⟨_,Conv.trim apo ay KX (by rw[PE];exact q4) ayP,he.mono azd,?_⟩;rw[<-ahJ];refine(aoJ.put (by omega) hg (.arr t (l.take h0))).put (by omega) hQ (.box ?_);refine er.set (akN.imp λ_ _ _ g=>g.mono azd) (.arr N _ _ (by omega) λx aa p aJ=>?_);rw[Nv,I2,Nv,bJ rfl]at aa;cases aa;simp only[ni.rz,hr]at aJ
  rw[<-aJ,ahG,Nat.min_eq_left q4]
theorem arY{R:Type}{k:fr U->Nat->Option R}{r:R}(h:alL J N k=some r)(he:pq N J (λ_=>true) env env1)(cy:l3 N J J1):
 ∃J' N' f',k J' N'=some r/\Conv kk N env1 J1 N' env1 f'/\pq N' J' (λ_=>true) env env1/\l3 N' J' f'/\N<=N':=by
 unfold alL at h;split at h
 . exact⟨J,N,J1,h,Conv.refl,he,cy,DJ _⟩
 . rename_i q cs j b h0 c9;obtain⟨e1,ea⟩:=ajC c9;split at h
   . rename_i t l ai;split at h
     . rename_i q4
       obtain⟨s1,m1,m2,m3⟩:=atN (kk:=kk) (h0:=h0) e1 ea ai (λd al=>by
        cases al with
        |pre _ sz _ _ gb=>
         have gb:=gb _ ai _ rfl
         grind) (by simpa using q4) he cy
       exact⟨_,_,s1,h,m1,m2,m3,by omega⟩
     . cases h
   . cases h
def aat(kk:Nat):Nat->List (fz U)->Option (Nat×Nat)
 |_,[]=>none
 |j,.arr b::r=>match Nat.ble (b+1) kk with
  |true=>some (j,b)
  |false=>aat kk (j+1) r
 |j,_::r=>aat kk (j+1) r
def Y1(kk:Nat)(J:fr U):fr U->Option (Nat×List (fz U)×Nat×Nat)
 |[]=>none
 |(q,.box _)::r=>match eg J q with
  |some (.box cs)=>match aat kk 0 cs with
   |some p=>some (q,cs,p)
   |none=>Y1 kk J r
  |_=>Y1 kk J r
 |_::r=>Y1 kk J r
theorem arZ{kk:Nat}:∀{cs:List (fz U)} {j i b:Nat},aat kk j cs=some (i,b)->j<=i/\cs[i-j]?=some (.arr b)
 |[],j,i,b,c9=>by simp[aat]at c9
 |c::r,j,i,b,c9=>by
  have next:aat kk (j+1) r=some (i,b)->j<=i/\(c::r)[i-j]?=some (.arr b):=by
   intro c9;obtain⟨h1,ad⟩:=arZ c9
   grind
  cases c with
  |arr hf=>
   simp only[aat]at c9
   grind
  |_=>exact next c9
theorem ajD{kk q:Nat}{cs:List (fz U)}{i b:Nat}:∀{l:fr U},Y1 kk J l=some (q,cs,i,b)->eg J q=some (.box cs)/\cs[i]?=some (.arr b)
 |[],c9=>by simp[Y1]at c9
 |(k,x)::r,c9=>by
  cases x with
  |box KU=>
   simp only[Y1]at c9;split at c9
   . rename_i MH hk;split at c9
     . rename_i p aJ;simp only[hr,ho]at c9;obtain⟨rfl,rfl,rfl⟩:=c9;exact⟨hk,by simpa using(arZ aJ).2⟩
     . exact ajD c9
   . exact ajD c9
  |_=>exact ajD (by simpa only[Y1]using c9)
def alG{R:Type}(kk:Nat)(J:fr U)(k:fr U->Nat->Option R):Option R:=
 match Y1 kk J J with
 |none=>k J kk
 |some (q,cs,j,b)=>match eg J b with
  |some (.arr t l)=>k (k1 (k1 (dl J b) kk (.arr t l)) q (.box (cs.set j (.arr kk)))) (kk+1)
  |_=>k J kk
theorem aFC{R:Type}{k:fr U->Nat->Option R}{r:R}(h:alG kk J k=some r)(he:pq kk J (λ_=>true) env env1)(cy:l3 kk J J1):
 ∃J' N' f',k J' N'=some r/\Conv kk kk env1 J1 N' env1 f'/\pq N' J' (λ_=>true) env env1/\l3 N' J' f'/\kk<=N':=by
 unfold alG at h;split at h
 . exact⟨J,kk,J1,h,Conv.refl,he,cy,DJ _⟩
 . rename_i q cs j b c9;obtain⟨e1,ea⟩:=ajD c9;split at h
   . rename_i t l ai
     obtain⟨s1,m1,m2,m3⟩:=atN (kk:=kk) (h0:=l.length) e1 ea ai (λd al=>by
      cases al with
      |arr _ sz n _ gb=>
       have gb:=gb _ ai _ rfl
       grind) (DJ _) he cy
     rw[List.take_length]at m2 m3;exact⟨_,_,s1,h,m1,m2,m3,by omega⟩
   . exact⟨J,kk,J1,h,Conv.refl,he,cy,DJ _⟩
inductive UP where
 |slot (k:Nat)
 |cell (b j:Nat)
 |via (k j:Nat)
def ait(b j:Nat)(t:c8)(env:hM U)(J:fr U)(N:Nat):Option (hM U×fr U):=
 match eg J b with
 |some (.box cs)=>match cs[j]? with
  |some .hN=>some (env,k1 (k1 J N (.arr t [])) b (.box (cs.set j (.arr N))))
  |_=>some (env,J)
 |_=>none
def aq0(p:UP)(t:c8)(env:hM U)(J:fr U)(N:Nat):Option (hM U×fr U):=
 match p with
 |.slot k=>match eg env k with
  |some (.c .hN)=>some ((k,.c (.arr N))::env,k1 J N (.arr t []))
  |_=>some (env,J)
 |.cell b j=>ait b j t env J N
 |.via k j=>match eg env k with
  |some (.c (.ptr b _))=>ait b j t env J N
  |_=>none
def ais:List (UP×c8)->hM U->fr U->Nat->Option (hM U×fr U×Nat)
 |[],env,J,N=>some (env,J,N)
 |(p,t)::r,env,J,N=>match aq0 p t env J N with
  |some (env',J')=>ais r env' J' (N+1)
  |none=>none
theorem auz{t:c8}(he:pq N J (λ_=>true) env env1)(cy:l3 N J J1)(j1:kk<=N):∃j0 f',Conv kk N env1 J1 (N+1) j0 f'/\pq (N+1) J (λ_=>true) env j0/\l3 (N+1) J f':=by
 refine⟨env1,qJ J1 N (.arr 1 []),λcm nt φ S a w hk R=>⟨_,S,R.apS (by omega) (by omega)⟩,he.mono (rm.more (by omega)),λb x aa=>?_⟩;obtain⟨h1,y,ad,a'⟩:=cy b x aa;exact⟨by omega,y,by rw[n2,I2];exact ad,a'.mono (rm.more (by omega))⟩
theorem anu{b j:Nat}{t:c8}(h:ait b j t env J N=some (env',J'))(he:pq N J (λ_=>true) env env1)(cy:l3 N J J1)(j1:kk<=N):
 ∃j0 f',Conv kk N env1 J1 (N+1) j0 f'/\pq (N+1) J' (λ_=>true) env' j0/\l3 (N+1) J' f':=by
 have same:=auz (t:=t) he cy j1;unfold ait at h;split at h
 . rename_i cs sa;split at h
   . rename_i ea;cases h;obtain⟨ML,y,h1,ad⟩:=cy b _ sa;cases ad with
     | @box _ ds ad=>
      obtain⟨d,ay,al⟩:=ad.get ea;cases al;have Ji:rm N J (N+1) (k1 J N (.arr t [])):=TD;have aKY:eg (k1 J N (.arr t [])) b=some (.box cs):=by rw[Nv,I2];exact sa
      have apI:rm (N+1) (k1 J N (.arr t [])) (N+1) (k1 (k1 J N (.arr t [])) b (.box (cs.set j (.arr N)))):=VM (DJ _) aKY (λp h=>by simp[ni.rz]at h);refine⟨_,_,Conv.aMA h1 ay ML (c8.aeg (t:=t) (U:=U)) j1,(he.mono Ji).mono apI,(cy.put (by omega) Ji (.arr t [])).put (by omega) apI (.box ?_)⟩
      refine er.set (ad.imp λ_ _ _ h=>(h.mono Ji).mono apI) (.arr N _ _ (by omega) λx aa p aJ=>?_);rw[Nv,I2,Nv,bJ rfl]at aa;cases aa;simp[ni.rz]at aJ;exact aJ.symm
   . cases h;exact same
 . cases h
theorem aFD{p:UP}{t:c8}(h:aq0 p t env J N=some (env',J'))(he:pq N J (λ_=>true) env env1)(cy:l3 N J J1)(j1:kk<=N):
 ∃j0 f',Conv kk N env1 J1 (N+1) j0 f'/\pq (N+1) J' (λ_=>true) env' j0/\l3 (N+1) J' f':=by
 have same:=auz (t:=t) he cy j1;unfold aq0 at h;split at h
 . rename_i k;split at h
   . rename_i hk;cases h;obtain⟨v1,h1,ad⟩:=he k _ hk;have:=ad.ac9;subst this;have Ji:rm N J (N+1) (k1 J N (.arr t [])):=TD;refine⟨_,_,Conv.own h1 (c8.aeg (t:=t) (U:=U)) j1,λi v ao=>?_,cy.put (by omega) Ji (.arr t [])⟩;simp only[eg]at ao;simp only[look];split at ao
     . rename_i ai;cases ao;rw[bJ (em ai)];refine⟨_,rfl,.c (.arr N _ _ (by omega) λx aa p aJ=>?_)⟩;rw[Nv,bJ rfl]at aa;cases aa;simp[ni.rz]at aJ;exact aJ.symm
     . rename_i ai;rw[cx (ND ai)];exact(he.mono Ji) i v ao
   . cases h;exact same
 . exact anu h he cy j1
 . split at h
   . exact anu h he cy j1
   . cases h
def an8:List (fz U)->List Bool->Bool
 |[],[]=>true
 |.t _::cs,false::bs=>an8 cs bs
 |.hN::cs,true::bs=>an8 cs bs
 |_,_=>false
def awk(cs:List (fz U)):List (List Bool×Nat×c8)->Option (Nat×c8)
 |[]=>none
 |(bs,p)::r=>match an8 cs bs with
  |true=>some p
  |false=>awk cs r
def anW(l:List (List Bool×Nat×c8)):fr U->Option (Nat×Nat×c8)
 |[]=>none
 |(q,.box cs)::r=>match awk cs l with
  |some p=>some (q,p)
  |none=>anW l r
 |_::r=>anW l r
def alJ{R:Type}(env:hM U)(J:fr U)(N:Nat)(k:hM U->fr U->Nat->Option R):Option R:=
 match anW U.own J with
 |none=>alL J N λJ N=>k env J N
 |some (q,j,t)=>match ait q j t env J N with
  |some (env,J)=>alL J (N+1) λJ N=>k env J N
  |none=>none
theorem ar0{R:Type}{k:hM U->fr U->Nat->Option R}{r:R}(h:alJ env J N k=some r)(he:pq N J (λ_=>true) env env1)(cy:l3 N J J1)(j1:kk<=N):
 ∃env' J' N' j0 f',k env' J' N'=some r/\Conv kk N env1 J1 N' j0 f'/\pq N' J' (λ_=>true) env' j0/\l3 N' J' f'/\N<=N':=by
 unfold alJ at h;split at h
 . obtain⟨s2,Ru,ZU,g1,g2,g3,g4,g5⟩:=arY h he cy;exact⟨_,_,_,_,_,g1,g2,g3,g4,g5⟩
 . split at h
   . rename_i e s cJ;obtain⟨ep,s1,kn,k0,A'⟩:=anu cJ he cy j1;obtain⟨s2,Ru,ZU,g1,g2,g3,g4,g5⟩:=arY h k0 A';exact⟨_,_,_,_,_,g1,kn.trans g2,g3,g4,by omega⟩
   . cases h
theorem atO:∀{l:List (UP×c8)} {env env':hM U} {J J':fr U} {N N':Nat} {env1:hc} {J1:ee},ais l env J N=some (env',J',N')->pq N J (λ_=>true) env env1->l3 N J J1->kk<=N->
 ∃j0 f',Conv kk N env1 J1 N' j0 f'/\pq N' J' (λ_=>true) env' j0/\l3 N' J' f'/\N<=N'
 |[],env,env',J,J',N,N',env1,J1,h,he,cy,j1=>by simp[ais]at h;obtain⟨rfl,rfl,rfl⟩:=h;exact⟨env1,J1,Conv.refl,he,cy,DJ _⟩
 |(p,t)::r,env,env',J,J',N,N',env1,J1,h,he,cy,j1=>by
  simp only[ais]at h;split at h
  . rename_i e s h1;obtain⟨ep,s1,ha,hg,hQ⟩:=aFD h1 he cy j1;obtain⟨hp,s2,m1,m2,m3,m4⟩:=atO h hg hQ (by omega);exact⟨hp,s2,ha.trans m1,m2,m3,by omega⟩
  . cases h
end
end
section
open Go
variable {U:k9}
inductive Nn where
 |hole (ty:c8)
 |ptr (b o:Nat)
 |k' (b:Nat)(ty:c8)(o:Nat)
 |vt (ty:c8)(o:Nat)
 |arr (b:Nat)
 |mp (b:Nat)
 |lJ (b:Nat)
 |hN
 |Jq
 |Jp
 |fn (f:Nat)(caps:ey)
 |dead
inductive ze where
 |c (s:Nn)
 |agg (l:List Nn)
 |row (n:Nat)
 |e2 (l:List ze)
inductive z' where
 |box (l:List Nn)
 |arr (ty:c8)
 |l' (n:Nat)
 |gone
 |set
 |buf (E:Nat)
 |hZ (E:Nat)(s:Nn)
structure VZ where
 env:List (Nat×ze)
 st:List z'
abbrev Hr(U:k9):=List (Cell U.D)
def Zf:Nn->Hr U->fz U×Hr U
 |.hole _,c::r=>(.t c,r)
 |.hole _,[]=>(.dead,[])
 |.ptr b o,r=>(.ptr b o,r)
 |.k' b ty o,⟨.int _,n⟩::r=>(.k' b ty (Int.toNat n) o,r)
 |.k' _ _ _,r=>(.dead,r)
 |.vt _ o,c::r=>(.vt c.ty c.val o,r)
 |.vt _ _,[]=>(.dead,[])
 |.arr b,r=>(.arr b,r)
 |.mp b,r=>(.mp b,r)
 |.lJ b,r=>(.lJ b,r)
 |.hN,r=>(.hN,r)
 |.Jq,r=>(.Jq,r)
 |.Jp,r=>(.Jp,r)
 |.fn f caps,r=>(.fn f caps,r)
 |.dead,r=>(.dead,r)
def agO:List Nn->Hr U->List (fz U)×Hr U
 |[],r=>([],r)
 |s::ss,r=>match Zf s r with
  |(x,ln)=>match agO ss ln with
   |(xs,sb)=>(x::xs,sb)
mutual
def RH:ze->Hr U->hl U×Hr U
 |.c s,r=>match Zf s r with
  |(x,ln)=>(.c x,ln)
 |.agg l,r=>match agO l r with
  |(xs,ln)=>(.agg xs,ln)
 |.row _,c::r=>(.agg ((c.ty.row U c.val).map .t),r)
 |.row _,[]=>(.e2 [],[])
 |.e2 l,r=>match RJ l r with
  |(xs,ln)=>(.e2 xs,ln)
def RJ:List ze->Hr U->List (hl U)×Hr U
 |[],r=>([],r)
 |s::ss,r=>match RH s r with
  |(x,ln)=>match RJ ss ln with
   |(xs,sb)=>(x::xs,sb)
end
def aku:List (Nat×ze)->Hr U->hM U×Hr U
 |[],r=>([],r)
 |(k,s)::ss,r=>match RH s r with
  |(x,ln)=>match aku ss ln with
   |(xs,sb)=>((k,x)::xs,sb)
def OL:z'->Hr U->Option (ni U)×Hr U
 |.box l,r=>match agO l r with
  |(xs,ln)=>(some (.box xs),ln)
 |.arr _,⟨.slice t,l⟩::r=>(some (.arr t l),r)
 |.arr _,r=>(none,r)
 |.l' _,c::r=>(some (.box ((c.ty.row U c.val).map .t)),r)
 |.l' _,[]=>(none,[])
 |.gone,r=>(none,r)
 |.set,⟨.slice .str,l⟩::r=>(some (.set l),r)
 |.set,r=>(none,r)
 |.buf E,⟨.str,s⟩::r=>(some (.buf E s),r)
 |.buf _,r=>(none,r)
 |.hZ E s,r=>match Zf s r with
  |(x,ln)=>(some (.hZ E x),ln)
def LI:Nat->List z'->Hr U->fr U
 |_,[],_=>[]
 |j,s::ss,r=>match OL s r with
  |(some x,ln)=>(j,x)::LI (j+1) ss ln
  |(none,ln)=>LI (j+1) ss ln
def Wi{α:Type}:List α->Nat->Option α
 |[],_=>none
 |a::_,0=>some a
 |_::l,n+1=>Wi l n
theorem afV{α:Type}:∀{l:List α} {n:Nat},Wi l n=l[n]?
 |[],n=>by simp[Wi]
 |a::l,0=>by simp[Wi]
 |a::l,n+1=>by simp[Wi,afV (l:=l)]
def Zy(bs:ey)(j b:Nat):Bool:=match Wi bs j with
 |some hf=>Nat.beq hf b
 |none=>false
def aki(bs:ey):ey->ey->Bool
 |[],[]=>true
 |j::S9,c::cs=>Zy bs j c&&aki bs S9 cs
 |_,_=>false
def aqO(ty:c8):fz U->Option (Cell U.D)
 |.t c=>match Cell.as ty c with
  |some x=>some ⟨ty,x⟩
  |none=>none
 |.hN=>match ty with
  |.slice t=>some ⟨.slice t,([]:List (t.den U.D))⟩
  |_=>none
 |_=>none
def agx(bs:ey):Nn->fz U->Option (Hr U)
 |.hole ty,x=>match aqO ty x with
  |some c=>some [c]
  |none=>none
 |.ptr j o,.ptr b ny=>match Zy bs j b&&Nat.beq o ny with
  |true=>some []
  |false=>none
 |.k' j ty o,.k' b Yu i ny=>match Zy bs j b&&(Nat.beq o ny&&c8.beq ty Yu)with
  |true=>some [⟨.int .i64,(i:Int)⟩]
  |false=>none
 |.vt ty o,.vt Yu x ny=>match Nat.beq o ny,Cell.as ty (⟨Yu,x⟩:Cell U.D)with
  |true,some x=>some [⟨ty,x⟩]
  |_,_=>none
 |.arr j,.arr b=>match Zy bs j b with
  |true=>some []
  |false=>none
 |.mp j,.mp b=>match Zy bs j b with
  |true=>some []
  |false=>none
 |.lJ j,.lJ b=>match Zy bs j b with
  |true=>some []
  |false=>none
 |.hN,.hN=>some []
 |.Jq,.Jq=>some []
 |.Jp,.Jp=>some []
 |.fn f S9,.fn abe cs=>match Nat.beq f abe&&aki bs S9 cs with
  |true=>some []
  |false=>none
 |.dead,_=>some []
 |_,_=>none
def Y'(bs:ey):List Nn->List (fz U)->Option (Hr U)
 |[],[]=>some []
 |s::ss,x::xs=>match agx bs s x,Y' bs ss xs with
  |some a,some b=>some (a++b)
  |_,_=>none
 |_,_=>none
mutual
def Qk(bs:ey):ze->hl U->Option (Hr U)
 |.c s,.c x=>agx bs s x
 |.agg l,.agg xs=>Y' bs l xs
 |.row n,.agg xs=>match Yw U (.nm n) xs with
  |some x=>some [⟨.nm n,x⟩]
  |none=>none
 |.e2 l,.e2 xs=>U0 bs l xs
 |_,_=>none
def U0(bs:ey):List ze->List (hl U)->Option (Hr U)
 |[],[]=>some []
 |s::ss,x::xs=>match Qk bs s x,U0 bs ss xs with
  |some a,some b=>some (a++b)
  |_,_=>none
 |_,_=>none
end
def agy(bs:ey)(env:hM U):List (Nat×ze)->Option (Hr U)
 |[]=>some []
 |(k,s)::ss=>match eg env k with
  |some x=>match Qk bs s x,agy bs env ss with
   |some a,some b=>some (a++b)
   |_,_=>none
  |none=>none
def XS(bs:ey):z'->ni U->Option (Hr U)
 |.box l,.box xs=>Y' bs l xs
 |.arr ty,.arr t l=>match Cell.as (.slice ty) (⟨.slice t,l⟩:Cell U.D)with
  |some l=>some [⟨.slice ty,l⟩]
  |none=>none
 |.arr ty,.rows sz r=>match Nat.beq (ty.sz U) sz,Us U ty r with
  |true,some l=>some [⟨.slice ty,l⟩]
  |_,_=>none
 |.l' n,.box xs=>match Yw U (.nm n) xs with
  |some x=>some [⟨.nm n,x⟩]
  |none=>none
 |.set,.set l=>some [⟨.slice .str,l⟩]
 |.buf E,.buf aeC s=>match Nat.beq E aeC with
  |true=>some [⟨.str,s⟩]
  |false=>none
 |.hZ E s,.hZ aeC x=>match Nat.beq E aeC with
  |true=>agx bs s x
  |false=>none
 |_,_=>none
def Pg(bs:ey)(J:fr U):Nat->List z'->Option (Hr U)
 |_,[]=>some []
 |j,.gone::ss=>Pg bs J (j+1) ss
 |j,s::ss=>match Wi bs j with
  |some b=>match eg J b with
   |some x=>match XS bs s x,Pg bs J (j+1) ss with
    |some a,some r=>some (a++r)
    |_,_=>none
   |none=>none
  |none=>none
section
variable {kk N:Nat}{J Jc:fr U}{J1:ee}{env:hM U}{env1:hc}{bs:ey}
def Can(bs:ey)(J Jc:fr U):Prop:=∀j b hO,bs[j]?=some b->eg Jc j=some hO->∃x,eg J b=some x/\∀p,hO.rz=some p->x.rz=some p
theorem UH{bs:ey}(hL:bs.Nodup){j b:Nat}(h:bs[j]?=some b):pos bs b=some j:=by
 induction bs generalizing j with
 |nil=>simp at h
 |cons a bs ih=>
  simp only[pos]
  grind
theorem acs{j b:Nat}(h:Zy bs j b=true):bs[j]?=some b:=by
 unfold Zy at h;rw[afV]at h;split at h
 . simp_all
 . cases h
theorem as1(hL:bs.Nodup):∀{S9 cs:ey},aki bs S9 cs=true->VQ bs cs=some S9
 |[],[],_=>rfl
 |j::S9,c::cs,h=>by
  simp only[aki,h5]at h;simp[VQ,UH hL (acs h.1),as1 hL h.2]
theorem aGN{ty:c8}{x:fz U}{c:Cell U.D}{d:C}(h:aqO ty x=some c)(al:i' N J x d):r1 (d.hE bs) (.t (c.enc U))/\c.ty=ty:=by
 unfold aqO at h;split at h
 . split at h
   . rename_i vJ y bo;cases h;rw[Cell.RD bo]at al;cases al;exact⟨r1.refl _,rfl⟩
   . cases h
 . split at h
   . cases h;cases al;exact⟨r1.hN,rfl⟩
   . cases h
 . cases h
theorem amV(hL:bs.Nodup)(L2:Can bs J Jc){s:Nn}{x:fz U}{a:Hr U}(h:agx bs s x=some a):
 ∃y,(∀r,Zf s (a++r)=(y,r))/\∀d,i' N J x d->∃vv,r1 (d.hE bs) vv/\i' bs.length Jc y vv:=by
 unfold agx at h;split at h
 . split at h
   . rename_i c a7;cases h;exact⟨.t c,λr=>rfl,λd ay=>⟨_,(aGN a7 ay).1,.t c⟩⟩
   . cases h
 . rename_i j o b ny;split at h
   . rename_i ai;simp only[h5]at ai;have:=em ai.2;subst this;cases h;refine⟨.ptr j o,λr=>rfl,λd ay=>⟨.ptr j o,?_,.ptr j o⟩⟩;cases ay;simp only[C.hE,UH hL (acs ai.1)];exact r1.refl _
   . cases h
 . rename_i j ty o b Yu i ny;split at h
   . rename_i ai;simp only[h5]at ai;have:=em ai.2.1;subst this;have:=c8.beq_eq ai.2.2;subst this;cases h;refine⟨.k' j ty i o,λr=>rfl,λd ay=>⟨.k' j (ty.sz U) i o,?_,.k' j ty i o⟩⟩;cases ay;simp only[C.hE,UH hL (acs ai.1)];exact r1.refl _
   . cases h
 . rename_i ty o Yu x ny;split at h
   . rename_i y cJ bo;have:=em cJ;subst this;cases h;have e:=Cell.RD bo;cases e;refine⟨.vt ty y o,λr=>rfl,λd ay=>⟨d,?_,?_⟩⟩
     . cases ay;exact r1.refl _
     . cases ay;exact .vt ty y o
   . cases h
 . rename_i j b;split at h
   . rename_i ai;cases h;refine⟨.arr j,λr=>rfl,λd ay=>?_⟩;cases ay with
     |arr _ sz n ML ak=>
      have ea:=acs ai;refine⟨.arr j sz 0 n,?_,.arr j sz n (pv.1 ea).1 λx aa p aJ=>?_⟩
      . simp only[C.hE,UH hL ea];exact r1.refl _
      . obtain⟨b9,h1,ad⟩:=L2 j b x ea aa;exact ak b9 h1 p (ad p aJ)
   . cases h
 . rename_i j b;split at h
   . rename_i ai;cases h;refine⟨.mp j,λr=>rfl,λd ay=>?_⟩;cases ay;refine⟨.mp j,?_,.mp j⟩;simp only[C.hE,UH hL (acs ai)];exact r1.refl _
   . cases h
 . rename_i j b;split at h
   . rename_i ai;cases h;refine⟨.lJ j,λr=>rfl,λd ay=>?_⟩;cases ay with
     |lJ _ n ML ak=>
      have ea:=acs ai;refine⟨.lJ j n,?_,.lJ j n (pv.1 ea).1 λx aa p aJ=>?_⟩
      . simp only[C.hE,UH hL ea];exact r1.refl _
      . obtain⟨b9,h1,ad⟩:=L2 j b x ea aa;exact ak b9 h1 p (ad p aJ)
   . cases h
 . cases h;exact⟨.hN,λr=>rfl,λd ay=>by cases ay;exact⟨.hN,r1.refl _,.hN⟩⟩
 . cases h;exact⟨.Jq,λr=>rfl,λd ay=>by cases ay;exact⟨.Jq,r1.refl _,.Jq⟩⟩
 . cases h;exact⟨.Jp,λr=>rfl,λd ay=>by cases ay;exact⟨.Jp,r1.refl _,.Jp⟩⟩
 . rename_i f S9 abe cs;split at h
   . rename_i ai;simp only[h5]at ai;have:=em ai.1;subst this;cases h;refine⟨.fn f S9,λr=>rfl,λd ay=>⟨.fn f S9,?_,.fn f S9⟩⟩;cases ay;simp only[C.hE,as1 hL ai.2];exact r1.refl _
   . cases h
 . cases h;exact⟨.dead,λr=>rfl,λd ay=>⟨.dead,r1.dead _,.dead _⟩⟩
 . cases h
theorem anv(hL:bs.Nodup)(L2:Can bs J Jc):∀{ss:List Nn} {xs:List (fz U)} {a:Hr U},Y' bs ss xs=some a->
 ∃ys,(∀r,agO ss (a++r)=(ys,r))/\∀ds,er (i' N J) xs ds->∃yq,er r1 (ds.map (C.hE bs)) yq/\er (i' bs.length Jc) ys yq
 |[],[],a,h=>by simp[Y']at h;subst h;exact⟨[],λr=>rfl,λds ay=>by cases ay;exact⟨[],.nil,.nil⟩⟩
 |s::ss,x::xs,a,h=>by
  simp only[Y']at h;split at h
  . rename_i a1 a2 h1 ad;cases h;obtain⟨y,f1,g1⟩:=amV (N:=N) hL L2 h1;obtain⟨ys,f2,g2⟩:=anv hL L2 ad;refine⟨y::ys,λr=>by simp only[agO,adV,f1,f2],λds ay=>?_⟩;cases ay with
    |cons adk akD=>
     obtain⟨vv,ep,hp⟩:=g1 _ adk;obtain⟨yq,zt,T0⟩:=g2 _ akD;exact⟨vv::yq,.cons ep zt,.cons hp T0⟩
  . cases h
 |[],_::_,a,h=>by simp[Y']at h
 |_::_,[],a,h=>by simp[Y']at h
theorem auA{n:Nat}{xs:List (fz U)}{x:(c8.nm n).den U.D}(h:Yw U (.nm n) xs=some x):∀ds,er (i' N J) xs ds->∃yq,er r1 (ds.map (C.hE bs)) yq/\er (i' bs.length Jc) (((c8.nm n).row U x).map .t) yq:=by
 intro ds ay;refine⟨((c8.nm n).enc U x).map .t,?_,aeH⟩;unfold Yw at h;split at h
 . rename_i row KY;rw[c8.adg,c8.apQ h,List.map_map];clear h;generalize (c8.nm n).cells U=q0 at KY
   induction xs generalizing q0 row ds with
   |nil=>
    cases ay;cases q0<;>simp[OE]at KY
    subst KY;exact .nil
   |cons y ys ih=>
    cases ay with
    | @cons _ d _ ds h1 ad=>
     cases q0 with
     |nil=>cases y<;>simp[OE]at KY
     |cons ty q0=>
      cases h1 with
      |t c=>cases ty<;>simp only[OE]at KY<;>(split at KY<;>first|(cases KY;done)|(rename_i q e1;cases KY;exact .cons (r1.refl _) (ih _ ad _ _ e1)))
      |hN=>
       cases ty<;>simp only[OE,reduceCtorEq]at KY
       split at KY
       . rename_i q e1;cases KY;exact .cons r1.hN (ih _ ad _ _ e1)
       . cases KY
      |_=>cases ty<;>simp[OE]at KY
 . cases h
mutual
theorem aoj(hL:bs.Nodup)(L2:Can bs J Jc):∀{s:ze} {x:hl U} {a:Hr U},Qk bs s x=some a->
 ∃y,(∀r,RH s (a++r)=(y,r))/\∀d,hV N J x d->∃vv,La (d.hE bs) vv/\hV bs.length Jc y vv
 |.c s,.c x,a,h=>by
  simp only[Qk]at h;obtain⟨y,f,g⟩:=amV (N:=N) hL L2 h;refine⟨.c y,λr=>by simp only[RH,f],λd ay=>?_⟩;cases ay with
  |c ay=>obtain⟨vv,ep,hp⟩:=g _ ay;exact⟨.c vv,.c ep,.c hp⟩
 |.agg l,.agg xs,a,h=>by
  simp only[Qk]at h;obtain⟨y,f,g⟩:=anv (N:=N) hL L2 h;refine⟨.agg y,λr=>by simp only[RH,f],λd ay=>?_⟩;cases ay with
  |agg ay=>obtain⟨vv,ep,hp⟩:=g _ ay;exact⟨.agg vv,.agg ep,.agg hp⟩
 |.row n,.agg xs,a,h=>by
  simp only[Qk]at h;split at h
  . rename_i x aa;cases h;refine⟨.agg (((c8.nm n).row U x).map .t),λr=>rfl,λd ay=>?_⟩;cases ay with
    |agg ay=>obtain⟨vv,ep,hp⟩:=auA aa _ ay;exact⟨.agg vv,.agg ep,.agg hp⟩
  . cases h
 |.e2 l,.e2 xs,a,h=>by
  simp only[Qk]at h;obtain⟨ys,f,ar,g⟩:=ada hL L2 h;refine⟨.e2 ys,λr=>by simp only[RH,f],λd ay=>?_⟩;cases ay with
  |e2 _ ds Jo ay=>
   obtain⟨yq,ep,hp,zt⟩:=g ds Jo ay;refine⟨.e2 yq,.e2 _ _ (by rw[aiL];exact ep.symm) ?_,.e2 _ _ (by omega) λi x d aa JU=>(zt i x d aa JU)⟩;intro i x y aa bo;rw[ajf,e0]at aa
   grind
 |.c _,.agg _,a,h=>by simp[Qk]at h
 |.c _,.e2 _,a,h=>by simp[Qk]at h
 |.agg _,.c _,a,h=>by simp[Qk]at h
 |.agg _,.e2 _,a,h=>by simp[Qk]at h
 |.row _,.c _,a,h=>by simp[Qk]at h
 |.row _,.e2 _,a,h=>by simp[Qk]at h
 |.e2 _,.c _,a,h=>by simp[Qk]at h
 |.e2 _,.agg _,a,h=>by simp[Qk]at h
theorem ada(hL:bs.Nodup)(L2:Can bs J Jc):∀{ss:List ze} {xs:List (hl U)} {a:Hr U},U0 bs ss xs=some a->
 ∃ys:List (hl U),(∀r,RJ ss (a++r)=(ys,r))/\ys.length=xs.length/\∀ds:List V,xs.length=ds.length->(∀(i:Nat) x d,xs[i]?=some x->ds[i]?=some d->hV N J x d)->
  ∃yq:List V,yq.length=ds.length/\(∀(i:Nat) (d vv:V),ds[i]?=some d->yq[i]?=some vv->La (d.hE bs) vv)/\(∀(i:Nat) y vv,ys[i]?=some y->yq[i]?=some vv->hV bs.length Jc y vv)
 |[],[],a,h=>by simp[U0]at h;subst h;exact⟨[],λr=>rfl,rfl,λds ar ay=>⟨[],by simpa using ar,by simp,by simp⟩⟩
 |s::ss,x::xs,a,h=>by
  simp only[U0]at h;split at h
  . rename_i a1 a2 h1 ad;cases h;obtain⟨y,f1,g1⟩:=aoj hL L2 h1;obtain⟨ys,f2,ar,g2⟩:=ada hL L2 ad;refine⟨y::ys,λr=>by simp only[RJ,adV,f1,f2],by simp[ar],λds n' ay=>?_⟩;cases ds with
    |nil=>simp at n'
    |cons d ds=>
     obtain⟨vv,ep,hp⟩:=g1 d (ay 0 x d rfl rfl);obtain⟨yq,zt,T0,aba⟩:=g2 ds (by simpa using n') λi x d aa JU=>ay (i+1) x d (by simpa using aa) (by simpa using JU)
     refine⟨vv::yq,by simp[zt],λi=>?_,λi=>?_⟩
     . grind
     grind
  . cases h
 |[],_::_,a,h=>by simp[U0]at h
 |_::_,[],a,h=>by simp[U0]at h
end
theorem anj:∀{ks:ey} {k:Nat} {g:Bool} {v:V},k∈ks->look env1 k=some (g,v)->look (VO bs env1 ks) k=some (g,v.hE bs)
 |x::ks,k,g,v,hm,ar=>by
  simp only[VO];by_cases h:x=k
  . subst h;rw[ar];simp[look]
  . have Ve:k∈ks:=by grind
    split
    . simp only[look,cx h];exact anj Ve ar
    . exact anj Ve ar
theorem as2(hL:bs.Nodup)(L2:Can bs J Jc)(he:pq N J (λ_=>true) env env1):∀{ss:List (Nat×ze)} {a:Hr U},agy bs env ss=some a->
 ∃adh,(∀r,aku ss (a++r)=(adh,r))/\∃j0:hc,pq bs.length Jc (λ_=>true) adh j0/\∀k g Ju,look j0 k=some (g,Ju)->k∈ss.map Prod.fst/\∃v,look env1 k=some (g,v)/\La (v.hE bs) Ju
 |[],a,h=>by simp[agy]at h;subst h;exact⟨[],λr=>rfl,[],λk v hk=>by simp[eg]at hk,λk g v h=>by simp[look]at h⟩
 |(k,s)::ss,a,h=>by
  simp only[agy]at h;split at h
  . rename_i x aa;split at h
    . rename_i a1 a2 h1 ad;cases h;obtain⟨y,f1,g1⟩:=aoj (N:=N) hL L2 h1;obtain⟨adh,f2,j0,ep,hp⟩:=as2 hL L2 he ad;obtain⟨d,ha,hg⟩:=he k x aa;obtain⟨vv,m1,m2⟩:=g1 d hg;refine⟨(k,y)::adh,λr=>by simp only[aku,adV,f1,f2],(k,true,vv)::j0,λi v ao=>?_,λi g v ao=>?_⟩
      . simp only[eg]at ao;simp only[look];split at ao
        . simp_all
        . rename_i ai;rw[cx (ND ai)];exact ep i v ao
      . simp only[look]at ao
        grind
    . cases h
  . cases h
theorem amW(hL:bs.Nodup)(L2:Can bs J Jc){s:z'}{x:ni U}{a:Hr U}(h:XS bs s x=some a):
 ∃y,(∀r,OL s (a++r)=(some y,r))/\(∀d,NJ N J x d->∃vv,QB (d.hE bs) vv/\NJ bs.length Jc y vv):=by
 unfold XS at h;split at h
 . obtain⟨ys,f,g⟩:=anv (N:=N) hL L2 h;refine⟨.box ys,λr=>by simp only[OL,f],λd ay=>?_⟩;cases ay with
   |box ay=>obtain⟨yq,ep,hp⟩:=g _ ay;exact⟨.box yq,.box ep,.box hp⟩
 . rename_i ty t Q1;split at h
   . rename_i l ar;cases h;have e:=Cell.RD ar;cases e;refine⟨.arr ty l,λr=>rfl,λd ay=>?_⟩;cases ay;exact⟨_,.arr,.arr ty l⟩
   . cases h
 . rename_i ty sz r;split at h
   . rename_i l hG ar;cases h;have:=em hG;subst this;refine⟨.arr ty l,λr=>rfl,λd ay=>?_⟩;cases ay with
     |rows h1 ad=>
      refine⟨_,.arr,?_⟩;rw[<-acx ar h1];exact .arr ty l
   . cases h
 . rename_i n xs;split at h
   . rename_i x aa;cases h;refine⟨.box (((c8.nm n).row U x).map .t),λr=>rfl,λd ay=>?_⟩;cases ay with
     |box ay=>obtain⟨yq,ep,hp⟩:=auA aa _ ay;exact⟨.box yq,.box ep,.box hp⟩
   . cases h
 . cases h;refine⟨.set _,λr=>rfl,λd ay=>?_⟩;cases ay;exact⟨_,.same,.set _⟩
 . split at h
   . rename_i Jn;have:=em Jn;subst this;cases h;refine⟨.buf _ _,λr=>rfl,λd ay=>?_⟩;cases ay;exact⟨_,.same,.buf _ _⟩
   . cases h
 . split at h
   . rename_i Jn;have:=em Jn;subst this;obtain⟨y,f,g⟩:=amV (N:=N) hL L2 h;refine⟨.hZ _ y,λr=>by simp only[OL,f];rfl,λd ay=>?_⟩;cases ay with
     |hZ ay=>obtain⟨vv,ep,hp⟩:=g _ ay;exact⟨.hZ _ vv,.hZ ep,.hZ hp⟩
   . cases h
 . cases h
theorem ar1{t:c8}:∀{r:List (List (fz U))} {l:List (t.den U.D)},Us U t r=some l->l.length=r.length
 |[],l,h=>by simp[Us]at h;subst h;rfl
 |r::rs,l,h=>by
  simp only[Us]at h;split at h
  . rename_i x xs aa P8;cases h;simp[ar1 P8]
  . cases h
theorem aI1{s:z'}{x y:ni U}{a r:Hr U}(h:XS bs s x=some a)(c9:OL s (a++r)=(some y,r)):∀p,y.rz=some p->x.rz=some p:=by
 unfold XS at h;split at h
 . intro p aJ;simp only[OL,ho,hr]at c9;rw[<-c9.1]at aJ;simp[ni.rz]at aJ
 . rename_i ty t Q1;split at h
   . rename_i l ar;cases h;have e:=Cell.RD ar;cases e;simp only[OL,adX,Ue,ho,hr,adP]at c9
     grind
   . cases h
 . rename_i ty sz Js;split at h
   . rename_i l hG ar;cases h;have:=em hG;subst this;simp only[OL,adX,Ue,ho,hr,adP]at c9;rw[<-c9];intro p aJ;simp only[ni.rz]at aJ⊢;rw[<-ar1 ar];exact aJ
   . cases h
 . rename_i n xs;split at h
   . rename_i x aa;cases h;intro p aJ;simp only[OL,adX,Ue,ho,hr,adP]at c9;rw[<-c9]at aJ;simp[ni.rz]at aJ
   . cases h
 . cases h;simp only[OL,adX,Ue,ho,hr,adP]at c9
   grind
 . split at h
   . rename_i Jn;have:=em Jn;subst this;cases h;simp only[OL,adX,Ue,ho,hr,adP]at c9
     grind
   . cases h
 . split at h
   . intro p aJ;simp only[OL,ho,hr]at c9;rw[<-c9.1]at aJ;simp[ni.rz]at aJ
   . cases h
 . cases h
theorem Xl(hL:bs.Nodup):∀{ss:List z'} {j:Nat} {a:Hr U},Pg bs J j ss=some a->
 (∀i hO,eg (LI j ss a) i=some hO->j<=i/\i<j+ss.length/\∃b x,bs[i]?=some b/\eg J b=some x/\∃s UQ,XS bs s x=some UQ/\∀r,OL s (UQ++r)=(some hO,r))
 |[],j,a,h=>by intro i hO ao;simp[LI,eg]at ao
 |.gone::ss,j,a,h=>by
  intro i hO ao;simp only[Pg]at h;simp only[LI,OL]at ao;obtain⟨h1,ad,a'⟩:=Xl hL h i hO ao
  grind
 |.box l::ss,j,a,h=>ac' hL (s:= .box l) (λ{j a}=>Xl hL (ss:=ss) (j:=j) (a:=a)) (by simpa only[Pg]using h)
 |.arr l::ss,j,a,h=>ac' hL (s:= .arr l) (λ{j a}=>Xl hL (ss:=ss) (j:=j) (a:=a)) (by simpa only[Pg]using h)
 |.l' l::ss,j,a,h=>ac' hL (s:= .l' l) (λ{j a}=>Xl hL (ss:=ss) (j:=j) (a:=a)) (by simpa only[Pg]using h)
 |.set::ss,j,a,h=>ac' hL (s:= .set) (λ{j a}=>Xl hL (ss:=ss) (j:=j) (a:=a)) (by simpa only[Pg]using h)
 |.buf E::ss,j,a,h=>ac' hL (s:= .buf E) (λ{j a}=>Xl hL (ss:=ss) (j:=j) (a:=a)) (by simpa only[Pg]using h)
 |.hZ E l::ss,j,a,h=>ac' hL (s:= .hZ E l) (λ{j a}=>Xl hL (ss:=ss) (j:=j) (a:=a)) (by simpa only[Pg]using h)
where
 ac' (hL:bs.Nodup) {s:z'} {ss:List z'} (ih:∀{j:Nat} {a:Hr U},Pg bs J j ss=some a->
  (∀i hO,eg (LI j ss a) i=some hO->j<=i/\i<j+ss.length/\∃b x,bs[i]?=some b/\eg J b=some x/\∃s UQ,XS bs s x=some UQ/\∀r,OL s (UQ++r)=(some hO,r))) {j:Nat} {a:Hr U} (h:(match Wi bs j with
  |some b=>match eg J b with
   |some x=>match XS bs s x,Pg bs J (j+1) ss with
    |some a,some r=>some (a++r)
    |_,_=>none
   |none=>none
  |none=>none)=some a):(∀i hO,eg (LI j (s::ss) a) i=some hO->j<=i/\i<j+(s::ss).length/\∃b x,bs[i]?=some b/\eg J b=some x/\∃s UQ,XS bs s x=some UQ/\∀r,OL s (UQ++r)=(some hO,r)):=by
  intro i hO ao;split at h
  . rename_i b ai;rw[afV]at ai;split at h
    . rename_i x aa;split at h
      . rename_i a1 a2 h1 ad;cases h;obtain⟨y,f,_⟩:=amW (N:=0) (J:=J) (Jc:=[]) hL (λ_ _ _ _ h=>by simp[eg]at h) h1;simp only[LI,f,eg]at ao;split at ao
        . rename_i S4;have:=em S4;subst this;cases ao;exact⟨DJ _,by simp,b,x,ai,aa,s,a1,h1,f⟩
        . obtain⟨ha,hg,hQ⟩:=ih ad i hO ao;exact⟨by omega,by simp;omega,hQ⟩
      . cases h
    . cases h
  . cases h
def MW(U:k9)(hj:VZ)(a:Hr U):hM U×fr U:=
 match aku hj.env a with
 |(e,r)=>(e,LI 0 hj.st r)
def aoi(bs:ey)(hj:VZ)(env:hM U)(J:fr U):Option (Hr U):=
 match agy bs env hj.env,Pg bs J 0 hj.st with
 |some a,some b=>some (a++b)
 |_,_=>none
theorem af6(hL:bs.Nodup){ss:List z'}{b:Hr U}(ai:Pg bs J 0 ss=some b):Can bs J (LI 0 ss b):=by
 intro j c hO ea Jx;obtain⟨_,_,hf,x,h1,ad,s,UQ,a',d'⟩:=Xl hL ai j hO Jx;rw[h1]at ea;cases ea;exact⟨x,ad,aI1 a' (d' [])⟩
theorem ae4{J1:ee}:∀{r:ey} {i j c:Nat} {x:hF},r[j]?=some c->eb J1 c=some x->eb (JX bs J1 i r) (i+j)=some (x.hE bs)
 |[],i,j,c,x,h,_=>by simp at h
 |b::r,i,0,c,x,h,aa=>by
  simp at h;subst h;simp only[JX,aa,eb,Uf,xe]
 |b::r,i,j+1,c,x,h,aa=>by
  simp only[JX];have:=ae4 (i:=i+1) (j:=j) (r:=r) (by simpa using h) aa;rw[show i+1+j=i+(j+1) by omega]at this;split
  . simp only[eb];rw[I2];exact this
  omega
theorem ajN(hL:bs.Nodup)(cy:l3 N J J1){ss:List z'}{b:Hr U}(ai:Pg bs J 0 ss=some b):
 ∃f',aaW (JX bs J1 0 bs) f'/\l3 bs.length (LI 0 ss b) f':=by
 have L2:=af6 hL ai;have aa:=Xl hL ai;generalize LI 0 ss b=Jc at*
 have key:∀(l:fr U),(∀i hO,eg l i=some hO->eg Jc i=some hO)->∃f':ee,(∀i x,eb f' i=some x->∃y,eb (JX bs J1 0 bs) i=some y/\QB y x)/\(∀i hO,eg l i=some hO->i<bs.length/\∃y,eb f' i=some y/\NJ bs.length Jc hO y):=by
  intro l
  induction l with
  |nil=>intro _;exact⟨[],λi x h=>by simp[eb]at h,λi x h=>by simp[eg]at h⟩
  |cons p l ih=>
   obtain⟨i0,b9⟩:=p;intro ar
   have:∃f':ee,(∀i x,eb f' i=some x->∃y,eb (JX bs J1 0 bs) i=some y/\QB y x)/\(∀i hO,i≠i0->eg l i=some hO->i<bs.length/\∃y,eb f' i=some y/\NJ bs.length Jc hO y):=by
    have:=ih;have akd:∀(m:fr U),(∀i hO,i≠i0->eg m i=some hO->eg Jc i=some hO)->∃f':ee,(∀i x,eb f' i=some x->∃y,eb (JX bs J1 0 bs) i=some y/\QB y x)/\(∀i hO,i≠i0->eg m i=some hO->i<bs.length/\∃y,eb f' i=some y/\NJ bs.length Jc hO y):=by
     intro m hm;have ay:∀i hO,eg (dl m i0) i=some hO->eg Jc i=some hO:=by
      intro i hO h;rw[Wv]at h
      grind
     have build:∀n,∃f':ee,(∀i x,eb f' i=some x->∃y,eb (JX bs J1 0 bs) i=some y/\QB y x)/\(∀i hO,i<n->eg (dl m i0) i=some hO->i<bs.length/\∃y,eb f' i=some y/\NJ bs.length Jc hO y):=by
      intro n
      induction n with
      |zero=>exact⟨[],λi x h=>by simp[eb]at h,λi x h=>by omega⟩
      |succ n aL9=>
       obtain⟨s,h1,ad⟩:=aL9;cases eJ:eg (dl m i0) n with
       |none=>exact ⟨s,h1,λi hO ao JL=>ad i hO (by have:i≠n:=λe=>by subst e; rw [eJ] at JL; cases JL
                                                   omega) JL⟩
       |some aqY=>
        obtain⟨_,_,hf,x,g1,g2,aMY,UQ,g3,g4⟩:=aa n aqY (ay n aqY eJ);obtain⟨_,y,ha,hg⟩:=cy hf x g2;obtain⟨z,f,q⟩:=amW (N:=N) hL L2 g3;have:z=aqY:=by have:=(f []).symm.trans (g4 []);simpa using this
        subst this;obtain⟨NH,Jd,HS⟩:=q y hg;have ht:=ae4 (bs:=bs) (i:=0) (j:=n) g1 ha;rw[Lt]at ht;refine⟨qJ s n NH,λi x ao=>?_,λi hO ao JL=>?_⟩
        . rw[n2]at ao
          grind
        . by_cases e:i=n
          . subst e;rw[eJ]at JL;cases JL;exact⟨(pv.1 g1).1,NH,by rw[n2,bJ rfl],HS⟩
          . obtain⟨ln,z,sb,ZQ⟩:=ad i hO (by omega) JL;exact⟨ln,z,by rw[n2,cx (λpJ=>e pJ.symm)];exact sb,ZQ⟩
     obtain⟨s,h1,ad⟩:=build bs.length;refine⟨s,h1,λi hO hn JL=>?_⟩;have ayz:eg (dl m i0) i=some hO:=by rw[Wv,cx (λe=>hn e.symm)];exact JL
     grind
    exact akd l λi hO hn h=>ar i hO (by
     simp only[eg];cases ai:Nat.beq i0 i with
     |true=>exact absurd (em ai).symm hn
     |false=>exact h)
   obtain⟨s,h1,ad⟩:=this;have JW:eg Jc i0=some b9:=ar i0 b9 (by simp[eg,ahN]);obtain⟨_,_,hf,x,g1,g2,aMY,UQ,g3,g4⟩:=aa i0 b9 JW;obtain⟨_,y,ha,hg⟩:=cy hf x g2;obtain⟨z,f,q⟩:=amW (N:=N) hL L2 g3;have:z=b9:=by have:=(f []).symm.trans (g4 []);simpa using this
   subst this;obtain⟨NH,Jd,HS⟩:=q y hg;have ht:=ae4 (bs:=bs) (i:=0) (j:=i0) g1 ha;rw[Lt]at ht;refine⟨qJ s i0 NH,λi x ao=>?_,λi hO JL=>?_⟩
   . rw[n2]at ao
     grind
   . by_cases e:i=i0
     . subst e;simp[eg,ahN]at JL;subst JL;exact⟨(pv.1 g1).1,NH,by rw[n2,bJ rfl],HS⟩
     . have ayz:eg l i=some hO:=by
        simp only[eg]at JL;cases ai:Nat.beq i0 i with
        |true=>exact absurd (em ai).symm e
        |false=>rw[ai]at JL;exact JL
       obtain⟨ln,z,sb,ZQ⟩:=ad i hO e ayz;exact⟨ln,z,by rw[n2,cx (λpJ=>e pJ.symm)];exact sb,ZQ⟩
 obtain⟨s,h1,ad⟩:=key Jc λ_ _ h=>h
 exact⟨s,λi x ao=>h1 i x ao,λi hO JL=>ad i hO JL⟩
theorem aIl(hL:bs.Nodup)(hk:S' kk bs=true)(he:pq N J (λ_=>true) env env1)(cy:l3 N J J1){hj:VZ}{a:Hr U}(h:aoi bs hj env J=some a):
 ∃j0 f',Conv kk N env1 J1 bs.length j0 f'/\pq bs.length (MW U hj a).2 (λ_=>true) (MW U hj a).1 j0/\l3 bs.length (MW U hj a).2 f':=by
 unfold aoi at h;split at h
 . rename_i a1 b h1 ad;cases h;obtain⟨adh,f,j0,ep,hp⟩:=as2 hL (af6 hL ad) he h1;obtain⟨f',s1,s2⟩:=ajN hL cy ad;have c9:MW U hj (a1++b)=(adh,LI 0 hj.st b):=by simp only[MW,f]
   rw[c9];refine⟨j0,f',(Conv.tidy (hj.env.map Prod.fst) bs hL hk).trans (Conv.weaken (λk g Ju ar=>?_) s1),ep,s2⟩;obtain⟨hm,v,ch,hs⟩:=hp k g Ju ar;exact⟨_,anj hm ch,hs⟩
 . cases h
end
end
section
open Go
variable {U:k9}
def Jv(D:Nat->Type):c8->List c8->Type
 |t,[]=>t.den D
 |t,u::r=>t.den D×Jv D u r
def c'(D:Nat->Type):List c8->Type
 |[]=>Unit
 |t::r=>Jv D t r
def Jv.cells(D:Nat->Type):(t:c8)->(ts:List c8)->Jv D t ts->List (Cell D)
 |t,[],x=>[⟨t,x⟩]
 |t,u::r,x=>⟨t,x.1⟩::Jv.cells D u r x.2
def c'.cells(D:Nat->Type):(ts:List c8)->c' D ts->List (Cell D)
 |[],_=>[]
 |t::r,x=>Jv.cells D t r x
def apO{α:Type}:List α->Option α
 |[c]=>some c
 |_=>none
def adk{α:Type}:List α->Option (α×List α)
 |[]=>none
 |c::r=>some (c,r)
def Jv.dec(D:Nat->Type):(t:c8)->(ts:List c8)->List (Cell D)->Option (Jv D t ts)
 |t,[],l=>match apO l with
  |some c=>c.as t
  |none=>none
 |t,u::r,l=>match adk l with
  |some p=>match p.1.as t with
   |some x=>match Jv.dec D u r p.2 with
    |some y=>some (x,y)
    |none=>none
   |none=>none
  |none=>none
def c'.dec(D:Nat->Type):(ts:List c8)->List (Cell D)->Option (c' D ts)
 |[],l=>match l with
  |[]=>some ()
  |_=>none
 |t::r,l=>Jv.dec D t r l
theorem aGO{α:Type}{l:List α}{c:α}(h:apO l=some c):l=[c]:=by
 unfold apO at h;split at h
 . cases h;rfl
 . cases h
theorem aI2{α:Type}{l:List α}{c:α×List α}(h:adk l=some c):l=c.1::c.2:=by
 unfold adk at h;split at h
 . cases h
 grind
theorem Jv.KV{D:Nat->Type}:∀{ts:List c8} {t:c8} {a:List (Cell D)} {h:Jv D t ts},Jv.dec D t ts a=some h->Jv.cells D t ts h=a
 |[],t,a,h,e=>by
  unfold Jv.dec at e;split at e
  . rename_i c a7;rw[aGO a7,Cell.RD (t:=t) (x:=h) e];rfl
  . cases e
 |u::r,t,a,h,e=>by
  unfold Jv.dec at e;split at e
  . rename_i p aJ;split at e
    . rename_i x aa;split at e
      . rename_i y bo;cases e;have:=Jv.KV bo;show⟨t,x⟩::Jv.cells D u r y=a;rw[this,aI2 aJ,<-Cell.RD aa]
      . cases e
    . cases e
  . cases e
theorem c'.KV{D:Nat->Type}:∀{ts:List c8} {a:List (Cell D)} {h:c' D ts},c'.dec D ts a=some h->c'.cells D ts h=a
 |[],[],h,e=>rfl
 |[],_::_,h,e=>by cases (show(none:Option Unit)=some h from e)
 |t::r,a,h,e=>Jv.KV e
def Jv.TZ(U:k9):(t:c8)->(ts:List c8)->Jv U.D t ts
 |t,[]=>t.TZ U
 |t,u::r=>(t.TZ U,Jv.TZ U u r)
def c'.TZ(U:k9):(ts:List c8)->c' U.D ts
 |[]=>()
 |t::r=>Jv.TZ U t r
abbrev QL:=List (Nat×Nat)×List (Nat×c8)
def aqB:Nn->fz U->QL->QL
 |.ptr j _,.ptr b _,s=>((j,b)::s.1,s.2)
 |.k' j _ _,.k' b _ _ _,s=>((j,b)::s.1,s.2)
 |.arr j,.arr b,s=>((j,b)::s.1,s.2)
 |.mp j,.mp b,s=>((j,b)::s.1,s.2)
 |.lJ j,.lJ b,s=>((j,b)::s.1,s.2)
 |.fn _ S9,.fn _ cs,s=>(S9.zip cs++s.1,s.2)
 |.hole (.slice t),.arr b,s=>(s.1,(b,t)::s.2)
 |_,_,s=>s
def aqC:List Nn->List (fz U)->QL->QL
 |a::as,x::xs,s=>aqC as xs (aqB a x s)
 |_,_,s=>s
def alp:List c8->List (fz U)->QL->QL
 |.slice t::ts,.arr b::xs,s=>alp ts xs (s.1,(b,t)::s.2)
 |_::ts,_::xs,s=>alp ts xs s
 |_,_,s=>s
mutual
def aqE:ze->hl U->QL->QL
 |.c a,.c x,s=>aqB a x s
 |.agg l,.agg xs,s=>aqC l xs s
 |.row n,.agg xs,s=>alp (U.q0 n) xs s
 |.e2 l,.e2 xs,s=>alq l xs s
 |_,_,s=>s
def alq:List ze->List (hl U)->QL->QL
 |a::as,x::xs,s=>alq as xs (aqE a x s)
 |_,_,s=>s
end
def aqD(env:hM U):List (Nat×ze)->QL->QL
 |[],s=>s
 |(k,a)::r,s=>match eg env k with
  |some x=>aqD env r (aqE a x s)
  |none=>aqD env r s
def aMZ:z'->ni U->QL->QL
 |.box l,.box xs,s=>aqC l xs s
 |.l' n,.box xs,s=>alp (U.q0 n) xs s
 |.hZ _ a,.hZ _ x,s=>aqB a x s
 |_,_,s=>s
def ad'(J:fr U)(kk:Nat):Nat->List z'->QL->ey->ey×List (Nat×c8)
 |_,[],s,acc=>(acc.reverse,s.2)
 |j,a::r,s,acc=>
  let b:=match eg s.1 j with
   |some b=>b
   |none=>match Nat.ble (j+1) kk with
    |true=>j
    |false=>1000000+j
  match eg J b with
  |some x=>ad' J kk (j+1) r (aMZ a x s) (b::acc)
  |none=>ad' J kk (j+1) r s (b::acc)
def aaz:ey->Bool
 |[]=>true
 |a::l=>(l.all λb=>!(Nat.beq a b))&&aaz l
theorem ae5:∀{l:ey},aaz l=true->l.Nodup
 |[],_=>adM
 |a::l,h=>by
  simp only[aaz,h5,qa,ahX]at h;refine List.nodup_cons.2 ⟨λhm=>?_,ae5 h.2⟩;have a':=h.1 a hm;simp_all
def Z3(kk:Nat)(own:List (UP×c8))(hj:VZ)(ts:List c8)(env:hM U)(J:fr U)(N:Nat):Option (c' U.D ts):=
 match ais own env J N with
 |none=>none
 |some (env,J,_)=>match an7 env J with
  |none=>none
  |some (env,J)=>match ad' J kk 0 hj.st (aqD env hj.env ([],[])) []with
   |(bs,OM)=>match Sj OM env J with
    |none=>none
    |some (env,J)=>match aaz bs&&(S' kk bs&&Nat.beq bs.length hj.st.length)with
     |false=>none
     |true=>match aoi bs hj env J with
      |none=>none
      |some a=>c'.dec U.D ts a
section
variable {kk N:Nat}{J:fr U}{J1:ee}{env:hM U}{env1:hc}
theorem ajH{own:List (UP×c8)}{hj:VZ}{ts:List c8}{h:c' U.D ts}(aa:Z3 kk own hj ts env J N=some h)(he:pq N J (λ_=>true) env env1)(cy:l3 N J J1)(j1:kk<=N):
 ∃j0 f',Conv kk N env1 J1 hj.st.length j0 f'/\pq hj.st.length (MW U hj (c'.cells U.D ts h)).2 (λ_=>true) (MW U hj (c'.cells U.D ts h)).1 j0/\l3 hj.st.length (MW U hj (c'.cells U.D ts h)).2 f'/\kk<=hj.st.length:=by
 unfold Z3 at aa;split at aa
 . cases aa
 . rename_i aC6 J2 Ru h1;obtain⟨vK,ZT,KU,OQ,aKD,vc⟩:=atO h1 he cy j1;split at aa
   . cases aa
   rename_i aNY aNQ ayh;obtain⟨ep,s1,aBg,aK5,aoJ⟩:=aFM (kk:=kk) ayh OQ aKD;have kn:=KU.trans aBg;split at aa;rename_i bs OM _;split at aa
   . cases aa
   . rename_i aNZ Tz ad;obtain⟨hp,s2,k0,aK6,agR,_⟩:=aeI (kk:=kk) (gl:=[]) ad aK5 aoJ;split at aa
     . cases aa
     . rename_i ai;simp only[h5]at ai;obtain⟨KX,JS,abg⟩:=ai;have n':=em abg;split at aa
       . cases aa
       . rename_i a b6;obtain⟨zt,Ul,A',aK7,aKE⟩:=aIl (ae5 KX) JS aK6 agR b6;rw[c'.KV aa,<-n'];refine⟨zt,Ul,kn.trans (k0.trans A'),aK7,aKE,?_⟩
         by_cases Oo:kk=0
         . omega
         . have Vf:(bs[kk-1]?==some (kk-1))=true:=by
            unfold S' at JS
            grind
           have d':bs[kk-1]?=some (kk-1):=by simpa using Vf
           have:=(pv.1 d').1;omega
end
structure k6 (U:k9) where
 f:Nat
 Nc:List ze
 st:List z'
 ts:List c8
 Jk:ze
 G2:List z'
 us:List c8
 F:c' U.D ts->Option (c' U.D us)
def k6.args(s:k6 U)(h:c' U.D s.ts):List (hl U):=(RJ s.Nc (c'.cells U.D s.ts h)).1
def k6.OI(s:k6 U)(h:c' U.D s.ts):fr U:=LI 0 s.st (RJ s.Nc (c'.cells U.D s.ts h)).2
def k6.res(s:k6 U)(r:c' U.D s.us):hl U:=(RH s.Jk (c'.cells U.D s.us r)).1
def k6.rest(s:k6 U)(r:c' U.D s.us):fr U:=LI 0 s.G2 (RH s.Jk (c'.cells U.D s.us r)).2
def N9(P:Program)(s:k6 U):Prop:=
 ∀h r,s.F h=some r->∀TM J1,er (hV s.st.length (s.OI h)) (s.args h) TM->l3 s.st.length (s.OI h) J1->
  y1 P s.f TM J1 s.st.length (λln f' N'=>N'=s.G2.length/\hV N' (s.rest r) (s.res r) ln/\l3 N' (s.rest r) f')
def fz.WJ:fz U->Bool
 |.t _|.vt .. |.hN|.Jq|.Jp=>true
 |.fn _ []=>true
 |_=>false
def J8:hl U->Bool
 |.c x=>x.WJ
 |.agg cs=>cs.all fz.WJ
 |.e2 vs=>go vs
where go:List (hl U)->Bool
 |[]=>true
 |v::vs=>J8 v&&go vs
def fz.XT:fz U->C
 |.t c=>.t (c.enc U)
 |.vt ty x o=>.vt (ty.enc U x) o
 |.hN=>.hN
 |.Jq=>.Jq
 |.Jp=>.Jp
 |.fn f caps=>.fn f caps
 |_=>.dead
def Jw:hl U->V
 |.c x=>.c x.XT
 |.agg cs=>.agg (cs.map fz.XT)
 |.e2 vs=>.e2 (go vs)
where go:List (hl U)->List V
 |[]=>[]
 |v::vs=>Jw v::go vs
theorem afW{N:Nat}{J:fr U}{x:fz U}(h:x.WJ=true):i' N J x x.XT/\(∀d,i' N J x d->d=x.XT)/\∀n,x.XT.cv n=true:=by
 cases x<;>simp[fz.WJ]at h
 . exact⟨.t _,λd ay=>by cases ay;rfl,λ_=>rfl⟩
 . exact⟨.vt _ _ _,λd ay=>by cases ay;rfl,λ_=>rfl⟩
 . exact⟨.hN,λd ay=>by cases ay;rfl,λ_=>rfl⟩
 . exact⟨.Jq,λd ay=>by cases ay;rfl,λ_=>rfl⟩
 . exact⟨.Jp,λd ay=>by cases ay;rfl,λ_=>rfl⟩
 . rename_i f caps;cases caps with
   |nil=>exact⟨.fn _ _,λd ay=>by cases ay;rfl,λ_=>rfl⟩
   |cons=>simp[fz.WJ]at h
theorem anw:∀{vs:List (hl U)} {i:Nat},(Jw.go vs)[i]?=(vs[i]?).map Jw
 |[],i=>by simp[Jw.go]
 |v::vs,0=>by simp[Jw.go]
 |v::vs,i+1=>by simp[Jw.go,anw]
theorem asw:∀{vs:List (hl U)},(Jw.go vs).length=vs.length
 |[]=>rfl
 |v::vs=>by simp[Jw.go,asw]
theorem ar':∀{vs:List (hl U)} {i:Nat} {v:hl U},J8.go vs=true->vs[i]?=some v->J8 v=true
 |[],i,v,_,h=>by simp at h
 |x::vs,0,v,hs,h=>by simp[J8.go]at hs;simp at h;subst h;exact hs.1
 |x::vs,i+1,v,hs,h=>by simp[J8.go]at hs;exact ar' hs.2 (by simpa using h)
theorem akd{N:Nat}{J:fr U}:∀(cs:List (fz U)),(∀x,x∈cs->x.WJ=true)->er (i' N J) cs (cs.map fz.XT)
 |[],_=>.nil
 |a::l,h=>.cons (afW (h a (by simp))).1 (akd l λx aa=>h x (by simp[aa]))
theorem acz{N:Nat}{J:fr U}:∀{x:hl U},J8 x=true->hV N J x (Jw x)/\∀n,(Jw x).cv n=true
 |.c x,h=>by
  simp only[J8]at h;obtain⟨h1,_,a'⟩:=afW (N:=N) (J:=J) h;exact⟨.c h1,λn=>a' n⟩
 |.agg cs,h=>by
  simp only[J8,qa]at h;refine⟨.agg ?_,λn=>?_⟩
  . exact akd cs h
  . simp only[Jw,V.cv,Vo,qa];intro c a7;exact(afW (N:=N) (J:=J) (h c a7)).2.2 n
 |.e2 vs,h=>by
  simp only[J8]at h;have:=go (N:=N) (J:=J) vs h;refine⟨.e2 _ _ (by rw[asw]) λi x d aa ay=>?_,λn=>?_⟩
  . rw[anw,aa]at ay
    grind
  . simp only[Jw,V.cv];exact this.2 n
where go {N:Nat} {J:fr U}:∀(vs:List (hl U)),J8.go vs=true->(∀x,x∈vs->hV N J x (Jw x))/\∀n,V.cv.V.vn n (Jw.go vs)=true
 |[],_=>⟨by simp,λ_=>rfl⟩
 |v::vs,h=>by
  simp only[J8.go,h5]at h;obtain⟨h1,ad⟩:=acz (N:=N) (J:=J) h.1;obtain⟨a',d'⟩:=go (N:=N) (J:=J) vs h.2;refine⟨λx aa=>?_,λn=>by simp only[Jw.go,V.cv.V.vn,h5];exact⟨ad n,d' n⟩⟩;rcases Nx.1 aa with rfl|aa
  . exact h1
  . exact a' x aa
theorem afX{N:Nat}{J:fr U}{x:hl U}{d:V}(h:hV N J x d):J8 x=true->d=Jw x:=by
 induction h with
 |c h=>intro hs;simp only[J8]at hs;rw[(afW (N:=N) (J:=J) hs).2.1 _ h];rfl
 | @agg xs ds h=>
  intro hs;simp only[J8,qa]at hs;simp only[Jw]
  congr 1
  induction h with
  |nil=>rfl
  |cons h1 ad ih=>rw[Vk,<-(afW (N:=N) (J:=J) (hs _ (by simp))).2.1 _ h1,<-ih (λx aa=>hs x (by simp[aa]))]
 |e2 xs ds ar h ih=>
  intro hs;simp only[J8]at hs;simp only[Jw]
  congr 1
  apply ahW;intro i;rw[anw];cases aa:xs[i]? with
  |none=>grind
  |some x=>
   have ao:=(pv.1 aa).1;have ay:=HJ (l:=ds) (i:=i) (by omega);rw[ay,LO]
   congr 1
   exact ih i x _ aa ay (ar' hs aa)
end
section
open Go
variable {U:k9}
section
variable {P:Program}{nt kk key N N':Nat}{env:hc}{J J':ee}{Q VY:Exit->hc->ee->Nat->Prop}
def aw0(P:Program)(f:Nat)(args:List V)(J:ee)(key:Nat)(env:hc)(K:V->ee->Prop):Prop:=
 ∀cm nt φ S a w,ga cm nt φ S env J (lt key) a w->V.cv.V.vn (lt key) args=true->∀vs:List Value,er (jJ φ w S) args vs->
  Calls P f vs.toArray w λe w'=>∃v r hi hJ J',e= .returned v/\K r J'/\jJ hi w' hJ r v/\r.cv (CJ (lt key) key)=true/\ga cm nt hi hJ env J' (CJ (lt key) key) a w'
def aKg(P:Program)(o:h2)(env:hc)(f:Nat)(vs:List V):Prop:=
 (∃args p,o.op= .call f args/\MY env args=some (p,vs)/\p)\/
 (∃x args q p caps Tv,o.op= .OK x args/\x.get env=some (q,.c (.fn f caps))/\q/\MY env args=some (p,Tv)/\p/\N6 P f=true/\vs=Tv++caps.map λb=>V.c (.ptr b 0))
def ade(P:Program)(o:h2)(key:Nat)(env:hc)(J:ee)(K:hc->ee->Prop):Prop:=
 MS P o key env J K\/(mt env o.guard=some true/\∃f vs,aKg P o env f vs/\aw0 P f vs J key env λr J'=>K (ii env o.dst true r) J')
def Y6(P:Program)(kk:Nat):List h2->Nat->hc->ee->(hc->ee->Prop)->Prop
 |[],_,env,J,K=>K env J
 |o::r,key,env,J,K=>∃KW hU,Conv kk key env J key KW hU/\ade P o key KW hU λe s=>Y6 P kk r (key+16) e s K
theorem ar2{cm:K5}{φ:q3}{S:r'}{a:Act}{w:World}(R:ga cm nt φ S env J (lt key) a w){ops:Array Oper}{o:Oper}{qi:h2}(al:acM P nt ops o=some qi){K:hc->ee->Prop}(h:ade P qi key env J K){Q:Exit->Act->World->Prop}:
 if Region.wanted o (yielded ops a.tmps)then o.wp P a w (QK cm nt (CJ (lt key) key) K) Q else QK cm nt (CJ (lt key) key) K (a.put o.dst undef) w:=by
 rcases h with h|⟨a8,f,vs,aoW,JC⟩
 . exact aje R (λb h1 _=>amM h1) al h
 . obtain⟨h1,ad,a',d'⟩:=ary al;have hw:=asm R ad a8;rw[hw];simp only[xe];rcases aoW with⟨args,p,px,JE,aJ⟩|⟨x,args,q,p,caps,Tv,px,ik,e1,JE,aJ,ai,rfl⟩
   . rw[px]at h1;obtain⟨c,T9,ads⟩:=arS (afv h1 (by simp));obtain⟨Zm,ai,Nq⟩:=arT ads;have u0:=ai9 (P:=P) (w:=w) (a:=a) T9 Zm (f:=f) (caps:=[]) rfl ai;simp only[Ym]at u0;obtain⟨g1,g2⟩:=YW R Nq JE aJ;exact Calls.next a' d' rfl (λ_ _ h=>h) (JC cm nt φ S a w R g2 _ g1) u0
   . rw[px]at h1;obtain⟨c,T9,ads⟩:=WP (afv h1 (by simp));obtain⟨t,rfl,Zm,Nq⟩:=arL ads;obtain⟨g1,g2⟩:=YW R Nq JE aJ;have aa:=kt (x:= .tmp t) R rfl ik e1;have aho:a.eval (.tmp t)= .func (.func f) #[] (caps.map λb=>Value.pointer (some ⟨(φ b).1,0,none⟩)).toArray:=aa.1.xJ
     have aoX:er (jJ φ w S) (caps.map λb=>V.c (.ptr b 0)) (caps.map λb=>Value.pointer (some ⟨(φ b).1,0,none⟩)):=by
      refine er.Tj (by simp) ?_;intro i v x h1 ad;simp only[WA,e0]at h1 ad;obtain⟨b,KX,rfl⟩:=h1;obtain⟨hf,JS,rfl⟩:=ad;rw[KX]at JS;cases JS;exact .c rfl
     have Ll:V.cv.V.vn (lt key) (Tv++caps.map λb=>V.c (.ptr b 0))=true:=by
      refine aag ?_;intro i v ch;by_cases ao:i<Tv.length
      . rw[Wz ao]at ch;exact VL g2 ch
      . rw[ZF (by omega)]at ch;simp only[WA,e0]at ch;obtain⟨b,KX,rfl⟩:=ch;have ak:=aa.2;simp only[V.cv,C.cv,qa]at ak⊢
        grind
     exact Calls.next a' d' rfl (λ_ _ h=>h) (JC cm nt φ S a w R Ll _ (g1.append aoX)) (ai9 T9 Zm aho ai)
theorem as3{cm:K5}(j1:cm.k=kk){ops:Array Oper}{Q:Exit->Act->World->Prop}{K:hc->ee->Nat->Prop}:∀{l:List Oper} {eh:List h2} {k N:Nat} {env:hc} {J:ee} {φ:q3} {S:r'} {a:Act} {w:World},PU P nt ops l=some eh->(∀i:Nat,i<l.length->l[i]?=ops[k+i]?)->
 ga cm nt φ S env J (lt N) a w->Y6 P kk eh N env J (λe s=>K e s (N+16*eh.length))->(∀φ S e s N a w,K e s N->ga cm nt φ S e s (lt N) a w->Q .normal a w)->wpOps P ops Q (List.range' k l.length) a w
 |[],eh,k,N,env,J,φ,S,a,w,al,ao,R,h,wk=>by
  simp[PU]at al;subst al;simp only[abL,List.range'_zero,wpOps];exact wk _ _ _ _ _ _ _ h R
 |o::l,eh,k,N,env,J,φ,S,a,w,al,ao,R,h,wk=>by
  simp only[PU,gA,e0]at al;obtain⟨qi,P2,V0,agV,rfl⟩:=al;have cJ:ops[k]?=some o:=by have:=ao 0 (by simp);simpa using this.symm
  rw[Yl,List.range'_succ,wpOps_cons];unfold wpOp;rw[cJ];simp only;obtain⟨KW,hU,agZ,Ot⟩:=h;obtain⟨Yy,amd,afx⟩:=agZ cm nt φ S a w j1 R;have hs:=ar2 afx P2 (K:=λe s=>Y6 P kk V0 (N+16) e s λe s=>K e s (N+16*(V0.length+1))) (by omega) (Q:=Q)
  have next:∀n1 w',QK cm nt (CJ (lt N) N) (λe s=>Y6 P kk V0 (N+16) e s λe s=>K e s (N+16*(V0.length+1))) n1 w'->wpOps P ops Q (List.range' (k+1) l.length) n1 w':=by
   rintro n1 w' ⟨hi,hJ,e,s,p',R'⟩
   refine as3 j1 (k:=k+1) (N:=N+16) agV (λi e'=>?_) (R'.more λ_ h=>an5 h) (K:=K) ?_ wk
   . have:=ao (i+1) (by simp;omega)
     grind
   grind
  split at hs
  . rename_i hw;rw[bJ hw];exact .inl (Oper.wp_mono next hs)
  grind
theorem kc.aMR{eh:List h2}(h:Y6 P kk eh N env J (λe s=>Q .normal e s (N+16*eh.length))):kc P nt kk (.region eh) env J N Q:=by
 intro code a7 cm φ S a w j1 R;obtain⟨id,ops,rfl,al⟩:=asu a7;refine wp_region ?_;have:=as3 (P:=P) j1 (ops:=ops) (K:=λe s N=>Q .normal e s N) (Q:=λe n1 w'=>∃hi hJ env' J' N',Q e env' J' N'/\ga cm nt hi hJ env' J' (lt N') n1 w') (k:=0) al (λi ao=>by simp) R h
  (λφ S e s N a w p' J4=>⟨φ,S,e,s,N,p',J4⟩)
 rw[List.range_eq_range'];omega
theorem y1.conv{f k:Nat}{args auX:List V}{Q:V->ee->Nat->Prop}(b6:er La args auX)(hs:aaW J J')(h:y1 P f auX J' k Q):y1 P f args J k Q:=by
 intro φ S w B LN wm Vg zv vs x1;refine h φ S w B ⟨λb x aa=>?_,λb hf x y aa bo=>?_,LN.st⟩ (λb x aa=>?_) (λb x aa=>?_) ?_ vs ?_
 . obtain⟨b9,h1,ad⟩:=hs b x aa;exact ad.aqv (LN.blk b b9 h1)
 . obtain⟨b9,h1,ad⟩:=hs b x aa;obtain⟨Ri,ha,hg⟩:=hs hf y bo;exact LN.inj b hf b9 Ri h1 ha
 . obtain⟨b9,h1,ad⟩:=hs b x aa;exact⟨(wm b b9 h1).1,ad.cv _ (wm b b9 h1).2⟩
 . obtain⟨b9,h1,ad⟩:=hs b x aa;exact Vg b b9 h1
 . refine aag λi v ch=>?_
   obtain⟨v0,h1,ad⟩:=(b6.flip (R':=λb a=>La a b) λ_ _ h=>h).get ch;exact ad.cv _ (VL zv h1)
 . exact er.comp (λa b c h1 ad=>h1.WH ad) (b6.flip (R':=λb a=>La a b) λ_ _ h=>h) x1
theorem y1.mono{f k:Nat}{args:List V}{Q VY:V->ee->Nat->Prop}(h:y1 P f args J k Q)(e1:∀r s n,Q r s n->VY r s n):y1 P f args J k VY:=by
 intro φ S w B h1 ad a' d' vs hy;refine(h φ S w B h1 ad a' d' vs hy).mono ?_
 grind
theorem y1.tidy {f k:Nat}{args:List V}{J:ee}{Q VY:V->ee->Nat->Prop}(h:y1 P f args J k Q)
 (e1:∀r J' N',Q r J' N'->∃bs sb J2,bs.Nodup/\S' k bs=true/\La (r.hE bs) sb/\aaW (JX bs J' 0 bs) J2/\VY sb J2 bs.length):y1 P f args J k VY:=by
 intro φ S w B h1 ad a' d' vs hy;refine(h φ S w B h1 ad a' d' vs hy).mono ?_
 rintro e w' ⟨v,r,hi,hJ,J',N',he,wk,ha,hg,hQ,oi,te,q',Ov⟩
 obtain⟨bs,sb,J2,hL,aLk,al,hs,aKz⟩:=e1 r J' N' wk;have akG:∀i:Nat,i<k->bs[i]?=some i:=by
  intro i ao;unfold S' at aLk
  grind
 let Ni:q3:=λi=>hi ((bs[i]?).getD 0)
 have adD:∀(i:Nat) b,bs[i]?=some b->Ni i=hi b:=by intro i b h;simp[Ni,h]
 have ahk:∀b x,eb (JX bs J' 0 bs) b=some x->∃c b9,bs[b]?=some c/\eb J' c=some b9/\x=b9.hE bs:=by
  intro b x aa;obtain⟨j,c,b9,rfl,ad,a',rfl⟩:=Xo aa
  grind
 have aLI:∀(b9:hF),(b9.hE bs).cv (lt bs.length)=true:=by
  intro b9;cases b9 with
  |box cs=>simp only[hF.hE,hF.cv,Vo,qa];intro c _;exact C.Qy c
  |arr sz es=>rfl
  |set ks=>rfl
  |buf E s=>rfl
  |hZ E c=>exact C.Qy c
  |kx sz es i o c=>exact C.Qy c
 refine⟨v,sb,Ni,hJ,J2,bs.length,he,aKz,al.WH (jJ.hE adD ha),al.cv _ (V.Qy r),⟨λb x aa=>?_,λb hf x y aa bo hn h0 BJ=>?_,hQ.st⟩,λb x aa=>?_,te,λb x aa h0=>?_,λb ai=>?_⟩
 . obtain⟨y,bo,ai⟩:=hs b x aa;obtain⟨c,b9,ep,hp,rfl⟩:=ahk b y bo;exact ai.aqv (o1.hE adD ep (hQ.blk c b9 hp))
 . obtain⟨aAo,ahq,_⟩:=hs b x aa;obtain⟨aNG,ahr,_⟩:=hs hf y bo;obtain⟨c,b9,ep,hp,_⟩:=ahk b aAo ahq;obtain⟨vJ,Qc,f1,f2,_⟩:=ahk hf aNG ahr;rw[adD b c ep]at h0⊢;rw[adD hf vJ f1]at BJ⊢;refine hQ.inj c vJ b9 Qc hp f2 ?_ h0 BJ;intro e;subst e;have:=UH hL ep;rw[UH hL f1]at this;cases this;exact hn rfl
 . obtain⟨y,bo,ai⟩:=hs b x aa;obtain⟨c,b9,ep,hp,rfl⟩:=ahk b y bo;exact⟨(pv.1 ep).1,ai.cv _ (aLI b9)⟩
 . obtain⟨y,bo,ai⟩:=hs b x aa;obtain⟨c,b9,ep,hp,rfl⟩:=ahk b y bo;rw[adD b c ep]at h0⊢;exact q' c b9 hp h0
 . rw[adD b b (akG b ai)];exact Ov b ai
end
def fz.hX(f:Nat->Nat):fz U->fz U
 |.ptr b o=>.ptr (f b) o
 |.k' b ty i o=>.k' (f b) ty i o
 |.arr b=>.arr (f b)
 |.sub b fu len=>.sub (f b) fu len
 |.pre b h=>.pre (f b) h
 |.LU b fu len=>.LU (f b) fu len
 |.mp b=>.mp (f b)
 |.y2 b=>.y2 (f b)
 |.lJ b=>.lJ (f b)
 |.fn g caps=>.fn g (caps.map f)
 |x=>x
def hl.hX(f:Nat->Nat):hl U->hl U
 |.c x=>.c (x.hX f)
 |.agg cs=>.agg (cs.map (fz.hX f))
 |.e2 vs=>.e2 (go f vs)
where go (f:Nat->Nat):List (hl U)->List (hl U)
 |[]=>[]
 |v::vs=>v.hX f::go f vs
def ni.hX(f:Nat->Nat):ni U->ni U
 |.box cs=>.box (cs.map (fz.hX f))
 |.arr ty l=>.arr ty l
 |.rows sz r=>.rows sz r
 |.set ks=>.set ks
 |.buf E s=>.buf E s
 |.hZ E c=>.hZ E (c.hX f)
 |.kx t l i o c=>.kx t l i o (c.hX f)
def ain(J:fr U):ey->fr U
 |[]=>J
 |b::r=>dl (ain J r) b
def VA(J:fr U)(bs:ey)(f:Nat->Nat):fr U->fr U
 |[]=>ain J bs
 |(b,x)::r=>k1 (VA J bs f r) (f b) (x.hX f)
def WN(J Jr:fr U):Nat->ey->Option Bool
 |_,[]=>some true
 |i,b::r=>match eg Jr i with
  |none=>WN J Jr (i+1) r
  |some hO=>match eg J b with
   |none=>none
   |some x=>match hO.rz with
    |none=>WN J Jr (i+1) r
    |some ali=>match x.rz with
     |none=>none
     |some p=>match Nat.beq ali.1 p.1,WN J Jr (i+1) r with
      |true,some c=>some (decide (ali.2=p.2)&&c)
      |_,_=>none
section
variable {key N':Nat}{J Jr:fr U}{J1 arh:ee}{bs:ey}
theorem auk:∀{bs:ey} {b:Nat},eg (ain J bs) b=if b∈bs then none else eg J b
 |[],b=>by simp[ain]
 |c::r,b=>by
  simp only[ain,Wv,auk (bs:=r)]
  grind
theorem aap{f:Nat->Nat}:∀{hU:fr U} {c:Nat} {x:ni U},eg (VA J bs f hU) c=some x->(∃b b9,c=f b/\eg hU b=some b9/\x=b9.hX f)\/(c ∉ bs/\eg J c=some x)
 |[],c,x,h=>by
  simp only[VA,auk]at h
  grind
 |(b,y)::r,c,x,h=>by
  simp only[VA,Nv]at h;split at h
  . rename_i ai;cases h;exact .inl ⟨b,y,ai.symm,by simp[eg,ahN],rfl⟩
  . rename_i ai;rcases aap h with⟨hf,b9,h1,ad,a'⟩|h
    . refine .inl ⟨hf,b9,h1,?_,a'⟩;simp only[eg];cases OP:Nat.beq b hf with
      |true=>exact absurd (by rw[em OP];exact h1.symm) ai
      |false=>exact ad
    grind
theorem aeN(hL:bs.Nodup)(e':∀b,b∈bs->b<key){i j:Nat}(h:back bs key i=back bs key j):i=j:=by
 unfold back at h;cases ao:bs[i]? with
 |some b=>
  rw[ao]at h;have ayd:=e' b (F' ao);cases ea:bs[j]? with
  |some c=>
   rw[ea]at h;simp at h;subst h;have:=UH hL ao;rw[UH hL ea]at this
   grind
  |none=>rw[ea]at h;simp at h;omega
 |none=>
  rw[ao]at h;have Wp:=abH.1 ao;cases ea:bs[j]? with
  |some c=>
   rw[ea]at h;have ayd:=e' c (F' ea)
   grind
  |none=>grind
theorem asa{f:Nat->Nat}(c9:∀i j,f i=f j->i=j):∀{hU:ee} {b:Nat} {x:hF},eb hU b=some x->eb (M6 J1 bs f hU) (f b)=some (x.hX f)
 |[],b,x,h=>by simp[eb]at h
 |(c,y)::r,b,x,h=>by
  simp only[M6,n2];simp only[eb]at h;by_cases Ll:c=b
  . grind
  . rw[cx Ll]at h;rw[cx (λe=>Ll (c9 _ _ e))];exact asa c9 h
theorem asF{f:Nat->Nat}{c:Nat}(a7:c ∉ bs)(c9:∀b,f b≠c):∀{hU:ee},eb (M6 J1 bs f hU) c=eb J1 c
 |[]=>by simp only[M6,Xp,cx a7]
 |(b,y)::r=>by
  simp only[M6,n2];rw[cx (c9 b)];exact asF a7 c9
theorem ni.ahB{f:Nat->Nat}{x:ni U}:(x.hX f).rz=x.rz:=by cases x<;>rfl
theorem ar4:∀{l:ey} {i0:Nat} {c:Bool},WN J Jr i0 l=some c->c=true->∀(j b:Nat) hO,l[j]?=some b->eg Jr (i0+j)=some hO->∃x,eg J b=some x/\∀p,hO.rz=some p->x.rz=some p
 |[],i0,c,h,a7,j,b,hO,ea,aa=>by simp at ea
 |a::l,i0,c,h,a7,j,b,hO,ea,aa=>by
  simp only[WN]at h;have next:∀{vJ},WN J Jr (i0+1) l=some vJ->vJ=true->∀QZ,j=QZ+1->∃x,eg J b=some x/\∀p,hO.rz=some p->x.rz=some p:=by
   intro vJ h1 ad QZ e;subst e;exact ar4 h1 ad QZ b hO (by simpa using ea) (by rw[show i0+1+QZ=i0+(QZ+1) by omega];exact aa)
  cases j with
  |zero=>
   simp at ea;subst ea;simp only[Uf]at aa;rw[aa]at h;simp only at h;split at h
   . cases h
   . rename_i x aL4;split at h
     . grind
     . rename_i ali ay;split at h
       . cases h
       . rename_i p apk;split at h
         . rename_i vJ ai ayg;cases h;simp only[h5,u2]at a7;refine⟨x,aL4,λq e1=>?_⟩;rw[ay]at e1;cases e1;rw[apk];have:=em ai
           grind
         . cases h
  |succ j=>
   split at h
   . grind
   grind
variable (hL:bs.Nodup)(e':∀b,b∈bs->b<key)(vc:N'<=bs.length+16)(cy:l3 key J J1)
include hL e' vc cy in
theorem i'.hX{x:fz U}{d:C}(h:i' N' Jr x d):i' (key+16) (VA J bs (back bs key) Jr) (x.hX (back bs key)) (d.hX (back bs key)):=by
 cases h with
 |t c=>exact i'.t c
 |ptr b o=>exact i'.ptr _ o
 |k' b t i o=>exact i'.k' _ t i o
 |vt t x o=>exact i'.vt t x o
 |arr b sz n ai h=>
  have X4:back bs key b<key+16:=by
   unfold back;cases ao:bs[b]? with
   |some c=>simp;have:=e' c (F' ao);omega
   |none=>have:=abH.1 ao;simp;omega
  refine i'.arr _ sz n X4 λx aa p aJ=>?_
  rcases aap aa with⟨hf,b9,h1,ad,rfl⟩|⟨h1,ad⟩
  . have:=aeN hL e' h1;subst this;rw[ni.ahB]at aJ
    grind
  . exfalso
    have hk:=(cy _ _ ad).1;unfold back at h1 hk
    grind
 |sub b fu len=>exact i'.sub _ fu len
 |pre b sz n ai h=>
  have X4:back bs key b<key+16:=by
   unfold back;cases ao:bs[b]? with
   |some c=>simp;have:=e' c (F' ao);omega
   |none=>have:=abH.1 ao;simp;omega
  refine i'.pre _ sz n X4 λx aa p aJ=>?_
  rcases aap aa with⟨hf,b9,h1,ad,rfl⟩|⟨h1,ad⟩
  . have:=aeN hL e' h1;subst this;rw[ni.ahB]at aJ
    grind
  . exfalso
    have hk:=(cy _ _ ad).1;unfold back at h1 hk
    grind
 |LU b sz fu len ai h=>
  have X4:back bs key b<key+16:=by
   unfold back;cases ao:bs[b]? with
   |some c=>simp;have:=e' c (F' ao);omega
   |none=>have:=abH.1 ao;simp;omega
  refine i'.LU _ sz fu len X4 λx aa p aJ=>?_
  rcases aap aa with⟨hf,b9,h1,ad,rfl⟩|⟨h1,ad⟩
  . have:=aeN hL e' h1;subst this;rw[ni.ahB]at aJ
    grind
  . exfalso
    have hk:=(cy _ _ ad).1;unfold back at h1 hk
    grind
 |mp b=>exact i'.mp _
 |y2 b=>exact i'.y2 _
 |lJ b n ai h=>
  have X4:back bs key b<key+16:=by
   unfold back;cases ao:bs[b]? with
   |some c=>simp;have:=e' c (F' ao);omega
   |none=>have:=abH.1 ao;simp;omega
  refine i'.lJ _ n X4 λx aa p aJ=>?_
  rcases aap aa with⟨hf,b9,h1,ad,rfl⟩|⟨h1,ad⟩
  . have:=aeN hL e' h1;subst this;rw[ni.ahB]at aJ
    grind
  . exfalso
    have hk:=(cy _ _ ad).1;unfold back at h1 hk
    grind
 |hN=>exact .hN
 |Jq=>exact .Jq
 |Jp=>exact .Jp
 |fn f caps=>exact i'.fn f _
 |dead d=>exact .dead _
theorem as4{f:Nat->Nat}:∀{vs:List (hl U)} {i:Nat},(hl.hX.go f vs)[i]?=(vs[i]?).map (hl.hX f)
 |[],i=>by simp[hl.hX.go]
 |v::vs,0=>by simp[hl.hX.go]
 |v::vs,i+1=>by simp[hl.hX.go,as4]
theorem asG{f:Nat->Nat}:∀{vs:List (hl U)},(hl.hX.go f vs).length=vs.length
 |[]=>rfl
 |v::vs=>by simp[hl.hX.go,asG]
include hL e' vc cy in
theorem hV.hX{x:hl U}{d:V}(h:hV N' Jr x d):hV (key+16) (VA J bs (back bs key) Jr) (x.hX (back bs key)) (d.hX (back bs key)):=by
 induction h with
 |c h=>exact .c (i'.hX hL e' vc cy h)
 |agg h=>exact .agg (er.map_map (h.imp λ_ _ _ ak=>i'.hX hL e' vc cy ak))
 |e2 xs ds ar h ih=>
  refine .e2 _ _ (by rw[asG,amj];exact ar) ?_;intro i x d aa ay;rw[as4,e0]at aa;rw[am5,e0]at ay
  grind
include hL e' cy in
theorem ajq(ay:WN J Jr 0 bs=some true):rm key J (key+16) (VA J bs (back bs key) Jr):=by
 refine⟨by omega,λc x a7 aa=>?_⟩;rcases aap aa with⟨b,b9,h1,ad,rfl⟩|⟨h1,ad⟩
 . unfold back at h1;cases ao:bs[b]? with
   |some vJ=>
    rw[ao]at h1;simp at h1;subst h1;obtain⟨x,ha,hg⟩:=ar4 ay rfl b c b9 ao (by rw[Lt];exact ad);exact⟨x,ha,λp aJ=>hg p (by rw[ni.ahB]at aJ;exact aJ)⟩
   |none=>rw[ao]at h1;simp at h1;omega
 grind
include hL e' vc cy in
theorem l3.aoE(ay:WN J Jr 0 bs=some true)(al:l3 N' Jr arh):l3 (key+16) (VA J bs (back bs key) Jr) (M6 J1 bs (back bs key) arh):=by
 intro c x aa;have X4:∀b,b<N'->back bs key b<key+16:=by
  intro b ai;unfold back;cases ao:bs[b]? with
  |some c=>simp;have:=e' c (F' ao);omega
  |none=>have:=abH.1 ao;simp;omega
 rcases aap aa with⟨b,b9,rfl,ad,rfl⟩|⟨h1,ad⟩
 . obtain⟨a',y,d',hy⟩:=al b b9 ad;refine⟨X4 b a',y.hX (back bs key),asa (λi j=>aeN hL e') d',?_⟩;cases hy with
   |box hy=>exact .box (er.map_map (hy.imp λ_ _ _ ak=>i'.hX hL e' vc cy ak))
   |arr t l=>exact .arr t l
   |set ks=>exact .set ks
   |buf E s=>exact .buf E s
   |hZ hy=>exact .hZ (i'.hX hL e' vc cy hy)
   |kx t l i o hy=>exact .kx t l i o (i'.hX hL e' vc cy hy)
   |rows hy B'=>exact .rows hy B'
 . obtain⟨a',y,d',hy⟩:=cy c x ad;refine⟨by omega,y,?_,?_⟩
   . rw[asF h1 λb=>?_]
     . exact d'
     . unfold back
       grind
   . exact hy.mono (ajq hL e' cy ay)
end
end
section
open Go
variable {xb:ey}
def ajX(n:Nat):List (Nat×Nat)->Bool
 |(i,_)::_=>Nat.beq i n
 |[]=>false
theorem aIm{l:List (h2×ey)}{p:Nat×Nat}(h:p∈SE l):p.1<l.length:=by
 simp only[SE,aol,ap5]at h
 grind
theorem aFE{l:List (h2×ey)}(h:ajX l.length (aa9 l)=true):ajW l=true/\aaw l.dropLast=true/\∀p,p∈SE l.dropLast->p∈aa9 l:=by
 unfold aa9 at h⊢;split at h
 . grind
 . exfalso
   cases ar:SE l with
   |nil=>rw[ar]at h;cases h
   |cons p r=>
    rw[ar]at h;have aJ:p∈SE l:=by rw[ar];simp
    have:=aIm aJ;obtain⟨i,j⟩:=p;have s':Nat.beq i l.length=true:=h;simp_all
theorem aGP{l:List (h2×ey)}{m:Nat}(hm:l.length=m+1)(h:ajW l=true){D:Nat->ey}(Pm:∀(i:Nat) x,l[i]?=some x->D i=x.2){p:Nat->Bool}(aK3:∀i,i<m->p i=true->∀d,d∈D i->p d=true)(ar:∀d,d∈D m->p d=true):
 ∀i,i<m->p i=true:=by
 have key:∀k i,i<m->m-i<=k->p i=true:=by
  intro k
  induction k with
  |zero=>intro i h1 ad;omega
  |succ k ih=>
   intro i h1 ad;simp only[ajW,qa,adL]at h;have a':=h i (by omega)
   grind
 exactλi ao=>key m i ao (by omega)
section
variable {P:Program}{cm:K5}{nt kk:Nat}{N:Nat}{ops:Array Oper}{k5:List h2}{C2:h2}{E:Nat->hc}{T:Nat->ee}{G:Nat->Bool}{W:Nat->V}
theorem ajO{listed:Array Bool}{i m:Nat}(hs:listed.size=m+1)(ao:i<m):listed.pop.getD i false=listed.getD i false:=by
 simp only[ak8,Array.getElem?_pop]
 grind
theorem aIO{listed:Array Bool}{i m:Nat}(hs:listed.size=m+1)(ao:i<m):(listed.setIfInBounds i true).pop=listed.pop.setIfInBounds i true:=by grind
theorem aHC{Q:Exit->Act->World->Prop}{Ld:Nat}{listed:Array Bool}{a:Act}{w:World}(hs:listed.size=ops.size)(k4:∀i,i<ops.size->listed.getD i false=true)(wk:Q .normal a w):wpAny P .any ops Q Ld listed a w:=by
 have Nr:Region.ready .any ops listed=[]:=by
  rw[azn];intro i ao;rw[mem_ready]at ao
  grind
 cases Ld with
 |zero=>exact⟨Nr,wk⟩
 |succ Ld=>exact⟨λ_=>wk,λi ao=>by rw[Nr]at ao;cases ao⟩
theorem aGQ {D:Nat->ey}(st:Stat xb k5 D E N)(al:WR xb P k5 N E T G W)(hres:PU P nt ops ops.toList=some (k5++[C2]))(Pm:∀(i:Nat) o,ops[i]?=some o->D i=M9 o)
 (aLn:∀(p:Nat->Bool),(∀i,i<k5.length->p i=true->∀d,d∈D i->p d=true)->(∀d,d∈D k5.length->p d=true)->∀i,i<k5.length->p i=true)
 (aoQ:∀d,d∈D k5.length->d<k5.length)
 {Q:Exit->Act->World->Prop}{K:hc->ee->Prop}(j1:cm.k=kk)
 (p':∃KW hU,Conv kk (N+16*k5.length) (E k5.length) (T k5.length) (N+16*k5.length) KW hU/\ade P C2 (N+16*k5.length) KW hU K)
 (wk:∀e s φ S a w,K e s->ga cm nt φ S e s (CJ (lt (N+16*k5.length)) (N+16*k5.length)) a w->Q .normal a w):
 ∀(Ld:Nat) (listed:Array Bool) φ S env J a w,listed.size=k5.length+1->listed.getD k5.length false=false->listed.toList.countP (· ==false)<=Ld->Inv xb cm nt k5 D N E T G W listed.pop φ S env J a w->wpAny P .any ops Q Ld listed a w:=by
 have n':=afr hres;simp at n';have apq:∀(listed:Array Bool) (φ:q3) (S:r') (env:hc) (J:ee) (a:Act) (w:World),listed.size=k5.length+1->listed.getD k5.length false=false->Inv xb cm nt k5 D N E T G W listed.pop φ S env J a w->Region.ready .any ops listed≠[]:=by
  intro listed φ S env J a w hs hm ri Nr;have k4:∀i,i<k5.length->listed.getD i false=true:=by
   intro i
   induction i using Nat.strongRecOn with
   |_ i ih=>
    intro ao;cases ar:listed.getD i false with
    |true=>rfl
    |false=>
     exfalso
     have abj:i<ops.size:=by omega
     have cJ:ops[i]?=some ops[i]:=ak' abj;have:i∈Region.ready .any ops listed:=by
      rw[mem_ready];refine⟨?_,ops[i],cJ,λe he ai=>?_⟩
      . grind
      . have ay:e.on∈D i:=by
         rw[Pm i _ cJ];simp only[M9,PG,adZ]
         grind
        exact ih e.on (st.back i _ ao ay) (by have:=st.back i _ ao ay;omega)
     grind
  have abj:k5.length<ops.size:=by omega
  have cJ:ops[k5.length]?=some ops[k5.length]:=ak' abj;have:k5.length∈Region.ready .any ops listed:=by
   rw[mem_ready];refine⟨?_,ops[k5.length],cJ,λe he ai=>?_⟩
   . grind
   . have ay:e.on∈D k5.length:=by
      rw[Pm _ _ cJ];simp only[M9,PG,adZ]
      grind
     grind
  grind
 intro Ld
 induction Ld with
 |zero=>
  intro listed φ S env J a w hs hm a7 ri
  exfalso
  have L6:k5.length<listed.size:=by omega
  have h0:listed.toList.countP (· ==false)=0:=by omega
  rw[List.countP_eq_zero]at h0;simp[L6]at hm;exact h0 listed[k5.length] (by simp) (by simp[hm])
 |succ Ld ih=>
  intro listed φ S env J a w hs hm a7 ri;refine⟨λNr=>absurd Nr (apq listed φ S env J a w hs hm ri),λi ao=>?_⟩;rw[mem_ready]at ao;obtain⟨h1,o,cJ,aK1⟩:=ao;have abj:i<ops.size:=(ahP.1 cJ).1;have L6:i<listed.size:=by omega
  have eJ:listed.getD i false=false:=by simp[L6]at h1⊢;exact h1
  obtain⟨qi,P2,akO⟩:=amH hres (i:=i) (o:=o) (by simpa using cJ);have ay:∀d,d∈D i->listed.getD d false=true:=by
   intro d ay;rw[Pm i o cJ]at ay;simp only[M9,PG,adZ]at ay
   grind
  have aKV:listed.toList.countP (· ==false)<=Ld+1->(listed.setIfInBounds i true).toList.countP (· ==false)<=Ld:=by
   intro a7;have:listed.toList[i]?=some false:=by simp[L6]at eJ⊢;exact eJ
   grind
  rcases Nat.lt_or_ge i k5.length with X8|X8
  ·
   have agU:k5[i]?=some qi:=by rw[Wz X8]at P2;exact P2
   have JU:∀d,d∈D i->listed.pop.getD d false=true:=λd Pq=>by rw[ajO hs (by have:=st.back i d X8 Pq;omega)];exact ay d Pq
   have ape:listed.pop.getD i false=false:=by rw[ajO hs X8];exact eJ
   obtain⟨aoL,X1⟩:=ri.agree st al agU ape JU;obtain⟨⟨f',qy,j'⟩,_⟩:=(al.step i qi agU).1.local (env':=env) (J':=J) aoL X1;have Ot:=aje ri.rel (key:=N+16*i) (λb KX JS=>atH ape KX JS) akO (K:=λe s=>e=ii env qi.dst (G i) (W i)/\s=f') (qy.MS ⟨rfl,rfl⟩) (Q:=Q)
   have next:∀n1 w',QK cm nt (CJ (Um N k5.length listed.pop) (N+16*i)) (λe s=>e=ii env qi.dst (G i) (W i)/\s=f') n1 w'->wpAny P .any ops Q Ld (listed.setIfInBounds i true) n1 w':=by
    rintro n1 w' ⟨hi,hJ,e,s,⟨rfl,rfl⟩,R'⟩
    have aJ:=aIO (listed:=listed) (i:=i) (m:=k5.length) hs X8;refine ih (listed.setIfInBounds i true) hi hJ _ _ n1 w' (by simpa using hs) ?_ (aKV a7) (by rw[aJ];exact ri.step st al agU ape JU j' R');rw[SD L6,I2];exact hm
   unfold wpOp;rw[cJ];dsimp only;split at Ot
   . rename_i hw;rw[bJ hw];exact .inl (Oper.wp_mono next Ot)
   . rename_i hw;rw[cx hw];exact next _ _ Ot
  ·
   have ao:i=k5.length:=by omega
   subst ao;have agU:qi=C2:=by grind
   subst agU;have k4:∀j,j<k5.length->listed.pop.getD j false=true:=by
    refine aLn (λj=>listed.pop.getD j false) (λj ea aJ d Pq=>ri.down j ea aJ d Pq) (λd Pq=>?_);rw[ajO hs (aoQ d Pq)];exact ay d Pq
   have R:=ri.done st al k4;obtain⟨KW,hU,agZ,Ot⟩:=p';obtain⟨Yy,amd,afx⟩:=agZ cm nt φ S a w j1 R;have abm:=ar2 afx akO Ot (Q:=Q);have next:∀n1 w',QK cm nt (CJ (lt (N+16*k5.length)) (N+16*k5.length)) K n1 w'->wpAny P .any ops Q Ld (listed.setIfInBounds k5.length true) n1 w':=by
    rintro n1 w' ⟨hi,hJ,e,s,aKx,R'⟩
    refine aHC (by simp[hs,n']) (λj ea=>?_) (wk e s hi hJ n1 w' aKx R');rw[SD L6];split
    . rfl
    . rename_i hn;have QV:j<k5.length:=by omega
      rw[<-ajO hs QV];exact k4 j QV
   unfold wpOp;rw[cJ];dsimp only;split at abm
   . rename_i hw;rw[bJ hw];exact .inl (Oper.wp_mono next abm)
   . rename_i hw;rw[cx hw];exact next _ _ abm
theorem kc.aMS {Lc:List (Nat×Nat)}{env:hc}{J:ee}{Q:Exit->hc->ee->Nat->Prop}(hm:ajX (k5.length+1) Lc=true)
 (h:agB xb P k5 N env J (λe s=>Rn xb k5 e N Lc=true/\Y6 P kk [C2] (N+16*k5.length) e s (λe s=>Q .normal e s (N+16*k5.length+16)))):kc P nt kk (.WG (k5++[C2]) Lc) env J N Q:=by
 intro code a7 cm φ S a w j1 R;obtain⟨id,ops,rfl,hres,Oq,apd,rfl⟩:=arz a7;have n':=afr hres;simp at n';have U5:(i4 ops (k5++[C2])).length=k5.length+1:=by simp[i4,n']
 obtain⟨aLo,ayk,JM⟩:=aFE (l:=i4 ops (k5++[C2])) (by rw[U5];exact hm);obtain⟨E,T,G,W,al,vK,t0,X5,wk⟩:=amN h
 have ayN:(i4 ops (k5++[C2])).dropLast=i4 ops.pop k5:=by
  obtain⟨C0,x,aa⟩:∃C0 x,ops.toList=C0++[x]:=by
   cases ar:ops.toList.reverse with
   |nil=>exfalso;have h1:=Jy List.length ar;rw[List.length_reverse,ZG,abL]at h1;omega
   |cons x r=>exact⟨r.reverse,x,by have:=Jy List.reverse ar;simpa using this⟩
  have Lm:C0.length=k5.length:=by have h1:=Jy List.length aa;rw[ZG,ZI,List.length_singleton]at h1;omega
  unfold i4;rw[Array.toList_pop,aa,ak5,List.zip_append (by simp[Lm])];simp
 rw[ayN]at ayk;have aKW:Rn xb k5 (E k5.length) N (SE (i4 ops.pop k5))=true:=anG (λp aJ=>JM p (by rw[ayN];exact aJ)) X5;have qy:=axl (ops:=ops.pop) (by simp;omega) ayk al aKW
 let D:Nat->ey:=λi=>((ops[i]?).map M9).getD []
 have aoH:∀i,i<k5.length->((ops.pop[i]?).map M9).getD []=D i:=by grind
 have st:Stat xb k5 D E N:=by
  refine⟨λi d ao ay=>qy.back i d ao (by rw[aoH i ao];exact ay),λi j x y d aa bo ay3=>?_,λi j b hn ao ea hw ai=>?_⟩
  . have ao:=(pv.1 aa).1;have ea:=(pv.1 bo).1;have:=qy.aeb i j x y d aa bo ay3
    grind
  . rcases qy.ord i j b hn ao ea hw ai with⟨h1,ad⟩|⟨h1,ad⟩
    . exact .inl ⟨h1,ad.congr qy.back aoH ea⟩
    . exact .inr ⟨h1,ad.congr qy.back aoH ao⟩
 have ay0:∀(i:Nat) x,(i4 ops (k5++[C2]))[i]?=some x->D i=x.2:=by
  intro i x aa;unfold i4 at aa
  grind
 refine wp_region_any apd ?_;have Ot:∃KW hU,Conv kk (N+16*k5.length) (E k5.length) (T k5.length) (N+16*k5.length) KW hU/\ade P C2 (N+16*k5.length) KW hU (λe s=>Q .normal e s (N+16*k5.length+16)):=wk;have aKL:∀d,d∈D k5.length->d<k5.length:=by
  intro d ay;simp only[aaw,h5]at Oq;have aa:(i4 ops (k5++[C2]))[k5.length]?=some (i4 ops (k5++[C2]))[k5.length]:=HJ (by omega);have:=aml Oq.1.1 aa d (by rw[<-ay0 _ _ aa];exact ay);omega
 refine aGQ (cm:=cm) (nt:=nt) (D:=D) st al hres (λi o cJ=>by simp[D,cJ]) (λp h1 ad=>aGP U5 aLo ay0 h1 ad) aKL j1 Ot (λe s φ S a w e1 R'=>⟨φ,S,e,s,_,e1,R'.more λb ai=>an5 ai⟩) ops.size _ φ S env J a _ ?_ ?_ ?_ ?_
 . simp[n']
 . rw[ak8,Array.getElem?_replicate];split<;>rfl
 . have:=List.countP_le_length (p:=λx:Bool=>x==false) (l:=(Array.replicate ops.size false).toList)
   simpa using this
 . have R':ga cm nt φ S env J (lt N) a {w with drawn:=w.drawn+1}:=R.drew;have apr:∀i,(Array.replicate ops.size false).pop.getD i false=true->False:=by
    intro i ar;simp only[ak8,Array.getElem?_pop]at ar
    grind
   refine⟨R'.more λb ai=>by simp[Um,ai],by simp;omega,λi ao ar=>(apr i ar).elim,λt _=>by rw[vK],λt i o cJ ar=>(apr i ar).elim,λb _=>by rw[t0],λb i ao ar=>(apr i ar).elim⟩
end
end
end Go.Proofs.YtandcioiaooocaaGreat.Shv
