/- The library of this proof, part C: an abstract machine for the code of the program, and its soundness. -/
import Derived.Test.YtijpinendaoleaaGreatReLB

namespace Go.Proofs.YtijpinendaoleaaGreat.Shv
set_option linter.all false
section
open Go
variable {xb:List Nat}
def QI(xb:List Nat)(ev:List h7)(env:Env)(N:Nat):List (Nat×Nat)->Bool
 | []=>true
 | (i,j)::r=>(match ev[i]?,ev[j]? with
  | some x,some y=>(y' xb y.op env (N+16*j)).all λb=>!(lo xb x.op env (N+16*i) b)
  | _,_=>true) && QI xb ev env N r
theorem art{ev:List h7}{env:Env}{N:Nat}:∀{K1:List (Nat×Nat)} {i j:Nat} {x y:h7},QI xb ev env N K1=true->(i,j)∈K1->ev[i]?=some x->ev[j]?=some y->∀b,b∈y' xb y.op env (N+16*j)->lo xb x.op env (N+16*i) b=false
 | [],i,j,x,y,h,hm,_,_,_,_=>by simp at hm
 | (i0,aNi)::r,i,j,x,y,h,hm,aa,b8,b,ai=>by
  simp only[QI,kc]at h;rcases LU.1 hm with e | hm
  . grind
  . exact art h.2 hm aa b8 b ai
section
variable {P:Program} {cv:Ctx} {nt kk:Nat} {N:Nat} {ops:Array Oper} {ev:List h7} {E:Nat->Env} {T:Nat->ep} {G:Nat->Bool} {W:Nat->V}
theorem aDs{i:Nat}{o:Oper}{x:h7}(c7:ops[i]?=some o)(aa:ev[i]?=some x):(mt ops ev)[i]?=some (x,MO o):=by
 unfold mt
 grind
theorem avp(hlen:ev.length=ops.size)(NY:Z3 (mt ops ev)=true)(ar:Wi xb P ev N E T G W)(aJ2:QI xb ev (E ev.length) N (RE (mt ops ev))=true):
 Stat xb ev (λi=>((ops[i]?).map MO).getD []) E N:=by
 simp only[Z3,kc]at NY;obtain⟨⟨anW,axH⟩,_⟩:=NY;have sK:∀i,i < ev.length->∃o x,ops[i]?=some o/\ev[i]?=some x/\(mt ops ev)[i]?=some (x,MO o):=by
  intro i al;have c7:ops[i]?=some ops[i]:=ajR (by omega);have aa:ev[i]?=some ev[i]:=CJ al;exact⟨_,_,c7,aa,aDs c7 aa⟩
 have aM5:∀i j,ahead (mt ops ev) j i=true->j < i/\j∈((ops[i]?).map MO).getD []:=by
  intro i j h;obtain⟨h1,y,ah,bJ⟩:=aFf h;refine⟨h1,?_⟩;have al:i < ev.length:=by
   have:=(pJ.1 ah).1;unfold mt at this;simp at this;omega
  grind
 have axI:∀(i j:Nat) (x y:h7) (d:Nat),ev[i]?=some x->ev[j]?=some y->y.dst=some d->(d∈x.rd->(j < i/\j∈((ops[i]?).map MO).getD [])\/(x.op.neutral=true/\x.op.N5=false/\i < j/\i∈((ops[j]?).map MO).getD []))/\(i=j\/x.dst≠some d):=by
  intro i j x y d aa b8 axR;obtain⟨V7,hQ,acN,Je,ai'⟩:=sK i (pJ.1 aa).1;obtain⟨aj1,Ni,axy,L8,aja⟩:=sK j (pJ.1 b8).1;rw[aa]at Je;cases Je;rw[b8]at L8;cases L8;simp only[ayw,qx]at axH;have h1:=axH ((x,MO V7),i) (DJ (i:=i) (by simp[ajX,ai']))
  have ah:=h1 ((y,MO aj1),j) (DJ (i:=j) (by simp[ajX,aja]))
  grind
 refine⟨λi d al a6=>?_,axI,?_⟩
 . obtain⟨o,x,c7,aa,s4⟩:=sK i al;rw[c7]at a6;have:=alE anW s4 d a6;omega
 ·
  have axr:∀(i:Nat) (x:h7),ev[i]?=some x->¬(x.op.neutral=true/\x.op.N5=false)->∀t,t∈x.op.reads->look (E ev.length) t=look (E i) t:=by
   intro i x aa aM' t ht;have al:=(pJ.1 aa).1;refine abZ ar (by omega) (JA _) λj y afQ afR b8 G2=>?_
   rcases (axI i j x y t aa b8 G2).1 (avC ht)with h | h
   . omega
   grind
  have aNc:∀i j,Vs (Ur (mt ops ev) []) j i=true->j < i/\OX (λi=>((ops[i]?).map MO).getD []) j i:=by
   intro i j h;simp only[Vs,kc,I2,List.contains_iff_mem]at h;refine⟨h.1,asi (l:=mt ops ev) (acc:=[]) (λk x aa=>?_) (λi j dx=>by simp at dx) i j h.2⟩;have hk:k < ev.length:=by
    have:=(pJ.1 aa).1;unfold mt at this;simp at this;omega
   grind
  have aos:∀(i j:Nat) (x y:h7) (b:Nat),i≠j->ev[i]?=some x->ev[j]?=some y->lo xb x.op (E i) (N+16*i) b=true->b∈y' xb y.op (E j) (N+16*j)->Vs (Ur (mt ops ev) []) i j=true\/Vs (Ur (mt ops ev) []) j i=true:=by
   intro i j x y b hv aa b8 hw ai;by_cases h1:Vs (Ur (mt ops ev) []) i j=true
   . grind
   . by_cases ah:Vs (Ur (mt ops ev) []) j i=true
     . grind
     . exfalso
       obtain⟨V7,hQ,acN,Je,ai'⟩:=sK i (pJ.1 aa).1;obtain⟨aj1,Ni,axy,L8,aja⟩:=sK j (pJ.1 b8).1;rw[aa]at Je;cases Je;rw[b8]at L8;cases L8;have ht:y.op.N5=true:=by
        cases h:y.op.N5 with
        | true=>rfl
        | false=>rw[aE9 h]at ai;simp at ai
       have hm:(i,j)∈RE (mt ops ev):=by
        simp only[RE,amO,apg];refine⟨((x,MO V7),i),DJ (i:=i) (by simp[ajX,ai']),?_⟩;dsimp only;rw[asL hw];simp only[u1,vv,List.mem_filterMap];refine⟨((y,MO aj1),j),DJ (i:=j) (by simp[ajX,aja]),?_⟩
        grind
       have:=art aJ2 hm aa b8 b (by rw[aFe (axr j y b8 (λh=>by rw[ht]at h;cases h.2))];exact ai);rw[aFd (axr i x aa (λh=>by rw[asL hw]at h;cases h.1))]at this
       grind
  intro i j b hv al dx hw ai;obtain⟨V7,x,acN,aa,ai'⟩:=sK i al;obtain⟨aj1,y,axy,b8,aja⟩:=sK j dx;have ajx:lo xb x.op (E i) (N+16*i) b=true:=by unfold NK at hw;rw[aa]at hw;exact hw
  have conv:(Vs (Ur (mt ops ev) []) i j=true\/Vs (Ur (mt ops ev) []) j i=true)->(i < j/\OX (λi=>((ops[i]?).map MO).getD []) i j)\/(j < i/\OX (λi=>((ops[i]?).map MO).getD []) j i):=by grind
  rcases ai with⟨Ni,L8,ai⟩ | ai
  . rw[b8]at L8;cases L8;exact conv (aos i j x y b hv aa b8 ajx ai)
  . have aoM:lo xb y.op (E j) (N+16*j) b=true:=by unfold NK at ai;rw[b8]at ai;exact ai
    cases pq:y.op.N5 with
    | true=>exact conv (aos i j x y b hv aa b8 ajx (arq pq aoM))
    | false=>
     cases axN:x.op.N5 with
     | true=>exact conv (aos j i y x b (tJ hv) b8 aa aoM (arq axN ajx)).symm
     | false=>
      have h1:=avo axN ajx;have ah:=avo pq aoM
      exfalso;omega
theorem ali{ev:List h7}{env:Env}{N:Nat}:∀{l m:List (Nat×Nat)},(∀p,p∈l->p∈m)->QI xb ev env N m=true->QI xb ev env N l=true
 | [],_,_,_=>rfl
 | (i,j)::r,m,hs,h=>by
  simp only[QI,kc];refine⟨?_,ali (λp a7=>hs p (ajY _ a7)) h⟩
  have : ∀ (m : List (Nat×Nat)), (i, j) ∈ m -> QI xb ev env N m = true -> (match ev[i]?, ev[j]? with
   | some x,some y=>(y' xb y.op env (N+16*j)).all λb=>!(lo xb x.op env (N+16*i) b)
   | _,_=>true)=true:=by
   intro m
   induction m with
   | nil=>intro h _;simp at h
   | cons q m ih=>
    intro hm ay;obtain⟨aNr,aNs⟩:=q;simp only[QI,kc]at ay
    grind
  grind
theorem aFg{l:List (h7×List Nat)}{p:Nat×Nat}(h:p∈RE l):p∈aaj l:=by
 unfold aaj
 grind
theorem k1.V8{K1:List (Nat×Nat)}{env:Env}{J:ep}{Q:Exit->Env->ep->Nat->Prop}(h:ae' xb P ev N env J (λe s=>QI xb ev e N K1=true/\Q .normal e s (N+16*ev.length))):k1 P nt kk (.V8 ev K1) env J N Q:=by
 intro code ay cv φ S a w j1 R;obtain⟨id,ops,rfl,hres,NY,aoj,rfl⟩:=arj ay;have hlen:=adZ hres;simp at hlen;obtain⟨E,T,G,W,ar,vK,t0,UC,v'⟩:=amy h;refine wp_region_any aoj ?_;refine aDr (cv:=cv) (nt:=nt) (avp hlen NY ar (ali (λp a7=>aFg a7) UC)) ar hres (λi o c7=>by simp[c7]) (λφ S a w R'=>⟨φ,S,_,_,_,v',R'⟩) ops.size _ φ S env J a _ ?_ ?_
 . have:=List.countP_le_length (p:=λx:Bool=>x==false) (l:=(Array.replicate ops.size false).toList)
   grind
 . have R':Rel cv nt φ S env J (lt N) a {w with drawn:=w.drawn+1}:=R.drew;refine⟨R'.more λb ai=>by simp[used,ai],by simp[hlen],λi al aJ=>?_,λt _=>by rw[vK],λt i o c7 aJ=>?_,λb _=>by rw[t0],λb i al aJ=>?_⟩
   . simp_all
   . exfalso;simp[Array.getElem?_replicate]at aJ;split at aJ <;> simp at aJ
   simp_all
end
end
section
open Go
def akk(P:Program)(c:Code)(Q:Exit->Act->World->Prop)(a:Act)(w:World):Prop:=
 ∀(b:Frame) (k:List Item) (cs:List Frame),∃e pa w',Q e pa w'/\Arrives P (lone (b.at a (.code c:: .inLoop c::k)) cs w) b k cs e pa w'
theorem aFh{P:Program}{c:Code}{Q:Exit->Act->World->Prop}{a:Act}{w:World}(h:c.wp P (Exit.then (akk P c Q) Q) a w):akk P c Q a w:=by
 intro b k cs;obtain⟨e,ae4,ag1,ee,YM⟩:=h b (.inLoop c::k) cs;cases e with
 | normal=>
  obtain⟨aA9,azu,aMB,aKP,aJO⟩:=ee b k cs;exact⟨aA9,azu,aMB,aKP,.of_steps (Steps.trans YM (.one step_inLoop)) aJO⟩
 | exit id=>exact⟨_,ae4,ag1,ee,.pass (x:= .inLoop c) rfl (λ_ _=>.inl (by simp)) YM⟩
 | goto l=>exact⟨_,ae4,ag1,ee,.pass (x:= .inLoop c) rfl (λ_ _=>.inl (by simp)) YM⟩
 | ret=>exact⟨_,ae4,ag1,ee,.pass (x:= .inLoop c) rfl (λ_ _=>.inl (by simp)) YM⟩
 | panic atI=>exact⟨_,ae4,ag1,ee,.pass (x:= .inLoop c) rfl (λ_ _=>.inl (by simp)) YM⟩
 | outgrown=>exact⟨_,ae4,ag1,ee,.pass (x:= .inLoop c) rfl (λ_ _=>.inl (by simp)) YM⟩
theorem aFM{P:Program}{c:Code}{Q:Exit->Act->World->Prop}{a:Act}{w:World}(h:akk P c Q a w):(Code.loop c).wp P Q a w:=by
 intro b k cs;obtain⟨e,pa,w',ee,YM⟩:=h b k cs;exact⟨e,pa,w',ee,.of_steps (.one step_loop) YM⟩
section
variable {P:Program} {nt kk:Nat} {env env':Env} {J J':ep} {N N':Nat} {Q VA:Exit->Env->ep->Nat->Prop}
def TT(P:Program)(nt kk:Nat)(c:sb)(env:Env)(J:ep)(N:Nat)(Q:Exit->Env->ep->Nat->Prop):Prop:=
 ∀code,resolve P nt code=some c->∀cv φ S a w,cv.k=kk->Rel cv nt φ S env J (lt N) a w->akk P code (λe pa w'=>∃hn hK env' J' N',Q e env' J' N'/\Rel cv nt hn hK env' J' (lt N') pa w') a w
theorem TT.round{c:sb}(h:k1 P nt kk c env J N (andThen (λenv J N=>TT P nt kk c env J N Q) Q)):TT P nt kk c env J N Q:=by
 intro code ay cv φ S a w j1 R;refine aFh (wp_mono (h code ay cv φ S a w j1 R) ?_)
 rintro e pa w' ⟨hn,hK,env',J',N',ee,R'⟩
 cases e with
 | normal=>exact ee code ay cv hn hK pa w' j1 R'
 | _=>exact⟨hn,hK,env',J',N',ee,R'⟩
theorem k1.aLy{c:sb}(h:TT P nt kk c env J N Q):k1 P nt kk (.loop c) env J N Q:=by
 intro code ay cv φ S a w j1 R;obtain⟨b,rfl,ai⟩:=aDo ay;exact aFM (h b ai cv φ S a w j1 R)
def Conv(kk N:Nat)(env:Env)(J:ep)(N':Nat)(env':Env)(J':ep):Prop:=
 ∀cv nt φ S a w,cv.k=kk->Rel cv nt φ S env J (lt N) a w->∃hn hK,Rel cv nt hn hK env' J' (lt N') a w
theorem Conv.refl{kk N:Nat}:Conv kk N env J N env J:=λ_ _ φ S _ _ _ R=>⟨φ,S,R⟩
theorem Conv.trans{kk RJ QL adE:Nat}{e' hf te:Env}{s1 s2 TP:ep}(h:Conv kk RJ e' s1 QL hf s2)(k:Conv kk QL hf s2 adE te TP):Conv kk RJ e' s1 adE te TP:=
 λcv nt φ S a w hk R=>let⟨hn,hK,R'⟩:=h cv nt φ S a w hk R;k cv nt hn hK a w hk R'
theorem k1.conv{c:sb}(ay:Conv kk N env J N' env' J')(h:k1 P nt kk c env' J' N' Q):k1 P nt kk c env J N Q:=
 λcode afG cv φ S a w j1 R=>let⟨hn,hK,R'⟩:=ay cv nt φ S a w j1 R;h code afG cv hn hK a w j1 R'
theorem TT.conv{c:sb}(ay:Conv kk N env J N' env' J')(h:TT P nt kk c env' J' N' Q):TT P nt kk c env J N Q:=
 λcode afG cv φ S a w j1 R=>let⟨hn,hK,R'⟩:=ay cv nt φ S a w j1 R;h code afG cv hn hK a w j1 R'
theorem Conv.tidy(ks bs:List Nat)(hM:bs.Nodup)(hk:keeps kk bs=true):Conv kk N env J bs.length (Vr bs env ks) (m5 bs J 0 bs):=
 λcv nt φ S a w j1 R=>let⟨hn,R'⟩:=R.tidy ks bs hM (by rw[j1];exact hk);⟨hn,S,R'⟩
theorem Conv.freeze(b0:Nat){sa:Nat}{es:List (List T)}(kx:ec J b0=some (.arr sa es)):Conv kk N env J N (Yu b0 sa es env) (Uw b0 sa es J):=
 λcv nt φ S a w j1 R=>⟨φ,_,R.freeze kx⟩
def r2(c vJ:C):Prop:=(∀φ w S v,gb φ w S c v->gb φ w S vJ v)/\∀n,c.cx n=true->vJ.cx n=true
theorem r2.refl(c:C):r2 c c:=⟨λ_ _ _ _ h=>h,λ_ h=>h⟩
theorem r2.dead(c:C):r2 c .dead:=⟨λ_ _ _ _ h=>h.OU,λ_ _=>rfl⟩
theorem r2.eI :r2 .eI (.t (.slice [])):=by
 refine⟨?_,λ_ _=>rfl⟩
 rintro φ w S v ⟨a,rfl⟩
 exact ik.slice [] a 0 0 0 0 (λ_ _=>undef) (by simp) (by simp) (by simp) (by simp) (by simp) (by simp)
inductive KZ:V->V->Prop
 | c {x y}:r2 x y->KZ (.c x) (.c y)
 | agg {xs ys}:ez r2 xs ys->KZ (.agg xs) (.agg ys)
 | fz (xs ys:List V) (aJ:xs.length=ys.length) (h:∀(i:Nat) x y,xs[i]?=some x->ys[i]?=some y->KZ x y):KZ (.fz xs) (.fz ys)
theorem ez.comp{α β Ju:Type}{R:α->β->Prop}{R':β->Ju->Prop}{aqs:α->Ju->Prop}(h:∀a b c,R a b->R' b c->aqs a c):∀{l:List α} {m:List β} {k:List Ju},ez R l m->ez R' m k->ez aqs l k
 | [],[],[],_,_=>.nil
 | _::_,_::_,_::_,.cons h1 ah,.cons hg hl=>.cons (h _ _ _ h1 hg) (ez.comp h ah hl)
theorem ez.flip{α β:Type}{R:α->β->Prop}{R':β->α->Prop}{l:List α}{m:List β}(h:ez R l m)(k:∀a b,R a b->R' b a):ez R' m l:=by
 induction h with
 | nil=>exact .nil
 | cons h _ ih=>exact .cons (k _ _ h) ih
theorem atF{n:Nat->Bool}:∀{vs:List V},(∀(i:Nat) v,vs[i]?=some v->v.cx n=true)->V.cx.V.u' n vs=true
 | [],_=>rfl
 | v::vs,h=>by simp only[V.cx.V.u',kc];exact⟨h 0 v rfl,atF λi x aa=>h (i+1) x (by simpa using aa)⟩
theorem KZ.V9{φ:q4}{w:World}{S:r3}{v LG:V}(h:KZ v LG):∀{x},km φ w S v x->km φ w S LG x:=by
 induction h with
 | c h=>intro x aa;cases aa with | c aa=>exact .c (h.1 _ _ _ _ aa)
 | agg h=>
  intro x aa;cases aa with
  | agg aa=>exact .agg (ez.comp (λa b c h1 ah=>h1.1 _ _ _ _ ah) (h.flip (R':=λb a=>r2 a b) λ_ _ h=>h) aa)
 | fz xs ys aJ h ih=>
  intro x aa;cases aa with
  | fz _ sJ JH ah=>
   refine .fz _ sJ (by omega) ?_
   grind
theorem KZ.cx{v LG:V}(h:KZ v LG)(n:Nat->Bool):v.cx n=true->LG.cx n=true:=by
 induction h with
 | c h=>intro ai;exact h.2 n ai
 | @agg xs ys h=>
  intro ai;simp only[V.cx,qx]at ai ⊢;intro c ay;obtain⟨i,al,rfl⟩:=K' ay;obtain⟨a,ch,hs⟩:=(h.flip (R':=λb a=>r2 a b) λ_ _ h=>h).get (CJ al);exact hs.2 n (ai a (DJ ch))
 | fz xs ys aJ h ih=>
  intro ai;simp only[V.cx]at ai ⊢;refine atF λi v cJ=>?_
  have al:i < xs.length:=by rw[aJ];exact(pJ.1 cJ).1
  exact ih i _ _ (CJ al) cJ (Vn ai (CJ al))
inductive PV:hE->hE->Prop
 | box {xs ys}:ez r2 xs ys->PV (.box xs) (.box ys)
 | arr {sz es}:PV (.arr sz es) (.arr sz es)
 | same {x}:PV x x
 | h4 {E c vJ}:r2 c vJ->PV (.h4 E c) (.h4 E vJ)
 | k6 {sz es i o c vJ}:r2 c vJ->PV (.k6 sz es i o c) (.k6 sz es i o vJ)
def awD(env env':Env):Prop:=∀k g LG,look env' k=some (g,LG)->∃v,look env k=some (g,v)/\KZ v LG
def Z'(J J':ep):Prop:=∀b hQ,ec J' b=some hQ->∃x,ec J b=some x/\PV x hQ
theorem PV.apy{φ:q4}{w:World}{S:r3}{b:Nat}{x hQ:hE}(h:PV x hQ)(ar:pr φ w S b x):pr φ w S b hQ:=by
 cases h with
 | arr=>exact ar
 | same=>exact ar
 | h4 h=>
  obtain⟨h0,⟨p,v,h1,ah,bJ⟩,ea⟩:=ar;exact⟨h0,⟨p,v,h1,ah,h.1 _ _ _ _ bJ⟩,ea⟩
 | k6 h=>
  obtain⟨h1,⟨vs,E,hg,hl,j2,v,px,mJ⟩,nJ⟩:=ar;exact⟨h1,⟨vs,E,hg,hl,j2,v,px,h.1 _ _ _ _ mJ⟩,nJ⟩
 | box h=>
  obtain⟨h0,vs,E,h1,ah,bJ⟩:=ar;exact⟨h0,vs,E,h1,ez.comp (λa b c h1 ah=>h1.1 _ _ _ _ ah) (h.flip (R':=λb a=>r2 a b) λ_ _ h=>h) ah,bJ⟩
theorem PV.cx{x hQ:hE}(h:PV x hQ)(n:Nat->Bool)(ai:x.cx n=true):hQ.cx n=true:=by
 cases h with
 | arr=>exact ai
 | same=>exact ai
 | h4 h=>exact h.2 n ai
 | k6 h=>exact h.2 n ai
 | @box xs ys h=>
  have:=KZ.cx (.agg h) n (by simpa[V.cx,hE.cx]using ai)
  simpa[V.cx,hE.cx]using this
theorem Rel.weaken{cv:Ctx}{φ:q4}{S:r3}{n:Nat->Bool}{a:Act}{w:World}(R:Rel cv nt φ S env J n a w)(he:awD env env')(hs:Z' J J'):Rel cv nt φ S env' J' n a w:=by
 refine⟨⟨λb x aa=>?_,λb hj x y aa b8=>?_,R.hJ.st⟩,λk g v aJ a8=>?_,λk g v aJ a8=>?_,λk g v aJ a8=>?_,λb x aa=>?_,R.size,R.defers,R.ext,λb x aa=>?_,R.fix,R.J7⟩
 . obtain⟨b7,h1,ah⟩:=hs b x aa;exact ah.apy (R.hJ.blk b b7 h1)
 . obtain⟨b7,h1,ah⟩:=hs b x aa;obtain⟨Qx,hg,hl⟩:=hs hj y b8;exact R.hJ.inj b hj b7 Qx h1 hg
 . obtain⟨v0,h1,ah⟩:=he k g v aJ;obtain⟨x,aa,ar⟩:=R.LM k g v0 h1 a8;exact⟨x,aa,ah.V9 ar⟩
 . obtain⟨v0,h1,ah⟩:=he k g v aJ;exact R.MY k g v0 h1 a8
 . obtain⟨v0,h1,ah⟩:=he k g v aJ;exact ah.cx n (R.LL k g v0 h1 a8)
 . obtain⟨b7,h1,ah⟩:=hs b x aa;exact⟨(R.u2 b b7 h1).1,ah.cx n (R.u2 b b7 h1).2⟩
 . obtain⟨b7,h1,ah⟩:=hs b x aa;exact R.own b b7 h1
theorem Conv.weaken(he:awD env env')(hs:Z' J J'):Conv kk N env J N env' J':=λcv nt φ S a w _ R=>⟨φ,S,R.weaken he hs⟩
theorem Rel.ao3{cv:Ctx}{φ:q4}{S:r3}{a:Act}{w:World}(R:Rel cv nt φ S env J (lt N) a w){sz:Nat}(hI:0 < sz)(hk:cv.k <=N):
 Rel cv nt (JV φ N (0,0)) S env (q1 J N (.arr sz [])) (lt (N+1)) a w:=by
 have k9:∀b,lt N b=true->JV φ N (0,0) b=φ b:=by
  intro b ai;simp only[lt,I2]at ai;simp only[JV]
  grind
 have hm:∀b,lt N b=true->lt (N+1) b=true:=λb ai=>avn (by omega) ai
 have jJ:=R.agI k9;have q6:(JV φ N (0,0) N).2=0:=by simp[JV]
 have sK:∀b x,ec (q1 J N (.arr sz [])) b=some x->(b=N/\x= .arr sz [])\/(b≠N/\ec J b=some x):=by
  intro b x aa;rw[o']at aa
  grind
 refine⟨⟨λb x aa=>?_,λb hj x y aa b8 hv h0 yJ=>?_,jJ.hJ.st⟩,jJ.LM,jJ.MY,λk g v aJ a8=>V.MD hm (jJ.LL k g v aJ a8),λb x aa=>?_,jJ.size,jJ.defers,jJ.ext,λb x aa h0=>?_,jJ.fix,λb ai=>by simp only[lt,I2];omega⟩
 . rcases sK b x aa with⟨rfl,rfl⟩ | ⟨_,aa⟩
   . exact⟨by simp,by simp,by simp,hI,λh=>absurd q6 h⟩
   . exact jJ.hJ.blk b x aa
 . rcases sK b x aa with⟨rfl,rfl⟩ | ⟨_,aa⟩
   . exact absurd q6 h0
   . rcases sK hj y b8 with⟨rfl,rfl⟩ | ⟨_,b8⟩
     . exact absurd q6 yJ
     . exact jJ.hJ.inj b hj x y aa b8 hv h0 yJ
 . rcases sK b x aa with⟨rfl,rfl⟩ | ⟨_,aa⟩
   . exact⟨by simp[lt],rfl⟩
   . exact⟨hm b (jJ.u2 b x aa).1,hE.MD hm (jJ.u2 b x aa).2⟩
 . rcases sK b x aa with⟨rfl,rfl⟩ | ⟨_,aa⟩
   . exact absurd q6 h0
   . exact jJ.own b x aa h0
end
inductive c9 where
 | bool
 | int (k:IntKind)
 | str
 | slice (t:c9)
 | nm (n:Nat)
def c9.beq :c9->c9->Bool
 | .bool,.bool=>true
 | .int k,.int ix=>decide (k=ix)
 | .str,.str=>true
 | .slice r,.slice I'=>c9.beq r I'
 | .nm n,.nm m=>Nat.beq n m
 | _,_=>false
theorem c9.beq_eq :∀{a b:c9},c9.beq a b=true->a=b
 | .bool,.bool,_=>rfl
 | .int k,.int ix,h=>by simp[c9.beq]at h;rw[h]
 | .str,.str,_=>rfl
 | .slice r,.slice I',h=>by simp only[c9.beq]at h;rw[c9.beq_eq h]
 | .nm n,.nm m,h=>by simp only[c9.beq]at h;rw[Nat.eq_of_beq_eq_true h]
 | .bool,.int _,h | .bool,.str,h | .bool,.slice _,h | .bool,.nm _,h=>by simp[c9.beq]at h
 | .int _,.bool,h | .int _,.str,h | .int _,.slice _,h | .int _,.nm _,h=>by simp[c9.beq]at h
 | .str,.int _,h | .str,.bool,h | .str,.slice _,h | .str,.nm _,h=>by simp[c9.beq]at h
 | .slice _,.int _,h | .slice _,.str,h | .slice _,.bool,h | .slice _,.nm _,h=>by simp[c9.beq]at h
 | .nm _,.int _,h | .nm _,.str,h | .nm _,.bool,h | .nm _,.slice _,h=>by simp[c9.beq]at h
theorem c9.beq_refl :∀(a:c9),c9.beq a a=true
 | .bool=>rfl
 | .int k=>by simp[c9.beq]
 | .str=>rfl
 | .slice r=>by simp only[c9.beq];exact c9.beq_refl r
 | .nm n=>by simp only[c9.beq];exact agw n
def c9.dec(a b:c9):Decidable (a=b):=
 match h:c9.beq a b with
 | true=>.isTrue (c9.beq_eq h)
 | false=>.isFalse λe=>by rw[e,c9.beq_refl]at h;cases h
def c9.den(D:Nat->Type):c9->Type
 | .bool=>Bool
 | .int _=>Int
 | .str=>List UInt8
 | .slice t=>List (c9.den D t)
 | .nm n=>D n
structure Cell (D:Nat->Type) where
 ty:c9
 val:ty.den D
def Cell.as{D:Nat->Type}(t:c9)(c:Cell D):Option (t.den D):=
 match c9.dec c.ty t with
 | .isTrue h=>some (Eq.rec (motive:=λt _=>c9.den D t) c.val h)
 | .isFalse _=>none
theorem Cell.QQ{D:Nat->Type}{t:c9}{c:Cell D}{x:t.den D}(h:c.as t=some x):c=⟨t,x⟩:=by
 obtain⟨u,v⟩:=c;unfold Cell.as at h;split at h
 . grind
 . cases h
theorem Cell.atu{D:Nat->Type}{t:c9}{x:t.den D}:Cell.as t (⟨t,x⟩:Cell D)=some x:=by
 unfold Cell.as;split
 . rfl
 grind
def anH(D:Nat->Type)(enc:∀n,D n->List T):(t:c9)->t.den D->List T
 | .bool,b=>[.bool b]
 | .int k,n=>[.int k n]
 | .str,s=>[.str s]
 | .slice t,l=>[.slice (List.map (anH D enc t) l)]
 | .nm n,x=>enc n x
def auS(D:Nat->Type)(enc:∀n,D n->List T):Cell D->T
 | ⟨.bool,b⟩=>.bool b
 | ⟨.int k,n⟩=>.int k n
 | ⟨.str,s⟩=>.str s
 | ⟨.slice t,l⟩=>.slice (List.map (anH D enc t) l)
 | ⟨.nm _,_⟩=>.bool false
structure l1 where
 D:Nat->Type
 To:∀n,D n
 Uu:∀n,D n->List (Cell D)
 make:∀n,List (Cell D)->Option (D n)
 q2:Nat->List c9
 enc:∀n,D n->List T
 auT:∀n x,enc n x=(Uu n x).map (auS D enc)
 mk_eq:∀n l x,make n l=some x->Uu n x=l
 ayT:∀n x,(Uu n x).map Cell.ty=q2 n
 pos:∀n,0 < (q2 n).length
 ayS:Nat->Option c9:=λ_=>none
 own:List (List Bool×Nat×c9):=[]
variable {U:l1}
abbrev l1.C(U:l1):=Cell U.D
abbrev c9.d(U:l1)(t:c9):=t.den U.D
def c9.To(U:l1):(t:c9)->t.den U.D
 | .bool=>false
 | .int _=>(0:Int)
 | .str=>([]:List UInt8)
 | .slice t=>([]:List (t.den U.D))
 | .nm n=>U.To n
def c9.agj :c9->Bool
 | .nm _=>true
 | _=>false
def c9.row(U:l1):(t:c9)->t.den U.D->List (Cell U.D)
 | .bool,b=>[⟨.bool,b⟩]
 | .int k,n=>[⟨.int k,n⟩]
 | .str,s=>[⟨.str,s⟩]
 | .slice t,l=>[⟨.slice t,l⟩]
 | .nm n,x=>U.Uu n x
def c9.cells(U:l1):c9->List c9
 | .nm n=>U.q2 n
 | t=>[t]
def c9.sz(U:l1)(t:c9):Nat:=(t.cells U).length
def OU(U:l1)(t:c9):List (Cell U.D)->Option (t.den U.D)
 | [c]=>c.as t
 | _=>none
def c9.mk(U:l1):(t:c9)->List (Cell U.D)->Option (t.den U.D)
 | .nm n,l=>U.make n l
 | .bool,l=>OU U .bool l
 | .int k,l=>OU U (.int k) l
 | .str,l=>OU U .str l
 | .slice t,l=>OU U (.slice t) l
theorem ahy{t:c9}{l:List (Cell U.D)}{x:t.den U.D}(h:OU U t l=some x):l=[⟨t,x⟩]:=by
 unfold OU at h;split at h
 . rw[Cell.QQ h]
 . cases h
def Cell.enc(U:l1)(c:Cell U.D):T:=auS U.D U.enc c
def c9.enc(U:l1)(t:c9)(x:t.den U.D):List T:=anH U.D U.enc t x
theorem c9.acD{t:c9}{x:t.den U.D}:t.enc U x=(t.row U x).map (Cell.enc U):=by
 cases t <;> first | rfl | skip
 case nm n=>exact U.auT n x
theorem c9.aL2{t:c9}{x:t.den U.D}:(t.row U x).map Cell.ty=t.cells U:=by
 cases t <;> first | rfl | skip
 case nm n=>exact U.ayT n x
theorem c9.ayt{t:c9}{x:t.den U.D}:(t.row U x).length=t.sz U:=by
 rw[<-JU (f:=Cell.ty),c9.aL2];rfl
theorem c9.aas{t:c9}{x:t.den U.D}:(t.enc U x).length=t.sz U:=by
 rw[c9.acD,JU,c9.ayt]
theorem c9.adn{t:c9}:0 < t.sz U:=by
 cases t <;> simp[c9.sz,c9.cells]
 exact U.pos _
theorem c9.ao0 :∀{t:c9} {l:List (Cell U.D)} {x:t.den U.D},t.mk U l=some x->t.row U x=l
 | .nm n,l,x,h=>U.mk_eq n l x h
 | .bool,l,x,h=>(ahy (t:= .bool) h).symm
 | .int k,l,x,h=>(ahy (t:= .int k) h).symm
 | .str,l,x,h=>(ahy (t:= .str) h).symm
 | .slice t,l,x,h=>(ahy (t:= .slice t) h).symm
def c9.at(U:l1)(t:c9)(l:List (t.den U.D))(i:Nat):t.den U.D:=l.getD i (t.To U)
theorem aeH{t:c9}{l:List (t.den U.D)}{i:Nat}(h:i < l.length):el (l.map (t.enc U)) i=t.enc U (t.at U l i):=by
 simp[el,c9.at,List.getD,CJ h]
end
section
open Go
variable {U:l1}
inductive ga (U:l1) where
 | t (c:Cell U.D)
 | ptr (b o:Nat)
 | mx (b:Nat) (t:c9) (i o:Nat)
 | vi (t:c9) (x:t.den U.D) (o:Nat)
 | arr (b:Nat)
 | sub (b f' len:Nat)
 | pre (b h:Nat)
 | Ly (b f' len:Nat)
 | mp (b:Nat)
 | y2 (b:Nat)
 | l' (b:Nat)
 | eI
 | I1
 | I0
 | fn (f:Nat) (caps:List Nat)
 | dead
inductive hr (U:l1) where
 | c (x:ga U)
 | agg (cs:List (ga U))
 | fz (vs:List (hr U))
inductive oj (U:l1) where
 | box (cs:List (ga U))
 | arr (t:c9) (l:List (t.den U.D))
 | rows (sz:Nat) (r:List (List (ga U)))
 | set (ks:List (List UInt8))
 | buf (E:Nat) (s:List UInt8)
 | h4 (E:Nat) (c:ga U)
 | k6 (t:c9) (l:List (t.den U.D)) (i o:Nat) (c:ga U)
abbrev hN(U:l1):=List (Nat×hr U)
abbrev fJ(U:l1):=List (Nat×oj U)
abbrev A' :=List (Nat×Nat×Bool)
def er{α:Type}:List (Nat×α)->Nat->Option α
 | [],_=>none
 | (k,x)::r,i=>match Nat.beq k i with
  | true=>some x
  | false=>er r i
def ln{α:Type}:List (Nat×α)->Nat->α->List (Nat×α)
 | [],b,x=>[(b,x)]
 | (k,y)::r,b,x=>match Nat.beq k b with
  | true=>(k,x)::r
  | false=>(k,y)::ln r b x
def dl{α:Type}:List (Nat×α)->Nat->List (Nat×α)
 | [],_=>[]
 | (k,y)::r,b=>match Nat.beq k b with
  | true=>dl r b
  | false=>(k,y)::dl r b
theorem f7{a b:Nat}(h:Nat.beq a b=true):a=b:=Nat.eq_of_beq_eq_true h
theorem M'{a b:Nat}(h:Nat.beq a b=false):a≠b:=λe=>by rw[e,agw]at h;cases h
theorem M7{α:Type}(J:List (Nat×α))(b:Nat)(x:α)(i:Nat):er (ln J b x) i=if b=i then some x else er J i:=by
 induction J with
 | nil=>
  simp only[ln,er];cases h:Nat.beq b i with
  | true=>simp[f7 h]
  | false=>simp[M' h]
 | cons y r ih=>
  obtain⟨k,y⟩:=y;simp only[ln];cases h:Nat.beq k b with
  | true=>
   have:=f7 h;subst this;simp only[er];cases ah:Nat.beq k i with
   | true=>simp[f7 ah]
   | false=>simp[M' ah]
  | false=>
   simp only[er,ih]
   grind
theorem VY{α:Type}(J:List (Nat×α))(b i:Nat):er (dl J b) i=if b=i then none else er J i:=by
 induction J with
 | nil=>simp[dl,er]
 | cons y r ih=>
  obtain⟨k,y⟩:=y;simp only[dl];cases h:Nat.beq k b with
  | true=>
   have:=f7 h;subst this;simp only[er,ih];by_cases ah:k=i
   . grind
   . rw[b' ah,b' ah];cases bJ:Nat.beq k i with
     | true=>exact absurd (f7 bJ) ah
     | false=>rfl
  | false=>
   simp only[er,ih]
   grind
def akm :C->Option (ga U)
 | .t (.bool b)=>some (.t ⟨.bool,b⟩)
 | .t (.int k n)=>some (.t ⟨.int k,n⟩)
 | .t (.str s)=>some (.t ⟨.str,s⟩)
 | .eI=>some .eI
 | .I1=>some .I1
 | .I0=>some .I0
 | .dead=>some .dead
 | .fn f []=>some (.fn f [])
 | _=>none
def Wh :List C->Option (List (ga U))
 | []=>some []
 | c::cs=>match akm c,Wh cs with
  | some x,some xs=>some (x::xs)
  | _,_=>none
def adv :V->Option (hr U)
 | .c x=>match akm x with
  | some y=>some (.c y)
  | none=>none
 | .agg cs=>match Wh cs with
  | some ys=>some (.agg ys)
  | none=>none
 | .fz _=>none
def adl(gl:A'):Nat->Option (Nat×Bool)->Nat->Bool
 | 0,_,_=>false
 | NS+1,gd,k=>match er gl k with
  | none=>true
  | some LN=>match gd with
   | none=>false
   | some g=>(Nat.beq g.1 LN.1 && (g.2==LN.2)) || adl gl NS (er gl g.1) k
def Jl(env:hN U)(t:Nat)(b:Bool):Option Bool:=
 match er env t with
 | some (.c (.t ⟨.bool,x⟩))=>some (match b with | true=>x | false=>!x)
 | _=>none
def RU(gl:A')(env:hN U):Nat->Option (Nat×Bool)->Option Bool
 | _,none=>some true
 | 0,some _=>none
 | NS+1,some (t,b)=>match RU gl env NS (er gl t),Jl env t b with
  | some x,some y=>some (x && y)
  | _,_=>none
def YK :Nat:=200
def q3(gl:A')(gd:Option (Nat×Bool))(env:hN U):dJ->Option (hr U)
 | .const v=>adv v
 | .tmp k=>match adl gl YK gd k with
  | true=>er env k
  | false=>none
def akn(gl:A')(gd:Option (Nat×Bool))(env:hN U)(c:dJ)(b:Bool):dJ->Option (hr U)
 | .const v=>adv v
 | .tmp k=>match adl gl YK gd k with
  | true=>er env k
  | false=>match c,er gl k with
   | .tmp ax3,some (t,hj)=>match Nat.beq t ax3 && (hj==b)with
    | true=>er env k
    | false=>none
   | _,_=>none
def Qv(gl:A')(gd:Option (Nat×Bool))(env:hN U):List dJ->Option (List (hr U))
 | []=>some []
 | x::r=>match q3 gl gd env x,Qv gl gd env r with
  | some v,some vs=>some (v::vs)
  | _,_=>none
def WI :hr U->Option (List (ga U))
 | .c x=>some [x]
 | .agg cs=>some cs
 | .fz _=>none
def adu(cells:List (ga U))(off:Nat)(cs:List (ga U)):List (ga U):=cells.take off++cs++cells.drop (off+cs.length)
def aeI(gl:A')(gd:Option (Nat×Bool))(env:hN U):List (ga U)->List (Nat×Nat×dJ)->Option (List (ga U))
 | cells,[]=>some cells
 | cells,(off,n,x)::r=>match q3 gl gd env x with
  | none=>none
  | some v=>match WI v with
   | none=>none
   | some cs=>match Nat.beq cs.length n && Nat.ble (off+n) cells.length with
    | true=>aeI gl gd env (adu cells off cs) r
    | false=>none
def ga.toT :ga U->Option T
 | .t c=>match c.ty.agj with
  | true=>none
  | false=>some (c.enc U)
 | .eI=>some (.slice [])
 | _=>none
def Nh :List (ga U)->Option (List T)
 | []=>some []
 | c::cs=>match c.toT,Nh cs with
  | some t,some ts=>some (t::ts)
  | _,_=>none
def ach(gl:A')(gd:Option (Nat×Bool))(env:hN U)(sz:Nat):List (List (ga U))->List (Nat×dJ)->Option (List (List (ga U)))
 | rows,[]=>some rows
 | rows,(i,x)::r=>match q3 gl gd env x with
  | none=>none
  | some v=>match WI v with
   | none=>none
   | some cs=>match Nh cs with
    | none=>none
    | some _=>match Nat.beq cs.length sz && Nat.ble (i+1) rows.length with
     | true=>ach gl gd env sz (rows.set i cs) r
     | false=>none
inductive JX (U:l1) where
 | ty (t:c9) (l:List (t.den U.D))
 | rows (r:List (List (ga U)))
 | nil
def JX.len :JX U->Nat
 | .ty _ l=>l.length
 | .rows r=>r.length
 | .nil=>0
def N9 :List c9->List (ga U)->Option (List (Cell U.D))
 | [],[]=>some []
 | t::ts,.t c::cs=>match N9 ts cs with
  | some l=>some (c::l)
  | none=>none
 | .slice t::ts,.eI::cs=>match N9 ts cs with
  | some l=>some (⟨.slice t,([]:List (t.den U.D))⟩::l)
  | none=>none
 | _,_=>none
def XT(U:l1)(t:c9)(cs:List (ga U)):Option (t.den U.D):=
 match N9 (t.cells U) cs with
 | some l=>t.mk U l
 | none=>none
def TR(U:l1)(t:c9):List (List (ga U))->Option (List (t.den U.D))
 | []=>some []
 | r::rs=>match XT U t r,TR U t rs with
  | some x,some xs=>some (x::xs)
  | _,_=>none
def JX.as(t:c9):JX U->Option (List (t.den U.D))
 | .ty u l=>Cell.as (.slice t) ⟨.slice u,l⟩
 | .rows r=>TR U t r
 | .nil=>some []
def JX.join :JX U->JX U->Option (JX U)
 | .nil,y=>some y
 | .ty t l,y=>match y.as t with
  | some Jg=>some (.ty t (l++Jg))
  | none=>none
 | .rows r,.ty t l=>match TR U t r with
  | some Qi=>some (.ty t (Qi++l))
  | none=>none
 | .rows r,.rows I'=>some (.rows (r++I'))
 | .rows r,.nil=>some (.rows r)
def JX.blk(sz:Nat):JX U->Option (oj U)
 | .ty t l=>match Nat.beq (t.sz U) sz with
  | true=>some (.arr t l)
  | false=>none
 | .rows r=>match r.all λx=>Nat.beq x.length sz with
  | true=>some (.rows sz r)
  | false=>none
 | .nil=>some (.rows sz [])
def Zl(J:fJ U):hr U->Option (JX U×Option Nat)
 | .c (.t ⟨.slice t,l⟩)=>some (.ty t l,none)
 | .c .eI=>some (.nil,none)
 | .c (.arr b)=>match er J b with
  | some (.arr t l)=>some (.ty t l,some b)
  | some (.rows _ r)=>some (.rows r,some b)
  | _=>none
 | _=>none
def oj.rz :oj U->Option (Nat×Nat)
 | .box _=>none
 | .arr t l=>some (t.sz U,l.length)
 | .rows sz r=>some (sz,r.length)
 | .set _=>none
 | .buf _ s=>some (1,s.length)
 | .h4 _ _=>none
 | .k6 t l _ _ _=>some (t.sz U,l.length)
def ay7(J:fJ U)(b sz:Nat):Bool:=
 match er J b with
 | some x=>(match x.rz with | some p=>Nat.beq p.1 sz | none=>false)
 | none=>false
def room(bytes n:Nat):Bool:=decide ((2*n+192)*bytes<=Pz) && decide (n<=Jf)
def ay3 :BinOp->IntKind->IntKind->Int->Int->Option (Bool×Cell U.D)
 | .add,k,ix,a,b=>if k=ix then some (true,⟨.int k,k.wrap (a+b)⟩)else none
 | .sub,k,ix,a,b=>if k=ix then some (true,⟨.int k,k.wrap (a - b)⟩)else none
 | .mul,k,ix,a,b=>if k=ix then some (true,⟨.int k,k.wrap (a*b)⟩)else none
 | .quo,k,ix,a,b=>if k=ix then some (!decide (b=0),⟨.int k,k.wrap (a.tdiv b)⟩)else none
 | .rem,k,ix,a,b=>if k=ix then some (!decide (b=0),⟨.int k,a.tmod b⟩)else none
 | .and,k,ix,a,b=>if k=ix then some (true,⟨.int k,k.wrap (BitVec.ofInt k.bits a &&& BitVec.ofInt k.bits b).toNat⟩)else none
 | .or,k,ix,a,b=>if k=ix then some (true,⟨.int k,k.wrap (BitVec.ofInt k.bits a ||| BitVec.ofInt k.bits b).toNat⟩)else none
 | .xor,k,ix,a,b=>if k=ix then some (true,⟨.int k,k.wrap (BitVec.ofInt k.bits a ^^^ BitVec.ofInt k.bits b).toNat⟩)else none
 | .andNot,k,ix,a,b=>if k=ix then some (true,⟨.int k,k.wrap (BitVec.ofInt k.bits a &&& ~~~ BitVec.ofInt k.bits b).toNat⟩)else none
 | .shl,k,_,a,b=>some (decide (0<=b),⟨.int k,k.wrap (a*2 ^ min b.toNat k.bits)⟩)
 | .shr,k,_,a,b=>some (decide (0<=b),⟨.int k,a.fdiv (2 ^ min b.toNat k.bits)⟩)
 | .eql,k,ix,a,b=>if k=ix then some (true,⟨.bool,decide (a=b)⟩)else none
 | .neq,k,ix,a,b=>if k=ix then some (true,⟨.bool,!decide (a=b)⟩)else none
 | .lss,k,ix,a,b=>if k=ix then some (true,⟨.bool,decide (a < b)⟩)else none
 | .leq,k,ix,a,b=>if k=ix then some (true,⟨.bool,decide (a<=b)⟩)else none
 | .gtr,k,ix,a,b=>if k=ix then some (true,⟨.bool,decide (b < a)⟩)else none
 | .geq,k,ix,a,b=>if k=ix then some (true,⟨.bool,decide (b<=a)⟩)else none
def ay4 :BinOp->List UInt8->List UInt8->Option (Bool×Cell U.D)
 | .add,a,b=>some (decide (a.length+b.length<=SY),⟨.str,a++b⟩)
 | .eql,a,b=>some (true,⟨.bool,decide (a=b)⟩)
 | .neq,a,b=>some (true,⟨.bool,!decide (a=b)⟩)
 | .lss,a,b=>some (true,⟨.bool,Op.bytesLess a b⟩)
 | .leq,a,b=>some (true,⟨.bool,Op.bytesLess a b || decide (a=b)⟩)
 | .gtr,a,b=>some (true,⟨.bool,!(Op.bytesLess a b || decide (a=b))⟩)
 | .geq,a,b=>some (true,⟨.bool,!(Op.bytesLess a b)⟩)
 | _,_,_=>none
def apU(op:BinOp):Cell U.D->Cell U.D->Option (Bool×Cell U.D)
 | ⟨.int k,a⟩,⟨.int ix,b⟩=>ay3 op k ix a b
 | ⟨.str,a⟩,⟨.str,b⟩=>ay4 op a b
 | _,_=>none
def J0(a b:Bool):Bool:=a==b
def NQ(a b:Int):Bool:=decide (a=b)
def O9(a b:List UInt8):Bool:=decide (a=b)
def eh(m:Int)(n:Nat):Bool:=decide (0<=m) && decide (m.toNat < n)
def aa7(f' al:Int)(n:Nat):Bool:=decide (0<=f') && (decide (f'<=al) && decide (al<=n))
def acu{α:Type}(l:List α)(f' al:Int):List α:=(l.take al.toNat).drop f'.toNat
def Y4(a b:Int):Int:=Max.max a b
def aLB(a b:Int):Int:=Min.min a b
def Vv(s:List UInt8)(m:Int):Int:=((s.getD m.toNat 0).toNat:Int)
def aHW(m:Int):List UInt8:=(Utf8.encode m).data.toList
def We(k:IntKind)(m:Int):Int:=k.wrap m
def amK(a b:List UInt8):List UInt8:=a++b
def apW :Nat->Cell U.D->Cell U.D->Option Bool
 | 0,⟨.bool,a⟩,⟨.bool,b⟩=>some (J0 a b)
 | 1,⟨.int k,a⟩,⟨.int ix,b⟩=>if k=ix then some (NQ a b)else none
 | 2,⟨.str,a⟩,⟨.str,b⟩=>some (O9 a b)
 | _,_,_=>none
def ag5 :List Nat->List (ga U)->List (ga U)->Option Bool
 | [],[],[]=>some true
 | k::ks,.t x::xs,.t y::ys=>match apW k x y,ag5 ks xs ys with
  | some b,some r=>some (b && r)
  | _,_=>none
 | _,_,_=>none
def X'(agg:Bool)(n:Nat)(cs:List (ga U))(o:Nat):Option (hr U):=
 match agg with
 | true=>match Nat.ble (o+n) cs.length with
  | true=>some (.agg ((cs.drop o).take n))
  | false=>none
 | false=>match cs[o]? with
  | some c=>some (.c c)
  | none=>none
def U4(gl:A')(gd:Option (Nat×Bool))(env:hN U):Option dJ->Option (Option Int)
 | none=>some none
 | some x=>match q3 gl gd env x with
  | some (.c (.t ⟨.int _,n⟩))=>some (some n)
  | _=>none
def ag2 :List (hr U)->Option (List Nat)
 | []=>some []
 | .c (.ptr b 0)::r=>match ag2 r with
  | some l=>some (b::l)
  | none=>none
 | _=>none
abbrev azh(U:l1):=Option (Bool×hr U×fJ U)
def Zo(U:l1)(t:c9)(l:List (t.den U.D))(i o:Nat)(cs:List (ga U)):Option (List (t.den U.D)):=
 match XT U t (adu ((t.row U (t.at U l i)).map .t) o cs)with
 | some x=>some (l.set i x)
 | none=>none
def ahb(t:c9):List (ga U)->Option (List (t.den U.D))
 | []=>some []
 | .t c::r=>match c.as t,ahb t r with
  | some x,some l=>some (x::l)
  | _,_=>none
 | _::_=>none
def awF :List (ga U)->Option ((t:c9)×List (t.den U.D))
 | .t c::r=>match c.ty.agj,ahb c.ty (.t c::r)with
  | false,some l=>some ⟨c.ty,l⟩
  | _,_=>none
 | _=>none
def strOf(l:List Int):List UInt8:=l.map λm=>UInt8.ofNat m.toNat
def ayx(f' len n:Nat):Bool:=decide (f'+len<=n)
def aye :List (ga U)->Option (ga U)
 | [.arr b]=>some (.arr b)
 | _=>none
def k0(gl:A')(gd:Option (Nat×Bool))(env:hN U)(J:fJ U)(n:Nat)(o:m'):azh U:=
 match o with
 | .mov x=>match q3 gl gd env x with
  | some v=>some (true,v,J)
  | none=>none
 | .pick c x y=>match q3 gl gd env c,akn gl gd env c true x,akn gl gd env c false y with
  | some (.c (.t ⟨.bool,b⟩)),some (.c (.t ⟨.bool,p⟩)),some (.c (.t ⟨.bool,q⟩))=>some (true,.c (.t ⟨.bool,bif b then p else q⟩),J)
  | _,_,_=>none
 | .alloc cs=>match Wh cs with
  | some xs=>some (true,.c (.ptr n 0),ln J n (.box xs))
  | none=>none
 | .allocA cs=>match Wh cs with
  | some xs=>match awF xs with
   | some ⟨t,l⟩=>some (true,.c (.ptr n 0),ln J n (.arr t l))
   | none=>none
  | none=>none
 | .idxP k x i=>match q3 gl gd env x,q3 gl gd env i with
  | some (.c (.ptr b 0)),some (.c (.t ⟨.int _,m⟩))=>match er J b with
   | some (.arr t _)=>match Nat.beq (t.sz U) 1 with
    | true=>some (eh m k,.c (.mx b t (Int.toNat m) 0),J)
    | false=>none
   | _=>none
  | _,_=>none
 | .slcP k x f' al=>match q3 gl gd env x,U4 gl gd env f',U4 gl gd env al with
  | some (.c (.ptr b 0)),some l,some h=>
   some (aa7 (l.getD 0) (h.getD (k:Int)) k,.c (.sub b (Int.toNat (l.getD 0)) (Int.toNat (h.getD (k:Int)) - Int.toNat (l.getD 0))),J)
  | _,_,_=>none
 | .b2s x=>match q3 gl gd env x with
  | some (.c (.t ⟨.slice (.int .u8),l⟩))=>some (true,.c (.t ⟨.str,strOf l⟩),J)
  | some (.c .eI)=>some (true,.c (.t ⟨.str,[]⟩),J)
  | some (.c (.arr b))=>match er J b with
   | some (.arr (.int .u8) l)=>some (true,.c (.t ⟨.str,strOf l⟩),J)
   | _=>none
  | some (.c (.sub b f' len))=>match er J b with
   | some (.arr (.int .u8) l)=>some (ayx f' len (List.length l),.c (.t ⟨.str,strOf ((l.drop f').take len)⟩),J)
   | _=>none
  | _=>none
 | .allocS e e8=>some (true,.c (.ptr n 0),ln (ln J (n+1) (.buf e8 [])) n (.h4 e (.l' (n+1))))
 | .bsliceT e sz len z parts=>match U.ayS e with
  | none=>none
  | some t=>match Wh z with
   | some sJ=>match Nh sJ with
    | none=>none
    | some _=>match Nat.beq sJ.length sz with
     | false=>none
     | true=>match ach gl gd env sz (List.replicate len sJ) parts with
      | some rows=>match TR U t rows with
       | some l=>some (true,.c (.t ⟨.slice t,l⟩),J)
       | none=>none
      | none=>none
   | none=>none
 | .mkset=>some (true,.c (.mp n),ln J n (.set []))
 | .lkset x k=>match q3 gl gd env x,q3 gl gd env k with
  | some (.c (.mp b)),some (.c (.t ⟨.str,s⟩))=>match er J b with
   | some (.set ks)=>some (true,.c (.t ⟨.bool,OO ks s⟩),J)
   | _=>none
  | _,_=>none
 | .upset x k=>match q3 gl gd env x,q3 gl gd env k with
  | some (.c (.mp b)),some (.c (.t ⟨.str,s⟩))=>match er J b with
   | some (.set ks)=>some (true,.fz [],ln J b (.set (OH ks s)))
   | _=>none
  | _,_=>none
 | .appendB e bytes x y=>match q3 gl gd env x,q3 gl gd env y with
  | some (.c (.l' b)),some (.c (.t ⟨.str,s⟩))=>match er J b with
   | some (.buf qa l)=>match Nat.beq qa e with
    | true=>some (room bytes (List.length l+List.length s),.c (.l' n),ln (dl J b) n (.buf e (amK l s)))
    | false=>none
   | _=>none
  | _,_=>none
 | .sdata x=>match q3 gl gd env x with
  | some (.c (.l' b))=>some (true,.c (.y2 b),J)
  | _=>none
 | .ustr e x k=>match q3 gl gd env x,q3 gl gd env k with
  | some (.c (.y2 b)),some (.c (.t ⟨.int .i64,m⟩))=>match er J b with
   | some (.buf qa l)=>match Nat.beq qa e with
    | true=>some (NQ m (List.length l:Int),.c (.t ⟨.str,l⟩),dl J b)
    | false=>none
   | _=>none
  | _,_=>none
 | .box x=>match q3 gl gd env x with
  | some v=>match WI v with
   | some cs=>some (true,.c (.ptr n 0),ln J n (.box cs))
   | none=>none
  | none=>none
 | .build z parts=>match Wh z with
  | some sJ=>match aeI gl gd env sJ parts with
   | some cs=>some (true,.agg cs,J)
   | none=>none
  | none=>none
 | .bslice sz len z parts=>match Wh z with
  | some sJ=>match Nh sJ with
   | none=>none
   | some _=>match Nat.beq sJ.length sz with
    | false=>none
    | true=>match ach gl gd env sz (List.replicate len sJ) parts with
     | some rows=>some (true,.c (.arr n),ln J n (.rows sz rows))
     | none=>none
  | none=>none
 | .load agg k x=>match q3 gl gd env x with
  | some (.c (.ptr b o))=>match er J b with
   | some (.box cs)=>match X' agg k cs o with
    | some v=>some (true,v,J)
    | none=>none
   | some (.h4 _ c)=>match agg,o with
    | false,1=>some (true,.c c,J)
    | _,_=>none
   | _=>none
  | some (.c (.mx b t i o))=>match er J b with
   | some (.arr Ja l)=>match Cell.as (.slice t) (⟨.slice Ja,l⟩:Cell U.D)with
    | some l=>match X' agg k ((t.row U (t.at U l i)).map .t) o with
     | some v=>some (decide (i < l.length),v,J)
     | none=>none
    | none=>none
   | some (.k6 Ja l qi q5 c)=>match agg with
    | true=>none
    | false=>match Nat.beq o q5 with
     | true=>match Nat.beq (t.sz U) (Ja.sz U)with
      | true=>some (decide (i=qi),.c c,J)
      | false=>none
     | false=>match Cell.as (.slice t) (⟨.slice Ja,l⟩:Cell U.D)with
      | some l=>match X' false k ((t.row U (t.at U l i)).map .t) o with
       | some v=>some (decide (i < l.length),v,J)
       | none=>none
      | none=>none
   | _=>none
  | some (.c (.vi t x o))=>match X' agg k ((t.row U x).map .t) o with
   | some v=>some (true,v,J)
   | none=>none
  | _=>none
 | .store k x v=>match q3 gl gd env x,q3 gl gd env v with
  | some (.c (.ptr b o)),some v=>match WI v with
   | some cs=>match Nat.beq cs.length k with
    | true=>match er J b with
     | some (.box ds)=>match Nat.ble (o+k) ds.length with
      | true=>some (true,.fz [],ln J b (.box (adu ds o cs)))
      | false=>none
     | some (.h4 e _)=>match o,cs with
      | 1,[c]=>some (true,.fz [],ln J b (.h4 e c))
      | _,_=>none
     | _=>none
    | false=>none
   | none=>none
  | some (.c (.mx b t i o)),some v=>match WI v with
   | some cs=>match Nat.beq cs.length k && Nat.ble (o+k) (t.sz U)with
    | true=>match er J b with
     | some (.arr Ja l)=>match Cell.as (.slice t) (⟨.slice Ja,l⟩:Cell U.D)with
      | some l=>match aye cs with
       | some c=>some (decide (i < l.length),.fz [],ln J b (.k6 t l i o c))
       | none=>match Zo U t l i o cs with
        | some Jg=>some (decide (i < l.length),.fz [],ln J b (.arr t Jg))
        | none=>none
      | none=>none
     | some (.k6 Ja l qi q5 K0)=>match cs with
      | [c]=>match Nat.beq o q5 with
       | true=>match Nat.beq (t.sz U) (Ja.sz U)with
        | true=>some (decide (i=qi),.fz [],ln J b (.k6 Ja l qi q5 c))
        | false=>none
       | false=>match Cell.as (.slice t) (⟨.slice Ja,l⟩:Cell U.D)with
        | some l=>match Zo U t l i o [c]with
         | some Jg=>some (decide (i < l.length),.fz [],ln J b (.k6 t Jg qi q5 K0))
         | none=>none
        | none=>none
      | _=>none
     | _=>none
    | false=>none
   | none=>none
  | _,_=>none
 | .nilCheck x=>match q3 gl gd env x with
  | some (.c (.ptr b o))=>some (true,.c (.ptr b o),J)
  | some (.c (.mx b t i o))=>some (true,.c (.mx b t i o),J)
  | some (.c (.vi t x o))=>some (true,.c (.vi t x o),J)
  | _=>none
 | .bin op x y=>match q3 gl gd env x,q3 gl gd env y with
  | some (.c (.t p)),some (.c (.t q))=>match apU op p q with
   | some (c,r)=>some (c,.c (.t r),J)
   | none=>none
  | _,_=>none
 | .eqAgg neg ks x y=>match q3 gl gd env x,q3 gl gd env y with
  | some (.agg p),some (.agg q)=>match ag5 ks p q with
   | some r=>some (true,.c (.t ⟨.bool,match neg with | true=>!r | false=>r⟩),J)
   | none=>none
  | _,_=>none
 | .eqBool neg x y=>match q3 gl gd env x,q3 gl gd env y with
  | some (.c (.t ⟨.bool,p⟩)),some (.c (.t ⟨.bool,q⟩))=>some (true,.c (.t ⟨.bool,match neg with | true=>!(J0 p q) | false=>J0 p q⟩),J)
  | _,_=>none
 | .not x=>match q3 gl gd env x with
  | some (.c (.t ⟨.bool,b⟩))=>some (true,.c (.t ⟨.bool,!b⟩),J)
  | _=>none
 | .conv k x=>match q3 gl gd env x with
  | some (.c (.t ⟨.int _,m⟩))=>some (true,.c (.t ⟨.int k,We k m⟩),J)
  | _=>none
 | .i2s x=>match q3 gl gd env x with
  | some (.c (.t ⟨.int _,m⟩))=>some (true,.c (.t ⟨.str,aHW m⟩),J)
  | _=>none
 | .s2s x=>match q3 gl gd env x with
  | some (.c (.t ⟨.str,s⟩))=>some (true,.c (.t ⟨.str,s⟩),J)
  | _=>none
 | .fldA off x=>match q3 gl gd env x with
  | some (.c (.ptr b o))=>some (true,.c (.ptr b (o+off)),J)
  | some (.c (.mx b t i o))=>some (true,.c (.mx b t i (o+off)),J)
  | some (.c (.vi t x o))=>some (true,.c (.vi t x (o+off)),J)
  | _=>none
 | .fld agg off k x=>match q3 gl gd env x with
  | some (.agg cs)=>match X' agg k cs off with
   | some v=>some (true,v,J)
   | none=>none
  | _=>none
 | .idxA sz x i=>match q3 gl gd env x,q3 gl gd env i with
  | some (.c (.t ⟨.slice t,l⟩)),some (.c (.t ⟨.int _,m⟩))=>match Nat.beq (t.sz U) sz with
   | true=>some (eh m l.length,.c (.vi t (t.at U l (Int.toNat m)) 0),J)
   | false=>none
  | some (.c (.arr b)),some (.c (.t ⟨.int _,m⟩))=>match er J b with
   | some (.arr t l)=>match Nat.beq (t.sz U) sz with
    | true=>some (eh m l.length,.c (.mx b t (Int.toNat m) 0),J)
    | false=>none
   | _=>none
  | _,_=>none
 | .idxS x i=>match q3 gl gd env x,q3 gl gd env i with
  | some (.c (.t ⟨.str,s⟩)),some (.c (.t ⟨.int _,m⟩))=>some (eh m s.length,.c (.t ⟨.int .u8,Vv s m⟩),J)
  | _,_=>none
 | .slcS x f' al=>match q3 gl gd env x,U4 gl gd env f',U4 gl gd env al with
  | some (.c (.t ⟨.str,s⟩)),some l,some h=>
   some (aa7 (l.getD 0) (h.getD (s.length:Int)) s.length,.c (.t ⟨.str,acu s (l.getD 0) (h.getD (s.length:Int))⟩),J)
  | _,_,_=>none
 | .slc sz x f' al=>match q3 gl gd env x,U4 gl gd env f',U4 gl gd env al with
  | some (.c (.t ⟨.slice t,s⟩)),some l,some h=>match Nat.beq (t.sz U) sz with
   | true=>some (aa7 (l.getD 0) (h.getD (s.length:Int)) s.length,.c (.t ⟨.slice t,acu s (l.getD 0) (h.getD (s.length:Int))⟩),J)
   | false=>none
  | some (.c (.arr b)),some none,some h=>match er J b with
   | some (.arr t s)=>match Nat.beq (t.sz U) sz with
    | true=>some (aa7 0 (h.getD (s.length:Int)) s.length,.c (.pre b (Int.toNat (h.getD (s.length:Int)))),J)
    | false=>none
   | _=>none
  | some (.c (.arr b)),some (some f'),some h=>match er J b with
   | some (.arr t s)=>match Nat.beq (t.sz U) sz with
    | true=>some (aa7 f' (h.getD (s.length:Int)) s.length,.c (.Ly b (Int.toNat f') (Int.toNat (h.getD (s.length:Int)) - Int.toNat f')),J)
    | false=>none
   | _=>none
  | _,_,_=>none
 | .slc0 x=>match q3 gl gd env x with
  | some (.c (.t ⟨.slice _,_⟩))=>some (true,.c .eI,J)
  | some (.c .eI)=>some (true,.c .eI,J)
  | some (.c (.arr _))=>some (true,.c .eI,J)
  | _=>none
 | .mkfn f caps=>match Qv gl gd env caps with
  | some vs=>match ag2 vs with
   | some l=>some (true,.c (.fn f l),J)
   | none=>none
  | none=>none
 | .ext x i=>match q3 gl gd env x with
  | some (.fz vs)=>match vs[i]? with
   | some v=>some (true,v,J)
   | none=>none
  | _=>none
 | .len str x=>match str,q3 gl gd env x with
  | true,some (.c (.t ⟨.str,s⟩))=>some (true,.c (.t ⟨.int .i64,(s.length:Int)⟩),J)
  | false,some (.c (.l' b))=>match er J b with
   | some (.buf _ s)=>some (true,.c (.t ⟨.int .i64,(s.length:Int)⟩),J)
   | _=>none
  | false,some v=>match Zl J v with
   | some e=>some (true,.c (.t ⟨.int .i64,(e.1.len:Int)⟩),J)
   | none=>none
  | _,_=>none
 | .append sz bytes x y=>match q3 gl gd env x,q3 gl gd env y with
  | some (.c .eI),some v=>match Zl J v with
   | some (Rm,_)=>match Rm.blk sz with
    | some blk=>some (room bytes Rm.len,.c (.arr n),ln J n blk)
    | none=>none
   | none=>none
  | some (.c (.arr b)),some v=>match Zl J (.c (.arr b)),Zl J v with
   | some (ay5,_),some (Rm,akr)=>match (match akr with | some hj=>Nat.beq hj b | none=>false)with
    | true=>none
    | false=>match ay7 J b sz with
     | false=>none
     | true=>match ay5.join Rm with
      | some ap4=>match ap4.blk sz with
       | some blk=>some (room bytes ap4.len,.c (.arr n),ln (dl J b) n blk)
       | none=>none
      | none=>none
   | _,_=>none
  | some (.c (.pre b h)),some (.c (.Ly hj f' len))=>match Nat.beq b hj with
   | true=>match er J b with
    | some (.arr t l)=>match Nat.beq (t.sz U) sz with
     | true=>some (decide (h+len<=l.length) && decide (f'+len<=l.length),.c (.arr n),ln (dl J b) n (.arr t (l.take h++(l.drop f').take len)))
     | false=>none
    | _=>none
   | false=>none
  | _,_=>none
 | .max2 x y=>match q3 gl gd env x,q3 gl gd env y with
  | some (.c (.t ⟨.int k,a⟩)),some (.c (.t ⟨.int ix,b⟩))=>if k=ix then some (true,.c (.t ⟨.int k,Y4 a b⟩),J)else none
  | _,_=>none
 | .min2 x y=>match q3 gl gd env x,q3 gl gd env y with
  | some (.c (.t ⟨.int k,a⟩)),some (.c (.t ⟨.int ix,b⟩))=>if k=ix then some (true,.c (.t ⟨.int k,aLB a b⟩),J)else none
  | _,_=>none
 | .eqNil .. | .call .. | .Oe .. =>none
end
section
open Go
variable {U:l1}
inductive j' (N:Nat) (J:fJ U):ga U->C->Prop
 | t (c:Cell U.D):j' N J (.t c) (.t (c.enc U))
 | ptr (b o:Nat):j' N J (.ptr b o) (.ptr b o)
 | mx (b:Nat) (t:c9) (i o:Nat):j' N J (.mx b t i o) (.mx b (t.sz U) i o)
 | vi (t:c9) (x:t.den U.D) (o:Nat):j' N J (.vi t x o) (.vi (t.enc U x) o)
 | arr (b sz n:Nat) (ai:b < N) (h:∀x,er J b=some x->∀p,x.rz=some p->p=(sz,n)):j' N J (.arr b) (.arr b sz 0 n)
 | sub (b f' len:Nat):j' N J (.sub b f' len) (.JK b 1 f' len)
 | pre (b sz h:Nat) (ai:b < N) (gA:∀x,er J b=some x->∀p,x.rz=some p->p.1=sz):j' N J (.pre b h) (.arr b sz 0 h)
 | Ly (b sz f' len:Nat) (ai:b < N) (gA:∀x,er J b=some x->∀p,x.rz=some p->p.1=sz):j' N J (.Ly b f' len) (.JK b sz f' len)
 | mp (b:Nat):j' N J (.mp b) (.mp b)
 | y2 (b:Nat):j' N J (.y2 b) (.y2 b)
 | l' (b n:Nat) (ai:b < N) (h:∀x,er J b=some x->∀p,x.rz=some p->p=(1,n)):j' N J (.l' b) (.l' b n)
 | eI:j' N J .eI .eI
 | I1:j' N J .I1 .I1
 | I0:j' N J .I0 .I0
 | fn (f:Nat) (caps:List Nat):j' N J (.fn f caps) (.fn f caps)
 | dead (d:C):j' N J .dead d
inductive h3 (N:Nat) (J:fJ U):hr U->V->Prop
 | c {x d}:j' N J x d->h3 N J (.c x) (.c d)
 | agg {xs ds}:ez (j' N J) xs ds->h3 N J (.agg xs) (.agg ds)
 | fz (xs:List (hr U)) (ds:List V) (aJ:xs.length=ds.length) (h:∀(i:Nat) x d,xs[i]?=some x->ds[i]?=some d->h3 N J x d):h3 N J (.fz xs) (.fz ds)
inductive Nk (N:Nat) (J:fJ U):oj U->hE->Prop
 | box {cs ds}:ez (j' N J) cs ds->Nk N J (.box cs) (.box ds)
 | arr (t:c9) (l:List (t.den U.D)):Nk N J (.arr t l) (.arr (t.sz U) (l.map (t.enc U)))
 | set (ks:List (List UInt8)):Nk N J (.set ks) (.set ks)
 | buf (E:Nat) (s:List UInt8):Nk N J (.buf E s) (.buf E s)
 | h4 {E c d}:j' N J c d->Nk N J (.h4 E c) (.h4 E d)
 | k6 (t:c9) (l:List (t.den U.D)) (i o:Nat) {c d}:j' N J c d->Nk N J (.k6 t l i o c) (.k6 (t.sz U) (l.map (t.enc U)) i o d)
 | rows {sz r es}:ez (λr e=>Nh r=some e) r es->(∀x,x∈r->x.length=sz)->Nk N J (.rows sz r) (.arr sz es)
def ni(N:Nat)(J:fJ U)(J1:ep):Prop:=∀b x,er J b=some x->b < N/\∃y,ec J1 b=some y/\Nk N J x y
def py(N:Nat)(J:fJ U)(G:Nat->Bool)(env:hN U)(env1:Env):Prop:=∀k v,er env k=some v->∃v1,look env1 k=some (G k,v1)/\h3 N J v v1
structure LY (gl:A') (env:hN U) (G:Nat->Bool):Prop where
 free:∀k,er gl k=none->G k=true
 held:∀k t b,er gl k=some (t,b)->∃y,Jl env t b=some y/\G k=(G t && y)
def rm(N:Nat)(J:fJ U)(N':Nat)(J':fJ U):Prop:=N<=N'/\∀b hQ,b < N->er J' b=some hQ->∃x,er J b=some x/\∀p,hQ.rz=some p->x.rz=some p
theorem rm.refl{N:Nat}{J:fJ U}:rm N J N J:=⟨JA _,λ_ x _ h=>⟨x,h,λ_ h=>h⟩⟩
theorem rm.more{N N':Nat}{J:fJ U}(h:N<=N'):rm N J N' J:=⟨h,λ_ x _ h=>⟨x,h,λ_ h=>h⟩⟩
theorem rm.trans{RJ QL adE:Nat}{s1 s2 TP:fJ U}(h:rm RJ s1 QL s2)(k:rm QL s2 adE TP):rm RJ s1 adE TP:=
 ⟨SH h.1 k.1,λb x ai aa=>let⟨y,h1,ah⟩:=k.2 b x (TF ai h.1) aa;let⟨z,bJ,ea⟩:=h.2 b y ai h1;⟨z,bJ,λp a7=>ea p (ah p a7)⟩⟩
section
variable {N N':Nat} {J J':fJ U} {J1:ep} {env:hN U} {env1:Env} {G:Nat->Bool} {gl:A'} {gd:Option (Nat×Bool)}
theorem j'.mono(k:rm N J N' J'){x:ga U}{d:C}(h:j' N J x d):j' N' J' x d:=by
 cases h with
 | t c=>exact .t c
 | ptr b o=>exact .ptr b o
 | mx b t i o=>exact .mx b t i o
 | vi t x o=>exact .vi t x o
 | arr b sz n ai h=>
  refine .arr b sz n (TF ai k.1) λx aa p a7=>?_
  obtain⟨y,h1,ah⟩:=k.2 b x ai aa
  grind
 | sub b f' len=>exact .sub b f' len
 | pre b sz n ai h=>
  refine .pre b sz n (TF ai k.1) λx aa p a7=>?_
  obtain⟨y,h1,ah⟩:=k.2 b x ai aa
  grind
 | Ly b sz f' len ai h=>
  refine .Ly b sz f' len (TF ai k.1) λx aa p a7=>?_
  obtain⟨y,h1,ah⟩:=k.2 b x ai aa;exact h y h1 p (ah p a7)
 | mp b=>exact .mp b
 | y2 b=>exact .y2 b
 | l' b n ai h=>
  refine .l' b n (TF ai k.1) λx aa p a7=>?_
  obtain⟨y,h1,ah⟩:=k.2 b x ai aa
  grind
 | eI=>exact .eI
 | I1=>exact .I1
 | I0=>exact .I0
 | fn f caps=>exact .fn f caps
 | dead d=>exact .dead d
theorem h3.mono(k:rm N J N' J'){x:hr U}{d:V}(h:h3 N J x d):h3 N' J' x d:=by
 induction h with
 | c h=>exact .c (h.mono k)
 | agg h=>exact .agg (h.imp λ_ _ _=>j'.mono k)
 | fz xs ds aJ h ih=>exact .fz xs ds aJ ih
theorem Nk.mono(k:rm N J N' J'){x:oj U}{d:hE}(h:Nk N J x d):Nk N' J' x d:=by
 cases h with
 | box h=>exact .box (h.imp λ_ _ _=>j'.mono k)
 | arr t l=>exact .arr t l
 | set ks=>exact .set ks
 | buf E s=>exact .buf E s
 | h4 h=>exact .h4 (h.mono k)
 | k6 t l i o h=>exact .k6 t l i o (h.mono k)
 | rows h ah=>exact .rows h ah
theorem py.mono(k:rm N J N' J')(h:py N J G env env1):py N' J' G env env1:=λi v al=>let⟨v1,h1,ah⟩:=h i v al;⟨v1,h1,ah.mono k⟩
theorem ni.put(h:ni N J J1){b:Nat}{x:oj U}{y:hE}(ai:b < N')(k:rm N J N' (ln J b x))(ar:Nk N' (ln J b x) x y):ni N' (ln J b x) (q1 J1 b y):=by
 intro c z gA;rw[M7]at gA;rw[o'];by_cases aJR:b=c
 . grind
 . rw[b' aJR]at gA ⊢;obtain⟨h1,Ni,ah,bJ⟩:=h c z gA;exact⟨TF h1 k.1,Ni,ah,bJ.mono k⟩
theorem SU{x:oj U}(h:N<=N'):rm N J N' (ln J N x):=by
 refine⟨h,λb hQ ai aa=>?_⟩;rw[M7,b' (by omega)]at aa
 grind
theorem Vo{b:Nat}{x b7:oj U}(h:N<=N')(h0:er J b=some b7)(a6:∀p,x.rz=some p->b7.rz=some p):rm N J N' (ln J b x):=by
 refine⟨h,λc hQ ai aa=>?_⟩;rw[M7]at aa
 grind
theorem ZA{b:Nat}:rm N J N (dl J b):=by
 refine⟨JA _,λc hQ ai aa=>?_⟩;rw[VY]at aa
 grind
theorem aru{d:C}{x:ga U}(h:akm d=some x):j' N J x d:=by
 unfold akm at h;split at h <;> cases h
 . exact j'.t (U:=U) ⟨.bool,_⟩
 . exact j'.t (U:=U) ⟨.int _,_⟩
 . exact j'.t (U:=U) ⟨.str,_⟩
 . exact .eI
 . exact .I1
 . exact .I0
 . exact .dead _
 . exact .fn _ _
theorem ZY :∀{ds:List C} {xs:List (ga U)},Wh ds=some xs->ez (j' N J) xs ds
 | [],xs,h=>by simp[Wh]at h;subst h;exact .nil
 | d::ds,xs,h=>by
  simp only[Wh]at h;split at h
  . rename_i x ys h1 ah;cases h;exact .cons (aru h1) (ZY ah)
  . cases h
theorem arv{d:V}{x:hr U}(h:adv d=some x):h3 N J x d:=by
 cases d with
 | c d=>
  simp only[adv]at h;split at h
  . rename_i y b8;cases h;exact .c (aru b8)
  . cases h
 | agg ds=>
  simp only[adv]at h;split at h
  . rename_i y b8;cases h;exact .agg (ZY b8)
  . cases h
 | fz _=>simp[adv]at h
def lJ(env:hN U)(G:Nat->Bool):Option (Nat×Bool)->Bool
 | none=>true
 | some (t,b)=>G t && (Jl env t b).getD false
theorem LY.er(a8:LY gl env G)(k:Nat):lJ env G (er gl k)=G k:=by
 cases h:Shv.er gl k with
 | none=>exact(a8.free k h).symm
 | some g=>
  obtain⟨t,b⟩:=g;obtain⟨y,h1,ah⟩:=a8.held k t b h;simp[lJ,h1,ah]
theorem ail(a8:LY gl env G):∀{NS:Nat} {gd:Option (Nat×Bool)} {g:Bool},RU gl env NS gd=some g->g=lJ env G gd
 | _,none,g,h=>by unfold RU at h;simp at h;subst h;rfl
 | 0,some _,g,h=>by simp[RU]at h
 | NS+1,some (t,b),g,h=>by
  simp only[RU]at h;split at h
  . rename_i x y h1 ah;cases h;rw[ail a8 h1,a8.er t];simp[lJ,ah]
  . cases h
theorem aGy :∀{NS:Nat} {t:Nat} {b:Bool} {g:Bool},RU gl env NS (some (t,b))=some g->∃y,Jl env t b=some y
 | 0,t,b,g,h=>by simp[RU]at h
 | NS+1,t,b,g,h=>by
  simp only[RU]at h
  grind
theorem h3.xn{x:ga U}{v1:V}(h:h3 N J (.c x) v1):∃d,v1= .c d/\j' N J x d:=by cases h with | c h=>exact⟨_,rfl,h⟩
theorem h3.aab{xs:List (ga U)}{v1:V}(h:h3 N J (.agg xs) v1):∃ds,v1= .agg ds/\ez (j' N J) xs ds:=by cases h with | agg h=>exact⟨_,rfl,h⟩
theorem h3.adp{c:Cell U.D}{v1:V}(h:h3 N J (.c (.t c)) v1):v1= .c (.t (c.enc U)):=by obtain⟨d,rfl,ak⟩:=h.xn;cases ak;rfl
theorem h3.O8{b:Bool}{v1:V}(h:h3 N J (.c (.t ⟨.bool,b⟩)) v1):v1= .c (.t (.bool b)):=h.adp
theorem h3.K7{k:IntKind}{m:Int}{v1:V}(h:h3 N J (.c (.t ⟨.int k,m⟩)) v1):v1= .c (.t (.int k m)):=h.adp
theorem h3.Qr{s:List UInt8}{v1:V}(h:h3 N J (.c (.t ⟨.str,s⟩)) v1):v1= .c (.t (.str s)):=h.adp
theorem h3.Qq{t:c9}{l:List (t.den U.D)}{v1:V}(h:h3 N J (.c (.t ⟨.slice t,l⟩)) v1):v1= .c (.t (.slice (l.map (t.enc U)))):=h.adp
theorem h3.M8{b o:Nat}{v1:V}(h:h3 N J (.c (.ptr b o)) v1):v1= .c (.ptr b o):=by obtain⟨d,rfl,ak⟩:=h.xn;cases ak;rfl
theorem h3.OK{b i o:Nat}{t:c9}{v1:V}(h:h3 N J (.c (.mx b t i o)) v1):v1= .c (.mx b (t.sz U) i o):=by obtain⟨d,rfl,ak⟩:=h.xn;cases ak;rfl
theorem h3.aoQ{o:Nat}{t:c9}{x:t.den U.D}{v1:V}(h:h3 N J (.c (.vi t x o)) v1):v1= .c (.vi (t.enc U x) o):=by obtain⟨d,rfl,ak⟩:=h.xn;cases ak;rfl
theorem h3.acp{v1:V}(h:h3 N J (.c .eI) v1):v1= .c .eI:=by obtain⟨d,rfl,ak⟩:=h.xn;cases ak;rfl
theorem h3.MB{b:Nat}{v1:V}(h:h3 N J (.c (.arr b)) v1):∃sz n,v1= .c (.arr b sz 0 n)/\b < N/\∀x,Shv.er J b=some x->∀p,x.rz=some p->p=(sz,n):=by
 obtain⟨d,rfl,ak⟩:=h.xn;cases ak with
 | arr _ sz n ai ah=>exact⟨_,_,rfl,ai,ah⟩
theorem h3.ao1{b:Nat}{v1:V}(h:h3 N J (.c (.mp b)) v1):v1= .c (.mp b):=by obtain⟨d,rfl,ak⟩:=h.xn;cases ak;rfl
theorem h3.ayv{b:Nat}{v1:V}(h:h3 N J (.c (.y2 b)) v1):v1= .c (.y2 b):=by obtain⟨d,rfl,ak⟩:=h.xn;cases ak;rfl
theorem h3.aiS{b:Nat}{v1:V}(h:h3 N J (.c (.l' b)) v1):∃n,v1= .c (.l' b n)/\b < N/\∀x,Shv.er J b=some x->∀p,x.rz=some p->p=(1,n):=by
 obtain⟨d,rfl,ak⟩:=h.xn;cases ak with
 | l' _ n ai ah=>exact⟨_,rfl,ai,ah⟩
theorem h3.anJ{f:Nat}{caps:List Nat}{v1:V}(h:h3 N J (.c (.fn f caps)) v1):v1= .c (.fn f caps):=by
 obtain⟨d,rfl,ak⟩:=h.xn;cases ak;rfl
theorem aGz{t:Nat}{b y:Bool}(he:py N J G env env1)(h:Jl env t b=some y):∃x,look env1 t=some (G t,.c (.t (.bool x)))/\y=(x==b):=by
 unfold Jl at h;split at h
 . rename_i x aa;cases h;obtain⟨v1,h1,ah⟩:=he t _ aa;have:=ah.O8
   grind
 . cases h
theorem air(he:py N J G env env1)(h:gd=none\/∃t b y,gd=some (t,b)/\Jl env t b=some y):Ks env1 gd=some (lJ env G gd):=by
 rcases h with rfl | ⟨t,b,y,rfl,h⟩
 . rfl
 . obtain⟨x,h1,rfl⟩:=aGz he h;simp[Ks,h1,lJ,h]
theorem aim(a8:LY gl env G):∀{NS:Nat} {gd:Option (Nat×Bool)} {k:Nat},lJ env G gd=true->adl gl NS gd k=true->G k=true
 | 0,gd,k,_,h=>by simp[adl]at h
 | NS+1,gd,k,a6,h=>by
  simp only[adl]at h;split at h
  . rename_i hk;exact a8.free k hk
  . rename_i LN hk;split at h
    . cases h
    . rename_i g;obtain⟨t,b⟩:=g;obtain⟨Ja,hj⟩:=LN;simp only[OT,kc,Ox]at h;rcases h with⟨h1,ah⟩ | h
      . have:=f7 h1;subst this;subst ah;obtain⟨y,hg,hl⟩:=a8.held k t b hk;simp only[lJ,hg,SG]at a6;rw[hl,a6]
      . refine aim a8 (gd:=Shv.er gl t) ?_ h;rw[a8.er t];simp only[lJ,kc]at a6;exact a6.1
theorem k2(he:py N J G env env1)(a8:LY gl env G){x:dJ}{v:hr U}(h:q3 gl gd env x=some v):
 ∃p v1,x.get env1=some (p,v1)/\h3 N J v v1/\(lJ env G gd=true->p):=by
 cases x with
 | const d=>exact⟨True,d,rfl,arv h,λ_=>trivial⟩
 | tmp k=>
  simp only[q3]at h;split at h
  . rename_i hs;obtain⟨v1,h1,ah⟩:=he k v h;exact⟨_,v1,by simp[dJ.get,h1],ah,λa6=>aim a8 a6 hs⟩
  . cases h
theorem asM(he:py N J G env env1)(a8:LY gl env G){c x:dJ}{b y:Bool}{v Wa:hr U}(ay:q3 gl gd env c=some Wa)(K4:Wa= .c (.t ⟨.bool,y⟩))(h:akn gl gd env c b x=some v):
 ∃p v1,x.get env1=some (p,v1)/\h3 N J v v1/\(lJ env G gd=true->y=b->p):=by
 cases x with
 | const d=>exact⟨True,d,rfl,arv h,λ_ _=>trivial⟩
 | tmp k=>
  simp only[akn]at h;split at h
  . rename_i hs;obtain⟨v1,h1,ah⟩:=he k v h;exact⟨_,v1,by simp[dJ.get,h1],ah,λa6 _=>aim a8 a6 hs⟩
  . split at h
    . rename_i ax3 t hj hk;split at h
      . rename_i ai;simp only[kc,Ox]at ai;obtain⟨h1,rfl⟩:=ai;have:=f7 h1;subst this;obtain⟨v1,h1,ah⟩:=he k v h;refine⟨G k=true,v1,by simp[dJ.get,h1],ah,λa6 b8=>?_⟩;simp only[q3]at ay;split at ay
        . rename_i hs;have aJz:=aim a8 a6 hs;obtain⟨Ni,hg,hl⟩:=a8.held k t hj hk;simp only[Jl,ay,K4]at hg;rw[hl,aJz];subst b8;cases y <;> simp at hg <;> simp[<-hg]
        . cases ay
      . cases h
    . cases h
theorem Zw(he:py N J G env env1)(a8:LY gl env G):∀{xs:List dJ} {vs:List (hr U)},Qv gl gd env xs=some vs ->
 ∃p vs1,MF env1 xs=some (p,vs1)/\ez (h3 N J) vs vs1/\(lJ env G gd=true->p)
 | [],vs,h=>by simp[Qv]at h;subst h;exact⟨True,[],rfl,.nil,λ_=>trivial⟩
 | x::xs,vs,h=>by
  simp only[Qv]at h;split at h
  . rename_i v SN h1 ah;cases h;obtain⟨p,v1,a1,a2,a3⟩:=k2 he a8 h1;obtain⟨q,vs1,b1,b2,b3⟩:=Zw he a8 ah;exact⟨p/\q,v1::vs1,by simp[MF,a1,b1],.cons a2 b2,λa6=>⟨a3 a6,b3 a6⟩⟩
  . cases h
theorem Wt{v:hr U}{v1:V}{cs:List (ga U)}(h:h3 N J v v1)(ay:WI v=some cs):∃ds,WH v1=some ds/\ez (j' N J) cs ds:=by
 cases h with
 | c h=>simp[WI]at ay;subst ay;exact⟨_,rfl,.cons h .nil⟩
 | agg h=>simp[WI]at ay;subst ay;exact⟨_,rfl,h⟩
 | fz=>simp[WI]at ay
theorem ak5{cs L0:List (ga U)}{ds ye:List C}{o:Nat}(h:ez (j' N J) cs ds)(vc:ez (j' N J) L0 ye):ez (j' N J) (adu cs o L0) (Xj ds o ye):=by
 unfold adu Xj;rw[vc.length];exact((h.take o).append vc).append (h.drop _)
theorem NI{a b:Nat}(h:Nat.ble a b=true):a<=b:=ajW h
theorem ar0(he:py N J G env env1)(a8:LY gl env G):∀{ps:List (Nat×Nat×dJ)} {cs L0:List (ga U)} {ds:List C},aeI gl gd env cs ps=some L0 -> ez (j' N J) cs ds ->
 ∃p ye,RF env1 ds ps=some (p,ye)/\ez (j' N J) L0 ye/\(lJ env G gd=true->p)
 | [],cs,L0,ds,h,a6=>by simp[aeI]at h;subst h;exact⟨True,ds,rfl,a6,λ_=>trivial⟩
 | (o,n,x)::r,cs,L0,ds,h,a6=>by
  simp only[aeI]at h;split at h
  . cases h
  . rename_i v cJ;split at h
    . cases h
    . rename_i es C';split at h
      . rename_i ai;simp only[kc]at ai;have J4:=f7 ai.1;have JE:=NI ai.2;obtain⟨p,v1,a1,a2,a3⟩:=k2 he a8 cJ;obtain⟨fs,b1,b2⟩:=Wt a2 C';obtain⟨q,ye,h5,js,yt⟩:=ar0 he a8 h (ak5 (o:=o) a6 b2);refine⟨p/\q,ye,?_,js,λa6=>⟨a3 a6,yt a6⟩⟩;simp only[RF,a1,eg,b1]
        rw[b6 ⟨by rw[<-b2.length];exact J4,by rw[<-a6.length];exact JE⟩,h5];rfl
      . cases h
theorem aFi{x:ga U}{d:C}{t:T}(h:j' N J x d)(ht:x.toT=some t):Shv.toT d=some t:=by
 cases h <;> simp only[ga.toT,reduceCtorEq,hz]at ht
 . split at ht
   . cases ht
   . cases ht;rfl
 . subst ht;rfl
theorem ais :∀{cs:List (ga U)} {ds:List C} {ts:List T},ez (j' N J) cs ds->Nh cs=some ts->toTs ds=some ts
 | [],[],ts,_,h=>by simp[Nh]at h;subst h;rfl
 | c::cs,d::ds,ts,.cons h1 ah,h=>by
  simp only[Nh]at h;split at h
  . rename_i t apO ht JR;cases h;simp[toTs,aFi h1 ht,ais ah JR]
  . cases h
theorem alj :∀{cs:List (ga U)} {ts:List T},Nh cs=some ts->ts.length=cs.length
 | [],ts,h=>by simp[Nh]at h;subst h;rfl
 | c::cs,ts,h=>by
  simp only[Nh]at h;split at h
  . rename_i t apO ht JR;cases h;simp[alj JR]
  . cases h
theorem ez.set{α β:Type}{R:α->β->Prop}{l:List α}{m:List β}(h:ez R l m){i:Nat}{a:α}{b:β}(ze:R a b):ez R (l.set i a) (m.set i b):=by
 induction h generalizing i with
 | nil=>exact .nil
 | cons h1 ah ih=>cases i with
  | zero=>exact .cons ze ah
  | succ i=>exact .cons h1 ih
theorem alF(he:py N J G env env1)(a8:LY gl env G){sz:Nat}:∀{ps:List (Nat×dJ)} {rs agR:List (List (ga U))} {es:List (List T)},ach gl gd env sz rs ps=some agR ->
 ez (λr e=>Nh r=some e) rs es->(∀r,r∈rs->r.length=sz)->∃p es',PC env1 sz es ps=some (p,es')/\ez (λr e=>Nh r=some e) agR es'/\(∀r,r∈agR->r.length=sz)/\(lJ env G gd=true->p)
 | [],rs,agR,es,h,ar,aJ=>by simp[ach]at h;subst h;exact⟨True,es,rfl,ar,aJ,λ_=>trivial⟩
 | (i,x)::ps,rs,agR,es,h,ar,aJ=>by
  simp only[ach]at h;split at h
  . cases h
  . rename_i v cJ;split at h
    . cases h
    . rename_i cs r';split at h
      . cases h
      . rename_i ts JR;split at h
        . rename_i ai;simp only[kc]at ai;have J4:=f7 ai.1;have JE:=NI ai.2;obtain⟨p,v1,a1,a2,a3⟩:=k2 he a8 cJ;obtain⟨ds,b1,b2⟩:=Wt a2 r';obtain⟨q,es',h5,js,Np,yt⟩:=alF he a8 h (ez.set ar JR) (by grind);refine⟨p/\q,es',?_,js,Np,λa6=>⟨a3 a6,yt a6⟩⟩;simp only[PC,a1,eg,b1,ais b2 JR]
          rw[b6 ⟨by rw[alj JR];exact J4,by rw[<-ar.length];omega⟩,h5];rfl
        . cases h
end
end
section
open Go
variable {U:l1}
structure xi (N:Nat) (J:fJ U) (J1:ep) (o:m') (env1:Env) (g c:Bool) (v:hr U) (J':fJ U):Prop where
 val:∃v1,h3 (N+16) J' v v1/\(g=true->c=true->∃p gC,dy o env1 J1 N=some (p,v1,gC)/\p/\ni (N+16) J' gC)
 aNj:rm N J (N+16) J'
 aLD:o.neutral=true->J'=J
section
variable {N N':Nat} {J J':fJ U} {J1:ep} {env:hN U} {env1:Env} {G:Nat->Bool} {gl:A'} {gd:Option (Nat×Bool)} {c:Bool} {v:hr U}
theorem ni.mono(h:ni N J J1)(q6:N<=N'):ni N' J J1:=λb x aa=>
 let⟨h1,y,ah,bJ⟩:=h b x aa;⟨TF h1 q6,y,ah,bJ.mono (rm.more q6)⟩
theorem xi.neutral{o:m'}{g:Bool}(c8:ni N J J1){v1:V}(cJ:h3 N J v v1)(ch:g=true->c=true->∃p,dy o env1 J1 N=some (p,v1,J1)/\p):xi N J J1 o env1 g c v J:=
 ⟨⟨v1,cJ.mono (rm.more (by omega)),λa8 ay=>let⟨p,h1,ah⟩:=ch a8 ay;⟨p,J1,h1,ah,c8.mono (by omega)⟩⟩,rm.more (by omega),λ_=>rfl⟩
theorem xi.store{o:m'}{g:Bool}(g':o.neutral=false)(hk:rm N J (N+16) J'){v1:V}(cJ:h3 (N+16) J' v v1)(ch:g=true->c=true->∃p gC,dy o env1 J1 N=some (p,v1,gC)/\p/\ni (N+16) J' gC):xi N J J1 o env1 g c v J':=
 ⟨⟨v1,cJ,ch⟩,hk,λh=>by rw[g']at h;cases h⟩
theorem abx{agg:Bool}{k o:Nat}{cs:List (ga U)}{ds:List C}(ay:ez (j' N J) cs ds)(h:X' agg k cs o=some v):∃v1,PQ agg k ds o=some v1/\h3 N J v v1:=by
 unfold X' at h;split at h
 . split at h
   . rename_i ai;cases h;refine⟨_,by simp only[PQ,q'];rw[b6 (by rw[<-ay.length];exact NI ai)],.agg ((ay.drop o).take k)⟩
   . cases h
 . split at h
   . rename_i x aa;cases h;obtain⟨d,h1,ah⟩:=ay.get aa;exact⟨_,by simp[PQ,h1],.c ah⟩
   . cases h
theorem ez.map_map{α β Ju ahd:Type}{R:Ju->ahd->Prop}{f:α->Ju}{g:β->ahd}:∀{l:List α} {m:List β},ez (λa b=>R (f a) (g b)) l m->ez R (l.map f) (m.map g)
 | [],[],_=>.nil
 | _::_,_::_,.cons h1 ah=>.cons h1 (ez.map_map ah)
theorem ez.self{α:Type}{R:α->α->Prop}(h:∀a,R a a):∀(l:List α),ez R l l
 | []=>.nil
 | a::l=>.cons (h a) (ez.self h l)
theorem aec{t:c9}{x:t.den U.D}:ez (j' N J) ((t.row U x).map .t) ((t.enc U x).map .t):=by
 rw[c9.acD,ajN];exact ez.map_map (ez.self (R:=λa b=>j' N J (.t a) (.t (b.enc U))) (λc=>j'.t c) _)
theorem amk{agg:Bool}{k o:Nat}{ts:List T}{v:V}(aJ:PQ agg k (ts.map .t) o=some v):loadT agg k ts o=some v:=by
 unfold PQ at aJ;unfold loadT;cases agg with
 | true=>simpa using aJ
 | false=>simpa[Option.map_map]using aJ
theorem aFN{op:BinOp}{p q:Cell U.D}{r:Cell U.D}(h:apU op p q=some (c,r)):∃Lt,RR op (p.enc U) (q.enc U)=some (Lt,r.enc U)/\(c=true->Lt):=by
 unfold apU at h;split at h
 . rename_i k a ix b;show ∃Lt,RR op (.int k a) (.int ix b)=some (Lt,r.enc U)/\(c=true->Lt);cases op <;> simp only[ay3,reduceCtorEq,sr,hz,hy]at h
   all_goals first
    | (obtain⟨rfl,rfl,rfl⟩:=h;exact⟨_,by simp only[RR,q'];rfl,λh=>by simpa using h⟩)
    | (obtain⟨rfl,rfl⟩:=h;exact⟨_,by simp only[RR];rfl,λh=>by simpa using h⟩)
    | (obtain⟨rfl,rfl,rfl⟩:=h;exact⟨_,by simp only[RR,q'];rfl,λh=>trivial⟩)
 . rename_i a b;show ∃Lt,RR op (.str a) (.str b)=some (Lt,r.enc U)/\(c=true->Lt);cases op <;> simp only[ay4,reduceCtorEq,hz,hy]at h
   all_goals first
    | (obtain⟨rfl,rfl⟩:=h;exact⟨_,by simp only[RR];rfl,λh=>by simpa using h⟩)
    | (obtain⟨rfl,rfl⟩:=h;exact⟨_,by simp only[RR];rfl,λh=>trivial⟩)
 . cases h
theorem aFO{k:Nat}{x y:Cell U.D}{b:Bool}(h:apW k x y=some b):ai4 k (x.enc U) (y.enc U)=some b:=by
 unfold apW at h;split at h
 . cases h;rfl
 . simp only[sr,hz]at h;obtain⟨rfl,rfl⟩:=h;show(if _ then _ else _)=_;rw[b6 rfl];rfl
 . cases h;rfl
 . cases h
theorem asj :∀{ks:List Nat} {xs ys:List (ga U)} {ds es:List C} {b:Bool},ag5 ks xs ys=some b->ez (j' N J) xs ds->ez (j' N J) ys es->aat ks ds es=some b
 | [],[],[],[],[],b,h,.nil,.nil=>by simp[ag5]at h;subst h;rfl
 | k::ks,.t x::xs,.t y::ys,d::ds,e::es,b,h,.cons h1 ah,.cons bJ ea=>by
  simp only[ag5]at h;split at h
  . rename_i b1 r ai ar;cases h;cases h1;cases bJ;simp[aat,aFO ai,asj ar ah ea]
  . cases h
theorem aE'{a b:List UInt8}:(amK a b).length=a.length+b.length:=MM
theorem aHX{a b:Int}:NQ a b=true↔a=b:=by simp[NQ]
theorem Z0{m:Int}{n:Nat}:eh m n=true↔0<=m/\m.toNat < n:=by simp[eh]
theorem Ue{f' al:Int}{n:Nat}:aa7 f' al n=true↔0<=f'/\f'<=al/\al<=n:=by simp[aa7]
theorem aG6{t:c9}{s:List (t.den U.D)}{l r:Option Int}{pp pl Lt:Prop}{sz:Nat}{J1:ep}:
 (some (pp/\pl/\Lt/\0<=l.getD 0/\l.getD 0<=r.getD ((List.map (t.enc U) s).length:Int)/\r.getD ((List.map (t.enc U) s).length:Int)<=((List.map (t.enc U) s).length:Int)/\∀e,e∈List.map (t.enc U) s->e.length=sz,
  V.c (C.t (T.slice (((List.map (t.enc U) s).take (r.getD ((List.map (t.enc U) s).length:Int)).toNat).drop (l.getD 0).toNat))),J1):ahe)=
 some (pp/\pl/\Lt/\0<=l.getD 0/\l.getD 0<=r.getD (s.length:Int)/\r.getD (s.length:Int)<=(s.length:Int)/\∀e,e∈List.map (t.enc U) s->e.length=sz,
  V.c (C.t (Cell.enc U ⟨.slice t,acu s (l.getD 0) (r.getD (s.length:Int))⟩)),J1):=by
 have:Cell.enc U ⟨.slice t,acu s (l.getD 0) (r.getD (s.length:Int))⟩=T.slice (List.map (t.enc U) (acu s (l.getD 0) (r.getD (s.length:Int)))):=rfl;rw[this,JU];simp only[acu,ajL,agu]
theorem aG7{α β:Type}{f:α->β}{l:List α}{p:Prop}{J1:ep}:(some (p,V.c (C.t (T.int .i64 ((l.map f).length:Int))),J1):ahe)=some (p,V.c (C.t (.int .i64 (l.length:Int))),J1):=by rw[JU]
theorem aci{α β:Type}{f:α->β}{l:List α}{i:Nat}(h:i < l.length):i < (l.map f).length:=by rw[JU];exact h
theorem ez.replicate{α β:Type}{R:α->β->Prop}{a:α}{b:β}(h:R a b):∀n:Nat,ez R (List.replicate n a) (List.replicate n b)
 | 0=>.nil
 | n+1=>.cons h (ez.replicate h n)
theorem alu :∀{xs:List (ga U)} {q2:List c9} {es:List C} {row:List (Cell U.D)},N9 q2 xs=some row->ez (j' N J) xs es->toTs es=some (row.map (Cell.enc U))
 | [],q2,es,row,h1,ah=>by
  cases ah;cases q2 <;> simp[N9]at h1
  subst h1;rfl
 | y::ys,[],es,row,h1,ah=>by simp[N9]at h1
 | y::ys,ty::q2,_::_,row,h1,.cons ah bJ=>by
  cases ah with
  | t c=>cases ty <;> simp only[N9]at h1 <;> (split at h1 <;> first | (cases h1;done) | (rename_i q ee;cases h1;simp[toTs,toT,alu ee bJ]))
  | eI=>
   cases ty <;> simp only[N9,reduceCtorEq]at h1
   split at h1
   . rename_i q ee;cases h1;simp[toTs,toT,alu ee bJ];rfl
   . cases h1
  | _=>cases ty <;> simp[N9]at h1
theorem aqR{sz:Nat}:∀{ps:List (Nat×dJ)} {es es':List (List T)} {p:Prop},PC env1 sz es ps=some (p,es')->es'.length=es.length
 | [],es,es',p,h=>by simp[PC]at h;rw[h.2]
 | (i,x)::ps,es,es',p,h=>by
  simp only[PC,ha,sr,fr,hy]at h;obtain⟨a,_,cs,_,ts,_,_,b,ai,_,rfl⟩:=h;have:=aqR (p:=b.1) (es':=b.2) ai
  grind
theorem alk{t:c9}{l Jg:List (t.den U.D)}{i o:Nat}{cs:List (ga U)}{ds:List C}(h:Zo U t l i o cs=some Jg)(al:i < l.length)(ay:ez (j' N J) cs ds)(hle:o+cs.length <=t.sz U):
 ∃ts,toTs ds=some ts/\Jg.map (t.enc U)=(l.map (t.enc U)).set i ((el (l.map (t.enc U)) i).take o++ts++(el (l.map (t.enc U)) i).drop (o+cs.length)):=by
 unfold Zo at h;split at h
 . rename_i x aa;cases h;unfold XT at aa;split at aa
   . rename_i row J6;have ar:=c9.ao0 aa;have key:=@alu U N J;have aKU:ez (j' N J) ((t.row U (t.at U l i)).map .t) ((t.enc U (t.at U l i)).map .t):=aec;have aKk:=ak5 (o:=o) aKU ay;have h1:=key J6 aKk
     have aw6:∀{a b:List C} {r:List T},toTs (a++b)=some r->∃p q,toTs a=some p/\toTs b=some q/\r=p++q:=by
      intro a
      induction a with
      | nil=>intro b r h;exact⟨[],r,rfl,h,rfl⟩
      | cons c a ih=>
       intro b r h;simp only[ada,toTs,ha,fr]at h;obtain⟨t0,ajt,aNu,aKQ,rfl⟩:=h;obtain⟨p,q,e',hf,rfl⟩:=ih aKQ;exact⟨t0::p,q,by simp[toTs,ajt,e'],hf,rfl⟩
     have axs:∀(ts:List T),toTs (ts.map .t)=some ts:=by
      intro ts
      induction ts with
      | nil=>rfl
      | cons a ts ih=>simp[toTs,toT,ih]
     unfold Xj at h1;obtain⟨p,q,e',hf,te⟩:=aw6 h1;obtain⟨aj2,Zd,f1,f2,f3⟩:=aw6 e';rw[<-agu,axs]at f1;cases f1;rw[<-ajL,axs]at hf;cases hf;refine⟨Zd,f2,?_⟩;rw[List.map_set,aeH al,c9.acD (x:=x),ar,te,f3,ay.length]
   . cases aa
 . cases h
variable (he:py N J G env env1) (a8:LY gl env G) (c8:ni N J J1)
section
include he a8 c8
theorem aMJ{x:dJ}(h:k0 gl gd env J N (.mov x)=some (c,v,J')):xi N J J1 (.mov x) env1 (lJ env G gd) c v J':=by
 simp only[k0]at h;split at h
 . rename_i w hw;cases h;obtain⟨p,v1,a1,a2,a3⟩:=k2 he a8 hw;exact .neutral c8 a2 λa6 _=>⟨p,by simp[dy,a1],a3 a6⟩
 . cases h
theorem aG8{x y z:dJ}(h:k0 gl gd env J N (.pick x y z)=some (c,v,J')):xi N J J1 (.pick x y z) env1 (lJ env G gd) c v J':=by
 simp only[k0]at h;split at h
 . rename_i b p q h1 ah bJ;cases h;obtain⟨Ql,v1,a1,a2,a3⟩:=k2 he a8 h1;obtain⟨Qm,v2,b1,b2,b3⟩:=asM he a8 h1 rfl ah;obtain⟨aps,v3,h5,js,yt⟩:=asM he a8 h1 rfl bJ;have:=a2.O8;subst this;have:=b2.O8;subst this;have:=js.O8;subst this
   refine .neutral c8 (.c (.t (U:=U) ⟨.bool,_⟩)) λa6 _=>⟨Ql/\(b=true->Qm)/\(b=false->aps),by simp only[dy,a1,b1,h5,eg];rfl,a3 a6,b3 a6,yt a6⟩
 . cases h
theorem aFP{x:dJ}(h:k0 gl gd env J N (.nilCheck x)=some (c,v,J')):xi N J J1 (.nilCheck x) env1 (lJ env G gd) c v J':=by
 simp only[k0]at h;split at h
 . rename_i b o hw;cases h;obtain⟨p,v1,a1,a2,a3⟩:=k2 he a8 hw;have:=a2.M8;subst this;exact .neutral c8 a2 λa6 _=>⟨p,by simp[dy,a1],a3 a6⟩
 . rename_i b t i o hw;cases h;obtain⟨p,v1,a1,a2,a3⟩:=k2 he a8 hw;have:=a2.OK;subst this;exact .neutral c8 a2 λa6 _=>⟨p,by simp[dy,a1],a3 a6⟩
 . rename_i t hQ o hw;cases h;obtain⟨p,v1,a1,a2,a3⟩:=k2 he a8 hw;have:=a2.aoQ;subst this;exact .neutral c8 a2 λa6 _=>⟨p,by simp[dy,a1],a3 a6⟩
 . cases h
theorem aMK{x:dJ}(h:k0 gl gd env J N (.not x)=some (c,v,J')):xi N J J1 (.not x) env1 (lJ env G gd) c v J':=by
 simp only[k0]at h;split at h
 . rename_i b hw;cases h;obtain⟨p,v1,a1,a2,a3⟩:=k2 he a8 hw;have:=a2.O8;subst this;exact .neutral c8 (.c (.t (U:=U) ⟨.bool,_⟩)) λa6 _=>⟨p,by simp[dy,a1];rfl,a3 a6⟩
 . cases h
theorem aG9{k:IntKind}{x:dJ}(h:k0 gl gd env J N (.conv k x)=some (c,v,J')):xi N J J1 (.conv k x) env1 (lJ env G gd) c v J':=by
 simp only[k0]at h;split at h
 . rename_i ix m hw;cases h;obtain⟨p,v1,a1,a2,a3⟩:=k2 he a8 hw;have:=a2.K7;subst this;exact .neutral c8 (.c (.t (U:=U) ⟨.int k,_⟩)) λa6 _=>⟨p,by simp[dy,a1];rfl,a3 a6⟩
 . cases h
theorem aMH{x:dJ}(h:k0 gl gd env J N (.i2s x)=some (c,v,J')):xi N J J1 (.i2s x) env1 (lJ env G gd) c v J':=by
 simp only[k0]at h;split at h
 . rename_i ix m hw;cases h;obtain⟨p,v1,a1,a2,a3⟩:=k2 he a8 hw;have:=a2.K7;subst this;exact .neutral c8 (.c (.t (U:=U) ⟨.str,_⟩)) λa6 _=>⟨p,by simp[dy,a1];rfl,a3 a6⟩
 . cases h
theorem aML{x:dJ}(h:k0 gl gd env J N (.s2s x)=some (c,v,J')):xi N J J1 (.s2s x) env1 (lJ env G gd) c v J':=by
 simp only[k0]at h;split at h
 . rename_i s hw;cases h;obtain⟨p,v1,a1,a2,a3⟩:=k2 he a8 hw;have:=a2.Qr;subst this;exact .neutral c8 a2 λa6 _=>⟨p,by simp[dy,a1],a3 a6⟩
 . cases h
theorem aG'{off:Nat}{x:dJ}(h:k0 gl gd env J N (.fldA off x)=some (c,v,J')):xi N J J1 (.fldA off x) env1 (lJ env G gd) c v J':=by
 simp only[k0]at h;split at h
 . rename_i b o hw;cases h;obtain⟨p,v1,a1,a2,a3⟩:=k2 he a8 hw;have:=a2.M8;subst this;exact .neutral c8 (.c (.ptr _ _)) λa6 _=>⟨p,by simp[dy,a1],a3 a6⟩
 . rename_i b t i o hw;cases h;obtain⟨p,v1,a1,a2,a3⟩:=k2 he a8 hw;have:=a2.OK;subst this;exact .neutral c8 (.c (.mx _ _ _ _)) λa6 _=>⟨p,by simp[dy,a1],a3 a6⟩
 . rename_i t hQ o hw;cases h;obtain⟨p,v1,a1,a2,a3⟩:=k2 he a8 hw;have:=a2.aoQ;subst this;exact .neutral c8 (.c (.vi _ _ _)) λa6 _=>⟨p,by simp[dy,a1],a3 a6⟩
 . cases h
theorem aMG{agg:Bool}{off k:Nat}{x:dJ}(h:k0 gl gd env J N (.fld agg off k x)=some (c,v,J')):xi N J J1 (.fld agg off k x) env1 (lJ env G gd) c v J':=by
 simp only[k0]at h;split at h
 . rename_i cs hw;split at h
   . rename_i w aJ;cases h;obtain⟨p,v1,a1,a2,a3⟩:=k2 he a8 hw;obtain⟨ds,rfl,b2⟩:=a2.aab;obtain⟨v2,h5,js⟩:=abx b2 aJ;exact .neutral c8 js λa6 _=>⟨p,by simp[dy,a1,h5],a3 a6⟩
   . cases h
 . cases h
theorem aHa{agg:Bool}{k:Nat}{x:dJ}(h:k0 gl gd env J N (.load agg k x)=some (c,v,J')):xi N J J1 (.load agg k x) env1 (lJ env G gd) c v J':=by
 simp only[k0]at h;split at h
 . rename_i b o hw;split at h
   . rename_i cs r';split at h
     . rename_i w aJ;cases h;obtain⟨p,v1,a1,a2,a3⟩:=k2 he a8 hw;have:=a2.M8;subst this;obtain⟨_,y,b1,b2⟩:=c8 b _ r';cases b2 with
       | box b2=>
        obtain⟨v2,h5,js⟩:=abx b2 aJ;exact .neutral c8 js λa6 _=>⟨p,by simp[dy,a1,b1,h5],a3 a6⟩
     . cases h
   . rename_i E K0 r';split at h
     . cases h;obtain⟨p,v1,a1,a2,a3⟩:=k2 he a8 hw;have:=a2.M8;subst this;obtain⟨_,y,b1,b2⟩:=c8 b _ r';cases b2 with
       | h4 b2=>exact .neutral c8 (.c b2) λa6 _=>⟨p,by simp[dy,a1,b1],a3 a6⟩
     . cases h
   . cases h
 . rename_i b t i o hw;split at h
   . rename_i Ja Jg r';split at h
     . rename_i l aJ;have e:=Cell.QQ aJ;cases e;split at h
       . rename_i w JH;cases h;obtain⟨p,v1,a1,a2,a3⟩:=k2 he a8 hw;have:=a2.OK;subst this;obtain⟨_,y,b1,b2⟩:=c8 b _ r';cases b2 with
         | arr=>
          obtain⟨v2,h5,js⟩:=abx aec JH;refine .neutral c8 js λa6 ay=>⟨p/\t.sz U=t.sz U/\i < (List.map (t.enc U) l).length,?_,a3 a6,rfl,aci (V3 ay)⟩
          simp only[I2]at ay;have h5:=amk h5;simp only[dy,a1,eg,b1];rw[aeH ay,h5];rfl
       . cases h
     . cases h
   . rename_i Ja Jg qi q5 K0 r';split at h
     . cases h
     . split at h
       . rename_i Jn;split at h
         . rename_i hI;cases h;have Jn:=f7 Jn;have hI:=f7 hI;subst Jn;obtain⟨p,v1,a1,a2,a3⟩:=k2 he a8 hw;have:=a2.OK;subst this;obtain⟨_,y,b1,b2⟩:=c8 b _ r';cases b2 with
           | k6 _ _ _ _ b2=>
            refine .neutral c8 (.c b2) λa6 ay=>⟨p/\t.sz U=Ja.sz U/\i=qi,?_,a3 a6,hI,V3 ay⟩
            simp only[dy,a1,eg,b1];simp
         . cases h
       . rename_i Jn;have Jn:=M' Jn;split at h
         . rename_i l aJ;have e:=Cell.QQ aJ;cases e;split at h
           . rename_i w JH;cases h;obtain⟨p,v1,a1,a2,a3⟩:=k2 he a8 hw;have:=a2.OK;subst this;obtain⟨_,y,b1,b2⟩:=c8 b _ r';cases b2 with
             | k6 _ _ _ _ b2=>
              obtain⟨v2,h5,js⟩:=abx aec JH;refine .neutral c8 js λa6 ay=>⟨p/\t.sz U=t.sz U/\i < (List.map (t.enc U) l).length,?_,a3 a6,rfl,aci (V3 ay)⟩
              simp only[I2]at ay;have h5:=amk h5;simp only[dy,a1,eg,b1];rw[b' (by simp),b' Jn,aeH ay,h5];rfl
           . cases h
         . cases h
   . cases h
 . rename_i t hQ o hw;split at h
   . rename_i w aJ;cases h;obtain⟨p,v1,a1,a2,a3⟩:=k2 he a8 hw;have:=a2.aoQ;subst this;obtain⟨v2,h5,js⟩:=abx aec aJ;have h5:=amk h5;exact .neutral c8 js λa6 _=>⟨p,by simp[dy,a1,h5],a3 a6⟩
   . cases h
 . cases h
theorem aMD{op:BinOp}{x y:dJ}(h:k0 gl gd env J N (.bin op x y)=some (c,v,J')):xi N J J1 (.bin op x y) env1 (lJ env G gd) c v J':=by
 simp only[k0]at h;split at h
 . rename_i p q a7 ee;split at h
   . rename_i vJ r ar;cases h;obtain⟨pp,v1,a1,a2,a3⟩:=k2 he a8 a7;obtain⟨Pv,v2,b1,b2,b3⟩:=k2 he a8 ee;have:=a2.adp;subst this;have:=b2.adp;subst this;obtain⟨Lt,d1,d2⟩:=aFN ar;exact .neutral c8 (.c (.t _)) λa6 ay=>⟨pp/\Pv/\Lt,by simp only[dy,a1,b1,eg,d1];rfl,a3 a6,b3 a6,d2 ay⟩
   . cases h
 . cases h
theorem aHY{neg:Bool}{ks:List Nat}{x y:dJ}(h:k0 gl gd env J N (.eqAgg neg ks x y)=some (c,v,J')):xi N J J1 (.eqAgg neg ks x y) env1 (lJ env G gd) c v J':=by
 simp only[k0]at h;split at h
 . rename_i p q a7 ee;split at h
   . rename_i r ar;cases h;obtain⟨pp,v1,a1,a2,a3⟩:=k2 he a8 a7;obtain⟨Pv,v2,b1,b2,b3⟩:=k2 he a8 ee;obtain⟨ds,rfl,d2⟩:=a2.aab;obtain⟨es,rfl,hf⟩:=b2.aab;have:=asj ar d2 hf;exact .neutral c8 (.c (.t (U:=U) ⟨.bool,_⟩)) λa6 ay=>⟨pp/\Pv,by simp only[dy,a1,b1,eg,this];cases neg <;> rfl,a3 a6,b3 a6⟩
   . cases h
 . cases h
theorem aGA{neg:Bool}{x y:dJ}(h:k0 gl gd env J N (.eqBool neg x y)=some (c,v,J')):xi N J J1 (.eqBool neg x y) env1 (lJ env G gd) c v J':=by
 simp only[k0]at h;split at h
 . rename_i p q a7 ee;cases h;obtain⟨pp,v1,a1,a2,a3⟩:=k2 he a8 a7;obtain⟨Pv,v2,b1,b2,b3⟩:=k2 he a8 ee;have:=a2.O8;subst this;have:=b2.O8;subst this;exact .neutral c8 (.c (.t (U:=U) ⟨.bool,_⟩)) λa6 ay=>⟨pp/\Pv,by simp only[dy,a1,b1,eg];cases neg <;> rfl,a3 a6,b3 a6⟩
 . cases h
theorem aHb{sz:Nat}{x y:dJ}(h:k0 gl gd env J N (.idxA sz x y)=some (c,v,J')):xi N J J1 (.idxA sz x y) env1 (lJ env G gd) c v J':=by
 simp only[k0]at h;split at h
 . rename_i t l k m a7 ee;split at h
   . rename_i hI;have hI:=f7 hI;cases h;obtain⟨pp,v1,a1,a2,a3⟩:=k2 he a8 a7;obtain⟨Pv,v2,b1,b2,b3⟩:=k2 he a8 ee;have:=a2.Qq;subst this;have:=b2.K7;subst this;by_cases ar:eh m (List.length l)=true
     . obtain⟨h1,ah⟩:=Z0.1 ar;refine .neutral c8 (v1:= .c (.vi (el (List.map (t.enc U) l) (Int.toNat m)) 0)) ?_ λa6 ay=>⟨pp/\Pv/\(0:Int)<=m/\Int.toNat m < (List.map (t.enc U) l).length/\(el (List.map (t.enc U) l) (Int.toNat m)).length=sz,by simp only[dy,a1,b1,eg],a3 a6,b3 a6,h1,aci ah,by rw[aeH ah,c9.aas];exact hI⟩
       rw[aeH ah];exact .c (.vi _ _ _)
     . exact .neutral c8 (.c (.vi _ _ _)) λa6 ay=>absurd ay ar
   . cases h
 . rename_i b k m a7 ee;split at h
   . rename_i t l ai;split at h
     . rename_i hI;have hI:=f7 hI;cases h;obtain⟨pp,v1,a1,a2,a3⟩:=k2 he a8 a7;obtain⟨Pv,v2,b1,b2,b3⟩:=k2 he a8 ee;obtain⟨kp,n,rfl,L2,a6⟩:=a2.MB;have:=b2.K7;subst this;have:=a6 _ ai _ rfl;cases this
       refine .neutral c8 (.c (.mx _ _ _ _)) λa6 ay=>⟨pp/\Pv/\(0:Int)<=m/\Int.toNat m < l.length/\sz=t.sz U,?_,a3 a6,b3 a6,(Z0.1 ay).1,(Z0.1 ay).2,hI.symm⟩
       simp only[dy,a1,b1,eg,Jq,hI]
     . cases h
   . cases h
 . cases h
theorem aHc{x y:dJ}(h:k0 gl gd env J N (.idxS x y)=some (c,v,J')):xi N J J1 (.idxS x y) env1 (lJ env G gd) c v J':=by
 simp only[k0]at h;split at h
 . rename_i s k m a7 ee;cases h;obtain⟨pp,v1,a1,a2,a3⟩:=k2 he a8 a7;obtain⟨Pv,v2,b1,b2,b3⟩:=k2 he a8 ee;have:=a2.Qr;subst this;have:=b2.K7;subst this;exact .neutral c8 (.c (.t (U:=U) ⟨.int .u8,_⟩)) λa6 ay=>⟨pp/\Pv/\(0:Int)<=m/\Int.toNat m < List.length s,by simp only[dy,a1,b1,eg];rfl,a3 a6,b3 a6,(Z0.1 ay).1,(Z0.1 ay).2⟩
 . cases h
theorem Wu{x:Option dJ}{l:Option Int}(h:U4 gl gd env x=some l):∃p,PG env1 x=some (p,l)/\(lJ env G gd=true->p):=by
 unfold U4 at h;split at h
 . cases h;exact⟨True,rfl,λ_=>trivial⟩
 . split at h
   . rename_i k n aa;cases h;obtain⟨pp,v1,a1,a2,a3⟩:=k2 he a8 aa;have:=a2.K7;subst this;exact⟨pp,by simp only[PG,a1,eg],a3⟩
   . cases h
theorem aHd{x:dJ}{f' al:Option dJ}(h:k0 gl gd env J N (.slcS x f' al)=some (c,v,J')):xi N J J1 (.slcS x f' al) env1 (lJ env G gd) c v J':=by
 simp only[k0]at h;split at h
 . rename_i s l r a7 aJ ar;cases h;obtain⟨pp,v1,a1,a2,a3⟩:=k2 he a8 a7;obtain⟨pl,L9,IJ⟩:=Wu he a8 c8 aJ;obtain⟨Lt,kJ,pK⟩:=Wu he a8 c8 ar;have:=a2.Qr;subst this
   exact .neutral c8 (.c (.t (U:=U) ⟨.str,_⟩)) λa6 ay=>⟨pp/\pl/\Lt/\0<=l.getD 0/\l.getD 0<=r.getD (List.length s:Int)/\r.getD (List.length s:Int)<=(List.length s:Int),by simp only[dy,a1,L9,kJ,eg];rfl,a3 a6,IJ a6,pK a6,Ue.1 ay⟩
 . cases h
theorem aMM{sz:Nat}{x:dJ}{f' al:Option dJ}(h:k0 gl gd env J N (.slc sz x f' al)=some (c,v,J')):xi N J J1 (.slc sz x f' al) env1 (lJ env G gd) c v J':=by
 simp only[k0]at h;split at h
 . rename_i t s l r a7 aJ ar;split at h
   . rename_i hI;have hI:=f7 hI;cases h;obtain⟨pp,v1,a1,a2,a3⟩:=k2 he a8 a7;obtain⟨pl,L9,IJ⟩:=Wu he a8 c8 aJ;obtain⟨Lt,kJ,pK⟩:=Wu he a8 c8 ar;have:=a2.Qq;subst this
     refine .neutral c8 (.c (.t (U:=U) ⟨.slice t,_⟩)) λa6 ay=>⟨pp/\pl/\Lt/\0<=l.getD 0/\l.getD 0<=r.getD (List.length s:Int)/\r.getD (List.length s:Int)<=(List.length s:Int)/\∀e,e∈List.map (t.enc U) s->e.length=sz,?_,a3 a6,IJ a6,pK a6,(Ue.1 ay).1,(Ue.1 ay).2.1,(Ue.1 ay).2.2,?_⟩
     . simp only[dy,a1,L9,kJ,eg];exact aG6
     . intro e hm;obtain⟨y,_,rfl⟩:=LV.1 hm;rw[c9.aas];exact hI
   . cases h
 . rename_i b r a7 aJ ar;split at h
   . rename_i t s ai;split at h
     . rename_i hI;have hI:=f7 hI;cases h;obtain⟨pp,v1,a1,a2,a3⟩:=k2 he a8 a7;obtain⟨Lt,kJ,pK⟩:=Wu he a8 c8 ar;obtain⟨kp,n,rfl,L2,a6⟩:=a2.MB;have NW:=a6 _ ai (t.sz U,s.length) rfl;simp only[hy]at NW;obtain⟨rfl,rfl⟩:=NW;have L6:f'=none:=by
        cases f' with
        | none=>rfl
        | some x=>simp only[U4]at aJ;split at aJ <;> cases aJ
       subst L6;refine .neutral c8 (.c (.pre b (t.sz U) _ L2 λx aa p a7=>?_)) λJF ay=>⟨pp/\True/\Lt/\0<=(none:Option Int).getD 0/\(none:Option Int).getD 0<=r.getD (List.length s:Int)/\r.getD (List.length s:Int)<=(List.length s:Int)/\sz=t.sz U,?_,a3 JF,trivial,pK JF,(Ue.1 ay).1,(Ue.1 ay).2.1,(Ue.1 ay).2.2,hI.symm⟩
       . grind
       . have aay:PG env1 none=some (True,none):=rfl;simp only[dy,a1,aay,kJ,eg];rfl
     . cases h
   . cases h
 . rename_i b l r a7 aJ ar;split at h
   . rename_i t s ai;split at h
     . rename_i hI;have hI:=f7 hI;cases h;obtain⟨pp,v1,a1,a2,a3⟩:=k2 he a8 a7;obtain⟨pl,L9,IJ⟩:=Wu he a8 c8 aJ;obtain⟨Lt,kJ,pK⟩:=Wu he a8 c8 ar;obtain⟨kp,n,rfl,L2,a6⟩:=a2.MB;have NW:=a6 _ ai (t.sz U,s.length) rfl;simp only[hy]at NW;obtain⟨rfl,rfl⟩:=NW;have L6:f'.isNone=false:=by
        cases f' with
        | none=>simp[U4]at aJ
        | some x=>rfl
       refine .neutral c8 (.c (.Ly b (t.sz U) _ _ L2 λx aa p a7=>?_)) λJF ay=>⟨pp/\pl/\Lt/\0<=(some l:Option Int).getD 0/\(some l:Option Int).getD 0<=r.getD (List.length s:Int)/\r.getD (List.length s:Int)<=(List.length s:Int)/\sz=t.sz U,?_,a3 JF,IJ JF,pK JF,(Ue.1 ay).1,(Ue.1 ay).2.1,(Ue.1 ay).2.2,hI.symm⟩
       . grind
       . simp only[dy,a1,L9,kJ,eg,L6,u1,vv,Jq];rfl
     . cases h
   . cases h
 . cases h
theorem aIA{x:dJ}(h:k0 gl gd env J N (.slc0 x)=some (c,v,J')):xi N J J1 (.slc0 x) env1 (lJ env G gd) c v J':=by
 simp only[k0]at h;split at h
 . rename_i t l hw;cases h;obtain⟨p,v1,a1,a2,a3⟩:=k2 he a8 hw;have:=a2.Qq;subst this;exact .neutral c8 (.c .eI) λa6 _=>⟨p,by simp[dy,a1],a3 a6⟩
 . rename_i hw;cases h;obtain⟨p,v1,a1,a2,a3⟩:=k2 he a8 hw;have:=a2.acp;subst this;exact .neutral c8 (.c .eI) λa6 _=>⟨p,by simp[dy,a1],a3 a6⟩
 . rename_i b hw;cases h;obtain⟨p,v1,a1,a2,a3⟩:=k2 he a8 hw;obtain⟨sz,n,rfl,_⟩:=a2.MB;exact .neutral c8 (.c .eI) λa6 _=>⟨p,by simp[dy,a1],a3 a6⟩
 . cases h
theorem asl :∀{vs:List (hr U)} {ds:List V} {l:List Nat},ag2 vs=some l->ez (h3 N J) vs ds->dy.aag ds=some l
 | [],[],l,h,.nil=>by simp[ag2]at h;subst h;rfl
 | .c (.ptr b 0)::vs,d::ds,l,h,.cons h1 ah=>by
  simp only[ag2]at h;split at h
  . rename_i Jg aJ;cases h;have:=h1.M8;subst this;simp[dy.aag,asl aJ ah]
  . cases h
theorem aIB{f:Nat}{caps:List dJ}(h:k0 gl gd env J N (.mkfn f caps)=some (c,v,J')):xi N J J1 (.mkfn f caps) env1 (lJ env G gd) c v J':=by
 simp only[k0]at h;split at h
 . rename_i vs x0;split at h
   . rename_i l aJ;cases h;obtain⟨p,ds,a1,a2,a3⟩:=Zw he a8 x0;exact .neutral c8 (.c (.fn _ _)) λa6 _=>⟨p,by simp[dy,a1,asl he a8 c8 aJ a2],a3 a6⟩
   . cases h
 . cases h
theorem aMF{x:dJ}{i:Nat}(h:k0 gl gd env J N (.ext x i)=some (c,v,J')):xi N J J1 (.ext x i) env1 (lJ env G gd) c v J':=by
 simp only[k0]at h;split at h
 . rename_i vs x0;split at h
   . rename_i w hw;cases h;obtain⟨p,v1,a1,a2,a3⟩:=k2 he a8 x0;cases a2 with
     | fz _ ds aJ ah=>
      have al:=(pJ.1 hw).1;have a6:=CJ (l:=ds) (i:=i) (by omega);exact .neutral c8 (ah i _ _ hw a6) λa8 _=>⟨p,by simp only[dy,a1,eg,a6,La],a3 a8⟩
   . cases h
 . cases h
theorem aIC{x y:dJ}(h:k0 gl gd env J N (.max2 x y)=some (c,v,J')):xi N J J1 (.max2 x y) env1 (lJ env G gd) c v J':=by
 simp only[k0]at h;split at h
 . rename_i k a ix b a7 ee;simp only[sr,hz,hy]at h;obtain⟨rfl,rfl,rfl,rfl⟩:=h;obtain⟨pp,v1,a1,a2,a3⟩:=k2 he a8 a7;obtain⟨Pv,v2,b1,b2,b3⟩:=k2 he a8 ee;have:=a2.K7;subst this;have:=b2.K7;subst this
   exact .neutral c8 (.c (.t (U:=U) ⟨.int k,_⟩)) λa6 ay=>⟨pp/\Pv,by simp only[dy,a1,b1,eg,q'];rfl,a3 a6,b3 a6⟩
 . cases h
theorem aID{x y:dJ}(h:k0 gl gd env J N (.min2 x y)=some (c,v,J')):xi N J J1 (.min2 x y) env1 (lJ env G gd) c v J':=by
 simp only[k0]at h;split at h
 . rename_i k a ix b a7 ee;simp only[sr,hz,hy]at h;obtain⟨rfl,rfl,rfl,rfl⟩:=h;obtain⟨pp,v1,a1,a2,a3⟩:=k2 he a8 a7;obtain⟨Pv,v2,b1,b2,b3⟩:=k2 he a8 ee;have:=a2.K7;subst this;have:=b2.K7;subst this
   exact .neutral c8 (.c (.t (U:=U) ⟨.int k,_⟩)) λa6 ay=>⟨pp/\Pv,by simp only[dy,a1,b1,eg,q'];rfl,a3 a6,b3 a6⟩
 . cases h
theorem aHZ{z:List C}{parts:List (Nat×Nat×dJ)}(h:k0 gl gd env J N (.build z parts)=some (c,v,J')):xi N J J1 (.build z parts) env1 (lJ env G gd) c v J':=by
 simp only[k0]at h;split at h
 . rename_i sJ gA;split at h
   . rename_i cs r';cases h;obtain⟨p,ds,a1,a2,a3⟩:=ar0 he a8 r' (ZY gA);exact .neutral c8 (.agg a2) λa6 _=>⟨p,by simp[dy,a1],a3 a6⟩
   . cases h
 . cases h
theorem aH0{cs:List C}(h:k0 gl gd env J N (.alloc cs)=some (c,v,J')):xi N J J1 (.alloc cs) env1 (lJ env G gd) c v J':=by
 simp only[k0]at h;split at h
 . rename_i xs Pn;cases h;have k:rm N J (N+16) (ln J N (.box xs)):=SU (by omega);exact .store rfl k (.c (.ptr _ _)) λa6 _=>⟨True,_,rfl,trivial,c8.put (by omega) k (.box (ZY Pn))⟩
 . cases h
theorem aME{x:dJ}(h:k0 gl gd env J N (.box x)=some (c,v,J')):xi N J J1 (.box x) env1 (lJ env G gd) c v J':=by
 simp only[k0]at h;split at h
 . rename_i w hw;split at h
   . rename_i cs r';cases h;obtain⟨p,v1,a1,a2,a3⟩:=k2 he a8 hw;obtain⟨ds,b1,b2⟩:=Wt a2 r';have k:rm N J (N+16) (ln J N (.box cs)):=SU (by omega);exact .store rfl k (.c (.ptr _ _)) λa6 _=>⟨p,_,by simp only[dy,a1,eg,b1,La],a3 a6,c8.put (by omega) k (.box (b2.imp λ_ _ _=>j'.mono k))⟩
   . cases h
 . cases h
theorem aGB{sz len:Nat}{z:List C}{parts:List (Nat×dJ)}(h:k0 gl gd env J N (.bslice sz len z parts)=some (c,v,J')):xi N J J1 (.bslice sz len z parts) env1 (lJ env G gd) c v J':=by
 simp only[k0]at h;split at h
 . rename_i sJ gA;split at h
   . cases h
   . rename_i ts JR;split at h
     . cases h
     . rename_i hI;have hI:=f7 hI;split at h
       . rename_i rows ar;cases h;have aaM:=ZY (N:=N) (J:=J) gA;obtain⟨p,es,a1,a2,a4,a3⟩:=alF he a8 ar (es:=List.replicate len ts) (ez.replicate (R:=λr e=>Nh r=some e) JR len) (by intro r ar;rw[ajS ar];exact hI);have k:rm N J (N+16) (ln J N (.rows sz rows)):=SU (by omega)
         refine .store rfl k (.c (.arr N sz es.length (by omega) ?_)) λa6 _=>⟨p,_,by simp only[dy,ais aaM JR,eg,a1,La];rw[aqR a1,List.length_replicate],a3 a6,c8.put (by omega) k (.rows a2 a4)⟩
         intro x aa q ee;rw[M7,b6 rfl]at aa;cases aa;simp only[oj.rz,hz]at ee;rw[<-ee,a2.length]
       . cases h
 . cases h
omit he a8 c8 in
theorem aFj{ds:List C}{ts:List T}(h:toTs ds=some ts):agH ds=none:=by
 unfold agH;split
 . simp[toTs,toT]at h
 . rfl
omit he a8 c8 in
theorem aGC{J:fJ U}{J1:ep}{v1:V}{w:hr U}{d:V}(h:h3 N J w d)(hw:∀b f' len,w≠.c (.Ly b f' len))(aLa:∀b f' len,w≠.c (.sub b f' len))(aLb:w≠.c .dead):UW v1 d=none:=by
 unfold UW;split
 . cases h with
   | c h=>
    cases h with
    | sub b f' len=>exact absurd rfl (aLa _ _ _)
    | Ly b sz f' len=>exact absurd rfl (hw _ _ _)
    | dead d=>exact absurd rfl aLb
 . rfl
theorem aH1{k:Nat}{x y:dJ}(h:k0 gl gd env J N (.store k x y)=some (c,v,J')):xi N J J1 (.store k x y) env1 (lJ env G gd) c v J':=by
 simp only[k0]at h;split at h
 . rename_i b o w aa b8;split at h
   . rename_i cs r';split at h
     . rename_i hk;have hk:=f7 hk;split at h
       . rename_i ds Q0;split at h
         . rename_i hle;have hle:=NI hle;cases h;obtain⟨p,v1,a1,a2,a3⟩:=k2 he a8 aa;obtain⟨q,v2,b1,b2,b3⟩:=k2 he a8 b8;have:=a2.M8;subst this;obtain⟨es,h5,js⟩:=Wt b2 r';obtain⟨L2,z,d1,d2⟩:=c8 b _ Q0;cases d2 with
           | @box _ fs d2=>
            have HJ:rm N J (N+16) (ln J b (.box (adu ds o cs))):=Vo (by omega) Q0 (λp h=>by simp[oj.rz]at h);refine .store rfl HJ (.fz [] [] rfl (by simp)) λa6 _=>⟨p/\q,_,?_,⟨a3 a6,b3 a6⟩,c8.put (by omega) HJ (.box (ak5 (d2.imp λ_ _ _=>j'.mono HJ) (js.imp λ_ _ _=>j'.mono HJ)))⟩
            simp only[dy,a1,b1,eg,h5];rw[b6 (by rw[<-js.length];exact hk),d1];dsimp only;rw[b6 (by rw[<-d2.length];exact hle)]
         . cases h
       . rename_i E K0 Q0;split at h
         . rename_i K0 _;cases h;obtain⟨p,v1,a1,a2,a3⟩:=k2 he a8 aa;obtain⟨q,v2,b1,b2,b3⟩:=k2 he a8 b8;have:=a2.M8;subst this;obtain⟨es,h5,js⟩:=Wt b2 r';obtain⟨L2,z,d1,d2⟩:=c8 b _ Q0;cases d2 with
           | h4 d2=>
            cases js with | cons js yt=>
            cases yt;have HJ:rm N J (N+16) (ln J b (.h4 E K0)):=Vo (by omega) Q0 (λp h=>by simp[oj.rz]at h);refine .store rfl HJ (.fz [] [] rfl (by simp)) λa6 _=>⟨p/\q,_,?_,⟨a3 a6,b3 a6⟩,c8.put (by omega) HJ (.h4 (js.mono HJ))⟩
            simp only[dy,a1,b1,eg,h5]
            grind
         . cases h
       . cases h
     . cases h
   . cases h
 . rename_i b t i o w aa b8;split at h
   . rename_i cs r';split at h
     . rename_i hk;simp only[kc]at hk;have LR:=f7 hk.1;have Pg:=NI hk.2;split at h
       . rename_i Ja Jg MI;split at h
         . rename_i l aJ;have e:=Cell.QQ aJ;cases e;split at h
           . rename_i acv ajp;cases h;obtain⟨rfl,hj,rfl⟩:cs=[acv]/\∃hj,acv= .arr hj:=by
              unfold aye at ajp;split at ajp <;> cases ajp
              exact⟨rfl,_,rfl⟩
             obtain⟨p,v1,a1,a2,a3⟩:=k2 he a8 aa;obtain⟨q,v2,b1,b2,b3⟩:=k2 he a8 b8;have:=a2.OK;subst this;obtain⟨es,h5,js⟩:=Wt b2 r';cases js with | cons js yt=>
             cases yt;have azx:=js;cases js with | arr _ s2 K8 JE aw'=>
             obtain⟨L2,z,d1,d2⟩:=c8 b _ MI;cases d2 with
             | arr=>
              have HJ:rm N J (N+16) (ln J b (.k6 t l i o (.arr hj))):=Vo (by omega) MI (λp h=>by simpa[oj.rz]using h)
              refine .store rfl HJ (.fz [] [] rfl (by simp)) λa6 ay=>⟨p/\q/\t.sz U=t.sz U/\i < (List.map (t.enc U) l).length/\o+k<=t.sz U,_,?_,⟨a3 a6,b3 a6,rfl,aci (V3 ay),Pg⟩,c8.put (by omega) HJ (.k6 t l i o (azx.mono HJ))⟩
              simp only[dy,a1,b1,eg,h5];rw[b6 (by simpa using LR)];simp only[d1,agH]
           rename_i ajp;split at h
           . rename_i IJ JH;cases h;obtain⟨p,v1,a1,a2,a3⟩:=k2 he a8 aa;obtain⟨q,v2,b1,b2,b3⟩:=k2 he a8 b8;have:=a2.OK;subst this;obtain⟨es,h5,js⟩:=Wt b2 r';obtain⟨L2,z,d1,d2⟩:=c8 b _ MI;cases d2 with
             | arr=>
              have hlen:IJ.length=List.length l:=by
               unfold Zo at JH
               grind
              have HJ:rm N J (N+16) (ln J b (.arr t IJ)):=Vo (by omega) MI (λp h=>by
               simp only[oj.rz]at h ⊢
               grind)
              refine .store rfl HJ (.fz [] [] rfl (by simp)) λa6 ay=>?_
              have al:i < List.length l:=V3 ay;obtain⟨ts,e',hf⟩:=alk JH al js (by rw[LR];exact Pg);refine⟨p/\q/\t.sz U=t.sz U/\i < (List.map (t.enc U) l).length/\o+k<=t.sz U,_,?_,⟨a3 a6,b3 a6,rfl,aci al,Pg⟩,c8.put (by omega) HJ (.arr t IJ)⟩;simp only[dy,a1,b1,eg,h5];rw[b6 (by rw[<-js.length];exact LR),d1]
              dsimp only;rw[aFj e']
              grind
           . cases h
         . cases h
       . rename_i Ja Jg qi q5 K0 MI;split at h
         . rename_i acv;split at h
           . rename_i Jn;split at h
             . rename_i hI;cases h;have Jn:=f7 Jn;have hI:=f7 hI;subst Jn;obtain⟨p,v1,a1,a2,a3⟩:=k2 he a8 aa;obtain⟨q,v2,b1,b2,b3⟩:=k2 he a8 b8;have:=a2.OK;subst this;obtain⟨es,h5,js⟩:=Wt b2 r';cases js with | cons js yt=>
               cases yt;obtain⟨L2,z,d1,d2⟩:=c8 b _ MI;cases d2 with
               | k6 _ _ _ _ d2=>
                have HJ:rm N J (N+16) (ln J b (.k6 Ja Jg qi o acv)):=Vo (by omega) MI (λp h=>by simpa[oj.rz]using h);refine .store rfl HJ (.fz [] [] rfl (by simp)) λa6 ay=>⟨p/\q/\t.sz U=Ja.sz U/\i=qi,_,?_,⟨a3 a6,b3 a6,hI,V3 ay⟩,c8.put (by omega) HJ (.k6 Ja Jg qi o (js.mono HJ))⟩
                simp only[dy,a1,b1,eg,h5];rw[b6 (by simpa using LR),d1];dsimp only;rw[b6 rfl]
             . cases h
           . rename_i Jn;have Jn:=M' Jn;split at h
             . rename_i l aJ;have e:=Cell.QQ aJ;cases e;split at h
               . rename_i IJ JH;cases h;obtain⟨p,v1,a1,a2,a3⟩:=k2 he a8 aa;obtain⟨q,v2,b1,b2,b3⟩:=k2 he a8 b8;have:=a2.OK;subst this;obtain⟨es,h5,js⟩:=Wt b2 r';obtain⟨L2,z,d1,d2⟩:=c8 b _ MI;cases d2 with
                 | k6 _ _ _ _ d2=>
                  have hlen:IJ.length=List.length l:=by
                   unfold Zo at JH
                   grind
                  have HJ:rm N J (N+16) (ln J b (.k6 t IJ qi q5 K0)):=Vo (by omega) MI (λp h=>by
                   simp only[oj.rz]at h ⊢
                   grind)
                  refine .store rfl HJ (.fz [] [] rfl (by simp)) λa6 ay=>?_
                  have al:i < List.length l:=V3 ay;obtain⟨ts,e',hf⟩:=alk JH al js (by rw[LR];exact Pg);cases js with | @cons _ atK _ _ js yt=>
                  cases yt;obtain⟨agZ,aoF,aK2⟩:∃agZ,Shv.toT atK=some agZ/\ts=[agZ]:=by
                   simp only[toTs]at e';cases aa:Shv.toT atK with
                   | none=>rw[aa]at e';simp at e'
                   | some agZ=>rw[aa]at e';simp at e';exact⟨agZ,rfl,e'.symm⟩
                  refine⟨p/\q/\t.sz U=t.sz U/\i < (List.map (t.enc U) l).length/\o+k<=t.sz U,_,?_,⟨a3 a6,b3 a6,rfl,aci al,Pg⟩,c8.put (by omega) HJ (.k6 t IJ qi q5 (d2.mono HJ))⟩;simp only[dy,a1,b1,eg,h5];rw[b6 (by simpa using LR),d1];dsimp only;rw[b' Jn,aoF];subst aK2
                  grind
               . cases h
             . cases h
         . cases h
       . cases h
     . cases h
   . cases h
 . cases h
inductive Qy:JX U->List (List T)->Prop
 | ty (t:c9) (l:List (t.den U.D)):Qy (.ty t l) (l.map (t.enc U))
 | rows {r es}:ez (λr e=>Nh r=some e) r es->Qy (.rows r) es
 | nil:Qy .nil []
omit he a8 c8 in
theorem Qy.length{e:JX U}{es:List (List T)}(h:Qy e es):es.length=e.len:=by
 cases h with
 | ty t l=>simp[JX.len]
 | rows h=>simp[JX.len,h.length]
 | nil=>rfl
omit he a8 c8 in
theorem ak6 :∀{xs:List (ga U)} {q2:List c9} {e:List T} {row:List (Cell U.D)},N9 q2 xs=some row->Nh xs=some e->e=row.map (Cell.enc U)
 | [],q2,e,row,h1,ah=>by
  cases q2 <;> simp[N9]at h1
  simp[Nh]at ah
  grind
 | y::ys,[],e,row,h1,ah=>by cases y <;> simp[N9]at h1
 | y::ys,ty::q2,e,row,h1,ah=>by
  simp only[Nh]at ah;split at ah
  . rename_i t ts ht JR;cases ah;cases y with
    | t c=>
     simp only[ga.toT]at ht;split at ht
     . cases ht
     . cases ht;cases ty <;> simp only[N9]at h1 <;> (split at h1 <;> first | (cases h1;done) | (rename_i q ee;cases h1;rw[ak6 ee JR];rfl))
    | eI=>
     simp only[ga.toT,hz]at ht;subst ht;cases ty <;> simp only[N9,reduceCtorEq]at h1
     split at h1
     . rename_i q ee;cases h1;rw[ak6 ee JR];rfl
     . cases h1
    | _=>simp[ga.toT]at ht
  . cases ah
omit he a8 c8 in
theorem aIE{t:c9}{r:List (ga U)}{x:t.den U.D}{e:List T}(h:XT U t r=some x)(he:Nh r=some e):t.enc U x=e:=by
 unfold XT at h;split at h
 . rename_i row J6;rw[c9.acD,c9.ao0 h,ak6 J6 he]
 . cases h
omit he a8 c8 in
theorem ab6{t:c9}:∀{r:List (List (ga U))} {l:List (t.den U.D)} {es:List (List T)},TR U t r=some l->ez (λr e=>Nh r=some e) r es->l.map (t.enc U)=es
 | [],l,es,h,ah=>by cases ah;simp[TR]at h;subst h;rfl
 | r::rs,l,_::_,h,.cons h1 ah=>by
  simp only[TR]at h;split at h
  . rename_i x xs aa Pn;cases h;rw[Q9,aIE aa h1,ab6 Pn ah]
  . cases h
omit he a8 c8 in
theorem Qy.as{t:c9}{e:JX U}{es:List (List T)}{l:List (t.den U.D)}(h:Qy e es)(ch:e.as t=some l):l.map (t.enc U)=es:=by
 cases h with
 | ty u Jg=>
  simp only[JX.as]at ch;have:=Cell.QQ ch
  grind
 | rows h=>exact ab6 ch h
 | nil=>simp[JX.as]at ch;subst ch;rfl
omit he a8 c8 in
theorem Qy.join{x y z:JX U}{es fs:List (List T)}(aa:Qy x es)(b8:Qy y fs)(h:x.join y=some z):Qy z (es++fs):=by
 cases aa with
 | nil=>simp[JX.join]at h;subst h;exact b8
 | ty t l=>
  simp only[JX.join]at h;split at h
  . rename_i Jg aJ;cases h;rw[<-b8.as aJ,<-Za];exact .ty t _
  . cases h
 | rows ar=>
  cases b8 with
  | ty t l=>
   simp only[JX.join]at h;split at h
   . rename_i Jg aJ;cases h;rw[<-ab6 aJ ar,<-Za];exact .ty t _
   . cases h
  | rows Xw=>simp[JX.join]at h;subst h;exact .rows (ar.append Xw)
  | nil=>simp[JX.join]at h;subst h;rw[Q8];exact .rows ar
omit he a8 c8 in
theorem Qy.blk{e:JX U}{es:List (List T)}{sz:Nat}{b:oj U}(h:Qy e es)(ai:e.blk sz=some b):Nk N' J' b (.arr sz es)/\(∀x,x∈es->x.length=sz)/\b.rz=some (sz,e.len):=by
 cases h with
 | ty t l=>
  simp only[JX.blk]at ai;split at ai
  . rename_i hs;have:=f7 hs;subst this;cases ai;refine⟨.arr t l,λx aa=>?_,rfl⟩;obtain⟨y,_,rfl⟩:=LV.1 aa;exact c9.aas
  . cases ai
 | @rows r es ar=>
  simp only[JX.blk]at ai;split at ai
  . rename_i hs;cases ai;simp only[qx]at hs;refine⟨.rows ar λx aa=>f7 (hs x aa),λx aa=>?_,rfl⟩;obtain⟨i,al,rfl⟩:=K' aa;obtain⟨y,h1,ah⟩:=(ar.flip (R':=λe r=>Nh r=some e) λ_ _ h=>h).get (CJ al);rw[alj ah];exact f7 (hs y (DJ h1))
  . cases ai
 | nil=>
  simp only[JX.blk,hz]at ai;subst ai;exact⟨.rows .nil (by simp),by simp,rfl⟩
omit he a8 in
theorem aml{v:hr U}{v1:V}{e:JX U}{ajZ:Option Nat}(cJ:h3 N J v v1)(h:Zl J v=some (e,ajZ)):∃es,TS J1 v1=some (es,ajZ)/\Qy e es:=by
 unfold Zl at h;split at h
 . rename_i t l;cases h;have:=cJ.Qq;subst this;exact⟨_,rfl,.ty t l⟩
 . cases h;have:=cJ.acp;subst this;exact⟨_,rfl,.nil⟩
 . rename_i b;obtain⟨sz,n,rfl,ai,a6⟩:=cJ.MB;split at h
   . rename_i t l aJ;cases h;obtain⟨_,y,h1,ah⟩:=c8 b _ aJ;cases ah;have:=a6 _ aJ _ rfl;cases this;exact⟨_,by simp[TS,h1],.ty t l⟩
   . rename_i kp r aJ;cases h;obtain⟨_,y,h1,ah⟩:=c8 b _ aJ;cases ah with
     | rows ah bJ=>
      have:=a6 _ aJ _ rfl;cases this;exact⟨_,by simp[TS,h1,ah.length],.rows ah⟩
   . cases h
 . cases h
theorem aMI{str:Bool}{x:dJ}(h:k0 gl gd env J N (.len str x)=some (c,v,J')):xi N J J1 (.len str x) env1 (lJ env G gd) c v J':=by
 simp only[k0]at h;split at h
 . rename_i s hw;cases h;obtain⟨p,v1,a1,a2,a3⟩:=k2 he a8 hw;have:=a2.Qr;subst this;exact .neutral c8 (.c (.t (U:=U) ⟨.int .i64,_⟩)) λa6 _=>⟨p,by simp only[dy,a1,eg];rfl,a3 a6⟩
 . rename_i b hw;split at h
   . rename_i E s ai;cases h;obtain⟨p,v1,a1,a2,a3⟩:=k2 he a8 hw;obtain⟨n,rfl,_,JF⟩:=a2.aiS;have:=JF _ ai _ rfl;cases this;exact .neutral c8 (.c (.t (U:=U) ⟨.int .i64,_⟩)) λa6 _=>⟨p,by simp only[dy,a1,eg];rfl,a3 a6⟩
   . cases h
 . rename_i w hw;split at h
   . rename_i e JO;obtain⟨e,ajZ⟩:=e;cases h;obtain⟨p,v1,a1,a2,a3⟩:=k2 he a8 hw;refine .neutral c8 (.c (.t (U:=U) ⟨.int .i64,_⟩)) λa6 _=>⟨p,?_,a3 a6⟩
     unfold Zl at JO;split at JO
     . rename_i t l;cases JO;have:=a2.Qq;subst this;simp only[dy,a1,eg];exact aG7
     . cases JO;have:=a2.acp;subst this;simp only[dy,a1,eg];rfl
     . rename_i b;obtain⟨sz,n,rfl,ai,JF⟩:=a2.MB;simp only[dy,a1,eg];split at JO
       . rename_i t l aJ;cases JO;have:=JF _ aJ _ rfl;cases this;rfl
       . rename_i kp r aJ;cases JO;have:=JF _ aJ _ rfl;cases this;rfl
       . cases JO
     . cases JO
   . cases h
 . cases h
omit he a8 c8 in
theorem ab0{bytes n:Nat}:room bytes n=true↔(2*n+192)*bytes<=Pz/\n<=Jf:=by simp[room]
theorem aGD{sz bytes:Nat}{x y:dJ}(h:k0 gl gd env J N (.append sz bytes x y)=some (c,v,J')):xi N J J1 (.append sz bytes x y) env1 (lJ env G gd) c v J':=by
 simp only[k0]at h;split at h
 . rename_i w aa b8;split at h
   . rename_i Rm ajZ ajz;split at h
     . rename_i blk hblk;cases h;obtain⟨p,v1,a1,a2,a3⟩:=k2 he a8 aa;obtain⟨q,v2,b1,b2,b3⟩:=k2 he a8 b8;have:=a2.acp;subst this;obtain⟨ys,h5,js⟩:=aml c8 b2 ajz;have k:rm N J (N+16) (ln J N blk):=SU (by omega);obtain⟨d1,d2,d3⟩:=js.blk (N':=N+16) (J':=ln J N blk) hblk
       refine .store rfl k (.c (.arr N sz ys.length (by omega) ?_)) λa6 ay=>⟨p/\q/\(∀e,e∈ys->e.length=sz)/\(2*ys.length+192)*bytes<=Pz/\ys.length<=Jf,_,by simp only[dy,a1,b1,eg,show UW (.c .eI) v2=none from rfl,h5],⟨a3 a6,b3 a6,d2,?_⟩,c8.put (by omega) k d1⟩
       . intro x aa r ar;rw[M7,b6 rfl]at aa;cases aa;rw[d3]at ar;cases ar;rw[js.length]
       . rw[js.length];exact ab0.1 ay
     . cases h
   . cases h
 . rename_i b w aa b8;split at h
   . rename_i ay5 xb Rm akr af9 ajz;split at h
     . cases h
     . rename_i aNg;split at h
       . cases h
       . rename_i af';split at h
         . rename_i ap4 aLj;split at h
           . rename_i blk hblk;cases h;obtain⟨p,v1,a1,a2,a3⟩:=k2 he a8 aa;obtain⟨q,v2,b1,b2,b3⟩:=k2 he a8 b8;obtain⟨kp,ML,VW,ai,NW⟩:=a2.MB;subst VW;obtain⟨ys,h5,js⟩:=aml c8 b2 ajz;obtain⟨xs,e',hf⟩:=aml c8 a2 af9;have gA:=hf.join js aLj;have MK:rm N (dl J b) (N+16) (ln (dl J b) N blk):=SU (by omega)
             have k:rm N J (N+16) (ln (dl J b) N blk):=rm.trans ZA MK;obtain⟨d1,d2,d3⟩:=gA.blk (N':=N+16) (J':=ln (dl J b) N blk) hblk
             obtain⟨hs,g'⟩:ec J1 b=some (.arr kp xs)/\ML=xs.length:=by
              simp only[TS]at e'
              grind
             have aK0:kp=sz:=by
              unfold ay7 at af';split at af'
              . rename_i z gA;split at af'
                . rename_i r ar;have:=NW _ gA _ ar;simp_all
                . cases af'
              . cases af'
             subst aK0;have afA:ni N (dl J b) (NA J1 b):=by
              intro i z gA;rw[VY]at gA;split at gA
              . cases gA
              . rename_i anY;obtain⟨h1,y,ah,bJ⟩:=c8 i z gA;exact⟨h1,y,by rw[J8,b' anY];exact ah,bJ.mono ZA⟩
             have aNh:akr≠some b:=by
              intro e;simp_all
             refine .store rfl k (.c (.arr N kp (xs++ys).length (by omega) ?_)) λa6 ay=>⟨p/\q/\kp=kp/\kp=kp/\0=0/\ML=xs.length/\(∀e,e∈ys->e.length=kp)/\(2*(xs.length+ys.length)+192)*bytes<=Pz/\xs.length+ys.length<=Jf,_,?_,⟨a3 a6,b3 a6,rfl,rfl,rfl,g',λe he=>d2 e (by simp[he]),?_⟩,afA.put (by omega) MK d1⟩
             . intro x aa r ar;rw[M7,b6 rfl]at aa;cases aa;rw[d3]at ar;cases ar;rw[gA.length]
             . have aoK:UW (.c (.arr b kp 0 ML)) v2=none:=by
                refine aGC (J1:=J1) b2 ?_ ?_ ?_ <;> (intros;rintro rfl;simp[Zl]at ajz)
               simp only[dy,a1,b1,eg,aoK,h5,hs]
               grind
             . have:=ab0.1 ay;rw[<-gA.length,MM]at this;exact this
           . cases h
         . cases h
   . cases h
 . rename_i b h0 hj f' len aa b8;split at h
   . rename_i Ol;have Ol:=f7 Ol;subst Ol;split at h
     . rename_i t l aJ;split at h
       . rename_i hI;have hI:=f7 hI;cases h;obtain⟨p,v1,a1,a2,a3⟩:=k2 he a8 aa;obtain⟨q,v2,b1,b2,b3⟩:=k2 he a8 b8;cases a2 with | c a2=>
         cases a2 with | pre _ s1 _ J4 aaM=>
         cases b2 with | c b2=>
         cases b2 with | Ly _ s2 _ _ JE agc=>
         have e':=aaM _ aJ _ rfl;have hf:=agc _ aJ _ rfl;dsimp only at e' hf;subst e' hf;obtain⟨L2,z,d1,d2⟩:=c8 b _ aJ;cases d2 with
         | arr=>
          have MK:rm N (dl J b) (N+16) (ln (dl J b) N (.arr t (l.take h0++(l.drop f').take len))):=SU (by omega);have k:rm N J (N+16) (ln (dl J b) N (.arr t (l.take h0++(l.drop f').take len))):=rm.trans ZA MK;have afA:ni N (dl J b) (NA J1 b):=by
           intro i z gA;rw[VY]at gA;split at gA
           . cases gA
           . rename_i anY;obtain⟨h1,y,ah,bJ⟩:=c8 i z gA;exact⟨h1,y,by rw[J8,b' anY];exact ah,bJ.mono ZA⟩
          refine .store rfl k (.c (.arr N (t.sz U) (l.take h0++(l.drop f').take len).length (by omega) ?_)) λa6 ay=>?_
          . intro x aa r ar;rw[M7,b6 rfl]at aa;cases aa;simp only[oj.rz,hz]at ar;exact ar.symm
          . simp only[kc,I2]at ay;have hlen:(l.take h0++(l.drop f').take len).length=h0+len:=by simp;omega
            refine⟨p/\q/\t.sz U=t.sz U/\t.sz U=t.sz U/\t.sz U=t.sz U/\0=0/\h0+len<=(l.map (t.enc U)).length/\f'+len<=(l.map (t.enc U)).length,_,?_,⟨a3 a6,b3 a6,rfl,rfl,rfl,rfl,by simpa using ay.1,by simpa using ay.2⟩,afA.put (by omega) MK (.arr t _)⟩
            have aoK:UW (.c (.arr b (t.sz U) 0 h0)) (.c (.JK b (t.sz U) f' len))=some (b,t.sz U,0,h0,t.sz U,f',len):=by simp[UW]
            simp only[dy,a1,b1,eg,aoK,acn,d1,hlen,Za,agu,ajL];subst hI;simp
       . cases h
     . cases h
   . cases h
 . cases h
omit he a8 c8 in
theorem asm{t:c9}(ht:t.agj=false):∀{xs:List (ga U)} {ds:List C} {l:List (t.den U.D)},ez (j' N J) xs ds->ahb t xs=some l->∃ts,toTs ds=some ts/\ts.map (λx=>[x])=l.map (t.enc U)
 | [],[],l,_,h=>by simp[ahb]at h;subst h;exact⟨[],rfl,rfl⟩
 | x::xs,d::ds,l,.cons h1 ah,h=>by
  unfold ahb at h;split at h
  . grind
  . rename_i c r heq;cases heq;split at h
    . rename_i y m ay hm;cases h;obtain⟨ts,e',hf⟩:=asm ht ah hm;cases h1;have r':=Cell.QQ ay;subst r';refine⟨Cell.enc U ⟨t,y⟩::ts,by simp[toTs,e',toT],?_⟩;rw[Q9,hf,Q9]
      congr 1
      cases t <;> first | rfl | cases ht
    . cases h
  . cases h
theorem aGE{cs:List C}(h:k0 gl gd env J N (.allocA cs)=some (c,v,J')):xi N J J1 (.allocA cs) env1 (lJ env G gd) c v J':=by
 simp only[k0]at h;split at h
 . rename_i xs Pn;split at h
   . rename_i t l aJ;cases h;unfold awF at aJ;split at aJ
     . rename_i K0 r;split at aJ
       . rename_i Qi ht hs;cases aJ;obtain⟨ts,e',hf⟩:=asm ht (ZY (N:=N) (J:=J) Pn) hs;have k:rm N J (N+16) (ln J N (.arr K0.ty Qi)):=SU (by omega);refine .store rfl k (.c (.ptr _ _)) λa6 _=>⟨True,_,by simp only[dy,e',La,hf];rfl,trivial,c8.put (by omega) k ?_⟩
         have hI:K0.ty.sz U=1:=by
          generalize K0.ty=t0 at ht;cases t0 <;> first | rfl | cases ht
         have:=Nk.arr (N:=N+16) (J:=ln J N (.arr K0.ty Qi)) K0.ty Qi
         grind
       . cases aJ
     . cases aJ
   . cases h
 . cases h
theorem aIF{k:Nat}{x y:dJ}(h:k0 gl gd env J N (.idxP k x y)=some (c,v,J')):xi N J J1 (.idxP k x y) env1 (lJ env G gd) c v J':=by
 simp only[k0]at h;split at h
 . rename_i b kk m a7 ee;split at h
   . rename_i t l ai;split at h
     . rename_i hI;have hI:=f7 hI;cases h;obtain⟨pp,v1,a1,a2,a3⟩:=k2 he a8 a7;obtain⟨Pv,v2,b1,b2,b3⟩:=k2 he a8 ee;have:=a2.M8;subst this;have:=b2.K7;subst this;refine .neutral c8 (.c (.mx _ _ _ _)) λa6 ay=>⟨pp/\Pv/\(0:Int)<=m/\Int.toNat m < k,?_,a3 a6,b3 a6,(Z0.1 ay).1,(Z0.1 ay).2⟩
       simp only[dy,a1,b1,eg,hI];rfl
     . cases h
   . cases h
 . cases h
theorem aIG{k:Nat}{x:dJ}{f' al:Option dJ}(h:k0 gl gd env J N (.slcP k x f' al)=some (c,v,J')):xi N J J1 (.slcP k x f' al) env1 (lJ env G gd) c v J':=by
 simp only[k0]at h;split at h
 . rename_i b l r a7 aJ ar;cases h;obtain⟨pp,v1,a1,a2,a3⟩:=k2 he a8 a7;obtain⟨pl,L9,IJ⟩:=Wu he a8 c8 aJ;obtain⟨Lt,kJ,pK⟩:=Wu he a8 c8 ar;have:=a2.M8;subst this
   exact .neutral c8 (.c (.sub _ _ _)) λa6 ay=>⟨pp/\pl/\Lt/\0<=l.getD 0/\l.getD 0<=r.getD (k:Int)/\r.getD (k:Int)<=(k:Int),by simp only[dy,a1,L9,kJ,eg],a3 a6,IJ a6,pK a6,Ue.1 ay⟩
 . cases h
omit he a8 c8 in
theorem ahF :∀(l:List Int),bytesOf (List.map ((c9.int .u8).enc U) l)=some (strOf l)
 | []=>rfl
 | m::l=>by
  have:=ahF l;show bytesOf ([T.int .u8 m]::_)=_;simp only[bytesOf,this];rfl
omit he a8 c8 in
theorem aHe{b off len:Nat}{es:List (List T)}{s:List UInt8}(h:ec J1 b=some (.arr 1 es))(hs:bytesOf ((es.drop off).take len)=some s):VG J1 (.c (.arr b 1 off len))=some (off+len<=es.length,s):=by simp[VG,h,hs]
omit he a8 c8 in
theorem aHf{b off len:Nat}{es:List (List T)}{s:List UInt8}(h:ec J1 b=some (.arr 1 es))(hs:bytesOf ((es.drop off).take len)=some s):VG J1 (.c (.JK b 1 off len))=some (off+len<=es.length,s):=by simp[VG,h,hs]
omit he a8 c8 in
theorem aFk{es:List (List T)}{s:List UInt8}(hs:bytesOf es=some s):VG J1 (.c (.t (.slice es)))=some (True,s):=by simp[VG,hs]
theorem aMC{x:dJ}(h:k0 gl gd env J N (.b2s x)=some (c,v,J')):xi N J J1 (.b2s x) env1 (lJ env G gd) c v J':=by
 simp only[k0]at h;split at h
 . rename_i l a7;cases h;obtain⟨pp,v1,a1,a2,a3⟩:=k2 he a8 a7;have:=a2.Qq;subst this
   exact .neutral c8 (.c (.t (U:=U) ⟨.str,_⟩)) λa6 ay=>⟨pp/\True,by
    simp only[dy,a1,eg]
    exact(Jj (Option.map _) (aFk (J1:=J1) (ahF (U:=U) l))).trans rfl,a3 a6,trivial⟩
 . rename_i a7;cases h;obtain⟨pp,v1,a1,a2,a3⟩:=k2 he a8 a7;have:=a2.acp;subst this;exact .neutral c8 (.c (.t (U:=U) ⟨.str,_⟩)) λa6 ay=>⟨pp/\True,by simp only[dy,a1,eg,VG,La];rfl,a3 a6,trivial⟩
 . rename_i b a7;split at h
   . rename_i l ai;cases h;obtain⟨pp,v1,a1,a2,a3⟩:=k2 he a8 a7;obtain⟨kp,n,rfl,L2,a6⟩:=a2.MB;have:=a6 _ ai _ rfl;cases this;obtain⟨_,y,b8,anZ⟩:=c8 _ _ ai;cases anZ;refine .neutral c8 (.c (.t (U:=U) ⟨.str,_⟩)) λa6 ay=>⟨pp/\(0+l.length<=(l.map ((c9.int .u8).enc U)).length),?_,a3 a6,by simp⟩
     simp only[dy,a1,eg];have e:bytesOf (((l.map ((c9.int .u8).enc U)).drop 0).take l.length)=some (strOf l):=by rw[UM,UL (by simp)];exact ahF l
     exact(Jj (Option.map _) (aHe b8 e)).trans rfl
   . cases h
 . rename_i b f' len a7;split at h
   . rename_i l ai;cases h;obtain⟨pp,v1,a1,a2,a3⟩:=k2 he a8 a7;have:v1= .c (.JK b 1 f' len):=by cases a2 with | c h=>cases h;rfl
     subst this;obtain⟨_,y,b8,anZ⟩:=c8 _ _ ai;cases anZ;refine .neutral c8 (.c (.t (U:=U) ⟨.str,_⟩)) λa6 ay=>⟨pp/\(f'+len<=(l.map ((c9.int .u8).enc U)).length),?_,a3 a6,by simpa[ayx]using ay⟩
     simp only[dy,a1,eg];have e:bytesOf (((l.map ((c9.int .u8).enc U)).drop f').take len)=some (strOf ((l.drop f').take len)):=by rw[<-ajL,<-agu];exact ahF ((l.drop f').take len)
     exact(Jj (Option.map _) (aHf b8 e)).trans rfl
   . cases h
 . cases h
theorem aF7{e e8:Nat}(h:k0 gl gd env J N (.allocS e e8)=some (c,v,J')):xi N J J1 (.allocS e e8) env1 (lJ env G gd) c v J':=by
 simp only[k0,hz,hy]at h;obtain⟨rfl,rfl,rfl⟩:=h;have hk:rm N J (N+16) (ln (ln J (N+1) (.buf e8 [])) N (.h4 e (.l' (N+1)))):=by
  refine⟨by omega,λb hQ ai aa=>?_⟩;rw[M7,b' (by omega),M7,b' (by omega)]at aa
  grind
 refine .store rfl hk (.c (.ptr _ _)) λ_ _=>⟨True,_,rfl,trivial,λb x aa=>?_⟩
 rw[M7]at aa;rw[o'];by_cases h1:N=b
 . rw[b6 h1]at aa ⊢;cases aa;refine⟨by omega,_,rfl,.h4 (.l' _ _ (by omega) λx aa p a7=>?_)⟩;rw[M7,b' (by omega),M7,b6 rfl]at aa;cases aa
   simpa[oj.rz]using a7.symm
 . rw[b' h1,M7]at aa;rw[b' h1,o'];by_cases ah:N+1=b
   . rw[b6 ah]at aa ⊢;cases aa;exact⟨by omega,_,rfl,.buf _ _⟩
   . rw[b' ah]at aa ⊢;obtain⟨hg,y,hl,j2⟩:=c8 b x aa;exact⟨by omega,y,hl,j2.mono hk⟩
theorem aHg(h:k0 gl gd env J N .mkset=some (c,v,J')):xi N J J1 .mkset env1 (lJ env G gd) c v J':=by
 simp only[k0,hz,hy]at h;obtain⟨rfl,rfl,rfl⟩:=h;have k:rm N J (N+16) (ln J N (.set [])):=SU (by omega);exact .store rfl k (.c (.mp _)) λ_ _=>⟨True,_,rfl,trivial,c8.put (by omega) k (.set _)⟩
theorem aHh{x y:dJ}(h:k0 gl gd env J N (.lkset x y)=some (c,v,J')):xi N J J1 (.lkset x y) env1 (lJ env G gd) c v J':=by
 simp only[k0]at h;split at h
 . rename_i b s aa b8;split at h
   . rename_i ks J5;cases h;obtain⟨p,v1,a1,a2,a3⟩:=k2 he a8 aa;obtain⟨q,v2,b1,b2,b3⟩:=k2 he a8 b8;have:=a2.ao1;subst this;have:=b2.Qr;subst this;obtain⟨_,z,d1,d2⟩:=c8 b _ J5;cases d2;exact .neutral c8 (.c (.t (U:=U) ⟨.bool,_⟩)) λa6 _=>⟨p/\q,by simp only[dy,a1,b1,eg,d1];rfl,a3 a6,b3 a6⟩
   . cases h
 . cases h
theorem aHi{x y:dJ}(h:k0 gl gd env J N (.upset x y)=some (c,v,J')):xi N J J1 (.upset x y) env1 (lJ env G gd) c v J':=by
 simp only[k0]at h;split at h
 . rename_i b s aa b8;split at h
   . rename_i ks J5;cases h;obtain⟨p,v1,a1,a2,a3⟩:=k2 he a8 aa;obtain⟨q,v2,b1,b2,b3⟩:=k2 he a8 b8;have:=a2.ao1;subst this;have:=b2.Qr;subst this;obtain⟨L2,z,d1,d2⟩:=c8 b _ J5;cases d2;have HJ:rm N J (N+16) (ln J b (.set (OH ks s))):=Vo (by omega) J5 (λp h=>by simp[oj.rz]at h)
     exact .store rfl HJ (.fz [] [] rfl (by simp)) λa6 _=>⟨p/\q,_,by simp only[dy,a1,b1,eg,d1],⟨a3 a6,b3 a6⟩,c8.put (by omega) HJ (.set _)⟩
   . cases h
 . cases h
theorem aGF{e bytes:Nat}{x y:dJ}(h:k0 gl gd env J N (.appendB e bytes x y)=some (c,v,J')):xi N J J1 (.appendB e bytes x y) env1 (lJ env G gd) c v J':=by
 simp only[k0]at h;split at h
 . rename_i b s aa b8;split at h
   . rename_i qa l ai;split at h
     . rename_i Xo;have:=f7 Xo;subst this;cases h;obtain⟨p,v1,a1,a2,a3⟩:=k2 he a8 aa;obtain⟨q,v2,b1,b2,b3⟩:=k2 he a8 b8;obtain⟨n,rfl,L2,JF⟩:=a2.aiS;have:=JF _ ai _ rfl;cases this;have:=b2.Qr;subst this;obtain⟨_,z,d1,d2⟩:=c8 b _ ai;cases d2;have hg:rm N J N (dl J b):=ZA
       have hl:rm N (dl J b) (N+16) (ln (dl J b) N (.buf qa (amK l s))):=SU (by omega);have RZ:ni N (dl J b) (NA J1 b):=by
        intro hj x aa;rw[VY]at aa;split at aa
        . cases aa
        . rename_i hv;obtain⟨h1,y,ah,bJ⟩:=c8 hj x aa;exact⟨h1,y,by rw[J8,b' hv];exact ah,bJ.mono hg⟩
       refine .store rfl (hg.trans hl) (.c (.l' N (List.length l+List.length s) (by omega) λx aa p a7=>?_)) λa6 ay=>⟨p/\q/\qa=qa/\List.length l=List.length l/\(2*(List.length l+List.length s)+192)*bytes<=Pz/\List.length l+List.length s<=Jf,_,?_,⟨a3 a6,b3 a6,rfl,rfl,(ab0.1 ay).1,(ab0.1 ay).2⟩,RZ.put (by omega) hl (.buf _ _)⟩
       . rw[M7,b6 rfl]at aa;cases aa;simp only[oj.rz,hz]at a7;exact a7.symm.trans (Jj (Prod.mk 1) aE')
       . simp only[dy,a1,b1,eg,d1];rfl
     . cases h
   . cases h
 . cases h
theorem aHj{x:dJ}(h:k0 gl gd env J N (.sdata x)=some (c,v,J')):xi N J J1 (.sdata x) env1 (lJ env G gd) c v J':=by
 simp only[k0]at h;split at h
 . rename_i b aa;cases h;obtain⟨p,v1,a1,a2,a3⟩:=k2 he a8 aa;obtain⟨n,rfl,_,_⟩:=a2.aiS;exact .neutral c8 (.c (.y2 _)) λa6 _=>⟨p,by simp[dy,a1],a3 a6⟩
 . cases h
theorem aIH{e:Nat}{x y:dJ}(h:k0 gl gd env J N (.ustr e x y)=some (c,v,J')):xi N J J1 (.ustr e x y) env1 (lJ env G gd) c v J':=by
 simp only[k0]at h;split at h
 . rename_i b m aa b8;split at h
   . rename_i qa l ai;split at h
     . rename_i Xo;have:=f7 Xo;subst this;cases h;obtain⟨p,v1,a1,a2,a3⟩:=k2 he a8 aa;obtain⟨q,v2,b1,b2,b3⟩:=k2 he a8 b8;have:=a2.ayv;subst this;have:=b2.K7;subst this;obtain⟨_,z,d1,d2⟩:=c8 b _ ai;cases d2;have hg:rm N J N (dl J b):=ZA;have RZ:ni N (dl J b) (NA J1 b):=by
        intro hj x aa;rw[VY]at aa;split at aa
        . cases aa
        . rename_i hv;obtain⟨h1,y,ah,bJ⟩:=c8 hj x aa;exact⟨h1,y,by rw[J8,b' hv];exact ah,bJ.mono hg⟩
       refine .store rfl (hg.trans (rm.more (by omega))) (.c (.t (U:=U) ⟨.str,_⟩)) λa6 ay=>⟨p/\q/\qa=qa/\m=(List.length l:Int),_,?_,⟨a3 a6,b3 a6,rfl,aHX.1 ay⟩,RZ.mono (by omega)⟩
       simp only[dy,a1,b1,eg,d1];rfl
     . cases h
   . cases h
 . cases h
theorem aGG{e sz len:Nat}{z:List C}{parts:List (Nat×dJ)}(h:k0 gl gd env J N (.bsliceT e sz len z parts)=some (c,v,J')):xi N J J1 (.bsliceT e sz len z parts) env1 (lJ env G gd) c v J':=by
 simp only[k0]at h;split at h
 . cases h
 . rename_i t ht;split at h
   . rename_i sJ gA;split at h
     . cases h
     . rename_i ts JR;split at h
       . cases h
       . rename_i hI;have hI:=f7 hI;split at h
         . rename_i rows ar;split at h
           . rename_i l aJ;cases h;have aaM:=ZY (N:=N) (J:=J) gA;obtain⟨p,es,a1,a2,a4,a3⟩:=alF he a8 ar (es:=List.replicate len ts) (ez.replicate (R:=λr e=>Nh r=some e) JR len) (by intro r ar;rw[ajS ar];exact hI);have hf:l.map (t.enc U)=es:=ab6 aJ a2;refine .neutral c8 (.c (.t (U:=U) ⟨.slice t,l⟩)) λa6 _=>⟨p,?_,a3 a6⟩
             simp only[dy,ais aaM JR,eg,a1,La];rw[<-hf];rfl
           . cases h
         . cases h
   . cases h
theorem arw{o:m'}(h:k0 gl gd env J N o=some (c,v,J')):xi N J J1 o env1 (lJ env G gd) c v J':=by
 cases o with
 | mov x=>exact aMJ he a8 c8 h
 | pick c x y=>exact aG8 he a8 c8 h
 | alloc cs=>exact aH0 he a8 c8 h
 | box x=>exact aME he a8 c8 h
 | allocA cs=>exact aGE he a8 c8 h
 | idxP k x i=>exact aIF he a8 c8 h
 | slcP k x f' al=>exact aIG he a8 c8 h
 | b2s x=>exact aMC he a8 c8 h
 | allocS e e8=>exact aF7 he a8 c8 h
 | bsliceT e sz len z parts=>exact aGG he a8 c8 h
 | mkset=>exact aHg he a8 c8 h
 | lkset x k=>exact aHh he a8 c8 h
 | upset x k=>exact aHi he a8 c8 h
 | appendB e b x y=>exact aGF he a8 c8 h
 | sdata x=>exact aHj he a8 c8 h
 | ustr e x k=>exact aIH he a8 c8 h
 | build z parts=>exact aHZ he a8 c8 h
 | bslice sz len z parts=>exact aGB he a8 c8 h
 | load agg n x=>exact aHa he a8 c8 h
 | store n x v=>exact aH1 he a8 c8 h
 | nilCheck x=>exact aFP he a8 c8 h
 | bin op x y=>exact aMD he a8 c8 h
 | eqAgg neg ks x y=>exact aHY he a8 c8 h
 | eqBool neg x y=>exact aGA he a8 c8 h
 | eqNil neg x=>simp[k0]at h
 | not x=>exact aMK he a8 c8 h
 | conv k x=>exact aG9 he a8 c8 h
 | i2s x=>exact aMH he a8 c8 h
 | s2s x=>exact aML he a8 c8 h
 | fldA off x=>exact aG' he a8 c8 h
 | fld agg off n x=>exact aMG he a8 c8 h
 | idxA sz x i=>exact aHb he a8 c8 h
 | idxS x i=>exact aHc he a8 c8 h
 | slcS x f' al=>exact aHd he a8 c8 h
 | slc sz x f' al=>exact aMM he a8 c8 h
 | slc0 x=>exact aIA he a8 c8 h
 | mkfn f caps=>exact aIB he a8 c8 h
 | ext x i=>exact aMF he a8 c8 h
 | len str x=>exact aMI he a8 c8 h
 | append sz bytes x y=>exact aGD he a8 c8 h
 | max2 x y=>exact aIC he a8 c8 h
 | min2 x y=>exact aID he a8 c8 h
 | call f args=>simp[k0]at h
 | Oe x args=>simp[k0]at h
end
end
end
section
open Go
variable {U:l1}
def ga.j0(b0:Nat)(c:Cell U.D):ga U->ga U
 | .arr b=>match Nat.beq b b0 with
  | true=>.t c
  | false=>.arr b
 | .mx b ty i o=>match Nat.beq b b0 with
  | true=>.dead
  | false=>.mx b ty i o
 | .pre b h=>match Nat.beq b b0 with
  | true=>.dead
  | false=>.pre b h
 | .Ly b f' len=>match Nat.beq b b0 with
  | true=>.dead
  | false=>.Ly b f' len
 | x=>x
def hr.j0(b0:Nat)(c:Cell U.D):hr U->hr U
 | .c x=>.c (x.j0 b0 c)
 | .agg cs=>.agg (cs.map (ga.j0 b0 c))
 | .fz vs=>.fz (go b0 c vs)
where go (b0:Nat) (c:Cell U.D):List (hr U)->List (hr U)
 | []=>[]
 | v::vs=>v.j0 b0 c::go b0 c vs
def oj.j0(b0:Nat)(c:Cell U.D):oj U->oj U
 | .box cs=>.box (cs.map (ga.j0 b0 c))
 | .h4 E x=>.h4 E (x.j0 b0 c)
 | .k6 t l i o x=>.k6 t l i o (x.j0 b0 c)
 | x=>x
def Zm(b0:Nat)(c:Cell U.D):hN U->hN U
 | []=>[]
 | (k,v)::r=>(k,v.j0 b0 c)::Zm b0 c r
def UY(b0:Nat)(c:Cell U.D):fJ U->fJ U
 | []=>[]
 | (k,x)::r=>match Nat.beq k b0 with
  | true=>UY b0 c r
  | false=>(k,x.j0 b0 c)::UY b0 c r
def ag6(b:Nat)(t:c9)(env:hN U)(J:fJ U):Option (hN U×fJ U):=
 match er J b with
 | some (.arr Ja l)=>match Cell.as (.slice t) (⟨.slice Ja,l⟩:Cell U.D)with
  | some l=>some (Zm b ⟨.slice t,l⟩ env,UY b ⟨.slice t,l⟩ J)
  | none=>none
 | some (.rows _ r)=>match TR U t r with
  | some l=>some (Zm b ⟨.slice t,l⟩ env,UY b ⟨.slice t,l⟩ J)
  | none=>none
 | _=>some (env,J)
def Rk :List (Nat×c9)->hN U->fJ U->Option (hN U×fJ U)
 | [],env,J=>some (env,J)
 | (b,t)::r,env,J=>match ag6 b t env J with
  | some (env',J')=>Rk r env' J'
  | none=>none
section
variable {kk N:Nat} {J J':fJ U} {J1:ep} {env env':hN U} {env1:Env} {G:Nat->Bool} {gl:A'}
theorem ah3{b0:Nat}{c:Cell U.D}:∀{env:hN U} {k:Nat},er (Zm b0 c env) k=(er env k).map (hr.j0 b0 c)
 | [],k=>rfl
 | (i,v)::r,k=>by
  simp only[Zm,er];cases Nat.beq i k with
  | true=>rfl
  | false=>exact ah3
theorem Z1{b0:Nat}{c:Cell U.D}:∀{J:fJ U} {k:Nat},er (UY b0 c J) k=if k=b0 then none else(er J k).map (oj.j0 b0 c)
 | [],k=>by simp[UY,er]
 | (i,x)::r,k=>by
  simp only[UY];cases h:Nat.beq i b0 with
  | true=>
   have:=f7 h;subst this;simp only[Z1,er];by_cases ah:k=i
   . grind
   . rw[b' ah,b' ah];cases bJ:Nat.beq i k with
     | true=>exact absurd (f7 bJ).symm ah
     | false=>rfl
  | false=>
   simp only[er,Z1]
   grind
theorem oj.ai8{b0:Nat}{c:Cell U.D}{x:oj U}:(x.j0 b0 c).rz=x.rz:=by cases x <;> rfl
theorem j'.j0{b0 sz:Nat}{c:Cell U.D}{es:List (List T)}{b7:oj U}(h0:er J b0=some b7)(a6:b7.rz=some (sz,es.length))(ay:c.enc U= .slice es){x:ga U}{d:C}(h:j' N J x d):
 j' N (UY b0 c J) (x.j0 b0 c) (d.j0 b0 sz es):=by
 cases h with
 | t c=>exact .t c
 | ptr b o=>exact .ptr b o
 | mx b t i o=>
  simp only[ga.j0,C.j0];cases h:Nat.beq b b0 with
  | true=>rw[b6 (f7 h)];exact .dead _
  | false=>rw[b' (M' h)];exact .mx b t i o
 | vi t x o=>exact .vi t x o
 | arr b kp n ai h=>
  simp only[ga.j0,C.j0];cases Ol:Nat.beq b b0 with
  | true=>
   have:=f7 Ol;subst this;have:=h b7 h0 _ a6;cases this;rw[b6 rfl,b6 ⟨rfl,by omega⟩];have:cut es 0 es.length=es:=by simp[cut]
   rw[this,<-ay];exact .t c
  | false=>
   rw[b' (M' Ol)];refine .arr b kp n ai λy b8 p a7=>?_
   rw[Z1,b' (M' Ol)]at b8;simp only[fr]at b8;obtain⟨Qx,Sr,rfl⟩:=b8;rw[oj.ai8]at a7;exact h Qx Sr p a7
 | sub b f' len=>exact .sub b f' len
 | pre b kp n ai h=>
  simp only[ga.j0];cases Ol:Nat.beq b b0 with
  | true=>exact .dead _
  | false=>
   simp only[C.j0];rw[b' (M' Ol)];refine .pre b kp n ai λy b8 p a7=>?_
   rw[Z1,b' (M' Ol)]at b8;simp only[fr]at b8;obtain⟨Qx,Sr,rfl⟩:=b8;rw[oj.ai8]at a7;exact h Qx Sr p a7
 | Ly b kp f' len ai h=>
  simp only[ga.j0];cases Ol:Nat.beq b b0 with
  | true=>exact .dead _
  | false=>
   simp only[C.j0];refine .Ly b kp f' len ai λy b8 p a7=>?_
   rw[Z1,b' (M' Ol)]at b8;simp only[fr]at b8;obtain⟨Qx,Sr,rfl⟩:=b8;rw[oj.ai8]at a7;exact h Qx Sr p a7
 | mp b=>exact .mp b
 | y2 b=>exact .y2 b
 | l' b n ai h=>
  refine .l' b n ai λy b8 p a7=>?_
  rw[Z1]at b8;split at b8
  . cases b8
  . simp only[fr]at b8;obtain⟨Qx,Sr,rfl⟩:=b8;rw[oj.ai8]at a7;exact h Qx Sr p a7
 | eI=>exact .eI
 | I1=>exact .I1
 | I0=>exact .I0
 | fn f caps=>exact .fn f caps
 | dead d=>exact .dead _
theorem asn{b0:Nat}{c:Cell U.D}:∀{vs:List (hr U)} {i:Nat},(hr.j0.go b0 c vs)[i]?=(vs[i]?).map (hr.j0 b0 c)
 | [],i=>by simp[hr.j0.go]
 | v::vs,0=>by simp[hr.j0.go]
 | v::vs,i+1=>by simp[hr.j0.go,asn]
theorem aqI{b0:Nat}{c:Cell U.D}:∀{vs:List (hr U)},(hr.j0.go b0 c vs).length=vs.length
 | []=>rfl
 | v::vs=>by simp[hr.j0.go,aqI]
theorem h3.j0{b0 sz:Nat}{c:Cell U.D}{es:List (List T)}{b7:oj U}(h0:er J b0=some b7)(a6:b7.rz=some (sz,es.length))(ay:c.enc U= .slice es){x:hr U}{d:V}(h:h3 N J x d):
 h3 N (UY b0 c J) (x.j0 b0 c) (d.j0 b0 sz es):=by
 induction h with
 | c h=>exact .c (h.j0 h0 a6 ay)
 | agg h=>exact .agg (ez.map_map (h.imp λ_ _ _ ak=>ak.j0 h0 a6 ay))
 | fz xs ds aJ h ih=>
  refine .fz _ _ (by rw[aqI,aly];exact aJ) ?_;intro i x d aa JF;rw[asn,fr]at aa;rw[alh,fr]at JF;obtain⟨hQ,Je,rfl⟩:=aa;obtain⟨vn,aJ5,rfl⟩:=JF;exact ih i hQ vn Je aJ5
theorem avq{b0 sz:Nat}{c:Cell U.D}{es:List (List T)}{b7:oj U}(h0:er J b0=some b7)(a6:b7.rz=some (sz,es.length))(ay:c.enc U= .slice es)(hs:ec J1 b0=some (.arr sz es))(he:py N J G env env1)(c8:ni N J J1):
 Conv kk N env1 J1 N (Yu b0 sz es env1) (Uw b0 sz es J1)/\py N (UY b0 c J) G (Zm b0 c env) (Yu b0 sz es env1)/\ni N (UY b0 c J) (Uw b0 sz es J1):=by
 refine⟨Conv.freeze b0 hs,λk v hk=>?_,λb x aa=>?_⟩
 . rw[ah3,fr]at hk;obtain⟨v0,h1,rfl⟩:=hk;obtain⟨d,ah,bJ⟩:=he k v0 h1;exact⟨_,by rw[aeg,ah];rfl,bJ.j0 h0 a6 ay⟩
 . rw[Z1]at aa;split at aa
   . cases aa
   . rename_i hv;simp only[fr]at aa;obtain⟨hQ,h1,rfl⟩:=aa;obtain⟨ah,y,bJ,ea⟩:=c8 b hQ h1;refine⟨ah,y.j0 b0 sz es,by rw[aiC,b' hv,bJ];rfl,?_⟩;cases ea with
     | box ea=>exact .box (ez.map_map (ea.imp λ_ _ _ ak=>ak.j0 h0 a6 ay))
     | arr t l=>exact .arr t l
     | set ks=>exact .set ks
     | buf E s=>exact .buf E s
     | h4 ea=>exact .h4 (ea.j0 h0 a6 ay)
     | k6 t l i o ea=>exact .k6 t l i o (ea.j0 h0 a6 ay)
     | rows ea hi=>exact .rows ea hi
theorem LY.j0{b0:Nat}{c:Cell U.D}(h:LY gl env G):LY gl (Zm b0 c env) G:=by
 refine⟨h.free,λk t b hk=>?_⟩;obtain⟨y,h1,ah⟩:=h.held k t b hk;refine⟨y,?_,ah⟩;unfold Jl at h1 ⊢;rw[ah3];split at h1
 . rename_i x aa;rw[aa];show some _=some y;exact h1
 . cases h1
theorem aHk{α β:Type}{f:α->β}{l:List α}{sz:Nat}:some (sz,l.length)=some (sz,(l.map f).length):=by rw[JU]
theorem arx{b:Nat}{t:c9}(h:ag6 b t env J=some (env',J'))(he:py N J G env env1)(c8:ni N J J1):
 ∃kn gC,Conv kk N env1 J1 N kn gC/\py N J' G env' kn/\ni N J' gC/\(LY gl env G->LY gl env' G):=by
 unfold ag6 at h;split at h
 . rename_i Ja Jg aJ;split at h
   . rename_i l ch;have e:=Cell.QQ ch;cases e;cases h;obtain⟨_,y,h1,ah⟩:=c8 b _ aJ;cases ah;obtain⟨hg,hl,j2⟩:=avq (kk:=kk) (c:=⟨.slice t,l⟩) (es:=List.map (t.enc U) l) aJ aHk rfl h1 he c8;exact⟨_,_,hg,hl,j2,λa8=>a8.j0⟩
   . cases h
 . rename_i sz r aJ;split at h
   . rename_i l ch;cases h;obtain⟨_,y,h1,ah⟩:=c8 b _ aJ;cases ah with
     | @rows _ _ es ah bJ=>
      have hm:=ab6 ch ah;obtain⟨hg,hl,j2⟩:=avq (kk:=kk) (c:=⟨.slice t,l⟩) (es:=es) aJ (by simp only[oj.rz];rw[ah.length]) (by rw[<-hm];rfl) h1 he c8;exact⟨_,_,hg,hl,j2,λa8=>a8.j0⟩
   . cases h
 . cases h;exact⟨env1,J1,Conv.refl,he,c8,λh=>h⟩
theorem aed :∀{l:List (Nat×c9)} {env env':hN U} {J J':fJ U} {env1:Env} {J1:ep},Rk l env J=some (env',J') -> py N J G env env1 -> ni N J J1 ->
 ∃kn gC,Conv kk N env1 J1 N kn gC/\py N J' G env' kn/\ni N J' gC/\(LY gl env G->LY gl env' G)
 | [],env,env',J,J',env1,J1,h,he,c8=>by simp[Rk]at h;obtain⟨rfl,rfl⟩:=h;exact⟨env1,J1,Conv.refl,he,c8,λh=>h⟩
 | (b,t)::r,env,env',J,J',env1,J1,h,he,c8=>by
  simp only[Rk]at h;split at h
  . rename_i e s h1;obtain⟨e',s1,hg,hl,j2,px⟩:=arx (kk:=kk) (gl:=gl) h1 he c8;obtain⟨hf,s2,m1,m2,m3,m4⟩:=aed h hl j2;exact⟨hf,s2,hg.trans m1,m2,m3,λa8=>m4 (px a8)⟩
  . cases h
theorem Conv.close{b sz i o:Nat}{es:List (List T)}{t:T}(ai:ec J1 b=some (.k6 sz es i o (.t t))):
 Conv kk N env1 J1 N env1 (q1 J1 b (.arr sz (es.set i ((el es i).take o++[t]++(el es i).drop (o+1))))):=by
 intro cv nt φ S a w VT R;obtain⟨⟨a1,a2,a3,a4,a5,n'⟩,⟨vs,E,hg,hl,j2,ae9,px,mJ⟩,nJ⟩:=R.hJ.blk _ _ ai;have afL:es[i]?=some (el es i):=by unfold el;rw[List.getD,CJ a5];rfl
 have axe:(el es i).length=sz:=a3 _ (DJ afL);refine⟨φ,S,R.put (R.u2 _ _ ai).1 rfl ⟨by simpa using a1,by simpa using a2,λe he=>?_,a4,λ_=>⟨vs,E,hg,hl,λqi j e Ja he ht=>?_,nJ⟩⟩ λh0=>⟨λk y b8 hk yJ=>R.hJ.inj k b y _ b8 ai hk yJ h0,R.own b _ ai h0⟩⟩
 . rcases agy he with he | rfl
   . exact a3 e he
   . simp;omega
 . rw[ajH]at he;by_cases Qa:i=qi
   . subst Qa;rw[b6 rfl,b6 a5]at he;cases he;have Jx:=(Uc (vs:=el es i) (off:=o) (xs:=[t]) (by simp;omega) j)
     unfold NR at Jx;rw[show o+[t].length=o+1 from rfl]at Jx;rw[Jx]at ht;by_cases h5:j=o
     . subst h5;rw[b' (by omega),b6 (by omega),ac7]at ht;cases ht;exact⟨ae9,px,mJ⟩
     . have ajh:(el es i)[j]?=some Ja:=by
        by_cases js:j < o
        . rwa [b6 js]at ht
        . rwa [b' js,b' (by omega)]at ht
       exact j2 _ _ _ _ afL ajh (λh=>h5 h.2)
   . rw[b' Qa]at he;exact j2 _ _ _ _ he ht (λh=>Qa h.1.symm)
def ah4(b:Nat)(env:hN U)(J:fJ U):Option (hN U×fJ U):=
 match er J b with
 | some (.k6 t l i o (.t c))=>match Nat.ble (o+1) (t.sz U)with
  | true=>match Zo U t l i o [.t c]with
   | some Jg=>some (env,ln J b (.arr t Jg))
   | none=>none
  | false=>none
 | _=>none
def avr(b:Nat)(env:hN U)(J:fJ U):Option (hN U×fJ U):=
 match er J b with
 | some (.k6 t l i o (.arr b2))=>match (t.row U (t.at U l i))[o]? with
  | some ⟨.slice aMq,_⟩=>match ag6 b2 aMq env J with
   | some (env',J')=>ah4 b env' J'
   | none=>none
  | _=>none
 | _=>ah4 b env J
def avD :fJ U->Option Nat
 | []=>none
 | (b,.k6 ..)::_=>some b
 | _::r=>avD r
def alM(env:hN U)(J:fJ U):Option (hN U×fJ U):=
 match avD J with
 | none=>some (env,J)
 | some b=>avr b env J
theorem aqS{b:Nat}(h:ah4 b env J=some (env',J'))(he:py N J G env env1)(c8:ni N J J1):
 ∃kn gC,Conv kk N env1 J1 N kn gC/\py N J' G env' kn/\ni N J' gC:=by
 unfold ah4 at h;split at h
 . rename_i t l i o c aJ;split at h
   . rename_i c7;have c7:=ajW c7;split at h
     . rename_i IJ JH;cases h;obtain⟨L2,y,h1,ah⟩:=c8 b _ aJ;cases ah with
       | k6 _ _ _ _ ah=>
        cases ah;have hlen:IJ.length=List.length l:=by
         unfold Zo at JH
         grind
        have HJ:rm N J N (ln J b (.arr t IJ)):=Vo (JA _) aJ (λp h=>by
         simp only[oj.rz]at h ⊢
         grind)
        refine⟨env1,q1 J1 b (.arr (t.sz U) (IJ.map (t.enc U))),?_,he.mono HJ,c8.put L2 HJ (.arr t IJ)⟩;by_cases al:i < List.length l
        . obtain⟨ts,e',hf⟩:=alk (N:=N) (J:=J) (ds:=[.t (c.enc U)]) JH al (.cons (.t c) .nil) (by simpa using c7);have:ts=[c.enc U]:=by simpa[toTs,toT]using e'.symm
          subst this;have:=Conv.close (kk:=kk) (N:=N) (env1:=env1) h1;rw[hf]
          simpa using this
        . intro cv nt φ S a w VT R;obtain⟨⟨_,_,_,_,a5,_⟩,_⟩:=R.hJ.blk _ _ h1;simp at a5;omega
     . cases h
   . cases h
 . cases h
theorem aDt(h:alM env J=some (env',J'))(he:py N J G env env1)(c8:ni N J J1):
 ∃kn gC,Conv kk N env1 J1 N kn gC/\py N J' G env' kn/\ni N J' gC:=by
 unfold alM at h;split at h
 . cases h;exact⟨env1,J1,Conv.refl,he,c8⟩
 . unfold avr at h;split at h
   . split at h
     . split at h
       . rename_i e s h1;obtain⟨e',s1,hg,hl,j2,_⟩:=arx (kk:=kk) (gl:=[]) h1 he c8;obtain⟨hf,s2,m1,m2,m3⟩:=aqS (kk:=kk) h hl j2;exact⟨hf,s2,hg.trans m1,m2,m3⟩
       . cases h
     . cases h
   . exact aqS h he c8
theorem Conv.own{k:Nat}{g:Bool}{sz:Nat}(hk:look env1 k=some (g,.c .eI))(hI:0 < sz)(j1:kk<=N):Conv kk N env1 J1 (N+1) ((k,g,.c (.arr N sz 0 0))::env1) (q1 J1 N (.arr sz [])):=by
 intro cv nt φ S a w VT R;have jJ:=R.ao3 hI (by omega);have q6:JV φ N (0,0) N=(0,0):=by simp[JV]
 refine⟨JV φ N (0,0),S,⟨jJ.hJ,λi LN v aJ a8=>?_,λi LN v aJ a8=>?_,λi LN v aJ a8=>?_,jJ.u2,jJ.size,jJ.defers,jJ.ext,jJ.own,jJ.fix,jJ.J7⟩⟩
 . simp only[look]at aJ;split at aJ
   . rename_i e;cases aJ;subst e;obtain⟨x,aa,ar⟩:=jJ.LM _ _ _ hk a8;refine⟨x,aa,?_⟩;cases ar with
     | c ar=>
      obtain⟨a,rfl⟩:=ar;refine .c ⟨a,by rw[q6];rfl,λh=>absurd (by rw[q6]) h,by rw[q6];exact JA _⟩
   . exact jJ.LM i LN v aJ a8
 . simp only[look]at aJ;split at aJ
   . rename_i e;cases aJ;subst e;exact jJ.MY _ _ _ hk a8
   . exact jJ.MY i LN v aJ a8
 . simp only[look]at aJ;split at aJ
   . cases aJ;simp[V.cx,C.cx,lt]
   . exact jJ.LL i LN v aJ a8
theorem Conv.aLN{b j:Nat}{sz:Nat}{cs:List C}(ai:ec J1 b=some (.box cs))(dx:cs[j]?=some .eI)(L2:b < N)(hI:0 < sz)(j1:kk <=N):
 Conv kk N env1 J1 (N+1) env1 (q1 (q1 J1 N (.arr sz [])) b (.box (cs.set j (.arr N sz 0 0)))):=by
 intro cv nt φ S a w VT R;have jJ:=R.ao3 hI (by omega);have q6:JV φ N (0,0) N=(0,0):=by simp[JV]
 have J4:ec (q1 J1 N (.arr sz [])) b=some (.box cs):=by rw[o',b' (by omega)];exact ai
 have sK:∀c x,ec (q1 (q1 J1 N (.arr sz [])) b (.box (cs.set j (.arr N sz 0 0)))) c=some x->(c=b/\x= .box (cs.set j (.arr N sz 0 0)))\/ec (q1 J1 N (.arr sz [])) c=some x:=by
  intro c x aa;rw[o']at aa
  grind
 have an':∀c x,ec (q1 (q1 J1 N (.arr sz [])) b (.box (cs.set j (.arr N sz 0 0)))) c=some x->∃y,ec (q1 J1 N (.arr sz [])) c=some y:=by grind
 refine⟨JV φ N (0,0),S,⟨⟨λc x aa=>?_,λc vJ x y aa b8 hv=>?_,jJ.hJ.st⟩,jJ.LM,jJ.MY,jJ.LL,λc x aa=>?_,jJ.size,jJ.defers,jJ.ext,λc x aa=>?_,jJ.fix,jJ.J7⟩⟩
 . rcases sK c x aa with⟨rfl,rfl⟩ | h
   . obtain⟨h0,vs,E,h1,ah,bJ⟩:=jJ.hJ.blk _ _ J4;refine⟨h0,vs,E,h1,?_,bJ⟩;obtain⟨v,cJ,ar⟩:=ah.get dx;obtain⟨a,rfl⟩:=ar;have:=ez.set (i:=j) ah (a:= .arr N sz 0 0) (b:= .slice a 0 0) ⟨a,by rw[q6];rfl,λh=>absurd (by rw[q6]) h,by rw[q6];exact JA _⟩;have aoB:vs.set j (.slice a 0 0)=vs:=by
      apply agC
      grind
     rw[aoB]at this;exact this
   . exact jJ.hJ.blk c x h
 . obtain⟨hQ,Je⟩:=an' c x aa;obtain⟨Ni,L8⟩:=an' vJ y b8;exact jJ.hJ.inj c vJ hQ Ni Je L8 hv
 . rcases sK c x aa with⟨rfl,rfl⟩ | h
   . refine⟨(jJ.u2 _ _ J4).1,?_⟩;have:=(jJ.u2 _ _ J4).2;simp only[hE.cx,qx]at this ⊢;intro d a6;rcases agy a6 with h | h
     . exact this d h
     . rw[h];simp[C.cx,lt]
   . exact jJ.u2 c x h
 . obtain⟨hQ,Je⟩:=an' c x aa;exact jJ.own c hQ Je
theorem Conv.trim{q b j:Nat}{sz h:Nat}{cs:List C}{es:List (List T)}(ee:ec J1 q=some (.box cs))(dx:cs[j]?=some (.arr b sz 0 h))(ai:ec J1 b=some (.arr sz es))(ak:h <=es.length)(axE:q < N):
 Conv kk N env1 J1 (N+1) env1 (q1 (q1 (NA J1 b) N (.arr sz (es.take h))) q (.box (cs.set j (.arr N sz 0 h)))):=by
 intro cv nt φ S a w VT R;have L2:b < N:=by have:=(R.u2 _ _ ai).1;simpa[lt]using this
 have axF:q≠b:=by intro e;subst e;rw[ee]at ai;cases ai
 have k9:∀c,lt N c=true->JV φ N (φ b) c=φ c:=by
  intro c ay;simp only[lt,I2]at ay;simp only[JV]
  grind
 have hm:∀c,lt N c=true->lt (N+1) c=true:=λc ay=>avn (by omega) ay
 have jJ:=R.agI k9;have q6:JV φ N (φ b) N=φ b:=by simp[JV]
 have aw8:JV φ N (φ b) b=φ b:=k9 b (by simpa[lt]using L2);have sK:∀c x,ec (q1 (q1 (NA J1 b) N (.arr sz (es.take h))) q (.box (cs.set j (.arr N sz 0 h)))) c=some x->(c=q/\x= .box (cs.set j (.arr N sz 0 h)))\/(c≠q/\c=N/\x= .arr sz (es.take h))\/(c≠q/\c≠N/\c≠b/\ec J1 c=some x):=by
  intro c x aa;rw[o']at aa;split at aa
  . grind
  . rename_i e;rw[o']at aa;split at aa
    . grind
    . rename_i hf;rw[J8]at aa
      grind
 have hold:∀c x,ec (q1 (q1 (NA J1 b) N (.arr sz (es.take h))) q (.box (cs.set j (.arr N sz 0 h)))) c=some x->∃vJ y,ec J1 vJ=some y/\JV φ N (φ b) c=JV φ N (φ b) vJ/\(vJ=if c=N then b else c):=by grind
 refine⟨JV φ N (φ b),S,⟨⟨λc x aa=>?_,λc vJ x y aa b8 hv=>?_,jJ.hJ.st⟩,jJ.LM,jJ.MY,λk g v aJ a8=>V.MD hm (jJ.LL k g v aJ a8),λc x aa=>?_,jJ.size,jJ.defers,jJ.ext,λc x aa h0=>?_,jJ.fix,λc ay=>by have:=jJ.J7 c ay;exact hm c this⟩⟩
 . rcases sK c x aa with⟨rfl,rfl⟩ | ⟨_,rfl,rfl⟩ | ⟨_,_,_,ea⟩
   . obtain⟨h0,vs,E,h1,ah,bJ⟩:=jJ.hJ.blk _ _ ee;refine⟨h0,vs,E,h1,?_,bJ⟩;obtain⟨v,cJ,ar⟩:=ah.get dx;have Xw:gb (JV φ N (φ b)) w S (.arr N sz 0 h) v:=by
      obtain⟨a,e',hf,te⟩:=ar;rw[aw8]at e' hf te;exact⟨a,by rw[q6];exact e',by rw[q6];exact hf,by rw[q6];exact te⟩
     have:=ez.set (i:=j) ah Xw;have aoB:vs.set j v=vs:=by
      apply agC
      grind
     rw[aoB]at this;exact this
   . obtain⟨h0,h1,ah,bJ,ea⟩:=jJ.hJ.blk _ _ ai;rw[aw8]at h0 ea;refine⟨by rw[q6,agE];omega,by rw[agE];omega,λe he=>ah e (agB he),bJ,λay=>?_⟩;rw[q6]at ay ⊢;obtain⟨vs,E,g1,g2,g3,g4⟩:=ea ay;refine⟨vs,E,g1,g2,λi j e t he ht=>?_,g4⟩;rw[SD]at he;split at he
     . exact g3 i j e t he ht
     . cases he
   . exact jJ.hJ.blk c x ea
 . obtain⟨d,hQ,Je,e',hf⟩:=hold c x aa;obtain⟨vn,Ni,L8,te,YG⟩:=hold vJ y b8;have hM:d≠vn:=by grind
   intro h0 yJ;rw[e']at h0 ⊢;rw[te]at yJ ⊢;exact jJ.hJ.inj d vn hQ Ni Je L8 hM h0 yJ
 . rcases sK c x aa with⟨rfl,rfl⟩ | ⟨_,rfl,rfl⟩ | ⟨_,_,_,ea⟩
   . refine⟨hm _ (jJ.u2 _ _ ee).1,?_⟩;have:=(jJ.u2 _ _ ee).2;simp only[hE.cx,qx]at this ⊢;intro d a6;rcases agy a6 with h | h
     . exact C.MD hm (this d h)
     . rw[h];simp[C.cx,lt]
   . exact⟨by simp[lt],rfl⟩
   . exact⟨hm c (jJ.u2 c x ea).1,hE.MD hm (jJ.u2 c x ea).2⟩
 . obtain⟨d,hQ,Je,e',_⟩:=hold c x aa;rw[e']at h0 ⊢;exact jJ.own d hQ Je h0
def ab7 :Nat->List (ga U)->Option (Nat×Nat×Nat)
 | _,[]=>none
 | j,.pre b h::_=>some (j,b,h)
 | j,_::r=>ab7 (j+1) r
def Ys(J:fJ U):fJ U->Option (Nat×List (ga U)×Nat×Nat×Nat)
 | []=>none
 | (q,.box cs)::r=>match er J q with
  | some (.box L0)=>match ab7 0 L0 with
   | some p=>some (q,L0,p)
   | none=>Ys J r
  | _=>Ys J r
 | _::r=>Ys J r
theorem aso :∀{cs:List (ga U)} {j i b h:Nat},ab7 j cs=some (i,b,h)->j<=i/\cs[i - j]?=some (.pre b h)
 | [],j,i,b,h,c6=>by simp[ab7]at c6
 | c::r,j,i,b,h,c6=>by
  have next:ab7 (j+1) r=some (i,b,h)->j<=i/\(c::r)[i - j]?=some (.pre b h):=by
   intro c6;obtain⟨h1,ah⟩:=aso c6
   grind
  cases c with
  | pre hj vc=>simp only[ab7,hz,hy]at c6;obtain⟨rfl,rfl,rfl⟩:=c6;simp
  | _=>exact next c6
theorem ahz{q:Nat}{cs:List (ga U)}{i b h:Nat}:∀{l:fJ U},Ys J l=some (q,cs,i,b,h)->er J q=some (.box cs)/\cs[i]?=some (.pre b h)
 | [],c6=>by simp[Ys]at c6
 | (k,x)::r,c6=>by
  cases x with
  | box K0=>
   simp only[Ys]at c6;split at c6
   . rename_i L0 hk;split at c6
     . rename_i p a7;simp only[hz,hy]at c6;obtain⟨rfl,rfl,rfl⟩:=c6;exact⟨hk,by simpa using(aso a7).2⟩
     . exact ahz c6
   . exact ahz c6
  | _=>exact ahz (by simpa only[Ys]using c6)
def akq{R:Type}(J:fJ U)(N:Nat)(k:fJ U->Nat->Option R):Option R:=
 match Ys J J with
 | none=>k J N
 | some (q,cs,j,b,h)=>match er J b with
  | some (.arr t l)=>if decide (h<=l.length)=true then k (ln (ln (dl J b) N (.arr t (l.take h))) q (.box (cs.set j (.arr N)))) (N+1)else none
  | _=>none
theorem ary {q j b h0:Nat} {cs:List (ga U)} {x:ga U} {t:c9} {l:List (t.den U.D)} (ee:er J q=some (.box cs)) (dx:cs[j]?=some x) (ai:er J b=some (.arr t l)) (aa:∀d,j' N J x d -> d= .arr b (t.sz U) 0 h0) (hle:h0 <=l.length)
 (he:py N J G env env1) (c8:ni N J J1):
 ∃gC,Conv kk N env1 J1 (N+1) env1 gC/\py (N+1) (ln (ln (dl J b) N (.arr t (l.take h0))) q (.box (cs.set j (.arr N)))) G env env1/\ni (N+1) (ln (ln (dl J b) N (.arr t (l.take h0))) q (.box (cs.set j (.arr N)))) gC:=by
 obtain⟨axE,aNC,aow,ajq⟩:=c8 q _ ee;obtain⟨L2,akr,J4,JE⟩:=c8 b _ ai;cases JE;cases ajq with
 | @box _ ds ajq=>
  obtain⟨d,a6,ar⟩:=ajq.get dx;have:=aa d ar;subst this;have axF:q≠b:=by intro e;subst e;rw[ee]at ai;cases ai
  have hg:rm N J N (dl J b):=ZA;have hl:rm N (dl J b) (N+1) (ln (dl J b) N (.arr t (l.take h0))):=SU (by omega);have acO:er (ln (dl J b) N (.arr t (l.take h0))) q=some (.box cs):=by rw[M7,b' (by omega),VY,b' (λe=>axF e.symm)];exact ee
  have j2:rm (N+1) (ln (dl J b) N (.arr t (l.take h0))) (N+1) (ln (ln (dl J b) N (.arr t (l.take h0))) q (.box (cs.set j (.arr N)))):=Vo (JA _) acO (λp h=>by simp[oj.rz]at h);have ax4:=(hg.trans hl).trans j2;have anQ:ni N (dl J b) (NA J1 b):=by
   intro c x aa;rw[VY]at aa;split at aa
   . cases aa
   . rename_i hv;obtain⟨g1,y,g2,g3⟩:=c8 c x aa;exact⟨g1,y,by rw[J8,b' hv];exact g2,g3.mono hg⟩
  refine⟨_,Conv.trim aow a6 J4 (by rw[JU];exact hle) axE,he.mono ax4,?_⟩;rw[<-agu];refine(anQ.put (by omega) hl (.arr t (l.take h0))).put (by omega) j2 (.box ?_);refine ez.set (ajq.imp λ_ _ _ g=>g.mono ax4) (.arr N _ _ (by omega) λx aa p a7=>?_);rw[M7,b' (by omega),M7,b6 rfl]at aa;cases aa;simp only[oj.rz,hz]at a7
  rw[<-a7,agE,Nat.min_eq_left hle]
theorem asp{R:Type}{k:fJ U -> Nat -> Option R}{r:R}(h:akq J N k=some r)(he:py N J (λ_=>true) env env1)(c8:ni N J J1):
 ∃J' N' gC,k J' N'=some r/\Conv kk N env1 J1 N' env1 gC/\py N' J' (λ_=>true) env env1/\ni N' J' gC/\N<=N':=by
 unfold akq at h;split at h
 . exact⟨J,N,J1,h,Conv.refl,he,c8,JA _⟩
 . rename_i q cs j b h0 c6;obtain⟨ee,dx⟩:=ahz c6;split at h
   . rename_i t l ai;split at h
     . rename_i hle
       obtain⟨s1,m1,m2,m3⟩:=ary (kk:=kk) (h0:=h0) ee dx ai (λd ar=>by
        cases ar with
        | pre _ sz _ _ gA=>
         have gA:=gA _ ai _ rfl
         grind) (by simpa using hle) he c8
       exact⟨_,_,s1,h,m1,m2,m3,by omega⟩
     . cases h
   . cases h
def Pi(kk:Nat):Nat->List (ga U)->Option (Nat×Nat)
 | _,[]=>none
 | j,.arr b::r=>match Nat.ble (b+1) kk with
  | true=>some (j,b)
  | false=>Pi kk (j+1) r
 | j,_::r=>Pi kk (j+1) r
def Yt(kk:Nat)(J:fJ U):fJ U->Option (Nat×List (ga U)×Nat×Nat)
 | []=>none
 | (q,.box _)::r=>match er J q with
  | some (.box cs)=>match Pi kk 0 cs with
   | some p=>some (q,cs,p)
   | none=>Yt kk J r
  | _=>Yt kk J r
 | _::r=>Yt kk J r
theorem asq{kk:Nat}:∀{cs:List (ga U)} {j i b:Nat},Pi kk j cs=some (i,b)->j<=i/\cs[i - j]?=some (.arr b)
 | [],j,i,b,c6=>by simp[Pi]at c6
 | c::r,j,i,b,c6=>by
  have next:Pi kk (j+1) r=some (i,b)->j<=i/\(c::r)[i - j]?=some (.arr b):=by
   intro c6;obtain⟨h1,ah⟩:=asq c6
   grind
  cases c with
  | arr hj=>
   simp only[Pi]at c6
   grind
  | _=>exact next c6
theorem ahA{kk q:Nat}{cs:List (ga U)}{i b:Nat}:∀{l:fJ U},Yt kk J l=some (q,cs,i,b)->er J q=some (.box cs)/\cs[i]?=some (.arr b)
 | [],c6=>by simp[Yt]at c6
 | (k,x)::r,c6=>by
  cases x with
  | box K0=>
   simp only[Yt]at c6;split at c6
   . rename_i L0 hk;split at c6
     . rename_i p a7;simp only[hz,hy]at c6;obtain⟨rfl,rfl,rfl⟩:=c6;exact⟨hk,by simpa using(asq a7).2⟩
     . exact ahA c6
   . exact ahA c6
  | _=>exact ahA (by simpa only[Yt]using c6)
def akl{R:Type}(kk:Nat)(J:fJ U)(k:fJ U->Nat->Option R):Option R:=
 match Yt kk J J with
 | none=>k J kk
 | some (q,cs,j,b)=>match er J b with
  | some (.arr t l)=>k (ln (ln (dl J b) kk (.arr t l)) q (.box (cs.set j (.arr kk)))) (kk+1)
  | _=>k J kk
theorem aFa{R:Type}{k:fJ U -> Nat -> Option R}{r:R}(h:akl kk J k=some r)(he:py kk J (λ_=>true) env env1)(c8:ni kk J J1):
 ∃J' N' gC,k J' N'=some r/\Conv kk kk env1 J1 N' env1 gC/\py N' J' (λ_=>true) env env1/\ni N' J' gC/\kk<=N':=by
 unfold akl at h;split at h
 . exact⟨J,kk,J1,h,Conv.refl,he,c8,JA _⟩
 . rename_i q cs j b c6;obtain⟨ee,dx⟩:=ahA c6;split at h
   . rename_i t l ai
     obtain⟨s1,m1,m2,m3⟩:=ary (kk:=kk) (h0:=l.length) ee dx ai (λd ar=>by
      cases ar with
      | arr _ sz n _ gA=>
       have gA:=gA _ ai _ rfl
       grind) (JA _) he c8
     rw[List.take_length]at m2 m3;exact⟨_,_,s1,h,m1,m2,m3,by omega⟩
   . exact⟨J,kk,J1,h,Conv.refl,he,c8,JA _⟩
inductive Pos where
 | slot (k:Nat)
 | cell (b j:Nat)
 | via (k j:Nat)
def ag'(b j:Nat)(t:c9)(env:hN U)(J:fJ U)(N:Nat):Option (hN U×fJ U):=
 match er J b with
 | some (.box cs)=>match cs[j]? with
  | some .eI=>some (env,ln (ln J N (.arr t [])) b (.box (cs.set j (.arr N))))
  | _=>some (env,J)
 | _=>none
def ap0(p:Pos)(t:c9)(env:hN U)(J:fJ U)(N:Nat):Option (hN U×fJ U):=
 match p with
 | .slot k=>match er env k with
  | some (.c .eI)=>some ((k,.c (.arr N))::env,ln J N (.arr t []))
  | _=>some (env,J)
 | .cell b j=>ag' b j t env J N
 | .via k j=>match er env k with
  | some (.c (.ptr b _))=>ag' b j t env J N
  | _=>none
def ag9 :List (Pos×c9)->hN U->fJ U->Nat->Option (hN U×fJ U×Nat)
 | [],env,J,N=>some (env,J,N)
 | (p,t)::r,env,J,N=>match ap0 p t env J N with
  | some (env',J')=>ag9 r env' J' (N+1)
  | none=>none
theorem asN{t:c9}(he:py N J (λ_=>true) env env1)(c8:ni N J J1)(j1:kk<=N):∃kn gC,Conv kk N env1 J1 (N+1) kn gC/\py (N+1) J (λ_=>true) env kn/\ni (N+1) J gC:=by
 refine⟨env1,q1 J1 N (.arr 1 []),λcv nt φ S a w hk R=>⟨_,S,R.ao3 (by omega) (by omega)⟩,he.mono (rm.more (by omega)),λb x aa=>?_⟩;obtain⟨h1,y,ah,bJ⟩:=c8 b x aa;exact⟨by omega,y,by rw[o',b' (by omega)];exact ah,bJ.mono (rm.more (by omega))⟩
theorem ak7{b j:Nat}{t:c9}(h:ag' b j t env J N=some (env',J'))(he:py N J (λ_=>true) env env1)(c8:ni N J J1)(j1:kk <=N):
 ∃kn gC,Conv kk N env1 J1 (N+1) kn gC/\py (N+1) J' (λ_=>true) env' kn/\ni (N+1) J' gC:=by
 have same:=asN (t:=t) he c8 j1;unfold ag' at h;split at h
 . rename_i cs r';split at h
   . rename_i dx;cases h;obtain⟨L2,y,h1,ah⟩:=c8 b _ r';cases ah with
     | @box _ ds ah=>
      obtain⟨d,a6,ar⟩:=ah.get dx;cases ar;have HJ:rm N J (N+1) (ln J N (.arr t [])):=SU (by omega);have aJ3:er (ln J N (.arr t [])) b=some (.box cs):=by rw[M7,b' (by omega)];exact r'
      have aoW:rm (N+1) (ln J N (.arr t [])) (N+1) (ln (ln J N (.arr t [])) b (.box (cs.set j (.arr N)))):=Vo (JA _) aJ3 (λp h=>by simp[oj.rz]at h);refine⟨_,_,Conv.aLN h1 a6 L2 (c9.adn (t:=t) (U:=U)) j1,(he.mono HJ).mono aoW,(c8.put (by omega) HJ (.arr t [])).put (by omega) aoW (.box ?_)⟩
      refine ez.set (ah.imp λ_ _ _ h=>(h.mono HJ).mono aoW) (.arr N _ _ (by omega) λx aa p a7=>?_);rw[M7,b' (by omega),M7,b6 rfl]at aa;cases aa;simp[oj.rz]at a7;exact a7.symm
   . cases h;exact same
 . cases h
theorem aEn{p:Pos}{t:c9}(h:ap0 p t env J N=some (env',J'))(he:py N J (λ_=>true) env env1)(c8:ni N J J1)(j1:kk <=N):
 ∃kn gC,Conv kk N env1 J1 (N+1) kn gC/\py (N+1) J' (λ_=>true) env' kn/\ni (N+1) J' gC:=by
 have same:=asN (t:=t) he c8 j1;unfold ap0 at h;split at h
 . rename_i k;split at h
   . rename_i hk;cases h;obtain⟨v1,h1,ah⟩:=he k _ hk;have:=ah.acp;subst this;have HJ:rm N J (N+1) (ln J N (.arr t [])):=SU (by omega);refine⟨_,_,Conv.own h1 (c9.adn (t:=t) (U:=U)) j1,λi v al=>?_,c8.put (by omega) HJ (.arr t [])⟩;simp only[er]at al;simp only[look];split at al
     . rename_i ai;cases al;rw[b6 (f7 ai)];refine⟨_,rfl,.c (.arr N _ _ (by omega) λx aa p a7=>?_)⟩;rw[M7,b6 rfl]at aa;cases aa;simp[oj.rz]at a7;exact a7.symm
     . rename_i ai;rw[b' (M' ai)];exact(he.mono HJ) i v al
   . cases h;exact same
 . exact ak7 h he c8 j1
 . split at h
   . exact ak7 h he c8 j1
   . cases h
def alN :List (ga U)->List Bool->Bool
 | [],[]=>true
 | .t _::cs,false::bs=>alN cs bs
 | .eI::cs,true::bs=>alN cs bs
 | _,_=>false
def auW(cs:List (ga U)):List (List Bool×Nat×c9)->Option (Nat×c9)
 | []=>none
 | (bs,p)::r=>match alN cs bs with
  | true=>some p
  | false=>auW cs r
def al4(l:List (List Bool×Nat×c9)):fJ U->Option (Nat×Nat×c9)
 | []=>none
 | (q,.box cs)::r=>match auW cs l with
  | some p=>some (q,p)
  | none=>al4 l r
 | _::r=>al4 l r
def ako{R:Type}(env:hN U)(J:fJ U)(N:Nat)(k:hN U->fJ U->Nat->Option R):Option R:=
 match al4 U.own J with
 | none=>akq J N λJ N=>k env J N
 | some (q,j,t)=>match ag' q j t env J N with
  | some (env,J)=>akq J (N+1) λJ N=>k env J N
  | none=>none
theorem arA{R:Type}{k:hN U -> fJ U -> Nat -> Option R}{r:R}(h:ako env J N k=some r)(he:py N J (λ_=>true) env env1)(c8:ni N J J1)(j1:kk <=N):
 ∃env' J' N' kn gC,k env' J' N'=some r/\Conv kk N env1 J1 N' kn gC/\py N' J' (λ_=>true) env' kn/\ni N' J' gC/\N<=N':=by
 unfold ako at h;split at h
 . obtain⟨s2,QL,Zg,g1,g2,g3,g4,g5⟩:=asp h he c8;exact⟨_,_,_,_,_,g1,g2,g3,g4,g5⟩
 . split at h
   . rename_i e s c7;obtain⟨e',s1,h5,js,yt⟩:=ak7 c7 he c8 j1;obtain⟨s2,QL,Zg,g1,g2,g3,g4,g5⟩:=asp h js yt;exact⟨_,_,_,_,_,g1,h5.trans g2,g3,g4,by omega⟩
   . cases h
theorem arz :∀{l:List (Pos×c9)} {env env':hN U} {J J':fJ U} {N N':Nat} {env1:Env} {J1:ep},ag9 l env J N=some (env',J',N') -> py N J (λ_=>true) env env1 -> ni N J J1 -> kk <=N ->
 ∃kn gC,Conv kk N env1 J1 N' kn gC/\py N' J' (λ_=>true) env' kn/\ni N' J' gC/\N<=N'
 | [],env,env',J,J',N,N',env1,J1,h,he,c8,j1=>by simp[ag9]at h;obtain⟨rfl,rfl,rfl⟩:=h;exact⟨env1,J1,Conv.refl,he,c8,JA _⟩
 | (p,t)::r,env,env',J,J',N,N',env1,J1,h,he,c8,j1=>by
  simp only[ag9]at h;split at h
  . rename_i e s h1;obtain⟨e',s1,hg,hl,j2⟩:=aEn h1 he c8 j1;obtain⟨hf,s2,m1,m2,m3,m4⟩:=arz h hl j2 (by omega);exact⟨hf,s2,hg.trans m1,m2,m3,by omega⟩
  . cases h
end
end
section
open Go
variable {U:l1}
inductive RO where
 | hole (ty:c9)
 | ptr (b o:Nat)
 | mx (b:Nat) (ty:c9) (o:Nat)
 | vi (ty:c9) (o:Nat)
 | arr (b:Nat)
 | mp (b:Nat)
 | l' (b:Nat)
 | eI
 | I1
 | I0
 | fn (f:Nat) (caps:List Nat)
 | dead
inductive KT where
 | c (s:RO)
 | agg (l:List RO)
 | row (n:Nat)
 | fz (l:List KT)
inductive Me where
 | box (l:List RO)
 | arr (ty:c9)
 | iy (n:Nat)
 | gone
 | set
 | buf (E:Nat)
 | h4 (E:Nat) (s:RO)
structure Shape where
 env:List (Nat×KT)
 st:List Me
abbrev EI(U:l1):=List (Cell U.D)
def YI :RO->EI U->ga U×EI U
 | .hole _,c::r=>(.t c,r)
 | .hole _,[]=>(.dead,[])
 | .ptr b o,r=>(.ptr b o,r)
 | .mx b ty o,⟨.int _,n⟩::r=>(.mx b ty (Int.toNat n) o,r)
 | .mx _ _ _,r=>(.dead,r)
 | .vi _ o,c::r=>(.vi c.ty c.val o,r)
 | .vi _ _,[]=>(.dead,[])
 | .arr b,r=>(.arr b,r)
 | .mp b,r=>(.mp b,r)
 | .l' b,r=>(.l' b,r)
 | .eI,r=>(.eI,r)
 | .I1,r=>(.I1,r)
 | .I0,r=>(.I0,r)
 | .fn f caps,r=>(.fn f caps,r)
 | .dead,r=>(.dead,r)
def afx :List RO->EI U->List (ga U)×EI U
 | [],r=>([],r)
 | s::ss,r=>match YI s r with
  | (x,kJ)=>match afx ss kJ with
   | (xs,pK)=>(x::xs,pK)
mutual
def QX :KT->EI U->hr U×EI U
 | .c s,r=>match YI s r with
  | (x,kJ)=>(.c x,kJ)
 | .agg l,r=>match afx l r with
  | (xs,kJ)=>(.agg xs,kJ)
 | .row _,c::r=>(.agg ((c.ty.row U c.val).map .t),r)
 | .row _,[]=>(.fz [],[])
 | .fz l,r=>match QY l r with
  | (xs,kJ)=>(.fz xs,kJ)
def QY :List KT->EI U->List (hr U)×EI U
 | [],r=>([],r)
 | s::ss,r=>match QX s r with
  | (x,kJ)=>match QY ss kJ with
   | (xs,pK)=>(x::xs,pK)
end
def ai6 :List (Nat×KT)->EI U->hN U×EI U
 | [],r=>([],r)
 | (k,s)::ss,r=>match QX s r with
  | (x,kJ)=>match ai6 ss kJ with
   | (xs,pK)=>((k,x)::xs,pK)
def Of :Me->EI U->Option (oj U)×EI U
 | .box l,r=>match afx l r with
  | (xs,kJ)=>(some (.box xs),kJ)
 | .arr _,⟨.slice t,l⟩::r=>(some (.arr t l),r)
 | .arr _,r=>(none,r)
 | .iy _,c::r=>(some (.box ((c.ty.row U c.val).map .t)),r)
 | .iy _,[]=>(none,[])
 | .gone,r=>(none,r)
 | .set,⟨.slice .str,l⟩::r=>(some (.set l),r)
 | .set,r=>(none,r)
 | .buf E,⟨.str,s⟩::r=>(some (.buf E s),r)
 | .buf _,r=>(none,r)
 | .h4 E s,r=>match YI s r with
  | (x,kJ)=>(some (.h4 E x),kJ)
def Ln :Nat->List Me->EI U->fJ U
 | _,[],_=>[]
 | j,s::ss,r=>match Of s r with
  | (some x,kJ)=>(j,x)::Ln (j+1) ss kJ
  | (none,kJ)=>Ln (j+1) ss kJ
def VO{α:Type}:List α->Nat->Option α
 | [],_=>none
 | a::_,0=>some a
 | _::l,n+1=>VO l n
theorem aeY{α:Type}:∀{l:List α} {n:Nat},VO l n=l[n]?
 | [],n=>by simp[VO]
 | a::l,0=>by simp[VO]
 | a::l,n+1=>by simp[VO,aeY (l:=l)]
def Y0(bs:List Nat)(j b:Nat):Bool:=match VO bs j with
 | some hj=>Nat.beq hj b
 | none=>false
def aiT(bs:List Nat):List Nat->List Nat->Bool
 | [],[]=>true
 | j::Ss,c::cs=>Y0 bs j c && aiT bs Ss cs
 | _,_=>false
def apM(ty:c9):ga U->Option (Cell U.D)
 | .t c=>match Cell.as ty c with
  | some x=>some ⟨ty,x⟩
  | none=>none
 | .eI=>match ty with
  | .slice t=>some ⟨.slice t,([]:List (t.den U.D))⟩
  | _=>none
 | _=>none
def ae7(bs:List Nat):RO->ga U->Option (EI U)
 | .hole ty,x=>match apM ty x with
  | some c=>some [c]
  | none=>none
 | .ptr j o,.ptr b q5=>match Y0 bs j b && Nat.beq o q5 with
  | true=>some []
  | false=>none
 | .mx j ty o,.mx b XR i q5=>match Y0 bs j b && (Nat.beq o q5 && c9.beq ty XR)with
  | true=>some [⟨.int .i64,(i:Int)⟩]
  | false=>none
 | .vi ty o,.vi XR x q5=>match Nat.beq o q5,Cell.as ty (⟨XR,x⟩:Cell U.D)with
  | true,some x=>some [⟨ty,x⟩]
  | _,_=>none
 | .arr j,.arr b=>match Y0 bs j b with
  | true=>some []
  | false=>none
 | .mp j,.mp b=>match Y0 bs j b with
  | true=>some []
  | false=>none
 | .l' j,.l' b=>match Y0 bs j b with
  | true=>some []
  | false=>none
 | .eI,.eI=>some []
 | .I1,.I1=>some []
 | .I0,.I0=>some []
 | .fn f Ss,.fn aau cs=>match Nat.beq f aau && aiT bs Ss cs with
  | true=>some []
  | false=>none
 | .dead,_=>some []
 | _,_=>none
def YE(bs:List Nat):List RO->List (ga U)->Option (EI U)
 | [],[]=>some []
 | s::ss,x::xs=>match ae7 bs s x,YE bs ss xs with
  | some a,some b=>some (a++b)
  | _,_=>none
 | _,_=>none
mutual
def PE(bs:List Nat):KT->hr U->Option (EI U)
 | .c s,.c x=>ae7 bs s x
 | .agg l,.agg xs=>YE bs l xs
 | .row n,.agg xs=>match XT U (.nm n) xs with
  | some x=>some [⟨.nm n,x⟩]
  | none=>none
 | .fz l,.fz xs=>Up bs l xs
 | _,_=>none
def Up(bs:List Nat):List KT->List (hr U)->Option (EI U)
 | [],[]=>some []
 | s::ss,x::xs=>match PE bs s x,Up bs ss xs with
  | some a,some b=>some (a++b)
  | _,_=>none
 | _,_=>none
end
def ae8(bs:List Nat)(env:hN U):List (Nat×KT)->Option (EI U)
 | []=>some []
 | (k,s)::ss=>match er env k with
  | some x=>match PE bs s x,ae8 bs env ss with
   | some a,some b=>some (a++b)
   | _,_=>none
  | none=>none
def Xe(bs:List Nat):Me->oj U->Option (EI U)
 | .box l,.box xs=>YE bs l xs
 | .arr ty,.arr t l=>match Cell.as (.slice ty) (⟨.slice t,l⟩:Cell U.D)with
  | some l=>some [⟨.slice ty,l⟩]
  | none=>none
 | .arr ty,.rows sz r=>match Nat.beq (ty.sz U) sz,TR U ty r with
  | true,some l=>some [⟨.slice ty,l⟩]
  | _,_=>none
 | .iy n,.box xs=>match XT U (.nm n) xs with
  | some x=>some [⟨.nm n,x⟩]
  | none=>none
 | .set,.set l=>some [⟨.slice .str,l⟩]
 | .buf E,.buf adB s=>match Nat.beq E adB with
  | true=>some [⟨.str,s⟩]
  | false=>none
 | .h4 E s,.h4 adB x=>match Nat.beq E adB with
  | true=>ae7 bs s x
  | false=>none
 | _,_=>none
def OJ(bs:List Nat)(J:fJ U):Nat->List Me->Option (EI U)
 | _,[]=>some []
 | j,.gone::ss=>OJ bs J (j+1) ss
 | j,s::ss=>match VO bs j with
  | some b=>match er J b with
   | some x=>match Xe bs s x,OJ bs J (j+1) ss with
    | some a,some r=>some (a++r)
    | _,_=>none
   | none=>none
  | none=>none
section
variable {kk N:Nat} {J Jc:fJ U} {J1:ep} {env:hN U} {env1:Env} {bs:List Nat}
def Can(bs:List Nat)(J Jc:fJ U):Prop:=∀j b hQ,bs[j]?=some b->er Jc j=some hQ->∃x,er J b=some x/\∀p,hQ.rz=some p->x.rz=some p
theorem TV{bs:List Nat}(hM:bs.Nodup){j b:Nat}(h:bs[j]?=some b):pos bs b=some j:=by
 induction bs generalizing j with
 | nil=>simp at h
 | cons a bs ih=>
  simp only[pos]
  grind
theorem ab1{j b:Nat}(h:Y0 bs j b=true):bs[j]?=some b:=by
 unfold Y0 at h;rw[aeY]at h;split at h
 . simp_all
 . cases h
theorem as1(hM:bs.Nodup):∀{Ss cs:List Nat},aiT bs Ss cs=true->Vt bs cs=some Ss
 | [],[],_=>rfl
 | j::Ss,c::cs,h=>by
  simp only[aiT,kc]at h;simp[Vt,TV hM (ab1 h.1),as1 hM h.2]
theorem aFQ{ty:c9}{x:ga U}{c:Cell U.D}{d:C}(h:apM ty x=some c)(ar:j' N J x d):r2 (d.hD bs) (.t (c.enc U))/\c.ty=ty:=by
 unfold apM at h;split at h
 . split at h
   . rename_i vJ y b8;cases h;rw[Cell.QQ b8]at ar;cases ar;exact⟨r2.refl _,rfl⟩
   . cases h
 . split at h
   . cases h;cases ar;exact⟨r2.eI,rfl⟩
   . cases h
 . cases h
theorem akP(hM:bs.Nodup)(LP:Can bs J Jc){s:RO}{x:ga U}{a:EI U}(h:ae7 bs s x=some a):
 ∃y,(∀r,YI s (a++r)=(y,r))/\∀d,j' N J x d->∃vn,r2 (d.hD bs) vn/\j' bs.length Jc y vn:=by
 unfold ae7 at h;split at h
 . split at h
   . rename_i c ay;cases h;exact⟨.t c,λr=>rfl,λd a6=>⟨_,(aFQ ay a6).1,.t c⟩⟩
   . cases h
 . rename_i j o b q5;split at h
   . rename_i ai;simp only[kc]at ai;have:=f7 ai.2;subst this;cases h;refine⟨.ptr j o,λr=>rfl,λd a6=>⟨.ptr j o,?_,.ptr j o⟩⟩;cases a6;simp only[C.hD,TV hM (ab1 ai.1)];exact r2.refl _
   . cases h
 . rename_i j ty o b XR i q5;split at h
   . rename_i ai;simp only[kc]at ai;have:=f7 ai.2.1;subst this;have:=c9.beq_eq ai.2.2;subst this;cases h;refine⟨.mx j ty i o,λr=>rfl,λd a6=>⟨.mx j (ty.sz U) i o,?_,.mx j ty i o⟩⟩;cases a6;simp only[C.hD,TV hM (ab1 ai.1)];exact r2.refl _
   . cases h
 . rename_i ty o XR x q5;split at h
   . rename_i y c7 b8;have:=f7 c7;subst this;cases h;have e:=Cell.QQ b8;cases e;refine⟨.vi ty y o,λr=>rfl,λd a6=>⟨d,?_,?_⟩⟩
     . cases a6;exact r2.refl _
     . cases a6;exact .vi ty y o
   . cases h
 . rename_i j b;split at h
   . rename_i ai;cases h;refine⟨.arr j,λr=>rfl,λd a6=>?_⟩;cases a6 with
     | arr _ sz n L2 ak=>
      have dx:=ab1 ai;refine⟨.arr j sz 0 n,?_,.arr j sz n (pJ.1 dx).1 λx aa p a7=>?_⟩
      . simp only[C.hD,TV hM dx];exact r2.refl _
      . obtain⟨b7,h1,ah⟩:=LP j b x dx aa;exact ak b7 h1 p (ah p a7)
   . cases h
 . rename_i j b;split at h
   . rename_i ai;cases h;refine⟨.mp j,λr=>rfl,λd a6=>?_⟩;cases a6;refine⟨.mp j,?_,.mp j⟩;simp only[C.hD,TV hM (ab1 ai)];exact r2.refl _
   . cases h
 . rename_i j b;split at h
   . rename_i ai;cases h;refine⟨.l' j,λr=>rfl,λd a6=>?_⟩;cases a6 with
     | l' _ n L2 ak=>
      have dx:=ab1 ai;refine⟨.l' j n,?_,.l' j n (pJ.1 dx).1 λx aa p a7=>?_⟩
      . simp only[C.hD,TV hM dx];exact r2.refl _
      . obtain⟨b7,h1,ah⟩:=LP j b x dx aa;exact ak b7 h1 p (ah p a7)
   . cases h
 . cases h;exact⟨.eI,λr=>rfl,λd a6=>by cases a6;exact⟨.eI,r2.refl _,.eI⟩⟩
 . cases h;exact⟨.I1,λr=>rfl,λd a6=>by cases a6;exact⟨.I1,r2.refl _,.I1⟩⟩
 . cases h;exact⟨.I0,λr=>rfl,λd a6=>by cases a6;exact⟨.I0,r2.refl _,.I0⟩⟩
 . rename_i f Ss aau cs;split at h
   . rename_i ai;simp only[kc]at ai;have:=f7 ai.1;subst this;cases h;refine⟨.fn f Ss,λr=>rfl,λd a6=>⟨.fn f Ss,?_,.fn f Ss⟩⟩;cases a6;simp only[C.hD,as1 hM ai.2];exact r2.refl _
   . cases h
 . cases h;exact⟨.dead,λr=>rfl,λd a6=>⟨.dead,r2.dead _,.dead _⟩⟩
 . cases h
theorem ak8(hM:bs.Nodup)(LP:Can bs J Jc):∀{ss:List RO} {xs:List (ga U)} {a:EI U},YE bs ss xs=some a ->
 ∃ys,(∀r,afx ss (a++r)=(ys,r))/\∀ds,ez (j' N J) xs ds->∃ye,ez r2 (ds.map (C.hD bs)) ye/\ez (j' bs.length Jc) ys ye
 | [],[],a,h=>by simp[YE]at h;subst h;exact⟨[],λr=>rfl,λds a6=>by cases a6;exact⟨[],.nil,.nil⟩⟩
 | s::ss,x::xs,a,h=>by
  simp only[YE]at h;split at h
  . rename_i a1 a2 h1 ah;cases h;obtain⟨y,f1,g1⟩:=akP (N:=N) hM LP h1;obtain⟨ys,f2,g2⟩:=ak8 hM LP ah;refine⟨y::ys,λr=>by simp only[afx,SE,f1,f2],λds a6=>?_⟩;cases a6 with
    | cons acG aw'=>
     obtain⟨vn,e',hf⟩:=g1 _ acG;obtain⟨ye,te,YG⟩:=g2 _ aw';exact⟨vn::ye,.cons e' te,.cons hf YG⟩
  . cases h
 | [],_::_,a,h=>by simp[YE]at h
 | _::_,[],a,h=>by simp[YE]at h
theorem asO{n:Nat}{xs:List (ga U)}{x:(c9.nm n).den U.D}(h:XT U (.nm n) xs=some x):∀ds,ez (j' N J) xs ds->∃ye,ez r2 (ds.map (C.hD bs)) ye/\ez (j' bs.length Jc) (((c9.nm n).row U x).map .t) ye:=by
 intro ds a6;refine⟨((c9.nm n).enc U x).map .t,?_,aec⟩;unfold XT at h;split at h
 . rename_i row J6;rw[c9.acD,c9.ao0 h,ajN];clear h;generalize (c9.nm n).cells U=q2 at J6
   induction xs generalizing q2 row ds with
   | nil=>
    cases a6;cases q2 <;> simp[N9]at J6
    subst J6;exact .nil
   | cons y ys ih=>
    cases a6 with
    | @cons _ d _ ds h1 ah=>
     cases q2 with
     | nil=>cases y <;> simp[N9]at J6
     | cons ty q2=>
      cases h1 with
      | t c=>cases ty <;> simp only[N9]at J6 <;> (split at J6 <;> first | (cases J6;done) | (rename_i q ee;cases J6;exact .cons (r2.refl _) (ih _ ah _ _ ee)))
      | eI=>
       cases ty <;> simp only[N9,reduceCtorEq]at J6
       split at J6
       . rename_i q ee;cases J6;exact .cons r2.eI (ih _ ah _ _ ee)
       . cases J6
      | _=>cases ty <;> simp[N9]at J6
 . cases h
mutual
theorem amM(hM:bs.Nodup)(LP:Can bs J Jc):∀{s:KT} {x:hr U} {a:EI U},PE bs s x=some a ->
 ∃y,(∀r,QX s (a++r)=(y,r))/\∀d,h3 N J x d->∃vn,KZ (d.hD bs) vn/\h3 bs.length Jc y vn
 | .c s,.c x,a,h=>by
  simp only[PE]at h;obtain⟨y,f,g⟩:=akP (N:=N) hM LP h;refine⟨.c y,λr=>by simp only[QX,f],λd a6=>?_⟩;cases a6 with
  | c a6=>obtain⟨vn,e',hf⟩:=g _ a6;exact⟨.c vn,.c e',.c hf⟩
 | .agg l,.agg xs,a,h=>by
  simp only[PE]at h;obtain⟨y,f,g⟩:=ak8 (N:=N) hM LP h;refine⟨.agg y,λr=>by simp only[QX,f],λd a6=>?_⟩;cases a6 with
  | agg a6=>obtain⟨vn,e',hf⟩:=g _ a6;exact⟨.agg vn,.agg e',.agg hf⟩
 | .row n,.agg xs,a,h=>by
  simp only[PE]at h;split at h
  . rename_i x aa;cases h;refine⟨.agg (((c9.nm n).row U x).map .t),λr=>rfl,λd a6=>?_⟩;cases a6 with
    | agg a6=>obtain⟨vn,e',hf⟩:=asO aa _ a6;exact⟨.agg vn,.agg e',.agg hf⟩
  . cases h
 | .fz l,.fz xs,a,h=>by
  simp only[PE]at h;obtain⟨ys,f,aJ,g⟩:=acr hM LP h;refine⟨.fz ys,λr=>by simp only[QX,f],λd a6=>?_⟩;cases a6 with
  | fz _ ds JH a6=>
   obtain⟨ye,e',hf,te⟩:=g ds JH a6;refine⟨.fz ye,.fz _ _ (by rw[ahs];exact e'.symm) ?_,.fz _ _ (by omega) λi x d aa JF=>(te i x d aa JF)⟩;intro i x y aa b8;rw[aik,fr]at aa
   grind
 | .c _,.agg _,a,h=>by simp[PE]at h
 | .c _,.fz _,a,h=>by simp[PE]at h
 | .agg _,.c _,a,h=>by simp[PE]at h
 | .agg _,.fz _,a,h=>by simp[PE]at h
 | .row _,.c _,a,h=>by simp[PE]at h
 | .row _,.fz _,a,h=>by simp[PE]at h
 | .fz _,.c _,a,h=>by simp[PE]at h
 | .fz _,.agg _,a,h=>by simp[PE]at h
theorem acr(hM:bs.Nodup)(LP:Can bs J Jc):∀{ss:List KT} {xs:List (hr U)} {a:EI U},Up bs ss xs=some a ->
 ∃ys:List (hr U),(∀r,QY ss (a++r)=(ys,r))/\ys.length=xs.length/\∀ds:List V,xs.length=ds.length->(∀(i:Nat) x d,xs[i]?=some x->ds[i]?=some d->h3 N J x d)->
  ∃ye:List V,ye.length=ds.length/\(∀(i:Nat) (d vn:V),ds[i]?=some d->ye[i]?=some vn->KZ (d.hD bs) vn)/\(∀(i:Nat) y vn,ys[i]?=some y->ye[i]?=some vn->h3 bs.length Jc y vn)
 | [],[],a,h=>by simp[Up]at h;subst h;exact⟨[],λr=>rfl,rfl,λds aJ a6=>⟨[],by simpa using aJ,by simp,by simp⟩⟩
 | s::ss,x::xs,a,h=>by
  simp only[Up]at h;split at h
  . rename_i a1 a2 h1 ah;cases h;obtain⟨y,f1,g1⟩:=amM hM LP h1;obtain⟨ys,f2,aJ,g2⟩:=acr hM LP ah;refine⟨y::ys,λr=>by simp only[QY,SE,f1,f2],by simp[aJ],λds hlen a6=>?_⟩;cases ds with
    | nil=>simp at hlen
    | cons d ds=>
     obtain⟨vn,e',hf⟩:=g1 d (a6 0 x d rfl rfl);obtain⟨ye,te,YG,aal⟩:=g2 ds (by simpa using hlen) λi x d aa JF=>a6 (i+1) x d (by simpa using aa) (by simpa using JF)
     refine⟨vn::ye,by simp[te],λi=>?_,λi=>?_⟩
     . grind
     grind
  . cases h
 | [],_::_,a,h=>by simp[Up]at h
 | _::_,[],a,h=>by simp[Up]at h
end
theorem alG :∀{ks:List Nat} {k:Nat} {g:Bool} {v:V},k∈ks->look env1 k=some (g,v)->look (Vr bs env1 ks) k=some (g,v.hD bs)
 | x::ks,k,g,v,hm,aJ=>by
  simp only[Vr];by_cases h:x=k
  . subst h;rw[aJ];simp[look]
  . have Si:k∈ks:=by grind
    split
    . simp only[look,b' h];exact alG Si aJ
    . exact alG Si aJ
theorem as2(hM:bs.Nodup)(LP:Can bs J Jc)(he:py N J (λ_=>true) env env1):∀{ss:List (Nat×KT)} {a:EI U},ae8 bs env ss=some a ->
 ∃acE,(∀r,ai6 ss (a++r)=(acE,r))/\∃kn:Env,py bs.length Jc (λ_=>true) acE kn/\∀k g LG,look kn k=some (g,LG)->k∈ss.map Prod.fst/\∃v,look env1 k=some (g,v)/\KZ (v.hD bs) LG
 | [],a,h=>by simp[ae8]at h;subst h;exact⟨[],λr=>rfl,[],λk v hk=>by simp[er]at hk,λk g v h=>by simp[look]at h⟩
 | (k,s)::ss,a,h=>by
  simp only[ae8]at h;split at h
  . rename_i x aa;split at h
    . rename_i a1 a2 h1 ah;cases h;obtain⟨y,f1,g1⟩:=amM (N:=N) hM LP h1;obtain⟨acE,f2,kn,e',hf⟩:=as2 hM LP he ah;obtain⟨d,hg,hl⟩:=he k x aa;obtain⟨vn,m1,m2⟩:=g1 d hl;refine⟨(k,y)::acE,λr=>by simp only[ai6,SE,f1,f2],(k,true,vn)::kn,λi v al=>?_,λi g v al=>?_⟩
      . simp only[er]at al;simp only[look];split at al
        . simp_all
        . rename_i ai;rw[b' (M' ai)];exact e' i v al
      . simp only[look]at al
        grind
    . cases h
  . cases h
theorem akQ(hM:bs.Nodup)(LP:Can bs J Jc){s:Me}{x:oj U}{a:EI U}(h:Xe bs s x=some a):
 ∃y,(∀r,Of s (a++r)=(some y,r))/\(∀d,Nk N J x d->∃vn,PV (d.hD bs) vn/\Nk bs.length Jc y vn):=by
 unfold Xe at h;split at h
 . obtain⟨ys,f,g⟩:=ak8 (N:=N) hM LP h;refine⟨.box ys,λr=>by simp only[Of,f],λd a6=>?_⟩;cases a6 with
   | box a6=>obtain⟨ye,e',hf⟩:=g _ a6;exact⟨.box ye,.box e',.box hf⟩
 . rename_i ty t Qi;split at h
   . rename_i l aJ;cases h;have e:=Cell.QQ aJ;cases e;refine⟨.arr ty l,λr=>rfl,λd a6=>?_⟩;cases a6;exact⟨_,.arr,.arr ty l⟩
   . cases h
 . rename_i ty sz r;split at h
   . rename_i l hI aJ;cases h;have:=f7 hI;subst this;refine⟨.arr ty l,λr=>rfl,λd a6=>?_⟩;cases a6 with
     | rows h1 ah=>
      refine⟨_,.arr,?_⟩;rw[<-ab6 aJ h1];exact .arr ty l
   . cases h
 . rename_i n xs;split at h
   . rename_i x aa;cases h;refine⟨.box (((c9.nm n).row U x).map .t),λr=>rfl,λd a6=>?_⟩;cases a6 with
     | box a6=>obtain⟨ye,e',hf⟩:=asO aa _ a6;exact⟨.box ye,.box e',.box hf⟩
   . cases h
 . cases h;refine⟨.set _,λr=>rfl,λd a6=>?_⟩;cases a6;exact⟨_,.same,.set _⟩
 . split at h
   . rename_i JO;have:=f7 JO;subst this;cases h;refine⟨.buf _ _,λr=>rfl,λd a6=>?_⟩;cases a6;exact⟨_,.same,.buf _ _⟩
   . cases h
 . split at h
   . rename_i JO;have:=f7 JO;subst this;obtain⟨y,f,g⟩:=akP (N:=N) hM LP h;refine⟨.h4 _ y,λr=>by simp only[Of,f];rfl,λd a6=>?_⟩;cases a6 with
     | h4 a6=>obtain⟨vn,e',hf⟩:=g _ a6;exact⟨.h4 _ vn,.h4 e',.h4 hf⟩
   . cases h
 . cases h
theorem arB{t:c9}:∀{r:List (List (ga U))} {l:List (t.den U.D)},TR U t r=some l->l.length=r.length
 | [],l,h=>by simp[TR]at h;subst h;rfl
 | r::rs,l,h=>by
  simp only[TR]at h;split at h
  . rename_i x xs aa Pn;cases h;simp[arB Pn]
  . cases h
theorem aF8{s:Me}{x y:oj U}{a r:EI U}(h:Xe bs s x=some a)(c6:Of s (a++r)=(some y,r)):∀p,y.rz=some p->x.rz=some p:=by
 unfold Xe at h;split at h
 . intro p a7;simp only[Of,hy,hz]at c6;rw[<-c6.1]at a7;simp[oj.rz]at a7
 . rename_i ty t Qi;split at h
   . rename_i l aJ;cases h;have e:=Cell.QQ aJ;cases e;simp only[Of,ada,XH,hy,hz,and_true]at c6
     grind
   . cases h
 . rename_i ty sz I';split at h
   . rename_i l hI aJ;cases h;have:=f7 hI;subst this;simp only[Of,ada,XH,hy,hz,and_true]at c6;rw[<-c6];intro p a7;simp only[oj.rz]at a7 ⊢;rw[<-arB aJ];exact a7
   . cases h
 . rename_i n xs;split at h
   . rename_i x aa;cases h;intro p a7;simp only[Of,ada,XH,hy,hz,and_true]at c6;rw[<-c6]at a7;simp[oj.rz]at a7
   . cases h
 . cases h;simp only[Of,ada,XH,hy,hz,and_true]at c6
   grind
 . split at h
   . rename_i JO;have:=f7 JO;subst this;cases h;simp only[Of,ada,XH,hy,hz,and_true]at c6
     grind
   . cases h
 . split at h
   . intro p a7;simp only[Of,hy,hz]at c6;rw[<-c6.1]at a7;simp[oj.rz]at a7
   . cases h
 . cases h
theorem Wv(hM:bs.Nodup):∀{ss:List Me} {j:Nat} {a:EI U},OJ bs J j ss=some a ->
 (∀i hQ,er (Ln j ss a) i=some hQ->j<=i/\i < j+ss.length/\∃b x,bs[i]?=some b/\er J b=some x/\∃s Uf,Xe bs s x=some Uf/\∀r,Of s (Uf++r)=(some hQ,r))
 | [],j,a,h=>by intro i hQ al;simp[Ln,er]at al
 | .gone::ss,j,a,h=>by
  intro i hQ al;simp only[OJ]at h;simp only[Ln,Of]at al;obtain⟨h1,ah,bJ⟩:=Wv hM h i hQ al
  grind
 | .box l::ss,j,a,h=>acq hM (s:= .box l) (λ{j a}=>Wv hM (ss:=ss) (j:=j) (a:=a)) (by simpa only[OJ]using h)
 | .arr l::ss,j,a,h=>acq hM (s:= .arr l) (λ{j a}=>Wv hM (ss:=ss) (j:=j) (a:=a)) (by simpa only[OJ]using h)
 | .iy l::ss,j,a,h=>acq hM (s:= .iy l) (λ{j a}=>Wv hM (ss:=ss) (j:=j) (a:=a)) (by simpa only[OJ]using h)
 | .set::ss,j,a,h=>acq hM (s:= .set) (λ{j a}=>Wv hM (ss:=ss) (j:=j) (a:=a)) (by simpa only[OJ]using h)
 | .buf E::ss,j,a,h=>acq hM (s:= .buf E) (λ{j a}=>Wv hM (ss:=ss) (j:=j) (a:=a)) (by simpa only[OJ]using h)
 | .h4 E l::ss,j,a,h=>acq hM (s:= .h4 E l) (λ{j a}=>Wv hM (ss:=ss) (j:=j) (a:=a)) (by simpa only[OJ]using h)
where
 acq (hM:bs.Nodup) {s:Me} {ss:List Me} (ih:∀{j:Nat} {a:EI U},OJ bs J j ss=some a->
  (∀i hQ,er (Ln j ss a) i=some hQ->j<=i/\i < j+ss.length/\∃b x,bs[i]?=some b/\er J b=some x/\∃s Uf,Xe bs s x=some Uf/\∀r,Of s (Uf++r)=(some hQ,r))) {j:Nat} {a:EI U} (h:(match VO bs j with
  | some b=>match er J b with
   | some x=>match Xe bs s x,OJ bs J (j+1) ss with
    | some a,some r=>some (a++r)
    | _,_=>none
   | none=>none
  | none=>none)=some a):(∀i hQ,er (Ln j (s::ss) a) i=some hQ->j<=i/\i < j+(s::ss).length/\∃b x,bs[i]?=some b/\er J b=some x/\∃s Uf,Xe bs s x=some Uf/\∀r,Of s (Uf++r)=(some hQ,r)):=by
  intro i hQ al;split at h
  . rename_i b ai;rw[aeY]at ai;split at h
    . rename_i x aa;split at h
      . rename_i a1 a2 h1 ah;cases h;obtain⟨y,f,_⟩:=akQ (N:=0) (J:=J) (Jc:=[]) hM (λ_ _ _ _ h=>by simp[er]at h) h1;simp only[Ln,f,er]at al;split at al
        . rename_i R9;have:=f7 R9;subst this;cases al;exact⟨JA _,by simp,b,x,ai,aa,s,a1,h1,f⟩
        . obtain⟨hg,hl,j2⟩:=ih ah i hQ al;exact⟨by omega,by simp;omega,j2⟩
      . cases h
    . cases h
  . cases h
def ME(U:l1)(hp:Shape)(a:EI U):hN U×fJ U:=
 match ai6 hp.env a with
 | (e,r)=>(e,Ln 0 hp.st r)
def amL(bs:List Nat)(hp:Shape)(env:hN U)(J:fJ U):Option (EI U):=
 match ae8 bs env hp.env,OJ bs J 0 hp.st with
 | some a,some b=>some (a++b)
 | _,_=>none
theorem aeJ(hM:bs.Nodup){ss:List Me}{b:EI U}(ai:OJ bs J 0 ss=some b):Can bs J (Ln 0 ss b):=by
 intro j c hQ dx Je;obtain⟨_,_,hj,x,h1,ah,s,Uf,bJ,ea⟩:=Wv hM ai j hQ Je;rw[h1]at dx;cases dx;exact⟨x,ah,aF8 bJ (ea [])⟩
theorem aeu{J1:ep}:∀{r:List Nat} {i j c:Nat} {x:hE},r[j]?=some c->ec J1 c=some x->ec (m5 bs J1 i r) (i+j)=some (x.hD bs)
 | [],i,j,c,x,h,_=>by simp at h
 | b::r,i,0,c,x,h,aa=>by
  simp at h;subst h;simp only[m5,aa,ec,TJ,q']
 | b::r,i,j+1,c,x,h,aa=>by
  simp only[m5];have:=aeu (i:=i+1) (j:=j) (r:=r) (by simpa using h) aa;rw[show i+1+j=i+(j+1) by omega]at this;split
  . simp only[ec];rw[b' (by omega)];exact this
  omega
theorem aiE(hM:bs.Nodup)(c8:ni N J J1){ss:List Me}{b:EI U}(ai:OJ bs J 0 ss=some b):
 ∃gC,Z' (m5 bs J1 0 bs) gC/\ni bs.length (Ln 0 ss b) gC:=by
 have LP:=aeJ hM ai;have aa:=Wv hM ai;generalize Ln 0 ss b=Jc at*
 have key:∀(l:fJ U),(∀i hQ,er l i=some hQ->er Jc i=some hQ)->∃gC:ep,(∀i x,ec gC i=some x->∃y,ec (m5 bs J1 0 bs) i=some y/\PV y x)/\(∀i hQ,er l i=some hQ->i < bs.length/\∃y,ec gC i=some y/\Nk bs.length Jc hQ y):=by
  intro l
  induction l with
  | nil=>intro _;exact⟨[],λi x h=>by simp[ec]at h,λi x h=>by simp[er]at h⟩
  | cons p l ih=>
   obtain⟨i0,b7⟩:=p;intro aJ
   have:∃gC:ep,(∀i x,ec gC i=some x->∃y,ec (m5 bs J1 0 bs) i=some y/\PV y x)/\(∀i hQ,i≠i0->er l i=some hQ->i < bs.length/\∃y,ec gC i=some y/\Nk bs.length Jc hQ y):=by
    have:=ih;have aux:∀(m:fJ U),(∀i hQ,i≠i0->er m i=some hQ->er Jc i=some hQ)->∃gC:ep,(∀i x,ec gC i=some x->∃y,ec (m5 bs J1 0 bs) i=some y/\PV y x)/\(∀i hQ,i≠i0->er m i=some hQ->i < bs.length/\∃y,ec gC i=some y/\Nk bs.length Jc hQ y):=by
     intro m hm;have a6:∀i hQ,er (dl m i0) i=some hQ->er Jc i=some hQ:=by
      intro i hQ h;rw[VY]at h
      grind
     have build:∀n,∃gC:ep,(∀i x,ec gC i=some x->∃y,ec (m5 bs J1 0 bs) i=some y/\PV y x)/\(∀i hQ,i < n->er (dl m i0) i=some hQ->i < bs.length/\∃y,ec gC i=some y/\Nk bs.length Jc hQ y):=by
      intro n
      induction n with
      | zero=>exact⟨[],λi x h=>by simp[ec]at h,λi x h=>by omega⟩
      | succ n aLo=>
       obtain⟨s,h1,ah⟩:=aLo;cases g':er (dl m i0) n with
       | none => exact ⟨s, h1,λi hQ al Jy => ah i hQ (by have : i ≠ n :=λe => by subst e; rw [g'] at Jy; cases Jy
                                                         omega) Jy⟩
       | some apX=>
        obtain⟨_,_,hj,x,g1,g2,Ky,Uf,g3,g4⟩:=aa n apX (a6 n apX g');obtain⟨_,y,hg,hl⟩:=c8 hj x g2;obtain⟨z,f,q⟩:=akQ (N:=N) hM LP g3;have:z=apX:=by have:=(f []).symm.trans (g4 []);simpa using this
        subst this;obtain⟨Ni,y0,t'⟩:=q y hl;have ht:=aeu (bs:=bs) (i:=0) (j:=n) g1 hg;rw[Jq]at ht;refine⟨q1 s n Ni,λi x al=>?_,λi hQ al Jy=>?_⟩
        . rw[o']at al
          grind
        . by_cases e:i=n
          . subst e;rw[g']at Jy;cases Jy;exact⟨(pJ.1 g1).1,Ni,by rw[o',b6 rfl],t'⟩
          . obtain⟨kJ,z,pK,adg⟩:=ah i hQ (by omega) Jy;exact⟨kJ,z,by rw[o',b' (λqa=>e qa.symm)];exact pK,adg⟩
     obtain⟨s,h1,ah⟩:=build bs.length;refine⟨s,h1,λi hQ hv Jy=>?_⟩;have axq:er (dl m i0) i=some hQ:=by rw[VY,b' (λe=>hv e.symm)];exact Jy
     grind
    exact aux l λi hQ hv h=>aJ i hQ (by
     simp only[er];cases ai:Nat.beq i0 i with
     | true=>exact absurd (f7 ai).symm hv
     | false=>exact h)
   obtain⟨s,h1,ah⟩:=this;have JI:er Jc i0=some b7:=aJ i0 b7 (by simp[er,agw]);obtain⟨_,_,hj,x,g1,g2,Ky,Uf,g3,g4⟩:=aa i0 b7 JI;obtain⟨_,y,hg,hl⟩:=c8 hj x g2;obtain⟨z,f,q⟩:=akQ (N:=N) hM LP g3;have:z=b7:=by have:=(f []).symm.trans (g4 []);simpa using this
   subst this;obtain⟨Ni,y0,t'⟩:=q y hl;have ht:=aeu (bs:=bs) (i:=0) (j:=i0) g1 hg;rw[Jq]at ht;refine⟨q1 s i0 Ni,λi x al=>?_,λi hQ Jy=>?_⟩
   . rw[o']at al
     grind
   . by_cases e:i=i0
     . subst e;simp[er,agw]at Jy;subst Jy;exact⟨(pJ.1 g1).1,Ni,by rw[o',b6 rfl],t'⟩
     . have axq:er l i=some hQ:=by
        simp only[er]at Jy;cases ai:Nat.beq i0 i with
        | true=>exact absurd (f7 ai).symm e
        | false=>rw[ai]at Jy;exact Jy
       obtain⟨kJ,z,pK,adg⟩:=ah i hQ e axq;exact⟨kJ,z,by rw[o',b' (λqa=>e qa.symm)];exact pK,adg⟩
 obtain⟨s,h1,ah⟩:=key Jc λ_ _ h=>h
 exact⟨s,λi x al=>h1 i x al,λi hQ Jy=>ah i hQ Jy⟩
theorem aGH(hM:bs.Nodup)(hk:keeps kk bs=true)(he:py N J (λ_=>true) env env1)(c8:ni N J J1){hp:Shape}{a:EI U}(h:amL bs hp env J=some a):
 ∃kn gC,Conv kk N env1 J1 bs.length kn gC/\py bs.length (ME U hp a).2 (λ_=>true) (ME U hp a).1 kn/\ni bs.length (ME U hp a).2 gC:=by
 unfold amL at h;split at h
 . rename_i a1 b h1 ah;cases h;obtain⟨acE,f,kn,e',hf⟩:=as2 hM (aeJ hM ah) he h1;obtain⟨gC,s1,s2⟩:=aiE hM c8 ah;have c6:ME U hp (a1++b)=(acE,Ln 0 hp.st b):=by simp only[ME,f]
   rw[c6];refine⟨kn,gC,(Conv.tidy (hp.env.map Prod.fst) bs hM hk).trans (Conv.weaken (λk g LG aJ=>?_) s1),e',s2⟩;obtain⟨hm,v,cJ,hs⟩:=hf k g LG aJ;exact⟨_,alG hm cJ,hs⟩
 . cases h
end
end
section
open Go
variable {U:l1}
def Jb(D:Nat->Type):c9->List c9->Type
 | t,[]=>t.den D
 | t,u::r=>t.den D×Jb D u r
def d'(D:Nat->Type):List c9->Type
 | []=>Unit
 | t::r=>Jb D t r
def Jb.cells(D:Nat->Type):(t:c9)->(ts:List c9)->Jb D t ts->List (Cell D)
 | t,[],x=>[⟨t,x⟩]
 | t,u::r,x=>⟨t,x.1⟩::Jb.cells D u r x.2
def d'.cells(D:Nat->Type):(ts:List c9)->d' D ts->List (Cell D)
 | [],_=>[]
 | t::r,x=>Jb.cells D t r x
def aoY{α:Type}:List α->Option α
 | [c]=>some c
 | _=>none
def acG{α:Type}:List α->Option (α×List α)
 | []=>none
 | c::r=>some (c,r)
def Jb.dec(D:Nat->Type):(t:c9)->(ts:List c9)->List (Cell D)->Option (Jb D t ts)
 | t,[],l=>match aoY l with
  | some c=>c.as t
  | none=>none
 | t,u::r,l=>match acG l with
  | some p=>match p.1.as t with
   | some x=>match Jb.dec D u r p.2 with
    | some y=>some (x,y)
    | none=>none
   | none=>none
  | none=>none
def d'.dec(D:Nat->Type):(ts:List c9)->List (Cell D)->Option (d' D ts)
 | [],l=>match l with
  | []=>some ()
  | _=>none
 | t::r,l=>Jb.dec D t r l
theorem aFR{α:Type}{l:List α}{c:α}(h:aoY l=some c):l=[c]:=by
 unfold aoY at h;split at h
 . cases h;rfl
 . cases h
theorem aF9{α:Type}{l:List α}{c:α×List α}(h:acG l=some c):l=c.1::c.2:=by
 unfold acG at h;split at h
 . cases h
 grind
theorem Jb.JD{D:Nat->Type}:∀{ts:List c9} {t:c9} {a:List (Cell D)} {h:Jb D t ts},Jb.dec D t ts a=some h->Jb.cells D t ts h=a
 | [],t,a,h,e=>by
  unfold Jb.dec at e;split at e
  . rename_i c ay;rw[aFR ay,Cell.QQ (t:=t) (x:=h) e];rfl
  . cases e
 | u::r,t,a,h,e=>by
  unfold Jb.dec at e;split at e
  . rename_i p a7;split at e
    . rename_i x aa;split at e
      . rename_i y b8;cases e;have:=Jb.JD b8;show⟨t,x⟩::Jb.cells D u r y=a;rw[this,aF9 a7,<-Cell.QQ aa]
      . cases e
    . cases e
  . cases e
theorem d'.JD{D:Nat->Type}:∀{ts:List c9} {a:List (Cell D)} {h:d' D ts},d'.dec D ts a=some h->d'.cells D ts h=a
 | [],[],h,e=>rfl
 | [],_::_,h,e=>by cases (show(none:Option Unit)=some h from e)
 | t::r,a,h,e=>Jb.JD e
def Jb.To(U:l1):(t:c9)->(ts:List c9)->Jb U.D t ts
 | t,[]=>t.To U
 | t,u::r=>(t.To U,Jb.To U u r)
def d'.To(U:l1):(ts:List c9)->d' U.D ts
 | []=>()
 | t::r=>Jb.To U t r
abbrev P3 :=List (Nat×Nat)×List (Nat×c9)
def apD :RO->ga U->P3->P3
 | .ptr j _,.ptr b _,s=>((j,b)::s.1,s.2)
 | .mx j _ _,.mx b _ _ _,s=>((j,b)::s.1,s.2)
 | .arr j,.arr b,s=>((j,b)::s.1,s.2)
 | .mp j,.mp b,s=>((j,b)::s.1,s.2)
 | .l' j,.l' b,s=>((j,b)::s.1,s.2)
 | .fn _ Ss,.fn _ cs,s=>(Ss.zip cs++s.1,s.2)
 | .hole (.slice t),.arr b,s=>(s.1,(b,t)::s.2)
 | _,_,s=>s
def apE :List RO->List (ga U)->P3->P3
 | a::as,x::xs,s=>apE as xs (apD a x s)
 | _,_,s=>s
def aj' :List c9->List (ga U)->P3->P3
 | .slice t::ts,.arr b::xs,s=>aj' ts xs (s.1,(b,t)::s.2)
 | _::ts,_::xs,s=>aj' ts xs s
 | _,_,s=>s
mutual
def apG :KT->hr U->P3->P3
 | .c a,.c x,s=>apD a x s
 | .agg l,.agg xs,s=>apE l xs s
 | .row n,.agg xs,s=>aj' (U.q2 n) xs s
 | .fz l,.fz xs,s=>aka l xs s
 | _,_,s=>s
def aka :List KT->List (hr U)->P3->P3
 | a::as,x::xs,s=>aka as xs (apG a x s)
 | _,_,s=>s
end
def apF(env:hN U):List (Nat×KT)->P3->P3
 | [],s=>s
 | (k,a)::r,s=>match er env k with
  | some x=>apF env r (apG a x s)
  | none=>apF env r s
def aL5 :Me->oj U->P3->P3
 | .box l,.box xs,s=>apE l xs s
 | .iy n,.box xs,s=>aj' (U.q2 n) xs s
 | .h4 _ a,.h4 _ x,s=>apD a x s
 | _,_,s=>s
def adi(J:fJ U)(kk:Nat):Nat->List Me->P3->List Nat->List Nat×List (Nat×c9)
 | _,[],s,acc=>(acc.reverse,s.2)
 | j,a::r,s,acc=>
  let b:=match er s.1 j with
   | some b=>b
   | none=>match Nat.ble (j+1) kk with
    | true=>j
    | false=>1000000+j
  match er J b with
  | some x=>adi J kk (j+1) r (aL5 a x s) (b::acc)
  | none=>adi J kk (j+1) r s (b::acc)
def Z6 :List Nat->Bool
 | []=>true
 | a::l=>(l.all λb=>!(Nat.beq a b)) && Z6 l
theorem aev :∀{l:List Nat},Z6 l=true->l.Nodup
 | [],_=>ade
 | a::l,h=>by
  simp only[Z6,kc,qx,agD]at h;refine List.nodup_cons.2 ⟨λhm=>?_,aev h.2⟩;have bJ:=h.1 a hm;simp_all
def Zn(kk:Nat)(own:List (Pos×c9))(hp:Shape)(ts:List c9)(env:hN U)(J:fJ U)(N:Nat):Option (d' U.D ts):=
 match ag9 own env J N with
 | none=>none
 | some (env,J,_)=>match alM env J with
  | none=>none
  | some (env,J)=>match adi J kk 0 hp.st (apF env hp.env ([],[])) []with
   | (bs,Oh)=>match Rk Oh env J with
    | none=>none
    | some (env,J)=>match Z6 bs && (keeps kk bs && Nat.beq bs.length hp.st.length)with
     | false=>none
     | true=>match amL bs hp env J with
      | none=>none
      | some a=>d'.dec U.D ts a
section
variable {kk N:Nat} {J:fJ U} {J1:ep} {env:hN U} {env1:Env}
theorem ahG{own:List (Pos×c9)}{hp:Shape}{ts:List c9}{h:d' U.D ts}(aa:Zn kk own hp ts env J N=some h)(he:py N J (λ_=>true) env env1)(c8:ni N J J1)(j1:kk <=N):
 ∃kn gC,Conv kk N env1 J1 hp.st.length kn gC/\py hp.st.length (ME U hp (d'.cells U.D ts h)).2 (λ_=>true) (ME U hp (d'.cells U.D ts h)).1 kn/\ni hp.st.length (ME U hp (d'.cells U.D ts h)).2 gC/\kk<=hp.st.length:=by
 unfold Zn at aa;split at aa
 . cases aa
 . rename_i aA6 J2 QL h1;obtain⟨vK,aj9,K0,On,aJI,q6⟩:=arz h1 he c8 j1;split at aa
   . cases aa
   rename_i aM0 aMR TA;obtain⟨e',s1,amH,aKb,anQ⟩:=aDt (kk:=kk) TA On aJI;have h5:=K0.trans amH;split at aa;rename_i bs Oh _;split at aa
   . cases aa
   . rename_i aM1 SQ ah;obtain⟨hf,s2,js,aKc,afA,_⟩:=aed (kk:=kk) (gl:=[]) ah aKb anQ;split at aa
     . cases aa
     . rename_i ai;simp only[kc]at ai;obtain⟨J4,JE,aax⟩:=ai;have hlen:=f7 aax;split at aa
       . cases aa
       . rename_i a ch;obtain⟨te,TP,yt,aKd,aJJ⟩:=aGH (aev J4) JE aKc afA ch;rw[d'.JD aa,<-hlen];refine⟨te,TP,h5.trans (js.trans yt),aKd,aJJ,?_⟩
         by_cases VT:kk=0
         . omega
         . have K6:(bs[kk - 1]?==some (kk - 1))=true:=by
            unfold keeps at JE
            grind
           have ea:bs[kk - 1]?=some (kk - 1):=by simpa using K6
           have:=(pJ.1 ea).1;omega
end
structure nc (U:l1) where
 f:Nat
 MR:List KT
 st:List Me
 ts:List c9
 HS:KT
 D':List Me
 us:List c9
 F:d' U.D ts->Option (d' U.D us)
def nc.args(s:nc U)(h:d' U.D s.ts):List (hr U):=(QY s.MR (d'.cells U.D s.ts h)).1
def nc.Oc(s:nc U)(h:d' U.D s.ts):fJ U:=Ln 0 s.st (QY s.MR (d'.cells U.D s.ts h)).2
def nc.res(s:nc U)(r:d' U.D s.us):hr U:=(QX s.HS (d'.cells U.D s.us r)).1
def nc.rest(s:nc U)(r:d' U.D s.us):fJ U:=Ln 0 s.D' (QX s.HS (d'.cells U.D s.us r)).2
def Nl(P:Program)(s:nc U):Prop:=
 ∀h r,s.F h=some r->∀Tc J1,ez (h3 s.st.length (s.Oc h)) (s.args h) Tc->ni s.st.length (s.Oc h) J1->
  yq P s.f Tc J1 s.st.length (λkJ gC N'=>N'=s.D'.length/\h3 N' (s.rest r) (s.res r) kJ/\ni N' (s.rest r) gC)
def ga.V' :ga U->Bool
 | .t _ | .vi .. | .eI | .I1 | .I0=>true
 | .fn _ []=>true
 | _=>false
def JS :hr U->Bool
 | .c x=>x.V'
 | .agg cs=>cs.all ga.V'
 | .fz vs=>go vs
where go:List (hr U)->Bool
 | []=>true
 | v::vs=>JS v && go vs
def ga.Xf :ga U->C
 | .t c=>.t (c.enc U)
 | .vi ty x o=>.vi (ty.enc U x) o
 | .eI=>.eI
 | .I1=>.I1
 | .I0=>.I0
 | .fn f caps=>.fn f caps
 | _=>.dead
def Jd :hr U->V
 | .c x=>.c x.Xf
 | .agg cs=>.agg (cs.map ga.Xf)
 | .fz vs=>.fz (go vs)
where go:List (hr U)->List V
 | []=>[]
 | v::vs=>Jd v::go vs
theorem aeZ{N:Nat}{J:fJ U}{x:ga U}(h:x.V'=true):j' N J x x.Xf/\(∀d,j' N J x d->d=x.Xf)/\∀n,x.Xf.cx n=true:=by
 cases x <;> simp[ga.V']at h
 . exact⟨.t _,λd a6=>by cases a6;rfl,λ_=>rfl⟩
 . exact⟨.vi _ _ _,λd a6=>by cases a6;rfl,λ_=>rfl⟩
 . exact⟨.eI,λd a6=>by cases a6;rfl,λ_=>rfl⟩
 . exact⟨.I1,λd a6=>by cases a6;rfl,λ_=>rfl⟩
 . exact⟨.I0,λd a6=>by cases a6;rfl,λ_=>rfl⟩
 . rename_i f caps;cases caps with
   | nil=>exact⟨.fn _ _,λd a6=>by cases a6;rfl,λ_=>rfl⟩
   | cons=>simp[ga.V']at h
theorem ak9 :∀{vs:List (hr U)} {i:Nat},(Jd.go vs)[i]?=(vs[i]?).map Jd
 | [],i=>by simp[Jd.go]
 | v::vs,0=>by simp[Jd.go]
 | v::vs,i+1=>by simp[Jd.go,ak9]
theorem aqJ :∀{vs:List (hr U)},(Jd.go vs).length=vs.length
 | []=>rfl
 | v::vs=>by simp[Jd.go,aqJ]
theorem ar1 :∀{vs:List (hr U)} {i:Nat} {v:hr U},JS.go vs=true->vs[i]?=some v->JS v=true
 | [],i,v,_,h=>by simp at h
 | x::vs,0,v,hs,h=>by simp[JS.go]at hs;simp at h;subst h;exact hs.1
 | x::vs,i+1,v,hs,h=>by simp[JS.go]at hs;exact ar1 hs.2 (by simpa using h)
theorem aux{N:Nat}{J:fJ U}:∀(cs:List (ga U)),(∀x,x∈cs->x.V'=true)->ez (j' N J) cs (cs.map ga.Xf)
 | [],_=>.nil
 | a::l,h=>.cons (aeZ (h a (by simp))).1 (aux l λx aa=>h x (by simp[aa]))
theorem ab8{N:Nat}{J:fJ U}:∀{x:hr U},JS x=true->h3 N J x (Jd x)/\∀n,(Jd x).cx n=true
 | .c x,h=>by
  simp only[JS]at h;obtain⟨h1,_,bJ⟩:=aeZ (N:=N) (J:=J) h;exact⟨.c h1,λn=>bJ n⟩
 | .agg cs,h=>by
  simp only[JS,qx]at h;refine⟨.agg ?_,λn=>?_⟩
  . exact aux cs h
  . simp only[Jd,V.cx,UO,qx];intro c ay;exact(aeZ (N:=N) (J:=J) (h c ay)).2.2 n
 | .fz vs,h=>by
  simp only[JS]at h;have:=go (N:=N) (J:=J) vs h;refine⟨.fz _ _ (by rw[aqJ]) λi x d aa a6=>?_,λn=>?_⟩
  . rw[ak9,aa]at a6
    grind
  . simp only[Jd,V.cx];exact this.2 n
where go {N:Nat} {J:fJ U}:∀(vs:List (hr U)),JS.go vs=true->(∀x,x∈vs->h3 N J x (Jd x))/\∀n,V.cx.V.u' n (Jd.go vs)=true
 | [],_=>⟨by simp,λ_=>rfl⟩
 | v::vs,h=>by
  simp only[JS.go,kc]at h;obtain⟨h1,ah⟩:=ab8 (N:=N) (J:=J) h.1;obtain⟨bJ,ea⟩:=go (N:=N) (J:=J) vs h.2;refine⟨λx aa=>?_,λn=>by simp only[Jd.go,V.cx.V.u',kc];exact⟨ah n,ea n⟩⟩;rcases LU.1 aa with rfl | aa
  . exact h1
  . exact bJ x aa
theorem ae0{N:Nat}{J:fJ U}{x:hr U}{d:V}(h:h3 N J x d):JS x=true->d=Jd x:=by
 induction h with
 | c h=>intro hs;simp only[JS]at hs;rw[(aeZ (N:=N) (J:=J) hs).2.1 _ h];rfl
 | @agg xs ds h=>
  intro hs;simp only[JS,qx]at hs;simp only[Jd]
  congr 1
  induction h with
  | nil=>rfl
  | cons h1 ah ih=>rw[Q9,<-(aeZ (N:=N) (J:=J) (hs _ (by simp))).2.1 _ h1,<-ih (λx aa=>hs x (by simp[aa]))]
 | fz xs ds aJ h ih=>
  intro hs;simp only[JS]at hs;simp only[Jd]
  congr 1
  apply agC;intro i;rw[ak9];cases aa:xs[i]? with
  | none=>grind
  | some x=>
   have al:=(pJ.1 aa).1;have a6:=CJ (l:=ds) (i:=i) (by omega);rw[a6,La]
   congr 1
   exact ih i x _ aa a6 (ar1 hs aa)
end
section
open Go
variable {U:l1}
section
variable {P:Program} {nt kk key N N':Nat} {env:Env} {J J':ep} {Q VA:Exit->Env->ep->Nat->Prop}
def awG(P:Program)(f:Nat)(args:List V)(J:ep)(key:Nat)(env:Env)(K:V->ep->Prop):Prop:=
 ∀cv nt φ S a w,Rel cv nt φ S env J (lt key) a w->V.cx.V.u' (lt key) args=true->∀vs:List Value,ez (km φ w S) args vs->
  Calls P f vs.toArray w λe w'=>∃v r hn hK J',e= .returned v/\K r J'/\km hn w' hK r v/\r.cx (B' (lt key) key)=true/\Rel cv nt hn hK env J' (B' (lt key) key) a w'
def aII(P:Program)(o:h7)(env:Env)(f:Nat)(vs:List V):Prop:=
 (∃args p,o.op= .call f args/\MF env args=some (p,vs)/\p)\/
 (∃x args q p caps SO,o.op= .Oe x args/\x.get env=some (q,.c (.fn f caps))/\q/\MF env args=some (p,SO)/\p/\Nb P f=true/\vs=SO++caps.map λb=>V.c (.ptr b 0))
def acs(P:Program)(o:h7)(key:Nat)(env:Env)(J:ep)(K:Env->ep->Prop):Prop:=
 MC P o key env J K\/(Ks env o.guard=some true/\∃f vs,aII P o env f vs/\awG P f vs J key env λr J'=>K (zt env o.dst true r) J')
def Yw(P:Program)(kk:Nat):List h7->Nat->Env->ep->(Env->ep->Prop)->Prop
 | [],_,env,J,K=>K env J
 | o::r,key,env,J,K=>∃JZ h2,Conv kk key env J key JZ h2/\acs P o key JZ h2 λe s=>Yw P kk r (key+16) e s K
theorem arC{cv:Ctx}{φ:q4}{S:r3}{a:Act}{w:World}(R:Rel cv nt φ S env J (lt key) a w){ops:Array Oper}{o:Oper}{qy:h7}(ar:abz P nt ops o=some qy){K:Env -> ep -> Prop}(h:acs P qy key env J K){Q:Exit -> Act -> World -> Prop}:
 if Region.wanted o (yielded ops a.tmps)then o.wp P a w (P2 cv nt (B' (lt key) key) K) Q else P2 cv nt (B' (lt key) key) K (a.put o.dst undef) w:=by
 rcases h with h | ⟨a8,f,vs,an2,uJ⟩
 . exact ahp R (λb h1 _=>amx h1) ar h
 . obtain⟨h1,ah,bJ,ea⟩:=ari ar;have hw:=ash R ah a8;rw[hw];simp only[q'];rcases an2 with⟨args,p,qb,Jm,a7⟩ | ⟨x,args,q,p,caps,SO,qb,iJ,ee,Jm,a7,ai,rfl⟩
   . rw[qb]at h1;obtain⟨c,Tv,acP⟩:=aq9 (adG h1 (by simp));obtain⟨YN,ai,M1⟩:=aq' acP;have s':=aiB (P:=P) (w:=w) (a:=a) Tv YN (f:=f) (caps:=[]) rfl ai;simp only[Q8]at s';obtain⟨g1,g2⟩:=Yl R M1 Jm a7;exact Calls.next bJ ea rfl (λ_ _ h=>h) (uJ cv nt φ S a w R g2 _ g1) s'
   . rw[qb]at h1;obtain⟨c,Tv,acP⟩:=aq4 (adG h1 (by simp));obtain⟨t,rfl,YN,M1⟩:=aq5 acP;obtain⟨g1,g2⟩:=Yl R M1 Jm a7;have aa:=f5 (x:= .tmp t) R rfl iJ ee;have af9:a.eval (.tmp t)= .func (.func f) #[] (caps.map λb=>Value.pointer (some ⟨(φ b).1,0,none⟩)).toArray:=aa.1.xn
     have an3:ez (km φ w S) (caps.map λb=>V.c (.ptr b 0)) (caps.map λb=>Value.pointer (some ⟨(φ b).1,0,none⟩)):=by
      refine ez.SI (by simp) ?_;intro i v x h1 ah;simp only[V4,fr]at h1 ah;obtain⟨b,J4,rfl⟩:=h1;obtain⟨hj,JE,rfl⟩:=ah;rw[J4]at JE;cases JE;exact .c rfl
     have K4:V.cx.V.u' (lt key) (SO++caps.map λb=>V.c (.ptr b 0))=true:=by
      refine ZX ?_;intro i v cJ;by_cases al:i < SO.length
      . rw[V2 al]at cJ;exact Vn g2 cJ
      . rw[V1 (by omega)]at cJ;simp only[V4,fr]at cJ;obtain⟨b,J4,rfl⟩:=cJ;have ak:=aa.2;simp only[V.cx,C.cx,qx]at ak ⊢
        grind
     exact Calls.next bJ ea rfl (λ_ _ h=>h) (uJ cv nt φ S a w R K4 _ (g1.append an3)) (aiB Tv YN af9 ai)
theorem as3{cv:Ctx}(j1:cv.k=kk){ops:Array Oper}{Q:Exit -> Act -> World -> Prop}{K:Env -> ep -> Nat -> Prop}:∀{l:List Oper} {ev:List h7} {k N:Nat} {env:Env} {J:ep} {φ:q4} {S:r3} {a:Act} {w:World},O1 P nt ops l=some ev -> (∀i:Nat,i < l.length -> l[i]?=ops[k+i]?) ->
 Rel cv nt φ S env J (lt N) a w->Yw P kk ev N env J (λe s=>K e s (N+16*ev.length))->(∀φ S e s N a w,K e s N->Rel cv nt φ S e s (lt N) a w->Q .normal a w)->wpOps P ops Q (List.range' k l.length) a w
 | [],ev,k,N,env,J,φ,S,a,w,ar,al,R,h,v'=>by
  simp[O1]at ar;subst ar;simp only[Y',List.range'_zero,wpOps];exact v' _ _ _ _ _ _ _ h R
 | o::l,ev,k,N,env,J,φ,S,a,w,ar,al,R,h,v'=>by
  simp only[O1,ha,fr]at ar;obtain⟨qy,O',VE,afE,rfl⟩:=ar;have c7:ops[k]?=some o:=by have:=al 0 (by simp);simpa using this.symm
  rw[TI,List.range'_succ,wpOps_cons];unfold wpOp;rw[c7];simp only;obtain⟨JZ,h2,afI,NZ⟩:=h;obtain⟨XW,akA,ad2⟩:=afI cv nt φ S a w j1 R;have hs:=arC ad2 O' (K:=λe s=>Yw P kk VE (N+16) e s λe s=>K e s (N+16*(VE.length+1))) (by omega) (Q:=Q)
  have next:∀pa w',P2 cv nt (B' (lt N) N) (λe s=>Yw P kk VE (N+16) e s λe s=>K e s (N+16*(VE.length+1))) pa w'->wpOps P ops Q (List.range' (k+1) l.length) pa w':=by
   rintro pa w' ⟨hn,hK,e,s,ns,R'⟩
   refine as3 j1 (k:=k+1) (N:=N+16) afE (λi ey=>?_) (R'.more λ_ h=>ame h) (K:=K) ?_ v'
   . have:=al (i+1) (by simp;omega)
     grind
   grind
  split at hs
  . rename_i hw;rw[b6 hw];exact .inl (Oper.wp_mono next hs)
  grind
theorem k1.aLX{ev:List h7}(h:Yw P kk ev N env J (λe s=>Q .normal e s (N+16*ev.length))):k1 P nt kk (.region ev) env J N Q:=by
 intro code ay cv φ S a w j1 R;obtain⟨id,ops,rfl,ar⟩:=aqH ay;refine wp_region ?_;have:=as3 (P:=P) j1 (ops:=ops) (K:=λe s N=>Q .normal e s N) (Q:=λe pa w'=>∃hn hK env' J' N',Q e env' J' N'/\Rel cv nt hn hK env' J' (lt N') pa w') (k:=0) ar (λi al=>by simp) R h
  (λφ S e s N a w ns Jw=>⟨φ,S,e,s,N,ns,Jw⟩)
 rw[List.range_eq_range'];omega
theorem yq.conv{f k:Nat}{args ats:List V}{Q:V->ep->Nat->Prop}(ch:ez KZ args ats)(hs:Z' J J')(h:yq P f ats J' k Q):yq P f args J k Q:=by
 intro φ S w B Lr wk UG ze vs x0;refine h φ S w B ⟨λb x aa=>?_,λb hj x y aa b8=>?_,Lr.st⟩ (λb x aa=>?_) (λb x aa=>?_) ?_ vs ?_
 . obtain⟨b7,h1,ah⟩:=hs b x aa;exact ah.apy (Lr.blk b b7 h1)
 . obtain⟨b7,h1,ah⟩:=hs b x aa;obtain⟨Qx,hg,hl⟩:=hs hj y b8;exact Lr.inj b hj b7 Qx h1 hg
 . obtain⟨b7,h1,ah⟩:=hs b x aa;exact⟨(wk b b7 h1).1,ah.cx _ (wk b b7 h1).2⟩
 . obtain⟨b7,h1,ah⟩:=hs b x aa;exact UG b b7 h1
 . refine ZX λi v cJ=>?_
   obtain⟨v0,h1,ah⟩:=(ch.flip (R':=λb a=>KZ a b) λ_ _ h=>h).get cJ;exact ah.cx _ (Vn ze h1)
 . exact ez.comp (λa b c h1 ah=>h1.V9 ah) (ch.flip (R':=λb a=>KZ a b) λ_ _ h=>h) x0
theorem yq.mono{f k:Nat}{args:List V}{Q VA:V->ep->Nat->Prop}(h:yq P f args J k Q)(ee:∀r s n,Q r s n->VA r s n):yq P f args J k VA:=by
 intro φ S w B h1 ah bJ ea vs hi;refine(h φ S w B h1 ah bJ ea vs hi).mono ?_
 grind
theorem yq.tidy {f k:Nat} {args:List V} {J:ep} {Q VA:V -> ep -> Nat -> Prop} (h:yq P f args J k Q)
 (ee:∀r J' N',Q r J' N'->∃bs pK J2,bs.Nodup/\keeps k bs=true/\KZ (r.hD bs) pK/\Z' (m5 bs J' 0 bs) J2/\VA pK J2 bs.length):yq P f args J k VA:=by
 intro φ S w B h1 ah bJ ea vs hi;refine(h φ S w B h1 ah bJ ea vs hi).mono ?_
 rintro e w' ⟨v,r,hn,hK,J',N',he,v',hg,hl,j2,px,mJ,nJ,Su⟩
 obtain⟨bs,pK,J2,hM,aKv,ar,hs,aJE⟩:=ee r J' N' v';have ajj:∀i:Nat,i < k->bs[i]?=some i:=by
  intro i al;unfold keeps at aKv
  grind
 let MU:q4:=λi=>hn ((bs[i]?).getD 0)
 have ac0:∀(i:Nat) b,bs[i]?=some b->MU i=hn b:=by intro i b h;simp[MU,h]
 have af5:∀b x,ec (m5 bs J' 0 bs) b=some x->∃c b7,bs[b]?=some c/\ec J' c=some b7/\x=b7.hD bs:=by
  intro b x aa;obtain⟨j,c,b7,rfl,ah,bJ,rfl⟩:=Wx aa
  grind
 have aKS:∀(b7:hE),(b7.hD bs).cx (lt bs.length)=true:=by
  intro b7;cases b7 with
  | box cs=>simp only[hE.hD,hE.cx,UO,qx];intro c _;exact C.PT c
  | arr sz es=>rfl
  | set ks=>rfl
  | buf E s=>rfl
  | h4 E c=>exact C.PT c
  | k6 sz es i o c=>exact C.PT c
 refine⟨v,pK,MU,hK,J2,bs.length,he,aJE,ar.V9 (km.hD ac0 hg),ar.cx _ (V.PT r),⟨λb x aa=>?_,λb hj x y aa b8 hv h0 yJ=>?_,j2.st⟩,λb x aa=>?_,mJ,λb x aa h0=>?_,λb ai=>?_⟩
 . obtain⟨y,b8,ai⟩:=hs b x aa;obtain⟨c,b7,e',hf,rfl⟩:=af5 b y b8;exact ai.apy (pr.hD ac0 e' (j2.blk c b7 hf))
 . obtain⟨ady,aga,_⟩:=hs b x aa;obtain⟨ahc,agb,_⟩:=hs hj y b8;obtain⟨c,b7,e',hf,_⟩:=af5 b ady aga;obtain⟨vJ,Py,f1,f2,_⟩:=af5 hj ahc agb;rw[ac0 b c e']at h0 ⊢;rw[ac0 hj vJ f1]at yJ ⊢;refine j2.inj c vJ b7 Py hf f2 ?_ h0 yJ;intro e;subst e;have:=TV hM e';rw[TV hM f1]at this;cases this;exact hv rfl
 . obtain⟨y,b8,ai⟩:=hs b x aa;obtain⟨c,b7,e',hf,rfl⟩:=af5 b y b8;exact⟨(pJ.1 e').1,ai.cx _ (aKS b7)⟩
 . obtain⟨y,b8,ai⟩:=hs b x aa;obtain⟨c,b7,e',hf,rfl⟩:=af5 b y b8;rw[ac0 b c e']at h0 ⊢;exact nJ c b7 hf h0
 . rw[ac0 b b (ajj b ai)];exact Su b ai
end
def ga.h6(f:Nat->Nat):ga U->ga U
 | .ptr b o=>.ptr (f b) o
 | .mx b ty i o=>.mx (f b) ty i o
 | .arr b=>.arr (f b)
 | .sub b f' len=>.sub (f b) f' len
 | .pre b h=>.pre (f b) h
 | .Ly b f' len=>.Ly (f b) f' len
 | .mp b=>.mp (f b)
 | .y2 b=>.y2 (f b)
 | .l' b=>.l' (f b)
 | .fn g caps=>.fn g (caps.map f)
 | x=>x
def hr.h6(f:Nat->Nat):hr U->hr U
 | .c x=>.c (x.h6 f)
 | .agg cs=>.agg (cs.map (ga.h6 f))
 | .fz vs=>.fz (go f vs)
where go (f:Nat->Nat):List (hr U)->List (hr U)
 | []=>[]
 | v::vs=>v.h6 f::go f vs
def oj.h6(f:Nat->Nat):oj U->oj U
 | .box cs=>.box (cs.map (ga.h6 f))
 | .arr ty l=>.arr ty l
 | .rows sz r=>.rows sz r
 | .set ks=>.set ks
 | .buf E s=>.buf E s
 | .h4 E c=>.h4 E (c.h6 f)
 | .k6 t l i o c=>.k6 t l i o (c.h6 f)
def ag4(J:fJ U):List Nat->fJ U
 | []=>J
 | b::r=>dl (ag4 J r) b
def UZ(J:fJ U)(bs:List Nat)(f:Nat->Nat):fJ U->fJ U
 | []=>ag4 J bs
 | (b,x)::r=>ln (UZ J bs f r) (f b) (x.h6 f)
def Wg(J Jr:fJ U):Nat->List Nat->Option Bool
 | _,[]=>some true
 | i,b::r=>match er Jr i with
  | none=>Wg J Jr (i+1) r
  | some hQ=>match er J b with
   | none=>none
   | some x=>match hQ.rz with
    | none=>Wg J Jr (i+1) r
    | some aj2=>match x.rz with
     | none=>none
     | some p=>match Nat.beq aj2.1 p.1,Wg J Jr (i+1) r with
      | true,some c=>some (decide (aj2.2=p.2) && c)
      | _,_=>none
section
variable {key N':Nat} {J Jr:fJ U} {J1 aqd:ep} {bs:List Nat}
theorem avE :∀{bs:List Nat} {b:Nat},er (ag4 J bs) b=if b∈bs then none else er J b
 | [],b=>by simp[ag4]
 | c::r,b=>by
  simp only[ag4,VY,avE (bs:=r)]
  grind
theorem ZB{f:Nat->Nat}:∀{h2:fJ U} {c:Nat} {x:oj U},er (UZ J bs f h2) c=some x->(∃b b7,c=f b/\er h2 b=some b7/\x=b7.h6 f)\/(c ∉ bs/\er J c=some x)
 | [],c,x,h=>by
  simp only[UZ,avE]at h
  grind
 | (b,y)::r,c,x,h=>by
  simp only[UZ,M7]at h;split at h
  . rename_i ai;cases h;exact .inl ⟨b,y,ai.symm,by simp[er,agw],rfl⟩
  . rename_i ai;rcases ZB h with⟨hj,b7,h1,ah,bJ⟩ | h
    . refine .inl ⟨hj,b7,h1,?_,bJ⟩;simp only[er];cases Ol:Nat.beq b hj with
      | true=>exact absurd (by rw[f7 Ol];exact h1.symm) ai
      | false=>exact ah
    grind
theorem aeh(hM:bs.Nodup)(ey:∀b,b∈bs->b < key){i j:Nat}(h:back bs key i=back bs key j):i=j:=by
 unfold back at h;cases al:bs[i]? with
 | some b=>
  rw[al]at h;have aw7:=ey b (DJ al);cases dx:bs[j]? with
  | some c=>
   rw[dx]at h;simp at h;subst h;have:=TV hM al;rw[TV hM dx]at this
   grind
  | none=>rw[dx]at h;simp at h;omega
 | none=>
  rw[al]at h;have acL:=aaV.1 al;cases dx:bs[j]? with
  | some c=>
   rw[dx]at h;have aw7:=ey c (DJ dx)
   grind
  | none=>grind
theorem ar2{f:Nat->Nat}(c6:∀i j,f i=f j->i=j):∀{h2:ep} {b:Nat} {x:hE},ec h2 b=some x->ec (MQ J1 bs f h2) (f b)=some (x.h6 f)
 | [],b,x,h=>by simp[ec]at h
 | (c,y)::r,b,x,h=>by
  simp only[MQ,o'];simp only[ec]at h;by_cases K4:c=b
  . grind
  . rw[b' K4]at h;rw[b' (λe=>K4 (c6 _ _ e))];exact ar2 c6 h
theorem aqT{f:Nat->Nat}{c:Nat}(ay:c ∉ bs)(c6:∀b,f b≠c):∀{h2:ep},ec (MQ J1 bs f h2) c=ec J1 c
 | []=>by simp only[MQ,Wy,b' ay]
 | (b,y)::r=>by
  simp only[MQ,o'];rw[b' (c6 b)];exact aqT ay c6
theorem oj.agm{f:Nat->Nat}{x:oj U}:(x.h6 f).rz=x.rz:=by cases x <;> rfl
theorem arD :∀{l:List Nat} {i0:Nat} {c:Bool},Wg J Jr i0 l=some c->c=true->∀(j b:Nat) hQ,l[j]?=some b->er Jr (i0+j)=some hQ->∃x,er J b=some x/\∀p,hQ.rz=some p->x.rz=some p
 | [],i0,c,h,ay,j,b,hQ,dx,aa=>by simp at dx
 | a::l,i0,c,h,ay,j,b,hQ,dx,aa=>by
  simp only[Wg]at h;have next:∀{vJ},Wg J Jr (i0+1) l=some vJ->vJ=true->∀PO,j=PO+1->∃x,er J b=some x/\∀p,hQ.rz=some p->x.rz=some p:=by
   intro vJ h1 ah PO e;subst e;exact arD h1 ah PO b hQ (by simpa using dx) (by rw[show i0+1+PO=i0+(PO+1) by omega];exact aa)
  cases j with
  | zero=>
   simp at dx;subst dx;simp only[TJ]at aa;rw[aa]at h;simp only at h;split at h
   . cases h
   . rename_i x aLg;split at h
     . grind
     . rename_i aj2 a6;split at h
       . cases h
       . rename_i p aor;split at h
         . rename_i vJ ai ajf;cases h;simp only[kc,I2]at ay;refine⟨x,aLg,λq ee=>?_⟩;rw[a6]at ee;cases ee;rw[aor];have:=f7 ai
           grind
         . cases h
  | succ j=>
   split at h
   . grind
   grind
variable (hM:bs.Nodup) (ey:∀b,b∈bs->b < key) (q6:N'<=bs.length+16) (c8:ni key J J1)
include hM ey q6 c8 in
theorem j'.h6{x:ga U}{d:C}(h:j' N' Jr x d):j' (key+16) (UZ J bs (back bs key) Jr) (x.h6 (back bs key)) (d.h6 (back bs key)):=by
 cases h with
 | t c=>exact j'.t c
 | ptr b o=>exact j'.ptr _ o
 | mx b t i o=>exact j'.mx _ t i o
 | vi t x o=>exact j'.vi t x o
 | arr b sz n ai h=>
  have Xn:back bs key b < key+16:=by
   unfold back;cases al:bs[b]? with
   | some c=>simp;have:=ey c (DJ al);omega
   | none=>have:=aaV.1 al;simp;omega
  refine j'.arr _ sz n Xn λx aa p a7=>?_
  rcases ZB aa with⟨hj,b7,h1,ah,rfl⟩ | ⟨h1,ah⟩
  . have:=aeh hM ey h1;subst this;rw[oj.agm]at a7
    grind
  . exfalso
    have hk:=(c8 _ _ ah).1;unfold back at h1 hk
    grind
 | sub b f' len=>exact j'.sub _ f' len
 | pre b sz n ai h=>
  have Xn:back bs key b < key+16:=by
   unfold back;cases al:bs[b]? with
   | some c=>simp;have:=ey c (DJ al);omega
   | none=>have:=aaV.1 al;simp;omega
  refine j'.pre _ sz n Xn λx aa p a7=>?_
  rcases ZB aa with⟨hj,b7,h1,ah,rfl⟩ | ⟨h1,ah⟩
  . have:=aeh hM ey h1;subst this;rw[oj.agm]at a7
    grind
  . exfalso
    have hk:=(c8 _ _ ah).1;unfold back at h1 hk
    grind
 | Ly b sz f' len ai h=>
  have Xn:back bs key b < key+16:=by
   unfold back;cases al:bs[b]? with
   | some c=>simp;have:=ey c (DJ al);omega
   | none=>have:=aaV.1 al;simp;omega
  refine j'.Ly _ sz f' len Xn λx aa p a7=>?_
  rcases ZB aa with⟨hj,b7,h1,ah,rfl⟩ | ⟨h1,ah⟩
  . have:=aeh hM ey h1;subst this;rw[oj.agm]at a7
    grind
  . exfalso
    have hk:=(c8 _ _ ah).1;unfold back at h1 hk
    grind
 | mp b=>exact j'.mp _
 | y2 b=>exact j'.y2 _
 | l' b n ai h=>
  have Xn:back bs key b < key+16:=by
   unfold back;cases al:bs[b]? with
   | some c=>simp;have:=ey c (DJ al);omega
   | none=>have:=aaV.1 al;simp;omega
  refine j'.l' _ n Xn λx aa p a7=>?_
  rcases ZB aa with⟨hj,b7,h1,ah,rfl⟩ | ⟨h1,ah⟩
  . have:=aeh hM ey h1;subst this;rw[oj.agm]at a7
    grind
  . exfalso
    have hk:=(c8 _ _ ah).1;unfold back at h1 hk
    grind
 | eI=>exact .eI
 | I1=>exact .I1
 | I0=>exact .I0
 | fn f caps=>exact j'.fn f _
 | dead d=>exact .dead _
theorem as4{f:Nat->Nat}:∀{vs:List (hr U)} {i:Nat},(hr.h6.go f vs)[i]?=(vs[i]?).map (hr.h6 f)
 | [],i=>by simp[hr.h6.go]
 | v::vs,0=>by simp[hr.h6.go]
 | v::vs,i+1=>by simp[hr.h6.go,as4]
theorem aqU{f:Nat->Nat}:∀{vs:List (hr U)},(hr.h6.go f vs).length=vs.length
 | []=>rfl
 | v::vs=>by simp[hr.h6.go,aqU]
include hM ey q6 c8 in
theorem h3.h6{x:hr U}{d:V}(h:h3 N' Jr x d):h3 (key+16) (UZ J bs (back bs key) Jr) (x.h6 (back bs key)) (d.h6 (back bs key)):=by
 induction h with
 | c h=>exact .c (j'.h6 hM ey q6 c8 h)
 | agg h=>exact .agg (ez.map_map (h.imp λ_ _ _ ak=>j'.h6 hM ey q6 c8 ak))
 | fz xs ds aJ h ih=>
  refine .fz _ _ (by rw[aqU,alC];exact aJ) ?_;intro i x d aa a6;rw[as4,fr]at aa;rw[amj,fr]at a6
  grind
include hM ey c8 in
theorem ait(a6:Wg J Jr 0 bs=some true):rm key J (key+16) (UZ J bs (back bs key) Jr):=by
 refine⟨by omega,λc x ay aa=>?_⟩;rcases ZB aa with⟨b,b7,h1,ah,rfl⟩ | ⟨h1,ah⟩
 . unfold back at h1;cases al:bs[b]? with
   | some vJ=>
    rw[al]at h1;simp at h1;subst h1;obtain⟨x,hg,hl⟩:=arD a6 rfl b c b7 al (by rw[Jq];exact ah);exact⟨x,hg,λp a7=>hl p (by rw[oj.agm]at a7;exact a7)⟩
   | none=>rw[al]at h1;simp at h1;omega
 grind
include hM ey q6 c8 in
theorem ni.anK(a6:Wg J Jr 0 bs=some true)(ar:ni N' Jr aqd):ni (key+16) (UZ J bs (back bs key) Jr) (MQ J1 bs (back bs key) aqd):=by
 intro c x aa;have Xn:∀b,b < N'->back bs key b < key+16:=by
  intro b ai;unfold back;cases al:bs[b]? with
  | some c=>simp;have:=ey c (DJ al);omega
  | none=>have:=aaV.1 al;simp;omega
 rcases ZB aa with⟨b,b7,rfl,ah,rfl⟩ | ⟨h1,ah⟩
 . obtain⟨bJ,y,ea,hi⟩:=ar b b7 ah;refine⟨Xn b bJ,y.h6 (back bs key),ar2 (λi j=>aeh hM ey) ea,?_⟩;cases hi with
   | box hi=>exact .box (ez.map_map (hi.imp λ_ _ _ ak=>j'.h6 hM ey q6 c8 ak))
   | arr t l=>exact .arr t l
   | set ks=>exact .set ks
   | buf E s=>exact .buf E s
   | h4 hi=>exact .h4 (j'.h6 hM ey q6 c8 hi)
   | k6 t l i o hi=>exact .k6 t l i o (j'.h6 hM ey q6 c8 hi)
   | rows hi q0=>exact .rows hi q0
 . obtain⟨bJ,y,ea,hi⟩:=c8 c x ah;refine⟨by omega,y,?_,?_⟩
   . rw[aqT h1 λb=>?_]
     . exact ea
     . unfold back
       grind
   . exact hi.mono (ait hM ey c8 a6)
end
end
section
open Go
variable {xb:List Nat}
def aia(n:Nat):List (Nat×Nat)->Bool
 | (i,_)::_=>Nat.beq i n
 | []=>false
theorem aGI{l:List (h7×List Nat)}{p:Nat×Nat}(h:p∈RE l):p.1 < l.length:=by
 simp only[RE,amO,apg]at h
 grind
theorem aEo{l:List (h7×List Nat)}(h:aia l.length (aaj l)=true):ah' l=true/\Z3 l.dropLast=true/\∀p,p∈RE l.dropLast->p∈aaj l:=by
 unfold aaj at h ⊢;split at h
 . grind
 . exfalso
   cases aJ:RE l with
   | nil=>rw[aJ]at h;cases h
   | cons p r=>
    rw[aJ]at h;have a7:p∈RE l:=by rw[aJ];simp
    have:=aGI a7;obtain⟨i,j⟩:=p;have vc:Nat.beq i l.length=true:=h;simp_all
theorem aFS{l:List (h7×List Nat)}{m:Nat}(hm:l.length=m+1)(h:ah' l=true){D:Nat -> List Nat}(RX:∀(i:Nat) x,l[i]?=some x -> D i=x.2){p:Nat -> Bool}(aJ9:∀i,i < m -> p i=true -> ∀d,d∈D i -> p d=true)(aJ:∀d,d∈D m -> p d=true):
 ∀i,i < m->p i=true:=by
 have key:∀k i,i < m->m - i<=k->p i=true:=by
  intro k
  induction k with
  | zero=>intro i h1 ah;omega
  | succ k ih=>
   intro i h1 ah;simp only[ah',qx,adb]at h;have bJ:=h i (by omega)
   grind
 exactλi al=>key m i al (by omega)
section
variable {P:Program} {cv:Ctx} {nt kk:Nat} {N:Nat} {ops:Array Oper} {init:List h7} {last:h7} {E:Nat->Env} {T:Nat->ep} {G:Nat->Bool} {W:Nat->V}
theorem aiF{listed:Array Bool}{i m:Nat}(hs:listed.size=m+1)(al:i < m):listed.pop.getD i false=listed.getD i false:=by
 simp only[ajP,Array.getElem?_pop]
 grind
theorem aHl{listed:Array Bool}{i m:Nat}(hs:listed.size=m+1)(al:i < m):(listed.setIfInBounds i true).pop=listed.pop.setIfInBounds i true:=by grind
theorem aGJ{Q:Exit->Act->World->Prop}{fuel:Nat}{listed:Array Bool}{a:Act}{w:World}(hs:listed.size=ops.size)(ny:∀i,i < ops.size->listed.getD i false=true)(v':Q .normal a w):wpAny P .any ops Q fuel listed a w:=by
 have M3:Region.ready .any ops listed=[]:=by
  rw[ax9];intro i al;rw[mem_ready]at al
  grind
 cases fuel with
 | zero=>exact⟨M3,v'⟩
 | succ fuel=>exact⟨λ_=>v',λi al=>by rw[M3]at al;cases al⟩
theorem aFT {D:Nat -> List Nat} (st:Stat xb init D E N) (ar:Wi xb P init N E T G W) (hres:O1 P nt ops ops.toList=some (init++[last])) (RX:∀(i:Nat) o,ops[i]?=some o -> D i=MO o)
 (aKy:∀(p:Nat->Bool),(∀i,i < init.length->p i=true->∀d,d∈D i->p d=true)->(∀d,d∈D init.length->p d=true)->∀i,i < init.length->p i=true)
 (anW:∀d,d∈D init.length->d < init.length)
 {Q:Exit->Act->World->Prop} {K:Env->ep->Prop} (j1:cv.k=kk)
 (ns:∃JZ h2,Conv kk (N+16*init.length) (E init.length) (T init.length) (N+16*init.length) JZ h2/\acs P last (N+16*init.length) JZ h2 K)
 (v':∀e s φ S a w,K e s->Rel cv nt φ S e s (B' (lt (N+16*init.length)) (N+16*init.length)) a w->Q .normal a w):
 ∀(fuel:Nat) (listed:Array Bool) φ S env J a w,listed.size=init.length+1->listed.getD init.length false=false->listed.toList.countP (· ==false)<=fuel->Inv xb cv nt init D N E T G W listed.pop φ S env J a w->wpAny P .any ops Q fuel listed a w:=by
 have hlen:=adZ hres;simp at hlen;have aox:∀(listed:Array Bool) (φ:q4) (S:r3) (env:Env) (J:ep) (a:Act) (w:World),listed.size=init.length+1->listed.getD init.length false=false->Inv xb cv nt init D N E T G W listed.pop φ S env J a w->Region.ready .any ops listed≠[]:=by
  intro listed φ S env J a w hs hm k5 M3;have ny:∀i,i < init.length->listed.getD i false=true:=by
   intro i
   induction i using Nat.strongRecOn with
   | _ i ih=>
    intro al;cases aJ:listed.getD i false with
    | true=>rfl
    | false=>
     exfalso
     have aaz:i < ops.size:=by omega
     have c7:ops[i]?=some ops[i]:=ajR aaz;have:i∈Region.ready .any ops listed:=by
      rw[mem_ready];refine⟨?_,ops[i],c7,λe he ai=>?_⟩
      . grind
      . have a6:e.on∈D i:=by
         rw[RX i _ c7];simp only[MO,LV,ags]
         grind
        exact ih e.on (st.back i _ al a6) (by have:=st.back i _ al a6;omega)
     grind
  have aaz:init.length < ops.size:=by omega
  have c7:ops[init.length]?=some ops[init.length]:=ajR aaz;have:init.length∈Region.ready .any ops listed:=by
   rw[mem_ready];refine⟨?_,ops[init.length],c7,λe he ai=>?_⟩
   . grind
   . have a6:e.on∈D init.length:=by
      rw[RX _ _ c7];simp only[MO,LV,ags]
      grind
     grind
  grind
 intro fuel
 induction fuel with
 | zero=>
  intro listed φ S env J a w hs hm ay k5
  exfalso
  have MH:init.length < listed.size:=by omega
  have h0:listed.toList.countP (· ==false)=0:=by omega
  rw[List.countP_eq_zero]at h0;simp[MH]at hm;exact h0 listed[init.length] (by simp) (by simp[hm])
 | succ fuel ih=>
  intro listed φ S env J a w hs hm ay k5;refine⟨λM3=>absurd M3 (aox listed φ S env J a w hs hm k5),λi al=>?_⟩;rw[mem_ready]at al;obtain⟨h1,o,c7,aJ7⟩:=al;have aaz:i < ops.size:=(agx.1 c7).1;have MH:i < listed.size:=by omega
  have g':listed.getD i false=false:=by simp[MH]at h1 ⊢;exact h1
  obtain⟨qy,O',ajr⟩:=als hres (i:=i) (o:=o) (by simpa using c7);have a6:∀d,d∈D i->listed.getD d false=true:=by
   intro d a6;rw[RX i o c7]at a6;simp only[MO,LV,ags]at a6
   grind
  have aJ0:listed.toList.countP (· ==false)<=fuel+1->(listed.setIfInBounds i true).toList.countP (· ==false)<=fuel:=by
   intro ay;have:listed.toList[i]?=some false:=by simp[MH]at g' ⊢;exact g'
   grind
  rcases Nat.lt_or_ge i init.length with Xq | Xq
  ·
   have afD:init[i]?=some qy:=by rw[V2 Xq]at O';exact O'
   have JF:∀d,d∈D i->listed.pop.getD d false=true:=λd NW=>by rw[aiF hs (by have:=st.back i d Xq NW;omega)];exact a6 d NW
   have aok:listed.pop.getD i false=false:=by rw[aiF hs Xq];exact g'
   obtain⟨anS,Xl⟩:=k5.agree st ar afD aok JF;obtain⟨⟨gC,n2,kx⟩,_⟩:=(ar.step i qy afD).1.local (env':=env) (J':=J) anS Xl;have NZ:=ahp k5.rel (key:=N+16*i) (λb J4 JE=>ars aok J4 JE) ajr (K:=λe s=>e=zt env qy.dst (G i) (W i)/\s=gC) (n2.MC ⟨rfl,rfl⟩) (Q:=Q)
   have next:∀pa w',P2 cv nt (B' (used N init.length listed.pop) (N+16*i)) (λe s=>e=zt env qy.dst (G i) (W i)/\s=gC) pa w'->wpAny P .any ops Q fuel (listed.setIfInBounds i true) pa w':=by
    rintro pa w' ⟨hn,hK,e,s,⟨rfl,rfl⟩,R'⟩
    have a7:=aHl (listed:=listed) (i:=i) (m:=init.length) hs Xq;refine ih (listed.setIfInBounds i true) hn hK _ _ pa w' (by simpa using hs) ?_ (aJ0 ay) (by rw[a7];exact k5.step st ar afD aok JF kx R');rw[RD MH,b' (by omega)];exact hm
   unfold wpOp;rw[c7];dsimp only;split at NZ
   . rename_i hw;rw[b6 hw];exact .inl (Oper.wp_mono next NZ)
   . rename_i hw;rw[b' hw];exact next _ _ NZ
  ·
   have al:i=init.length:=by omega
   subst al;have afD:qy=last:=by grind
   subst afD;have ny:∀j,j < init.length->listed.pop.getD j false=true:=by
    refine aKy (λj=>listed.pop.getD j false) (λj dx a7 d NW=>k5.down j dx a7 d NW) (λd NW=>?_);rw[aiF hs (anW d NW)];exact a6 d NW
   have R:=k5.done st ar ny;obtain⟨JZ,h2,afI,NZ⟩:=ns;obtain⟨XW,akA,ad2⟩:=afI cv nt φ S a w j1 R;have Sj:=arC ad2 ajr NZ (Q:=Q);have next:∀pa w',P2 cv nt (B' (lt (N+16*init.length)) (N+16*init.length)) K pa w'->wpAny P .any ops Q fuel (listed.setIfInBounds init.length true) pa w':=by
    rintro pa w' ⟨hn,hK,e,s,Xk,R'⟩
    refine aGJ (by simp[hs,hlen]) (λj dx=>?_) (v' e s hn hK pa w' Xk R');rw[RD MH];split
    . rfl
    . rename_i hv;have Qb:j < init.length:=by omega
      rw[<-aiF hs Qb];exact ny j Qb
   unfold wpOp;rw[c7];dsimp only;split at Sj
   . rename_i hw;rw[b6 hw];exact .inl (Oper.wp_mono next Sj)
   . rename_i hw;rw[b' hw];exact next _ _ Sj
theorem k1.aLY {K1:List (Nat×Nat)} {env:Env} {J:ep} {Q:Exit -> Env -> ep -> Nat -> Prop} (hm:aia (init.length+1) K1=true)
 (h:ae' xb P init N env J (λe s=>QI xb init e N K1=true/\Yw P kk [last] (N+16*init.length) e s (λe s=>Q .normal e s (N+16*init.length+16)))):k1 P nt kk (.V8 (init++[last]) K1) env J N Q:=by
 intro code ay cv φ S a w j1 R;obtain⟨id,ops,rfl,hres,NY,aoj,rfl⟩:=arj ay;have hlen:=adZ hres;simp at hlen;have s4:(mt ops (init++[last])).length=init.length+1:=by simp[mt,hlen]
 obtain⟨aKz,axc,JQ⟩:=aEo (l:=mt ops (init++[last])) (by rw[s4];exact hm);obtain⟨E,T,G,W,ar,vK,t0,UC,v'⟩:=amy h
 have axC:(mt ops (init++[last])).dropLast=mt ops.pop init:=by
  obtain⟨Jg,x,aa⟩:∃Jg x,ops.toList=Jg++[x]:=by
   cases aJ:ops.toList.reverse with
   | nil=>exfalso;have h1:=Jj List.length aJ;rw[List.length_reverse,Y7,Y']at h1;omega
   | cons x r=>exact⟨r.reverse,x,by have:=Jj List.reverse aJ;simpa using this⟩
  have MI:Jg.length=init.length:=by have h1:=Jj List.length aa;rw[Y7,MM,List.length_singleton]at h1;omega
  unfold mt;rw[Array.toList_pop,aa,Za,List.zip_append (by simp[MI])];simp
 rw[axC]at axc;have aJ1:QI xb init (E init.length) N (RE (mt ops.pop init))=true:=ali (λp a7=>JQ p (by rw[axC];exact a7)) UC;have n2:=avp (ops:=ops.pop) (by simp;omega) axc ar aJ1
 let D:Nat->List Nat:=λi=>((ops[i]?).map MO).getD []
 have anM:∀i,i < init.length->((ops.pop[i]?).map MO).getD []=D i:=by grind
 have st:Stat xb init D E N:=by
  refine⟨λi d al a6=>n2.back i d al (by rw[anM i al];exact a6),λi j x y d aa b8 axR=>?_,λi j b hv al dx hw ai=>?_⟩
  . have al:=(pJ.1 aa).1;have dx:=(pJ.1 b8).1;have:=n2.adj i j x y d aa b8 axR
    grind
  . rcases n2.ord i j b hv al dx hw ai with⟨h1,ah⟩ | ⟨h1,ah⟩
    . exact .inl ⟨h1,ah.congr n2.back anM dx⟩
    . exact .inr ⟨h1,ah.congr n2.back anM al⟩
 have aoJ:∀(i:Nat) x,(mt ops (init++[last]))[i]?=some x->D i=x.2:=by
  intro i x aa;unfold mt at aa
  grind
 refine wp_region_any aoj ?_;have NZ:∃JZ h2,Conv kk (N+16*init.length) (E init.length) (T init.length) (N+16*init.length) JZ h2/\acs P last (N+16*init.length) JZ h2 (λe s=>Q .normal e s (N+16*init.length+16)):=v';have aJQ:∀d,d∈D init.length->d < init.length:=by
  intro d a6;simp only[Z3,kc]at NY;have aa:(mt ops (init++[last]))[init.length]?=some (mt ops (init++[last]))[init.length]:=CJ (by omega);have:=alE NY.1.1 aa d (by rw[<-aoJ _ _ aa];exact a6);omega
 refine aFT (cv:=cv) (nt:=nt) (D:=D) st ar hres (λi o c7=>by simp[D,c7]) (λp h1 ah=>aFS s4 aKz aoJ h1 ah) aJQ j1 NZ (λe s φ S a w ee R'=>⟨φ,S,e,s,_,ee,R'.more λb ai=>ame ai⟩) ops.size _ φ S env J a _ ?_ ?_ ?_ ?_
 . simp[hlen]
 . rw[ajP,Array.getElem?_replicate];split <;> rfl
 . have:=List.countP_le_length (p:=λx:Bool=>x==false) (l:=(Array.replicate ops.size false).toList)
   simpa using this
 . have R':Rel cv nt φ S env J (lt N) a {w with drawn:=w.drawn+1}:=R.drew;have aoy:∀i,(Array.replicate ops.size false).pop.getD i false=true->False:=by
    intro i aJ;simp only[ajP,Array.getElem?_pop]at aJ
    grind
   refine⟨R'.more λb ai=>by simp[used,ai],by simp;omega,λi al aJ=>(aoy i aJ).elim,λt _=>by rw[vK],λt i o c7 aJ=>(aoy i aJ).elim,λb _=>by rw[t0],λb i al aJ=>(aoy i aJ).elim⟩
end
end
end Go.Proofs.YtijpinendaoleaaGreat.Shv
