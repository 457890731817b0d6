/- The library of this proof, part C: an abstract machine for the code of the program, and its soundness. -/
import Derived.Test.YtijpinendaoleaaGreatRhLB

namespace Go.Proofs.YtijpinendaoleaaGreat.Shv
set_option linter.all false
section
open Go
variable {xb:List Nat}
def VQ(xb:List Nat)(fJ:List kx)(env:Env)(N:Nat):List (Nat×Nat)->Bool
 | []=>true
 | (i,j)::r=>(match fJ[i]?,fJ[j]? with
  | some x,some y=>(Jz xb y.op env (N+16*j)).all λb=>!(o' xb x.op env (N+16*i) b)
  | _,_=>true) && VQ xb fJ env N r
theorem aFd{fJ:List kx}{env:Env}{N:Nat}:∀{ND:List (Nat×Nat)} {i j:Nat} {x y:kx},VQ xb fJ env N ND=true->(i,j)∈ND->fJ[i]?=some x->fJ[j]?=some y->∀b,b∈Jz xb y.op env (N+16*j)->o' xb x.op env (N+16*i) b=false
 | [],i,j,x,y,h,hm,_,_,_,_=>by simp at hm
 | (i0,a3S)::r,i,j,x,y,h,hm,ad,bJ,b,al=>by
  simp only[VQ,k0]at h;rcases LJ.1 hm with e | hm
  . grind
  . exact aFd h.2 hm ad bJ b al
section
variable {P:Program} {c9:Ctx} {nt kk:Nat} {N:Nat} {ops:Array Oper} {fJ:List kx} {E:Nat->Env} {T:Nat->fu} {G:Nat->Bool} {W:Nat->V}
theorem aST{i:Nat}{o:Oper}{x:kx}(c8:ops[i]?=some o)(ad:fJ[i]?=some x):(LX ops fJ)[i]?=some (x,OZ o):=by
 unfold LX
 grind
theorem aHK(hlen:fJ.length=ops.size)(Np:ae0 (LX ops fJ)=true)(ar:aax xb P fJ N E T G W)(aZy:VQ xb fJ (E fJ.length) N (WQ (LX ops fJ))=true):
 Stat xb fJ (λi=>((ops[i]?).map OZ).getD []) E N:=by
 simp only[ae0,k0]at Np;obtain⟨⟨axI,aKp⟩,_⟩:=Np;have x':∀i,i < fJ.length->∃o x,ops[i]?=some o/\fJ[i]?=some x/\(LX ops fJ)[i]?=some (x,OZ o):=by
  intro i ay;have c8:ops[i]?=some ops[i]:=asg (by omega);have ad:fJ[i]?=some fJ[i]:=J9 ay;exact⟨_,_,c8,ad,aST c8 ad⟩
 have a3p:∀i j,ahead (LX ops fJ) j i=true->j < i/\j∈((ops[i]?).map OZ).getD []:=by
  intro i j h;obtain⟨h1,y,ah,b'⟩:=aUX h;refine⟨h1,?_⟩;have ay:i < fJ.length:=by
   have:=(sb.1 ah).1;unfold LX at this;simp at this;omega
  grind
 have aKq:∀(i j:Nat) (x y:kx) (d:Nat),fJ[i]?=some x->fJ[j]?=some y->y.dst=some d->(d∈x.rd->(j < i/\j∈((ops[i]?).map OZ).getD [])\/(x.op.neutral=true/\x.op.QZ=false/\i < j/\i∈((ops[j]?).map OZ).getD []))/\(i=j\/x.dst≠some d):=by
  intro i j x y d ad bJ aKB;obtain⟨aap,jb,aKb,Ly,arB⟩:=x' i (sb.1 ad).1;obtain⟨asy,P4,aKc,ON,arC⟩:=x' j (sb.1 bJ).1;rw[ad]at Ly;cases Ly;rw[bJ]at ON;cases ON;simp only[aLF,r0]at aKp;have h1:=aKp ((x,OZ aap),i) (JX (i:=i) (by simp[aso,arB]))
  have ah:=h1 ((y,OZ asy),j) (JX (i:=j) (by simp[aso,arC]))
  grind
 refine⟨λi d ay a7=>?_,aKq,?_⟩
 . obtain⟨o,x,c8,ad,vK⟩:=x' i ay;rw[c8]at a7;have:=atO axI vK d a7;omega
 ·
  have aJ3:∀(i:Nat) (x:kx),fJ[i]?=some x->¬(x.op.neutral=true/\x.op.QZ=false)->∀t,t∈x.op.reads->look (E fJ.length) t=look (E i) t:=by
   intro i x ad Ul t ht;have ay:=(sb.1 ad).1;refine ahX ar (by omega) (JK _) λj y am' ana bJ KX=>?_
   rcases (aKq i j x y t ad bJ KX).1 (aGT ht)with h | h
   . omega
   grind
  have a3E:∀i j,ZR (YU (LX ops fJ) []) j i=true->j < i/\Ta (λi=>((ops[i]?).map OZ).getD []) j i:=by
   intro i j h;simp only[ZR,k0,ye,List.contains_iff_mem]at h;refine⟨h.1,aDQ (l:=LX ops fJ) (acc:=[]) (λk x ad=>?_) (λi j c7=>by simp at c7) i j h.2⟩;have hk:k < fJ.length:=by
    have:=(sb.1 ad).1;unfold LX at this;simp at this;omega
   grind
  have ayj:∀(i j:Nat) (x y:kx) (b:Nat),i≠j->fJ[i]?=some x->fJ[j]?=some y->o' xb x.op (E i) (N+16*i) b=true->b∈Jz xb y.op (E j) (N+16*j)->ZR (YU (LX ops fJ) []) i j=true\/ZR (YU (LX ops fJ) []) j i=true:=by
   intro i j x y b hG ad bJ hw al;by_cases h1:ZR (YU (LX ops fJ) []) i j=true
   . grind
   . by_cases ah:ZR (YU (LX ops fJ) []) j i=true
     . grind
     . exfalso
       obtain⟨aap,jb,aKb,Ly,arB⟩:=x' i (sb.1 ad).1;obtain⟨asy,P4,aKc,ON,arC⟩:=x' j (sb.1 bJ).1;rw[ad]at Ly;cases Ly;rw[bJ]at ON;cases ON;have ht:y.op.QZ=true:=by
        cases h:y.op.QZ with
        | true=>rfl
        | false=>rw[aSx h]at al;simp at al
       have hm:(i,j)∈WQ (LX ops fJ):=by
        simp only[WQ,auT,ay8];refine⟨((x,OZ aap),i),JX (i:=i) (by simp[aso,arB]),?_⟩;dsimp only;rw[aF4 hw];simp only[q2,uJ,List.mem_filterMap];refine⟨((y,OZ asy),j),JX (i:=j) (by simp[aso,arC]),?_⟩
        grind
       have:=aFd aZy hm ad bJ b (by rw[aUW (aJ3 j y bJ (λh=>by rw[ht]at h;cases h.2))];exact al);rw[aUV (aJ3 i x ad (λh=>by rw[aF4 hw]at h;cases h.1))]at this
       grind
  intro i j b hG ay c7 hw al;obtain⟨aap,x,aKb,ad,arB⟩:=x' i ay;obtain⟨asy,y,aKc,bJ,arC⟩:=x' j c7;have ar7:o' xb x.op (E i) (N+16*i) b=true:=by unfold Qu at hw;rw[ad]at hw;exact hw
  have conv:(ZR (YU (LX ops fJ) []) i j=true\/ZR (YU (LX ops fJ) []) j i=true)->(i < j/\Ta (λi=>((ops[i]?).map OZ).getD []) i j)\/(j < i/\Ta (λi=>((ops[i]?).map OZ).getD []) j i):=by grind
  rcases al with⟨P4,ON,al⟩ | al
  . rw[bJ]at ON;cases ON;exact conv (ayj i j x y b hG ad bJ ar7 al)
  . have ayw:o' xb y.op (E j) (N+16*j) b=true:=by unfold Qu at al;rw[bJ]at al;exact al
    cases rJ:y.op.QZ with
    | true=>exact conv (ayj i j x y b hG ad bJ ar7 (aFb rJ ayw))
    | false=>
     cases aKv:x.op.QZ with
     | true=>exact conv (ayj j i y x b (EI hG) bJ ad ayw (aFb aKv ar7)).symm
     | false=>
      have h1:=aHJ aKv ar7;have ah:=aHJ rJ ayw
      exfalso;omega
theorem atF{fJ:List kx}{env:Env}{N:Nat}:∀{l m:List (Nat×Nat)},(∀p,p∈l->p∈m)->VQ xb fJ env N m=true->VQ xb fJ env N l=true
 | [],_,_,_=>rfl
 | (i,j)::r,m,hs,h=>by
  simp only[VQ,k0];refine⟨?_,atF (λp bo=>hs p (ayY _ bo)) h⟩
  have : ∀ (m : List (Nat×Nat)), (i, j) ∈ m -> VQ xb fJ env N m = true -> (match fJ[i]?, fJ[j]? with
   | some x,some y=>(Jz xb y.op env (N+16*j)).all λb=>!(o' xb x.op env (N+16*i) b)
   | _,_=>true)=true:=by
   intro m
   induction m with
   | nil=>intro h _;simp at h
   | cons q m ih=>
    intro hm b7;obtain⟨a4a,a4b⟩:=q;simp only[VQ,k0]at b7
    grind
  grind
theorem aUY{l:List (kx×List Nat)}{p:Nat×Nat}(h:p∈WQ l):p∈afL l:=by
 unfold afL
 grind
theorem l'.aar{ND:List (Nat×Nat)}{env:Env}{J:fu}{Q:Exit->Env->fu->Nat->Prop}(h:aml xb P fJ N env J (λe s=>VQ xb fJ e N ND=true/\Q .normal e s (N+16*fJ.length))):l' P nt kk (.aar fJ ND) env J N Q:=by
 intro code b7 c9 φ S a w k6 R;obtain⟨id,ops,rfl,hres,Np,ax9,rfl⟩:=aDh b7;have hlen:=akX hres;simp at hlen;obtain⟨E,T,G,W,ar,u1,t0,abL,Jb⟩:=awc h;refine wp_region_any ax9 ?_;refine aSS (c9:=c9) (nt:=nt) (aHK hlen Np ar (atF (λp bo=>aUY bo) abL)) ar hres (λi o c8=>by simp[c8]) (λφ S a w R'=>⟨φ,S,_,_,_,Jb,R'⟩) ops.size _ φ S env J a _ ?_ ?_
 . have:=List.countP_le_length (p:=λx:Bool=>x==false) (l:=(Array.replicate ops.size false).toList)
   grind
 . have R':Rel c9 nt φ S env J (lt N) a {w with drawn:=w.drawn+1}:=R.drew;refine⟨R'.more λb al=>by simp[used,al],by simp[hlen],λi ay a6=>?_,λt _=>by rw[u1],λt i o c8 a6=>?_,λb _=>by rw[t0],λb i ay a6=>?_⟩
   . simp_all
   . exfalso;simp[Array.getElem?_replicate]at a6;split at a6 <;> simp at a6
   simp_all
end
end
section
open Go
def as3(P:Program)(c:Code)(Q:Exit->Act->World->Prop)(a:Act)(w:World):Prop:=
 ∀(b:Frame) (k:List Item) (cs:List Frame),∃e q' w',Q e q' w'/\Arrives P (lone (b.at a (.code c:: .inLoop c::k)) cs w) b k cs e q' w'
theorem aUZ{P:Program}{c:Code}{Q:Exit->Act->World->Prop}{a:Act}{w:World}(h:c.wp P (Exit.then (as3 P c Q) Q) a w):as3 P c Q a w:=by
 intro b k cs;obtain⟨e,al1,aoR,eg,adu⟩:=h b (.inLoop c::k) cs;cases e with
 | normal=>
  obtain⟨aOM,aNc,a2B,a0n,aZl⟩:=eg b k cs;exact⟨aOM,aNc,a2B,a0n,.of_steps (Steps.trans adu (.one step_inLoop)) aZl⟩
 | exit id=>exact⟨_,al1,aoR,eg,.pass (x:= .inLoop c) rfl (λ_ _=>.inl (by simp)) adu⟩
 | goto l=>exact⟨_,al1,aoR,eg,.pass (x:= .inLoop c) rfl (λ_ _=>.inl (by simp)) adu⟩
 | ret=>exact⟨_,al1,aoR,eg,.pass (x:= .inLoop c) rfl (λ_ _=>.inl (by simp)) adu⟩
 | panic aA0=>exact⟨_,al1,aoR,eg,.pass (x:= .inLoop c) rfl (λ_ _=>.inl (by simp)) adu⟩
 | outgrown=>exact⟨_,al1,aoR,eg,.pass (x:= .inLoop c) rfl (λ_ _=>.inl (by simp)) adu⟩
theorem aT7{P:Program}{c:Code}{Q:Exit->Act->World->Prop}{a:Act}{w:World}(h:as3 P c Q a w):(Code.loop c).wp P Q a w:=by
 intro b k cs;obtain⟨e,q',w',eg,adu⟩:=h b k cs;exact⟨e,q',w',eg,.of_steps (.one step_loop) adu⟩
section
variable {P:Program} {nt kk:Nat} {env env':Env} {J J':fu} {N N':Nat} {Q ZX:Exit->Env->fu->Nat->Prop}
def Yo(P:Program)(nt kk:Nat)(c:y')(env:Env)(J:fu)(N:Nat)(Q:Exit->Env->fu->Nat->Prop):Prop:=
 ∀code,resolve P nt code=some c->∀c9 φ S a w,c9.k=kk->Rel c9 nt φ S env J (lt N) a w->as3 P code (λe q' w'=>∃hK ik env' J' N',Q e env' J' N'/\Rel c9 nt hK ik env' J' (lt N') q' w') a w
theorem Yo.round{c:y'}(h:l' P nt kk c env J N (andThen (λenv J N=>Yo P nt kk c env J N Q) Q)):Yo P nt kk c env J N Q:=by
 intro code b7 c9 φ S a w k6 R;refine aUZ (wp_mono (h code b7 c9 φ S a w k6 R) ?_)
 rintro e q' w' ⟨hK,ik,env',J',N',eg,R'⟩
 cases e with
 | normal=>exact eg code b7 c9 hK ik q' w' k6 R'
 | _=>exact⟨hK,ik,env',J',N',eg,R'⟩
theorem l'.a09{c:y'}(h:Yo P nt kk c env J N Q):l' P nt kk (.loop c) env J N Q:=by
 intro code b7 c9 φ S a w k6 R;obtain⟨b,rfl,al⟩:=aRs b7;exact aT7 (h b al c9 φ S a w k6 R)
def Conv(kk N:Nat)(env:Env)(J:fu)(N':Nat)(env':Env)(J':fu):Prop:=
 ∀c9 nt φ S a w,c9.k=kk->Rel c9 nt φ S env J (lt N) a w->∃hK ik,Rel c9 nt hK ik env' J' (lt N') a w
theorem Conv.refl{kk N:Nat}:Conv kk N env J N env J:=λ_ _ φ S _ _ _ R=>⟨φ,S,R⟩
theorem Conv.trans{kk WB VD aj2:Nat}{eh hj I2:Env}{s1 s2 Wm:fu}(h:Conv kk WB eh s1 VD hj s2)(k:Conv kk VD hj s2 aj2 I2 Wm):Conv kk WB eh s1 aj2 I2 Wm:=
 λc9 nt φ S a w hk R=>let⟨hK,ik,R'⟩:=h c9 nt φ S a w hk R;k c9 nt hK ik a w hk R'
theorem l'.conv{c:y'}(b7:Conv kk N env J N' env' J')(h:l' P nt kk c env' J' N' Q):l' P nt kk c env J N Q:=
 λcode amZ c9 φ S a w k6 R=>let⟨hK,ik,R'⟩:=b7 c9 nt φ S a w k6 R;h code amZ c9 hK ik a w k6 R'
theorem Yo.conv{c:y'}(b7:Conv kk N env J N' env' J')(h:Yo P nt kk c env' J' N' Q):Yo P nt kk c env J N Q:=
 λcode amZ c9 φ S a w k6 R=>let⟨hK,ik,R'⟩:=b7 c9 nt φ S a w k6 R;h code amZ c9 hK ik a w k6 R'
theorem Conv.tidy(ks bs:List Nat)(ix:bs.Nodup)(hk:keeps kk bs=true):Conv kk N env J bs.length (ZQ bs env ks) (MC bs J 0 bs):=
 λc9 nt φ S a w k6 R=>let⟨hK,R'⟩:=R.tidy ks bs ix (by rw[k6];exact hk);⟨hK,S,R'⟩
theorem Conv.freeze(b0:Nat){y2:Nat}{es:List (List T)}(l1:e1 J b0=some (.arr y2 es)):Conv kk N env J N (acu b0 y2 es env) (YY b0 y2 es J):=
 λc9 nt φ S a w k6 R=>⟨φ,_,R.freeze l1⟩
def yq(c C4:C):Prop:=(∀φ w S v,ho φ w S c v->ho φ w S C4 v)/\∀n,c.c' n=true->C4.c' n=true
theorem yq.refl(c:C):yq c c:=⟨λ_ _ _ _ h=>h,λ_ h=>h⟩
theorem yq.dead(c:C):yq c .dead:=⟨λ_ _ _ _ h=>h.S1,λ_ _=>rfl⟩
theorem yq.ee :yq .ee (.t (.slice [])):=by
 refine⟨?_,λ_ _=>rfl⟩
 rintro φ w S v ⟨a,rfl⟩
 exact k1.slice [] a 0 0 0 0 (λ_ _=>undef) (by simp) (by simp) (by simp) (by simp) (by simp) (by simp)
inductive NT:V->V->Prop
 | c {x y}:yq x y->NT (.c x) (.c y)
 | agg {xs ys}:f' yq xs ys->NT (.agg xs) (.agg ys)
 | gJ (xs ys:List V) (a6:xs.length=ys.length) (h:∀(i:Nat) x y,xs[i]?=some x->ys[i]?=some y->NT x y):NT (.gJ xs) (.gJ ys)
theorem f'.comp{α β Ky:Type}{R:α->β->Prop}{R':β->Ky->Prop}{aAF:α->Ky->Prop}(h:∀a b c,R a b->R' b c->aAF a c):∀{l:List α} {m:List β} {k:List Ky},f' R l m->f' R' m k->f' aAF l k
 | [],[],[],_,_=>.nil
 | _::_,_::_,_::_,.cons h1 ah,.cons hg hv=>.cons (h _ _ _ h1 hg) (f'.comp h ah hv)
theorem f'.flip{α β:Type}{R:α->β->Prop}{R':β->α->Prop}{l:List α}{m:List β}(h:f' R l m)(k:∀a b,R a b->R' b a):f' R' m l:=by
 induction h with
 | nil=>exact .nil
 | cons h _ ih=>exact .cons (k _ _ h) ih
theorem aAW{n:Nat->Bool}:∀{vs:List V},(∀(i:Nat) v,vs[i]?=some v->v.c' n=true)->V.c'.V.Is n vs=true
 | [],_=>rfl
 | v::vs,h=>by simp only[V.c'.V.Is,k0];exact⟨h 0 v rfl,aAW λi x ad=>h (i+1) x (by simpa using ad)⟩
theorem NT.aas{φ:vt}{w:World}{S:y0}{v Lr:V}(h:NT v Lr):∀{x},k' φ w S v x->k' φ w S Lr x:=by
 induction h with
 | c h=>intro x ad;cases ad with | c ad=>exact .c (h.1 _ _ _ _ ad)
 | agg h=>
  intro x ad;cases ad with
  | agg ad=>exact .agg (f'.comp (λa b c h1 ah=>h1.1 _ _ _ _ ah) (h.flip (R':=λb a=>yq a b) λ_ _ h=>h) ad)
 | gJ xs ys a6 h ih=>
  intro x ad;cases ad with
  | gJ _ B' E8 ah=>
   refine .gJ _ B' (by omega) ?_
   grind
theorem NT.c'{v Lr:V}(h:NT v Lr)(n:Nat->Bool):v.c' n=true->Lr.c' n=true:=by
 induction h with
 | c h=>intro al;exact h.2 n al
 | @agg xs ys h=>
  intro al;simp only[V.c',r0]at al ⊢;intro c b7;obtain⟨i,ay,rfl⟩:=OR b7;obtain⟨a,ch,hs⟩:=(h.flip (R':=λb a=>yq a b) λ_ _ h=>h).get (J9 ay);exact hs.2 n (al a (JX ch))
 | gJ xs ys a6 h ih=>
  intro al;simp only[V.c']at al ⊢;refine aAW λi v cv=>?_
  have ay:i < xs.length:=by rw[a6];exact(sb.1 cv).1
  exact ih i _ _ (J9 ay) cv (ZL al (J9 ay))
inductive UB:h2->h2->Prop
 | box {xs ys}:f' yq xs ys->UB (.box xs) (.box ys)
 | arr {sz es}:UB (.arr sz es) (.arr sz es)
 | same {x}:UB x x
 | kn {E c C4}:yq c C4->UB (.kn E c) (.kn E C4)
 | nJ {sz es i o c C4}:yq c C4->UB (.nJ sz es i o c) (.nJ sz es i o C4)
def aHj(env env':Env):Prop:=∀k g Lr,look env' k=some (g,Lr)->∃v,look env k=some (g,v)/\NT v Lr
def afs(J J':fu):Prop:=∀b jb,e1 J' b=some jb->∃x,e1 J b=some x/\UB x jb
theorem UB.azB{φ:vt}{w:World}{S:y0}{b:Nat}{x jb:h2}(h:UB x jb)(ar:r2 φ w S b x):r2 φ w S b jb:=by
 cases h with
 | arr=>exact ar
 | same=>exact ar
 | kn h=>
  obtain⟨h0,⟨p,v,h1,ah,b'⟩,ea⟩:=ar;exact⟨h0,⟨p,v,h1,ah,h.1 _ _ _ _ b'⟩,ea⟩
 | nJ h=>
  obtain⟨h1,⟨vs,E,hg,hv,h3,v,oo,u2⟩,s3⟩:=ar;exact⟨h1,⟨vs,E,hg,hv,h3,v,oo,h.1 _ _ _ _ u2⟩,s3⟩
 | box h=>
  obtain⟨h0,vs,E,h1,ah,b'⟩:=ar;exact⟨h0,vs,E,h1,f'.comp (λa b c h1 ah=>h1.1 _ _ _ _ ah) (h.flip (R':=λb a=>yq a b) λ_ _ h=>h) ah,b'⟩
theorem UB.c'{x jb:h2}(h:UB x jb)(n:Nat->Bool)(al:x.c' n=true):jb.c' n=true:=by
 cases h with
 | arr=>exact al
 | same=>exact al
 | kn h=>exact h.2 n al
 | nJ h=>exact h.2 n al
 | @box xs ys h=>
  have:=NT.c' (.agg h) n (by simpa[V.c',h2.c']using al)
  simpa[V.c',h2.c']using this
theorem Rel.weaken{c9:Ctx}{φ:vt}{S:y0}{n:Nat->Bool}{a:Act}{w:World}(R:Rel c9 nt φ S env J n a w)(he:aHj env env')(hs:afs J J'):Rel c9 nt φ S env' J' n a w:=by
 refine⟨⟨λb x ad=>?_,λb hq x y ad bJ=>?_,R.h'.st⟩,λk g v a6 b9=>?_,λk g v a6 b9=>?_,λk g v a6 b9=>?_,λb x ad=>?_,R.size,R.defers,R.ext,λb x ad=>?_,R.fix,R.Nu⟩
 . obtain⟨a',h1,ah⟩:=hs b x ad;exact ah.azB (R.h'.blk b a' h1)
 . obtain⟨a',h1,ah⟩:=hs b x ad;obtain⟨Vz,hg,hv⟩:=hs hq y bJ;exact R.h'.inj b hq a' Vz h1 hg
 . obtain⟨v0,h1,ah⟩:=he k g v a6;obtain⟨x,ad,ar⟩:=R.Ot k g v0 h1 b9;exact⟨x,ad,ah.aas ar⟩
 . obtain⟨v0,h1,ah⟩:=he k g v a6;exact R.PK k g v0 h1 b9
 . obtain⟨v0,h1,ah⟩:=he k g v a6;exact ah.c' n (R.Oq k g v0 h1 b9)
 . obtain⟨a',h1,ah⟩:=hs b x ad;exact⟨(R.HJ b a' h1).1,ah.c' n (R.HJ b a' h1).2⟩
 . obtain⟨a',h1,ah⟩:=hs b x ad;exact R.own b a' h1
theorem Conv.weaken(he:aHj env env')(hs:afs J J'):Conv kk N env J N env' J':=λc9 nt φ S a w _ R=>⟨φ,S,R.weaken he hs⟩
theorem Rel.ayN{c9:Ctx}{φ:vt}{S:y0}{a:Act}{w:World}(R:Rel c9 nt φ S env J (lt N) a w){sz:Nat}(h6:0 < sz)(hk:c9.k <=N):
 Rel c9 nt (M7 φ N (0,0)) S env (vc J N (.arr sz [])) (lt (N+1)) a w:=by
 have n1:∀b,lt N b=true->M7 φ N (0,0) b=φ b:=by
  intro b al;simp only[lt,ye]at al;simp only[M7]
  grind
 have hm:∀b,lt N b=true->lt (N+1) b=true:=λb al=>aHI (by omega) al
 have k2:=R.aok n1;have lo:(M7 φ N (0,0) N).2=0:=by simp[M7]
 have x':∀b x,e1 (vc J N (.arr sz [])) b=some x->(b=N/\x= .arr sz [])\/(b≠N/\e1 J b=some x):=by
  intro b x ad;rw[q6]at ad
  grind
 refine⟨⟨λb x ad=>?_,λb hq x y ad bJ hG h0 Jj=>?_,k2.h'.st⟩,k2.Ot,k2.PK,λk g v a6 b9=>V.O5 hm (k2.Oq k g v a6 b9),λb x ad=>?_,k2.size,k2.defers,k2.ext,λb x ad h0=>?_,k2.fix,λb al=>by simp only[lt,ye];omega⟩
 . rcases x' b x ad with⟨rfl,rfl⟩ | ⟨_,ad⟩
   . exact⟨by simp,by simp,by simp,h6,λh=>absurd lo h⟩
   . exact k2.h'.blk b x ad
 . rcases x' b x ad with⟨rfl,rfl⟩ | ⟨_,ad⟩
   . exact absurd lo h0
   . rcases x' hq y bJ with⟨rfl,rfl⟩ | ⟨_,bJ⟩
     . exact absurd lo Jj
     . exact k2.h'.inj b hq x y ad bJ hG h0 Jj
 . rcases x' b x ad with⟨rfl,rfl⟩ | ⟨_,ad⟩
   . exact⟨by simp[lt],rfl⟩
   . exact⟨hm b (k2.HJ b x ad).1,h2.O5 hm (k2.HJ b x ad).2⟩
 . rcases x' b x ad with⟨rfl,rfl⟩ | ⟨_,ad⟩
   . exact absurd lo h0
   . exact k2.own b x ad h0
end
inductive eb where
 | bool
 | int (k:IntKind)
 | str
 | slice (t:eb)
 | nm (n:Nat)
def eb.beq :eb->eb->Bool
 | .bool,.bool=>true
 | .int k,.int ka=>decide (k=ka)
 | .str,.str=>true
 | .slice r,.slice I1=>eb.beq r I1
 | .nm n,.nm m=>Nat.beq n m
 | _,_=>false
theorem eb.beq_eq :∀{a b:eb},eb.beq a b=true->a=b
 | .bool,.bool,_=>rfl
 | .int k,.int ka,h=>by simp[eb.beq]at h;rw[h]
 | .str,.str,_=>rfl
 | .slice r,.slice I1,h=>by simp only[eb.beq]at h;rw[eb.beq_eq h]
 | .nm n,.nm m,h=>by simp only[eb.beq]at h;rw[Nat.eq_of_beq_eq_true h]
 | .bool,.int _,h | .bool,.str,h | .bool,.slice _,h | .bool,.nm _,h=>by simp[eb.beq]at h
 | .int _,.bool,h | .int _,.str,h | .int _,.slice _,h | .int _,.nm _,h=>by simp[eb.beq]at h
 | .str,.int _,h | .str,.bool,h | .str,.slice _,h | .str,.nm _,h=>by simp[eb.beq]at h
 | .slice _,.int _,h | .slice _,.str,h | .slice _,.bool,h | .slice _,.nm _,h=>by simp[eb.beq]at h
 | .nm _,.int _,h | .nm _,.str,h | .nm _,.bool,h | .nm _,.slice _,h=>by simp[eb.beq]at h
theorem eb.beq_refl :∀(a:eb),eb.beq a a=true
 | .bool=>rfl
 | .int k=>by simp[eb.beq]
 | .str=>rfl
 | .slice r=>by simp only[eb.beq];exact eb.beq_refl r
 | .nm n=>by simp only[eb.beq];exact an7 n
def eb.dec(a b:eb):Decidable (a=b):=
 match h:eb.beq a b with
 | true=>.isTrue (eb.beq_eq h)
 | false=>.isFalse λe=>by rw[e,eb.beq_refl]at h;cases h
def eb.den(D:Nat->Type):eb->Type
 | .bool=>Bool
 | .int _=>Int
 | .str=>List UInt8
 | .slice t=>List (eb.den D t)
 | .nm n=>D n
structure Cell (D:Nat->Type) where
 ty:eb
 val:ty.den D
def Cell.as{D:Nat->Type}(t:eb)(c:Cell D):Option (t.den D):=
 match eb.dec c.ty t with
 | .isTrue h=>some (Eq.rec (motive:=λt _=>eb.den D t) c.val h)
 | .isFalse _=>none
theorem Cell.VV{D:Nat->Type}{t:eb}{c:Cell D}{x:t.den D}(h:c.as t=some x):c=⟨t,x⟩:=by
 obtain⟨u,v⟩:=c;unfold Cell.as at h;split at h
 . grind
 . cases h
theorem Cell.aAL{D:Nat->Type}{t:eb}{x:t.den D}:Cell.as t (⟨t,x⟩:Cell D)=some x:=by
 unfold Cell.as;split
 . rfl
 grind
def avW(D:Nat->Type)(enc:∀n,D n->List T):(t:eb)->t.den D->List T
 | .bool,b=>[.bool b]
 | .int k,n=>[.int k n]
 | .str,s=>[.str s]
 | .slice t,l=>[.slice (List.map (avW D enc t) l)]
 | .nm n,x=>enc n x
def aCC(D:Nat->Type)(enc:∀n,D n->List T):Cell D->T
 | ⟨.bool,b⟩=>.bool b
 | ⟨.int k,n⟩=>.int k n
 | ⟨.str,s⟩=>.str s
 | ⟨.slice t,l⟩=>.slice (List.map (avW D enc t) l)
 | ⟨.nm _,_⟩=>.bool false
structure pK where
 D:Nat->Type
 U3:∀n,D n
 afU:∀n,D n->List (Cell D)
 make:∀n,List (Cell D)->Option (D n)
 vi:Nat->List eb
 enc:∀n,D n->List T
 aCD:∀n x,enc n x=(afU n x).map (aCC D enc)
 mk_eq:∀n l x,make n l=some x->afU n x=l
 aMu:∀n x,(afU n x).map Cell.ty=vi n
 pos:∀n,0 < (vi n).length
 aMt:Nat->Option eb:=λ_=>none
 own:List (List Bool×Nat×eb):=[]
variable {U:pK}
abbrev pK.C(U:pK):=Cell U.D
abbrev eb.d(U:pK)(t:eb):=t.den U.D
def eb.U3(U:pK):(t:eb)->t.den U.D
 | .bool=>false
 | .int _=>(0:Int)
 | .str=>([]:List UInt8)
 | .slice t=>([]:List (t.den U.D))
 | .nm n=>U.U3 n
def eb.anN :eb->Bool
 | .nm _=>true
 | _=>false
def eb.row(U:pK):(t:eb)->t.den U.D->List (Cell U.D)
 | .bool,b=>[⟨.bool,b⟩]
 | .int k,n=>[⟨.int k,n⟩]
 | .str,s=>[⟨.str,s⟩]
 | .slice t,l=>[⟨.slice t,l⟩]
 | .nm n,x=>U.afU n x
def eb.cells(U:pK):eb->List eb
 | .nm n=>U.vi n
 | t=>[t]
def eb.sz(U:pK)(t:eb):Nat:=(t.cells U).length
def S1(U:pK)(t:eb):List (Cell U.D)->Option (t.den U.D)
 | [c]=>c.as t
 | _=>none
def eb.mk(U:pK):(t:eb)->List (Cell U.D)->Option (t.den U.D)
 | .nm n,l=>U.make n l
 | .bool,l=>S1 U .bool l
 | .int k,l=>S1 U (.int k) l
 | .str,l=>S1 U .str l
 | .slice t,l=>S1 U (.slice t) l
theorem apD{t:eb}{l:List (Cell U.D)}{x:t.den U.D}(h:S1 U t l=some x):l=[⟨t,x⟩]:=by
 unfold S1 at h;split at h
 . rw[Cell.VV h]
 . cases h
def Cell.enc(U:pK)(c:Cell U.D):T:=aCC U.D U.enc c
def eb.enc(U:pK)(t:eb)(x:t.den U.D):List T:=avW U.D U.enc t x
theorem eb.aiF{t:eb}{x:t.den U.D}:t.enc U x=(t.row U x).map (Cell.enc U):=by
 cases t <;> first | rfl | skip
 case nm n=>exact U.aCD n x
theorem eb.a1X{t:eb}{x:t.den U.D}:(t.row U x).map Cell.ty=t.cells U:=by
 cases t <;> first | rfl | skip
 case nm n=>exact U.aMu n x
theorem eb.aLy{t:eb}{x:t.den U.D}:(t.row U x).length=t.sz U:=by
 rw[<-SZ (f:=Cell.ty),eb.a1X];rfl
theorem eb.afQ{t:eb}{x:t.den U.D}:(t.enc U x).length=t.sz U:=by
 rw[eb.aiF,SZ,eb.aLy]
theorem eb.ajI{t:eb}:0 < t.sz U:=by
 cases t <;> simp[eb.sz,eb.cells]
 exact U.pos _
theorem eb.ayL :∀{t:eb} {l:List (Cell U.D)} {x:t.den U.D},t.mk U l=some x->t.row U x=l
 | .nm n,l,x,h=>U.mk_eq n l x h
 | .bool,l,x,h=>(apD (t:= .bool) h).symm
 | .int k,l,x,h=>(apD (t:= .int k) h).symm
 | .str,l,x,h=>(apD (t:= .str) h).symm
 | .slice t,l,x,h=>(apD (t:= .slice t) h).symm
def eb.at(U:pK)(t:eb)(l:List (t.den U.D))(i:Nat):t.den U.D:=l.getD i (t.U3 U)
theorem alS{t:eb}{l:List (t.den U.D)}{i:Nat}(h:i < l.length):el (l.map (t.enc U)) i=t.enc U (t.at U l i):=by
 simp[el,eb.at,List.getD,J9 h]
end
section
open Go
variable {U:pK}
inductive hn (U:pK) where
 | t (c:Cell U.D)
 | ptr (b o:Nat)
 | pr (b:Nat) (t:eb) (i o:Nat)
 | IJ (t:eb) (x:t.den U.D) (o:Nat)
 | arr (b:Nat)
 | sub (b hi len:Nat)
 | pre (b h:Nat)
 | DJ (b hi len:Nat)
 | mp (b:Nat)
 | Jx (b:Nat)
 | pq (b:Nat)
 | ee
 | Ln
 | Lm
 | fn (f:Nat) (caps:List Nat)
 | dead
inductive hM (U:pK) where
 | c (x:hn U)
 | agg (cs:List (hn U))
 | gJ (vs:List (hM U))
inductive qJ (U:pK) where
 | box (cs:List (hn U))
 | arr (t:eb) (l:List (t.den U.D))
 | rows (sz:Nat) (r:List (List (hn U)))
 | set (ks:List (List UInt8))
 | buf (E:Nat) (s:List UInt8)
 | kn (E:Nat) (c:hn U)
 | nJ (t:eb) (l:List (t.den U.D)) (i o:Nat) (c:hn U)
abbrev iy(U:pK):=List (Nat×hM U)
abbrev hc(U:pK):=List (Nat×qJ U)
abbrev JF :=List (Nat×Nat×Bool)
def fz{α:Type}:List (Nat×α)->Nat->Option α
 | [],_=>none
 | (k,x)::r,i=>match Nat.beq k i with
  | true=>some x
  | false=>fz r i
def o1{α:Type}:List (Nat×α)->Nat->α->List (Nat×α)
 | [],b,x=>[(b,x)]
 | (k,y)::r,b,x=>match Nat.beq k b with
  | true=>(k,x)::r
  | false=>(k,y)::o1 r b x
def dl{α:Type}:List (Nat×α)->Nat->List (Nat×α)
 | [],_=>[]
 | (k,y)::r,b=>match Nat.beq k b with
  | true=>dl r b
  | false=>(k,y)::dl r b
theorem q4{a b:Nat}(h:Nat.beq a b=true):a=b:=Nat.eq_of_beq_eq_true h
theorem PC{a b:Nat}(h:Nat.beq a b=false):a≠b:=λe=>by rw[e,an7]at h;cases h
theorem PV{α:Type}(J:List (Nat×α))(b:Nat)(x:α)(i:Nat):fz (o1 J b x) i=if b=i then some x else fz J i:=by
 induction J with
 | nil=>
  simp only[o1,fz];cases h:Nat.beq b i with
  | true=>simp[q4 h]
  | false=>simp[PC h]
 | cons y r ih=>
  obtain⟨k,y⟩:=y;simp only[o1];cases h:Nat.beq k b with
  | true=>
   have:=q4 h;subst this;simp only[fz];cases ah:Nat.beq k i with
   | true=>simp[q4 ah]
   | false=>simp[PC ah]
  | false=>
   simp only[fz,ih]
   grind
theorem aaf{α:Type}(J:List (Nat×α))(b i:Nat):fz (dl J b) i=if b=i then none else fz J i:=by
 induction J with
 | nil=>simp[dl,fz]
 | cons y r ih=>
  obtain⟨k,y⟩:=y;simp only[dl];cases h:Nat.beq k b with
  | true=>
   have:=q4 h;subst this;simp only[fz,ih];by_cases ah:k=i
   . grind
   . rw[aJ ah,aJ ah];cases b':Nat.beq k i with
     | true=>exact absurd (q4 b') ah
     | false=>rfl
  | false=>
   simp only[fz,ih]
   grind
def as6 :C->Option (hn U)
 | .t (.bool b)=>some (.t ⟨.bool,b⟩)
 | .t (.int k n)=>some (.t ⟨.int k,n⟩)
 | .t (.str s)=>some (.t ⟨.str,s⟩)
 | .ee=>some .ee
 | .Ln=>some .Ln
 | .Lm=>some .Lm
 | .dead=>some .dead
 | .fn f []=>some (.fn f [])
 | _=>none
def aaw :List C->Option (List (hn U))
 | []=>some []
 | c::cs=>match as6 c,aaw cs with
  | some x,some xs=>some (x::xs)
  | _,_=>none
def ajP :V->Option (hM U)
 | .c x=>match as6 x with
  | some y=>some (.c y)
  | none=>none
 | .agg cs=>match aaw cs with
  | some ys=>some (.agg ys)
  | none=>none
 | .gJ _=>none
def ajF(gl:JF):Nat->Option (Nat×Bool)->Nat->Bool
 | 0,_,_=>false
 | QK+1,gd,k=>match fz gl k with
  | none=>true
  | some Ou=>match gd with
   | none=>false
   | some g=>(Nat.beq g.1 Ou.1 && (g.2==Ou.2)) || ajF gl QK (fz gl g.1) k
def LN(env:iy U)(t:Nat)(b:Bool):Option Bool:=
 match fz env t with
 | some (.c (.t ⟨.bool,x⟩))=>some (match b with | true=>x | false=>!x)
 | _=>none
def Xc(gl:JF)(env:iy U):Nat->Option (Nat×Bool)->Option Bool
 | _,none=>some true
 | 0,some _=>none
 | QK+1,some (t,b)=>match Xc gl env QK (fz gl t),LN env t b with
  | some x,some y=>some (x && y)
  | _,_=>none
def adq :Nat:=200
def vn(gl:JF)(gd:Option (Nat×Bool))(env:iy U):er->Option (hM U)
 | .const v=>ajP v
 | .tmp k=>match ajF gl adq gd k with
  | true=>fz env k
  | false=>none
def as7(gl:JF)(gd:Option (Nat×Bool))(env:iy U)(c:er)(b:Bool):er->Option (hM U)
 | .const v=>ajP v
 | .tmp k=>match ajF gl adq gd k with
  | true=>fz env k
  | false=>match c,fz gl k with
   | .tmp anO,some (t,hq)=>match Nat.beq t anO && (hq==b)with
    | true=>fz env k
    | false=>none
   | _,_=>none
def Vx(gl:JF)(gd:Option (Nat×Bool))(env:iy U):List er->Option (List (hM U))
 | []=>some []
 | x::r=>match vn gl gd env x,Vx gl gd env r with
  | some v,some vs=>some (v::vs)
  | _,_=>none
def abj :hM U->Option (List (hn U))
 | .c x=>some [x]
 | .agg cs=>some cs
 | .gJ _=>none
def ajO(cells:List (hn U))(off:Nat)(cs:List (hn U)):List (hn U):=cells.take off++cs++cells.drop (off+cs.length)
def alT(gl:JF)(gd:Option (Nat×Bool))(env:iy U):List (hn U)->List (Nat×Nat×er)->Option (List (hn U))
 | cells,[]=>some cells
 | cells,(off,n,x)::r=>match vn gl gd env x with
  | none=>none
  | some v=>match abj v with
   | none=>none
   | some cs=>match Nat.beq cs.length n && Nat.ble (off+n) cells.length with
    | true=>alT gl gd env (ajO cells off cs) r
    | false=>none
def hn.toT :hn U->Option T
 | .t c=>match c.ty.anN with
  | true=>none
  | false=>some (c.enc U)
 | .ee=>some (.slice [])
 | _=>none
def P3 :List (hn U)->Option (List T)
 | []=>some []
 | c::cs=>match c.toT,P3 cs with
  | some t,some ts=>some (t::ts)
  | _,_=>none
def ahH(gl:JF)(gd:Option (Nat×Bool))(env:iy U)(sz:Nat):List (List (hn U))->List (Nat×er)->Option (List (List (hn U)))
 | rows,[]=>some rows
 | rows,(i,x)::r=>match vn gl gd env x with
  | none=>none
  | some v=>match abj v with
   | none=>none
   | some cs=>match P3 cs with
    | none=>none
    | some _=>match Nat.beq cs.length sz && Nat.ble (i+1) rows.length with
     | true=>ahH gl gd env sz (rows.set i cs) r
     | false=>none
inductive Nh (U:pK) where
 | ty (t:eb) (l:List (t.den U.D))
 | rows (r:List (List (hn U)))
 | nil
def Nh.len :Nh U->Nat
 | .ty _ l=>l.length
 | .rows r=>r.length
 | .nil=>0
def Q6 :List eb->List (hn U)->Option (List (Cell U.D))
 | [],[]=>some []
 | t::ts,.t c::cs=>match Q6 ts cs with
  | some l=>some (c::l)
  | none=>none
 | .slice t::ts,.ee::cs=>match Q6 ts cs with
  | some l=>some (⟨.slice t,([]:List (t.den U.D))⟩::l)
  | none=>none
 | _,_=>none
def aci(U:pK)(t:eb)(cs:List (hn U)):Option (t.den U.D):=
 match Q6 (t.cells U) cs with
 | some l=>t.mk U l
 | none=>none
def Ym(U:pK)(t:eb):List (List (hn U))->Option (List (t.den U.D))
 | []=>some []
 | r::rs=>match aci U t r,Ym U t rs with
  | some x,some xs=>some (x::xs)
  | _,_=>none
def Nh.as(t:eb):Nh U->Option (List (t.den U.D))
 | .ty u l=>Cell.as (.slice t) ⟨.slice u,l⟩
 | .rows r=>Ym U t r
 | .nil=>some []
def Nh.join :Nh U->Nh U->Option (Nh U)
 | .nil,y=>some y
 | .ty t l,y=>match y.as t with
  | some z'=>some (.ty t (l++z'))
  | none=>none
 | .rows r,.ty t l=>match Ym U t r with
  | some Vi=>some (.ty t (Vi++l))
  | none=>none
 | .rows r,.rows I1=>some (.rows (r++I1))
 | .rows r,.nil=>some (.rows r)
def Nh.blk(sz:Nat):Nh U->Option (qJ U)
 | .ty t l=>match Nat.beq (t.sz U) sz with
  | true=>some (.arr t l)
  | false=>none
 | .rows r=>match r.all λx=>Nat.beq x.length sz with
  | true=>some (.rows sz r)
  | false=>none
 | .nil=>some (.rows sz [])
def aej(J:hc U):hM U->Option (Nh U×Option Nat)
 | .c (.t ⟨.slice t,l⟩)=>some (.ty t l,none)
 | .c .ee=>some (.nil,none)
 | .c (.arr b)=>match fz J b with
  | some (.arr t l)=>some (.ty t l,some b)
  | some (.rows _ r)=>some (.rows r,some b)
  | _=>none
 | _=>none
def qJ.xn :qJ U->Option (Nat×Nat)
 | .box _=>none
 | .arr t l=>some (t.sz U,l.length)
 | .rows sz r=>some (sz,r.length)
 | .set _=>none
 | .buf _ s=>some (1,s.length)
 | .kn _ _=>none
 | .nJ t l _ _ _=>some (t.sz U,l.length)
def aMF(J:hc U)(b sz:Nat):Bool:=
 match fz J b with
 | some x=>(match x.xn with | some p=>Nat.beq p.1 sz | none=>false)
 | none=>false
def room(bytes n:Nat):Bool:=decide ((2*n+192)*bytes<=Qy) && decide (n<=KJ)
def aMB :BinOp->IntKind->IntKind->Int->Int->Option (Bool×Cell U.D)
 | .add,k,ka,a,b=>if k=ka then some (true,⟨.int k,k.wrap (a+b)⟩)else none
 | .sub,k,ka,a,b=>if k=ka then some (true,⟨.int k,k.wrap (a - b)⟩)else none
 | .mul,k,ka,a,b=>if k=ka then some (true,⟨.int k,k.wrap (a*b)⟩)else none
 | .quo,k,ka,a,b=>if k=ka then some (!decide (b=0),⟨.int k,k.wrap (a.tdiv b)⟩)else none
 | .rem,k,ka,a,b=>if k=ka then some (!decide (b=0),⟨.int k,a.tmod b⟩)else none
 | .and,k,ka,a,b=>if k=ka then some (true,⟨.int k,k.wrap (BitVec.ofInt k.bits a &&& BitVec.ofInt k.bits b).toNat⟩)else none
 | .or,k,ka,a,b=>if k=ka then some (true,⟨.int k,k.wrap (BitVec.ofInt k.bits a ||| BitVec.ofInt k.bits b).toNat⟩)else none
 | .xor,k,ka,a,b=>if k=ka then some (true,⟨.int k,k.wrap (BitVec.ofInt k.bits a ^^^ BitVec.ofInt k.bits b).toNat⟩)else none
 | .andNot,k,ka,a,b=>if k=ka then some (true,⟨.int k,k.wrap (BitVec.ofInt k.bits a &&& ~~~ BitVec.ofInt k.bits b).toNat⟩)else none
 | .shl,k,_,a,b=>some (decide (0<=b),⟨.int k,k.wrap (a*2 ^ min b.toNat k.bits)⟩)
 | .shr,k,_,a,b=>some (decide (0<=b),⟨.int k,a.fdiv (2 ^ min b.toNat k.bits)⟩)
 | .eql,k,ka,a,b=>if k=ka then some (true,⟨.bool,decide (a=b)⟩)else none
 | .neq,k,ka,a,b=>if k=ka then some (true,⟨.bool,!decide (a=b)⟩)else none
 | .lss,k,ka,a,b=>if k=ka then some (true,⟨.bool,decide (a < b)⟩)else none
 | .leq,k,ka,a,b=>if k=ka then some (true,⟨.bool,decide (a<=b)⟩)else none
 | .gtr,k,ka,a,b=>if k=ka then some (true,⟨.bool,decide (b < a)⟩)else none
 | .geq,k,ka,a,b=>if k=ka then some (true,⟨.bool,decide (b<=a)⟩)else none
def aMC :BinOp->List UInt8->List UInt8->Option (Bool×Cell U.D)
 | .add,a,b=>some (decide (a.length+b.length<=Lh),⟨.str,a++b⟩)
 | .eql,a,b=>some (true,⟨.bool,decide (a=b)⟩)
 | .neq,a,b=>some (true,⟨.bool,!decide (a=b)⟩)
 | .lss,a,b=>some (true,⟨.bool,Op.bytesLess a b⟩)
 | .leq,a,b=>some (true,⟨.bool,Op.bytesLess a b || decide (a=b)⟩)
 | .gtr,a,b=>some (true,⟨.bool,!(Op.bytesLess a b || decide (a=b))⟩)
 | .geq,a,b=>some (true,⟨.bool,!(Op.bytesLess a b)⟩)
 | _,_,_=>none
def aAc(op:BinOp):Cell U.D->Cell U.D->Option (Bool×Cell U.D)
 | ⟨.int k,a⟩,⟨.int ka,b⟩=>aMB op k ka a b
 | ⟨.str,a⟩,⟨.str,b⟩=>aMC op a b
 | _,_=>none
def MK(a b:Bool):Bool:=a==b
def PM(a b:Int):Bool:=decide (a=b)
def TD(a b:List UInt8):Bool:=decide (a=b)
def ez(m:Int)(n:Nat):Bool:=decide (0<=m) && decide (m.toNat < n)
def Jt(hi ay:Int)(n:Nat):Bool:=decide (0<=hi) && (decide (hi<=ay) && decide (ay<=n))
def Jp{α:Type}(l:List α)(hi ay:Int):List α:=(l.take ay.toNat).drop hi.toNat
def Rz(a b:Int):Int:=Max.max a b
def SU(a b:Int):Int:=Min.min a b
def MD(s:List UInt8)(m:Int):Int:=((s.getD m.toNat 0).toNat:Int)
def YC(m:Int):List UInt8:=(Utf8.encode m).data.toList
def jJ(k:IntKind)(m:Int):Int:=k.wrap m
def ari(a b:List UInt8):List UInt8:=a++b
def aAe :Nat->Cell U.D->Cell U.D->Option Bool
 | 0,⟨.bool,a⟩,⟨.bool,b⟩=>some (MK a b)
 | 1,⟨.int k,a⟩,⟨.int ka,b⟩=>if k=ka then some (PM a b)else none
 | 2,⟨.str,a⟩,⟨.str,b⟩=>some (TD a b)
 | _,_,_=>none
def aoV :List Nat->List (hn U)->List (hn U)->Option Bool
 | [],[],[]=>some true
 | k::ks,.t x::xs,.t y::ys=>match aAe k x y,aoV ks xs ys with
  | some b,some r=>some (b && r)
  | _,_=>none
 | _,_,_=>none
def acv(agg:Bool)(n:Nat)(cs:List (hn U))(o:Nat):Option (hM U):=
 match agg with
 | true=>match Nat.ble (o+n) cs.length with
  | true=>some (.agg ((cs.drop o).take n))
  | false=>none
 | false=>match cs[o]? with
  | some c=>some (.c c)
  | none=>none
def ZU(gl:JF)(gd:Option (Nat×Bool))(env:iy U):Option er->Option (Option Int)
 | none=>some none
 | some x=>match vn gl gd env x with
  | some (.c (.t ⟨.int _,n⟩))=>some (some n)
  | _=>none
def aoS :List (hM U)->Option (List Nat)
 | []=>some []
 | .c (.ptr b 0)::r=>match aoS r with
  | some l=>some (b::l)
  | none=>none
 | _=>none
abbrev aM1(U:pK):=Option (Bool×hM U×hc U)
def aem(U:pK)(t:eb)(l:List (t.den U.D))(i o:Nat)(cs:List (hn U)):Option (List (t.den U.D)):=
 match aci U t (ajO ((t.row U (t.at U l i)).map .t) o cs)with
 | some x=>some (l.set i x)
 | none=>none
def ao2(t:eb):List (hn U)->Option (List (t.den U.D))
 | []=>some []
 | .t c::r=>match c.as t,ao2 t r with
  | some x,some l=>some (x::l)
  | _,_=>none
 | _::_=>none
def aIE :List (hn U)->Option ((t:eb)×List (t.den U.D))
 | .t c::r=>match c.ty.anN,ao2 c.ty (.t c::r)with
  | false,some l=>some ⟨c.ty,l⟩
  | _,_=>none
 | _=>none
def strOf(l:List Int):List UInt8:=l.map λm=>UInt8.ofNat m.toNat
def ajG(hi len n:Nat):Bool:=decide (hi+len<=n)
def aK8 :List (hn U)->Option (hn U)
 | [.arr b]=>some (.arr b)
 | _=>none
def l3(gl:JF)(gd:Option (Nat×Bool))(env:iy U)(J:hc U)(n:Nat)(o:py):aM1 U:=
 match o with
 | .mov x=>match vn gl gd env x with
  | some v=>some (true,v,J)
  | none=>none
 | .pick c x y=>match vn gl gd env c,as7 gl gd env c true x,as7 gl gd env c false y with
  | some (.c (.t ⟨.bool,b⟩)),some (.c (.t ⟨.bool,p⟩)),some (.c (.t ⟨.bool,q⟩))=>some (true,.c (.t ⟨.bool,bif b then p else q⟩),J)
  | _,_,_=>none
 | .alloc cs=>match aaw cs with
  | some xs=>some (true,.c (.ptr n 0),o1 J n (.box xs))
  | none=>none
 | .allocA cs=>match aaw cs with
  | some xs=>match aIE xs with
   | some ⟨t,l⟩=>some (true,.c (.ptr n 0),o1 J n (.arr t l))
   | none=>none
  | none=>none
 | .idxP k x i=>match vn gl gd env x,vn gl gd env i with
  | some (.c (.ptr b 0)),some (.c (.t ⟨.int _,m⟩))=>match fz J b with
   | some (.arr t _)=>match Nat.beq (t.sz U) 1 with
    | true=>some (ez m k,.c (.pr b t (Int.toNat m) 0),J)
    | false=>none
   | _=>none
  | _,_=>none
 | .slcP k x hi ay=>match vn gl gd env x,ZU gl gd env hi,ZU gl gd env ay with
  | some (.c (.ptr b 0)),some l,some h=>
   some (Jt (l.getD 0) (h.getD (k:Int)) k,.c (.sub b (Int.toNat (l.getD 0)) (Int.toNat (h.getD (k:Int)) - Int.toNat (l.getD 0))),J)
  | _,_,_=>none
 | .b2s x=>match vn gl gd env x with
  | some (.c (.t ⟨.slice (.int .u8),l⟩))=>some (true,.c (.t ⟨.str,strOf l⟩),J)
  | some (.c .ee)=>some (true,.c (.t ⟨.str,[]⟩),J)
  | some (.c (.arr b))=>match fz J b with
   | some (.arr (.int .u8) l)=>some (true,.c (.t ⟨.str,strOf l⟩),J)
   | _=>none
  | some (.c (.sub b hi len))=>match fz J b with
   | some (.arr (.int .u8) l)=>some (ajG hi len (List.length l),.c (.t ⟨.str,strOf ((l.drop hi).take len)⟩),J)
   | _=>none
  | _=>none
 | .allocS e e8=>some (true,.c (.ptr n 0),o1 (o1 J (n+1) (.buf e8 [])) n (.kn e (.pq (n+1))))
 | .bsliceT e sz len z parts=>match U.aMt e with
  | none=>none
  | some t=>match aaw z with
   | some B'=>match P3 B' with
    | none=>none
    | some _=>match Nat.beq B'.length sz with
     | false=>none
     | true=>match ahH gl gd env sz (List.replicate len B') parts with
      | some rows=>match Ym U t rows with
       | some l=>some (true,.c (.t ⟨.slice t,l⟩),J)
       | none=>none
      | none=>none
   | none=>none
 | .mkset=>some (true,.c (.mp n),o1 J n (.set []))
 | .lkset x k=>match vn gl gd env x,vn gl gd env k with
  | some (.c (.mp b)),some (.c (.t ⟨.str,s⟩))=>match fz J b with
   | some (.set ks)=>some (true,.c (.t ⟨.bool,SI ks s⟩),J)
   | _=>none
  | _,_=>none
 | .upset x k=>match vn gl gd env x,vn gl gd env k with
  | some (.c (.mp b)),some (.c (.t ⟨.str,s⟩))=>match fz J b with
   | some (.set ks)=>some (true,.gJ [],o1 J b (.set (Sr ks s)))
   | _=>none
  | _,_=>none
 | .appendB e bytes x y=>match vn gl gd env x,vn gl gd env y with
  | some (.c (.pq b)),some (.c (.t ⟨.str,s⟩))=>match fz J b with
   | some (.buf sK l)=>match Nat.beq sK e with
    | true=>some (room bytes (List.length l+List.length s),.c (.pq n),o1 (dl J b) n (.buf e (ari l s)))
    | false=>none
   | _=>none
  | _,_=>none
 | .sdata x=>match vn gl gd env x with
  | some (.c (.pq b))=>some (true,.c (.Jx b),J)
  | _=>none
 | .ustr e x k=>match vn gl gd env x,vn gl gd env k with
  | some (.c (.Jx b)),some (.c (.t ⟨.int .i64,m⟩))=>match fz J b with
   | some (.buf sK l)=>match Nat.beq sK e with
    | true=>some (PM m (List.length l:Int),.c (.t ⟨.str,l⟩),dl J b)
    | false=>none
   | _=>none
  | _,_=>none
 | .box x=>match vn gl gd env x with
  | some v=>match abj v with
   | some cs=>some (true,.c (.ptr n 0),o1 J n (.box cs))
   | none=>none
  | none=>none
 | .build z parts=>match aaw z with
  | some B'=>match alT gl gd env B' parts with
   | some cs=>some (true,.agg cs,J)
   | none=>none
  | none=>none
 | .bslice sz len z parts=>match aaw z with
  | some B'=>match P3 B' with
   | none=>none
   | some _=>match Nat.beq B'.length sz with
    | false=>none
    | true=>match ahH gl gd env sz (List.replicate len B') parts with
     | some rows=>some (true,.c (.arr n),o1 J n (.rows sz rows))
     | none=>none
  | none=>none
 | .load agg k x=>match vn gl gd env x with
  | some (.c (.ptr b o))=>match fz J b with
   | some (.box cs)=>match acv agg k cs o with
    | some v=>some (true,v,J)
    | none=>none
   | some (.kn _ c)=>match agg,o with
    | false,1=>some (true,.c c,J)
    | _,_=>none
   | _=>none
  | some (.c (.pr b t i o))=>match fz J b with
   | some (.arr Lq l)=>match Cell.as (.slice t) (⟨.slice Lq,l⟩:Cell U.D)with
    | some l=>match acv agg k ((t.row U (t.at U l i)).map .t) o with
     | some v=>some (decide (i < l.length),v,J)
     | none=>none
    | none=>none
   | some (.nJ Lq l ny q1 c)=>match agg with
    | true=>none
    | false=>match Nat.beq o q1 with
     | true=>match Nat.beq (t.sz U) (Lq.sz U)with
      | true=>some (decide (i=ny),.c c,J)
      | false=>none
     | false=>match Cell.as (.slice t) (⟨.slice Lq,l⟩:Cell U.D)with
      | some l=>match acv false k ((t.row U (t.at U l i)).map .t) o with
       | some v=>some (decide (i < l.length),v,J)
       | none=>none
      | none=>none
   | _=>none
  | some (.c (.IJ t x o))=>match acv agg k ((t.row U x).map .t) o with
   | some v=>some (true,v,J)
   | none=>none
  | _=>none
 | .store k x v=>match vn gl gd env x,vn gl gd env v with
  | some (.c (.ptr b o)),some v=>match abj v with
   | some cs=>match Nat.beq cs.length k with
    | true=>match fz J b with
     | some (.box ds)=>match Nat.ble (o+k) ds.length with
      | true=>some (true,.gJ [],o1 J b (.box (ajO ds o cs)))
      | false=>none
     | some (.kn e _)=>match o,cs with
      | 1,[c]=>some (true,.gJ [],o1 J b (.kn e c))
      | _,_=>none
     | _=>none
    | false=>none
   | none=>none
  | some (.c (.pr b t i o)),some v=>match abj v with
   | some cs=>match Nat.beq cs.length k && Nat.ble (o+k) (t.sz U)with
    | true=>match fz J b with
     | some (.arr Lq l)=>match Cell.as (.slice t) (⟨.slice Lq,l⟩:Cell U.D)with
      | some l=>match aK8 cs with
       | some c=>some (decide (i < l.length),.gJ [],o1 J b (.nJ t l i o c))
       | none=>match aem U t l i o cs with
        | some z'=>some (decide (i < l.length),.gJ [],o1 J b (.arr t z'))
        | none=>none
      | none=>none
     | some (.nJ Lq l ny q1 MH)=>match cs with
      | [c]=>match Nat.beq o q1 with
       | true=>match Nat.beq (t.sz U) (Lq.sz U)with
        | true=>some (decide (i=ny),.gJ [],o1 J b (.nJ Lq l ny q1 c))
        | false=>none
       | false=>match Cell.as (.slice t) (⟨.slice Lq,l⟩:Cell U.D)with
        | some l=>match aem U t l i o [c]with
         | some z'=>some (decide (i < l.length),.gJ [],o1 J b (.nJ t z' ny q1 MH))
         | none=>none
        | none=>none
      | _=>none
     | _=>none
    | false=>none
   | none=>none
  | _,_=>none
 | .nilCheck x=>match vn gl gd env x with
  | some (.c (.ptr b o))=>some (true,.c (.ptr b o),J)
  | some (.c (.pr b t i o))=>some (true,.c (.pr b t i o),J)
  | some (.c (.IJ t x o))=>some (true,.c (.IJ t x o),J)
  | _=>none
 | .bin op x y=>match vn gl gd env x,vn gl gd env y with
  | some (.c (.t p)),some (.c (.t q))=>match aAc op p q with
   | some (c,r)=>some (c,.c (.t r),J)
   | none=>none
  | _,_=>none
 | .eqAgg neg ks x y=>match vn gl gd env x,vn gl gd env y with
  | some (.agg p),some (.agg q)=>match aoV ks p q with
   | some r=>some (true,.c (.t ⟨.bool,match neg with | true=>!r | false=>r⟩),J)
   | none=>none
  | _,_=>none
 | .eqBool neg x y=>match vn gl gd env x,vn gl gd env y with
  | some (.c (.t ⟨.bool,p⟩)),some (.c (.t ⟨.bool,q⟩))=>some (true,.c (.t ⟨.bool,match neg with | true=>!(MK p q) | false=>MK p q⟩),J)
  | _,_=>none
 | .not x=>match vn gl gd env x with
  | some (.c (.t ⟨.bool,b⟩))=>some (true,.c (.t ⟨.bool,!b⟩),J)
  | _=>none
 | .conv k x=>match vn gl gd env x with
  | some (.c (.t ⟨.int _,m⟩))=>some (true,.c (.t ⟨.int k,jJ k m⟩),J)
  | _=>none
 | .i2s x=>match vn gl gd env x with
  | some (.c (.t ⟨.int _,m⟩))=>some (true,.c (.t ⟨.str,YC m⟩),J)
  | _=>none
 | .s2s x=>match vn gl gd env x with
  | some (.c (.t ⟨.str,s⟩))=>some (true,.c (.t ⟨.str,s⟩),J)
  | _=>none
 | .fldA off x=>match vn gl gd env x with
  | some (.c (.ptr b o))=>some (true,.c (.ptr b (o+off)),J)
  | some (.c (.pr b t i o))=>some (true,.c (.pr b t i (o+off)),J)
  | some (.c (.IJ t x o))=>some (true,.c (.IJ t x (o+off)),J)
  | _=>none
 | .fld agg off k x=>match vn gl gd env x with
  | some (.agg cs)=>match acv agg k cs off with
   | some v=>some (true,v,J)
   | none=>none
  | _=>none
 | .idxA sz x i=>match vn gl gd env x,vn gl gd env i with
  | some (.c (.t ⟨.slice t,l⟩)),some (.c (.t ⟨.int _,m⟩))=>match Nat.beq (t.sz U) sz with
   | true=>some (ez m l.length,.c (.IJ t (t.at U l (Int.toNat m)) 0),J)
   | false=>none
  | some (.c (.arr b)),some (.c (.t ⟨.int _,m⟩))=>match fz J b with
   | some (.arr t l)=>match Nat.beq (t.sz U) sz with
    | true=>some (ez m l.length,.c (.pr b t (Int.toNat m) 0),J)
    | false=>none
   | _=>none
  | _,_=>none
 | .idxS x i=>match vn gl gd env x,vn gl gd env i with
  | some (.c (.t ⟨.str,s⟩)),some (.c (.t ⟨.int _,m⟩))=>some (ez m s.length,.c (.t ⟨.int .u8,MD s m⟩),J)
  | _,_=>none
 | .slcS x hi ay=>match vn gl gd env x,ZU gl gd env hi,ZU gl gd env ay with
  | some (.c (.t ⟨.str,s⟩)),some l,some h=>
   some (Jt (l.getD 0) (h.getD (s.length:Int)) s.length,.c (.t ⟨.str,Jp s (l.getD 0) (h.getD (s.length:Int))⟩),J)
  | _,_,_=>none
 | .slc sz x hi ay=>match vn gl gd env x,ZU gl gd env hi,ZU gl gd env ay with
  | some (.c (.t ⟨.slice t,s⟩)),some l,some h=>match Nat.beq (t.sz U) sz with
   | true=>some (Jt (l.getD 0) (h.getD (s.length:Int)) s.length,.c (.t ⟨.slice t,Jp s (l.getD 0) (h.getD (s.length:Int))⟩),J)
   | false=>none
  | some (.c (.arr b)),some none,some h=>match fz J b with
   | some (.arr t s)=>match Nat.beq (t.sz U) sz with
    | true=>some (Jt 0 (h.getD (s.length:Int)) s.length,.c (.pre b (Int.toNat (h.getD (s.length:Int)))),J)
    | false=>none
   | _=>none
  | some (.c (.arr b)),some (some hi),some h=>match fz J b with
   | some (.arr t s)=>match Nat.beq (t.sz U) sz with
    | true=>some (Jt hi (h.getD (s.length:Int)) s.length,.c (.DJ b (Int.toNat hi) (Int.toNat (h.getD (s.length:Int)) - Int.toNat hi)),J)
    | false=>none
   | _=>none
  | _,_,_=>none
 | .slc0 x=>match vn gl gd env x with
  | some (.c (.t ⟨.slice _,_⟩))=>some (true,.c .ee,J)
  | some (.c .ee)=>some (true,.c .ee,J)
  | some (.c (.arr _))=>some (true,.c .ee,J)
  | _=>none
 | .mkfn f caps=>match Vx gl gd env caps with
  | some vs=>match aoS vs with
   | some l=>some (true,.c (.fn f l),J)
   | none=>none
  | none=>none
 | .ext x i=>match vn gl gd env x with
  | some (.gJ vs)=>match vs[i]? with
   | some v=>some (true,v,J)
   | none=>none
  | _=>none
 | .len str x=>match str,vn gl gd env x with
  | true,some (.c (.t ⟨.str,s⟩))=>some (true,.c (.t ⟨.int .i64,(s.length:Int)⟩),J)
  | false,some (.c (.pq b))=>match fz J b with
   | some (.buf _ s)=>some (true,.c (.t ⟨.int .i64,(s.length:Int)⟩),J)
   | _=>none
  | false,some v=>match aej J v with
   | some e=>some (true,.c (.t ⟨.int .i64,(e.1.len:Int)⟩),J)
   | none=>none
  | _,_=>none
 | .append sz bytes x y=>match vn gl gd env x,vn gl gd env y with
  | some (.c .ee),some v=>match aej J v with
   | some (Wv,_)=>match Wv.blk sz with
    | some blk=>some (room bytes Wv.len,.c (.arr n),o1 J n blk)
    | none=>none
   | none=>none
  | some (.c (.arr b)),some v=>match aej J (.c (.arr b)),aej J v with
   | some (aMD,_),some (Wv,atb)=>match (match atb with | some hq=>Nat.beq hq b | none=>false)with
    | true=>none
    | false=>match aMF J b sz with
     | false=>none
     | true=>match aMD.join Wv with
      | some aAm=>match aAm.blk sz with
       | some blk=>some (room bytes aAm.len,.c (.arr n),o1 (dl J b) n blk)
       | none=>none
      | none=>none
   | _,_=>none
  | some (.c (.pre b h)),some (.c (.DJ hq hi len))=>match Nat.beq b hq with
   | true=>match fz J b with
    | some (.arr t l)=>match Nat.beq (t.sz U) sz with
     | true=>some (decide (h+len<=l.length) && decide (hi+len<=l.length),.c (.arr n),o1 (dl J b) n (.arr t (l.take h++(l.drop hi).take len)))
     | false=>none
    | _=>none
   | false=>none
  | _,_=>none
 | .max2 x y=>match vn gl gd env x,vn gl gd env y with
  | some (.c (.t ⟨.int k,a⟩)),some (.c (.t ⟨.int ka,b⟩))=>if k=ka then some (true,.c (.t ⟨.int k,Rz a b⟩),J)else none
  | _,_=>none
 | .min2 x y=>match vn gl gd env x,vn gl gd env y with
  | some (.c (.t ⟨.int k,a⟩)),some (.c (.t ⟨.int ka,b⟩))=>if k=ka then some (true,.c (.t ⟨.int k,SU a b⟩),J)else none
  | _,_=>none
 | .eqNil .. | .call .. | .Re .. =>none
end
section
open Go
variable {U:pK}
inductive k5 (N:Nat) (J:hc U):hn U->C->Prop
 | t (c:Cell U.D):k5 N J (.t c) (.t (c.enc U))
 | ptr (b o:Nat):k5 N J (.ptr b o) (.ptr b o)
 | pr (b:Nat) (t:eb) (i o:Nat):k5 N J (.pr b t i o) (.pr b (t.sz U) i o)
 | IJ (t:eb) (x:t.den U.D) (o:Nat):k5 N J (.IJ t x o) (.IJ (t.enc U x) o)
 | arr (b sz n:Nat) (al:b < N) (h:∀x,fz J b=some x->∀p,x.xn=some p->p=(sz,n)):k5 N J (.arr b) (.arr b sz 0 n)
 | sub (b hi len:Nat):k5 N J (.sub b hi len) (.MW b 1 hi len)
 | pre (b sz h:Nat) (al:b < N) (ga:∀x,fz J b=some x->∀p,x.xn=some p->p.1=sz):k5 N J (.pre b h) (.arr b sz 0 h)
 | DJ (b sz hi len:Nat) (al:b < N) (ga:∀x,fz J b=some x->∀p,x.xn=some p->p.1=sz):k5 N J (.DJ b hi len) (.MW b sz hi len)
 | mp (b:Nat):k5 N J (.mp b) (.mp b)
 | Jx (b:Nat):k5 N J (.Jx b) (.Jx b)
 | pq (b n:Nat) (al:b < N) (h:∀x,fz J b=some x->∀p,x.xn=some p->p=(1,n)):k5 N J (.pq b) (.pq b n)
 | ee:k5 N J .ee .ee
 | Ln:k5 N J .Ln .Ln
 | Lm:k5 N J .Lm .Lm
 | fn (f:Nat) (caps:List Nat):k5 N J (.fn f caps) (.fn f caps)
 | dead (d:C):k5 N J .dead d
inductive km (N:Nat) (J:hc U):hM U->V->Prop
 | c {x d}:k5 N J x d->km N J (.c x) (.c d)
 | agg {xs ds}:f' (k5 N J) xs ds->km N J (.agg xs) (.agg ds)
 | gJ (xs:List (hM U)) (ds:List V) (a6:xs.length=ds.length) (h:∀(i:Nat) x d,xs[i]?=some x->ds[i]?=some d->km N J x d):km N J (.gJ xs) (.gJ ds)
inductive P6 (N:Nat) (J:hc U):qJ U->h2->Prop
 | box {cs ds}:f' (k5 N J) cs ds->P6 N J (.box cs) (.box ds)
 | arr (t:eb) (l:List (t.den U.D)):P6 N J (.arr t l) (.arr (t.sz U) (l.map (t.enc U)))
 | set (ks:List (List UInt8)):P6 N J (.set ks) (.set ks)
 | buf (E:Nat) (s:List UInt8):P6 N J (.buf E s) (.buf E s)
 | kn {E c d}:k5 N J c d->P6 N J (.kn E c) (.kn E d)
 | nJ (t:eb) (l:List (t.den U.D)) (i o:Nat) {c d}:k5 N J c d->P6 N J (.nJ t l i o c) (.nJ (t.sz U) (l.map (t.enc U)) i o d)
 | rows {sz r es}:f' (λr e=>P3 r=some e) r es->(∀x,x∈r->x.length=sz)->P6 N J (.rows sz r) (.arr sz es)
def pJ(N:Nat)(J:hc U)(J1:fu):Prop:=∀b x,fz J b=some x->b < N/\∃y,e1 J1 b=some y/\P6 N J x y
def r3(N:Nat)(J:hc U)(G:Nat->Bool)(env:iy U)(env1:Env):Prop:=∀k v,fz env k=some v->∃v1,look env1 k=some (G k,v1)/\km N J v v1
structure OF (gl:JF) (env:iy U) (G:Nat->Bool):Prop where
 free:∀k,fz gl k=none->G k=true
 held:∀k t b,fz gl k=some (t,b)->∃y,LN env t b=some y/\G k=(G t && y)
def wJ(N:Nat)(J:hc U)(N':Nat)(J':hc U):Prop:=N<=N'/\∀b jb,b < N->fz J' b=some jb->∃x,fz J b=some x/\∀p,jb.xn=some p->x.xn=some p
theorem wJ.refl{N:Nat}{J:hc U}:wJ N J N J:=⟨JK _,λ_ x _ h=>⟨x,h,λ_ h=>h⟩⟩
theorem wJ.more{N N':Nat}{J:hc U}(h:N<=N'):wJ N J N' J:=⟨h,λ_ x _ h=>⟨x,h,λ_ h=>h⟩⟩
theorem wJ.trans{WB VD aj2:Nat}{s1 s2 Wm:hc U}(h:wJ WB s1 VD s2)(k:wJ VD s2 aj2 Wm):wJ WB s1 aj2 Wm:=
 ⟨RD h.1 k.1,λb x al ad=>let⟨y,h1,ah⟩:=k.2 b x (Ya al h.1) ad;let⟨z,b',ea⟩:=h.2 b y al h1;⟨z,b',λp bo=>ea p (ah p bo)⟩⟩
section
variable {N N':Nat} {J J':hc U} {J1:fu} {env:iy U} {env1:Env} {G:Nat->Bool} {gl:JF} {gd:Option (Nat×Bool)}
theorem k5.mono(k:wJ N J N' J'){x:hn U}{d:C}(h:k5 N J x d):k5 N' J' x d:=by
 cases h with
 | t c=>exact .t c
 | ptr b o=>exact .ptr b o
 | pr b t i o=>exact .pr b t i o
 | IJ t x o=>exact .IJ t x o
 | arr b sz n al h=>
  refine .arr b sz n (Ya al k.1) λx ad p bo=>?_
  obtain⟨y,h1,ah⟩:=k.2 b x al ad
  grind
 | sub b hi len=>exact .sub b hi len
 | pre b sz n al h=>
  refine .pre b sz n (Ya al k.1) λx ad p bo=>?_
  obtain⟨y,h1,ah⟩:=k.2 b x al ad
  grind
 | DJ b sz hi len al h=>
  refine .DJ b sz hi len (Ya al k.1) λx ad p bo=>?_
  obtain⟨y,h1,ah⟩:=k.2 b x al ad;exact h y h1 p (ah p bo)
 | mp b=>exact .mp b
 | Jx b=>exact .Jx b
 | pq b n al h=>
  refine .pq b n (Ya al k.1) λx ad p bo=>?_
  obtain⟨y,h1,ah⟩:=k.2 b x al ad
  grind
 | ee=>exact .ee
 | Ln=>exact .Ln
 | Lm=>exact .Lm
 | fn f caps=>exact .fn f caps
 | dead d=>exact .dead d
theorem km.mono(k:wJ N J N' J'){x:hM U}{d:V}(h:km N J x d):km N' J' x d:=by
 induction h with
 | c h=>exact .c (h.mono k)
 | agg h=>exact .agg (h.imp λ_ _ _=>k5.mono k)
 | gJ xs ds a6 h ih=>exact .gJ xs ds a6 ih
theorem P6.mono(k:wJ N J N' J'){x:qJ U}{d:h2}(h:P6 N J x d):P6 N' J' x d:=by
 cases h with
 | box h=>exact .box (h.imp λ_ _ _=>k5.mono k)
 | arr t l=>exact .arr t l
 | set ks=>exact .set ks
 | buf E s=>exact .buf E s
 | kn h=>exact .kn (h.mono k)
 | nJ t l i o h=>exact .nJ t l i o (h.mono k)
 | rows h ah=>exact .rows h ah
theorem r3.mono(k:wJ N J N' J')(h:r3 N J G env env1):r3 N' J' G env env1:=λi v ay=>let⟨v1,h1,ah⟩:=h i v ay;⟨v1,h1,ah.mono k⟩
theorem pJ.put(h:pJ N J J1){b:Nat}{x:qJ U}{y:h2}(al:b < N')(k:wJ N J N' (o1 J b x))(ar:P6 N' (o1 J b x) x y):pJ N' (o1 J b x) (vc J1 b y):=by
 intro c z ga;rw[PV]at ga;rw[q6];by_cases aZo:b=c
 . grind
 . rw[aJ aZo]at ga ⊢;obtain⟨h1,P4,ah,b'⟩:=h c z ga;exact⟨Ya h1 k.1,P4,ah,b'.mono k⟩
theorem XG{x:qJ U}(h:N<=N'):wJ N J N' (o1 J N x):=by
 refine⟨h,λb jb al ad=>?_⟩;rw[PV,aJ (by omega)]at ad
 grind
theorem ZM{b:Nat}{x a':qJ U}(h:N<=N')(h0:fz J b=some a')(a7:∀p,x.xn=some p->a'.xn=some p):wJ N J N' (o1 J b x):=by
 refine⟨h,λc jb al ad=>?_⟩;rw[PV]at ad
 grind
theorem afd{b:Nat}:wJ N J N (dl J b):=by
 refine⟨JK _,λc jb al ad=>?_⟩;rw[aaf]at ad
 grind
theorem aFe{d:C}{x:hn U}(h:as6 d=some x):k5 N J x d:=by
 unfold as6 at h;split at h <;> cases h
 . exact k5.t (U:=U) ⟨.bool,_⟩
 . exact k5.t (U:=U) ⟨.int _,_⟩
 . exact k5.t (U:=U) ⟨.str,_⟩
 . exact .ee
 . exact .Ln
 . exact .Lm
 . exact .dead _
 . exact .fn _ _
theorem afm :∀{ds:List C} {xs:List (hn U)},aaw ds=some xs->f' (k5 N J) xs ds
 | [],xs,h=>by simp[aaw]at h;subst h;exact .nil
 | d::ds,xs,h=>by
  simp only[aaw]at h;split at h
  . rename_i x ys h1 ah;cases h;exact .cons (aFe h1) (afm ah)
  . cases h
theorem aFf{d:V}{x:hM U}(h:ajP d=some x):km N J x d:=by
 cases d with
 | c d=>
  simp only[ajP]at h;split at h
  . rename_i y bJ;cases h;exact .c (aFe bJ)
  . cases h
 | agg ds=>
  simp only[ajP]at h;split at h
  . rename_i y bJ;cases h;exact .agg (afm bJ)
  . cases h
 | gJ _=>simp[ajP]at h
def pa(env:iy U)(G:Nat->Bool):Option (Nat×Bool)->Bool
 | none=>true
 | some (t,b)=>G t && (LN env t b).getD false
theorem OF.fz(b9:OF gl env G)(k:Nat):pa env G (fz gl k)=G k:=by
 cases h:Shv.fz gl k with
 | none=>exact(b9.free k h).symm
 | some g=>
  obtain⟨t,b⟩:=g;obtain⟨y,h1,ah⟩:=b9.held k t b h;simp[pa,h1,ah]
theorem apv(b9:OF gl env G):∀{QK:Nat} {gd:Option (Nat×Bool)} {g:Bool},Xc gl env QK gd=some g->g=pa env G gd
 | _,none,g,h=>by unfold Xc at h;simp at h;subst h;rfl
 | 0,some _,g,h=>by simp[Xc]at h
 | QK+1,some (t,b),g,h=>by
  simp only[Xc]at h;split at h
  . rename_i x y h1 ah;cases h;rw[apv b9 h1,b9.fz t];simp[pa,ah]
  . cases h
theorem aVR :∀{QK:Nat} {t:Nat} {b:Bool} {g:Bool},Xc gl env QK (some (t,b))=some g->∃y,LN env t b=some y
 | 0,t,b,g,h=>by simp[Xc]at h
 | QK+1,t,b,g,h=>by
  simp only[Xc]at h
  grind
theorem km.Ji{x:hn U}{v1:V}(h:km N J (.c x) v1):∃d,v1= .c d/\k5 N J x d:=by cases h with | c h=>exact⟨_,rfl,h⟩
theorem km.afy{xs:List (hn U)}{v1:V}(h:km N J (.agg xs) v1):∃ds,v1= .agg ds/\f' (k5 N J) xs ds:=by cases h with | agg h=>exact⟨_,rfl,h⟩
theorem km.ajK{c:Cell U.D}{v1:V}(h:km N J (.c (.t c)) v1):v1= .c (.t (c.enc U)):=by obtain⟨d,rfl,ai⟩:=h.Ji;cases ai;rfl
theorem km.TC{b:Bool}{v1:V}(h:km N J (.c (.t ⟨.bool,b⟩)) v1):v1= .c (.t (.bool b)):=h.ajK
theorem km.NY{k:IntKind}{m:Int}{v1:V}(h:km N J (.c (.t ⟨.int k,m⟩)) v1):v1= .c (.t (.int k m)):=h.ajK
theorem km.Vt{s:List UInt8}{v1:V}(h:km N J (.c (.t ⟨.str,s⟩)) v1):v1= .c (.t (.str s)):=h.ajK
theorem km.Vs{t:eb}{l:List (t.den U.D)}{v1:V}(h:km N J (.c (.t ⟨.slice t,l⟩)) v1):v1= .c (.t (.slice (l.map (t.enc U)))):=h.ajK
theorem km.PZ{b o:Nat}{v1:V}(h:km N J (.c (.ptr b o)) v1):v1= .c (.ptr b o):=by obtain⟨d,rfl,ai⟩:=h.Ji;cases ai;rfl
theorem km.SH{b i o:Nat}{t:eb}{v1:V}(h:km N J (.c (.pr b t i o)) v1):v1= .c (.pr b (t.sz U) i o):=by obtain⟨d,rfl,ai⟩:=h.Ji;cases ai;rfl
theorem km.ayz{o:Nat}{t:eb}{x:t.den U.D}{v1:V}(h:km N J (.c (.IJ t x o)) v1):v1= .c (.IJ (t.enc U x) o):=by obtain⟨d,rfl,ai⟩:=h.Ji;cases ai;rfl
theorem km.aim{v1:V}(h:km N J (.c .ee) v1):v1= .c .ee:=by obtain⟨d,rfl,ai⟩:=h.Ji;cases ai;rfl
theorem km.O3{b:Nat}{v1:V}(h:km N J (.c (.arr b)) v1):∃sz n,v1= .c (.arr b sz 0 n)/\b < N/\∀x,Shv.fz J b=some x->∀p,x.xn=some p->p=(sz,n):=by
 obtain⟨d,rfl,ai⟩:=h.Ji;cases ai with
 | arr _ sz n al ah=>exact⟨_,_,rfl,al,ah⟩
theorem km.ayM{b:Nat}{v1:V}(h:km N J (.c (.mp b)) v1):v1= .c (.mp b):=by obtain⟨d,rfl,ai⟩:=h.Ji;cases ai;rfl
theorem km.aLE{b:Nat}{v1:V}(h:km N J (.c (.Jx b)) v1):v1= .c (.Jx b):=by obtain⟨d,rfl,ai⟩:=h.Ji;cases ai;rfl
theorem km.arf{b:Nat}{v1:V}(h:km N J (.c (.pq b)) v1):∃n,v1= .c (.pq b n)/\b < N/\∀x,Shv.fz J b=some x->∀p,x.xn=some p->p=(1,n):=by
 obtain⟨d,rfl,ai⟩:=h.Ji;cases ai with
 | pq _ n al ah=>exact⟨_,rfl,al,ah⟩
theorem km.avY{f:Nat}{caps:List Nat}{v1:V}(h:km N J (.c (.fn f caps)) v1):v1= .c (.fn f caps):=by
 obtain⟨d,rfl,ai⟩:=h.Ji;cases ai;rfl
theorem aVS{t:Nat}{b y:Bool}(he:r3 N J G env env1)(h:LN env t b=some y):∃x,look env1 t=some (G t,.c (.t (.bool x)))/\y=(x==b):=by
 unfold LN at h;split at h
 . rename_i x ad;cases h;obtain⟨v1,h1,ah⟩:=he t _ ad;have:=ah.TC
   grind
 . cases h
theorem aqM(he:r3 N J G env env1)(h:gd=none\/∃t b y,gd=some (t,b)/\LN env t b=some y):Nc env1 gd=some (pa env G gd):=by
 rcases h with rfl | ⟨t,b,y,rfl,h⟩
 . rfl
 . obtain⟨x,h1,rfl⟩:=aVS he h;simp[Nc,h1,pa,h]
theorem apw(b9:OF gl env G):∀{QK:Nat} {gd:Option (Nat×Bool)} {k:Nat},pa env G gd=true->ajF gl QK gd k=true->G k=true
 | 0,gd,k,_,h=>by simp[ajF]at h
 | QK+1,gd,k,a7,h=>by
  simp only[ajF]at h;split at h
  . rename_i hk;exact b9.free k hk
  . rename_i Ou hk;split at h
    . cases h
    . rename_i g;obtain⟨t,b⟩:=g;obtain⟨Lq,hq⟩:=Ou;simp only[Qp,k0,RF]at h;rcases h with⟨h1,ah⟩ | h
      . have:=q4 h1;subst this;subst ah;obtain⟨y,hg,hv⟩:=b9.held k t b hk;simp only[pa,hg,Xo]at a7;rw[hv,a7]
      . refine apw b9 (gd:=Shv.fz gl t) ?_ h;rw[b9.fz t];simp only[pa,k0]at a7;exact a7.1
theorem mx(he:r3 N J G env env1)(b9:OF gl env G){x:er}{v:hM U}(h:vn gl gd env x=some v):
 ∃p v1,x.get env1=some (p,v1)/\km N J v v1/\(pa env G gd=true->p):=by
 cases x with
 | const d=>exact⟨True,d,rfl,aFf h,λ_=>trivial⟩
 | tmp k=>
  simp only[vn]at h;split at h
  . rename_i hs;obtain⟨v1,h1,ah⟩:=he k v h;exact⟨_,v1,by simp[er.get,h1],ah,λa7=>apw b9 a7 hs⟩
  . cases h
theorem aF5(he:r3 N J G env env1)(b9:OF gl env G){c x:er}{b y:Bool}{v azY:hM U}(b7:vn gl gd env c=some azY)(NW:azY= .c (.t ⟨.bool,y⟩))(h:as7 gl gd env c b x=some v):
 ∃p v1,x.get env1=some (p,v1)/\km N J v v1/\(pa env G gd=true->y=b->p):=by
 cases x with
 | const d=>exact⟨True,d,rfl,aFf h,λ_ _=>trivial⟩
 | tmp k=>
  simp only[as7]at h;split at h
  . rename_i hs;obtain⟨v1,h1,ah⟩:=he k v h;exact⟨_,v1,by simp[er.get,h1],ah,λa7 _=>apw b9 a7 hs⟩
  . split at h
    . rename_i anO t hq hk;split at h
      . rename_i al;simp only[k0,RF]at al;obtain⟨h1,rfl⟩:=al;have:=q4 h1;subst this;obtain⟨v1,h1,ah⟩:=he k v h;refine⟨G k=true,v1,by simp[er.get,h1],ah,λa7 bJ=>?_⟩;simp only[vn]at b7;split at b7
        . rename_i hs;have aY3:=apw b9 a7 hs;obtain⟨P4,hg,hv⟩:=b9.held k t hq hk;simp only[LN,b7,NW]at hg;rw[hv,aY3];subst bJ;cases y <;> simp at hg <;> simp[<-hg]
        . cases b7
      . cases h
    . cases h
theorem aft(he:r3 N J G env env1)(b9:OF gl env G):∀{xs:List er} {vs:List (hM U)},Vx gl gd env xs=some vs ->
 ∃p vs1,O7 env1 xs=some (p,vs1)/\f' (km N J) vs vs1/\(pa env G gd=true->p)
 | [],vs,h=>by simp[Vx]at h;subst h;exact⟨True,[],rfl,.nil,λ_=>trivial⟩
 | x::xs,vs,h=>by
  simp only[Vx]at h;split at h
  . rename_i v Xx h1 ah;cases h;obtain⟨p,v1,a1,a2,a3⟩:=mx he b9 h1;obtain⟨q,vs1,b1,b2,k9⟩:=aft he b9 ah;exact⟨p/\q,v1::vs1,by simp[O7,a1,b1],.cons a2 b2,λa7=>⟨a3 a7,k9 a7⟩⟩
  . cases h
theorem aaT{v:hM U}{v1:V}{cs:List (hn U)}(h:km N J v v1)(b7:abj v=some cs):∃ds,abi v1=some ds/\f' (k5 N J) cs ds:=by
 cases h with
 | c h=>simp[abj]at b7;subst b7;exact⟨_,rfl,.cons h .nil⟩
 | agg h=>simp[abj]at b7;subst b7;exact⟨_,rfl,h⟩
 | gJ=>simp[abj]at b7
theorem at1{cs OH:List (hn U)}{ds Jq:List C}{o:Nat}(h:f' (k5 N J) cs ds)(rz:f' (k5 N J) OH Jq):f' (k5 N J) (ajO cs o OH) (abE ds o Jq):=by
 unfold ajO abE;rw[rz.length];exact((h.take o).append rz).append (h.drop _)
theorem Qa{a b:Nat}(h:Nat.ble a b=true):a<=b:=asm h
theorem aDz(he:r3 N J G env env1)(b9:OF gl env G):∀{ps:List (Nat×Nat×er)} {cs OH:List (hn U)} {ds:List C},alT gl gd env cs ps=some OH -> f' (k5 N J) cs ds ->
 ∃p Jq,WR env1 ds ps=some (p,Jq)/\f' (k5 N J) OH Jq/\(pa env G gd=true->p)
 | [],cs,OH,ds,h,a7=>by simp[alT]at h;subst h;exact⟨True,ds,rfl,a7,λ_=>trivial⟩
 | (o,n,x)::r,cs,OH,ds,h,a7=>by
  simp only[alT]at h;split at h
  . cases h
  . rename_i v cv;split at h
    . cases h
    . rename_i es JV;split at h
      . rename_i al;simp only[k0]at al;have Nn:=q4 al.1;have ML:=Qa al.2;obtain⟨p,v1,a1,a2,a3⟩:=mx he b9 cv;obtain⟨fs,b1,b2⟩:=aaT a2 JV;obtain⟨q,Jq,hN,hR,px⟩:=aDz he b9 h (at1 (o:=o) a7 b2);refine⟨p/\q,Jq,?_,hR,λa7=>⟨a3 a7,px a7⟩⟩;simp only[WR,a1,cm,b1]
        rw[ao ⟨by rw[<-b2.length];exact Nn,by rw[<-a7.length];exact ML⟩,hN];rfl
      . cases h
theorem aU0{x:hn U}{d:C}{t:T}(h:k5 N J x d)(ht:x.toT=some t):Shv.toT d=some t:=by
 cases h <;> simp only[hn.toT,reduceCtorEq,hQ]at ht
 . split at ht
   . cases ht
   . cases ht;rfl
 . subst ht;rfl
theorem aqN :∀{cs:List (hn U)} {ds:List C} {ts:List T},f' (k5 N J) cs ds->P3 cs=some ts->toTs ds=some ts
 | [],[],ts,_,h=>by simp[P3]at h;subst h;rfl
 | c::cs,d::ds,ts,.cons h1 ah,h=>by
  simp only[P3]at h;split at h
  . rename_i t azW ht M4;cases h;simp[toTs,aU0 h1 ht,aqN ah M4]
  . cases h
theorem atG :∀{cs:List (hn U)} {ts:List T},P3 cs=some ts->ts.length=cs.length
 | [],ts,h=>by simp[P3]at h;subst h;rfl
 | c::cs,ts,h=>by
  simp only[P3]at h;split at h
  . rename_i t azW ht M4;cases h;simp[atG M4]
  . cases h
theorem f'.set{α β:Type}{R:α->β->Prop}{l:List α}{m:List β}(h:f' R l m){i:Nat}{a:α}{b:β}(JC:R a b):f' R (l.set i a) (m.set i b):=by
 induction h generalizing i with
 | nil=>exact .nil
 | cons h1 ah ih=>cases i with
  | zero=>exact .cons JC ah
  | succ i=>exact .cons h1 ih
theorem atP(he:r3 N J G env env1)(b9:OF gl env G){sz:Nat}:∀{ps:List (Nat×er)} {rs aov:List (List (hn U))} {es:List (List T)},ahH gl gd env sz rs ps=some aov ->
 f' (λr e=>P3 r=some e) rs es->(∀r,r∈rs->r.length=sz)->∃p es',T0 env1 sz es ps=some (p,es')/\f' (λr e=>P3 r=some e) aov es'/\(∀r,r∈aov->r.length=sz)/\(pa env G gd=true->p)
 | [],rs,aov,es,h,ar,a6=>by simp[ahH]at h;subst h;exact⟨True,es,rfl,ar,a6,λ_=>trivial⟩
 | (i,x)::ps,rs,aov,es,h,ar,a6=>by
  simp only[ahH]at h;split at h
  . cases h
  . rename_i v cv;split at h
    . cases h
    . rename_i cs y1;split at h
      . cases h
      . rename_i ts M4;split at h
        . rename_i al;simp only[k0]at al;have Nn:=q4 al.1;have ML:=Qa al.2;obtain⟨p,v1,a1,a2,a3⟩:=mx he b9 cv;obtain⟨ds,b1,b2⟩:=aaT a2 y1;obtain⟨q,es',hN,hR,xi,px⟩:=atP he b9 h (f'.set ar M4) (by grind);refine⟨p/\q,es',?_,hR,xi,λa7=>⟨a3 a7,px a7⟩⟩;simp only[T0,a1,cm,b1,aqN b2 M4]
          rw[ao ⟨by rw[atG M4];exact Nn,by rw[<-ar.length];omega⟩,hN];rfl
        . cases h
end
end
section
open Go
variable {U:pK}
structure Jh (N:Nat) (J:hc U) (J1:fu) (o:py) (env1:Env) (g c:Bool) (v:hM U) (J':hc U):Prop where
 val:∃v1,km (N+16) J' v v1/\(g=true->c=true->∃p hy,ep o env1 J1 N=some (p,v1,hy)/\p/\pJ (N+16) J' hy)
 a3U:wJ N J (N+16) J'
 a1i:o.neutral=true->J'=J
section
variable {N N':Nat} {J J':hc U} {J1:fu} {env:iy U} {env1:Env} {G:Nat->Bool} {gl:JF} {gd:Option (Nat×Bool)} {c:Bool} {v:hM U}
theorem pJ.mono(h:pJ N J J1)(lo:N<=N'):pJ N' J J1:=λb x ad=>
 let⟨h1,y,ah,b'⟩:=h b x ad;⟨Ya h1 lo,y,ah,b'.mono (wJ.more lo)⟩
theorem Jh.neutral{o:py}{g:Bool}(dx:pJ N J J1){v1:V}(cv:km N J v v1)(ch:g=true->c=true->∃p,ep o env1 J1 N=some (p,v1,J1)/\p):Jh N J J1 o env1 g c v J:=
 ⟨⟨v1,cv.mono (wJ.more (by omega)),λb9 b7=>let⟨p,h1,ah⟩:=ch b9 b7;⟨p,J1,h1,ah,dx.mono (by omega)⟩⟩,wJ.more (by omega),λ_=>rfl⟩
theorem Jh.store{o:py}{g:Bool}(dy:o.neutral=false)(hk:wJ N J (N+16) J'){v1:V}(cv:km (N+16) J' v v1)(ch:g=true->c=true->∃p hy,ep o env1 J1 N=some (p,v1,hy)/\p/\pJ (N+16) J' hy):Jh N J J1 o env1 g c v J':=
 ⟨⟨v1,cv,ch⟩,hk,λh=>by rw[dy]at h;cases h⟩
theorem ahj{agg:Bool}{k o:Nat}{cs:List (hn U)}{ds:List C}(b7:f' (k5 N J) cs ds)(h:acv agg k cs o=some v):∃v1,Us agg k ds o=some v1/\km N J v v1:=by
 unfold acv at h;split at h
 . split at h
   . rename_i al;cases h;refine⟨_,by simp only[Us,qb];rw[ao (by rw[<-b7.length];exact Qa al)],.agg ((b7.drop o).take k)⟩
   . cases h
 . split at h
   . rename_i x ad;cases h;obtain⟨d,h1,ah⟩:=b7.get ad;exact⟨_,by simp[Us,h1],.c ah⟩
   . cases h
theorem f'.map_map{α β Ky ao3:Type}{R:Ky->ao3->Prop}{f:α->Ky}{g:β->ao3}:∀{l:List α} {m:List β},f' (λa b=>R (f a) (g b)) l m->f' R (l.map f) (m.map g)
 | [],[],_=>.nil
 | _::_,_::_,.cons h1 ah=>.cons h1 (f'.map_map ah)
theorem f'.self{α:Type}{R:α->α->Prop}(h:∀a,R a a):∀(l:List α),f' R l l
 | []=>.nil
 | a::l=>.cons (h a) (f'.self h l)
theorem akp{t:eb}{x:t.den U.D}:f' (k5 N J) ((t.row U x).map .t) ((t.enc U x).map .t):=by
 rw[eb.aiF,List.map_map];exact f'.map_map (f'.self (R:=λa b=>k5 N J (.t a) (.t (b.enc U))) (λc=>k5.t c) _)
theorem awK{agg:Bool}{k o:Nat}{ts:List T}{v:V}(a6:Us agg k (ts.map .t) o=some v):loadT agg k ts o=some v:=by
 unfold Us at a6;unfold loadT;cases agg with
 | true=>simpa using a6
 | false=>simpa[Option.map_map]using a6
theorem aT8{op:BinOp}{p q:Cell U.D}{r:Cell U.D}(h:aAc op p q=some (c,r)):∃Oi,Xb op (p.enc U) (q.enc U)=some (Oi,r.enc U)/\(c=true->Oi):=by
 unfold aAc at h;split at h
 . rename_i k a ka b;show ∃Oi,Xb op (.int k a) (.int ka b)=some (Oi,r.enc U)/\(c=true->Oi);cases op <;> simp only[aMB,reduceCtorEq,A',hQ,hO]at h
   all_goals first
    | (obtain⟨rfl,rfl,rfl⟩:=h;exact⟨_,by simp only[Xb,qb];rfl,λh=>by simpa using h⟩)
    | (obtain⟨rfl,rfl⟩:=h;exact⟨_,by simp only[Xb];rfl,λh=>by simpa using h⟩)
    | (obtain⟨rfl,rfl,rfl⟩:=h;exact⟨_,by simp only[Xb,qb];rfl,λh=>trivial⟩)
 . rename_i a b;show ∃Oi,Xb op (.str a) (.str b)=some (Oi,r.enc U)/\(c=true->Oi);cases op <;> simp only[aMC,reduceCtorEq,hQ,hO]at h
   all_goals first
    | (obtain⟨rfl,rfl⟩:=h;exact⟨_,by simp only[Xb];rfl,λh=>by simpa using h⟩)
    | (obtain⟨rfl,rfl⟩:=h;exact⟨_,by simp only[Xb];rfl,λh=>trivial⟩)
 . cases h
theorem aT9{k:Nat}{x y:Cell U.D}{b:Bool}(h:aAe k x y=some b):aru k (x.enc U) (y.enc U)=some b:=by
 unfold aAe at h;split at h
 . cases h;rfl
 . simp only[A',hQ]at h;obtain⟨rfl,rfl⟩:=h;show(if _ then _ else _)=_;rw[ao rfl];rfl
 . cases h;rfl
 . cases h
theorem aDR :∀{ks:List Nat} {xs ys:List (hn U)} {ds es:List C} {b:Bool},aoV ks xs ys=some b->f' (k5 N J) xs ds->f' (k5 N J) ys es->afS ks ds es=some b
 | [],[],[],[],[],b,h,.nil,.nil=>by simp[aoV]at h;subst h;rfl
 | k::ks,.t x::xs,.t y::ys,d::ds,e::es,b,h,.cons h1 ah,.cons b' ea=>by
  simp only[aoV]at h;split at h
  . rename_i b1 r al ar;cases h;cases h1;cases b';simp[afS,aT9 al,aDR ar ah ea]
  . cases h
theorem aSy{a b:List UInt8}:(ari a b).length=a.length+b.length:=vx
theorem aVb{a b:Int}:PM a b=true↔a=b:=by simp[PM]
theorem afi{m:Int}{n:Nat}:ez m n=true↔0<=m/\m.toNat < n:=by simp[ez]
theorem R7{hi ay:Int}{n:Nat}:Jt hi ay n=true↔0<=hi/\hi<=ay/\ay<=n:=by simp[Jt]
theorem aWy{t:eb}{s:List (t.den U.D)}{l r:Option Int}{pp pl Oi:Prop}{sz:Nat}{J1:fu}:
 (some (pp/\pl/\Oi/\0<=l.getD 0/\l.getD 0<=r.getD ((List.map (t.enc U) s).length:Int)/\r.getD ((List.map (t.enc U) s).length:Int)<=((List.map (t.enc U) s).length:Int)/\∀e,e∈List.map (t.enc U) s->e.length=sz,
  V.c (C.t (T.slice (((List.map (t.enc U) s).take (r.getD ((List.map (t.enc U) s).length:Int)).toNat).drop (l.getD 0).toNat))),J1):ao4)=
 some (pp/\pl/\Oi/\0<=l.getD 0/\l.getD 0<=r.getD (s.length:Int)/\r.getD (s.length:Int)<=(s.length:Int)/\∀e,e∈List.map (t.enc U) s->e.length=sz,
  V.c (C.t (Cell.enc U ⟨.slice t,Jp s (l.getD 0) (r.getD (s.length:Int))⟩)),J1):=by
 have:Cell.enc U ⟨.slice t,Jp s (l.getD 0) (r.getD (s.length:Int))⟩=T.slice (List.map (t.enc U) (Jp s (l.getD 0) (r.getD (s.length:Int)))):=rfl;rw[this,SZ];simp only[Jp,asr,an4]
theorem aWz{α β:Type}{f:α->β}{l:List α}{p:Prop}{J1:fu}:(some (p,V.c (C.t (T.int .i64 ((l.map f).length:Int))),J1):ao4)=some (p,V.c (C.t (.int .i64 (l.length:Int))),J1):=by rw[SZ]
theorem ahI{α β:Type}{f:α->β}{l:List α}{i:Nat}(h:i < l.length):i < (l.map f).length:=by rw[SZ];exact h
theorem f'.replicate{α β:Type}{R:α->β->Prop}{a:α}{b:β}(h:R a b):∀n:Nat,f' R (List.replicate n a) (List.replicate n b)
 | 0=>.nil
 | n+1=>.cons h (f'.replicate h n)
theorem auw :∀{xs:List (hn U)} {vi:List eb} {es:List C} {row:List (Cell U.D)},Q6 vi xs=some row->f' (k5 N J) xs es->toTs es=some (row.map (Cell.enc U))
 | [],vi,es,row,h1,ah=>by
  cases ah;cases vi <;> simp[Q6]at h1
  subst h1;rfl
 | y::ys,[],es,row,h1,ah=>by simp[Q6]at h1
 | y::ys,ty::vi,_::_,row,h1,.cons ah b'=>by
  cases ah with
  | t c=>cases ty <;> simp only[Q6]at h1 <;> (split at h1 <;> first | (cases h1;done) | (rename_i q eg;cases h1;simp[toTs,toT,auw eg b']))
  | ee=>
   cases ty <;> simp only[Q6,reduceCtorEq]at h1
   split at h1
   . rename_i q eg;cases h1;simp[toTs,toT,auw eg b'];rfl
   . cases h1
  | _=>cases ty <;> simp[Q6]at h1
theorem aD6{sz:Nat}:∀{ps:List (Nat×er)} {es es':List (List T)} {p:Prop},T0 env1 sz es ps=some (p,es')->es'.length=es.length
 | [],es,es',p,h=>by simp[T0]at h;rw[h.2]
 | (i,x)::ps,es,es',p,h=>by
  simp only[T0,hC,A',gC,hO]at h;obtain⟨a,_,cs,_,ts,_,_,b,al,_,rfl⟩:=h;have:=aD6 (p:=b.1) (es':=b.2) al
  grind
theorem atH{t:eb}{l z':List (t.den U.D)}{i o:Nat}{cs:List (hn U)}{ds:List C}(h:aem U t l i o cs=some z')(ay:i < l.length)(b7:f' (k5 N J) cs ds)(hle:o+cs.length <=t.sz U):
 ∃ts,toTs ds=some ts/\z'.map (t.enc U)=(l.map (t.enc U)).set i ((el (l.map (t.enc U)) i).take o++ts++(el (l.map (t.enc U)) i).drop (o+cs.length)):=by
 unfold aem at h;split at h
 . rename_i x ad;cases h;unfold aci at ad;split at ad
   . rename_i row Nq;have ar:=eb.ayL ad;have key:=@auw U N J;have a0r:f' (k5 N J) ((t.row U (t.at U l i)).map .t) ((t.enc U (t.at U l i)).map .t):=akp;have aZO:=at1 (o:=o) a0r b7;have h1:=key Nq aZO
     have aJF:∀{a b:List C} {r:List T},toTs (a++b)=some r->∃p q,toTs a=some p/\toTs b=some q/\r=p++q:=by
      intro a
      induction a with
      | nil=>intro b r h;exact⟨[],r,rfl,h,rfl⟩
      | cons c a ih=>
       intro b r h;simp only[ab7,toTs,hC,gC]at h;obtain⟨t0,ar1,aca,Y8,rfl⟩:=h;obtain⟨p,q,eh,hj,rfl⟩:=ih Y8;exact⟨t0::p,q,by simp[toTs,ar1,eh],hj,rfl⟩
     have aJ4:∀(ts:List T),toTs (ts.map .t)=some ts:=by
      intro ts
      induction ts with
      | nil=>rfl
      | cons a ts ih=>simp[toTs,toT,ih]
     unfold abE at h1;obtain⟨p,q,eh,hj,I2⟩:=aJF h1;obtain⟨asA,ad4,f1,f2,f3⟩:=aJF eh;rw[<-an4,aJ4]at f1;cases f1;rw[<-asr,aJ4]at hj;cases hj;refine⟨ad4,f2,?_⟩;rw[List.map_set,alS ay,eb.aiF (x:=x),ar,I2,f3,b7.length]
   . cases ad
 . cases h
variable (he:r3 N J G env env1) (b9:OF gl env G) (dx:pJ N J J1)
section
include he b9 dx
theorem a2J{x:er}(h:l3 gl gd env J N (.mov x)=some (c,v,J')):Jh N J J1 (.mov x) env1 (pa env G gd) c v J':=by
 simp only[l3]at h;split at h
 . rename_i w hw;cases h;obtain⟨p,v1,a1,a2,a3⟩:=mx he b9 hw;exact .neutral dx a2 λa7 _=>⟨p,by simp[ep,a1],a3 a7⟩
 . cases h
theorem aWA{x y z:er}(h:l3 gl gd env J N (.pick x y z)=some (c,v,J')):Jh N J J1 (.pick x y z) env1 (pa env G gd) c v J':=by
 simp only[l3]at h;split at h
 . rename_i b p q h1 ah b';cases h;obtain⟨aaq,v1,a1,a2,a3⟩:=mx he b9 h1;obtain⟨aoi,v2,b1,b2,k9⟩:=aF5 he b9 h1 rfl ah;obtain⟨agC,v3,hN,hR,px⟩:=aF5 he b9 h1 rfl b';have:=a2.TC;subst this;have:=b2.TC;subst this;have:=hR.TC;subst this
   refine .neutral dx (.c (.t (U:=U) ⟨.bool,_⟩)) λa7 _=>⟨aaq/\(b=true->aoi)/\(b=false->agC),by simp only[ep,a1,b1,hN,cm];rfl,a3 a7,k9 a7,px a7⟩
 . cases h
theorem aT'{x:er}(h:l3 gl gd env J N (.nilCheck x)=some (c,v,J')):Jh N J J1 (.nilCheck x) env1 (pa env G gd) c v J':=by
 simp only[l3]at h;split at h
 . rename_i b o hw;cases h;obtain⟨p,v1,a1,a2,a3⟩:=mx he b9 hw;have:=a2.PZ;subst this;exact .neutral dx a2 λa7 _=>⟨p,by simp[ep,a1],a3 a7⟩
 . rename_i b t i o hw;cases h;obtain⟨p,v1,a1,a2,a3⟩:=mx he b9 hw;have:=a2.SH;subst this;exact .neutral dx a2 λa7 _=>⟨p,by simp[ep,a1],a3 a7⟩
 . rename_i t jb o hw;cases h;obtain⟨p,v1,a1,a2,a3⟩:=mx he b9 hw;have:=a2.ayz;subst this;exact .neutral dx a2 λa7 _=>⟨p,by simp[ep,a1],a3 a7⟩
 . cases h
theorem a2K{x:er}(h:l3 gl gd env J N (.not x)=some (c,v,J')):Jh N J J1 (.not x) env1 (pa env G gd) c v J':=by
 simp only[l3]at h;split at h
 . rename_i b hw;cases h;obtain⟨p,v1,a1,a2,a3⟩:=mx he b9 hw;have:=a2.TC;subst this;exact .neutral dx (.c (.t (U:=U) ⟨.bool,_⟩)) λa7 _=>⟨p,by simp[ep,a1];rfl,a3 a7⟩
 . cases h
theorem aWB{k:IntKind}{x:er}(h:l3 gl gd env J N (.conv k x)=some (c,v,J')):Jh N J J1 (.conv k x) env1 (pa env G gd) c v J':=by
 simp only[l3]at h;split at h
 . rename_i ka m hw;cases h;obtain⟨p,v1,a1,a2,a3⟩:=mx he b9 hw;have:=a2.NY;subst this;exact .neutral dx (.c (.t (U:=U) ⟨.int k,_⟩)) λa7 _=>⟨p,by simp[ep,a1];rfl,a3 a7⟩
 . cases h
theorem a2H{x:er}(h:l3 gl gd env J N (.i2s x)=some (c,v,J')):Jh N J J1 (.i2s x) env1 (pa env G gd) c v J':=by
 simp only[l3]at h;split at h
 . rename_i ka m hw;cases h;obtain⟨p,v1,a1,a2,a3⟩:=mx he b9 hw;have:=a2.NY;subst this;exact .neutral dx (.c (.t (U:=U) ⟨.str,_⟩)) λa7 _=>⟨p,by simp[ep,a1];rfl,a3 a7⟩
 . cases h
theorem a2L{x:er}(h:l3 gl gd env J N (.s2s x)=some (c,v,J')):Jh N J J1 (.s2s x) env1 (pa env G gd) c v J':=by
 simp only[l3]at h;split at h
 . rename_i s hw;cases h;obtain⟨p,v1,a1,a2,a3⟩:=mx he b9 hw;have:=a2.Vt;subst this;exact .neutral dx a2 λa7 _=>⟨p,by simp[ep,a1],a3 a7⟩
 . cases h
theorem aV4{off:Nat}{x:er}(h:l3 gl gd env J N (.fldA off x)=some (c,v,J')):Jh N J J1 (.fldA off x) env1 (pa env G gd) c v J':=by
 simp only[l3]at h;split at h
 . rename_i b o hw;cases h;obtain⟨p,v1,a1,a2,a3⟩:=mx he b9 hw;have:=a2.PZ;subst this;exact .neutral dx (.c (.ptr _ _)) λa7 _=>⟨p,by simp[ep,a1],a3 a7⟩
 . rename_i b t i o hw;cases h;obtain⟨p,v1,a1,a2,a3⟩:=mx he b9 hw;have:=a2.SH;subst this;exact .neutral dx (.c (.pr _ _ _ _)) λa7 _=>⟨p,by simp[ep,a1],a3 a7⟩
 . rename_i t jb o hw;cases h;obtain⟨p,v1,a1,a2,a3⟩:=mx he b9 hw;have:=a2.ayz;subst this;exact .neutral dx (.c (.IJ _ _ _)) λa7 _=>⟨p,by simp[ep,a1],a3 a7⟩
 . cases h
theorem a2G{agg:Bool}{off k:Nat}{x:er}(h:l3 gl gd env J N (.fld agg off k x)=some (c,v,J')):Jh N J J1 (.fld agg off k x) env1 (pa env G gd) c v J':=by
 simp only[l3]at h;split at h
 . rename_i cs hw;split at h
   . rename_i w a6;cases h;obtain⟨p,v1,a1,a2,a3⟩:=mx he b9 hw;obtain⟨ds,rfl,b2⟩:=a2.afy;obtain⟨v2,hN,hR⟩:=ahj b2 a6;exact .neutral dx hR λa7 _=>⟨p,by simp[ep,a1,hN],a3 a7⟩
   . cases h
 . cases h
theorem aV5{agg:Bool}{k:Nat}{x:er}(h:l3 gl gd env J N (.load agg k x)=some (c,v,J')):Jh N J J1 (.load agg k x) env1 (pa env G gd) c v J':=by
 simp only[l3]at h;split at h
 . rename_i b o hw;split at h
   . rename_i cs y1;split at h
     . rename_i w a6;cases h;obtain⟨p,v1,a1,a2,a3⟩:=mx he b9 hw;have:=a2.PZ;subst this;obtain⟨_,y,b1,b2⟩:=dx b _ y1;cases b2 with
       | box b2=>
        obtain⟨v2,hN,hR⟩:=ahj b2 a6;exact .neutral dx hR λa7 _=>⟨p,by simp[ep,a1,b1,hN],a3 a7⟩
     . cases h
   . rename_i E MH y1;split at h
     . cases h;obtain⟨p,v1,a1,a2,a3⟩:=mx he b9 hw;have:=a2.PZ;subst this;obtain⟨_,y,b1,b2⟩:=dx b _ y1;cases b2 with
       | kn b2=>exact .neutral dx (.c b2) λa7 _=>⟨p,by simp[ep,a1,b1],a3 a7⟩
     . cases h
   . cases h
 . rename_i b t i o hw;split at h
   . rename_i Lq z' y1;split at h
     . rename_i l a6;have e:=Cell.VV a6;cases e;split at h
       . rename_i w E8;cases h;obtain⟨p,v1,a1,a2,a3⟩:=mx he b9 hw;have:=a2.SH;subst this;obtain⟨_,y,b1,b2⟩:=dx b _ y1;cases b2 with
         | arr=>
          obtain⟨v2,hN,hR⟩:=ahj akp E8;refine .neutral dx hR λa7 b7=>⟨p/\t.sz U=t.sz U/\i < (List.map (t.enc U) l).length,?_,a3 a7,rfl,ahI (aah b7)⟩
          simp only[ye]at b7;have hN:=awK hN;simp only[ep,a1,cm,b1];rw[alS b7,hN];rfl
       . cases h
     . cases h
   . rename_i Lq z' ny q1 MH y1;split at h
     . cases h
     . split at h
       . rename_i LS;split at h
         . rename_i h6;cases h;have LS:=q4 LS;have h6:=q4 h6;subst LS;obtain⟨p,v1,a1,a2,a3⟩:=mx he b9 hw;have:=a2.SH;subst this;obtain⟨_,y,b1,b2⟩:=dx b _ y1;cases b2 with
           | nJ _ _ _ _ b2=>
            refine .neutral dx (.c b2) λa7 b7=>⟨p/\t.sz U=Lq.sz U/\i=ny,?_,a3 a7,h6,aah b7⟩
            simp only[ep,a1,cm,b1];simp
         . cases h
       . rename_i LS;have LS:=PC LS;split at h
         . rename_i l a6;have e:=Cell.VV a6;cases e;split at h
           . rename_i w E8;cases h;obtain⟨p,v1,a1,a2,a3⟩:=mx he b9 hw;have:=a2.SH;subst this;obtain⟨_,y,b1,b2⟩:=dx b _ y1;cases b2 with
             | nJ _ _ _ _ b2=>
              obtain⟨v2,hN,hR⟩:=ahj akp E8;refine .neutral dx hR λa7 b7=>⟨p/\t.sz U=t.sz U/\i < (List.map (t.enc U) l).length,?_,a3 a7,rfl,ahI (aah b7)⟩
              simp only[ye]at b7;have hN:=awK hN;simp only[ep,a1,cm,b1];rw[aJ (by simp),aJ LS,alS b7,hN];rfl
           . cases h
         . cases h
   . cases h
 . rename_i t jb o hw;split at h
   . rename_i w a6;cases h;obtain⟨p,v1,a1,a2,a3⟩:=mx he b9 hw;have:=a2.ayz;subst this;obtain⟨v2,hN,hR⟩:=ahj akp a6;have hN:=awK hN;exact .neutral dx hR λa7 _=>⟨p,by simp[ep,a1,hN],a3 a7⟩
   . cases h
 . cases h
theorem a2D{op:BinOp}{x y:er}(h:l3 gl gd env J N (.bin op x y)=some (c,v,J')):Jh N J J1 (.bin op x y) env1 (pa env G gd) c v J':=by
 simp only[l3]at h;split at h
 . rename_i p q bo eg;split at h
   . rename_i C4 r ar;cases h;obtain⟨pp,v1,a1,a2,a3⟩:=mx he b9 bo;obtain⟨TN,v2,b1,b2,k9⟩:=mx he b9 eg;have:=a2.ajK;subst this;have:=b2.ajK;subst this;obtain⟨Oi,d1,d2⟩:=aT8 ar;exact .neutral dx (.c (.t _)) λa7 b7=>⟨pp/\TN/\Oi,by simp only[ep,a1,b1,cm,d1];rfl,a3 a7,k9 a7,d2 b7⟩
   . cases h
 . cases h
theorem aVc{neg:Bool}{ks:List Nat}{x y:er}(h:l3 gl gd env J N (.eqAgg neg ks x y)=some (c,v,J')):Jh N J J1 (.eqAgg neg ks x y) env1 (pa env G gd) c v J':=by
 simp only[l3]at h;split at h
 . rename_i p q bo eg;split at h
   . rename_i r ar;cases h;obtain⟨pp,v1,a1,a2,a3⟩:=mx he b9 bo;obtain⟨TN,v2,b1,b2,k9⟩:=mx he b9 eg;obtain⟨ds,rfl,d2⟩:=a2.afy;obtain⟨es,rfl,hj⟩:=b2.afy;have:=aDR ar d2 hj;exact .neutral dx (.c (.t (U:=U) ⟨.bool,_⟩)) λa7 b7=>⟨pp/\TN,by simp only[ep,a1,b1,cm,this];cases neg <;> rfl,a3 a7,k9 a7⟩
   . cases h
 . cases h
theorem aVT{neg:Bool}{x y:er}(h:l3 gl gd env J N (.eqBool neg x y)=some (c,v,J')):Jh N J J1 (.eqBool neg x y) env1 (pa env G gd) c v J':=by
 simp only[l3]at h;split at h
 . rename_i p q bo eg;cases h;obtain⟨pp,v1,a1,a2,a3⟩:=mx he b9 bo;obtain⟨TN,v2,b1,b2,k9⟩:=mx he b9 eg;have:=a2.TC;subst this;have:=b2.TC;subst this;exact .neutral dx (.c (.t (U:=U) ⟨.bool,_⟩)) λa7 b7=>⟨pp/\TN,by simp only[ep,a1,b1,cm];cases neg <;> rfl,a3 a7,k9 a7⟩
 . cases h
theorem aV6{sz:Nat}{x y:er}(h:l3 gl gd env J N (.idxA sz x y)=some (c,v,J')):Jh N J J1 (.idxA sz x y) env1 (pa env G gd) c v J':=by
 simp only[l3]at h;split at h
 . rename_i t l k m bo eg;split at h
   . rename_i h6;have h6:=q4 h6;cases h;obtain⟨pp,v1,a1,a2,a3⟩:=mx he b9 bo;obtain⟨TN,v2,b1,b2,k9⟩:=mx he b9 eg;have:=a2.Vs;subst this;have:=b2.NY;subst this;by_cases ar:ez m (List.length l)=true
     . obtain⟨h1,ah⟩:=afi.1 ar;refine .neutral dx (v1:= .c (.IJ (el (List.map (t.enc U) l) (Int.toNat m)) 0)) ?_ λa7 b7=>⟨pp/\TN/\(0:Int)<=m/\Int.toNat m < (List.map (t.enc U) l).length/\(el (List.map (t.enc U) l) (Int.toNat m)).length=sz,by simp only[ep,a1,b1,cm],a3 a7,k9 a7,h1,ahI ah,by rw[alS ah,eb.afQ];exact h6⟩
       rw[alS ah];exact .c (.IJ _ _ _)
     . exact .neutral dx (.c (.IJ _ _ _)) λa7 b7=>absurd b7 ar
   . cases h
 . rename_i b k m bo eg;split at h
   . rename_i t l al;split at h
     . rename_i h6;have h6:=q4 h6;cases h;obtain⟨pp,v1,a1,a2,a3⟩:=mx he b9 bo;obtain⟨TN,v2,b1,b2,k9⟩:=mx he b9 eg;obtain⟨lJ,n,rfl,OJ,a7⟩:=a2.O3;have:=b2.NY;subst this;have:=a7 _ al _ rfl;cases this
       refine .neutral dx (.c (.pr _ _ _ _)) λa7 b7=>⟨pp/\TN/\(0:Int)<=m/\Int.toNat m < l.length/\sz=t.sz U,?_,a3 a7,k9 a7,(afi.1 b7).1,(afi.1 b7).2,h6.symm⟩
       simp only[ep,a1,b1,cm,NI,h6]
     . cases h
   . cases h
 . cases h
theorem aV7{x y:er}(h:l3 gl gd env J N (.idxS x y)=some (c,v,J')):Jh N J J1 (.idxS x y) env1 (pa env G gd) c v J':=by
 simp only[l3]at h;split at h
 . rename_i s k m bo eg;cases h;obtain⟨pp,v1,a1,a2,a3⟩:=mx he b9 bo;obtain⟨TN,v2,b1,b2,k9⟩:=mx he b9 eg;have:=a2.Vt;subst this;have:=b2.NY;subst this;exact .neutral dx (.c (.t (U:=U) ⟨.int .u8,_⟩)) λa7 b7=>⟨pp/\TN/\(0:Int)<=m/\Int.toNat m < List.length s,by simp only[ep,a1,b1,cm];rfl,a3 a7,k9 a7,(afi.1 b7).1,(afi.1 b7).2⟩
 . cases h
theorem aaU{x:Option er}{l:Option Int}(h:ZU gl gd env x=some l):∃p,Ug env1 x=some (p,l)/\(pa env G gd=true->p):=by
 unfold ZU at h;split at h
 . cases h;exact⟨True,rfl,λ_=>trivial⟩
 . split at h
   . rename_i k n ad;cases h;obtain⟨pp,v1,a1,a2,a3⟩:=mx he b9 ad;have:=a2.NY;subst this;exact⟨pp,by simp only[Ug,a1,cm],a3⟩
   . cases h
theorem aV8{x:er}{hi ay:Option er}(h:l3 gl gd env J N (.slcS x hi ay)=some (c,v,J')):Jh N J J1 (.slcS x hi ay) env1 (pa env G gd) c v J':=by
 simp only[l3]at h;split at h
 . rename_i s l r bo a6 ar;cases h;obtain⟨pp,v1,a1,a2,a3⟩:=mx he b9 bo;obtain⟨pl,M5,l2⟩:=aaU he b9 dx a6;obtain⟨Oi,kJ,oJ⟩:=aaU he b9 dx ar;have:=a2.Vt;subst this
   exact .neutral dx (.c (.t (U:=U) ⟨.str,_⟩)) λa7 b7=>⟨pp/\pl/\Oi/\0<=l.getD 0/\l.getD 0<=r.getD (List.length s:Int)/\r.getD (List.length s:Int)<=(List.length s:Int),by simp only[ep,a1,M5,kJ,cm];rfl,a3 a7,l2 a7,oJ a7,R7.1 b7⟩
 . cases h
theorem a2M{sz:Nat}{x:er}{hi ay:Option er}(h:l3 gl gd env J N (.slc sz x hi ay)=some (c,v,J')):Jh N J J1 (.slc sz x hi ay) env1 (pa env G gd) c v J':=by
 simp only[l3]at h;split at h
 . rename_i t s l r bo a6 ar;split at h
   . rename_i h6;have h6:=q4 h6;cases h;obtain⟨pp,v1,a1,a2,a3⟩:=mx he b9 bo;obtain⟨pl,M5,l2⟩:=aaU he b9 dx a6;obtain⟨Oi,kJ,oJ⟩:=aaU he b9 dx ar;have:=a2.Vs;subst this
     refine .neutral dx (.c (.t (U:=U) ⟨.slice t,_⟩)) λa7 b7=>⟨pp/\pl/\Oi/\0<=l.getD 0/\l.getD 0<=r.getD (List.length s:Int)/\r.getD (List.length s:Int)<=(List.length s:Int)/\∀e,e∈List.map (t.enc U) s->e.length=sz,?_,a3 a7,l2 a7,oJ a7,(R7.1 b7).1,(R7.1 b7).2.1,(R7.1 b7).2.2,?_⟩
     . simp only[ep,a1,M5,kJ,cm];exact aWy
     . intro e hm;obtain⟨y,_,rfl⟩:=Lp.1 hm;rw[eb.afQ];exact h6
   . cases h
 . rename_i b r bo a6 ar;split at h
   . rename_i t s al;split at h
     . rename_i h6;have h6:=q4 h6;cases h;obtain⟨pp,v1,a1,a2,a3⟩:=mx he b9 bo;obtain⟨Oi,kJ,oJ⟩:=aaU he b9 dx ar;obtain⟨lJ,n,rfl,OJ,a7⟩:=a2.O3;have SK:=a7 _ al (t.sz U,s.length) rfl;simp only[hO]at SK;obtain⟨rfl,rfl⟩:=SK;have OL:hi=none:=by
        cases hi with
        | none=>rfl
        | some x=>simp only[ZU]at a6;split at a6 <;> cases a6
       subst OL;refine .neutral dx (.c (.pre b (t.sz U) _ OJ λx ad p bo=>?_)) λMM b7=>⟨pp/\True/\Oi/\0<=(none:Option Int).getD 0/\(none:Option Int).getD 0<=r.getD (List.length s:Int)/\r.getD (List.length s:Int)<=(List.length s:Int)/\sz=t.sz U,?_,a3 MM,trivial,oJ MM,(R7.1 b7).1,(R7.1 b7).2.1,(R7.1 b7).2.2,h6.symm⟩
       . grind
       . have afY:Ug env1 none=some (True,none):=rfl;simp only[ep,a1,afY,kJ,cm];rfl
     . cases h
   . cases h
 . rename_i b l r bo a6 ar;split at h
   . rename_i t s al;split at h
     . rename_i h6;have h6:=q4 h6;cases h;obtain⟨pp,v1,a1,a2,a3⟩:=mx he b9 bo;obtain⟨pl,M5,l2⟩:=aaU he b9 dx a6;obtain⟨Oi,kJ,oJ⟩:=aaU he b9 dx ar;obtain⟨lJ,n,rfl,OJ,a7⟩:=a2.O3;have SK:=a7 _ al (t.sz U,s.length) rfl;simp only[hO]at SK;obtain⟨rfl,rfl⟩:=SK;have OL:hi.isNone=false:=by
        cases hi with
        | none=>simp[ZU]at a6
        | some x=>rfl
       refine .neutral dx (.c (.DJ b (t.sz U) _ _ OJ λx ad p bo=>?_)) λMM b7=>⟨pp/\pl/\Oi/\0<=(some l:Option Int).getD 0/\(some l:Option Int).getD 0<=r.getD (List.length s:Int)/\r.getD (List.length s:Int)<=(List.length s:Int)/\sz=t.sz U,?_,a3 MM,l2 MM,oJ MM,(R7.1 b7).1,(R7.1 b7).2.1,(R7.1 b7).2.2,h6.symm⟩
       . grind
       . simp only[ep,a1,M5,kJ,cm,OL,q2,uJ,NI];rfl
     . cases h
   . cases h
 . cases h
theorem aV9{x:er}(h:l3 gl gd env J N (.slc0 x)=some (c,v,J')):Jh N J J1 (.slc0 x) env1 (pa env G gd) c v J':=by
 simp only[l3]at h;split at h
 . rename_i t l hw;cases h;obtain⟨p,v1,a1,a2,a3⟩:=mx he b9 hw;have:=a2.Vs;subst this;exact .neutral dx (.c .ee) λa7 _=>⟨p,by simp[ep,a1],a3 a7⟩
 . rename_i hw;cases h;obtain⟨p,v1,a1,a2,a3⟩:=mx he b9 hw;have:=a2.aim;subst this;exact .neutral dx (.c .ee) λa7 _=>⟨p,by simp[ep,a1],a3 a7⟩
 . rename_i b hw;cases h;obtain⟨p,v1,a1,a2,a3⟩:=mx he b9 hw;obtain⟨sz,n,rfl,_⟩:=a2.O3;exact .neutral dx (.c .ee) λa7 _=>⟨p,by simp[ep,a1],a3 a7⟩
 . cases h
theorem aDS :∀{vs:List (hM U)} {ds:List V} {l:List Nat},aoS vs=some l->f' (km N J) vs ds->ep.afH ds=some l
 | [],[],l,h,.nil=>by simp[aoS]at h;subst h;rfl
 | .c (.ptr b 0)::vs,d::ds,l,h,.cons h1 ah=>by
  simp only[aoS]at h;split at h
  . rename_i z' a6;cases h;have:=h1.PZ;subst this;simp[ep.afH,aDS a6 ah]
  . cases h
theorem aV'{f:Nat}{caps:List er}(h:l3 gl gd env J N (.mkfn f caps)=some (c,v,J')):Jh N J J1 (.mkfn f caps) env1 (pa env G gd) c v J':=by
 simp only[l3]at h;split at h
 . rename_i vs Jl;split at h
   . rename_i l a6;cases h;obtain⟨p,ds,a1,a2,a3⟩:=aft he b9 Jl;exact .neutral dx (.c (.fn _ _)) λa7 _=>⟨p,by simp[ep,a1,aDS he b9 dx a6 a2],a3 a7⟩
   . cases h
 . cases h
theorem a2F{x:er}{i:Nat}(h:l3 gl gd env J N (.ext x i)=some (c,v,J')):Jh N J J1 (.ext x i) env1 (pa env G gd) c v J':=by
 simp only[l3]at h;split at h
 . rename_i vs Jl;split at h
   . rename_i w hw;cases h;obtain⟨p,v1,a1,a2,a3⟩:=mx he b9 Jl;cases a2 with
     | gJ _ ds a6 ah=>
      have ay:=(sb.1 hw).1;have a7:=J9 (l:=ds) (i:=i) (by omega);exact .neutral dx (ah i _ _ hw a7) λb9 _=>⟨p,by simp only[ep,a1,cm,a7,Oh],a3 b9⟩
   . cases h
 . cases h
theorem aWa{x y:er}(h:l3 gl gd env J N (.max2 x y)=some (c,v,J')):Jh N J J1 (.max2 x y) env1 (pa env G gd) c v J':=by
 simp only[l3]at h;split at h
 . rename_i k a ka b bo eg;simp only[A',hQ,hO]at h;obtain⟨rfl,rfl,rfl,rfl⟩:=h;obtain⟨pp,v1,a1,a2,a3⟩:=mx he b9 bo;obtain⟨TN,v2,b1,b2,k9⟩:=mx he b9 eg;have:=a2.NY;subst this;have:=b2.NY;subst this
   exact .neutral dx (.c (.t (U:=U) ⟨.int k,_⟩)) λa7 b7=>⟨pp/\TN,by simp only[ep,a1,b1,cm,qb];rfl,a3 a7,k9 a7⟩
 . cases h
theorem aWb{x y:er}(h:l3 gl gd env J N (.min2 x y)=some (c,v,J')):Jh N J J1 (.min2 x y) env1 (pa env G gd) c v J':=by
 simp only[l3]at h;split at h
 . rename_i k a ka b bo eg;simp only[A',hQ,hO]at h;obtain⟨rfl,rfl,rfl,rfl⟩:=h;obtain⟨pp,v1,a1,a2,a3⟩:=mx he b9 bo;obtain⟨TN,v2,b1,b2,k9⟩:=mx he b9 eg;have:=a2.NY;subst this;have:=b2.NY;subst this
   exact .neutral dx (.c (.t (U:=U) ⟨.int k,_⟩)) λa7 b7=>⟨pp/\TN,by simp only[ep,a1,b1,cm,qb];rfl,a3 a7,k9 a7⟩
 . cases h
theorem aVd{z:List C}{parts:List (Nat×Nat×er)}(h:l3 gl gd env J N (.build z parts)=some (c,v,J')):Jh N J J1 (.build z parts) env1 (pa env G gd) c v J':=by
 simp only[l3]at h;split at h
 . rename_i B' ga;split at h
   . rename_i cs y1;cases h;obtain⟨p,ds,a1,a2,a3⟩:=aDz he b9 y1 (afm ga);exact .neutral dx (.agg a2) λa7 _=>⟨p,by simp[ep,a1],a3 a7⟩
   . cases h
 . cases h
theorem aVe{cs:List C}(h:l3 gl gd env J N (.alloc cs)=some (c,v,J')):Jh N J J1 (.alloc cs) env1 (pa env G gd) c v J':=by
 simp only[l3]at h;split at h
 . rename_i xs TM;cases h;have k:wJ N J (N+16) (o1 J N (.box xs)):=XG (by omega);exact .store rfl k (.c (.ptr _ _)) λa7 _=>⟨True,_,rfl,trivial,dx.put (by omega) k (.box (afm TM))⟩
 . cases h
theorem a2E{x:er}(h:l3 gl gd env J N (.box x)=some (c,v,J')):Jh N J J1 (.box x) env1 (pa env G gd) c v J':=by
 simp only[l3]at h;split at h
 . rename_i w hw;split at h
   . rename_i cs y1;cases h;obtain⟨p,v1,a1,a2,a3⟩:=mx he b9 hw;obtain⟨ds,b1,b2⟩:=aaT a2 y1;have k:wJ N J (N+16) (o1 J N (.box cs)):=XG (by omega);exact .store rfl k (.c (.ptr _ _)) λa7 _=>⟨p,_,by simp only[ep,a1,cm,b1,Oh],a3 a7,dx.put (by omega) k (.box (b2.imp λ_ _ _=>k5.mono k))⟩
   . cases h
 . cases h
theorem aVU{sz len:Nat}{z:List C}{parts:List (Nat×er)}(h:l3 gl gd env J N (.bslice sz len z parts)=some (c,v,J')):Jh N J J1 (.bslice sz len z parts) env1 (pa env G gd) c v J':=by
 simp only[l3]at h;split at h
 . rename_i B' ga;split at h
   . cases h
   . rename_i ts M4;split at h
     . cases h
     . rename_i h6;have h6:=q4 h6;split at h
       . rename_i rows ar;cases h;have agj:=afm (N:=N) (J:=J) ga;obtain⟨p,es,a1,a2,a4,a3⟩:=atP he b9 ar (es:=List.replicate len ts) (f'.replicate (R:=λr e=>P3 r=some e) M4 len) (by intro r ar;rw[ash ar];exact h6);have k:wJ N J (N+16) (o1 J N (.rows sz rows)):=XG (by omega)
         refine .store rfl k (.c (.arr N sz es.length (by omega) ?_)) λa7 _=>⟨p,_,by simp only[ep,aqN agj M4,cm,a1,Oh];rw[aD6 a1,List.length_replicate],a3 a7,dx.put (by omega) k (.rows a2 a4)⟩
         intro x ad q eg;rw[PV,ao rfl]at ad;cases ad;simp only[qJ.xn,hQ]at eg;rw[<-eg,a2.length]
       . cases h
 . cases h
omit he b9 dx in
theorem aU1{ds:List C}{ts:List T}(h:toTs ds=some ts):aoh ds=none:=by
 unfold aoh;split
 . simp[toTs,toT]at h
 . rfl
omit he b9 dx in
theorem aVV{J:hc U}{J1:fu}{v1:V}{w:hM U}{d:V}(h:km N J w d)(hw:∀b hi len,w≠.c (.DJ b hi len))(a0F:∀b hi len,w≠.c (.sub b hi len))(a0G:w≠.c .dead):Zq v1 d=none:=by
 unfold Zq;split
 . cases h with
   | c h=>
    cases h with
    | sub b hi len=>exact absurd rfl (a0F _ _ _)
    | DJ b sz hi len=>exact absurd rfl (hw _ _ _)
    | dead d=>exact absurd rfl a0G
 . rfl
theorem aWC{k:Nat}{x y:er}(h:l3 gl gd env J N (.store k x y)=some (c,v,J')):Jh N J J1 (.store k x y) env1 (pa env G gd) c v J':=by
 simp only[l3]at h;split at h
 . rename_i b o w ad bJ;split at h
   . rename_i cs y1;split at h
     . rename_i hk;have hk:=q4 hk;split at h
       . rename_i ds V7;split at h
         . rename_i hle;have hle:=Qa hle;cases h;obtain⟨p,v1,a1,a2,a3⟩:=mx he b9 ad;obtain⟨q,v2,b1,b2,k9⟩:=mx he b9 bJ;have:=a2.PZ;subst this;obtain⟨es,hN,hR⟩:=aaT b2 y1;obtain⟨OJ,z,d1,d2⟩:=dx b _ V7;cases d2 with
           | @box _ fs d2=>
            have K6:wJ N J (N+16) (o1 J b (.box (ajO ds o cs))):=ZM (by omega) V7 (λp h=>by simp[qJ.xn]at h);refine .store rfl K6 (.gJ [] [] rfl (by simp)) λa7 _=>⟨p/\q,_,?_,⟨a3 a7,k9 a7⟩,dx.put (by omega) K6 (.box (at1 (d2.imp λ_ _ _=>k5.mono K6) (hR.imp λ_ _ _=>k5.mono K6)))⟩
            simp only[ep,a1,b1,cm,hN];rw[ao (by rw[<-hR.length];exact hk),d1];dsimp only;rw[ao (by rw[<-d2.length];exact hle)]
         . cases h
       . rename_i E MH V7;split at h
         . rename_i MH _;cases h;obtain⟨p,v1,a1,a2,a3⟩:=mx he b9 ad;obtain⟨q,v2,b1,b2,k9⟩:=mx he b9 bJ;have:=a2.PZ;subst this;obtain⟨es,hN,hR⟩:=aaT b2 y1;obtain⟨OJ,z,d1,d2⟩:=dx b _ V7;cases d2 with
           | kn d2=>
            cases hR with | cons hR px=>
            cases px;have K6:wJ N J (N+16) (o1 J b (.kn E MH)):=ZM (by omega) V7 (λp h=>by simp[qJ.xn]at h);refine .store rfl K6 (.gJ [] [] rfl (by simp)) λa7 _=>⟨p/\q,_,?_,⟨a3 a7,k9 a7⟩,dx.put (by omega) K6 (.kn (hR.mono K6))⟩
            simp only[ep,a1,b1,cm,hN]
            grind
         . cases h
       . cases h
     . cases h
   . cases h
 . rename_i b t i o w ad bJ;split at h
   . rename_i cs y1;split at h
     . rename_i hk;simp only[k0]at hk;have Oy:=q4 hk.1;have TI:=Qa hk.2;split at h
       . rename_i Lq z' L1;split at h
         . rename_i l a6;have e:=Cell.VV a6;cases e;split at h
           . rename_i aiq arV;cases h;obtain⟨rfl,hq,rfl⟩:cs=[aiq]/\∃hq,aiq= .arr hq:=by
              unfold aK8 at arV;split at arV <;> cases arV
              exact⟨rfl,_,rfl⟩
             obtain⟨p,v1,a1,a2,a3⟩:=mx he b9 ad;obtain⟨q,v2,b1,b2,k9⟩:=mx he b9 bJ;have:=a2.SH;subst this;obtain⟨es,hN,hR⟩:=aaT b2 y1;cases hR with | cons hR px=>
             cases px;have aNl:=hR;cases hR with | arr _ s2 D' ML arH=>
             obtain⟨OJ,z,d1,d2⟩:=dx b _ L1;cases d2 with
             | arr=>
              have K6:wJ N J (N+16) (o1 J b (.nJ t l i o (.arr hq))):=ZM (by omega) L1 (λp h=>by simpa[qJ.xn]using h)
              refine .store rfl K6 (.gJ [] [] rfl (by simp)) λa7 b7=>⟨p/\q/\t.sz U=t.sz U/\i < (List.map (t.enc U) l).length/\o+k<=t.sz U,_,?_,⟨a3 a7,k9 a7,rfl,ahI (aah b7),TI⟩,dx.put (by omega) K6 (.nJ t l i o (aNl.mono K6))⟩
              simp only[ep,a1,b1,cm,hN];rw[ao (by simpa using Oy)];simp only[d1,aoh]
           rename_i arV;split at h
           . rename_i l2 E8;cases h;obtain⟨p,v1,a1,a2,a3⟩:=mx he b9 ad;obtain⟨q,v2,b1,b2,k9⟩:=mx he b9 bJ;have:=a2.SH;subst this;obtain⟨es,hN,hR⟩:=aaT b2 y1;obtain⟨OJ,z,d1,d2⟩:=dx b _ L1;cases d2 with
             | arr=>
              have hlen:l2.length=List.length l:=by
               unfold aem at E8
               grind
              have K6:wJ N J (N+16) (o1 J b (.arr t l2)):=ZM (by omega) L1 (λp h=>by
               simp only[qJ.xn]at h ⊢
               grind)
              refine .store rfl K6 (.gJ [] [] rfl (by simp)) λa7 b7=>?_
              have ay:i < List.length l:=aah b7;obtain⟨ts,eh,hj⟩:=atH E8 ay hR (by rw[Oy];exact TI);refine⟨p/\q/\t.sz U=t.sz U/\i < (List.map (t.enc U) l).length/\o+k<=t.sz U,_,?_,⟨a3 a7,k9 a7,rfl,ahI ay,TI⟩,dx.put (by omega) K6 (.arr t l2)⟩;simp only[ep,a1,b1,cm,hN];rw[ao (by rw[<-hR.length];exact Oy),d1]
              dsimp only;rw[aU1 eh]
              grind
           . cases h
         . cases h
       . rename_i Lq z' ny q1 MH L1;split at h
         . rename_i aiq;split at h
           . rename_i LS;split at h
             . rename_i h6;cases h;have LS:=q4 LS;have h6:=q4 h6;subst LS;obtain⟨p,v1,a1,a2,a3⟩:=mx he b9 ad;obtain⟨q,v2,b1,b2,k9⟩:=mx he b9 bJ;have:=a2.SH;subst this;obtain⟨es,hN,hR⟩:=aaT b2 y1;cases hR with | cons hR px=>
               cases px;obtain⟨OJ,z,d1,d2⟩:=dx b _ L1;cases d2 with
               | nJ _ _ _ _ d2=>
                have K6:wJ N J (N+16) (o1 J b (.nJ Lq z' ny o aiq)):=ZM (by omega) L1 (λp h=>by simpa[qJ.xn]using h);refine .store rfl K6 (.gJ [] [] rfl (by simp)) λa7 b7=>⟨p/\q/\t.sz U=Lq.sz U/\i=ny,_,?_,⟨a3 a7,k9 a7,h6,aah b7⟩,dx.put (by omega) K6 (.nJ Lq z' ny o (hR.mono K6))⟩
                simp only[ep,a1,b1,cm,hN];rw[ao (by simpa using Oy),d1];dsimp only;rw[ao rfl]
             . cases h
           . rename_i LS;have LS:=PC LS;split at h
             . rename_i l a6;have e:=Cell.VV a6;cases e;split at h
               . rename_i l2 E8;cases h;obtain⟨p,v1,a1,a2,a3⟩:=mx he b9 ad;obtain⟨q,v2,b1,b2,k9⟩:=mx he b9 bJ;have:=a2.SH;subst this;obtain⟨es,hN,hR⟩:=aaT b2 y1;obtain⟨OJ,z,d1,d2⟩:=dx b _ L1;cases d2 with
                 | nJ _ _ _ _ d2=>
                  have hlen:l2.length=List.length l:=by
                   unfold aem at E8
                   grind
                  have K6:wJ N J (N+16) (o1 J b (.nJ t l2 ny q1 MH)):=ZM (by omega) L1 (λp h=>by
                   simp only[qJ.xn]at h ⊢
                   grind)
                  refine .store rfl K6 (.gJ [] [] rfl (by simp)) λa7 b7=>?_
                  have ay:i < List.length l:=aah b7;obtain⟨ts,eh,hj⟩:=atH E8 ay hR (by rw[Oy];exact TI);cases hR with | @cons _ aA5 _ _ hR px=>
                  cases px;obtain⟨aoI,ayt,a0z⟩:∃aoI,Shv.toT aA5=some aoI/\ts=[aoI]:=by
                   simp only[toTs]at eh;cases ad:Shv.toT aA5 with
                   | none=>rw[ad]at eh;simp at eh
                   | some aoI=>rw[ad]at eh;simp at eh;exact⟨aoI,rfl,eh.symm⟩
                  refine⟨p/\q/\t.sz U=t.sz U/\i < (List.map (t.enc U) l).length/\o+k<=t.sz U,_,?_,⟨a3 a7,k9 a7,rfl,ahI ay,TI⟩,dx.put (by omega) K6 (.nJ t l2 ny q1 (d2.mono K6))⟩;simp only[ep,a1,b1,cm,hN];rw[ao (by simpa using Oy),d1];dsimp only;rw[aJ LS,ayt];subst a0z
                  grind
               . cases h
             . cases h
         . cases h
       . cases h
     . cases h
   . cases h
 . cases h
inductive VA:Nh U->List (List T)->Prop
 | ty (t:eb) (l:List (t.den U.D)):VA (.ty t l) (l.map (t.enc U))
 | rows {r es}:f' (λr e=>P3 r=some e) r es->VA (.rows r) es
 | nil:VA .nil []
omit he b9 dx in
theorem VA.length{e:Nh U}{es:List (List T)}(h:VA e es):es.length=e.len:=by
 cases h with
 | ty t l=>simp[Nh.len]
 | rows h=>simp[Nh.len,h.length]
 | nil=>rfl
omit he b9 dx in
theorem at6 :∀{xs:List (hn U)} {vi:List eb} {e:List T} {row:List (Cell U.D)},Q6 vi xs=some row->P3 xs=some e->e=row.map (Cell.enc U)
 | [],vi,e,row,h1,ah=>by
  cases vi <;> simp[Q6]at h1
  simp[P3]at ah
  grind
 | y::ys,[],e,row,h1,ah=>by cases y <;> simp[Q6]at h1
 | y::ys,ty::vi,e,row,h1,ah=>by
  simp only[P3]at ah;split at ah
  . rename_i t ts ht M4;cases ah;cases y with
    | t c=>
     simp only[hn.toT]at ht;split at ht
     . cases ht
     . cases ht;cases ty <;> simp only[Q6]at h1 <;> (split at h1 <;> first | (cases h1;done) | (rename_i q eg;cases h1;rw[at6 eg M4];rfl))
    | ee=>
     simp only[hn.toT,hQ]at ht;subst ht;cases ty <;> simp only[Q6,reduceCtorEq]at h1
     split at h1
     . rename_i q eg;cases h1;rw[at6 eg M4];rfl
     . cases h1
    | _=>simp[hn.toT]at ht
  . cases ah
omit he b9 dx in
theorem aWc{t:eb}{r:List (hn U)}{x:t.den U.D}{e:List T}(h:aci U t r=some x)(he:P3 r=some e):t.enc U x=e:=by
 unfold aci at h;split at h
 . rename_i row Nq;rw[eb.aiF,eb.ayL h,at6 Nq he]
 . cases h
omit he b9 dx in
theorem ah8{t:eb}:∀{r:List (List (hn U))} {l:List (t.den U.D)} {es:List (List T)},Ym U t r=some l->f' (λr e=>P3 r=some e) r es->l.map (t.enc U)=es
 | [],l,es,h,ah=>by cases ah;simp[Ym]at h;subst h;rfl
 | r::rs,l,_::_,h,.cons h1 ah=>by
  simp only[Ym]at h;split at h
  . rename_i x xs ad TM;cases h;rw[QX,aWc ad h1,ah8 TM ah]
  . cases h
omit he b9 dx in
theorem VA.as{t:eb}{e:Nh U}{es:List (List T)}{l:List (t.den U.D)}(h:VA e es)(ch:e.as t=some l):l.map (t.enc U)=es:=by
 cases h with
 | ty u z'=>
  simp only[Nh.as]at ch;have:=Cell.VV ch
  grind
 | rows h=>exact ah8 ch h
 | nil=>simp[Nh.as]at ch;subst ch;rfl
omit he b9 dx in
theorem VA.join{x y z:Nh U}{es fs:List (List T)}(ad:VA x es)(bJ:VA y fs)(h:x.join y=some z):VA z (es++fs):=by
 cases ad with
 | nil=>simp[Nh.join]at h;subst h;exact bJ
 | ty t l=>
  simp only[Nh.join]at h;split at h
  . rename_i z' a6;cases h;rw[<-bJ.as a6,<-ajh];exact .ty t _
  . cases h
 | rows ar=>
  cases bJ with
  | ty t l=>
   simp only[Nh.join]at h;split at h
   . rename_i z' a6;cases h;rw[<-ah8 a6 ar,<-ajh];exact .ty t _
   . cases h
  | rows af6=>simp[Nh.join]at h;subst h;exact .rows (ar.append af6)
  | nil=>simp[Nh.join]at h;subst h;rw[aam];exact .rows ar
omit he b9 dx in
theorem VA.blk{e:Nh U}{es:List (List T)}{sz:Nat}{b:qJ U}(h:VA e es)(al:e.blk sz=some b):P6 N' J' b (.arr sz es)/\(∀x,x∈es->x.length=sz)/\b.xn=some (sz,e.len):=by
 cases h with
 | ty t l=>
  simp only[Nh.blk]at al;split at al
  . rename_i hs;have:=q4 hs;subst this;cases al;refine⟨.arr t l,λx ad=>?_,rfl⟩;obtain⟨y,_,rfl⟩:=Lp.1 ad;exact eb.afQ
  . cases al
 | @rows r es ar=>
  simp only[Nh.blk]at al;split at al
  . rename_i hs;cases al;simp only[r0]at hs;refine⟨.rows ar λx ad=>q4 (hs x ad),λx ad=>?_,rfl⟩;obtain⟨i,ay,rfl⟩:=OR ad;obtain⟨y,h1,ah⟩:=(ar.flip (R':=λe r=>P3 r=some e) λ_ _ h=>h).get (J9 ay);rw[atG ah];exact q4 (hs y (JX h1))
  . cases al
 | nil=>
  simp only[Nh.blk,hQ]at al;subst al;exact⟨.rows .nil (by simp),by simp,rfl⟩
omit he b9 in
theorem awL{v:hM U}{v1:V}{e:Nh U}{asw:Option Nat}(cv:km N J v v1)(h:aej J v=some (e,asw)):∃es,Yn J1 v1=some (es,asw)/\VA e es:=by
 unfold aej at h;split at h
 . rename_i t l;cases h;have:=cv.Vs;subst this;exact⟨_,rfl,.ty t l⟩
 . cases h;have:=cv.aim;subst this;exact⟨_,rfl,.nil⟩
 . rename_i b;obtain⟨sz,n,rfl,al,a7⟩:=cv.O3;split at h
   . rename_i t l a6;cases h;obtain⟨_,y,h1,ah⟩:=dx b _ a6;cases ah;have:=a7 _ a6 _ rfl;cases this;exact⟨_,by simp[Yn,h1],.ty t l⟩
   . rename_i lJ r a6;cases h;obtain⟨_,y,h1,ah⟩:=dx b _ a6;cases ah with
     | rows ah b'=>
      have:=a7 _ a6 _ rfl;cases this;exact⟨_,by simp[Yn,h1,ah.length],.rows ah⟩
   . cases h
 . cases h
theorem a2I{str:Bool}{x:er}(h:l3 gl gd env J N (.len str x)=some (c,v,J')):Jh N J J1 (.len str x) env1 (pa env G gd) c v J':=by
 simp only[l3]at h;split at h
 . rename_i s hw;cases h;obtain⟨p,v1,a1,a2,a3⟩:=mx he b9 hw;have:=a2.Vt;subst this;exact .neutral dx (.c (.t (U:=U) ⟨.int .i64,_⟩)) λa7 _=>⟨p,by simp only[ep,a1,cm];rfl,a3 a7⟩
 . rename_i b hw;split at h
   . rename_i E s al;cases h;obtain⟨p,v1,a1,a2,a3⟩:=mx he b9 hw;obtain⟨n,rfl,_,MM⟩:=a2.arf;have:=MM _ al _ rfl;cases this;exact .neutral dx (.c (.t (U:=U) ⟨.int .i64,_⟩)) λa7 _=>⟨p,by simp only[ep,a1,cm];rfl,a3 a7⟩
   . cases h
 . rename_i w hw;split at h
   . rename_i e J7;obtain⟨e,asw⟩:=e;cases h;obtain⟨p,v1,a1,a2,a3⟩:=mx he b9 hw;refine .neutral dx (.c (.t (U:=U) ⟨.int .i64,_⟩)) λa7 _=>⟨p,?_,a3 a7⟩
     unfold aej at J7;split at J7
     . rename_i t l;cases J7;have:=a2.Vs;subst this;simp only[ep,a1,cm];exact aWz
     . cases J7;have:=a2.aim;subst this;simp only[ep,a1,cm];rfl
     . rename_i b;obtain⟨sz,n,rfl,al,MM⟩:=a2.O3;simp only[ep,a1,cm];split at J7
       . rename_i t l a6;cases J7;have:=MM _ a6 _ rfl;cases this;rfl
       . rename_i lJ r a6;cases J7;have:=MM _ a6 _ rfl;cases this;rfl
       . cases J7
     . cases J7
   . cases h
 . cases h
omit he b9 dx in
theorem ahY{bytes n:Nat}:room bytes n=true↔(2*n+192)*bytes<=Qy/\n<=KJ:=by simp[room]
theorem aVW{sz bytes:Nat}{x y:er}(h:l3 gl gd env J N (.append sz bytes x y)=some (c,v,J')):Jh N J J1 (.append sz bytes x y) env1 (pa env G gd) c v J':=by
 simp only[l3]at h;split at h
 . rename_i w ad bJ;split at h
   . rename_i Wv asw ar9;split at h
     . rename_i blk hblk;cases h;obtain⟨p,v1,a1,a2,a3⟩:=mx he b9 ad;obtain⟨q,v2,b1,b2,k9⟩:=mx he b9 bJ;have:=a2.aim;subst this;obtain⟨ys,hN,hR⟩:=awL dx b2 ar9;have k:wJ N J (N+16) (o1 J N blk):=XG (by omega);obtain⟨d1,d2,d3⟩:=hR.blk (N':=N+16) (J':=o1 J N blk) hblk
       refine .store rfl k (.c (.arr N sz ys.length (by omega) ?_)) λa7 b7=>⟨p/\q/\(∀e,e∈ys->e.length=sz)/\(2*ys.length+192)*bytes<=Qy/\ys.length<=KJ,_,by simp only[ep,a1,b1,cm,show Zq (.c .ee) v2=none from rfl,hN],⟨a3 a7,k9 a7,d2,?_⟩,dx.put (by omega) k d1⟩
       . intro x ad r ar;rw[PV,ao rfl]at ad;cases ad;rw[d3]at ar;cases ar;rw[hR.length]
       . rw[hR.length];exact ahY.1 b7
     . cases h
   . cases h
 . rename_i b w ad bJ;split at h
   . rename_i aMD xb Wv atb anD ar9;split at h
     . cases h
     . rename_i a3Q;split at h
       . cases h
       . rename_i anE;split at h
         . rename_i aAm a0M;split at h
           . rename_i blk hblk;cases h;obtain⟨p,v1,a1,a2,a3⟩:=mx he b9 ad;obtain⟨q,v2,b1,b2,k9⟩:=mx he b9 bJ;obtain⟨lJ,DI,X8,al,SK⟩:=a2.O3;subst X8;obtain⟨ys,hN,hR⟩:=awL dx b2 ar9;obtain⟨xs,eh,hj⟩:=awL dx a2 anD;have ga:=hj.join hR a0M;have Nr:wJ N (dl J b) (N+16) (o1 (dl J b) N blk):=XG (by omega)
             have k:wJ N J (N+16) (o1 (dl J b) N blk):=wJ.trans afd Nr;obtain⟨d1,d2,d3⟩:=ga.blk (N':=N+16) (J':=o1 (dl J b) N blk) hblk
             obtain⟨hs,dy⟩:e1 J1 b=some (.arr lJ xs)/\DI=xs.length:=by
              simp only[Yn]at eh
              grind
             have a0x:lJ=sz:=by
              unfold aMF at anE;split at anE
              . rename_i z ga;split at anE
                . rename_i r ar;have:=SK _ ga _ ar;simp_all
                . cases anE
              . cases anE
             subst a0x;have amS:pJ N (dl J b) (Qr J1 b):=by
              intro i z ga;rw[aaf]at ga;split at ga
              . cases ga
              . rename_i axL;obtain⟨h1,y,ah,b'⟩:=dx i z ga;exact⟨h1,y,by rw[Nb,aJ axL];exact ah,b'.mono afd⟩
             have a3R:atb≠some b:=by
              intro e;simp_all
             refine .store rfl k (.c (.arr N lJ (xs++ys).length (by omega) ?_)) λa7 b7=>⟨p/\q/\lJ=lJ/\lJ=lJ/\0=0/\DI=xs.length/\(∀e,e∈ys->e.length=lJ)/\(2*(xs.length+ys.length)+192)*bytes<=Qy/\xs.length+ys.length<=KJ,_,?_,⟨a3 a7,k9 a7,rfl,rfl,rfl,dy,λe he=>d2 e (by simp[he]),?_⟩,amS.put (by omega) Nr d1⟩
             . intro x ad r ar;rw[PV,ao rfl]at ad;cases ad;rw[d3]at ar;cases ar;rw[ga.length]
             . have ayv:Zq (.c (.arr b lJ 0 DI)) v2=none:=by
                refine aVV (J1:=J1) b2 ?_ ?_ ?_ <;> (intros;rintro rfl;simp[aej]at ar9)
               simp only[ep,a1,b1,cm,ayv,hN,hs]
               grind
             . have:=ahY.1 b7;rw[<-ga.length,vx]at this;exact this
           . cases h
         . cases h
   . cases h
 . rename_i b h0 hq hi len ad bJ;split at h
   . rename_i Rm;have Rm:=q4 Rm;subst Rm;split at h
     . rename_i t l a6;split at h
       . rename_i h6;have h6:=q4 h6;cases h;obtain⟨p,v1,a1,a2,a3⟩:=mx he b9 ad;obtain⟨q,v2,b1,b2,k9⟩:=mx he b9 bJ;cases a2 with | c a2=>
         cases a2 with | pre _ s1 _ Nn agj=>
         cases b2 with | c b2=>
         cases b2 with | DJ _ s2 _ _ ML anH=>
         have eh:=agj _ a6 _ rfl;have hj:=anH _ a6 _ rfl;dsimp only at eh hj;subst eh hj;obtain⟨OJ,z,d1,d2⟩:=dx b _ a6;cases d2 with
         | arr=>
          have Nr:wJ N (dl J b) (N+16) (o1 (dl J b) N (.arr t (l.take h0++(l.drop hi).take len))):=XG (by omega);have k:wJ N J (N+16) (o1 (dl J b) N (.arr t (l.take h0++(l.drop hi).take len))):=wJ.trans afd Nr;have amS:pJ N (dl J b) (Qr J1 b):=by
           intro i z ga;rw[aaf]at ga;split at ga
           . cases ga
           . rename_i axL;obtain⟨h1,y,ah,b'⟩:=dx i z ga;exact⟨h1,y,by rw[Nb,aJ axL];exact ah,b'.mono afd⟩
          refine .store rfl k (.c (.arr N (t.sz U) (l.take h0++(l.drop hi).take len).length (by omega) ?_)) λa7 b7=>?_
          . intro x ad r ar;rw[PV,ao rfl]at ad;cases ad;simp only[qJ.xn,hQ]at ar;exact ar.symm
          . simp only[k0,ye]at b7;have hlen:(l.take h0++(l.drop hi).take len).length=h0+len:=by simp;omega
            refine⟨p/\q/\t.sz U=t.sz U/\t.sz U=t.sz U/\t.sz U=t.sz U/\0=0/\h0+len<=(l.map (t.enc U)).length/\hi+len<=(l.map (t.enc U)).length,_,?_,⟨a3 a7,k9 a7,rfl,rfl,rfl,rfl,by simpa using b7.1,by simpa using b7.2⟩,amS.put (by omega) Nr (.arr t _)⟩
            have ayv:Zq (.c (.arr b (t.sz U) 0 h0)) (.c (.MW b (t.sz U) hi len))=some (b,t.sz U,0,h0,t.sz U,hi,len):=by simp[Zq]
            simp only[ep,a1,b1,cm,ayv,aii,d1,hlen,ajh,an4,asr];subst h6;simp
       . cases h
     . cases h
   . cases h
 . cases h
omit he b9 dx in
theorem aDT{t:eb}(ht:t.anN=false):∀{xs:List (hn U)} {ds:List C} {l:List (t.den U.D)},f' (k5 N J) xs ds->ao2 t xs=some l->∃ts,toTs ds=some ts/\ts.map (λx=>[x])=l.map (t.enc U)
 | [],[],l,_,h=>by simp[ao2]at h;subst h;exact⟨[],rfl,rfl⟩
 | x::xs,d::ds,l,.cons h1 ah,h=>by
  unfold ao2 at h;split at h
  . grind
  . rename_i c r heq;cases heq;split at h
    . rename_i y m b7 hm;cases h;obtain⟨ts,eh,hj⟩:=aDT ht ah hm;cases h1;have y1:=Cell.VV b7;subst y1;refine⟨Cell.enc U ⟨t,y⟩::ts,by simp[toTs,eh,toT],?_⟩;rw[QX,hj,QX]
      congr 1
      cases t <;> first | rfl | cases ht
    . cases h
  . cases h
theorem aVX{cs:List C}(h:l3 gl gd env J N (.allocA cs)=some (c,v,J')):Jh N J J1 (.allocA cs) env1 (pa env G gd) c v J':=by
 simp only[l3]at h;split at h
 . rename_i xs TM;split at h
   . rename_i t l a6;cases h;unfold aIE at a6;split at a6
     . rename_i MH r;split at a6
       . rename_i Vi ht hs;cases a6;obtain⟨ts,eh,hj⟩:=aDT ht (afm (N:=N) (J:=J) TM) hs;have k:wJ N J (N+16) (o1 J N (.arr MH.ty Vi)):=XG (by omega);refine .store rfl k (.c (.ptr _ _)) λa7 _=>⟨True,_,by simp only[ep,eh,Oh,hj];rfl,trivial,dx.put (by omega) k ?_⟩
         have h6:MH.ty.sz U=1:=by
          generalize MH.ty=t0 at ht;cases t0 <;> first | rfl | cases ht
         have:=P6.arr (N:=N+16) (J:=o1 J N (.arr MH.ty Vi)) MH.ty Vi
         grind
       . cases a6
     . cases a6
   . cases h
 . cases h
theorem aXA{k:Nat}{x y:er}(h:l3 gl gd env J N (.idxP k x y)=some (c,v,J')):Jh N J J1 (.idxP k x y) env1 (pa env G gd) c v J':=by
 simp only[l3]at h;split at h
 . rename_i b kk m bo eg;split at h
   . rename_i t l al;split at h
     . rename_i h6;have h6:=q4 h6;cases h;obtain⟨pp,v1,a1,a2,a3⟩:=mx he b9 bo;obtain⟨TN,v2,b1,b2,k9⟩:=mx he b9 eg;have:=a2.PZ;subst this;have:=b2.NY;subst this;refine .neutral dx (.c (.pr _ _ _ _)) λa7 b7=>⟨pp/\TN/\(0:Int)<=m/\Int.toNat m < k,?_,a3 a7,k9 a7,(afi.1 b7).1,(afi.1 b7).2⟩
       simp only[ep,a1,b1,cm,h6];rfl
     . cases h
   . cases h
 . cases h
theorem aXB{k:Nat}{x:er}{hi ay:Option er}(h:l3 gl gd env J N (.slcP k x hi ay)=some (c,v,J')):Jh N J J1 (.slcP k x hi ay) env1 (pa env G gd) c v J':=by
 simp only[l3]at h;split at h
 . rename_i b l r bo a6 ar;cases h;obtain⟨pp,v1,a1,a2,a3⟩:=mx he b9 bo;obtain⟨pl,M5,l2⟩:=aaU he b9 dx a6;obtain⟨Oi,kJ,oJ⟩:=aaU he b9 dx ar;have:=a2.PZ;subst this
   exact .neutral dx (.c (.sub _ _ _)) λa7 b7=>⟨pp/\pl/\Oi/\0<=l.getD 0/\l.getD 0<=r.getD (k:Int)/\r.getD (k:Int)<=(k:Int),by simp only[ep,a1,M5,kJ,cm],a3 a7,l2 a7,oJ a7,R7.1 b7⟩
 . cases h
omit he b9 dx in
theorem apM :∀(l:List Int),bytesOf (List.map ((eb.int .u8).enc U) l)=some (strOf l)
 | []=>rfl
 | m::l=>by
  have:=apM l;show bytesOf ([T.int .u8 m]::_)=_;simp only[bytesOf,this];rfl
omit he b9 dx in
theorem aWD{b off len:Nat}{es:List (List T)}{s:List UInt8}(h:e1 J1 b=some (.arr 1 es))(hs:bytesOf ((es.drop off).take len)=some s):Z1 J1 (.c (.arr b 1 off len))=some (off+len<=es.length,s):=by simp[Z1,h,hs]
omit he b9 dx in
theorem aWE{b off len:Nat}{es:List (List T)}{s:List UInt8}(h:e1 J1 b=some (.arr 1 es))(hs:bytesOf ((es.drop off).take len)=some s):Z1 J1 (.c (.MW b 1 off len))=some (off+len<=es.length,s):=by simp[Z1,h,hs]
omit he b9 dx in
theorem aU2{es:List (List T)}{s:List UInt8}(hs:bytesOf es=some s):Z1 J1 (.c (.t (.slice es)))=some (True,s):=by simp[Z1,hs]
theorem a2C{x:er}(h:l3 gl gd env J N (.b2s x)=some (c,v,J')):Jh N J J1 (.b2s x) env1 (pa env G gd) c v J':=by
 simp only[l3]at h;split at h
 . rename_i l bo;cases h;obtain⟨pp,v1,a1,a2,a3⟩:=mx he b9 bo;have:=a2.Vs;subst this
   exact .neutral dx (.c (.t (U:=U) ⟨.str,_⟩)) λa7 b7=>⟨pp/\True,by
    simp only[ep,a1,cm]
    exact(JQ (Option.map _) (aU2 (J1:=J1) (apM (U:=U) l))).trans rfl,a3 a7,trivial⟩
 . rename_i bo;cases h;obtain⟨pp,v1,a1,a2,a3⟩:=mx he b9 bo;have:=a2.aim;subst this;exact .neutral dx (.c (.t (U:=U) ⟨.str,_⟩)) λa7 b7=>⟨pp/\True,by simp only[ep,a1,cm,Z1,Oh];rfl,a3 a7,trivial⟩
 . rename_i b bo;split at h
   . rename_i l al;cases h;obtain⟨pp,v1,a1,a2,a3⟩:=mx he b9 bo;obtain⟨lJ,n,rfl,OJ,a7⟩:=a2.O3;have:=a7 _ al _ rfl;cases this;obtain⟨_,y,bJ,axM⟩:=dx _ _ al;cases axM;refine .neutral dx (.c (.t (U:=U) ⟨.str,_⟩)) λa7 b7=>⟨pp/\(0+l.length<=(l.map ((eb.int .u8).enc U)).length),?_,a3 a7,by simp⟩
     simp only[ep,a1,cm];have e:bytesOf (((l.map ((eb.int .u8).enc U)).drop 0).take l.length)=some (strOf l):=by rw[Ph,adW (by simp)];exact apM l
     exact(JQ (Option.map _) (aWD bJ e)).trans rfl
   . cases h
 . rename_i b hi len bo;split at h
   . rename_i l al;cases h;obtain⟨pp,v1,a1,a2,a3⟩:=mx he b9 bo;have:v1= .c (.MW b 1 hi len):=by cases a2 with | c h=>cases h;rfl
     subst this;obtain⟨_,y,bJ,axM⟩:=dx _ _ al;cases axM;refine .neutral dx (.c (.t (U:=U) ⟨.str,_⟩)) λa7 b7=>⟨pp/\(hi+len<=(l.map ((eb.int .u8).enc U)).length),?_,a3 a7,by simpa[ajG]using b7⟩
     simp only[ep,a1,cm];have e:bytesOf (((l.map ((eb.int .u8).enc U)).drop hi).take len)=some (strOf ((l.drop hi).take len)):=by rw[<-asr,<-an4];exact apM ((l.drop hi).take len)
     exact(JQ (Option.map _) (aWE bJ e)).trans rfl
   . cases h
 . cases h
theorem aVY{e e8:Nat}(h:l3 gl gd env J N (.allocS e e8)=some (c,v,J')):Jh N J J1 (.allocS e e8) env1 (pa env G gd) c v J':=by
 simp only[l3,hQ,hO]at h;obtain⟨rfl,rfl,rfl⟩:=h;have hk:wJ N J (N+16) (o1 (o1 J (N+1) (.buf e8 [])) N (.kn e (.pq (N+1)))):=by
  refine⟨by omega,λb jb al ad=>?_⟩;rw[PV,aJ (by omega),PV,aJ (by omega)]at ad
  grind
 refine .store rfl hk (.c (.ptr _ _)) λ_ _=>⟨True,_,rfl,trivial,λb x ad=>?_⟩
 rw[PV]at ad;rw[q6];by_cases h1:N=b
 . rw[ao h1]at ad ⊢;cases ad;refine⟨by omega,_,rfl,.kn (.pq _ _ (by omega) λx ad p bo=>?_)⟩;rw[PV,aJ (by omega),PV,ao rfl]at ad;cases ad
   simpa[qJ.xn]using bo.symm
 . rw[aJ h1,PV]at ad;rw[aJ h1,q6];by_cases ah:N+1=b
   . rw[ao ah]at ad ⊢;cases ad;exact⟨by omega,_,rfl,.buf _ _⟩
   . rw[aJ ah]at ad ⊢;obtain⟨hg,y,hv,h3⟩:=dx b x ad;exact⟨by omega,y,hv,h3.mono hk⟩
theorem aWF(h:l3 gl gd env J N .mkset=some (c,v,J')):Jh N J J1 .mkset env1 (pa env G gd) c v J':=by
 simp only[l3,hQ,hO]at h;obtain⟨rfl,rfl,rfl⟩:=h;have k:wJ N J (N+16) (o1 J N (.set [])):=XG (by omega);exact .store rfl k (.c (.mp _)) λ_ _=>⟨True,_,rfl,trivial,dx.put (by omega) k (.set _)⟩
theorem aWG{x y:er}(h:l3 gl gd env J N (.lkset x y)=some (c,v,J')):Jh N J J1 (.lkset x y) env1 (pa env G gd) c v J':=by
 simp only[l3]at h;split at h
 . rename_i b s ad bJ;split at h
   . rename_i ks Pe;cases h;obtain⟨p,v1,a1,a2,a3⟩:=mx he b9 ad;obtain⟨q,v2,b1,b2,k9⟩:=mx he b9 bJ;have:=a2.ayM;subst this;have:=b2.Vt;subst this;obtain⟨_,z,d1,d2⟩:=dx b _ Pe;cases d2;exact .neutral dx (.c (.t (U:=U) ⟨.bool,_⟩)) λa7 _=>⟨p/\q,by simp only[ep,a1,b1,cm,d1];rfl,a3 a7,k9 a7⟩
   . cases h
 . cases h
theorem aWH{x y:er}(h:l3 gl gd env J N (.upset x y)=some (c,v,J')):Jh N J J1 (.upset x y) env1 (pa env G gd) c v J':=by
 simp only[l3]at h;split at h
 . rename_i b s ad bJ;split at h
   . rename_i ks Pe;cases h;obtain⟨p,v1,a1,a2,a3⟩:=mx he b9 ad;obtain⟨q,v2,b1,b2,k9⟩:=mx he b9 bJ;have:=a2.ayM;subst this;have:=b2.Vt;subst this;obtain⟨OJ,z,d1,d2⟩:=dx b _ Pe;cases d2;have K6:wJ N J (N+16) (o1 J b (.set (Sr ks s))):=ZM (by omega) Pe (λp h=>by simp[qJ.xn]at h)
     exact .store rfl K6 (.gJ [] [] rfl (by simp)) λa7 _=>⟨p/\q,_,by simp only[ep,a1,b1,cm,d1],⟨a3 a7,k9 a7⟩,dx.put (by omega) K6 (.set _)⟩
   . cases h
 . cases h
theorem aU3{e bytes:Nat}{x y:er}(h:l3 gl gd env J N (.appendB e bytes x y)=some (c,v,J')):Jh N J J1 (.appendB e bytes x y) env1 (pa env G gd) c v J':=by
 simp only[l3]at h;split at h
 . rename_i b s ad bJ;split at h
   . rename_i sK l al;split at h
     . rename_i abM;have:=q4 abM;subst this;cases h;obtain⟨p,v1,a1,a2,a3⟩:=mx he b9 ad;obtain⟨q,v2,b1,b2,k9⟩:=mx he b9 bJ;obtain⟨n,rfl,OJ,MM⟩:=a2.arf;have:=MM _ al _ rfl;cases this;have:=b2.Vt;subst this;obtain⟨_,z,d1,d2⟩:=dx b _ al;cases d2;have hg:wJ N J N (dl J b):=afd
       have hv:wJ N (dl J b) (N+16) (o1 (dl J b) N (.buf sK (ari l s))):=XG (by omega);have Xe:pJ N (dl J b) (Qr J1 b):=by
        intro hq x ad;rw[aaf]at ad;split at ad
        . cases ad
        . rename_i hG;obtain⟨h1,y,ah,b'⟩:=dx hq x ad;exact⟨h1,y,by rw[Nb,aJ hG];exact ah,b'.mono hg⟩
       refine .store rfl (hg.trans hv) (.c (.pq N (List.length l+List.length s) (by omega) λx ad p bo=>?_)) λa7 b7=>⟨p/\q/\sK=sK/\List.length l=List.length l/\(2*(List.length l+List.length s)+192)*bytes<=Qy/\List.length l+List.length s<=KJ,_,?_,⟨a3 a7,k9 a7,rfl,rfl,(ahY.1 b7).1,(ahY.1 b7).2⟩,Xe.put (by omega) hv (.buf _ _)⟩
       . rw[PV,ao rfl]at ad;cases ad;simp only[qJ.xn,hQ]at bo;exact bo.symm.trans (JQ (Prod.mk 1) aSy)
       . simp only[ep,a1,b1,cm,d1];rfl
     . cases h
   . cases h
 . cases h
theorem aWI{x:er}(h:l3 gl gd env J N (.sdata x)=some (c,v,J')):Jh N J J1 (.sdata x) env1 (pa env G gd) c v J':=by
 simp only[l3]at h;split at h
 . rename_i b ad;cases h;obtain⟨p,v1,a1,a2,a3⟩:=mx he b9 ad;obtain⟨n,rfl,_,_⟩:=a2.arf;exact .neutral dx (.c (.Jx _)) λa7 _=>⟨p,by simp[ep,a1],a3 a7⟩
 . cases h
theorem aXC{e:Nat}{x y:er}(h:l3 gl gd env J N (.ustr e x y)=some (c,v,J')):Jh N J J1 (.ustr e x y) env1 (pa env G gd) c v J':=by
 simp only[l3]at h;split at h
 . rename_i b m ad bJ;split at h
   . rename_i sK l al;split at h
     . rename_i abM;have:=q4 abM;subst this;cases h;obtain⟨p,v1,a1,a2,a3⟩:=mx he b9 ad;obtain⟨q,v2,b1,b2,k9⟩:=mx he b9 bJ;have:=a2.aLE;subst this;have:=b2.NY;subst this;obtain⟨_,z,d1,d2⟩:=dx b _ al;cases d2;have hg:wJ N J N (dl J b):=afd;have Xe:pJ N (dl J b) (Qr J1 b):=by
        intro hq x ad;rw[aaf]at ad;split at ad
        . cases ad
        . rename_i hG;obtain⟨h1,y,ah,b'⟩:=dx hq x ad;exact⟨h1,y,by rw[Nb,aJ hG];exact ah,b'.mono hg⟩
       refine .store rfl (hg.trans (wJ.more (by omega))) (.c (.t (U:=U) ⟨.str,_⟩)) λa7 b7=>⟨p/\q/\sK=sK/\m=(List.length l:Int),_,?_,⟨a3 a7,k9 a7,rfl,aVb.1 b7⟩,Xe.mono (by omega)⟩
       simp only[ep,a1,b1,cm,d1];rfl
     . cases h
   . cases h
 . cases h
theorem aU4{e sz len:Nat}{z:List C}{parts:List (Nat×er)}(h:l3 gl gd env J N (.bsliceT e sz len z parts)=some (c,v,J')):Jh N J J1 (.bsliceT e sz len z parts) env1 (pa env G gd) c v J':=by
 simp only[l3]at h;split at h
 . cases h
 . rename_i t ht;split at h
   . rename_i B' ga;split at h
     . cases h
     . rename_i ts M4;split at h
       . cases h
       . rename_i h6;have h6:=q4 h6;split at h
         . rename_i rows ar;split at h
           . rename_i l a6;cases h;have agj:=afm (N:=N) (J:=J) ga;obtain⟨p,es,a1,a2,a4,a3⟩:=atP he b9 ar (es:=List.replicate len ts) (f'.replicate (R:=λr e=>P3 r=some e) M4 len) (by intro r ar;rw[ash ar];exact h6);have hj:l.map (t.enc U)=es:=ah8 a6 a2;refine .neutral dx (.c (.t (U:=U) ⟨.slice t,l⟩)) λa7 _=>⟨p,?_,a3 a7⟩
             simp only[ep,aqN agj M4,cm,a1,Oh];rw[<-hj];rfl
           . cases h
         . cases h
   . cases h
theorem aFg{o:py}(h:l3 gl gd env J N o=some (c,v,J')):Jh N J J1 o env1 (pa env G gd) c v J':=by
 cases o with
 | mov x=>exact a2J he b9 dx h
 | pick c x y=>exact aWA he b9 dx h
 | alloc cs=>exact aVe he b9 dx h
 | box x=>exact a2E he b9 dx h
 | allocA cs=>exact aVX he b9 dx h
 | idxP k x i=>exact aXA he b9 dx h
 | slcP k x hi ay=>exact aXB he b9 dx h
 | b2s x=>exact a2C he b9 dx h
 | allocS e e8=>exact aVY he b9 dx h
 | bsliceT e sz len z parts=>exact aU4 he b9 dx h
 | mkset=>exact aWF he b9 dx h
 | lkset x k=>exact aWG he b9 dx h
 | upset x k=>exact aWH he b9 dx h
 | appendB e b x y=>exact aU3 he b9 dx h
 | sdata x=>exact aWI he b9 dx h
 | ustr e x k=>exact aXC he b9 dx h
 | build z parts=>exact aVd he b9 dx h
 | bslice sz len z parts=>exact aVU he b9 dx h
 | load agg n x=>exact aV5 he b9 dx h
 | store n x v=>exact aWC he b9 dx h
 | nilCheck x=>exact aT' he b9 dx h
 | bin op x y=>exact a2D he b9 dx h
 | eqAgg neg ks x y=>exact aVc he b9 dx h
 | eqBool neg x y=>exact aVT he b9 dx h
 | eqNil neg x=>simp[l3]at h
 | not x=>exact a2K he b9 dx h
 | conv k x=>exact aWB he b9 dx h
 | i2s x=>exact a2H he b9 dx h
 | s2s x=>exact a2L he b9 dx h
 | fldA off x=>exact aV4 he b9 dx h
 | fld agg off n x=>exact a2G he b9 dx h
 | idxA sz x i=>exact aV6 he b9 dx h
 | idxS x i=>exact aV7 he b9 dx h
 | slcS x hi ay=>exact aV8 he b9 dx h
 | slc sz x hi ay=>exact a2M he b9 dx h
 | slc0 x=>exact aV9 he b9 dx h
 | mkfn f caps=>exact aV' he b9 dx h
 | ext x i=>exact a2F he b9 dx h
 | len str x=>exact a2I he b9 dx h
 | append sz bytes x y=>exact aVW he b9 dx h
 | max2 x y=>exact aWa he b9 dx h
 | min2 x y=>exact aWb he b9 dx h
 | call f args=>simp[l3]at h
 | Re x args=>simp[l3]at h
end
end
end
section
open Go
variable {U:pK}
def hn.k4(b0:Nat)(c:Cell U.D):hn U->hn U
 | .arr b=>match Nat.beq b b0 with
  | true=>.t c
  | false=>.arr b
 | .pr b ty i o=>match Nat.beq b b0 with
  | true=>.dead
  | false=>.pr b ty i o
 | .pre b h=>match Nat.beq b b0 with
  | true=>.dead
  | false=>.pre b h
 | .DJ b hi len=>match Nat.beq b b0 with
  | true=>.dead
  | false=>.DJ b hi len
 | x=>x
def hM.k4(b0:Nat)(c:Cell U.D):hM U->hM U
 | .c x=>.c (x.k4 b0 c)
 | .agg cs=>.agg (cs.map (hn.k4 b0 c))
 | .gJ vs=>.gJ (go b0 c vs)
where go (b0:Nat) (c:Cell U.D):List (hM U)->List (hM U)
 | []=>[]
 | v::vs=>v.k4 b0 c::go b0 c vs
def qJ.k4(b0:Nat)(c:Cell U.D):qJ U->qJ U
 | .box cs=>.box (cs.map (hn.k4 b0 c))
 | .kn E x=>.kn E (x.k4 b0 c)
 | .nJ t l i o x=>.nJ t l i o (x.k4 b0 c)
 | x=>x
def aek(b0:Nat)(c:Cell U.D):iy U->iy U
 | []=>[]
 | (k,v)::r=>(k,v.k4 b0 c)::aek b0 c r
def Zs(b0:Nat)(c:Cell U.D):hc U->hc U
 | []=>[]
 | (k,x)::r=>match Nat.beq k b0 with
  | true=>Zs b0 c r
  | false=>(k,x.k4 b0 c)::Zs b0 c r
def aoW(b:Nat)(t:eb)(env:iy U)(J:hc U):Option (iy U×hc U):=
 match fz J b with
 | some (.arr Lq l)=>match Cell.as (.slice t) (⟨.slice Lq,l⟩:Cell U.D)with
  | some l=>some (aek b ⟨.slice t,l⟩ env,Zs b ⟨.slice t,l⟩ J)
  | none=>none
 | some (.rows _ r)=>match Ym U t r with
  | some l=>some (aek b ⟨.slice t,l⟩ env,Zs b ⟨.slice t,l⟩ J)
  | none=>none
 | _=>some (env,J)
def Wu :List (Nat×eb)->iy U->hc U->Option (iy U×hc U)
 | [],env,J=>some (env,J)
 | (b,t)::r,env,J=>match aoW b t env J with
  | some (env',J')=>Wu r env' J'
  | none=>none
section
variable {kk N:Nat} {J J':hc U} {J1:fu} {env env':iy U} {env1:Env} {G:Nat->Bool} {gl:JF}
theorem aqo{b0:Nat}{c:Cell U.D}:∀{env:iy U} {k:Nat},fz (aek b0 c env) k=(fz env k).map (hM.k4 b0 c)
 | [],k=>rfl
 | (i,v)::r,k=>by
  simp only[aek,fz];cases Nat.beq i k with
  | true=>rfl
  | false=>exact aqo
theorem afj{b0:Nat}{c:Cell U.D}:∀{J:hc U} {k:Nat},fz (Zs b0 c J) k=if k=b0 then none else(fz J k).map (qJ.k4 b0 c)
 | [],k=>by simp[Zs,fz]
 | (i,x)::r,k=>by
  simp only[Zs];cases h:Nat.beq i b0 with
  | true=>
   have:=q4 h;subst this;simp only[afj,fz];by_cases ah:k=i
   . grind
   . rw[aJ ah,aJ ah];cases b':Nat.beq i k with
     | true=>exact absurd (q4 b').symm ah
     | false=>rfl
  | false=>
   simp only[fz,afj]
   grind
theorem qJ.ary{b0:Nat}{c:Cell U.D}{x:qJ U}:(x.k4 b0 c).xn=x.xn:=by cases x <;> rfl
theorem k5.k4{b0 sz:Nat}{c:Cell U.D}{es:List (List T)}{a':qJ U}(h0:fz J b0=some a')(a7:a'.xn=some (sz,es.length))(b7:c.enc U= .slice es){x:hn U}{d:C}(h:k5 N J x d):
 k5 N (Zs b0 c J) (x.k4 b0 c) (d.k4 b0 sz es):=by
 cases h with
 | t c=>exact .t c
 | ptr b o=>exact .ptr b o
 | pr b t i o=>
  simp only[hn.k4,C.k4];cases h:Nat.beq b b0 with
  | true=>rw[ao (q4 h)];exact .dead _
  | false=>rw[aJ (PC h)];exact .pr b t i o
 | IJ t x o=>exact .IJ t x o
 | arr b lJ n al h=>
  simp only[hn.k4,C.k4];cases Rm:Nat.beq b b0 with
  | true=>
   have:=q4 Rm;subst this;have:=h a' h0 _ a7;cases this;rw[ao rfl,ao ⟨rfl,by omega⟩];have:cut es 0 es.length=es:=by simp[cut]
   rw[this,<-b7];exact .t c
  | false=>
   rw[aJ (PC Rm)];refine .arr b lJ n al λy bJ p bo=>?_
   rw[afj,aJ (PC Rm)]at bJ;simp only[gC]at bJ;obtain⟨Vz,Xk,rfl⟩:=bJ;rw[qJ.ary]at bo;exact h Vz Xk p bo
 | sub b hi len=>exact .sub b hi len
 | pre b lJ n al h=>
  simp only[hn.k4];cases Rm:Nat.beq b b0 with
  | true=>exact .dead _
  | false=>
   simp only[C.k4];rw[aJ (PC Rm)];refine .pre b lJ n al λy bJ p bo=>?_
   rw[afj,aJ (PC Rm)]at bJ;simp only[gC]at bJ;obtain⟨Vz,Xk,rfl⟩:=bJ;rw[qJ.ary]at bo;exact h Vz Xk p bo
 | DJ b lJ hi len al h=>
  simp only[hn.k4];cases Rm:Nat.beq b b0 with
  | true=>exact .dead _
  | false=>
   simp only[C.k4];refine .DJ b lJ hi len al λy bJ p bo=>?_
   rw[afj,aJ (PC Rm)]at bJ;simp only[gC]at bJ;obtain⟨Vz,Xk,rfl⟩:=bJ;rw[qJ.ary]at bo;exact h Vz Xk p bo
 | mp b=>exact .mp b
 | Jx b=>exact .Jx b
 | pq b n al h=>
  refine .pq b n al λy bJ p bo=>?_
  rw[afj]at bJ;split at bJ
  . cases bJ
  . simp only[gC]at bJ;obtain⟨Vz,Xk,rfl⟩:=bJ;rw[qJ.ary]at bo;exact h Vz Xk p bo
 | ee=>exact .ee
 | Ln=>exact .Ln
 | Lm=>exact .Lm
 | fn f caps=>exact .fn f caps
 | dead d=>exact .dead _
theorem aDU{b0:Nat}{c:Cell U.D}:∀{vs:List (hM U)} {i:Nat},(hM.k4.go b0 c vs)[i]?=(vs[i]?).map (hM.k4 b0 c)
 | [],i=>by simp[hM.k4.go]
 | v::vs,0=>by simp[hM.k4.go]
 | v::vs,i+1=>by simp[hM.k4.go,aDU]
theorem aDY{b0:Nat}{c:Cell U.D}:∀{vs:List (hM U)},(hM.k4.go b0 c vs).length=vs.length
 | []=>rfl
 | v::vs=>by simp[hM.k4.go,aDY]
theorem km.k4{b0 sz:Nat}{c:Cell U.D}{es:List (List T)}{a':qJ U}(h0:fz J b0=some a')(a7:a'.xn=some (sz,es.length))(b7:c.enc U= .slice es){x:hM U}{d:V}(h:km N J x d):
 km N (Zs b0 c J) (x.k4 b0 c) (d.k4 b0 sz es):=by
 induction h with
 | c h=>exact .c (h.k4 h0 a7 b7)
 | agg h=>exact .agg (f'.map_map (h.imp λ_ _ _ ai=>ai.k4 h0 a7 b7))
 | gJ xs ds a6 h ih=>
  refine .gJ _ _ (by rw[aDY,auD];exact a6) ?_;intro i x d ad MM;rw[aDU,gC]at ad;rw[atE,gC]at MM;obtain⟨jb,Ly,rfl⟩:=ad;obtain⟨zv,aZA,rfl⟩:=MM;exact ih i jb zv Ly aZA
theorem aHL{b0 sz:Nat}{c:Cell U.D}{es:List (List T)}{a':qJ U}(h0:fz J b0=some a')(a7:a'.xn=some (sz,es.length))(b7:c.enc U= .slice es)(hs:e1 J1 b0=some (.arr sz es))(he:r3 N J G env env1)(dx:pJ N J J1):
 Conv kk N env1 J1 N (acu b0 sz es env1) (YY b0 sz es J1)/\r3 N (Zs b0 c J) G (aek b0 c env) (acu b0 sz es env1)/\pJ N (Zs b0 c J) (YY b0 sz es J1):=by
 refine⟨Conv.freeze b0 hs,λk v hk=>?_,λb x ad=>?_⟩
 . rw[aqo,gC]at hk;obtain⟨v0,h1,rfl⟩:=hk;obtain⟨d,ah,b'⟩:=he k v0 h1;exact⟨_,by rw[aku,ah];rfl,b'.k4 h0 a7 b7⟩
 . rw[afj]at ad;split at ad
   . cases ad
   . rename_i hG;simp only[gC]at ad;obtain⟨jb,h1,rfl⟩:=ad;obtain⟨ah,y,b',ea⟩:=dx b jb h1;refine⟨ah,y.k4 b0 sz es,by rw[aq2,aJ hG,b'];rfl,?_⟩;cases ea with
     | box ea=>exact .box (f'.map_map (ea.imp λ_ _ _ ai=>ai.k4 h0 a7 b7))
     | arr t l=>exact .arr t l
     | set ks=>exact .set ks
     | buf E s=>exact .buf E s
     | kn ea=>exact .kn (ea.k4 h0 a7 b7)
     | nJ t l i o ea=>exact .nJ t l i o (ea.k4 h0 a7 b7)
     | rows ea hf=>exact .rows ea hf
theorem OF.k4{b0:Nat}{c:Cell U.D}(h:OF gl env G):OF gl (aek b0 c env) G:=by
 refine⟨h.free,λk t b hk=>?_⟩;obtain⟨y,h1,ah⟩:=h.held k t b hk;refine⟨y,?_,ah⟩;unfold LN at h1 ⊢;rw[aqo];split at h1
 . rename_i x ad;rw[ad];show some _=some y;exact h1
 . cases h1
theorem aWJ{α β:Type}{f:α->β}{l:List α}{sz:Nat}:some (sz,l.length)=some (sz,(l.map f).length):=by rw[SZ]
theorem aFh{b:Nat}{t:eb}(h:aoW b t env J=some (env',J'))(he:r3 N J G env env1)(dx:pJ N J J1):
 ∃ln hy,Conv kk N env1 J1 N ln hy/\r3 N J' G env' ln/\pJ N J' hy/\(OF gl env G->OF gl env' G):=by
 unfold aoW at h;split at h
 . rename_i Lq z' a6;split at h
   . rename_i l ch;have e:=Cell.VV ch;cases e;cases h;obtain⟨_,y,h1,ah⟩:=dx b _ a6;cases ah;obtain⟨hg,hv,h3⟩:=aHL (kk:=kk) (c:=⟨.slice t,l⟩) (es:=List.map (t.enc U) l) a6 aWJ rfl h1 he dx;exact⟨_,_,hg,hv,h3,λb9=>b9.k4⟩
   . cases h
 . rename_i sz r a6;split at h
   . rename_i l ch;cases h;obtain⟨_,y,h1,ah⟩:=dx b _ a6;cases ah with
     | @rows _ _ es ah b'=>
      have hm:=ah8 ch ah;obtain⟨hg,hv,h3⟩:=aHL (kk:=kk) (c:=⟨.slice t,l⟩) (es:=es) a6 (by simp only[qJ.xn];rw[ah.length]) (by rw[<-hm];rfl) h1 he dx;exact⟨_,_,hg,hv,h3,λb9=>b9.k4⟩
   . cases h
 . cases h;exact⟨env1,J1,Conv.refl,he,dx,λh=>h⟩
theorem akq :∀{l:List (Nat×eb)} {env env':iy U} {J J':hc U} {env1:Env} {J1:fu},Wu l env J=some (env',J') -> r3 N J G env env1 -> pJ N J J1 ->
 ∃ln hy,Conv kk N env1 J1 N ln hy/\r3 N J' G env' ln/\pJ N J' hy/\(OF gl env G->OF gl env' G)
 | [],env,env',J,J',env1,J1,h,he,dx=>by simp[Wu]at h;obtain⟨rfl,rfl⟩:=h;exact⟨env1,J1,Conv.refl,he,dx,λh=>h⟩
 | (b,t)::r,env,env',J,J',env1,J1,h,he,dx=>by
  simp only[Wu]at h;split at h
  . rename_i e s h1;obtain⟨eh,s1,hg,hv,h3,oo⟩:=aFh (kk:=kk) (gl:=gl) h1 he dx;obtain⟨hj,s2,m1,m2,m3,m4⟩:=akq h hv h3;exact⟨hj,s2,hg.trans m1,m2,m3,λb9=>m4 (oo b9)⟩
  . cases h
theorem Conv.close{b sz i o:Nat}{es:List (List T)}{t:T}(al:e1 J1 b=some (.nJ sz es i o (.t t))):
 Conv kk N env1 J1 N env1 (vc J1 b (.arr sz (es.set i ((el es i).take o++[t]++(el es i).drop (o+1))))):=by
 intro c9 nt φ S a w O' R;obtain⟨⟨a1,a2,a3,a4,a5,MG⟩,⟨vs,E,hg,hv,h3,amk,oo,u2⟩,s3⟩:=R.h'.blk _ _ al;have am4:es[i]?=some (el es i):=by unfold el;rw[List.getD,J9 a5];rfl
 have aJQ:(el es i).length=sz:=a3 _ (JX am4);refine⟨φ,S,R.put (R.HJ _ _ al).1 rfl ⟨by simpa using a1,by simpa using a2,λe he=>?_,a4,λ_=>⟨vs,E,hg,hv,λny j e Lq he ht=>?_,s3⟩⟩ λh0=>⟨λk y bJ hk Jj=>R.h'.inj k b y _ bJ al hk Jj h0,R.own b _ al h0⟩⟩
 . rcases agv he with he | rfl
   . exact a3 e he
   . simp;omega
 . rw[asp]at he;by_cases Va:i=ny
   . subst Va;rw[ao rfl,ao a5]at he;cases he;have L0:=(YB (vs:=el es i) (off:=o) (xs:=[t]) (by simp;omega) j)
     unfold QJ at L0;rw[show o+[t].length=o+1 from rfl]at L0;rw[L0]at ht;by_cases hN:j=o
     . subst hN;rw[aJ (by omega),ao (by omega),Nat.sub_self]at ht;cases ht;exact⟨amk,oo,u2⟩
     . have arN:(el es i)[j]?=some Lq:=by
        by_cases hR:j < o
        . rwa [ao hR]at ht
        . rwa [aJ hR,aJ (by omega)]at ht
       exact h3 _ _ _ _ am4 arN (λh=>hN h.2)
   . rw[aJ Va]at he;exact h3 _ _ _ _ he ht (λh=>Va h.1.symm)
def aqp(b:Nat)(env:iy U)(J:hc U):Option (iy U×hc U):=
 match fz J b with
 | some (.nJ t l i o (.t c))=>match Nat.ble (o+1) (t.sz U)with
  | true=>match aem U t l i o [.t c]with
   | some z'=>some (env,o1 J b (.arr t z'))
   | none=>none
  | false=>none
 | _=>none
def aHM(b:Nat)(env:iy U)(J:hc U):Option (iy U×hc U):=
 match fz J b with
 | some (.nJ t l i o (.arr b2))=>match (t.row U (t.at U l i))[o]? with
  | some ⟨.slice a2o,_⟩=>match aoW b2 a2o env J with
   | some (env',J')=>aqp b env' J'
   | none=>none
  | _=>none
 | _=>aqp b env J
def aGU :hc U->Option Nat
 | []=>none
 | (b,.nJ ..)::_=>some b
 | _::r=>aGU r
def axc(env:iy U)(J:hc U):Option (iy U×hc U):=
 match aGU J with
 | none=>some (env,J)
 | some b=>aHM b env J
theorem aD7{b:Nat}(h:aqp b env J=some (env',J'))(he:r3 N J G env env1)(dx:pJ N J J1):
 ∃ln hy,Conv kk N env1 J1 N ln hy/\r3 N J' G env' ln/\pJ N J' hy:=by
 unfold aqp at h;split at h
 . rename_i t l i o c a6;split at h
   . rename_i c8;have c8:=asm c8;split at h
     . rename_i l2 E8;cases h;obtain⟨OJ,y,h1,ah⟩:=dx b _ a6;cases ah with
       | nJ _ _ _ _ ah=>
        cases ah;have hlen:l2.length=List.length l:=by
         unfold aem at E8
         grind
        have K6:wJ N J N (o1 J b (.arr t l2)):=ZM (JK _) a6 (λp h=>by
         simp only[qJ.xn]at h ⊢
         grind)
        refine⟨env1,vc J1 b (.arr (t.sz U) (l2.map (t.enc U))),?_,he.mono K6,dx.put OJ K6 (.arr t l2)⟩;by_cases ay:i < List.length l
        . obtain⟨ts,eh,hj⟩:=atH (N:=N) (J:=J) (ds:=[.t (c.enc U)]) E8 ay (.cons (.t c) .nil) (by simpa using c8);have:ts=[c.enc U]:=by simpa[toTs,toT]using eh.symm
          subst this;have:=Conv.close (kk:=kk) (N:=N) (env1:=env1) h1;rw[hj]
          simpa using this
        . intro c9 nt φ S a w O' R;obtain⟨⟨_,_,_,_,a5,_⟩,_⟩:=R.h'.blk _ _ h1;simp at a5;omega
     . cases h
   . cases h
 . cases h
theorem aSU(h:axc env J=some (env',J'))(he:r3 N J G env env1)(dx:pJ N J J1):
 ∃ln hy,Conv kk N env1 J1 N ln hy/\r3 N J' G env' ln/\pJ N J' hy:=by
 unfold axc at h;split at h
 . cases h;exact⟨env1,J1,Conv.refl,he,dx⟩
 . unfold aHM at h;split at h
   . split at h
     . split at h
       . rename_i e s h1;obtain⟨eh,s1,hg,hv,h3,_⟩:=aFh (kk:=kk) (gl:=[]) h1 he dx;obtain⟨hj,s2,m1,m2,m3⟩:=aD7 (kk:=kk) h hv h3;exact⟨hj,s2,hg.trans m1,m2,m3⟩
       . cases h
     . cases h
   . exact aD7 h he dx
theorem Conv.own{k:Nat}{g:Bool}{sz:Nat}(hk:look env1 k=some (g,.c .ee))(h6:0 < sz)(k6:kk<=N):Conv kk N env1 J1 (N+1) ((k,g,.c (.arr N sz 0 0))::env1) (vc J1 N (.arr sz [])):=by
 intro c9 nt φ S a w O' R;have k2:=R.ayN h6 (by omega);have lo:M7 φ N (0,0) N=(0,0):=by simp[M7]
 refine⟨M7 φ N (0,0),S,⟨k2.h',λi Ou v a6 b9=>?_,λi Ou v a6 b9=>?_,λi Ou v a6 b9=>?_,k2.HJ,k2.size,k2.defers,k2.ext,k2.own,k2.fix,k2.Nu⟩⟩
 . simp only[look]at a6;split at a6
   . rename_i e;cases a6;subst e;obtain⟨x,ad,ar⟩:=k2.Ot _ _ _ hk b9;refine⟨x,ad,?_⟩;cases ar with
     | c ar=>
      obtain⟨a,rfl⟩:=ar;refine .c ⟨a,by rw[lo];rfl,λh=>absurd (by rw[lo]) h,by rw[lo];exact JK _⟩
   . exact k2.Ot i Ou v a6 b9
 . simp only[look]at a6;split at a6
   . rename_i e;cases a6;subst e;exact k2.PK _ _ _ hk b9
   . exact k2.PK i Ou v a6 b9
 . simp only[look]at a6;split at a6
   . cases a6;simp[V.c',C.c',lt]
   . exact k2.Oq i Ou v a6 b9
theorem Conv.a1u{b j:Nat}{sz:Nat}{cs:List C}(al:e1 J1 b=some (.box cs))(c7:cs[j]?=some .ee)(OJ:b < N)(h6:0 < sz)(k6:kk <=N):
 Conv kk N env1 J1 (N+1) env1 (vc (vc J1 N (.arr sz [])) b (.box (cs.set j (.arr N sz 0 0)))):=by
 intro c9 nt φ S a w O' R;have k2:=R.ayN h6 (by omega);have lo:M7 φ N (0,0) N=(0,0):=by simp[M7]
 have Nn:e1 (vc J1 N (.arr sz [])) b=some (.box cs):=by rw[q6,aJ (by omega)];exact al
 have x':∀c x,e1 (vc (vc J1 N (.arr sz [])) b (.box (cs.set j (.arr N sz 0 0)))) c=some x->(c=b/\x= .box (cs.set j (.arr N sz 0 0)))\/e1 (vc J1 N (.arr sz [])) c=some x:=by
  intro c x ad;rw[q6]at ad
  grind
 have axX:∀c x,e1 (vc (vc J1 N (.arr sz [])) b (.box (cs.set j (.arr N sz 0 0)))) c=some x->∃y,e1 (vc J1 N (.arr sz [])) c=some y:=by grind
 refine⟨M7 φ N (0,0),S,⟨⟨λc x ad=>?_,λc C4 x y ad bJ hG=>?_,k2.h'.st⟩,k2.Ot,k2.PK,k2.Oq,λc x ad=>?_,k2.size,k2.defers,k2.ext,λc x ad=>?_,k2.fix,k2.Nu⟩⟩
 . rcases x' c x ad with⟨rfl,rfl⟩ | h
   . obtain⟨h0,vs,E,h1,ah,b'⟩:=k2.h'.blk _ _ Nn;refine⟨h0,vs,E,h1,?_,b'⟩;obtain⟨v,cv,ar⟩:=ah.get c7;obtain⟨a,rfl⟩:=ar;have:=f'.set (i:=j) ah (a:= .arr N sz 0 0) (b:= .slice a 0 0) ⟨a,by rw[lo];rfl,λh=>absurd (by rw[lo]) h,by rw[lo];exact JK _⟩;have ayq:vs.set j (.slice a 0 0)=vs:=by
      apply an0
      grind
     rw[ayq]at this;exact this
   . exact k2.h'.blk c x h
 . obtain⟨jb,Ly⟩:=axX c x ad;obtain⟨P4,ON⟩:=axX C4 y bJ;exact k2.h'.inj c C4 jb P4 Ly ON hG
 . rcases x' c x ad with⟨rfl,rfl⟩ | h
   . refine⟨(k2.HJ _ _ Nn).1,?_⟩;have:=(k2.HJ _ _ Nn).2;simp only[h2.c',r0]at this ⊢;intro d a7;rcases agv a7 with h | h
     . exact this d h
     . rw[h];simp[C.c',lt]
   . exact k2.HJ c x h
 . obtain⟨jb,Ly⟩:=axX c x ad;exact k2.own c jb Ly
theorem Conv.trim{q b j:Nat}{sz h:Nat}{cs:List C}{es:List (List T)}(eg:e1 J1 q=some (.box cs))(c7:cs[j]?=some (.arr b sz 0 h))(al:e1 J1 b=some (.arr sz es))(ai:h <=es.length)(aKi:q < N):
 Conv kk N env1 J1 (N+1) env1 (vc (vc (Qr J1 b) N (.arr sz (es.take h))) q (.box (cs.set j (.arr N sz 0 h)))):=by
 intro c9 nt φ S a w O' R;have OJ:b < N:=by have:=(R.HJ _ _ al).1;simpa[lt]using this
 have aKj:q≠b:=by intro e;subst e;rw[eg]at al;cases al
 have n1:∀c,lt N c=true->M7 φ N (φ b) c=φ c:=by
  intro c b7;simp only[lt,ye]at b7;simp only[M7]
  grind
 have hm:∀c,lt N c=true->lt (N+1) c=true:=λc b7=>aHI (by omega) b7
 have k2:=R.aok n1;have lo:M7 φ N (φ b) N=φ b:=by simp[M7]
 have aJI:M7 φ N (φ b) b=φ b:=n1 b (by simpa[lt]using OJ);have x':∀c x,e1 (vc (vc (Qr J1 b) N (.arr sz (es.take h))) q (.box (cs.set j (.arr N sz 0 h)))) c=some x->(c=q/\x= .box (cs.set j (.arr N sz 0 h)))\/(c≠q/\c=N/\x= .arr sz (es.take h))\/(c≠q/\c≠N/\c≠b/\e1 J1 c=some x):=by
  intro c x ad;rw[q6]at ad;split at ad
  . grind
  . rename_i e;rw[q6]at ad;split at ad
    . grind
    . rename_i hj;rw[Nb]at ad
      grind
 have hold:∀c x,e1 (vc (vc (Qr J1 b) N (.arr sz (es.take h))) q (.box (cs.set j (.arr N sz 0 h)))) c=some x->∃C4 y,e1 J1 C4=some y/\M7 φ N (φ b) c=M7 φ N (φ b) C4/\(C4=if c=N then b else c):=by grind
 refine⟨M7 φ N (φ b),S,⟨⟨λc x ad=>?_,λc C4 x y ad bJ hG=>?_,k2.h'.st⟩,k2.Ot,k2.PK,λk g v a6 b9=>V.O5 hm (k2.Oq k g v a6 b9),λc x ad=>?_,k2.size,k2.defers,k2.ext,λc x ad h0=>?_,k2.fix,λc b7=>by have:=k2.Nu c b7;exact hm c this⟩⟩
 . rcases x' c x ad with⟨rfl,rfl⟩ | ⟨_,rfl,rfl⟩ | ⟨_,_,_,ea⟩
   . obtain⟨h0,vs,E,h1,ah,b'⟩:=k2.h'.blk _ _ eg;refine⟨h0,vs,E,h1,?_,b'⟩;obtain⟨v,cv,ar⟩:=ah.get c7;have af6:ho (M7 φ N (φ b)) w S (.arr N sz 0 h) v:=by
      obtain⟨a,eh,hj,I2⟩:=ar;rw[aJI]at eh hj I2;exact⟨a,by rw[lo];exact eh,by rw[lo];exact hj,by rw[lo];exact I2⟩
     have:=f'.set (i:=j) ah af6;have ayq:vs.set j v=vs:=by
      apply an0
      grind
     rw[ayq]at this;exact this
   . obtain⟨h0,h1,ah,b',ea⟩:=k2.h'.blk _ _ al;rw[aJI]at h0 ea;refine⟨by rw[lo,aal];omega,by rw[aal];omega,λe he=>ah e (ab4 he),b',λb7=>?_⟩;rw[lo]at b7 ⊢;obtain⟨vs,E,g1,g2,g3,g4⟩:=ea b7;refine⟨vs,E,g1,g2,λi j e t he ht=>?_,g4⟩;rw[Xn]at he;split at he
     . exact g3 i j e t he ht
     . cases he
   . exact k2.h'.blk c x ea
 . obtain⟨d,jb,Ly,eh,hj⟩:=hold c x ad;obtain⟨zv,P4,ON,I2,U4⟩:=hold C4 y bJ;have ix:d≠zv:=by grind
   intro h0 Jj;rw[eh]at h0 ⊢;rw[I2]at Jj ⊢;exact k2.h'.inj d zv jb P4 Ly ON ix h0 Jj
 . rcases x' c x ad with⟨rfl,rfl⟩ | ⟨_,rfl,rfl⟩ | ⟨_,_,_,ea⟩
   . refine⟨hm _ (k2.HJ _ _ eg).1,?_⟩;have:=(k2.HJ _ _ eg).2;simp only[h2.c',r0]at this ⊢;intro d a7;rcases agv a7 with h | h
     . exact C.O5 hm (this d h)
     . rw[h];simp[C.c',lt]
   . exact⟨by simp[lt],rfl⟩
   . exact⟨hm c (k2.HJ c x ea).1,h2.O5 hm (k2.HJ c x ea).2⟩
 . obtain⟨d,jb,Ly,eh,_⟩:=hold c x ad;rw[eh]at h0 ⊢;exact k2.own d jb Ly h0
def ah9 :Nat->List (hn U)->Option (Nat×Nat×Nat)
 | _,[]=>none
 | j,.pre b h::_=>some (j,b,h)
 | j,_::r=>ah9 (j+1) r
def acq(J:hc U):hc U->Option (Nat×List (hn U)×Nat×Nat×Nat)
 | []=>none
 | (q,.box cs)::r=>match fz J q with
  | some (.box OH)=>match ah9 0 OH with
   | some p=>some (q,OH,p)
   | none=>acq J r
  | _=>acq J r
 | _::r=>acq J r
theorem aDV :∀{cs:List (hn U)} {j i b h:Nat},ah9 j cs=some (i,b,h)->j<=i/\cs[i - j]?=some (.pre b h)
 | [],j,i,b,h,cJ=>by simp[ah9]at cJ
 | c::r,j,i,b,h,cJ=>by
  have next:ah9 (j+1) r=some (i,b,h)->j<=i/\(c::r)[i - j]?=some (.pre b h):=by
   intro cJ;obtain⟨h1,ah⟩:=aDV cJ
   grind
  cases c with
  | pre hq rz=>simp only[ah9,hQ,hO]at cJ;obtain⟨rfl,rfl,rfl⟩:=cJ;simp
  | _=>exact next cJ
theorem apE{q:Nat}{cs:List (hn U)}{i b h:Nat}:∀{l:hc U},acq J l=some (q,cs,i,b,h)->fz J q=some (.box cs)/\cs[i]?=some (.pre b h)
 | [],cJ=>by simp[acq]at cJ
 | (k,x)::r,cJ=>by
  cases x with
  | box MH=>
   simp only[acq]at cJ;split at cJ
   . rename_i OH hk;split at cJ
     . rename_i p bo;simp only[hQ,hO]at cJ;obtain⟨rfl,rfl,rfl⟩:=cJ;exact⟨hk,by simpa using(aDV bo).2⟩
     . exact apE cJ
   . exact apE cJ
  | _=>exact apE (by simpa only[acq]using cJ)
def as'{R:Type}(J:hc U)(N:Nat)(k:hc U->Nat->Option R):Option R:=
 match acq J J with
 | none=>k J N
 | some (q,cs,j,b,h)=>match fz J b with
  | some (.arr t l)=>if decide (h<=l.length)=true then k (o1 (o1 (dl J b) N (.arr t (l.take h))) q (.box (cs.set j (.arr N)))) (N+1)else none
  | _=>none
theorem aFi {q j b h0:Nat} {cs:List (hn U)} {x:hn U} {t:eb} {l:List (t.den U.D)} (eg:fz J q=some (.box cs)) (c7:cs[j]?=some x) (al:fz J b=some (.arr t l)) (ad:∀d,k5 N J x d -> d= .arr b (t.sz U) 0 h0) (hle:h0 <=l.length)
 (he:r3 N J G env env1) (dx:pJ N J J1):
 ∃hy,Conv kk N env1 J1 (N+1) env1 hy/\r3 (N+1) (o1 (o1 (dl J b) N (.arr t (l.take h0))) q (.box (cs.set j (.arr N)))) G env env1/\pJ (N+1) (o1 (o1 (dl J b) N (.arr t (l.take h0))) q (.box (cs.set j (.arr N)))) hy:=by
 obtain⟨aKi,a4j,ayn,arX⟩:=dx q _ eg;obtain⟨OJ,atb,Nn,ML⟩:=dx b _ al;cases ML;cases arX with
 | @box _ ds arX=>
  obtain⟨d,a7,ar⟩:=arX.get c7;have:=ad d ar;subst this;have aKj:q≠b:=by intro e;subst e;rw[eg]at al;cases al
  have hg:wJ N J N (dl J b):=afd;have hv:wJ N (dl J b) (N+1) (o1 (dl J b) N (.arr t (l.take h0))):=XG (by omega);have abU:fz (o1 (dl J b) N (.arr t (l.take h0))) q=some (.box cs):=by rw[PV,aJ (by omega),aaf,aJ (λe=>aKj e.symm)];exact eg
  have h3:wJ (N+1) (o1 (dl J b) N (.arr t (l.take h0))) (N+1) (o1 (o1 (dl J b) N (.arr t (l.take h0))) q (.box (cs.set j (.arr N)))):=ZM (JK _) abU (λp h=>by simp[qJ.xn]at h);have aKN:=(hg.trans hv).trans h3;have axB:pJ N (dl J b) (Qr J1 b):=by
   intro c x ad;rw[aaf]at ad;split at ad
   . cases ad
   . rename_i hG;obtain⟨g1,y,g2,g3⟩:=dx c x ad;exact⟨g1,y,by rw[Nb,aJ hG];exact g2,g3.mono hg⟩
  refine⟨_,Conv.trim ayn a7 Nn (by rw[SZ];exact hle) aKi,he.mono aKN,?_⟩;rw[<-an4];refine(axB.put (by omega) hv (.arr t (l.take h0))).put (by omega) h3 (.box ?_);refine f'.set (arX.imp λ_ _ _ g=>g.mono aKN) (.arr N _ _ (by omega) λx ad p bo=>?_);rw[PV,aJ (by omega),PV,ao rfl]at ad;cases ad;simp only[qJ.xn,hQ]at bo
  rw[<-bo,aal,Nat.min_eq_left hle]
theorem aDW{R:Type}{k:hc U -> Nat -> Option R}{r:R}(h:as' J N k=some r)(he:r3 N J (λ_=>true) env env1)(dx:pJ N J J1):
 ∃J' N' hy,k J' N'=some r/\Conv kk N env1 J1 N' env1 hy/\r3 N' J' (λ_=>true) env env1/\pJ N' J' hy/\N<=N':=by
 unfold as' at h;split at h
 . exact⟨J,N,J1,h,Conv.refl,he,dx,JK _⟩
 . rename_i q cs j b h0 cJ;obtain⟨eg,c7⟩:=apE cJ;split at h
   . rename_i t l al;split at h
     . rename_i hle
       obtain⟨s1,m1,m2,m3⟩:=aFi (kk:=kk) (h0:=h0) eg c7 al (λd ar=>by
        cases ar with
        | pre _ sz _ _ ga=>
         have ga:=ga _ al _ rfl
         grind) (by simpa using hle) he dx
       exact⟨_,_,s1,h,m1,m2,m3,by omega⟩
     . cases h
   . cases h
def afk(kk:Nat):Nat->List (hn U)->Option (Nat×Nat)
 | _,[]=>none
 | j,.arr b::r=>match Nat.ble (b+1) kk with
  | true=>some (j,b)
  | false=>afk kk (j+1) r
 | j,_::r=>afk kk (j+1) r
def acr(kk:Nat)(J:hc U):hc U->Option (Nat×List (hn U)×Nat×Nat)
 | []=>none
 | (q,.box _)::r=>match fz J q with
  | some (.box cs)=>match afk kk 0 cs with
   | some p=>some (q,cs,p)
   | none=>acr kk J r
  | _=>acr kk J r
 | _::r=>acr kk J r
theorem aDo{kk:Nat}:∀{cs:List (hn U)} {j i b:Nat},afk kk j cs=some (i,b)->j<=i/\cs[i - j]?=some (.arr b)
 | [],j,i,b,cJ=>by simp[afk]at cJ
 | c::r,j,i,b,cJ=>by
  have next:afk kk (j+1) r=some (i,b)->j<=i/\(c::r)[i - j]?=some (.arr b):=by
   intro cJ;obtain⟨h1,ah⟩:=aDo cJ
   grind
  cases c with
  | arr hq=>
   simp only[afk]at cJ
   grind
  | _=>exact next cJ
theorem apF{kk q:Nat}{cs:List (hn U)}{i b:Nat}:∀{l:hc U},acr kk J l=some (q,cs,i,b)->fz J q=some (.box cs)/\cs[i]?=some (.arr b)
 | [],cJ=>by simp[acr]at cJ
 | (k,x)::r,cJ=>by
  cases x with
  | box MH=>
   simp only[acr]at cJ;split at cJ
   . rename_i OH hk;split at cJ
     . rename_i p bo;simp only[hQ,hO]at cJ;obtain⟨rfl,rfl,rfl⟩:=cJ;exact⟨hk,by simpa using(aDo bo).2⟩
     . exact apF cJ
   . exact apF cJ
  | _=>exact apF (by simpa only[acr]using cJ)
def as5{R:Type}(kk:Nat)(J:hc U)(k:hc U->Nat->Option R):Option R:=
 match acr kk J J with
 | none=>k J kk
 | some (q,cs,j,b)=>match fz J b with
  | some (.arr t l)=>k (o1 (o1 (dl J b) kk (.arr t l)) q (.box (cs.set j (.arr kk)))) (kk+1)
  | _=>k J kk
theorem aSz{R:Type}{k:hc U -> Nat -> Option R}{r:R}(h:as5 kk J k=some r)(he:r3 kk J (λ_=>true) env env1)(dx:pJ kk J J1):
 ∃J' N' hy,k J' N'=some r/\Conv kk kk env1 J1 N' env1 hy/\r3 N' J' (λ_=>true) env env1/\pJ N' J' hy/\kk<=N':=by
 unfold as5 at h;split at h
 . exact⟨J,kk,J1,h,Conv.refl,he,dx,JK _⟩
 . rename_i q cs j b cJ;obtain⟨eg,c7⟩:=apF cJ;split at h
   . rename_i t l al
     obtain⟨s1,m1,m2,m3⟩:=aFi (kk:=kk) (h0:=l.length) eg c7 al (λd ar=>by
      cases ar with
      | arr _ sz n _ ga=>
       have ga:=ga _ al _ rfl
       grind) (JK _) he dx
     rw[List.take_length]at m2 m3;exact⟨_,_,s1,h,m1,m2,m3,by omega⟩
   . exact⟨J,kk,J1,h,Conv.refl,he,dx,JK _⟩
inductive Pos where
 | slot (k:Nat)
 | cell (b j:Nat)
 | via (k j:Nat)
def ao0(b j:Nat)(t:eb)(env:iy U)(J:hc U)(N:Nat):Option (iy U×hc U):=
 match fz J b with
 | some (.box cs)=>match cs[j]? with
  | some .ee=>some (env,o1 (o1 J N (.arr t [])) b (.box (cs.set j (.arr N))))
  | _=>some (env,J)
 | _=>none
def aAh(p:Pos)(t:eb)(env:iy U)(J:hc U)(N:Nat):Option (iy U×hc U):=
 match p with
 | .slot k=>match fz env k with
  | some (.c .ee)=>some ((k,.c (.arr N))::env,o1 J N (.arr t []))
  | _=>some (env,J)
 | .cell b j=>ao0 b j t env J N
 | .via k j=>match fz env k with
  | some (.c (.ptr b _))=>ao0 b j t env J N
  | _=>none
def aoZ :List (Pos×eb)->iy U->hc U->Nat->Option (iy U×hc U×Nat)
 | [],env,J,N=>some (env,J,N)
 | (p,t)::r,env,J,N=>match aAh p t env J N with
  | some (env',J')=>aoZ r env' J' (N+1)
  | none=>none
theorem aF6{t:eb}(he:r3 N J (λ_=>true) env env1)(dx:pJ N J J1)(k6:kk<=N):∃ln hy,Conv kk N env1 J1 (N+1) ln hy/\r3 (N+1) J (λ_=>true) env ln/\pJ (N+1) J hy:=by
 refine⟨env1,vc J1 N (.arr 1 []),λc9 nt φ S a w hk R=>⟨_,S,R.ayN (by omega) (by omega)⟩,he.mono (wJ.more (by omega)),λb x ad=>?_⟩;obtain⟨h1,y,ah,b'⟩:=dx b x ad;exact⟨by omega,y,by rw[q6,aJ (by omega)];exact ah,b'.mono (wJ.more (by omega))⟩
theorem at7{b j:Nat}{t:eb}(h:ao0 b j t env J N=some (env',J'))(he:r3 N J (λ_=>true) env env1)(dx:pJ N J J1)(k6:kk <=N):
 ∃ln hy,Conv kk N env1 J1 (N+1) ln hy/\r3 (N+1) J' (λ_=>true) env' ln/\pJ (N+1) J' hy:=by
 have same:=aF6 (t:=t) he dx k6;unfold ao0 at h;split at h
 . rename_i cs y1;split at h
   . rename_i c7;cases h;obtain⟨OJ,y,h1,ah⟩:=dx b _ y1;cases ah with
     | @box _ ds ah=>
      obtain⟨d,a7,ar⟩:=ah.get c7;cases ar;have K6:wJ N J (N+1) (o1 J N (.arr t [])):=XG (by omega);have aZz:fz (o1 J N (.arr t [])) b=some (.box cs):=by rw[PV,aJ (by omega)];exact y1
      have ayF:wJ (N+1) (o1 J N (.arr t [])) (N+1) (o1 (o1 J N (.arr t [])) b (.box (cs.set j (.arr N)))):=ZM (JK _) aZz (λp h=>by simp[qJ.xn]at h);refine⟨_,_,Conv.a1u h1 a7 OJ (eb.ajI (t:=t) (U:=U)) k6,(he.mono K6).mono ayF,(dx.put (by omega) K6 (.arr t [])).put (by omega) ayF (.box ?_)⟩
      refine f'.set (ah.imp λ_ _ _ h=>(h.mono K6).mono ayF) (.arr N _ _ (by omega) λx ad p bo=>?_);rw[PV,aJ (by omega),PV,ao rfl]at ad;cases ad;simp[qJ.xn]at bo;exact bo.symm
   . cases h;exact same
 . cases h
theorem aSA{p:Pos}{t:eb}(h:aAh p t env J N=some (env',J'))(he:r3 N J (λ_=>true) env env1)(dx:pJ N J J1)(k6:kk <=N):
 ∃ln hy,Conv kk N env1 J1 (N+1) ln hy/\r3 (N+1) J' (λ_=>true) env' ln/\pJ (N+1) J' hy:=by
 have same:=aF6 (t:=t) he dx k6;unfold aAh at h;split at h
 . rename_i k;split at h
   . rename_i hk;cases h;obtain⟨v1,h1,ah⟩:=he k _ hk;have:=ah.aim;subst this;have K6:wJ N J (N+1) (o1 J N (.arr t [])):=XG (by omega);refine⟨_,_,Conv.own h1 (eb.ajI (t:=t) (U:=U)) k6,λi v ay=>?_,dx.put (by omega) K6 (.arr t [])⟩;simp only[fz]at ay;simp only[look];split at ay
     . rename_i al;cases ay;rw[ao (q4 al)];refine⟨_,rfl,.c (.arr N _ _ (by omega) λx ad p bo=>?_)⟩;rw[PV,ao rfl]at ad;cases ad;simp[qJ.xn]at bo;exact bo.symm
     . rename_i al;rw[aJ (PC al)];exact(he.mono K6) i v ay
   . cases h;exact same
 . exact at7 h he dx k6
 . split at h
   . exact at7 h he dx k6
   . cases h
def axd :List (hn U)->List Bool->Bool
 | [],[]=>true
 | .t _::cs,false::bs=>axd cs bs
 | .ee::cs,true::bs=>axd cs bs
 | _,_=>false
def aCG(cs:List (hn U)):List (List Bool×Nat×eb)->Option (Nat×eb)
 | []=>none
 | (bs,p)::r=>match axd cs bs with
  | true=>some p
  | false=>aCG cs r
def awv(l:List (List Bool×Nat×eb)):hc U->Option (Nat×Nat×eb)
 | []=>none
 | (q,.box cs)::r=>match aCG cs l with
  | some p=>some (q,p)
  | none=>awv l r
 | _::r=>awv l r
def as8{R:Type}(env:iy U)(J:hc U)(N:Nat)(k:iy U->hc U->Nat->Option R):Option R:=
 match awv U.own J with
 | none=>as' J N λJ N=>k env J N
 | some (q,j,t)=>match ao0 q j t env J N with
  | some (env,J)=>as' J (N+1) λJ N=>k env J N
  | none=>none
theorem aDp{R:Type}{k:iy U -> hc U -> Nat -> Option R}{r:R}(h:as8 env J N k=some r)(he:r3 N J (λ_=>true) env env1)(dx:pJ N J J1)(k6:kk <=N):
 ∃env' J' N' ln hy,k env' J' N'=some r/\Conv kk N env1 J1 N' ln hy/\r3 N' J' (λ_=>true) env' ln/\pJ N' J' hy/\N<=N':=by
 unfold as8 at h;split at h
 . obtain⟨s2,VD,ad8,g1,g2,g3,g4,g5⟩:=aDW h he dx;exact⟨_,_,_,_,_,g1,g2,g3,g4,g5⟩
 . split at h
   . rename_i e s c8;obtain⟨eh,s1,hN,hR,px⟩:=at7 c8 he dx k6;obtain⟨s2,VD,ad8,g1,g2,g3,g4,g5⟩:=aDW h hR px;exact⟨_,_,_,_,_,g1,hN.trans g2,g3,g4,by omega⟩
   . cases h
theorem aEv :∀{l:List (Pos×eb)} {env env':iy U} {J J':hc U} {N N':Nat} {env1:Env} {J1:fu},aoZ l env J N=some (env',J',N') -> r3 N J (λ_=>true) env env1 -> pJ N J J1 -> kk <=N ->
 ∃ln hy,Conv kk N env1 J1 N' ln hy/\r3 N' J' (λ_=>true) env' ln/\pJ N' J' hy/\N<=N'
 | [],env,env',J,J',N,N',env1,J1,h,he,dx,k6=>by simp[aoZ]at h;obtain⟨rfl,rfl,rfl⟩:=h;exact⟨env1,J1,Conv.refl,he,dx,JK _⟩
 | (p,t)::r,env,env',J,J',N,N',env1,J1,h,he,dx,k6=>by
  simp only[aoZ]at h;split at h
  . rename_i e s h1;obtain⟨eh,s1,hg,hv,h3⟩:=aSA h1 he dx k6;obtain⟨hj,s2,m1,m2,m3,m4⟩:=aEv h hv h3 (by omega);exact⟨hj,s2,hg.trans m1,m2,m3,by omega⟩
  . cases h
end
end
section
open Go
variable {U:pK}
inductive WW where
 | hole (ty:eb)
 | ptr (b o:Nat)
 | pr (b:Nat) (ty:eb) (o:Nat)
 | IJ (ty:eb) (o:Nat)
 | arr (b:Nat)
 | mp (b:Nat)
 | pq (b:Nat)
 | ee
 | Ln
 | Lm
 | fn (f:Nat) (caps:List Nat)
 | dead
inductive NC where
 | c (s:WW)
 | agg (l:List WW)
 | row (n:Nat)
 | gJ (l:List NC)
inductive O2 where
 | box (l:List WW)
 | arr (ty:eb)
 | i' (n:Nat)
 | gone
 | set
 | buf (E:Nat)
 | kn (E:Nat) (s:WW)
structure Shape where
 env:List (Nat×NC)
 st:List O2
abbrev J4(U:pK):=List (Cell U.D)
def adn :WW->J4 U->hn U×J4 U
 | .hole _,c::r=>(.t c,r)
 | .hole _,[]=>(.dead,[])
 | .ptr b o,r=>(.ptr b o,r)
 | .pr b ty o,⟨.int _,n⟩::r=>(.pr b ty (Int.toNat n) o,r)
 | .pr _ _ _,r=>(.dead,r)
 | .IJ _ o,c::r=>(.IJ c.ty c.val o,r)
 | .IJ _ _,[]=>(.dead,[])
 | .arr b,r=>(.arr b,r)
 | .mp b,r=>(.mp b,r)
 | .pq b,r=>(.pq b,r)
 | .ee,r=>(.ee,r)
 | .Ln,r=>(.Ln,r)
 | .Lm,r=>(.Lm,r)
 | .fn f caps,r=>(.fn f caps,r)
 | .dead,r=>(.dead,r)
def amK :List WW->J4 U->List (hn U)×J4 U
 | [],r=>([],r)
 | s::ss,r=>match adn s r with
  | (x,kJ)=>match amK ss kJ with
   | (xs,oJ)=>(x::xs,oJ)
mutual
def V4 :NC->J4 U->hM U×J4 U
 | .c s,r=>match adn s r with
  | (x,kJ)=>(.c x,kJ)
 | .agg l,r=>match amK l r with
  | (xs,kJ)=>(.agg xs,kJ)
 | .row _,c::r=>(.agg ((c.ty.row U c.val).map .t),r)
 | .row _,[]=>(.gJ [],[])
 | .gJ l,r=>match V5 l r with
  | (xs,kJ)=>(.gJ xs,kJ)
def V5 :List NC->J4 U->List (hM U)×J4 U
 | [],r=>([],r)
 | s::ss,r=>match V4 s r with
  | (x,kJ)=>match V5 ss kJ with
   | (xs,oJ)=>(x::xs,oJ)
end
def arw :List (Nat×NC)->J4 U->iy U×J4 U
 | [],r=>([],r)
 | (k,s)::ss,r=>match V4 s r with
  | (x,kJ)=>match arw ss kJ with
   | (xs,oJ)=>((k,x)::xs,oJ)
def Rf :O2->J4 U->Option (qJ U)×J4 U
 | .box l,r=>match amK l r with
  | (xs,kJ)=>(some (.box xs),kJ)
 | .arr _,⟨.slice t,l⟩::r=>(some (.arr t l),r)
 | .arr _,r=>(none,r)
 | .i' _,c::r=>(some (.box ((c.ty.row U c.val).map .t)),r)
 | .i' _,[]=>(none,[])
 | .gone,r=>(none,r)
 | .set,⟨.slice .str,l⟩::r=>(some (.set l),r)
 | .set,r=>(none,r)
 | .buf E,⟨.str,s⟩::r=>(some (.buf E s),r)
 | .buf _,r=>(none,r)
 | .kn E s,r=>match adn s r with
  | (x,kJ)=>(some (.kn E x),kJ)
def Oc :Nat->List O2->J4 U->hc U
 | _,[],_=>[]
 | j,s::ss,r=>match Rf s r with
  | (some x,kJ)=>(j,x)::Oc (j+1) ss kJ
  | (none,kJ)=>Oc (j+1) ss kJ
def Z6{α:Type}:List α->Nat->Option α
 | [],_=>none
 | a::_,0=>some a
 | _::l,n+1=>Z6 l n
theorem alM{α:Type}:∀{l:List α} {n:Nat},Z6 l n=l[n]?
 | [],n=>by simp[Z6]
 | a::l,0=>by simp[Z6]
 | a::l,n+1=>by simp[Z6,alM (l:=l)]
def adK(bs:List Nat)(j b:Nat):Bool:=match Z6 bs j with
 | some hq=>Nat.beq hq b
 | none=>false
def arh(bs:List Nat):List Nat->List Nat->Bool
 | [],[]=>true
 | j::Xl,c::cs=>adK bs j c && arh bs Xl cs
 | _,_=>false
def azU(ty:eb):hn U->Option (Cell U.D)
 | .t c=>match Cell.as ty c with
  | some x=>some ⟨ty,x⟩
  | none=>none
 | .ee=>match ty with
  | .slice t=>some ⟨.slice t,([]:List (t.den U.D))⟩
  | _=>none
 | _=>none
def amh(bs:List Nat):WW->hn U->Option (J4 U)
 | .hole ty,x=>match azU ty x with
  | some c=>some [c]
  | none=>none
 | .ptr j o,.ptr b q1=>match adK bs j b && Nat.beq o q1 with
  | true=>some []
  | false=>none
 | .pr j ty o,.pr b acg i q1=>match adK bs j b && (Nat.beq o q1 && eb.beq ty acg)with
  | true=>some [⟨.int .i64,(i:Int)⟩]
  | false=>none
 | .IJ ty o,.IJ acg x q1=>match Nat.beq o q1,Cell.as ty (⟨acg,x⟩:Cell U.D)with
  | true,some x=>some [⟨ty,x⟩]
  | _,_=>none
 | .arr j,.arr b=>match adK bs j b with
  | true=>some []
  | false=>none
 | .mp j,.mp b=>match adK bs j b with
  | true=>some []
  | false=>none
 | .pq j,.pq b=>match adK bs j b with
  | true=>some []
  | false=>none
 | .ee,.ee=>some []
 | .Ln,.Ln=>some []
 | .Lm,.Lm=>some []
 | .fn f Xl,.fn afT cs=>match Nat.beq f afT && arh bs Xl cs with
  | true=>some []
  | false=>none
 | .dead,_=>some []
 | _,_=>none
def adj(bs:List Nat):List WW->List (hn U)->Option (J4 U)
 | [],[]=>some []
 | s::ss,x::xs=>match amh bs s x,adj bs ss xs with
  | some a,some b=>some (a++b)
  | _,_=>none
 | _,_=>none
mutual
def Uf(bs:List Nat):NC->hM U->Option (J4 U)
 | .c s,.c x=>amh bs s x
 | .agg l,.agg xs=>adj bs l xs
 | .row n,.agg xs=>match aci U (.nm n) xs with
  | some x=>some [⟨.nm n,x⟩]
  | none=>none
 | .gJ l,.gJ xs=>YT bs l xs
 | _,_=>none
def YT(bs:List Nat):List NC->List (hM U)->Option (J4 U)
 | [],[]=>some []
 | s::ss,x::xs=>match Uf bs s x,YT bs ss xs with
  | some a,some b=>some (a++b)
  | _,_=>none
 | _,_=>none
end
def ami(bs:List Nat)(env:iy U):List (Nat×NC)->Option (J4 U)
 | []=>some []
 | (k,s)::ss=>match fz env k with
  | some x=>match Uf bs s x,ami bs env ss with
   | some a,some b=>some (a++b)
   | _,_=>none
  | none=>none
def abw(bs:List Nat):O2->qJ U->Option (J4 U)
 | .box l,.box xs=>adj bs l xs
 | .arr ty,.arr t l=>match Cell.as (.slice ty) (⟨.slice t,l⟩:Cell U.D)with
  | some l=>some [⟨.slice ty,l⟩]
  | none=>none
 | .arr ty,.rows sz r=>match Nat.beq (ty.sz U) sz,Ym U ty r with
  | true,some l=>some [⟨.slice ty,l⟩]
  | _,_=>none
 | .i' n,.box xs=>match aci U (.nm n) xs with
  | some x=>some [⟨.nm n,x⟩]
  | none=>none
 | .set,.set l=>some [⟨.slice .str,l⟩]
 | .buf E,.buf ajY s=>match Nat.beq E ajY with
  | true=>some [⟨.str,s⟩]
  | false=>none
 | .kn E s,.kn ajY x=>match Nat.beq E ajY with
  | true=>amh bs s x
  | false=>none
 | _,_=>none
def SG(bs:List Nat)(J:hc U):Nat->List O2->Option (J4 U)
 | _,[]=>some []
 | j,.gone::ss=>SG bs J (j+1) ss
 | j,s::ss=>match Z6 bs j with
  | some b=>match fz J b with
   | some x=>match abw bs s x,SG bs J (j+1) ss with
    | some a,some r=>some (a++r)
    | _,_=>none
   | none=>none
  | none=>none
section
variable {kk N:Nat} {J Jc:hc U} {J1:fu} {env:iy U} {env1:Env} {bs:List Nat}
def Can(bs:List Nat)(J Jc:hc U):Prop:=∀j b jb,bs[j]?=some b->fz Jc j=some jb->∃x,fz J b=some x/\∀p,jb.xn=some p->x.xn=some p
theorem YG{bs:List Nat}(ix:bs.Nodup){j b:Nat}(h:bs[j]?=some b):pos bs b=some j:=by
 induction bs generalizing j with
 | nil=>simp at h
 | cons a bs ih=>
  simp only[pos]
  grind
theorem ahZ{j b:Nat}(h:adK bs j b=true):bs[j]?=some b:=by
 unfold adK at h;rw[alM]at h;split at h
 . simp_all
 . cases h
theorem aEw(ix:bs.Nodup):∀{Xl cs:List Nat},arh bs Xl cs=true->ZS bs cs=some Xl
 | [],[],_=>rfl
 | j::Xl,c::cs,h=>by
  simp only[arh,k0]at h;simp[ZS,YG ix (ahZ h.1),aEw ix h.2]
theorem aUa{ty:eb}{x:hn U}{c:Cell U.D}{d:C}(h:azU ty x=some c)(ar:k5 N J x d):yq (d.hZ bs) (.t (c.enc U))/\c.ty=ty:=by
 unfold azU at h;split at h
 . split at h
   . rename_i C4 y bJ;cases h;rw[Cell.VV bJ]at ar;cases ar;exact⟨yq.refl _,rfl⟩
   . cases h
 . split at h
   . cases h;cases ar;exact⟨yq.ee,rfl⟩
   . cases h
 . cases h
theorem atI(ix:bs.Nodup)(Ov:Can bs J Jc){s:WW}{x:hn U}{a:J4 U}(h:amh bs s x=some a):
 ∃y,(∀r,adn s (a++r)=(y,r))/\∀d,k5 N J x d->∃zv,yq (d.hZ bs) zv/\k5 bs.length Jc y zv:=by
 unfold amh at h;split at h
 . split at h
   . rename_i c b7;cases h;exact⟨.t c,λr=>rfl,λd a7=>⟨_,(aUa b7 a7).1,.t c⟩⟩
   . cases h
 . rename_i j o b q1;split at h
   . rename_i al;simp only[k0]at al;have:=q4 al.2;subst this;cases h;refine⟨.ptr j o,λr=>rfl,λd a7=>⟨.ptr j o,?_,.ptr j o⟩⟩;cases a7;simp only[C.hZ,YG ix (ahZ al.1)];exact yq.refl _
   . cases h
 . rename_i j ty o b acg i q1;split at h
   . rename_i al;simp only[k0]at al;have:=q4 al.2.1;subst this;have:=eb.beq_eq al.2.2;subst this;cases h;refine⟨.pr j ty i o,λr=>rfl,λd a7=>⟨.pr j (ty.sz U) i o,?_,.pr j ty i o⟩⟩;cases a7;simp only[C.hZ,YG ix (ahZ al.1)];exact yq.refl _
   . cases h
 . rename_i ty o acg x q1;split at h
   . rename_i y c8 bJ;have:=q4 c8;subst this;cases h;have e:=Cell.VV bJ;cases e;refine⟨.IJ ty y o,λr=>rfl,λd a7=>⟨d,?_,?_⟩⟩
     . cases a7;exact yq.refl _
     . cases a7;exact .IJ ty y o
   . cases h
 . rename_i j b;split at h
   . rename_i al;cases h;refine⟨.arr j,λr=>rfl,λd a7=>?_⟩;cases a7 with
     | arr _ sz n OJ ai=>
      have c7:=ahZ al;refine⟨.arr j sz 0 n,?_,.arr j sz n (sb.1 c7).1 λx ad p bo=>?_⟩
      . simp only[C.hZ,YG ix c7];exact yq.refl _
      . obtain⟨a',h1,ah⟩:=Ov j b x c7 ad;exact ai a' h1 p (ah p bo)
   . cases h
 . rename_i j b;split at h
   . rename_i al;cases h;refine⟨.mp j,λr=>rfl,λd a7=>?_⟩;cases a7;refine⟨.mp j,?_,.mp j⟩;simp only[C.hZ,YG ix (ahZ al)];exact yq.refl _
   . cases h
 . rename_i j b;split at h
   . rename_i al;cases h;refine⟨.pq j,λr=>rfl,λd a7=>?_⟩;cases a7 with
     | pq _ n OJ ai=>
      have c7:=ahZ al;refine⟨.pq j n,?_,.pq j n (sb.1 c7).1 λx ad p bo=>?_⟩
      . simp only[C.hZ,YG ix c7];exact yq.refl _
      . obtain⟨a',h1,ah⟩:=Ov j b x c7 ad;exact ai a' h1 p (ah p bo)
   . cases h
 . cases h;exact⟨.ee,λr=>rfl,λd a7=>by cases a7;exact⟨.ee,yq.refl _,.ee⟩⟩
 . cases h;exact⟨.Ln,λr=>rfl,λd a7=>by cases a7;exact⟨.Ln,yq.refl _,.Ln⟩⟩
 . cases h;exact⟨.Lm,λr=>rfl,λd a7=>by cases a7;exact⟨.Lm,yq.refl _,.Lm⟩⟩
 . rename_i f Xl afT cs;split at h
   . rename_i al;simp only[k0]at al;have:=q4 al.1;subst this;cases h;refine⟨.fn f Xl,λr=>rfl,λd a7=>⟨.fn f Xl,?_,.fn f Xl⟩⟩;cases a7;simp only[C.hZ,aEw ix al.2];exact yq.refl _
   . cases h
 . cases h;exact⟨.dead,λr=>rfl,λd a7=>⟨.dead,yq.dead _,.dead _⟩⟩
 . cases h
theorem aua(ix:bs.Nodup)(Ov:Can bs J Jc):∀{ss:List WW} {xs:List (hn U)} {a:J4 U},adj bs ss xs=some a ->
 ∃ys,(∀r,amK ss (a++r)=(ys,r))/\∀ds,f' (k5 N J) xs ds->∃Jq,f' yq (ds.map (C.hZ bs)) Jq/\f' (k5 bs.length Jc) ys Jq
 | [],[],a,h=>by simp[adj]at h;subst h;exact⟨[],λr=>rfl,λds a7=>by cases a7;exact⟨[],.nil,.nil⟩⟩
 | s::ss,x::xs,a,h=>by
  simp only[adj]at h;split at h
  . rename_i a1 a2 h1 ah;cases h;obtain⟨y,f1,g1⟩:=atI (N:=N) ix Ov h1;obtain⟨ys,f2,g2⟩:=aua ix Ov ah;refine⟨y::ys,λr=>by simp only[amK,SY,f1,f2],λds a7=>?_⟩;cases a7 with
    | cons aiL arH=>
     obtain⟨zv,eh,hj⟩:=g1 _ aiL;obtain⟨Jq,I2,U4⟩:=g2 _ arH;exact⟨zv::Jq,.cons eh I2,.cons hj U4⟩
  . cases h
 | [],_::_,a,h=>by simp[adj]at h
 | _::_,[],a,h=>by simp[adj]at h
theorem aF7{n:Nat}{xs:List (hn U)}{x:(eb.nm n).den U.D}(h:aci U (.nm n) xs=some x):∀ds,f' (k5 N J) xs ds->∃Jq,f' yq (ds.map (C.hZ bs)) Jq/\f' (k5 bs.length Jc) (((eb.nm n).row U x).map .t) Jq:=by
 intro ds a7;refine⟨((eb.nm n).enc U x).map .t,?_,akp⟩;unfold aci at h;split at h
 . rename_i row Nq;rw[eb.aiF,eb.ayL h,List.map_map];clear h;generalize (eb.nm n).cells U=vi at Nq
   induction xs generalizing vi row ds with
   | nil=>
    cases a7;cases vi <;> simp[Q6]at Nq
    subst Nq;exact .nil
   | cons y ys ih=>
    cases a7 with
    | @cons _ d _ ds h1 ah=>
     cases vi with
     | nil=>cases y <;> simp[Q6]at Nq
     | cons ty vi=>
      cases h1 with
      | t c=>cases ty <;> simp only[Q6]at Nq <;> (split at Nq <;> first | (cases Nq;done) | (rename_i q eg;cases Nq;exact .cons (yq.refl _) (ih _ ah _ _ eg)))
      | ee=>
       cases ty <;> simp only[Q6,reduceCtorEq]at Nq
       split at Nq
       . rename_i q eg;cases Nq;exact .cons yq.ee (ih _ ah _ _ eg)
       . cases Nq
      | _=>cases ty <;> simp[Q6]at Nq
 . cases h
mutual
theorem auR(ix:bs.Nodup)(Ov:Can bs J Jc):∀{s:NC} {x:hM U} {a:J4 U},Uf bs s x=some a ->
 ∃y,(∀r,V4 s (a++r)=(y,r))/\∀d,km N J x d->∃zv,NT (d.hZ bs) zv/\km bs.length Jc y zv
 | .c s,.c x,a,h=>by
  simp only[Uf]at h;obtain⟨y,f,g⟩:=atI (N:=N) ix Ov h;refine⟨.c y,λr=>by simp only[V4,f],λd a7=>?_⟩;cases a7 with
  | c a7=>obtain⟨zv,eh,hj⟩:=g _ a7;exact⟨.c zv,.c eh,.c hj⟩
 | .agg l,.agg xs,a,h=>by
  simp only[Uf]at h;obtain⟨y,f,g⟩:=aua (N:=N) ix Ov h;refine⟨.agg y,λr=>by simp only[V4,f],λd a7=>?_⟩;cases a7 with
  | agg a7=>obtain⟨zv,eh,hj⟩:=g _ a7;exact⟨.agg zv,.agg eh,.agg hj⟩
 | .row n,.agg xs,a,h=>by
  simp only[Uf]at h;split at h
  . rename_i x ad;cases h;refine⟨.agg (((eb.nm n).row U x).map .t),λr=>rfl,λd a7=>?_⟩;cases a7 with
    | agg a7=>obtain⟨zv,eh,hj⟩:=aF7 ad _ a7;exact⟨.agg zv,.agg eh,.agg hj⟩
  . cases h
 | .gJ l,.gJ xs,a,h=>by
  simp only[Uf]at h;obtain⟨ys,f,a6,g⟩:=aio ix Ov h;refine⟨.gJ ys,λr=>by simp only[V4,f],λd a7=>?_⟩;cases a7 with
  | gJ _ ds E8 a7=>
   obtain⟨Jq,eh,hj,I2⟩:=g ds E8 a7;refine⟨.gJ Jq,.gJ _ _ (by rw[aqf];exact eh.symm) ?_,.gJ _ _ (by omega) λi x d ad MM=>(I2 i x d ad MM)⟩;intro i x y ad bJ;rw[apu,gC]at ad
   grind
 | .c _,.agg _,a,h=>by simp[Uf]at h
 | .c _,.gJ _,a,h=>by simp[Uf]at h
 | .agg _,.c _,a,h=>by simp[Uf]at h
 | .agg _,.gJ _,a,h=>by simp[Uf]at h
 | .row _,.c _,a,h=>by simp[Uf]at h
 | .row _,.gJ _,a,h=>by simp[Uf]at h
 | .gJ _,.c _,a,h=>by simp[Uf]at h
 | .gJ _,.agg _,a,h=>by simp[Uf]at h
theorem aio(ix:bs.Nodup)(Ov:Can bs J Jc):∀{ss:List NC} {xs:List (hM U)} {a:J4 U},YT bs ss xs=some a ->
 ∃ys:List (hM U),(∀r,V5 ss (a++r)=(ys,r))/\ys.length=xs.length/\∀ds:List V,xs.length=ds.length->(∀(i:Nat) x d,xs[i]?=some x->ds[i]?=some d->km N J x d)->
  ∃Jq:List V,Jq.length=ds.length/\(∀(i:Nat) (d zv:V),ds[i]?=some d->Jq[i]?=some zv->NT (d.hZ bs) zv)/\(∀(i:Nat) y zv,ys[i]?=some y->Jq[i]?=some zv->km bs.length Jc y zv)
 | [],[],a,h=>by simp[YT]at h;subst h;exact⟨[],λr=>rfl,rfl,λds a6 a7=>⟨[],by simpa using a6,by simp,by simp⟩⟩
 | s::ss,x::xs,a,h=>by
  simp only[YT]at h;split at h
  . rename_i a1 a2 h1 ah;cases h;obtain⟨y,f1,g1⟩:=auR ix Ov h1;obtain⟨ys,f2,a6,g2⟩:=aio ix Ov ah;refine⟨y::ys,λr=>by simp only[V5,SY,f1,f2],by simp[a6],λds hlen a7=>?_⟩;cases ds with
    | nil=>simp at hlen
    | cons d ds=>
     obtain⟨zv,eh,hj⟩:=g1 d (a7 0 x d rfl rfl);obtain⟨Jq,I2,U4,QH⟩:=g2 ds (by simpa using hlen) λi x d ad MM=>a7 (i+1) x d (by simpa using ad) (by simpa using MM)
     refine⟨zv::Jq,by simp[I2],λi=>?_,λi=>?_⟩
     . grind
     grind
  . cases h
 | [],_::_,a,h=>by simp[YT]at h
 | _::_,[],a,h=>by simp[YT]at h
end
theorem atQ :∀{ks:List Nat} {k:Nat} {g:Bool} {v:V},k∈ks->look env1 k=some (g,v)->look (ZQ bs env1 ks) k=some (g,v.hZ bs)
 | x::ks,k,g,v,hm,a6=>by
  simp only[ZQ];by_cases h:x=k
  . subst h;rw[a6];simp[look]
  . have TJ:k∈ks:=by grind
    split
    . simp only[look,aJ h];exact atQ TJ a6
    . exact atQ TJ a6
theorem aEx(ix:bs.Nodup)(Ov:Can bs J Jc)(he:r3 N J (λ_=>true) env env1):∀{ss:List (Nat×NC)} {a:J4 U},ami bs env ss=some a ->
 ∃aiG,(∀r,arw ss (a++r)=(aiG,r))/\∃ln:Env,r3 bs.length Jc (λ_=>true) aiG ln/\∀k g Lr,look ln k=some (g,Lr)->k∈ss.map Prod.fst/\∃v,look env1 k=some (g,v)/\NT (v.hZ bs) Lr
 | [],a,h=>by simp[ami]at h;subst h;exact⟨[],λr=>rfl,[],λk v hk=>by simp[fz]at hk,λk g v h=>by simp[look]at h⟩
 | (k,s)::ss,a,h=>by
  simp only[ami]at h;split at h
  . rename_i x ad;split at h
    . rename_i a1 a2 h1 ah;cases h;obtain⟨y,f1,g1⟩:=auR (N:=N) ix Ov h1;obtain⟨aiG,f2,ln,eh,hj⟩:=aEx ix Ov he ah;obtain⟨d,hg,hv⟩:=he k x ad;obtain⟨zv,m1,m2⟩:=g1 d hv;refine⟨(k,y)::aiG,λr=>by simp only[arw,SY,f1,f2],(k,true,zv)::ln,λi v ay=>?_,λi g v ay=>?_⟩
      . simp only[fz]at ay;simp only[look];split at ay
        . simp_all
        . rename_i al;rw[aJ (PC al)];exact eh i v ay
      . simp only[look]at ay
        grind
    . cases h
  . cases h
theorem atJ(ix:bs.Nodup)(Ov:Can bs J Jc){s:O2}{x:qJ U}{a:J4 U}(h:abw bs s x=some a):
 ∃y,(∀r,Rf s (a++r)=(some y,r))/\(∀d,P6 N J x d->∃zv,UB (d.hZ bs) zv/\P6 bs.length Jc y zv):=by
 unfold abw at h;split at h
 . obtain⟨ys,f,g⟩:=aua (N:=N) ix Ov h;refine⟨.box ys,λr=>by simp only[Rf,f],λd a7=>?_⟩;cases a7 with
   | box a7=>obtain⟨Jq,eh,hj⟩:=g _ a7;exact⟨.box Jq,.box eh,.box hj⟩
 . rename_i ty t Vi;split at h
   . rename_i l a6;cases h;have e:=Cell.VV a6;cases e;refine⟨.arr ty l,λr=>rfl,λd a7=>?_⟩;cases a7;exact⟨_,.arr,.arr ty l⟩
   . cases h
 . rename_i ty sz r;split at h
   . rename_i l h6 a6;cases h;have:=q4 h6;subst this;refine⟨.arr ty l,λr=>rfl,λd a7=>?_⟩;cases a7 with
     | rows h1 ah=>
      refine⟨_,.arr,?_⟩;rw[<-ah8 a6 h1];exact .arr ty l
   . cases h
 . rename_i n xs;split at h
   . rename_i x ad;cases h;refine⟨.box (((eb.nm n).row U x).map .t),λr=>rfl,λd a7=>?_⟩;cases a7 with
     | box a7=>obtain⟨Jq,eh,hj⟩:=aF7 ad _ a7;exact⟨.box Jq,.box eh,.box hj⟩
   . cases h
 . cases h;refine⟨.set _,λr=>rfl,λd a7=>?_⟩;cases a7;exact⟨_,.same,.set _⟩
 . split at h
   . rename_i J7;have:=q4 J7;subst this;cases h;refine⟨.buf _ _,λr=>rfl,λd a7=>?_⟩;cases a7;exact⟨_,.same,.buf _ _⟩
   . cases h
 . split at h
   . rename_i J7;have:=q4 J7;subst this;obtain⟨y,f,g⟩:=atI (N:=N) ix Ov h;refine⟨.kn _ y,λr=>by simp only[Rf,f];rfl,λd a7=>?_⟩;cases a7 with
     | kn a7=>obtain⟨zv,eh,hj⟩:=g _ a7;exact⟨.kn _ zv,.kn eh,.kn hj⟩
   . cases h
 . cases h
theorem aDq{t:eb}:∀{r:List (List (hn U))} {l:List (t.den U.D)},Ym U t r=some l->l.length=r.length
 | [],l,h=>by simp[Ym]at h;subst h;rfl
 | r::rs,l,h=>by
  simp only[Ym]at h;split at h
  . rename_i x xs ad TM;cases h;simp[aDq TM]
  . cases h
theorem aVZ{s:O2}{x y:qJ U}{a r:J4 U}(h:abw bs s x=some a)(cJ:Rf s (a++r)=(some y,r)):∀p,y.xn=some p->x.xn=some p:=by
 unfold abw at h;split at h
 . intro p bo;simp only[Rf,hO,hQ]at cJ;rw[<-cJ.1]at bo;simp[qJ.xn]at bo
 . rename_i ty t Vi;split at h
   . rename_i l a6;cases h;have e:=Cell.VV a6;cases e;simp only[Rf,ab7,PX,hO,hQ,ab3]at cJ
     grind
   . cases h
 . rename_i ty sz I1;split at h
   . rename_i l h6 a6;cases h;have:=q4 h6;subst this;simp only[Rf,ab7,PX,hO,hQ,ab3]at cJ;rw[<-cJ];intro p bo;simp only[qJ.xn]at bo ⊢;rw[<-aDq a6];exact bo
   . cases h
 . rename_i n xs;split at h
   . rename_i x ad;cases h;intro p bo;simp only[Rf,ab7,PX,hO,hQ,ab3]at cJ;rw[<-cJ]at bo;simp[qJ.xn]at bo
   . cases h
 . cases h;simp only[Rf,ab7,PX,hO,hQ,ab3]at cJ
   grind
 . split at h
   . rename_i J7;have:=q4 J7;subst this;cases h;simp only[Rf,ab7,PX,hO,hQ,ab3]at cJ
     grind
   . cases h
 . split at h
   . intro p bo;simp only[Rf,hO,hQ]at cJ;rw[<-cJ.1]at bo;simp[qJ.xn]at bo
   . cases h
 . cases h
theorem aaV(ix:bs.Nodup):∀{ss:List O2} {j:Nat} {a:J4 U},SG bs J j ss=some a ->
 (∀i jb,fz (Oc j ss a) i=some jb->j<=i/\i < j+ss.length/\∃b x,bs[i]?=some b/\fz J b=some x/\∃s YJ,abw bs s x=some YJ/\∀r,Rf s (YJ++r)=(some jb,r))
 | [],j,a,h=>by intro i jb ay;simp[Oc,fz]at ay
 | .gone::ss,j,a,h=>by
  intro i jb ay;simp only[SG]at h;simp only[Oc,Rf]at ay;obtain⟨h1,ah,b'⟩:=aaV ix h i jb ay
  grind
 | .box l::ss,j,a,h=>ain ix (s:= .box l) (λ{j a}=>aaV ix (ss:=ss) (j:=j) (a:=a)) (by simpa only[SG]using h)
 | .arr l::ss,j,a,h=>ain ix (s:= .arr l) (λ{j a}=>aaV ix (ss:=ss) (j:=j) (a:=a)) (by simpa only[SG]using h)
 | .i' l::ss,j,a,h=>ain ix (s:= .i' l) (λ{j a}=>aaV ix (ss:=ss) (j:=j) (a:=a)) (by simpa only[SG]using h)
 | .set::ss,j,a,h=>ain ix (s:= .set) (λ{j a}=>aaV ix (ss:=ss) (j:=j) (a:=a)) (by simpa only[SG]using h)
 | .buf E::ss,j,a,h=>ain ix (s:= .buf E) (λ{j a}=>aaV ix (ss:=ss) (j:=j) (a:=a)) (by simpa only[SG]using h)
 | .kn E l::ss,j,a,h=>ain ix (s:= .kn E l) (λ{j a}=>aaV ix (ss:=ss) (j:=j) (a:=a)) (by simpa only[SG]using h)
where
 ain (ix:bs.Nodup) {s:O2} {ss:List O2} (ih:∀{j:Nat} {a:J4 U},SG bs J j ss=some a->
  (∀i jb,fz (Oc j ss a) i=some jb->j<=i/\i < j+ss.length/\∃b x,bs[i]?=some b/\fz J b=some x/\∃s YJ,abw bs s x=some YJ/\∀r,Rf s (YJ++r)=(some jb,r))) {j:Nat} {a:J4 U} (h:(match Z6 bs j with
  | some b=>match fz J b with
   | some x=>match abw bs s x,SG bs J (j+1) ss with
    | some a,some r=>some (a++r)
    | _,_=>none
   | none=>none
  | none=>none)=some a):(∀i jb,fz (Oc j (s::ss) a) i=some jb->j<=i/\i < j+(s::ss).length/\∃b x,bs[i]?=some b/\fz J b=some x/\∃s YJ,abw bs s x=some YJ/\∀r,Rf s (YJ++r)=(some jb,r)):=by
  intro i jb ay;split at h
  . rename_i b al;rw[alM]at al;split at h
    . rename_i x ad;split at h
      . rename_i a1 a2 h1 ah;cases h;obtain⟨y,f,_⟩:=atJ (N:=0) (J:=J) (Jc:=[]) ix (λ_ _ _ _ h=>by simp[fz]at h) h1;simp only[Oc,f,fz]at ay;split at ay
        . rename_i Xi;have:=q4 Xi;subst this;cases ay;exact⟨JK _,by simp,b,x,al,ad,s,a1,h1,f⟩
        . obtain⟨hg,hv,h3⟩:=ih ah i jb ay;exact⟨by omega,by simp;omega,h3⟩
      . cases h
    . cases h
  . cases h
def O6(U:pK)(hL:Shape)(a:J4 U):iy U×hc U:=
 match arw hL.env a with
 | (e,r)=>(e,Oc 0 hL.st r)
def auQ(bs:List Nat)(hL:Shape)(env:iy U)(J:hc U):Option (J4 U):=
 match ami bs env hL.env,SG bs J 0 hL.st with
 | some a,some b=>some (a++b)
 | _,_=>none
theorem alU(ix:bs.Nodup){ss:List O2}{b:J4 U}(al:SG bs J 0 ss=some b):Can bs J (Oc 0 ss b):=by
 intro j c jb c7 Ly;obtain⟨_,_,hq,x,h1,ah,s,YJ,b',ea⟩:=aaV ix al j jb Ly;rw[h1]at c7;cases c7;exact⟨x,ah,aVZ b' (ea [])⟩
theorem akG{J1:fu}:∀{r:List Nat} {i j c:Nat} {x:h2},r[j]?=some c->e1 J1 c=some x->e1 (MC bs J1 i r) (i+j)=some (x.hZ bs)
 | [],i,j,c,x,h,_=>by simp at h
 | b::r,i,0,c,x,h,ad=>by
  simp at h;subst h;simp only[MC,ad,e1,Yf,qb]
 | b::r,i,j+1,c,x,h,ad=>by
  simp only[MC];have:=akG (i:=i+1) (j:=j) (r:=r) (by simpa using h) ad;rw[show i+1+j=i+(j+1) by omega]at this;split
  . simp only[e1];rw[aJ (by omega)];exact this
  omega
theorem aq4(ix:bs.Nodup)(dx:pJ N J J1){ss:List O2}{b:J4 U}(al:SG bs J 0 ss=some b):
 ∃hy,afs (MC bs J1 0 bs) hy/\pJ bs.length (Oc 0 ss b) hy:=by
 have Ov:=alU ix al;have ad:=aaV ix al;generalize Oc 0 ss b=Jc at*
 have key:∀(l:hc U),(∀i jb,fz l i=some jb->fz Jc i=some jb)->∃hy:fu,(∀i x,e1 hy i=some x->∃y,e1 (MC bs J1 0 bs) i=some y/\UB y x)/\(∀i jb,fz l i=some jb->i < bs.length/\∃y,e1 hy i=some y/\P6 bs.length Jc jb y):=by
  intro l
  induction l with
  | nil=>intro _;exact⟨[],λi x h=>by simp[e1]at h,λi x h=>by simp[fz]at h⟩
  | cons p l ih=>
   obtain⟨i0,a'⟩:=p;intro a6
   have:∃hy:fu,(∀i x,e1 hy i=some x->∃y,e1 (MC bs J1 0 bs) i=some y/\UB y x)/\(∀i jb,i≠i0->fz l i=some jb->i < bs.length/\∃y,e1 hy i=some y/\P6 bs.length Jc jb y):=by
    have:=ih;have aux:∀(m:hc U),(∀i jb,i≠i0->fz m i=some jb->fz Jc i=some jb)->∃hy:fu,(∀i x,e1 hy i=some x->∃y,e1 (MC bs J1 0 bs) i=some y/\UB y x)/\(∀i jb,i≠i0->fz m i=some jb->i < bs.length/\∃y,e1 hy i=some y/\P6 bs.length Jc jb y):=by
     intro m hm;have a7:∀i jb,fz (dl m i0) i=some jb->fz Jc i=some jb:=by
      intro i jb h;rw[aaf]at h
      grind
     have build:∀n,∃hy:fu,(∀i x,e1 hy i=some x->∃y,e1 (MC bs J1 0 bs) i=some y/\UB y x)/\(∀i jb,i < n->fz (dl m i0) i=some jb->i < bs.length/\∃y,e1 hy i=some y/\P6 bs.length Jc jb y):=by
      intro n
      induction n with
      | zero=>exact⟨[],λi x h=>by simp[e1]at h,λi x h=>by omega⟩
      | succ n a0R=>
       obtain⟨s,h1,ah⟩:=a0R;cases dy:fz (dl m i0) n with
       | none => exact ⟨s, h1,λi jb ay L2 => ah i jb (by have : i ≠ n :=λe => by subst e; rw [dy] at L2; cases L2
                                                         omega) L2⟩
       | some aAf=>
        obtain⟨_,_,hq,x,g1,g2,a1Z,YJ,g3,g4⟩:=ad n aAf (a7 n aAf dy);obtain⟨_,y,hg,hv⟩:=dx hq x g2;obtain⟨z,f,q⟩:=atJ (N:=N) ix Ov g3;have:z=aAf:=by have:=(f []).symm.trans (g4 []);simpa using this
        subst this;obtain⟨P4,s4,qi⟩:=q y hv;have ht:=akG (bs:=bs) (i:=0) (j:=n) g1 hg;rw[NI]at ht;refine⟨vc s n P4,λi x ay=>?_,λi jb ay L2=>?_⟩
        . rw[q6]at ay
          grind
        . by_cases e:i=n
          . subst e;rw[dy]at L2;cases L2;exact⟨(sb.1 g1).1,P4,by rw[q6,ao rfl],qi⟩
          . obtain⟨kJ,z,oJ,aom⟩:=ah i jb (by omega) L2;exact⟨kJ,z,by rw[q6,aJ (λsK=>e sK.symm)];exact oJ,aom⟩
     obtain⟨s,h1,ah⟩:=build bs.length;refine⟨s,h1,λi jb hG L2=>?_⟩;have aJ2:fz (dl m i0) i=some jb:=by rw[aaf,aJ (λe=>hG e.symm)];exact L2
     grind
    exact aux l λi jb hG h=>a6 i jb (by
     simp only[fz];cases al:Nat.beq i0 i with
     | true=>exact absurd (q4 al).symm hG
     | false=>exact h)
   obtain⟨s,h1,ah⟩:=this;have MO:fz Jc i0=some a':=a6 i0 a' (by simp[fz,an7]);obtain⟨_,_,hq,x,g1,g2,a1Z,YJ,g3,g4⟩:=ad i0 a' MO;obtain⟨_,y,hg,hv⟩:=dx hq x g2;obtain⟨z,f,q⟩:=atJ (N:=N) ix Ov g3;have:z=a':=by have:=(f []).symm.trans (g4 []);simpa using this
   subst this;obtain⟨P4,s4,qi⟩:=q y hv;have ht:=akG (bs:=bs) (i:=0) (j:=i0) g1 hg;rw[NI]at ht;refine⟨vc s i0 P4,λi x ay=>?_,λi jb L2=>?_⟩
   . rw[q6]at ay
     grind
   . by_cases e:i=i0
     . subst e;simp[fz,an7]at L2;subst L2;exact⟨(sb.1 g1).1,P4,by rw[q6,ao rfl],qi⟩
     . have aJ2:fz l i=some jb:=by
        simp only[fz]at L2;cases al:Nat.beq i0 i with
        | true=>exact absurd (q4 al).symm e
        | false=>rw[al]at L2;exact L2
       obtain⟨kJ,z,oJ,aom⟩:=ah i jb e aJ2;exact⟨kJ,z,by rw[q6,aJ (λsK=>e sK.symm)];exact oJ,aom⟩
 obtain⟨s,h1,ah⟩:=key Jc λ_ _ h=>h
 exact⟨s,λi x ay=>h1 i x ay,λi jb L2=>ah i jb L2⟩
theorem aU5(ix:bs.Nodup)(hk:keeps kk bs=true)(he:r3 N J (λ_=>true) env env1)(dx:pJ N J J1){hL:Shape}{a:J4 U}(h:auQ bs hL env J=some a):
 ∃ln hy,Conv kk N env1 J1 bs.length ln hy/\r3 bs.length (O6 U hL a).2 (λ_=>true) (O6 U hL a).1 ln/\pJ bs.length (O6 U hL a).2 hy:=by
 unfold auQ at h;split at h
 . rename_i a1 b h1 ah;cases h;obtain⟨aiG,f,ln,eh,hj⟩:=aEx ix (alU ix ah) he h1;obtain⟨hy,s1,s2⟩:=aq4 ix dx ah;have cJ:O6 U hL (a1++b)=(aiG,Oc 0 hL.st b):=by simp only[O6,f]
   rw[cJ];refine⟨ln,hy,(Conv.tidy (hL.env.map Prod.fst) bs ix hk).trans (Conv.weaken (λk g Lr a6=>?_) s1),eh,s2⟩;obtain⟨hm,v,cv,hs⟩:=hj k g Lr a6;exact⟨_,atQ hm cv,hs⟩
 . cases h
end
end
section
open Go
variable {U:pK}
def Ls(D:Nat->Type):eb->List eb->Type
 | t,[]=>t.den D
 | t,u::r=>t.den D×Ls D u r
def ey(D:Nat->Type):List eb->Type
 | []=>Unit
 | t::r=>Ls D t r
def Ls.cells(D:Nat->Type):(t:eb)->(ts:List eb)->Ls D t ts->List (Cell D)
 | t,[],x=>[⟨t,x⟩]
 | t,u::r,x=>⟨t,x.1⟩::Ls.cells D u r x.2
def ey.cells(D:Nat->Type):(ts:List eb)->ey D ts->List (Cell D)
 | [],_=>[]
 | t::r,x=>Ls.cells D t r x
def ayI{α:Type}:List α->Option α
 | [c]=>some c
 | _=>none
def aiL{α:Type}:List α->Option (α×List α)
 | []=>none
 | c::r=>some (c,r)
def Ls.dec(D:Nat->Type):(t:eb)->(ts:List eb)->List (Cell D)->Option (Ls D t ts)
 | t,[],l=>match ayI l with
  | some c=>c.as t
  | none=>none
 | t,u::r,l=>match aiL l with
  | some p=>match p.1.as t with
   | some x=>match Ls.dec D u r p.2 with
    | some y=>some (x,y)
    | none=>none
   | none=>none
  | none=>none
def ey.dec(D:Nat->Type):(ts:List eb)->List (Cell D)->Option (ey D ts)
 | [],l=>match l with
  | []=>some ()
  | _=>none
 | t::r,l=>Ls.dec D t r l
theorem aUb{α:Type}{l:List α}{c:α}(h:ayI l=some c):l=[c]:=by
 unfold ayI at h;split at h
 . cases h;rfl
 . cases h
theorem aV0{α:Type}{l:List α}{c:α×List α}(h:aiL l=some c):l=c.1::c.2:=by
 unfold aiL at h;split at h
 . cases h
 grind
theorem Ls.MJ{D:Nat->Type}:∀{ts:List eb} {t:eb} {a:List (Cell D)} {h:Ls D t ts},Ls.dec D t ts a=some h->Ls.cells D t ts h=a
 | [],t,a,h,e=>by
  unfold Ls.dec at e;split at e
  . rename_i c b7;rw[aUb b7,Cell.VV (t:=t) (x:=h) e];rfl
  . cases e
 | u::r,t,a,h,e=>by
  unfold Ls.dec at e;split at e
  . rename_i p bo;split at e
    . rename_i x ad;split at e
      . rename_i y bJ;cases e;have:=Ls.MJ bJ;show⟨t,x⟩::Ls.cells D u r y=a;rw[this,aV0 bo,<-Cell.VV ad]
      . cases e
    . cases e
  . cases e
theorem ey.MJ{D:Nat->Type}:∀{ts:List eb} {a:List (Cell D)} {h:ey D ts},ey.dec D ts a=some h->ey.cells D ts h=a
 | [],[],h,e=>rfl
 | [],_::_,h,e=>by cases (show(none:Option Unit)=some h from e)
 | t::r,a,h,e=>Ls.MJ e
def Ls.U3(U:pK):(t:eb)->(ts:List eb)->Ls U.D t ts
 | t,[]=>t.U3 U
 | t,u::r=>(t.U3 U,Ls.U3 U u r)
def ey.U3(U:pK):(ts:List eb)->ey U.D ts
 | []=>()
 | t::r=>Ls.U3 U t r
abbrev UN :=List (Nat×Nat)×List (Nat×eb)
def azI :WW->hn U->UN->UN
 | .ptr j _,.ptr b _,s=>((j,b)::s.1,s.2)
 | .pr j _ _,.pr b _ _ _,s=>((j,b)::s.1,s.2)
 | .arr j,.arr b,s=>((j,b)::s.1,s.2)
 | .mp j,.mp b,s=>((j,b)::s.1,s.2)
 | .pq j,.pq b,s=>((j,b)::s.1,s.2)
 | .fn _ Xl,.fn _ cs,s=>(Xl.zip cs++s.1,s.2)
 | .hole (.slice t),.arr b,s=>(s.1,(b,t)::s.2)
 | _,_,s=>s
def azJ :List WW->List (hn U)->UN->UN
 | a::as,x::xs,s=>azJ as xs (azI a x s)
 | _,_,s=>s
def asU :List eb->List (hn U)->UN->UN
 | .slice t::ts,.arr b::xs,s=>asU ts xs (s.1,(b,t)::s.2)
 | _::ts,_::xs,s=>asU ts xs s
 | _,_,s=>s
mutual
def azL :NC->hM U->UN->UN
 | .c a,.c x,s=>azI a x s
 | .agg l,.agg xs,s=>azJ l xs s
 | .row n,.agg xs,s=>asU (U.vi n) xs s
 | .gJ l,.gJ xs,s=>asV l xs s
 | _,_,s=>s
def asV :List NC->List (hM U)->UN->UN
 | a::as,x::xs,s=>asV as xs (azL a x s)
 | _,_,s=>s
end
def azK(env:iy U):List (Nat×NC)->UN->UN
 | [],s=>s
 | (k,a)::r,s=>match fz env k with
  | some x=>azK env r (azL a x s)
  | none=>azK env r s
def a10 :O2->qJ U->UN->UN
 | .box l,.box xs,s=>azJ l xs s
 | .i' n,.box xs,s=>asU (U.vi n) xs s
 | .kn _ a,.kn _ x,s=>azI a x s
 | _,_,s=>s
def ajB(J:hc U)(kk:Nat):Nat->List O2->UN->List Nat->List Nat×List (Nat×eb)
 | _,[],s,acc=>(acc.reverse,s.2)
 | j,a::r,s,acc=>
  let b:=match fz s.1 j with
   | some b=>b
   | none=>match Nat.ble (j+1) kk with
    | true=>j
    | false=>1000000+j
  match fz J b with
  | some x=>ajB J kk (j+1) r (a10 a x s) (b::acc)
  | none=>ajB J kk (j+1) r s (b::acc)
def ae3 :List Nat->Bool
 | []=>true
 | a::l=>(l.all λb=>!(Nat.beq a b)) && ae3 l
theorem akH :∀{l:List Nat},ae3 l=true->l.Nodup
 | [],_=>ajj
 | a::l,h=>by
  simp only[ae3,k0,r0,ab6]at h;refine List.nodup_cons.2 ⟨λhm=>?_,akH h.2⟩;have b':=h.1 a hm;simp_all
def ael(kk:Nat)(own:List (Pos×eb))(hL:Shape)(ts:List eb)(env:iy U)(J:hc U)(N:Nat):Option (ey U.D ts):=
 match aoZ own env J N with
 | none=>none
 | some (env,J,_)=>match axc env J with
  | none=>none
  | some (env,J)=>match ajB J kk 0 hL.st (azK env hL.env ([],[])) []with
   | (bs,Ri)=>match Wu Ri env J with
    | none=>none
    | some (env,J)=>match ae3 bs && (keeps kk bs && Nat.beq bs.length hL.st.length)with
     | false=>none
     | true=>match auQ bs hL env J with
      | none=>none
      | some a=>ey.dec U.D ts a
section
variable {kk N:Nat} {J:hc U} {J1:fu} {env:iy U} {env1:Env}
theorem apN{own:List (Pos×eb)}{hL:Shape}{ts:List eb}{h:ey U.D ts}(ad:ael kk own hL ts env J N=some h)(he:r3 N J (λ_=>true) env env1)(dx:pJ N J J1)(k6:kk <=N):
 ∃ln hy,Conv kk N env1 J1 hL.st.length ln hy/\r3 hL.st.length (O6 U hL (ey.cells U.D ts h)).2 (λ_=>true) (O6 U hL (ey.cells U.D ts h)).1 ln/\pJ hL.st.length (O6 U hL (ey.cells U.D ts h)).2 hy/\kk<=hL.st.length:=by
 unfold ael at ad;split at ad
 . cases ad
 . rename_i aOI J2 VD h1;obtain⟨u1,ad7,MH,Rn,aZd,lo⟩:=aEv h1 he dx k6;split at ad
   . cases ad
   rename_i a3e a2X aJK;obtain⟨eh,s1,aNk,aZG,axB⟩:=aSU (kk:=kk) aJK Rn aZd;have hN:=MH.trans aNk;split at ad;rename_i bs Ri _;split at ad
   . cases ad
   . rename_i a3f Xz ah;obtain⟨hj,s2,hR,aZH,amS,_⟩:=akq (kk:=kk) (gl:=[]) ah aZG axB;split at ad
     . cases ad
     . rename_i al;simp only[k0]at al;obtain⟨Nn,ML,afW⟩:=al;have hlen:=q4 afW;split at ad
       . cases ad
       . rename_i a ch;obtain⟨I2,Wm,px,aZI,aZe⟩:=aU5 (akH Nn) ML aZH amS ch;rw[ey.MJ ad,<-hlen];refine⟨I2,Wm,hN.trans (hR.trans px),aZI,aZe,?_⟩
         by_cases O':kk=0
         . omega
         . have C3:(bs[kk - 1]?==some (kk - 1))=true:=by
            unfold keeps at ML
            grind
           have ea:bs[kk - 1]?=some (kk - 1):=by simpa using C3
           have:=(sb.1 ea).1;omega
end
structure pv (U:pK) where
 f:Nat
 Pl:List NC
 st:List O2
 ts:List eb
 K9:NC
 JZ:List O2
 us:List eb
 F:ey U.D ts->Option (ey U.D us)
def pv.args(s:pv U)(h:ey U.D s.ts):List (hM U):=(V5 s.Pl (ey.cells U.D s.ts h)).1
def pv.Q8(s:pv U)(h:ey U.D s.ts):hc U:=Oc 0 s.st (V5 s.Pl (ey.cells U.D s.ts h)).2
def pv.res(s:pv U)(r:ey U.D s.us):hM U:=(V4 s.K9 (ey.cells U.D s.us r)).1
def pv.rest(s:pv U)(r:ey U.D s.us):hc U:=Oc 0 s.JZ (V4 s.K9 (ey.cells U.D s.us r)).2
def P7(P:Program)(s:pv U):Prop:=
 ∀h r,s.F h=some r->∀XU J1,f' (km s.st.length (s.Q8 h)) (s.args h) XU->pJ s.st.length (s.Q8 h) J1->
  Ju P s.f XU J1 s.st.length (λkJ hy N'=>N'=s.JZ.length/\km N' (s.rest r) (s.res r) kJ/\pJ N' (s.rest r) hy)
def hn.aau :hn U->Bool
 | .t _ | .IJ .. | .ee | .Ln | .Lm=>true
 | .fn _ []=>true
 | _=>false
def MX :hM U->Bool
 | .c x=>x.aau
 | .agg cs=>cs.all hn.aau
 | .gJ vs=>go vs
where go:List (hM U)->Bool
 | []=>true
 | v::vs=>MX v && go vs
def hn.abx :hn U->C
 | .t c=>.t (c.enc U)
 | .IJ ty x o=>.IJ (ty.enc U x) o
 | .ee=>.ee
 | .Ln=>.Ln
 | .Lm=>.Lm
 | .fn f caps=>.fn f caps
 | _=>.dead
def Lt :hM U->V
 | .c x=>.c x.abx
 | .agg cs=>.agg (cs.map hn.abx)
 | .gJ vs=>.gJ (go vs)
where go:List (hM U)->List V
 | []=>[]
 | v::vs=>Lt v::go vs
theorem alN{N:Nat}{J:hc U}{x:hn U}(h:x.aau=true):k5 N J x x.abx/\(∀d,k5 N J x d->d=x.abx)/\∀n,x.abx.c' n=true:=by
 cases x <;> simp[hn.aau]at h
 . exact⟨.t _,λd a7=>by cases a7;rfl,λ_=>rfl⟩
 . exact⟨.IJ _ _ _,λd a7=>by cases a7;rfl,λ_=>rfl⟩
 . exact⟨.ee,λd a7=>by cases a7;rfl,λ_=>rfl⟩
 . exact⟨.Ln,λd a7=>by cases a7;rfl,λ_=>rfl⟩
 . exact⟨.Lm,λd a7=>by cases a7;rfl,λ_=>rfl⟩
 . rename_i f caps;cases caps with
   | nil=>exact⟨.fn _ _,λd a7=>by cases a7;rfl,λ_=>rfl⟩
   | cons=>simp[hn.aau]at h
theorem aub :∀{vs:List (hM U)} {i:Nat},(Lt.go vs)[i]?=(vs[i]?).map Lt
 | [],i=>by simp[Lt.go]
 | v::vs,0=>by simp[Lt.go]
 | v::vs,i+1=>by simp[Lt.go,aub]
theorem aDZ :∀{vs:List (hM U)},(Lt.go vs).length=vs.length
 | []=>rfl
 | v::vs=>by simp[Lt.go,aDZ]
theorem aDA :∀{vs:List (hM U)} {i:Nat} {v:hM U},MX.go vs=true->vs[i]?=some v->MX v=true
 | [],i,v,_,h=>by simp at h
 | x::vs,0,v,hs,h=>by simp[MX.go]at hs;simp at h;subst h;exact hs.1
 | x::vs,i+1,v,hs,h=>by simp[MX.go]at hs;exact aDA hs.2 (by simpa using h)
theorem aux{N:Nat}{J:hc U}:∀(cs:List (hn U)),(∀x,x∈cs->x.aau=true)->f' (k5 N J) cs (cs.map hn.abx)
 | [],_=>.nil
 | a::l,h=>.cons (alN (h a (by simp))).1 (aux l λx ad=>h x (by simp[ad]))
theorem ah'{N:Nat}{J:hc U}:∀{x:hM U},MX x=true->km N J x (Lt x)/\∀n,(Lt x).c' n=true
 | .c x,h=>by
  simp only[MX]at h;obtain⟨h1,_,b'⟩:=alN (N:=N) (J:=J) h;exact⟨.c h1,λn=>b' n⟩
 | .agg cs,h=>by
  simp only[MX,r0]at h;refine⟨.agg ?_,λn=>?_⟩
  . exact aux cs h
  . simp only[Lt,V.c',Zh,r0];intro c b7;exact(alN (N:=N) (J:=J) (h c b7)).2.2 n
 | .gJ vs,h=>by
  simp only[MX]at h;have:=go (N:=N) (J:=J) vs h;refine⟨.gJ _ _ (by rw[aDZ]) λi x d ad a7=>?_,λn=>?_⟩
  . rw[aub,ad]at a7
    grind
  . simp only[Lt,V.c'];exact this.2 n
where go {N:Nat} {J:hc U}:∀(vs:List (hM U)),MX.go vs=true->(∀x,x∈vs->km N J x (Lt x))/\∀n,V.c'.V.Is n (Lt.go vs)=true
 | [],_=>⟨by simp,λ_=>rfl⟩
 | v::vs,h=>by
  simp only[MX.go,k0]at h;obtain⟨h1,ah⟩:=ah' (N:=N) (J:=J) h.1;obtain⟨b',ea⟩:=go (N:=N) (J:=J) vs h.2;refine⟨λx ad=>?_,λn=>by simp only[Lt.go,V.c'.V.Is,k0];exact⟨ah n,ea n⟩⟩;rcases LJ.1 ad with rfl | ad
  . exact h1
  . exact b' x ad
theorem alO{N:Nat}{J:hc U}{x:hM U}{d:V}(h:km N J x d):MX x=true->d=Lt x:=by
 induction h with
 | c h=>intro hs;simp only[MX]at hs;rw[(alN (N:=N) (J:=J) hs).2.1 _ h];rfl
 | @agg xs ds h=>
  intro hs;simp only[MX,r0]at hs;simp only[Lt]
  congr 1
  induction h with
  | nil=>rfl
  | cons h1 ah ih=>rw[QX,<-(alN (N:=N) (J:=J) (hs _ (by simp))).2.1 _ h1,<-ih (λx ad=>hs x (by simp[ad]))]
 | gJ xs ds a6 h ih=>
  intro hs;simp only[MX]at hs;simp only[Lt]
  congr 1
  apply an0;intro i;rw[aub];cases ad:xs[i]? with
  | none=>grind
  | some x=>
   have ay:=(sb.1 ad).1;have a7:=J9 (l:=ds) (i:=i) (by omega);rw[a7,Oh]
   congr 1
   exact ih i x _ ad a7 (aDA hs ad)
end
section
open Go
variable {U:pK}
section
variable {P:Program} {nt kk key N N':Nat} {env:Env} {J J':fu} {Q ZX:Exit->Env->fu->Nat->Prop}
def aIF(P:Program)(f:Nat)(args:List V)(J:fu)(key:Nat)(env:Env)(K:V->fu->Prop):Prop:=
 ∀c9 nt φ S a w,Rel c9 nt φ S env J (lt key) a w->V.c'.V.Is (lt key) args=true->∀vs:List Value,f' (k' φ w S) args vs->
  Calls P f vs.toArray w λe w'=>∃v r hK ik J',e= .returned v/\K r J'/\k' hK w' ik r v/\r.c' (JI (lt key) key)=true/\Rel c9 nt hK ik env J' (JI (lt key) key) a w'
def aXD(P:Program)(o:kx)(env:Env)(f:Nat)(vs:List V):Prop:=
 (∃args p,o.op= .call f args/\O7 env args=some (p,vs)/\p)\/
 (∃x args q p caps Xy,o.op= .Re x args/\x.get env=some (q,.c (.fn f caps))/\q/\O7 env args=some (p,Xy)/\p/\PE P f=true/\vs=Xy++caps.map λb=>V.c (.ptr b 0))
def aip(P:Program)(o:kx)(key:Nat)(env:Env)(J:fu)(K:Env->fu->Prop):Prop:=
 O4 P o key env J K\/(Nc env o.guard=some true/\∃f vs,aXD P o env f vs/\aIF P f vs J key env λr J'=>K (JB env o.dst true r) J')
def ac7(P:Program)(kk:Nat):List kx->Nat->Env->fu->(Env->fu->Prop)->Prop
 | [],_,env,J,K=>K env J
 | o::r,key,env,J,K=>∃Nk ki,Conv kk key env J key Nk ki/\aip P o key Nk ki λe s=>ac7 P kk r (key+16) e s K
theorem aDr{c9:Ctx}{φ:vt}{S:y0}{a:Act}{w:World}(R:Rel c9 nt φ S env J (lt key) a w){ops:Array Oper}{o:Oper}{tw:kx}(ar:ahm P nt ops o=some tw){K:Env -> fu -> Prop}(h:aip P tw key env J K){Q:Exit -> Act -> World -> Prop}:
 if Region.wanted o (yielded ops a.tmps)then o.wp P a w (UL c9 nt (JI (lt key) key) K) Q else UL c9 nt (JI (lt key) key) K (a.put o.dst undef) w:=by
 rcases h with h | ⟨b9,f,vs,axP,vJ⟩
 . exact apt R (λb h1 _=>awb h1) ar h
 . obtain⟨h1,ah,b',ea⟩:=aDg ar;have hw:=aDP R ah b9;rw[hw];simp only[qb];rcases axP with⟨args,p,s0,LR,bo⟩ | ⟨x,args,q,p,caps,Xy,s0,k3,eg,LR,bo,al,rfl⟩
   . rw[s0]at h1;obtain⟨c,V6,aiV⟩:=aC9 (ak3 h1 (by simp));obtain⟨adw,al,PO⟩:=aC' aiV;have C':=aq1 (P:=P) (w:=w) (a:=a) V6 adw (f:=f) (caps:=[]) rfl al;simp only[aam]at C';obtain⟨g1,g2⟩:=acP R PO LR bo;exact Calls.next b' ea rfl (λ_ _ h=>h) (vJ c9 nt φ S a w R g2 _ g1) C'
   . rw[s0]at h1;obtain⟨c,V6,aiV⟩:=aC2 (ak3 h1 (by simp));obtain⟨t,rfl,adw,PO⟩:=aC3 aiV;obtain⟨g1,g2⟩:=acP R PO LR bo;have ad:=ni (x:= .tmp t) R rfl k3 eg;have anD:a.eval (.tmp t)= .func (.func f) #[] (caps.map λb=>Value.pointer (some ⟨(φ b).1,0,none⟩)).toArray:=ad.1.Ji
     have axQ:f' (k' φ w S) (caps.map λb=>V.c (.ptr b 0)) (caps.map λb=>Value.pointer (some ⟨(φ b).1,0,none⟩)):=by
      refine f'.Xp (by simp) ?_;intro i v x h1 ah;simp only[aai,gC]at h1 ah;obtain⟨b,Nn,rfl⟩:=h1;obtain⟨hq,ML,rfl⟩:=ah;rw[Nn]at ML;cases ML;exact .c rfl
     have NW:V.c'.V.Is (lt key) (Xy++caps.map λb=>V.c (.ptr b 0))=true:=by
      refine aeu ?_;intro i v cv;by_cases ay:i < Xy.length
      . rw[aag ay]at cv;exact ZL g2 cv
      . rw[adU (by omega)]at cv;simp only[aai,gC]at cv;obtain⟨b,Nn,rfl⟩:=cv;have ai:=ad.2;simp only[V.c',C.c',r0]at ai ⊢
        grind
     exact Calls.next b' ea rfl (λ_ _ h=>h) (vJ c9 nt φ S a w R NW _ (g1.append axQ)) (aq1 V6 adw anD al)
theorem aEy{c9:Ctx}(k6:c9.k=kk){ops:Array Oper}{Q:Exit -> Act -> World -> Prop}{K:Env -> fu -> Nat -> Prop}:∀{l:List Oper} {fJ:List kx} {k N:Nat} {env:Env} {J:fu} {φ:vt} {S:y0} {a:Act} {w:World},To P nt ops l=some fJ -> (∀i:Nat,i < l.length -> l[i]?=ops[k+i]?) ->
 Rel c9 nt φ S env J (lt N) a w->ac7 P kk fJ N env J (λe s=>K e s (N+16*fJ.length))->(∀φ S e s N a w,K e s N->Rel c9 nt φ S e s (lt N) a w->Q .normal a w)->wpOps P ops Q (List.range' k l.length) a w
 | [],fJ,k,N,env,J,φ,S,a,w,ar,ay,R,h,Jb=>by
  simp[To]at ar;subst ar;simp only[Qo,List.range'_zero,wpOps];exact Jb _ _ _ _ _ _ _ h R
 | o::l,fJ,k,N,env,J,φ,S,a,w,ar,ay,R,h,Jb=>by
  simp only[To,hC,gC]at ar;obtain⟨tw,TE,ZZ,amW,rfl⟩:=ar;have c8:ops[k]?=some o:=by have:=ay 0 (by simp);simpa using this.symm
  rw[Pg,ay7,wpOps_cons];unfold wpOp;rw[c8];simp only;obtain⟨Nk,ki,am1,QR⟩:=h;obtain⟨acj,atq,aj7⟩:=am1 c9 nt φ S a w k6 R;have hs:=aDr aj7 TE (K:=λe s=>ac7 P kk ZZ (N+16) e s λe s=>K e s (N+16*(ZZ.length+1))) (by omega) (Q:=Q)
  have next:∀q' w',UL c9 nt (JI (lt N) N) (λe s=>ac7 P kk ZZ (N+16) e s λe s=>K e s (N+16*(ZZ.length+1))) q' w'->wpOps P ops Q (List.range' (k+1) l.length) q' w':=by
   rintro q' w' ⟨hK,ik,e,s,qs,R'⟩
   refine aEy k6 (k:=k+1) (N:=N+16) amW (λi ec=>?_) (R'.more λ_ h=>av' h) (K:=K) ?_ Jb
   . have:=ay (i+1) (by simp;omega)
     grind
   grind
  split at hs
  . rename_i hw;rw[ao hw];exact .inl (Oper.wp_mono next hs)
  grind
theorem l'.a1Q{fJ:List kx}(h:ac7 P kk fJ N env J (λe s=>Q .normal e s (N+16*fJ.length))):l' P nt kk (.region fJ) env J N Q:=by
 intro code b7 c9 φ S a w k6 R;obtain⟨id,ops,rfl,ar⟩:=aDX b7;refine wp_region ?_;have:=aEy (P:=P) k6 (ops:=ops) (K:=λe s N=>Q .normal e s N) (Q:=λe q' w'=>∃hK ik env' J' N',Q e env' J' N'/\Rel c9 nt hK ik env' J' (lt N') q' w') (k:=0) ar (λi ay=>by simp) R h
  (λφ S e s N a w qs JG=>⟨φ,S,e,s,N,qs,JG⟩)
 rw[List.range_eq_range'];omega
theorem Ju.conv{f k:Nat}{args aAJ:List V}{Q:V->fu->Nat->Prop}(ch:f' NT args aAJ)(hs:afs J J')(h:Ju P f aAJ J' k Q):Ju P f args J k Q:=by
 intro φ S w B Og Jd Y7 JC vs Jl;refine h φ S w B ⟨λb x ad=>?_,λb hq x y ad bJ=>?_,Og.st⟩ (λb x ad=>?_) (λb x ad=>?_) ?_ vs ?_
 . obtain⟨a',h1,ah⟩:=hs b x ad;exact ah.azB (Og.blk b a' h1)
 . obtain⟨a',h1,ah⟩:=hs b x ad;obtain⟨Vz,hg,hv⟩:=hs hq y bJ;exact Og.inj b hq a' Vz h1 hg
 . obtain⟨a',h1,ah⟩:=hs b x ad;exact⟨(Jd b a' h1).1,ah.c' _ (Jd b a' h1).2⟩
 . obtain⟨a',h1,ah⟩:=hs b x ad;exact Y7 b a' h1
 . refine aeu λi v cv=>?_
   obtain⟨v0,h1,ah⟩:=(ch.flip (R':=λb a=>NT a b) λ_ _ h=>h).get cv;exact ah.c' _ (ZL JC h1)
 . exact f'.comp (λa b c h1 ah=>h1.aas ah) (ch.flip (R':=λb a=>NT a b) λ_ _ h=>h) Jl
theorem Ju.mono{f k:Nat}{args:List V}{Q ZX:V->fu->Nat->Prop}(h:Ju P f args J k Q)(eg:∀r s n,Q r s n->ZX r s n):Ju P f args J k ZX:=by
 intro φ S w B h1 ah b' ea vs hf;refine(h φ S w B h1 ah b' ea vs hf).mono ?_
 grind
theorem Ju.tidy {f k:Nat} {args:List V} {J:fu} {Q ZX:V -> fu -> Nat -> Prop} (h:Ju P f args J k Q)
 (eg:∀r J' N',Q r J' N'->∃bs oJ J2,bs.Nodup/\keeps k bs=true/\NT (r.hZ bs) oJ/\afs (MC bs J' 0 bs) J2/\ZX oJ J2 bs.length):Ju P f args J k ZX:=by
 intro φ S w B h1 ah b' ea vs hf;refine(h φ S w B h1 ah b' ea vs hf).mono ?_
 rintro e w' ⟨v,r,hK,ik,J',N',he,Jb,hg,hv,h3,oo,u2,s3,Ns⟩
 obtain⟨bs,oJ,J2,ix,aZY,ar,hs,aY8⟩:=eg r J' N' Jb;have arP:∀i:Nat,i < k->bs[i]?=some i:=by
  intro i ay;unfold keeps at aZY
  grind
 let Pq:vt:=λi=>hK ((bs[i]?).getD 0)
 have ai8:∀(i:Nat) b,bs[i]?=some b->Pq i=hK b:=by intro i b h;simp[Pq,h]
 have ant:∀b x,e1 (MC bs J' 0 bs) b=some x->∃c a',bs[b]?=some c/\e1 J' c=some a'/\x=a'.hZ bs:=by
  intro b x ad;obtain⟨j,c,a',rfl,ah,b',rfl⟩:=aaK ad
  grind
 have a0p:∀(a':h2),(a'.hZ bs).c' (lt bs.length)=true:=by
  intro a';cases a' with
  | box cs=>simp only[h2.hZ,h2.c',Zh,r0];intro c _;exact C.Uy c
  | arr sz es=>rfl
  | set ks=>rfl
  | buf E s=>rfl
  | kn E c=>exact C.Uy c
  | nJ sz es i o c=>exact C.Uy c
 refine⟨v,oJ,Pq,ik,J2,bs.length,he,aY8,ar.aas (k'.hZ ai8 hg),ar.c' _ (V.Uy r),⟨λb x ad=>?_,λb hq x y ad bJ hG h0 Jj=>?_,h3.st⟩,λb x ad=>?_,u2,λb x ad h0=>?_,λb al=>?_⟩
 . obtain⟨y,bJ,al⟩:=hs b x ad;obtain⟨c,a',eh,hj,rfl⟩:=ant b y bJ;exact al.azB (r2.hZ ai8 eh (h3.blk c a' hj))
 . obtain⟨ata,anF,_⟩:=hs b x ad;obtain⟨aAk,anG,_⟩:=hs hq y bJ;obtain⟨c,a',eh,hj,_⟩:=ant b ata anF;obtain⟨C4,TR,f1,f2,_⟩:=ant hq aAk anG;rw[ai8 b c eh]at h0 ⊢;rw[ai8 hq C4 f1]at Jj ⊢;refine h3.inj c C4 a' TR hj f2 ?_ h0 Jj;intro e;subst e;have:=YG ix eh;rw[YG ix f1]at this;cases this;exact hG rfl
 . obtain⟨y,bJ,al⟩:=hs b x ad;obtain⟨c,a',eh,hj,rfl⟩:=ant b y bJ;exact⟨(sb.1 eh).1,al.c' _ (a0p a')⟩
 . obtain⟨y,bJ,al⟩:=hs b x ad;obtain⟨c,a',eh,hj,rfl⟩:=ant b y bJ;rw[ai8 b c eh]at h0 ⊢;exact s3 c a' hj h0
 . rw[ai8 b b (arP b al)];exact Ns b al
end
def hn.kp(f:Nat->Nat):hn U->hn U
 | .ptr b o=>.ptr (f b) o
 | .pr b ty i o=>.pr (f b) ty i o
 | .arr b=>.arr (f b)
 | .sub b hi len=>.sub (f b) hi len
 | .pre b h=>.pre (f b) h
 | .DJ b hi len=>.DJ (f b) hi len
 | .mp b=>.mp (f b)
 | .Jx b=>.Jx (f b)
 | .pq b=>.pq (f b)
 | .fn g caps=>.fn g (caps.map f)
 | x=>x
def hM.kp(f:Nat->Nat):hM U->hM U
 | .c x=>.c (x.kp f)
 | .agg cs=>.agg (cs.map (hn.kp f))
 | .gJ vs=>.gJ (go f vs)
where go (f:Nat->Nat):List (hM U)->List (hM U)
 | []=>[]
 | v::vs=>v.kp f::go f vs
def qJ.kp(f:Nat->Nat):qJ U->qJ U
 | .box cs=>.box (cs.map (hn.kp f))
 | .arr ty l=>.arr ty l
 | .rows sz r=>.rows sz r
 | .set ks=>.set ks
 | .buf E s=>.buf E s
 | .kn E c=>.kn E (c.kp f)
 | .nJ t l i o c=>.nJ t l i o (c.kp f)
def aoU(J:hc U):List Nat->hc U
 | []=>J
 | b::r=>dl (aoU J r) b
def Zt(J:hc U)(bs:List Nat)(f:Nat->Nat):hc U->hc U
 | []=>aoU J bs
 | (b,x)::r=>o1 (Zt J bs f r) (f b) (x.kp f)
def aav(J Jr:hc U):Nat->List Nat->Option Bool
 | _,[]=>some true
 | i,b::r=>match fz Jr i with
  | none=>aav J Jr (i+1) r
  | some jb=>match fz J b with
   | none=>none
   | some x=>match jb.xn with
    | none=>aav J Jr (i+1) r
    | some asA=>match x.xn with
     | none=>none
     | some p=>match Nat.beq asA.1 p.1,aav J Jr (i+1) r with
      | true,some c=>some (decide (asA.2=p.2) && c)
      | _,_=>none
section
variable {key N':Nat} {J Jr:hc U} {J1 aAu:fu} {bs:List Nat}
theorem aGV :∀{bs:List Nat} {b:Nat},fz (aoU J bs) b=if b∈bs then none else fz J b
 | [],b=>by simp[aoU]
 | c::r,b=>by
  simp only[aoU,aaf,aGV (bs:=r)]
  grind
theorem afe{f:Nat->Nat}:∀{ki:hc U} {c:Nat} {x:qJ U},fz (Zt J bs f ki) c=some x->(∃b a',c=f b/\fz ki b=some a'/\x=a'.kp f)\/(c ∉ bs/\fz J c=some x)
 | [],c,x,h=>by
  simp only[Zt,aGV]at h
  grind
 | (b,y)::r,c,x,h=>by
  simp only[Zt,PV]at h;split at h
  . rename_i al;cases h;exact .inl ⟨b,y,al.symm,by simp[fz,an7],rfl⟩
  . rename_i al;rcases afe h with⟨hq,a',h1,ah,b'⟩ | h
    . refine .inl ⟨hq,a',h1,?_,b'⟩;simp only[fz];cases Rm:Nat.beq b hq with
      | true=>exact absurd (by rw[q4 Rm];exact h1.symm) al
      | false=>exact ah
    grind
theorem akv(ix:bs.Nodup)(ec:∀b,b∈bs->b < key){i j:Nat}(h:back bs key i=back bs key j):i=j:=by
 unfold back at h;cases ay:bs[i]? with
 | some b=>
  rw[ay]at h;have aJH:=ec b (JX ay);cases c7:bs[j]? with
  | some c=>
   rw[c7]at h;simp at h;subst h;have:=YG ix ay;rw[YG ix c7]at this
   grind
  | none=>rw[c7]at h;simp at h;omega
 | none=>
  rw[ay]at h;have OK:=agw.1 ay;cases c7:bs[j]? with
  | some c=>
   rw[c7]at h;have aJH:=ec c (JX c7)
   grind
  | none=>grind
theorem aDB{f:Nat->Nat}(cJ:∀i j,f i=f j->i=j):∀{ki:fu} {b:Nat} {x:h2},e1 ki b=some x->e1 (O0 J1 bs f ki) (f b)=some (x.kp f)
 | [],b,x,h=>by simp[e1]at h
 | (c,y)::r,b,x,h=>by
  simp only[O0,q6];simp only[e1]at h;by_cases NW:c=b
  . grind
  . rw[aJ NW]at h;rw[aJ (λe=>NW (cJ _ _ e))];exact aDB cJ h
theorem aD8{f:Nat->Nat}{c:Nat}(b7:c ∉ bs)(cJ:∀b,f b≠c):∀{ki:fu},e1 (O0 J1 bs f ki) c=e1 J1 c
 | []=>by simp only[O0,abb,aJ b7]
 | (b,y)::r=>by
  simp only[O0,q6];rw[aJ (cJ b)];exact aD8 b7 cJ
theorem qJ.anS{f:Nat->Nat}{x:qJ U}:(x.kp f).xn=x.xn:=by cases x <;> rfl
theorem aDs :∀{l:List Nat} {i0:Nat} {c:Bool},aav J Jr i0 l=some c->c=true->∀(j b:Nat) jb,l[j]?=some b->fz Jr (i0+j)=some jb->∃x,fz J b=some x/\∀p,jb.xn=some p->x.xn=some p
 | [],i0,c,h,b7,j,b,jb,c7,ad=>by simp at c7
 | a::l,i0,c,h,b7,j,b,jb,c7,ad=>by
  simp only[aav]at h;have next:∀{C4},aav J Jr (i0+1) l=some C4->C4=true->∀Vh,j=Vh+1->∃x,fz J b=some x/\∀p,jb.xn=some p->x.xn=some p:=by
   intro C4 h1 ah Vh e;subst e;exact aDs h1 ah Vh b jb (by simpa using c7) (by rw[show i0+1+Vh=i0+(Vh+1) by omega];exact ad)
  cases j with
  | zero=>
   simp at c7;subst c7;simp only[Yf]at ad;rw[ad]at h;simp only at h;split at h
   . cases h
   . rename_i x a0K;split at h
     . grind
     . rename_i asA a7;split at h
       . cases h
       . rename_i p ayh;split at h
         . rename_i C4 al amY;cases h;simp only[k0,ye]at b7;refine⟨x,a0K,λq eg=>?_⟩;rw[a7]at eg;cases eg;rw[ayh];have:=q4 al
           grind
         . cases h
  | succ j=>
   split at h
   . grind
   grind
variable (ix:bs.Nodup) (ec:∀b,b∈bs->b < key) (lo:N'<=bs.length+16) (dx:pJ key J J1)
include ix ec lo dx in
theorem k5.kp{x:hn U}{d:C}(h:k5 N' Jr x d):k5 (key+16) (Zt J bs (back bs key) Jr) (x.kp (back bs key)) (d.kp (back bs key)):=by
 cases h with
 | t c=>exact k5.t c
 | ptr b o=>exact k5.ptr _ o
 | pr b t i o=>exact k5.pr _ t i o
 | IJ t x o=>exact k5.IJ t x o
 | arr b sz n al h=>
  have abK:back bs key b < key+16:=by
   unfold back;cases ay:bs[b]? with
   | some c=>simp;have:=ec c (JX ay);omega
   | none=>have:=agw.1 ay;simp;omega
  refine k5.arr _ sz n abK λx ad p bo=>?_
  rcases afe ad with⟨hq,a',h1,ah,rfl⟩ | ⟨h1,ah⟩
  . have:=akv ix ec h1;subst this;rw[qJ.anS]at bo
    grind
  . exfalso
    have hk:=(dx _ _ ah).1;unfold back at h1 hk
    grind
 | sub b hi len=>exact k5.sub _ hi len
 | pre b sz n al h=>
  have abK:back bs key b < key+16:=by
   unfold back;cases ay:bs[b]? with
   | some c=>simp;have:=ec c (JX ay);omega
   | none=>have:=agw.1 ay;simp;omega
  refine k5.pre _ sz n abK λx ad p bo=>?_
  rcases afe ad with⟨hq,a',h1,ah,rfl⟩ | ⟨h1,ah⟩
  . have:=akv ix ec h1;subst this;rw[qJ.anS]at bo
    grind
  . exfalso
    have hk:=(dx _ _ ah).1;unfold back at h1 hk
    grind
 | DJ b sz hi len al h=>
  have abK:back bs key b < key+16:=by
   unfold back;cases ay:bs[b]? with
   | some c=>simp;have:=ec c (JX ay);omega
   | none=>have:=agw.1 ay;simp;omega
  refine k5.DJ _ sz hi len abK λx ad p bo=>?_
  rcases afe ad with⟨hq,a',h1,ah,rfl⟩ | ⟨h1,ah⟩
  . have:=akv ix ec h1;subst this;rw[qJ.anS]at bo
    grind
  . exfalso
    have hk:=(dx _ _ ah).1;unfold back at h1 hk
    grind
 | mp b=>exact k5.mp _
 | Jx b=>exact k5.Jx _
 | pq b n al h=>
  have abK:back bs key b < key+16:=by
   unfold back;cases ay:bs[b]? with
   | some c=>simp;have:=ec c (JX ay);omega
   | none=>have:=agw.1 ay;simp;omega
  refine k5.pq _ n abK λx ad p bo=>?_
  rcases afe ad with⟨hq,a',h1,ah,rfl⟩ | ⟨h1,ah⟩
  . have:=akv ix ec h1;subst this;rw[qJ.anS]at bo
    grind
  . exfalso
    have hk:=(dx _ _ ah).1;unfold back at h1 hk
    grind
 | ee=>exact .ee
 | Ln=>exact .Ln
 | Lm=>exact .Lm
 | fn f caps=>exact k5.fn f _
 | dead d=>exact .dead _
theorem aEz{f:Nat->Nat}:∀{vs:List (hM U)} {i:Nat},(hM.kp.go f vs)[i]?=(vs[i]?).map (hM.kp f)
 | [],i=>by simp[hM.kp.go]
 | v::vs,0=>by simp[hM.kp.go]
 | v::vs,i+1=>by simp[hM.kp.go,aEz]
theorem aD9{f:Nat->Nat}:∀{vs:List (hM U)},(hM.kp.go f vs).length=vs.length
 | []=>rfl
 | v::vs=>by simp[hM.kp.go,aD9]
include ix ec lo dx in
theorem km.kp{x:hM U}{d:V}(h:km N' Jr x d):km (key+16) (Zt J bs (back bs key) Jr) (x.kp (back bs key)) (d.kp (back bs key)):=by
 induction h with
 | c h=>exact .c (k5.kp ix ec lo dx h)
 | agg h=>exact .agg (f'.map_map (h.imp λ_ _ _ ai=>k5.kp ix ec lo dx ai))
 | gJ xs ds a6 h ih=>
  refine .gJ _ _ (by rw[aD9,auJ];exact a6) ?_;intro i x d ad a7;rw[aEz,gC]at ad;rw[awJ,gC]at a7
  grind
include ix ec dx in
theorem aqO(a7:aav J Jr 0 bs=some true):wJ key J (key+16) (Zt J bs (back bs key) Jr):=by
 refine⟨by omega,λc x b7 ad=>?_⟩;rcases afe ad with⟨b,a',h1,ah,rfl⟩ | ⟨h1,ah⟩
 . unfold back at h1;cases ay:bs[b]? with
   | some C4=>
    rw[ay]at h1;simp at h1;subst h1;obtain⟨x,hg,hv⟩:=aDs a7 rfl b c a' ay (by rw[NI];exact ah);exact⟨x,hg,λp bo=>hv p (by rw[qJ.anS]at bo;exact bo)⟩
   | none=>rw[ay]at h1;simp at h1;omega
 grind
include ix ec lo dx in
theorem pJ.axv(a7:aav J Jr 0 bs=some true)(ar:pJ N' Jr aAu):pJ (key+16) (Zt J bs (back bs key) Jr) (O0 J1 bs (back bs key) aAu):=by
 intro c x ad;have abK:∀b,b < N'->back bs key b < key+16:=by
  intro b al;unfold back;cases ay:bs[b]? with
  | some c=>simp;have:=ec c (JX ay);omega
  | none=>have:=agw.1 ay;simp;omega
 rcases afe ad with⟨b,a',rfl,ah,rfl⟩ | ⟨h1,ah⟩
 . obtain⟨b',y,ea,hf⟩:=ar b a' ah;refine⟨abK b b',y.kp (back bs key),aDB (λi j=>akv ix ec) ea,?_⟩;cases hf with
   | box hf=>exact .box (f'.map_map (hf.imp λ_ _ _ ai=>k5.kp ix ec lo dx ai))
   | arr t l=>exact .arr t l
   | set ks=>exact .set ks
   | buf E s=>exact .buf E s
   | kn hf=>exact .kn (k5.kp ix ec lo dx hf)
   | nJ t l i o hf=>exact .nJ t l i o (k5.kp ix ec lo dx hf)
   | rows hf tJ=>exact .rows hf tJ
 . obtain⟨b',y,ea,hf⟩:=dx c x ah;refine⟨by omega,y,?_,?_⟩
   . rw[aD8 h1 λb=>?_]
     . exact ea
     . unfold back
       grind
   . exact hf.mono (aqO ix ec dx a7)
end
end
section
open Go
variable {xb:List Nat}
def aqw(n:Nat):List (Nat×Nat)->Bool
 | (i,_)::_=>Nat.beq i n
 | []=>false
theorem aUl{l:List (kx×List Nat)}{p:Nat×Nat}(h:p∈WQ l):p.1 < l.length:=by
 simp only[WQ,auT,ay8]at h
 grind
theorem aSB{l:List (kx×List Nat)}(h:aqw l.length (afL l)=true):aqv l=true/\ae0 l.dropLast=true/\∀p,p∈WQ l.dropLast->p∈afL l:=by
 unfold afL at h ⊢;split at h
 . grind
 . exfalso
   cases a6:WQ l with
   | nil=>rw[a6]at h;cases h
   | cons p r=>
    rw[a6]at h;have bo:p∈WQ l:=by rw[a6];simp
    have:=aUl bo;obtain⟨i,j⟩:=p;have rz:Nat.beq i l.length=true:=h;simp_all
theorem aTo{l:List (kx×List Nat)}{m:Nat}(hm:l.length=m+1)(h:aqv l=true){D:Nat -> List Nat}(NG:∀(i:Nat) x,l[i]?=some x -> D i=x.2){p:Nat -> Bool}(aZE:∀i,i < m -> p i=true -> ∀d,d∈D i -> p d=true)(a6:∀d,d∈D m -> p d=true):
 ∀i,i < m->p i=true:=by
 have key:∀k i,i < m->m - i<=k->p i=true:=by
  intro k
  induction k with
  | zero=>intro i h1 ah;omega
  | succ k ih=>
   intro i h1 ah;simp only[aqv,r0,aji]at h;have b':=h i (by omega)
   grind
 exactλi ay=>key m i ay (by omega)
section
variable {P:Program} {c9:Ctx} {nt kk:Nat} {N:Nat} {ops:Array Oper} {init:List kx} {last:kx} {E:Nat->Env} {T:Nat->fu} {G:Nat->Bool} {W:Nat->V}
theorem aq5{listed:Array Bool}{i m:Nat}(hs:listed.size=m+1)(ay:i < m):listed.pop.getD i false=listed.getD i false:=by
 simp only[ase,Array.getElem?_pop]
 grind
theorem aWK{listed:Array Bool}{i m:Nat}(hs:listed.size=m+1)(ay:i < m):(listed.setIfInBounds i true).pop=listed.pop.setIfInBounds i true:=by grind
theorem aUm{Q:Exit->Act->World->Prop}{fuel:Nat}{listed:Array Bool}{a:Act}{w:World}(hs:listed.size=ops.size)(oj:∀i,i < ops.size->listed.getD i false=true)(Jb:Q .normal a w):wpAny P .any ops Q fuel listed a w:=by
 have PS:Region.ready .any ops listed=[]:=by
  rw[aKZ];intro i ay;rw[mem_ready]at ay
  grind
 cases fuel with
 | zero=>exact⟨PS,Jb⟩
 | succ fuel=>exact⟨λ_=>Jb,λi ay=>by rw[PS]at ay;cases ay⟩
theorem aTp {D:Nat -> List Nat} (st:Stat xb init D E N) (ar:aax xb P init N E T G W) (hres:To P nt ops ops.toList=some (init++[last])) (NG:∀(i:Nat) o,ops[i]?=some o -> D i=OZ o)
 (aZ1:∀(p:Nat->Bool),(∀i,i < init.length->p i=true->∀d,d∈D i->p d=true)->(∀d,d∈D init.length->p d=true)->∀i,i < init.length->p i=true)
 (axI:∀d,d∈D init.length->d < init.length)
 {Q:Exit->Act->World->Prop} {K:Env->fu->Prop} (k6:c9.k=kk)
 (qs:∃Nk ki,Conv kk (N+16*init.length) (E init.length) (T init.length) (N+16*init.length) Nk ki/\aip P last (N+16*init.length) Nk ki K)
 (Jb:∀e s φ S a w,K e s->Rel c9 nt φ S e s (JI (lt (N+16*init.length)) (N+16*init.length)) a w->Q .normal a w):
 ∀(fuel:Nat) (listed:Array Bool) φ S env J a w,listed.size=init.length+1->listed.getD init.length false=false->listed.toList.countP (· ==false)<=fuel->Inv xb c9 nt init D N E T G W listed.pop φ S env J a w->wpAny P .any ops Q fuel listed a w:=by
 have hlen:=akX hres;simp at hlen;have ayo:∀(listed:Array Bool) (φ:vt) (S:y0) (env:Env) (J:fu) (a:Act) (w:World),listed.size=init.length+1->listed.getD init.length false=false->Inv xb c9 nt init D N E T G W listed.pop φ S env J a w->Region.ready .any ops listed≠[]:=by
  intro listed φ S env J a w hs hm ns PS;have oj:∀i,i < init.length->listed.getD i false=true:=by
   intro i
   induction i using Nat.strongRecOn with
   | _ i ih=>
    intro ay;cases a6:listed.getD i false with
    | true=>rfl
    | false=>
     exfalso
     have af0:i < ops.size:=by omega
     have c8:ops[i]?=some ops[i]:=asg af0;have:i∈Region.ready .any ops listed:=by
      rw[mem_ready];refine⟨?_,ops[i],c8,λe he al=>?_⟩
      . grind
      . have a7:e.on∈D i:=by
         rw[NG i _ c8];simp only[OZ,Lp,adZ]
         grind
        exact ih e.on (st.back i _ ay a7) (by have:=st.back i _ ay a7;omega)
     grind
  have af0:init.length < ops.size:=by omega
  have c8:ops[init.length]?=some ops[init.length]:=asg af0;have:init.length∈Region.ready .any ops listed:=by
   rw[mem_ready];refine⟨?_,ops[init.length],c8,λe he al=>?_⟩
   . grind
   . have a7:e.on∈D init.length:=by
      rw[NG _ _ c8];simp only[OZ,Lp,adZ]
      grind
     grind
  grind
 intro fuel
 induction fuel with
 | zero=>
  intro listed φ S env J a w hs hm b7 ns
  exfalso
  have Ox:init.length < listed.size:=by omega
  have h0:listed.toList.countP (· ==false)=0:=by omega
  rw[List.countP_eq_zero]at h0;simp[Ox]at hm;exact h0 listed[init.length] (by simp) (by simp[hm])
 | succ fuel ih=>
  intro listed φ S env J a w hs hm b7 ns;refine⟨λPS=>absurd PS (ayo listed φ S env J a w hs hm ns),λi ay=>?_⟩;rw[mem_ready]at ay;obtain⟨h1,o,c8,aZC⟩:=ay;have af0:i < ops.size:=(an'.1 c8).1;have Ox:i < listed.size:=by omega
  have dy:listed.getD i false=false:=by simp[Ox]at h1 ⊢;exact h1
  obtain⟨tw,TE,arZ⟩:=auv hres (i:=i) (o:=o) (by simpa using c8);have a7:∀d,d∈D i->listed.getD d false=true:=by
   intro d a7;rw[NG i o c8]at a7;simp only[OZ,Lp,adZ]at a7
   grind
  have aJL:listed.toList.countP (· ==false)<=fuel+1->(listed.setIfInBounds i true).toList.countP (· ==false)<=fuel:=by
   intro b7;have:listed.toList[i]?=some false:=by simp[Ox]at dy ⊢;exact dy
   grind
  rcases Nat.lt_or_ge i init.length with abO | abO
  ·
   have amV:init[i]?=some tw:=by rw[aag abO]at TE;exact TE
   have MM:∀d,d∈D i->listed.pop.getD d false=true:=λd SK=>by rw[aq5 hs (by have:=st.back i d abO SK;omega)];exact a7 d SK
   have aya:listed.pop.getD i false=false:=by rw[aq5 hs abO];exact dy
   obtain⟨axE,abI⟩:=ns.agree st ar amV aya MM;obtain⟨⟨hy,u',l1⟩,_⟩:=(ar.step i tw amV).1.local (env':=env) (J':=J) axE abI;have QR:=apt ns.rel (key:=N+16*i) (λb Nn ML=>aFc aya Nn ML) arZ (K:=λe s=>e=JB env tw.dst (G i) (W i)/\s=hy) (u'.O4 ⟨rfl,rfl⟩) (Q:=Q)
   have next:∀q' w',UL c9 nt (JI (used N init.length listed.pop) (N+16*i)) (λe s=>e=JB env tw.dst (G i) (W i)/\s=hy) q' w'->wpAny P .any ops Q fuel (listed.setIfInBounds i true) q' w':=by
    rintro q' w' ⟨hK,ik,e,s,⟨rfl,rfl⟩,R'⟩
    have bo:=aWK (listed:=listed) (i:=i) (m:=init.length) hs abO;refine ih (listed.setIfInBounds i true) hK ik _ _ q' w' (by simpa using hs) ?_ (aJL b7) (by rw[bo];exact ns.step st ar amV aya MM l1 R');rw[WM Ox,aJ (by omega)];exact hm
   unfold wpOp;rw[c8];dsimp only;split at QR
   . rename_i hw;rw[ao hw];exact .inl (Oper.wp_mono next QR)
   . rename_i hw;rw[aJ hw];exact next _ _ QR
  ·
   have ay:i=init.length:=by omega
   subst ay;have amV:tw=last:=by grind
   subst amV;have oj:∀j,j < init.length->listed.pop.getD j false=true:=by
    refine aZ1 (λj=>listed.pop.getD j false) (λj c7 bo d SK=>ns.down j c7 bo d SK) (λd SK=>?_);rw[aq5 hs (axI d SK)];exact a7 d SK
   have R:=ns.done st ar oj;obtain⟨Nk,ki,am1,QR⟩:=qs;obtain⟨acj,atq,aj7⟩:=am1 c9 nt φ S a w k6 R;have Ve:=aDr aj7 arZ QR (Q:=Q);have next:∀q' w',UL c9 nt (JI (lt (N+16*init.length)) (N+16*init.length)) K q' w'->wpAny P .any ops Q fuel (listed.setIfInBounds init.length true) q' w':=by
    rintro q' w' ⟨hK,ik,e,s,aY6,R'⟩
    refine aUm (by simp[hs,hlen]) (λj c7=>?_) (Jb e s hK ik q' w' aY6 R');rw[WM Ox];split
    . rfl
    . rename_i hG;have SN:j < init.length:=by omega
      rw[<-aq5 hs SN];exact oj j SN
   unfold wpOp;rw[c8];dsimp only;split at Ve
   . rename_i hw;rw[ao hw];exact .inl (Oper.wp_mono next Ve)
   . rename_i hw;rw[aJ hw];exact next _ _ Ve
theorem l'.a1R {ND:List (Nat×Nat)} {env:Env} {J:fu} {Q:Exit -> Env -> fu -> Nat -> Prop} (hm:aqw (init.length+1) ND=true)
 (h:aml xb P init N env J (λe s=>VQ xb init e N ND=true/\ac7 P kk [last] (N+16*init.length) e s (λe s=>Q .normal e s (N+16*init.length+16)))):l' P nt kk (.aar (init++[last]) ND) env J N Q:=by
 intro code b7 c9 φ S a w k6 R;obtain⟨id,ops,rfl,hres,Np,ax9,rfl⟩:=aDh b7;have hlen:=akX hres;simp at hlen;have vK:(LX ops (init++[last])).length=init.length+1:=by simp[LX,hlen]
 obtain⟨aZ2,aJO,L6⟩:=aSB (l:=LX ops (init++[last])) (by rw[vK];exact hm);obtain⟨E,T,G,W,ar,u1,t0,abL,Jb⟩:=awc h
 have aKg:(LX ops (init++[last])).dropLast=LX ops.pop init:=by
  obtain⟨z',x,ad⟩:∃z' x,ops.toList=z'++[x]:=by
   cases a6:ops.toList.reverse with
   | nil=>exfalso;have h1:=JQ List.length a6;rw[List.length_reverse,adX,Qo]at h1;omega
   | cons x r=>exact⟨r.reverse,x,by have:=JQ List.reverse a6;simpa using this⟩
  have L1:z'.length=init.length:=by have h1:=JQ List.length ad;rw[adX,vx,List.length_singleton]at h1;omega
  unfold LX;rw[Array.toList_pop,ad,ajh,List.zip_append (by simp[L1])];simp
 rw[aKg]at aJO;have aZx:VQ xb init (E init.length) N (WQ (LX ops.pop init))=true:=atF (λp bo=>L6 p (by rw[aKg];exact bo)) abL;have u':=aHK (ops:=ops.pop) (by simp;omega) aJO ar aZx
 let D:Nat->List Nat:=λi=>((ops[i]?).map OZ).getD []
 have axx:∀i,i < init.length->((ops.pop[i]?).map OZ).getD []=D i:=by grind
 have st:Stat xb init D E N:=by
  refine⟨λi d ay a7=>u'.back i d ay (by rw[axx i ay];exact a7),λi j x y d ad bJ aKB=>?_,λi j b hG ay c7 hw al=>?_⟩
  . have ay:=(sb.1 ad).1;have c7:=(sb.1 bJ).1;have:=u'.ajD i j x y d ad bJ aKB
    grind
  . rcases u'.ord i j b hG ay c7 hw al with⟨h1,ah⟩ | ⟨h1,ah⟩
    . exact .inl ⟨h1,ah.congr u'.back axx c7⟩
    . exact .inr ⟨h1,ah.congr u'.back axx ay⟩
 have aKy:∀(i:Nat) x,(LX ops (init++[last]))[i]?=some x->D i=x.2:=by
  intro i x ad;unfold LX at ad
  grind
 refine wp_region_any ax9 ?_;have QR:∃Nk ki,Conv kk (N+16*init.length) (E init.length) (T init.length) (N+16*init.length) Nk ki/\aip P last (N+16*init.length) Nk ki (λe s=>Q .normal e s (N+16*init.length+16)):=Jb;have aZn:∀d,d∈D init.length->d < init.length:=by
  intro d a7;simp only[ae0,k0]at Np;have ad:(LX ops (init++[last]))[init.length]?=some (LX ops (init++[last]))[init.length]:=J9 (by omega);have:=atO Np.1.1 ad d (by rw[<-aKy _ _ ad];exact a7);omega
 refine aTp (c9:=c9) (nt:=nt) (D:=D) st ar hres (λi o c8=>by simp[D,c8]) (λp h1 ah=>aTo vK aZ2 aKy h1 ah) aZn k6 QR (λe s φ S a w eg R'=>⟨φ,S,e,s,_,eg,R'.more λb al=>av' al⟩) ops.size _ φ S env J a _ ?_ ?_ ?_ ?_
 . simp[hlen]
 . rw[ase,Array.getElem?_replicate];split <;> rfl
 . have:=List.countP_le_length (p:=λx:Bool=>x==false) (l:=(Array.replicate ops.size false).toList)
   simpa using this
 . have R':Rel c9 nt φ S env J (lt N) a {w with drawn:=w.drawn+1}:=R.drew;have ayp:∀i,(Array.replicate ops.size false).pop.getD i false=true->False:=by
    intro i a6;simp only[ase,Array.getElem?_pop]at a6
    grind
   refine⟨R'.more λb al=>by simp[used,al],by simp;omega,λi ay a6=>(ayp i a6).elim,λt _=>by rw[u1],λt i o c8 a6=>(ayp i a6).elim,λb _=>by rw[t0],λb i ay a6=>(ayp i a6).elim⟩
end
end
end Go.Proofs.YtijpinendaoleaaGreat.Shv
