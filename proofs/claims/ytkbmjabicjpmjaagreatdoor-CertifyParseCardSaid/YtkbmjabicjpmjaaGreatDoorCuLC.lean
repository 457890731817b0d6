/- The library of this proof, part C: an abstract machine for the code of the program, and its soundness. -/
import Derived.Test.YtkbmjabicjpmjaaGreatDoorCuLB

namespace Go.Proofs.YtkbmjabicjpmjaaGreatDoor.Shv
set_option linter.all false
section
open Go
variable [GV]
variable {xb:List Nat}
def br(xb:List Nat)(aos:List AOper)(env:Env)(N:Nat):List (Nat×Nat)->Bool
 | []=>true
 | (i,j)::r=>(match aos[i]?,aos[j]? with
  | some x,some y=>(tch xb y.op env (N+16*j)).all fun b=>!(wrB xb x.op env (N+16*i) b)
  | _,_=>true) && br xb aos env N r
theorem nj{aos:List AOper}{env:Env}{N:Nat}:∀{crit:List (Nat×Nat)} {i j:Nat} {x y:AOper},br xb aos env N crit=true->(i,j)∈crit->aos[i]?=some x->aos[j]?=some y->∀b,b∈tch xb y.op env (N+16*j)->wrB xb x.op env (N+16*i) b=false
 | [],i,j,x,y,h,hm,_,_,_,_=>by simp at hm
 | (i0,j0)::r,i,j,x,y,h,hm,hx,hy,b,hb=>by
  simp only[br,Bool.and_eq_true]at h;rcases List.mem_cons.1 hm with e | hm
  . grind
  . exact nj h.2 hm hx hy b hb
section
variable {P:Program} {Γ:Ctx} {nt kk:Nat} {N:Nat} {ops:Array Oper} {aos:List AOper} {E:Nat->Env} {T:Nat->Store} {G:Nat->Bool} {W:Nat->V}
theorem si{i:Nat}{o:Oper}{x:AOper}(ho:ops[i]?=some o)(hx:aos[i]?=some x):(aE ops aos)[i]?=some (x,aR o):=by
 unfold aE
 grind
theorem pj (hlen : aos.length = ops.size) (hok : dP (aE ops aos) = true) (hr : DRun xb P aos N E T G W) (hcrit : br xb aos (E aos.length) N (bw (aE ops aos)) = true):
 Stat xb aos (fun i=>((ops[i]?).map aR).getD []) E N:=by
 simp only[dP,Bool.and_eq_true]at hok;obtain⟨⟨hback,hssa⟩,_⟩:=hok;have hget:∀i,i < aos.length->∃o x,ops[i]?=some o/\aos[i]?=some x/\(aE ops aos)[i]?=some (x,aR o):=by
  intro i hi;have ho:ops[i]?=some ops[i]:=Array.getElem?_eq_getElem (by omega);have hx:aos[i]?=some aos[i]:=List.getElem?_eq_getElem hi;exact⟨_,_,ho,hx,si ho hx⟩
 have hahead:∀i j,ahead (aE ops aos) j i=true->j < i/\j∈((ops[i]?).map aR).getD []:=by
  intro i j h;obtain⟨h1,y,h2,h3⟩:=uN h;refine⟨h1,?_⟩;have hi:i < aos.length:=by
   have:=(List.getElem?_eq_some_iff.1 h2).1;unfold aE at this;simp at this;omega
  grind
 have hssa':∀(i j:Nat) (x y:AOper) (d:Nat),aos[i]?=some x->aos[j]?=some y->y.dst=some d->(d∈x.rd->(j < i/\j∈((ops[i]?).map aR).getD [])\/(x.op.neutral=true/\x.op.touches=false/\i < j/\i∈((ops[j]?).map aR).getD []))/\(i=j\/x.dst≠some d):=by
  intro i j x y d hx hy hyd;obtain⟨oi,x',hoi,hx',hLi⟩:=hget i (List.getElem?_eq_some_iff.1 hx).1;obtain⟨oj,y',hoj,hy',hLj⟩:=hget j (List.getElem?_eq_some_iff.1 hy).1;rw[hx]at hx';cases hx';rw[hy]at hy';cases hy';simp only[ssaOk,List.all_eq_true]at hssa;have h1:=hssa ((x,aR oi),i) (List.mem_of_getElem? (i:=i) (by simp[List.getElem?_zipIdx,hLi]))
  have h2:=h1 ((y,aR oj),j) (List.mem_of_getElem? (i:=j) (by simp[List.getElem?_zipIdx,hLj]))
  grind
 refine⟨fun i d hi hd=>?_,hssa',?_⟩
 . obtain⟨o,x,ho,hx,hL⟩:=hget i hi;rw[ho]at hd;have:=jl hback hL d hd;omega
 ·
  have hlook:∀(i:Nat) (x:AOper),aos[i]?=some x->¬(x.op.neutral=true/\x.op.touches=false)->∀t,t∈x.op.reads->look (E aos.length) t=look (E i) t:=by
   intro i x hx hnn t ht;have hi:=(List.getElem?_eq_some_iff.1 hx).1;refine eE hr (by omega) (Nat.le_refl _) fun j y hj1 hj2 hy hyt=>?_
   rcases (hssa' i j x y t hx hy hyt).1 (oH ht)with h | h
   . omega
   grind
  have hreach:∀i j,cz (closD (aE ops aos) []) j i=true->j < i/\AheadR (fun i=>((ops[i]?).map aR).getD []) j i:=by
   intro i j h;simp only[cz,Bool.and_eq_true,decide_eq_true_eq,List.contains_iff_mem]at h;refine⟨h.1,mv (l:=aE ops aos) (acc:=[]) (fun k x hx=>?_) (fun i j hj=>by simp at hj) i j h.2⟩;have hk:k < aos.length:=by
    have:=(List.getElem?_eq_some_iff.1 hx).1;unfold aE at this;simp at this;omega
   grind
  have hpair:∀(i j:Nat) (x y:AOper) (b:Nat),i≠j->aos[i]?=some x->aos[j]?=some y->wrB xb x.op (E i) (N+16*i) b=true->b∈tch xb y.op (E j) (N+16*j)->cz (closD (aE ops aos) []) i j=true\/cz (closD (aE ops aos) []) j i=true:=by
   intro i j x y b hne hx hy hw hb;by_cases h1:cz (closD (aE ops aos) []) i j=true
   . grind
   . by_cases h2:cz (closD (aE ops aos) []) j i=true
     . grind
     . exfalso
       obtain⟨oi,x',hoi,hx',hLi⟩:=hget i (List.getElem?_eq_some_iff.1 hx).1;obtain⟨oj,y',hoj,hy',hLj⟩:=hget j (List.getElem?_eq_some_iff.1 hy).1;rw[hx]at hx';cases hx';rw[hy]at hy';cases hy';have ht:y.op.touches=true:=by
        cases h:y.op.touches with
        | true=>rfl
        | false=>rw[sR h]at hb;simp at hb
       have hm:(i,j)∈bw (aE ops aos):=by
        simp only[bw,critT,List.mem_flatMap];refine⟨((x,aR oi),i),List.mem_of_getElem? (i:=i) (by simp[List.getElem?_zipIdx,hLi]),?_⟩;dsimp only;rw[nY hw];simp only[Bool.false_eq_true,if_false,List.mem_filterMap];refine⟨((y,aR oj),j),List.mem_of_getElem? (i:=j) (by simp[List.getElem?_zipIdx,hLj]),?_⟩
        grind
       have:=nj hcrit hm hx hy b (by rw[uM (hlook j y hy (fun h=>by rw[ht]at h;cases h.2))];exact hb);rw[uL (hlook i x hx (fun h=>by rw[nY hw]at h;cases h.1))]at this
       grind
  intro i j b hne hi hj hw hb;obtain⟨oi,x,hoi,hx,hLi⟩:=hget i hi;obtain⟨oj,y,hoj,hy,hLj⟩:=hget j hj;have hwx:wrB xb x.op (E i) (N+16*i) b=true:=by unfold wrAt at hw;rw[hx]at hw;exact hw
  have conv:(cz (closD (aE ops aos) []) i j=true\/cz (closD (aE ops aos) []) j i=true)->(i < j/\AheadR (fun i=>((ops[i]?).map aR).getD []) i j)\/(j < i/\AheadR (fun i=>((ops[i]?).map aR).getD []) j i):=by grind
  rcases hb with⟨y',hy',hb⟩ | hb
  . rw[hy]at hy';cases hy';exact conv (hpair i j x y b hne hx hy hwx hb)
  . have hwy:wrB xb y.op (E j) (N+16*j) b=true:=by unfold wrAt at hb;rw[hy]at hb;exact hb
    cases hty:y.op.touches with
    | true=>exact conv (hpair i j x y b hne hx hy hwx (nh hty hwy))
    | false=>
     cases htx:x.op.touches with
     | true=>exact conv (hpair j i y x b (Ne.symm hne) hy hx hwy (nh htx hwx)).symm
     | false=>
      have h1:=pg htx hwx;have h2:=pg hty hwy
      exfalso;omega
theorem jT{aos:List AOper}{env:Env}{N:Nat}:∀{l m:List (Nat×Nat)},(∀p,p∈l->p∈m)->br xb aos env N m=true->br xb aos env N l=true
 | [],_,_,_=>rfl
 | (i,j)::r,m,hs,h=>by
  simp only[br,Bool.and_eq_true];refine⟨?_,jT (fun p hp=>hs p (List.mem_cons_of_mem _ hp)) h⟩
  have : ∀ (m : List (Nat×Nat)), (i, j) ∈ m -> br xb aos env N m = true -> (match aos[i]?, aos[j]? with
   | some x,some y=>(tch xb y.op env (N+16*j)).all fun b=>!(wrB xb x.op env (N+16*i) b)
   | _,_=>true)=true:=by
   intro m
   induction m with
   | nil=>intro h _;simp at h
   | cons q m ih=>
    intro hm hc;obtain⟨qi,qj⟩:=q;simp only[br,Bool.and_eq_true]at hc
    grind
  grind
theorem uO{l:List (AOper×List Nat)}{p:Nat×Nat}(h:p∈bw l):p∈critL l:=by
 unfold critL
 grind
theorem AW.regionD{crit:List (Nat×Nat)}{env:Env}{J:Store}{Q:Exit->Env->Store->Nat->Prop}(h:dops xb P aos N env J (fun e s=>br xb aos e N crit=true/\Q .normal e s (N+16*aos.length))):AW P nt kk (.regionD aos crit) env J N Q:=by
 intro code hc Γ φ S a w hkk R;obtain⟨id,ops,rfl,hres,hok,hmix,rfl⟩:=ly hc;have hlen:=fe hres;simp at hlen;obtain⟨E,T,G,W,hr,e0,t0,hcr,hQ⟩:=kl h;refine wp_region_any hmix ?_;refine sg (Γ:=Γ) (nt:=nt) (pj hlen hok hr (jT (fun p hp=>uO hp) hcr)) hr hres (fun i o ho=>by simp[ho]) (fun φ S a w R'=>⟨φ,S,_,_,_,hQ,R'⟩) ops.size _ φ S env J a _ ?_ ?_
 . have:=List.countP_le_length (p:=fun x:Bool=>x==false) (l:=(Array.replicate ops.size false).toList)
   grind
 . have R':Rel Γ nt φ S env J (lt N) a {w with drawn:=w.drawn+1}:=R.drew;refine⟨R'.more fun b hb=>by simp[used,hb],by simp[hlen],fun i hi hl=>?_,fun t _=>by rw[e0],fun t i o ho hl=>?_,fun b _=>by rw[t0],fun b i hi hl=>?_⟩
   . simp_all
   . exfalso;simp[Array.getElem?_replicate]at hl;split at hl <;> simp at hl
   simp_all
end
end
section
open Go
variable [GV]
def wpL(P:Program)(c:Code)(Q:Exit->Act->World->Prop)(a:Act)(w:World):Prop:=
 ∀(b:Frame) (k:List Item) (cs:List Frame),∃e a' w',Q e a' w'/\Arrives P (lone (b.at a (.code c:: .inLoop c::k)) cs w) b k cs e a' w'
theorem ez{P:Program}{c:Code}{Q:Exit->Act->World->Prop}{a:Act}{w:World}(h:c.wp P (Exit.then (wpL P c Q) Q) a w):wpL P c Q a w:=by
 intro b k cs;obtain⟨e,a₁,w₁,hq,harr⟩:=h b _ cs;cases e with
 | normal=>
  obtain⟨e₂,a₂,w₂,hq₂,harr₂⟩:=hq b k cs;exact⟨e₂,a₂,w₂,hq₂,.of_steps (Steps.trans harr (.one step_inLoop)) harr₂⟩
 | exit id=>exact⟨_,a₁,w₁,hq,.pass rfl (fun _ _=>.inl (by simp)) harr⟩
 | goto l=>exact⟨_,a₁,w₁,hq,.pass (x:= .inLoop c) rfl (fun _ _=>.inl (by simp)) harr⟩
 | ret=>exact⟨_,a₁,w₁,hq,.pass (x:= .inLoop c) rfl (fun _ _=>.inl (by simp)) harr⟩
 | panic ch=>exact⟨_,a₁,w₁,hq,.pass (x:= .inLoop c) rfl (fun _ _=>.inl (by simp)) harr⟩
 | outgrown=>exact⟨_,a₁,w₁,hq,.pass (x:= .inLoop c) rfl (fun _ _=>.inl (by simp)) harr⟩
theorem gS{P:Program}{c:Code}{Q:Exit->Act->World->Prop}{a:Act}{w:World}(h:wpL P c Q a w):(Code.loop c).wp P Q a w:=by
 intro b k cs;obtain⟨e,a',w',hq,harr⟩:=h b k cs;exact⟨e,a',w',hq,.of_steps (.one step_loop) harr⟩
section
variable {P:Program} {nt kk:Nat} {env env':Env} {J J':Store} {N N':Nat} {Q Q':Exit->Env->Store->Nat->Prop}
def AWL(P:Program)(nt kk:Nat)(c:ACode)(env:Env)(J:Store)(N:Nat)(Q:Exit->Env->Store->Nat->Prop):Prop:=
 ∀code,resolve P nt code=some c->∀Γ φ S a w,Γ.k=kk->Rel Γ nt φ S env J (lt N) a w->wpL P code (fun e a' w'=>∃φ' S' env' J' N',Q e env' J' N'/\Rel Γ nt φ' S' env' J' (lt N') a' w') a w
theorem AWL.round{c:ACode}(h:AW P nt kk c env J N (andThen (fun env J N=>AWL P nt kk c env J N Q) Q)):AWL P nt kk c env J N Q:=by
 intro code hc Γ φ S a w hkk R;refine ez (wp_mono (h _ hc Γ φ S a w hkk R) ?_)
 rintro e a' w' ⟨φ',S',env',J',N',hq,R'⟩
 cases e with
 | normal=>exact hq _ hc Γ _ S' a' w' hkk R'
 | _=>exact⟨φ',S',env',J',N',hq,R'⟩
theorem AW.loop_of{c:ACode}(h:AWL P nt kk c env J N Q):AW P nt kk (.loop c) env J N Q:=by
 intro code hc Γ φ S a w hkk R;obtain⟨b,rfl,hb⟩:=sd hc;exact gS (h b hb Γ φ S a w hkk R)
def Conv(kk N:Nat)(env:Env)(J:Store)(N':Nat)(env':Env)(J':Store):Prop:=
 ∀Γ nt φ S a w,Γ.k=kk->Rel Γ nt φ S env J (lt N) a w->∃φ' S',Rel Γ nt φ' S' env' J' (lt N') a w
theorem Conv.refl{kk N:Nat}:Conv kk N env J N env J:=fun _ _ φ S _ _ _ R=>⟨φ,S,R⟩
theorem Conv.trans{kk N1 N2 N3:Nat}{e1 e2 e3:Env}{s1 s2 s3:Store}(h:Conv kk N1 e1 s1 N2 e2 s2)(k:Conv kk N2 e2 s2 N3 e3 s3):Conv kk N1 e1 s1 N3 e3 s3:=
 fun Γ nt φ S a w hk R=>let⟨φ',S',R'⟩:=h Γ nt φ S a w hk R;k Γ nt _ S' a w hk R'
theorem AW.conv{c:ACode}(hc:Conv kk N env J N' env' J')(h:AW P nt kk c env' J' N' Q):AW P nt kk c env J N Q:=
 fun code hcode Γ φ S a w hkk R=>let⟨φ',S',R'⟩:=hc Γ nt φ S a w hkk R;h _ hcode Γ _ S' a w hkk R'
theorem AWL.conv{c:ACode}(hc:Conv kk N env J N' env' J')(h:AWL P nt kk c env' J' N' Q):AWL P nt kk c env J N Q:=
 fun code hcode Γ φ S a w hkk R=>let⟨φ',S',R'⟩:=hc Γ nt φ S a w hkk R;h _ hcode Γ _ S' a w hkk R'
theorem Conv.tidy(ks bs:List Nat)(hnd:bs.Nodup)(hk:keeps kk bs=true):Conv kk N env J bs.length (ct bs env ks) (aF bs J 0 bs):=
 fun Γ nt φ S a w hkk R=>let⟨φ',R'⟩:=R.tidy ks bs hnd (by grind);⟨φ',S,R'⟩
theorem Conv.freeze(b0:Nat){sz0:Nat}{es:List (List T)}(hJ:sget J b0=some (.arr sz0 es)):Conv kk N env J N (df b0 sz0 es env) (frzSt b0 sz0 es J):=
 fun Γ nt φ S a w hkk R=>⟨φ,_,R.freeze hJ⟩
def CSub(c c':C):Prop:=(∀φ w S v,RC φ w S c v->RC φ w S c' v)/\∀n,c.bnd n=true->c'.bnd n=true
theorem CSub.refl(c:C):CSub c c:=⟨fun _ _ _ _ h=>h,fun _ h=>h⟩
theorem CSub.dead(c:C):CSub c .dead:=⟨fun _ _ _ _ h=>h.oneCell,fun _ _=>rfl⟩
theorem CSub.cap0 :CSub .cap0 (.t (.slice [])):=by
 refine⟨?_,fun _ _=>rfl⟩
 rintro φ w S v ⟨a,rfl⟩
 exact RT.slice [] a 0 0 0 0 (fun _ _=>undef) (by simp) (by simp) (by simp) (by simp) (by simp) (by simp)
inductive VSub:V->V->Prop
 | c {x y}:CSub x y->VSub (.c x) (.c y)
 | agg {xs ys}:All2 CSub xs ys->VSub (.agg xs) (.agg ys)
 | tup (xs ys:List V) (hl:xs.length=ys.length) (h:∀(i:Nat) x y,xs[i]?=some x->ys[i]?=some y->VSub x y):VSub (.tup xs) (.tup ys)
theorem All2.comp{α β γ:Type}{R:α->β->Prop}{R':β->γ->Prop}{R'':α->γ->Prop}(h:∀a b c,R a b->R' b c->R'' a c):∀{l:List α} {m:List β} {k:List γ},All2 R l m->All2 R' m k->All2 R'' l k
 | [],[],[],_,_=>.nil
 | _::_,_::_,_::_,.cons h1 h2,.cons k1 k2=>.cons (h _ _ _ h1 k1) (All2.comp h h2 k2)
theorem All2.flip{α β:Type}{R:α->β->Prop}{R':β->α->Prop}{l:List α}{m:List β}(h:All2 R l m)(k:∀a b,R a b->R' b a):All2 R' m l:=by
 induction h with
 | nil=>exact .nil
 | cons h _ ih=>exact .cons (k _ _ h) ih
theorem bnds_of_get'{n:Nat->Bool}:∀{vs:List V},(∀(i:Nat) v,vs[i]?=some v->v.bnd n=true)->V.bnd.V.bnds n vs=true
 | [],_=>rfl
 | v::vs,h=>by simp[V.bnd.V.bnds];exact⟨h 0 v rfl,bnds_of_get' fun i x hx=>h (i+1) x (by grind)⟩
theorem VSub.rv{φ:Phi}{w:World}{S:Stab}{v v':V}(h:VSub v v'):∀{x},RV φ w S v x->RV φ w S v' x:=by
 induction h with
 | c h=>intro x hx;cases hx with | c hx=>exact .c (h.1 _ _ _ _ hx)
 | agg h=>
  intro x hx;cases hx with
  | agg hx=>exact .agg (All2.comp (fun a b c h1 h2=>h1.1 _ _ _ _ h2) (h.flip fun _ _ h=>h) hx)
 | tup xs ys hl h ih=>
  intro x hx;cases hx with
  | tup _ zs hl2 h2=>
   refine .tup _ zs (by omega) ?_
   grind
theorem VSub.bnd{v v':V}(h:VSub v v')(n:Nat->Bool):v.bnd n=true->v'.bnd n=true:=by
 induction h with
 | c h=>intro hb;exact h.2 n hb
 | @agg xs ys h=>
  intro hb;simp[V.bnd]at hb ⊢;intro c hc;obtain⟨i,hi,rfl⟩:=List.getElem_of_mem hc;obtain⟨a,ha,hs⟩:=(h.flip fun _ _ h=>h).get (List.getElem?_eq_getElem hi);exact hs.2 n (hb a (List.mem_of_getElem? ha))
 | tup xs ys hl h ih=>
  grind[V.bnd,bnds_of_get',bQ]
inductive BSub:Blk->Blk->Prop
 | box {xs ys}:All2 CSub xs ys->BSub (.box xs) (.box ys)
 | arr {sz es}:BSub (.arr sz es) (.arr sz es)
 | same {x}:BSub x x
 | bld {E c c'}:CSub c c'->BSub (.bld E c) (.bld E c')
 | arro {sz es i o c c'}:CSub c c'->BSub (.arro sz es i o c) (.arro sz es i o c')
def pQ(env env':Env):Prop:=∀k g v',look env' k=some (g,v')->∃v,look env k=some (g,v)/\VSub v v'
def StSub(J J':Store):Prop:=∀b x',sget J' b=some x'->∃x,sget J b=some x/\BSub x x'
theorem BSub.rb{φ:Phi}{w:World}{S:Stab}{b:Nat}{x x':Blk}(h:BSub x x')(hr:RB φ w S b x):RB φ w S b x':=by
 cases h with
 | arr=>grind
 | same=>grind
 | bld h=>
  obtain⟨h0,⟨p,v,h1,h2,h3⟩,h4⟩:=hr;exact⟨h0,⟨p,v,h1,h2,h.1 _ _ _ _ h3⟩,h4⟩
 | arro h=>
  obtain⟨h1,⟨vs,E,k1,k2,k3,v,k4,k5⟩,k6⟩:=hr;exact⟨h1,⟨vs,E,k1,k2,k3,v,k4,h.1 _ _ _ _ k5⟩,k6⟩
 | box h=>
  obtain⟨h0,vs,E,h1,h2,h3⟩:=hr;exact⟨h0,vs,E,h1,All2.comp (fun a b c h1 h2=>h1.1 _ _ _ _ h2) (h.flip fun _ _ h=>h) h2,h3⟩
theorem BSub.bnd{x x':Blk}(h:BSub x x')(n:Nat->Bool)(hb:x.bnd n=true):x'.bnd n=true:=by
 cases h with
 | arr=>rfl
 | same=>grind
 | bld h=>exact h.2 n hb
 | arro h=>exact h.2 n hb
 | @box xs ys h=>
  have:=VSub.bnd (.agg h) n (by grind[V.bnd,Blk.bnd])
  grind[V.bnd,Blk.bnd]
theorem Rel.weaken{Γ:Ctx}{φ:Phi}{S:Stab}{n:Nat->Bool}{a:Act}{w:World}(R:Rel Γ nt φ S env J n a w)(he:pQ env env')(hs:StSub J J'):Rel Γ nt φ S env' J' n a w:=by
 refine⟨⟨fun b x hx=>?_,fun b b' x y hx hy=>?_,R.sim.st⟩,fun k g v hl hg=>?_,fun k g v hl hg=>?_,fun k g v hl hg=>?_,fun b x hx=>?_,R.size,R.defers,R.ext,fun b x hx=>?_,R.fix,R.kn⟩
 . obtain⟨x0,h1,h2⟩:=hs b x hx;exact h2.rb (R.sim.blk b x0 h1)
 . obtain⟨x0,h1,h2⟩:=hs b x hx;obtain⟨y0,k1,k2⟩:=hs b' y hy;exact R.sim.inj b b' x0 y0 h1 k1
 . obtain⟨v0,h1,h2⟩:=he k g v hl;obtain⟨x,hx,hr⟩:=R.envs k g v0 h1 hg;exact⟨x,hx,h2.rv hr⟩
 . obtain⟨v0,h1,h2⟩:=he k g v hl;exact R.envn k g v0 h1 hg
 . obtain⟨v0,h1,h2⟩:=he k g v hl;exact h2.bnd n (R.ebnd k g v0 h1 hg)
 . obtain⟨x0,h1,h2⟩:=hs b x hx;exact⟨(R.sbnd b x0 h1).1,h2.bnd n (R.sbnd b x0 h1).2⟩
 . obtain⟨x0,h1,h2⟩:=hs b x hx;exact R.own b x0 h1
theorem Conv.weaken(he:pQ env env')(hs:StSub J J'):Conv kk N env J N env' J':=fun Γ nt φ S a w _ R=>⟨φ,S,R.weaken he hs⟩
theorem Rel.newArr {Γ : Ctx} {φ : Phi} {S : Stab} {a : Act} {w : World} (R : Rel Γ nt φ S env J (lt N) a w) {sz : Nat} (hsz : 0 < sz) (hk : Γ.k <= N):
 Rel Γ nt (upd φ N (0,0)) S env (sput J N (.arr sz [])) (lt (N+1)) a w:=by
 have hφ:∀b,lt N b=true->upd φ N (0,0) b=φ b:=by
  intro b hb;simp[lt]at hb
  grind[upd]
 have hm:∀b,lt N b=true->lt (N+1) b=true:=fun b hb=>ij (by simp) hb
 have R1:=R.phi hφ;have hN:(upd φ N (0,0) N).2=0:=by simp[upd]
 have hget:∀b x,sget (sput J N (.arr sz [])) b=some x->(b=N/\x= .arr sz [])\/(b≠N/\sget J b=some x):=by
  grind[ag]
 refine⟨⟨fun b x hx=>?_,fun b b' x y hx hy hne h0 h0'=>?_,R1.sim.st⟩,R1.envs,R1.envn,fun k g v hl hg=>V.bnd_mono hm (R1.ebnd k g v hl hg),fun b x hx=>?_,R1.size,R1.defers,R1.ext,fun b x hx h0=>?_,R1.fix,fun b hb=>by simp[lt];omega⟩
 . rcases hget b x hx with⟨rfl,rfl⟩ | ⟨_,hx⟩
   . exact⟨by simp,by simp,by simp,hsz,fun h=>absurd hN h⟩
   . exact R1.sim.blk b x hx
 . rcases hget b x hx with⟨rfl,rfl⟩ | ⟨_,hx⟩
   . grind
   . rcases hget b' y hy with⟨rfl,rfl⟩ | ⟨_,hy⟩
     . grind
     . exact R1.sim.inj b b' x y hx hy hne h0 h0'
 . rcases hget b x hx with⟨rfl,rfl⟩ | ⟨_,hx⟩
   . exact⟨by simp[lt],rfl⟩
   . exact⟨hm b (R1.sbnd b x hx).1,Blk.bnd_mono hm (R1.sbnd b x hx).2⟩
 . rcases hget b x hx with⟨rfl,rfl⟩ | ⟨_,hx⟩
   . grind
   . exact R1.own b x hx h0
end
end
section
open Go
variable [GV]
inductive Ty where
 | bool
 | int (k:IntKind)
 | str
 | slice (t:Ty)
 | nm (n:Nat)
def Ty.beq :Ty->Ty->Bool
 | .bool,.bool=>true
 | .int k,.int k'=>decide (k=k')
 | .str,.str=>true
 | .slice r,.slice r'=>Ty.beq r r'
 | .nm n,.nm m=>Nat.beq n m
 | _,_=>false
theorem Ty.beq_eq :∀{a b:Ty},Ty.beq a b=true->a=b
 | .bool,.bool,_=>rfl
 | .int k,.int k',h=>by grind[Ty.beq]
 | .str,.str,_=>rfl
 | .slice r,.slice r',h=>by simp[Ty.beq]at h;rw[Ty.beq_eq h]
 | .nm n,.nm m,h=>by grind[Ty.beq,Nat.eq_of_beq_eq_true]
 | .bool,.int _,h | .bool,.str,h | .bool,.slice _,h | .bool,.nm _,h=>by simp[Ty.beq]at h
 | .int _,.bool,h | .int _,.str,h | .int _,.slice _,h | .int _,.nm _,h=>by simp[Ty.beq]at h
 | .str,.int _,h | .str,.bool,h | .str,.slice _,h | .str,.nm _,h=>by simp[Ty.beq]at h
 | .slice _,.int _,h | .slice _,.str,h | .slice _,.bool,h | .slice _,.nm _,h=>by simp[Ty.beq]at h
 | .nm _,.int _,h | .nm _,.str,h | .nm _,.bool,h | .nm _,.slice _,h=>by grind[Ty.beq]
theorem Ty.beq_refl :∀(a:Ty),Ty.beq a a=true
 | .bool=>rfl
 | .int k=>by simp[Ty.beq]
 | .str=>rfl
 | .slice r=>by exact Ty.beq_refl r
 | .nm n=>by grind[Ty.beq,Nat.beq_refl]
def Ty.dec(a b:Ty):Decidable (a=b):=
 match h:Ty.beq a b with
 | true=>.isTrue (Ty.beq_eq h)
 | false=>.isFalse fun e=>by rw[e,Ty.beq_refl]at h;cases h
def Ty.den(D:Nat->Type):Ty->Type
 | .bool=>Bool
 | .int _=>Int
 | .str=>List UInt8
 | .slice t=>List (Ty.den D t)
 | .nm n=>D n
structure Cell (D:Nat->Type) where
 ty:Ty
 val:ty.den D
def Cell.as{D:Nat->Type}(t:Ty)(c:Cell D):Option (t.den D):=
 match Ty.dec c.ty t with
 | .isTrue h=>some (Eq.rec (motive:=fun t _=>Ty.den D t) c.val h)
 | .isFalse _=>none
theorem Cell.as_some{D:Nat->Type}{t:Ty}{c:Cell D}{x:t.den D}(h:c.as t=some x):c=⟨t,x⟩:=by
 obtain⟨u,v⟩:=c;unfold Cell.as at h;split at h
 all_goals grind
theorem Cell.as_mk{D:Nat->Type}{t:Ty}{x:t.den D}:Cell.as t (⟨t,x⟩:Cell D)=some x:=by
 unfold Cell.as;split
 . rfl
 grind
def encR(D:Nat->Type)(enc:∀n,D n->List T):(t:Ty)->t.den D->List T
 | .bool,b=>[.bool b]
 | .int k,n=>[.int k n]
 | .str,s=>[.str s]
 | .slice t,l=>[.slice (List.map (encR D enc t) l)]
 | .nm n,x=>enc n x
def encC(D:Nat->Type)(enc:∀n,D n->List T):Cell D->T
 | ⟨.bool,b⟩=>.bool b
 | ⟨.int k,n⟩=>.int k n
 | ⟨.str,s⟩=>.str s
 | ⟨.slice t,l⟩=>.slice (List.map (encR D enc t) l)
 | ⟨.nm _,_⟩=>.bool false
structure Uni where
 D:Nat->Type
 dfl:∀n,D n
 flds:∀n,D n->List (Cell D)
 make:∀n,List (Cell D)->Option (D n)
 tys:Nat->List Ty
 enc:∀n,D n->List T
 enc_eq:∀n x,enc n x=(flds n x).map (encC D enc)
 mk_eq:∀n l x,make n l=some x->flds n x=l
 tys_eq:∀n x,(flds n x).map Cell.ty=tys n
 pos:∀n,0 < (tys n).length
 tyOf:Nat->Option Ty:=fun _=>none
 own:List (List Bool×Nat×Ty):=[]
 frz:Option Ty:=none
variable {U:Uni}
abbrev Uni.C(U:Uni):=Cell U.D
abbrev Ty.d(U:Uni)(t:Ty):=t.den U.D
def Ty.dfl(U:Uni):(t:Ty)->t.den U.D
 | .bool=>false
 | .int _=>(0:Int)
 | .str=>([]:List UInt8)
 | .slice t=>([]:List (t.den U.D))
 | .nm n=>U.dfl n
def Ty.isNm :Ty->Bool
 | .nm _=>true
 | _=>false
def Ty.row(U:Uni):(t:Ty)->t.den U.D->List (Cell U.D)
 | .bool,b=>[⟨.bool,b⟩]
 | .int k,n=>[⟨.int k,n⟩]
 | .str,s=>[⟨.str,s⟩]
 | .slice t,l=>[⟨.slice t,l⟩]
 | .nm n,x=>U.flds n x
def Ty.cells(U:Uni):Ty->List Ty
 | .nm n=>U.tys n
 | t=>[t]
def Ty.sz(U:Uni)(t:Ty):Nat:=(t.cells U).length
def oneCell(U:Uni)(t:Ty):List (Cell U.D)->Option (t.den U.D)
 | [c]=>c.as t
 | _=>none
def Ty.mk(U:Uni):(t:Ty)->List (Cell U.D)->Option (t.den U.D)
 | .nm n,l=>U.make n l
 | .bool,l=>oneCell U .bool l
 | .int k,l=>oneCell U (.int k) l
 | .str,l=>oneCell U .str l
 | .slice t,l=>oneCell U (.slice t) l
theorem gH{t:Ty}{l:List (Cell U.D)}{x:t.den U.D}(h:oneCell U t l=some x):l=[⟨t,x⟩]:=by
 unfold oneCell at h
 grind[Cell.as_some]
def Cell.enc(U:Uni)(c:Cell U.D):T:=encC U.D U.enc c
def Ty.enc(U:Uni)(t:Ty)(x:t.den U.D):List T:=encR U.D U.enc t x
theorem Ty.enc_row{t:Ty}{x:t.den U.D}:t.enc U x=(t.row U x).map (Cell.enc U):=by
 cases t <;> first | rfl | skip
 case nm n=>exact U.enc_eq n x
theorem Ty.row_ty{t:Ty}{x:t.den U.D}:(t.row U x).map Cell.ty=t.cells U:=by
 cases t <;> first | rfl | skip
 case nm n=>exact U.tys_eq n x
theorem Ty.row_length{t:Ty}{x:t.den U.D}:(t.row U x).length=t.sz U:=by
 rw[<-List.length_map,Ty.row_ty];rfl
theorem Ty.enc_length{t:Ty}{x:t.den U.D}:(t.enc U x).length=t.sz U:=by
 rw[Ty.enc_row,List.length_map,Ty.row_length]
theorem Ty.sz_pos{t:Ty}:0 < t.sz U:=by
 cases t <;> simp[Ty.sz,Ty.cells]
 exact U.pos _
theorem Ty.mk_row :∀{t:Ty} {l:List (Cell U.D)} {x:t.den U.D},t.mk U l=some x->t.row U x=l
 | .nm n,l,x,h=>U.mk_eq n l x h
 | .bool,l,x,h=>(gH h).symm
 | .int k,l,x,h=>(gH h).symm
 | .str,l,x,h=>(gH h).symm
 | .slice t,l,x,h=>(gH h).symm
def Ty.at(U:Uni)(t:Ty)(l:List (t.den U.D))(i:Nat):t.den U.D:=l.getD i (t.dfl U)
theorem gh{t:Ty}{l:List (t.den U.D)}{i:Nat}(h:i < l.length):el (l.map (t.enc U)) i=t.enc U (t.at U l i):=by
 simp[el,Ty.at,List.getElem?_eq_getElem h]
end
section
open Go
variable [GV]
variable {U:Uni}
inductive XC (U:Uni) where
 | t (c:Cell U.D)
 | ptr (b o:Nat)
 | eptr (b:Nat) (t:Ty) (i o:Nat)
 | iptr (t:Ty) (x:t.den U.D) (o:Nat)
 | arr (b:Nat)
 | sub (b lo len:Nat)
 | pre (b h:Nat)
 | suf (b lo len:Nat)
 | mp (b:Nat)
 | sptr (b:Nat)
 | bufc (b:Nat)
 | cap0
 | nilp
 | nilfn
 | fn (f:Nat) (caps:List Nat)
 | dead
inductive XV (U:Uni) where
 | c (x:XC U)
 | agg (cs:List (XC U))
 | tup (vs:List (XV U))
inductive XB (U:Uni) where
 | box (cs:List (XC U))
 | arr (t:Ty) (l:List (t.den U.D))
 | rows (sz:Nat) (r:List (List (XC U)))
 | set (ks:List (List UInt8))
 | buf (E:Nat) (s:List UInt8)
 | bld (E:Nat) (c:XC U)
 | arro (t:Ty) (l:List (t.den U.D)) (i o:Nat) (c:XC U)
abbrev XEnv(U:Uni):=List (Nat×XV U)
abbrev XSt(U:Uni):=List (Nat×XB U)
abbrev GL :=List (Nat×Nat×Bool)
def lk{α:Type}:List (Nat×α)->Nat->Option α
 | [],_=>none
 | (k,x)::r,i=>match Nat.beq k i with
  | true=>some x
  | false=>lk r i
def pt{α:Type}:List (Nat×α)->Nat->α->List (Nat×α)
 | [],b,x=>[(b,x)]
 | (k,y)::r,b,x=>match Nat.beq k b with
  | true=>(k,x)::r
  | false=>(k,y)::pt r b x
def dl{α:Type}:List (Nat×α)->Nat->List (Nat×α)
 | [],_=>[]
 | (k,y)::r,b=>match Nat.beq k b with
  | true=>dl r b
  | false=>(k,y)::dl r b
theorem aj{a b:Nat}(h:Nat.beq a b=true):a=b:=Nat.eq_of_beq_eq_true h
theorem aU{a b:Nat}(h:Nat.beq a b=false):a≠b:=fun e=>by simp_all
theorem lk_pt{α:Type}(J:List (Nat×α))(b:Nat)(x:α)(i:Nat):lk (pt J b x) i=if b=i then some x else lk J i:=by
 induction J with
 | nil=>
  grind[pt,lk,aj,aU]
 | cons y r ih=>
  grind[pt,aj,lk]
theorem lk_dl{α:Type}(J:List (Nat×α))(b i:Nat):lk (dl J b) i=if b=i then none else lk J i:=by
 induction J with
 | nil=>simp[dl,lk]
 | cons y r ih=>
  grind[dl,aj,lk]
def xofC :C->Option (XC U)
 | .t (.bool b)=>some (.t ⟨.bool,b⟩)
 | .t (.int k n)=>some (.t ⟨.int k,n⟩)
 | .t (.str s)=>some (.t ⟨.str,s⟩)
 | .cap0=>some .cap0
 | .nilp=>some .nilp
 | .nilfn=>some .nilfn
 | .dead=>some .dead
 | .fn f []=>some (.fn f [])
 | _=>none
def xofCs :List C->Option (List (XC U))
 | []=>some []
 | c::cs=>match xofC c,xofCs cs with
  | some x,some xs=>some (x::xs)
  | _,_=>none
def xofV :V->Option (XV U)
 | .c x=>match xofC x with
  | some y=>some (.c y)
  | none=>none
 | .agg cs=>match xofCs cs with
  | some ys=>some (.agg ys)
  | none=>none
 | .tup _=>none
def subG(gl:GL):Nat->Option (Nat×Bool)->Nat->Bool
 | 0,_,_=>false
 | fu+1,gd,k=>match lk gl k with
  | none=>true
  | some g'=>match gd with
   | none=>false
   | some g=>(Nat.beq g.1 g'.1 && (g.2==g'.2)) || subG gl fu (lk gl g.1) k
def bval(env:XEnv U)(t:Nat)(b:Bool):Option Bool:=
 match lk env t with
 | some (.c (.t ⟨.bool,x⟩))=>some (match b with | true=>x | false=>!x)
 | _=>none
def gval(gl:GL)(env:XEnv U):Nat->Option (Nat×Bool)->Option Bool
 | _,none=>some true
 | 0,some _=>none
 | fu+1,some (t,b)=>match gval gl env fu (lk gl t),bval env t b with
  | some x,some y=>some (x && y)
  | _,_=>none
def fuelG :Nat:=200
def xop(gl:GL)(gd:Option (Nat×Bool))(env:XEnv U):AO->Option (XV U)
 | .const v=>xofV v
 | .tmp k=>match subG gl fuelG gd k with
  | true=>lk env k
  | false=>none
def xpk(gl:GL)(gd:Option (Nat×Bool))(env:XEnv U)(c:AO)(b:Bool):AO->Option (XV U)
 | .const v=>xofV v
 | .tmp k=>match subG gl fuelG gd k with
  | true=>lk env k
  | false=>match c,lk gl k with
   | .tmp kc,some (t,b')=>match Nat.beq t kc && (b'==b)with
    | true=>lk env k
    | false=>none
   | _,_=>none
def xops'(gl:GL)(gd:Option (Nat×Bool))(env:XEnv U):List AO->Option (List (XV U))
 | []=>some []
 | x::r=>match xop gl gd env x,xops' gl gd env r with
  | some v,some vs=>some (v::vs)
  | _,_=>none
def cT :XV U->Option (List (XC U))
 | .c x=>some [x]
 | .agg cs=>some cs
 | .tup _=>none
def xfill(cells:List (XC U))(off:Nat)(cs:List (XC U)):List (XC U):=cells.take off++cs++cells.drop (off+cs.length)
def gi(gl:GL)(gd:Option (Nat×Bool))(env:XEnv U):List (XC U)->List (Nat×Nat×AO)->Option (List (XC U))
 | cells,[]=>some cells
 | cells,(off,n,x)::r=>match xop gl gd env x with
  | none=>none
  | some v=>match cT v with
   | none=>none
   | some cs=>match Nat.beq cs.length n && Nat.ble (off+n) cells.length with
    | true=>gi gl gd env (xfill cells off cs) r
    | false=>none
def XC.toT :XC U->Option T
 | .t c=>match c.ty.isNm with
  | true=>none
  | false=>some (c.enc U)
 | .cap0=>some (.slice [])
 | _=>none
def xts :List (XC U)->Option (List T)
 | []=>some []
 | c::cs=>match c.toT,xts cs with
  | some t,some ts=>some (t::ts)
  | _,_=>none
def eV(gl:GL)(gd:Option (Nat×Bool))(env:XEnv U)(sz:Nat):List (List (XC U))->List (Nat×AO)->Option (List (List (XC U)))
 | rows,[]=>some rows
 | rows,(i,x)::r=>match xop gl gd env x with
  | none=>none
  | some v=>match cT v with
   | none=>none
   | some cs=>match xts cs with
    | none=>none
    | some _=>match Nat.beq cs.length sz && Nat.ble (i+1) rows.length with
     | true=>eV gl gd env sz (rows.set i cs) r
     | false=>none
inductive XE (U:Uni) where
 | ty (t:Ty) (l:List (t.den U.D))
 | rows (r:List (List (XC U)))
 | nil
def XE.len :XE U->Nat
 | .ty _ l=>l.length
 | .rows r=>r.length
 | .nil=>0
def ba :List Ty->List (XC U)->Option (List (Cell U.D))
 | [],[]=>some []
 | t::ts,.t c::cs=>match ba ts cs with
  | some l=>some (c::l)
  | none=>none
 | .slice t::ts,.cap0::cs=>match ba ts cs with
  | some l=>some (⟨.slice t,([]:List (t.den U.D))⟩::l)
  | none=>none
 | _,_=>none
def xmk(U:Uni)(t:Ty)(cs:List (XC U)):Option (t.den U.D):=
 match ba (t.cells U) cs with
 | some l=>t.mk U l
 | none=>none
def xmks(U:Uni)(t:Ty):List (List (XC U))->Option (List (t.den U.D))
 | []=>some []
 | r::rs=>match xmk U t r,xmks U t rs with
  | some x,some xs=>some (x::xs)
  | _,_=>none
def XE.as(t:Ty):XE U->Option (List (t.den U.D))
 | .ty u l=>Cell.as (.slice t) ⟨.slice u,l⟩
 | .rows r=>xmks U t r
 | .nil=>some []
def XE.join :XE U->XE U->Option (XE U)
 | .nil,y=>some y
 | .ty t l,y=>match y.as t with
  | some l'=>some (.ty t (l++l'))
  | none=>none
 | .rows r,.ty t l=>match xmks U t r with
  | some l0=>some (.ty t (l0++l))
  | none=>none
 | .rows r,.rows r'=>some (.rows (r++r'))
 | .rows r,.nil=>some (.rows r)
def XE.blk(sz:Nat):XE U->Option (XB U)
 | .ty t l=>match Nat.beq (t.sz U) sz with
  | true=>some (.arr t l)
  | false=>none
 | .rows r=>match r.all fun x=>Nat.beq x.length sz with
  | true=>some (.rows sz r)
  | false=>none
 | .nil=>some (.rows sz [])
def xes(J:XSt U):XV U->Option (XE U×Option Nat)
 | .c (.t ⟨.slice t,l⟩)=>some (.ty t l,none)
 | .c .cap0=>some (.nil,none)
 | .c (.arr b)=>match lk J b with
  | some (.arr t l)=>some (.ty t l,some b)
  | some (.rows _ r)=>some (.rows r,some b)
  | _=>none
 | _=>none
def XB.dim :XB U->Option (Nat×Nat)
 | .box _=>none
 | .arr t l=>some (t.sz U,l.length)
 | .rows sz r=>some (sz,r.length)
 | .set _=>none
 | .buf _ s=>some (1,s.length)
 | .bld _ _=>none
 | .arro t l _ _ _=>some (t.sz U,l.length)
def xsz(J:XSt U)(b sz:Nat):Bool:=
 match lk J b with
 | some x=>(match x.dim with | some p=>Nat.beq p.1 sz | none=>false)
 | none=>false
def room(bytes n:Nat):Bool:=decide ((2*n+192)*bytes<=bh) && decide (n<=az)
def xbinI :BinOp->IntKind->IntKind->Int->Int->Option (Bool×Cell U.D)
 | .add,k,k',a,b=>if k=k' then some (true,⟨.int k,k.wrap (a+b)⟩)else none
 | .sub,k,k',a,b=>if k=k' then some (true,⟨.int k,k.wrap (a - b)⟩)else none
 | .mul,k,k',a,b=>if k=k' then some (true,⟨.int k,k.wrap (a*b)⟩)else none
 | .quo,k,k',a,b=>if k=k' then some (!decide (b=0),⟨.int k,k.wrap (a.tdiv b)⟩)else none
 | .rem,k,k',a,b=>if k=k' then some (!decide (b=0),⟨.int k,a.tmod b⟩)else none
 | .and,k,k',a,b=>if k=k' then some (true,⟨.int k,k.wrap (BitVec.ofInt k.bits a &&& BitVec.ofInt k.bits b).toNat⟩)else none
 | .or,k,k',a,b=>if k=k' then some (true,⟨.int k,k.wrap (BitVec.ofInt k.bits a ||| BitVec.ofInt k.bits b).toNat⟩)else none
 | .xor,k,k',a,b=>if k=k' then some (true,⟨.int k,k.wrap (BitVec.ofInt k.bits a ^^^ BitVec.ofInt k.bits b).toNat⟩)else none
 | .andNot,k,k',a,b=>if k=k' then some (true,⟨.int k,k.wrap (BitVec.ofInt k.bits a &&& ~~~ BitVec.ofInt k.bits b).toNat⟩)else none
 | .shl,k,_,a,b=>some (decide (0<=b),⟨.int k,k.wrap (a*2 ^ min b.toNat k.bits)⟩)
 | .shr,k,_,a,b=>some (decide (0<=b),⟨.int k,a.fdiv (2 ^ min b.toNat k.bits)⟩)
 | .eql,k,k',a,b=>if k=k' then some (true,⟨.bool,decide (a=b)⟩)else none
 | .neq,k,k',a,b=>if k=k' then some (true,⟨.bool,!decide (a=b)⟩)else none
 | .lss,k,k',a,b=>if k=k' then some (true,⟨.bool,decide (a < b)⟩)else none
 | .leq,k,k',a,b=>if k=k' then some (true,⟨.bool,decide (a<=b)⟩)else none
 | .gtr,k,k',a,b=>if k=k' then some (true,⟨.bool,decide (b < a)⟩)else none
 | .geq,k,k',a,b=>if k=k' then some (true,⟨.bool,decide (b<=a)⟩)else none
def xbinS :BinOp->List UInt8->List UInt8->Option (Bool×Cell U.D)
 | .add,a,b=>some (decide (a.length+b.length<=aD),⟨.str,a++b⟩)
 | .eql,a,b=>some (true,⟨.bool,decide (a=b)⟩)
 | .neq,a,b=>some (true,⟨.bool,!decide (a=b)⟩)
 | .lss,a,b=>some (true,⟨.bool,Op.bytesLess a b⟩)
 | .leq,a,b=>some (true,⟨.bool,Op.bytesLess a b || decide (a=b)⟩)
 | .gtr,a,b=>some (true,⟨.bool,!(Op.bytesLess a b || decide (a=b))⟩)
 | .geq,a,b=>some (true,⟨.bool,!(Op.bytesLess a b)⟩)
 | _,_,_=>none
def xbin(op:BinOp):Cell U.D->Cell U.D->Option (Bool×Cell U.D)
 | ⟨.int k,a⟩,⟨.int k',b⟩=>xbinI op k k' a b
 | ⟨.str,a⟩,⟨.str,b⟩=>xbinS op a b
 | _,_=>none
def eqB(a b:Bool):Bool:=a==b
def eqI(a b:Int):Bool:=decide (a=b)
def eqS(a b:List UInt8):Bool:=decide (a=b)
def inR(m:Int)(n:Nat):Bool:=decide (0<=m) && decide (m.toNat < n)
def slR(lo hi:Int)(n:Nat):Bool:=decide (0<=lo) && (decide (lo<=hi) && decide (hi<=n))
def cutL{α:Type}(l:List α)(lo hi:Int):List α:=(l.take hi.toNat).drop lo.toNat
def maxI(a b:Int):Int:=Max.max a b
def minI(a b:Int):Int:=Min.min a b
def aL(s:List UInt8)(m:Int):Int:=((s.getD m.toNat 0).toNat:Int)
def dL(m:Int):List UInt8:=(Utf8.encode m).data.toList
def wrp(k:IntKind)(m:Int):Int:=k.wrap m
def catS(a b:List UInt8):List UInt8:=a++b
def xeqT :Nat->Cell U.D->Cell U.D->Option Bool
 | 0,⟨.bool,a⟩,⟨.bool,b⟩=>some (eqB a b)
 | 1,⟨.int k,a⟩,⟨.int k',b⟩=>if k=k' then some (eqI a b)else none
 | 2,⟨.str,a⟩,⟨.str,b⟩=>some (eqS a b)
 | _,_,_=>none
def xeqCs :List Nat->List (XC U)->List (XC U)->Option Bool
 | [],[],[]=>some true
 | k::ks,.t x::xs,.t y::ys=>match xeqT k x y,xeqCs ks xs ys with
  | some b,some r=>some (b && r)
  | _,_=>none
 | _,_,_=>none
def dh(agg:Bool)(n:Nat)(cs:List (XC U))(o:Nat):Option (XV U):=
 match agg with
 | true=>match Nat.ble (o+n) cs.length with
  | true=>some (.agg ((cs.drop o).take n))
  | false=>none
 | false=>match cs[o]? with
  | some c=>some (.c c)
  | none=>none
def cA(gl:GL)(gd:Option (Nat×Bool))(env:XEnv U):Option AO->Option (Option Int)
 | none=>some none
 | some x=>match xop gl gd env x with
  | some (.c (.t ⟨.int _,n⟩))=>some (some n)
  | _=>none
def xcaps :List (XV U)->Option (List Nat)
 | []=>some []
 | .c (.ptr b 0)::r=>match xcaps r with
  | some l=>some (b::l)
  | none=>none
 | _=>none
abbrev XRes(U:Uni):=Option (Bool×XV U×XSt U)
def xset(U:Uni)(t:Ty)(l:List (t.den U.D))(i o:Nat)(cs:List (XC U)):Option (List (t.den U.D)):=
 match xmk U t (xfill ((t.row U (t.at U l i)).map .t) o cs)with
 | some x=>some (l.set i x)
 | none=>none
def xsame(t:Ty):List (XC U)->Option (List (t.den U.D))
 | []=>some []
 | .t c::r=>match c.as t,xsame t r with
  | some x,some l=>some (x::l)
  | _,_=>none
 | _::_=>none
def iv :List (XC U)->Option ((t:Ty)×List (t.den U.D))
 | .t c::r=>match c.ty.isNm,xsame c.ty (.t c::r)with
  | false,some l=>some ⟨c.ty,l⟩
  | _,_=>none
 | _=>none
def strOf(l:List Int):List UInt8:=l.map fun m=>UInt8.ofNat m.toNat
def kU(l:List Int):Bool:=l.all fun m=>decide (0<=m) && decide (m < 256)
def subR(lo len n:Nat):Bool:=decide (lo+len<=n)
def ownX :List (XC U)->Option (XC U)
 | [.arr b]=>some (.arr b)
 | _=>none
def mkR(bytes:Nat)(m:Int):Bool:=decide (0<=m/\m.toNat*bytes<=bh/\m.toNat<=az)
theorem pn{bytes:Nat}{m:Int}:mkR bytes m=true↔0<=m/\m.toNat*bytes<=bh/\m.toNat<=az:=by simp[mkR]
def xval(gl:GL)(gd:Option (Nat×Bool))(env:XEnv U)(J:XSt U)(n:Nat)(o:AOp):XRes U:=
 match o with
 | .mov x=>match xop gl gd env x with
  | some v=>some (true,v,J)
  | none=>none
 | .pick c x y=>match xop gl gd env c,xpk gl gd env c true x,xpk gl gd env c false y with
  | some (.c (.t ⟨.bool,b⟩)),some (.c (.t ⟨.bool,p⟩)),some (.c (.t ⟨.bool,q⟩))=>some (true,.c (.t ⟨.bool,bif b then p else q⟩),J)
  | _,_,_=>none
 | .alloc cs=>match xofCs cs with
  | some xs=>some (true,.c (.ptr n 0),pt J n (.box xs))
  | none=>none
 | .allocA cs=>match xofCs cs with
  | some xs=>match iv xs with
   | some ⟨t,l⟩=>some (true,.c (.ptr n 0),pt J n (.arr t l))
   | none=>none
  | none=>none
 | .idxP k x i=>match xop gl gd env x,xop gl gd env i with
  | some (.c (.ptr b 0)),some (.c (.t ⟨.int _,m⟩))=>match lk J b with
   | some (.arr t _)=>match Nat.beq (t.sz U) 1 with
    | true=>some (inR m k,.c (.eptr b t (Int.toNat m) 0),J)
    | false=>none
   | _=>none
  | _,_=>none
 | .idxV k x i=>match xop gl gd env x,xop gl gd env i with
  | some (.agg cs),some (.c (.t ⟨.int _,m⟩))=>match Nat.beq cs.length k,iv cs with
   | true,some ⟨t,l⟩=>some (inR m k,.c (.t ⟨t,t.at U l (Int.toNat m)⟩),J)
   | _,_=>none
  | _,_=>none
 | .mslice sz bytes z x=>match xop gl gd env x,xofCs z with
  | some (.c (.t ⟨.int _,m⟩)),some zs=>match xts zs with
   | none=>none
   | some _=>match zs with
    | [.t c]=>match c.ty.isNm,Nat.beq sz 1 with
     | false,true=>some (mkR bytes m,.c (.arr n),pt J n (.arr c.ty (List.replicate (Int.toNat m) c.val)))
     | _,_=>none
    | _=>none
  | _,_=>none
 | .slcP k x lo hi=>match xop gl gd env x,cA gl gd env lo,cA gl gd env hi with
  | some (.c (.ptr b 0)),some l,some h=>
   some (slR (l.getD 0) (h.getD (k:Int)) k,.c (.sub b (Int.toNat (l.getD 0)) (Int.toNat (h.getD (k:Int)) - Int.toNat (l.getD 0))),J)
  | _,_,_=>none
 | .b2s x=>match xop gl gd env x with
  | some (.c (.t ⟨.slice (.int .u8),l⟩))=>some (true,.c (.t ⟨.str,strOf l⟩),J)
  | some (.c .cap0)=>some (true,.c (.t ⟨.str,[]⟩),J)
  | some (.c (.arr b))=>match lk J b with
   | some (.arr (.int .u8) l)=>some (true,.c (.t ⟨.str,strOf l⟩),J)
   | _=>none
  | some (.c (.sub b lo len))=>match lk J b with
   | some (.arr (.int .u8) l)=>some (subR lo len (List.length l),.c (.t ⟨.str,strOf ((l.drop lo).take len)⟩),J)
   | _=>none
  | _=>none
 | .allocS e e8=>some (true,.c (.ptr n 0),pt (pt J (n+1) (.buf e8 [])) n (.bld e (.bufc (n+1))))
 | .bsliceT e sz len z parts=>match U.tyOf e with
  | none=>none
  | some t=>match xofCs z with
   | some zs=>match xts zs with
    | none=>none
    | some _=>match Nat.beq zs.length sz with
     | false=>none
     | true=>match eV gl gd env sz (List.replicate len zs) parts with
      | some rows=>match xmks U t rows with
       | some l=>some (true,.c (.t ⟨.slice t,l⟩),J)
       | none=>none
      | none=>none
   | none=>none
 | .mkset=>some (true,.c (.mp n),pt J n (.set []))
 | .lkset x k=>match xop gl gd env x,xop gl gd env k with
  | some (.c (.mp b)),some (.c (.t ⟨.str,s⟩))=>match lk J b with
   | some (.set ks)=>some (true,.c (.t ⟨.bool,hasS ks s⟩),J)
   | _=>none
  | _,_=>none
 | .upset x k=>match xop gl gd env x,xop gl gd env k with
  | some (.c (.mp b)),some (.c (.t ⟨.str,s⟩))=>match lk J b with
   | some (.set ks)=>some (true,.tup [],pt J b (.set (addS ks s)))
   | _=>none
  | _,_=>none
 | .appendB e bytes x y=>match xop gl gd env x,xop gl gd env y with
  | some (.c (.bufc b)),some (.c (.t ⟨.str,s⟩))=>match lk J b with
   | some (.buf e' l)=>match Nat.beq e' e with
    | true=>some (room bytes (List.length l+List.length s),.c (.bufc n),pt (dl J b) n (.buf e (catS l s)))
    | false=>none
   | _=>none
  | _,_=>none
 | .sdata x=>match xop gl gd env x with
  | some (.c (.bufc b))=>some (true,.c (.sptr b),J)
  | _=>none
 | .ustr e x k=>match xop gl gd env x,xop gl gd env k with
  | some (.c (.sptr b)),some (.c (.t ⟨.int .i64,m⟩))=>match lk J b with
   | some (.buf e' l)=>match Nat.beq e' e with
    | true=>some (eqI m (List.length l:Int),.c (.t ⟨.str,l⟩),dl J b)
    | false=>none
   | _=>none
  | _,_=>none
 | .box x=>match xop gl gd env x with
  | some v=>match cT v with
   | some cs=>some (true,.c (.ptr n 0),pt J n (.box cs))
   | none=>none
  | none=>none
 | .build z parts=>match xofCs z with
  | some zs=>match gi gl gd env zs parts with
   | some cs=>some (true,.agg cs,J)
   | none=>none
  | none=>none
 | .bslice sz len z parts=>match xofCs z with
  | some zs=>match xts zs with
   | none=>none
   | some _=>match Nat.beq zs.length sz with
    | false=>none
    | true=>match eV gl gd env sz (List.replicate len zs) parts with
     | some rows=>some (true,.c (.arr n),pt J n (.rows sz rows))
     | none=>none
  | none=>none
 | .load agg k x=>match xop gl gd env x with
  | some (.c (.ptr b o))=>match lk J b with
   | some (.box cs)=>match dh agg k cs o with
    | some v=>some (true,v,J)
    | none=>none
   | some (.bld _ c)=>match agg,o with
    | false,1=>some (true,.c c,J)
    | _,_=>none
   | _=>none
  | some (.c (.eptr b t i o))=>match lk J b with
   | some (.arr t' l)=>match Cell.as (.slice t) (⟨.slice t',l⟩:Cell U.D)with
    | some l=>match dh agg k ((t.row U (t.at U l i)).map .t) o with
     | some v=>some (decide (i < l.length),v,J)
     | none=>none
    | none=>none
   | some (.arro t' l i' o' c)=>match agg with
    | true=>none
    | false=>match Nat.beq o o' with
     | true=>match Nat.beq (t.sz U) (t'.sz U)with
      | true=>some (decide (i=i'),.c c,J)
      | false=>none
     | false=>match Cell.as (.slice t) (⟨.slice t',l⟩:Cell U.D)with
      | some l=>match dh false k ((t.row U (t.at U l i)).map .t) o with
       | some v=>some (decide (i < l.length),v,J)
       | none=>none
      | none=>none
   | _=>none
  | some (.c (.iptr t x o))=>match dh agg k ((t.row U x).map .t) o with
   | some v=>some (true,v,J)
   | none=>none
  | _=>none
 | .store k x v=>match xop gl gd env x,xop gl gd env v with
  | some (.c (.ptr b o)),some v=>match cT v with
   | some cs=>match Nat.beq cs.length k with
    | true=>match lk J b with
     | some (.box ds)=>match Nat.ble (o+k) ds.length with
      | true=>some (true,.tup [],pt J b (.box (xfill ds o cs)))
      | false=>none
     | some (.bld e _)=>match o,cs with
      | 1,[c]=>some (true,.tup [],pt J b (.bld e c))
      | _,_=>none
     | _=>none
    | false=>none
   | none=>none
  | some (.c (.eptr b t i o)),some v=>match cT v with
   | some cs=>match Nat.beq cs.length k && Nat.ble (o+k) (t.sz U)with
    | true=>match lk J b with
     | some (.arr t' l)=>match Cell.as (.slice t) (⟨.slice t',l⟩:Cell U.D)with
      | some l=>match ownX cs with
       | some c=>some (decide (i < l.length),.tup [],pt J b (.arro t l i o c))
       | none=>match xset U t l i o cs with
        | some l'=>some (decide (i < l.length),.tup [],pt J b (.arr t l'))
        | none=>none
      | none=>none
     | some (.arro t' l i' o' c0)=>match cs with
      | [c]=>match Nat.beq o o' with
       | true=>match Nat.beq (t.sz U) (t'.sz U)with
        | true=>some (decide (i=i'),.tup [],pt J b (.arro t' l i' o' c))
        | false=>none
       | false=>match Cell.as (.slice t) (⟨.slice t',l⟩:Cell U.D)with
        | some l=>match xset U t l i o [c]with
         | some l'=>some (decide (i < l.length),.tup [],pt J b (.arro t l' i' o' c0))
         | none=>none
        | none=>none
      | _=>none
     | _=>none
    | false=>none
   | none=>none
  | _,_=>none
 | .nilCheck x=>match xop gl gd env x with
  | some (.c (.ptr b o))=>some (true,.c (.ptr b o),J)
  | some (.c (.eptr b t i o))=>some (true,.c (.eptr b t i o),J)
  | some (.c (.iptr t x o))=>some (true,.c (.iptr t x o),J)
  | _=>none
 | .bin op x y=>match xop gl gd env x,xop gl gd env y with
  | some (.c (.t p)),some (.c (.t q))=>match xbin op p q with
   | some (c,r)=>some (c,.c (.t r),J)
   | none=>none
  | _,_=>none
 | .eqAgg neg ks x y=>match xop gl gd env x,xop gl gd env y with
  | some (.agg p),some (.agg q)=>match xeqCs ks p q with
   | some r=>some (true,.c (.t ⟨.bool,match neg with | true=>!r | false=>r⟩),J)
   | none=>none
  | _,_=>none
 | .eqBool neg x y=>match xop gl gd env x,xop gl gd env y with
  | some (.c (.t ⟨.bool,p⟩)),some (.c (.t ⟨.bool,q⟩))=>some (true,.c (.t ⟨.bool,match neg with | true=>!(eqB p q) | false=>eqB p q⟩),J)
  | _,_=>none
 | .not x=>match xop gl gd env x with
  | some (.c (.t ⟨.bool,b⟩))=>some (true,.c (.t ⟨.bool,!b⟩),J)
  | _=>none
 | .conv k x=>match xop gl gd env x with
  | some (.c (.t ⟨.int _,m⟩))=>some (true,.c (.t ⟨.int k,wrp k m⟩),J)
  | _=>none
 | .i2s x=>match xop gl gd env x with
  | some (.c (.t ⟨.int _,m⟩))=>some (true,.c (.t ⟨.str,dL m⟩),J)
  | _=>none
 | .s2s x=>match xop gl gd env x with
  | some (.c (.t ⟨.str,s⟩))=>some (true,.c (.t ⟨.str,s⟩),J)
  | _=>none
 | .fldA off x=>match xop gl gd env x with
  | some (.c (.ptr b o))=>some (true,.c (.ptr b (o+off)),J)
  | some (.c (.eptr b t i o))=>some (true,.c (.eptr b t i (o+off)),J)
  | some (.c (.iptr t x o))=>some (true,.c (.iptr t x (o+off)),J)
  | _=>none
 | .fld agg off k x=>match xop gl gd env x with
  | some (.agg cs)=>match dh agg k cs off with
   | some v=>some (true,v,J)
   | none=>none
  | _=>none
 | .idxA sz x i=>match xop gl gd env x,xop gl gd env i with
  | some (.c (.t ⟨.slice t,l⟩)),some (.c (.t ⟨.int _,m⟩))=>match Nat.beq (t.sz U) sz with
   | true=>some (inR m l.length,.c (.iptr t (t.at U l (Int.toNat m)) 0),J)
   | false=>none
  | some (.c (.arr b)),some (.c (.t ⟨.int _,m⟩))=>match lk J b with
   | some (.arr t l)=>match Nat.beq (t.sz U) sz with
    | true=>some (inR m l.length,.c (.eptr b t (Int.toNat m) 0),J)
    | false=>none
   | _=>none
  | _,_=>none
 | .idxS x i=>match xop gl gd env x,xop gl gd env i with
  | some (.c (.t ⟨.str,s⟩)),some (.c (.t ⟨.int _,m⟩))=>some (inR m s.length,.c (.t ⟨.int .u8,aL s m⟩),J)
  | _,_=>none
 | .slcS x lo hi=>match xop gl gd env x,cA gl gd env lo,cA gl gd env hi with
  | some (.c (.t ⟨.str,s⟩)),some l,some h=>
   some (slR (l.getD 0) (h.getD (s.length:Int)) s.length,.c (.t ⟨.str,cutL s (l.getD 0) (h.getD (s.length:Int))⟩),J)
  | _,_,_=>none
 | .slc sz x lo hi=>match xop gl gd env x,cA gl gd env lo,cA gl gd env hi with
  | some (.c (.t ⟨.slice t,s⟩)),some l,some h=>match Nat.beq (t.sz U) sz with
   | true=>some (slR (l.getD 0) (h.getD (s.length:Int)) s.length,.c (.t ⟨.slice t,cutL s (l.getD 0) (h.getD (s.length:Int))⟩),J)
   | false=>none
  | some (.c (.arr b)),some none,some h=>match lk J b with
   | some (.arr t s)=>match Nat.beq (t.sz U) sz with
    | true=>some (slR 0 (h.getD (s.length:Int)) s.length,.c (.pre b (Int.toNat (h.getD (s.length:Int)))),J)
    | false=>none
   | _=>none
  | some (.c (.arr b)),some (some lo),some h=>match lk J b with
   | some (.arr t s)=>match Nat.beq (t.sz U) sz with
    | true=>some (slR lo (h.getD (s.length:Int)) s.length,.c (.suf b (Int.toNat lo) (Int.toNat (h.getD (s.length:Int)) - Int.toNat lo)),J)
    | false=>none
   | _=>none
  | _,_,_=>none
 | .slc0 x=>match xop gl gd env x with
  | some (.c (.t ⟨.slice _,_⟩))=>some (true,.c .cap0,J)
  | some (.c .cap0)=>some (true,.c .cap0,J)
  | some (.c (.arr _))=>some (true,.c .cap0,J)
  | _=>none
 | .mkfn f caps=>match xops' gl gd env caps with
  | some vs=>match xcaps vs with
   | some l=>some (true,.c (.fn f l),J)
   | none=>none
  | none=>none
 | .ext x i=>match xop gl gd env x with
  | some (.tup vs)=>match vs[i]? with
   | some v=>some (true,v,J)
   | none=>none
  | _=>none
 | .len str x=>match str,xop gl gd env x with
  | true,some (.c (.t ⟨.str,s⟩))=>some (true,.c (.t ⟨.int .i64,(s.length:Int)⟩),J)
  | false,some (.c (.bufc b))=>match lk J b with
   | some (.buf _ s)=>some (true,.c (.t ⟨.int .i64,(s.length:Int)⟩),J)
   | _=>none
  | false,some v=>match xes J v with
   | some e=>some (true,.c (.t ⟨.int .i64,(e.1.len:Int)⟩),J)
   | none=>none
  | _,_=>none
 | .append te sz bytes x y=>match xop gl gd env x,xop gl gd env y with
  | some (.c .cap0),some v=>match xes J v with
   | some (ye,_)=>match ye.blk sz with
    | some blk=>some (room bytes ye.len,.c (.arr n),pt J n blk)
    | none=>none
   | none=>none
  | some (.c (.arr b)),some v=>match xes J (.c (.arr b)),xes J v with
   | some (xe,_),some (ye,yb)=>match (match yb with | some b'=>Nat.beq b' b | none=>false)with
    | true=>none
    | false=>match xsz J b sz with
     | false=>none
     | true=>match xe.join ye with
      | some ze=>match ze.blk sz with
       | some blk=>some (room bytes ze.len,.c (.arr n),pt (dl J b) n blk)
       | none=>none
      | none=>none
   | _,_=>none
  | some (.c (.pre b h)),some (.c (.suf b' lo len))=>match Nat.beq b b' with
   | true=>match lk J b with
    | some (.arr t l)=>match Nat.beq (t.sz U) sz with
     | true=>some (decide (h+len<=l.length) && decide (lo+len<=l.length),.c (.arr n),pt (dl J b) n (.arr t (l.take h++(l.drop lo).take len)))
     | false=>none
    | _=>none
   | false=>none
  | some (.c (.bufc b)),some (.c (.t ⟨.slice (.int .u8),ys⟩))=>match lk J b with
   | some (.buf e' l)=>match Nat.beq e' te && Nat.beq sz 1 with
    | true=>some (room bytes (List.length l+List.length (strOf ys)) && kU ys,.c (.bufc n),pt (dl J b) n (.buf e' (catS l (strOf ys))))
    | false=>none
   | _=>none
  | _,_=>none
 | .appendT _ sz bytes x y=>match xop gl gd env x,xop gl gd env y with
  | some (.c (.arr b)),some v=>match xes J (.c (.arr b)),xes J v with
   | some (xe,_),some (ye,yb)=>match (match yb with | some b'=>Nat.beq b' b | none=>false)with
    | true=>none
    | false=>match xsz J b sz with
     | false=>none
     | true=>match xe.join ye with
      | some (.ty t l)=>match Nat.beq (t.sz U) sz with
       | true=>some (room bytes l.length,.c (.t ⟨.slice t,l⟩),dl J b)
       | false=>none
      | _=>none
   | _,_=>none
  | _,_=>none
 | .max2 x y=>match xop gl gd env x,xop gl gd env y with
  | some (.c (.t ⟨.int k,a⟩)),some (.c (.t ⟨.int k',b⟩))=>if k=k' then some (true,.c (.t ⟨.int k,maxI a b⟩),J)else none
  | _,_=>none
 | .min2 x y=>match xop gl gd env x,xop gl gd env y with
  | some (.c (.t ⟨.int k,a⟩)),some (.c (.t ⟨.int k',b⟩))=>if k=k' then some (true,.c (.t ⟨.int k,minI a b⟩),J)else none
  | _,_=>none
 | .eqNil .. | .call .. | .callv .. =>none
end
section
open Go
variable [GV]
variable {U:Uni}
inductive CR (N:Nat) (J:XSt U):XC U->C->Prop
 | t (c:Cell U.D):CR N J (.t c) (.t (c.enc U))
 | ptr (b o:Nat):CR N J (.ptr b o) (.ptr b o)
 | eptr (b:Nat) (t:Ty) (i o:Nat):CR N J (.eptr b t i o) (.eptr b (t.sz U) i o)
 | iptr (t:Ty) (x:t.den U.D) (o:Nat):CR N J (.iptr t x o) (.iptr (t.enc U x) o)
 | arr (b sz n:Nat) (hb:b < N) (h:∀x,lk J b=some x->∀p,x.dim=some p->p=(sz,n)):CR N J (.arr b) (.arr b sz 0 n)
 | sub (b lo len:Nat):CR N J (.sub b lo len) (.win b 1 lo len)
 | pre (b sz h:Nat) (hb:b < N) (hz:∀x,lk J b=some x->∀p,x.dim=some p->p.1=sz):CR N J (.pre b h) (.arr b sz 0 h)
 | suf (b sz lo len:Nat) (hb:b < N) (hz:∀x,lk J b=some x->∀p,x.dim=some p->p.1=sz):CR N J (.suf b lo len) (.win b sz lo len)
 | mp (b:Nat):CR N J (.mp b) (.mp b)
 | sptr (b:Nat):CR N J (.sptr b) (.sptr b)
 | bufc (b n:Nat) (hb:b < N) (h:∀x,lk J b=some x->∀p,x.dim=some p->p=(1,n)):CR N J (.bufc b) (.bufc b n)
 | cap0:CR N J .cap0 .cap0
 | nilp:CR N J .nilp .nilp
 | nilfn:CR N J .nilfn .nilfn
 | fn (f:Nat) (caps:List Nat):CR N J (.fn f caps) (.fn f caps)
 | dead (d:C):CR N J .dead d
inductive VR (N:Nat) (J:XSt U):XV U->V->Prop
 | c {x d}:CR N J x d->VR N J (.c x) (.c d)
 | agg {xs ds}:All2 (CR N J) xs ds->VR N J (.agg xs) (.agg ds)
 | tup (xs:List (XV U)) (ds:List V) (hl:xs.length=ds.length) (h:∀(i:Nat) x d,xs[i]?=some x->ds[i]?=some d->VR N J x d):VR N J (.tup xs) (.tup ds)
inductive BR (N:Nat) (J:XSt U):XB U->Blk->Prop
 | box {cs ds}:All2 (CR N J) cs ds->BR N J (.box cs) (.box ds)
 | arr (t:Ty) (l:List (t.den U.D)):BR N J (.arr t l) (.arr (t.sz U) (l.map (t.enc U)))
 | set (ks:List (List UInt8)):BR N J (.set ks) (.set ks)
 | buf (E:Nat) (s:List UInt8):BR N J (.buf E s) (.buf E s)
 | bld {E c d}:CR N J c d->BR N J (.bld E c) (.bld E d)
 | arro (t:Ty) (l:List (t.den U.D)) (i o:Nat) {c d}:CR N J c d->BR N J (.arro t l i o c) (.arro (t.sz U) (l.map (t.enc U)) i o d)
 | rows {sz r es}:All2 (fun r e=>xts r=some e) r es->(∀x,x∈r->x.length=sz)->BR N J (.rows sz r) (.arr sz es)
def SR(N:Nat)(J:XSt U)(J1:Store):Prop:=∀b x,lk J b=some x->b < N/\∃y,sget J1 b=some y/\BR N J x y
def ER(N:Nat)(J:XSt U)(G:Nat->Bool)(env:XEnv U)(env1:Env):Prop:=∀k v,lk env k=some v->∃v1,look env1 k=some (G k,v1)/\VR N J v v1
structure HG (gl:GL) (env:XEnv U) (G:Nat->Bool):Prop where
 free:∀k,lk gl k=none->G k=true
 held:∀k t b,lk gl k=some (t,b)->∃y,bval env t b=some y/\G k=(G t && y)
def Keep(N:Nat)(J:XSt U)(N':Nat)(J':XSt U):Prop:=N<=N'/\∀b x',b < N->lk J' b=some x'->∃x,lk J b=some x/\∀p,x'.dim=some p->x.dim=some p
theorem Keep.refl{N:Nat}{J:XSt U}:Keep N J N J:=⟨Nat.le_refl _,fun _ x _ h=>⟨x,h,fun _ h=>h⟩⟩
theorem Keep.more{N N':Nat}{J:XSt U}(h:N<=N'):Keep N J N' J:=⟨h,fun _ x _ h=>⟨x,h,fun _ h=>h⟩⟩
theorem Keep.trans{N1 N2 N3:Nat}{s1 s2 s3:XSt U}(h:Keep N1 s1 N2 s2)(k:Keep N2 s2 N3 s3):Keep N1 s1 N3 s3:=
 ⟨Nat.le_trans h.1 k.1,fun b x hb hx=>let⟨y,h1,h2⟩:=k.2 b x (Nat.lt_of_lt_of_le hb h.1) hx;let⟨z,h3,h4⟩:=h.2 b y hb h1;⟨z,h3,fun p hp=>h4 p (h2 p hp)⟩⟩
section
variable {N N':Nat} {J J':XSt U} {J1:Store} {env:XEnv U} {env1:Env} {G:Nat->Bool} {gl:GL} {gd:Option (Nat×Bool)}
theorem CR.mono(k:Keep N J N' J'){x:XC U}{d:C}(h:CR N J x d):CR N' J' x d:=by
 cases h with
 | t c=>exact .t c
 | ptr b o=>exact .ptr b o
 | eptr b t i o=>exact .eptr b t i o
 | iptr t x o=>exact .iptr t x o
 | arr b sz n hb h=>
  refine .arr b sz n (Nat.lt_of_lt_of_le hb k.1) fun x hx p hp=>?_
  obtain⟨y,h1,h2⟩:=k.2 b x hb hx
  grind
 | sub b lo len=>exact .sub b lo _
 | pre b sz n hb h=>
  refine .pre b sz n (Nat.lt_of_lt_of_le hb k.1) fun x hx p hp=>?_
  obtain⟨y,h1,h2⟩:=k.2 b x hb hx
  grind
 | suf b sz lo len hb h=>
  refine .suf b sz lo _ (Nat.lt_of_lt_of_le hb k.1) fun x hx p hp=>?_
  obtain⟨y,h1,h2⟩:=k.2 b x hb hx
  grind
 | mp b=>exact .mp b
 | sptr b=>exact .sptr b
 | bufc b n hb h=>
  refine .bufc b n (Nat.lt_of_lt_of_le hb k.1) fun x hx p hp=>?_
  obtain⟨y,h1,h2⟩:=k.2 b x hb hx
  grind
 | cap0=>exact .cap0
 | nilp=>exact .nilp
 | nilfn=>exact .nilfn
 | fn f caps=>exact .fn f _
 | dead d=>exact .dead d
theorem VR.mono(k:Keep N J N' J'){x:XV U}{d:V}(h:VR N J x d):VR N' J' x d:=by
 induction h with
 | c h=>exact .c (h.mono k)
 | agg h=>exact .agg (h.imp fun _ _ _=>CR.mono k)
 | tup xs ds hl h ih=>exact .tup xs ds hl ih
theorem BR.mono(k:Keep N J N' J'){x:XB U}{d:Blk}(h:BR N J x d):BR N' J' x d:=by
 cases h with
 | box h=>exact .box (h.imp fun _ _ _=>CR.mono k)
 | arr t l=>exact .arr t l
 | set ks=>exact .set ks
 | buf E s=>exact .buf E s
 | bld h=>exact .bld (h.mono k)
 | arro t l i o h=>exact .arro t l i o (h.mono k)
 | rows h h2=>exact .rows h h2
theorem ER.mono(k:Keep N J N' J')(h:ER N J G env env1):ER N' J' G env env1:=fun i v hi=>let⟨v1,h1,h2⟩:=h i v hi;⟨v1,h1,h2.mono k⟩
theorem SR.put(h:SR N J J1){b:Nat}{x:XB U}{y:Blk}(hb:b < N')(k:Keep N J N' (pt J b x))(hr:BR N' (pt J b x) x y):SR N' (pt J b x) (sput J1 b y):=by
 intro c z hz;rw[lk_pt]at hz;rw[ag];by_cases hbc:b=c
 . grind
 . rw[if_neg hbc]at hz ⊢;obtain⟨h1,y',h2,h3⟩:=h c z hz;exact⟨Nat.lt_of_lt_of_le h1 k.1,y',h2,h3.mono k⟩
theorem bn{x:XB U}(h:N<=N'):Keep N J N' (pt J N x):=by
 refine⟨h,fun b x' hb hx=>?_⟩
 grind[lk_pt]
theorem cq{b:Nat}{x x0:XB U}(h:N<=N')(h0:lk J b=some x0)(hd:∀p,x.dim=some p->x0.dim=some p):Keep N J N' (pt J b x):=by
 refine⟨h,fun c x' hb hx=>?_⟩
 grind[lk_pt]
theorem cN{b:Nat}:Keep N J N (dl J b):=by
 refine⟨Nat.le_refl _,fun c x' hb hx=>?_⟩
 grind[lk_dl]
theorem nk{d:C}{x:XC U}(h:xofC d=some x):CR N J x d:=by
 unfold xofC at h;split at h <;> cases h
 . exact CR.t _
 . exact CR.t _
 . exact CR.t (U:=U) _
 . exact .cap0
 . exact .nilp
 . exact .nilfn
 . exact .dead _
 . exact .fn _ _
theorem cY :∀{ds:List C} {xs:List (XC U)},xofCs ds=some xs->All2 (CR N J) xs ds
 | [],xs,h=>by simp[xofCs]at h;subst h;exact .nil
 | d::ds,xs,h=>by
  simp[xofCs]at h;split at h
  . rename_i x ys h1 h2;cases h;exact .cons (nk h1) (cY h2)
  grind
theorem nn{d:V}{x:XV U}(h:xofV d=some x):VR N J x d:=by
 cases d with
 | c d=>
  simp[xofV]at h;split at h
  . rename_i y hy;cases h;exact .c (nk hy)
  grind
 | agg ds=>
  simp[xofV]at h;split at h
  . rename_i y hy;cases h;exact .agg (cY hy)
  grind
 | tup _=>grind[xofV]
def GdV(env:XEnv U)(G:Nat->Bool):Option (Nat×Bool)->Bool
 | none=>true
 | some (t,b)=>G t && (bval env t b).getD false
theorem HG.lk(hg:HG gl env G)(k:Nat):GdV env G (lk gl k)=G k:=by
 cases h:Shv.lk gl k with
 | none=>exact(hg.free k h).symm
 | some g=>
  obtain⟨t,b⟩:=g;obtain⟨y,h1,h2⟩:=hg.held k t b h
  grind[GdV]
theorem gT(hg:HG gl env G):∀{fu:Nat} {gd:Option (Nat×Bool)} {g:Bool},gval gl env fu gd=some g->g=GdV env G gd
 | _,none,g,h=>by unfold gval at h;simp at h;subst h;rfl
 | 0,some _,g,h=>by grind[gval]
 | fu+1,some (t,b),g,h=>by
  simp[gval]at h;split at h
  . rename_i x y h1 h2;cases h;rw[gT hg h1,hg.lk t]
    grind[GdV]
  grind
theorem vu :∀{fu:Nat} {t:Nat} {b:Bool} {g:Bool},gval gl env fu (some (t,b))=some g->∃y,bval env t b=some y
 | 0,t,b,g,h=>by grind[gval]
 | fu+1,t,b,g,h=>by
  grind[gval]
theorem VR.c_inv{x:XC U}{v1:V}(h:VR N J (.c x) v1):∃d,v1= .c d/\CR N J x d:=by cases h <;>grind
theorem VR.agg_inv{xs:List (XC U)}{v1:V}(h:VR N J (.agg xs) v1):∃ds,v1= .agg ds/\All2 (CR N J) xs ds:=by cases h <;>grind
theorem VR.t_inv{c:Cell U.D}{v1:V}(h:VR N J (.c (.t c)) v1):v1= .c (.t (c.enc U)):=by obtain⟨d,rfl,hh⟩:=h.c_inv;cases hh;rfl
theorem VR.bool_inv{b:Bool}{v1:V}(h:VR N J (.c (.t ⟨.bool,b⟩)) v1):v1= .c (.t (.bool b)):=h.t_inv
theorem VR.int_inv{k:IntKind}{m:Int}{v1:V}(h:VR N J (.c (.t ⟨.int k,m⟩)) v1):v1= .c (.t (.int k m)):=h.t_inv
theorem VR.str_inv{s:List UInt8}{v1:V}(h:VR N J (.c (.t ⟨.str,s⟩)) v1):v1= .c (.t (.str s)):=h.t_inv
theorem VR.slice_inv{t:Ty}{l:List (t.den U.D)}{v1:V}(h:VR N J (.c (.t ⟨.slice t,l⟩)) v1):v1= .c (.t (.slice (l.map (t.enc U)))):=h.t_inv
theorem VR.ptr_inv{b o:Nat}{v1:V}(h:VR N J (.c (.ptr b o)) v1):v1= .c (.ptr b o):=by obtain⟨d,rfl,hh⟩:=h.c_inv;cases hh;rfl
theorem VR.eptr_inv{b i o:Nat}{t:Ty}{v1:V}(h:VR N J (.c (.eptr b t i o)) v1):v1= .c (.eptr b (t.sz U) i o):=by obtain⟨d,rfl,hh⟩:=h.c_inv;cases hh;rfl
theorem VR.iptr_inv{o:Nat}{t:Ty}{x:t.den U.D}{v1:V}(h:VR N J (.c (.iptr t x o)) v1):v1= .c (.iptr (t.enc U x) o):=by obtain⟨d,rfl,hh⟩:=h.c_inv;cases hh;rfl
theorem VR.cap0_inv{v1:V}(h:VR N J (.c .cap0) v1):v1= .c .cap0:=by obtain⟨d,rfl,hh⟩:=h.c_inv;cases hh;rfl
theorem VR.arr_inv{b:Nat}{v1:V}(h:VR N J (.c (.arr b)) v1):∃sz n,v1= .c (.arr b sz 0 n)/\b < N/\∀x,Shv.lk J b=some x->∀p,x.dim=some p->p=(sz,n):=by
 obtain⟨d,rfl,hh⟩:=h.c_inv;cases hh <;>grind
theorem VR.mp_inv{b:Nat}{v1:V}(h:VR N J (.c (.mp b)) v1):v1= .c (.mp b):=by obtain⟨d,rfl,hh⟩:=h.c_inv;cases hh;rfl
theorem VR.sptr_inv{b:Nat}{v1:V}(h:VR N J (.c (.sptr b)) v1):v1= .c (.sptr b):=by obtain⟨d,rfl,hh⟩:=h.c_inv;cases hh;rfl
theorem VR.bufc_inv{b:Nat}{v1:V}(h:VR N J (.c (.bufc b)) v1):∃n,v1= .c (.bufc b n)/\b < N/\∀x,Shv.lk J b=some x->∀p,x.dim=some p->p=(1,n):=by
 obtain⟨d,rfl,hh⟩:=h.c_inv;cases hh <;>grind
theorem VR.fn_inv{f:Nat}{caps:List Nat}{v1:V}(h:VR N J (.c (.fn f caps)) v1):v1= .c (.fn f caps):=by
 obtain⟨d,rfl,hh⟩:=h.c_inv;cases hh;rfl
theorem vw{t:Nat}{b y:Bool}(he:ER N J G env env1)(h:bval env t b=some y):∃x,look env1 t=some (G t,.c (.t (.bool x)))/\y=(x==b):=by
 unfold bval at h;split at h
 . rename_i x hx;cases h;obtain⟨v1,h1,h2⟩:=he t _ hx;have:=h2.bool_inv
   grind
 grind
theorem gW(he:ER N J G env env1)(h:gd=none\/∃t b y,gd=some (t,b)/\bval env t b=some y):aI env1 gd=some (GdV env G gd):=by
 grind[vw,aI,GdV]
theorem gU(hg:HG gl env G):∀{fu:Nat} {gd:Option (Nat×Bool)} {k:Nat},GdV env G gd=true->subG gl fu gd k=true->G k=true
 | 0,gd,k,_,h=>by grind[subG]
 | fu+1,gd,k,hd,h=>by
  simp[subG]at h;split at h
  . rename_i hk;exact hg.free k hk
  . rename_i g' hk;split at h
    . grind
    . rename_i g;obtain⟨t,b⟩:=g;obtain⟨t',b'⟩:=g';simp only[Bool.or_eq_true,Bool.and_eq_true,beq_iff_eq]at h;rcases h with⟨h1,h2⟩ | h
      . have:=aj h1;subst this;subst h2;obtain⟨y,k1,k2⟩:=hg.held k t b hk
        grind[GdV]
      . refine gU hg ?_ h;rw[hg.lk t]
        grind[GdV]
theorem ab (he : ER N J G env env1) (hg : HG gl env G) {x : AO} {v : XV U} (h : xop gl gd env x = some v):
 ∃p v1,x.get env1=some (p,v1)/\VR N J v v1/\(GdV env G gd=true->p):=by
 cases x with
 | const d=>exact⟨True,d,rfl,nn h,fun _=>trivial⟩
 | tmp k=>
  simp[xop]at h;split at h
  . rename_i hs;obtain⟨v1,h1,h2⟩:=he k v h;exact⟨_,v1,by grind[AO.get],h2,fun hd=>gU hg hd hs⟩
  grind
theorem nZ (he : ER N J G env env1) (hg : HG gl env G) {c x : AO} {b y : Bool} {v vc : XV U} (hc : xop gl gd env c = some vc) (hcb : vc = .c (.t ⟨.bool, y⟩)) (h : xpk gl gd env c b x = some v):
 ∃p v1,x.get env1=some (p,v1)/\VR N J v v1/\(GdV env G gd=true->y=b->p):=by
 cases x with
 | const d=>exact⟨True,d,rfl,nn h,fun _ _=>trivial⟩
 | tmp k=>
  simp[xpk]at h;split at h
  . rename_i hs;obtain⟨v1,h1,h2⟩:=he k v h;exact⟨_,v1,by grind[AO.get],h2,fun hd _=>gU hg hd hs⟩
  . split at h
    . rename_i kc t b' hk;split at h
      . rename_i hb;simp only[Bool.and_eq_true,beq_iff_eq]at hb;obtain⟨h1,rfl⟩:=hb;have:=aj h1;obtain⟨v1,h1,h2⟩:=he k v h;refine⟨G k=true,v1,by grind[AO.get],h2,fun hd hy=>?_⟩;simp[xop]at hc;split at hc
        . rename_i hs;have hG:=gU hg hd hs;obtain⟨y',k1,k2⟩:=hg.held k t b' hk
          grind[bval]
        grind
      grind
    grind
theorem dE (he : ER N J G env env1) (hg : HG gl env G): ∀ {xs : List AO} {vs : List (XV U)}, xops' gl gd env xs = some vs ->
 ∃p vs1,gets env1 xs=some (p,vs1)/\All2 (VR N J) vs vs1/\(GdV env G gd=true->p)
 | [],vs,h=>by simp[xops']at h;subst h;exact⟨True,[],rfl,.nil,fun _=>trivial⟩
 | x::xs,vs,h=>by
  simp[xops']at h;split at h
  . rename_i v vs' h1 h2;cases h;obtain⟨p,v1,a1,a2,a3⟩:=ab he hg h1;obtain⟨q,vs1,b1,b2,b3⟩:=dE he hg h2;exact⟨p/\q,v1::vs1,by grind[gets],.cons a2 b2,fun hd=>⟨a3 hd,b3 hd⟩⟩
  grind
theorem cH{v:XV U}{v1:V}{cs:List (XC U)}(h:VR N J v v1)(hc:cT v=some cs):∃ds,cQ v1=some ds/\All2 (CR N J) cs ds:=by
 cases h with
 | c h=>simp[cT]at hc;subst hc;exact⟨_,rfl,.cons h .nil⟩
 | agg h=>simp[cT]at hc;subst hc;exact⟨_,rfl,h⟩
 | tup=>grind[cT]
theorem jB{cs cs':List (XC U)}{ds ds':List C}{o:Nat}(h:All2 (CR N J) cs ds)(h':All2 (CR N J) cs' ds'):All2 (CR N J) (xfill cs o cs') (fillC ds o ds'):=by
 unfold xfill fillC;rw[h'.length];exact((h.take o).append h').append (h.drop _)
theorem aV{a b:Nat}(h:Nat.ble a b=true):a<=b:=Nat.le_of_ble_eq_true h
theorem l8 (he : ER N J G env env1) (hg : HG gl env G): ∀ {ps : List (Nat×Nat×AO)} {cs cs' : List (XC U)} {ds : List C}, gi gl gd env cs ps = some cs' -> All2 (CR N J) cs ds ->
 ∃p ds',bx env1 ds ps=some (p,ds')/\All2 (CR N J) cs' ds'/\(GdV env G gd=true->p)
 | [],cs,cs',ds,h,hd=>by simp[gi]at h;subst h;exact⟨True,ds,rfl,hd,fun _=>trivial⟩
 | (o,n,x)::r,cs,cs',ds,h,hd=>by
  simp[gi]at h;split at h
  . grind
  . rename_i v hv;split at h
    . grind
    . rename_i es hes;split at h
      . rename_i hb;simp only[Bool.and_eq_true]at hb;have hb1:=aj hb.1;have hb2:=aV hb.2;obtain⟨p,v1,a1,a2,a3⟩:=ab he hg hv;obtain⟨fs,b1,b2⟩:=cH a2 hes;obtain⟨q,ds',c1,c2,c3⟩:=l8 he hg h (jB hd b2);refine⟨p/\q,ds',?_,c2,fun hd=>⟨a3 hd,c3 hd⟩⟩;simp only[bx,a1,oZ3,b1];rw[if_pos ⟨by rw[<-b2.length];grind,by rw[<-hd.length];grind⟩,c1]
        rfl
      grind
theorem uP{x:XC U}{d:C}{t:T}(h:CR N J x d)(ht:x.toT=some t):Shv.toT d=some t:=by
 cases h <;> simp[XC.toT]at ht
 . split at ht
   . grind
   . cases ht;rfl
 . subst ht;rfl
theorem fP :∀{cs:List (XC U)} {ds:List C} {ts:List T},All2 (CR N J) cs ds->xts cs=some ts->toTs ds=some ts
 | [],[],ts,_,h=>by simp[xts]at h;subst h;rfl
 | c::cs,d::ds,ts,.cons h1 h2,h=>by
  simp[xts]at h;split at h
  . rename_i t ts' ht hts;cases h;simp[toTs,uP h1 ht,fP h2 hts]
  grind
theorem jU :∀{cs:List (XC U)} {ts:List T},xts cs=some ts->ts.length=cs.length
 | [],ts,h=>by grind[xts]
 | c::cs,ts,h=>by
  simp[xts]at h;split at h
  . rename_i t ts' ht hts;cases h;simp[jU hts]
  grind
theorem All2.set{α β:Type}{R:α->β->Prop}{l:List α}{m:List β}(h:All2 R l m){i:Nat}{a:α}{b:β}(hab:R a b):All2 R (l.set i a) (m.set i b):=by
 induction h generalizing i with
 | nil=>exact .nil
 | cons h1 h2 ih=>cases i with
  | zero=>exact .cons hab h2
  | succ i=>exact .cons h1 ih
theorem jm (he : ER N J G env env1) (hg : HG gl env G) {sz : Nat}: ∀ {ps : List (Nat×AO)} {rs rs' : List (List (XC U))} {es : List (List T)}, eV gl gd env sz rs ps = some rs' ->
 All2 (fun r e=>xts r=some e) rs es->(∀r,r∈rs->r.length=sz)->∃p es',bf env1 sz es ps=some (p,es')/\All2 (fun r e=>xts r=some e) rs' es'/\(∀r,r∈rs'->r.length=sz)/\(GdV env G gd=true->p)
 | [],rs,rs',es,h,hr,hl=>by simp[eV]at h;subst h;exact⟨True,es,rfl,hr,hl,fun _=>trivial⟩
 | (i,x)::ps,rs,rs',es,h,hr,hl=>by
  simp[eV]at h;split at h
  . grind
  . rename_i v hv;split at h
    . grind
    . rename_i cs hcs;split at h
      . grind
      . rename_i ts hts;split at h
        . rename_i hb;simp only[Bool.and_eq_true]at hb;have hb1:=aj hb.1;have hb2:=aV hb.2;obtain⟨p,v1,a1,a2,a3⟩:=ab he hg hv;obtain⟨ds,b1,b2⟩:=cH a2 hcs;obtain⟨q,es',c1,c2,c4,c3⟩:=jm he hg h (All2.set hr hts) (by grind);refine⟨p/\q,es',?_,c2,c4,fun hd=>⟨a3 hd,c3 hd⟩⟩;simp only[bf,a1,oZ3,b1,fP b2 hts]
          rw[if_pos ⟨by grind[jU],by rw[<-hr.length];omega⟩,c1];rfl
        grind
end
end
section
open Go
variable [GV]
variable {U:Uni}
structure Snd (N:Nat) (J:XSt U) (J1:Store) (o:AOp) (env1:Env) (g c:Bool) (v:XV U) (J':XSt U):Prop where
 val:∃v1,VR (N+16) J' v v1/\(g=true->c=true->∃p J1',aval o env1 J1 N=some (p,v1,J1')/\p/\SR (N+16) J' J1')
 keep:Keep N J (N+16) J'
 neu:o.neutral=true->J'=J
section
variable {N N':Nat} {J J':XSt U} {J1:Store} {env:XEnv U} {env1:Env} {G:Nat->Bool} {gl:GL} {gd:Option (Nat×Bool)} {c:Bool} {v:XV U}
theorem SR.mono(h:SR N J J1)(hN:N<=N'):SR N' J J1:=fun b x hx=>
 let⟨h1,y,h2,h3⟩:=h b x hx;⟨Nat.lt_of_lt_of_le h1 hN,y,h2,h3.mono (Keep.more hN)⟩
theorem Snd.neutral{o:AOp}{g:Bool}(hS:SR N J J1){v1:V}(hv:VR N J v v1)(ha:g=true->c=true->∃p,aval o env1 J1 N=some (p,v1,J1)/\p):Snd N J J1 o env1 g c v J:=
 ⟨⟨v1,hv.mono (Keep.more (by simp)),fun hg hc=>let⟨p,h1,h2⟩:=ha hg hc;⟨p,J1,h1,h2,hS.mono (by simp)⟩⟩,Keep.more (by simp),fun _=>rfl⟩
theorem Snd.store{o:AOp}{g:Bool}(hn:o.neutral=false)(hk:Keep N J (N+16) J'){v1:V}(hv:VR (N+16) J' v v1)(ha:g=true->c=true->∃p J1',aval o env1 J1 N=some (p,v1,J1')/\p/\SR (N+16) J' J1'):Snd N J J1 o env1 g c v J':=
 ⟨⟨v1,hv,ha⟩,hk,fun h=>by grind⟩
theorem ef{agg:Bool}{k o:Nat}{cs:List (XC U)}{ds:List C}(hc:All2 (CR N J) cs ds)(h:dh agg k cs o=some v):∃v1,loadC agg k ds o=some v1/\VR N J v v1:=by
 unfold dh at h;split at h
 . split at h
   . cases h;refine⟨_,by simp only[loadC,if_true];rw[if_pos (by rw[<-hc.length];simp_all)],.agg ((hc.drop o).take k)⟩
   grind
 . split at h
   . rename_i x hx;cases h;obtain⟨d,h1,h2⟩:=hc.get hx;exact⟨_,by grind[loadC],.c h2⟩
   grind
theorem All2.map_map{α β γ δ:Type}{R:γ->δ->Prop}{f:α->γ}{g:β->δ}:∀{l:List α} {m:List β},All2 (fun a b=>R (f a) (g b)) l m->All2 R (l.map f) (m.map g)
 | [],[],_=>.nil
 | _::_,_::_,.cons h1 h2=>.cons h1 (All2.map_map h2)
theorem All2.self{α:Type}{R:α->α->Prop}(h:∀a,R a a):∀(l:List α),All2 R l l
 | []=>.nil
 | a::l=>.cons (h a) (All2.self h l)
theorem fQ{t:Ty}{x:t.den U.D}:All2 (CR N J) ((t.row U x).map .t) ((t.enc U x).map .t):=by
 rw[Ty.enc_row,List.map_map];exact All2.map_map (All2.self (fun c=>CR.t c) _)
theorem j8{agg:Bool}{k o:Nat}{ts:List T}{v:V}(hl:loadC agg k (ts.map .t) o=some v):loadT agg k ts o=some v:=by
 unfold loadC at hl;unfold loadT;cases agg <;>simp_all
theorem tM{op:BinOp}{p q:Cell U.D}{r:Cell U.D}(h:xbin op p q=some (c,r)):∃pr,binT op (p.enc U) (q.enc U)=some (pr,r.enc U)/\(c=true->pr):=by
 unfold xbin at h;split at h
 . rename_i k a k' b;show ∃pr,binT op (.int k a) (.int k' b)=some (pr,r.enc U)/\(c=true->pr);cases op <;> simp only[xbinI,reduceCtorEq,Option.ite_none_right_eq_some]at h
   all_goals first
    | (obtain⟨rfl,rfl,rfl⟩:=h;exact⟨_,by simp only[binT];rfl,fun h=>by simpa using h⟩)
    | (obtain⟨rfl,rfl⟩:=h)
    | (obtain⟨rfl,rfl,rfl⟩:=h)
 . rename_i a b;cases op <;> simp only[xbinS,Prod.mk.injEq]at h
   all_goals first
    | (obtain⟨rfl,rfl⟩:=h;exact⟨_,by rfl,fun h=>by simpa using h⟩)
    | (obtain⟨rfl,rfl⟩:=h)
 . cases h
theorem tN{k:Nat}{x y:Cell U.D}{b:Bool}(h:xeqT k x y=some b):eqT k (x.enc U) (y.enc U)=some b:=by
 unfold xeqT at h;split at h
 . cases h;rfl
 . simp at h;obtain⟨rfl,rfl⟩:=h;show(if _ then _ else _)=_;rw[if_pos rfl];rfl
 . cases h;rfl
 grind
theorem mw :∀{ks:List Nat} {xs ys:List (XC U)} {ds es:List C} {b:Bool},xeqCs ks xs ys=some b->All2 (CR N J) xs ds->All2 (CR N J) ys es->eqCs ks ds es=some b
 | [],[],[],[],[],b,h,.nil,.nil=>by simp[xeqCs]at h;subst h;rfl
 | k::ks,.t x::xs,.t y::ys,d::ds,e::es,b,h,.cons h1 h2,.cons h3 h4=>by
  simp[xeqCs]at h;split at h
  . rename_i b1 r hb hr;cases h;cases h1;cases h3;simp[eqCs,tN hb,mw hr h2 h4]
  grind
theorem my{a b:List UInt8}:(catS a b).length=a.length+b.length:=List.length_append
theorem we{a b:Int}:eqI a b=true↔a=b:=by simp[eqI]
theorem de{m:Int}{n:Nat}:inR m n=true↔0<=m/\m.toNat < n:=by simp[inR]
theorem bS{lo hi:Int}{n:Nat}:slR lo hi n=true↔0<=lo/\lo<=hi/\hi<=n:=by simp[slR]
theorem wV {t : Ty} {s : List (t.den U.D)} {l r : Option Int} {pp pl pr : Prop} {sz : Nat} {J1 : Store}:
 (some (pp/\pl/\pr/\0<=l.getD 0/\l.getD 0<=r.getD ((List.map (t.enc U) s).length:Int)/\r.getD ((List.map (t.enc U) s).length:Int)<=((List.map (t.enc U) s).length:Int)/\∀e,e∈List.map (t.enc U) s->e.length=sz,
  V.c (C.t (T.slice (((List.map (t.enc U) s).take (r.getD ((List.map (t.enc U) s).length:Int)).toNat).drop (l.getD 0).toNat))),J1):ARes)=
 some (pp/\pl/\pr/\0<=l.getD 0/\l.getD 0<=r.getD (s.length:Int)/\r.getD (s.length:Int)<=(s.length:Int)/\∀e,e∈List.map (t.enc U) s->e.length=sz,
  V.c (C.t (Cell.enc U ⟨.slice t,cutL s (l.getD 0) (r.getD (s.length:Int))⟩)),J1):=by
 have:Cell.enc U ⟨.slice t,cutL s (l.getD 0) (r.getD s.length)⟩=T.slice (List.map (t.enc U) _):=rfl
 grind[cutL,List.map_drop,List.map_take]
theorem wW{α β:Type}{f:α->β}{l:List α}{p:Prop}{J1:Store}:(some (p,V.c (C.t (T.int .i64 ((l.map f).length:Int))),J1):ARes)=some (p,V.c (C.t (.int .i64 (l.length:Int))),J1):=by simp
theorem eW{α β:Type}{f:α->β}{l:List α}{i:Nat}(h:i < l.length):i < (l.map f).length:=by grind
theorem All2.replicate{α β:Type}{R:α->β->Prop}{a:α}{b:β}(h:R a b):∀n:Nat,All2 R (List.replicate n a) (List.replicate n b)
 | 0=>.nil
 | n+1=>.cons h (All2.replicate h n)
theorem iZ :∀{xs:List (XC U)} {tys:List Ty} {es:List C} {row:List (Cell U.D)},ba tys xs=some row->All2 (CR N J) xs es->toTs es=some (row.map (Cell.enc U))
 | [],tys,es,row,h1,h2=>by
  cases h2;cases tys <;> simp[ba]at h1
  subst h1;rfl
 | y::ys,[],es,row,h1,h2=>by grind[ba]
 | y::ys,ty::tys,_::_,row,h1,.cons h2 h3=>by
  cases h2 with
  | t c=>cases ty <;> simp only[ba]at h1 <;> (split at h1 <;> first | (cases h1;done) | (rename_i q hq;cases h1;simp[toTs,toT,iZ hq h3]))
  | cap0=>
   cases ty <;> simp[ba]at h1
   split at h1
   . rename_i q hq;cases h1;simp[toTs,iZ hq h3];rfl
   grind
  | _=>grind[ba]
theorem lM{sz:Nat}:∀{ps:List (Nat×AO)} {es es':List (List T)} {p:Prop},bf env1 sz es ps=some (p,es')->es'.length=es.length
 | [],es,es',p,h=>by grind[bf]
 | (i,x)::ps,es,es',p,h=>by
  simp only[bf,oZ2,Option.ite_none_right_eq_some,oZ1]at h;obtain⟨a,_,cs,_,ts,_,_,b,hb,_,rfl⟩:=h;have:=lM hb
  grind
theorem jV {t : Ty} {l l' : List (t.den U.D)} {i o : Nat} {cs : List (XC U)} {ds : List C} (h : xset U t l i o cs = some l') (hi : i < l.length) (hc : All2 (CR N J) cs ds) (hle : o + cs.length <= t.sz U):
 ∃ts,toTs ds=some ts/\l'.map (t.enc U)=(l.map (t.enc U)).set i ((el (l.map (t.enc U)) i).take o++ts++(el (l.map (t.enc U)) i).drop (o+cs.length)):=by
 unfold xset at h;split at h
 . rename_i x hx;cases h;unfold xmk at hx;split at hx
   . rename_i row hrow;have hr:=Ty.mk_row hx;have key:=@iZ _ U N J;have hrowR:All2 (CR N J) ((t.row U (t.at U l i)).map .t) _:=fQ;have hfill:=jB (o:=o) hrowR hc;have h1:=key hrow hfill
     have happ:∀{a b:List C} {r:List T},toTs (a++b)=some r->∃p q,toTs a=some p/\toTs b=some q/\r=p++q:=by
      intro a
      induction a with
      | nil=>intro b r h;exact⟨[],r,rfl,h,rfl⟩
      | cons c a ih=>
       intro b r h;simp[toTs,oZ2,oZ1]at h
       grind[toTs]
     have hmapT:∀(ts:List T),toTs (ts.map .t)=some ts:=by
      intro ts
      induction ts with
      | nil=>rfl
      | cons a ts ih=>grind[toTs,toT]
     obtain⟨p,q,e1,e2,e3⟩:=happ h1;obtain⟨p',q',f1,f2,f3⟩:=happ e1;rw[<-List.map_take,hmapT]at f1;cases f1;rw[<-List.map_drop,hmapT]at e2;cases e2;refine⟨q',f2,?_⟩;rw[List.map_set,gh hi,Ty.enc_row,hr,e3,f3,hc.length]
   grind
 grind
variable (he:ER N J G env env1) (hg:HG gl env G) (hS:SR N J J1)
section
include he hg hS
theorem x_mov{x:AO}(h:xval gl gd env J N (.mov x)=some (c,v,J')):Snd N J J1 (.mov x) env1 (GdV env G gd) c v J':=by
 simp[xval]at h;split at h
 . rename_i w hw;cases h;obtain⟨p,v1,a1,a2,a3⟩:=ab he hg hw;exact .neutral hS a2 fun hd _=>⟨p,by grind[aval],a3 hd⟩
 grind
theorem wX{x y z:AO}(h:xval gl gd env J N (.pick x y z)=some (c,v,J')):Snd N J J1 (.pick x y z) env1 (GdV env G gd) c v J':=by
 simp[xval]at h;split at h
 . rename_i b p q h1 h2 h3;cases h;obtain⟨p1,v1,a1,a2,a3⟩:=ab he hg h1;obtain⟨p2,v2,b1,b2,b3⟩:=nZ he hg h1 rfl h2;obtain⟨p3,v3,c1,c2,c3⟩:=nZ he hg h1 rfl h3;have:=a2.bool_inv;subst this;have:=b2.bool_inv;subst this;have:=c2.bool_inv;subst this
   refine .neutral hS (.c (.t _)) fun hd _=>⟨p1/\(b=true->p2)/\(b=false->p3),by simp only[aval,a1,b1,c1];rfl,a3 hd,b3 hd,c3 hd⟩
 grind
theorem tO{x:AO}(h:xval gl gd env J N (.nilCheck x)=some (c,v,J')):Snd N J J1 (.nilCheck x) env1 (GdV env G gd) c v J':=by
 simp[xval]at h;split at h
 . rename_i b o hw;cases h;obtain⟨p,v1,a1,a2,a3⟩:=ab he hg hw;have:=a2.ptr_inv;subst this;exact .neutral hS a2 fun hd _=>⟨p,by simp[aval,a1],a3 hd⟩
 . rename_i b t i o hw;cases h;obtain⟨p,v1,a1,a2,a3⟩:=ab he hg hw;have:=a2.eptr_inv;subst this;exact .neutral hS a2 fun hd _=>⟨p,by simp[aval,a1],a3 hd⟩
 . rename_i t x' o hw;cases h;obtain⟨p,v1,a1,a2,a3⟩:=ab he hg hw;have:=a2.iptr_inv;subst this;exact .neutral hS a2 fun hd _=>⟨p,by simp[aval,a1],a3 hd⟩
 grind
theorem x_not{x:AO}(h:xval gl gd env J N (.not x)=some (c,v,J')):Snd N J J1 (.not x) env1 (GdV env G gd) c v J':=by
 simp[xval]at h;split at h
 . rename_i b hw;cases h;obtain⟨p,v1,a1,a2,a3⟩:=ab he hg hw;have:=a2.bool_inv;subst this;exact .neutral hS (.c (.t _)) fun hd _=>⟨p,by simp[aval,a1];rfl,a3 hd⟩
 grind
theorem wY{k:IntKind}{x:AO}(h:xval gl gd env J N (.conv k x)=some (c,v,J')):Snd N J J1 (.conv k x) env1 (GdV env G gd) c v J':=by
 simp only[xval]at h;split at h
 . rename_i k' m hw;cases h;obtain⟨p,v1,a1,a2,a3⟩:=ab he hg hw;have:=a2.int_inv;subst this;exact .neutral hS (.c (.t _)) fun hd _=>⟨p,by simp[aval,a1];rfl,a3 hd⟩
 grind
theorem x_i2s{x:AO}(h:xval gl gd env J N (.i2s x)=some (c,v,J')):Snd N J J1 (.i2s x) env1 (GdV env G gd) c v J':=by
 simp[xval]at h;split at h
 . rename_i k' m hw;cases h;obtain⟨p,v1,a1,a2,a3⟩:=ab he hg hw;have:=a2.int_inv;subst this;exact .neutral hS (.c (.t _)) fun hd _=>⟨p,by simp[aval,a1];rfl,a3 hd⟩
 grind
theorem x_s2s{x:AO}(h:xval gl gd env J N (.s2s x)=some (c,v,J')):Snd N J J1 (.s2s x) env1 (GdV env G gd) c v J':=by
 simp[xval]at h;split at h
 . rename_i s hw;cases h;obtain⟨p,v1,a1,a2,a3⟩:=ab he hg hw;have:=a2.str_inv;subst this;exact .neutral hS a2 fun hd _=>⟨p,by simp[aval,a1],a3 hd⟩
 grind
theorem wZ{off:Nat}{x:AO}(h:xval gl gd env J N (.fldA off x)=some (c,v,J')):Snd N J J1 (.fldA off x) env1 (GdV env G gd) c v J':=by
 simp[xval]at h;split at h
 . rename_i b o hw;cases h;obtain⟨p,v1,a1,a2,a3⟩:=ab he hg hw;have:=a2.ptr_inv;subst this;exact .neutral hS (.c (.ptr _ _)) fun hd _=>⟨p,by simp[aval,a1],a3 hd⟩
 . rename_i b t i o hw;cases h;obtain⟨p,v1,a1,a2,a3⟩:=ab he hg hw;have:=a2.eptr_inv;subst this;exact .neutral hS (.c (.eptr _ _ _ _)) fun hd _=>⟨p,by simp[aval,a1],a3 hd⟩
 . rename_i t x' o hw;cases h;obtain⟨p,v1,a1,a2,a3⟩:=ab he hg hw;have:=a2.iptr_inv;subst this;exact .neutral hS (.c (.iptr _ _ _)) fun hd _=>⟨p,by simp[aval,a1],a3 hd⟩
 grind
theorem x_fld{agg:Bool}{off k:Nat}{x:AO}(h:xval gl gd env J N (.fld agg off k x)=some (c,v,J')):Snd N J J1 (.fld agg off k x) env1 (GdV env G gd) c v J':=by
 simp[xval]at h;split at h
 . rename_i cs hw;split at h
   . rename_i w hl;cases h;obtain⟨p,v1,a1,a2,a3⟩:=ab he hg hw;obtain⟨ds,rfl,b2⟩:=a2.agg_inv;obtain⟨v2,c1,c2⟩:=ef b2 hl;exact .neutral hS c2 fun hd _=>⟨p,by grind[aval],a3 hd⟩
   grind
 grind
theorem xa{agg:Bool}{k:Nat}{x:AO}(h:xval gl gd env J N (.load agg k x)=some (c,v,J')):Snd N J J1 (.load agg k x) env1 (GdV env G gd) c v J':=by
 simp only[xval]at h;split at h
 . rename_i b o hw;split at h
   . rename_i cs hcs;split at h
     . rename_i w hl;cases h;obtain⟨p,v1,a1,a2,a3⟩:=ab he hg hw;have:=a2.ptr_inv;subst this;obtain⟨_,y,b1,b2⟩:=hS b _ hcs;cases b2 with
       | box b2=>
        obtain⟨v2,c1,c2⟩:=ef b2 hl;exact .neutral hS c2 fun hd _=>⟨p,by simp[aval,a1,b1,c1],a3 hd⟩
     . cases h
   . rename_i E c0 hcs;split at h
     . cases h;obtain⟨p,v1,a1,a2,a3⟩:=ab he hg hw;have:=a2.ptr_inv;subst this;obtain⟨_,y,b1,b2⟩:=hS b _ hcs;cases b2 with
       | bld b2=>exact .neutral hS (.c b2) fun hd _=>⟨p,by simp[aval,a1,b1],a3 hd⟩
     . cases h
   . cases h
 . rename_i b t i o hw;split at h
   . rename_i t' l' hcs;split at h
     . rename_i l hl;have e:=Cell.as_some hl;split at h
       . rename_i w hl2;cases h;obtain⟨p,v1,a1,a2,a3⟩:=ab he hg hw;have:=a2.eptr_inv;subst this;obtain⟨_,y,b1,b2⟩:=hS b _ hcs;cases b2 with
         | arr=>
          obtain⟨v2,c1,c2⟩:=ef fQ hl2;refine .neutral hS c2 fun hd hc=>⟨p/\t.sz U=t.sz U/\i < (List.map (t.enc U) l).length,?_,a3 hd,rfl,eW (of_decide_eq_true hc)⟩
          simp only[decide_eq_true_eq]at hc
          grind[j8,aval,gh]
       . cases h
     . cases h
   . rename_i t' l' i' o' c0 hcs;split at h
     . cases h
     . split at h
       . rename_i hoo;split at h
         . rename_i hsz;cases h;have hoo:=aj hoo;have hsz:=aj hsz;subst hoo;obtain⟨p,v1,a1,a2,a3⟩:=ab he hg hw;have:=a2.eptr_inv;subst this;obtain⟨_,y,b1,b2⟩:=hS b _ hcs;cases b2 with
           | arro _ _ _ _ b2=>
            refine .neutral hS (.c b2) fun hd hc=>⟨p/\t.sz U=t'.sz U/\i=i',?_,a3 hd,hsz,of_decide_eq_true hc⟩
            simp only[aval,a1,oZ3,b1];simp
         . cases h
       . rename_i hoo;have hoo:=aU hoo;split at h
         . rename_i l hl;have e:=Cell.as_some hl;cases e;split at h
           . rename_i w hl2;cases h;obtain⟨p,v1,a1,a2,a3⟩:=ab he hg hw;have:=a2.eptr_inv;subst this;obtain⟨_,y,b1,b2⟩:=hS b _ hcs;cases b2 with
             | arro _ _ _ _ b2=>
              obtain⟨v2,c1,c2⟩:=ef fQ hl2;refine .neutral hS c2 fun hd hc=>⟨p/\t.sz U=t.sz U/\i < (List.map (t.enc U) l).length,?_,a3 hd,rfl,eW (of_decide_eq_true hc)⟩
              simp only[decide_eq_true_eq]at hc;have c1:=j8 c1;simp only[aval,a1,oZ3,b1];rw[if_neg (by simp),if_neg hoo,gh hc,c1];rfl
           . cases h
         . cases h
   . cases h
 . rename_i t x' o hw;split at h
   . rename_i w hl;cases h;obtain⟨p,v1,a1,a2,a3⟩:=ab he hg hw;have:=a2.iptr_inv;subst this;obtain⟨v2,c1,c2⟩:=ef fQ hl;have c1:=j8 c1;exact .neutral hS c2 fun hd _=>⟨p,by simp[aval,a1,c1],a3 hd⟩
   . cases h
 grind
theorem x_bin{op:BinOp}{x y:AO}(h:xval gl gd env J N (.bin op x y)=some (c,v,J')):Snd N J J1 (.bin op x y) env1 (GdV env G gd) c v J':=by
 simp[xval]at h;split at h
 . rename_i p q hp hq;split at h
   . rename_i c' r hr;cases h;obtain⟨pp,v1,a1,a2,a3⟩:=ab he hg hp;obtain⟨pq,v2,b1,b2,b3⟩:=ab he hg hq;have:=a2.t_inv;have:=b2.t_inv;obtain⟨pr,d1,d2⟩:=tM hr;exact .neutral hS (.c (.t _)) fun hd hc=>⟨pp/\pq/\pr,by grind[aval],a3 hd,b3 hd,d2 hc⟩
   grind
 grind
theorem wg{neg:Bool}{ks:List Nat}{x y:AO}(h:xval gl gd env J N (.eqAgg neg ks x y)=some (c,v,J')):Snd N J J1 (.eqAgg neg ks x y) env1 (GdV env G gd) c v J':=by
 simp[xval]at h;split at h
 . rename_i p q hp hq;split at h
   . rename_i r hr;cases h;obtain⟨pp,v1,a1,a2,a3⟩:=ab he hg hp;obtain⟨pq,v2,b1,b2,b3⟩:=ab he hg hq;obtain⟨ds,rfl,d2⟩:=a2.agg_inv;obtain⟨es,rfl,e2⟩:=b2.agg_inv;have:=mw hr d2 e2;exact .neutral hS (.c (.t _)) fun hd hc=>⟨pp/\pq,by simp[aval,a1,b1,this];cases neg <;> rfl,a3 hd,b3 hd⟩
   . cases h
 . cases h
theorem vz{neg:Bool}{x y:AO}(h:xval gl gd env J N (.eqBool neg x y)=some (c,v,J')):Snd N J J1 (.eqBool neg x y) env1 (GdV env G gd) c v J':=by
 simp[xval]at h;split at h
 . rename_i p q hp hq;cases h;obtain⟨pp,v1,a1,a2,a3⟩:=ab he hg hp;obtain⟨pq,v2,b1,b2,b3⟩:=ab he hg hq;have:=a2.bool_inv;subst this;have:=b2.bool_inv;subst this;exact .neutral hS (.c (.t _)) fun hd hc=>⟨pp/\pq,by simp only[aval,a1,b1];cases neg <;> rfl,a3 hd,b3 hd⟩
 grind
theorem xc{sz:Nat}{x y:AO}(h:xval gl gd env J N (.idxA sz x y)=some (c,v,J')):Snd N J J1 (.idxA sz x y) env1 (GdV env G gd) c v J':=by
 simp[xval]at h;split at h
 . rename_i t l k m hp hq;split at h
   . rename_i hsz;have hsz:=aj hsz;cases h;obtain⟨pp,v1,a1,a2,a3⟩:=ab he hg hp;obtain⟨pq,v2,b1,b2,b3⟩:=ab he hg hq;have:=a2.slice_inv;subst this;have:=b2.int_inv;subst this;by_cases hr:inR m (List.length l)=true
     . obtain⟨h1,h2⟩:=de.1 hr;refine .neutral hS (v1:= .c (.iptr (el (List.map (t.enc U) l) (Int.toNat m)) 0)) ?_ fun hd hc=>⟨pp/\pq/\(0:Int)<=m/\Int.toNat m < (List.map (t.enc U) l).length/\(el (List.map (t.enc U) l) (Int.toNat m)).length=sz,by simp only[aval,a1,b1,oZ3],a3 hd,b3 hd,h1,eW h2,by rw[gh h2,Ty.enc_length];exact hsz⟩
       rw[gh h2];exact .c (.iptr _ _ _)
     . exact .neutral hS (.c (.iptr _ _ _)) fun hd hc=>absurd hc hr
   . cases h
 . rename_i b k m hp hq;split at h
   . rename_i t l hb;split at h
     . rename_i hsz;have hsz:=aj hsz;cases h;obtain⟨pp,v1,a1,a2,a3⟩:=ab he hg hp;obtain⟨pq,v2,b1,b2,b3⟩:=ab he hg hq;obtain⟨sz',n,rfl,hbN,hd⟩:=a2.arr_inv;have:=b2.int_inv;subst this;have:=hd _ hb _ rfl;cases this
       refine .neutral hS (.c (.eptr _ _ _ _)) fun hd hc=>⟨pp/\pq/\(0:Int)<=m/\Int.toNat m < l.length/\sz=t.sz U,?_,a3 hd,b3 hd,(de.1 hc).1,(de.1 hc).2,hsz.symm⟩
       simp only[aval,a1,b1,oZ3,Nat.zero_add,hsz]
     . cases h
   . cases h
 grind
theorem xd{x y:AO}(h:xval gl gd env J N (.idxS x y)=some (c,v,J')):Snd N J J1 (.idxS x y) env1 (GdV env G gd) c v J':=by
 simp[xval]at h;split at h
 . rename_i s k m hp hq;cases h;obtain⟨pp,v1,a1,a2,a3⟩:=ab he hg hp;obtain⟨pq,v2,b1,b2,b3⟩:=ab he hg hq;have:=a2.str_inv;subst this;have:=b2.int_inv;subst this;exact .neutral hS (.c (.t _)) fun hd hc=>⟨pp/\pq/\(0:Int)<=m/\Int.toNat m < List.length s,by simp only[aval,a1,b1];rfl,a3 hd,b3 hd,(de.1 hc).1,(de.1 hc).2⟩
 grind
theorem cI{x:Option AO}{l:Option Int}(h:cA gl gd env x=some l):∃p,getO env1 x=some (p,l)/\(GdV env G gd=true->p):=by
 unfold cA at h;split at h
 . cases h;exact⟨True,rfl,fun _=>trivial⟩
 . split at h
   . rename_i k n hx;cases h;obtain⟨pp,v1,a1,a2,a3⟩:=ab he hg hx;have:=a2.int_inv;subst this;exact⟨pp,by simp[getO,a1],a3⟩
   grind
theorem xf{x:AO}{lo hi:Option AO}(h:xval gl gd env J N (.slcS x lo hi)=some (c,v,J')):Snd N J J1 (.slcS x lo hi) env1 (GdV env G gd) c v J':=by
 simp[xval]at h;split at h
 . rename_i s l r hp hl hr;cases h;obtain⟨pp,v1,a1,a2,a3⟩:=ab he hg hp;obtain⟨pl,l1,l2⟩:=cI he hg hS hl;obtain⟨pr,r1,r2⟩:=cI he hg hS hr;have:=a2.str_inv;subst this;exact .neutral hS (.c (.t _)) fun hd hc=>⟨pp/\pl/\pr/\0<=l.getD 0/\l.getD 0<=r.getD _/\r.getD _<=List.length s,by simp[aval,a1,l1,r1];rfl,a3 hd,l2 hd,r2 hd,bS.1 hc⟩
 grind
theorem x_slc{sz:Nat}{x:AO}{lo hi:Option AO}(h:xval gl gd env J N (.slc sz x lo hi)=some (c,v,J')):Snd N J J1 (.slc sz x lo hi) env1 (GdV env G gd) c v J':=by
 simp only[xval]at h;split at h
 . rename_i t s l r hp hl hr;split at h
   . rename_i hsz;have hsz:=aj hsz;cases h;obtain⟨pp,v1,a1,a2,a3⟩:=ab he hg hp;obtain⟨pl,l1,l2⟩:=cI he hg hS hl;obtain⟨pr,r1,r2⟩:=cI he hg hS hr;have:=a2.slice_inv;subst this
     refine .neutral hS (.c (.t (U:=U) ⟨.slice t,_⟩)) fun hd hc=>⟨pp/\pl/\pr/\0<=l.getD 0/\l.getD 0<=r.getD (List.length s:Int)/\r.getD (List.length s:Int)<=(List.length s:Int)/\∀e,e∈List.map (t.enc U) s->e.length=sz,?_,a3 hd,l2 hd,r2 hd,(bS.1 hc).1,(bS.1 hc).2.1,(bS.1 hc).2.2,?_⟩
     . simp only[aval,a1,l1,r1,oZ3];exact wV
     grind[Ty.enc_length]
   grind
 . rename_i b r hp hl hr;split at h
   . rename_i t s hb;split at h
     . rename_i hsz;have hsz:=aj hsz;cases h;obtain⟨pp,v1,a1,a2,a3⟩:=ab he hg hp;obtain⟨pr,r1,r2⟩:=cI he hg hS hr;obtain⟨sz',n,rfl,hbN,hd⟩:=a2.arr_inv;have hdd:=hd _ hb (t.sz U,s.length) rfl;have hlo:lo=none:=by
        cases lo with
        | none=>rfl
        | some x=>grind[cA]
       subst hlo;refine .neutral hS (.c (.pre b (t.sz U) _ hbN fun x hx p hp=>?_)) fun hd' hc=>⟨pp/\True/\pr/\0<=(none:Option Int).getD 0/\(none:Option Int).getD 0<=r.getD (List.length s:Int)/\r.getD (List.length s:Int)<=(List.length s:Int)/\sz=t.sz U,?_,a3 hd',trivial,r2 hd',(bS.1 hc).1,(bS.1 hc).2.1,(bS.1 hc).2.2,hsz.symm⟩
       . grind
       . have hg0:getO env1 none=some (True,none):=rfl
         grind[aval]
     grind
   grind
 . rename_i b l r hp hl hr;split at h
   . rename_i t s hb;split at h
     . rename_i hsz;have hsz:=aj hsz;cases h;obtain⟨pp,v1,a1,a2,a3⟩:=ab he hg hp;obtain⟨pl,l1,l2⟩:=cI he hg hS hl;obtain⟨pr,r1,r2⟩:=cI he hg hS hr;obtain⟨sz',n,rfl,hbN,hd⟩:=a2.arr_inv;have hdd:=hd _ hb (t.sz U,s.length) rfl;obtain⟨rfl,rfl⟩:=hdd;have hlo:lo.isNone=false:=by
        cases lo with
        | none=>simp[cA]at hl
        | some x=>rfl
       refine .neutral hS (.c (.suf b (t.sz U) _ _ hbN fun x hx p hp=>?_)) fun hd' hc=>⟨pp/\pl/\pr/\0<=(some l:Option Int).getD 0/\(some l:Option Int).getD 0<=r.getD (List.length s:Int)/\r.getD (List.length s:Int)<=(List.length s:Int)/\sz=t.sz U,?_,a3 hd',l2 hd',r2 hd',(bS.1 hc).1,(bS.1 hc).2.1,(bS.1 hc).2.2,hsz.symm⟩
       . grind
       . simp only[aval,a1,l1,r1,oZ3,hlo,Bool.false_eq_true,if_false,Nat.zero_add];rfl
     grind
   grind
 grind
theorem xg{x:AO}(h:xval gl gd env J N (.slc0 x)=some (c,v,J')):Snd N J J1 (.slc0 x) env1 (GdV env G gd) c v J':=by
 simp[xval]at h;split at h
 . rename_i t l hw;cases h;obtain⟨p,v1,a1,a2,a3⟩:=ab he hg hw;have:=a2.slice_inv;subst this;exact .neutral hS (.c .cap0) fun hd _=>⟨p,by simp[aval,a1],a3 hd⟩
 . rename_i hw;cases h;obtain⟨p,v1,a1,a2,a3⟩:=ab he hg hw;have:=a2.cap0_inv;subst this;exact .neutral hS (.c .cap0) fun hd _=>⟨p,by simp[aval,a1],a3 hd⟩
 . rename_i b hw;cases h;obtain⟨p,v1,a1,a2,a3⟩:=ab he hg hw;obtain⟨sz,n,rfl,_⟩:=a2.arr_inv;exact .neutral hS (.c .cap0) fun hd _=>⟨p,by simp[aval,a1],a3 hd⟩
 grind
theorem mz :∀{vs:List (XV U)} {ds:List V} {l:List Nat},xcaps vs=some l->All2 (VR N J) vs ds->aval.capsOf ds=some l
 | [],[],l,h,.nil=>by simp[xcaps]at h;subst h;rfl
 | .c (.ptr b 0)::vs,d::ds,l,h,.cons h1 h2=>by
  simp only[xcaps]at h;split at h
  . rename_i l' hl;cases h;have:=h1.ptr_inv;subst this;simp[aval.capsOf,mz hl h2]
  grind
theorem xh{f:Nat}{caps:List AO}(h:xval gl gd env J N (.mkfn f caps)=some (c,v,J')):Snd N J J1 (.mkfn f caps) env1 (GdV env G gd) c v J':=by
 simp[xval]at h;split at h
 . rename_i vs hvs;split at h
   . rename_i l hl;cases h;obtain⟨p,ds,a1,a2,a3⟩:=dE he hg hvs;exact .neutral hS (.c (.fn _ _)) fun hd _=>⟨p,by simp[aval,a1,mz he hg hS hl a2],a3 hd⟩
   . cases h
 grind
theorem x_ext{x:AO}{i:Nat}(h:xval gl gd env J N (.ext x i)=some (c,v,J')):Snd N J J1 (.ext x i) env1 (GdV env G gd) c v J':=by
 simp[xval]at h;split at h
 . rename_i vs hvs;split at h
   . rename_i w hw;cases h;obtain⟨p,v1,a1,a2,a3⟩:=ab he hg hvs;cases a2 with
     | tup _ ds hl h2=>
      have hi:=(List.getElem?_eq_some_iff.1 hw).1;have hd:=List.getElem?_eq_getElem (l:=ds) (i:=i) (by omega);exact .neutral hS (h2 i _ _ hw hd) fun hg _=>⟨p,by grind[aval],a3 hg⟩
   grind
 grind
theorem xj{x y:AO}(h:xval gl gd env J N (.max2 x y)=some (c,v,J')):Snd N J J1 (.max2 x y) env1 (GdV env G gd) c v J':=by
 simp only[xval]at h;split at h
 . rename_i k a k' b hp hq;simp at h;obtain⟨rfl,rfl,rfl,rfl⟩:=h;obtain⟨pp,v1,a1,a2,a3⟩:=ab he hg hp;obtain⟨pq,v2,b1,b2,b3⟩:=ab he hg hq;have:=a2.int_inv;subst this;have:=b2.int_inv;subst this;exact .neutral hS (.c (.t (U:=U) _)) fun hd hc=>⟨pp/\pq,by simp[aval,a1,b1];rfl,a3 hd,b3 hd⟩
 grind
theorem xk{x y:AO}(h:xval gl gd env J N (.min2 x y)=some (c,v,J')):Snd N J J1 (.min2 x y) env1 (GdV env G gd) c v J':=by
 simp[xval]at h;split at h
 . rename_i k a k' b hp hq;simp at h;obtain⟨rfl,rfl,rfl,rfl⟩:=h;obtain⟨pp,v1,a1,a2,a3⟩:=ab he hg hp;obtain⟨pq,v2,b1,b2,b3⟩:=ab he hg hq;have:=a2.int_inv;subst this;have:=b2.int_inv;subst this;exact .neutral hS (.c (.t _)) fun hd hc=>⟨pp/\pq,by simp only[aval,a1,b1,oZ3];rfl,a3 hd,b3 hd⟩
 grind
theorem wh{z:List C}{parts:List (Nat×Nat×AO)}(h:xval gl gd env J N (.build z parts)=some (c,v,J')):Snd N J J1 (.build z parts) env1 (GdV env G gd) c v J':=by
 simp[xval]at h;split at h
 . rename_i zs hz;split at h
   . rename_i cs hcs;cases h;obtain⟨p,ds,a1,a2,a3⟩:=l8 he hg hcs (cY hz);exact .neutral hS (.agg a2) fun hd _=>⟨p,by grind[aval],a3 hd⟩
   grind
 grind
theorem wi{cs:List C}(h:xval gl gd env J N (.alloc cs)=some (c,v,J')):Snd N J J1 (.alloc cs) env1 (GdV env G gd) c v J':=by
 simp[xval]at h;split at h
 . rename_i xs hxs;cases h;have k:Keep N J (N+16) (pt J N (.box xs)):=bn (by simp);exact .store rfl k (.c (.ptr _ _)) fun hd _=>⟨True,_,rfl,trivial,hS.put (by simp) k (.box (cY hxs))⟩
 grind
theorem x_box{x:AO}(h:xval gl gd env J N (.box x)=some (c,v,J')):Snd N J J1 (.box x) env1 (GdV env G gd) c v J':=by
 simp[xval]at h;split at h
 . rename_i w hw;split at h
   . rename_i cs hcs;cases h;obtain⟨p,v1,a1,a2,a3⟩:=ab he hg hw;obtain⟨ds,b1,b2⟩:=cH a2 hcs;have k:Keep N J (N+16) (pt J N (.box cs)):=bn (by simp);exact .store rfl k (.c (.ptr _ _)) fun hd _=>⟨p,_,by grind[aval],a3 hd,hS.put (by simp) k (.box (b2.imp fun _ _ _=>CR.mono k))⟩
   grind
 grind
theorem vA{sz len:Nat}{z:List C}{parts:List (Nat×AO)}(h:xval gl gd env J N (.bslice sz len z parts)=some (c,v,J')):Snd N J J1 (.bslice sz len z parts) env1 (GdV env G gd) c v J':=by
 simp[xval]at h;split at h
 . rename_i zs hz;split at h
   . cases h
   . rename_i ts hts;split at h
     . grind
     . rename_i hsz;have hsz:=aj hsz;split at h
       . rename_i rows hr;cases h;have hz1:=cY (N:=N) (J:=J) hz;obtain⟨p,es,a1,a2,a4,a3⟩:=jm he hg hr (All2.replicate (R:=fun r e=>xts r=some e) hts _) (by intro r hr;rw[List.eq_of_mem_replicate hr];exact hsz);have k:Keep N J (N+16) (pt J N (.rows sz rows)):=bn (by omega)
         refine .store rfl k (.c (.arr N sz es.length (by omega) ?_)) fun hd _=>⟨p,_,by simp[aval,fP hz1 hts,oZ3,a1,Option.map_some];rw[lM a1,List.length_replicate],a3 hd,hS.put (by omega) k (.rows a2 a4)⟩
         intro x hx q hq;rw[lk_pt,if_pos rfl]at hx;cases hx;simp[XB.dim]at hq;rw[<-hq,a2.length]
       . cases h
 grind
omit he hg hS in
theorem uQ{ds:List C}{ts:List T}(h:toTs ds=some ts):ownC ds=none:=by
 unfold ownC
 grind[toTs,toT]
omit he hg hS in
theorem oI{J:XSt U}{J1:Store}{v1:V}{w:XV U}{d:V}(h:VR N J w d)(hw:∀b lo len,w≠.c (.suf b lo len))(hw2:∀b lo len,w≠.c (.sub b lo len))(hw3:w≠.c .dead):winOf v1 d=none:=by
 unfold winOf;split
 . cases h with
   | c h=>
    cases h <;>grind
 rfl
theorem wj{k:Nat}{x y:AO}(h:xval gl gd env J N (.store k x y)=some (c,v,J')):Snd N J J1 (.store k x y) env1 (GdV env G gd) c v J':=by
 simp only[xval]at h;split at h
 . rename_i b o w hx hy;split at h
   . rename_i cs hcs;split at h
     . rename_i hk;have hk:=aj hk;split at h
       . rename_i ds hds;split at h
         . rename_i hle;have hle:=aV hle;cases h;obtain⟨p,v1,a1,a2,a3⟩:=ab he hg hx;obtain⟨q,v2,b1,b2,b3⟩:=ab he hg hy;have:=a2.ptr_inv;subst this;obtain⟨es,c1,c2⟩:=cH b2 hcs;obtain⟨hbN,z,d1,d2⟩:=hS b _ hds;cases d2 with
           | @box _ fs d2=>
            have kp:Keep N J (N+16) (pt J b (.box (xfill ds o cs))):=cq (by simp) hds (fun p h=>by grind[XB.dim]);refine .store rfl kp (.tup [] [] rfl (by simp)) fun hd _=>⟨p/\q,_,?_,⟨a3 hd,b3 hd⟩,hS.put (by omega) kp (.box (jB (d2.imp fun _ _ _=>CR.mono kp) (c2.imp fun _ _ _=>CR.mono kp)))⟩
            simp only[aval,a1,b1,oZ3,c1];rw[if_pos (by rw[<-c2.length];grind),d1];dsimp only;rw[if_pos (by rw[<-d2.length];grind)]
         grind
       . rename_i E c0 hds;split at h
         . rename_i c0 _;cases h;obtain⟨p,v1,a1,a2,a3⟩:=ab he hg hx;obtain⟨q,v2,b1,b2,b3⟩:=ab he hg hy;have:=a2.ptr_inv;obtain⟨es,c1,c2⟩:=cH b2 hcs;obtain⟨hbN,z,d1,d2⟩:=hS b _ hds;cases d2 with
           | bld d2=>
            cases c2 with | cons c2 c3=>
            cases c3;have kp:Keep N J (N+16) (pt J b (.bld E c0)):=cq (by simp) hds (fun p h=>by grind[XB.dim]);refine .store rfl kp (.tup [] [] rfl (by simp)) fun hd _=>⟨p/\q,_,?_,⟨a3 hd,b3 hd⟩,hS.put (by omega) kp (.bld (c2.mono kp))⟩
            simp only[aval,a1,b1,oZ3,c1]
            grind
         grind
       grind
     grind
   grind
 . rename_i b t i o w hx hy;split at h
   . rename_i cs hcs;split at h
     . rename_i hk;simp only[Bool.and_eq_true]at hk;have hk1:=aj hk.1;have hk2:=aV hk.2;split at h
       . rename_i t' l' hl';split at h
         . rename_i l hl;have e:=Cell.as_some hl;cases e;split at h
           . rename_i cx hox;cases h;obtain⟨rfl,b',rfl⟩:cs=[cx]/\∃b',cx= .arr b':=by
              unfold ownX at hox
              grind
             obtain⟨p,v1,a1,a2,a3⟩:=ab he hg hx;obtain⟨q,v2,b1,b2,b3⟩:=ab he hg hy;have:=a2.eptr_inv;obtain⟨es,c1,c2⟩:=cH b2 hcs;cases c2 with | cons c2 c3=>
             cases c3;have c2':=c2;cases c2 with | arr _ s2 n2 hb2 hd2=>
             obtain⟨hbN,z,d1,d2⟩:=hS b _ hl';cases d2 with
             | arr=>
              have kp:Keep N J (N+16) (pt J b (.arro t l i o (.arr b'))):=cq (by simp) hl' (fun p h=>by grind[XB.dim]);refine .store rfl kp (.tup [] [] rfl (by simp)) fun hd hc=>⟨p/\q/\t.sz U=t.sz U/\i < (List.map (t.enc U) l).length/\o+k<=t.sz U,_,?_,⟨a3 hd,b3 hd,rfl,eW (of_decide_eq_true hc),hk2⟩,hS.put (by omega) kp (.arro t l i o (c2'.mono kp))⟩
              simp only[aval,a1,b1,oZ3,c1];simp_all[if_pos,ownC]
           split at h
           . rename_i l2 hl2;cases h;obtain⟨p,v1,a1,a2,a3⟩:=ab he hg hx;obtain⟨q,v2,b1,b2,b3⟩:=ab he hg hy;have:=a2.eptr_inv;subst this;obtain⟨es,c1,c2⟩:=cH b2 hcs;obtain⟨hbN,z,d1,d2⟩:=hS b _ hl';cases d2 with
             | arr=>
              have hlen:l2.length=List.length l:=by
               grind[xset]
              have kp:Keep N J (N+16) (pt J b (.arr t l2)):=cq (by simp) hl' (fun p h=>by
               grind[XB.dim])
              refine .store rfl kp (.tup [] [] rfl (by simp)) fun hd hc=>?_
              have hi:i < List.length l:=of_decide_eq_true hc;obtain⟨ts,e1,e2⟩:=jV hl2 hi c2 (by grind);refine⟨p/\q/\t.sz U=t.sz U/\i < (List.map (t.enc U) l).length/\o+k<=t.sz U,_,?_,⟨a3 hd,b3 hd,rfl,eW hi,hk2⟩,hS.put (by omega) kp (.arr t l2)⟩;simp only[aval,a1,b1,oZ3,c1];rw[if_pos (by rw[<-c2.length];grind),d1]
              grind[uQ]
           grind
         grind
       . rename_i t' l' i' o' c0 hl';split at h
         . rename_i cx;split at h
           . rename_i hoo;split at h
             . rename_i hsz;cases h;have hoo:=aj hoo;have hsz:=aj hsz;subst hoo;obtain⟨p,v1,a1,a2,a3⟩:=ab he hg hx;obtain⟨q,v2,b1,b2,b3⟩:=ab he hg hy;have:=a2.eptr_inv;subst this;obtain⟨es,c1,c2⟩:=cH b2 hcs;cases c2 with | cons c2 c3=>
               cases c3;obtain⟨hbN,z,d1,d2⟩:=hS b _ hl';cases d2 with
               | arro _ _ _ _ d2=>
                have kp:Keep N J (N+16) (pt J b (.arro t' l' i' o cx)):=cq (by simp) hl' (fun p h=>by grind[XB.dim]);refine .store rfl kp (.tup [] [] rfl (by simp)) fun hd hc=>⟨p/\q/\t.sz U=t'.sz U/\i=i',_,?_,⟨a3 hd,b3 hd,hsz,of_decide_eq_true hc⟩,hS.put (by omega) kp (.arro t' l' i' o (c2.mono kp))⟩
                simp only[aval,a1,b1,oZ3,c1];rw[if_pos (by simpa using hk1),d1];dsimp only;rw[if_pos rfl]
             . cases h
           . rename_i hoo;have hoo:=aU hoo;split at h
             . rename_i l hl;have e:=Cell.as_some hl;cases e;split at h
               . rename_i l2 hl2;cases h;obtain⟨p,v1,a1,a2,a3⟩:=ab he hg hx;obtain⟨q,v2,b1,b2,b3⟩:=ab he hg hy;have:=a2.eptr_inv;subst this;obtain⟨es,c1,c2⟩:=cH b2 hcs;obtain⟨hbN,z,d1,d2⟩:=hS b _ hl';cases d2 with
                 | arro _ _ _ _ d2=>
                  have hlen:l2.length=List.length l:=by
                   unfold xset at hl2
                   grind
                  have kp:Keep N J (N+16) (pt J b (.arro t l2 i' o' c0)):=cq (by omega) hl' (fun p h=>by
                   simp only[XB.dim]at h ⊢
                   grind)
                  refine .store rfl kp (.tup [] [] rfl (by simp)) fun hd hc=>?_
                  have hi:i < List.length l:=of_decide_eq_true hc;obtain⟨ts,e1,e2⟩:=jV hl2 hi c2 (by rw[hk1];exact hk2);cases c2 with | @cons _ dx _ _ c2 c3=>
                  cases c3;obtain⟨tx,ht1,ht2⟩:∃tx,Shv.toT dx=some tx/\ts=[tx]:=by
                   simp only[toTs]at e1;cases hx:Shv.toT dx with
                   | none=>rw[hx]at e1;simp at e1
                   | some tx=>rw[hx]at e1;simp at e1;exact⟨tx,rfl,e1.symm⟩
                  refine⟨p/\q/\t.sz U=t.sz U/\i < (List.map (t.enc U) l).length/\o+k<=t.sz U,_,?_,⟨a3 hd,b3 hd,rfl,eW hi,hk2⟩,hS.put (by omega) kp (.arro t l2 i' o' (d2.mono kp))⟩;simp only[aval,a1,b1,oZ3,c1];rw[if_pos (by simpa using hk1),d1];dsimp only;rw[if_neg hoo,ht1];subst ht2
                  grind
               . cases h
             . cases h
         . cases h
       . cases h
     . cases h
   . cases h
 . cases h
inductive ES:XE U->List (List T)->Prop
 | ty (t:Ty) (l:List (t.den U.D)):ES (.ty t l) (l.map (t.enc U))
 | rows {r es}:All2 (fun r e=>xts r=some e) r es->ES (.rows r) es
 | nil:ES .nil []
omit he hg hS in
theorem ES.length{e:XE U}{es:List (List T)}(h:ES e es):es.length=e.len:=by
 cases h with
 | ty t l=>simp[XE.len]
 | rows h=>simp[XE.len,h.length]
 | nil=>rfl
omit he hg hS in
theorem jC :∀{xs:List (XC U)} {tys:List Ty} {e:List T} {row:List (Cell U.D)},ba tys xs=some row->xts xs=some e->e=row.map (Cell.enc U)
 | [],tys,e,row,h1,h2=>by
  grind[ba,xts]
 | y::ys,[],e,row,h1,h2=>by grind[ba]
 | y::ys,ty::tys,e,row,h1,h2=>by
  simp[xts]at h2;split at h2
  . rename_i t ts ht hts;cases h2;cases y with
    | t c=>
     simp[XC.toT]at ht;split at ht
     . grind
     . cases ht;cases ty <;> simp[ba]at h1 <;> (split at h1 <;> first | (cases h1;done) | (rename_i q hq;cases h1;rw[jC hq hts];rfl))
    | cap0=>
     simp[XC.toT]at ht;subst ht;cases ty <;> simp[ba]at h1
     split at h1
     . rename_i q hq;cases h1;rw[jC hq hts];rfl
     grind
    | _=>grind[XC.toT]
  grind
omit he hg hS in
theorem xl{t:Ty}{r:List (XC U)}{x:t.den U.D}{e:List T}(h:xmk U t r=some x)(he:xts r=some e):t.enc U x=e:=by
 grind[xmk,Ty.enc_row,Ty.mk_row,jC]
omit he hg hS in
theorem eL{t:Ty}:∀{r:List (List (XC U))} {l:List (t.den U.D)} {es:List (List T)},xmks U t r=some l->All2 (fun r e=>xts r=some e) r es->l.map (t.enc U)=es
 | [],l,es,h,h2=>by cases h2;grind[xmks]
 | r::rs,l,_::_,h,.cons h1 h2=>by
  simp[xmks]at h;split at h
  . rename_i x xs hx hxs;cases h;rw[List.map_cons,xl hx h1,eL hxs h2]
  grind
omit he hg hS in
theorem ES.as{t:Ty}{e:XE U}{es:List (List T)}{l:List (t.den U.D)}(h:ES e es)(ha:e.as t=some l):l.map (t.enc U)=es:=by
 cases h with
 | ty u l'=>
  have:=Cell.as_some ha
  grind
 | rows h=>exact eL ha h
 | nil=>grind[XE.as]
omit he hg hS in
theorem ES.join{x y z:XE U}{es fs:List (List T)}(hx:ES x es)(hy:ES y fs)(h:x.join y=some z):ES z (es++fs):=by
 cases hx with
 | nil=>grind[XE.join]
 | ty t l=>
  simp[XE.join]at h;split at h
  . rename_i l' hl;cases h;rw[<-hy.as hl,<-List.map_append];exact .ty t _
  grind
 | rows hr=>
  cases hy with
  | ty t l=>
   simp[XE.join]at h;split at h
   . rename_i l' hl;cases h;rw[<-eL hl hr,<-List.map_append];exact .ty t _
   grind
  | rows hr'=>simp[XE.join]at h;subst h;exact .rows (hr.append hr')
  | nil=>simp[XE.join]at h;subst h;rw[List.append_nil];exact .rows hr
omit he hg hS in
theorem ES.blk{e:XE U}{es:List (List T)}{sz:Nat}{b:XB U}(h:ES e es)(hb:e.blk sz=some b):BR N' J' b (.arr sz es)/\(∀x,x∈es->x.length=sz)/\b.dim=some (sz,e.len):=by
 cases h with
 | ty t l=>
  simp[XE.blk]at hb;split at hb
  . rename_i hs;have:=aj hs;subst this;cases hb;refine⟨.arr t l,fun x hx=>?_,rfl⟩
    grind[Ty.enc_length]
  grind
 | @rows r es hr=>
  simp[XE.blk]at hb;split at hb
  . rename_i hs;cases hb;simp only[List.all_eq_true]at hs;refine⟨.rows hr fun x hx=>aj (hs x hx),fun x hx=>?_,rfl⟩;obtain⟨i,hi,rfl⟩:=List.getElem_of_mem hx;obtain⟨y,h1,h2⟩:=(hr.flip fun _ _ h=>h).get (List.getElem?_eq_getElem hi);rw[jU h2]
    grind[aj]
  grind
 | nil=>
  simp[XE.blk]at hb;subst hb;exact⟨.rows .nil (by simp),by simp,rfl⟩
omit he hg in
theorem fR{v:XV U}{v1:V}{e:XE U}{ob:Option Nat}(hv:VR N J v v1)(h:xes J v=some (e,ob)):∃es,ysOf J1 v1=some (es,ob)/\ES e es:=by
 unfold xes at h;split at h
 . rename_i t l;cases h;have:=hv.slice_inv;subst this;exact⟨_,rfl,.ty t l⟩
 . cases h;have:=hv.cap0_inv;subst this;exact⟨_,rfl,.nil⟩
 . rename_i b;obtain⟨sz,n,rfl,hb,hd⟩:=hv.arr_inv;split at h
   . rename_i t l hl;cases h;obtain⟨_,y,h1,h2⟩:=hS b _ hl;cases h2;have:=hd _ hl _ rfl;cases this;exact⟨_,by simp[ysOf,h1],.ty t l⟩
   . rename_i sz' r hl;cases h;obtain⟨_,y,h1,h2⟩:=hS b _ hl;cases h2 with
     | rows h2 h3=>
      have:=hd _ hl _ rfl;cases this;exact⟨_,by simp[ysOf,h1,h2.length],.rows h2⟩
   . cases h
 grind
theorem x_len{str:Bool}{x:AO}(h:xval gl gd env J N (.len str x)=some (c,v,J')):Snd N J J1 (.len str x) env1 (GdV env G gd) c v J':=by
 simp[xval]at h;split at h
 . rename_i s hw;cases h;obtain⟨p,v1,a1,a2,a3⟩:=ab he hg hw;have:=a2.str_inv;subst this;exact .neutral hS (.c (.t _)) fun hd _=>⟨p,by simp[aval,a1];rfl,a3 hd⟩
 . rename_i b hw;split at h
   . rename_i E s hb;cases h;obtain⟨p,v1,a1,a2,a3⟩:=ab he hg hw;obtain⟨n,rfl,_,hd'⟩:=a2.bufc_inv;have:=hd' _ hb _ rfl;cases this;exact .neutral hS (.c (.t _)) fun hd _=>⟨p,by simp[aval,a1];rfl,a3 hd⟩
   grind
 . rename_i w hw;split at h
   . rename_i e hE;cases h;obtain⟨p,v1,a1,a2,a3⟩:=ab he hg hw;refine .neutral hS (.c (.t (U:=U) ⟨.int .i64,_⟩)) fun hd _=>⟨p,?_,a3 hd⟩
     unfold xes at hE;split at hE
     . cases hE;have:=a2.slice_inv;subst this;simp only[aval,a1,oZ3];exact wW
     . cases hE;have:=a2.cap0_inv;subst this;simp only[aval,a1,oZ3];rfl
     . obtain⟨sz,n,rfl,hb,hd'⟩:=a2.arr_inv;simp[aval,a1];split at hE
       . rename_i t l hl;cases hE;have:=hd' _ hl _ rfl;cases this;rfl
       . rename_i sz' r hl;cases hE;have:=hd' _ hl _ rfl;cases this;rfl
       grind
     grind
   grind
 grind
omit he hg hS in
theorem oK{bytes n:Nat}:room bytes n=true↔(2*n+192)*bytes<=bh/\n<=az:=by simp[room]
omit he hg hS in
theorem eM{bytes n:Nat}(h:room bytes n=true):capOk n bytes/\n<=az:=⟨.inl (oK.1 h).1,(oK.1 h).2⟩
omit he hg hS in
theorem fD :∀(l:List Int),bytesOf (List.map ((Ty.int .u8).enc U) l)=some (strOf l)
 | []=>rfl
 | m::l=>by
  have:=fD l;show bytesOf ([T.int _ m]::_)=_;simp[bytesOf,this];rfl
omit he hg hS in
theorem np :∀{l:List Int},kU l=true->l.map ((Ty.int .u8).enc U)=(strOf l).map fun c=>[.int .u8 c.toNat]
 | [],_=>rfl
 | m::l,h=>by
  simp only[kU,List.all_cons,Bool.and_eq_true,decide_eq_true_eq]at h;have h2:([T.int .u8 m]:List T)=[T.int .u8 ((UInt8.ofNat m.toNat).toNat:Int)]:=by rw[show((UInt8.ofNat m.toNat).toNat:Int)=m by simp[UInt8.toNat_ofNat'];omega]
  exact congr (congrArg List.cons h2) (np (l:=l) h.2)
theorem uR{te sz bytes:Nat}{x y:AO}(h:xval gl gd env J N (.appendT te sz bytes x y)=some (c,v,J')):Snd N J J1 (.appendT te sz bytes x y) env1 (GdV env G gd) c v J':=by
 simp only[xval]at h;split at h
 . rename_i b w hx hy;split at h
   . rename_i xe xb ye yb hxe hye;split at h
     . grind
     . split at h
       . cases h
       . rename_i hxsz;split at h
         . rename_i t l hze;split at h
           . rename_i htz;cases h;obtain⟨p,v1,a1,a2,a3⟩:=ab he hg hx;obtain⟨q,v2,b1,b2,b3⟩:=ab he hg hy;obtain⟨sz',n',hv1,hb,hdd⟩:=a2.arr_inv;subst hv1;obtain⟨ys,c1,c2⟩:=fR hS b2 hye;obtain⟨xs,e1,e2⟩:=fR hS a2 hxe;have hz:=e2.join c2 hze;have k:Keep N J (N+16) (dl J b):=Keep.trans cN (Keep.more (by omega))
             obtain⟨d1,d2,d3⟩:=hz.blk (N':=N+16) (J':=dl J b) (sz:=sz) (b:= .arr t l) (by simp only[XE.blk,htz]);obtain⟨hs,hn⟩:sget J1 b=some (.arr sz' xs)/\n'=xs.length:=by
              simp only[ysOf]at e1
              grind
             have hsz':sz'=sz:=by
              unfold xsz at hxsz;split at hxsz
              . rename_i z hz;split at hxsz
                . rename_i r hr;have:=hdd _ hz _ hr;simp_all
                . cases hxsz
              . cases hxsz
             subst hsz';have hS2:SR (N+16) (dl J b) (sdel J1 b):=by
              intro i z hz;rw[lk_dl]at hz;split at hz
              . cases hz
              . rename_i hbi;obtain⟨h1,y,h2,h3⟩:=hS i z hz;exact⟨by omega,y,by rw[aC,if_neg hbi];exact h2,h3.mono k⟩
             have hyb':yb≠some b:=by
              intro e;simp_all
             have hl:xs++ys=l.map (t.enc U):=(show ∀{es:List (List T)},ES (.ty t l) es->es=l.map (t.enc U)from fun h=>by cases h;rfl) hz;have hlen:(xs++ys).length=l.length:=by rw[hl,List.length_map]
             refine .store rfl k (v1:= .c (.t (.slice (xs++ys)))) (by rw[hl];exact .c (.t ⟨.slice t,l⟩)) fun hd hc=>⟨p/\q/\sz'=sz'/\sz'=sz'/\0=0/\n'=xs.length/\(∀e,e∈ys->e.length=sz')/\capOk (xs.length+ys.length) bytes/\xs.length+ys.length<=az,_,?_,⟨a3 hd,b3 hd,rfl,rfl,rfl,hn,fun e he=>d2 e (by simp[he]),?_⟩,hS2⟩
             . have hwn:winOf (.c (.arr b sz' 0 n')) v2=none:=by
                refine oI (J1:=J1) b2 ?_ ?_ ?_ <;> (intros;rintro rfl;simp[xes]at hye)
               simp only[aval,a1,b1,oZ3,hwn,c1,hs]
               grind
             . have:=eM hc;rw[<-hlen,List.length_append]at this;exact this
           . cases h
         . cases h
   . cases h
 . cases h
theorem vB{te sz bytes:Nat}{x y:AO}(h:xval gl gd env J N (.append te sz bytes x y)=some (c,v,J')):Snd N J J1 (.append te sz bytes x y) env1 (GdV env G gd) c v J':=by
 simp only[xval]at h;split at h
 . rename_i w hx hy;split at h
   . rename_i ye ob hye;split at h
     . rename_i blk hblk;cases h;obtain⟨p,v1,a1,a2,a3⟩:=ab he hg hx;obtain⟨q,v2,b1,b2,b3⟩:=ab he hg hy;have:=a2.cap0_inv;subst this;obtain⟨ys,c1,c2⟩:=fR hS b2 hye;have k:Keep N J (N+16) (pt J N blk):=bn (by omega);obtain⟨d1,d2,d3⟩:=c2.blk (N':=N+16) (J':=pt J N blk) hblk
       refine .store rfl k (.c (.arr N sz ys.length (by omega) ?_)) fun hd hc=>⟨p/\q/\(∀e,e∈ys->e.length=sz)/\capOk ys.length bytes/\ys.length<=az,_,by simp only[aval,a1,b1,oZ3,show winOf (.c .cap0) v2=none from rfl,c1],⟨a3 hd,b3 hd,d2,?_⟩,hS.put (by omega) k d1⟩
       . intro x hx r hr;rw[lk_pt,if_pos rfl]at hx;cases hx;rw[d3]at hr;cases hr;rw[c2.length]
       . rw[c2.length];exact eM hc
     . cases h
   . cases h
 . rename_i b w hx hy;split at h
   . rename_i xe xb ye yb hxe hye;split at h
     . grind
     . split at h
       . cases h
       . rename_i hxsz;split at h
         . rename_i ze hze;split at h
           . rename_i blk hblk;cases h;obtain⟨p,v1,a1,a2,a3⟩:=ab he hg hx;obtain⟨q,v2,b1,b2,b3⟩:=ab he hg hy;obtain⟨sz',n',hv1,hb,hdd⟩:=a2.arr_inv;subst hv1;obtain⟨ys,c1,c2⟩:=fR hS b2 hye;obtain⟨xs,e1,e2⟩:=fR hS a2 hxe;have hz:=e2.join c2 hze;have k0:Keep N (dl J b) (N+16) (pt (dl J b) N blk):=bn (by omega)
             have k:Keep N J (N+16) (pt (dl J b) N blk):=Keep.trans cN k0;obtain⟨d1,d2,d3⟩:=hz.blk (N':=N+16) (J':=pt (dl J b) N blk) hblk
             obtain⟨hs,hn⟩:sget J1 b=some (.arr sz' xs)/\n'=xs.length:=by
              simp only[ysOf]at e1
              grind
             have hsz':sz'=sz:=by
              unfold xsz at hxsz;split at hxsz
              . rename_i z hz;split at hxsz
                . rename_i r hr;have:=hdd _ hz _ hr;simp_all
                . cases hxsz
              . cases hxsz
             subst hsz';have hS2:SR N (dl J b) (sdel J1 b):=by
              intro i z hz;rw[lk_dl]at hz;split at hz
              . cases hz
              . rename_i hbi;obtain⟨h1,y,h2,h3⟩:=hS i z hz;exact⟨h1,y,by rw[aC,if_neg hbi];exact h2,h3.mono cN⟩
             have hyb':yb≠some b:=by
              intro e;simp_all
             refine .store rfl k (.c (.arr N sz' (xs++ys).length (by omega) ?_)) fun hd hc=>⟨p/\q/\sz'=sz'/\sz'=sz'/\0=0/\n'=xs.length/\(∀e,e∈ys->e.length=sz')/\capOk (xs.length+ys.length) bytes/\xs.length+ys.length<=az,_,?_,⟨a3 hd,b3 hd,rfl,rfl,rfl,hn,fun e he=>d2 e (by simp[he]),?_⟩,hS2.put (by omega) k0 d1⟩
             . intro x hx r hr;rw[lk_pt,if_pos rfl]at hx;cases hx;rw[d3]at hr;cases hr;rw[hz.length]
             . have hwn:winOf (.c (.arr b sz' 0 n')) v2=none:=by
                refine oI (J1:=J1) b2 ?_ ?_ ?_ <;> (intros;rintro rfl;simp[xes]at hye)
               simp only[aval,a1,b1,oZ3,hwn,c1,hs]
               grind
             . have:=eM hc;rw[<-hz.length,List.length_append]at this;exact this
           . cases h
         . cases h
   . cases h
 . rename_i b h0 b' lo len hx hy;split at h
   . rename_i hbb;have hbb:=aj hbb;subst hbb;split at h
     . rename_i t l hl;split at h
       . rename_i hsz;have hsz:=aj hsz;cases h;obtain⟨p,v1,a1,a2,a3⟩:=ab he hg hx;obtain⟨q,v2,b1,b2,b3⟩:=ab he hg hy;cases a2 with | c a2=>
         cases a2 with | pre _ s1 _ hb1 hz1=>
         cases b2 with | c b2=>
         cases b2 with | suf _ s2 _ _ hb2 hz2=>
         have e1:=hz1 _ hl _ rfl;have e2:=hz2 _ hl _ rfl;obtain⟨hbN,z,d1,d2⟩:=hS b _ hl;cases d2 with
         | arr=>
          have k0:Keep N (dl J b) (N+16) (pt (dl J b) N (.arr t (l.take h0++(l.drop lo).take len))):=bn (by omega);have k:=Keep.trans cN k0;have hS2:SR N (dl J b) (sdel J1 b):=by
           intro i z hz;rw[lk_dl]at hz;split at hz
           . cases hz
           . rename_i hbi;obtain⟨h1,y,h2,h3⟩:=hS i z hz;exact⟨h1,y,by simp_all[aC,if_neg],h3.mono cN⟩
          refine .store rfl k (.c (.arr N (t.sz U) (l.take h0++(l.drop lo).take len).length (by omega) ?_)) fun hd hc=>?_
          . simp_all[lk_pt,if_pos,XB.dim,Option.some.injEq]
          . simp only[Bool.and_eq_true,decide_eq_true_eq]at hc;have hlen:(l.take h0++(l.drop lo).take len).length=h0+len:=by grind
            refine⟨p/\q/\t.sz U=t.sz U/\t.sz U=t.sz U/\t.sz U=t.sz U/\0=0/\h0+len<=(l.map (t.enc U)).length/\lo+len<=(l.map (t.enc U)).length,_,?_,⟨a3 hd,b3 hd,rfl,rfl,rfl,rfl,by grind,by grind⟩,hS2.put (by simp) k0 (.arr t _)⟩
            grind[winOf,aval,appW,List.map_take,List.map_drop]
       . cases h
     . cases h
   . cases h
 . rename_i b ys hx hy;split at h
   . rename_i e' l hb;split at h
     . rename_i hee;simp only[Bool.and_eq_true]at hee;have:=aj hee.1;subst this;have:=aj hee.2;subst this;cases h;obtain⟨p,v1,a1,a2,a3⟩:=ab he hg hx;obtain⟨q,v2,b1,b2,b3⟩:=ab he hg hy;obtain⟨n,rfl,hbN,hd'⟩:=a2.bufc_inv;have:=hd' _ hb _ rfl;cases this;have:=b2.slice_inv;subst this;obtain⟨_,z,d1,d2⟩:=hS b _ hb;cases d2;have k1:Keep N J N (dl J b):=cN
       have k2:Keep N _ (N+16) (pt (dl J b) N (.buf e' (catS l (strOf ys)))):=bn (by simp);have hS':SR N (dl J b) (sdel J1 b):=by
        intro b' x hx;rw[lk_dl]at hx;split at hx
        . grind
        . rename_i hne;obtain⟨h1,y,h2,h3⟩:=hS b' x hx;exact⟨h1,y,by rw[aC];grind,h3.mono k1⟩
       refine .store rfl (k1.trans k2) (.c (.bufc N (List.length l+List.length (strOf ys)) (by simp) fun x hx p hp=>?_)) fun hd hc=>?_
       . rw[lk_pt,if_pos rfl]at hx;cases hx;simp[XB.dim]at hp;exact hp.symm.trans (congrArg _ my)
       . simp only[Bool.and_eq_true]at hc;have hr:=eM hc.1;refine⟨p/\q/\e'=e'/\1=1/\List.length l=List.length l/\ys.map ((Ty.int .u8).enc U)=(strOf ys).map (fun c=>[.int .u8 c.toNat])/\capOk _ _/\List.length l+List.length (strOf ys)<=az,_,?_,⟨a3 hd,b3 hd,rfl,rfl,rfl,np hc.2,hr.1,hr.2⟩,hS'.put (by simp) k2 (.buf _ _)⟩
         simp only[aval,a1,b1,oZ3,show winOf (.c (.bufc b (List.length l))) (.c (.t (.slice (ys.map ((Ty.int .u8).enc U)))))=none from rfl,show ysOf J1 (.c (.t (.slice (ys.map ((Ty.int .u8).enc U)))))=some (_,none)from rfl,d1];exact congrArg (Option.map _) (fD (U:=U) ys)
     . cases h
   . cases h
 grind
omit he hg hS in
theorem mA{t:Ty}(ht:t.isNm=false):∀{xs:List (XC U)} {ds:List C} {l:List (t.den U.D)},All2 (CR N J) xs ds->xsame t xs=some l->∃ts,toTs ds=some ts/\ts.map (fun x=>[x])=l.map (t.enc U)
 | [],[],l,_,h=>by simp[xsame]at h;subst h;exact⟨[],rfl,rfl⟩
 | x::xs,d::ds,l,.cons h1 h2,h=>by
  unfold xsame at h;split at h
  . grind
  . rename_i c r heq;cases heq;split at h
    . rename_i y m hc hm;cases h;obtain⟨ts,e1,e2⟩:=mA ht h2 hm;cases h1;have hcs:=Cell.as_some hc;subst hcs;refine⟨Cell.enc U ⟨t,y⟩::ts,by simp[toTs,e1,toT],?_⟩;rw[List.map_cons,e2];cases t <;> first | rfl | cases ht
    . cases h
  grind
omit he hg hS in
theorem n0{t:Ty}{d:t.den U.D}:∀{xs:List (XC U)} {ds:List C} {l:List (t.den U.D)} (i:Nat),All2 (CR N J) xs ds->xsame t xs=some l->i < ds.length->CR N J (.t ⟨t,l.getD i d⟩) (ds.getD i .dead)
 | [],[],l,i,_,h,hi=>absurd hi (Nat.not_lt_zero _)
 | x::xs,d::ds,l,i,.cons h1 h2,h,hi=>by
  unfold xsame at h;split at h
  . grind
  . rename_i c r heq;cases heq;split at h
    . rename_i y m hc hm;cases h;cases h1;have hcs:=Cell.as_some hc;subst hcs;cases i with
      | zero=>exact .t _
      | succ i=>exact n0 (d:=_) i h2 hm (Nat.lt_of_succ_lt_succ hi)
    . cases h
  grind
theorem xm{k:Nat}{x y:AO}(h:xval gl gd env J N (.idxV k x y)=some (c,v,J')):Snd N J J1 (.idxV k x y) env1 (GdV env G gd) c v J':=by
 simp only[xval]at h;split at h
 . rename_i cs k' m hp hq;split at h
   . rename_i t l hk hl;cases h;obtain⟨pp,v1,a1,a2,a3⟩:=ab he hg hp;obtain⟨pq,v2,b1,b2,b3⟩:=ab he hg hq;obtain⟨ds,rfl,ad⟩:=a2.agg_inv;have:=b2.int_inv;subst this;have hlen:ds.length=k:=by rw[<-ad.length];exact aj hk
     unfold iv at hl;split at hl
     . rename_i c0 r;split at hl
       . rename_i l0 ht hs;cases hl;by_cases hr:inR m k=true
         . obtain⟨h1,h2⟩:=de.1 hr;refine .neutral hS (.c (n0 (Int.toNat m) ad hs (by omega))) fun hd _=>⟨pp/\pq/\(0:Int)<=m/\Int.toNat m < k,?_,a3 hd,b3 hd,h1,h2⟩
           simp only[aval,a1,b1,oZ3,hlen,if_true]
         . exact .neutral hS (.c (.t _)) fun hd hc=>absurd hc hr
       . cases hl
     . cases hl
   . cases h
 . cases h
theorem vC{sz bytes:Nat}{z:List C}{x:AO}(h:xval gl gd env J N (.mslice sz bytes z x)=some (c,v,J')):Snd N J J1 (.mslice sz bytes z x) env1 (GdV env G gd) c v J':=by
 simp only[xval]at h;split at h
 . rename_i k m zs hp hz;split at h
   . cases h
   . rename_i ts hts;split at h
     . rename_i c0;split at h
       . rename_i hnm hsz;cases h;have hsz:=aj hsz;subst hsz;obtain⟨pp,v1,a1,a2,a3⟩:=ab he hg hp;have:=a2.int_inv;subst this;have hz1:=cY (N:=N) (J:=J) hz;have k1:Keep N J (N+16) (pt J N (.arr c0.ty (List.replicate (Int.toNat m) c0.val))):=bn (by omega);have hs1:c0.ty.sz U=1:=by
          generalize c0.ty=t0 at hnm;cases t0 <;> first | rfl | cases hnm
         have he2:ts=c0.ty.enc U c0.val:=by
          obtain⟨ty,v0⟩:=c0;cases ty <;> first | (cases hts;rfl) | cases hnm
         have hv:aval (.mslice 1 bytes z x) env1 J1 N=some (pp/\(0:Int)<=m/\Int.toNat m*bytes<=bh/\Int.toNat m<=az,.c (.arr N 1 0 (Int.toNat m)),sput J1 N (.arr 1 (List.replicate (Int.toNat m) ts))):=by
          simp only[aval,a1,oZ3,fP hz1 hts]
         refine .store rfl k1 (.c (.arr N 1 (Int.toNat m) (by omega) ?_)) fun hd hc=>⟨_,_,hv,⟨a3 hd,pn.1 hc⟩,hS.put (by omega) k1 ?_⟩
         . intro x hx q hq;rw[lk_pt,if_pos rfl]at hx;cases hx;simp[XB.dim]at hq;rw[<-hq,hs1]
         . have:=BR.arr (N:=N+16) (J:=pt J N (.arr c0.ty (List.replicate (Int.toNat m) c0.val))) c0.ty (List.replicate (Int.toNat m) c0.val);rw[hs1,List.map_replicate,<-he2]at this;exact this
       . cases h
     . cases h
 . cases h
theorem vD{cs:List C}(h:xval gl gd env J N (.allocA cs)=some (c,v,J')):Snd N J J1 (.allocA cs) env1 (GdV env G gd) c v J':=by
 simp[xval]at h;split at h
 . rename_i xs hxs;split at h
   . rename_i t l hl;cases h;unfold iv at hl;split at hl
     . rename_i c0 r;split at hl
       . rename_i l0 ht hs;cases hl;obtain⟨ts,e1,e2⟩:=mA ht (cY (N:=N) (J:=J) hxs) hs;have k:Keep N J (N+16) (pt J N (.arr _ l0)):=bn (by simp);refine .store rfl k (.c (.ptr _ _)) fun hd _=>⟨True,_,by simp[aval,e1];rfl,trivial,hS.put (by simp) k ?_⟩
         have hsz:c0.ty.sz U=1:=by
          generalize c0.ty=t0 at ht;cases t0 <;> first | rfl | cases ht
         have:=BR.arr (N:=N+16) (J:=pt J N (.arr _ l0)) _ l0
         grind
       grind
     grind
   grind
 grind
theorem xo{k:Nat}{x y:AO}(h:xval gl gd env J N (.idxP k x y)=some (c,v,J')):Snd N J J1 (.idxP k x y) env1 (GdV env G gd) c v J':=by
 simp[xval]at h;split at h
 . rename_i b kk m hp hq;split at h
   . split at h
     . rename_i hsz;have hsz:=aj hsz;cases h;obtain⟨pp,v1,a1,a2,a3⟩:=ab he hg hp;obtain⟨pq,v2,b1,b2,b3⟩:=ab he hg hq;have:=a2.ptr_inv;have:=b2.int_inv;refine .neutral hS (.c (.eptr _ _ _ _)) fun hd hc=>⟨pp/\pq/\(0:Int)<=m/\Int.toNat m < k,?_,a3 hd,b3 hd,(de.1 hc).1,(de.1 hc).2⟩
       grind[aval]
     grind
   grind
 grind
theorem xp{k:Nat}{x:AO}{lo hi:Option AO}(h:xval gl gd env J N (.slcP k x lo hi)=some (c,v,J')):Snd N J J1 (.slcP k x lo hi) env1 (GdV env G gd) c v J':=by
 simp[xval]at h;split at h
 . rename_i b l r hp hl hr;cases h;obtain⟨pp,v1,a1,a2,a3⟩:=ab he hg hp;obtain⟨pl,l1,l2⟩:=cI he hg hS hl;obtain⟨pr,r1,r2⟩:=cI he hg hS hr;have:=a2.ptr_inv;subst this;exact .neutral hS (.c (.sub _ _ _)) fun hd hc=>⟨pp/\pl/\pr/\0<=l.getD 0/\l.getD 0<=r.getD _/\r.getD _<=k,by simp[aval,a1,l1,r1],a3 hd,l2 hd,r2 hd,bS.1 hc⟩
 grind
omit he hg hS in
theorem wk{b off len:Nat}{es:List (List T)}{s:List UInt8}(h:sget J1 b=some (.arr 1 es))(hs:bytesOf ((es.drop off).take len)=some s):b2sOf J1 (.c (.arr b 1 off len))=some (off+len<=es.length,s):=by grind[b2sOf]
omit he hg hS in
theorem wm{b off len:Nat}{es:List (List T)}{s:List UInt8}(h:sget J1 b=some (.arr 1 es))(hs:bytesOf ((es.drop off).take len)=some s):b2sOf J1 (.c (.win b 1 off len))=some (off+len<=es.length,s):=by grind[b2sOf]
omit he hg hS in
theorem uS{es:List (List T)}{s:List UInt8}(hs:bytesOf es=some s):b2sOf J1 (.c (.t (.slice es)))=some (True,s):=by grind[b2sOf]
theorem x_b2s{x:AO}(h:xval gl gd env J N (.b2s x)=some (c,v,J')):Snd N J J1 (.b2s x) env1 (GdV env G gd) c v J':=by
 simp only[xval]at h;split at h
 . rename_i l hp;cases h;obtain⟨pp,v1,a1,a2,a3⟩:=ab he hg hp;have:=a2.slice_inv;subst this
   exact .neutral hS (.c (.t (U:=U) _)) fun hd hc=>⟨pp/\True,by
    simp only[aval,a1,oZ3]
    exact(congrArg _ (uS (fD (U:=U) l))).trans rfl,a3 hd,trivial⟩
 . rename_i hp;cases h;obtain⟨pp,v1,a1,a2,a3⟩:=ab he hg hp;have:=a2.cap0_inv;subst this;exact .neutral hS (.c (.t (U:=U) ⟨.str,_⟩)) fun hd hc=>⟨pp/\True,by simp only[aval,a1,b2sOf];rfl,a3 hd,trivial⟩
 . rename_i b hp;split at h
   . rename_i l hb;cases h;obtain⟨pp,v1,a1,a2,a3⟩:=ab he hg hp;obtain⟨sz',n,rfl,hbN,hd⟩:=a2.arr_inv;have:=hd _ hb _ rfl;cases this;obtain⟨_,y,hy,hbr⟩:=hS _ _ hb;cases hbr;refine .neutral hS (.c (.t (U:=U) ⟨.str,_⟩)) fun hd hc=>⟨pp/\(0+l.length<=(l.map ((Ty.int .u8).enc U)).length),?_,a3 hd,by simp⟩
     simp only[aval,a1,oZ3];have e:bytesOf (((l.map ((Ty.int .u8).enc U)).drop 0).take l.length)=some (strOf l):=by grind[List.take_of_length_le,fD]
     exact(congrArg (Option.map _) (wk hy e)).trans rfl
   grind
 . rename_i b lo len hp;split at h
   . rename_i l hb;cases h;obtain⟨pp,v1,a1,a2,a3⟩:=ab he hg hp;have:v1= .c (.win b 1 lo len):=by cases a2 with | c h=>cases h;rfl
     subst this;obtain⟨_,y,hy,hbr⟩:=hS _ _ hb;cases hbr;refine .neutral hS (.c (.t (U:=U) ⟨.str,_⟩)) fun hd hc=>⟨pp/\(lo+len<=(l.map ((Ty.int .u8).enc U)).length),?_,a3 hd,by grind[subR]⟩
     simp only[aval,a1,oZ3];have e:bytesOf (((l.map ((Ty.int .u8).enc U)).drop lo).take len)=some (strOf ((l.drop lo).take len)):=by rw[<-List.map_drop,<-List.map_take];exact fD _
     exact(congrArg (Option.map _) (wm hy e)).trans rfl
   grind
 grind
theorem vE{e e8:Nat}(h:xval gl gd env J N (.allocS e e8)=some (c,v,J')):Snd N J J1 (.allocS e e8) env1 (GdV env G gd) c v J':=by
 obtain⟨rfl,rfl,rfl⟩:=h;have hk:Keep N J (N+16) (pt (pt J (N+1) (.buf e8 [])) N (.bld e (.bufc (N+1)))):=by
  refine⟨by simp,fun b x' hb hx=>?_⟩
  grind[lk_pt]
 refine .store rfl hk (.c (.ptr _ _)) fun _ _=>⟨True,_,rfl,trivial,fun b x hx=>?_⟩
 rw[lk_pt]at hx;rw[ag];by_cases h1:N=b
 . rw[if_pos h1]at hx ⊢;cases hx;refine⟨by omega,_,rfl,.bld (.bufc _ _ (by simp) fun x hx p hp=>?_)⟩;rw[lk_pt,lk_pt]at hx
   grind[XB.dim]
 . rw[if_neg h1,lk_pt]at hx;rw[if_neg h1,ag];by_cases h2:N+1=b
   . rw[if_pos h2]at hx ⊢;cases hx;exact⟨by omega,_,rfl,.buf _ _⟩
   . rw[if_neg h2]at hx ⊢;obtain⟨k1,y,k2,k3⟩:=hS b x hx;exact⟨by omega,y,k2,k3.mono hk⟩
theorem wo(h:xval gl gd env J N .mkset=some (c,v,J')):Snd N J J1 .mkset env1 (GdV env G gd) c v J':=by
 obtain⟨rfl,rfl,rfl⟩:=h;have k:Keep N J (N+16) (pt J N (.set [])):=bn (by simp);exact .store rfl k (.c (.mp _)) fun _ _=>⟨True,_,rfl,trivial,hS.put (by simp) k (.set _)⟩
theorem wq{x y:AO}(h:xval gl gd env J N (.lkset x y)=some (c,v,J')):Snd N J J1 (.lkset x y) env1 (GdV env G gd) c v J':=by
 simp[xval]at h;split at h
 . rename_i b s hx hy;split at h
   . rename_i ks hks;cases h;obtain⟨p,v1,a1,a2,a3⟩:=ab he hg hx;obtain⟨q,v2,b1,b2,b3⟩:=ab he hg hy;have:=a2.mp_inv;subst this;have:=b2.str_inv;subst this;obtain⟨_,z,d1,d2⟩:=hS b _ hks;cases d2;exact .neutral hS (.c (.t _)) fun hd _=>⟨p/\q,by simp[aval,a1,b1,d1];rfl,a3 hd,b3 hd⟩
   grind
 grind
theorem wu{x y:AO}(h:xval gl gd env J N (.upset x y)=some (c,v,J')):Snd N J J1 (.upset x y) env1 (GdV env G gd) c v J':=by
 simp[xval]at h;split at h
 . rename_i b s hx hy;split at h
   . rename_i ks hks;cases h;obtain⟨p,v1,a1,a2,a3⟩:=ab he hg hx;obtain⟨q,v2,b1,b2,b3⟩:=ab he hg hy;have:=a2.mp_inv;subst this;have:=b2.str_inv;subst this;obtain⟨hbN,z,d1,d2⟩:=hS b _ hks;cases d2;have kp:Keep N J (N+16) (pt J b (.set (addS ks s))):=cq (by omega) hks (fun p h=>by simp[XB.dim]at h)
     exact .store rfl kp (.tup [] [] rfl (by simp)) fun hd _=>⟨p/\q,_,by simp[aval,a1,b1,d1],⟨a3 hd,b3 hd⟩,hS.put (by omega) kp (.set _)⟩
   . cases h
 grind
theorem uT{e bytes:Nat}{x y:AO}(h:xval gl gd env J N (.appendB e bytes x y)=some (c,v,J')):Snd N J J1 (.appendB e bytes x y) env1 (GdV env G gd) c v J':=by
 simp[xval]at h;split at h
 . rename_i b s hx hy;split at h
   . rename_i e' l hb;split at h
     . rename_i hee;have:=aj hee;subst this;cases h;obtain⟨p,v1,a1,a2,a3⟩:=ab he hg hx;obtain⟨q,v2,b1,b2,b3⟩:=ab he hg hy;obtain⟨n,rfl,hbN,hd'⟩:=a2.bufc_inv;have:=hd' _ hb _ rfl;cases this;have:=b2.str_inv;subst this;obtain⟨_,z,d1,d2⟩:=hS b _ hb;cases d2;have k1:Keep N J N (dl J b):=cN
       have k2:Keep N _ (N+16) (pt (dl J b) N (.buf e' (catS l s))):=bn (by simp);have hS':SR N (dl J b) (sdel J1 b):=by
        intro b' x hx;rw[lk_dl]at hx;split at hx
        . grind
        . rename_i hne;obtain⟨h1,y,h2,h3⟩:=hS b' x hx;exact⟨h1,y,by rw[aC];grind,h3.mono k1⟩
       refine .store rfl (k1.trans k2) (.c (.bufc N (List.length l+List.length s) (by simp) fun x hx p hp=>?_)) fun hd hc=>⟨p/\q/\e'=e'/\List.length l=List.length l/\capOk _ _/\List.length l+List.length s<=az,_,?_,⟨a3 hd,b3 hd,rfl,rfl,(eM hc).1,(eM hc).2⟩,hS'.put (by simp) k2 (.buf _ _)⟩
       . rw[lk_pt,if_pos rfl]at hx;cases hx;simp[XB.dim]at hp;exact hp.symm.trans (congrArg _ my)
       . simp only[aval,a1,b1,oZ3,d1];rfl
     grind
   grind
 grind
theorem wv{x:AO}(h:xval gl gd env J N (.sdata x)=some (c,v,J')):Snd N J J1 (.sdata x) env1 (GdV env G gd) c v J':=by
 simp[xval]at h;split at h
 . rename_i b hx;cases h;obtain⟨p,v1,a1,a2,a3⟩:=ab he hg hx;obtain⟨n,rfl,_,_⟩:=a2.bufc_inv;exact .neutral hS (.c (.sptr _)) fun hd _=>⟨p,by simp[aval,a1],a3 hd⟩
 grind
theorem xq{e:Nat}{x y:AO}(h:xval gl gd env J N (.ustr e x y)=some (c,v,J')):Snd N J J1 (.ustr e x y) env1 (GdV env G gd) c v J':=by
 simp[xval]at h;split at h
 . rename_i b m hx hy;split at h
   . rename_i e' l hb;split at h
     . rename_i hee;have:=aj hee;subst this;cases h;obtain⟨p,v1,a1,a2,a3⟩:=ab he hg hx;obtain⟨q,v2,b1,b2,b3⟩:=ab he hg hy;have:=a2.sptr_inv;subst this;have:=b2.int_inv;subst this;obtain⟨_,z,d1,d2⟩:=hS b _ hb;cases d2;have k1:Keep N J N (dl J b):=cN;have hS':SR N (dl J b) (sdel J1 b):=by
        intro b' x hx;rw[lk_dl]at hx;split at hx
        . grind
        . obtain⟨h1,y,h2,h3⟩:=hS b' x hx;exact⟨h1,y,by simp_all[aC],h3.mono k1⟩
       refine .store rfl (k1.trans (Keep.more (by simp))) (.c (.t _)) fun hd hc=>⟨p/\q/\e'=e'/\m=(List.length l:Int),_,?_,⟨a3 hd,b3 hd,rfl,we.1 hc⟩,hS'.mono (by simp)⟩
       simp only[aval,a1,b1,oZ3,d1];rfl
     grind
   grind
 grind
theorem uU{e sz len:Nat}{z:List C}{parts:List (Nat×AO)}(h:xval gl gd env J N (.bsliceT e sz len z parts)=some (c,v,J')):Snd N J J1 (.bsliceT e sz len z parts) env1 (GdV env G gd) c v J':=by
 simp[xval]at h;split at h
 . grind
 . split at h
   . rename_i zs hz;split at h
     . grind
     . rename_i ts hts;split at h
       . grind
       . rename_i hsz;have hsz:=aj hsz;split at h
         . rename_i rows hr;split at h
           . rename_i l hl;cases h;have hz1:=cY (N:=N) (J:=J) hz;obtain⟨p,es,a1,a2,a4,a3⟩:=jm he hg hr (All2.replicate (R:=fun r e=>xts r=some e) hts _) (by grind);have e2:=eL hl a2;refine .neutral hS (.c (.t _)) fun hd _=>⟨p,?_,a3 hd⟩
             simp[aval,fP hz1 hts,oZ3,a1];rw[<-e2];rfl
           grind
         grind
   grind
theorem nq{o:AOp}(h:xval gl gd env J N o=some (c,v,J')):Snd N J J1 o env1 (GdV env G gd) c v J':=by
 cases o with
 | mov x=>exact x_mov he hg hS h
 | pick c x y=>exact wX he hg hS h
 | alloc cs=>exact wi he hg hS h
 | box x=>exact x_box he hg hS h
 | allocA cs=>exact vD he hg hS h
 | idxP k x i=>exact xo he hg hS h
 | idxV k x i=>exact xm he hg hS h
 | mslice sz b z x=>exact vC he hg hS h
 | slcP k x lo hi=>exact xp he hg hS h
 | b2s x=>exact x_b2s he hg hS h
 | allocS e e8=>exact vE he hg hS h
 | bsliceT e sz len z parts=>exact uU he hg hS h
 | mkset=>exact wo he hg hS h
 | lkset x k=>exact wq he hg hS h
 | upset x k=>exact wu he hg hS h
 | appendB e b x y=>exact uT he hg hS h
 | sdata x=>exact wv he hg hS h
 | ustr e x k=>exact xq he hg hS h
 | build z parts=>exact wh he hg hS h
 | bslice sz len z parts=>exact vA he hg hS h
 | load agg n x=>exact xa he hg hS h
 | store n x v=>exact wj he hg hS h
 | nilCheck x=>exact tO he hg hS h
 | bin op x y=>exact x_bin he hg hS h
 | eqAgg neg ks x y=>exact wg he hg hS h
 | eqBool neg x y=>exact vz he hg hS h
 | eqNil neg x=>simp[xval]at h
 | not x=>exact x_not he hg hS h
 | conv k x=>grind[wY]
 | i2s x=>grind[x_i2s]
 | s2s x=>grind[x_s2s]
 | fldA off x=>grind[wZ]
 | fld agg off n x=>grind[x_fld]
 | idxA sz x i=>grind[xc]
 | idxS x i=>grind[xd]
 | slcS x lo hi=>grind[xf]
 | slc sz x lo hi=>grind[x_slc]
 | slc0 x=>grind[xg]
 | mkfn f caps=>grind[xh]
 | ext x i=>grind[x_ext]
 | len str x=>grind[x_len]
 | append sz bytes x y=>grind[vB]
 | appendT te sz bytes x y=>exact uR he hg hS h
 | max2 x y=>grind[xj]
 | min2 x y=>grind[xk]
 | call f args=>simp[xval]at h
 | callv x args=>simp[xval]at h
end
end
end
section
open Go
variable [GV]
variable {U:Uni}
def XC.frz(b0:Nat)(c:Cell U.D):XC U->XC U
 | .arr b=>match Nat.beq b b0 with
  | true=>.t c
  | false=>.arr b
 | .eptr b ty i o=>match Nat.beq b b0 with
  | true=>.dead
  | false=>.eptr b ty i o
 | .pre b h=>match Nat.beq b b0 with
  | true=>.dead
  | false=>.pre b h
 | .suf b lo len=>match Nat.beq b b0 with
  | true=>.dead
  | false=>.suf b lo len
 | x=>x
def XV.frz(b0:Nat)(c:Cell U.D):XV U->XV U
 | .c x=>.c (x.frz b0 c)
 | .agg cs=>.agg (cs.map (XC.frz b0 c))
 | .tup vs=>.tup (go b0 c vs)
where go (b0:Nat) (c:Cell U.D):List (XV U)->List (XV U)
 | []=>[]
 | v::vs=>v.frz b0 c::go b0 c vs
def XB.frz(b0:Nat)(c:Cell U.D):XB U->XB U
 | .box cs=>.box (cs.map (XC.frz b0 c))
 | .bld E x=>.bld E (x.frz b0 c)
 | .arro t l i o x=>.arro t l i o (x.frz b0 c)
 | x=>x
def xfrzE(b0:Nat)(c:Cell U.D):XEnv U->XEnv U
 | []=>[]
 | (k,v)::r=>(k,v.frz b0 c)::xfrzE b0 c r
def xfrzS(b0:Nat)(c:Cell U.D):XSt U->XSt U
 | []=>[]
 | (k,x)::r=>match Nat.beq k b0 with
  | true=>xfrzS b0 c r
  | false=>(k,x.frz b0 c)::xfrzS b0 c r
def xfz1(b:Nat)(t:Ty)(env:XEnv U)(J:XSt U):Option (XEnv U×XSt U):=
 match lk J b with
 | some (.arr t' l)=>match Cell.as (.slice t) (⟨.slice t',l⟩:Cell U.D)with
  | some l=>some (xfrzE b ⟨.slice t,l⟩ env,xfrzS b ⟨.slice t,l⟩ J)
  | none=>none
 | some (.rows _ r)=>match xmks U t r with
  | some l=>some (xfrzE b ⟨.slice t,l⟩ env,xfrzS b ⟨.slice t,l⟩ J)
  | none=>none
 | _=>some (env,J)
def xfz :List (Nat×Ty)->XEnv U->XSt U->Option (XEnv U×XSt U)
 | [],env,J=>some (env,J)
 | (b,t)::r,env,J=>match xfz1 b t env J with
  | some (env',J')=>xfz r env' J'
  | none=>none
section
variable {kk N:Nat} {J J':XSt U} {J1:Store} {env env':XEnv U} {env1:Env} {G:Nat->Bool} {gl:GL}
theorem ik{b0:Nat}{c:Cell U.D}:∀{env:XEnv U} {k:Nat},lk (xfrzE b0 c env) k=(lk env k).map (XV.frz b0 c)
 | [],k=>rfl
 | (i,v)::r,k=>by
  simp[xfrzE,lk];cases Nat.beq i k with
  | true=>rfl
  | false=>exact ik
theorem dM{b0:Nat}{c:Cell U.D}:∀{J:XSt U} {k:Nat},lk (xfrzS b0 c J) k=if k=b0 then none else(lk J k).map (XB.frz b0 c)
 | [],k=>by simp[xfrzS,lk]
 | (i,x)::r,k=>by
  simp[xfrzS];cases h:Nat.beq i b0 with
  | true=>
   simp[dM,lk]
   grind[aj]
  | false=>
   simp[lk,dM]
   grind
theorem XB.frz_dim{b0:Nat}{c:Cell U.D}{x:XB U}:(x.frz b0 c).dim=x.dim:=by cases x <;> rfl
theorem CR.frz {b0 sz : Nat} {c : Cell U.D} {es : List (List T)} {x0 : XB U} (h0 : lk J b0 = some x0) (hd : x0.dim = some (sz, es.length)) (hc : c.enc U = .slice es) {x : XC U} {d : C} (h : CR N J x d):
 CR N (xfrzS b0 c J) (x.frz b0 c) (d.frz b0 sz es):=by
 cases h with
 | t c=>exact .t c
 | ptr b o=>exact .ptr b o
 | eptr b t i o=>
  simp only[XC.frz,C.frz];cases h:Nat.beq b b0 with
  | true=>exact .dead _
  | false=>rw[if_neg (aU h)];exact .eptr b t i o
 | iptr t x o=>exact .iptr t x o
 | arr b sz' n hb h=>
  simp only[XC.frz,C.frz];cases hbb:Nat.beq b b0 with
  | true=>
   have:=aj hbb;subst this;have:=h x0 h0 _ hd;cases this;rw[if_pos rfl,if_pos ⟨rfl,by simp⟩];have:cut es 0 es.length=es:=by simp[cut]
   rw[this,<-hc];exact .t c
  | false=>
   rw[if_neg (aU hbb)];refine .arr b sz' n hb fun y hy p hp=>?_
   rw[dM]at hy
   grind[oZ1,XB.frz_dim]
 | sub b lo len=>exact .sub b lo len
 | pre b sz' n hb h=>
  simp only[XC.frz];cases hbb:Nat.beq b b0 with
  | true=>exact .dead _
  | false=>
   simp only[C.frz];rw[if_neg (aU hbb)];refine .pre b sz' n hb fun y hy p hp=>?_
   rw[dM,if_neg (aU hbb)]at hy
   grind[oZ1,XB.frz_dim]
 | suf b sz' lo len hb h=>
  simp only[XC.frz];cases hbb:Nat.beq b b0 with
  | true=>exact .dead _
  | false=>
   refine .suf b sz' lo len hb fun y hy p hp=>?_
   rw[dM,if_neg (aU hbb)]at hy
   grind[oZ1,XB.frz_dim]
 | mp b=>exact .mp b
 | sptr b=>exact .sptr b
 | bufc b n hb h=>
  refine .bufc b n hb fun y hy p hp=>?_
  grind[dM,oZ1,XB.frz_dim]
 | cap0=>exact .cap0
 | nilp=>exact .nilp
 | nilfn=>exact .nilfn
 | fn f caps=>exact .fn f caps
 | dead d=>exact .dead _
theorem mB{b0:Nat}{c:Cell U.D}:∀{vs:List (XV U)} {i:Nat},(XV.frz.go b0 c vs)[i]?=(vs[i]?).map (XV.frz b0 c)
 | [],i=>by rfl
 | v::vs,0=>by rfl
 | v::vs,i+1=>by simp[XV.frz.go,mB]
theorem lG{b0:Nat}{c:Cell U.D}:∀{vs:List (XV U)},(XV.frz.go b0 c vs).length=vs.length
 | []=>rfl
 | v::vs=>by simp[XV.frz.go,lG]
theorem VR.frz {b0 sz : Nat} {c : Cell U.D} {es : List (List T)} {x0 : XB U} (h0 : lk J b0 = some x0) (hd : x0.dim = some (sz, es.length)) (hc : c.enc U = .slice es) {x : XV U} {d : V} (h : VR N J x d):
 VR N (xfrzS b0 c J) (x.frz b0 c) (d.frz b0 sz es):=by
 induction h with
 | c h=>exact .c (h.frz h0 hd hc)
 | agg h=>exact .agg (All2.map_map (h.imp fun _ _ _ hh=>hh.frz h0 hd hc))
 | tup xs ds hl h ih=>
  refine .tup _ _ (by grind[lG,je]) ?_
  grind[mB,jQ]
theorem po {b0 sz : Nat} {c : Cell U.D} {es : List (List T)} {x0 : XB U} (h0 : lk J b0 = some x0) (hd : x0.dim = some (sz, es.length)) (hc : c.enc U = .slice es) (hs : sget J1 b0 = some (.arr sz es)) (he : ER N J G env env1) (hS : SR N J J1):
 Conv kk N env1 J1 N (df b0 sz es env1) (frzSt b0 sz es J1)/\ER N (xfrzS b0 c J) G (xfrzE b0 c env) (df b0 sz es env1)/\SR N (xfrzS b0 c J) (frzSt b0 sz es J1):=by
 refine⟨Conv.freeze b0 hs,fun k v hk=>?_,fun b x hx=>?_⟩
 . rw[ik,oZ1]at hk;obtain⟨v0,h1,rfl⟩:=hk;obtain⟨d,h2,h3⟩:=he k v0 h1;exact⟨_,by grind[fS],h3.frz h0 hd hc⟩
 . rw[dM]at hx;split at hx
   . grind
   . simp only[oZ1]at hx;obtain⟨x',h1,rfl⟩:=hx;obtain⟨h2,y,h3,h4⟩:=hS b x' h1;refine⟨h2,y.frz b0 sz es,by simp_all[ia,if_neg],?_⟩;cases h4 with
     | box h4=>exact .box (All2.map_map (h4.imp fun _ _ _ hh=>hh.frz h0 hd hc))
     | arr t l=>exact .arr t l
     | set ks=>exact .set ks
     | buf E s=>exact .buf E s
     | bld h4=>exact .bld (h4.frz h0 hd hc)
     | arro t l i o h4=>exact .arro t l i o (h4.frz h0 hd hc)
     | rows h4 h5=>exact .rows h4 h5
theorem HG.frz{b0:Nat}{c:Cell U.D}(h:HG gl env G):HG gl (xfrzE b0 c env) G:=by
 refine⟨h.free,fun k t b hk=>?_⟩;obtain⟨y,h1,h2⟩:=h.held k t b hk;refine⟨y,?_,h2⟩;unfold bval at h1 ⊢;rw[ik];split at h1
 . rename_i x hx;rw[hx];exact h1
 grind
theorem wx{α β:Type}{f:α->β}{l:List α}{sz:Nat}:some (sz,l.length)=some (sz,(l.map f).length):=by simp
theorem nr {b : Nat} {t : Ty} (h : xfz1 b t env J = some (env', J')) (he : ER N J G env env1) (hS : SR N J J1):
 ∃env1' J1',Conv kk N env1 J1 N env1' J1'/\ER N J' G env' env1'/\SR N J' J1'/\(HG gl env G->HG gl env' G):=by
 unfold xfz1 at h;split at h
 . rename_i t' l' hl;split at h
   . rename_i l ha;have e:=Cell.as_some ha;cases e;cases h;obtain⟨_,y,h1,h2⟩:=hS b _ hl;cases h2;obtain⟨k1,k2,k3⟩:=po (c:=⟨.slice t,l⟩) hl wx rfl h1 he hS;exact⟨_,_,k1,k2,k3,fun hg=>hg.frz⟩
   grind
 . rename_i sz r hl;split at h
   . rename_i l ha;cases h;obtain⟨_,y,h1,h2⟩:=hS b _ hl;cases h2 with
     | @rows _ _ es h2 h3=>
      have hm:=eL ha h2;obtain⟨k1,k2,k3⟩:=po (c:=⟨.slice t,l⟩) hl (by simp[XB.dim];rw[h2.length]) (by rw[<-hm];rfl) h1 he hS;exact⟨_,_,k1,k2,k3,fun hg=>hg.frz⟩
   grind
 grind[Conv.refl]
theorem eA : ∀ {l : List (Nat×Ty)} {env env' : XEnv U} {J J' : XSt U} {env1 : Env} {J1 : Store}, xfz l env J = some (env', J') -> ER N J G env env1 -> SR N J J1 ->
 ∃env1' J1',Conv kk N env1 J1 N env1' J1'/\ER N J' G env' env1'/\SR N J' J1'/\(HG gl env G->HG gl env' G)
 | [],env,env',J,J',env1,J1,h,he,hS=>by grind[xfz,Conv.refl]
 | (b,t)::r,env,env',J,J',env1,J1,h,he,hS=>by
  simp[xfz]at h;split at h
  . rename_i e s h1;obtain⟨e1,s1,k1,k2,k3,k4⟩:=nr h1 he hS;obtain⟨e2,s2,m1,m2,m3,m4⟩:=eA h k2 k3;exact⟨e2,s2,k1.trans m1,m2,m3,fun hg=>m4 (k4 hg)⟩
  grind
theorem Conv.close {b sz i o : Nat} {es : List (List T)} {t : T} (hb : sget J1 b = some (.arro sz es i o (.t t))):
 Conv kk N env1 J1 N env1 (sput J1 b (.arr sz (es.set i ((el es i).take o++[t]++(el es i).drop (o+1))))):=by
 intro Γ nt φ S a w hk0 R;obtain⟨⟨a1,a2,a3,a4,a5,a6⟩,⟨vs,E,k1,k2,k3,cv,k4,k5⟩,k6⟩:=R.sim.blk _ _ hb;have heli:es[i]?=some (el es i):=by unfold el;rw[List.getD,List.getElem?_eq_getElem a5];rfl
 have hell:=a3 _ (List.mem_of_getElem? heli);refine⟨φ,S,R.put (R.sbnd _ _ hb).1 rfl ⟨by simpa using a1,by simpa using a2,fun e he=>?_,a4,fun _=>⟨vs,E,k1,k2,fun i' j e t' he ht=>?_,k6⟩⟩ fun h0=>⟨fun k y hy hk h0'=>R.sim.inj k b y _ hy hb hk h0' h0,R.own b _ hb h0⟩⟩
 . grind
 . rw[List.getElem?_set]at he;by_cases hii:i=i'
   . subst hii;rw[if_pos rfl,if_pos a5]at he;cases he;have he':=(cp (vs:=el es i) (off:=o) (xs:=[t]) (by simp;omega) j)
     unfold fillV at he';rw[show o+[t].length=o+1 from rfl]at he';rw[he']at ht;by_cases c1:j=o
     . subst c1;rw[if_neg (by omega),if_pos (by omega),Nat.sub_self]at ht;cases ht;exact⟨cv,k4,k5⟩
     . have hjt:(el es i)[j]?=some t':=by
        by_cases c2:j < o
        . rwa [if_pos c2]at ht
        . rwa [if_neg c2,if_neg (by omega)]at ht
       grind
   grind
def il(b:Nat)(env:XEnv U)(J:XSt U):Option (XEnv U×XSt U):=
 match lk J b with
 | some (.arro t l i o (.t c))=>match Nat.ble (o+1) (t.sz U)with
  | true=>match xset U t l i o [.t c]with
   | some l'=>some (env,pt J b (.arr t l'))
   | none=>none
  | false=>none
 | _=>none
def pw(b:Nat)(env:XEnv U)(J:XSt U):Option (XEnv U×XSt U):=
 match lk J b with
 | some (.arro t l i o (.arr b2))=>match (t.row U (t.at U l i))[o]? with
  | some ⟨.slice te,_⟩=>match xfz1 b2 te env J with
   | some (env',J')=>il b env' J'
   | none=>none
  | _=>none
 | _=>il b env J
def oL :XSt U->Option Nat
 | []=>none
 | (b,.arro ..)::_=>some b
 | _::r=>oL r
def kV(env:XEnv U)(J:XSt U):Option (XEnv U×XSt U):=
 match oL J with
 | none=>some (env,J)
 | some b=>pw b env J
theorem lN {b : Nat} (h : il b env J = some (env', J')) (he : ER N J G env env1) (hS : SR N J J1):
 ∃env1' J1',Conv kk N env1 J1 N env1' J1'/\ER N J' G env' env1'/\SR N J' J1':=by
 unfold il at h;split at h
 . rename_i t l i o c hl;split at h
   . split at h
     . rename_i l2 hl2;cases h;obtain⟨hbN,y,h1,h2⟩:=hS b _ hl;cases h2 with
       | arro _ _ _ _ h2=>
        cases h2;have hlen:l2.length=List.length l:=by
         grind[xset]
        have kp:Keep N J N (pt J b (.arr t l2)):=cq (Nat.le_refl _) hl (fun p h=>by
         grind[XB.dim])
        refine⟨env1,sput _ b _,?_,he.mono kp,hS.put hbN kp (.arr t l2)⟩;by_cases hi:i < List.length l
        . obtain⟨ts,e1,e2⟩:=jV (N:=N) (J:=J) hl2 hi (.cons (.t c) .nil) (by simp_all);have:ts=[c.enc U]:=by grind[toTs,toT]
          have:=Conv.close (kk:=kk) (N:=N) (env1:=env1) h1
          grind
        . intro Γ nt φ S a w hk0 R;obtain⟨⟨_,_,_,_,a5,_⟩,_⟩:=R.sim.blk _ _ h1
          grind
     grind
   grind
 grind
theorem sj (h : kV env J = some (env', J')) (he : ER N J G env env1) (hS : SR N J J1):
 ∃env1' J1',Conv kk N env1 J1 N env1' J1'/\ER N J' G env' env1'/\SR N J' J1':=by
 unfold kV at h;split at h
 . grind[Conv.refl]
 . unfold pw at h;split at h
   . split at h
     . split at h
       . rename_i e s h1;obtain⟨e1,s1,k1,k2,k3,_⟩:=nr (gl:=[]) h1 he hS;obtain⟨e2,s2,m1,m2,m3⟩:=lN h k2 k3;exact⟨e2,s2,k1.trans m1,m2,m3⟩
       grind
     grind
   . exact lN h he hS
theorem Conv.own{k:Nat}{g:Bool}{sz:Nat}(hk:look env1 k=some (g,.c .cap0))(hsz:0 < sz)(hkk:kk<=N):Conv kk N env1 J1 (N+1) ((k,g,.c (.arr N sz 0 0))::env1) (sput J1 N (.arr sz [])):=by
 intro Γ nt φ S a w hk0 R;have R1:=R.newArr hsz (by omega);have hN:upd φ N (0,0) N=(0,0):=by simp[upd]
 refine⟨upd φ N _,S,⟨R1.sim,fun i g' v hl hg=>?_,fun i g' v hl hg=>?_,fun i g' v hl hg=>?_,R1.sbnd,R1.size,R1.defers,R1.ext,R1.own,R1.fix,R1.kn⟩⟩
 . simp[look]at hl;split at hl
   . rename_i e;cases hl;subst e;obtain⟨x,hx,hr⟩:=R1.envs _ _ _ hk hg;refine⟨x,hx,?_⟩;cases hr with
     | c hr=>
      obtain⟨a,rfl⟩:=hr;refine .c ⟨a,by grind,fun h=>absurd (by grind) h,by simp⟩
   . exact R1.envs i g' v hl hg
 . simp[look]at hl;split at hl
   . rename_i e;cases hl;subst e;exact R1.envn _ _ _ hk hg
   . exact R1.envn i g' v hl hg
 . simp only[look]at hl;split at hl
   . grind[V.bnd,C.bnd,lt]
   . exact R1.ebnd i g' v hl hg
theorem Conv.ownB {b j : Nat} {sz : Nat} {cs : List C} (hb : sget J1 b = some (.box cs)) (hj : cs[j]? = some .cap0) (hbN : b < N) (hsz : 0 < sz) (hkk : kk <= N):
 Conv kk N env1 J1 (N+1) env1 (sput (sput J1 N (.arr sz [])) b (.box (cs.set j (.arr N sz 0 0)))):=by
 intro Γ nt φ S a w hk0 R;have R1:=R.newArr hsz (by omega);have hN:upd φ N (0,0) N=(0,0):=by simp[upd]
 have hb1:sget (sput J1 N (.arr sz [])) b=some (.box cs):=by rw[ag];grind
 have hget:∀c x,sget (sput (sput J1 N (.arr sz [])) b (.box (cs.set j (.arr N sz 0 0)))) c=some x->(c=b/\x= .box (cs.set j (.arr N sz 0 0)))\/sget (sput J1 N (.arr sz [])) c=some x:=by
  grind[ag]
 have hget2:∀c x,sget (sput (sput J1 N (.arr sz [])) b (.box (cs.set j (.arr N sz 0 0)))) c=some x->∃y,sget (sput J1 N (.arr sz [])) c=some y:=by grind
 refine⟨upd φ N _,S,⟨⟨fun c x hx=>?_,fun c c' x y hx hy hne=>?_,R1.sim.st⟩,R1.envs,R1.envn,R1.ebnd,fun c x hx=>?_,R1.size,R1.defers,R1.ext,fun c x hx=>?_,R1.fix,R1.kn⟩⟩
 . rcases hget c x hx with⟨rfl,rfl⟩ | h
   . obtain⟨h0,vs,E,h1,h2,h3⟩:=R1.sim.blk _ _ hb1;refine⟨h0,vs,E,h1,?_,h3⟩;obtain⟨v,hv,hr⟩:=h2.get hj;obtain⟨a,rfl⟩:=hr;have:=All2.set (i:=j) h2 (a:= .arr N sz 0 0) (b:= .slice a 0 0) ⟨a,by grind,fun h=>absurd (by grind) h,by simp⟩;have hse:vs.set j (.slice a 0 0)=vs:=by
      apply List.ext_getElem?
      grind
     grind
   . exact R1.sim.blk c x h
 . obtain⟨x',hx'⟩:=hget2 c x hx;obtain⟨y',hy'⟩:=hget2 c' y hy;exact R1.sim.inj c c' x' y' hx' hy' hne
 . rcases hget c x hx with⟨rfl,rfl⟩ | h
   . have:=(R1.sbnd _ _ hb1).2
     grind[Blk.bnd,List.mem_or_eq_of_mem_set,C.bnd,lt]
   . exact R1.sbnd c x h
 . obtain⟨x',hx'⟩:=hget2 c x hx;exact R1.own c x' hx'
theorem Conv.trim {q b j : Nat} {sz h : Nat} {cs : List C} {es : List (List T)} (hq : sget J1 q = some (.box cs)) (hj : cs[j]? = some (.arr b sz 0 h)) (hb : sget J1 b = some (.arr sz es)) (hh : h <= es.length) (hqN : q < N):
 Conv kk N env1 J1 (N+1) env1 (sput (sput (sdel J1 b) N (.arr sz (es.take h))) q (.box (cs.set j (.arr N sz 0 h)))):=by
 intro Γ nt φ S a w hk0 R;have hbN:b < N:=by have:=(R.sbnd _ _ hb).1;grind[lt]
 have hφ:∀c,lt N c=true->upd φ N (φ b) c=φ c:=by
  intro c hc;simp only[lt,decide_eq_true_eq]at hc
  grind[upd]
 have hm:∀c,lt N c=true->lt (N+1) c=true:=fun c hc=>ij (by omega) hc
 have R1:=R.phi hφ;have hN:upd φ N (φ b) N=φ b:=by simp[upd]
 have hbφ:=hφ b (by grind[lt]);have hget:∀c x,sget (sput (sput (sdel J1 b) N (.arr sz (es.take h))) q (.box (cs.set j (.arr N sz 0 h)))) c=some x->(c=q/\x= .box (cs.set j (.arr N sz 0 h)))\/(c≠q/\c=N/\x= .arr sz (es.take h))\/(c≠q/\c≠N/\c≠b/\sget J1 c=some x):=by
  grind[ag,aC]
 have hold:∀c x,sget (sput (sput (sdel J1 b) N (.arr sz (es.take h))) q (.box (cs.set j (.arr N sz 0 h)))) c=some x->∃c' y,sget J1 c'=some y/\upd φ N (φ b) c=upd φ N (φ b) c'/\(c'=if c=N then b else c):=by grind
 refine⟨upd φ N (φ b),S,⟨⟨fun c x hx=>?_,fun c c' x y hx hy hne=>?_,R1.sim.st⟩,R1.envs,R1.envn,fun k g v hl hg=>V.bnd_mono hm (R1.ebnd k g v hl hg),fun c x hx=>?_,R1.size,R1.defers,R1.ext,fun c x hx h0=>?_,R1.fix,fun c hc=>by have:=R1.kn c hc;exact hm c this⟩⟩
 . rcases hget c x hx with⟨rfl,rfl⟩ | ⟨_,rfl,rfl⟩ | ⟨_,_,_,h4⟩
   . obtain⟨h0,vs,E,h1,h2,h3⟩:=R1.sim.blk _ _ hq;refine⟨h0,vs,E,h1,?_,h3⟩;obtain⟨v,hv,hr⟩:=h2.get hj;have hr':RC (upd φ N (φ b)) w S (.arr N sz 0 h) v:=by
      obtain⟨a,e1,e2,e3⟩:=hr;rw[hbφ]at e1 e2 e3;exact⟨a,by rw[hN];exact e1,by rw[hN];exact e2,by rw[hN];exact e3⟩
     have:=All2.set (i:=j) h2 hr';have hse:vs.set j v=vs:=by
      apply List.ext_getElem?
      grind
     grind
   . obtain⟨h0,h1,h2,h3,h4⟩:=R1.sim.blk _ _ hb;rw[hbφ]at h0 h4;refine⟨by rw[hN,List.length_take];omega,by rw[List.length_take];omega,fun e he=>h2 e (List.mem_of_mem_take he),h3,fun hc=>?_⟩
     grind
   . exact R1.sim.blk c x h4
 . obtain⟨d,x',hx',e1,e2⟩:=hold c x hx;obtain⟨d',y',hy',e3,e4⟩:=hold c' y hy;have hnd:d≠d':=by grind
   intro h0 h0';rw[e1]at h0 ⊢;rw[e3]at h0' ⊢;exact R1.sim.inj d d' x' y' hx' hy' hnd h0 h0'
 . rcases hget c x hx with⟨rfl,rfl⟩ | ⟨_,rfl,rfl⟩ | ⟨_,_,_,h4⟩
   . have:=(R1.sbnd _ _ hq).2
     grind[Blk.bnd,List.all_eq_true,List.mem_or_eq_of_mem_set,C.bnd_mono,C.bnd,lt]
   . exact⟨by simp[lt],rfl⟩
   . exact⟨hm c (R1.sbnd c x h4).1,Blk.bnd_mono hm (R1.sbnd c x h4).2⟩
 . obtain⟨d,x',hx',e1,_⟩:=hold c x hx;rw[e1]at h0 ⊢;exact R1.own d x' hx' h0
def eN :Nat->List (XC U)->Option (Nat×Nat×Nat)
 | _,[]=>none
 | j,.pre b h::_=>some (j,b,h)
 | j,_::r=>eN (j+1) r
def dc(J:XSt U):XSt U->Option (Nat×List (XC U)×Nat×Nat×Nat)
 | []=>none
 | (q,.box cs)::r=>match lk J q with
  | some (.box cs')=>match eN 0 cs' with
   | some p=>some (q,cs',p)
   | none=>dc J r
  | _=>dc J r
 | _::r=>dc J r
theorem mC :∀{cs:List (XC U)} {j i b h:Nat},eN j cs=some (i,b,h)->j<=i/\cs[i - j]?=some (.pre b h)
 | [],j,i,b,h,hf=>by grind[eN]
 | c::r,j,i,b,h,hf=>by
  have next:eN (j+1) r=some (i,b,h)->j<=i/\(c::r)[i - j]?=some (.pre b h):=by
   intro hf;obtain⟨h1,h2⟩:=mC hf
   grind
  cases c with
  | pre b' h'=>grind[eN,Option.some.injEq]
  | _=>exact next hf
theorem gI{q:Nat}{cs:List (XC U)}{i b h:Nat}:∀{l:XSt U},dc J l=some (q,cs,i,b,h)->lk J q=some (.box cs)/\cs[i]?=some (.pre b h)
 | [],hf=>by simp[dc]at hf
 | (k,x)::r,hf=>by
  cases x with
  | box c0=>
   simp[dc]at hf;split at hf
   . rename_i cs' hk;split at hf
     . rename_i p hp;obtain⟨rfl,rfl,rfl⟩:=hf;exact⟨hk,by simpa using(mC hp).2⟩
     . exact gI hf
   . exact gI hf
  | _=>exact gI (by simpa[dc]using hf)
def xtrim{R:Type}(J:XSt U)(N:Nat)(k:XSt U->Nat->Option R):Option R:=
 match dc J J with
 | none=>k J N
 | some (q,cs,j,b,h)=>match lk J b with
  | some (.arr t l)=>if decide (h<=l.length)=true then k (pt (pt (dl J b) N (.arr t (l.take h))) q (.box (cs.set j (.arr N)))) (N+1)else none
  | _=>none
theorem nu {q j b h0 : Nat} {cs : List (XC U)} {x : XC U} {t : Ty} {l : List (t.den U.D)} (hq : lk J q = some (.box cs)) (hj : cs[j]? = some x) (hb : lk J b = some (.arr t l)) (hx : ∀ d, CR N J x d -> d = .arr b (t.sz U) 0 h0) (hle : h0 <= l.length)
 (he:ER N J G env env1) (hS:SR N J J1):
 ∃J1',Conv kk N env1 J1 (N+1) env1 J1'/\ER (N+1) (pt (pt (dl J b) N (.arr t (l.take h0))) q (.box (cs.set j (.arr N)))) G env env1/\SR (N+1) (pt (pt (dl J b) N (.arr t (l.take h0))) q (.box (cs.set j (.arr N)))) J1':=by
 obtain⟨hqN,yq,hq1,hq2⟩:=hS q _ hq;obtain⟨hbN,yb,hb1,hb2⟩:=hS b _ hb;cases hb2;cases hq2 with
 | @box _ ds hq2=>
  obtain⟨d,hd,hr⟩:=hq2.get hj;have:=hx d hr;subst this;have hqb:q≠b:=by grind
  have k1:Keep N J N (dl J b):=cN;have k2:Keep N (dl J b) (N+1) (pt (dl J b) N (.arr t (l.take h0))):=bn (by simp);have hq':lk (pt (dl J b) N (.arr t (l.take h0))) q=some (.box cs):=by rw[lk_pt,if_neg (by omega),lk_dl,if_neg (fun e=>hqb e.symm)];grind
  have k3:Keep (N+1) (pt (dl J b) N (.arr t (l.take h0))) (N+1) (pt (pt (dl J b) N (.arr t (l.take h0))) q (.box (cs.set j (.arr N)))):=cq (Nat.le_refl _) hq' (fun p h=>by grind[XB.dim]);have km:=(k1.trans k2).trans k3;have hS1:SR N (dl J b) (sdel J1 b):=by
   intro c x hx;rw[lk_dl]at hx;split at hx
   . grind
   . obtain⟨g1,y,g2,g3⟩:=hS c x hx;exact⟨g1,y,by simp_all[aC,if_neg],g3.mono k1⟩
  refine⟨_,Conv.trim hq1 hd hb1 (by grind) hqN,he.mono km,?_⟩;rw[<-List.map_take];refine(hS1.put (by simp) k2 (.arr t (l.take h0))).put (by omega) k3 (.box ?_);refine All2.set (hq2.imp fun _ _ _ g=>g.mono km) (.arr N _ _ (by simp) fun x hx p hp=>?_);rw[lk_pt,lk_pt,if_pos rfl]at hx
  grind[XB.dim,Option.some.injEq,List.length_take,Nat.min_eq_left]
theorem mD {R : Type} {k : XSt U -> Nat -> Option R} {r : R} (h : xtrim J N k = some r) (he : ER N J (fun _ => true) env env1) (hS : SR N J J1):
 ∃J' N' J1',k J' N'=some r/\Conv kk N env1 J1 N' env1 J1'/\ER N' J' (fun _=>true) env env1/\SR N' J' J1'/\N<=N':=by
 unfold xtrim at h;split at h
 . exact⟨J,N,J1,h,Conv.refl,he,hS,Nat.le_refl _⟩
 . rename_i q cs j b h0 hf;obtain⟨hq,hj⟩:=gI hf;split at h
   . rename_i t l hb;split at h
     . obtain⟨s1,m1,m2,m3⟩:=nu (kk:=kk) (h0:=h0) hq hj hb (fun d hr=>by
        cases hr with
        | pre _ sz _ _ hz=>
         have hz:=hz _ hb _ rfl
         grind) (by grind) he hS
       grind
     grind
   grind
def dN(kk:Nat):Nat->List (XC U)->Option (Nat×Nat)
 | _,[]=>none
 | j,.arr b::r=>match Nat.ble (b+1) kk with
  | true=>some (j,b)
  | false=>dN kk (j+1) r
 | j,_::r=>dN kk (j+1) r
def dd(kk:Nat)(J:XSt U):XSt U->Option (Nat×List (XC U)×Nat×Nat)
 | []=>none
 | (q,.box _)::r=>match lk J q with
  | some (.box cs)=>match dN kk 0 cs with
   | some p=>some (q,cs,p)
   | none=>dd kk J r
  | _=>dd kk J r
 | _::r=>dd kk J r
theorem mE{kk:Nat}:∀{cs:List (XC U)} {j i b:Nat},dN kk j cs=some (i,b)->j<=i/\cs[i - j]?=some (.arr b)
 | [],j,i,b,hf=>by grind[dN]
 | c::r,j,i,b,hf=>by
  have next:dN kk (j+1) r=some (i,b)->j<=i/\(c::r)[i - j]?=some (.arr b):=by
   intro hf;obtain⟨h1,h2⟩:=mE hf
   grind
  cases c with
  | arr b'=>
   grind[dN]
  | _=>exact next hf
theorem gK{kk q:Nat}{cs:List (XC U)}{i b:Nat}:∀{l:XSt U},dd kk J l=some (q,cs,i,b)->lk J q=some (.box cs)/\cs[i]?=some (.arr b)
 | [],hf=>by grind[dd]
 | (k,x)::r,hf=>by
  cases x with
  | box c0=>
   simp only[dd]at hf;split at hf
   . rename_i cs' hk;split at hf
     . rename_i p hp;obtain⟨rfl,rfl,rfl⟩:=hf;exact⟨hk,by simpa using(mE hp).2⟩
     . exact gK hf
   . exact gK hf
  | _=>exact gK (by simpa[dd]using hf)
def xmove{R:Type}(kk:Nat)(J:XSt U)(k:XSt U->Nat->Option R):Option R:=
 match dd kk J J with
 | none=>k J kk
 | some (q,cs,j,b)=>match lk J b with
  | some (.arr t l)=>k (pt (pt (dl J b) kk (.arr t l)) q (.box (cs.set j (.arr kk)))) (kk+1)
  | _=>k J kk
theorem sS {R : Type} {k : XSt U -> Nat -> Option R} {r : R} (h : xmove kk J k = some r) (he : ER kk J (fun _ => true) env env1) (hS : SR kk J J1):
 ∃J' N' J1',k J' N'=some r/\Conv kk kk env1 J1 N' env1 J1'/\ER N' J' (fun _=>true) env env1/\SR N' J' J1'/\kk<=N':=by
 unfold xmove at h;split at h
 . exact⟨J,kk,J1,h,Conv.refl,he,hS,Nat.le_refl _⟩
 . rename_i q cs j b hf;obtain⟨hq,hj⟩:=gK hf;split at h
   . rename_i t l hb
     obtain⟨s1,m1,m2,m3⟩:=nu (kk:=kk) hq hj hb (fun d hr=>by
      cases hr with
      | arr _ sz n _ hz=>
       have hz:=hz _ hb _ rfl
       grind) (Nat.le_refl _) he hS
     grind
   . exact⟨J,kk,J1,h,Conv.refl,he,hS,Nat.le_refl _⟩
inductive Pos where
 | slot (k:Nat)
 | cell (b j:Nat)
 | via (k j:Nat)
def xownC(b j:Nat)(t:Ty)(env:XEnv U)(J:XSt U)(N:Nat):Option (XEnv U×XSt U):=
 match lk J b with
 | some (.box cs)=>match cs[j]? with
  | some .cap0=>some (env,pt (pt J N (.arr t [])) b (.box (cs.set j (.arr N))))
  | _=>some (env,J)
 | _=>none
def xown1(p:Pos)(t:Ty)(env:XEnv U)(J:XSt U)(N:Nat):Option (XEnv U×XSt U):=
 match p with
 | .slot k=>match lk env k with
  | some (.c .cap0)=>some ((k,.c (.arr N))::env,pt J N (.arr t []))
  | _=>some (env,J)
 | .cell b j=>xownC b j t env J N
 | .via k j=>match lk env k with
  | some (.c (.ptr b _))=>xownC b j t env J N
  | _=>none
def xown :List (Pos×Ty)->XEnv U->XSt U->Nat->Option (XEnv U×XSt U×Nat)
 | [],env,J,N=>some (env,J,N)
 | (p,t)::r,env,J,N=>match xown1 p t env J N with
  | some (env',J')=>xown r env' J' (N+1)
  | none=>none
theorem oa{t:Ty}(he:ER N J (fun _=>true) env env1)(hS:SR N J J1)(hkk:kk<=N):∃env1' J1',Conv kk N env1 J1 (N+1) env1' J1'/\ER (N+1) J (fun _=>true) env env1'/\SR (N+1) J J1':=by
 refine⟨env1,sput _ N (.arr 1 []),fun Γ nt φ S a w hk R=>⟨_,S,R.newArr (by simp) (by omega)⟩,he.mono (Keep.more (by simp)),fun b x hx=>?_⟩;obtain⟨h1,y,h2,h3⟩:=hS b x hx;exact⟨by omega,y,by grind[ag],h3.mono (Keep.more (by simp))⟩
theorem jD {b j : Nat} {t : Ty} (h : xownC b j t env J N = some (env', J')) (he : ER N J (fun _ => true) env env1) (hS : SR N J J1) (hkk : kk <= N):
 ∃env1' J1',Conv kk N env1 J1 (N+1) env1' J1'/\ER (N+1) J' (fun _=>true) env' env1'/\SR (N+1) J' J1':=by
 have same:=oa (t:=t) he hS hkk;unfold xownC at h;split at h
 . rename_i cs hcs;split at h
   . rename_i hj;cases h;obtain⟨hbN,y,h1,h2⟩:=hS b _ hcs;cases h2 with
     | @box _ ds h2=>
      obtain⟨d,hd,hr⟩:=h2.get hj;cases hr;have kp:Keep N J (N+1) (pt J N (.arr t [])):=bn (by simp);have hcs':lk (pt J N (.arr t [])) b=some (.box cs):=by rw[lk_pt];grind
      have kp2:Keep (N+1) _ (N+1) (pt _ b (.box (cs.set j (.arr N)))):=cq (Nat.le_refl _) hcs' (fun p h=>by grind[XB.dim]);refine⟨_,_,Conv.ownB h1 hd hbN (Ty.sz_pos (t:=t) (U:=U)) hkk,(he.mono kp).mono kp2,(hS.put (by simp) kp (.arr t [])).put (by omega) kp2 (.box ?_)⟩;refine All2.set (h2.imp fun _ _ _ h=>(h.mono kp).mono kp2) (.arr N _ _ (by simp) fun x hx p hp=>?_)
      rw[lk_pt,lk_pt]at hx
      grind[XB.dim]
   grind
 grind
theorem sT {p : Pos} {t : Ty} (h : xown1 p t env J N = some (env', J')) (he : ER N J (fun _ => true) env env1) (hS : SR N J J1) (hkk : kk <= N):
 ∃env1' J1',Conv kk N env1 J1 (N+1) env1' J1'/\ER (N+1) J' (fun _=>true) env' env1'/\SR (N+1) J' J1':=by
 have same:=oa (t:=t) he hS hkk;unfold xown1 at h;split at h
 . rename_i k;split at h
   . rename_i hk;cases h;obtain⟨v1,h1,h2⟩:=he k _ hk;have:=h2.cap0_inv;subst this;have kp:Keep N J (N+1) (pt J N (.arr t [])):=bn (by simp);refine⟨_,_,Conv.own h1 (Ty.sz_pos (t:=t) (U:=U)) hkk,fun i v hi=>?_,hS.put (by simp) kp (.arr t [])⟩;simp only[lk]at hi;simp only[look];split at hi
     . rename_i hb;cases hi;rw[if_pos (aj hb)];refine⟨_,rfl,.c (.arr N _ _ (by simp) fun x hx p hp=>?_)⟩;rw[lk_pt,if_pos rfl]at hx;grind[XB.dim]
     . rename_i hb;rw[if_neg (aU hb)];exact(he.mono kp) i v hi
   grind
 . grind[jD]
 grind[jD]
def kX :List (XC U)->List Bool->Bool
 | [],[]=>true
 | .t _::cs,false::bs=>kX cs bs
 | .cap0::cs,true::bs=>kX cs bs
 | _,_=>false
def findB(cs:List (XC U)):List (List Bool×Nat×Ty)->Option (Nat×Ty)
 | []=>none
 | (bs,p)::r=>match kX cs bs with
  | true=>some p
  | false=>findB cs r
def kF(l:List (List Bool×Nat×Ty)):XSt U->Option (Nat×Nat×Ty)
 | []=>none
 | (q,.box cs)::r=>match findB cs l with
  | some p=>some (q,p)
  | none=>kF l r
 | _::r=>kF l r
def xrend{R:Type}(env:XEnv U)(J:XSt U)(N:Nat)(k:XEnv U->XSt U->Nat->Option R):Option R:=
 match kF U.own J with
 | none=>xtrim J N fun J N=>k env J N
 | some (q,j,t)=>match xownC q j t env J N with
  | some (env,J)=>xtrim J (N+1) fun J N=>k env J N
  | none=>none
theorem mF {R : Type} {k : XEnv U -> XSt U -> Nat -> Option R} {r : R} (h : xrend env J N k = some r) (he : ER N J (fun _ => true) env env1) (hS : SR N J J1) (hkk : kk <= N):
 ∃env' J' N' env1' J1',k env' J' N'=some r/\Conv kk N env1 J1 N' env1' J1'/\ER N' J' (fun _=>true) env' env1'/\SR N' J' J1'/\N<=N':=by
 unfold xrend at h;split at h
 . obtain⟨s2,N2,s12,g1,g2,g3,g4,g5⟩:=mD h he hS;exact⟨_,_,_,_,_,g1,g2,g3,g4,g5⟩
 . split at h
   . rename_i e s ho;obtain⟨e1,s1,c1,c2,c3⟩:=jD ho he hS hkk;obtain⟨s2,N2,s12,g1,g2,g3,g4,g5⟩:=mD h c2 c3;exact⟨_,_,_,_,_,g1,c1.trans g2,g3,g4,by omega⟩
   grind
theorem nv : ∀ {l : List (Pos×Ty)} {env env' : XEnv U} {J J' : XSt U} {N N' : Nat} {env1 : Env} {J1 : Store}, xown l env J N = some (env', J', N') -> ER N J (fun _ => true) env env1 -> SR N J J1 -> kk <= N ->
 ∃env1' J1',Conv kk N env1 J1 N' env1' J1'/\ER N' J' (fun _=>true) env' env1'/\SR N' J' J1'/\N<=N'
 | [],env,env',J,J',N,N',env1,J1,h,he,hS,hkk=>by obtain⟨rfl,rfl,rfl⟩:=h;exact⟨env1,J1,Conv.refl,he,hS,Nat.le_refl _⟩
 | (p,t)::r,env,env',J,J',N,N',env1,J1,h,he,hS,hkk=>by
  simp[xown]at h;split at h
  . rename_i e s h1;obtain⟨e1,s1,k1,k2,k3⟩:=sT h1 he hS hkk;obtain⟨e2,s2,m1,m2,m3,m4⟩:=nv h k2 k3 (by omega);exact⟨e2,s2,k1.trans m1,m2,m3,by omega⟩
  grind
end
end
section
open Go
variable [GV]
variable {U:Uni}
inductive SC where
 | hole (ty:Ty)
 | ptr (b o:Nat)
 | eptr (b:Nat) (ty:Ty) (o:Nat)
 | iptr (ty:Ty) (o:Nat)
 | arr (b:Nat)
 | mp (b:Nat)
 | bufc (b:Nat)
 | cap0
 | nilp
 | nilfn
 | fn (f:Nat) (caps:List Nat)
 | dead
inductive SV where
 | c (s:SC)
 | agg (l:List SC)
 | row (n:Nat)
 | tup (l:List SV)
inductive SB where
 | box (l:List SC)
 | arr (ty:Ty)
 | brow (n:Nat)
 | gone
 | set
 | buf (E:Nat)
 | bld (E:Nat) (s:SC)
structure Shape where
 env:List (Nat×SV)
 st:List SB
abbrev Cs(U:Uni):=List (Cell U.D)
def filC :SC->Cs U->XC U×Cs U
 | .hole _,c::r=>(.t c,r)
 | .hole _,[]=>(.dead,[])
 | .ptr b o,r=>(.ptr b o,r)
 | .eptr b ty o,⟨.int _,n⟩::r=>(.eptr b ty (Int.toNat n) o,r)
 | .eptr _ _ _,r=>(.dead,r)
 | .iptr _ o,c::r=>(.iptr c.ty c.val o,r)
 | .iptr _ _,[]=>(.dead,[])
 | .arr b,r=>(.arr b,r)
 | .mp b,r=>(.mp b,r)
 | .bufc b,r=>(.bufc b,r)
 | .cap0,r=>(.cap0,r)
 | .nilp,r=>(.nilp,r)
 | .nilfn,r=>(.nilfn,r)
 | .fn f caps,r=>(.fn f caps,r)
 | .dead,r=>(.dead,r)
def filCs :List SC->Cs U->List (XC U)×Cs U
 | [],r=>([],r)
 | s::ss,r=>match filC s r with
  | (x,r1)=>match filCs ss r1 with
   | (xs,r2)=>(x::xs,r2)
mutual
def filV :SV->Cs U->XV U×Cs U
 | .c s,r=>match filC s r with
  | (x,r1)=>(.c x,r1)
 | .agg l,r=>match filCs l r with
  | (xs,r1)=>(.agg xs,r1)
 | .row _,c::r=>(.agg ((c.ty.row U c.val).map .t),r)
 | .row _,[]=>(.tup [],[])
 | .tup l,r=>match filVs l r with
  | (xs,r1)=>(.tup xs,r1)
def filVs :List SV->Cs U->List (XV U)×Cs U
 | [],r=>([],r)
 | s::ss,r=>match filV s r with
  | (x,r1)=>match filVs ss r1 with
   | (xs,r2)=>(x::xs,r2)
end
def filE :List (Nat×SV)->Cs U->XEnv U×Cs U
 | [],r=>([],r)
 | (k,s)::ss,r=>match filV s r with
  | (x,r1)=>match filE ss r1 with
   | (xs,r2)=>((k,x)::xs,r2)
def filB :SB->Cs U->Option (XB U)×Cs U
 | .box l,r=>match filCs l r with
  | (xs,r1)=>(some (.box xs),r1)
 | .arr _,⟨.slice t,l⟩::r=>(some (.arr t l),r)
 | .arr _,r=>(none,r)
 | .brow _,c::r=>(some (.box ((c.ty.row U c.val).map .t)),r)
 | .brow _,[]=>(none,[])
 | .gone,r=>(none,r)
 | .set,⟨.slice .str,l⟩::r=>(some (.set l),r)
 | .set,r=>(none,r)
 | .buf E,⟨.str,s⟩::r=>(some (.buf E s),r)
 | .buf _,r=>(none,r)
 | .bld E s,r=>match filC s r with
  | (x,r1)=>(some (.bld E x),r1)
def filS :Nat->List SB->Cs U->XSt U
 | _,[],_=>[]
 | j,s::ss,r=>match filB s r with
  | (some x,r1)=>(j,x)::filS (j+1) ss r1
  | (none,r1)=>filS (j+1) ss r1
def getN{α:Type}:List α->Nat->Option α
 | [],_=>none
 | a::_,0=>some a
 | _::l,n+1=>getN l n
theorem im{α:Type}:∀{l:List α} {n:Nat},getN l n=l[n]?
 | [],n=>by rfl
 | a::l,0=>by rfl
 | a::l,n+1=>by simp[getN,im]
def isB(bs:List Nat)(j b:Nat):Bool:=match getN bs j with
 | some b'=>Nat.beq b' b
 | none=>false
def capsB(bs:List Nat):List Nat->List Nat->Bool
 | [],[]=>true
 | j::js,c::cs=>isB bs j c && capsB bs js cs
 | _,_=>false
def thaw(ty:Ty):XC U->Option (Cell U.D)
 | .t c=>match Cell.as ty c with
  | some x=>some ⟨ty,x⟩
  | none=>none
 | .cap0=>match ty with
  | .slice t=>some ⟨.slice t,([]:List (t.den U.D))⟩
  | _=>none
 | _=>none
def chkC(bs:List Nat):SC->XC U->Option (Cs U)
 | .hole ty,x=>match thaw ty x with
  | some c=>some [c]
  | none=>none
 | .ptr j o,.ptr b o'=>match isB bs j b && Nat.beq o o' with
  | true=>some []
  | false=>none
 | .eptr j ty o,.eptr b ty' i o'=>match isB bs j b && (Nat.beq o o' && Ty.beq ty ty')with
  | true=>some [⟨.int .i64,(i:Int)⟩]
  | false=>none
 | .iptr ty o,.iptr ty' x o'=>match Nat.beq o o',Cell.as ty (⟨ty',x⟩:Cell U.D)with
  | true,some x=>some [⟨ty,x⟩]
  | _,_=>none
 | .arr j,.arr b=>match isB bs j b with
  | true=>some []
  | false=>none
 | .mp j,.mp b=>match isB bs j b with
  | true=>some []
  | false=>none
 | .bufc j,.bufc b=>match isB bs j b with
  | true=>some []
  | false=>none
 | .cap0,.cap0=>some []
 | .nilp,.nilp=>some []
 | .nilfn,.nilfn=>some []
 | .fn f js,.fn f' cs=>match Nat.beq f f' && capsB bs js cs with
  | true=>some []
  | false=>none
 | .dead,_=>some []
 | _,_=>none
def chkCs(bs:List Nat):List SC->List (XC U)->Option (Cs U)
 | [],[]=>some []
 | s::ss,x::xs=>match chkC bs s x,chkCs bs ss xs with
  | some a,some b=>some (a++b)
  | _,_=>none
 | _,_=>none
mutual
def chkV(bs:List Nat):SV->XV U->Option (Cs U)
 | .c s,.c x=>chkC bs s x
 | .agg l,.agg xs=>chkCs bs l xs
 | .row n,.agg xs=>match xmk U (.nm n) xs with
  | some x=>some [⟨.nm n,x⟩]
  | none=>none
 | .tup l,.tup xs=>chkVs bs l xs
 | _,_=>none
def chkVs(bs:List Nat):List SV->List (XV U)->Option (Cs U)
 | [],[]=>some []
 | s::ss,x::xs=>match chkV bs s x,chkVs bs ss xs with
  | some a,some b=>some (a++b)
  | _,_=>none
 | _,_=>none
end
def chkE(bs:List Nat)(env:XEnv U):List (Nat×SV)->Option (Cs U)
 | []=>some []
 | (k,s)::ss=>match lk env k with
  | some x=>match chkV bs s x,chkE bs env ss with
   | some a,some b=>some (a++b)
   | _,_=>none
  | none=>none
def chkB(bs:List Nat):SB->XB U->Option (Cs U)
 | .box l,.box xs=>chkCs bs l xs
 | .arr ty,.arr t l=>match Cell.as (.slice ty) (⟨.slice t,l⟩:Cell U.D)with
  | some l=>some [⟨.slice ty,l⟩]
  | none=>none
 | .arr ty,.rows sz r=>match Nat.beq (ty.sz U) sz,xmks U ty r with
  | true,some l=>some [⟨.slice ty,l⟩]
  | _,_=>none
 | .brow n,.box xs=>match xmk U (.nm n) xs with
  | some x=>some [⟨.nm n,x⟩]
  | none=>none
 | .set,.set l=>some [⟨.slice .str,l⟩]
 | .buf E,.buf E' s=>match Nat.beq E E' with
  | true=>some [⟨.str,s⟩]
  | false=>none
 | .bld E s,.bld E' x=>match Nat.beq E E' with
  | true=>chkC bs s x
  | false=>none
 | _,_=>none
def chkS(bs:List Nat)(J:XSt U):Nat->List SB->Option (Cs U)
 | _,[]=>some []
 | j,.gone::ss=>chkS bs J (j+1) ss
 | j,s::ss=>match getN bs j with
  | some b=>match lk J b with
   | some x=>match chkB bs s x,chkS bs J (j+1) ss with
    | some a,some r=>some (a++r)
    | _,_=>none
   | none=>none
  | none=>none
section
variable {kk N:Nat} {J Jc:XSt U} {J1:Store} {env:XEnv U} {env1:Env} {bs:List Nat}
def Can(bs:List Nat)(J Jc:XSt U):Prop:=∀j b x',bs[j]?=some b->lk Jc j=some x'->∃x,lk J b=some x/\∀p,x'.dim=some p->x.dim=some p
theorem bV{bs:List Nat}(hnd:bs.Nodup){j b:Nat}(h:bs[j]?=some b):pos bs b=some j:=by
 induction bs generalizing j with
 | nil=>grind
 | cons a bs ih=>
  grind[pos]
theorem eF{j b:Nat}(h:isB bs j b=true):bs[j]?=some b:=by
 unfold isB at h;rw[im]at h;split at h
 all_goals simp_all
theorem nw(hnd:bs.Nodup):∀{js cs:List Nat},capsB bs js cs=true->cR bs cs=some js
 | [],[],_=>rfl
 | j::js,c::cs,h=>by
  simp[capsB]at h;simp[cR,bV hnd (eF h.1),nw hnd h.2]
theorem tP{ty:Ty}{x:XC U}{c:Cell U.D}{d:C}(h:thaw ty x=some c)(hr:CR N J x d):CSub (d.ren bs) (.t (c.enc U))/\c.ty=ty:=by
 unfold thaw at h;split at h
 . split at h
   . rename_i c' y hy;cases h;rw[Cell.as_some hy]at hr;cases hr;exact⟨CSub.refl _,rfl⟩
   grind
 . split at h
   . cases h;cases hr;exact⟨CSub.cap0,rfl⟩
   grind
 grind
theorem jW (hnd : bs.Nodup) (hcan : Can bs J Jc) {s : SC} {x : XC U} {a : Cs U} (h : chkC bs s x = some a):
 ∃y,(∀r,filC s (a++r)=(y,r))/\∀d,CR N J x d->∃d',CSub (d.ren bs) d'/\CR bs.length Jc y d':=by
 unfold chkC at h;split at h
 . split at h
   . rename_i c hc;cases h;exact⟨.t c,fun r=>rfl,fun d hd=>⟨_,(tP hc hd).1,.t c⟩⟩
   grind
 . rename_i j o b o';split at h
   . rename_i hb;simp only[Bool.and_eq_true]at hb;have:=aj hb.2;subst this;cases h;refine⟨.ptr j o,fun r=>rfl,fun d hd=>⟨.ptr j o,?_,.ptr j o⟩⟩;cases hd;simp only[C.ren,bV hnd (eF hb.1)];exact CSub.refl _
   grind
 . rename_i j ty o b ty' i o';split at h
   . rename_i hb;simp only[Bool.and_eq_true]at hb;have:=aj hb.2.1;subst this;have:=Ty.beq_eq hb.2.2;subst this;cases h;refine⟨.eptr j ty i o,fun r=>rfl,fun d hd=>⟨.eptr j (ty.sz U) i o,?_,.eptr j ty i o⟩⟩;cases hd;simp only[C.ren,bV hnd (eF hb.1)];exact CSub.refl _
   grind
 . rename_i ty o ty' x o';split at h
   . rename_i y ho hy;have:=aj ho;subst this;cases h;have e:=Cell.as_some hy;cases e;refine⟨.iptr ty y o,fun r=>rfl,fun d hd=>⟨d,?_,?_⟩⟩
     . cases hd;exact CSub.refl _
     . cases hd;exact .iptr ty y o
   grind
 . rename_i j b;split at h
   . rename_i hb;cases h;refine⟨.arr j,fun r=>rfl,fun d hd=>?_⟩;cases hd with
     | arr _ sz n hbN hh=>
      have hj:=eF hb;refine⟨.arr j sz 0 n,?_,.arr j sz n (List.getElem?_eq_some_iff.1 hj).1 fun x hx p hp=>?_⟩
      . simp only[C.ren,bV hnd hj];exact CSub.refl _
      . obtain⟨x0,h1,h2⟩:=hcan j b x hj hx
        grind
   grind
 . rename_i j b;split at h
   . rename_i hb;cases h;refine⟨.mp j,fun r=>rfl,fun d hd=>?_⟩;cases hd;refine⟨.mp j,?_,.mp j⟩;simp only[C.ren,bV hnd (eF hb)];exact CSub.refl _
   grind
 . rename_i j b;split at h
   . rename_i hb;cases h;refine⟨.bufc j,fun r=>rfl,fun d hd=>?_⟩;cases hd with
     | bufc _ n hbN hh=>
      have hj:=eF hb;refine⟨.bufc j n,?_,.bufc j n (List.getElem?_eq_some_iff.1 hj).1 fun x hx p hp=>?_⟩
      . simp only[C.ren,bV hnd hj];exact CSub.refl _
      . obtain⟨x0,h1,h2⟩:=hcan j b x hj hx
        grind
   grind
 . cases h;exact⟨.cap0,fun r=>rfl,fun d hd=>by cases hd;exact⟨.cap0,CSub.refl _,.cap0⟩⟩
 . cases h;exact⟨.nilp,fun r=>rfl,fun d hd=>by cases hd;exact⟨.nilp,CSub.refl _,.nilp⟩⟩
 . cases h;exact⟨.nilfn,fun r=>rfl,fun d hd=>by cases hd;exact⟨.nilfn,CSub.refl _,.nilfn⟩⟩
 . rename_i f js f' cs;split at h
   . rename_i hb;simp only[Bool.and_eq_true]at hb;have:=aj hb.1;subst this;cases h;refine⟨.fn f js,fun r=>rfl,fun d hd=>⟨.fn f js,?_,.fn f js⟩⟩;cases hd;simp only[C.ren,nw hnd hb.2];exact CSub.refl _
   grind
 . cases h;exact⟨.dead,fun r=>rfl,fun d hd=>⟨.dead,CSub.dead _,.dead _⟩⟩
 . cases h
theorem jE (hnd : bs.Nodup) (hcan : Can bs J Jc): ∀ {ss : List SC} {xs : List (XC U)} {a : Cs U}, chkCs bs ss xs = some a ->
 ∃ys,(∀r,filCs ss (a++r)=(ys,r))/\∀ds,All2 (CR N J) xs ds->∃ds',All2 CSub (ds.map (C.ren bs)) ds'/\All2 (CR bs.length Jc) ys ds'
 | [],[],a,h=>by simp[chkCs]at h;subst h;exact⟨[],fun r=>rfl,fun ds hd=>by cases hd;exact⟨[],.nil,.nil⟩⟩
 | s::ss,x::xs,a,h=>by
  simp[chkCs]at h;split at h
  . rename_i a1 a2 h1 h2;cases h;obtain⟨y,f1,g1⟩:=jW hnd hcan h1;obtain⟨ys,f2,g2⟩:=jE hnd hcan h2;refine⟨y::ys,fun r=>by simp[filCs,f1,f2],fun ds hd=>?_⟩;cases hd with
    | cons hd1 hd2=>
     obtain⟨d',e1,e2⟩:=g1 _ hd1;obtain⟨ds',e3,e4⟩:=g2 _ hd2;exact⟨d'::ds',.cons e1 e3,.cons e2 e4⟩
  grind
 | [],_::_,a,h=>by simp[chkCs]at h
 | _::_,[],a,h=>by grind[chkCs]
theorem oc{n:Nat}{xs:List (XC U)}{x:(Ty.nm n).den U.D}(h:xmk U (.nm n) xs=some x):∀ds,All2 (CR N J) xs ds->∃ds',All2 CSub (ds.map (C.ren bs)) ds'/\All2 (CR bs.length Jc) (((Ty.nm n).row U x).map .t) ds':=by
 intro ds hd;refine⟨((Ty.nm n).enc U x).map .t,?_,fQ⟩;unfold xmk at h;split at h
 . rename_i row hrow;rw[Ty.enc_row,Ty.mk_row h];clear h;generalize (Ty.nm n).cells U=tys at hrow
   induction xs generalizing tys row ds with
   | nil=>
    cases hd;cases tys <;> simp[ba]at hrow
    subst hrow;exact .nil
   | cons y ys ih=>
    cases hd with
    | @cons _ d _ ds h1 h2=>
     cases tys with
     | nil=>grind[ba]
     | cons ty tys=>
      cases h1 with
      | t c=>cases ty <;> simp[ba]at hrow <;> (split at hrow <;> first | (cases hrow;done) | (rename_i q hq;cases hrow;exact .cons (CSub.refl _) (ih _ h2 _ _ hq)))
      | cap0=>
       cases ty <;> simp[ba]at hrow
       split at hrow
       . rename_i q hq;cases hrow;exact .cons CSub.cap0 (ih _ h2 _ _ hq)
       grind
      | _=>grind[ba]
 grind
mutual
theorem chkV_sound (hnd : bs.Nodup) (hcan : Can bs J Jc): ∀ {s : SV} {x : XV U} {a : Cs U}, chkV bs s x = some a ->
 ∃y,(∀r,filV s (a++r)=(y,r))/\∀d,VR N J x d->∃d',VSub (d.ren bs) d'/\VR bs.length Jc y d'
 | .c s,.c x,a,h=>by
  simp only[chkV]at h;obtain⟨y,f,g⟩:=jW (N:=N) hnd hcan h;refine⟨.c y,fun r=>by simp only[filV,f],fun d hd=>?_⟩;cases hd with
  | c hd=>obtain⟨d',e1,e2⟩:=g _ hd;exact⟨.c d',.c e1,.c e2⟩
 | .agg l,.agg xs,a,h=>by
  simp only[chkV]at h;obtain⟨y,f,g⟩:=jE (N:=N) hnd hcan h;refine⟨.agg y,fun r=>by simp only[filV,f],fun d hd=>?_⟩;cases hd with
  | agg hd=>obtain⟨d',e1,e2⟩:=g _ hd;exact⟨.agg d',.agg e1,.agg e2⟩
 | .row n,.agg xs,a,h=>by
  simp only[chkV]at h;split at h
  . rename_i x hx;cases h;refine⟨.agg (((Ty.nm n).row U x).map .t),fun r=>rfl,fun d hd=>?_⟩;cases hd with
    | agg hd=>obtain⟨d',e1,e2⟩:=oc hx _ hd;exact⟨.agg d',.agg e1,.agg e2⟩
  . cases h
 | .tup l,.tup xs,a,h=>by
  simp only[chkV]at h;obtain⟨ys,f,hl,g⟩:=chkVs_sound hnd hcan h;refine⟨.tup ys,fun r=>by simp only[filV,f],fun d hd=>?_⟩;cases hd with
  | tup _ ds hl2 hd=>
   obtain⟨ds',e1,e2,e3⟩:=g ds hl2 hd;refine⟨.tup ds',.tup _ _ (by rw[gB];exact e1.symm) ?_,.tup _ _ (by omega) fun i x d hx hd'=>(e3 i x d hx hd')⟩;intro i x y hx hy;rw[gR,oZ1]at hx
   grind
 | .c _,.agg _,a,h=>by simp[chkV]at h
 | .c _,.tup _,a,h=>by simp[chkV]at h
 | .agg _,.c _,a,h=>by simp[chkV]at h
 | .agg _,.tup _,a,h=>by simp[chkV]at h
 | .row _,.c _,a,h=>by simp[chkV]at h
 | .row _,.tup _,a,h=>by simp[chkV]at h
 | .tup _,.c _,a,h=>by simp[chkV]at h
 | .tup _,.agg _,a,h=>by simp[chkV]at h
theorem chkVs_sound (hnd : bs.Nodup) (hcan : Can bs J Jc): ∀ {ss : List SV} {xs : List (XV U)} {a : Cs U}, chkVs bs ss xs = some a ->
 ∃ys:List (XV U),(∀r,filVs ss (a++r)=(ys,r))/\ys.length=xs.length/\∀ds:List V,xs.length=ds.length->(∀(i:Nat) x d,xs[i]?=some x->ds[i]?=some d->VR N J x d)->
  ∃ds':List V,ds'.length=ds.length/\(∀(i:Nat) (d d':V),ds[i]?=some d->ds'[i]?=some d'->VSub (d.ren bs) d')/\(∀(i:Nat) y d',ys[i]?=some y->ds'[i]?=some d'->VR bs.length Jc y d')
 | [],[],a,h=>by simp[chkVs]at h;subst h;exact⟨[],fun r=>rfl,rfl,fun ds hl hd=>⟨[],by simpa using hl,by simp,by simp⟩⟩
 | s::ss,x::xs,a,h=>by
  simp only[chkVs]at h;split at h
  . rename_i a1 a2 h1 h2;cases h;obtain⟨y,f1,g1⟩:=chkV_sound hnd hcan h1;obtain⟨ys,f2,hl,g2⟩:=chkVs_sound hnd hcan h2;refine⟨y::ys,fun r=>by simp only[filVs,List.append_assoc,f1,f2],by simp[hl],fun ds hlen hd=>?_⟩;cases ds with
    | nil=>simp at hlen
    | cons d ds=>
     obtain⟨d',e1,e2⟩:=g1 d (hd 0 x d rfl rfl);obtain⟨ds',e3,e4,e5⟩:=g2 ds (by simpa using hlen) fun i x d hx hd'=>hd (i+1) x d (by simpa using hx) (by simpa using hd')
     refine⟨d'::ds',by simp[e3],fun i=>?_,fun i=>?_⟩
     . grind
     grind
  . cases h
 | [],_::_,a,h=>by simp[chkVs]at h
 | _::_,[],a,h=>by simp[chkVs]at h
end
theorem jo :∀{ks:List Nat} {k:Nat} {g:Bool} {v:V},k∈ks->look env1 k=some (g,v)->look (ct bs env1 ks) k=some (g,v.ren bs)
 | x::ks,k,g,v,hm,hl=>by
  simp[ct];by_cases h:x=k
  . grind[look]
  . have hm':k∈ks:=by grind
    split
    . simp[look,if_neg h];exact jo hm' hl
    . exact jo hm' hl
theorem nz (hnd : bs.Nodup) (hcan : Can bs J Jc) (he : ER N J (fun _ => true) env env1): ∀ {ss : List (Nat×SV)} {a : Cs U}, chkE bs env ss = some a ->
 ∃envc,(∀r,filE ss (a++r)=(envc,r))/\∃env1':Env,ER bs.length Jc (fun _=>true) envc env1'/\∀k g v',look env1' k=some (g,v')->k∈ss.map Prod.fst/\∃v,look env1 k=some (g,v)/\VSub (v.ren bs) v'
 | [],a,h=>by simp[chkE]at h;subst h;exact⟨[],fun r=>rfl,[],fun k v hk=>by grind[lk],fun k g v h=>by grind[look]⟩
 | (k,s)::ss,a,h=>by
  simp[chkE]at h;split at h
  . rename_i x hx;split at h
    . rename_i a1 a2 h1 h2;cases h;obtain⟨y,f1,g1⟩:=chkV_sound hnd hcan h1;obtain⟨envc,f2,env1',e1,e2⟩:=nz hnd hcan he h2;obtain⟨d,k1,k2⟩:=he k x hx;obtain⟨d',m1,m2⟩:=g1 d k2;refine⟨(k,y)::envc,fun r=>by simp[filE,f1,f2],(k,true,d')::env1',fun i v hi=>?_,fun i g v hi=>?_⟩
      . simp[lk]at hi;simp[look];split at hi
        . simp_all
        . rename_i hb;rw[if_neg (aU hb)];exact e1 i v hi
      . simp[look]at hi
        grind
    . cases h
  grind
theorem jX (hnd : bs.Nodup) (hcan : Can bs J Jc) {s : SB} {x : XB U} {a : Cs U} (h : chkB bs s x = some a):
 ∃y,(∀r,filB s (a++r)=(some y,r))/\(∀d,BR N J x d->∃d',BSub (d.ren bs) d'/\BR bs.length Jc y d'):=by
 unfold chkB at h;split at h
 . obtain⟨ys,f,g⟩:=jE hnd hcan h;refine⟨.box ys,fun r=>by grind[filB],fun d hd=>?_⟩;cases hd with
   | box hd=>obtain⟨ds',e1,e2⟩:=g _ hd;exact⟨.box _,.box e1,.box e2⟩
 . rename_i ty t l0;split at h
   . rename_i l hl;cases h;have e:=Cell.as_some hl;cases e;refine⟨.arr ty l,fun r=>rfl,fun d hd=>?_⟩;cases hd;exact⟨_,.arr,.arr ty l⟩
   grind
 . rename_i ty sz r;split at h
   . rename_i l hsz hl;cases h;have:=aj hsz;subst this;refine⟨.arr ty l,fun r=>rfl,fun d hd=>?_⟩;cases hd with
     | rows h1 h2=>
      refine⟨_,.arr,?_⟩;rw[<-eL hl h1];exact .arr ty l
   grind
 . split at h
   . rename_i x hx;cases h;refine⟨.box _,fun r=>rfl,fun d hd=>?_⟩;cases hd with
     | box hd=>obtain⟨ds',e1,e2⟩:=oc hx _ hd;exact⟨.box ds',.box e1,.box e2⟩
   grind
 . cases h;refine⟨.set _,fun r=>rfl,fun d hd=>?_⟩;cases hd;exact⟨_,.same,.set _⟩
 . split at h
   . rename_i hE;have:=aj hE;subst this;cases h;refine⟨.buf _ _,fun r=>rfl,fun d hd=>?_⟩;cases hd;exact⟨_,.same,.buf _ _⟩
   grind
 . split at h
   . rename_i hE;have:=aj hE;subst this;obtain⟨y,f,g⟩:=jW hnd hcan h;refine⟨.bld _ y,fun r=>by simp[filB,f];rfl,fun d hd=>?_⟩;cases hd with
     | bld hd=>obtain⟨d',e1,e2⟩:=g _ hd;exact⟨.bld _ d',.bld e1,.bld e2⟩
   grind
 grind
theorem mG{t:Ty}:∀{r:List (List (XC U))} {l:List (t.den U.D)},xmks U t r=some l->l.length=r.length
 | [],l,h=>by grind[xmks]
 | r::rs,l,h=>by
  simp[xmks]at h;split at h
  . rename_i x xs hx hxs;cases h;simp[mG hxs]
  grind
theorem vF{s:SB}{x y:XB U}{a r:Cs U}(h:chkB bs s x=some a)(hf:filB s (a++r)=(some y,r)):∀p,y.dim=some p->x.dim=some p:=by
 unfold chkB at h;split at h
 . grind[filB,XB.dim]
 . split at h
   . rename_i l hl;have e:=Cell.as_some hl;simp only[filB,List.cons_append,List.nil_append,and_true]at hf
     grind
   grind
 . split at h
   . rename_i l hsz hl;have:=aj hsz;subst this;simp only[filB,List.cons_append,List.nil_append,and_true]at hf
     grind[XB.dim,mG]
   grind
 . split at h
   . cases h;intro p hp;simp only[filB,List.cons_append,List.nil_append,Prod.mk.injEq,Option.some.injEq,and_true]at hf
     grind[XB.dim]
   grind
 . simp only[filB,List.cons_append,List.nil_append,Prod.mk.injEq,Option.some.injEq,and_true]at hf
   grind
 . split at h
   . rename_i hE;have:=aj hE;simp only[filB,List.cons_append,List.nil_append,Prod.mk.injEq,Option.some.injEq,and_true]at hf
     grind
   grind
 . grind[filB,XB.dim]
 grind
theorem cK (hnd : bs.Nodup): ∀ {ss : List SB} {j : Nat} {a : Cs U}, chkS bs J j ss = some a ->
 (∀i x',lk (filS j ss a) i=some x'->j<=i/\i < j+ss.length/\∃b x,bs[i]?=some b/\lk J b=some x/\∃s aa,chkB bs s x=some aa/\∀r,filB s (aa++r)=(some x',r))
 | [],j,a,h=>by grind[filS,lk]
 | .gone::ss,j,a,h=>by
  intro i x' hi;simp only[chkS]at h;obtain⟨h1,h2,h3⟩:=cK hnd h i x' hi
  grind
 | .box l::ss,j,a,h=>chkS_cons hnd (fun {j a}=>cK hnd) (by simpa only[chkS]using h)
 | .arr l::ss,j,a,h=>chkS_cons hnd (fun {j a}=>cK hnd (a:=a)) (by simpa only[chkS]using h)
 | .brow l::ss,j,a,h=>chkS_cons hnd (fun {j a}=>cK hnd (ss:=ss) (j:=j) (a:=a)) (by simpa only[chkS]using h)
 | .set::ss,j,a,h=>chkS_cons hnd (fun {j a}=>cK hnd (ss:=ss) (j:=j) (a:=a)) (by simpa only[chkS]using h)
 | .buf E::ss,j,a,h=>chkS_cons hnd (fun {j a}=>cK hnd (ss:=ss) (j:=j) (a:=a)) (by simpa only[chkS]using h)
 | .bld E l::ss,j,a,h=>chkS_cons hnd (fun {j a}=>cK hnd (ss:=ss) (j:=j) (a:=a)) (by grind[chkS])
where
 chkS_cons (hnd:bs.Nodup) {s:SB} {ss:List SB} (ih:∀{j:Nat} {a:Cs U},chkS bs J j ss=some a->
  (∀i x',lk (filS j ss a) i=some x'->j<=i/\i < j+ss.length/\∃b x,bs[i]?=some b/\lk J b=some x/\∃s aa,chkB bs s x=some aa/\∀r,filB s (aa++r)=(some x',r))) {j:Nat} {a:Cs U} (h:(match getN bs j with
  | some b=>match lk J b with
   | some x=>match chkB bs s x,chkS bs J (j+1) ss with
    | some a,some r=>some (a++r)
    | _,_=>none
   | none=>none
  | none=>none)=some a):(∀i x',lk (filS j (s::ss) a) i=some x'->j<=i/\i < j+(s::ss).length/\∃b x,bs[i]?=some b/\lk J b=some x/\∃s aa,chkB bs s x=some aa/\∀r,filB s (aa++r)=(some x',r)):=by
  intro i x' hi;split at h
  . rename_i b hb;rw[im]at hb;split at h
    . split at h
      . rename_i a1 a2 h1 h2;cases h;obtain⟨y,f,_⟩:=jX (N:=0) (J:=J) (Jc:=[]) hnd (fun _ _ _ _ h=>by simp[lk]at h) h1;simp only[filS,f,lk]at hi
        grind[aj]
      . cases h
    . cases h
  . cases h
def fil(U:Uni)(sh:Shape)(a:Cs U):XEnv U×XSt U:=
 match filE sh.env a with
 | (e,r)=>(e,filS 0 sh.st r)
def chk(bs:List Nat)(sh:Shape)(env:XEnv U)(J:XSt U):Option (Cs U):=
 match chkE bs env sh.env,chkS bs J 0 sh.st with
 | some a,some b=>some (a++b)
 | _,_=>none
theorem gj(hnd:bs.Nodup){ss:List SB}{b:Cs U}(hb:chkS bs J 0 ss=some b):Can bs J (filS 0 ss b):=by
 intro j c x' hj hx';obtain⟨_,_,b',x,h1,h2,s,aa,h3,h4⟩:=cK hnd hb j x' hx';rw[h1]at hj;cases hj;exact⟨x,h2,vF h3 (h4 [])⟩
theorem fF{J1:Store}:∀{r:List Nat} {i j c:Nat} {x:Blk},r[j]?=some c->sget J1 c=some x->sget (aF bs J1 i r) (i+j)=some (x.ren bs)
 | [],i,j,c,x,h,_=>by grind
 | b::r,i,0,c,x,h,hx=>by
  grind[aF,sget]
 | b::r,i,j+1,c,x,h,hx=>by
  simp[aF];have:=fF (i:=i+1) (j:=j) (r:=r) (by grind) hx
  grind[sget]
theorem ic (hnd : bs.Nodup) (hS : SR N J J1) {ss : List SB} {b : Cs U} (hb : chkS bs J 0 ss = some b):
 ∃J1',StSub (aF bs J1 0 bs) J1'/\SR bs.length (filS 0 ss b) J1':=by
 have hcan:=gj hnd hb;have hx:=cK hnd hb;generalize filS 0 ss b=Jc at*
 have key:∀(l:XSt U),(∀i x',lk l i=some x'->lk Jc i=some x')->∃J1':Store,(∀i x,sget J1' i=some x->∃y,sget (aF bs J1 0 bs) i=some y/\BSub y x)/\(∀i x',lk l i=some x'->i < bs.length/\∃y,sget J1' i=some y/\BR bs.length Jc x' y):=by
  intro l
  induction l with
  | nil=>intro _;exact⟨[],fun i x h=>by grind[sget],fun i x h=>by grind[lk]⟩
  | cons p l ih=>
   obtain⟨i0,x0⟩:=p;intro hl
   have:=by
    have aux:∀(m:XSt U),(∀i x',i≠i0->lk m i=some x'->lk Jc i=some x')->∃J1':Store,(∀i x,sget J1' i=some x->∃y,sget (aF bs J1 0 bs) i=some y/\BSub y x)/\(∀i x',i≠i0->lk m i=some x'->i < bs.length/\∃y,sget J1' i=some y/\BR bs.length Jc x' y):=by
     intro m hm;have hd:∀i x',lk (dl m i0) i=some x'->lk Jc i=some x':=by
      intro i x' h;rw[lk_dl]at h
      grind
     have build:∀n,∃J1':Store,(∀i x,sget J1' i=some x->∃y,sget (aF bs J1 0 bs) i=some y/\BSub y x)/\(∀i x',i < n->lk (dl m i0) i=some x'->i < bs.length/\∃y,sget J1' i=some y/\BR bs.length Jc x' y):=by
      intro n
      induction n with
      | zero=>exact⟨[],fun i x h=>by grind[sget],fun i x h=>by omega⟩
      | succ n ihn=>
       obtain⟨s,h1,h2⟩:=ihn;cases hn:lk (dl m i0) n with
       | none=>exact⟨s,h1,fun i x' hi hlk=>h2 i x' (by grind) hlk⟩
       | some xn=>
        obtain⟨_,_,b',x,g1,g2,sb,aa,g3,g4⟩:=hx n xn (hd n xn hn);obtain⟨_,y,k1,k2⟩:=hS b' x g2;obtain⟨z,f,q⟩:=jX (N:=N) hnd hcan g3;have:z=xn:=by simp_all
        subst this;obtain⟨y',q1,q2⟩:=q y k2;have ht:=fF (bs:=bs) (i:=0) (j:=n) g1 k1;refine⟨sput s n y',fun i x hi=>?_,fun i x' hi hlk=>?_⟩
        . grind[ag]
        . by_cases e:i=n
          . subst e;rw[hn]at hlk;cases hlk;exact⟨(List.getElem?_eq_some_iff.1 g1).1,y',by rw[ag,if_pos rfl],q2⟩
          . obtain⟨r1,z,r2,r3⟩:=h2 i x' (by omega) hlk;exact⟨r1,z,by rw[ag,if_neg (fun e'=>e e'.symm)];exact r2,r3⟩
     obtain⟨s,h1,h2⟩:=build bs.length;refine⟨s,h1,fun i x' hne hlk=>?_⟩;have hlk':lk (dl m i0) i=some x':=by rw[lk_dl,if_neg (fun e=>hne e.symm)];exact hlk
     grind
    exact aux l fun i x' hne h=>hl i x' (by
     grind[lk,aj])
   obtain⟨s,h1,h2⟩:=this;have hx0:lk Jc i0=some x0:=hl i0 x0 (by simp[lk,Nat.beq_refl]);obtain⟨_,_,b',x,g1,g2,sb,aa,g3,g4⟩:=hx i0 x0 hx0;obtain⟨_,y,k1,k2⟩:=hS b' x g2;obtain⟨z,f,q⟩:=jX (N:=N) hnd hcan g3;have:z=x0:=by simp_all
   subst this;obtain⟨y',q1,q2⟩:=q y k2;have ht:=fF (bs:=bs) (i:=0) (j:=i0) g1 k1;refine⟨sput s i0 y',fun i x hi=>?_,fun i x' hlk=>?_⟩
   . rw[ag]at hi
     grind
   . by_cases e:i=i0
     . subst e;simp[lk,Nat.beq_refl]at hlk;subst hlk;exact⟨(List.getElem?_eq_some_iff.1 g1).1,y',by rw[ag,if_pos rfl],q2⟩
     . have hlk':lk l i=some x':=by
        simp only[lk]at hlk;cases hb:Nat.beq i0 i with
        | true=>exact absurd (aj hb).symm e
        | false=>rw[hb]at hlk;exact hlk
       obtain⟨r1,z,r2,r3⟩:=h2 i x' e hlk';exact⟨r1,z,by rw[ag,if_neg (fun e'=>e e'.symm)];exact r2,r3⟩
 obtain⟨s,h1,h2⟩:=key Jc fun _ _ h=>h
 exact⟨s,fun i x hi=>h1 i x hi,fun i x' hlk=>h2 i x' hlk⟩
theorem uV (hnd : bs.Nodup) (hk : keeps kk bs = true) (he : ER N J (fun _ => true) env env1) (hS : SR N J J1) {sh : Shape} {a : Cs U} (h : chk bs sh env J = some a):
 ∃env1' J1',Conv kk N env1 J1 bs.length env1' J1'/\ER bs.length (fil U sh a).2 (fun _=>true) (fil U sh a).1 env1'/\SR bs.length (fil U sh a).2 J1':=by
 unfold chk at h;split at h
 . rename_i a1 b h1 h2;cases h;obtain⟨envc,f,env1',e1,e2⟩:=nz hnd (gj hnd h2) he h1;obtain⟨J1',s1,s2⟩:=ic hnd hS h2;have hf:fil U sh (a1++b)=(envc,filS 0 sh.st b):=by grind[fil]
   rw[hf];refine⟨env1',J1',(Conv.tidy (sh.env.map Prod.fst) bs hnd hk).trans (Conv.weaken (fun k g v' hl=>?_) s1),e1,s2⟩
   grind[jo]
 grind
end
end
section
open Go
variable [GV]
variable {U:Uni}
def HsC(D:Nat->Type):Ty->List Ty->Type
 | t,[]=>t.den D
 | t,u::r=>t.den D×HsC D u r
def Hs(D:Nat->Type):List Ty->Type
 | []=>Unit
 | t::r=>HsC D t r
def HsC.cells(D:Nat->Type):(t:Ty)->(ts:List Ty)->HsC D t ts->List (Cell D)
 | t,[],x=>[⟨t,x⟩]
 | t,u::r,x=>⟨t,x.1⟩::HsC.cells D u r x.2
def Hs.cells(D:Nat->Type):(ts:List Ty)->Hs D ts->List (Cell D)
 | [],_=>[]
 | t::r,x=>HsC.cells D t r x
def lone1{α:Type}:List α->Option α
 | [c]=>some c
 | _=>none
def hd1{α:Type}:List α->Option (α×List α)
 | []=>none
 | c::r=>some (c,r)
def HsC.dec(D:Nat->Type):(t:Ty)->(ts:List Ty)->List (Cell D)->Option (HsC D t ts)
 | t,[],l=>match lone1 l with
  | some c=>c.as t
  | none=>none
 | t,u::r,l=>match hd1 l with
  | some p=>match p.1.as t with
   | some x=>match HsC.dec D u r p.2 with
    | some y=>some (x,y)
    | none=>none
   | none=>none
  | none=>none
def Hs.dec(D:Nat->Type):(ts:List Ty)->List (Cell D)->Option (Hs D ts)
 | [],l=>match l with
  | []=>some ()
  | _=>none
 | t::r,l=>HsC.dec D t r l
theorem tQ{α:Type}{l:List α}{c:α}(h:lone1 l=some c):l=[c]:=by
 unfold lone1 at h;grind
theorem vG{α:Type}{l:List α}{c:α×List α}(h:hd1 l=some c):l=c.1::c.2:=by
 unfold hd1 at h;grind
theorem HsC.dec_cells{D:Nat->Type}:∀{ts:List Ty} {t:Ty} {a:List (Cell D)} {h:HsC D t ts},HsC.dec D t ts a=some h->HsC.cells D t ts h=a
 | [],t,a,h,e=>by
  unfold HsC.dec at e;split at e
  . rename_i c hc;rw[tQ hc,Cell.as_some e];rfl
  grind
 | u::r,t,a,h,e=>by
  unfold HsC.dec at e;split at e
  . split at e
    . rename_i x hx;split at e
      . rename_i y hy;cases e;have:=HsC.dec_cells hy;show⟨t,x⟩::HsC.cells D u r y=a
        grind[vG,Cell.as_some]
      grind
    grind
  grind
theorem Hs.dec_cells{D:Nat->Type}:∀{ts:List Ty} {a:List (Cell D)} {h:Hs D ts},Hs.dec D ts a=some h->Hs.cells D ts h=a
 | [],[],h,e=>rfl
 | [],_::_,h,e=>by cases (show none=some h from e)
 | t::r,a,h,e=>HsC.dec_cells e
def HsC.dfl(U:Uni):(t:Ty)->(ts:List Ty)->HsC U.D t ts
 | t,[]=>t.dfl U
 | t,u::r=>(t.dfl U,HsC.dfl U u r)
def Hs.dfl(U:Uni):(ts:List Ty)->Hs U.D ts
 | []=>()
 | t::r=>HsC.dfl U t r
abbrev Sc :=List (Nat×Nat)×List (Nat×Ty)
def scC :SC->XC U->Sc->Sc
 | .ptr j _,.ptr b _,s=>((j,b)::s.1,s.2)
 | .eptr j _ _,.eptr b _ _ _,s=>((j,b)::s.1,s.2)
 | .arr j,.arr b,s=>((j,b)::s.1,s.2)
 | .mp j,.mp b,s=>((j,b)::s.1,s.2)
 | .bufc j,.bufc b,s=>((j,b)::s.1,s.2)
 | .fn _ js,.fn _ cs,s=>(js.zip cs++s.1,s.2)
 | .hole (.slice t),.arr b,s=>(s.1,(b,t)::s.2)
 | _,_,s=>s
def scCs :List SC->List (XC U)->Sc->Sc
 | a::as,x::xs,s=>scCs as xs (scC a x s)
 | _,_,s=>s
def scR :List Ty->List (XC U)->Sc->Sc
 | .slice t::ts,.arr b::xs,s=>scR ts xs (s.1,(b,t)::s.2)
 | _::ts,_::xs,s=>scR ts xs s
 | _,_,s=>s
mutual
def scV :SV->XV U->Sc->Sc
 | .c a,.c x,s=>scC a x s
 | .agg l,.agg xs,s=>scCs l xs s
 | .row n,.agg xs,s=>scR (U.tys n) xs s
 | .tup l,.tup xs,s=>scVs l xs s
 | _,_,s=>s
def scVs :List SV->List (XV U)->Sc->Sc
 | a::as,x::xs,s=>scVs as xs (scV a x s)
 | _,_,s=>s
end
def scE(env:XEnv U):List (Nat×SV)->Sc->Sc
 | [],s=>s
 | (k,a)::r,s=>match lk env k with
  | some x=>scE env r (scV a x s)
  | none=>scE env r s
def scB :SB->XB U->Sc->Sc
 | .box l,.box xs,s=>scCs l xs s
 | .brow n,.box xs,s=>scR (U.tys n) xs s
 | .bld _ a,.bld _ x,s=>scC a x s
 | _,_,s=>s
def scS(J:XSt U)(kk:Nat):Nat->List SB->Sc->List Nat->List Nat×List (Nat×Ty)
 | _,[],s,acc=>(acc.reverse,s.2)
 | j,a::r,s,acc=>
  let b:=match lk s.1 j with
   | some b=>b
   | none=>match Nat.ble (j+1) kk with
    | true=>j
    | false=>1000000+j
  match lk J b with
  | some x=>scS J kk (j+1) r (scB a x s) (b::acc)
  | none=>scS J kk (j+1) r s (b::acc)
def dT :List Nat->Bool
 | []=>true
 | a::l=>(l.all fun b=>!(Nat.beq a b)) && dT l
theorem fG :∀{l:List Nat},dT l=true->l.Nodup
 | [],_=>List.nodup_nil
 | a::l,h=>by
  simp[dT]at h;refine List.nodup_cons.2 ⟨fun hm=>?_,fG h.2⟩;have h3:=h.1 a hm;simp_all
def xgoto(kk:Nat)(own:List (Pos×Ty))(sh:Shape)(ts:List Ty)(env:XEnv U)(J:XSt U)(N:Nat):Option (Hs U.D ts):=
 match xown own env J N with
 | none=>none
 | some (env,J,_)=>match kV env J with
  | none=>none
  | some (env,J)=>match scS J kk 0 sh.st (scE env sh.env ([],[])) []with
   | (bs,fz)=>match xfz fz env J with
    | none=>none
    | some (env,J)=>match dT bs && (keeps kk bs && Nat.beq bs.length sh.st.length)with
     | false=>none
     | true=>match chk bs sh env J with
      | none=>none
      | some a=>Hs.dec U.D ts a
section
variable {kk N:Nat} {J:XSt U} {J1:Store} {env:XEnv U} {env1:Env}
theorem ej {own : List (Pos×Ty)} {sh : Shape} {ts : List Ty} {h : Hs U.D ts} (hx : xgoto kk own sh ts env J N = some h) (he : ER N J (fun _ => true) env env1) (hS : SR N J J1) (hkk : kk <= N):
 ∃env1' J1',Conv kk N env1 J1 sh.st.length env1' J1'/\ER sh.st.length (fil U sh (Hs.cells U.D ts h)).2 (fun _=>true) (fil U sh (Hs.cells U.D ts h)).1 env1'/\SR sh.st.length (fil U sh (Hs.cells U.D ts h)).2 J1'/\kk<=sh.st.length:=by
 unfold xgoto at hx;split at hx
 . grind
 . rename_i env2 J2 N2 h1;obtain⟨e0,s0,c0,he0,hS0,hN⟩:=nv h1 he hS hkk;split at hx
   . grind
   rename_i env2' J2' hcl;obtain⟨e1,s1,c1',he1,hS1⟩:=sj hcl he0 hS0;have c1:=c0.trans c1';split at hx;rename_i bs fz _;split at hx
   . grind
   . rename_i env3 J3 h2;obtain⟨e2,s2,c2,he2,hS2,_⟩:=eA (kk:=kk) (gl:=[]) h2 he1 hS1;split at hx
     . grind
     . rename_i hb;simp only[Bool.and_eq_true]at hb;obtain⟨hb1,hb2,hb3⟩:=hb;have hlen:=aj hb3;split at hx
       . grind
       . rename_i a ha;obtain⟨e3,s3,c3,he3,hS3⟩:=uV (fG hb1) hb2 he2 hS2 ha;rw[Hs.dec_cells hx,<-hlen];refine⟨e3,s3,c1.trans (c2.trans c3),he3,hS3,?_⟩
         by_cases hk0:kk=0
         . omega
         . have hmem:(bs[kk - 1]?==some (kk - 1))=true:=by
            grind[keeps]
           grind
end
structure FSpec (U:Uni) where
 f:Nat
 sa:List SV
 st:List SB
 ts:List Ty
 sr:SV
 rst:List SB
 us:List Ty
 F:Hs U.D ts->Option (Hs U.D us)
def FSpec.args(s:FSpec U)(h:Hs U.D s.ts):List (XV U):=(filVs s.sa (Hs.cells U.D s.ts h)).1
def FSpec.ast(s:FSpec U)(h:Hs U.D s.ts):XSt U:=filS 0 s.st (filVs s.sa (Hs.cells U.D s.ts h)).2
def FSpec.res(s:FSpec U)(r:Hs U.D s.us):XV U:=(filV s.sr (Hs.cells U.D s.us r)).1
def FSpec.rest(s:FSpec U)(r:Hs U.D s.us):XSt U:=filS 0 s.rst (filV s.sr (Hs.cells U.D s.us r)).2
def FSnd(P:Program)(s:FSpec U):Prop:=
 ∀h r,s.F h=some r->∀args1 J1,All2 (VR s.st.length (s.ast h)) (s.args h) args1->SR s.st.length (s.ast h) J1->
  Con P s.f args1 J1 s.st.length (fun r1 J1' N'=>N'=s.rst.length/\VR N' (s.rest r) (s.res r) r1/\SR N' (s.rest r) J1')
def XC.solid :XC U->Bool
 | .t _ | .iptr .. | .cap0 | .nilp | .nilfn=>true
 | .fn _ []=>true
 | _=>false
def aO :XV U->Bool
 | .c x=>x.solid
 | .agg cs=>cs.all XC.solid
 | .tup vs=>go vs
where go:List (XV U)->Bool
 | []=>true
 | v::vs=>aO v && go vs
def XC.conc :XC U->C
 | .t c=>.t (c.enc U)
 | .iptr ty x o=>.iptr (ty.enc U x) o
 | .cap0=>.cap0
 | .nilp=>.nilp
 | .nilfn=>.nilfn
 | .fn f caps=>.fn f caps
 | _=>.dead
def concV :XV U->V
 | .c x=>.c x.conc
 | .agg cs=>.agg (cs.map XC.conc)
 | .tup vs=>.tup (go vs)
where go:List (XV U)->List V
 | []=>[]
 | v::vs=>concV v::go vs
theorem fY{N:Nat}{J:XSt U}{x:XC U}(h:x.solid=true):CR N J x x.conc/\(∀d,CR N J x d->d=x.conc)/\∀n,x.conc.bnd n=true:=by
 cases x <;> simp[XC.solid]at h
 . exact⟨.t _,fun d hd=>by cases hd;rfl,fun _=>rfl⟩
 . exact⟨.iptr _ _ _,fun d hd=>by cases hd;rfl,fun _=>rfl⟩
 . exact⟨.cap0,fun d hd=>by cases hd;rfl,fun _=>rfl⟩
 . exact⟨.nilp,fun d hd=>by cases hd;rfl,fun _=>rfl⟩
 . exact⟨.nilfn,fun d hd=>by cases hd;rfl,fun _=>rfl⟩
 . rename_i f caps;cases caps with
   | nil=>exact⟨.fn _ _,fun d hd=>by cases hd;rfl,fun _=>rfl⟩
   | cons=>grind
theorem jF :∀{vs:List (XV U)} {i:Nat},(concV.go vs)[i]?=(vs[i]?).map concV
 | [],i=>by rfl
 | v::vs,0=>by rfl
 | v::vs,i+1=>by simp[concV.go,jF]
theorem lH :∀{vs:List (XV U)},(concV.go vs).length=vs.length
 | []=>rfl
 | v::vs=>by simp[concV.go,lH]
theorem l9 :∀{vs:List (XV U)} {i:Nat} {v:XV U},aO.go vs=true->vs[i]?=some v->aO v=true
 | [],i,v,_,h=>by grind
 | x::vs,0,v,hs,h=>by grind[aO.go]
 | x::vs,i+1,v,hs,h=>by simp[aO.go]at hs;exact l9 hs.2 (by simpa using h)
theorem aux{N:Nat}{J:XSt U}:∀(cs:List (XC U)),(∀x,x∈cs->x.solid=true)->All2 (CR N J) cs (cs.map XC.conc)
 | [],_=>.nil
 | a::l,h=>.cons (fY (h a (by simp))).1 (aux l fun x hx=>h x (by grind))
theorem eO{N:Nat}{J:XSt U}:∀{x:XV U},aO x=true->VR N J x (concV x)/\∀n,(concV x).bnd n=true
 | .c x,h=>by
  obtain⟨h1,_,h3⟩:=fY h;exact⟨.c h1,fun n=>h3 n⟩
 | .agg cs,h=>by
  simp[aO]at h;refine⟨.agg ?_,fun n=>?_⟩
  . grind[aux]
  . simp[concV,V.bnd];intro c hc;exact(fY (N:=N) (J:=J) (h c hc)).2.2 n
 | .tup vs,h=>by
  have:=go (N:=N) (J:=J) vs h;refine⟨.tup _ _ (by rw[lH]) fun i x d hx hd=>?_,fun n=>?_⟩
  . grind[jF]
  grind[concV,V.bnd]
where go {N:Nat} {J:XSt U}:∀(vs:List _),aO.go vs=true->(∀x,x∈vs->VR N J x (concV x))/\∀n,V.bnd.V.bnds n (concV.go vs)=true
 | [],_=>⟨by simp,fun _=>rfl⟩
 | v::vs,h=>by
  simp[aO.go,Bool.and_eq_true]at h;obtain⟨h1,h2⟩:=eO (N:=N) (J:=J) h.1;obtain⟨h3,h4⟩:=go (N:=N) (J:=J) vs h.2;simp_all[concV.go,V.bnd.V.bnds]
theorem fZ{N:Nat}{J:XSt U}{x:XV U}{d:V}(h:VR N J x d):aO x=true->d=concV x:=by
 induction h with
 | c h=>intro hs;rw[(fY hs).2.1 _ h];rfl
 | @agg xs ds h=>
  intro hs;simp[aO]at hs
  congr 1
  induction h with
  | nil=>rfl
  | cons h1 h2 ih=>rw[List.map_cons,<-(fY (hs _ (by simp))).2.1 _ h1,<-ih (fun x hx=>hs x (by grind))]
 | tup xs ds hl h ih=>
  intro hs
  congr 1
  apply List.ext_getElem?;intro i;rw[jF];cases hx:xs[i]? with
  | none=>grind
  | some x=>
   have hi:=(List.getElem?_eq_some_iff.1 hx).1;have hd:=List.getElem?_eq_getElem (l:=ds) (i:=i) (by omega);rw[hd]
   congr 1
   exact ih i x _ hx hd (l9 hs hx)
end
section
open Go
variable [GV]
variable {U:Uni}
section
variable {P:Program} {nt kk key N N':Nat} {env:Env} {J J':Store} {Q Q':Exit->Env->Store->Nat->Prop}
def pR(P:Program)(f:Nat)(args:List V)(J:Store)(key:Nat)(env:Env)(K:V->Store->Prop):Prop:=
 ∀Γ nt φ S a w,Rel Γ nt φ S env J (lt key) a w->V.bnd.V.bnds (lt key) args=true->∀vs:List Value,All2 (RV φ w S) args vs->
  Calls P f vs.toArray w fun e w'=>∃v r φ' S' J',e= .returned v/\K r J'/\RV φ' w' S' r v/\r.bnd (insR (lt key) key)=true/\Rel Γ nt φ' S' env J' (insR (lt key) key) a w'
def xr(P:Program)(o:AOper)(env:Env)(f:Nat)(vs:List V):Prop:=
 (∃args p,o.op= .call f args/\gets env args=some (p,vs)/\p)\/
 (∃x args q p caps vs0,o.op= .callv x args/\x.get env=some (q,.c (.fn f caps))/\q/\gets env args=some (p,vs0)/\p/\aH P f=true/\vs=vs0++caps.map fun b=>V.c (.ptr b 0))
def cstep(P:Program)(o:AOper)(key:Nat)(env:Env)(J:Store)(K:Env->Store->Prop):Prop:=
 astep P o key env J K\/(aI env o.guard=some true/\∃f vs,xr P o env f vs/\pR P f vs J key env fun r J'=>K (aA env o.dst true r) J')
def aopsC(P:Program)(kk:Nat):List AOper->Nat->Env->Store->(Env->Store->Prop)->Prop
 | [],_,env,J,K=>K env J
 | o::r,key,env,J,K=>∃env0 J0,Conv kk key env J key env0 J0/\cstep P o key env0 J0 fun e s=>aopsC P kk r (key+16) e s K
theorem jG {Γ : Ctx} {φ : Phi} {S : Stab} {a : Act} {w : World} (R : Rel Γ nt φ S env J (lt key) a w) {ops : Array Oper} {o : Oper} {ao : AOper} (hr : eh P nt ops o = some ao) {K : Env -> Store -> Prop} (h : cstep P ao key env J K) {Q : Exit -> Act -> World -> Prop}:
 if Region.wanted o (yielded ops a.tmps)then o.wp P a w (Post Γ nt (insR (lt key) key) K) Q else Post Γ nt (insR (lt key) key) K (a.put o.dst undef) w:=by
 rcases h with h | ⟨hg,f,vs,hcal,hA⟩
 . exact gQ R (fun b h1 _=>fT h1) hr h
 . obtain⟨h1,h2,h3,h4⟩:=lx hr;have hw:=mu R h2 hg;rw[hw];rcases hcal with⟨args,p,hop,hgs,hp⟩ | ⟨x,args,q,p,caps,vs0,hop,hgx,hq,hgs,hp,hb,rfl⟩
   . rw[hop]at h1;obtain⟨c,hc1,hr2⟩:=lr (fk h1 (by simp) (by simp));obtain⟨hc2,hb,hargs⟩:=lu hr2;have hrun:=dI (w:=w) (a:=a) hc1 hc2 rfl hb;simp at hrun;obtain⟨g1,g2⟩:=c6 R hargs hgs hp;exact Calls.next h3 h4 rfl (fun _ _ h=>h) (hA Γ nt φ S a w R g2 _ g1) hrun
   . rw[hop]at h1;obtain⟨c,hc1,hr2⟩:=lp (fk h1 (by simp) (by simp));obtain⟨t,rfl,hc2,hargs⟩:=lq hr2;obtain⟨g1,g2⟩:=c6 R hargs hgs hp;have hx:=ae (x:= .tmp t) R rfl hgx hq;have hxe:=hx.1.c_inv;have hcaps:All2 (RV φ w S) (caps.map fun b=>V.c (.ptr b 0)) (caps.map fun b=>Value.pointer (some ⟨(φ b).1,0,none⟩)):=by
      refine All2.of_get (by simp) ?_;intro i v x h1 h2;simp at h1 h2;obtain⟨b,hb1,rfl⟩:=h1;obtain⟨b',hb2,rfl⟩:=h2;rw[hb1]at hb2;cases hb2;exact .c rfl
     have hcb:V.bnd.V.bnds (lt key) (vs0++caps.map fun b=>V.c (.ptr b 0))=true:=by
      refine dB ?_;intro i v hv;by_cases hi:i < vs0.length
      . grind[bQ]
      . rw[List.getElem?_append_right (by omega)]at hv;simp only[List.getElem?_map,oZ1]at hv
        grind[V.bnd,C.bnd]
     exact Calls.next h3 h4 rfl (fun _ _ h=>h) (hA Γ nt φ S a w R hcb _ (g1.append hcaps)) (dI hc1 hc2 hxe hb)
theorem nA {Γ : Ctx} (hkk : Γ.k = kk) {ops : Array Oper} {Q : Exit -> Act -> World -> Prop} {K : Env -> Store -> Nat -> Prop}: ∀ {l : List Oper} {aos : List AOper} {k N : Nat} {env : Env} {J : Store} {φ : Phi} {S : Stab} {a : Act} {w : World}, aP P nt ops l = some aos -> (∀ i : Nat, i < l.length -> l[i]? = ops[k + i]?) ->
 Rel Γ nt φ S env J (lt N) a w->aopsC P kk aos N env J (fun e s=>K e s (N+16*aos.length))->(∀φ S e s N a w,K e s N->Rel Γ nt φ S e s (lt N) a w->Q .normal a w)->wpOps P ops Q (List.range' k l.length) a w
 | [],aos,k,N,env,J,φ,S,a,w,hr,hi,R,h,hQ=>by
  simp[aP]at hr;subst hr;exact hQ _ _ _ _ _ _ _ h R
 | o::l,aos,k,N,env,J,φ,S,a,w,hr,hi,R,h,hQ=>by
  simp[aP,oZ2,oZ1]at hr;obtain⟨ao,hao,aos',haos,rfl⟩:=hr;have ho:ops[k]?=some o:=by have:=hi 0 (by simp);grind
  rw[List.length_cons,List.range'_succ,wpOps_cons];unfold wpOp;obtain⟨env0,J0,hconv,hstep⟩:=h;obtain⟨φ0,S0,R0⟩:=hconv Γ nt φ S a w hkk R;have hs:=jG R0 hao (K:=fun e s=>aopsC P kk _ _ e s fun e s=>K e s (N+16*(aos'.length+1))) (by omega) (Q:=Q)
  have next:∀a' w',Post Γ nt (insR (lt N) N) (fun e s=>aopsC P kk aos' (N+16) e s fun e s=>K e s (N+16*(aos'.length+1))) a' w'->wpOps P ops Q (List.range' (k+1) l.length) a' w':=by
   rintro a' w' ⟨φ',S',e,s,hK,R'⟩
   refine nA hkk haos (fun i hlt=>?_) (R'.more fun _ h=>iu h) ?_ hQ
   . have:=hi (i+1) (by grind)
     grind
   grind
  split at hs
  . grind[Oper.wp_mono]
  grind
theorem AW.regionC{aos:List AOper}(h:aopsC P kk aos N env J (fun e s=>Q .normal e s (N+16*aos.length))):AW P nt kk (.region aos) env J N Q:=by
 intro code hc Γ φ S a w hkk R;obtain⟨id,ops,rfl,hr⟩:=lF hc;refine wp_region ?_;have:=nA hkk (Q:=fun e a' w'=>∃φ' S' env' J' N',Q e env' J' N'/\Rel Γ nt φ' S' env' J' (lt N') a' w') (k:=0) hr (fun i hi=>by simp) R h
  (fun φ S e s N a w hK hR=>⟨φ,S,e,s,N,hK,hR⟩)
 grind[List.range_eq_range']
theorem Con.conv{f k:Nat}{args args':List V}{Q:V->Store->Nat->Prop}(ha:All2 VSub args args')(hs:StSub J J')(h:Con P f args' J' k Q):Con P f args J k Q:=by
 intro φ S w B hsim hsb hown hG hab vs hvs;refine h φ S w B ⟨fun b x hx=>?_,fun b b' x y hx hy=>?_,hsim.st⟩ (fun b x hx=>?_) (fun b x hx=>?_) hG ?_ vs ?_
 . obtain⟨x0,h1,h2⟩:=hs b x hx;exact h2.rb (hsim.blk b x0 h1)
 . obtain⟨x0,h1,h2⟩:=hs b x hx;obtain⟨y0,k1,k2⟩:=hs b' y hy;exact hsim.inj b b' x0 y0 h1 k1
 . obtain⟨x0,h1,h2⟩:=hs b x hx;exact⟨(hsb b x0 h1).1,h2.bnd _ (hsb b x0 h1).2⟩
 . obtain⟨x0,h1,h2⟩:=hs b x hx;grind
 . refine dB fun i v hv=>?_
   obtain⟨v0,h1,h2⟩:=(ha.flip fun _ _ h=>h).get hv;exact h2.bnd _ (bQ hab h1)
 . exact All2.comp (fun a b c h1 h2=>h1.rv h2) (ha.flip fun _ _ h=>h) hvs
theorem Con.mono{f k:Nat}{args:List V}{Q Q':V->Store->Nat->Prop}(h:Con P f args J k Q)(hq:∀r s n,Q r s n->Q' r s n):Con P f args J k Q':=by
 intro φ S w B h1 h2 h3 hG h4 vs h5;refine(h φ S w B h1 h2 h3 hG h4 vs h5).mono ?_
 grind
theorem Con.tidy {f k : Nat} {args : List V} {J : Store} {Q Q' : V -> Store -> Nat -> Prop} (h : Con P f args J k Q)
 (hq:∀r J' N',Q r J' N'->∃bs r2 J2,bs.Nodup/\keeps k bs=true/\VSub (r.ren bs) r2/\StSub (aF bs J' 0 bs) J2/\Q' r2 J2 bs.length):Con P f args J k Q':=by
 intro φ S w B h1 h2 h3 hG h4 vs h5;refine(h φ S w B h1 h2 h3 hG h4 vs h5).mono ?_
 rintro e w' ⟨v,r,φ',S',J',N',he,hQ,k1,k2,k3,k4,k5,k6,k7⟩
 obtain⟨bs,r2,J2,hnd,hkp,hr,hs,hQ'⟩:=hq r J' N' hQ;have hkeep:∀i:Nat,i < k->bs[i]?=some i:=by
  grind[keeps]
 let ψ:Phi:=fun i=>φ' ((bs[i]?).getD 0)
 have hψ:∀(i:Nat) b,bs[i]?=some b->ψ i=φ' b:=by intro i b h;simp[ψ,h]
 have htidy:∀b x,sget (aF bs J' 0 bs) b=some x->∃c x0,bs[b]?=some c/\sget J' c=some x0/\x=x0.ren bs:=by
  grind[cL]
 have hren:∀(x0:Blk),(x0.ren bs).bnd (lt bs.length)=true:=by
  intro x0;cases x0 with
  | box cs=>grind[Blk.ren,Blk.bnd,List.all_eq_true,C.ren_bnd]
  | arr sz es=>rfl
  | set ks=>rfl
  | buf E s=>rfl
  | bld E c=>exact C.ren_bnd c
  | arro sz es i o c=>exact C.ren_bnd c
 refine⟨v,r2,ψ,S',J2,bs.length,he,hQ',hr.rv (RV.ren hψ k1),hr.bnd _ (V.ren_bnd r),⟨fun b x hx=>?_,fun b b' x y hx hy hne h0 h0'=>?_,k3.st⟩,fun b x hx=>?_,k5,fun b x hx h0=>?_,fun b hb=>?_⟩
 . obtain⟨y,hy,hb⟩:=hs b x hx;obtain⟨c,x0,e1,e2,rfl⟩:=htidy b y hy;exact hb.rb (RB.ren hψ e1 (k3.blk c x0 e2))
 . obtain⟨y1,hy1,_⟩:=hs b x hx;obtain⟨y2,hy2,_⟩:=hs b' y hy;obtain⟨c,x0,e1,e2,_⟩:=htidy b y1 hy1;obtain⟨c',x0',f1,f2,_⟩:=htidy b' y2 hy2;rw[hψ b c e1]at h0 ⊢;rw[hψ b' c' f1]at h0' ⊢;refine k3.inj c c' x0 x0' e2 f2 ?_ h0 h0';have:=bV hnd e1
   grind[bV]
 . obtain⟨y,hy,hb⟩:=hs b x hx;obtain⟨c,x0,e1,e2,rfl⟩:=htidy b y hy;exact⟨(List.getElem?_eq_some_iff.1 e1).1,hb.bnd _ (hren x0)⟩
 . obtain⟨y,hy,hb⟩:=hs b x hx
   grind
 grind
end
def XC.mb(f:Nat->Nat):XC U->XC U
 | .ptr b o=>.ptr (f b) o
 | .eptr b ty i o=>.eptr (f b) ty i o
 | .arr b=>.arr (f b)
 | .sub b lo len=>.sub (f b) lo len
 | .pre b h=>.pre (f b) h
 | .suf b lo len=>.suf (f b) lo len
 | .mp b=>.mp (f b)
 | .sptr b=>.sptr (f b)
 | .bufc b=>.bufc (f b)
 | .fn g caps=>.fn g (caps.map f)
 | x=>x
def XV.mb(f:Nat->Nat):XV U->XV U
 | .c x=>.c (x.mb f)
 | .agg cs=>.agg (cs.map (XC.mb f))
 | .tup vs=>.tup (go f vs)
where go (f:Nat->Nat):List (XV U)->List (XV U)
 | []=>[]
 | v::vs=>v.mb f::go f vs
def XB.mb(f:Nat->Nat):XB U->XB U
 | .box cs=>.box (cs.map (XC.mb f))
 | .arr ty l=>.arr ty l
 | .rows sz r=>.rows sz r
 | .set ks=>.set ks
 | .buf E s=>.buf E s
 | .bld E c=>.bld E (c.mb f)
 | .arro t l i o c=>.arro t l i o (c.mb f)
def xdels(J:XSt U):List Nat->XSt U
 | []=>J
 | b::r=>dl (xdels J r) b
def xgive(J:XSt U)(bs:List Nat)(f:Nat->Nat):XSt U->XSt U
 | []=>xdels J bs
 | (b,x)::r=>pt (xgive J bs f r) (f b) (x.mb f)
def xdimc(J Jr:XSt U):Nat->List Nat->Option Bool
 | _,[]=>some true
 | i,b::r=>match lk Jr i with
  | none=>xdimc J Jr (i+1) r
  | some x'=>match lk J b with
   | none=>none
   | some x=>match x'.dim with
    | none=>xdimc J Jr (i+1) r
    | some p'=>match x.dim with
     | none=>none
     | some p=>match Nat.beq p'.1 p.1,xdimc J Jr (i+1) r with
      | true,some c=>some (decide (p'.2=p.2) && c)
      | _,_=>none
section
variable {key N':Nat} {J Jr:XSt U} {J1 J1r:Store} {bs:List Nat}
theorem oM :∀{bs:List Nat} {b:Nat},lk (xdels J bs) b=if b∈bs then none else lk J b
 | [],b=>by rfl
 | c::r,b=>by
  simp[xdels,lk_dl,oM]
  grind
theorem dK{f:Nat->Nat}:∀{J0:XSt U} {c:Nat} {x:XB U},lk (xgive J bs f J0) c=some x->(∃b x0,c=f b/\lk J0 b=some x0/\x=x0.mb f)\/(c ∉ bs/\lk J c=some x)
 | [],c,x,h=>by
  grind[xgive,oM]
 | (b,y)::r,c,x,h=>by
  simp[xgive,lk_pt]at h;split at h
  . grind[lk,Nat.beq_refl]
  . rcases dK h with⟨b',x0,h1,h2,h3⟩ | h
    . grind[lk,aj]
    grind
theorem fU(hnd:bs.Nodup)(hlt:∀b,b∈bs->b < key){i j:Nat}(h:back bs key i=back bs key j):i=j:=by
 unfold back at h;cases hi:bs[i]? with
 | some b=>
  rw[hi]at h;have hbm:=hlt b (List.mem_of_getElem? hi);cases hj:bs[j]? with
  | some c=>
   rw[hj]at h;simp at h;subst h;have:=bV hnd hi;rw[bV hnd hj]at this
   grind
  | none=>grind
 | none=>
  cases hj:bs[j]? with
  | some c=>
   have hbm:=hlt c (List.mem_of_getElem? hj)
   grind
  | none=>grind
theorem ma{f:Nat->Nat}(hf:∀i j,f i=f j->i=j):∀{J0:Store} {b:Nat} {x:Blk},sget J0 b=some x->sget (aS J1 bs f J0) (f b)=some (x.mb f)
 | [],b,x,h=>by grind[sget]
 | (c,y)::r,b,x,h=>by
  simp[aS,ag];simp[sget]at h;by_cases hcb:c=b
  . grind
  . rw[if_neg hcb]at h;rw[if_neg (fun e=>hcb (hf _ _ e))];exact ma hf h
theorem lO{f:Nat->Nat}{c:Nat}(hc:c ∉ bs)(hf:∀b,f b≠c):∀{J0:Store},sget (aS J1 bs f J0) c=sget J1 c
 | []=>by grind[aS,db]
 | (b,y)::r=>by
  simp[aS,ag];rw[if_neg (hf b)];exact lO hc hf
theorem XB.mb_dim{f:Nat->Nat}{x:XB U}:(x.mb f).dim=x.dim:=by cases x <;> rfl
theorem mH :∀{l:List Nat} {i0:Nat} {c:Bool},xdimc J Jr i0 l=some c->c=true->∀(j b:Nat) x',l[j]?=some b->lk Jr (i0+j)=some x'->∃x,lk J b=some x/\∀p,x'.dim=some p->x.dim=some p
 | [],i0,c,h,hc,j,b,x',hj,hx=>by grind
 | a::l,i0,c,h,hc,j,b,x',hj,hx=>by
  simp[xdimc]at h;have next:∀{c'},xdimc J Jr (i0+1) l=some c'->c'=true->∀j',j=j'+1->∃x,lk J b=some x/\∀p,x'.dim=some p->x.dim=some p:=by
   intro c' h1 h2 j' e;exact mH h1 h2 j' b x' (by grind) (by grind)
  cases j with
  | zero=>
   grind[aj]
  | succ j=>
   split at h
   . grind
   grind
variable (hnd:bs.Nodup) (hlt:∀b,b∈bs->b < key) (hN:N'<=bs.length+16) (hS:SR key J J1)
include hnd hlt hN hS in
theorem CR.mb{x:XC U}{d:C}(h:CR N' Jr x d):CR (key+16) (xgive J bs (back bs key) Jr) (x.mb (back bs key)) (d.mb (back bs key)):=by
 cases h with
 | t c=>exact CR.t c
 | ptr b o=>exact CR.ptr _ o
 | eptr b t i o=>exact CR.eptr _ t i o
 | iptr t x o=>exact CR.iptr t x o
 | arr b sz n hb h=>
  have hbk:back bs key b < key+16:=by
   unfold back;cases hi:bs[b]? with
   | some c=>simp;have:=hlt c (List.mem_of_getElem? hi);omega
   | none=>grind
  refine CR.arr _ sz n hbk fun x hx p hp=>?_
  rcases dK hx with⟨b',x0,h1,h2,rfl⟩ | ⟨h1,h2⟩
  . grind[fU,XB.mb_dim]
  . have hk:=(hS _ _ h2).1
    grind[back]
 | sub b lo len=>exact CR.sub _ lo _
 | pre b sz n hb h=>
  have hbk:back bs key b < key+16:=by
   unfold back;cases hi:bs[b]? with
   | some c=>simp;have:=hlt c (List.mem_of_getElem? hi);omega
   | none=>grind
  refine CR.pre _ sz n hbk fun x hx p hp=>?_
  rcases dK hx with⟨b',x0,h1,h2,rfl⟩ | ⟨h1,h2⟩
  . grind[fU,XB.mb_dim]
  . have hk:=(hS _ _ h2).1
    grind[back]
 | suf b sz lo len hb h=>
  have hbk:back bs key b < key+16:=by
   unfold back;cases hi:bs[b]? with
   | some c=>simp;have:=hlt c (List.mem_of_getElem? hi);omega
   | none=>grind
  refine CR.suf _ sz lo _ hbk fun x hx p hp=>?_
  rcases dK hx with⟨b',x0,h1,h2,rfl⟩ | ⟨h1,h2⟩
  . grind[fU,XB.mb_dim]
  . have hk:=(hS _ _ h2).1
    grind[back]
 | mp b=>exact CR.mp _
 | sptr b=>exact CR.sptr _
 | bufc b n hb h=>
  have hbk:back bs key b < key+16:=by
   unfold back;cases hi:bs[b]? with
   | some c=>simp;have:=hlt c (List.mem_of_getElem? hi);omega
   | none=>grind
  refine CR.bufc _ n hbk fun x hx p hp=>?_
  rcases dK hx with⟨b',x0,h1,h2,rfl⟩ | ⟨h1,h2⟩
  . grind[fU,XB.mb_dim]
  . have hk:=(hS _ _ h2).1
    grind[back]
 | cap0=>exact .cap0
 | nilp=>exact .nilp
 | nilfn=>exact .nilfn
 | fn f caps=>exact CR.fn f _
 | dead d=>exact .dead _
theorem nB{f:Nat->Nat}:∀{vs:List (XV U)} {i:Nat},(XV.mb.go f vs)[i]?=(vs[i]?).map (XV.mb f)
 | [],i=>by rfl
 | v::vs,0=>by rfl
 | v::vs,i+1=>by simp[XV.mb.go,nB]
theorem lP{f:Nat->Nat}:∀{vs:List (XV U)},(XV.mb.go f vs).length=vs.length
 | []=>rfl
 | v::vs=>by simp[XV.mb.go,lP]
include hnd hlt hN hS in
theorem VR.mb{x:XV U}{d:V}(h:VR N' Jr x d):VR (key+16) (xgive J bs (back bs key) Jr) (x.mb (back bs key)) (d.mb (back bs key)):=by
 induction h with
 | c h=>exact .c (CR.mb hnd hlt hN hS h)
 | agg h=>exact .agg (All2.map_map (h.imp fun _ _ _ hh=>CR.mb hnd hlt hN hS hh))
 | tup xs ds hl h ih=>
  refine .tup _ _ (by grind[lP,jj]) ?_
  grind[nB,j7]
include hnd hlt hS in
theorem gX(hd:xdimc J Jr 0 bs=some true):Keep key J (key+16) (xgive J bs (back bs key) Jr):=by
 refine⟨by simp,fun c x hc hx=>?_⟩;rcases dK hx with⟨b,x0,h1,h2,rfl⟩ | ⟨h1,h2⟩
 . unfold back at h1;cases hi:bs[b]? with
   | some c'=>
    rw[hi]at h1;subst h1;obtain⟨x,k1,k2⟩:=mH hd rfl b c x0 hi (by grind)
    grind[XB.mb_dim]
   | none=>grind
 grind
include hnd hlt hN hS in
theorem SR.give(hd:xdimc J Jr 0 bs=some true)(hr:SR N' Jr J1r):SR (key+16) (xgive J bs (back bs key) Jr) (aS J1 bs (back bs key) J1r):=by
 intro c x hx;have hbk:∀b,b < N'->back bs key b < key+16:=by
  intro b hb;unfold back;cases hi:bs[b]? with
  | some c=>simp;have:=hlt c (List.mem_of_getElem? hi);omega
  | none=>grind
 rcases dK hx with⟨b,x0,rfl,h2,rfl⟩ | ⟨h1,h2⟩
 . obtain⟨h3,y,h4,h5⟩:=hr b x0 h2;refine⟨hbk b h3,y.mb _,ma (fun i j=>fU hnd hlt) h4,?_⟩;cases h5 with
   | box h5=>exact .box (All2.map_map (h5.imp fun _ _ _ hh=>CR.mb hnd hlt hN hS hh))
   | arr t l=>exact .arr t l
   | set ks=>exact .set ks
   | buf E s=>exact .buf E s
   | bld h5=>exact .bld (CR.mb hnd hlt hN hS h5)
   | arro t l i o h5=>exact .arro t l i o (CR.mb hnd hlt hN hS h5)
   | rows h5 h6=>exact .rows h5 h6
 . obtain⟨h3,y,h4,h5⟩:=hS c x h2;refine⟨by omega,y,?_,?_⟩
   . grind[lO,back]
   . exact h5.mono (gX hnd hlt hS hd)
end
end
section
open Go
variable [GV]
variable {xb:List Nat}
def iw(n:Nat):List (Nat×Nat)->Bool
 | (i,_)::_=>Nat.beq i n
 | []=>false
theorem uW{l:List (AOper×List Nat)}{p:Nat×Nat}(h:p∈bw l):p.1 < l.length:=by
 grind[bw,critT]
theorem sU{l:List (AOper×List Nat)}(h:iw l.length (critL l)=true):ir l=true/\dP l.dropLast=true/\∀p,p∈bw l.dropLast->p∈critL l:=by
 unfold critL at h ⊢;split at h
 . grind
 . cases hl:bw l with
   | nil=>rw[hl]at h;cases h
   | cons p r=>
    rw[hl]at h;have hp:p∈bw l:=by grind
    have:=uW hp;obtain⟨i,j⟩:=p;have h':Nat.beq i _=true:=h;simp_all
theorem tR {l : List (AOper×List Nat)} {m : Nat} (hm : l.length = m + 1) (h : ir l = true) {D : Nat -> List Nat} (hD : ∀ (i : Nat) x, l[i]? = some x -> D i = x.2) {p : Nat -> Bool} (hdown : ∀ i, i < m -> p i = true -> ∀ d, d ∈ D i -> p d = true) (hl : ∀ d, d ∈ D m -> p d = true):
 ∀i,i < m->p i=true:=by
 have key:∀k i,i < m->m - i<=k->p i=true:=by
  intro k
  induction k with
  | zero=>grind
  | succ k ih=>
   intro i h1 h2;simp[ir]at h;have h3:=h i (by omega)
   grind
 exact fun i hi=>key m i hi (by simp)
section
variable {P:Program} {Γ:Ctx} {nt kk:Nat} {N:Nat} {ops:Array Oper} {init:List AOper} {last:AOper} {E:Nat->Env} {T:Nat->Store} {G:Nat->Bool} {W:Nat->V}
theorem ie{listed:Array Bool}{i m:Nat}(hs:listed.size=m+1)(hi:i < m):listed.pop.getD i false=listed.getD i false:=by
 simp
 grind
theorem wy{listed:Array Bool}{i m:Nat}(hs:listed.size=m+1)(hi:i < m):(listed.setIfInBounds i true).pop=listed.pop.setIfInBounds i true:=by grind
theorem uX{Q:Exit->Act->World->Prop}{fuel:Nat}{listed:Array Bool}{a:Act}{w:World}(hs:listed.size=ops.size)(hall:∀i,i < ops.size->listed.getD i false=true)(hQ:Q .normal a w):wpAny P .any ops Q fuel listed a w:=by
 have hnil:Region.ready .any ops listed=[]:=by
  rw[List.eq_nil_iff_forall_not_mem]
  grind[mem_ready]
 cases fuel with
 | zero=>exact⟨hnil,hQ⟩
 | succ fuel=>exact⟨fun _=>hQ,fun i hi=>by grind⟩
theorem tS {D : Nat -> List Nat} (st : Stat xb init D E N) (hr : DRun xb P init N E T G W) (hres : aP P nt ops ops.toList = some (init ++ [last])) (hD : ∀ (i : Nat) o, ops[i]? = some o -> D i = aR o)
 (hlast:∀(p:Nat->Bool),(∀i,i < init.length->p i=true->∀d,d∈D i->p d=true)->(∀d,d∈D init.length->p d=true)->∀i,i < init.length->p i=true)
 (hback:∀d,d∈D init.length->d < init.length)
 {Q:Exit->Act->World->Prop} {K:Env->Store->Prop} (hkk:Γ.k=kk)
 (hK:∃env0 J0,Conv kk (N+16*init.length) (E init.length) (T init.length) (N+16*init.length) env0 J0/\cstep P last (N+16*init.length) env0 J0 K)
 (hQ:∀e s φ S a w,K e s->Rel Γ nt φ S e s (insR (lt (N+16*init.length)) (N+16*init.length)) a w->Q .normal a w):
 ∀(fuel:Nat) (listed:Array Bool) φ S env J a w,listed.size=init.length+1->listed.getD init.length false=false->listed.toList.countP (· ==false)<=fuel->Inv xb Γ nt init D N E T G W listed.pop φ S env J a w->wpAny P .any ops Q fuel listed a w:=by
 have hlen:=fe hres;simp at hlen;have hready:∀(listed:Array Bool) (φ:Phi) (S:Stab) (env:Env) (J:Store) (a:Act) (w:World),listed.size=init.length+1->listed.getD init.length false=false->Inv xb Γ nt init D N E T G W listed.pop φ S env J a w->Region.ready .any ops listed≠[]:=by
  intro listed φ S env J a w hs hm I hnil;have hall:∀i,i < init.length->listed.getD i false=true:=by
   intro i
   induction i using Nat.strongRecOn with
   | _ i ih=>
    intro hi;cases hl:listed.getD i false with
    | true=>rfl
    | false=>
     have hio:i < ops.size:=by omega
     have ho:ops[i]?=some ops[i]:=Array.getElem?_eq_getElem hio;have:i∈Region.ready .any ops listed:=by
      rw[mem_ready];refine⟨?_,ops[i],ho,fun e he hb=>?_⟩
      . grind
      . have hd:e.on∈D i:=by
         rw[hD i _ ho];simp only[aR,List.mem_map,List.mem_filter]
         grind
        exact ih e.on (st.back i _ hi hd) (by have:=st.back i _ hi hd;omega)
     grind
  have hio:init.length < ops.size:=by omega
  have ho:ops[init.length]?=some ops[init.length]:=Array.getElem?_eq_getElem hio;have:init.length∈Region.ready .any ops listed:=by
   rw[mem_ready];refine⟨?_,ops[init.length],ho,fun e he hb=>?_⟩
   . grind
   . have hd:e.on∈D init.length:=by
      rw[hD _ _ ho];simp only[aR,List.mem_map,List.mem_filter]
      grind
     grind
  grind
 intro fuel
 induction fuel with
 | zero=>
  intro listed φ S env J a w hs hm hc I
  exfalso
  have his:init.length < listed.size:=by omega
  have h0:listed.toList.countP (· ==false)=0:=by omega
  rw[List.countP_eq_zero]at h0;simp[his]at hm;exact h0 listed[init.length] (by simp) (by grind)
 | succ fuel ih=>
  intro listed φ S env J a w hs hm hc I;refine⟨fun hnil=>absurd hnil (hready listed φ S env J a w hs hm I),fun i hi=>?_⟩;rw[mem_ready]at hi;obtain⟨h1,o,ho,hdeps⟩:=hi;have hio:i < ops.size:=(Array.getElem?_eq_some_iff.1 ho).1;have his:i < listed.size:=by omega
  have hn:listed.getD i false=false:=by grind
  obtain⟨ao,hao,hro⟩:=iY hres (i:=i) (o:=o) (by grind);have hd:∀d,d∈D i->listed.getD d false=true:=by
   intro d hd;rw[hD i o ho]at hd;simp only[aR,List.mem_map,List.mem_filter]at hd
   grind
  have hcount:listed.toList.countP (· ==false)<=fuel+1->(listed.setIfInBounds i true).toList.countP (· ==false)<=fuel:=by
   have:listed.toList[i]?=some false:=by simp[his]at hn ⊢;exact hn
   grind
  rcases Nat.lt_or_ge i init.length with him | him
  ·
   have hao':init[i]?=some ao:=by rw[List.getElem?_append_left him]at hao;exact hao
   have hd':∀d,d∈D i->listed.pop.getD d false=true:=fun d hdd=>by rw[ie hs (by have:=st.back i d him hdd;omega)];exact hd d hdd
   have hn':listed.pop.getD i false=false:=by rw[ie hs him];exact hn
   obtain⟨ha1,ha2⟩:=I.agree st hr hao' hn' hd';obtain⟨⟨J1',hst,hJ⟩,_⟩:=(hr.step i ao hao').1.local (env':=env) (J':=J) ha1 ha2;have hstep:=gQ I.rel (key:=N+16*i) (fun b hb1 hb2=>ni hn' hb1 hb2) hro (K:=fun e s=>e=aA env ao.dst (G i) (W i)/\s=J1') (hst.astep ⟨rfl,rfl⟩) (Q:=Q)
   have next:∀a' w',Post Γ nt (insR (used N init.length listed.pop) (N+16*i)) (fun e s=>e=aA env ao.dst (G i) (W i)/\s=J1') a' w'->wpAny P .any ops Q fuel (listed.setIfInBounds i true) a' w':=by
    rintro a' w' ⟨φ',S',e,s,⟨rfl,rfl⟩,R'⟩
    have hp:=wy (listed:=listed) (i:=i) (m:=init.length) hs him;refine ih (listed.setIfInBounds i true) φ' S' _ _ a' w' (by simpa using hs) ?_ (hcount hc) (by rw[hp];exact I.step st hr hao' hn' hd' hJ R');rw[bR his,if_neg (by omega)];exact hm
   unfold wpOp;rw[ho];dsimp only;split at hstep
   . rename_i hw;rw[if_pos hw];exact .inl (Oper.wp_mono next hstep)
   . rename_i hw;rw[if_neg hw];exact next _ _ hstep
  ·
   have hi:i=init.length:=by omega
   subst hi;have hao':ao=last:=by grind
   subst hao';have hall:=by
    refine hlast (fun j=>listed.pop.getD j false) (fun j hj hp d hdd=>I.down j hj hp d hdd) (fun d hdd=>?_);rw[ie hs (hback d hdd)];exact hd d hdd
   have R:=I.done st hr hall;obtain⟨env0,J0,hconv,hstep⟩:=hK;obtain⟨φ0,S0,R0⟩:=hconv Γ nt φ S a w hkk R;have hs':=jG R0 hro hstep (Q:=Q);have next:∀a' w',Post Γ nt (insR (lt (N+16*init.length)) (N+16*init.length)) K a' w'->wpAny P .any ops Q fuel (listed.setIfInBounds init.length true) a' w':=by
    rintro a' w' ⟨φ',S',e,s,hKe,R'⟩
    refine uX (by simp[hs,hlen]) (fun j hj=>?_) (hQ e s φ' S' a' w' hKe R');rw[bR his];split
    . rfl
    . rename_i hne;have hj':j < init.length:=by omega
      rw[<-ie hs hj'];exact hall j hj'
   unfold wpOp;rw[ho];dsimp only;split at hs'
   . rename_i hw;rw[if_pos hw];exact .inl (Oper.wp_mono next hs')
   . rename_i hw;rw[if_neg hw];exact next _ _ hs'
theorem AW.regionL {crit : List (Nat×Nat)} {env : Env} {J : Store} {Q : Exit -> Env -> Store -> Nat -> Prop} (hm : iw (init.length + 1) crit = true)
 (h:dops xb P init N env J (fun e s=>br xb init e N crit=true/\aopsC P kk [last] (N+16*init.length) e s (fun e s=>Q .normal e s (N+16*init.length+16)))):AW P nt kk (.regionD (init++[last]) crit) env J N Q:=by
 intro code hc Γ φ S a w hkk R;obtain⟨id,ops,rfl,hres,hok,hmix,rfl⟩:=ly hc;have hlen:=fe hres;have hL:(aE ops (init++[last])).length=init.length+1:=by grind[aE]
 obtain⟨hlastOk,hdraw,hsub⟩:=sU (l:=aE ops (init++[last])) (by grind);obtain⟨E,T,G,W,hr,e0,t0,hcr,hQ⟩:=kl h
 have hpop:(aE ops (init++[last])).dropLast=aE ops.pop init:=by
  obtain⟨l',x,hx⟩:∃l' x,ops.toList=l'++[x]:=by
   cases hl:ops.toList.reverse with
   | nil=>simp_all
   | cons x r=>simp_all
  simp_all[aE,Array.toList_pop,List.map_append,List.zip_append]
 rw[hpop]at hdraw;have hcr':br xb init (E init.length) N (bw (aE ops.pop init))=true:=jT (fun p hp=>hsub p (by grind)) hcr;have hst:=pj (ops:=ops.pop) (by grind) hdraw hr hcr'
 let D:Nat->List Nat:=fun i=>((ops[i]?).map aR).getD []
 have hDe:∀i,i < init.length->((ops.pop[i]?).map aR).getD []=D i:=by grind
 have st:Stat xb init D E N:=by
  refine⟨fun i d hi hd=>hst.back i d hi (by grind),fun i j x y d hx hy hyd=>?_,fun i j b hne hi hj hw hb=>?_⟩
  . have:=hst.ssa i j x y d hx hy hyd
    grind
  . rcases hst.ord i j b hne hi hj hw hb with⟨h1,h2⟩ | ⟨h1,h2⟩
    . exact .inl ⟨h1,h2.congr hst.back hDe hj⟩
    . exact .inr ⟨h1,h2.congr hst.back hDe hi⟩
 have hwd:∀(i:Nat) x,(aE ops (init++[last]))[i]?=some x->D i=x.2:=by
  grind[aE]
 refine wp_region_any hmix ?_;have hstep:=hQ;have hbackL:∀d,d∈D init.length->d < init.length:=by
  intro d hd;simp only[dP,Bool.and_eq_true]at hok;have hx:(aE ops (init++[last]))[init.length]?=some _:=List.getElem?_eq_getElem (by omega);have:=jl hok.1.1 hx d (by grind);omega
 refine tS (Γ:=Γ) (nt:=nt) (D:=D) st hr hres (fun i o ho=>by grind) (fun p h1 h2=>tR hL hlastOk hwd h1 h2) hbackL hkk hstep (fun e s φ S a w hq R'=>⟨φ,S,e,s,_,hq,R'.more fun b hb=>iu hb⟩) ops.size _ φ S env J a _ ?_ ?_ ?_ ?_
 . grind
 . rw[Array.getD_eq_getD_getElem?,Array.getElem?_replicate]
   grind
 . grind[List.countP_le_length]
 . have R':=R.drew;have hrep:∀i,(Array.replicate ops.size false).pop.getD i false=true->False:=by
    intro i hl;simp only[Array.getD_eq_getD_getElem?,Array.getElem?_pop]at hl
    grind
   refine⟨R'.more fun b hb=>by grind[used],by grind,fun i hi hl=>(hrep i hl).elim,fun t _=>by grind,fun t i o ho hl=>(hrep i hl).elim,fun b _=>by grind,fun b i hi hl=>(hrep i hl).elim⟩
end
end
end Go.Proofs.YtkbmjabicjpmjaaGreatDoor.Shv
