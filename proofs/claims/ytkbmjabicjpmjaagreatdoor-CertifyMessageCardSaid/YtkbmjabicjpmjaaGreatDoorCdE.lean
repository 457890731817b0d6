/- The functions of the program as functions of Lean, that its code does what they say, and what they answer; part E. -/
import Derived.Test.YtkbmjabicjpmjaaGreatDoorCdD

namespace Go.Proofs.YtkbmjabicjpmjaaGreatDoor
set_option linter.all false
section
open Go Go.Proofs.YtkbmjabicjpmjaaGreatDoor.Shv Go.Sort
set_option maxRecDepth 100000
abbrev jM(tw tr:I aj)(p:bD):Prop:=hW tw p.c8/\hW tr p.cO
abbrev sO(tw tr:I aj)(p:bD):I bD:=sY (ty tw p.c8) (ty tr p.cO)
variable{x y:aj}{ts tw tr:I aj}{t:Int}{c:nu}{v:ab}{p:az}{ks:I ab}{α:Type}
theorem ah'(H:dn ts)(aa:x∈ts){m:aT}(b:m∈x.af):hW ts m.aC:=by
 obtain⟨j,a,rfl⟩:=xV.1 aa;have:=H.R j a m (by grind);exact⟨this.1,this.2.1⟩
theorem agX{l:I aT}{q:bD}(h:q∈mO x y l):∃f∈l,∃j,ez y.af f.ah=some j/\q=⟨f.aC,(y.af.getD j aF).aC⟩:=by
 obtain⟨f,a,h⟩:=HG.1 h;grind
section
variable {tw tr:I aj}(HW:dn tw)(HR:dn tr)
include HW HR
theorem aia{p q:bD}(ar:jM tw tr p)(h:q∈sO tw tr p):jM tw tr q:=by
 have aa:=lk ar.1;have al:=lk ar.2;unfold sO sY at h;generalize ty tw p.c8=x at*;generalize ty tr p.cO=y at*;by_cases bS:x.ae=y.ae
 . rw[ag bS]at h;rcases u'.1 h with h|h
   grind;rcases gj.1 h with h|h
   . rcases gj.1 h with h|h
     grind[agX,ah',bp,hK]
     . unfold zi at h;by_cases k:x.ae=8/\0<x.Max
       rw[ag k]at h;simp only[nQ]at h;subst h;exact⟨HW.V.U _ aa _ (Fy k.1),HR.V.U _ al _ (Fy (bS.symm.trans k.1))⟩;grind
   . unfold y6 at h;by_cases k:x.ae=9\/(x.ae=7\/x.ae=8)/\0<x.Max
     rw[ag k]at h;simp only[nQ]at h;subst h;exact⟨HW.V.U _ aa _ (RF (by omega)),HR.V.U _ al _ (RF (by omega))⟩;grind
 grind
end
theorem HT:∀(n:Nat) (l:bb),l.Nodup->(∀x∈l,x<n)->l.length<=n
 |0,l,_,h=>by
  cases l with
  |nil=>simp
  |cons a l=>grind[List.mem_cons_self]
 |n+1,l,aL,h=>by
  have h1:=HT n _ (aL.erase n) (λx aa=>by
   grind)
  grind
theorem R3(j:tw.length<=5)(i:tr.length<=5){l:I bD}(aL:l.Nodup)(h:∀p∈l,jM tw tr p):l.length<=25:=by
 have:=HT 25 (l.map λp=>p.c8.toNat*5+p.cO.toNat) ?_ ?_
 grind;unfold List.Nodup;rw[nS];refine List.Pairwise.imp_of_mem (λ{a b} d f g e=>g ?_) aL;have h1:=h a d;have c:=h b f;unfold jM hW at h1 c;grind[KS];intro x aa;obtain⟨p,ar,rfl⟩:=fl.1 aa;have h1:=h p ar;unfold jM hW at h1;omega
inductive pz (tw tr:List aj)(r:bD):bD->Prop
 |root:pz tw tr r r
 |step {p q:bD}:pz tw tr r p->q∈sO tw tr p->pz tw tr r q
section
variable {tw tr:I aj}(HW:dn tw)(HR:dn tr)
include HW HR
theorem BX{r p:bD}(b:jM tw tr r)(h:pz tw tr r p):jM tw tr p:=by
 induction h with
 |root=>grind
 |step _ a ih=>grind[aia]
omit HW HR in
theorem Gx{l:I bD}(ak:l.length<=500)(i:Int):∀(n k:Nat) (acc:I bD),k+n=l.length->acc.length+n<=1000->r5 (i,l,(k:Int),tw,tr,acc)=some (i,tw,tr,(l.drop k).foldl hB acc)
 |0,k,acc,b,a=>by simp_all[o9,r5,aq]
 |n+1,k,acc,b,a=>by
  have aD:k<l.length:=by omega
  rw[FX aD,r5,ag (by grind),ag (aX aD)];simp only[fH];rw[(Hb _ (by omega)).2.1,bP];simp only[a7,ay,di,sR,cg,qS];by_cases h:l.getD k ey∈acc;rw[show hB acc (l.getD k ey)=acc from ag h,ia h];exact Gx ak i n (k+1) acc (by omega) (by omega);rw[show hB acc (l.getD k ey)=acc++[l.getD k ey]from aq h,vm h,ag (show(!false)=true from rfl),ag (aX aD),ag (dQ (by simp) (by grind))];exact Gx ak i n (k+1) _ (by omega) (by grind)
theorem agY{p:bD}(ar:jM tw tr p):(sO tw tr p).length<=102:=by
 unfold sO sY;split;have:=@RG (yp (ty tw p.c8) (ty tr p.cO)) [];have:=agF (x:=ty tw p.c8) (y:=ty tr p.cO) (by have:=(HW.cr _ (lk ar.1)).2.2;omega);grind;simp
theorem R4{r:bD}(d:jM tw tr r):∀(k i:Nat) (acc:I bD),i+k=26->i<=acc.length->acc.Nodup->(∀p∈acc,pz tw tr r p)->r∈acc->(∀j,j<i->∀q∈sO tw tr (acc.getD j ey),q∈acc)->
 ∃L,wG ((i:Int),tw,tr,acc)=some L/\L.length<=25/\∀p,p∈L↔pz tw tr r p
 |0,i,acc,t,h1,c,b,f,bu=>by
  have:=R3 HW.fz HR.fz c λp ar=>BX HW HR d (b p ar);omega
 |k+1,i,acc,t,h1,c,b,f,bu=>by
  have s:=R3 HW.fz HR.fz c λp ar=>BX HW HR d (b p ar);rw[wG];by_cases aD:i<acc.length
  . have o:=bp aD ey;have ar:=BX HW HR d (b _ o);have w:=agY HW HR ar;rw[ag (by grind),ag (aX aD)];simp only[fH];rw[ag (ia aD),ag (aX aD),ag (ia aD),(agG HW HR ar.1 ar.2).2];simp only[a7,ay];have:=Gx (tw:=tw) (tr:=tr) (l:=sO tw tr (acc.getD i ey)) (by omega) (i:Int) _ 0 acc (iy _) (by omega);simp only[Int.natCast_zero,gk]at this;rw[this];simp only[ay];rw[bP];have v:∀(m l:I bD) (j:Nat),j<l.length->(m.foldl hB l).getD j ey=l.getD j ey/\l.length<=(m.foldl hB l).length:=by
     intro m;induction m with
     |nil=>simp
     |cons a m ih=>
      intro l j n;rw[qS];by_cases g:a∈l;rw[show hB l a=l from ag g];grind;rw[show hB l a=l++[a]from aq g];grind
    refine R4 d k (i+1) _ (by omega) (by grind) (adw c) (λp ar=>?_) (u'.2 (.inl f)) (λj n q u=>?_)
    . rcases u'.1 ar with h|h
      grind;exact .step (b _ o) h
    grind[u']
  . rw[aq (by grind)];refine⟨acc,rfl,s,λp=>⟨b p,λh=>?_⟩⟩;induction h with
    |root=>grind
    |step _ u ih=>
     obtain⟨j,n,e⟩:=xV.1 ih;exact bu j (by omega) _ (by grind)
theorem adx{r:bD}(a:jM tw tr r):∃L,DR ((⟨tw⟩:aY),r.c8,(⟨tr⟩:aY),r.cO)=some L/\L.length<=25/\∀p,p∈L↔pz tw tr r p:=by
 obtain⟨L,h1,b⟩:=R4 HW HR a 26 0 [r] (by rfl) (by simp) (by simp) (by simp;exact .root) (by simp) (λj c=>by omega);simp_all[DR]
noncomputable abbrev BQ (tw tr:I aj) (p:bD):Int:=yc tw tr p.c8 p.cO
theorem R5{l:I bD}(ak:l.length<=1000)(b:∀p∈l,jM tw tr p):∀(k i:Nat),i+k=l.length->((∀p∈l.drop i,BQ tw tr p=0)/\rG (l,(i:Int),tw,tr)=some (.inr ()))\/(¬(∀p∈l.drop i,BQ tw tr p=0)/\rG (l,(i:Int),tw,tr)=some (.inl false))
 |0,i,a=>.inl ⟨by grind,by simp_all[rG,aq]⟩
 |k+1,i,a=>by
  have aD:i<l.length:=by omega
  have ih:=R5 ak b k (i+1) (by omega);rw[FX aD,rG,ag (aX aD),ag (aX aD)];simp;grind[agD,lC]
omit HR in
theorem agZ(ht:hW tw t):Ag ((⟨tw⟩:aY),t)=some 0:=by
 grind[Ag,afG,hW]
omit HR in
theorem QY(ht:hW tw t):A2 (⟨⟨tw⟩,t⟩:dJ)=some true:=by
 grind[A2,afE,hW]
theorem QZ{p:bD}(ar:jM tw tr p):zZ ((⟨⟨tw⟩,p.c8⟩:dJ),(⟨⟨tr⟩,p.cO⟩:dJ))=some 0:=by
 grind[zZ,agZ]
theorem aib{r:bD}(a:jM tw tr r):∃b,DH ((⟨⟨tw⟩,r.c8⟩:dJ),(⟨⟨tr⟩,r.cO⟩:dJ))=some (b,0)/\(b=true↔∀p,pz tw tr r p->BQ tw tr p=0):=by
 obtain⟨L,h1,f,c⟩:=adx HW HR a;have e:=λp ar=>BX HW HR a ((c p).1 ar);have d:=R5 HW HR (by omega) e L.length 0 (by simp);rw[DH];simp[QZ HW HR a];rw[IE];rcases d with⟨f1,f2⟩|⟨f1,f2⟩
 all_goals simp_all
end
section
variable {tw tr:I aj}(HW:dn tw)(HR:dn tr)
include HW HR
abbrev yd(ts:I aj)(t:Int):dJ:=⟨⟨ts⟩,t⟩
end
structure Gy (c:nu):Prop where
 d:vM c.S
 n:k0 c.S.eR
 l:c.L.length<=reachBytes
 lF:∀x,x∈c.L->yE x
 t:dS c.T
 u:dS c.U
theorem ak5(h:Gy c):(∃w r,zK c=some (w,r,false))\/∃tw tr r,zK c=some (yd tw r.c8,yd tr r.cO,true)/\dn tw/\dn tr/\jM tw tr r:=by
 obtain⟨m,d1,d3,d2⟩:=adu h.n h.l h.lF;rw[zK];rcases HM h.d with e|⟨tw,e,HW⟩;rw[e];simp only[a7,ay];rw[d2];simp only[ay];rcases HM d1.Ui with a|⟨l,a,_⟩<;>rw[a]<;>exact .inl ⟨_,_,rfl⟩
 . rw[e];simp only[a7,ay];rw[d2];simp only[ay];rcases HM d1.Ui with a|⟨tr,a,HR⟩
   rw[a];exact .inl ⟨_,_,rfl⟩
   . rw[a];simp only[ay,dX,eC];by_cases bu:5<(c.L.length:Int)
     rw[ag (ia bu)];exact .inl ⟨_,_,rfl⟩
     rw[aq (by simpa using bu)];have dF:=HW.dF;have o:=HR.dF;have p:=HW.fz;have q:=HR.fz;have t8:=h.t;have k:=h.u;unfold dS at t8 k;have z1:¬(tw.length:Int)=0:=(by omega);have z2:¬(tr.length:Int)=0:=(by omega);have f:=nU c.T z1;have g:=nR c.T (show(0:Int)<tw.length by omega);have aK:cn (b7 .i64 c.T) (tw.length:Int)=c.T%(tw.length:Int):=by rw[lS ⟨by omega,by omega⟩,iI t8.1]
     generalize c.T%(tw.length:Int)=t at*;have b:cn (aQ .i64 t (b7 .i64 c.U)) (tr.length:Int)=(t+c.U)%(tr.length:Int):=by rw[lS ⟨by omega,by omega⟩,k4,iI]
     have i:=nU (t+c.U) z2;have j:=nR (t+c.U) (show(0:Int)<tr.length by omega);refine .inr ⟨tw,tr,⟨t,(t+c.U)%(tr.length:Int)⟩,?_,HW,HR,⟨⟨f,g⟩,⟨i,j⟩⟩⟩;rw[ag (by rw[vm z1];rfl),aK,ag (by rw[vm z2];rfl),b]
theorem agH(h:∀d,d∈cP.wu Iv c->WF cP d):Gy c:=by
 have c1:=h ⟨.slice (.nm Ei),c.S.eR⟩ (.head _);have c2:=h ⟨.slice (.nm LG),c.L⟩ (.tail _ (.head _));obtain⟨a,_,e⟩:=AU (t:= .nm LG) c2;have b:∀{n:Int},WF cP ⟨.int .u8,n⟩->dS n:=alP;refine⟨Sl c1,ahE c1,a,λx aa=>?_,b (h ⟨.int .u8,c.T⟩ (.tail _ (.tail _ (.head _)))),b (h ⟨.int .u8,c.U⟩ (.tail _ (.tail _ (.tail _ (.head _)))))⟩;have f:=e x aa;exact⟨b (f ⟨.int .u8,x.ae⟩ (.head _)),b (f ⟨.int .u8,x.Node⟩ (.tail _ (.head _))),b (f ⟨.int .u8,x.A⟩ (.tail _ (.tail _ (.head _)))),b (f ⟨.int .u8,x.B⟩ (.tail _ (.tail _ (.tail _ (.head _)))))⟩
def T8(f g:fU):Prop:=∀t v rt p a u,f t v rt p= .inl u->g t v rt a= .inl u
section
variable {f g:fU}(h:T8 f g)
include h
theorem AO{rt:Int}:∀{l:I ab} {i d:Nat} {p e:az} {us:I ab},eU f p t rt i l= .inl us->eU g e t rt d l= .inl us
 |[],_,_,_,_,_,c=>c
 |v::l,i,d,p,e,us,c=>by
  rw[eU]at c⊢;cases a:f t v rt (p++[(i:Int)])with
  |inr q=>rw[a]at c;simp[iK]at c
  |inl w=>
   cases b:eU f p t rt (i+1) l with
   |inr q=>rw[a,b]at c;simp[iK]at c
   |inl j=>
    rw[a,b]at c;rw[h _ _ _ _ (e++[(d:Int)]) _ a,AO b];exact c
theorem ag0{d:az}{n:aT}{u:ab}(b:mR f x v p n= .inl u):mR g x v d n= .inl u:=by
 unfold mR at b⊢;cases bJ:ez x.af n.ah with
 |none=>
  rw[bJ]at b;simp only at b⊢;split at b;rename_i c;rw[ag c];exact b;cases b
 |some i=>
  rw[bJ]at b;simp only at b⊢;cases a:f (x.af.getD i aF).aC (v.aw.getD i aI) n.aC (p++[n.ah])with
  |inr q=>rw[a,Lm]at b;split at b<;>cases b
  |inl w=>
   rw[a,BJ]at b;rw[h _ _ _ _ (d++[n.ah]) _ a,BJ];split at b;cases b;rename_i c;rw[aq c];exact b
theorem Q0{d:az}:∀{l:I aT} {us:I ab},hR f x v p l= .inl us->hR g x v d l= .inl us
 |[],_,c=>c
 |n::l,us,c=>by
  rw[hR]at c⊢;cases a:mR f x v p n with
  |inr q=>rw[a]at c;simp[iK]at c
  |inl w=>
   cases b:hR f x v p l with
   |inr q=>rw[a,b]at c;simp[iK]at c
   |inl e=>
    rw[a,b]at c;rw[ag0 h a,Q0 b];exact c
omit h in
theorem FY{c:az}:∀{ms:I aT} {l:I ab} {r:I ct},gZ tw y p ms l= .inl r->gZ tw y c ms l= .inl r
 |[],_,r,b=>by
  rw[gZ]at b⊢;exact b;intros;simp_all;intros;simp_all
 |m::ms,[],r,b=>by
  rw[gZ]at b⊢;exact b;intros;simp_all;intros;simp_all
 |m::ms,v::l,r,b=>by
  rw[gZ]at b⊢;by_cases c1:(cx y.af m.ah).isSome=true;rw[ag c1]at b⊢;exact FY b;rw[aq c1]at b⊢;by_cases c2:m.bV=true;rw[ag c2]at b;cases b;rw[aq c2]at b⊢;by_cases c3:dm m v=true;rw[ag c3]at b⊢;exact FY b
  rw[aq c3]at b⊢;cases a:gZ tw y p ms l with
  |inr q=>rw[a]at b;simp[iK]at b
  |inl d=>rw[a]at b;rw[FY a];exact b
theorem ahH{q:az}{u:ab}(d:ib tw f x y v p= .inl u):ib tw g x y v q= .inl u:=by
 unfold ib at d⊢;by_cases j:¬x.ae=y.ae;rw[ag j]at d;cases d;rw[aq j]at d⊢;by_cases c5:x.ae=5;rw[ag c5]at d⊢;unfold sT at d⊢;obtain⟨t,aK,d⟩:=EY d;obtain⟨r,s,rfl⟩:=oU d;rw[Q0 h aK];simp only[k3];rw[FY s];rfl;rw[aq c5]at d⊢;by_cases l:x.ae=6
 . rw[ag l]at d⊢;unfold qW at d⊢;cases a:ez x.af v.ah with
   |none=>rw[a]at d;cases d
   |some i=>
    rw[a]at d;simp only at d⊢;cases b:ez y.af v.ah with
    |none=>
     rw[b]at d;simp only at d⊢;split at d;rename_i c;rw[ag c];exact d;cases d
    |some k=>
     rw[b]at d;simp only at d⊢;obtain⟨w,e,rfl⟩:=oU d;rw[h _ _ _ _ (q++[v.ah]) _ e];rfl
 rw[aq l]at d⊢;by_cases m:x.ae=7
 . rw[ag m]at d⊢;unfold vu at d⊢;split at d
   rename_i c;obtain⟨w,e,rfl⟩:=oU d;rw[ag c,AO h e];rfl;cases d
 rw[aq m]at d⊢;by_cases n:x.ae=8
 . rw[ag n]at d⊢;unfold vv at d⊢;split at d
   rename_i c;obtain⟨ks,aK,d⟩:=EY d;obtain⟨w,e,rfl⟩:=oU d;rw[ag c,AO h aK];simp only[k3];rw[AO h e];rfl;cases d
 rw[aq n]at d⊢;by_cases o:x.ae=9;rw[ag o]at d⊢;unfold vw at d⊢;obtain⟨w,e,rfl⟩:=oU d;rw[AO h e];rfl;rw[aq o]at d⊢;split at d;rename_i c;rw[ag c];exact d;cases d
end
theorem Lp:∀n k,T8 (ef tw tr n) (ef tw tr (n+k))
 |0,k=>λ_ _ _ _ _ _ h=>by cases h
 |n+1,k=>λt v rt p a u h=>by
  rw[uX]at h;rw[show n+1+k=n+k+1 by omega,uX];exact ahH (Lp n k) h
theorem agI{n m:Nat}{rt:Int}{u w:ab}{q:az}(h1:ef tw tr n t v rt p= .inl u)(c:ef tw tr m t v rt q= .inl w):u=w:=by
 have a:=Lp n m _ _ _ _ [] _ h1;have b:=Lp m n _ _ _ _ [] _ c;rw[Nat.add_comm]at b;rw[a]at b;cases b;rfl
theorem TM{b:ab->Int}(h:∀i,i+1<ks.length->b (ks.getD i aI)<b (ks.getD (i+1) aI)):∀(d i:Nat),i+d+1<ks.length->b (ks.getD i aI)<b (ks.getD (i+d+1) aI)
 |0,i,c=>h i c
 |d+1,i,c=>by
  have a:=TM h d i (by omega);grind
theorem Kh{c:ab->Int}{g:ab->α}(h:∀i,i+1<ks.length->c (ks.getD i aI)<c (ks.getD (i+1) aI))(av:∀a b,g a=g b->a∈ks->b∈ks->c a=c b):(ks.map g).Nodup:=by
 unfold List.Nodup;rw[nS,vh];intro i j d k f e;have a:=TM h (j-i-1) i (by omega);rw[show i+(j-i-1)+1=j by omega]at a;grind
theorem R6[DecidableEq α]:∀(l m:I α),l.Nodup->(∀x∈l,x∈m)->l.length<=m.length
 |[],m,_,_=>by simp
 |a::l,m,aL,h=>by
  rw[List.nodup_cons]at aL;have h1:=R6 l (m.erase a) aL.2 λx aa=>by
   grind
  grind
noncomputable def o5 (v:ab):Int:=if v.ae=1 then(if v.cp then 1 else 0)else if v.ae=2 then fZ v.bF else if v.ae=4 then v.ah else 0
theorem agJ{a b:ab}(g:a.ae=b.ae)(e:eE a.bF)(f:eE b.bF)(i:a.ae=3->a.bW=[]/\b.bW=[])(h:iz a b<0):o5 a<o5 b:=by
 unfold iz at h;rw[ny]at h;rw[aq (by grind)]at h;unfold o5;rw[<-g];by_cases bj:a.ae=1
 . rw[ag (by grind)]at h;simp only[bj,cg];rcases zE a.cp with c|c<;>rcases zE b.cp with d|d<;>rw[c,d]at h<;>rw[c,d]<;>first|decide|(exfalso;revert h;decide)
 rw[aq (by grind)]at h;by_cases bq:a.ae=2;rw[ag (by grind),sx e,sx f]at h;simp only[a7,ay,GP,qR]at h;grind;by_cases b4:a.ae=3;simp_all[ag,a7,ay,wb,GQ,JN,HP];by_cases cv:a.ae=4;simp only[a7,ay,wb,qR]at h;grind;grind
theorem Ws{n:Int}{l:az}(aL:l.Nodup)(b:Int)(h:∀x∈l,b<=x/\x<b+n):(l.length:Int)<=n\/l=[]:=by
 cases l with
 |nil=>simp
 |cons a l=>
  have:=HT n.toNat ((a::l).map λx=>(x-b).toNat) ?_ ?_
  grind;unfold List.Nodup;grind[List.Pairwise.imp_of_mem];grind
theorem ahI{fj:Int}(F:1<=(ty ts fj).ae/\(ty ts fj).ae<=4)(G:(ty ts fj).ae=2->(ty ts fj).bA<=(ty ts fj).bI)(B:∀k∈ks,cz k)(z:fp ts true fj ks)(w:nI ks)(E:ks.length<=3):(ks.length:Int)<=kO (ty ts fj)\/ks=[]:=by
 by_cases h0:ks=[];grind
 have ak:∀{v},v∈ks->_:=λ{v} f=>(hp _ _ _).1 (dv.1 z v f);have u:∀{v},v∈ks->eE v.bF:=λ{v} f=>by have:=B v f;cases this with|mk _ _ _ _ _ _ _ _ _ C _ _=>exact C
 have A:ts.getD fj.toNat aM=ty ts fj:=rfl;simp only[A]at ak;generalize ty ts fj=x at*;have d:∀{v},v∈ks->v.ae=x.ae:=λf=>(ak f).1.2.2.1;have J:∀{v},v∈ks->x.ae=3->x.Max=0->v.bW=[]:=λ{v} f b4 r=>by
  simp_all
 by_cases b4:x.ae=3/\¬x.Max=0;unfold kO;omega
 have l:∀i,i+1<ks.length->o5 (ks.getD i aI)<o5 (ks.getD (i+1) aI):=λi t=>by
  have j:=bp (show i<ks.length by omega) aI;have p:=bp t aI;refine agJ ((d j).trans (d p).symm) (u j) (u p) (λq=>?_) (w i t);have H:x.ae=3:=(d j).symm.trans q;simp_all
 unfold kO;by_cases bj:x.ae=1
 . rw[ag bj];have aL:=Kh (g:=o5) l λa b e _ _=>e
   rcases Ws (n:=2) aL 0 (λy al=>by
    obtain⟨v,f,rfl⟩:=fl.1 al;unfold o5;rw[ag ((d f).trans bj)]
    omega)with h|h
   simp_all;simp_all
 rw[aq bj];by_cases bq:x.ae=2
 . rw[ag bq];have aL:=Kh (g:=λv:ab=>v.bF) l λa b e m o=>by
    unfold o5;simp_all
   rcases Ws (n:=x.bI-x.bA+1) aL x.bA (λy al=>by
    obtain⟨v,f,rfl⟩:=fl.1 al;have k:=d f
    rcases (ak f).2 with c|c|c|c|c|c|c|c|c<;>omega)with h|h
   simp_all;simp_all
 by_cases cv:x.ae=4
 . rw[ag cv];have aL:=Kh (g:=λv:ab=>v.ah) l λa b e m o=>by
    unfold o5;rw[aq (by have:=d m;omega),aq (by have:=d m;omega),ag ((d m).trans cv),aq (by have:=d o;omega),aq (by have:=d o;omega),ag ((d o).trans cv)];exact e
   have:=R6 _ (x.bf.map λs=>s.ah) aL λy al=>by
    obtain⟨v,f,rfl⟩:=fl.1 al;have k:=d f;rcases (ak f).2 with c|c|c|c|c|c|c|c|c
    case inr.inr.inr.inl=>
     rcases c.2.2.2.2.2.2.2 with⟨s,s1,D⟩|⟨_,q,_⟩;exact fl.2 ⟨s,s1,D⟩;cases q
    all_goals omega
   simp only[sQ]at this;omega
 . rw[aq cv];have r:x.Max=0:=qO λe=>b4 ⟨by omega,e⟩;rw[ag r];have:ks.length<=1:=by
    refine qO λh=>?_;have a:=l 0 (by omega);have j:=bp (show 0<ks.length by omega) aI;have p:=bp (show 0+1<ks.length by omega) aI;unfold o5 at a;have:=d j;have:=d p;rw[b9,b9,b9,b9,b9,b9]at a;omega
   omega
theorem KC{f:fU}{t rt:Int}:∀{l:I ab} {i:Nat} {p:az},(∀v∈l,∀p,∃w,f t v rt p= .inl w)->∃us,eU f p t rt i l= .inl us
 |[],_,_,_=>⟨[],rfl⟩
 |v::l,i,p,h=>by
  obtain⟨w,c⟩:=h v (.head _) _;obtain⟨us,b⟩:=KC λq a=>h q (.tail _ a);exact⟨w::us,by rw[eU,c,b];rfl⟩
theorem Pz{f:fU}{x:aj}{v:ab}{p:az}:∀{l:I aT},(∀n∈l,∃w,mR f x v p n= .inl w)->∃us,hR f x v p l= .inl us
 |[],_=>⟨[],rfl⟩
 |n::l,h=>by
  obtain⟨w,c⟩:=h n (.head _);obtain⟨us,b⟩:=Pz λq a=>h q (.tail _ a);exact⟨w::us,by rw[hR,c,b];rfl⟩
theorem PA{tw:I aj}{y:aj}{p:az}:∀{ms:I aT} {l:I ab},(∀m∈ms,(cx y.af m.ah).isSome\/m.bV=false)->∃r,gZ tw y p ms l= .inl r
 |[],l,_=>⟨[],by rfl⟩
 |m::ms,[],_=>⟨[],by rfl⟩
 |m::ms,v::l,h=>by
  obtain⟨r,b⟩:=PA (tw:=tw) (p:=p) (l:=l) λq a=>h q (.tail _ a);rw[gZ];by_cases c1:(cx y.af m.ah).isSome=true;grind
  rw[aq c1];have c2:¬m.bV:=by grind
  rw[aq c2];by_cases c3:dm m v=true;grind;rw[aq c3,b];exact⟨_,rfl⟩
theorem I0{f:α->Int}:∀{l:I α},gp f l=0->∀a∈l,f a=0
 |[],_,a,c=>by grind
 |b::l,h,a,c=>by
  unfold gp at h;by_cases d:f b=0
  . rw[ag d]at h;rcases fk.1 c with rfl|c
    grind;exact I0 h a c
  grind
structure Qy (tw tr:List aj)(G:bD->Prop):Prop where
 i:∀p,G p->jM tw tr p
 z:∀p,G p->BQ tw tr p=0
 s:∀p q,G p->q∈sO tw tr p->G q
section
variable {tw tr:I aj}(HW:dn tw)(HR:dn tr){G:bD->Prop}(F:Qy tw tr G)
include HW HR F
theorem reads(bd:cz v):∀{t u:Int} {so:az} {n:Nat},G ⟨t,u⟩->dL tw true t v->gx tw n t v->∃w,ef tw tr n t v u so= .inl w:=by
 induction bd with
 |mk v hs h1 bj bk I ao br dF bw bx bz bf aa=>
 intro t u so n W aX aL;cases n with
 |zero=>cases aL
 |succ n=>
 obtain⟨_,aJ,aM,ai⟩:=aL;obtain⟨⟨g1,g2,g3,g4⟩,aV⟩:=(hp _ _ _).1 aX;have ap:=F.i _ W;have c:yc tw tr t u=0:=F.z _ W;have K:∀q,q∈sY (ty tw t) (ty tr u)->G q:=λq o=>F.s _ q W o;have J:=lk ap.1;have au:=lk ap.2;have SW:=HW.V.ic HW.T;have cH:=HR.V.ic HR.T;have bl:=HW.M _ J;have a6:(ty tw t).ae=8->hW tw (ty tw t).aS/\(1<=(ty tw (ty tw t).aS).ae/\(ty tw (ty tw t).aS).ae<=4)/\((ty tw (ty tw t).aS).ae=2->(ty tw (ty tw t).aS).bA<=(ty tw (ty tw t).aS).bI):=λeA=>by
  have I:hW tw (ty tw t).aS:=HW.V.U _ J _ (Fy eA);refine⟨I,⟨(KR HW (lk I)).1,(HW.V.oa _ J eA).2⟩,λbq=>?_⟩;rcases HW.V.F _ (lk I)with h|h|h|h|h|h|h|h|h<;>omega
 rw[uX];unfold yc at c;unfold sY yp at K;obtain⟨x,aT⟩:∃x,ty tw t=x:=⟨_,rfl⟩;obtain⟨y,aU⟩:∃y,ty tr u=y:=⟨_,rfl⟩;simp only[aT,aU]at*;by_cases al:¬x.ae=y.ae;grind
 have bS:x.ae=y.ae:=qO al;rw[aq al]at c;rw[ag bS]at K;have bc:∀q,q∈mO x y x.af->G q:=λq o=>K q (u'.2 (.inr (gj.2 (.inl (gj.2 (.inl o))))));have a8:x.ae=8->0<x.Max->G ⟨x.aS,y.aS⟩:=λa b=>K _ (u'.2 (.inr (gj.2 (.inl (gj.2 (.inr (by unfold zi;grind)))))));have aW:(x.ae=9\/(x.ae=7\/x.ae=8)/\0<x.Max)->G ⟨x.aE,y.aE⟩:=λa=>K _ (u'.2 (.inr (gj.2 (.inr (by unfold y6;grind)))));have ar:∀{i j:Nat},i<x.af.length->ez y.af (x.af.getD i aF).ah=some j->G ⟨(x.af.getD i aF).aC,(y.af.getD j aF).aC⟩:=λ{i j} ao Q=>bc _ (HG.2 ⟨_,bp ao aF,by grind⟩);have ad:∀{i:Nat},fp tw true x.aE v.aw->(x.ae=9\/(x.ae=7\/x.ae=8)/\(v.aw≠[]->0<x.Max))->∃us,eU (ef tw tr n) so x.aE y.aE i v.aw= .inl us:=λ{i} aY bo=>by
  refine KC λq o p=>aa q o (aW ?_) (dv.1 aY _ o) ((ai (by omega)).1 q o);grind
 rcases aV with e|e|e|e|e|e|e|e|e;exact⟨v,mz bS (by omega) ⟨λh=>by omega,λh=>by omega,λh=>by omega⟩⟩;have bq:x.ae=2:=(by omega);rw[ag bq]at c;exact⟨v,mz bS (by omega) ⟨λh=>by omega,λh=>by omega,λh=>by omega⟩⟩;have b4:x.ae=3:=(by omega);rw[b9,ag (.inl b4)]at c;exact⟨v,mz bS (by omega) ⟨λh=>by omega,λh=>by omega,λh=>by omega⟩⟩
 . have cv:x.ae=4:=(by omega);rw[b9,b9,b9,ag cv]at c;have E:(y.bt||me x y):=qO λq=>by rw[aq q]at c;cases c
   refine⟨v,mz bS (by omega) ⟨λh=>by omega,λh=>by omega,λ_=>?_⟩⟩;rcases (show y.bt\/me x y=true by simpa using E)with B|B;exact .inr B
   . left;rcases e.2.2.2.2.2.2.2 with⟨s,s1,bi⟩|⟨_,q,_⟩
     unfold me at B;rw[dr]at B;have:=gF.1 B.1 s s1;unfold hr at this;obtain⟨s',a,b⟩:=xJ.1 this;exact⟨s',a,by rw[<-bi];simpa using b⟩;cases q
 . have cZ:x.ae=5:=(by omega);rw[b9,b9,b9,b9,b9,ag cZ]at c;obtain⟨f1,f2⟩:=jR.1 e.2.2.2.2.2.2.2;have ax:gp (lo tw tr x) y.af=0:=by
    unfold ya at c;refine qO λq=>?_;rw[aq q]at c;exact q c
   have be:gp (fq y) x.af=0:=by
    unfold ya at c;rwa [ag ax]at c
   obtain⟨aA,bg⟩:=SW.A _ J (.inl (by omega));obtain⟨aB,bv⟩:=cH.A _ au (.inl (by omega));rw[H0 bS cZ];unfold sT;obtain⟨bu,aK⟩:=Pz (f:=ef tw tr n) (x:=x) (v:=v) (p:=so) (l:=y.af) λg av=>by
    have d:=I0 ax g av;unfold lo at d;unfold mR;cases bJ:ez x.af g.ah with
    |none=>
     rw[bJ]at d;simp only at d⊢;have C:g.bO:=qO λq=>by rw[aq q]at d;cases d
     rw[ag C];exact⟨_,rfl⟩
    |some i=>
     rw[bJ]at d;simp only at d⊢;obtain⟨S,ay,_⟩:=hK bJ;have bn:=bp S aF;have H:=bp (show i<v.aw.length by omega) aI;have L:=qk y.af (x.af.getD i aF).ah;rw[ay,FR aB av]at L;obtain⟨j,Q⟩:=zD.1 L;have a0:ez y.af (x.af.getD i aF).ah=some j:=by rw[ay];exact Q
     have aR:y.af.getD j aF=g:=qf aB (bp (hK Q).1 aF) av (hK Q).2.1;have O:=ar S a0;rw[aR]at O;obtain⟨w,R⟩:=aa _ H (so:=so++[g.ah]) O (f2 i S) (aJ cZ i S);rw[R,BJ];refine⟨w,aq λq=>?_⟩;obtain⟨aD,bh⟩:=q;have aG:(x.af.getD i aF).bO/\(x.af.getD i aF).bC=v.aw.getD i aI:=by unfold dm at aD;simpa using aD
     unfold C5 at d;rw[ag aG.1]at d;have aZ:g.bO:=qO λq=>by rw[aq q]at d;cases d
     rw[ag aZ]at d;have C:(iV tw tr (x.af.getD i aF) g).2=0/\dm g (iV tw tr (x.af.getD i aF) g).1:=qO λq=>by rw[aq q]at d;cases d
     unfold iV at C;rw[aG.2]at C;unfold l5 at C;cases X:ef tw tr 3000 (x.af.getD i aF).aC (v.aw.getD i aI) g.aC []with
     |inr p=>rw[X]at C;cases C.1
     |inl z=>
      rw[X]at C;have:=agI R X;subst this;have aH:dm g w:=C.2;rw[bh]at aH;cases aH
   rw[aK];obtain⟨r,aQ⟩:=PA (tw:=tw) (y:=y) (p:=so) (ms:=x.af) (l:=v.aw) λm d=>by
    have Y:=I0 be m d;unfold fq at Y;have an:¬((ez y.af m.ah).isNone/\m.bV):=λq=>by rw[ag q]at Y;cases Y
    rw[<-qk];cases P:ez y.af m.ah with
    |some _=>exact .inl rfl
    |none=>
     right;rw[P]at an;simpa using an
   exact⟨_,by simp only[k3];rw[aQ];rfl⟩
 . have c7:x.ae=6:=(by omega);rw[b9,b9,b9,b9,ag c7]at c;have E:(y.bt||me x y):=qO λq=>by rw[aq q]at c;cases c
   obtain⟨a1,a2,a3,a4,a5,D⟩:=e;obtain⟨aA,bg⟩:=SW.A _ J (.inr (by omega));rw[H2 bS c7];unfold qW;cases bJ:cx x.af v.ah with
   |none=>rw[bJ]at D;cases D.2.1
   |some m=>
    rw[bJ]at D;obtain⟨b1,b2,aP⟩:=D;have L:=qk x.af v.ah;rw[bJ]at L;obtain⟨i,P⟩:=zD.1 L;obtain⟨d1,d2,_⟩:=hK P;obtain⟨d3,d4⟩:=jS bJ;have em:x.af.getD i aF=m:=qf aA (bp d1 aF) d3 (by rw[d2,d4]);have H:=bp (show 0<v.aw.length by omega) aI;simp only[P];cases am:ez y.af v.ah with
    |some k=>
     simp only[];have O:=ar d1 (by rw[d2];exact am);obtain⟨w,R⟩:=aa _ H (so:=so++[v.ah]) O (by rw[em];exact dv.1 aP _ H) (by rw[em];exact aM c7 m bJ _ H);exact⟨_,by rw[R];rfl⟩
    |none=>
     simp only[];rcases (show y.bt\/me x y=true by simpa using E)with B|B;exact⟨_,by rw[ag B]⟩;unfold me at B;rw[dr]at B;have:=gF.1 B.2 m d3;rw[d4,am]at this;cases this
 . have fc:x.ae=7:=(by omega);rw[b9,ag (.inr fc)]at c;have E:¬y.Max<x.Max:=λq=>by rw[ag q]at c;cases c
   obtain⟨a1,a2,a3,a4,a5,D,aj,ak,a9⟩:=e;rw[H3 bS fc];unfold vu;rw[jE];obtain⟨us,N⟩:=ad (i:=0) a9 (.inr ⟨.inl fc,λZ=>by have:=qP.2 Z;omega⟩);exact⟨_,by rw[N];rfl⟩
 . have eA:x.ae=8:=(by omega);rw[b9,b9,ag eA]at c;have E:¬y.Max<ed x.Max (kO (ty tw x.aS)):=λq=>by rw[ag q]at c;cases c
   obtain⟨a1,a2,a3,a4,a5,D,aj,ak,a9,aN,aO⟩:=e;obtain⟨t1,t2,t3⟩:=a6 eA;have bb:=ahI t2 t3 I a9 aO (by omega);have ba:(v.aw.length:Int)<=y.Max:=by
    have d:ed x.Max (kO (ty tw x.aS))=min x.Max (kO (ty tw x.aS)):=rfl;rw[d]at E;rcases bb with h|h;omega
    . have bm:v.a'.length=0:=by rw[h];rfl
      have:=(HR.V.F _ au)
      have bs:0<=y.Max:=by rcases this with h|h|h|h|h|h|h|h|h<;>omega
      omega
   rw[H4 bS eA];unfold vv;rw[ag ba];obtain⟨ks,a7⟩:=KC (f:=ef tw tr n) (t:=x.aS) (rt:=y.aS) (l:=v.a') (i:=0) (p:=so) λq o p=>bf q o (a8 eA (by have:=List.length_pos_of_mem o;omega)) (dv.1 a9 _ o) ((ai (by omega)).2 q o);obtain⟨us,N⟩:=ad (i:=0) aN (.inr ⟨.inr eA,λZ=>by have:=qP.2 Z;omega⟩);rw[a7];exact⟨_,by simp only[k3];rw[N];rfl⟩
 have fv:x.ae=9:=(by omega);obtain⟨a1,a2,a3,a4,a5,D,aj,ak,a9⟩:=e;rw[H5 bS fv];unfold vw;obtain⟨us,N⟩:=ad (i:=0) a9 (.inl fv);exact⟨_,by rw[N];rfl⟩
end
theorem aa8(H:dn ts)(ht:hW ts t){m:au}(a:m.length<=4096):∃b,DK ((⟨ts⟩:aY),t,m)=some b/\(b=true↔ec ts 200 t m):=by
 obtain⟨z,z1,z2⟩:=Sp H 200 (by simp) t m ht.1 ht.2 a;rw[DK,(qc H.T H.V).2];have h1:=ht.1;have c:=ht.2;grind
theorem agK(H:dn ts)(c:cz v)(t:Int):∃b,p9 ((⟨ts⟩:aY),t,v)=some b/\qB ((⟨ts⟩:aY),t,v)=some b/\(b=true↔dL ts true t v):=by
 have a:=H.V.ic H.T;obtain⟨r,d,e⟩:=FQ a c t true;obtain⟨q,s1,f⟩:=FP (by have:=a.n;omega) H.T a.K c t true;grind[p9,ab.bN,qB]
section
variable {tw tr:I aj}(HW:dn tw)(HR:dn tr)
include HW HR
theorem agL{r:bD}(s:jM tw tr r){m:au}(y:m.length<=300):∃b,Ex (yd tw r.c8,yd tr r.cO,m)=some b/\Dz (yd tw r.c8,yd tr r.cO,m)=some b/\
 (b=true->∃v p,cz v/\dL tw true r.c8 v/\gx tw 3000 r.c8 v/\l5 tw tr r.c8 v r.cO= .inr p):=by
 obtain⟨⟨t0,t1⟩,⟨f,g⟩⟩:=s;have d1:=ad2 HW.iv r.c8 m;have d2:=ad3 HW.iv r.c8 m;obtain⟨c,c1,c2⟩:=aa8 HW ⟨t0,t1⟩ (m:=m) (by omega);rw[Ex,Dz];simp only[QY HW ⟨t0,t1⟩,QY HR ⟨f,g⟩,QZ HW HR ⟨⟨t0,t1⟩,⟨f,g⟩⟩,d1,d2,c1,a7,ay,dX,fY,cg,eC,cm,cw,di,ab.bN];have i:=@ahB tw HW r.c8 m m;have a:=@ahA tw HW r.c8 m ⟨t0,t1⟩ (by omega);unfold zc at i a;rcases Om tw r.c8 m with⟨e,he,k⟩|⟨v,k,_,_,t⟩;simp_all
 . rw[k]at i a⊢;have F:=Rv HW ⟨t0,t1⟩ (by omega) t;obtain⟨b,b1,b2,l⟩:=agK HW F.2.1 r.c8;have aK:=agx HW F;simp only[cg]at i a;simp only[b1,b2,aK,di,dX,fY,eC,cg,cm,cw,ay];cases b with
   |false=>
    simp
   |true=>
    have d:=l.1 rfl;by_cases o:c=true
    . subst o;have q:=a (c2.1 rfl);rw[q];have ar:bM tw r.c8 v=m/\(bM tw r.c8 v).length<=4096/\eW tw r.c8 v<=200:=by
       grind[tz]
      have j:gx tw 3000 r.c8 v:=pe HW 3000 F.2.1 d (.inl ar.2.1) (.inl (by omega));have u:=No HW HR F.2.1 d j f g;have x:=Np HW HR F.2.1 F.2.2 d j f g;simp only[u,x,di,dX,cm,cw,eC,ay];refine⟨_,rfl,rfl,λh=>?_⟩;cases n:l5 tw tr r.c8 v r.cO with
      |inl w=>grind[yI]
      |inr p=>exact⟨v,p,F.2.1,d,j,n⟩
    grind
theorem acx{r:bD}(d:jM tw tr r)(e:cz v)(c:dL tw true r.c8 v)(f:gx tw 3000 r.c8 v)(h:l5 tw tr r.c8 v r.cO= .inr p)(b:∀q,pz tw tr r q->BQ tw tr q=0):False:=by
 have F:Qy tw tr _:=⟨λq a=>BX HW HR d a,b,λq s a hs=>.step a hs⟩;obtain⟨w,g⟩:=reads HW HR F e (so:=[]) .root c f;grind[l5]
end
theorem acy(g:Gy c)(m:au):BZ (c,m)=some true:=by
 rw[BZ];rcases ak5 g with⟨w,r,e⟩|⟨tw,tr,r,e,HW,HR,d⟩;simp_all[L6]
 . rw[e];simp only[a7,ay,L6,dX,eC];by_cases h:300<(m.length:Int)
   grind
   rw[aq (by grind)];obtain⟨b,b1,b2⟩:=aib HW HR d;obtain⟨a,a1,a2,a3⟩:=agL HW HR d (m:=m) (by omega);simp only[a1,a2,b1];cases a with
   |false=>rfl
   |true=>
    have f:b=false:=by
     grind[acx]
    rw[f];rfl
theorem akM(h:a8 cP.D [.nm Iv,.str])(a:Ok cP [.nm Iv,.str] h):BZ h=some true:=match h,a with
 |(c,m),a=>acy (agH (ahY a)) m
end
end Go.Proofs.YtkbmjabicjpmjaaGreatDoor
