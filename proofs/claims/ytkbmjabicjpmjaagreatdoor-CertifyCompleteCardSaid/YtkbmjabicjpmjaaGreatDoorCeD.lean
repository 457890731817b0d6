/- The functions of the program as functions of Lean, that its code does what they say, and what they answer; part D. -/
import Derived.Test.YtkbmjabicjpmjaaGreatDoorCeC

namespace Go.Proofs.YtkbmjabicjpmjaaGreatDoor
set_option linter.all false
section
open Go Go.Proofs.YtkbmjabicjpmjaaGreatDoor.Shv Go.Sort
set_option maxRecDepth 100000
abbrev fK(tw tr:List af)(p:aK):Prop:=gI tw p.bW/\gI tr p.bZ
abbrev hI(tw tr:List af)(p:aK):List aK:=sG (ty tw p.bW) (ty tr p.bZ)
theorem Me{ts:List af}(H:dA ts){x:af}(I:x∈ts){m:aY}(b:m∈x.ae):gI ts m.aC:=by
 obtain⟨j,a,rfl⟩:=l1.1 I;have:=H.R j a m (by simpa[List.getD,df a]using b);exact⟨this.1,this.2.1⟩
theorem abm{x y:af}{l:List aY}{q:aK}(h:q∈ll x y l):∃f∈l,∃j,eC y.ae f.ah=some j/\q=⟨f.aC,(y.ae.getD j aG).aC⟩:=by
 unfold ll at h;obtain⟨f,a,h⟩:=List.mem_filterMap.1 h;cases bV:eC y.ae f.ah with
 |none=>rw[bV]at h;cases h
 |some j=>rw[bV]at h;injection h with h;exact⟨f,a,j,bV,h.symm⟩
variable{p x:aK}{tw tr:List af}{c:lI}{t:List (List aK)×List aK}{L:List aK}
section
variable {tw tr:List af}(HW:dA tw)(HR:dA tr)
include HW HR
theorem aa4{q:aK}(al:fK tw tr p)(h:q∈hI tw tr p):fK tw tr q:=by
 have I:=ni al.1;have ak:=ni al.2;unfold hI sG at h;generalize ty tw p.bW=x at*;generalize ty tr p.bZ=y at*;by_cases bE:x.Kind=y.Kind
 . rw[ai bE]at h;rcases ym.1 h with h|h
   . cases h
   unfold vg at h;rcases gY.1 h with h|h
   . rcases gY.1 h with h|h
     . obtain⟨f,a,j,b,rfl⟩:=abm h;exact⟨Me HW I a,Me HR ak (bM (hB b).1 aG)⟩
     . unfold vW at h;by_cases k:x.Kind=8/\0<x.Max
       . rw[ai k]at h;simp only[kH]at h;subst h;exact⟨HW.V.U _ I _ (GY k.1),HR.V.U _ ak _ (GY (bE.symm.trans k.1))⟩
       . rw[av k]at h;cases h
   . unfold vN at h;by_cases k:x.Kind=9\/(x.Kind=7\/x.Kind=8)/\0<x.Max
     . rw[ai k]at h;simp only[kH]at h;subst h;exact⟨HW.V.U _ I _ (Jt (by omega)),HR.V.U _ ak _ (Jt (by omega))⟩
     . rw[av k]at h;cases h
 . rw[av bE]at h;cases h
end
theorem O0:∀(n:Nat) (l:aZ),l.Nodup->(∀x∈l,x<n)->l.length<=n
 |0,l,_,h=>by
  cases l with
  |nil=>simp
  |cons a l=>exact absurd (h a (uX ..)) (by omega)
 |n+1,l,aV,h=>by
  have h1:=O0 n (l.erase n) (aV.erase n) (λx I=>by
   have a:=h x (List.mem_of_mem_erase I);have b:x≠n:=λe=>by subst e;exact(aV.not_mem_erase) I
   omega)
  have c:=@List.length_erase _ _ _ n l;rw[c]at h1;split at h1<;>omega
theorem B0(j:tw.length<=5)(i:tr.length<=5){l:List aK}(aV:l.Nodup)(h:∀p∈l,fK tw tr p):l.length<=25:=by
 have:=O0 25 (l.map λp=>p.bW.toNat*5+p.bZ.toNat) ?_ ?_
 . simpa using this
 . unfold List.Nodup;rw[oL];refine List.Pairwise.imp_of_mem (λ{a b} d f g e=>g ?_) aV;have h1:=h a d;have c:=h b f;unfold fK gI at h1 c;rw[GZ];constructor<;>omega
 . intro x I;obtain⟨p,al,rfl⟩:=g'.1 I;have h1:=h p al;unfold fK gI at h1;omega
inductive hd (tw tr:List af)(r:aK):aK->Prop
 |root:hd tw tr r r
 |step {p q:aK}:hd tw tr r p->q∈hI tw tr p->hd tw tr r q
section
variable {tw tr:List af}(HW:dA tw)(HR:dA tr)
include HW HR
theorem lX{r:aK}(b:fK tw tr r)(h:hd tw tr r p):fK tw tr p:=by
 induction h with
 |root=>exact b
 |step _ a ih=>exact aa4 HW HR ih a
omit HW HR in
theorem GP{l:List aK}(ag:l.length<=500)(i:Int):∀(n k:Nat) (acc:List aK),k+n=l.length->acc.length+n<=1000->pD (i,l,(k:Int),tw,tr,acc)=some (i,tw,tr,(l.drop k).foldl fY acc)
 |0,k,acc,b,a=>by rw[jJ (by omega),pD,de];rfl
 |n+1,k,acc,b,a=>by
  have aF:k<l.length:=by omega
  rw[xz aF,pD,cg,ai (aU aF)];simp only[ey];rw[(ti _ (by omega)).2.1,bO (by omega)];simp only[bl,aw,cL,qA,bJ,kK];by_cases h:l.getD k bG∈acc
  . rw[show fY acc (l.getD k bG)=acc from ai h,ez h,c8];exact GP ag i n (k+1) acc (by omega) (by omega)
  . rw[show fY acc (l.getD k bG)=acc++[l.getD k bG]from av h,hJ h,ai (show(!false)=true from rfl),ai (aU aF),ai (e2)];exact GP ag i n (k+1) _ (by omega) (by simp;omega)
theorem G0(al:fK tw tr p):(hI tw tr p).length<=102:=by
 unfold hI sG;split
 . have:=@Ju (vg (ty tw p.bW) (ty tr p.bZ)) [];have:=Jw (x:=ty tw p.bW) (y:=ty tr p.bZ) (by have:=(HW.b9 _ (ni al.1)).2.2;omega);simp only[qx]at*;omega
 . simp
theorem Ks{r:aK}(g:fK tw tr r):∀(k i:Nat) (acc:List aK),i+k=26->i<=acc.length->acc.Nodup->(∀p∈acc,hd tw tr r p)->r∈acc->(∀j,j<i->∀q∈hI tw tr (acc.getD j bG),q∈acc)->
 ∃L,rQ ((i:Int),tw,tr,acc)=some L/\L.length<=25/\∀p,p∈L↔hd tw tr r p
 |0,i,acc,v,h1,f,b,n,bh=>by
  have:=B0 HW.ew HR.ew f λp al=>lX HW HR g (b p al);omega
 |k+1,i,acc,v,h1,f,b,n,bh=>by
  have u:=B0 HW.ew HR.ew f λp al=>lX HW HR g (b p al);rw[rQ];by_cases aF:i<acc.length
  . have s:=bM aF bG;have al:=lX HW HR g (b _ s);have x:=G0 HW HR al;rw[cg,ai (aU aF)];simp only[ey];rw[ai (ez aF),ai (aU aF),ai (ez aF),(F7 HW HR al.1 al.2).2];simp only[bl,aw];have:=GP (tw:=tw) (tr:=tr) (l:=hI tw tr (acc.getD i bG)) (by omega) (i:Int) _ 0 acc (gS _) (by omega);simp only[nx,gh]at this;rw[this];simp only[aw];rw[bO (by omega)];have t:∀(m l:List aK) (j:Nat),j<l.length->(m.foldl fY l).getD j bG=l.getD j bG/\l.length<=(m.foldl fY l).length:=by
     intro m;induction m with
     |nil=>intro l j _;simp
     |cons a m ih=>
      intro l j c;rw[kK];by_cases o:a∈l
      . rw[show fY l a=l from ai o];exact ih l j c
      . rw[show fY l a=l++[a]from av o];have:=ih (l++[a]) j (by simp;omega);refine⟨this.1.trans ?_,by have:=this.2;simp at this;omega⟩;simp[List.getD,qu c]
    have w:=t (hI tw tr (acc.getD i bG)) acc i aF;refine Ks g k (i+1) _ (by omega) (by have:=w.2;omega) (XH f) (λp al=>?_) (ym.2 (.inl n)) (λj c q d=>?_)
    . rcases ym.1 al with h|h
      . exact b p h
      . exact .step (b _ s) h
    . rw[(t _ acc j (by omega)).1]at d;by_cases e:j=i
      . subst e;exact ym.2 (.inr d)
      . exact ym.2 (.inl (bh j (by omega) q d))
  . rw[de];refine⟨acc,rfl,u,λp=>⟨b p,λh=>?_⟩⟩;induction h with
    |root=>exact n
    |step _ d ih=>
     obtain⟨j,c,e⟩:=l1.1 ih;exact bh j (by omega) _ (by simpa[List.getD,df c,e]using d)
theorem Ht{r:aK}(c:fK tw tr r):∃L,wP ((⟨tw⟩:a7),r.bW,(⟨tr⟩:a7),r.bZ)=some L/\L.length<=25/\∀p,p∈L↔hd tw tr r p:=by
 obtain⟨L,h1,b⟩:=Ks HW HR c 26 0 [r] (by omega) (by simp) (by simp) (by simp;exact .root) (by simp) (λj d=>by omega);refine⟨L,?_,b⟩;rw[wP];have a:rQ (0,tw,tr,[(⟨r.bW,r.bZ⟩:aK)])=some L:=h1;simp only[a];rfl
noncomputable abbrev iR (tw tr:List af) (p:aK):Int:=oQ tw tr p.bW p.bZ
theorem Kt{l:List aK}(ag:l.length<=1000)(b:∀p∈l,fK tw tr p):∀(k i:Nat),i+k=l.length->((∀p∈l.drop i,iR tw tr p=0)/\pw ((i:Int),tw,tr,l)=some (.inr ()))\/(¬(∀p∈l.drop i,iR tw tr p=0)/\pw ((i:Int),tw,tr,l)=some (.inl false))
 |0,i,c=>.inl ⟨by rw[jJ (by omega)];simp,by rw[pw,de]⟩
 |k+1,i,c=>by
  have aF:i<l.length:=by omega
  have al:=b _ (bM aF bG);have ih:=Kt ag b k (i+1) (by omega);rw[xz aF,pw,cg,ai (aU aF)];simp only[ey];rw[ai (ez aF),ai (aU aF),ai (ez aF),(F5 HW HR al.1 al.2).2,bO (by omega)];simp only[bl,aw,List.forall_mem_cons];by_cases h:iR tw tr (l.getD i bG)=0
  . have a:oQ tw tr (l.getD i bG).bW (l.getD i bG).bZ=0:=h;rw[av (by rw[ez a];simp)];simpa only[h,true_and]using ih
  . have a:¬oQ tw tr (l.getD i bG).bW (l.getD i bG).bZ=0:=h;rw[ai (by rw[hJ a];rfl)];exact .inr ⟨λx=>h x.1,rfl⟩
omit HR in
theorem Ku{t:Int}(ht:gI tw t):xm ((⟨tw⟩:a7),t)=some 0:=by
 rw[xm,Ip HW];unfold gI at ht;have c1:¬t<0:=by omega
 have c2:¬(tw.length:Int)<=t:=by omega
 simp[c1,c2]
omit HR in
theorem Kv{t:Int}(ht:gI tw t):xf ((⟨tw⟩:a7),t)=some 0:=by
 rw[xf,ZO HW];unfold gI at ht;have c1:¬t<0:=by omega
 have c2:¬(tw.length:Int)<=t:=by omega
 simp[c1,c2]
omit HR in
theorem Cg{t:Int}(ht:gI tw t):pM (⟨⟨tw⟩,t⟩:cq)=some true:=by
 rw[pM,Ip HW];unfold gI at ht;simp[ht.1,ht.2]
theorem Kw(al:fK tw tr p):xu ((⟨⟨tw⟩,p.bW⟩:cq),(⟨⟨tr⟩,p.bZ⟩:cq))=some 0:=by
 rw[xu];simp only[Ku HW al.1,Ku HR al.2];rfl
theorem Jx(al:fK tw tr p):wk ((⟨⟨tw⟩,p.bW⟩:cq),(⟨⟨tr⟩,p.bZ⟩:cq))=some 0:=by
 rw[wk];simp only[Kv HW al.1,Kv HR al.2];rfl
theorem aa5{r:aK}(c:fK tw tr r):∃b,Av ((⟨⟨tw⟩,r.bW⟩:cq),(⟨⟨tr⟩,r.bZ⟩:cq))=some (b,0)/\(b=true↔∀p,hd tw tr r p->iR tw tr p=0):=by
 obtain⟨L,h1,f,a⟩:=Ht HW HR c;have e:∀p∈L,fK tw tr p:=λp al=>lX HW HR c ((a p).1 al);have d:=Kt HW HR (by omega) e L.length 0 (by omega);simp only[nx,gh]at d;rw[Av];simp only[Jx HW HR c,bl,aw];rw[c8,Ee];simp only[h1,bl,aw];rcases d with⟨f1,f2⟩|⟨f1,f2⟩
 . rw[f2];exact⟨true,rfl,by simp only[true_iff];exactλp al=>f1 p ((a p).2 al)⟩
 . rw[f2];exact⟨false,rfl,by simp only[bU,false_iff];exactλh=>f1 λp al=>h p ((a p).1 al)⟩
end
def uK(tw tr:List af)(x:aK):Bool:=decide (0<=x.bW/\x.bW<tw.length/\0<=x.bZ/\x.bZ<tr.length)
theorem Is:uK tw tr x=true↔fK tw tr x:=by unfold uK fK gI;simp;omega
noncomputable def u2 (tw tr:List af)(l:List aK)(x:aK):Bool:=uK tw tr x&&(decide (iR tw tr x=0)&&(hI tw tr x).all λy=>decide (y∈l))
noncomputable def oP (tw tr:List af)(r:aK)(l:List aK):Bool:=decide (r∈l)&&l.all (u2 tw tr l)
section
variable {tw tr:List af}(HW:dA tw)(HR:dA tr)
include HW HR
abbrev fA(ts:List af)(t:Int):cq:=⟨⟨ts⟩,t⟩
theorem Kx{r:aK}(I:fK tw tr x):rY ((⟨fA tw r.bW,fA tr r.bZ⟩:fi),x)=some (decide (iR tw tr x=0)):=by
 rw[rY];show(AF ((⟨tw⟩:a7),x.bW,(⟨tr⟩:a7),x.bZ)>>=_)=_;rw[AF];simp only[Kw HW HR I,(F5 HW HR I.1 I.2).1,bl,aw];simp
theorem Ky{r:aK}(I:fK tw tr x):rZ ((⟨fA tw r.bW,fA tr r.bZ⟩:fi),x)=some (hI tw tr x):=by
 rw[rZ];show(Ah ((⟨tw⟩:a7),x.bW,(⟨tr⟩:a7),x.bZ)>>=_)=_;rw[Ah];simp only[Kw HW HR I,(F7 HW HR I.1 I.2).1,bl,aw,cL,ds,bU,bN]
omit HW HR in
theorem ZR{r:aK}:tq ((⟨fA tw r.bW,fA tr r.bZ⟩:fi),x)=some (uK tw tr x):=by
 rw[tq]
 congr 1
 unfold uK;have e:0<=da x.bW x.bZ↔0<=x.bW/\0<=x.bZ:=by simp only[da];omega
 rw[qz];by_cases a:0<=x.bW<;>by_cases b:x.bW<tw.length<;>by_cases c:0<=x.bZ<;>by_cases d:x.bZ<tr.length<;>simp[e,a,b,c,d]
theorem abn{r:aK}{l:List aK}:yO tq rY rZ (⟨fA tw r.bW,fA tr r.bZ⟩:fi) l x=some (u2 tw tr l x):=by
 unfold yO u2;rw[ZR];simp only[bl,aw];cases a:uK tw tr x with
 |false=>rfl
 |true=>
  have I:=Is.1 a;rw[c8,Kx HW HR I];simp only[aw];by_cases h:iR tw tr x=0
  . rw[av (by rw[ez h];simp),Ky HW HR I];simp only[aw,l7];rw[ez h,l7]
    congr 1
    refine List.all_congr rfl λy=>?_;rw[qz];simp only[qw,tb,gg];exact⟨λ⟨z,b,e⟩=>e▸b,λh=>⟨y,h,rfl⟩⟩
  . rw[ai (by rw[hJ h];rfl),hJ h];rfl
theorem Kz{r:aK}{l:List aK}:∀{m:List aK},qX (yO tq rY rZ (⟨fA tw r.bW,fA tr r.bZ⟩:fi) l) m=some (m.all (u2 tw tr l))
 |[]=>rfl
 |x::m=>by
  rw[qX,abn HW HR,Kz];rfl
theorem G1{r:aK}(a:fK tw tr r){l:List aK}(ag:l.length<=1000000):tF (fA tw r.bW,fA tr r.bZ,l)=some (oP tw tr r l):=by
 rw[tF];unfold BO;simp only[Cg HW a.1,Cg HR a.2,v7,(ti _ ag).2.2.1,Kz HW HR,bl,aw,ds,bU,bN];unfold oP;by_cases h:r∈l
 . rw[ez h];rfl
 . rw[hJ h];rfl
omit HW HR in
theorem abo{r:aK}{l:List aK}(h:oP tw tr r l=true):∀p,hd tw tr r p->p∈l/\iR tw tr p=0:=by
 unfold oP at h;simp only[cO,gg,fk]at h;have b:∀p∈l,iR tw tr p=0/\∀q∈hI tw tr p,q∈l:=λp al=>by
  have:=h.2 p al;unfold u2 at this;simp only[cO,gg,fk]at this;exact this.2
 have a:∀p,hd tw tr r p->p∈l:=λp al=>by
  induction al with
  |root=>exact h.1
  |step _ c ih=>exact(b _ ih).2 _ c
 exactλp al=>⟨a p al,(b _ (a p al)).1⟩
end
structure CG (c:lI):Prop where
 d:sL c.S
 n:jP c.S.ei
 l:c.L.length<=reachBytes
 ik:∀x,x∈c.L->vo x
 t:di c.T
 u:di c.U
theorem aed(h:CG c):(∃w r,xi c=some (w,r,false))\/∃tw tr r,xi c=some (fA tw r.bW,fA tr r.bZ,true)/\dA tw/\dA tr/\fK tw tr r:=by
 obtain⟨m,d1,d3,d2⟩:=X8 h.n h.l h.ik;rw[xi];rcases DJ h.d with e|⟨tw,e,HW⟩
 . rw[e];simp only[bl,aw];rw[d2];simp only[aw];rcases DJ d1.Mu with a|⟨l,a,_⟩<;>rw[a]<;>exact .inl ⟨_,_,rfl⟩
 . rw[e];simp only[bl,aw];rw[d2];simp only[aw];rcases DJ d1.Mu with a|⟨tr,a,HR⟩
   . rw[a];exact .inl ⟨_,_,rfl⟩
   . rw[a];simp only[aw,ds,eF];by_cases bh:5<(c.L.length:Int)
     . rw[ai (ez bh)];exact .inl ⟨_,_,rfl⟩
     rw[av (by simpa using bh)];have dR:=HW.dR;have o:=HR.dR;have p:=HW.ew;have q:=HR.ew;have t8:=h.t;have k:=h.u;unfold di at t8 k;have z1:¬(tw.length:Int)=0:=(by omega);have z2:¬(tr.length:Int)=0:=(by omega);have f:=l4 c.T z1;have g:=l3 c.T (show(0:Int)<tw.length by omega);have aN:cy (ca .i64 c.T) (tw.length:Int)=c.T%(tw.length:Int):=by rw[kC ⟨by omega,by omega⟩,hW t8.1]
     generalize c.T%(tw.length:Int)=t at*;have b:cy (aS .i64 t (ca .i64 c.U)) (tr.length:Int)=(t+c.U)%(tr.length:Int):=by rw[kC ⟨by omega,by omega⟩,jy (by omega) (by omega),hW (by omega)]
     have i:=l4 (t+c.U) z2;have j:=l3 (t+c.U) (show(0:Int)<tr.length by omega);refine .inr ⟨tw,tr,⟨t,(t+c.U)%(tr.length:Int)⟩,?_,HW,HR,⟨⟨f,g⟩,⟨i,j⟩⟩⟩;rw[ai (by rw[hJ z1];rfl),aN,ai (by rw[hJ z2];rfl),b]
theorem aaP(h:∀d,d∈cu.tf EP c->WF cu d):CG c:=by
 have c1:=h ⟨.slice (.nm wh),c.S.ei⟩ (.head _);have c2:=h ⟨.slice (.nm Qh),c.L⟩ (.tail _ (.head _));obtain⟨a,_,e⟩:=yh (t:= .nm Qh) c2;have b:∀{n:Int},WF cu ⟨.int .u8,n⟩->di n:=aeV;refine⟨K4 c1,aaa c1,a,λx I=>?_,b (h ⟨.int .u8,c.T⟩ (.tail _ (.tail _ (.head _)))),b (h ⟨.int .u8,c.U⟩ (.tail _ (.tail _ (.tail _ (.head _)))))⟩;have f:=e x I;exact⟨b (f ⟨.int .u8,x.Kind⟩ (.head _)),b (f ⟨.int .u8,x.Node⟩ (.tail _ (.head _))),b (f ⟨.int .u8,x.A⟩ (.tail _ (.tail _ (.head _)))),b (f ⟨.int .u8,x.B⟩ (.tail _ (.tail _ (.tail _ (.head _)))))⟩
theorem aaQ{l:List aK}{k:Nat}(e:k+1<l.length)(p:aK):p∈(l.set (k+1) (l.getD k bG)).set k (l.getD (k+1) bG)↔p∈l:=by
 have h0:k<l.length:=by omega
 have c:l.getD k bG=l[k]:=by simp[List.getD,df h0]
 have g1:l.getD (k+1) bG=l[k+1]:=by simp[List.getD,df e]
 rw[c,g1];simp only[zP,uZ];constructor
 . rintro ⟨i,d⟩
   by_cases a:k=i
   . exact⟨k+1,by grind⟩
   . by_cases b:k+1=i
     . exact⟨k,by grind⟩
     . exact⟨i,by grind⟩
 . rintro ⟨i,d⟩
   by_cases a:k=i
   . exact⟨k+1,by grind⟩
   . by_cases b:k+1=i
     . exact⟨k,by grind⟩
     . exact⟨i,by grind⟩
theorem Mf(i:Int):∀(k:Nat) (l:List aK),k<l.length->l.length<=1000->∃a,rP (i,(k:Int),l)=some (i,a)/\a.length=l.length/\∀p,p∈a↔p∈l
 |0,l,b,ag=>⟨l,by
  rw[rP]
  simp[bl],rfl,λ_=>Iff.rfl⟩
 |k+1,l,b,ag=>by
  have aN:dM .i64 ((k+1:Nat):Int) 1=(k:Int):=by
   show IntKind.wrap .i64 _=_;rw[IntKind.wrap_i64];omega
  have h0:k<l.length:=by omega
  have f:=aU b;have e:=aU h0;have g:decide ((0:Int)<((k+1:Nat):Int))=true:=ez (by omega);rw[rP];simp only[bl,aw,aN,f,e,g,ey,ez b,ez h0,l8,bJ,hn,dX];split
  . obtain⟨a,h1,c,d⟩:=Mf i k ((l.set (k+1) (l.getD k bG)).set k (l.getD (k+1) bG)) (by simp;omega) (by simpa using ag);exact⟨a,h1,by simpa using c,λp=>(d p).trans (aaQ b p)⟩
  . exact⟨l,rfl,rfl,λ_=>Iff.rfl⟩
theorem KA:∀(n i:Nat) (l:List aK),l.length<=i+n->l.length<=1000->i<=1000->∃a,pF ((i:Int),l)=some a/\a.length=l.length/\∀p,p∈a↔p∈l
 |0,i,l,h,ag,e=>⟨l,by rw[pF,de],rfl,λ_=>Iff.rfl⟩
 |n+1,i,l,h,ag,e=>by
  rw[pF];by_cases aF:i<l.length
  . obtain⟨f,a1,a2,a3⟩:=Mf (i:Int) i l aF ag;rw[cg,a1];simp only[bl,aw];rw[bO (by omega)];obtain⟨l2,b,c,d⟩:=KA n (i+1) f (by omega) (by omega) (by omega);exact⟨l2,b,c.trans a2,λp=>(d p).trans (a3 p)⟩
  . exact⟨l,by rw[de],rfl,λ_=>Iff.rfl⟩
theorem Jy{l:List aK}(ag:l.length<=100000)(h:∀p∈l,0<=p.bW/\0<=p.bZ):∀(n i:Nat),i+n=l.length->pC (l,(l.length:Int),(i:Int))=some (.inr ())
 |0,i,a=>by rw[pC,de]
 |n+1,i,a=>by
  have aF:i<l.length:=by omega
  have al:=h _ (bM aF bG);have b:¬da (l.getD i bG).bW (l.getD i bG).bZ<0:=by simp only[da];omega
  rw[pC,cg,ai (aU aF),bO (by omega),Jy ag h n (i+1) (by omega)];simp only[ey,Ei,bl,aw,hJ b,bU,bN]
structure qM (tw tr:List af)(r:aK)(l:List aK)(e:aK):Prop where
 pos:0<l.length
 aj:l.getD 0 bG=r
 OI:l.getD (l.length-1) bG=e
 uM:∀j,j+1<l.length->l.getD (j+1) bG∈hI tw tr (l.getD j bG)
theorem oh{α:Type}{l:List α}{x d:α}{j:Nat}:(l++[x]).getD j d=if j<l.length then l.getD j d else if j=l.length then x else d:=by
 by_cases h:j<l.length
 . rw[ai h];simp[List.getD,qu h]
 . rw[av h];by_cases e:j=l.length
   . subst e;simp[List.getD]
   . rw[av e];simp only[List.getD];rw[Dx (by simp;omega)];rfl
theorem qM.step{r e:aK}{l:List aK}(h:qM tw tr r l e)(I:x∈hI tw tr e):qM tw tr r (l++[x]) x:=by
 have al:=h.pos;refine⟨by simp,by rw[oh,ai al];exact h.aj,by rw[oh];simp,λj a=>?_⟩;simp only[dQ,x5]at a;rw[oh,oh];by_cases c:j+1<l.length
 . rw[ai c,fS];exact h.uM j c
 . rw[av c,fS,fS,show j=l.length-1 by omega,h.OI];exact I
structure vn (tw tr:List af)(r:aK)(s:List (List aK)×List aK):Prop where
 len:s.1.length=s.2.length
 zJ:s.2.Nodup
 rc:∀p∈s.2,hd tw tr r p
 ik:∀j,j<s.2.length->qM tw tr r (s.1.getD j []) (s.2.getD j bG)/\(s.1.getD j []).length<=j+1
def iU(i:Nat)(s:List (List aK)×List aK)(x:aK):List (List aK)×List aK:=if x∈s.2 then s else(s.1++[s.1.getD i []++[x]],s.2++[x])
def oX(s t:List (List aK)×List aK):Prop:=s.2.length<=t.2.length/\∀j,j<s.2.length->t.1.getD j []=s.1.getD j []/\t.2.getD j bG=s.2.getD j bG
theorem abJ{r:aK}{s:List (List aK)×List aK}{i:Nat}(h:vn tw tr r s)(d:i<s.2.length)(I:x∈hI tw tr (s.2.getD i bG)):vn tw tr r (iU i s x)/\oX s (iU i s x)/\x∈(iU i s x).2:=by
 unfold iU;split
 . rename_i g;exact⟨h,⟨e6 _,λ_ _=>⟨rfl,rfl⟩⟩,g⟩
 . rename_i g;have ag:=h.len;refine⟨⟨by simp[ag],?_,λp al=>?_,λj f=>?_⟩,⟨by simp,λj f=>⟨?_,?_⟩⟩,by simp⟩
   . rw[DF];exact⟨h.zJ,by simp,λa l b k e=>g (by simp only[kH]at k;rw[<-k,<-e];exact l)⟩
   . rcases gY.1 al with al|al
     . exact h.rc p al
     . simp only[kH]at al;subst al;exact .step (h.rc _ (bM d bG)) I
   . simp only[dQ,x5]at f;rw[oh,oh];by_cases c:j<s.2.length
     . rw[fS,ai c];exact h.ik j c
     . rw[cV,fS,av c,fS];refine⟨(h.ik i d).1.step I,?_⟩;have:=(h.ik i d).2;simp only[dQ,x5];omega
   . rw[oh,fS]
   . rw[oh,ai f]
theorem oX.trans{s u:List (List aK)×List aK}(a:oX s t)(b:oX t u):oX s u:=
 ⟨hK a.1 b.1,λj c=>⟨(b.2 j (by have:=a.1;omega)).1.trans (a.2 j c).1,(b.2 j (by have:=a.1;omega)).2.trans (a.2 j c).2⟩⟩
theorem oX.mem{s:List (List aK)×List aK}(a:oX s t)(I:x∈s.2):x∈t.2:=by
 obtain⟨j,c,e⟩:=l1.1 I;have:=(a.2 j c).2;rw[show s.2.getD j bG=x by simpa[List.getD,df c]using e]at this;rw[<-this];exact bM (by have:=a.1;omega) _
theorem KB{tw tr:List af}{r:aK}{i:Nat}:∀(m:List aK) (s:List (List aK)×List aK),vn tw tr r s->i<s.2.length->(∀x∈m,x∈hI tw tr (s.2.getD i bG))->
 vn tw tr r (m.foldl (iU i) s)/\oX s (m.foldl (iU i) s)/\∀x∈m,x∈(m.foldl (iU i) s).2
 |[],s,h,b,d=>⟨h,⟨e6 _,λ_ _=>⟨rfl,rfl⟩⟩,by simp⟩
 |a::m,s,h,b,d=>by
  obtain⟨h1,c,e⟩:=abJ h b (d a (uX ..));obtain⟨g1,g2,g3⟩:=KB m (iU i s a) h1 (ix b c.1) (λx I=>by rw[(c.2 i b).2];exact d x (zR _ I));refine⟨g1,c.trans g2,λx I=>?_⟩;rcases fg.1 I with rfl|I
  . exact g2.mem e
  . exact g3 x I
theorem abp(i:Nat)(s:List (List aK)×List aK)(x:aK)(h:s.1.length=s.2.length):(iU i s x).1.length=(iU i s x).2.length/\(iU i s x).2.length<=s.2.length+1/\s.2.length<=(iU i s x).2.length/\(i<s.2.length->(iU i s x).1.getD i []=s.1.getD i []):=by
 unfold iU;split
 . exact⟨h,by omega,by omega,λ_=>rfl⟩
 . refine⟨by simp[h],by simp,by simp,λa=>?_⟩;rw[oh,fS]
theorem Mg{m:List aK}(e:m.length<=500)(i:Nat)(w r:cq):∀(n k:Nat) (s:List (List aK)×List aK),k+n=m.length->s.1.length=s.2.length->s.2.length+n<=1000->i<s.2.length->(s.1.getD i []).length<=1000->
 o' ((i:Int),m,(k:Int),w,r,s.1,s.2)=some ((i:Int),w,r,(m.drop k).foldl (iU i) s)
 |0,k,s,d,h1,c,a,b=>by rw[jJ (by omega),o',de];rfl
 |n+1,k,s,d,h1,c,a,b=>by
  have aF:k<m.length:=by omega
  obtain⟨f,q,t,g⟩:=abp i s (m.getD k bG) h1;have ih:=Mg e i w r n (k+1) (iU i s (m.getD k bG)) (by omega) f (by omega) (by omega) (by rw[g a];exact b);rw[xz aF,kK,<-ih,o',cg,ai (aU aF)];simp only[ey];rw[(ti _ (by omega)).2.1,bO (by omega)];simp only[bl,aw,cL,qA,bJ];unfold iU;by_cases h:m.getD k bG∈s.2
  . rw[ai h,ez h,c8]
  . have j:room 16 (s.2++[m.getD k bG]).length=true:=e2;have l:room 16 ([]++s.1.getD i []).length=true:=e2 (by omega) (by rw[j7];omega);have o:room 16 ([]++s.1.getD i []++[m.getD k bG]).length=true:=e2 (by omega) (by rw[j7,dQ,x5];omega);have p:∀x:List aK,room 24 (s.1++[x]).length=true:=λx=>e2;rw[av h,hJ h,ai (show(!false)=true from rfl),ai (aU aF),ai j,ai (aU (by omega)),ai (ez (by omega)),ai l,ai (aU aF),ai o,ai (p _)];rfl
section
variable {tw tr:List af}(HW:dA tw)(HR:dA tr)
include HW HR
theorem Mn{r:aK}(c:fK tw tr r):∀(k i:Nat) (s:List (List aK)×List aK),i+k=26->i<=s.2.length->vn tw tr r s->r∈s.2->(∀j,j<i->iR tw tr (s.2.getD j bG)=0/\∀q∈hI tw tr (s.2.getD j bG),q∈s.2)->
 (∃l e n,rV ((i:Int),fA tw r.bW,fA tr r.bZ,s.1,s.2)=some (.inl (l,n,0))/\qM tw tr r l e/\hd tw tr r e/\¬iR tw tr e=0/\l.length<=30)\/∀p,hd tw tr r p->iR tw tr p=0
 |0,i,s,u,h1,a,f,bh=>by
  have:=B0 HW.ew HR.ew a.zJ λp al=>lX HW HR c (a.rc p al);omega
 |k+1,i,s,u,h1,a,f,bh=>by
  have w:=B0 HW.ew HR.ew a.zJ λp al=>lX HW HR c (a.rc p al);have ag:=a.len;rw[rV];by_cases aF:i<s.2.length
  . have o:=bM aF bG;have al:=lX HW HR c (a.rc _ o);have y:=G0 HW HR al;have t:=a.ik i aF;rw[cg,ai (aU aF)];simp only[ey];rw[ai (ez aF),(F5 HW HR al.1 al.2).2];simp only[bl,aw];by_cases h0:iR tw tr (s.2.getD i bG)=0
    . have d:oQ tw tr (s.2.getD i bG).bW (s.2.getD i bG).bZ=0:=h0;rw[av (by rw[ez d];simp),(F7 HW HR al.1 al.2).2];simp only[aw];have:=Mg (m:=hI tw tr (s.2.getD i bG)) (by omega) i (fA tw r.bW) (fA tr r.bZ) _ 0 s (gS _) ag (by omega) aF (by omega);simp only[nx,gh]at this;rw[this];simp only[aw];rw[bO (by omega)];obtain⟨f1,f2,f3⟩:=KB (hI tw tr (s.2.getD i bG)) s a aF (λx I=>I);refine Mn c k (i+1) _ (by omega) (by have:=f2.1;omega) f1 (f2.mem f) (λj b=>?_);by_cases e:j=i
      . subst e;rw[(f2.2 j aF).2];exact⟨h0,f3⟩
      . rw[(f2.2 j (by omega)).2];exact⟨(bh j (by omega)).1,λq g=>f2.mem ((bh j (by omega)).2 q g)⟩
    . have d:¬oQ tw tr (s.2.getD i bG).bW (s.2.getD i bG).bZ=0:=h0;refine .inl ⟨s.1.getD i [],s.2.getD i bG,oQ tw tr (s.2.getD i bG).bW (s.2.getD i bG).bZ,?_,t.1,a.rc _ o,h0,by omega⟩;rw[ai (by rw[hJ d];rfl),ai (aU (by omega)),ai (ez (by omega))]
  . refine .inr λp al=>?_;have v:p∈s.2:=by
     induction al with
     |root=>exact f
     |step _ g ih=>
      obtain⟨j,b,e⟩:=l1.1 ih;exact(bh j (by omega)).2 _ (by simpa[List.getD,df b,e]using g)
    obtain⟨j,b,e⟩:=l1.1 v;have:=(bh j (by omega)).1
    rwa [show s.2.getD j bG=p by simpa[List.getD,df b]using e]at this
theorem KC{r e:aK}(c:fK tw tr r){l:List aK}(ag:l.length<=1000)(b:qM tw tr r l e):∀(k i:Nat),1<=i->i+k=l.length->hd tw tr r (l.getD (i-1) bG)->qj (l,(i:Int),tw,r.bW,tr,r.bZ)=some (.inr (l,tw,r.bW,tr,r.bZ))
 |0,i,h1,f,a=>by rw[qj,de]
 |k+1,i,h1,f,a=>by
  have aF:i<l.length:=by omega
  have I:=lX HW HR c a;have aN:dM .i64 (i:Int) 1=((i-1:Nat):Int):=by
   show IntKind.wrap .i64 _=_;rw[IntKind.wrap_i64];omega
  have g:=G0 HW HR I;have aV:l.getD i bG∈hI tw tr (l.getD (i-1) bG):=by
   have:=b.uM (i-1) (by omega)
   rwa [show i-1+1=i by omega]at this
  have c1:=ti (l:=hI tw tr (l.getD (i-1) bG)) (l.getD i bG) (by omega);rw[qj,cg,aN];simp only[bl,aw,aU aF,aU (show i-1<l.length by omega),bJ,ey];rw[Ky HW HR (r:=r) I];simp only[aw];have d:tn (sG (ty tw (l.getD (i-1) bG).bW) (ty tr (l.getD (i-1) bG).bZ),l.getD i bG)=_:=c1.2.2.1;rw[d,bO (by omega),ez aV];exact KC c ag b k (i+1) (by omega) (by omega) (.step a aV)
theorem aaR{r e:aK}(b:fK tw tr r){l:List aK}(ag:l.length<=1000)(a:qM tw tr r l e)(he:hd tw tr r e)(aV:¬iR tw tr e=0):AZ (fA tw r.bW,fA tr r.bZ,l)=some true:=by
 have h0:=a.pos;have dc:decide ((l.length:Int)=0)=false:=hJ (by omega);have d:aB 0 l.length=true:=aU (k:=0) h0;have I:=lX HW HR b he;rw[AZ];simp only[Cg HW b.1,Cg HR b.2,v7,bl,aw,ds,eL,bJ,eF,dc,d,l8];show(if !(dZ (l.getD 0 bG).bW r.bW&&(dZ (l.getD 0 bG).bZ r.bZ&&true)) then _ else _)=some true;rw[av (by rw[tb,ez a.aj];simp)];have a1:=KC HW HR b ag a (l.length-1) 1 (e6 1) (by omega) (by show hd tw tr r (l.getD 0 bG);rw[a.aj];exact .root);have c:qj (l,1,tw,r.bW,tr,r.bZ)=_:=a1;have aN:dM .i64 (l.length:Int) 1=((l.length-1:Nat):Int):=by
  show IntKind.wrap .i64 _=_;rw[IntKind.wrap_i64];omega
 rw[c];simp only[aw,aN,aU (show l.length-1<l.length by omega),bJ,ey,a.OI];rw[Kx HW HR (r:=r) I,hJ aV];rfl
theorem aeq{r:aK}(c:fK tw tr r):(∃L,wJ (fA tw r.bW,fA tr r.bZ)=some (L,0)/\L.length<=25/\(∀p,p∈L↔hd tw tr r p)/\∀p,hd tw tr r p->iR tw tr p=0)\/(wJ (fA tw r.bW,fA tr r.bZ)=some ([],12)/\¬∀p,hd tw tr r p->iR tw tr p=0):=by
 obtain⟨b,d,a⟩:=aa5 HW HR c;rw[wJ];simp only[d,bl,aw,cL,ds,bU,bN];cases b with
 |false=>exact .inr ⟨rfl,λh=>by cases a.2 h⟩
 |true=>
  obtain⟨L,h1,g,f⟩:=Ht HW HR c;obtain⟨L',g1,g2,g3⟩:=KA L.length 1 L (by omega) (by omega) (by omega);have e:pF (1,L)=some L':=g1;refine .inl ⟨L',?_,by omega,λp=>(g3 p).trans (f p),a.1 rfl⟩;simp only[h1,e,ds,bU,bN,aw]
theorem abq{r:aK}(c:fK tw tr r)(h:∀p,p∈L↔hd tw tr r p)(h0:∀p,hd tw tr r p->iR tw tr p=0):oP tw tr r L=true:=by
 unfold oP;simp only[cO,gg,fk];refine⟨(h r).2 .root,λx I=>?_⟩;have a:=(h x).1 I;unfold u2;simp only[cO,gg,fk];exact⟨Is.2 (lX HW HR c a),h0 x a,λq b=>(h q).2 (.step a b)⟩
theorem aaS{r:aK}(a:fK tw tr r)(ag:L.length<=1000)(h:∀p∈L,fK tw tr p):AQ (fA tw r.bW,fA tr r.bZ,(⟨true,L,[]⟩:hV))=some (oP tw tr r L):=by
 have b:AP (⟨true,L,[]⟩:hV)=some true:=by
  have:=Jy (l:=L) (by omega) (λp al=>⟨(h p al).1.1,(h p al).2.1⟩) L.length 0 (by omega);have c:pC (L,(L.length:Int),0)=some (.inr ()):=this;rw[AP];simp only[D3,D4,c,bl,aw,cL,bJ,dX];rfl
 rw[AQ];simp only[b,G1 HW HR a (l:=L) (by omega),bl,aw,ds,bU,bN,bJ]
end
theorem Wy(o:CG c):yw c=some true:=by
 rw[yw];rcases aed o with⟨w,r,e⟩|⟨tw,tr,r,e,HW,HR,a⟩
 . rw[e];simp only[bl,aw,P3];rfl
 . rw[e];simp only[bl,aw,P3,ds,eF];rw[c8];rcases aeq HW HR a with⟨L,h1,d,f,i⟩|⟨h1,d⟩
   . have k:=abq HW HR a f i;simp only[h1,G1 HW HR a (l:=L) (by omega),aaS HW HR a (L:=L) (by omega) (λp al=>lX HW HR a ((f p).1 al)),k,aw,cL,bJ,dX]
   . have c7:=Mn HW HR a 26 0 ([[r]],[r]) (by omega) (by simp) ⟨rfl,by simp,by simp;exact .root,λj b=>?_⟩ (by simp) (λj b=>by omega)
     . rcases c7 with⟨l,x,n,a1,a2,a3,a4,a5⟩|c7
       . have g:rV (0,fA tw r.bW,fA tr r.bZ,[[(⟨r.bW,r.bZ⟩:aK)]],[(⟨r.bW,r.bZ⟩:aK)])=some (.inl (l,n,0)):=a1;have m:Bc (fA tw r.bW,fA tr r.bZ)=some (l,n,0):=by
          rw[Bc];simp only[Jx HW HR a,g,bl,aw,cL,ds,bU,bN]
         have t:oP tw tr r l=false:=by
          cases s:oP tw tr r l with
          |false=>rfl
          |true=>exact absurd (abo s x a3).2 a4
         have q:decide ((12:Int)=0)=false:=rfl;simp only[h1,m,q,aaR HW HR a (l:=l) (by omega) a2 a3 a4,G1 HW HR a (l:=l) (by omega),t,aw,cL,bJ,dX,bU,bN,eL]
       . exact absurd c7 d
     . simp only[x5]at b;have:j=0:=(by omega);subst this;exact⟨⟨by simp,rfl,rfl,λj b=>by simp at b⟩,by simp⟩
theorem adW(h:aJ cu.D [.nm EP])(a:Ok cu [.nm EP] h):yw h=some true:=Wy (aaP (aeg a))
end
end Go.Proofs.YtkbmjabicjpmjaaGreatDoor
