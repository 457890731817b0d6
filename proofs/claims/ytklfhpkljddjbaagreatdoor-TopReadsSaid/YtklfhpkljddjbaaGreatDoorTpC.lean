/- The functions of the program as functions of Lean, that its code does what they say, and what they answer; part C. -/
import Derived.Test.YtklfhpkljddjbaaGreatDoorTpB

namespace Go.Proofs.YtklfhpkljddjbaaGreatDoor
set_option linter.all false
section
open Go Go.Proofs.YtklfhpkljddjbaaGreatDoor.Shv Go.Sort
set_option maxRecDepth 100000
def fe(a C:au):Prop:=a.length<=C.length/\∀c,c∈a->c∈C
theorem fe.refl(C:au):fe C C:=⟨eB _,λ_ h=>h⟩
theorem fe.trans{A B C:au}(h:fe A B)(k:fe B C):fe A C:=⟨fQ h.1 k.1,λc a=>k.2 c (h.2 c a)⟩
def gZ(C:au):Prop:=∀c,c∈C->db c
theorem gZ.dI{A B:au}(h:gZ B)(k:fe A B):gZ A:=λc a=>h c (k.2 c a)
variable{x y:aj}{v w:aa}{α c:Type}{t id b2 rt:Int}{odd pl z1 a1:Bool}{ts tr tw:List aj}{ms:List aU}{p z3 a3:ar}{j:Nat}{ks l2:List aa}{path b1:au}{o:Option aa}{f:ar->Option aa}{a:Option (aa×Bool×List aj×au×Int×au)}{aF:List fq}{L:List la}
section
variable {ts:List aj}
theorem lk{n:Int}(aN:1<=n/\n<=1000){C:au}(ct:gZ C)(ae:C.length<=1000)(odd:Bool):
 ∃r a,iJ (n,ts,C,odd)=some (r,ts,a,odd)/\0<=r/\r<n/\fe a C/\(r=0/\a=[]/\C=[]\/a.length+1=C.length):=by
 rw[iJ];cases C with
 |nil=>
  exact⟨0,[],rfl,by simp,by omega,fe.refl _,.inl ⟨rfl,rfl,rfl⟩⟩
 |cons c C=>
  have b:=ct c (.head _);unfold db at b;have h1:eH 1 (c::C).length (c::C).length=true:=mU (by simp) (by simp);have d:eZ (c::C) 1 (c::C).length=C:=by
   have:=sv (c::C) 1;grind
  rw[ad (wB (by omega)),ad h1,d];simp only[CI,tR];rw[kr ⟨by omega,by omega⟩,hc b.1];exact⟨_,C,rfl,lz _ (by omega),lx _ (by omega),⟨by simp,λx I=>.tail _ I⟩,.inr (by rfl)⟩
theorem Kv{C:au}(ct:gZ C)(ae:C.length<=1000)(odd:Bool):
 ∃o a,vg (ts,C,odd)=some (o,ts,a,odd)/\(odd=false->o=false)/\fe a C:=by
 rw[vg];cases odd with
 |false=>grind[fe.refl]
 |true=>
  obtain⟨r,a,h1,_,_,b,_⟩:=lk (n:=4) ⟨by simp,by simp⟩ ct ae _;rw[h1];exact⟨_,a,rfl,λh=>(by grind),b⟩
theorem adi(b:x.af.length<9223372036854775807)(hs:x.bo.length<9223372036854775807)(n:Int):eW (C4 (x,n)) ((∃m,m∈x.af/\m.ah=n)\/∃y,y∈x.bo/\y.ah=n):=by
 obtain⟨r,_,c,a⟩:=T9 n b;obtain⟨s,_,d,al⟩:=v' n hs;rw[C4,c];rw[d];refine⟨_,rfl,?_⟩;have h1:=ID al;have f:r.2=true↔∃m,m∈x.af/\m.ah=n:=by
  rcases DA a with⟨e,j,g,_,_,i⟩|⟨e,q⟩
  . grind
  grind[sS]
 grind
theorem Lp(b:x.af.length<9223372036854775807)(hs:x.bo.length<9223372036854775807)(c:∀m,m∈x.af->m.ah<=12)(d:∀y,y∈x.bo->y.ah<=6)(C:au)(odd:Bool):
 ∀(k:Nat) (n:Int),1<=n->n<=14->13<=n+k->∃cT,vd (n,ts,C,odd,x)=some (cT,ts,C,odd)/\1<=cT/\cT<=14/\(∀m,m∈x.af->m.ah≠cT)/\(∀y,y∈x.bo->y.ah≠cT)
 |k,n,h1,f,a=>by
  obtain⟨r,e,i⟩:=adi b hs n;rw[vd,e];cases r with
  |false=>grind
  |true=>
   have g:n<=12:=(by grind);rw[jX]
   match k,a with
   |0,a=>omega
   |k+1,a=>exact Lp b hs c d C _ k _ (by omega) (by omega) (by omega)
theorem IF(e:x.af.length<9223372036854775807)(hs:x.bo.length<9223372036854775807)(b:∀m,m∈x.af->m.ah<=12)(d:∀y,y∈x.bo->y.ah<=6){C:au}(ct:gZ C)(ae:C.length<=1000)(odd:Bool):
 ∃n a,qn (x,ts,C,odd)=some (n,ts,a,odd)/\cC n/\cD x.af n=none/\fe a C:=by
 obtain⟨r,a,h1,f,g,c,_⟩:=lk (ts:=ts) (n:=14) ⟨by simp,by simp⟩ ct ae odd;obtain⟨n,cI,i,j,k,_⟩:=Lp (ts:=ts) e hs b d a odd 12 (1+r) (by omega) (by omega) (by omega);refine⟨n,a,?_,⟨by omega,by omega⟩,?_,c⟩
 . grind[qn,xB]
 grind[cD]
theorem Ng{n:Int}{C:au}(ct:gZ C)(ae:C.length<=1000)(odd:Bool):∃d a,vh (n,ts,C,odd)=some (⟨n,d⟩,ts,a,odd)/\d.length<=3/\fe a C:=by
 obtain⟨r,a,h1,b,c,e,_⟩:=lk (n:=4) ⟨by simp,by simp⟩ ct ae _;obtain⟨k,rfl⟩:∃k:Nat,r=k:=⟨r.toNat,by omega⟩
 rw[vh];simp;rw[h1];simp only[ay];rw[ad (bu (by grind))];grind
theorem NG(odd:Bool):∀(k:Nat) (s:ar) (C:au),k<=100->gZ C->C.length<=1000->s.length+k<=100->∃s' a,s3 (s,(k:Int),ts,C,odd)=some (s',ts,a,odd)/\s'.length<=s.length+k/\fe a C
 |0,s,C,f,ct,ae,hs=>⟨s,C,by simp_all[s3],by simp,fe.refl _⟩
 |k+1,s,C,f,ct,ae,hs=>by
  obtain⟨r,a,h1,d,i,b,_⟩:=lk (n:=3) ⟨by simp,by simp⟩ ct ae _;have g:decide (0<((k+1:Nat):Int))=true:=by simp
  have e:dY .i64 (k+1:Nat) 1=k:=by grind[uI]
  rw[s3,ad g,h1];simp only[bg,ay];rw[Kq ⟨d,by omega⟩,ad (js (by grind)),e];obtain⟨s',c,a1,a2,a3⟩:=NG _ k (s++[UInt8.ofNat _]) a (by omega) (ct.dI b) (by grind) (by grind);exact⟨s',c,a1,by grind,a3.trans b⟩
theorem adj{most:Int}(f:0<=most/\most<=1000){C:au}(ct:gZ C)(ae:C.length<=1000)(odd:Bool):∃s a,Dj (most,ts,C,odd)=some (s,ts,a,odd)/\(s.length:Int)<=most/\s.length<=3/\fe a C:=by
 have em:aT .i64 (dU most 3) 1=min most 3+1:=by
  have:dU _ 3=min most 3:=rfl;grind[xB]
 obtain⟨r,a,h1,d,e,b,_⟩:=lk (ts:=ts) (n:=min most 3+1) ⟨by omega,by omega⟩ ct ae odd;obtain⟨k,rfl⟩:∃k:Nat,r=k:=⟨r.toNat,by omega⟩
 obtain⟨s,c,a1,a2,a3⟩:=NG (ts:=ts) odd k [] a (by omega) (ct.dI b) (by grind) (by grind);refine⟨s,c,?_,by grind,by grind,a3.trans b⟩;grind[Dj]
end
theorem RQ:∀a b:ar,Op.bytesLess a b=false->a≠b->Op.bytesLess b a=true
 |[],[],_,h=>absurd rfl h
 |[],y::b,h,_=>by grind[Op.bytesLess]
 |x::a,[],h,_=>by rfl
 |x::a,y::b,h,c=>by
  simp[Op.bytesLess]at h⊢;by_cases h1:x<y
  . grind
  . by_cases f:y<x
    . grind
    . have d:Op.bytesLess a b=false:=(by grind);have:=RQ a b d (λe=>c (by grind));grind
theorem zO{a b:aa}(c:cq a.bw)(d:cq b.bw):tc (a,b)=some (iE a b):=by
 grind[IJ,iE]
theorem ZT{a b:aa}(d:cq a.bw)(e:cq b.bw)(h:0<iE a b):iE b a<0:=by
 have h1:=zO d e;have c:=zO e d;rw[tc]at h1 c;by_cases f:a.Kind=b.Kind
 . rw[ao (by grind)]at h1 c;by_cases k1:a.Kind=1
   . have g:b.Kind=1:=(by omega);simp only[kf,gr]at h1 c;grind
   . rw[ao (by grind)]at h1;rw[ao (by grind)]at c;by_cases k2:a.Kind=2
     . have i:b.Kind=2:=(by omega);rw[ad (by grind),wu d,wu e]at h1;rw[ad (by grind),wu d,wu e]at c;simp only[bg,ay,kf]at h1 c;grind[Nx]
     . rw[ao (by grind)]at h1;rw[ao (by grind)]at c;by_cases k3:a.Kind=3
       . have j:b.Kind=3:=(by omega);rw[ad (by grind)]at h1;rw[ad (by grind)]at c;simp only[bg,ay,kf]at h1 c;by_cases ae:a.bH.length=b.bH.length
         . grind[RQ]
         grind
       . rw[ao (by grind)]at h1;rw[ao (by grind)]at c;by_cases k4:a.Kind=4
         . simp only[bg,ay,kf]at h1 c;grind
         grind
 grind
theorem Q7{key item:aa}(ae:v.aJ.length<1000000)(l:∀x,x∈v.aJ->cq x.bw)(n:cq key.bw)(a:Int)(b:Bool)(c:Int)(d:ar)(e:Int):∀(k i:Nat),i+k=v.aJ.length->
 (∀j,j<i->iE (v.aJ.getD j aH) key<0)->∃m:Nat,m<=v.aJ.length/\q4 ((i:Int),v,key,item,a,b,c,d,e)=some ((m:Int),v,key,item,a,b,c,d,e)/\(∀j,j<m->iE (v.aJ.getD j aH) key<0)/\(m<v.aJ.length->0<=iE (v.aJ.getD m aH) key)
 |0,i,p,g=>by
  have f:decide (i<(v.aJ.length:Int))=false:=by grind
  refine⟨i,by omega,?_,g,λh=>by omega⟩;rw[q4];simp only[bg,ay,f,gg,zE,cm,cJ,cE,jg,aa.bO]
 |k+1,i,p,g=>by
  have aE:i<v.aJ.length:=by omega
  have f:decide ((i:Int)<(v.aJ.length:Int))=true:=by grind
  have o:=zO (l _ (br aE aH)) n;rw[q4];simp only[bg,ay,f,ez,iA,cm,aa.bO,bx];rw[ad (bu aE),o];simp only[ay];by_cases r:iE (v.aJ.getD i aH) key<0
  . rw[ad (by grind),cg];refine Q7 ae l n a b c d e k _ (by omega) λj q=>?_;grind
  grind
theorem DL:∀(a b:List aa),da (a++b)=da a+da b
 |[],b=>by grind[hC]
 |x::a,b=>by rw[tS,iM,iM,DL a b];omega
theorem Nh{l:List α}{m:Nat}{x d:α}(a:m<=l.length)(i:Nat):(l.take m++(x::l.drop m)).getD i d=if i<m then l.getD i d else if i=m then x else l.getD (i-1) d:=by grind
theorem ad4{key item:aa}(ae:v.aJ.length<1000)(q:v.aq.length=v.aJ.length)(g:∀x,x∈v.aJ->cq x.bw)(k:cq key.bw)(d:km v.aJ):
 ∃ks b,C7 (v,key,item)=some ⟨v.Kind,v.b9,v.bw,v.bH,v.ah,ks,b,v.Rest⟩/\b.length=ks.length/\ks.length<=v.aJ.length+1/\km ks/\(∀x,x∈ks->x∈v.aJ\/x=key)/\(∀x,x∈b->x∈v.aq\/x=item)/\da ks+da b<=da v.aJ+da v.aq+wt key+wt item:=by
 obtain⟨m,c,s,B,C⟩:=Q7 (item:=item) (by omega) g k 0 false 0 [] 0 v.aJ.length 0 (by simp) (λj z=>by omega);have t:q4 (0,v,key,item,0,false,0,[],0)=_:=s;rw[C7];simp only[aa.bO];rw[t];simp only[bg,ay,aa.bO];have ins:∀(r:m<v.aJ.length->0<iE (v.aJ.getD m aH) key),∃ks b,(some (⟨v.Kind,v.b9,v.bw,v.bH,v.ah,v.aJ.take m++(key::v.aJ.drop m),v.aq.take m++(item::v.aq.drop m),v.Rest⟩:aa):Option aa)=some ⟨v.Kind,v.b9,v.bw,v.bH,v.ah,ks,b,v.Rest⟩/\b.length=ks.length/\ks.length<=v.aJ.length+1/\km ks/\(∀x,x∈ks->x∈v.aJ\/x=key)/\(∀x,x∈b->x∈v.aq\/x=item)/\da ks+da b<=da v.aJ+da v.aq+wt key+wt item:=by
  intro r;refine⟨_,_,rfl,by grind,by grind,λi y=>?_,λx I=>?_,λx I=>?_,?_⟩
  . rw[Nh c,Nh c];have A:(v.aJ.take m++(key::v.aJ.drop m)).length=v.aJ.length+1:=(by grind);by_cases h1:i+1<m
    . rw[eF,ad h1];exact d i (by omega)
    . by_cases u:i+1=m
      . grind
      . by_cases w:i=m
        . simp_all[ao,ad,ZT,br]
        . have:=d (i-1) (by omega);grind
  . grind
  . grind
  grind[DL,iM,List.take_append_drop]
 have s1:eH 0 (m:Int) v.aJ.length=true:=mU (a:=0) (by simp) c;have l:eH (m:Int) (v.aJ.length:Int) v.aJ.length=true:=mU c (by simp);have n:eH 0 (m:Int) v.aq.length=true:=mU (a:=0) (by simp) (by omega);have o:eH (m:Int) (v.aq.length:Int) v.aq.length=true:=mU (by omega) (by simp);by_cases f:m<v.aJ.length
 . have e:decide ((m:Int)<(v.aJ.length:Int))=true:=(by grind);have p:=zO (g _ (br f aH)) k;simp only[e,ez,iA,cm,ib,bx];rw[ad (bu f),p];simp only[ay];by_cases h0:iE (v.aJ.getD m aH) key=0
   . rw[ad (by grind)];refine⟨v.aJ,v.aq,by cases v;rfl,q,by simp,d,λx I=>.inl I,λx I=>.inl I,by omega⟩
   . rw[ao (by grind),ad s1,ad (dv (by simp) (by grind[eZ]))];rw[ad (dv (by simp) (by grind[eZ])),ad l,ad (dv (by simp) (by grind[eZ])),ad n,ad (dv (by simp) (by grind[eZ])),ad (dv (by simp) (by grind[eZ])),ad o,ad (dv (by simp) (by grind[eZ]))];rw[we,we,sv,sv];simp only[iP,kD,List.singleton_append];exact ins λ_=>by grind
 . have e:decide ((m:Int)<(v.aJ.length:Int))=false:=by simp;omega
   simp only[e,gg,zE,cm,cJ,cE,jg,ay];rw[ad s1,ad (dv (by omega) (by simp[eZ];omega))];rw[ad (dv (by omega) (by simp[eZ];omega)),ad l,ad (dv (by omega) (by simp[eZ];omega)),ad n,ad (dv (by omega) (by simp[eZ];omega)),ad (dv (by omega) (by simp[eZ];omega)),ad o,ad (dv (by omega) (by simp[eZ];omega))];rw[we,we,sv,sv];simp only[iP,kD,List.singleton_append];exact ins λh=>absurd h f
section
variable {ts:List aj}
mutual
theorem rL:∀(v:aa) (t:Int),cB ts true t v->cB ts false t v
 |⟨k,b,i,s,id,ks,e,r⟩,t,h=>by
  rw[cB]at h⊢;obtain⟨⟨h1,p,q,B⟩,bj⟩:=h;have w:=Jy e;have D:=Jy ks;have E:=Ro e;refine⟨⟨h1,p,q,λh=>by cases h⟩,?_⟩
  have A:(match cD (ts.getD t.toNat aM).af id with
   |some m=>r=[]/\e.length=1/\e1 ts true m.aB e
   |none=>(ts.getD t.toNat aM).Open=true/\true=false/\cC id/\e=[]/\∃d,r=[⟨id,d⟩])->(match cD (ts.getD t.toNat aM).af id with
   |some m=>r=[]/\e.length=1/\e1 ts false m.aB e
   |none=>(ts.getD t.toNat aM).Open=true/\false=false/\cC id/\e=[]/\∃d,r=[⟨id,d⟩]):=by
   split
   . rintro ⟨a,b,c⟩;exact⟨a,b,w _ c⟩
   . rintro ⟨_,b,_⟩;cases b
  rcases bj with h|h|h|⟨a1,a2,a3,a4,a5,f,j,o⟩|⟨a1,a2,a3,a4,a5,f,j,o⟩|⟨a1,a2,a3,a4,a5,f⟩|⟨a1,a2,a3,a4,a5,f,j,o,a9⟩|⟨a1,a2,a3,a4,a5,f,j,o,a9,x,y⟩|⟨a1,a2,a3,a4,a5,f,j,o,a9⟩
  . exact .inl h
  . grind
  . grind
  . grind
  . grind
  . grind
  . grind
  . grind
  grind
theorem Jy:∀(l:List aa) (t:Int),e1 ts true t l->e1 ts false t l
 |[],t,h=>by rw[e1];trivial
 |v::l,t,h=>by
  rw[e1]at h⊢;exact⟨rL v t h.1,Jy l t h.2⟩
theorem Ro:∀(l:List aa) (ms:List aU),iT ts true ms l->iT ts false ms l
 |[],[],h=>by rw[iT];trivial
 |[],m::ms,h=>by
  have:iT ts true (m::ms) []=False:=by rw[iT]<;>(intros;simp_all)
  grind
 |v::l,[],h=>by
  have:iT ts true [] (v::l)=False:=by rw[iT]<;>(intros;simp_all)
  grind
 |v::l,m::ms,h=>by
  rw[iT]at h⊢;exact⟨rL v m.aB h.1,Ro l ms h.2⟩
end
theorem ab3(h:cB ts true t v)(pl:Bool):cB ts pl t v:=by
 cases pl with
 |true=>exact h
 |false=>exact rL v t h
def oo(ts:List aj)(t:Nat):Nat:=if 7<=(ts.getD t aM).Kind then 0 else t+1
def fR:Nat->Nat
 |0=>20
 |n+1=>12*fR n+20
theorem Fw{a:Nat}:∀{b:Nat},a<=b->fR a<=fR b
 |0,h=>by have:a = 0:= by omega
          subst this;omega
 |b+1,h=>by
  by_cases e:a=b+1
  . grind
  . have:=Fw (a:=a) (b:=b) (by omega);simp only[fR];omega
theorem Fv(r:Nat):20<=fR r:=Fw (a:=0) (ia _)
theorem AB:fR 5=5429060:=rfl
def mq(ts:List aj)(odd:Bool)(C:au)(r:Nat)(t:Int):Prop:=∃v a,jS (t,ts,C,odd)=some (v,ts,a,odd)/\cB ts (!odd) t v/\cf v/\fe a C/\wt v+32574360*a.length<=fR r+32574360*C.length
theorem Pe {odd:Bool}{c r:Nat}(I:c<=1000){x:aj}(G:x.af.length<=12)(s:∀m,m∈x.af->(∀C,gZ C->C.length<=c->mq ts odd C r m.aB)/\(m.b8=true->cB ts true m.aB m.bU/\cf m.bU/\wt m.bU<=13))
 (a0:Int)(a1:Bool)(a2:Int)(a3:ar)(a4:Int)(v0:Int)(v1:Bool)(g:Int)(v3:ar)(v4:Int):
 ∀(k i:Nat) (C:au) (acc:List aa),i+k=x.af.length->gZ C->C.length<=c->acc.length=i->(∀j,j<i->cB ts (!odd) (x.af.getD j aG).aB (acc.getD j aH))->(∀y,y∈acc->cf y)->
 ∃a b,my ((i:Int),ts,C,odd,a0,a1,a2,a3,a4,x.Kind,x.Name,x.bT,x.bW,x.Max,x.bo,x.af,x.Key,x.aK,x.Open,v0,v1,g,v3,v4,acc)=some (ts,b,odd,a0,a1,a2,a3,a4,x.Kind,x.Name,x.bT,x.bW,x.Max,x.bo,x.af,x.Key,x.aK,x.Open,v0,v1,g,v3,v4,a)/\
  a.length=x.af.length/\(∀j,j<x.af.length->cB ts (!odd) (x.af.getD j aG).aB (a.getD j aH))/\(∀y,y∈a->cf y)/\fe b C/\da a+32574360*b.length<=da acc+k*fR r+32574360*C.length
 |0,i,C,acc,L,ct,ae,H,p,l=>⟨acc,C,by rw[my,ev],by omega,λj M=>p j (by omega),l,fe.refl _,by omega⟩
 |k+1,i,C,acc,L,ct,ae,H,p,l=>by
  have aE:i<x.af.length:=by omega
  obtain⟨t,K⟩:=s _ (br aE aG);have next:∀ (w:aa) (d:au),cB ts (!odd) (x.af.getD i aG).aB w->cf w->fe d C->wt w+32574360*d.length<=fR r+32574360*C.length->
   ∃a b,(if room 120 (acc++[w]).length then my (aT .i64 (i:Int) 1,ts,d,odd,a0,a1,a2,a3,a4,x.Kind,x.Name,x.bT,x.bW,x.Max,x.bo,x.af,x.Key,x.aK,x.Open,v0,v1,g,v3,v4,acc++[w])else none)=some (ts,b,odd,a0,a1,a2,a3,a4,x.Kind,x.Name,x.bT,x.bW,x.Max,x.bo,x.af,x.Key,x.aK,x.Open,v0,v1,g,v3,v4,a)/\
    a.length=x.af.length/\(∀j,j<x.af.length->cB ts (!odd) (x.af.getD j aG).aB (a.getD j aH))/\(∀y,y∈a->cf y)/\fe b C/\da a+32574360*b.length<=da acc+(k+1)*fR r+32574360*C.length:=by
   intro w d P N hs Q;rw[ad (dv),cg]
   obtain⟨a,b,b1,b2,B,D,E,F⟩:=Pe I G s a0 a1 a2 a3 a4 v0 v1 g v3 v4 k (i+1) d (acc++[w]) (by omega) (ct.dI hs) (by have:=hs.1;omega) (by simp;omega) (λj M=>by
    grind) (λy ag=>by
    rcases fH.1 ag with h|h
    . exact l y h
    . have:y=w:=by simpa using h
      subst this;exact N)
   refine⟨a,b,b1,b2,B,D,E.trans hs,?_⟩;rw[DL,iM,hC]at F;have e:(k+1)*fR r=k*fR r+fR r:=Nat.succ_mul _ _;omega
  rw[my,dc,ad (bu aE)];simp only[bg,ay,bx,aa.bO];cases J:(x.af.getD i aG).b8 with
  |true=>
   obtain⟨f1,f2,f3⟩:=K J;obtain⟨q,d,cI,R,S,f,dV⟩:=lk (ts:=ts) (n:=3) ⟨by omega,by omega⟩ ct (by omega) odd;rw[ad rfl,cI];simp only[ay,ib];by_cases h0:q=0
   . rw[ad (by simpa using h0)];have:=f.1;have:=Fv r;rw[ad (bu aE)];exact next _ d (ab3 f1 _) f2 f (by omega)
   . rw[ao (by simpa using h0),ad (bu aE)];obtain⟨w,o,u,v,z,A,O⟩:=t d (ct.dI f) (by have:=f.1;omega);rw[u];simp only[ay,aa.bO];have:=f.1;exact next w o v z (A.trans f) (by omega)
  |false=>
   rw[c2,c2,ad (bu aE)];obtain⟨w,o,u,v,z,A,O⟩:=t C ct ae;grind
theorem NH{c r:Nat}(o:c<=1000)(dA:∀C,gZ C->C.length<=c->mq ts odd C r x.aK)
 (a0:Int)(a1:Bool)(a2:Int)(a3:ar)(a4:Int)(v0:Int)(v1:Bool)(f:Int)(v3:ar)(v4:Int):
 ∀(k:Nat) (C:au) (acc:List aa),acc.length+k<=100->gZ C->C.length<=c->(∀y,y∈acc->cB ts (!odd) x.aK y/\cf y)->
 ∃a b,ql ((k:Int),ts,C,odd,a0,a1,a2,a3,a4,x.Kind,x.Name,x.bT,x.bW,x.Max,x.bo,x.af,x.Key,x.aK,x.Open,v0,v1,f,v3,v4,acc)=some (ts,b,odd,a0,a1,a2,a3,a4,v0,v1,f,v3,v4,a)/\
  a.length=acc.length+k/\(∀y,y∈a->cB ts (!odd) x.aK y/\cf y)/\fe b C/\da a+32574360*b.length<=da acc+k*fR r+32574360*C.length
 |0,C,acc,n,ct,ae,g=>⟨acc,C,by rw[ql,c2],by omega,g,fe.refl _,by omega⟩
 |k+1,C,acc,n,ct,ae,g=>by
  have p:decide ((0:Int)<((k+1:Nat):Int))=true:=by rw[e9];omega
  have e:dY .i64 ((k+1:Nat):Int) 1=(k:Int):=by rw[kY];omega
  obtain⟨w,i,q,s,t,d,u⟩:=dA C ct ae;rw[ql,ad p,q];simp only[bg,ay,aa.bO];rw[ad (dv),e];obtain⟨a,b,b1,b2,j,l,m⟩:=NH o dA a0 a1 a2 a3 a4 v0 v1 f v3 v4 k i (acc++[w]) (by simp;omega) (ct.dI d) (by have:=d.1;omega) (λy ag=>by grind);refine⟨a,b,b1,by simp at b2;omega,j,l.trans d,?_⟩;rw[DL,iM,hC]at m;grind
theorem Pf {odd:Bool}{c r:Nat}(F:c<=1000){x:aj}(bM:∀C,gZ C->C.length<=c->mq ts odd C r x.Key)(dA:∀C,gZ C->C.length<=c->mq ts odd C r x.aK)
 (a0:Int)(a1:Bool)(a2:Int)(a3:ar)(a4:Int)(v0:Int)(v1:Bool)(i:Int)(v3:ar)(v4:Int)(R:List cG):
 ∀(k:Nat) (C:au) (ks a:List aa),ks.length+k<=100->a.length=ks.length->gZ C->C.length<=c->(∀y,y∈ks->cB ts (!odd) x.Key y/\cf y)->(∀y,y∈a->cB ts (!odd) x.aK y/\cf y)->km ks->
 ∃b d f,qm ((k:Int),ts,C,odd,a0,a1,a2,a3,a4,x.Kind,x.Name,x.bT,x.bW,x.Max,x.bo,x.af,x.Key,x.aK,x.Open,v0,v1,i,v3,v4,ks,a,R)=some (ts,f,odd,a0,a1,a2,a3,a4,v0,v1,i,v3,v4,b,d,R)/\
  b.length<=ks.length+k/\d.length=b.length/\(∀y,y∈b->cB ts (!odd) x.Key y/\cf y)/\(∀y,y∈d->cB ts (!odd) x.aK y/\cf y)/\km b/\fe f C/\da b+da d+32574360*f.length<=da ks+da a+2*(k*fR r)+32574360*C.length
 |0,C,ks,a,E,m,ct,ae,l,al,j=>⟨ks,a,C,by rw[qm,c2],by omega,m,l,al,j,fe.refl _,by omega⟩
 |k+1,C,ks,a,E,m,ct,ae,l,al,j=>by
  have G:decide ((0:Int)<((k+1:Nat):Int))=true:=by rw[e9];omega
  have e:dY .i64 ((k+1:Nat):Int) 1=(k:Int):=by rw[kY];omega
  obtain⟨w,q,J,W,K,g,X⟩:=bM C ct ae;have U:=g.1;obtain⟨z,s,cI,L,M,n,dV⟩:=dA q (ct.dI g) (by omega);have V:=n.1;obtain⟨I,H,o,N,O,P,Q,p,S⟩:=ad4 (v:=⟨v0,v1,i,v3,v4,ks,a,R⟩) (key:=w) (item:=z) (by show ks.length<1000;omega) m (λy ag=>EA (l y ag).2) (EA K) j;simp only at o O Q p S;rw[qm,ad G,J];simp only[bg,ay,aa.bO];rw[cI];simp only[ay,aa.bO];rw[o];simp only[ay];rw[e]
  obtain⟨b,d,f,b1,b2,t,u,A,B,D,T⟩:=Pf F bM dA a0 a1 a2 a3 a4 v0 v1 i v3 v4 R k s I H (by omega) N ((ct.dI g).dI n) (by omega) (λy ag=>by
   grind) (λy ag=>by
   rcases p y ag with h|h
   . exact al y h
   . subst h;exact⟨L,M⟩) P
  refine⟨b,d,f,b1,by omega,t,u,A,B,D.trans (n.trans g),?_⟩;grind
theorem tq(hs:v.bH.length<=1000)(b:∀x,x∈v.aJ->cf x)(a:∀x,x∈v.aq->cf x)(h1:v.aJ.length<=1000)(f:v.aq.length<=1000)(g:v.Rest.length<=1000)(c:∀x,x∈v.Rest->x.Data.length<=1000/\cq x.ah)(cI:cq v.Kind)(d:cq v.bw)(e:cq v.ah):cf v:=
 .mk v (by grind[reachBytes]) (by grind[reachBytes]) (by grind[reachBytes]) (by grind[reachBytes]) b a (λx I=>by grind[reachBytes]) cI d e (λx I=>(c x I).2)
theorem sx{n:Int}(h:cC n):cq n:=by grind[cC,cq]
def ml(ts:List aj)(odd:Bool)(c r:Nat):Prop:=∀t:Nat,t<ts.length->oo ts t<=r->∀C,gZ C->C.length<=c->mq ts odd C r (t:Int)
theorem Pg(H:cX ts){t:Nat}(ht:t<ts.length):oo ts t<=5:=by
 unfold oo;have:=H.dV;grind
theorem mq.up{C:au}{r a:Nat}(h:mq ts odd C r t)(o:r<=a):mq ts odd C a t:=by
 obtain⟨v,c,h1,e,f,j,bj⟩:=h;exact⟨v,c,h1,e,f,j,by have:=Fw o;omega⟩
theorem acx(H:cX ts){c r:Nat}(bK:c<=60)(bh:∀aX,aX<c->ml ts odd aX 5)(bi:∀G,G<r->ml ts odd c G):ml ts odd c r:=by
 intro t ht bP C ct ae;have Y:=br ht aM;have bc:=H.V.F _ Y;have ee:=H.T _ Y;have bO:=H.M _ Y;obtain⟨aL,aN,aY⟩:=H.cN _ Y;have bs:=H.R t ht;have bq:=H.L _ Y;have ax:=H.V.U _ Y;have bn:=H.D _ Y;have eO:=H.W _ Y;have bz:oo ts t=if 7<=(ts.getD t aM).Kind then 0 else t+1:=rfl
 unfold mq;rw[jS,ad (bu ht)];simp only[bg,ay,bx];have S:=λv=>eI (ts:=ts) (!odd) (t:Int) v;simp only[bx]at S;generalize I:ts.getD t aM=x at*;have bF:=Fv r;have B:(0:Int)<=t/\(t:Int)<ts.length:=by omega
 have ak:∀(v:aa) (p:au),v.aJ=[]->v.aq=[]->v.Rest=[]->v.bH.length<=3->fe p C->wt v+32574360*p.length<=fR r+32574360*C.length:=λv p a b c d e=>by rw[NC a b c];have:=e.1;omega
 have below:∀g:au,g.length+1=C.length->∀u:Int,0<=u->u<ts.length->∀l,gZ l->l.length<=g.length->mq ts odd l 5 u:=λg h1 u bU bV l O P=>by
  obtain⟨k,rfl⟩:∃k:Nat,u=(k:Int):=⟨u.toNat,by omega⟩
  exact bh g.length (by omega) k (by omega) (Pg H (by omega)) l O P
 have bd:x.Kind=5\/x.Kind=6->1<=r/\∀m,m∈x.af->∀l,gZ l->l.length<=c->mq ts odd l (r-1) m.aB:=λbL=>by
  have bQ:oo ts t=t+1:=by rw[bz,a']
  refine⟨by omega,λm Q l O P=>?_⟩;obtain⟨a,b,bl⟩:=bs m Q;obtain⟨k,bw⟩:∃k:Nat,m.aB=(k:Int):=⟨m.aB.toNat,by omega⟩
  rw[bw]at bl⊢;refine bi (r-1) (by omega) k (by omega) ?_ l O P;have:oo ts k<=t:=by
   unfold oo;grind
  omega
 have aU:x.bo.length<9223372036854775807:=gq (mS ee.syms);have aP:x.af.length<9223372036854775807:=gq (mS ee.og);unfold gB at bc;rcases bc with⟨k,_⟩|⟨k,f1,f2,_⟩|⟨k,f1,f2,f3,f4,_⟩|⟨k,f1,f2,f3,f4,f5,_⟩|⟨k,f1,f2,f3,f4,f5,f6,_⟩|⟨k,f1,f2,f3,f4,f5,f6,_⟩|⟨k,f1,f2,f3,f4,_⟩|⟨k,f1,f2,f3,f4,_⟩|⟨k,_⟩
 . obtain⟨q,g,cI,ab,aj,f,dV⟩:=lk (ts:=ts) (n:=2) ⟨by omega,by omega⟩ ct (by omega) odd;rw[ad (by simp[k]),cI];refine⟨_,g,rfl,?_,pB rfl rfl rfl (by simp) (by simp[cq,k]) (by simp[cq]) (by simp[cq]),f,ak _ _ rfl rfl rfl (by simp) f⟩;grind
 . obtain⟨q,g,cI,ab,aj,f,dV⟩:=lk (ts:=ts) (n:=256) ⟨by omega,by omega⟩ ct (by omega) odd;have bI:=bq k;have aC:aT .i64 (dY .i64 x.bW x.bT) 1=x.bW-x.bT+1:=by rw[kY,jX]
   have bX:0<=q%(x.bW-x.bT+1):=lz _ (by omega);have bY:q%(x.bW-x.bT+1)<x.bW-x.bT+1:=lx _ (by omega);rw[ao (by simp[k]),ad (by simp[k]),cI];simp only[ay];rw[aC,ad (wB (by omega)),hc ab,jX];refine⟨_,g,rfl,?_,pB rfl rfl rfl (by simp) (by simp[cq,k]) (by simp only[cq];omega) (by simp[cq]),f,ak _ _ rfl rfl rfl (by simp) f⟩;grind
 . obtain⟨s,g,cI,ab,aj,f⟩:=adj (ts:=ts) (most:=x.Max) ⟨f4.1,by omega⟩ ct (by omega) odd;rw[ao (by simp[k]),ao (by simp[k]),ad (by simp[k]),cI];refine⟨_,g,rfl,?_,pB rfl rfl rfl (by show s.length<=1000;omega) (by simp[cq,k]) (by simp[cq]) (by simp[cq]),f,ak _ _ rfl rfl rfl aj f⟩;grind
 . have bS:=f5.1;have bR:=f5.2.2.2.2;have a8:=f5.2.1.2;obtain⟨q,g,cI,ab,aj,f,dV⟩:=lk (ts:=ts) (n:=(x.bo.length:Int)) ⟨by omega,by omega⟩ ct (by omega) odd;obtain⟨j,rfl⟩:∃j:Nat,q=(j:Int):=⟨q.toNat,by omega⟩
   have ap:=f.1;have K:j<x.bo.length:=(by omega);have ag:=br K fE;rw[ao (by simp[k]),ao (by simp[k]),ao (by simp[k]),ad (by simp[k]),cI];simp only[ay];rw[ad (bu K)];simp only[bx];cases bC:x.Open with
   |false=>
    rw[c2,c2];refine⟨_,g,rfl,?_,pB rfl rfl rfl (by simp) (by simp[cq,k]) (by simp[cq]) (sx (a8 _ ag)),f,ak _ _ rfl rfl rfl (by simp) f⟩;grind
   |true=>
    obtain⟨o,l,av,be,z⟩:=Kv (ts:=ts) (ct.dI f) (by omega) odd;have az:=z.1;rw[ad rfl,av];simp only[ay,ib];cases o with
    |false=>
     rw[c2];refine⟨_,l,rfl,?_,pB rfl rfl rfl (by simp) (by simp[cq,k]) (by simp[cq]) (sx (a8 _ ag)),(z.trans f),ak _ _ rfl rfl rfl (by simp) (z.trans f)⟩;grind
    |true=>
     have aS:odd=true:=(by grind);obtain⟨n,aF,aw,am,bf,N⟩:=IF (ts:=ts) aP aU aL aN ((ct.dI f).dI z) (by omega) odd;rw[ad rfl,aw];refine⟨_,aF,rfl,?_,pB rfl rfl rfl (by simp) (by simp[cq,k]) (by simp[cq]) (sx am),N.trans (z.trans f),ak _ _ rfl rfl rfl (by simp) (N.trans (z.trans f))⟩;grind
 . obtain⟨bD,aR⟩:=bd (.inl k);obtain⟨acc,g,b1,b2,J,E,A,an⟩:=Pe (ts:=ts) (odd:=odd) (c:=c) (r:=r-1) (by omega) (x:=x) aY (λm Q=>⟨aR m Q,λa0=>⟨bn m Q a0,ee.oR m Q,eO m Q a0⟩⟩) 0 false 0 [] 0 x.Kind false 0 [] 0 x.af.length 0 C [] (by omega) ct ae rfl (λj K=>by omega) (λy ag=>by cases ag);have bk:my (0,ts,C,odd,0,false,0,[],0,x.Kind,x.Name,x.bT,x.bW,x.Max,x.bo,x.af,x.Key,x.aK,x.Open,x.Kind,false,0,[],0,[])=_:=b1;have ap:=A.1;have bG:fR r=12*fR (r-1)+20:=by
    obtain⟨G,rfl⟩:∃G,r=G+1:=⟨r-1,by omega⟩
    rfl
   have bN:x.af.length*fR (r-1)<=12*fR (r-1):=eM _ aY;rw[hC]at an;have a6:iT ts (!odd) x.af acc:=h3.2 ⟨b2,J⟩;rw[ao (by simp[k]),ao (by simp[k]),ao (by simp[k]),ao (by simp[k]),ad (by simp[k]),bk];simp only[ay];obtain⟨o,l,av,be,z⟩:=Kv (ts:=ts) (ct.dI A) (by omega) odd;have az:=z.1;rw[av];simp only[ay];cases o with
   |false=>
    rw[c2];refine⟨_,l,rfl,?_,tq (by simp) (λy ag=>by cases ag) E (by simp) (by show acc.length<=1000;omega) (by simp) (λy ag=>by cases ag) (by simp[cq,k]) (by simp[cq]) (by simp[cq]),z.trans A,?_⟩
    . exact(S _).2 ⟨⟨B.1,B.2,rfl,λ_=>rfl⟩,.inr (.inr (.inr (.inr (.inl ⟨k,rfl,rfl,rfl,rfl,rfl,⟨.nil,λy ag=>by cases ag⟩,a6⟩))))⟩
    . rw[gY];simp only[hC,kE,rq,wG];omega
   |true=>
    have aS:odd=true:=(by grind);obtain⟨n,aF,aw,am,bf,N⟩:=IF (ts:=ts) aP aU aL aN ((ct.dI A).dI z) (by omega) odd;have bA:=N.1;obtain⟨d,aH,d1,d2,d3⟩:=Ng (ts:=ts) (n:=n) (((ct.dI A).dI z).dI N) (by omega) odd;have bB:=d3.1;rw[ad rfl,M5,aw];simp only[ay];rw[d1];simp only[ay];refine⟨_,aH,rfl,?_,tq (by simp) (λy ag=>by cases ag) E (by simp) (by show acc.length<=1000;omega) (by simp) (λy ag=>?_) (by simp[cq,k]) (by simp[cq]) (by simp[cq]),d3.trans (N.trans (z.trans A)),?_⟩
    . refine(S _).2 ⟨⟨B.1,B.2,rfl,λh=>by simp[aS]at h⟩,.inr (.inr (.inr (.inr (.inl ⟨k,rfl,rfl,rfl,rfl,rfl,⟨by simp,λy ag=>?_⟩,a6⟩))))⟩;grind
    . have:y=⟨n,d⟩:=(by simpa using ag);subst this;exact⟨by show d.length<=1000;omega,sx am⟩
    . rw[gY];simp only[hC,kE,jI,rq,zC,wG];omega
 . obtain⟨bD,aR⟩:=bd (.inr k);have bJ:0<x.af.length:=by
    rcases f6.2.1 with h|h
    . cases h
    . exact h
   have bE:fR (r-1)+20<=fR r:=by
    obtain⟨G,rfl⟩:∃G,r=G+1:=⟨r-1,by omega⟩
    have:=Fv G;show fR G+20<=12*fR G+20;omega
   have bj:∀ aE,fe aE C->∃ v p,(Option.bind (iJ ((x.af.length:Int),ts,aE,odd)) λal=>if aQ al.1 x.af.length then
    (jS ((x.af.getD al.1.toNat aG).aB,al.2.1,al.2.2.1,al.2.2.2)).bind λaD=>
     some ((⟨x.Kind,false,0,[],(x.af.getD al.1.toNat aG).ah,[],[aD.1],[]⟩:aa),aD.2.1,aD.2.2.1,aD.2.2.2)
    else none)=some (v,ts,p,odd)/\cB ts (!odd) (t:Int) v/\cf v/\fe p C/\wt v+32574360*p.length<=fR r+32574360*C.length:=by
    intro aE aA;have bM:=aA.1;obtain⟨q,g,cI,ab,aj,f,dV⟩:=lk (ts:=ts) (n:=(x.af.length:Int)) ⟨by omega,by omega⟩ (ct.dI aA) (by omega) odd;obtain⟨j,rfl⟩:∃j:Nat,q=(j:Int):=⟨q.toNat,by omega⟩
    have ap:=f.1;have K:j<x.af.length:=(by omega);have Q:=br K aG;obtain⟨w,l,aV,a9,ba,ar,bb⟩:=aR _ Q g ((ct.dI aA).dI f) (by omega);have az:=ar.1;rw[cI];simp only[ay];rw[ad (bu K)];simp only[bx];rw[aV];simp only[ay];have bp:=f6.2.2.1.2 _ Q;refine⟨_,l,rfl,?_,tq (by simp) (λy ag=>by cases ag) (λy ag=>?_) (by simp) (by simp) (by simp) (λy ag=>by cases ag) (by simp[cq,k]) (by simp[cq]) (sx bp),ar.trans (f.trans aA),?_⟩
    . refine(S _).2 ⟨⟨B.1,B.2,rfl,λ_=>rfl⟩,.inr (.inr (.inr (.inr (.inr (.inl ⟨k,rfl,rfl,rfl,rfl,?_⟩)))))⟩;have bv:cD x.af (x.af.getD j aG).ah=some (x.af.getD j aG):=by
       unfold cD;rw[Gx];refine⟨by simp,j,K,(ey K _).symm,λi aO=>?_⟩;have ai:=wJ.1 f6.2.2.1.1 i j (by omega) K aO;rw[ey K];simp;omega
      simp only[bv];refine⟨by first|rfl|trivial,by first|rfl|trivial,?_⟩;rw[cO];intro y ag;have:y=w:=(by simpa using ag);subst this;exact a9
    . have:y=w:=(by simpa using ag);subst this;exact ba
    . rw[gY];simp only[iM,hC,kE,rq,wG];omega
   rw[ao (by simp[k]),ao (by simp[k]),ao (by simp[k]),ao (by simp[k]),ao (by simp[k]),ad (by simp[k])];simp only[aa.bO];cases bC:x.Open with
   |false=>
    rw[c2,c2];obtain⟨v,p,a1,a2,a3,a4,a5⟩:=bj C (fe.refl _);grind
   |true=>
    obtain⟨o,l,av,be,z⟩:=Kv (ts:=ts) ct (by omega) odd;have az:=z.1;rw[ad rfl,av];simp only[ay,ib];cases o with
    |false=>grind
    |true=>
     have aS:odd=true:=(by grind);obtain⟨n,aF,aw,am,bf,N⟩:=IF (ts:=ts) aP aU aL aN (ct.dI z) (by omega) odd;have bA:=N.1;obtain⟨d,aH,d1,d2,d3⟩:=Ng (ts:=ts) (n:=n) ((ct.dI z).dI N) (by omega) odd;have bB:=d3.1;rw[ad rfl,aw];simp only[ay];rw[d1];simp only[ay];refine⟨_,aH,rfl,?_,tq (by simp) (λy ag=>by cases ag) (λy ag=>by cases ag) (by simp) (by simp) (by simp) (λy ag=>?_) (by simp[cq,k]) (by simp[cq]) (sx am),d3.trans (N.trans z),?_⟩
     . grind
     . have:y=⟨n,d⟩:=(by simpa using ag);subst this;exact⟨by show d.length<=1000;omega,sx am⟩
     . rw[gY];simp only[hC,kE,jI,rq,zC,wG];omega
 . have em:aT .i64 (dU x.Max 3) 1=min x.Max 3+1:=by
    have:dU x.Max 3=min x.Max 3:=rfl;rw[this,jX]
   have X:0<=x.aK/\x.aK<ts.length:=ax x.aK (by unfold fI;simp[k]);obtain⟨q,g,cI,ab,aj,f,dV⟩:=lk (ts:=ts) (n:=min x.Max 3+1) ⟨by omega,by omega⟩ ct (by omega) odd;obtain⟨j,rfl⟩:∃j:Nat,q=(j:Int):=⟨q.toNat,by omega⟩
   have ap:=f.1;have loop:∃acc p,ql ((j:Int),ts,g,odd,0,false,0,[],0,x.Kind,x.Name,x.bT,x.bW,x.Max,x.bo,x.af,x.Key,x.aK,x.Open,x.Kind,false,0,[],0,[])=some (ts,p,odd,0,false,0,[],0,x.Kind,false,0,[],0,acc)/\acc.length=j/\(∀y,y∈acc->cB ts (!odd) x.aK y/\cf y)/\fe p C/\10+da acc+32574360*p.length<=fR r+32574360*C.length:=by
    rcases dV with⟨h0,h1,bm⟩|h1
    . have:j=0:=(by omega);subst this;refine⟨[],g,by rw[ql,c2],rfl,λy ag=>(by cases ag),f,?_⟩;rw[hC];omega
    . obtain⟨acc,p,b1,b2,J,E,A⟩:=NH (ts:=ts) (odd:=odd) (c:=g.length) (r:=5) (by omega) (x:=x) (λl O P=>below g h1 x.aK X.1 X.2 l O P) 0 false 0 [] 0 x.Kind false 0 [] 0 j g [] (by simp;omega) (ct.dI f) (by omega) (λy ag=>by cases ag);refine⟨acc,p,b1,by simpa using b2,J,E.trans f,?_⟩;rw[hC,AB]at A;omega
   obtain⟨acc,p,b1,b2,J,E,A⟩:=loop;rw[ao (by simp[k]),ao (by simp[k]),ao (by simp[k]),ao (by simp[k]),ao (by simp[k]),ao (by simp[k]),ad (by simp[k]),em,cI];simp only[ay];rw[b1];simp only[ay];refine⟨_,p,rfl,?_,tq (by simp) (λy ag=>by cases ag) (λy ag=>(J y ag).2) (by simp) (by show acc.length<=1000;omega) (by simp) (λy ag=>by cases ag) (by simp[cq,k]) (by simp[cq]) (by simp[cq]),E,?_⟩
   . exact(S _).2 ⟨⟨B.1,B.2,rfl,λ_=>rfl⟩,.inr (.inr (.inr (.inr (.inr (.inr (.inl ⟨k,rfl,rfl,rfl,rfl,rfl,rfl,by show(acc.length:Int)<=x.Max;omega,cO.2 λy ag=>(J y ag).1⟩))))))⟩
   . rw[gY];simp only[hC,kE,rq,wG];omega
 . have em:aT .i64 (dU x.Max 3) 1=min x.Max 3+1:=by
    have:dU x.Max 3=min x.Max 3:=rfl;rw[this,jX]
   have X:0<=x.aK/\x.aK<ts.length:=ax x.aK (by unfold fI;simp[k]);have a7:0<=x.Key/\x.Key<ts.length:=ax x.Key (by unfold fI;simp[k]);obtain⟨q,g,cI,ab,aj,f,dV⟩:=lk (ts:=ts) (n:=min x.Max 3+1) ⟨by omega,by omega⟩ ct (by omega) odd;obtain⟨j,rfl⟩:∃j:Nat,q=(j:Int):=⟨q.toNat,by omega⟩
   have ap:=f.1;have aZ:km []:=λi aO=>by simp at aO
   have loop:∃ks Z p,qm ((j:Int),ts,g,odd,0,false,0,[],0,x.Kind,x.Name,x.bT,x.bW,x.Max,x.bo,x.af,x.Key,x.aK,x.Open,x.Kind,false,0,[],0,[],[],[])=some (ts,p,odd,0,false,0,[],0,x.Kind,false,0,[],0,ks,Z,[])/\ks.length<=j/\Z.length=ks.length/\(∀y,y∈ks->cB ts (!odd) x.Key y/\cf y)/\(∀y,y∈Z->cB ts (!odd) x.aK y/\cf y)/\km ks/\fe p C/\10+da ks+da Z+32574360*p.length<=fR r+32574360*C.length:=by
    rcases dV with⟨h0,h1,bm⟩|h1
    . have:j=0:=(by omega);subst this;refine⟨[],[],g,by rw[qm,c2],by simp,rfl,λy ag=>(by cases ag),λy ag=>(by cases ag),aZ,f,?_⟩;rw[hC];omega
    . obtain⟨ks,Z,p,b1,b2,J,E,A,an,aI,aW⟩:=Pf (ts:=ts) (odd:=odd) (c:=g.length) (r:=5) (by omega) (x:=x) (λl O P=>below g h1 x.Key a7.1 a7.2 l O P) (λl O P=>below g h1 x.aK X.1 X.2 l O P) 0 false 0 [] 0 x.Kind false 0 [] 0 [] j g [] [] (by simp;omega) rfl (ct.dI f) (by omega) (λy ag=>by cases ag) (λy ag=>by cases ag) aZ;refine⟨ks,Z,p,b1,by simpa using b2,J,E,A,an,aI.trans f,?_⟩;rw[hC,AB]at aW;omega
   obtain⟨ks,Z,p,b1,b2,J,E,A,an,aI,aW⟩:=loop;rw[ao (by simp[k]),ao (by simp[k]),ao (by simp[k]),ao (by simp[k]),ao (by simp[k]),ao (by simp[k]),ao (by simp[k]),ad (by simp[k]),em,cI];simp only[ay];rw[b1];simp only[ay];refine⟨_,p,rfl,?_,tq (by simp) (λy ag=>(E y ag).2) (λy ag=>(A y ag).2) (by show ks.length<=1000;omega) (by show Z.length<=1000;omega) (by simp) (λy ag=>by cases ag) (by simp[cq,k]) (by simp[cq]) (by simp[cq]),aI,?_⟩
   . exact(S _).2 ⟨⟨B.1,B.2,rfl,λ_=>rfl⟩,.inr (.inr (.inr (.inr (.inr (.inr (.inr (.inl ⟨k,rfl,rfl,rfl,rfl,rfl,by show(ks.length:Int)<=x.Max;omega,J,cO.2 λy ag=>(E y ag).1,cO.2 λy ag=>(A y ag).1,an⟩)))))))⟩
   . rw[gY];grind
 . have X:0<=x.aK/\x.aK<ts.length:=ax x.aK (by unfold fI;simp[k]);obtain⟨q,g,cI,ab,aj,f,dV⟩:=lk (ts:=ts) (n:=2) ⟨by omega,by omega⟩ ct (by omega) odd;have ap:=f.1;rw[ao (by simp[k]),ao (by simp[k]),ao (by simp[k]),ao (by simp[k]),ao (by simp[k]),ao (by simp[k]),ao (by simp[k]),ao (by simp[k]),cI];simp only[ay,aa.bO];by_cases h1:q=1
   . have bt:g.length+1=C.length:=(by omega);obtain⟨w,l,aV,a9,ba,ar,bb⟩:=below g bt x.aK X.1 X.2 g (ct.dI f) (by omega);have az:=ar.1;rw[AB]at bb;rw[ad (by simpa using h1),aV];simp only[ay];refine⟨_,l,rfl,?_,tq (by simp) (λy ag=>by cases ag) (λy ag=>?_) (by simp) (by simp) (by simp) (λy ag=>by cases ag) (by simp[cq,k]) (by simp[cq]) (by simp[cq]),ar.trans f,?_⟩
     . refine(S _).2 ⟨⟨B.1,B.2,rfl,λ_=>rfl⟩,.inr (.inr (.inr (.inr (.inr (.inr (.inr (.inr ⟨k,rfl,rfl,rfl,rfl,rfl,rfl,by simp,cO.2 λy ag=>?_⟩)))))))⟩;grind
     . grind
     . rw[gY];simp only[iM,hC,kE,rq,wG];omega
   . rw[ao (by simpa using h1)];refine⟨_,g,rfl,?_,pB rfl rfl rfl (by simp) (by simp[cq,k]) (by simp[cq]) (by simp[cq]),f,ak _ _ rfl rfl rfl (by simp) f⟩;exact(S _).2 ⟨⟨B.1,B.2,rfl,λ_=>rfl⟩,.inr (.inr (.inr (.inr (.inr (.inr (.inr (.inr ⟨k,rfl,rfl,rfl,rfl,rfl,rfl,by simp,cO.2 λy ag=>by cases ag⟩)))))))⟩
theorem ad5(H:cX ts):∀(c:Nat),c<=60->∀r,ml ts odd c r:=by
 intro c;induction c using Nat.strongRecOn with
 |ind c b=>
  intro a r;induction r using Nat.strongRecOn with
  |ind r d=>grind[acx]
theorem acy(H:cX ts)(ht:0<=t/\t<ts.length){C:au}(ct:gZ C)(ae:C.length<=reachBytes):∃v,C5 ((⟨ts⟩:bq),t,C)=some v/\cB ts true t v/\cf v/\wt v<=2147483648:=by
 obtain⟨j,rfl⟩:∃j:Nat,t=j:=⟨t.toNat,by omega⟩
 have d:dU 60 _=min 60 C.length:=Lz 60 _;have hs:gZ (C.take (min 60 C.length)):=λc a=>ct c (wL a);have b:(C.take (min 60 C.length)).length<=60:=by grind
 have e:eH 0 (min 60 C.length:Nat) C.length=true:=mU (by simp) (by omega);obtain⟨v,f,h1,g,i,k,bj⟩:=ad5 H 60 (by simp) 5 j (by omega) (Pg H (by omega)) _ hs b;rw[C5];simp only[bg,ay];rw[d,ad e,we,h1];grind[aa.bO,AB]
end
structure Uj (d:RK):Prop where
 s:um d.S
 t:db d.T
 c:gZ d.C
 l:d.C.length<=reachBytes
theorem Sz(ee:∀t,t∈ts->iY t)(hS:p7 ts)(c:cf v)(a:cB ts false t v):vo ((⟨ts⟩:bq),t,v)=some 0:=by
 have H:=hS.ie ee;obtain⟨v1,_⟩:=sV ee hS;obtain⟨⟨g1,g2,_⟩,_⟩:=(eI _ _ _).1 a;have d:=Ek ee H.K c t false a;have b:¬((bif decide (t<0)then true else decide (((⟨ts⟩:bq).Types.length:Int)<=t))=true):=by grind
 rw[vo,Ib];simp only[Lk,aa.bO];rw[v1];show((if(bif (t<0:Bool)then true else (((⟨ts⟩:bq).Types.length:Int)<=t:Bool)) then some (4:Int)else some 0)>>=_)=_;rw[ao b];show(sR ((⟨ts⟩:bq),t,v)>>=_)=_;rw[sR];simp only[aa.bO];rw[d];rfl
theorem Jp{l:List Fd}(ai:kp fx l=true)(aN:l.Pairwise (λa b=>a.id≠b.id)):(hl fx l).Pairwise (λa b=>a.id<b.id):=by
 have h1:=I0 adb l;have c:(hl fx l).Pairwise (λa b=>a.id≠b.id):=(mK fx l).symm.pairwise aN (λ{a b} h=>λe=>h e.symm);refine(h1.and c).imp λ{a b} h=>?_;have:=h.1;have:=h.2;simp only[fx,Gz]at*;omega
theorem JI{l:List aa}{r:List cG}(h:ha ms)(c:lp ms r):(fF ts ms l r).Pairwise (λa b=>a.id≠b.id):=by
 have:=yX (ts:=ts) (l:=l) h c;have key:∀q:List Fd,kp fx q=true->q.Pairwise (λa b=>a.id≠b.id):=by
  intro q;induction q with
  |nil=>intro _;exact .nil
  |cons a q ih=>
   intro h;simp only[kp,cK,e',l',fx,e9]at h;rw[h9];grind
 grind
def jB(f:Fd):c7:=⟨(f.id:Int),f.c,f.p⟩
theorem Mj:∀(l:List Fd) (last:Nat) (b:List c7),l.Pairwise (λa b=>a.id<b.id)->(∀f,f∈l->last<f.id/\f.id<=1000)->(l.flatMap Fd.text).length<=100000->b.length+l.length<=90000->
 hA ((last:Int),l.flatMap Fd.text,b)=some (.inr (b++l.map jB))
 |[],last,b,_,_,_,_=>by
  rw[hA,c2];simp
 |f::l,last,b,ai,e,ae,d=>by
  rw[h9]at ai;obtain⟨h1,i⟩:=e f (.head _);rw[hJ]at ae⊢;have ht:f.text=eS f.id f.c f.p:=rfl;rw[ht]at ae⊢;rw[YX h1 i ae (by simp at d;omega)];have j:(l.flatMap Fd.text).length<=100000:=by rw[dD]at ae;omega
  rw[Mj l f.id _ ai.2 (λg al=>⟨ai.1 g al,(e g (.tail _ al)).2⟩) j (by simp at d⊢;omega)];simp[jB]
theorem Zo{rest:ar}{b:List ar}(h:(c8 p++rest).length<=100000)(i:b.length<=90000):im (c8 p++rest,b)=im (rest,b++[p]):=by
 have f:p.length<=100000:=by simp only[c8,dD]at h;omega
 have d:c8 p++rest≠[]:=by
  intro c;have a:=dd List.length c;have:=nZ p.length;simp only[c8,dD,kE]at a;omega
 rw[im,ad (by simp only[zy,Gz];exact d),n9,T7 f];simp only[bg,ay];have e:¬((!(eu (some (p,rest))).2.2)=true):=by simp[eu]
 have g:room 16 (b++[(eu (some (p,rest))).1]).length=true:=dv;rw[ao e,ad g];rfl
theorem Ni:∀(l:List ar) (b:List ar),(l.flatMap c8).length<=100000->b.length+l.length<=90000->im (l.flatMap c8,b)=some (.inr (b++l))
 |[],b,_,_=>by
  rw[im,c2];simp
 |p::l,b,ae,a=>by
  rw[hJ]at ae⊢;rw[Zo ae (by simp at a;omega),Ni l _ (by rw[dD]at ae;omega) (by simp at a⊢;omega)];simp
def jL:List ar->List ar->List ar
 |k::ks,v::vs=>k::v::jL ks vs
 |_,_=>[]
theorem yO:∀a b,gv a b=(jL a b).flatMap c8
 |[],b=>by simp[gv,jL]
 |k::ks,[]=>by simp[gv,jL]
 |k::ks,v::vs=>by simp[gv,jL,yO ks vs]
theorem I5:∀a b:List ar,a.length=b.length->(jL a b).length=a.length+b.length
 |[],[],_=>rfl
 |k::ks,v::vs,h=>by
  simp only[jL,gS];have:=I5 ks vs (by simpa using h);omega
theorem Zp(p:ar):1<=(c8 p).length:=by
 have:=nZ p.length;unfold c8;rw[dD];omega
theorem T':∀l:List ar,l.length<=(l.flatMap c8).length
 |[]=>by simp
 |p::l=>by
  have:=T' l;have:=Zp p;grind
theorem ab4(f:Fd):1<=f.text.length:=by
 have:=nZ (2*f.id+(if f.c then 1 else 0));unfold Fd.text eS;rw[dD];omega
theorem Ua:∀l:List Fd,l.length<=(l.flatMap Fd.text).length
 |[]=>by simp
 |p::l=>by
  have:=Ua l;have:=ab4 p;grind
theorem Mk{f:Fd}:∀{l:List Fd},f∈l->f.p.length<=(l.flatMap Fd.text).length
 |g::l,h=>by
  rw[hJ,dD];rcases dK.1 h with rfl|h
  . have:f.p.length<=f.text.length:=by unfold Fd.text eS c8;simp only[dD];omega
    omega
  . have:=Mk h;omega
theorem NI{d:en}(h:WF bP ⟨.slice (.nm C0),d.eE⟩):um d:=by
 obtain⟨a,_,c⟩:=vL (t:= .nm C0) h;refine⟨a,λx I=>?_⟩;have e:=c x I;have b:∀{n:Int},WF bP ⟨.int .u8,n⟩->db n:=λ{n} h=>by
  cases h with
  |int k n h=>
   simp[Lit.wf,IntKind.min,IntKind.max,IntKind.bits,IntKind.signed]at h;unfold db;omega
 have g:=e ⟨.int .u8,x.Kind⟩ (.head _);have i:=e ⟨.int .u8,x.A⟩ (.tail _ (.head _));have j:=e ⟨.int .u8,x.B⟩ (.tail _ (.tail _ (.head _)));have l:=e ⟨.int .u8,x.C⟩ (.tail _ (.tail _ (.tail _ (.head _))));have m:=e ⟨.slice (.nm RB),x.cY⟩ (.tail _ (.tail _ (.tail _ (.tail _ (.head _)))));obtain⟨p,_,r⟩:=vL (t:= .nm RB) m;refine⟨b g,b i,b j,b l,λq o=>?_,p⟩;have f:=r q o;exact⟨b (f ⟨.int .u8,q.ah⟩ (.head _)),b (f ⟨.int .u8,q.aB⟩ (.tail _ (.head _))),b (f ⟨.int .u8,q.g'⟩ (.tail _ (.tail _ (.head _))))⟩
def iw(n:Nat):ar->Nat
 |[]=>n
 |c::s=>iw (n*256+c.toNat) s
theorem Qs:∀(s:ar) (n k:Nat),n<256^k->iw n s<256^(k+s.length)
 |[],n,k,h=>by simpa[iw]using h
 |c::s,n,k,h=>by
  have a:c.toNat<256:=CH c;have h1:n*256+c.toNat<256^(k+1):=by rw[Nat.pow_succ];omega
  have:=Qs s _ (k+1) h1;simp only[iw,gS];grind
theorem agB{n:Nat}(h:n<72057594037927936):ni .u64 (n:Int) 8=((n*256:Nat):Int):=by
 unfold ni;have e:((2:Int)^min (8:Int).toNat IntKind.u64.bits)=256:=by decide
 rw[e];have:(n:Int)*256=((n*256:Nat):Int):=by push_cast;rfl
 rw[this];exact me (by omega) (by omega)
theorem acz{a b:Nat}(c:a<72057594037927936)(d:b<256):rD .u64 ((a*256:Nat):Int) (b:Int)=((a*256+b:Nat):Int):=by
 have e:(BitVec.ofInt 64 ((a*256:Nat):Int) ||| BitVec.ofInt 64 (b:Int)).toNat=a*256+b:=by
  rw[wN,wN,BitVec.toNat_or,zx,zx,Ia,rv (by omega),rv (by omega)];have h:=Nat.shiftLeft_add_eq_or_of_lt (show b<2^8 by omega) a;rw[Nat.shiftLeft_eq]at h;exact h.symm
 show IntKind.u64.wrap (((BitVec.ofInt 64 ((a*256:Nat):Int) ||| BitVec.ofInt 64 (b:Int)).toNat:Nat):Int)=_;rw[e];exact me (by omega) (by omega)
theorem Jq{s:ar}(hs:s.length<=8):∀(k i n:Nat),i+k=s.length->n<256^i->o8 (s,(n:Int),(s.length:Int),(i:Int))=some ((iw n (s.drop i):Nat):Int)
 |0,i,n,c,aN=>by
  rw[o8,ev,hI (by omega:s.length<=i)];rfl
 |k+1,i,n,c,aN=>by
  have aE:i<s.length:=by omega
  have b:=JB s i;have a:n<72057594037927936:=by
   have:(256:Nat)^i<=256^7:=Cz (by omega) (by omega);omega
  rw[o8,dc,ad (bu aE),agB a,yF,j8,acz a b,cg,Jq hs k (i+1) _ (by omega) (by rw[Nat.pow_succ];omega),hQ aE 0];rfl
def hW(s:ar):Option Nat:=if s.head?=some 0\/8<s.length then none else some (iw 0 s)
theorem Kw{s:ar}{n:Nat}(h:hW s=some n):n<18446744073709551616:=by
 unfold hW at h;split at h
 . cases h
 . rename_i ab;cases h;have:=Qs s 0 0 (by simp);have a:(256:Nat)^(0+s.length)<=256^8:=Cz (by omega) (by omega);omega
theorem Ml{s:ar}(h:s≠[]):(h4 s 0=0)↔s.head?=some 0:=by
 cases s with
 |nil=>exact absurd rfl h
 |cons c s=>
  have:h4 (c::s) 0=(c.toNat:Int):=yF (c::s) 0;rw[this];simp only[List.head?_cons,dy];constructor
  . intro h;exact UInt8.toNat_inj.1 (by simpa using h)
  simp_all
theorem acA(s:ar):∃r,yj s=some r/\(r.2=0->∃n,hW s=some n/\r.1=(n:Int))/\(r.2≠0->hW s=none):=by
 rw[yj];simp only[bg,ay];by_cases h0:s=[]
 . subst h0;have aC:o8 ([],0,((([]:ar)).length:Int),0)=some ((iw 0 []:Nat):Int):=Jq (s:=[]) (by simp) 0 0 0 rfl (by simp);refine⟨(((iw 0 []:Nat):Int),0),?_,λ_=>⟨0,rfl,rfl⟩,λh=>absurd rfl h⟩;grind
 . have e:0<s.length:=tQ.2 h0;have d:aQ 0 s.length=true:=bu (k:=0) e;have c:(!(decide (s=[])))=true:=(by simp[h0]);rw[c,d];simp only[wF,cm,ib];by_cases a:h4 s 0=0
   . rw[ad (by simp[a])];refine⟨_,rfl,λh=>(by cases h),λ_=>?_⟩;unfold hW;rw[ad (.inl ((Ml h0).1 a))]
   . rw[ao (by simp[a])];by_cases b:8<s.length
     . rw[dc];refine⟨_,rfl,λh=>(by cases h),λ_=>?_⟩;unfold hW;rw[ad (.inr b)]
     . have aC:o8 (s,0,(s.length:Int),0)=some ((iw 0 s:Nat):Int):=Jq (by omega) s.length 0 0 (by omega) (by simp);rw[ev,aC];refine⟨_,rfl,λ_=>⟨iw 0 s,?_,rfl⟩,λh=>absurd rfl h⟩;unfold hW;rw[ao]
       rintro (h|h)
       . exact a ((Ml h0).2 h)
       omega
def jl(n:Nat):Int:=if n%2=0 then((n/2:Nat):Int)else -((n/2:Nat):Int)-1
theorem NJ{n:Int}(h:cq n):jl (gA n).toNat=n:=by
 unfold jl gA cq at*;omega
theorem aem{n:Nat}(h:n<18446744073709551616):AN .u64 (n:Int) 1=((n%2:Nat):Int):=by
 have e:(BitVec.ofInt 64 (n:Int) &&& BitVec.ofInt 64 (1:Int)).toNat=n%2:=by grind
 show IntKind.u64.wrap (((BitVec.ofInt 64 (n:Int) &&& BitVec.ofInt 64 (1:Int)).toNat:Nat):Int)=_;rw[e];exact me (by omega) (by omega)
theorem agC{n:Nat}:lC .u64 (n:Int) 1=((n/2:Nat):Int):=by
 unfold lC;have:((2:Int)^min (1:Int).toNat IntKind.u64.bits)=2:=by decide
 grind
theorem ZU{a:Nat}(h:a<9223372036854775808):ud .i64 (a:Int) 0=(a:Int):=by
 have e:(BitVec.ofInt 64 (a:Int) ^^^ BitVec.ofInt 64 (0:Int)).toNat=a:=by grind
 show IntKind.i64.wrap (((BitVec.ofInt 64 (a:Int) ^^^ BitVec.ofInt 64 (0:Int)).toNat:Nat):Int)=_;rw[e,IntKind.wrap_i64];omega
theorem ZV{a:Nat}(h:a<9223372036854775808):ud .i64 (a:Int) (-1)= -(a:Int)-1:=by
 have e:(BitVec.ofInt 64 (a:Int) ^^^ BitVec.ofInt 64 (-1:Int)).toNat=18446744073709551615-a:=by
  have h1:BitVec.ofInt 64 (-1:Int)=BitVec.allOnes 64:=by decide
  rw[h1,wN,BitVec.xor_allOnes,BitVec.toNat_not,zx,Ia,rv (by omega)]
 all_goals (try omega)
 show IntKind.i64.wrap (((BitVec.ofInt 64 (a:Int) ^^^ BitVec.ofInt 64 (-1:Int)).toNat:Nat):Int)=_;rw[e,IntKind.wrap_i64];omega
theorem ad6{n:Nat}(h:n<18446744073709551616):C6 (n:Int)=some (jl n):=by
 rw[C6,agC,aem h,nj,nj,kY];unfold jl;by_cases h0:n%2=0
 . rw[ad h0,h0];have:(0:Int)-((0:Nat):Int)=0:=rfl;rw[this,ZU (by omega)]
 . have h1:n%2=1:=(by omega);rw[ao h0,h1];have:(0:Int)-((1:Nat):Int)= -1:=rfl;rw[this,ZV (by omega)]
def iD(p:ar):Option (List ar):=match nS p with
 |some (l,e)=>if e=0 then some l else none
 |none=>none
def jm(p:ar):Option (List c7):=match pd p with
 |some (l,e)=>if e=0 then some l else none
 |none=>none
def kL(p:ar):Option (Int×ar):=match pw p with
 |some (id,q,e)=>if e=0 then some (id,q)else none
 |none=>none
theorem Mm:∀(n:Nat) (s:ar) (b l:List ar),s.length<=n->s.length+b.length<=100000->im (s,b)=some (.inr l)->∀q,q∈l->q∈b\/q.length<=s.length
 |n,s,b,l,aN,f,h=>by
  rw[im]at h;by_cases h0:s=[]
  . grind
  . rw[ad (by simp[h0]),n9]at h;simp only[bg,ay]at h;cases a:jK s with
    |none=>
     rw[a]at h;simp[eu]at h
    |some r=>
     obtain⟨x,rest⟩:=r;rw[a]at h;have ae:=qQ a;have c:¬((!(eu (some (x,rest))).2.2)=true):=(by simp[eu]);have e:room 16 (b++[(eu (some (x,rest))).1]).length=true:=dv;rw[ao c,ad e]at h;intro q d
     match n,aN with
     |0,aN=>omega
     |n+1,aN=>
      have:=Mm n rest _ l (by omega) (by simp;omega) h q d;rcases this with h|h
      . rcases fH.1 h with h|h
        . exact .inl h
        . right;have:q=x:=(by simpa[eu]using h);grind
      omega
theorem Lq:∀(n:Nat) (s:ar) (last:Nat) (b l:List c7),s.length<=n->s.length+b.length<=100000->hA ((last:Int),s,b)=some (.inr l)->
 ∃c,l=b++c/\(∀f,f∈c->f.Data.length<=s.length/\(last:Int)<f.ah/\f.ah<=1000)/\c.Pairwise (λa b=>a.ah<b.ah)
 |n,s,last,b,l,aN,u,h=>by
  rw[hA]at h;by_cases h0:s=[]
  . simp_all
  . rw[ad (by simp[h0])]at h;rcases ou s with⟨e,he,al⟩|⟨m,k,al,w,i,j⟩
    . rw[qV he al]at h;simp at h
    . rw[n5 al i]at h;simp only[bg,ay,Ae j]at h;by_cases v:((m/2:Nat):Int)<=(last:Int)\/1000<((m/2:Nat):Int)
      . grind
      . have:¬((bif bif (!true)then true else decide (((m/2:Nat):Int)<=(last:Int))then true else decide (1000<((m/2:Nat):Int)))=true):=(by grind);rw[ao this,n9 (by rw[l9];omega)]at h;simp only[ay]at h;cases d:jK (s.drop k)with
        |none=>
         rw[d]at h;simp[eu]at h
        |some r=>
         obtain⟨x,rest⟩:=r;rw[d]at h;have ae:=qQ d;rw[l9]at ae;have o:¬((!(eu (some (x,rest))).2.2)=true):=(by simp[eu]);have q:b7 .i64 ((m/2:Nat):Int)=((m/2:Nat):Int):=nj;rw[ao o,q]at h;have p:room 32 (b++[(⟨((m/2:Nat):Int),decide (cd (m:Int) 2=1),(eu (some (x,rest))).1⟩:c7)]).length=true:=dv;rw[ad p]at h
         match n,aN with
         |0,aN=>omega
         |n+1,aN=>
          obtain⟨c,e,h1,t⟩:=Lq n rest (m/2) _ l (by omega) (by simp;omega) h;refine⟨⟨((m/2:Nat):Int),decide (cd (m:Int) 2=1),(eu (some (x,rest))).1⟩::c,by rw[e];simp,λf g=>?_,?_⟩
          . rcases dK.1 g with rfl|g
            . refine⟨by show x.length<=_;omega,by show(last:Int)<((m/2:Nat):Int);omega,by show((m/2:Nat):Int)<=1000;omega⟩
            grind
          grind
theorem vN(ai:p.length<=90000):∃o,nS p=some o/\(o.2=0->iD p=some o.1/\(∀q,q∈o.1->q.length<=p.length)/\o.1.length<=p.length)/\(o.2≠0->iD p=none):=by
 obtain⟨o,h1,a⟩:=aaJ ai;refine⟨o,h1,λh0=>⟨?_,?_,a⟩,λh0=>?_⟩
 . unfold iD;rw[h1];grind
 . obtain⟨c,a1,_⟩:=Jm p.length p [] (by omega) (by simp;omega);rw[nS,a1]at h1;cases c with
   |inl e=>grind
   |inr l=>
    have:o=(l,0):=(oh h1).symm;subst this;intro q b;rcases Mm p.length p [] l (by omega) (by simp;omega) a1 q b with h|h
    . cases h
    . exact h
 . unfold iD;rw[h1];grind
theorem I6(ai:p.length<=90000):∃o,pd p=some o/\(o.2=0->jm p=some o.1/\(∀f,f∈o.1->f.Data.length<=p.length/\cC f.ah)/\o.1.Pairwise (λa b=>a.ah<b.ah)/\o.1.length<=p.length)/\(o.2≠0->jm p=none):=by
 obtain⟨o,h1,i⟩:=aad ai;obtain⟨d,a1,_⟩:=L9 p.length p 0 [] (by omega) (by simp;omega);have key:o.2=0->(∀f,f∈o.1->f.Data.length<=p.length/\cC f.ah)/\o.1.Pairwise (λa b=>a.ah<b.ah):=by
  intro h0;have c:=h1;have g:hA (0,p,[])=some d:=a1;rw[pd,g]at c;cases d with
  |inl e=>
   have:o=([],e):=(oh c).symm;simp_all
  |inr l=>
   have:o=(l,0):=(oh c).symm;subst this;obtain⟨k,e,b1,b2⟩:=Lq p.length p 0 [] l (by omega) (by simp;omega) a1;have:l=k:=(by simpa using e);subst this;exact⟨λf j=>by have:=b1 f j;exact⟨this.1,by omega,this.2.2⟩,b2⟩
 refine⟨o,h1,λh0=>⟨?_,(key h0).1,(key h0).2,i⟩,λh0=>?_⟩
 . unfold jm;rw[h1];grind
 . unfold jm;rw[h1];grind
theorem Ph(p:ar):∃o,pw p=some o/\(o.2.2=0->kL p=some (o.1,o.2.1)/\o.2.1.length<=p.length/\cC o.1)/\(o.2.2≠0->kL p=none):=by
 obtain⟨o,h1⟩:=adA p;have key:o.2.2=0->o.2.1.length<=p.length/\cC o.1:=by
  intro h0;have a:=h1;rw[pw]at a;rcases ou p with⟨e,he,al⟩|⟨m,k,al,f,c,g⟩
  . rw[qV he al]at a;grind
  . rw[n5 al c]at a;simp only[bg,ay]at a;by_cases d:(m:Int)<1\/1000<(m:Int)
    . grind
    . have b:¬((bif bif (!true)then true else decide ((m:Int)<1)then true else decide (1000<(m:Int)))=true):=(by grind);rw[ao b,nj]at a;have:o=((m:Int),p.drop k,0):=(oh a).symm;subst this;exact⟨by show(p.drop k).length<=_;rw[l9];omega,by omega,by show(m:Int)<=1000;omega⟩
 refine⟨o,h1,λh0=>⟨?_,(key h0).1,(key h0).2⟩,λh0=>?_⟩
 . unfold kL;rw[h1];grind
 . unfold kL;rw[h1];grind
theorem JM:∀(s:ar) (n:Nat) (b:UInt8),iw n (s++[b])=iw n s*256+b.toNat
 |[],n,b=>by rfl
 |a::s,n,b=>by
  exact JM s _ b
theorem acB(n:Nat):iw 0 (fk n)=n:=by
 induction n using Nat.strongRecOn with
 |ind n ih=>
  rw[fk];split
  . rename_i h;subst h;rfl
  grind[JM,nT]
theorem ZW:∀(n:Nat),¬(fk n).head?=some 0:=by
 intro n;induction n using Nat.strongRecOn with
 |ind n ih=>
  rw[fk];split
  . simp
  . by_cases b:n<256
    . have:n/256=0:=(by omega);rw[this,fk,ad rfl];simp[List.head?_cons,dy];intro a;have c:=dd UInt8.toNat a;grind[nT]
    . have d:fk (n/256)≠[]:=by rw[fk,a'];simp
      cases e:fk _<;>grind
theorem El{n:Nat}(h:n<18446744073709551616):hW (fk n)=some n:=by
 simp_all[hW,ZW,vM,acB]
theorem acC{a b:List cG}(c:a.Pairwise (λx y=>x.ah<y.ah))(d:b.Pairwise (λx y=>x.ah<y.ah))(h:∀x,x∈a↔x∈b):a=b:=by
 have f:a.Nodup:=c.imp λ{x y} h e=>by grind
 have g:b.Nodup:=d.imp λ{x y} h e=>by grind
 grind[List.perm_ext_iff_of_nodup,List.Perm.eq_of_pairwise]
theorem ab5{l m:List aa}(ae:l.length=m.length)(h:∀i,i<l.length->l.getD i aH=m.getD i aH):l=m:=by
 grind[List.ext_getElem]
theorem Yo(p:ar):p.length<=(c8 p).length:=by grind[c8]
theorem D5:∀{l:List ar},p∈l->p.length<=(l.flatMap c8).length
 |q::l,h=>by
  rw[hJ,dD];rcases dK.1 h with rfl|h
  . grind[Yo]
  . have:=D5 h;omega
theorem DM{ts:List aj}:∀{ms:List aU} {l:List aa} {x:Fd},x∈df ts ms l->∃j,j<ms.length/\j<l.length/\c6 (ms.getD j aG) (l.getD j aH)=false/\x=⟨(ms.getD j aG).ah.toNat,(ms.getD j aG).cu,bE ts (ms.getD j aG).aB (l.getD j aH)⟩
 |[],l,x,h=>by
  grind[df]
 |m::ms,[],x,h=>by
  grind[df]
 |m::ms,v::l,x,h=>by
  rw[df]at h;split at h
  . obtain⟨j,h1,a,b,c⟩:=DM h;exact⟨j+1,by grind,by grind,by grind,by grind⟩
  . rcases dK.1 h with rfl|h
    . exact⟨0,by simp,by simp,by grind,rfl⟩
    . obtain⟨j,h1,a,b,c⟩:=DM h;exact⟨j+1,by grind,by grind,by grind,by grind⟩
theorem pC(h:ha ms){a b:aU}(c:a∈ms)(d:b∈ms)(e:a.ah=b.ah):a=b:=by
 obtain⟨i,f,rfl⟩:=gQ c;obtain⟨j,g,rfl⟩:=gQ d;have key:=wJ.1 h.1;grind
theorem ki{m:aU}(h:cD ms id=some m):m∈ms/\m.ah=id:=
 ⟨CP h,by simpa using List.find?_some h⟩
theorem Em(c:ha ms){m:aU}(h:m∈ms):cD ms m.ah=some m:=by
 cases a:cD ms _ with
 |none=>grind[sS]
 |some q=>
  obtain⟨h1,b⟩:=ki a;grind[pC]
theorem mI{ts:List aj}{t:Int}:∀{l:List aa} {x:aa},x∈l->ej ts t x<=eU ts t l
 |v::l,x,h=>by
  rw[eU];rcases dK.1 h with rfl|h
  . omega
  . have:=mI (ts:=ts) (t:=t) h;omega
theorem EG{ts:List aj}:∀{ms:List aU} {l:List aa} {j:Nat},j<ms.length->j<l.length->c6 (ms.getD j aG) (l.getD j aH)=false->ej ts (ms.getD j aG).aB (l.getD j aH)<=hV ts ms l
 |m::ms,v::l,0,_,_,a=>by
  simp at a⊢;rw[hV,ao (by grind)];omega
 |m::ms,v::l,j+1,h1,b,a=>by
  simp at a⊢;have:=EG (ts:=ts) (by grind) (by grind) a;grind[hV]
theorem D'{l:List ar}(h:(l.flatMap c8).length<=90000):iD (l.flatMap c8)=some l:=by
 grind[T',Ni,iD,nS]
theorem Nj{l:List Fd}(c:l.Pairwise (λa b=>a.id<b.id))(d:∀f,f∈l->1<=f.id/\f.id<=1000)(h:(l.flatMap Fd.text).length<=90000):jm (l.flatMap Fd.text)=some (l.map jB):=by
 have ae:=Ua l;have bc:=Mj l 0 [] c (λf h=>⟨by grind,(d f h).2⟩) (by omega) (by grind);grind[jm,pd]
theorem Kx{n:Nat}(h:1<=n/\n<=1000)(rest:ar):kL (dL n++rest)=some ((n:Int),rest):=by
 unfold kL;have a:=n5 (JK (n:=n) (by omega) rest) (by simp);rw[pw,a];simp;rw[ao (by grind),nj (by simp)];rfl
theorem IG{l:List aa}{i:Nat}(h:i<l.length):(bG ts t l).getD i []=bE ts t (l.getD i aH):=by
 grind[EF]
theorem wy{a b c n r:Nat}(h:a=1+max n b)(e:a<=r+1)(d:c<=b):c<=r:=by omega
theorem NK{a b c r:Nat}(h:a=1+max 1 b)(e:a<=r+1)(d:c=1):c<=r:=by omega
def FA(ts:List aj)(t:Int)(v:aa):Prop:=cB ts false t v/\cf v/\wt v<=2147483648
theorem ab6{a:aa}(h:cf a)(b:aa):eR (C2 (a,b)) a b:=by
 obtain⟨r,h1,c⟩:=ac5 h b;refine⟨r,?_,c⟩;rw[C2];simp only[aa.bO];rw[h1];rfl
theorem Js{a:aa}(h:cf a)(b:aa):eR (lR (a,b)) a b:=Lf h b
theorem ab7:cf (⟨0,false,0,[],0,[],[],[]⟩:aa):= .mk _ (by simp) (by simp) (by simp) (by simp) (λx h=>by cases h) (λx h=>by cases h) (λx h=>by cases h) (by simp) (by simp) (by simp) (λx h=>by cases h)
mutual
def fb:aa->aa
 |⟨k,b,i,s,id,ks,a,r⟩=>⟨k,b,i,s,id,ks,Ap a,if k=5 then[]else r⟩
def Ap:List aa->List aa
 |[]=>[]
 |v::l=>fb v::Ap l
end
theorem Ub:∀l:List aa,Ap l=l.map fb
 |[]=>by rw[Ap];rfl
 |v::l=>by rw[Ap,Ub l];rfl
theorem sW(v:aa):fb v=⟨v.Kind,v.b9,v.bw,v.bH,v.ah,v.aJ,v.aq.map fb,if v.Kind=5 then[]else v.Rest⟩:=by
 cases v;rw[fb,Ub]
theorem NL{l:List cG}(h:l.Pairwise λa b=>a.ah<b.ah)(n:Nat)(h1:∀x,x∈l->1<=x.ah/\x.ah<=n):l.length<=n:=by
 have key:∀(l:List cG) (m:Int),l.Pairwise (λa b=>a.ah<b.ah)->(∀x,x∈l->m<x.ah/\x.ah<=n)->m<=n->(l.length:Int)<=n-m:=by
  intro l;induction l with
  |nil=>intro m _ _ h;simp;omega
  |cons x l ih=>
   intro m ai c aN;have I:=c x (.head _);have:=ih x.ah (h9.1 ai).2 (λy ag=>⟨(h9.1 ai).1 y ag,(c y (.tail _ ag)).2⟩) I.2;rw[gS];omega
 have:=key l 0 h (λx I=>⟨by have:=h1 x I;omega,(h1 x I).2⟩) (by omega);omega
section
variable {ts:List aj}
theorem ab8(H:cX ts)(l:cB ts pl t v):v.aJ.length<=20/\v.aq.length<=20/\v.Rest.length<=1000:=by
 obtain⟨⟨g1,g2,g3,g4⟩,k⟩:=(eI _ _ _).1 l;have e:=br (by omega:t.toNat<ts.length) aM;generalize I:ts.getD t.toNat aM=x at*;have m:=H.M x e;have j:=H.cN x e;rcases k with h|h|h|h|h|h|h|h|h
 . obtain⟨a1,a2,a3,a4,a5,a,b⟩:=h;rw[a5,a,b];simp
 . obtain⟨a1,a2,a3,a4,a5,a,b,c⟩:=h;rw[a5,a,b];simp
 . obtain⟨a1,a2,a3,a4,a5,a,b,c⟩:=h;rw[a5,a,b];simp
 . obtain⟨a1,a2,a3,a4,a5,a,b,c⟩:=h;rw[a5,a,b];simp
 . obtain⟨a1,a2,a3,a4,a5,a,b,c⟩:=h;have:=(h3.1 c).1;refine⟨by rw[a];simp,by have:=j.2.2;omega,NL b.1 1000 λy ag=>?_⟩;have:=(b.2 y ag).1;unfold cC at this;omega
 . obtain⟨a1,a2,a3,a4,a5,a⟩:=h;split at a
   . obtain⟨b1,b2,f⟩:=a;rw[a5,b1,b2];simp
   . obtain⟨b1,b2,f,g,d,i⟩:=a;rw[a5,g,i];simp
 . obtain⟨a1,a2,a3,a4,a5,a,b,c,a9⟩:=h;rw[a,b];simp;omega
 . obtain⟨a1,a2,a3,a4,a5,a,b,c,a9⟩:=h;rw[a];simp;omega
 . obtain⟨a1,a2,a3,a4,a5,a,b,c,a9⟩:=h;rw[a,b];simp;omega
structure PB (ts:List aj):Prop where
 T:∀t,t∈ts->iY t
 V:p7 ts
theorem cX.g(H:cX ts):PB ts:=⟨H.T,H.V⟩
inductive p5:aa->Prop
 |mk (v:aa) (k:v.aJ.length<=1000) (i:v.aq.length<=1000) (Cn:∀x,x∈v.aq->p5 x):p5 v
theorem p5.items(h:p5 v):∀x,x∈v.aq->p5 x:=by
 cases h with
 |mk _ _ _ h=>exact h
theorem acD(g:p5 v)(l:cB ts pl t v):v.aJ.length<=1000/\v.aq.length<=1000/\v.Rest.length<=1000:=by
 have⟨k,i⟩:v.aJ.length<=1000/\v.aq.length<=1000:=by cases g with|mk _ k i _=>exact⟨k,i⟩
 refine⟨k,i,?_⟩;obtain⟨_,j⟩:=(eI _ _ _).1 l;rcases j with h|h|h|h|h|h|h|h|h
 . rw[h.2.2.2.2.2.2];simp
 . rw[h.2.2.2.2.2.2.1];simp
 . rw[h.2.2.2.2.2.2.1];simp
 . rw[h.2.2.2.2.2.2.1];simp
 . obtain⟨a1,a2,a3,a4,a5,a,b,c⟩:=h;refine NL b.1 1000 λy ag=>?_;have:=(b.2 y ag).1;unfold cC at this;omega
 . obtain⟨a1,a2,a3,a4,a5,a⟩:=h;split at a
   . obtain⟨b1,b2,e⟩:=a;rw[b1];simp
   . obtain⟨b1,b2,e,m,d,f⟩:=a;rw[f];simp
 . rw[h.2.2.2.2.2.2.1];simp
 . obtain⟨a1,a2,a3,a4,a5,a,b,c,a9⟩:=h;rw[a];simp
 . rw[h.2.2.2.2.2.2.1];simp
def gV(x:aj)(v:aa)(i:Nat):Int:=if x.Kind=5 then(x.af.getD i aG).aB else if x.Kind=6 then((cD x.af v.ah).getD aG).aB else x.aK
def pX(x:aj)(v:aa)(i:Nat):Int:=if x.Kind=5 then(x.af.getD i aG).ah else if x.Kind=6 then v.ah else i
theorem En(j:cB ts pl t v):∀i,i<v.aq.length->cB ts pl (gV (ts.getD t.toNat aM) v i) (v.aq.getD i aH):=by
 obtain⟨⟨g1,g2,g3,g4⟩,g⟩:=(eI _ _ _).1 j;generalize I:ts.getD t.toNat aM=x at*;intro i a;have d:=br a aH;unfold gV;rcases g with h|h|h|h|h|h|h|h|h
 . rw[h.2.2.2.2.2.1]at a;cases a
 . rw[h.2.2.2.2.2.1]at a;cases a
 . rw[h.2.2.2.2.2.1]at a;cases a
 . rw[h.2.2.2.2.2.1]at a;cases a
 . obtain⟨a1,a2,a3,a4,a5,b,e,c⟩:=h;rw[eF];obtain⟨b1,b2⟩:=h3.1 c;exact b2 i (by omega)
 . obtain⟨a1,a2,a3,a4,a5,b⟩:=h;rw[a',eF];split at b
   . rename_i m k;rw[k];exact cO.1 b.2.2 _ d
   . rw[b.2.2.2.1]at a;cases a
 . obtain⟨a1,a2,a3,a4,a5,b,e,c,a9⟩:=h;rw[a',a'];exact cO.1 a9 _ d
 . obtain⟨a1,a2,a3,a4,a5,b,e,c,a9,f,l⟩:=h;rw[a',a'];exact cO.1 f _ d
 . obtain⟨a1,a2,a3,a4,a5,b,e,c,a9⟩:=h;rw[a',a'];exact cO.1 a9 _ d
theorem acE(H:cX ts)(c:cf v):∀{pl:Bool} {t:Int},cB ts pl t v->p5 v:=by
 induction c with
 |mk v hs h1 e f j g k cI o p q l d=>
  intro pl t a;obtain⟨m,l2,n⟩:=ab8 H a;exact .mk v (by omega) (by omega) λy ag=>by
   obtain⟨i,b,rfl⟩:=gQ ag;have:=En a i b;rw[ey b]at this;exact d _ ag this
def p4(x:aj)(v:aa):Prop:=x.Kind=4->∃y,y∈x.bo/\y.ah=v.ah
theorem Uc(I:iY x)(v:aa):∃b,mE (x,v)=some b/\(b=false↔p4 x v):=by
 rw[mE];unfold p4;by_cases a:x.Kind=4
 . rw[ao (by simp[a])];obtain⟨r,f,_,g⟩:=v' (t:=x) v.ah (by have:=I.1;have:=gq (eB reachBytes);omega);rw[f];refine⟨!r.2,rfl,?_⟩;rcases g with⟨j,d,e,m,rfl⟩|⟨q,rfl⟩
   . simp only[ez,true_iff];exactλ_=>⟨_,br d fE,e⟩
   . simp only[gg,Bool.true_eq_false,false_iff];intro h;obtain⟨y,k,l⟩:=h a;obtain⟨i,c,rfl⟩:=gQ k;exact absurd l (by have:=q i c;rwa [ey c]at this)
 . rw[ad (by simp[a])];exact⟨false,rfl,by simp[a]⟩
theorem ZX(ee:∀t,t∈ts->iY t)(ae:v.aJ.length<=1000)(c:v.aJ≠[]->0<=x.Key/\x.Key<ts.length):∃b,DK ((⟨ts⟩:bq),x,v)=some b/\(b=false↔∀k,k∈v.aJ->p4 (ts.getD x.Key.toNat aM) k):=by
 have f:∀i,i<v.aJ.length->∃b,mE (ts.getD x.Key.toNat aM,v.aJ.getD i aH)=some b/\(b=false↔p4 (ts.getD x.Key.toNat aM) (v.aJ.getD i aH)):=λi a=>
  Uc (ee _ (br (by have:=c (by intro h;rw[h]at a;cases a);omega) aM)) _
 have o:∀i,i<v.aJ.length->D4 (v.aJ.getD i aH,ts,x)=(mE (ts.getD x.Key.toNat aM,v.aJ.getD i aH)).map λb=>(b,ts,x):=λi a=>by
  rw[D4];have I:=c (by intro h;rw[h]at a;cases a);rw[ad (by simp[aQ];omega)];simp only[aa.bO];cases mE (ts.getD x.Key.toNat aM,v.aJ.getD i aH)<;>rfl
 have h:=vB (λi=>oV (v.aJ,(v.aJ.length:Int),(i:Int),ts,x)) v.aJ.length (λi=>(mE (ts.getD x.Key.toNat aM,v.aJ.getD i aH))==some true) (λi=>.inl ((i:Int),ts,x)) (.inr (ts,x))
  (λi a=>by
   obtain⟨b,b1,_⟩:=f i a;rw[oV,dc,ad (bu a),bx];simp only[aa.bO];rw[o i a,b1];simp only[ly,bg,ay];rw[cg]
   cases b<;>simp)
  (by rw[oV,c2])
 have ds:oV (v.aJ,(v.aJ.length:Int),((0:Nat):Int),ts,x)=oV (v.aJ,(v.aJ.length:Int),0,ts,x):=rfl;simp only[ds]at h;rw[DK,Hb,Hf];rcases h with⟨j,h1,m,p,e⟩|⟨h1,e⟩
 . rw[e];refine⟨true,?_,?_⟩
   . have:decide ((0:Int)<=(j:Int))=true:=(by simp);simp only[bg,ay,this]
   . obtain⟨b,b1,b2⟩:=f j h1;have n:b=true:=by
      have g:(mE (ts.getD x.Key.toNat aM,v.aJ.getD j aH)==some true)=true:=m;rw[b1]at g;simpa using g
     constructor
     . intro h;cases h
     . intro h;have:=b2.2 (h _ (br h1 aH));rw[n]at this;cases this
 . rw[e];refine⟨false,rfl,?_⟩;constructor
   . intro _ k c;obtain⟨i,a,rfl⟩:=gQ c;obtain⟨b,b1,b2⟩:=f i a;have l:(mE (ts.getD x.Key.toNat aM,v.aJ.getD i aH)==some true)=false:=h1 i a;rw[b1]at l;have:b=false:=by cases b<;>simp_all
     rw[<-ey a (d:=aH)];exact b2.1 this
   . intro _;rfl
theorem Yp(e:ha x.af)(ae:x.af.length<=1000){m:aU}(bc:cD x.af id=some m):∃j,j<x.af.length/\gH (x,id)=some ((j:Int),true)/\x.af.getD j aG=m:=by
 obtain⟨c,d⟩:=ki bc;obtain⟨r,g,k⟩:=rf (t:=x) (id:=id) (by omega);rcases k with⟨j,b,f,_,rfl⟩|⟨q,_⟩
 . exact⟨j,b,g,pC e (br b aG) c (by rw[f,d])⟩
 . obtain⟨i,a,rfl⟩:=gQ c;exact absurd d (by have:=q i a;rwa [ey a]at this)
def kJ(x:aj)(v:aa)(i:Nat):List iu:=(List.range i).map λj=>(⟨gV x v j,pX x v j⟩:iu)
theorem ab9(x:aj)(v:aa)(i:Nat):kJ x v i++[(⟨gV x v i,pX x v i⟩:iu)]=kJ x v (i+1):=by
 unfold kJ;rw[List.range_succ,rB];rfl
theorem Ea(x:aj)(v:aa)(i:Nat):(kJ x v i).length=i:=by unfold kJ;simp
theorem acF(x:aj)(v:aa){i n:Nat}(h:i<n):(kJ x v n).getD i Iz=⟨gV x v i,pX x v i⟩:=by
 rw[ey (by rw[Ea];exact h)];unfold kJ;simp
theorem Nk(ae:v.aq.length<=1000)(bj:x.Kind=5->v.aq.length<=x.af.length)(c:x.Kind=6->0<v.aq.length->∃m,cD x.af v.ah=some m)(a:x.Kind=6->ha x.af/\x.af.length<=16):∀(k i:Nat),i+k=v.aq.length->
 nM ((v.aq.length:Int),(i:Int),x,v,kJ x v i)=some (kJ x v v.aq.length)
 |0,i,d=>by
  rw[nM,ev];have:i=v.aq.length:=by omega
  rw[this]
 |k+1,i,d=>by
  have ih:=Nk ae bj c a k (i+1) (by omega);have hs:=ab9 x v i;have b:∀s:iu,room 16 (kJ x v i++[s]).length=true:=λs=>dv (by omega) (by simp[Ea];omega);rw[nM,dc,cg];simp only[bg,ay,aa.bO];by_cases k5:x.Kind=5
  . have aE:i<x.af.length:=by have:=bj k5;omega
    rw[ad (by simp[k5]),ad (bu aE),ad (bu aE),ad (b _),bx];have e:(⟨(x.af.getD i aG).aB,(x.af.getD i aG).ah⟩:iu)=⟨gV x v i,pX x v i⟩:=by unfold gV pX;rw[ad k5,ad k5]
    rw[e,hs];exact ih
  . rw[ao (by simp[k5])];by_cases k6:x.Kind=6
    . obtain⟨m,bc⟩:=c k6 (by omega);obtain⟨j,f,g,l⟩:=Yp (a k6).1 (by have:=(a k6).2;omega) bc;rw[ad (by simp[k6]),g];simp only[ay];rw[ad (bu f),ad (b _),bx,l];have e:(⟨m.aB,v.ah⟩:iu)=⟨gV x v i,pX x v i⟩:=by unfold gV pX;rw[ao k5,ad k6,ao k5,ad k6,bc];rfl
      rw[e,hs];exact ih
    . rw[ao (by simp[k6]),ad (b _)];have e:(⟨x.aK,(i:Int)⟩:iu)=⟨gV x v i,pX x v i⟩:=by unfold gV pX;rw[ao k5,ao k6,ao k5,ao k6]
      rw[e,hs];exact ih
theorem ZY(H:kQ ts)(d:cB ts pl t v)(ae:v.aq.length<=1000):Dx (ts.getD t.toNat aM,v)=some (kJ (ts.getD t.toNat aM) v v.aq.length):=by
 obtain⟨⟨g1,g2,g3,g4⟩,b⟩:=(eI _ _ _).1 d;have f:=br (by omega:t.toNat<ts.length) aM;generalize I:ts.getD t.toNat aM=x at*;rw[Dx];simp only[aa.bO]
 have:= Nk (x:= x) (v:= v) ae (λk5=>by
  rcases b with h|h|h|h|h|h|h|h|h
  case inr.inr.inr.inr.inl=>have:=(h3.1 h.2.2.2.2.2.2.2).1;omega
  all_goals (have:=h.1;omega)) (λk6 c=>by
  rcases b with h|h|h|h|h|h|h|h|h
  case inr.inr.inr.inr.inr.inl=>
   obtain⟨a1,a2,a3,a4,a5,a⟩:=h;split at a
   . rename_i m e;exact⟨m,e⟩
   . rw[a.2.2.2.1]at c;cases c
  all_goals (have:=h.1;omega)) (λk6=>H.A x f (.inr k6)) v.aq.length 0 (by omega)
 have h0:nM ((v.aq.length:Int),0,x,v,[])=_:=this;rw[h0];rfl
def zeroV:aa:=⟨0,false,0,[],0,[],[],[]⟩
def EN(ts:List aj)(t:Int)(v:aa):Prop:=∃b,(b=true↔cB ts true t (fb v))/\lS ((⟨ts⟩:bq),t,v)=some (if b then(fb v,true)else(zeroV,false))
theorem MA{x:aj}{v:aa}(ae:v.aq.length<=1000)(h:∀i,i<v.aq.length->EN ts (gV x v i) (v.aq.getD i aH)){z0 z2 z4 a0 a2 a4:Int}{z1 a1:Bool}{z3 a3:ar}{ks:List aa}:∀(k i:Nat),i+k=v.aq.length->
 (re (kJ x v v.aq.length,(v.aq.length:Int),(i:Int),ts,v,z0,z1,z2,z3,z4,a0,a1,a2,a3,a4,ks,(v.aq.take i).map fb)=some (.inr (z0,z1,z2,z3,z4,a0,a1,a2,a3,a4,ks,v.aq.map fb))/\∀j,i<=j->j<v.aq.length->cB ts true (gV x v j) (fb (v.aq.getD j aH)))\/
 (re (kJ x v v.aq.length,(v.aq.length:Int),(i:Int),ts,v,z0,z1,z2,z3,z4,a0,a1,a2,a3,a4,ks,(v.aq.take i).map fb)=some (.inl (false,0,false,0,[],0))/\∃j,j<v.aq.length/\¬cB ts true (gV x v j) (fb (v.aq.getD j aH)))
 |0,i,f=>.inl ⟨by rw[re,ev,tP (by omega)],λj h1 d=>by omega⟩
 |k+1,i,f=>by
  have aE:i<v.aq.length:=by omega
  obtain⟨b,b1,b2⟩:=h i aE;rw[re,dc,ad (bu (by rw[Ea];exact aE)),ad (bu aE),bx,acF x v aE];simp only[aa.bO];rw[b2];cases b with
  |false=>exact .inr ⟨rfl,i,aE,λq=>by have:=b1.2 q;cases this⟩
  |true=>
   have e:(v.aq.take i).map fb++[fb (v.aq.getD i aH)]=(v.aq.take (i+1)).map fb:=by
    rw[GK,rB,eC aE,ey aE];rfl
   simp only[bg,ay,cm,ez,aa.bO];rw[c2,ad (dv),cg,e];rcases MA ae h (z0:=z0) (z1:=z1) (z2:=z2) (z3:=z3) (z4:=z4) (a0:=a0) (a1:=a1) (a2:=a2) (a3:=a3) (a4:=a4) (ks:=ks) k (i+1) (by omega)with⟨a,c⟩|⟨a,c⟩
   . refine .inl ⟨a,λj h1 d=>?_⟩;by_cases g:j=i
     . subst g;exact b1.1 rfl
     . exact c j (by omega) d
   . exact .inr ⟨a,c⟩
theorem ab'{k:aa}(d:cB ts false t k)(h1:1<=(ts.getD t.toNat aM).Kind/\(ts.getD t.toNat aM).Kind<=4)(e:p4 (ts.getD t.toNat aM) k):cB ts true t k:=by
 obtain⟨⟨g1,g2,g3,g4⟩,c⟩:=(eI _ _ _).1 d;rw[eI];rcases c with h|h|h|h|h|h|h|h|h
 . exact⟨⟨g1,g2,g3,λ_=>h.2.2.2.2.2.2⟩,.inl h⟩
 . exact⟨⟨g1,g2,g3,λ_=>h.2.2.2.2.2.2.1⟩,.inr (.inl h)⟩
 . exact⟨⟨g1,g2,g3,λ_=>h.2.2.2.2.2.2.1⟩,.inr (.inr (.inl h))⟩
 . obtain⟨a1,a2,a3,a4,a5,b,a,f⟩:=h;exact⟨⟨g1,g2,g3,λ_=>a⟩,.inr (.inr (.inr (.inl ⟨a1,a2,a3,a4,a5,b,a,.inl (e (by omega))⟩)))⟩
 all_goals (have:=h.1;omega)
theorem Mn{k:aa}(b:cB ts true t k):p4 (ts.getD t.toNat aM) k:=by
 obtain⟨⟨g1,g2,g3,g4⟩,a⟩:=(eI _ _ _).1 b;intro c;rcases a with h|h|h|h|h|h|h|h|h
 case inr.inr.inr.inl=>
  rcases h.2.2.2.2.2.2.2 with h|h
  . exact h
  . cases h.2.1
 all_goals (have:=h.1;omega)
theorem abe(x:aj)(v:aa)(j:Nat):gV x (fb v) j=gV x v j:=by
 unfold gV;rw[sW]
theorem Lr{l:List aa}(h:j<l.length):(l.map fb).getD j aH=fb (l.getD j aH):=by
 rw[ey h,ey (by simpa using h)];simp
theorem abf(H:kQ ts)(u:cB ts false t v):cB ts true t (fb v)↔
 p4 (ts.getD t.toNat aM) v/\(∀k,k∈v.aJ->p4 (ts.getD (ts.getD t.toNat aM).Key.toNat aM) k)/\¬((ts.getD t.toNat aM).Kind=6/\v.aq.length=0)/\∀j,j<v.aq.length->cB ts true (gV (ts.getD t.toNat aM) v j) (fb (v.aq.getD j aH)):=by
 obtain⟨⟨g1,g2,g3,g4⟩,s⟩:=(eI _ _ _).1 u;have C:=br (by omega:t.toNat<ts.length) aM;constructor
 . intro h;have z:=En h;have A:=Mn h;have r:(fb v).ah=v.ah:=by rw[sW]
   have g:(fb v).aJ=v.aJ:=by rw[sW]
   have n:(fb v).aq=v.aq.map fb:=by rw[sW]
   obtain⟨⟨_,_,f3,f4⟩,o⟩:=(eI _ _ _).1 h;refine⟨λq=>by have:=A q;rwa [r]at this,λk c=>?_,?_,λj f=>?_⟩
   . rcases o with h|h|h|h|h|h|h|h|h
     case inr.inr.inr.inr.inr.inr.inr.inl=>
      have:=h.2.2.2.2.2.2.2.2.1;rw[g]at this;exact Mn (cO.1 this _ c)
     case inr.inr.inr.inr.inr.inl=>have:=h.2.2.2.2.1;rw[g]at this;rw[this]at c;cases c
     case inl=>have:=h.2.2.2.2.1;rw[g]at this;rw[this]at c;cases c
     case inr.inl=>have:=h.2.2.2.2.1;rw[g]at this;rw[this]at c;cases c
     case inr.inr.inl=>have:=h.2.2.2.2.1;rw[g]at this;rw[this]at c;cases c
     case inr.inr.inr.inl=>have:=h.2.2.2.2.1;rw[g]at this;rw[this]at c;cases c
     all_goals (have:=h.2.2.2.2.2.1;rw[g]at this;rw[this]at c;cases c)
   . intro⟨k6,G⟩;rcases o with h|h|h|h|h|h|h|h|h
     case inr.inr.inr.inr.inr.inl=>
      obtain⟨a1,a2,a3,a4,a5,a⟩:=h;split at a
      . have:=a.2.1;rw[n,jH]at this;omega
      . cases a.2.1
     all_goals (have:=h.1;omega)
   . have:=z j (by rw[n,jH];exact f)
     rwa [abe,n,Lr f]at this
 . intro⟨c,B,D,f⟩;rw[sW,eI];dsimp only;generalize I:ts.getD t.toNat aM=x at*;rcases s with h|h|h|h|h|h|h|h|h
   . obtain⟨a1,a2,a3,a4,a5,a,b⟩:=h;rw[a',a,b];exact⟨⟨g1,g2,g3,λ_=>rfl⟩,.inl ⟨a1,a2,a3,a4,a5,rfl,rfl⟩⟩
   . obtain⟨a1,a2,a3,a4,a5,a,b,d⟩:=h;rw[a',a,b];exact⟨⟨g1,g2,g3,λ_=>rfl⟩,.inr (.inl ⟨a1,a2,a3,a4,a5,rfl,rfl,d⟩)⟩
   . obtain⟨a1,a2,a3,a4,a5,a,b,d⟩:=h;rw[a',a,b];exact⟨⟨g1,g2,g3,λ_=>rfl⟩,.inr (.inr (.inl ⟨a1,a2,a3,a4,a5,rfl,rfl,d⟩))⟩
   . obtain⟨a1,a2,a3,a4,a5,a,b,d⟩:=h;rw[a',a,b];exact⟨⟨g1,g2,g3,λ_=>rfl⟩,.inr (.inr (.inr (.inl ⟨a1,a2,a3,a4,a5,rfl,rfl,.inl (c (by omega))⟩)))⟩
   . obtain⟨a1,a2,a3,a4,a5,a,b,d⟩:=h;rw[ad a1];obtain⟨b1,b2⟩:=h3.1 d;refine⟨⟨g1,g2,g3,λ_=>rfl⟩,.inr (.inr (.inr (.inr (.inl ⟨a1,a2,a3,a4,a5,a,⟨List.Pairwise.nil,λy ag=>(by cases ag)⟩,h3.2 ⟨by rw[jH];exact b1,λi e=>?_⟩⟩))))⟩;have:=f i (by omega);unfold gV at this;rw[eF]at this;rw[Lr (by omega)];exact this
   . obtain⟨a1,a2,a3,a4,a5,a⟩:=h;rw[a'];cases bc:cD x.af v.ah with
     |none=>
      rw[bc]at a;exact absurd ⟨by omega,by rw[a.2.2.2.1];rfl⟩ D
     |some m=>
      rw[bc]at a;obtain⟨b1,b2,F⟩:=a;refine⟨⟨g1,g2,g3,λ_=>b1⟩,.inr (.inr (.inr (.inr (.inr (.inl ⟨a1,a2,a3,a4,a5,b1,by rw[jH];exact b2,cO.2 λy ag=>?_⟩)))))⟩;obtain⟨w,l,rfl⟩:=eA.1 ag;obtain⟨i,e,rfl⟩:=gQ l;have:=f i e;unfold gV at this;rw[a',eF,bc,ey e]at this;exact this
   . obtain⟨a1,a2,a3,a4,a5,a,b,d,a9⟩:=h;rw[a'];refine⟨⟨g1,g2,g3,λ_=>b⟩,.inr (.inr (.inr (.inr (.inr (.inr (.inl ⟨a1,a2,a3,a4,a5,a,b,by rw[jH];exact d,cO.2 λy ag=>?_⟩))))))⟩;obtain⟨w,l,rfl⟩:=eA.1 ag;obtain⟨i,e,rfl⟩:=gQ l;have:=f i e;unfold gV at this;rw[a',a',ey e]at this;exact this
   . obtain⟨a1,a2,a3,a4,a5,a,b,d,a9,E,p⟩:=h;rw[a'];refine⟨⟨g1,g2,g3,λ_=>a⟩,.inr (.inr (.inr (.inr (.inr (.inr (.inr (.inl ⟨a1,a2,a3,a4,a5,a,b,by rw[jH];exact d,cO.2 λy ag=>ab' (cO.1 a9 y ag) (H.mn x C (by omega)) (B y ag),cO.2 λy ag=>?_,p⟩)))))))⟩;obtain⟨w,l,rfl⟩:=eA.1 ag;obtain⟨i,e,rfl⟩:=gQ l;have:=f i e;unfold gV at this;rw[a',a',ey e]at this;exact this
   . obtain⟨a1,a2,a3,a4,a5,a,b,d,a9⟩:=h;rw[a'];refine⟨⟨g1,g2,g3,λ_=>b⟩,.inr (.inr (.inr (.inr (.inr (.inr (.inr (.inr ⟨a1,a2,a3,a4,a5,a,b,by rw[jH];exact d,cO.2 λy ag=>?_⟩)))))))⟩;obtain⟨w,l,rfl⟩:=eA.1 ag;obtain⟨i,e,rfl⟩:=gQ l;have:=f i e;unfold gV at this;rw[a',a',ey e]at this;exact this
theorem abg(c:cB ts pl t v):v.aJ≠[]->0<=(ts.getD t.toNat aM).Key/\(ts.getD t.toNat aM).Key<ts.length:=by
 obtain⟨_,b⟩:=(eI _ _ _).1 c;intro aN;rcases b with h|h|h|h|h|h|h|h|h
 case inr.inr.inr.inr.inr.inr.inr.inl=>
  obtain⟨a1,a2,a3,a4,a5,f,g,i,a9,_⟩:=h;cases a:v.aJ with
  |nil=>exact absurd a aN
  |cons k l=>
   have:=cO.1 a9 k (by rw[a];exact .head _);obtain⟨⟨d,e,_⟩,_⟩:=(eI _ _ _).1 this;exact⟨d,e⟩
 case inl=>exact absurd h.2.2.2.2.1 aN
 case inr.inl=>exact absurd h.2.2.2.2.1 aN
 case inr.inr.inl=>exact absurd h.2.2.2.2.1 aN
 case inr.inr.inr.inl=>exact absurd h.2.2.2.2.1 aN
 case inr.inr.inr.inr.inr.inl=>exact absurd h.2.2.2.2.1 aN
 all_goals exact absurd h.2.2.2.2.2.1 aN
theorem abh(H:PB ts)(M:cf v):∀t,p5 v->cB ts false t v->EN ts t v:=by
 have S:=H.V.ie H.T;induction M with
 |mk v hs h1 s W Y X Z cI ag ai aj ab N=>
  intro t g c;obtain⟨ae,l2,af⟩:=acD g c;obtain⟨⟨g1,g2,g3,g4⟩,_⟩:=(eI _ _ _).1 c;have o:t.toNat<ts.length:=by omega
  have J:=br o aM;have e:=abf S c;have K:=ZY S c (by omega);have G:∀i,i<v.aq.length->EN ts (gV (ts.getD t.toNat aM) v i) (v.aq.getD i aH):=λi n=>N _ (br n aH) _ (g.items _ (br n aH)) (En c i n);obtain⟨U,s1,z⟩:=Uc (H.T _ J) v;obtain⟨R,k1,k2⟩:=ZX H.T (x:=ts.getD t.toNat aM) (v:=v) (by omega) (abg c);generalize I:ts.getD t.toNat aM=x at*;have k:∀(P:Prop),¬cB ts true t (fb v)->lS ((⟨ts⟩:bq),t,v)=some (zeroV,false)->EN ts t v:=λ_ h1 s=>⟨false,by simp[h1],by rw[s];rfl⟩
  have l:aQ t ts.length=true:=by simp[aQ];omega
  have L:∀b,(bif decide (x.Kind=6)then decide ((v.aq.length:Int)=0)else false)=b->(b=true↔x.Kind=6/\v.aq.length=0):=by
   intro b E;rw[<-E];by_cases C:x.Kind=6<;>simp[C]
  obtain⟨A,r⟩:∃b,(bif decide (x.Kind=6)then decide ((v.aq.length:Int)=0)else false)=b:=⟨_,rfl⟩
  have w:=L A r;cases U with
  |true=>
   refine k True (λh=>?_) ?_
   . have:=z.2 (e.1 h).1;cases this
   . rw[lS,ad l];simp only[bg,ay,aa.bO,I];rw[s1];rfl
  |false=>
   cases R with
   |true=>
    refine k True (λh=>?_) ?_
    . have:=k2.2 (e.1 h).2.1;cases this
    . rw[lS,ad l];simp only[bg,ay,aa.bO,I];rw[s1];simp only[ay,gg,cm];rw[k1];rfl
   |false=>
    cases A with
    |true=>
     refine k True (λh=>(e.1 h).2.2.1 (w.1 rfl)) ?_;rw[lS,ad l];simp only[bg,ay,aa.bO,I];rw[s1];simp only[ay,gg,cm];rw[k1,r];rfl
    |false=>
     have g:=MA (x:=x) (v:=v) (by omega) G (z0:=0) (z1:=false) (z2:=0) (z3:=[]) (z4:=0) (a0:=v.Kind) (a1:=v.b9) (a2:=v.bw) (a3:=v.bH) (a4:=v.ah) (ks:=v.aJ) v.aq.length 0 (by omega)
     have u:∀ f,re (kJ x v v.aq.length,(v.aq.length:Int),0,ts,v,0,false,0,[],0,v.Kind,v.b9,v.bw,v.bH,v.ah,v.aJ,[]) = some f->lS ((⟨ts⟩:bq),t,v) = (match f with
      |.inl d=>some ((⟨d.2.1,d.2.2.1,d.2.2.2.1,d.2.2.2.2.1,d.2.2.2.2.2,[],[],[]⟩:aa),d.1)
      |.inr a=>some ((⟨a.2.2.2.2.2.1,a.2.2.2.2.2.2.1,a.2.2.2.2.2.2.2.1,a.2.2.2.2.2.2.2.2.1,a.2.2.2.2.2.2.2.2.2.1,a.2.2.2.2.2.2.2.2.2.2.1,a.2.2.2.2.2.2.2.2.2.2.2,[]⟩:aa),true)):=by
      intro f D;rw[lS,ad l];simp only[bg,ay,aa.bO,I];rw[s1];simp only[ay,gg,cm];rw[k1,r];simp only[ay,jg];have F:fv 120 v.aJ=some v.aJ:=by unfold fv;rw[ad (n4 (dv (by omega) (by omega)))]
      rw[c2,F];simp only[ay];rw[K];simp only[ay,Ea];rw[D];cases f<;>rfl
     rcases g with⟨m,B⟩|⟨m,j,O,Q⟩
     . have y:cB ts true t (fb v):=e.2 ⟨z.1 rfl,k2.1 rfl,λh=>(by have:=w.2 h;cases this),λj o=>B j (ia _) o⟩;refine⟨true,by simp[y],?_⟩;rw[u _ m,ad rfl];have p:(fb v).Rest=[]:=by
        obtain⟨⟨_,_,_,q⟩,_⟩:=(eI _ _ _).1 y;exact q rfl
       have:(⟨v.Kind,v.b9,v.bw,v.bH,v.ah,v.aJ,v.aq.map fb,[]⟩:aa)=fb v:=by
        rw[sW]at p⊢;dsimp only at p;rw[p]
       show some ((⟨v.Kind,v.b9,v.bw,v.bH,v.ah,v.aJ,v.aq.map fb,[]⟩:aa),true)=_;rw[this]
     . refine k True (λh=>Q ((e.1 h).2.2.2 j O)) ?_;rw[u _ m];rfl
end
theorem Yq(d:cf v):∀t,cB ts true t v->fb v=v:=by
 induction d with
 |mk v hs h1 f g k j l cI n o p m e=>
  intro t b;obtain⟨⟨_,_,_,a⟩,_⟩:=(eI _ _ _).1 b;have a:=a rfl;have c:v.aq.map fb=v.aq:=by
   refine GL (by simp) λi a1 a2=>?_;have:=En b i a2;rw[ey a2]at this;rw[List.getElem_map];exact e _ (wC a2) _ this
  rw[sW,c,a];cases v;simp at a;simp[a]
def cM{α c:Type}(f:α->Option c):List α->Option (List c)
 |[]=>some []
 |a::l=>match f a,cM f l with
  |some b,some m=>some (b::m)
  |_,_=>none
def e7{α:Type}:List α->List α
 |a::_::l=>a::e7 l
 |_=>[]
def fi{α:Type}:List α->List α
 |_::b::l=>b::fi l
 |_=>[]
def r7(ks:List aa):Bool:=(List.range (ks.length-1)).all λi=>decide (iE (ks.getD i aH) (ks.getD (i+1) aH)<0)
theorem zP:r7 ks=true↔km ks:=by
 unfold r7 km;grind
def dC(ts:List aj):Nat->Int->ar->Option aa
 |0,_,_=>none
 |n+1,t,p=>
  let x:=ts.getD t.toNat aM
  if x.Kind=1 then(if p=[]then some ⟨1,false,0,[],0,[],[],[]⟩else if p=[1]then some ⟨1,true,0,[],0,[],[],[]⟩else none)else if x.Kind=2 then(match hW p with
   |some m=>if x.bT<=jl m/\jl m<=x.bW then some ⟨2,false,jl m,[],0,[],[],[]⟩else none
   |none=>none)
  else if x.Kind=3 then(if(p.length:Int)<=x.Max then some ⟨3,false,0,p,0,[],[],[]⟩else none)else if x.Kind=4 then(match hW p with
   |some m=>if 1<=m/\m<=1000/\((x.bo.any λy=>decide (y.ah=(m:Int)))||x.Open)=true then some ⟨4,false,0,[],(m:Int),[],[],[]⟩else none
   |none=>none)
  else if x.Kind=9 then(match p with
   |[]=>some ⟨9,false,0,[],0,[],[],[]⟩
   |c::q=>if c=1 then(dC ts n x.aK q).map λv=>⟨9,false,0,[],0,[],[v],[]⟩else none)
  else if x.Kind=6 then(match kL p with
   |some (id,q)=>(match cD x.af id with
    |some m=>(dC ts n m.aB q).map λv=>⟨6,false,0,[],id,[],[v],[]⟩
    |none=>if x.Open then some ⟨6,false,0,[],id,[],[],[⟨id,q⟩]⟩else none)
   |none=>none)
  else if x.Kind=7 then(match iD p with
   |some l=>if(l.length:Int)<=x.Max then(cM (dC ts n x.aK) l).map λa=>⟨7,false,0,[],0,[],a,[]⟩else none
   |none=>none)
  else if x.Kind=8 then(match iD p with
   |some l=>if l.length%2 = 0/\((l.length/2:Nat):Int)<=x.Max then (match cM (dC ts n x.Key) (e7 l) with
    |some ks=>if r7 ks then(cM (dC ts n x.aK) (fi l)).map λa=>⟨8,false,0,[],0,ks,a,[]⟩else none
    |none=>none)else none
   |none=>none)
  else(match jm p with
   |some l=>(match cM (λm:aU=>match l.find? (λf=>decide (f.ah = m.ah)) with
    |some f=>dC ts n m.aB f.Data
    |none=>if m.b8 then some m.bU else none) x.af with
    |some a=>if(l.all λf=>(cD x.af f.ah).isSome || !f.cu) then some ⟨5,false,0,[],0,[],a,(l.filter λf=>!(cD x.af f.ah).isSome).map λf=>⟨f.ah,f.Data⟩⟩else none
    |none=>none)
   |none=>none)
section
variable {ts:List aj}
def fB(ts:List aj)(b1:au)(b2:Int)(path:au)(o:Option aa)(r:Option (aa×Bool×List aj×au×Int×au)):Prop:=
 (∀v,o=some v->r=some (v,true,ts,b1,b2,path))/\(o=none->∃w f1 f2,r=some (w,false,ts,f1,f2,path))
theorem zQ(ai:path.length<=1000)(a:Int)(b1:au)(b2:Int):hz (a,ts,b1,b2,path)=some ((⟨0,false,0,[],0,[],[],[]⟩:aa),false,ts,a,path,path):=by
 rw[hz];unfold tF fv;rw[ad (n4 (dv (by omega) (by omega)))];simp
theorem vO{step:Int}(ai:path.length<=1000)(h:fB ts b1 b2 (path++[step]) o (o0 (t,p,ts,b1,b2,path++[step]))):
 fB ts b1 b2 path o (iK (step,t,p,ts,b1,b2,path)):=by
 have key:∀w ok f1 f2,o0 (t,p,ts,b1,b2,path++[step])=some (w,ok,ts,f1,f2,path++[step])->iK (step,t,p,ts,b1,b2,path)=some (w,ok,ts,f1,f2,path):=by
  intro w ok f1 f2 a;rw[iK];simp only[bg,ay];rw[ad (dv),a];simp only[ay,aa.bO];have aC:dY .i64 ((path++[step]).length:Int) 1=(path.length:Int):=by rw[uI (by simp<;>omega) (by simp<;>omega)];simp
  rw[aC];have c:eH 0 (path.length:Int) (path++[step]).length=true:=iN.2 (by simp;omega);simp_all
 refine⟨λv b=>key _ _ _ _ (h.1 v b),λaN=>?_⟩;obtain⟨w,f1,f2,a⟩:=h.2 aN;exact⟨w,f1,f2,key _ _ _ _ a⟩
theorem sX{f:α->Option c}:∀{l:List α} {m:List c},cM f l=some m->m.length=l.length
 |[],m,h=>by rw[cM]at h;cases h;rfl
 |a::l,m,h=>by
  rw[cM]at h;split at h
  . rename_i b e h1 d;cases h;rw[gS,gS,sX d]
  . cases h
theorem MB{l:List ar}(ae:l.length<=90000)(h:∀q,q∈l->∀step b1 b2,fB ts b1 b2 path (f q) (iK (step,x.aK,q,ts,b1,b2,path)))
 {z0 z2 z4 a0 a2 a4:Int}{z1 a1:Bool}{z3 a3:ar}{b1:au}{b2:Int}:∀(k i:Nat) (acc:List aa),i+k=l.length->acc.length=i->
 (∀m,cM f (l.drop i)=some m->ta (l,(l.length:Int),(i:Int),ts,b1,b2,x,z0,z1,z2,z3,z4,a0,a1,a2,a3,a4,path,acc)=some (.inr (ts,b1,b2,z0,z1,z2,z3,z4,a0,a1,a2,a3,a4,path,acc++m)))/\
 (cM f (l.drop i)=none->∃w f1 f2,ta (l,(l.length:Int),(i:Int),ts,b1,b2,x,z0,z1,z2,z3,z4,a0,a1,a2,a3,a4,path,acc)=some (.inl (false,ts,f1,f2,w,path)))
 |0,i,acc,d,c=>by
  rw[ta,ev,hI (by omega),cM];grind
 |k+1,i,acc,d,c=>by
  have aE:i<l.length:=by omega
  have a:=h _ (br aE []) (i:Int) b1 b2;have e:l.drop i=l.getD i []::l.drop (i+1):=by rw[ey aE];exact m' aE
  rw[ta,dc,ad (bu aE),bx,e,cM];cases b:f (l.getD i [])with
  |none=>
   obtain⟨w,f1,f2,n⟩:=a.2 b;simp_all
  |some v=>
   rw[a.1 v b];simp only[bg,ay,aa.bO,ez];rw[c2,ad (dv),cg];obtain⟨o,j⟩:=MB ae h (z0:=z0) (z1:=z1) (z2:=z2) (z3:=z3) (z4:=z4) (a0:=a0) (a1:=a1) (a2:=a2) (a3:=a3) (a4:=a4) (b1:=b1) (b2:=b2) k (i+1) (acc++[v]) (by omega) (by simp;omega);cases hs:cM f (l.drop (i+1))with
   |none=>exact⟨λm g=>by simp at g,λ_=>j hs⟩
   |some p=>grind
end
theorem Eo{l:List aa}{i:Nat}(a:i<l.length):l.set i (l.getD i aH)=l:=by simp_all
theorem Mo{a0 a2 a4 z0 z2 z4:Int}{l:List aa}{r:List cG}(ae:l.length<=5000000000000)(h:∀y,y∈l->jA y=some y):∀(k i:Nat),i+k=l.length->
 sC ((l.length:Int),(i:Int),a0,a1,a2,a3,a4,z0,z1,z2,z3,z4,l,l2,r)=some (a0,a1,a2,a3,a4,z0,z1,z2,z3,z4,l,l2,r)
 |0,i,a=>by rw[sC,ev]
 |k+1,i,a=>by
  have aE:i<l.length:=by omega
  rw[sC,dc,ad (bu aE),bx,dc];simp only[aa.bO];rw[h _ (br aE aH)];simp only[bg,ay,aa.bO];rw[ad (bu aE),dc,cg,Eo aE];exact Mo ae h k (i+1) (by omega)
theorem Mp{a0 a2 a4 z0 z2 z4:Int}{l:List aa}{r:List cG}(ae:l.length<=5000000000000)(h:∀y,y∈l->jA y=some y):∀(k i:Nat),i+k=l.length->
 sD ((l.length:Int),(i:Int),a0,a1,a2,a3,a4,z0,z1,z2,z3,z4,l,l2,r)=some (a0,a1,a2,a3,a4,z0,z1,z2,z3,z4,l2,l,r)
 |0,i,a=>by rw[sD,ev]
 |k+1,i,a=>by
  have aE:i<l.length:=by omega
  rw[sD,dc,ad (bu aE),bx,dc];simp only[aa.bO];rw[h _ (br aE aH)];simp only[bg,ay,aa.bO];rw[ad (bu aE),dc,cg,Eo aE];exact Mp ae h k (i+1) (by omega)
theorem Aq:∀l:List aa,l.length<=da l
 |[]=>by simp
 |v::l=>by
  rw[iM,gY,gS];have:=Aq l;omega
theorem MC(l:List cG):l.length<=(l.map λx=>x.Data.length+1).sum:=by
 induction l with
 |nil=>simp
 |cons a l ih=>simp only[jI,zC,gS];omega
theorem wz{k n:Nat}(a:k<=1000:=by omega)(h:n<=1000000000:=by omega):room k n=true:=by
 unfold room gJ c1;simp only[cK,e9];refine⟨?_,by omega⟩;have:(2*n+192)*k<=2000000192*1000:=Nat.mul_le_mul (by omega) a;omega
theorem abi(i:cf v):wt v<=1000000000->jA v=some v:=by
 induction i with
 |mk v hs h1 n o q p s cI z A B k j=>
  intro t;have u:=gY v;have w:=Aq v.aJ;have l2:=Aq v.aq;have x:=MC v.Rest;have kk:∀y,y∈v.aJ->jA y=some y:=λy ag=>k y ag (by have:=gM ag;omega);have m:∀y,y∈v.aq->jA y=some y:=λy ag=>j y ag (by have:=gM ag;omega);have e:fv 120 v.aJ=some v.aJ:=by unfold fv;rw[ad (n4 (wz))]
  have f:fv 120 v.aq=some v.aq:=by unfold fv;rw[ad (n4 (wz))]
  have g:fv 24 v.Rest=some v.Rest:=by unfold fv;rw[ad (n4 (wz))]
  have a:=Mo (a0:=v.Kind) (a1:=v.b9) (a2:=v.bw) (a3:=v.bH) (a4:=v.ah) (z0:=0) (z1:=false) (z2:=0) (z3:=[]) (z4:=0) (l:=v.aJ) (l2:=v.aq) (r:=v.Rest) (by omega) kk v.aJ.length 0 (by omega);have c:=Mp (a0:=v.Kind) (a1:=v.b9) (a2:=v.bw) (a3:=v.bH) (a4:=v.ah) (z0:=0) (z1:=false) (z2:=0) (z3:=[]) (z4:=0) (l:=v.aq) (l2:=v.aJ) (r:=v.Rest) (by omega) m v.aq.length 0 (by omega);have b:sC ((v.aJ.length:Int),0,v.Kind,v.b9,v.bw,v.bH,v.ah,0,false,0,[],0,v.aJ,v.aq,v.Rest)=_:=a;have d:sD ((v.aq.length:Int),0,v.Kind,v.b9,v.bw,v.bH,v.ah,0,false,0,[],0,v.aq,v.aJ,v.Rest)=_:=c;rw[jA,e,f,g];simp only[bg,ay];rw[b];simp only[ay];rw[d];simp only[ay];cases v;rfl
section
variable {ts:List aj}
def xu(ts:List aj)(n:Nat):Prop:=∀(t:Int) (p:ar) (b1:au) (b2:Int) (path:au),0<=t->t<ts.length->p.length<=4096->path.length+n=200->
 fB ts b1 b2 path (dC ts n t p) (o0 (t,p,ts,b1,b2,path))
theorem jt(ai:path.length<=1000)(a:Int)(b1:au)(b2:Int):fB ts b1 b2 path none (hz (a,ts,b1,b2,path)>>=λr=>some (aa.eta r.1,r.2.1,r.2.2.1,r.2.2.2.2.2,r.2.2.2.1,r.2.2.2.2.1)):=by
 refine⟨λv h=>(by cases h),λ_=>?_⟩;rw[zQ ai];simp_all
theorem Gt(c:ha x.af)(ae:x.af.length<=1000){m:aU}(bc:cD x.af id=some m):∃j,j<x.af.length/\gH (x,id)=some ((j:Int),true)/\x.af.getD j aG=m:=by
 obtain⟨b,e⟩:=ki bc;obtain⟨r,f,g⟩:=rf (t:=x) (id:=id) (by omega);rcases g with⟨j,a,d,_,rfl⟩|⟨q,_⟩
 . exact⟨j,a,f,pC c (br a aG) b (by rw[d,e])⟩
 . obtain⟨i,k,rfl⟩:=gQ b;grind
theorem abj(H:kQ ts){n:Nat}(ih:xu ts n)(I:x∈ts)(k6:x.Kind=6)(ee:∀m,m∈x.af->0<=m.aB/\m.aB<ts.length)(ai:p.length<=4096)(D:path.length+(n+1)=200):
 fB ts b1 b2 path (match kL p with
  |some (id,q)=>(match cD x.af id with
   |some m=>(dC ts n m.aB q).map λv=>⟨6,false,0,[],id,[],[v],[]⟩
   |none=>if x.Open then some ⟨6,false,0,[],id,[],[],[⟨id,q⟩]⟩else none)
  |none=>none) (CW (x,p,ts,b1,b2,path)):=by
 obtain⟨o,l,s,u⟩:=Ph p;rw[CW,l];simp only[bg,ay];by_cases h0:o.2.2=0
 . obtain⟨v1,E,v3⟩:=s h0;rw[ao (by simp[h0]),v1];dsimp only;obtain⟨f,B⟩:=H.A x I (.inr k6);cases bc:cD x.af o.1 with
   |some m=>
    obtain⟨j,a,b,k⟩:=Gt f (by omega) bc;rw[b];simp only[ay];rw[ad trivial,ad (bu a),bx,k];obtain⟨t1,t2⟩:=ee m (ki bc).1;have c:=vO (step:=o.1) (path:=path) (by omega) (ih m.aB o.2.1 b1 b2 (path++[o.1]) t1 t2 (by omega) (by simp;omega));cases d:dC ts n m.aB o.2.1 with
    |none=>
     obtain⟨w,f1,f2,i⟩:=c.2 d;rw[i];exact⟨λv h=>by simp at h,λ_=>⟨_,_,_,rfl⟩⟩
    |some v=>
     rw[c.1 v d]
     exact⟨λe h=>by
      have:e=⟨6,false,0,[],o.1,[],[v],[]⟩:=(by simpa using h.symm);rw[this]
      simp[aa.bO,k6],λh=>by simp at h⟩
   |none=>
    obtain⟨r,y,z⟩:=rf (t:=x) (id:=o.1) (by omega);have g:r=(0,false):=by
     rcases z with⟨j,a,b,_,_⟩|⟨_,q⟩
     . exact absurd b (sS bc _ (br a aG))
     . exact q
    rw[y,g];cases C:x.Open with
    |false=>
     simp only[ay,cJ,cE,gg,cm,eq_self];exact jt (by omega) _ _ _
    |true=>
     simp only[ay,cJ,cE,ez,cm,eq_self];exact⟨λe h=>(by cases h;rw[k6]),λh=>(by cases h)⟩
 . rw[ad (by simp[h0]),u h0];exact jt (by omega) _ _ _
end
theorem Zq{l:List α}(h:2*j+1<l.length)(d:α):e7 (l.drop (2*j))=l.getD (2*j) d::e7 (l.drop (2*(j+1))):=by
 rw[m' (by omega:2*j<l.length),m' h,e7,ey (by omega)];rfl
theorem abk{l:List α}(h:2*j+1<l.length)(d:α):fi (l.drop (2*j))=l.getD (2*j+1) d::fi (l.drop (2*(j+1))):=by
 rw[m' (by omega:2*j<l.length),m' h,fi,ey h];rfl
theorem PI{i:Nat}(h:i<1000000):aT .i64 (i:Int) 2=((i+2:Nat):Int):=by
 have:=acX (a:=i) (b:=2) (by omega);exact this
section
variable {ts:List aj}
theorem MD{l:List ar}(ae:l.length<=90000)(he:l.length%2=0)(h:∀q,q∈l->∀step b1 b2,fB ts b1 b2 path (f q) (iK (step,x.Key,q,ts,b1,b2,path)))
 {z0 z2 z4 a0 a2 a4:Int}{z1 a1:Bool}{z3 a3:ar}{b1:au}{b2:Int}:∀(k j:Nat) (acc:List aa),2*(j+k)=l.length->acc.length=j->
 (∀m,cM f (e7 (l.drop (2*j)))=some m->s4 (l,((2*j:Nat):Int),ts,b1,b2,x,z0,z1,z2,z3,z4,a0,a1,a2,a3,a4,path,acc)=some (.inr (l,ts,b1,b2,x,z0,z1,z2,z3,z4,a0,a1,a2,a3,a4,path,acc++m)))/\
 (cM f (e7 (l.drop (2*j)))=none->∃w f1 f2,s4 (l,((2*j:Nat):Int),ts,b1,b2,x,z0,z1,z2,z3,z4,a0,a1,a2,a3,a4,path,acc)=some (.inl (false,ts,f1,f2,w,path)))
 |0,j,acc,e,d=>by
  rw[s4,ev,hI (by omega),show e7 ([]:List ar)=[]from rfl,cM];grind
 |k+1,j,acc,e,d=>by
  have aE:2*j<l.length:=by omega
  have a:=h _ (br aE []) (iC .i64 ((2*j:Nat):Int) 2) b1 b2;rw[s4,dc,ad (bu aE),bx,Zq (by omega) [],cM];cases b:f (l.getD (2*j) [])with
  |none=>
   obtain⟨w,f1,f2,n⟩:=a.2 b;simp_all
  |some v=>
   rw[a.1 v b];simp only[bg,ay,aa.bO,ez];rw[c2,ad (dv),PI (by omega)];obtain⟨o,i⟩:=MD ae he h (z0:=z0) (z1:=z1) (z2:=z2) (z3:=z3) (z4:=z4) (a0:=a0) (a1:=a1) (a2:=a2) (a3:=a3) (a4:=a4) (b1:=b1) (b2:=b2) k (j+1) (acc++[v]) (by omega) (by simp;omega);have c:2*j+2=2*(j+1):=(by omega);rw[c];cases hs:cM f (e7 (l.drop (2*(j+1))))with
   |none=>exact⟨λm g=>by simp at g,λ_=>i hs⟩
   |some p=>grind
theorem Mq{l:List ar}(ae:l.length<=90000)(he:l.length%2=0)(h:∀q,q∈l->∀step b1 b2,fB ts b1 b2 path (f q) (iK (step,x.aK,q,ts,b1,b2,path)))
 {z0 z2 z4 a0 a2 a4:Int}{z1 a1:Bool}{z3 a3:ar}{b1:au}{b2:Int}{ks:List aa}:∀(k j:Nat) (acc:List aa),2*(j+k)=l.length->acc.length=j->
 (∀m,cM f (fi (l.drop (2*j)))=some m->s5 (l,((2*j+1:Nat):Int),ts,b1,b2,x,z0,z1,z2,z3,z4,a0,a1,a2,a3,a4,path,ks,acc)=some (.inr (ts,b1,b2,z0,z1,z2,z3,z4,a0,a1,a2,a3,a4,path,ks,acc++m)))/\
 (cM f (fi (l.drop (2*j)))=none->∃w f1 f2,s5 (l,((2*j+1:Nat):Int),ts,b1,b2,x,z0,z1,z2,z3,z4,a0,a1,a2,a3,a4,path,ks,acc)=some (.inl (false,ts,f1,f2,w,path)))
 |0,j,acc,e,d=>by
  rw[s5,ev,hI (by omega),show fi ([]:List ar)=[]from rfl,cM];grind
 |k+1,j,acc,e,d=>by
  have aE:2*j+1<l.length:=by omega
  have a:=h _ (br aE []) (iC .i64 ((2*j+1:Nat):Int) 2) b1 b2;rw[s5,dc,ad (bu aE),bx,abk aE [],cM];cases b:f (l.getD (2*j+1) [])with
  |none=>
   obtain⟨w,f1,f2,n⟩:=a.2 b;simp_all
  |some v=>
   rw[a.1 v b];simp only[bg,ay,aa.bO,ez];rw[c2,ad (dv),PI (by omega)];obtain⟨o,i⟩:=Mq ae he h (z0:=z0) (z1:=z1) (z2:=z2) (z3:=z3) (z4:=z4) (a0:=a0) (a1:=a1) (a2:=a2) (a3:=a3) (a4:=a4) (b1:=b1) (b2:=b2) (ks:=ks) k (j+1) (acc++[v]) (by omega) (by simp;omega);have c:2*j+1+2=2*(j+1)+1:=(by omega);rw[c];cases hs:cM f (fi (l.drop (2*(j+1))))with
   |none=>exact⟨λm g=>by simp at g,λ_=>i hs⟩
   |some p=>grind
theorem acG{a b:aa}(c:cq a.bw)(d:cq b.bw):ri (a,b)=some (iE a b):=by
 obtain⟨r,e,f⟩:=IJ c d;have:=zO c d;grind
theorem NM{x:aj}(ai:path.length<=1000){l:List ar}(a:∀y,y∈ks->cq y.bw)(ae:ks.length<=90000)
 {z0 z2 z4 a0 a2 a4:Int}{z1 a1:Bool}{z3 a3:ar}{b1:au}{b2:Int}:∀(k i:Nat),ks.length-(i+1)=k->
 ((∀m,i<=m->m+1<ks.length->iE (ks.getD m aH) (ks.getD (m+1) aH)<0)/\qo (l,((i+1:Nat):Int),ts,b1,b2,x,z0,z1,z2,z3,z4,a0,a1,a2,a3,a4,path,ks)=some (.inr (l,ts,b1,b2,x,z0,z1,z2,z3,z4,a0,a1,a2,a3,a4,path,ks)))\/
 ((∃m,m+1<ks.length/\¬iE (ks.getD m aH) (ks.getD (m+1) aH)<0)/\∃w f1 f2,qo (l,((i+1:Nat):Int),ts,b1,b2,x,z0,z1,z2,z3,z4,a0,a1,a2,a3,a4,path,ks)=some (.inl (false,ts,f2,w,path,f1)))
 |0,i,c=>by
  rw[qo,ev];grind
 |k+1,i,c=>by
  have aE:i+1<ks.length:=by omega
  have aC:dY .i64 ((i+1:Nat):Int) 1=(i:Int):=by rw[kY];omega
  rw[qo,dc,aC];simp only[bg,ay];rw[ad (hY),dc,ad (bu aE),dc,bx,bx];simp only[aa.bO];rw[acG (a _ (br (by omega) aH)) (a _ (br aE aH))];simp only[ay];by_cases b:iE (ks.getD i aH) (ks.getD (i+1) aH)<0
  . rw[ao (by simpa using b),cg];rcases NM ai a ae (x:=x) (l:=l) (z0:=z0) (z1:=z1) (z2:=z2) (z3:=z3) (z4:=z4) (a0:=a0) (a1:=a1) (a2:=a2) (a3:=a3) (a4:=a4) (b1:=b1) (b2:=b2) k (i+1) (by omega)with⟨h1,d⟩|h
    . grind
    grind
  . rw[ad (by simpa using b),zQ ai];grind
theorem NN{m:Nat}(h:m<18446744073709551616):cq (jl m):=by
 unfold jl cq;omega
theorem l3:cq 0:=by unfold cq;omega
def mj(o:Option aa):Prop:=∀v,o=some v->cq v.bw
theorem mj.ite{c:Prop}[Decidable c]{a b:Option aa}(e:c->mj a)(f:¬c->mj b):mj (if c then a else b):=by grind
theorem mj.no:mj none:=λv h=>(by cases h)
theorem mj.zero{k i:Int}{b:Bool}{s:ar}{a:List aa}{r:List cG}:mj (some ⟨k,b,0,s,i,ks,a,r⟩):=λv h=>(by cases h;exact l3)
theorem mj.map{α:Type}{o:Option α}{k i:Int}{b:Bool}{s:ar}{ks a:α->List aa}{r:List cG}:mj (o.map λv=>⟨k,b,0,s,i,ks v,a v,r⟩):=λv h=>by obtain⟨_,_,rfl⟩:=kB.1 h;exact l3
theorem aca{n:Nat}(h:dC ts n t p=some v):cq v.bw:=by
 have key:mj (dC ts n t p):=by
  cases n with
  |zero=>unfold dC;exact .no
  |succ n=>
   unfold dC;refine .ite (λ_=>.ite (λ_=>.zero) λ_=>.ite (λ_=>.zero) λ_=>.no) λ_=>?_;refine .ite (λ_=>?_) λ_=>?_
   . cases b:hW p with
     |none=>exact .no
     |some m=>exact .ite (λ_=>λv h=>(by cases h;exact NN (Kw b))) λ_=>.no
   refine .ite (λ_=>.ite (λ_=>.zero) λ_=>.no) λ_=>?_;refine .ite (λ_=>?_) λ_=>?_
   . cases b:hW p with
     |none=>exact .no
     |some m=>exact .ite (λ_=>.zero) λ_=>.no
   refine .ite (λ_=>?_) λ_=>?_
   . cases p with
     |nil=>exact .zero
     |cons c q=>exact .ite (λ_=>.map) λ_=>.no
   refine .ite (λ_=>?_) λ_=>?_
   . cases kL p with
     |none=>exact .no
     |some a=>
      obtain⟨id,q⟩:=a;dsimp only;cases cD (ts.getD t.toNat aM).af id with
      |none=>exact .ite (λ_=>.zero) λ_=>.no
      |some m=>exact .map
   refine .ite (λ_=>?_) λ_=>?_
   . cases iD p with
     |none=>exact .no
     |some l=>exact .ite (λ_=>.map) λ_=>.no
   refine .ite (λ_=>?_) λ_=>?_
   . cases iD p with
     |none=>exact .no
     |some l=>
      refine .ite (λ_=>?_) λ_=>.no;cases cM (dC ts n (ts.getD t.toNat aM).Key) (e7 l)with
      |none=>exact .no
      |some ks=>exact .ite (λ_=>.map) λ_=>.no
   . cases jm p with
     |none=>exact .no
     |some l=>
      dsimp only;split
      . exact .ite (λ_=>.zero) λ_=>.no
      . exact .no
 exact key v h
theorem qX{f:α->Option c}:∀{l:List α} {m:List c},cM f l=some m->∀y,y∈m->∃a,a∈l/\f a=some y
 |[],m,h,y,ag=>by rw[cM]at h;cases h;cases ag
 |a::l,m,h,y,ag=>by
  rw[cM]at h;split at h
  . rename_i b e h1 d;cases h;rcases dK.1 ag with rfl|ag
    . grind
    . obtain⟨bR,k1,k2⟩:=qX d y ag;grind
  . cases h
theorem yP:∀{l:List α} {y:α},y∈e7 l->y∈l
 |[],y,h=>by cases h
 |[_],y,h=>by cases h
 |a::b::l,y,h=>by
  rcases dK.1 h with rfl|h
  . grind
  . exact .tail _ (.tail _ (yP h))
theorem Mr:∀(l:List α),(e7 l).length<=l.length
 |[]=>eB _
 |[_]=>ia _
 |a::b::l=>by
  show(e7 l).length+1<=l.length+1+1;have:=Mr l;omega
theorem agq{a:Nat}(h:a<1000000):iC .i64 (a:Int) 2=((a/2:Nat):Int):=by
 unfold iC;have e:(a:Int).tdiv 2=((a/2:Nat):Int):=by rw[Int.tdiv_eq_ediv_of_nonneg (by omega)];omega
 rw[e];exact nj
theorem acH{n:Nat}(ih:xu ts n)(k8:x.Kind=8)(bM:0<=x.Key/\x.Key<ts.length)(dA:0<=x.aK/\x.aK<ts.length)(ai:p.length<=4096)(M:path.length+(n+1)=200):
 fB ts b1 b2 path (match iD p with
  |some l=>if l.length%2 = 0/\((l.length/2:Nat):Int)<=x.Max then (match cM (dC ts n x.Key) (e7 l) with
   |some ks=>if r7 ks then(cM (dC ts n x.aK) (fi l)).map λs=>(⟨8,false,0,[],0,ks,s,[]⟩:aa)else none
   |none=>none)else none
  |none=>none) (ys (x,p,ts,b1,b2,path)):=by
 obtain⟨o,J,K,L⟩:=vN (p:=p) (by omega);rw[ys,J];simp only[bg,ay];by_cases h0:o.2=0
 . obtain⟨v1,z,v3⟩:=K h0;rw[v1];dsimp only;have G:cd (o.1.length:Int) 2=((o.1.length%2:Nat):Int):=by rw[hc];omega
   rw[G,agq (by omega)];by_cases he:o.1.length%2=0
   . have b:¬(bif (!(decide (o.2=0)))then true else(!(decide (((o.1.length%2:Nat):Int)=0))))=true:=(by grind);rw[ao b];by_cases t:((o.1.length/2:Nat):Int)<=x.Max
     . rw[ad (show o.1.length%2=0/\((o.1.length/2:Nat):Int)<=x.Max from⟨he,t⟩),ao (show ¬decide (x.Max<((o.1.length/2:Nat):Int))=true by simp only[e9];omega)];have D:∀q,q∈o.1->∀step b1 b2,fB ts b1 b2 path (dC ts n x.Key q) (iK (step,x.Key,q,ts,b1,b2,path)):=λq k step b1 b2=>
        vO (by omega) (ih x.Key q b1 b2 (path++[step]) bM.1 bM.2 (by have:=z q k;omega) (by simp;omega))
       have j:∀q,q∈o.1->∀step b1 b2,fB ts b1 b2 path (dC ts n x.aK q) (iK (step,x.aK,q,ts,b1,b2,path)):=λq k step b1 b2=>
        vO (by omega) (ih x.aK q b1 b2 (path++[step]) dA.1 dA.2 (by have:=z q k;omega) (by simp;omega))
       obtain⟨bF,c⟩:=MD (x:=x) (l:=o.1) (by omega) he D (z0:=0) (z1:=false) (z2:=0) (z3:=[]) (z4:=0) (a0:=x.Kind) (a1:=false) (a2:=0) (a3:=[]) (a4:=0) (b1:=b1) (b2:=b2) (o.1.length/2) 0 [] (by omega) rfl;have d0:o.1.drop (2*0)=o.1:=rfl;rw[d0]at bF c;have z0:((2*0:Nat):Int)=0:=rfl;rw[z0]at bF c;cases hs:cM (dC ts n x.Key) (e7 o.1)with
       |none=>
        obtain⟨w,f1,f2,r⟩:=c hs;rw[r];exact⟨λv h=>(by cases h),λ_=>⟨_,_,_,rfl⟩⟩
       |some ks=>
        rw[bF ks hs];simp only[ay,iP];have E:∀y,y∈ks->cq y.bw:=λy ag=>by
         obtain⟨a,_,C⟩:=qX hs y ag;exact aca C
        have F:ks.length<=90000:=by
         have:=sX hs;have:=Mr o.1;omega
        have B:=NM (ts:=ts) (x:=x) (path:=path) (by omega) (l:=o.1) E F (z0:=0) (z1:=false) (z2:=0) (z3:=[]) (z4:=0) (a0:=x.Kind) (a1:=false) (a2:=0) (a3:=[]) (a4:=0) (b1:=b1) (b2:=b2) _ 0 rfl;have z1:((0+1:Nat):Int)=1:=rfl;rw[z1]at B;rcases B with⟨A,d⟩|⟨⟨m,H,I⟩,w,f1,f2,d⟩
        . have g:r7 ks=true:=zP.2 λi j=>A i (ia _) j;rw[ad g,d];simp only[ay];obtain⟨e,f⟩:=Mq (x:=x) (l:=o.1) (by omega) he j (z0:=0) (z1:=false) (z2:=0) (z3:=[]) (z4:=0) (a0:=x.Kind) (a1:=false) (a2:=0) (a3:=[]) (a4:=0) (b1:=b1) (b2:=b2) (ks:=ks) (o.1.length/2) 0 [] (by omega) rfl;rw[d0]at e f;have z2:((2*0+1:Nat):Int)=1:=rfl;rw[z2]at e f;cases u:cM (dC ts n x.aK) (fi o.1)with
          |none=>
           obtain⟨w,f1,f2,r⟩:=f u;rw[r];exact⟨λv h=>(by cases h),λ_=>⟨_,_,_,rfl⟩⟩
          |some s=>
           rw[e s u];exact⟨λv h=>(by cases h;simp[k8]),λh=>(by cases h)⟩
        . have g:¬r7 ks=true:=λh=>I (zP.1 h m H);rw[ao g,d];exact⟨λv h=>(by cases h),λ_=>⟨aa.eta w,f1,f2,rfl⟩⟩
     . rw[ao (show ¬(o.1.length%2=0/\((o.1.length/2:Nat):Int)<=x.Max)fromλh=>t h.2),ad (show decide (x.Max<((o.1.length/2:Nat):Int))=true by simp only[e9];omega)];exact jt (by omega) _ _ _
   . have b:(bif (!(decide (o.2=0)))then true else(!(decide (((o.1.length%2:Nat):Int)=0))))=true:=(by grind);rw[ao (show ¬(o.1.length%2=0/\((o.1.length/2:Nat):Int)<=x.Max)fromλh=>he h.1),ad b];exact jt (by omega) _ _ _
 . have b:(bif (!(decide (o.2=0)))then true else(!(decide (cd (o.1.length:Int) 2=0))))=true:=(by simp[h0]);rw[ad b,L h0];exact jt (by omega) _ _ _
theorem abl{l:List c7}(m:aU)(ae:l.length<=90000):(∃j,j<l.length/\l.find? (λf=>decide (f.ah=m.ah))=some (l.getD j lV)/\yo (l,m)=some ((j:Int),m))\/
 (l.find? (λf=>decide (f.ah=m.ah))=none/\yo (l,m)=some (-1,m)):=by
 have h:=vB (λi=>oW (l,(l.length:Int),(i:Int),m)) l.length (λi=>decide ((l.getD i lV).ah=m.ah)) (λi=>.inl ((i:Int),m)) (.inr m)
  (λi a=>by
   rw[oW,dc,ad (bu a)];simp only[bg,ay,bx,aa.bO,Hh]
   rw[cg])
  (by rw[oW,c2];simp only[mH])
 have ds:oW (l,(l.length:Int),((0:Nat):Int),m)=oW (l,(l.length:Int),0,m):=rfl;simp only[ds]at h;rw[yo];simp only[mH];rcases h with⟨j,h1,c,d,b⟩|⟨h1,b⟩
 . left;refine⟨j,h1,?_,by rw[b];simp only[bg,ay,mH]⟩;rw[ey h1]at c⊢;rw[Gx];refine⟨c,j,h1,rfl,λk g=>?_⟩;have:=d k g;rw[ey (by omega)]at this;simpa using this
 . right;refine⟨?_,by rw[b];simp only[bg,ay,mH]⟩;rw[List.find?_eq_none];intro f e;obtain⟨i,a,rfl⟩:=gQ e;have:=h1 i a;rw[ey a]at this;simpa using this
def FP{a:Type}:Option a->Option (List a)->Option (List a)
 |some b,some m=>some (b::m)
 |_,_=>none
theorem EJ{b:Type}(f:α->Option b)(a:α)(l:List α):cM f (a::l)=FP (f a) (cM f l):=by rfl
def fJ(f:Int->ar->Option aa)(l:List c7)(m:aU):Option aa:=match l.find? (λf=>decide (f.ah=m.ah))with
 |some g=>f m.aB g.Data
 |none=>if m.b8 then some m.bU else none
theorem ME {x:aj}{path:au}(E:path.length<=900){f:Int->ar->Option aa}{l:List c7}(ae:l.length<=90000)(A:x.af.length<=16)
 (s:∀m,m∈x.af->m.b8=true->jA m.bU=some m.bU)
 (h:∀m,m∈x.af->∀q,q∈l->∀step b1 b2,fB ts b1 b2 path (f m.aB q.Data) (iK (step,m.aB,q.Data,ts,b1,b2,path)))
 {z0 z2 z4 a0 a2 a4:Int}{z1 a1:Bool}{z3 a3:ar}{b1:au}{b2:Int}:∀(k i:Nat) (acc:List aa),i+k=x.af.length->acc.length=i->
 (∀m,cM (fJ f l) (x.af.drop i)=some m->mz (l,x.af,(x.af.length:Int),(i:Int),ts,b1,b2,x,z0,z1,z2,z3,z4,a0,a1,a2,a3,a4,path,acc)=some (.inr (l,ts,b1,b2,x,z0,z1,z2,z3,z4,a0,a1,a2,a3,a4,path,acc++m)))/\
 (cM (fJ f l) (x.af.drop i)=none->∃w f1 f2,mz (l,x.af,(x.af.length:Int),(i:Int),ts,b1,b2,x,z0,z1,z2,z3,z4,a0,a1,a2,a3,a4,path,acc)=some (.inl (false,ts,f1,f2,w,path)))
 |0,i,acc,D,C=>by
  rw[mz,ev,hI (by omega),cM];grind
 |k+1,i,acc,D,C=>by
  have aE:i<x.af.length:=by omega
  have u:=br aE aG;have e:x.af.drop i=x.af.getD i aG::x.af.drop (i+1):=by rw[ey aE];exact m' aE
  have go:∀v,(∀n,cM (fJ f l) (x.af.drop (i+1))=some n->mz (l,x.af,(x.af.length:Int),((i+1:Nat):Int),ts,b1,b2,x,z0,z1,z2,z3,z4,a0,a1,a2,a3,a4,path,acc++[v])=some (.inr (l,ts,b1,b2,x,z0,z1,z2,z3,z4,a0,a1,a2,a3,a4,path,acc++[v]++n)))/\(cM (fJ f l) (x.af.drop (i+1))=none->∃w f1 f2,mz (l,x.af,(x.af.length:Int),((i+1:Nat):Int),ts,b1,b2,x,z0,z1,z2,z3,z4,a0,a1,a2,a3,a4,path,acc++[v])=some (.inl (false,ts,f1,f2,w,path))):=λv=>
   ME E ae A s h k (i+1) (acc++[v]) (by omega) (by simp;omega)
  rw [mz,dc,ad (bu aE),bx,e,EJ];simp only [bg,ay,mH];generalize x.af.getD i aG = a at *;have z:∀ (v:aa) (d:Option _),fJ f l a = some v->d = mz (l,x.af,(x.af.length:Int),((i+1:Nat):Int),ts,b1,b2,x,z0,z1,z2,z3,z4,a0,a1,a2,a3,a4,path,acc++[v])->
   (∀m,FP (fJ f l a) (cM (fJ f l) (x.af.drop (i+1)))=some m->d=some (.inr (l,ts,b1,b2,x,z0,z1,z2,z3,z4,a0,a1,a2,a3,a4,path,acc++m)))/\
   (FP (fJ f l a) (cM (fJ f l) (x.af.drop (i+1)))=none->∃w f1 f2,d=some (.inl (false,ts,f1,f2,w,path))):=by
   intro v d c B;obtain⟨g1,g2⟩:=go v;rw[c,B];cases hs:cM (fJ f l) (x.af.drop (i+1))with
   |none=>exact⟨λm b=>(by cases b),λ_=>g2 hs⟩
   |some n=>
    refine⟨λm b=>?_,λh=>(by cases h)⟩;have:m=v::n:=(by cases b;rfl)
    grind
  rcases abl a ae with⟨j,y,g,r⟩|⟨g,r⟩
  . rw[r];simp only[ay];rw[ad (by simp),ad (bu y),bx];have t:=h a u _ (br y lV) a.ah b1 b2;have p:fJ f l a=f a.aB (l.getD j lV).Data:=by unfold fJ;rw[g]
    cases c:f a.aB (l.getD j lV).Data with
    |none=>
     obtain⟨w,f1,f2,F⟩:=t.2 c;rw[F,p,c];exact⟨λm b=>(by cases b),λ_=>⟨w,f1,f2,by simp[aa.bO]⟩⟩
    |some v=>
     rw[t.1 v c];simp only[ay,aa.bO,ez];rw[c2,ad (dv),cg];grind
  . rw[r];simp only[ay];rw[c2];cases o:a.b8 with
    |true=>
     rw[ad rfl];simp only[aa.bO];rw[s a u o];simp only[ay,aa.bO];rw[ad (dv),cg];exact z a.bU _ (by unfold fJ;rw[g];simp[o]) rfl
    |false=>
     have p:fJ f l a=none:=by unfold fJ;rw[g];simp[o]
     rw[c2,ad (dv),zQ (by simp;omega),p];simp only[ay,aa.bO];have aC:dY .i64 ((path++[a.ah]).length:Int) 1=(path.length:Int):=by rw[uI (by simp<;>omega) (by simp<;>omega)];simp
     rw[aC,ad (iN.2 (by simp;omega)),ad (by simp),bx];exact⟨λm b=>(by cases b),λ_=>⟨_,_,_,by simp;exact⟨rfl,rfl,rfl⟩⟩⟩
theorem mZ(d:x.af.length<=1000)(c:ha x.af)(id:Int):∃r,gH (x,id)=some r/\r.2=(cD x.af id).isSome:=by
 cases bc:cD x.af id with
 |some m=>
  obtain⟨j,a,b,g⟩:=Gt c d bc;grind
 |none=>
  obtain⟨r,e,f⟩:=rf (t:=x) (id:=id) (by omega);refine⟨r,e,?_⟩;rcases f with⟨j,a,b,_,_⟩|⟨_,q⟩
  . exact absurd b (sS bc _ (br a aG))
  grind
def ic(x:aj)(f:c7):Bool:=(cD x.af f.ah).isSome || !f.cu
def fj(x:aj)(l:List c7):List cG:=(l.filter λf=>!(cD x.af f.ah).isSome).map λf=>⟨f.ah,f.Data⟩
theorem I3(j:path.length<=900)(c:x.af.length<=1000)(b:ha x.af){l:List c7}(ae:l.length<=90000)
 {z0 z2 z4 a0 a2 a4:Int}{z1 a1:Bool}{z3 a3:ar}{b1:au}{b2:Int}{its:List aa}:∀(k i:Nat) (acc:List cG),i+k=l.length->acc.length<=i->
 ((l.drop i).all (ic x)=true->oY (l,(l.length:Int),(i:Int),ts,b1,b2,x,z0,z1,z2,z3,z4,a0,a1,a2,a3,a4,path,its,acc)=some (.inr (ts,b1,b2,z0,z1,z2,z3,z4,a0,a1,a2,a3,a4,path,its,acc++fj x (l.drop i))))/\
 ((l.drop i).all (ic x)=false->∃w f1 f2,oY (l,(l.length:Int),(i:Int),ts,b1,b2,x,z0,z1,z2,z3,z4,a0,a1,a2,a3,a4,path,its,acc)=some (.inl (false,ts,f2,w,path,f1)))
 |0,i,acc,p,n=>by
  rw[oY,ev,hI (by omega)];exact⟨λ_=>by simp[fj],λh=>by simp at h⟩
 |k+1,i,acc,p,n=>by
  have aE:i<l.length:=by omega
  have e:l.drop i=l.getD i lV::l.drop (i+1):=by rw[ey aE];exact m' aE
  obtain⟨r,q,m⟩:=mZ c b (l.getD i lV).ah;rw[oY,dc,ad (bu aE),bx,e];simp only[bg,ay];generalize l.getD i lV=f at*;rw[q];simp only[ay];have o:(f::l.drop (i+1)).all (ic x)=(ic x f&&(l.drop (i+1)).all (ic x)):=rfl;rw[o];cases hs:(cD x.af f.ah).isSome with
  |true=>
   have a:ic x f=true:=by unfold ic;rw[hs];rfl
   have d:fj x (f::l.drop (i+1))=fj x (l.drop (i+1)):=by unfold fj;rw[List.filter_cons_of_neg (by rw[hs];simp)]
   rw[m,hs,ad rfl,a,d,cg,Bool.true_and];exact I3 j c b ae k (i+1) acc (by omega) (by omega)
  |false=>
   rw[m,hs,c2];cases g:f.cu with
   |true=>
    have a:ic x f=false:=by unfold ic;rw[hs,g];rfl
    rw[ad rfl,ad (dv),zQ (by simp;omega),a];simp only[ay,aa.bO];have aC:dY .i64 ((path++[f.ah]).length:Int) 1=(path.length:Int):=by rw[uI (by simp<;>omega) (by simp<;>omega)];simp
    rw[aC,ad (iN.2 (by simp;omega)),ad (by simp),bx];simp_all
   |false=>
    have a:ic x f=true:=by unfold ic;rw[hs,g];rfl
    have d:fj x (f::l.drop (i+1))=⟨f.ah,f.Data⟩::fj x (l.drop (i+1)):=by unfold fj;rw[List.filter_cons_of_pos (by rw[hs];rfl)];rfl
    rw[c2,ad (dv),a,d,cg,Bool.true_and];have:=I3 j c b ae (z0:=z0) (z1:=z1) (z2:=z2) (z3:=z3) (z4:=z4) (a0:=a0) (a1:=a1) (a2:=a2) (a3:=a3) (a4:=a4) (b1:=b1) (b2:=b2) (its:=its) k (i+1) (acc++[⟨f.ah,f.Data⟩]) (by omega) (by simp;omega);grind
theorem Zr(H:kQ ts)(HW:∀x,x∈ts->∀m,m∈x.af->m.b8=true->jA m.bU=some m.bU){n:Nat}(ih:xu ts n)(I:x∈ts)(k5:x.Kind=5)(ee:∀m,m∈x.af->0<=m.aB/\m.aB<ts.length)(ai:p.length<=4096)(C:path.length+(n+1)=200):
 (∀l,jm p=some l->∀a,cM (fJ (dC ts n) l) x.af=some a->l.all (ic x)=true->yu (x,p,ts,b1,b2,path)=some (⟨5,false,0,[],0,[],a,fj x l⟩,true,ts,b1,b2,path))/\
 ((jm p=none\/(∃l,jm p=some l/\(cM (fJ (dC ts n) l) x.af=none\/l.all (ic x)=false)))->∃w f1 f2,yu (x,p,ts,b1,b2,path)=some (w,false,ts,f1,f2,path)):=by
 obtain⟨e,y⟩:=H.A x I (.inl k5);obtain⟨o,s,t,u⟩:=I6 (p:=p) (by omega);rw[yu,s];simp only[bg,ay];by_cases h0:o.2=0
 . obtain⟨v1,v,v3,v4⟩:=t h0;rw[ao (by simp[h0]),v1];have z:=H.T x I;have g:∀m,m∈x.af->m.b8=true->jA m.bU=some m.bU:=λm b j=>HW x I m b j;have aw:∀m,m∈x.af->∀q,q∈o.1->∀step b1 b2,fB ts b1 b2 path (dC ts n m.aB q.Data) (iK (step,m.aB,q.Data,ts,b1,b2,path)):=λm b q r step b1 b2=>
    vO (by omega) (ih m.aB q.Data b1 b2 (path++[step]) (ee m b).1 (ee m b).2 (by have:=(v q r).1;omega) (by simp;omega))
   obtain⟨bF,c⟩:=ME (x:=x) (path:=path) (by omega) (f:=dC ts n) (l:=o.1) (by omega) (by omega) g aw (z0:=0) (z1:=false) (z2:=0) (z3:=[]) (z4:=0) (a0:=x.Kind) (a1:=false) (a2:=0) (a3:=[]) (a4:=0) (b1:=b1) (b2:=b2) x.af.length 0 [] (by omega) rfl;rw[j2]at bF c;have z0:((0:Nat):Int)=0:=rfl;rw[z0]at bF c;have B:=λits=>I3 (ts:=ts) (x:=x) (path:=path) (by omega) (by omega) e (l:=o.1) (by omega) (z0:=0) (z1:=false) (z2:=0) (z3:=[]) (z4:=0) (a0:=x.Kind) (a1:=false) (a2:=0) (a3:=[]) (a4:=0) (b1:=b1) (b2:=b2) (its:=its) o.1.length 0 [] (by omega) (eB _);rw[j2,z0]at B;constructor
   . intro l ae a k i;cases ae;rw[bF a k];simp only[ay,iP];rw[(B a).1 i];simp[k5]
   . intro h;rcases h with h|⟨l,ae,h⟩
     . cases h
     . cases ae;cases hs:cM (fJ (dC ts n) o.1) x.af with
       |none=>
        obtain⟨w,f1,f2,d⟩:=c hs;rw[d];exact⟨_,_,_,rfl⟩
       |some a=>
        rcases h with h|h
        . rw[hs]at h;cases h
        . obtain⟨w,f1,f2,d⟩:=(B a).2 h;rw[bF a hs];simp only[ay,iP];rw[d];exact⟨aa.eta w,f1,f2,rfl⟩
 . rw[ad (by simp[h0]),u h0];constructor
   . intro l ae;cases ae
   . intro _;rw[zQ (by omega)];exact⟨_,_,_,rfl⟩
end
structure nq (ts:List aj):Prop where
 S:kQ ts
 V:p7 ts
 W:∀x,x∈ts->∀m,m∈x.af->m.b8=true->jA m.bU=some m.bU
theorem cX.hi(H:cX ts):nq ts:=⟨H.V.ie H.T,H.V,λx I m a c=>abi ((H.T x I).3 m a) (by have:=H.W x I m a c;omega)⟩
section
variable {ts:List aj}
theorem nq.mem(H:nq ts)(I:x∈ts){m:aU}(a:m∈x.af):0<=m.aB/\m.aB<ts.length:=
 H.V.U x I m.aB (by unfold fI;simp;exact .inl ⟨m,a,rfl⟩)
theorem nq.elem(H:nq ts)(I:x∈ts)(a:7<=x.Kind):0<=x.aK/\x.aK<ts.length:=
 H.V.U x I x.aK (by unfold fI;simp[a])
theorem nq.key(H:nq ts)(I:x∈ts)(a:x.Kind=8):0<=x.Key/\x.Key<ts.length:=
 H.V.U x I x.Key (by unfold fI;simp[a])
def JJ:aa:=⟨0,false,0,[],0,[],[],[]⟩
abbrev rZ:=Int->ar->Option aa
def w4(p:ar):Option aa:=if p=[]then some ⟨1,false,0,[],0,[],[],[]⟩else if p=[1]then some ⟨1,true,0,[],0,[],[],[]⟩else none
def w5(x:aj)(p:ar):Option aa:=match hW p with
 |some m=>if x.bT<=jl m/\jl m<=x.bW then some ⟨2,false,jl m,[],0,[],[],[]⟩else none
 |none=>none
def w6(x:aj)(p:ar):Option aa:=if(p.length:Int)<=x.Max then some ⟨3,false,0,p,0,[],[],[]⟩else none
def w7(x:aj)(p:ar):Option aa:=match hW p with
 |some m=>if 1<=m/\m<=1000/\((x.bo.any λy=>decide (y.ah=(m:Int)))||x.Open)=true then some ⟨4,false,0,[],(m:Int),[],[],[]⟩else none
 |none=>none
def w8(f:rZ)(x:aj):ar->Option aa
 |[]=>some ⟨9,false,0,[],0,[],[],[]⟩
 |c::q=>if c=1 then(f x.aK q).map λv=>⟨9,false,0,[],0,[],[v],[]⟩else none
def Am(f:rZ)(x:aj)(p:ar):Option aa:=match kL p with
 |some (id,q)=>(match cD x.af id with
  |some m=>(f m.aB q).map λv=>⟨6,false,0,[],id,[],[v],[]⟩
  |none=>if x.Open then some ⟨6,false,0,[],id,[],[],[⟨id,q⟩]⟩else none)
 |none=>none
def ub(f:rZ)(x:aj)(p:ar):Option aa:=match iD p with
 |some l=>if(l.length:Int)<=x.Max then(cM (f x.aK) l).map λa=>⟨7,false,0,[],0,[],a,[]⟩else none
 |none=>none
def An(f:rZ)(x:aj)(p:ar):Option aa:=match iD p with
 |some l=>if l.length%2 = 0/\((l.length/2:Nat):Int)<=x.Max then (match cM (f x.Key) (e7 l) with
  |some ks=>if r7 ks then(cM (f x.aK) (fi l)).map λa=>⟨8,false,0,[],0,ks,a,[]⟩else none
  |none=>none)else none
 |none=>none
def ua(f:rZ)(x:aj)(p:ar):Option aa:=match jm p with
 |some l=>(match cM (fJ f l) x.af with
  |some a=>if l.all (ic x) then some ⟨5,false,0,[],0,[],a,fj x l⟩else none
  |none=>none)
 |none=>none
def w9(f:rZ)(x:aj)(p:ar):Option aa:=
 if x.Kind=1 then w4 p else if x.Kind=2 then w5 x p else if x.Kind=3 then w6 x p else if x.Kind=4 then w7 x p else if x.Kind=9 then w8 f x p else if x.Kind=6 then Am f x p else if x.Kind=7 then ub f x p else if x.Kind=8 then An f x p else ua f x p
theorem I7(t:Int)(p:ar):dC ts 0 t p=none:=by rw[dC.eq_def]
theorem yQ(n:Nat)(t:Int)(p:ar):dC ts (n+1) t p=w9 (dC ts n) (ts.getD t.toNat aM) p:=by rfl
theorem fB.eta(h:fB ts b1 b2 path o a):
 fB ts b1 b2 path o (a>>=λr=>some (aa.eta r.1,r.2.1,r.2.2.1,r.2.2.2.1,r.2.2.2.2.1,r.2.2.2.2.2)):=by
 refine⟨λv c=>?_,λaN=>?_⟩
 . rw[h.1 v c];simp[aa.bO]
 . obtain⟨w,f1,f2,e⟩:=h.2 aN;exact⟨w,f1,f2,by rw[e];simp[aa.bO]⟩
theorem fB.one(v:aa):fB ts b1 b2 path (some v) (some (v,true,ts,b1,b2,path)):=⟨λa h=>by cases h;rfl,λh=>by cases h⟩
theorem fB.cast{c:Option aa}(e:o=c)(h:fB ts b1 b2 path o a):fB ts b1 b2 path c a:=e▸h
theorem JN{l:List dO}{m:Nat}:(∃y,y∈l/\y.ah=(m:Int))↔(l.any λy=>decide (y.ah=(m:Int)))=true:=by grind
theorem abm(H:nq ts){n:Nat}(ih:xu ts n)(I:x∈ts)(k7:x.Kind=7)(ai:p.length<=4096)(r:path.length+(n+1)=200):
 fB ts b1 b2 path (ub (dC ts n) x p) (CX (x,p,ts,b1,b2,path)):=by
 obtain⟨o,i,j,k⟩:=vN (p:=p) (by omega);obtain⟨aC,c⟩:=H.elem I (by omega);rw[CX,i];unfold ub;simp only[bg,ay];by_cases h0:o.2=0
 . obtain⟨v1,m,v3⟩:=j h0;rw[ao (by simp[h0]),v1];dsimp only;by_cases b:(o.1.length:Int)<=x.Max
   . rw[ad b,ev];have d:∀q,q∈o.1->∀step b1 b2,fB ts b1 b2 path (dC ts n x.aK q) (iK (step,x.aK,q,ts,b1,b2,path)):=λq e step b1 b2=>
      vO (by omega) (ih x.aK q b1 b2 (path++[step]) aC c (by have:=m q e;omega) (by simp;omega))
     obtain⟨bF,a⟩:=MB (x:=x) (l:=o.1) (by omega) d (z0:=0) (z1:=false) (z2:=0) (z3:=[]) (z4:=0) (a0:=x.Kind) (a1:=false) (a2:=0) (a3:=[]) (a4:=0) (b1:=b1) (b2:=b2) o.1.length 0 [] (by omega) rfl;rw[j2]at bF a;have z0:((0:Nat):Int)=0:=rfl;rw[z0]at bF a;cases hs:cM (dC ts n x.aK) o.1 with
     |none=>
      obtain⟨w,f1,f2,f⟩:=a hs;rw[f];exact⟨λv h=>by simp at h,λ_=>⟨_,_,_,rfl⟩⟩
     |some g=>
      rw[bF g hs];exact⟨λs h=>by grind,λh=>by simp at h⟩
   . rw[ao b,dc];exact jt (by omega) _ _ _
 . rw[ad (by simp[h0]),k h0];exact jt (by omega) _ _ _
theorem NO(H:nq ts):∀n,n<=200->xu ts n
 |0,_=>λt p b1 b2 path t0 t1 ai b=>by
  rw[o0,dc,I7];exact jt (by omega) _ _ _
 |n+1,aN=>λt p b1 b2 path t0 t1 ai b=>by
  have ih:=NO H n (by omega);obtain⟨j,rfl⟩:=Int.eq_ofNat_of_zero_le t0;have A:j<ts.length:=by omega
  rw[o0,ev,ad (bu A),yQ,bx];have I:=br A aM;generalize ts.getD j aM=x at*;obtain⟨X,Y⟩:=H.S.K x I;have N:x.bo.length<9223372036854775807:=gq (mS (H.S.T x I).1);unfold w9;simp only[bg,ay];obtain⟨u,C,D,E⟩:=acA p;by_cases k1:x.Kind=1
  . rw[ad k1,ad (show decide (x.Kind=1)=true by simpa using k1)];unfold w4;by_cases h0:p=[]
    . rw[ad h0,ao (by simp[h0]),k1,h0];exact .one _
    . by_cases h1:p=[1]
      . rw[ao h0,ad h1,ao (by simp[h1]),k1,h1];exact .one _
      . rw[ao h0,ao h1,ad (by simp[h0,h1])];exact jt (by omega) _ _ _
  rw[ao k1,ao (show ¬decide (x.Kind=1)=true by simpa using k1)];by_cases k2:x.Kind=2
  . rw[ad k2,ad (show decide (x.Kind=2)=true by simpa using k2),C];unfold w5;simp only[ay];by_cases h0:u.2=0
    . obtain⟨m,d,o⟩:=D h0;rw[d,o,ad6 (Kw d),ao (by simp[h0])];simp only[ay];by_cases a:x.bT<=jl m/\jl m<=x.bW
      . rw[ad a,ev,k2];exact .one _
      . rw[ao a,dc];exact jt (by omega) _ _ _
    . rw[E h0,ad (by simp[h0])];exact jt (by omega) _ _ _
  rw[ao k2,ao (show ¬decide (x.Kind=2)=true by simpa using k2)];by_cases k3:x.Kind=3
  . rw[ad k3,ad (show decide (x.Kind=3)=true by simpa using k3)];unfold w6;by_cases a:(p.length:Int)<=x.Max
    . rw[ad a,ev,k3];exact .one _
    . rw[ao a,dc];exact jt (by omega) _ _ _
  rw[ao k3,ao (show ¬decide (x.Kind=3)=true by simpa using k3)];by_cases k4:x.Kind=4
  . rw[ad k4,ad (show decide (x.Kind=4)=true by simpa using k4),C];unfold w7;simp only[ay];by_cases h0:u.2=0
    . obtain⟨m,d,o⟩:=D h0;rw[d,o];dsimp only;by_cases a:1<=m/\m<=1000
      . obtain⟨q,R,_,U⟩:=v' (t:=x) (m:Int) N;have e:b7 .i64 (m:Int)=(m:Int):=nj;rw[ao (show ¬(bif bif !decide (u.2=0)then true else decide ((m:Int)<1)then true else decide (1000<(m:Int)))=true by simp[h0];omega),e,R];simp only[ay];have M:q.2=(x.bo.any λy=>decide (y.ah=(m:Int))):=by
         have:=(ID U).trans JN;grind
        rw[M,k4];by_cases s:((x.bo.any λy=>decide (y.ah=(m:Int)))||x.Open)=true
        . rw[ad (show 1<=m/\m<=1000/\((x.bo.any λy=>decide (y.ah=(m:Int)))||x.Open)=true from⟨a.1,a.2,s⟩),ao]
          . exact .one _
          grind
        . rw[ao (show ¬(1<=m/\m<=1000/\((x.bo.any λy=>decide (y.ah=(m:Int)))||x.Open)=true)fromλh=>s h.2.2),ad]
          . exact jt (by omega) _ _ _
          grind
      . rw[ao (show ¬(1<=m/\m<=1000/\((x.bo.any λy=>decide (y.ah=(m:Int)))||x.Open)=true)fromλh=>a ⟨h.1,h.2.1⟩),ad (by simp[h0];omega)];exact jt (by omega) _ _ _
    . rw[E h0,ad (by simp[h0])];exact jt (by omega) _ _ _
  rw[ao k4,ao (show ¬decide (x.Kind=4)=true by simpa using k4)];by_cases k9:x.Kind=9
  . rw[ad k9,ad (show decide (x.Kind=9)=true by simpa using k9)];obtain⟨aC,J⟩:=H.elem I (by omega);cases p with
    |nil=>
     rw[ad (by simp),w8,k9];exact .one _
    |cons c q=>
     have ae:(c::q).length=q.length+1:=rfl;have P:aQ 0 (c::q).length=true:=bu (k:=0) (by simp);have b0:h4 (c::q) 0=(c.toNat:Int):=rfl;have j5:eH 1 ((c::q).length:Int) (c::q).length=true:=iN.2 (by simp<;>omega);have G:eZ (c::q) 1 ((c::q).length:Int)=q:=by
      unfold eZ;simp
     rw[c2,ad P,b0,w8];by_cases g:c=1
     . subst g;rw[ad rfl,c2,ad j5,G];have z:=vO (step:=0) (path:=path) (by omega) (ih x.aK q b1 b2 (path++[0]) aC J (by simp at ai;omega) (by simp;omega));cases B:dC ts n x.aK q with
       |none=>
        obtain⟨w,f1,f2,O⟩:=z.2 B;rw[O];exact⟨λv h=>by simp at h,λ_=>⟨_,_,_,rfl⟩⟩
       |some v=>
        rw[z.1 v B]
        exact⟨λV h=>by
         have:V=⟨9,false,0,[],0,[],[v],[]⟩:=(by simpa using h.symm);rw[this]
         simp[aa.bO,k9],λh=>by simp at h⟩
     . have L:¬((c.toNat:Int)=1):=λh=>g (UInt8.toNat.inj (by show c.toNat=1;omega));rw[ao g,ad (by simpa using L)];exact jt (by omega) _ _ _
  rw[ao k9,ao (show ¬decide (x.Kind=9)=true by simpa using k9)];by_cases k6:x.Kind=6
  . rw[ad k6,ad (show decide (x.Kind=6)=true by simpa using k6)];refine fB.eta (fB.cast ?_ (abj H.S ih I k6 (λm i=>H.mem I i) ai b));rfl
  rw[ao k6,ao (show ¬decide (x.Kind=6)=true by simpa using k6)];by_cases k7:x.Kind=7
  . rw[ad k7,ad (show decide (x.Kind=7)=true by simpa using k7)];exact fB.eta (abm H ih I k7 ai b)
  rw[ao k7,ao (show ¬decide (x.Kind=7)=true by simpa using k7)];by_cases k8:x.Kind=8
  . rw[ad k8,ad (show decide (x.Kind=8)=true by simpa using k8)];refine fB.eta (fB.cast ?_ (acH ih k8 (H.key I k8) (H.elem I (by omega)) ai b));rfl
  rw[ao k8,ao (show ¬decide (x.Kind=8)=true by simpa using k8)];have k5:x.Kind=5:=by omega
  obtain⟨F,f⟩:=Zr H.S H.W ih I k5 (λm i=>H.mem I i) ai (b1:=b1) (b2:=b2) b;refine fB.eta ?_;unfold ua;cases ae:jm p with
  |none=>exact⟨λv h=>(by cases h),λ_=>f (.inl ae)⟩
  |some l=>
   dsimp only;cases hs:cM (fJ (dC ts n) l) x.af with
   |none=>exact⟨λv h=>(by cases h),λ_=>f (.inr ⟨l,ae,.inl hs⟩)⟩
   |some Q=>
    dsimp only;cases r:l.all (ic x)with
    |true=>exact⟨λv h=>(by cases h;exact F l ae Q hs r),λh=>(by cases h)⟩
    |false=>exact⟨λv h=>(by cases h),λ_=>f (.inr ⟨l,ae,.inr r⟩)⟩
end
theorem acI(n:Nat):(gA (jl n)).toNat=n:=by
 unfold jl gA;omega
theorem NP:∀(k:Nat) (s:ar),s.length=k->s.head?≠some 0->fk (iw 0 s)=s
 |0,s,c,h=>by
  have:s=[]:=kz c;subst this;rw[iw,fk,ad rfl]
 |k+1,s,c,h=>by
  have d:s≠[]:=λh0=>by rw[h0]at c;cases c
  have es:=List.dropLast_concat_getLast d;generalize s.getLast d=b at es;have ae:s.dropLast.length=k:=by simp[c]
  generalize s.dropLast=s' at es ae;subst es;have g:b.toNat<256:=CH b;rw[JM];by_cases h0:s'=[]
  . subst h0;have f:b≠0:=λe=>h (by rw[e];rfl);have:b.toNat≠0:=λe=>f (UInt8.toNat.inj e);show fk (0*256+b.toNat)=[b];rw[fk,a',show(0*256+b.toNat)/256=0 by omega,fk,ad rfl,show(0*256+b.toNat)%256=b.toNat by omega];simp
  . have ih:=NP k s' ae (λe=>h (by cases s' with|nil=>exact absurd rfl h0|cons a l=>simpa using e));have i:iw 0 s'≠0:=λe=>by rw[e,fk,ad rfl]at ih;exact h0 ih.symm
    rw[fk,a',show(iw 0 s'*256+b.toNat)/256=iw 0 s' by omega,ih,show(iw 0 s'*256+b.toNat)%256=b.toNat by omega];simp
theorem MF{s:ar}{n:Nat}(h:hW s=some n):fk n=s:=by
 unfold hW at h;split at h
 . cases h
 . rename_i ab;cases h;exact NP _ s rfl (λe=>ab (.inl e))
theorem Pj(s:ar):∀(f i n m k:Nat),ig s f i n=((m:Int),(k:Int),0)->∃q,m=n+q*2^(7*i)/\s.drop i=dL q++s.drop k/\(0<i->0<q)
 |0,i,n,m,k,h=>by rw[ig]at h;simp at h
 |f+1,i,n,m,k,h=>by
  rw[ig]at h;split at h
  . rename_i b;have a:s.drop i=s.getD i 0::s.drop (i+1):=by rw[ey b];exact m' b
    have o:(s.getD i 0).toNat<256:=CH _;generalize s.getD i 0=c at*;split at h
    . simp at h
    . split at h
      . rename_i d;obtain⟨q,t,j,l⟩:=Pj s f (i+1) _ m k h;have r:=l (by omega);refine⟨c.toNat%128+128*q,?_,?_,λ_=>by omega⟩
        . grind
        . rw[pA (by omega),show(c.toNat%128+128*q)/128=q by omega,show(c.toNat%128+128*q)%128+128=c.toNat by omega,a,j];simp
      . rename_i d;split at h
        . simp at h
        . rename_i h0;simp only[dG,tL]at h;have g:m=n+c.toNat*2^(7*i):=by have:=h.1;exact_mod_cast this.symm
          have e:k=i+1:=by have:=h.2;exact_mod_cast this.symm
          refine⟨c.toNat,g,?_,λp=>?_⟩
          . rw[qN (by omega),a,e];simp
          omega
  . simp at h
theorem JO{s:ar}{m k:Nat}(h:ig s 10 0 0=((m:Int),(k:Int),0)):s=dL m++s.drop k:=by
 obtain⟨q,a,b,_⟩:=Pj s 10 0 0 m k h;grind
theorem Ms{s a b:ar}(h:jK s=some (a,b)):s=c8 a++b:=by
 unfold jK at h;rcases ou s with⟨e,he,c⟩|⟨m,k,c,j,i,l⟩
 . grind
 . have ds:=JO c;rw[c]at h;dsimp only at h;split at h
   . rename_i g;simp only[dy,dG]at h;obtain⟨h1,d⟩:=h;have f:a.length=m:=by
      rw[<-h1,ry,l9];omega
     unfold c8;rw[f,kD,<-h1,<-d,GB];simpa using ds
   . cases h
theorem Mt:∀(n:Nat) (s:ar) (b l:List ar),s.length<=n->s.length+b.length<=100000->im (s,b)=some (.inr l)->∃c,l=b++c/\c.flatMap c8=s
 |n,s,b,l,aN,g,h=>by
  rw[im]at h;by_cases h0:s=[]
  . simp_all
  . rw[ad (by simp[h0]),n9]at h;simp only[bg,ay]at h;cases a:jK s with
    |none=>
     rw[a]at h;simp[eu]at h
    |some r=>
     obtain⟨x,rest⟩:=r;rw[a]at h;have ae:=qQ a;have e:¬((!(eu (some (x,rest))).2.2)=true):=(by simp[eu]);have f:room 16 (b++[(eu (some (x,rest))).1]).length=true:=dv;rw[ao e,ad f]at h
     match n,aN with
     |0,aN=>omega
     |n+1,aN=>
      obtain⟨c,aC,d⟩:=Mt n rest _ l (by omega) (by simp;omega) h;refine⟨x::c,by rw[aC];simp[eu],?_⟩;rw[hJ,d];exact(Ms a).symm
theorem Mu:∀(n:Nat) (s:ar) (b:List ar),s.length<=n->s.length+b.length<=100000->im (s,b)=some (.inl 0)->False
 |n,s,b,aN,e,h=>by
  rw[im]at h;by_cases h0:s=[]
  . grind
  . rw[ad (by simp[h0]),n9]at h;simp only[bg,ay]at h;cases a:jK s with
    |none=>
     rw[a]at h;simp[eu]at h
    |some r=>
     obtain⟨x,rest⟩:=r;rw[a]at h;have ae:=qQ a;have c:¬((!(eu (some (x,rest))).2.2)=true):=(by simp[eu]);have d:room 16 (b++[(eu (some (x,rest))).1]).length=true:=dv;rw[ao c,ad d]at h
     match n,aN with
     |0,aN=>omega
     |n+1,aN=>exact Mu n rest _ (by omega) (by simp;omega) h
theorem Ls:∀(n:Nat) (s:ar) (last:Nat) (b:List c7),s.length<=n->s.length+b.length<=100000->hA ((last:Int),s,b)=some (.inl 0)->False
 |n,s,last,b,aN,g,h=>by
  rw[hA]at h;by_cases h0:s=[]
  . grind
  . rw[ad (by simp[h0])]at h;rcases ou s with⟨e,he,al⟩|⟨m,k,al,i,c,d⟩
    . rw[qV he al]at h;simp at h
    . rw[n5 al c]at h;simp only[bg,ay,Ae d]at h;split at h
      . cases h
      . rw[n9 (by rw[l9];omega)]at h;simp only[ay]at h;cases a:jK (s.drop k)with
        |none=>
         rw[a]at h;simp[eu]at h
        |some r=>
         obtain⟨x,rest⟩:=r;rw[a]at h;have ae:=qQ a;rw[l9]at ae;have f:¬((!(eu (some (x,rest))).2.2)=true):=(by simp[eu]);rw[ao f]at h;split at h
         . match n,aN with
           |0,aN=>omega
           |n+1,aN=>exact Ls n rest (m/2) _ (by omega) (by simp;omega) h
         . cases h
theorem EO(ai:p.length<=90000){l:List ar}(h:iD p=some l):l.flatMap c8=p:=by
 unfold iD at h;rw[nS]at h;cases a:im (p,[])with
 |none=>rw[a]at h;simp at h
 |some o=>
  rw[a]at h;cases o with
  |inl e=>
   by_cases he:e=0
   . simp[he]at h;exfalso;obtain⟨d,a1,_⟩:=Jm p.length p [] (by omega) (by simp;omega);exact Mu p.length p [] (by omega) (by simp;omega) (by rw[a,he])
   grind
  |inr l2=>
   have e:l2=l:=(by simpa using h);obtain⟨c,aC,b⟩:=Mt p.length p [] l2 (by omega) (by simp;omega) a;grind
def nY(f:c7):ar:=eS f.ah.toNat f.cu f.Data
theorem Lt:∀(n:Nat) (s:ar) (last:Nat) (b l:List c7),s.length<=n->s.length+b.length<=100000->hA ((last:Int),s,b)=some (.inr l)->
 ∃c,l=b++c/\c.flatMap nY=s
 |n,s,last,b,l,aN,p,h=>by
  rw[hA]at h;by_cases h0:s=[]
  . simp_all
  . rw[ad (by simp[h0])]at h;rcases ou s with⟨e,he,al⟩|⟨m,k,al,t,f,g⟩
    . rw[qV he al]at h;simp at h
    . have es:=JO al;rw[n5 al f]at h;simp only[bg,ay,Ae g]at h;by_cases q:((m/2:Nat):Int)<=(last:Int)\/1000<((m/2:Nat):Int)
      . grind
      . have:¬((bif bif (!true)then true else decide (((m/2:Nat):Int)<=(last:Int))then true else decide (1000<((m/2:Nat):Int)))=true):=(by grind);rw[ao this,n9 (by rw[l9];omega)]at h;simp only[ay]at h;cases a:jK (s.drop k)with
        |none=>
         rw[a]at h;simp[eu]at h
        |some r=>
         obtain⟨x,rest⟩:=r;rw[a]at h;have ae:=qQ a;have ex:=Ms a;rw[l9]at ae;have i:¬((!(eu (some (x,rest))).2.2)=true):=(by simp[eu]);have o:b7 .i64 ((m/2:Nat):Int)=((m/2:Nat):Int):=nj;rw[ao i,o]at h;have j:room 32 (b++[(⟨((m/2:Nat):Int),decide (cd (m:Int) 2=1),(eu (some (x,rest))).1⟩:c7)]).length=true:=dv;rw[ad j]at h
         match n,aN with
         |0,aN=>omega
         |n+1,aN=>
          obtain⟨c,aC,d⟩:=Lt n rest (m/2) _ l (by omega) (by simp;omega) h;refine⟨⟨((m/2:Nat):Int),decide (cd (m:Int) 2=1),x⟩::c,by rw[aC];simp[eu],?_⟩;rw[hJ,d];unfold nY eS;have u:2*(((m/2:Nat):Int)).toNat+(if (cd (m:Int) 2=1:Bool) then 1 else 0)=m:=by
           rw[hc];grind
          grind
theorem NQ(ai:p.length<=90000){l:List c7}(h:jm p=some l):l.flatMap nY=p:=by
 unfold jm at h;rw[pd]at h;have ds:hA (0,p,[])=hA (((0:Nat):Int),p,[]):=rfl;rw[ds]at h;cases a:hA (((0:Nat):Int),p,[])with
 |none=>rw[a]at h;simp at h
 |some o=>
  rw[a]at h;cases o with
  |inl e=>
   by_cases he:e=0
   . exfalso;exact Ls p.length p 0 [] (by omega) (by simp;omega) (by rw[a,he])
   grind
  |inr l2=>
   have e:l2=l:=(by simpa using h);obtain⟨c,aC,b⟩:=Lt p.length p 0 [] l2 (by omega) (by simp;omega) a;grind
theorem Pk{q:ar}(h:kL p=some (id,q)):p=dL id.toNat++q:=by
 unfold kL at h;rw[pw]at h;rcases ou p with⟨e,he,al⟩|⟨m,k,al,d,a,f⟩
 . rw[qV he al]at h;simp at h
 . have es:=JO al;rw[n5 al a]at h;simp only[bg,ay]at h;by_cases c:(m:Int)<1\/1000<(m:Int)
   . grind
   . have:¬((bif bif (!true)then true else decide ((m:Int)<1)then true else decide (1000<(m:Int)))=true):=(by grind);have b:b7 .i64 (m:Int)=(m:Int):=nj;rw[ao this,b]at h;simp only[cm,dy,dG]at h;rw[<-h.1,<-h.2];simpa using es
theorem I4{f:α->Option c}(d1:α)(d2:c):∀{l:List α} {m:List c},cM f l=some m->∀i,i<l.length->f (l.getD i d1)=some (m.getD i d2)
 |[],m,h,i,e=>by grind
 |a::l,m,h,i,e=>by
  rw[cM]at h;split at h
  . rename_i b g h1 d;cases h;cases i with
    |zero=>grind
    |succ i=>exact I4 d1 d2 d i (by grind)
  grind
theorem Pl:∀{l:List α},l.length%2=0->(e7 l).length=l.length/2/\(fi l).length=l.length/2
 |[],_=>⟨by simp[e7],by simp[fi]⟩
 |[a],h=>by grind
 |a::b::l,h=>by
  obtain⟨h1,c⟩:=Pl (l:=l) (by grind);show(e7 l).length+1=(l.length+1+1)/2/\(fi l).length+1=(l.length+1+1)/2;omega
theorem Ep:∀{l:List α} {y:α},y∈fi l->y∈l
 |[],y,h=>by cases h
 |[_],y,h=>by cases h
 |a::b::l,y,h=>by
  rcases dK.1 h with rfl|h
  . simp
  . exact .tail _ (.tail _ (Ep h))
def ov(l:List ar):Nat:=(l.map λq=>q.length+1).sum
theorem JP(q:ar)(l:List ar):ov (q::l)=q.length+1+ov l:=by rfl
theorem JQ:∀(l:List ar),ov l<=(l.flatMap c8).length
 |[]=>by simp[ov]
 |q::l=>by
  have:=JQ l;have:=nZ q.length;have e:(c8 q).length=(dL q.length).length+q.length:=by grind[c8]
  rw[JP,hJ,dD];omega
theorem MG:∀(l:List ar),ov (e7 l)+ov (fi l)<=ov l
 |[]=>by simp[e7,fi,ov]
 |[a]=>by simp[e7,fi,ov]
 |a::b::l=>by
  have:=MG l;grind[e7,fi,JP]
theorem EP{C:Nat}:∀{l:List ar} {m:List aa},cM f l=some m->(∀q,q∈l->∀v,f q=some v->wt v<=C*(q.length+1))->da m<=C*ov l
 |[],m,h,_=>by simp_all[cM,hC]
 |q::l,m,h,k=>by
  rw[cM]at h;split at h
  . rename_i b g h1 d;have a:=k q (.head _) b h1;have c:=EP d (λq e=>k q (.tail _ e));grind[iM,JP,Nat.mul_add]
  grind
def xT(l:List c7):Nat:=(l.map λf=>f.Data.length+1).sum
theorem NR(f:c7)(l:List c7):xT (f::l)=f.Data.length+1+xT l:=by rfl
theorem NS:∀(l:List c7),xT l<=(l.flatMap nY).length
 |[]=>by simp[xT]
 |f::l=>by
  have:=NS l;have:=nZ f.Data.length;have e:(nY f).length=(dL (2*f.ah.toNat+(if f.cu then 1 else 0))).length+((dL f.Data.length).length+f.Data.length):=by grind[nY,eS,c8]
  rw[NR,hJ,dD];omega
def eO(C d:Nat)(l:List c7)(m:aU):Nat:=match l.find? (λf=>decide (f.ah=m.ah))with
 |some f=>C*(f.Data.length+1)
 |none=>d
def aA(C d:Nat)(l:List c7)(ms:List aU):Nat:=(ms.map (eO C d l)).sum
def pW(id:Int)(A:Nat)(ms:List aU):Nat:=(ms.map λm=>if m.ah=id then A else 0).sum
theorem J8{A:Nat}:∀{ms:List aU},(∀m,m∈ms->m.ah≠id)->pW id A ms=0
 |[],_=>rfl
 |m::ms,h=>by
  have:=J8 (A:=A) (λm a=>h m (.tail _ a));grind[pW]
theorem Pn{id:Int}{A:Nat}:∀{ms:List aU},ms.Pairwise (λa b=>a.ah<b.ah)->pW id A ms<=A
 |[],_=>ia _
 |m::ms,h=>by
  rw[h9]at h;by_cases e:m.ah=id
  . have:pW id A ms=0:=J8 λx I=>by grind
    grind[pW]
  . have:=Pn (id:=id) (A:=A) h.2;grind[pW]
theorem acJ(C d:Nat)(f:c7)(l:List c7)(m:aU):eO C d (f::l) m<=(if m.ah=f.ah then C*(f.Data.length+1)else 0)+eO C d l m:=by
 grind[eO]
theorem NT(C d:Nat)(f:c7)(l:List c7):∀(ms:List aU),aA C d (f::l) ms<=pW f.ah (C*(f.Data.length+1)) ms+aA C d l ms
 |[]=>by simp[aA]
 |m::ms=>by
  have a:=NT C d f l ms;grind[acJ,aA,pW]
theorem Po(C d:Nat):∀(ms:List aU),aA C d [] ms=d*ms.length
 |[]=>by rfl
 |m::ms=>by
  have:=Po C d ms;unfold aA at*;simp;rw[Nat.mul_succ];have:eO C d [] m=d:=rfl;omega
theorem Pp{C d:Nat}(ct:1<=C)(b:ha x.af):∀(l:List c7),aA C d l x.af+((fj x l).map λr=>r.Data.length+1).sum<=d*x.af.length+C*xT l
 |[]=>by grind[Po,fj]
 |f::l=>by
  have ih:=Pp (d:=d) ct b l;have a:=NT C d f l x.af;rw[NR,Nat.mul_add];cases bc:cD x.af f.ah with
  |some m=>
   have c:fj x (f::l)=fj x l:=(by grind[fj,List.filter_cons_of_neg,bc]);rw[c];have:=Pn (id:=f.ah) (A:=C*(f.Data.length+1)) b.1;omega
  |none=>
   have c:fj x (f::l)=⟨f.ah,f.Data⟩::fj x l:=(by grind[fj,List.filter_cons_of_pos,bc]);have:pW f.ah (C*(f.Data.length+1)) x.af=0:=J8 (sS bc);have:f.Data.length+1<=C*(f.Data.length+1):=Nat.le_mul_of_pos_left _ ct;grind
theorem NU{C d:Nat}{f:Int->ar->Option aa}{l:List c7}(i:∀(m:aU),m.b8=true->True):∀{ms:List aU} {a:List aa},(∀m,m∈ms->(m.b8=true->wt m.bU<=d)/\∀g,g∈l->∀v,f m.aB g.Data=some v->wt v<=C*(g.Data.length+1))->cM (fJ f l) ms=some a->da a<=aA C d l ms
 |[],a,_,h=>by simp_all[cM,hC]
 |m::ms,a,k,h=>by
  rw[cM]at h;split at h
  . rename_i b o h1 e;cases h;have ih:=NU i (λm j=>k m (.tail _ j)) e;have n:wt b<=eO C d l m:=by
     unfold fJ at h1;unfold eO;cases c:l.find? _ with
     |some g=>
      rw[c]at h1;exact(k m (.head _)).2 g (CP c) b h1
     |none=>grind
    unfold aA at*;rw[iM,jI,zC];omega
  grind
theorem I8{l:List c7}{r:cG}(h:r∈fj x l):∃f,f∈l/\cD x.af f.ah=none/\r=⟨f.ah,f.Data⟩:=by
 obtain⟨f,a,rfl⟩:=eA.1 h;obtain⟨h1,b⟩:=rA.1 a;refine⟨f,h1,?_,rfl⟩;simp_all
theorem MH{l:List c7}(c:l.Pairwise (λa b=>a.ah<b.ah))(d:∀f,f∈l->cC f.ah):lp x.af (fj x l):=by
 refine⟨?_,λr e=>?_⟩
 . grind[fj]
 grind[I8]
section
variable {ts:List aj}
def r1(ts:List aj)(t:Int)(p:ar)(v:aa):Prop:=cB ts false t v/\cf v/\wt v<=300*(p.length+1)
theorem mV{k:Int}{b:Bool}{i:Int}{s:ar}{a:List aa}{r:List cG}(h0:0<=k/\k<=9)(h1:cq i)(c:0<=id/\id<=1000)(hs:s.length<=90000)(e:ks.length<=90000)(d:a.length<=90000)(f:r.length<=90000)
 (k1:∀x,x∈ks->cf x)(k2:∀x,x∈a->cf x)(k3:∀x,x∈r->x.Data.length<=90000/\cC x.ah):cf ⟨k,b,i,s,id,ks,a,r⟩:=by
 refine .mk _ (by grind[reachBytes]) (by grind[reachBytes]) (by grind[reachBytes]) (by grind[reachBytes]) k1 k2 (λx I=>by grind[reachBytes]) ?_ h1 ?_ (λx I=>by grind[cC])
 all_goals grind
theorem acb(H:cX ts){n:Nat}(ih:∀(t:Int) (p:ar) (v:aa),p.length<=90000->0<=t->t<ts.length->dC ts n t p=some v->r1 ts t p v)(ai:p.length<=90000)(t0:0<=t)(t1:t<ts.length)(h:dC ts (n+1) t p=some v):r1 ts t p v:=by
 rw[yQ]at h;have av:t.toNat<ts.length:=by omega
 have I:=br av aM;have ct:=H.hi;unfold r1;rw[eI];generalize ts.getD t.toNat aM=x at*;unfold w9 at h;have iU:∀(k i id:Int) (b:Bool) (s:ar),wt ⟨k,b,i,s,id,[],[],[]⟩=10+s.length:=λk i id b s=>by rfl
 by_cases k1:x.Kind=1
 . have:∃b,v=⟨1,b,0,[],0,[],[],[]⟩:=by
    grind[w4]
   obtain⟨b,rfl⟩:=this;exact⟨⟨⟨t0,t1,k1.symm,λh=>by simp⟩,.inl ⟨rfl,rfl,rfl,rfl,rfl,rfl,rfl⟩⟩,mV (by simp) l3 (by simp) (by simp) (by simp) (by simp) (by simp) (by simp) (by simp) (by simp),by grind⟩
 rw[ao k1]at h;by_cases k2:x.Kind=2
 . rw[ad k2]at h;unfold w5 at h;cases u:hW p with
   |none=>grind
   |some m=>
    rw[u]at h;dsimp only at h;split at h
    . rename_i E;cases h;exact⟨⟨⟨t0,t1,k2.symm,λh=>by rfl⟩,.inr (.inl ⟨rfl,rfl,rfl,rfl,rfl,rfl,rfl,E.1,E.2⟩)⟩,mV (by simp) (NN (Kw u)) (by simp) (by simp) (by simp) (by simp) (by simp) (by simp) (by simp) (by simp),by grind⟩
    grind
 rw[ao k2]at h;by_cases k3:x.Kind=3
 . rw[ad k3]at h;unfold w6 at h;split at h
   . rename_i E;cases h;exact⟨⟨⟨t0,t1,k3.symm,λh=>by rfl⟩,.inr (.inr (.inl ⟨rfl,rfl,rfl,rfl,rfl,rfl,rfl,E⟩))⟩,mV (by simp) l3 (by simp) (by omega) (by simp) (by simp) (by simp) (by simp) (by simp) (by simp),by grind⟩
   grind
 rw[ao k3]at h;by_cases k4:x.Kind=4
 . rw[ad k4]at h;unfold w7 at h;cases u:hW p with
   |none=>grind
   |some m=>
    rw[u]at h;dsimp only at h;split at h
    . rename_i E;cases h;refine⟨⟨⟨t0,t1,k4.symm,λh=>by rfl⟩,.inr (.inr (.inr (.inl ⟨rfl,rfl,rfl,rfl,rfl,rfl,rfl,?_⟩)))⟩,mV (by simp) l3 (by omega) (by simp) (by simp) (by simp) (by simp) (by simp) (by simp) (by simp),by grind⟩;grind[cC]
    grind
 rw[ao k4]at h;by_cases k9:x.Kind=9
 . rw[ad k9]at h;obtain⟨aC,G⟩:=ct.elem I (by omega);cases p with
   |nil=>
    cases h;simp_all[cO,mV,l3]
   |cons c q=>
    rw[w8]at h;split at h
    . obtain⟨w,Z,rfl⟩:=kB.1 h;obtain⟨f1,f2,f3⟩:=ih _ _ _ (by grind) aC G Z;refine⟨⟨⟨t0,t1,k9.symm,λh=>by rfl⟩,.inr (.inr (.inr (.inr (.inr (.inr (.inr (.inr ⟨rfl,rfl,rfl,rfl,rfl,rfl,rfl,by simp,cO.2 ?_⟩)))))))⟩,mV (by simp) l3 (by simp) (by simp) (by simp) (by simp) (by simp) (by simp) ?_ (by simp),?_⟩
      . grind
      . grind
      grind[gY,iM,hC,List.length_cons]
    grind
 rw[ao k9]at h;by_cases k6:x.Kind=6
 . rw[ad k6]at h;unfold Am at h;cases ab:kL p with
   |none=>grind
   |some a=>
    obtain⟨id,q⟩:=a;rw[ab]at h;dsimp only at h;have ap:=Pk ab;have aD:=nZ id.toNat;have aE:q.length+1<=p.length:=by rw[ap,dD];omega
    obtain⟨o,V,X,Y⟩:=Ph p;have hid:cC id:=(by grind);unfold cC at hid;cases bc:cD x.af id with
    |some m=>
     rw[bc]at h;obtain⟨w,Z,rfl⟩:=kB.1 h;obtain⟨B,aL⟩:=ki bc;obtain⟨f1,f2,f3⟩:=ih _ _ _ (by omega) (ct.mem I B).1 (ct.mem I B).2 Z;refine⟨⟨⟨t0,t1,k6.symm,λh=>by cases h⟩,.inr (.inr (.inr (.inr (.inr (.inl ⟨rfl,rfl,rfl,rfl,rfl,?_⟩)))))⟩,mV (by omega) l3 (by omega) (by simp) (by simp) (by simp) (by simp) (by simp) ?_ (by simp),?_⟩
     . show(match cD x.af id with
        |some m=>_
        |none=>_)
       rw[bc];refine⟨rfl,rfl,cO.2 ?_⟩;grind
     . grind
     . rw[gY];show 10+0+0+da []+da [w]<=_;rw[iM,hC];omega
    |none=>
     rw[bc]at h;dsimp only at h;split at h
     . rename_i az;cases h;refine⟨⟨⟨t0,t1,k6.symm,λh=>by cases h⟩,.inr (.inr (.inr (.inr (.inr (.inl ⟨rfl,rfl,rfl,rfl,rfl,?_⟩)))))⟩,mV (by omega) l3 (by omega) (by simp) (by simp) (by simp) (by simp) (by simp) (by simp) ?_,?_⟩
       . grind
       . grind
       . rw[gY];show 10+0+((q.length+1)+0)+da []+da []<=_;rw[hC];omega
     . cases h
 rw[ao k6]at h;by_cases k7:x.Kind=7
 . rw[ad k7]at h;unfold ub at h;obtain⟨aC,G⟩:=ct.elem I (by omega);cases z:iD p with
   |none=>rw[z]at h;cases h
   |some l=>
    rw[z]at h;dsimp only at h;obtain⟨o,V,X,Y⟩:=vN ai;have ae:(∀q,q∈l->q.length<=p.length)/\l.length<=p.length:=(by grind);have P:=JQ l;rw[EO ai z]at P;split at h
    . rename_i aj;obtain⟨m,B,rfl⟩:=kB.1 h;have R:=sX B;have N:∀y,y∈m->∃q,q∈l/\r1 ts x.aK q y:=λy ag=>by
       obtain⟨q,J,j⟩:=qX B y ag;grind
      have an:=EP (C:=300) B (λq O v F=>(ih _ _ _ (by have:=ae.1 q O;omega) aC G F).2.2);refine⟨⟨⟨t0,t1,k7.symm,λh=>by cases h⟩,.inr (.inr (.inr (.inr (.inr (.inr (.inl ⟨rfl,rfl,rfl,rfl,rfl,rfl,rfl,?_,cO.2 ?_⟩))))))⟩,mV (by omega) l3 (by omega) (by simp) (by simp) (by omega) (by simp) (by simp) ?_ (by simp),?_⟩
      . grind
      . intro y ag;obtain⟨q,_,j⟩:=N y ag;exact j.1
      . intro y ag;obtain⟨q,_,j⟩:=N y ag;exact j.2.1
      . rw[gY];show 10+0+0+da []+da m<=_;rw[hC];omega
    . cases h
 rw[ao k7]at h;by_cases k8:x.Kind=8
 . rw[ad k8]at h;unfold An at h;obtain⟨aC,G⟩:=ct.elem I (by omega);obtain⟨d1,d2⟩:=ct.key I k8;cases z:iD p with
   |none=>rw[z]at h;cases h
   |some l=>
    rw[z]at h;dsimp only at h;obtain⟨o,V,X,Y⟩:=vN ai;have ae:(∀q,q∈l->q.length<=p.length)/\l.length<=p.length:=(by grind);have P:=JQ l;rw[EO ai z]at P;have aI:=MG l;split at h
    . rename_i aj;cases hs:cM (dC ts n x.Key) (e7 l)with
      |none=>rw[hs]at h;cases h
      |some ks=>
       rw[hs]at h;dsimp only at h;split at h
       . rename_i ak;obtain⟨m,B,rfl⟩:=kB.1 h;have aA:=sX hs;have R:=sX B;obtain⟨g1,g2⟩:=Pl aj.1;have am:∀y,y∈ks->∃q,q∈e7 l/\r1 ts x.Key q y:=λy ag=>by
          obtain⟨q,J,j⟩:=qX hs y ag;exact⟨q,J,ih _ _ _ (by have:=ae.1 q (yP J);omega) d1 d2 j⟩
         have N:∀y,y∈m->∃q,q∈fi l/\r1 ts x.aK q y:=λy ag=>by
          obtain⟨q,J,j⟩:=qX B y ag;exact⟨q,J,ih _ _ _ (by have:=ae.1 q (Ep J);omega) aC G j⟩
         have aJ:=EP (C:=300) hs (λq O v F=>(ih _ _ _ (by have:=ae.1 q (yP O);omega) d1 d2 F).2.2);have an:=EP (C:=300) B (λq O v F=>(ih _ _ _ (by have:=ae.1 q (Ep O);omega) aC G F).2.2);refine⟨⟨⟨t0,t1,k8.symm,λh=>by cases h⟩,.inr (.inr (.inr (.inr (.inr (.inr (.inr (.inl ⟨rfl,rfl,rfl,rfl,rfl,rfl,?_,?_,cO.2 ?_,cO.2 ?_,zP.1 ak⟩)))))))⟩,mV (by omega) l3 (by omega) (by simp) (by omega) (by omega) (by simp) ?_ ?_ (by simp),?_⟩
         . grind
         . grind
         . intro y ag;obtain⟨q,_,j⟩:=am y ag;exact j.1
         . intro y ag;obtain⟨q,_,j⟩:=N y ag;exact j.1
         . intro y ag;obtain⟨q,_,j⟩:=am y ag;exact j.2.1
         . intro y ag;obtain⟨q,_,j⟩:=N y ag;exact j.2.1
         . rw[gY];grind
       . cases h
    . cases h
 rw[ao k8]at h;have k5:x.Kind=5:=by obtain⟨aw,ax⟩:=ct.S.K x I;omega
 unfold ua at h;obtain⟨aq,ay⟩:=ct.S.A x I (.inl k5);cases z:jm p with
 |none=>rw[z]at h;cases h
 |some l=>
  rw[z]at h;dsimp only at h;obtain⟨o,V,X,Y⟩:=I6 ai;have ae:(∀f,f∈l->f.Data.length<=p.length/\cC f.ah)/\l.Pairwise (λa b=>a.ah<b.ah)/\l.length<=p.length:=by grind
  have P:=NS l;rw[NQ ai z]at P;cases hs:cM (fJ (dC ts n) l) x.af with
  |none=>rw[hs]at h;cases h
  |some U=>
   rw[hs]at h;dsimp only at h;split at h
   . rename_i ak;cases h;have R:=sX hs;have au:∀i,i<x.af.length->cB ts false (x.af.getD i aG).aB (U.getD i aH)/\cf (U.getD i aH):=λi M=>by
      have u:=br M aG;have:=I4 aG aH hs i M;unfold fJ at this;cases L:l.find? (λf=>decide (f.ah=(x.af.getD i aG).ah))with
      |some g=>
       rw[L]at this;have:=ih _ _ _ (by have:=(ae.1 g (CP L)).1;omega) (ct.mem I u).1 (ct.mem I u).2 this;exact⟨this.1,this.2.1⟩
      |none=>
       rw[L]at this;dsimp only at this;split at this
       . rename_i Q;have e:=(oh this)
         rw[<-e];exact⟨rL _ _ (H.D x I _ u Q),(H.T x I).3 _ u⟩
       . cases this
     have an:=NU (C:=300) (d:=13) (λ_ _=>trivial) (λm u=>⟨λQ=>H.W x I m u Q,λg al v F=>(ih _ _ _ (by have:=(ae.1 g al).1;omega) (ct.mem I u).1 (ct.mem I u).2 F).2.2⟩) hs;have aF:=Pp (C:=300) (d:=13) (by omega) aq l;refine⟨⟨⟨t0,t1,k5.symm,λh=>by cases h⟩,.inr (.inr (.inr (.inr (.inl ⟨rfl,rfl,rfl,rfl,rfl,rfl,MH ae.2.1 (λf L=>(ae.1 f L).2),h3.2 ⟨R,λi M=>(au i M).1⟩⟩))))⟩,mV (by omega) l3 (by omega) (by simp) (by simp) (by omega) ?_ (by simp) ?_ ?_,?_⟩
     . unfold fj;grind
     . intro y ag;obtain⟨i,M,rfl⟩:=gQ ag;grind
     . intro r E;obtain⟨f,f1,_,rfl⟩:=I8 E;grind
     . rw[gY];show 10+0+((fj x l).map λr=>r.Data.length+1).sum+da []+da U<=_;rw[hC];omega
   . cases h
theorem MI(H:cX ts):∀(n:Nat) (t:Int) (p:ar) (v:aa),p.length<=90000->0<=t->t<ts.length->dC ts n t p=some v->r1 ts t p v
 |0,t,p,v,_,_,_,h=>by grind[I7]
 |n+1,t,p,v,ai,t0,t1,h=>acb H (MI H n) ai t0 t1 h
end
theorem MJ:∀{A B:List Fd},A.Pairwise (λa b=>a.id<b.id)->B.Pairwise (λa b=>a.id<b.id)->(∀x,x∈A↔x∈B)->A=B
 |[],[],_,_,_=>rfl
 |[],b::B,_,_,h=>by have:=(h b).2 (.head _);grind
 |a::A,[],_,_,h=>by have:=(h a).1 (.head _);grind
 |a::A,b::B,c,c9,h=>by
  rw[h9]at c c9;have e:a=b:=by grind
  subst e;rw[MJ c.2 c9.2 _];grind
theorem JR{l:List α}{y:α}(d:α)(h:y∈l):∃i,i<l.length/\l.getD i d=y:=by
 obtain⟨i,a,rfl⟩:=gQ h;exact⟨i,a,ey a d⟩
section
variable {ts:List aj}
theorem J9:∀{ms:List aU} {l:List aa} {j:Nat},j<ms.length->j<l.length->c6 (ms.getD j aG) (l.getD j aH)=false->
 (⟨(ms.getD j aG).ah.toNat,(ms.getD j aG).cu,bE ts (ms.getD j aG).aB (l.getD j aH)⟩:Fd)∈df ts ms l
 |[],l,j,h,_,_=>by grind
 |m::ms,[],j,_,h,_=>by grind
 |m::ms,v::l,0,_,_,h=>by
  grind[df]
 |m::ms,v::l,j+1,h1,a,h=>by
  rw[df];have:=J9 (j:=j) (by grind) (by grind) h;grind
theorem MK{r:Nat}:∀{ms:List aU} {l:List aa},(∀j,j<ms.length->j<l.length->c6 (ms.getD j aG) (l.getD j aH)=false->ej ts (ms.getD j aG).aB (l.getD j aH)<=r)->hV ts ms l<=r
 |[],l,_=>by
  grind[hV]
 |m::ms,[],_=>by
  grind[hV]
 |m::ms,v::l,h=>by
  have ih:=MK λj h1 b a=>h (j+1) (by grind) (by grind) a;rw[hV];split
  . grind
  . have:=h 0 (by simp) (by simp) (by grind);grind
theorem zR{r:Nat}:∀{l:List aa},(∀y,y∈l->ej ts t y<=r)->eU ts t l<=r
 |[],_=>by exact ia _
 |v::l,h=>by
  exact Nat.max_le.2 ⟨h v (.head _),zR λy ag=>h y (.tail _ ag)⟩
end
abbrev gj:=Int->aa->Int->au->aa ⊕ au
def jY{α:Type}:α ⊕ au->List α ⊕ au->List α ⊕ au
 |.inr p,_=>.inr p
 |.inl _,.inr p=>.inr p
 |.inl u,.inl l=>.inl (u::l)
def l6{α a:Type}(g:α->a):α ⊕ au->a ⊕ au
 |.inr p=>.inr p
 |.inl u=>.inl (g u)
def nw{α a:Type}(g:α->a ⊕ au):α ⊕ au->a ⊕ au
 |.inr p=>.inr p
 |.inl u=>g u
def dx(l:List aU)(id:Int):Option Nat:=l.findIdx? λm=>decide (m.ah=id)
def o1(l:List aU)(id:Int):Int×Bool:=match dx l id with
 |some j=>((j:Int),true)
 |none=>(0,false)
def fN(f:gj)(path:au)(t rt:Int):Nat->List aa->List aa ⊕ au
 |_,[]=>.inl []
 |i,v::l=>jY (f t v rt (path++[(i:Int)])) (fN f path t rt (i+1) l)
noncomputable def Ag (m:aU)(w:aa)(n:aU)(a:au):aa ⊕ au->aa ⊕ au
 |.inr p=>if c6 m w then .inr a else .inr p
 |.inl u=>if c6 m w=true/\c6 n u=false then .inr a else .inl u
noncomputable def ng (f:gj)(x:aj)(v:aa)(path:au)(n:aU):aa ⊕ au:=match dx x.af n.ah with
 |none=>if n.b8 then .inl n.bU else .inr (path++[n.ah])
 |some i=>Ag (x.af.getD i aG) (v.aq.getD i aH) n (path++[n.ah]) (f (x.af.getD i aG).aB (v.aq.getD i aH) n.aB (path++[n.ah]))
noncomputable def ji (f:gj)(x:aj)(v:aa)(path:au):List aU->List aa ⊕ au
 |[]=>.inl []
 |n::l=>jY (ng f x v path n) (ji f x v path l)
noncomputable def fT (tw:List aj)(y:aj)(path:au):List aU->List aa->List cG ⊕ au
 |m::ms,v::l=>if(cD y.af m.ah).isSome then fT tw y path ms l
  else if m.cu then .inr (path++[m.ah])
  else if c6 m v then fT tw y path ms l
  else jY (.inl ⟨m.ah,bE tw m.aB v⟩) (fT tw y path ms l)
 |_,_=>.inl []
def mb(x y:aj)(v:aa):Prop:=(x.Kind=2->y.bT<=v.bw/\v.bw<=y.bW)/\(x.Kind=3->(v.bH.length:Int)<=y.Max)/\(x.Kind=4->(∃s,s∈y.bo/\s.ah=v.ah)\/y.Open=true)
noncomputable def wR (tw:List aj)(f:gj)(x y:aj)(v:aa)(path:au):aa ⊕ au:=
 nw (λa=>l6 (λr=>⟨5,false,0,[],0,[],a,r⟩) (fT tw y path x.af v.aq)) (ji f x v path y.af)
noncomputable def rF (tw:List aj)(f:gj)(x y:aj)(v:aa)(path:au):aa ⊕ au:=match dx x.af v.ah with
 |none=>.inr path
 |some i=>match dx y.af v.ah with
  |some k=>l6 (λu=>⟨6,false,0,[],v.ah,[],[u],[]⟩) (f (x.af.getD i aG).aB (v.aq.getD 0 aH) (y.af.getD k aG).aB (path++[v.ah]))
  |none=>if y.Open then .inl ⟨6,false,0,[],v.ah,[],[],[⟨v.ah,bE tw (x.af.getD i aG).aB (v.aq.getD 0 aH)⟩]⟩else .inr path
def tV(f:gj)(x y:aj)(v:aa)(path:au):aa ⊕ au:=
 if(v.aq.length:Int)<=y.Max then l6 (λa=>⟨7,false,0,[],0,[],a,[]⟩) (fN f path x.aK y.aK 0 v.aq)else .inr path
def tW(f:gj)(x y:aj)(v:aa)(path:au):aa ⊕ au:=
 if(v.aq.length:Int)<=y.Max then nw (λks=>l6 (λa=>⟨8,false,0,[],0,ks,a,[]⟩) (fN f path x.aK y.aK 0 v.aq)) (fN f path x.Key y.Key 0 v.aJ)else .inr path
def Af(f:gj)(x y:aj)(v:aa)(path:au):aa ⊕ au:=
 l6 (λa=>⟨9,false,0,[],0,[],a,[]⟩) (fN f path x.aK y.aK 0 v.aq)
open Classical in
noncomputable def hp (tw:List aj)(f:gj)(x y:aj)(v:aa)(path:au):aa ⊕ au:=
 if ¬x.Kind=y.Kind then .inr path
 else if x.Kind=5 then wR tw f x y v path
 else if x.Kind=6 then rF tw f x y v path
 else if x.Kind=7 then tV f x y v path
 else if x.Kind=8 then tW f x y v path
 else if x.Kind=9 then Af f x y v path
 else if mb x y v then .inl v else .inr path
noncomputable def eV (tw tr:List aj):Nat->gj
 |0=>λ_ _ _ path=>.inr path
 |n+1=>λt v rt path=>hp tw (eV tw tr n) (tw.getD t.toNat aM) (tr.getD rt.toNat aM) v path
theorem sT(n:Nat)(t:Int)(v:aa)(rt:Int)(path:au):eV tw tr (n+1) t v rt path=hp tw (eV tw tr n) (tw.getD t.toNat aM) (tr.getD rt.toNat aM) v path:=rfl
section
variable {tw:List aj}{f:gj}{x y:aj}{v:aa}{path:au}
theorem Pq(bM:¬x.Kind=y.Kind):hp tw f x y v path= .inr path:=by grind[hp]
theorem GZ(bM:x.Kind=y.Kind)(h:x.Kind=5):hp tw f x y v path=wR tw f x y v path:=by grind[hp]
theorem G0(bM:x.Kind=y.Kind)(h:x.Kind=6):hp tw f x y v path=rF tw f x y v path:=by grind[hp]
theorem G1(bM:x.Kind=y.Kind)(h:x.Kind=7):hp tw f x y v path=tV f x y v path:=by grind[hp]
theorem G2(bM:x.Kind=y.Kind)(h:x.Kind=8):hp tw f x y v path=tW f x y v path:=by grind[hp]
theorem G3(bM:x.Kind=y.Kind)(h:x.Kind=9):hp tw f x y v path=Af f x y v path:=by grind[hp]
theorem pF(bM:x.Kind=y.Kind)(h:x.Kind<=4)(ae:mb x y v):hp tw f x y v path= .inl v:=by grind[hp]
theorem ER(bM:x.Kind=y.Kind)(h:x.Kind<=4)(ae:¬mb x y v):hp tw f x y v path= .inr path:=by grind[hp]
end
theorem ML{m:aU}{n:aU}{a p:au}:Ag m w n a (.inr p)=if c6 m w then .inr a else .inr p:=rfl
theorem Er{m:aU}{n:aU}{a:au}{u:aa}:Ag m w n a (.inl u)=if c6 m w=true/\c6 n u=false then .inr a else .inl u:=rfl
theorem hd{l:List aU}(h:dx l id=some j):j<l.length/\(l.getD j aG).ah=id/\∀k,k<j->(l.getD k aG).ah≠id:=by
 obtain⟨h1,a,b⟩:=List.findIdx?_eq_some_iff_getElem.1 h;grind[ey]
theorem Nl{l:List aU}(h:dx l id=none):∀k,k<l.length->(l.getD k aG).ah≠id:=λk a=>by
 have:=List.findIdx?_eq_none_iff.1 h _ (br a aG);grind
theorem abn(l:List aU)(id:Int):tH l id (o1 l id):=by
 unfold o1;cases h:dx l id with
 |some j=>exact .inl ⟨j,(hd h).1,(hd h).2.1,(hd h).2.2,rfl⟩
 |none=>exact .inr ⟨Nl h,rfl⟩
theorem pG(l:List aU)(id:Int):(dx l id).isSome=(cD l id).isSome:=by
 cases h:dx l id with
 |some j=>
  obtain⟨h1,d,_⟩:=hd h;cases g:cD l id with
  |some _=>rfl
  |none=>grind[sS]
 |none=>
  cases g:cD l id with
  |none=>rfl
  |some m=>
   obtain⟨b,c⟩:=ki g;obtain⟨i,a,rfl⟩:=gQ b;exact absurd c (by rw[<-ey a aG];grind[Nl])
theorem EK{a:α ⊕ au}{b:List α ⊕ au}{l:List α}(h:jY a b= .inl l):∃u us,a= .inl u/\b= .inl us/\l=u::us:=by
 grind[jY]
theorem jV{g:α->c}{a:α ⊕ au}{b:c}(h:l6 g a= .inl b):∃u,a= .inl u/\b=g u:=by
 grind[l6]
theorem vD{g:α->c ⊕ au}{a:α ⊕ au}{b:c}(h:nw g a= .inl b):∃u,a= .inl u/\g u= .inl b:=by
 grind[nw]
theorem yI{f:gj}{path:au}{t rt:Int}:∀{l:List aa} {i:Nat} {us:List aa},fN f path t rt i l= .inl us->us.length=l.length/\∀j,j<l.length->f t (l.getD j aH) rt (path++[((i+j:Nat):Int)])= .inl (us.getD j aH)
 |[],i,us,h=>by
  grind[fN]
 |v::l,i,us,h=>by
  obtain⟨u,e,h1,c,rfl⟩:=EK h;obtain⟨a,b⟩:=yI c;refine⟨by grind,λj d=>?_⟩;cases j<;>grind
theorem I9{f:gj}{x:aj}{v:aa}{path:au}:∀{l:List aU} {us:List aa},ji f x v path l= .inl us->us.length=l.length/\∀j,j<l.length->ng f x v path (l.getD j aG)= .inl (us.getD j aH)
 |[],us,h=>by
  grind[ji]
 |n::l,us,h=>by
  obtain⟨u,d,h1,c,rfl⟩:=EK h;obtain⟨a,b⟩:=I9 c;grind
theorem MM{f:gj}{n:aU}{u:aa}(h:ng f x v path n= .inl u):
 (dx x.af n.ah=none/\n.b8=true/\u=n.bU)\/∃i,dx x.af n.ah=some i/\f (x.af.getD i aG).aB (v.aq.getD i aH) n.aB (path++[n.ah])= .inl u/\(c6 (x.af.getD i aG) (v.aq.getD i aH)=true->c6 n u=true):=by
 unfold ng at h;cases a:dx _ _ with
 |none=>
  grind
 |some i=>
  simp only[a]at h;refine .inr ⟨i,rfl,?_⟩;revert h;cases f _ _ _ _ with
  |inr p=>grind[Ag]
  |inl w=>grind[Ag]
theorem EL{tw:List aj}{y:aj}{path:au}:∀{ms:List aU} {l:List aa} {r:List cG},fT tw y path ms l= .inl r->
 r.length<=ms.length/\(r.map λa=>a.ah).Sublist (ms.map λm=>m.ah)/\∀a,a∈r->cD y.af a.ah=none/\∃j,j<ms.length/\j<l.length/\a=⟨(ms.getD j aG).ah,bE tw (ms.getD j aG).aB (l.getD j aH)⟩
 |[],l,r,h=>by
  rw[fT]at h
  . cases h;simp
  . intros;simp_all
 |m::ms,[],r,h=>by
  grind[fT]
 |m::ms,v::l,r,h=>by
  have n:∀{r},fT tw y path ms l= .inl r->r.length<=(m::ms).length/\(r.map λa=>a.ah).Sublist ((m::ms).map λm=>m.ah)/\∀a,a∈r->cD y.af a.ah=none/\∃j,j<(m::ms).length/\j<(v::l).length/\a=⟨((m::ms).getD j aG).ah,bE tw ((m::ms).getD j aG).aB ((v::l).getD j aH)⟩:=λ{r} h=>by
   obtain⟨a,b,c⟩:=EL h;refine⟨by simp;omega,by grind,λq d=>?_⟩;obtain⟨f,j,o,p,e⟩:=c q d;exact⟨f,j+1,by simp;omega,by simp;omega,e⟩
  rw[fT]at h;by_cases f:(cD y.af m.ah).isSome=true
  . grind
  rw[ao f]at h;by_cases g:m.cu=true
  . rw[ad g]at h;cases h
  rw[ao g]at h;by_cases k:c6 m v=true
  . grind
  rw[ao k]at h;obtain⟨u,us,aC,i,rfl⟩:=EK h;cases aC;obtain⟨a,b,c⟩:=EL i;refine⟨by grind,by grind,λq d=>?_⟩;rcases dK.1 d with rfl|d
  . exact⟨by simpa using f,0,by simp,by simp,rfl⟩
  . exact(n i).2.2 q d
section
variable {ts:List aj}
theorem Ao{n:Nat}(h:n<16384):(dL n).length<=2:=Jn 1 n (by grind)
theorem vt(h:p.length<16384):(c8 p).length<=p.length+2:=by
 grind[Ao,c8]
def lI(ts:List aj)(t:Int)(v:aa):Prop:=(bE ts t v).length+4<=wt v
theorem EY:∀{l:List aa},da l<=3000->(∀y,y∈l->lI ts t y)->((bG ts t l).flatMap c8).length<=da l
 |[],_,_=>by grind[bG]
 |v::l,a,h=>by
  rw[bG];rw[iM]at a⊢;have h1:=h v (.head _);unfold lI at h1;have b:=EY (by omega) λx I=>h x (.tail _ I);grind[vt]
theorem Nn{l:List aa}(h:∀y,y∈l->lI ts t y):((bG ts t l).headD []).length+4<=da l\/l=[]:=by
 cases l with
 |nil=>simp
 |cons v l=>
  have h1:=h v (.head _);grind[lI,bG,iM]
theorem MN:∀{ms:List aU} {l:List aa},da l<=3000->(∀m,m∈ms->m.ah<=1000)->l.length=ms.length->(∀i,i<ms.length->lI ts (ms.getD i aG).aB (l.getD i aH))->((df ts ms l).flatMap Fd.text).length<=da l
 |[],l,_,_,_,_=>by grind[df]
 |m::ms,[],_,_,ae,_=>by grind
 |m::ms,v::l,b,a,ae,h=>by
  rw[iM]at b⊢;rw[df];have h1:lI ts m.aB v:=h 0 (by simp);unfold lI at h1;have c:=MN (ms:=ms) (l:=l) (by omega) (λx I=>a x (.tail _ I)) (by grind) λi e=>h (i+1) (by grind);split
  . omega
  . rw[hJ,dD];have a1:=vt (p:=bE ts m.aB v) (by omega);have a2:=Ao (n:=2*m.ah.toNat+(if m.cu then 1 else 0)) (by grind);have d:(Fd.text ⟨m.ah.toNat,m.cu,bE ts m.aB v⟩).length<=(bE ts m.aB v).length+4:=by
     show(eS m.ah.toNat m.cu _).length<=_;grind[eS]
    omega
theorem abo(H:cX ts)(s:cf v):∀t,cB ts true t v->wt v<=3000->lI ts t v:=by
 have c:=H.V.ie H.T;induction s with
 |mk v hs h1 D E J G K cI R U W w u=>
  intro t p N;obtain⟨⟨g1,g2,g3,g4⟩,o⟩:=(eI _ _ _).1 p;have r:t.toNat<ts.length:=by omega
  have b:=br r aM;have k:=g4 rfl;have O:=gY v;have aS:∀y,y∈v.aJ->wt y+10<=wt v:=λy ag=>by have:=gM ag;omega
  have P:∀y,y∈v.aq->wt y+10<=wt v:=λy ag=>by have:=gM ag;omega
  have x:∀t,e1 ts true t v.aJ->∀y,y∈v.aJ->lI ts t y:=λt ht y ag=>w y ag t (cO.1 ht y ag) (by grind);have e:∀t,e1 ts true t v.aq->∀y,y∈v.aq->lI ts t y:=λt ht y ag=>u y ag t (cO.1 ht y ag) (by grind);unfold lI;rcases o with h|h|h|h|h|h|h|h|h
  . grind[xa]
  . have F:=H.L _ b (by omega);rw[xc (by omega)];have:=vM 1 (gA v.bw).toNat (by grind[gA]);omega
  . grind[xd]
  . rw[xe (by omega)];have hid:v.ah.toNat<256^2:=by
     rcases h.2.2.2.2.2.2.2 with⟨y,A,X⟩|⟨_,h,_⟩
     . have:=c.S _ b (by omega) y A;grind[cC]
     grind
    have:=vM 2 _ hid;omega
  . obtain⟨a1,a2,a3,a4,a5,a,f,d⟩:=h;obtain⟨f1,f2⟩:=h3.1 d;rw[xf (by omega),HI (mK _ _)];unfold fF;rw[k,rq,rC];have:=MN (ts:=ts) (l:=v.aq) (by omega) (c.M _ b) f1 λi I=>by grind
    omega
  . obtain⟨a1,a2,a3,a4,a5,a⟩:=h;rw[rM (by omega)];cases bc:cD (ts.getD t.toNat aM).af v.ah with
    |none=>grind
    |some m=>
     rw[bc]at a;obtain⟨b1,b2,j⟩:=a;obtain⟨z,Q⟩:=ki bc;have hid:=c.M _ b m z;have:=Ao (n:=v.ah.toNat) (by omega);rcases Nn (e _ j)with q|q
     . grind
     grind
  . grind[rN,EY]
  . obtain⟨a1,a2,a3,a4,a5,a,f,d,a9,g,B⟩:=h;rw[rO (by omega)];have aC:=EY (l:=v.aq) (by omega) (e _ g);have C:=EY (l:=v.aJ) (by omega) (x _ a9);grind[D8]
  . obtain⟨a1,a2,a3,a4,a5,a,f,d,a9⟩:=h;rw[rP (by omega)];rcases Nn (e _ a9)with q|q
    . grind
    grind[bG]
end
def gi(ts:List aj):Nat->Int->aa->Prop
 |0,_,_=>False
 |n+1,t,v=>((bE ts t v).length<=4096/\v.aq.length<=1000/\v.aJ.length<=1000)/\
  ((ts.getD t.toNat aM).Kind=5->∀i,i<(ts.getD t.toNat aM).af.length->gi ts n ((ts.getD t.toNat aM).af.getD i aG).aB (v.aq.getD i aH))/\
  ((ts.getD t.toNat aM).Kind=6->∀m,cD (ts.getD t.toNat aM).af v.ah=some m->∀y,y∈v.aq->gi ts n m.aB y)/\
  (7<=(ts.getD t.toNat aM).Kind->(∀y,y∈v.aq->gi ts n (ts.getD t.toNat aM).aK y)/\∀y,y∈v.aJ->gi ts n (ts.getD t.toNat aM).Key y)
section
variable {ts:List aj}
theorem gi.len{n:Nat}(h:gi ts n t v):(bE ts t v).length<=4096:=by
 cases n with
 |zero=>cases h
 |succ n=>exact h.1.1
theorem Eb(p:ar):p.length<=(c8 p).length:=by grind[c8]
theorem JS{t:Int}:∀{l:List aa} {y:aa},y∈l->(bE ts t y).length<=((bG ts t l).flatMap c8).length
 |v::l,y,h=>by
  rw[bG,hJ,dD];rcases dK.1 h with rfl|h
  . grind[Eb]
  . have:=JS (t:=t) h;omega
theorem Ka:∀{ms:List aU} {l:List aa} (i:Nat),i<ms.length->i<l.length->c6 (ms.getD i aG) (l.getD i aH)=false->(bE ts (ms.getD i aG).aB (l.getD i aH)).length<=((df ts ms l).flatMap Fd.text).length
 |m::ms,v::l,0,_,_,a=>by
  rw[df];simp only[tR]at a⊢;rw[ao (by grind),hJ,dD];have c:(bE ts m.aB v).length<=(Fd.text ⟨m.ah.toNat,m.cu,bE ts m.aB v⟩).length:=by
   show _<=(eS m.ah.toNat m.cu _).length;grind[Eb,eS]
  omega
 |m::ms,v::l,i+1,h1,b,a=>by
  have:=Ka (ms:=ms) (l:=l) i (by grind) (by grind) (by grind);rw[df];grind
theorem agm{m:aU}(h:c6 m v=true):m.b8=true/\v=m.bU:=by
 grind[c6]
theorem ES:∀{a b:List ar} {p:ar},a.length=b.length->p∈a\/p∈b->p.length<=(gv a b).length
 |[],[],p,_,h=>by grind
 |k::ks,v::vs,p,ae,h=>by
  have aC:=Eb k;have c:=Eb v;have ih:=@ES ks vs p (by grind);grind[gv]
theorem yR:∀{l:List aa} {y:aa},y∈l->bE ts t y∈bG ts t l
 |v::l,y,h=>by
  rw[bG];rcases dK.1 h with rfl|h
  . simp
  . exact .tail _ (yR h)
theorem acK(b:(ts.getD t.toNat aM).Kind<=4)(a:cB ts true t v):ej ts t v=1:=by
 obtain⟨⟨_,_,k3,_⟩,c⟩:=(eI _ _ _).1 a;grind[vC]
theorem oj(H:cX ts):∀(n:Nat) {v:aa} {t:Int},cf v->cB ts true t v->(bE ts t v).length<=4096\/wt v<=3000->ej ts t v+13<=n\/wt v<=n->gi ts n t v
 |0,v,t,_,_,_,d=>by grind[adF]
 |n+1,v,t,f,A,c,d=>by
  have C:=H.V.ie H.T;have ae:(bE ts t v).length<=4096:=by
   rcases c with h|h
   . grind
   . have:=abo H f t A h;grind[lI]
  have aj:=gY v;obtain⟨⟨g1,g2,g3,g4⟩,F⟩:=(eI _ _ _).1 A;have G:t.toNat<ts.length:=by omega
  have o:=br G aM;have Y:=H.M _ o;have X:=(H.cN _ o).2.2;have Z:=g4 rfl;cases f with
  |mk _ hs h1 R S I j ai cI am an ap=>
  have z:wt v<=3000->∀y,y∈v.aq->wt y<=3000:=λh y ag=>by have:=gM ag;omega
  have P:wt v<=3000->∀y,y∈v.aJ->wt y<=3000:=λh y ag=>by have:=gM ag;omega
  have x:wt v<=n+1->∀y,y∈v.aq->wt y<=n:=λh y ag=>by have:=gM ag;omega
  have L:wt v<=n+1->∀y,y∈v.aJ->wt y<=n:=λh y ag=>by have:=gM ag;omega
  have r:=tx (ts:=ts) t v
  have bZ:7<=(ts.getD t.toNat aM).Kind->∀y,y∈v.aq->ej ts (ts.getD t.toNat aM).aK y+13<=n\/wt y<=n:=λU y ag=>d.imp (λd=>by
   rw[ao (show ¬(ts.getD t.toNat aM).Kind=5 by omega),ao (show ¬(ts.getD t.toNat aM).Kind=6 by omega)]at r;have:=mI (ts:=ts) (t:=(ts.getD t.toNat aM).aK) ag
   omega) λd=>x d _ ag
  have ak:v.aq=[]->v.aJ=[]->v.aq.length<=1000/\v.aJ.length<=1000:=λa b=>by grind
  unfold gi;rcases F with h|h|h|h|h|h|h|h|h
  . grind
  . grind
  . grind
  . grind
  . obtain⟨a1,a2,a3,a4,a5,g,q,k⟩:=h;obtain⟨f1,f2⟩:=h3.1 k;refine⟨⟨ae,by omega,by grind⟩,λ_ i l=>?_,by omega,by omega⟩;have s:=br (by omega:i<v.aq.length) aH;cases B:c6 ((ts.getD t.toNat aM).af.getD i aG) (v.aq.getD i aH)with
    |true=>
     obtain⟨N,O⟩:=agm B;have eO:=H.W _ o _ (br l aG) N;rw[<-O]at eO;refine oj H n (j _ s) (f2 i l) (.inr (by omega)) (.inr ?_);grind
    |false=>
     refine oj H n (j _ s) (f2 i l) ?_ (d.imp (λd=>by
      grind[EG]) λd=>x d _ s)
     rcases c with c|c
     . have h0:=Ka (ts:=ts) i l (by omega:i<v.aq.length) B;rw[xf (by omega),HI (mK _ _)]at ae;unfold fF at ae;grind
     grind
  . obtain⟨a1,a2,a3,a4,a5,g⟩:=h;cases bc:cD (ts.getD t.toNat aM).af v.ah with
    |none=>grind
    |some m=>
     rw[bc]at g;obtain⟨b1,b2,E⟩:=g;refine⟨⟨ae,by omega,by grind⟩,by omega,λ_ al J y ag=>?_,by omega⟩;cases J
     refine oj H n (j _ ag) (cO.1 E _ ag) ?_ (d.imp (λd=>by
      rw[ao (show ¬(ts.getD t.toNat aM).Kind=5 by omega),ad (show(ts.getD t.toNat aM).Kind=6 by omega),bc]at r;have:=mI (ts:=ts) (t:=m.aB) ag
      grind) λd=>x d _ ag)
     rcases c with c|c
     . rw[rM (by omega),bc,dD]at ae;have u:(bG ts m.aB v.aq).headD []=bE ts m.aB y:=by
        match f:v.aq,b2 with
        |[a],_=>rw[f]at ag;rw[na.1 ag,bG,bG];rfl
       simp only[u]at ae;omega
     grind
  . obtain⟨a1,a2,a3,a4,a5,g,q,k,a9⟩:=h;have w:=bZ (by omega);refine⟨⟨ae,by omega,by simp_all⟩,by omega,by omega,λ_=>⟨λy ag=>oj H n (j _ ag) (cO.1 a9 _ ag) ?_ (w _ ag),λy ag=>by simp_all⟩⟩;rcases c with c|c
    . left;rw[rN (by omega)]at ae;have:=JS (ts:=ts) (t:=(ts.getD t.toNat aM).aK) ag;omega
    . exact .inr (z c _ ag)
  . obtain⟨a1,a2,a3,a4,a5,g,q,k,a9,D,Q⟩:=h;have ab:=D8 (bG ts (ts.getD t.toNat aM).Key v.aJ) (bG ts (ts.getD t.toNat aM).aK v.aq)
    refine⟨⟨ae,by omega,by omega⟩,by omega,by omega,λ_=>⟨λy ag=>oj H n (j _ ag) (cO.1 D _ ag) ?_ (bZ (by omega) _ ag),λy ag=>oj H n (I _ ag) (cO.1 a9 _ ag) ?_ (d.imp (λd=>by
     have K:v.aJ≠[]:=λe=>by rw[e]at ag;cases ag
     rw[ao K]at r;have:=acK (C.mn _ o (by omega)).2 (cO.1 a9 _ ag)
     omega) λd=>L d _ ag)⟩⟩
    all_goals
     rcases c with c|c
     case inr=>first|exact .inr (z c _ ag)|exact .inr (P c _ ag)
     left;rw[rO (by omega)]at ae;have e:(bG ts (ts.getD t.toNat aM).Key v.aJ).length=(bG ts (ts.getD t.toNat aM).aK v.aq).length:=by rw[hZ,hZ];omega
     have:=ES (p:=bE ts _ y) e (by first|exact .inr (yR ag)|exact .inl (yR ag));omega
  . obtain⟨a1,a2,a3,a4,a5,g,q,k,a9⟩:=h;have w:=bZ (by omega);refine⟨⟨ae,by omega,by simp_all⟩,by omega,by omega,λ_=>⟨λy ag=>oj H n (j _ ag) (cO.1 a9 _ ag) ?_ (w _ ag),λy ag=>by simp_all⟩⟩;rcases c with c|c
    . left;rw[rP (by omega)]at ae;have u:bG ts (ts.getD t.toNat aM).aK v.aq=[bE ts (ts.getD t.toNat aM).aK y]:=by
       match f:v.aq,k with
       |[a],_=>rw[f]at ag;rw[na.1 ag,bG,bG]
       |[],_=>rw[f]at ag;cases ag
      rw[u]at ae;rw[gS]at ae;omega
    . exact .inr (z c _ ag)
end
section
variable {tw tr:List aj}
theorem LI{n:Nat}{u:aa}(a:(tw.getD t.toNat aM).Kind<=4)(h:eV tw tr n t v rt path= .inl u):u=v:=by
 cases n with
 |zero=>cases h
 |succ n=>
  grind[sT,hp]
theorem LJ{f:gj}(c:∀v rt path u,f t v rt path= .inl u->u=v){i:Nat}{l us:List aa}(h:fN f path t rt i l= .inl us):us=l:=by
 obtain⟨a,b⟩:=yI h;grind[ab5]
theorem acd{l:List aa}{r:List cG}(d:ha ms)(h:fT tw y path ms l= .inl r):lp y.af r:=by
 obtain⟨_,b,c⟩:=EL h;refine⟨?_,λa g=>?_⟩
 . have h1:=l8.2 d.1;grind
 . obtain⟨f,j,i,k,e⟩:=c a g;refine⟨?_,f⟩;rw[e];exact d.2 _ (br i _)
theorem cC.i64{n:Int}(h:cC n): -9223372036854775808<=n/\n<=9223372036854775807:=by grind[cC]
def ET(tr:List aj)(rt:Int)(u:aa):Prop:=cf u/\cB tr false rt u
def FF(tw tr:List aj)(n:Nat):Prop:=∀{v:aa},cf v->∀{t rt:Int} {path:au} {u:aa},cB tw true t v->gi tw n t v->0<=rt->rt<tr.length->eV tw tr n t v rt path= .inl u->ET tr rt u
theorem Zs(HW:cX tw)(HR:cX tr){n:Nat}(ih:FF tw tr n):FF tw tr (n+1):=by
 intro v au t rt path u aE aw p s h;unfold gi at aw;obtain⟨⟨z1,z2,z3⟩,aj,ak,J⟩:=aw;have SW:=HW.V.ie HW.T;have ck:=HR.V.ie HR.T;have P:=au;have aY:=gY v;obtain⟨⟨g1,g2,g3,g4⟩,aD⟩:=(eI _ _ _).1 aE;have aF:t.toNat<tw.length:=by omega
 have aI:rt.toNat<tr.length:=by omega
 have O:=br aF aM;have o:=br aI aM;have l:=λu=>(eI (ts:=tr) false rt u).2;rw[sT]at h;generalize I:tw.getD t.toNat aM=x at*;generalize ag:tr.getD rt.toNat aM=y at*;cases au with
 |mk _ hs h1 aU aV ap Y aX cI a8 ba bb=>
 have ad:∀{t rt:Int} {i:Nat} {us:List aa},e1 tw true t v.aq->(∀y,y∈v.aq->gi tw n t y)->0<=rt->rt<tr.length->fN (eV tw tr n) path t rt i v.aq= .inl us->us.length=v.aq.length/\(∀q,q∈us->cf q)/\e1 tr false rt us:=λ{t rt i us} X c a0 a1 ai=>by
  obtain⟨a,b⟩:=yI ai;have key:∀q,q∈us->ET tr rt q:=λq Z=>by
   obtain⟨j,F,rfl⟩:=JR aH Z;have g:=br (by omega:j<v.aq.length) aH;exact ih (Y _ g) (cO.1 X _ g) (c _ g) a0 a1 (b j (by omega))
  exact⟨a,λq c=>(key q c).1,cO.2 λq c=>(key q c).2⟩
 have aL:∀t,e1 tw true t v.aJ->(∀y,y∈v.aJ->gi tw n t y)->(tw.getD t.toNat aM).Kind<=4->∀{rt:Int} {i:Nat} {us:List aa},0<=rt->rt<tr.length->fN (eV tw tr n) path t rt i v.aJ= .inl us->us=v.aJ/\e1 tr false rt v.aJ:=λt X Z aK rt i us a0 a1 ai=>by
  have e:=LJ (λv rt path u h=>LI aK h) ai;subst e;obtain⟨a,b⟩:=yI ai;refine⟨rfl,cO.2 λq c=>?_⟩;obtain⟨j,F,rfl⟩:=JR aH c;exact(ih (ap _ c) (cO.1 X _ c) (Z _ c) a0 a1 (b j F)).2
 unfold hp at h;by_cases bM:x.Kind=y.Kind
 . rw[ao (by simpa using bM)]at h;rcases aD with d|d|d|d|d|d|d|d|d
   . rw[a',a',a',a',a']at h;split at h<;>cases h;exact⟨P,l _ ⟨⟨p,s,by omega,by simp⟩,.inl d⟩⟩
   . rw[a',a',a',a',a']at h;split at h<;>cases h;rename_i ae;exact⟨P,l _ ⟨⟨p,s,by omega,by simp⟩,.inr (.inl (by have:=ae.1 (by omega);simp_all))⟩⟩
   . rw[a',a',a',a',a']at h;split at h<;>cases h;rename_i ae;exact⟨P,l _ ⟨⟨p,s,by omega,by simp⟩,.inr (.inr (.inl (by have:=ae.2.1 (by omega);simp_all)))⟩⟩
   . rw[a',a',a',a',a']at h;split at h<;>cases h;rename_i ae;have L:cC v.ah:=by
      rcases d.2.2.2.2.2.2.2 with⟨y,aS,aT⟩|⟨_,h,_⟩
      . rw[<-aT];exact SW.S _ O (by omega) y aS
      . cases h
     refine⟨P,l _ ⟨⟨p,s,by omega,by simp⟩,.inr (.inr (.inr (.inl ⟨d.1,d.2.1,d.2.2.1,d.2.2.2.1,d.2.2.2.2.1,d.2.2.2.2.2.1,d.2.2.2.2.2.2.1,?_⟩)))⟩⟩;rcases ae.2.2 (by omega)with q|q
     . exact .inl q
     grind
   . obtain⟨a1,a2,a3,a4,a5,C,R,K⟩:=d;obtain⟨Q,aO⟩:=SW.A _ O (.inl (by omega));obtain⟨a6,a7⟩:=ck.A _ o (.inl (by omega));obtain⟨f1,f2⟩:=h3.1 K;rw[eF]at h;obtain⟨f,aC,h⟩:=vD h;obtain⟨r,am,rfl⟩:=jV h;obtain⟨b1,b2⟩:=I9 aC;have key:∀j,j<y.af.length->ET tr (y.af.getD j aG).aB (f.getD j aH):=λj N=>by
      have E:=br N aG;rcases MM (b2 j N)with⟨_,U,W⟩|⟨i,al,U,_⟩
      . rw[W];exact⟨(HR.T _ o).oR _ E,rL _ _ (HR.D _ o _ E U)⟩
      . obtain⟨d1,_,_⟩:=hd al;have g:=br (by omega:i<v.aq.length) aH;obtain⟨z,B⟩:=HR.hi.mem o E;exact ih (Y _ g) (f2 i d1) (aj (by omega) i d1) z B U
     have ar:=acd Q am;obtain⟨al,_,W⟩:=EL am;refine⟨.mk _ (by simp) (by simp) (by show f.length<=_;unfold reachBytes;omega) (by show r.length<=_;unfold reachBytes;omega) (λq c=>by cases c) (λq c=>?_) (λq c=>?_) (by simp) (by simp) (by simp) (λq c=>(ar.2 q c).1.i64),l _ ⟨⟨p,s,by show(5:Int)=_;omega,by simp⟩,.inr (.inr (.inr (.inr (.inl ⟨rfl,rfl,rfl,rfl,rfl,rfl,ar,h3.2 ⟨b1,λj N=>(key j N).2⟩⟩))))⟩⟩
     . obtain⟨j,F,rfl⟩:=JR aH c;exact(key j (by have:f.length=_:=b1;have aZ:j<f.length:=F;omega)).1
     . obtain⟨_,j,F,aN,e⟩:=W q c;have g:=br aN aH;have:=(aj (by omega) j F).len;rw[e];unfold reachBytes;grind
   . obtain⟨a1,a2,a3,a4,a5,C⟩:=d;rw[a',eF]at h;unfold rF at h;obtain⟨Q,aO⟩:=SW.A _ O (.inr (by omega));cases bc:cD x.af v.ah with
     |none=>rw[bc]at C;cases C.2.1
     |some m=>
      rw[bc]at C;obtain⟨b1,b2,az⟩:=C;have ab:=pG x.af v.ah;rw[bc]at ab;cases L:dx x.af v.ah with
      |none=>rw[L]at ab;cases ab
      |some i=>
      obtain⟨d1,d2,_⟩:=hd L;obtain⟨d3,d4⟩:=ki bc;have em:x.af.getD i aG=m:=pC Q (br d1 aG) d3 (by rw[d2,d4]);have hid:cC v.ah:=by rw[<-d4];exact Q.2 m d3
      simp only[L,em]at h;have g:=br (by omega:0<v.aq.length) aH;cases M:dx y.af v.ah with
      |some k=>
       simp only[M]at h;obtain⟨w,aC,rfl⟩:=jV h;obtain⟨k1,k2,_⟩:=hd M;have E:=br k1 aG;obtain⟨z,B⟩:=HR.hi.mem o E;obtain⟨z1,z2⟩:=ih (Y _ g) (cO.1 az _ g) (ak (by omega) _ bc _ g) z B aC;have an:cD y.af v.ah=some (y.af.getD k aG):=by rw[<-k2];exact Em (ck.A _ o (.inr (by omega))).1 E
       refine⟨.mk _ (by simp) (by simp) (by show[w].length<=_;unfold reachBytes;simp) (by simp) (λq c=>by cases c) (λq c=>?_) (λq c=>by cases c) (by simp) (by simp) hid.i64 (λq c=>by cases c),l _ ⟨⟨p,s,by show(6:Int)=_;omega,by simp⟩,.inr (.inr (.inr (.inr (.inr (.inl ⟨rfl,rfl,rfl,rfl,rfl,?_⟩)))))⟩⟩
       . grind
       . show match cD y.af v.ah with|some m=>_|none=>_
         rw[an];exact⟨rfl,rfl,z2,trivial⟩
      |none=>
       simp only[M]at h;split at h
       . cases h;rename_i aW;have an:cD y.af v.ah=none:=by
          have:=pG y.af v.ah;rw[M]at this;cases c:cD y.af v.ah with
          |none=>rfl
          |some _=>rw[c]at this;cases this
         have:=(ak (by omega) _ bc _ g).len;refine⟨.mk _ (by simp) (by simp) (by simp) (by show[_].length<=_;unfold reachBytes;simp) (λq c=>by cases c) (λq c=>by cases c) (λq c=>?_) (by simp) (by simp) hid.i64 (λq c=>?_),l _ ⟨⟨p,s,by show(6:Int)=_;omega,by simp⟩,.inr (.inr (.inr (.inr (.inr (.inl ⟨rfl,rfl,rfl,rfl,rfl,?_⟩)))))⟩⟩
         . rw[na.1 c];show(bE tw _ _).length<=_;unfold reachBytes;omega
         . grind
         grind
       . cases h
   . obtain⟨a1,a2,a3,a4,a5,C,R,K,a9⟩:=d;rw[a',a',eF]at h;unfold tV at h;split at h
     . rename_i aA;obtain⟨f,aC,rfl⟩:=jV h;obtain⟨z,B⟩:=HR.hi.elem o (by omega);obtain⟨av,G,H⟩:=ad a9 (J (by omega)).1 z B aC;exact⟨.mk _ (by simp) (by simp) (by show f.length<=_;omega) (by simp) (λq c=>by cases c) G (λq c=>by cases c) (by simp) (by simp) (by simp) (λq c=>by cases c),l _ ⟨⟨p,s,by show(7:Int)=_;omega,by simp⟩,.inr (.inr (.inr (.inr (.inr (.inr (.inl ⟨rfl,rfl,rfl,rfl,rfl,rfl,rfl,by show(f.length:Int)<=_;omega,H⟩))))))⟩⟩
     . cases h
   . obtain⟨a1,a2,a3,a4,a5,C,R,K,a9,ax,ay⟩:=d;rw[a',a',a',eF]at h;unfold tW at h;split at h
     . rename_i aA;obtain⟨ks,ds,h⟩:=vD h;obtain⟨f,aC,rfl⟩:=jV h;obtain⟨z,B⟩:=HR.hi.elem o (by omega);obtain⟨aQ,aR⟩:=HR.hi.key o (by omega);obtain⟨av,G,H⟩:=ad ax (J (by omega)).1 z B aC;obtain⟨rfl,aP⟩:=aL _ a9 (J (by omega)).2 (SW.mn _ O (by omega)).2 aQ aR ds;exact⟨.mk _ (by simp) (by show v.aJ.length<=_;omega) (by show f.length<=_;omega) (by simp) ap G (λq c=>by cases c) (by simp) (by simp) (by simp) (λq c=>by cases c),l _ ⟨⟨p,s,by show(8:Int)=_;omega,by simp⟩,.inr (.inr (.inr (.inr (.inr (.inr (.inr (.inl ⟨rfl,rfl,rfl,rfl,rfl,rfl,by show(v.aJ.length:Int)<=_;omega,by show f.length=v.aJ.length;omega,aP,H,ay⟩)))))))⟩⟩
     . cases h
   . obtain⟨a1,a2,a3,a4,a5,C,R,K,a9⟩:=d;rw[a',a',a',a',eF]at h;obtain⟨f,aC,rfl⟩:=jV h;obtain⟨z,B⟩:=HR.hi.elem o (by omega);obtain⟨av,G,H⟩:=ad a9 (J (by omega)).1 z B aC;exact⟨.mk _ (by simp) (by simp) (by show f.length<=_;omega) (by simp) (λq c=>by cases c) G (λq c=>by cases c) (by simp) (by simp) (by simp) (λq c=>by cases c),l _ ⟨⟨p,s,by show(9:Int)=_;omega,by simp⟩,.inr (.inr (.inr (.inr (.inr (.inr (.inr (.inr ⟨rfl,rfl,rfl,rfl,rfl,rfl,rfl,by show f.length<=1;omega,H⟩)))))))⟩⟩
 grind
theorem I'(HW:cX tw)(HR:cX tr):∀n,FF tw tr n
 |0=>λ_ _ _ _ _ _ _ _ _ h=>by cases h
 |n+1=>Zs HW HR (I' HW HR n)
end
theorem Zt{s:bq}(H:kQ s.Types)(e:cf v)(f:wt v<=1099511627776)(d:cB s.Types false t v)(b:vo (s,t,v)=some 0):
 lg (s,t,v)=some (qg s.Types t v):=by
 have h1:=adh H e f d;have c:vo ((⟨s.Types⟩:bq),t,v)=some 0:=b;rw[lg];simp only[aa.bO];rw[c,h1];simp only[bg,ay];rw[c2];unfold qg;generalize bE s.Types t v=p;generalize ej s.Types t v=l;by_cases g:4096<p.length
 . rw [ad (by have:(4096:Int)<p.length:= by omega
              simp[this]),ad (.inl g)]
 . by_cases g2:200<l
   . rw [ad (by have:¬ (4096:Int)<p.length:= by omega
                have a:(200:Int)<l:=by omega
                simp[this,a]),ad (.inr g2)]
   . rw [ao (by have:¬ (4096:Int)<p.length:= by omega
                have a:¬(200:Int)<l:=by omega
                simp[this,a]),a']
theorem MO(H:cX ts)(a:FA ts t v):lg ((⟨ts⟩:bq),t,v)=some (qg ts t v):=
 Zt (s:=⟨ts⟩) (H.V.ie H.T) a.2.1 (fQ a.2.2 (by decide)) a.1 (Sz H.T H.V a.2.1 a.1)
noncomputable def uJ (ts:List aj)(t:Int)(m:ar):aa×Int:=
 if t<0\/(ts.length:Int)<=t then(JJ,4)else if 4096<m.length then(JJ,12)else match dC ts 200 t m with
  |some v=>(v,0)
  |none=>(JJ,12)
section
variable {ts:List aj}
theorem Ic(H:nq ts)(t:Int)(m:ar):nP ((⟨ts⟩:bq),t,m)=some (uJ ts t m):=by
 rw[nP,I2,(sV H.S.T H.V).1];simp only[bg,ay];unfold uJ;by_cases h1:t<0\/(ts.length:Int)<=t
 . have c:(bif decide (t<0)then true else decide ((ts.length:Int)<=t))=true:=by rcases h1 with h1|h1<;>simp[h1]
   rw[c2,ad c,ad h1];rfl
 . have c:¬(bif decide (t<0)then true else decide ((ts.length:Int)<=t))=true:=by
    have a:¬t<0:=λh=>h1 (.inl h);have b:¬(ts.length:Int)<=t:=λh=>h1 (.inr h);simp[a,b]
   by_cases d:4096<m.length
   . rw[c2,ao c,dc,ao h1,ad d];rfl
   . have d1:=NO H 200 (by omega) t m [] 0 [] (by omega) (by omega) (by omega) rfl;rw[c2,ao c,ev,ao h1,ao d];cases e:dC ts 200 t m with
     |none=>
      obtain⟨w,f1,f2,f⟩:=d1.2 e;rw[f];rfl
     |some v=>
      rw[d1.1 v e];simp[aa.bO]
theorem ace(H:cX ts){m:ar}(ht:0<=t/\t<ts.length)(d:m.length<=4096)(h:dC ts 200 t m=some v):FA ts t v:=by
 obtain⟨a,b,c⟩:=MI H 200 t m v (by omega) ht.1 ht.2 h;exact⟨a,b,by omega⟩
end
theorem Es{m:aU}(a:cf v):tl (m,v)=some (c6 m v):=by
 rw[tl];simp[aa.bO];unfold c6;cases b:m.b8 with
 |false=>rfl
 |true=>
  obtain⟨r,c,d⟩:=Js a m.bU;grind
theorem Ja(h:p.length<=100000:=by omega):vq p=some (c8 p):=by
 rw[vq,j8,po];have:=nW (n:=p.length) (by omega);simp only[bg,ay];rw[ad (js)];rfl
theorem abp{c:Bool}(hid:cC id)(h:p.length<=4096):D3 (id,c,p)=some (eS id.toNat c p,0):=by
 unfold cC at hid;obtain⟨n,rfl⟩:=Int.eq_ofNat_of_zero_le (by omega:0<=id);rw[D3,ao (by grind),ao (by grind),Jo (by omega)];rfl
section
variable {ts:List aj}
theorem Ie:∀{ms:List aU} {l:List aa},((df ts ms l).map λf=>f.id).Sublist (ms.map λm=>m.ah.toNat)
 |[],l=>by grind[df]
 |m::ms,[]=>by grind[df]
 |m::ms,v::l=>by
  rw[df];split
  . exact(Ie).cons _
  . exact(Ie).cons₂ _
theorem LK{l:List aa}(c:ha ms):(df ts ms l).Pairwise (λa b=>a.id<b.id):=by
 have h1:(ms.map λm=>m.ah.toNat).Pairwise (· < ·):=l8.2 (c.1.imp_of_mem λ{a b} d e h=>by
  have:=c.2 a d
  grind[cC])
 exact l8.1 (h1.sublist Ie)
theorem Ig(h:(ts.getD t.toNat aM).Kind=5)(a:v.Rest=[])(b:ha (ts.getD t.toNat aM).af):bE ts t v=(df ts (ts.getD t.toNat aM).af v.aq).flatMap Fd.text:=by
 rw[xf h];have c:lp (ts.getD t.toNat aM).af v.Rest:=by rw[a];exact⟨.nil,λx I=>by grind⟩
 have e:fF ts (ts.getD t.toNat aM).af v.aq v.Rest=df ts (ts.getD t.toNat aM).af v.aq:=by
  grind[fF]
 grind[MJ,Jp,yX,JI,mK,LK]
def mr(ts:List aj)(t:Int)(v:aa):Prop:=lf ((⟨ts⟩:bq),t,v)=some (bE ts t v)
theorem QK(b:∀m,m∈ms->cC m.ah)(ae:v.aq.length=ms.length)(e:ms.length<=1000)(c:∀y,y∈v.aq->cf y)(hs:∀i,i<ms.length->c6 (ms.getD i aG) (v.aq.getD i aH)=false->(bE ts (ms.getD i aG).aB (v.aq.getD i aH)).length<=4096/\mr ts (ms.getD i aG).aB (v.aq.getD i aH)):
 ∀(k i:Nat) (acc:ar),i+k=ms.length->acc.length<=i*5000->
 q3 (acc,ms,(ms.length:Int),(i:Int),ts,v)=some (acc++(df ts (ms.drop i) (v.aq.drop i)).flatMap Fd.text)
 |0,i,acc,g,f=>by
  simp_all[q3,ao,hI,df]
 |k+1,i,acc,g,f=>by
  have aE:i<ms.length:=by omega
  have a:i<v.aq.length:=by omega
  have j:=br a aH;rw[q3,ad (by grind),ad (bu aE)];simp only[bg,ay,bx,aa.bO,mH];rw[ad (bu a),Es (c _ j),hQ aE aG,hQ a aH,df];have o:=λacc=>QK b ae e c hs k (i+1) acc (by omega);cases l:c6 (ms.getD i aG) _ with
  |true=>
   grind[FK]
  |false=>
   obtain⟨h1,d⟩:=hs i aE l;rw[ad (bu a),d];simp only[ay];rw[abp (b _ (br aE aG)) (by omega)];simp only[ay];have hid:=b _ (br aE aG);unfold cC at hid;have a1:=vt (p:=bE ts (ms.getD i aG).aB (v.aq.getD i aH)) (by omega);have a2:=Ao (n:=2*(ms.getD i aG).ah.toNat+(if(ms.getD i aG).cu then 1 else 0)) (by grind);have q:(eS (ms.getD i aG).ah.toNat (ms.getD i aG).cu (bE ts (ms.getD i aG).aB (v.aq.getD i aH))).length<=5000:=by
    grind[eS]
   rw[ad (js),cg,o _ (by grind),kD];rfl
theorem QL(b:¬x.Kind=8)(ae:v.aq.length<=3000)(hs:∀y,y∈v.aq->(bE ts x.aK y).length<=4096/\mr ts x.aK y):
 ∀(k i:Nat) (acc:ar),i+k=v.aq.length->acc.length<=i*5000->
 k' (acc,v.aq,(v.aq.length:Int),(i:Int),ts,v,x)=some (acc++(bG ts x.aK (v.aq.drop i)).flatMap c8)
 |0,i,acc,d,c=>by
  simp_all[k',ao,hI,bG]
 |k+1,i,acc,d,c=>by
  have aE:i<v.aq.length:=by omega
  obtain⟨h1,a⟩:=hs _ (br aE aH);rw[k',ad (by grind),ad (bu aE)];simp only[bg,ay,bx,aa.bO];have a1:=vt (p:=bE ts x.aK (v.aq.getD i aH)) (by omega);rw[ao (by grind),a];simp only[ay];rw[Ja];simp only[ay];rw[ad (js),cg,QL b ae hs k (i+1) _ (by omega) (by grind),hQ aE aH,bG,hJ,kD]
theorem Pr(e:x.Kind=8)(j:v.aq.length=v.aJ.length)(ae:v.aq.length<=3000)(hs:∀y,y∈v.aq->(bE ts x.aK y).length<=4096/\mr ts x.aK y)(b:∀y,y∈v.aJ->(bE ts x.Key y).length<=4096/\mr ts x.Key y):
 ∀(k i:Nat) (acc:ar),i+k=v.aq.length->acc.length<=i*9000->
 k' (acc,v.aq,(v.aq.length:Int),(i:Int),ts,v,x)=some (acc++gv (bG ts x.Key (v.aJ.drop i)) (bG ts x.aK (v.aq.drop i)))
 |0,i,acc,g,f=>by
  simp_all[k',ao,hI,bG,gv]
 |k+1,i,acc,g,f=>by
  have aE:i<v.aq.length:=by omega
  have a:i<v.aJ.length:=by omega
  obtain⟨h1,c⟩:=hs _ (br aE aH);obtain⟨l,d⟩:=b _ (br a aH);rw[k',ad (by grind),ad (bu aE)];simp only[bg,ay,bx,aa.bO];have a1:=vt (p:=bE ts x.aK (v.aq.getD i aH)) (by omega);have a2:=vt (p:=bE ts x.Key (v.aJ.getD i aH)) (by omega);rw[ad (by grind),ad (bu a),d];simp only[ay];rw[Ja];simp only[ay];rw[ad (js),c];simp only[ay];rw[Ja];simp only[ay];rw[ad (js (by grind)),cg,Pr e j ae hs b k (i+1) _ (by omega) (by grind),hQ aE aH,hQ a aH,bG,bG,gv,kD,kD]
theorem acf(H:kQ ts)(i:cf v)(f:cB ts true t v)(k4:v.Kind<=4):jT (t,v,1,ts,0)=some (bE ts t v,ts,1):=by
 obtain⟨⟨g1,g2,g3,_⟩,b⟩:=(eI _ _ _).1 f;have a:cq v.bw:=by cases i with|mk _ _ _ _ _ _ _ _ _ a _ _=>exact a
 obtain⟨j,rfl⟩:∃j:Nat,t=(j:Int):=⟨t.toNat,by omega⟩
 have c:j<ts.length:=by omega
 have g:=br c aM;have k:=@xa ts (j:Int) v;have d:=@xc ts (j:Int) v;have l:=@xd ts (j:Int) v;have e:=@xe ts (j:Int) v;rw[jT];simp only[bg,ay];rw[ad (bu c),show l7 0 1=1 by rfl];simp only[bx,aa.bO]at g3 b k d l e⊢;generalize ts.getD j aM=x at*;rcases b with h|h|h|h|h|h|h|h|h
 . grind
 . rw[ao (mt hn (by omega)),ad (ho (by omega)),d (by omega),wv a];grind[Aa,gA,bx,EM]
 . grind
 . obtain⟨n,aN,ae⟩:∃n:Nat,v.ah=(n:Int)/\n<=1000:=by
    rcases h.2.2.2.2.2.2.2 with⟨y,m,o⟩|⟨_,h,_⟩
    . have:=H.S x g (by omega) y m;grind[cC]
    grind
   rw[ao (mt hn (by omega)),ao (mt hn (by omega)),ao (mt hn (by omega)),ad (ho (by omega)),e (by omega),aN,j8,EM (by omega),bx];rfl
 all_goals omega
theorem acL(H:cX ts)(b:cf v)(a:cB ts true t v)(hs:(bE ts t v).length<=4096)(k4:v.Kind<=4):lg ((⟨ts⟩:bq),t,v)=some (bE ts t v,0):=by
 rw[lg];simp[aa.bO];rw[Sz H.T H.V b (rL _ _ a)];rw[acf (H.V.ie H.T) b a k4];grind
theorem Ps(H:cX ts)(r:cf v):∀t,cB ts true t v->(bE ts t v).length<=4096->mr ts t v:=by
 have s:=H.V.ie H.T;have G:=r;induction r with
 |mk v hs h1 P Q U o X cI ab ai aj Y z=>
  intro t u b;obtain⟨⟨g1,g2,g3,g4⟩,E⟩:=(eI _ _ _).1 u;obtain⟨j,rfl⟩:∃j:Nat,t=(j:Int):=⟨t.toNat,by omega⟩
  have w:j<ts.length:=by omega
  have p:=br w aM;have D:=g4 rfl;have Z:=acL H G u b;have R:=H.M _ p;unfold mr;rw[lf,ad (bu w)];simp only[bg,ay,aa.bO];rw[bx]at*;rcases E with h|h|h|h|h|h|h|h|h
  . grind
  . grind
  . grind
  . grind
  . obtain⟨a1,a2,a3,a4,a5,c,k,d⟩:=h;obtain⟨g,I⟩:=s.A _ p (.inl (by omega));obtain⟨f1,f2⟩:=h3.1 d;rw[Ig (by rw[bx];omega) D (by rw[bx];exact g),bx]at b
    have h0:=QK (ts:=ts) (ms:=(ts.getD j aM).af) (v:=v) g.2 f1 (by omega) o (λi S W=>by
     grind[br,Nat.le_trans,Ka]) (ts.getD j aM).af.length 0 [] (by omega) (by simp)
    have f:q3 ([],(ts.getD j aM).af,((ts.getD j aM).af.length:Int),0,ts,v)=_:=h0;rw[ad (ho (by omega)),f];grind[Ig,bx]
  . obtain⟨a1,a2,a3,a4,a5,c⟩:=h;obtain⟨g,I⟩:=s.A _ p (.inr (by omega));cases bc:cD (ts.getD j aM).af v.ah with
    |none=>rw[bc]at c;cases c.2.1
    |some m=>
     rw[bc]at c;obtain⟨b1,b2,B⟩:=c;obtain⟨d3,d4⟩:=ki bc;obtain⟨q,J,K,L⟩:=Gt g (by omega) bc;have hid:=g.2 m d3;unfold cC at hid;have ag:=br (by omega:0<v.aq.length) aH;have F:bG ts m.aB v.aq=[bE ts m.aB (v.aq.getD 0 aH)]:=by
      match r:v.aq,b2 with
      |[a],_=>rw[bG,bG];rfl
     have z1:(bE ts m.aB (v.aq.getD 0 aH)).length<=4096:=by
      rw[rM (t:=(j:Int)) (v:=v) (by rw[bx];omega),bx,bc,dD]at b;simp only[F,List.headD_cons]at b;omega
     have z2:=z _ ag (o _ ag) m.aB (cO.1 B _ ag) z1;unfold mr at z2;obtain⟨n,aN⟩:∃n:Nat,v.ah=(n:Int):=⟨v.ah.toNat,by omega⟩
     have:=Ao (n:=n) (by omega);rw[ao (mt hn (by omega)),ad (ho (by omega)),K];simp only[ay];rw[aN,j8,po];simp only[ay];rw[ad (bu J),ad (by rw[b2];rfl),bx,L,show(0:Int).toNat=0 from rfl,z2];simp only[ay];rw[ad (js),rM (t:=(j:Int)) (v:=v) (by rw[bx];omega),bx,bc,aN,bx];grind
  . obtain⟨a1,a2,a3,a4,a5,c,k,d,a9⟩:=h
    have h0:=QL (ts:=ts) (x:=ts.getD j aM) (v:=v) (by omega) (by omega) (λy ag=>by
     rw[rN (by rw[bx];omega),bx]at b;have ae:=fQ (JS (ts:=ts) (t:=(ts.getD j aM).aK) ag) b
     grind[cO]) v.aq.length 0 [] (by omega) (by simp)
    have f:k' ([],v.aq,(v.aq.length:Int),0,ts,v,ts.getD j aM)=_:=h0;rw[ao (mt hn (by omega)),ao (mt hn (by omega)),ao (mt hn (by omega)),ad (ho (by omega)),ad (ho (by omega)),f,rN (by rw[bx];omega),bx];rfl
  . obtain⟨a1,a2,a3,a4,a5,c,k,d,a9,N,O⟩:=h;rw[rO (by rw[bx];omega),bx]at b;have e:(bG ts (ts.getD j aM).Key v.aJ).length=(bG ts (ts.getD j aM).aK v.aq).length:=by grind[hZ]
    have h0:=Pr (ts:=ts) (x:=ts.getD j aM) (v:=v) (by omega) d (by omega) (λy ag=>by
     have ae:=fQ (ES e (.inr (yR ag))) b;grind[cO]) (λy ag=>by
     have ae:=fQ (ES e (.inl (yR ag))) b
     grind[cO]) v.aq.length 0 [] (by omega) (by simp)
    have f:k' ([],v.aq,(v.aq.length:Int),0,ts,v,ts.getD j aM)=_:=h0;rw[ao (mt hn (by omega)),ao (mt hn (by omega)),ao (mt hn (by omega)),ao (mt hn (by omega)),ad (ho (by omega)),f,rO (by rw[bx];omega),bx];rfl
  . obtain⟨a1,a2,a3,a4,a5,c,k,d,a9⟩:=h;rw[ao (mt hn (by omega)),ao (mt hn (by omega)),ad (ho (by omega)),rP (by rw[bx];omega),bx]
    match C:v.aq,d with
    |[],_=>
     rw[vk,c2,bG];rfl
    |[a],_=>
     have l:a∈v.aq:=(by grind);have z1:(bE ts (ts.getD j aM).aK a).length<=4096:=by
      rw[rP (by rw[bx];omega),bx,C,bG,bG,gS]at b;omega
     have z2:=z _ l (o _ l) _ (cO.1 a9 a l) z1;rw[vk,ad (by simp),ad (show aQ 0 [a].length=true from rfl)];simp only[aa.bO];rw[show[a].getD (Int.toNat 0) aH=a from rfl,z2];simp only[bg,ay];rw[ad (js (by show 1+(bE ts (ts.getD j aM).aK a).length<=_;omega)),show aT .i64 0 1=1 from by decide,vk,ao (show ¬decide ((1:Int)<([a].length:Int))=true from by simp),bG,bG];rfl
end
theorem Lu{a0 a2 a4 z0 z2 z4:Int}{l:List aa}{r:List cG}(ae:l.length<=1000000000)(h:∀y,y∈l->kh y=some y):∀(k i:Nat),i+k=l.length->
 tj ((l.length:Int),(i:Int),a0,a1,a2,a3,a4,z0,z1,z2,z3,z4,l,l2,r)=some (a0,a1,a2,a3,a4,z0,z1,z2,z3,z4,l,l2,r)
 |0,i,a=>by simp_all[tj,ao]
 |k+1,i,a=>by
  have aE:i<l.length:=by omega
  rw[tj,ad (by grind),ad (bu aE),bx,ad (by grind)];simp only[aa.bO];rw[h _ (br aE aH)];simp only[bg,ay];rw[ad (bu aE),ad (by grind),cg,Eo aE];exact Lu ae h k _ (by omega)
theorem Lv{a0 a2 a4 z0 z2 z4:Int}{l:List aa}{r:List cG}(ae:l.length<=1000000000)(h:∀y,y∈l->kh y=some y):∀(k i:Nat),i+k=l.length->
 tk ((l.length:Int),(i:Int),a0,a1,a2,a3,a4,z0,z1,z2,z3,z4,l,l2,r)=some (a0,a1,a2,a3,a4,z0,z1,z2,z3,z4,l2,l,r)
 |0,i,a=>by simp_all[tk]
 |k+1,i,a=>by
  have aE:i<l.length:=by omega
  rw[tk,ad (by grind),ad (bu aE),bx,ad (by grind)];simp only[aa.bO];rw[h _ (br aE aH)];simp only[bg,ay];rw[ad (bu aE),ad (by grind),cg,Eo aE];exact Lv ae h k _ (by omega)
theorem Zu(i:cf v):wt v<=1000000000->kh v=some v:=by
 induction i with
 |mk v hs h1 n o q p s cI z A B k j=>
  intro t;have u:=gY v;have w:=Aq v.aJ;have l2:=Aq v.aq;have x:=MC v.Rest;have kk:∀y,y∈v.aJ->kh y=some y:=λy ag=>k y ag (by have:=gM ag;omega);have m:=λy ag=>j y ag (by have:=gM ag;omega);have e:fv 120 v.aJ=some v.aJ:=by unfold fv;rw[ad (n4 (wz (by simp)))]
  have f:fv 120 v.aq=some v.aq:=by unfold fv;rw[ad (n4 (wz (by simp)))]
  have g:fv 24 v.Rest=some v.Rest:=by unfold fv;rw[ad (n4 (wz (by simp)))]
  have a:=Lu (a0:=v.Kind) (a1:=v.b9) (a2:=v.bw) (a3:=v.bH) (a4:=v.ah) (z0:=0) (z1:=false) (z2:=0) (z3:=[]) (z4:=0) (l:=v.aJ) (l2:=v.aq) (r:=v.Rest) (by omega) kk v.aJ.length 0 (by simp);have c:=Lv (a0:=v.Kind) (a1:=v.b9) (a2:=v.bw) (a3:=v.bH) (a4:=v.ah) (z0:=0) (z1:=false) (z2:=0) (z3:=[]) (z4:=0) (l:=v.aq) (l2:=v.aJ) (r:=v.Rest) (by omega) m v.aq.length 0 (by simp);have b:tj ((v.aJ.length:Int),0,v.Kind,v.b9,v.bw,v.bH,v.ah,0,false,0,[],0,v.aJ,v.aq,v.Rest)=_:=a;have d:tk ((v.aq.length:Int),0,v.Kind,v.b9,v.bw,v.bH,v.ah,0,false,0,[],0,v.aq,v.aJ,v.Rest)=_:=c;rw[kh,e,f,g];simp only[bg,ay];rw[b];simp only[ay];rw[d];cases v;rfl
theorem Q1(ai:path.length<=90000)(a:au):ti (tw,tr,a,path)=some ((⟨0,false,0,[],0,[],[],[]⟩:aa),false,tw,tr,path,path):=by
 rw[ti];unfold tF fv;rw[ad (n4 (dv (by simp) (by omega)))];simp
theorem EZ(ai:path.length<=90000)(id:Int)(a:au):vi (id,tw,tr,a,path)=some ((⟨0,false,0,[],0,[],[],[]⟩:aa),false,tw,tr,path,path++[id]):=by
 rw[vi];unfold tF fv;rw[ad (n4 (dv (by simp) (by omega)))];simp only[ly,bg,ay];rw[ad (by rfl),ad (dv (by simp) (by grind))]
theorem zb(ae:x.af.length<=1000)(id:Int):gH (x,id)=some (o1 x.af id):=by
 obtain⟨r,a,b⟩:=rf (t:=x) (id:=id) (by omega);grind[T8,abn]
section
variable {tw tr:List aj}
def fC(tw tr:List aj)(a path:au):aa ⊕ au->aa×Bool×List aj×List aj×au×au
 |.inl u=>(u,true,tw,tr,a,path)
 |.inr p=>(⟨0,false,0,[],0,[],[],[]⟩,false,tw,tr,p,path)
def FD(tw tr:List aj)(a path:au)(acc:List aa):List aa ⊕ au->(Bool×List aj×List aj×au×au) ⊕ (List aj×List aj×au×List aa×au)
 |.inl us=>.inr (tw,tr,a,acc++us,path)
 |.inr p=>.inl (false,tw,tr,p,path)
def ux(tw tr:List aj)(a path:au):List aa ⊕ au->List aa×Bool×List aj×List aj×au×au
 |.inl us=>(us,true,tw,tr,a,path)
 |.inr p=>([],false,tw,tr,p,path)
def Part(tw tr:List aj)(f:gj)(path:au)(t rt:Int)(v:aa):Prop:=∀(step:Int) (a:au),q6 (step,t,v,rt,tw,tr,a,path)=some (fC tw tr a path (f t v rt (path++[step])))
theorem MP{step:Int}{a:au}{o:aa ⊕ au}(ai:path.length<=90000)(h:tm (t,v,rt,tw,tr,a,path++[step])=some (fC tw tr a (path++[step]) o)):q6 (step,t,v,rt,tw,tr,a,path)=some (fC tw tr a path o):=by
 rw[q6];simp only[bg,ay,aa.bO];rw[ad (dv (by simp) (by grind)),h];have aC:dY .i64 ((path++[step]).length:Int) 1=(path.length:Int):=by grind[uI]
 have b:eH 0 (path.length:Int) (path++[step]).length=true:=iN.2 (by grind);cases o with
 |inl u=>
  simp only[ay,aa.bO,fC];simp_all
 |inr p=>
  simp only[ay,aa.bO,fC];simp_all
theorem SA{f:gj}{l:List aa}(ae:l.length<=50000)(h:∀y,y∈l->Part tw tr f path t rt y):∀(k i:Nat) (acc:List aa) (a:au),i+k=l.length->acc.length<=i->
 s9 (t,rt,l,(l.length:Int),(i:Int),tw,tr,a,acc,path)=some (FD tw tr a path acc (fN f path t rt i (l.drop i)))
 |0,i,acc,a,c,b=>by
  simp_all[s9,ao,hI,fN,FD]
 |k+1,i,acc,a,c,b=>by
  have aE:i<l.length:=by omega
  rw[s9,ad (by grind),ad (bu aE),bx];simp only[aa.bO];rw[h _ (br aE aH),hQ aE aH,fN];cases f t (l.getD i aH) rt _ with
  |inr p=>rfl
  |inl u=>
   simp only[bg,ay,fC,ez,aa.bO];rw[c2,ad (dv (by simp) (by grind)),cg,SA ae h k (i+1) _ a (by omega) (by grind)];cases fN f path t rt (i+1) _ with
   |inr p=>rfl
   |inl us=>simp[FD,jY]
theorem yS{f:gj}{l:List aa}(ae:l.length<=50000)(h:∀y,y∈l->Part tw tr f path t rt y)(a:au):
 nK (t,l,rt,tw,tr,a,path)=some (ux tw tr a path (fN f path t rt 0 l)):=by
 have h0:=SA ae h l.length 0 [] a (by simp) (by simp);have b:s9 (t,rt,l,l.length,0,tw,tr,a,[],path)=_:=h0;rw[nK,b,j2];cases fN f _ t rt 0 l<;>rfl
def uy(tw tr:List aj)(a path:au)(x:aj)(v:aa)(y:aj)(acc:List aa):List aa ⊕ au->(Bool×List aj×List aj×au×aa×au) ⊕ (List aj×List aj×au×aj×aa×aj×Int×Bool×Int×ar×Int×Int×Bool×Int×ar×Int×au×List aa)
 |.inl us=>.inr (tw,tr,a,x,v,y,0,false,0,[],0,v.Kind,false,0,[],0,path,acc++us)
 |.inr p=>.inl (false,tw,tr,p,⟨0,false,0,[],0,[],[],[]⟩,path)
theorem MQ{f:gj}(ai:path.length<=90000)(I:x.af.length<=1000)(ag:y.af.length<=1000)(ae:v.aq.length=x.af.length)(o:∀q,q∈v.aq->cf q)
 (e:∀n,n∈y.af->n.b8=true->kh n.bU=some n.bU)
 (h:∀i,i<x.af.length->∀n,n∈y.af->Part tw tr f path (x.af.getD i aG).aB n.aB (v.aq.getD i aH)/\∀p u,f (x.af.getD i aG).aB (v.aq.getD i aH) n.aB p= .inl u->cf u):∀(k j:Nat) (acc:List aa) (a:au),j+k=y.af.length->acc.length<=j->
 oZ (y.af,(y.af.length:Int),(j:Int),tw,tr,a,x,v,y,0,false,0,[],0,v.Kind,false,0,[],0,path,acc)=some (uy tw tr a path x v y acc (ji f x v path (y.af.drop j)))
 |0,j,acc,a,z,s=>by
  simp_all[oZ,ao,hI,ji,uy,aa.bO]
 |k+1,j,acc,a,z,s=>by
  have aE:j<y.af.length:=by omega
  have g:=br aE aG;have r:=λacc a=>MQ ai I ag ae o e h k (j+1) acc a (by omega);rw[oZ,ad (by grind),ad (bu aE),bx];simp only[bg,ay,aa.bO,mH];rw[zb I,hQ aE aG,ji];unfold ng o1;generalize aN:y.af.getD j aG=n at*;cases bc:dx x.af n.ah with
  |none=>
   simp only[ay,gg];rw[ad trivial];cases w:n.b8 with
   |false=>
    simp only[gg];rw[ad trivial,EZ ai];rfl
   |true=>
    rw[c2,e n g w];simp only[ay];rw[ad (dv),cg,r _ _ (by simp;omega),ad trivial];cases ji f x v path (y.af.drop (j+1))with
    |inr p=>rfl
    |inl us=>simp[uy,jY]
  |some i=>
   obtain⟨c,_,_⟩:=hd bc;have d:i<v.aq.length:=(by omega);obtain⟨B,C⟩:=h i c n g;simp only[ay,ez];rw[c2,ad (bu c),ad (bu d),bx,B n.ah a];have l:=Es (m:=x.af.getD i aG) (o _ (br d aH));cases t:f (x.af.getD i aG).aB (v.aq.getD i aH) n.aB (path++[n.ah])with
   |inr p=>
    simp only[ay,fC,aa.bO,gg,ez,Bool.and_false];rw[ad (bu c),ad (bu d),l];rw[ML];generalize c6 (x.af.getD i aG) (v.aq.getD i aH)=b at*;cases b with
    |false=>rfl
    |true=>
     simp only[ib];rw[ad trivial,EZ ai];rfl
   |inl u=>
    have A:=Es (m:=n) (C _ u t);simp only[ay,fC,aa.bO,gg,ez,Bool.and_true];rw[ad (bu c),ad (bu d),l];simp only[ay,cJ,cE];rw[Er];generalize c6 (x.af.getD i aG) (v.aq.getD i aH)=b at*;have E:(some [u]>>=λt110=>if room 120 (acc++t110).length then oZ (y.af,(y.af.length:Int),aT .i64 (j:Int) 1,tw,tr,a,x,v,y,0,false,0,[],0,v.Kind,false,0,[],0,path,acc++t110)else none)=some (uy tw tr a path x v y acc (jY (.inl u) (ji f x v path (y.af.drop (j+1))))):=by
     simp only[bg,ay];rw[ad (dv (by simp)),cg,r _ _ (by simp;omega)];cases ji f x v path (y.af.drop (j+1))with
     |inr p=>rfl
     |inl us=>simp[uy,jY]
    cases b with
    |false=>grind
    |true=>
     rw[ad rfl,A];cases D:c6 n u with
     |true=>grind
     |false=>
      rw[EZ ai];rfl
def AJ(tw tr:List aj)(a path:au)(v:aa)(its:List aa)(acc:List cG):List cG ⊕ au->(Bool×List aj×List aj×aa×au×au) ⊕ (List aj×List aj×au×Int×Bool×Int×ar×Int×Int×Bool×Int×ar×Int×au×List aa×List cG)
 |.inl b=>.inr (tw,tr,a,0,false,0,[],0,v.Kind,false,0,[],0,path,its,acc++b)
 |.inr p=>.inl (false,tw,tr,⟨0,false,0,[],0,[],[],[]⟩,path,p)
theorem MR(ai:path.length<=90000)(I:x.af.length<=1000)(ag:y.af.length<=1000)(ae:v.aq.length=x.af.length)(f:∀q,q∈v.aq->cf q)
 (h:∀i,i<x.af.length->mr tw (x.af.getD i aG).aB (v.aq.getD i aH)){its:List aa}(d:au):∀(k i:Nat) (acc:List cG),i+k=x.af.length->acc.length<=i->
 nE (x.af,(x.af.length:Int),(i:Int),tw,tr,d,v,y,0,false,0,[],0,v.Kind,false,0,[],0,path,its,acc)=some (AJ tw tr d path v its acc (fT tw y path (x.af.drop i) (v.aq.drop i)))
 |0,i,acc,l,j=>by
  simp_all[nE,ao,hI,fT,AJ]
 |k+1,i,acc,l,j=>by
  have aE:i<x.af.length:=by omega
  have c:i<v.aq.length:=by omega
  have e:=λacc=>MR ai I ag ae f h (its:=its) d k (i+1) acc (by omega);rw[nE,ad (by grind),ad (bu aE),bx];simp only[bg,ay,aa.bO,mH];rw[zb ag,hQ aE aG,hQ c aH,fT];have hs:=pG y.af (x.af.getD i aG).ah;have m:(o1 y.af (x.af.getD i aG).ah).2=(cD y.af (x.af.getD i aG).ah).isSome:=by
   unfold o1;grind
  simp only[ay];rw[m];by_cases a:(cD y.af (x.af.getD i aG).ah).isSome=true
  . rw[ad a,ad a,cg,e _ (by omega)]
  rw[ao a,ao a];by_cases b:(x.af.getD i aG).cu=true
  . rw[ad b,ad b,EZ ai];rfl
  rw[ao b,ao b,ad (bu c),Es (f _ (br c aH))];simp only[ay];cases c6 (x.af.getD i aG) (v.aq.getD i aH)with
  |true=>rw[c2,ad rfl,cg,e _ (by omega)]
  |false=>
   have g:=h i aE;rw[ad (show(!false)=true from rfl),ao (show ¬false=true by simp),ad (bu c),g];simp only[ay];rw[ad (dv (by simp)),cg,e _ (by simp_all)];cases fT tw y path (x.af.drop (i+1)) (v.aq.drop (i+1))with
   |inr p=>rfl
   |inl us=>simp[AJ,jY]
theorem Zv{f:gj}(ai:path.length<=90000)(k5:v.Kind=5)(I:x.af.length<=1000)(ag:y.af.length<=1000)(ae:v.aq.length=x.af.length)(b:∀q,q∈v.aq->cf q)
 (e:∀n,n∈y.af->n.b8=true->kh n.bU=some n.bU)
 (h:∀i,i<x.af.length->∀n,n∈y.af->Part tw tr f path (x.af.getD i aG).aB n.aB (v.aq.getD i aH)/\∀p u,f (x.af.getD i aG).aB (v.aq.getD i aH) n.aB p= .inl u->cf u)
 (g:∀i,i<x.af.length->mr tw (x.af.getD i aG).aB (v.aq.getD i aH))(a:au):
 x1 (x,v,y,tw,tr,a,path)=some (fC tw tr a path (wR tw f x y v path)):=by
 have h0:=MQ ai I ag ae b e h y.af.length 0 [] a (by simp) (by simp);have c:oZ (y.af,y.af.length,0,tw,tr,a,x,v,y,0,false,0,[],0,v.Kind,false,0,[],0,path,[])=_:=h0;rw[x1];simp[aa.bO];rw[c,j2];unfold wR;cases ji f x v path _ with
 |inr p=>rfl
 |inl its=>
  have h1:=MR (tr:=tr) ai I ag ae b g (its:=its) a x.af.length 0 [] (by simp) (by simp);have d:nE (x.af,x.af.length,0,tw,tr,a,v,y,0,false,0,[],0,v.Kind,false,0,[],0,path,its,[])=_:=h1;simp only[bg,ay,uy,iP];rw[d,j2,j2];cases fT tw y path _ v.aq with
  |inr p=>rfl
  |inl r=>simp_all[AJ,nw,l6,fC]
theorem abq{f:gj}(ai:path.length<=90000)(k6:v.Kind=6)(I:x.af.length<=1000)(ag:y.af.length<=1000)(h1:v.aq.length=1){i:Nat}(a:dx x.af v.ah=some i)
 (h:∀n,n∈y.af->Part tw tr f path (x.af.getD i aG).aB n.aB (v.aq.getD 0 aH))
 (e:mr tw (x.af.getD i aG).aB (v.aq.getD 0 aH))(b:au):
 x7 (x,v,y,tw,tr,b,path)=some (fC tw tr b path (rF tw f x y v path)):=by
 obtain⟨d,_,_⟩:=hd a;have c:aQ 0 v.aq.length=true:=by rw[h1];rfl
 rw[x7,zb I,zb ag];unfold rF o1;simp only[bg,ay,aa.bO,a];cases bc:dx y.af v.ah with
 |some k=>
  obtain⟨k1,_,_⟩:=hd bc;simp only;rw[ad trivial,ad (bu d),ad c,ad (bu k1),bx,bx,show(0:Int).toNat=0 from rfl,h _ (br k1 aG)];cases f _ (v.aq.getD 0 aH) (y.af.getD k aG).aB _ with
  |inr p=>
   rfl
  |inl u=>
   simp_all[fC,ez,l6,aa.bO,ao]
 |none=>
  cases y.Open with
  |false=>
   simp_all[ad,Q1,cJ,cE,fC]
  |true=>
   simp_all[mr,ez,ao,ad,bu,bx,ay,cm,fC]
def AK(tw tr:List aj)(n:Nat):Prop:=∀{v:aa},cf v->∀{t rt:Int} {path:au} (a:au),cB tw true t v->gi tw n t v->0<=rt->rt<tr.length->path.length+n<=50000->
 tm (t,v,rt,tw,tr,a,path)=some (fC tw tr a path (eV tw tr n t v rt path))
theorem abr(HW:cX tw)(HR:cX tr){n:Nat}(ih:AK tw tr n):AK tw tr (n+1):=by
 intro v aA t rt path e K aw aY U ai;unfold gi at aw;obtain⟨⟨z1,aW,aX⟩,M,O,H⟩:=aw;have SW:=HW.V.ie HW.T;have ck:=HR.V.ie HR.T;have aS:=gY v;obtain⟨⟨g1,g2,g3,g4⟩,X⟩:=(eI _ _ _).1 K;obtain⟨j,rfl⟩:∃j:Nat,t=(j:Int):=⟨t.toNat,by omega⟩
 obtain⟨k,rfl⟩:∃k:Nat,rt=(k:Int):=⟨rt.toNat,by omega⟩
 have Z:j<tw.length:=by omega
 have ab:k<tr.length:=by omega
 have aj:=br Z aM;have o:=br ab aM;have aQ:=g4 rfl;cases aA with
 |mk _ hs h1 aO aP ar B aR cI aT aU aV=>
 rw[tm,ad (bu Z),sT];simp only[bg,ay,bx,aa.bO];rw[bx]at g3 X M O H;rw[ad (bu ab)];have an:∀q,q∈(tr.getD k aM).af->q.b8=true->kh q.bU=some q.bU:=λq a ap=>Zu ((HR.T _ o).oR _ a) (by have:=HR.W _ o q a ap;omega);generalize I:tw.getD j aM=x at*;generalize ag:tr.getD k aM=y at*;have L:∀{t rt:Int} {q:aa},q∈v.aq->cB tw true t q->gi tw n t q->0<=rt->rt<tr.length->Part tw tr (eV tw tr n) path t rt q:=λ{t rt q} a K R a0 a1 step e=>MP (by omega) (ih (B q a) e K R a0 a1 (by simp;omega));have aE:∀{t rt:Int} {q:aa},q∈v.aJ->cB tw true t q->gi tw n t q->0<=rt->rt<tr.length->Part tw tr (eV tw tr n) path t rt q:=λ{t rt q} a K R a0 a1 step e=>MP (by omega) (ih (ar q a) e K R a0 a1 (by simp;omega));have F:=Q1 (tw:=tw) (tr:=tr) (path:=path) (by omega) e;by_cases bM:x.Kind=y.Kind
 . rw[ao (show ¬(!(decide (x.Kind=y.Kind)))=true by simp[bM])];have N:∀{t rt:Int},v.aq=[]->nK (t,v.aq,rt,tw,tr,e,path)=some ([],true,tw,tr,e,path):=λ{t rt} he=>by
    have:=yS (tw:=tw) (tr:=tr) (f:=eV tw tr n) (path:=path) (t:=t) (rt:=rt) (l:=v.aq) (by omega) (λq a=>by rw[he]at a;cases a) e;rw[this,he];rfl
   rcases X with h|h|h|h|h|h|h|h|h
   . obtain⟨a1,a2,a3,a4,a5,d,C⟩:=h;have b:x.Kind=1:=(by omega);have ae:mb x y v:=⟨λh=>by omega,λh=>by omega,λh=>by omega⟩
     rw[pF bM (by omega) ae];simp only[b];simp only[N d,ay,ew,cJ,cE,Int.reduceEq,ez,fC];cases v;simp_all
   . obtain⟨a1,a2,a3,a4,a5,d,C,D,a9⟩:=h;have b:x.Kind=2:=(by omega);by_cases ae:y.bT<=v.bw/\v.bw<=y.bW
     . rw[pF bM (by omega) (show mb x y v from⟨λ_=>ae,λh=>by omega,λh=>by omega⟩)];simp only[b];simp only[N d,ae.1,ae.2,ay,ew,dB,cJ,cE,cm,Int.reduceEq,ez,ib,fC];cases v;simp_all
     . rw[ER bM (by omega) (show ¬mb x y v fromλh=>ae (h.1 b))];have J:(bif decide (y.bT<=v.bw)then decide (v.bw<=y.bW)else false)=false:=by
        by_cases c:y.bT<=v.bw<;>simp[c];omega
       simp only[b,J];simp only[F,ay,dB,cm,gg,fC,aa.bO]
   . obtain⟨a1,a2,a3,a4,a5,d,C,D⟩:=h;have b:x.Kind=3:=(by omega);by_cases ae:(v.bH.length:Int)<=y.Max
     . rw[pF bM (by omega) (show mb x y v from⟨λh=>by omega,λ_=>ae,λh=>by omega⟩)];simp only[b];simp only[N d,ae,ay,ew,dB,cJ,cE,cm,Int.reduceEq,ez,ib,fC];cases v;simp_all
     . rw[ER bM (by omega) (show ¬mb x y v fromλh=>ae (h.2.1 b))];simp only[b];simp only[F,ae,ay,dB,ew,cm,cE,Int.reduceEq,cJ,gg,fC,aa.bO]
   . obtain⟨a1,a2,a3,a4,a5,d,C,D⟩:=h;have b:x.Kind=4:=(by omega);obtain⟨r,U,_,aI⟩:=v' (t:=y) v.ah (by have:=(HR.T _ o).1;have:=gq (eB reachBytes);omega);have G:r.2=true↔∃s,s∈y.bo/\s.ah=v.ah:=by
      rcases aI with⟨q,g,S,_,rfl⟩|⟨q,rfl⟩
      . exact⟨λ_=>⟨_,br g fE,S⟩,λ_=>rfl⟩
      . constructor
        . intro h;simp at h
        intro a;obtain⟨s,s1,aL⟩:=a;obtain⟨i,B,rfl⟩:=gQ s1;exact absurd aL (by have:=q i B;rwa [ey B]at this)
     by_cases ae:(∃s,s∈y.bo/\s.ah=v.ah)\/y.Open=true
     . rw[pF bM (by omega) (show mb x y v from⟨λh=>by omega,λh=>by omega,λ_=>ae⟩)];have J:(bif r.2 then true else y.Open)=true:=by
        rcases ae with ae|ae
        . rw[G.2 ae];rfl
        . rw[ae];cases r.2<;>rfl
       simp only[b,U];simp only[N d,J,ay,ew,dB,cJ,cE,cm,Int.reduceEq,ez,fC];cases v;simp_all
     . rw[ER bM (by omega) (show ¬mb x y v fromλh=>ae (h.2.2 b))];have J:(bif r.2 then true else y.Open)=false:=by
        cases ax:r.2 with
        |true=>exact absurd (.inl (G.1 ax)) ae
        |false=>
         cases au:y.Open with
         |true=>exact absurd (.inr au) ae
         |false=>rfl
       simp only[b,U];simp only[F,J,ay,dB,ew,cm,cE,Int.reduceEq,cJ,gg,fC,aa.bO]
   . obtain⟨a1,a2,a3,a4,a5,d,C,D⟩:=h;have b:x.Kind=5:=(by omega);obtain⟨ak,aB⟩:=SW.A _ aj (.inl (by omega));obtain⟨aC,aD⟩:=ck.A _ o (.inl (by omega));obtain⟨f1,f2⟩:=h3.1 D
     have G:=Zv (tw:=tw) (tr:=tr) (f:=eV tw tr n) (path:=path) (by omega) (x:=x) (y:=y) a1 (by omega) (by omega) f1 B an (λi E q a=>by
      have w:=br (by omega:i<v.aq.length) aH;obtain⟨z,g⟩:=HR.hi.mem o a;exact⟨L w (f2 i E) (M b i E) z g,λp u az=>(I' HW HR n (B _ w) (f2 i E) (M b i E) z g az).1⟩) (λi E=>by
      have w:=br (by omega:i<v.aq.length) aH
      exact Ps HW (B _ w) _ (f2 i E) (M b i E).len) e
     rw[GZ bM b];simp only[b,G,ay,ew,dB,cJ,cE,cm,Int.reduceEq,aa.bO]
   . obtain⟨a1,a2,a3,a4,a5,d⟩:=h;have b:x.Kind=6:=(by omega);obtain⟨ak,aB⟩:=SW.A _ aj (.inr (by omega));obtain⟨aC,aD⟩:=ck.A _ o (.inr (by omega));cases bc:cD x.af v.ah with
     |none=>rw[bc]at d;cases d.2.1
     |some m=>
      rw[bc]at d;obtain⟨b1,b2,am⟩:=d;have Q:=pG x.af v.ah;rw[bc]at Q;cases P:dx x.af v.ah with
      |none=>rw[P]at Q;cases Q
      |some i=>
      obtain⟨d1,d2,_⟩:=hd P;obtain⟨d3,d4⟩:=ki bc;have em:x.af.getD i aG=m:=pC ak (br d1 aG) d3 (by rw[d2,d4]);have w:=br (by omega:0<v.aq.length) aH;have Y:=cO.1 am _ w
      have G:=abq (tw:=tw) (tr:=tr) (f:=eV tw tr n) (path:=path) (by omega) (x:=x) (y:=y) a1 (by omega) (by omega) b2 P (λq a=>by
       obtain⟨z,g⟩:=HR.hi.mem o a;rw[em]
       exact L w Y (O b _ bc _ w) z g) (by rw[em];exact Ps HW (B _ w) _ Y (O b _ bc _ w).len) e
      rw[G0 bM b];simp only[b,G,ay,ew,dB,cJ,cE,cm,Int.reduceEq,aa.bO]
   . obtain⟨a1,a2,a3,a4,a5,d,C,D,a9⟩:=h;have b:x.Kind=7:=(by omega);obtain⟨z,g⟩:=HR.hi.elem o (by omega);have a:=yS (tw:=tw) (tr:=tr) (f:=eV tw tr n) (path:=path) (t:=x.aK) (rt:=y.aK) (l:=v.aq) (by omega) (λq a=>L a (cO.1 a9 q a) ((H (by omega)).1 q a) z g) e;rw[G1 bM b];unfold tV;by_cases ae:(v.aq.length:Int)<=y.Max
     . rw[ad ae];simp only[b,a,ae,ay,ew,dB,cJ,cE,cm,Int.reduceEq,ez];cases fN (eV tw tr n) path x.aK y.aK 0 v.aq with
       |inr p=>rfl
       |inl us=>simp only[ux,l6,fC,ez,cJ,cE,a1,a2,a3,a4,a5]
     . rw[ao ae];simp only[b];simp only[F,ae,ay,dB,ew,cm,cE,Int.reduceEq,cJ,gg,fC,aa.bO]
   . obtain⟨a1,a2,a3,a4,a5,d,C,D,a9,al,aN⟩:=h;have b:x.Kind=8:=(by omega);obtain⟨z,g⟩:=HR.hi.elem o (by omega);obtain⟨S,aF⟩:=HR.hi.key o (by omega);have a:=yS (tw:=tw) (tr:=tr) (f:=eV tw tr n) (path:=path) (t:=x.aK) (rt:=y.aK) (l:=v.aq) (by omega) (λq a=>L a (cO.1 al q a) ((H (by omega)).1 q a) z g) e;have av:=yS (tw:=tw) (tr:=tr) (f:=eV tw tr n) (path:=path) (t:=x.Key) (rt:=y.Key) (l:=v.aJ) (by omega) (λq a=>aE a (cO.1 a9 q a) ((H (by omega)).2 q a) S aF) e;rw[G2 bM b];unfold tW;by_cases ae:(v.aq.length:Int)<=y.Max
     . rw[ad ae];simp only[b,av,ae,ay,ew,dB,cJ,cE,cm,Int.reduceEq,ez];cases fN (eV tw tr n) path x.Key y.Key 0 v.aJ with
       |inr p=>rfl
       |inl ks=>
        simp only[ux,nw,ez,cJ,cE,a,ay];cases fN (eV tw tr n) path x.aK y.aK 0 v.aq with
        |inr p=>rfl
        |inl us=>simp only[ux,l6,fC,ez,cJ,cE,a1,a2,a3,a4,a5]
     . rw[ao ae];simp only[b];simp only[F,ae,ay,dB,ew,cm,cE,Int.reduceEq,cJ,gg,fC,aa.bO]
   . obtain⟨a1,a2,a3,a4,a5,d,C,D,a9⟩:=h;have b:x.Kind=9:=(by omega);obtain⟨z,g⟩:=HR.hi.elem o (by omega);have a:=yS (tw:=tw) (tr:=tr) (f:=eV tw tr n) (path:=path) (t:=x.aK) (rt:=y.aK) (l:=v.aq) (by omega) (λq a=>L a (cO.1 a9 q a) ((H (by omega)).1 q a) z g) e;rw[G3 bM b];unfold Af;simp only[b,a,ay,ew,dB,cJ,cE,cm,Int.reduceEq,ez];cases fN (eV tw tr n) path x.aK y.aK 0 v.aq with
     |inr p=>rfl
     |inl us=>simp only[ux,l6,fC,ez,cJ,cE,a1,a2,a3,a4,a5]
 . rw[ad (show(!(decide (x.Kind=y.Kind)))=true by simp[bM]),Pq bM,F];simp only[ay,aa.bO,fC]
theorem abt:AK tw tr 0:=by
 intro v _ _ _ _ _ _ h;cases h
theorem MS(HW:cX tw)(HR:cX tr):∀n,AK tw tr n
 |0=>abt
 |n+1=>abr HW HR (MS HW HR n)
end
def xw(x:fq):Prop:=oH x/\x.cY.length*3<=reachBytes
def kd(aF:List fq):Prop:=aF.length*32<=reachBytes/\∀x,x∈aF->xw x
def xt(c:la):Prop:=db c.Kind/\db c.Node/\db c.A/\db c.B
theorem kd.set(h:kd aF)(j:Nat){x:fq}(I:xw x):kd (aF.set j x):=by
 refine⟨by rw[hT];exact h.1,λy ag=>?_⟩;rcases CN ag with ag|rfl
 . exact h.2 y ag
 grind
theorem mN(a:Int):db (IntKind.wrap .u8 a):=by
 have:IntKind.wrap .u8 a=a%256:=by rfl
 grind[db]
theorem G4{n:Nat}(h:n*3<=reachBytes):room 3 n=true:=by
 grind[reachBytes,room,gJ,c1]
theorem agy{n:Nat}(h:n*32<=reachBytes):room 32 n=true:=by
 grind[reachBytes,room,gJ,c1]
theorem acM(Q:L.length<=reachBytes)(F:∀c,c∈L->xt c){i:Nat}(K:i<L.length)(h:kd aF)(aN:0<aF.length):
 ∃I,kd I/\I.length=aF.length/\hy (L,(i:Int),aF)=hy (L,((i+1:Nat):Int),I):=by
 obtain⟨N,J,n,v⟩:=F _ (br K nI);have X:=gq Q;unfold db at N J n v;have W:aF.length<9223372036854775807:=by have:=h.1;grind[reachBytes]
 obtain⟨j,T,r⟩:∃j:Nat,cd (b7 .i64 (L.getD i nI).Node) (aF.length:Int)=(j:Int)/\j<aF.length:=by
  have e:cd (b7 .i64 (L.getD i nI).Node) (aF.length:Int)=(L.getD i nI).Node%(aF.length:Int):=by
   rw[kr ⟨by omega,by omega⟩,hc J.1 (by simp)]
  have h0:=lz (L.getD i nI).Node (by omega:(aF.length:Int)≠0);have h1:=lx (L.getD i nI).Node (by omega:(0:Int)<aF.length);exact⟨((L.getD i nI).Node%(aF.length:Int)).toNat,by grind,by omega⟩
 obtain⟨⟨cI,t,k,m,dV,Z⟩,M⟩:=h.2 _ (br r eJ);have x:∀z:Nat,z<(aF.getD j eJ).cY.length->db ((aF.getD j eJ).cY.getD z iL).ah/\db ((aF.getD j eJ).cY.getD z iL).aB/\db ((aF.getD j eJ).cY.getD z iL).g':=λz G=>dV _ (br G _)
 rw[hy,ad (by
  grind),ad (bu K),bx]
 simp only[bg,ay];rw[ad (show(!(decide ((aF.length:Int)=0)))=true from by grind),T,ad (bu r),bx,ad (ho r),iP,ad (G4 M),ad (ho r)];simp only[dB,cm,r];have aC:aT .i64 (i:Int) 1=((i+1:Nat):Int):=cg;rw[aC];generalize ai:aF.getD j eJ=p at*;generalize V:L.getD i nI=c at*;have g:∀{a b D:Int} {l:List lM},db a->db b->db D->(∀q,q∈l->db q.ah/\db q.aB/\db q.g')->l.length<=p.cY.length+8/\(l.length<=p.cY.length\/l.length<=8)->xw ⟨p.Kind,a,b,D,l⟩:=λ{a b D l} R S F ae aN=>⟨⟨cI,R,S,F,ae,by grind[reachBytes]⟩,by grind[reachBytes]⟩
 have gs:∀q:fq,(aF.set j q).getD j bp=q:=λq=>by rw[ey (by rw[hT];grind)];simp
 have u:∀{a:Int},0<=a/\a<=255->db a:=λh=>h;have Y:(p.cY.length:Int)<9223372036854775807:=by unfold reachBytes at M;omega
 have o:∀{l:List lM},(∀q,q∈l->db q.ah/\db q.aB/\db q.g')->l.length<=p.cY.length+8/\(l.length<=p.cY.length\/l.length<=8)->xw ⟨p.Kind,p.A,p.B,p.C,l⟩:=λ{l} h1 P=>g t k m h1 P;have self:p.cY.length<=p.cY.length+8/\(p.cY.length<=p.cY.length\/p.cY.length<=8):=by simp
 by_cases ae:0<p.cY.length
 . have y:(0:Int)<(p.cY.length:Int):=(by omega);obtain⟨z,G,f⟩:∃z:Nat,cd (b7 .i64 c.A) (p.cY.length:Int)=(z:Int)/\z<p.cY.length:=by
    have e:cd (b7 .i64 c.A) (p.cY.length:Int)=c.A%(p.cY.length:Int):=by
     rw[kr ⟨by omega,by omega⟩,hc n.1 (by simp)]
    have h0:=lz c.A (by omega:(p.cY.length:Int)≠0);have h1:=lx c.A y;exact⟨(c.A%(p.cY.length:Int)).toNat,by omega,by omega⟩
   simp only[y,G,dB,cm,gs,List.set_set];rw[ad (show(!(decide ((p.cY.length:Int)=0)))=true from by grind)];by_cases s:cd c.Kind 8=0
   . simp only[s,dB,cm];exact⟨_,h.set j (g (mN _) k m dV self),hT,rfl⟩
   by_cases k1:cd c.Kind 8=1
   . simp only[k1,dB,ew,Int.reduceEq,cJ,cm,cE];exact⟨_,h.set j (g t (mN _) m dV self),hT,rfl⟩
   by_cases k2:cd c.Kind 8=2
   . have H:0<=cd c.A 6:=by rw[hc n.1 (by simp)];omega
     simp only[k2,H,dB,ew,Int.reduceEq,cJ,cm,cE];exact⟨_,h.set j (g (mN _) k m dV self),hT,rfl⟩
   by_cases k3:cd c.Kind 8=3
   . simp only[k3,dB,ew,Int.reduceEq,cJ,cm,cE];exact⟨_,h.set j (g t k (mN _) dV self),hT,rfl⟩
   by_cases k4:cd c.Kind 8=4
   . by_cases k8:(p.cY.length:Int)<8
     . simp only[k4,k8,dB,ew,Int.reduceEq,cJ,cm,cE];rw[ad (G4 (by rw[dD];unfold reachBytes;simp;omega))];refine⟨_,h.set j (o (λq d=>?_) (by rw[dD];simp;omega)),hT,rfl⟩;rcases fH.1 d with d|d
       . exact dV q d
       . rw[na.1 d];exact⟨u n,u v,mN _⟩
     . simp only[k4,k8,dB,ew,Int.reduceEq,cJ,cm,cE];exact⟨_,h.set j (o dV self),hT,rfl⟩
   by_cases k5:cd c.Kind 8=5
   . simp only[k5,dB,ew,Int.reduceEq,cJ,cm,cE];have O:aT .i64 (z:Int) 1=((z+1:Nat):Int):=cg;rw[O,ad (iN.2 (by omega)),ad (iN.2 (by omega)),bx,bx,bx,dc];refine⟨_,h.set j (o (λq d=>?_) (by rw[dD,ry,ry,l9];omega)),hT,rfl⟩;rcases fH.1 d with d|d
     . exact dV q (wL d)
     . exact dV q (GD (wL d))
   have hK:∀{w:lM},db w.ah/\db w.aB/\db w.g'->xw ⟨p.Kind,p.A,p.B,p.C,p.cY.set z w⟩:=λ{w} U=>o (λq d=>by
    rcases CN d with d|rfl
    . exact dV q d
    . exact U) (by rw[hT];exact self)
   by_cases k6:cd c.Kind 8=6
   . simp only[k6,dB,ew,Int.reduceEq,cJ,cm,cE];rw[ad (bu f),bx,ad (ho f)];exact⟨_,h.set j (hK (w:=⟨(p.cY.getD z iL).ah,(p.cY.getD z iL).aB,c.B⟩) ⟨(x z f).1,(x z f).2.1,u v⟩),hT,rfl⟩
   . simp only[s,k1,k2,k3,k4,k5,k6,ew,cJ,cE];rw[ad (bu f),bx,ad (ho f),ad (bu f),ad (ho f)];exact⟨_,h.set j (hK (w:=⟨(p.cY.getD z iL).ah,aT .u8 (p.cY.getD z iL).aB c.B,(p.cY.getD z iL).g'⟩) ⟨(x z f).1,mN _,(x z f).2.2⟩),hT,rfl⟩
 . have y:¬(0:Int)<(p.cY.length:Int):=(by omega);simp only[y,ew,cJ,cE,gs,List.set_set];by_cases s:cd c.Kind 8=0
   . simp only[s,dB,cm];exact⟨_,h.set j (g (mN _) k m dV self),hT,rfl⟩
   by_cases k1:cd c.Kind 8=1
   . simp only[k1,dB,ew,Int.reduceEq,cJ,cm,cE];exact⟨_,h.set j (g t (mN _) m dV self),hT,rfl⟩
   by_cases k2:cd c.Kind 8=2
   . have H:0<=cd c.A 6:=by rw[hc n.1];omega
     simp only[k2,H,dB,ew,Int.reduceEq,cJ,cm,cE];exact⟨_,h.set j (g (mN _) k m dV self),hT,rfl⟩
   by_cases k3:cd c.Kind 8=3
   . simp only[k3,dB,ew,Int.reduceEq,cJ,cm,cE];exact⟨_,h.set j (g t k (mN _) dV self),hT,rfl⟩
   by_cases k4:cd c.Kind 8=4
   . have k8:(p.cY.length:Int)<8:=(by omega);simp only[k4,k8,dB,ew,Int.reduceEq,cJ,cm,cE];rw[ad (G4 (by rw[dD];unfold reachBytes;simp;omega))];refine⟨_,h.set j (o (λq d=>?_) (by rw[dD];simp;omega)),hT,rfl⟩;rcases fH.1 d with d|d
     . exact dV q d
     . rw[na.1 d];exact⟨u n,u v,mN _⟩
   have E:=h.set j (o dV self);by_cases k5:cd c.Kind 8=5
   . simp only[k5,dB,ew,Int.reduceEq,cJ,cm,cE];exact⟨_,E,hT,rfl⟩
   by_cases k6:cd c.Kind 8=6
   . simp only[k6,dB,ew,Int.reduceEq,cJ,cm,cE];exact⟨_,E,hT,rfl⟩
   . simp only[s,k1,k2,k3,k4,k5,k6,ew,cJ,cE];exact⟨_,E,hT,rfl⟩
theorem Pt{L:List la}(b:L.length<=reachBytes)(d:∀c,c∈L->xt c):∀(k i:Nat) {aF:List fq},i+k=L.length->kd aF->∃a,kd a/\a.length=aF.length/\hy (L,(i:Int),aF)=some a
 |0,i,aF,g,h=>⟨aF,h,rfl,by
  simp_all[hy]⟩
 |k+1,i,aF,g,h=>by
  by_cases aN:0<aF.length
  . obtain⟨a,h1,f,e⟩:=acM b d (by omega:i<L.length) h aN;rw[e,<-f];exact Pt b d k _ (by omega) h1
  simp_all[hy,ao]
theorem kd.PT{d:en}(h:kd d.eE):um d:=⟨by have:=h.1;grind,λx I=>(h.2 x I).1⟩
theorem YZ{d:en}(h:kd d.eE)(g:L.length<=reachBytes)(i:∀c,c∈L->xt c):∃a,kd a.eE/\a.eE.length=d.eE.length/\CU (d,L)=some a:=by
 obtain⟨j,h1,f,b⟩:=Pt g i L.length 0 (by simp) h;have e:hy (L,0,d.eE)=some _:=b;refine⟨⟨j⟩,h1,f,?_⟩;rw[CU,iP,ad (agy h.1),e];rfl
theorem acN(h:WF bP ⟨.slice (.nm C0),aF⟩):kd aF:=by
 obtain⟨a,b,c⟩:=vL h;have D:=NI h;refine⟨b,λx I=>⟨D.2 x I,?_⟩⟩;exact(vL (c x I _ (.tail _ (.tail _ (.tail _ (.tail _ (.head _))))))).2.1
theorem Rs{n:Int}(h:WF bP ⟨.int .u8,n⟩):db n:=by
 cases h with
 |int k n h=>
  grind[Lit.wf,IntKind.min,IntKind.max,IntKind.bits,IntKind.signed,db]
structure ahA (c:W3):Prop where
 d:Uj c.D
 n:kd c.D.S.eE
 l:c.L.length<=reachBytes
 c:∀x,x∈c.L->xt x
structure AD (tw tr:List aj)(t:Int)(v:aa):Prop where
 W:cX tw
 R:cX tr
 t0:0<=t
 t1:t<tw.length
 t2:t<tr.length
 f:cB tw true t v
 o:cf v
 w:wt v<=3000
theorem AD.z(C:AD tw tr t v):gi tw 3000 t v:=oj C.W _ C.o C.f (.inr C.w) (.inr C.w)
theorem AD.u{tw tr:List aj}{t:Int}{v:aa}(C:AD tw tr t v):wt v<=2147483648:=fQ C.w (by simp)
section
variable {tw tr:List aj}{t rt:Int}{v:aa}
theorem abu(HW:cX tw)(HR:cX tr)(f:cf v)(c:cB tw true t v)(i:0<=rt)(j:rt<tr.length):DS ((⟨tw⟩:bq),t,v,(⟨tr⟩:bq),rt)=some 0:=by
 obtain⟨⟨g1,g2,_⟩,_⟩:=(eI _ _ _).1 c;have ex:∀{ts:List aj} {t:Int},cX ts->0<=t->t<ts.length->yi ((⟨ts⟩:bq),t)=some 0:=λ{ts t} H a b=>by
  rw[yi,(sV H.T H.V).1];simp only[bg,ay];have d:¬t<0:=by omega
  have e:¬(ts.length:Int)<=t:=by omega
  rw[c2,ao (by simp[d,e])]
 have g:=Ek HW.T (HW.V.ie HW.T).K f t true c;rw[DS];simp only[aa.bO];rw[ex HW g1 g2];simp only[bg,ay];rw[c2,ex HR i j];simp only[ay];rw[c2,v8];simp only[aa.bO];rw[g];rfl
def FE:aa ⊕ au->aa×Int
 |.inl u=>(u,0)
 |.inr _=>(⟨0,false,0,[],0,[],[],[]⟩,12)
noncomputable def rQ (tw tr:List aj)(t:Int)(v:aa)(rt:Int):aa ⊕ au:=eV tw tr 3000 t v rt []
theorem Ud(HW:cX tw)(HR:cX tr)(b:cf v)(a:cB tw true t v)(e:gi tw 3000 t v)(c:0<=rt)(d:rt<tr.length):q' ((⟨tw⟩:bq),t,v,(⟨tr⟩:bq),rt)=some (FE (rQ tw tr t v rt)):=by
 have h:=MS HW HR 3000 b [] a e c d (path:=[]) (by simp);rw[q'];simp only[aa.bO];rw[abu HW HR b a c d];simp only[bg,ay];rw[c2,h];unfold rQ;cases eV tw tr 3000 t v rt []<;>rfl
theorem acg(HW:cX tw)(HR:cX tr)(b:cf v)(a:cB tw true t v)(c:gi tw 3000 t v)(d:0<=rt)(e:rt<tr.length){u:aa}(h:rQ tw tr t v rt= .inl u):ET tr rt u:=I' HW HR 3000 b a c d e h
theorem agr(HW:cX tw)(HR:cX tr)(b:cf v)(a:cB tw true t v)(c:gi tw 3000 t v)(d:0<=rt)(e:rt<tr.length):cf (FE (rQ tw tr t v rt)).1:=by
 cases h:rQ tw tr t v rt with
 |inl u=>exact(acg HW HR b a c d e h).1
 |inr p=>exact ab7
end
end
end Go.Proofs.YtklfhpkljddjbaaGreatDoor
