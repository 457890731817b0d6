/- The functions of the program as functions of Lean, that its code does what they say, and what they answer; part D. -/
import Derived.Test.YtijpinendaoleaaGreatRhC

namespace Go.Proofs.YtijpinendaoleaaGreat
set_option linter.all false
section
open Go Go.Proofs.YtijpinendaoleaaGreat.Shv Go.Sort
set_option maxRecDepth 100000
theorem aGh{α β:Type}{f:α->Option β}(d1:α)(d2:β):∀{l:List α} {m:List β},mJ f l=some m->∀i,i < l.length->f (l.getD i d1)=some (m.getD i d2)
 | [],m,h,i,ay=>by simp at ay
 | a::l,m,h,i,ay=>by
  rw[mJ]at h;split at h
  . rename_i b K7 h1 ah;cases h;cases i with
    | zero=>exact h1
    | succ i=>exact aGh d1 d2 ah i (by simpa using ay)
  . cases h
theorem aI5{α:Type}:∀{l:List α},l.length % 2=0->(LO l).length=l.length / 2/\(Md l).length=l.length / 2
 | [],_=>⟨by simp[LO],by simp[Md]⟩
 | [a],h=>by simp at h
 | a::b::l,h=>by
  obtain⟨h1,ah⟩:=aI5 (l:=l) (by simp at h;omega);show(LO l).length+1=(l.length+1+1) / 2/\(Md l).length+1=(l.length+1+1) / 2;omega
theorem awn{α:Type}:∀{l:List α} {y:α},y∈Md l->y∈l
 | [],y,h=>by cases h
 | [_],y,h=>by cases h
 | a::b::l,y,h=>by
  rcases LJ.1 h with rfl | h
  . grind
  . exact .tail _ (.tail _ (awn h))
def Zp(l:List (List UInt8)):Nat:=(l.map λq=>q.length+1).sum
theorem ahE(q:List UInt8)(l:List (List UInt8)):Zp (q::l)=q.length+1+Zp l:=by unfold Zp;simp
theorem av7 :∀(l:List (List UInt8)),Zp l<=(l.flatMap H').length
 | []=>by simp[Zp]
 | q::l=>by
  have:=av7 l;have:=acs q.length;have e:(H' q).length=(JU q.length).length+q.length:=by unfold H';rw[vx]
  rw[ahE,MS,vx];omega
theorem aGi :∀(l:List (List UInt8)),Zp (LO l)+Zp (Md l)<=Zp l
 | []=>by simp[LO,Md,Zp]
 | [a]=>by simp[LO,Md,Zp]
 | a::b::l=>by
  have:=aGi l;rw[LO,Md,ahE,ahE,ahE,ahE];omega
theorem aqF{C:Nat}{f:List UInt8->Option ak}:∀{l:List (List UInt8)} {m:List ak},mJ f l=some m->(∀q,q∈l->∀v,f q=some v->wt v<=C*(q.length+1))->ry m<=C*Zp l
 | [],m,h,_=>by rw[mJ]at h;cases h;rw[OX];exact RE _
 | q::l,m,h,k=>by
  rw[mJ]at h;split at h
  . rename_i b K7 h1 ah;cases h;have a:=k q (.head _) b h1;have c:=aqF ah (λq eg=>k q (.tail _ eg));rw[TX,ahE,Nat.mul_add];omega
  . cases h
def aiI(l:List qy):Nat:=(l.map λf=>f.Data.length+1).sum
theorem aHd(f:qy)(l:List qy):aiI (f::l)=f.Data.length+1+aiI l:=by unfold aiI;simp
theorem aHe :∀(l:List qy),aiI l<=(l.flatMap aiJ).length
 | []=>by simp[aiI]
 | f::l=>by
  have:=aHe l;have:=acs f.Data.length;have e:(aiJ f).length=(JU (2*f.a8.toNat+(if f.sJ=true then 1 else 0))).length+((JU f.Data.length).length+f.Data.length):=by unfold aiJ Ol H';rw[vx,vx]
  rw[aHd,MS,vx];omega
def v'(C d:Nat)(l:List qy)(m:li):Nat:=match l.find? (λf=>decide (f.a8=m.a8))with
 | some f=>C*(f.Data.length+1)
 | none=>d
def dx(C d:Nat)(l:List qy)(ms:List li):Nat:=(ms.map (v' C d l)).sum
def aat(id:Int)(A:Nat)(ms:List li):Nat:=(ms.map λm=>if m.a8=id then A else 0).sum
theorem awo{id:Int}{A:Nat}:∀{ms:List li},(∀m,m∈ms->m.a8≠id)->aat id A ms=0
 | [],_=>rfl
 | m::ms,h=>by
  have:=awo (A:=A) (λm hm=>h m (.tail _ hm));unfold aat at this ⊢
  grind
theorem aI6{id:Int}{A:Nat}:∀{ms:List li},ms.Pairwise (λa b=>a.a8 < b.a8)->aat id A ms<=A
 | [],_=>RE _
 | m::ms,h=>by
  rw[Vk]at h;by_cases e:m.a8=id
  . have:aat id A ms=0:=awo λx ad=>by have:=h.1 x ad;omega
    unfold aat at this ⊢
    grind
  . have:=aI6 (id:=id) (A:=A) h.2;unfold aat at this ⊢
    grind
theorem aWt(C d:Nat)(f:qy)(l:List qy)(m:li):v' C d (f::l) m<=(if m.a8=f.a8 then C*(f.Data.length+1)else 0)+v' C d l m:=by
 unfold v'
 grind
theorem aHf(C d:Nat)(f:qy)(l:List qy):∀(ms:List li),dx C d (f::l) ms<=aat f.a8 (C*(f.Data.length+1)) ms+dx C d l ms
 | []=>by simp[dx,aat]
 | m::ms=>by
  have a:=aHf C d f l ms;have b:=aWt C d f l m;unfold dx aat at*
  grind
theorem aI7(C d:Nat):∀(ms:List li),dx C d [] ms=d*ms.length
 | []=>by simp[dx]
 | m::ms=>by
  have:=aI7 C d ms;unfold dx at*;simp only[QX,adS,Pg];rw[this,Nat.mul_succ];have:v' C d [] m=d:=rfl;omega
theorem aI8{C d:Nat}(q5:1<=C){x:f7}(vJ:Q5 x.b8):∀(l:List qy),dx C d l x.b8+((LK x l).map λr=>r.Data.length+1).sum<=d*x.b8.length+C*aiI l
 | []=>by rw[aI7];simp[LK]
 | f::l=>by
  have ih:=aI8 (d:=d) q5 vJ l;have a:=aHf C d f l x.b8;rw[aHd,Nat.mul_add];cases q0:zJ x.b8 f.a8 with
  | some m=>
   have ar:LK x (f::l)=LK x l:=by unfold LK;rw[ayR (by rw[q0];simp)]
   rw[ar];have:=aI6 (id:=f.a8) (A:=C*(f.Data.length+1)) vJ.1;omega
  | none=>
   have ar:LK x (f::l)=⟨f.a8,f.Data⟩::LK x l:=by unfold LK;rw[ayS (by rw[q0];rfl)];rfl
   have:aat f.a8 (C*(f.Data.length+1)) x.b8=0:=awo (aaX q0);rw[ar,QX,adS];have:f.Data.length+1<=C*(f.Data.length+1):=Nat.le_mul_of_pos_left _ q5
   grind
theorem aHg{C d:Nat}{f:Int->List UInt8->Option ak}{l:List qy}(a7:∀(m:li),m.nk=true->True):∀{ms:List li} {is:List ak},(∀m,m∈ms->(m.nk=true->wt m.j0<=d)/\∀g,g∈l->∀v,f m.e2 g.Data=some v->wt v<=C*(g.Data.length+1))->mJ (JL f l) ms=some is->ry is<=dx C d l ms
 | [],is,_,h=>by rw[mJ]at h;cases h;rw[OX];exact RE _
 | m::ms,is,k,h=>by
  rw[mJ]at h;split at h
  . rename_i b K7 h1 ah;cases h;have ih:=aHg (C:=C) (d:=d) a7 (λm hm=>k m (.tail _ hm)) ah;have al:wt b<=v' C d l m:=by
     unfold JL at h1;unfold v';cases cJ:l.find? (λf=>decide (f.a8=m.a8))with
     | some g=>
      rw[cJ]at h1;exact(k m (.head _)).2 g (ayP cJ) b h1
     | none=>grind
    unfold dx at*;rw[TX,QX,adS];omega
  . cases h
theorem aGN{x:f7}{l:List qy}{r:pI}(h:r∈LK x l):∃f,f∈l/\zJ x.b8 f.a8=none/\r=⟨f.a8,f.Data⟩:=by
 unfold LK at h;obtain⟨f,cJ,rfl⟩:=Lp.1 h;obtain⟨h1,ah⟩:=adZ.1 cJ;refine⟨f,h1,?_,rfl⟩;simp_all
theorem aVD{x:f7}{l:List qy}(ch:l.Pairwise (λa b=>a.a8 < b.a8))(ay:∀f,f∈l->qj f.a8):WS x.b8 (LK x l):=by
 refine⟨?_,λr ar=>?_⟩
 . unfold LK
   grind
 . obtain⟨f,f1,f2,rfl⟩:=aGN ar
   grind
section
variable {ts:List f7}
def aeq(ts:List f7)(t:Int)(p:List UInt8)(v:ak):Prop:=xJ ts false t v/\qa v/\wt v<=300*(p.length+1)
theorem YE {k:Int} {b:Bool} {i:Int} {s:List UInt8} {id:Int} {ks is:List ak} {r:List pI} (h0:0 <=k /\ k <=9) (h1:nc i) (ah:0 <=id /\ id <=1000) (hs:s.length <=90000) (hk:ks.length <=90000) (ay:is.length <=90000) (ar:r.length <=90000)
 (hg:∀x,x∈ks->qa x) (hv:∀x,x∈is->qa x) (h3:∀x,x∈r->x.Data.length<=90000/\qj x.a8):qa ⟨k,b,i,s,id,ks,is,r⟩:=by
 refine .mk _ (by unfold reachBytes;show s.length<=_;omega) (by unfold reachBytes;show ks.length<=_;omega) (by unfold reachBytes;show is.length<=_;omega) (by unfold reachBytes;show r.length<=_;omega) hg hv (λx ad=>by have:=(h3 x ad).1;unfold reachBytes;omega) ?_ h1 ?_ (λx ad=>by have:=(h3 x ad).2;unfold qj at this;omega)
 . show -9223372036854775808<=k/\k<=9223372036854775807;omega
 . show -9223372036854775808<=id/\id<=9223372036854775807;omega
theorem aU6(H:Q3 ts){n:Nat}(ih:∀(t:Int) (p:List UInt8) (v:ak),p.length<=90000->0<=t->t < ts.length->te ts n t p=some v->aeq ts t p v){t:Int}{p:List UInt8}{v:ak}(bo:p.length<=90000)(t0:0<=t)(t1:t < ts.length)(h:te ts (n+1) t p=some v):aeq ts t p v:=by
 rw[aqX]at h;have c7:t.toNat < ts.length:=by omega
 have ad:=j1 c7 hz;have q5:=H.auV;unfold aeq;rw[WN];generalize ts.getD t.toNat hz=x at*;unfold aoQ at h;have TP:∀(k i id:Int) (b:Bool) (s:List UInt8),wt ⟨k,b,i,s,id,[],[],[]⟩=10+s.length:=λk i id b s=>by rw[Qv,OX];simp
 by_cases hg:x.Kind=1
 . rw[ao hg]at h;have:∃b,v=⟨1,b,0,[],0,[],[],[]⟩:=by
    unfold aoK at h
    grind
   obtain⟨b,rfl⟩:=this;exact⟨⟨⟨t0,t1,hg.symm,λh=>by cases h⟩,.inl ⟨rfl,rfl,rfl,rfl,rfl,rfl,rfl⟩⟩,YE (by omega) X9 (by omega) (by simp) (by simp) (by simp) (by simp) (by simp) (by simp) (by simp),by rw[TP];simp;omega⟩
 rw[aJ hg]at h;by_cases hv:x.Kind=2
 . rw[ao hv]at h;unfold aoL at h;cases hm:P2 p with
   | none=>rw[hm]at h;cases h
   | some m=>
    rw[hm]at h;dsimp only at h;split at h
    . rename_i ar;cases h;exact⟨⟨⟨t0,t1,hv.symm,λh=>by cases h⟩,.inr (.inl ⟨rfl,rfl,rfl,rfl,rfl,rfl,rfl,ar.1,ar.2⟩)⟩,YE (by omega) (aHb (aqE hm)) (by omega) (by simp) (by simp) (by simp) (by simp) (by simp) (by simp) (by simp),by rw[TP];simp;omega⟩
    . cases h
 rw[aJ hv]at h;by_cases h3:x.Kind=3
 . rw[ao h3]at h;unfold aoM at h;split at h
   . rename_i ar;cases h;exact⟨⟨⟨t0,t1,h3.symm,λh=>by cases h⟩,.inr (.inr (.inl ⟨rfl,rfl,rfl,rfl,rfl,rfl,rfl,ar⟩))⟩,YE (by omega) X9 (by omega) (by omega) (by simp) (by simp) (by simp) (by simp) (by simp) (by simp),by rw[TP];omega⟩
   . cases h
 rw[aJ h3]at h;by_cases oo:x.Kind=4
 . rw[ao oo]at h;unfold aoN at h;cases hm:P2 p with
   | none=>rw[hm]at h;cases h
   | some m=>
    rw[hm]at h;dsimp only at h;split at h
    . rename_i ar;cases h;refine⟨⟨⟨t0,t1,oo.symm,λh=>by cases h⟩,.inr (.inr (.inr (.inl ⟨rfl,rfl,rfl,rfl,rfl,rfl,rfl,?_⟩)))⟩,YE (by omega) X9 (by omega) (by simp) (by simp) (by simp) (by simp) (by simp) (by simp) (by simp),by rw[TP];simp;omega⟩;have ah:=ar.2.2;rw[Qp]at ah;rcases ah with ah | ah
      . grind
      . exact .inr ⟨ah,rfl,by unfold qj;show 1<=(m:Int)/\(m:Int)<=1000;omega⟩
    . cases h
 rw[aJ oo]at h;by_cases Qn:x.Kind=9
 . rw[ao Qn]at h;obtain⟨eh,hj⟩:=q5.elem ad (by omega);cases p with
   | nil=>
    rw[aeh]at h;cases h;exact⟨⟨⟨t0,t1,Qn.symm,λh=>by cases h⟩,.inr (.inr (.inr (.inr (.inr (.inr (.inr (.inr ⟨rfl,rfl,rfl,rfl,rfl,rfl,rfl,by simp,Lc.2 (by simp)⟩)))))))⟩,YE (by omega) X9 (by omega) (by simp) (by simp) (by simp) (by simp) (by simp) (by simp) (by simp),by rw[TP];simp⟩
   | cons c q=>
    rw[aeh]at h;split at h
    . obtain⟨w,RO,rfl⟩:=ajp.1 h;obtain⟨f1,f2,f3⟩:=ih _ _ _ (by simp at bo;omega) eh hj RO;refine⟨⟨⟨t0,t1,Qn.symm,λh=>by cases h⟩,.inr (.inr (.inr (.inr (.inr (.inr (.inr (.inr ⟨rfl,rfl,rfl,rfl,rfl,rfl,rfl,by simp,Lc.2 ?_⟩)))))))⟩,YE (by omega) X9 (by omega) (by simp) (by simp) (by simp) (by simp) (by simp) ?_ (by simp),?_⟩
      . grind
      . grind
      . rw[Qv];show 10+0+0+ry []+ry [w]<=_;rw[TX,OX,Pg];omega
    . cases h
 rw[aJ Qn]at h;by_cases s3:x.Kind=6
 . rw[ao s3]at h;unfold aoO at h;cases vJ:Vu p with
   | none=>rw[vJ]at h;cases h
   | some a=>
    obtain⟨id,q⟩:=a;rw[vJ]at h;dsimp only at h;have aOF:=aX7 vJ;have Rt:=acs id.toNat;have a3D:q.length+1<=p.length:=by rw[aOF,vx];omega
    obtain⟨o,KY,KZ,JD⟩:=axs p;have Lx:qj id:=by grind
    unfold qj at Lx;cases q0:zJ x.b8 id with
    | some m=>
     rw[q0]at h;obtain⟨w,RO,rfl⟩:=ajp.1 h;obtain⟨m1,m2⟩:=ae' q0;obtain⟨f1,f2,f3⟩:=ih _ _ _ (by omega) (q5.mem ad m1).1 (q5.mem ad m1).2 RO
     refine⟨⟨⟨t0,t1,s3.symm,λh=>by cases h⟩,.inr (.inr (.inr (.inr (.inr (.inl ⟨rfl,rfl,rfl,rfl,rfl,?_⟩)))))⟩,YE (by omega) X9 (by omega) (by simp) (by simp) (by simp) (by simp) (by simp) ?_ (by simp),?_⟩
     . show(match zJ x.b8 id with
        | some m=>_
        | none=>_)
       rw[q0];refine⟨rfl,rfl,Lc.2 ?_⟩
       grind
     . grind
     . rw[Qv];show 10+0+0+ry []+ry [w]<=_;rw[TX,OX];omega
    | none=>
     rw[q0]at h;dsimp only at h;split at h
     . rename_i Nl;cases h;refine⟨⟨⟨t0,t1,s3.symm,λh=>by cases h⟩,.inr (.inr (.inr (.inr (.inr (.inl ⟨rfl,rfl,rfl,rfl,rfl,?_⟩)))))⟩,YE (by omega) X9 (by omega) (by simp) (by simp) (by simp) (by simp) (by simp) (by simp) ?_,?_⟩
       . grind
       . grind
       . rw[Qv];show 10+0+((q.length+1)+0)+ry []+ry []<=_;rw[OX];omega
     . cases h
 rw[aJ s3]at h;by_cases Ns:x.Kind=7
 . rw[ao Ns]at h;unfold agP at h;obtain⟨eh,hj⟩:=q5.elem ad (by omega);cases C2:RN p with
   | none=>rw[C2]at h;cases h
   | some l=>
    rw[C2]at h;dsimp only at h;obtain⟨o,KY,KZ,JD⟩:=alI bo;have a6:(∀q,q∈l->q.length<=p.length)/\l.length<=p.length:=by grind
    have hw:=av7 l;rw[aI4 bo C2]at hw;split at h
    . rename_i J8;obtain⟨m,m1,rfl⟩:=ajp.1 h;have hlen:=afa m1;have C3:∀y,y∈m->∃q,q∈l/\aeq ts x.ev q y:=λy bJ=>by
       obtain⟨q,s4,qi⟩:=ah6 m1 y bJ
       grind
      have adF:=aqF (C:=300) m1 (λq eg v cv=>(ih _ _ _ (by have:=a6.1 q eg;omega) eh hj cv).2.2);refine⟨⟨⟨t0,t1,Ns.symm,λh=>by cases h⟩,.inr (.inr (.inr (.inr (.inr (.inr (.inl ⟨rfl,rfl,rfl,rfl,rfl,rfl,rfl,?_,Lc.2 ?_⟩))))))⟩,YE (by omega) X9 (by omega) (by simp) (by simp) (by omega) (by simp) (by simp) ?_ (by simp),?_⟩
      . grind
      . intro y bJ;obtain⟨q,_,qi⟩:=C3 y bJ;exact qi.1
      . intro y bJ;obtain⟨q,_,qi⟩:=C3 y bJ;exact qi.2.1
      . rw[Qv];show 10+0+0+ry []+ry m<=_;rw[OX];omega
    . cases h
 rw[aJ Ns]at h;by_cases NZ:x.Kind=8
 . rw[ao NZ]at h;unfold aoP at h;obtain⟨eh,hj⟩:=q5.elem ad (by omega);obtain⟨d1,d2⟩:=q5.key ad NZ;cases C2:RN p with
   | none=>rw[C2]at h;cases h
   | some l=>
    rw[C2]at h;dsimp only at h;obtain⟨o,KY,KZ,JD⟩:=alI bo;have a6:(∀q,q∈l->q.length<=p.length)/\l.length<=p.length:=by grind
    have hw:=av7 l;rw[aI4 bo C2]at hw;have a3O:=aGi l;split at h
    . rename_i J8;cases hs:mJ (te ts n x.Key) (LO l)with
      | none=>rw[hs]at h;cases h
      | some ks=>
       rw[hs]at h;dsimp only at h;split at h
       . rename_i ch;obtain⟨m,m1,rfl⟩:=ajp.1 h;have aiT:=afa hs;have hlen:=afa m1;obtain⟨g1,g2⟩:=aI5 J8.1;have aJ5:∀y,y∈ks->∃q,q∈LO l/\aeq ts x.Key q y:=λy bJ=>by
          obtain⟨q,s4,qi⟩:=ah6 hs y bJ;exact⟨q,s4,ih _ _ _ (by have:=a6.1 q (aqW s4);omega) d1 d2 qi⟩
         have C3:∀y,y∈m->∃q,q∈Md l/\aeq ts x.ev q y:=λy bJ=>by
          obtain⟨q,s4,qi⟩:=ah6 m1 y bJ;exact⟨q,s4,ih _ _ _ (by have:=a6.1 q (awn s4);omega) eh hj qi⟩
         have a3P:=aqF (C:=300) hs (λq eg v cv=>(ih _ _ _ (by have:=a6.1 q (aqW eg);omega) d1 d2 cv).2.2);have adF:=aqF (C:=300) m1 (λq eg v cv=>(ih _ _ _ (by have:=a6.1 q (awn eg);omega) eh hj cv).2.2)
         refine⟨⟨⟨t0,t1,NZ.symm,λh=>by cases h⟩,.inr (.inr (.inr (.inr (.inr (.inr (.inr (.inl ⟨rfl,rfl,rfl,rfl,rfl,rfl,?_,?_,Lc.2 ?_,Lc.2 ?_,ah4.1 ch⟩)))))))⟩,YE (by omega) X9 (by omega) (by simp) (by omega) (by omega) (by simp) ?_ ?_ (by simp),?_⟩
         . grind
         . grind
         . intro y bJ;obtain⟨q,_,qi⟩:=aJ5 y bJ;exact qi.1
         . intro y bJ;obtain⟨q,_,qi⟩:=C3 y bJ;exact qi.1
         . intro y bJ;obtain⟨q,_,qi⟩:=aJ5 y bJ;exact qi.2.1
         . intro y bJ;obtain⟨q,_,qi⟩:=C3 y bJ;exact qi.2.1
         . rw[Qv]
           grind
       . cases h
    . cases h
 rw[aJ NZ]at h;have u2:x.Kind=5:=by obtain⟨aAw,aAx⟩:=q5.S.K x ad;omega
 unfold agO at h;obtain⟨abG,arA⟩:=q5.S.A x ad (.inl u2);cases C2:S7 p with
 | none=>rw[C2]at h;cases h
 | some l=>
  rw[C2]at h;dsimp only at h;obtain⟨o,KY,KZ,JD⟩:=aw8 bo;have a6:(∀f,f∈l->f.Data.length<=p.length/\qj f.a8)/\l.Pairwise (λa b=>a.a8 < b.a8)/\l.length<=p.length:=by grind
  have hw:=aHe l;rw[aWs bo C2]at hw;cases hs:mJ (JL (te ts n) l) x.b8 with
  | none=>rw[hs]at h;cases h
  | some is=>
   rw[hs]at h;dsimp only at h;split at h
   . rename_i ch;cases h;have hlen:=afa hs;have Z':∀i,i < x.b8.length->xJ ts false (x.b8.getD i ii).e2 (is.getD i eJ)/\qa (is.getD i eJ):=λi ay=>by
      have hm:=j1 ay ii;have:=aGh ii eJ hs i ay;unfold JL at this;cases cJ:l.find? (λf=>decide (f.a8=(x.b8.getD i ii).a8))with
      | some g=>
       rw[cJ]at this;have:=ih _ _ _ (by have:=(a6.1 g (ayP cJ)).1;omega) (q5.mem ad hm).1 (q5.mem ad hm).2 this;exact⟨this.1,this.2.1⟩
      | none=>
       rw[cJ]at this;dsimp only at this;split at this
       . rename_i a7;have e:=(aan this)
         rw[<-e];exact⟨as1 _ _ (H.D x ad _ hm a7),(H.T x ad).3 _ hm⟩
       . cases this
     have adF:=aHg (C:=300) (d:=13) (λ_ _=>trivial) (λm hm=>⟨λa7=>H.W x ad m hm a7,λg b9 v cv=>(ih _ _ _ (by have:=(a6.1 g b9).1;omega) (q5.mem ad hm).1 (q5.mem ad hm).2 cv).2.2⟩) hs;have a3I:=aI8 (C:=300) (d:=13) (by omega) abG l
     refine⟨⟨⟨t0,t1,u2.symm,λh=>by cases h⟩,.inr (.inr (.inr (.inr (.inl ⟨rfl,rfl,rfl,rfl,rfl,rfl,aVD a6.2.1 (λf cJ=>(a6.1 f cJ).2),abc.2 ⟨hlen,λi ay=>(Z' i ay).1⟩⟩))))⟩,YE (by omega) X9 (by omega) (by simp) (by simp) (by omega) ?_ (by simp) ?_ ?_,?_⟩
     . unfold LK
       grind
     . intro y bJ;obtain⟨i,ay,rfl⟩:=OR bJ
       grind
     . intro r ar;obtain⟨f,f1,_,rfl⟩:=aGN ar
       grind
     . rw[Qv];show 10+0+((LK x l).map λr=>r.Data.length+1).sum+ry []+ry is<=_;rw[OX];omega
   . cases h
theorem aGj(H:Q3 ts):∀(n:Nat) (t:Int) (p:List UInt8) (v:ak),p.length<=90000->0<=t->t < ts.length->te ts n t p=some v->aeq ts t p v
 | 0,t,p,v,_,_,_,h=>by rw[aw']at h;cases h
 | n+1,t,p,v,bo,t0,t1,h=>aU6 H (aGj H n) bo t0 t1 h
end
section
variable {ts:List f7}
theorem awp :∀{ms:List li} {l:List ak} {j:Nat},j < ms.length -> j < l.length -> NK (ms.getD j ii) (l.getD j eJ)=false ->
 (⟨(ms.getD j ii).a8.toNat,(ms.getD j ii).sJ,n' ts (ms.getD j ii).e2 (l.getD j eJ)⟩:Fd)∈Ks ts ms l
 | [],l,j,h,_,_=>by simp at h
 | m::ms,[],j,_,h,_=>by simp at h
 | m::ms,v::l,0,_,_,h=>by
  rw[Ks]
  grind
 | m::ms,v::l,j+1,h1,ah,h=>by
  rw[Ks];have:=awp (ms:=ms) (l:=l) (j:=j) (by simpa using h1) (by simpa using ah) h
  grind
end
theorem aTm{s:hI}(H:UM s.Types){v:ak}(cv:qa v)(hw:wt v <=1099511627776){t:Int}(cJ:xJ s.Types false t v)(b7:ahg (s,t,v)=some 0):
 akA (s,t,v)=some (V2 s.Types t v):=by
 have h1:=aWe H cv hw cJ;have O8:ahg ((⟨s.Types⟩:hI),t,v)=some 0:=b7;rw[akA];simp only[ak.h7];rw[O8,h1];simp only[g',cm];rw[aJ (by simp)];unfold V2;generalize n' s.Types t v=p;generalize J0 s.Types t v=l;by_cases g:4096 < p.length
 . rw [ao (by have : (4096 : Int) < p.length := by omega
              simp[this]),ao (.inl g)]
 . by_cases g2:200 < l
   . rw [ao (by have : ¬ (4096 : Int) < p.length := by omega
                have ah:(200:Int) < l:=by omega
                simp[this,ah]),ao (.inr g2)]
   . rw [aJ (by have : ¬ (4096 : Int) < p.length := by omega
                have ah:¬(200:Int) < l:=by omega
                simp[this,ah]),aJ (by omega)]
theorem aFS{s:hI}(H:UM s.Types){v:ak}(cv:qa v)(hw:wt v <=1099511627776){t:Int}(cJ:xJ s.Types false t v)(ar:ak1 (s,t,v)=some 0):
 ag9 (s,t,v)=some (V2 s.Types t v):=by
 have Xd:WE (s,t,v)=some (n' s.Types t v):=aWd H cv hw t cJ;have adr:Yv (s,t,v)=_:=aW1 H cv hw t cJ;rw[ag9];simp only[ak.h7];rw[ar];simp only[g',cm];rw[aJ (by simp),Xd];simp only[cm];rw[adr];unfold V2;generalize n' s.Types t v=p;generalize J0 s.Types t v=l;by_cases g:4096 < p.length
 . have:decide ((4096:Int) < p.length)=true:=by simp;omega
   rw[this,aJ (by simp)];simp only[cm,RG];rw[ao trivial,ao (.inl g)]
 . have:decide ((4096:Int) < p.length)=false:=by simp;omega
   rw[this,ao (by simp)];simp only[cm,OB];by_cases g2:200 < l
   . rw[ao (by simp;omega),ao (.inr g2)]
   . rw[aJ (by simp;omega),aJ (by omega)]
theorem aU7{ts:List f7}(H:Q3 ts){t:Int}{v:ak}(cv:atj ts t v):akA ((⟨ts⟩:hI),t,v)=some (V2 ts t v):=
 aTm (s:=⟨ts⟩) (H.V.aea H.T) cv.2.1 (RD cv.2.2 (by decide)) cv.1 (aS8 H.T H.V cv.2.1 cv.1)
theorem aU8{ts:List f7}(H:Q3 ts){t:Int}{v:ak}(cv:atj ts t v):ag9 ((⟨ts⟩:hI),t,v)=some (V2 ts t v):=
 aFS (s:=⟨ts⟩) (H.V.aea H.T) cv.2.1 (RD cv.2.2 (by decide)) cv.1 (aFQ H.T H.V cv.2.1 cv.1)
noncomputable def V0 (ts:List f7) (t:Int) (m:List UInt8):ak×Int:=
 if t < 0\/(ts.length:Int)<=t then(TO,4)else if 4096 < m.length then(TO,12)else match te ts 200 t m with
  | some v=>(v,0)
  | none=>(TO,12)
theorem awD(ts:List f7)(t:Int)(m:List UInt8):(∃e,e≠0/\V0 ts t m=(TO,e))\/∃v,V0 ts t m=(v,0)/\(0<=t/\t < ts.length)/\m.length<=4096/\te ts 200 t m=some v:=by
 unfold V0;by_cases h1:t < 0\/(ts.length:Int)<=t
 . rw[ao h1];exact .inl ⟨4,by omega,rfl⟩
 . rw[aJ h1];by_cases ah:4096 < m.length
   . rw[ao ah];exact .inl ⟨12,by omega,rfl⟩
   . rw[aJ ah];cases cv:te ts 200 t m with
     | none=>exact .inl ⟨12,by omega,rfl⟩
     | some v=>exact .inr ⟨v,rfl,by omega,by omega,rfl⟩
section
variable {ts:List f7}
theorem aFT(H:RQ ts)(t:Int)(m:List UInt8):apA ((⟨ts⟩:hI),t,m)=some (V0 ts t m):=by
 rw[apA,auf,(aqU H.S.T H.V).1];simp only[g',cm];unfold V0;by_cases h1:t < 0\/(ts.length:Int)<=t
 . have c:(bif decide (t < 0)then true else decide ((ts.length:Int)<=t))=true:=by rcases h1 with h1 | h1 <;> simp[h1]
   rw[aJ (by simp),ao c,ao h1];rfl
 . have c:¬(bif decide (t < 0)then true else decide ((ts.length:Int)<=t))=true:=by
    have a:¬t < 0:=λh=>h1 (.inl h)
    have b:¬(ts.length:Int)<=t:=λh=>h1 (.inr h)
    simp[a,b]
   by_cases ah:4096 < m.length
   . rw[aJ (by simp),aJ c,ao (by simp;omega),aJ h1,ao ah];rfl
   . have d1:=aHc H 200 (by omega) t m [] 0 [] (by omega) (by omega) (by omega) rfl;rw[aJ (by simp),aJ c,aJ (by simp;omega),aJ h1,aJ ah];cases cv:te ts 200 t m with
     | none=>
      obtain⟨w,f1,f2,hw⟩:=d1.2 cv;rw[hw];rfl
     | some v=>
      rw[d1.1 v cv];simp[ak.h7]
theorem aFU(H:RQ ts)(t:Int)(m:List UInt8):ap0 ((⟨ts⟩:hI),t,m)=some (V0 ts t m):=by
 have ar:ap4 ((⟨ts⟩:hI),t)=some (if t < 0\/(ts.length:Int)<=t then 4 else 0):=by
  rw[ap4,(aqU H.S.T H.V).2];simp only[g',cm];rw[aJ (by simp)];by_cases h1:t < 0\/(ts.length:Int)<=t
  . rw[ao h1,ao];rcases h1 with h1 | h1 <;> simp[h1]
  . rw[aJ h1,aJ];have a:¬t < 0:=λh=>h1 (.inl h)
    have b:¬(ts.length:Int)<=t:=λh=>h1 (.inr h)
    simp[a,b]
 rw[ap0,aup,ar];simp only[g',cm];unfold V0;by_cases h1:t < 0\/(ts.length:Int)<=t
 . simp only[ao h1];rfl
 . by_cases ah:4096 < m.length
   . simp only[aJ h1];rw[aJ (by simp),ao (by simp;omega),ao ah,alR (by simp)];rfl
   . have d2:=aGg H 200 (by omega) t m [] (by omega) (by omega) (by omega) (by simp);rw[show((201 - 200:Nat):Int)=1 from rfl]at d2;simp only[aJ h1];rw[aJ (by simp),aJ (by simp;omega),aJ ah];cases cv:te ts 200 t m with
     | none=>
      obtain⟨F,hw⟩:=d2.2 cv;rw[hw];rfl
     | some v=>
      obtain⟨F,hw⟩:=d2.1 v cv;rw[hw];simp[ak.h7]
noncomputable def LP (ts:List f7) (t:Int) (m:List UInt8):List UInt8×Int:=if(V0 ts t m).2=0 then V2 ts t (V0 ts t m).1 else([],(V0 ts t m).2)
theorem awq(H:Q3 ts){t:Int}{m:List UInt8}(ht:0<=t/\t < ts.length)(hm:m.length<=4096){v:ak}(h:te ts 200 t m=some v):atj ts t v:=by
 obtain⟨a,b,c⟩:=aGj H 200 t m v (by omega) ht.1 ht.2 h;exact⟨a,b,by omega⟩
theorem aSO(H:Q3 ts)(t:Int)(m:List UInt8):ahi ((⟨ts⟩:hI),t,m)=some (LP ts t m):=by
 rw[ahi,aFT H.auV];unfold LP;rcases awD ts t m with⟨e,he,a7⟩ | ⟨v,a7,ht,hm,cv⟩
 . rw[a7];simp[he]
 . rw[a7];simp only[g',cm,ak.h7];rw[aU7 H (awq H ht hm cv)];simp
theorem aSP(H:Q3 ts)(t:Int)(m:List UInt8):ahA ((⟨ts⟩:hI),t,m)=some (LP ts t m):=by
 rw[ahA,aFU H.auV];unfold LP;rcases awD ts t m with⟨e,he,a7⟩ | ⟨v,a7,ht,hm,cv⟩
 . rw[a7];simp[he]
 . rw[a7];simp only[g',cm,ak.h7];rw[aU8 H (awq H ht hm cv)];simp
end
def aj3(x:ME):Prop:=Zv x/\x.r1.length*3<=reachBytes
def VK(dJ:List ME):Prop:=dJ.length*32<=reachBytes/\∀x,x∈dJ->aj3 x
def ajV(c:NE):Prop:=u4 c.Kind/\u4 c.Node/\u4 c.A/\u4 c.B
theorem VK.set{dJ:List ME}(h:VK dJ)(j:Nat){x:ME}(ad:aj3 x):VK (dJ.set j x):=by
 refine⟨by rw[QW];exact h.1,λy bJ=>?_⟩;rcases agv bJ with bJ | rfl
 . exact h.2 y bJ
 . exact ad
theorem YF(a:Int):u4 (IntKind.wrap .u8 a):=by
 have:IntKind.wrap .u8 a=a % 256:=by rfl
 unfold u4;omega
theorem azE{n:Nat}(h:n*3<=reachBytes):room 3 n=true:=by
 unfold reachBytes at h;unfold room Qy KJ;simp only[k0,ye];omega
theorem a1W{n:Nat}(h:n*32<=reachBytes):room 32 n=true:=by
 unfold reachBytes at h;unfold room Qy KJ;simp only[k0,ye];omega
theorem aWu{L:List NE}(aiK:L.length <=reachBytes)(b7:∀c,c∈L -> ajV c){i:Nat}(ay:i < L.length){dJ:List ME}(h:VK dJ)(dy:0 < dJ.length):
 ∃Zd,VK Zd/\Zd.length=dJ.length/\PD (L,(i:Int),dJ)=PD (L,((i+1:Nat):Int),Zd):=by
 obtain⟨hN,hR,px,xi⟩:=b7 _ (j1 ay ZC);have ar:=Jg aiK;unfold u4 at hN hR px xi;have JP:dJ.length < 9223372036854775807:=by have:=h.1;unfold reachBytes at this;omega
 obtain⟨j,c7,TG⟩:∃j:Nat,kt (jJ .i64 (L.getD i ZC).Node) (dJ.length:Int)=(j:Int)/\j < dJ.length:=by
  have e:kt (jJ .i64 (L.getD i ZC).Node) (dJ.length:Int)=(L.getD i ZC).Node % (dJ.length:Int):=by
   rw[WU ⟨by omega,by omega⟩,OY hR.1 (by omega)]
  have h0:=Ye (L.getD i ZC).Node (by omega:(dJ.length:Int)≠0);have h1:=Yc (L.getD i ZC).Node (by omega:(0:Int) < dJ.length);exact⟨((L.getD i ZC).Node % (dJ.length:Int)).toNat,by rw[e];omega,by omega⟩
 obtain⟨⟨I0,D',Jm,p',L9,n6⟩,n7⟩:=h.2 _ (j1 TG J6);have a7:∀z:Nat,z < (dJ.getD j J6).r1.length->u4 ((dJ.getD j J6).r1.getD z RZ).a8/\u4 ((dJ.getD j J6).r1.getD z RZ).e2/\u4 ((dJ.getD j J6).r1.getD z RZ).OV:=λz ga=>L9 _ (j1 ga _)
 rw[PD,ao (by
  have a:(i:Int) < (L.length:Int):=by omega
  simp[a,dy]),ao (gA ay),hJ]
 simp only[g',cm];rw[ao (show(!(decide ((dJ.length:Int)=0)))=true from by rw[ab6];exact asq (by omega)),c7,ao (gA TG),hJ,ao (ajk TG),PX,ao (azE n7),ao (ajk TG)];simp only[M6,qb,TG]
 have eh:e0 .i64 (i:Int) 1=((i+1:Nat):Int):=j2 (by omega);rw[eh];generalize bo:dJ.getD j J6=p at*;generalize amY:L.getD i ZC=c at*
 have ab9:∀{a b adi:Int} {l:List XL},u4 a->u4 b->u4 adi->(∀q,q∈l->u4 q.a8/\u4 q.e2/\u4 q.OV)->l.length<=p.r1.length+8/\(l.length<=p.r1.length\/l.length<=8)->aj3 ⟨p.Kind,a,b,adi,l⟩:=λ{a b adi l} ch al b7 a6 dy=>⟨⟨I0,ch,al,b7,a6,by show l.length<=_;unfold reachBytes at*;omega⟩,by show l.length*3<=_;unfold reachBytes at*;omega⟩
 have gs:∀q:ME,(dJ.set j q).getD j hE=q:=λq=>by rw[Ld (by rw[QW];exact TG)];simp
 have aoJ:∀{a:Int},0<=a/\a<=255->u4 a:=λh=>h
 have a0':(p.r1.length:Int) < 9223372036854775807:=by unfold reachBytes at n7;omega
 have par:∀{l:List XL},(∀q,q∈l->u4 q.a8/\u4 q.e2/\u4 q.OV)->l.length<=p.r1.length+8/\(l.length<=p.r1.length\/l.length<=8)->aj3 ⟨p.Kind,p.A,p.B,p.C,l⟩:=λ{l} h1 ah=>ab9 D' Jm p' h1 ah
 have self:p.r1.length<=p.r1.length+8/\(p.r1.length<=p.r1.length\/p.r1.length<=8):=by omega
 by_cases a6:0 < p.r1.length
 . have L1:(0:Int) < (p.r1.length:Int):=by omega
   obtain⟨z,ga,LF⟩:∃z:Nat,kt (jJ .i64 c.A) (p.r1.length:Int)=(z:Int)/\z < p.r1.length:=by
    have e:kt (jJ .i64 c.A) (p.r1.length:Int)=c.A % (p.r1.length:Int):=by
     rw[WU ⟨by omega,by omega⟩,OY px.1 (by omega)]
    have h0:=Ye c.A (by omega:(p.r1.length:Int)≠0);have h1:=Yc c.A L1;exact⟨(c.A % (p.r1.length:Int)).toNat,by rw[e];omega,by omega⟩
   simp only[L1,ga,M6,qb,gs,List.set_set];rw[ao (show(!(decide ((p.r1.length:Int)=0)))=true from by rw[ab6];exact asq (by omega))];by_cases Nr:kt c.Kind 8=0
   . simp only[Nr,M6,qb];exact⟨_,h.set j (ab9 (YF _) Jm p' L9 self),QW,rfl⟩
   by_cases hg:kt c.Kind 8=1
   . simp only[hg,M6,LV,Int.reduceEq,q2,qb,uJ];exact⟨_,h.set j (ab9 D' (YF _) p' L9 self),QW,rfl⟩
   by_cases hv:kt c.Kind 8=2
   . have agl:0<=kt c.A 6:=by rw[OY px.1 (by omega)];omega
     simp only[hv,agl,M6,LV,Int.reduceEq,q2,qb,uJ];exact⟨_,h.set j (ab9 (YF _) Jm p' L9 self),QW,rfl⟩
   by_cases h3:kt c.Kind 8=3
   . simp only[h3,M6,LV,Int.reduceEq,q2,qb,uJ];exact⟨_,h.set j (ab9 D' Jm (YF _) L9 self),QW,rfl⟩
   by_cases oo:kt c.Kind 8=4
   . by_cases NZ:(p.r1.length:Int) < 8
     . simp only[oo,NZ,M6,LV,Int.reduceEq,q2,qb,uJ];rw[ao (azE (by rw[vx];unfold reachBytes;simp;omega))];refine⟨_,h.set j (par (λq eg=>?_) (by rw[vx];simp;omega)),QW,rfl⟩;rcases Nw.1 eg with eg | eg
       . exact L9 q eg
       . rw[aje.1 eg];exact⟨aoJ px,aoJ xi,YF _⟩
     . simp only[oo,NZ,M6,LV,Int.reduceEq,q2,qb,uJ];exact⟨_,h.set j (par L9 self),QW,rfl⟩
   by_cases u2:kt c.Kind 8=5
   . simp only[u2,M6,LV,Int.reduceEq,q2,qb,uJ];have aOL:e0 .i64 (z:Int) 1=((z+1:Nat):Int):=j2 (by omega);rw[aOL,ao (R7.2 (by omega)),ao (R7.2 (by omega)),hJ,hJ,hJ,ao (by simp;omega)]
     refine⟨_,h.set j (par (λq eg=>?_) (by rw[vx,aal,aal,Yd];omega)),QW,rfl⟩;rcases Nw.1 eg with eg | eg
     . exact L9 q (ab4 eg)
     . exact L9 q (asn (ab4 eg))
   have aLD:∀{w:XL},u4 w.a8/\u4 w.e2/\u4 w.OV->aj3 ⟨p.Kind,p.A,p.B,p.C,p.r1.set z w⟩:=λ{w} hw=>par (λq eg=>by
    rcases agv eg with eg | rfl
    . exact L9 q eg
    . exact hw) (by rw[QW];exact self)
   by_cases s3:kt c.Kind 8=6
   . simp only[s3,M6,LV,Int.reduceEq,q2,qb,uJ];rw[ao (gA LF),hJ,ao (ajk LF)];exact⟨_,h.set j (aLD (w:=⟨(p.r1.getD z RZ).a8,(p.r1.getD z RZ).e2,c.B⟩) ⟨(a7 z LF).1,(a7 z LF).2.1,aoJ xi⟩),QW,rfl⟩
   . simp only[Nr,hg,hv,h3,oo,u2,s3,LV,q2,uJ];rw[ao (gA LF),hJ,ao (ajk LF),ao (gA LF),ao (ajk LF)];exact⟨_,h.set j (aLD (w:=⟨(p.r1.getD z RZ).a8,e0 .u8 (p.r1.getD z RZ).e2 c.B,(p.r1.getD z RZ).OV⟩) ⟨(a7 z LF).1,YF _,(a7 z LF).2.2⟩),QW,rfl⟩
 . have L1:¬(0:Int) < (p.r1.length:Int):=by omega
   simp only[L1,LV,q2,uJ,gs,List.set_set];by_cases Nr:kt c.Kind 8=0
   . simp only[Nr,M6,qb];exact⟨_,h.set j (ab9 (YF _) Jm p' L9 self),QW,rfl⟩
   by_cases hg:kt c.Kind 8=1
   . simp only[hg,M6,LV,Int.reduceEq,q2,qb,uJ];exact⟨_,h.set j (ab9 D' (YF _) p' L9 self),QW,rfl⟩
   by_cases hv:kt c.Kind 8=2
   . have agl:0<=kt c.A 6:=by rw[OY px.1 (by omega)];omega
     simp only[hv,agl,M6,LV,Int.reduceEq,q2,qb,uJ];exact⟨_,h.set j (ab9 (YF _) Jm p' L9 self),QW,rfl⟩
   by_cases h3:kt c.Kind 8=3
   . simp only[h3,M6,LV,Int.reduceEq,q2,qb,uJ];exact⟨_,h.set j (ab9 D' Jm (YF _) L9 self),QW,rfl⟩
   by_cases oo:kt c.Kind 8=4
   . have NZ:(p.r1.length:Int) < 8:=by omega
     simp only[oo,NZ,M6,LV,Int.reduceEq,q2,qb,uJ];rw[ao (azE (by rw[vx];unfold reachBytes;simp;omega))];refine⟨_,h.set j (par (λq eg=>?_) (by rw[vx];simp;omega)),QW,rfl⟩;rcases Nw.1 eg with eg | eg
     . exact L9 q eg
     . rw[aje.1 eg];exact⟨aoJ px,aoJ xi,YF _⟩
   have fin:=h.set j (par L9 self);by_cases u2:kt c.Kind 8=5
   . simp only[u2,M6,LV,Int.reduceEq,q2,qb,uJ];exact⟨_,fin,QW,rfl⟩
   by_cases s3:kt c.Kind 8=6
   . simp only[s3,M6,LV,Int.reduceEq,q2,qb,uJ];exact⟨_,fin,QW,rfl⟩
   . simp only[Nr,hg,hv,h3,oo,u2,s3,LV,q2,uJ];exact⟨_,fin,QW,rfl⟩
theorem aI9{L:List NE}(aiK:L.length<=reachBytes)(b7:∀c,c∈L->ajV c):∀(k i:Nat) {dJ:List ME},i+k=L.length->VK dJ->∃Zd,VK Zd/\Zd.length=dJ.length/\PD (L,(i:Int),dJ)=some Zd
 | 0,i,dJ,ay,h=>⟨dJ,h,rfl,by
  have a:¬(i:Int) < (L.length:Int):=by omega
  rw[PD,aJ (by simp[a])]⟩
 | k+1,i,dJ,ay,h=>by
  by_cases dy:0 < dJ.length
  . obtain⟨Zd,h1,b',ah⟩:=aWu aiK b7 (by omega:i < L.length) h dy;rw[ah,<-b'];exact aI9 aiK b7 k (i+1) (by omega) h1
  . refine⟨dJ,h,rfl,?_⟩;have b:decide ((0:Int) < (dJ.length:Int))=false:=asq (by omega);rw[PD,b,aJ];cases decide ((i:Int) < (L.length:Int)) <;> simp
theorem VK.aNt{d:JA}(h:VK d.Jv):ajW d:=⟨by have:=h.1;unfold reachBytes at*;omega,λx ad=>(h.2 x ad).1⟩
theorem aTn{d:JA}(h:VK d.Jv){L:List NE}(aiK:L.length<=reachBytes)(b7:∀c,c∈L->ajV c):∃zv,VK zv.Jv/\zv.Jv.length=d.Jv.length/\apX (d,L)=some zv:=by
 obtain⟨Zd,h1,b',ah⟩:=aI9 aiK b7 L.length 0 (by omega) h;have Xd:PD (L,0,d.Jv)=some Zd:=ah;refine⟨⟨Zd⟩,h1,b',?_⟩;rw[apX,PX,ao (a1W h.1),Xd];rfl
theorem aWv{dJ:List ME}(h:WF u0 ⟨.slice (.nm ag'),dJ⟩):VK dJ:=by
 obtain⟨a,b,c⟩:=aff (t:= .nm ag') h;have D:=aHD (d:=⟨dJ⟩) h;refine⟨b,λx ad=>⟨D.2 x ad,?_⟩⟩;exact(aff (t:= .nm ap1) (c x ad ⟨.slice (.nm ap1),x.r1⟩ (.tail _ (.tail _ (.tail _ (.tail _ (.head _))))))).2.1
theorem as2{n:Int}(h:WF u0 ⟨.int .u8,n⟩):u4 n:=by
 cases h with
 | int k n h=>
  simp[Lit.wf,IntKind.min,IntKind.max,IntKind.bits,IntKind.signed]at h;unfold u4;omega
theorem aqG{α β:Type}{f:α->Option β}(aA3:α)(aA4:β):∀{l:List α} {m:List β},m.length=l.length->(∀j,j < l.length->f (l.getD j aA3)=some (m.getD j aA4))->mJ f l=some m
 | [],[],_,_=>rfl
 | [],b::m,h,_=>by simp at h
 | a::l,[],h,_=>by simp at h
 | a::l,b::m,h,cJ=>by
  have h0:f a=some b:=cJ 0 (by simp);rw[ahU,h0,aqG aA3 aA4 (l:=l) (m:=m) (by simpa using h) λj c7=>cJ (j+1) (by simpa using c7)];rfl
theorem aGk :∀{a b:List (List UInt8)},a.length=b.length->LO (Yl a b)=a/\Md (Yl a b)=b
 | [],[],_=>⟨rfl,rfl⟩
 | [],_::_,h=>by simp at h
 | _::_,[],h=>by simp at h
 | x::a,y::b,h=>by
  obtain⟨h1,ah⟩:=aGk (a:=a) (b:=b) (by simpa using h);exact⟨by rw[Yl,LO,h1],by rw[Yl,Md,ah]⟩
theorem a1r{m:li}{v:ak}:NK m v=true↔m.nk=true/\m.j0=v:=by unfold NK;simp
theorem aGl :∀{F:List qy} {f:qy},F.Pairwise (λa b=>a.a8 < b.a8)->f∈F->F.find? (λg=>decide (g.a8=f.a8))=some f
 | g::F,f,bo,cJ=>by
  rw[Vk]at bo;rw[List.find?_cons];rcases LJ.1 cJ with rfl | cJ
  . simp
  . have:=bo.1 f cJ;have a7:decide (g.a8=f.a8)=false:=asq (by omega);rw[a7];exact aGl bo.2 cJ
section
variable {ts:List f7}
theorem aVH {x:f7} {its:List ak} {r:List pI} (m1:Q5 x.b8) (ar:WS x.b8 r) (a6:its.length=x.b8.length) {f:aeo}
 (cJ:∀j,j < x.b8.length->NK (x.b8.getD j ii) (its.getD j eJ)=false->f (x.b8.getD j ii).e2 (n' ts (x.b8.getD j ii).e2 (its.getD j eJ))=some (its.getD j eJ))
 (hlen:((OO MQ (LE ts x.b8 its r)).flatMap Fd.text).length<=90000):
 agO f x ((OO MQ (LE ts x.b8 its r)).flatMap Fd.text)=some ⟨5,false,0,[],0,[],its,r⟩:=by
 have Z7:=aVw (apB (ts:=ts) (l:=its) m1 ar) (aUf m1 ar);have C3:∀g,g∈OO MQ (LE ts x.b8 its r)↔g∈LE ts x.b8 its r:=λg=>(acn MQ _).mem_iff
 have ano:∀g,g∈OO MQ (LE ts x.b8 its r)->1<=g.id/\g.id<=1000:=λg b9=>aDG m1 ar ((C3 g).1 b9)
 unfold agO;rw[aVB Z7 ano hlen];generalize OO MQ (LE ts x.b8 its r)=L at*;have q0:(L.map abD).Pairwise (λa b=>a.a8 < b.a8):=agz.2 (Z7.imp λ{a b} h=>by show(a.id:Int) < (b.id:Int);omega)
 have from_:∀g,g∈L.map abD->(∃j,j < x.b8.length/\NK (x.b8.getD j ii) (its.getD j eJ)=false/\g=⟨(x.b8.getD j ii).a8,(x.b8.getD j ii).sJ,n' ts (x.b8.getD j ii).e2 (its.getD j eJ)⟩)\/∃a,a∈r/\g=⟨a.a8,false,a.Data⟩:=λg b9=>by
  obtain⟨e,eh,rfl⟩:=Lp.1 b9;have:=(C3 e).1 eh;unfold LE at this;rcases Nw.1 this with h | h
  . obtain⟨j,Ll,MP,We,rfl⟩:=awC h;have C2:=m1.2 _ (j1 Ll ii);unfold qj at C2;refine .inl ⟨j,Ll,We,?_⟩;show(⟨(((x.b8.getD j ii).a8.toNat:Nat):Int),_,_⟩:qy)=_;rw[anY (by omega)]
  . obtain⟨a,a1,rfl⟩:=Lp.1 h;have C2:=(ar.2 a a1).1;unfold qj at C2;refine .inr ⟨a,a1,?_⟩;show(⟨((a.a8.toNat:Nat):Int),_,_⟩:qy)=_;rw[anY (by omega)];rfl
 have a2p:∀j,j < x.b8.length->NK (x.b8.getD j ii) (its.getD j eJ)=false->(⟨(x.b8.getD j ii).a8,(x.b8.getD j ii).sJ,n' ts (x.b8.getD j ii).e2 (its.getD j eJ)⟩:qy)∈L.map abD:=λj Ll MP=>by
  have C2:=m1.2 _ (j1 Ll ii);unfold qj at C2;refine Lp.2 ⟨_,(C3 _).2 (ayZ _ (awp Ll (by omega) MP)),?_⟩;show(⟨(((x.b8.getD j ii).a8.toNat:Nat):Int),_,_⟩:qy)=_;rw[anY (by omega)]
 have a2q:∀a,a∈r->(⟨a.a8,false,a.Data⟩:qy)∈L.map abD:=λa a1=>by
  have C2:=(ar.2 a a1).1;unfold qj at C2;refine Lp.2 ⟨Ux a,(C3 _).2 (List.mem_append_right _ (Lp.2 ⟨a,a1,rfl⟩)),?_⟩;show(⟨((a.a8.toNat:Nat):Int),_,_⟩:qy)=_;rw[anY (by omega)];rfl
 generalize L.map abD=F at*;have known:∀j,j < x.b8.length->zJ x.b8 (x.b8.getD j ii).a8=some (x.b8.getD j ii):=λj Ll=>aVA m1 (j1 Ll ii)
 have a0t:mJ (JL f F) x.b8=some its:=aqG ii eJ a6 λj c7=>by
  unfold JL;cases c8:NK (x.b8.getD j ii) (its.getD j eJ)with
  | false=>
   have:=aGl q0 (a2p j c7 c8);rw[this];exact cJ j c7 c8
  | true=>
   have dy:F.find? (λg=>decide (g.a8=(x.b8.getD j ii).a8))=none:=by
    rw[anZ];intro g b9;simp only[ye];intro e;rcases from_ g b9 with⟨k,hg,hv,rfl⟩ | ⟨a,a1,rfl⟩
    . have em:=aqm m1 (j1 hg ii) (j1 c7 ii) e;have aOG:k=j:=by
       rw[Ld hg,Ld c7]at em;rcases ay3 k j with h | h | h
       . have:=adV.1 m1.1 k j hg c7 h;rw[em]at this;omega
       . exact h
       . have:=adV.1 m1.1 j k c7 hg h;rw[em]at this;omega
      subst aOG;rw[c8]at hv;cases hv
    . have:=(ar.2 a a1).2;rw[show a.a8=(x.b8.getD j ii).a8 from e,known j c7]at this;cases this
   rw[dy];obtain⟨KY,KZ⟩:=a1r.1 c8;simp only;rw[ao KY,KZ]
 have oj:F.all (Nx x)=true:=by
  rw[r0];intro g b9;unfold Nx;rcases from_ g b9 with⟨k,hg,hv,rfl⟩ | ⟨a,a1,rfl⟩
  . rw[known k hg];rfl
  . simp
 have aKl:LK x F=r:=by
  unfold LK;refine aWn (agz.2 ((q0.filter _).imp λ{a b} h=>h)) ar.1 λa=>?_
  constructor
  . intro h;obtain⟨g,g1,rfl⟩:=Lp.1 h;obtain⟨g2,g3⟩:=adZ.1 g1;rcases from_ g g2 with⟨k,hg,hv,rfl⟩ | ⟨a,a1,rfl⟩
    . rw[known k hg]at g3;simp at g3
    . exact a1
  . intro h;refine Lp.2 ⟨⟨a.a8,false,a.Data⟩,adZ.2 ⟨a2q a h,?_⟩,rfl⟩;rw[(ar.2 a h).2];rfl
 simp only;rw[a0t];simp only;rw[ao oj,aKl]
theorem aU9(H:UM ts){v:ak}(cv:qa v):∀{t:Int} {m:Nat},(n' ts t v).length<=90000->xJ ts false t v->J0 ts t v<=m->te ts m t (n' ts t v)=some v:=by
 induction cv with
 | mk v hs h1 ah b' hk ay Um I0 D' Jm p' QU NH=>
 intro t m QQ cJ hm;have aZ':=afg (ts:=ts) t v;obtain⟨m,rfl⟩:∃k,m=k+1:=⟨m - 1,by omega⟩
 have hle:=aqt (ts:=ts) t v;have k6:∀q,q∈v.eI->(if v.eI=[]then 0 else 1)=1:=λq eg=>aJ λe=>by rw[e]at eg;cases eg
 generalize (if v.eI=[]then 0 else 1)=kk at hle k6;obtain⟨⟨g1,g2,g3,_⟩,b7⟩:=(WN _ _ _).1 cJ;have c7:t.toNat < ts.length:=by omega
 have C3:=j1 c7 hz;have apa:=λh=>az2 (ts:=ts) (t:=t) (v:=v) h
 have apb:=λh=>az3 (ts:=ts) (t:=t) (v:=v) h
 have apc:=λh=>az4 (ts:=ts) (t:=t) (v:=v) h
 have aMU:=λh=>az5 (ts:=ts) (t:=t) (v:=v) h
 have aMV:=λh=>az6 (ts:=ts) (t:=t) (v:=v) h
 have aMW:=λh=>az7 (ts:=ts) (t:=t) (v:=v) h
 have aMX:=λh=>az8 (ts:=ts) (t:=t) (v:=v) h
 have aMY:=λh=>az9 (ts:=ts) (t:=t) (v:=v) h
 have aMZ:=λh=>az' (ts:=ts) (t:=t) (v:=v) h
 rw[aqX];generalize ad:ts.getD t.toNat hz=x at*;have aMR:x.Kind=5->∀c,c<=OU ts x.b8 v.cy->c<=m:=λh c b7=>by rw[ao h]at hle;exact axt hle hm b7
 have aMS:x.Kind=6->∀ab0,zJ x.b8 v.a8=some ab0->∀c,c<=JS ts ab0.e2 v.cy->c<=m:=λh ab0 q0 c b7=>by
  rw[aJ (by rw[h];decide),ao h,q0]at hle;exact axt hle hm b7
 have atl:7<=x.Kind->∀c,c<=JS ts x.ev v.cy->c<=m:=λh c b7=>by
  rw[aJ (λe=>by rw[e]at h;exact absurd h (by decide)),aJ (λe=>by rw[e]at h;exact absurd h (by decide))]at hle;exact axt hle hm b7
 have aMT:∀q,q∈v.eI->1<=m:=λq eg=>by
  rw[k6 q eg]at hle;exact aWo hle hm rfl
 clear hle hm aZ' k6;have aLC:∀{t:Int},(∀q,q∈v.cy->(n' ts t q).length<=90000/\xJ ts false t q/\J0 ts t q<=m)->mJ (te ts m t) (ob ts t v.cy)=some v.cy:=λ{t} a6=>aqG [] eJ (by rw[ZJ]) λj c7=>by
  rw[ZJ]at c7;rw[aEs c7];obtain⟨s4,qi,JY⟩:=a6 _ (j1 c7 eJ);exact NH _ (j1 c7 eJ) s4 qi JY
 have a11:∀{t:Int},(∀q,q∈v.eI->(n' ts t q).length<=90000/\xJ ts false t q/\J0 ts t q<=m)->mJ (te ts m t) (ob ts t v.eI)=some v.eI:=λ{t} a6=>aqG [] eJ (by rw[ZJ]) λj c7=>by
  rw[ZJ]at c7;rw[aEs c7];obtain⟨s4,qi,JY⟩:=a6 _ (j1 c7 eJ);exact QU _ (j1 c7 eJ) s4 qi JY
 have ayy:∀{t:Int} {l:List ak} {q:ak},q∈l->n' ts t q∈ob ts t l:=λ{t l q} eg=>by rw[aqT];exact Lp.2 ⟨q,eg,rfl⟩
 unfold aoQ;rcases b7 with rz | rz | rz | rz | rz | rz | rz | rz | rz
 . rw[ao (by omega),apa (by omega)];obtain⟨a1,a2,a3,a4,a5,MG,UO⟩:=rz;unfold aoK;cases al:v.oi with
   | true=>
    rw[ao (show true=true from rfl),aJ (show ¬([1]:List UInt8)=[] by simp),ao (show([1]:List UInt8)=[1]from rfl)];cases v;simp_all
   | false=>
    rw[aJ (show ¬false=true by simp),ao (show([]:List UInt8)=[]from rfl)];cases v;simp_all
 . obtain⟨a1,a2,a3,a4,a5,MG,UO,Sl,a9⟩:=rz;rw[aJ (by omega),ao (by omega),apb (by omega)];have ga:=aWl (n:=v.hX) D';unfold aoL;rw[aGJ (aqD D')];simp only;rw[ga,ao ⟨Sl,a9⟩];cases v;simp_all
 . obtain⟨a1,a2,a3,a4,a5,MG,UO,Sl⟩:=rz;rw[aJ (by omega),aJ (by omega),ao (by omega),apc (by omega)];unfold aoM;rw[ao Sl];cases v;simp_all
 . obtain⟨a1,a2,a3,a4,a5,MG,UO,Sl⟩:=rz;have C2:qj v.a8:=by
    rcases Sl with⟨y,ata,aAk⟩ | ⟨_,_,h⟩
    . rw[<-aAk];exact H.S _ C3 (by omega) y ata
    . exact h
   unfold qj at C2;obtain⟨k,hk⟩:∃k:Nat,v.a8=(k:Int):=⟨v.a8.toNat,by omega⟩
   rw[aJ (by omega),aJ (by omega),aJ (by omega),ao (by omega),aMU (by omega),hk,hJ];unfold aoN;rw[aGJ (by omega)];simp only;have hs:((x.hl.any λy=>decide (y.a8=(k:Int))) || x.Open)=true:=by
    rcases Sl with q | ⟨q,_⟩
    . rw[hk]at q;rw[av5.1 q];rfl
    . rw[q];simp
   rw[ao ⟨by omega,by omega,hs⟩];cases v;simp_all
 . obtain⟨a1,a2,a3,a4,a5,MG,UO,Sl⟩:=rz;obtain⟨m1,m2⟩:=H.A _ C3 (.inl (by omega));obtain⟨f1,f2⟩:=abc.1 Sl;have aKe:=aMV (by omega);have hlen:((OO MQ (LE ts x.b8 v.cy v.Rest)).flatMap Fd.text).length<=90000:=by rw[<-aKe];exact QQ
   rw[aJ (by omega),aJ (by omega),aJ (by omega),aJ (by omega),aJ (by omega),aJ (by omega),aJ (by omega),aJ (by omega),aKe,aVH m1 UO f1 (λj Ll MP=>?_) hlen]
   . cases v;simp_all
   . have a0c:=j1 (by omega:j < v.cy.length) eJ;have yb:=awp (ts:=ts) Ll (by omega:j < v.cy.length) MP;have:=aFl ((acn MQ _).mem_iff.2 (show _∈LE ts x.b8 v.cy v.Rest from ayZ _ yb));exact NH _ a0c (RD this hlen) (f2 j Ll) (aMR (by omega) _ (aFn Ll (by omega) MP))
 . obtain⟨a1,a2,a3,a4,a5,MG⟩:=rz;obtain⟨m1,m2⟩:=H.A _ C3 (.inr (by omega));rw[aJ (by omega),aJ (by omega),aJ (by omega),aJ (by omega),aJ (by omega),ao (by omega)];have arW:=aMW (by omega);unfold aoO;cases q0:zJ x.b8 v.a8 with
   | none=>
    rw[q0]at MG arW;obtain⟨b1,_,b2,k9,d,Oo⟩:=MG;unfold qj at b2;obtain⟨k,Uj⟩:∃k:Nat,v.a8=(k:Int):=⟨v.a8.toNat,by omega⟩
    have bo:n' ts t v=JU k++d:=by
     rw[arW,Oo,Uj,hJ];rfl
    rw[bo,aJw (by omega)];simp only;rw[<-Uj,q0];simp only;rw[ao b1];cases v;simp_all
   | some ab0=>
    rw[q0]at MG arW;obtain⟨b1,b2,k9⟩:=MG;obtain⟨d3,d4⟩:=ae' q0;have Lx:qj v.a8:=by rw[<-d4];exact m1.2 ab0 d3
    unfold qj at Lx;obtain⟨k,Uj⟩:∃k:Nat,v.a8=(k:Int):=⟨v.a8.toNat,by omega⟩
    match QM:v.cy,b2 with
    | [a],_=>
     have ch:a∈v.cy:=by rw[QM];exact .head _
     have bo:n' ts t v=JU k++n' ts ab0.e2 a:=by
      rw[arW,Uj,hJ];show JU k++(ob ts ab0.e2 v.cy).headD []=_;rw[QM,ob];rfl
     have E8:(n' ts ab0.e2 a).length<=90000:=by
      rw[bo,vx]at QQ;exact RD (Nat.le_add_left _ _) QQ
     rw[bo,aJw (by omega)];simp only;rw[<-Uj,q0];simp only;rw[NH a ch E8 (Lc.1 k9 a ch) (aMS (by omega) ab0 q0 _ (akT ch))];cases v;simp_all
 . obtain⟨a1,a2,a3,a4,a5,MG,UO,Sl,a9⟩:=rz;have bo:=aMX (by omega);have aiO:((ob ts x.ev v.cy).flatMap H').length<=90000:=by rw[<-bo];exact QQ
   rw[aJ (by omega),aJ (by omega),aJ (by omega),aJ (by omega),aJ (by omega),aJ (by omega),ao (by omega),bo];unfold agP;rw[aHF aiO];simp only;rw[ao (by rw[ZJ];exact Sl),aLC λq eg=>⟨RD (apK (ayy eg)) aiO,Lc.1 a9 q eg,atl (by omega) _ (akT eg)⟩];cases v;simp_all
 . obtain⟨a1,a2,a3,a4,a5,MG,UO,Sl,a9,aAG,aAH⟩:=rz;have bo:=aMY (by omega);have aJB:=H.ajZ _ C3 (by omega);have hlen:(ob ts x.Key v.eI).length=(ob ts x.ev v.cy).length:=by rw[ZJ,ZJ];omega
   obtain⟨RO,ach⟩:=aGk hlen;have wl:=aFk _ _ hlen;rw[ZJ,ZJ]at wl;have aiO:((Yl (ob ts x.Key v.eI) (ob ts x.ev v.cy)).flatMap H').length<=90000:=by rw[<-aw7,<-bo];exact QQ
   have a0T:∀{a:List UInt8} {l:List (List UInt8)},a∈LO l->a∈l:=λh=>aqW h
   have a0U:∀{l:List (List UInt8)} {a:List UInt8},a∈Md l->a∈l:=by
    intro l
    induction l using Md.induct with
    | case1 x y l ih=>
     intro a h;rw[Md]at h;rcases LJ.1 h with rfl | h
     . exact .tail _ (.head _)
     . exact .tail _ (.tail _ (ih h))
    | case2 l a6=>
     intro a h;rw[Md]at h
     . cases h
     . exact a6
   have Y6:∀q,q∈v.eI->J0 ts x.Key q<=m:=λq eg=>by
    have Ro:=aMT q eg;have e:J0 ts x.Key q=1:=by
     obtain⟨⟨_,_,h3,_⟩,anO⟩:=(WN _ _ _).1 (Lc.1 a9 q eg);refine aw6 ?_ ?_
     . rcases anO with k | k | k | k | k | k | k | k | k
       . exact k.2.2.2.2.1
       . exact k.2.2.2.2.1
       . exact k.2.2.2.2.1
       . exact k.2.2.2.2.1
       all_goals (exfalso;omega)
     . rcases anO with k | k | k | k | k | k | k | k | k
       . exact k.2.2.2.2.2.1
       . exact k.2.2.2.2.2.1
       . exact k.2.2.2.2.2.1
       . exact k.2.2.2.2.2.1
       all_goals (exfalso;omega)
    rw[e];exact Ro
   rw[aJ (by omega),aJ (by omega),aJ (by omega),aJ (by omega),aJ (by omega),aJ (by omega),aJ (by omega),ao (by omega),bo,aw7];unfold aoP;rw[aHF aiO];simp only;rw[ao ⟨by rw[wl];omega,by rw[wl];omega⟩,RO,ach,a11 λq eg=>⟨RD (apK (a0T (by rw[RO];exact ayy eg))) aiO,Lc.1 a9 q eg,Y6 q eg⟩];simp only
   rw[ao (ah4.2 aAH),aLC λq eg=>⟨RD (apK (a0U (by rw[ach];exact ayy eg))) aiO,Lc.1 aAG q eg,atl (by omega) _ (akT eg)⟩];cases v;simp_all
 . obtain⟨a1,a2,a3,a4,a5,MG,UO,Sl,a9⟩:=rz;have bo:=aMZ (by omega);rw[aJ (by omega),aJ (by omega),aJ (by omega),aJ (by omega),ao (by omega)]
   match QM:v.cy,Sl with
   | [],_=>
    rw[QM,ob]at bo;rw[bo];cases v;simp_all [aeh]
   | [a],_=>
    have ch:a∈v.cy:=by rw[QM];exact .head _
    rw[QM,ob]at bo;have anl:n' ts t v=1::n' ts x.ev a:=bo;have E8:(n' ts x.ev a).length<=90000:=by
     rw[anl,Pg]at QQ;omega
    rw[anl];show((if(1:UInt8)=1 then(te ts m x.ev (n' ts x.ev a)).map _ else none):Option ak)=_;rw[ao rfl,NH a ch E8 (Lc.1 a9 a ch) (atl (by omega) _ (akT ch))];cases v;simp_all
end
def YH(s:hI):Prop:=s=⟨[]⟩\/Q3 s.Types
theorem aHh :YI []/\UM []:=by
 have QM:YI []:=aYs (λt h=>by cases h) (by simp) (λi h=>by simp at h);exact⟨QM,QM.aea λt h=>by cases h⟩
theorem aI' :RQ []:=⟨aHh.2,aHh.1,λx h=>by cases h⟩
theorem awr(t:Int)(m:List UInt8):V0 [] t m=(TO,4):=by
 unfold V0;rw[ao];simp;omega
theorem aWw{s:hI}(h:YH s)(t:Int)(m:List UInt8):ahi (s,t,m)=some (LP s.Types t m):=by
 rcases h with rfl | h
 . rw[ahi,aFT aI'];unfold LP;rw[awr];rfl
 . exact aSO h t m
theorem aWx{s:hI}(h:YH s)(t:Int)(m:List UInt8):ahA (s,t,m)=some (LP s.Types t m):=by
 rcases h with rfl | h
 . rw[ahA,aFU aI'];unfold LP;rw[awr];rfl
 . exact aSP h t m
theorem aVI{ts:List f7}(H:Q3 ts){t:Int}{m:List UInt8}(h0:(LP ts t m).2=0):LP ts t (LP ts t m).1=((LP ts t m).1,0):=by
 rcases awD ts t m with⟨e,he,a7⟩ | ⟨v,a7,ht,hm,cv⟩
 . unfold LP at h0;rw[a7,aJ he]at h0;exact absurd h0 he
 . obtain⟨f1,f2,f3⟩:=awq H ht hm cv;have eh:LP ts t m=V2 ts t v:=by
    unfold LP;rw[a7,ao rfl]
   by_cases b7:4096 < (n' ts t v).length\/200 < J0 ts t v
   . have hj:V2 ts t v=([],3):=by unfold V2;rw[ao b7]
     rw[eh,hj]at h0;cases h0
   . have hj:V2 ts t v=(n' ts t v,0):=by unfold V2;rw[aJ b7]
     rw[eh,hj];have M5:¬4096 < (n' ts t v).length:=λh=>b7 (.inl h)
     have l2:¬200 < J0 ts t v:=λh=>b7 (.inr h)
     have hs:=aU9 (H.V.aea H.T) f2 (t:=t) (m:=200) (RD (Nat.le_of_not_lt M5) (by decide)) f1 (Nat.le_of_not_lt l2);have vJ:V0 ts t (n' ts t v)=(v,0):=by
      unfold V0;rw[aJ (by omega),aJ M5,hs]
     show LP ts t (n' ts t v)=_;unfold LP;rw[vJ,ao rfl,hj]
theorem aVJ{s:hI}(h:YH s){t:Int}{m:List UInt8}(h0:(LP s.Types t m).2=0):LP s.Types t (LP s.Types t m).1=((LP s.Types t m).1,0):=by
 rcases h with rfl | h
 . exfalso
   unfold LP at h0;rw[awr]at h0;cases h0
 . exact aVI h h0
theorem aCA{x:Int}(h:x=0):¬(!(decide (x=0)))=true:=by simp[h]
theorem aCv{x:Int}(h:¬x=0):(!(decide (x=0)))=true:=by simp[h]
noncomputable def Om:List JM->Nat->List UInt8->List UInt8×Nat×Int
 | [],i,m=>(m,i,0)
 | r::l,i,m=>if(LP r.PG.Types r.e2 m).2=0 then Om l (i+1) (LP r.PG.Types r.e2 m).1 else([],i,(LP r.PG.Types r.e2 m).2)
theorem awF{r:JM}{l:List JM}{i:Nat}{m:List UInt8}(h:(LP r.PG.Types r.e2 m).2=0):Om (r::l) i m=Om l (i+1) (LP r.PG.Types r.e2 m).1:=by rw[Om,ao h]
theorem aGO{r:JM}{l:List JM}{i:Nat}{m:List UInt8}(h:¬(LP r.PG.Types r.e2 m).2=0):Om (r::l) i m=([],i,(LP r.PG.Types r.e2 m).2):=by rw[Om,aJ h]
def agV(l:List JM)(r:List UInt8×Nat×Int):(List UInt8×Int×Int) ⊕ (List JM×List UInt8):=if r.2.2=0 then .inr (l,r.1)else .inl (r.1,(r.2.1:Int),r.2.2)
theorem aDH{L:List JM}(vK:L.length<=1000)(h:∀r,r∈L->YH r.PG):∀(k i:Nat) (m:List UInt8),i+k=L.length->acL (L,m,L,(L.length:Int),(i:Int))=some (agV L (Om (L.drop i) i m))
 | 0,i,m,ay=>by
  rw[acL,aJ (by simp;omega),MR (by omega:L.length<=i)];rfl
 | k+1,i,m,ay=>by
  have ec:i < L.length:=by omega
  rw[acL,ao (by simp;omega),ao (gA ec),hJ];simp only[g',cm];rw[aWw (h _ (j1 ec XQ)),NP ec XQ,Om];simp only[cm];by_cases h0:(LP (L.getD i XQ).PG.Types (L.getD i XQ).e2 m).2=0
  . rw[aJ (aCA h0),ao h0,j2 (by omega)];exact aDH vK h k (i+1) _ (by omega)
  . rw[ao (aCv h0),aJ h0];unfold agV;rw[aJ h0]
theorem aDI{L:List JM}(vK:L.length<=1000)(h:∀r,r∈L->YH r.PG):∀(k i:Nat) (m:List UInt8),i+k=L.length->acB (L,m,(i:Int))=some (agV L (Om (L.drop i) i m))
 | 0,i,m,ay=>by
  rw[acB,aJ (by simp;omega),MR (by omega:L.length<=i)];rfl
 | k+1,i,m,ay=>by
  have ec:i < L.length:=by omega
  rw[acB,ao (by simp;omega),ao (gA ec),ao (gA ec),hJ,aWx (h _ (j1 ec XQ)),NP ec XQ,Om];simp only[g',cm];by_cases h0:(LP (L.getD i XQ).PG.Types (L.getD i XQ).e2 m).2=0
  . rw[aJ (aCA h0),ao h0,j2 (by omega)];exact aDI vK h k (i+1) _ (by omega)
  . rw[ao (aCv h0),aJ h0];unfold agV;rw[aJ h0]
theorem atV :∀(l:List JM) (i:Nat) (m:List UInt8),(Om l i m).2.2=0->(Om l i m).2.1=i+l.length
 | [],i,m,_=>rfl
 | r::l,i,m,h=>by
  rw[Om]at h ⊢;split at h
  . rename_i h0;rw[ao h0,atV l _ _ h,Pg];omega
  . rename_i h0;exact absurd h h0
noncomputable def amg (r:List UInt8×Nat×Int):List UInt8×Int×Int:=(r.1,(r.2.1:Int),r.2.2)
theorem aGP{L:List JM}(vK:L.length<=1000)(h:∀r,r∈L->YH r.PG)(m:List UInt8):akJ (L,m)=some (amg (Om L 0 m)):=by
 have h0:=aDH vK h L.length 0 m (by omega);have Jj:acL (L,m,L,(L.length:Int),0)=_:=h0;rw[akJ,Jj,Ph];unfold agV amg;by_cases e:(Om L 0 m).2.2=0
 . have:=atV L 0 m e;rw[ao e];simp only[g',cm];rw[this,e];simp
 . rw[aJ e];rfl
theorem aVK{L:List JM}(vK:L.length<=1000)(h:∀r,r∈L->YH r.PG)(m:List UInt8):ap6 (L,m)=some (amg (Om L 0 m)):=by
 have h0:=aDI vK h L.length 0 m (by omega);have Jj:acB (L,m,0)=_:=h0;rw[ap6,Jj,Ph];unfold agV amg;by_cases e:(Om L 0 m).2.2=0
 . have:=atV L 0 m e;rw[ao e];simp only[g',cm];rw[this,e];simp
 . rw[aJ e];rfl
def VZ :List JM->List JM
 | []=>[]
 | r::l=>r::r::VZ l
theorem av8 :∀l:List JM,(VZ l).length=2*l.length
 | []=>rfl
 | r::l=>by rw[VZ,Pg,Pg,Pg,av8 l];omega
theorem aHi :∀{l:List JM} {r:JM},r∈VZ l->r∈l
 | [],r,h=>by cases h
 | a::l,r,h=>by
  rw[VZ]at h;rcases LJ.1 h with rfl | h
  . exact .head _
  . rcases LJ.1 h with rfl | h
    . exact .head _
    . exact .tail _ (aHi h)
theorem aHG :∀(l:List JM) (r:JM),VZ (l++[r])=VZ l++[r,r]
 | [],r=>rfl
 | a::l,r=>by rw[ab7,VZ,aHG l r,VZ];rfl
theorem aE3 :∀(l:List JM) (i:Nat) (m:List UInt8),(∀r,r∈l->YH r.PG)->Om (VZ l) (2*i) m=((Om l i m).1,2*(Om l i m).2.1,(Om l i m).2.2)
 | [],i,m,_=>rfl
 | r::l,i,m,h=>by
  have ih:=λm=>aE3 l (i+1) m λq eg=>h q (.tail _ eg)
  rw[VZ];by_cases h0:(LP r.PG.Types r.e2 m).2=0
  . have ch:=aVJ (h r (.head _)) h0;rw[awF h0,awF h0,awF (by rw[ch]),ch,show 2*i+1+1=2*(i+1) by omega,ih]
  . rw[aGO h0,aGO h0]
theorem aHH{t:Int}{m:List UInt8}{x:aaM}(ad:VK x.D.S.Jv)(dy:x.RP.length <=4)(b7:∀l,l∈x.RP -> l.length <=reachBytes /\ ∀c,c∈l -> ajV c):∀(k i:Nat) (L:List JM),i+k=x.RP.length -> L.length <=i -> (∀r,r∈L -> YH r.PG) ->
 ∃L',acZ (t,m,x.RP,(x.RP.length:Int),(i:Int),x,L,VZ L)=some (m,L',VZ L')/\L'.length<=x.RP.length/\∀r,r∈L'->YH r.PG
 | 0,i,L,ay,a6,vK=>⟨L,by rw[acZ,aJ (by simp;omega)],by omega,vK⟩
 | k+1,i,L,ay,a6,vK=>by
  have ec:i < x.RP.length:=by omega
  obtain⟨hN,hR⟩:=b7 _ (j1 ec []);obtain⟨zv,d1,_,d2⟩:=aTn (d:=x.D.S) ad hN hR;have Nl:∃s ok,aaP zv=some (s,ok)/\YH s:=by
   rcases aK4 d1.aNt with e | ⟨l,e,H⟩
   . exact⟨_,_,e,.inl rfl⟩
   . exact⟨_,_,e,.inr H⟩
  obtain⟨s,ok,KY,KZ⟩:=Nl;have a7:=av8 L;rw[acZ,ao (by simp;omega),ao (gA ec),hJ,d2];simp only[g',cm];rw[KY];simp only[cm];rw[ao (CJ (by omega) (by simp;omega)),ao (CJ (by omega) (by simp;omega)),j2 (by omega),<-aHG];exact aHH ad dy b7 k (i+1) _ (by omega) (by simp;omega) λr ar=>by
   rcases Nw.1 ar with ar | ar
   . exact vK r ar
   . rw[aje.1 ar];exact KZ
theorem aVL{x:aaM}(a7:ath x.D)(ad:VK x.D.S.Jv)(b7:∀l,l∈x.RP->l.length<=reachBytes/\∀c,c∈l->ajV c):alj x=some true:=by
 rw[alj];rcases a1l a7 with⟨s,t,v,w,e⟩ | ⟨ts,t,v,w,e,H,ht,_,⟨RO,ach,a2A⟩⟩
 . rw[e];simp only[g',cm,aDm];rfl
 . rw[e];simp only[g',cm,aDm,N2,OB,ak.h7];by_cases ea:4 < (x.RP.length:Int)
   . rw[ao (ajk ea)]
   . rw[aJ (mt aah ea),aFS (s:=⟨ts⟩) (H.V.aea H.T) ach (by omega) RO (aFQ H.T H.V ach RO)];simp only[cm];by_cases h0:(V2 ts t w).2=0
     . rw[aJ (by simp[h0])];generalize (V2 ts t w).1=m;obtain⟨L,M5,l2,agn⟩:=aHH (t:=t) (m:=m) ad (by omega) b7 x.RP.length 0 [] (by omega) (by simp) (λr h=>by cases h);have ar':acZ (t,m,x.RP,(x.RP.length:Int),0,x,[],[])=_:=M5;rw[ar'];simp only[cm];have vK:L.length<=1000:=by omega
       rw[aGP vK agn];simp only[cm];rw[aVK vK agn];simp only[cm];have vk:=aGP (L:=VZ L) (by rw[av8];omega) (λr ar=>agn r (aHi ar)) m;have ah:=aE3 L 0 m agn;rw[Nat.mul_zero]at ah;rw[vk,ah];have aJL:(Om L 0 m).2.1<=4:=by
        have:∀(l:List JM) (i:Nat) (m:List UInt8),(Om l i m).2.1<=i+l.length:=by
         intro l
         induction l with
         | nil=>intro i m;exact JK _
         | cons r l ih=>
          intro i m;rw[Om];split
          . have:=ih (i+1) (LP r.PG.Types r.e2 m).1;rw[Pg];omega
          . show i<=_;omega
        have:=this L 0 m;omega
       generalize Om L 0 m=r at*;have em:Nv .i64 2 (r.2.1:Int)=((2*r.2.1:Nat):Int):=anU (by omega);unfold amg;simp only[M6,N2,OB,q2,uJ,cm,em,RG];cases decide (r.2.2=0) <;> rfl
     . rw[ao (by simp[h0])]
theorem a04(h:ey u0.D [.nm aty])(hk:Ok u0 [.nm aty] h):alj h=some true:=by
 have c7:∀d,d∈u0.afU aty h->WF u0 d:=a1p hk;have hN:=c7 ⟨.slice (.nm ag'),h.D.S.Jv⟩ (.head _);have xi:=c7 ⟨.slice (.slice (.nm apm)),h.RP⟩ (.tail _ (.tail _ (.tail _ (.head _))));obtain⟨_,_,e⟩:=aff (t:= .slice (.nm apm)) xi;refine aVL (aVy λd a7=>c7 d ?_) (aWv hN) λl a6=>?_
 . cases a7 with
   | head=>exact .head _
   | tail _ a7=>cases a7 with
    | head=>exact .tail _ (.head _)
    | tail _ a7=>cases a7 with
     | head=>exact .tail _ (.tail _ (.head _))
     | tail _ a7=>cases a7
 . obtain⟨a,_,hj⟩:=aff (t:= .nm apm) (e l a6 ⟨.slice (.nm apm),l⟩ (.head _));refine⟨a,λx ad=>?_⟩;have eg:=hj x ad;exact⟨as2 (eg ⟨.int .u8,x.Kind⟩ (.head _)),as2 (eg ⟨.int .u8,x.Node⟩ (.tail _ (.head _))),as2 (eg ⟨.int .u8,x.A⟩ (.tail _ (.tail _ (.head _)))),as2 (eg ⟨.int .u8,x.B⟩ (.tail _ (.tail _ (.tail _ (.head _)))))⟩
end
end Go.Proofs.YtijpinendaoleaaGreat
