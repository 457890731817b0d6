/- The functions of the program as functions of Lean, that its code does what they say, and what they answer; part E. -/
import Derived.Test.YtklfhpkljddjbaaGreatDoorTpD

namespace Go.Proofs.YtklfhpkljddjbaaGreatDoor
set_option linter.all false
section
open Go Go.Proofs.YtklfhpkljddjbaaGreatDoor.Shv Go.Sort
set_option maxRecDepth 100000
theorem ZW{α β:Type}{f:α->Option β}(d1:α)(d2:β):∀{l:List α} {m:List β},dQ f l=some m->∀i,i<l.length->f (l.getD i d1)=some (m.getD i d2)
 |[],m,h,i,ak=>by grind
 |a::l,m,h,i,ak=>by
  rw[dQ]at h;split at h
  . rename_i b j5 h1 aa;cases h;cases i with
    |zero=>grind
    |succ i=>exact ZW d1 d2 aa i (by grind)
  grind
theorem afG{α:Type}:∀{l:List α},l.length%2=0->(ig l).length=l.length/2/\(iG l).length=l.length/2
 |[],_=>⟨by simp[ig],by simp[iG]⟩
 |[a],h=>by grind
 |a::b::l,h=>by
  obtain⟨h1,aa⟩:=afG (l:=l) (by grind);show(ig l).length+1=(l.length+1+1)/2/\(iG l).length+1=(l.length+1+1)/2;omega
theorem Su{α:Type}:∀{l:List α} {y:α},y∈iG l->y∈l
 |[],y,h=>by cases h
 |[_],y,h=>by cases h
 |a::b::l,y,h=>by
  rcases fz.1 h with rfl|h
  . simp
  . exact .tail _ (.tail _ (Su h))
def xj(l:List (List UInt8)):Nat:=(l.map λq=>q.length+1).sum
theorem aai(q:List UInt8)(l:List (List UInt8)):xj (q::l)=q.length+1+xj l:=by rfl
theorem aaj:∀(l:List (List UInt8)),xj l<=(l.flatMap eD).length
 |[]=>by simp[xj]
 |q::l=>by
  have:=aaj l;have:=wy q.length;have e:(eD q).length=(fC q.length).length+q.length:=by grind[eD]
  rw[aai,me,fp];omega
theorem ac7:∀(l:List (List UInt8)),xj (ig l)+xj (iG l)<=xj l
 |[]=>by simp[ig,iG,xj]
 |[a]=>by simp[ig,iG,xj]
 |a::b::l=>by
  have:=ac7 l
  grind[ig,iG,aai]
theorem S'{C:Nat}{f:List UInt8->Option ad}:∀{l:List (List UInt8)} {m:List ad},dQ f l=some m->(∀q,q∈l->∀v,f q=some v->wt v<=C*(q.length+1))->eH m<=C*xj l
 |[],m,h,_=>by simp_all[dQ,lZ]
 |q::l,m,h,k=>by
  rw[dQ]at h;split at h
  . rename_i b j5 h1 aa;have a:=k q (.head _) b h1;have c:=S' aa (λq aE=>k q (.tail _ aE))
    grind[oi,aai,Nat.mul_add]
  grind
def Jt(l:List eB):Nat:=(l.map λf=>f.Data.length+1).sum
theorem aeg(f:eB)(l:List eB):Jt (f::l)=f.Data.length+1+Jt l:=by rfl
theorem aeh:∀(l:List eB),Jt l<=(l.flatMap wB).length
 |[]=>by simp[Jt]
 |f::l=>by
  have:=aeh l;have:=wy f.Data.length;have e:(wB f).length=(fC (2*f.aq.toNat+(if f.dq=true then 1 else 0))).length+((fC f.Data.length).length+f.Data.length):=by grind[wB,hJ,eD]
  rw[aeg,me,fp];omega
def hy(C d:Nat)(l:List eB)(m:bj):Nat:=match l.find? (λf=>decide (f.aq=m.aq))with
 |some f=>C*(f.Data.length+1)
 |none=>d
def aN(C d:Nat)(l:List eB)(ms:List bj):Nat:=(ms.map (hy C d l)).sum
def zn(id:Int)(A:Nat)(ms:List bj):Nat:=(ms.map λm=>if m.aq=id then A else 0).sum
theorem Zy{id:Int}{A:Nat}:∀{ms:List bj},(∀m,m∈ms->m.aq≠id)->zn id A ms=0
 |[],_=>rfl
 |m::ms,h=>by
  have:=Zy (A:=A) (λm hm=>h m (.tail _ hm))
  grind[zn]
theorem afI{id:Int}{A:Nat}:∀{ms:List bj},ms.Pairwise (λa b=>a.aq<b.aq)->zn id A ms<=A
 |[],_=>nj _
 |m::ms,h=>by
  rw[nh]at h;by_cases e:m.aq=id
  . have:zn id A ms=0:=Zy λx I=>by grind
    grind[zn]
  . have:=afI (id:=id) (A:=A) h.2
    grind[zn]
theorem avK(C d:Nat)(f:eB)(l:List eB)(m:bj):hy C d (f::l) m<=(if m.aq=f.aq then C*(f.Data.length+1)else 0)+hy C d l m:=by
 grind[hy]
theorem aei(C d:Nat)(f:eB)(l:List eB):∀(ms:List bj),aN C d (f::l) ms<=zn f.aq (C*(f.Data.length+1)) ms+aN C d l ms
 |[]=>by simp[aN]
 |m::ms=>by
  have a:=aei C d f l ms
  grind[avK,aN,zn]
theorem afJ(C d:Nat):∀(ms:List bj),aN C d [] ms=d*ms.length
 |[]=>by rfl
 |m::ms=>by
  have:=afJ C d ms;unfold aN at*;simp;rw[Nat.mul_succ];have:hy C d [] m=d:=rfl;omega
theorem afK{C d:Nat}(dj:1<=C){x:au}(fr:lr x.al):∀(l:List eB),aN C d l x.al+((iH x l).map λr=>r.Data.length+1).sum<=d*x.al.length+C*Jt l
 |[]=>by grind[afJ,iH]
 |f::l=>by
  have ih:=afK (d:=d) dj fr l;have a:=aei C d f l x.al;rw[aeg,Nat.mul_add];cases bF:dA x.al f.aq with
  |some m=>
   have ai:iH x (f::l)=iH x l:=by grind[iH,List.filter_cons_of_neg,bF]
   rw[ai];have:=afI (id:=f.aq) (A:=C*(f.Data.length+1)) fr.1;omega
  |none=>
   have ai:iH x (f::l)=⟨f.aq,f.Data⟩::iH x l:=by grind[iH,List.filter_cons_of_pos,bF]
   have:zn f.aq (C*(f.Data.length+1)) x.al=0:=Zy (Dk bF);have:f.Data.length+1<=C*(f.Data.length+1):=Nat.le_mul_of_pos_left _ dj
   grind
theorem aej{C d:Nat}{f:Int->List UInt8->Option ad}{l:List eB}(av:∀(m:bj),m.cV=true->True):∀{ms:List bj} {is:List ad},(∀m,m∈ms->(m.cV=true->wt m.cB<=d)/\∀g,g∈l->∀v,f m.aQ g.Data=some v->wt v<=C*(g.Data.length+1))->dQ (jx f l) ms=some is->eH is<=aN C d l ms
 |[],is,_,h=>by simp_all[dQ,lZ]
 |m::ms,is,k,h=>by
  rw[dQ]at h;split at h
  . rename_i b j5 h1 aa;cases h;have ih:=aej av (λm hm=>k m (.tail _ hm)) aa;have ag:wt b<=hy C d l m:=by
     unfold jx at h1;unfold hy;cases aJ:l.find? _ with
     |some g=>
      rw[aJ]at h1;exact(k m (.head _)).2 g (QP aJ) b h1
     |none=>grind
    unfold aN at*;rw[oi,p4,L4];omega
  grind
theorem ZB{x:au}{l:List eB}{r:dD}(h:r∈iH x l):∃f,f∈l/\dA x.al f.aq=none/\r=⟨f.aq,f.Data⟩:=by
 obtain⟨f,aJ,rfl⟩:=gO.1 h;obtain⟨h1,aa⟩:=BF.1 aJ;refine⟨f,h1,?_,rfl⟩;simp_all
theorem ac8{x:au}{l:List eB}(aC:l.Pairwise (λa b=>a.aq<b.aq))(ak:∀f,f∈l->dz f.aq):sn x.al (iH x l):=by
 refine⟨?_,λr ai=>?_⟩
 . grind[iH]
 grind[ZB]
section
variable {ts:List au}
def Ca(ts:List au)(t:Int)(p:List UInt8)(v:ad):Prop:=dy ts false t v/\c6 v/\wt v<=300*(p.length+1)
theorem uW {k:Int}{b:Bool}{i:Int}{s:List UInt8}{id:Int}{ks is:List ad}{r:List dD}(h0:0<=k/\k<=9)(h1:di i)(aa:0<=id/\id<=1000)(hs:s.length<=90000)(hk:ks.length<=90000)(ak:is.length<=90000)(ai:r.length<=90000)
 (k1:∀x,x∈ks->c6 x)(k2:∀x,x∈is->c6 x)(k3:∀x,x∈r->x.Data.length<=90000/\dz x.aq):c6 ⟨k,b,i,s,id,ks,is,r⟩:=by
 refine .mk _ (by grind[reachBytes]) (by grind[reachBytes]) (by grind[reachBytes]) (by grind[reachBytes]) k1 k2 (λx I=>by grind[reachBytes]) ?_ h1 ?_ (λx I=>by grind[dz])
 all_goals grind
theorem avf(H:ef ts){n:Nat}(ih:∀(t:Int) (p:List UInt8) (v:ad),p.length<=90000->0<=t->t<ts.length->fh ts n t p=some v->Ca ts t p v){t:Int}{p:List UInt8}{v:ad}(ar:p.length<=90000)(t0:0<=t)(t1:t<ts.length)(h:fh ts (n+1) t p=some v):Ca ts t p v:=by
 rw[Ld]at h;have aM:t.toNat<ts.length:=by omega
 have I:=bZ aM a8;have dj:=H.lC;unfold Ca;rw[gY];generalize ts.getD t.toNat a8=x at*;unfold H9 at h;have oE:∀(k i id:Int) (b:Bool) (s:List UInt8),wt ⟨k,b,i,s,id,[],[],[]⟩=10+s.length:=λk i id b s=>by rfl
 by_cases k1:x.Kind=1
 . have:∃b,v=⟨1,b,0,[],0,[],[],[]⟩:=by
    grind[H4]
   obtain⟨b,rfl⟩:=this;exact⟨⟨⟨t0,t1,k1.symm,λh=>by simp⟩,.inl ⟨rfl,rfl,rfl,rfl,rfl,rfl,rfl⟩⟩,uW (by simp) tB (by simp) (by simp) (by simp) (by simp) (by simp) (by simp) (by simp) (by simp),by grind⟩
 rw[ah k1]at h;by_cases k2:x.Kind=2
 . rw[af k2]at h;unfold H5 at h;cases hm:mL p with
   |none=>grind
   |some m=>
    rw[hm]at h;dsimp only at h;split at h
    . rename_i ai;cases h;exact⟨⟨⟨t0,t1,k2.symm,λh=>by rfl⟩,.inr (.inl ⟨rfl,rfl,rfl,rfl,rfl,rfl,rfl,ai.1,ai.2⟩)⟩,uW (by simp) (aec (aaZ hm)) (by simp) (by simp) (by simp) (by simp) (by simp) (by simp) (by simp) (by simp),by grind⟩
    grind
 rw[ah k2]at h;by_cases k3:x.Kind=3
 . rw[af k3]at h;unfold H6 at h;split at h
   . rename_i ai;cases h;exact⟨⟨⟨t0,t1,k3.symm,λh=>by rfl⟩,.inr (.inr (.inl ⟨rfl,rfl,rfl,rfl,rfl,rfl,rfl,ai⟩))⟩,uW (by simp) tB (by simp) (by omega) (by simp) (by simp) (by simp) (by simp) (by simp) (by simp),by grind⟩
   grind
 rw[ah k3]at h;by_cases k4:x.Kind=4
 . rw[af k4]at h;unfold H7 at h;cases hm:mL p with
   |none=>grind
   |some m=>
    rw[hm]at h;dsimp only at h;split at h
    . rename_i ai;cases h;refine⟨⟨⟨t0,t1,k4.symm,λh=>by rfl⟩,.inr (.inr (.inr (.inl ⟨rfl,rfl,rfl,rfl,rfl,rfl,rfl,?_⟩)))⟩,uW (by simp) tB (by omega) (by simp) (by simp) (by simp) (by simp) (by simp) (by simp) (by simp),by grind⟩
      grind[dz]
    grind
 rw[ah k4]at h;by_cases k9:x.Kind=9
 . rw[af k9]at h;obtain⟨aR,bw⟩:=dj.elem I (by omega);cases p with
   |nil=>
    cases h;simp_all[dS,uW,tB]
   |cons c q=>
    rw[H8]at h;split at h
    . obtain⟨w,gb,rfl⟩:=rG.1 h;obtain⟨f1,f2,f3⟩:=ih _ _ _ (by grind) aR bw gb;refine⟨⟨⟨t0,t1,k9.symm,λh=>by rfl⟩,.inr (.inr (.inr (.inr (.inr (.inr (.inr (.inr ⟨rfl,rfl,rfl,rfl,rfl,rfl,rfl,by simp,dS.2 ?_⟩)))))))⟩,uW (by simp) tB (by simp) (by simp) (by simp) (by simp) (by simp) (by simp) ?_ (by simp),?_⟩
      . grind
      . grind
      grind[ln,oi,lZ,List.length_cons]
    grind
 rw[ah k9]at h;by_cases k6:x.Kind=6
 . rw[af k6]at h;unfold M9 at h;cases fr:rS p with
   |none=>grind
   |some a=>
    obtain⟨id,q⟩:=a;rw[fr]at h;dsimp only at h;have U0:=afF fr;have mA:=wy id.toNat;have aAv:q.length+1<=p.length:=by rw[U0,fp];omega
    obtain⟨o,iE,iF,hi⟩:=afD p;have hid:dz id:=by grind
    unfold dz at hid;cases bF:dA x.al id with
    |some m=>
     rw[bF]at h;obtain⟨w,gb,rfl⟩:=rG.1 h;obtain⟨m1,m2⟩:=re bF;obtain⟨f1,f2,f3⟩:=ih _ _ _ (by omega) (dj.mem I m1).1 (dj.mem I m1).2 gb
     refine⟨⟨⟨t0,t1,k6.symm,λh=>by cases h⟩,.inr (.inr (.inr (.inr (.inr (.inl ⟨rfl,rfl,rfl,rfl,rfl,?_⟩)))))⟩,uW (by omega) tB (by omega) (by simp) (by simp) (by simp) (by simp) (by simp) ?_ (by simp),?_⟩
     . show(match dA x.al id with
        |some m=>_
        |none=>_)
       rw[bF];refine⟨rfl,rfl,dS.2 ?_⟩
       grind
     . grind
     . rw[ln];show 10+0+0+eH []+eH [w]<=_;rw[oi,lZ];omega
    |none=>
     rw[bF]at h;dsimp only at h;split at h
     . rename_i kT;cases h;refine⟨⟨⟨t0,t1,k6.symm,λh=>by cases h⟩,.inr (.inr (.inr (.inr (.inr (.inl ⟨rfl,rfl,rfl,rfl,rfl,?_⟩)))))⟩,uW (by omega) tB (by omega) (by simp) (by simp) (by simp) (by simp) (by simp) (by simp) ?_,?_⟩
       . grind
       . grind
       . rw[ln];show 10+0+((q.length+1)+0)+eH []+eH []<=_;rw[lZ];omega
     . cases h
 rw[ah k6]at h;by_cases k7:x.Kind=7
 . rw[af k7]at h;unfold Ev at h;obtain⟨aR,bw⟩:=dj.elem I (by omega);cases dP:nY p with
   |none=>rw[dP]at h;cases h
   |some l=>
    rw[dP]at h;dsimp only at h;obtain⟨o,iE,iF,hi⟩:=GM ar;have aj:(∀q,q∈l->q.length<=p.length)/\l.length<=p.length:=by grind
    have hw:=aaj l;rw[S9 ar dP]at hw;split at h
    . rename_i fN;obtain⟨m,m1,rfl⟩:=rG.1 h;have hlen:=Dq m1;have dx:∀y,y∈m->∃q,q∈l/\Ca ts x.a6 q y:=λy ao=>by
       obtain⟨q,c3,dE⟩:=A8 m1 y ao
       grind
      have u9:=S' (C:=300) m1 (λq aE v aF=>(ih _ _ _ (by have:=aj.1 q aE;omega) aR bw aF).2.2);refine⟨⟨⟨t0,t1,k7.symm,λh=>by cases h⟩,.inr (.inr (.inr (.inr (.inr (.inr (.inl ⟨rfl,rfl,rfl,rfl,rfl,rfl,rfl,?_,dS.2 ?_⟩))))))⟩,uW (by omega) tB (by omega) (by simp) (by simp) (by omega) (by simp) (by simp) ?_ (by simp),?_⟩
      . grind
      . intro y ao;obtain⟨q,_,dE⟩:=dx y ao;exact dE.1
      . intro y ao;obtain⟨q,_,dE⟩:=dx y ao;exact dE.2.1
      . rw[ln];show 10+0+0+eH []+eH m<=_;rw[lZ];omega
    . cases h
 rw[ah k7]at h;by_cases k8:x.Kind=8
 . rw[af k8]at h;unfold M' at h;obtain⟨aR,bw⟩:=dj.elem I (by omega);obtain⟨d1,d2⟩:=dj.key I k8;cases dP:nY p with
   |none=>rw[dP]at h;cases h
   |some l=>
    rw[dP]at h;dsimp only at h;obtain⟨o,iE,iF,hi⟩:=GM ar;have aj:(∀q,q∈l->q.length<=p.length)/\l.length<=p.length:=by grind
    have hw:=aaj l;rw[S9 ar dP]at hw;have aFb:=ac7 l;split at h
    . rename_i fN;cases hs:dQ (fh ts n x.Key) (ig l)with
      |none=>rw[hs]at h;cases h
      |some ks=>
       rw[hs]at h;dsimp only at h;split at h
       . rename_i aC;obtain⟨m,m1,rfl⟩:=rG.1 h;have VU:=Dq hs;have hlen:=Dq m1;obtain⟨g1,g2⟩:=afG fN.1;have aic:∀y,y∈ks->∃q,q∈ig l/\Ca ts x.Key q y:=λy ao=>by
          obtain⟨q,c3,dE⟩:=A8 hs y ao;exact⟨q,c3,ih _ _ _ (by have:=aj.1 q (Lc c3);omega) d1 d2 dE⟩
         have dx:∀y,y∈m->∃q,q∈iG l/\Ca ts x.a6 q y:=λy ao=>by
          obtain⟨q,c3,dE⟩:=A8 m1 y ao;exact⟨q,c3,ih _ _ _ (by have:=aj.1 q (Su c3);omega) aR bw dE⟩
         have aFc:=S' (C:=300) hs (λq aE v aF=>(ih _ _ _ (by have:=aj.1 q (Lc aE);omega) d1 d2 aF).2.2);have u9:=S' (C:=300) m1 (λq aE v aF=>(ih _ _ _ (by have:=aj.1 q (Su aE);omega) aR bw aF).2.2)
         refine⟨⟨⟨t0,t1,k8.symm,λh=>by cases h⟩,.inr (.inr (.inr (.inr (.inr (.inr (.inr (.inl ⟨rfl,rfl,rfl,rfl,rfl,rfl,?_,?_,dS.2 ?_,dS.2 ?_,Mf.1 aC⟩)))))))⟩,uW (by omega) tB (by omega) (by simp) (by omega) (by omega) (by simp) ?_ ?_ (by simp),?_⟩
         . grind
         . grind
         . intro y ao;obtain⟨q,_,dE⟩:=aic y ao;exact dE.1
         . intro y ao;obtain⟨q,_,dE⟩:=dx y ao;exact dE.1
         . intro y ao;obtain⟨q,_,dE⟩:=aic y ao;exact dE.2.1
         . intro y ao;obtain⟨q,_,dE⟩:=dx y ao;exact dE.2.1
         . rw[ln]
           grind
       . cases h
    . cases h
 rw[ah k8]at h;have k5:x.Kind=5:=by obtain⟨afZ,af0⟩:=dj.S.K x I;omega
 unfold Eu at h;obtain⟨yJ,U'⟩:=dj.S.A x I (.inl k5);cases dP:po p with
 |none=>rw[dP]at h;cases h
 |some l=>
  rw[dP]at h;dsimp only at h;obtain⟨o,iE,iF,hi⟩:=aac ar;have aj:(∀f,f∈l->f.Data.length<=p.length/\dz f.aq)/\l.Pairwise (λa b=>a.aq<b.aq)/\l.length<=p.length:=by grind
  have hw:=aeh l;rw[aef ar dP]at hw;cases hs:dQ (jx (fh ts n) l) x.al with
  |none=>rw[hs]at h;cases h
  |some is=>
   rw[hs]at h;dsimp only at h;split at h
   . rename_i aC;cases h;have hlen:=Dq hs;have qF:∀i,i<x.al.length->dy ts false (x.al.getD i aX).aQ (is.getD i aY)/\c6 (is.getD i aY):=λi ak=>by
      have hm:=bZ ak aX;have:=ZW aX aY hs i ak;unfold jx at this;cases aJ:l.find? (λf=>decide (f.aq=(x.al.getD i aX).aq))with
      |some g=>
       rw[aJ]at this;have:=ih _ _ _ (by have:=(aj.1 g (QP aJ)).1;omega) (dj.mem I hm).1 (dj.mem I hm).2 this;exact⟨this.1,this.2.1⟩
      |none=>
       rw[aJ]at this;dsimp only at this;split at this
       . rename_i av;have e:=(w3 this)
         rw[<-e];exact⟨BU _ _ (H.D x I _ hm av),(H.T x I).3 _ hm⟩
       . cases this
     have u9:=aej (C:=300) (d:=13) (λ_ _=>trivial) (λm hm=>⟨λav=>H.W x I m hm av,λg az v aF=>(ih _ _ _ (by have:=(aj.1 g az).1;omega) (dj.mem I hm).1 (dj.mem I hm).2 aF).2.2⟩) hs;have aE4:=afK (C:=300) (d:=13) (by omega) yJ l
     refine⟨⟨⟨t0,t1,k5.symm,λh=>by cases h⟩,.inr (.inr (.inr (.inr (.inl ⟨rfl,rfl,rfl,rfl,rfl,rfl,ac8 aj.2.1 (λf aJ=>(aj.1 f aJ).2),mQ.2 ⟨hlen,λi ak=>(qF i ak).1⟩⟩))))⟩,uW (by omega) tB (by omega) (by simp) (by simp) (by omega) ?_ (by simp) ?_ ?_,?_⟩
     . unfold iH
       grind
     . intro y ao;obtain⟨i,ak,rfl⟩:=la ao
       grind
     . intro r ai;obtain⟨f,f1,_,rfl⟩:=ZB ai
       grind
     . rw[ln];show 10+0+((iH x l).map λr=>r.Data.length+1).sum+eH []+eH is<=_;rw[lZ];omega
   . cases h
theorem ac9(H:ef ts):∀(n:Nat) (t:Int) (p:List UInt8) (v:ad),p.length<=90000->0<=t->t<ts.length->fh ts n t p=some v->Ca ts t p v
 |0,t,p,v,_,_,_,h=>by grind[ZA]
 |n+1,t,p,v,ar,t0,t1,h=>avf H (ac9 H n) ar t0 t1 h
end
theorem ac':∀{A B:List Fd},A.Pairwise (λa b=>a.id<b.id)->B.Pairwise (λa b=>a.id<b.id)->(∀x,x∈A↔x∈B)->A=B
 |[],[],_,_,_=>rfl
 |[],b::B,_,_,h=>by have:=(h b).2 (.head _);grind
 |a::A,[],_,_,h=>by have:=(h a).1 (.head _);grind
 |a::A,b::B,fr,eF,h=>by
  rw[nh]at fr eF;have e:a=b:=by grind
  subst e;rw[ac' fr.2 eF.2 _]
  grind
theorem aak{α:Type}{l:List α}{y:α}(d:α)(h:y∈l):∃i,i<l.length/\l.getD i d=y:=by
 obtain⟨i,ak,rfl⟩:=la h;exact⟨i,ak,gM ak d⟩
section
variable {ts:List au}
theorem Zz:∀{ms:List bj} {l:List ad} {j:Nat},j<ms.length->j<l.length->ey (ms.getD j aX) (l.getD j aY)=false->
 (⟨(ms.getD j aX).aq.toNat,(ms.getD j aX).dq,cb ts (ms.getD j aX).aQ (l.getD j aY)⟩:Fd)∈eN ts ms l
 |[],l,j,h,_,_=>by grind
 |m::ms,[],j,_,h,_=>by grind
 |m::ms,v::l,0,_,_,h=>by
  grind[eN]
 |m::ms,v::l,j+1,h1,aa,h=>by
  rw[eN];have:=Zz (j:=j) (by grind) (by grind) h
  grind
theorem ada{r:Nat}:∀{ms:List bj} {l:List ad},(∀j,j<ms.length->j<l.length->ey (ms.getD j aX) (l.getD j aY)=false->gx ts (ms.getD j aX).aQ (l.getD j aY)<=r)->mK ts ms l<=r
 |[],l,_=>by
  grind[mK]
 |m::ms,[],_=>by
  grind[mK]
 |m::ms,v::l,h=>by
  have ih:=ada λj h1 aa aA=>h (j+1) (by grind) (by grind) aA
  rw[mK];split
  . grind
  . have:=h 0 (by simp) (by simp) (by grind)
    grind
theorem Mh{t:Int}{r:Nat}:∀{l:List ad},(∀y,y∈l->gx ts t y<=r)->hN ts t l<=r
 |[],_=>by exact nj _
 |v::l,h=>by
  exact Nat.max_le.2 ⟨h v (.head _),Mh λy ao=>h y (.tail _ ao)⟩
end
abbrev ka:=Int->ad->Int->List Int->ad ⊕ List Int
def qA{α:Type}:α ⊕ List Int->List α ⊕ List Int->List α ⊕ List Int
 |.inr p,_=>.inr p
 |.inl _,.inr p=>.inr p
 |.inl u,.inl l=>.inl (u::l)
def tG{α β:Type}(g:α->β):α ⊕ List Int->β ⊕ List Int
 |.inr p=>.inr p
 |.inl u=>.inl (g u)
def vR{α β:Type}(g:α->β ⊕ List Int):α ⊕ List Int->β ⊕ List Int
 |.inr p=>.inr p
 |.inl u=>g u
def e9(l:List bj)(id:Int):Option Nat:=l.findIdx? λm=>decide (m.aq=id)
def x3(l:List bj)(id:Int):Int×Bool:=match e9 l id with
 |some j=>((j:Int),true)
 |none=>(0,false)
def jC(f:ka)(path:List Int)(t rt:Int):Nat->List ad->List ad ⊕ List Int
 |_,[]=>.inl []
 |i,v::l=>qA (f t v rt (path++[(i:Int)])) (jC f path t rt (i+1) l)
noncomputable def MJ (m:bj)(w:ad)(n:bj)(here:List Int):ad ⊕ List Int->ad ⊕ List Int
 |.inr p=>if ey m w=true then .inr here else .inr p
 |.inl u=>if ey m w=true/\ey n u=false then .inr here else .inl u
noncomputable def vo (f:ka)(x:au)(v:ad)(path:List Int)(n:bj):ad ⊕ List Int:=match e9 x.al n.aq with
 |none=>if n.cV=true then .inl n.cB else .inr (path++[n.aq])
 |some i=>MJ (x.al.getD i aX) (v.aB.getD i aY) n (path++[n.aq]) (f (x.al.getD i aX).aQ (v.aB.getD i aY) n.aQ (path++[n.aq]))
noncomputable def ph (f:ka)(x:au)(v:ad)(path:List Int):List bj->List ad ⊕ List Int
 |[]=>.inl []
 |n::l=>qA (vo f x v path n) (ph f x v path l)
noncomputable def jP (tw:List au)(y:au)(path:List Int):List bj->List ad->List dD ⊕ List Int
 |m::ms,v::l=>if(dA y.al m.aq).isSome=true then jP tw y path ms l
  else if m.dq=true then .inr (path++[m.aq])
  else if ey m v=true then jP tw y path ms l
  else qA (.inl ⟨m.aq,cb tw m.aQ v⟩) (jP tw y path ms l)
 |_,_=>.inl []
def tR(x y:au)(v:ad):Prop:=(x.Kind=2->y.cA<=v.b5/\v.b5<=y.cD)/\(x.Kind=3->(v.ch.length:Int)<=y.Max)/\(x.Kind=4->(∃s,s∈y.bW/\s.aq=v.aq)\/y.Open=true)
noncomputable def HL (tw:List au)(f:ka)(x y:au)(v:ad)(path:List Int):ad ⊕ List Int:=
 vR (λis=>tG (λr=>⟨5,false,0,[],0,[],is,r⟩) (jP tw y path x.al v.aB)) (ph f x v path y.al)
noncomputable def BO (tw:List au)(f:ka)(x y:au)(v:ad)(path:List Int):ad ⊕ List Int:=match e9 x.al v.aq with
 |none=>.inr path
 |some i=>match e9 y.al v.aq with
  |some k=>tG (λu=>⟨6,false,0,[],v.aq,[],[u],[]⟩) (f (x.al.getD i aX).aQ (v.aB.getD 0 aY) (y.al.getD k aX).aQ (path++[v.aq]))
  |none=>if y.Open=true then .inl ⟨6,false,0,[],v.aq,[],[],[⟨v.aq,cb tw (x.al.getD i aX).aQ (v.aB.getD 0 aY)⟩]⟩else .inr path
def Ej(f:ka)(x y:au)(v:ad)(path:List Int):ad ⊕ List Int:=
 if(v.aB.length:Int)<=y.Max then tG (λis=>⟨7,false,0,[],0,[],is,[]⟩) (jC f path x.a6 y.a6 0 v.aB)else .inr path
def Ek(f:ka)(x y:au)(v:ad)(path:List Int):ad ⊕ List Int:=
 if(v.aB.length:Int)<=y.Max then vR (λks=>tG (λis=>⟨8,false,0,[],0,ks,is,[]⟩) (jC f path x.a6 y.a6 0 v.aB)) (jC f path x.Key y.Key 0 v.aZ)else .inr path
def MI(f:ka)(x y:au)(v:ad)(path:List Int):ad ⊕ List Int:=
 tG (λis=>⟨9,false,0,[],0,[],is,[]⟩) (jC f path x.a6 y.a6 0 v.aB)
open Classical in
noncomputable def lO (tw:List au)(f:ka)(x y:au)(v:ad)(path:List Int):ad ⊕ List Int:=
 if ¬x.Kind=y.Kind then .inr path
 else if x.Kind=5 then HL tw f x y v path
 else if x.Kind=6 then BO tw f x y v path
 else if x.Kind=7 then Ej f x y v path
 else if x.Kind=8 then Ek f x y v path
 else if x.Kind=9 then MI f x y v path
 else if tR x y v then .inl v else .inr path
noncomputable def hO (tw tr:List au):Nat->ka
 |0=>λ_ _ _ path=>.inr path
 |n+1=>λt v rt path=>lO tw (hO tw tr n) (tw.getD t.toNat a8) (tr.getD rt.toNat a8) v path
theorem Dl{tw tr:List au}(n:Nat)(t:Int)(v:ad)(rt:Int)(path:List Int):hO tw tr (n+1) t v rt path=lO tw (hO tw tr n) (tw.getD t.toNat a8) (tr.getD rt.toNat a8) v path:=rfl
section
variable {tw:List au}{f:ka}{x y:au}{v:ad}{path:List Int}
theorem afL(cq:¬x.Kind=y.Kind):lO tw f x y v path= .inr path:=by grind[lO]
theorem Xo(cq:x.Kind=y.Kind)(h:x.Kind=5):lO tw f x y v path=HL tw f x y v path:=by grind[lO]
theorem Xp(cq:x.Kind=y.Kind)(h:x.Kind=6):lO tw f x y v path=BO tw f x y v path:=by grind[lO]
theorem Xq(cq:x.Kind=y.Kind)(h:x.Kind=7):lO tw f x y v path=Ej f x y v path:=by grind[lO]
theorem Xr(cq:x.Kind=y.Kind)(h:x.Kind=8):lO tw f x y v path=Ek f x y v path:=by grind[lO]
theorem Xs(cq:x.Kind=y.Kind)(h:x.Kind=9):lO tw f x y v path=MI f x y v path:=by grind[lO]
theorem yF(cq:x.Kind=y.Kind)(h:x.Kind<=4)(aj:tR x y v):lO tw f x y v path= .inl v:=by grind[lO]
theorem Ta(cq:x.Kind=y.Kind)(h:x.Kind<=4)(aj:¬tR x y v):lO tw f x y v path= .inr path:=by grind[lO]
end
theorem adb{m:bj}{w:ad}{n:bj}{here p:List Int}:MJ m w n here (.inr p)=if ey m w=true then .inr here else .inr p:=rfl
theorem Sv{m:bj}{w:ad}{n:bj}{here:List Int}{u:ad}:MJ m w n here (.inl u)=if ey m w=true/\ey n u=false then .inr here else .inl u:=rfl
theorem lx{l:List bj}{id:Int}{j:Nat}(h:e9 l id=some j):j<l.length/\(l.getD j aX).aq=id/\∀k,k<j->(l.getD k aX).aq≠id:=by
 obtain⟨h1,aa,aA⟩:=List.findIdx?_eq_some_iff_getElem.1 h
 grind[gM]
theorem aek{l:List bj}{id:Int}(h:e9 l id=none):∀k,k<l.length->(l.getD k aX).aq≠id:=λk hk=>by
 have:=List.findIdx?_eq_none_iff.1 h _ (bZ hk aX)
 grind
theorem aur(l:List bj)(id:Int):DO l id (x3 l id):=by
 unfold x3;cases h:e9 l id with
 |some j=>exact .inl ⟨j,(lx h).1,(lx h).2.1,(lx h).2.2,rfl⟩
 |none=>exact .inr ⟨aek h,rfl⟩
theorem yG(l:List bj)(id:Int):(e9 l id).isSome=(dA l id).isSome:=by
 cases h:e9 l id with
 |some j=>
  obtain⟨h1,aa,_⟩:=lx h;cases g:dA l id with
  |some _=>rfl
  |none=>grind[Dk]
 |none=>
  cases g:dA l id with
  |none=>rfl
  |some m=>
   obtain⟨m1,m2⟩:=re g;obtain⟨i,ak,rfl⟩:=la m1;exact absurd m2 (by rw[<-gM ak aX];grind[aek])
theorem S3{α:Type}{a:α ⊕ List Int}{b:List α ⊕ List Int}{l:List α}(h:qA a b= .inl l):∃u us,a= .inl u/\b= .inl us/\l=u::us:=by
 grind[qA]
theorem qy{α β:Type}{g:α->β}{a:α ⊕ List Int}{b:β}(h:tG g a= .inl b):∃u,a= .inl u/\b=g u:=by
 grind[tG]
theorem GB{α β:Type}{g:α->β ⊕ List Int}{a:α ⊕ List Int}{b:β}(h:vR g a= .inl b):∃u,a= .inl u/\g u= .inl b:=by
 grind[vR]
theorem K6{f:ka}{path:List Int}{t rt:Int}:∀{l:List ad} {i:Nat} {us:List ad},jC f path t rt i l= .inl us->us.length=l.length/\∀j,j<l.length->f t (l.getD j aY) rt (path++[((i+j:Nat):Int)])= .inl (us.getD j aY)
 |[],i,us,h=>by
  grind[jC]
 |v::l,i,us,h=>by
  obtain⟨u,akF,h1,aa,rfl⟩:=S3 h;obtain⟨a,b⟩:=K6 aa;refine⟨by grind,λj aM=>?_⟩;cases j<;>grind
theorem ZC{f:ka}{x:au}{v:ad}{path:List Int}:∀{l:List bj} {us:List ad},ph f x v path l= .inl us->us.length=l.length/\∀j,j<l.length->vo f x v path (l.getD j aX)= .inl (us.getD j aY)
 |[],us,h=>by
  grind[ph]
 |n::l,us,h=>by
  obtain⟨u,akF,h1,aa,rfl⟩:=S3 h;obtain⟨a,b⟩:=ZC aa
  grind
theorem ade{f:ka}{x:au}{v:ad}{path:List Int}{n:bj}{u:ad}(h:vo f x v path n= .inl u):
 (e9 x.al n.aq=none/\n.cV=true/\u=n.cB)\/∃i,e9 x.al n.aq=some i/\f (x.al.getD i aX).aQ (v.aB.getD i aY) n.aQ (path++[n.aq])= .inl u/\(ey (x.al.getD i aX) (v.aB.getD i aY)=true->ey n u=true):=by
 unfold vo at h;cases aJ:e9 _ _ with
 |none=>
  grind
 |some i=>
  simp only[aJ]at h;refine .inr ⟨i,rfl,?_⟩;revert h;cases f _ _ _ _ with
  |inr p=>grind[MJ]
  |inl w=>grind[MJ]
theorem S4{tw:List au}{y:au}{path:List Int}:∀{ms:List bj} {l:List ad} {r:List dD},jP tw y path ms l= .inl r->
 r.length<=ms.length/\(r.map λa=>a.aq).Sublist (ms.map λm=>m.aq)/\∀a,a∈r->dA y.al a.aq=none/\∃j,j<ms.length/\j<l.length/\a=⟨(ms.getD j aX).aq,cb tw (ms.getD j aX).aQ (l.getD j aY)⟩
 |[],l,r,h=>by
  rw[jP]at h
  . cases h;simp
  . intros;simp_all
 |m::ms,[],r,h=>by
  grind[jP]
 |m::ms,v::l,r,h=>by
  have up:∀{r},jP tw y path ms l= .inl r->r.length<=(m::ms).length/\(r.map λa=>a.aq).Sublist ((m::ms).map λm=>m.aq)/\∀a,a∈r->dA y.al a.aq=none/\∃j,j<(m::ms).length/\j<(v::l).length/\a=⟨((m::ms).getD j aX).aq,cb tw ((m::ms).getD j aX).aQ ((v::l).getD j aY)⟩:=λ{r} h=>by
   obtain⟨a,b,c⟩:=S4 h;refine⟨by simp;omega,by grind,λq aE=>?_⟩;obtain⟨bD,j,fl,ho,e⟩:=c q aE;exact⟨bD,j+1,by simp;omega,by simp;omega,e⟩
  rw[jP]at h;by_cases bD:(dA y.al m.aq).isSome=true
  . grind
  rw[ah bD]at h;by_cases bJ:m.dq=true
  . rw[af bJ]at h;cases h
  rw[ah bJ]at h;by_cases c1:ey m v=true
  . grind
  rw[ah c1]at h;obtain⟨u,us,aR,bw,rfl⟩:=S3 h;cases aR;obtain⟨a,b,c⟩:=S4 bw;refine⟨by grind,by grind,λq aE=>?_⟩;rcases fz.1 aE with rfl|aE
  . exact⟨by simpa using bD,0,by simp,by simp,rfl⟩
  . exact(up bw).2.2 q aE
section
variable {ts:List au}
theorem Na{n:Nat}(h:n<16384):(fC n).length<=2:=ZQ 1 n (by grind)
theorem Gr{p:List UInt8}(h:p.length<16384):(eD p).length<=p.length+2:=by
 grind[Na,eD]
def sZ(ts:List au)(t:Int)(v:ad):Prop:=(cb ts t v).length+4<=wt v
theorem Sf{t:Int}:∀{l:List ad},eH l<=3000->(∀y,y∈l->sZ ts t y)->((cg ts t l).flatMap eD).length<=eH l
 |[],_,_=>by grind[cg]
 |v::l,hw,h=>by
  rw[cg];rw[oi]at hw⊢;have h1:=h v (.head _);unfold sZ at h1;have aa:=Sf (by omega) λx I=>h x (.tail _ I)
  grind[Gr]
theorem adO{t:Int}{l:List ad}(h:∀y,y∈l->sZ ts t y):((cg ts t l).headD []).length+4<=eH l\/l=[]:=by
 cases l with
 |nil=>simp
 |cons v l=>
  have h1:=h v (.head _)
  grind[sZ,cg,oi]
theorem adf:∀{ms:List bj} {l:List ad},eH l<=3000->(∀m,m∈ms->m.aq<=1000)->l.length=ms.length->(∀i,i<ms.length->sZ ts (ms.getD i aX).aQ (l.getD i aY))->((eN ts ms l).flatMap Fd.text).length<=eH l
 |[],l,_,_,_,_=>by grind[eN]
 |m::ms,[],_,_,aj,_=>by grind
 |m::ms,v::l,hw,hm,aj,h=>by
  rw[oi]at hw⊢;rw[eN];have h1:sZ ts m.aQ v:=h 0 (by simp);unfold sZ at h1;have aa:=adf (ms:=ms) (l:=l) (by omega) (λx I=>hm x (.tail _ I)) (by grind) λi ak=>h (i+1) (by grind)
  split
  . omega
  . rw[me,fp];have a1:=Gr (p:=cb ts m.aQ v) (by omega);have a2:=Na (n:=2*m.aq.toNat+(if m.dq then 1 else 0)) (by grind);have aA:(Fd.text ⟨m.aq.toNat,m.dq,cb ts m.aQ v⟩).length<=(cb ts m.aQ v).length+4:=by
     show(hJ m.aq.toNat m.dq _).length<=_
     grind[hJ]
    omega
theorem aus(H:ef ts){v:ad}(aF:c6 v):∀t,dy ts true t v->wt v<=3000->sZ ts t v:=by
 have zD:=H.V.nr H.T
 induction aF with
 |mk v hs h1 aa aA hk ak mB dJ dn ej cJ iY gU=>
  intro t aJ hw;obtain⟨⟨g1,g2,g3,g4⟩,ay⟩:=(gY _ _ _).1 aJ;have aM:t.toNat<ts.length:=by omega
  have dx:=bZ aM a8;have fG:=g4 rfl;have u9:=ln v;have bh:∀y,y∈v.aZ->wt y+10<=wt v:=λy ao=>by have:=kM ao;omega
  have li:∀y,y∈v.aB->wt y+10<=wt v:=λy ao=>by have:=kM ao;omega
  have aA7:∀t,h5 ts true t v.aZ->∀y,y∈v.aZ->sZ ts t y:=λt ht y ao=>iY y ao t (dS.1 ht y ao) (by grind)
  have ii:∀t,h5 ts true t v.aB->∀y,y∈v.aB->sZ ts t y:=λt ht y ao=>gU y ao t (dS.1 ht y ao) (by grind)
  unfold sZ;rcases ay with h|h|h|h|h|h|h|h|h
  . grind[H']
  . have gB:=H.L _ dx (by omega);rw[Ia (by omega)];have:=GL 1 (kx v.b5).toNat (by grind[kx]);omega
  . grind[Ib]
  . rw[Ic (by omega)];have hid:v.aq.toNat<256^2:=by
     rcases h.2.2.2.2.2.2.2 with⟨y,jQ,sU⟩|⟨_,h,_⟩
     . have:=zD.S _ dx (by omega) y jQ
       grind[dz]
     grind
    have:=GL 2 _ hid;omega
  . obtain⟨a1,a2,a3,a4,a5,bx,cp,cz⟩:=h;obtain⟨f1,f2⟩:=mQ.1 cz;rw[Ie (by omega),Yh (uM _ _)];unfold jk;rw[fG,Bz,BH];have:=adf (ts:=ts) (l:=v.aB) (by omega) (zD.M _ dx) f1 λi hY=>by grind
    omega
  . obtain⟨a1,a2,a3,a4,a5,bx⟩:=h;rw[BV (by omega)];cases bF:dA (ts.getD t.toNat a8).al v.aq with
    |none=>grind
    |some m=>
     rw[bF]at bx;obtain⟨b1,b2,cf⟩:=bx;obtain⟨m1,m2⟩:=re bF;have hid:=zD.M _ dx m m1;have:=Na (n:=v.aq.toNat) (by omega);rcases adO (ii _ cf)with q|q
     . grind
     grind
  . grind[BW,Sf]
  . obtain⟨a1,a2,a3,a4,a5,bx,cp,cz,a9,h9,mo⟩:=h;rw[BX (by omega)];have aR:=Sf (l:=v.aB) (by omega) (ii _ h9);have bw:=Sf (l:=v.aZ) (by omega) (aA7 _ a9)
    grind[SF]
  . obtain⟨a1,a2,a3,a4,a5,bx,cp,cz,a9⟩:=h;rw[BY (by omega)];rcases adO (ii _ a9)with q|q
    . grind
    grind[cg]
end
def j'(ts:List au):Nat->Int->ad->Prop
 |0,_,_=>False
 |n+1,t,v=>((cb ts t v).length<=4096/\v.aB.length<=1000/\v.aZ.length<=1000)/\
  ((ts.getD t.toNat a8).Kind=5->∀i,i<(ts.getD t.toNat a8).al.length->j' ts n ((ts.getD t.toNat a8).al.getD i aX).aQ (v.aB.getD i aY))/\
  ((ts.getD t.toNat a8).Kind=6->∀m,dA (ts.getD t.toNat a8).al v.aq=some m->∀y,y∈v.aB->j' ts n m.aQ y)/\
  (7<=(ts.getD t.toNat a8).Kind->(∀y,y∈v.aB->j' ts n (ts.getD t.toNat a8).a6 y)/\∀y,y∈v.aZ->j' ts n (ts.getD t.toNat a8).Key y)
section
variable {ts:List au}
theorem j'.len{n:Nat}{t:Int}{v:ad}(h:j' ts n t v):(cb ts t v).length<=4096:=by
 cases n with
 |zero=>cases h
 |succ n=>exact h.1.1
theorem S5(p:List UInt8):p.length<=(eD p).length:=by grind[eD]
theorem aal{t:Int}:∀{l:List ad} {y:ad},y∈l->(cb ts t y).length<=((cg ts t l).flatMap eD).length
 |v::l,y,h=>by
  rw[cg,me,fp];rcases fz.1 h with rfl|h
  . grind[S5]
  . have:=aal (t:=t) h;omega
theorem aaC:∀{ms:List bj} {l:List ad} (i:Nat),i<ms.length->i<l.length->ey (ms.getD i aX) (l.getD i aY)=false->(cb ts (ms.getD i aX).aQ (l.getD i aY)).length<=((eN ts ms l).flatMap Fd.text).length
 |m::ms,v::l,0,_,_,aO=>by
  rw[eN];simp only[Ec]at aO⊢;rw[ah (by grind),me,fp];have aA:(cb ts m.aQ v).length<=(Fd.text ⟨m.aq.toNat,m.dq,cb ts m.aQ v⟩).length:=by
   show _<=(hJ m.aq.toNat m.dq _).length
   grind[S5,hJ]
  omega
 |m::ms,v::l,i+1,h1,aa,aO=>by
  have:=aaC (ms:=ms) (l:=l) i (by grind) (by grind) (by grind);rw[eN]
  grind
theorem aCc{m:bj}{v:ad}(h:ey m v=true):m.cV=true/\v=m.cB:=by
 grind[ey]
theorem Tb:∀{a b:List (List UInt8)} {p:List UInt8},a.length=b.length->p∈a\/p∈b->p.length<=(kp a b).length
 |[],[],p,_,h=>by grind
 |k::ks,v::vs,p,aj,h=>by
  have aR:=S5 k;have bw:=S5 v;have ih:=@Tb ks vs p (by grind)
  grind[kp]
theorem Le{t:Int}:∀{l:List ad} {y:ad},y∈l->cb ts t y∈cg ts t l
 |v::l,y,h=>by
  rw[cg];rcases fz.1 h with rfl|h
  . simp
  . exact .tail _ (Le h)
theorem avL{t:Int}{v:ad}(hk:(ts.getD t.toNat a8).Kind<=4)(aJ:dy ts true t v):gx ts t v=1:=by
 obtain⟨⟨_,_,k3,_⟩,y5⟩:=(gY _ _ _).1 aJ
 grind[GA]
theorem w5(H:ef ts):∀(n:Nat) {v:ad} {t:Int},c6 v->dy ts true t v->(cb ts t v).length<=4096\/wt v<=3000->gx ts t v+13<=n\/wt v<=n->j' ts n t v
 |0,v,t,_,_,_,av=>by grind[awD]
 |n+1,v,t,aF,aJ,hw,av=>by
  have zD:=H.V.nr H.T;have aj:(cb ts t v).length<=4096:=by
   rcases hw with h|h
   . grind
   . have:=aus H aF t aJ h
     grind[sZ]
  have u9:=ln v;obtain⟨⟨g1,g2,g3,g4⟩,ay⟩:=(gY _ _ _).1 aJ;have aM:t.toNat<ts.length:=by omega
  have dx:=bZ aM a8;have fN:=H.M _ dx;have dP:=(H.dR _ dx).2.2;have fG:=g4 rfl;cases aF with
  |mk _ hs h1 aa aA hk ak mB dJ dn ej cJ=>
  have aan:wt v<=3000->∀y,y∈v.aB->wt y<=3000:=λh y ao=>by have:=kM ao;omega
  have aDO:wt v<=3000->∀y,y∈v.aZ->wt y<=3000:=λh y ao=>by have:=kM ao;omega
  have WD:wt v<=n+1->∀y,y∈v.aB->wt y<=n:=λh y ao=>by have:=kM ao;omega
  have aBy:wt v<=n+1->∀y,y∈v.aZ->wt y<=n:=λh y ao=>by have:=kM ao;omega
  have hle:=DT (ts:=ts) t v
  have cN:7<=(ts.getD t.toNat a8).Kind->∀y,y∈v.aB->gx ts (ts.getD t.toNat a8).a6 y+13<=n\/wt y<=n:=λhV y ao=>av.imp (λav=>by
   rw[ah (show ¬(ts.getD t.toNat a8).Kind=5 by omega),ah (show ¬(ts.getD t.toNat a8).Kind=6 by omega)]at hle;have:=uK (ts:=ts) (t:=(ts.getD t.toNat a8).a6) ao
   omega) λav=>WD av _ ao
  have leaf:v.aB=[]->v.aZ=[]->v.aB.length<=1000/\v.aZ.length<=1000:=λa b=>by grind
  unfold j';rcases ay with h|h|h|h|h|h|h|h|h
  . grind
  . grind
  . grind
  . grind
  . obtain⟨a1,a2,a3,a4,a5,bx,cp,cz⟩:=h;obtain⟨f1,f2⟩:=mQ.1 cz;refine⟨⟨aj,by omega,by grind⟩,λ_ i hY=>?_,by omega,by omega⟩;have hm:=bZ (by omega:i<v.aB.length) aY;cases aO:ey ((ts.getD t.toNat a8).al.getD i aX) (v.aB.getD i aY)with
    |true=>
     obtain⟨iE,iF⟩:=aCc aO;have hy:=H.W _ dx _ (bZ hY aX) iE;rw[<-iF]at hy;refine w5 H n (ak _ hm) (f2 i hY) (.inr (by omega)) (.inr ?_)
     grind
    |false=>
     refine w5 H n (ak _ hm) (f2 i hY) ?_ (av.imp (λav=>by
      grind[SZ]) λav=>WD av _ hm)
     rcases hw with hw|hw
     . have h0:=aaC (ts:=ts) i hY (by omega:i<v.aB.length) aO;rw[Ie (by omega),Yh (uM _ _)]at aj;unfold jk at aj
       grind
     grind
  . obtain⟨a1,a2,a3,a4,a5,bx⟩:=h;cases bF:dA (ts.getD t.toNat a8).al v.aq with
    |none=>grind
    |some m=>
     rw[bF]at bx;obtain⟨b1,b2,cf⟩:=bx;refine⟨⟨aj,by omega,by grind⟩,by omega,λ_ j5 sA y ao=>?_,by omega⟩;cases sA
     refine w5 H n (ak _ ao) (dS.1 cf _ ao) ?_ (av.imp (λav=>by
      rw[ah (show ¬(ts.getD t.toNat a8).Kind=5 by omega),af (show(ts.getD t.toNat a8).Kind=6 by omega),bF]at hle;have:=uK (ts:=ts) (t:=m.aQ) ao
      grind) λav=>WD av _ ao)
     rcases hw with hw|hw
     . rw[BV (by omega),bF,fp]at aj;have aE:(cg ts m.aQ v.aB).headD []=cb ts m.aQ y:=by
        match aF:v.aB,b2 with
        |[a],_=>rw[aF]at ao;rw[ve.1 ao,cg,cg];rfl
       simp only[aE]at aj;omega
     grind
  . obtain⟨a1,a2,a3,a4,a5,bx,cp,cz,a9⟩:=h;have Wy:=cN (by omega);refine⟨⟨aj,by omega,by simp_all⟩,by omega,by omega,λ_=>⟨λy ao=>w5 H n (ak _ ao) (dS.1 a9 _ ao) ?_ (Wy _ ao),λy ao=>by simp_all⟩⟩;rcases hw with hw|hw
    . left;rw[BW (by omega)]at aj;have:=aal (ts:=ts) (t:=(ts.getD t.toNat a8).a6) ao;omega
    . exact .inr (aan hw _ ao)
  . obtain⟨a1,a2,a3,a4,a5,bx,cp,cz,a9,h9,mo⟩:=h;have ahY:=SF (cg ts (ts.getD t.toNat a8).Key v.aZ) (cg ts (ts.getD t.toNat a8).a6 v.aB)
    refine⟨⟨aj,by omega,by omega⟩,by omega,by omega,λ_=>⟨λy ao=>w5 H n (ak _ ao) (dS.1 h9 _ ao) ?_ (cN (by omega) _ ao),λy ao=>w5 H n (hk _ ao) (dS.1 a9 _ ao) ?_ (av.imp (λav=>by
     have b4:v.aZ≠[]:=λe=>by rw[e]at ao;cases ao
     rw[ah b4]at hle;have:=avL (zD.ud _ dx (by omega)).2 (dS.1 a9 _ ao)
     omega) λav=>aBy av _ ao)⟩⟩
    all_goals
     rcases hw with hw|hw
     case inr=>first|exact .inr (aan hw _ ao)|exact .inr (aDO hw _ ao)
     left;rw[BX (by omega)]at aj;have e:(cg ts (ts.getD t.toNat a8).Key v.aZ).length=(cg ts (ts.getD t.toNat a8).a6 v.aB).length:=by rw[mO,mO];omega
     have:=Tb (p:=cb ts _ y) e (by first|exact .inr (Le ao)|exact .inl (Le ao));omega
  . obtain⟨a1,a2,a3,a4,a5,bx,cp,cz,a9⟩:=h;have Wy:=cN (by omega);refine⟨⟨aj,by omega,by simp_all⟩,by omega,by omega,λ_=>⟨λy ao=>w5 H n (ak _ ao) (dS.1 a9 _ ao) ?_ (Wy _ ao),λy ao=>by simp_all⟩⟩;rcases hw with hw|hw
    . left;rw[BY (by omega)]at aj;have aE:cg ts (ts.getD t.toNat a8).a6 v.aB=[cb ts (ts.getD t.toNat a8).a6 y]:=by
       match aF:v.aB,cz with
       |[a],_=>rw[aF]at ao;rw[ve.1 ao,cg,cg]
       |[],_=>rw[aF]at ao;cases ao
      rw[aE]at aj;rw[lf]at aj;omega
    . exact .inr (aan hw _ ao)
end
section
variable {tw tr:List au}
theorem acW{n:Nat}{t:Int}{v:ad}{rt:Int}{path:List Int}{u:ad}(hk:(tw.getD t.toNat a8).Kind<=4)(h:hO tw tr n t v rt path= .inl u):u=v:=by
 cases n with
 |zero=>cases h
 |succ n=>
  grind[Dl,lO]
theorem ab8{f:ka}{path:List Int}{t rt:Int}(aJ:∀v rt path u,f t v rt path= .inl u->u=v){i:Nat}{l us:List ad}(h:jC f path t rt i l= .inl us):us=l:=by
 obtain⟨a,b⟩:=K6 h
 grind[au9]
theorem avg{y:au}{path:List Int}{ms:List bj}{l:List ad}{r:List dD}(hm:lr ms)(h:jP tw y path ms l= .inl r):sn y.al r:=by
 obtain⟨_,b,c⟩:=S4 h;refine⟨?_,λa aC=>?_⟩
 . have h1:=tI.2 hm.1
   grind
 . obtain⟨bD,j,fl,ho,e⟩:=c a aC;refine⟨?_,bD⟩;rw[e];exact hm.2 _ (bZ fl _)
theorem dz.i64{n:Int}(h:dz n): -9223372036854775808<=n/\n<=9223372036854775807:=by grind[dz]
def Tc(tr:List au)(rt:Int)(u:ad):Prop:=c6 u/\dy tr false rt u
def Ue(tw tr:List au)(n:Nat):Prop:=∀{v:ad},c6 v->∀{t rt:Int} {path:List Int} {u:ad},dy tw true t v->j' tw n t v->0<=rt->rt<tr.length->hO tw tr n t v rt path= .inl u->Tc tr rt u
theorem asv(HW:ef tw)(HR:ef tr){n:Nat}(ih:Ue tw tr n):Ue tw tr (n+1):=by
 intro v aF t rt path u aJ aD jb cc h;unfold j' at aD;obtain⟨⟨z1,z2,z3⟩,rY,sX,oM⟩:=aD;have SW:=HW.V.nr HW.T;have da:=HR.V.nr HR.T;have wV:=aF;have u9:=ln v;obtain⟨⟨g1,g2,g3,g4⟩,ay⟩:=(gY _ _ _).1 aJ;have aM:t.toNat<tw.length:=by omega
 have VM:rt.toNat<tr.length:=by omega
 have dx:=bZ aM a8;have iW:=bZ VM a8;have dH:=λu=>(gY (ts:=tr) false rt u).2
 rw[Dl]at h;generalize I:tw.getD t.toNat a8=x at*;generalize ao:tr.getD rt.toNat a8=y at*;cases aF with
 |mk _ hs h1 aa aA hk ak mB dJ dn ej cJ=>
 have par:∀{t rt:Int} {i:Nat} {us:List ad},h5 tw true t v.aB->(∀y,y∈v.aB->j' tw n t y)->0<=rt->rt<tr.length->jC (hO tw tr n) path t rt i v.aB= .inl us->us.length=v.aB.length/\(∀q,q∈us->c6 q)/\h5 tr false rt us:=λ{t rt i us} o5 aE a0 a1 ar=>by
  obtain⟨a,b⟩:=K6 ar;have key:∀q,q∈us->Tc tr rt q:=λq qI=>by
   obtain⟨j,fl,rfl⟩:=aak aY qI;have hm:=bZ (by omega:j<v.aB.length) aY;exact ih (ak _ hm) (dS.1 o5 _ hm) (aE _ hm) a0 a1 (b j (by omega))
  exact⟨a,λq aE=>(key q aE).1,dS.2 λq aE=>(key q aE).2⟩
 have ct:∀t,h5 tw true t v.aZ->(∀y,y∈v.aZ->j' tw n t y)->(tw.getD t.toNat a8).Kind<=4->∀{rt:Int} {i:Nat} {us:List ad},0<=rt->rt<tr.length->jC (hO tw tr n) path t rt i v.aZ= .inl us->us=v.aZ/\h5 tr false rt v.aZ:=λt o5 qI azR rt i us a0 a1 ar=>by
  have e:=ab8 (λv rt path u h=>acW azR h) ar;subst e;obtain⟨a,b⟩:=K6 ar;refine⟨rfl,dS.2 λq aE=>?_⟩;obtain⟨j,fl,rfl⟩:=aak aY aE;exact(ih (hk _ aE) (dS.1 o5 _ aE) (qI _ aE) a0 a1 (b j fl)).2
 unfold lO at h;by_cases cq:x.Kind=y.Kind
 . rw[ah (by simpa using cq)]at h;rcases ay with bg|bg|bg|bg|bg|bg|bg|bg|bg
   . rw[ah (by omega),ah (by omega),ah (by omega),ah (by omega),ah (by omega)]at h;split at h<;>cases h
     exact⟨wV,dH _ ⟨⟨jb,cc,by omega,by simp⟩,.inl bg⟩⟩
   . rw[ah (by omega),ah (by omega),ah (by omega),ah (by omega),ah (by omega)]at h;split at h<;>cases h
     rename_i aj;exact⟨wV,dH _ ⟨⟨jb,cc,by omega,by simp⟩,.inr (.inl (by have:=aj.1 (by omega);simp_all))⟩⟩
   . rw[ah (by omega),ah (by omega),ah (by omega),ah (by omega),ah (by omega)]at h;split at h<;>cases h
     rename_i aj;exact⟨wV,dH _ ⟨⟨jb,cc,by omega,by simp⟩,.inr (.inr (.inl (by have:=aj.2.1 (by omega);simp_all)))⟩⟩
   . rw[ah (by omega),ah (by omega),ah (by omega),ah (by omega),ah (by omega)]at h;split at h<;>cases h
     rename_i aj;have dP:dz v.aq:=by
      rcases bg.2.2.2.2.2.2.2 with⟨y,jQ,sU⟩|⟨_,h,_⟩
      . rw[<-sU];exact SW.S _ dx (by omega) y jQ
      . cases h
     refine⟨wV,dH _ ⟨⟨jb,cc,by omega,by simp⟩,.inr (.inr (.inr (.inl ⟨bg.1,bg.2.1,bg.2.2.1,bg.2.2.2.1,bg.2.2.2.2.1,bg.2.2.2.2.2.1,bg.2.2.2.2.2.2.1,?_⟩)))⟩⟩;rcases aj.2.2 (by omega)with q|q
     . exact .inl q
     grind
   . obtain⟨a1,a2,a3,a4,a5,bx,cp,cz⟩:=bg;obtain⟨m1,m2⟩:=SW.A _ dx (.inl (by omega));obtain⟨m3,m4⟩:=da.A _ iW (.inl (by omega));obtain⟨f1,f2⟩:=mQ.1 cz;rw[af (by omega)]at h;obtain⟨is,aR,h⟩:=GB h;obtain⟨r,bw,rfl⟩:=qy h;obtain⟨b1,b2⟩:=ZC aR;have key:∀j,j<y.al.length->Tc tr (y.al.getD j aX).aQ (is.getD j aY):=λj o6=>by
      have o8:=bZ o6 aX;rcases ade (b2 j o6)with⟨_,bJ,c1⟩|⟨i,bD,bJ,_⟩
      . rw[c1];exact⟨(HR.T _ iW).xT _ o8,BU _ _ (HR.D _ iW _ o8 bJ)⟩
      . obtain⟨d1,_,_⟩:=lx bD;have hm:=bZ (by omega:i<v.aB.length) aY;obtain⟨ja,c3⟩:=HR.lC.mem iW o8;exact ih (ak _ hm) (f2 i d1) (rY (by omega) i d1) ja c3 bJ
     have u5:=avg m1 bw;obtain⟨bD,_,c1⟩:=S4 bw
     refine⟨.mk _ (by simp) (by simp) (by show is.length<=_;unfold reachBytes;omega) (by show r.length<=_;unfold reachBytes;omega) (λq aE=>by cases aE) (λq aE=>?_) (λq aE=>?_) (by simp) (by simp) (by simp) (λq aE=>(u5.2 q aE).1.i64),dH _ ⟨⟨jb,cc,by show(5:Int)=_;omega,by simp⟩,.inr (.inr (.inr (.inr (.inl ⟨rfl,rfl,rfl,rfl,rfl,rfl,u5,mQ.2 ⟨b1,λj o6=>(key j o6).2⟩⟩))))⟩⟩
     . obtain⟨j,fl,rfl⟩:=aak aY aE;exact(key j (by have:is.length=_:=b1;have aFi:j<is.length:=fl;omega)).1
     . obtain⟨_,j,fl,ho,e⟩:=c1 q aE;have hm:=bZ ho aY;have:=(rY (by omega) j fl).len;rw[e];unfold reachBytes
       grind
   . obtain⟨a1,a2,a3,a4,a5,bx⟩:=bg;rw[ah (by omega),af (by omega)]at h;unfold BO at h;obtain⟨m1,m2⟩:=SW.A _ dx (.inr (by omega));cases bF:dA x.al v.aq with
     |none=>rw[bF]at bx;cases bx.2.1
     |some m=>
      rw[bF]at bx;obtain⟨b1,b2,cf⟩:=bx;have o9:=yG x.al v.aq;rw[bF]at o9;cases dP:e9 x.al v.aq with
      |none=>rw[dP]at o9;cases o9
      |some i=>
      obtain⟨d1,d2,_⟩:=lx dP;obtain⟨d3,d4⟩:=re bF;have em:x.al.getD i aX=m:=yC m1 (bZ d1 aX) d3 (by rw[d2,d4]);have hid:dz v.aq:=by rw[<-d4];exact m1.2 m d3
      simp only[dP,em]at h;have hm:=bZ (by omega:0<v.aB.length) aY;cases o4:e9 y.al v.aq with
      |some k=>
       simp only[o4]at h;obtain⟨w,aR,rfl⟩:=qy h;obtain⟨k1,k2,_⟩:=lx o4;have o8:=bZ k1 aX;obtain⟨ja,c3⟩:=HR.lC.mem iW o8;obtain⟨z1,z2⟩:=ih (ak _ hm) (dS.1 cf _ hm) (sX (by omega) _ bF _ hm) ja c3 aR;have Fy:dA y.al v.aq=some (y.al.getD k aX):=by rw[<-k2];exact Sr (da.A _ iW (.inr (by omega))).1 o8
       refine⟨.mk _ (by simp) (by simp) (by show[w].length<=_;unfold reachBytes;simp) (by simp) (λq aE=>by cases aE) (λq aE=>?_) (λq aE=>by cases aE) (by simp) (by simp) hid.i64 (λq aE=>by cases aE),dH _ ⟨⟨jb,cc,by show(6:Int)=_;omega,by simp⟩,.inr (.inr (.inr (.inr (.inr (.inl ⟨rfl,rfl,rfl,rfl,rfl,?_⟩)))))⟩⟩
       . grind
       . show match dA y.al v.aq with|some m=>_|none=>_
         rw[Fy];exact⟨rfl,rfl,z2,trivial⟩
      |none=>
       simp only[o4]at h;split at h
       . cases h;rename_i aO;have Fy:dA y.al v.aq=none:=by
          have:=yG y.al v.aq;rw[o4]at this;cases aE:dA y.al v.aq with
          |none=>rfl
          |some _=>rw[aE]at this;cases this
         have:=(sX (by omega) _ bF _ hm).len;refine⟨.mk _ (by simp) (by simp) (by simp) (by show[_].length<=_;unfold reachBytes;simp) (λq aE=>by cases aE) (λq aE=>by cases aE) (λq aE=>?_) (by simp) (by simp) hid.i64 (λq aE=>?_),dH _ ⟨⟨jb,cc,by show(6:Int)=_;omega,by simp⟩,.inr (.inr (.inr (.inr (.inr (.inl ⟨rfl,rfl,rfl,rfl,rfl,?_⟩)))))⟩⟩
         . rw[ve.1 aE];show(cb tw _ _).length<=_;unfold reachBytes;omega
         . grind
         grind
       . cases h
   . obtain⟨a1,a2,a3,a4,a5,bx,cp,cz,a9⟩:=bg;rw[ah (by omega),ah (by omega),af (by omega)]at h;unfold Ej at h;split at h
     . rename_i fN;obtain⟨is,aR,rfl⟩:=qy h;obtain⟨ja,c3⟩:=HR.lC.elem iW (by omega);obtain⟨tM,vg,vh⟩:=par a9 (oM (by omega)).1 ja c3 aR
       exact⟨.mk _ (by simp) (by simp) (by show is.length<=_;omega) (by simp) (λq aE=>by cases aE) vg (λq aE=>by cases aE) (by simp) (by simp) (by simp) (λq aE=>by cases aE),dH _ ⟨⟨jb,cc,by show(7:Int)=_;omega,by simp⟩,.inr (.inr (.inr (.inr (.inr (.inr (.inl ⟨rfl,rfl,rfl,rfl,rfl,rfl,rfl,by show(is.length:Int)<=_;omega,vh⟩))))))⟩⟩
     . cases h
   . obtain⟨a1,a2,a3,a4,a5,bx,cp,cz,a9,h9,mo⟩:=bg;rw[ah (by omega),ah (by omega),ah (by omega),af (by omega)]at h;unfold Ek at h;split at h
     . rename_i fN;obtain⟨ks,e0,h⟩:=GB h;obtain⟨is,aR,rfl⟩:=qy h;obtain⟨ja,c3⟩:=HR.lC.elem iW (by omega);obtain⟨dE,hl⟩:=HR.lC.key iW (by omega);obtain⟨tM,vg,vh⟩:=par h9 (oM (by omega)).1 ja c3 aR;obtain⟨rfl,Xd⟩:=ct _ a9 (oM (by omega)).2 (SW.ud _ dx (by omega)).2 dE hl e0
       exact⟨.mk _ (by simp) (by show v.aZ.length<=_;omega) (by show is.length<=_;omega) (by simp) hk vg (λq aE=>by cases aE) (by simp) (by simp) (by simp) (λq aE=>by cases aE),dH _ ⟨⟨jb,cc,by show(8:Int)=_;omega,by simp⟩,.inr (.inr (.inr (.inr (.inr (.inr (.inr (.inl ⟨rfl,rfl,rfl,rfl,rfl,rfl,by show(v.aZ.length:Int)<=_;omega,by show is.length=v.aZ.length;omega,Xd,vh,mo⟩)))))))⟩⟩
     . cases h
   . obtain⟨a1,a2,a3,a4,a5,bx,cp,cz,a9⟩:=bg;rw[ah (by omega),ah (by omega),ah (by omega),ah (by omega),af (by omega)]at h;obtain⟨is,aR,rfl⟩:=qy h;obtain⟨ja,c3⟩:=HR.lC.elem iW (by omega);obtain⟨tM,vg,vh⟩:=par a9 (oM (by omega)).1 ja c3 aR
     exact⟨.mk _ (by simp) (by simp) (by show is.length<=_;omega) (by simp) (λq aE=>by cases aE) vg (λq aE=>by cases aE) (by simp) (by simp) (by simp) (λq aE=>by cases aE),dH _ ⟨⟨jb,cc,by show(9:Int)=_;omega,by simp⟩,.inr (.inr (.inr (.inr (.inr (.inr (.inr (.inr ⟨rfl,rfl,rfl,rfl,rfl,rfl,rfl,by show is.length<=1;omega,vh⟩)))))))⟩⟩
 grind
theorem ZD(HW:ef tw)(HR:ef tr):∀n,Ue tw tr n
 |0=>λ_ _ _ _ _ _ _ _ _ h=>by cases h
 |n+1=>asv HW HR (ZD HW HR n)
end
theorem asw{s:bY}(H:rZ s.Types){v:ad}(aF:c6 v)(hw:wt v<=1099511627776){t:Int}(aJ:dy s.Types false t v)(ay:Gl (s,t,v)=some 0):
 sd (s,t,v)=some (zZ s.Types t v):=by
 have h1:=awg H aF hw aJ;have nL:Gl ((⟨s.Types⟩:bY),t,v)=some 0:=ay;rw[sd];simp only[ad.cr];rw[nL,h1];simp only[bL,aK];rw[ah (by simp)];unfold zZ;generalize cb s.Types t v=p;generalize gx s.Types t v=l;by_cases g:4096<p.length
 . rw [af (by have:(4096:Int)<p.length:= by omega
              simp[this]),af (.inl g)]
 . by_cases g2:200<l
   . rw [af (by have:¬ (4096:Int)<p.length:= by omega
                have aa:(200:Int)<l:=by omega
                simp[this,aa]),af (.inr g2)]
   . rw [ah (by have:¬ (4096:Int)<p.length:= by omega
                have aa:¬(200:Int)<l:=by omega
                simp[this,aa]),ah (by omega)]
theorem adg{ts:List au}(H:ef ts){t:Int}{v:ad}(aF:T0 ts t v):sd ((⟨ts⟩:bY),t,v)=some (zZ ts t v):=
 asw (s:=⟨ts⟩) (H.V.nr H.T) aF.2.1 (jJ aF.2.2 (by decide)) aF.1 (alU H.T H.V aF.2.1 aF.1)
noncomputable def E9 (ts:List au)(t:Int)(m:List UInt8):ad×Int:=
 if t<0\/(ts.length:Int)<=t then(aad,4)else if 4096<m.length then(aad,12)else match fh ts 200 t m with
  |some v=>(v,0)
  |none=>(aad,12)
section
variable {ts:List au}
theorem Zc(H:vB ts)(t:Int)(m:List UInt8):wi ((⟨ts⟩:bY),t,m)=some (E9 ts t m):=by
 rw[wi,Zv,(Dn H.S.T H.V).1];simp only[bL,aK];unfold E9;by_cases h1:t<0\/(ts.length:Int)<=t
 . have c:(bif decide (t<0)then true else decide ((ts.length:Int)<=t))=true:=by rcases h1 with h1|h1<;>simp[h1]
   rw[ah (by simp),af c,af h1];rfl
 . have c:¬(bif decide (t<0)then true else decide ((ts.length:Int)<=t))=true:=by
    have a:¬t<0:=λh=>h1 (.inl h)
    have b:¬(ts.length:Int)<=t:=λh=>h1 (.inr h)
    simp[a,b]
   by_cases aa:4096<m.length
   . rw[ah (by simp),ah c,af (by simp;omega),ah h1,af aa];rfl
   . have d1:=aed H 200 (by omega) t m [] 0 [] (by omega) (by omega) (by omega) rfl;rw[ah (by simp),ah c,ah (by simp;omega),ah h1,ah aa];cases aF:fh ts 200 t m with
     |none=>
      obtain⟨w,f1,f2,hw⟩:=d1.2 aF;rw[hw];rfl
     |some v=>
      rw[d1.1 v aF];simp[ad.cr]
theorem avh(H:ef ts){t:Int}{m:List UInt8}(ht:0<=t/\t<ts.length)(hm:m.length<=4096){v:ad}(h:fh ts 200 t m=some v):T0 ts t v:=by
 obtain⟨a,b,c⟩:=ac9 H 200 t m v (by omega) ht.1 ht.2 h;exact⟨a,b,by omega⟩
end
theorem Sw{m:bj}{v:ad}(aF:c6 v):DL (m,v)=some (ey m v):=by
 rw[DL];simp[ad.cr];unfold ey;cases av:m.cV with
 |false=>rfl
 |true=>
  obtain⟨r,cc,eC⟩:=ZU aF m.cB
  grind
theorem ZE{p:List UInt8}(h:p.length<=100000):Gn p=some (eD p):=by
 rw[Gn,qU (by omega),yp (by omega)];have:=wv (n:=p.length) (by omega);simp only[bL,aK];rw[af (pG (by omega))];rfl
theorem aut{id:Int}{c:Bool}{p:List UInt8}(hid:dz id)(h:p.length<=4096):R6 (id,c,p)=some (hJ id.toNat c p,0):=by
 unfold dz at hid;obtain⟨n,rfl⟩:=Int.eq_ofNat_of_zero_le (by omega:0<=id);rw[R6,ah (by grind),ah (by grind),ZR (by omega) (by omega)];rfl
section
variable {ts:List au}
theorem Zd:∀{ms:List bj} {l:List ad},((eN ts ms l).map λf=>f.id).Sublist (ms.map λm=>m.aq.toNat)
 |[],l=>by grind[eN]
 |m::ms,[]=>by grind[eN]
 |m::ms,v::l=>by
  rw[eN];split
  . exact(Zd).cons _
  . exact(Zd).cons₂ _
theorem ab9{ms:List bj}{l:List ad}(hm:lr ms):(eN ts ms l).Pairwise (λa b=>a.id<b.id):=by
 have h1:(ms.map λm=>m.aq.toNat).Pairwise (· < ·):=tI.2 (hm.1.imp_of_mem λ{a b} aC ag h=>by
  have:=hm.2 a aC
  grind[dz])
 exact tI.1 (h1.sublist Zd)
theorem YN{t:Int}{v:ad}(h:(ts.getD t.toNat a8).Kind=5)(ai:v.Rest=[])(hm:lr (ts.getD t.toNat a8).al):cb ts t v=(eN ts (ts.getD t.toNat a8).al v.aB).flatMap Fd.text:=by
 rw[Ie h];have u5:sn (ts.getD t.toNat a8).al v.Rest:=by rw[ai];exact⟨.nil,λx I=>by grind⟩
 have e:jk ts (ts.getD t.toNat a8).al v.aB v.Rest=eN ts (ts.getD t.toNat a8).al v.aB:=by
  grind[jk]
 grind[ac',ZS,Ll,aaa,uM,ab9]
def ug(ts:List au)(t:Int)(v:ad):Prop:=sb ((⟨ts⟩:bY),t,v)=some (cb ts t v)
theorem ai8{ms:List bj}{v:ad}(hm:∀m,m∈ms->dz m.aq)(aj:v.aB.length=ms.length)(fN:ms.length<=1000)(aF:∀y,y∈v.aB->c6 y)(hs:∀i,i<ms.length->ey (ms.getD i aX) (v.aB.getD i aY)=false->(cb ts (ms.getD i aX).aQ (v.aB.getD i aY)).length<=4096/\ug ts (ms.getD i aX).aQ (v.aB.getD i aY)):
 ∀(k i:Nat) (acc:List UInt8),i+k=ms.length->acc.length<=i*5000->
 Be (acc,ms,(ms.length:Int),(i:Int),ts,v)=some (acc++(eN ts (ms.drop i) (v.aB.drop i)).flatMap Fd.text)
 |0,i,acc,ak,aC=>by
  simp_all[Be,ah,mc,eN]
 |k+1,i,acc,ak,aC=>by
  have aV:i<ms.length:=by omega
  have lH:i<v.aB.length:=by omega
  have dx:=bZ lH aY;rw[Be,af (by grind),af (bQ aV)];simp only[bL,aK,b6,ad.cr,uJ];rw[af (bQ lH),Sw (aF _ dx),mu aV aX,mu lH aY,eN];have rc:=λacc=>ai8 hm aj fN aF hs k (i+1) acc (by omega)
  cases aO:ey (ms.getD i aX) _ with
  |true=>
   grind[c0]
  |false=>
   obtain⟨h1,aa⟩:=hs i aV aO;rw[af (bQ lH),aa];simp only[aK];rw[aut (hm _ (bZ aV aX)) (by omega)];simp only[aK];have hid:=hm _ (bZ aV aX);unfold dz at hid;have a1:=Gr (p:=cb ts (ms.getD i aX).aQ (v.aB.getD i aY)) (by omega);have a2:=Na (n:=2*(ms.getD i aX).aq.toNat+(if(ms.getD i aX).dq then 1 else 0)) (by grind)
   have hlen:(hJ (ms.getD i aX).aq.toNat (ms.getD i aX).dq (cb ts (ms.getD i aX).aQ (v.aB.getD i aY))).length<=5000:=by
    grind[hJ]
   rw[af (pG (by omega)),c0 (by omega),rc _ (by grind),rI];rfl
theorem ai9{x:au}{v:ad}(hW:¬x.Kind=8)(aj:v.aB.length<=3000)(hs:∀y,y∈v.aB->(cb ts x.a6 y).length<=4096/\ug ts x.a6 y):
 ∀(k i:Nat) (acc:List UInt8),i+k=v.aB.length->acc.length<=i*5000->
 r' (acc,v.aB,(v.aB.length:Int),(i:Int),ts,v,x)=some (acc++(cg ts x.a6 (v.aB.drop i)).flatMap eD)
 |0,i,acc,ak,aC=>by
  simp_all[r',ah,mc,cg]
 |k+1,i,acc,ak,aC=>by
  have aV:i<v.aB.length:=by omega
  obtain⟨h1,aa⟩:=hs _ (bZ aV aY);rw[r',af (by grind),af (bQ aV)];simp only[bL,aK,b6,ad.cr];have a1:=Gr (p:=cb ts x.a6 (v.aB.getD i aY)) (by omega);rw[ah (by grind),aa];simp only[aK];rw[ZE (by omega)];simp only[aK]
  rw[af (pG (by omega)),c0 (by omega),ai9 hW aj hs k (i+1) _ (by omega) (by grind),mu aV aY,cg,me,rI]
theorem afM{x:au}{v:ad}(hW:x.Kind=8)(tz:v.aB.length=v.aZ.length)(aj:v.aB.length<=3000)(hs:∀y,y∈v.aB->(cb ts x.a6 y).length<=4096/\ug ts x.a6 y)(hk:∀y,y∈v.aZ->(cb ts x.Key y).length<=4096/\ug ts x.Key y):
 ∀(k i:Nat) (acc:List UInt8),i+k=v.aB.length->acc.length<=i*9000->
 r' (acc,v.aB,(v.aB.length:Int),(i:Int),ts,v,x)=some (acc++kp (cg ts x.Key (v.aZ.drop i)) (cg ts x.a6 (v.aB.drop i)))
 |0,i,acc,ak,aC=>by
  simp_all[r',ah,mc,cg,kp]
 |k+1,i,acc,ak,aC=>by
  have aV:i<v.aB.length:=by omega
  have lH:i<v.aZ.length:=by omega
  obtain⟨h1,aa⟩:=hs _ (bZ aV aY);obtain⟨aA,aU⟩:=hk _ (bZ lH aY);rw[r',af (by grind),af (bQ aV)];simp only[bL,aK,b6,ad.cr];have a1:=Gr (p:=cb ts x.a6 (v.aB.getD i aY)) (by omega);have a2:=Gr (p:=cb ts x.Key (v.aZ.getD i aY)) (by omega);rw[af (by grind),af (bQ lH),aU];simp only[aK]
  rw[ZE (by omega)];simp only[aK];rw[af (pG (by omega)),aa];simp only[aK];rw[ZE (by omega)];simp only[aK];rw[af (pG (by grind)),c0 (by omega),afM hW tz aj hs hk k (i+1) _ (by omega) (by grind),mu aV aY,mu lH aY,cg,cg,kp,rI,rI]
theorem avi(H:rZ ts){v:ad}(aF:c6 v){t:Int}(aJ:dy ts true t v)(k4:v.Kind<=4):qw (t,v,1,ts,0)=some (cb ts t v,ts,1):=by
 obtain⟨⟨g1,g2,g3,_⟩,ay⟩:=(gY _ _ _).1 aJ;have dn:di v.b5:=by cases aF with|mk _ _ _ _ _ _ _ _ _ dn _ _=>exact dn
 obtain⟨j,rfl⟩:∃j:Nat,t=(j:Int):=⟨t.toNat,by omega⟩
 have aM:j<ts.length:=by omega
 have dx:=bZ aM a8;have u7:=@H' ts (j:Int) v;have wW:=@Ia ts (j:Int) v;have P9:=@Ib ts (j:Int) v;have J7:=@Ic ts (j:Int) v;rw[qw];simp only[bL,aK];rw[af (bQ aM),show tH 0 1=1 by rfl];simp only[b6,ad.cr]at g3 ay u7 wW P9 J7⊢;generalize ts.getD j a8=x at*;rcases ay with h|h|h|h|h|h|h|h|h
 . grind
 . rw[ah (mt lK (by omega)),af (lL (by omega)),wW (by omega),Hg dn]
   grind[Mx,kx,b6,Tw]
 . grind
 . obtain⟨n,a',aj⟩:∃n:Nat,v.aq=(n:Int)/\n<=1000:=by
    rcases h.2.2.2.2.2.2.2 with⟨y,jQ,sU⟩|⟨_,h,_⟩
    . have:=H.S x dx (by omega) y jQ
      grind[dz]
    grind
   rw[ah (mt lK (by omega)),ah (mt lK (by omega)),ah (mt lK (by omega)),af (lL (by omega)),J7 (by omega),a',qU (by omega),Tw (by omega),b6];rfl
 all_goals omega
theorem avM(H:ef ts){t:Int}{v:ad}(aF:c6 v)(aJ:dy ts true t v)(hs:(cb ts t v).length<=4096)(k4:v.Kind<=4):sd ((⟨ts⟩:bY),t,v)=some (cb ts t v,0):=by
 rw[sd];simp[ad.cr];rw[alU H.T H.V aF (BU _ _ aJ)];rw[avi (H.V.nr H.T) aF aJ k4]
 grind
theorem afN(H:ef ts){v:ad}(aF:c6 v):∀t,dy ts true t v->(cb ts t v).length<=4096->ug ts t v:=by
 have zD:=H.V.nr H.T;have wV:=aF
 induction aF with
 |mk v hs h1 aa aA hk ak mB dJ dn ej cJ iY gU=>
  intro t aJ hw;obtain⟨⟨g1,g2,g3,g4⟩,ay⟩:=(gY _ _ _).1 aJ;obtain⟨j,rfl⟩:∃j:Nat,t=(j:Int):=⟨t.toNat,by omega⟩
  have aM:j<ts.length:=by omega
  have dx:=bZ aM a8;have fG:=g4 rfl;have leaf:=avM H wV aJ hw;have fN:=H.M _ dx;unfold ug;rw[sb,af (bQ aM)];simp only[bL,aK,ad.cr];rw[b6]at*;rcases ay with h|h|h|h|h|h|h|h|h
  . grind
  . grind
  . grind
  . grind
  . obtain⟨a1,a2,a3,a4,a5,bx,cp,cz⟩:=h;obtain⟨m1,m2⟩:=zD.A _ dx (.inl (by omega));obtain⟨f1,f2⟩:=mQ.1 cz;rw[YN (by rw[b6];omega) fG (by rw[b6];exact m1),b6]at hw
    have h0:=ai8 (ts:=ts) (ms:=(ts.getD j a8).al) (v:=v) m1.2 f1 (by omega) ak (λi hY aO=>by
     grind[bZ,Nat.le_trans,aaC]) (ts.getD j a8).al.length 0 [] (by omega) (by simp)
    have fF:Be ([],(ts.getD j a8).al,((ts.getD j a8).al.length:Int),0,ts,v)=_:=h0;rw[af (lL (by omega)),fF]
    grind[YN,b6]
  . obtain⟨a1,a2,a3,a4,a5,bx⟩:=h;obtain⟨m1,m2⟩:=zD.A _ dx (.inr (by omega));cases bF:dA (ts.getD j a8).al v.aq with
    |none=>rw[bF]at bx;cases bx.2.1
    |some m=>
     rw[bF]at bx;obtain⟨b1,b2,cf⟩:=bx;obtain⟨d3,d4⟩:=re bF;obtain⟨q,c3,dE,hl⟩:=WH m1 (by omega) bF;have hid:=m1.2 m d3;unfold dz at hid;have ao:=bZ (by omega:0<v.aB.length) aY;have aE:cg ts m.aQ v.aB=[cb ts m.aQ (v.aB.getD 0 aY)]:=by
      match aF:v.aB,b2 with
      |[a],_=>rw[cg,cg];rfl
     have z1:(cb ts m.aQ (v.aB.getD 0 aY)).length<=4096:=by
      rw[BV (t:=(j:Int)) (v:=v) (by rw[b6];omega),b6,bF,fp]at hw;simp only[aE,List.headD_cons]at hw;omega
     have z2:=gU _ ao (ak _ ao) m.aQ (dS.1 cf _ ao) z1;unfold ug at z2;obtain⟨n,a'⟩:∃n:Nat,v.aq=(n:Int):=⟨v.aq.toNat,by omega⟩
     have:=Na (n:=n) (by omega);rw[ah (mt lK (by omega)),af (lL (by omega)),dE];simp only[aK];rw[a',qU (by omega),yp (by omega)];simp only[aK];rw[af (bQ c3),af (by rw[b2];rfl),b6,hl,show(0:Int).toNat=0 from rfl,z2];simp only[aK]
     rw[af (pG (by omega)),BV (t:=(j:Int)) (v:=v) (by rw[b6];omega),b6,bF,a',b6]
     grind
  . obtain⟨a1,a2,a3,a4,a5,bx,cp,cz,a9⟩:=h
    have h0:=ai9 (ts:=ts) (x:=ts.getD j a8) (v:=v) (by omega) (by omega) (λy ao=>by
     rw[BW (by rw[b6];omega),b6]at hw;have aj:=jJ (aal (ts:=ts) (t:=(ts.getD j a8).a6) ao) hw
     grind[dS]) v.aB.length 0 [] (by omega) (by simp)
    have fF:r' ([],v.aB,(v.aB.length:Int),0,ts,v,ts.getD j a8)=_:=h0;rw[ah (mt lK (by omega)),ah (mt lK (by omega)),ah (mt lK (by omega)),af (lL (by omega)),af (lL (by omega)),fF,BW (by rw[b6];omega),b6];rfl
  . obtain⟨a1,a2,a3,a4,a5,bx,cp,cz,a9,h9,mo⟩:=h;rw[BX (by rw[b6];omega),b6]at hw;have e:(cg ts (ts.getD j a8).Key v.aZ).length=(cg ts (ts.getD j a8).a6 v.aB).length:=by grind[mO]
    have h0:=afM (ts:=ts) (x:=ts.getD j a8) (v:=v) (by omega) cz (by omega) (λy ao=>by
     have aj:=jJ (Tb e (.inr (Le ao))) hw
     grind[dS]) (λy ao=>by
     have aj:=jJ (Tb e (.inl (Le ao))) hw
     grind[dS]) v.aB.length 0 [] (by omega) (by simp)
    have fF:r' ([],v.aB,(v.aB.length:Int),0,ts,v,ts.getD j a8)=_:=h0;rw[ah (mt lK (by omega)),ah (mt lK (by omega)),ah (mt lK (by omega)),ah (mt lK (by omega)),af (lL (by omega)),fF,BX (by rw[b6];omega),b6];rfl
  . obtain⟨a1,a2,a3,a4,a5,bx,cp,cz,a9⟩:=h;rw[ah (mt lK (by omega)),ah (mt lK (by omega)),af (lL (by omega)),BY (by rw[b6];omega),b6]
    match dP:v.aB,cz with
    |[],_=>
     rw[Gi,ah (by simp),cg];rfl
    |[a],_=>
     have aC:a∈v.aB:=by grind
     have z1:(cb ts (ts.getD j a8).a6 a).length<=4096:=by
      rw[BY (by rw[b6];omega),b6,dP,cg,cg,lf]at hw;omega
     have z2:=gU _ aC (ak _ aC) _ (dS.1 a9 a aC) z1;rw[Gi,af (by simp),af (show bd 0 [a].length=true from rfl)];simp only[ad.cr];rw[show[a].getD (Int.toNat 0) aY=a from rfl,z2];simp only[bL,aK]
     rw[af (pG (by show 1+(cb ts (ts.getD j a8).a6 a).length<=_;omega)),show bl .i64 0 1=1 from by decide,Gi,ah (show ¬decide ((1:Int)<([a].length:Int))=true from by simp),cg,cg];rfl
end
theorem abU{a0 a2 a4 z0 z2 z4:Int}{a1 z1:Bool}{a3 z3:List UInt8}{l l2:List ad}{r:List dD}(aj:l.length<=1000000000)(h:∀y,y∈l->rb y=some y):∀(k i:Nat),i+k=l.length->
 DJ ((l.length:Int),(i:Int),a0,a1,a2,a3,a4,z0,z1,z2,z3,z4,l,l2,r)=some (a0,a1,a2,a3,a4,z0,z1,z2,z3,z4,l,l2,r)
 |0,i,ak=>by simp_all[DJ,ah]
 |k+1,i,ak=>by
  have aV:i<l.length:=by omega
  rw[DJ,af (by grind),af (bQ aV),b6,af (by grind)];simp only[ad.cr];rw[h _ (bZ aV aY)];simp only[bL,aK];rw[af (bQ aV),af (by grind),c0 (by omega),St aV];exact abU aj h k _ (by omega)
theorem abV{a0 a2 a4 z0 z2 z4:Int}{a1 z1:Bool}{a3 z3:List UInt8}{l l2:List ad}{r:List dD}(aj:l.length<=1000000000)(h:∀y,y∈l->rb y=some y):∀(k i:Nat),i+k=l.length->
 DK ((l.length:Int),(i:Int),a0,a1,a2,a3,a4,z0,z1,z2,z3,z4,l,l2,r)=some (a0,a1,a2,a3,a4,z0,z1,z2,z3,z4,l2,l,r)
 |0,i,ak=>by simp_all[DK]
 |k+1,i,ak=>by
  have aV:i<l.length:=by omega
  rw[DK,af (by grind),af (bQ aV),b6,af (by grind)];simp only[ad.cr];rw[h _ (bZ aV aY)];simp only[bL,aK];rw[af (bQ aV),af (by grind),c0 (by omega),St aV];exact abV aj h k _ (by omega)
theorem asx{v:ad}(aF:c6 v):wt v<=1000000000->rb v=some v:=by
 induction aF with
 |mk v hs h1 aa aA hk ak mB dJ dn ej cJ iY gU=>
  intro hw;have u9:=ln v;have hC:=Nc v.aZ;have l2:=Nc v.aB;have Kk:=ac3 v.Rest;have kk:∀y,y∈v.aZ->rb y=some y:=λy ao=>iY y ao (by have:=kM ao;omega)
  have Gq:=λy ao=>gU y ao (by have:=kM ao;omega)
  have bD:iS 120 v.aZ=some v.aZ:=by unfold iS;rw[af (wF (Hj (by simp) (by omega)))]
  have bJ:iS 120 v.aB=some v.aB:=by unfold iS;rw[af (wF (Hj (by simp) (by omega)))]
  have c1:iS 24 v.Rest=some v.Rest:=by unfold iS;rw[af (wF (Hj (by simp) (by omega)))]
  have T1:=abU (a0:=v.Kind) (a1:=v.cX) (a2:=v.b5) (a3:=v.ch) (a4:=v.aq) (z0:=0) (z1:=false) (z2:=0) (z3:=[]) (z4:=0) (l:=v.aZ) (l2:=v.aB) (r:=v.Rest) (by omega) kk v.aZ.length 0 (by simp)
  have T3:=abV (a0:=v.Kind) (a1:=v.cX) (a2:=v.b5) (a3:=v.ch) (a4:=v.aq) (z0:=0) (z1:=false) (z2:=0) (z3:=[]) (z4:=0) (l:=v.aB) (l2:=v.aZ) (r:=v.Rest) (by omega) Gq v.aB.length 0 (by simp);have T2:DJ ((v.aZ.length:Int),0,v.Kind,v.cX,v.b5,v.ch,v.aq,0,false,0,[],0,v.aZ,v.aB,v.Rest)=_:=T1
  have T4:DK ((v.aB.length:Int),0,v.Kind,v.cX,v.b5,v.ch,v.aq,0,false,0,[],0,v.aB,v.aZ,v.Rest)=_:=T3;rw[rb,bD,bJ,c1];simp only[bL,aK];rw[T2];simp only[aK];rw[T4];cases v;rfl
theorem ajr{tw tr:List au}{path:List Int}(ar:path.length<=90000)(dL:List Int):DI (tw,tr,dL,path)=some ((⟨0,false,0,[],0,[],[],[]⟩:ad),false,tw,tr,path,path):=by
 rw[DI];unfold D0 iS;rw[af (wF (e6 (by simp) (by omega)))];simp
theorem Th{tw tr:List au}{path:List Int}(ar:path.length<=90000)(id:Int)(dL:List Int):Gg (id,tw,tr,dL,path)=some ((⟨0,false,0,[],0,[],[],[]⟩:ad),false,tw,tr,path,path++[id]):=by
 rw[Gg];unfold D0 iS;rw[af (wF (e6 (by simp) (by omega)))];simp only[sH,bL,aK];rw[af (by rfl),af (e6 (by simp) (by grind))]
theorem LA{x:au}(aj:x.al.length<=1000)(id:Int):kG (x,id)=some (x3 x.al id):=by
 obtain⟨r,cc,eC⟩:=Bp (t:=x) (id:=id) (by omega)
 grind[am1,aur]
section
variable {tw tr:List au}
def jg(tw tr:List au)(dL path:List Int):ad ⊕ List Int->ad×Bool×List au×List au×List Int×List Int
 |.inl u=>(u,true,tw,tr,dL,path)
 |.inr p=>(⟨0,false,0,[],0,[],[],[]⟩,false,tw,tr,p,path)
def Uc(tw tr:List au)(dL path:List Int)(acc:List ad):List ad ⊕ List Int->(Bool×List au×List au×List Int×List Int) ⊕ (List au×List au×List Int×List ad×List Int)
 |.inl us=>.inr (tw,tr,dL,acc++us,path)
 |.inr p=>.inl (false,tw,tr,p,path)
def EM(tw tr:List au)(dL path:List Int):List ad ⊕ List Int->List ad×Bool×List au×List au×List Int×List Int
 |.inl us=>(us,true,tw,tr,dL,path)
 |.inr p=>([],false,tw,tr,p,path)
def Part(tw tr:List au)(f:ka)(path:List Int)(t rt:Int)(v:ad):Prop:=∀(step:Int) (dL:List Int),Bh (step,t,v,rt,tw,tr,dL,path)=some (jg tw tr dL path (f t v rt (path++[step])))
theorem adh{t rt step:Int}{v:ad}{dL path:List Int}{o:ad ⊕ List Int}(ar:path.length<=90000)(h:DM (t,v,rt,tw,tr,dL,path++[step])=some (jg tw tr dL (path++[step]) o)):Bh (step,t,v,rt,tw,tr,dL,path)=some (jg tw tr dL path o):=by
 rw[Bh];simp only[bL,aK,ad.cr];rw[af (e6 (by simp) (by grind)),h];have aR:gq .i64 ((path++[step]).length:Int) 1=(path.length:Int):=by grind[om]
 have bw:gW 0 (path.length:Int) (path++[step]).length=true:=oj.2 (by grind);cases o with
 |inl u=>
  simp only[aK,ad.cr,jg];simp_all
 |inr p=>
  simp only[aK,ad.cr,jg];simp_all
theorem alV{f:ka}{path:List Int}{t rt:Int}{l:List ad}(aj:l.length<=50000)(h:∀y,y∈l->Part tw tr f path t rt y):∀(k i:Nat) (acc:List ad) (dL:List Int),i+k=l.length->acc.length<=i->
 DA (t,rt,l,(l.length:Int),(i:Int),tw,tr,dL,acc,path)=some (Uc tw tr dL path acc (jC f path t rt i (l.drop i)))
 |0,i,acc,dL,ak,aC=>by
  simp_all[DA,ah,mc,jC,Uc]
 |k+1,i,acc,dL,ak,aC=>by
  have aV:i<l.length:=by omega
  rw[DA,af (by grind),af (bQ aV),b6];simp only[ad.cr];rw[h _ (bZ aV aY),mu aV aY,jC];cases f t (l.getD i aY) rt _ with
  |inr p=>rfl
  |inl u=>
   simp only[bL,aK,jg,gN,ad.cr];rw[ah (by simp),af (e6 (by simp) (by grind)),c0 (by omega),alV aj h k (i+1) _ dL (by omega) (by grind)];cases jC f path t rt (i+1) _ with
   |inr p=>rfl
   |inl us=>simp[Uc,qA]
theorem Lf{f:ka}{path:List Int}{t rt:Int}{l:List ad}(aj:l.length<=50000)(h:∀y,y∈l->Part tw tr f path t rt y)(dL:List Int):
 wc (t,l,rt,tw,tr,dL,path)=some (EM tw tr dL path (jC f path t rt 0 l)):=by
 have h0:=alV aj h l.length 0 [] dL (by simp) (by simp);have fF:DA (t,rt,l,l.length,0,tw,tr,dL,[],path)=_:=h0;rw[wc,fF,qM];cases jC f _ t rt 0 l<;>rfl
def EN(tw tr:List au)(dL path:List Int)(x:au)(v:ad)(y:au)(acc:List ad):List ad ⊕ List Int->(Bool×List au×List au×List Int×ad×List Int) ⊕ (List au×List au×List Int×au×ad×au×Int×Bool×Int×List UInt8×Int×Int×Bool×Int×List UInt8×Int×List Int×List ad)
 |.inl us=>.inr (tw,tr,dL,x,v,y,0,false,0,[],0,v.Kind,false,0,[],0,path,acc++us)
 |.inr p=>.inl (false,tw,tr,p,⟨0,false,0,[],0,[],[],[]⟩,path)
theorem adi {f:ka}{path:List Int}(ar:path.length<=90000){x y:au}{v:ad}(I:x.al.length<=1000)(ao:y.al.length<=1000)(aj:v.aB.length=x.al.length)(aF:∀q,q∈v.aB->c6 q)
 (av:∀n,n∈y.al->n.cV=true->rb n.cB=some n.cB)
 (h:∀i,i<x.al.length->∀n,n∈y.al->Part tw tr f path (x.al.getD i aX).aQ n.aQ (v.aB.getD i aY)/\∀p u,f (x.al.getD i aX).aQ (v.aB.getD i aY) n.aQ p= .inl u->c6 u):∀(k j:Nat) (acc:List ad) (dL:List Int),j+k=y.al.length->acc.length<=j->
 xZ (y.al,(y.al.length:Int),(j:Int),tw,tr,dL,x,v,y,0,false,0,[],0,v.Kind,false,0,[],0,path,acc)=some (EN tw tr dL path x v y acc (ph f x v path (y.al.drop j)))
 |0,j,acc,dL,aM,aC=>by
  simp_all[xZ,ah,mc,ph,EN,ad.cr]
 |k+1,j,acc,dL,aM,aC=>by
  have aV:j<y.al.length:=by omega
  have o8:=bZ aV aX;have rc:=λacc dL=>adi ar I ao aj aF av h k (j+1) acc dL (by omega)
  rw[xZ,af (by grind),af (bQ aV),b6];simp only[bL,aK,ad.cr,uJ];rw[LA I,mu aV aX,ph];unfold vo x3;generalize a':y.al.getD j aX=n at*;cases bF:e9 x.al n.aq with
  |none=>
   simp only[aK,j7];rw[af trivial];cases azt:n.cV with
   |false=>
    simp only[j7];rw[af trivial,Th ar];rfl
   |true=>
    rw[ah (by simp),av n o8 azt];simp only[aK];rw[af (e6 (by omega) (by simp;omega)),c0 (by omega),rc _ _ (by simp;omega),af trivial];cases ph f x v path (y.al.drop (j+1))with
    |inr p=>rfl
    |inl us=>simp[EN,qA]
  |some i=>
   obtain⟨i1,_,_⟩:=lx bF;have i2:i<v.aB.length:=by omega
   obtain⟨tM,vg⟩:=h i i1 n o8;simp only[aK,gN];rw[ah (by simp),af (bQ i1),af (bQ i2),b6,tM n.aq dL];have V5:=Sw (m:=x.al.getD i aX) (aF _ (bZ i2 aY));cases ay:f (x.al.getD i aX).aQ (v.aB.getD i aY) n.aQ (path++[n.aq])with
   |inr p=>
    simp only[aK,jg,ad.cr,j7,gN,Bool.and_false];rw[af (bQ i1),af (bQ i2),V5];rw[adb];generalize ey (x.al.getD i aX) (v.aB.getD i aY)=b at*;cases b with
    |false=>rfl
    |true=>
     simp only[nk];rw[af trivial,Th ar];rfl
   |inl u=>
    have hu:=Sw (m:=n) (vg _ u ay);simp only[aK,jg,ad.cr,j7,gN,Bool.and_true];rw[af (bQ i1),af (bQ i2),V5];simp only[aK,dK,dB];rw[Sv];generalize ey (x.al.getD i aX) (v.aB.getD i aY)=b at*
    have tail:(some [u]>>=λt110=>if room 120 (acc++t110).length=true then xZ (y.al,(y.al.length:Int),bl .i64 (j:Int) 1,tw,tr,dL,x,v,y,0,false,0,[],0,v.Kind,false,0,[],0,path,acc++t110)else none)=some (EN tw tr dL path x v y acc (qA (.inl u) (ph f x v path (y.al.drop (j+1))))):=by
     simp only[bL,aK];rw[af (e6 (by simp) (by simp;omega)),c0 (by omega),rc _ _ (by simp;omega)];cases ph f x v path (y.al.drop (j+1))with
     |inr p=>rfl
     |inl us=>simp[EN,qA]
    cases b with
    |false=>grind
    |true=>
     rw[af rfl,hu];cases ag:ey n u with
     |true=>grind
     |false=>
      rw[Th ar];rfl
def ND(tw tr:List au)(dL path:List Int)(v:ad)(its:List ad)(acc:List dD):List dD ⊕ List Int->(Bool×List au×List au×ad×List Int×List Int) ⊕ (List au×List au×List Int×Int×Bool×Int×List UInt8×Int×Int×Bool×Int×List UInt8×Int×List Int×List ad×List dD)
 |.inl rs=>.inr (tw,tr,dL,0,false,0,[],0,v.Kind,false,0,[],0,path,its,acc++rs)
 |.inr p=>.inl (false,tw,tr,⟨0,false,0,[],0,[],[],[]⟩,path,p)
theorem adj {path:List Int}(ar:path.length<=90000){x y:au}{v:ad}(I:x.al.length<=1000)(ao:y.al.length<=1000)(aj:v.aB.length=x.al.length)(aF:∀q,q∈v.aB->c6 q)
 (h:∀i,i<x.al.length->ug tw (x.al.getD i aX).aQ (v.aB.getD i aY)){its:List ad}(dL:List Int):∀(k i:Nat) (acc:List dD),i+k=x.al.length->acc.length<=i->
 vZ (x.al,(x.al.length:Int),(i:Int),tw,tr,dL,v,y,0,false,0,[],0,v.Kind,false,0,[],0,path,its,acc)=some (ND tw tr dL path v its acc (jP tw y path (x.al.drop i) (v.aB.drop i)))
 |0,i,acc,ak,aC=>by
  simp_all[vZ,ah,mc,jP,ND]
 |k+1,i,acc,ak,aC=>by
  have aV:i<x.al.length:=by omega
  have lH:i<v.aB.length:=by omega
  have rc:=λacc=>adj ar I ao aj aF h (its:=its) dL k (i+1) acc (by omega)
  rw[vZ,af (by grind),af (bQ aV),b6];simp only[bL,aK,ad.cr,uJ];rw[LA ao,mu aV aX,mu lH aY,jP];have hs:=yG y.al (x.al.getD i aX).aq;have hk:(x3 y.al (x.al.getD i aX).aq).2=(dA y.al (x.al.getD i aX).aq).isSome:=by
   unfold x3
   grind
  simp only[aK];rw[hk];by_cases bD:(dA y.al (x.al.getD i aX).aq).isSome=true
  . rw[af bD,af bD,c0 (by omega),rc _ (by omega)]
  rw[ah bD,ah bD];by_cases bJ:(x.al.getD i aX).dq=true
  . rw[af bJ,af bJ,Th ar];rfl
  rw[ah bJ,ah bJ,af (bQ lH),Sw (aF _ (bZ lH aY))];simp only[aK];cases ey (x.al.getD i aX) (v.aB.getD i aY)with
  |true=>rw[ah (by simp),af rfl,c0 (by omega),rc _ (by omega)]
  |false=>
   have fN:=h i aV;rw[af (show(!false)=true from rfl),ah (show ¬false=true by simp),af (bQ lH),fN];simp only[aK];rw[af (e6 (by simp) (by simp;omega)),c0 (by omega),rc _ (by simp_all)];cases jP tw y path (x.al.drop (i+1)) (v.aB.drop (i+1))with
   |inr p=>rfl
   |inl us=>simp[ND,qA]
theorem asy {f:ka}{path:List Int}(ar:path.length<=90000){x y:au}{v:ad}(k5:v.Kind=5)(I:x.al.length<=1000)(ao:y.al.length<=1000)(aj:v.aB.length=x.al.length)(aF:∀q,q∈v.aB->c6 q)
 (av:∀n,n∈y.al->n.cV=true->rb n.cB=some n.cB)
 (h:∀i,i<x.al.length->∀n,n∈y.al->Part tw tr f path (x.al.getD i aX).aQ n.aQ (v.aB.getD i aY)/\∀p u,f (x.al.getD i aX).aQ (v.aB.getD i aY) n.aQ p= .inl u->c6 u)
 (hm:∀i,i<x.al.length->ug tw (x.al.getD i aX).aQ (v.aB.getD i aY))(dL:List Int):
 Kq (x,v,y,tw,tr,dL,path)=some (jg tw tr dL path (HL tw f x y v path)):=by
 have h0:=adi ar I ao aj aF av h y.al.length 0 [] dL (by simp) (by simp);have fF:xZ (y.al,y.al.length,0,tw,tr,dL,x,v,y,0,false,0,[],0,v.Kind,false,0,[],0,path,[])=_:=h0;rw[Kq];simp[ad.cr];rw[fF,qM];unfold HL;cases ph f x v path _ with
 |inr p=>rfl
 |inl its=>
  have h1:=adj (tr:=tr) ar I ao aj aF hm (its:=its) dL x.al.length 0 [] (by simp) (by simp);have jm:vZ (x.al,x.al.length,0,tw,tr,dL,v,y,0,false,0,[],0,v.Kind,false,0,[],0,path,its,[])=_:=h1;simp only[bL,aK,EN,ox];rw[jm,qM,qM];cases jP tw y path _ v.aB with
  |inr p=>rfl
  |inl r=>simp_all[ND,vR,tG,jg]
theorem auu {f:ka}{path:List Int}(ar:path.length<=90000){x y:au}{v:ad}(k6:v.Kind=6)(I:x.al.length<=1000)(ao:y.al.length<=1000)(h1:v.aB.length=1){i:Nat}(ak:e9 x.al v.aq=some i)
 (h:∀n,n∈y.al->Part tw tr f path (x.al.getD i aX).aQ n.aQ (v.aB.getD 0 aY))
 (hm:ug tw (x.al.getD i aX).aQ (v.aB.getD 0 aY))(dL:List Int):
 Kw (x,v,y,tw,tr,dL,path)=some (jg tw tr dL path (BO tw f x y v path)):=by
 obtain⟨i1,_,_⟩:=lx ak;have et:bd 0 v.aB.length=true:=by rw[h1];rfl
 rw[Kw,LA I,LA ao];unfold BO x3;simp only[bL,aK,ad.cr,ak];cases bF:e9 y.al v.aq with
 |some k=>
  obtain⟨k1,_,_⟩:=lx bF;simp only;rw[af trivial,af (bQ i1),af et,af (bQ k1),b6,b6,show(0:Int).toNat=0 from rfl,h _ (bZ k1 aX)];cases f _ (v.aB.getD 0 aY) (y.al.getD k aX).aQ _ with
  |inr p=>
   rfl
  |inl u=>
   simp_all[jg,gN,tG,ad.cr,ah]
 |none=>
  cases y.Open with
  |false=>
   simp_all[af,ajr,dK,dB,jg]
  |true=>
   simp_all[ug,gN,ah,af,bQ,b6,aK,dc,jg]
def NF(tw tr:List au)(n:Nat):Prop:=∀{v:ad},c6 v->∀{t rt:Int} {path:List Int} (dL:List Int),dy tw true t v->j' tw n t v->0<=rt->rt<tr.length->path.length+n<=50000->
 DM (t,v,rt,tw,tr,dL,path)=some (jg tw tr dL path (hO tw tr n t v rt path))
theorem auv(HW:ef tw)(HR:ef tr){n:Nat}(ih:NF tw tr n):NF tw tr (n+1):=by
 intro v aF t rt path dL aJ aD jb cc ar;unfold j' at aD;obtain⟨⟨z1,aFt,aFu⟩,rY,sX,oM⟩:=aD;have SW:=HW.V.nr HW.T;have da:=HR.V.nr HR.T;have u9:=ln v;obtain⟨⟨g1,g2,g3,g4⟩,ay⟩:=(gY _ _ _).1 aJ;obtain⟨j,rfl⟩:∃j:Nat,t=(j:Int):=⟨t.toNat,by omega⟩
 obtain⟨k,rfl⟩:∃k:Nat,rt=(k:Int):=⟨rt.toNat,by omega⟩
 have aM:j<tw.length:=by omega
 have pX:k<tr.length:=by omega
 have dx:=bZ aM a8;have iW:=bZ pX a8;have fG:=g4 rfl;cases aF with
 |mk _ hs h1 aa aA hk ak mB dJ dn ej cJ=>
 rw[DM,af (bQ aM),Dl];simp only[bL,aK,b6,ad.cr];rw[b6]at g3 ay rY sX oM;rw[af (bQ pX)];have Uu:∀q,q∈(tr.getD k a8).al->q.cV=true->rb q.cB=some q.cB:=λq aE av=>asx ((HR.T _ iW).xT _ aE) (by have:=HR.W _ iW q aE av;omega)
 generalize I:tw.getD j a8=x at*;generalize ao:tr.getD k a8=y at*;have Mv:∀{t rt:Int} {q:ad},q∈v.aB->dy tw true t q->j' tw n t q->0<=rt->rt<tr.length->Part tw tr (hO tw tr n) path t rt q:=λ{t rt q} aE aJ bq a0 a1 step dL=>adh (by omega) (ih (ak q aE) dL aJ bq a0 a1 (by simp;omega))
 have aCj:∀{t rt:Int} {q:ad},q∈v.aZ->dy tw true t q->j' tw n t q->0<=rt->rt<tr.length->Part tw tr (hO tw tr n) path t rt q:=λ{t rt q} aE aJ bq a0 a1 step dL=>adh (by omega) (ih (hk q aE) dL aJ bq a0 a1 (by simp;omega))
 have F:=ajr (tw:=tw) (tr:=tr) (path:=path) (by omega) dL;by_cases cq:x.Kind=y.Kind
 . rw[ah (show ¬(!(decide (x.Kind=y.Kind)))=true by simp[cq])];have i':∀{t rt:Int},v.aB=[]->wc (t,v.aB,rt,tw,tr,dL,path)=some ([],true,tw,tr,dL,path):=λ{t rt} he=>by
    have:=Lf (tw:=tw) (tr:=tr) (f:=hO tw tr n) (path:=path) (t:=t) (rt:=rt) (l:=v.aB) (by omega) (λq aE=>by rw[he]at aE;cases aE) dL;rw[this,he];rfl
   rcases ay with h|h|h|h|h|h|h|h|h
   . obtain⟨a1,a2,a3,a4,a5,bx,cp⟩:=h;have hf:x.Kind=1:=by omega
     have aj:tR x y v:=⟨λh=>by omega,λh=>by omega,λh=>by omega⟩
     rw[yF cq (by omega) aj];simp only[hf];simp only[i' bx,aK,gL,dK,dB,Int.reduceEq,gN,jg];cases v;simp_all
   . obtain⟨a1,a2,a3,a4,a5,bx,cp,cz,a9⟩:=h;have hf:x.Kind=2:=by omega
     by_cases aj:y.cA<=v.b5/\v.b5<=y.cD
     . rw[yF cq (by omega) (show tR x y v from⟨λ_=>aj,λh=>by omega,λh=>by omega⟩)];simp only[hf];simp only[i' bx,aj.1,aj.2,aK,gL,fg,dK,dB,dc,Int.reduceEq,gN,nk,jg];cases v;simp_all
     . rw[Ta cq (by omega) (show ¬tR x y v fromλh=>aj (h.1 hf))];have ag:(bif decide (y.cA<=v.b5)then decide (v.b5<=y.cD)else false)=false:=by
        by_cases c:y.cA<=v.b5<;>simp[c]
        omega
       simp only[hf,ag];simp only[F,aK,fg,dc,j7,jg,ad.cr]
   . obtain⟨a1,a2,a3,a4,a5,bx,cp,cz⟩:=h;have hf:x.Kind=3:=by omega
     by_cases aj:(v.ch.length:Int)<=y.Max
     . rw[yF cq (by omega) (show tR x y v from⟨λh=>by omega,λ_=>aj,λh=>by omega⟩)];simp only[hf];simp only[i' bx,aj,aK,gL,fg,dK,dB,dc,Int.reduceEq,gN,nk,jg];cases v;simp_all
     . rw[Ta cq (by omega) (show ¬tR x y v fromλh=>aj (h.2.1 hf))];simp only[hf];simp only[F,aj,aK,fg,gL,dc,dB,Int.reduceEq,dK,j7,jg,ad.cr]
   . obtain⟨a1,a2,a3,a4,a5,bx,cp,cz⟩:=h;have hf:x.Kind=4:=by omega
     obtain⟨r,cc,_,eC⟩:=G3 (t:=y) v.aq (by have:=(HR.T _ iW).1;have:=kg (gP reachBytes);omega);have ai:r.2=true↔∃s,s∈y.bW/\s.aq=v.aq:=by
      rcases eC with⟨q,c3,dE,_,rfl⟩|⟨q,rfl⟩
      . exact⟨λ_=>⟨_,bZ c3 jj,dE⟩,λ_=>rfl⟩
      . constructor
        . intro h;simp at h
        intro aE;obtain⟨s,s1,s2⟩:=aE;obtain⟨i,ak,rfl⟩:=la s1;exact absurd s2 (by have:=q i ak;rwa [gM ak]at this)
     by_cases aj:(∃s,s∈y.bW/\s.aq=v.aq)\/y.Open=true
     . rw[yF cq (by omega) (show tR x y v from⟨λh=>by omega,λh=>by omega,λ_=>aj⟩)];have ag:(bif r.2 then true else y.Open)=true:=by
        rcases aj with aj|aj
        . rw[ai.2 aj];rfl
        . rw[aj];cases r.2<;>rfl
       simp only[hf,cc];simp only[i' bx,ag,aK,gL,fg,dK,dB,dc,Int.reduceEq,gN,jg];cases v;simp_all
     . rw[Ta cq (by omega) (show ¬tR x y v fromλh=>aj (h.2.2 hf))];have ag:(bif r.2 then true else y.Open)=false:=by
        cases y3:r.2 with
        |true=>exact absurd (.inl (ai.1 y3)) aj
        |false=>
         cases aO:y.Open with
         |true=>exact absurd (.inr aO) aj
         |false=>rfl
       simp only[hf,cc];simp only[F,ag,aK,fg,gL,dc,dB,Int.reduceEq,dK,j7,jg,ad.cr]
   . obtain⟨a1,a2,a3,a4,a5,bx,cp,cz⟩:=h;have hf:x.Kind=5:=by omega
     obtain⟨m1,m2⟩:=SW.A _ dx (.inl (by omega));obtain⟨m3,m4⟩:=da.A _ iW (.inl (by omega));obtain⟨f1,f2⟩:=mQ.1 cz
     have ai:=asy (tw:=tw) (tr:=tr) (f:=hO tw tr n) (path:=path) (by omega) (x:=x) (y:=y) a1 (by omega) (by omega) f1 ak Uu (λi hY q aE=>by
      have hm:=bZ (by omega:i<v.aB.length) aY;obtain⟨ja,c3⟩:=HR.lC.mem iW aE;exact⟨Mv hm (f2 i hY) (rY hf i hY) ja c3,λp u hu=>(ZD HW HR n (ak _ hm) (f2 i hY) (rY hf i hY) ja c3 hu).1⟩) (λi hY=>by
      have hm:=bZ (by omega:i<v.aB.length) aY
      exact afN HW (ak _ hm) _ (f2 i hY) (rY hf i hY).len) dL
     rw[Xo cq hf];simp only[hf,ai,aK,gL,fg,dK,dB,dc,Int.reduceEq,ad.cr]
   . obtain⟨a1,a2,a3,a4,a5,bx⟩:=h;have hf:x.Kind=6:=by omega
     obtain⟨m1,m2⟩:=SW.A _ dx (.inr (by omega));obtain⟨m3,m4⟩:=da.A _ iW (.inr (by omega));cases bF:dA x.al v.aq with
     |none=>rw[bF]at bx;cases bx.2.1
     |some m=>
      rw[bF]at bx;obtain⟨b1,b2,cf⟩:=bx;have o9:=yG x.al v.aq;rw[bF]at o9;cases dP:e9 x.al v.aq with
      |none=>rw[dP]at o9;cases o9
      |some i=>
      obtain⟨d1,d2,_⟩:=lx dP;obtain⟨d3,d4⟩:=re bF;have em:x.al.getD i aX=m:=yC m1 (bZ d1 aX) d3 (by rw[d2,d4]);have hm:=bZ (by omega:0<v.aB.length) aY;have qF:=dS.1 cf _ hm
      have ai:=auu (tw:=tw) (tr:=tr) (f:=hO tw tr n) (path:=path) (by omega) (x:=x) (y:=y) a1 (by omega) (by omega) b2 dP (λq aE=>by
       obtain⟨ja,c3⟩:=HR.lC.mem iW aE;rw[em]
       exact Mv hm qF (sX hf _ bF _ hm) ja c3) (by rw[em];exact afN HW (ak _ hm) _ qF (sX hf _ bF _ hm).len) dL
      rw[Xp cq hf];simp only[hf,ai,aK,gL,fg,dK,dB,dc,Int.reduceEq,ad.cr]
   . obtain⟨a1,a2,a3,a4,a5,bx,cp,cz,a9⟩:=h;have hf:x.Kind=7:=by omega
     obtain⟨ja,c3⟩:=HR.lC.elem iW (by omega);have aE:=Lf (tw:=tw) (tr:=tr) (f:=hO tw tr n) (path:=path) (t:=x.a6) (rt:=y.a6) (l:=v.aB) (by omega) (λq aE=>Mv aE (dS.1 a9 q aE) ((oM (by omega)).1 q aE) ja c3) dL;rw[Xq cq hf];unfold Ej;by_cases aj:(v.aB.length:Int)<=y.Max
     . rw[af aj];simp only[hf,aE,aj,aK,gL,fg,dK,dB,dc,Int.reduceEq,gN];cases jC (hO tw tr n) path x.a6 y.a6 0 v.aB with
       |inr p=>rfl
       |inl us=>simp only[EM,tG,jg,gN,dK,dB,a1,a2,a3,a4,a5]
     . rw[ah aj];simp only[hf];simp only[F,aj,aK,fg,gL,dc,dB,Int.reduceEq,dK,j7,jg,ad.cr]
   . obtain⟨a1,a2,a3,a4,a5,bx,cp,cz,a9,h9,mo⟩:=h;have hf:x.Kind=8:=by omega
     obtain⟨ja,c3⟩:=HR.lC.elem iW (by omega);obtain⟨dE,hl⟩:=HR.lC.key iW (by omega);have aE:=Lf (tw:=tw) (tr:=tr) (f:=hO tw tr n) (path:=path) (t:=x.a6) (rt:=y.a6) (l:=v.aB) (by omega) (λq aE=>Mv aE (dS.1 h9 q aE) ((oM (by omega)).1 q aE) ja c3) dL
     have aAu:=Lf (tw:=tw) (tr:=tr) (f:=hO tw tr n) (path:=path) (t:=x.Key) (rt:=y.Key) (l:=v.aZ) (by omega) (λq aE=>aCj aE (dS.1 a9 q aE) ((oM (by omega)).2 q aE) dE hl) dL;rw[Xr cq hf];unfold Ek;by_cases aj:(v.aB.length:Int)<=y.Max
     . rw[af aj];simp only[hf,aAu,aj,aK,gL,fg,dK,dB,dc,Int.reduceEq,gN];cases jC (hO tw tr n) path x.Key y.Key 0 v.aZ with
       |inr p=>rfl
       |inl ks=>
        simp only[EM,vR,gN,dK,dB,aE,aK];cases jC (hO tw tr n) path x.a6 y.a6 0 v.aB with
        |inr p=>rfl
        |inl us=>simp only[EM,tG,jg,gN,dK,dB,a1,a2,a3,a4,a5]
     . rw[ah aj];simp only[hf];simp only[F,aj,aK,fg,gL,dc,dB,Int.reduceEq,dK,j7,jg,ad.cr]
   . obtain⟨a1,a2,a3,a4,a5,bx,cp,cz,a9⟩:=h;have hf:x.Kind=9:=by omega
     obtain⟨ja,c3⟩:=HR.lC.elem iW (by omega);have aE:=Lf (tw:=tw) (tr:=tr) (f:=hO tw tr n) (path:=path) (t:=x.a6) (rt:=y.a6) (l:=v.aB) (by omega) (λq aE=>Mv aE (dS.1 a9 q aE) ((oM (by omega)).1 q aE) ja c3) dL;rw[Xs cq hf];unfold MI
     simp only[hf,aE,aK,gL,fg,dK,dB,dc,Int.reduceEq,gN];cases jC (hO tw tr n) path x.a6 y.a6 0 v.aB with
     |inr p=>rfl
     |inl us=>simp only[EM,tG,jg,gN,dK,dB,a1,a2,a3,a4,a5]
 . rw[af (show(!(decide (x.Kind=y.Kind)))=true by simp[cq]),afL cq,F];simp only[aK,ad.cr,jg]
theorem auw:NF tw tr 0:=by
 intro v _ _ _ _ _ _ h;cases h
theorem adk(HW:ef tw)(HR:ef tr):∀n,NF tw tr n
 |0=>auw
 |n+1=>auv HW HR (adk HW HR n)
end
def Iu(x:iN):Prop:=xx x/\x.eg.length*3<=reachBytes
def rX(aW:List iN):Prop:=aW.length*32<=reachBytes/\∀x,x∈aW->Iu x
def Nu(c:tp):Prop:=eO c.Kind/\eO c.Node/\eO c.A/\eO c.B
theorem rX.set{aW:List iN}(h:rX aW)(j:Nat){x:iN}(I:Iu x):rX (aW.set j x):=by
 refine⟨by rw[mF];exact h.1,λy ao=>?_⟩;rcases QN ao with ao|rfl
 . exact h.2 y ao
 grind
theorem uX(a:Int):eO (IntKind.wrap .u8 a):=by
 have:IntKind.wrap .u8 a=a%256:=by rfl
 grind[eO]
theorem Xv{n:Nat}(h:n*3<=reachBytes):room 3 n=true:=by
 grind[reachBytes,room,kJ,en]
theorem aCJ{n:Nat}(h:n*32<=reachBytes):room 32 n=true:=by
 grind[reachBytes,room,kJ,en]
theorem avN{L:List tp}(FB:L.length<=reachBytes)(ay:∀c,c∈L->Nu c){i:Nat}(ak:i<L.length){aW:List iN}(h:rX aW)(a':0<aW.length):
 ∃w2,rX w2/\w2.length=aW.length/\lV (L,(i:Int),aW)=lV (L,((i+1:Nat):Int),w2):=by
 obtain⟨bD,bJ,c1,gr⟩:=ay _ (bZ ak wa);have ai:=kg FB;unfold eO at bD bJ c1 gr;have gv:aW.length<9223372036854775807:=by have:=h.1;grind[reachBytes]
 obtain⟨j,aM,lG⟩:∃j:Nat,c5 (cU .i64 (L.getD i wa).Node) (aW.length:Int)=(j:Int)/\j<aW.length:=by
  have e:c5 (cU .i64 (L.getD i wa).Node) (aW.length:Int)=(L.getD i wa).Node%(aW.length:Int):=by
   rw[rn ⟨by omega,by omega⟩,lv bJ.1 (by simp)]
  have h0:=sI (L.getD i wa).Node (by omega:(aW.length:Int)≠0);have h1:=sG (L.getD i wa).Node (by omega:(0:Int)<aW.length);exact⟨((L.getD i wa).Node%(aW.length:Int)).toNat,by grind,by omega⟩
 obtain⟨⟨dJ,dn,ej,cJ,fW,n6⟩,n7⟩:=h.2 _ (bZ lG gZ);have av:∀z:Nat,z<(aW.getD j gZ).eg.length->eO ((aW.getD j gZ).eg.getD z oh).aq/\eO ((aW.getD j gZ).eg.getD z oh).aQ/\eO ((aW.getD j gZ).eg.getD z oh).lp:=λz bq=>fW _ (bZ bq _)
 rw[lV,af (by
  grind),af (bQ ak),b6]
 simp only[bL,aK];rw[af (show(!(decide ((aW.length:Int)=0)))=true from by grind),aM,af (bQ lG),b6,af (lL lG),ox,af (Xv n7),af (lL lG)];simp only[fg,dc,lG];have aR:bl .i64 (i:Int) 1=((i+1:Nat):Int):=c0 (by omega);rw[aR]
 generalize ar:aW.getD j gZ=p at*;generalize PL:L.getD i wa=c at*;have zf:∀{a b xO:Int} {l:List tq},eO a->eO b->eO xO->(∀q,q∈l->eO q.aq/\eO q.aQ/\eO q.lp)->l.length<=p.eg.length+8/\(l.length<=p.eg.length\/l.length<=8)->Iu ⟨p.Kind,a,b,xO,l⟩:=λ{a b xO l} aC ag ay aj a'=>⟨⟨dJ,aC,ag,ay,aj,by grind[reachBytes]⟩,by grind[reachBytes]⟩
 have gs:∀q:iN,(aW.set j q).getD j bX=q:=λq=>by rw[gM (by rw[mF];grind)];simp
 have M7:∀{a:Int},0<=a/\a<=255->eO a:=λh=>h
 have aBr:(p.eg.length:Int)<9223372036854775807:=by unfold reachBytes at n7;omega
 have par:∀{l:List tq},(∀q,q∈l->eO q.aq/\eO q.aQ/\eO q.lp)->l.length<=p.eg.length+8/\(l.length<=p.eg.length\/l.length<=8)->Iu ⟨p.Kind,p.A,p.B,p.C,l⟩:=λ{l} h1 aa=>zf dn ej cJ h1 aa
 have self:p.eg.length<=p.eg.length+8/\(p.eg.length<=p.eg.length\/p.eg.length<=8):=by simp
 by_cases aj:0<p.eg.length
 . have kX:(0:Int)<(p.eg.length:Int):=by omega
   obtain⟨z,bq,gT⟩:∃z:Nat,c5 (cU .i64 c.A) (p.eg.length:Int)=(z:Int)/\z<p.eg.length:=by
    have e:c5 (cU .i64 c.A) (p.eg.length:Int)=c.A%(p.eg.length:Int):=by
     rw[rn ⟨by omega,by omega⟩,lv c1.1 (by simp)]
    have h0:=sI c.A (by omega:(p.eg.length:Int)≠0);have h1:=sG c.A kX;exact⟨(c.A%(p.eg.length:Int)).toNat,by omega,by omega⟩
   simp only[kX,bq,fg,dc,gs,List.set_set];rw[af (show(!(decide ((p.eg.length:Int)=0)))=true from by grind)];by_cases js:c5 c.Kind 8=0
   . simp only[js,fg,dc];exact⟨_,h.set j (zf (uX _) ej cJ fW self),mF,rfl⟩
   by_cases k1:c5 c.Kind 8=1
   . simp only[k1,fg,gL,Int.reduceEq,dK,dc,dB];exact⟨_,h.set j (zf dn (uX _) cJ fW self),mF,rfl⟩
   by_cases k2:c5 c.Kind 8=2
   . have Qj:0<=c5 c.A 6:=by rw[lv c1.1 (by simp)];omega
     simp only[k2,Qj,fg,gL,Int.reduceEq,dK,dc,dB];exact⟨_,h.set j (zf (uX _) ej cJ fW self),mF,rfl⟩
   by_cases k3:c5 c.Kind 8=3
   . simp only[k3,fg,gL,Int.reduceEq,dK,dc,dB];exact⟨_,h.set j (zf dn ej (uX _) fW self),mF,rfl⟩
   by_cases k4:c5 c.Kind 8=4
   . by_cases k8:(p.eg.length:Int)<8
     . simp only[k4,k8,fg,gL,Int.reduceEq,dK,dc,dB];rw[af (Xv (by rw[fp];unfold reachBytes;simp;omega))];refine⟨_,h.set j (par (λq aE=>?_) (by rw[fp];simp;omega)),mF,rfl⟩;rcases ju.1 aE with aE|aE
       . exact fW q aE
       . rw[ve.1 aE];exact⟨M7 c1,M7 gr,uX _⟩
     . simp only[k4,k8,fg,gL,Int.reduceEq,dK,dc,dB];exact⟨_,h.set j (par fW self),mF,rfl⟩
   by_cases k5:c5 c.Kind 8=5
   . simp only[k5,fg,gL,Int.reduceEq,dK,dc,dB];have ayI:bl .i64 (z:Int) 1=((z+1:Nat):Int):=c0 (by omega);rw[ayI,af (oj.2 (by omega)),af (oj.2 (by omega)),b6,b6,b6,af (by simp;omega)]
     refine⟨_,h.set j (par (λq aE=>?_) (by rw[fp,BD,BD,tJ];omega)),mF,rfl⟩;rcases ju.1 aE with aE|aE
     . exact fW q (Hv aE)
     . exact fW q (WV (Hv aE))
   have mg:∀{w:tq},eO w.aq/\eO w.aQ/\eO w.lp->Iu ⟨p.Kind,p.A,p.B,p.C,p.eg.set z w⟩:=λ{w} hw=>par (λq aE=>by
    rcases QN aE with aE|rfl
    . exact fW q aE
    . exact hw) (by rw[mF];exact self)
   by_cases k6:c5 c.Kind 8=6
   . simp only[k6,fg,gL,Int.reduceEq,dK,dc,dB];rw[af (bQ gT),b6,af (lL gT)];exact⟨_,h.set j (mg (w:=⟨(p.eg.getD z oh).aq,(p.eg.getD z oh).aQ,c.B⟩) ⟨(av z gT).1,(av z gT).2.1,M7 gr⟩),mF,rfl⟩
   . simp only[js,k1,k2,k3,k4,k5,k6,gL,dK,dB];rw[af (bQ gT),b6,af (lL gT),af (bQ gT),af (lL gT)];exact⟨_,h.set j (mg (w:=⟨(p.eg.getD z oh).aq,bl .u8 (p.eg.getD z oh).aQ c.B,(p.eg.getD z oh).lp⟩) ⟨(av z gT).1,uX _,(av z gT).2.2⟩),mF,rfl⟩
 . have kX:¬(0:Int)<(p.eg.length:Int):=by omega
   simp only[kX,gL,dK,dB,gs,List.set_set];by_cases js:c5 c.Kind 8=0
   . simp only[js,fg,dc];exact⟨_,h.set j (zf (uX _) ej cJ fW self),mF,rfl⟩
   by_cases k1:c5 c.Kind 8=1
   . simp only[k1,fg,gL,Int.reduceEq,dK,dc,dB];exact⟨_,h.set j (zf dn (uX _) cJ fW self),mF,rfl⟩
   by_cases k2:c5 c.Kind 8=2
   . have Qj:0<=c5 c.A 6:=by rw[lv c1.1 (by omega)];omega
     simp only[k2,Qj,fg,gL,Int.reduceEq,dK,dc,dB];exact⟨_,h.set j (zf (uX _) ej cJ fW self),mF,rfl⟩
   by_cases k3:c5 c.Kind 8=3
   . simp only[k3,fg,gL,Int.reduceEq,dK,dc,dB];exact⟨_,h.set j (zf dn ej (uX _) fW self),mF,rfl⟩
   by_cases k4:c5 c.Kind 8=4
   . have k8:(p.eg.length:Int)<8:=by omega
     simp only[k4,k8,fg,gL,Int.reduceEq,dK,dc,dB];rw[af (Xv (by rw[fp];unfold reachBytes;simp;omega))];refine⟨_,h.set j (par (λq aE=>?_) (by rw[fp];simp;omega)),mF,rfl⟩;rcases ju.1 aE with aE|aE
     . exact fW q aE
     . rw[ve.1 aE];exact⟨M7 c1,M7 gr,uX _⟩
   have fin:=h.set j (par fW self);by_cases k5:c5 c.Kind 8=5
   . simp only[k5,fg,gL,Int.reduceEq,dK,dc,dB];exact⟨_,fin,mF,rfl⟩
   by_cases k6:c5 c.Kind 8=6
   . simp only[k6,fg,gL,Int.reduceEq,dK,dc,dB];exact⟨_,fin,mF,rfl⟩
   . simp only[js,k1,k2,k3,k4,k5,k6,gL,dK,dB];exact⟨_,fin,mF,rfl⟩
theorem afO{L:List tp}(FB:L.length<=reachBytes)(ay:∀c,c∈L->Nu c):∀(k i:Nat) {aW:List iN},i+k=L.length->rX aW->∃w2,rX w2/\w2.length=aW.length/\lV (L,(i:Int),aW)=some w2
 |0,i,aW,ak,h=>⟨aW,h,rfl,by
  simp_all[lV]⟩
 |k+1,i,aW,ak,h=>by
  by_cases a':0<aW.length
  . obtain⟨w2,h1,aA,aa⟩:=avN FB ay (by omega:i<L.length) h a';rw[aa,<-aA];exact afO FB ay k _ (by omega) h1
  simp_all[lV,ah]
theorem rX.agB{d:gG}(h:rX d.gX):Iq d:=⟨by have:=h.1;grind,λx I=>(h.2 x I).1⟩
theorem asz{d:gG}(h:rX d.gX){L:List tp}(FB:L.length<=reachBytes)(ay:∀c,c∈L->Nu c):∃fj,rX fj.gX/\fj.gX.length=d.gX.length/\QW (d,L)=some fj:=by
 obtain⟨w2,h1,aA,aa⟩:=afO FB ay L.length 0 (by simp) h;have tv:lV (L,0,d.gX)=some _:=aa;refine⟨⟨w2⟩,h1,aA,?_⟩;rw[QW,ox,af (aCJ h.1),tv];rfl
theorem avO{aW:List iN}(h:WF cm ⟨.slice (.nm Q2),aW⟩):rX aW:=by
 obtain⟨a,b,c⟩:=GK h;have D:=ad8 h;refine⟨b,λx I=>⟨D.2 x I,?_⟩⟩;exact(GK (c x I _ (.tail _ (.tail _ (.tail _ (.tail _ (.head _))))))).2.1
theorem akK{n:Int}(h:WF cm ⟨.int .u8,n⟩):eO n:=by
 cases h with
 |int k n h=>
  grind[Lit.wf,IntKind.min,IntKind.max,IntKind.bits,IntKind.signed,eO]
structure Nt (tw tr:List au)(t:Int)(v:ad):Prop where
 W:ef tw
 R:ef tr
 t0:0<=t
 t1:t<tw.length
 t2:t<tr.length
 f:dy tw true t v
 o:c6 v
 w:wt v<=3000
theorem Nt.z{tw tr:List au}{t:Int}{v:ad}(C:Nt tw tr t v):j' tw 3000 t v:=w5 C.W _ C.o C.f (.inr C.w) (.inr C.w)
theorem Nt.u{tw tr:List au}{t:Int}{v:ad}(C:Nt tw tr t v):wt v<=2147483648:=jJ C.w (by simp)
section
variable {tw tr:List au}{t rt:Int}{v:ad}
theorem auy(HW:ef tw)(HR:ef tr)(aF:c6 v)(aJ:dy tw true t v)(jb:0<=rt)(cc:rt<tr.length):RV ((⟨tw⟩:bY),t,v,(⟨tr⟩:bY),rt)=some 0:=by
 obtain⟨⟨g1,g2,_⟩,_⟩:=(gY _ _ _).1 aJ;have ex:∀{ts:List au} {t:Int},ef ts->0<=t->t<ts.length->KI ((⟨ts⟩:bY),t)=some 0:=λ{ts t} H a b=>by
  rw[KI,(Dn H.T H.V).1];simp only[bL,aK];have bD:¬t<0:=by omega
  have bJ:¬(ts.length:Int)<=t:=by omega
  rw[ah (by simp),ah (by simp[bD,bJ])]
 have c3:=Sp HW.T (HW.V.nr HW.T).K aF t true aJ;rw[RV];simp only[ad.cr];rw[ex HW g1 g2];simp only[bL,aK];rw[ah (by simp),ex HR jb cc];simp only[aK];rw[ah (by simp),G2];simp only[ad.cr];rw[c3];rfl
def Ud:ad ⊕ List Int->ad×Int
 |.inl u=>(u,0)
 |.inr _=>(⟨0,false,0,[],0,[],[],[]⟩,12)
noncomputable def BZ (tw tr:List au)(t:Int)(v:ad)(rt:Int):ad ⊕ List Int:=hO tw tr 3000 t v rt []
theorem am7(HW:ef tw)(HR:ef tr)(aF:c6 v)(aJ:dy tw true t v)(bq:j' tw 3000 t v)(jb:0<=rt)(cc:rt<tr.length):Bl ((⟨tw⟩:bY),t,v,(⟨tr⟩:bY),rt)=some (Ud (BZ tw tr t v rt)):=by
 have h:=adk HW HR 3000 aF [] aJ bq jb cc (path:=[]) (by simp);rw[Bl];simp only[ad.cr];rw[auy HW HR aF aJ jb cc];simp only[bL,aK];rw[ah (by simp),h];unfold BZ;cases hO tw tr 3000 t v rt []<;>rfl
theorem avj(HW:ef tw)(HR:ef tr)(aF:c6 v)(aJ:dy tw true t v)(bq:j' tw 3000 t v)(jb:0<=rt)(cc:rt<tr.length){u:ad}(h:BZ tw tr t v rt= .inl u):Tc tr rt u:=ZD HW HR 3000 aF aJ bq jb cc h
theorem aCt(HW:ef tw)(HR:ef tr)(aF:c6 v)(aJ:dy tw true t v)(bq:j' tw 3000 t v)(jb:0<=rt)(cc:rt<tr.length):c6 (Ud (BZ tw tr t v rt)).1:=by
 cases h:BZ tw tr t v rt with
 |inl u=>exact(avj HW HR aF aJ bq jb cc h).1
 |inr p=>exact ava
end
theorem Td{α β:Type}{f:α->Option β}(I4:α)(I5:β):∀{l:List α} {m:List β},m.length=l.length->(∀j,j<l.length->f (l.getD j I4)=some (m.getD j I5))->dQ f l=some m
 |[],[],_,_=>rfl
 |[],b::m,h,_=>by simp at h
 |a::l,[],h,_=>by simp at h
 |a::l,b::m,h,aJ=>by
  have h0:f a=some b:=aJ 0 (by simp);rw[S0,h0,Td I4 I5 (l:=l) (m:=m) (by simpa using h) λj aM=>aJ (j+1) (by simpa using aM)];rfl
theorem adl:∀{a b:List (List UInt8)},a.length=b.length->ig (p' a b)=a/\iG (p' a b)=b
 |[],[],_=>⟨rfl,rfl⟩
 |[],_::_,h=>by simp at h
 |_::_,[],h=>by simp at h
 |x::a,y::b,h=>by
  obtain⟨h1,aa⟩:=adl (a:=a) (b:=b) (by simpa using h);exact⟨by rw[p',ig,h1],by rw[p',iG,aa]⟩
theorem aCd{m:bj}{v:ad}:ey m v=true↔m.cV=true/\m.cB=v:=by unfold ey;simp
theorem adm:∀{F:List eB} {f:eB},F.Pairwise (λa b=>a.aq<b.aq)->f∈F->F.find? (λg=>decide (g.aq=f.aq))=some f
 |g::F,f,ar,aJ=>by
  rw[nh]at ar;rw[List.find?_cons];rcases fz.1 aJ with rfl|aJ
  . simp
  . have:=ar.1 f aJ;have av:decide (g.aq=f.aq)=false:=QG (by omega);rw[av];exact adm ar.2 aJ
section
variable {ts:List au}
theorem auz {x:au}{its:List ad}{r:List dD}(m1:lr x.al)(ai:sn x.al r)(aj:its.length=x.al.length){f:B9}
 (aJ:∀j,j<x.al.length->ey (x.al.getD j aX) (its.getD j aY)=false->f (x.al.getD j aX).aQ (cb ts (x.al.getD j aX).aQ (its.getD j aY))=some (its.getD j aY))
 (hlen:((lJ iZ (jk ts x.al its r)).flatMap Fd.text).length<=90000):
 Eu f x ((lJ iZ (jk ts x.al its r)).flatMap Fd.text)=some ⟨5,false,0,[],0,[],its,r⟩:=by
 have wL:=ZS (Ll (ts:=ts) (l:=its) m1 ai) (aaa m1 ai);have dx:∀g,g∈lJ iZ (jk ts x.al its r)↔g∈jk ts x.al its r:=λg=>(uM iZ _).mem_iff
 have J0:∀g,g∈lJ iZ (jk ts x.al its r)->1<=g.id/\g.id<=1000:=λg az=>alT m1 ai ((dx g).1 az)
 unfold Eu;rw[adK wL J0 hlen];generalize lJ iZ (jk ts x.al its r)=L at*;have bF:(L.map pN).Pairwise (λa b=>a.aq<b.aq):=tI.2 (wL.imp λ{a b} h=>by show(a.id:Int)<(b.id:Int);omega)
 have from_:∀g,g∈L.map pN->(∃j,j<x.al.length/\ey (x.al.getD j aX) (its.getD j aY)=false/\g=⟨(x.al.getD j aX).aq,(x.al.getD j aX).dq,cb ts (x.al.getD j aX).aQ (its.getD j aY)⟩)\/∃a,a∈r/\g=⟨a.aq,false,a.Data⟩:=λg az=>by
  obtain⟨e,aR,rfl⟩:=gO.1 az;have:=(dx e).1 aR;unfold jk at this;rcases ju.1 this with h|h
  . obtain⟨j,fl,ho,qK,rfl⟩:=RP h;have dP:=m1.2 _ (bZ fl aX);unfold dz at dP;refine .inl ⟨j,fl,qK,?_⟩;show(⟨(((x.al.getD j aX).aq.toNat:Nat):Int),_,_⟩:eB)=_;rw[QB (by omega)]
  . obtain⟨a,a1,rfl⟩:=gO.1 h;have dP:=(ai.2 a a1).1;unfold dz at dP;refine .inr ⟨a,a1,?_⟩;show(⟨((a.aq.toNat:Nat):Int),_,_⟩:eB)=_;rw[QB (by omega)];rfl
 have aDA:∀j,j<x.al.length->ey (x.al.getD j aX) (its.getD j aY)=false->(⟨(x.al.getD j aX).aq,(x.al.getD j aX).dq,cb ts (x.al.getD j aX).aQ (its.getD j aY)⟩:eB)∈L.map pN:=λj fl ho=>by
  have dP:=m1.2 _ (bZ fl aX);unfold dz at dP;refine gO.2 ⟨_,(dx _).2 (WW _ (Zz fl (by omega) ho)),?_⟩;show(⟨(((x.al.getD j aX).aq.toNat:Nat):Int),_,_⟩:eB)=_;rw[QB (by omega)]
 have aDB:∀a,a∈r->(⟨a.aq,false,a.Data⟩:eB)∈L.map pN:=λa a1=>by
  have dP:=(ai.2 a a1).1;unfold dz at dP;refine gO.2 ⟨zi a,(dx _).2 (List.mem_append_right _ (gO.2 ⟨a,a1,rfl⟩)),?_⟩;show(⟨((a.aq.toNat:Nat):Int),_,_⟩:eB)=_;rw[QB (by omega)];rfl
 generalize L.map pN=F at*;have known:∀j,j<x.al.length->dA x.al (x.al.getD j aX).aq=some (x.al.getD j aX):=λj fl=>Sr m1 (bZ fl aX)
 have Wd:dQ (jx f F) x.al=some its:=Td aX aY aj λj aM=>by
  unfold jx;cases aO:ey (x.al.getD j aX) (its.getD j aY)with
  |false=>
   have:=adm bF (aDA j aM aO);rw[this];exact aJ j aM aO
  |true=>
   have a':F.find? (λg=>decide (g.aq=(x.al.getD j aX).aq))=none:=by
    rw[List.find?_eq_none];intro g az;simp only[ij];intro e;rcases from_ g az with⟨k,k1,k2,rfl⟩|⟨a,a1,rfl⟩
    . have em:=yC m1 (bZ k1 aX) (bZ aM aX) e;have U1:k=j:=by
       rw[gM k1,gM aM]at em;rcases Nat.lt_trichotomy k j with h|h|h
       . have:=Ht.1 m1.1 k j k1 aM h;rw[em]at this;omega
       . exact h
       . have:=Ht.1 m1.1 j k aM k1 h;rw[em]at this;omega
      subst U1;rw[aO]at k2;cases k2
    . have:=(ai.2 a a1).2;rw[show a.aq=(x.al.getD j aX).aq from e,known j aM]at this;cases this
   rw[a'];obtain⟨iE,iF⟩:=aCd.1 aO;simp only;rw[af iE,iF]
 have c8:F.all (nn x)=true:=by
  rw[ik];intro g az;unfold nn;rcases from_ g az with⟨k,k1,k2,rfl⟩|⟨a,a1,rfl⟩
  . rw[known k k1];rfl
  . simp
 have aiq:iH x F=r:=by
  unfold iH;refine avD (tI.2 ((bF.filter _).imp λ{a b} h=>h)) ai.1 λa=>?_
  constructor
  . intro h;obtain⟨g,g1,rfl⟩:=gO.1 h;obtain⟨g2,g3⟩:=BF.1 g1;rcases from_ g g2 with⟨k,k1,k2,rfl⟩|⟨a,a1,rfl⟩
    . rw[known k k1]at g3;simp at g3
    . exact a1
  . intro h;refine gO.2 ⟨⟨a.aq,false,a.Data⟩,BF.2 ⟨aDB a h,?_⟩,rfl⟩;rw[(ai.2 a h).2];rfl
 simp only;rw[Wd];simp only;rw[af c8,aiq]
theorem avk(H:rZ ts){v:ad}(aF:c6 v):∀{t:Int} {m:Nat},(cb ts t v).length<=90000->dy ts false t v->gx ts t v<=m->fh ts m t (cb ts t v)=some v:=by
 induction aF with
 |mk v hs h1 aa aA hk ak mB dJ dn ej cJ iY gU=>
 intro t m kY aJ hm;have VV:=A7 (ts:=ts) t v;obtain⟨m,rfl⟩:∃k,m=k+1:=⟨m-1,by omega⟩
 have hle:=DT (ts:=ts) t v;have ct:∀q,q∈v.aZ->(if v.aZ=[]then 0 else 1)=1:=λq aE=>ah λe=>by rw[e]at aE;cases aE
 generalize (if v.aZ=[]then 0 else 1)=kk at hle ct;obtain⟨⟨g1,g2,g3,_⟩,ay⟩:=(gY _ _ _).1 aJ;have aM:t.toNat<ts.length:=by omega
 have dx:=bZ aM a8;have EJ:=λh=>H' (ts:=ts) (t:=t) (v:=v) h
 have EK:=λh=>Ia (ts:=ts) (t:=t) (v:=v) h
 have EL:=λh=>Ib (ts:=ts) (t:=t) (v:=v) h
 have T':=λh=>Ic (ts:=ts) (t:=t) (v:=v) h
 have rY:=λh=>Ie (ts:=ts) (t:=t) (v:=v) h
 have sX:=λh=>BV (ts:=ts) (t:=t) (v:=v) h
 have oM:=λh=>BW (ts:=ts) (t:=t) (v:=v) h
 have Ua:=λh=>BX (ts:=ts) (t:=t) (v:=v) h
 have Ub:=λh=>BY (ts:=ts) (t:=t) (v:=v) h
 rw[Ld];generalize I:ts.getD t.toNat a8=x at*;have T6:x.Kind=5->∀c,c<=mK ts x.al v.aB->c<=m:=λh c ay=>by rw[af h]at hle;exact Hi hle hm ay
 have T7:x.Kind=6->∀kr,dA x.al v.aq=some kr->∀c,c<=hN ts kr.aQ v.aB->c<=m:=λh kr bF c ay=>by
  rw[ah (by rw[h];decide),af h,bF]at hle;exact Hi hle hm ay
 have Cd:7<=x.Kind->∀c,c<=hN ts x.a6 v.aB->c<=m:=λh c ay=>by
  rw[ah (λe=>by rw[e]at h;exact absurd h (by decide)),ah (λe=>by rw[e]at h;exact absurd h (by decide))]at hle;exact Hi hle hm ay
 have T8:∀q,q∈v.aZ->1<=m:=λq aE=>by
  rw[ct q aE]at hle;exact ad' hle hm rfl
 clear hle hm VV ct;have ajL:∀{t:Int},(∀q,q∈v.aB->(cb ts t q).length<=90000/\dy ts false t q/\gx ts t q<=m)->dQ (fh ts m t) (cg ts t v.aB)=some v.aB:=λ{t} aj=>Td [] aY (by rw[mO]) λj aM=>by
  rw[mO]at aM;rw[Zb aM];obtain⟨c3,dE,hl⟩:=aj _ (bZ aM aY);exact gU _ (bZ aM aY) c3 dE hl
 have aCN:∀{t:Int},(∀q,q∈v.aZ->(cb ts t q).length<=90000/\dy ts false t q/\gx ts t q<=m)->dQ (fh ts m t) (cg ts t v.aZ)=some v.aZ:=λ{t} aj=>Td [] aY (by rw[mO]) λj aM=>by
  rw[mO]at aM;rw[Zb aM];obtain⟨c3,dE,hl⟩:=aj _ (bZ aM aY);exact iY _ (bZ aM aY) c3 dE hl
 have Wv:∀{t:Int} {l:List ad} {q:ad},q∈l->cb ts t q∈cg ts t l:=λ{t l q} aE=>by rw[SY];exact gO.2 ⟨q,aE,rfl⟩
 unfold H9;rcases ay with bg|bg|bg|bg|bg|bg|bg|bg|bg
 . rw[af (by omega),EJ (by omega)];obtain⟨a1,a2,a3,a4,a5,bx,cp⟩:=bg;unfold H4;cases ag:v.cX with
   |true=>
    rw[af (show true=true from rfl),ah (show ¬([1]:List UInt8)=[] by simp),af (show([1]:List UInt8)=[1]from rfl)];cases v;simp_all
   |false=>
    rw[ah (show ¬false=true by simp),af (show([]:List UInt8)=[]from rfl)];cases v;simp_all
 . obtain⟨a1,a2,a3,a4,a5,bx,cp,cz,a9⟩:=bg;rw[ah (by omega),af (by omega),EK (by omega)];have bq:=ad9 (n:=v.b5) dn;unfold H5;rw[Sq (Mx dn)];simp only;rw[bq,af ⟨cz,a9⟩];cases v;simp_all
 . obtain⟨a1,a2,a3,a4,a5,bx,cp,cz⟩:=bg;rw[ah (by omega),ah (by omega),af (by omega),EL (by omega)];unfold H6;rw[af cz];cases v;simp_all
 . obtain⟨a1,a2,a3,a4,a5,bx,cp,cz⟩:=bg;have dP:dz v.aq:=by
    rcases cz with⟨y,jQ,sU⟩|⟨_,_,h⟩
    . rw[<-sU];exact H.S _ dx (by omega) y jQ
    . exact h
   unfold dz at dP;obtain⟨k,hk⟩:∃k:Nat,v.aq=(k:Int):=⟨v.aq.toNat,by omega⟩
   rw[ah (by omega),ah (by omega),ah (by omega),af (by omega),T' (by omega),hk,b6];unfold H7;rw[Sq (by omega)];simp only;have hs:((x.bW.any λy=>decide (y.aq=(k:Int)))||x.Open)=true:=by
    rcases cz with q|⟨q,_⟩
    . rw[hk]at q;rw[aag.1 q];rfl
    . rw[q];simp
   rw[af ⟨by omega,by omega,hs⟩];cases v;simp_all
 . obtain⟨a1,a2,a3,a4,a5,bx,cp,cz⟩:=bg;obtain⟨m1,m2⟩:=H.A _ dx (.inl (by omega));obtain⟨f1,f2⟩:=mQ.1 cz;have JX:=rY (by omega);have hlen:((lJ iZ (jk ts x.al v.aB v.Rest)).flatMap Fd.text).length<=90000:=by rw[<-JX];exact kY
   rw[ah (by omega),ah (by omega),ah (by omega),ah (by omega),ah (by omega),ah (by omega),ah (by omega),ah (by omega),JX,auz m1 cp f1 (λj fl ho=>?_) hlen]
   . cases v;simp_all
   . have AI:=bZ (by omega:j<v.aB.length) aY;have et:=Zz (ts:=ts) fl (by omega:j<v.aB.length) ho;have:=acL ((uM iZ _).mem_iff.2 (show _∈jk ts x.al v.aB v.Rest from WW _ et));exact gU _ AI (jJ this hlen) (f2 j fl) (T6 (by omega) _ (SZ fl (by omega) ho))
 . obtain⟨a1,a2,a3,a4,a5,bx⟩:=bg;obtain⟨m1,m2⟩:=H.A _ dx (.inr (by omega));rw[ah (by omega),ah (by omega),ah (by omega),ah (by omega),ah (by omega),af (by omega)];have P2:=sX (by omega);unfold M9;cases bF:dA x.al v.aq with
   |none=>
    rw[bF]at bx P2;obtain⟨b1,_,b2,cf,d,hI⟩:=bx;unfold dz at b2;obtain⟨k,pX⟩:∃k:Nat,v.aq=(k:Int):=⟨v.aq.toNat,by omega⟩
    have ar:cb ts t v=fC k++d:=by
     rw[P2,hI,pX,b6];rfl
    rw[ar,aa0 (by omega)];simp only;rw[<-pX,bF];simp only;rw[af b1];cases v;simp_all
   |some kr=>
    rw[bF]at bx P2;obtain⟨b1,b2,cf⟩:=bx;obtain⟨d3,d4⟩:=re bF;have hid:dz v.aq:=by rw[<-d4];exact m1.2 kr d3
    unfold dz at hid;obtain⟨k,pX⟩:∃k:Nat,v.aq=(k:Int):=⟨v.aq.toNat,by omega⟩
    match mx:v.aB,b2 with
    |[a],_=>
     have aC:a∈v.aB:=by rw[mx];exact .head _
     have ar:cb ts t v=fC k++cb ts kr.aQ a:=by
      rw[P2,pX,b6];show fC k++(cg ts kr.aQ v.aB).headD []=_;rw[mx,cg];rfl
     have e4:(cb ts kr.aQ a).length<=90000:=by
      rw[ar,fp]at kY;exact jJ (Nat.le_add_left _ _) kY
     rw[ar,aa0 (by omega)];simp only;rw[<-pX,bF];simp only;rw[gU a aC e4 (dS.1 cf a aC) (T7 (by omega) kr bF _ (uK aC))];cases v;simp_all
 . obtain⟨a1,a2,a3,a4,a5,bx,cp,cz,a9⟩:=bg;have ar:=oM (by omega);have FJ:((cg ts x.a6 v.aB).flatMap eD).length<=90000:=by rw[<-ar];exact kY
   rw[ah (by omega),ah (by omega),ah (by omega),ah (by omega),ah (by omega),ah (by omega),af (by omega),ar];unfold Ev;rw[Sd FJ];simp only;rw[af (by rw[mO];exact cz),ajL λq aE=>⟨jJ (R8 (Wv aE)) FJ,dS.1 a9 q aE,Cd (by omega) _ (uK aE)⟩];cases v;simp_all
 . obtain⟨a1,a2,a3,a4,a5,bx,cp,cz,a9,h9,mo⟩:=bg;have ar:=Ua (by omega);have FA:=H.ud _ dx (by omega);have hlen:(cg ts x.Key v.aZ).length=(cg ts x.a6 v.aB).length:=by rw[mO,mO];omega
   obtain⟨gb,hr⟩:=adl hlen;have wl:=aab _ _ hlen;rw[mO,mO]at wl;have FJ:((p' (cg ts x.Key v.aZ) (cg ts x.a6 v.aB)).flatMap eD).length<=90000:=by rw[<-Lb,<-ar];exact kY
   have aA8:∀{a:List UInt8} {l:List (List UInt8)},a∈ig l->a∈l:=λh=>Lc h
   have aA9:∀{l:List (List UInt8)} {a:List UInt8},a∈iG l->a∈l:=by
    intro l
    induction l using iG.induct with
    |case1 x y l ih=>
     intro a h;rw[iG]at h;rcases fz.1 h with rfl|h
     . exact .tail _ (.head _)
     . exact .tail _ (.tail _ (ih h))
    |case2 l aj=>
     intro a h;rw[iG]at h
     . cases h
     . exact aj
   have tz:∀q,q∈v.aZ->gx ts x.Key q<=m:=λq aE=>by
    have nO:=T8 q aE;have e:gx ts x.Key q=1:=by
     obtain⟨⟨_,_,k3,_⟩,y5⟩:=(gY _ _ _).1 (dS.1 a9 q aE);refine GA ?_ ?_
     . rcases y5 with k|k|k|k|k|k|k|k|k
       . exact k.2.2.2.2.1
       . exact k.2.2.2.2.1
       . exact k.2.2.2.2.1
       . exact k.2.2.2.2.1
       all_goals (exfalso;omega)
     . rcases y5 with k|k|k|k|k|k|k|k|k
       . exact k.2.2.2.2.2.1
       . exact k.2.2.2.2.2.1
       . exact k.2.2.2.2.2.1
       . exact k.2.2.2.2.2.1
       all_goals (exfalso;omega)
    rw[e];exact nO
   rw[ah (by omega),ah (by omega),ah (by omega),ah (by omega),ah (by omega),ah (by omega),ah (by omega),af (by omega),ar,Lb];unfold M';rw[Sd FJ];simp only;rw[af ⟨by rw[wl];omega,by rw[wl];omega⟩,gb,hr,aCN λq aE=>⟨jJ (R8 (aA8 (by rw[gb];exact Wv aE))) FJ,dS.1 a9 q aE,tz q aE⟩];simp only
   rw[af (Mf.2 mo),ajL λq aE=>⟨jJ (R8 (aA9 (by rw[hr];exact Wv aE))) FJ,dS.1 h9 q aE,Cd (by omega) _ (uK aE)⟩];cases v;simp_all
 . obtain⟨a1,a2,a3,a4,a5,bx,cp,cz,a9⟩:=bg;have ar:=Ub (by omega);rw[ah (by omega),ah (by omega),ah (by omega),ah (by omega),af (by omega)]
   match mx:v.aB,cz with
   |[],_=>
    rw[mx,cg]at ar;rw[ar];cases v;simp_all [H8]
   |[a],_=>
    have aC:a∈v.aB:=by rw[mx];exact .head _
    rw[mx,cg]at ar;have P1:cb ts t v=1::cb ts x.a6 a:=ar;have e4:(cb ts x.a6 a).length<=90000:=by
     rw[P1,lf]at kY;omega
    rw[P1];show((if(1:UInt8)=1 then(fh ts m x.a6 (cb ts x.a6 a)).map _ else none):Option ad)=_;rw[af rfl,gU a aC e4 (dS.1 a9 a aC) (Cd (by omega) _ (uK aC))];cases v;simp_all
end
theorem avP(ts:List au)(t:Int)(v:ad):zZ ts t v=([],3)\/zZ ts t v=(cb ts t v,0)/\(cb ts t v).length<=4096/\gx ts t v<=200:=by
 unfold zZ;split
 . exact .inl rfl
 . rename_i h;exact .inr ⟨rfl,QD λa=>h (.inl a),QD λa=>h (.inr a)⟩
theorem adn{ts:List au}(H:ef ts){t:Int}(ht:0<=t/\t<ts.length){v:ad}(aF:c6 v)(aJ:dy ts false t v)(h1:(cb ts t v).length<=4096)(aa:gx ts t v<=200):E9 ts t (cb ts t v)=(v,0):=by
 unfold E9;rw[ah (by omega),ah (Nat.not_lt.2 h1),avk (H.V.nr H.T) aF (jJ h1 (by decide)) aJ aa]
theorem Tx{b n:Nat}(h:b<=n):1+max 0 b<=n+1:=by omega
theorem aw9{a b n:Nat}(aC:a<=n)(ag:b<=n):1+max a b<=n+1:=by omega
theorem BR{a b n:Nat}(h:1+max a b<=n):1<=n:=by omega
theorem auA:∀(m n:Nat),n<=m->(fC n).length<=(fC m).length:=by
 intro m
 induction m using Nat.strongRecOn with
 |ind m ih=>
  intro n h;by_cases a':n<128
  . rw[AY a'];exact wy m
  . have hm:¬m<128:=by omega
    rw[yA a',yA hm,lf,lf];exact Nat.succ_le_succ (ih (m/128) (by omega) (n/128) (Nat.div_le_div_right h))
theorem avl(n:Nat)(a b:Bool):(fC (2*n+if a then 1 else 0)).length=(fC (2*n+if b then 1 else 0)).length:=by
 have key:∀c:Bool,(fC (2*n+if c then 1 else 0)).length=(fC (2*n)).length:=λc=>by
  cases c with
  |false=>rfl
  |true=>
   show(fC (2*n+1)).length=_;by_cases h:2*n<128
   . rw[AY h,AY (by omega)];rfl
   . rw[yA h,yA (by omega),lf,lf];rw[show(2*n+1)/128=2*n/128 by omega]
 rw[key a,key b]
theorem RE{a b:List UInt8}(h:a.length<=b.length):(eD a).length<=(eD b).length:=by
 unfold eD;rw[fp,fp];exact Nat.add_le_add (auA _ _ h) h
theorem abW{n:Nat}(a b:Bool){p q:List UInt8}(h:p.length<=q.length):(hJ n a p).length<=(hJ n b q).length:=by
 unfold hJ;rw[fp,fp,avl n a b];exact Nat.add_le_add (gP _) (RE h)
theorem aam:∀(l:List eB) (E:List Fd),l.Pairwise (λa b=>a.aq<b.aq)->(∀f,f∈l->0<=f.aq)->E.Pairwise (λa b=>a.id<b.id)->
 (∀e,e∈E->∃f,f∈l/\f.aq.toNat=e.id/\e.text.length<=(wB f).length)->(E.flatMap Fd.text).length<=(l.flatMap wB).length
 |[],[],_,_,_,_=>by simp
 |[],e::E,_,_,_,h=>by
  obtain⟨f,aJ,_⟩:=h e (.head _);cases aJ
 |f::l,[],_,_,_,_=>by simp
 |f::l,e::E,aj,h0,fe,h=>by
  rw[nh]at aj;have fF:∀f,f∈l->0<=f.aq:=λg az=>h0 g (.tail _ az)
  have ahK:=h0 f (.head _);have aiW:∀{vC:List Fd},(∀x,x∈vC->f.aq.toNat<x.id)->(∀x,x∈vC->∃g,g∈f::l/\g.aq.toNat=x.id/\x.text.length<=(wB g).length)->∀x,x∈vC->∃g,g∈l/\g.aq.toNat=x.id/\x.text.length<=(wB g).length:=λ{vC} a b x I=>by
   obtain⟨g,g1,g2,g3⟩:=b x I;rcases fz.1 g1 with rfl|g1
   . have:=a x I;omega
   . exact⟨g,g1,g2,g3⟩
  obtain⟨g,g1,g2,g3⟩:=h e (.head _);by_cases he:f.aq.toNat=e.id
  . have az:g=f:=by
     rcases fz.1 g1 with rfl|g1
     . rfl
     . have:=aj.1 g g1;omega
    subst az;have ahq:=(nh.1 fe)
    have:=aam l E aj.2 fF ahq.2 (aiW (λx I=>by have:=ahq.1 x I;omega) λx I=>h x (.tail _ I));simp only[me,fp];omega
  . have aV:f.aq.toNat<e.id:=by
     rcases fz.1 g1 with rfl|g1
     . omega
     . have:=aj.1 g g1;omega
    have:=aam l (e::E) aj.2 fF fe (aiW (λx I=>by
     rcases fz.1 I with rfl|I
     . exact aV
     . have:=(nh.1 fe).1 x I;omega) h)
    simp only[me,fp]at this⊢;omega
section
variable {ts:List au}
theorem ab'{t:Int}{f:List UInt8->Option ad}:∀{l:List (List UInt8)} {m:List ad},dQ f l=some m->(∀q,q∈l->∀v,f q=some v->(cb ts t v).length<=q.length)->((cg ts t m).flatMap eD).length<=(l.flatMap eD).length
 |[],m,h,_=>by cases h;rw[cg];simp
 |q::l,m,h,aE=>by
  simp only[dQ]at h;split at h
  . rename_i b j5 ag hm;cases h;rw[cg];have h1:=RE (aE q (.head _) b ag);have aa:=ab' hm λw6 qI=>aE w6 (.tail _ qI)
    simp only[me,fp];omega
  . cases h
theorem ado{k t:Int}{f g:List UInt8->Option ad}:∀{l:List (List UInt8)} {ks is:List ad},dQ f (ig l)=some ks->dQ g (iG l)=some is->(∀q,q∈l->∀v,(f q=some v->(cb ts k v).length<=q.length)/\(g q=some v->(cb ts t v).length<=q.length))->(kp (cg ts k ks) (cg ts t is)).length<=(l.flatMap eD).length
 |[],ks,is,h1,aa,_=>by cases h1;rw[cg,kp];simp;intros;simp_all
 |[q],ks,is,h1,aa,_=>by cases h1;rw[cg,kp];simp;intros;simp_all
 |a::b::l,ks,is,h1,aa,h=>by
  simp only[ig,iG,dQ]at h1 aa;split at h1
  . rename_i x m1 I u3;cases h1;split at aa
    . rename_i y m2 ao wR;cases aa;rw[cg,cg,kp];have aR:=RE ((h a (.head _) x).1 I);have bw:=RE ((h b (.tail _ (.head _)) y).2 ao);have e7:=ado u3 wR λq aE=>h q (.tail _ (.tail _ aE))
      simp only[me,fp];omega
    . cases aa
  . cases h1
def Ug(ts:List au)(n:Nat):Prop:=∀(t:Int) (p:List UInt8) (v:ad),p.length<=90000->0<=t->t<ts.length->fh ts n t p=some v->(cb ts t v).length<=p.length/\gx ts t v<=n
theorem avQ(H:ef ts){n:Nat}(ih:Ug ts n):Ug ts (n+1):=by
 intro t p v ar t0 t1 h;rw[Ld]at h;have aM:t.toNat<ts.length:=by omega
 have I:=bZ aM a8;have dj:=H.lC;obtain⟨afZ,af0⟩:=dj.S.K _ I;have aR:=λv=>@H' ts t v
 have bw:=λv=>@Ia ts t v
 have e7:=λv=>@Ib ts t v
 have mX:=λv=>@Ic ts t v
 have nF:=λv=>@Ie ts t v
 have o0:=λv=>@BV ts t v
 have Jd:=λv=>@BW ts t v
 have e8:=λv=>@BX ts t v
 have zW:=λv=>@BY ts t v
 have Kn:=λv=>DT (ts:=ts) t v
 have D2:=λv a b=>@GA ts t v a b
 generalize ts.getD t.toNat a8=x at*;unfold H9 at h;by_cases k1:x.Kind=1
 . rw[af k1]at h;unfold H4 at h;split at h
   . cases h;exact⟨by rw[aR _ k1];simp,by rw[D2 _ rfl rfl];omega⟩
   . split at h
     . rename_i eV;cases h;exact⟨by rw[aR _ k1,eV];simp,by rw[D2 _ rfl rfl];omega⟩
     . cases h
 rw[ah k1]at h;by_cases k2:x.Kind=2
 . rw[af k2]at h;unfold H5 at h;cases hu:mL p with
   |none=>rw[hu]at h;cases h
   |some m=>
    rw[hu]at h;dsimp only at h;split at h
    . cases h;refine⟨?_,by rw[D2 _ rfl rfl];omega⟩;rw[bw _ k2];show(iJ (kx (pn m)).toNat).length<=_;rw[avJ,ac6 hu];exact gP _
    . cases h
 rw[ah k2]at h;by_cases k3:x.Kind=3
 . rw[af k3]at h;unfold H6 at h;split at h
   . cases h;exact⟨by rw[e7 _ k3];exact gP _,by rw[D2 _ rfl rfl];omega⟩
   . cases h
 rw[ah k3]at h;by_cases k4:x.Kind=4
 . rw[af k4]at h;unfold H7 at h;cases hu:mL p with
   |none=>rw[hu]at h;cases h
   |some m=>
    rw[hu]at h;dsimp only at h;split at h
    . cases h;refine⟨?_,by rw[D2 _ rfl rfl];omega⟩;rw[mX _ k4];show(iJ (m:Int).toNat).length<=_;rw[b6,ac6 hu];exact gP _
    . cases h
 rw[ah k4]at h;by_cases k9:x.Kind=9
 . rw[af k9]at h;obtain⟨g1,g2⟩:=dj.elem I (by omega);cases p with
   |nil=>
    cases h;refine⟨?_,by rw[D2 _ rfl rfl];omega⟩;rw[zW _ k9];show(match cg ts x.a6 []with|[]=>[]|p::_=>1::p).length<=_;rw[cg];simp
   |cons c q=>
    simp only[H8]at h;split at h
    . obtain⟨w,hw,rfl⟩:=rG.1 h;obtain⟨i1,i2⟩:=ih _ _ _ (by simp at ar;omega) g1 g2 hw;constructor
      . rw[zW _ k9];show(match cg ts x.a6 [w]with|[]=>[]|p::_=>1::p).length<=_;rw[cg];simp only[lf];omega
      . rw[Kn,af rfl,ah (by omega),ah (by omega)];have:hN ts x.a6 [w]<=n:=Mh λy ao=>by rcases fz.1 ao with rfl|ao;exact i2;cases ao
        exact Tx this
    . cases h
 rw[ah k9]at h;by_cases k6:x.Kind=6
 . rw[af k6]at h;unfold M9 at h;cases fr:rS p with
   |none=>rw[fr]at h;cases h
   |some a=>
    obtain⟨id,q⟩:=a;rw[fr]at h;dsimp only at h;have U0:=afF fr;have aAv:q.length+(fC id.toNat).length=p.length:=by rw[U0,fp];omega
    have mA:=wy id.toNat;cases bF:dA x.al id with
    |some m=>
     rw[bF]at h;obtain⟨w,gb,rfl⟩:=rG.1 h;obtain⟨m1,m2⟩:=re bF;obtain⟨i1,i2⟩:=ih _ _ _ (by omega) (dj.mem I m1).1 (dj.mem I m1).2 gb;constructor
     . rw[o0 _ k6];dsimp only;rw[bF];dsimp only;rw[cg,List.headD_cons,fp];omega
     . rw[Kn,af rfl,ah (by omega),af k6];dsimp only;rw[bF];dsimp only;have:hN ts m.aQ [w]<=n:=Mh λy ao=>by rcases fz.1 ao with rfl|ao;exact i2;cases ao
       exact Tx this
    |none=>
     rw[bF]at h;dsimp only at h;split at h
     . cases h;constructor
       . rw[o0 _ k6];dsimp only;rw[bF];simp only[p4,List.headD_cons,fp];omega
       . rw[D2 _ rfl rfl];omega
     . cases h
 rw[ah k6]at h;by_cases k7:x.Kind=7
 . rw[af k7]at h;unfold Ev at h;obtain⟨g1,g2⟩:=dj.elem I (by omega);cases dP:nY p with
   |none=>rw[dP]at h;cases h
   |some l=>
    rw[dP]at h;dsimp only at h;obtain⟨o,iE,iF,hi⟩:=GM ar;have aj:(∀q,q∈l->q.length<=p.length)/\l.length<=p.length:=by grind
    split at h
    . obtain⟨m,m1,rfl⟩:=rG.1 h;constructor
      . rw[Jd _ k7];have:=ab' m1 λq aE v aF=>(ih _ _ _ (by have:=aj.1 q aE;omega) g1 g2 aF).1
        rwa [S9 ar dP]at this
      . rw[Kn,af rfl,ah (by omega),ah (by omega)];have:hN ts x.a6 m<=n:=Mh λy ao=>by
         obtain⟨q,c3,dE⟩:=A8 m1 y ao;exact(ih _ _ _ (by have:=aj.1 q c3;omega) g1 g2 dE).2
        exact Tx this
    . cases h
 rw[ah k7]at h;by_cases k8:x.Kind=8
 . rw[af k8]at h;unfold M' at h;obtain⟨g1,g2⟩:=dj.elem I (by omega);obtain⟨d1,d2⟩:=dj.key I k8;cases dP:nY p with
   |none=>rw[dP]at h;cases h
   |some l=>
    rw[dP]at h;dsimp only at h;obtain⟨o,iE,iF,hi⟩:=GM ar;have aj:(∀q,q∈l->q.length<=p.length)/\l.length<=p.length:=by grind
    split at h
    . split at h
      . rename_i ks hk;split at h
        . obtain⟨m,m1,rfl⟩:=rG.1 h;constructor
          . rw[e8 _ k8];have:=ado hk m1 λq aE v=>⟨λaF=>(ih _ _ _ (by have:=aj.1 q aE;omega) d1 d2 aF).1,λaF=>(ih _ _ _ (by have:=aj.1 q aE;omega) g1 g2 aF).1⟩
            rwa [S9 ar dP]at this
          . rw[Kn,ah (show ¬x.Kind=5 by omega),ah (show ¬x.Kind=6 by omega)];dsimp only;have hm:hN ts x.a6 m<=n:=Mh λy ao=>by
             obtain⟨q,c3,dE⟩:=A8 m1 y ao;exact(ih _ _ _ (by have:=aj.1 q (Su c3);omega) g1 g2 dE).2
            have jo:(if ks=[]then 0 else 1)<=n:=by
             cases ks with
             |nil=>exact nj _
             |cons y ks=>
              obtain⟨q,c3,dE⟩:=A8 hk y (.head _);have:=(ih _ _ _ (by have:=aj.1 q (Lc c3);omega) d1 d2 dE).2;rw[DT]at this;show 1<=n;exact BR this
            exact aw9 jo hm
        . cases h
      . cases h
    . cases h
 rw[ah k8]at h;have k5:x.Kind=5:=by omega
 unfold Eu at h;obtain⟨yJ,U'⟩:=dj.S.A _ I (.inl k5);cases aj:po p with
 |none=>rw[aj]at h;cases h
 |some l=>
  rw[aj]at h;dsimp only at h;obtain⟨o,iE,iF,hi⟩:=aac ar;have e4:(∀f,f∈l->f.Data.length<=p.length/\dz f.aq)/\l.Pairwise (λa b=>a.aq<b.aq)/\l.length<=p.length:=by grind
  split at h
  . rename_i is ak;split at h
    . cases h;have u5:sn x.al (iH x l):=ac8 e4.2.1 (λf aJ=>(e4.1 f aJ).2);have hlen:=Dq ak
      have known:∀j,j<x.al.length->ey (x.al.getD j aX) (is.getD j aY)=false->∃f,f∈l/\f.aq=(x.al.getD j aX).aq/\(cb ts (x.al.getD j aX).aQ (is.getD j aY)).length<=f.Data.length/\gx ts (x.al.getD j aX).aQ (is.getD j aY)<=n:=λj aM aO=>by
       have az:=ZW aX aY ak j aM;have hm:=bZ aM aX;generalize x.al.getD j aX=m at*;generalize is.getD j aY=w at*;unfold jx at az;split at az
       . rename_i f ahL;have ahi:=QP ahL;have ayL:f.aq=m.aq:=by have:=List.find?_some ahL;simpa using this
         obtain⟨i1,i2⟩:=ih _ _ _ (by have:=(e4.1 f ahi).1;omega) (dj.mem I hm).1 (dj.mem I hm).2 az;exact⟨f,ahi,ayL,i1,i2⟩
       . split at az
         . rename_i av;cases az;unfold ey at aO;simp[av]at aO
         . cases az
      constructor
      . rw[nF _ k5];dsimp only;rw[<-aef ar aj];refine aam l _ e4.2.1 (λf aJ=>by have:=(e4.1 f aJ).2;unfold dz at this;omega) (ZS (Ll yJ u5) (aaa yJ u5)) λe he=>?_
        rw[(uM iZ _).mem_iff]at he;unfold jk at he;rcases ju.1 he with he|he
        . obtain⟨j,fl,ho,qK,rfl⟩:=RP he;obtain⟨f,f1,f2,f3,_⟩:=known j fl qK;refine⟨f,f1,by rw[f2],?_⟩;show(hJ _ _ _).length<=(hJ _ _ _).length;rw[f2];exact abW _ _ f3
        . obtain⟨a,a1,rfl⟩:=gO.1 he;obtain⟨f,f1,f2,rfl⟩:=ZB a1;refine⟨f,f1,rfl,?_⟩;exact abW (n:=f.aq.toNat) false f.dq (gP _)
      . rw[Kn,af rfl,af k5];have:=ada (ts:=ts) (r:=n) (ms:=x.al) (l:=is) λj fl ho qK=>by
         obtain⟨f,_,_,_,f4⟩:=known j fl qK;exact f4
        exact Tx this
    . cases h
  . cases h
theorem adP(H:ef ts):∀n,Ug ts n
 |0=>λt p v _ _ _ h=>by rw[ZA]at h;cases h
 |n+1=>avQ H (adP H n)
end
def EI(n:List Int):Prop:=∀i:Nat,0<=n.getD i 0/\n.getD i 0<=2
def T9(n dY:List Int):Prop:=n.length=dY.length/\∀i:Nat,n.getD i 0<=dY.getD i 0
def lU(n:List Int)(t:Int):Int:=n.getD t.toNat 0
def BK(n:List Int):List bj->Int->Int
 |[],c=>c
 |m::r,c=>BK n r (fV 2 (c*lU n m.aQ))
def vp(n:List Int):List bj->Int->Int
 |[],c=>c
 |m::r,c=>vp n r (c+lU n m.aQ)
def l1(x:au)(n:List Int):Int:=
 if x.Kind=2 then(if x.cA=x.cD then 1 else 2)
 else if x.Kind=3 then(if x.Max=0 then 1 else 2)
 else if x.Kind=4 then x.bW.length
 else if x.Kind=5 then BK n x.al 1
 else if x.Kind=6 then vp n x.al 0
 else if x.Kind=7 then(if x.Max=0\/lU n x.a6=0 then 1 else 2)
 else if x.Kind=8 then(if x.Max=0\/lU n x.a6=0\/lU n x.Key=0 then 1 else 2)
 else if x.Kind=9 then 1+lU n x.a6
 else 2
theorem min2(c:Int):fV 2 c<=2/\fV 2 c<=c/\(fV 2 c=2\/fV 2 c=c):=by grind[fV]
theorem rf{n:List Int}{i j:Nat}{c:Int}:(n.set i c).getD j 0=if i=j/\i<n.length then c else n.getD j 0:=by
 grind
section
variable {n dY:List Int}(h0:EI n)(h1:T9 n dY)
include h0
theorem s3(t:Int):0<=lU n t/\lU n t<=2:=h0 _
theorem ajq:∀(l:List bj) (c:Int),0<=c/\c<=2->0<=BK n l c/\BK n l c<=2
 |[],c,h=>h
 |m::r,c,h=>ajq r _ (by
  obtain⟨a,b⟩:=s3 h0 m.aQ;have:=QJ h.1 a
  grind[fV])
theorem XF:∀(l:List bj) (c:Int),c<=vp n l c/\vp n l c<=c+2*l.length
 |[],c=>⟨Int.le_refl _,by simp[vp]⟩
 |m::r,c=>by
  obtain⟨a,b⟩:=s3 h0 m.aQ;obtain⟨e,f⟩:=XF r (c+lU n m.aQ)
  grind[vp]
include h1
theorem NO(t:Int):lU n t<=lU dY t:=h1.2 _
theorem ajp:∀(l:List bj) (c eE:Int),0<=c->c<=eE->BK n l c<=BK dY l eE
 |[],c,eE,_,h=>h
 |m::r,c,eE,ay,h=>ajp r _ _ (by
  have:=QJ ay (s3 h0 m.aQ).1
  grind[fV]) (by
  have e:c*lU n _<=eE*lU dY m.aQ:=Int.mul_le_mul h (NO h0 h1 _) (s3 h0 _).1 (by omega)
  grind[fV])
theorem ajK:∀(l:List bj) (c eE:Int),c<=eE->vp n l c<=vp dY l eE
 |[],c,eE,h=>h
 |m::r,c,eE,h=>ajK r _ _ (by have:=NO h0 h1 m.aQ;omega)
theorem aw'(x:au):l1 x n<=l1 x dY:=by
 have e:=NO h0 h1 x.a6;have k:=NO h0 h1 x.Key;have e0:=(s3 h0 x.a6).1;have js:=(s3 h0 x.Key).1;have p:=ajp h0 h1 x.al 1 1 (by simp) (Int.le_refl _);have s:=ajK h0 h1 x.al 0 0 (Int.le_refl _)
 grind[l1]
end
theorem afP{n:List Int}:∀(l:List bj) (c:Int),1<=c->(∀m,m∈l->1<=lU n m.aQ)->1<=BK n l c
 |[],c,h,_=>h
 |m::r,c,h,hm=>afP r _ (by
  have e:=Int.mul_le_mul h (hm m (by simp)) (by simp) (by omega)
  grind[fV]) λx I=>hm x (by grind)
section
variable {ts:List au}(H:ef ts){n:List Int}(a':n.length=ts.length)(h0:EI n)
include H a'
theorem NN{u:Int}(h:0<=u/\u<ts.length):bd u n.length=true/\decide (u.toNat<n.length)=true:=by
 grind[bd]
include h0
theorem afQ{l:List bj}(aj:l.length<=1000)(hm:∀m,m∈l->0<=m.aQ/\m.aQ<ts.length):∀(k i:Nat) (c:Int),i+k=l.length->0<=c/\c<=2->C2 (c,l,(l.length:Int),(i:Int),n)=some (BK n (l.drop i) c,n)
 |0,i,c,ak,ay=>by
  rw[C2,ah (by grind),Hu (by omega)];rfl
 |k+1,i,c,ak,ay=>by
  have aV:i<l.length:=by omega
  obtain⟨a,b⟩:=NN H a' (hm _ (bZ aV aX));obtain⟨aR,bw⟩:=s3 h0 (l.getD i aX).aQ;rw[C2,af (by grind),af (bQ aV)];simp only[bL,aK,lb];rw[af a,af b];have m1:rE .i64 c (n.getD (l.getD i aX).aQ.toNat 0)=c*lU n (l.getD i aX).aQ:=by
   have:=QJ ay.1 aR;have:=Int.mul_le_mul ay.2 bw aR (by simp);show IntKind.wrap .i64 (c*lU n (l.getD i aX).aQ)=_
   grind[IntKind.wrap_i64]
  rw[m1,c0 (by omega),afQ aj hm k (i+1) _ (by omega) (by
   have:=QJ ay.1 aR
   grind[fV])]
  rw[vd aV];have:l.getD i aX=l[i]:=by grind
  rw[this];rfl
theorem afR{l:List bj}(aj:l.length<=1000)(hm:∀m,m∈l->0<=m.aQ/\m.aQ<ts.length):∀(k i:Nat) (c:Int),i+k=l.length->0<=c/\c<=2*i->C3 (c,l,(l.length:Int),(i:Int),n)=some (vp n (l.drop i) c,n)
 |0,i,c,ak,ay=>by
  rw[C3,ah (by grind),Hu (by omega)];rfl
 |k+1,i,c,ak,ay=>by
  have aV:i<l.length:=by omega
  obtain⟨a,b⟩:=NN H a' (hm _ (bZ aV _));obtain⟨aR,bw⟩:=s3 h0 (l.getD i aX).aQ;unfold lU at aR bw;rw[C3,af (by grind),af (bQ aV)];simp only[bL,aK,lb];rw[af a,af b,nE (by omega) (by omega),c0 (by omega),afR aj hm k _ _ (by omega) (by omega)];rw[vd aV]
  have:l.getD i aX=l[i]:=by grind
  rw[this];rfl
theorem avm{x:au}(I:x∈ts):RS (x,n)=some (l1 x n,n):=by
 have hu:=H.V.U x I;have hm:∀m,m∈x.al->0<=m.aQ/\m.aQ<ts.length:=by
  obtain⟨i,ak,rfl⟩:=Hy.1 I;intro m hm;have:=H.R i ak m (by grind)
  grind
 have aj:=(H.dR x I).2.2;rw[RS];unfold l1;by_cases k2:x.Kind=2
 . grind
 rw[ah (by simpa using k2),ah k2];by_cases k3:x.Kind=3
 . grind
 rw[ah (by simpa using k3),ah k3];by_cases k4:x.Kind=4
 . grind
 rw[ah (by simpa using k4),ah k4];by_cases k5:x.Kind=5
 . rw[af (by simpa using k5),af k5];have:=afQ H a' h0 (by omega) hm x.al.length 0 1 (by omega) (by omega)
   grind
 rw[ah (by grind),ah k5];by_cases k6:x.Kind=6
 . rw[af (by simpa using k6),af k6];have:=afR H a' h0 (by omega) hm x.al.length 0 0 (by omega) (by simp)
   grind
 rw[ah (by simpa using k6),ah k6];have he:7<=x.Kind->bd x.a6 n.length=true/\decide (x.a6.toNat<n.length)=true:=λh=>NN H a' (hu _ (by grind[jw]))
 by_cases k7:x.Kind=7
 . obtain⟨a,b⟩:=he (by omega);rw[af (by simpa using k7),af k7]
   grind[lU,fe]
 rw[ah (by grind),ah k7];by_cases k8:x.Kind=8
 . obtain⟨a,b⟩:=he (by omega);obtain⟨cx,bI⟩:=NN H a' (hu x.Key (by grind[jw]));simp only[bL,aK,a,b,cx,bI,Hp,dc]
   grind[lU,fe]
 rw[ah (by simpa using k8),ah k8];by_cases k9:x.Kind=9
 . obtain⟨a,b⟩:=he (by omega);obtain⟨aR,bw⟩:=s3 h0 x.a6;unfold lU at aR bw;rw[af (by simpa using k9),af k9,af a,af b,nE (by omega) (by omega)];rfl
 rw[ah (by simpa using k9),ah k9]
end
structure B8 (ts:List au)(n:List Int):Prop where
 l:n.length=ts.length
 ok:EI n
 le:∀i:Nat,i<ts.length->n.getD i 0<=l1 (ts.getD i a8) n
section
variable {ts:List au}(H:ef ts)
include H
theorem aao{x:au}(I:x∈ts):1<=x.Kind/\x.Kind<=9:=by
 rcases H.V.F x I with h|h|h|h|h|h|h|h|h<;>omega
theorem avR{n:List Int}(h0:EI n){i:Nat}(ak:i<ts.length)(ab:∀j:Nat,j<ts.length->7<=(ts.getD j a8).Kind->1<=n.getD j 0)(ar:∀j:Nat,j<i->1<=n.getD j 0):1<=l1 (ts.getD i a8) n:=by
 have I:=bZ ak a8;have hm:∀m,m∈(ts.getD i _).al->1<=lU n _:=λm hm=>by
  obtain⟨a,b,c⟩:=H.R i ak m hm;rcases c with c|c
  . exact ab _ (by omega) c
  . exact ar _ (by omega)
 have he:=(s3 h0 (ts.getD i a8).a6).1;have p:=afP _ 1 (by simp) hm;have aFF:(ts.getD i a8).Kind=6->1<=vp n (ts.getD i a8).al 0:=λk=>by
  have aj:0<(ts.getD i a8).al.length:=by
   rcases H.V.F _ I with h|h|h|h|h|h|h|h|h<;>try omega
   exact h.2.2.2.2.2.2.1.2.1.resolve_left (by simp)
  obtain⟨m,r,ai⟩:∃m r,(ts.getD i a8).al=m::r:=by
   cases fN:(ts.getD i _).al<;>grind
  have:=(XF h0 r (0+lU n m.aQ)).1
  grind[vp]
 have S7:(ts.getD i a8).Kind=4->1<=((ts.getD i _).bW.length:Int):=λk=>by
  rcases H.V.F _ I with h|h|h|h|h|h|h|h|h<;>try omega
  exact Int.ofNat_lt.2 h.2.2.2.2.2.1.1
 grind[l1]
theorem axa{n:List Int}(h0:EI n)(x:au):0<=l1 x n/\(x.al.length<=12->x.bW.length<=16->l1 x n<=40):=by
 have p:=ajq h0 x.al 1 (by simp);have s:=XF h0 x.al 0;have e:=s3 h0 x.a6
 grind[l1]
theorem B8.set{n:List Int}(C:B8 ts n){i:Nat}(ak:i<ts.length):B8 ts (n.set i (fV 2 (l1 (ts.getD i a8) n)))/\T9 n (n.set i (fV 2 (l1 (ts.getD i a8) n))):=by
 have ci:=C.le i ak;have aj:=C.l;have m:=min2 (l1 (ts.getD i a8) n);generalize fV 2 _=c at*;have ok:EI (n.set i c):=λj=>by
  have:=C.ok j
  grind
 have le:T9 n (n.set i c):=⟨by simp,λj=>by
  rw[rf];split
  . rename_i h;rw[<-h.1];have:=C.ok i;omega
  simp⟩
 refine⟨⟨by grind,ok,λj aM=>?_⟩,le⟩;have:=aw' C.ok le (ts.getD j a8);rw[rf];split
 . grind
 . have:=C.le j aM;omega
def rQ:List Int->Int
 |[]=>0
 |a::r=>a+rQ r
omit H in
theorem avn{n:List Int}:∀{i:Nat} {c:Int},i<n.length->rQ (n.set i c)=rQ n-n.getD i 0+c:=by
 induction n with
 |nil=>simp
 |cons a r ih=>
  intro i c h;cases i with
  |zero=>grind[rQ]
  |succ i=>grind[rQ]
omit H in
theorem adQ{n:List Int}(h:∀i:Nat,0<=n.getD i 0/\n.getD i 0<=2):0<=rQ n/\rQ n<=2*n.length:=by
 induction n with
 |nil=>simp[rQ]
 |cons a r ih=>
  have:=ih λi=>by simpa using h (i+1)
  have:=h 0
  grind[rQ]
theorem Zf:∀(k i:Nat) (r9:Bool) {n:List Int},i+k=ts.length->B8 ts n->(∀j,j<i->7<=(ts.getD j a8).Kind->1<=n.getD j 0)->(r9=false->∀j,j<i->n.getD j 0=fV 2 (l1 (ts.getD j a8) n))->
 ∃dY Cq,x4 (r9,ts,(ts.length:Int),(i:Int),ts,n)=some (Cq,ts,dY)/\B8 ts dY/\(∀j,j<ts.length->7<=(ts.getD j a8).Kind->1<=dY.getD j 0)/\(Cq=false->∀j,j<ts.length->dY.getD j 0=fV 2 (l1 (ts.getD j a8) dY))/\(r9=true->Cq=true)/\(Cq=true->r9=true\/rQ n+1<=rQ dY)/\rQ n<=rQ dY
 |0,i,r9,n,ak,C,ab,aJ=>⟨n,r9,by simp_all[x4,ah],C,λj aM=>ab j (by omega),λh j aM=>aJ h j (by omega),λh=>h,.inl,Int.le_refl _⟩
 |k+1,i,r9,n,ak,C,ab,aJ=>by
  have aV:i<ts.length:=by omega
  have ah6:=C.l;have bN:=H.fW;have I:=bZ aV a8;have aEt:=C.le i aV;have aEu:=C.ok i;obtain⟨de,af2⟩:=C.set H aV;have mA:7<=(ts.getD i a8).Kind->1<=l1 (ts.getD i a8) n:=λhV=>by
   have he:=(s3 C.ok (ts.getD i a8).a6).1
   grind[l1]
  have m:=min2 (l1 (ts.getD i a8) n);rw[x4,af (by grind),af (bQ aV)];simp only[lb];rw[avm H C.l C.ok I];simp only[bL,aK];rw[af (by rfl),af (bQ (by omega)),af (by grind)];by_cases he:fV 2 (l1 (ts.getD i a8) n)=n.getD i 0
  . rw[ah (by grind),c0 (by omega)];refine Zf k (i+1) r9 (by omega) C (λj aM hV=>?_) λh j aM=>?_
    all_goals grind
  . rw[af (bQ (by omega)),c0 (by omega)];have hs:=avn (n:=n) (i:=i) (c:=fV 2 (l1 (ts.getD i a8) n)) (by omega)
    obtain⟨dY,Cq,aR,bw,e7,mX,nF,o0,Jd⟩:=Zf k (i+1) true (by omega) de (λj aM hV=>by
     grind) (λh=>by grind)
    grind
theorem abX:∀(f:Nat) {n:List Int},B8 ts n->(2*ts.length:Int)-rQ n<f->∃dY,DG (true,ts,n)=some dY/\dY.length=ts.length/\∀i:Nat,i<ts.length->1<=dY.getD i 0
 |0,n,C,aJ=>by
  have:=(adQ C.ok).2;have:=C.l;omega
 |f+1,n,C,aJ=>by
  obtain⟨dY,Cq,aR,bw,e7,mX,nF,o0,Jd⟩:=Zf H ts.length 0 false (by simp) C (λj aM=>absurd aM (L2 _)) (λ_ j aM=>absurd aM (L2 _));have aR:x4 (false,ts,ts.length,0,ts,n)=_:=aR;rw[DG,aR];simp only[bL,aK];cases Cq with
  |true=>
   have:=(o0 rfl).resolve_left (by simp);exact abX f bw (by omega)
  |false=>
   refine⟨dY,by simp_all[DG,ah],bw.l,λi=>?_⟩
   induction i using Nat.strongRecOn with
   |_ i ih=>
   intro ak;have:=avR H bw.ok ak e7 (λj aM=>ih j aM (by omega));rw[mX rfl i ak];have:=min2 (l1 (ts.getD i a8) dY);omega
omit H in
theorem aca{n:List Int}(aj:n.length<=5)(h:∀i:Nat,i<n.length->1<=n.getD i 0):∀(k i:Nat),i+k=n.length->DH (n,(n.length:Int),(i:Int),List.replicate i true)=some (List.replicate n.length true)
 |0,i,ak=>by simp_all[DH]
 |k+1,i,ak=>by
  have e:List.replicate i true++[decide (0<n.getD i 0)]=List.replicate (i+1) true:=by
   grind[List.replicate_succ']
  rw[DH,af (by grind),af (bQ (by omega))];simp only[bL,aK,lb];rw[e,af (e6 (by simp) (by grind)),c0 (by omega)];exact aca aj h k _ (by omega)
omit H in
theorem adp{m:Nat}(hm:m<=5):∀(k i:Nat),i+k=m->C4 (List.replicate m true,(m:Int),(i:Int))=some (.inr ())
 |0,i,ak=>by grind[C4]
 |k+1,i,ak=>by
  rw[C4,af (by grind),af (bQ (by grind)),ah (by grind),c0 (by omega)];exact adp hm k _ (by omega)
theorem axI(t:au)(ht:t∈ts){m:bj}(hm:m∈t.al)(av:m.cV=true):G2 ((⟨ts⟩:bY),m.aQ,ad.eta m.cB)=some true:=by
 have aF:=(H.T t ht).xT m hm;have aJ:=H.D t ht m hm av;have h1:=Sp H.T (H.V.nr H.T).K aF m.aQ true aJ
 grind[G2,ad.cr]
theorem Yi{i:Nat}{t:au}(ht:t∈ts):∀(k j:Nat),j+k=t.al.length->An ((i:Int),ts,(ts.length:Int),(i:Int),t.al,(t.al.length:Int),(j:Int),ts)=some (.inr (ts,(ts.length:Int),(i:Int),ts))
 |0,j,aM=>by simp_all[An]
 |k+1,j,aM=>by
  have aV:j<t.al.length:=by omega
  have aj:=(H.dR t ht).2.2;rw[An,af (by grind),af (bQ aV)];simp only[bL,aK,lb];cases av:(t.al.getD j _).cV with
  |false=>
   rw[c0 (by omega)];exact Yi ht k _ (by omega)
  |true=>
   rw[axI H t ht (bZ aV _) av];rw[c0 (by omega)];exact Yi ht k (j+1) (by omega)
theorem am8:∀(k i:Nat),i+k=ts.length->DF (ts,(ts.length:Int),(i:Int),ts)=some (.inr ())
 |0,i,ak=>by simp_all[DF]
 |k+1,i,ak=>by
  have aV:i<ts.length:=by omega
  have bN:=H.fW;have e:An (i,ts,ts.length,i,(ts.getD i _).al,(ts.getD i _).al.length,0,ts)=_:=Yi H (bZ aV a8) (ts.getD i a8).al.length 0 (by simp);rw[DF,af (by grind),af (bQ aV)];simp only[bL,aK,lb];rw[e];simp;rw[c0 (by omega)];exact am8 k _ (by omega)
theorem adR:B8 ts (List.replicate ts.length 0):=by
 have bq:∀i,(List.replicate ts.length (0:Int)).getD i 0=0:=λi=>by
  grind
 refine⟨by simp,λi=>by grind,λi ak=>?_⟩;rw[bq];exact(axa H (λi=>by grind) _).1
theorem auB:RT (⟨ts⟩:bY)=some 0:=by
 have bN:=H.fW;have ai:QV (⟨ts⟩:bY)=some 0:=by
  have e:=am8 H ts.length 0 (by simp);rw[QV,(Dn H.T H.V).1];simp only[bL];rw[YG,(Dn H.T H.V).1]
  grind
 obtain⟨n,bD,bJ,c1⟩:=abX H (2*ts.length+1) (adR H) (by
  have:=(adQ (adR H).ok).1;omega)
 have ay:Ra (⟨ts⟩:bY)=some n:=by
  rw[Ra];simp only[bL,aK,lb];rw[af (A9.2 ⟨by simp,by grind[kJ],by grind[en]⟩),bD];rfl
 have f1:=aca (n:=n) (by omega) (λi ak=>c1 i (by omega)) n.length 0 (by simp);have f2:=adp (m:=n.length) (by omega) n.length 0 (by simp);simp_all[RT,YH,bL,aK,ah,List.length_replicate]
end
abbrev ty(ts:List au)(t:Int):au:=ts.getD t.toNat a8
def ki(y:au)(id:Int):Bool:=y.bW.any λs=>decide (s.aq=id)
theorem aC'{y:au}(h:y.bW.length<=1000)(id:Int):∃a,yc (y,id)=some (a,ki y id):=by
 obtain⟨r,h1,_,aA⟩:=G3 (t:=y) id (by omega);have:r.2=ki y id:=by
  rcases aA with⟨j,a1,a2,a3,rfl⟩|⟨a1,rfl⟩
  . exact(zd.2 ⟨_,bZ a1 jj,by grind⟩).symm
  . refine(List.any_eq_false.2 λx I=>?_).symm
    grind[List.mem_iff_getElem]
 grind
theorem Qm{y:au}(h:y.al.length<=1000)(id:Int):kG (y,id)=some (x3 y.al id):=LA h id
theorem Te(l:List bj)(id:Int):x3 l id=match e9 l id with
 |some j=>((j:Int),true)
 |none=>(0,false):=rfl
def vU(x y:au):Bool:=(x.bW.all λs=>ki y s.aq)&&(x.al.all λm=>(e9 y.al m.aq).isSome)
section
variable {x y:au}(I:x.bW.length<=1000/\x.al.length<=1000)(ao:y.bW.length<=1000/\y.al.length<=1000)
include I ao
theorem afS:∀(k i:Nat),i+k=x.bW.length->((x.bW.drop i).all λs=>ki y s.aq)=true/\Ao (x.bW,(x.bW.length:Int),(i:Int),x,y)=some (.inr (x,y))\/
 ((x.bW.drop i).all λs=>ki y s.aq)=false/\Ao (x.bW,(x.bW.length:Int),(i:Int),x,y)=some (.inl false)
 |0,i,ak=>.inl ⟨by grind,by simp_all[Ao,ah]⟩
 |k+1,i,ak=>by
  have aV:i<x.bW.length:=by omega
  obtain⟨a,s1⟩:=aC' ao.1 _;have e:x.bW.drop i=x.bW.getD i jj::x.bW.drop (i+1):=by
   simp_all
  rw[Ao,af (by grind),af (bQ aV)];simp only[bL,lb];rw[s1,e,sJ];cases ag:ki y _ with
  |false=>simp
  |true=>
   rw[c0 (by omega)];exact afS k (i+1) (by omega)
theorem afT:∀(k i:Nat),i+k=x.al.length->((x.al.drop i).all λm=>(e9 y.al m.aq).isSome)=true/\Ap (x.al,(x.al.length:Int),(i:Int),y)=some (.inr ())\/
 ((x.al.drop i).all λm=>(e9 y.al m.aq).isSome)=false/\Ap (x.al,(x.al.length:Int),(i:Int),y)=some (.inl false)
 |0,i,ak=>.inl ⟨by grind,by simp_all[Ap,ah]⟩
 |k+1,i,ak=>by
  have aV:i<x.al.length:=by omega
  have s1:=Qm ao.2;have e:x.al.drop i=x.al.getD i aX::x.al.drop (i+1):=by
   simp_all
  rw[Ap,af (by grind),af (bQ aV)];simp only[bL,lb];rw[s1,e,sJ,Te];cases ag:e9 y.al _ with
  |none=>simp
  |some j=>
   rw[c0 (by omega)];exact afT k (i+1) (by omega)
theorem avS:KB (x,y)=some (y.Open||vU x y):=by
 have a:=afS I ao x.bW.length 0 (by simp);have b:=afT I ao x.al.length 0 (by simp)
 grind[KB,vU]
end
noncomputable def rq (tw tr:List au)(f g:bj):ad×Int:=Ud (BZ tw tr f.aQ f.cB g.aQ)
noncomputable def Qn (tw tr:List au)(f g:bj):Int:=if f.cV=true then(if g.cV=true then(if(rq tw tr f g).2=0/\ey g (rq tw tr f g).1=true then 0 else 10)else 7)else 0
noncomputable def sF (tw tr:List au)(x:au)(g:bj):Int:=match e9 x.al g.aq with
 |none=>if g.cV=true then 0 else 7
 |some i=>Qn tw tr (x.al.getD i aX) g
def jl{α:Type}(f:α->Int):List α->Int
 |[]=>0
 |a::l=>if f a=0 then jl f l else f a
theorem auC{α:Type}{f:α->Int}{a:α}{l:List α}{c:Int}(h:f a=c)(ay:c≠0):jl f (a::l)=c:=by
 subst h;exact ah ay
theorem acb{α:Type}{f:α->Int}{a:α}{l:List α}(h:f a=0):jl f (a::l)=jl f l:=af h
def hg(y:au)(f:bj):Int:=if(e9 y.al f.aq).isNone=true/\f.dq=true then 6 else 0
section
variable {tw tr:List au}(HW:ef tw)(HR:ef tr)
include HW HR
theorem avT{x y:au}(I:x∈tw)(ao:y∈tr){f g:bj}(aJ:f∈x.al)(az:g∈y.al)(av:f.cV=true)(he:g.cV=true):
 Bl ((⟨tw⟩:bY),f.aQ,f.cB,(⟨tr⟩:bY),g.aQ)=some (rq tw tr f g)/\(∃b,tf ((rq tw tr f g).1,g.cB)=some b/\b=ey g (rq tw tr f g).1):=by
 have aF:=(HW.T x I).xT f aJ;have qF:=HW.D x I f aJ av;have hw:=HW.W x I f aJ av;have bq:j' tw 3000 f.aQ f.cB:=w5 HW 3000 aF qF (.inr (by omega)) (.inr (by omega));obtain⟨j,aM,rfl⟩:=Hy.1 ao;have ai:=HR.R j aM g (by grind);have ok:c6 (rq tw tr f g).1:=aCt HW HR aF qF bq ai.1 ai.2.1
 have V5:ey g (rq tw tr f g).1=true↔(rq tw tr f g).1=g.cB:=by
  grind[ey]
 obtain⟨b,b1,b2⟩:=ZU ok g.cB;have ag:b=ey g (rq tw tr f g).1:=by grind
 exact⟨am7 HW HR aF qF bq ai.1 ai.2.1,b,b1,ag⟩
theorem ayK{l:List bj}{id:Int}{j:Nat}(h:e9 l id=some j):bd (j:Int) l.length=true:=bQ (lx h).1
theorem adS{x y:au}(I:x∈tw)(ao:y∈tr):∀(k i:Nat),i+k=y.al.length->
 (jl (sF tw tr x) (y.al.drop i)=0/\v' (y.al,(y.al.length:Int),(i:Int),tw,x,tr,y)=some (.inr (x,y)))\/
 (¬jl (sF tw tr x) (y.al.drop i)=0/\v' (y.al,(y.al.length:Int),(i:Int),tw,x,tr,y)=some (.inl (jl (sF tw tr x) (y.al.drop i))))
 |0,i,ak=>.inl ⟨by rw[Hu (by omega)];rfl,by simp_all[v',ah]⟩
 |k+1,i,ak=>by
  have aV:i<y.al.length:=by omega
  have az6:=(HW.dR x I).2.2;have az7:=(HR.dR y ao).2.2;have e:y.al.drop i=y.al.getD i aX::y.al.drop (i+1):=by
   simp_all
  have az:=bZ aV aX;have ih:=adS I ao k (i+1) (by omega);rw[v',af (by grind),af (bQ aV)];simp only[bL,aK,lb,ad.cr];generalize y.al.getD i aX=g at*;rw[Qm (y:=x) (by omega) g.aq,e,Te,c0 (by omega)];have hm:sF tw tr x g=match e9 x.al g.aq with
   |none=>if g.cV=true then 0 else 7
   |some i=>Qn tw tr (x.al.getD i aX) g:=rfl
  cases bF:e9 x.al g.aq with
  |none=>
   cases av:g.cV with
   |false=>
    grind[jl]
   |true=>
    grind[jl]
  |some j=>
   rw[bF]at hm;have aM:=ayK (HW:=HW) (HR:=HR) bF;have aJ:=bZ (lx bF).1 aX;simp only[aK,gN,dK,dB,lb,aM,dc,Hp,nk];simp only at hm;unfold Qn at hm;rcases Ma (x.al.getD j aX).cV with Ax|Ax
   . rcases Ma g.cV with ahF|ahF
     . obtain⟨d1,b,d2,d3⟩:=avT HW HR I ao aJ az Ax ahF;rw[d1];simp only[aK];by_cases h0:(rq tw tr (x.al.getD j aX) g).2=0/\ey g (rq tw tr (x.al.getD j aX) g).1=true
       . rw[af h0]at hm;have e0:jl (sF tw tr x) (g::y.al.drop (i+1))=jl (sF tw tr x) (y.al.drop (i+1)):=by grind[jl]
         grind
       . rw[ah h0]at hm;have Uy:jl (sF tw tr x) (g::y.al.drop (i+1))=10:=by grind[jl]
         grind
     simp_all[jl,gN,j7,dK,dB,dc,nk,pe]
   . have e0:jl (sF tw tr x) (g::y.al.drop (i+1))=jl (sF tw tr x) (y.al.drop (i+1)):=by grind[jl]
     grind
theorem adT{x y:au}(I:x∈tw)(ao:y∈tr):∀(k i:Nat),i+k=x.al.length->
 (jl (hg y) (x.al.drop i)=0/\Bd (x.al,(x.al.length:Int),(i:Int),y)=some (.inr ()))\/
 (¬jl (hg y) (x.al.drop i)=0/\Bd (x.al,(x.al.length:Int),(i:Int),y)=some (.inl (jl (hg y) (x.al.drop i))))
 |0,i,ak=>.inl ⟨by rw[Hu (by omega)];rfl,by simp_all[Bd,ah]⟩
 |k+1,i,ak=>by
  have aV:i<x.al.length:=by omega
  have az6:=(HW.dR x I).2.2;have az7:=(HR.dR y ao).2.2;have e:x.al.drop i=x.al.getD i aX::x.al.drop (i+1):=by
   simp_all
  have ih:=adT I ao k (i+1) (by omega);have s1:=Qm (y:=y) (by omega) (x.al.getD i aX).aq;rw[Bd,af (by grind),af (bQ aV)];simp only[bL,aK,lb];rw[s1,e,c0 (by omega)];simp only[aK,bQ aV,Hp,dc]
  have ay:hg y (x.al.getD i aX)=if(e9 y.al (x.al.getD i aX).aq).isNone=true/\(x.al.getD i aX).dq=true then 6 else 0:=rfl
  rw[Te];rcases Ma (x.al.getD i aX).dq with pV|pV
  . cases bF:e9 y.al (x.al.getD i aX).aq with
    |none=>
     rw[af ⟨by grind,pV⟩]at ay;have o0:jl (hg y) ((x.al.getD i aX)::x.al.drop (i+1))=6:=auC ay (by simp)
     grind
    |some j=>
     grind[acb]
  . grind[acb]
noncomputable def MK (tw tr:List au)(x y:au):Int:=if jl (sF tw tr x) y.al=0 then jl (hg y) x.al else jl (sF tw tr x) y.al
theorem avo{x y:au}(I:x∈tw)(ao:y∈tr):Q5 ((⟨tw⟩:bY),x,(⟨tr⟩:bY),y)=some (MK tw tr x y):=by
 have a:=adS HW HR I ao y.al.length 0 (by simp);have b:=adT HW HR I ao x.al.length 0 (by simp)
 grind[Q5,MK]
def nR(k:au):Int:=if k.Kind=1 then 2 else if k.Kind=2 then k.cD-k.cA+1 else if k.Kind=4 then k.bW.length else if k.Max=0 then 1 else 100
omit HR in
theorem auD{k:au}(hk:k∈tw)(aU:k.Kind<=4):∃q,Lk k=some q/\∀m,m<=3->fV m q=fV m (nR k):=by
 have h1:=(aao HW hk).1;have gB:=HW.L k hk;have bF:=HW.V.F k hk;rw[Lk];by_cases k1:k.Kind=1
 . exact⟨2,by simp[k1],λm _=>by rw[show nR k=2 by grind[nR]]⟩
 by_cases k2:k.Kind=2
 . have aEP:k.cA<=k.cD:=by rcases bF with h|h|h|h|h|h|h|h|h<;>omega
   have ah2:nR k=k.cD-k.cA+1:=by grind[nR]
   have gb:gq .u64 (cU .u64 k.cD) (cU .u64 k.cA)=k.cD-k.cA:=by
    show IntKind.wrap .u64 (IntKind.wrap .u64 k.cD-IntKind.wrap .u64 k.cA)=_
    grind[IntKind.wrap_u64]
   have hr:cU .i64 (k.cD-k.cA)=k.cD-k.cA:=by
    show IntKind.wrap .i64 _=_
    grind[IntKind.wrap_i64]
   rw[ah (by grind),af (by grind),gb];simp only[bL,aK];rw[af (by grind),hr,nE (by omega) (by omega)]
   grind
 by_cases k4:k.Kind=4
 . exact⟨k.bW.length,by simp[k4],λm _=>by rw[show nR k=k.bW.length by grind[nR]]⟩
 have k3:k.Kind=3:=by omega
 by_cases fN:k.Max=0
 . exact⟨1,by simp[k3,fN],λm _=>by rw[show nR k=1 by grind[nR]]⟩
 . exact⟨2147483647,by simp[k3,fN],λm hm=>by rw[show nR k=100 by grind[nR]];grind[fV]⟩
noncomputable def El (tw tr:List au)(t u:Int):Int:=
 if ¬(ty tw t).Kind=(ty tr u).Kind then 9
 else if(ty tw t).Kind=2 then(if(ty tw t).cA<(ty tr u).cA\/(ty tr u).cD<(ty tw t).cD then 2 else 0)
 else if(ty tw t).Kind=3\/(ty tw t).Kind=7 then(if(ty tr u).Max<(ty tw t).Max then 3 else 0)
 else if(ty tw t).Kind=8 then(if(ty tr u).Max<fV (ty tw t).Max (nR (ty tw (ty tw t).Key))then 3 else 0)
 else if(ty tw t).Kind=4 then(if((ty tr u).Open||vU (ty tw t) (ty tr u))=true then 0 else 4)
 else if(ty tw t).Kind=6 then(if((ty tr u).Open||vU (ty tw t) (ty tr u))=true then 0 else 5)
 else if(ty tw t).Kind=5 then MK tw tr (ty tw t) (ty tr u)
 else 0
omit HW HR in
theorem Ti{x:au}(h:x.Kind=8):x.Key∈jw x:=by grind[jw]
omit HW HR in
theorem acX{x:au}(h:7<=x.Kind):x.a6∈jw x:=by grind[jw]
def kB(ts:List au)(t:Int):Prop:=0<=t/\t<ts.length
omit HW HR in
theorem LB{ts:List au}{t:Int}(h:kB ts t):bd t ts.length=true:=by
 grind[kB,bd]
omit HW HR in
theorem rj{ts:List au}{t:Int}(h:kB ts t):ty ts t∈ts:=bZ (by grind[kB]) _
theorem lens{t u:Int}(ht:kB tw t)(hu:kB tr u):((ty tw t).bW.length<=1000/\(ty tw t).al.length<=1000)/\((ty tr u).bW.length<=1000/\(ty tr u).al.length<=1000):=by
 have I:=rj ht;have ao:=rj hu;have a:=(HW.dR _ I).2.2;have b:=(HR.dR _ ao).2.2;have c:∀{x:au} {ts:List au},ky x->x.bW.length<=1000:=λ{x ts} h=>by
  rcases h with h|h|h|h|h|h|h|h|h
  all_goals first
   |(have:=h.2.2.2.2.2.1.2.2.2.2;omega)
   |(have q:x.bW=[]:=(by first|exact h.2.2.2.2.2.1|exact h.2.2.2.2.1);rw[q];simp)
 exact⟨⟨c (ts:=tw) (HW.V.F _ I),by omega⟩,⟨c (ts:=tr) (HR.V.F _ ao),by omega⟩⟩
theorem avU{t u:Int}(ht:kB tw t)(hu:kB tr u):Yw ((⟨tw⟩:bY),t,(⟨tr⟩:bY),u)=some (El tw tr t u):=by
 have I:=rj ht;have ao:=rj hu;obtain⟨hC,l2⟩:=lens HW HR ht hu;have ay:=avS hC l2;have ai:=avo HW HR I ao;have fN:=HW.M _ I;have AE:(ty tw t).Kind=8->bd (ty tw t).Key tw.length=true/\(∃q,Lk (ty tw (ty tw t).Key)=some q/\fV (ty tw t).Max q=fV (ty tw t).Max (nR (ty tw (ty tw t).Key))):=λk8=>by
  have hk:kB tw (ty tw t).Key:=HW.V.U _ I _ (Ti k8);obtain⟨q,c3,dE⟩:=auD HW (rj hk) (HW.V.ud _ I k8).2
  grind[LB]
 have hk:=aao HW I;show(if bd t tw.length=true then _ else none)=_;rw[LB ht,af rfl];simp only[bL,aK];rw[LB hu,af rfl];unfold El;obtain⟨x,pR⟩:∃x,ty tw t=x:=⟨_,rfl⟩
 obtain⟨y,o4⟩:∃y,ty tr u=y:=⟨_,rfl⟩
 have Vi:tw.getD t.toNat a8=x:=pR;have FC:tr.getD u.toNat a8=y:=o4;simp only[Vi,FC,pR,o4]at*;by_cases cq:x.Kind=y.Kind
 . have azS:x.Kind=1\/x.Kind=2\/x.Kind=3\/x.Kind=4\/x.Kind=5\/x.Kind=6\/x.Kind=7\/x.Kind=8\/x.Kind=9:=by omega
   rcases azS with k|k|k|k|k|k|k|k|k<;>have aBe:y.Kind=_:=cq.symm.trans k
   all_goals simp only[k,aBe,Int.reduceEq,Int.reduceLT,fg,gL,gN,j7,L6,nU,nk,pe,dK,dB,dc,aK,not_true_eq_false,D9,false_or,or_true,true_or,and_self]
   . grind
   . grind
   . grind
   . grind
   all_goals grind
 grind
end
theorem aap{a b:b3}:a=b↔a.cw=b.cw/\a.cd=b.cd:=by cases a;cases b;simp
instance aEq:DecidableEq b3:=λa b=>decidable_of_iff (a.cw=b.cw/\a.cd=b.cd) aap.symm
theorem ayF{a b:b3}:(gu a.cw b.cw&&(gu a.cd b.cd&&true))=decide (a=b):=by
 simp[gu,aap]
def lT(l:List b3)(p:b3):List b3:=if p∈l then l else l++[p]
theorem aaD(l:List b3)(p:b3):(lT l p).length<=l.length+1:=by grind[lT]
theorem avp{l:List b3}{p q:b3}:q∈lT l p↔q∈l\/q=p:=by
 grind[lT]
theorem DQ{m:List b3}:∀{l:List b3} {q:b3},q∈m.foldl lT l↔q∈l\/q∈m:=by
 induction m with
 |nil=>simp
 |cons a m ih=>simp_all[avp,or_assoc]
theorem acY{m:List b3}:∀{l:List b3},(m.foldl lT l).length<=l.length+m.length:=by
 induction m with
 |nil=>simp
 |cons a m ih=>grind[aaD]
theorem asA{l:List b3}(h:l.Nodup)(p:b3):(lT l p).Nodup:=by
 grind[lT]
theorem ar3{m:List b3}:∀{l:List b3},l.Nodup->(m.foldl lT l).Nodup:=by
 induction m with
 |nil=>simp
 |cons a m ih=>grind[asA]
theorem acZ{l:List b3}{i:Nat}(h:i<l.length):l.drop i=l.getD i fE::l.drop (i+1):=by
 simp_all
section
variable {l:List b3}(p:b3)(aj:l.length<=1000000)
include aj
theorem aiO:∀(k i:Nat),i+k=l.length->(p∈l.drop i/\∃j:Nat,vY ((l.length:Int),(i:Int),l,p)=some (.inl ((j:Int),l)))\/
 (p ∉ l.drop i/\vY ((l.length:Int),(i:Int),l,p)=some (.inr l))
 |0,i,ak=>.inr ⟨by grind,by simp_all[vY,ah]⟩
 |k+1,i,ak=>by
  have aV:i<l.length:=by omega
  have ih:=aiO k (i+1) (by omega);rw[acZ aV];have mX:vY ((l.length:Int),(i:Int),l,p)=if l.getD i fE=p then some (.inl ((i:Int),l))else vY ((l.length:Int),((i+1:Nat):Int),l,p):=by
   rw[vY,af (by grind),af (bQ aV)];simp only[lb,ayF,aV,fg,dc]
   grind[c0]
  rw[mX];by_cases h:l.getD i fE=p
  . grind
  . have bg:¬p=l.getD i fE:=λe=>h e.symm
    simp only[ah h,fz,bg,false_or];omega
theorem aA':Rm (p,l)=some (decide (p∈l),l):=by
 have h:=aiO p aj l.length 0 (by simp);rw[Rm,XK];rcases h with⟨h1,j,bN⟩|⟨h1,bN⟩
 all_goals simp_all
end
def zj(x y:au)(l:List bj):List b3:=l.filterMap λf=>match e9 y.al f.aq with
 |none=>none
 |some j=>some ⟨f.aQ,(y.al.getD j aX).aQ⟩
def Kj(x y:au):List b3:=if x.Kind=8/\0<x.Max then[⟨x.Key,y.Key⟩]else[]
def Jo(x y:au):List b3:=if x.Kind=9\/(x.Kind=7\/x.Kind=8)/\0<x.Max then[⟨x.a6,y.a6⟩]else[]
def Ig(x y:au):List b3:=zj x y x.al++Kj x y++Jo x y
def Ew(x y:au):List b3:=if x.Kind=y.Kind then(Ig x y).foldl lT []else[]
theorem ac0(x y:au)(l:List bj):(zj x y l).length<=l.length:=by grind[zj]
theorem Tt(a b:Int){l:List b3}(aj:l.length<=1000):Dz (a,b,l)=some (lT l ⟨a,b⟩):=by
 rw[Dz,aA' _ (by omega)];simp only[bL,aK,fg,Bool.and_true,dc];unfold lT;by_cases h:⟨a,b⟩∈l
 . grind
 . rw[ah h,af (by grind),af (e6 (by simp) (by grind))]
section
variable {x y:au}(I:x.al.length<=100)(ao:y.al.length<=100)
include I ao
theorem aa1:∀(k i:Nat) (acc:List b3),i+k=x.al.length->acc.length+k<=500->Ai (x.al,(x.al.length:Int),(i:Int),x,y,acc)=some (x,y,(zj x y (x.al.drop i)).foldl lT acc)
 |0,i,acc,ak,aC=>by rw[Hu (by omega),Ai,ah (by grind)];rfl
 |k+1,i,acc,ak,aC=>by
  have aV:i<x.al.length:=by omega
  have e:x.al.drop i=x.al.getD i aX::x.al.drop (i+1):=by
   simp_all
  rw[Ai,af (by grind),af (bQ aV)];simp only[bL,aK,lb];rw[Qm (y:=y) (by omega) _,Te,e,c0 (by omega)];unfold zj;rw[List.filterMap_cons];cases bF:e9 y.al _ with
  |none=>
   exact aa1 k (i+1) acc (by omega) (by omega)
  |some j=>
   simp only[aK,dc,bQ (lx bF).1,lb,BE];rw[Tt _ _ (by omega)];exact aa1 k (i+1) _ (by omega) (by grind[aaD])
end
theorem auI{x y:au}(I:x.al.length<=100):(Ig x y).length<=102:=by
 grind[ac0,Kj,Jo,Ig]
section
variable {tw tr:List au}(HW:ef tw)(HR:ef tr)
include HW HR
theorem avV{t u:Int}(ht:kB tw t)(hu:kB tr u):Ko ((⟨tw⟩:bY),t,(⟨tr⟩:bY),u)=some (Ew (ty tw t) (ty tr u)):=by
 have I:=(HW.dR _ (rj ht)).2.2;have ao:=(HR.dR _ (rj hu)).2.2;have qQ:=aa1 (x:=ty tw t) (y:=ty tr u) (by omega) (by omega) (ty tw t).al.length 0 [] (by simp) (by grind);have ai:=ac0 (ty tw t) (ty tr u) (ty tw t).al;simp only[Int.natCast_zero,qM,ox]at qQ;have n3:=@acY (zj (ty tw t) (ty tr u) (ty tw t).al) [];simp only[rJ]at n3
 show(if bd t tw.length=true then _ else none)=_;rw[LB ht,af rfl];simp only[bL,aK];rw[LB hu,af rfl];unfold Ew Ig;obtain⟨x,pR⟩:∃x,ty tw t=x:=⟨_,rfl⟩
 obtain⟨y,o4⟩:∃y,ty tr u=y:=⟨_,rfl⟩
 have Vi:tw.getD t.toNat a8=x:=pR;have FC:tr.getD u.toNat a8=y:=o4;simp only[Vi,FC,pR,o4]at*;by_cases cq:x.Kind=y.Kind
 . have aBg:(bif decide (x.Kind=8)then decide (0<x.Max)else false)=decide (x.Kind=8/\0<x.Max):=by
    grind
   have zY:(bif decide (x.Kind=9)then true else bif bif decide (x.Kind=7)then true else decide (x.Kind=8)then decide (0<x.Max)else false)=decide (x.Kind=9\/(x.Kind=7\/x.Kind=8)/\0<x.Max):=by
    grind
   have ag:¬(!(decide (x.Kind=y.Kind)))=true:=by grind
   rw[af cq,ah ag,qQ];simp only[aK,List.foldl_append,aBg,zY];have a2:=aaD (List.foldl lT [] (zj x y x.al)) ⟨x.Key,y.Key⟩;unfold Kj Jo;by_cases k1:x.Kind=8/\0<x.Max
   . have k2:x.Kind=9\/(x.Kind=7\/x.Kind=8)/\0<x.Max:= .inr ⟨.inr k1.1,k1.2⟩;simp only[k1,k2,fg,dc,and_self,BE,List.foldl_nil];rw[Tt _ _ (by omega)];simp only[aK];rw[Tt _ _ (by omega)];rfl
   . by_cases k2:x.Kind=9\/(x.Kind=7\/x.Kind=8)/\0<x.Max
     . rw[af k2];simp only[k1,k2,fg,gL,dc,dB,dK,BE,List.foldl_nil];rw[Tt _ _ (by omega)];rfl
     . rw[ah k2];simp only[k1,k2,gL,dB,dK,List.foldl_nil]
 grind
end
abbrev qf(tw tr:List au)(p:b3):Prop:=kB tw p.cw/\kB tr p.cd
abbrev Bx(tw tr:List au)(p:b3):List b3:=Ew (ty tw p.cw) (ty tr p.cd)
theorem axb{ts:List au}(H:ef ts){x:au}(I:x∈ts){m:bj}(hm:m∈x.al):kB ts m.aQ:=by
 obtain⟨j,aM,rfl⟩:=Hy.1 I;have:=H.R j aM m (by grind);exact⟨this.1,this.2.1⟩
theorem avW{x y:au}{l:List bj}{q:b3}(h:q∈zj x y l):∃f∈l,∃j,e9 y.al f.aq=some j/\q=⟨f.aQ,(y.al.getD j aX).aQ⟩:=by
 obtain⟨f,aJ,h⟩:=WY.1 h
 grind
section
variable {tw tr:List au}(HW:ef tw)(HR:ef tr)
include HW HR
theorem axc{p q:b3}(ar:qf tw tr p)(h:q∈Bx tw tr p):qf tw tr q:=by
 have I:=rj ar.1;have ao:=rj ar.2;unfold Bx Ew at h;generalize ty tw p.cw=x at*;generalize ty tr p.cd=y at*;by_cases cq:x.Kind=y.Kind
 . rw[af cq]at h;rcases DQ.1 h with h|h
   . grind
   rcases ju.1 h with h|h
   . rcases ju.1 h with h|h
     . grind[avW,axb,bZ,lx]
     . unfold Kj at h;by_cases k:x.Kind=8/\0<x.Max
       . rw[af k]at h;simp only[ve]at h;subst h;exact⟨HW.V.U _ I _ (Ti k.1),HR.V.U _ ao _ (Ti (cq.symm.trans k.1))⟩
       grind
   . unfold Jo at h;by_cases k:x.Kind=9\/(x.Kind=7\/x.Kind=8)/\0<x.Max
     . rw[af k]at h;simp only[ve]at h;subst h;exact⟨HW.V.U _ I _ (acX (by omega)),HR.V.U _ ao _ (acX (by omega))⟩
     grind
 grind
end
theorem Xf:∀(n:Nat) (l:List Nat),l.Nodup->(∀x∈l,x<n)->l.length<=n
 |0,l,_,h=>by
  cases l with
  |nil=>simp
  |cons a l=>grind[List.mem_cons_self]
 |n+1,l,a',h=>by
  have h1:=Xf n _ (a'.erase n) (λx I=>by
   grind)
  grind
theorem adU{tw tr:List au}(hw:tw.length<=5)(ai:tr.length<=5){l:List b3}(a':l.Nodup)(h:∀p∈l,qf tw tr p):l.length<=25:=by
 have:=Xf 25 (l.map λp=>p.cw.toNat*5+p.cd.toNat) ?_ ?_
 . grind
 . unfold List.Nodup;rw[tI];refine List.Pairwise.imp_of_mem (λ{a b} aC ag b4 e=>b4 ?_) a';have h1:=h a aC;have aa:=h b ag;unfold qf kB at h1 aa
   grind[aap]
 . intro x I;obtain⟨p,ar,rfl⟩:=gO.1 I;have h1:=h p ar;unfold qf kB at h1;omega
inductive xy (tw tr:List au)(r:b3):b3->Prop
 |root:xy tw tr r r
 |step {p q:b3}:xy tw tr r p->q∈Bx tw tr p->xy tw tr r q
section
variable {tw tr:List au}(HW:ef tw)(HR:ef tr)
include HW HR
theorem Mz{r p:b3}(ai:qf tw tr r)(h:xy tw tr r p):qf tw tr p:=by
 induction h with
 |root=>grind
 |step _ aE ih=>grind[axc]
theorem avq{p:b3}(ar:qf tw tr p):(Bx tw tr p).length<=102:=by
 unfold Bx Ew;split
 . have:=@acY (Ig (ty tw p.cw) (ty tr p.cd)) [];have:=auI (x:=ty tw p.cw) (y:=ty tr p.cd) (by have:=(HW.dR _ (rj ar.1)).2.2;omega)
   grind
 simp
noncomputable abbrev Xx (tw tr:List au) (p:b3):Int:=El tw tr p.cw p.cd
omit HR in
theorem avr{t:Int}(ht:kB tw t):KH ((⟨tw⟩:bY),t)=some 0:=by
 grind[KH,auB,kB]
theorem avs{p:b3}(ar:qf tw tr p):RU ((⟨⟨tw⟩,p.cw⟩:cG),(⟨⟨tr⟩,p.cd⟩:cG))=some 0:=by
 grind[RU,avr]
end
abbrev ajH(ts:List au)(t:Int):cG:=⟨⟨ts⟩,t⟩
structure TX (c:uE):Prop where
 d:Iq c.S
 n:rX c.S.gX
 l:c.L.length<=reachBytes
 r9:∀x,x∈c.L->Nu x
 t:eO c.T
 u:eO c.U
theorem aB9{c:uE}(h:TX c):(∃w r,KD c=some (w,r,false))\/∃tw tr r,KD c=some (ajH tw r.cw,ajH tr r.cd,true)/\ef tw/\ef tr/\qf tw tr r:=by
 obtain⟨fj,d1,d3,d2⟩:=asz h.n h.l h.r9;rw[KD];rcases W7 h.d with e|⟨tw,e,HW⟩
 . rw[e];simp only[bL,aK];rw[d2];simp only[aK];rcases W7 d1.agB with c7|⟨l,c7,_⟩<;>rw[c7]<;>exact .inl ⟨_,_,rfl⟩
 . rw[e];simp only[bL,aK];rw[d2];simp only[aK];rcases W7 d1.agB with c7|⟨tr,c7,HR⟩
   . rw[c7];exact .inl ⟨_,_,rfl⟩
   . rw[c7];simp only[aK,gN,pe];by_cases bN:5<(c.L.length:Int)
     . rw[af (lL bN)];exact .inl ⟨_,_,rfl⟩
     rw[ah (by simpa using bN)];have dJ:=HW.dJ;have dn:=HR.dJ;have ej:=HW.fW;have cJ:=HR.fW;have t8:=h.t;have u8:=h.u;unfold eO at t8 u8;have z1:¬(tw.length:Int)=0:=by omega
     have z2:¬(tr.length:Int)=0:=by omega
     have m1:=sI c.T z1;have m2:=sG c.T (show(0:Int)<tw.length by omega);have aR:c5 (cU .i64 c.T) (tw.length:Int)=c.T%(tw.length:Int):=by rw[rn ⟨by omega,by omega⟩,lv t8.1 (by omega)]
     generalize c.T%(tw.length:Int)=t at*;have bw:c5 (bl .i64 t (cU .i64 c.U)) (tr.length:Int)=(t+c.U)%(tr.length:Int):=by rw[rn ⟨by omega,by omega⟩,nE (by omega) (by omega),lv (by omega) (by omega)]
     have m3:=sI (t+c.U) z2;have m4:=sG (t+c.U) (show(0:Int)<tr.length by omega);refine .inr ⟨tw,tr,⟨t,(t+c.U)%(tr.length:Int)⟩,?_,HW,HR,⟨⟨m1,m2⟩,⟨m3,m4⟩⟩⟩;rw[af (by rw[QG z1];rfl),aR,af (by rw[QG z2];rfl),bw]
theorem auJ{c:uE}(h:∀d,d∈cm.Fv XO c->WF cm d):TX c:=by
 have bD:=h ⟨.slice (.nm Q2),c.S.gX⟩ (.head _);have bJ:=h ⟨.slice (.nm alu),c.L⟩ (.tail _ (.head _));obtain⟨a,_,e⟩:=GK (t:= .nm alu) bJ;have u8:∀{n:Int},WF cm ⟨.int .u8,n⟩->eO n:=akK;refine⟨ad8 bD,avO bD,a,λx I=>?_,u8 (h ⟨.int .u8,c.T⟩ (.tail _ (.tail _ (.head _)))),u8 (h ⟨.int .u8,c.U⟩ (.tail _ (.tail _ (.tail _ (.head _)))))⟩;have aE:=e x I
 exact⟨u8 (aE ⟨.int .u8,x.Kind⟩ (.head _)),u8 (aE ⟨.int .u8,x.Node⟩ (.tail _ (.head _))),u8 (aE ⟨.int .u8,x.A⟩ (.tail _ (.tail _ (.head _)))),u8 (aE ⟨.int .u8,x.B⟩ (.tail _ (.tail _ (.tail _ (.head _)))))⟩
def af3(f g:ka):Prop:=∀t v rt p np u,f t v rt p= .inl u->g t v rt np= .inl u
section
variable {f g:ka}(h:af3 f g)
include h
theorem Lg{t rt:Int}:∀{l:List ad} {i dk:Nat} {p np:List Int} {us:List ad},jC f p t rt i l= .inl us->jC g np t rt dk l= .inl us
 |[],_,_,_,_,_,bg=>bg
 |v::l,i,dk,p,np,us,bg=>by
  rw[jC]at bg⊢;cases a:f t v rt (p++[(i:Int)])with
  |inr q=>rw[a]at bg;simp[qA]at bg
  |inl w=>
   cases b:jC f p t rt (i+1) l with
   |inr q=>rw[a,b]at bg;simp[qA]at bg
   |inl ws=>
    rw[a,b]at bg;rw[h _ _ _ _ (np++[(dk:Int)]) _ a,Lg b];exact bg
theorem avt{x:au}{v:ad}{p np:List Int}{n:bj}{u:ad}(bg:vo f x v p n= .inl u):vo g x v np n= .inl u:=by
 unfold vo at bg⊢;cases bF:e9 x.al n.aq with
 |none=>
  rw[bF]at bg;simp only at bg⊢;split at bg
  . rename_i av;rw[af av];exact bg
  . cases bg
 |some i=>
  rw[bF]at bg;simp only at bg⊢;cases a:f (x.al.getD i aX).aQ (v.aB.getD i aY) n.aQ (p++[n.aq])with
  |inr q=>rw[a,adb]at bg;split at bg<;>cases bg
  |inl w=>
   rw[a,Sv]at bg;rw[h _ _ _ _ (np++[n.aq]) _ a,Sv];split at bg
   . cases bg
   . rename_i av;rw[ah av];exact bg
theorem ac1{x:au}{v:ad}{p np:List Int}:∀{l:List bj} {us:List ad},ph f x v p l= .inl us->ph g x v np l= .inl us
 |[],_,bg=>bg
 |n::l,us,bg=>by
  rw[ph]at bg⊢;cases a:vo f x v p n with
  |inr q=>rw[a]at bg;simp[qA]at bg
  |inl w=>
   cases b:ph f x v p l with
   |inr q=>rw[a,b]at bg;simp[qA]at bg
   |inl ws=>
    rw[a,b]at bg;rw[avt h a,ac1 b];exact bg
omit h in
theorem Sx{tw:List au}{y:au}{p np:List Int}:∀{ms:List bj} {l:List ad} {r:List dD},jP tw y p ms l= .inl r->jP tw y np ms l= .inl r
 |[],_,r,bg=>by
  rw[jP]at bg⊢
  . exact bg
  . intros;simp_all
  . intros;simp_all
 |m::ms,[],r,bg=>by
  rw[jP]at bg⊢
  . exact bg
  . intros;simp_all
  . intros;simp_all
 |m::ms,v::l,r,bg=>by
  rw[jP]at bg⊢;by_cases bD:(dA y.al m.aq).isSome=true
  . rw[af bD]at bg⊢;exact Sx bg
  rw[ah bD]at bg⊢;by_cases bJ:m.dq=true
  . rw[af bJ]at bg;cases bg
  rw[ah bJ]at bg⊢;by_cases c1:ey m v=true
  . rw[af c1]at bg⊢;exact Sx bg
  rw[ah c1]at bg⊢;cases a:jP tw y p ms l with
  |inr q=>rw[a]at bg;simp[qA]at bg
  |inl ws=>rw[a]at bg;rw[Sx a];exact bg
theorem axd{tw:List au}{x y:au}{v:ad}{p np:List Int}{u:ad}(bg:lO tw f x y v p= .inl u):lO tw g x y v np= .inl u:=by
 unfold lO at bg⊢;by_cases gA:¬x.Kind=y.Kind
 . rw[af gA]at bg;cases bg
 rw[ah gA]at bg⊢;by_cases hv:x.Kind=5
 . rw[af hv]at bg⊢;unfold HL at bg⊢;obtain⟨is,aR,bg⟩:=GB bg;obtain⟨r,bw,rfl⟩:=qy bg;rw[ac1 h aR];simp only[vR];rw[Sx bw];rfl
 rw[ah hv]at bg⊢;by_cases qu:x.Kind=6
 . rw[af qu]at bg⊢;unfold BO at bg⊢;cases a:e9 x.al v.aq with
   |none=>rw[a]at bg;cases bg
   |some i=>
    rw[a]at bg;simp only at bg⊢;cases b:e9 y.al v.aq with
    |none=>
     rw[b]at bg;simp only at bg⊢;split at bg
     . rename_i c;rw[af c];exact bg
     . cases bg
    |some k=>
     rw[b]at bg;simp only at bg⊢;obtain⟨w,e,rfl⟩:=qy bg;rw[h _ _ _ _ (np++[v.aq]) _ e];rfl
 rw[ah qu]at bg⊢;by_cases r5:x.Kind=7
 . rw[af r5]at bg⊢;unfold Ej at bg⊢;split at bg
   . rename_i c;obtain⟨w,e,rfl⟩:=qy bg;rw[af c,Lg h e];rfl
   . cases bg
 rw[ah r5]at bg⊢;by_cases xM:x.Kind=8
 . rw[af xM]at bg⊢;unfold Ek at bg⊢;split at bg
   . rename_i c;obtain⟨ks,aR,bg⟩:=GB bg;obtain⟨w,e,rfl⟩:=qy bg;rw[af c,Lg h aR];simp only[vR];rw[Lg h e];rfl
   . cases bg
 rw[ah xM]at bg⊢;by_cases N0:x.Kind=9
 . rw[af N0]at bg⊢;unfold MI at bg⊢;obtain⟨w,e,rfl⟩:=qy bg;rw[Lg h e];rfl
 rw[ah N0]at bg⊢;split at bg
 . rename_i c;rw[af c];exact bg
 . cases bg
end
theorem aaE{tw tr:List au}:∀n k,af3 (hO tw tr n) (hO tw tr (n+k))
 |0,k=>λ_ _ _ _ _ _ h=>by cases h
 |n+1,k=>λt v rt p np u h=>by
  rw[Dl]at h;rw[show n+1+k=n+k+1 by omega,Dl];exact axd (aaE n k) h
theorem auK{tw tr:List au}{n m:Nat}{t rt:Int}{v u w:ad}{p q:List Int}(h1:hO tw tr n t v rt p= .inl u)(aa:hO tw tr m t v rt q= .inl w):u=w:=by
 have a:=aaE n m _ _ _ _ [] _ h1;have b:=aaE m n _ _ _ _ [] _ aa;rw[Nat.add_comm]at b;rw[a]at b;cases b;rfl
theorem afU{zB:ad->Int}{ks:List ad}(h:∀i,i+1<ks.length->zB (ks.getD i aY)<zB (ks.getD (i+1) aY)):∀(d i:Nat),i+d+1<ks.length->zB (ks.getD i aY)<zB (ks.getD (i+d+1) aY)
 |0,i,ak=>h i ak
 |d+1,i,ak=>by
  have a:=afU h d i (by omega)
  grind
theorem ZF{α:Type}{zB:ad->Int}{g:ad->α}{ks:List ad}(h:∀i,i+1<ks.length->zB (ks.getD i aY)<zB (ks.getD (i+1) aY))(az:∀a b,g a=g b->a∈ks->b∈ks->zB a=zB b):(ks.map g).Nodup:=by
 unfold List.Nodup;rw[tI,Ht];intro i j ak aM VJ e;have a:=afU h (j-i-1) i (by omega);rw[show i+(j-i-1)+1=j by omega]at a
 grind
theorem adV{α:Type}[DecidableEq α]:∀(l m:List α),l.Nodup->(∀x∈l,x∈m)->l.length<=m.length
 |[],m,_,_=>by simp
 |a::l,m,a',h=>by
  rw[List.nodup_cons]at a';have h1:=adV l (m.erase a) a'.2 λx I=>by
   grind
  grind
noncomputable def w0 (v:ad):Int:=if v.Kind=1 then(if v.cX=true then 1 else 0)else if v.Kind=2 then kx v.b5 else if v.Kind=4 then v.aq else 0
theorem auL{a b:ad}(hk:a.Kind=b.Kind)(aC:di a.b5)(ag:di b.b5)(aA:a.Kind=3->a.ch=[]/\b.ch=[])(h:nZ a b<0):w0 a<w0 b:=by
 unfold nZ at h;rw[Br]at h;rw[ah (by grind)]at h;unfold w0;rw[<-hk];by_cases k1:a.Kind=1
 . rw[af (by grind)]at h;simp only[k1,dc];rcases Ma a.cX with Pt|Pt<;>rcases Ma b.cX with Pu|Pu<;>rw[Pt,Pu]at h<;>rw[Pt,Pu]<;>first|decide|(exfalso;revert h;decide)
 rw[ah (by grind)]at h;by_cases k2:a.Kind=2
 . rw[af (by grind),Hg aC,Hg ag]at h;simp only[bL,aK,agy,QF]at h
   grind
 by_cases k3:a.Kind=3
 . simp_all[af,bL,aK,N3,agz,Yg,ajl]
 by_cases k4:a.Kind=4
 . simp only[bL,aK,N3,QF]at h
   grind
 grind
theorem ajt{n:Int}{l:List Int}(a':l.Nodup)(bE:Int)(h:∀x∈l,bE<=x/\x<bE+n):(l.length:Int)<=n\/l=[]:=by
 cases l with
 |nil=>simp
 |cons a l=>
  have:=Xf n.toNat ((a::l).map λx=>(x-bE).toNat) ?_ ?_
  . grind
  . unfold List.Nodup
    grind[List.Pairwise.imp_of_mem]
  grind
theorem axe{ts:List au}{gV:Int}(aU:1<=(ty ts gV).Kind/\(ty ts gV).Kind<=4)(km:(ty ts gV).Kind=2->(ty ts gV).cA<=(ty ts gV).cD){ks:List ad}(aF:∀k∈ks,c6 k)(aJ:h5 ts true gV ks)(aC:ri ks)(aA:ks.length<=3):(ks.length:Int)<=nR (ty ts gV)\/ks=[]:=by
 by_cases h0:ks=[]
 . grind
 have aj:∀{v},v∈ks->_:=λ{v} hm=>(gY _ _ _).1 (dS.1 aJ v hm)
 have i64:∀{v},v∈ks->di v.b5:=λ{v} hm=>by have:=aF v hm;cases this with|mk _ _ _ _ _ _ _ _ _ dn _ _=>exact dn
 have dI:ts.getD gV.toNat a8=ty ts gV:=rfl;simp only[dI]at aj;generalize ty ts gV=x at*;have hk:∀{v},v∈ks->v.Kind=x.Kind:=λhm=>(aj hm).1.2.2.1
 have aFG:∀{v},v∈ks->x.Kind=3->x.Max=0->v.ch=[]:=λ{v} hm k3 fN=>by
  simp_all
 by_cases k3:x.Kind=3/\¬x.Max=0
 . unfold nR;omega
 have NM:∀i,i+1<ks.length->w0 (ks.getD i aY)<w0 (ks.getD (i+1) aY):=λi ak=>by
  have m1:=bZ (show i<ks.length by omega) aY;have m2:=bZ ak aY;refine auL ((hk m1).trans (hk m2).symm) (i64 m1) (i64 m2) (λq=>?_) (aC i ak);have hl:x.Kind=3:=(hk m1).symm.trans q;simp_all
 unfold nR;by_cases k1:x.Kind=1
 . rw[af k1];have a':=ZF (g:=w0) NM λa b e _ _=>e
   rcases ajt (n:=2) a' 0 (λy ao=>by
    obtain⟨v,hm,rfl⟩:=gO.1 ao;unfold w0;rw[af ((hk hm).trans k1)]
    omega)with h|h
   . simp_all
   simp_all
 rw[ah k1];by_cases k2:x.Kind=2
 . rw[af k2];have a':=ZF (g:=λv:ad=>v.b5) NM λa b e sB FP=>by
    unfold w0;simp_all
   rcases ajt (n:=x.cD-x.cA+1) a' x.cA (λy ao=>by
    obtain⟨v,hm,rfl⟩:=gO.1 ao;have k:=hk hm
    rcases (aj hm).2 with c|c|c|c|c|c|c|c|c<;>omega)with h|h
   . simp_all
   simp_all
 by_cases k4:x.Kind=4
 . rw[af k4];have a':=ZF (g:=λv:ad=>v.aq) NM λa b e sB FP=>by
    unfold w0;rw[ah (by have:=hk sB;omega),ah (by have:=hk sB;omega),af ((hk sB).trans k4),ah (by have:=hk FP;omega),ah (by have:=hk FP;omega),af ((hk FP).trans k4)];exact e
   have:=adV _ (x.bW.map λs=>s.aq) a' λy ao=>by
    obtain⟨v,hm,rfl⟩:=gO.1 ao;have k:=hk hm;rcases (aj hm).2 with c|c|c|c|c|c|c|c|c
    case inr.inr.inr.inl=>
     rcases c.2.2.2.2.2.2.2 with⟨s,s1,s2⟩|⟨_,q,_⟩
     . exact gO.2 ⟨s,s1,s2⟩
     . cases q
    all_goals omega
   simp only[p3]at this;omega
 . rw[ah k4];have fN:x.Max=0:=zc λe=>k3 ⟨by omega,e⟩
   rw[af fN];have:ks.length<=1:=by
    refine zc λh=>?_
    have a:=NM 0 (by omega);have m1:=bZ (show 0<ks.length by omega) aY;have m2:=bZ (show 0+1<ks.length by omega) aY;unfold w0 at a;have:=hk m1;have:=hk m2;rw[ah (by omega),ah (by omega),ah (by omega),ah (by omega),ah (by omega),ah (by omega)]at a;omega
   omega
theorem YO{f:ka}{t rt:Int}:∀{l:List ad} {i:Nat} {p:List Int},(∀v∈l,∀p,∃w,f t v rt p= .inl w)->∃us,jC f p t rt i l= .inl us
 |[],_,_,_=>⟨[],rfl⟩
 |v::l,i,p,h=>by
  obtain⟨w,hw⟩:=h v (.head _) _;obtain⟨us,hu⟩:=YO λq aE=>h q (.tail _ aE)
  exact⟨w::us,by rw[jC,hw,hu];rfl⟩
theorem acd{f:ka}{x:au}{v:ad}{p:List Int}:∀{l:List bj},(∀n∈l,∃w,vo f x v p n= .inl w)->∃us,ph f x v p l= .inl us
 |[],_=>⟨[],rfl⟩
 |n::l,h=>by
  obtain⟨w,hw⟩:=h n (.head _);obtain⟨us,hu⟩:=acd λq aE=>h q (.tail _ aE)
  exact⟨w::us,by rw[ph,hw,hu];rfl⟩
theorem ace{tw:List au}{y:au}{p:List Int}:∀{ms:List bj} {l:List ad},(∀m∈ms,(dA y.al m.aq).isSome=true\/m.dq=false)->∃r,jP tw y p ms l= .inl r
 |[],l,_=>⟨[],by rfl⟩
 |m::ms,[],_=>⟨[],by rfl⟩
 |m::ms,v::l,h=>by
  obtain⟨r,ai⟩:=ace (tw:=tw) (p:=p) (l:=l) λq aE=>h q (.tail _ aE)
  rw[jP];by_cases bD:(dA y.al m.aq).isSome=true
  . grind
  rw[ah bD];have bJ:¬m.dq=true:=by grind
  rw[ah bJ];by_cases c1:ey m v=true
  . grind
  . rw[ah c1,ai];exact⟨_,rfl⟩
theorem Zx{α:Type}{f:α->Int}:∀{l:List α},jl f l=0->∀a∈l,f a=0
 |[],_,a,aC=>by grind
 |b::l,h,a,aC=>by
  unfold jl at h;by_cases ag:f b=0
  . rw[af ag]at h;rcases fz.1 aC with rfl|aC
    . grind
    . exact Zx h a aC
  grind
structure afH (tw tr:List au)(G:b3->Prop):Prop where
 i:∀p,G p->qf tw tr p
 z:∀p,G p->Xx tw tr p=0
 s:∀p q,G p->q∈Bx tw tr p->G q
section
variable {tw tr:List au}(HW:ef tw)(HR:ef tr){G:b3->Prop}(F:afH tw tr G)
include HW HR F
theorem reads{v:ad}(aF:c6 v):∀{t u:Int} {path:List Int} {n:Nat},G ⟨t,u⟩->dy tw true t v->j' tw n t v->∃w,hO tw tr n t v u path= .inl w:=by
 induction aF with
 |mk v hs h1 aa aA hk ak mB dJ dn ej cJ iY gU=>
 intro t u path n PE aJ a';cases n with
 |zero=>cases a'
 |succ n=>
 obtain⟨_,rY,sX,oM⟩:=a';obtain⟨⟨g1,g2,g3,g4⟩,ay⟩:=(gY _ _ _).1 aJ;have et:=F.i _ PE;have bq:El tw tr t u=0:=F.z _ PE;have ko:∀q,q∈Ew (ty tw t) (ty tr u)->G q:=λq aE=>F.s _ q PE aE
 have FQ:=rj et.1;have o8:=rj et.2;have SW:=HW.V.nr HW.T;have da:=HR.V.nr HR.T;have aED:=HW.M _ FQ;have azU:(ty tw t).Kind=8->kB tw (ty tw t).Key/\(1<=(ty tw (ty tw t).Key).Kind/\(ty tw (ty tw t).Key).Kind<=4)/\((ty tw (ty tw t).Key).Kind=2->(ty tw (ty tw t).Key).cA<=(ty tw (ty tw t).Key).cD):=λk8=>by
  have hk:kB tw (ty tw t).Key:=HW.V.U _ FQ _ (Ti k8);refine⟨hk,⟨(aao HW (rj hk)).1,(HW.V.ud _ FQ k8).2⟩,λk2=>?_⟩;rcases HW.V.F _ (rj hk)with h|h|h|h|h|h|h|h|h<;>omega
 rw[Dl];unfold El at bq;unfold Ew Ig at ko;obtain⟨x,pR⟩:∃x,ty tw t=x:=⟨_,rfl⟩
 obtain⟨y,o4⟩:∃y,ty tr u=y:=⟨_,rfl⟩
 simp only[pR,o4]at*;by_cases Fz:¬x.Kind=y.Kind
 . grind
 have cq:x.Kind=y.Kind:=zc Fz;rw[ah Fz]at bq;rw[af cq]at ko;have rC:∀q,q∈zj x y x.al->G q:=λq aE=>ko q (DQ.2 (.inr (ju.2 (.inl (ju.2 (.inl aE))))))
 have ah2:x.Kind=8->0<x.Max->G ⟨x.Key,y.Key⟩:=λa b=>ko _ (DQ.2 (.inr (ju.2 (.inl (ju.2 (.inr (by unfold Kj;grind)))))))
 have my:(x.Kind=9\/(x.Kind=7\/x.Kind=8)/\0<x.Max)->G ⟨x.a6,y.a6⟩:=λa=>ko _ (DQ.2 (.inr (ju.2 (.inr (by unfold Jo;grind)))))
 have dx:∀{i j:Nat},i<x.al.length->e9 y.al (x.al.getD i aX).aq=some j->G ⟨(x.al.getD i aX).aQ,(y.al.getD j aX).aQ⟩:=λ{i j} ak aM=>rC _ (WY.2 ⟨_,bZ ak aX,by grind⟩)
 have items:∀{i:Nat},h5 tw true x.a6 v.aB->(x.Kind=9\/(x.Kind=7\/x.Kind=8)/\(v.aB≠[]->0<x.Max))->∃us,jC (hO tw tr n) path x.a6 y.a6 i v.aB= .inl us:=λ{i} o5 aAk=>by
  refine YO λq aE p=>gU q aE (my ?_) (dS.1 o5 _ aE) ((oM (by omega)).1 q aE)
  grind
 rcases ay with bg|bg|bg|bg|bg|bg|bg|bg|bg
 . exact⟨v,yF cq (by omega) ⟨λh=>by omega,λh=>by omega,λh=>by omega⟩⟩
 . have k2:x.Kind=2:=by omega
   rw[af k2]at bq;exact⟨v,yF cq (by omega) ⟨λh=>by omega,λh=>by omega,λh=>by omega⟩⟩
 . have k3:x.Kind=3:=by omega
   rw[ah (by omega),af (.inl k3)]at bq;exact⟨v,yF cq (by omega) ⟨λh=>by omega,λh=>by omega,λh=>by omega⟩⟩
 . have k4:x.Kind=4:=by omega
   rw[ah (by omega),ah (by omega),ah (by omega),af k4]at bq;have ag:(y.Open||vU x y)=true:=zc λq=>by rw[ah q]at bq;cases bq
   refine⟨v,yF cq (by omega) ⟨λh=>by omega,λh=>by omega,λ_=>?_⟩⟩;rcases (show y.Open=true\/vU x y=true by simpa using ag)with aO|aO
   . exact .inr aO
   . left;rcases bg.2.2.2.2.2.2.2 with⟨s,s1,s2⟩|⟨_,q,_⟩
     . unfold vU at aO;rw[dM]at aO;have:=ik.1 aO.1 s s1;unfold ki at this;obtain⟨s',a,b⟩:=zd.1 this;exact⟨s',a,by rw[<-s2];simpa using b⟩
     . cases q
 . have k5:x.Kind=5:=by omega
   rw[ah (by omega),ah (by omega),ah (by omega),ah (by omega),ah (by omega),af k5]at bq;obtain⟨f1,f2⟩:=mQ.1 bg.2.2.2.2.2.2.2;have nQ:jl (sF tw tr x) y.al=0:=by
    unfold MK at bq;refine zc λq=>?_
    rw[ah q]at bq;exact q bq
   have AN:jl (hg y) x.al=0:=by
    unfold MK at bq
    rwa [af nQ]at bq
   obtain⟨m1,m2⟩:=SW.A _ FQ (.inl (by omega));obtain⟨m3,m4⟩:=da.A _ o8 (.inl (by omega));rw[Xo cq k5];unfold HL;obtain⟨is,aR⟩:=acd (f:=hO tw tr n) (x:=x) (v:=v) (p:=path) (l:=y.al) λg az=>by
    have hm:=Zx nQ g az;unfold sF at hm;unfold vo;cases bF:e9 x.al g.aq with
    |none=>
     rw[bF]at hm;simp only at hm⊢;have av:g.cV=true:=zc λq=>by rw[ah q]at hm;cases hm
     rw[af av];exact⟨_,rfl⟩
    |some i=>
     rw[bF]at hm;simp only at hm⊢;obtain⟨i1,i2,_⟩:=lx bF;have u4:=bZ i1 aX;have yU:=bZ (show i<v.aB.length by omega) aY;have o9:=yG y.al (x.al.getD i aX).aq;rw[i2,Sr m3 az]at o9;obtain⟨j,aM⟩:=L'.1 o9;have o6:e9 y.al (x.al.getD i aX).aq=some j:=by rw[i2];exact aM
     have Jn:y.al.getD j aX=g:=yC m3 (bZ (lx aM).1 aX) az (lx aM).2.1;have PF:=dx i1 o6;rw[Jn]at PF;obtain⟨w,hw⟩:=gU _ yU (path:=path++[g.aq]) PF (f2 i i1) (rY k5 i i1);rw[hw,Sv];refine⟨w,ah λq=>?_⟩;obtain⟨c3,dE⟩:=q
     have Xk:(x.al.getD i aX).cV=true/\(x.al.getD i aX).cB=v.aB.getD i aY:=by unfold ey at c3;simpa using c3
     unfold Qn at hm;rw[af Xk.1]at hm;have azK:g.cV=true:=zc λq=>by rw[ah q]at hm;cases hm
     rw[af azK]at hm;have av:(rq tw tr (x.al.getD i aX) g).2=0/\ey g (rq tw tr (x.al.getD i aX) g).1=true:=zc λq=>by rw[ah q]at hm;cases hm
     unfold rq at av;rw[Xk.2]at av;unfold BZ at av;cases fG:hO tw tr 3000 (x.al.getD i aX).aQ (v.aB.getD i aY) g.aQ []with
     |inr p=>rw[fG]at av;cases av.1
     |inl z=>
      rw[fG]at av;have:=auK hw fG;subst this;have hl:ey g w=true:=av.2;rw[dE]at hl;cases hl
   rw[aR];obtain⟨r,bw⟩:=ace (tw:=tw) (y:=y) (p:=path) (ms:=x.al) (l:=v.aB) λm hm=>by
    have pV:=Zx AN m hm;unfold hg at pV;have PM:¬((e9 y.al m.aq).isNone=true/\m.dq=true):=λq=>by rw[af q]at pV;cases pV
    rw[<-yG];cases dP:e9 y.al m.aq with
    |some _=>exact .inl rfl
    |none=>
     right;rw[dP]at PM
     simpa using PM
   exact⟨_,by simp only[vR];rw[bw];rfl⟩
 . have k6:x.Kind=6:=by omega
   rw[ah (by omega),ah (by omega),ah (by omega),ah (by omega),af k6]at bq;have ag:(y.Open||vU x y)=true:=zc λq=>by rw[ah q]at bq;cases bq
   obtain⟨a1,a2,a3,a4,a5,bx⟩:=bg;obtain⟨m1,m2⟩:=SW.A _ FQ (.inr (by omega));rw[Xp cq k6];unfold BO;cases bF:dA x.al v.aq with
   |none=>rw[bF]at bx;cases bx.2.1
   |some m=>
    rw[bF]at bx;obtain⟨b1,b2,cf⟩:=bx;have o9:=yG x.al v.aq;rw[bF]at o9;obtain⟨i,dP⟩:=L'.1 o9;obtain⟨d1,d2,_⟩:=lx dP;obtain⟨d3,d4⟩:=re bF;have em:x.al.getD i aX=m:=yC m1 (bZ d1 aX) d3 (by rw[d2,d4]);have yU:=bZ (show 0<v.aB.length by omega) aY;simp only[dP];cases FC:e9 y.al v.aq with
    |some k=>
     simp only[];have PF:=dx d1 (by rw[d2];exact FC);obtain⟨w,hw⟩:=gU _ yU (path:=path++[v.aq]) PF (by rw[em];exact dS.1 cf _ yU) (by rw[em];exact sX k6 m bF _ yU);exact⟨_,by rw[hw];rfl⟩
    |none=>
     simp only[];rcases (show y.Open=true\/vU x y=true by simpa using ag)with aO|aO
     . exact⟨_,by rw[af aO]⟩
     . unfold vU at aO;rw[dM]at aO;have:=ik.1 aO.2 m d3;rw[d4,FC]at this;cases this
 . have k7:x.Kind=7:=by omega
   rw[ah (by omega),af (.inr k7)]at bq;have ag:¬y.Max<x.Max:=λq=>by rw[af q]at bq;cases bq
   obtain⟨a1,a2,a3,a4,a5,bx,cp,cz,a9⟩:=bg;rw[Xq cq k7];unfold Ej;rw[af (by omega)];obtain⟨us,hu⟩:=items (i:=0) a9 (.inr ⟨.inl k7,λb4=>by have:=Eb.2 b4;omega⟩);exact⟨_,by rw[hu];rfl⟩
 . have k8:x.Kind=8:=by omega
   rw[ah (by omega),ah (by omega),af k8]at bq;have ag:¬y.Max<fV x.Max (nR (ty tw x.Key)):=λq=>by rw[af q]at bq;cases bq
   obtain⟨a1,a2,a3,a4,a5,bx,cp,cz,a9,h9,mo⟩:=bg;obtain⟨t1,t2,t3⟩:=azU k8;have aAb:=axe t2 t3 hk a9 mo (by omega);have hlen:(v.aB.length:Int)<=y.Max:=by
    have hm:fV x.Max (nR (ty tw x.Key))=min x.Max (nR (ty tw x.Key)):=rfl;rw[hm]at ag;rcases aAb with h|h
    . omega
    . have l8:v.aZ.length=0:=by rw[h];rfl
      have:=(HR.V.F _ o8)
      have AM:0<=y.Max:=by rcases this with h|h|h|h|h|h|h|h|h<;>omega
      omega
   rw[Xr cq k8];unfold Ek;rw[af hlen];obtain⟨ks,jo⟩:=YO (f:=hO tw tr n) (t:=x.Key) (rt:=y.Key) (l:=v.aZ) (i:=0) (p:=path) λq aE p=>iY q aE (ah2 k8 (by have:=List.length_pos_of_mem aE;omega)) (dS.1 a9 _ aE) ((oM (by omega)).2 q aE)
   obtain⟨us,hu⟩:=items (i:=0) h9 (.inr ⟨.inr k8,λb4=>by have:=Eb.2 b4;omega⟩);rw[jo];exact⟨_,by simp only[vR];rw[hu];rfl⟩
 . have k9:x.Kind=9:=by omega
   obtain⟨a1,a2,a3,a4,a5,bx,cp,cz,a9⟩:=bg;rw[Xs cq k9];unfold MI;obtain⟨us,hu⟩:=items (i:=0) a9 (.inl k9);exact⟨_,by rw[hu];rfl⟩
end
def B7(l:List b3)(b:List Int):Prop:=b.length=l.length/\∀j,j<b.length->-1<=b.getD j 0/\b.getD j 0<j
theorem ZG{i:Nat}:∀{m l:List b3} {b:List Int},l.length+m.length<=1000->i<l.length->B7 l b->∃bI,xE (i:Int) m l b=some (m.foldl lT l,bI)/\B7 (m.foldl lT l) bI
 |[],l,b,_,_,h=>⟨b,rfl,h⟩
 |x::m,l,b,aj,ak,h=>by
  have aC:(l.any λz=>(gu x.cw z.cw&&gu x.cd z.cd))=decide (x∈l):=by
   rw[L3];simp only[zd,gu,dM,ij];exact⟨λ⟨z,bq,aR,bw⟩=>by cases x;cases z;simp_all,λh=>⟨x,h,rfl,rfl⟩⟩
  rw[xE,aC,BE];simp only[lf]at aj;by_cases I:x∈l
  . rw[af (lL I),show lT l x=l from af I];exact ZG (by omega) ak h
  . rw[ah (by simp[I]),show lT l x=l++[x]from ah I];obtain⟨h1,aa⟩:=h;rw[af (by rw[e6 (by simp) (by simp;omega),e6 (by simp) (by simp;omega)];rfl)];refine ZG (by simp;omega) (by simp;omega) ⟨by simp[h1],λj aM=>?_⟩;by_cases lG:j<b.length
    . have:=aa j lG;rw[show(b++[(i:Int)]).getD j 0=b.getD j 0 by grind];exact this
    . have:j=b.length:=by simp at aM;omega
      subst this;simp;omega
section
variable {tw tr:List au}(HW:ef tw)(HR:ef tr)
include HW HR
theorem acf{r:b3}(ai:qf tw tr r):∀(k n i:Nat) (acc:List b3) (b:List Int),i+k=26->k<n->i<=acc.length->acc.Nodup->(∀p∈acc,xy tw tr r p)->r∈acc->(∀j,j<i->∀q∈Bx tw tr (acc.getD j fE),q∈acc)->B7 acc b->
 ∃L B,HM Ko (⟨⟨tw⟩,r.cw⟩:cG) (⟨⟨tr⟩,r.cd⟩:cG) n i acc b=some (L,B)/\L.length<=25/\(∀p,p∈L↔xy tw tr r p)/\B7 L B
 |0,n,i,acc,b,ak,a',h1,aa,aA,aU,bN,dO=>by
  have:=adU HW.fW HR.fW aa λp ar=>Mz HW HR ai (aA p ar)
  omega
 |k+1,0,i,acc,b,ak,a',h1,aa,aA,aU,bN,dO=>by omega
 |k+1,n+1,i,acc,b,ak,a',h1,aa,aA,aU,bN,dO=>by
  have ayR:=adU HW.fW HR.fW aa λp ar=>Mz HW HR ai (aA p ar)
  rw[HM];by_cases aV:i<acc.length
  . have hm:=bZ aV fE;have ar:=Mz HW HR ai (aA _ hm);have aF:=avq HW HR ar;rw[af (by omega)];have hs:Ko ((⟨tw⟩:bY),(acc.getD i fE).cw,(⟨tr⟩:bY),(acc.getD i fE).cd)=_:=avV HW HR ar.1 ar.2;rw[hs];simp only[bL,aK];obtain⟨bI,aR,bw⟩:=ZG (m:=Bx tw tr (acc.getD i fE)) (by omega) aV dO;rw[aR];simp only[aK]
    have aE1:∀(m l:List b3) (j:Nat),j<l.length->(m.foldl lT l).getD j fE=l.getD j fE/\l.length<=(m.foldl lT l).length:=by
     intro m
     induction m with
     |nil=>simp
     |cons a m ih=>
      intro l j aM;rw[BE];by_cases aC:a∈l
      . rw[show lT l a=l from af aC];grind
      . rw[show lT l a=l++[a]from ah aC]
        grind
    refine acf ai k n (i+1) _ bI (by omega) (by omega) (by grind) (ar3 aa) (λp ar=>?_) (DQ.2 (.inl aU)) (λj aM q aE=>?_) bw
    . rcases DQ.1 ar with h|h
      . grind
      . exact .step (aA _ hm) h
    grind[DQ]
  . rw[ah (by omega)];refine⟨acc,b,rfl,ayR,λp=>⟨aA p,λh=>?_⟩,dO⟩
    induction h with
    |root=>grind
    |step _ aE ih=>
     obtain⟨j,aM,e⟩:=Hy.1 ih;exact bN j (by omega) _ (by grind)
theorem auE{r:b3}(ai:qf tw tr r):∃L B,XC ((⟨⟨tw⟩,r.cw⟩:cG),(⟨⟨tr⟩,r.cd⟩:cG))=some (L,B)/\L.length<=25/\(∀p,p∈L↔xy tw tr r p)/\B7 L B:=
 acf HW HR ai 26 60 0 [r] [-1] (by rfl) (by omega) (by simp) (by simp) (by simp;exact .root) (by simp) (λj aM=>by omega) ⟨rfl,λj aM=>by
  have:j=0:=by simpa using aM
  subst this
  simp⟩
omit HW HR in
theorem adW{L:List b3}{B:List Int}(h:B7 L B)(aj:L.length<=25)(dJ:Int):∀(n:Nat) (i:Int) (acc:List b3),-1<=i->i<n->i<L.length->acc.length+n<=100->∃l,Gh (i,dJ,L,B,acc)=some (dJ,l)/\l.length<=100
 |n,i,acc,h1,aa,aA,aU=>by
  rw[Gh];by_cases h0:0<=i
  . obtain⟨k,rfl⟩:∃k:Nat,i=k:=⟨i.toNat,by omega⟩
    obtain⟨b1,b2⟩:=h;have hk:k<L.length:=by omega
    have VO:k<B.length:=by omega
    have ag:=b2 k VO;rw[af (lL h0),af (bQ hk)];simp only[lb];rw[af (lL hk)];simp only[bL,aK];rw[af (e6 (by simp) (by simp;omega)),af (bQ VO),af (lL VO)]
    match n,aa,aU with
    |0,aa,aU=>exact absurd aa (by omega)
    |n+1,aa,aU=>exact adW ⟨b1,b2⟩ aj dJ n _ _ (by omega) (by omega) (by omega) (by simp;omega)
  . rw[ah (by simpa using h0)];exact⟨acc,rfl,by omega⟩
omit HW HR in
theorem afV:∀(n:Nat) (i j:Int) (l:List b3),0<=i->j<l.length->l.length<=1000->j-i<n->∃m,Gd (i,j,l)=some m/\m.length=l.length
 |n,i,j,l,h1,aa,aA,aU=>by
  rw[Gd];by_cases h:i<j
  . obtain⟨a,rfl⟩:∃a:Nat,i=a:=⟨i.toNat,by omega⟩
    obtain⟨b,rfl⟩:∃b:Nat,j=b:=⟨j.toNat,by omega⟩
    have aC:a<l.length:=by omega
    have ag:b<l.length:=by omega
    rw[af (lL h)];simp only[lb,bQ aC,bQ ag,aC,ag,fg,dc,bL,aK,mF];rw[c0 (by omega),show gq .i64 (b:Int) 1=((b-1:Nat):Int) by rw[om (by omega) (by omega)];omega]
    match n,aU with
    |0,aU=>exact absurd aU (by omega)
    |n+1,aU=>
     obtain⟨m,aR,bw⟩:=afV n ((a+1:Nat):Int) ((b-1:Nat):Int) ((l.set a (l.getD b fE)).set b (l.getD a fE)) (by omega) (by simp;omega) (by simpa using aA) (by omega);exact⟨m,aR,by simpa using bw⟩
  . rw[ah (by simpa using h)];exact⟨l,rfl,rfl⟩
omit HW HR in
theorem axf{l:List b3}(aj:l.length<=100):∃m,Ro l=some m/\m.length=l.length:=by
 obtain⟨m,aR,bw⟩:=afV 1000 0 ((l.length:Int)-1) l (by omega) (by omega) (by omega) (by omega);refine⟨m,?_,bw⟩;rw[Ro,om (by omega) (by omega),aR];rfl
theorem ael{L:List b3}{B:List Int}{r:b3}(eF:B7 L B)(aj:L.length<=25)(et:∀p∈L,qf tw tr p):∀(k i:Nat),i+k=L.length->((∀p∈L.drop i,Xx tw tr p=0)/\Bi ((L.length:Int),(i:Int),(⟨⟨tw⟩,r.cw⟩:cG),(⟨⟨tr⟩,r.cd⟩:cG),L,B)=some (.inr ()))\/∃n l,Bi ((L.length:Int),(i:Int),(⟨⟨tw⟩,r.cw⟩:cG),(⟨⟨tr⟩,r.cd⟩:cG),L,B)=some (.inl (n,0,l))
 |0,i,ak=>.inl ⟨by simp[Hu (show L.length<=i by omega)],by
  rw[Bi,ah (by simp;omega)]⟩
 |k+1,i,ak=>by
  have aV:i<L.length:=by omega
  have hm:=bZ aV fE;have ar:=et _ hm;rw[acZ aV,Bi,af (by simp;omega),af (bQ aV)];simp only[lb];rw[af (lL aV),avU HW HR ar.1 ar.2];simp only[bL,aK];by_cases h:El tw tr (L.getD i fE).cw (L.getD i fE).cd=0
  . rw[af (lL h),c0 (by omega)];rcases ael eF aj et k (i+1) (by omega)with⟨a,b⟩|c
    . refine .inl ⟨λp ar=>?_,b⟩;rcases fz.1 ar with rfl|ar
      . exact h
      . exact a p ar
    . exact .inr c
  . rw[ah (by simpa using h)];right;obtain⟨l,aR,bw⟩:=adW eF aj (El tw tr (L.getD i fE).cw (L.getD i fE).cd) 26 (i:Int) [] (by omega) (by omega) (by omega) (by simp);obtain⟨m,f1,f2⟩:=axf bw;rw[aR];simp only[aK];rw[f1];simp only[aK];rw[af (by simp[f2])];exact⟨_,_,rfl⟩
theorem ar4{r:b3}(ai:qf tw tr r):∃b,QX ((⟨⟨tw⟩,r.cw⟩:cG),(⟨⟨tr⟩,r.cd⟩:cG))=some (b,0)/\(b=true->∀p,xy tw tr r p->Xx tw tr p=0):=by
 obtain⟨L,B,h1,aa,aA,aU⟩:=auE HW HR ai;have et:=λp ar=>Mz HW HR ai ((aA p).1 ar)
 rw[QX,YM,avs HW HR ai];simp only[bL,aK,fg,gN,dK,dB];rw[h1];simp only[aK];rcases ael HW HR (r:=r) aU aa et L.length 0 (by omega)with⟨f1,f2⟩|⟨n,l,f2⟩
 . rw[show((0:Nat):Int)=0 from rfl]at f2;rw[f2];exact⟨true,rfl,λ_ p ar=>f1 p (by simpa using(aA p).2 ar)⟩
 . rw[show((0:Nat):Int)=0 from rfl]at f2;rw[f2];exact⟨false,rfl,λh=>by cases h⟩
end
theorem aaF{α β:Type}{f:α->Option β}(I4:α)(I5:β):∀{l:List α} {m:List β},m.length=l.length->(∀j,j<l.length->f (l.getD j I4)=some (m.getD j I5))->dQ f l=some m
 |[],[],_,_=>rfl
 |[],b::m,h,_=>by simp at h
 |a::l,[],h,_=>by simp at h
 |a::l,b::m,h,aJ=>by
  have h0:f a=some b:=aJ 0 (by simp);rw[S0,h0,aaF I4 I5 (l:=l) (m:=m) (by simpa using h) λj aM=>aJ (j+1) (by simpa using aM)];rfl
theorem am9:∀{a b:List (List UInt8)},a.length=b.length->ig (p' a b)=a/\iG (p' a b)=b
 |[],[],_=>⟨rfl,rfl⟩
 |[],_::_,h=>by simp at h
 |_::_,[],h=>by simp at h
 |x::a,y::b,h=>by
  obtain⟨h1,aa⟩:=am9 (a:=a) (b:=b) (by simpa using h);exact⟨by rw[p',ig,h1],by rw[p',iG,aa]⟩
theorem axg{m:bj}{v:ad}:ey m v=true↔m.cV=true/\m.cB=v:=by unfold ey;simp
theorem avu(m:bj)(l:List bj)(id:Int):e9 (m::l) id=if m.aq=id then some 0 else(e9 l id).map (· +1):=by
 unfold e9;rw[List.findIdx?_cons];by_cases h:m.aq=id<;>simp[h]
section
variable {tw tr:List au}
theorem ar5{ms:List bj}(hm:∀m,m∈ms->dz m.aq):∀{l:List ad},l.length=ms.length->(ms.Pairwise λa b=>a.aq<b.aq)->∀id:Int,((eN tw ms l).map pN).find? (λf=>decide (f.aq=id))=
 match e9 ms id with
 |none=>none
 |some i=>if ey (ms.getD i aX) (l.getD i aY)=true then none else some ⟨id,(ms.getD i aX).dq,cb tw (ms.getD i aX).aQ (l.getD i aY)⟩:=by
 induction ms with
 |nil=>intro l aj _ id;rw[eN]<;>simp[e9]
 |cons m ms ih=>
  intro l aj ar id;cases l with
  |nil=>simp at aj
  |cons v l=>
   rw[nh]at ar;have u4:=hm m (.head _);unfold dz at u4;have e:((m.aq.toNat:Nat):Int)=m.aq:=by omega
   have rc:=ih (λq aE=>hm q (.tail _ aE)) (l:=l) (by simpa using aj) ar.2 id;rw[eN,avu];by_cases hid:m.aq=id
   . rw[af hid];by_cases aO:ey m v=true
     . rw[af aO,rc];have a':e9 ms id=none:=by
        cases aE:e9 ms id with
        |none=>rfl
        |some j=>
         obtain⟨fl,ho,_⟩:=lx aE;have:=ar.1 _ (bZ fl aX);omega
       rw[a'];show none=if ey m v=true then none else _
       rw[af aO]
     . rw[ah aO,p4,List.find?_cons];have av:decide ((pN ⟨m.aq.toNat,m.dq,cb tw m.aQ v⟩).aq=id)=true:=lL (by show((m.aq.toNat:Nat):Int)=id;omega);rw[av];show some _=if ey m v=true then none else _
       rw[ah aO];show some (⟨((m.aq.toNat:Nat):Int),m.dq,cb tw m.aQ v⟩:eB)=_;rw[e,hid];rfl
   . rw[ah hid];have tail:(((eN tw ms l).map pN).find? λf=>decide (f.aq=id))=match (e9 ms id).map (· +1)with
      |none=>none
      |some i=>if ey ((m::ms).getD i aX) ((v::l).getD i aY)=true then none else some ⟨id,((m::ms).getD i aX).dq,cb tw ((m::ms).getD i aX).aQ ((v::l).getD i aY)⟩:=by
      rw[rc];cases e9 ms id<;>rfl
     by_cases aO:ey m v=true
     . rw[af aO,tail]
     . rw[ah aO,p4,List.find?_cons];have av:decide ((pN ⟨m.aq.toNat,m.dq,cb tw m.aQ v⟩).aq=id)=false:=QG (by show ¬((m.aq.toNat:Nat):Int)=id;omega);rw[av];simp only;rw[tail]
theorem abY{y:au}{path:List Int}:∀{ms:List bj} {l:List ad} {r:List dD},(∀m,m∈ms->dz m.aq)->jP tw y path ms l= .inl r->((eN tw ms l).map pN).all (nn y)=true/\iH y ((eN tw ms l).map pN)=r
 |[],l,r,_,h=>by
  rw[jP]at h
  . cases h;rw[eN]<;>simp[iH]
  . intros;simp_all
 |m::ms,[],r,_,h=>by
  rw[jP]at h
  . cases h;rw[eN]<;>simp[iH]
  . intros;simp_all
 |m::ms,v::l,r,hm,h=>by
  have u4:=hm m (.head _);unfold dz at u4;have e:((m.aq.toNat:Nat):Int)=m.aq:=by omega
  have rc:=λ{r}=>abY (y:=y) (path:=path) (ms:=ms) (l:=l) (r:=r) λq aE=>hm q (.tail _ aE)
  have aJ:pN ⟨m.aq.toNat,m.dq,cb tw m.aQ v⟩=⟨m.aq,m.dq,cb tw m.aQ v⟩:=by show(⟨((m.aq.toNat:Nat):Int),m.dq,cb tw m.aQ v⟩:eB)=_;rw[e]
  rw[jP]at h;rw[eN];by_cases bD:(dA y.al m.aq).isSome=true
  . rw[af bD]at h;obtain⟨a,b⟩:=rc h;by_cases aO:ey m v=true
    . rw[af aO];exact⟨a,b⟩
    . rw[ah aO,p4,aJ];refine⟨by rw[sJ,a];simp[nn,bD],?_⟩;unfold iH at b⊢;rw[List.filter_cons,ah (by simp[bD])];exact b
  rw[ah bD]at h;by_cases bJ:m.dq=true
  . rw[af bJ]at h;cases h
  rw[ah bJ]at h;by_cases aO:ey m v=true
  . rw[af aO]at h⊢;exact rc h
  . rw[ah aO]at h⊢;obtain⟨u,us,aR,bw,rfl⟩:=S3 h;cases aR;obtain⟨a,b⟩:=rc bw;rw[p4,aJ];refine⟨by rw[sJ,a];simp[nn,bJ],?_⟩;unfold iH at b⊢;rw[List.filter_cons,af (by simp[bD]),p4,b]
def TY(tw tr:List au)(n:Nat):Prop:=∀{v:ad},c6 v->∀{t rt:Int} {path:List Int} {u:ad},j' tw n t v->dy tw true t v->0<=rt->rt<tr.length->hO tw tr n t v rt path= .inl u->∀m,gx tw t v<=m->fh tr m rt (cb tw t v)=some u
theorem ar6(HW:ef tw)(HR:ef tr){n:Nat}(ih:TY tw tr n):TY tw tr (n+1):=by
 intro v aF t rt path u hw aJ jb cc h m hm;have SW:=HW.V.nr HW.T;have da:=HR.V.nr HR.T;have kY:(cb tw t v).length<=90000:=jJ hw.len (by decide);obtain⟨_,axo,axp,NI⟩:=hw;have VV:=A7 (ts:=tw) t v;obtain⟨m,rfl⟩:∃k,m=k+1:=⟨m-1,by omega⟩
 have hle:=DT (ts:=tw) t v;have ct:∀q,q∈v.aZ->(if v.aZ=[]then 0 else 1)=1:=λq aE=>ah λe=>by rw[e]at aE;cases aE
 generalize (if v.aZ=[]then 0 else 1)=kk at hle ct;obtain⟨⟨g1,g2,g3,g4⟩,ay⟩:=(gY _ _ _).1 aJ;have fG:=g4 rfl;have aM:t.toNat<tw.length:=by omega
 have VM:rt.toNat<tr.length:=by omega
 have dx:=bZ aM a8;have iW:=bZ VM a8;have EJ:=λh=>H' (ts:=tw) (t:=t) (v:=v) h
 have EK:=λh=>Ia (ts:=tw) (t:=t) (v:=v) h
 have EL:=λh=>Ib (ts:=tw) (t:=t) (v:=v) h
 have T':=λh=>Ic (ts:=tw) (t:=t) (v:=v) h
 have rY:=λh h1 aa=>YN (ts:=tw) (t:=t) (v:=v) h h1 aa
 have sX:=λh=>BV (ts:=tw) (t:=t) (v:=v) h
 have oM:=λh=>BW (ts:=tw) (t:=t) (v:=v) h
 have Ua:=λh=>BX (ts:=tw) (t:=t) (v:=v) h
 have Ub:=λh=>BY (ts:=tw) (t:=t) (v:=v) h
 rw[Dl]at h;rw[Ld];generalize I:tw.getD t.toNat a8=x at*;generalize ao:tr.getD rt.toNat a8=y at*;cases aF with
 |mk _ hs h1 aa aA hk ak mB dJ dn ej cJ=>
 have T6:x.Kind=5->∀c,c<=mK tw x.al v.aB->c<=m:=λh c ay=>by rw[af h]at hle;exact Hi hle hm ay
 have T7:x.Kind=6->∀kr,dA x.al v.aq=some kr->∀c,c<=hN tw kr.aQ v.aB->c<=m:=λh kr bF c ay=>by
  rw[ah (by rw[h];decide),af h,bF]at hle;exact Hi hle hm ay
 have Cd:7<=x.Kind->∀c,c<=hN tw x.a6 v.aB->c<=m:=λh c ay=>by
  rw[ah (λe=>by rw[e]at h;exact absurd h (by decide)),ah (λe=>by rw[e]at h;exact absurd h (by decide))]at hle;exact Hi hle hm ay
 have T8:∀q,q∈v.aZ->1<=m:=λq aE=>by
  rw[ct q aE]at hle;exact ad' hle hm rfl
 clear hle hm VV ct;have cq:x.Kind=y.Kind:=by
  by_cases e:x.Kind=y.Kind
  . exact e
  . rw[afL e]at h;cases h
 have leaf:x.Kind<=4->u=v/\tR x y v:=λaU=>by
  by_cases aj:tR x y v
  . rw[yF cq aU aj]at h;cases h;exact⟨rfl,aj⟩
  . rw[Ta cq aU aj]at h;cases h
 have seq:∀{t rt:Int} {i:Nat} {l us:List ad},(∀q,q∈l->c6 q/\j' tw n t q/\dy tw true t q/\gx tw t q<=m)->0<=rt->rt<tr.length->jC (hO tw tr n) path t rt i l= .inl us->dQ (fh tr m rt) (cg tw t l)=some us/\us.length=l.length:=λ{t rt i l us} aj a0 a1 ar=>by
  obtain⟨b1,b2⟩:=K6 ar;refine⟨aaF [] aY (by rw[mO,b1]) λj aM=>?_,b1⟩;rw[mO]at aM;rw[Zb aM];obtain⟨c3,dE,hl,w7⟩:=aj _ (bZ aM aY);exact ih c3 dE hl a0 a1 (b2 j aM) m w7
 unfold H9;rcases ay with bg|bg|bg|bg|bg|bg|bg|bg|bg
 . obtain⟨rfl,_⟩:=leaf (by omega);rw[af (by omega),EJ (by omega)];obtain⟨a1,a2,a3,a4,a5,bx,cp⟩:=bg;unfold H4;cases ag:u.cX with
   |true=>
    rw[af (show true=true from rfl),ah (show ¬([1]:List UInt8)=[] by simp),af (show([1]:List UInt8)=[1]from rfl)];cases u;simp_all
   |false=>
    rw[ah (show ¬false=true by simp),af (show([]:List UInt8)=[]from rfl)];cases u;simp_all
 . obtain⟨rfl,aj⟩:=leaf (by omega);obtain⟨a1,a2,a3,a4,a5,bx,cp,cz,a9⟩:=bg;rw[ah (by omega),af (by omega),EK (by omega)];have bq:=ad9 (n:=u.b5) dn;unfold H5;rw[Sq (Mx dn)];simp only;rw[bq,af (aj.1 (by omega))];cases u;simp_all
 . obtain⟨rfl,aj⟩:=leaf (by omega);obtain⟨a1,a2,a3,a4,a5,bx,cp,cz⟩:=bg;rw[ah (by omega),ah (by omega),af (by omega),EL (by omega)];unfold H6;rw[af (aj.2.1 (by omega))];cases u;simp_all
 . obtain⟨rfl,aj⟩:=leaf (by omega);obtain⟨a1,a2,a3,a4,a5,bx,cp,cz⟩:=bg;have dP:dz u.aq:=by
    rcases cz with⟨y,jQ,sU⟩|⟨_,h,_⟩
    . rw[<-sU];exact SW.S _ dx (by omega) y jQ
    . cases h
   unfold dz at dP;obtain⟨k,hk⟩:∃k:Nat,u.aq=(k:Int):=⟨u.aq.toNat,by omega⟩
   rw[ah (by omega),ah (by omega),ah (by omega),af (by omega),T' (by omega),hk,b6];unfold H7;rw[Sq (by omega)];simp only;have hs:((y.bW.any λy=>decide (y.aq=(k:Int)))||y.Open)=true:=by
    rcases aj.2.2 (by omega)with q|q
    . rw[hk]at q;rw[aag.1 q];rfl
    . rw[q];simp
   rw[af ⟨by omega,by omega,hs⟩];cases u;simp_all
 . obtain⟨a1,a2,a3,a4,a5,bx,cp,cz⟩:=bg;rw[Xo cq (by omega)]at h;obtain⟨m1,m2⟩:=SW.A _ dx (.inl (by omega));obtain⟨f1,f2⟩:=mQ.1 cz;obtain⟨is,aR,h⟩:=GB h;obtain⟨r,bw,rfl⟩:=qy h;obtain⟨b1,b2⟩:=ZC aR;obtain⟨bD,bJ⟩:=abY m1.2 bw;have JX:=rY (by omega) fG m1
   rw[ah (by omega),ah (by omega),ah (by omega),ah (by omega),ah (by omega),ah (by omega),ah (by omega),ah (by omega),JX];unfold Eu
   rw[adK (ab9 m1) (λf aJ=>by
    have:=alT (ts:=tw) (ms:=x.al) (l:=v.aB) (r:=[]) m1 ⟨.nil,λx I=>by cases I⟩ (x:=f) (by unfold jk;simpa using aJ)
    exact this) (by rw[<-JX];exact kY)]
   simp only;have Wd:dQ (jx (fh tr m) ((eN tw x.al v.aB).map pN)) y.al=some is:=aaF aX aY b1 λj o6=>by
    have o8:=bZ o6 aX;unfold jx;rw[ar5 m1.2 f1 m1.1];rcases ade (b2 j o6)with⟨bD,bJ,c1⟩|⟨i,bD,bJ,c1⟩
    . rw[bD];simp only;rw[af bJ,c1]
    . rw[bD];obtain⟨d1,_,_⟩:=lx bD;simp only;by_cases aO:ey (x.al.getD i aX) (v.aB.getD i aY)=true
      . rw[af aO];obtain⟨iE,iF⟩:=axg.1 (c1 aO);simp only;rw[af iE,iF]
      . rw[ah aO];simp only;have AI:=bZ (by omega:i<v.aB.length) aY;obtain⟨ja,c3⟩:=HR.lC.mem iW o8;have u2:=SZ (ts:=tw) (ms:=x.al) (l:=v.aB) d1 (by rw[f1];exact d1) (by simpa using aO);exact ih (ak _ AI) (axo (by omega) i d1) (f2 i d1) ja c3 bJ m (T6 (by omega) _ u2)
   rw[Wd];simp only;rw[af bD,bJ]
 . obtain⟨a1,a2,a3,a4,a5,bx⟩:=bg;rw[Xp cq (by omega)]at h;unfold BO at h;obtain⟨m1,m2⟩:=SW.A _ dx (.inr (by omega));cases bF:dA x.al v.aq with
   |none=>rw[bF]at bx;cases bx.2.1
   |some kr=>
    rw[bF]at bx;obtain⟨b1,b2,cf⟩:=bx;have o9:=yG x.al v.aq;rw[bF]at o9;cases dP:e9 x.al v.aq with
    |none=>rw[dP]at o9;cases o9
    |some i=>
    obtain⟨d1,d2,_⟩:=lx dP;obtain⟨d3,d4⟩:=re bF;have em:x.al.getD i aX=kr:=yC m1 (bZ d1 aX) d3 (by rw[d2,d4]);have hid:dz v.aq:=by rw[<-d4];exact m1.2 kr d3
    unfold dz at hid;obtain⟨k,pX⟩:∃k:Nat,v.aq=(k:Int):=⟨v.aq.toNat,by omega⟩
    have AI:=bZ (by omega:0<v.aB.length) aY;have aE:cg tw kr.aQ v.aB=[cb tw kr.aQ (v.aB.getD 0 aY)]:=by
     match aF:v.aB,b2 with
     |[a],_=>rw[cg,cg];rfl
    have ar:cb tw t v=fC k++cb tw kr.aQ (v.aB.getD 0 aY):=by
     rw[sX (by omega),bF];show _++(cg tw kr.aQ v.aB).headD []=_;rw[aE,pX,b6];rfl
    rw[ah (by omega),ah (by omega),ah (by omega),ah (by omega),ah (by omega),af (by omega),ar];unfold M9;rw[aa0 (by omega)];simp only;rw[<-pX];simp only[dP,em]at h;cases o4:e9 y.al v.aq with
    |some j=>
     simp only[o4]at h;obtain⟨w,aR,rfl⟩:=qy h;obtain⟨fl,ho,_⟩:=lx o4;have o8:=bZ fl aX;obtain⟨ja,c3⟩:=HR.lC.mem iW o8;have Fy:dA y.al v.aq=some (y.al.getD j aX):=by rw[<-ho];exact Sr (da.A _ iW (.inr (by omega))).1 o8
     rw[Fy];simp only;have u2:=uK (ts:=tw) (t:=kr.aQ) AI;rw[ih (ak _ AI) (axp (by omega) kr bF _ AI) (dS.1 cf _ AI) ja c3 aR m (T7 (by omega) kr bF _ u2)];rfl
    |none=>
     simp only[o4]at h;have Fy:dA y.al v.aq=none:=by
      have:=yG y.al v.aq;rw[o4]at this;cases aE:dA y.al v.aq with
      |none=>rfl
      |some _=>rw[aE]at this;cases this
     rw[Fy];simp only;split at h
     . cases h;rename_i aO;rw[af aO]
     . cases h
 . obtain⟨a1,a2,a3,a4,a5,bx,cp,cz,a9⟩:=bg;rw[Xq cq (by omega)]at h;unfold Ej at h;split at h
   . rename_i fN;obtain⟨is,aR,rfl⟩:=qy h;obtain⟨ja,c3⟩:=HR.lC.elem iW (by omega);have ar:=oM (by omega);obtain⟨s1,s2⟩:=seq (λq aE=>⟨ak q aE,(NI (by omega)).1 q aE,dS.1 a9 q aE,Cd (by omega) _ (uK aE)⟩) ja c3 aR;rw[ah (by omega),ah (by omega),ah (by omega),ah (by omega),ah (by omega),ah (by omega),af (by omega),ar];unfold Ev
     rw[Sd (by rw[<-ar];exact kY)];simp only;rw[af (by rw[mO];omega),s1];rfl
   . cases h
 . obtain⟨a1,a2,a3,a4,a5,bx,cp,cz,a9,h9,mo⟩:=bg;rw[Xr cq (by omega)]at h;unfold Ek at h;split at h
   . rename_i fN;obtain⟨ks,e0,h⟩:=GB h;obtain⟨is,aR,rfl⟩:=qy h;obtain⟨ja,c3⟩:=HR.lC.elem iW (by omega);obtain⟨dE,hl⟩:=HR.lC.key iW (by omega);have ar:=Ua (by omega);obtain⟨s1,s2⟩:=seq (λq aE=>⟨ak q aE,(NI (by omega)).1 q aE,dS.1 h9 q aE,Cd (by omega) _ (uK aE)⟩) ja c3 aR;have FA:=(SW.ud _ dx (by omega))
     have tz:∀q,q∈v.aZ->gx tw x.Key q<=m:=λq aE=>by
      have nO:=T8 q aE;have e:gx tw x.Key q=1:=by
       obtain⟨⟨_,_,k3,_⟩,y5⟩:=(gY _ _ _).1 (dS.1 a9 q aE);refine GA ?_ ?_
       . rcases y5 with k|k|k|k|k|k|k|k|k
         . exact k.2.2.2.2.1
         . exact k.2.2.2.2.1
         . exact k.2.2.2.2.1
         . exact k.2.2.2.2.1
         all_goals (exfalso;omega)
       . rcases y5 with k|k|k|k|k|k|k|k|k
         . exact k.2.2.2.2.2.1
         . exact k.2.2.2.2.2.1
         . exact k.2.2.2.2.2.1
         . exact k.2.2.2.2.2.1
         all_goals (exfalso;omega)
      rw[e];exact nO
     obtain⟨p8,S7⟩:=seq (λq aE=>⟨hk q aE,(NI (by omega)).2 q aE,dS.1 a9 q aE,tz q aE⟩) dE hl e0;have U1:=ab8 (λv rt path u h=>acW FA.2 h) e0;subst U1;have hlen:(cg tw x.Key v.aZ).length=(cg tw x.a6 v.aB).length:=by rw[mO,mO];omega
     obtain⟨gb,hr⟩:=am9 hlen;have wl:=aab _ _ hlen;rw[mO,mO]at wl;rw[ah (by omega),ah (by omega),ah (by omega),ah (by omega),ah (by omega),ah (by omega),ah (by omega),af (by omega),ar,Lb];unfold M';rw[Sd (by rw[<-Lb,<-ar];exact kY)];simp only;rw[af ⟨by rw[wl];omega,by rw[wl];omega⟩,gb,hr,p8];simp only
     rw[af (Mf.2 mo),s1];rfl
   . cases h
 . obtain⟨a1,a2,a3,a4,a5,bx,cp,cz,a9⟩:=bg;rw[Xs cq (by omega)]at h;obtain⟨is,aR,rfl⟩:=qy h;obtain⟨ja,c3⟩:=HR.lC.elem iW (by omega);obtain⟨s1,s2⟩:=seq (λq aE=>⟨ak q aE,(NI (by omega)).1 q aE,dS.1 a9 q aE,Cd (by omega) _ (uK aE)⟩) ja c3 aR;rw[ah (by omega),ah (by omega),ah (by omega),ah (by omega),af (by omega),Ub (by omega)]
   match mx:v.aB,cz with
   |[],_=>
    rw[mx,cg]at s1;cases s1;rw[cg];rfl
   |[a],_=>
    rw[mx,cg,cg]at s1;rw[cg,cg];rw[S0]at s1;show((if(1:UInt8)=1 then(fh tr m y.a6 (cb tw x.a6 a)).map _ else none):Option ad)=_;rw[af rfl];cases av:fh tr m y.a6 (cb tw x.a6 a)with
    |none=>rw[av]at s1;cases s1
    |some w=>
     rw[av]at s1;cases s1;rfl
theorem acg(HW:ef tw)(HR:ef tr):∀n,TY tw tr n
 |0=>λ_ _ _ _ _ h=>by cases h
 |n+1=>ar6 HW HR (acg HW HR n)
end
theorem auM{ts:List au}(H:ef ts){t:Int}{v:ad}(aF:c6 v)(aJ:dy ts true t v):RB ((⟨ts⟩:bY),t,v)=some (v,0):=by
 have hw:=BU _ _ aJ;have S:=H.V.nr H.T;obtain⟨b,b1,b2⟩:=aul H.g aF t (avF H aF hw) hw;have hs:=arq aF t aJ;have ag:b=true:=b1.2 (by rw[hs];exact aJ);subst ag;rw[hs,af rfl]at b2;obtain⟨v1,_⟩:=Dn H.T H.V;obtain⟨⟨g1,g2,_⟩,_⟩:=(gY _ _ _).1 aJ;have aO:¬(bif decide (t<0)then true else decide ((ts.length:Int)<=t))=true:=by
  have h1:¬t<0:=by omega
  have aa:¬(ts.length:Int)<=t:=by omega
  simp[h1,aa]
 have I:RY ((⟨ts⟩:bY),t)=some 0:=by
  rw[RY];simp only[abK];rw[v1];simp only[bL,aK];rw[ah (by simp),ah aO]
 have bF:Dj ((⟨ts⟩:bY),t,v)=some true:=by
  rw[Dj];simp only[ad.cr];rw[Sp H.T S.K aF t false hw];rfl
 have ay:RZ ((⟨ts⟩:bY),t,v)=some 0:=by
  rw[RZ];simp only[ad.cr];rw[I];simp only[bL,aK];rw[ah (by simp),bF];rfl
 rw[RB];simp only[ad.cr];rw[ay];simp only[bL,aK];rw[ah (by simp),b2];simp[ad.cr]
theorem axh{tw tr:List au}{t rt:Int}(HW:ef tw)(HR:ef tr)(ht:kB tw t)(ai:kB tr rt):RX [(⟨⟨tw⟩,t⟩:cG),(⟨⟨tr⟩,rt⟩:cG)]=some 0:=by
 have agx:∀{ts:List au} {t:Int},ef ts->kB ts t->Gp (⟨⟨ts⟩,t⟩:cG)=some 0:=λ{ts t} H ht=>by
  unfold kB at ht;have bD:¬t<0:=by omega
  have bJ:¬(ts.length:Int)<=t:=by omega
  rw[Gp];simp only[];rw[(Dn H.T H.V).1];simp[bD,bJ]
 have aa:uD ([(⟨⟨tw⟩,t⟩:cG),(⟨⟨tr⟩,rt⟩:cG)],2,2)=some (.inr ()):=by rw[uD];rfl
 have h1:uD ([(⟨⟨tw⟩,t⟩:cG),(⟨⟨tr⟩,rt⟩:cG)],2,1)=some (.inr ()):=by
  rw[uD,af (by decide),af (by rfl)];show(Gp (⟨⟨tr⟩,rt⟩:cG)>>=_)=_;rw[agx HR ai];exact aa
 have h0:uD ([(⟨⟨tw⟩,t⟩:cG),(⟨⟨tr⟩,rt⟩:cG)],2,0)=some (.inr ()):=by
  rw[uD,af (by decide),af (by rfl)];show(Gp (⟨⟨tw⟩,t⟩:cG)>>=_)=_;rw[agx HW ht];exact h1
 rw[RX];show(uD ([(⟨⟨tw⟩,t⟩:cG),(⟨⟨tr⟩,rt⟩:cG)],2,0)>>=_)=_;rw[h0];rfl
theorem auF{c:uE}(ay:TX c){C:List Int}(dj:lR C)(aj:C.length<=reachBytes):Mu (c,C)=some true:=by
 rw[Mu];rcases aB9 ay with⟨w,r,e⟩|⟨tw,tr,r,e,HW,HR,ai⟩
 . rw[e];simp[alo]
 rw[e];simp only[bL,aK,alo,gN,pe];by_cases ahm:60<(C.length:Int)
 . rw[af (lL ahm)]
 rw[ah (by simpa using ahm)];obtain⟨b,b1,b2⟩:=ar4 HW HR ai;obtain⟨⟨t0,t1⟩,⟨vr,mh⟩⟩:=ai;obtain⟨v,m1,aJ,aF,hw⟩:=awk HW ⟨t0,t1⟩ dj aj;have bF:T0 tw r.cw v:=⟨BU _ _ aJ,aF,hw⟩
 have aR:sd ((⟨tw⟩:bY),r.cw,v)=_:=adg HW bF;rw[b1];simp only[aK];rw[m1];simp only[aK,ad.cr];rw[aR];simp only[aK];rcases avP tw r.cw v with h|⟨h,hC,l2⟩
 . rw[h];cases b<;>rfl
 rw[h];cases b with
 |false=>rfl
 |true=>
 rw[ah (by simp)];have bq:j' tw 3000 r.cw v:=w5 HW 3000 aF aJ (.inl hC) (.inl (by omega));have F:afH tw tr (xy tw tr r):=⟨λq aE=>Mz HW HR ⟨⟨t0,t1⟩,⟨vr,mh⟩⟩ aE,b2 rfl,λq s aE hs=>.step aE hs⟩
 obtain⟨u,hu⟩:=reads HW HR F aF (path:=[]) (t:=r.cw) (u:=r.cd) (n:=3000) .root aJ bq;have I:BZ tw tr r.cw v r.cd= .inl u:=hu;have av:=acg HW HR 3000 aF bq aJ vr mh hu 200 l2;have fr:E9 tr r.cd (cb tw r.cw v)=(u,0):=by
  unfold E9;rw[ah (by omega),ah (Nat.not_lt.2 hC),av]
 obtain⟨s1,s2⟩:=adP HR 200 r.cd _ u (by omega) vr mh av;have G:=avh HR ⟨vr,mh⟩ hC av;have fe:zZ tr r.cd u=(cb tr r.cd u,0):=by
  unfold zZ;rw[ah]
  rintro (h|h)
  . exact absurd (jJ s1 hC) (Nat.not_le.2 h)
  . exact absurd s2 (Nat.not_le.2 h)
 have d1:wi ((⟨tw⟩:bY),r.cw,cb tw r.cw v)=some (v,0):=by
  rw[Zc HW.lC,adn HW ⟨t0,t1⟩ aF bF.1 hC l2]
 have d2:wi ((⟨tr⟩:bY),r.cd,cb tw r.cw v)=some (u,0):=by rw[Zc HR.lC,fr]
 have d3:wi ((⟨tr⟩:bY),r.cd,cb tr r.cd u)=some (u,0):=by
  rw[Zc HR.lC,adn HR ⟨vr,mh⟩ G.2.1 G.1 (jJ s1 hC) s2]
 have cc:Bl ((⟨tw⟩:bY),r.cw,v,(⟨tr⟩:bY),r.cd)=some (u,0):=by
  rw[am7 HW HR aF aJ bq vr mh,I];rfl
 have bw:sd ((⟨tr⟩:bY),r.cd,u)=some (cb tr r.cd u,0):=by rw[<-fe];exact adg HR G
 rw[h]at aR;have k1:Q' ((⟨⟨tw⟩,r.cw⟩:cG),(⟨⟨tr⟩,r.cd⟩:cG),cb tw r.cw v)=some (cb tr r.cd u,0):=by
  rw[Q',Zw,axh HW HR ⟨t0,t1⟩ ⟨vr,mh⟩];simp only[bL,aK,fg,gN,dK,dB];rw[Yx,d1];simp[ad.cr,auM HW aF aJ,cc,aR,d2,bw]
 have k2:R0 ((⟨tw⟩:bY),r.cw,v,(⟨tr⟩:bY),r.cd,u)=some true:=by
  obtain⟨q,c3,dE⟩:=ZU G.2.1 u;have aE:=dE.2 rfl;subst aE;rw[R0];simp[ad.cr,cc,c3]
 obtain⟨q,c3,dE⟩:=au' G.2.1 u;have aE:=dE.2 rfl;subst aE;simp only[d2,k1,d3,k2,c3,aK,ad.cr,fg,nk,dc]
theorem aBk(h:bb cm.D [.nm XO,.slice (.int .u8)])(hk:Ok cm [.nm XO,.slice (.int .u8)] h):Mu h=some true:=match h,hk with
 |(c,C),hk=>by
  obtain⟨a,_,e⟩:=GK (t:= .int .u8) (awG hk ⟨.slice (.int .u8),C⟩ (.head _) ⟨.slice (.int .u8),C⟩ (.head _));exact auF (auJ (awF hk)) (λx I=>akK (e x I ⟨.int .u8,x⟩ (.head _))) a
end
end Go.Proofs.YtklfhpkljddjbaaGreatDoor
