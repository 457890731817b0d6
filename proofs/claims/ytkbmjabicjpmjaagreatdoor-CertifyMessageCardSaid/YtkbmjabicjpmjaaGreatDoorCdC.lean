/- The functions of the program as functions of Lean, that its code does what they say, and what they answer; part C. -/
import Derived.Test.YtkbmjabicjpmjaaGreatDoorCdB

namespace Go.Proofs.YtkbmjabicjpmjaaGreatDoor
set_option linter.all false
section
open Go Go.Proofs.YtkbmjabicjpmjaaGreatDoor.Shv Go.Sort
set_option maxRecDepth 100000
variable{γ α c:Type}{p:au}{v:ab}{ms:I aT}{id t code b2:Int}{Q P:Prop}{o:ai J}{L:Nat->ai (J ⊕ Unit)}{x:aj}{ts:I aj}{a j:Nat}{ks:I ab}{so b1:az}{f:au->ai ab}
section
variable {α:Type}
theorem Qd{a:Type}{f g:a->I γ}:∀{l:I a},(∀x,x∈l->f x=g x)->l.flatMap f=l.flatMap g
 |[],_=>rfl
 |x::l,h=>by
  simp;rw[h x (.head _),Qd λy al=>h y (.tail _ al)]
theorem O1(x:α)(n:Nat)(f:Nat->I α):∀(ks:bb),ks.Nodup->n∈ks->(ks.flatMap λi=>if n=i then x::f i else f i).Perm (x::ks.flatMap f)
 |[],_,h=>by grind
 |k::ks,aL,h=>by
  rw[List.nodup_cons]at aL;simp;by_cases e:n=k
  . have:(ks.flatMap λi=>if n=i then x::f i else f i)=ks.flatMap f:=Qd λy al=>by grind
    simp_all
  . rw[aq e];have a:=(fk.1 h).resolve_left e;refine((O1 x n f ks aL.2 a).append_left _).trans ?_;simp
theorem O2(key:α->Nat)(ks:bb)(aL:ks.Nodup):∀l:I α,(∀x,x∈l->key x∈ks)->(ks.flatMap λi=>l.filter λx=>(key x=i:J)).Perm l
 |[],_=>by simp
 |x::l,h=>by
  have e:(λi=>(x::l).filter λy=>(key y=i:J))=λi=>if key x=i then x::(l.filter λy=>(key y=i:J))else l.filter λy=>(key y=i:J):=by grind
  rw[e];exact(O1 x _ _ ks aL (h x (.head _))).trans ((O2 _ ks aL l λy al=>h y (.tail _ al)).cons x)
theorem acw(key:α->Nat)(a n:Nat)(l:I α):((List.range' a n).flatMap λi=>l.filter λx=>(key x=i:J)).Pairwise (λx y=>(key y<key x:J)=false):=by
 rw[List.pairwise_flatMap];grind[List.pairwise_iff_forall_sublist,List.pairwise_lt_range']
theorem Qe[Inhabited α][Inhabited c]{lt:α->α->J}{d:c->c->J}(g:α->c)(h:∀a b,d (g a) (g b)=lt a b):∀l,hO d (l.map g)=(hO lt l).map g
 |[]=>rfl
 |x::l=>by
  have key:∀r,o4 d (g x) (r.map g)=(o4 lt x r).map g:=by
   intro r;induction r with
   |nil=>rfl
   |cons y r ih=>
    grind[o4]
  simp[hO];rw[Qe g h l,key]
theorem PR[Inhabited α]{lt:α->α->J}:∀{l:I α},l.Pairwise (λx y=>lt x y=true\/lt y x)->kI lt l=true
 |[],_=>rfl
 |x::l,h=>by
  rw[kQ]at h;simp[kI];exact⟨h.1,PR h.2⟩
end
mutual
def wt:ab->Nat
 |⟨_,_,_,s,_,ks,a,r⟩=>10+s.length+(r.map λx=>x.b5.length+1).sum+fJ ks+fJ a
def fJ:I ab->Nat
 |[]=>0
 |v::l=>wt v+fJ l
end
structure Fd where
 id:Nat
 c:Bool
 p:au
instance:Inhabited Fd:=⟨⟨0,false,[]⟩⟩
def fE(a b:Fd):J:=(a.id<b.id:J)
def Fd.text(f:Fd):au:=fV f.id f.c f.p
def gg:I au->I au->au
 |k::ks,v::vs=>dC k++(dC v++gg ks vs)
 |_,_=>[]
def cx(l:I aT)(id:Int):ai aT:=l.find? λm=>(m.ah=id:J)
open Classical in
noncomputable def dm (m:aT)(v:ab):J:=m.bO&&(m.bC=v:J)
def jb(r:ct):Fd:=⟨r.ah.toNat,false,r.b5⟩
mutual
noncomputable def bM (ts:I aj)(t:Int):ab->au
 |⟨_,b,i,s,id,ks,a,r⟩=>
  let x:=ts.getD t.toNat aM
  if x.ae=1 then(if b then[1]else[])
  else if x.ae=2 then eD (fZ i).toNat
  else if x.ae=3 then s
  else if x.ae=4 then eD id.toNat
  else if x.ae=5 then(hO fE (dK ts x.af a++r.map jb)).flatMap Fd.text
  else if x.ae=6 then e5 id.toNat++(match cx x.af id with
   |some m=>(bY ts m.aC a).headD []
   |none=>(r.map ct.b5).headD [])
  else if x.ae=7 then(bY ts x.aE a).flatMap dC
  else if x.ae=8 then gg (bY ts x.aS ks) (bY ts x.aE a)
  else match bY ts x.aE a with
   |[]=>[]
   |p::_=>1::p
noncomputable def bY (ts:I aj)(t:Int):I ab->I au
 |[]=>[]
 |v::l=>bM ts t v::bY ts t l
noncomputable def dK (ts:I aj):I aT->I ab->I Fd
 |m::ms,v::l=>if dm m v then dK ts ms l else⟨m.ah.toNat,m.bV,bM ts m.aC v⟩::dK ts ms l
 |_,_=>[]
end
mutual
noncomputable def eW (ts:I aj)(t:Int):ab->Nat
 |⟨_,_,_,_,id,ks,a,_⟩=>
  let x:=ts.getD t.toNat aM
  1+max (if ks=[]then 0 else 1) (if x.ae=5 then jn ts x.af a
   else if x.ae=6 then(match cx x.af id with
    |some m=>gR ts m.aC a
    |none=>0)
   else gR ts x.aE a)
noncomputable def gR (ts:I aj)(t:Int):I ab->Nat
 |[]=>0
 |v::l=>max (eW ts t v) (gR ts t l)
noncomputable def jn (ts:I aj):I aT->I ab->Nat
 |m::ms,v::l=>if dm m v then jn ts ms l else max (eW ts m.aC v) (jn ts ms l)
 |_,_=>0
end
def cB(n:Int):Prop:=1<=n/\n<=1000
def iU(ms:I aT)(r:I ct):Prop:=r.Pairwise (λa b=>a.ah<b.ah)/\∀x,x∈r->cB x.ah/\cx ms x.ah=none
def iz(a b:ab):Int:=(ny (a,b)).getD 0
def nI(ks:I ab):Prop:=∀i,i+1<ks.length->iz (ks.getD i aI) (ks.getD (i+1) aI)<0
mutual
def dL(ts:I aj)(pl:J)(t:Int):ab->Prop
 |⟨k,b,i,s,id,ks,a,r⟩=>
  let x:=ts.getD t.toNat aM
  (0<=t/\t<ts.length/\k=x.ae/\(pl=true->r=[]))/\
  (k=1/\i=0/\s=[]/\id=0/\ks=[]/\a=[]/\r=[]\/
  k=2/\b=false/\s=[]/\id=0/\ks=[]/\a=[]/\r=[]/\x.bA<=i/\i<=x.bI\/
  k=3/\b=false/\i=0/\id=0/\ks=[]/\a=[]/\r=[]/\(s.length:Int)<=x.Max\/
  k=4/\b=false/\i=0/\s=[]/\ks=[]/\a=[]/\r=[]/\((∃y,y∈x.bf/\y.ah=id)\/x.bt/\pl=false/\cB id)\/
  k=5/\b=false/\i=0/\s=[]/\id=0/\ks=[]/\iU x.af r/\jm ts pl x.af a\/
  k=6/\b=false/\i=0/\s=[]/\ks=[]/\(match cx x.af id with
   |some m=>r=[]/\a.length=1/\fp ts pl m.aC a
   |none=>x.bt=true/\pl=false/\cB id/\a=[]/\∃d,r=[⟨id,d⟩])\/
  k=7/\b=false/\i=0/\s=[]/\id=0/\ks=[]/\r=[]/\(a.length:Int)<=x.Max/\fp ts pl x.aE a\/
  k=8/\b=false/\i=0/\s=[]/\id=0/\r=[]/\(ks.length:Int)<=x.Max/\a.length=ks.length/\fp ts pl x.aS ks/\fp ts pl x.aE a/\nI ks\/
  k=9/\b=false/\i=0/\s=[]/\id=0/\ks=[]/\r=[]/\a.length<=1/\fp ts pl x.aE a)
def fp(ts:I aj)(pl:J)(t:Int):I ab->Prop
 |[]=>True
 |v::l=>dL ts pl t v/\fp ts pl t l
def jm(ts:I aj)(pl:J):I aT->I ab->Prop
 |m::ms,v::l=>dL ts pl m.aC v/\jm ts pl ms l
 |[],[]=>True
 |_,_=>False
end
theorem iA(v:ab):wt v=10+v.bW.length+(v.a6.map λx=>x.b5.length+1).sum+fJ v.a'+fJ v.aw:=by cases v;rfl
theorem nH(v:ab)(l:I ab):fJ (v::l)=wt v+fJ l:=by rfl
theorem sq:fJ []=0:=by rfl
theorem e9:∀{l:I ab} {x:ab},x∈l->wt x<=fJ l
 |y::l,x,h=>by
  rw[nH];rcases fk.1 h with rfl|h;simp;have:=e9 h;omega
theorem O3(h:p.length<1152921504606846976):(dC p).length<=p.length+10:=by
 grind[kG,dC]
theorem Qf{f:Fd}(h:f.p.length<1152921504606846976)(a:f.id<=9223372036854775807):f.text.length<=f.p.length+20:=by
 grind[O3,kG,Fd.text,fV]
theorem JO{f:α->I c}{a b:I α}(h:a.Perm b):(a.flatMap f).length=(b.flatMap f).length:=(h.flatMap_right f).length_eq
theorem BS{n:Int}(h:eE n):(fZ n).toNat<18446744073709551616:=by
 grind[fZ,eE]
section
variable {ts:I aj}
def Cy(ts:I aj)(v:ab):Prop:=∀t,(bM ts t v).length+20<=21*wt v
theorem J6:∀{l:I ab} {t:Int},fJ l<=1099511627776->(∀x,x∈l->Cy ts x)->((bY ts t l).flatMap dC).length<=21*fJ l
 |[],t,_,_=>by grind[bY]
 |v::l,t,a,h=>by
  rw[bY];rw[nH]at a⊢;have h1:=h v (.head _) t;have b:=J6 (t:=t) (by omega) λx aa=>h x (.tail _ aa);grind[O3]
theorem lf:∀{l:I ab} {t:Int},(bY ts t l).length=l.length
 |[],t=>by rfl
 |v::l,t=>by rw[bY,kR,kR,lf]
theorem u0:∀{l:I ab} {t:Int},bY ts t l=l.map (bM ts t)
 |[],t=>by rfl
 |v::l,t=>by rw[bY,List.map,u0]
theorem Fu:∀(a b:I au),(gg a b).length<=(a.flatMap dC).length+(b.flatMap dC).length
 |[],b=>by simp[gg]
 |k::ks,[]=>by simp[gg]
 |k::ks,v::vs=>by
  have:=Fu ks vs;simp only[gg,hf,ea];omega
theorem PS:∀{ms:I aT} {l:I ab},fJ l<=1099511627776->(∀m,m∈ms->m.ah<=1000)->(∀x,x∈l->Cy ts x)->((dK ts ms l).flatMap Fd.text).length<=21*fJ l
 |[],l,_,_,_=>by grind[dK]
 |m::ms,[],_,_,_=>by grind[dK]
 |m::ms,v::l,b,a,h=>by
  rw[nH]at b⊢;rw[dK];have h1:=h v (.head _) m.aC;have c:=PS (by omega) (λx aa=>a x (.tail _ aa)) λx aa=>h x (.tail _ aa);grind[Qf]
theorem Qg:∀{l:I ct},(∀x,x∈l->x.b5.length<=reachBytes/\x.ah<=9223372036854775807)->True->((l.map jb).flatMap Fd.text).length<=21*(l.map λx=>x.b5.length+1).sum
 |[],_,_=>by simp
 |r::l,h,_=>by
  have h1:=h r (.head _);have b:=Qg (λx aa=>h x (.tail _ aa)) trivial;unfold reachBytes at h1;have a:=Qf (f:=jb r) (by show r.b5.length<_;omega) (by show r.ah.toNat<=_;omega);have c:(jb r).text.length<=r.b5.length+20:=a;grind
def T9(ts:I aj):Prop:=∀x,x∈ts->∀m,m∈x.af->m.ah<=1000
theorem aca(l:I α)(i:Nat)(d:α):l.getD i d∈l\/l.getD i d=d:=by grind
theorem PT{l:I au}{n:Nat}(h:∀x,x∈l->x.length<=n):(l.headD []).length<=n:=by
 cases l<;>grind
theorem Sb:∀{l:bb} {n:Nat},n∈l->n<=l.sum
 |a::l,n,h=>by
  rw[List.sum_cons];rcases fk.1 h with rfl|h;simp;have:=Sb h;omega
theorem ae1(d:T9 ts)(h:cz v):wt v<=1099511627776->Cy ts v:=by
 induction h with
 |mk v hs h1 y z C B f dF l G n j g=>
  intro D t;have E:=iA v;have c:∀x,x∈v.a'->Cy ts x:=λx aa=>j x aa (by have:=e9 aa;omega);have a:=λx aa=>g x aa (by have:=e9 aa;omega);have u:=λt=>J6 (t:=t) (by omega) c;have px:=λt=>J6 (t:=t) (by omega) a;have aa:∀m,m∈(ts.getD t.toNat aM).af->m.ah<=1000:=by
   rcases aca ts t.toNat aM with h|h;exact d _ h;rw[h];intro m e;cases e
  have w:=λt=>by
   have:((bY ts t v.aw).headD []).length<=21*fJ v.aw:=PT λp ar=>by
    rw[u0]at ar;obtain⟨x,aa,rfl⟩:=fl.1 ar;have:=a x aa t;have:=e9 aa;omega
   omega
  have gM:=Qg (λx aa=>⟨f x aa,(n x aa).2⟩) trivial;have q:=PS (by omega) aa a;have o:((v.a6.map ct.b5).headD []).length<=(v.a6.map λx=>x.b5.length+1).sum:=PT λp ar=>by
   obtain⟨x,aa,rfl⟩:=fl.1 ar;have:x.b5.length+1<=(v.a6.map λx=>x.b5.length+1).sum:=Sb (fl.2 ⟨x,aa,rfl⟩);omega
  obtain⟨K,b,i,s,id,ks,k,r⟩:=v;simp only at*;rw[bM];have F:=x8 8 _ (BS l);have hid:id.toNat<18446744073709551616:=by omega
  have A:=x8 8 _ hid;have ar:=kG hid;generalize ts.getD t.toNat aM=x at*;split;grind
  . split
    omega
    . split
      omega
      . split
        omega
        . split
          rw[JO (kd _ _),HE,ea];omega
          . split
            grind
            . split
              grind
              . split
                have:=Fu (bY ts x.aS ks) (bY ts x.aE k);grind;grind
end
theorem ahX(v:ab):10<=wt v:=by grind[iA]
section
variable {ts:I aj}
theorem u1:∀{ms:I aT} {l:I ab} {x:Fd},x∈dK ts ms l->∃m,m∈ms/\x.id=m.ah.toNat
 |[],l,x,h=>by
  grind[dK]
 |m::ms,[],x,h=>by
  grind[dK]
 |m::ms,v::l,x,h=>by
  rw[dK]at h;split at h;obtain⟨b,h1,a⟩:=u1 h;grind
  . rcases fk.1 h with rfl|h
    simp;obtain⟨b,h1,a⟩:=u1 h;grind
theorem O4{l:I ab}{n:Nat}(h:∀m,m∈ms->m.ah.toNat≠n):((dK ts ms l).filter λx=>(x.id=n:J))=[]:=by
 grind[List.filter_eq_nil_iff,u1]
theorem Ba:∀{ms:I aT} {l:I ab} {n j:Nat},ms.Pairwise (λa b=>a.ah.toNat≠b.ah.toNat)->l.length=ms.length->j<ms.length->(ms.getD j aF).ah.toNat=n->
 ((dK ts ms l).filter λx=>(x.id=n:J))=if dm (ms.getD j aF) (l.getD j aI) then[]else[⟨n,(ms.getD j aF).bV,bM ts (ms.getD j aF).aC (l.getD j aI)⟩]
 |[],l,n,j,_,_,d,_=>by grind
 |m::ms,[],n,j,_,ak,_,_=>by grind
 |m::ms,v::l,n,0,c,ak,d,he=>by
  rw[kQ]at c;have aL:=O4 (ts:=ts) (l:=l) (ms:=ms) (n:=n) λx aa=>by grind
  grind[dK]
 |m::ms,v::l,n,j+1,c,ak,d,he=>by
  rw[kQ]at c;have e:j<ms.length:=by grind
  have ih:=Ba c.2 (by simpa using ak) e he;grind[dK]
theorem acb(l:I ct)(n:Nat)(h:∀x,x∈l->0<=x.ah):((l.map jb).filter λx=>(x.id=n:J))=(l.filter λx=>(x.ah=(n:Int):J)).map jb:=by
 rw[List.filter_map];congr 1;apply List.filter_congr;intro x aa;show (x.ah.toNat=n:J)=_;grind
noncomputable def fD (ts:I aj)(ms:I aT)(l:I ab)(r:I ct):I Fd:=dK ts ms l++r.map jb
def hY(ms:I aT):Prop:=ms.Pairwise (λa b=>a.ah<b.ah)/\∀m,m∈ms->cB m.ah
theorem Bi(h:hY ms):ms.Pairwise (λa b=>a.ah.toNat≠b.ah.toNat):=by
 refine h.1.imp_of_mem λ{a b} d c aD=>?_;have:=h.2 b c;grind[cB]
theorem J7:∀{ms:I aT} {l:I ab},ms.Pairwise (λa b=>a.ah.toNat≠b.ah.toNat)->(dK ts ms l).Pairwise (λa b=>a.id≠b.id)
 |[],l,_=>by
  simp_all[dK]
 |m::ms,[],_=>by
  simp_all[dK]
 |m::ms,v::l,h=>by
  rw[kQ]at h;rw[dK];split;exact J7 h.2;rw[kQ];refine⟨λx aa=>?_,J7 h.2⟩;grind[u1]
theorem mv(h:cx ms id=none):∀m,m∈ms->m.ah≠id:=by
 grind[cx]
theorem wW{l:I ab}{r:I ct}(h:hY ms)(c:iU ms r):kI fE (fD ts ms l r):=by
 apply PR;have key:(fD ts ms l r).Pairwise (λa b=>a.id≠b.id):=by
  unfold fD;rw[HD];refine⟨J7 (Bi h),?_,?_⟩
  . rw[nS];refine c.1.imp_of_mem λ{a b} i e aD=>?_;have:=(c.2 b e).1;show a.ah.toNat≠b.ah.toNat;grind[cB]
  intro x aa y al;obtain⟨m,h1,f⟩:=u1 aa;obtain⟨q,d,rfl⟩:=fl.1 al;have g:=mv (c.2 q d).2 m h1;have:=(c.2 q d).1;show x.id≠q.ah.toNat;grind[cB]
 grind[fE]
theorem Ja{l:I ab}{r:I ct}(h:hY ms)(b:iU ms r){x:Fd}(aa:x∈fD ts ms l r):1<=x.id/\x.id<=1000:=by
 rcases gj.1 aa with aa|aa;obtain⟨m,h1,c⟩:=u1 aa;have:=h.2 m h1;grind[cB];obtain⟨q,a,rfl⟩:=fl.1 aa;have:=(b.2 q a).1;unfold cB at*;show 1<=q.ah.toNat/\q.ah.toNat<=1000;omega
theorem Sc:SWO fE:=by refine⟨λx=>?_,λx y z h1 a=>?_,λx y z h1 a=>?_⟩<;>simp[fE]at*<;>omega
theorem abL{l:I Fd}(ar:kI fE l)(a:∀x,x∈l->1<=x.id/\x.id<=1000):
 hO fE l=(List.range' 1 1000).flatMap λn=>l.filter λx=>(x.id=n:J):=by
 refine N1 ar (kd _ _) (O2 _ _ List.nodup_range' l λx aa=>?_) (E5 Sc l) (acw _ 1 _ l);grind
end
section
variable {ts:I aj}{pl:J}
theorem dv:∀{l:I ab} {t:Int},fp ts pl t l↔∀x,x∈l->dL ts pl t x
 |[],t=>by grind[fp]
 |v::l,t=>by
  rw[fp,dv];simp
theorem jR:∀{ms:I aT} {l:I ab},jm ts pl ms l↔l.length=ms.length/\∀i,i<ms.length->dL ts pl (ms.getD i aF).aC (l.getD i aI)
 |[],[]=>by
  grind[jm]
 |[],v::l=>by
  grind[jm]
 |m::ms,[]=>by
  grind[jm]
 |m::ms,v::l=>by
  rw[jm,jR];constructor;grind
  . rintro ⟨h1,a⟩
    exact⟨a 0 (by simp),by grind,λi b=>a (i+1) (by grind)⟩
end
def dq(o:ai J)(P:Prop):Prop:=∃r,o=some r/\(r=true↔P)
theorem dq.imp(h:dq o P)(e:P↔Q):dq o Q:=by grind
theorem dq.of{b:J}(e:b=true↔P):dq (some b) P:=⟨b,rfl,e⟩
theorem dq.loop{n:Nat}{p:Nat->J}{g:Unit}{o:ai (J ⊕ Unit)}(h0:o=L 0)(e:∀i,i<n->L i=if p i then L (i+1)else some (.inl false))(c:L n=some (.inr g)):
 dq (o>>=λo=>match o with|.inl x=>some x|.inr _=>some true) (∀i,i<n->p i):=by
 subst h0;rcases scan L n p _ _ e c with⟨h1,a⟩|⟨h1,j,a,f⟩;rw[h1];exact⟨true,rfl,by grind⟩;rw[h1];refine⟨false,rfl,?_⟩;grind
theorem Fv(f:α->Int)(d:α):∀l:I α,l.Pairwise (λa b=>f a<f b)↔∀i,i+1<l.length->f (l.getD i d)<f (l.getD (i+1) d)
 |[]=>by simp
 |[a]=>by simp
 |a::b::l=>by
  rw[kQ,Fv f d _];constructor
  . rintro ⟨h1,c⟩ i e
    cases i<;>simp_all
  intro h;have c:∀i,i+1<(b::l).length->f ((b::l).getD i d)<f ((b::l).getD _ d):=λi e=>h (i+1) (by simpa using e);have h0:=h 0 (by simp);have g:=(Fv f d _).2 c;rw[kQ]at g;grind
section
variable {ts:I aj}
def GA(ts:I aj)(x:ab):Prop:=∀t pl,dq (ju ((⟨ts⟩:aY),t,x,pl)) (dL ts pl t x)
theorem Qh{l:I ab}(ak:l.length<=reachBytes)(ih:∀x,x∈l->GA ts x)(t:Int)(pl:J):dq (oH ((⟨ts⟩:aY),t,l,pl)) (fp ts pl t l):=by
 have c:=eS ak;let p:Nat->J:=λi=>(ju (⟨ts⟩,t,l.getD i aI,pl)).getD false;have ar:∀i,i<l.length->ju (⟨ts⟩,t,l.getD i aI,pl)=some (p i)/\(p i↔dL ts pl t (l.getD i aI)):=by
  intro i a;obtain⟨r,h1,b⟩:=ih _ (bp a aI) t pl;grind
 rw[oH];refine(dq.loop (L:=λi=>np (t,l,pl,(i:Int),ts)) (n:=l.length) (p:=p) (g:=()) rfl (λi a=>?_) ?_).imp ?_
 rw[np,c',ag (aX a)];simp only[ab.bN,bo];rw[(ar i a).1,bP];grind;simp_all[np,aq];grind[dv,List.getElem_of_mem]
theorem uT{l:I aT}{r:Int×J}(h:uR l id r):(r.2/\∃j:Nat,j<l.length/\r.1=(j:Int)/\cx l id=some (l.getD j aF)/\(l.getD j aF).ah=id)\/(r.2=false/\cx l id=none):=by
 rcases h with⟨j,h1,a,b,rfl⟩|⟨h1,rfl⟩;refine .inl ⟨rfl,j,h1,rfl,?_,a⟩;unfold cx;rw[Ho];refine⟨by grind,j,h1,(gA h1 _).symm,λk c=>?_⟩;grind;grind[cx,List.getElem_of_mem]
theorem aee{t:aj}(ht:t.af.length<9223372036854775807){l:I ct}(ak:l.length<=reachBytes):dq (ui (t,l)) (iU t.af l):=by
 have k:=eS ak;let p:Nat->J:=λi=>!((hl (t,(l.getD i cq).ah)).getD (0,false)).2&&(bif (1<=(l.getD i cq).ah:J)then ((l.getD i cq).ah<=1000:J)else false)&&(!((0:Int)<(i:Int):J) || !((l.getD i cq).ah<=(l.getD (dG .i64 (i:Int) 1).toNat cq).ah:J));refine(dq.loop (L:=λi=>mh (l,(i:Int),t)) (n:=l.length) (p:=p) (g:=()) rfl (λi b=>?_) ?_).imp ?_
 . obtain⟨r,h1,c,_⟩:=nD (t:=t) (l.getD i cq).ah ht;have d:p i=(!r.2&&(bif (1<=(l.getD i cq).ah:J)then ((l.getD i cq).ah<=1000:J)else false)&&(!((0:Int)<(i:Int):J) || !((l.getD i cq).ah<=(l.getD (dG .i64 (i:Int) 1).toNat cq).ah:J))):=(by grind);rw[d,mh,ag (by grind),ag (aX b)];simp only[bo];rw[c,bP];have hid:jP ((l.getD i cq).ah,r.2)=some ((!r.2)&&(bif (1<=(l.getD i cq).ah:J)then ((l.getD i cq).ah<=1000:J)else false)):=by
    grind[jP]
   show(if aG (i:Int) l.length then jP _>>=_ else none)=_;rw[ag (aX b),hid]
   exact N5 _ _ _ _ _ _ _ _ (aX b) (λf=>by
    grind[sH,aX])
 simp_all[mh,aq]
 . unfold iU;rw[Fv (λa:ct=>a.ah) cq];have key:∀i,i<l.length->(p i↔(cB (l.getD i cq).ah/\cx t.af (l.getD i cq).ah=none)/\(i=0\/(l.getD (i-1) cq).ah<(l.getD i cq).ah)):=by
    intro i b;obtain⟨r,h1,c,j⟩:=nD (t:=t) (l.getD i cq).ah ht;have d:p i=(!r.2&&(bif (1<=(l.getD i cq).ah:J)then ((l.getD i cq).ah<=1000:J)else false)&&(!((0:Int)<(i:Int):J) || !((l.getD i cq).ah<=(l.getD (dG .i64 (i:Int) 1).toNat cq).ah:J))):=(by grind);rw[d];have aL:r.2=false↔cx t.af (l.getD i cq).ah=none:=by
     grind[uT]
    unfold cB;by_cases h0:i=0;grind;have f:((0:Int)<(i:Int):J):=(by grind);rw[f,sH (by omega) (by omega),bo];grind
   constructor
   . intro h;refine⟨λi b=>?_,λx aa=>?_⟩
     grind;obtain⟨i,b,rfl⟩:=hE aa;simp_all
   . rintro ⟨h1,c⟩ i b
     refine(key i b).2 ⟨c _ (bp b cq),?_⟩;by_cases h0:i=0;omega;have e:i-1+1=i:=(by omega);grind
theorem adQ{t:aj}(ak:v.aw.length=t.af.length)(d:t.af.length<9223372036854775807)(ih:∀x,x∈v.aw->GA ts x)(pl:J):
 dq (lI (pl,0,ts,v,t.ae,t.aR,t.bA,t.bI,t.Max,t.bf,t.af,t.aS,t.aE,t.bt)>>=λo=>match o with|.inl b=>some b|.inr _=>some true) (jm ts pl t.af v.aw):=by
 let p:=λi=>(ju (⟨ts⟩,(t.af.getD i aF).aC,v.aw.getD i aI,pl)).getD false;have ar:∀i,i<t.af.length->ju (⟨ts⟩,(t.af.getD i aF).aC,v.aw.getD i aI,pl)=some (p i)/\(p i↔dL ts pl (t.af.getD i aF).aC (v.aw.getD i aI)):=by
  intro i a;obtain⟨r,h1,c⟩:=ih _ (bp (by omega:i<v.aw.length) aI) (t.af.getD i aF).aC pl;grind
 refine(dq.loop (L:=λi=>lI (pl,(i:Int),ts,v,t.ae,t.aR,t.bA,t.bI,t.Max,t.bf,t.af,t.aS,t.aE,t.bt)) (n:=t.af.length) (p:=p) (g:=()) rfl (λi a=>?_) ?_).imp ?_
 rw[lI,ag (aX a),ag (fP)];grind[bo,ab.bN,lC];simp_all[lI];grind[jR]
theorem aef(k:v.a'.length<9223372036854775807)(a:∀x,x∈v.a'->cz x):
 dq (kb (1,v)>>=λd=>match d with|.inl f=>some f|.inr _=>some true) (nI v.a'):=by
 by_cases h0:v.a'.length=0;rw[kb,aq (by grind)];refine⟨true,rfl,?_⟩;simp_all[nI,true_iff]
 refine(dq.loop (L:=λi=>kb ((i+1:Nat),v)) (n:=v.a'.length-1) (p:=λi=>!(0<=iz (v.a'.getD i aI) (v.a'.getD (i+1) aI):J)) (g:=()) rfl (λi j=>?_) ?_).imp ?_
 . have b:dG .i64 (i+1:Nat) 1=i:=by rw[sH (by simp) (by omega)];rfl
   obtain⟨r,c1,c2⟩:=Ef (Ft (a _ (bp (by omega:i<v.a'.length) aI))) (Ft (a _ (bp (by omega:i+1<v.a'.length) aI)));have c:iz (v.a'.getD i aI) (v.a'.getD (i+1) aI)=r:=(by grind[iz]);rw[c,kb];simp only[a7,ay];rw[b,ag (fP),ag (fP)];simp only[bo,ab.bN];rw[c2,bP];grind
 have e:v.a'.length-1+1=v.a'.length:=(by omega);simp_all[kb,aq];grind[nI]
theorem hp(pl:J)(t:Int)(v:ab):dL ts pl t v↔
 (0<=t/\t<ts.length/\v.ae=(ts.getD t.toNat aM).ae/\(pl=true->v.a6=[]))/\
 (v.ae=1/\v.bF=0/\v.bW=[]/\v.ah=0/\v.a'=[]/\v.aw=[]/\v.a6=[]\/
 v.ae=2/\v.cp=false/\v.bW=[]/\v.ah=0/\v.a'=[]/\v.aw=[]/\v.a6=[]/\(ts.getD t.toNat aM).bA<=v.bF/\v.bF<=(ts.getD t.toNat aM).bI\/
 v.ae=3/\v.cp=false/\v.bF=0/\v.ah=0/\v.a'=[]/\v.aw=[]/\v.a6=[]/\(v.bW.length:Int)<=(ts.getD t.toNat aM).Max\/
 v.ae=4/\v.cp=false/\v.bF=0/\v.bW=[]/\v.a'=[]/\v.aw=[]/\v.a6=[]/\((∃y,y∈(ts.getD t.toNat aM).bf/\y.ah=v.ah)\/(ts.getD t.toNat aM).bt/\pl=false/\cB v.ah)\/
 v.ae=5/\v.cp=false/\v.bF=0/\v.bW=[]/\v.ah=0/\v.a'=[]/\iU (ts.getD t.toNat aM).af v.a6/\jm ts pl (ts.getD t.toNat aM).af v.aw\/
 v.ae=6/\v.cp=false/\v.bF=0/\v.bW=[]/\v.a'=[]/\(match cx (ts.getD t.toNat aM).af v.ah with
  |some m=>v.a6=[]/\v.aw.length=1/\fp ts pl m.aC v.aw
  |none=>(ts.getD t.toNat aM).bt=true/\pl=false/\cB v.ah/\v.aw=[]/\∃d,v.a6=[⟨v.ah,d⟩])\/
 v.ae=7/\v.cp=false/\v.bF=0/\v.bW=[]/\v.ah=0/\v.a'=[]/\v.a6=[]/\(v.aw.length:Int)<=(ts.getD t.toNat aM).Max/\fp ts pl (ts.getD t.toNat aM).aE v.aw\/
 v.ae=8/\v.cp=false/\v.bF=0/\v.bW=[]/\v.ah=0/\v.a6=[]/\(v.a'.length:Int)<=(ts.getD t.toNat aM).Max/\v.aw.length=v.a'.length/\fp ts pl (ts.getD t.toNat aM).aS v.a'/\fp ts pl (ts.getD t.toNat aM).aE v.aw/\nI v.a'\/
 v.ae=9/\v.cp=false/\v.bF=0/\v.bW=[]/\v.ah=0/\v.a'=[]/\v.a6=[]/\v.aw.length<=1/\fp ts pl (ts.getD t.toNat aM).aE v.aw):=by
 cases v;rfl
end
def ma(v:ab):Prop:=(v.ae=1\/v.cp=false)/\(v.ae=2\/v.bF=0)/\(v.ae=3\/v.bW=[])/\((v.ae=4\/v.ae=6)\/v.ah=0)/\(v.ae=8\/v.a'=[])/\(5<=v.ae\/v.aw=[])/\((v.ae=5\/v.ae=6)\/v.a6=[])
theorem aeg(v:ab):dq (uh v) (ma v):=by
 rw[uh];refine .of ?_;unfold ma;have e:∀{α:Type} (l:I α),((l.length:Int)=0)↔l=[]:=λl=>by simp_all
 grind
theorem ais{z b:J}{c:Prop}(d:z=true↔c)(a:b=false↔Q)(e:dq o P):dq (if(bif (bif false then true else(!z))then true else b)then some false else o) (c/\Q/\P):=by
 obtain⟨r,rfl,h⟩:=e;cases z with
 |false=>
  refine⟨false,rfl,?_⟩;grind
 |true=>
  cases b with
  |true=>refine⟨false,rfl,?_⟩;simp at a;simp[a]
  |false=>refine⟨r,rfl,?_⟩;simp at d a;simp[d,a,h]
theorem vY{q:J}(c:q=true↔Q)(a:dq o P):dq (some q>>=λt244=>(if t244 then o else some false)>>=λb=>some (bif t244 then b else false)) (Q/\P):=by
 obtain⟨r,rfl,h⟩:=a;refine⟨q&&r,by cases q<;>cases r<;>rfl,?_⟩;grind
theorem aij{A:J}{f L:ai J}{c e d:Prop}(a:A=true↔c)(j:dq f e)(g:A=true->dq L d):
 dq (some (!A)>>=λt107=>(if !t107 then f else some false)>>=λk=>if(bif t107 then true else(!k)) then some false else L) (c/\e/\d):=by
 obtain⟨q,rfl,b⟩:=j;cases A with
 |false=>refine⟨false,rfl,?_⟩;simp at a;simp[a]
 |true=>
  obtain⟨m,rfl,i⟩:=g rfl;cases q with
  |false=>refine⟨false,rfl,?_⟩;simp at b;simp[b]
  |true=>refine⟨m,rfl,?_⟩;simp at a b;simp[a,b,i]
theorem aik{c:J}{ok g L:ai J}{d e px f:Prop}(l:c=false↔d)(b:dq ok e)(a:dq g px)(j:dq L f):
 dq (some c>>=λt239=>(if !t239 then ok else some false)>>=λn=>some (bif t239 then true else(!n))>>=λt249=>(if !t249 then g else some false)>>=λo=>if(bif t249 then true else(!o)) then some false else L) (d/\e/\px/\f):=by
 obtain⟨k,rfl,b⟩:=b;obtain⟨i,rfl,a⟩:=a;obtain⟨q,rfl,m⟩:=j;rw[<-l,<-b,<-a,<-m];cases c<;>cases k<;>cases i<;>exact⟨_,rfl,by simp⟩
theorem EE{l:I de}{r:Int×J}(h:xF l id r):r.2↔∃y,y∈l/\y.ah=id:=by
 rcases h with⟨j,h1,a,b,rfl⟩|⟨h1,rfl⟩;grind
 . constructor
   grind
   . rintro ⟨y,al,he⟩
     obtain⟨i,c,rfl⟩:=hE al;grind
section
variable {ts:I aj}(aL:ts.length<9223372036854775807)(dE:∀t,t∈ts->fT t)(bS:∀t,t∈ts->lQ t.ae)
include aL dE bS in
theorem FP(aw:cz v):GA ts v:=by
 induction aw with
 |mk v hs h1 Z aa ar aB aD dF aE aH aJ ay X=>
  intro t pl;rw[ju];by_cases ad:(bif (t<0:J)then true else (((⟨ts⟩:aY).bk.length:Int)<=t:J))=true;rw[ag ad];refine⟨false,rfl,?_⟩;rw[hp];grind
  . rw[aq ad];have ap:0<=t/\t<ts.length:=(by grind);obtain⟨j,rfl⟩:∃j:Nat,t=(j:Int):=⟨t.toNat,by omega⟩
    have T:j<ts.length:=(by omega);rw[ag (aX T)];simp only[hp,bo,ab.bN];have V:=dE _ (bp T aM);have U:=bS _ (bp T aM);generalize ts.getD j aM=x at V U⊢;have F:=eS (iR V.hP);have af:=eS (iR V.syms);by_cases D:v.ae=x.ae
    . obtain⟨z,z1,z2⟩:=aeg v;have Q:=Qh (ts:=ts) Z X;have au:=Qh (ts:=ts) h1 ay;show dq ((if !(!(v.ae=x.ae:J)) then uh v else some false)>>=_) _;rw[ag (by simp[D]),z1];obtain⟨K,N,L,H,M,S,l,w,E,n⟩:=x;obtain⟨p,B,cr,C,ah,s,i,R⟩:=v;simp only at D;subst D;simp only at U F af h1 Z aa z1;have I:(bif pl then (0<(R.length:Int):J)else false)=false↔(pl=true->R=[]):=(by simp_all);have an:p=1\/p=2\/p=3\/p=4\/p=5\/p=6\/p=7\/p=8\/p=9:=by unfold lQ at U;omega
      have cut:∀ {o:ai J} {P W:Prop},dq o P->((ma ⟨p,B,cr,C,ah,s,i,R⟩/\(pl = true->R = [])/\P) ↔ W)->
       dq (some z>>=λr=>if(bif (bif false then true else(!r))then true else bif pl then (0<(R.length:Int):J)else false) then some false else o) W:=λav ax=>(ais z2 I av).imp ax
      have u:(0:Int)<=j/\(j:Int)<ts.length:=ap;rcases an with rfl|rfl|rfl|rfl|rfl|rfl|rfl|rfl|rfl;exact cut (P:=True) (.of (b:=true) (by simp)) (by unfold ma;simp[u];grind);exact cut (P:=L<=cr/\cr<=H) (.of (b:=bif (L<=cr:J)then (cr<=H:J)else false) (by by_cases g:L<=cr<;>simp[g])) (by unfold ma;simp[u];grind);exact cut (P:=(C.length:Int)<=M) (.of (b:=((C.length:Int)<=M:J)) (by simp)) (by unfold ma;simp[u];grind);obtain⟨r,_,Y,O⟩:=rz (t:=⟨4,N,L,H,M,S,l,w,E,n⟩) ah af;have hid:jP (ah,false)=some (bif (1<=ah:J)then (ah<=1000:J)else false):=(by rfl);have aj:=He Y n pl _ (λb=>jP (ah,b)) hid;have hs:=EE O;simp only at hs;refine cut (P:=(∃y,y∈S/\y.ah=ah)\/n=true/\pl=false/\cB ah) ⟨_,aj,?_⟩ (by unfold ma;simp[u];grind);rw[<-hs];unfold cB;grind
      . refine cut (P:=i.length=l.length/\iU l R/\jm ts pl l i) ?_ (by
         have:jm ts pl l i->i.length=l.length:=λh=>(jR.1 h).1
         unfold ma;simp[u];grind)
        exact aij (A:=((i.length:Int)=(l.length:Int):J)) (by simp;omega) (aee (t:=⟨5,N,L,H,M,S,l,w,E,n⟩) F aa) (λak=>adQ (ts:=ts) (t:=⟨5,N,L,H,M,S,l,w,E,n⟩) (v:=⟨5,B,cr,C,ah,s,i,R⟩) (O0 ak) F X pl)
      . obtain⟨r,_,Y,O⟩:=nD (t:=⟨6,N,L,H,M,S,l,w,E,n⟩) ah F;have hid:∀b,b=false->jP (ah,b)=some (bif (1<=ah:J)then (ah<=1000:J)else false):=by
         intro b I;subst I;rfl
        have al:((R.length:Int)=1:J)->aG 0 R.length:=by
         intro h;have:=hx h;exact aX (k:=0) (by omega)
        refine cut (P:=match cx l ah with
         |some m=>R=[]/\i.length=1/\fp ts pl m.aC i
         |none=>n=true/\pl=false/\cB ah/\i=[]/\∃d,R=[⟨ah,d⟩]) ?_ (by
          unfold ma;simp[u]
          grind)
        obtain⟨aK,sU⟩:=r;show dq (g' (⟨6,N,L,H,M,S,l,w,E,n⟩,ah)>>=_) _;rw[Y];rcases uT O with⟨e,k,bj,bq,b4,cv⟩|⟨e,b4⟩
        . simp only at e bj bq b4 cv;subst e;subst bq;rw[b4];have am:∃f:J,((bif ((i.length:Int)=1:J)then ((R.length:Int)=0:J)else false)=true->ju ((⟨ts⟩:aY),(l.getD (k:Int).toNat aF).aC,i.getD (0:Int).toNat aI,pl)=some f)/\(i.length=1->(f=true↔fp ts pl (l.getD k aF).aC i)):=by
           by_cases G:i.length=1
           . obtain⟨f,f1,f2⟩:=X (i.getD 0 aI) (bp (by omega:0<i.length) aI) (l.getD k aF).aC pl;refine⟨f,λ_=>f1,λ_=>?_⟩;rw[f2]
             match i,G with
             |[y],_=>rw[dv];simp
           refine⟨false,λh=>?_,λh=>absurd h G⟩;grind
          obtain⟨f,f1,f2⟩:=am;have ao:(bif ((i.length:Int)=1:J)then ((R.length:Int)=0:J)else false)=true->aG (k:Int) l.length/\aG 0 i.length:=by
           intro aA;refine⟨aX bj,?_⟩;by_cases G:i.length=1;exact aX (k:=0) (by omega);grind
          refine⟨_,Hf _ (aG (k:Int) l.length) (aG 0 i.length) f f1 ao,?_⟩;by_cases g1:i.length=1;simp_all;grind
        . simp only at e b4;subst e;rw[b4];refine⟨_,Hg (bif n then(!pl)else false) (bif (1<=ah:J)then (ah<=1000:J)else false) ((i.length:Int)=0:J) ((R.length:Int)=1:J) (aG 0 R.length) ((R.getD (0:Int).toNat cq).ah=ah:J) al,?_⟩;unfold cB
          match R with
          |[]=>simp
          |[⟨az,rd⟩]=>cases n<;>cases pl<;>by_cases g1:1<=ah<;>by_cases g2:ah<=1000<;>cases i<;>by_cases g3:az=ah<;>simp[g1,g2,g3]<;>omega
          |a::b::c=>simp;omega
      exact cut (P:=(i.length:Int)<=M/\fp ts pl E i) (vY (by simp) (Q E pl)) (by unfold ma;simp[u];grind)
      . refine cut (P:=((s.length:Int)<=M/\i.length=s.length)/\fp ts pl w s/\fp ts pl E i/\nI s) ?_ (by unfold ma;simp[u];grind);refine aik (c:=bif (M<(s.length:Int):J)then true else(!((i.length:Int)=(s.length:Int):J))) ?_ (au w pl) (Q E pl) (aef (v:=⟨8,B,cr,C,ah,s,i,R⟩) (eS h1) ar);grind
      exact cut (P:=i.length<=1/\fp ts pl E i) (vY (q:=((i.length:Int)<=1:J)) (by simp;omega) (Q E pl)) (by unfold ma;simp[u];grind)
    refine⟨false,by simp[D],?_⟩;grind
end
theorem alj{n:Nat}(h:n<=70368744177664):bR 1 n:=by
 unfold bR h4 dT;grind
theorem T1{n:Nat}(h:n<=2199023255552:=by simp;omega):bR 24 n:=by
 unfold bR h4 dT;grind
theorem bws{s b:au}(h:b.length+s.length<=70368744177664:=by omega):tE (s,b)=some ((s.length:Int),b++s):=by
 rw[tE];simp only[a7,ay];rw[jY,ag (alj h)];rfl
theorem GL(b:au):zn b=some b:=by rw[zn,ag (by simp[eZ])]
theorem afX(a b:Nat):mJ (a:Int) (b:Int)=((max a b:Nat):Int):=by unfold mJ;omega
theorem fi{l:I α}{i:Nat}(h:i<l.length)(d:α):l.drop i=l.getD i d::l.drop (i+1):=by simp_all
def jV(f:Fd):hn:=⟨(f.id:Int),f.text⟩
theorem adR{m:aT}(a:cz m.bC)(v:ab):DV (m,v)=some (dm m v):=by
 rw[DV];unfold dm;cases c:m.bO with
 |false=>simp
 |true=>
  obtain⟨r,h1,b⟩:=OT a v;simp only[ab.bN];grind
theorem ahi{m:aT}(a:cz v)(c:m.bO):k8 (v,m.bC)=some (dm m v):=by
 obtain⟨r,h1,b⟩:=Fs a m.bC;rw[h1];unfold dm;grind
section
variable {ts:I aj}
def ri(ts:I aj)(x:ab)(t:Int):Prop:=∀L D:Nat,1<=L->L+wt x<=1125899906842624->kB (t,x,(L:Int),ts,(D:Int))=some (bM ts t x,ts,((max D (L+eW ts t x-1):Nat):Int))
theorem PU:∀{ms:I aT} {l:I ab},(dK ts ms l).length<=ms.length
 |[],l=>by
  rw[dK];simp;grind
 |m::ms,[]=>by
  rw[dK];simp;grind
 |m::ms,v::l=>by
  rw[dK];have:=PU (ms:=ms) (l:=l);grind
theorem u6(t:Int)(v:ab):1<=eW ts t v:=by
 cases v;rw[eW];omega
theorem T2{a:I aT}(p:a.length<=1000)(d:∀m,m∈a->cz m.bC)(hid:∀m,m∈a->cB m.ah)(ak:v.aw.length=a.length)(e:∀x,x∈v.aw->∀t,(bM ts t x).length<=70368744177664)
 (g:∀i,i<a.length->dm (a.getD i aF) (v.aw.getD i aI)=false->ri ts (v.aw.getD i aI) (a.getD i aF).aC)(L:Nat)(l:1<=L)(o:L+fJ v.aw<1125899906842624):
 ∀(k i:Nat) (D:Nat) (acc:I hn),i+k=a.length->L<=D->acc.length+k<=100000->
 r7 ((L:Int),a,(a.length:Int),(i:Int),ts,(D:Int),v,acc)=some (ts,((max D (L+jn ts (a.drop i) (v.aw.drop i)):Nat):Int),v,acc++(dK ts (a.drop i) (v.aw.drop i)).map jV)
 |0,i,D,acc,r,j,q=>by
  rw[r7,eF,ab.bN,fA (by omega:a.length<=i)];rw[jn,dK];simp;omega;grind;grind
 |k+1,i,D,acc,r,j,q=>by
  have aD:i<a.length:=by omega
  have b:i<v.aw.length:=by omega
  rw[r7,c',ag (aX aD)];simp only[a7,ay,bo,ab.bN,iQ];rw[ag (aX b),adR (d _ (bp aD aF))];rw[fi aD aF,fi b aI,jn,dK];have u:=T2 p d hid ak e g L l o k (i+1);cases s:dm (a.getD i aF) (v.aw.getD i aI)with
  |true=>
   simp only[ay,dX,cm,cw,cg];rw[bP];grind
  |false=>
   have f:v.aw.getD i aI∈v.aw:=bp b aI;have z:=e9 f;have eh:=g i aD s (L+1) D (by omega) (by omega);have w:=u6 (ts:=ts) (a.getD i aF).aC (v.aw.getD i aI);have c:=hid _ (bp aD aF);obtain⟨n,aL⟩:∃n:Nat,(a.getD i aF).ah=(n:Int):=⟨(a.getD i aF).ah.toNat,by unfold cB at c;omega⟩;simp only[ay,fY,cg,cm,cw];have y:=e _ f (a.getD i aF).aC;have aK:aQ .i64 (L:Int) 1=((L+1:Nat):Int):=bP;rw[ag (aX b),aK,eh];simp only[ay];rw[aL,Lc (by unfold cB at c;omega)];simp only[ay];rw[ag (T1),bP,u _ _ (by omega) (by omega) (by simp;omega)];have:(⟨(n:Int),fV n (a.getD i aF).bV (bM ts (a.getD i aF).aC (v.aw.getD i aI))⟩:hn)=jV ⟨(n:Int).toNat,(a.getD i aF).bV,bM ts (a.getD i aF).aC (v.aw.getD i aI)⟩:=(by rfl);simp_all
theorem T3{R:I ct}(b:∀x,x∈R->cB x.ah/\x.b5.length<=reachBytes)(c:R.length<=2199023255552)(D:Int):∀(k i:Nat) (acc:I hn),i+k=R.length->acc.length+k<=2199023255552->
 r6 (R,(R.length:Int),(i:Int),ts,D,acc)=some (ts,D,acc++((R.drop i).map jb).map jV)
 |0,i,acc,f,d=>by
  rw[r6,eF,fA (by omega:R.length<=i)];simp
 |k+1,i,acc,f,d=>by
  have aD:i<R.length:=by omega
  obtain⟨a,e⟩:=b _ (bp aD cq);obtain⟨n,aL⟩:∃n:Nat,(R.getD i cq).ah=(n:Int):=⟨(R.getD i cq).ah.toNat,by unfold cB at a;omega⟩
  unfold reachBytes at e;rw[r6,c',ag (aX aD)];simp only[a7,ay,bo];rw[aL,Lc (by unfold cB at a;omega)];simp only[ay];rw[ag (T1),bP,T3 b c D k (i+1) _ (by omega) (by simp;omega),fi aD cq];have:(⟨(n:Int),fV n false (R.getD i cq).b5⟩:hn)=jV (jb (R.getD i cq)):=by
   show _=(⟨(((R.getD i cq).ah.toNat:Nat):Int),fV (R.getD i cq).ah.toNat false (R.getD i cq).b5⟩:hn);grind
  grind
theorem T4{l:I Fd}(D:Int):∀(k i:Nat) (b:au),i+k=l.length->l.length<=2199023255552->b.length+((l.drop i).flatMap Fd.text).length<=70368744177664->
 tK ((l.length:Int),(i:Int),ts,D,l.map jV,b)=some (ts,D,b++(l.drop i).flatMap Fd.text)
 |0,i,b,c,_,a=>by
  rw[tK,eF,fA (by omega:l.length<=i)];simp
 |k+1,i,b,c,ak,a=>by
  have aD:i<l.length:=by omega
  rw[tK,c',ag (aX (by simp;omega)),c'];rw[fi aD default]at a⊢;simp only[hf,ea]at a⊢;have av:(l.map jV).getD i wY=jV (l.getD i default):=jx jV l i default wY aD;simp only[bo,av];have:(jV (l.getD i default)).text=(l.getD i default).text:=rfl;rw[this,bws];simp only[a7,ay];rw[bP,T4 D k (i+1) _ (by omega) ak (by rw[ea];omega)];simp
end
structure lB (ts:List aj):Prop where
 n:ts.length<=1000
 T:∀t,t∈ts->fT t
 K:∀t,t∈ts->lQ t.ae
 M:T9 ts
 A:∀x,x∈ts->(x.ae=5\/x.ae=6)->hY x.af/\x.af.length<=16
 S:∀x,x∈ts->x.ae=4->∀y,y∈x.bf->cB y.ah
 oa:∀x,x∈ts->x.ae=8->1<=(ts.getD x.aS.toNat aM).ae/\(ts.getD x.aS.toNat aM).ae<=4
section
variable {ts:I aj}
theorem pg{t:Int}{v:ab}(h:(ts.getD t.toNat aM).ae=1):bM ts t v=if v.cp then[1]else[]:=by cases v;rw[bM];simp only[h];rfl
theorem q2{t:Int}{v:ab}(h:(ts.getD t.toNat aM).ae=2):bM ts t v=eD (fZ v.bF).toNat:=by cases v;rw[bM];simp only[h];rfl
theorem q3{t:Int}{v:ab}(h:(ts.getD t.toNat aM).ae=3):bM ts t v=v.bW:=by cases v;rw[bM];simp only[h];rfl
theorem q4{t:Int}{v:ab}(h:(ts.getD t.toNat aM).ae=4):bM ts t v=eD v.ah.toNat:=by cases v;rw[bM];simp only[h];rfl
theorem sZ{t:Int}{v:ab}(h:(ts.getD t.toNat aM).ae=5):bM ts t v=(hO fE (fD ts (ts.getD t.toNat aM).af v.aw v.a6)).flatMap Fd.text:=by cases v;rw[bM];simp only[h];rfl
theorem q5{t:Int}{v:ab}(h:(ts.getD t.toNat aM).ae=6):bM ts t v=e5 v.ah.toNat++(match cx (ts.getD t.toNat aM).af v.ah with
 |some m=>(bY ts m.aC v.aw).headD []
 |none=>(v.a6.map ct.b5).headD []):=by
 cases v;rw[bM];simp only[h];rfl
theorem q6{t:Int}{v:ab}(h:(ts.getD t.toNat aM).ae=7):bM ts t v=(bY ts (ts.getD t.toNat aM).aE v.aw).flatMap dC:=by cases v;rw[bM];simp only[h];rfl
theorem q7{t:Int}{v:ab}(h:(ts.getD t.toNat aM).ae=8):bM ts t v=gg (bY ts (ts.getD t.toNat aM).aS v.a') (bY ts (ts.getD t.toNat aM).aE v.aw):=by cases v;rw[bM];simp only[h];rfl
theorem q8{t:Int}{v:ab}(h:(ts.getD t.toNat aM).ae=9):bM ts t v=match bY ts (ts.getD t.toNat aM).aE v.aw with
 |[]=>[]
 |p::_=>1::p:=by
 cases v;rw[bM];simp only[h];rfl
theorem qj(t:Int)(v:ab):eW ts t v=1+max (if v.a'=[]then 0 else 1) (if(ts.getD t.toNat aM).ae=5 then jn ts (ts.getD t.toNat aM).af v.aw
 else if(ts.getD t.toNat aM).ae=6 then(match cx (ts.getD t.toNat aM).af v.ah with
  |some m=>gR ts m.aC v.aw
  |none=>0)
 else gR ts (ts.getD t.toNat aM).aE v.aw):=by
 cases v;rw[eW];try rfl
theorem oR(c:v.a'=[])(b:v.aw=[]):eW ts t v=1:=by
 rw[qj,c,b];have h1:gR ts (ts.getD t.toNat aM).aE []=0:=by rw[gR]
 have a:jn ts (ts.getD t.toNat aM).af []=0:=by rw[jn];intros;simp_all
 rw[h1,a]
 have d:(match cx (ts.getD t.toNat aM).af v.ah with
  |some m=>gR ts m.aC []
  |none=>0)=0:=by
  split;rw[gR];rfl
 grind
theorem PV(b:¬x.ae=8)(d:∀y,y∈v.aw->(bM ts x.aE y).length<=1000000000000000)(e:∀y,y∈v.aw->ri ts y x.aE)(ak:v.aw.length<=reachBytes)(L:Nat)(g:1<=L)(j:L+fJ v.aw<1125899906842624):
 ∀(k i D:Nat) (acc:au),i+k=v.aw.length->L<=D->acc.length+((bY ts x.aE (v.aw.drop i)).flatMap dC).length<=70368744177664->
 mf ((L:Int),v.aw,(v.aw.length:Int),(i:Int),ts,(D:Int),v,x,acc)=some (ts,((max D (L+gR ts x.aE (v.aw.drop i)):Nat):Int),acc++(bY ts x.aE (v.aw.drop i)).flatMap dC)
 |0,i,D,acc,l,f,c=>by
  rw[mf,eF,fA (by omega:v.aw.length<=i),gR,bY];simp;omega
 |k+1,i,D,acc,l,f,c=>by
  have aD:i<v.aw.length:=by omega
  have n:=eS ak;have a:v.aw.getD i aI∈v.aw:=bp aD aI;have o:=e9 a;rw[fi aD aI,bY,hf,ea]at c;have ar:=d _ a;have eh:=e _ a (L+1) D (by omega) (by omega);have m:=u6 (ts:=ts) x.aE (v.aw.getD i aI);have aK:aQ .i64 (L:Int) 1=((L+1:Nat):Int):=bP;rw[mf,c',ag (aX aD)];simp only[a7,ay,bo,ab.bN];rw[aq (by simp[b]),aK,eh];simp only[ay];rw[FN];simp only[ay];rw[bws];simp only[ay];rw[bP,PV b d e ak L g j k (i+1) _ _ (by omega) (by omega) (by rw[ea];omega),fi aD aI,gR,bY,hf,j1];grind
theorem Qi(d:x.ae=8)(r:v.aw.length=v.a'.length)(g:∀y,y∈v.aw->(bM ts x.aE y).length<=1000000000000000)(j:∀y,y∈v.a'->(bM ts x.aS y).length<=1000000000000000)
 (l:∀y,y∈v.aw->ri ts y x.aE)(m:∀y,y∈v.a'->ri ts y x.aS)(h1:∀y,y∈v.a'->eW ts x.aS y=1)(ak:v.aw.length<=reachBytes)(L:Nat)(o:1<=L)(p:L+fJ v.aw+fJ v.a'<1125899906842624):
 ∀(k i D:Nat) (acc:au),i+k=v.aw.length->L<=D->acc.length+(gg (bY ts x.aS (v.a'.drop i)) (bY ts x.aE (v.aw.drop i))).length<=70368744177664->
 mf ((L:Int),v.aw,(v.aw.length:Int),(i:Int),ts,(D:Int),v,x,acc)=some (ts,((max D (L+max (if v.a'.drop i=[]then 0 else 1) (gR ts x.aE (v.aw.drop i))):Nat):Int),acc++gg (bY ts x.aS (v.a'.drop i)) (bY ts x.aE (v.aw.drop i)))
 |0,i,D,acc,q,n,f=>by
  rw[mf,eF,fA (by omega:v.aw.length<=i),fA (by omega:v.a'.length<=i),gR,bY,bY,gg];simp;omega;grind
 |k+1,i,D,acc,q,n,f=>by
  have aD:i<v.aw.length:=by omega
  have a:i<v.a'.length:=by omega
  have u:=eS ak;have c:v.aw.getD i aI∈v.aw:=bp aD aI;have b:v.a'.getD i aI∈v.a':=bp a aI;have w:=e9 c;have z:=e9 b;rw[fi aD aI,fi a aI,bY,bY,gg,ea,ea]at f;have ar:=g _ c;have t:=j _ b;have e:=m _ b (L+1) D (by omega) (by omega);rw[h1 _ b]at e;have eh:=l _ c (L+1) (max D (L+1+1-1)) (by omega) (by omega);have s:=u6 (ts:=ts) x.aE (v.aw.getD i aI);have aK:aQ .i64 (L:Int) 1=((L+1:Nat):Int):=bP;rw[mf,c',ag (aX aD)];simp only[a7,ay,bo,ab.bN];rw[ag (by simp[d]),ag (aX a),aK,e];simp only[ay];rw[FN];simp only[ay];rw[bws];simp only[ay];rw[eh];simp only[ay];rw[FN];simp only[ay];rw[bws (by rw[ea];omega)];simp only[ay];rw[bP,Qi d r g j l m h1 ak L o p k (i+1) _ _ (by omega) (by omega) (by rw[ea,ea];omega),fi aD aI,fi a aI,gR,bY,bY,gg,j1,j1];grind
end
section
variable {ts:I aj}(H:lB ts)
theorem o0(H:lB ts)(a:cz v)(b:wt v<=1099511627776)(t:Int):(bM ts t v).length<=23089744183296:=by
 have:=ae1 H.M a b t;omega
theorem aeh{l:I ab}{r:I ct}(h:hY ms)(d:iU ms r):Ix ((fD ts ms l r).map jV)=some ((hO fE (fD ts ms l r)).map jV):=by
 have e:∀a b,l1 (jV a) (jV b)=fE a b:=λa b=>by unfold l1 fE jV;simp
 have f:SWO l1:=by refine⟨λx=>?_,λx y z h1 c=>?_,λx y z h1 c=>?_⟩<;>simp[l1]at*<;>omega
 have ar:kI l1 ((fD ts ms l r).map jV):=by
  have h0:=wW (ts:=ts) (l:=l) h d;generalize fD ts ms l r=q at h0;induction q with
  |nil=>rfl
  |cons a q ih=>
   grind[kI]
 grind[Ix,Rg,Qe]
theorem C8{D L b w:Nat}(h:w=1+b):max (max D L) (L+b)=max D (L+w-1):=by omega
theorem ak0{D L b w:Nat}(h:w=1+b):max (max D L) (L+1+b-1)=max D (L+w-1):=by omega
theorem We{b w:Nat}(h:w=1+max 0 b):w=1+b:=by omega
theorem ahj(k:∀m,m∈x.af->cz m.bC)(c:hY x.af)(J:x.af.length<=16)(b:iU x.af v.a6)(o:v.aw.length=x.af.length)
 (s:∀y,y∈v.a6->y.b5.length<=reachBytes)(H:∀x,x∈v.aw->∀t,(bM ts t x).length<=23089744183296)
 (j:∀i,i<x.af.length->ri ts (v.aw.getD i aI) (x.af.getD i aF).aC)
 (I:((hO fE (fD ts x.af v.aw v.a6)).flatMap Fd.text).length<=23089744183296)
 (L D:Nat)(f:1<=L)(C:L<=D)(E:L+fJ v.aw<1125899906842624)(G:(v.a6.map λx=>x.b5.length+1).sum<=1099511627776):
 DL (x,v,(L:Int),ts,(D:Int))=some ((hO fE (fD ts x.af v.aw v.a6)).flatMap Fd.text,ts,((max D (L+jn ts x.af v.aw):Nat):Int)):=by
 have r:=c.2;have g:∀y,y∈v.a6->cB y.ah/\y.b5.length<=reachBytes:=λy al=>⟨(b.2 y al).1,s y al⟩
 have F:v.a6.length<=(v.a6.map λx=>x.b5.length+1).sum:=by
  generalize v.a6=R;induction R with
  |nil=>simp
  |cons a R ih=>grind
 have K:=PU (ts:=ts) (ms:=x.af) (l:=v.aw);have u:=T2 (by omega) k r o (λy al t=>by grind) (λi n _=>j i n) L f (by omega) x.af.length 0 D [] (by simp) (by omega) (by grind);have w:r7 ((L:Int),x.af,x.af.length,0,ts,D,v,[])=_:=u;rw[DL];simp only[ab.bN];rw[w];simp only[a7,ay,gk,iY];generalize ((max D (L+jn ts x.af v.aw):Nat):Int)=d;have A:=T3 (ts:=ts) g (by omega) d v.a6.length 0 ((dK ts x.af v.aw).map jV) (by simp) (by grind);have B:r6 (v.a6,(v.a6.length:Int),0,ts,d,(dK ts x.af v.aw).map jV)=_:=A;rw[B];simp only[ay,gk];rw[<-xK];have hs:=aeh (ts:=ts) (l:=v.aw) c b;have dw:dK ts x.af v.aw++v.a6.map jb=fD ts x.af v.aw v.a6:=rfl;rw[dw];generalize fD ts x.af v.aw v.a6=q at*;rw[hs];simp only[ay];have e:=kd fE q;rw[ag (by simp[e.length_eq])];have p:(hO fE q).length<=2199023255552:=by rw[e.length_eq];grind
 generalize hO fE q=z at*;have M:=T4 (ts:=ts) (l:=z) d z.length 0 [] (iy _) p (by grind);simp_all[GL]
theorem aei(p:x.af.length<9223372036854775807)(s:hY x.af)(F: -9223372036854775808<=v.ah/\v.ah<=9223372036854775807)
 (c5:match cx x.af v.ah with
  |some m=>v.a6=[]/\v.aw.length=1/\fp ts false m.aC v.aw
  |none=>x.bt=true/\True/\cB v.ah/\v.aw=[]/\∃d,v.a6=[⟨v.ah,d⟩])
 (w:∀y,y∈v.a6->y.b5.length<=reachBytes)(o:∀x,x∈v.aw->∀t,(bM ts t x).length<=23089744183296)
 (l:∀x,x∈v.aw->∀t,dL ts false t x->ri ts x t)
 (L D:Nat)(B:1<=L)(A:L<=D)(C:L+fJ v.aw<1125899906842624):
 Am (x,v,(L:Int),ts,(D:Int)) = some (e5 v.ah.toNat++(match cx x.af v.ah with
  |some m=>(bY ts m.aC v.aw).headD []
  |none=>(v.a6.map ct.b5).headD []),ts,((max D (L+(match cx x.af v.ah with
  |some m=>gR ts m.aC v.aw
  |none=>0)):Nat):Int)):=by
 obtain⟨r,i,_,b⟩:=nD (t:=x) v.ah p;rcases uT b with⟨e,q,g,z,a,G⟩|⟨e,a⟩
 . rw[a]at c5;rw[a];obtain⟨d1,d2,d3⟩:=c5;have j:=s.2 _ (bp g aF);obtain⟨n,aL⟩:∃n:Nat,v.ah=(n:Int):=⟨v.ah.toNat,by grind[cB]⟩
   rw[Am];simp only[ab.bN];rw[i,aL,ig (by grind),qt (by grind)];simp only[a7,ay];rw[aq (by grind),z,ag (aX g)]
   match j:v.aw,d2 with
   |[y],_=>
    have al:y∈v.aw:=(by grind);have f:aG 0 [y].length:=aX (k:=0) (by simp);have E:=e9 al;have b:=dv.1 d3 y al;have eh:=l y al _ b (L+1) D (by simp) (by omega);have aK:aQ .i64 (L:Int) 1=((L+1:Nat):Int):=bP;rw[ag f,aK];simp only[bo,xN,qQ];rw[eh];have ar:=o y al (x.af.getD q aF).aC;have u:=kG (n:=n) (by grind);simp only[ay];rw[ag (ha)];grind[u6,gR,bY]
 . rw[a]at c5;rw[a];obtain⟨d1,d2,d3,d4,d,d5⟩:=c5;obtain⟨n,aL⟩:∃n:Nat,v.ah=(n:Int):=⟨v.ah.toNat,by grind[cB]⟩
   have c:=w ⟨v.ah,d⟩ (by grind);simp only at c;unfold reachBytes at c;have u:=kG (n:=n) (by grind);rw[Am];rw[i,d5,aL,ig (by grind),qt (by grind)];simp only[a7,ay];have f:aG 0 ([⟨(n:Int),d⟩]:I ct).length:=aX (k:=0) (by simp);simp only[xN,qQ];rw[ag (ha)];grind
set_option maxHeartbeats 400000 in
theorem ahk(H:lB ts)(aN:cz v):wt v<=1099511627776->∀t,dL ts false t v->ri ts v t:=by
 induction aN with
 |mk v hs h1 C au U w J dF O am aU aT aR=>
  intro aP t g L D u aY;have ax:cz v:= .mk v hs h1 C au U w J dF O am aU;have a1:=iA v;have r:=λx aa t=>o0 H (w x aa) (by have:=e9 aa;omega) t;have aJ:∀x,x∈v.a'->∀t,(bM ts t x).length<=23089744183296:=λx aa t=>o0 H (U x aa) (by have:=e9 aa;omega) t;have q:∀x,x∈v.aw->∀t,dL ts false t x->ri ts x t:=λx aa t=>aR x aa (by have:=e9 aa;omega) t;have az:=λx aa t=>aT x aa (by have:=e9 aa;omega) t;have F:=o0 H ax aP t;obtain⟨⟨g1,g2,g3,_⟩,g⟩:=(hp _ _ _).1 g;obtain⟨j,rfl⟩:∃j:Nat,t=(j:Int):=⟨t.toNat,by omega⟩
  have R:j<ts.length:=by omega
  rw[kB];simp only[a7,ay];rw[ag (aX R),afX];simp only[bo,ab.bN]at g g3⊢;have s:=bp R aM;have o:=qj (ts:=ts) (j:Int) v;have aO:=@pg ts (j:Int) v;have X:=@q2 ts (j:Int) v;have Y:=@q3 ts (j:Int) v;have Z:=@q4 ts (j:Int) v;have K:=@sZ ts (j:Int) v;have ad:=@q5 ts (j:Int) v;have M:=@q6 ts (j:Int) v;have N:=@q7 ts (j:Int) v;have ai:=@q8 ts (j:Int) v;simp only[bo]at o aO X Y Z K ad M N ai;have P:=H.A _ s;have av:=H.oa _ s;have aH:=H.S _ s;generalize ts.getD j aM=x at*;have V:¬x.ae=5->¬x.ae=6->v.a'=[]->eW ts (j:Int) v=1+gR ts x.aE v.aw:=λa b c=>by grind
  have B:v.a'=[]->v.aw=[]->max D (L+eW ts (j:Int) v-1)=max D L:=λa b=>by rw[oR a b];omega
  rcases g with⟨k,c1,c2,c3,c4,c5,l⟩|⟨k,c1,c2,c3,c4,c5,l,f,p⟩|⟨k,c1,c2,c3,c4,c5,l,f⟩|⟨k,c1,c2,c3,c4,c5,l,f⟩|⟨k,c1,c2,c3,c4,c5,l,f⟩|⟨k,c1,c2,c3,c4,c5⟩|⟨k,c1,c2,c3,c4,c5,l,f,p⟩|⟨k,c1,c2,c3,c4,c5,l,f,p,an,aW⟩|⟨k,c1,c2,c3,c4,c5,l,f,p⟩<;>rw[k]at g3;grind
  . have d:=g3.symm;rw[aq (by simp[d]),ag (by simp[d]),X d,B c4 c5,sx O];simp only[ay];have aj:=BS O;obtain⟨n,aL⟩:∃n:Nat,fZ v.bF=(n:Int):=⟨(fZ v.bF).toNat,by unfold fZ;split<;>omega⟩
    rw[aL,fH]at aj;rw[aL,FK aj];rfl
  have d:=g3.symm;rw[aq (by simp[d]),aq (by simp[d]),ag (by simp[d]),Y d,B c4 c5]
  . have d:=g3.symm;rw[aq (by simp[d]),aq (by simp[d]),aq (by simp[d]),ag (by simp[d]),Z d,B c4 c5]
    obtain⟨n,aL⟩:∃n:Nat,v.ah=(n:Int):=⟨v.ah.toNat,by
     rcases f with⟨y,al,he⟩|⟨_,_,he⟩;have:=aH d y al;unfold cB at this;omega
     . unfold cB at he;omega⟩
    rw[aL,ig,FK (by omega),fH];rfl
  have d:=g3.symm;rw[aq (by simp[d]),aq (by simp[d]),aq (by simp[d]),aq (by simp[d]),ag (by simp[d]),K d];obtain⟨G,W⟩:=P (.inl d);obtain⟨aB,aD⟩:=jR.1 f;rw[ahj (H.T _ s).iw G W l aB (λy al=>J y al) r (λi w=>q _ (bp (by omega) aI) _ (aD i w)) (by rw[<-K d];exact F) L (max D L) u (by omega) (by omega) (by omega)];simp only[ay];rw[ag d,ag c5]at o;have e:max (max D L) (L+jn ts x.af v.aw)=max D (L+eW ts (j:Int) v-1):=C8 (We o);rw[e]
  . have d:=g3.symm;rw[aq (by simp[d]),aq (by simp[d]),aq (by simp[d]),aq (by simp[d]),aq (by simp[d]),ag (by simp[d]),ad d];obtain⟨G,W⟩:=P (.inr d);rw[aq (show ¬x.ae=5 by omega),ag d,ag c4]at o;rw[aei (eS (iR (H.T _ s).hP)) G am c5 (λy al=>J y al) r q L (max D L) u (by omega) (by omega)];simp only[ay]
    exact dN (λz:Nat=>some (e5 v.ah.toNat++(match cx x.af v.ah with
     |some m=>(bY ts m.aC v.aw).headD []
     |none=>(v.a6.map ct.b5).headD []),ts,(z:Int))) (C8 (D:=D) (L:=L) (We o))
  have d:=g3.symm;rw[aq (by simp[d]),aq (by simp[d]),aq (by simp[d]),aq (by simp[d]),aq (by simp[d]),aq (by simp[d]),aq (by simp[d])];have g:=dv.1 p;rw[M d]at F;have:=PV (x:=x) (v:=v) (by omega) (λy al=>by have:=r y al x.aE;omega) (λy al=>q y al x.aE (g y al)) C L u (by omega) v.aw.length 0 (max D L) [] (by omega) (by omega) (by simp only[gk,pb];omega);have h0:mf ((L:Int),v.aw,(v.aw.length:Int),0,ts,((max D L:Nat):Int),v,x,[])=_:=this;rw[h0];simp only[ay,GL];have ak:=V (by omega) (by omega) c5;have e:max (max D L) (L+gR ts x.aE v.aw)=max D (L+eW ts (j:Int) v-1):=C8 ak;rw[M d,gk,iY,e]
  . have d:=g3.symm;rw[aq (by simp[d]),aq (by simp[d]),aq (by simp[d]),aq (by simp[d]),aq (by simp[d]),aq (by simp[d]),aq (by simp[d])];have g:=dv.1 an;have Q:=dv.1 p;rw[N d]at F;obtain⟨a2,a3⟩:=av d;have aF:∀y,y∈v.a'->eW ts x.aS y=1:=λy al=>by
     obtain⟨⟨_,_,aV,_⟩,b⟩:=(hp _ _ _).1 (Q y al);apply oR<;>grind
    have:=Qi (x:=x) (v:=v) d f (λy al=>by have:=r y al x.aE;omega) (λy al=>by have:=aJ y al x.aS;omega) (λy al=>q y al x.aE (g y al)) (λy al=>az y al x.aS (Q y al)) aF C L u (by omega) v.aw.length 0 (max D L) [] (by omega) (by omega) (by simp only[gk,pb];omega);have h0:mf ((L:Int),v.aw,(v.aw.length:Int),0,ts,((max D L:Nat):Int),v,x,[])=_:=this;rw[h0];simp only[ay,GL];rw[aq (show ¬x.ae=5 by omega),aq (show ¬x.ae=6 by omega)]at o;simp only[gk,iY];have e:max (max D L) _=max D (L+eW ts (j:Int) v-1):=C8 o;rw[N d,e]
  . have d:=g3.symm;rw[aq (by simp[d]),aq (by simp[d]),aq (by simp[d]),aq (by simp[d]),aq (by simp[d]),aq (by simp[d]),ag (by simp[d]),ai d];have g:=dv.1 p
    match E:v.aw,f with
    |[],_=>rw[jY,B c5 E,bY]
    |[y],_=>
     have al:y∈v.aw:=by rw[E];exact .head _
     have aA:aG 0 ([y]:I ab).length:=aX (k:=0) (by simp);rw[cN,ag aA];have a0:=e9 al;have eh:=q y al x.aE (g y al) (L+1) (max D L) (by omega) (by omega);have aK:aQ .i64 (L:Int) 1=((L+1:Nat):Int):=bP;rw[aK];simp only[xN,qQ];rw[eh];have ar:=r y al x.aE;simp only[ay];rw[ag (ha (by simp;omega))];have ak:=V (by omega) (by omega) c5;rw[E]at ak;have aZ:=u6 (ts:=ts) x.aE y;have ap:gR ts x.aE [y]=eW ts x.aE y:=by
      have dw:gR ts x.aE []=0:=by rw[gR]
      rw[gR,dw];omega
     have ao:bY ts x.aE [y]=[bM ts x.aE y]:=by rw[bY,bY]
     rw[ap]at ak;have e:max (max D L) (L+1+eW ts x.aE y-1)=max D (L+eW ts (j:Int) v-1):=ak0 ak;rw[ao,e];rfl
    |a::b::c,h=>simp at h
end
section
variable {ts:I aj}
def k1(ts:I aj)(x:ab)(t:Int):Prop:=kD ((⟨ts⟩:aY),t,x)=some (bM ts t x)
theorem Qj(b:∀y,y∈v.aw->(bM ts x.aE y).length<=1000000000000000)(d:∀y,y∈v.aw->k1 ts y x.aE)(ak:v.aw.length<=reachBytes):
 ∀(k i:Nat) (acc:au),i+k=v.aw.length->acc.length+((bY ts x.aE (v.aw.drop i)).flatMap dC).length<=70368744177664->
 tL (acc,(i:Int),ts,v,x)=some (acc++(bY ts x.aE (v.aw.drop i)).flatMap dC)
 |0,i,acc,e,a=>by
  rw[tL,eF,fA (by omega:v.aw.length<=i),bY];simp
 |k+1,i,acc,e,a=>by
  have aD:i<v.aw.length:=by omega
  have f:=eS ak;have c:v.aw.getD i aI∈v.aw:=bp aD aI;rw[fi aD aI,bY,hf,ea]at a;have ar:=b _ c;have eh:=d _ c;unfold k1 at eh;rw[tL,c',ag (aX aD)];simp only[a7,ay,bo,ab.bN];rw[eh];simp only[ay];rw[Fa];simp only[ay];rw[ag (ha),bP,Qj b d ak k (i+1) _ (by omega) (by rw[ea];omega),fi aD aI,bY,hf,j1]
theorem Sd(n:v.aw.length=v.a'.length)(d:∀y,y∈v.aw->(bM ts x.aE y).length<=1000000000000000)(e:∀y,y∈v.a'->(bM ts x.aS y).length<=1000000000000000)
 (j:∀y,y∈v.aw->k1 ts y x.aE)(l:∀y,y∈v.a'->k1 ts y x.aS)(ak:v.aw.length<=reachBytes):
 ∀(k i:Nat) (acc:au),i+k=v.aw.length->acc.length+(gg (bY ts x.aS (v.a'.drop i)) (bY ts x.aE (v.aw.drop i))).length<=70368744177664->
 tM (acc,(i:Int),ts,v,x)=some (acc++gg (bY ts x.aS (v.a'.drop i)) (bY ts x.aE (v.aw.drop i)))
 |0,i,acc,m,c=>by
  rw[tM,eF,fA (by omega:v.aw.length<=i),fA (by omega:v.a'.length<=i),bY,bY,gg];simp;grind
 |k+1,i,acc,m,c=>by
  have aD:i<v.aw.length:=by omega
  have a:i<v.a'.length:=by omega
  have p:=eS ak;have f:v.aw.getD i aI∈v.aw:=bp aD aI;have g:v.a'.getD i aI∈v.a':=bp a aI;rw[fi aD aI,fi a aI,bY,bY,gg,ea,ea]at c;have ar:=d _ f;have o:=e _ g;have eh:=j _ f;have b:=l _ g;unfold k1 at eh b;rw[tM,c',ag (aX a)];simp only[a7,ay,bo,ab.bN];rw[b];simp only[ay];rw[Fa];simp only[ay];rw[ag (ha),ag (aX aD),eh];simp only[ay];rw[Fa];simp only[ay];rw[ag (ha (by rw[ea];omega)),bP,Sd n d e j l ak k (i+1) _ (by omega) (by rw[ea,ea];omega),fi aD aI,fi a aI,bY,bY,gg,j1,j1]
def lR(R:I ct)(n:Nat):I Fd:=(R.filter λx=>(x.ah=(n:Int):J)).map jb
theorem adS{a:ct}{l:I ct}{n:Nat}(h:a.ah=(n:Int)):lR (a::l) n=jb a::lR l n:=by unfold lR;rw[List.filter_cons,ag (by rw[h];simp),qT]
theorem aej{a:ct}{l:I ct}{n:Nat}(h:¬a.ah=(n:Int)):lR (a::l) n=lR l n:=by unfold lR;rw[List.filter_cons,aq (by simpa using h)]
theorem ald{m:aT}{w:ab}(b:cz w)(A B:ai γ):
 ((if !(!m.bO) then k8 (w,m.bC)else some false).bind λc=>if(bif (!m.bO)then true else(!c)) then A else B)=if dm m w then B else A:=by
 cases a:m.bO with
 |false=>
  have:dm m w=false:=by unfold dm;rw[a];rfl
  rw[this];rfl
 |true=>
  have:=ahi b a;simp only[dX,fY,cg,this];cases dm m w<;>rfl
theorem Kx(d:∀y,y∈v.a6->y.b5.length<=reachBytes)(c:v.a6.length<=reachBytes)(n:Nat)(aL:n<=1000):
 ∀(k i:Nat) (b:au),i+k=v.a6.length->b.length+((lR (v.a6.drop i) n).flatMap Fd.text).length<=70368744177664->
 ni (b,(n:Int),(i:Int),ts,v,x)=some (b++(lR (v.a6.drop i) n).flatMap Fd.text,(n:Int),ts,v,x)
 |0,i,b,g,a=>by
  rw[ni,eF,fA (by omega:v.a6.length<=i),ab.bN];simp[lR]
 |k+1,i,b,g,a=>by
  have aD:i<v.a6.length:=by omega
  have j:=eS c;have f:=d _ (bp aD cq);unfold reachBytes at f;rw[fi aD cq]at a;rw[ni,c',ag (aX aD)];simp only[a7,ay,bo,ab.bN];rw[fi aD cq];by_cases e:(v.a6.getD i cq).ah=(n:Int)
  . rw[adS e,hf]at a⊢;have ht:(jb (v.a6.getD i cq)).text=fV n false (v.a6.getD i cq).b5:=by unfold jb Fd.text;rw[e];rfl
    rw[ht,ea]at a;rw[ag (by rw[e];simp),ag (aX aD),N2 (by omega) (by omega)];simp only[ay];rw[ag (ha),bP,Kx d c n aL k (i+1) _ (by omega) (by rw[ea];omega),ht,j1]
  rw[aej e]at a⊢;rw[aq (by simpa using e),bP,Kx d c n aL k (i+1) _ (by omega) a]
noncomputable def zd (ts:I aj)(x:aj)(v:ab)(n:Nat):I Fd:=(fD ts x.af v.aw v.a6).filter λf=>(f.id=n:J)
theorem KK{x:aj}(q:x.af.length<9223372036854775807)(s:hY x.af)(z:iU x.af v.a6)(l:v.aw.length=x.af.length)
 (w:∀y,y∈v.a6->y.b5.length<=reachBytes)(g:v.a6.length<=reachBytes)(u:∀y,y∈v.aw->cz y)(o:∀x,x∈v.aw->∀t,(bM ts t x).length<=23089744183296)
 (A:∀i,i<x.af.length->k1 ts (v.aw.getD i aI) (x.af.getD i aF).aC):
 ∀(k n:Nat) (b:au),n+k=1001->1<=n->b.length+(((List.range' n k).flatMap (zd ts x v)).flatMap Fd.text).length<=70368744177664->
 pW (b,(n:Int),ts,v,x)=some (b++((List.range' n k).flatMap (zd ts x v)).flatMap Fd.text)
 |0,n,b,K,h1,a=>by
  rw[pW,eF];simp
 |k+1,n,b,K,h1,a=>by
  have L:∀y,y∈v.a6->0<=y.ah:=λy al=>by have:=(z.2 y al).1;unfold cB at this;omega
  have av:zd ts x v n=((dK ts x.af v.aw).filter λf=>(f.id=n:J))++lR v.a6 n:=by
   unfold zd fD lR;rw[HI,acb _ _ L]
  rw[zx,hf,HE,av,HE]at a⊢;simp only[ea]at a;rw[pW,c'];obtain⟨r,_,Q,H⟩:=nD (t:=x) (n:Int) q;simp only[a7,ay,bo,ab.bN];rw[Q];simp only[ay];have B:∀c:au,c.length+((lR v.a6 n).flatMap Fd.text).length<=70368744177664->ni (c,(n:Int),0,ts,v,x)=some (c++(lR v.a6 n).flatMap Fd.text,(n:Int),ts,v,x):=λc h=>by
   have:=Kx (ts:=ts) (x:=x) w g n (by omega) v.a6.length 0 c (by omega) (by simpa using h);grind
  rcases uT H with⟨e,j,C,O,G,P⟩|⟨e,G⟩
  . have p:j<v.aw.length:=(by omega);have D:v.aw.getD j aI∈v.aw:=bp p aI;have d:=Ba (ts:=ts) (Bi s) l C (n:=n) (by rw[P];simp);rw[ag e,O,ag (aX C)];rw[ag (by rw[aX p];rfl)];simp only[bo];rw[ald (u _ D)];have F:=KK q s z l w g u o A k (n+1);cases E:dm (x.af.getD j aF) (v.aw.getD j aI)with
    |true=>
     rw[E,ag rfl]at d;rw[d]at a⊢;rw[ag rfl,B b (by omega)];simp only[ay,ab.bN];rw[bP,F _ (by omega) (by omega) (by rw[ea];omega)];simp
    |false=>
     rw[E,cN]at d;rw[d]at a⊢;have ar:=o _ D (x.af.getD j aF).aC;have eh:=A j C;unfold k1 at eh;have ht:([⟨n,(x.af.getD j aF).bV,bM ts (x.af.getD j aF).aC (v.aw.getD j aI)⟩]:I Fd).flatMap Fd.text=fV n (x.af.getD j aF).bV (bM ts (x.af.getD j aF).aC (v.aw.getD j aI)):=by simp only[hf,List.flatMap_nil,nT];rfl
     rw[ht]at a⊢;rw[cN,ag (aX p),eh];simp only[ay];rw[N2 (by omega) (by omega)];simp only[ay];rw[ag (ha),B _ (by rw[ea];omega)];simp only[ay,ab.bN];rw[bP,F _ (by omega) (by omega) (by rw[ea,ea];omega)];grind
  . have N:((dK ts x.af v.aw).filter λf=>(f.id=n:J))=[]:=O4 λm M=>by
     have:=mv G m M;omega
    rw[N]at a⊢;rw[aq (by simp[e]),B b (by omega)];simp only[ay,ab.bN];rw[bP,KK q s z l w g u o A k (n+1) _ (by omega) (by omega) (by rw[ea];omega)];simp
set_option maxHeartbeats 400000 in
theorem KL(H:lB ts)(aK:cz v):wt v<=1099511627776->∀t,dL ts false t v->k1 ts v t:=by
 induction aK with
 |mk v hs h1 G Q W K L dF O P aR aQ aP=>
  intro aO t m;have ap:cz v:= .mk v hs h1 G Q W K L dF O P aR;have aY:=iA v;have B:=λx aa t=>o0 H (K x aa) (by have:=e9 aa;omega) t;have aB:=λx aa t=>o0 H (W x aa) (by have:=e9 aa;omega) t;have w:=λx aa t=>aP x aa (by have:=e9 aa;omega) t;have au:=λx aa t=>aQ x aa (by have:=e9 aa;omega) t;have E:=o0 H ap aO t;obtain⟨⟨g1,g2,g3,_⟩,m⟩:=(hp _ _ _).1 m;obtain⟨j,rfl⟩:∃j:Nat,t=(j:Int):=⟨t.toNat,by omega⟩
  have V:j<ts.length:=by omega
  unfold k1;rw[kD,ag (aX V)];simp only[a7,ay,bo,ab.bN]at m g3⊢;have N:=bp V aM;have aN:=@pg ts (j:Int) v;have Z:=@q2 ts (j:Int) v;have ad:=@q3 ts (j:Int) v;have ae:=@q4 ts (j:Int) v;have M:=@sZ ts (j:Int) v;have ai:=@q5 ts (j:Int) v;have aj:=@q6 ts (j:Int) v;have ak:=@q7 ts (j:Int) v;have am:=@q8 ts (j:Int) v;simp only[bo]at aN Z ad ae M ai aj ak am;have R:=H.A _ N;have aH:=H.S _ N;have X:=eS (iR (H.T _ N).hP);generalize ts.getD j aM=x at*;rcases m with⟨k,c1,c2,c3,c4,c5,o⟩|⟨k,c1,c2,c3,c4,c5,o,p,u⟩|⟨k,c1,c2,c3,c4,c5,o,p⟩|⟨k,c1,c2,c3,c4,c5,o,p⟩|⟨k,c1,c2,c3,c4,c5,o,p⟩|⟨k,c1,c2,c3,c4,c5⟩|⟨k,c1,c2,c3,c4,c5,o,p,u⟩|⟨k,c1,c2,c3,c4,c5,o,p,u,ao,aW⟩|⟨k,c1,c2,c3,c4,c5,o,p,u⟩<;>rw[k]at g3<;>have g:=g3.symm;grind
  . rw[aq (by grind),ag (by grind),Z g,sw O];have aZ:=BS O;obtain⟨n,aL⟩:∃n:Nat,fZ v.bF=(n:Int):=⟨(fZ v.bF).toNat,by unfold fZ;grind⟩
    grind[Int.toNat_natCast,PQ]
  rw[aq (by simp[g]),aq (by simp[g]),ag (by simp[g]),ad g]
  . rw[aq (by simp[g]),aq (by simp[g]),aq (by simp[g]),ag (by simp[g]),ae g]
    obtain⟨n,aL⟩:∃n:Nat,v.ah=(n:Int):=⟨v.ah.toNat,by
     rcases p with⟨y,al,he⟩|⟨_,_,he⟩;have:=aH g y al;unfold cB at this;omega
     . unfold cB at he;omega⟩
    rw[aL,ig,PQ (by omega),fH];rfl
  rw[aq (by simp[g]),aq (by simp[g]),aq (by simp[g]),aq (by simp[g]),aq (by simp[g]),aq (by simp[g]),aq (by simp[g]),aq (by simp[g]),M g];obtain⟨C,aD⟩:=R (.inl g);obtain⟨az,aA⟩:=jR.1 p;rw[M g]at E;have Y:=abL (wW (ts:=ts) (l:=v.aw) C o) (λy al=>Ja C o al);have dw:(λn=>(fD ts x.af v.aw v.a6).filter λf=>(f.id=n:J))=zd ts x v:=rfl;rw[dw]at Y;rw[Y]at E⊢;have:=KK (ts:=ts) X C o az (λy al=>L y al) Q K B (λi ax=>w _ (bp (by omega) aI) _ (aA i ax)) 1000 1 [] (by omega) (by omega) (by simp only[pb];omega);have h0:pW ([],1,ts,v,x)=_:=this;rw[h0];rfl
  . rw[aq (by simp[g]),aq (by simp[g]),aq (by simp[g]),aq (by simp[g]),aq (by simp[g]),ag (by simp[g]),ai g];obtain⟨C,aD⟩:=R (.inr g);obtain⟨r,_,aV,m⟩:=nD (t:=x) v.ah X;rcases uT m with⟨e,q,an,aT,D,aU⟩|⟨e,D⟩
    . rw[D]at c5;rw[D];simp only at c5⊢;obtain⟨d1,d2,d3⟩:=c5;have s:=C.2 _ (bp an aF);rw[aU]at s;obtain⟨n,aL⟩:∃n:Nat,v.ah=(n:Int):=⟨v.ah.toNat,by unfold cB at s;omega⟩
      rw[aq (by simp[d1]),aV,aL,ig (by unfold cB at s;omega),AK (by unfold cB at s;omega)];simp only[ay];rw[aT,ag (aX an)]
      match s:v.aw,d2 with
      |[y],_=>
       have al:y∈v.aw:=by rw[s];exact .head _
       have z:aG 0 ([y]:I ab).length:=aX (k:=0) (by simp);have m:=dv.1 d3 y al;have eh:=w y al _ m;unfold k1 at eh;rw[ag z];simp only[bo,xN,qQ];rw[eh];have ar:=B y al (x.af.getD q aF).aC;have aJ:=kG (n:=n) (by rw[aL]at P;omega);simp only[ay];rw[ag (ha)];have F:bY ts (x.af.getD q aF).aC [y]=[bM ts (x.af.getD q aF).aC y]:=by rw[bY,bY]
       rw[F];rfl
    . rw[D]at c5;rw[D];simp only at c5⊢;obtain⟨d1,d2,d3,d4,d,d5⟩:=c5;obtain⟨n,aL⟩:∃n:Nat,v.ah=(n:Int):=⟨v.ah.toNat,by unfold cB at d3;omega⟩
      have U:=L ⟨v.ah,d⟩ (by rw[d5];exact .head _);simp only at U;unfold reachBytes at U;have aJ:=kG (n:=n) (by rw[aL]at P;omega);rw[d5,aL,jY,ig (by unfold cB at d3;omega),AK (by unfold cB at d3;omega)];simp only[ay];have z:aG 0 ([⟨(n:Int),d⟩]:I ct).length:=aX (k:=0) (by simp);rw[ag z];simp only[xN,qQ];rw[ag (ha)];rfl
  rw[aq (by simp[g]),aq (by simp[g]),aq (by simp[g]),aq (by simp[g]),aq (by simp[g]),aq (by simp[g]),ag (by simp[g])];have m:=dv.1 u;rw[aj g]at E⊢;have:=Qj (ts:=ts) (x:=x) (v:=v) (λy al=>by have:=B y al x.aE;omega) (λy al=>w y al x.aE (m y al)) G v.aw.length 0 [] (by omega) (by simp only[gk,pb];omega);have h0:tL ([],0,ts,v,x)=_:=this;rw[h0];rfl;rw[aq (by simp[g]),aq (by simp[g]),aq (by simp[g]),aq (by simp[g]),aq (by simp[g]),aq (by simp[g]),aq (by simp[g]),ag (by simp[g])];have m:=dv.1 ao;have av:=dv.1 u;rw[ak g]at E⊢;have:=Sd (ts:=ts) (x:=x) (v:=v) p (λy al=>by have:=B y al x.aE;omega) (λy al=>by have:=aB y al x.aS;omega) (λy al=>w y al x.aE (m y al)) (λy al=>au y al x.aS (av y al)) G v.aw.length 0 [] (by omega) (by simp only[gk,pb];omega);have h0:tM ([],0,ts,v,x)=_:=this;rw[h0];rfl
  . rw[aq (by simp[g]),aq (by simp[g]),aq (by simp[g]),aq (by simp[g]),ag (by simp[g]),am g];have m:=dv.1 u
    match s:v.aw,p with
    |[],_=>rw[jY,bY]
    |[y],_=>
     have al:y∈v.aw:=by rw[s];exact .head _
     have z:aG 0 ([y]:I ab).length:=aX (k:=0) (by simp);rw[cN,ag z];have eh:=w y al x.aE (m y al);unfold k1 at eh;simp only[xN,qQ];rw[eh];have ar:=B y al x.aE;simp only[ay];rw[ag (ha (by simp;omega))];have F:bY ts x.aE [y]=[bM ts x.aE y]:=by rw[bY,bY]
     rw[F];rfl
    |a::b::c,h=>simp at h
end
theorem dq.qY{a b:α}(h:fC o a b):dq o (a=b):=h
theorem GK{j k l:ai J}{f g i:Prop}(h1:dq j f)(d:dq k g)(e:dq l i):
 dq (j>>=λm=>(if m then k else some false)>>=λn=>some (bif m then n else false)>>=λt53=>(if t53 then l else some false)>>=λo=>some (bif t53 then o else false)) (f/\g/\i):=by
 obtain⟨a,rfl,h1⟩:=h1;obtain⟨b,rfl,d⟩:=d;obtain⟨c,rfl,e⟩:=e;rw[<-h1,<-d,<-e];cases a<;>cases b<;>cases c<;>exact⟨_,rfl,by simp⟩
theorem T5(h:dq o P):dq (o>>=λr=>some r) P:=by grind
def qI(b:J)(a:I aT):Prop:=(∀m,m∈a->pB b m=false)/\(b=false\/0<a.length)/\hY a/\(∀m,m∈a->nm m.aR)/\(a.map (·.aR)).Nodup/\a.length<=16
def BT(S:I de):Prop:=0<S.length/\(S.Pairwise (λa b=>a.ah<b.ah)/\∀y,y∈S->cB y.ah)/\(∀y,y∈S->nm y.aR)/\(S.map (·.aR)).Nodup/\S.length<=16
theorem adT{l:I au}:l.Nodup↔∀i,i<l.length->(l.take i).contains (l.getD i [])=false:=by
 grind[List.pairwise_iff_getElem,rY]
theorem Se(f:α->Int)(g:α->au)(d:α)(l:I α):(∀i,i<l.length->kM (l.map f) (l.map g) i)↔(l.Pairwise (λa b=>f a<f b)/\∀x,x∈l->cB (f x))/\(∀x,x∈l->nm (g x))/\(l.map g).Nodup:=by
 rw[Fv f d,adT];have key:∀i,i<l.length->(kM (l.map f) (l.map g) i↔cB (f (l.getD i d))/\(i=0\/f (l.getD (i-1) d)<f (l.getD i d))/\nm (g (l.getD i d))/\((l.map g).take i).contains ((l.map g).getD i [])=false):=by
  grind[kM,cB]
 constructor
 . intro h;refine⟨⟨λi c=>?_,λx aa=>?_⟩,λx aa=>?_,λi c=>?_⟩
   grind;grind[List.getElem_of_mem];grind[List.getElem_of_mem];grind
 . rintro ⟨⟨h1,j⟩,k,m⟩ i c
   refine(key i c).2 ⟨j _ (bp c d),?_,k _ (bp c d),m i (by grind)⟩;by_cases h0:i=0;omega;have e:i-1+1=i:=(by omega);grind
theorem PW{t:aj}(h:fT t):dq (uo t) ((∀m,m∈t.af->pB (t.ae=6:J) m=false)/\(t.ae=5\/0<t.af.length)/\hY t.af/\(∀m,m∈t.af->nm m.aR)/\(t.af.map (·.aR)).Nodup/\t.af.length<=16):=by
 obtain⟨r,h1,a⟩:=OX h;refine⟨r,h1,a.trans ?_⟩;rw[Se _ _ aF];grind[List.getElem_of_mem,hY]
theorem aek{l:I de}(ak:l.length*24<=reachBytes):dq (wS l) (BT l):=by
 obtain⟨r,h1,a⟩:=QW ak;refine⟨r,h1,a.trans ?_⟩;rw[Se _ _ ek];grind[BT]
def hG(t:aj):Prop:=
 (t.ae=1/\t.aR=[]/\t.bA=0/\t.bI=0/\t.Max=0/\t.bf=[]/\t.af=[]/\t.aS=0/\t.aE=0/\t.bt=false)\/
 (t.ae=2/\t.aR=[]/\t.bA<=t.bI/\t.Max=0/\t.bf=[]/\t.af=[]/\t.aS=0/\t.aE=0/\t.bt=false)\/
 (t.ae=3/\t.aR=[]/\t.bA=0/\t.bI=0/\(0<=t.Max/\t.Max<=200)/\t.bf=[]/\t.af=[]/\t.aS=0/\t.aE=0/\t.bt=false)\/
 (t.ae=4/\nm t.aR/\t.bA=0/\t.bI=0/\t.Max=0/\BT t.bf/\t.af=[]/\t.aS=0/\t.aE=0)\/
 (t.ae=5/\nm t.aR/\t.bA=0/\t.bI=0/\t.Max=0/\t.bf=[]/\qI false t.af/\t.aS=0/\t.aE=0/\t.bt=false)\/
 (t.ae=6/\nm t.aR/\t.bA=0/\t.bI=0/\t.Max=0/\t.bf=[]/\qI true t.af/\t.aS=0/\t.aE=0)\/
 (t.ae=7/\t.aR=[]/\t.bA=0/\t.bI=0/\(0<=t.Max/\t.Max<=50)/\t.bf=[]/\t.af=[]/\t.aS=0/\t.bt=false)\/
 (t.ae=8/\t.aR=[]/\t.bA=0/\t.bI=0/\(0<=t.Max/\t.Max<=50)/\t.bf=[]/\t.af=[]/\t.bt=false)\/
 (t.ae=9/\t.aR=[]/\t.bA=0/\t.bI=0/\t.Max=0/\t.bf=[]/\t.af=[]/\t.aS=0/\t.bt=false)
theorem ael{t:aj}(h:fT t):dq (ho t) (hG t):=by
 obtain⟨d,N,L,H,M,S,c,K,E,b⟩:=t;have aH:=h.syms;have e:=h.hP;have f:=h.iw;simp only at aH e f;by_cases bj:d=1
 . subst bj;have a:=jy (a:=(⟨0,N,L,H,M,S,c,K,E,b⟩:aj)) ⟨aH,e,f⟩ (⟨0,[],0,0,0,[],[],0,0,false⟩:aj);refine(T5 (dq.qY a)).imp ?_;unfold hG;simp
 by_cases bq:d=2
 . subst bq;have a:=jy (a:=(⟨0,N,0,0,M,S,c,K,E,b⟩:aj)) ⟨aH,e,f⟩ (⟨0,[],0,0,0,[],[],0,0,false⟩:aj);refine(vY (q:=(L<=H:J)) (Q:=L<=H) (by simp) (dq.qY a)).imp ?_;unfold hG;grind
 by_cases b4:d=3
 . subst b4;have a:=jy (a:=(⟨0,N,L,H,0,S,c,K,E,b⟩:aj)) ⟨aH,e,f⟩ (⟨0,[],0,0,0,[],[],0,0,false⟩:aj);refine(vY (Q:=0<=M/\M<=200) (by by_cases g:0<=M<;>simp[g]) (dq.qY a)).imp ?_;unfold hG;grind
 by_cases cv:d=4
 . subst cv;have a:=jy (a:=(⟨0,[],L,H,M,[],c,K,E,false⟩:aj)) ⟨by simp,e,f⟩ (⟨0,[],0,0,0,[],[],0,0,false⟩:aj);refine(GK (⟨nm N,uw N,Iff.rfl⟩:dq (la N) (nm N=true)) (aek aH) (dq.qY a)).imp (Q:=hG ⟨4,N,L,H,M,S,c,K,E,b⟩) ?_;unfold hG;grind
 by_cases cZ:d=5
 . subst cZ;have a:=jy (a:=(⟨0,[],L,H,M,S,[],K,E,bif b then ((5:Int)=5:J)else false⟩:aj)) ⟨aH,by simp,by simp⟩ (⟨0,[],0,0,0,[],[],0,0,false⟩:aj);refine(GK (⟨nm N,uw N,Iff.rfl⟩:dq (la N) (nm N=true)) (PW h) (dq.qY a)).imp ?_;unfold hG qI;grind
 by_cases c7:d=6
 . subst c7;have a:=jy (a:=(⟨0,[],L,H,M,S,[],K,E,bif b then ((6:Int)=5:J)else false⟩:aj)) ⟨aH,by simp,by simp⟩ (⟨0,[],0,0,0,[],[],0,0,false⟩:aj);refine(GK (⟨nm N,uw N,Iff.rfl⟩:dq (la N) (nm N=true)) (PW h) (dq.qY a)).imp (Q:=hG ⟨6,N,L,H,M,S,c,K,E,b⟩) ?_;unfold hG qI;grind
 by_cases fc:d=7
 . subst fc;have a:=jy (a:=(⟨0,N,L,H,0,S,c,K,0,b⟩:aj)) ⟨aH,e,f⟩ (⟨0,[],0,0,0,[],[],0,0,false⟩:aj);refine(vY (Q:=0<=M/\M<=50) (by by_cases g:0<=M<;>simp[g]) (dq.qY a)).imp (Q:=hG ⟨7,N,L,H,M,S,c,K,E,b⟩) ?_;unfold hG;grind
 by_cases eA:d=8
 . subst eA;have a:=jy (a:=(⟨0,N,L,H,0,S,c,0,0,b⟩:aj)) ⟨aH,e,f⟩ (⟨0,[],0,0,0,[],[],0,0,false⟩:aj);refine(vY (q:=bif (0<=M:J)then (M<=50:J)else false) (Q:=0<=M/\M<=50) (by by_cases g:0<=M<;>simp[g]) (dq.qY a)).imp (Q:=hG ⟨8,N,L,H,M,S,c,K,E,b⟩) ?_;unfold hG;grind
 by_cases fv:d=9
 . subst fv;have a:=jy (a:=(⟨0,N,L,H,M,S,c,K,0,b⟩:aj)) ⟨aH,e,f⟩ (⟨0,[],0,0,0,[],[],0,0,false⟩:aj);refine(T5 (dq.qY a)).imp (Q:=hG ⟨9,N,L,H,M,S,c,K,E,b⟩) ?_;unfold hG;simp
 refine⟨false,by simp[ho,bj,bq,b4,cv,cZ,c7,fc,eA,fv],?_⟩;unfold hG;grind
structure rh (ts:List aj):Prop where
 n:ts.length<=32
 F:∀t,t∈ts->hG t
 D:∀i,i<ts.length->(!((ts.getD i aM).aR=[]:Bool)&&((ts.map (·.aR)).take i).contains (ts.getD i aM).aR)=false
 U:∀t,t∈ts->∀u,u∈fB t->0<=u/\u<ts.length
 oa:∀t,t∈ts->t.ae=8->1<=(ts.getD t.aS.toNat aM).ae/\(ts.getD t.aS.toNat aM).ae<=4
theorem adU(dE:∀t,t∈ts->fT t){i:Nat}(a:i<ts.length):vz ts i=none↔hG (ts.getD i aM)/\(!((ts.getD i aM).aR=[]:J)&&((ts.map (·.aR)).take i).contains (ts.getD i aM).aR)=false/\(∀u,u∈fB (ts.getD i aM)->0<=u/\u<ts.length)/\
 ((ts.getD i aM).ae=8->1<=(ts.getD (ts.getD i aM).aS.toNat aM).ae/\(ts.getD (ts.getD i aM).aS.toNat aM).ae<=4):=by
 obtain⟨r,f1,f2⟩:=ael (dE _ (bp a aM));rw[Ld rfl f1];grind[List.any_eq_false,qU,zh]
theorem qc(dE:∀t,t∈ts->fT t)(h:rh ts):p8 (⟨ts⟩:aY)=some 0/\qA (⟨ts⟩:aY)=some 0:=by
 obtain⟨e,h1,c,_,b,_⟩:=adN (by have:=h.n;grind[reachBytes]) dE;have dw:=b ⟨h.n,λi a=>(adU dE a).2 ⟨h.F _ (bp a _),h.D i a,h.U _ (bp a _),h.oa _ (bp a _)⟩⟩;grind
theorem rh.ic(dE:∀t,t∈ts->fT t)(h:rh ts):lB ts:=by
 refine⟨by have:=h.n;omega,dE,λt ht=>?_,λt ht m c=>?_,λt ht e=>?_,λt ht e y al=>?_,h.oa⟩;have:=h.F t ht;grind[hG,lQ]
 . have:=h.F t ht;unfold hG at this;have:qI false t.af\/qI true t.af:=(by grind);rcases this with a|a
   exact(a.2.2.1.2 m c).2;exact(a.2.2.1.2 m c).2
 . have:=h.F t ht;unfold hG at this;have:qI false t.af\/qI true t.af:=(by grind);rcases this with a|a
   exact⟨a.2.2.1,a.2.2.2.2.2⟩;exact⟨a.2.2.1,a.2.2.2.2.2⟩
 have:=h.F t ht;unfold hG at this;have:BT t.bf:=(by grind);exact this.2.1.2 y al
theorem acd(aL:ts.length<9223372036854775807)(dE:∀t,t∈ts->fT t)(bS:∀t,t∈ts->lQ t.ae)(b:cz v)(t:Int):dq (qB ((⟨ts⟩:aY),t,v)) (dL ts true t v):=by
 obtain⟨r,h1,a⟩:=FP aL dE bS b t true;refine⟨r,?_,a⟩;rw[qB];simp only[ab.bN];rw[h1];rfl
def qJ(ts:I aj)(ms:I aT):Prop:=∀m,m∈ms->m.bO->dL ts true m.aC m.bC
theorem Sf{ts:I aj}(aL:ts.length<9223372036854775807)(dE:∀t,t∈ts->fT t)(bS:∀t,t∈ts->lQ t.ae){ms:I aT}(a:∀m,m∈ms->cz m.bC)(ak:ms.length<=reachBytes)(t2:Int):
 ∀(k i:Nat),i+k=ms.length->(oM (t2,ms,(i:Int),ts)=some (.inr (t2,ts))/\qJ ts (ms.drop i))\/(∃e,oM (t2,ms,(i:Int),ts)=some (.inl (t2,e,1))/\¬qJ ts (ms.drop i))
 |0,i,d=> .inl ⟨by rw [oM,eF],by
  rw[fA (by omega:ms.length<=i)]
  intro m a;cases a⟩
 |k+1,i,d=>by
  have aD:i<ms.length:=by omega
  have n:=eS ak;have f:=bp aD aF;obtain⟨r,g,j⟩:=acd aL dE bS (a _ f) (ms.getD i aF).aC;rw[oM,c',ag (aX aD)];simp only[a7,ay,bo,ab.bN];rw[ag (by rw[aX aD];rfl),ag (by rw[aX aD];rfl),g];have ih:=Sf aL dE bS a ak t2 k (i+1) (by omega);rw[fi aD aF];have c:qJ ts (ms.getD i aF::ms.drop (i+1))↔((ms.getD i aF).bO->dL ts true (ms.getD i aF).aC (ms.getD i aF).bC)/\qJ ts (ms.drop (i+1)):=by
   unfold qJ;constructor;intro h;exact⟨h _ (.head _),λm a=>h m (.tail _ a)⟩
   . rintro ⟨h1,b⟩ m a
     rcases fk.1 a with rfl|a;exact h1;exact b m a
  rw[c,<-j];cases l:(ms.getD i aF).bO with
  |false=>
   simp only[cm,cw,ay,eC];rw[bP];rcases ih with⟨h1,b⟩|⟨e,h1,b⟩;exact .inl ⟨h1,λh=>h.elim,b⟩;exact .inr ⟨e,h1,λh=>b h.2⟩
  |true=>
   cases r with
   |true=>
    simp only[cg,ay,fe,dX,cm,cw];rw[bP];rcases ih with⟨h1,b⟩|⟨e,h1,b⟩;exact .inl ⟨h1,λ_=>trivial,b⟩;exact .inr ⟨e,h1,λh=>b h.2⟩
   |false=>
    simp only[cg,ay,fe,fY];rw[ag (aX aD)];exact .inr ⟨_,rfl,λh=>absurd (h.1 trivial) (by simp)⟩
theorem Sg{ts:I aj}(aL:ts.length<9223372036854775807)(dE:∀t,t∈ts->fT t)(bS:∀t,t∈ts->lQ t.ae):
 ∀(k i:Nat),i+k=ts.length->(oo ((i:Int),ts)=some (.inr ())/\∀t,t∈ts.drop i->qJ ts t.af)\/(∃a e,oo ((i:Int),ts)=some (.inl (a,e,1))/\¬∀t,t∈ts.drop i->qJ ts t.af)
 |0,i,d=>.inl ⟨by rw[oo,eF],by grind⟩
 |k+1,i,d=>by
  have aD:i<ts.length:=by omega
  have ht:=dE _ (bp aD aM);have h0:=Sf aL dE bS ht.iw (iR ht.hP) (i:Int) (ts.getD i aM).af.length 0 (by omega);simp only[gk]at h0;have ih:=Sg aL dE bS k (i+1) (by omega);rw[fi aD aM,oo,c',ag (aX aD)];simp only[bo];rcases h0 with⟨h1,c⟩|⟨e,h1,c⟩
  . have b:oM ((i:Int),(ts.getD i aM).af,0,ts)=_:=h1;rw[b];simp only[a7,ay];rw[bP];rcases ih with⟨g1,g2⟩|⟨a,e,g1,g2⟩
    . refine .inl ⟨g1,λt ht=>?_⟩;rcases fk.1 ht with rfl|ht
      exact c;exact g2 t ht
    exact .inr ⟨a,e,g1,λh=>g2 λt ht=>h t (.tail _ ht)⟩
  have b:oM ((i:Int),(ts.getD i aM).af,0,ts)=_:=h1;rw[b];exact .inr ⟨_,_,rfl,λh=>c (h _ (.head _))⟩
theorem adV{s:aY}(aL:s.bk.length<=reachBytes)(dE:∀t,t∈s.bk->fT t){e:Int}(d:qA s=some e)(he:e=0->rh s.bk):∃r,DN s=some r/\(e=0->(r.2.2=0↔∀t,t∈s.bk->qJ s.bk t.af)):=by
 rw[DN,d];simp only[a7,ay];by_cases h0:e=0
 . have jX:=he h0;have aH:=jX.ic dE;rw[aq (by simp[h0])];have:=Sg (by have:=jX.n;omega) dE aH.K s.bk.length 0 (by omega);simp only[gk]at this;rcases this with⟨h1,c⟩|⟨a,f,h1,c⟩
   have b:oo (0,s.bk)=_:=h1;rw[b];exact⟨_,rfl,λ_=>⟨λ_=>c,λ_=>rfl⟩⟩;have b:oo (0,s.bk)=_:=h1;rw[b];exact⟨_,rfl,λ_=>⟨λh=>absurd h (by simp),λh=>absurd h c⟩⟩
 rw[ag (by simp[h0])];exact⟨_,rfl,λh=>absurd h h0⟩
theorem ahY{t u:aO}{r:I aO}{h:a8 cP.D (t::u::r)}(b:Ok cP (t::u::r) h):∀d,d∈t.row cP h.1->WF cP d:=λd a=>b ⟨t,h.1⟩ (HH ..) d a
theorem ahl(H:lB ts)(b:cz v)(c:wt v<=1099511627776)(a:dL ts false t v):
 kB (t,v,1,ts,0)=some (bM ts t v,ts,((eW ts t v:Nat):Int)):=by
 have h:=ahk H b c t a 1 0 (by omega) (by omega);have ar:=u6 (ts:=ts) t v;have e:max 0 (1+eW ts t v-1)=eW ts t v:=by omega
 rw[e]at h;exact h
noncomputable def tz (ts:I aj)(t:Int)(v:ab):au×Int:=
 if 4096<(bM ts t v).length\/200<eW ts t v then([],3)else(bM ts t v,0)
abbrev gw:=dV
abbrev fr:=bK
abbrev ait:=jt
theorem C9{a:Int}(h:¬a=0):(!(a=0:J)):=by grind
theorem iI{x m:Int}(h:0<=x:=by omega)(a:0<=m:=by omega):cn x m=x%m:=by grind[cn]
theorem ahZ{x:Int}(h:0<=x)(a:x<=255):fR .u8 x 4=x/4:=by
 grind[fR,IntKind.wrap_u8]
theorem lS{x:Int}(h:eE x):b7 .i64 x=x:=by
 grind[b7,eE,IntKind.wrap_i64]
theorem T6{k:Int}(h:0<=k/\k<=25):oX (b7 .i32 (aQ .i64 97 k))=[UInt8.ofNat (97+k.toNat)]:=by
 have key:∀k:Nat,k<26->oX (b7 .i32 (aQ .i64 97 k))=[UInt8.ofNat (97+k)]:=by decide+kernel
 grind
theorem ah0{k:Int}(h:0<=k/\k<=25):oX (b7 .i32 (aQ .i64 65 k))=[UInt8.ofNat (65+k.toNat)]:=by
 have key:∀k:Nat,k<26->oX (b7 .i32 (aQ .i64 65 k))=[UInt8.ofNat (65+k)]:=by decide+kernel
 grind
theorem O5{s:au}(h0:s≠[])(ak:s.length<=24)(h:∀i:Nat,i<s.length->qh (gC s i)):nm s:=by
 have key:∀k i,i+k=s.length->mB (s,s.length,i)=some (.inr ()):=by
  intro k;induction k with
  |zero=>simp_all[mB]
  |succ k ih=>
   intro i b;rw[mB,ag (by grind),ag (fP),ES,h i (by omega)];simp only[a7,ay];rw[jY,bP];exact ih _ (by omega)
 have a:=qP.2 h0;have c:=aX a;have d:=key s.length 0 (by simp);grind[nm,la,ES]
theorem ah1{c:Nat}(h:65<=c/\c<=90\/97<=c/\c<=122):nm [UInt8.ofNat c]:=by
 grind[O5,sD,nz,qh]
theorem T7{b c:Nat}(a:97<=b/\b<=122)(h:97<=c/\c<=122):nm [UInt8.ofNat b,UInt8.ofNat c]:=by
 grind[O5,sD,nz,qh]
def dS(x:Int):Prop:=0<=x/\x<=255
structure pw (x:gw):Prop where
 k:dS x.ae
 a:dS x.A
 b:dS x.B
 c:dS x.C
 p:∀q,q∈x.dp->dS q.ah/\dS q.aC/\dS q.hV
 l:x.dp.length<=reachBytes
def eP(aP:I gw)(i:Int):Int:=1+(aP.getD i.toNat fr).ae%9
section
variable {aP:I gw}(cM:∀x,x∈aP->pw x)(bu:aP.length<=5)
include cM bu in
theorem sy{i:Int}(h0:0<=i)(h1:i<aP.length):rQ ((⟨aP⟩:eN),i)=some (eP aP i)/\1<=eP aP i/\eP aP i<=9:=by
 obtain⟨j,rfl⟩:∃j:Nat,i=j:=⟨i.toNat,by omega⟩;have aa:=(cM _ (bp (by omega:j<aP.length) fr)).k;unfold eP;obtain⟨a,b⟩:=aa;refine⟨?_,by omega,by omega⟩;rw[rQ,ag (aX (by omega:j<aP.length)),bo,iI a (by simp),lS ⟨by omega,by omega⟩,k4]
def GJ(aP:I gw)(i u:Int):Prop:=0<=u/\u<aP.length/\(7<=eP aP u\/u<i)
include cM bu in
theorem PX:∀(k i:Nat),i+k=aP.length->ou ((aP.length:Int),(i:Int),aP)=some (.inr ())\/∃u:Int,ou ((aP.length:Int),(i:Int),aP)=some (.inl u)/\0<=u/\u<aP.length/\7<=eP aP u
 |0,i,a=>.inl (by grind[ou])
 |k+1,i,a=>by
  obtain⟨e,_,_⟩:=sy cM bu (i:=i) (by simp) (by omega);rw[ou,ag (by grind),e];simp[zO];by_cases b:7<=eP aP i;grind;rw[aq (by grind),bP];exact PX k _ (by omega)
include cM bu in
theorem aem(h1:1<=aP.length){i:Int}(l:0<=i/\i<aP.length)(j:dS code):∃u,zP ((⟨aP⟩:eN),i,code)=some u/\(u<0\/GJ aP i u):=by
 have k:b7 .i64 code=code:=lS ⟨by grind[dS],by grind[dS]⟩;obtain⟨c1,c2⟩:=j;have d:0<=code%(aP.length:Int):=nU _ (by omega);have f:code%aP.length<aP.length:=nR _ (by omega);rw[zP];simp only[a7,ay];rw[ag (C9 (by omega)),k,iI c1 (by simp)];obtain⟨e,_,_⟩:=sy cM bu d f;rw[e];simp only[ay,zO];by_cases g:7<=eP aP (code%aP.length);rw[ag (by grind)];exact⟨_,rfl,.inr ⟨d,f,.inl g⟩⟩
 . by_cases aD:code%aP.length<i
   rw[ag (by grind)];exact⟨_,rfl,.inr ⟨d,f,.inr aD⟩⟩
   . rw[aq (by grind)];by_cases ar:0<i
     rw[ag (by grind),ag (by grind),iI d];have a0:0<=code%aP.length%i:=nU _ (by omega);have a1:code%(aP.length:Int)%i<i:=nR _ (by omega);exact⟨_,rfl,.inr ⟨a0,by omega,.inr a1⟩⟩
     . rw[aq (by grind)];have h0:=PX cM bu aP.length 0 (by simp);have dw:ou (aP.length,(0:Nat),aP)=ou ((aP.length:Int),0,aP):=rfl;rw[dw]at h0;rcases h0 with h|⟨u,h,a,b,c⟩
       grind;rw[h];exact⟨u,rfl,.inr ⟨a,b,.inl c⟩⟩
def pt(aP:I gw)(u:Int):Prop:=0<=u/\u<aP.length/\1<=eP aP u/\eP aP u<=4
include cM bu in
theorem Tq{code:Int}(g:dS code)(h1:1<=aP.length):∀(k i:Nat),i+k=aP.length->(oB (code,(aP.length:Int),(i:Int),aP)=some (.inr ())/\∀m:Nat,i<=m->m<aP.length->¬pt aP ((code+m)%(aP.length:Int)))\/∃u:Int,oB (code,(aP.length:Int),(i:Int),aP)=some (.inl u)/\pt aP u
 |0,i,j=>.inl ⟨by simp_all[oB],λm a b=>by omega⟩
 |k+1,i,j=>by
  obtain⟨c1,c2⟩:=g;have c:0<=(code+i)%aP.length:=nU _ (by omega);have d:(code+i)%aP.length<aP.length:=nR _ (by omega);obtain⟨e,aK,l⟩:=sy cM bu c d;rw[oB,ag (by grind),ag (C9 (by omega)),lS ⟨by omega,by omega⟩,k4,iI (by omega) (by simp)];simp;rw[e];simp only[ay,Ak];by_cases f:eP aP ((code+i)%aP.length)<=4;rw[ag (by grind)];exact .inr ⟨_,rfl,c,d,aK,f⟩
  . rw[aq (by grind),bP];rcases Tq ⟨c1,c2⟩ h1 k (i+1) (by omega)with⟨a,b⟩|h
    . refine .inl ⟨a,λm o p=>?_⟩;by_cases n:m=i
      rintro ⟨_,_,_,h⟩;grind;grind
    grind
include cM bu in
theorem Tr(b:dS code)(h1:1<=aP.length):∃u,uk ((⟨aP⟩:eN),code)=some u/\((u= -1/\∀w,¬pt aP w)\/pt aP u):=by
 rw[uk];have h0:=Tq cM bu b h1 aP.length 0 (by simp);have dw:oB (code,aP.length,(0:Nat),aP)=oB (code,(aP.length:Int),0,aP):=rfl;rw[dw]at h0;rcases h0 with⟨h,a⟩|⟨u,h,a⟩
 . rw[h];refine⟨-1,rfl,.inl ⟨rfl,λw c=>?_⟩⟩;have d:=c;obtain⟨kV,i,_⟩:=d;have f:0<=(w-code)%aP.length:=nU _ (by omega);have g:(w-code)%aP.length<aP.length:=nR _ (by omega);have e:(code+((w-code)%(aP.length:Int)).toNat)%aP.length=w:=by
    grind[Int.add_emod_emod,Int.emod_eq_of_lt]
   grind
 grind
theorem K'{x:gw}(h:pw x):qC x=some (x.A%7-3):=by
 have:=h.a;rw[qC,iI this.1 (by simp),lS ⟨by omega,by omega⟩,lE]
theorem Sh{x:gw}(h:pw x):ub x=some (x.A%7-3+x.B%6):=by
 have a:=h.b;rw[ub,K' h];simp;rw[iI a.1 (by simp),lS ⟨by omega,by omega⟩,k4]
def vQ(l:az)(n:Int):Prop:=l.Pairwise (· < ·)/\∀x,x∈l->1<=x/\x<=n
theorem Gn{x:gw}:∀(k i:Nat) (acc:az),i+k=6->vQ acc i->acc.length<=i->∃l,qw ((i:Int),x,acc)=some l/\vQ l 6/\l.length<=6
 |0,i,acc,e,c,ak=>⟨acc,by simp_all[qw,aq],⟨c.1,λy al=>by have:=c.2 y al;omega⟩,by omega⟩
 |k+1,i,acc,e,c,ak=>by
  have d:vQ acc (i+1:Int):=⟨c.1,λy al=>by have:=c.2 y al;omega⟩;rw[qw,ag (by grind),ag (by rfl)];simp only[a7,ay];rw[bP];split
  . rw[ag (dQ (by simp) (by grind))];refine Gn k (i+1) _ (by omega) ⟨?_,λy al=>?_⟩ (by grind)
    rw[HD];refine⟨c.1,by simp,λa h1 b f=>?_⟩;have:=c.2 a h1;grind
    . rcases gj.1 al with h|h
      have:=c.2 y h;omega;grind
  exact Gn k _ _ (by omega) d (by omega)
theorem ah2(x:gw):∃l,oG x=some l/\vQ l 6/\1<=l.length/\l.length<=6:=by
 obtain⟨l,h1,c,d⟩:=Gn 6 0 [] (by rfl) ⟨.nil,λy al=>by grind⟩ (by simp);have b:qw (0,x,[])=some l:=h1;rw[oG,b];cases l with
 |nil=>
  exact⟨_,rfl,⟨by simp,λy al=>by grind⟩,by simp,by simp⟩
 |cons a l=>grind
def kN(x:gw):az:=(oG x).getD []
theorem wx(x:gw):oG x=some (kN x)/\vQ (kN x) 6/\1<=(kN x).length/\(kN x).length<=6:=by
 obtain⟨l,h1,a⟩:=ah2 x;grind[kN]
def mZ(k:Int)(x:gw)(key:Prop)(v:ab):Prop:=
 v.a'=[]/\v.aw=[]/\v.a6=[]/\
 (k=1/\v.ae=1/\v.bF=0/\v.bW=[]/\v.ah=0\/
  k=2/\v.ae=2/\v.cp=false/\v.bW=[]/\v.ah=0/\x.A%7-3<=v.bF/\v.bF<=x.A%7-3+x.B%6\/
  k=3/\v.ae=3/\v.cp=false/\v.bF=0/\v.ah=0/\(v.bW.length:Int)<=x.A%4\/
  k=4/\v.ae=4/\v.cp=false/\v.bF=0/\v.bW=[]/\v.ah∈kN x\/
  7<=k/\v.cp=false/\v.bF=0/\v.bW=[]/\v.ah=0/\(v.ae=k/\(k=8->key)\/k=8/\v.ae=7/\¬key))
def Init(aP:I gw)(t:Int)(v:ab):Prop:=mZ (eP aP t) (aP.getD t.toNat fr) (∃w,pt aP w) v
include cM bu in
theorem adW(h1:1<=aP.length)(ht:0<=t/\t<aP.length)(l:dS code):∃r,Al ((⟨aP⟩:eN),t,code)=some r/\(r.2=false->r.1=aI)/\(r.2->Init aP t r.1):=by
 obtain⟨j,rfl⟩:∃j:Nat,t=(j:Int):=⟨t.toNat,by omega⟩
 have c:j<aP.length:=by omega
 have aa:=cM _ (bp c fr);obtain⟨e,bj,fv⟩:=sy cM bu ht.1 ht.2;obtain⟨u,s,v⟩:=Tr cM bu (code:=0) ⟨by simp,by simp⟩ h1;obtain⟨c1,c2⟩:=l;rw[Al,ag (aX c)];simp only[a7,ay,bo];rw[e];unfold Init;simp only[bo];have o:=wx (aP.getD j fr);generalize eP aP (j:Int)=k at*;generalize aP.getD j fr=x at*;have i:=aa.a;have E:=aa.b;have m:k=1\/k=2\/k=3\/k=4\/k=5\/k=6\/k=7\/k=8\/k=9:=by omega
 rcases m with rfl|rfl|rfl|rfl|rfl|rfl|rfl|rfl|rfl;exact⟨_,rfl,λh=>(by cases h),λ_=>by unfold mZ;simp⟩
 . have el:=K' aa;have f:=Sh aa;have aK:aQ .i64 (dG .i64 (x.A%7-3+x.B%6) (x.A%7-3)) 1=x.B%6+1:=by rw[lE,k4];omega
   have d:cn (b7 .i64 code) (x.B%6+1)=code%(x.B%6+1):=by rw[lS ⟨by omega,by omega⟩,iI c1]
   have C:0<=code%(x.B%6+1):=nU _ (by omega);have D:code%(x.B%6+1)<x.B%6+1:=nR _ (by omega);have dB:aQ .i64 (x.A%7-3) (code%(x.B%6+1))=x.A%7-3+code%(x.B%6+1):=k4;simp only[Int.reduceEq,dz,di,cm,cw,cg,ay,eC,fe];rw[el];rw[f];simp only[ay];rw[aK,c',d,dB];exact⟨_,rfl,λh=>(by cases h),λ_=>by unfold mZ;simp;omega⟩
 . simp only[Int.reduceEq,dz,di,cm,cw,cg,ay,eC,fe];rw[iI i.1,iI c1];by_cases g:0<x.A%4
   . by_cases g2:code%2=1
     rw[ag (by simp[g,g2])];exact⟨_,rfl,λh=>(by cases h),λ_=>by unfold mZ;simp;omega⟩;rw[aq (by simp[g2])];exact⟨_,rfl,λh=>(by cases h),λ_=>by unfold mZ;simp;omega⟩
   rw[aq (by simp[g])];exact⟨_,rfl,λh=>(by cases h),λ_=>by unfold mZ;simp;omega⟩
 . obtain⟨z,F,G,H⟩:=o;simp only[Int.reduceEq,dz,di,cm,cw,cg,ay,eC,fe];rw[z];simp only[a7,ay];have C:0<=code%((kN x).length:Int):=nU _ (by omega);have D:code%((kN x).length:Int)<((kN x).length:Int):=nR _ (by omega);rw[ag (C9 (by omega)),lS ⟨by omega,by omega⟩,iI c1];obtain⟨q,p⟩:∃q:Nat,code%((kN x).length:Int)=(q:Int):=⟨(code%((kN x).length:Int)).toNat,by omega⟩
   rw[p,ag (fP),bo];exact⟨_,rfl,λh=>(by cases h),λ_=>by unfold mZ;simp;rw[<-Hq];exact bp (by omega) 0⟩
 exact⟨_,rfl,λ_=>rfl,λh=>by cases h⟩;exact⟨_,rfl,λ_=>rfl,λh=>by cases h⟩;exact⟨_,rfl,λh=>(by cases h),λ_=>by unfold mZ;simp⟩
 . simp only[Int.reduceEq,dz,di,cm,cw,cg,ay,eC,fe];rw[s];rcases v with⟨rfl,a⟩|a
   exact⟨_,rfl,λh=>(by cases h),λ_=>by unfold mZ;simp;exactλw y=>a w y⟩
   . have n:¬u<0:=by have:=a.1;omega
     simp only[a7,ay];rw[aq (by simp[n])];exact⟨_,rfl,λh=>(by cases h),λ_=>by unfold mZ;simp;exact⟨u,a⟩⟩
 exact⟨_,rfl,λh=>(by cases h),λ_=>by unfold mZ;simp⟩
structure vS (aP:List gw)(i:Int)(record:Bool)(m:aT):Prop where
 id:1<=m.ah/\m.ah<=12
 name:m.aR=[UInt8.ofNat 109,UInt8.ofNat (97+m.ah.toNat)]
 sX:GJ aP i m.aC
 fq:m.bV->m.bO=false
 un:record=false->m.bV=false/\m.bO=false
 Wg:m.bO=false->m.bC=aI
 kH:m.bO->Init aP m.aC m.bC
include cM bu in
theorem Qk(h1:1<=aP.length){i:Int}(e:0<=i/\i<aP.length){x:gw}(aa:pw x)(record:J){id:Int}(hid:1<=id/\id<=12){acc:I aT}(n:acc.length<=12):
 ∀(k j:Nat),j+k=x.dp.length->∃l,r9 (i,record,id,(j:Int),aP,x,acc)=some (i,record,id,aP,x,acc++l)/\l.length<=1/\∀m,m∈l->m.ah=id/\vS aP i record m
 |0,j,o=>⟨[],by rw[r9,eF];simp,by simp,λm q=>by cases q⟩
 |k+1,j,o=>by
  have aD:j<x.dp.length:=by omega
  have H:=eS aa.l;obtain⟨z,A,B⟩:=aa.p _ (bp aD ait);obtain⟨u,v,K⟩:=aem cM bu h1 e A;rw[r9,c',ag (aX aD)];simp only[a7,ay,bo];have w:zP ((⟨aP⟩:eN),i,(x.dp.getD j jt).aC)=some u:=v;rw[w];simp only[ay];generalize ar:x.dp.getD j jt=p;have L:dS p.ah:=by rw[<-ar];exact z
  have C:dS p.hV:=by rw[<-ar];exact B
  obtain⟨f1,f2⟩:=C;have aK:cn p.hV 4=p.hV%4:=iI f1;have g:fR .u8 p.hV 4=p.hV/4:=ahZ f1 f2;have G:=Qk h1 e aa record hid n k (j+1) (by omega);by_cases f:(bif (!(aQ .i64 1 (b7 .i64 (cn p.ah 12))=id:J))then true else (u<0:J))=true;rw[ag f,bP];exact G
  . rw[aq f];have c:GJ aP i u:=(by grind);have t:=T6 (k:=id) ⟨by omega,by omega⟩;rw[t];have s:([109]++[UInt8.ofNat (97+id.toNat)]:au)=[UInt8.ofNat 109,UInt8.ofNat (97+id.toNat)]:=rfl;rw[ag (ha (by simp)),s,aK,g];obtain⟨r,D,E,F⟩:=adW cM bu h1 ⟨c.1,c.2.1⟩ (code:=p.hV/4) ⟨by omega,by omega⟩;have d:∀m:aT,bR 160 (acc++[m]).length=true:=λm=>dQ;have done:∀m:aT,m.ah=id->vS aP i record m->∃l,(some (i,record,id,aP,x,acc++[m]):ai (Int×J×Int×I gw×gw×I aT))=some (i,record,id,aP,x,acc++l)/\l.length<=1/\∀m,m∈l->m.ah=id/\vS aP i record m:=λm a b=>⟨[m],rfl,by simp,λy al=>by grind⟩
    cases record with
    |false=>
     simp only[eC,cm,cw];rw[ag (d _)];exact done _ rfl ⟨hid,rfl,c,λh=>(by cases h),λ_=>⟨rfl,rfl⟩,λ_=>rfl,λh=>by cases h⟩
    |true=>
     simp only[fe];by_cases g1:p.hV%4=1
     . rw[ag (by simpa using g1),eF,ag (d _)];exact done _ rfl ⟨hid,rfl,c,λ_=>rfl,λh=>(by cases h),λ_=>rfl,λh=>by cases h⟩
     . rw[aq (by simpa using g1)];by_cases g2:2<=p.hV%4
       . rw[ag (by simpa using g2),D];simp only[ay,ab.bN];rw[ag (d _)];exact done _ rfl ⟨hid,rfl,c,λh=>(by cases h),λh=>(by cases h),E,F⟩
       . rw[aq (by simpa using g2),ag (d _)];exact done _ rfl ⟨hid,rfl,c,λh=>(by cases h),λh=>(by cases h),λ_=>rfl,λh=>by cases h⟩
def vT(aP:I gw)(i:Int)(record:J)(l:I aT):Prop:=l.Pairwise (λa b=>a.ah<b.ah)/\(∀m,m∈l->vS aP i record m)/\l.length<=12
include cM bu in
theorem Ql(h1:1<=aP.length){i:Int}(f:0<=i/\i<aP.length){x:gw}(aa:pw x)(record:J):∀(k id:Nat) (acc:I aT),id+k=13->1<=id->
 acc.Pairwise (λa b=>a.ah<b.ah)->(∀m,m∈acc->vS aP i record m/\m.ah<id)->acc.length<id->∃l,sf (i,record,(id:Int),aP,x,acc)=some l/\vT aP i record l
 |0,id,acc,j,h0,d,e,ak=>⟨acc,by rw[sf,eF],d,λm g=>(e m g).1,by omega⟩
 |k+1,id,acc,j,h0,d,e,ak=>by
  rw[sf,c'];obtain⟨l,n,l2,r⟩:=Qk cM bu h1 f aa record (id:=(id:Int)) ⟨by omega,by omega⟩ (acc:=acc) (by omega) x.dp.length 0 (by omega);have o:r9 (i,record,(id:Int),0,aP,x,acc)=_:=n;rw[o];simp only[a7,ay];rw[bP];refine Ql h1 f aa record k (id+1) _ (by omega) (by omega) ?_ (λm g=>?_) (by simp;omega)
  . rw[HD];refine⟨d,?_,λa p b q=>?_⟩
    . match l,l2 with
      |[],_=>exact .nil
      |[a],_=>simp
      |a::b::c,h=>simp at h
    grind
  grind
include cM bu in
theorem Qm(h1:1<=aP.length){i:Int}(b:0<=i/\i<aP.length)(record:J):∃l,uG ((⟨aP⟩:eN),i,record)=some l/\vT aP i record l:=by
 obtain⟨j,rfl⟩:∃j:Nat,i=(j:Int):=⟨i.toNat,by omega⟩
 have a:j<aP.length:=by omega
 have aa:=cM _ (bp a fr);obtain⟨l,d,l2⟩:=Ql cM bu h1 b aa record 12 1 [] (by omega) (by omega) .nil (λm c=>by cases c) (by simp);refine⟨l,?_,l2⟩;have e:sf ((j:Int),record,1,aP,aP.getD j fr,[])=some l:=d;rw[uG,ag (aX a),bo];grind
def q0(l:az):I de:=l.map λj=>⟨j,[UInt8.ofNat 115,UInt8.ofNat (97+j.toNat)]⟩
theorem Si{l:az}(ak:l.length<=6)(o:∀x,x∈l->1<=x/\x<=6)(n i:Int)(b:I gw)(b1:Int)(b2:au)(a c d e f:Int)(g:J)(m:I aj):∀(k j:Nat) (acc:I de),j+k=l.length->acc.length<=j->
 p4 (n,i,l,(j:Int),b,b1,b2,a,c,d,e,f,g,m,acc)=some (n,i,b,b1,b2,a,c,d,e,f,g,m,acc++q0 (l.drop j))
 |0,j,acc,q,p=>by
  rw[p4,eF,fA (by omega:l.length<=j)];simp[q0]
 |k+1,j,acc,q,p=>by
  have aD:j<l.length:=by omega
  have aa:=o _ (bp aD 0);rw[p4,c',ag (aX aD),ag (aX aD)];simp only[a7,ay,bo];rw[T6 ⟨by omega,by omega⟩,ag (ha (by simp)),ag (dQ),bP,Si ak o n i b b1 b2 a c d e f g m k (j+1) _ (by omega) (by simp;omega),fi aD 0];simp[q0]
def gz(aP:I gw)(i:Int)(t:aj):Prop:=
 let x:=aP.getD i.toNat fr;let n:=(aP.length:Int)
 let a:=[UInt8.ofNat (65+i.toNat)]
 (eP aP i=1/\t=⟨1,[],0,0,0,[],[],0,0,false⟩)\/
 (eP aP i=2/\t=⟨2,[],x.A%7-3,x.A%7-3+x.B%6,0,[],[],0,0,false⟩)\/
 (eP aP i=3/\t=⟨3,[],0,0,x.A%4,[],[],0,0,false⟩)\/
 (eP aP i=4/\∃o,t=⟨4,a,0,0,0,q0 (kN x),[],0,0,o⟩)\/
 (eP aP i=5/\∃l,vT aP i true l/\t=⟨5,a,0,0,0,[],l,0,0,false⟩)\/
 (eP aP i=6/\t=⟨5,a,0,0,0,[],[],0,0,false⟩)\/
 (eP aP i=6/\∃l o,vT aP i false l/\0<l.length/\t=⟨6,a,0,0,0,[],l,0,0,o⟩)\/
 (eP aP i=7/\t=⟨7,[],0,0,x.A%4,[],[],0,x.C%n,false⟩)\/
 (eP aP i=8/\(∀w,¬pt aP w)/\t=⟨7,[],0,0,x.A%4,[],[],0,x.C%n,false⟩)\/
 (eP aP i=8/\∃k,pt aP k/\t=⟨8,[],0,0,x.A%4,[],[],k,x.C%n,false⟩)\/
 (eP aP i=9/\t=⟨9,[],0,0,0,[],[],0,x.C%n,false⟩)
include cM bu in
theorem Wk(h1:1<=aP.length):∀(k i:Nat) (acc:I aj),i+k=aP.length->acc.length=i->(∀j,j<i->gz aP (j:Int) (acc.getD j aM))->
 ∃l,gN ((aP.length:Int),(i:Int),aP,acc)=some l/\l.length=aP.length/\∀j,j<aP.length->gz aP (j:Int) (l.getD j aM)
 |0,i,acc,D,ak,v=>⟨acc,by rw[gN,eF],by omega,λj E=>v j (by omega)⟩
 |k+1,i,acc,D,ak,v=>by
  have aD:i<aP.length:=by omega
  have aa:=cM _ (bp aD fr);obtain⟨e,bj,fv⟩:=sy cM bu (i:=(i:Int)) (by omega) (by omega);have next:∀t:aj,gz aP (i:Int) t->∃l,(if bR 120 (acc++[t]).length then gN ((aP.length:Int),aQ .i64 (i:Int) 1,aP,acc++[t])else none)=some l/\l.length=aP.length/\∀j,j<aP.length->gz aP (j:Int) (l.getD j aM):=by
   intro t ht;rw[ag (dQ),bP];refine Wk h1 k (i+1) _ (by omega) (by simp;omega) λj E=>?_;grind
  rw[gN,c',ag (aX aD)];simp only[a7,ay,bo];rw[e];simp only[ay,kE];have p:=ah0 (k:=(i:Int)) ⟨by omega,by omega⟩;have dE:∀t,gz aP (i:Int) t->gz aP (i:Int) t:=λt h=>h;have⟨r,e0,s⟩:dS (aP.getD i fr).A/\dS (aP.getD i fr).B/\dS (aP.getD i fr).C:=⟨aa.a,aa.b,aa.c⟩
  have m:(!((aP.length:Int)=0:J)):=C9 (by omega);have n:b7 .i64 (cn (aP.getD i fr).A 4)=(aP.getD i fr).A%4:=by
   unfold dS at r;rw[iI r.1,lS ⟨by omega,by omega⟩]
  have o:cn (b7 .i64 (aP.getD i fr).C) (aP.length:Int)=(aP.getD i fr).C%(aP.length:Int):=by
   unfold dS at s;rw[lS ⟨by omega,by omega⟩,iI s.1]
  have z:eP aP (i:Int)=1\/eP aP (i:Int)=2\/eP aP (i:Int)=3\/eP aP (i:Int)=4\/eP aP (i:Int)=5\/eP aP (i:Int)=6\/eP aP (i:Int)=7\/eP aP (i:Int)=8\/eP aP (i:Int)=9:=by omega
  rcases z with d|d|d|d|d|d|d|d|d<;>rw[d] <;>
   simp only[Int.reduceEq,dz,di,cm,cw,cg,ay,eC,fe]
  . exact next _ (by unfold gz;simp[d])
  . have el:=K' aa;have w:=Sh aa;have y:qC (aP.getD i bK)=_:=el;have x:ub (aP.getD i bK)=_:=w;rw[y];simp only[ay];rw[x];simp only[ay];exact next _ (by unfold gz;simp only[bo];exact .inr (.inl ⟨d,by first|trivial|rfl⟩))
  . have f:b7 .i64 (cn (aP.getD i bK).A 4)=_:=n;rw[f];exact next _ (by unfold gz;simp only[bo];exact .inr (.inr (.inl ⟨d,by first|trivial|rfl⟩)))
  . obtain⟨G,K,P,L⟩:=wx (aP.getD i fr);have H:oG (aP.getD i bK)=_:=G;rw[H];simp only[ay];have hs:=Si (l:=kN (aP.getD i fr)) L K.2 (aP.length:Int) (i:Int) aP 4 (oX (b7 .i32 (aQ .i64 65 (i:Int)))) 0 0 0 0 0 (cn (aP.getD i fr).B 2=1:J) acc (kN (aP.getD i fr)).length 0 [] (by omega) (by simp);have F:p4 ((aP.length:Int),(i:Int),kN (aP.getD i fr),0,aP,4,oX (b7 .i32 (aQ .i64 65 (i:Int))),0,0,0,0,0,(cn (aP.getD i bK).B 2=1:J),acc,[])=_:=hs;rw[F];simp only[ay,gk,iY];rw[p];exact next _ (by unfold gz;simp only[bo];exact .inr (.inr (.inr (.inl ⟨d,_,rfl⟩))))
  . obtain⟨l,q,l2⟩:=Qm cM bu h1 (i:=(i:Int)) ⟨by omega,by omega⟩ true;rw[q];simp only[ay];rw[p];exact next _ (by unfold gz;simp only[bo];exact .inr (.inr (.inr (.inr (.inl ⟨d,l,l2,rfl⟩)))))
  . obtain⟨l,q,l2⟩:=Qm cM bu h1 (i:=(i:Int)) ⟨by omega,by omega⟩ false;rw[q];simp only[ay];rw[p];by_cases h0:l.length=0
    . rw[ag (by simp[h0])];exact next _ (by unfold gz;simp only[bo];exact .inr (.inr (.inr (.inr (.inr (.inl ⟨d,by first|trivial|rfl⟩))))))
    . rw[aq (by simp;intro h;rw[h]at h0;simp at h0)];exact next _ (by unfold gz;simp only[bo];exact .inr (.inr (.inr (.inr (.inr (.inr (.inl ⟨d,l,_,l2,by omega,rfl⟩)))))))
  . have f:b7 .i64 (cn (aP.getD i bK).A 4)=_:=n;have g:cn (b7 .i64 (aP.getD i bK).C) (aP.length:Int)=_:=o;rw[ag m,f,g];exact next _ (by unfold gz;simp only[bo];exact .inr (.inr (.inr (.inr (.inr (.inr (.inr (.inl ⟨d,by first|trivial|rfl⟩))))))))
  . have f:b7 .i64 (cn (aP.getD i bK).A 4)=_:=n;have g:cn (b7 .i64 (aP.getD i bK).C) (aP.length:Int)=_:=o;obtain⟨u,M,O⟩:=Tr cM bu e0 h1;have N:uk ((⟨aP⟩:eN),(aP.getD i bK).B)=some u:=M;rw[N];simp only[ay];rw[ag m,f,g];rcases O with⟨rfl,a⟩|a
    . rw[jY];exact next _ (by unfold gz;simp only[bo];exact .inr (.inr (.inr (.inr (.inr (.inr (.inr (.inr (.inl ⟨d,a,by first|trivial|rfl⟩)))))))))
    . rw[aq (by have:=a.1;simp;omega)];exact next _ (by unfold gz;simp only[bo];exact .inr (.inr (.inr (.inr (.inr (.inr (.inr (.inr (.inr (.inl ⟨d,u,a,rfl⟩))))))))))
  . have g:cn (b7 .i64 (aP.getD i bK).C) (aP.length:Int)=_:=o;rw[ag m,g];exact next _ (by unfold gz;simp only[bo];exact .inr (.inr (.inr (.inr (.inr (.inr (.inr (.inr (.inr (.inr ⟨d,by first|trivial|rfl⟩))))))))))
end
def vM(d:eN):Prop:=d.eR.length<=reachBytes/\∀x,x∈d.eR->pw x
theorem of_eq{d:eN}(a:vM d):rU d=some (⟨[]⟩,false)\/∃l,rU d=some (⟨l⟩,true)/\1<=d.eR.length/\d.eR.length<=5/\l.length=d.eR.length/\∀j,j<d.eR.length->gz d.eR (j:Int) (l.getD j aM):=by
 rw[rU];simp only[a7,ay];by_cases h:1<=d.eR.length/\d.eR.length<=5;obtain⟨l,c,l2,e⟩:=Wk a.2 h.2 h.1 d.eR.length 0 [] (by omega) rfl (λj b=>by omega);grind;grind
structure dn (ts:List aj):Prop where
 dF:1<=ts.length
 fz:ts.length<=5
 T:∀t,t∈ts->fT t
 V:rh ts
 D:∀t,t∈ts->qJ ts t.af
 R:∀i:Nat,i<ts.length->∀m,m∈(ts.getD i aM).af->0<=m.aC/\m.aC<ts.length/\(7<=(ts.getD m.aC.toNat aM).ae\/m.aC<i)
 L:∀t,t∈ts->t.ae=2->-3<=t.bA/\t.bI<=8
 M:∀t,t∈ts->t.Max<=3
 cr:∀t,t∈ts->(∀m,m∈t.af->m.ah<=12)/\(∀y,y∈t.bf->y.ah<=6)/\t.af.length<=12
 W:∀t,t∈ts->∀m,m∈t.af->m.bO->wt m.bC<=13
theorem Qn(d:v.a'=[])(c:v.aw=[])(e:v.a6=[])(hs:v.bW.length<=1000)(dF:eE v.ae)(a:eE v.bF)(b:eE v.ah):cz v:=by
 refine .mk v (by grind[reachBytes]) (by grind) (by grind) (by grind) (λx aa=>?_) (λx aa=>?_) (λx aa=>?_) dF a b (λx aa=>?_)
 all_goals grind
theorem Wn:cz aI:=Qn rfl rfl rfl (by simp[aI]) (by grind[eE,aI]) (by grind[eE,aI]) (by grind[eE,aI])
theorem ahm(b:v.a'=[])(a:v.aw=[])(c:v.a6=[]):wt v=10+v.bW.length:=by
 grind[iA,sq]
section
variable {aP:I gw}(cM:∀x,x∈aP->pw x)(bu:aP.length<=5)(h1:1<=aP.length){l:I aj}(ak:l.length=aP.length)(dE:∀j,j<aP.length->gz aP (j:Int) (l.getD j aM))
include cM bu in
theorem Sj(ht:0<=t/\t<aP.length)(h:Init aP t v):cz v/\wt v<=13:=by
 obtain⟨a,b,c,h⟩:=h;obtain⟨j,rfl⟩:∃j:Nat,t=j:=⟨t.toNat,by omega⟩
 obtain⟨_,bj,fv⟩:=sy cM bu ht.1 ht.2;rw[bo]at h;have d:=(wx (aP.getD j fr)).2.1.2;rw[ahm a b c];have hs:v.bW.length<=3:=by grind
 refine⟨Qn a b c (by omega) ?_ ?_ ?_,by omega⟩;unfold eE;rcases h with h|h|h|h|h<;>omega;unfold eE;rcases h with⟨_,_,e,_⟩|⟨_,_,_,_,_,e⟩|⟨_,_,_,e,_⟩|⟨_,_,_,e,_⟩|⟨_,_,e,_⟩<;>omega;unfold eE;grind
include cM bu in
theorem O6{i:Int}{r:J}{e:I aT}(h:vT aP i r e):qI (!r) e\/(r=false/\e=[]):=by
 obtain⟨a,b,c⟩:=h;by_cases h0:r=false/\e=[];grind;left;refine⟨λm d=>?_,?_,⟨a,λm d=>?_⟩,λm d=>?_,?_,by omega⟩
 . have q:=b m d;unfold pB;have n:m.bO=false->qH m.bC:=λh=>by
    rw[q.Wg h];have g:=Fo Wn aI;obtain⟨w,p,s⟩:=g;grind[qH]
   have k:=q.fq;have l:=q.un;grind
 grind;have:=(b m d).id;exact⟨by omega,by omega⟩;have q:=b m d;have:=q.id;rw[q.name];exact T7 (by simp) (by omega)
 . unfold List.Nodup;rw[nS];refine a.imp_of_mem λ{x y} aa al aD=>?_;have j:=b x aa;have f:=b y al;have o:=f.id;rw[j.name,f.name];grind[nz]
theorem O7{l:az}(h:vQ l 6)(h1:1<=l.length)(a:l.length<=6):BT (q0 l)/\(∀y,y∈q0 l->y.ah<=6):=by
 unfold q0;refine⟨⟨by grind,⟨?_,λy al=>?_⟩,λy al=>?_,?_,by grind⟩,λy al=>?_⟩;rw[nS];exact h.1;obtain⟨x,aa,rfl⟩:=fl.1 al;have:=h.2 x aa;exact⟨this.1,by grind⟩;obtain⟨x,aa,rfl⟩:=fl.1 al;have:=h.2 x aa;exact T7 (by simp) (by omega)
 . unfold List.Nodup;rw[nS,nS];refine h.1.imp_of_mem λ{x y} aa al aD=>?_;have b:=h.2 y al;grind[nz]
 obtain⟨x,aa,rfl⟩:=fl.1 al;exact(h.2 x aa).2
theorem Sk{i:Int}{t:aj}(h:gz aP i t):(eP aP i<=5\/eP aP i=7\/eP aP i=9->t.ae=eP aP i)/\(eP aP i=6->t.ae=5\/t.ae=6)/\(eP aP i=8->(t.ae=8/\∃w,pt aP w)\/(t.ae=7/\¬∃w,pt aP w)):=by
 rcases h with⟨k,rfl⟩|⟨k,rfl⟩|⟨k,rfl⟩|⟨k,_,rfl⟩|⟨k,_,_,rfl⟩|⟨k,rfl⟩|⟨k,_,_,_,_,rfl⟩|⟨k,rfl⟩|⟨k,a,rfl⟩|⟨k,w,a,rfl⟩|⟨k,rfl⟩<;>simp[k];omega;grind
theorem Ky{i:Int}{t:aj}(h:gz aP i t):t.af=[]\/∃r,vT aP i r t.af:=by
 rcases h with⟨k,rfl⟩|⟨k,rfl⟩|⟨k,rfl⟩|⟨k,_,rfl⟩|⟨k,_,a,rfl⟩|⟨k,rfl⟩|⟨k,_,_,a,_,rfl⟩|⟨k,rfl⟩|⟨k,a,rfl⟩|⟨k,w,a,rfl⟩|⟨k,rfl⟩
 all_goals grind
include cM bu h1 ak dE in
theorem ae2:dn l:=by
 have p:∀{P:aj->Prop},(∀j,j<aP.length->P (l.getD j aM))->∀t,t∈l->P t:=λar t ht=>by
  obtain⟨i,n,rfl⟩:=hE ht;grind
 have aa:∀j,j<aP.length->pw (aP.getD j fr):=λj d=>cM _ (bp d fr);have E:∀j,j<aP.length->∀m,m∈(l.getD j aM).af->∃r,vS aP (j:Int) r m:=λj d m f=>by
  rcases Ky (dE j d)with h|⟨r,_,h,_⟩;grind;grind
 have X:∀t,t∈l->fT t:=p λj d=>by
  have f:=E j d;have ht:=dE j d;have ad:(l.getD j aM).af.length<=12:=by
   rcases Ky ht with h|⟨r,_,_,h⟩;rw[h];simp;exact h
  have ag:(l.getD j aM).bf.length<=6:=by
   have n:=(wx (aP.getD j fr)).2.2.2;unfold gz at ht;rcases ht with⟨k,e⟩|⟨k,e⟩|⟨k,e⟩|⟨k,_,e⟩|⟨k,_,_,e⟩|⟨k,e⟩|⟨k,_,_,_,_,e⟩|⟨k,e⟩|⟨k,_,e⟩|⟨k,_,_,e⟩|⟨k,e⟩<;>rw[e]
   case inr.inr.inr.inl=>simp only[bo,q0,sQ];exact n
   all_goals simp
  refine⟨by unfold reachBytes;omega,by unfold reachBytes;omega,λm W=>?_⟩;obtain⟨r,q⟩:=f m W;by_cases D:m.bO=true;exact(Sj cM bu ⟨q.sX.1,q.sX.2.1⟩ (q.kH D)).1;rw[q.Wg (by simpa using D)];exact Wn
 have ak:∀u:Int,0<=u->u<aP.length->7<=eP aP u->7<=(l.getD u.toNat aM).ae:=λu h0 A I=>by
  obtain⟨j,rfl⟩:∃j:Nat,u=(j:Int):=⟨u.toNat,by omega⟩;rw[bo];obtain⟨_,_,fv⟩:=sy cM bu h0 A;obtain⟨a,b,c⟩:=Sk (dE j (by omega));omega
 have Y:rh l:=by
  refine⟨by omega,p λj d=>?_,λj d=>?_,p λj d=>?_,p λj d F=>?_⟩
  . have ht:=dE j d;have hid:=wx (aP.getD j fr);have z:=(aa j d).a;have J:=(aa j d).b;have G:nm [UInt8.ofNat (65+j)]:=ah1 (by omega);unfold dS at z J;unfold gz at ht;simp only[bo]at ht;generalize [UInt8.ofNat (65+j)]=an at G ht;unfold hG;rcases ht with⟨k,e⟩|⟨k,e⟩|⟨k,e⟩|⟨k,_,e⟩|⟨k,g,a,e⟩|⟨k,e⟩|⟨k,g,_,a,a0,e⟩|⟨k,e⟩|⟨k,_,e⟩|⟨k,_,_,e⟩|⟨k,e⟩<;>rw[e]
    simp;simp;omega;simp;omega;simp;exact⟨G,(O7 hid.2.1 hid.2.2.1 hid.2.2.2).1⟩
    . simp;refine⟨G,?_⟩;rcases O6 cM bu a with h|⟨h,_⟩
      exact h;cases h
    simp;exact⟨G,λm f=>(by cases f),.inl rfl,⟨.nil,λm f=>by cases f⟩,λm f=>(by cases f),by simp,by simp⟩
    . simp;refine⟨G,?_⟩;rcases O6 cM bu a with h|⟨_,h⟩
      exact h;grind
    simp;omega;simp;omega;simp;omega;simp
  ·
   have S:∀k,k<aP.length->(l.getD k aM).aR=[]\/(l.getD k aM).aR=[UInt8.ofNat (65+k)]:=λk Q=>by
    have ht:=dE k Q;unfold gz at ht;simp only[bo]at ht;rcases ht with⟨k,e⟩|⟨k,e⟩|⟨k,e⟩|⟨k,_,e⟩|⟨k,g,a,e⟩|⟨k,e⟩|⟨k,g,_,a,a0,e⟩|⟨k,e⟩|⟨k,_,e⟩|⟨k,_,_,e⟩|⟨k,e⟩<;>rw[e]<;>simp
   rcases S j (by omega)with h|h;rw[h];simp
   . rw[h];simp only[Bool.and_eq_false_iff];right;apply Bool.eq_false_iff.2;intro K;obtain⟨k,Q,he⟩:=(rY (by simp;omega)).1 K;have av:(l.map (·.aR)).getD k []=(l.getD k aM).aR:=jx (·.aR) l k aM [] (by omega);rw[av]at he;rcases S k (by omega)with N|N
     grind;rw[N]at he;simp only[List.cons.injEq,vg]at he;have s:=dN UInt8.toNat he;rw[nz (by omega),nz (by omega)]at s;omega
  . intro u A;have f:=E j d;have K:=(aa j d).c;unfold dS at K;have T:0<=(aP.getD j fr).C%(aP.length:Int):=nU _ (by omega);have c1:(aP.getD j fr).C%(aP.length:Int)<aP.length:=nR _ (by omega);have ht:=dE j d;unfold gz at ht;simp only[bo]at ht;generalize (aP.getD j fr).C%(aP.length:Int)=ab at T c1 ht;unfold fB at A;simp only[gj,fl]at A;rcases A with(⟨m,h,rfl⟩|h)|h
    obtain⟨r,q⟩:=f m h;have:=q.sX.1;have:=q.sX.2.1;omega
    . split at h
      rename_i F;have:u=(l.getD j aM).aS:=(by simpa using h);rw[this];rcases ht with⟨k,e⟩|⟨k,e⟩|⟨k,e⟩|⟨k,_,e⟩|⟨k,g,a,e⟩|⟨k,e⟩|⟨k,g,_,a,a0,e⟩|⟨k,e⟩|⟨k,_,e⟩|⟨k,w,a,e⟩|⟨k,e⟩<;>rw[e]at F⊢<;>simp at F⊢;obtain⟨kV,Z,_⟩:=a;omega;cases h
    . split at h
      rename_i I;have:u=(l.getD j aM).aE:=(by simpa using h);rw[this];rcases ht with⟨k,e⟩|⟨k,e⟩|⟨k,e⟩|⟨k,_,e⟩|⟨k,g,a,e⟩|⟨k,e⟩|⟨k,g,_,a,a0,e⟩|⟨k,e⟩|⟨k,_,e⟩|⟨k,w,a,e⟩|⟨k,e⟩<;>rw[e]at I⊢<;>simp at I⊢<;>omega;cases h
  . have ht:=dE j d;unfold gz at ht;simp only[bo]at ht;rcases ht with⟨k,e⟩|⟨k,e⟩|⟨k,e⟩|⟨k,_,e⟩|⟨k,g,a,e⟩|⟨k,e⟩|⟨k,g,_,a,a0,e⟩|⟨k,e⟩|⟨k,_,e⟩|⟨k,w,a,e⟩|⟨k,e⟩<;>rw[e]at F⊢<;>simp at F⊢;obtain⟨kV,Z,aq,au⟩:=a;obtain⟨q,rfl⟩:∃q:Nat,w=(q:Int):=⟨w.toNat,by omega⟩
    obtain⟨a,_,_⟩:=Sk (dE q (by omega));have:=a (.inl (by omega));simp_all
 refine⟨by omega,by omega,X,Y,p λj d m f D=>?_,λj d m f=>?_,p λj d O=>?_,p λj d=>?_,p λj d=>⟨λm f=>?_,λy al=>?_,?_⟩,p λj d m f D=>?_⟩
 . obtain⟨r,q⟩:=E j d m f;have n:=q.kH D;obtain⟨L,M,_⟩:=q.sX;generalize m.bC=v at n;obtain⟨u,A⟩:∃u:Nat,m.aC=(u:Int):=⟨m.aC.toNat,by omega⟩
   rw[A]at n L M⊢;have ht:=dE u (by omega);obtain⟨a,b,c,n⟩:=n;rw[hp];simp only[bo]at n⊢;unfold gz at ht;simp only[bo]at ht;have V:((l.length:Nat):Int)=aP.length:=(by omega);rw[V];generalize l.getD u aM=x at ht⊢;rw[a,b,c];have ap:∀t,fp l true t []:=λt=>by rw[fp];trivial
   have ai:nI []:=λi n=>by simp at n
   have R:=aa u (by omega);generalize aP.getD u fr=am at ht n R;rcases n with⟨k,aK,s,dB,B⟩|⟨k,aK,s,dB,B,iW,jU⟩|⟨k,aK,s,dB,B,iW⟩|⟨k,aK,s,dB,B,iW⟩|⟨k,aK,s,dB,B,iW⟩;rw[k]at ht;grind;rw[k]at ht;grind;rw[k]at ht;grind;rw[k]at ht;simp only[Int.reduceEq,false_and,true_and,or_false,false_or]at ht;obtain⟨o,rfl⟩:=ht;rw[aK,s,dB,B];simp;refine⟨by omega,⟨v.ah,[UInt8.ofNat 115,UInt8.ofNat (97+v.ah.toNat)]⟩,?_,rfl⟩;unfold q0;grind
   . rw[aK,s,dB,B];have fv:eP aP (u:Int)<=9:=(sy cM bu L M).2.2;have U:eP aP (u:Int)=7\/eP aP (u:Int)=8\/eP aP (u:Int)=9:=(by omega);have z:=R.a;unfold dS at z;rcases U with H|H|H
     rw[H]at ht iW;grind;rw[H]at ht iW;grind;rw[H]at ht iW;grind
 obtain⟨r,q⟩:=E j (by omega) m f;obtain⟨L,M,ao⟩:=q.sX;grind;have ht:=dE j d;have z:=(aa j d).a;have J:=(aa j d).b;unfold dS at z J;unfold gz at ht;simp only[bo]at ht;rcases ht with⟨k,e⟩|⟨k,e⟩|⟨k,e⟩|⟨k,_,e⟩|⟨k,g,a,e⟩|⟨k,e⟩|⟨k,g,_,a,a0,e⟩|⟨k,e⟩|⟨k,_,e⟩|⟨k,w,a,e⟩|⟨k,e⟩<;>rw[e]at O⊢<;>simp at O⊢;omega;have ht:=dE j d;have z:=(aa j d).a;unfold dS at z;unfold gz at ht;simp only[bo]at ht;rcases ht with⟨k,e⟩|⟨k,e⟩|⟨k,e⟩|⟨k,_,e⟩|⟨k,g,a,e⟩|⟨k,e⟩|⟨k,g,_,a,a0,e⟩|⟨k,e⟩|⟨k,_,e⟩|⟨k,w,a,e⟩|⟨k,e⟩<;>rw[e]<;>simp<;>omega;obtain⟨r,q⟩:=E j d m f;exact q.id.2;have ht:=dE j d;have hid:=wx (aP.getD j fr);unfold gz at ht;simp only[bo]at ht;rcases ht with⟨k,e⟩|⟨k,e⟩|⟨k,e⟩|⟨k,_,e⟩|⟨k,g,a,e⟩|⟨k,e⟩|⟨k,g,_,a,a0,e⟩|⟨k,e⟩|⟨k,_,e⟩|⟨k,w,a,e⟩|⟨k,e⟩<;>rw[e]at al<;>simp at al;exact(O7 hid.2.1 hid.2.2.1 hid.2.2.2).2 y al
 . rcases Ky (dE j d)with h|⟨r,_,_,h⟩
   rw[h];simp;exact h
 obtain⟨r,q⟩:=E j d m f;exact(Sj cM bu ⟨q.sX.1,q.sX.2.1⟩ (q.kH D)).2
end
theorem HM{d:eN}(g:vM d):rU d=some (⟨[]⟩,false)\/∃l,rU d=some (⟨l⟩,true)/\dn l:=by
 rcases of_eq g with h|⟨l,a,b,c,e,f⟩;grind;exact .inr ⟨l,a,ae2 g.2 c b e f⟩
def th(a C:az):Prop:=a.length<=C.length/\∀c,c∈a->c∈C
theorem th.refl(C:az):th C C:=⟨e' _,λ_ h=>h⟩
theorem th.trans{A B C:az}(h:th A B)(k:th B C):th A C:=⟨hF h.1 k.1,λc a=>k.2 c (h.2 c a)⟩
def Cu(C:az):Prop:=∀c,c∈C->dS c
theorem Cu.hT{A B:az}(h:Cu B)(k:th A B):Cu A:=λc a=>h c (k.2 c a)
theorem MO:∀a b:au,Op.bytesLess a b=false->a≠b->Op.bytesLess b a=true
 |[],[],_,h=>absurd rfl h
 |[],y::b,h,_=>by grind[Op.bytesLess]
 |x::a,[],h,_=>by rfl
 |x::a,y::b,h,c=>by
  simp[Op.bytesLess]at h⊢;by_cases h1:x<y;grind
  . by_cases f:y<x
    grind;have d:Op.bytesLess a b=false:=(by grind);have:=MO a b d (λe=>c (by grind));grind
theorem AV{a b:ab}(c:eE a.bF)(d:eE b.bF):qv (a,b)=some (iz a b):=by
 grind[Ef,iz]
theorem aen{a b:ab}(d:eE a.bF)(e:eE b.bF)(h:0<iz a b):iz b a<0:=by
 have h1:=AV d e;have c:=AV e d;rw[qv]at h1 c;by_cases f:a.ae=b.ae
 . rw[aq (by grind)]at h1 c;by_cases bj:a.ae=1
   have g:b.ae=1:=(by omega);simp only[js,ft]at h1 c;grind
   . rw[aq (by grind)]at h1;rw[aq (by grind)]at c;by_cases bq:a.ae=2
     have i:b.ae=2:=(by omega);rw[ag (by grind),sw d,sw e]at h1;rw[ag (by grind),sw d,sw e]at c;simp only[a7,ay,js]at h1 c;grind[KJ]
     . rw[aq (by grind)]at h1;rw[aq (by grind)]at c;by_cases b4:a.ae=3
       . have j:b.ae=3:=(by omega);rw[ag (by grind)]at h1;rw[ag (by grind)]at c;simp only[a7,ay,js]at h1 c;by_cases ak:a.bW.length=b.bW.length
         grind[MO];grind
       . rw[aq (by grind)]at h1;rw[aq (by grind)]at c;by_cases cv:a.ae=4
         simp only[a7,ay,js]at h1 c;grind;grind
 grind
section
variable {ts:I aj}
mutual
theorem q1:∀(v:ab) (t:Int),dL ts true t v->dL ts false t v
 |⟨k,b,i,s,id,ks,e,r⟩,t,h=>by
  rw[dL]at h⊢;obtain⟨⟨h1,o,p,A⟩,bu⟩:=h;have w:=Im e;have B:=Im ks;have D:=WR e;refine⟨⟨h1,o,p,λh=>by cases h⟩,?_⟩
  have y:(match cx (ts.getD t.toNat aM).af id with
   |some m=>r=[]/\e.length=1/\fp ts true m.aC e
   |none=>(ts.getD t.toNat aM).bt=true/\true=false/\cB id/\e=[]/\∃d,r=[⟨id,d⟩])->(match cx (ts.getD t.toNat aM).af id with
   |some m=>r=[]/\e.length=1/\fp ts false m.aC e
   |none=>(ts.getD t.toNat aM).bt=true/\false=false/\cB id/\e=[]/\∃d,r=[⟨id,d⟩]):=by
   split;rintro ⟨a,b,c⟩;exact⟨a,b,w _ c⟩;rintro ⟨_,b,_⟩;cases b
  rcases bu with h|h|h|⟨a1,a2,a3,a4,a5,f,g,j⟩|⟨a1,a2,a3,a4,a5,f,g,j⟩|⟨a1,a2,a3,a4,a5,f⟩|⟨a1,a2,a3,a4,a5,f,g,j,a9⟩|⟨a1,a2,a3,a4,a5,f,g,j,a9,q,x⟩|⟨a1,a2,a3,a4,a5,f,g,j,a9⟩;exact .inl h;grind;grind;grind;grind;grind;grind;grind;grind
theorem Im:∀(l:I ab) (t:Int),fp ts true t l->fp ts false t l
 |[],t,h=>by rw[fp];trivial
 |v::l,t,h=>by
  rw[fp]at h⊢;exact⟨q1 v t h.1,Im l t h.2⟩
theorem WR:∀(l:I ab) (ms:I aT),jm ts true ms l->jm ts false ms l
 |[],[],h=>by rw[jm];trivial
 |[],m::ms,h=>by
  have:jm ts true (m::ms) []=False:=by rw[jm]<;>(intros;simp_all)
  grind
 |v::l,[],h=>by
  have:jm ts true [] (v::l)=False:=by rw[jm]<;>(intros;simp_all)
  grind
 |v::l,m::ms,h=>by
  rw[jm]at h⊢;exact⟨q1 v m.aC h.1,WR l ms h.2⟩
end
theorem agm(h:dL ts true t v)(pl:J):dL ts pl t v:=by
 cases pl with
 |true=>exact h
 |false=>exact q1 v t h
def sU(ts:I aj)(t:Nat):Nat:=if 7<=(ts.getD t aM).ae then 0 else t+1
end
structure Xu (d:rP):Prop where
 s:vM d.S
 t:dS d.T
 c:Cu d.C
 l:d.C.length<=reachBytes
theorem FQ(H:lB ts)(a:cz v)(t:Int)(pl:J):dq (kF ((⟨ts⟩:aY),t,v,pl)) (dL ts pl t v):=by
 obtain⟨r,h1,c⟩:=FP (by have:=H.n;omega) H.T H.K a t pl;obtain⟨q,d,b⟩:=aed (by have:=H.n;omega) H.T H.K a t pl;rw[h1]at b;have:r=q:=o' b;subst this;exact⟨r,d,c⟩
theorem MF(dE:∀t,t∈ts->fT t)(jX:rh ts)(d:cz v)(a:dL ts false t v):wT ((⟨ts⟩:aY),t,v)=some 0:=by
 have H:=jX.ic dE;obtain⟨v1,_⟩:=qc dE jX;obtain⟨⟨g1,g2,_⟩,_⟩:=(hp _ _ _).1 a;obtain⟨r,e,f⟩:=FQ H d t false;have c:=f.2 a;subst c;have b:¬((bif (t<0:J)then true else (((⟨ts⟩:aY).bk.length:Int)<=t:J))=true):=by grind
 rw[wT,JC];simp only[adP,ab.bN];rw[v1];show((if(bif (t<0:J)then true else (((⟨ts⟩:aY).bk.length:Int)<=t:J)) then some (4:Int)else some 0)>>=_)=_;rw[aq b];show(Fl ((⟨ts⟩:aY),t,v)>>=_)=_;rw[Fl];simp only[ab.bN];rw[e];rfl
theorem Le{l:I Fd}(ar:kI fE l)(aL:l.Pairwise (λa b=>a.id≠b.id)):(hO fE l).Pairwise (λa b=>a.id<b.id):=by
 have h1:=E5 Sc l;have c:(hO fE l).Pairwise (λa b=>a.id≠b.id):=(kd fE l).symm.pairwise aL (λ{a b} h=>λe=>h e.symm);refine(h1.and c).imp λ{a b} h=>?_;have:=h.1;have:=h.2;simp only[fE,Hu]at*;omega
theorem J8{l:I ab}{r:I ct}(h:hY ms)(c:iU ms r):(fD ts ms l r).Pairwise (λa b=>a.id≠b.id):=by
 have:=wW (ts:=ts) (l:=l) h c;have key:∀q:I Fd,kI fE q->q.Pairwise (λa b=>a.id≠b.id):=by
  intro q;induction q with
  |nil=>intro _;exact .nil
  |cons a q ih=>
   intro h;simp only[kI,dr,gF,lW,fE,gP]at h;rw[kQ];grind
 grind
def C0(f:Fd):da:=⟨(f.id:Int),f.c,f.p⟩
theorem PY:∀(l:I Fd) (last:Nat) (b:I da),l.Pairwise (λa b=>a.id<b.id)->(∀f,f∈l->last<f.id/\f.id<=1000)->(l.flatMap Fd.text).length<=100000->b.length+l.length<=90000->
 hC ((last:Int),l.flatMap Fd.text,b)=some (.inr (b++l.map C0))
 |[],last,b,_,_,_,_=>by
  rw[hC,cN];simp
 |f::l,last,b,ar,e,ak,d=>by
  rw[kQ]at ar;obtain⟨h1,i⟩:=e f (.head _);rw[hf]at ak⊢;have ht:f.text=fV f.id f.c f.p:=rfl;rw[ht]at ak⊢;rw[ab8 h1 i ak (by simp at d;omega)];have j:(l.flatMap Fd.text).length<=100000:=by rw[ea]at ak;omega
  rw[PY l f.id _ ar.2 (λg av=>⟨ar.1 g av,(e g (.tail _ av)).2⟩) j (by simp at d⊢;omega)];simp[C0]
theorem adX{rest:au}{b:I au}(h:(dC p++rest).length<=100000)(i:b.length<=90000):ir (dC p++rest,b)=ir (rest,b++[p]):=by
 have f:p.length<=100000:=by simp only[dC,ea]at h;omega
 have d:dC p++rest≠[]:=by
  intro c;have a:=dN List.length c;have:=qe p.length;simp only[dC,ea,pb]at a;omega
 rw[ir,ag (by simp only[Dd,Hu];exact d),my,N3 f];simp only[a7,ay];have e:¬((!(eu (some (p,rest))).2.2)=true):=by simp[eu]
 have g:bR 16 (b++[(eu (some (p,rest))).1]).length:=dQ;rw[aq e,ag g];rfl
theorem Qo:∀(l:I au) (b:I au),(l.flatMap dC).length<=100000->b.length+l.length<=90000->ir (l.flatMap dC,b)=some (.inr (b++l))
 |[],b,_,_=>by
  rw[ir,cN];simp
 |p::l,b,ak,a=>by
  rw[hf]at ak⊢;rw[adX ak (by simp at a;omega),Qo l _ (by rw[ea]at ak;omega) (by simp at a⊢;omega)];simp
def l6:I au->I au->I au
 |k::ks,v::vs=>k::v::l6 ks vs
 |_,_=>[]
theorem PZ:∀a b,gg a b=(l6 a b).flatMap dC
 |[],b=>by simp[gg,l6]
 |k::ks,[]=>by simp[gg,l6]
 |k::ks,v::vs=>by simp[gg,l6,PZ ks vs]
theorem P0:∀a b:I au,a.length=b.length->(l6 a b).length=a.length+b.length
 |[],[],_=>rfl
 |k::ks,v::vs,h=>by
  simp only[l6,kR];have:=P0 ks vs (by simpa using h);omega
theorem AE(p:au):1<=(dC p).length:=by
 have:=qe p.length;unfold dC;rw[ea];omega
theorem N6:∀l:I au,l.length<=(l.flatMap dC).length
 |[]=>by simp
 |p::l=>by
  have:=N6 l;have:=AE p;grind
theorem Lf(f:Fd):1<=f.text.length:=by
 have:=qe (2*f.id+(if f.c then 1 else 0));unfold Fd.text fV;rw[ea];omega
theorem N7:∀l:I Fd,l.length<=(l.flatMap Fd.text).length
 |[]=>by simp
 |p::l=>by
  have:=N7 l;have:=Lf p;grind
theorem Pg{f:Fd}:∀{l:I Fd},f∈l->f.p.length<=(l.flatMap Fd.text).length
 |g::l,h=>by
  rw[hf,ea];rcases fk.1 h with rfl|h
  . have:f.p.length<=f.text.length:=by unfold Fd.text fV dC;simp only[ea];omega
    omega
  have:=Pg h;omega
theorem Sl{d:eN}(h:WF cP ⟨.slice (.nm Ei),d.eR⟩):vM d:=by
 obtain⟨a,_,c⟩:=AU (t:= .nm Ei) h;refine⟨a,λx aa=>?_⟩;have e:=c x aa;have b:∀{n:Int},WF cP ⟨.int .u8,n⟩->dS n:=λ{n} h=>by
  cases h with
  |int k n h=>
   simp[Lit.wf,IntKind.min,IntKind.max,IntKind.bits,IntKind.signed]at h;unfold dS;omega
 have c1:=e ⟨.int .u8,x.ae⟩ (.head _);have c2:=e ⟨.int .u8,x.A⟩ (.tail _ (.head _));have c3:=e ⟨.int .u8,x.B⟩ (.tail _ (.tail _ (.head _)));have c4:=e ⟨.int .u8,x.C⟩ (.tail _ (.tail _ (.tail _ (.head _))));have c5:=e ⟨.slice (.nm LR),x.dp⟩ (.tail _ (.tail _ (.tail _ (.tail _ (.head _)))));obtain⟨i,_,j⟩:=AU (t:= .nm LR) c5;refine⟨b c1,b c2,b c3,b c4,λq g=>?_,i⟩;have f:=j q g;exact⟨b (f ⟨.int .u8,q.ah⟩ (.head _)),b (f ⟨.int .u8,q.aC⟩ (.tail _ (.head _))),b (f ⟨.int .u8,q.hV⟩ (.tail _ (.tail _ (.head _))))⟩
def gE(n:Nat):au->Nat
 |[]=>n
 |c::s=>gE (n*256+c.toNat) s
theorem VX:∀(s:au) (n k:Nat),n<256^k->gE n s<256^(k+s.length)
 |[],n,k,h=>by simpa[gE]using h
 |c::s,n,k,h=>by
  have a:c.toNat<256:=Dn c;have h1:n*256+c.toNat<256^(k+1):=by rw[Nat.pow_succ];omega
  have:=VX s _ (k+1) h1;simp only[gE,kR];grind
theorem alo{n:Nat}(h:n<72057594037927936):n1 .u64 (n:Int) 8=((n*256:Nat):Int):=by
 unfold n1;have e:((2:Int)^min (8:Int).toNat IntKind.u64.bits)=256:=by decide
 rw[e];have:(n:Int)*256=((n*256:Nat):Int):=by push_cast;rfl
 rw[this];exact vE
theorem ahn{b:Nat}(c:a<72057594037927936)(d:b<256):sS .u64 ((a*256:Nat):Int) (b:Int)=((a*256+b:Nat):Int):=by
 have e:(BitVec.ofInt 64 ((a*256:Nat):Int) ||| BitVec.ofInt 64 (b:Int)).toNat=a*256+b:=by
  rw[xU,xU,BitVec.toNat_or,zu,zu,Il,pa (by omega),pa (by omega)];have h:=Nat.shiftLeft_add_eq_or_of_lt (show b<2^8 by omega) a;rw[Nat.shiftLeft_eq]at h;exact h.symm
 show IntKind.u64.wrap (((BitVec.ofInt 64 ((a*256:Nat):Int) ||| BitVec.ofInt 64 (b:Int)).toNat:Nat):Int)=_;rw[e];exact vE
theorem As{s:au}(hs:s.length<=8):∀(k i n:Nat),i+k=s.length->n<256^i->nq (s,(n:Int),(s.length:Int),(i:Int))=some ((gE n (s.drop i):Nat):Int)
 |0,i,n,c,aL=>by
  rw[nq,eF,fA (by omega:s.length<=i)];rfl
 |k+1,i,n,c,aL=>by
  have aD:i<s.length:=by omega
  have b:=AJ s i;have a:n<72057594037927936:=by
   have:(256:Nat)^i<=256^7:=xW (by omega) (by omega);omega
  rw[nq,c',ag (aX aD),alo a,sD,ig,ahn a b,bP,As hs k (i+1) _ (by omega) (by rw[Nat.pow_succ];omega),fi aD 0];rfl
theorem Lg{s:au}(hs:s.length<=8):∀(k i n:Nat),i+k=s.length->n<256^i->pX (s,(n:Int),(i:Int))=some ((gE n (s.drop i):Nat):Int)
 |0,i,n,a,aL=>by
  rw[pX,eF,fA (by omega:s.length<=i)];rfl
 |k+1,i,n,a,aL=>by
  have aD:i<s.length:=by omega
  have c:=AJ s i;have d:n<72057594037927936:=by
   have:(256:Nat)^i<=256^7:=xW (by omega) (by omega);omega
  have aK:gi .u64 (n:Int) 256=((n*256:Nat):Int):=u7 (b:=256) (by omega);rw[pX,c',ag (aX aD),aK,sD,ig,ti (by omega),bP,Lg hs k (i+1) _ (by omega) (by rw[Nat.pow_succ];omega),fi aD 0];rfl
def gJ(s:au):ai Nat:=if s.head?=some 0\/8<s.length then none else some (gE 0 s)
theorem BU{s:au}{n:Nat}(h:gJ s=some n):n<18446744073709551616:=by
 unfold gJ at h;split at h;cases h;rename_i ad;cases h;have:=VX s 0 0 (by simp);have a:(256:Nat)^(0+s.length)<=256^8:=xW (by omega) (by omega);omega
theorem ET{s:au}(h:s≠[]):(gC s 0=0)↔s.head?=some 0:=by
 cases s with
 |nil=>exact absurd rfl h
 |cons c s=>
  have:gC (c::s) 0=(c.toNat:Int):=sD (c::s) 0;rw[this];simp only[List.head?_cons,eo];constructor;intro h;exact UInt8.toNat_inj.1 (by simpa using h);simp_all
theorem aho(s:au):∃r,ur s=some r/\(r.2=0->∃n,gJ s=some n/\r.1=(n:Int))/\(r.2≠0->gJ s=none):=by
 rw[ur];simp only[a7,ay];by_cases h0:s=[];subst h0;have aK:nq ([],0,((([]:au)).length:Int),0)=some ((gE 0 []:Nat):Int):=As (s:=[]) (by simp) 0 0 0 rfl (by simp);refine⟨(((gE 0 []:Nat):Int),0),?_,λ_=>⟨0,rfl,rfl⟩,λh=>absurd rfl h⟩;grind
 . have e:0<s.length:=qP.2 h0;have d:aG 0 s.length:=aX (k:=0) e;have c:(!(s=[]:J)):=(by simp[h0]);rw[c,d];simp only[pc,cg,fe];by_cases a:gC s 0=0
   rw[ag (by simp[a])];refine⟨_,rfl,λh=>(by cases h),λ_=>?_⟩;unfold gJ;rw[ag (.inl ((ET h0).1 a))]
   . rw[aq (by simp[a])];by_cases b:8<s.length
     rw[c'];refine⟨_,rfl,λh=>(by cases h),λ_=>?_⟩;unfold gJ;rw[ag (.inr b)]
     . have aK:nq (s,0,(s.length:Int),0)=some ((gE 0 s:Nat):Int):=As (by omega) s.length 0 0 (by omega) (by simp);rw[eF,aK];refine⟨_,rfl,λ_=>⟨gE 0 s,?_,rfl⟩,λh=>absurd rfl h⟩;unfold gJ;rw[aq]
       rintro (h|h);exact a ((ET h0).2 h);omega
theorem Kz(s:au):∃r,ur s=some r/\xe s=some r/\(r.2=0->∃n,gJ s=some n/\r.1=(n:Int))/\(r.2≠0->gJ s=none):=by
 rw[ur,xe];simp only[a7,ay];by_cases h0:s=[]
 . subst h0;have aK:nq ([],0,((([]:au)).length:Int),0)=some ((gE 0 []:Nat):Int):=As (s:=[]) (by simp) 0 0 0 rfl (by simp);have c:pX ([],0,0)=some ((gE 0 []:Nat):Int):=Lg (s:=[]) (by simp) 0 0 0 rfl (by simp);refine⟨(((gE 0 []:Nat):Int),0),?_,?_,λ_=>⟨0,rfl,rfl⟩,λh=>absurd rfl h⟩
   grind;grind
 . have i:0<s.length:=qP.2 h0;have g:aG 0 s.length:=aX (k:=0) i;have e:((0:Int)<(s.length:Int):J):=by simp;omega
   have f:(!(s=[]:J)):=(by simp[h0]);rw[e,f,g];simp only[pc,cg,fe];by_cases b:gC s 0=0;have a:(gC s 0=0:J):=(by simp[b]);rw[ag a,ag a];refine⟨_,rfl,rfl,λh=>(by cases h),λ_=>?_⟩;unfold gJ;rw[ag (.inl ((ET h0).1 b))]
   . have a:¬((gC s 0=0:J)=true):=(by simp[b]);rw[aq a,aq a];by_cases d:8<s.length
     . have:((8:Int)<(s.length:Int):J):=by simp;omega
       rw[ag this,ag this];refine⟨_,rfl,rfl,λh=>(by cases h),λ_=>?_⟩;unfold gJ;rw[ag (.inr d)]
     . have:¬(((8:Int)<(s.length:Int):J)=true):=by simp;omega
       rw[aq this,aq this];have aK:nq (s,0,(s.length:Int),0)=some ((gE 0 s:Nat):Int):=As (by omega) s.length 0 0 (by omega) (by simp);have c:pX (s,0,0)=some ((gE 0 s:Nat):Int):=Lg (by omega) s.length 0 0 (by omega) (by simp);rw[aK,c];refine⟨_,rfl,rfl,λ_=>⟨gE 0 s,?_,rfl⟩,λh=>absurd rfl h⟩;unfold gJ;rw[aq];rintro (h|h);exact b ((ET h0).2 h);omega
def gI(n:Nat):Int:=if n%2=0 then((n/2:Nat):Int)else -((n/2:Nat):Int)-1
theorem Sm{n:Int}(h:eE n):gI (fZ n).toNat=n:=by
 unfold gI fZ eE at*;omega
theorem Tu{n:Nat}(h:n<18446744073709551616):wJ (n:Int)=some (gI n):=by
 rw[wJ];have aK:cn (n:Int) 2=((n%2:Nat):Int):=yb (b:=2);have a:fR .u64 (n:Int) 2=((n/2:Nat):Int):=vq h;rw[aK,a,lv];unfold gI;by_cases h0:n%2=0;grind
 . have dB:dG .i64 0 ((n/2:Nat):Int)= -((n/2:Nat):Int):=by rw[lE];omega
   rw[eF,aq h0,dB,lE]
theorem aii{n:Nat}(h:n<18446744073709551616):CE .u64 (n:Int) 1=((n%2:Nat):Int):=by
 have e:(BitVec.ofInt 64 (n:Int) &&& BitVec.ofInt 64 (1:Int)).toNat=n%2:=by grind
 show IntKind.u64.wrap (((BitVec.ofInt 64 (n:Int) &&& BitVec.ofInt 64 (1:Int)).toNat:Nat):Int)=_;rw[e];exact vE
theorem alp{n:Nat}:lZ .u64 (n:Int) 1=((n/2:Nat):Int):=by
 unfold lZ;have:((2:Int)^min (1:Int).toNat IntKind.u64.bits)=2:=by decide
 grind
theorem aeo(h:a<9223372036854775808):vF .i64 (a:Int) 0=(a:Int):=by
 have e:(BitVec.ofInt 64 (a:Int) ^^^ BitVec.ofInt 64 (0:Int)).toNat=a:=by grind
 show IntKind.i64.wrap (((BitVec.ofInt 64 (a:Int) ^^^ BitVec.ofInt 64 (0:Int)).toNat:Nat):Int)=_;rw[e,IntKind.wrap_i64];omega
theorem aep(h:a<9223372036854775808):vF .i64 (a:Int) (-1)= -(a:Int)-1:=by
 have e:(BitVec.ofInt 64 (a:Int) ^^^ BitVec.ofInt 64 (-1:Int)).toNat=18446744073709551615-a:=by
  have h1:BitVec.ofInt 64 (-1:Int)=BitVec.allOnes 64:=by decide
  rw[h1,xU,BitVec.xor_allOnes,BitVec.toNat_not,zu,Il,pa (by omega)]
 all_goals (try omega)
 show IntKind.i64.wrap (((BitVec.ofInt 64 (a:Int) ^^^ BitVec.ofInt 64 (-1:Int)).toNat:Nat):Int)=_;rw[e,IntKind.wrap_i64];omega
theorem ah3{n:Nat}(h:n<18446744073709551616):Ew (n:Int)=some (gI n):=by
 rw[Ew,alp,aii h,lv,lv,lE];unfold gI;by_cases h0:n%2=0;rw[ag h0,h0];have:(0:Int)-((0:Nat):Int)=0:=rfl;rw[this,aeo (by omega)];have h1:n%2=1:=(by omega);rw[aq h0,h1];have:(0:Int)-((1:Nat):Int)= -1:=rfl;rw[this,aep (by omega)]
def hy(p:au):ai (I au):=match lb p with
 |some (l,e)=>ite (e=0) (some l) none
 |none=>none
def iM(p:au):ai (I da):=match mE p with
 |some (l,e)=>ite (e=0) (some l) none
 |none=>none
def jI(p:au):ai (Int×au):=match mu p with
 |some (id,q,e)=>ite (e=0) (some (id,q)) none
 |none=>none
theorem Ph:∀(n:Nat) (s:au) (b l:I au),s.length<=n->s.length+b.length<=100000->ir (s,b)=some (.inr l)->∀q,q∈l->q∈b\/q.length<=s.length
 |n,s,b,l,aL,f,h=>by
  rw[ir]at h;by_cases h0:s=[];grind
  . rw[ag (by simp[h0]),my]at h;simp only[a7,ay]at h;cases a:jc s with
    |none=>
     rw[a]at h;simp[eu]at h
    |some r=>
     obtain⟨x,rest⟩:=r;rw[a]at h;have ak:=oQ a;have c:¬((!(eu (some (x,rest))).2.2)=true):=(by simp[eu]);have e:bR 16 (b++[(eu (some (x,rest))).1]).length:=dQ;rw[aq c,ag e]at h;intro q d
     match n,aL with
     |0,aL=>omega
     |n+1,aL=>
      have:=Ph n rest _ l (by omega) (by simp;omega) h q d;rcases this with h|h
      . rcases gj.1 h with h|h
        exact .inl h;right;have:q=x:=(by simpa[eu]using h);grind
      omega
theorem O8:∀(n:Nat) (s:au) (last:Nat) (b l:I da),s.length<=n->s.length+b.length<=100000->hC ((last:Int),s,b)=some (.inr l)->
 ∃c,l=b++c/\(∀f,f∈c->f.b5.length<=s.length/\(last:Int)<f.ah/\f.ah<=1000)/\c.Pairwise (λa b=>a.ah<b.ah)
 |n,s,last,b,l,aL,u,h=>by
  rw[hC]at h;by_cases h0:s=[];simp_all
  . rw[ag (by simp[h0])]at h;rcases l4 s with⟨e,he,av⟩|⟨m,k,av,w,i,j⟩
    rw[oT he av]at h;simp at h
    . rw[mx av i]at h;simp only[a7,ay,vq j]at h;by_cases v:((m/2:Nat):Int)<=(last:Int)\/1000<((m/2:Nat):Int)
      grind
      . have:¬((bif bif (!true)then true else (((m/2:Nat):Int)<=(last:Int):J)then true else (1000<((m/2:Nat):Int):J))=true):=(by grind);rw[aq this,my (by rw[mL];omega)]at h;simp only[ay]at h;cases d:jc (s.drop k)with
        |none=>
         rw[d]at h;simp[eu]at h
        |some r=>
         obtain⟨x,rest⟩:=r;rw[d]at h;have ak:=oQ d;rw[mL]at ak;have o:¬((!(eu (some (x,rest))).2.2)=true):=(by simp[eu]);have q:b7 .i64 ((m/2:Nat):Int)=((m/2:Nat):Int):=lv;rw[aq o,q]at h;have p:bR 32 (b++[(⟨((m/2:Nat):Int),(cn (m:Int) 2=1:J),(eu (some (x,rest))).1⟩:da)]).length:=dQ;rw[ag p]at h
         match n,aL with
         |0,aL=>omega
         |n+1,aL=>
          obtain⟨c,e,h1,t⟩:=O8 n rest (m/2) _ l (by omega) (by simp;omega) h;refine⟨⟨((m/2:Nat):Int),(cn (m:Int) 2=1:J),(eu (some (x,rest))).1⟩::c,by rw[e];simp,λf g=>?_,?_⟩
          . rcases fk.1 g with rfl|g
            refine⟨by show x.length<=_;omega,by show(last:Int)<((m/2:Nat):Int);omega,by show((m/2:Nat):Int)<=1000;omega⟩;grind
          grind
theorem u9(ar:p.length<=90000):∃o,lb p=some o/\(o.2=0->hy p=some o.1/\(∀q,q∈o.1->q.length<=p.length)/\o.1.length<=p.length)/\(o.2≠0->hy p=none):=by
 obtain⟨o,h1,a⟩:=afn ar;refine⟨o,h1,λh0=>⟨?_,?_,a⟩,λh0=>?_⟩;unfold hy;rw[h1];grind
 . obtain⟨c,a1,_⟩:=FM p.length p [] (by omega) (by simp;omega);rw[lb,a1]at h1;cases c with
   |inl e=>grind
   |inr l=>
    have:o=(l,0):=(o' h1).symm;subst this;intro q b;rcases Ph p.length p [] l (by omega) (by simp;omega) a1 q b with h|h;cases h;exact h
 unfold hy;rw[h1];grind
theorem EF(ar:p.length<=90000):∃o,lb p=some o/\rO p=some o/\(o.2=0->hy p=some o.1/\(∀q,q∈o.1->q.length<=p.length)/\o.1.length<=p.length)/\(o.2≠0->hy p=none):=by
 obtain⟨o,h1,a⟩:=u9 ar;exact⟨o,h1,by rw[afo ar,h1],a⟩
theorem EU(ar:p.length<=90000):∃o,mE p=some o/\(o.2=0->iM p=some o.1/\(∀f,f∈o.1->f.b5.length<=p.length/\cB f.ah)/\o.1.Pairwise (λa b=>a.ah<b.ah)/\o.1.length<=p.length)/\(o.2≠0->iM p=none):=by
 obtain⟨o,h1,i⟩:=aeT ar;obtain⟨d,a1,_⟩:=PG p.length p 0 [] (by omega) (by simp;omega);have key:o.2=0->(∀f,f∈o.1->f.b5.length<=p.length/\cB f.ah)/\o.1.Pairwise (λa b=>a.ah<b.ah):=by
  intro h0;have c:=h1;have g:hC (0,p,[])=some d:=a1;rw[mE,g]at c;cases d with
  |inl e=>
   have:o=([],e):=(o' c).symm;simp_all
  |inr l=>
   have:o=(l,0):=(o' c).symm;subst this;obtain⟨k,e,b1,b2⟩:=O8 p.length p 0 [] l (by omega) (by simp;omega) a1;have:l=k:=(by simpa using e);subst this;exact⟨λf j=>by have:=b1 f j;exact⟨this.1,by omega,this.2.2⟩,b2⟩
 refine⟨o,h1,λh0=>⟨?_,(key h0).1,(key h0).2,i⟩,λh0=>?_⟩;unfold iM;rw[h1];grind;unfold iM;rw[h1];grind
theorem Nl(ar:p.length<=90000):∃o,mE p=some o/\xk p=some o/\(o.2=0->iM p=some o.1/\(∀f,f∈o.1->f.b5.length<=p.length/\cB f.ah)/\o.1.Pairwise (λa b=>a.ah<b.ah)/\o.1.length<=p.length)/\(o.2≠0->iM p=none):=by
 obtain⟨o,h1,c⟩:=EU ar;exact⟨o,h1,by rw[ad9 ar,h1],c⟩
theorem Gp(p:au):∃o,mu p=some o/\(o.2.2=0->jI p=some (o.1,o.2.1)/\o.2.1.length<=p.length/\cB o.1)/\(o.2.2≠0->jI p=none):=by
 obtain⟨o,h1⟩:=ahQ p;have key:o.2.2=0->o.2.1.length<=p.length/\cB o.1:=by
  intro h0;have a:=h1;rw[mu]at a;rcases l4 p with⟨e,he,av⟩|⟨m,k,av,f,c,g⟩;rw[oT he av]at a;grind
  . rw[mx av c]at a;simp only[a7,ay]at a;by_cases d:(m:Int)<1\/1000<(m:Int)
    grind;have b:¬((bif bif (!true)then true else ((m:Int)<1:J)then true else (1000<(m:Int):J))=true):=(by grind);rw[aq b,lv]at a;have:o=((m:Int),p.drop k,0):=(o' a).symm;subst this;exact⟨by show(p.drop k).length<=_;rw[mL];omega,by omega,by show(m:Int)<=1000;omega⟩
 refine⟨o,h1,λh0=>⟨?_,(key h0).1,(key h0).2⟩,λh0=>?_⟩;unfold jI;rw[h1];grind;unfold jI;rw[h1];grind
theorem Qp(p:au):∃o,mu p=some o/\wR p=some o/\(o.2.2=0->jI p=some (o.1,o.2.1)/\o.2.1.length<=p.length/\cB o.1)/\(o.2.2≠0->jI p=none):=by
 obtain⟨o,h1,a⟩:=Gp p;obtain⟨b,a1,a2⟩:=ahR p;rw[h1]at a1;rw[<-o' a1]at a2;exact⟨o,h1,a2,a⟩
def kh(a b:au):J:=bif ((a.length:Int)<(b.length:Int):J)then true else bif ((a.length:Int)=(b.length:Int):J)then Op.bytesLess a b else false
def ec(ts:I aj):Nat->Int->au->Prop
 |0,_,_=>False
 |r+1,t,p=>
  let x:=ts.getD t.toNat aM
  (x.ae=1/\(p=[]\/p=[1]))\/
  (x.ae=2/\∃n,gJ p=some n/\x.bA<=gI n/\gI n<=x.bI)\/
  (x.ae=3/\(p.length:Int)<=x.Max)\/
  (x.ae=4/\∃n,gJ p=some n/\(1<=n/\n<=1000)/\((∃y,y∈x.bf/\y.ah=(n:Int))\/x.bt))\/
  (x.ae=5/\∃l,iM p=some l/\(∀f,f∈l->(cx x.af f.ah=none->f.bV=false)/\∀m,cx x.af f.ah=some m->f.bV=m.bV/\ec ts r m.aC f.b5/\(m.bO->f.b5≠bM ts m.aC m.bC))/\∀m,m∈x.af->m.bO=false->∃f,f∈l/\f.ah=m.ah)\/
  (x.ae=6/\∃id q,jI p=some (id,q)/\(cx x.af id=none->x.bt)/\∀m,cx x.af id=some m->ec ts r m.aC q)\/
  (x.ae=7/\∃l,hy p=some l/\(l.length:Int)<=x.Max/\∀q,q∈l->ec ts r x.aE q)\/
  (x.ae=8/\∃l,hy p=some l/\l.length%2=0/\((l.length/2:Nat):Int)<=x.Max/\∀i,2*i+1<l.length->ec ts r x.aS (l.getD (2*i) [])/\ec ts r x.aE (l.getD (2*i+1) [])/\(0<i->kh (l.getD (2*i-2) []) (l.getD (2*i) [])))\/
  (x.ae=9/\(p=[]\/∃q,p=1::q/\ec ts r x.aE q))
section
variable {ts:I aj}
theorem agn(a b:au):Er (a,b)=some (kh a b):=rfl
def okF(ts:I aj)(r:Nat)(a:I aT)(f:da):Prop:=(cx a f.ah=none->f.bV=false)/\∀m,cx a f.ah=some m->f.bV=m.bV/\ec ts r m.aC f.b5/\(m.bO->f.b5≠bM ts m.aC m.bC)
theorem ahp(a e b sh s i:J)(c g:Int)(j:Int->J)(f:Int->J)(E:Int->ai J)(B:Int->ai J)(X k:ai γ)(eI:E g=some e)(o:j g)(n:i=true)(h1:b=true->f c/\B c=some sh):
 (some a>>=λp=>some (!p)>>=λt61=>some g>>=λt68=>if(j t68||(!(!t61))) then(if !t61 then E t68 else some false)>>=λq=>some (bif t61 then true else(!q))>>=λt75=>some b>>=λt78=>some c>>=λt82=>
  if(f t82||(!((!t75)&&t78))) then if(i||(!((!t75)&&t78))) then(if((!t75)&&t78) then B t82 else some false)>>=λr=>if(bif t75 then true else bif t78 then(!r)else false) then X else k else none else none else none)=if(a&&e&&(!b||sh)) then k else X:=by
 subst n;simp only[a7,ay];rw[eI,o];cases b with
 |true=>
  obtain⟨l,m⟩:=h1 rfl;rw[l,m];cases a<;>cases e<;>cases sh<;>rfl
 |false=>
  generalize f c=d;cases a<;>cases e<;>cases d<;>cases sh<;>rfl
theorem Sn(r:Nat)(t:Int)(p:au):ec ts (r+1) t p↔
 (((ts.getD t.toNat aM).ae=1/\(p=[]\/p=[1]))\/
 ((ts.getD t.toNat aM).ae=2/\∃n,gJ p=some n/\(ts.getD t.toNat aM).bA<=gI n/\gI n<=(ts.getD t.toNat aM).bI)\/
 ((ts.getD t.toNat aM).ae=3/\(p.length:Int)<=(ts.getD t.toNat aM).Max)\/
 ((ts.getD t.toNat aM).ae=4/\∃n,gJ p=some n/\(1<=n/\n<=1000)/\((∃y,y∈(ts.getD t.toNat aM).bf/\y.ah=(n:Int))\/(ts.getD t.toNat aM).bt)))\/
 ((ts.getD t.toNat aM).ae=5/\∃l,iM p=some l/\(∀f,f∈l->okF ts r (ts.getD t.toNat aM).af f)/\∀m,m∈(ts.getD t.toNat aM).af->m.bO=false->∃f,f∈l/\f.ah=m.ah)\/
 ((ts.getD t.toNat aM).ae=6/\∃id q,jI p=some (id,q)/\(cx (ts.getD t.toNat aM).af id=none->(ts.getD t.toNat aM).bt)/\∀m,cx (ts.getD t.toNat aM).af id=some m->ec ts r m.aC q)\/
 ((ts.getD t.toNat aM).ae=7/\∃l,hy p=some l/\(l.length:Int)<=(ts.getD t.toNat aM).Max/\∀q,q∈l->ec ts r (ts.getD t.toNat aM).aE q)\/
 ((ts.getD t.toNat aM).ae=8/\∃l,hy p=some l/\l.length%2=0/\((l.length/2:Nat):Int)<=(ts.getD t.toNat aM).Max/\∀i,2*i+1<l.length->ec ts r (ts.getD t.toNat aM).aS (l.getD (2*i) [])/\ec ts r (ts.getD t.toNat aM).aE (l.getD (2*i+1) [])/\(0<i->kh (l.getD (2*i-2) []) (l.getD (2*i) [])))\/
 ((ts.getD t.toNat aM).ae=9/\(p=[]\/∃q,p=1::q/\ec ts r (ts.getD t.toNat aM).aE q)):=by
 rw[ec];simp only[or_assoc];exact Iff.rfl
def N0(ts:I aj)(r:Nat):Prop:=∀(t:Int) (p:au),0<=t->t<ts.length->p.length<=4096->dq (im ((⟨ts⟩:aY),t,p,(r:Int))) (ec ts r t p)
theorem Gq{l:I da}(ak:l.length<=100000){x:aj}{m:aT}(b i:Int):∀(k j:Nat) (a:Int),j+k=l.length->(a= -1/\(∀q,q<j->(l.getD q dP).ah≠m.ah)\/∃q:Nat,q<l.length/\a=(q:Int)/\(l.getD q dP).ah=m.ah)->
 ∃cj,pN (b,l,i,a,(j:Int),ts,x.ae,x.aR,x.bA,x.bI,x.Max,x.bf,x.af,x.aS,x.aE,x.bt,m)=some (b,l,i,cj,ts,x.ae,x.aR,x.bA,x.bI,x.Max,x.bf,x.af,x.aS,x.aE,x.bt,m)/\(cj= -1/\(∀q,q<l.length->(l.getD q dP).ah≠m.ah)\/∃q:Nat,q<l.length/\cj=(q:Int)/\(l.getD q dP).ah=m.ah)
 |0,j,a,d,c=>by
  refine⟨a,by rw[pN,eF,iQ],?_⟩;grind
 |k+1,j,a,d,c=>by
  have aD:j<l.length:=by omega
  rw[pN,c',ag (aX aD)];simp only[bo,iQ];by_cases e:(l.getD j dP).ah=m.ah;rw[ag (by simpa using e),bP];exact Gq ak b i k (j+1) (j:Int) (by omega) (.inr ⟨j,aD,rfl,e⟩)
  . rw[aq (by simpa using e),bP];refine Gq ak b i k (j+1) a (by omega) ?_;grind
def vo(ts:I aj)(r:Nat)(l:I da)(m:aT):Prop:=((∀f,f∈l->f.ah≠m.ah)->m.bO)/\∀f,f∈l->f.ah=m.ah->f.bV=m.bV/\ec ts r m.aC f.b5/\(m.bO->f.b5≠bM ts m.aC m.bC)
theorem ah4(cr:J)(A:Int->J)(b w a d:J)(W:ai J)(P:ai au)(D q:au)(X c:ai γ)(e:cr=true)(eh:b=true->W=some w)(aA:b=true->w=true->a=true->P=some q)(f:d=(D=q:J)):
 (if(cr||(!true)) then some (!b)>>=λt316=>if(cr||(!(true&&(!t316)))) then(if(true&&(!t316)) then W else some false)>>=λg=>some (bif t316 then true else(!g))>>=λt330=>
  if(cr||(!(true&&(!t330)&&a))) then(if(true&&(!t330)&&a) then P else some [])>>=λi=>if(bif true then bif t330 then true else bif a then (D=i:J)else false else false) then X else c else none else none else none)=if(b&&w&&(!a || !d)) then c else X:=by
 subst e;cases b with
 |false=>rfl
 |true=>
  rw[eh rfl];cases w with
  |false=>rfl
  |true=>
   cases a with
   |false=>rfl
   |true=>
    rw[aA rfl rfl rfl,f];simp only[a7,ay,dX,fY,Bool.and_self,sR,pc,cg,fe,eC,Bool.false_or];cases (D=q:J)<;>rfl
theorem Qq(H:dn ts){r:Nat}(M:r<=300)(ih:N0 ts r){x:aj}(aa:x∈ts)(n:∀m,m∈x.af->0<=m.aC/\m.aC<ts.length){l:I da}(ak:l.length<=100000)(o:l.Pairwise (λa b=>a.ah<b.ah))(p:∀f,f∈l->f.b5.length<=4096):
 ∀(k i:Nat),i+k=x.af.length->(om (((r+1:Nat):Int),l,(i:Int),ts,x.ae,x.aR,x.bA,x.bI,x.Max,x.bf,x.af,x.aS,x.aE,x.bt)=some (.inr (l,x.ae,x.aR,x.bA,x.bI,x.Max,x.bf,x.af,x.aS,x.aE,x.bt))/\∀m,m∈x.af.drop i->vo ts r l m)\/
  (om (((r+1:Nat):Int),l,(i:Int),ts,x.ae,x.aR,x.bA,x.bI,x.Max,x.bf,x.af,x.aS,x.aE,x.bt)=some (.inl false)/\¬∀m,m∈x.af.drop i->vo ts r l m)
 |0,i,K=>by
  left;rw[om,eF,fA (by omega:x.af.length<=i)];grind
 |k+1,i,K=>by
  have aD:i<x.af.length:=by omega
  have Z:=(H.cr _ aa).2.2;have Q:=Qq H M ih aa n ak o p k (i+1) (by omega);have j:=bp aD aF;obtain⟨R,S⟩:=n _ j;have E:=H.D _ aa _ j;have F:=(H.T _ aa).iw _ j;have G:=H.W _ aa _ j;obtain⟨a,a1,a2⟩:=Gq (ts:=ts) ak (x:=x) (m:=x.af.getD i aF) (((r+1:Nat):Int)) (i:Int) l.length 0 (-1) (by omega) (.inl ⟨rfl,λq d=>by omega⟩);have y:pN (((r+1:Nat):Int),l,(i:Int),-1,0,ts,x.ae,x.aR,x.bA,x.bI,x.Max,x.bf,x.af,x.aS,x.aE,x.bt,x.af.getD i aF)=_:=a1;have A:∀P:aT->Prop,(∀m,m∈x.af.getD i aF::x.af.drop (i+1)->P m)↔P (x.af.getD i aF)/\∀m,m∈x.af.drop (i+1)->P m:=λP=>by grind
  rw[fi aD aF,A,om,c',ag (aX aD)];simp only[a7,ay,bo,iQ,ab.bN];rw[y];simp only[ay];have aK:dG .i64 ((r+1:Nat):Int) 1=(r:Int):=by rw[lE];omega
  rw[aK,bP];generalize x.af.getD i aF=m at*;rcases a2 with⟨rfl,ad⟩|⟨q,d,rfl,he⟩
  . have u:∀f,f∈l->f.ah≠m.ah:=λf c=>by
     obtain⟨q,d,rfl⟩:=hE c;grind
    cases g:m.bO with
    |true=>
     have v:vo ts r l m:=⟨λ_=>g,λf c e=>absurd e (u f c)⟩;grind
    |false=>
     right;rw[jY];refine⟨rfl,λh=>?_⟩;have:=h.1.1 u;grind
  . have c:=bp d dP;have al:∀f,f∈l->f.ah=m.ah->f=l.getD q dP:=λf s e=>by
     obtain⟨am,ai,rfl⟩:=hE s;rw[gA d]at he⊢;have ar:=vh.1 o;grind
    have v:vo ts r l m↔(l.getD q dP).bV=m.bV/\ec ts r m.aC (l.getD q dP).b5/\(m.bO->(l.getD q dP).b5≠bM ts m.aC m.bC):=by
     constructor;rintro ⟨_,h⟩;exact h _ c he;intro h;refine⟨λz=>absurd he (z _ c),λf s e=>?_⟩;grind
    obtain⟨w,U,X⟩:=ih m.aC (l.getD q dP).b5 R S (p _ c);have C:((0:Int)<=(q:Int):J):=(by simp);have L:¬((bif ((q:Int)<0:J)then(!m.bO)else false)=true):=(by grind);rw[aq L,C];simp only[bo];have N:=ah4 (γ:=J ⊕ (I da×Int×au×Int×Int×Int×I de×I aT×Int×Int×J)) (aG (q:Int) l.length) (λ_=>true) (ft (l.getD q dP).bV m.bV) w m.bO ((l.getD q dP).b5=bM ts m.aC m.bC:J) (im ((⟨ts⟩:aY),m.aC,(l.getD q dP).b5,(r:Int))) (kD ((⟨ts⟩:aY),m.aC,m.bC)) (l.getD q dP).b5 (bM ts m.aC m.bC) (some (.inl false)) (om (((r+1:Nat):Int),l,((i+1:Nat):Int),ts,x.ae,x.aR,x.bA,x.bI,x.Max,x.bf,x.af,x.aS,x.aE,x.bt)) (aX d) (λ_=>U) (λ_ _ g=>KL (H.V.ic H.T) F (by have:=G g;omega) _ (q1 _ _ (E g))) rfl;have t:=N;simp only[a7]at t;have B:(ft (l.getD q dP).bV m.bV&&w&&(!m.bO || !((l.getD q dP).b5=bM ts m.aC m.bC:J)))↔vo ts r l m:=by
     rw[v,<-X];have Y:ft (l.getD q dP).bV m.bV↔(l.getD q dP).bV=m.bV:=by cases (l.getD q dP).bV<;>cases m.bV<;>simp[ft]
     grind
    by_cases O:vo ts r l m
    . have eI:=t.trans (ag (B.2 O));rcases Q with⟨b1,b2⟩|⟨b1,b2⟩
      grind;grind
    grind
theorem ace(d:x.af.length<9223372036854775807){l:I da}(ak:l.length<=100000):dq (nj (l,0,x.ae,x.aR,x.bA,x.bI,x.Max,x.bf,x.af,x.aS,x.aE,x.bt)>>=λr=>match r with|.inl o=>some o|.inr _=>some true) (∀f,f∈l->cx x.af f.ah=none->f.bV=false):=by
 let u:Nat->J:=λi=>!((g' (x,(l.getD i dP).ah)).getD (0,false)).2;have k:∀i,i<l.length->∃q,g' (x,(l.getD i dP).ah)=some q/\u i=!q.2/\(q.2=false↔cx x.af (l.getD i dP).ah=none):=by
  intro i a;obtain⟨q,_,b,v⟩:=nD (t:=x) (l.getD i dP).ah d;refine⟨q,b,by simp only[u,b,qR],?_⟩;rcases uT v with⟨e,j,w,y,m,z⟩|⟨e,m⟩;grind;grind
 refine(dq.loop (L:=λi=>nj (l,(i:Int),x.ae,x.aR,x.bA,x.bI,x.Max,x.bf,x.af,x.aS,x.aE,x.bt)) (n:=l.length) (p:=λi=>!(bif u i then(l.getD i dP).bV else false)) (g:=()) rfl (λi a=>?_) ?_).imp ?_
 . show nj (l,(i:Int),x.ae,x.aR,x.bA,x.bI,x.Max,x.bf,x.af,x.aS,x.aE,x.bt)=if !(bif u i then(l.getD i dP).bV else false) then nj (l,((i+1:Nat):Int),x.ae,x.aR,x.bA,x.bI,x.Max,x.bf,x.af,x.aS,x.aE,x.bt)else _
   obtain⟨q,s,b,_⟩:=k i a;rw[nj,c',ag (aX a)];simp only[bo,FO];rw[s,b];simp only[a7,ay];rw[ag (by rw[aX a];rfl),bP];grind
 show nj (l,(l.length:Int),x.ae,x.aR,x.bA,x.bI,x.Max,x.bf,x.af,x.aS,x.aE,x.bt)=_;rw[nj,cN]
 . constructor
   intro h f c aL;obtain⟨i,a,rfl⟩:=hE c;grind;grind
theorem acf{r:Nat}{c:I aT}(n:hY c){l:I da}:((∀m,m∈c->vo ts r l m)/\∀f,f∈l->cx c f.ah=none->f.bV=false)↔(∀f,f∈l->okF ts r c f)/\∀m,m∈c->m.bO=false->∃f,f∈l/\f.ah=m.ah:=by
 have p:∀m,m∈c->cx c m.ah=some m:=λm b=>by
  obtain⟨j,g,s⟩:=hE b;unfold cx;rw[Ho];refine⟨by simp,j,g,s,λi q=>?_⟩;have ar:=vh.1 n.1 i j (by omega) g q;grind
 constructor
 . rintro ⟨h1,d⟩
   refine⟨λf a=>⟨d f a,λm b=>?_⟩,λm b t=>?_⟩
   . have aK:=xR b;have k:=Dm b
     exact (h1 m aK).2 f a (by have:m.ah = f.ah:= by simpa using k
                               omega)
   apply Classical.byContradiction;intro o;have:=(h1 m b).1 (λf a e=>o ⟨f,a,e⟩);grind
 . rintro ⟨h1,d⟩
   refine⟨λm b=>⟨λu=>?_,λf a e=>?_⟩,λf a=>(h1 f a).1⟩;grind;exact(h1 f a).2 m (by rw[e];exact p m b)
end
theorem aeq(ar:p.length<=90000){o:I au×Int}(h:lb p=some o)(h0:¬o.2=0):o.1=[]:=by
 have⟨a,a1,_⟩:=FM p.length p [] (by simp) (by grind);grind[lb]
section
variable {ts:I aj}
theorem MG{r:Nat}(b:r<=300){l:I au}(e:Int)(ak:l.length<=100000)(ih:∀q,q∈l->dq (im ((⟨ts⟩:aY),x.aE,q,(r:Int))) (ec ts r x.aE q)):
 ∀(k i:Nat),i+k=l.length->(pP (((r+1:Nat):Int),l,e,(i:Int),ts,x.ae,x.aR,x.bA,x.bI,x.Max,x.bf,x.af,x.aS,x.aE,x.bt)=some (.inr (l,e,x.ae,x.aR,x.bA,x.bI,x.Max,x.bf,x.af,x.aS,x.aE,x.bt))/\∀q,q∈l.drop i->ec ts r x.aE q)\/
  (pP (((r+1:Nat):Int),l,e,(i:Int),ts,x.ae,x.aR,x.bA,x.bI,x.Max,x.bf,x.af,x.aS,x.aE,x.bt)=some (.inl false)/\¬∀q,q∈l.drop i->ec ts r x.aE q)
 |0,i,a=>by
  simp_all[pP,aq,fA]
 |k+1,i,a=>by
  have aD:i<l.length:=by omega
  obtain⟨w,c,f⟩:=ih _ (bp aD []);have aK:dG .i64 ((r+1:Nat):Int) 1=(r:Int):=by grind[pD]
  have d:=MG b e ak ih k (i+1) (by omega);rw[fi aD [],pP,ag (by grind),ag (aX aD)];simp only[a7,ay,bo];rw[aK,c];simp only[ay];cases w with
  |false=>grind
  |true=>
   rw[bP];grind
theorem acg{r:Nat}(y:r<=300){l:I au}(ak:l.length<=100000)(he:l.length%2=0)(u:∀q,q∈l->dq (im ((⟨ts⟩:aY),x.aS,q,(r:Int))) (ec ts r x.aS q))(t:∀q,q∈l->dq (im ((⟨ts⟩:aY),x.aE,q,(r:Int))) (ec ts r x.aE q)):
 dq (tJ (((r+1:Nat):Int),l,0,ts,x.ae,x.aR,x.bA,x.bI,x.Max,x.bf,x.af,x.aS,x.aE,x.bt)>>=λo=>match o with|.inl x=>some x|.inr _=>some true)
  (∀i,2*i+1<l.length->ec ts r x.aS (l.getD (2*i) [])/\ec ts r x.aE (l.getD (2*i+1) [])/\(0<i->kh (l.getD (2*i-2) []) (l.getD (2*i) []))):=by
 let a:Nat->J:=λi=>(im ((⟨ts⟩:aY),x.aS,l.getD (2*i) [],(r:Int))).getD false;let e:Nat->J:=λi=>(im ((⟨ts⟩:aY),x.aE,l.getD (2*i+1) [],(r:Int))).getD false;have k:∀i,2*i<l.length->im ((⟨ts⟩:aY),x.aS,l.getD (2*i) [],(r:Int))=some (a i)/\(a i↔ec ts r x.aS (l.getD (2*i) [])):=by
  intro i c;obtain⟨w,h1,d⟩:=u _ (bp c []);grind
 have v:∀i,2*i+1<l.length->im ((⟨ts⟩:aY),x.aE,l.getD (2*i+1) [],(r:Int))=some (e i)/\(e i↔ec ts r x.aE (l.getD (2*i+1) [])):=by
  intro i c;obtain⟨w,h1,d⟩:=t _ (bp c []);grind
 have aK:dG .i64 ((r+1:Nat):Int) 1=(r:Int):=by grind[pD]
 refine(dq.loop (L:=λi=>tJ (((r+1:Nat):Int),l,((2*i:Nat):Int),ts,x.ae,x.aR,x.bA,x.bI,x.Max,x.bf,x.af,x.aS,x.aE,x.bt)) (n:=l.length/2) (p:=λi=>a i&&e i&&(!((0:Int)<((2*i:Nat):Int):J)||kh (l.getD (2*i-2) []) (l.getD (2*i) []))) (g:=()) rfl (λi c=>?_) ?_).imp ?_
 . have d:2*i<l.length:=(by omega);have f:2*i+1<l.length:=(by omega);have s:aQ .i64 ((2*i:Nat):Int) 2=((2*(i+1):Nat):Int):=by
    have:=KI (a:=2*i) (b:=2) (by omega);omega
   have m:aQ .i64 ((2*i:Nat):Int) 1=((2*i+1:Nat):Int):=bP;rw[tJ,c',ag (aX d)];simp only[bo];rw[aK,(k i d).1,s,m];refine ahp (a i) (e i) ((0:Int)<((2*i:Nat):Int):J) (kh (l.getD (2*i-2) []) (l.getD (2*i) [])) true (aG ((2*i:Nat):Int) l.length) (dG .i64 ((2*i:Nat):Int) 2) ((2*i+1:Nat):Int) (λj=>aG j l.length) (λj=>aG j l.length) (λj=>im ((⟨ts⟩:aY),x.aE,l.getD j.toNat [],(r:Int))) (λj=>Er (l.getD j.toNat [],l.getD (2*i) [])) _ _ ?_ (aX f) (aX d) (λA=>?_)
   grind[bo]
   . have:0<i:=(by grind);have z:dG .i64 ((2*i:Nat):Int) 2=((2*i-2:Nat):Int):=by rw[lE];omega
     grind[bo,aX,agn]
 have:2*(l.length/2)=l.length:=(by omega);simp_all[tJ,aq]
 . constructor
   intro h i c;have:=h i (by omega);grind;intro h i c;simp only[dr,lW];grind
theorem Tv{r:Nat}(aa:ts.getD j aM=x):
 (x.ae=1->(ec ts (r+1) (j:Int) p↔(p=[]\/p=[1])))/\
 (x.ae=2->(ec ts (r+1) (j:Int) p↔∃n,gJ p=some n/\x.bA<=gI n/\gI n<=x.bI))/\
 (x.ae=3->(ec ts (r+1) (j:Int) p↔(p.length:Int)<=x.Max))/\
 (x.ae=4->(ec ts (r+1) (j:Int) p↔∃n,gJ p=some n/\(1<=n/\n<=1000)/\((∃y,y∈x.bf/\y.ah=(n:Int))\/x.bt)))/\
 (x.ae=5->(ec ts (r+1) (j:Int) p↔∃l,iM p=some l/\(∀f,f∈l->okF ts r x.af f)/\∀m,m∈x.af->m.bO=false->∃f,f∈l/\f.ah=m.ah))/\
 (x.ae=6->(ec ts (r+1) (j:Int) p↔∃id q,jI p=some (id,q)/\(cx x.af id=none->x.bt)/\∀m,cx x.af id=some m->ec ts r m.aC q))/\
 (x.ae=7->(ec ts (r+1) (j:Int) p↔∃l,hy p=some l/\(l.length:Int)<=x.Max/\∀q,q∈l->ec ts r x.aE q))/\
 (x.ae=8->(ec ts (r+1) (j:Int) p↔∃l,hy p=some l/\l.length%2=0/\((l.length/2:Nat):Int)<=x.Max/\∀i,2*i+1<l.length->ec ts r x.aS (l.getD (2*i) [])/\ec ts r x.aE (l.getD (2*i+1) [])/\(0<i->kh (l.getD (2*i-2) []) (l.getD (2*i) []))))/\
 (x.ae=9->(ec ts (r+1) (j:Int) p↔(p=[]\/∃q,p=1::q/\ec ts r x.aE q))):=by
 have a:=Sn (ts:=ts) r (j:Int) p;rw[bo,aa]at a;refine⟨λk=>?_,λk=>?_,λk=>?_,λk=>?_,λk=>?_,λk=>?_,λk=>?_,λk=>?_,λk=>?_⟩<;>rw[a]<;>simp[k]
theorem Sp(H:dn ts):∀(r:Nat),r<=200->N0 ts r
 |0,ap=>by
  intro t p az aA ar;obtain⟨j,rfl⟩:∃j:Nat,t=(j:Int):=⟨t.toNat,by omega⟩;rw[im,ag (aX (by omega:j<ts.length))];simp only[a7,ay];rw[jY];refine⟨false,rfl,?_⟩;constructor;grind;intro h;exact h.elim
 |r+1,ap=>by
  intro t p az aA ar;have ih:=Sp H r (by omega);obtain⟨j,rfl⟩:∃j:Nat,t=(j:Int):=⟨t.toNat,by omega⟩
  have P:j<ts.length:=by omega
  have v:=bp P aM;have aH:=H.V.ic H.T;have B:=H.V.U _ v;have bS:=aH.K _ v;have W:(ts.getD j aM).af.length<9223372036854775807:=eS (iR (H.T _ v).hP);have aw:(ts.getD j aM).bf.length<9223372036854775807:=eS (iR (H.T _ v).syms);have N:∀m,m∈(ts.getD j aM).af->0<=m.aC/\m.aC<ts.length:=λm ak=>B m.aC (gj.2 (.inl (gj.2 (.inl (fl.2 ⟨m,ak,rfl⟩)))));have aK:dG .i64 ((r+1:Nat):Int) 1=(r:Int):=by rw[lE];omega
  rw[im,ag (aX P)];simp only[a7,ay,bo];rw[eF];have Z:=aH.A _ v;generalize aB:ts.getD j aM=x at*;obtain⟨v1,v2,v3,v4,v5,a0,aQ,aT,v9⟩:=Tv (ts:=ts) (r:=r) (p:=p) aB;unfold lQ at bS;have ab:x.ae=1\/x.ae=2\/x.ae=3\/x.ae=4\/x.ae=5\/x.ae=6\/x.ae=7\/x.ae=8\/x.ae=9:=by omega
  rcases ab with k|k|k|k|k|k|k|k|k;rw[ag (by simp[k])];refine(dq.of ?_).imp (v1 k).symm;grind
  . rw[aq (by simp[k]),ag (by simp[k])];obtain⟨o,_,d,s,D⟩:=Kz p;rw[d];simp only[ay];by_cases h0:o.2=0
    . obtain⟨n,dF,G⟩:=s h0;have aL:=BU dF;have u:(o.2=0:J):=(by simp[h0]);rw[u,ag rfl,G,Tu aL];simp only[ay,fe];by_cases g:x.bA<=gI n
      have av:(x.bA<=gI n:J):=(by simpa using g);rw[av,ag rfl];refine⟨_,rfl,?_⟩;grind;have av:(x.bA<=gI n:J)=false:=(by simpa using g);rw[av,cN];refine⟨false,rfl,?_⟩;grind
    have u:(o.2=0:J)=false:=(by simp[h0]);rw[u];refine⟨false,rfl,?_⟩;grind
  rw[aq (by simp[k]),aq (by simp[k]),ag (by simp[k])];exact(dq.of (by simp)).imp (v3 k).symm
  . rw[aq (by simp[k]),aq (by simp[k]),aq (by simp[k]),ag (by simp[k])];obtain⟨o,_,d,s,D⟩:=Kz p;rw[d];simp only[ay];by_cases h0:o.2=0
    . obtain⟨n,dF,G⟩:=s h0;rw[G,h0];by_cases aY:1<=n/\n<=1000
      have a:¬(n:Int)<1:=(by omega);have b:¬(1000:Int)<(n:Int):=(by omega);obtain⟨q,_,I,L⟩:=rz (t:=x) (n:Int) aw;rw[aq (by simp only[a,b,dz,di,dX,eC,cm,HJ]),lv,I];refine⟨_,rfl,?_⟩;rw[v4 k,dF];have:=EE L;grind;have F:(bif bif (!((0:Int)=0:J))then true else ((n:Int)<1:J)then true else (1000<(n:Int):J))=true:=(by grind);rw[ag F];refine⟨false,rfl,?_⟩;grind
    have F:(bif bif (!(o.2=0:J))then true else (o.1<1:J)then true else (1000<o.1:J))=true:=(by simp[h0]);rw[ag F];refine⟨false,rfl,?_⟩;grind
  . rw[aq (by simp[k]),aq (by simp[k]),aq (by simp[k]),aq (by simp[k]),aq (by simp[k]),aq (by simp[k]),aq (by simp[k]),aq (by simp[k])];obtain⟨o,_,d,s,D⟩:=Nl (p:=p) (by omega);rw[d];simp only[ay];by_cases h0:o.2=0
    . obtain⟨f1,f2,f3,f4⟩:=s h0;obtain⟨al,_⟩:=Z (.inl k);rw[aq (by simp[h0])];have S:=Qq H (by omega:r<=300) ih v N (l:=o.1) (by omega) f3 (λf ai=>by have:=(f2 f ai).1;omega) x.af.length 0 (by omega);have dw:om (((r+1:Nat):Int),o.1,((0:Nat):Int),ts,x.ae,x.aR,x.bA,x.bI,x.Max,x.bf,x.af,x.aS,x.aE,x.bt)=om (((r+1:Nat):Int),o.1,0,ts,x.ae,x.aR,x.bA,x.bI,x.Max,x.bf,x.af,x.aS,x.aE,x.bt):=rfl;simp only[dw,gk]at S;have aV:=acf (ts:=ts) (r:=r) al (l:=o.1);rcases S with⟨a,b⟩|⟨a,b⟩
      . rw[a];simp only[ay];refine(ace W (l:=o.1) (by omega)).imp ?_;simp_all
      rw[a];refine⟨false,rfl,?_⟩;simp_all
    rw[ag (by simp[h0])];refine⟨false,rfl,?_⟩;grind
  . rw[aq (by simp[k]),aq (by simp[k]),aq (by simp[k]),aq (by simp[k]),aq (by simp[k]),ag (by simp[k])];obtain⟨o,_,d,s,D⟩:=Qp p;rw[d];simp only[ay];by_cases h0:o.2.2=0
    . obtain⟨f1,f2,f3⟩:=s h0;rw[aq (by simp[h0])];obtain⟨q,_,I,L⟩:=nD (t:=x) o.1 W;rw[I];simp only[ay];rcases uT L with⟨e,i,X,aD,aI,aZ⟩|⟨e,aI⟩
      have am:=bp X aF;obtain⟨aO,aP⟩:=N _ am;obtain⟨w,M,aU⟩:=ih (x.af.getD i aF).aC o.2.1 aO aP (by omega);rw[ag e,aD,ag (aX X),bo,aK,M];refine⟨w,rfl,?_⟩;grind;rw[aq (by simp[e])];refine⟨_,rfl,?_⟩;grind
    rw[ag (by simp[h0])];refine⟨false,rfl,?_⟩;grind
  . rw[aq (by simp[k]),aq (by simp[k]),aq (by simp[k]),aq (by simp[k]),aq (by simp[k]),aq (by simp[k]),ag (by simp[k])];obtain⟨y,z⟩:=B x.aE (by unfold fB;simp[k]);obtain⟨o,Y,d,s,D⟩:=EF (p:=p) (by omega);rw[d];simp only[ay];have Q:o.1.length<=100000/\∀q,q∈o.1->q.length<=4096:=by
     by_cases h0:o.2=0;grind;have:=aeq (by omega) Y h0;grind
    have R:=MG (ts:=ts) (r:=r) (by omega) (x:=x) (l:=o.1) o.2 Q.1 (λq C=>ih x.aE q y z (Q.2 q C)) o.1.length 0 (by omega);have dw:pP (((r+1:Nat):Int),o.1,o.2,((0:Nat):Int),ts,x.ae,x.aR,x.bA,x.bI,x.Max,x.bf,x.af,x.aS,x.aE,x.bt)=pP (((r+1:Nat):Int),o.1,o.2,0,ts,x.ae,x.aR,x.bA,x.bI,x.Max,x.bf,x.af,x.aS,x.aE,x.bt):=rfl;simp only[dw,gk]at R;rcases R with⟨a,b⟩|⟨a,b⟩
    . rw[a];simp only[ay];refine⟨_,rfl,?_⟩;rw[aQ k];by_cases h0:o.2=0
      simp_all;grind
    rw[a];refine⟨false,rfl,?_⟩;grind
  . rw[aq (by simp[k]),aq (by simp[k]),aq (by simp[k]),aq (by simp[k]),aq (by simp[k]),aq (by simp[k]),aq (by simp[k]),ag (by simp[k])];obtain⟨y,z⟩:=B x.aE (by unfold fB;simp[k]);obtain⟨aJ,aN⟩:=B x.aS (by unfold fB;simp[k]);obtain⟨o,Y,d,s,D⟩:=EF (p:=p) (by omega);rw[d];simp only[ay];by_cases h0:o.2=0
    . obtain⟨f1,f2,f3⟩:=s h0;have au:cn (o.1.length:Int) 2=((o.1.length%2:Nat):Int):=yb (b:=2);have ao:fR .i64 (o.1.length:Int) 2=((o.1.length/2:Nat):Int):=by
       unfold fR;have e:(o.1.length:Int).tdiv 2=((o.1.length/2:Nat):Int):=by rw[Hr (by omega)];omega
       rw[e,IntKind.wrap_i64];omega
      rw[au,ao,h0];by_cases ah:o.1.length%2=0
      . have E:((o.1.length%2:Nat):Int)=0:=(by omega);rw[E];by_cases aW:((o.1.length/2:Nat):Int)<=x.Max
        . have b:¬x.Max<((o.1.length/2:Nat):Int):=(by omega);rw[aq (by simp only[b,di,dz,dX,eC,cm,HJ])];refine(acg (ts:=ts) (r:=r) (by omega) (x:=x) (l:=o.1) (by omega) ah (λq C=>ih x.aS q aJ aN (by have:=f2 q C;omega)) (λq C=>ih x.aE q y z (by have:=f2 q C;omega))).imp ?_;rw[aT k];constructor
          grind;grind
        have b:x.Max<((o.1.length/2:Nat):Int):=(by omega);rw[ag (by simp only[b,di,dX,eC])];refine⟨false,rfl,?_⟩;grind
      have E:((o.1.length%2:Nat):Int)=1:=(by omega);rw[E,ag (by rfl)];refine⟨false,rfl,?_⟩;grind
    rw[ag (by simp[h0])];refine⟨false,rfl,?_⟩;grind
  . rw[aq (by simp[k]),aq (by simp[k]),aq (by simp[k]),aq (by simp[k]),ag (by simp[k])];obtain⟨y,z⟩:=B x.aE (by unfold fB;simp[k]);cases p with
    |nil=>
     refine⟨true,rfl,?_⟩;grind
    |cons c q=>
     have aj:aG 0 (c::q).length:=aX (k:=0) (by simp);have ax:fI 1 ((c::q).length:Int) (c::q).length:=oZ (a:=1) (by simp) (by simp);have ad:hd (c::q) 1 ((c::q).length:Int)=q:=by
      have:=x5 (c::q) 1;grind
     have an:decide (c::q=[])=false:=(by simp);have aa:gC (c::q) 0=(c.toNat:Int):=sD (c::q) 0;rw[an,aj,ax,aa,ad];simp only[fY,pc,cg,mN,eC];by_cases O:c=1;subst O;obtain⟨w,M,aU⟩:=ih x.aE q y z (by simp at ar;omega);have u:(((1:UInt8).toNat:Int)=1:J):=(by decide);rw[u,ag rfl,aK,M];refine⟨w,rfl,?_⟩;grind
     . have u:((c.toNat:Int)=1:J)=false:=by
        rw[Hu];intro h;exact O (UInt8.toNat_inj.1 (by grind))
       rw[u];refine⟨false,rfl,?_⟩;grind
end
theorem Lh{n m:Nat}(aL:n<18446744073709551616)(a:m<18446744073709551616){r s:au}(h:e5 n++r=e5 m++s):n=m/\r=s:=by
 have h1:=BR aL r;rw[h,BR a s]at h1;have e:=dN Prod.fst h1;have e:m=n:=by omega
 simp_all
theorem EG{q r s:au}(ar:p.length<18446744073709551616)(a:q.length<18446744073709551616)(h:dC p++r=dC q++s):p=q/\r=s:=by
 grind[dC,Lh,List.append_inj]
theorem P1:∀{a b:I au},(∀x,x∈a->x.length<18446744073709551616)->(∀x,x∈b->x.length<18446744073709551616)->a.flatMap dC=b.flatMap dC->a=b
 |[],[],_,_,_=>rfl
 |[],q::b,_,_,h=>by
  have c:=dN List.length h;grind[AE]
 |p::a,[],_,_,h=>by
  have c:=dN List.length h;grind[AE]
 |p::a,q::b,d,f,h=>by
  obtain⟨e,c⟩:=EG (d _ (.head _)) (f _ (.head _)) h;rw[e,P1 (λx aa=>d x (.tail _ aa)) (λx aa=>f x (.tail _ aa)) c]
def vP(f:Fd):Prop:=f.id<=1000/\f.p.length<18446744073709551616
theorem P2:∀{a b:I Fd},(∀x,x∈a->vP x)->(∀x,x∈b->vP x)->a.flatMap Fd.text=b.flatMap Fd.text->a=b
 |[],[],_,_,_=>rfl
 |[],q::b,_,_,h=>by
  have e:=dN List.length h;grind[Lf]
 |p::a,[],_,_,h=>by
  have e:=dN List.length h;grind[Lf]
 |⟨i,c,p⟩::a,⟨j,d,q⟩::b,f,g,h=>by
  have h1:=f _ (.head _);have e:=g _ (.head _);unfold vP at h1 e;rw[hf,hf]at h;simp[Fd.text,fV]at h;obtain⟨aK,k⟩:=Lh (by grind) (by grind) h;obtain⟨m,l⟩:=EG h1.2 e.2 k;have dB:=P2 (λx aa=>f x (.tail _ aa)) (λx aa=>g x (.tail _ aa)) l;grind
theorem KM:∀(s:au) (n:Nat) (b:UInt8),gE n (s++[b])=gE n s*256+b.toNat
 |[],n,b=>by rfl
 |a::s,n,b=>by
  exact KM s _ b
theorem Sq(n:Nat):gE 0 (eD n)=n:=by
 induction n using Nat.strongRecOn with
 |ind n ih=>
  rw[eD];split;rename_i h;subst h;rfl;grind[KM,nz]
theorem P3{n m:Nat}(h:eD n=eD m):n=m:=by grind[Sq]
theorem aer:∀(n:Nat),¬(eD n).head?=some 0:=by
 intro n;induction n using Nat.strongRecOn with
 |ind n ih=>
  rw[eD];split;simp
  . by_cases b:n<256
    have:n/256=0:=(by omega);rw[this,eD,ag rfl];simp[List.head?_cons,eo];intro a;have c:=dN UInt8.toNat a;grind[nz]
    . have d:eD (n/256)≠[]:=by rw[eD,b9];simp
      cases e:eD _<;>grind
theorem P4{n:Nat}(h:n<18446744073709551616):gJ (eD n)=some n:=by
 simp_all[gJ,aer,x8,Sq]
theorem ahq{a b:I ct}(c:a.Pairwise (λx y=>x.ah<y.ah))(d:b.Pairwise (λx y=>x.ah<y.ah))(h:∀x,x∈a↔x∈b):a=b:=by
 have f:a.Nodup:=c.imp λ{x y} h e=>by grind
 have g:b.Nodup:=d.imp λ{x y} h e=>by grind
 grind[List.perm_ext_iff_of_nodup,List.Perm.eq_of_pairwise]
theorem Sr:∀{a b c d:I au},(∀x,x∈a->x.length<18446744073709551616)->(∀x,x∈b->x.length<18446744073709551616)->(∀x,x∈c->x.length<18446744073709551616)->(∀x,x∈d->x.length<18446744073709551616)->a.length=b.length->c.length=d.length->gg a b=gg c d->a=c/\b=d
 |[],[],[],[],_,_,_,_,_,_,_=>⟨rfl,rfl⟩
 |[],[],p::c,q::d,_,_,_,_,_,_,h=>by
  grind[AE,gg,List.length_append,List.length_nil]
 |p::a,q::b,[],[],_,_,_,_,_,_,h=>by
  grind[AE,gg,List.length_append,List.length_nil]
 |p::a,q::b,r::c,s::d,e,f,g,i,h1,n,h=>by
  obtain⟨aK,j⟩:=EG (e _ (.head _)) (g _ (.head _)) h;obtain⟨l,k⟩:=EG (f _ (.head _)) (i _ (.head _)) j;obtain⟨dB,m⟩:=Sr (λx aa=>e x (.tail _ aa)) (λx aa=>f x (.tail _ aa)) (λx aa=>g x (.tail _ aa)) (λx aa=>i x (.tail _ aa)) (by grind) (by grind) k;grind
theorem EV:∀{l m:I ab},(∀x,x∈l->∀y,y∈m->bM ts t x=bM ts t y->x=y)->bY ts t l=bY ts t m->l=m
 |[],[],_,_=>rfl
 |[],y::m,_,h=>by grind[bY]
 |x::l,[],_,h=>by grind[bY]
 |x::l,y::m,c,h=>by
  injection h with h1 d;rw[c x (.head _) y (.head _) h1,EV (λa e b f=>c a (.tail _ e) b (.tail _ f)) d]
theorem P5{l m:I ab}(ak:l.length=m.length)(h:∀i,i<l.length->l.getD i aI=m.getD i aI):l=m:=by
 grind[List.ext_getElem]
theorem KA{n:Nat}:∀{ms:I aT} {l:I ab},(∀x,x∈l->∀t,(bM ts t x).length<n)->∀f,f∈dK ts ms l->f.p.length<n
 |[],l,_,f,a=>by grind[dK]
 |m::ms,[],_,f,a=>by grind[dK]
 |m::ms,v::l,h,f,a=>by
  rw[dK]at a;split at a;exact KA (λx aa=>h x (.tail _ aa)) f a
  . rcases fk.1 a with rfl|a
    grind;exact KA (λx aa=>h x (.tail _ aa)) f a
theorem ahr{a b:I ab}{j k:I ct}(u:hY ms)(o:iU ms j)(p:iU ms k)(B:a.length=ms.length)(C:b.length=ms.length)
 (z:∀f,f∈fD ts ms a j->vP f)(A:∀f,f∈fD ts ms b k->vP f)
 (ih:∀i,i<ms.length->bM ts (ms.getD i aF).aC (a.getD i aI)=bM ts (ms.getD i aF).aC (b.getD i aI)->a.getD i aI=b.getD i aI)
 (h:(hO fE (fD ts ms a j)).flatMap Fd.text=(hO fE (fD ts ms b k)).flatMap Fd.text):a=b/\j=k:=by
 have e:=P2 (λf c=>z f ((kd fE _).mem_iff.1 c)) (λf c=>A f ((kd fE _).mem_iff.1 c)) h;have ar:(fD ts ms a j).Perm (fD ts ms b k):=(kd fE _).symm.trans (e▸kd fE _);have y:∀{l:I ab} {r:I ct},iU ms r->∀x,cB x.ah->cx ms x.ah=none->jb x∈fD ts ms l r->x∈r:=by
  intro l r v x aa aL D;rcases gj.1 D with h1|h1;obtain⟨m,d,n⟩:=u1 h1;have:=mv aL m d;have n:x.ah.toNat=m.ah.toNat:=n;grind[cB]
  . obtain⟨q,d,n⟩:=fl.1 h1;have:q=x:=by
     cases q;cases x;grind[jb,Fd.mk.injEq,cB]
    grind
 refine⟨P5 (by omega) λi E=>?_,ahq o.1 p.1 λx=>⟨λaa=>?_,λaa=>?_⟩⟩
 . have t:i<ms.length:=(by omega);have c:=ar.filter λx=>(x.id=(ms.getD i aF).ah.toNat:J)
   have w:∀{r:I ct},iU ms r->((r.map jb).filter λx=>(x.id=(ms.getD i aF).ah.toNat:J))=[]:=by
    intro r v;rw[List.filter_eq_nil_iff];intro f c;obtain⟨q,d,rfl⟩:=fl.1 c;have n:=v.2 q d;grind[mv,cB,jb]
   unfold fD at c;rw[HI,HI,w o,w p,nT,nT,Ba (Bi u) B t rfl,Ba (Bi u) C t rfl]at c;by_cases s:dm (ms.getD i aF) (a.getD i aI)=true
   . by_cases g:dm (ms.getD i aF) (b.getD i aI)=true
     unfold dm at s g;grind;rw[ag s,aq g]at c;simp_all
   . by_cases g:dm (ms.getD i aF) (b.getD i aI)=true
     rw[aq s,ag g]at c;simp_all;rw[aq s,aq g]at c;simp_all
 obtain⟨h1,d⟩:=o.2 x aa;exact y p x h1 d (ar.mem_iff.1 (Hy _ (HF aa)));obtain⟨h1,d⟩:=p.2 x aa;exact y o x h1 d (ar.mem_iff.2 (Hy _ (HF aa)))
theorem ago(H:lB ts){a:ab}(au:cz a):∀{t:Int} {b:ab},cz b->wt a<=1099511627776->wt b<=1099511627776->dL ts false t a->dL ts false t b->bM ts t a=bM ts t b->a=b:=by
 induction au with
 |mk a hs h1 C a0 aG E aL dF ba bb bc aO aN=>
  intro t b V bh bi J gE e;have a3:=iA a;have a4:=iA b;have a1:=V;cases V with
  |mk _ gs g1 g2 g3 R Q ar a5 a7 a8 a9=>
  have P:∀x,x∈a.aw->∀t,(bM ts t x).length<18446744073709551616:=λx aa t=>by have:=o0 H (E x aa) (by have:=e9 aa;omega) t;omega
  have aS:∀x,x∈a.a'->∀t,(bM ts t x).length<18446744073709551616:=λx aa t=>by have:=o0 H (aG x aa) (by have:=e9 aa;omega) t;omega
  have zg:∀x,x∈b.aw->∀t,(bM ts t x).length<18446744073709551616:=λx aa t=>by have:=o0 H (Q x aa) (by have:=e9 aa;omega) t;omega
  have aR:∀x,x∈b.a'->∀t,(bM ts t x).length<18446744073709551616:=λx aa t=>by have:=o0 H (R x aa) (by have:=e9 aa;omega) t;omega
  have D:∀{t:Int} x,x∈a.aw->∀y,y∈b.aw->dL ts false t x->dL ts false t y->bM ts t x=bM ts t y->x=y:=λx aa y al f g=>aN x aa (Q y al) (by have:=e9 aa;omega) (by have:=e9 al;omega) f g;have ao:∀{t:Int} x,x∈a.a'->∀y,y∈b.a'->dL ts false t x->dL ts false t y->bM ts t x=bM ts t y->x=y:=λx aa y al f g=>aO x aa (R y al) (by have:=e9 aa;omega) (by have:=e9 al;omega) f g;obtain⟨⟨bd,be,an,_⟩,J⟩:=(hp _ _ _).1 J;obtain⟨⟨_,_,aT,_⟩,gE⟩:=(hp _ _ _).1 gE;have aD:t.toNat<ts.length:=by omega
  have M:=bp aD aM;have W:=λv=>@pg ts t v;have X:=λv=>@q2 ts t v;have a2:=λv=>@q3 ts t v;have Y:=λv=>@q4 ts t v;have Z:=λv=>@sZ ts t v;have ad:=λv=>@q5 ts t v;have ag:=λv=>@q6 ts t v;have ai:=λv=>@q7 ts t v;have am:=λv=>@q8 ts t v;have U:=H.A _ M;have aH:=H.S _ M;have dE:=H.T _ M;generalize ts.getD t.toNat aM=x at*;have B:a.ae=b.ae->a.cp=b.cp->a.bF=b.bF->a.bW=b.bW->a.ah=b.ah->a.a'=b.a'->a.aw=b.aw->a.a6=b.a6->a=b:=by
   intro aK s dB aZ iW jU tx e8;cases a;cases b;simp_all
  have w:a.ae=b.ae:=an.trans aT.symm;rcases J with⟨k,c1,c2,c3,c4,c5,n⟩|⟨k,c1,c2,c3,c4,c5,n,p,u⟩|⟨k,c1,c2,c3,c4,c5,n,p⟩|⟨k,c1,c2,c3,c4,c5,n,p⟩|⟨k,c1,c2,c3,c4,c5,n,p⟩|⟨k,c1,c2,c3,c4,c5⟩|⟨k,c1,c2,c3,c4,c5,n,p,u⟩|⟨k,c1,c2,c3,c4,c5,n,p,u,ap,aY⟩|⟨k,c1,c2,c3,c4,c5,n,p,u⟩ <;>
  rcases gE with⟨l,d1,d2,d3,d4,d5,d6⟩|⟨l,d1,d2,d3,d4,d5,d6,d7,d8⟩|⟨l,d1,d2,d3,d4,d5,d6,d7⟩|⟨l,d1,d2,d3,d4,d5,d6,d7⟩|⟨l,d1,d2,d3,d4,d5,d6,d7⟩|⟨l,d1,d2,d3,d4,d5⟩|⟨l,d1,d2,d3,d4,d5,d6,d7,d8⟩|⟨l,d1,d2,d3,d4,d5,d6,d7,d8,d9,d10⟩|⟨l,d1,d2,d3,d4,d5,d6,d7,d8⟩ <;>
  (first|(exfalso;omega)|skip)<;>have j:=an.symm.trans k
  rw[W _ j,W _ j]at e;grind
  . rw[X _ j,X _ j]at e;have:=P3 e;refine B w (c1.trans d1.symm) (KJ ?_) (c2.trans d2.symm) (c3.trans d3.symm) (c4.trans d4.symm) (c5.trans d5.symm) (n.trans d6.symm);have z1:0<=fZ a.bF:=by unfold fZ;split<;>omega
    have z2:0<=fZ b.bF:=by unfold fZ;split<;>omega
    omega
  grind
  . rw[Y _ j,Y _ j]at e;have:=P3 e;refine B w (c1.trans d1.symm) (c2.trans d2.symm) (c3.trans d3.symm) ?_ (c4.trans d4.symm) (c5.trans d5.symm) (n.trans d6.symm);have key:∀{v:ab},((∃y,y∈x.bf/\y.ah=v.ah)\/x.bt/\false=false/\cB v.ah)->cB v.ah:=(by grind);have N:=key p;have O:=key d7;unfold cB at N O;omega
  . rw[Z _ j,Z _ j]at e;obtain⟨F,aI⟩:=U (.inl j);obtain⟨aA,aB⟩:=jR.1 p;obtain⟨aE,aF⟩:=jR.1 d7;have ok:∀{l:I ab} {r:I ct},(∀y,y∈l->∀t,(bM ts t y).length<18446744073709551616)->iU x.af r->(∀y,y∈r->y.b5.length<=reachBytes)->∀f,f∈fD ts x.af l r->vP f:=by
     intro l r ak aJ ax f o;refine⟨(Ja F aJ o).2,?_⟩;rcases gj.1 o with h|h;exact KA ak f h;obtain⟨q,C,rfl⟩:=fl.1 h;have:=ax q C;show q.b5.length<_;unfold reachBytes at this;omega
    obtain⟨aK,s⟩:=ahr F n d6 aA aE (ok P n aL) (ok zg d6 ar) (λi E=>D _ (bp (by omega) _) _ (bp (by omega) _) (aB i E) (aF i E)) e;grind
  . rw[ad _ j,ad _ j]at e;obtain⟨F,aI⟩:=U (.inr j)
    have key:∀ {v:ab},(match cx x.af v.ah with
     |some m=>v.a6=[]/\v.aw.length=1/\fp ts false m.aC v.aw
     |none=>x.bt=true/\false=false/\cB v.ah/\v.aw=[]/\∃d,v.a6=[⟨v.ah,d⟩])->cB v.ah:=by
     intro v h;split at h;rename_i m o;have h1:=xR o;have C:=Dm o;simp only[gP]at C;rw[<-C];exact F.2 m h1;exact h.2.2.1
    have N:=key c5;have O:=key d5;have aP:=N;have aQ:=O;unfold cB at aP aQ;obtain⟨aK,s⟩:=Lh (by omega) (by omega) e;have aq:a.ah=b.ah:=(by omega);rw[aq]at c5 s;cases o:cx x.af b.ah with
    |some m=>
     simp only[o]at c5 d5 s;obtain⟨bg,aU,aV⟩:=c5;obtain⟨s1,aW,aX⟩:=d5;obtain⟨y,al⟩:∃y,a.aw=[y]:=Hv.1 aU;obtain⟨z,c⟩:∃y,b.aw=[y]:=Hv.1 aW;rw[al,c,bY,bY]at s;have:=D y (by rw[al];exact .head _) z (by rw[c];exact .head _) (dv.1 aV y (by rw[al];exact .head _)) (dv.1 aX z (by rw[c];exact .head _)) s;grind
    |none=>grind
  rw[ag _ j,ag _ j]at e;have o:=dv.1 u;have av:=dv.1 d8;have aK:=P1 (λy al=>by rw[u0]at al;obtain⟨z,c,rfl⟩:=fl.1 al;exact P z c _) (λy al=>by rw[u0]at al;obtain⟨z,c,rfl⟩:=fl.1 al;exact zg z c _) e;exact B w (c1.trans d1.symm) (c2.trans d2.symm) (c3.trans d3.symm) (c4.trans d4.symm) (c5.trans d5.symm) (EV (λy al z c=>D y al z c (o y al) (av z c)) aK) (n.trans d6.symm)
  . rw[ai _ j,ai _ j]at e;have o:=dv.1 ap;have av:=dv.1 d9;have ay:=dv.1 u;have az:=dv.1 d8;have G:∀{l:I ab} {t:Int},(∀y,y∈l->∀t,(bM ts t y).length<18446744073709551616)->∀y,y∈bY ts t l->y.length<18446744073709551616:=λak y al=>by rw[u0]at al;obtain⟨z,c,rfl⟩:=fl.1 al;exact ak z c _
    obtain⟨aK,s⟩:=Sr (G aS) (G P) (G aR) (G zg) (by rw[lf,lf];omega) (by rw[lf,lf];omega) e;exact B w (c1.trans d1.symm) (c2.trans d2.symm) (c3.trans d3.symm) (c4.trans d4.symm) (EV (λy al z c=>ao y al z c (ay y al) (az z c)) aK) (EV (λy al z c=>D y al z c (o y al) (av z c)) s) (c5.trans d5.symm)
  . rw[am _ j,am _ j]at e;have o:=dv.1 u;have av:=dv.1 d8;refine B w (c1.trans d1.symm) (c2.trans d2.symm) (c3.trans d3.symm) (c4.trans d4.symm) (c5.trans d5.symm) ?_ (n.trans d6.symm)
    match K:a.aw,L:b.aw,p,d7 with
    |[],[],_,_=>rfl
    |[],z::_,_,_=>rw[K,L,bY,bY]at e;cases e
    |y::_,[],_,_=>rw[K,L,bY,bY]at e;cases e
    |[y],[z],_,_=>
     rw[K,L,bY,bY]at e;injection e with _ e;grind
    |_::_::_,_,h,_=>simp at h
    |[_],_::_::_,_,h=>simp at h
theorem ach(p:au):p.length<=(dC p).length:=by grind[dC]
theorem Eg:∀{l:I au},p∈l->p.length<=(l.flatMap dC).length
 |q::l,h=>by
  rw[hf,ea];rcases fk.1 h with rfl|h;grind[ach];have:=Eg h;omega
theorem Nn:∀{a b:au} {x y:UInt8},a.length=b.length->Op.bytesLess a b->Op.bytesLess (a++[x]) (b++[y])=true
 |[],[],_,_,_,h=>by grind[Op.bytesLess]
 |p::a,q::b,x,y,ak,h=>by
  simp[Op.bytesLess]at h⊢;rcases h with h|⟨h1,c⟩;grind;exact .inr ⟨h1,Nn (by grind) c⟩
theorem Pj:∀(a:au) {x y:UInt8},x<y->Op.bytesLess (a++[x]) (a++[y])=true
 |[],x,y,h=>by grind[Op.bytesLess]
 |p::a,x,y,h=>by simp[Op.bytesLess,Pj a h]
theorem EH{a b:au}:kh a b↔a.length<b.length\/a.length=b.length/\Op.bytesLess a b:=by
 grind[kh]
theorem Pk:∀(m n:Nat),n<m->kh (eD n) (eD m):=by
 intro m;induction m using Nat.strongRecOn with
 |ind m ih=>
  intro n h;rw[EH];have em:eD m=eD (m/256)++[UInt8.ofNat (m%256)]:=by rw[eD,b9]
  by_cases h0:n=0
  . have:eD 0=[]:=by rw[eD,ag rfl]
    grind
  . have a:eD n=eD (n/256)++[UInt8.ofNat (n%256)]:=by rw[eD,aq h0]
    by_cases b:n/256<m/256;grind[EH,Nn];grind[Pj,UInt8.lt_iff_toNat_lt,nz]
theorem Pl{a b:ab}(l:1<=(ts.getD t.toNat aM).ae/\(ts.getD t.toNat aM).ae<=4)(f:cz a)(g:cz b)(d:a.ae=(ts.getD t.toNat aM).ae)(p:b.ae=(ts.getD t.toNat aM).ae)
 (q:0<=a.ah\/a.ae≠4)(r:0<=b.ah\/b.ae≠4)(h:iz a b<0):kh (bM ts t a) (bM ts t b)=true:=by
 cases f with|mk _ _ _ _ _ _ _ _ _ j _ _=>
 cases g with|mk _ _ _ _ _ _ _ _ _ i _ _=>
 have c:=λv=>@pg ts t v;have m:=λv=>@q2 ts t v;have n:=λv=>@q3 ts t v;have o:=λv=>@q4 ts t v;generalize (ts.getD t.toNat aM).ae=k at*;unfold iz at h;rw[ny]at h;rw[aq (by grind)]at h;by_cases bj:k=1
 . rw[ag (by simp[d,bj])]at h;rw[c _ bj,c _ bj];cases e:a.cp<;>cases dM:b.cp<;>rw[e,dM]at h<;>first|(exfalso;revert h;decide)|decide
 . rw[aq (by grind)]at h;by_cases bq:k=2
   rw[ag (by simp[d,bq]),sx j,sx i]at h;simp only[a7,ay,GP,qR]at h;grind[fZ,Pk]
   . rw[aq (by grind)]at h;by_cases b4:k=3
     simp only[a7,ay,wb,GQ,HP,qR]at h;grind[EH];simp only[a7,ay,wb,qR]at h;grind[Pk]
theorem EI{ts:I aj}:∀{ms:I aT} {l:I ab} {x:Fd},x∈dK ts ms l->∃j,j<ms.length/\j<l.length/\dm (ms.getD j aF) (l.getD j aI)=false/\x=⟨(ms.getD j aF).ah.toNat,(ms.getD j aF).bV,bM ts (ms.getD j aF).aC (l.getD j aI)⟩
 |[],l,x,h=>by
  grind[dK]
 |m::ms,[],x,h=>by
  grind[dK]
 |m::ms,v::l,x,h=>by
  rw[dK]at h;split at h;obtain⟨j,h1,a,b,c⟩:=EI h;exact⟨j+1,by grind,by grind,by grind,by grind⟩
  . rcases fk.1 h with rfl|h
    exact⟨0,by simp,by simp,by grind,rfl⟩;obtain⟨j,h1,a,b,c⟩:=EI h;exact⟨j+1,by grind,by grind,by grind,by grind⟩
theorem qf(h:hY ms){a b:aT}(c:a∈ms)(d:b∈ms)(e:a.ah=b.ah):a=b:=by
 obtain⟨i,f,rfl⟩:=hE c;obtain⟨j,g,rfl⟩:=hE d;have key:=vh.1 h.1;grind
theorem jS{m:aT}(h:cx ms id=some m):m∈ms/\m.ah=id:=
 ⟨xR h,by simpa using Dm h⟩
theorem FR(c:hY ms){m:aT}(h:m∈ms):cx ms m.ah=some m:=by
 cases a:cx ms _ with
 |none=>grind[mv]
 |some q=>
  obtain⟨h1,b⟩:=jS a;grind[qf]
theorem uW{ts:I aj}{t:Int}:∀{l:I ab} {x:ab},x∈l->eW ts t x<=gR ts t l
 |v::l,x,h=>by
  rw[gR];rcases fk.1 h with rfl|h;omega;have:=uW (ts:=ts) (t:=t) h;omega
theorem J9{ts:I aj}:∀{ms:I aT} {l:I ab} {j:Nat},j<ms.length->j<l.length->dm (ms.getD j aF) (l.getD j aI)=false->eW ts (ms.getD j aF).aC (l.getD j aI)<=jn ts ms l
 |m::ms,v::l,0,_,_,a=>by
  simp at a⊢;rw[jn,aq (by grind)];omega
 |m::ms,v::l,j+1,h1,b,a=>by
  simp at a⊢;have:=J9 (ts:=ts) (by grind) (by grind) a;grind[jn]
theorem J':∀{a b:I au} {i:Nat},a.length=b.length->i<a.length->(l6 a b).getD (2*i) []=a.getD i []/\(l6 a b).getD (2*i+1) []=b.getD i []
 |p::a,q::b,0,_,_=>by simp[l6]
 |p::a,q::b,i+1,ak,c=>by
  have:=J' (a:=a) (b:=b) (i:=i) (by grind) (by grind);grind[l6]
theorem Ss{l:I au}(h:(l.flatMap dC).length<=90000):hy (l.flatMap dC)=some l:=by
 grind[N6,Qo,hy,lb]
theorem agp{l:I Fd}(c:l.Pairwise (λa b=>a.id<b.id))(d:∀f,f∈l->1<=f.id/\f.id<=1000)(h:(l.flatMap Fd.text).length<=90000):iM (l.flatMap Fd.text)=some (l.map C0):=by
 have ak:=N7 l;have bJ:=PY l 0 [] c (λf h=>⟨by grind,(d f h).2⟩) (by omega) (by grind);grind[iM,mE]
theorem Tw{n:Nat}(h:1<=n/\n<=1000)(rest:au):jI (e5 n++rest)=some ((n:Int),rest):=by
 unfold jI;have a:=mx (BR (n:=n) (by omega) rest) (by simp);rw[mu,a];simp;rw[aq (by grind),Cl (by simp) (by omega)];rfl
theorem w7{l:I ab}{i:Nat}(h:i<l.length):(bY ts t l).getD i []=bM ts t (l.getD i aI):=by
 grind[u0]
theorem BV{b c n r:Nat}(h:a=1+max n b)(e:a<=r+1)(d:c<=b):c<=r:=by omega
theorem ahs{b c r:Nat}(h:a=1+max 1 b)(e:a<=r+1)(d:c=1):c<=r:=by omega
theorem agq{b n:Nat}(h:n=a+b)(e:a=b):n%2=0/\n/2=a:=by omega
theorem aht{i n:Nat}(h:2*i+1<n)(e:n/2=a):i<a:=by omega
theorem agr{r:Nat}{a b:I au}(ak:a.length=b.length)(o:(a.length:Int)<=x.Max)(e:((l6 a b).flatMap dC).length<=90000)
 (bS:∀i,i<a.length->(a.getD i []).length<=90000->ec ts r x.aS (a.getD i []))(n:∀i,i<a.length->(b.getD i []).length<=90000->ec ts r x.aE (b.getD i []))(aH:∀i,i+1<a.length->kh (a.getD i []) (a.getD (i+1) [])):
 ∃l,hy ((l6 a b).flatMap dC)=some l/\l.length%2=0/\((l.length/2:Nat):Int)<=x.Max/\∀i,2*i+1<l.length->ec ts r x.aS (l.getD (2*i) [])/\ec ts r x.aE (l.getD (2*i+1) [])/\(0<i->kh (l.getD (2*i-2) []) (l.getD (2*i) [])):=by
 obtain⟨aK,m⟩:=agq (P0 a b ak) ak;refine⟨_,Ss e,aK,by grind,λi c=>?_⟩;have d:=aht c m;obtain⟨g,j⟩:=J' ak d;have f:=hF (Eg (bp (Nat.lt_of_succ_lt c) [])) e;have l2:=hF (Eg (bp c [])) e;rw[g]at f;rw[j]at l2;rw[g,j];refine⟨bS i d f,n i d l2,λh0=>?_⟩;obtain⟨k,rfl⟩:∃k,i=k+1:=⟨i-1,by grind⟩;grind[J']
set_option maxHeartbeats 1000000 in
theorem adY(H:dn ts)(bl:cz v):∀{t:Int} {r:Nat},wt v<=1099511627776->(bM ts t v).length<=90000->dL ts false t v->eW ts t v<=r->ec ts r t (bM ts t v):=by
 have aH:=H.V.ic H.T;induction bl with
 |mk v hs h1 ad a4 am aB bj dF Z bw bx br bq=>
  intro t r bJ o K N;have bK:=iA v;have bG:cz v:= .mk v hs h1 ad a4 am aB bj dF Z bw bx;have bI:=u6 (ts:=ts) t v;obtain⟨r,rfl⟩:∃q,r=q+1:=⟨r-1,by omega⟩;obtain⟨⟨g1,g2,g3,_⟩,K⟩:=(hp _ _ _).1 K;obtain⟨j,rfl⟩:∃j:Nat,t=(j:Int):=⟨t.toNat,by omega⟩
  have bd:j<ts.length:=by omega
  have O:=bp bd aM;have s:=qj (ts:=ts) (j:Int) v;have aN:=@pg ts (j:Int) v;have aO:=@q2 ts (j:Int) v;have bm:=@q3 ts (j:Int) v;have aP:=@q4 ts (j:Int) v;have aQ:=@sZ ts (j:Int) v;have aR:=@q5 ts (j:Int) v;have aT:=@q6 ts (j:Int) v;have aU:=@q7 ts (j:Int) v;have aV:=@q8 ts (j:Int) v;simp only[bo]at K g3 s aN aO bm aP aQ aR aT aU aV;have ax:=aH.A _ O;have a7:=aH.oa _ O;have bH:=aH.S _ O;have a5:=H.D _ O;have eh:=H.W _ O;have dE:=H.T _ O;obtain⟨c1,c2,c3,c4,c5,aZ,a0,a1,a2⟩:=Tv (ts:=ts) (r:=r) (j:=j) (p:=bM ts (j:Int) v) rfl;generalize ts.getD j aM=x at*;have P:∀{t:Int} x,x∈v.aw->(bM ts t x).length<=90000->dL ts false t x->eW ts t x<=r->ec ts r t (bM ts t x):=λx aa a b c=>bq x aa (by have:=e9 aa;omega) a b c;have aY:∀{t:Int} x,x∈v.a'->(bM ts t x).length<=90000->dL ts false t x->eW ts t x<=r->ec ts r t (bM ts t x):=λx aa a b c=>br x aa (by have:=e9 aa;omega) a b c;rcases K with⟨k,d1,d2,d3,d4,d5,d6⟩|⟨k,d1,d2,d3,d4,d5,d6,d7,d8⟩|⟨k,d1,d2,d3,d4,d5,d6,d7⟩|⟨k,d1,d2,d3,d4,d5,d6,d7⟩|⟨k,d1,d2,d3,d4,d5,d6,d7⟩|⟨k,d1,d2,d3,d4,d5⟩|⟨k,d1,d2,d3,d4,d5,d6,d7,d8⟩|⟨k,d1,d2,d3,d4,d5,d6,d7,d8,d9,d10⟩|⟨k,d1,d2,d3,d4,d5,d6,d7,d8⟩<;>rw[k]at g3<;>have e:=g3.symm
  . rw[c1 e,aN e];cases v.cp
    grind;grind
  rw[c2 e,aO e];have ao:=BS Z;exact⟨_,P4 ao,by rw[Sm Z];exact d7,by rw[Sm Z];exact d8⟩;grind;rw[c4 e,aP e];have hid:cB v.ah:=(by grind);unfold cB at hid;refine⟨_,P4 (by omega),by omega,?_⟩;grind
  . rw[c5 e];rw[aQ e]at o⊢;obtain⟨C,_⟩:=ax (.inl e);obtain⟨bc,aJ⟩:=jR.1 d7;rw[ag e,ag d5]at s;have a9:=Le (wW (ts:=ts) (l:=v.aw) C d6) (J8 C d6);have bk:∀f,f∈hO fE (fD ts x.af v.aw v.a6)->1<=f.id/\f.id<=1000:=λf h=>Ja C d6 ((kd fE _).mem_iff.1 h);have aG:∀f,f∈hO fE (fD ts x.af v.aw v.a6)↔f∈fD ts x.af v.aw v.a6:=λf=>(kd fE _).mem_iff;generalize hO fE (fD ts x.af v.aw v.a6)=l at*;refine⟨_,agp a9 bk o,λf K=>?_,λm B Q=>?_⟩
    . obtain⟨g,av,rfl⟩:=fl.1 K;have bb:=Pg av;rcases gj.1 ((aG g).1 av)with h|h
      . obtain⟨i,X,aX,Y,rfl⟩:=EI h;have M:=bp X aF;have an:=bp aX aI;have hid:=C.2 _ M;have E:(((x.af.getD i aF).ah.toNat:Nat):Int)=(x.af.getD i aF).ah:=by unfold cB at hid;omega
        have R:=J9 (ts:=ts) X aX Y;refine⟨λaL=>?_,λm B=>?_⟩;have aL:cx x.af (((x.af.getD i aF).ah.toNat:Nat):Int)=none:=aL;rw[E,FR C M]at aL;cases aL;have B:cx x.af (((x.af.getD i aF).ah.toNat:Nat):Int)=some m:=B;rw[E,FR C M]at B;cases B;have bn:eW ts (x.af.getD i aF).aC (v.aw.getD i aI)<=r:=(by exact BV s N R);have bu:=P (t:=(x.af.getD i aF).aC) _ an (hF bb o) (aJ i X) bn;refine⟨rfl,bu,λQ he=>?_⟩;have he:bM ts (x.af.getD i aF).aC (v.aw.getD i aI)=bM ts (x.af.getD i aF).aC (x.af.getD i aF).bC:=he;have:=ago aH (aB _ an) (dE.iw _ M) (by have:=e9 an;omega) (by have:=eh _ M Q;omega) (aJ i X) (agm (a5 _ M Q) false) he;unfold dm at Y;rw[Q,this]at Y;simp at Y
      . obtain⟨q,ad,rfl⟩:=fl.1 h;obtain⟨ar,bE⟩:=d6.2 q ad;have E:((q.ah.toNat:Nat):Int)=q.ah:=by unfold cB at ar;omega
        refine⟨λ_=>rfl,λm B=>?_⟩;have B:cx x.af ((q.ah.toNat:Nat):Int)=some m:=B;rw[E,bE]at B;cases B
    . obtain⟨i,G,he⟩:=hE B;have em:x.af.getD i aF=m:=by rw[Hq,fm G,he];rfl
      have hid:=C.2 _ B;have aA:=Ba (ts:=ts) (l:=v.aw) (n:=m.ah.toNat) (Bi C) bc G (by rw[em]);rw[em,aq (by unfold dm;simp[Q])]at aA;have bg:(⟨m.ah.toNat,m.bV,bM ts m.aC (v.aw.getD i aI)⟩:Fd)∈dK ts x.af v.aw:=by
       have:(⟨m.ah.toNat,m.bV,bM ts m.aC (v.aw.getD i aI)⟩:Fd)∈(dK ts x.af v.aw).filter λx=>(x.id=m.ah.toNat:J):=by rw[aA];exact .head _
       exact(vl.1 this).1
      refine⟨C0 _,HF ((aG _).2 (List.mem_append_left _ bg)),?_⟩;show((m.ah.toNat:Nat):Int)=m.ah;unfold cB at hid;omega
  . rw[aZ e];rw[aR e]at o⊢;obtain⟨C,_⟩:=ax (.inr e);rw[aq (show ¬x.ae=5 by rw[e];decide),ag e,ag d4]at s;cases L:cx x.af v.ah with
    |some m=>
     simp only[L]at d5 o s⊢;obtain⟨aK,a3,dB⟩:=d5;obtain⟨f1,f2⟩:=jS L;have hid:=C.2 _ f1;rw[f2]at hid;unfold cB at hid;have E:((v.ah.toNat:Nat):Int)=v.ah:=(by omega);obtain⟨y,al⟩:∃y,v.aw=[y]:=Hv.1 a3;have u:y∈v.aw:=by rw[al];exact .head _
     have R:=uW (ts:=ts) (t:=m.aC) u;rw[al,bY]at o⊢;rw[ea]at o;refine⟨_,_,Tw (by omega) _,λaL=>?_,λq F=>?_⟩;rw[E,L]at aL;cases aL;rw[E,L]at F;cases F;exact P y u (by show(bM ts m.aC y).length<=_;have o:(e5 v.ah.toNat).length+(bM ts m.aC y).length<=90000:=o;omega) (dv.1 dB y u) (BV s N R)
    |none=>
     simp only[L]at d5⊢;obtain⟨aK,_,dB,bF,d,iW⟩:=d5;unfold cB at dB;have E:((v.ah.toNat:Nat):Int)=v.ah:=(by omega);refine⟨_,_,Tw (by omega) _,λ_=>aK,λq F=>?_⟩;rw[E,L]at F;cases F
  rw[a0 e];rw[aT e]at o⊢;rw[aq (show ¬x.ae=5 by rw[e];decide),aq (show ¬x.ae=6 by rw[e];decide),ag d5]at s;refine⟨_,Ss o,by rw[lf];exact d7,λq F=>?_⟩;have bi:=Eg F;rw[u0]at F;obtain⟨y,al,rfl⟩:=fl.1 F;have:=uW (ts:=ts) (t:=x.aE) al;exact P y al (hF bi o) (dv.1 d8 y al) (BV s N this)
  . rw[a1 e];rw[aU e,PZ]at o⊢;have be:(bY ts x.aS v.a').length=(bY ts x.aE v.aw).length:=by rw[lf,lf];exact d7.symm
    have U:=lf (ts:=ts) (l:=v.a') (t:=x.aS);rw[aq (show ¬x.ae=5 by rw[e];decide),aq (show ¬x.ae=6 by rw[e];decide)]at s;obtain⟨bs,bv⟩:=a7 e;have az:=dv.1 d8;have ap:∀y,y∈v.a'->eW ts x.aS y=1/\y.ae=(ts.getD x.aS.toNat aM).ae/\(0<=y.ah\/y.ae≠4):=λy al=>by
     obtain⟨⟨b1,b2,au,_⟩,b⟩:=(hp _ _ _).1 (az y al);refine⟨by apply oR<;>grind,au,?_⟩;have a8:=aH.S _ (bp (show x.aS.toNat<ts.length by clear o;omega) aM);by_cases cv:y.ae=4
     . left;have ba:(∃z,z∈(ts.getD x.aS.toNat aM).bf/\z.ah=y.ah)\/(ts.getD x.aS.toNat aM).bt/\false=false/\cB y.ah:=(by grind);rcases ba with⟨z,ao,he⟩|⟨_,_,he⟩
       have:=a8 (au.symm.trans cv) z ao;unfold cB at this;clear o;omega;unfold cB at he;clear o;omega
     exact .inr cv
    refine agr be (by rw[U];exact d6) o (λi G ak=>?_) (λi G ak=>?_) (λi G=>?_)
    . have w:i<v.a'.length:=U▸G;have u:=bp w aI;rw[w7 w]at ak⊢;obtain⟨ar,_⟩:=ap _ u;have bh:v.a'≠[]:=by intro h;rw[h]at w;cases w
      rw[aq bh]at s;exact aY _ u ak (az _ u) (ahs s N ar)
    . have w:i<v.aw.length:=by rw[d7];exact U▸G
      have ai:=bp w aI;rw[w7 w]at ak⊢;have R:=uW (ts:=ts) (t:=x.aE) ai;exact P _ ai ak (dv.1 d9 _ ai) (BV s N R)
    have w:i+1<v.a'.length:=U▸G;have aD:i<v.a'.length:=Nat.lt_of_succ_lt w;rw[w7 w,w7 aD];have u:=bp w aI;have aW:=bp aD aI;obtain⟨_,bz,bA⟩:=ap _ aW;obtain⟨_,bB,bD⟩:=ap _ u;exact Pl ⟨bs,bv⟩ (am _ aW) (am _ u) bz bB bA bD (d10 i w)
  . rw[a2 e];rw[aV e]at o⊢;rw[aq (show ¬x.ae=5 by rw[e];decide),aq (show ¬x.ae=6 by rw[e];decide),ag d5]at s
    match ay:v.aw with
    |[]=>rw[bY];exact .inl rfl
    |y::l=>
     have u:y∈v.aw:=by rw[ay];exact .head _
     rw[ay,bY]at o;rw[bY];have:=uW (ts:=ts) (t:=x.aE) u;refine .inr ⟨_,rfl,P y u ?_ (dv.1 d8 y u) (BV s N this)⟩;have o:(bM ts x.aE y).length+1<=90000:=o;omega
def Qz(ts:I aj)(t:Int)(v:ab):Prop:=dL ts false t v/\cz v/\wt v<=2147483648
theorem P6{a:ab}(h:cz a)(b:ab):fC (xl (a,b)) a b:=by
 obtain⟨r,h1,c⟩:=Fs h b;refine⟨r,?_,c⟩;rw[xl];simp only[ab.bN];rw[h1];rfl
theorem P7{a:ab}(h:cz a)(b:ab):fC (nC (a,b)) a b:=OT h b
theorem ags:cz (⟨0,false,0,[],0,[],[],[]⟩:ab):= .mk _ (by simp) (by simp) (by simp) (by simp) (λx h=>by cases h) (λx h=>by cases h) (λx h=>by cases h) (by simp) (by simp) (by simp) (λx h=>by cases h)
def cR{α c:Type}(f:α->ai c):I α->ai (I c)
 |[]=>some []
 |a::l=>match f a,cR f l with
  |some b,some m=>some (b::m)
  |_,_=>none
def fu{α:Type}:I α->I α
 |a::_::l=>a::fu l
 |_=>[]
def gr{α:Type}:I α->I α
 |_::b::l=>b::gr l
 |_=>[]
def pA(ks:I ab):J:=(List.range (ks.length-1)).all λi=>(iz (ks.getD i aI) (ks.getD (i+1) aI)<0:J)
theorem x9:pA ks↔nI ks:=by
 unfold pA nI;grind
def ds(ts:I aj):Nat->Int->au->ai ab
 |0,_,_=>none
 |n+1,t,p=>
  let x:=ts.getD t.toNat aM
  if x.ae=1 then(if p=[]then some ⟨1,false,0,[],0,[],[],[]⟩else ite (p=[1]) (some ⟨1,true,0,[],0,[],[],[]⟩) none)else if x.ae=2 then(match gJ p with
   |some m=>ite (x.bA<=gI m/\gI m<=x.bI) (some ⟨2,false,gI m,[],0,[],[],[]⟩) none
   |none=>none)
  else if x.ae=3 then(ite ((p.length:Int)<=x.Max) (some ⟨3,false,0,p,0,[],[],[]⟩) none)else if x.ae=4 then(match gJ p with
   |some m=>ite (1<=m/\m<=1000/\((x.bf.any λy=>(y.ah=(m:Int):J))||x.bt)=true) (some ⟨4,false,0,[],(m:Int),[],[],[]⟩) none
   |none=>none)
  else if x.ae=9 then(match p with
   |[]=>some ⟨9,false,0,[],0,[],[],[]⟩
   |c::q=>ite (c=1) ((ds ts n x.aE q).map λv=>⟨9,false,0,[],0,[],[v],[]⟩) none)
  else if x.ae=6 then(match jI p with
   |some (id,q)=>(match cx x.af id with
    |some m=>(ds ts n m.aC q).map λv=>⟨6,false,0,[],id,[],[v],[]⟩
    |none=>ite x.bt (some ⟨6,false,0,[],id,[],[],[⟨id,q⟩]⟩) none)
   |none=>none)
  else if x.ae=7 then(match hy p with
   |some l=>ite ((l.length:Int)<=x.Max) ((cR (ds ts n x.aE) l).map λa=>⟨7,false,0,[],0,[],a,[]⟩) none
   |none=>none)
  else if x.ae=8 then(match hy p with
   |some l=>ite (l.length%2 = 0/\((l.length/2:Nat):Int)<=x.Max) (match cR (ds ts n x.aS) (fu l) with
    |some ks=>ite (pA ks) ((cR (ds ts n x.aE) (gr l)).map λa=>⟨8,false,0,[],0,ks,a,[]⟩) none
    |none=>none) none
   |none=>none)
  else(match iM p with
   |some l=>(match cR (λm:aT=>match l.find? (λf=>(f.ah = m.ah:J)) with
    |some f=>ds ts n m.aC f.b5
    |none=>ite m.bO (some m.bC) none) x.af with
    |some a=>ite (l.all λf=>(cx x.af f.ah).isSome || !f.bV) (some ⟨5,false,0,[],0,[],a,(l.filter λf=>!(cx x.af f.ah).isSome).map λf=>⟨f.ah,f.b5⟩⟩) none
    |none=>none)
   |none=>none)
section
variable {ts:I aj}
def gL(ts:I aj)(b1:az)(b2:Int)(so:az)(o:ai ab)(r:ai (ab×J×I aj×az×Int×az)):Prop:=
 (∀v,o=some v->r=some (v,true,ts,b1,b2,so))/\(o=none->∃w f1 f2,r=some (w,false,ts,f1,f2,so))
theorem Au(ar:so.length<=1000)(a:Int)(b1:az)(b2:Int):iq (a,ts,b1,b2,so)=some ((⟨0,false,0,[],0,[],[],[]⟩:ab),false,ts,a,so,so):=by
 rw[iq];unfold uP hc;rw[ag (qg (dQ (by omega) (by omega)))];simp
theorem x'{step:Int}{o:ai ab}(ar:so.length<=1000)(h:gL ts b1 b2 (so++[step]) o (pY (t,p,ts,b1,b2,so++[step]))):
 gL ts b1 b2 so o (jA (step,t,p,ts,b1,b2,so)):=by
 have key:∀w ok f1 f2,pY (t,p,ts,b1,b2,so++[step])=some (w,ok,ts,f1,f2,so++[step])->jA (step,t,p,ts,b1,b2,so)=some (w,ok,ts,f1,f2,so):=by
  intro w ok f1 f2 a;rw[jA];simp only[a7,ay];rw[ag (dQ),a];simp only[ay,ab.bN];have aK:dG .i64 ((so++[step]).length:Int) 1=(so.length:Int):=by rw[pD (by simp<;>omega) (by simp<;>omega)];simp
  rw[aK];have c:fI 0 (so.length:Int) (so++[step]).length:=jj.2 (by simp;omega);simp_all
 refine⟨λv b=>key _ _ _ _ (h.1 v b),λaL=>?_⟩;obtain⟨w,f1,f2,a⟩:=h.2 aL;exact⟨w,f1,f2,key _ _ _ _ a⟩
theorem nF{f:α->ai c}:∀{l:I α} {m:I c},cR f l=some m->m.length=l.length
 |[],m,h=>by rw[cR]at h;cases h;rfl
 |a::l,m,h=>by
  rw[cR]at h;split at h;rename_i b e h1 d;cases h;rw[kR,kR,nF d];cases h
theorem P8{l:I au}(ak:l.length<=90000)(h:∀q,q∈l->∀step b1 b2,gL ts b1 b2 so (f q) (jA (step,x.aE,q,ts,b1,b2,so)))
 {z0 z2 z4 a0 a2 a4:Int}{z1 a1:J}{z3 a3:au}{b1:az}{b2:Int}:∀(k i:Nat) (acc:I ab),i+k=l.length->acc.length=i->
 (∀m,cR f (l.drop i)=some m->uu (l,(l.length:Int),(i:Int),ts,b1,b2,x,z0,z1,z2,z3,z4,a0,a1,a2,a3,a4,so,acc)=some (.inr (ts,b1,b2,z0,z1,z2,z3,z4,a0,a1,a2,a3,a4,so,acc++m)))/\
 (cR f (l.drop i)=none->∃w f1 f2,uu (l,(l.length:Int),(i:Int),ts,b1,b2,x,z0,z1,z2,z3,z4,a0,a1,a2,a3,a4,so,acc)=some (.inl (false,ts,f1,f2,w,so)))
 |0,i,acc,d,c=>by
  rw[uu,eF,fA (by omega),cR];grind
 |k+1,i,acc,d,c=>by
  have aD:i<l.length:=by omega
  have a:=h _ (bp aD []) (i:Int) b1 b2;have e:l.drop i=l.getD i []::l.drop (i+1):=by rw[gA aD];exact mK aD
  rw[uu,c',ag (aX aD),bo,e,cR];cases b:f (l.getD i [])with
  |none=>
   obtain⟨w,f1,f2,n⟩:=a.2 b;simp_all
  |some v=>
   rw[a.1 v b];simp only[a7,ay,ab.bN,dX];rw[cN,ag (dQ),bP];obtain⟨o,j⟩:=P8 ak h (z0:=z0) (z1:=z1) (z2:=z2) (z3:=z3) (z4:=z4) (a0:=a0) (a1:=a1) (a2:=a2) (a3:=a3) (a4:=a4) (b1:=b1) (b2:=b2) k (i+1) (acc++[v]) (by omega) (by simp;omega);cases hs:cR f (l.drop (i+1))with
   |none=>exact⟨λm g=>by simp at g,λ_=>j hs⟩
   |some p=>grind
end
theorem FT{l:I ab}{i:Nat}(a:i<l.length):l.set i (l.getD i aI)=l:=by simp_all
theorem Pm{a0 a2 a4 z0 z2 z4:Int}{a1 z1:J}{a3 z3:au}{l l2:I ab}{r:I ct}(ak:l.length<=5000000000000)(h:∀y,y∈l->kc y=some y):∀(k i:Nat),i+k=l.length->
 uf ((l.length:Int),(i:Int),a0,a1,a2,a3,a4,z0,z1,z2,z3,z4,l,l2,r)=some (a0,a1,a2,a3,a4,z0,z1,z2,z3,z4,l,l2,r)
 |0,i,a=>by rw[uf,eF]
 |k+1,i,a=>by
  have aD:i<l.length:=by omega
  rw[uf,c',ag (aX aD),bo,c'];simp only[ab.bN];rw[h _ (bp aD aI)];simp only[a7,ay,ab.bN];rw[ag (aX aD),c',bP,FT aD];exact Pm ak h k (i+1) (by omega)
theorem Pn{a0 a2 a4 z0 z2 z4:Int}{a1 z1:J}{a3 z3:au}{l l2:I ab}{r:I ct}(ak:l.length<=5000000000000)(h:∀y,y∈l->kc y=some y):∀(k i:Nat),i+k=l.length->
 ug ((l.length:Int),(i:Int),a0,a1,a2,a3,a4,z0,z1,z2,z3,z4,l,l2,r)=some (a0,a1,a2,a3,a4,z0,z1,z2,z3,z4,l2,l,r)
 |0,i,a=>by rw[ug,eF]
 |k+1,i,a=>by
  have aD:i<l.length:=by omega
  rw[ug,c',ag (aX aD),bo,c'];simp only[ab.bN];rw[h _ (bp aD aI)];simp only[a7,ay,ab.bN];rw[ag (aX aD),c',bP,FT aD];exact Pn ak h k (i+1) (by omega)
theorem Cm:∀l:I ab,l.length<=fJ l
 |[]=>by simp
 |v::l=>by
  rw[nH,iA,kR];have:=Cm l;omega
theorem P9(l:I ct):l.length<=(l.map λx=>x.b5.length+1).sum:=by
 induction l with
 |nil=>simp
 |cons a l ih=>simp only[qT,List.sum_cons,kR];omega
theorem xG{k n:Nat}(a:k<=1000:=by omega)(h:n<=1000000000:=by omega):bR k n:=by
 unfold bR h4 dT;simp only[dr,gP];refine⟨?_,by omega⟩;have:(2*n+192)*k<=2000000192*1000:=Nat.mul_le_mul (by omega) a;omega
theorem aes(e:cz v):wt v<=1000000000->kc v=some v:=by
 induction e with
 |mk v hs h1 j k n m o dF u w x g f=>
  intro p;have q:=iA v;have s:=Cm v.a';have l2:=Cm v.aw;have t:=P9 v.a6;have kk:∀y,y∈v.a'->kc y=some y:=λy al=>g y al (by have:=e9 al;omega);have i:∀y,y∈v.aw->kc y=some y:=λy al=>f y al (by have:=e9 al;omega);have c1:hc 120 v.a'=some v.a':=by unfold hc;rw[ag (qg (xG))]
  have c2:hc 120 v.aw=some v.aw:=by unfold hc;rw[ag (qg (xG))]
  have c3:hc 24 v.a6=some v.a6:=by unfold hc;rw[ag (qg (xG))]
  have a:=Pm (a0:=v.ae) (a1:=v.cp) (a2:=v.bF) (a3:=v.bW) (a4:=v.ah) (z0:=0) (z1:=false) (z2:=0) (z3:=[]) (z4:=0) (l:=v.a') (l2:=v.aw) (r:=v.a6) (by omega) kk v.a'.length 0 (by omega);have c:=Pn (a0:=v.ae) (a1:=v.cp) (a2:=v.bF) (a3:=v.bW) (a4:=v.ah) (z0:=0) (z1:=false) (z2:=0) (z3:=[]) (z4:=0) (l:=v.aw) (l2:=v.a') (r:=v.a6) (by omega) i v.aw.length 0 (by omega);have b:uf ((v.a'.length:Int),0,v.ae,v.cp,v.bF,v.bW,v.ah,0,false,0,[],0,v.a',v.aw,v.a6)=_:=a;have d:ug ((v.aw.length:Int),0,v.ae,v.cp,v.bF,v.bW,v.ah,0,false,0,[],0,v.aw,v.a',v.a6)=_:=c;rw[kc,c1,c2,c3];simp only[a7,ay];rw[b];simp only[ay];rw[d];simp only[ay];cases v;rfl
section
variable {ts:I aj}
def yF(ts:I aj)(n:Nat):Prop:=∀(t:Int) (p:au) (b1:az) (b2:Int) (so:az),0<=t->t<ts.length->p.length<=4096->so.length+n=200->
 gL ts b1 b2 so (ds ts n t p) (pY (t,p,ts,b1,b2,so))
theorem ke(ar:so.length<=1000)(a:Int)(b1:az)(b2:Int):gL ts b1 b2 so none (iq (a,ts,b1,b2,so)>>=λr=>some (ab.eta r.1,r.2.1,r.2.2.1,r.2.2.2.2.2,r.2.2.2.1,r.2.2.2.2.1)):=by
 refine⟨λv h=>(by cases h),λ_=>?_⟩;rw[Au ar];simp_all
theorem Hk(c:hY x.af)(ak:x.af.length<=1000){m:aT}(bJ:cx x.af id=some m):∃j,j<x.af.length/\hl (x,id)=some ((j:Int),true)/\x.af.getD j aF=m:=by
 obtain⟨b,e⟩:=jS bJ;obtain⟨r,f,g⟩:=AZ (t:=x) (id:=id) (by omega);rcases g with⟨j,a,d,_,rfl⟩|⟨q,_⟩;exact⟨j,a,f,qf c (bp a aF) b (by rw[d,e])⟩;obtain⟨i,k,rfl⟩:=hE b;grind
theorem aet(H:lB ts){n:Nat}(ih:yF ts n)(aa:x∈ts)(c7:x.ae=6)(dE:∀m,m∈x.af->0<=m.aC/\m.aC<ts.length)(ar:p.length<=4096)(D:so.length+(n+1)=200):
 gL ts b1 b2 so (match jI p with
  |some (id,q)=>(match cx x.af id with
   |some m=>(ds ts n m.aC q).map λv=>⟨6,false,0,[],id,[],[v],[]⟩
   |none=>if x.bt then some ⟨6,false,0,[],id,[],[],[⟨id,q⟩]⟩else none)
  |none=>none) (DP (x,p,ts,b1,b2,so)):=by
 obtain⟨o,l,s,u⟩:=Gp p;rw[DP,l];simp only[a7,ay];by_cases h0:o.2.2=0
 . obtain⟨v1,v2,v3⟩:=s h0;rw[aq (by simp[h0]),v1];dsimp only;obtain⟨f,B⟩:=H.A x aa (.inr c7);cases bJ:cx x.af o.1 with
   |some m=>
    obtain⟨j,a,b,k⟩:=Hk f (by omega) bJ;rw[b];simp only[ay];rw[ag trivial,ag (aX a),bo,k];obtain⟨t1,t2⟩:=dE m (jS bJ).1;have c:=x' (step:=o.1) (so:=so) (by omega) (ih m.aC o.2.1 b1 b2 (so++[o.1]) t1 t2 (by omega) (by simp;omega));cases d:ds ts n m.aC o.2.1 with
    |none=>
     obtain⟨w,f1,f2,i⟩:=c.2 d;rw[i];exact⟨λv h=>by simp at h,λ_=>⟨_,_,_,rfl⟩⟩
    |some v=>
     rw[c.1 v d]
     exact⟨λe h=>by
      have:e=⟨6,false,0,[],o.1,[],[v],[]⟩:=(by simpa using h.symm);rw[this]
      simp[ab.bN,c7],λh=>by simp at h⟩
   |none=>
    obtain⟨r,y,z⟩:=AZ (t:=x) (id:=o.1) (by omega);have g:r=(0,false):=by
     rcases z with⟨j,a,b,_,_⟩|⟨_,q⟩;exact absurd b (mv bJ _ (bp a aF));exact q
    rw[y,g];cases C:x.bt with
    |false=>
     simp only[ay,cm,cw,fY,cg,eq_self];exact ke (by omega) _ _ _
    |true=>
     simp only[ay,cm,cw,dX,cg,eq_self];exact⟨λe h=>(by cases h;rw[c7]),λh=>(by cases h)⟩
 rw[ag (by simp[h0]),u h0];exact ke (by omega) _ _ _
end
theorem Oi{l:I α}(h:2*j+1<l.length)(d:α):fu (l.drop (2*j))=l.getD (2*j) d::fu (l.drop (2*(j+1))):=by
 rw[mK (by omega:2*j<l.length),mK h,fu,gA (by omega)];rfl
theorem Po{l:I α}(h:2*j+1<l.length)(d:α):gr (l.drop (2*j))=l.getD (2*j+1) d::gr (l.drop (2*(j+1))):=by
 rw[mK (by omega:2*j<l.length),mK h,gr,gA h];rfl
theorem Ub{i:Nat}(h:i<1000000):aQ .i64 (i:Int) 2=((i+2:Nat):Int):=by
 have:=KI (a:=i) (b:=2) (by omega);exact this
section
variable {ts:I aj}
theorem P'{l:I au}(ak:l.length<=90000)(he:l.length%2=0)(h:∀q,q∈l->∀step b1 b2,gL ts b1 b2 so (f q) (jA (step,x.aS,q,ts,b1,b2,so)))
 {z0 z2 z4 a0 a2 a4:Int}{z1 a1:J}{z3 a3:au}{b1:az}{b2:Int}:∀(k j:Nat) (acc:I ab),2*(j+k)=l.length->acc.length=j->
 (∀m,cR f (fu (l.drop (2*j)))=some m->tH (l,((2*j:Nat):Int),ts,b1,b2,x,z0,z1,z2,z3,z4,a0,a1,a2,a3,a4,so,acc)=some (.inr (l,ts,b1,b2,x,z0,z1,z2,z3,z4,a0,a1,a2,a3,a4,so,acc++m)))/\
 (cR f (fu (l.drop (2*j)))=none->∃w f1 f2,tH (l,((2*j:Nat):Int),ts,b1,b2,x,z0,z1,z2,z3,z4,a0,a1,a2,a3,a4,so,acc)=some (.inl (false,ts,f1,f2,w,so)))
 |0,j,acc,e,d=>by
  rw[tH,eF,fA (by omega),show fu ([]:I au)=[]from rfl,cR];grind
 |k+1,j,acc,e,d=>by
  have aD:2*j<l.length:=by omega
  have a:=h _ (bp aD []) (fR .i64 ((2*j:Nat):Int) 2) b1 b2;rw[tH,c',ag (aX aD),bo,Oi (by omega) [],cR];cases b:f (l.getD (2*j) [])with
  |none=>
   obtain⟨w,f1,f2,n⟩:=a.2 b;simp_all
  |some v=>
   rw[a.1 v b];simp only[a7,ay,ab.bN,dX];rw[cN,ag (dQ),Ub (by omega)];obtain⟨o,i⟩:=P' ak he h (z0:=z0) (z1:=z1) (z2:=z2) (z3:=z3) (z4:=z4) (a0:=a0) (a1:=a1) (a2:=a2) (a3:=a3) (a4:=a4) (b1:=b1) (b2:=b2) k (j+1) (acc++[v]) (by omega) (by simp;omega);have c:2*j+2=2*(j+1):=(by omega);rw[c];cases hs:cR f (fu (l.drop (2*(j+1))))with
   |none=>exact⟨λm g=>by simp at g,λ_=>i hs⟩
   |some p=>grind
theorem Pp{l:I au}(ak:l.length<=90000)(he:l.length%2=0)(h:∀q,q∈l->∀step b1 b2,gL ts b1 b2 so (f q) (jA (step,x.aE,q,ts,b1,b2,so)))
 {z0 z2 z4 a0 a2 a4:Int}{z1 a1:J}{z3 a3:au}{b1:az}{b2:Int}{ks:I ab}:∀(k j:Nat) (acc:I ab),2*(j+k)=l.length->acc.length=j->
 (∀m,cR f (gr (l.drop (2*j)))=some m->tI (l,((2*j+1:Nat):Int),ts,b1,b2,x,z0,z1,z2,z3,z4,a0,a1,a2,a3,a4,so,ks,acc)=some (.inr (ts,b1,b2,z0,z1,z2,z3,z4,a0,a1,a2,a3,a4,so,ks,acc++m)))/\
 (cR f (gr (l.drop (2*j)))=none->∃w f1 f2,tI (l,((2*j+1:Nat):Int),ts,b1,b2,x,z0,z1,z2,z3,z4,a0,a1,a2,a3,a4,so,ks,acc)=some (.inl (false,ts,f1,f2,w,so)))
 |0,j,acc,e,d=>by
  rw[tI,eF,fA (by omega),show gr ([]:I au)=[]from rfl,cR];grind
 |k+1,j,acc,e,d=>by
  have aD:2*j+1<l.length:=by omega
  have a:=h _ (bp aD []) (fR .i64 ((2*j+1:Nat):Int) 2) b1 b2;rw[tI,c',ag (aX aD),bo,Po aD [],cR];cases b:f (l.getD (2*j+1) [])with
  |none=>
   obtain⟨w,f1,f2,n⟩:=a.2 b;simp_all
  |some v=>
   rw[a.1 v b];simp only[a7,ay,ab.bN,dX];rw[cN,ag (dQ),Ub (by omega)];obtain⟨o,i⟩:=Pp ak he h (z0:=z0) (z1:=z1) (z2:=z2) (z3:=z3) (z4:=z4) (a0:=a0) (a1:=a1) (a2:=a2) (a3:=a3) (a4:=a4) (b1:=b1) (b2:=b2) (ks:=ks) k (j+1) (acc++[v]) (by omega) (by simp;omega);have c:2*j+1+2=2*(j+1)+1:=(by omega);rw[c];cases hs:cR f (gr (l.drop (2*(j+1))))with
   |none=>exact⟨λm g=>by simp at g,λ_=>i hs⟩
   |some p=>grind
theorem ahu{a b:ab}(c:eE a.bF)(d:eE b.bF):ny (a,b)=some (iz a b):=by
 obtain⟨r,e,f⟩:=Ef c d;have:=AV c d;grind
theorem St{x:aj}(ar:so.length<=1000){l:I au}(a:∀y,y∈ks->eE y.bF)(ak:ks.length<=90000)
 {z0 z2 z4 a0 a2 a4:Int}{z1 a1:J}{z3 a3:au}{b1:az}{b2:Int}:∀(k i:Nat),ks.length-(i+1)=k->
 ((∀m,i<=m->m+1<ks.length->iz (ks.getD m aI) (ks.getD (m+1) aI)<0)/\r4 (l,((i+1:Nat):Int),ts,b1,b2,x,z0,z1,z2,z3,z4,a0,a1,a2,a3,a4,so,ks)=some (.inr (l,ts,b1,b2,x,z0,z1,z2,z3,z4,a0,a1,a2,a3,a4,so,ks)))\/
 ((∃m,m+1<ks.length/\¬iz (ks.getD m aI) (ks.getD (m+1) aI)<0)/\∃w f1 f2,r4 (l,((i+1:Nat):Int),ts,b1,b2,x,z0,z1,z2,z3,z4,a0,a1,a2,a3,a4,so,ks)=some (.inl (false,ts,f2,w,so,f1)))
 |0,i,c=>by
  rw[r4,eF];grind
 |k+1,i,c=>by
  have aD:i+1<ks.length:=by omega
  have aK:dG .i64 ((i+1:Nat):Int) 1=(i:Int):=by rw[lE];omega
  rw[r4,c',aK];simp only[a7,ay];rw[ag (fP),c',ag (aX aD),c',bo,bo];simp only[ab.bN];rw[ahu (a _ (bp (by omega) aI)) (a _ (bp aD aI))];simp only[ay];by_cases b:iz (ks.getD i aI) (ks.getD (i+1) aI)<0
  . rw[aq (by simpa using b),bP];rcases St ar a ak (x:=x) (l:=l) (z0:=z0) (z1:=z1) (z2:=z2) (z3:=z3) (z4:=z4) (a0:=a0) (a1:=a1) (a2:=a2) (a3:=a3) (a4:=a4) (b1:=b1) (b2:=b2) k (i+1) (by omega)with⟨h1,d⟩|h
    grind;grind
  rw[ag (by simpa using b),Au ar];grind
theorem Su{m:Nat}(h:m<18446744073709551616):eE (gI m):=by
 unfold gI eE;omega
theorem mH:eE 0:=by unfold eE;omega
def mY(o:ai ab):Prop:=∀v,o=some v->eE v.bF
theorem mY.ite{c:Prop}[Decidable c]{a b:ai ab}(e:c->mY a)(f:¬c->mY b):mY (if c then a else b):=by grind
theorem mY.no:mY none:=λv h=>(by cases h)
theorem mY.zero{k i:Int}{b:J}{s:au}{a:I ab}{r:I ct}:mY (some ⟨k,b,0,s,i,ks,a,r⟩):=λv h=>(by cases h;exact mH)
theorem mY.map{α:Type}{o:ai α}{k i:Int}{b:J}{s:au}{ks a:α->I ab}{r:I ct}:mY (o.map λv=>⟨k,b,0,s,i,ks v,a v,r⟩):=λv h=>by obtain⟨_,_,rfl⟩:=o8.1 h;exact mH
theorem Rj{n:Nat}(h:ds ts n t p=some v):eE v.bF:=by
 have key:mY (ds ts n t p):=by
  cases n with
  |zero=>unfold ds;exact .no
  |succ n=>
   unfold ds;refine .ite (λ_=>.ite (λ_=>.zero) λ_=>.ite (λ_=>.zero) λ_=>.no) λ_=>?_;refine .ite (λ_=>?_) λ_=>?_
   . cases b:gJ p with
     |none=>exact .no
     |some m=>exact .ite (λ_=>λv h=>(by cases h;exact Su (BU b))) λ_=>.no
   refine .ite (λ_=>.ite (λ_=>.zero) λ_=>.no) λ_=>?_;refine .ite (λ_=>?_) λ_=>?_
   . cases b:gJ p with
     |none=>exact .no
     |some m=>exact .ite (λ_=>.zero) λ_=>.no
   refine .ite (λ_=>?_) λ_=>?_
   . cases p with
     |nil=>exact .zero
     |cons c q=>exact .ite (λ_=>.map) λ_=>.no
   refine .ite (λ_=>?_) λ_=>?_
   . cases jI p with
     |none=>exact .no
     |some a=>
      obtain⟨id,q⟩:=a;dsimp only;cases cx (ts.getD t.toNat aM).af id with
      |none=>exact .ite (λ_=>.zero) λ_=>.no
      |some m=>exact .map
   refine .ite (λ_=>?_) λ_=>?_
   . cases hy p with
     |none=>exact .no
     |some l=>exact .ite (λ_=>.map) λ_=>.no
   refine .ite (λ_=>?_) λ_=>?_
   . cases hy p with
     |none=>exact .no
     |some l=>
      refine .ite (λ_=>?_) λ_=>.no;cases cR (ds ts n (ts.getD t.toNat aM).aS) (fu l)with
      |none=>exact .no
      |some ks=>exact .ite (λ_=>.map) λ_=>.no
   . cases iM p with
     |none=>exact .no
     |some l=>
      dsimp only;split;exact .ite (λ_=>.zero) λ_=>.no;exact .no
 exact key v h
theorem xo{f:α->ai c}:∀{l:I α} {m:I c},cR f l=some m->∀y,y∈m->∃a,a∈l/\f a=some y
 |[],m,h,y,al=>by rw[cR]at h;cases h;cases al
 |a::l,m,h,y,al=>by
  rw[cR]at h;split at h
  . rename_i b e h1 d;cases h;rcases fk.1 al with rfl|al
    grind;obtain⟨cj,bj,bq⟩:=xo d y al;grind
  cases h
theorem EW:∀{l:I α} {y:α},y∈fu l->y∈l
 |[],y,h=>by cases h
 |[_],y,h=>by cases h
 |a::b::l,y,h=>by
  rcases fk.1 h with rfl|h;grind;exact .tail _ (.tail _ (EW h))
theorem Ka:∀(l:I α),(fu l).length<=l.length
 |[]=>e' _
 |[_]=>j2 _
 |a::b::l=>by
  show(fu l).length+1<=l.length+1+1;have:=Ka l;omega
theorem Wx(h:a<1000000):fR .i64 (a:Int) 2=((a/2:Nat):Int):=by
 unfold fR;have e:(a:Int).tdiv 2=((a/2:Nat):Int):=by rw[Hr (by omega)];omega
 rw[e];exact lv
theorem ahv{n:Nat}(ih:yF ts n)(eA:x.ae=8)(bS:0<=x.aS/\x.aS<ts.length)(eI:0<=x.aE/\x.aE<ts.length)(ar:p.length<=4096)(M:so.length+(n+1)=200):
 gL ts b1 b2 so (match hy p with
  |some l=>if l.length%2 = 0/\((l.length/2:Nat):Int)<=x.Max then (match cR (ds ts n x.aS) (fu l) with
   |some ks=>if pA ks then(cR (ds ts n x.aE) (gr l)).map λs=>(⟨8,false,0,[],0,ks,s,[]⟩:ab)else none
   |none=>none)else none
  |none=>none) (zq (x,p,ts,b1,b2,so)):=by
 obtain⟨o,I,K,L⟩:=u9 (p:=p) (by omega);rw[zq,I];simp only[a7,ay];by_cases h0:o.2=0
 . obtain⟨v1,v2,v3⟩:=K h0;rw[v1];dsimp only;have F:cn (o.1.length:Int) 2=((o.1.length%2:Nat):Int):=by rw[iI];omega
   rw[F,Wx (by omega)];by_cases he:o.1.length%2=0
   . have b:¬(bif (!(o.2=0:J))then true else(!(((o.1.length%2:Nat):Int)=0:J))):=(by grind);rw[aq b];by_cases t:((o.1.length/2:Nat):Int)<=x.Max
     . rw[ag (show o.1.length%2=0/\((o.1.length/2:Nat):Int)<=x.Max from⟨he,t⟩),aq (show ¬(x.Max<((o.1.length/2:Nat):Int):J)=true by simp only[gP];omega)];have C:∀q,q∈o.1->∀step b1 b2,gL ts b1 b2 so (ds ts n x.aS q) (jA (step,x.aS,q,ts,b1,b2,so)):=λq k step b1 b2=>
        x' (by omega) (ih x.aS q b1 b2 (so++[step]) bS.1 bS.2 (by have:=v2 q k;omega) (by simp;omega))
       have j:∀q,q∈o.1->∀step b1 b2,gL ts b1 b2 so (ds ts n x.aE q) (jA (step,x.aE,q,ts,b1,b2,so)):=λq k step b1 b2=>
        x' (by omega) (ih x.aE q b1 b2 (so++[step]) eI.1 eI.2 (by have:=v2 q k;omega) (by simp;omega))
       obtain⟨cO,c⟩:=P' (x:=x) (l:=o.1) (by omega) he C (z0:=0) (z1:=false) (z2:=0) (z3:=[]) (z4:=0) (a0:=x.ae) (a1:=false) (a2:=0) (a3:=[]) (a4:=0) (b1:=b1) (b2:=b2) (o.1.length/2) 0 [] (by omega) rfl;have d0:o.1.drop (2*0)=o.1:=rfl;rw[d0]at cO c;have z0:((2*0:Nat):Int)=0:=rfl;rw[z0]at cO c;cases hs:cR (ds ts n x.aS) (fu o.1)with
       |none=>
        obtain⟨w,f1,f2,r⟩:=c hs;rw[r];exact⟨λv h=>(by cases h),λ_=>⟨_,_,_,rfl⟩⟩
       |some ks=>
        rw[cO ks hs];simp only[ay,iY];have D:∀y,y∈ks->eE y.bF:=λy al=>by
         obtain⟨a,_,A⟩:=xo hs y al;exact Rj A
        have E:ks.length<=90000:=by
         have:=nF hs;have:=Ka o.1;omega
        have B:=St (ts:=ts) (x:=x) (so:=so) (by omega) (l:=o.1) D E (z0:=0) (z1:=false) (z2:=0) (z3:=[]) (z4:=0) (a0:=x.ae) (a1:=false) (a2:=0) (a3:=[]) (a4:=0) (b1:=b1) (b2:=b2) _ 0 rfl;have z1:((0+1:Nat):Int)=1:=rfl;rw[z1]at B;rcases B with⟨z,d⟩|⟨⟨m,G,H⟩,w,f1,f2,d⟩
        . have g:pA ks:=x9.2 λi j=>z i (j2 _) j;rw[ag g,d];simp only[ay];obtain⟨e,f⟩:=Pp (x:=x) (l:=o.1) (by omega) he j (z0:=0) (z1:=false) (z2:=0) (z3:=[]) (z4:=0) (a0:=x.ae) (a1:=false) (a2:=0) (a3:=[]) (a4:=0) (b1:=b1) (b2:=b2) (ks:=ks) (o.1.length/2) 0 [] (by omega) rfl;rw[d0]at e f;have z2:((2*0+1:Nat):Int)=1:=rfl;rw[z2]at e f;cases u:cR (ds ts n x.aE) (gr o.1)with
          |none=>
           obtain⟨w,f1,f2,r⟩:=f u;rw[r];exact⟨λv h=>(by cases h),λ_=>⟨_,_,_,rfl⟩⟩
          |some s=>
           rw[e s u];exact⟨λv h=>(by cases h;simp[eA]),λh=>(by cases h)⟩
        have g:¬pA ks:=λh=>H (x9.1 h m G);rw[aq g,d];exact⟨λv h=>(by cases h),λ_=>⟨ab.eta w,f1,f2,rfl⟩⟩
     rw[aq (show ¬(o.1.length%2=0/\((o.1.length/2:Nat):Int)<=x.Max)fromλh=>t h.2),ag (show (x.Max<((o.1.length/2:Nat):Int):J) by simp only[gP];omega)];exact ke (by omega) _ _ _
   have b:(bif (!(o.2=0:J))then true else(!(((o.1.length%2:Nat):Int)=0:J)))=true:=(by grind);rw[aq (show ¬(o.1.length%2=0/\((o.1.length/2:Nat):Int)<=x.Max)fromλh=>he h.1),ag b];exact ke (by omega) _ _ _
 have b:(bif (!(o.2=0:J))then true else(!(cn (o.1.length:Int) 2=0:J)))=true:=(by simp[h0]);rw[ag b,L h0];exact ke (by omega) _ _ _
theorem aeu{l:I da}(m:aT)(ak:l.length<=90000):(∃j,j<l.length/\l.find? (λf=>(f.ah=m.ah:J))=some (l.getD j dP)/\zs (l,m)=some ((j:Int),m))\/
 (l.find? (λf=>(f.ah=m.ah:J))=none/\zs (l,m)=some (-1,m)):=by
 have h:=uZ (λi=>pM (l,(l.length:Int),(i:Int),m)) l.length (λi=>((l.getD i dP).ah=m.ah:J)) (λi=>.inl ((i:Int),m)) (.inr m)
  (λi a=>by
   rw[pM,c',ag (aX a)];simp only[a7,ay,bo,ab.bN,IP]
   rw[bP])
  (by rw[pM,cN];simp only[iQ])
 have dw:pM (l,(l.length:Int),((0:Nat):Int),m)=pM (l,(l.length:Int),0,m):=rfl;simp only[dw]at h;rw[zs];simp only[iQ];rcases h with⟨j,h1,c,d,b⟩|⟨h1,b⟩;left;refine⟨j,h1,?_,by rw[b];simp only[a7,ay,iQ]⟩;rw[gA h1]at c⊢;rw[Ho];refine⟨c,j,h1,rfl,λk g=>?_⟩;have:=d k g;rw[gA (by omega)]at this;simpa using this;right;refine⟨?_,by rw[b];simp only[a7,ay,iQ]⟩;rw[List.find?_eq_none];intro f e;obtain⟨i,a,rfl⟩:=hE e;have:=h1 i a;rw[gA a]at this;simpa using this
def yR{a:Type}:ai a->ai (I a)->ai (I a)
 |some b,some m=>some (b::m)
 |_,_=>none
theorem AL{b:Type}(f:α->ai b)(a:α)(l:I α):cR f (a::l)=yR (f a) (cR f l):=by rfl
def e4(f:Int->au->ai ab)(l:I da)(m:aT):ai ab:=match l.find? (λf=>(f.ah=m.ah:J))with
 |some g=>f m.aC g.b5
 |none=>ite m.bO (some m.bC) none
theorem Rk {x:aj}{so:az}(D:so.length<=900){f:Int->au->ai ab}{l:I da}(ak:l.length<=90000)(z:x.af.length<=16)
 (r:∀m,m∈x.af->m.bO->kc m.bC=some m.bC)
 (h:∀m,m∈x.af->∀q,q∈l->∀step b1 b2,gL ts b1 b2 so (f m.aC q.b5) (jA (step,m.aC,q.b5,ts,b1,b2,so)))
 {z0 z2 z4 a0 a2 a4:Int}{z1 a1:J}{z3 a3:au}{b1:az}{b2:Int}:∀(k i:Nat) (acc:I ab),i+k=x.af.length->acc.length=i->
 (∀m,cR (e4 f l) (x.af.drop i)=some m->nk (l,x.af,(x.af.length:Int),(i:Int),ts,b1,b2,x,z0,z1,z2,z3,z4,a0,a1,a2,a3,a4,so,acc)=some (.inr (l,ts,b1,b2,x,z0,z1,z2,z3,z4,a0,a1,a2,a3,a4,so,acc++m)))/\
 (cR (e4 f l) (x.af.drop i)=none->∃w f1 f2,nk (l,x.af,(x.af.length:Int),(i:Int),ts,b1,b2,x,z0,z1,z2,z3,z4,a0,a1,a2,a3,a4,so,acc)=some (.inl (false,ts,f1,f2,w,so)))
 |0,i,acc,C,B=>by
  rw[nk,eF,fA (by omega),cR];grind
 |k+1,i,acc,C,B=>by
  have aD:i<x.af.length:=by omega
  have t:=bp aD aF;have e:x.af.drop i=x.af.getD i aF::x.af.drop (i+1):=by rw[gA aD];exact mK aD
  have go:∀v,(∀g,cR (e4 f l) (x.af.drop (i+1))=some g->nk (l,x.af,(x.af.length:Int),((i+1:Nat):Int),ts,b1,b2,x,z0,z1,z2,z3,z4,a0,a1,a2,a3,a4,so,acc++[v])=some (.inr (l,ts,b1,b2,x,z0,z1,z2,z3,z4,a0,a1,a2,a3,a4,so,acc++[v]++g)))/\(cR (e4 f l) (x.af.drop (i+1))=none->∃w f1 f2,nk (l,x.af,(x.af.length:Int),((i+1:Nat):Int),ts,b1,b2,x,z0,z1,z2,z3,z4,a0,a1,a2,a3,a4,so,acc++[v])=some (.inl (false,ts,f1,f2,w,so))):=λv=>
   Rk D ak z r h k (i+1) (acc++[v]) (by omega) (by simp;omega)
  rw [nk,c',ag (aX aD),bo,e,AL];simp only [a7,ay,iQ];generalize x.af.getD i aF = a at *;have y:∀ (v:ab) (X:ai _),e4 f l a = some v->X = nk (l,x.af,(x.af.length:Int),((i+1:Nat):Int),ts,b1,b2,x,z0,z1,z2,z3,z4,a0,a1,a2,a3,a4,so,acc++[v])->
   (∀m,yR (e4 f l a) (cR (e4 f l) (x.af.drop (i+1)))=some m->X=some (.inr (l,ts,b1,b2,x,z0,z1,z2,z3,z4,a0,a1,a2,a3,a4,so,acc++m)))/\
   (yR (e4 f l a) (cR (e4 f l) (x.af.drop (i+1)))=none->∃w f1 f2,X=some (.inl (false,ts,f1,f2,w,so))):=by
   intro v X c A;obtain⟨g1,g2⟩:=go v;rw[c,A];cases hs:cR (e4 f l) (x.af.drop (i+1))with
   |none=>exact⟨λm b=>(by cases b),λ_=>g2 hs⟩
   |some g=>
    refine⟨λm b=>?_,λh=>(by cases h)⟩;have:m=v::g:=(by cases b;rfl);grind
  rcases aeu a ak with⟨j,u,d,p⟩|⟨d,p⟩
  . rw[p];simp only[ay];rw[jY,ag (aX u),bo];have s:=h a t _ (bp u dP) a.ah b1 b2;have o:e4 f l a=f a.aC (l.getD j dP).b5:=by unfold e4;rw[d]
    cases c:f a.aC (l.getD j dP).b5 with
    |none=>
     obtain⟨w,f1,f2,E⟩:=s.2 c;rw[E,o,c];exact⟨λm b=>(by cases b),λ_=>⟨w,f1,f2,by simp[ab.bN]⟩⟩
    |some v=>
     rw[s.1 v c];simp only[ay,ab.bN,dX];rw[cN,ag (dQ),bP];grind
  . rw[p];simp only[ay];rw[cN];cases n:a.bO with
    |true=>
     rw[ag rfl];simp only[ab.bN];rw[r a t n];simp only[ay,ab.bN];rw[ag (dQ),bP];exact y a.bC _ (by unfold e4;rw[d];simp[n]) rfl
    |false=>
     have o:e4 f l a=none:=by unfold e4;rw[d];simp[n]
     rw[cN,ag (dQ),Au (by simp;omega),o];simp only[ay,ab.bN];have aK:dG .i64 ((so++[a.ah]).length:Int) 1=(so.length:Int):=by rw[pD (by simp<;>omega) (by simp<;>omega)];simp
     rw[aK,ag (jj.2 (by simp;omega)),jY,bo];exact⟨λm b=>(by cases b),λ_=>⟨_,_,_,by simp;exact⟨rfl,rfl,rfl⟩⟩⟩
theorem akY(d:x.af.length<=1000)(c:hY x.af)(id:Int):∃r,hl (x,id)=some r/\r.2=(cx x.af id).isSome:=by
 cases bJ:cx x.af id with
 |some m=>
  obtain⟨j,a,b,g⟩:=Hk c d bJ;grind
 |none=>
  obtain⟨r,e,f⟩:=AZ (t:=x) (id:=id) (by omega);refine⟨r,e,?_⟩;rcases f with⟨j,a,b,_,_⟩|⟨_,q⟩;exact absurd b (mv bJ _ (bp a aF));grind
def gQ(x:aj)(f:da):J:=(cx x.af f.ah).isSome || !f.bV
def fO(x:aj)(l:I da):I ct:=(l.filter λf=>!(cx x.af f.ah).isSome).map λf=>⟨f.ah,f.b5⟩
theorem Li(j:so.length<=900)(c:x.af.length<=1000)(b:hY x.af){l:I da}(ak:l.length<=90000)
 {z0 z2 z4 a0 a2 a4:Int}{z1 a1:J}{z3 a3:au}{b1:az}{b2:Int}{its:I ab}:∀(k i:Nat) (acc:I ct),i+k=l.length->acc.length<=i->
 ((l.drop i).all (gQ x)->pQ (l,(l.length:Int),(i:Int),ts,b1,b2,x,z0,z1,z2,z3,z4,a0,a1,a2,a3,a4,so,its,acc)=some (.inr (ts,b1,b2,z0,z1,z2,z3,z4,a0,a1,a2,a3,a4,so,its,acc++fO x (l.drop i))))/\
 ((l.drop i).all (gQ x)=false->∃w f1 f2,pQ (l,(l.length:Int),(i:Int),ts,b1,b2,x,z0,z1,z2,z3,z4,a0,a1,a2,a3,a4,so,its,acc)=some (.inl (false,ts,f2,w,so,f1)))
 |0,i,acc,p,n=>by
  rw[pQ,eF,fA (by omega)];exact⟨λ_=>by simp[fO],λh=>by simp at h⟩
 |k+1,i,acc,p,n=>by
  have aD:i<l.length:=by omega
  have e:l.drop i=l.getD i dP::l.drop (i+1):=by rw[gA aD];exact mK aD
  obtain⟨r,q,m⟩:=akY c b (l.getD i dP).ah;rw[pQ,c',ag (aX aD),bo,e];simp only[a7,ay];generalize l.getD i dP=f at*;rw[q];simp only[ay];have o:(f::l.drop (i+1)).all (gQ x)=(gQ x f&&(l.drop (i+1)).all (gQ x)):=rfl;rw[o];cases hs:(cx x.af f.ah).isSome with
  |true=>
   have a:gQ x f:=by unfold gQ;rw[hs];rfl
   have d:fO x (f::l.drop (i+1))=fO x (l.drop (i+1)):=by unfold fO;rw[List.filter_cons_of_neg (by rw[hs];simp)]
   rw[m,hs,ag rfl,a,d,bP,mN];exact Li j c b ak k (i+1) acc (by omega) (by omega)
  |false=>
   rw[m,hs,cN];cases g:f.bV with
   |true=>
    have a:gQ x f=false:=by unfold gQ;rw[hs,g];rfl
    rw[ag rfl,ag (dQ),Au (by simp;omega),a];simp only[ay,ab.bN];have aK:dG .i64 ((so++[f.ah]).length:Int) 1=(so.length:Int):=by rw[pD (by simp<;>omega) (by simp<;>omega)];simp
    rw[aK,ag (jj.2 (by simp;omega)),jY,bo];simp_all
   |false=>
    have a:gQ x f:=by unfold gQ;rw[hs,g];rfl
    have d:fO x (f::l.drop (i+1))=⟨f.ah,f.b5⟩::fO x (l.drop (i+1)):=by unfold fO;rw[List.filter_cons_of_pos (by rw[hs];rfl)];rfl
    rw[cN,ag (dQ),a,d,bP,mN];have:=Li j c b ak (z0:=z0) (z1:=z1) (z2:=z2) (z3:=z3) (z4:=z4) (a0:=a0) (a1:=a1) (a2:=a2) (a3:=a3) (a4:=a4) (b1:=b1) (b2:=b2) (its:=its) k (i+1) (acc++[⟨f.ah,f.b5⟩]) (by omega) (by simp;omega);grind
theorem adZ(H:lB ts)(HW:∀x,x∈ts->∀m,m∈x.af->m.bO->kc m.bC=some m.bC){n:Nat}(ih:yF ts n)(aa:x∈ts)(cZ:x.ae=5)(dE:∀m,m∈x.af->0<=m.aC/\m.aC<ts.length)(ar:p.length<=4096)(z:so.length+(n+1)=200):
 (∀l,iM p=some l->∀a,cR (e4 (ds ts n) l) x.af=some a->l.all (gQ x)->Ai (x,p,ts,b1,b2,so)=some (⟨5,false,0,[],0,[],a,fO x l⟩,true,ts,b1,b2,so))/\
 ((iM p=none\/(∃l,iM p=some l/\(cR (e4 (ds ts n) l) x.af=none\/l.all (gQ x)=false)))->∃w f1 f2,Ai (x,p,ts,b1,b2,so)=some (w,false,ts,f1,f2,so)):=by
 obtain⟨e,v⟩:=H.A x aa (.inl cZ);obtain⟨o,s,t,u⟩:=EU (p:=p) (by omega);rw[Ai,s];simp only[a7,ay];by_cases h0:o.2=0
 . obtain⟨v1,v2,v3,v4⟩:=t h0;rw[aq (by simp[h0]),v1];have y:=H.T x aa;have g:∀m,m∈x.af->m.bO->kc m.bC=some m.bC:=λm b j=>HW x aa m b j;have aA:∀m,m∈x.af->∀q,q∈o.1->∀step b1 b2,gL ts b1 b2 so (ds ts n m.aC q.b5) (jA (step,m.aC,q.b5,ts,b1,b2,so)):=λm b q r step b1 b2=>
    x' (by omega) (ih m.aC q.b5 b1 b2 (so++[step]) (dE m b).1 (dE m b).2 (by have:=(v2 q r).1;omega) (by simp;omega))
   obtain⟨cO,c⟩:=Rk (x:=x) (so:=so) (by omega) (f:=ds ts n) (l:=o.1) (by omega) (by omega) g aA (z0:=0) (z1:=false) (z2:=0) (z3:=[]) (z4:=0) (a0:=x.ae) (a1:=false) (a2:=0) (a3:=[]) (a4:=0) (b1:=b1) (b2:=b2) x.af.length 0 [] (by omega) rfl;rw[gk]at cO c;have z0:((0:Nat):Int)=0:=rfl;rw[z0]at cO c;have B:=λits=>Li (ts:=ts) (x:=x) (so:=so) (by omega) (by omega) e (l:=o.1) (by omega) (z0:=0) (z1:=false) (z2:=0) (z3:=[]) (z4:=0) (a0:=x.ae) (a1:=false) (a2:=0) (a3:=[]) (a4:=0) (b1:=b1) (b2:=b2) (its:=its) o.1.length 0 [] (by omega) (e' _);rw[gk,z0]at B;constructor;intro l ak a k i;cases ak;rw[cO a k];simp only[ay,iY];rw[(B a).1 i];simp[cZ]
   . intro h;rcases h with h|⟨l,ak,h⟩
     cases h
     . cases ak;cases hs:cR (e4 (ds ts n) o.1) x.af with
       |none=>
        obtain⟨w,f1,f2,d⟩:=c hs;rw[d];exact⟨_,_,_,rfl⟩
       |some a=>
        rcases h with h|h;rw[hs]at h;cases h;obtain⟨w,f1,f2,d⟩:=(B a).2 h;rw[cO a hs];simp only[ay,iY];rw[d];exact⟨ab.eta w,f1,f2,rfl⟩
 . rw[ag (by simp[h0]),u h0];constructor
   intro l ak;cases ak;intro _;rw[Au (by omega)];exact⟨_,_,_,rfl⟩
end
end
end Go.Proofs.YtkbmjabicjpmjaaGreatDoor
