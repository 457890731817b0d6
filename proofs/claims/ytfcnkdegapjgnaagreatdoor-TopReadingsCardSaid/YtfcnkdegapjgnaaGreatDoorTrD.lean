/- The functions of the program as functions of Lean, that its code does what they say, and what they answer; part D. -/
import Derived.Test.YtfcnkdegapjgnaaGreatDoorTrC

namespace Go.Proofs.YtfcnkdegapjgnaaGreatDoor
set_option linter.all false
section
open Go Go.Proofs.YtfcnkdegapjgnaaGreatDoor.Shv Go.Sort
set_option maxRecDepth 100000
def kE(n:List Int):Prop:=∀i:Nat,0<=n.getD i 0/\n.getD i 0<=2
def DB(n b3:List Int):Prop:=n.length=b3.length/\∀i:Nat,n.getD i 0<=b3.getD i 0
def ga(n:List Int)(t:Int):Int:=n.getD t.toNat 0
def n1(n:List Int):List aO->Int->Int
 |[],c=>c
 |m::r,c=>n1 n r (dD 2 (c*ga n m.av))
def kx(n:List Int):List aO->Int->Int
 |[],c=>c
 |m::r,c=>kx n r (c+ga n m.av)
def iD(x:ah)(n:List Int):Int:=
 if x.Kind=2 then(if x.bz=x.bx then 1 else 2)
 else if x.Kind=3 then(if x.Max=0 then 1 else 2)
 else if x.Kind=4 then x.a7.length
 else if x.Kind=5 then n1 n x.ae 1
 else if x.Kind=6 then kx n x.ae 0
 else if x.Kind=7 then(if x.Max=0\/ga n x.aH=0 then 1 else 2)
 else if x.Kind=8 then(if x.Max=0\/ga n x.aH=0\/ga n x.Key=0 then 1 else 2)
 else if x.Kind=9 then 1+ga n x.aH
 else 2
theorem min2(c:Int):dD 2 c<=2/\dD 2 c<=c/\(dD 2 c=2\/dD 2 c=c):=by grind[dD]
theorem jo{n:List Int}{i j:Nat}{c:Int}:(n.set i c).getD j 0=if i=j/\i<n.length then c else n.getD j 0:=by
 grind
section
variable {n b3:List Int}(h0:kE n)(h1:DB n b3)
include h0
theorem ly(t:Int):0<=ga n t/\ga n t<=2:=h0 _
theorem Ez:∀(l:List aO) (c:Int),0<=c/\c<=2->0<=n1 n l c/\n1 n l c<=2
 |[],c,h=>h
 |m::r,c,h=>Ez r _ (by
  obtain⟨a,b⟩:=ly h0 m.av;have:=AS h.1 a
  grind[dD])
theorem zq:∀(l:List aO) (c:Int),c<=kx n l c/\kx n l c<=c+2*l.length
 |[],c=>⟨Int.le_refl _,by simp[kx]⟩
 |m::r,c=>by
  obtain⟨a,b⟩:=ly h0 m.av;obtain⟨e,f⟩:=zq r (c+ga n m.av)
  grind[kx]
include h1
theorem zY(t:Int):ga n t<=ga b3 t:=h1.2 _
theorem Qe:∀(l:List aO) (c a:Int),0<=c->c<=a->n1 n l c<=n1 b3 l a
 |[],c,a,_,h=>h
 |m::r,c,a,b,h=>Qe r _ _ (by
  have:=AS b (ly h0 m.av).1
  grind[dD]) (by
  have e:c*ga n _<=a*ga b3 m.av:=Int.mul_le_mul h (zY h0 h1 _) (ly h0 _).1 (by omega)
  grind[dD])
theorem QC:∀(l:List aO) (c a:Int),c<=a->kx n l c<=kx b3 l a
 |[],c,a,h=>h
 |m::r,c,a,h=>QC r _ _ (by have:=zY h0 h1 m.av;omega)
theorem adz(x:ah):iD x n<=iD x b3:=by
 have e:=zY h0 h1 x.aH;have k:=zY h0 h1 x.Key;have bM:=(ly h0 x.aH).1;have a:=(ly h0 x.Key).1;have p:=Qe h0 h1 x.ae 1 1 (by simp) (Int.le_refl _);have s:=QC h0 h1 x.ae 0 0 (Int.le_refl _)
 grind[iD]
end
theorem M5{n:List Int}:∀(l:List aO) (c:Int),1<=c->(∀m,m∈l->1<=ga n m.av)->1<=n1 n l c
 |[],c,h,_=>h
 |m::r,c,h,a=>M5 r _ (by
  have e:=Int.mul_le_mul h (a m (by simp)) (by simp) (by omega)
  grind[dD]) λx b=>a x (by grind)
section
variable {ts:List ah}(H:dH ts){n:List Int}(aA:n.length=ts.length)(h0:kE n)
include H aA
theorem DL{a:Int}(h:0<=a/\a<ts.length):aB a n.length=true/\decide (a.toNat<n.length)=true:=by
 grind[aB]
include h0
end
structure Dw (ts:List ah)(n:List Int):Prop where
 l:n.length=ts.length
 ok:kE n
 le:∀i:Nat,i<ts.length->n.getD i 0<=iD (ts.getD i ar) n
section
variable {ts:List ah}(H:dH ts)
include H
theorem ac'{n:List Int}(h0:kE n){i:Nat}(hi:i<ts.length)(aa:∀j:Nat,j<ts.length->7<=(ts.getD j ar).Kind->1<=n.getD j 0)(f:∀j:Nat,j<i->1<=n.getD j 0):1<=iD (ts.getD i ar) n:=by
 have e:=bo hi ar;have d:∀m,m∈(ts.getD i _).ae->1<=ga n _:=λm d=>by
  obtain⟨a,b,c⟩:=H.R i hi m d;rcases c with c|c
  . exact aa _ (by omega) c
  . exact f _ (by omega)
 have he:=(ly h0 (ts.getD i ar).aH).1;have p:=M5 _ 1 (by simp) d;have q:(ts.getD i ar).Kind=6->1<=kx n (ts.getD i ar).ae 0:=λk=>by
  have ad:0<(ts.getD i ar).ae.length:=by
   rcases H.V.F _ e with h|h|h|h|h|h|h|h|h<;>try omega
   exact h.2.2.2.2.2.2.1.2.1.resolve_left (by simp)
  obtain⟨m,r,l⟩:∃m r,(ts.getD i ar).ae=m::r:=by
   cases g:(ts.getD i _).ae<;>grind
  have:=(zq h0 r (0+ga n m.av)).1
  grind[kx]
 have o:(ts.getD i ar).Kind=4->1<=((ts.getD i _).a7.length:Int):=λk=>by
  rcases H.V.F _ e with h|h|h|h|h|h|h|h|h<;>try omega
  exact Int.ofNat_lt.2 h.2.2.2.2.2.1.1
 grind[iD]
theorem adA{n:List Int}(h0:kE n)(x:ah):0<=iD x n/\(x.ae.length<=12->x.a7.length<=16->iD x n<=40):=by
 have p:=Ez h0 x.ae 1 (by simp);have s:=zq h0 x.ae 0;have e:=ly h0 x.aH
 grind[iD]
theorem Dw.set{n:List Int}(C:Dw ts n){i:Nat}(hi:i<ts.length):Dw ts (n.set i (dD 2 (iD (ts.getD i ar) n)))/\DB n (n.set i (dD 2 (iD (ts.getD i ar) n))):=by
 have e:=C.le i hi;have ad:=C.l;have m:=min2 (iD (ts.getD i ar) n);generalize dD 2 _=c at*;have ok:kE (n.set i c):=λj=>by
  have:=C.ok j
  grind
 have le:DB n (n.set i c):=⟨by simp,λj=>by
  rw[jo];split
  . rename_i h;rw[<-h.1];have:=C.ok i;omega
  simp⟩
 refine⟨⟨by grind,ok,λj a=>?_⟩,le⟩;have:=adz C.ok le (ts.getD j ar);rw[jo];split
 . grind
 . have:=C.le j a;omega
theorem MP{n:List Int}(aA:n.length=ts.length)(h0:kE n){x:ah}(f:x∈ts)(e:∀m,m∈x.ae->0<=m.av/\m.av<ts.length):∀(k i:Nat) (c:Int),i+k=x.ae.length->0<=c/\c<=2->qp (c,(i:Int),n,x)=some (n1 n (x.ae.drop i) c,n)
 |0,i,c,hi,d=>by
  rw[qp,ag (by grind),List.drop_of_length_le (by omega)];rfl
 |k+1,i,c,hi,d=>by
  have aI:i<x.ae.length:=by omega
  have ad:=(H.ch x f).2.2;obtain⟨a,b⟩:=DL H aA (e _ (bo aI au));obtain⟨az,g⟩:=ly h0 (x.ae.getD i au).av;rw[qp,ab (by grind),ab (aN aI)];simp only[aV,ak,nZ];rw[ab a,ab b];have j:iq .i64 c (n.getD (x.ae.getD i au).av.toNat 0)=c*ga n (x.ae.getD i au).av:=by
   have:=AS d.1 az;have:=Int.mul_le_mul d.2 g az (by simp);show IntKind.wrap .i64 (c*ga n (x.ae.getD i au).av)=_
   grind[IntKind.wrap_i64]
  rw[j,bB (by omega),MP aA h0 f e k (i+1) _ (by omega) (by
   have:=AS d.1 az
   grind[dD])]
  rw[nX aI];have:x.ae.getD i au=x.ae[i]:=by grind
  rw[this];rfl
theorem MR{n:List Int}(aA:n.length=ts.length)(h0:kE n){x:ah}(e:x∈ts)(d:∀m,m∈x.ae->0<=m.av/\m.av<ts.length):∀(k i:Nat) (c:Int),i+k=x.ae.length->0<=c/\c<=2->qq (c,(i:Int),n,x)=some (dD 2 (kx n (x.ae.drop i) c),n)
 |0,i,c,hi,g=>by
  rw[qq,ag (by grind),List.drop_of_length_le (by omega)]
  grind[dD,kx]
 |k+1,i,c,hi,g=>by
  have aI:i<x.ae.length:=by omega
  have ad:=(H.ch x e).2.2;obtain⟨a,b⟩:=DL H aA (d _ (bo aI au));obtain⟨az,f⟩:=ly h0 (x.ae.getD i au).av;unfold ga at az f;rw[qq,ab (by grind),ab (aN aI)];simp only[aV,ak,nZ];have m:=min2 (c+n.getD (x.ae.getD i au).av.toNat 0)
  rw[ab a,ab b,hG (by omega) (by omega),bB (by omega),MR aA h0 e d k (i+1) _ (by omega) (by omega)];rw[nX aI];have:x.ae.getD i au=x.ae[i]:=by grind
  rw[this];have s1:=(zq h0 (x.ae.drop (i+1)) (dD 2 (c+ga n x.ae[i].av))).1;have j:=(zq h0 (x.ae.drop (i+1)) (c+ga n x.ae[i].av)).1;show some (dD 2 (kx n (x.ae.drop (i+1)) (dD 2 (c+ga n x.ae[i].av))),n)=some (dD 2 (kx n (x.ae.drop (i+1)) _),n)
  grind[min2,dD]
def s'(x:ah)(n:List Int):Int:=if x.Kind=8 then(if x.Max=0\/ga n x.aH=0 then 1 else 2)else dD 2 (iD x n)
theorem aaC{n:List Int}(aA:n.length=ts.length)(h0:kE n){x:ah}(d:x∈ts):Bf (x,n)=some (s' x n,n):=by
 have g:=H.V.U x d;have c:∀m,m∈x.ae->0<=m.av/\m.av<ts.length:=by
  obtain⟨i,hi,rfl⟩:=List.mem_iff_getElem.1 d;intro m c;have:=H.R i hi m (by simpa[List.getD,eu hi]using c);exact⟨this.1,this.2.1⟩
 have j:dD 2 1=1:=rfl;have k:dD 2 2=2:=rfl;rw[Bf];unfold s' iD;by_cases ba:x.Kind=2
 . grind
 rw[ag (by simpa using ba),ag ba];by_cases bE:x.Kind=3
 . grind
 rw[ag (by simpa using bE),ag bE];by_cases bU:x.Kind=4
 . grind
 rw[ag (by grind),ag bU];by_cases cL:x.Kind=5
 . rw[ab (by simpa using cL),ag (show ¬x.Kind=8 by omega),ab cL];have e:qp (1,0,n,x)=_:=MP H aA h0 d c x.ae.length 0 1 (by omega) (by omega);have p:=Ez h0 x.ae 1 (by omega);have:dD 2 (n1 n x.ae 1)=n1 n x.ae 1:=by grind[dD]
   grind
 rw[ag (by grind),ag cL];by_cases cM:x.Kind=6
 . rw[ab (by simpa using cM),ag (show ¬x.Kind=8 by omega),ab cM];have e:qq (0,0,n,x)=_:=MR H aA h0 d c x.ae.length 0 0 (by omega) (by simp);rw[e,la];rfl
 rw[ag (by grind),ag cM];have he:7<=x.Kind->aB x.aH n.length=true/\decide (x.aH.toNat<n.length)=true:=λh=>DL H aA (g _ (by unfold fk;simp[h]))
 simp only[aV,ak];by_cases fK:x.Kind=7
 . obtain⟨a,b⟩:=he (by omega);simp only[a,b,vr,cw]
   grind[ga,cp]
 rw[ag (by grind),ag fK];by_cases fL:x.Kind=8
 . obtain⟨a,b⟩:=he (by omega)
   grind[ga,cp]
 rw[ag (by simpa using fL),ag fL,ag fL];by_cases gM:x.Kind=9
 . obtain⟨a,b⟩:=he (by omega);obtain⟨az,f⟩:=ly h0 x.aH;unfold ga at az f;rw[ab (by grind),ab gM,ab a,ab b,hG (by omega) (by omega)];rfl
 grind
theorem adB{n:List Int}(h0:kE n)(x:ah):0<=s' x n/\s' x n<=2/\(7<=x.Kind->1<=s' x n)/\(1<=iD x n->1<=s' x n):=by
 have c:=(adA H h0 x).1;have m:=min2 (iD x n);have he:=(ly h0 x.aH).1;have b:7<=x.Kind->1<=iD x n:=λa=>by
  grind[iD]
 grind[s']
theorem RK(rd:Int)(P:Prop):∀(k i:Nat) {n:List Int},i+k=ts.length->n.length=ts.length->kE n->(∀j,j<i->7<=(ts.getD j ar).Kind->1<=n.getD j 0)->(P->∀j,j<ts.length->7<=(ts.getD j ar).Kind->1<=n.getD j 0)->(P->∀j,j<i->1<=n.getD j 0)->
 ∃b3,qc (rd,(i:Int),ts,n)=some (rd,ts,b3)/\b3.length=ts.length/\kE b3/\(∀j,j<ts.length->7<=(ts.getD j ar).Kind->1<=b3.getD j 0)/\(P->∀j,j<ts.length->1<=b3.getD j 0)
 |0,i,n,hi,ad,h0,aa,aC,b=>⟨n,by rw[qc,ag (by simp;omega)],ad,h0,λj a=>aa j (by omega),λh j a=>b h j (by omega)⟩
 |k+1,i,n,hi,ad,h0,aa,aC,b=>by
  have aI:i<ts.length:=by omega
  have bf:=H.eB;have d:=bo aI ar;obtain⟨e,f,g,l⟩:=adB H h0 (ts.getD i ar);rw[qc,ab (by simp;omega),ab (aN aI)];simp only[nZ];rw[aaC H ad h0 d];simp only[aV,ak];rw[ab (by simp),ab (aN (by omega)),ab (by simp;omega),bB (by omega)]
  refine RK rd P k (i+1) (by omega) (by simp[ad]) (λj=>?_) (λj a c=>?_) (λh j a c=>?_) λh j a=>?_
  . have:=h0 j;rw[jo];split<;>omega
  . grind
  . grind
  grind[jo,ac']
theorem Ta:∀(k r:Nat) {n:List Int},r+k=2*ts.length+1->n.length=ts.length->kE n->(1<=r->∀j,j<ts.length->7<=(ts.getD j ar).Kind->1<=n.getD j 0)->(2<=r->∀j,j<ts.length->1<=n.getD j 0)->
 ∃b3,qk ((r:Int),ts,n)=some b3/\b3.length=ts.length/\∀j,j<ts.length->1<=b3.getD j 0
 |0,r,n,e,ad,h0,h1,c=>by
  have bf:=H.eB;have f:=H.dy;have b:iq .i64 2 (ts.length:Int)=2*ts.length:=by
   show IntKind.wrap .i64 _=_
   grind[IntKind.wrap_i64]
  exact⟨n,by rw[qk,b,ag (by grind)],ad,c (by omega)⟩
 |k+1,r,n,e,ad,h0,h1,c=>by
  have bf:=H.eB;have b:iq .i64 2 (ts.length:Int)=2*ts.length:=by
   show IntKind.wrap .i64 (2*(ts.length:Int))=_
   grind[IntKind.wrap_i64]
  obtain⟨b3,az,d,cz,e6,gx⟩:=RK H _ (1<=r) ts.length 0 (n:=n) (by simp) ad h0 (λj a=>absurd a (Nat.not_lt_zero _)) h1 (λ_ j a=>absurd a (Nat.not_lt_zero _));have az:qc (r,0,ts,n)=_:=az;rw[qk,b,ab (by grind),az];simp only[aV,ak];rw[bB (by omega)]
  exact Ta k (r+1) (by omega) d cz (λ_=>e6) (λh=>gx (by omega))
omit H in
theorem Iy{n:List Int}(ad:n.length<=5)(h:∀i:Nat,i<n.length->1<=n.getD i 0):∀(k i:Nat),i+k=n.length->rY (n,(i:Int),List.replicate i true)=some (List.replicate n.length true)
 |0,i,hi=>by simp_all[rY]
 |k+1,i,hi=>by
  have e:List.replicate i true++[decide (0<n.getD i 0)]=List.replicate (i+1) true:=by
   grind[List.replicate_succ']
  rw[rY,ab (by grind),ab (aN (by omega))];simp only[aV,ak,nZ];rw[e,ab (dY (by simp) (by grind)),bB (by omega)];exact Iy ad h k _ (by omega)
omit H in
theorem Ju{m:Nat}(a:m<=5):∀(k i:Nat),i+k=m->r0 (List.replicate m true,(i:Int))=some (.inr ())
 |0,i,hi=>by grind[r0]
 |k+1,i,hi=>by
  rw[r0,ab (by grind),ab (aN (by grind)),ag (by grind),bB (by omega)];exact Ju a k _ (by omega)
theorem aam:Bg (⟨ts⟩:bh)=some 0:=by
 have bf:=H.eB;have c:rK (⟨ts⟩:bh)=some 0:=by
  have gV:=(x2 H.T H.V).2;obtain⟨r,az,a⟩:=IV (by grind[reachBytes]) H.T gV (λ_=>H.V);rw[rK,gV];simp only[aV,ak];rw[ag (by simp),az];simp only[ak];rw[(a rfl).2 H.D]
 obtain⟨n,c1,c2,c3⟩:=Ta H (2*ts.length+1) 0 (n:=List.replicate ts.length 0) (by simp) (by simp) (λi=>by grind) (λh=>by omega) (λh=>by omega);have c1:qk (0,ts,List.replicate ts.length 0)=_:=c1;have b:Ba (⟨ts⟩:bh)=some n:=by
  rw[Ba];simp only[aV,ak,nZ];rw[ab (lO.2 ⟨by simp,by grind[gr],by grind[dd]⟩),c1];rfl
 have f1:=Iy (n:=n) (by omega) (λi hi=>c3 i (by omega)) n.length 0 (by simp);have f2:=Ju (m:=n.length) (by omega) n.length 0 (by simp);simp_all[Bg,FB,aV,ak,ag]
end
theorem HS{α c:Type}{f:α->Option c}(d:α)(e:c):∀{l:List α} {m:List c},m.length=l.length->(∀j,j<l.length->f (l.getD j d)=some (m.getD j e))->dM f l=some m
 |[],[],_,_=>rfl
 |[],b::m,h,_=>by simp at h
 |a::l,[],h,_=>by simp at h
 |a::l,b::m,h,g=>by
  have h0:f a=some b:=g 0 (by simp);rw[GG,h0,HS d e (l:=l) (m:=m) (by simpa using h) λj i=>g (j+1) (by simpa using i)];rfl
theorem Tb:∀{a b:List (List UInt8)},a.length=b.length->jc (mM a b)=a/\kq (mM a b)=b
 |[],[],_=>⟨rfl,rfl⟩
 |[],_::_,h=>by simp at h
 |_::_,[],h=>by simp at h
 |x::a,y::b,h=>by
  obtain⟨h1,c⟩:=Tb (a:=a) (b:=b) (by simpa using h);exact⟨by rw[mM,jc,h1],by rw[mM,kq,c]⟩
theorem adC{m:aO}{v:I}:dz m v=true↔m.bD=true/\m.bk=v:=by unfold dz;simp
theorem ada(m:aO)(l:List aO)(id:Int):fE (m::l) id=if m.af=id then some 0 else(fE l id).map (· +1):=by
 unfold fE;rw[List.findIdx?_cons];by_cases h:m.af=id<;>simp[h]
section
variable {tw tr:List ah}
theorem aag{ms:List aO}(n:∀m,m∈ms->cO m.af):∀{l:List I},l.length=ms.length->(ms.Pairwise λa b=>a.af<b.af)->∀id:Int,((dk tw ms l).map mD).find? (λf=>decide (f.af=id))=
 match fE ms id with
 |none=>none
 |some i=>if dz (ms.getD i au) (l.getD i aK)=true then none else some ⟨id,(ms.getD i au).bQ,bY tw (ms.getD i au).av (l.getD i aK)⟩:=by
 induction ms with
 |nil=>intro l ad _ id;rw[dk]<;>simp[fE]
 |cons m ms ih=>
  intro l ad g id;cases l with
  |nil=>simp at ad
  |cons v l=>
   rw[jU]at g;have p:=n m (.head _);unfold cO at p;have e:((m.af.toNat:Nat):Int)=m.af:=by omega
   have o:=ih (λq k=>n q (.tail _ k)) (l:=l) (by simpa using ad) g.2 id;rw[dk,ada];by_cases hid:m.af=id
   . rw[ab hid];by_cases c:dz m v=true
     . rw[ab c,o];have aA:fE ms id=none:=by
        cases k:fE ms id with
        |none=>rfl
        |some j=>
         obtain⟨r,s,_⟩:=jN k;have:=g.1 _ (bo r au);omega
       rw[aA];show none=if dz m v=true then none else _
       rw[ab c]
     . rw[ag c,je,List.find?_cons];have d:decide ((mD ⟨m.af.toNat,m.bQ,bY tw m.av v⟩).af=id)=true:=dL (by show((m.af.toNat:Nat):Int)=id;omega);rw[d];show some _=if dz m v=true then none else _
       rw[ag c];show some (⟨((m.af.toNat:Nat):Int),m.bQ,bY tw m.av v⟩:eP)=_;rw[e,hid];rfl
   . rw[ag hid];have tail:(((dk tw ms l).map mD).find? λf=>decide (f.af=id))=match (fE ms id).map (· +1)with
      |none=>none
      |some i=>if dz ((m::ms).getD i au) ((v::l).getD i aK)=true then none else some ⟨id,((m::ms).getD i au).bQ,bY tw ((m::ms).getD i au).av ((v::l).getD i aK)⟩:=by
      rw[o];cases fE ms id<;>rfl
     by_cases c:dz m v=true
     . rw[ab c,tail]
     . rw[ag c,je,List.find?_cons];have d:decide ((mD ⟨m.af.toNat,m.bQ,bY tw m.av v⟩).af=id)=false:=decide_eq_false (by show ¬((m.af.toNat:Nat):Int)=id;omega);rw[d];simp only;rw[tail]
theorem Iz{y:ah}{path:List Int}:∀{ms:List aO} {l:List I} {r:List cF},(∀m,m∈ms->cO m.af)->iu tw y path ms l= .inl r->((dk tw ms l).map mD).all (iP y)=true/\jZ y ((dk tw ms l).map mD)=r
 |[],l,r,_,h=>by
  rw[iu]at h
  . cases h;rw[dk]<;>simp[jZ]
  . intros;simp_all
 |m::ms,[],r,_,h=>by
  rw[iu]at h
  . cases h;rw[dk]<;>simp[jZ]
  . intros;simp_all
 |m::ms,v::l,r,g,h=>by
  have j:=g m (.head _);unfold cO at j;have e:((m.af.toNat:Nat):Int)=m.af:=by omega
  have d:=λ{r}=>Iz (y:=y) (path:=path) (ms:=ms) (l:=l) (r:=r) λq k=>g q (.tail _ k)
  have f:mD ⟨m.af.toNat,m.bQ,bY tw m.av v⟩=⟨m.af,m.bQ,bY tw m.av v⟩:=by show(⟨((m.af.toNat:Nat):Int),m.bQ,bY tw m.av v⟩:eP)=_;rw[e]
  rw[iu]at h;rw[dk];by_cases c1:(cV y.ae m.af).isSome=true
  . rw[ab c1]at h;obtain⟨a,b⟩:=d h;by_cases c:dz m v=true
    . rw[ab c];exact⟨a,b⟩
    . rw[ag c,je,f];refine⟨by rw[lY,a];simp[iP,c1],?_⟩;unfold jZ at b⊢;rw[AP,ag (by simp[c1])];exact b
  rw[ag c1]at h;by_cases c2:m.bQ=true
  . rw[ab c2]at h;cases h
  rw[ag c2]at h;by_cases c:dz m v=true
  . rw[ab c]at h⊢;exact d h
  . rw[ag c]at h⊢;obtain⟨n,us,az,i,rfl⟩:=C0 h;cases az;obtain⟨a,b⟩:=d i;rw[je,f];refine⟨by rw[lY,a];simp[iP,c2],?_⟩;unfold jZ at b⊢;rw[AP,ab (by simp[c1]),je,b]
def Dx(tw tr:List ah)(n:Nat):Prop:=∀{v:I},bS v->∀{t rt:Int} {path:List Int} {a:I},gR tw n t v->cI tw true t v->0<=rt->rt<tr.length->gA tw tr n t v rt path= .inl a->∀m,g' tw t v<=m->ee tr m rt (bY tw t v)=some a
theorem aah(ap:dH tw)(E:dH tr){n:Nat}(ih:Dx tw tr n):Dx tw tr (n+1):=by
 intro v aD t rt path p aF aa bN bO h m N;have SW:=ap.V.iv ap.T;have cq:=E.V.iv E.T;have aj:(bY tw t v).length<=90000:=iO aF.len (by decide);obtain⟨_,aZ,a6,O⟩:=aF;have bk:=abj (ts:=tw) t v;obtain⟨m,rfl⟩:∃k,m=k+1:=⟨m-1,by omega⟩
 have u:=qD (ts:=tw) t v;have ah:∀q,q∈v.aE->(if v.aE=[]then 0 else 1)=1:=λq b=>ag λe=>by rw[e]at b;cases b
 generalize (if v.aE=[]then 0 else 1)=kk at u ah;obtain⟨⟨bC,bD,bF,bd⟩,G⟩:=(e4 _ _ _).1 aa;have bg:=bd rfl;have J:t.toNat<tw.length:=by omega
 have bh:rt.toNat<tr.length:=by omega
 have R:=bo J ar;have H:=bo bh ar;have aP:=λh=>zv (ts:=tw) (t:=t) (v:=v) h
 have aQ:=λh=>zw (ts:=tw) (t:=t) (v:=v) h
 have aR:=λh=>zx (ts:=tw) (t:=t) (v:=v) h
 have aS:=λh=>zy (ts:=tw) (t:=t) (v:=v) h
 have aT:=λh h1 aq=>Cb (ts:=tw) (t:=t) (v:=v) h h1 aq
 have aU:=λh=>td (ts:=tw) (t:=t) (v:=v) h
 have aV:=λh=>tf (ts:=tw) (t:=t) (v:=v) h
 have aX:=λh=>tg (ts:=tw) (t:=t) (v:=v) h
 have aY:=λh=>rh (ts:=tw) (t:=t) (v:=v) h
 rw[Ca]at h;rw[Jp];generalize aG:tw.getD t.toNat ar=x at*;generalize bJ:tr.getD rt.toNat ar=y at*;cases aD with
 |mk _ hs h1 aq bG Q hi bI dy aJ bK bL=>
 have aM:x.Kind=5->∀c,c<=kz tw x.ae v.al->c<=m:=λh c G=>by rw[ab h]at u;exact Ie u N G
 have aN:x.Kind=6->∀g,cV x.ae v.af=some g->∀c,c<=iS tw g.av v.al->c<=m:=λh g bP c G=>by
  rw[ag (by rw[h];decide),ab h,bP]at u;exact Ie u N G
 have Y:7<=x.Kind->∀c,c<=iS tw x.aH v.al->c<=m:=λh c G=>by
  rw[ag (λe=>by rw[e]at h;exact absurd h (by decide)),ag (λe=>by rw[e]at h;exact absurd h (by decide))]at u;exact Ie u N G
 have aO:∀q,q∈v.aE->1<=m:=λq b=>by
  rw[ah q b]at u;exact acg u N rfl
 clear u N bk ah;have br:x.Kind=y.Kind:=by
  by_cases e:x.Kind=y.Kind
  . exact e
  . rw[Nu e]at h;cases h
 have X:x.Kind<=4->p=v/\lZ x y v:=λaw=>by
  by_cases ad:lZ x y v
  . rw[y' br aw ad]at h;cases h;exact⟨rfl,ad⟩
  . rw[Cw br aw ad]at h;cases h
 have seq:∀{t rt:Int} {i:Nat} {l us:List I},(∀q,q∈l->bS q/\gR tw n t q/\cI tw true t q/\g' tw t q<=m)->0<=rt->rt<tr.length->hI (gA tw tr n) path t rt i l= .inl us->dM (ee tr m rt) (b4 tw t l)=some us/\us.length=l.length:=λ{t rt i l us} ad a0 a1 B=>by
  obtain⟨b1,b2⟩:=xX B;refine⟨HS [] aK (by rw[kK,b1]) λj J=>?_,b1⟩;rw[kK]at J;rw[Z9 J];obtain⟨s,am,an,bv⟩:=ad _ (bo J aK);exact ih s am an a0 a1 (b2 j J) m bv
 unfold G5;rcases G with d|d|d|d|d|d|d|d|d
 . obtain⟨rfl,_⟩:=X (by omega);rw[ab (by omega),aP (by omega)];obtain⟨a1,a2,a3,a4,a5,o,F⟩:=d;unfold GZ;cases bH:p.b' with
   |true=>
    rw[ab (show true=true from rfl),ag (show ¬([1]:List UInt8)=[] by simp),ab (show([1]:List UInt8)=[1]from rfl)];cases p;simp_all
   |false=>
    rw[ag (show ¬false=true by simp),ab (show([]:List UInt8)=[]from rfl)];cases p;simp_all
 . obtain⟨rfl,ad⟩:=X (by omega);obtain⟨a1,a2,a3,a4,a5,o,F,z,a9⟩:=d;rw[ag (by omega),ab (by omega),aQ (by omega)];have bm:=ace (n:=p.bq) aJ;unfold G0;rw[Kr (y2 aJ)];simp only;rw[bm,ab (ad.1 (by omega))];cases p;simp_all
 . obtain⟨rfl,ad⟩:=X (by omega);obtain⟨a1,a2,a3,a4,a5,o,F,z⟩:=d;rw[ag (by omega),ag (by omega),ab (by omega),aR (by omega)];unfold G1;rw[ab (ad.2.1 (by omega))];cases p;simp_all
 . obtain⟨rfl,ad⟩:=X (by omega);obtain⟨a1,a2,a3,a4,a5,o,F,z⟩:=d;have M:cO p.af:=by
    rcases z with⟨y,bA,bB⟩|⟨_,h,_⟩
    . rw[<-bB];exact SW.S _ R (by omega) y bA
    . cases h
   unfold cO at M;obtain⟨k,Q⟩:∃k:Nat,p.af=(k:Int):=⟨p.af.toNat,by omega⟩
   rw[ag (by omega),ag (by omega),ag (by omega),ab (by omega),aS (by omega),Q,aW];unfold G2;rw[Kr (by omega)];simp only;have hs:((y.a7.any λy=>decide (y.af=(k:Int)))||y.Open)=true:=by
    rcases ad.2.2 (by omega)with q|q
    . rw[Q]at q;rw[ML.1 q];rfl
    . rw[q];simp
   rw[ab ⟨by omega,by omega,hs⟩];cases p;simp_all
 . obtain⟨a1,a2,a3,a4,a5,o,F,z⟩:=d;rw[Qn br (by omega)]at h;obtain⟨C,bs⟩:=SW.A _ R (.inl (by omega));obtain⟨f1,f2⟩:=kb.1 z;obtain⟨W,az,h⟩:=C1 h;obtain⟨r,bb,rfl⟩:=nu h;obtain⟨b1,b2⟩:=GH az;obtain⟨c1,c2⟩:=Iz C.2 bb;have aC:=aT (by omega) bg C
   rw[ag (by omega),ag (by omega),ag (by omega),ag (by omega),ag (by omega),ag (by omega),ag (by omega),ag (by omega),aC];unfold G3
   rw[abq (Jt C) (λf aa=>by
    have:=Tg (ts:=tw) (ms:=x.ae) (l:=v.al) (r:=[]) C ⟨.nil,λx aG=>by cases aG⟩ (x:=f) (by unfold ke;simpa using aa)
    exact this) (by rw[<-aC];exact aj)]
   simp only;have bl:dM (hy (ee tr m) ((dk tw x.ae v.al).map mD)) y.ae=some W:=HS au aK b1 λj ay=>by
    have U:=bo ay au;unfold hy;rw[aag C.2 f1 C.1];rcases LU (b2 j ay)with⟨c1,c2,c3⟩|⟨i,c1,c2,c3⟩
    . rw[c1];simp only;rw[ab c2,c3]
    . rw[c1];obtain⟨d1,_,_⟩:=jN c1;simp only;by_cases L:dz (x.ae.getD i au) (v.al.getD i aK)=true
      . rw[ab L];obtain⟨bt,bu⟩:=adC.1 (c3 L);simp only;rw[ab bt,bu]
      . rw[ag L];simp only;have K:=bo (by omega:i<v.al.length) aK;obtain⟨D,s⟩:=E.gw.mem H U;have ai:=GF (ts:=tw) (ms:=x.ae) (l:=v.al) d1 (by rw[f1];exact d1) (by simpa using L);exact ih (hi _ K) (aZ (by omega) i d1) (f2 i d1) D s c2 m (aM (by omega) _ ai)
   rw[bl];simp only;rw[ab c1,c2]
 . obtain⟨a1,a2,a3,a4,a5,o⟩:=d;rw[Qo br (by omega)]at h;unfold vC at h;obtain⟨C,bs⟩:=SW.A _ R (.inr (by omega));cases bP:cV x.ae v.af with
   |none=>rw[bP]at o;cases o.2.1
   |some g=>
    rw[bP]at o;obtain⟨b1,b2,ba⟩:=o;have ak:=uV x.ae v.af;rw[bP]at ak;cases M:fE x.ae v.af with
    |none=>rw[M]at ak;cases ak
    |some i=>
    obtain⟨d1,d2,_⟩:=jN M;obtain⟨d3,d4⟩:=oT bP;have em:x.ae.getD i au=g:=ya C (bo d1 au) d3 (by rw[d2,d4]);have hid:cO v.af:=by rw[<-d4];exact C.2 g d3
    unfold cO at hid;obtain⟨k,aA⟩:∃k:Nat,v.af=(k:Int):=⟨v.af.toNat,by omega⟩
    have K:=bo (by omega:0<v.al.length) aK;have b:b4 tw g.av v.al=[bY tw g.av (v.al.getD 0 aK)]:=by
     match aD:v.al,b2 with
     |[a],_=>rw[b4,b4];rfl
    have B:bY tw t v=ei k++bY tw g.av (v.al.getD 0 aK):=by
     rw[aU (by omega),bP];show _++(b4 tw g.av v.al).headD []=_;rw[b,aA,aW];rfl
    rw[ag (by omega),ag (by omega),ag (by omega),ag (by omega),ag (by omega),ab (by omega),B];unfold QL;rw[ady (by omega)];simp only;rw[<-aA];simp only[M,em]at h;cases P:fE y.ae v.af with
    |some j=>
     simp only[P]at h;obtain⟨w,az,rfl⟩:=nu h;obtain⟨bn,bp,_⟩:=jN P;have U:=bo bn au;obtain⟨D,s⟩:=E.gw.mem H U;have Z:cV y.ae v.af=some (y.ae.getD j au):=by rw[<-bp];exact CD (cq.A _ H (.inr (by omega))).1 U
     rw[Z];simp only;have ai:=sj (ts:=tw) (t:=g.av) K;rw[ih (hi _ K) (a6 (by omega) g bP _ K) (dR.1 ba _ K) D s az m (aN (by omega) g bP _ ai)];rfl
    |none=>
     simp only[P]at h;have Z:cV y.ae v.af=none:=by
      have:=uV y.ae v.af;rw[P]at this;cases b:cV y.ae v.af with
      |none=>rfl
      |some _=>rw[b]at this;cases this
     rw[Z];simp only;split at h
     . cases h;rename_i L;rw[ab L]
     . cases h
 . obtain⟨a1,a2,a3,a4,a5,o,F,z,a9⟩:=d;rw[Qp br (by omega)]at h;unfold zj at h;split at h
   . rename_i bf;obtain⟨W,az,rfl⟩:=nu h;obtain⟨D,s⟩:=E.gw.elem H (by omega);have B:=aV (by omega);obtain⟨s1,aL⟩:=seq (λq b=>⟨hi q b,(O (by omega)).1 q b,dR.1 a9 q b,Y (by omega) _ (sj b)⟩) D s az;rw[ag (by omega),ag (by omega),ag (by omega),ag (by omega),ag (by omega),ag (by omega),ab (by omega),B];unfold Db
     rw[MJ (by rw[<-B];exact aj)];simp only;rw[ab (by rw[kK];omega),s1];rfl
   . cases h
 . obtain⟨a1,a2,a3,a4,a5,o,F,z,a9,a8,a'⟩:=d;rw[Qq br (by omega)]at h;unfold zk at h;split at h
   . rename_i bf;obtain⟨ks,bM,h⟩:=C1 h;obtain⟨W,az,rfl⟩:=nu h;obtain⟨D,s⟩:=E.gw.elem H (by omega);obtain⟨am,an⟩:=E.gw.key H (by omega);have B:=aX (by omega);obtain⟨s1,aL⟩:=seq (λq b=>⟨hi q b,(O (by omega)).1 q b,dR.1 a8 q b,Y (by omega) _ (sj b)⟩) D s az;have be:=(SW.tz _ R (by omega))
     have bi:∀q,q∈v.aE->g' tw x.Key q<=m:=λq b=>by
      have bj:=aO q b;have e:g' tw x.Key q=1:=by
       obtain⟨⟨_,_,bE,_⟩,aI⟩:=(e4 _ _ _).1 (dR.1 a9 q b);refine GC ?_ ?_
       . rcases aI with k|k|k|k|k|k|k|k|k
         . exact k.2.2.2.2.1
         . exact k.2.2.2.2.1
         . exact k.2.2.2.2.1
         . exact k.2.2.2.2.1
         all_goals (exfalso;omega)
       . rcases aI with k|k|k|k|k|k|k|k|k
         . exact k.2.2.2.2.2.1
         . exact k.2.2.2.2.2.1
         . exact k.2.2.2.2.2.1
         . exact k.2.2.2.2.2.1
         all_goals (exfalso;omega)
      rw[e];exact bj
     obtain⟨bw,bQ⟩:=seq (λq b=>⟨Q q b,(O (by omega)).2 q b,dR.1 a9 q b,bi q b⟩) am an bM;have bc:=Js (λv rt path p h=>Jq be.2 h) bM;subst bc;have aB:(b4 tw x.Key v.aE).length=(b4 tw x.aH v.al).length:=by rw[kK,kK];omega
     obtain⟨bx,bz⟩:=Tb aB;have ao:=JO _ _ aB;rw[kK,kK]at ao;rw[ag (by omega),ag (by omega),ag (by omega),ag (by omega),ag (by omega),ag (by omega),ag (by omega),ab (by omega),B,GD];unfold QM;rw[MJ (by rw[<-GD,<-B];exact aj)];simp only;rw[ab ⟨by rw[ao];omega,by rw[ao];omega⟩,bx,bz,bw];simp only
     rw[ab (HP.2 a'),s1];rfl
   . cases h
 . obtain⟨a1,a2,a3,a4,a5,o,F,z,a9⟩:=d;rw[Qr br (by omega)]at h;obtain⟨W,az,rfl⟩:=nu h;obtain⟨D,s⟩:=E.gw.elem H (by omega);obtain⟨s1,aL⟩:=seq (λq b=>⟨hi q b,(O (by omega)).1 q b,dR.1 a9 q b,Y (by omega) _ (sj b)⟩) D s az;rw[ag (by omega),ag (by omega),ag (by omega),ag (by omega),ab (by omega),aY (by omega)]
   match gV:v.al,z with
   |[],_=>
    rw[gV,b4]at s1;cases s1;rw[b4];rfl
   |[a],_=>
    rw[gV,b4,b4]at s1;rw[b4,b4];rw[GG]at s1;show((if(1:UInt8)=1 then(ee tr m y.aH (bY tw x.aH a)).map _ else none):Option I)=_;rw[ab rfl];cases ax:ee tr m y.aH (bY tw x.aH a)with
    |none=>rw[ax]at s1;cases s1
    |some w=>
     rw[ax]at s1;cases s1;rfl
theorem Jv(b:dH tw)(a:dH tr):∀n,Dx tw tr n
 |0=>λ_ _ _ _ _ h=>by cases h
 |n+1=>aah b a (Jv b a n)
end
theorem hO{b n:Nat}(a:b<=200)(aA:n<=1000000):room b n=true:=by
 have h:(2*n+192)*b<=2000192*200:=AQ (by omega) a;unfold room gr dd;simp only[cH,hq];omega
theorem th(v item:I)(h:v.al.length<=100000):nO (v,item)=some ⟨v.Kind,v.b',v.bq,v.bA,v.af,v.aE,v.al++[item],v.Rest⟩:=by
 rw[nO];simp only[aV,ak,hr,I.bj];rw[ab (hO (by omega) (by omega)),ab (hO (by omega) (by simp;omega))]
theorem A5{p:List UInt8}(h:p.length<=100000):uz p=some (dB p):=by
 rw[uz,h9 (by omega),sn (by omega)];have:=jK (n:=p.length) (by omega);simp only[aV,ak];rw[ab (eY (by omega))];rfl
theorem M6{m:aO}{p:List UInt8}(b:cO m.af)(d:p.length<=4096):qH (m,p)=some (eZ m.af.toNat m.bQ p):=by
 unfold cO at b;have e:m.af=((m.af.toNat:Nat):Int):=by omega
 have h1:¬m.af<1:=by omega
 have a:¬1000<m.af:=by omega
 rw[qH,FF];simp only[h1,a,eG,hv,cN,cv];rw[ag (by simp;omega)];have:=FX (id:=m.af.toNat) (c:=m.bQ) (p:=p) (by omega) (by omega);rw[<-e]at this;rw[this];rfl
section
variable {ts:List ah}
structure ef (ts:List ah)(t n:Int)(x:aY):Prop where
 o:bS x.V
 f:cI ts true t x.V
 p:x.P=bY ts t x.V
 l:(x.P.length:Int)<=n
 v:(g' ts t x.V:Int)<=n+2
theorem ef.leaf{t n:Int}{x:aY}(a:x.V.aE=[])(hi:x.V.al=[])(f:x.V.Rest=[])(hs:x.V.bA.length<=1000)(dy:bw x.V.Kind)(g:bw x.V.bq)(j:bw x.V.af)(c:cI ts true t x.V)(e:x.P=bY ts t x.V)(ad:(x.P.length:Int)<=n)(aA:0<=n):ef ts t n x:=
 ⟨mm a hi f hs dy g j,c,e,ad,by rw[GC a hi];omega⟩
def rn(x:ah)(n:Int)(e:aY):Prop:=∃i:Int,e=⟨⟨x.Kind,false,i,[],0,[],[],[]⟩,eV (fr i).toNat⟩/\x.bz<=i/\i<=x.bx/\((eV (fr i).toNat).length:Int)<=n
theorem N2{i:Int}(h:bw i):(pc i>>=λr=>oH r)=some (eV (fr i).toNat):=by
 have h0:0<=fr i:=by unfold fr;split<;>omega
 have h1:=y2 h;rw[qF h];have:=CZ h1;rw[Int.toNat_of_nonneg h0]at this;exact this
theorem MS{x:ah}{n:Int}(f: -3<=x.bz)(d:x.bx<=8):∀(k:Nat) (i:Int) (out:List aY),out.length+k=3001-> -3<=i->x.bz<=i->(∀e,e∈out->rn x n e)->
 ∃b,qd (n,i,x,out)=some (n,x,b)/\b.length<=3001/\∀e,e∈b->rn x n e
 |0,i,out,g,hi,ad,a=>⟨out,by rw[qd,ag (by simp;omega)],by omega,a⟩
 |k+1,i,out,g,hi,ad,a=>by
  by_cases h:i<=x.bx
  . have j:=N2 (i:=i) (by unfold bw;omega);obtain⟨z,l,m⟩:=jt.1 j;rw[qd,ab (by simp[h];omega),l];simp only[aV,ak];rw[m];simp only[ak];by_cases aA:n<((eV (fr i).toNat).length:Int)
    . rw[ab (by simpa using aA)];exact⟨out,rfl,by omega,a⟩
    . have c:∀e,e∈out++[(⟨⟨x.Kind,false,i,[],0,[],[],[]⟩,eV (fr i).toNat⟩:aY)]->rn x n e:=by
       intro e he;rcases fX.1 he with he|he
       . exact a e he
       . rw[e7.1 he];exact⟨i,rfl,ad,h,by omega⟩
      rw[ag (by simpa using aA),ab (hO (by omega) (by simp;omega))];by_cases he:i=x.bx
      . rw[ab (by simpa using he)];exact⟨_,rfl,by simp;omega,c⟩
      . rw[ag (by simpa using he),hG (by omega) (by omega)];exact MS f d k (i+1) _ (by simp;omega) (by omega) (by omega) c
  . exact⟨out,by rw[qd,ag (by simp[h])],by omega,a⟩
theorem MT{x:ah}{n:Int}(f: -3<=x.bz)(d:x.bx<=8):∀(k:Nat) (i:Int) (out:List aY),out.length+k=3001->i<=8->i<=x.bx->(∀e,e∈out->rn x n e)->
 ∃b,qe (n,i,x,out)=some b/\b.length<=3001/\∀e,e∈b->rn x n e
 |0,i,out,g,hi,ad,a=>⟨out,by rw[qe,ag (by simp;omega)],by omega,a⟩
 |k+1,i,out,g,hi,ad,a=>by
  by_cases h:x.bz<=i
  . have j:=N2 (i:=i) (by unfold bw;omega);obtain⟨z,l,m⟩:=jt.1 j;rw[qe,ab (by simp[h];omega),l];simp only[aV,ak];rw[m];simp only[ak];by_cases aA:n<((eV (fr i).toNat).length:Int)
    . rw[ab (by simpa using aA)];exact⟨out,rfl,by omega,a⟩
    . have c:∀e,e∈out++[(⟨⟨x.Kind,false,i,[],0,[],[],[]⟩,eV (fr i).toNat⟩:aY)]->rn x n e:=by
       intro e he;rcases fX.1 he with he|he
       . exact a e he
       . rw[e7.1 he];exact⟨i,rfl,h,ad,by omega⟩
      rw[ag (by simpa using aA),ab (hO (by omega) (by simp;omega))];by_cases he:i=x.bz
      . rw[ab (by simpa using he)];exact⟨_,rfl,by simp;omega,c⟩
      . rw[ag (by simpa using he),fC (by omega) (by omega)];exact MT f d k (i-1) _ (by simp;omega) (by omega) (by omega) c
  . exact⟨out,by rw[qe,ag (by simp[h])],by omega,a⟩
theorem ints{x:ah}{n:Int}(b: -3<=x.bz)(a:x.bx<=8):∃out,BG (x,n)=some out/\out.length<=3001/\∀e,e∈out->rn x n e:=by
 obtain⟨c,az,f,cz⟩:=MS (n:=n) b a 3001 (ki x.bz 0) [] (by simp) (by unfold ki;omega) (by unfold ki;omega) (λe h=>by cases h);obtain⟨d,f1,f2,f3⟩:=MT (n:=n) b a (3001-c.length) (dD x.bx (-1)) c (by omega) (by unfold dD;omega) (by unfold dD;omega) cz;refine⟨d,?_,f2,f3⟩;rw[BG];simp only[aV];rw[az];simp only[ak]
 rw[f1];rfl
end
abbrev cG:aY:=dU
theorem oY{α:Type}{l m:List α}{i:Nat}(h:i<l.length)(d:α):(l++m).getD i d=l.getD i d:=by grind
theorem kM{α:Type}{P:α->Prop}{l:List α}{a:α}(h:∀e,e∈l->P e)(b:P a):∀e,e∈l++[a]->P e:=by
 intro e he;rcases fX.1 he with he|he
 . exact h e he
 . rw[e7.1 he];exact b
def tF(x:ah)(n:Int)(e:aY):Prop:=∃s:List UInt8,e=⟨⟨x.Kind,false,0,s,0,[],[],[]⟩,s⟩/\(s.length:Int)<=n/\(s.length:Int)<=x.Max
theorem L1{x:ah}{n:Int}(j:x.Max<=3)(i:Nat)(bM:aY)(h0:tF x n bM)(aI:(bM.P.length:Int)<n/\(bM.P.length:Int)<x.Max):∀(k c:Nat) (out:List aY),c+k=256->out.length+k<=100000->i<out.length->out.getD i cG=bM->(∀e,e∈out->tF x n e)->
 ∃d,p9 (n,(i:Int),(c:Int),x,out)=some (n,(i:Int),x,d)/\d.length=out.length+k/\∀e,e∈d->tF x n e
 |0,c,out,m,ad,hi,aj,f=>⟨out,by rw[p9,ag (by simp;omega)],rfl,f⟩
 |k+1,c,out,m,ad,hi,aj,f=>by
  obtain⟨s,hs,p,q⟩:=h0;have g:bM.P=s:=by rw[hs]
  rw[g]at aI;have az:(strOf [bW .u8 (c:Int)]).length=1:=by simp[strOf]
  obtain⟨b,l⟩:∃b,strOf [bW .u8 (c:Int)]=[b]:=List.length_eq_one_iff.1 az;have o:=kM (a:=(⟨⟨x.Kind,false,0,s++[b],0,[],[],[]⟩,s++[b]⟩:aY)) f ⟨s++[b],rfl,by simp;omega,by simp;omega⟩;rw[p9,ab (by simp;omega),ab (aN hi),aW,ab (dL hi),show dU=cG from rfl,aj];simp only[aV,ak,g,l]
  rw[ab (eY (by simp;omega)),ab (hO (by omega) (by simp;omega)),bB (by omega)];obtain⟨d,f1,f2,f3⟩:=L1 j i bM ⟨s,hs,p,q⟩ (by rw[g];exact aI) k (c+1) _ (by omega) (by simp;omega) (by simp;omega) (by rw[oY hi];exact aj) o;exact⟨d,f1,by rw[f2];simp;omega,f3⟩
theorem HC{x:ah}{n:Int}(b:x.Max<=3):∀(k i:Nat) (out:List aY),i+k=4000->out.length<=3256->(∀e,e∈out->tF x n e)->
 ∃c,ni (n,(i:Int),x,out)=some c/\c.length<=3256/\∀e,e∈c->tF x n e
 |0,i,out,f,ad,a=>⟨out,by rw[ni,ag (by simp;omega)],ad,a⟩
 |k+1,i,out,f,ad,a=>by
  by_cases h:i<out.length/\out.length<=3000
  . obtain⟨hi,j⟩:=h;have d:=a _ (bo hi cG);rw[ni,ab (by simp;omega),ab (aN hi),aW,ab (dL hi),show dU=cG from rfl];by_cases he:((out.getD i cG).P.length:Int)=dD n x.Max
    . rw[ab (by simpa using he),bB (by omega)];exact HC b k (i+1) out (by omega) ad a
    . rw[ag (by simpa using he)];have aI:((out.getD i cG).P.length:Int)<n/\((out.getD i cG).P.length:Int)<x.Max:=by
       obtain⟨s,hs,l,m⟩:=d;rw[hs]at he⊢;unfold dD at he;simp only at he⊢;omega
      obtain⟨g,f1,f2,f3⟩:=L1 b i _ d aI 256 0 out (by omega) (by omega) hi rfl a;have f1:p9 (n,(i:Int),0,x,out)=_:=f1;rw[f1];simp only[aV,ak];rw[bB (by omega)];exact HC b k (i+1) g (by omega) (by omega) f3
  . exact⟨out,by rw[ni,ag (by simp;omega)],ad,a⟩
theorem strs{x:ah}{n:Int}(aA:0<=n)(c:0<=x.Max)(b:x.Max<=3):∃out,BJ (x,n)=some out/\out.length<=3256/\∀e,e∈out->tF x n e:=by
 obtain⟨o,az,a,cz⟩:=HC (n:=n) b 4000 0 [(⟨⟨x.Kind,false,0,[],0,[],[],[]⟩,[]⟩:aY)] (by omega) (by simp) (λe h=>by
  rw[e7.1 h];exact⟨[],rfl,by simpa using aA,by simpa using c⟩)
 have az:ni (n,0,x,[(⟨⟨x.Kind,false,0,[],0,[],[],[]⟩,[]⟩:aY)])=_:=az;exact⟨o,by rw[BJ,az];rfl,a,cz⟩
def NX(x:ah)(n:Int)(e:aY):Prop:=∃y,y∈x.a7/\e=⟨⟨x.Kind,false,0,[],y.af,[],[],[]⟩,eV y.af.toNat⟩/\((eV y.af.toNat).length:Int)<=n
theorem HD{x:ah}{n:Int}(ay:∀y,y∈x.a7->cO y.af)(ad:x.a7.length<=1000):∀(k i:Nat) (out:List aY),i+k=x.a7.length->out.length<=i->(∀e,e∈out->NX x n e)->
 ∃b,o2 (n,(i:Int),x,out)=some b/\b.length<=x.a7.length/\∀e,e∈b->NX x n e
 |0,i,out,g,hi,a=>⟨out,by rw[o2,ag (by simp;omega)],by omega,a⟩
 |k+1,i,out,g,hi,a=>by
  have aI:i<x.a7.length:=by omega
  have c:=bo aI dm;have d:=ay _ c;unfold cO at d;have e:(x.a7.getD i dm).af=(((x.a7.getD i dm).af.toNat:Nat):Int):=by omega
  have f:=CZ (n:=(x.a7.getD i dm).af.toNat) (by omega);have j:bW .u64 (x.a7.getD i dm).af=(((x.a7.getD i dm).af.toNat:Nat):Int):=by
   rw[e,h9 (by omega)];simp
  rw[o2,ab (by simp;omega),ab (aN aI),aW,j,f];simp only[aV,ak];by_cases aA:((eV (x.a7.getD i dm).af.toNat).length:Int)<=n
  . rw[ab (by simpa using aA),ab (aN aI),ab (hO (by omega) (by simp;omega)),bB (by omega)];exact HD ay ad k (i+1) _ (by omega) (by simp;omega) (kM a ⟨_,c,rfl,aA⟩)
  . rw[ag (by simpa using aA),bB (by omega)];exact HD ay ad k (i+1) _ (by omega) (by omega) a
section
variable {ts:List ah}
theorem MU{x:ah}{L:List aY}(f:L.length<=100000)(d:∀e,e∈L->e.P.length<=1000):∀(k i:Nat) (out:List aY),i+k=L.length->out.length<=i+1->(∀e,e∈out->e=⟨⟨x.Kind,false,0,[],0,[],[],[]⟩,[]⟩\/∃q,q∈L/\e=⟨⟨x.Kind,false,0,[],0,[],[q.V],[]⟩,1::q.P⟩)->
 ∃b,qh (L,(i:Int),x,out)=some b/\b.length=out.length+k/\∀e,e∈b->e=⟨⟨x.Kind,false,0,[],0,[],[],[]⟩,[]⟩\/∃q,q∈L/\e=⟨⟨x.Kind,false,0,[],0,[],[q.V],[]⟩,1::q.P⟩
 |0,i,out,g,hi,a=>⟨out,by rw[qh,ag (by simp;omega)],rfl,a⟩
 |k+1,i,out,g,hi,a=>by
  have aI:i<L.length:=by omega
  have c:=bo aI cG;have j:=d _ c;rw[qh,ab (by simp;omega),ab (aN aI),aW,I.bj,th _ _ (by simp),show dU=cG from rfl];simp only[aV,ak,hr,I.bj];rw[ab (aN aI),ab (eY (by show 1+_<=_;omega)),ab (hO (by omega) (by simp;omega)),bB (by omega)]
  obtain⟨o,f1,f2,f3⟩:=MU (x:=x) f d k (i+1) _ (by omega) (by simp;omega) (kM a (.inr ⟨_,c,rfl⟩));exact⟨o,f1,by rw[f2];simp;omega,f3⟩
theorem L2{x:ah}{n:Int}{ts:List ah}{L:List aY}(j:Nat)(d:j<x.ae.length)(head:List UInt8)(aa:head.length<=1000)(l:L.length<=100000)(g:∀e,e∈L->e.P.length<=1000):∀(k i:Nat) (out a:List aY),i+k=L.length->out.length<=100000+i->out.length<=a.length+i->
 (∀e,e∈out->e∈a\/∃q,q∈L/\e=⟨⟨x.Kind,false,0,[],(x.ae.getD j au).af,[],[q.V],[]⟩,head++q.P⟩)->
 ∃c,p' (n,(j:Int),head,L,(i:Int),ts,x,out)=some (n,(j:Int),ts,x,c)/\c.length=out.length+k/\∀e,e∈c->e∈a\/∃q,q∈L/\e=⟨⟨x.Kind,false,0,[],(x.ae.getD j au).af,[],[q.V],[]⟩,head++q.P⟩
 |0,i,out,a,p,hi,m,b=>⟨out,by rw[p',ag (by simp;omega)],rfl,b⟩
 |k+1,i,out,a,p,hi,m,b=>by
  have aI:i<L.length:=by omega
  have f:=bo aI cG;have r:=g _ f;rw[p',ab (by simp;omega),ab (aN d),ab (aN aI),aW,aW,I.bj,th _ _ (by simp),show dU=cG from rfl];simp only[aV,ak,hr,I.bj];rw[ab (aN aI),ab (eY (by omega)),ab (hO (by omega) (by simp;omega)),bB (by omega)]
  obtain⟨o,f1,f2,f3⟩:=L2 (x:=x) (n:=n) (ts:=ts) j d head aa l g k (i+1) _ a (by omega) (by simp;omega) (by simp;omega) (kM b (.inr ⟨_,f,rfl⟩));exact⟨o,f1,by rw[f2];simp;omega,f3⟩
structure LE (ts:List ah)(x:ah)(n:Int)(e:aY):Prop where
 bu:e.V=⟨x.Kind,false,0,[],0,[],e.V.al,[]⟩
 it:∀y,y∈e.V.al->bS y/\cI ts true x.aH y/\(g' ts x.aH y:Int)<=n+1
 m:(e.V.al.length:Int)<=x.Max
 p:e.P=(b4 ts x.aH e.V.al).flatMap dB
 l:(e.P.length:Int)<=n
theorem GK{ts:List ah}{t:Int}(l:List I)(v:I):b4 ts t (l++[v])=b4 ts t l++[bY ts t v]:=by
 rw[q2,q2,yf];rfl
theorem HT{ts:List ah}{x:ah}{n:Int}(u:x.Max<=3)(aA:n<=12){L:List aY}(t:L.length<=100000)(cp:∀e,e∈L->ef ts x.aH (n-1) e)(j:Nat)(bM:aY)(h0:LE ts x n bM)(aI:(bM.V.al.length:Int)<x.Max):
 ∀(k i:Nat) (out:List aY) (b:Nat),i+k=L.length->out.length<=b+i->b<=10000->j<out.length->out.getD j cG=bM->(∀e,e∈out->LE ts x n e)->
 ∃s,kV (n,L,(j:Int),(i:Int),x,out)=some (n,L,(j:Int),x,s)/\s.length<=b+L.length/\∀e,e∈s->LE ts x n e
 |0,i,out,b,z,hi,m,a,aj,g=>⟨out,by rw[kV,ag (by simp;omega)],by omega,g⟩
 |k+1,i,out,b,z,hi,m,a,aj,g=>by
  have q:i<L.length:=by omega
  have c:=cp _ (bo q cG);have B:=c.l;have C:=h0.l;have D:=ny (p:=(L.getD i cG).P) (by omega);rw[kV,ab (by simp;omega),ab (aN a),aW,aW,ab (dL a),show dU=cG from rfl,aj];simp only[aV,ak];rw[ab (aN q),A5 (by omega)];simp only[ak];rw[ab (eY (by omega))]
  by_cases r:((bM.P++dB (L.getD i cG).P).length:Int)<=n
  . have hit:bM.V.al.length<=100000:=by omega
    rw[ab (by simpa using r),ab (aN a),ab (dL a),ab (aN q),I.bj,I.bj,th _ _ hit];simp only[ak,I.bj];rw[ab (hO (by omega) (by simp;omega)),bB (by omega)];refine HT u aA t cp j bM h0 aI k (i+1) _ b (by omega) (by simp;omega) m (by simp;omega) (by rw[oY a];exact aj) (kM g ⟨?_,?_,?_,?_,r⟩)
    . have A:=h0.bu;generalize bM.V=w at*;rw[A]
    . intro y d;rcases fX.1 d with d|d
      . exact h0.it y d
      . rw[e7.1 d];exact⟨c.o,c.f,by have:=c.v;omega⟩
    . simp;omega
    . show bM.P++dB (L.getD i cG).P=(b4 ts x.aH (bM.V.al++[(L.getD i cG).V])).flatMap dB;rw[GK,yq,<-h0.p,c.p];simp
  . rw[ag (by simpa using r),bB (by omega)];exact HT u aA t cp j bM h0 aI k (i+1) _ b (by omega) (by omega) m a aj g
theorem HE{ts:List ah}{x:ah}{n:Int}(c:x.Max<=3)(aA:n<=12){L:List aY}(b:L.length<=100000)(cp:∀e,e∈L->ef ts x.aH (n-1) e):
 ∀(k i:Nat) (out:List aY),i+k=200000->out.length<=3000+L.length->(∀e,e∈out->LE ts x n e)->
 ∃d,kW (n,L,(i:Int),x,out)=some d/\d.length<=3000+L.length/\∀e,e∈d->LE ts x n e
 |0,i,out,g,ad,a=>⟨out,by rw[kW,ag (by simp;omega)],ad,a⟩
 |k+1,i,out,g,ad,a=>by
  by_cases h:i<out.length/\out.length<=3000
  . obtain⟨hi,l⟩:=h;have f:=a _ (bo hi cG);rw[kW,ab (by simp;omega),ab (aN hi),aW,ab (dL hi),show dU=cG from rfl];by_cases he:((out.getD i cG).V.al.length:Int)=x.Max
    . rw[ab (by simpa using he),bB (by omega)];exact HE c aA b cp k (i+1) out (by omega) ad a
    . rw[ag (by simpa using he)];obtain⟨j,f1,f2,f3⟩:=HT c aA b cp i _ f (by have:=f.m;omega) L.length 0 out out.length (by omega) (by omega) (by omega) hi rfl a;have f1:kV (n,L,(i:Int),0,x,out)=_:=f1;rw[f1];simp only[aV,ak];rw[bB (by omega)];exact HE c aA b cp k (i+1) j (by omega) (by omega) f3
  . exact⟨out,by rw[kW,ag (by simp;omega)],ad,a⟩
end
theorem ef.up{ts:List ah}{t n b3:Int}{x:aY}(h:ef ts t n x)(aA:n<=b3):ef ts t b3 x:=⟨h.o,h.f,h.p,by have:=h.l;omega,by have:=h.v;omega⟩
structure j3 (ts:List ah)(x:ah)(n:Int)(e:aY):Prop where
 bu:e.V=⟨x.Kind,false,0,[],0,e.V.aE,e.V.al,[]⟩
 Eb:e.V.al.length=e.V.aE.length
 it:∀y,y∈e.V.al->bS y/\cI ts true x.aH y/\(g' ts x.aH y:Int)<=n+1
 ks:∀y,y∈e.V.aE->bS y/\cI ts true x.Key y
 N1:il e.V.aE
 m:(e.V.aE.length:Int)<=x.Max
 p:e.P=fU (b4 ts x.Key e.V.aE) (b4 ts x.aH e.V.al)
 l:(e.P.length:Int)<=n
theorem MV:∀{a b:List (List UInt8)} {k v:List UInt8},a.length=b.length->fU (a++[k]) (b++[v])=fU a b++(dB k++dB v)
 |[],[],k,v,_=>by simp[fU]
 |x::a,y::b,k,v,h=>by
  have:=MV (a:=a) (b:=b) (k:=k) (v:=v) (by simpa using h);simp[fU,this]
 |[],_::_,_,_,h=>by simp at h
 |_::_,[],_,_,h=>by simp at h
theorem adb{ks:List I}{k:I}(h:il ks)(a:ks=[]\/gZ (ks.getD (ks.length-1) aK) k<0):il (ks++[k]):=by
 intro i hi;simp only[dP,List.length_singleton]at hi;by_cases ad:i+1<ks.length
 . rw[oY (by omega),oY ad];exact h i ad
 . have e:i+1=ks.length:=by omega
   rcases a with rfl|a
   . simp at e
   . rw[oY (by omega),e];have b:i=ks.length-1:=by omega
     rw[<-b]at a;have:(ks++[k]).getD ks.length aK=k:=by simp[lU]
     rw[this];exact a
section
variable {ts:List ah}
theorem HU {x:ah}{n:Int}(A:x.Max<=3)(aA:n<=12){K L:List aY}(z:L.length<=100000)(cp:∀e,e∈L->ef ts x.aH (n-1) e){j kk:Nat}(m:kk<K.length)(br:ef ts x.Key n (K.getD kk cG))(bM:aY)(h0:j3 ts x n bM)(aI:(bM.V.aE.length:Int)<x.Max)
 (s:bM.V.aE=[]\/gZ (bM.V.aE.getD (bM.V.aE.length-1) aK) (K.getD kk cG).V<0):
 ∀(k i:Nat) (out:List aY) (b:Nat),i+k=L.length->out.length<=b+i->b<=10000->j<out.length->out.getD j cG=bM->(∀e,e∈out->j3 ts x n e)->
 ∃g,ng (n,K,L,(j:Int),(kk:Int),(i:Int),x,out,bM.V)=some (n,K,L,(j:Int),(kk:Int),x,g,bM.V)/\g.length<=b+L.length/\g.getD j cG=bM/\j<g.length/\∀e,e∈g->j3 ts x n e
 |0,i,out,b,B,hi,r,c,aj,q=>⟨out,by rw[ng,ag (by simp;omega),I.bj],by omega,aj,c,q⟩
 |k+1,i,out,b,B,hi,r,c,aj,q=>by
  have t:i<L.length:=by omega
  have d:=cp _ (bo t cG);have F:=d.l;have l2:=br.l;have E:=h0.l;have s1:=ny (p:=(L.getD i cG).P) (by omega);have G:=ny (p:=(K.getD kk cG).P) (by omega);have C:=h0.Eb;rw[ng,ab (by simp;omega),ab (aN c),aW,aW,aW,ab (dL c),show dU=cG from rfl,aj];simp only[aV,ak]
  rw[ab (aN m),A5 (by omega)];simp only[ak];rw[ab (eY (by omega)),ab (aN t),A5 (by omega)];simp only[ak];rw[ab (eY (by rw[dP];omega))];by_cases u:((bM.P++dB (K.getD kk cG).P++dB (L.getD i cG).P).length:Int)<=n
  . rw[ab (by simpa using u),ab (aN t),I.bj,I.bj,th _ _ (by omega)];simp only[ak,hr];rw[ab (hO (by omega) (by omega)),ab (aN m),I.bj,ab (hO (by omega) (by simp;omega)),ab (hO (by omega) (by simp;omega)),bB (by omega)]
    refine HU A aA z cp m br bM h0 aI s k (i+1) _ b (by omega) (by simp;omega) r (by simp;omega) (by rw[oY c];exact aj) (kM q ⟨?_,?_,?_,?_,?_,?_,?_,u⟩)
    . have D:=h0.bu;generalize bM.V=w at*;rw[D]
    . simp[C]
    . intro y a;rcases fX.1 a with a|a
      . exact h0.it y a
      . rw[e7.1 a];exact⟨d.o,d.f,by have:=d.v;omega⟩
    . intro y a;rcases fX.1 a with a|a
      . exact h0.ks y a
      . rw[e7.1 a];exact⟨br.o,br.f⟩
    . exact adb h0.N1 s
    . simp;omega
    . show bM.P++dB (K.getD kk cG).P++dB (L.getD i cG).P=fU (b4 ts x.Key (bM.V.aE++[(K.getD kk cG).V])) (b4 ts x.aH (bM.V.al++[(L.getD i cG).V]));rw[GK,GK,MV (by rw[kK,kK];omega),<-h0.p,d.p,br.p,jV]
  . rw[ag (by simpa using u),bB (by omega),I.bj];exact HU A aA z cp m br bM h0 aI s k (i+1) _ b (by omega) (by omega) r c aj q
theorem HF{x:ah}{n:Int}(f:x.Max<=3)(aA:n<=12){K L:List aY}(d:L.length<=100000)(r:K.length<=100000)(cp:∀e,e∈L->ef ts x.aH (n-1) e)(br:∀e,e∈K->ef ts x.Key n e){j:Nat}(bM:aY)(h0:j3 ts x n bM)(aI:(bM.V.aE.length:Int)<x.Max):
 ∀(k i:Nat) (out:List aY),i+k=K.length->out.length<=3000+L.length->j<out.length->out.getD j cG=bM->(∀e,e∈out->j3 ts x n e)->
 ∃b,mB (n,K,L,(j:Int),(i:Int),x,out,bM.V)=some (n,K,L,(j:Int),x,b)/\b.length<=3000+L.length/\∀e,e∈b->j3 ts x n e
 |0,i,out,v,ad,m,aj,c=>⟨out,by rw[mB,ag (by simp;omega)],ad,c⟩
 |k+1,i,out,v,ad,m,aj,c=>by
  have l:i<K.length:=by omega
  have q:=br _ (bo l cG);by_cases A:out.length<=3000
  . have step:∀(s:bM.V.aE=[]\/gZ (bM.V.aE.getD (bM.V.aE.length-1) aK) (K.getD i cG).V<0),∃b,((ng (n,K,L,(j:Int),(i:Int),0,x,out,bM.V)).bind λa=>mB (a.1,a.2.1,a.2.2.1,a.2.2.2.1,aM .i64 a.2.2.2.2.1 1,a.2.2.2.2.2.1,a.2.2.2.2.2.2.1,a.2.2.2.2.2.2.2))=some (n,K,L,(j:Int),x,b)/\b.length<=3000+L.length/\∀e,e∈b->j3 ts x n e:=by
     intro s;obtain⟨z,f1,f2,f3,f4,f5⟩:=HU f aA d cp l q bM h0 aI s L.length 0 out out.length (by omega) (by omega) (by omega) m aj c;have f1:ng (n,K,L,(j:Int),(i:Int),0,x,out,bM.V)=_:=f1;rw[f1];simp only[ak];rw[bB (by omega)];exact HF f aA d r cp br bM h0 aI k (i+1) z (by omega) (by omega) f4 f3 f5
    rw[mB,ab (by simp;omega)];simp only[aV,ak];by_cases p:bM.V.aE=[]
    . have g:decide ((0:Int)<(bM.V.aE.length:Int))=false:=by simp[p]
      rw[g];simp only[fM,AV,cw,cN,cv,hv,ak,I.bj];exact step (.inl p)
    . have B:0<bM.V.aE.length:=vz.2 p;have az:c' .i64 (bM.V.aE.length:Int) 1=((bM.V.aE.length-1:Nat):Int):=by
       rw[fC (by omega) (by omega)];omega
      have g:decide ((0:Int)<(bM.V.aE.length:Int))=true:=by simp;omega
      have u:bM.V.aE.length-1<bM.V.aE.length:=by omega
      have w:=(h0.ks _ (bo u aK)).1;have y:bw (bM.V.aE.getD (bM.V.aE.length-1) aK).bq:=by cases w;assumption
      have i2:bw (K.getD i cG).V.bq:=by cases q.o;assumption
      rw[az,g,aN u,aN l,aW,aW,show dU=cG from rfl];simp only[vr,cw,gj,I.bj];rw[vk y i2];simp only[ak];by_cases t:0<=gZ (bM.V.aE.getD (bM.V.aE.length-1) aK) (K.getD i cG).V
      . rw[ab (by simpa using t),bB (by omega)];exact HF f aA d r cp br bM h0 aI k (i+1) out (by omega) ad m aj c
      . rw[ag (by simpa using t)];exact step (.inr (by omega))
  . exact⟨out,by rw[mB,ag (by simp;omega)],ad,c⟩
theorem Ig{x:ah}{n:Int}(d:x.Max<=3)(aA:n<=12){K L:List aY}(c:L.length<=100000)(b:K.length<=100000)(cp:∀e,e∈L->ef ts x.aH (n-1) e)(br:∀e,e∈K->ef ts x.Key n e):
 ∀(k i:Nat) (out:List aY),i+k=200000->out.length<=3000+L.length->(∀e,e∈out->j3 ts x n e)->
 ∃g,nJ (n,K,L,(i:Int),x,out)=some g/\g.length<=3000+L.length/\∀e,e∈g->j3 ts x n e
 |0,i,out,l,ad,a=>⟨out,by rw[nJ,ag (by simp;omega)],ad,a⟩
 |k+1,i,out,l,ad,a=>by
  by_cases h:i<out.length/\out.length<=3000
  . obtain⟨hi,p⟩:=h;have f:=a _ (bo hi cG);have q:=f.Eb;rw[nJ,ab (by simp;omega),ab (aN hi),aW,ab (dL hi),show dU=cG from rfl];by_cases he:((out.getD i cG).V.al.length:Int)=x.Max
    . rw[ab (by simpa using he),bB (by omega)];exact Ig d aA c b cp br k (i+1) out (by omega) ad a
    . rw[ag (by simpa using he),I.bj];obtain⟨o,f1,f2,f3⟩:=HF d aA c b cp br (j:=i) _ f (by have:=f.m;omega) K.length 0 out (by omega) (by omega) hi rfl a;have f1:mB (n,K,L,(i:Int),0,x,out,(out.getD i cG).V)=_:=f1;rw[f1];simp only[aV,ak];rw[bB (by omega)]
      exact Ig d aA c b cp br k (i+1) o (by omega) (by omega) f3
  . exact⟨out,by rw[nJ,ag (by simp;omega)],ad,a⟩
end
section
variable {ts:List ah}
theorem yB(x:aO):(⟨x.af,x.Name,x.av,x.bQ,x.bD,x.bk⟩:aO)=x:=rfl
structure ic (ts:List ah)(x:ah)(n:Int)(i:Nat)(e:aY):Prop where
 bu:e.V=⟨x.Kind,false,0,[],0,[],e.V.al,[]⟩
 q4:e.V.al.length=i
 it:∀j,j<i->bS (e.V.al.getD j aK)/\cI ts true (x.ae.getD j au).av (e.V.al.getD j aK)/\(dz (x.ae.getD j au) (e.V.al.getD j aK)=false->(g' ts (x.ae.getD j au).av (e.V.al.getD j aK):Int)<=n)
 p:e.P=(dk ts (x.ae.take i) e.V.al).flatMap Fd.text
 l:(e.P.length:Int)<=n
theorem Jw:∀{ms:List aO} {l:List I} {m:aO} {v:I},l.length=ms.length->dk ts (ms++[m]) (l++[v])=dk ts ms l++(if dz m v=true then[]else[⟨m.af.toNat,m.bQ,bY ts m.av v⟩])
 |[],[],m,v,_=>by
  have bM:dk ts [] []=[]:=by rw[dk.eq_def]
  have az:dk ts [m] [v]=if dz m v=true then dk ts [] []else⟨m.af.toNat,m.bQ,bY ts m.av v⟩::dk ts [] []:=by rw[dk]
  rw[hr,hr,az,bM];rfl
 |a::ms,b::l,m,v,h=>by
  have ih:=Jw (ms:=ms) (l:=l) (m:=m) (v:=v) (by simpa using h);rw[q7,q7,dk,dk,ih];split<;>simp
 |[],_::_,_,_,h=>by simp at h
 |_::_,[],_,_,h=>by simp at h
theorem ic.add {x:ah}{n:Int}{i:Nat}{e:aY}(h:ic ts x n i e)(hi:i<x.ae.length){v:I}{P:List UInt8}(q:bS v)(f:cI ts true (x.ae.getD i au).av v)
 (ad:dz (x.ae.getD i au) v=false->(g' ts (x.ae.getD i au).av v:Int)<=n)(aC:P=e.P++(if dz (x.ae.getD i au) v=true then[]else eZ (x.ae.getD i au).af.toNat (x.ae.getD i au).bQ (bY ts (x.ae.getD i au).av v)))(aA:(P.length:Int)<=n):
 ic ts x n (i+1) ⟨⟨e.V.Kind,e.V.b',e.V.bq,e.V.bA,e.V.af,e.V.aE,e.V.al++[v],e.V.Rest⟩,P⟩:=by
 have a:=h.q4;refine⟨?_,by simp[a],λj t=>?_,?_,aA⟩
 . have o:=h.bu;generalize e.V=w at*;rw[o]
 . show bS ((e.V.al++[v]).getD j aK)/\cI ts true _ ((e.V.al++[v]).getD j aK)/\(dz _ ((e.V.al++[v]).getD j aK)=false->_);by_cases g:j<i
   . rw[oY (by omega)];exact h.it j g
   . have:j=i:=by omega
     subst this;have az:(e.V.al++[v]).getD j aK=v:=by rw[<-a];simp[lU]
     rw[az];exact⟨q,f,ad⟩
 . show P=(dk ts (x.ae.take (i+1)) (e.V.al++[v])).flatMap Fd.text;have c:x.ae.take (i+1)=x.ae.take i++[x.ae.getD i au]:=by
    rw[List.take_add_one];simp[lU,eu hi]
   rw[c,Jw (by rw[ju];omega),yq,<-h.p,aC]
   congr 1
   split
   . rfl
   . simp[Fd.text]
theorem HV{x:ah}{n:Int}{ts:List ah}(aA:n<=12){i:Nat}(hi:i<x.ae.length)(E:x.ae.length<=1000)(u:cO (x.ae.getD i au).af)(A:bS (x.ae.getD i au).bk){L:List aY}(B:L.length<=100000)(cp:∀e,e∈L->ef ts (x.ae.getD i au).av (n-2) e){rest:Nat}(F:rest<=1000000)(g:Int){out:List aY}{kk:Nat}(q:kk<out.length)(h0:ic ts x n i (out.getD kk cG)):
 ∀(k j:Nat) (a:List aY) (b:Nat),j+k=L.length->a.length<=b+j->b<=10000->(∀e,e∈a->ic ts x n (i+1) e)->
 ∃d,j5 (n,(rest:Int),g,(i:Int),L,(kk:Int),(j:Int),ts,x,out,x.ae.getD i au,a)=some (n,(rest:Int),g,(i:Int),L,(kk:Int),ts,x,out,x.ae.getD i au,d)/\d.length<=b+L.length/\∀e,e∈d->ic ts x n (i+1) e
 |0,j,a,b,K,ad,y,w=>⟨a,by rw[j5,ag (by simp;omega),jL],by omega,w⟩
 |k+1,j,a,b,K,ad,y,w=>by
  have C:j<L.length:=by omega
  have s:=cp _ (bo C cG);have W:=s.l;have U:=h0.l;have T:=h0.q4;have H:=HV (x:=x) (n:=n) (ts:=ts) aA hi E u A B cp F g q h0 k (j+1) a b (by omega) (by omega) y w;rw[j5,ab (by simp;omega),aN C,aW,aW];simp only[vr,cw,I.bj,yB,bB (show j<9223372036854775807 by omega)];rw[show dU=cG from rfl]
  have fs:=M6 (m:=x.ae.getD i au) (p:=(L.getD j cG).P) u (by omega);have S:(eZ (x.ae.getD i au).af.toNat (x.ae.getD i au).bQ (L.getD j cG).P).length<=1000:=by
   unfold cO at u;have a1:=jK (n:=2*(x.ae.getD i au).af.toNat+(if(x.ae.getD i au).bQ then 1 else 0)) (by split<;>omega);have a2:=ny (p:=(L.getD j cG).P) (by omega);unfold eZ;rw[dP];omega
  have z:dz (x.ae.getD i au) (L.getD j cG).V = false->∃ d,(if aB (kk:Int) out.length = true then
   if decide (kk<out.length)=true then
    (some (out.getD kk cG).P).bind λt136=>
    if true=true then
     (qH (x.ae.getD i au,(L.getD j cG).P)).bind λG=>
     if decide (t136.length+G.length<=dK)=true then
      (some (t136++G)).bind λt144=>
      if decide (aM .i64 (t144.length:Int) (rest:Int)<=n)=true then
       if aB (kk:Int) out.length=true then
        if decide (kk<out.length)=true then
         if true=true then
          (nO ((out.getD kk cG).V,(L.getD j cG).V)).bind λR=>
          (some [(⟨R,t144⟩:aY)]).bind λt165=>
          if room 136 (a++t165).length=true then
           j5 (n,(rest:Int),g,(i:Int),L,(kk:Int),((j+1:Nat):Int),ts,x,out,x.ae.getD i au,a++t165)
          else none
         else none
        else none
       else none
      else j5 (n,(rest:Int),g,(i:Int),L,(kk:Int),((j+1:Nat):Int),ts,x,out,x.ae.getD i au,a)
     else none
    else none
   else none
   else none)=some (n,(rest:Int),g,(i:Int),L,(kk:Int),ts,x,out,x.ae.getD i au,d)/\d.length<=b+L.length/\∀e,e∈d->ic ts x n (i+1) e:=by
   intro t;rw[ab (aN q),ab (dL q),fs];simp only[ak,cw];rw[ab (eY (by omega))]
   have J:aM .i64 (((out.getD kk cG).P++eZ (x.ae.getD i au).af.toNat (x.ae.getD i au).bQ (L.getD j cG).P).length:Int) (rest:Int)=((((out.getD kk cG).P++eZ (x.ae.getD i au).af.toNat (x.ae.getD i au).bQ (L.getD j cG).P).length+rest:Nat):Int):=by
    rw[uS (by rw[dP];omega)]
   rw[J];by_cases D:((((out.getD kk cG).P++eZ (x.ae.getD i au).af.toNat (x.ae.getD i au).bQ (L.getD j cG).P).length+rest:Nat):Int)<=n
   . have N:(out.getD kk cG).V.al.length<=100000:=by omega
     rw[ab (dL D),ab (aN q),ab (dL q),th _ _ N];simp only[ak];rw[ab (hO (by omega) (by simp;omega))];have key:=h0.add hi (P:=(out.getD kk cG).P++eZ (x.ae.getD i au).af.toNat (x.ae.getD i au).bQ (L.getD j cG).P) s.o s.f (λ_=>by have:=s.v;omega) (by rw[t,s.p];rfl) (by omega)
     exact HV (x:=x) (n:=n) (ts:=ts) aA hi E u A B cp F g q h0 k (j+1) _ b (by omega) (by rw[dP];show _+1<=_;omega) y (kM w key)
   . rw[ag (by simpa using D)];exact H
  by_cases c:(x.ae.getD i au).bD=true
  . obtain⟨r,O,Q⟩:=y9 s.o (x.ae.getD i au).bk;rw[ab c,O];simp only[aV,ak];cases r with
    |true=>rw[ab (by rw[c];rfl)];exact H
    |false=>
     rw[ag (by rw[c];simp)];have M:¬(L.getD j cG).V=(x.ae.getD i au).bk:=λe=>by have:=Q.2 e;cases this
     have t:dz (x.ae.getD i au) (L.getD j cG).V=false:=by
      unfold dz;rw[c];simp only[kp,AD];exactλe=>M e.symm
     exact z t
  . have t:dz (x.ae.getD i au) (L.getD j cG).V=false:=by unfold dz;rw[vA.2 c];rfl
    rw[ag c];simp only[aV,ak];rw[ag (by rw[vA.2 c];simp)];exact z t
end
section
variable {ts:List ah}
theorem MW {x:ah}{n:Int}(aA:n<=12){i:Nat}(hi:i<x.ae.length)(t:x.ae.length<=1000)(s:cO (x.ae.getD i au).af)(q:bS (x.ae.getD i au).bk)
 (r:(x.ae.getD i au).bD=true->cI ts true (x.ae.getD i au).av (x.ae.getD i au).bk)
 {L:List aY}(y:L.length<=16000)(cp:∀e,e∈L->ef ts (x.ae.getD i au).av (n-2) e){rest:Nat}(v:rest<=1000000)(f:Int){out:List aY}(A:out.length<=100000)(h0:∀e,e∈out->ic ts x n i e):
 ∀(k kk:Nat) (a:List aY),kk+k=out.length->a.length<=3001+L.length->(L=[]->a.length<=kk)->(∀e,e∈a->ic ts x n (i+1) e)->
 ∃c,kU (n,(rest:Int),f,(i:Int),L,(kk:Int),ts,x,out,x.ae.getD i au,a)=some (n,(rest:Int),f,(i:Int),ts,x,c)/\c.length<=3001+L.length/\(L=[]->c.length<=out.length)/\∀e,e∈c->ic ts x n (i+1) e
 |0,kk,a,z,ad,p,j=>⟨a,by rw[kU,ag (by simp;omega)],ad,λe=>by have:=p e;omega,j⟩
 |k+1,kk,a,z,ad,p,j=>by
  have g:kk<out.length:=by omega
  by_cases C:a.length<=3000
  . have o:=h0 _ (bo g cG);have D:=o.q4
    have step:∀ d:List aY,d.length<=a.length+1->(∀ e,e∈d->ic ts x n (i+1) e)->∃ c,((j5 (n,(rest:Int),f,(i:Int),L,(kk:Int),0,ts,x,out,x.ae.getD i au,d)).bind λb=>
     kU (b.1,b.2.1,b.2.2.1,b.2.2.2.1,b.2.2.2.2.1,aM .i64 b.2.2.2.2.2.1 1,b.2.2.2.2.2.2.1,b.2.2.2.2.2.2.2.1,b.2.2.2.2.2.2.2.2.1,b.2.2.2.2.2.2.2.2.2.1,b.2.2.2.2.2.2.2.2.2.2))=some (n,(rest:Int),f,(i:Int),ts,x,c)/\c.length<=3001+L.length/\(L=[]->c.length<=out.length)/\∀e,e∈c->ic ts x n (i+1) e:=by
     intro d h1 w;obtain⟨B,f1,f2,f3⟩:=HV aA hi t s q (by omega) cp v f g o L.length 0 d d.length (by omega) (by omega) (by omega) w;have f1:j5 (n,(rest:Int),f,(i:Int),L,(kk:Int),0,ts,x,out,x.ae.getD i au,d)=_:=f1;rw[f1];simp only[ak];rw[bB (by omega)]
     exact MW aA hi t s q r y cp v f A h0 k (kk+1) B (by omega) (by omega) (λe=>by have:=p e;rw[e]at f2;simp at f2;omega) f3
    rw[kU,ab (by simp;omega)];simp only[aV,I.bj,yB,aW];by_cases m:(x.ae.getD i au).bD=true
    . rw[ab m,ab (aN g),ab (dL g),show dU=cG from rfl,th _ _ (by omega)];simp only[ak];rw[ab (aN g),ab (dL g),ab (hO (by omega) (by simp;omega))];have u:dz (x.ae.getD i au) (x.ae.getD i au).bk=true:=by unfold dz;rw[m];simp
      refine step _ (by simp) (kM j (o.add hi (P:=(out.getD kk cG).P) q (r m) (λh=>by rw[u]at h;cases h) (by rw[u];simp) o.l))
    . rw[ag m];exact step a (by omega) j
  . exact⟨a,by rw[kU,ag (by simp;omega)],ad,λe=>by have:=p e;omega,j⟩
def kj(ts:List ah)(m:aO):Nat:=((oE ((⟨ts⟩:bh),m)).getD 0).toNat
structure DD (ts:List ah)(m:aO):Prop where
 e:oE ((⟨ts⟩:bh),m)=some (kj ts m:Int)
 b:kj ts m<=5000
 z:m.bD=false->2<=kj ts m
def fW(ts:List ah)(l:List aO):Nat:=(l.map (kj ts)).sum
theorem HW{l:List aO}{i:Nat}(h:i<l.length):fW ts (l.drop i)=kj ts (l.getD i au)+fW ts (l.drop (i+1)):=by
 rw[nX h];unfold fW;rw[je,sW];simp[lU,eu h]
theorem M7{l:List aO}:∀i:Nat,fW ts (l.drop i)<=fW ts l
 |0=>by simp
 |i+1=>by
  have ih:=M7 (l:=l) i;by_cases h:i<l.length
  . have:=HW (ts:=ts) h;omega
  . have:l.drop (i+1)=[]:=gy (by omega);rw[this];simp[fW]
theorem MX{x:ah}{n:Int}(cm:∀m,m∈x.ae->DD ts m)(c:x.ae.length<=12):∀(k i r:Nat),i+k=x.ae.length->r<=5000*i->
 qj (n,(r:Int),(i:Int),ts,x)=some (n,((r+fW ts (x.ae.drop i):Nat):Int),ts,x)
 |0,i,r,a,d=>by
  have e:x.ae.drop i=[]:=gy (by omega);rw[qj,ag (by simp;omega),e];rfl
 |k+1,i,r,a,d=>by
  have hi:i<x.ae.length:=by omega
  have h:=cm _ (bo hi au);have f:=h.b;have he:=h.e;rw[qj,ab (by simp;omega),ab (aN hi)];simp only[aV,ak,aW,I.bj,yB];rw[he];simp only[ak];rw[bB (by omega),uS (by omega),MX cm c k (i+1) (r+kj ts (x.ae.getD i au)) (by omega) (by omega),HW hi]
  have e:r+kj ts (x.ae.getD i au)+fW ts (x.ae.drop (i+1))=r+(kj ts (x.ae.getD i au)+fW ts (x.ae.drop (i+1))):=by omega
  rw[e]
def MQ(ts:List ah)(n:Int)(B:Nat):Prop:=∀t b3:Int,0<=t->t<ts.length->0<=b3->b3<=n->∃l,kX ((⟨ts⟩:bh),t,b3)=some l/\l.length<=B/\∀e,e∈l->ef ts t b3 e
structure DG (ts:List ah)(x:ah):Prop where
 l:x.ae.length<=12
 n:∀m,m∈x.ae->DD ts m
 i:∀m,m∈x.ae->1<=m.af/\m.af<=12
 d:∀m,m∈x.ae->bS m.bk
 f:∀m,m∈x.ae->m.bD=true->cI ts true m.av m.bk
 t:∀m,m∈x.ae->0<=m.av/\m.av<ts.length
theorem M8{m:aO}(h:1<=m.af/\m.af<=12):∃r,qH (m,[])=some r/\r.length=2:=by
 refine⟨_,M6 (by unfold cO;omega) (by simp),?_⟩;have h1:∀n:Nat,n<128->(ei n).length=1:=by intro n aA;rw[ei];simp[aA]
 unfold eZ dB;rw[dP,dP,h1 _ (by split<;>omega),h1 _ (by simp)];rfl
theorem M9{x:ah}{n:Int}(s:0<=n)(aA:n<=12)(H:DG ts x){B:Nat}(cA:B<=16000)(cp:MQ ts (n-2) B)(hs:(fW ts x.ae:Int)<=n):∀(k i:Nat) (out:List aY),i+k=x.ae.length->out.length<=3001+B->(n<=1->out.length<=1)->(∀e,e∈out->ic ts x n i e)->
 ∃a,nj (n,(fW ts (x.ae.drop i):Int),n-fW ts x.ae,(i:Int),ts,x,out)=some a/\a.length<=3001+B/\(n<=1->a.length<=1)/\(∀e,e∈a->(e.P.length:Int)<=n)/\(a.length<=3000->∀e,e∈a->ic ts x n x.ae.length e)
 |0,i,out,r,ad,h1,j=>⟨out,by rw[nj,ag (by simp;omega)],ad,h1,λe he=>(j e he).l,λ_=>by rw[show x.ae.length=i by omega];exact j⟩
 |k+1,i,out,r,ad,h1,j=>by
  have hi:i<x.ae.length:=by omega
  have g:=bo hi au;have F:=H.l;have cm:=H.n _ g;have C:=cm.b;have q:=H.i _ g;have cP:=H.t _ g;obtain⟨w,o,y⟩:=M8 q;have D:=HW (ts:=ts) hi;have E:=M7 (ts:=ts) (l:=x.ae) i;by_cases z:out.length<=3000
  . have step:∀ L:List aY,L.length<=B->(n<=1->L = [])->(∀ e,e∈L->ef ts (x.ae.getD i au).av (n-2) e)->∃ a,((kU (n,((fW ts (x.ae.drop (i+1)):Nat):Int),n-fW ts x.ae,(i:Int),L,0,ts,x,out,x.ae.getD i au,[])).bind λc=>
     nj (c.1,c.2.1,c.2.2.1,aM .i64 c.2.2.2.1 1,c.2.2.2.2.1,c.2.2.2.2.2.1,c.2.2.2.2.2.2))=some a/\a.length<=3001+B/\(n<=1->a.length<=1)/\(∀e,e∈a->(e.P.length:Int)<=n)/\(a.length<=3000->∀e,e∈a->ic ts x n x.ae.length e):=by
     intro L A u p;obtain⟨v,f1,f2,f3,f4⟩:=MW (ts:=ts) (x:=x) aA hi (by omega) (by unfold cO;omega) (H.d _ g) (H.f _ g) (L:=L) (by omega) p (rest:=fW ts (x.ae.drop (i+1))) (by omega) (n-fW ts x.ae) (out:=out) (by omega) j out.length 0 [] (by omega) (by simp) (λ_=>by simp) (λe h=>by cases h)
     have f1:kU (n,((fW ts (x.ae.drop (i+1)):Nat):Int),n-fW ts x.ae,(i:Int),L,0,ts,x,out,x.ae.getD i au,[])=_:=f1;rw[f1];simp only[ak];rw[bB (by omega)];exact M9 s aA H cA cp hs k (i+1) v (by omega) (by omega) (λh=>by have:=f3 (u h);have:=h1 h;omega) f4
    have az:c' .i64 (fW ts (x.ae.drop i):Int) (kj ts (x.ae.getD i au):Int)=((fW ts (x.ae.drop (i+1)):Nat):Int):=by
     rw[fC (by omega) (by omega)];omega
    have m:c' .i64 (aM .i64 (n-fW ts x.ae) (kj ts (x.ae.getD i au):Int)) (w.length:Int)=n-fW ts x.ae+kj ts (x.ae.getD i au)-2:=by
     rw[hG (by omega) (by omega),fC (by omega) (by omega)];omega
    rw[nj,ab (by simp;omega),ab (aN hi)];simp only[aV,ak,aW,I.bj,yB];rw[cm.e];simp only[ak];rw[o];simp only[ak];rw[az,m];by_cases h0:0<=n-fW ts x.ae+kj ts (x.ae.getD i au)-2
    . obtain⟨L,a1,a2,a3⟩:=cp _ _ cP.1 cP.2 h0 (by omega);rw[ab (by simpa using h0),a1];simp only[ak];exact step L a2 (λh=>by omega) (λe he=>(a3 e he).up (by omega))
    . rw[ag (by simpa using h0)];exact step [] (by simp) (λ_=>rfl) (λe h=>by cases h)
  . exact⟨out,by rw[nj,ag (by simp;omega)],ad,h1,λe he=>(j e he).l,λh=>by omega⟩
theorem ade{x:ah}{n:Int}(b:0<=n)(aA:n<=12)(H:DG ts x){B:Nat}(cA:B<=16000)(cp:MQ ts (n-2) B):∃a,BM ((⟨ts⟩:bh),x,n)=some a/\a.length<=3001+B/\(n<=1->a.length<=1)/\(∀e,e∈a->(e.P.length:Int)<=n)/\(a.length<=3000->∀e,e∈a->ic ts x n x.ae.length e):=by
 have h0:=MX (n:=n) H.n H.l x.ae.length 0 0 (by omega) (by omega);have h0:qj (n,0,0,ts,x)=some (n,((fW ts x.ae:Nat):Int),ts,x):=by
  rw[fp]at h0;exact h0
 rw[BM,h0];simp only[aV,ak];by_cases hs:n<(fW ts x.ae:Int)
 . rw[ab (by simpa using hs)];exact⟨[],rfl,by simp,λ_=>by simp,λe h=>(by cases h),λ_ e h=>(by cases h)⟩
 . rw[ag (by simpa using hs),fC (by omega) (by omega)]
   obtain⟨o,f1,f2,f3,f4,f5⟩:=M9 b aA H cA cp (by omega) x.ae.length 0 [(⟨⟨x.Kind,false,0,[],0,[],[],[]⟩,[]⟩:aY)] (by omega) (by simp;omega) (λ_=>by simp) (λe h=>by
    rw[e7.1 h]
    exact⟨rfl,rfl,λj c=>by omega,by simp[dk],by simpa using b⟩)
   have f1:nj (n,((fW ts x.ae:Nat):Int),n-fW ts x.ae,0,ts,x,[(⟨⟨x.Kind,false,0,[],0,[],[],[]⟩,[]⟩:aY)])=some o:=f1;rw[f1];exact⟨o,rfl,f2,f3,f4,f5⟩
end
section
variable {ts:List ah}
theorem x5{t:Int}{r:Nat}:∀{l:List I},(∀y,y∈l->g' ts t y<=r)->iS ts t l<=r
 |[],_=>by rw[iS];omega
 |v::l,h=>by
  have h1:=h v (by simp);have b:=x5 (l:=l) λy a=>h y (by simp[a])
  rw[iS];omega
def zO(ts:List ah)(t n:Int)(B:Nat):Prop:=∃l,kX ((⟨ts⟩:bh),t,n)=some l/\l.length<=B/\(∀e,e∈l->(e.P.length:Int)<=n)/\((n<=1\/l.length<=3000)->∀e,e∈l->ef ts t n e)
theorem adD{t n:Int}{x:ah}(h0:0<=t)(h1:t<ts.length)(a:ts.getD t.toNat ar=x):aB t ts.length=true:=by
 obtain⟨k,rfl⟩:∃k:Nat,t=k:=⟨t.toNat,by omega⟩
 exact aN (by omega)
theorem LE.ok{t n:Int}(h0:0<=t)(h1:t<ts.length)(f:(ts.getD t.toNat ar).Kind=7)(o:(ts.getD t.toNat ar).Max<=3){e:aY}(h:LE ts (ts.getD t.toNat ar) n e)(aA:0<=n):ef ts t n e:=by
 have hs:=h.bu;have g:=h.m;have hit:=h.it;have j:=h.p;have az:e.V.Kind=7:=by rw[hs];exact f
 have c:e.V.aE=[]:=by rw[hs]
 have cz:e.V.Rest=[]:=by rw[hs]
 have e6:e.V.bA=[]:=by rw[hs]
 have gx:e.V.bq=0:=by rw[hs]
 have jQ:e.V.af=0:=by rw[hs]
 have ou:e.V.b'=false:=by rw[hs]
 refine⟨kf (by simp[e6]) (by simp[c]) (λy a=>(hit y a).1) (by simp[c]) (by omega) (by simp[cz]) (by simp[cz]) (by rw[az];unfold bw;omega) (by rw[gx];unfold bw;omega) (by rw[jQ];unfold bw;omega),?_,?_,h.l,?_⟩
 . rw[e4];refine⟨⟨h0,h1,by rw[az,f],λ_=>cz⟩,?_⟩
   iterate 6 right
   left;exact⟨az,ou,gx,e6,jQ,c,cz,g,dR.2 λy a=>(hit y a).2.1⟩
 . rw[tf f,j]
 . have q:=x5 (ts:=ts) (t:=(ts.getD t.toNat ar).aH) (r:=(n+1).toNat) (l:=e.V.al) λy a=>by have:=(hit y a).2.2;omega
   rw[qD,c,ab rfl,ag (by omega),ag (by omega)];omega
theorem j3.ok{t n:Int}(h0:0<=t)(h1:t<ts.length)(c:(ts.getD t.toNat ar).Kind=8)(q:(ts.getD t.toNat ar).Max<=3){e:aY}(h:j3 ts (ts.getD t.toNat ar) n e)(aA:0<=n):ef ts t n e:=by
 have hs:=h.bu;have j:=h.m;have hit:=h.it;have f:=h.ks;have g:=h.Eb;have o:=h.p;have az:e.V.Kind=8:=by rw[hs];exact c
 have cz:e.V.Rest=[]:=by rw[hs]
 have e6:e.V.bA=[]:=by rw[hs]
 have gx:e.V.bq=0:=by rw[hs]
 have jQ:e.V.af=0:=by rw[hs]
 have ou:e.V.b'=false:=by rw[hs]
 refine⟨kf (by simp[e6]) (λy a=>(f y a).1) (λy a=>(hit y a).1) (by omega) (by omega) (by simp[cz]) (by simp[cz]) (by rw[az];unfold bw;omega) (by rw[gx];unfold bw;omega) (by rw[jQ];unfold bw;omega),?_,?_,h.l,?_⟩
 . rw[e4];refine⟨⟨h0,h1,by rw[az,c],λ_=>cz⟩,?_⟩
   iterate 7 right
   left;exact⟨az,ou,gx,e6,jQ,cz,j,g,dR.2 λy a=>(f y a).2,dR.2 λy a=>(hit y a).2.1,h.N1⟩
 . rw[tg c,o]
 . have v:=x5 (ts:=ts) (t:=(ts.getD t.toNat ar).aH) (r:=(n+1).toNat) (l:=e.V.al) λy a=>by have:=(hit y a).2.2;omega
   rw[qD,ag (show ¬(ts.getD t.toNat ar).Kind=5 by omega),ag (show ¬(ts.getD t.toNat ar).Kind=6 by omega)];split<;>omega
theorem ic.ok{t n:Int}(h0:0<=t)(h1:t<ts.length)(c:(ts.getD t.toNat ar).Kind=5)(o:hU (ts.getD t.toNat ar).ae)(ad:(ts.getD t.toNat ar).ae.length<=12){e:aY}(h:ic ts (ts.getD t.toNat ar) n (ts.getD t.toNat ar).ae.length e)(aA:0<=n):ef ts t n e:=by
 have hs:=h.bu;have q:=h.q4;have hit:=h.it;have v:=h.p;have az:e.V.Kind=5:=by rw[hs];exact c
 have a:e.V.aE=[]:=by rw[hs]
 have cz:e.V.Rest=[]:=by rw[hs]
 have e6:e.V.bA=[]:=by rw[hs]
 have gx:e.V.bq=0:=by rw[hs]
 have jQ:e.V.af=0:=by rw[hs]
 have ou:e.V.b'=false:=by rw[hs]
 refine⟨kf (by simp[e6]) (by simp[a]) (λy A=>?_) (by simp[a]) (by omega) (by simp[cz]) (by simp[cz]) (by rw[az];unfold bw;omega) (by rw[gx];unfold bw;omega) (by rw[jQ];unfold bw;omega),?_,?_,h.l,?_⟩
 . obtain⟨j,f,g⟩:=List.mem_iff_getElem.1 A;have:=(hit j (by omega)).1;rw[lU,eu f]at this;rw[<-g];exact this
 . rw[e4];refine⟨⟨h0,h1,by rw[az,c],λ_=>cz⟩,?_⟩
   iterate 4 right
   left;refine⟨az,ou,gx,e6,jQ,a,by rw[cz];exact⟨.nil,λx w=>by cases w⟩,kb.2 ⟨q,λi hi=>(hit i hi).2.1⟩⟩
 . rw[Cb c cz o,v,List.take_length]
 . have D:=LS (ts:=ts) (r:=n.toNat) (ms:=(ts.getD t.toNat ar).ae) (l:=e.V.al) λj f g B=>by have:=(hit j f).2.2 B;omega
   rw[qD,a,ab rfl,ab c];omega
theorem adE{t n:Int}(h0:0<=t)(h1:t<ts.length)(b:(ts.getD t.toNat ar).Kind=9){q:aY}(h:ef ts (ts.getD t.toNat ar).aH (n-1) q)(aA:0<=n):ef ts t n ⟨⟨(ts.getD t.toNat ar).Kind,false,0,[],0,[],[q.V],[]⟩,1::q.P⟩:=by
 have d:=h.v;refine⟨kf (by simp) (by simp) (λy a=>by rw[e7.1 a];exact h.o) (by simp) (by simp) (by simp) (by simp) (by show bw (ts.getD t.toNat ar).Kind;rw[b];unfold bw;omega) (by show bw 0;unfold bw;omega) (by show bw 0;unfold bw;omega),?_,?_,by have:=h.l;simp;omega,?_⟩
 . rw[e4];refine⟨⟨h0,h1,rfl,λ_=>rfl⟩,?_⟩
   iterate 8 right
   exact⟨b,rfl,rfl,rfl,rfl,rfl,rfl,by simp,dR.2 λy a=>by rw[e7.1 a];exact h.f⟩
 . rw[rh b,q2];show 1::q.P=1::bY ts _ q.V;rw[h.p]
 . have c:=x5 (ts:=ts) (t:=(ts.getD t.toNat ar).aH) (r:=(n+1).toNat) (l:=[q.V]) λy a=>by rw[e7.1 a];omega
   rw[qD];show((1+max (if([]:List I)=[]then 0 else 1) _:Nat):Int)<=n+2;rw[ab rfl,ag (by omega),ag (by omega)];show((1+max 0 (iS ts (ts.getD t.toNat ar).aH [q.V]):Nat):Int)<=n+2;omega
theorem adF{t n:Int}(h0:0<=t)(h1:t<ts.length)(b:(ts.getD t.toNat ar).Kind=6)(c:hU (ts.getD t.toNat ar).ae){m:aO}(d:m∈(ts.getD t.toNat ar).ae){b3:Int}{q:aY}(h:ef ts m.av b3 q)(aA:b3+(ei m.af.toNat).length<=n):ef ts t n ⟨⟨(ts.getD t.toNat ar).Kind,false,0,[],m.af,[],[q.V],[]⟩,ei m.af.toNat++q.P⟩:=by
 have j:=h.v;have ad:=h.l;have bP:=CD c d;have e:=c.2 m d;unfold cO at e;have i:=vg m.af.toNat
 refine⟨kf (by simp) (by simp) (λy a=>by rw[e7.1 a];exact h.o) (by simp) (by simp) (by simp) (by simp) (by show bw (ts.getD t.toNat ar).Kind;rw[b];unfold bw;omega) (by show bw 0;unfold bw;omega) (by show bw m.af;unfold bw;omega),?_,?_,by simp;omega,?_⟩
 . rw[e4];refine⟨⟨h0,h1,rfl,λ_=>rfl⟩,?_⟩
   iterate 5 right
   left;refine⟨b,rfl,rfl,rfl,rfl,?_⟩;show match cV (ts.getD t.toNat ar).ae m.af with|some m=>_|none=>_
   rw[bP];exact⟨rfl,rfl,dR.2 λy a=>by rw[e7.1 a];exact h.f⟩
 . rw[td b];show ei m.af.toNat++q.P=ei m.af.toNat++(match cV (ts.getD t.toNat ar).ae m.af with|some m=>_|none=>_);rw[bP];show _=ei m.af.toNat++(b4 ts m.av [q.V]).headD [];rw[q2,h.p];rfl
 . have g:=x5 (ts:=ts) (t:=m.av) (r:=(n+1).toNat) (l:=[q.V]) λy a=>by rw[e7.1 a];omega
   rw[qD];show((1+max (if([]:List I)=[]then 0 else 1) _:Nat):Int)<=n+2;rw[ab rfl,ag (by omega),ab b];show((1+max 0 (match cV (ts.getD t.toNat ar).ae m.af with|some m=>_|none=>_):Nat):Int)<=n+2;rw[bP];show((1+max 0 (iS ts m.av [q.V]):Nat):Int)<=n+2;omega
end
section
variable {ts:List ah}
theorem Jx{n:Nat}(h:n<128):(ei n).length=1:=by rw[ei];simp[h]
theorem HG {t n:Int}(u:0<=n)(aA:n<=3)(h0:0<=t)(h1:t<ts.length)(j:(ts.getD t.toNat ar).Kind=6)(d:hU (ts.getD t.toNat ar).ae)(s:(ts.getD t.toNat ar).ae.length<=12)(g:∀m,m∈(ts.getD t.toNat ar).ae->m.af<=12)(cP:∀m,m∈(ts.getD t.toNat ar).ae->0<=m.av/\m.av<ts.length)
 {B:Nat}(cA:B<=16000)(cp:∀r b3:Int,0<=r->r<ts.length->0<=b3->b3<=n-1->zO ts r b3 B):∀(k i:Nat) (out:List aY),i+k=(ts.getD t.toNat ar).ae.length->out.length<=3000+B->(∀e,e∈out->(e.P.length:Int)<=n)->((n<=1\/out.length<=3000)->∀e,e∈out->ef ts t n e)->
 ∃c,o4 (n,(i:Int),ts,ts.getD t.toNat ar,out)=some c/\c.length<=3000+B/\(∀e,e∈c->(e.P.length:Int)<=n)/\((n<=1\/c.length<=3000)->∀e,e∈c->ef ts t n e)
 |0,i,out,hi,ad,b,a=>⟨out,by rw[o4,ag (by simp[-List.getD_eq_getElem?_getD];omega)],ad,b,a⟩
 |k+1,i,out,hi,ad,b,a=>by
  by_cases v:out.length<=3000
  . have aI:i<(ts.getD t.toNat ar).ae.length:=by omega
    have f:=bo aI au;have w:=d.2 _ f;have z:=g _ f;unfold cO at w;have e:((ts.getD t.toNat ar).ae.getD i au).af=((((ts.getD t.toNat ar).ae.getD i au).af.toNat:Nat):Int):=by omega
    have y:bW .u64 ((ts.getD t.toNat ar).ae.getD i au).af=((((ts.getD t.toNat ar).ae.getD i au).af.toNat:Nat):Int):=by
     rw[e,h9 (by omega)];simp
    have l:=Jx (n:=((ts.getD t.toNat ar).ae.getD i au).af.toNat) (by omega);rw[o4,ab (by simp[-List.getD_eq_getElem?_getD];omega),ab (aN aI),aW,y,sn (by omega)];simp only[aV,ak];rw[l,ab (aN aI)];by_cases aa:n<((1:Nat):Int)
    . rw[ab (by simpa using aa),bB (by omega)];exact HG u aA h0 h1 j d s g cP cA cp k (i+1) out (by omega) ad b a
    . have ht:=cP _ f;obtain⟨L,a1,a2,a3,a4⟩:=cp _ (n-1) ht.1 ht.2 (by omega) (by omega);rw[ag (by simpa using aa),fC (by omega) (by omega),show n-((1:Nat):Int)=n-1 by omega,a1];simp only[ak]
      obtain⟨o,f1,f2,f3⟩:=L2 (n:=n) (ts:=ts) (x:=ts.getD t.toNat ar) (L:=L) i aI (ei ((ts.getD t.toNat ar).ae.getD i au).af.toNat) (by omega) (by omega) (λe he=>by have:=a3 e he;omega) L.length 0 out out (by omega) (by omega) (by omega) (λe he=>.inl he)
      have f1:p' (n,(i:Int),ei ((ts.getD t.toNat ar).ae.getD i au).af.toNat,L,0,ts,ts.getD t.toNat ar,out)=_:=f1;rw[f1];simp only[ak];rw[bB (by omega)];refine HG u aA h0 h1 j d s g cP cA cp k (i+1) o (by omega) (by omega) (λe he=>?_) (λA e he=>?_)
      . rcases f3 e he with h|⟨q,p,rfl⟩
        . exact b e h
        . have:=a3 q p;simp only[dP,l];omega
      . rcases f3 e he with h|⟨q,p,rfl⟩
        . exact a (.inr v) e h
        . exact adF h0 h1 j d f (a4 (by omega) q p) (by rw[l];omega)
  . exact⟨out,by rw[o4,ag (by simp;omega)],ad,b,a⟩
theorem M'{x:ah}{n:Int}(aA:n<=3){L:List aY}(g:L.length<=100000)(cp:∀e,e∈L->(e.P.length:Int)<=n-1)(bM:aY)(h0:bM.P=[])(h1:bM.V.al=[]):
 ∀(k i:Nat) (out:List aY),i+k=L.length->out.length=1+i->out.getD 0 cG=bM->(∀e,e∈out->(e.P.length:Int)<=n)->
 ∃d,kV (n,L,0,(i:Int),x,out)=some (n,L,0,x,d)/\d.length=1+L.length/\∀e,e∈d->(e.P.length:Int)<=n
 |0,i,out,j,hi,aj,c=>⟨out,by rw[kV,ag (by simp;omega)],by omega,c⟩
 |k+1,i,out,j,hi,aj,c=>by
  have b:i<L.length:=by omega
  have m:=cp _ (bo b cG);have a:0<out.length:=by omega
  have f:aB 0 out.length=true:=aN a;have l:(dB (L.getD i cG).P).length=(L.getD i cG).P.length+1:=by
   unfold dB;rw[dP,Jx (by omega)];omega
  rw[kV,ab (by simp;omega),ab f,show(0:Int).toNat=0 from rfl,aW,ab (dL a),show dU=cG from rfl,aj];simp only[aV,ak];rw[ab (aN b),A5 (by omega)];simp only[ak]
  rw[h0,hr,ab (eY (by simp[-List.getD_eq_getElem?_getD];omega)),ab (by simp[-List.getD_eq_getElem?_getD];omega),ab f,ab (dL a),ab (aN b),I.bj,I.bj,th _ _ (by rw[h1];simp)];simp only[ak,I.bj];rw[ab (hO (by omega) (by simp;omega)),bB (by omega)]
  exact M' aA g cp bM h0 h1 k (i+1) _ (by omega) (by simp;omega) (by rw[oY a];exact aj) (kM c (by show((dB (L.getD i cG).P).length:Int)<=n;omega))
def DI(ts:List ah):Prop:=∀t:Int,0<=t->t<ts.length->∃s:Nat,nP ((⟨ts⟩:bh),t)=some (s:Int)/\s<=4097
theorem adf(ay:DI ts){m:aO}(f:1<=m.af/\m.af<=12)(cP:0<=m.av/\m.av<ts.length):DD ts m:=by
 have key:∃s:Nat,oE ((⟨ts⟩:bh),m)=some (s:Int)/\s<=5000/\(m.bD=false->2<=s):=by
  by_cases a:m.bD=true
  . exact⟨0,by rw[oE,ab a];rfl,by omega,λh=>by rw[a]at h;cases h⟩
  . obtain⟨s,s1,b⟩:=ay _ cP.1 cP.2;obtain⟨r,c,d⟩:=M8 f;refine⟨2+s,?_,by omega,λ_=>by omega⟩;rw[oE,ag a];simp only[I.bj,yB];rw[c];simp only[aV,ak];rw[s1];simp only[ak];rw[d,uS (by omega)]
 obtain⟨s,s1,b,g⟩:=key;have e:kj ts m=s:=by unfold kj;rw[s1];rfl
 exact⟨by rw[e];exact s1,by rw[e];exact b,by rw[e];exact g⟩
theorem adG(H:dH ts)(ay:DI ts):∀(k:Nat) (n:Int),n=k->n<=3->∀t:Int,0<=t->t<ts.length->zO ts t n (4000*(k+1)):=by
 intro k
 induction k using Nat.strongRecOn with
 |ind k ih=>
  intro n aW ap t h0 h1;have p:0<=n:=by omega
  have Y:=H.V.iv H.T;have aI:t.toNat<ts.length:=by omega
  have s:ts.getD t.toNat ar∈ts:=bo aI ar;have bP:=H.V.F _ s;have br:=Y.K _ s;have I:=H.M _ s;have C:=H.ch _ s;have U:=H.L _ s;have ao:=Y.S _ s;have an:=Y.A _ s;have X:∀m,m∈(ts.getD t.toNat ar).ae->0<=m.av/\m.av<ts.length:=λm z=>H.gw.mem s z
  have R:=H.gw.elem s;have aK:=H.gw.key s;have aJ:=(H.T _ s).iL;have aG:=H.D _ s;have Z:((ts.getD t.toNat ar).Kind=3\/(ts.getD t.toNat ar).Kind=7\/(ts.getD t.toNat ar).Kind=8)->0<=(ts.getD t.toNat ar).Max:=by
   intro h;unfold fv at bP;omega
  have low:∀(B:Nat) (b3:Int),4000*(b3.toNat+1)<=B->b3<=n-1->0<=b3->∀w:Int,0<=w->w<ts.length->zO ts w b3 B:=by
   intro B b3 cA aU aT w a b;obtain⟨l,ah,l2,aq,ai⟩:=ih b3.toNat (by omega) b3 (by omega) (by omega) w a b;exact⟨l,ah,by omega,aq,ai⟩
  have N:∀{e:aY},e.V.Kind=(ts.getD t.toNat ar).Kind->e.V.aE=[]->e.V.al=[]->e.V.Rest=[]->e.V.bA.length<=1000->bw e.V.bq->bw e.V.af->cI ts true t e.V->e.P=bY ts t e.V->(e.P.length:Int)<=n->ef ts t n e:=by
   intro e a1 a2 a3 a4 a5 ax aA aB a9 aw;refine ef.leaf a2 a3 a4 a5 ?_ ax aA aB a9 aw p;rw[a1];unfold jO at br;unfold bw;omega
  have i0:bw 0:=by unfold bw;omega
  unfold zO;rw[kX,ab (adD (n:=n) h0 h1 rfl)];simp only[aV,ak];generalize g:ts.getD t.toNat ar=x at*;unfold jO at br;by_cases aZ:x.Kind=1
  . rw[ab (dL aZ)];have b0:∀(b:Bool) (P:List UInt8),P=(if b=true then[1]else[])->(P.length:Int)<=n->ef ts t n ⟨⟨x.Kind,b,0,[],0,[],[],[]⟩,P⟩:=by
     intro b P aC ad;refine N rfl rfl rfl rfl (by simp) i0 i0 ?_ ?_ ad
     . rw[e4,g];exact⟨⟨h0,h1,rfl,λ_=>rfl⟩,.inl ⟨aZ,rfl,rfl,rfl,rfl,rfl,rfl⟩⟩
     . rw[zv (by rw[g];exact aZ)];exact aC
    by_cases r:0<n
    . rw[ab (dL r),ab (hO (by omega) (by simp))];have all:∀e,e∈([(⟨⟨x.Kind,false,0,[],0,[],[],[]⟩,[]⟩:aY)]++[(⟨⟨x.Kind,true,0,[],0,[],[],[]⟩,[1]⟩:aY)])->ef ts t n e:=
       kM (λe he=>by rw[e7.1 he];exact b0 false [] rfl (by simpa using p)) (b0 true [1] rfl (by simp;omega))
      exact⟨_,rfl,by simp;omega,λe he=>(all e he).l,λ_=>all⟩
    . rw[ag (by simpa using r)];have all:∀e,e∈[(⟨⟨x.Kind,false,0,[],0,[],[],[]⟩,[]⟩:aY)]->ef ts t n e:=λe he=>by rw[e7.1 he];exact b0 false [] rfl (by simpa using p)
      exact⟨_,rfl,by simp;omega,λe he=>(all e he).l,λ_=>all⟩
  rw[ag (by simpa using aZ)];by_cases ba:x.Kind=2
  . obtain⟨o,f,u,j⟩:=ints (x:=x) (n:=n) (U ba).1 (U ba).2;rw[ab (dL ba),f];have all:∀e,e∈o->ef ts t n e:=by
     intro e he;obtain⟨i,rfl,aa,i2,i3⟩:=j e he;have:=U ba;refine N rfl rfl rfl rfl (by simp) (by show bw i;unfold bw;omega) i0 ?_ ?_ i3
     . rw[e4,g];exact⟨⟨h0,h1,rfl,λ_=>rfl⟩,.inr (.inl ⟨ba,rfl,rfl,rfl,rfl,rfl,rfl,aa,i2⟩)⟩
     . rw[zw (by rw[g];exact ba)]
    exact⟨_,rfl,by omega,λe he=>(all e he).l,λ_=>all⟩
  rw[ag (by simpa using ba)];by_cases bE:x.Kind=3
  . obtain⟨o,f,u,j⟩:=strs (x:=x) (n:=n) p (Z (.inl bE)) I;rw[ab (dL bE),f];have all:∀e,e∈o->ef ts t n e:=by
     intro e he;obtain⟨i,rfl,aa,i2⟩:=j e he;refine N rfl rfl rfl rfl (by show i.length<=1000;omega) i0 i0 ?_ ?_ aa
     . rw[e4,g];exact⟨⟨h0,h1,rfl,λ_=>rfl⟩,.inr (.inr (.inl ⟨bE,rfl,rfl,rfl,rfl,rfl,rfl,i2⟩))⟩
     . rw[zx (by rw[g];exact bE)]
    exact⟨_,rfl,by omega,λe he=>(all e he).l,λ_=>all⟩
  rw[ag (by simpa using bE)];by_cases bU:x.Kind=4
  . have aP:x.a7.length<=1000:=by
     unfold fv at bP;rcases bP with h|h|h|h|h|h|h|h|h
     case inr.inr.inr.inl=>have:=h.2.2.2.2.2.1;have:=this.2.2.2.2;omega
     all_goals omega
    obtain⟨o,f,u,j⟩:=HD (x:=x) (n:=n) (ao bU) aP x.a7.length 0 [] (by omega) (by simp) (λe h=>by cases h);have f:o2 (n,0,x,[])=some o:=f;rw[ab (dL bU),f];have all:∀e,e∈o->ef ts t n e:=by
     intro e he;obtain⟨y,au,rfl,aS⟩:=j e he;have v:=ao bU y au;unfold cO at v;refine N rfl rfl rfl rfl (by simp) i0 (by show bw y.af;unfold bw;omega) ?_ ?_ aS
     . rw[e4,g];exact⟨⟨h0,h1,rfl,λ_=>rfl⟩,.inr (.inr (.inr (.inl ⟨bU,rfl,rfl,rfl,rfl,rfl,rfl,.inl ⟨y,au,rfl⟩⟩)))⟩
     . rw[zy (by rw[g];exact bU)]
    exact⟨_,rfl,by omega,λe he=>(all e he).l,λ_=>all⟩
  rw[ag (by simpa using bU)];by_cases gM:x.Kind=9
  . rw[ab (dL gM)];have z0:ef ts t n ⟨⟨x.Kind,false,0,[],0,[],[],[]⟩,[]⟩:=by
     refine N rfl rfl rfl rfl (by simp) i0 i0 ?_ ?_ (by simpa using p)
     . rw[e4,g];refine⟨⟨h0,h1,rfl,λ_=>rfl⟩,?_⟩
       iterate 8 right
       exact⟨gM,rfl,rfl,rfl,rfl,rfl,rfl,by simp,dR.2 λy v=>by cases v⟩
     . rw[rh (by rw[g];exact gM),q2];rfl
    by_cases r:0<n
    . have he:=R (by omega);obtain⟨L,a1,a2,a3,a4⟩:=low _ (n-1) (eJ _) (by omega) (by omega) x.aH he.1 he.2;obtain⟨o,f,u,j⟩:=MU (x:=x) (L:=L) (by omega) (λe he=>by have:=a3 e he;omega) L.length 0 [(⟨⟨x.Kind,false,0,[],0,[],[],[]⟩,[]⟩:aY)] (by omega) (by simp) (λe h=>.inl (e7.1 h))
      have f:qh (L,0,x,[(⟨⟨x.Kind,false,0,[],0,[],[],[]⟩,[]⟩:aY)])=some o:=f;rw[ab (dL r),fC (by omega) (by omega),a1];simp only[ak];rw[f];have aX:o.length=1+L.length:=u;refine⟨_,rfl,by omega,λe he=>?_,λJ e he=>?_⟩
      . rcases j e he with rfl|⟨q,am,rfl⟩
        . simpa using p
        . have:=a3 q am;simp;omega
      . rcases j e he with rfl|⟨q,am,rfl⟩
        . exact z0
        . have key:=adE (ts:=ts) h0 h1 (by rw[g];exact gM) (n:=n) (q:=q) (by rw[g];exact a4 (by omega) q am) p;rw[g]at key;exact key
    . rw[ag (by simpa using r)];have all:∀e,e∈[(⟨⟨x.Kind,false,0,[],0,[],[],[]⟩,[]⟩:aY)]->ef ts t n e:=λe he=>by rw[e7.1 he];exact z0
      exact⟨_,rfl,by simp;omega,λe he=>(all e he).l,λ_=>all⟩
  rw[ag (by simpa using gM)];by_cases cM:x.Kind=6
  . have G:=an (.inr cM);subst g;obtain⟨o,f,u,j,aj⟩:=HG (ts:=ts) p ap h0 h1 cM G.1 C.2.2 C.1 X (B:=4000*k) (by omega) (λw b3 a b c d=>low _ b3 (by omega) d c w a b) (ts.getD t.toNat ar).ae.length 0 [] (by omega) (by simp) (λe h=>by cases h) (λ_ e h=>by cases h);have f:o4 (n,0,ts,ts.getD t.toNat ar,[])=some o:=f
    rw[ab (dL cM),f];exact⟨o,rfl,by omega,j,aj⟩
  rw[ag (by simpa using cM)];by_cases fK:x.Kind=7
  . rw[ab (dL fK),FH];have he:=R (by omega);have W:=Z (.inr (.inl fK));have z0:LE ts x n ⟨⟨x.Kind,false,0,[],0,[],[],[]⟩,[]⟩:=⟨rfl,λy v=>(by cases v),by simpa using W,by rfl,by simpa using p⟩
    have O:∀e,LE ts x n e->ef ts t n e:=λe h=>LE.ok h0 h1 (by rw[g];exact fK) (by rw[g];exact I) (by rw[g];exact h) p
    by_cases r:(bif decide (n=0)then true else decide (x.Max=0))=true
    . rw[ab r];have all:∀e,e∈[(⟨⟨x.Kind,false,0,[],0,[],[],[]⟩,[]⟩:aY)]->ef ts t n e:=λe he=>by rw[e7.1 he];exact O _ z0
      exact⟨_,rfl,by simp;omega,λe he=>(all e he).l,λ_=>all⟩
    . rw[ag r];have aQ:n≠0/\x.Max≠0:=by simpa using r
      obtain⟨L,a1,a2,a3,a4⟩:=low _ (n-1) (eJ _) (by omega) (by omega) x.aH he.1 he.2;rw[fC (by omega) (by omega),a1];simp only[aV,ak];by_cases aO:n-1<=1\/L.length<=3000
      . obtain⟨o,f,u,j⟩:=HE (ts:=ts) (x:=x) (n:=n) I (by omega) (L:=L) (by omega) (a4 aO) 200000 0 [(⟨⟨x.Kind,false,0,[],0,[],[],[]⟩,[]⟩:aY)] (by omega) (by simp;omega) (λe h=>by rw[e7.1 h];exact z0);have f:kW (n,L,0,x,[(⟨⟨x.Kind,false,0,[],0,[],[],[]⟩,[]⟩:aY)])=some o:=f;rw[f]
        exact⟨o,rfl,by omega,λe he=>(j e he).l,λ_ e he=>O e (j e he)⟩
      . obtain⟨o,f,u,j⟩:=M' (x:=x) (n:=n) ap (L:=L) (by omega) a3 (⟨⟨x.Kind,false,0,[],0,[],[],[]⟩,[]⟩:aY) rfl rfl L.length 0 [(⟨⟨x.Kind,false,0,[],0,[],[],[]⟩,[]⟩:aY)] (by omega) (by simp) rfl (λe h=>by rw[e7.1 h];simpa using p);have f:kV (n,L,0,0,x,[(⟨⟨x.Kind,false,0,[],0,[],[],[]⟩,[]⟩:aY)])=_:=f
        have az:kW (n,L,0,x,[(⟨⟨x.Kind,false,0,[],0,[],[],[]⟩,[]⟩:aY)])=some o:=by
         rw[kW,ab (by simp),ab (by exact aN (k:=0) (by simp)),ab (by exact dL (Nat.zero_lt_one))];rw[ag (by simp;omega),f];simp only[aV,ak];rw[kW,ag (by simp;omega)]
        rw[az];exact⟨o,rfl,by omega,j,λJ=>by omega⟩
  rw[ag (by simpa using fK)];by_cases fL:x.Kind=8
  . rw[ab (dL fL),E3];have he:=R (by omega);have Q:=aK fL;have W:=Z (.inr (.inr fL));have z0:j3 ts x n ⟨⟨x.Kind,false,0,[],0,[],[],[]⟩,[]⟩:=⟨rfl,rfl,λy v=>(by cases v),λy v=>(by cases v),λi hi=>(by simp at hi),by simpa using W,by rfl,by simpa using p⟩
    have O:∀e,j3 ts x n e->ef ts t n e:=λe h=>j3.ok h0 h1 (by rw[g];exact fL) (by rw[g];exact I) (by rw[g];exact h) p
    obtain⟨s1,b1,c1⟩:=ay _ Q.1 Q.2;obtain⟨E,b2,c2⟩:=ay _ he.1 he.2;have aD:nP ((⟨ts⟩:bh),x.Key)=some (s1:Int):=b1;have aF:nP ((⟨ts⟩:bh),x.aH)=some (E:Int):=b2;rw[aD];simp only[aV,ak];rw[aF];simp only[ak];have az:aM .i64 (aM .i64 2 (s1:Int)) (E:Int)=2+s1+E:=by
     rw[hG (a:=2) (by omega) (by omega),hG (by omega) (by omega)]
    rw[az];by_cases r:(bif decide (n<2+(s1:Int)+E)then true else decide (x.Max=0))=true
    . rw[ab r];have all:∀e,e∈[(⟨⟨x.Kind,false,0,[],0,[],[],[]⟩,[]⟩:aY)]->ef ts t n e:=λe he=>by rw[e7.1 he];exact O _ z0
      exact⟨_,rfl,by simp;omega,λe he=>(all e he).l,λ_=>all⟩
    . rw[ag r];have aQ:¬n<2+(s1:Int)+E/\x.Max≠0:=by simpa using r
      obtain⟨K,a1,a2,a3,a4⟩:=low (4000*k) (n-2-E) (by omega) (by omega) (by omega) x.Key Q.1 Q.2;obtain⟨L,d1,d2,d3,d4⟩:=low (4000*k) (n-2-s1) (by omega) (by omega) (by omega) x.aH he.1 he.2;rw[fC (a:=n) (by omega) (by omega),fC (by omega) (by omega),fC (by omega) (by omega),a1];simp only[ak];rw[d1];simp only[ak]
      obtain⟨o,f,u,j⟩:=Ig (ts:=ts) (x:=x) (n:=n) I (by omega) (K:=K) (L:=L) (by omega) (by omega) (λe he=>(d4 (.inl (by omega)) e he).up (by omega)) (λe he=>(a4 (.inl (by omega)) e he).up (by omega)) 200000 0 [(⟨⟨x.Kind,false,0,[],0,[],[],[]⟩,[]⟩:aY)] (by omega) (by simp;omega) (λe h=>by rw[e7.1 h];exact z0)
      have f:nJ (n,K,L,0,x,[(⟨⟨x.Kind,false,0,[],0,[],[],[]⟩,[]⟩:aY)])=some o:=f;rw[f];exact⟨o,rfl,by omega,λe he=>(j e he).l,λ_ e he=>O e (j e he)⟩
  rw[ag (by simpa using fL)];have cL:x.Kind=5:=by omega
  have G:=an (.inl cL);have aL:DG ts x:=⟨C.2.2,λm z=>adf ay (by have:=G.1.2 m z;have:=C.1 m z;unfold cO at*;omega) (X m z),λm z=>by have:=G.1.2 m z;have:=C.1 m z;unfold cO at*;omega,aJ,aG,X⟩
  obtain⟨o,f,u,j,aj,aR⟩:=ade (ts:=ts) (x:=x) (n:=n) p (by omega) aL (B:=if n<=1 then 0 else 4000*k-4000) (by split<;>omega) (λw b3 a b c d=>by
   obtain⟨l,ah,l2,aq,ai⟩:=low (4000*(b3.toNat+1)) b3 (by omega) (by omega) c w a b
   exact⟨l,ah,by rw[ag (by omega)];omega,ai (.inl (by omega))⟩)
  rw[f];refine⟨o,rfl,?_,aj,λJ e he=>?_⟩
  . split at u<;>omega
  . exact ic.ok h0 h1 (by rw[g];exact cL) (by rw[g];exact G.1) (by rw[g];exact C.2.2) (by rw[g];exact aR (J.elim (λJ=>by have:=j J;omega) id) e he) p
end
section
variable {ts:List ah}
abbrev hl:cJ:=eL
structure mS (ts:List ah)(i:Nat)(e:cJ):Prop where
 p:e.fx.length<=4096
 v:e.Found=true->e.ew=false->bS e.Value/\cI ts true (i:Int) e.Value/\wt e.Value<=dQ (e2 ts i)
def pU(ts:List ah)(b:List cJ):Prop:=b.length=ts.length/\∀i,i<ts.length->mS ts i (b.getD i hl)
theorem GL{i:Nat}{a b:cJ}(c:mS ts i a)(d:mS ts i b):∃r,pd (a,b)=some r/\mS ts i r:=by
 rw[pd];simp only[aV,ak,Kq,acw,I.bj];split
 . exact⟨_,rfl,d⟩
 . exact⟨_,rfl,c⟩
theorem agm(H:dH ts){i:Nat}(hi:i<ts.length):dQ (e2 ts i)<=20000000:=by
 have bf:=H.eB;have:dQ (e2 ts i)<=dQ 5:=pT (by unfold e2;split<;>omega);have e:dQ 5<=20000000:=by decide
 omega
theorem HX(H:dH ts){i:Nat}(hi:i<ts.length){v:I}(c:bS v)(a:cI ts true (i:Int) v)(d:wt v<=dQ (e2 ts i)):∃r,uy ((⟨ts⟩:bh),(i:Int),v)=some r/\mS ts i r:=by
 have:=agm H hi;have b:=ab7 (H.V.iv H.T) c (by omega) (i:Int) (KO a false);unfold lu at b;rw[uy,I.bj,b];simp only[aV,ak];by_cases h:4096<((bY ts (i:Int) v).length:Int)
 . rw[ab (dL h)];exact⟨_,rfl,by simp,λ_ h=>(by cases h)⟩
 . rw[ag (by simpa using h)];exact⟨_,rfl,by show(bY ts (i:Int) v).length<=4096;omega,λ_ _=>⟨c,a,d⟩⟩
theorem Na{b:List cJ}(g:b.length=ts.length){x:ah}(cP:∀m,m∈x.ae->0<=m.av/\m.av<ts.length)(n:x.ae.length<=1000)(t:Int):∀(k i:Nat),i+k=x.ae.length->
 j6 (t,(i:Int),b,ts,false,false,[],0,false,0,[],0,x)=some (.inl (b,false,false,[],0,false,0,[],0))\/
 (j6 (t,(i:Int),b,ts,false,false,[],0,false,0,[],0,x)=some (.inr (t,b,ts,false,false,[],0,false,0,[],0,x))/\∀j,i<=j->j<x.ae.length->(x.ae.getD j au).bD=false->(b.getD (x.ae.getD j au).av.toNat hl).Found=true)
 |0,i,l=>.inr ⟨by rw[j6,ag (by simp;omega)],λj h1 c=>by omega⟩
 |k+1,i,l=>by
  have hi:i<x.ae.length:=by omega
  have ht:=cP _ (bo hi au);obtain⟨j,e⟩:∃j:Nat,(x.ae.getD i au).av=j:=⟨(x.ae.getD i au).av.toNat,by omega⟩
  have f:j<b.length:=by omega
  rw[j6,ab (by simp;omega),ab (aN hi)];simp only[aV,ak,aW];rw[e,ab (by rw[aN hi];rfl),ab (by rw[aN f];rfl),aW,ab (by rw[dL f];rfl)];have ih:=Na g cP n t k (i+1) (by omega);by_cases a:(bif !(x.ae.getD i au).bD then !(b.getD j eL).Found else false)=true
  . rw[ab a];exact .inl rfl
  . rw[ag a,bB (by omega)];rcases ih with ih|⟨ih,p⟩
    . exact .inl ih
    . refine .inr ⟨ih,λq h1 c d=>?_⟩;by_cases o:q=i
      . subst o;rw[d]at a;rw[e,aW]
        simpa using a
      . exact p q (by omega) c d
theorem Nb (H:dH ts){b:List cJ}(o:pU ts b){x:ah}(c:x∈ts){A:Nat}(z:13<=A)(bP:∀j,j<x.ae.length->(x.ae.getD j au).bD=false->(b.getD (x.ae.getD j au).av.toNat hl).Found=true)
 (u:∀m,m∈x.ae->dQ (e2 ts m.av.toNat)<=A):∀(k i:Nat) (acc:List I),i+k=x.ae.length->acc.length=i->(∀y,y∈acc->bS y)->(∀j,j<i->cI ts true (x.ae.getD j au).av (acc.getD j aK))->dN acc<=i*A->
 (jF ((i:Int),b,x,0,false,0,[],0,x.Kind,false,0,[],0,acc)=some (.inl (true,b,0,false,0,[],0)))\/
 ∃a,jF ((i:Int),b,x,0,false,0,[],0,x.Kind,false,0,[],0,acc)=some (.inr (b,0,false,0,[],0,x.Kind,false,0,[],0,a))/\a.length=x.ae.length/\(∀y,y∈a->bS y)/\(∀j,j<x.ae.length->cI ts true (x.ae.getD j au).av (a.getD j aK))/\dN a<=x.ae.length*A
 |0,i,acc,B,ad,r,p,w=>.inr ⟨acc,by rw[jF,ag (by simp;omega)],by omega,r,λj e=>p j (by omega),by rw[show x.ae.length=i by omega];exact w⟩
 |k+1,i,acc,B,ad,r,p,w=>by
  have hi:i<x.ae.length:=by omega
  have F:=(H.ch x c).2.2;have f:=bo hi au;have ht:=H.gw.mem c f;obtain⟨j,e⟩:∃j:Nat,(x.ae.getD i au).av=j:=⟨(x.ae.getD i au).av.toNat,by omega⟩
  have E:=o.1;have g:j<b.length:=by omega
  have s:= u _ f;rw [e,aW] at s;have step:∀ v:I,bS v->cI ts true (x.ae.getD i au).av v->wt v<=A->(jF (((i+1:Nat):Int),b,x,0,false,0,[],0,x.Kind,false,0,[],0,acc++[v]) = some (.inl (true,b,0,false,0,[],0)))\/
   ∃a,jF (((i+1:Nat):Int),b,x,0,false,0,[],0,x.Kind,false,0,[],0,acc++[v])=some (.inr (b,0,false,0,[],0,x.Kind,false,0,[],0,a))/\a.length=x.ae.length/\(∀y,y∈a->bS y)/\(∀j,j<x.ae.length->cI ts true (x.ae.getD j au).av (a.getD j aK))/\dN a<=x.ae.length*A:=by
   intro v v1 v2 v3;refine Nb H o c z bP u k (i+1) (acc++[v]) (by omega) (by simp;omega) (kM r v1) (λq G=>?_) ?_
   . by_cases C:q<i
     . rw[oY (by omega)];exact p q C
     . have:q=i:=by omega
       subst this;have az:(acc++[v]).getD q aK=v:=by rw[<-ad];simp[lU]
       rw[az];exact v2
   . rw[xW,iE,hj,gP];omega
  rw[jF,ab (by simp;omega),ab (aN hi)];simp only[aV,ak,aW,I.bj];by_cases d:(x.ae.getD i au).bD=true
  . rw[ab d,ab (hO (by omega) (by simp;omega)),bB (by omega)];exact step _ ((H.T x c).iL _ f) (H.D x c _ f d) (by have:=H.W x c _ f d;omega)
  . rw[ag d,e,ab (aN g),aW,ab (dL g)];have t:=bP i hi (vA.2 d);rw[e,aW]at t;by_cases n:(b.getD j eL).ew=true
    . rw[ab n];exact .inl rfl
    . have l:=(o.2 j (by omega)).v t (vA.2 n);rw[ag n,ab (aN g),ab (dL g),ab (hO (by omega) (by simp;omega)),bB (by omega)];exact step _ l.1 (by rw[e];exact l.2.1) (iO l.2.2 s)
theorem aai(H:dH ts){i:Nat}(hi:i<ts.length)(bf:(ts.getD i ar).Kind≠5)(r:(ts.getD i ar).Kind≠6):∃v,BK (ts.getD i ar)=some v/\bS v/\cI ts true (i:Int) v/\wt v<=dQ (e2 ts i):=by
 have a:ts.getD i ar∈ts:=bo hi ar;have bP:=H.V.F _ a;have br:=(H.V.iv H.T).K _ a;have m:=H.L _ a;have u:=(H.ch _ a).2.1;have o:=(H.V.iv H.T).S _ a;have s:20<=dQ (e2 ts i):=by
  have:dQ 0<=dQ (e2 ts i):=pT (by omega);exact this
 unfold jO at br;have mk:∀(n af:Int),bw n->bw af->cI ts true (i:Int) ⟨(ts.getD i ar).Kind,false,n,[],af,[],[],[]⟩->bS (⟨(ts.getD i ar).Kind,false,n,[],af,[],[],[]⟩:I)/\cI ts true (i:Int) (⟨(ts.getD i ar).Kind,false,n,[],af,[],[],[]⟩:I)/\wt (⟨(ts.getD i ar).Kind,false,n,[],af,[],[],[]⟩:I)<=dQ (e2 ts i):=by
  intro n af a1 a2 a3;refine⟨mm rfl rfl rfl (by simp) (by show bw (ts.getD i ar).Kind;unfold bw;omega) a1 a2,a3,?_⟩;rw[Hz rfl rfl rfl];show 10+0<=_;omega
 have i0:bw 0:=by unfold bw;omega
 have base:(0<=(i:Int)/\(i:Int)<ts.length):=by omega
 rw[BK];by_cases ba:(ts.getD i ar).Kind=2
 . have ad:=m ba;have f:(ts.getD i ar).bz<=(ts.getD i ar).bx:=by unfold fv at bP;omega
   have b:∀n:Int,(ts.getD i ar).bz<=n->n<=(ts.getD i ar).bx->∃v,(some (⟨(ts.getD i ar).Kind,false,n,[],0,[],[],[]⟩:I))=some v/\bS v/\cI ts true (i:Int) v/\wt v<=dQ (e2 ts i):=by
    intro n dy q;refine⟨_,rfl,mk n 0 (by unfold bw;omega) i0 ?_⟩;rw[e4,aW];exact⟨⟨base.1,base.2,rfl,λ_=>rfl⟩,.inr (.inl ⟨ba,rfl,rfl,rfl,rfl,rfl,rfl,dy,q⟩)⟩
   rw[ab (dL ba)];split
   . rename_i h;have h:=fm h;split
     . exact b _ f (by omega)
     . exact b _ (by omega) f
   . rename_i h;have h:¬0<(ts.getD i ar).bz:=λe=>h (dL e)
     split
     . exact b _ f (by omega)
     . rename_i g;have g:¬(ts.getD i ar).bx<0:=λe=>g (dL e)
       exact b _ (by omega) (by omega)
 rw[ag (by simpa[-List.getD_eq_getElem?_getD]using ba)];by_cases bU:(ts.getD i ar).Kind=4
 . have hs:0<(ts.getD i ar).a7.length:=by
    unfold fv at bP;rcases bP with h|h|h|h|h|h|h|h|h
    case inr.inr.inr.inl=>exact h.2.2.2.2.2.1.1
    all_goals omega
   have l:=bo hs dm;have j:=o bU _ l;unfold cO at j;rw[ab (dL bU),ab (by exact aN (k:=0) hs)];refine⟨_,rfl,mk 0 _ i0 (by show bw ((ts.getD i ar).a7.getD 0 dm).af;unfold bw;omega) ?_⟩;rw[e4,aW];exact⟨⟨base.1,base.2,rfl,λ_=>rfl⟩,.inr (.inr (.inr (.inl ⟨bU,rfl,rfl,rfl,rfl,rfl,rfl,.inl ⟨_,l,rfl⟩⟩)))⟩
 rw[ag (by simpa[-List.getD_eq_getElem?_getD]using bU)];refine⟨_,rfl,mk 0 0 i0 i0 ?_⟩;rw[e4,aW];refine⟨⟨base.1,base.2,rfl,λ_=>rfl⟩,?_⟩;have d:((ts.getD i ar).Kind=3\/(ts.getD i ar).Kind=7\/(ts.getD i ar).Kind=8)->0<=(ts.getD i ar).Max:=by
  intro h;unfold fv at bP;omega
 have c:∀t,eN ts true t []:=λt=>dR.2 λy j=>by cases j
 have p:(ts.getD i ar).Kind=1\/(ts.getD i ar).Kind=3\/(ts.getD i ar).Kind=7\/(ts.getD i ar).Kind=8\/(ts.getD i ar).Kind=9:=by omega
 rcases p with k|k|k|k|k
 . exact .inl ⟨k,rfl,rfl,rfl,rfl,rfl,rfl⟩
 . exact .inr (.inr (.inl ⟨k,rfl,rfl,rfl,rfl,rfl,rfl,d (.inl k)⟩))
 . exact .inr (.inr (.inr (.inr (.inr (.inr (.inl ⟨k,rfl,rfl,rfl,rfl,rfl,rfl,d (.inr (.inl k)),c _⟩))))))
 . exact .inr (.inr (.inr (.inr (.inr (.inr (.inr (.inl ⟨k,rfl,rfl,rfl,rfl,rfl,d (.inr (.inr k)),rfl,c _,c _,λi hi=>by simp at hi⟩)))))))
 . exact .inr (.inr (.inr (.inr (.inr (.inr (.inr (.inr ⟨k,rfl,rfl,rfl,rfl,rfl,rfl,by simp,c _⟩)))))))
theorem Ii(H:dH ts){b:List cJ}(f:pU ts b){i:Nat}(hi:i<ts.length)(c:(ts.getD i ar).Kind=6):∀(k j:Nat) (a:cJ),j+k=(ts.getD i ar).ae.length->mS ts i a->
 ∃r:cJ,mz ((i:Int),(j:Int),b,ts,false,false,[],0,false,0,[],0,ts.getD i ar,a.Found,a.ew,a.fx,a.Value.Kind,a.Value.b',a.Value.bq,a.Value.bA,a.Value.af,a.Value.aE,a.Value.al,a.Value.Rest)=
  some (b,false,false,[],0,false,0,[],0,r.Found,r.ew,r.fx,r.Value.Kind,r.Value.b',r.Value.bq,r.Value.bA,r.Value.af,r.Value.aE,r.Value.al,r.Value.Rest)/\mS ts i r
 |0,j,a,N,e=>⟨a,by rw[mz,ag (by simp[-List.getD_eq_getElem?_getD];omega)],e⟩
 |k+1,j,a,N,e=>by
  have s:ts.getD i ar∈ts:=bo hi ar;have n:j<(ts.getD i ar).ae.length:=by omega
  have U:=(H.ch _ s).2.2;have l:=bo n au;have ht:=H.gw.mem s l;have M:=H.R i hi _ l;have B:=((H.V.iv H.T).A _ s (.inr c)).1;have K:=CD B l;have L:=B.2 _ l;unfold cO at L;obtain⟨q,o⟩:∃q:Nat,((ts.getD i ar).ae.getD j au).av=q:=⟨((ts.getD i ar).ae.getD j au).av.toNat,by omega⟩
  have S:=f.1;have D:q<b.length:=by omega
  have z:=f.2 q (by omega)
  have W:dQ (e2 ts q)<=dQ i:=pT (by
   unfold e2;rw[o,aW]at M
   split<;>omega)
  have O:e2 ts i=i+1:=by unfold e2;rw[ag (by omega)]
  rw[mz,ab (by simp[-List.getD_eq_getElem?_getD];omega),ab (aN n)];simp only[aV,ak,aW,I.bj];rw[o,ab (aN D),aW,ab (dL D)];by_cases g:(bif (b.getD q eL).Found then !(b.getD q eL).ew else false)=true
  . have C:(b.getD q hl).Found=true/\(b.getD q hl).ew=false:=by
     revert g;show(bif (b.getD q hl).Found then !(b.getD q hl).ew else false)=true->_;cases (b.getD q hl).Found<;>cases (b.getD q hl).ew<;>simp
    obtain⟨v1,v2,v3⟩:=z.v C.1 C.2
    have az:bS (⟨(ts.getD i ar).Kind,false,0,[],((ts.getD i ar).ae.getD j au).af,[],[(b.getD q hl).Value],[]⟩:I):=kf (by simp) (by simp) (λy t=>by rw[e7.1 t];exact v1) (by simp) (by simp) (by simp) (by simp) (by show bw (ts.getD i ar).Kind;rw[c];unfold bw;omega) (by show bw 0;unfold bw;omega) (by show bw ((ts.getD i ar).ae.getD j au).af;unfold bw;omega)
    have E:cI ts true (i:Int) (⟨(ts.getD i ar).Kind,false,0,[],((ts.getD i ar).ae.getD j au).af,[],[(b.getD q hl).Value],[]⟩:I):=by
     rw[e4,aW];refine⟨⟨by omega,by omega,rfl,λ_=>rfl⟩,?_⟩
     iterate 5 right
     left;refine⟨c,rfl,rfl,rfl,rfl,?_⟩;show match cV (ts.getD i ar).ae ((ts.getD i ar).ae.getD j au).af with|some m=>_|none=>_
     rw[K];exact⟨rfl,rfl,dR.2 λy t=>by rw[e7.1 t,o];exact v2⟩
    have cz:wt (⟨(ts.getD i ar).Kind,false,0,[],((ts.getD i ar).ae.getD j au).af,[],[(b.getD q hl).Value],[]⟩:I)<=dQ (e2 ts i):=by
     rw[hR,O];show 10+0+0+dN []+dN [(b.getD q hl).Value]<=_;rw[hj,iE,hj];unfold dQ;omega
    obtain⟨r,P,Q⟩:=HX H hi az E cz;obtain⟨d,u,x⟩:=GL e Q;rw[ab g,ab (aN n),P];simp only[ak];have w:pd ((⟨a.Found,a.ew,a.fx,(⟨a.Value.Kind,a.Value.b',a.Value.bq,a.Value.bA,a.Value.af,a.Value.aE,a.Value.al,a.Value.Rest⟩:I)⟩:cJ),(⟨r.Found,r.ew,r.fx,r.Value⟩:cJ))=some d:=u;rw[w]
    simp only[ak];rw[bB (by omega)];exact Ii H f hi c k (j+1) d (by omega) x
  . have F:mS ts i (b.getD q hl):=⟨z.p,λG J=>by
     exfalso
     apply g;show(bif (b.getD q hl).Found then !(b.getD q hl).ew else false)=true;rw[G,J]
     rfl⟩
    obtain⟨d,u,x⟩:=GL e F;rw[ag g];have w:pd ((⟨a.Found,a.ew,a.fx,(⟨a.Value.Kind,a.Value.b',a.Value.bq,a.Value.bA,a.Value.af,a.Value.aE,a.Value.al,a.Value.Rest⟩:I)⟩:cJ),(⟨(b.getD q eL).Found,(b.getD q eL).ew,(b.getD q eL).fx,(b.getD q eL).Value⟩:cJ))=some d:=u;rw[w];simp only[ak];rw[bB (by omega)]
    exact Ii H f hi c k (j+1) d (by omega) x
theorem PK(i:Nat):mS ts i (⟨false,false,[],(⟨0,false,0,[],0,[],[],[]⟩:I)⟩:cJ):=⟨by simp,λh=>by cases h⟩
theorem aaj(H:dH ts){b:List cJ}(f:pU ts b){i:Nat}(hi:i<ts.length):∃e,o' ((⟨ts⟩:bh),(i:Int),b)=some (e,b)/\mS ts i e:=by
 have c:ts.getD i ar∈ts:=bo hi ar;have s:=(H.ch _ c).2.2;rw[o',ab (aN hi)];simp only[aV,ak,aW];by_cases cL:(ts.getD i ar).Kind=5
 . rw[ab (dL cL)];rcases Na (ts:=ts) f.1 (x:=ts.getD i ar) (λm k=>H.gw.mem c k) (by omega) (i:Int) (ts.getD i ar).ae.length 0 (by omega)with h|⟨h,bP⟩
   . have h:j6 ((i:Int),0,b,ts,false,false,[],0,false,0,[],0,ts.getD i ar)=_:=h;rw[h];exact⟨_,rfl,PK i⟩
   . have h:j6 ((i:Int),0,b,ts,false,false,[],0,false,0,[],0,ts.getD i ar)=_:=h;rw[h];simp only[ak];rw[um];have q:13<=dQ i:=by
      have:dQ 0<=dQ i:=pT (by omega);have:dQ 0=20:=rfl;omega
     have t:e2 ts i=i+1:=by unfold e2;rw[ag (by omega)]
     rcases Nb H f c q (λj l=>bP j (by omega) l) (λm k=>pT (by
      have z:=H.R i hi _ k;unfold e2
      split<;>omega)) (ts.getD i ar).ae.length 0 [] (by omega) rfl (λy u=>by cases u) (λj l=>by omega) (by rw[hj];omega)with g|⟨acc,g,n,o,p,w⟩
     . have g:jF (0,b,ts.getD i ar,0,false,0,[],0,(ts.getD i ar).Kind,false,0,[],0,[])=_:=g;rw[g];simp only[aV,ak];rw[ab (by simp),ab trivial];exact⟨_,rfl,⟨by simp,λ_ h=>by cases h⟩⟩
     . have g:jF (0,b,ts.getD i ar,0,false,0,[],0,(ts.getD i ar).Kind,false,0,[],0,[])=_:=g;rw[g];simp only[aV,ak];rw[ab (by simp),ag (by simp),I.bj]
       obtain ⟨r,a,d⟩:= HX H hi (v:= ⟨(ts.getD i ar).Kind,false,0,[],0,[],acc,[]⟩) (kf (by simp) (by simp) o (by simp) (by show acc.length<=1000; omega) (by simp) (by simp) (by show bw (ts.getD i ar).Kind; rw [cL]; unfold bw; omega) (by show bw 0; unfold bw; omega) (by show bw 0; unfold bw; omega)) (by
        rw[e4,aW];refine⟨⟨by omega,by omega,rfl,λ_=>rfl⟩,?_⟩
        iterate 4 right
        left;exact⟨cL,rfl,rfl,rfl,rfl,rfl,⟨.nil,λx c=>by cases c⟩,kb.2 ⟨n,p⟩⟩) (by
        have A:(ts.getD i ar).ae.length*dQ i<=12*dQ i:=et _ s;rw[hR,t];show 10+0+0+dN []+dN acc<=_;rw[hj];show _<=12*dQ i+20
        omega)
       rw[a];simp only[ak,I.bj];exact⟨_,rfl,d⟩
 rw[ag (by simpa[-List.getD_eq_getElem?_getD]using cL)];by_cases cM:(ts.getD i ar).Kind=6
 . rw[ag (by rw[dL cM];simp)];obtain⟨r,a,d⟩:=Ii H f hi cM (ts.getD i ar).ae.length 0 (⟨false,false,[],(⟨0,false,0,[],0,[],[],[]⟩:I)⟩:cJ) (by omega) (PK i);have a:mz ((i:Int),0,b,ts,false,false,[],0,false,0,[],0,ts.getD i ar,false,false,[],0,false,0,[],0,[],[],[])=_:=a;rw[a]
   have gh:∀r:cJ,(⟨r.Found,r.ew,r.fx,(⟨r.Value.Kind,r.Value.b',r.Value.bq,r.Value.bA,r.Value.af,r.Value.aE,r.Value.al,r.Value.Rest⟩:I)⟩:cJ)=r:=λr=>by obtain⟨_,_,_,_,_,_,_,_,_,_,_⟩:=r;rfl
   simp only[ak];rw[gh r];exact⟨r,rfl,d⟩
 . rw[ab (by rw[decide_eq_false cM];rfl)];obtain⟨v,v1,v2,v3,v4⟩:=aai H hi cL cM;obtain⟨r,a,d⟩:=HX H hi v2 v3 v4;rw[v1];simp only[ak,I.bj];rw[a];exact⟨_,rfl,d⟩
theorem L3(H:dH ts)(c:Int):∀(k i:Nat) (b:List cJ),i+k=ts.length->pU ts b->∃d,qa (c,(i:Int),ts,b)=some (c,ts,d)/\pU ts d
 |0,i,b,n,a=>⟨b,by rw[qa,ag (by simp;omega)],a⟩
 |k+1,i,b,n,a=>by
  have s:=H.eB;have hi:i<ts.length:=by omega
  have g:=a.1;obtain⟨e,az,f⟩:=aaj H a hi;obtain⟨r,o,q⟩:=GL (a.2 i hi) f;rw[qa,ab (by simp;omega),ab (aN (by omega)),aW,ab (dL (by omega)),az];simp only[aV,ak,I.bj];rw[ab (by simp)]
  have p:pd ((⟨(b.getD i eL).Found,(b.getD i eL).ew,(b.getD i eL).fx,(b.getD i eL).Value⟩:cJ),(⟨e.Found,e.ew,e.fx,e.Value⟩:cJ))=some r:=o;rw[p];simp only[ak];rw[ab (aN (by omega)),ab (dL (by omega)),bB (by omega)];refine L3 H c k (i+1) _ (by omega) ⟨by simp[g],λj l=>?_⟩;by_cases m:j=i
  . subst m;have:(b.set j (⟨r.Found,r.ew,r.fx,r.Value⟩:cJ)).getD j hl=r:=by
     rw[lU,List.getElem?_set_self (by omega)];rfl
    rw[this];exact q
  . have:(b.set i (⟨r.Found,r.ew,r.fx,r.Value⟩:cJ)).getD j hl=b.getD j hl:=by
     rw[lU,List.getElem?_set_ne (by omega),lU]
    rw[this];exact a.2 j l
theorem MY(H:dH ts):∀(k i:Nat) (b:List cJ),i+k=ts.length+1->pU ts b->∃c,qi ((i:Int),ts,b)=some c/\pU ts c
 |0,i,b,e,a=>⟨b,by rw[qi,ag (by simp;omega)],a⟩
 |k+1,i,b,e,a=>by
  have f:=H.eB;obtain⟨b1,az,d⟩:=L3 H (i:Int) ts.length 0 b (by omega) a;have az:qa ((i:Int),0,ts,b)=_:=az;rw[qi,ab (by simp;omega),az];simp only[aV,ak];rw[bB (by omega)];exact MY H k (i+1) b1 (by omega) d
theorem adg(H:dH ts):∃b,BL (⟨ts⟩:bh)=some b/\pU ts b:=by
 have d:=H.eB
 obtain⟨b,az,a⟩:=MY H (ts.length+1) 0 (List.replicate ts.length eL) (by omega) ⟨by simp,λi hi=>by
  have:(List.replicate ts.length eL).getD i hl=hl:=by
   rw[lU,List.getElem?_replicate,ab hi];rfl
  rw[this]
  exact⟨by simp[hl,eL],λh=>by cases h⟩⟩
 have az:qi (0,ts,List.replicate ts.length eL)=some b:=az;refine⟨b,?_,a⟩;have c:pB 144 (ts.length:Int)=true:=by
  rw[lO];unfold gr dd;omega
 rw[BL];simp only[aV,ak,aW];rw[ab c,az];rfl
theorem aft(H:dH ts):rK (⟨ts⟩:bh)=some 0:=by
 have bf:=H.eB;have gV:=(x2 H.T H.V).2;obtain⟨r,az,a⟩:=IV (by grind[reachBytes]) H.T gV (λ_=>H.V);rw[rK,gV];simp only[aV,ak];rw[ag (by simp),az];simp only[ak];rw[(a rfl).2 H.D]
theorem adh(H:dH ts):DI ts:=by
 intro t h0 h1;obtain⟨b,b1,b2⟩:=adg H;have e:=b2.1;obtain⟨i,rfl⟩:∃i:Nat,t=i:=⟨t.toNat,by omega⟩
 have c:=b2.2 i (by omega);have d:Bp ((⟨ts⟩:bh),(i:Int))=some 0:=by
  rw[Bp,aft H];simp only[aV,ak];rw[ag (by simp),ag (by simp;omega)]
 rw[nP,E2,E1,d];simp only[aV,ak];rw[ag (by simp),b1];simp only[ak];rw[ab (aN (by omega)),aW];by_cases bP:(b.getD i eL).Found=true
 . rw[ag (by rw[bP];simp)];simp only[ak];rw[ag (by simp)];by_cases a:(b.getD i eL).ew=true
   . rw[ab a];exact⟨4097,rfl,by omega⟩
   . rw[ag a];exact⟨_,rfl,iO c.p (by omega)⟩
 . rw[ab (by rw[vA.2 bP];rfl)];simp only[ak];rw[ab (by simp)];exact⟨0,rfl,by omega⟩
end
theorem Tc(e:aY):(⟨I.eta e.V,e.P⟩:aY)=e:=by cases e;simp[I.bj]
theorem IA{a b:List aY}(l:a.length<=3000)(m:b.length<=3000){c:Nat}(j:c<b.length):∀(k i:Nat) (out:List aY),i+k=a.length->out.length=i+c->(∀e,e∈out->e∈a\/e∈b)->
 ∃(f:Nat) (g:List aY),rU (a,b,(i:Int),(c:Int),out)=some (a,b,(f:Int),(c:Int),g)/\f<=a.length/\g.length=f+c/\(∀e,e∈g->e∈a\/e∈b)
 |0,i,out,o,ad,d=>⟨i,out,by
  have n:decide ((i:Int)<(a.length:Int))=false:=by simp;omega
  rw[rU,n]
  simp,by omega,ad,d⟩
 |k+1,i,out,o,ad,d=>by
  have hi:i<a.length:=by omega
  have ht:decide ((i:Int)<(a.length:Int))=true:=by simp;omega
  rw[rU,ht];simp only[aV,ak];rw[ab (by rw[aN hi];rfl),ab (by rw[aN j];rfl),ab trivial,Kq,aW,aW];simp only[ak,gj];by_cases hs:Nt (a.getD i dU).P (b.getD c dU).P=true
  . rw[ab hs,ab (aN hi),Tc,ab (hO (by omega) (by simp;omega)),bB (by omega)];exact IA l m j k (i+1) _ (by omega) (by simp;omega) (kM d (.inl (bo hi _)))
  . rw[ag hs];exact⟨i,out,rfl,by omega,ad,d⟩
theorem KQ{a b:List aY}(l:a.length<=3000)(m:b.length<=3000):∀(k c i:Nat) (out:List aY),c+k=b.length->i<=a.length->out.length=i+c->(∀e,e∈out->e∈a\/e∈b)->
 ∃(d:Nat) (j:List aY),ql (a,b,(i:Int),(c:Int),out)=some (a,(d:Int),j)/\d<=a.length/\j.length=d+b.length/\(∀e,e∈j->e∈a\/e∈b)
 |0,c,i,out,o,hi,ad,g=>⟨i,out,by rw[ql,ag (by simp;omega)],hi,by omega,g⟩
 |k+1,c,i,out,o,hi,ad,g=>by
  have f:c<b.length:=by omega
  obtain⟨d,p,az,n,cz,e6⟩:=IA l m f (a.length-i) i out (by omega) ad g;rw[ql,ab (by simp;omega),az];simp only[aV,ak];rw[ab (aN f),aW,Tc,ab (hO (by omega) (by simp;omega)),bB (by omega)];exact KQ l m k (c+1) d _ (by omega) n (by simp;omega) (kM e6 (.inr (bo f _)))
theorem GM:∀(n:Nat) (l:List aY),l.length<=n->l.length<=3000->∃c,pe l=some c/\c.length=l.length/\∀e,e∈c->e∈l
 |0,l,h,g=>⟨l,by rw[pe,ab (by simp;omega)],rfl,λe he=>he⟩
 |n+1,l,h,g=>by
  by_cases j:l.length<2
  . exact⟨l,by rw[pe,ab (by simp;omega)],rfl,λe he=>he⟩
  . obtain⟨a,a1,a2,a3⟩:=GM n (l.take (l.length/2)) (by simp;omega) (by simp;omega);obtain⟨b,b1,b2,f⟩:=GM n (l.drop (l.length/2)) (by simp;omega) (by simp;omega);rw[ju]at a2;rw[pH]at b2;obtain⟨k,o,d,m,p,i⟩:=KQ (a:=a) (b:=b) (by omega) (by omega) b.length 0 0 [] (by omega) (by omega) rfl (λe h=>by cases h)
    have d:ql (a,b,0,0,[])=_:=d;rw[pe,ag (by simp;omega)];simp only[aV,ak];rw[Ql (by omega),ab (by exact jM (a:=0) (by omega) (by omega)),qV,a1];simp only[ak];rw[ab (jM (by omega) (by omega)),oX,b1];simp only[ak];rw[d];simp only[ak]
    rw[ab (jM (by omega) (by omega)),oX,ab (hO (by omega) (by simp;omega))];refine⟨_,rfl,by simp;omega,λe he=>?_⟩;rcases fX.1 he with he|he
    . rcases i e he with he|he
      . exact pG (a3 e he)
      . exact yp (f e he)
    . exact pG (a3 e (yp he))
theorem aak{ts:List ah}(H:dH ts){t:Int}(h0:0<=t)(h1:t<ts.length):∃l c,BN ((⟨ts⟩:bh),t,3)=some (l,c)/\l.length<=3000/\∀e,e∈l->ef ts t 3 e:=by
 obtain⟨l,b,l2,g,d⟩:=adG H (adh H) 3 3 rfl (by omega) t h0 h1;have he:Bh ((⟨ts⟩:bh),t)=some 0:=by
  rw[Bh,aam H];simp only[aV,ak];rw[ag (by simp),ag (by simp;omega)]
 rw[BN,he];simp only[aV,ak];rw[ag (by simp),ag (by simp),b];simp only[ak];by_cases h:3000<(l.length:Int)
 . rw[ab (dL h)];exact⟨[],3,rfl,by simp,λe h=>by cases h⟩
 . rw[ag (by simpa using h)];obtain⟨a,s1,i,f⟩:=GM l.length l (eJ _) (by omega);rw[s1];exact⟨a,0,rfl,by omega,λe he=>d (.inr (by omega)) e (f e he)⟩
section
variable {tw tr:List ah}
theorem MZ(c:dH tw)(a:dH tr){t:Int}(t0:0<=t)(t1:t<tw.length)(t2:t<tr.length){L:List aY}(s:L.length<=3000)(cp:∀e,e∈L->ef tw t 3 e):∀(k i:Nat),i+k=L.length->
 qb (t,L,(L.length:Int),(i:Int),tw,tr)=some (.inr ())
 |0,i,x=>by rw[qb,ag (by simp;omega)]
 |k+1,i,x=>by
  have hi:i<L.length:=by omega
  have E:=cp _ (bo hi cG);have ih:=MZ c a t0 t1 t2 s cp k (i+1) (by omega);have ad:=E.l;have C:=E.v;rw[qb,ab (by simp;omega),ab (aN hi),aW,show dU=cG from rfl];simp only[aV,ak,I.bj];generalize L.getD i cG=e at*;have d:=E.f;have y:(bY tw t e.V).length<=4096:=by rw[<-E.p];omega
  have g:gR tw 3000 t e.V:=pL c 3000 E.o d (.inl y) (.inl (by omega));rw[S' c a E.o d g t0 t2];simp only[ak];rw[E.p,aac a.gw];have j:∀{r:I×Int},(match ee tr 200 t (bY tw t e.V)with|some v=>(v,0)|none=>(vP,12))=r->z' tr t (bY tw t e.V)=r:=λ{r} h=>by
   unfold z';rw[ag (by omega),ag (by omega)];rw[<-h];cases ee tr 200 t (bY tw t e.V)<;>rfl
  simp only[ak];cases h:vO tw tr t e.V t with
  |inl n=>
   rw[j (r:=(n,0)) (by rw[Jv c a 3000 E.o g d t0 t2 h 200 (by omega)])];obtain⟨q,A,B⟩:=abr (L0 c a E.o d g t0 t2 h).1 n;have z:=B.2 rfl;subst z;simp only[zS,ec,eb,fM,vp,yh,yg,kp,cw,cN,cv,gj,hv];rw[A]
   simp only[ak,eb,cN,cv];rw[bB (by omega)];exact ih
  |inr p=>
   rw[show zS (Sum.inr p)=(vP,12)from rfl];cases m:ee tr 200 t (bY tw t e.V)with
   |none=>
    rw[j (r:=(vP,12)) (by rw[m])];simp only[ec,eG,eb,fM,vp,yh,yg,kp,cw,cN,cv,gj,hv,show decide ((12:Int)=0)=false from rfl,ak];rw[bB (by omega)];exact ih
   |some w=>
    rw[j (r:=(w,0)) (by rw[m])];obtain⟨b,b1,b2⟩:=aaB c a E.o d g t0 t2 w;have u:b=false:=by
     cases b with
     |false=>rfl
     |true=>have:=b2.1 rfl;rw[h]at this;cases this
    subst u;simp only[ec,eG,eb,fM,vp,yh,yg,kp,cw,cN,cv,gj,hv,show decide ((12:Int)=0)=false from rfl,show decide ((0:Int)=0)=true from rfl,ak];rw[b1]
    simp only[ak,cN,cv,gj,hv];rw[bB (by omega)];exact ih
end
theorem Yr{c:lH}(a:zL c):zh c=some true:=by
 rw[zh];rcases ac9 a with⟨w,r,t,v,e⟩|⟨tw,tr,t,v,e,C⟩
 . rw[e];simp only[aV,ak,xg];rfl
 . rw[e];obtain⟨⟨t0,t1,_⟩,_⟩:=(e4 _ _ _).1 C.f;simp only[aV,ak,xg,eb,hv,I.bj];rw[ag (by simp)];obtain⟨l,g,s1,b,d⟩:=aak C.W t0 t1;rw[s1];simp only[ak];split
   . rfl
   . have ad:=MZ C.W C.R t0 t1 C.t2 (L:=l) b d l.length 0 (by omega);have ad:qb (t,l,(l.length:Int),0,tw,tr)=some (.inr ()):=ad;rw[ad];rfl
theorem afU(h:aR cT.D [.nm FD])(a:Ok cT [.nm FD] h):zh h=some true:=Yr (afX (agc a))
end
end Go.Proofs.YtfcnkdegapjgnaaGreatDoor
