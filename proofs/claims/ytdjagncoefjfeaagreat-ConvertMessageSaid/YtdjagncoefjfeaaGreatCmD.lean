/- The functions of the program as functions of Lean, that its code does what they say, and what they answer; part D. -/
import Derived.Test.YtdjagncoefjfeaaGreatCmC

namespace Go.Proofs.YtdjagncoefjfeaaGreat
set_option linter.all false
section
open Go Go.Proofs.YtdjagncoefjfeaaGreat.Shv Go.Sort
set_option maxRecDepth 100000
variable{x y:ah}{path b1:aq}{p q:aj}{b2 L t id rt:Int}{ts tr tw:List ah}{a:Option (I×Bool×List ah×aq×Int×aq)}{o:Option I}{v w u:I}{ks:List I}{F:iT}{α c:Type}{ms:List aS}{aI:List fy}
section
variable {ts:List ah}
theorem agm(d:x.ag.length<=1000)(c:gJ x.ag)(id:Int):∃r,ha (x,id)=some r/\r.2=(cH x.ag id).isSome:=by
 cases bE:cH x.ag id with
 |some m=>
  obtain⟨j,a,b,g⟩:=E3 c d bE;grind
 |none=>
  obtain⟨r,e,f⟩:=vB (t:=x) (id:=id) (by omega);refine⟨r,e,?_⟩;rcases f with⟨j,a,b,_,_⟩|⟨_,q⟩
  . exact absurd b (nz bE _ (bk a aE))
  grind
def fS(x:ah)(f:cQ):Bool:=(cH x.ag f.ae).isSome || !f.cp
def e7(x:ah)(l:List cQ):List bY:=(l.filter λf=>!(cH x.ag f.ae).isSome).map λf=>⟨f.ae,f.Data⟩
theorem Iv(j:path.length<=900)(c:x.ag.length<=1000)(b:gJ x.ag){l:List cQ}(af:l.length<=90000)
 {z0 z2 z4 a0 a2 a4:Int}{z1 a1:Bool}{z3 a3:aj}{b1:aq}{b2:Int}{its:List I}:∀(k i:Nat) (acc:List bY),i+k=l.length->acc.length<=i->
 ((l.drop i).all (fS x)=true->pj (l,(l.length:Int),(i:Int),ts,b1,b2,x,z0,z1,z2,z3,z4,a0,a1,a2,a3,a4,path,its,acc)=some (.inr (ts,b1,b2,z0,z1,z2,z3,z4,a0,a1,a2,a3,a4,path,its,acc++e7 x (l.drop i))))/\
 ((l.drop i).all (fS x)=false->∃w f1 f2,pj (l,(l.length:Int),(i:Int),ts,b1,b2,x,z0,z1,z2,z3,z4,a0,a1,a2,a3,a4,path,its,acc)=some (.inl (false,ts,f2,w,path,f1)))
 |0,i,acc,p,n=>by
  rw[pj,cl,ee (by omega)];exact⟨λ_=>by simp[e7],λh=>by simp at h⟩
 |k+1,i,acc,p,n=>by
  have aB:i<l.length:=by omega
  have e:l.drop i=l.getD i gj::l.drop (i+1):=by rw[dv aB];exact lk aB
  obtain⟨r,q,m⟩:=agm c b (l.getD i gj).ae;rw[pj,bu,ad (aQ aB),bd,e];simp only[aT,ao];generalize l.getD i gj=f at*;rw[q];simp only[ao];have o:(f::l.drop (i+1)).all (fS x)=(fS x f&&(l.drop (i+1)).all (fS x)):=rfl;rw[o];cases hs:(cH x.ag f.ae).isSome with
  |true=>
   have a:fS x f=true:=by unfold fS;rw[hs];rfl
   have d:e7 x (f::l.drop (i+1))=e7 x (l.drop (i+1)):=by unfold e7;rw[Fa (by rw[hs];simp)]
   rw[m,hs,ad rfl,a,d,bD,mJ];exact Iv j c b af k (i+1) acc (by omega) (by omega)
  |false=>
   rw[m,hs,bt];cases g:f.cp with
   |true=>
    have a:fS x f=false:=by unfold fS;rw[hs,g];rfl
    rw[ad rfl,ad (cP),zO (by simp;omega),a];simp only[ao,I.aU];have aK:df .i64 ((path++[f.ae]).length:Int) 1=(path.length:Int):=by rw[hG (by simp<;>omega) (by simp<;>omega)];simp
    rw[aK,ad (iK.2 (by simp;omega)),hM,bd];simp_all
   |false=>
    have a:fS x f=true:=by unfold fS;rw[hs,g];rfl
    have d:e7 x (f::l.drop (i+1))=⟨f.ae,f.Data⟩::e7 x (l.drop (i+1)):=by unfold e7;rw[Fb (by rw[hs];rfl)];rfl
    rw[bt,ad (cP),a,d,bD,mJ];have:=Iv j c b af (z0:=z0) (z1:=z1) (z2:=z2) (z3:=z3) (z4:=z4) (a0:=a0) (a1:=a1) (a2:=a2) (a3:=a3) (a4:=a4) (b1:=b1) (b2:=b2) (its:=its) k (i+1) (acc++[⟨f.ae,f.Data⟩]) (by omega) (by simp;omega);grind
theorem YN(H:iQ ts)(i:∀x,x∈ts->∀m,m∈x.ag->m.bZ=true->jI m.bw=some m.bw){n:Nat}(ih:wQ ts n)(e:x∈ts)(g:x.Kind=5)(c7:∀m,m∈x.ag->0<=m.aw/\m.aw<ts.length)(F:p.length<=4096)(G:path.length+(n+1)=200):
 (∀l,jl p=some l->∀a,cn (ei (cZ ts n) l) x.ag=some a->l.all (fS x)=true->yy (x,p,ts,b1,b2,path)=some (⟨5,false,0,[],0,[],a,e7 x l⟩,true,ts,b1,b2,path))/\
 ((jl p=none\/(∃l,jl p=some l/\(cn (ei (cZ ts n) l) x.ag=none\/l.all (fS x)=false)))->∃w f1 f2,yy (x,p,ts,b1,b2,path)=some (w,false,ts,f1,f2,path)):=by
 obtain⟨j,D⟩:=H.A x e (.inl g);obtain⟨o,v,y,z⟩:=Hv (p:=p) (by omega);rw[yy,v];simp only[aT,ao];by_cases h0:o.2=0
 . obtain⟨v1,C,v3,v4⟩:=y h0;rw[ak (by simp[h0]),v1];have E:=H.T x e;have k:∀m,m∈x.ag->m.bZ=true->jI m.bw=some m.bw:=λm b s=>i x e m b s;have ar:∀m,m∈x.ag->∀q,q∈o.1->∀step b1 b2,fG ts b1 b2 path (cZ ts n m.aw q.Data) (iZ (step,m.aw,q.Data,ts,b1,b2,path)):=λm b q u step b1 b2=>
    vZ (by omega) (ih m.aw q.Data b1 b2 (path++[step]) (c7 m b).1 (c7 m b).2 (by have:=(C q u).1;omega) (by simp;omega))
   obtain⟨gB,c⟩:=LO (x:=x) (path:=path) (by omega) (f:=cZ ts n) (l:=o.1) (by omega) (by omega) k ar (z0:=0) (z1:=false) (z2:=0) (z3:=[]) (z4:=0) (a0:=x.Kind) (a1:=false) (a2:=0) (a3:=[]) (a4:=0) (b1:=b1) (b2:=b2) x.ag.length 0 [] (by omega) rfl;rw[fE]at gB c;have z0:((0:Nat):Int)=0:=rfl;rw[z0]at gB c;have B:=λits=>Iv (ts:=ts) (x:=x) (path:=path) (by omega) (by omega) j (l:=o.1) (by omega) (z0:=0) (z1:=false) (z2:=0) (z3:=[]) (z4:=0) (a0:=x.Kind) (a1:=false) (a2:=0) (a3:=[]) (a4:=0) (b1:=b1) (b2:=b2) (its:=its) o.1.length 0 [] (by omega) (ef _);rw[fE,z0]at B;constructor
   . intro l af a t r;cases af;rw[gB a t];simp only[ao,fR];rw[(B a).1 r];simp[g]
   . intro h;rcases h with h|⟨l,af,h⟩
     . cases h
     . cases af;cases hs:cn (ei (cZ ts n) o.1) x.ag with
       |none=>
        obtain⟨w,f1,f2,d⟩:=c hs;rw[d];exact⟨_,_,_,rfl⟩
       |some a=>
        rcases h with h|h
        . rw[hs]at h;cases h
        . obtain⟨w,f1,f2,d⟩:=(B a).2 h;rw[gB a hs];simp only[ao,fR];rw[d];exact⟨I.eta w,f1,f2,rfl⟩
 . rw[ad (by simp[h0]),z h0];constructor
   . intro l af;cases af
   . intro _;rw[zO (by omega)];exact⟨_,_,_,rfl⟩
end
structure jo (ts:List ah):Prop where
 S:iQ ts
 V:mZ ts
 W:∀x,x∈ts->∀m,m∈x.ag->m.bZ=true->jI m.bw=some m.bw
theorem dj.hi(H:dj ts):jo ts:=⟨H.V.ic H.T,H.V,λx c m a e=>aas ((H.T x c).3 m a) (by have:=H.W x c m a e;omega)⟩
section
variable {ts:List ah}
theorem jo.mem(H:jo ts)(c:x∈ts){m:aS}(a:m∈x.ag):0<=m.aw/\m.aw<ts.length:=
 H.V.U x c m.aw (by unfold e9;simp;exact .inl ⟨m,a,rfl⟩)
theorem jo.elem(H:jo ts)(c:x∈ts)(a:7<=x.Kind):0<=x.aG/\x.aG<ts.length:=
 H.V.U x c x.aG (by unfold e9;simp[a])
theorem jo.key(H:jo ts)(c:x∈ts)(a:x.Kind=8):0<=x.Key/\x.Key<ts.length:=
 H.V.U x c x.Key (by unfold e9;simp[a])
def eu:I:=⟨0,false,0,[],0,[],[],[]⟩
abbrev qc:=Int->aj->Option I
def As(p:aj):Option I:=if p=[]then some ⟨1,false,0,[],0,[],[],[]⟩else if p=[1]then some ⟨1,true,0,[],0,[],[],[]⟩else none
def Au(x:ah)(p:aj):Option I:=match hS p with
 |some m=>if x.bA<=jk m/\jk m<=x.bC then some ⟨2,false,jk m,[],0,[],[],[]⟩else none
 |none=>none
def Av(x:ah)(p:aj):Option I:=if(p.length:Int)<=x.Max then some ⟨3,false,0,p,0,[],[],[]⟩else none
def Aw(x:ah)(p:aj):Option I:=match hS p with
 |some m=>if 1<=m/\m<=1000/\((x.bg.any λy=>decide (y.ae=(m:Int)))||x.Open)=true then some ⟨4,false,0,[],(m:Int),[],[],[]⟩else none
 |none=>none
def mP(f:qc)(x:ah):aj->Option I
 |[]=>some ⟨9,false,0,[],0,[],[],[]⟩
 |c::q=>if c=1 then(f x.aG q).map λv=>⟨9,false,0,[],0,[],[v],[]⟩else none
def rJ(f:qc)(x:ah)(p:aj):Option I:=match jV p with
 |some (id,q)=>(match cH x.ag id with
  |some m=>(f m.aw q).map λv=>⟨6,false,0,[],id,[],[v],[]⟩
  |none=>if x.Open then some ⟨6,false,0,[],id,[],[],[⟨id,q⟩]⟩else none)
 |none=>none
def ou(f:qc)(x:ah)(p:aj):Option I:=match iN p with
 |some l=>if(l.length:Int)<=x.Max then(cn (f x.aG) l).map λa=>⟨7,false,0,[],0,[],a,[]⟩else none
 |none=>none
def rK(f:qc)(x:ah)(p:aj):Option I:=match iN p with
 |some l=>if l.length%2 = 0/\((l.length/2:Nat):Int)<=x.Max then (match cn (f x.Key) (fc l) with
  |some ks=>if oG ks then(cn (f x.aG) (fl l)).map λa=>⟨8,false,0,[],0,ks,a,[]⟩else none
  |none=>none)else none
 |none=>none
def ot(f:qc)(x:ah)(p:aj):Option I:=match jl p with
 |some l=>(match cn (ei f l) x.ag with
  |some a=>if l.all (fS x) then some ⟨5,false,0,[],0,[],a,e7 x l⟩else none
  |none=>none)
 |none=>none
def rL(f:qc)(x:ah)(p:aj):Option I:=
 if x.Kind=1 then As p else if x.Kind=2 then Au x p else if x.Kind=3 then Av x p else if x.Kind=4 then Aw x p else if x.Kind=9 then mP f x p else if x.Kind=6 then rJ f x p else if x.Kind=7 then ou f x p else if x.Kind=8 then rK f x p else ot f x p
theorem DL(t:Int)(p:aj):cZ ts 0 t p=none:=by rw[cZ.eq_def]
theorem vc(n:Nat)(t:Int)(p:aj):cZ ts (n+1) t p=rL (cZ ts n) (ts.getD t.toNat aN) p:=by rfl
theorem fG.eta(h:fG ts b1 b2 path o a):
 fG ts b1 b2 path o (a>>=λr=>some (I.eta r.1,r.2.1,r.2.2.1,r.2.2.2.1,r.2.2.2.2.1,r.2.2.2.2.2)):=by
 refine⟨λv c=>?_,λaD=>?_⟩
 . rw[h.1 v c];simp[I.aU]
 . obtain⟨w,f1,f2,e⟩:=h.2 aD;exact⟨w,f1,f2,by rw[e];simp[I.aU]⟩
theorem fG.one(v:I):fG ts b1 b2 path (some v) (some (v,true,ts,b1,b2,path)):=⟨λa h=>by cases h;rfl,λh=>by cases h⟩
theorem fG.cast{c:Option I}(e:o=c)(h:fG ts b1 b2 path o a):fG ts b1 b2 path c a:=e▸h
theorem HV{l:List c4}{m:Nat}:(∃y,y∈l/\y.ae=(m:Int))↔(l.any λy=>decide (y.ae=(m:Int)))=true:=by grind
theorem aav(H:jo ts){n:Nat}(ih:wQ ts n)(g:x∈ts)(fi:x.Kind=7)(s:p.length<=4096)(t:path.length+(n+1)=200):
 fG ts b1 b2 path (ou (cZ ts n) x p) (B7 (x,p,ts,b1,b2,path)):=by
 obtain⟨o,j,k,m⟩:=zN (p:=p) (by omega);obtain⟨aK,c⟩:=H.elem g (by omega);rw[B7,j];unfold ou;simp only[aT,ao];by_cases h0:o.2=0
 . obtain⟨v1,r,v3⟩:=k h0;rw[ak (by simp[h0]),v1];dsimp only;by_cases b:(o.1.length:Int)<=x.Max
   . rw[ad b,cl];have d:∀q,q∈o.1->∀step b1 b2,fG ts b1 b2 path (cZ ts n x.aG q) (iZ (step,x.aG,q,ts,b1,b2,path)):=λq e step b1 b2=>
      vZ (by omega) (ih x.aG q b1 b2 (path++[step]) aK c (by have:=r q e;omega) (by simp;omega))
     obtain⟨gB,a⟩:=LK (x:=x) (l:=o.1) (by omega) d (z0:=0) (z1:=false) (z2:=0) (z3:=[]) (z4:=0) (a0:=x.Kind) (a1:=false) (a2:=0) (a3:=[]) (a4:=0) (b1:=b1) (b2:=b2) o.1.length 0 [] (by omega) rfl;rw[fE]at gB a;have z0:((0:Nat):Int)=0:=rfl;rw[z0]at gB a;cases hs:cn (cZ ts n x.aG) o.1 with
     |none=>
      obtain⟨w,f1,f2,f⟩:=a hs;rw[f];exact⟨λv h=>by simp at h,λ_=>⟨_,_,_,rfl⟩⟩
     |some i=>
      rw[gB i hs];exact⟨λu h=>by grind,λh=>by simp at h⟩
   . rw[ak b,bu];exact jJ (by omega) _ _ _
 . rw[ad (by simp[h0]),m h0];exact jJ (by omega) _ _ _
theorem Mv(H:jo ts):∀n,n<=200->wQ ts n
 |0,_=>λt p b1 b2 path t0 t1 d o=>by
  rw[oU,bu,DL];exact jJ (by omega) _ _ _
 |n+1,aD=>λt p b1 b2 path t0 t1 d o=>by
  have ih:=Mv H n (by omega);obtain⟨j,rfl⟩:=BF t0;have M:j<ts.length:=by omega
  rw[oU,cl,ad (aQ M),vc,bd];have a:=bk M aN;generalize ts.getD j aN=x at*;obtain⟨an,ap⟩:=H.S.K x a;have Z:x.bg.length<9223372036854775807:=dz (il (H.S.T x a).1);unfold rL;simp only[aT,ao];obtain⟨u,O,P,Q⟩:=abX p;by_cases f:x.Kind=1
  . rw[ad f,ad (show decide (x.Kind=1)=true by simpa using f)];unfold As;by_cases h0:p=[]
    . rw[ad h0,ak (by simp[h0]),f,h0];exact .one _
    . by_cases h1:p=[1]
      . rw[ak h0,ad h1,ak (by simp[h1]),f,h1];exact .one _
      . rw[ak h0,ak h1,ad (by simp[h0,h1])];exact jJ (by omega) _ _ _
  rw[ak f,ak (show ¬decide (x.Kind=1)=true by simpa using f)];by_cases r:x.Kind=2
  . rw[ad r,ad (show decide (x.Kind=2)=true by simpa using r),O];unfold Au;simp only[ao];by_cases h0:u.2=0
    . obtain⟨m,B,F⟩:=P h0;rw[B,F,acO (D7 B),ak (by simp[h0])];simp only[ao];by_cases b:x.bA<=jk m/\jk m<=x.bC
      . rw[ad b,cl,r];exact .one _
      . rw[ak b,bu];exact jJ (by omega) _ _ _
    . rw[Q h0,ad (by simp[h0])];exact jJ (by omega) _ _ _
  rw[ak r,ak (show ¬decide (x.Kind=2)=true by simpa using r)];by_cases s:x.Kind=3
  . rw[ad s,ad (show decide (x.Kind=3)=true by simpa using s)];unfold Av;by_cases b:(p.length:Int)<=x.Max
    . rw[ad b,cl,s];exact .one _
    . rw[ak b,bu];exact jJ (by omega) _ _ _
  rw[ak s,ak (show ¬decide (x.Kind=3)=true by simpa using s)];by_cases z:x.Kind=4
  . rw[ad z,ad (show decide (x.Kind=4)=true by simpa using z),O];unfold Aw;simp only[ao];by_cases h0:u.2=0
    . obtain⟨m,B,F⟩:=P h0;rw[B,F];dsimp only;by_cases b:1<=m/\m<=1000
      . obtain⟨q,aj,_,al⟩:=qF (t:=x) (m:Int) Z;have e:bW .i64 (m:Int)=(m:Int):=jC;rw[ak (show ¬(bif bif !decide (u.2=0)then true else decide ((m:Int)<1)then true else decide (1000<(m:Int)))=true by simp[h0];omega),e,aj];simp only[ao];have Y:q.2=(x.bg.any λy=>decide (y.ae=(m:Int))):=by
         have:=(Cw al).trans HV;grind
        rw[Y,z];by_cases J:((x.bg.any λy=>decide (y.ae=(m:Int)))||x.Open)=true
        . rw[ad (show 1<=m/\m<=1000/\((x.bg.any λy=>decide (y.ae=(m:Int)))||x.Open)=true from⟨b.1,b.2,J⟩),ak]
          . exact .one _
          grind
        . rw[ak (show ¬(1<=m/\m<=1000/\((x.bg.any λy=>decide (y.ae=(m:Int)))||x.Open)=true)fromλh=>J h.2.2),ad]
          . exact jJ (by omega) _ _ _
          grind
      . rw[ak (show ¬(1<=m/\m<=1000/\((x.bg.any λy=>decide (y.ae=(m:Int)))||x.Open)=true)fromλh=>b ⟨h.1,h.2.1⟩),ad (by simp[h0];omega)];exact jJ (by omega) _ _ _
    . rw[Q h0,ad (by simp[h0])];exact jJ (by omega) _ _ _
  rw[ak z,ak (show ¬decide (x.Kind=4)=true by simpa using z)];by_cases i:x.Kind=9
  . rw[ad i,ad (show decide (x.Kind=9)=true by simpa using i)];obtain⟨aK,V⟩:=H.elem a (by omega);cases p with
    |nil=>
     rw[hM,mP,i];exact .one _
    |cons c q=>
     have af:(c::q).length=q.length+1:=rfl;have ab:aH 0 (c::q).length=true:=aQ (k:=0) (by simp);have b0:fq (c::q) 0=(c.toNat:Int):=rfl;have rD:dS 1 ((c::q).length:Int) (c::q).length=true:=iK.2 (by simp<;>omega);have U:d' (c::q) 1 ((c::q).length:Int)=q:=by
      unfold d';simp
     rw[bt,ad ab,b0,mP];by_cases D:c=1
     . subst D;rw[ad rfl,bt,ad rD,U];have L:=vZ (step:=0) (path:=path) (by omega) (ih x.aG q b1 b2 (path++[0]) aK V (by simp at d;omega) (by simp;omega));cases N:cZ ts n x.aG q with
       |none=>
        obtain⟨w,f1,f2,aa⟩:=L.2 N;rw[aa];exact⟨λv h=>by simp at h,λ_=>⟨_,_,_,rfl⟩⟩
       |some v=>
        rw[L.1 v N]
        exact⟨λam h=>by
         have:am=⟨9,false,0,[],0,[],[v],[]⟩:=(by simpa using h.symm);rw[this]
         simp[I.aU,i],λh=>by simp at h⟩
     . have X:¬((c.toNat:Int)=1):=λh=>D (UInt8.toNat.inj (by show c.toNat=1;omega));rw[ak D,ad (by simpa using X)];exact jJ (by omega) _ _ _
  rw[ak i,ak (show ¬decide (x.Kind=9)=true by simpa using i)];by_cases A:x.Kind=6
  . rw[ad A,ad (show decide (x.Kind=6)=true by simpa using A)];refine fG.eta (fG.cast ?_ (aat H.S ih a A (λm E=>H.mem a E) d o));rfl
  rw[ak A,ak (show ¬decide (x.Kind=6)=true by simpa using A)];by_cases fi:x.Kind=7
  . rw[ad fi,ad (show decide (x.Kind=7)=true by simpa using fi)];exact fG.eta (aav H ih a fi d o)
  rw[ak fi,ak (show ¬decide (x.Kind=7)=true by simpa using fi)];by_cases g:x.Kind=8
  . rw[ad g,ad (show decide (x.Kind=8)=true by simpa using g)];refine fG.eta (fG.cast ?_ (adm ih g (H.key a g) (H.elem a (by omega)) d o));rfl
  rw[ak g,ak (show ¬decide (x.Kind=8)=true by simpa using g)];have ai:x.Kind=5:=by omega
  obtain⟨R,C⟩:=YN H.S H.W ih a ai (λm E=>H.mem a E) d (b1:=b1) (b2:=b2) o;refine fG.eta ?_;unfold ot;cases af:jl p with
  |none=>exact⟨λv h=>(by cases h),λ_=>C (.inl af)⟩
  |some l=>
   dsimp only;cases hs:cn (ei (cZ ts n) l) x.ag with
   |none=>exact⟨λv h=>(by cases h),λ_=>C (.inr ⟨l,af,.inl hs⟩)⟩
   |some ah=>
    dsimp only;cases G:l.all (fS x)with
    |true=>exact⟨λv h=>(by cases h;exact R l af ah hs G),λh=>(by cases h)⟩
    |false=>exact⟨λv h=>(by cases h),λ_=>C (.inr ⟨l,af,.inr G⟩)⟩
end
def fA(o:Option I)(r:Option cS):Prop:=(∀v,o=some v->∃F,r=some ⟨v,F,true⟩)/\(o=none->∃F,r=some ⟨eu,F,false⟩)
theorem zX(b:path.length<=1000)(a:Int):g' (path,a)=some ⟨eu,⟨path,a⟩,false⟩:=by rw[g',ad (cP),fR];rfl
theorem mN(a:path.length<=1000)(step:Int):lF (path,step)=some (path++[step]):=by
 rw[lF,ad (cP)];simp only[aT,ao,fR];rw[ad (cP)]
theorem jx(a:path.length<=1000)(b:Int):fA none (g' (path,b)>>=λr=>some (⟨I.eta r.Value,r.dO,r.ck⟩:cS)):=by
 rw[zX a];exact⟨λv h=>(by cases h),λ_=>⟨_,rfl⟩⟩
theorem fA.eta{o:Option I}{a:Option cS}(h:fA o a):fA o (a>>=λr=>some (⟨I.eta r.Value,r.dO,r.ck⟩:cS)):=by
 refine⟨λv c=>?_,λaD=>?_⟩
 . obtain⟨F,bE⟩:=h.1 v c;exact⟨F,by rw[bE];simp[I.aU]⟩
 . obtain⟨F,bE⟩:=h.2 aD;exact⟨F,by rw[bE];rfl⟩
theorem tW(v:I):nk v=some ⟨v,⟨[],0⟩,true⟩:=by rw[nk,I.aU]
theorem fA.one(v:I):fA (some v) (nk v>>=λr=>some (⟨I.eta r.Value,r.dO,r.ck⟩:cS)):=by
 rw[tW];exact⟨λa h=>(by cases h;exact⟨_,by simp[I.aU];rfl⟩),λh=>(by cases h)⟩
section
variable {ts:List ah}
def ly(ts:List ah)(o:Option I)(L:Int)(path:aq)(t:Int)(q:aj)(step:Int):Prop:=
 fA o (lF (path,step)>>=λr=>jH ((⟨ts⟩:aR),t,q,aM .i64 L 1,r))
theorem ly.yes{step:Int}(h:ly ts o L path t q step)(a:path.length<=1000)(c:o=some v):∃F,jH ((⟨ts⟩:aR),t,q,aM .i64 L 1,path++[step])=some ⟨v,F,true⟩:=by
 unfold ly at h;rw[mN a]at h;exact h.1 v c
theorem ly.no{step:Int}(h:ly ts o L path t q step)(a:path.length<=1000)(c:o=none):∃F,jH ((⟨ts⟩:aR),t,q,aM .i64 L 1,path++[step])=some ⟨eu,F,false⟩:=by
 unfold ly at h;rw[mN a]at h;exact h.2 c
theorem Rt(n:path.length<=900){f:aj->Option I}{l:List aj}(af:l.length<=90000)(h:∀q,q∈l->∀step,ly ts (f q) L path x.aG q step)
 {z0 z2 z4 z5 z7 z9 z11:Int}{z1 z6 z8:Bool}{z3 z10:aj}:∀(k i:Nat) (acc:List I),i+k=l.length->acc.length=i->
 (∀m,cn f (l.drop i)=some m->sZ (L,path,l,(i:Int),ts,x,z0,z1,z2,z3,z4,z5,z6,z7,z8,z9,z10,z11,acc)=some (.inr (z0,z1,z2,z3,z4,z5,z6,z7,z8,z9,z10,z11,acc++m)))/\
 (cn f (l.drop i)=none->∃F,sZ (L,path,l,(i:Int),ts,x,z0,z1,z2,z3,z4,z5,z6,z7,z8,z9,z10,z11,acc)=some (.inl ⟨eu,F,false⟩))
 |0,i,acc,j,g=>by
  rw[sZ,cl,ee (by omega),cn];grind
 |k+1,i,acc,j,g=>by
  have aB:i<l.length:=by omega
  have c:=h _ (bk aB []) (i:Int);have e:l.drop i=l.getD i []::l.drop (i+1):=by rw[dv aB];exact lk aB
  rw[sZ,bu,ad (aQ aB),bd,e,vb,mN (by omega)];simp only[aT,ao];cases d:f (l.getD i [])with
  |none=>
   obtain⟨F,b⟩:=c.no (by omega) d;rw[b];exact⟨λm a=>(by cases a),λ_=>⟨F,by simp[I.aU]⟩⟩
  |some v=>
   obtain⟨F,b⟩:=c.yes (by omega) d;rw[b];simp only[ao,I.aU,dp];rw[bt,ad (cP),bD];obtain⟨r,o⟩:=Rt n af h (z0:=z0) (z1:=z1) (z2:=z2) (z3:=z3) (z4:=z4) (z5:=z5) (z6:=z6) (z7:=z7) (z8:=z8) (z9:=z9) (z10:=z10) (z11:=z11) k (i+1) (acc++[v]) (by omega) (by simp;omega);cases hs:cn f (l.drop (i+1))with
   |none=>exact⟨λm a=>(by cases a),λ_=>o hs⟩
   |some p=>
    refine⟨λm a=>?_,λh=>(by cases h)⟩;have:m=v::p:=(by cases a;rfl)
    grind
theorem Bx{i:Nat}(h:i<1000000:=by omega):gw .i64 2 (i:Int)=((2*i:Nat):Int):=by
 unfold gw;have e:(2:Int)*(i:Int)=((2*i:Nat):Int):=by omega
 rw[e];exact jC
theorem Rs(i:path.length<=900){f:aj->Option I}{l:List aj}(af:l.length<=90000)(h:∀q,q∈l->∀step,ly ts (f q) L path x.Key q step)
 {z0 z2 z4 z5 z7 z9 z11:Int}{z1 z6 z8:Bool}{z3 z10:aj}:∀(k j:Nat) (acc:List I),2*(j+k)=l.length->acc.length=j->
 (∀m,cn f (fc (l.drop (2*j)))=some m->sg (L,path,l,(j:Int),ts,x,z0,z1,z2,z3,z4,z5,z6,z7,z8,z9,z10,z11,acc)=some (.inr (L,path,l,ts,x,z0,z1,z2,z3,z4,z5,z6,z7,z8,z9,z10,z11,acc++m)))/\
 (cn f (fc (l.drop (2*j)))=none->∃F,sg (L,path,l,(j:Int),ts,x,z0,z1,z2,z3,z4,z5,z6,z7,z8,z9,z10,z11,acc)=some (.inl ⟨eu,F,false⟩))
 |0,j,acc,g,e=>by
  rw[sg,Bx,cl,ee (by omega),show fc ([]:List aj)=[]from rfl,cn];grind
 |k+1,j,acc,g,e=>by
  have aB:2*j<l.length:=by omega
  have c:=h _ (bk aB []) (j:Int);rw[sg,Bx,bu];simp only[aT,ao];rw[ad (aQ aB),bd,Kw (by omega) [],vb,mN (by omega)];simp only[ao];cases d:f (l.getD (2*j) [])with
  |none=>
   obtain⟨F,b⟩:=c.no (by omega) d;rw[b];exact⟨λm a=>(by cases a),λ_=>⟨F,by simp[I.aU]⟩⟩
  |some v=>
   obtain⟨F,b⟩:=c.yes (by omega) d;rw[b];simp only[ao,I.aU,dp];rw[bt,ad (cP),bD];obtain⟨p,n⟩:=Rs i af h (z0:=z0) (z1:=z1) (z2:=z2) (z3:=z3) (z4:=z4) (z5:=z5) (z6:=z6) (z7:=z7) (z8:=z8) (z9:=z9) (z10:=z10) (z11:=z11) k (j+1) (acc++[v]) (by omega) (by simp;omega);cases hs:cn f (fc (l.drop (2*(j+1))))with
   |none=>exact⟨λm a=>(by cases a),λ_=>n hs⟩
   |some o=>
    refine⟨λm a=>?_,λh=>(by cases h)⟩;have:m=v::o:=(by cases a;rfl)
    grind
theorem Oj(i:path.length<=900){f:aj->Option I}{l:List aj}(af:l.length<=90000)(h:∀q,q∈l->∀step,ly ts (f q) L path x.aG q step)
 {z0 z2 z4 z5 z7 z9 z11:Int}{z1 z6 z8:Bool}{z3 z10:aj}{ks:List I}:∀(k j:Nat) (acc:List I),2*(j+k)=l.length->acc.length=j->
 (∀m,cn f (fl (l.drop (2*j)))=some m->sh (L,path,l,(j:Int),ts,x,z0,z1,z2,z3,z4,z5,z6,z7,z8,z9,z10,z11,ks,acc)=some (.inr (z0,z1,z2,z3,z4,z5,z6,z7,z8,z9,z10,z11,ks,acc++m)))/\
 (cn f (fl (l.drop (2*j)))=none->∃F,sh (L,path,l,(j:Int),ts,x,z0,z1,z2,z3,z4,z5,z6,z7,z8,z9,z10,z11,ks,acc)=some (.inl ⟨eu,F,false⟩))
 |0,j,acc,g,e=>by
  rw[sh,Bx,cl,ee (by omega),show fl ([]:List aj)=[]from rfl,cn];grind
 |k+1,j,acc,g,e=>by
  have aB:2*j+1<l.length:=by omega
  have c:=h _ (bk aB []) (j:Int);have aK:aM .i64 ((2*j:Nat):Int) 1=((2*j+1:Nat):Int):=bD;rw[sh,Bx,bu,aK];simp only[aT,ao];rw[ad (aQ aB),bd,Lr aB [],vb,mN (by omega)];simp only[ao];cases d:f (l.getD (2*j+1) [])with
  |none=>
   obtain⟨F,b⟩:=c.no (by omega) d;rw[b];exact⟨λm a=>(by cases a),λ_=>⟨F,by simp[I.aU]⟩⟩
  |some v=>
   obtain⟨F,b⟩:=c.yes (by omega) d;rw[b];simp only[ao,I.aU,dp];rw[bt,ad (cP),bD];obtain⟨p,n⟩:=Oj i af h (z0:=z0) (z1:=z1) (z2:=z2) (z3:=z3) (z4:=z4) (z5:=z5) (z6:=z6) (z7:=z7) (z8:=z8) (z9:=z9) (z10:=z10) (z11:=z11) (ks:=ks) k (j+1) (acc++[v]) (by omega) (by simp;omega);cases hs:cn f (fl (l.drop (2*(j+1))))with
   |none=>exact⟨λm a=>(by cases a),λ_=>n hs⟩
   |some o=>
    refine⟨λm a=>?_,λh=>(by cases h)⟩;have:m=v::o:=(by cases a;rfl)
    grind
theorem Rk{x:ah}(c:path.length<=1000){l:List aj}(a:∀y,y∈ks->cw y.bc)(af:ks.length<=90000){L:Int}
 {z0 z2 z4 z5 z7 z9 z11:Int}{z1 z6 z8:Bool}{z3 z10:aj}:∀(k i:Nat),ks.length-(i+1)=k->
 ((∀m,i<=m->m+1<ks.length->gT (ks.getD m au) (ks.getD (m+1) au)<0)/\qq (L,path,l,((i+1:Nat):Int),ts,x,z0,z1,z2,z3,z4,z5,z6,z7,z8,z9,z10,z11,ks)=some (.inr (L,path,l,ts,x,z0,z1,z2,z3,z4,z5,z6,z7,z8,z9,z10,z11,ks)))\/
 ((∃m,m+1<ks.length/\¬gT (ks.getD m au) (ks.getD (m+1) au)<0)/\∃F,qq (L,path,l,((i+1:Nat):Int),ts,x,z0,z1,z2,z3,z4,z5,z6,z7,z8,z9,z10,z11,ks)=some (.inl ⟨eu,F,false⟩))
 |0,i,d=>by
  rw[qq,cl];grind
 |k+1,i,d=>by
  have aB:i+1<ks.length:=by omega
  have aK:df .i64 ((i+1:Nat):Int) 1=(i:Int):=by rw[hG];omega
  rw[qq,bu,aK];simp only[aT,ao];rw[ad (aQ (by omega)),bu,ad (aQ aB),bu,bd,bd];simp only[I.aU];rw[nl (a _ (bk (by omega) au)) (a _ (bk aB au))];simp only[ao];by_cases b:gT (ks.getD i au) (ks.getD (i+1) au)<0
  . rw[ak (by simpa using b),bD];rcases Rk c a af (x:=x) (l:=l) (L:=L) (z0:=z0) (z1:=z1) (z2:=z2) (z3:=z3) (z4:=z4) (z5:=z5) (z6:=z6) (z7:=z7) (z8:=z8) (z9:=z9) (z10:=z10) (z11:=z11) k (i+1) (by omega)with⟨h1,e⟩|h
    . grind
    grind
  . rw[ad (by simpa using b),zX c];grind
theorem acP{l:List cQ}(id:Int)(af:l.length<=90000):(∃j,j<l.length/\l.find? (λf=>decide (f.ae=id))=some (l.getD j gj)/\x0 (l,id)=some (j:Int))\/
 (l.find? (λf=>decide (f.ae=id))=none/\x0 (l,id)=some (-1)):=by
 have h:=qM (λi=>o0 (l,id,(i:Int))) l.length (λi=>decide ((l.getD i gj).ae=id)) (λi=>.inl (i:Int)) (.inr ())
  (λi a=>by
   rw[o0,bu,ad (aQ a),bD]
   grind)
  (by rw[o0,bt])
 have cX:o0 (l,id,((0:Nat):Int))=o0 (l,id,0):=rfl;simp only[cX]at h;rw[x0];rcases h with⟨j,h1,c,d,b⟩|⟨h1,b⟩
 . left;refine⟨j,h1,?_,by rw[b];rfl⟩;rw[dv h1]at c⊢;rw[BQ];refine⟨c,j,h1,rfl,λk g=>?_⟩;have:=d k g;rw[dv (by omega)]at this;simpa using this
 . right;refine⟨?_,by rw[b];rfl⟩;rw[yg];intro f e;obtain⟨i,a,rfl⟩:=eZ e;have:=h1 i a;rw[dv a]at this;simpa using this
theorem Rv {x:ah}{path:aq}(E:path.length<=900){f:Int->aj->Option I}{l:List cQ}(af:l.length<=90000)(z:x.ag.length<=16){L:Int}
 (h:∀m,m∈x.ag->∀q,q∈l->∀step,ly ts (f m.aw q.Data) L path m.aw q.Data step)
 {z0 z2 z4 z5 z7 z9 z11:Int}{z1 z6 z8:Bool}{z3 z10:aj}:∀(k i:Nat) (acc:List I),i+k=x.ag.length->acc.length=i->
 (∀m,cn (ei f l) (x.ag.drop i)=some m->mh (L,path,l,(i:Int),ts,x,z0,z1,z2,z3,z4,z5,z6,z7,z8,z9,z10,z11,acc)=some (.inr (path,l,x,z0,z1,z2,z3,z4,z5,z6,z7,z8,z9,z10,z11,acc++m)))/\
 (cn (ei f l) (x.ag.drop i)=none->∃F,mh (L,path,l,(i:Int),ts,x,z0,z1,z2,z3,z4,z5,z6,z7,z8,z9,z10,z11,acc)=some (.inl ⟨eu,F,false⟩))
 |0,i,acc,C,B=>by
  rw[mh,cl,ee (by omega),cn];grind
 |k+1,i,acc,C,B=>by
  have aB:i<x.ag.length:=by omega
  have D:=bk aB aE;have e:x.ag.drop i=x.ag.getD i aE::x.ag.drop (i+1):=by rw[dv aB];exact lk aB
  have go:∀v,(∀n,cn (ei f l) (x.ag.drop (i+1))=some n->mh (L,path,l,((i+1:Nat):Int),ts,x,z0,z1,z2,z3,z4,z5,z6,z7,z8,z9,z10,z11,acc++[v])=some (.inr (path,l,x,z0,z1,z2,z3,z4,z5,z6,z7,z8,z9,z10,z11,acc++[v]++n)))/\(cn (ei f l) (x.ag.drop (i+1))=none->∃F,mh (L,path,l,((i+1:Nat):Int),ts,x,z0,z1,z2,z3,z4,z5,z6,z7,z8,z9,z10,z11,acc++[v])=some (.inl ⟨eu,F,false⟩)):=λv=>
   Rv E af z h k (i+1) (acc++[v]) (by omega) (by simp;omega)
  rw [mh,bu,ad (aQ aB),bd,e,vb];simp only [aT,ao];generalize x.ag.getD i aE = a at *;have w:∀ (v:I) (d:Option _),ei f l a = some v->d = mh (L,path,l,((i+1:Nat):Int),ts,x,z0,z1,z2,z3,z4,z5,z6,z7,z8,z9,z10,z11,acc++[v])->
   (∀m,w1 (ei f l a) (cn (ei f l) (x.ag.drop (i+1)))=some m->d=some (.inr (path,l,x,z0,z1,z2,z3,z4,z5,z6,z7,z8,z9,z10,z11,acc++m)))/\
   (w1 (ei f l a) (cn (ei f l) (x.ag.drop (i+1)))=none->∃F,d=some (.inl ⟨eu,F,false⟩)):=by
   intro v d c A;obtain⟨G,y⟩:=go v;rw[c,A];cases hs:cn (ei f l) (x.ag.drop (i+1))with
   |none=>exact⟨λm b=>(by cases b),λ_=>y hs⟩
   |some n=>
    refine⟨λm b=>?_,λh=>(by cases h)⟩;have:m=v::n:=(by cases b;rfl)
    grind
  rcases acP a.ae af with⟨j,u,g,r⟩|⟨g,r⟩
  . rw[r];simp only[ao];rw[bt,ad (aQ u),bd,mN (by omega)];have s:=h a D _ (bk u gj) a.ae;have o:ei f l a=f a.aw (l.getD j gj).Data:=by unfold ei;rw[g]
    simp only[ao];cases c:f a.aw (l.getD j gj).Data with
    |none=>
     obtain⟨F,p⟩:=s.no (by omega) c;rw[p,o,c];exact⟨λm b=>(by cases b),λ_=>⟨F,by simp[I.aU]⟩⟩
    |some v=>
     obtain⟨F,p⟩:=s.yes (by omega) c;rw[p];simp only[ao,I.aU,dp];rw[bt,ad (cP),bD];grind
  . rw[r];simp only[ao];rw[hM];cases t:a.bZ with
    |true=>
     rw[bt];simp only[I.aU];rw[ad (cP),bD];exact w a.bw _ (by unfold ei;rw[g];simp[t]) rfl
    |false=>
     have o:ei f l a=none:=by unfold ei;rw[g];simp[t]
     rw[hM,mN (by omega),o];simp only[ao];rw[zX (by simp;omega)];simp only[ao,I.aU];exact⟨λm b=>(by cases b),λ_=>⟨_,rfl⟩⟩
theorem agH(f:x.ag.length<=1000)(id:Int):∃r,hA (x,id)=some r/\r.2=(cH x.ag id).isSome:=by
 obtain⟨r,e,c⟩:=BT (t:=x) (id:=id) (by omega);refine⟨r,e,?_⟩;cases bE:cH x.ag id with
 |some m=>
  obtain⟨d,k⟩:=kI bE;rcases c with⟨j,a,b,_,rfl⟩|⟨q,_⟩
  . rfl
  . obtain⟨i,g,rfl⟩:=eZ d;grind
 |none=>
  rcases c with⟨j,a,b,_,_⟩|⟨_,q⟩
  . exact absurd b (nz bE _ (bk a aE))
  grind
theorem FI {x:ah}{path:aq}(g:path.length<=900)(b:x.ag.length<=1000){l:List cQ}(af:l.length<=90000)
 {z0 z2 z4 z5 z7 z9 z11:Int}{z1 z6 z8:Bool}{z3 z10:aj}{its:List I}:∀(k i:Nat) (acc:List bY),i+k=l.length->acc.length<=i->
 ((l.drop i).all (fS x)=true->oW (path,l,(i:Int),x,z0,z1,z2,z3,z4,z5,z6,z7,z8,z9,z10,z11,its,acc)=some (.inr (z0,z1,z2,z3,z4,z5,z6,z7,z8,z9,z10,z11,its,acc++e7 x (l.drop i))))/\
 ((l.drop i).all (fS x)=false->∃F,oW (path,l,(i:Int),x,z0,z1,z2,z3,z4,z5,z6,z7,z8,z9,z10,z11,its,acc)=some (.inl ⟨eu,F,false⟩))
 |0,i,acc,o,m=>by
  rw[oW,cl,ee (by omega)];exact⟨λ_=>by simp[e7],λh=>by simp at h⟩
 |k+1,i,acc,o,m=>by
  have aB:i<l.length:=by omega
  have e:l.drop i=l.getD i gj::l.drop (i+1):=by rw[dv aB];exact lk aB
  obtain⟨r,p,j⟩:=agH b (l.getD i gj).ae;rw[oW,bu,ad (aQ aB),bd,e];simp only[aT,ao];generalize l.getD i gj=f at*;rw[p];simp only[ao];have n:(f::l.drop (i+1)).all (fS x)=(fS x f&&(l.drop (i+1)).all (fS x)):=rfl;rw[n];cases hs:(cH x.ag f.ae).isSome with
  |true=>
   have a:fS x f=true:=by unfold fS;rw[hs];rfl
   have c:e7 x (f::l.drop (i+1))=e7 x (l.drop (i+1)):=by unfold e7;rw[Fa (by rw[hs];simp)]
   rw[j,hs,ad rfl,a,c,bD,mJ];exact FI g b af k (i+1) acc (by omega) (by omega)
  |false=>
   rw[j,hs,bt,ad (aQ aB)];cases d:f.cp with
   |true=>
    have a:fS x f=false:=by unfold fS;rw[hs,d];rfl
    rw[ad rfl,ad (aQ aB),mN (by omega),a];simp only[ao];rw[zX (by simp;omega)];exact⟨λh=>(by cases h),λ_=>⟨_,rfl⟩⟩
   |false=>
    have a:fS x f=true:=by unfold fS;rw[hs,d];rfl
    have c:e7 x (f::l.drop (i+1))=⟨f.ae,f.Data⟩::e7 x (l.drop (i+1)):=by unfold e7;rw[Fb (by rw[hs];rfl)];rfl
    rw[bt,ad (aQ aB),ad (aQ aB),ad (cP),a,c,bD,mJ];have:=FI g b af (z0:=z0) (z1:=z1) (z2:=z2) (z3:=z3) (z4:=z4) (z5:=z5) (z6:=z6) (z7:=z7) (z8:=z8) (z9:=z9) (z10:=z10) (z11:=z11) (its:=its) k (i+1) (acc++[⟨f.ae,f.Data⟩]) (by omega) (by simp;omega);grind
def oz(ts:List ah)(n:Nat):Prop:=∀(t:Int) (p:aj) (path:aq),0<=t->t<ts.length->p.length<=4096->path.length+n<=200->
 fA (cZ ts n t p) (jH ((⟨ts⟩:aR),t,p,((201-n:Nat):Int),path))
theorem oz.part{n:Nat}(ih:oz ts n)(aD:n+1<=200)(t0:0<=t/\t<ts.length)(a:q.length<=4096)(c:path.length+(n+1)<=200)(step:Int):
 ly ts (cZ ts n t q) ((201-(n+1):Nat):Int) path t q step:=by
 unfold ly;rw[mN (by omega)];have e:aM .i64 ((201-(n+1):Nat):Int) 1=((201-n:Nat):Int):=by rw[bD];omega
 rw[e];exact ih t q (path++[step]) t0.1 t0.2 a (by simp;omega)
theorem fA.cast{c:Option I}{a:Option cS}(e:o=c)(h:fA o a):fA c a:=e▸h
theorem fA.rp{a:Option cS}(h:a=some ⟨eu,F,false⟩):fA none a:=⟨λv h=>(by cases h),λ_=>⟨F,h⟩⟩
theorem fA.wA{a:Option cS}(h:a=some ⟨v,F,true⟩):fA (some v) a:=⟨λe c=>(by cases c;exact⟨F,h⟩),λh=>(by cases h)⟩
theorem acQ(H:jo ts){n:Nat}(aD:n+1<=200)(ih:oz ts n)(l:x∈ts)(d:x.Kind=6)(L:p.length<=4096)(y:path.length+(n+1)<=200):
 fA (rJ (cZ ts n) x p) (Cc ((⟨ts⟩:aR),x,p,((201-(n+1):Nat):Int),path)):=by
 obtain⟨o,_,C,D,E⟩:=abg p;rw[Cc,C];simp only[aT,ao];unfold rJ;by_cases h0:o.2.2=0
 . obtain⟨v1,M,v3⟩:=D h0;obtain⟨w,J⟩:=H.S.A x l (.inr d);rw[ak (by simp[h0]),v1];dsimp only;obtain⟨r,G,u⟩:=BT (t:=x) (id:=o.1) (by omega);rw[G];simp only[ao];cases bE:cH x.ag o.1 with
   |some m=>
    dsimp only;obtain⟨e,s⟩:=kI bE;rcases u with⟨j,a,c,_,rfl⟩|⟨q,_⟩
    . have B:x.ag.getD j aE=m:=qR w (bk a aE) e (by rw[c,s]);rw[bt,bt,ad (aQ a),bd,B];have f:=ih.part aD (t:=m.aw) (q:=o.2.1) (path:=path) (H.mem l e) (by omega) y o.1;rw[mN (by omega)];simp only[ao];cases k:cZ ts n m.aw o.2.1 with
      |none=>
       obtain⟨F,b⟩:=f.no (by omega) k;rw[b];exact .rp rfl
      |some v=>
       obtain⟨F,b⟩:=f.yes (by omega) k;rw[b];simp only[ao];rw[bt,tW];refine fA.cast rfl (fA.wA (F:=⟨[],0⟩) ?_);simp[I.aU,d]
    . obtain⟨i,g,rfl⟩:=eZ e;exact absurd s (by have:=q i g;rwa [dv g]at this)
   |none=>
    dsimp only;have z:r=(0,false):=by
     rcases u with⟨j,a,c,_,_⟩|⟨_,q⟩
     . exact absurd c (nz bE _ (bk a aE))
     . exact q
    rw[z];cases K:x.Open with
    |false=>
     rw[bt,hM];exact jx (by omega) _
    |true=>
     rw[hM,bt,hM,tW,d];refine fA.wA (F:=⟨[],0⟩) ?_;simp[I.aU]
 . rw[ad (by simp[h0]),E h0];exact jx (by omega) _
theorem acR(H:jo ts){n:Nat}(aD:n+1<=200)(ih:oz ts n)(g:x∈ts)(fi:x.Kind=7)(s:p.length<=4096)(c:path.length+(n+1)<=200):
 fA (ou (cZ ts n) x p) (Ch ((⟨ts⟩:aR),x,p,((201-(n+1):Nat):Int),path)):=by
 obtain⟨o,_,j,k,m⟩:=Kt (p:=p) (by omega);rw[Ch,j];unfold ou;simp only[aT,ao];by_cases h0:o.2=0
 . obtain⟨v1,r,v3⟩:=k h0;rw[v1];dsimp only;by_cases b:(o.1.length:Int)<=x.Max
   . rw[ad b,ak (by simp[h0]),cl];obtain⟨gB,a⟩:=Rt (ts:=ts) (x:=x) (path:=path) (by omega) (f:=cZ ts n x.aG) (l:=o.1) (by omega) (L:=((201-(n+1):Nat):Int)) (λq d step=>ih.part aD (H.elem g (by omega)) (by have:=r q d;omega) c step)
      (z0:=0) (z1:=false) (z2:=0) (z3:=[]) (z4:=0) (z5:=0) (z6:=false) (z7:=x.Kind) (z8:=false) (z9:=0) (z10:=[]) (z11:=0) o.1.length 0 [] (by omega) rfl
     rw[fE]at gB a;have z0:((0:Nat):Int)=0:=rfl;rw[z0]at gB a;cases hs:cn (cZ ts n x.aG) o.1 with
     |none=>
      obtain⟨F,e⟩:=a hs;rw[e];exact .rp rfl
     |some i=>
      rw[gB i hs];simp only[ao];rw[tW];refine fA.cast rfl (fA.wA (F:=⟨[],0⟩) ?_);simp[I.aU,fi]
   . rw[ak b,ak (by simp[h0]),bu];exact jx (by omega) _
 . rw[ad (by simp[h0]),m h0];exact jx (by omega) _
theorem agC(H:jo ts){n:Nat}(aD:n+1<=200)(ih:oz ts n)(u:x∈ts)(v:x.Kind=8)(P:p.length<=4096)(s:path.length+(n+1)<=200):
 fA (rK (cZ ts n) x p) (Cr ((⟨ts⟩:aR),x,p,((201-(n+1):Nat):Int),path)):=by
 obtain⟨o,_,J,K,M⟩:=Kt (p:=p) (by omega);rw[Cr,J];unfold rK;simp only[aT,ao];by_cases h0:o.2=0
 . obtain⟨v1,w,v3⟩:=K h0;rw[v1];dsimp only;have B:b' (o.1.length:Int) 2=((o.1.length%2:Nat):Int):=by rw[hc];omega
   rw[B,Rj (by omega)];by_cases he:o.1.length%2=0
   . by_cases r:((o.1.length/2:Nat):Int)<=x.Max
     . rw[ad (show o.1.length%2=0/\((o.1.length/2:Nat):Int)<=x.Max from⟨he,r⟩),ak (show ¬(bif !decide (o.2=0)then true else decide (((o.1.length%2:Nat):Int)=1))=true by rw[he,h0];simp),ak (show ¬decide (x.Max<((o.1.length/2:Nat):Int))=true by simp only[dn];omega)];have z0:((0:Nat):Int)=0:=rfl;obtain⟨gB,g⟩:=Rs (ts:=ts) (x:=x) (path:=path) (by omega) (f:=cZ ts n x.Key) (l:=o.1) (by omega) (L:=((201-(n+1):Nat):Int)) (λq d step=>ih.part aD (H.key u v) (by have:=w q d;omega) s step)
        (z0:=0) (z1:=false) (z2:=0) (z3:=[]) (z4:=0) (z5:=0) (z6:=false) (z7:=x.Kind) (z8:=false) (z9:=0) (z10:=[]) (z11:=0) (o.1.length/2) 0 [] (by omega) rfl
       rw[Nat.mul_zero,fE,z0]at gB g;cases hs:cn (cZ ts n x.Key) (fc o.1)with
       |none=>
        obtain⟨F,e⟩:=g hs;rw[e];exact .rp rfl
       |some ks=>
        have O:=tH hs;have N:=Hw o.1;rw[gB ks hs];simp only[ao,fR];have A:∀y,y∈ks->cw y.bc:=λy C=>by
         obtain⟨a,_,a2⟩:=v7 hs y C;exact LN a2
        have one:((0+1:Nat):Int)=1:=rfl;rcases Rk (ts:=ts) (x:=x) (path:=path) (by omega) (l:=o.1) (ks:=ks) A (by omega) (L:=((201-(n+1):Nat):Int))
         (z0:=0) (z1:=false) (z2:=0) (z3:=[]) (z4:=0) (z5:=0) (z6:=false) (z7:=x.Kind) (z8:=false) (z9:=0) (z10:=[]) (z11:=0) (ks.length-(0+1)) 0 rfl with⟨h1,b⟩|⟨⟨m,E,G⟩,F,b⟩
        . have c:oG ks=true:=vY.2 λi z=>h1 i (by omega) z;rw[one]at b;rw[b,ad c];simp only[ao];obtain⟨j,k⟩:=Oj (ts:=ts) (x:=x) (path:=path) (by omega) (f:=cZ ts n x.aG) (l:=o.1) (by omega) (L:=((201-(n+1):Nat):Int)) (λq d step=>ih.part aD (H.elem u (by omega)) (by have:=w q d;omega) s step)
           (z0:=0) (z1:=false) (z2:=0) (z3:=[]) (z4:=0) (z5:=0) (z6:=false) (z7:=x.Kind) (z8:=false) (z9:=0) (z10:=[]) (z11:=0) (ks:=ks) (o.1.length/2) 0 [] (by omega) rfl
          rw[Nat.mul_zero,fE,z0]at j k;cases t:cn (cZ ts n x.aG) (fl o.1)with
          |none=>
           obtain⟨F,e⟩:=k t;rw[e];exact .rp rfl
          |some D=>
           rw[j D t];simp only[ao];rw[tW];refine fA.cast rfl (fA.wA (F:=⟨[],0⟩) ?_);simp[I.aU,v]
        . have c:¬oG ks=true:=λh=>G (vY.1 h m E);rw[one]at b;rw[b,ak c];exact .rp rfl
     . rw[ak (show ¬(o.1.length%2=0/\((o.1.length/2:Nat):Int)<=x.Max)fromλh=>r h.2),ak (show ¬(bif !decide (o.2=0)then true else decide (((o.1.length%2:Nat):Int)=1))=true by rw[he,h0];simp),ad (show decide (x.Max<((o.1.length/2:Nat):Int))=true by simp only[dn];omega)];exact jx (by omega) _
   . have h1:o.1.length%2=1:=(by omega);rw[ak (show ¬(o.1.length%2=0/\((o.1.length/2:Nat):Int)<=x.Max)fromλh=>he h.1),ad (show(bif !decide (o.2=0)then true else decide (((o.1.length%2:Nat):Int)=1))=true by rw[h1,h0];simp)];exact jx (by omega) _
 . rw[M h0,ad (by simp[h0])];exact jx (by omega) _
theorem adn(H:jo ts){n:Nat}(aD:n+1<=200)(ih:oz ts n)(e:x∈ts)(g:x.Kind=5)(y:p.length<=4096)(j:path.length+(n+1)<=200):
 fA (ot (cZ ts n) x p) (B8 ((⟨ts⟩:aR),x,p,((201-(n+1):Nat):Int),path)):=by
 obtain⟨v,w⟩:=H.S.A x e (.inl g);obtain⟨o,_,r,s,t⟩:=X6 (p:=p) (by omega);rw[B8,r];unfold ot;simp only[aT,ao];by_cases h0:o.2=0
 . obtain⟨v1,u,v3,v4⟩:=s h0;rw[ak (by simp[h0]),v1];dsimp only;obtain⟨gB,c⟩:=Rv (ts:=ts) (x:=x) (path:=path) (by omega) (f:=cZ ts n) (l:=o.1) (by omega) (by omega) (L:=((201-(n+1):Nat):Int)) (λm i q k step=>ih.part aD (H.mem e i) (by have:=(u q k).1;omega) j step)
    (z0:=0) (z1:=false) (z2:=0) (z3:=[]) (z4:=0) (z5:=0) (z6:=false) (z7:=x.Kind) (z8:=false) (z9:=0) (z10:=[]) (z11:=0) x.ag.length 0 [] (by omega) rfl
   have z0:((0:Nat):Int)=0:=rfl;rw[fE,z0]at gB c;have B:=λits=>FI (x:=x) (path:=path) (by omega) (by omega) (l:=o.1) (by omega) (z0:=0) (z1:=false) (z2:=0) (z3:=[]) (z4:=0) (z5:=0) (z6:=false) (z7:=x.Kind) (z8:=false) (z9:=0) (z10:=[]) (z11:=0) (its:=its) o.1.length 0 [] (by omega) (ef _);rw[fE,z0]at B;cases hs:cn (ei (cZ ts n) o.1) x.ag with
   |none=>
    obtain⟨F,a⟩:=c hs;rw[a];exact .rp rfl
   |some b=>
    rw[gB b hs];simp only[ao,fR];cases d:o.1.all (fS x)with
    |true=>
     rw[(B b).1 d,ad rfl];simp only[ao];rw[tW];refine fA.cast rfl (fA.wA (F:=⟨[],0⟩) ?_);simp[I.aU,g]
    |false=>
     obtain⟨F,a⟩:=(B b).2 d;rw[a,bt];exact .rp rfl
 . rw[ad (by simp[h0]),t h0];exact jx (by omega) _
theorem aaw(H:jo ts){n:Nat}(aD:n+1<=200)(ih:oz ts n):oz ts (n+1):=λt p path t0 t1 f g=>by
 obtain⟨j,rfl⟩:=BF t0;have z:j<ts.length:=by omega
 have a:¬(200:Int)<((201-(n+1):Nat):Int):=by omega
 rw[jH,ad (aQ z),vc,bd];have d:=bk z aN;generalize ts.getD j aN=x at*;obtain⟨ab,af⟩:=H.S.K x d;have P:x.bg.length<9223372036854775807:=dz (il (H.S.T x d).1);unfold rL;obtain⟨u,_,aa,G,J⟩:=YL p;have A:xR p=some (u.1,decide (u.2=0)):=by rw[xR,aa];rfl
 by_cases R:x.Kind=1
 . simp only[R,a,dn,↓reduceIte,Int.reduceEq,de,dX,bV,aT,ao];unfold As;by_cases h0:p=[]
   . rw[ad h0,ak (by simp[h0])];simp only[h0,dq,dp];exact .one _
   . by_cases h1:p=[1]
     . rw[ak h0,ad h1,ak (by simp[h1])];simp only[h0,de,eN];exact .one _
     . rw[ak h0,ak h1,ad (by simp[h0,h1])];exact jx (by omega) _
 by_cases U:x.Kind=2
 . simp only[U,a,dn,↓reduceIte,Int.reduceEq,de,dX,bV,aT,ao,A];unfold Au;by_cases h0:u.2=0
   . obtain⟨m,i,r⟩:=G h0;rw[i,r,acN (D7 i),ak (by simp[h0])];simp only[ao];by_cases b:x.bA<=jk m/\jk m<=x.bC
     . rw[ad b,cl];exact .one _
     . rw[ak b,bu];exact jx (by omega) _
   . rw[J h0,ad (by simp[h0])];exact jx (by omega) _
 by_cases V:x.Kind=3
 . simp only[V,a,dn,↓reduceIte,Int.reduceEq,de,dX,bV,aT,ao];unfold Av;by_cases b:(p.length:Int)<=x.Max
   . rw[ad b,bq];exact .one _
   . rw[ak b,fu];exact jx (by omega) _
 by_cases W:x.Kind=4
 . simp only[W,a,dn,↓reduceIte,Int.reduceEq,de,dX,bV,aT,ao,A];unfold Aw;by_cases h0:u.2=0
   . obtain⟨m,i,r⟩:=G h0;rw[i,r];dsimp only;by_cases b:1<=m/\m<=1000
     . obtain⟨q,_,Y,Z⟩:=qF (t:=x) (m:Int) P;have e:bW .i64 (m:Int)=(m:Int):=jC;rw[ak (show ¬(bif bif !decide (u.2=0)then true else decide ((m:Int)<1)then true else decide (1000<(m:Int)))=true by simp[h0];omega),e,Y];simp only[ao];have O:q.2=(x.bg.any λy=>decide (y.ae=(m:Int))):=by
        have:=(Cw Z).trans HV;grind
       rw[O];by_cases s:((x.bg.any λy=>decide (y.ae=(m:Int)))||x.Open)=true
       . rw[ad (show 1<=m/\m<=1000/\((x.bg.any λy=>decide (y.ae=(m:Int)))||x.Open)=true from⟨b.1,b.2,s⟩),ak]
         . exact .one _
         grind
       . rw[ak (show ¬(1<=m/\m<=1000/\((x.bg.any λy=>decide (y.ae=(m:Int)))||x.Open)=true)fromλh=>s h.2.2),ad]
         . exact jx (by omega) _
         grind
     . rw[ak (show ¬(1<=m/\m<=1000/\((x.bg.any λy=>decide (y.ae=(m:Int)))||x.Open)=true)fromλh=>b ⟨h.1,h.2.1⟩),ad (by simp[h0];omega)];exact jx (by omega) _
   . rw[J h0,ad (by simp[h0])];exact jx (by omega) _
 by_cases X:x.Kind=9
 . obtain⟨aK,M⟩:=H.elem d (by omega);simp only[X,a,dn,↓reduceIte,Int.reduceEq,de,dq,dX,eo,bV,aT,ao];cases p with
   |nil=>
    rw[bt,mP];exact .one _
   |cons c q=>
    have Q:aH 0 (c::q).length=true:=aQ (k:=0) (by simp);have b0:fq (c::q) 0=(c.toNat:Int):=rfl;have rD:dS 1 ((c::q).length:Int) (c::q).length=true:=iK.2 (by simp<;>omega);have L:d' (c::q) 1 ((c::q).length:Int)=q:=by
     unfold d';simp
    rw[hM,ad Q,b0,mP];by_cases l:c=1
    . subst l;rw[ad rfl,bt,ad rD,L];have w:=ih.part aD (t:=x.aG) (q:=q) (path:=path) ⟨aK,M⟩ (by simp at f;omega) g 0;rw[mN (by omega)];simp only[ao];cases B:cZ ts n x.aG q with
      |none=>
       obtain⟨F,o⟩:=w.no (by omega) B;rw[o];exact .rp rfl
      |some v=>
       obtain⟨F,o⟩:=w.yes (by omega) B;rw[o];simp only[ao];rw[bt,tW];refine fA.cast rfl (fA.wA (F:=⟨[],0⟩) ?_);simp[I.aU]
    . have N:¬((c.toNat:Int)=1):=λh=>l (UInt8.toNat.inj (by show c.toNat=1;omega));rw[ak l,ad (by simpa using N)];exact jx (by omega) _
 by_cases D:x.Kind=6
 . have:=(acQ H aD ih d D f (path:=path) g).eta;simp only[D,a,dn,↓reduceIte,Int.reduceEq,de,dX,bV,aT,ao];exact this
 by_cases fi:x.Kind=7
 . have:=(acR H aD ih d fi f (path:=path) g).eta;simp only[fi,a,dn,↓reduceIte,Int.reduceEq,de,dX,bV,aT,ao];exact this
 by_cases E:x.Kind=8
 . have:=(agC H aD ih d E f (path:=path) g).eta;simp only[E,a,dn,↓reduceIte,Int.reduceEq,de,dX,bV,aT,ao];exact this
 have C:x.Kind=5:=by omega
 have:=(adn H aD ih d C f (path:=path) g).eta;simp only[C,a,dn,↓reduceIte,Int.reduceEq,de,dX,bV,aT,ao];exact this
theorem LP(H:jo ts):∀n,n<=200->oz ts n
 |0,_=>λt p path t0 t1 b c=>by
  obtain⟨j,rfl⟩:=BF t0;have a:j<ts.length:=by omega
  rw[jH,ad (aQ a)];simp only[aT,ao];rw[hM,DL];exact jx (by omega) _
 |n+1,aD=>aaw H aD (LP H n (by omega))
end
theorem Ol(s:aj):∀(f i n m k:Nat),hr s f i n=((m:Int),(k:Int),0)->∃q,m=n+q*2^(7*i)/\s.drop i=eE q++s.drop k/\(0<i->0<q)
 |0,i,n,m,k,h=>by rw[hr]at h;simp at h
 |f+1,i,n,m,k,h=>by
  rw[hr]at h;split at h
  . rename_i b;have a:s.drop i=s.getD i 0::s.drop (i+1):=by rw[dv b];exact lk b
    have o:(s.getD i 0).toNat<256:=UInt8.toNat_lt _;generalize s.getD i 0=c at*;split at h
    . simp at h
    . split at h
      . rename_i d;obtain⟨q,t,j,l⟩:=Ol s f (i+1) _ m k h;have r:=l (by omega);refine⟨c.toNat%128+128*q,?_,?_,λ_=>by omega⟩
        . grind
        . rw[vi (by omega),show(c.toNat%128+128*q)/128=q by omega,show(c.toNat%128+128*q)%128+128=c.toNat by omega,a,j];simp
      . rename_i d;split at h
        . simp at h
        . rename_i h0;simp only[bB,pZ]at h;have g:m=n+c.toNat*2^(7*i):=by have:=h.1;exact_mod_cast this.symm
          have e:k=i+1:=by have:=h.2;exact_mod_cast this.symm
          refine⟨c.toNat,g,?_,λp=>?_⟩
          . rw[u7 (by omega),a,e];simp
          omega
  . simp at h
theorem HW{s:aj}{m k:Nat}(h:hr s 10 0 0=((m:Int),(k:Int),0)):s=eE m++s.drop k:=by
 obtain⟨q,a,b,_⟩:=Ol s 10 0 0 m k h;grind
theorem KI{s a b:aj}(h:iB s=some (a,b)):s=dB a++b:=by
 unfold iB at h;rcases lv s with⟨e,he,c⟩|⟨m,k,c,j,i,l⟩
 . grind
 . have cX:=HW c;rw[c]at h;dsimp only at h;split at h
   . rename_i g;simp only[bF,bB]at h;obtain⟨h1,d⟩:=h;have f:a.length=m:=by
      rw[<-h1,oh,lW];omega
     unfold dB;rw[f,hp,<-h1,<-d,yd];simpa using cX
   . cases h
theorem KJ:∀(n:Nat) (s:aj) (b l:List aj),s.length<=n->s.length+b.length<=100000->hC (s,b)=some (.inr l)->∃c,l=b++c/\c.flatMap dB=s
 |n,s,b,l,aD,i,h=>by
  rw[hC]at h;by_cases h0:s=[]
  . simp_all
  . rw[ad (by simp[h0]),lP]at h;simp only[aT,ao]at h;cases a:iB s with
    |none=>
     rw[a]at h;simp[dP]at h
    |some r=>
     obtain⟨x,d⟩:=r;rw[a]at h;have af:=nB a;have f:¬((!(dP (some (x,d))).2.2)=true):=(by simp[dP]);have g:room 16 (b++[(dP (some (x,d))).1]).length=true:=cP;rw[ak f,ad g]at h
     match n,aD with
     |0,aD=>omega
     |n+1,aD=>
      obtain⟨c,aK,e⟩:=KJ n d _ l (by omega) (by simp;omega) h;refine⟨x::c,by rw[aK];simp[dP],?_⟩;rw[e6,e];exact(KI a).symm
theorem KK:∀(n:Nat) (s:aj) (b:List aj),s.length<=n->s.length+b.length<=100000->hC (s,b)=some (.inl 0)->False
 |n,s,b,aD,f,h=>by
  rw[hC]at h;by_cases h0:s=[]
  . grind
  . rw[ad (by simp[h0]),lP]at h;simp only[aT,ao]at h;cases a:iB s with
    |none=>
     rw[a]at h;simp[dP]at h
    |some r=>
     obtain⟨x,c⟩:=r;rw[a]at h;have af:=nB a;have d:¬((!(dP (some (x,c))).2.2)=true):=(by simp[dP]);have e:room 16 (b++[(dP (some (x,c))).1]).length=true:=cP;rw[ak d,ad e]at h
     match n,aD with
     |0,aD=>omega
     |n+1,aD=>exact KK n c _ (by omega) (by simp;omega) h
theorem Kx:∀(n:Nat) (s:aj) (last:Nat) (b:List cQ),s.length<=n->s.length+b.length<=100000->fX ((last:Int),s,b)=some (.inl 0)->False
 |n,s,last,b,aD,i,h=>by
  rw[fX]at h;by_cases h0:s=[]
  . grind
  . rw[ad (by simp[h0])]at h;rcases lv s with⟨e,he,al⟩|⟨m,k,al,j,d,f⟩
    . rw[nF he al]at h;simp at h
    . rw[lO al d]at h;simp only[aT,ao,tT f]at h;split at h
      . cases h
      . rw[lP (by rw[lW];omega)]at h;simp only[ao]at h;cases a:iB (s.drop k)with
        |none=>
         rw[a]at h;simp[dP]at h
        |some r=>
         obtain⟨x,c⟩:=r;rw[a]at h;have af:=nB a;rw[lW]at af;have g:¬((!(dP (some (x,c))).2.2)=true):=(by simp[dP]);rw[ak g]at h;split at h
         . match n,aD with
           |0,aD=>omega
           |n+1,aD=>exact Kx n c (m/2) _ (by omega) (by simp;omega) h
         . cases h
theorem Om(c:p.length<=90000){l:List aj}(h:iN p=some l):l.flatMap dB=p:=by
 unfold iN at h;rw[k6]at h;cases a:hC (p,[])with
 |none=>rw[a]at h;simp at h
 |some o=>
  rw[a]at h;cases o with
  |inl e=>
   by_cases he:e=0
   . simp[he]at h;exfalso;obtain⟨f,a1,_⟩:=Iq p.length p [] (by omega) (by simp;omega);exact KK p.length p [] (by omega) (by simp;omega) (by rw[a,he])
   grind
  |inr l2=>
   have e:l2=l:=(by simpa using h);obtain⟨d,aK,b⟩:=KJ p.length p [] l2 (by omega) (by simp;omega) a;grind
def uF(f:cQ):aj:=fD f.ae.toNat f.cp f.Data
theorem Ky:∀(n:Nat) (s:aj) (last:Nat) (b l:List cQ),s.length<=n->s.length+b.length<=100000->fX ((last:Int),s,b)=some (.inr l)->
 ∃c,l=b++c/\c.flatMap uF=s
 |n,s,last,b,l,aD,t,h=>by
  rw[fX]at h;by_cases h0:s=[]
  . simp_all
  . rw[ad (by simp[h0])]at h;rcases lv s with⟨e,he,al⟩|⟨m,k,al,v,g,i⟩
    . rw[nF he al]at h;simp at h
    . have es:=HW al;rw[lO al g]at h;simp only[aT,ao,tT i]at h;by_cases u:((m/2:Nat):Int)<=(last:Int)\/1000<((m/2:Nat):Int)
      . grind
      . have:¬((bif bif (!true)then true else decide (((m/2:Nat):Int)<=(last:Int))then true else decide (1000<((m/2:Nat):Int)))=true):=(by grind);rw[ak this,lP (by rw[lW];omega)]at h;simp only[ao]at h;cases a:iB (s.drop k)with
        |none=>
         rw[a]at h;simp[dP]at h
        |some r=>
         obtain⟨x,d⟩:=r;rw[a]at h;have af:=nB a;have q:=KI a;rw[lW]at af;have j:¬((!(dP (some (x,d))).2.2)=true):=(by simp[dP]);have p:bW .i64 ((m/2:Nat):Int)=((m/2:Nat):Int):=jC;rw[ak j,p]at h;have o:room 32 (b++[(⟨((m/2:Nat):Int),decide (b' (m:Int) 2=1),(dP (some (x,d))).1⟩:cQ)]).length=true:=cP;rw[ad o]at h
         match n,aD with
         |0,aD=>omega
         |n+1,aD=>
          obtain⟨c,aK,f⟩:=Ky n d (m/2) _ l (by omega) (by simp;omega) h;refine⟨⟨((m/2:Nat):Int),decide (b' (m:Int) 2=1),x⟩::c,by rw[aK];simp[dP],?_⟩;rw[e6,f];unfold uF fD;have w:2*(((m/2:Nat):Int)).toNat+(if (b' (m:Int) 2=1:Bool) then 1 else 0)=m:=by
           rw[hc];grind
          grind
theorem ado(c:p.length<=90000){l:List cQ}(h:jl p=some l):l.flatMap uF=p:=by
 unfold jl at h;rw[lG]at h;have cX:fX (0,p,[])=fX (((0:Nat):Int),p,[]):=rfl;rw[cX]at h;cases a:fX (((0:Nat):Int),p,[])with
 |none=>rw[a]at h;simp at h
 |some o=>
  rw[a]at h;cases o with
  |inl e=>
   by_cases he:e=0
   . exfalso;exact Kx p.length p 0 [] (by omega) (by simp;omega) (by rw[a,he])
   grind
  |inr l2=>
   have e:l2=l:=(by simpa using h);obtain⟨d,aK,b⟩:=Ky p.length p 0 [] l2 (by omega) (by simp;omega) a;grind
theorem adG(h:jV p=some (id,q)):p=eE id.toNat++q:=by
 unfold jV at h;rw[lL]at h;rcases lv p with⟨e,he,al⟩|⟨m,k,al,d,a,f⟩
 . rw[nF he al]at h;simp at h
 . have es:=HW al;rw[lO al a]at h;simp only[aT,ao]at h;by_cases c:(m:Int)<1\/1000<(m:Int)
   . grind
   . have:¬((bif bif (!true)then true else decide ((m:Int)<1)then true else decide (1000<(m:Int)))=true):=(by grind);have b:bW .i64 (m:Int)=(m:Int):=jC;rw[ak this,b]at h;simp only[bS,bF,bB]at h;rw[<-h.1,<-h.2];simpa using es
theorem LQ{d:Type}{f:α->Option d}(d1:α)(d2:d):∀{l:List α} {m:List d},cn f l=some m->∀i,i<l.length->f (l.getD i d1)=some (m.getD i d2)
 |[],m,h,i,c=>by simp at c
 |a::l,m,h,i,c=>by
  rw[cn]at h;split at h
  . rename_i b g h1 e;cases h;cases i with
    |zero=>exact h1
    |succ i=>exact LQ d1 d2 e i (by simpa using c)
  . cases h
theorem On:∀{l:List α},l.length%2=0->(fc l).length=l.length/2/\(fl l).length=l.length/2
 |[],_=>⟨by simp[fc],by simp[fl]⟩
 |[a],h=>by simp at h
 |a::b::l,h=>by
  obtain⟨h1,c⟩:=On (l:=l) (by simp at h;omega);show(fc l).length+1=(l.length+1+1)/2/\(fl l).length+1=(l.length+1+1)/2;omega
theorem Iy:∀{l:List α} {y:α},y∈fl l->y∈l
 |[],y,h=>by cases h
 |[_],y,h=>by cases h
 |a::b::l,y,h=>by
  rcases fe.1 h with rfl|h
  . grind
  . exact .tail _ (.tail _ (Iy h))
def mQ(l:List aj):Nat:=(l.map λq=>q.length+1).sum
theorem vH(q:aj)(l:List aj):mQ (q::l)=q.length+1+mQ l:=by unfold mQ;simp
theorem HX:∀(l:List aj),mQ l<=(l.flatMap dB).length
 |[]=>by simp[mQ]
 |q::l=>by
  have:=HX l;have:=qQ q.length;have e:(dB q).length=(eE q.length).length+q.length:=by unfold dB;rw[c2]
  rw[vH,e6,c2];omega
theorem LR:∀(l:List aj),mQ (fc l)+mQ (fl l)<=mQ l
 |[]=>by simp[fc,fl,mQ]
 |[a]=>by simp[fc,fl,mQ]
 |a::b::l=>by
  have:=LR l;rw[fc,fl,vH,vH,vH,vH];omega
theorem D9{C:Nat}{f:aj->Option I}:∀{l:List aj} {m:List I},cn f l=some m->(∀q,q∈l->∀v,f q=some v->wt v<=C*(q.length+1))->cI m<=C*mQ l
 |[],m,h,_=>by rw[cn]at h;cases h;rw[gD];exact h' _
 |q::l,m,h,k=>by
  rw[cn]at h;split at h
  . rename_i b g h1 d;cases h;have a:=k q (.head _) b h1;have c:=D9 d (λq e=>k q (.tail _ e));rw[hb,vH,Nat.mul_add];omega
  . cases h
def uE(l:List cQ):Nat:=(l.map λf=>f.Data.length+1).sum
theorem Mw(f:cQ)(l:List cQ):uE (f::l)=f.Data.length+1+uE l:=by unfold uE;simp
theorem Mx:∀(l:List cQ),uE l<=(l.flatMap uF).length
 |[]=>by simp[uE]
 |f::l=>by
  have:=Mx l;have:=qQ f.Data.length;have e:(uF f).length=(eE (2*f.ae.toNat+(if f.cp then 1 else 0))).length+((eE f.Data.length).length+f.Data.length):=by unfold uF fD dB;rw[c2,c2]
  rw[Mw,e6,c2];omega
def di(C d:Nat)(l:List cQ)(m:aS):Nat:=match l.find? (λf=>decide (f.ae=m.ae))with
 |some f=>C*(f.Data.length+1)
 |none=>d
def aF(C d:Nat)(l:List cQ)(ms:List aS):Nat:=(ms.map (di C d l)).sum
def oo(id:Int)(A:Nat)(ms:List aS):Nat:=(ms.map λm=>if m.ae=id then A else 0).sum
theorem Iz{A:Nat}:∀{ms:List aS},(∀m,m∈ms->m.ae≠id)->oo id A ms=0
 |[],_=>rfl
 |m::ms,h=>by
  have:=Iz (A:=A) (λm a=>h m (.tail _ a));unfold oo at this⊢;grind
theorem Oo{id:Int}{A:Nat}:∀{ms:List aS},ms.Pairwise (λa b=>a.ae<b.ae)->oo id A ms<=A
 |[],_=>h' _
 |m::ms,h=>by
  rw[jf]at h;by_cases e:m.ae=id
  . have:oo id A ms=0:=Iz λx c=>by have:=h.1 x c;omega
    unfold oo at this⊢;grind
  . have:=Oo (id:=id) (A:=A) h.2;unfold oo at this⊢;grind
theorem adp(C d:Nat)(f:cQ)(l:List cQ)(m:aS):di C d (f::l) m<=(if m.ae=f.ae then C*(f.Data.length+1)else 0)+di C d l m:=by
 unfold di;grind
theorem My(C d:Nat)(f:cQ)(l:List cQ):∀(ms:List aS),aF C d (f::l) ms<=oo f.ae (C*(f.Data.length+1)) ms+aF C d l ms
 |[]=>by simp[aF,oo]
 |m::ms=>by
  have a:=My C d f l ms;have b:=adp C d f l m;unfold aF oo at*;grind
theorem Oq(C d:Nat):∀(ms:List aS),aF C d [] ms=d*ms.length
 |[]=>by simp[aF]
 |m::ms=>by
  have:=Oq C d ms;unfold aF at*;simp only[gz,oj,iw];rw[this,Nat.mul_succ];have:di C d [] m=d:=rfl;omega
theorem Ot{C d:Nat}(cL:1<=C)(c:gJ x.ag):∀(l:List cQ),aF C d l x.ag+((e7 x l).map λr=>r.Data.length+1).sum<=d*x.ag.length+C*uE l
 |[]=>by rw[Oq];simp[e7]
 |f::l=>by
  have ih:=Ot (d:=d) cL c l;have a:=My C d f l x.ag;rw[Mw,Nat.mul_add];cases bE:cH x.ag f.ae with
  |some m=>
   have b:e7 x (f::l)=e7 x l:=by unfold e7;rw[Fa (by rw[bE];simp)]
   rw[b];have:=Oo (id:=f.ae) (A:=C*(f.Data.length+1)) c.1;omega
  |none=>
   have b:e7 x (f::l)=⟨f.ae,f.Data⟩::e7 x l:=by unfold e7;rw[Fb (by rw[bE];rfl)];rfl
   have:oo f.ae (C*(f.Data.length+1)) x.ag=0:=Iz (nz bE);rw[b,gz,oj];have:f.Data.length+1<=C*(f.Data.length+1):=Nat.le_mul_of_pos_left _ cL;grind
theorem Mz{C d:Nat}{f:Int->aj->Option I}{l:List cQ}(i:∀(m:aS),m.bZ=true->True):∀{ms:List aS} {a:List I},(∀m,m∈ms->(m.bZ=true->wt m.bw<=d)/\∀g,g∈l->∀v,f m.aw g.Data=some v->wt v<=C*(g.Data.length+1))->cn (ei f l) ms=some a->cI a<=aF C d l ms
 |[],a,_,h=>by rw[cn]at h;cases h;rw[gD];exact h' _
 |m::ms,a,k,h=>by
  rw[cn]at h;split at h
  . rename_i b o h1 e;cases h;have ih:=Mz (C:=C) (d:=d) i (λm j=>k m (.tail _ j)) e;have n:wt b<=di C d l m:=by
     unfold ei at h1;unfold di;cases c:l.find? (λf=>decide (f.ae=m.ae))with
     |some g=>
      rw[c]at h1;exact(k m (.head _)).2 g (E9 c) b h1
     |none=>grind
    unfold aF at*;rw[hb,gz,oj];omega
  . cases h
theorem KL{l:List cQ}{r:bY}(h:r∈e7 x l):∃f,f∈l/\cH x.ag f.ae=none/\r=⟨f.ae,f.Data⟩:=by
 unfold e7 at h;obtain⟨f,a,rfl⟩:=eO.1 h;obtain⟨h1,b⟩:=rA.1 a;refine⟨f,h1,?_,rfl⟩;simp_all
theorem abq{l:List cQ}(d:l.Pairwise (λa b=>a.ae<b.ae))(e:∀f,f∈l->cr f.ae):kc x.ag (e7 x l):=by
 refine⟨?_,λr c=>?_⟩
 . unfold e7;grind
 . obtain⟨f,f1,f2,rfl⟩:=KL c;grind
section
variable {ts:List ah}
def rT(ts:List ah)(t:Int)(p:aj)(v:I):Prop:=b5 ts false t v/\bM v/\wt v<=300*(p.length+1)
theorem mB{k:Int}{b:Bool}{i:Int}{s:aj}{a:List I}{r:List bY}(h0:0<=k/\k<=9)(h1:cw i)(g:0<=id/\id<=1000)(hs:s.length<=90000)(l:ks.length<=90000)(j:a.length<=90000)(m:r.length<=90000)
 (e:∀x,x∈ks->bM x)(f:∀x,x∈a->bM x)(d:∀x,x∈r->x.Data.length<=90000/\cr x.ae):bM ⟨k,b,i,s,id,ks,a,r⟩:=by
 refine .mk _ (by unfold reachBytes;show s.length<=_;omega) (by unfold reachBytes;show ks.length<=_;omega) (by unfold reachBytes;show a.length<=_;omega) (by unfold reachBytes;show r.length<=_;omega) e f (λx c=>by have:=(d x c).1;unfold reachBytes;omega) ?_ h1 ?_ (λx c=>by have:=(d x c).2;unfold cr at this;omega)
 . show -9223372036854775808<=k/\k<=9223372036854775807;omega
 . show -9223372036854775808<=id/\id<=9223372036854775807;omega
theorem abr(H:dj ts){n:Nat}(ih:∀(t:Int) (p:aj) (v:I),p.length<=90000->0<=t->t<ts.length->cZ ts n t p=some v->rT ts t p v)(J:p.length<=90000)(t0:0<=t)(t1:t<ts.length)(h:cZ ts (n+1) t p=some v):rT ts t p v:=by
 rw[vc]at h;have aJ:t.toNat<ts.length:=by omega
 have B:=bk aJ aN;have cL:=H.hi;unfold rT;rw[eU];generalize ts.getD t.toNat aN=x at*;unfold rL at h;have jB:∀(k i id:Int) (b:Bool) (s:aj),wt ⟨k,b,i,s,id,[],[],[]⟩=10+s.length:=λk i id b s=>by rw[fx,gD];simp
 by_cases am:x.Kind=1
 . rw[ad am]at h;have:∃b,v=⟨1,b,0,[],0,[],[],[]⟩:=by
    unfold As at h;grind
   obtain⟨b,rfl⟩:=this;exact⟨⟨⟨t0,t1,am.symm,λh=>by cases h⟩,.inl ⟨rfl,rfl,rfl,rfl,rfl,rfl,rfl⟩⟩,mB (by omega) lS (by omega) (by simp) (by simp) (by simp) (by simp) (by simp) (by simp) (by simp),by rw[jB];simp;omega⟩
 rw[ak am]at h;by_cases an:x.Kind=2
 . rw[ad an]at h;unfold Au at h;cases z:hS p with
   |none=>rw[z]at h;cases h
   |some m=>
    rw[z]at h;dsimp only at h;split at h
    . rename_i G;cases h;exact⟨⟨⟨t0,t1,an.symm,λh=>by cases h⟩,.inr (.inl ⟨rfl,rfl,rfl,rfl,rfl,rfl,rfl,G.1,G.2⟩)⟩,mB (by omega) (Mu (D7 z)) (by omega) (by simp) (by simp) (by simp) (by simp) (by simp) (by simp) (by simp),by rw[jB];simp;omega⟩
    . cases h
 rw[ak an]at h;by_cases ao:x.Kind=3
 . rw[ad ao]at h;unfold Av at h;split at h
   . rename_i G;cases h;exact⟨⟨⟨t0,t1,ao.symm,λh=>by cases h⟩,.inr (.inr (.inl ⟨rfl,rfl,rfl,rfl,rfl,rfl,rfl,G⟩))⟩,mB (by omega) lS (by omega) (by omega) (by simp) (by simp) (by simp) (by simp) (by simp) (by simp),by rw[jB];omega⟩
   . cases h
 rw[ak ao]at h;by_cases ap:x.Kind=4
 . rw[ad ap]at h;unfold Aw at h;cases z:hS p with
   |none=>rw[z]at h;cases h
   |some m=>
    rw[z]at h;dsimp only at h;split at h
    . rename_i G;cases h;refine⟨⟨⟨t0,t1,ap.symm,λh=>by cases h⟩,.inr (.inr (.inr (.inl ⟨rfl,rfl,rfl,rfl,rfl,rfl,rfl,?_⟩)))⟩,mB (by omega) lS (by omega) (by simp) (by simp) (by simp) (by simp) (by simp) (by simp) (by simp),by rw[jB];simp;omega⟩;have O:=G.2.2;rw[hO]at O;rcases O with O|O
      . grind
      . exact .inr ⟨O,rfl,by unfold cr;show 1<=(m:Int)/\(m:Int)<=1000;omega⟩
    . cases h
 rw[ak ap]at h;by_cases Z:x.Kind=9
 . rw[ad Z]at h;obtain⟨aK,M⟩:=cL.elem B (by omega);cases p with
   |nil=>
    rw[mP]at h;cases h;exact⟨⟨⟨t0,t1,Z.symm,λh=>by cases h⟩,.inr (.inr (.inr (.inr (.inr (.inr (.inr (.inr ⟨rfl,rfl,rfl,rfl,rfl,rfl,rfl,by simp,cW.2 (by simp)⟩)))))))⟩,mB (by omega) lS (by omega) (by simp) (by simp) (by simp) (by simp) (by simp) (by simp) (by simp),by rw[jB];simp⟩
   |cons c q=>
    rw[mP]at h;split at h
    . obtain⟨w,ax,rfl⟩:=oa.1 h;obtain⟨f1,f2,f3⟩:=ih _ _ _ (by simp at J;omega) aK M ax;refine⟨⟨⟨t0,t1,Z.symm,λh=>by cases h⟩,.inr (.inr (.inr (.inr (.inr (.inr (.inr (.inr ⟨rfl,rfl,rfl,rfl,rfl,rfl,rfl,by simp,cW.2 ?_⟩)))))))⟩,mB (by omega) lS (by omega) (by simp) (by simp) (by simp) (by simp) (by simp) ?_ (by simp),?_⟩
      . grind
      . grind
      . rw[fx];show 10+0+0+cI []+cI [w]<=_;rw[hb,gD,iw];omega
    . cases h
 rw[ak Z]at h;by_cases X:x.Kind=6
 . rw[ad X]at h;unfold rJ at h;cases aa:jV p with
   |none=>rw[aa]at h;cases h
   |some a=>
    obtain⟨id,q⟩:=a;rw[aa]at h;dsimp only at h;have aD:=adG aa;have aT:=qQ id.toNat;have aU:q.length+1<=p.length:=by rw[aD,c2];omega
    obtain⟨o,aq,ar,av⟩:=Ig p;have aI:cr id:=(by grind);unfold cr at aI;cases bE:cH x.ag id with
    |some m=>
     rw[bE]at h;obtain⟨w,ax,rfl⟩:=oa.1 h;obtain⟨F,aY⟩:=kI bE;obtain⟨f1,f2,f3⟩:=ih _ _ _ (by omega) (cL.mem B F).1 (cL.mem B F).2 ax;refine⟨⟨⟨t0,t1,X.symm,λh=>by cases h⟩,.inr (.inr (.inr (.inr (.inr (.inl ⟨rfl,rfl,rfl,rfl,rfl,?_⟩)))))⟩,mB (by omega) lS (by omega) (by simp) (by simp) (by simp) (by simp) (by simp) ?_ (by simp),?_⟩
     . show(match cH x.ag id with
        |some m=>_
        |none=>_)
       rw[bE];refine⟨rfl,rfl,cW.2 ?_⟩;grind
     . grind
     . rw[fx];show 10+0+0+cI []+cI [w]<=_;rw[hb,gD];omega
    |none=>
     rw[bE]at h;dsimp only at h;split at h
     . rename_i aR;cases h;refine⟨⟨⟨t0,t1,X.symm,λh=>by cases h⟩,.inr (.inr (.inr (.inr (.inr (.inl ⟨rfl,rfl,rfl,rfl,rfl,?_⟩)))))⟩,mB (by omega) lS (by omega) (by simp) (by simp) (by simp) (by simp) (by simp) (by simp) ?_,?_⟩
       . grind
       . grind
       . rw[fx];show 10+0+((q.length+1)+0)+cI []+cI []<=_;rw[gD];omega
     . cases h
 rw[ak X]at h;by_cases fi:x.Kind=7
 . rw[ad fi]at h;unfold ou at h;obtain⟨aK,M⟩:=cL.elem B (by omega);cases E:iN p with
   |none=>rw[E]at h;cases h
   |some l=>
    rw[E]at h;dsimp only at h;obtain⟨o,aq,ar,av⟩:=zN J;have af:(∀q,q∈l->q.length<=p.length)/\l.length<=p.length:=(by grind);have V:=HX l;rw[Om J E]at V;split at h
    . rename_i ay;obtain⟨m,F,rfl⟩:=oa.1 h;have ah:=tH F;have R:∀y,y∈m->∃q,q∈l/\rT ts x.aG q y:=λy j=>by
       obtain⟨q,N,u⟩:=v7 F y j;grind
      have aB:=D9 (C:=300) F (λq U v L=>(ih _ _ _ (by have:=af.1 q U;omega) aK M L).2.2);refine⟨⟨⟨t0,t1,fi.symm,λh=>by cases h⟩,.inr (.inr (.inr (.inr (.inr (.inr (.inl ⟨rfl,rfl,rfl,rfl,rfl,rfl,rfl,?_,cW.2 ?_⟩))))))⟩,mB (by omega) lS (by omega) (by simp) (by simp) (by omega) (by simp) (by simp) ?_ (by simp),?_⟩
      . grind
      . intro y j;obtain⟨q,_,u⟩:=R y j;exact u.1
      . intro y j;obtain⟨q,_,u⟩:=R y j;exact u.2.1
      . rw[fx];show 10+0+0+cI []+cI m<=_;rw[gD];omega
    . cases h
 rw[ak fi]at h;by_cases Y:x.Kind=8
 . rw[ad Y]at h;unfold rK at h;obtain⟨aK,M⟩:=cL.elem B (by omega);obtain⟨d1,d2⟩:=cL.key B Y;cases E:iN p with
   |none=>rw[E]at h;cases h
   |some l=>
    rw[E]at h;dsimp only at h;obtain⟨o,aq,ar,av⟩:=zN J;have af:(∀q,q∈l->q.length<=p.length)/\l.length<=p.length:=(by grind);have V:=HX l;rw[Om J E]at V;have aW:=LR l;split at h
    . rename_i ay;cases hs:cn (cZ ts n x.Key) (fc l)with
      |none=>rw[hs]at h;cases h
      |some ks=>
       rw[hs]at h;dsimp only at h;split at h
       . rename_i az;obtain⟨m,F,rfl⟩:=oa.1 h;have aS:=tH hs;have ah:=tH F;obtain⟨aO,aP⟩:=On ay.1;have aA:∀y,y∈ks->∃q,q∈fc l/\rT ts x.Key q y:=λy j=>by
          obtain⟨q,N,u⟩:=v7 hs y j;exact⟨q,N,ih _ _ _ (by have:=af.1 q (DK N);omega) d1 d2 u⟩
         have R:∀y,y∈m->∃q,q∈fl l/\rT ts x.aG q y:=λy j=>by
          obtain⟨q,N,u⟩:=v7 F y j;exact⟨q,N,ih _ _ _ (by have:=af.1 q (Iy N);omega) aK M u⟩
         have aX:=D9 (C:=300) hs (λq U v L=>(ih _ _ _ (by have:=af.1 q (DK U);omega) d1 d2 L).2.2);have aB:=D9 (C:=300) F (λq U v L=>(ih _ _ _ (by have:=af.1 q (Iy U);omega) aK M L).2.2);refine⟨⟨⟨t0,t1,Y.symm,λh=>by cases h⟩,.inr (.inr (.inr (.inr (.inr (.inr (.inr (.inl ⟨rfl,rfl,rfl,rfl,rfl,rfl,?_,?_,cW.2 ?_,cW.2 ?_,vY.1 az⟩)))))))⟩,mB (by omega) lS (by omega) (by simp) (by omega) (by omega) (by simp) ?_ ?_ (by simp),?_⟩
         . grind
         . grind
         . intro y j;obtain⟨q,_,u⟩:=aA y j;exact u.1
         . intro y j;obtain⟨q,_,u⟩:=R y j;exact u.1
         . intro y j;obtain⟨q,_,u⟩:=aA y j;exact u.2.1
         . intro y j;obtain⟨q,_,u⟩:=R y j;exact u.2.1
         . rw[fx];grind
       . cases h
    . cases h
 rw[ak Y]at h;have aC:x.Kind=5:=by obtain⟨aL,aM⟩:=cL.S.K x B;omega
 unfold ot at h;obtain⟨aF,aQ⟩:=cL.S.A x B (.inl aC);cases E:jl p with
 |none=>rw[E]at h;cases h
 |some l=>
  rw[E]at h;dsimp only at h;obtain⟨o,aq,ar,av⟩:=Hv J;have af:(∀f,f∈l->f.Data.length<=p.length/\cr f.ae)/\l.Pairwise (λa b=>a.ae<b.ae)/\l.length<=p.length:=by grind
  have V:=Mx l;rw[ado J E]at V;cases hs:cn (ei (cZ ts n) l) x.ag with
  |none=>rw[hs]at h;cases h
  |some ai=>
   rw[hs]at h;dsimp only at h;split at h
   . rename_i az;cases h;have ah:=tH hs;have aH:∀i,i<x.ag.length->b5 ts false (x.ag.getD i aE).aw (ai.getD i au)/\bM (ai.getD i au):=λi Q=>by
      have z:=bk Q aE;have:=LQ aE au hs i Q;unfold ei at this;cases P:l.find? (λf=>decide (f.ae=(x.ag.getD i aE).ae))with
      |some g=>
       rw[P]at this;have:=ih _ _ _ (by have:=(af.1 g (E9 P)).1;omega) (cL.mem B z).1 (cL.mem B z).2 this;exact⟨this.1,this.2.1⟩
      |none=>
       rw[P]at this;dsimp only at this;split at this
       . rename_i ab;have e:=(lY this)
         rw[<-e];exact⟨ov _ _ (H.D x B _ z ab),(H.T x B).3 _ z⟩
       . cases this
     have aB:=Mz (C:=300) (d:=13) (λ_ _=>trivial) (λm z=>⟨λab=>H.W x B m z ab,λg al v L=>(ih _ _ _ (by have:=(af.1 g al).1;omega) (cL.mem B z).1 (cL.mem B z).2 L).2.2⟩) hs;have aV:=Ot (C:=300) (d:=13) (by omega) aF l;refine⟨⟨⟨t0,t1,aC.symm,λh=>by cases h⟩,.inr (.inr (.inr (.inr (.inl ⟨rfl,rfl,rfl,rfl,rfl,rfl,abq af.2.1 (λf P=>(af.1 f P).2),ik.2 ⟨ah,λi Q=>(aH i Q).1⟩⟩))))⟩,mB (by omega) lS (by omega) (by simp) (by simp) (by omega) ?_ (by simp) ?_ ?_,?_⟩
     . unfold e7;grind
     . intro y j;obtain⟨i,Q,rfl⟩:=eZ j;grind
     . intro r G;obtain⟨f,f1,_,rfl⟩:=KL G;grind
     . rw[fx];show 10+0+((e7 x l).map λr=>r.Data.length+1).sum+cI []+cI ai<=_;rw[gD];omega
   . cases h
theorem LS(H:dj ts):∀(n:Nat) (t:Int) (p:aj) (v:I),p.length<=90000->0<=t->t<ts.length->cZ ts n t p=some v->rT ts t p v
 |0,t,p,v,_,_,_,h=>by rw[DL]at h;cases h
 |n+1,t,p,v,a,t0,t1,h=>abr H (LS H n) a t0 t1 h
end
theorem LU:∀{A B:List Fd},A.Pairwise (λa b=>a.id<b.id)->B.Pairwise (λa b=>a.id<b.id)->(∀x,x∈A↔x∈B)->A=B
 |[],[],_,_,_=>rfl
 |[],b::B,_,_,h=>by have:=(h b).2 (.head _);cases this
 |a::A,[],_,_,h=>by have:=(h a).1 (.head _);cases this
 |a::A,b::B,c,dm,h=>by
  rw[jf]at c dm;have e:a=b:=by grind
  subst e;rw[LU c.2 dm.2 λx=>?_];grind
theorem HY{l:List α}{y:α}(d:α)(h:y∈l):∃i,i<l.length/\l.getD i d=y:=by
 obtain⟨i,a,rfl⟩:=eZ h;exact⟨i,a,dv a d⟩
section
variable {ts:List ah}
theorem IA:∀{ms:List aS} {l:List I} {j:Nat},j<ms.length->j<l.length->dK (ms.getD j aE) (l.getD j au)=false->
 (⟨(ms.getD j aE).ae.toNat,(ms.getD j aE).cp,bG ts (ms.getD j aE).aw (l.getD j au)⟩:Fd)∈dH ts ms l
 |[],l,j,h,_,_=>by simp at h
 |m::ms,[],j,_,h,_=>by simp at h
 |m::ms,v::l,0,_,_,h=>by
  rw[dH];grind
 |m::ms,v::l,j+1,h1,a,h=>by
  rw[dH];have:=IA (ms:=ms) (l:=l) (j:=j) (by simpa using h1) (by simpa using a) h;grind
end
abbrev fI:=Int->I->Int->aq->I ⊕ aq
def iW{α:Type}:α ⊕ aq->List α ⊕ aq->List α ⊕ aq
 |.inr p,_=>.inr p
 |.inl _,.inr p=>.inr p
 |.inl u,.inl l=>.inl (u::l)
def h7{α a:Type}(g:α->a):α ⊕ aq->a ⊕ aq
 |.inr p=>.inr p
 |.inl u=>.inl (g u)
def mc{α a:Type}(g:α->a ⊕ aq):α ⊕ aq->a ⊕ aq
 |.inr p=>.inr p
 |.inl u=>g u
def hl(l:List aS)(id:Int):Option Nat:=l.findIdx? λm=>decide (m.ae=id)
def lQ(l:List aS)(id:Int):Int×Bool:=match hl l id with
 |some j=>((j:Int),true)
 |none=>(0,false)
def eY(f:fI)(path:aq)(t rt:Int):Nat->List I->List I ⊕ aq
 |_,[]=>.inl []
 |i,v::l=>iW (f t v rt (path++[(i:Int)])) (eY f path t rt (i+1) l)
noncomputable def Aj (m:aS)(w:I)(n:aS)(a:aq):I ⊕ aq->I ⊕ aq
 |.inr p=>if dK m w then .inr a else .inr p
 |.inl u=>if dK m w=true/\dK n u=false then .inr a else .inl u
noncomputable def wx (f:fI)(x:ah)(v:I)(path:aq)(n:aS):I ⊕ aq:=match hl x.ag n.ae with
 |none=>if n.bZ then .inl n.bw else .inr (path++[n.ae])
 |some i=>Aj (x.ag.getD i aE) (v.ai.getD i au) n (path++[n.ae]) (f (x.ag.getD i aE).aw (v.ai.getD i au) n.aw (path++[n.ae]))
noncomputable def ji (f:fI)(x:ah)(v:I)(path:aq):List aS->List I ⊕ aq
 |[]=>.inl []
 |n::l=>iW (wx f x v path n) (ji f x v path l)
noncomputable def iz (tw:List ah)(y:ah)(path:aq):List aS->List I->List bY ⊕ aq
 |m::ms,v::l=>if(cH y.ag m.ae).isSome then iz tw y path ms l
  else if m.cp then .inr (path++[m.ae])
  else if dK m v then iz tw y path ms l
  else iW (.inl ⟨m.ae,bG tw m.aw v⟩) (iz tw y path ms l)
 |_,_=>.inl []
def jA(x y:ah)(v:I):Prop:=(x.Kind=2->y.bA<=v.bc/\v.bc<=y.bC)/\(x.Kind=3->(v.bn.length:Int)<=y.Max)/\(x.Kind=4->(∃s,s∈y.bg/\s.ae=v.ae)\/y.Open=true)
noncomputable def wv (tw:List ah)(f:fI)(x y:ah)(v:I)(path:aq):I ⊕ aq:=
 mc (λa=>h7 (λr=>⟨5,false,0,[],0,[],a,r⟩) (iz tw y path x.ag v.ai)) (ji f x v path y.ag)
noncomputable def tV (tw:List ah)(f:fI)(x y:ah)(v:I)(path:aq):I ⊕ aq:=match hl x.ag v.ae with
 |none=>.inr path
 |some i=>match hl y.ag v.ae with
  |some k=>h7 (λu=>⟨6,false,0,[],v.ae,[],[u],[]⟩) (f (x.ag.getD i aE).aw (v.ai.getD 0 au) (y.ag.getD k aE).aw (path++[v.ae]))
  |none=>if y.Open then .inl ⟨6,false,0,[],v.ae,[],[],[⟨v.ae,bG tw (x.ag.getD i aE).aw (v.ai.getD 0 au)⟩]⟩else .inr path
def Ag(f:fI)(x y:ah)(v:I)(path:aq):I ⊕ aq:=
 if(v.ai.length:Int)<=y.Max then h7 (λa=>⟨7,false,0,[],0,[],a,[]⟩) (eY f path x.aG y.aG 0 v.ai)else .inr path
def Ah(f:fI)(x y:ah)(v:I)(path:aq):I ⊕ aq:=
 if(v.ai.length:Int)<=y.Max then mc (λks=>h7 (λa=>⟨8,false,0,[],0,ks,a,[]⟩) (eY f path x.aG y.aG 0 v.ai)) (eY f path x.Key y.Key 0 v.av)else .inr path
def Ai(f:fI)(x y:ah)(v:I)(path:aq):I ⊕ aq:=
 h7 (λa=>⟨9,false,0,[],0,[],a,[]⟩) (eY f path x.aG y.aG 0 v.ai)
open Classical in
noncomputable def iy (tw:List ah)(f:fI)(x y:ah)(v:I)(path:aq):I ⊕ aq:=
 if ¬x.Kind=y.Kind then .inr path
 else if x.Kind=5 then wv tw f x y v path
 else if x.Kind=6 then tV tw f x y v path
 else if x.Kind=7 then Ag f x y v path
 else if x.Kind=8 then Ah f x y v path
 else if x.Kind=9 then Ai f x y v path
 else if jA x y v then .inl v else .inr path
noncomputable def ej (tw tr:List ah):Nat->fI
 |0=>λ_ _ _ path=>.inr path
 |n+1=>λt v rt path=>iy tw (ej tw tr n) (tw.getD t.toNat aN) (tr.getD rt.toNat aN) v path
theorem Cx(n:Nat)(t:Int)(v:I)(rt:Int)(path:aq):ej tw tr (n+1) t v rt path=iy tw (ej tw tr n) (tw.getD t.toNat aN) (tr.getD rt.toNat aN) v path:=rfl
section
variable {tw:List ah}{f:fI}{x y:ah}{v:I}{path:aq}
theorem Ou(bH:¬x.Kind=y.Kind):iy tw f x y v path= .inr path:=by unfold iy;rw[ad bH]
theorem Rm(bH:x.Kind=y.Kind)(h:x.Kind=5):iy tw f x y v path=wv tw f x y v path:=by unfold iy;rw[ak (λh=>h bH),ad h]
theorem Rn(bH:x.Kind=y.Kind)(h:x.Kind=6):iy tw f x y v path=tV tw f x y v path:=by unfold iy;rw[ak (λh=>h bH),bq,ad h]
theorem Ro(bH:x.Kind=y.Kind)(h:x.Kind=7):iy tw f x y v path=Ag f x y v path:=by unfold iy;rw[ak (λh=>h bH),bq,bq,ad h]
theorem Rp(bH:x.Kind=y.Kind)(h:x.Kind=8):iy tw f x y v path=Ah f x y v path:=by unfold iy;rw[ak (λh=>h bH),bq,bq,bq,ad h]
theorem Rq(bH:x.Kind=y.Kind)(h:x.Kind=9):iy tw f x y v path=Ai f x y v path:=by unfold iy;rw[ak (λh=>h bH),bq,bq,bq,bq,ad h]
theorem qS(bH:x.Kind=y.Kind)(h:x.Kind<=4)(af:jA x y v):iy tw f x y v path= .inl v:=by unfold iy;rw[ak (λh=>h bH),bq,bq,bq,bq,bq,ad af]
theorem vU(bH:x.Kind=y.Kind)(h:x.Kind<=4)(af:¬jA x y v):iy tw f x y v path= .inr path:=by unfold iy;rw[ak (λh=>h bH),bq,bq,bq,bq,bq,ak af]
end
theorem LV{m:aS}{n:aS}{a p:aq}:Aj m w n a (.inr p)=if dK m w then .inr a else .inr p:=rfl
theorem LW{m:aS}{n:aS}{a:aq}:Aj m w n a (.inl u)=if dK m w=true/\dK n u=false then .inr a else .inl u:=rfl
theorem j9{l:List aS}{j:Nat}(h:hl l id=some j):j<l.length/\(l.getD j aE).ae=id/\∀k,k<j->(l.getD k aE).ae≠id:=by
 obtain⟨h1,a,b⟩:=List.findIdx?_eq_some_iff_getElem.1 h;refine⟨h1,?_,λk c=>?_⟩
 . rw[dv h1];simpa using a
 . rw[dv (by omega)];simpa using b k c
theorem NO{l:List aS}(h:hl l id=none):∀k,k<l.length->(l.getD k aE).ae≠id:=λk a=>by
 have:=List.findIdx?_eq_none_iff.1 h _ (bk a aE);simpa using this
theorem KM(l:List aS)(id:Int):tk l id (lQ l id):=by
 unfold lQ;cases h:hl l id with
 |some j=>exact .inl ⟨j,(j9 h).1,(j9 h).2.1,(j9 h).2.2,rfl⟩
 |none=>exact .inr ⟨NO h,rfl⟩
theorem vI(l:List aS)(id:Int):(hl l id).isSome=(cH l id).isSome:=by
 cases h:hl l id with
 |some j=>
  obtain⟨h1,b,_⟩:=j9 h;cases g:cH l id with
  |some _=>rfl
  |none=>exact absurd b (nz g _ (bk h1 aE))
 |none=>
  cases g:cH l id with
  |none=>rfl
  |some m=>
   obtain⟨c,d⟩:=kI g;obtain⟨i,a,rfl⟩:=eZ c;exact absurd d (by rw[<-dv a aE];exact NO h i a)
theorem Hx{a:α ⊕ aq}{b:List α ⊕ aq}{l:List α}(h:iW a b= .inl l):∃u us,a= .inl u/\b= .inl us/\l=u::us:=by
 cases a with
 |inr p=>simp[iW]at h
 |inl u=>cases b with
  |inr p=>simp[iW]at h
  |inl us=>exact⟨u,us,rfl,rfl,by simpa[iW]using h.symm⟩
theorem zP{g:α->c}{a:α ⊕ aq}{b:c}(h:h7 g a= .inl b):∃u,a= .inl u/\b=g u:=by
 cases a with
 |inr p=>simp[h7]at h
 |inl u=>exact⟨u,rfl,by simpa[h7]using h.symm⟩
theorem KN{g:α->c ⊕ aq}{a:α ⊕ aq}{b:c}(h:mc g a= .inl b):∃u,a= .inl u/\g u= .inl b:=by
 cases a with
 |inr p=>simp[mc]at h
 |inl u=>exact⟨u,rfl,by simpa[mc]using h⟩
theorem Cy{f:fI}{path:aq}{t rt:Int}:∀{l:List I} {i:Nat} {us:List I},eY f path t rt i l= .inl us->us.length=l.length/\∀j,j<l.length->f t (l.getD j au) rt (path++[((i+j:Nat):Int)])= .inl (us.getD j au)
 |[],i,us,h=>by
  simp only[eY,Sum.inl.injEq]at h;subst h;exact⟨rfl,λj c=>by simp at c⟩
 |v::l,i,us,h=>by
  obtain⟨u,e,h1,d,rfl⟩:=Hx h;obtain⟨a,b⟩:=Cy d;refine⟨by simp[a],λj c=>?_⟩;cases j with
  |zero=>exact h1
  |succ j=>
   have:=b j (by simpa using c);rw[show i+1+j=i+(j+1) by omega]at this;exact this
theorem KO{f:fI}{x:ah}{v:I}{path:aq}:∀{l:List aS} {us:List I},ji f x v path l= .inl us->us.length=l.length/\∀j,j<l.length->wx f x v path (l.getD j aE)= .inl (us.getD j au)
 |[],us,h=>by
  simp only[ji,Sum.inl.injEq]at h;subst h;exact⟨rfl,λj c=>by simp at c⟩
 |n::l,us,h=>by
  obtain⟨u,e,h1,d,rfl⟩:=Hx h;obtain⟨a,b⟩:=KO d;refine⟨by simp[a],λj c=>?_⟩;cases j with
  |zero=>exact h1
  |succ j=>exact b j (by simpa using c)
variable{f:fI}
theorem abt{n:aS}(h:wx f x v path n= .inl u):
 (hl x.ag n.ae=none/\n.bZ=true/\u=n.bw)\/∃i,hl x.ag n.ae=some i/\f (x.ag.getD i aE).aw (v.ai.getD i au) n.aw (path++[n.ae])= .inl u/\(dK (x.ag.getD i aE) (v.ai.getD i au)=true->dK n u=true):=by
 unfold wx at h;cases b:hl x.ag n.ae with
 |none=>
  simp only[b]at h;by_cases a:n.bZ=true
  . rw[ad a]at h;exact .inl ⟨rfl,a,by simpa using h.symm⟩
  . rw[ak a]at h;cases h
 |some i=>
  simp only[b]at h;refine .inr ⟨i,rfl,?_⟩;revert h;cases f (x.ag.getD i aE).aw (v.ai.getD i au) n.aw (path++[n.ae])with
  |inr p=>intro h;unfold Aj at h;grind
  |inl w=>intro h;unfold Aj at h;grind
theorem DM{tw:List ah}{y:ah}{path:aq}:∀{ms:List aS} {l:List I} {r:List bY},iz tw y path ms l= .inl r->
 r.length<=ms.length/\(r.map λa=>a.ae).Sublist (ms.map λm=>m.ae)/\∀a,a∈r->cH y.ag a.ae=none/\∃j,j<ms.length/\j<l.length/\a=⟨(ms.getD j aE).ae,bG tw (ms.getD j aE).aw (l.getD j au)⟩
 |[],l,r,h=>by
  rw[iz]at h
  . cases h;simp
  . intros;simp_all
 |m::ms,[],r,h=>by
  rw[iz]at h
  . cases h;simp
  . intros;simp_all
 |m::ms,v::l,r,h=>by
  have g:∀{r},iz tw y path ms l= .inl r->r.length<=(m::ms).length/\(r.map λa=>a.ae).Sublist ((m::ms).map λm=>m.ae)/\∀a,a∈r->cH y.ag a.ae=none/\∃j,j<(m::ms).length/\j<(v::l).length/\a=⟨((m::ms).getD j aE).ae,bG tw ((m::ms).getD j aE).aw ((v::l).getD j au)⟩:=λ{r} h=>by
   obtain⟨a,b,c⟩:=DM h;refine⟨by simp;omega,by rw[gz];exact b.cons _,λq f=>?_⟩;obtain⟨d,j,o,p,e⟩:=c q f;exact⟨d,j+1,by simp;omega,by simp;omega,e⟩
  rw[iz]at h;by_cases d:(cH y.ag m.ae).isSome=true
  . rw[ad d]at h;exact g h
  rw[ak d]at h;by_cases i:m.cp=true
  . rw[ad i]at h;cases h
  rw[ak i]at h;by_cases k:dK m v=true
  . rw[ad k]at h;exact g h
  rw[ak k]at h;obtain⟨u,us,aK,n,rfl⟩:=Hx h;cases aK;obtain⟨a,b,c⟩:=DM n;refine⟨by simp;omega,by rw[gz,gz];exact b.cons₂ _,λq f=>?_⟩;rcases fe.1 f with rfl|f
  . exact⟨by simpa using d,0,by simp,by simp,rfl⟩
  . exact(g n).2.2 q f
section
variable {ts:List ah}
theorem AH{n:Nat}(h:n<16384):(eE n).length<=2:=Ir 1 n (by simpa using h)
theorem vJ(h:p.length<16384):(dB p).length<=p.length+2:=by
 have:=AH h;unfold dB;simp;omega
def ij(ts:List ah)(t:Int)(v:I):Prop:=(bG ts t v).length+4<=wt v
theorem Dy{t:Int}:∀{l:List I},cI l<=3000->(∀y,y∈l->ij ts t y)->((b7 ts t l).flatMap dB).length<=cI l
 |[],_,_=>by rw[b7];simp
 |v::l,a,h=>by
  rw[b7,e6,c2];rw[hb]at a⊢;have h1:=h v (.head _);unfold ij at h1;have c:=Dy (t:=t) (l:=l) (by omega) λx b=>h x (.tail _ b);have d:=vJ (p:=bG ts t v) (by omega);omega
theorem NP{l:List I}(h:∀y,y∈l->ij ts t y):((b7 ts t l).headD []).length+4<=cI l\/l=[]:=by
 cases l with
 |nil=>exact .inr rfl
 |cons v l=>
  refine .inl ?_;have h1:=h v (.head _);unfold ij at h1;rw[b7,hb];grind
theorem LX:∀{ms:List aS} {l:List I},cI l<=3000->(∀m,m∈ms->m.ae<=1000)->l.length=ms.length->(∀i,i<ms.length->ij ts (ms.getD i aE).aw (l.getD i au))->((dH ts ms l).flatMap Fd.text).length<=cI l
 |[],l,_,_,_,_=>by rw[dH]<;>simp
 |m::ms,[],_,_,af,_=>by simp at af
 |m::ms,v::l,c,a,af,h=>by
  rw[hb]at c⊢;rw[dH];have h1:ij ts m.aw v:=h 0 (by simp);unfold ij at h1;have e:=LX (ms:=ms) (l:=l) (by omega) (λx d=>a x (.tail _ d)) (by simpa using af) λi b=>h (i+1) (by simpa using b);have g:=a m (.head _);split
  . omega
  . rw[e6,c2];have a1:=vJ (p:=bG ts m.aw v) (by omega);have a2:=AH (n:=2*m.ae.toNat+(if m.cp then 1 else 0)) (by split<;>omega);have f:(Fd.text ⟨m.ae.toNat,m.cp,bG ts m.aw v⟩).length<=(bG ts m.aw v).length+4:=by
     show(fD m.ae.toNat m.cp (bG ts m.aw v)).length<=_;unfold fD;grind
    omega
theorem y2(H:dj ts)(x:bM v):∀t,b5 ts true t v->wt v<=3000->ij ts t v:=by
 have d:=H.V.ic H.T;induction x with
 |mk v hs h1 P Q X U Y c' ab ad af B z=>
  intro t u Z;obtain⟨⟨K,N,O,p⟩,s⟩:=(eU _ _ _).1 u;have w:t.toNat<ts.length:=by omega
  have c:=bk w aN;have r:=p rfl;have aa:=fx v;have aX:∀y,y∈v.av->wt y+10<=wt v:=λy a=>by have:=e' a;omega
  have D:∀y,y∈v.ai->wt y+10<=wt v:=λy a=>by have:=e' a;omega
  have C:∀t,e0 ts true t v.av->∀y,y∈v.av->ij ts t y:=λt ht y a=>B y a t (cW.1 ht y a) (by have:=aX y a;omega);have f:∀t,e0 ts true t v.ai->∀y,y∈v.ai->ij ts t y:=λt ht y a=>z y a t (cW.1 ht y a) (by have:=D y a;omega);unfold ij;rcases s with h|h|h|h|h|h|h|h|h
  . rw[Ax (by omega)];grind
  . have R:=H.L _ c (by omega);rw[Ay (by omega)];have:=vX 1 (gf v.bc).toNat (by unfold gf;split<;>omega);omega
  . rw[Az (by omega)];omega
  . rw[AA (by omega)];have j:v.ae.toNat<256^2:=by
     rcases h.2.2.2.2.2.2.2 with⟨y,F,ah⟩|⟨_,h,_⟩
     . have:=d.S _ c (by omega) y F;unfold cr at this;omega
     . cases h
    have:=vX 2 _ j;omega
  . obtain⟨a1,a2,a3,a4,a5,b,g,e⟩:=h;obtain⟨k,E⟩:=d.A _ c (.inl (by omega));obtain⟨f1,f2⟩:=ik.1 e;rw[AB (by omega),Tf (nA _ _)];unfold fr;rw[r,pY,lX];have:=LX (ts:=ts) (l:=v.ai) (by omega) (d.M _ c) f1 λi W=>by grind
    omega
  . obtain⟨a1,a2,a3,a4,a5,b⟩:=h;rw[AD (by omega)];cases bE:cH (ts.getD t.toNat aN).ag v.ae with
    |none=>rw[bE]at b;cases b.2.1
    |some m=>
     rw[bE]at b;obtain⟨b1,b2,b3⟩:=b;obtain⟨k,E⟩:=kI bE;have j:=d.M _ c m k;have:=AH (n:=v.ae.toNat) (by omega);rw[c2];rcases NP (f _ b3)with q|q
     . grind
     grind
  . obtain⟨a1,a2,a3,a4,a5,b,g,e,a9⟩:=h;rw[AE (by omega)];have:=Dy (l:=v.ai) (by omega) (f _ a9);omega
  . obtain⟨a1,a2,a3,a4,a5,b,g,e,a9,o,G⟩:=h;rw[AF (by omega)];have aK:=Dy (l:=v.ai) (by omega) (f _ o);have J:=Dy (l:=v.av) (by omega) (C _ a9);have:=HT (b7 ts (ts.getD t.toNat aN).Key v.av) (b7 ts (ts.getD t.toNat aN).aG v.ai);omega
  . obtain⟨a1,a2,a3,a4,a5,b,g,e,a9⟩:=h;rw[AG (by omega)];rcases NP (f _ a9)with q|q
    . grind
    . rw[q,b7];simp;omega
end
section
variable {tw tr:List ah}
theorem aax{n:Nat}(a:(tw.getD t.toNat aN).Kind<=4)(h:ej tw tr n t v rt path= .inl u):u=v:=by
 cases n with
 |zero=>cases h
 |succ n=>
  rw[Cx]at h;unfold iy at h;grind
theorem aay(c:∀v rt path u,f t v rt path= .inl u->u=v){i:Nat}{l us:List I}(h:eY f path t rt i l= .inl us):us=l:=by
 obtain⟨a,b⟩:=Cy h;exact abh a λj d=>c _ _ _ _ (b j (by omega))
theorem abu{l:List I}{r:List bY}(d:gJ ms)(h:iz tw y path ms l= .inl r):kc y.ag r:=by
 obtain⟨_,b,c⟩:=DM h;refine⟨?_,λa g=>?_⟩
 . have h1:(ms.map λm=>m.ae).Pairwise (· < ·):=oe.2 d.1;grind
 . obtain⟨f,j,i,k,e⟩:=c a g;refine⟨?_,f⟩;rw[e];exact d.2 _ (bk i aE)
theorem cr.i64{n:Int}(h:cr n): -9223372036854775808<=n/\n<=9223372036854775807:=by unfold cr at h;omega
def HP(tr:List ah)(rt:Int)(u:I):Prop:=bM u/\b5 tr false rt u
def Er(tw tr:List ah)(n:Nat):Prop:=∀{v:I},bM v->wt v<=3000->∀{t rt:Int} {path:aq} {u:I},b5 tw true t v->0<=rt->rt<tr.length->ej tw tr n t v rt path= .inl u->HP tr rt u
theorem YO(M:dj tw)(l:dj tr){n:Nat}(ih:Er tw tr n):Er tw tr (n+1):=by
 intro v ar a8 t rt path u aC s z h;have SW:=M.V.ic M.T;have cx:=l.V.ic l.T;have W:=ar;have a':=fx v;obtain⟨⟨aU,aV,aW,aX⟩,aB⟩:=(eU _ _ _).1 aC;have aD:t.toNat<tw.length:=by omega
 have aF:rt.toNat<tr.length:=by omega
 have R:=bk aD aN;have p:=bk aF aN;have o:=λu=>(eU (ts:=tr) false rt u).2;rw[Cx]at h;generalize ba:tw.getD t.toNat aN=x at*;generalize X:tr.getD rt.toNat aN=y at*;cases ar with
 |mk _ hs h1 aY aZ ap J a7 c' be bf bg=>
 have F:∀y,y∈v.ai->wt y<=3000:=λy X=>by have:=e' X;omega
 have aR:∀y,y∈v.av->wt y<=3000:=λy X=>by have:=e' X;omega
 have aj:∀{t rt:Int} {i:Nat} {us:List I},e0 tw true t v.ai->0<=rt->rt<tr.length->eY (ej tw tr n) path t rt i v.ai= .inl us->us.length=v.ai.length/\(∀q,q∈us->bM q)/\e0 tr false rt us:=λ{t rt i us} ad a0 a1 U=>by
  obtain⟨a,b⟩:=Cy U;have key:∀q,q∈us->HP tr rt q:=λq c=>by
   obtain⟨j,H,rfl⟩:=HY au c;have f:=bk (by omega:j<v.ai.length) au;exact ih (J _ f) (F _ f) (cW.1 ad _ f) a0 a1 (b j (by omega))
  exact⟨a,λq c=>(key q c).1,cW.2 λq c=>(key q c).2⟩
 have aH:∀t,e0 tw true t v.av->(tw.getD t.toNat aN).Kind<=4->∀{rt:Int} {i:Nat} {us:List I},0<=rt->rt<tr.length->eY (ej tw tr n) path t rt i v.av= .inl us->us=v.av/\e0 tr false rt v.av:=λt ad aG rt i us a0 a1 U=>by
  have e:=aay (λv rt path u h=>aax aG h) U;subst e;obtain⟨a,b⟩:=Cy U;refine⟨rfl,cW.2 λq c=>?_⟩;obtain⟨j,H,rfl⟩:=HY au c;exact(ih (ap _ c) (aR _ c) (cW.1 ad _ c) a0 a1 (b j H)).2
 unfold iy at h;by_cases bH:x.Kind=y.Kind
 . rw[ak (by simpa using bH)]at h;rcases aB with d|d|d|d|d|d|d|d|d
   . rw[bq,bq,bq,bq,bq]at h;split at h<;>cases h;exact⟨W,o _ ⟨⟨s,z,by omega,by simp⟩,.inl d⟩⟩
   . rw[bq,bq,bq,bq,bq]at h;split at h<;>cases h;rename_i af;exact⟨W,o _ ⟨⟨s,z,by omega,by simp⟩,.inr (.inl (by have:=af.1 (by omega);simp_all))⟩⟩
   . rw[bq,bq,bq,bq,bq]at h;split at h<;>cases h;rename_i af;exact⟨W,o _ ⟨⟨s,z,by omega,by simp⟩,.inr (.inr (.inl (by have:=af.2.1 (by omega);simp_all)))⟩⟩
   . rw[bq,bq,bq,bq,bq]at h;split at h<;>cases h;rename_i af;have O:cr v.ae:=by
      rcases d.2.2.2.2.2.2.2 with⟨y,aS,aT⟩|⟨_,h,_⟩
      . rw[<-aT];exact SW.S _ R (by omega) y aS
      . cases h
     refine⟨W,o _ ⟨⟨s,z,by omega,by simp⟩,.inr (.inr (.inr (.inl ⟨d.1,d.2.1,d.2.2.1,d.2.2.2.1,d.2.2.2.2.1,d.2.2.2.2.2.1,d.2.2.2.2.2.2.1,?_⟩)))⟩⟩;rcases af.2.2 (by omega)with q|q
     . exact .inl q
     grind
   . obtain⟨a1,a2,a3,a4,a5,E,Z,N⟩:=d;obtain⟨Y,aM⟩:=SW.A _ R (.inl (by omega));obtain⟨bc,bd⟩:=cx.A _ p (.inl (by omega));obtain⟨f1,f2⟩:=ik.1 N;rw[fu]at h;obtain⟨g,aK,h⟩:=KN h;obtain⟨r,am,rfl⟩:=zP h;obtain⟨b1,b2⟩:=KO aK;have key:∀j,j<y.ag.length->HP tr (y.ag.getD j aE).aw (g.getD j au):=λj Q=>by
      have G:=bk Q aE;rcases abt (b2 j Q)with⟨_,aa,ab⟩|⟨i,al,aa,_⟩
      . rw[ab];exact⟨(l.T _ p).jb _ G,ov _ _ (l.D _ p _ G aa)⟩
      . obtain⟨d1,_,_⟩:=j9 al;have f:=bk (by omega:i<v.ai.length) au;obtain⟨B,C⟩:=l.hi.mem p G;exact ih (J _ f) (F _ f) (f2 i d1) B C aa
     have aq:=abu Y am;obtain⟨al,_,ab⟩:=DM am;refine⟨.mk _ (by simp) (by simp) (by show g.length<=_;unfold reachBytes;omega) (by show r.length<=_;unfold reachBytes;omega) (λq c=>by cases c) (λq c=>?_) (λq c=>?_) (by simp) (by simp) (by simp) (λq c=>(aq.2 q c).1.i64),o _ ⟨⟨s,z,by show(5:Int)=_;omega,by simp⟩,.inr (.inr (.inr (.inr (.inl ⟨rfl,rfl,rfl,rfl,rfl,rfl,aq,ik.2 ⟨b1,λj Q=>(key j Q).2⟩⟩))))⟩⟩
     . obtain⟨j,H,rfl⟩:=HY au c;exact(key j (by have:g.length=_:=b1;have bb:j<g.length:=H;omega)).1
     . obtain⟨_,j,H,aI,e⟩:=ab q c;have f:=bk aI au;have:=y2 M (J _ f) _ (f2 j H) (F _ f);unfold ij at this;have:=F _ f;rw[e];unfold reachBytes;grind
   . obtain⟨a1,a2,a3,a4,a5,E⟩:=d;rw[bq,fu]at h;unfold tV at h;obtain⟨Y,aM⟩:=SW.A _ R (.inr (by omega));cases bE:cH x.ag v.ae with
     |none=>rw[bE]at E;cases E.2.1
     |some m=>
      rw[bE]at E;obtain⟨b1,b2,b3⟩:=E;have ah:=vI x.ag v.ae;rw[bE]at ah;cases O:hl x.ag v.ae with
      |none=>rw[O]at ah;cases ah
      |some i=>
      obtain⟨d1,d2,_⟩:=j9 O;obtain⟨d3,d4⟩:=kI bE;have em:x.ag.getD i aE=m:=qR Y (bk d1 aE) d3 (by rw[d2,d4]);have ao:cr v.ae:=by rw[<-d4];exact Y.2 m d3
      simp only[O,em]at h;have f:=bk (by omega:0<v.ai.length) au;cases P:hl y.ag v.ae with
      |some k=>
       simp only[P]at h;obtain⟨w,aK,rfl⟩:=zP h;obtain⟨aJ,aL,_⟩:=j9 P;have G:=bk aJ aE;obtain⟨B,C⟩:=l.hi.mem p G;obtain⟨z1,z2⟩:=ih (J _ f) (F _ f) (cW.1 b3 _ f) B C aK;have an:cH y.ag v.ae=some (y.ag.getD k aE):=by rw[<-aL];exact LH (cx.A _ p (.inr (by omega))).1 G
       refine⟨.mk _ (by simp) (by simp) (by show[w].length<=_;unfold reachBytes;simp) (by simp) (λq c=>by cases c) (λq c=>?_) (λq c=>by cases c) (by simp) (by simp) ao.i64 (λq c=>by cases c),o _ ⟨⟨s,z,by show(6:Int)=_;omega,by simp⟩,.inr (.inr (.inr (.inr (.inr (.inl ⟨rfl,rfl,rfl,rfl,rfl,?_⟩)))))⟩⟩
       . grind
       . show match cH y.ag v.ae with|some m=>_|none=>_
         rw[an];exact⟨rfl,rfl,z2,trivial⟩
      |none=>
       simp only[P]at h;split at h
       . cases h;rename_i a6;have an:cH y.ag v.ae=none:=by
          have:=vI y.ag v.ae;rw[P]at this;cases c:cH y.ag v.ae with
          |none=>rfl
          |some _=>rw[c]at this;cases this
         have:=y2 M (J _ f) _ (cW.1 b3 _ f) (F _ f);unfold ij at this;have:=F _ f;refine⟨.mk _ (by simp) (by simp) (by simp) (by show[_].length<=_;unfold reachBytes;simp) (λq c=>by cases c) (λq c=>by cases c) (λq c=>?_) (by simp) (by simp) ao.i64 (λq c=>?_),o _ ⟨⟨s,z,by show(6:Int)=_;omega,by simp⟩,.inr (.inr (.inr (.inr (.inr (.inl ⟨rfl,rfl,rfl,rfl,rfl,?_⟩)))))⟩⟩
         . rw[we.1 c];show(bG tw _ _).length<=_;unfold reachBytes;omega
         . grind
         grind
       . cases h
   . obtain⟨a1,a2,a3,a4,a5,E,Z,N,a9⟩:=d;rw[bq,bq,fu]at h;unfold Ag at h;split at h
     . rename_i aA;obtain⟨g,aK,rfl⟩:=zP h;obtain⟨B,C⟩:=l.hi.elem p (by omega);obtain⟨ax,K,L⟩:=aj a9 B C aK;exact⟨.mk _ (by simp) (by simp) (by show g.length<=_;omega) (by simp) (λq c=>by cases c) K (λq c=>by cases c) (by simp) (by simp) (by simp) (λq c=>by cases c),o _ ⟨⟨s,z,by show(7:Int)=_;omega,by simp⟩,.inr (.inr (.inr (.inr (.inr (.inr (.inl ⟨rfl,rfl,rfl,rfl,rfl,rfl,rfl,by show(g.length:Int)<=_;omega,L⟩))))))⟩⟩
     . cases h
   . obtain⟨a1,a2,a3,a4,a5,E,Z,N,a9,ay,az⟩:=d;rw[bq,bq,bq,fu]at h;unfold Ah at h;split at h
     . rename_i aA;obtain⟨ks,cX,h⟩:=KN h;obtain⟨g,aK,rfl⟩:=zP h;obtain⟨B,C⟩:=l.hi.elem p (by omega);obtain⟨aP,aQ⟩:=l.hi.key p (by omega);obtain⟨ax,K,L⟩:=aj ay B C aK;obtain⟨rfl,aO⟩:=aH _ a9 (SW.rV _ R (by omega)).2 aP aQ cX;exact⟨.mk _ (by simp) (by show v.av.length<=_;omega) (by show g.length<=_;omega) (by simp) ap K (λq c=>by cases c) (by simp) (by simp) (by simp) (λq c=>by cases c),o _ ⟨⟨s,z,by show(8:Int)=_;omega,by simp⟩,.inr (.inr (.inr (.inr (.inr (.inr (.inr (.inl ⟨rfl,rfl,rfl,rfl,rfl,rfl,by show(v.av.length:Int)<=_;omega,by show g.length=v.av.length;omega,aO,L,az⟩)))))))⟩⟩
     . cases h
   . obtain⟨a1,a2,a3,a4,a5,E,Z,N,a9⟩:=d;rw[bq,bq,bq,bq,fu]at h;obtain⟨g,aK,rfl⟩:=zP h;obtain⟨B,C⟩:=l.hi.elem p (by omega);obtain⟨ax,K,L⟩:=aj a9 B C aK;exact⟨.mk _ (by simp) (by simp) (by show g.length<=_;omega) (by simp) (λq c=>by cases c) K (λq c=>by cases c) (by simp) (by simp) (by simp) (λq c=>by cases c),o _ ⟨⟨s,z,by show(9:Int)=_;omega,by simp⟩,.inr (.inr (.inr (.inr (.inr (.inr (.inr (.inr ⟨rfl,rfl,rfl,rfl,rfl,rfl,rfl,by show g.length<=1;omega,L⟩)))))))⟩⟩
 grind
theorem KP(b:dj tw)(a:dj tr):∀n,Er tw tr n
 |0=>λ_ _ _ _ _ _ _ _ _ h=>by cases h
 |n+1=>YO b a (KP b a n)
end
theorem ZP{s:aR}(H:iQ s.Types)(f:bM v)(i:wt v<=1099511627776)(e:b5 s.Types false t v)(c:sL (s,t,v)=some 0):
 lH (s,t,v)=some (lg s.Types t v):=by
 have h1:=aci H f i e;have d:sL ((⟨s.Types⟩:aR),t,v)=some 0:=c;rw[lH];simp only[I.aU];rw[d,h1];simp only[aT,ao];rw[bt];unfold lg;generalize bG s.Types t v=p;generalize et s.Types t v=l;by_cases g:4096<p.length
 . rw [ad (by have:(4096:Int)<p.length:= by omega
              simp[this]),ad (.inl g)]
 . by_cases b:200<l
   . rw [ad (by have:¬ (4096:Int)<p.length:= by omega
                have a:(200:Int)<l:=by omega
                simp[this,a]),ad (.inr b)]
   . rw [ak (by have:¬ (4096:Int)<p.length:= by omega
                have a:¬(200:Int)<l:=by omega
                simp[this,a]),bq]
theorem ZQ{s:aR}(H:iQ s.Types)(b:bM v)(c:wt v<=1099511627776)(a:b5 s.Types false t v)(i:sB (s,t,v)=some 0):
 q7 (s,t,v)=some (lg s.Types t v):=by
 have e:iY (s,t,v)=some (bG s.Types t v):=Dw H b c t a;have f:ml (s,t,v)=_:=ach H b c t a;rw[q7];simp only[I.aU];rw[i];simp only[aT,ao];rw[bt,e];simp only[ao];rw[f];unfold lg;generalize bG s.Types t v=p;generalize et s.Types t v=l;by_cases g:4096<p.length
 . have:decide ((4096:Int)<p.length)=true:=by simp;omega
   rw[this,bt];simp only[ao,eo];rw[ad trivial,ad (.inl g)]
 . have:decide ((4096:Int)<p.length)=false:=by simp;omega
   rw[this,hM];simp only[ao,dX];by_cases d:200<l
   . rw[bu,ad (.inr d)]
   . rw[cl,bq]
theorem LY(H:dj ts)(a:rU ts t v):lH ((⟨ts⟩:aR),t,v)=some (lg ts t v):=
 ZP (s:=⟨ts⟩) (H.V.ic H.T) a.2.1 (h9 a.2.2 (by decide)) a.1 (Gw H.T H.V a.2.1 a.1)
theorem LZ(H:dj ts)(a:rU ts t v):q7 ((⟨ts⟩:aR),t,v)=some (lg ts t v):=
 ZQ (s:=⟨ts⟩) (H.V.ic H.T) a.2.1 (h9 a.2.2 (by decide)) a.1 (Lg H.T H.V a.2.1 a.1)
noncomputable def hj (ts:List ah)(t:Int)(m:aj):I×Int:=
 if t<0\/(ts.length:Int)<=t then(eu,4)else if 4096<m.length then(eu,12)else match cZ ts 200 t m with
  |some v=>(v,0)
  |none=>(eu,12)
theorem ZR(ts:List ah)(t:Int)(m:aj):(∃e,e≠0/\hj ts t m=(eu,e))\/∃v,hj ts t m=(v,0)/\(0<=t/\t<ts.length)/\m.length<=4096/\cZ ts 200 t m=some v:=by
 unfold hj;by_cases h1:t<0\/(ts.length:Int)<=t
 . rw[ad h1];exact .inl ⟨4,by omega,rfl⟩
 . rw[ak h1];by_cases a:4096<m.length
   . rw[ad a];exact .inl ⟨12,by omega,rfl⟩
   . rw[ak a];cases b:cZ ts 200 t m with
     |none=>exact .inl ⟨12,by omega,rfl⟩
     |some v=>exact .inr ⟨v,rfl,by omega,by omega,rfl⟩
section
variable {ts:List ah}
theorem Kz(H:jo ts)(t:Int)(m:aj):sO ((⟨ts⟩:aR),t,m)=some (hj ts t m):=by
 rw[sO,GL,(px H.S.T H.V).1];simp only[aT,ao];unfold hj;by_cases h1:t<0\/(ts.length:Int)<=t
 . have c:(bif decide (t<0)then true else decide ((ts.length:Int)<=t))=true:=by rcases h1 with h1|h1<;>simp[h1]
   rw[bt,ad c,ad h1];rfl
 . have c:¬(bif decide (t<0)then true else decide ((ts.length:Int)<=t))=true:=by
    have a:¬t<0:=λh=>h1 (.inl h);have b:¬(ts.length:Int)<=t:=λh=>h1 (.inr h);simp[a,b]
   by_cases d:4096<m.length
   . rw[bt,ak c,bu,ak h1,ad d];rfl
   . have d1:=Mv H 200 (by omega) t m [] 0 [] (by omega) (by omega) (by omega) rfl;rw[bt,ak c,cl,ak h1,ak d];cases e:cZ ts 200 t m with
     |none=>
      obtain⟨w,f1,f2,f⟩:=d1.2 e;rw[f];rfl
     |some v=>
      rw[d1.1 v e];simp[I.aU]
theorem KA(H:jo ts)(t:Int)(m:aj):sq ((⟨ts⟩:aR),t,m)=some (hj ts t m):=by
 have f:kE ((⟨ts⟩:aR),t)=some (if t<0\/(ts.length:Int)<=t then 4 else 0):=by
  rw[kE,(px H.S.T H.V).2];simp only[aT,ao];rw[bt];by_cases h1:t<0\/(ts.length:Int)<=t
  . rw[ad h1,ad];rcases h1 with h1|h1<;>simp[h1]
  . rw[ak h1,ak];have a:¬t<0:=λh=>h1 (.inl h);have b:¬(ts.length:Int)<=t:=λh=>h1 (.inr h);simp[a,b]
 rw[sq,Gj,f];simp only[aT,ao];unfold hj;by_cases h1:t<0\/(ts.length:Int)<=t
 . simp only[ad h1];rfl
 . by_cases d:4096<m.length
   . simp only[ak h1];rw[bt,bu,ad d,zX (by simp)];rfl
   . have d2:=LP H 200 (by omega) t m [] (by omega) (by omega) (by omega) (by simp);rw[show((201-200:Nat):Int)=1 from rfl]at d2;simp only[ak h1];rw[bt,cl,ak d];cases e:cZ ts 200 t m with
     |none=>
      obtain⟨F,c⟩:=d2.2 e;rw[c];rfl
     |some v=>
      obtain⟨F,c⟩:=d2.1 v e;rw[c];simp[I.aU]
theorem abv(H:dj ts){m:aj}(ht:0<=t/\t<ts.length)(d:m.length<=4096)(h:cZ ts 200 t m=some v):rU ts t v:=by
 obtain⟨a,b,c⟩:=LS H 200 t m v (by omega) ht.1 ht.2 h;exact⟨a,b,by omega⟩
end
theorem Dk{m:aS}(a:bM v):sy (m,v)=some (dK m v):=by
 rw[sy];simp only[I.aU];unfold dK;cases b:m.bZ with
 |false=>rfl
 |true=>
  obtain⟨r,c,d⟩:=abk a m.bw;grind
theorem Hy(h:p.length<=100000:=by omega):uW p=some (dB p):=by
 rw[uW,hv,tj];have:=j6 (n:=p.length) (by omega);simp only[aT,ao];rw[ad (fW)];rfl
theorem aaz{c:Bool}(d:cr id)(h:p.length<=4096):Da (id,c,p)=some (fD id.toNat c p,0):=by
 unfold cr at d;obtain⟨n,rfl⟩:=BF (by omega:0<=id);have a:¬(n:Int)<1:=by omega
 have b:¬(1000:Int)<n:=by omega
 rw[Da,ak (by simp[a,b]),cl,Is (by omega),bd];rfl
section
variable {ts:List ah}
theorem He:∀{ms:List aS} {l:List I},((dH ts ms l).map λf=>f.id).Sublist (ms.map λm=>m.ae.toNat)
 |[],l=>by rw[dH]<;>simp
 |m::ms,[]=>by rw[dH]<;>simp
 |m::ms,v::l=>by
  rw[dH];split
  . exact(He (ms:=ms) (l:=l)).cons _
  . exact(He (ms:=ms) (l:=l)).cons₂ _
theorem aaA{l:List I}(c:gJ ms):(dH ts ms l).Pairwise (λa b=>a.id<b.id):=by
 have h1:(ms.map λm=>m.ae.toNat).Pairwise (· < ·):=oe.2 (c.1.imp_of_mem λ{a b} d e h=>by
  have:=c.2 a d;unfold cr at this
  omega)
 exact oe.1 (h1.sublist He)
theorem ZS(h:(ts.getD t.toNat aN).Kind=5)(c:v.Rest=[])(a:gJ (ts.getD t.toNat aN).ag):bG ts t v=(dH ts (ts.getD t.toNat aN).ag v.ai).flatMap Fd.text:=by
 rw[AB h];have b:kc (ts.getD t.toNat aN).ag v.Rest:=by rw[c];exact⟨.nil,λx d=>by cases d⟩
 congr 1
 have e:fr ts (ts.getD t.toNat aN).ag v.ai v.Rest=dH ts (ts.getD t.toNat aN).ag v.ai:=by
  unfold fr;grind
 rw[<-e];refine LU (LD (zb a b) (Lh a b)) ?_ λy=>(nA fj _).mem_iff;rw[e];exact aaA a
def iD(ts:List ah)(t:Int)(v:I):Prop:=k4 ((⟨ts⟩:aR),t,v)=some (bG ts t v)
theorem QY(b:∀m,m∈ms->cr m.ae)(af:v.ai.length=ms.length)(j:ms.length<=1000)(e:∀y,y∈v.ai->bM y)(hs:∀i,i<ms.length->ij ts (ms.getD i aE).aw (v.ai.getD i au)/\iD ts (ms.getD i aE).aw (v.ai.getD i au))(f:∀y,y∈v.ai->wt y<=3000):
 ∀(k i:Nat) (acc:aj),i+k=ms.length->acc.length<=i*4000->
 q6 (acc,ms,(ms.length:Int),(i:Int),ts,v)=some (acc++(dH ts (ms.drop i) (v.ai.drop i)).flatMap Fd.text)
 |0,i,acc,o,l=>by
  rw[q6,cl,ee (by omega:ms.length<=i),dH]
  . simp
  grind
 |k+1,i,acc,o,l=>by
  have aB:i<ms.length:=by omega
  have a:i<v.ai.length:=by omega
  have d:=bk a au;rw[q6,bu,ad (aQ aB)];simp only[aT,ao,bd,I.aU,jw];rw[ad (aQ a),Dk (e _ d),eB aB aE,eB a au,dH];obtain⟨h1,c⟩:=hs i aB;have t:=f _ d;unfold ij at h1;unfold iD at c;have g:=λacc=>QY b af j e hs f k (i+1) acc (by omega);cases s:dK (ms.getD i aE) (v.ai.getD i au)with
  |true=>
   simp only[ao,dp,bV,b6,bS];rw[bD,g acc (by omega)]
  |false=>
   simp only[ao,eN,bS,bV,b6];rw[ad (aQ a),c];simp only[ao];rw[aaz (b _ (bk aB aE)) (by omega)];simp only[ao];have q:=b _ (bk aB aE);unfold cr at q;have a1:=vJ (p:=bG ts (ms.getD i aE).aw (v.ai.getD i au)) (by omega);have a2:=AH (n:=2*(ms.getD i aE).ae.toNat+(if(ms.getD i aE).cp then 1 else 0)) (by split<;>omega);have r:(fD (ms.getD i aE).ae.toNat (ms.getD i aE).cp (bG ts (ms.getD i aE).aw (v.ai.getD i au))).length<=4000:=by
    unfold fD;grind
   rw[ad (fW),bD,g _ (by rw[c2];omega),hp];rfl
theorem QZ(b:¬x.Kind=8)(af:v.ai.length<=3000)(hs:∀y,y∈v.ai->(bG ts x.aG y).length<=3000/\iD ts x.aG y):
 ∀(k i:Nat) (acc:aj),i+k=v.ai.length->acc.length<=i*4000->
 k1 (acc,v.ai,(v.ai.length:Int),(i:Int),ts,v,x)=some (acc++(b7 ts x.aG (v.ai.drop i)).flatMap dB)
 |0,i,acc,d,c=>by
  rw[k1,cl,ee (by omega:v.ai.length<=i),b7];simp
 |k+1,i,acc,d,c=>by
  have aB:i<v.ai.length:=by omega
  obtain⟨h1,a⟩:=hs _ (bk aB au);unfold iD at a;rw[k1,bu,ad (aQ aB)];simp only[aT,ao,bd,I.aU];have a1:=vJ (p:=bG ts x.aG (v.ai.getD i au)) (by omega);rw[ak (by simp[b]),a];simp only[ao];rw[Hy];simp only[ao];rw[ad (fW),bD,QZ b af hs k (i+1) _ (by omega) (by rw[c2];omega),eB aB au,b7,e6,hp]
theorem Ov(d:x.Kind=8)(j:v.ai.length=v.av.length)(af:v.ai.length<=3000)(hs:∀y,y∈v.ai->(bG ts x.aG y).length<=3000/\iD ts x.aG y)(e:∀y,y∈v.av->(bG ts x.Key y).length<=3000/\iD ts x.Key y):
 ∀(k i:Nat) (acc:aj),i+k=v.ai.length->acc.length<=i*8000->
 k1 (acc,v.ai,(v.ai.length:Int),(i:Int),ts,v,x)=some (acc++gO (b7 ts x.Key (v.av.drop i)) (b7 ts x.aG (v.ai.drop i)))
 |0,i,acc,g,f=>by
  rw[k1,cl,ee (by omega:v.ai.length<=i),ee (by omega:v.av.length<=i),b7,b7,gO]
  . simp
  grind
 |k+1,i,acc,g,f=>by
  have aB:i<v.ai.length:=by omega
  have a:i<v.av.length:=by omega
  obtain⟨h1,b⟩:=hs _ (bk aB au);obtain⟨l,c⟩:=e _ (bk a au);unfold iD at b c;rw[k1,bu,ad (aQ aB)];simp only[aT,ao,bd,I.aU];have a1:=vJ (p:=bG ts x.aG (v.ai.getD i au)) (by omega);have a2:=vJ (p:=bG ts x.Key (v.av.getD i au)) (by omega);rw[ad (by simp[d]),ad (aQ a),c];simp only[ao];rw[Hy];simp only[ao];rw[ad (fW),b];simp only[ao];rw[Hy];simp only[ao];rw[ad (fW (by rw[c2];omega)),bD,Ov d j af hs e k (i+1) _ (by omega) (by rw[c2,c2];omega),eB aB au,eB a au,b7,b7,gO,hp,hp]
theorem aa9(H:iQ ts)(l:bM v)(i:b5 ts true t v)(s:v.Kind<=4):j1 (t,v,1,ts,0)=some (bG ts t v,ts,1):=by
 obtain⟨⟨q,r,g,_⟩,b⟩:=(eU _ _ _).1 i;have a:cw v.bc:=by cases l with|mk _ _ _ _ _ _ _ _ _ a _ _=>exact a
 obtain⟨j,rfl⟩:∃j:Nat,t=(j:Int):=⟨t.toNat,by omega⟩
 have c:j<ts.length:=by omega
 have k:=bk c aN;have m:=@Ax ts (j:Int) v;have d:=@Ay ts (j:Int) v;have o:=@Az ts (j:Int) v;have e:=@AA ts (j:Int) v;rw[j1];simp only[aT,ao];rw[ad (aQ c),show iv 0 1=1 by decide];simp only[bd,I.aU]at g b m d o e⊢;generalize ts.getD j aN=x at*;rcases b with h|h|h|h|h|h|h|h|h
 . grind
 . rw[ak (mt gR (by omega)),ad (jS (by omega)),d (by omega),D5 a];simp only[ao];have f:=Ak a;obtain⟨n,aD⟩:∃n:Nat,gf v.bc=(n:Int):=⟨(gf v.bc).toNat,by unfold gf;split<;>omega⟩
   rw[aD,bd]at f;rw[aD,D6 f];rfl
 . grind
 . obtain⟨n,aD,af⟩:∃n:Nat,v.ae=(n:Int)/\n<=1000:=by
    rcases h.2.2.2.2.2.2.2 with⟨y,p,u⟩|⟨_,h,_⟩
    . have:=H.S x k (by omega) y p;unfold cr at this;grind
    . cases h
   rw[ak (mt gR (by omega)),ak (mt gR (by omega)),ak (mt gR (by omega)),ad (jS (by omega)),e (by omega),aD,hv,D6 (by omega),bd];rfl
 all_goals omega
theorem adq(H:dj ts)(b:bM v)(a:b5 ts true t v)(hs:ij ts t v)(d:wt v<=3000)(c:v.Kind<=4):lH ((⟨ts⟩:aR),t,v)=some (bG ts t v,0):=by
 unfold ij at hs;rw[lH];simp only[I.aU];rw[Gw H.T H.V b (ov _ _ a)];simp only[aT,ao];rw[bt,aa9 (H.V.ic H.T) b a c];grind
theorem Ow(H:dj ts)(s:bM v):∀t,b5 ts true t v->wt v<=3000->iD ts t v:=by
 have u:=H.V.ic H.T;have D:=s;induction s with
 |mk v hs h1 ab af B r aj c' an ap aq Q P=>
  intro t c E;have O:=y2 H D t c E;obtain⟨⟨Y,Z,aa,J⟩,L⟩:=(eU _ _ _).1 c;obtain⟨j,rfl⟩:∃j:Nat,t=(j:Int):=⟨t.toNat,by omega⟩
  have z:j<ts.length:=by omega
  have C:=bk z aN;have K:=J rfl;have al:=fx v;have aX:∀y,y∈v.av->wt y<=3000:=λy b=>by have:=e' b;omega
  have l:∀y,y∈v.ai->wt y<=3000:=λy b=>by have:=e' b;omega
  have p:∀t y,y∈v.ai->b5 ts true t y->ij ts t y/\iD ts t y:=λt y b c=>⟨y2 H (r y b) t c (l y b),P y b (r y b) t c (l y b)⟩
  have G:∀t y,y∈v.av->b5 ts true t y->(bG ts t y).length<=3000/\iD ts t y:=λt y b c=>⟨by have:=y2 H (B y b) t c (aX y b);unfold ij at this;have:=aX y b;omega,Q y b (B y b) t c (aX y b)⟩
  have k:∀t y,y∈v.ai->b5 ts true t y->(bG ts t y).length<=3000/\iD ts t y:=λt y b c=>⟨by have:=(p t y b c).1;unfold ij at this;have:=l y b;omega,(p t y b c).2⟩
  have ax:=mS v.av;have ar:=mS v.ai;have am:=adq H D c O E;unfold iD;rw[k4,ad (aQ z)];simp only[aT,ao,I.aU];rw[bd]at*;rcases L with h|h|h|h|h|h|h|h|h
  . grind
  . grind
  . grind
  . grind
  . obtain⟨a1,a2,a3,a4,a5,d,o,e⟩:=h;obtain⟨g,R⟩:=u.A _ C (.inl (by omega));obtain⟨f1,f2⟩:=ik.1 e;have h0:=QY (ts:=ts) (ms:=(ts.getD j aN).ag) (v:=v) g.2 f1 (by omega) r (λi M=>p _ _ (bk (by omega) au) (f2 i M)) l (ts.getD j aN).ag.length 0 [] (by omega) (by simp);have f:q6 ([],(ts.getD j aN).ag,((ts.getD j aN).ag.length:Int),0,ts,v)=_:=h0;rw[ad (jS (by omega)),f];rw[ZS (by rw[bd];omega) K (by rw[bd];exact g),bd];rfl
  . obtain⟨a1,a2,a3,a4,a5,d⟩:=h;obtain⟨g,R⟩:=u.A _ C (.inr (by omega));cases bE:cH (ts.getD j aN).ag v.ae with
    |none=>rw[bE]at d;cases d.2.1
    |some m=>
     rw[bE]at d;obtain⟨b1,b2,b3⟩:=d;obtain⟨d3,d4⟩:=kI bE;obtain⟨q,S,U,W⟩:=E3 g (by omega) bE;have N:=g.2 m d3;unfold cr at N;have b:=bk (by omega:0<v.ai.length) au;obtain⟨z1,z2⟩:=k m.aw _ b (cW.1 b3 _ b);unfold iD at z2;obtain⟨n,aD⟩:∃n:Nat,v.ae=(n:Int):=⟨v.ae.toNat,by omega⟩
     have:=AH (n:=n) (by omega);rw[ak (mt gR (by omega)),ad (jS (by omega)),U];simp only[ao];rw[aD,hv,tj];simp only[ao];rw[ad (aQ S),ad (by rw[b2];rfl),bd,W,show(0:Int).toNat=0 from rfl,z2];simp only[ao];rw[ad (fW),AD (t:=(j:Int)) (v:=v) (by rw[bd];omega),bd,bE,aD,bd];have ah:b7 ts m.aw v.ai=[bG ts m.aw (v.ai.getD 0 au)]:=by
      match s:v.ai,b2 with
      |[a],_=>rw[b7,b7];rfl
     grind
  . obtain⟨a1,a2,a3,a4,a5,d,o,e,a9⟩:=h;have h0:=QZ (ts:=ts) (x:=ts.getD j aN) (v:=v) (by omega) (by omega) (λy b=>k _ y b (cW.1 a9 y b)) v.ai.length 0 [] (by omega) (by simp);have f:k1 ([],v.ai,(v.ai.length:Int),0,ts,v,ts.getD j aN)=_:=h0;rw[ak (mt gR (by omega)),ak (mt gR (by omega)),ak (mt gR (by omega)),ad (jS (by omega)),ad (jS (by omega)),f,AE (by rw[bd];omega),bd];rfl
  . obtain⟨a1,a2,a3,a4,a5,d,o,e,a9,F,X⟩:=h;have h0:=Ov (ts:=ts) (x:=ts.getD j aN) (v:=v) (by omega) e (by omega) (λy b=>k _ y b (cW.1 F y b)) (λy b=>G _ y b (cW.1 a9 y b)) v.ai.length 0 [] (by omega) (by simp);have f:k1 ([],v.ai,(v.ai.length:Int),0,ts,v,ts.getD j aN)=_:=h0;rw[ak (mt gR (by omega)),ak (mt gR (by omega)),ak (mt gR (by omega)),ak (mt gR (by omega)),ad (jS (by omega)),f,AF (by rw[bd];omega),bd];rfl
  . obtain⟨a1,a2,a3,a4,a5,d,o,e,a9⟩:=h;rw[ak (mt gR (by omega)),ak (mt gR (by omega)),ad (jS (by omega)),AG (by rw[bd];omega),bd]
    match w:v.ai,e with
    |[],_=>
     rw[vn,bt,b7];rfl
    |[a],_=>
     obtain⟨z1,z2⟩:=k (ts.getD j aN).aG a (by rw[w];exact .head _) (cW.1 a9 a (by rw[w];exact .head _));unfold iD at z2;rw[vn,hM,ad (show aH 0 [a].length=true from rfl)];simp only[I.aU];rw[show[a].getD (Int.toNat 0) au=a from rfl,z2];simp only[aT,ao];rw[ad (fW (by show 1+(bG ts (ts.getD j aN).aG a).length<=_;omega)),show aM .i64 0 1=1 from by decide,vn,ak (show ¬decide ((1:Int)<([a].length:Int))=true from by simp),b7,b7];rfl
end
theorem KB{a0 a2 a4 z0 z2 z4:Int}{a1 z1:Bool}{a3 z3:aj}{l l2:List I}{r:List bY}(af:l.length<=1000000000)(h:∀y,y∈l->j4 y=some y):∀(k i:Nat),i+k=l.length->
 sw ((l.length:Int),(i:Int),a0,a1,a2,a3,a4,z0,z1,z2,z3,z4,l,l2,r)=some (a0,a1,a2,a3,a4,z0,z1,z2,z3,z4,l,l2,r)
 |0,i,a=>by rw[sw,cl]
 |k+1,i,a=>by
  have aB:i<l.length:=by omega
  rw[sw,bu,ad (aQ aB),bd,bu];simp only[I.aU];rw[h _ (bk aB au)];simp only[aT,ao,I.aU];rw[ad (aQ aB),bu,bD,Dj aB];exact KB af h k (i+1) (by omega)
theorem JL{a0 a2 a4 z0 z2 z4:Int}{a1 z1:Bool}{a3 z3:aj}{l l2:List I}{r:List bY}(af:l.length<=1000000000)(h:∀y,y∈l->j4 y=some y):∀(k i:Nat),i+k=l.length->
 sx ((l.length:Int),(i:Int),a0,a1,a2,a3,a4,z0,z1,z2,z3,z4,l,l2,r)=some (a0,a1,a2,a3,a4,z0,z1,z2,z3,z4,l2,l,r)
 |0,i,a=>by rw[sx,cl]
 |k+1,i,a=>by
  have aB:i<l.length:=by omega
  rw[sx,bu,ad (aQ aB),bd,bu];simp only[I.aU];rw[h _ (bk aB au)];simp only[aT,ao,I.aU];rw[ad (aQ aB),bu,bD,Dj aB];exact JL af h k (i+1) (by omega)
theorem ZT(j:bM v):wt v<=1000000000->j4 v=some v:=by
 induction j with
 |mk v hs h1 o p s q t c' A B C m k=>
  intro u;have w:=fx v;have x:=mS v.av;have l2:=mS v.ai;have z:=LL v.Rest;have kk:∀y,y∈v.av->j4 y=some y:=λy a=>m y a (by have:=e' a;omega);have n:∀y,y∈v.ai->j4 y=some y:=λy a=>k y a (by have:=e' a;omega);have f:fC 120 v.av=some v.av:=by unfold fC;rw[ad (nI (vT))]
  have g:fC 120 v.ai=some v.ai:=by unfold fC;rw[ad (nI (vT))]
  have i:fC 24 v.Rest=some v.Rest:=by unfold fC;rw[ad (nI (vT))]
  have b:=KB (a0:=v.Kind) (a1:=v.bL) (a2:=v.bc) (a3:=v.bn) (a4:=v.ae) (z0:=0) (z1:=false) (z2:=0) (z3:=[]) (z4:=0) (l:=v.av) (l2:=v.ai) (r:=v.Rest) (by omega) kk v.av.length 0 (by omega);have d:=JL (a0:=v.Kind) (a1:=v.bL) (a2:=v.bc) (a3:=v.bn) (a4:=v.ae) (z0:=0) (z1:=false) (z2:=0) (z3:=[]) (z4:=0) (l:=v.ai) (l2:=v.av) (r:=v.Rest) (by omega) n v.ai.length 0 (by omega);have c:sw ((v.av.length:Int),0,v.Kind,v.bL,v.bc,v.bn,v.ae,0,false,0,[],0,v.av,v.ai,v.Rest)=_:=b;have e:sx ((v.ai.length:Int),0,v.Kind,v.bL,v.bc,v.bn,v.ae,0,false,0,[],0,v.ai,v.av,v.Rest)=_:=d;rw[j4,f,g,i];simp only[aT,ao];rw[c];simp only[ao];rw[e];simp only[ao];cases v;rfl
theorem Rc(b:path.length<=90000)(a:aq):sv (tw,tr,a,path)=some ((⟨0,false,0,[],0,[],[],[]⟩:I),false,tw,tr,path,path):=by
 rw[sv];unfold tg fC;rw[ad (nI (cP (by omega) (by omega)))];simp
theorem DR(b:path.length<=90000)(id:Int)(a:aq):uQ (id,tw,tr,a,path)=some ((⟨0,false,0,[],0,[],[],[]⟩:I),false,tw,tr,path,path++[id]):=by
 rw[uQ];unfold tg fC;rw[ad (nI (cP (by omega) (by omega)))];simp only[fZ,aT,ao];rw[hM,ad (cP)]
theorem DS(af:x.ag.length<=1000)(id:Int):ha (x,id)=some (lQ x.ag id):=by
 obtain⟨r,a,b⟩:=vB (t:=x) (id:=id) (by omega);rw[a,Gn b (KM _ _)]
section
variable {tw tr:List ah}
def fz(tw tr:List ah)(a path:aq):I ⊕ aq->I×Bool×List ah×List ah×aq×aq
 |.inl u=>(u,true,tw,tr,a,path)
 |.inr p=>(⟨0,false,0,[],0,[],[],[]⟩,false,tw,tr,p,path)
def Eo(tw tr:List ah)(a path:aq)(acc:List I):List I ⊕ aq->(Bool×List ah×List ah×aq×aq) ⊕ (List ah×List ah×aq×List I×aq)
 |.inl us=>.inr (tw,tr,a,acc++us,path)
 |.inr p=>.inl (false,tw,tr,p,path)
def oC(tw tr:List ah)(a path:aq):List I ⊕ aq->List I×Bool×List ah×List ah×aq×aq
 |.inl us=>(us,true,tw,tr,a,path)
 |.inr p=>([],false,tw,tr,p,path)
def Part(tw tr:List ah)(f:fI)(path:aq)(t rt:Int)(v:I):Prop:=∀(step:Int) (a:aq),q9 (step,t,v,rt,tw,tr,a,path)=some (fz tw tr a path (f t v rt (path++[step])))
theorem L0{step:Int}{a:aq}{o:I ⊕ aq}(c:path.length<=90000)(h:sA (t,v,rt,tw,tr,a,path++[step])=some (fz tw tr a (path++[step]) o)):q9 (step,t,v,rt,tw,tr,a,path)=some (fz tw tr a path o):=by
 rw[q9];simp only[aT,ao,I.aU];rw[ad (cP),h];have aK:df .i64 ((path++[step]).length:Int) 1=(path.length:Int):=by rw[hG (by simp<;>omega) (by simp<;>omega)];simp
 have b:dS 0 (path.length:Int) (path++[step]).length=true:=iK.2 (by simp;omega);cases o with
 |inl u=>
  simp only[ao,I.aU,fz];simp_all
 |inr p=>
  simp only[ao,I.aU,fz];simp_all
theorem SO{l:List I}(af:l.length<=50000)(h:∀y,y∈l->Part tw tr f path t rt y):∀(k i:Nat) (acc:List I) (a:aq),i+k=l.length->acc.length<=i->
 sU (t,rt,l,(l.length:Int),(i:Int),tw,tr,a,acc,path)=some (Eo tw tr a path acc (eY f path t rt i (l.drop i)))
 |0,i,acc,a,c,b=>by
  rw[sU,cl,ee (by omega:l.length<=i)];simp[eY,Eo]
 |k+1,i,acc,a,c,b=>by
  have aB:i<l.length:=by omega
  rw[sU,bu,ad (aQ aB),bd];simp only[I.aU];rw[h _ (bk aB au),eB aB au,eY];cases f t (l.getD i au) rt (path++[(i:Int)])with
  |inr p=>rfl
  |inl u=>
   simp only[aT,ao,fz,dp,I.aU];rw[bt,ad (cP),bD,SO af h k (i+1) _ a (by omega) (by simp;omega)];cases eY f path t rt (i+1) (l.drop (i+1))with
   |inr p=>rfl
   |inl us=>simp[Eo,iW]
theorem y3{l:List I}(af:l.length<=50000)(h:∀y,y∈l->Part tw tr f path t rt y)(a:aq):
 nW (t,l,rt,tw,tr,a,path)=some (oC tw tr a path (eY f path t rt 0 l)):=by
 have h0:=SO af h l.length 0 [] a (by omega) (by simp);have b:sU (t,rt,l,(l.length:Int),0,tw,tr,a,[],path)=_:=h0;rw[nW,b,fE];cases eY f path t rt 0 l with
 |inr p=>rfl
 |inl us=>rfl
def uj(tw tr:List ah)(a path:aq)(x:ah)(v:I)(y:ah)(acc:List I):List I ⊕ aq->(Bool×List ah×List ah×aq×I×aq) ⊕ (List ah×List ah×aq×ah×I×ah×Int×Bool×Int×aj×Int×Int×Bool×Int×aj×Int×aq×List I)
 |.inl us=>.inr (tw,tr,a,x,v,y,0,false,0,[],0,v.Kind,false,0,[],0,path,acc++us)
 |.inr p=>.inl (false,tw,tr,p,⟨0,false,0,[],0,[],[],[]⟩,path)
theorem L1(c:path.length<=90000)(s:x.ag.length<=1000)(D:y.ag.length<=1000)(af:v.ai.length=x.ag.length)(r:∀q,q∈v.ai->bM q)
 (g:∀n,n∈y.ag->n.bZ=true->j4 n.bw=some n.bw)
 (h:∀i,i<x.ag.length->∀n,n∈y.ag->Part tw tr f path (x.ag.getD i aE).aw n.aw (v.ai.getD i au)/\∀p u,f (x.ag.getD i aE).aw (v.ai.getD i au) n.aw p= .inl u->bM u):∀(k j:Nat) (acc:List I) (a:aq),j+k=y.ag.length->acc.length<=j->
 oP (y.ag,(y.ag.length:Int),(j:Int),tw,tr,a,x,v,y,0,false,0,[],0,v.Kind,false,0,[],0,path,acc)=some (uj tw tr a path x v y acc (ji f x v path (y.ag.drop j)))
 |0,j,acc,a,B,w=>by
  rw[oP,cl,ee (by omega:y.ag.length<=j)];simp[ji,uj,I.aU]
 |k+1,j,acc,a,B,w=>by
  have aB:j<y.ag.length:=by omega
  have l:=bk aB aE;have t:=λacc a=>L1 c s D af r g h k (j+1) acc a (by omega);rw[oP,bu,ad (aQ aB),bd];simp only[aT,ao,I.aU,jw];rw[DS s,eB aB aE,ji];unfold wx lQ;generalize aD:y.ag.getD j aE=n at*;cases bE:hl x.ag n.ae with
  |none=>
   simp only[ao,eN];rw[ad trivial];cases A:n.bZ with
   |false=>
    simp only[eN];rw[ad trivial,DR c];rfl
   |true=>
    simp only[dp];rw[bt,g n l A];simp only[ao];rw[ad (cP),bD,t _ _ (by simp;omega),ad trivial];cases ji f x v path (y.ag.drop (j+1))with
    |inr p=>rfl
    |inl us=>simp[uj,iW]
  |some i=>
   obtain⟨d,_,_⟩:=j9 bE;have e:i<v.ai.length:=(by omega);obtain⟨E,F⟩:=h i d n l;simp only[ao,dp];rw[bt,ad (aQ d),ad (aQ e),bd,E n.ae a];have o:=Dk (m:=x.ag.getD i aE) (r _ (bk e au));cases z:f (x.ag.getD i aE).aw (v.ai.getD i au) n.aw (path++[n.ae])with
   |inr p=>
    simp only[ao,fz,I.aU,eN,dp,Bool.and_false];rw[ad (aQ d),ad (aQ e),o];simp only[ao,bV,b6];rw[LV];generalize dK (x.ag.getD i aE) (v.ai.getD i au)=b at*;cases b with
    |false=>rfl
    |true=>
     simp only[eo];rw[ad trivial,DR c];rfl
   |inl u=>
    have C:=Dk (m:=n) (F _ u z);simp only[ao,fz,I.aU,eN,dp,yl];rw[ad (aQ d),ad (aQ e),o];simp only[ao,bV,b6];rw[LW];generalize dK (x.ag.getD i aE) (v.ai.getD i au)=b at*;have tail:(some [u]>>=λt110=>if room 120 (acc++t110).length then oP (y.ag,(y.ag.length:Int),aM .i64 (j:Int) 1,tw,tr,a,x,v,y,0,false,0,[],0,v.Kind,false,0,[],0,path,acc++t110)else none)=some (uj tw tr a path x v y acc (iW (.inl u) (ji f x v path (y.ag.drop (j+1))))):=by
     simp only[aT,ao];rw[ad (cP),bD,t _ _ (by simp;omega)];cases ji f x v path (y.ag.drop (j+1))with
     |inr p=>rfl
     |inl us=>simp[uj,iW]
    cases b with
    |false=>grind
    |true=>
     rw[ad rfl,C];cases G:dK n u with
     |true=>grind
     |false=>
      simp only[ao,eo,dX,eN,and_self,bS];rw[DR c];rfl
def AZ(tw tr:List ah)(a path:aq)(v:I)(its:List I)(acc:List bY):List bY ⊕ aq->(Bool×List ah×List ah×I×aq×aq) ⊕ (List ah×List ah×aq×Int×Bool×Int×aj×Int×Int×Bool×Int×aj×Int×aq×List I×List bY)
 |.inl b=>.inr (tw,tr,a,0,false,0,[],0,v.Kind,false,0,[],0,path,its,acc++b)
 |.inr p=>.inl (false,tw,tr,⟨0,false,0,[],0,[],[],[]⟩,path,p)
theorem Ls(g:path.length<=90000)(r:x.ag.length<=1000)(l:y.ag.length<=1000)(af:v.ai.length=x.ag.length)(j:∀q,q∈v.ai->bM q)
 (h:∀i,i<x.ag.length->iD tw (x.ag.getD i aE).aw (v.ai.getD i au)){its:List I}(d:aq):∀(k i:Nat) (acc:List bY),i+k=x.ag.length->acc.length<=i->
 ni (x.ag,(x.ag.length:Int),(i:Int),tw,tr,d,v,y,0,false,0,[],0,v.Kind,false,0,[],0,path,its,acc)=some (AZ tw tr d path v its acc (iz tw y path (x.ag.drop i) (v.ai.drop i)))
 |0,i,acc,n,m=>by
  rw[ni,cl,ee (by omega:x.ag.length<=i),iz]
  . simp[AZ]
  grind
 |k+1,i,acc,n,m=>by
  have aB:i<x.ag.length:=by omega
  have c:i<v.ai.length:=by omega
  have e:=λacc=>Ls g r l af j h (its:=its) d k (i+1) acc (by omega);rw[ni,bu,ad (aQ aB),bd];simp only[aT,ao,I.aU,jw];rw[DS l,eB aB aE,eB c au,iz];have hs:=vI y.ag (x.ag.getD i aE).ae;have o:(lQ y.ag (x.ag.getD i aE).ae).2=(cH y.ag (x.ag.getD i aE).ae).isSome:=by
   rw[<-hs];unfold lQ;grind
  simp only[ao];rw[o];by_cases a:(cH y.ag (x.ag.getD i aE).ae).isSome=true
  . rw[ad a,ad a,bD,e _ (by omega)]
  rw[ak a,ak a];by_cases b:(x.ag.getD i aE).cp=true
  . rw[ad b,ad b,DR g];rfl
  rw[ak b,ak b,ad (aQ c),Dk (j _ (bk c au))];simp only[ao];cases dK (x.ag.getD i aE) (v.ai.getD i au)with
  |true=>rw[bt,ad rfl,bD,e _ (by omega)]
  |false=>
   have f:=h i aB;unfold iD at f;rw[ad (show(!false)=true from rfl),ak (show ¬false=true by simp),ad (aQ c),f];simp only[ao];rw[ad (cP),bD,e _ (by simp;omega)];cases iz tw y path (x.ag.drop (i+1)) (v.ai.drop (i+1))with
   |inr p=>rfl
   |inl us=>simp[AZ,iW]
theorem ZU(b:path.length<=90000)(m:v.Kind=5)(d:x.ag.length<=1000)(e:y.ag.length<=1000)(af:v.ai.length=x.ag.length)(c:∀q,q∈v.ai->bM q)
 (k:∀n,n∈y.ag->n.bZ=true->j4 n.bw=some n.bw)
 (h:∀i,i<x.ag.length->∀n,n∈y.ag->Part tw tr f path (x.ag.getD i aE).aw n.aw (v.ai.getD i au)/\∀p u,f (x.ag.getD i aE).aw (v.ai.getD i au) n.aw p= .inl u->bM u)
 (l:∀i,i<x.ag.length->iD tw (x.ag.getD i aE).aw (v.ai.getD i au))(a:aq):
 yD (x,v,y,tw,tr,a,path)=some (fz tw tr a path (wv tw f x y v path)):=by
 have h0:=L1 b d e af c k h y.ag.length 0 [] a (by omega) (by simp);have g:oP (y.ag,(y.ag.length:Int),0,tw,tr,a,x,v,y,0,false,0,[],0,v.Kind,false,0,[],0,path,[])=_:=h0;rw[yD];simp only[I.aU];rw[g,fE];unfold wv;cases ji f x v path y.ag with
 |inr p=>rfl
 |inl its=>
  have h1:=Ls (tr:=tr) b d e af c l (its:=its) a x.ag.length 0 [] (by omega) (by simp);have j:ni (x.ag,(x.ag.length:Int),0,tw,tr,a,v,y,0,false,0,[],0,v.Kind,false,0,[],0,path,its,[])=_:=h1;simp only[aT,ao,uj,fR,I.aU];rw[j,fE,fE];cases iz tw y path x.ag v.ai with
  |inr p=>rfl
  |inl r=>simp only[ao,AZ,fR,m,mc,h7,fz]
theorem aaB(l:path.length<=90000)(g:v.Kind=6)(m:x.ag.length<=1000)(o:y.ag.length<=1000)(h1:v.ai.length=1){i:Nat}(a:hl x.ag v.ae=some i)
 (h:∀n,n∈y.ag->Part tw tr f path (x.ag.getD i aE).aw n.aw (v.ai.getD 0 au))
 (c:iD tw (x.ag.getD i aE).aw (v.ai.getD 0 au))(j:aq):
 yK (x,v,y,tw,tr,j,path)=some (fz tw tr j path (tV tw f x y v path)):=by
 obtain⟨d,_,_⟩:=j9 a;have b:aH 0 v.ai.length=true:=by rw[h1];rfl
 rw[yK,DS m,DS o];unfold tV lQ;simp only[aT,ao,I.aU,a];cases bE:hl y.ag v.ae with
 |some k=>
  obtain⟨e,_,_⟩:=j9 bE;simp only;rw[ad trivial,ad (aQ d),ad b,ad (aQ e),bd,bd,show(0:Int).toNat=0 from rfl,h _ (bk e aE)];cases f (x.ag.getD i aE).aw (v.ai.getD 0 au) (y.ag.getD k aE).aw (path++[v.ae])with
  |inr p=>
   simp only[ao,fz,eN,h7];rw[ad trivial]
  |inl u=>
   simp only[ao,fz,dp,h7,I.aU,g];rw[bt]
 |none=>
  simp only;rw[bt];cases y.Open with
  |false=>
   simp only[eN];rw[ad trivial,Rc l];simp only[ao,I.aU,bV,b6,fz]
  |true=>
   unfold iD at c;simp only[dp];rw[bt,ad (aQ d),ad b,bd,show(0:Int).toNat=0 from rfl,c];simp only[ao,bS,fz,g]
def wW(tw tr:List ah)(n:Nat):Prop:=∀{v:I},bM v->wt v<=3000->wt v<=n->∀{t rt:Int} {path:aq} (a:aq),b5 tw true t v->0<=rt->rt<tr.length->path.length+n<=50000->
 sA (t,v,rt,tw,tr,a,path)=some (fz tw tr a path (ej tw tr n t v rt path))
theorem aaC(H:dj tw)(g:dj tr){n:Nat}(ih:wW tw tr n):wW tw tr (n+1):=by
 intro v aA aW aD t rt path e K ba U aU;have SW:=H.V.ic H.T;have cx:=g.V.ic g.T;have aX:=fx v;obtain⟨⟨aM,aO,an,ap⟩,X⟩:=(eU _ _ _).1 K;obtain⟨j,rfl⟩:∃j:Nat,t=(j:Int):=⟨t.toNat,by omega⟩
 obtain⟨k,rfl⟩:∃k:Nat,rt=(k:Int):=⟨rt.toNat,by omega⟩
 have Z:j<tw.length:=by omega
 have aa:k<tr.length:=by omega
 have ab:=bk Z aN;have z:=bk aa aN;have aS:=ap rfl;cases aA with
 |mk _ hs h1 aP aR ar C aV c' aZ a6 a7=>
 rw[sA,ad (aQ Z),Cx];simp only[aT,ao,bd,I.aU];rw[bd]at an X;rw[ad (aQ aa)];have am:∀q,q∈(tr.getD k aN).ag->q.bZ=true->j4 q.bw=some q.bw:=λq a aq=>ZT ((g.T _ z).jb _ a) (by have:=g.W _ z q a aq;omega);generalize aY:tw.getD j aN=x at*;generalize O:tr.getD k aN=y at*;have M:∀y,y∈v.ai->wt y<=3000/\wt y<=n:=λy O=>by have:=e' O;omega
 have aj:∀y,y∈v.av->wt y<=3000/\wt y<=n:=λy O=>by have:=e' O;omega
 have L:∀{t rt:Int} {q:I},q∈v.ai->b5 tw true t q->0<=rt->rt<tr.length->Part tw tr (ej tw tr n) path t rt q:=λ{t rt q} a K a0 a1 step e=>L0 (by omega) (ih (C q a) (M q a).1 (M q a).2 e K a0 a1 (by simp;omega));have aH:∀{t rt:Int} {q:I},q∈v.av->b5 tw true t q->0<=rt->rt<tr.length->Part tw tr (ej tw tr n) path t rt q:=λ{t rt q} a K a0 a1 step e=>L0 (by omega) (ih (ar q a) (aj q a).1 (aj q a).2 e K a0 a1 (by simp;omega));have a':=mS v.av;have a8:=mS v.ai;have F:=Rc (tw:=tw) (tr:=tr) (path:=path) (by omega) e;by_cases bH:x.Kind=y.Kind
 . rw[ak (show ¬(!(decide (x.Kind=y.Kind)))=true by simp[bH])];have P:∀{t rt:Int},v.ai=[]->nW (t,v.ai,rt,tw,tr,e,path)=some ([],true,tw,tr,e,path):=λ{t rt} he=>by
    have:=y3 (tw:=tw) (tr:=tr) (f:=ej tw tr n) (path:=path) (t:=t) (rt:=rt) (l:=v.ai) (by omega) (λq a=>by rw[he]at a;cases a) e;rw[this,he];rfl
   rcases X with h|h|h|h|h|h|h|h|h
   . obtain⟨a1,a2,a3,a4,a5,d,D⟩:=h;have b:x.Kind=1:=(by omega);have af:jA x y v:=⟨λh=>by omega,λh=>by omega,λh=>by omega⟩
     rw[qS bH (by omega) af];simp only[b];simp only[P d,ao,de,bV,b6,Int.reduceEq,dp,fz];cases v;simp_all
   . obtain⟨a1,a2,a3,a4,a5,d,D,E,a9⟩:=h;have b:x.Kind=2:=(by omega);by_cases af:y.bA<=v.bc/\v.bc<=y.bC
     . rw[qS bH (by omega) (show jA x y v from⟨λ_=>af,λh=>by omega,λh=>by omega⟩)];simp only[b];simp only[P d,af.1,af.2,ao,de,dq,bV,b6,bS,Int.reduceEq,dp,eo,fz];cases v;simp_all
     . rw[vU bH (by omega) (show ¬jA x y v fromλh=>af (h.1 b))];have J:(bif decide (y.bA<=v.bc)then decide (v.bc<=y.bC)else false)=false:=by
        by_cases c:y.bA<=v.bc<;>simp[c];omega
       simp only[b,J];simp only[F,ao,dq,bS,eN,fz,I.aU]
   . obtain⟨a1,a2,a3,a4,a5,d,D,E⟩:=h;have b:x.Kind=3:=(by omega);by_cases af:(v.bn.length:Int)<=y.Max
     . rw[qS bH (by omega) (show jA x y v from⟨λh=>by omega,λ_=>af,λh=>by omega⟩)];simp only[b];simp only[P d,af,ao,de,dq,bV,b6,bS,Int.reduceEq,dp,eo,fz];cases v;simp_all
     . rw[vU bH (by omega) (show ¬jA x y v fromλh=>af (h.2.1 b))];simp only[b];simp only[F,af,ao,dq,de,bS,b6,Int.reduceEq,bV,eN,fz,I.aU]
   . obtain⟨a1,a2,a3,a4,a5,d,D,E⟩:=h;have b:x.Kind=4:=(by omega);obtain⟨r,U,_,aJ⟩:=qF (t:=y) v.ae (by have:=(g.T _ z).1;have:=dz (ef reachBytes);omega);have G:r.2=true↔∃s,s∈y.bg/\s.ae=v.ae:=by
      rcases aJ with⟨q,o,S,_,rfl⟩|⟨q,rfl⟩
      . exact⟨λ_=>⟨_,bk o dL,S⟩,λ_=>rfl⟩
      . constructor
        . intro h;simp at h
        intro a;obtain⟨s,s1,aK⟩:=a;obtain⟨i,C,rfl⟩:=eZ s1;exact absurd aK (by have:=q i C;rwa [dv C]at this)
     by_cases af:(∃s,s∈y.bg/\s.ae=v.ae)\/y.Open=true
     . rw[qS bH (by omega) (show jA x y v from⟨λh=>by omega,λh=>by omega,λ_=>af⟩)];have J:(bif r.2 then true else y.Open)=true:=by
        rcases af with af|af
        . rw[G.2 af];rfl
        . rw[af];cases r.2<;>rfl
       simp only[b,U];simp only[P d,J,ao,de,dq,bV,b6,bS,Int.reduceEq,dp,fz];cases v;simp_all
     . rw[vU bH (by omega) (show ¬jA x y v fromλh=>af (h.2.2 b))];have J:(bif r.2 then true else y.Open)=false:=by
        cases ay:r.2 with
        |true=>exact absurd (.inl (G.1 ay)) af
        |false=>
         cases aw:y.Open with
         |true=>exact absurd (.inr aw) af
         |false=>rfl
       simp only[b,U];simp only[F,J,ao,dq,de,bS,b6,Int.reduceEq,bV,eN,fz,I.aU]
   . obtain⟨a1,a2,a3,a4,a5,d,D,E⟩:=h;have b:x.Kind=5:=(by omega);obtain⟨ah,aB⟩:=SW.A _ ab (.inl (by omega));obtain⟨aC,aF⟩:=cx.A _ z (.inl (by omega));obtain⟨f1,f2⟩:=ik.1 E
     have G:=ZU (tw:=tw) (tr:=tr) (f:=ej tw tr n) (path:=path) (by omega) (x:=x) (y:=y) a1 (by omega) (by omega) f1 C am (λi N q a=>by
      have w:=bk (by omega:i<v.ai.length) au;obtain⟨B,o⟩:=g.hi.mem z a;exact⟨L w (f2 i N) B o,λp u az=>(KP H g n (C _ w) (M _ w).1 (f2 i N) B o az).1⟩) (λi N=>by
      have w:=bk (by omega:i<v.ai.length) au
      exact Ow H (C _ w) _ (f2 i N) (M _ w).1) e
     rw[Rm bH b];simp only[b,G,ao,de,dq,bV,b6,bS,Int.reduceEq,I.aU]
   . obtain⟨a1,a2,a3,a4,a5,d⟩:=h;have b:x.Kind=6:=(by omega);obtain⟨ah,aB⟩:=SW.A _ ab (.inr (by omega));obtain⟨aC,aF⟩:=cx.A _ z (.inr (by omega));cases bE:cH x.ag v.ae with
     |none=>rw[bE]at d;cases d.2.1
     |some m=>
      rw[bE]at d;obtain⟨b1,b2,b3⟩:=d;have R:=vI x.ag v.ae;rw[bE]at R;cases Q:hl x.ag v.ae with
      |none=>rw[Q]at R;cases R
      |some i=>
      obtain⟨d1,d2,_⟩:=j9 Q;obtain⟨d3,d4⟩:=kI bE;have em:x.ag.getD i aE=m:=qR ah (bk d1 aE) d3 (by rw[d2,d4]);have w:=bk (by omega:0<v.ai.length) au;have Y:=cW.1 b3 _ w
      have G:=aaB (tw:=tw) (tr:=tr) (f:=ej tw tr n) (path:=path) (by omega) (x:=x) (y:=y) a1 (by omega) (by omega) b2 Q (λq a=>by
       obtain⟨B,o⟩:=g.hi.mem z a;rw[em]
       exact L w Y B o) (by rw[em];exact Ow H (C _ w) _ Y (M _ w).1) e
      rw[Rn bH b];simp only[b,G,ao,de,dq,bV,b6,bS,Int.reduceEq,I.aU]
   . obtain⟨a1,a2,a3,a4,a5,d,D,E,a9⟩:=h;have b:x.Kind=7:=(by omega);obtain⟨B,o⟩:=g.hi.elem z (by omega);have a:=y3 (tw:=tw) (tr:=tr) (f:=ej tw tr n) (path:=path) (t:=x.aG) (rt:=y.aG) (l:=v.ai) (by omega) (λq a=>L a (cW.1 a9 q a) B o) e;rw[Ro bH b];unfold Ag;by_cases af:(v.ai.length:Int)<=y.Max
     . rw[ad af];simp only[b,a,af,ao,de,dq,bV,b6,bS,Int.reduceEq,dp];cases eY (ej tw tr n) path x.aG y.aG 0 v.ai with
       |inr p=>rfl
       |inl us=>simp only[oC,h7,fz,dp,bV,b6,a1,a2,a3,a4,a5]
     . rw[ak af];simp only[b];simp only[F,af,ao,dq,de,bS,b6,Int.reduceEq,bV,eN,fz,I.aU]
   . obtain⟨a1,a2,a3,a4,a5,d,D,E,a9,al,aL⟩:=h;have b:x.Kind=8:=(by omega);obtain⟨B,o⟩:=g.hi.elem z (by omega);obtain⟨S,aI⟩:=g.hi.key z (by omega);have a:=y3 (tw:=tw) (tr:=tr) (f:=ej tw tr n) (path:=path) (t:=x.aG) (rt:=y.aG) (l:=v.ai) (by omega) (λq a=>L a (cW.1 al q a) B o) e;have ax:=y3 (tw:=tw) (tr:=tr) (f:=ej tw tr n) (path:=path) (t:=x.Key) (rt:=y.Key) (l:=v.av) (by omega) (λq a=>aH a (cW.1 a9 q a) S aI) e;rw[Rp bH b];unfold Ah;by_cases af:(v.ai.length:Int)<=y.Max
     . rw[ad af];simp only[b,ax,af,ao,de,dq,bV,b6,bS,Int.reduceEq,dp];cases eY (ej tw tr n) path x.Key y.Key 0 v.av with
       |inr p=>rfl
       |inl ks=>
        simp only[oC,mc,dp,bV,b6,a,ao];cases eY (ej tw tr n) path x.aG y.aG 0 v.ai with
        |inr p=>rfl
        |inl us=>simp only[oC,h7,fz,dp,bV,b6,a1,a2,a3,a4,a5]
     . rw[ak af];simp only[b];simp only[F,af,ao,dq,de,bS,b6,Int.reduceEq,bV,eN,fz,I.aU]
   . obtain⟨a1,a2,a3,a4,a5,d,D,E,a9⟩:=h;have b:x.Kind=9:=(by omega);obtain⟨B,o⟩:=g.hi.elem z (by omega);have a:=y3 (tw:=tw) (tr:=tr) (f:=ej tw tr n) (path:=path) (t:=x.aG) (rt:=y.aG) (l:=v.ai) (by omega) (λq a=>L a (cW.1 a9 q a) B o) e;rw[Rq bH b];unfold Ai;simp only[b,a,ao,de,dq,bV,b6,bS,Int.reduceEq,dp];cases eY (ej tw tr n) path x.aG y.aG 0 v.ai with
     |inr p=>rfl
     |inl us=>simp only[oC,h7,fz,dp,bV,b6,a1,a2,a3,a4,a5]
 . rw[ad (show(!(decide (x.Kind=y.Kind)))=true by simp[bH]),Ou bH,F];simp only[ao,I.aU,fz]
theorem aaD:wW tw tr 0:=by
 unfold wW;intro v _ _ aD;have:=OS v;omega
theorem Lt(b:dj tw)(a:dj tr):∀n,wW tw tr n
 |0=>aaD
 |n+1=>aaC b a (Lt b a n)
end
def hy:I ⊕ aq->dI
 |.inl u=>⟨u,[],true⟩
 |.inr p=>⟨⟨0,false,0,[],0,[],[],[]⟩,p,false⟩
theorem Co(a:path.length<=90000):kz path=some (hy (.inr path)):=by
 rw[kz,ad (cP),fR];rfl
theorem Ae(a:path.length<=90000)(step:Int):qA (path,step)=some (path++[step]):=by
 rw[qA,ad (cP),fR];simp only[aT,ao];rw[ad (cP)]
theorem FE{m:aS}(b:bM m.bw)(v:I):uP (m,v)=some (dK m v):=by
 rw[uP];simp only[I.aU];unfold dK;cases d:m.bZ with
 |false=>rfl
 |true=>
  obtain⟨r,c,a⟩:=abj b v;rw[ad rfl,c];by_cases e:m.bw=v
  . have:=a.2 e;subst this;simp[e]
  . have:r=false:=by
     cases r with
     |false=>rfl
     |true=>exact absurd (a.1 rfl) e
    subst this;simp[e]
theorem DT(af:x.ag.length<=1000)(id:Int):hA (x,id)=some (lQ x.ag id):=by
 obtain⟨r,a,b⟩:=BT (t:=x) (id:=id) (by omega);rw[a,Gn b (KM _ _)]
section
variable {tw tr:List ah}
def oD(tw tr:List ah)(f:fI)(path:aq)(t rt:Int)(v:I):Prop:=∀step:Int,mq ((⟨tw⟩:aR),t,v,(⟨tr⟩:aR),rt,path++[step])=some (hy (f t v rt (path++[step])))
def AY(tw tr:List ah)(path:aq)(x y:ah)(v:I)(acc:List I):List I ⊕ aq->dI ⊕ (aq×List ah×I×List ah×Int×Bool×Int×aj×Int×Bool×ah×ah×Int×Bool×Int×aj×Int×List bY×List I)
 |.inl us=>.inr (path,tw,v,tr,0,false,0,[],0,false,x,y,v.Kind,v.bL,v.bc,v.bn,v.ae,v.Rest,acc++us)
 |.inr p=>.inl (hy (.inr p))
theorem Lu(a:path.length<=90000)(af:v.av.length<=50000)(h:∀q,q∈v.av->oD tw tr f path x.Key y.Key q):∀(k i:Nat) (acc:List I),i+k=v.av.length->acc.length<=i->
 nQ (path,(i:Int),tw,v,tr,0,false,0,[],0,false,x,y,v.Kind,v.bL,v.bc,v.bn,v.ae,v.Rest,acc)=some (AY tw tr path x y v acc (eY f path x.Key y.Key i (v.av.drop i)))
 |0,i,acc,c,b=>by
  rw[nQ,cl,ee (by omega:v.av.length<=i)];simp[eY,AY,I.aU]
 |k+1,i,acc,c,b=>by
  have aB:i<v.av.length:=by omega
  rw[nQ,bu,ad (aQ aB),bd,Ae a];simp only[I.aU,aT,ao];rw[h _ (bk aB au),eB aB au,eY];cases f x.Key (v.av.getD i au) y.Key (path++[(i:Int)])with
  |inr p=>rfl
  |inl u=>
   simp only[ao,hy,dp];rw[bt,ad (cP),bD,Lu a af h k (i+1) _ (by omega) (by simp;omega)];cases eY f path x.Key y.Key (i+1) (v.av.drop (i+1))with
   |inr p=>rfl
   |inl us=>simp[AY,iW]
def AX(v:I)(ks acc:List I):List I ⊕ aq->dI ⊕ (Int×Bool×Int×aj×Int×Bool×Int×Bool×Int×aj×Int×List bY×List I×List I)
 |.inl us=>.inr (0,false,0,[],0,false,v.Kind,v.bL,v.bc,v.bn,v.ae,v.Rest,ks,acc++us)
 |.inr p=>.inl (hy (.inr p))
theorem KQ(a:path.length<=90000)(af:v.ai.length<=50000)(h:∀q,q∈v.ai->oD tw tr f path x.aG y.aG q):∀(k i:Nat) (acc:List I),i+k=v.ai.length->acc.length<=i->
 nR (path,(i:Int),tw,v,tr,0,false,0,[],0,false,x,y,v.Kind,v.bL,v.bc,v.bn,v.ae,v.Rest,ks,acc)=some (AX v ks acc (eY f path x.aG y.aG i (v.ai.drop i)))
 |0,i,acc,c,b=>by
  rw[nR,cl,ee (by omega:v.ai.length<=i)];simp[eY,AX]
 |k+1,i,acc,c,b=>by
  have aB:i<v.ai.length:=by omega
  rw[nR,bu,ad (aQ aB),bd,Ae a];simp only[I.aU,aT,ao];rw[h _ (bk aB au),eB aB au,eY];cases f x.aG (v.ai.getD i au) y.aG (path++[(i:Int)])with
  |inr p=>rfl
  |inl u=>
   simp only[ao,hy,dp];rw[bt,ad (cP),bD,KQ a af h k (i+1) _ (by omega) (by simp;omega)];cases eY f path x.aG y.aG (i+1) (v.ai.drop (i+1))with
   |inr p=>rfl
   |inl us=>simp[AX,iW]
def l4(f:fI)(x y:ah)(v:I)(path:aq):I ⊕ aq:=
 mc (λks=>h7 (λa=>⟨v.Kind,v.bL,v.bc,v.bn,v.ae,ks,a,v.Rest⟩) (eY f path x.aG y.aG 0 v.ai)) (eY f path x.Key y.Key 0 v.av)
theorem tn(a:path.length<=90000)(e:v.av.length<=50000)(af:v.ai.length<=50000)(d:∀q,q∈v.av->oD tw tr f path x.Key y.Key q)(h:∀q,q∈v.ai->oD tw tr f path x.aG y.aG q):
 (∃p,l4 f x y v path= .inr p/\nQ (path,0,tw,v,tr,0,false,0,[],0,false,x,y,v.Kind,v.bL,v.bc,v.bn,v.ae,v.Rest,[])=some (.inl (hy (.inr p))))\/
 ∃ks,nQ (path,0,tw,v,tr,0,false,0,[],0,false,x,y,v.Kind,v.bL,v.bc,v.bn,v.ae,v.Rest,[])=some (.inr (path,tw,v,tr,0,false,0,[],0,false,x,y,v.Kind,v.bL,v.bc,v.bn,v.ae,v.Rest,ks))/\
  ((∃p,l4 f x y v path= .inr p/\nR (path,0,tw,v,tr,0,false,0,[],0,false,x,y,v.Kind,v.bL,v.bc,v.bn,v.ae,v.Rest,ks,[])=some (.inl (hy (.inr p))))\/
  ∃us,l4 f x y v path= .inl ⟨v.Kind,v.bL,v.bc,v.bn,v.ae,ks,us,v.Rest⟩/\nR (path,0,tw,v,tr,0,false,0,[],0,false,x,y,v.Kind,v.bL,v.bc,v.bn,v.ae,v.Rest,ks,[])=some (.inr (0,false,0,[],0,false,v.Kind,v.bL,v.bc,v.bn,v.ae,v.Rest,ks,us))):=by
 have h0:=Lu a e d v.av.length 0 [] (by omega) (by simp);have b:nQ (path,0,tw,v,tr,0,false,0,[],0,false,x,y,v.Kind,v.bL,v.bc,v.bn,v.ae,v.Rest,[])=_:=h0;rw[b,fE];unfold l4;cases eY f path x.Key y.Key 0 v.av with
 |inr p=>exact .inl ⟨p,rfl,rfl⟩
 |inl ks=>
  have h1:=KQ (tw:=tw) (tr:=tr) a af h (ks:=ks) v.ai.length 0 [] (by omega) (by simp);have c:nR (path,0,tw,v,tr,0,false,0,[],0,false,x,y,v.Kind,v.bL,v.bc,v.bn,v.ae,v.Rest,ks,[])=_:=h1;refine .inr ⟨ks,by simp[AY],?_⟩;rw[c,fE];cases eY f path x.aG y.aG 0 v.ai with
  |inr p=>exact .inl ⟨p,rfl,rfl⟩
  |inl us=>exact .inr ⟨us,rfl,by simp[AX]⟩
def uk(tw:List ah)(path:aq)(x y:ah)(v:I)(acc:List I):List I ⊕ aq->dI ⊕ (aq×List ah×ah×I×ah×Int×Bool×Int×aj×Int×Bool×Int×Bool×Int×aj×Int×List I)
 |.inl us=>.inr (path,tw,x,v,y,0,false,0,[],0,false,v.Kind,false,0,[],0,acc++us)
 |.inr p=>.inl (hy (.inr p))
theorem Lv{path:aq}(t:path.length<=80000)(m:x.ag.length<=1000)(z:y.ag.length<=1000)(af:v.ai.length=x.ag.length)
 (d:∀n,n∈x.ag->bM n.bw)(e:∀n,n∈y.ag->bM n.bw)
 (h:∀i,i<x.ag.length->∀n,n∈y.ag->oD tw tr f path (x.ag.getD i aE).aw n.aw (v.ai.getD i au)):∀(k j:Nat) (acc:List I),j+k=y.ag.length->acc.length<=j->
 oX (path,(j:Int),tw,x,v,tr,y,0,false,0,[],0,false,v.Kind,false,0,[],0,acc)=some (uk tw path x y v acc (ji f x v path (y.ag.drop j)))
 |0,j,acc,s,q=>by
  rw[oX,cl,ee (by omega:y.ag.length<=j)];simp[ji,uk,I.aU]
 |k+1,j,acc,s,q=>by
  have aB:j<y.ag.length:=by omega
  have g:=bk aB aE;have o:=λacc=>Lv t m z af d e h k (j+1) acc (by omega);rw[oX,bu,ad (aQ aB),bd];simp only[aT,ao,I.aU,jw];rw[Ae (by omega),DT m,eB aB aE,ji];unfold wx lQ;have r:=e _ g;generalize aD:y.ag.getD j aE=n at*;have M:=Co (path:=path++[n.ae]) (by simp;omega);cases bE:hl x.ag n.ae with
  |none=>
   simp only[ao,eN,eo];cases D:n.bZ with
   |false=>
    rw[ad (show(!false)=true from rfl),M,ak (show ¬false=true by simp)];rfl
   |true=>
    rw[ak (show ¬(!true)=true by simp),ad trivial,ad (cP),bD,o _ (by simp;omega),ad (show true=true from rfl)];cases ji f x v path (y.ag.drop (j+1))with
    |inr p=>rfl
    |inl us=>simp[uk,iW]
  |some i=>
   obtain⟨a,_,_⟩:=j9 bE;have c:i<v.ai.length:=(by omega);have A:=h i a n g;simp only[ao,dp,dX];rw[bt,bt,ad (aQ a),ad (aQ c),bd,A n.ae];have l:=FE (d _ (bk a aE)) (v.ai.getD i au);cases C:f (x.ag.getD i aE).aw (v.ai.getD i au) n.aw (path++[n.ae])with
   |inr p=>
    simp only[ao,hy,I.aU,eN,dp,Bool.and_false];rw[ad (aQ a),ad (aQ c),l];simp only[ao,bV,b6];rw[LV];generalize dK (x.ag.getD i aE) (v.ai.getD i au)=b at*;cases b with
    |false=>rfl
    |true=>
     simp only[eo];rw[ad trivial,M];rfl
   |inl u=>
    have w:=FE r u;simp only[ao,hy,I.aU,eN,dp,yl];rw[ad (aQ a),ad (aQ c),l];simp only[ao,bV,b6];rw[LW];generalize dK (x.ag.getD i aE) (v.ai.getD i au)=b at*;have tail:(some [u]>>=λt110=>if room 120 (acc++t110).length then oX (path,aM .i64 (j:Int) 1,tw,x,v,tr,y,0,false,0,[],0,false,v.Kind,false,0,[],0,acc++t110)else none)=some (uk tw path x y v acc (iW (.inl u) (ji f x v path (y.ag.drop (j+1))))):=by
     simp only[aT,ao];rw[ad (cP),bD,o _ (by simp;omega)];cases ji f x v path (y.ag.drop (j+1))with
     |inr p=>rfl
     |inl us=>simp[uk,iW]
    cases b with
    |false=>
     simp only[bV,b6,ao,dX,false_and];exact tail
    |true=>
     rw[ad rfl,w];cases B:dK n u with
     |true=>
      simp only[bV,b6,ao,dX,eo,dp,kg,Bool.true_eq_false];exact tail
     |false=>
      simp only[ao,eo,dX,eN,and_self,bS];rw[M];rfl
def A0(v:I)(its:List I)(acc:List bY):List bY ⊕ aq->dI ⊕ (Int×Bool×Int×aj×Int×Bool×Int×Bool×Int×aj×Int×List I×List bY)
 |.inl a=>.inr (0,false,0,[],0,false,v.Kind,false,0,[],0,its,acc++a)
 |.inr p=>.inl (hy (.inr p))
theorem Lw(o:path.length<=80000)(q:x.ag.length<=1000)(g:y.ag.length<=1000)(af:v.ai.length=x.ag.length)(e:∀n,n∈x.ag->bM n.bw)
 (h:∀i,i<x.ag.length->iP tw (v.ai.getD i au) (x.ag.getD i aE).aw){its:List I}:∀(k i:Nat) (acc:List bY),i+k=x.ag.length->acc.length<=i->
 nM (path,(i:Int),tw,x,v,y,0,false,0,[],0,false,v.Kind,false,0,[],0,its,acc)=some (A0 v its acc (iz tw y path (x.ag.drop i) (v.ai.drop i)))
 |0,i,acc,l,j=>by
  rw[nM,cl,ee (by omega:x.ag.length<=i),iz]
  . simp[A0]
  . intros;simp_all
 |k+1,i,acc,l,j=>by
  have aB:i<x.ag.length:=by omega
  have c:i<v.ai.length:=by omega
  have d:=λacc=>Lw o q g af e h (its:=its) k (i+1) acc (by omega);rw[nM,bu,ad (aQ aB),bd];simp only[aT,ao,I.aU,jw];rw[DT g,eB aB aE,eB c au,iz];have hs:=vI y.ag (x.ag.getD i aE).ae;have m:(lQ y.ag (x.ag.getD i aE).ae).2=(cH y.ag (x.ag.getD i aE).ae).isSome:=by
   rw[<-hs];unfold lQ;cases hl y.ag (x.ag.getD i aE).ae<;>rfl
  simp only[ao];rw[m];by_cases a:(cH y.ag (x.ag.getD i aE).ae).isSome=true
  . rw[ad a,ad a,bD,d _ (by omega)]
  rw[ak a,ak a];by_cases b:(x.ag.getD i aE).cp=true
  . rw[ad b,ad b,Ae (by omega)];simp only[ao];rw[Co (by simp;omega)];rfl
  rw[ak b,ak b,ad (aQ c),FE (e _ (bk aB aE))];simp only[ao];cases dK (x.ag.getD i aE) (v.ai.getD i au)with
  |true=>
   rw[bt,ad rfl,bD,d _ (by omega)]
  |false=>
   have f:=h i aB;unfold iP at f;rw[ad (show(!false)=true from rfl),ak (show ¬false=true by simp),ad (aQ c),f];simp only[ao];rw[ad (cP),bD,d _ (by simp;omega)];cases iz tw y path (x.ag.drop (i+1)) (v.ai.drop (i+1))with
   |inr p=>rfl
   |inl us=>simp[A0,iW]
theorem ZV(b:path.length<=80000)(l:v.Kind=5)(c:x.ag.length<=1000)(d:y.ag.length<=1000)(af:v.ai.length=x.ag.length)
 (a:∀n,n∈x.ag->bM n.bw)(e:∀n,n∈y.ag->bM n.bw)
 (h:∀i,i<x.ag.length->∀n,n∈y.ag->oD tw tr f path (x.ag.getD i aE).aw n.aw (v.ai.getD i au))
 (k:∀i,i<x.ag.length->iP tw (v.ai.getD i au) (x.ag.getD i aE).aw):
 xU ((⟨tw⟩:aR),x,v,(⟨tr⟩:aR),y,path)=some (hy (wv tw f x y v path)):=by
 have h0:=Lv b c d af a e h y.ag.length 0 [] (by omega) (by simp);have g:oX (path,0,tw,x,v,tr,y,0,false,0,[],0,false,v.Kind,false,0,[],0,[])=_:=h0;rw[xU];simp only[I.aU];rw[g,fE];unfold wv;cases ji f x v path y.ag with
 |inr p=>rfl
 |inl its=>
  have h1:=Lw (tw:=tw) b c d af a k (its:=its) x.ag.length 0 [] (by omega) (by simp);have j:nM (path,0,tw,x,v,y,0,false,0,[],0,false,v.Kind,false,0,[],0,its,[])=_:=h1;simp only[aT,ao,uk,fR,I.aU];rw[j,fE,fE];cases iz tw y path x.ag v.ai with
  |inr p=>rfl
  |inl r=>simp only[ao,A0,fR,l,mc,h7,hy,nn,I.aU]
theorem aaE(m:path.length<=80000)(g:v.Kind=6)(j:x.ag.length<=1000)(l:y.ag.length<=1000)(h1:v.ai.length=1){i:Nat}(a:hl x.ag v.ae=some i)
 (h:∀n,n∈y.ag->oD tw tr f path (x.ag.getD i aE).aw n.aw (v.ai.getD 0 au))
 (c:iP tw (v.ai.getD 0 au) (x.ag.getD i aE).aw):
 x1 ((⟨tw⟩:aR),x,v,(⟨tr⟩:aR),y,path)=some (hy (tV tw f x y v path)):=by
 obtain⟨d,_,_⟩:=j9 a;have b:aH 0 v.ai.length=true:=by rw[h1];rfl
 rw[x1,DT j,DT l];unfold tV lQ;simp only[aT,ao,I.aU,a];cases bE:hl y.ag v.ae with
 |some k=>
  obtain⟨e,_,_⟩:=j9 bE;simp only[dp,dX];rw[bt,bt,ad (aQ d),ad b,ad (aQ e),bd,bd,show(0:Int).toNat=0 from rfl,Ae (by omega)];simp only[ao];rw[h _ (bk e aE)];cases f (x.ag.getD i aE).aw (v.ai.getD 0 au) (y.ag.getD k aE).aw (path++[v.ae])with
  |inr p=>
   simp only[ao,hy,eN,h7,I.aU];rw[ad trivial]
  |inl u=>
   simp only[ao,hy,dp,h7,I.aU,g,nn];rw[bt]
 |none=>
  simp only[eN,eo];cases y.Open with
  |false=>
   rw[ad (show(!false)=true from rfl),Co (by omega)];simp only[ao,I.aU,bV,b6,hy]
  |true=>
   unfold iP at c;rw[ak (show ¬(!true)=true by simp),ad trivial,ad (aQ d),ad b,bd,show(0:Int).toNat=0 from rfl,c];simp only[ao,bS,hy,g,nn,I.aU]
def wX(tw tr:List ah)(n:Nat):Prop:=∀{v:I},bM v->wt v<=3000->wt v<=n->∀{t rt:Int} {path:aq},b5 tw true t v->0<=rt->rt<tr.length->path.length+n<=50000->
 mq ((⟨tw⟩:aR),t,v,(⟨tr⟩:aR),rt,path)=some (hy (ej tw tr n t v rt path))
theorem ZW(P:dj tw)(o:dj tr){n:Nat}(ih:wX tw tr n):wX tw tr (n+1):=by
 intro v aB aY aD t rt path K be Y aW;have SW:=P.V.ic P.T;have cx:=o.V.ic o.T;have aZ:=fx v;obtain⟨⟨aP,aR,aw,ax⟩,Z⟩:=(eU _ _ _).1 K;obtain⟨j,rfl⟩:∃j:Nat,t=(j:Int):=⟨t.toNat,by omega⟩
 obtain⟨k,rfl⟩:∃k:Nat,rt=(k:Int):=⟨rt.toNat,by omega⟩
 have ab:j<tw.length:=by omega
 have ah:k<tr.length:=by omega
 have S:=bk ab aN;have u:=bk ah aN;have aV:=ax rfl;cases aB with
 |mk _ hs h1 aS aU ay G aX c' a7 a8 a'=>
 rw[mq,ad (aQ ab),Cx];simp only[aT,ao,bd,I.aU];rw[bd]at aw Z;rw[ad (aQ ah)];have aq:=(P.T _ S).jb;have ar:=(o.T _ u).jb;generalize a6:tw.getD j aN=x at*;generalize M:tr.getD k aN=y at*;have O:∀y,y∈v.ai->wt y<=3000/\wt y<=n:=λy M=>by have:=e' M;omega
 have al:∀y,y∈v.av->wt y<=3000/\wt y<=n:=λy M=>by have:=e' M;omega
 have L:∀{t rt:Int} {q:I},q∈v.ai->b5 tw true t q->0<=rt->rt<tr.length->oD tw tr (ej tw tr n) path t rt q:=λ{t rt q} a K a0 a1 step=>ih (G q a) (O q a).1 (O q a).2 K a0 a1 (by simp;omega);have aI:∀{t rt:Int} {q:I},q∈v.av->b5 tw true t q->0<=rt->rt<tr.length->oD tw tr (ej tw tr n) path t rt q:=λ{t rt q} a K a0 a1 step=>ih (ay q a) (al q a).1 (al q a).2 K a0 a1 (by simp;omega);have bb:=mS v.av;have ba:=mS v.ai;have F:=Co (path:=path) (by omega);have E:(kz path).bind (λr=>some (⟨r.Value,r.Path,r.ck⟩:dI))=some (hy (.inr path)):=by rw[F];rfl
 by_cases bH:x.Kind=y.Kind
 . rw[ak (show ¬(!(decide (x.Kind=y.Kind)))=true by simp[bH])];have N:v.av=[]->v.ai=[]->l4 (ej tw tr n) x y v path= .inl v:=λaK J=>by
    unfold l4;cases v;simp_all [eY,mc,h7]
   rcases Z with h|h|h|h|h|h|h|h|h
   case' inl=>
    obtain⟨a1,a2,a3,a4,a5,d,w⟩:=h;have b:x.Kind=1:=(by omega);have af:jA x y v:=⟨λh=>by omega,λh=>by omega,λh=>by omega⟩
    have D:=tn (tw:=tw) (tr:=tr) (f:=ej tw tr n) (path:=path) (by omega) (x:=x) (y:=y) (v:=v) (by omega) (by omega) (λq a=>by rw[a5]at a;cases a) (λq a=>by rw[d]at a;cases a);rw[qS bH (by omega) af,<-N a5 d];simp only[b,Int.reduceEq,de,dq,dX,eo,bV,b6,bS]
   case' inr.inl=>
    obtain⟨a1,a2,a3,a4,a5,d,w,C,a9⟩:=h;have b:x.Kind=2:=(by omega);by_cases af:y.bA<=v.bc/\v.bc<=y.bC
    case' neg=>
     have g:(bif decide (v.bc<y.bA)then true else decide (y.bC<v.bc))=true:=by
      by_cases c:v.bc<y.bA<;>simp[c];omega
     rw[vU bH (by omega) (show ¬jA x y v fromλh=>af (h.1 b))];simp only[b,g,Int.reduceEq,de,dq,dX,eo,bV,b6,bS];exact E
    case' pos=>
     have g:(bif decide (v.bc<y.bA)then true else decide (y.bC<v.bc))=false:=by
      have an:¬v.bc<y.bA:=(by omega);have ap:¬y.bC<v.bc:=(by omega);simp[an,ap]
     have D:=tn (tw:=tw) (tr:=tr) (f:=ej tw tr n) (path:=path) (by omega) (x:=x) (y:=y) (v:=v) (by omega) (by omega) (λq a=>by rw[a5]at a;cases a) (λq a=>by rw[d]at a;cases a);rw[qS bH (by omega) (show jA x y v from⟨λ_=>af,λh=>by omega,λh=>by omega⟩),<-N a5 d];simp only[b,g,Int.reduceEq,de,dq,dX,eo,bV,b6,bS]
   case' inr.inr.inl=>
    obtain⟨a1,a2,a3,a4,a5,d,w,C⟩:=h;have b:x.Kind=3:=(by omega);by_cases af:(v.bn.length:Int)<=y.Max
    case' neg=>
     have g:decide (y.Max<(v.bn.length:Int))=true:=jS (by omega);rw[vU bH (by omega) (show ¬jA x y v fromλh=>af (h.2.1 b))];simp only[b,g,Int.reduceEq,de,dq,dX,eo,bV,b6,bS];exact E
    case' pos=>
     have g:decide (y.Max<(v.bn.length:Int))=false:=tM (by omega);have D:=tn (tw:=tw) (tr:=tr) (f:=ej tw tr n) (path:=path) (by omega) (x:=x) (y:=y) (v:=v) (by omega) (by omega) (λq a=>by rw[a5]at a;cases a) (λq a=>by rw[d]at a;cases a);rw[qS bH (by omega) (show jA x y v from⟨λh=>by omega,λ_=>af,λh=>by omega⟩),<-N a5 d];simp only[b,g,Int.reduceEq,de,dq,dX,eo,bV,b6,bS]
   case' inr.inr.inr.inl=>
    obtain⟨a1,a2,a3,a4,a5,d,w,C⟩:=h;have b:x.Kind=4:=(by omega);obtain⟨r,_,Y,aL⟩:=qF (t:=y) v.ae (by have:=(o.T _ u).1;have:=dz (ef reachBytes);omega);have H:r.2=true↔∃s,s∈y.bg/\s.ae=v.ae:=by
     rcases aL with⟨q,l,X,_,rfl⟩|⟨q,rfl⟩
     . exact⟨λ_=>⟨_,bk l dL,X⟩,λ_=>rfl⟩
     . constructor
       . intro h;simp at h
       intro a;obtain⟨s,s1,aM⟩:=a;obtain⟨i,G,rfl⟩:=eZ s1;exact absurd aM (by have:=q i G;rwa [dv G]at this)
    by_cases af:(∃s,s∈y.bg/\s.ae=v.ae)\/y.Open=true
    case' neg=>
     have g:(bif (!r.2)then(!y.Open)else false)=true:=by
      cases aA:r.2 with
      |true=>exact absurd (.inl (H.1 aA)) af
      |false=>
       cases az:y.Open with
       |true=>exact absurd (.inr az) af
       |false=>rfl
     rw[vU bH (by omega) (show ¬jA x y v fromλh=>af (h.2.2 b))];simp only[b,Y,g,ao,Int.reduceEq,de,dq,dX,eo,bV,b6,bS];exact E
    case' pos=>
     have g:(bif (!r.2)then(!y.Open)else false)=false:=by
      rcases af with af|af
      . rw[H.2 af];rfl
      . rw[af];cases r.2<;>rfl
     have D:=tn (tw:=tw) (tr:=tr) (f:=ej tw tr n) (path:=path) (by omega) (x:=x) (y:=y) (v:=v) (by omega) (by omega) (λq a=>by rw[a5]at a;cases a) (λq a=>by rw[d]at a;cases a);rw[qS bH (by omega) (show jA x y v from⟨λh=>by omega,λh=>by omega,λ_=>af⟩),<-N a5 d];simp only[b,Y,g,ao,Int.reduceEq,de,dq,dX,eo,bV,b6,bS]
   case' inr.inr.inr.inr.inl=>
    obtain⟨a1,a2,a3,a4,a5,d,w,C⟩:=h;have b:x.Kind=5:=(by omega);obtain⟨aj,aC⟩:=SW.A _ S (.inl (by omega));obtain⟨aF,aH⟩:=cx.A _ u (.inl (by omega));obtain⟨f1,f2⟩:=ik.1 C
    have H:=ZV (tw:=tw) (tr:=tr) (f:=ej tw tr n) (path:=path) (by omega) (x:=x) (y:=y) a1 (by omega) (by omega) f1 aq ar (λi R q a=>by
     have z:=bk (by omega:i<v.ai.length) au;obtain⟨B,l⟩:=o.hi.mem u a;exact L z (f2 i R) B l) (λi R=>by
     have z:=bk (by omega:i<v.ai.length) au
     exact Dw SW (G _ z) (by have:=(O _ z).1;omega) _ (ov _ _ (f2 i R)))
    rw[Rm bH b];simp only[b,H,ao,Int.reduceEq,de,dq,dX,eo,bV,b6,bS]
    done
   case' inr.inr.inr.inr.inr.inl=>
    obtain⟨a1,a2,a3,a4,a5,d⟩:=h;have b:x.Kind=6:=(by omega);obtain⟨aj,aC⟩:=SW.A _ S (.inr (by omega));obtain⟨aF,aH⟩:=cx.A _ u (.inr (by omega));cases bE:cH x.ag v.ae with
    |none=>rw[bE]at d;cases d.2.1
    |some m=>
     rw[bE]at d;obtain⟨b1,b2,b3⟩:=d;have U:=vI x.ag v.ae;rw[bE]at U;cases Q:hl x.ag v.ae with
     |none=>rw[Q]at U;cases U
     |some i=>
     obtain⟨d1,d2,_⟩:=j9 Q;obtain⟨d3,d4⟩:=kI bE;have em:x.ag.getD i aE=m:=qR aj (bk d1 aE) d3 (by rw[d2,d4]);have z:=bk (by omega:0<v.ai.length) au;have aa:=cW.1 b3 _ z
     have H:=aaE (tw:=tw) (tr:=tr) (f:=ej tw tr n) (path:=path) (by omega) (x:=x) (y:=y) a1 (by omega) (by omega) b2 Q (λq a=>by
      obtain⟨B,l⟩:=o.hi.mem u a;rw[em]
      exact L z aa B l) (by rw[em];exact Dw SW (G _ z) (by have:=(O _ z).1;omega) _ (ov _ _ aa))
     rw[Rn bH b];simp only[b,H,ao,Int.reduceEq,de,dq,dX,eo,bV,b6,bS]
    done
   case' inr.inr.inr.inr.inr.inr.inl=>
    obtain⟨a1,a2,a3,a4,a5,d,w,C,a9⟩:=h;have b:x.Kind=7:=(by omega);obtain⟨B,l⟩:=o.hi.elem u (by omega);rw[Ro bH b];unfold Ag;by_cases af:(v.ai.length:Int)<=y.Max
    case' neg=>
     have g:decide (y.Max<(v.ai.length:Int))=true:=jS (by omega);rw[ak af];simp only[b,g,Int.reduceEq,de,dq,dX,eo,bV,b6,bS];exact E
    case' pos=>
     have g:decide (y.Max<(v.ai.length:Int))=false:=tM (by omega);have D:=tn (tw:=tw) (tr:=tr) (f:=ej tw tr n) (path:=path) (by omega) (x:=x) (y:=y) (v:=v) (by omega) (by omega) (λq a=>by rw[d]at a;cases a) (λq a=>L a (cW.1 a9 q a) B l);have e:(if(v.ai.length:Int)<=y.Max then h7 (λW=>(⟨7,false,0,[],0,[],W,[]⟩:I)) (eY (ej tw tr n) path x.aG y.aG 0 v.ai)else .inr path)=l4 (ej tw tr n) x y v path:=by
      unfold l4;rw[ad af,a1,a2,a3,a4,a5,d,w];rfl
     rw[e];simp only[b,g,Int.reduceEq,de,dq,dX,eo,bV,b6,bS]
   case' inr.inr.inr.inr.inr.inr.inr.inl=>
    obtain⟨a1,a2,a3,a4,a5,d,w,C,a9,am,aO⟩:=h;have b:x.Kind=8:=(by omega);obtain⟨B,l⟩:=o.hi.elem u (by omega);obtain⟨X,aJ⟩:=o.hi.key u (by omega);rw[Rp bH b];unfold Ah;by_cases af:(v.ai.length:Int)<=y.Max
    case' neg=>
     have g:decide (y.Max<(v.ai.length:Int))=true:=jS (by omega);rw[ak af];simp only[b,g,Int.reduceEq,de,dq,dX,eo,bV,b6,bS];exact E
    case' pos=>
     have g:decide (y.Max<(v.ai.length:Int))=false:=tM (by omega);have D:=tn (tw:=tw) (tr:=tr) (f:=ej tw tr n) (path:=path) (by omega) (x:=x) (y:=y) (v:=v) (by omega) (by omega) (λq a=>aI a (cW.1 a9 q a) X aJ) (λq a=>L a (cW.1 am q a) B l);have e:(if(v.ai.length:Int)<=y.Max then mc (λks=>h7 (λW=>(⟨8,false,0,[],0,ks,W,[]⟩:I)) (eY (ej tw tr n) path x.aG y.aG 0 v.ai)) (eY (ej tw tr n) path x.Key y.Key 0 v.av)else .inr path)=l4 (ej tw tr n) x y v path:=by
      unfold l4;rw[ad af,a1,a2,a3,a4,a5,d]
     rw[e];simp only[b,g,Int.reduceEq,de,dq,dX,eo,bV,b6,bS]
   case' inr.inr.inr.inr.inr.inr.inr.inr=>
    obtain⟨a1,a2,a3,a4,a5,d,w,C,a9⟩:=h;have b:x.Kind=9:=(by omega);obtain⟨B,l⟩:=o.hi.elem u (by omega);have D:=tn (tw:=tw) (tr:=tr) (f:=ej tw tr n) (path:=path) (by omega) (x:=x) (y:=y) (v:=v) (by omega) (by omega) (λq a=>by rw[d]at a;cases a) (λq a=>L a (cW.1 a9 q a) B l);have e:Ai (ej tw tr n) x y v path=l4 (ej tw tr n) x y v path:=by
     unfold l4 Ai;rw[a1,a2,a3,a4,a5,d,w];rfl
    rw[Rq bH b,e];simp only[b,Int.reduceEq,de,dq,dX,eo,bV,b6,bS]
   all_goals
    rcases D with⟨p,aK,J⟩|⟨ks,J,⟨p,aK,c9⟩|⟨us,aK,c9⟩⟩
    . rw[aK,J];rfl
    . rw[aK,J];simp only[ao];rw[c9];rfl
    . rw[aK,J];simp only[ao];rw[c9];simp only[ao,hy,nn,I.aU]
 . rw[ad (show(!(decide (x.Kind=y.Kind)))=true by simp[bH]),Ou bH,E]
theorem ZX:wX tw tr 0:=by
 unfold wX;intro v _ _ aD;have:=OS v;omega
theorem Lx(b:dj tw)(a:dj tr):∀n,wX tw tr n
 |0=>ZX
 |n+1=>ZW b a (Lx b a n)
end
def wU(x:fy):Prop:=oB x/\x.c0.length*3<=reachBytes
def kY(aI:List fy):Prop:=aI.length*32<=reachBytes/\∀x,x∈aI->wU x
def AU(c:kB):Prop:=c8 c.Kind/\c8 c.Node/\c8 c.A/\c8 c.B
theorem kY.set(h:kY aI)(j:Nat){x:fy}(c:wU x):kY (aI.set j x):=by
 refine⟨by rw[ix];exact h.1,λy a=>?_⟩;rcases tO a with a|rfl
 . exact h.2 y a
 . exact c
theorem mC(a:Int):c8 (IntKind.wrap .u8 a):=by
 have:IntKind.wrap .u8 a=a%256:=by rfl
 unfold c8;omega
theorem FH{n:Nat}(h:n*3<=reachBytes):room 3 n=true:=by
 unfold reachBytes at h;unfold room j8 eG;simp only[cd,dn];omega
theorem agJ{n:Nat}(h:n*32<=reachBytes):room 32 n=true:=by
 unfold reachBytes at h;unfold room j8 eG;simp only[cd,dn];omega
theorem adr{L:List kB}(Y:L.length<=reachBytes)(N:∀c,c∈L->AU c){i:Nat}(S:i<L.length)(h:kY aI)(aD:0<aI.length):
 ∃Q,kY Q/\Q.length=aI.length/\hz (L,(i:Int),aI)=hz (L,((i+1:Nat):Int),Q):=by
 obtain⟨V,R,n,G⟩:=N _ (bk S nT);have ak:=dz Y;unfold c8 at V R n G;have ai:aI.length<9223372036854775807:=by have:=h.1;unfold reachBytes at this;omega
 obtain⟨j,ab,o⟩:∃j:Nat,b' (bW .i64 (L.getD i nT).Node) (aI.length:Int)=(j:Int)/\j<aI.length:=by
  have e:b' (bW .i64 (L.getD i nT).Node) (aI.length:Int)=(L.getD i nT).Node%(aI.length:Int):=by
   rw[lf ⟨by omega,by omega⟩,hc R.1]
  have h0:=lZ (L.getD i nT).Node (by omega:(aI.length:Int)≠0);have h1:=lV (L.getD i nT).Node (by omega:(0:Int)<aI.length);exact⟨((L.getD i nT).Node%(aI.length:Int)).toNat,by rw[e];omega,by omega⟩
 obtain⟨⟨c',E,k,m,fk,am⟩,T⟩:=h.2 _ (bk o eQ);have H:∀z:Nat,z<(aI.getD j eQ).c0.length->c8 ((aI.getD j eQ).c0.getD z ja).ae/\c8 ((aI.getD j eQ).c0.getD z ja).aw/\c8 ((aI.getD j eQ).c0.getD z ja).gV:=λz O=>fk _ (bk O _)
 rw[hz,ad (by
  have a:(i:Int)<(L.length:Int):=by omega
  simp[a,aD]),ad (aQ S),bd]
 simp only[aT,ao];rw[ad (show(!(decide ((aI.length:Int)=0)))=true from by rw[p3];exact tM (by omega)),ab,ad (aQ o),bd,ad (jS o),fR,ad (FH T),ad (jS o)];simp only[dq,bS,o];have aK:aM .i64 (i:Int) 1=((i+1:Nat):Int):=bD;rw[aK];generalize aj:aI.getD j eQ=p at*;generalize ah:L.getD i nT=c at*;have g:∀{a b K:Int} {l:List lE},c8 a->c8 b->c8 K->(∀q,q∈l->c8 q.ae/\c8 q.aw/\c8 q.gV)->l.length<=p.c0.length+8/\(l.length<=p.c0.length\/l.length<=8)->wU ⟨p.Kind,a,b,K,l⟩:=λ{a b K l} Z aa N af aD=>⟨⟨c',Z,aa,N,af,by show l.length<=_;unfold reachBytes at*;omega⟩,by show l.length*3<=_;unfold reachBytes at*;omega⟩
 have gs:∀q:fy,(aI.set j q).getD j br=q:=λq=>by rw[dv (by rw[ix];exact o)];simp
 have F:∀{a:Int},0<=a/\a<=255->c8 a:=λh=>h;have al:(p.c0.length:Int)<9223372036854775807:=by unfold reachBytes at T;omega
 have s:∀{l:List lE},(∀q,q∈l->c8 q.ae/\c8 q.aw/\c8 q.gV)->l.length<=p.c0.length+8/\(l.length<=p.c0.length\/l.length<=8)->wU ⟨p.Kind,p.A,p.B,p.C,l⟩:=λ{l} h1 X=>g E k m h1 X;have self:p.c0.length<=p.c0.length+8/\(p.c0.length<=p.c0.length\/p.c0.length<=8):=by omega
 by_cases af:0<p.c0.length
 . have I:(0:Int)<(p.c0.length:Int):=(by omega);obtain⟨z,O,f⟩:∃z:Nat,b' (bW .i64 c.A) (p.c0.length:Int)=(z:Int)/\z<p.c0.length:=by
    have e:b' (bW .i64 c.A) (p.c0.length:Int)=c.A%(p.c0.length:Int):=by
     rw[lf ⟨by omega,by omega⟩,hc n.1]
    have h0:=lZ c.A (by omega:(p.c0.length:Int)≠0);have h1:=lV c.A I;exact⟨(c.A%(p.c0.length:Int)).toNat,by rw[e];omega,by omega⟩
   simp only[I,O,dq,bS,gs,List.set_set];rw[ad (show(!(decide ((p.c0.length:Int)=0)))=true from by rw[p3];exact tM (by omega))];by_cases t:b' c.Kind 8=0
   . simp only[t,dq,bS];exact⟨_,h.set j (g (mC _) k m fk self),ix,rfl⟩
   by_cases u:b' c.Kind 8=1
   . simp only[u,dq,de,Int.reduceEq,bV,bS,b6];exact⟨_,h.set j (g E (mC _) m fk self),ix,rfl⟩
   by_cases v:b' c.Kind 8=2
   . have P:0<=b' c.A 6:=by rw[hc n.1];omega
     simp only[v,P,dq,de,Int.reduceEq,bV,bS,b6];exact⟨_,h.set j (g (mC _) k m fk self),ix,rfl⟩
   by_cases x:b' c.Kind 8=3
   . simp only[x,dq,de,Int.reduceEq,bV,bS,b6];exact⟨_,h.set j (g E k (mC _) fk self),ix,rfl⟩
   by_cases r:b' c.Kind 8=4
   . by_cases J:(p.c0.length:Int)<8
     . simp only[r,J,dq,de,Int.reduceEq,bV,bS,b6];rw[ad (FH (by rw[c2];unfold reachBytes;simp;omega))];refine⟨_,h.set j (s (λq d=>?_) (by rw[c2];simp;omega)),ix,rfl⟩;rcases f'.1 d with d|d
       . exact fk q d
       . rw[we.1 d];exact⟨F n,F G,mC _⟩
     . simp only[r,J,dq,de,Int.reduceEq,bV,bS,b6];exact⟨_,h.set j (s fk self),ix,rfl⟩
   by_cases y:b' c.Kind 8=5
   . simp only[y,dq,de,Int.reduceEq,bV,bS,b6];have W:aM .i64 (z:Int) 1=((z+1:Nat):Int):=bD;rw[W,ad (iK.2 (by omega)),ad (iK.2 (by omega)),bd,bd,bd,bu];refine⟨_,h.set j (s (λq d=>?_) (by rw[c2,oh,oh,lW];omega)),ix,rfl⟩;rcases f'.1 d with d|d
     . exact fk q (p1 d)
     . exact fk q (BJ (p1 d))
   have U:∀{w:lE},c8 w.ae/\c8 w.aw/\c8 w.gV->wU ⟨p.Kind,p.A,p.B,p.C,p.c0.set z w⟩:=λ{w} ag=>s (λq d=>by
    rcases tO d with d|rfl
    . exact fk q d
    . exact ag) (by rw[ix];exact self)
   by_cases D:b' c.Kind 8=6
   . simp only[D,dq,de,Int.reduceEq,bV,bS,b6];rw[ad (aQ f),bd,ad (jS f)];exact⟨_,h.set j (U (w:=⟨(p.c0.getD z ja).ae,(p.c0.getD z ja).aw,c.B⟩) ⟨(H z f).1,(H z f).2.1,F G⟩),ix,rfl⟩
   . simp only[t,u,v,x,r,y,D,de,bV,b6];rw[ad (aQ f),bd,ad (jS f),ad (aQ f),ad (jS f)];exact⟨_,h.set j (U (w:=⟨(p.c0.getD z ja).ae,aM .u8 (p.c0.getD z ja).aw c.B,(p.c0.getD z ja).gV⟩) ⟨(H z f).1,mC _,(H z f).2.2⟩),ix,rfl⟩
 . have I:¬(0:Int)<(p.c0.length:Int):=(by omega);simp only[I,de,bV,b6,gs,List.set_set];by_cases t:b' c.Kind 8=0
   . simp only[t,dq,bS];exact⟨_,h.set j (g (mC _) k m fk self),ix,rfl⟩
   by_cases u:b' c.Kind 8=1
   . simp only[u,dq,de,Int.reduceEq,bV,bS,b6];exact⟨_,h.set j (g E (mC _) m fk self),ix,rfl⟩
   by_cases v:b' c.Kind 8=2
   . have P:0<=b' c.A 6:=by rw[hc n.1];omega
     simp only[v,P,dq,de,Int.reduceEq,bV,bS,b6];exact⟨_,h.set j (g (mC _) k m fk self),ix,rfl⟩
   by_cases x:b' c.Kind 8=3
   . simp only[x,dq,de,Int.reduceEq,bV,bS,b6];exact⟨_,h.set j (g E k (mC _) fk self),ix,rfl⟩
   by_cases r:b' c.Kind 8=4
   . have J:(p.c0.length:Int)<8:=(by omega);simp only[r,J,dq,de,Int.reduceEq,bV,bS,b6];rw[ad (FH (by rw[c2];unfold reachBytes;simp;omega))];refine⟨_,h.set j (s (λq d=>?_) (by rw[c2];simp;omega)),ix,rfl⟩;rcases f'.1 d with d|d
     . exact fk q d
     . rw[we.1 d];exact⟨F n,F G,mC _⟩
   have M:=h.set j (s fk self);by_cases y:b' c.Kind 8=5
   . simp only[y,dq,de,Int.reduceEq,bV,bS,b6];exact⟨_,M,ix,rfl⟩
   by_cases D:b' c.Kind 8=6
   . simp only[D,dq,de,Int.reduceEq,bV,bS,b6];exact⟨_,M,ix,rfl⟩
   . simp only[t,u,v,x,r,y,D,de,bV,b6];exact⟨_,M,ix,rfl⟩
theorem Ox{L:List kB}(e:L.length<=reachBytes)(f:∀c,c∈L->AU c):∀(k i:Nat) {aI:List fy},i+k=L.length->kY aI->∃d,kY d/\d.length=aI.length/\hz (L,(i:Int),aI)=some d
 |0,i,aI,l,h=>⟨aI,h,rfl,by
  have a:¬(i:Int)<(L.length:Int):=by omega
  rw[hz,ak (by simp[a])]⟩
 |k+1,i,aI,l,h=>by
  by_cases aD:0<aI.length
  . obtain⟨d,h1,j,g⟩:=adr e f (by omega:i<L.length) h aD;rw[g,<-j];exact Ox e f k (i+1) (by omega) h1
  . refine⟨aI,h,rfl,?_⟩;have b:decide ((0:Int)<(aI.length:Int))=false:=tM (by omega);rw[hz,b,ak];cases decide ((i:Int)<(L.length:Int))<;>simp
theorem kY.EA{d:ek}(h:kY d.ec):ud d:=⟨by have:=h.1;unfold reachBytes at*;omega,λx a=>(h.2 x a).1⟩
theorem ZY{d:ek}(h:kY d.ec){L:List kB}(i:L.length<=reachBytes)(j:∀c,c∈L->AU c):∃a,kY a.ec/\a.ec.length=d.ec.length/\B3 (d,L)=some a:=by
 obtain⟨b,h1,g,e⟩:=Ox i j L.length 0 (by omega) h;have f:hz (L,0,d.ec)=some b:=e;refine⟨⟨b⟩,h1,g,?_⟩;rw[B3,fR,ad (agJ h.1),f];rfl
theorem ads(h:WF cN ⟨.slice (.nm vo),aI⟩):kY aI:=by
 obtain⟨a,b,c⟩:=vW (t:= .nm vo) h;have D:=MR (d:=⟨aI⟩) h;refine⟨b,λx e=>⟨D.2 x e,?_⟩⟩;exact(vW (t:= .nm B') (c x e ⟨.slice (.nm B'),x.c0⟩ (.tail _ (.tail _ (.tail _ (.tail _ (.head _))))))).2.1
theorem aha{n:Int}(h:WF cN ⟨.int .u8,n⟩):c8 n:=by
 cases h with
 |int k n h=>
  simp[Lit.wf,IntKind.min,IntKind.max,IntKind.bits,IntKind.signed]at h;unfold c8;omega
theorem adt{d:k2}(f:ud d.S)(h:pM d=some (⟨ts⟩,t,v,w,true)):ts.length=d.S.ec.length:=by
 rw[pM]at h;rcases of_eq f with e|⟨l,e,_,_,c,_⟩
 . rw[e]at h;simp at h
 . rw[e]at h;simp only[aT,ao,dp,bV,b6]at h;split at h
   . cases a:x3 ((⟨l⟩:aR),b' (bW .i64 d.T) (l.length:Int),d.C)with
     |none=>rw[a]at h;cases h
     |some x=>
      rw[a]at h;simp only[ao]at h;cases b:yB ((⟨l⟩:aR),b' (bW .i64 d.T) (l.length:Int),d.C)with
      |none=>rw[b]at h;cases h
      |some y=>
       rw[b]at h;simp only[ao,bF,bB,aR.mk.injEq]at h;rw[<-h.1,c]
   . cases h
structure wO (c:mr):Prop where
 d:Ek c.D
 n:kY c.D.S.ec
 l:c.L.length<=reachBytes
 c:∀x,x∈c.L->AU x
structure Tu (tw tr:List ah)(t:Int)(v:I):Prop where
 W:dj tw
 R:dj tr
 t0:0<=t
 t1:t<tw.length
 t2:t<tr.length
 f:b5 tw true t v
 o:bM v
 w:wt v<=3000
theorem aa'{c:mr}(h:wO c):(∃w r t v,yw c=some (w,r,t,v,false))\/∃tw tr t v,(yw c=some (⟨tw⟩,⟨tr⟩,t,v,true)/\Tu tw tr t v)/\∃w,pM c.D=some (⟨tw⟩,t,v,w,true)/\b5 tw false t w/\bM w:=by
 obtain⟨o,d1,d3,d2⟩:=ZY h.n h.l h.c;rw[yw];rcases ags h.d with⟨s,t,v,w,e⟩|⟨ts,t,v,w,e,H,ht,⟨v1,g,v3⟩,k,m,_⟩
 . rw[e];simp only[aT,ao];rw[d2];simp only[ao];rcases Fx d1.EA with a|⟨l,a,_⟩<;>rw[a]<;>exact .inl ⟨_,_,_,_,rfl⟩
 . have af:=adt h.d.s e;rw[e];simp only[aT,ao];rw[d2];simp only[ao];rcases of_eq d1.EA with a|⟨l,a,_,_,l2,_⟩
   . rw[a];exact .inl ⟨_,_,_,_,rfl⟩
   . rcases Fx d1.EA with f|⟨j,f,i⟩
     . rw[a]at f;cases f
     . rw[a]at f;have:l=j:=by injection f with q;injection q with q _;injection q
       subst this;rw[a];simp only[ao,dp,dX];cases p:decide (4<(c.L.length:Int))with
       |true=>exact .inl ⟨_,_,_,_,rfl⟩
       |false=>
        obtain⟨b,b1,b2⟩:=Gp g;simp only[eN,bS,dX,I.aU];rw[b1];cases b with
        |false=>exact .inl ⟨_,_,_,_,rfl⟩
        |true=>exact .inr ⟨ts,l,t,v,⟨rfl,H,i,ht.1,ht.2,by omega,v1,g,b2 rfl⟩,w,rfl,k,m⟩
section
variable {tw tr:List ah}{t rt:Int}{v:I}
theorem aaF(c:dj tw)(f:dj tr)(m:bM v)(e:b5 tw true t v)(p:0<=rt)(q:rt<tr.length):C3 ((⟨tw⟩:aR),t,v,(⟨tr⟩:aR),rt)=some 0:=by
 obtain⟨⟨j,k,_⟩,_⟩:=(eU _ _ _).1 e;have d:∀{ts:List ah} {t:Int},dj ts->0<=t->t<ts.length->xO ((⟨ts⟩:aR),t)=some 0:=λ{ts t} H a b=>by
  rw[xO,(px H.T H.V).1];simp only[aT,ao];have g:¬t<0:=by omega
  have i:¬(ts.length:Int)<=t:=by omega
  rw[bt,ak (by simp[g,i])]
 obtain⟨r,n,o⟩:=LC (c.V.ic c.T) m t true;have l:=o.2 e;subst l;rw[C3];simp only[I.aU];rw[d c j k];simp only[aT,ao];rw[bt,d f p q];simp only[ao];rw[bt,GM];simp only[I.aU];rw[n];rfl
theorem aaG(c:dj tw)(g:dj tr)(o:bM v)(f:b5 tw true t v)(s:0<=rt)(u:rt<tr.length):Cd ((⟨tw⟩:aR),t,v,(⟨tr⟩:aR),rt)=some 0:=by
 obtain⟨⟨k,l,_⟩,_⟩:=(eU _ _ _).1 f;have e:∀{ts:List ah} {t:Int},dj ts->0<=t->t<ts.length->kE ((⟨ts⟩:aR),t)=some 0:=λ{ts t} H a b=>by
  rw[kE,(px H.T H.V).2];simp only[aT,ao];have i:¬t<0:=by omega
  have j:¬(ts.length:Int)<=t:=by omega
  rw[bt,ak (by simp[i,j])]
 have d:=c.V.ic c.T;obtain⟨q,p,r⟩:=yM (by have:=d.n;omega) c.T d.K o t true;have m:=r.2 f;subst m;rw[Cd];simp only[I.aU];rw[e c k l];simp only[aT,ao];rw[bt,e g s u];simp only[ao];rw[bt,vt];simp only[I.aU];rw[p];rfl
def lx:I ⊕ aq->I×Int
 |.inl u=>(u,0)
 |.inr _=>(⟨0,false,0,[],0,[],[],[]⟩,12)
noncomputable def t' (tw tr:List ah)(t:Int)(v:I)(rt:Int):I ⊕ aq:=ej tw tr 3000 t v rt []
theorem X9(b:dj tw)(a:dj tr)(d:bM v)(e:wt v<=3000)(c:b5 tw true t v)(f:0<=rt)(g:rt<tr.length):x8 ((⟨tw⟩:aR),t,v,(⟨tr⟩:aR),rt)=some (lx (t' tw tr t v rt)):=by
 have h:=Lt b a 3000 d e e [] c f g (path:=[]) (by simp);rw[x8];simp only[I.aU];rw[aaF b a d c f g];simp only[aT,ao];rw[bt,h];unfold t';cases ej tw tr 3000 t v rt []<;>rfl
theorem X'(b:dj tw)(a:dj tr)(d:bM v)(e:wt v<=3000)(c:b5 tw true t v)(f:0<=rt)(g:rt<tr.length):yF ((⟨tw⟩:aR),t,v,(⟨tr⟩:aR),rt)=some (lx (t' tw tr t v rt)):=by
 have h:=Lx b a 3000 d e e c f g (path:=[]) (by simp);rw[yF];simp only[I.aU];rw[aaG b a d c f g];simp only[aT,ao];rw[bt,h];unfold t';cases ej tw tr 3000 t v rt []<;>rfl
end
theorem agf{c:mr}(h:∀d,d∈cN.oO SA c->WF cN d):wO c:=by
 have i:=h ⟨.slice (.nm vo),c.D.S.ec⟩ (.head _);have j:=h ⟨.slice (.nm Sp),c.L⟩ (.tail _ (.tail _ (.tail _ (.head _))));obtain⟨a,_,e⟩:=vW (t:= .nm Sp) j;have g:∀{n:Int},WF cN ⟨.int .u8,n⟩->c8 n:=aha;refine⟨abf λd b=>?_,ads i,a,λx k=>?_⟩
 . refine h d ?_;cases b with
   |head=>exact .head _
   |tail _ b=>cases b with
    |head=>exact .tail _ (.head _)
    |tail _ b=>cases b with
     |head=>exact .tail _ (.tail _ (.head _))
     |tail _ b=>cases b
 . have f:=e x k;exact⟨g (f ⟨.int .u8,x.Kind⟩ (.head _)),g (f ⟨.int .u8,x.Node⟩ (.tail _ (.head _))),g (f ⟨.int .u8,x.A⟩ (.tail _ (.tail _ (.head _)))),g (f ⟨.int .u8,x.B⟩ (.tail _ (.tail _ (.tail _ (.head _)))))⟩
theorem D'{f:α->Option c}(d:α)(e:c):∀{l:List α} {m:List c},m.length=l.length->(∀j,j<l.length->f (l.getD j d)=some (m.getD j e))->cn f l=some m
 |[],[],_,_=>rfl
 |[],b::m,h,_=>by simp at h
 |a::l,[],h,_=>by simp at h
 |a::l,b::m,h,g=>by
  have h0:f a=some b:=g 0 (by simp);rw[vb,h0,D' d e (l:=l) (m:=m) (by simpa using h) λj i=>g (j+1) (by simpa using i)];rfl
theorem Ly:∀{a b:List aj},a.length=b.length->fc (l5 a b)=a/\fl (l5 a b)=b
 |[],[],_=>⟨rfl,rfl⟩
 |[],_::_,h=>by simp at h
 |_::_,[],h=>by simp at h
 |x::a,y::b,h=>by
  obtain⟨h1,c⟩:=Ly (a:=a) (b:=b) (by simpa using h);exact⟨by rw[l5,fc,h1],by rw[l5,fl,c]⟩
theorem agx{m:aS}:dK m v=true↔m.bZ=true/\m.bw=v:=by unfold dK;simp
theorem Lz:∀{F:List cQ} {f:cQ},F.Pairwise (λa b=>a.ae<b.ae)->f∈F->F.find? (λg=>decide (g.ae=f.ae))=some f
 |g::F,f,d,c=>by
  rw[jf]at d;rw[List.find?_cons];rcases fe.1 c with rfl|c
  . simp
  . have:=d.1 f c;have e:decide (g.ae=f.ae)=false:=tM (by omega);rw[e];exact Lz d.2 c
section
variable {ts:List ah}
theorem aaH{its:List I}{r:List bY}(c:gJ x.ag)(d:kc x.ag r)(af:its.length=x.ag.length){f:qc}
 (D:∀j,j<x.ag.length->dK (x.ag.getD j aE) (its.getD j au)=false->f (x.ag.getD j aE).aw (bG ts (x.ag.getD j aE).aw (its.getD j au))=some (its.getD j au))
 (E:((gP fj (fr ts x.ag its r)).flatMap Fd.text).length<=90000):
 ot f x ((gP fj (fr ts x.ag its r)).flatMap Fd.text)=some ⟨5,false,0,[],0,[],its,r⟩:=by
 have w:=LD (zb (ts:=ts) (l:=its) c d) (Lh c d);have p:∀g,g∈gP fj (fr ts x.ag its r)↔g∈fr ts x.ag its r:=λg=>(nA fj _).mem_iff;have H:∀g,g∈gP fj (fr ts x.ag its r)->1<=g.id/\g.id<=1000:=λg al=>SM c d ((p g).1 al);unfold ot;rw[abi w H E];generalize gP fj (fr ts x.ag its r)=L at*;have bE:(L.map oM).Pairwise (λa b=>a.ae<b.ae):=oe.2 (w.imp λ{a b} h=>by show(a.id:Int)<(b.id:Int);omega);have t:∀g,g∈L.map oM->(∃j,j<x.ag.length/\dK (x.ag.getD j aE) (its.getD j au)=false/\g=⟨(x.ag.getD j aE).ae,(x.ag.getD j aE).cp,bG ts (x.ag.getD j aE).aw (its.getD j au)⟩)\/∃a,a∈r/\g=⟨a.ae,false,a.Data⟩:=λg al=>by
  obtain⟨e,aK,rfl⟩:=eO.1 al;have:=(p e).1 aK;unfold fr at this;rcases f'.1 this with h|h
  . obtain⟨j,o,y,K,rfl⟩:=Hd h;have m:=c.2 _ (bk o aE);unfold cr at m;refine .inl ⟨j,o,K,?_⟩;show(⟨(((x.ag.getD j aE).ae.toNat:Nat):Int),_,_⟩:cQ)=_;rw[yf (by omega)]
  . obtain⟨a,a1,rfl⟩:=eO.1 h;have m:=(d.2 a a1).1;unfold cr at m;refine .inr ⟨a,a1,?_⟩;show(⟨((a.ae.toNat:Nat):Int),_,_⟩:cQ)=_;rw[yf (by omega)];rfl
 have O:∀j,j<x.ag.length->dK (x.ag.getD j aE) (its.getD j au)=false->(⟨(x.ag.getD j aE).ae,(x.ag.getD j aE).cp,bG ts (x.ag.getD j aE).aw (its.getD j au)⟩:cQ)∈L.map oM:=λj o y=>by
  have m:=c.2 _ (bk o aE);unfold cr at m;refine eO.2 ⟨_,(p _).2 (BL _ (IA o (by omega) y)),?_⟩;show(⟨(((x.ag.getD j aE).ae.toNat:Nat):Int),_,_⟩:cQ)=_;rw[yf (by omega)]
 have P:∀a,a∈r->(⟨a.ae,false,a.Data⟩:cQ)∈L.map oM:=λa a1=>by
  have m:=(d.2 a a1).1;unfold cr at m;refine eO.2 ⟨jT a,(p _).2 (List.mem_append_right _ (eO.2 ⟨a,a1,rfl⟩)),?_⟩;show(⟨((a.ae.toNat:Nat):Int),_,_⟩:cQ)=_;rw[yf (by omega)];rfl
 generalize L.map oM=F at*;have u:∀j,j<x.ag.length->cH x.ag (x.ag.getD j aE).ae=some (x.ag.getD j aE):=λj o=>LH c (bk o aE);have J:cn (ei f F) x.ag=some its:=D' aE au af λj n=>by
  unfold ei;cases q:dK (x.ag.getD j aE) (its.getD j au)with
  |false=>
   have:=Lz bE (O j n q);rw[this];exact D j n q
  |true=>
   have aD:F.find? (λg=>decide (g.ae=(x.ag.getD j aE).ae))=none:=by
    rw[yg];intro g al;simp only[dn];intro e;rcases t g al with⟨k,i,s,rfl⟩|⟨a,a1,rfl⟩
    . have em:=qR c (bk i aE) (bk n aE) e;have z:k=j:=by
       rw[dv i,dv n]at em;rcases Fl k j with h|h|h
       . have:=ru.1 c.1 k j i n h;rw[em]at this;omega
       . exact h
       . have:=ru.1 c.1 j k n i h;rw[em]at this;omega
      subst z;rw[q]at s;cases s
    . have:=(d.2 a a1).2;rw[show a.ae=(x.ag.getD j aE).ae from e,u j n]at this;cases this
   rw[aD];obtain⟨M,N⟩:=agx.1 q;simp only;rw[ad M,N]
 have C:F.all (fS x)=true:=by
  rw[cY];intro g al;unfold fS;rcases t g al with⟨k,i,s,rfl⟩|⟨a,a1,rfl⟩
  . rw[u k i];rfl
  . simp
 have G:e7 x F=r:=by
  unfold e7;refine ab0 (oe.2 ((bE.filter _).imp λ{a b} h=>h)) d.1 λa=>?_;constructor
  . intro h;obtain⟨g,A,rfl⟩:=eO.1 h;obtain⟨B,v⟩:=rA.1 A;rcases t g B with⟨k,i,s,rfl⟩|⟨a,a1,rfl⟩
    . rw[u k i]at v;simp at v
    . exact a1
  . intro h;refine eO.2 ⟨⟨a.ae,false,a.Data⟩,rA.2 ⟨P a h,?_⟩,rfl⟩;rw[(d.2 a h).2];rfl
 simp only;rw[J];simp only;rw[ad C,G]
theorem LA(H:iQ ts)(aQ:bM v):∀{t:Int} {m:Nat},(bG ts t v).length<=90000->b5 ts false t v->et ts t v<=m->cZ ts m t (bG ts t v)=some v:=by
 induction aQ with
 |mk v hs h1 a7 a8 M bb be c' ab bi bj aS K=>
 intro t m C aI F;have aO:=s7 (ts:=ts) t v;obtain⟨m,rfl⟩:∃k,m=k+1:=⟨m-1,by omega⟩
 have r:=Du (ts:=ts) t v;have N:∀q,q∈v.av->(if v.av=[]then 0 else 1)=1:=λq b=>ak λe=>by rw[e]at b;cases b
 generalize (if v.av=[]then 0 else 1)=kk at r N;obtain⟨⟨aZ,a0,a6,_⟩,z⟩:=(eU _ _ _).1 aI;have p:t.toNat<ts.length:=by omega
 have G:=bk p aN;have aq:=λh=>Ax (ts:=ts) (t:=t) (v:=v) h;have ar:=λh=>Ay (ts:=ts) (t:=t) (v:=v) h;have ax:=λh=>Az (ts:=ts) (t:=t) (v:=v) h;have ay:=λh=>AA (ts:=ts) (t:=t) (v:=v) h;have az:=λh=>AB (ts:=ts) (t:=t) (v:=v) h;have aA:=λh=>AD (ts:=ts) (t:=t) (v:=v) h;have aB:=λh=>AE (ts:=ts) (t:=t) (v:=v) h;have aC:=λh=>AF (ts:=ts) (t:=t) (v:=v) h;have aD:=λh=>AG (ts:=ts) (t:=t) (v:=v) h;rw[vc];generalize bf:ts.getD t.toNat aN=x at*;have an:x.Kind=5->∀c,c<=gU ts x.ag v.ai->c<=m:=λh c z=>by rw[ad h]at r;exact HO r F z
 have ao:x.Kind=6->∀s,cH x.ag v.ae=some s->∀c,c<=eJ ts s.aw v.ai->c<=m:=λh s bE c z=>by
  rw[ak (by rw[h];decide),ad h,bE]at r;exact HO r F z
 have L:7<=x.Kind->∀c,c<=eJ ts x.aG v.ai->c<=m:=λh c z=>by
  rw[ak (λe=>by rw[e]at h;exact absurd h (by decide)),ak (λe=>by rw[e]at h;exact absurd h (by decide))]at r;exact HO r F z
 have ap:∀q,q∈v.av->1<=m:=λq b=>by
  rw[N q b]at r;exact adi r F rfl
 clear r F aO N;have ah:∀{t:Int},(∀q,q∈v.ai->(bG ts t q).length<=90000/\b5 ts false t q/\et ts t q<=m)->cn (cZ ts m t) (b7 ts t v.ai)=some v.ai:=λ{t} af=>D' [] au (by rw[nx]) λj p=>by
  rw[nx]at p;rw[Ku p];obtain⟨T,U,V⟩:=af _ (bk p au);exact K _ (bk p au) T U V
 have aW:∀{t:Int},(∀q,q∈v.av->(bG ts t q).length<=90000/\b5 ts false t q/\et ts t q<=m)->cn (cZ ts m t) (b7 ts t v.av)=some v.av:=λ{t} af=>D' [] au (by rw[nx]) λj p=>by
  rw[nx]at p;rw[Ku p];obtain⟨T,U,V⟩:=af _ (bk p au);exact aS _ (bk p au) T U V
 have P:∀{t:Int} {l:List I} {q:I},q∈l->bG ts t q∈b7 ts t l:=λ{t l q} b=>by rw[DI];exact eO.2 ⟨q,b,rfl⟩
 unfold rL;rcases z with f|f|f|f|f|f|f|f|f
 . rw[fu,aq (by omega)];obtain⟨a1,a2,a3,a4,a5,o,u⟩:=f;unfold As;cases ba:v.bL with
   |true=>
    rw[ad (show true=true from rfl),ak (show ¬([1]:aj)=[] by simp),ad (show([1]:aj)=[1]from rfl)];cases v;simp_all
   |false=>
    rw[ak (show ¬false=true by simp),ad (show([]:aj)=[]from rfl)];cases v;simp_all
 . obtain⟨a1,a2,a3,a4,a5,o,u,i,a9⟩:=f;rw[bq,fu,ar (by omega)];have aR:=abY (n:=v.bc) ab;unfold Au;rw[LG (Ak ab)];simp only;rw[aR,ad ⟨i,a9⟩];cases v;simp_all
 . obtain⟨a1,a2,a3,a4,a5,o,u,i⟩:=f;rw[bq,bq,fu,ax (by omega)];unfold Av;rw[ad i];cases v;simp_all
 . obtain⟨a1,a2,a3,a4,a5,o,u,i⟩:=f;have aH:cr v.ae:=by
    rcases i with⟨y,aX,aY⟩|⟨_,_,h⟩
    . rw[<-aY];exact H.S _ G (by omega) y aX
    . exact h
   unfold cr at aH;obtain⟨k,M⟩:∃k:Nat,v.ae=(k:Int):=⟨v.ae.toNat,by omega⟩
   rw[bq,bq,bq,fu,ay (by omega),M,bd];unfold Aw;rw[LG (by omega)];simp only;have hs:((x.bg.any λy=>decide (y.ae=(k:Int)))||x.Open)=true:=by
    rcases i with q|⟨q,_⟩
    . rw[M]at q;rw[HV.1 q];rfl
    . rw[q];simp
   rw[ad ⟨by omega,by omega,hs⟩];cases v;simp_all
 . obtain⟨a1,a2,a3,a4,a5,o,u,i⟩:=f;obtain⟨R,aV⟩:=H.A _ G (.inl (by omega));obtain⟨f1,f2⟩:=ik.1 i;have Y:=az (by omega);have E:((gP fj (fr ts x.ag v.ai v.Rest)).flatMap Fd.text).length<=90000:=by rw[<-Y];exact C
   rw[bq,bq,bq,bq,bq,bq,bq,bq,Y,aaH R u f1 (λj Q Z=>?_) E]
   . cases v;simp_all
   . have aP:=bk (by omega:j<v.ai.length) au;have aK:=IA (ts:=ts) Q (by omega:j<v.ai.length) Z;have:=Lk ((nA fj _).mem_iff.2 (show _∈fr ts x.ag v.ai v.Rest from BL _ aK));exact K _ aP (h9 this E) (f2 j Q) (an (by omega) _ (Lm Q (by omega) Z))
 . obtain⟨a1,a2,a3,a4,a5,o⟩:=f;obtain⟨R,aV⟩:=H.A _ G (.inr (by omega));rw[bq,bq,bq,bq,bq,fu];have J:=aA (by omega);unfold rJ;cases bE:cH x.ag v.ae with
   |none=>
    rw[bE]at o J;obtain⟨b1,_,b2,b3,d,b4⟩:=o;unfold cr at b2;obtain⟨k,D⟩:∃k:Nat,v.ae=(k:Int):=⟨v.ae.toNat,by omega⟩
    have g:bG ts t v=eE k++d:=by
     rw[J,b4,D,bd];rfl
    rw[g,Oi (by omega)];simp only;rw[<-D,bE];simp only;rw[ad b1];cases v;simp_all
   |some s=>
    rw[bE]at o J;obtain⟨b1,b2,b3⟩:=o;obtain⟨d3,d4⟩:=kI bE;have aJ:cr v.ae:=by rw[<-d4];exact R.2 s d3
    unfold cr at aJ;obtain⟨k,D⟩:∃k:Nat,v.ae=(k:Int):=⟨v.ae.toNat,by omega⟩
    match gN:v.ai,b2 with
    |[a],_=>
     have w:a∈v.ai:=by rw[gN];exact .head _
     have g:bG ts t v=eE k++bG ts s.aw a:=by
      rw[J,D,bd];show eE k++(b7 ts s.aw v.ai).headD []=_;rw[gN,b7];rfl
     have O:(bG ts s.aw a).length<=90000:=by
      rw[g,c2]at C;exact h9 (Nat.le_add_left _ _) C
     rw[g,Oi (by omega)];simp only;rw[<-D,bE];simp only;rw[K a w O (cW.1 b3 a w) (ao (by omega) s bE _ (yV w))];cases v;simp_all
 . obtain⟨a1,a2,a3,a4,a5,o,u,i,a9⟩:=f;have g:=aB (by omega);have B:((b7 ts x.aG v.ai).flatMap dB).length<=90000:=by rw[<-g];exact C
   rw[bq,bq,bq,bq,bq,bq,fu,g];unfold ou;rw[MT B];simp only;rw[ad (by rw[nx];exact i),ah λq b=>⟨h9 (CB (P b)) B,cW.1 a9 q b,L (by omega) _ (yV b)⟩];cases v;simp_all
 . obtain⟨a1,a2,a3,a4,a5,o,u,i,a9,aE,aF⟩:=f;have g:=aC (by omega);have a':=H.rV _ G (by omega);have E:(b7 ts x.Key v.av).length=(b7 ts x.aG v.ai).length:=by rw[nx,nx];omega
   obtain⟨al,am⟩:=Ly E;have W:=Lj _ _ E;rw[nx,nx]at W;have B:((l5 (b7 ts x.Key v.av) (b7 ts x.aG v.ai)).flatMap dB).length<=90000:=by rw[<-Hu,<-g];exact C
   have aT:∀{a:aj} {l:List aj},a∈fc l->a∈l:=λh=>DK h;have aU:∀{l:List aj} {a:aj},a∈fl l->a∈l:=by
    intro l;induction l using fl.induct with
    |case1 x y l ih=>
     intro a h;rw[fl]at h;rcases fe.1 h with rfl|h
     . exact .tail _ (.head _)
     . exact .tail _ (.tail _ (ih h))
    |case2 l af=>
     intro a h;rw[fl]at h
     . cases h
     . exact af
   have aL:∀q,q∈v.av->et ts x.Key q<=m:=λq b=>by
    have aM:=ap q b;have e:et ts x.Key q=1:=by
     obtain⟨⟨_,_,bh,_⟩,aa⟩:=(eU _ _ _).1 (cW.1 a9 q b);refine Ht ?_ ?_
     . rcases aa with k|k|k|k|k|k|k|k|k
       . exact k.2.2.2.2.1
       . exact k.2.2.2.2.1
       . exact k.2.2.2.2.1
       . exact k.2.2.2.2.1
       all_goals (exfalso;omega)
     . rcases aa with k|k|k|k|k|k|k|k|k
       . exact k.2.2.2.2.2.1
       . exact k.2.2.2.2.2.1
       . exact k.2.2.2.2.2.1
       . exact k.2.2.2.2.2.1
       all_goals (exfalso;omega)
    rw[e];exact aM
   rw[bq,bq,bq,bq,bq,bq,bq,fu,g,Hu];unfold rK;rw[MT B];simp only;rw[ad ⟨by rw[W];omega,by rw[W];omega⟩,al,am,aW λq b=>⟨h9 (CB (aT (by rw[al];exact P b))) B,cW.1 a9 q b,aL q b⟩];simp only;rw[ad (vY.2 aF),ah λq b=>⟨h9 (CB (aU (by rw[am];exact P b))) B,cW.1 aE q b,L (by omega) _ (yV b)⟩];cases v;simp_all
 . obtain⟨a1,a2,a3,a4,a5,o,u,i,a9⟩:=f;have g:=aD (by omega);rw[bq,bq,bq,bq,fu]
   match gN:v.ai,i with
   |[],_=>
    rw[gN,b7]at g;rw[g];cases v;simp_all [mP]
   |[a],_=>
    have w:a∈v.ai:=by rw[gN];exact .head _
    rw[gN,b7]at g;have X:bG ts t v=1::bG ts x.aG a:=g;have O:(bG ts x.aG a).length<=90000:=by
     rw[X,iw]at C;omega
    rw[X];show((if(1:UInt8)=1 then(cZ ts m x.aG (bG ts x.aG a)).map _ else none):Option I)=_;rw[ad rfl,K a w O (cW.1 a9 a w) (L (by omega) _ (yV w))];cases v;simp_all
end
theorem y4{f g:α->Option c}:∀{l:List α} {m:List c},(∀a b,a∈l->f a=some b->g a=some b)->cn f l=some m->cn g l=some m
 |[],m,_,h=>h
 |a::l,m,al,h=>by
  simp only[cn]at h⊢;split at h
  . rename_i b j d e;rw[al a b (.head _) d,y4 (λx y i=>al x y (.tail _ i)) e];exact h
  . cases h
section
variable {f g:qc}(h:∀t p v,f t p=some v->g t p=some v){x:ah}{v:I}
include h
theorem aba(a:mP f x p=some v):mP g x p=some v:=by
 cases p with
 |nil=>exact a
 |cons c q=>
  simp only[mP]at a⊢;split at a
  . rename_i b;obtain⟨u,d,rfl⟩:=oa.1 a;rw[ad b,h _ _ _ d];rfl
  . cases a
theorem abb(b:rJ f x p=some v):rJ g x p=some v:=by
 unfold rJ at b⊢;cases c:jV p with
 |none=>rw[c]at b;cases b
 |some a=>
  obtain⟨id,q⟩:=a;rw[c]at b;dsimp only at b⊢;cases bE:cH x.ag id with
  |none=>rw[bE]at b;exact b
  |some m=>
   rw[bE]at b;obtain⟨u,d,rfl⟩:=oa.1 b;dsimp only;rw[h _ _ _ d];rfl
theorem abc(c:ou f x p=some v):ou g x p=some v:=by
 unfold ou at c⊢;split at c
 . split at c
   . rename_i i;obtain⟨u,d,rfl⟩:=oa.1 c;simp only[*,bS];rw[y4 (λa b _ e=>h _ _ _ e) d];rfl
   . cases c
 . cases c
theorem abd(c:rK f x p=some v):rK g x p=some v:=by
 unfold rK at c⊢;split at c
 . split at c
   . rename_i k;split at c
     . rename_i ks i;split at c
       . rename_i d;obtain⟨u,j,rfl⟩:=oa.1 c;simp only[*];rw[ad ⟨trivial,trivial⟩];rw[y4 (λa b _ e=>h _ _ _ e) i];simp only[d,bS];rw[y4 (λa b _ e=>h _ _ _ e) j];rfl
       . cases c
     . cases c
   . cases c
 . cases c
theorem ack(c:ot f x p=some v):ot g x p=some v:=by
 unfold ot at c⊢;split at c
 . rename_i l af;split at c
   . rename_i i d
     have:cn (ei g l) x.ag=some i:=y4 (λa b _ e=>by
      unfold ei at e⊢;split at e
      . exact h _ _ _ e
      . exact e) d
     simp only[af,this];exact c
   . cases c
 . cases c
theorem acm(a:rL f x p=some v):rL g x p=some v:=by
 unfold rL at a⊢;by_cases b:x.Kind=1
 . rw[ad b]at a⊢;exact a
 rw[ak b]at a⊢;by_cases c:x.Kind=2
 . rw[ad c]at a⊢;exact a
 rw[ak c]at a⊢;by_cases d:x.Kind=3
 . rw[ad d]at a⊢;exact a
 rw[ak d]at a⊢;by_cases e:x.Kind=4
 . rw[ad e]at a⊢;exact a
 rw[ak e]at a⊢;by_cases k:x.Kind=9
 . rw[ad k]at a⊢;exact aba h a
 rw[ak k]at a⊢;by_cases i:x.Kind=6
 . rw[ad i]at a⊢;exact abb h a
 rw[ak i]at a⊢;by_cases fi:x.Kind=7
 . rw[ad fi]at a⊢;exact abc h a
 rw[ak fi]at a⊢;by_cases j:x.Kind=8
 . rw[ad j]at a⊢;exact abd h a
 rw[ak j]at a⊢;exact ack h a
end
section
variable {ts:List ah}
theorem KR:∀(n k:Nat) (t:Int) (p:aj) (v:I),cZ ts n t p=some v->cZ ts (n+k) t p=some v
 |0,k,t,p,v,h=>by rw[DL]at h;cases h
 |n+1,k,t,p,v,h=>by
  rw[vc]at h;rw[show n+1+k=n+k+1 by omega,vc];exact acm (KR n k) h
theorem acn(H:iQ ts)(c:bM v){m:Nat}(b:(bG ts t v).length<=90000)(a:b5 ts false t v)(h:cZ ts m t (bG ts t v)=some u):u=v:=by
 have h1:=LA H c b a (Nat.le_add_left (et ts t v) m);rw[KR m _ t _ u h]at h1;exact lY h1
end
theorem KS:∀(l:List I),(∀v,v∈l->wt (dw v)<=wt v)->cI (l.map dw)<=cI l
 |[],_=>by simp
 |v::l,h=>by
  rw[gz,hb,hb];have:=h v (.head _);have:=KS l λw a=>h w (.tail _ a);omega
theorem aco(a:bM v):wt (dw v)<=wt v:=by
 induction a with
 |mk v hs h1 c d f e g c' j k l i b=>
  rw[py,fx,fx v];have:=KS v.ai b;dsimp only;split
  . simp only[pY,tN];omega
  . omega
theorem NQ(H:dj ts)(ht:0<=t/\t<ts.length)(m:aj):hj ts t m=(eu,12)\/∃v,hj ts t m=(v,0)/\rU ts t v:=by
 unfold hj;rw[bq];by_cases a:4096<m.length
 . rw[ad a];exact .inl rfl
 . rw[ak a];cases b:cZ ts 200 t m with
   |none=>exact .inl rfl
   |some v=>exact .inr ⟨v,rfl,abv H ht (by omega) b⟩
theorem NR(ts:List ah)(t:Int)(v:I):lg ts t v=([],3)\/lg ts t v=(bG ts t v,0)/\(bG ts t v).length<=4096/\et ts t v<=200:=by
 unfold lg;split
 . exact .inl rfl
 . rename_i h;exact .inr ⟨rfl,Nat.le_of_not_lt λa=>h (.inl a),Nat.le_of_not_lt λa=>h (.inr a)⟩
theorem acp(H:dj ts)(ht:0<=t/\t<ts.length)(c:bM v)(b:b5 ts false t v)(h1:(bG ts t v).length<=4096)(a:et ts t v<=200):hj ts t (bG ts t v)=(v,0):=by
 unfold hj;rw[bq,ak (Nat.not_lt.2 h1),LA (H.V.ic H.T) c (h9 h1 (by decide)) b a]
section
variable {tw tr:List ah}{t rt:Int}
abbrev hR(tw:List ah)(t:Int):dh:=⟨⟨tw⟩,t⟩
def qb(tw tr:List ah)(t rt:Int)(m:aj)(v u:I)(o:aj)(e:Int):Prop:=
 ny (hR tw t,hR tr rt,m)=some (⟨v,u,o⟩,e)/\nS (hR tw t,hR tr rt,m)=some (⟨v,u,o⟩,e)
theorem Dl(H:dj ts)(ht:0<=t/\t<ts.length):uU (hR ts t)=some 0/\kE ((⟨ts⟩:aR),t)=some 0:=by
 have a:¬t<0:=by omega
 have b:¬(ts.length:Int)<=t:=by omega
 rw[uU,kE];simp only[hR];rw[(px H.T H.V).1,(px H.T H.V).2];simp[a,b]
theorem acq(b:dj tw)(a:dj tr)(ht:0<=t/\t<tw.length)(c:0<=rt/\rt<tr.length):CZ [hR tw t,hR tr rt]=some 0/\Cb (hR tw t,hR tr rt)=some 0:=by
 constructor
 . have d:mo ([hR tw t,hR tr rt],2,2)=some (.inr ()):=by rw[mo];rfl
   have h1:mo ([hR tw t,hR tr rt],2,1)=some (.inr ()):=by
    rw[mo,ad (by decide),ad (by rfl)];show(uU (hR tr rt)>>=_)=_;rw[(Dl a c).1];exact d
   have h0:mo ([hR tw t,hR tr rt],2,0)=some (.inr ()):=by
    rw[mo,ad (by decide),ad (by rfl)];show(uU (hR tw t)>>=_)=_;rw[(Dl b ht).1];exact h1
   rw[CZ];show(mo ([hR tw t,hR tr rt],2,0)>>=_)=_;rw[h0];rfl
 . rw[Cb];show(kE ((⟨tw⟩:aR),t)>>=_)=_;rw[(Dl b ht).2];simp only[aT,ao];rw[bt];show((kE ((⟨tr⟩:aR),rt)).bind _)=_;rw[(Dl a c).2];rfl
theorem aaI(c:dj tw)(d:dj tr)(ht:0<=t/\t<tw.length)(k:0<=rt/\rt<tr.length){m:aj}(hs:∀v,hj tw t m=(v,0)->wt v<=3000):
 (hj tw t m=(eu,12)/\qb tw tr t rt m eu eu [] 12)\/∃v,hj tw t m=(v,0)/\rU tw t v/\((¬b5 tw true t (dw v)/\qb tw tr t rt m eu eu [] 12)\/b5 tw true t (dw v)/\
  (((∃p,t' tw tr t (dw v) rt= .inr p)/\qb tw tr t rt m eu eu [] 12)\/(∃x,t' tw tr t (dw v) rt= .inl x)/\
  ((lg tw t v=([],3)/\qb tw tr t rt m eu eu [] 3)\/(lg tw t v=(bG tw t v,0)/\(bG tw t v).length<=4096/\et tw t v<=200)/\
  ((hj tr rt (bG tw t v)=(eu,12)/\qb tw tr t rt m eu eu [] 12)\/∃u,hj tr rt (bG tw t v)=(u,0)/\rU tr rt u/\
  ((lg tr rt u=([],3)/\qb tw tr t rt m eu eu [] 3)\/lg tr rt u=(bG tr rt u,0)/\((bG tr rt u).length<=4096/\et tr rt u<=200)/\qb tw tr t rt m v u (bG tr rt u) 0))))):=by
 obtain⟨e,f⟩:=acq c d ht k;have d1:sO ((⟨tw⟩:aR),t,m)=some (hj tw t m):=Kz c.hi t m;have d2:sq ((⟨tw⟩:aR),t,m)=some (hj tw t m):=KA c.hi t m;rcases NQ c ht m with a|⟨v,a,F⟩
 . left;refine⟨a,?_,?_⟩
   . rw[ny,e];simp[I.aU,zeroV,pK,d1,a,eu]
   . rw[nS,f];simp[I.aU,zeroV,d2,a,eu]
 . right;refine⟨v,a,F,?_⟩;obtain⟨b,b1,b2,b3⟩:=YM c F.2.1 F.1;have s1:u2 ((⟨tw⟩:aR),t,v)=_:=b2;have l:vu ((⟨tw⟩:aR),t,v)=_:=b3;cases b with
   |false=>
    left;refine⟨λh=>(by have:=b1.2 h;cases this),?_,?_⟩
    . rw[ny,e];simp[I.aU,zeroV,pK,d1,a,eu,s1]
    . rw[nS,f];simp[I.aU,zeroV,d2,a,eu,l]
   |true=>
    right;have o:=b1.1 rfl;refine⟨o,?_⟩;have q:=Lo F.2.1;have r:=h9 (aco F.2.1) (hs v a);have g:x8 ((⟨tw⟩:aR),t,dw v,(⟨tr⟩:aR),rt)=_:=X9 c d q r o k.1 k.2;have i:yF ((⟨tw⟩:aR),t,dw v,(⟨tr⟩:aR),rt)=_:=X' c d q r o k.1 k.2;cases s:t' tw tr t (dw v) rt with
    |inr p=>
     left;rw[s]at g i;refine⟨⟨p,rfl⟩,?_,?_⟩
     . rw[ny,e];simp[I.aU,zeroV,pK,d1,a,eu,s1,g,lx]
     . rw[nS,f];simp[I.aU,zeroV,d2,a,eu,l,i,lx]
    |inl x=>
     right;rw[s]at g i;refine⟨⟨x,rfl⟩,?_⟩;have aK:lH ((⟨tw⟩:aR),t,v)=_:=LY c F;have j:q7 ((⟨tw⟩:aR),t,v)=_:=LZ c F;rcases NR tw t v with he|⟨he,af⟩
     . left;rw[he]at aK j;refine⟨he,?_,?_⟩
       . rw[ny,e];simp[I.aU,zeroV,pK,d1,a,eu,s1,g,lx,aK]
       . rw[nS,f];simp[I.aU,zeroV,d2,a,eu,l,i,lx,j]
     . right;rw[he]at aK j;refine⟨⟨he,af⟩,?_⟩;have d3:sO ((⟨tr⟩:aR),rt,bG tw t v)=some (hj tr rt (bG tw t v)):=Kz d.hi rt _;have d4:sq ((⟨tr⟩:aR),rt,bG tw t v)=some (hj tr rt (bG tw t v)):=KA d.hi rt _;rcases NQ d k (bG tw t v)with n|⟨u,n,G⟩
       . left;rw[n]at d3 d4;refine⟨n,?_,?_⟩
         . rw[ny,e];simp[I.aU,zeroV,pK,d1,a,eu,s1,g,lx,aK,d3]
         . rw[nS,f];simp[I.aU,zeroV,d2,a,eu,l,i,lx,j,d4]
       . right;rw[n]at d3 d4;refine⟨u,n,G,?_⟩;have c9:lH ((⟨tr⟩:aR),rt,u)=_:=LY d G;have iq:q7 ((⟨tr⟩:aR),rt,u)=_:=LZ d G;rcases NR tr rt u with dR|⟨dR,w⟩
         . left;rw[dR]at c9 iq;refine⟨dR,?_,?_⟩
           . rw[ny,e];simp[I.aU,zeroV,pK,d1,a,eu,s1,g,lx,aK,d3,c9]
           . rw[nS,f];simp[I.aU,zeroV,d2,a,eu,l,i,lx,j,d4,iq]
         . right;rw[dR]at c9 iq;refine⟨dR,w,?_,?_⟩
           . rw[ny,e];simp[I.aU,zeroV,pK,d1,a,s1,g,lx,aK,d3,c9]
           . rw[nS,f];simp[I.aU,zeroV,d2,a,l,i,lx,j,d4,iq]
end
structure wP (tw tr:List ah)(t:Int)(v:I):Prop where
 W:dj tw
 R:dj tr
 t1:0<=t/\t<tw.length
 t2:0<=t/\t<tr.length
 f:b5 tw false t v
 o:bM v
 w:wt v<=3000
theorem agr{c:np}(h:wO c.C):(∃w r m,xK c=some (w,r,m,false))\/∃tw tr t v,xK c=some (hR tw t,hR tr t,bG tw t v,true)/\wP tw tr t v:=by
 have d:∀{ts:List ah} {t:Int} {v:I},dj ts->bM v->wt v<=3000->b5 ts false t v->iY ((⟨ts⟩:aR),t,v)=some (bG ts t v):=λH j k i=>Dw (H.V.ic H.T) j (by omega) _ i;rw[xK];rcases aa' h with⟨w,r,t,v,e⟩|⟨tw,tr,t,v,⟨e,C⟩,w,e8,g,a⟩
 . rw[e];exact .inl ⟨_,_,_,rfl⟩
 . rw[e];simp only[aT,ao,dp,bV,b6];cases c.wR with
   |true=>
    obtain⟨b,b1,b2⟩:=Gp a;rw[ad rfl,e8];simp only[ao,I.aU];rw[b1];cases b with
    |false=>exact .inl ⟨_,_,_,rfl⟩
    |true=>
     right;refine⟨tw,tr,t,w,?_,C.W,C.R,⟨C.t0,C.t1⟩,⟨C.t0,C.t2⟩,g,a,b2 rfl⟩;simp[d C.W a (b2 rfl) g]
   |false=>
    obtain⟨b,b1,b2⟩:=Gp C.o;rw[bt];simp only[I.aU];rw[b1];cases b with
    |false=>exact .inl ⟨_,_,_,rfl⟩
    |true=>
     right;refine⟨tw,tr,t,v,?_,C.W,C.R,⟨C.t0,C.t1⟩,⟨C.t0,C.t2⟩,ov _ _ C.f,C.o,C.w⟩;simp[d C.W C.o C.w (ov _ _ C.f)]
theorem wP.back(C:wP tw tr t v):∀u,hj tw t (bG tw t v)=(u,0)->u=v:=λu h=>by
 rcases ZR tw t (bG tw t v)with⟨e,he,a⟩|⟨x,a,_,c,j⟩
 . rw[a]at h;exact absurd (ep Prod.snd h) he
 . rw[a]at h;have:x=u:=ep Prod.fst h;subst this;exact acn (C.W.V.ic C.W.T) C.o (h9 c (by decide)) C.f j
theorem wP.some(C:wP tw tr t v):∃x u o e,qb tw tr t t (bG tw t v) x u o e/\(e=0->bM x/\rU tr t u/\hj tr t o=(u,0)):=by
 rcases aaI C.W C.R C.t1 C.t2 (m:=bG tw t v) (λu h=>by rw[C.back u h];exact C.w)with⟨_,h⟩|⟨x,_,F,⟨_,h⟩|⟨_,⟨_,h⟩|⟨_,⟨_,h⟩|⟨_,⟨_,h⟩|⟨u,_,G,⟨_,h⟩|⟨_,⟨a,l2⟩,h⟩⟩⟩⟩⟩⟩
 . exact⟨_,_,_,_,h,by omega⟩
 . exact⟨_,_,_,_,h,by omega⟩
 . exact⟨_,_,_,_,h,by omega⟩
 . exact⟨_,_,_,_,h,by omega⟩
 . exact⟨_,_,_,_,h,by omega⟩
 . exact⟨_,_,_,_,h,by omega⟩
 . exact⟨_,_,_,_,h,λ_=>⟨F.2.1,G,acp C.R C.t2 G.2.1 G.1 a l2⟩⟩
theorem ZZ{c:np}(b:wO c.C):Ao c=some true:=by
 rw[Ao,U6];rcases agr b with⟨w,r,m,e⟩|⟨tw,tr,t,v,e,C⟩
 . rw[e];rfl
 . obtain⟨x,u,o,cX,⟨h1,a⟩,_⟩:=C.some;rw[e];simp[FW,Ga,h1,a]
theorem acr{c:np}(h:∀d,d∈cN.oO Gd c->WF cN d):wO c.C:=
 agf λd a=>h d (by
  show d∈cN.oO SA c.C++[⟨.bool,c.wR⟩]
  exact BL _ a)
theorem agc(h:aL cN.D [.nm Gd])(a:Ok cN [.nm Gd] h):Ao h=some true:=ZZ (acr (agw a))
end
end Go.Proofs.YtdjagncoefjfeaaGreat
