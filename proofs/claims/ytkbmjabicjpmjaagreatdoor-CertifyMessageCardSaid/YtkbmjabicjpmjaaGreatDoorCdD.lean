/- The functions of the program as functions of Lean, that its code does what they say, and what they answer; part D. -/
import Derived.Test.YtkbmjabicjpmjaaGreatDoorCdC

namespace Go.Proofs.YtkbmjabicjpmjaaGreatDoor
set_option linter.all false
section
open Go Go.Proofs.YtkbmjabicjpmjaaGreatDoor.Shv Go.Sort
set_option maxRecDepth 100000
structure jL (ts:List aj):Prop where
 S:lB ts
 V:rh ts
 W:∀x,x∈ts->∀m,m∈x.af->m.bO->kc m.bC=some m.bC
variable{ts tr tw:I aj}{x y:aj}{b1 so:az}{o:ai ab}{X:ai (ab×J×I aj×az×Int×az)}{b2 t id rt:Int}{p q:au}{v w:ab}{ks:I ab}{F:jw}{α c:Type}{j:Nat}{ms:I aT}{aP:I gw}{L:I lJ}{P:α->c->Prop}{a:α ⊕ az}{g:α->c ⊕ az}
theorem dn.iv(H:dn ts):jL ts:=⟨H.V.ic H.T,H.V,λx aa m a c=>aes ((H.T x aa).3 m a) (by have:=H.W x aa m a c;omega)⟩
section
variable {ts:I aj}
theorem jL.mem(H:jL ts)(aa:x∈ts){m:aT}(a:m∈x.af):0<=m.aC/\m.aC<ts.length:=
 H.V.U x aa m.aC (by unfold fB;simp;exact .inl ⟨m,a,rfl⟩)
theorem jL.elem(H:jL ts)(aa:x∈ts)(a:7<=x.ae):0<=x.aE/\x.aE<ts.length:=
 H.V.U x aa x.aE (by unfold fB;simp[a])
theorem jL.key(H:jL ts)(aa:x∈ts)(a:x.ae=8):0<=x.aS/\x.aS<ts.length:=
 H.V.U x aa x.aS (by unfold fB;simp[a])
def kt:ab:=⟨0,false,0,[],0,[],[],[]⟩
abbrev vN:=Int->au->ai ab
def Ce(p:au):ai ab:=if p=[]then some ⟨1,false,0,[],0,[],[],[]⟩else ite (p=[1]) (some ⟨1,true,0,[],0,[],[],[]⟩) none
def Cf(x:aj)(p:au):ai ab:=match gJ p with
 |some m=>ite (x.bA<=gI m/\gI m<=x.bI) (some ⟨2,false,gI m,[],0,[],[],[]⟩) none
 |none=>none
def Cg(x:aj)(p:au):ai ab:=ite ((p.length:Int)<=x.Max) (some ⟨3,false,0,p,0,[],[],[]⟩) none
def Ch(x:aj)(p:au):ai ab:=match gJ p with
 |some m=>ite (1<=m/\m<=1000/\((x.bf.any λy=>(y.ah=(m:Int):J))||x.bt)=true) (some ⟨4,false,0,[],(m:Int),[],[],[]⟩) none
 |none=>none
def vC(f:vN)(x:aj):au->ai ab
 |[]=>some ⟨9,false,0,[],0,[],[],[]⟩
 |c::q=>ite (c=1) ((f x.aE q).map λv=>⟨9,false,0,[],0,[],[v],[]⟩) none
def Ci(f:vN)(x:aj)(p:au):ai ab:=match jI p with
 |some (id,q)=>(match cx x.af id with
  |some m=>(f m.aC q).map λv=>⟨6,false,0,[],id,[],[v],[]⟩
  |none=>ite x.bt (some ⟨6,false,0,[],id,[],[],[⟨id,q⟩]⟩) none)
 |none=>none
def vB(f:vN)(x:aj)(p:au):ai ab:=match hy p with
 |some l=>ite ((l.length:Int)<=x.Max) ((cR (f x.aE) l).map λa=>⟨7,false,0,[],0,[],a,[]⟩) none
 |none=>none
def Cj(f:vN)(x:aj)(p:au):ai ab:=match hy p with
 |some l=>ite (l.length%2 = 0/\((l.length/2:Nat):Int)<=x.Max) (match cR (f x.aS) (fu l) with
  |some ks=>ite (pA ks) ((cR (f x.aE) (gr l)).map λa=>⟨8,false,0,[],0,ks,a,[]⟩) none
  |none=>none) none
 |none=>none
def yo(f:vN)(x:aj)(p:au):ai ab:=match iM p with
 |some l=>(match cR (e4 f l) x.af with
  |some a=>ite (l.all (gQ x)) (some ⟨5,false,0,[],0,[],a,fO x l⟩) none
  |none=>none)
 |none=>none
def l3(f:vN)(x:aj)(p:au):ai ab:=
 if x.ae=1 then Ce p else if x.ae=2 then Cf x p else if x.ae=3 then Cg x p else if x.ae=4 then Ch x p else if x.ae=9 then vC f x p else if x.ae=6 then Ci f x p else if x.ae=7 then vB f x p else if x.ae=8 then Cj f x p else yo f x p
theorem Kb(t:Int)(p:au):ds ts 0 t p=none:=by rw[ds.eq_def]
theorem EX(n:Nat)(t:Int)(p:au):ds ts (n+1) t p=l3 (ds ts n) (ts.getD t.toNat aM) p:=by rfl
theorem gL.eta(h:gL ts b1 b2 so o X):
 gL ts b1 b2 so o (X>>=λr=>some (ab.eta r.1,r.2.1,r.2.2.1,r.2.2.2.1,r.2.2.2.2.1,r.2.2.2.2.2)):=by
 refine⟨λv a=>?_,λaL=>?_⟩;rw[h.1 v a];simp[ab.bN];obtain⟨w,f1,f2,c⟩:=h.2 aL;exact⟨w,f1,f2,by rw[c];simp[ab.bN]⟩
theorem gL.one(v:ab):gL ts b1 b2 so (some v) (some (v,true,ts,b1,b2,so)):=⟨λa h=>by cases h;rfl,λh=>by cases h⟩
theorem gL.cast{a:ai ab}(e:o=a)(h:gL ts b1 b2 so o X):gL ts b1 b2 so a X:=e▸h
theorem Sv{l:I de}{m:Nat}:(∃y,y∈l/\y.ah=(m:Int))↔(l.any λy=>(y.ah=(m:Int):J)):=by grind
theorem aev(H:jL ts){n:Nat}(ih:yF ts n)(aa:x∈ts)(fc:x.ae=7)(ar:p.length<=4096)(m:so.length+(n+1)=200):
 gL ts b1 b2 so (vB (ds ts n) x p) (DA (x,p,ts,b1,b2,so)):=by
 obtain⟨o,i,j,k⟩:=u9 (p:=p) (by omega);obtain⟨aK,c⟩:=H.elem aa (by omega);rw[DA,i];unfold vB;simp only[a7,ay];by_cases h0:o.2=0
 . obtain⟨v1,v2,v3⟩:=j h0;rw[aq (by simp[h0]),v1];dsimp only;by_cases b:(o.1.length:Int)<=x.Max
   . rw[ag b,eF];have d:∀q,q∈o.1->∀step b1 b2,gL ts b1 b2 so (ds ts n x.aE q) (jA (step,x.aE,q,ts,b1,b2,so)):=λq e step b1 b2=>
      x' (by omega) (ih x.aE q b1 b2 (so++[step]) aK c (by have:=v2 q e;omega) (by simp;omega))
     obtain⟨cO,a⟩:=P8 (x:=x) (l:=o.1) (by omega) d (z0:=0) (z1:=false) (z2:=0) (z3:=[]) (z4:=0) (a0:=x.ae) (a1:=false) (a2:=0) (a3:=[]) (a4:=0) (b1:=b1) (b2:=b2) o.1.length 0 [] (by omega) rfl;rw[gk]at cO a;have z0:((0:Nat):Int)=0:=rfl;rw[z0]at cO a;cases hs:cR (ds ts n x.aE) o.1 with
     |none=>
      obtain⟨w,f1,f2,f⟩:=a hs;rw[f];exact⟨λv h=>by simp at h,λ_=>⟨_,_,_,rfl⟩⟩
     |some g=>
      rw[cO g hs];exact⟨λr h=>by grind,λh=>by simp at h⟩
   rw[aq b,c'];exact ke (by omega) _ _ _
 rw[ag (by simp[h0]),k h0];exact ke (by omega) _ _ _
theorem Sw(H:jL ts):∀n,n<=200->yF ts n
 |0,_=>λt p b1 b2 so t0 t1 ar b=>by
  rw[pY,c',Kb];exact ke (by omega) _ _ _
 |n+1,aL=>λt p b1 b2 so t0 t1 ar b=>by
  have ih:=Sw H n (by omega);obtain⟨j,rfl⟩:=Dc t0;have A:j<ts.length:=by omega
  rw[pY,eF,ag (aX A),EX,bo];have aa:=bp A aM;generalize ts.getD j aM=x at*;obtain⟨X,Y⟩:=H.S.K x aa;have N:x.bf.length<9223372036854775807:=eS (iR (H.S.T x aa).1);unfold l3;simp only[a7,ay];obtain⟨u,C,D,E⟩:=aho p;by_cases bj:x.ae=1
  . rw[ag bj,ag (show (x.ae=1:J) by simpa using bj)];unfold Ce;by_cases h0:p=[]
    rw[ag h0,aq (by simp[h0]),bj,h0];exact .one _
    . by_cases h1:p=[1]
      rw[aq h0,ag h1,aq (by simp[h1]),bj,h1];exact .one _;rw[aq h0,aq h1,ag (by simp[h0,h1])];exact ke (by omega) _ _ _
  rw[aq bj,aq (show ¬(x.ae=1:J)=true by simpa using bj)];by_cases bq:x.ae=2
  . rw[ag bq,ag (show (x.ae=2:J) by simpa using bq),C];unfold Cf;simp only[ay];by_cases h0:u.2=0
    . obtain⟨m,d,o⟩:=D h0;rw[d,o,ah3 (BU d),aq (by simp[h0])];simp only[ay];by_cases a:x.bA<=gI m/\gI m<=x.bI
      rw[ag a,eF,bq];exact .one _;rw[aq a,c'];exact ke (by omega) _ _ _
    rw[E h0,ag (by simp[h0])];exact ke (by omega) _ _ _
  rw[aq bq,aq (show ¬(x.ae=2:J)=true by simpa using bq)];by_cases b4:x.ae=3
  . rw[ag b4,ag (show (x.ae=3:J) by simpa using b4)];unfold Cg;by_cases a:(p.length:Int)<=x.Max
    rw[ag a,eF,b4];exact .one _;rw[aq a,c'];exact ke (by omega) _ _ _
  rw[aq b4,aq (show ¬(x.ae=3:J)=true by simpa using b4)];by_cases cv:x.ae=4
  . rw[ag cv,ag (show (x.ae=4:J) by simpa using cv),C];unfold Ch;simp only[ay];by_cases h0:u.2=0
    . obtain⟨m,d,o⟩:=D h0;rw[d,o];dsimp only;by_cases a:1<=m/\m<=1000
      . obtain⟨q,R,_,U⟩:=rz (t:=x) (m:Int) N;have e:b7 .i64 (m:Int)=(m:Int):=lv;rw[aq (show ¬(bif bif !(u.2=0:J)then true else ((m:Int)<1:J)then true else (1000<(m:Int):J))=true by simp[h0];omega),e,R];simp only[ay];have M:q.2=(x.bf.any λy=>(y.ah=(m:Int):J)):=by
         have:=(EE U).trans Sv;grind
        rw[M,cv];by_cases s:((x.bf.any λy=>(y.ah=(m:Int):J))||x.bt)=true
        . rw[ag (show 1<=m/\m<=1000/\((x.bf.any λy=>(y.ah=(m:Int):J))||x.bt)=true from⟨a.1,a.2,s⟩),aq]
          exact .one _;grind
        . rw[aq (show ¬(1<=m/\m<=1000/\((x.bf.any λy=>(y.ah=(m:Int):J))||x.bt))fromλh=>s h.2.2),ag]
          exact ke (by omega) _ _ _;grind
      rw[aq (show ¬(1<=m/\m<=1000/\((x.bf.any λy=>(y.ah=(m:Int):J))||x.bt))fromλh=>a ⟨h.1,h.2.1⟩),ag (by simp[h0];omega)];exact ke (by omega) _ _ _
    rw[E h0,ag (by simp[h0])];exact ke (by omega) _ _ _
  rw[aq cv,aq (show ¬(x.ae=4:J)=true by simpa using cv)];by_cases fv:x.ae=9
  . rw[ag fv,ag (show (x.ae=9:J) by simpa using fv)];obtain⟨aK,I⟩:=H.elem aa (by omega);cases p with
    |nil=>
     rw[jY,vC,fv];exact .one _
    |cons c q=>
     have ak:(c::q).length=q.length+1:=rfl;have P:aG 0 (c::q).length:=aX (k:=0) (by simp);have b0:gC (c::q) 0=(c.toNat:Int):=rfl;have n0:fI 1 ((c::q).length:Int) (c::q).length:=jj.2 (by simp<;>omega);have G:hd (c::q) 1 ((c::q).length:Int)=q:=by
      unfold hd;simp
     rw[cN,ag P,b0,vC];by_cases g:c=1
     . subst g;rw[ag rfl,cN,ag n0,G];have z:=x' (step:=0) (so:=so) (by omega) (ih x.aE q b1 b2 (so++[0]) aK I (by simp at ar;omega) (by simp;omega));cases B:ds ts n x.aE q with
       |none=>
        obtain⟨w,f1,f2,O⟩:=z.2 B;rw[O];exact⟨λv h=>by simp at h,λ_=>⟨_,_,_,rfl⟩⟩
       |some v=>
        rw[z.1 v B]
        exact⟨λV h=>by
         have:V=⟨9,false,0,[],0,[],[v],[]⟩:=(by simpa using h.symm);rw[this]
         simp[ab.bN,fv],λh=>by simp at h⟩
     have L:¬((c.toNat:Int)=1):=λh=>g (UInt8.toNat.inj (by show c.toNat=1;omega));rw[aq g,ag (by simpa using L)];exact ke (by omega) _ _ _
  rw[aq fv,aq (show ¬(x.ae=9:J)=true by simpa using fv)];by_cases c7:x.ae=6;rw[ag c7,ag (show (x.ae=6:J) by simpa using c7)];refine gL.eta (gL.cast ?_ (aet H.S ih aa c7 (λm i=>H.mem aa i) ar b));rfl;rw[aq c7,aq (show ¬(x.ae=6:J)=true by simpa using c7)];by_cases fc:x.ae=7;rw[ag fc,ag (show (x.ae=7:J) by simpa using fc)];exact gL.eta (aev H ih aa fc ar b);rw[aq fc,aq (show ¬(x.ae=7:J)=true by simpa using fc)];by_cases eA:x.ae=8;rw[ag eA,ag (show (x.ae=8:J) by simpa using eA)];refine gL.eta (gL.cast ?_ (ahv ih eA (H.key aa eA) (H.elem aa (by omega)) ar b));rfl
  rw[aq eA,aq (show ¬(x.ae=8:J)=true by simpa using eA)];have cZ:x.ae=5:=by omega
  obtain⟨F,f⟩:=adZ H.S H.W ih aa cZ (λm i=>H.mem aa i) ar (b1:=b1) (b2:=b2) b;refine gL.eta ?_;unfold yo;cases ak:iM p with
  |none=>exact⟨λv h=>(by cases h),λ_=>f (.inl ak)⟩
  |some l=>
   dsimp only;cases hs:cR (e4 (ds ts n) l) x.af with
   |none=>exact⟨λv h=>(by cases h),λ_=>f (.inr ⟨l,ak,.inl hs⟩)⟩
   |some Q=>
    dsimp only;cases r:l.all (gQ x)with
    |true=>exact⟨λv h=>(by cases h;exact F l ak Q hs r),λh=>(by cases h)⟩
    |false=>exact⟨λv h=>(by cases h),λ_=>f (.inr ⟨l,ak,.inr r⟩)⟩
end
def gy(o:ai ab)(r:ai dd):Prop:=(∀v,o=some v->∃F,r=some ⟨v,F,true⟩)/\(o=none->∃F,r=some ⟨kt,F,false⟩)
theorem Bj(ar:so.length<=1000)(a:Int):h3 (so,a)=some ⟨kt,⟨so,a⟩,false⟩:=by rw[h3,ag (dQ (by simp) (by grind))];rfl
theorem nZ(ar:so.length<=1000)(step:Int):mC (so,step)=some (so++[step]):=by
 rw[mC,ag (dQ (by simp) (by grind))];simp only[a7,ay,iY];rw[ag (dQ (by simp) (by grind))]
theorem jT(ar:so.length<=1000)(a:Int):gy none (h3 (so,a)>>=λr=>some (⟨ab.eta r.b6,r.er,r.cD⟩:dd)):=by
 rw[Bj ar];exact⟨λv h=>(by grind),λ_=>⟨_,rfl⟩⟩
theorem gy.eta{o:ai ab}{X:ai dd}(h:gy o X):gy o (X>>=λr=>some (⟨ab.eta r.b6,r.er,r.cD⟩:dd)):=by
 refine⟨λv a=>?_,λaL=>?_⟩;obtain⟨F,bJ⟩:=h.1 v a;grind[ab.bN];obtain⟨F,bJ⟩:=h.2 aL;exact⟨F,by rw[bJ];rfl⟩
theorem vx(v:ab):oF v=some ⟨v,⟨[],0⟩,true⟩:=by rw[oF,ab.bN]
theorem gy.one(v:ab):gy (some v) (oF v>>=λr=>some (⟨ab.eta r.b6,r.er,r.cD⟩:dd)):=by
 rw[vx];exact⟨λa h=>(by simp_all[ab.bN]),λh=>(by grind)⟩
section
variable {ts:I aj}
def l9(ts:I aj)(o:ai ab)(L:Int)(so:az)(t:Int)(q:au)(step:Int):Prop:=
 gy o (mC (so,step)>>=λr=>ka ((⟨ts⟩:aY),t,q,aQ .i64 L 1,r))
theorem l9.yes{L:Int}{step:Int}(h:l9 ts o L so t q step)(ar:so.length<=1000)(a:o=some v):∃F,ka ((⟨ts⟩:aY),t,q,aQ .i64 L 1,so++[step])=some ⟨v,F,true⟩:=by
 unfold l9 at h;rw[nZ ar]at h;exact h.1 v a
theorem l9.no{L:Int}{step:Int}(h:l9 ts o L so t q step)(ar:so.length<=1000)(a:o=none):∃F,ka ((⟨ts⟩:aY),t,q,aQ .i64 L 1,so++[step])=some ⟨kt,F,false⟩:=by
 unfold l9 at h;rw[nZ ar]at h;exact h.2 a
theorem WE {x:aj}{so:az}(n:so.length<=900){f:au->ai ab}{l:I au}(ak:l.length<=90000){L:Int}(h:∀q,q∈l->∀step,l9 ts (f q) L so x.aE q step)
 {z0 z2 z4 z5 z7 z9 z11:Int}{z1 z6 z8:J}{z3 z10:au}:∀(k i:Nat) (acc:I ab),i+k=l.length->acc.length=i->
 (∀m,cR f (l.drop i)=some m->uC (L,so,l,(i:Int),ts,x,z0,z1,z2,z3,z4,z5,z6,z7,z8,z9,z10,z11,acc)=some (.inr (z0,z1,z2,z3,z4,z5,z6,z7,z8,z9,z10,z11,acc++m)))/\
 (cR f (l.drop i)=none->∃F,uC (L,so,l,(i:Int),ts,x,z0,z1,z2,z3,z4,z5,z6,z7,z8,z9,z10,z11,acc)=some (.inl ⟨kt,F,false⟩))
 |0,i,acc,j,g=>by
  rw[uC,aq (by grind),fA (by omega),cR];simp
 |k+1,i,acc,j,g=>by
  have aD:i<l.length:=by omega
  have c:=h _ (bp aD []) (i:Int);have e:l.drop i=l.getD i []::l.drop (i+1):=by simp_all
  rw[uC,ag (by grind),ag (aX aD),bo,e,AL,nZ (by omega)];simp only[a7,ay];cases d:f (l.getD i [])with
  |none=>
   obtain⟨F,b⟩:=c.no (by omega) d;rw[b];exact⟨λm a=>(by cases a),λ_=>⟨F,by rfl⟩⟩
  |some v=>
   obtain⟨F,b⟩:=c.yes (by omega) d;rw[b];simp only[ay,ab.bN,dX];rw[cN,ag (dQ (by simp) (by grind)),bP];obtain⟨r,o⟩:=WE n ak h (z0:=z0) (z1:=z1) (z2:=z2) (z3:=z3) (z4:=z4) (z5:=z5) (z6:=z6) (z7:=z7) (z8:=z8) (z9:=z9) (z10:=z10) (z11:=z11) k (i+1) (acc++[v]) (by omega) (by grind);cases hs:cR f (l.drop (i+1))with
   |none=>exact⟨λm a=>(by cases a),λ_=>o hs⟩
   |some p=>
    refine⟨λm a=>?_,λh=>(by cases h)⟩;have:m=v::p:=(by cases a;rfl);grind
theorem C7{i:Nat}(h:i<1000000:=by omega):gi .i64 2 (i:Int)=((2*i:Nat):Int):=by
 exact lv
theorem WD {x:aj}{so:az}(i:so.length<=900){f:au->ai ab}{l:I au}(ak:l.length<=90000){L:Int}(h:∀q,q∈l->∀step,l9 ts (f q) L so x.aS q step)
 {z0 z2 z4 z5 z7 z9 z11:Int}{z1 z6 z8:J}{z3 z10:au}:∀(k j:Nat) (acc:I ab),2*(j+k)=l.length->acc.length=j->
 (∀m,cR f (fu (l.drop (2*j)))=some m->tF (L,so,l,(j:Int),ts,x,z0,z1,z2,z3,z4,z5,z6,z7,z8,z9,z10,z11,acc)=some (.inr (L,so,l,ts,x,z0,z1,z2,z3,z4,z5,z6,z7,z8,z9,z10,z11,acc++m)))/\
 (cR f (fu (l.drop (2*j)))=none->∃F,tF (L,so,l,(j:Int),ts,x,z0,z1,z2,z3,z4,z5,z6,z7,z8,z9,z10,z11,acc)=some (.inl ⟨kt,F,false⟩))
 |0,j,acc,g,e=>by
  rw[tF,C7,aq (by grind),fA (by omega),show fu ([]:I au)=[]from rfl,cR];simp
 |k+1,j,acc,g,e=>by
  have aD:2*j<l.length:=by omega
  have c:=h _ (bp aD []) (j:Int);rw[tF,C7,ag (by grind)];simp only[a7,ay];rw[ag (aX aD),bo,Oi (by omega) [],AL,nZ (by omega)];simp only[ay];cases d:f (l.getD (2*j) [])with
  |none=>
   obtain⟨F,b⟩:=c.no (by omega) d;rw[b];exact⟨λm a=>(by cases a),λ_=>⟨F,by rfl⟩⟩
  |some v=>
   obtain⟨F,b⟩:=c.yes (by omega) d;rw[b];simp only[ay,ab.bN,dX];rw[cN,ag (dQ (by simp) (by grind)),bP];obtain⟨p,n⟩:=WD i ak h (z0:=z0) (z1:=z1) (z2:=z2) (z3:=z3) (z4:=z4) (z5:=z5) (z6:=z6) (z7:=z7) (z8:=z8) (z9:=z9) (z10:=z10) (z11:=z11) k (j+1) (acc++[v]) (by omega) (by grind);cases hs:cR f (fu (l.drop (2*(j+1))))with
   |none=>exact⟨λm a=>(by cases a),λ_=>n hs⟩
   |some o=>
    refine⟨λm a=>?_,λh=>(by cases h)⟩;have:m=v::o:=(by cases a;rfl);grind
theorem Tx {x:aj}{so:az}(i:so.length<=900){f:au->ai ab}{l:I au}(ak:l.length<=90000){L:Int}(h:∀q,q∈l->∀step,l9 ts (f q) L so x.aE q step)
 {z0 z2 z4 z5 z7 z9 z11:Int}{z1 z6 z8:J}{z3 z10:au}{ks:I ab}:∀(k j:Nat) (acc:I ab),2*(j+k)=l.length->acc.length=j->
 (∀m,cR f (gr (l.drop (2*j)))=some m->tG (L,so,l,(j:Int),ts,x,z0,z1,z2,z3,z4,z5,z6,z7,z8,z9,z10,z11,ks,acc)=some (.inr (z0,z1,z2,z3,z4,z5,z6,z7,z8,z9,z10,z11,ks,acc++m)))/\
 (cR f (gr (l.drop (2*j)))=none->∃F,tG (L,so,l,(j:Int),ts,x,z0,z1,z2,z3,z4,z5,z6,z7,z8,z9,z10,z11,ks,acc)=some (.inl ⟨kt,F,false⟩))
 |0,j,acc,g,e=>by
  rw[tG,C7,aq (by grind),fA (by omega),show gr ([]:I au)=[]from rfl,cR];simp
 |k+1,j,acc,g,e=>by
  have aD:2*j+1<l.length:=by omega
  have c:=h _ (bp aD []) (j:Int);have aK:aQ .i64 ((2*j:Nat):Int) 1=((2*j+1:Nat):Int):=bP;rw[tG,C7,ag (by grind),aK];simp only[a7,ay];rw[ag (aX aD),bo,Po aD [],AL,nZ (by omega)];simp only[ay];cases d:f (l.getD (2*j+1) [])with
  |none=>
   obtain⟨F,b⟩:=c.no (by omega) d;rw[b];exact⟨λm a=>(by cases a),λ_=>⟨F,by rfl⟩⟩
  |some v=>
   obtain⟨F,b⟩:=c.yes (by omega) d;rw[b];simp only[ay,ab.bN,dX];rw[cN,ag (dQ (by simp) (by grind)),bP];obtain⟨p,n⟩:=Tx i ak h (z0:=z0) (z1:=z1) (z2:=z2) (z3:=z3) (z4:=z4) (z5:=z5) (z6:=z6) (z7:=z7) (z8:=z8) (z9:=z9) (z10:=z10) (z11:=z11) (ks:=ks) k (j+1) (acc++[v]) (by omega) (by grind);cases hs:cR f (gr (l.drop (2*(j+1))))with
   |none=>exact⟨λm a=>(by cases a),λ_=>n hs⟩
   |some o=>
    refine⟨λm a=>?_,λh=>(by cases h)⟩;have:m=v::o:=(by cases a;rfl);grind
theorem Wy{x:aj}(ar:so.length<=1000){l:I au}(a:∀y,y∈ks->eE y.bF)(ak:ks.length<=90000){L:Int}
 {z0 z2 z4 z5 z7 z9 z11:Int}{z1 z6 z8:J}{z3 z10:au}:∀(k i:Nat),ks.length-(i+1)=k->
 ((∀m,i<=m->m+1<ks.length->iz (ks.getD m aI) (ks.getD (m+1) aI)<0)/\r2 (L,so,l,((i+1:Nat):Int),ts,x,z0,z1,z2,z3,z4,z5,z6,z7,z8,z9,z10,z11,ks)=some (.inr (L,so,l,ts,x,z0,z1,z2,z3,z4,z5,z6,z7,z8,z9,z10,z11,ks)))\/
 ((∃m,m+1<ks.length/\¬iz (ks.getD m aI) (ks.getD (m+1) aI)<0)/\∃F,r2 (L,so,l,((i+1:Nat):Int),ts,x,z0,z1,z2,z3,z4,z5,z6,z7,z8,z9,z10,z11,ks)=some (.inl ⟨kt,F,false⟩))
 |0,i,b=>by
  rw[r2,aq (by grind)];grind
 |k+1,i,b=>by
  have aD:i+1<ks.length:=by omega
  have aK:dG .i64 ((i+1:Nat):Int) 1=(i:Int):=by grind[pD]
  rw[r2,ag (by grind),aK];simp only[a7,ay];rw[ag (fP),ag (by grind),ag (aX aD),ag (by grind),bo,bo];simp only[ab.bN];rw[AV (a _ (bp (by omega) aI)) (a _ (bp aD aI))];simp only[ay];by_cases d:iz (ks.getD i aI) (ks.getD (i+1) aI)<0
  . rw[aq (by grind),bP];rcases Wy ar a ak (x:=x) (l:=l) (L:=L) (z0:=z0) (z1:=z1) (z2:=z2) (z3:=z3) (z4:=z4) (z5:=z5) (z6:=z6) (z7:=z7) (z8:=z8) (z9:=z9) (z10:=z10) (z11:=z11) k (i+1) (by omega)with⟨h1,c⟩|h
    grind;grind
  rw[ag (by grind),Bj ar];grind
theorem ah5{l:I da}(id:Int)(ak:l.length<=90000):(∃j,j<l.length/\l.find? (λf=>(f.ah=id:J))=some (l.getD j dP)/\Ab (l,id)=some (j:Int))\/
 (l.find? (λf=>(f.ah=id:J))=none/\Ab (l,id)=some (-1)):=by
 have h:=uZ (λi=>uA (l,id,(i:Int))) l.length (λi=>((l.getD i dP).ah=id:J)) _ (.inr ())
  (λi b=>by
   rw[uA,ag (by grind),ag (aX b),bP]
   rfl)
  (by simp_all[uA,aq])
 rw[Ab];rcases h with⟨j,h1,c,d,a⟩|⟨h1,a⟩;left;grind[gA,List.find?_eq_some_iff_getElem];grind[List.find?_eq_none,List.getElem_of_mem,gA]
theorem WH {x:aj}{so:az}(C:so.length<=900){f:Int->au->ai ab}{l:I da}(ak:l.length<=90000)(w:x.af.length<=16){L:Int}
 (h:∀m,m∈x.af->∀q,q∈l->∀step,l9 ts (f m.aC q.b5) L so m.aC q.b5 step)
 {z0 z2 z4 z5 z7 z9 z11:Int}{z1 z6 z8:J}{z3 z10:au}:∀(k i:Nat) (acc:I ab),i+k=x.af.length->acc.length=i->
 (∀m,cR (e4 f l) (x.af.drop i)=some m->nn (L,so,l,(i:Int),ts,x,z0,z1,z2,z3,z4,z5,z6,z7,z8,z9,z10,z11,acc)=some (.inr (so,l,x,z0,z1,z2,z3,z4,z5,z6,z7,z8,z9,z10,z11,acc++m)))/\
 (cR (e4 f l) (x.af.drop i)=none->∃F,nn (L,so,l,(i:Int),ts,x,z0,z1,z2,z3,z4,z5,z6,z7,z8,z9,z10,z11,acc)=some (.inl ⟨kt,F,false⟩))
 |0,i,acc,A,z=>by
  rw[nn,aq (by grind),fA (by omega),cR];simp
 |k+1,i,acc,A,z=>by
  have aD:i<x.af.length:=by omega
  have B:=bp aD aF;have e:x.af.drop i=x.af.getD i aF::x.af.drop (i+1):=by simp_all
  have go:∀v,(∀g,cR (e4 f l) (x.af.drop (i+1))=some g->nn (L,so,l,((i+1:Nat):Int),ts,x,z0,z1,z2,z3,z4,z5,z6,z7,z8,z9,z10,z11,acc++[v])=some (.inr (so,l,x,z0,z1,z2,z3,z4,z5,z6,z7,z8,z9,z10,z11,acc++[v]++g)))/\(cR (e4 f l) (x.af.drop (i+1))=none->∃F,nn (L,so,l,((i+1:Nat):Int),ts,x,z0,z1,z2,z3,z4,z5,z6,z7,z8,z9,z10,z11,acc++[v])=some (.inl ⟨kt,F,false⟩)):=λv=>
   WH C ak w h k (i+1) (acc++[v]) (by omega) (by grind)
  rw [nn,ag (by simp_all),ag (aX aD),bo,e,AL];simp only [a7,ay];generalize x.af.getD i aF = a at *;have u:∀ (v:ab) (X:ai _),e4 f l a = some v->X = nn (L,so,l,((i+1:Nat):Int),ts,x,z0,z1,z2,z3,z4,z5,z6,z7,z8,z9,z10,z11,acc++[v])->
   (∀m,yR (e4 f l a) (cR (e4 f l) (x.af.drop (i+1)))=some m->X=some (.inr (so,l,x,z0,z1,z2,z3,z4,z5,z6,z7,z8,z9,z10,z11,acc++m)))/\
   (yR (e4 f l a) (cR (e4 f l) (x.af.drop (i+1)))=none->∃F,X=some (.inl ⟨kt,F,false⟩)):=by
   intro v X c y;obtain⟨g1,g2⟩:=go v;rw[c,y];cases hs:cR (e4 f l) (x.af.drop (i+1))with
   |none=>exact⟨λm b=>(by cases b),λ_=>g2 hs⟩
   |some g=>
    refine⟨λm b=>?_,λh=>(by cases h)⟩;have:m=v::g:=(by cases b;rfl);grind
  rcases ah5 a.ah ak with⟨j,t,d,p⟩|⟨d,p⟩
  . rw[p];simp only[ay];rw[cN,ag (aX t),bo,nZ (by omega)];have r:=h a B _ (bp t dP) a.ah;have n:e4 f l a=f a.aC (l.getD j dP).b5:=by unfold e4;rw[d]
    simp only[ay];cases c:f a.aC (l.getD j dP).b5 with
    |none=>
     obtain⟨F,o⟩:=r.no (by omega) c;rw[o,n,c];exact⟨λm b=>(by cases b),λ_=>⟨F,by rfl⟩⟩
    |some v=>
     obtain⟨F,o⟩:=r.yes (by omega) c;rw[o];simp only[ay,ab.bN,dX];rw[cN,ag (dQ (by simp)),bP];grind
  . rw[p];simp only[ay];cases s:a.bO with
    |true=>
     simp only[ab.bN];rw[ag (dQ),bP];exact u a.bC _ (by unfold e4;rw[d];simp[s]) rfl
    |false=>
     have n:e4 f l a=none:=by unfold e4;rw[d];simp[s]
     rw[ag (by rfl),nZ (by omega),n];simp only[ay];rw[Bj (by simp;omega)];exact⟨λm b=>(by cases b),λ_=>⟨_,rfl⟩⟩
theorem ali(e:x.af.length<=1000)(id:Int):∃r,g' (x,id)=some r/\r.2=(cx x.af id).isSome:=by
 obtain⟨r,d,a⟩:=DW (t:=x) (by omega);refine⟨r,d,?_⟩;cases bJ:cx _ id with
 |some m=>
  obtain⟨f,g⟩:=jS bJ;rcases a with⟨j,b,c,_,rfl⟩|⟨q,_⟩;rfl;grind[List.getElem_of_mem]
 |none=>
  rcases a with⟨j,b,c,_,_⟩|⟨_,q⟩;grind[mv,bp];grind
theorem H8 {x:aj}{so:az}(d:so.length<=900)(b:x.af.length<=1000){l:I da}(ak:l.length<=90000)
 {z0 z2 z4 z5 z7 z9 z11:Int}{z1 z6 z8:J}{z3 z10:au}{its:I ab}:∀(k i:Nat) (acc:I ct),i+k=l.length->acc.length<=i->
 ((l.drop i).all (gQ x)->p2 (so,l,(i:Int),x,z0,z1,z2,z3,z4,z5,z6,z7,z8,z9,z10,z11,its,acc)=some (.inr (z0,z1,z2,z3,z4,z5,z6,z7,z8,z9,z10,z11,its,acc++fO x (l.drop i))))/\
 ((l.drop i).all (gQ x)=false->∃F,p2 (so,l,(i:Int),x,z0,z1,z2,z3,z4,z5,z6,z7,z8,z9,z10,z11,its,acc)=some (.inl ⟨kt,F,false⟩))
 |0,i,acc,n,j=>by
  rw[p2,aq (by grind),fA (by omega)];grind[fO]
 |k+1,i,acc,n,j=>by
  have aD:i<l.length:=by omega
  have e:l.drop i=l.getD i dP::l.drop (i+1):=by simp_all
  obtain⟨r,o,g⟩:=ali b (l.getD i dP).ah;rw[p2,ag (by grind),ag (aX aD),bo,e];simp only[a7,ay];generalize l.getD i dP=f at*;rw[o];simp only[ay];have m:(f::l.drop (i+1)).all (gQ x)=(gQ x f&&(l.drop (i+1)).all (gQ x)):=rfl;rw[m];cases hs:(cx x.af f.ah).isSome with
  |true=>
   have a:gQ x f:=(by grind[gQ]);have c:fO x (f::l.drop (i+1))=fO x (l.drop (i+1)):=(by grind[fO,List.filter_cons_of_neg]);rw[g,hs,ag rfl,a,c,bP,mN];exact H8 d b ak k (i+1) acc (by omega) (by omega)
  |false=>
   rw[g,hs,cN,ag (aX aD)];cases p:f.bV with
   |true=>
    have a:gQ x f=false:=(by grind[gQ]);rw[ag rfl,ag (aX aD),nZ (by omega),a];simp only[ay];rw[Bj (by grind)];exact⟨λh=>(by grind),λ_=>⟨_,rfl⟩⟩
   |false=>
    have a:gQ x f:=(by grind[gQ]);have c:fO x (f::l.drop (i+1))=⟨f.ah,f.b5⟩::fO x (l.drop (i+1)):=(by grind[fO,List.filter_cons_of_pos]);rw[cN,ag (aX aD),ag (aX aD),ag (dQ (by simp) (by grind)),a,c,bP,mN];have:=H8 d b ak (z0:=z0) (z1:=z1) (z2:=z2) (z3:=z3) (z4:=z4) (z5:=z5) (z6:=z6) (z7:=z7) (z8:=z8) (z9:=z9) (z10:=z10) (z11:=z11) (its:=its) k (i+1) (acc++[⟨f.ah,f.b5⟩]) (by omega) (by grind);grind
def pn(ts:I aj)(n:Nat):Prop:=∀(t:Int) (p:au) (so:az),0<=t->t<ts.length->p.length<=4096->so.length+n<=200->
 gy (ds ts n t p) (ka ((⟨ts⟩:aY),t,p,((201-n:Nat):Int),so))
theorem pn.part{n:Nat}(ih:pn ts n)(aL:n+1<=200)(t0:0<=t/\t<ts.length)(a:q.length<=4096)(ar:so.length+(n+1)<=200)(step:Int):
 l9 ts (ds ts n t q) ((201-(n+1):Nat):Int) so t q step:=by
 unfold l9;rw[nZ (by omega)];have e:aQ .i64 (201-(n+1):Nat) 1=(201-n:Nat):=by grind[lC]
 rw[e];exact ih t q _ t0.1 t0.2 a (by grind)
theorem gy.cast{a:ai ab}{X:ai dd}(e:o=a)(h:gy o X):gy a X:=e▸h
theorem gy.sN{X:ai dd}(h:X=some ⟨kt,F,false⟩):gy none X:=⟨λv h=>(by grind),λ_=>⟨F,h⟩⟩
theorem gy.yg{X:ai dd}(h:X=some ⟨v,F,true⟩):gy (some v) X:=⟨λc a=>(by grind),λh=>(by grind)⟩
theorem ah6(H:jL ts){n:Nat}(aL:n+1<=200)(ih:pn ts n)(aa:x∈ts)(c7:x.ae=6)(ar:p.length<=4096)(i:so.length+(n+1)<=200):
 gy (Ci (ds ts n) x p) (Es ((⟨ts⟩:aY),x,p,((201-(n+1):Nat):Int),so)):=by
 have⟨o,_,u,w,D⟩:=Qp p;rw[Es,u];simp only[a7,ay];unfold Ci;by_cases h0:o.2.2=0
 . have⟨v1,v2,v3⟩:=w h0;have⟨g,z⟩:=H.S.A x aa (.inr c7);rw[aq (by grind),v1];have⟨r,y,f⟩:=DW (t:=x) (id:=o.1) (by omega);rw[y];simp only[ay];cases bJ:cx x.af o.1 with
   |some m=>
    dsimp only;have⟨e,C⟩:=jS bJ;rcases f with⟨j,a,l,_,rfl⟩|⟨q,_⟩
    . have s:x.af.getD j aF=m:=qf g (bp a aF) e (by grind);rw[cN,cN,ag (aX a),bo,s];have b:=ih.part aL (t:=m.aC) (q:=o.2.1) (so:=so) (H.mem aa e) (by omega) i o.1;rw[nZ (by omega)];simp only[ay];cases c:ds ts n m.aC o.2.1 with
      |none=>
       have⟨F,d⟩:=b.no (by omega) c;rw[d];exact .sN rfl
      |some v=>
       have⟨F,d⟩:=b.yes (by omega) c;simp_all[ay,aq,vx,gy.cast,gy.yg,ab.bN]
    grind[List.getElem_of_mem,gA]
   |none=>
    have k:r=(0,false):=by
     rcases f with⟨j,a,l,_,_⟩|⟨_,q⟩;grind[mv,bp];grind
    rw[k];cases B:x.bt with
    |false=>
     exact jT (by omega) _
    |true=>
     simp_all[ag,aq,vx,gy.yg,ab.bN]
 grind[jT]
theorem ah7(H:jL ts){n:Nat}(aL:n+1<=200)(ih:pn ts n)(aa:x∈ts)(fc:x.ae=7)(ar:p.length<=4096)(c:so.length+(n+1)<=200):
 gy (vB (ds ts n) x p) (Ev ((⟨ts⟩:aY),x,p,((201-(n+1):Nat):Int),so)):=by
 have⟨o,_,e,g,k⟩:=EF (p:=p) (by omega);rw[Ev,e];unfold vB;simp only[a7,ay];by_cases h0:o.2=0
 . have⟨v1,v2,v3⟩:=g h0;rw[v1];dsimp only;by_cases b:(o.1.length:Int)<=x.Max
   . rw[ag b,aq (by grind),aq (by grind)];have⟨cO,a⟩:=WE (ts:=ts) (x:=x) (so:=so) (by omega) (f:=ds ts n x.aE) (l:=o.1) (by omega) (λq i step=>ih.part aL (H.elem aa (by omega)) (by grind) c step)
      (z0:=0) (z1:=false) (z2:=0) (z3:=[]) (z4:=0) (z5:=0) (z6:=false) (z7:=x.ae) (z8:=false) (z9:=0) (z10:=[]) (z11:=0) o.1.length 0 [] (by simp) rfl
     have z0:((0:Nat):Int)=0:=rfl;rw[z0]at cO a;cases hs:cR (ds ts n x.aE) o.1 with
     |none=>
      have⟨F,d⟩:=a hs;rw[d];exact .sN rfl
     |some j=>
      simp_all[ay,vx,gy.cast,gy.yg,ab.bN,fc]
   grind[jT]
 grind[jT]
theorem alc(H:jL ts){n:Nat}(aL:n+1<=200)(ih:pn ts n)(aa:x∈ts)(eA:x.ae=8)(ar:p.length<=4096)(j:so.length+(n+1)<=200):
 gy (Cj (ds ts n) x p) (DI ((⟨ts⟩:aY),x,p,((201-(n+1):Nat):Int),so)):=by
 have⟨o,_,B,C,I⟩:=EF (p:=p) (by omega);rw[DI,B];unfold Cj;simp only[a7,ay];by_cases h0:o.2=0
 . have⟨v1,v2,v3⟩:=C h0;rw[v1];dsimp only;have v:cn (o.1.length:Int) 2=((o.1.length%2:Nat):Int):=(by rfl);rw[v,Wx (by omega)];by_cases he:o.1.length%2=0
   . by_cases t:((o.1.length/2:Nat):Int)<=x.Max
     . rw[ag (show o.1.length%2=0/\((o.1.length/2:Nat):Int)<=x.Max from⟨he,t⟩),aq (show ¬(bif !(o.2=0:J)then true else (((o.1.length%2:Nat):Int)=1:J))=true by grind),aq (show ¬(x.Max<((o.1.length/2:Nat):Int):J)=true by grind)];have z0:((0:Nat):Int)=0:=rfl;have⟨cO,e⟩:=WD (ts:=ts) (x:=x) (so:=so) (by omega) (f:=ds ts n x.aS) (l:=o.1) (by omega) (L:=((201-(n+1):Nat):Int)) (λq u step=>ih.part aL (H.key aa eA) (by grind) j step)
        (z0:=0) (z1:=false) (z2:=0) (z3:=[]) (z4:=0) (z5:=0) (z6:=false) (z7:=x.ae) (z8:=false) (z9:=0) (z10:=[]) (z11:=0) (o.1.length/2) 0 [] (by omega) rfl
       rw[Nat.mul_zero,gk,z0]at cO e;cases hs:cR (ds ts n x.aS) (fu o.1)with
       |none=>
        have⟨F,d⟩:=e hs;rw[d];exact .sN rfl
       |some ks=>
        have E:=nF hs;have D:=Ka o.1;rw[cO ks hs];simp only[ay,iY];have s:∀y,y∈ks->eE y.bF:=λy al=>by
         have⟨a,_,a2⟩:=xo hs y al;exact Rj a2
        have one:((0+1:Nat):Int)=1:=rfl;rcases Wy (ts:=ts) (x:=x) (so:=so) (by omega) (l:=o.1) (ks:=ks) s (by omega) (L:=((201-(n+1):Nat):Int))
         (z0:=0) (z1:=false) (z2:=0) (z3:=[]) (z4:=0) (z5:=0) (z6:=false) (z7:=x.ae) (z8:=false) (z9:=0) (z10:=[]) (z11:=0) (ks.length-(0+1)) 0 rfl with⟨h1,b⟩|⟨⟨m,z,A⟩,F,b⟩
        . have c:pA ks:=x9.2 λi r=>h1 i (by simp) r;rw[one]at b;rw[b,ag c];simp only[ay];have⟨k,g⟩:=Tx (ts:=ts) (x:=x) (so:=so) (by omega) (f:=ds ts n x.aE) (l:=o.1) (by omega) (L:=((201-(n+1):Nat):Int)) (λq u step=>ih.part aL (H.elem aa (by omega)) (by grind) j step)
           (z0:=0) (z1:=false) (z2:=0) (z3:=[]) (z4:=0) (z5:=0) (z6:=false) (z7:=x.ae) (z8:=false) (z9:=0) (z10:=[]) (z11:=0) (ks:=ks) (o.1.length/2) 0 [] (by omega) rfl
          rw[Nat.mul_zero,gk,z0]at k g;cases w:cR (ds ts n x.aE) (gr o.1)with
          |none=>
           have⟨F,d⟩:=g w;rw[d];exact .sN rfl
          |some G=>
           simp_all[vx,gy.cast,gy.yg,ab.bN]
        have c:¬pA ks:=λh=>A (x9.1 h m z);rw[one]at b;rw[b,aq c];exact .sN rfl
     grind[jT]
   grind[jT]
 grind[jT]
theorem ahw(H:jL ts){n:Nat}(aL:n+1<=200)(ih:pn ts n)(aa:x∈ts)(cZ:x.ae=5)(ar:p.length<=4096)(g:so.length+(n+1)<=200):
 gy (yo (ds ts n) x p) (DC ((⟨ts⟩:aY),x,p,((201-(n+1):Nat):Int),so)):=by
 have⟨k,r⟩:=H.S.A x aa (.inl cZ);have⟨o,_,i,j,t⟩:=Nl (p:=p) (by omega);rw[DC,i];unfold yo;simp only[a7,ay];by_cases h0:o.2=0
 . have⟨v1,v2,v3,v4⟩:=j h0;rw[aq (by grind),v1];dsimp only;have⟨cO,b⟩:=WH (ts:=ts) (x:=x) (so:=so) (by omega) (f:=ds ts n) (l:=o.1) (by omega) (by omega) (λm e q s step=>ih.part aL (H.mem aa e) (by grind) g step)
    (z0:=0) (z1:=false) (z2:=0) (z3:=[]) (z4:=0) (z5:=0) (z6:=false) (z7:=x.ae) (z8:=false) (z9:=0) (z10:=[]) (z11:=0) x.af.length 0 [] (by simp) rfl
   have z0:((0:Nat):Int)=0:=rfl;rw[gk,z0]at cO b;have B:=λits=>H8 (x:=x) (so:=so) (by omega) (by omega) (l:=o.1) (by omega) (z0:=0) (z1:=false) (z2:=0) (z3:=[]) (z4:=0) (z5:=0) (z6:=false) (z7:=x.ae) (z8:=false) (z9:=0) (z10:=[]) (z11:=0) (its:=its) o.1.length 0 [] (by simp) (e' _);rw[gk,z0]at B;cases hs:cR (e4 (ds ts n) o.1) x.af with
   |none=>
    have⟨F,a⟩:=b hs;rw[a];exact .sN rfl
   |some c=>
    rw[cO c hs];simp only[ay,iY];cases d:o.1.all (gQ x)with
    |true=>
     simp_all[ag,ay,vx,gy.cast,gy.yg,ab.bN]
    |false=>
     have⟨F,a⟩:=(B c).2 d;rw[a,cN];exact .sN rfl
 grind[jT]
theorem afq(H:jL ts){n:Nat}(aL:n+1<=200)(ih:pn ts n):pn ts (n+1):=λt p so t0 t1 ar d=>by
 obtain⟨j,rfl⟩:=Dc t0;have s:j<ts.length:=by omega
 have a:¬(200:Int)<((201-(n+1):Nat):Int):=by omega
 rw[ka,ag (aX s),EX,bo];have aa:=bp s aM;generalize ts.getD j aM=x at*;obtain⟨P,Q⟩:=H.S.K x aa;have I:x.bf.length<9223372036854775807:=eS (iR (H.S.T x aa).1);unfold l3;obtain⟨u,_,O,A,B⟩:=Kz p;have w:zU p=some (u.1,(u.2=0:J)):=by rw[zU,O];rfl
 by_cases bj:x.ae=1
 . simp only[bj,a,gP,↓reduceIte,Int.reduceEq,dz,eC,cm,a7,ay];unfold Ce;by_cases h0:p=[]
   rw[ag h0,aq (by simp[h0])];simp only[h0,di,dX];exact .one _
   . by_cases h1:p=[1]
     rw[aq h0,ag h1,aq (by simp[h1])];simp only[h0,dz,fY];exact .one _;rw[aq h0,aq h1,ag (by simp[h0,h1])];exact jT (by omega) _
 by_cases bq:x.ae=2
 . simp only[bq,a,gP,↓reduceIte,Int.reduceEq,dz,eC,cm,a7,ay,w];unfold Cf;by_cases h0:u.2=0
   . obtain⟨m,f,l⟩:=A h0;rw[f,l,Tu (BU f),aq (by simp[h0])];simp only[ay];by_cases b:x.bA<=gI m/\gI m<=x.bI
     rw[ag b,eF];exact .one _;rw[aq b,c'];exact jT (by omega) _
   rw[B h0,ag (by simp[h0])];exact jT (by omega) _
 by_cases b4:x.ae=3
 . simp only[b4,a,gP,↓reduceIte,Int.reduceEq,dz,eC,cm,a7,ay];unfold Cg;by_cases b:(p.length:Int)<=x.Max
   rw[ag b,b9];exact .one _;rw[aq b,jE];exact jT (by omega) _
 by_cases cv:x.ae=4
 . simp only[cv,a,gP,↓reduceIte,Int.reduceEq,dz,eC,cm,a7,ay,w];unfold Ch;by_cases h0:u.2=0
   . obtain⟨m,f,l⟩:=A h0;rw[f,l];dsimp only;by_cases b:1<=m/\m<=1000
     . obtain⟨q,_,M,N⟩:=rz (t:=x) (m:Int) I;have e:b7 .i64 (m:Int)=(m:Int):=lv;rw[aq (show ¬(bif bif !(u.2=0:J)then true else ((m:Int)<1:J)then true else (1000<(m:Int):J))=true by simp[h0];omega),e,M];simp only[ay];have G:q.2=(x.bf.any λy=>(y.ah=(m:Int):J)):=by
        have:=(EE N).trans Sv;grind
       rw[G];by_cases o:((x.bf.any λy=>(y.ah=(m:Int):J))||x.bt)=true
       . rw[ag (show 1<=m/\m<=1000/\((x.bf.any λy=>(y.ah=(m:Int):J))||x.bt)=true from⟨b.1,b.2,o⟩),aq]
         exact .one _;grind
       . rw[aq (show ¬(1<=m/\m<=1000/\((x.bf.any λy=>(y.ah=(m:Int):J))||x.bt))fromλh=>o h.2.2),ag]
         exact jT (by omega) _;grind
     rw[aq (show ¬(1<=m/\m<=1000/\((x.bf.any λy=>(y.ah=(m:Int):J))||x.bt))fromλh=>b ⟨h.1,h.2.1⟩),ag (by simp[h0];omega)];exact jT (by omega) _
   rw[B h0,ag (by simp[h0])];exact jT (by omega) _
 by_cases fv:x.ae=9
 . obtain⟨aK,D⟩:=H.elem aa (by omega);simp only[fv,a,gP,↓reduceIte,Int.reduceEq,dz,di,eC,fe,cm,a7,ay];cases p with
   |nil=>
    rw[cN,vC];exact .one _
   |cons c q=>
    have L:aG 0 (c::q).length:=aX (k:=0) (by simp);have b0:gC (c::q) 0=(c.toNat:Int):=rfl;have n0:fI 1 ((c::q).length:Int) (c::q).length:=jj.2 (by simp<;>omega);have C:hd (c::q) 1 ((c::q).length:Int)=q:=by
     unfold hd;simp
    rw[jY,ag L,b0,vC];by_cases g:c=1
    . subst g;rw[ag rfl,cN,ag n0,C];have r:=ih.part aL (t:=x.aE) (q:=q) (so:=so) ⟨aK,D⟩ (by simp at ar;omega) d 0;rw[nZ (by omega)];simp only[ay];cases z:ds ts n x.aE q with
      |none=>
       obtain⟨F,i⟩:=r.no (by omega) z;rw[i];exact .sN rfl
      |some v=>
       obtain⟨F,i⟩:=r.yes (by omega) z;rw[i];simp only[ay];rw[cN,vx];refine gy.cast rfl (gy.yg (F:=⟨[],0⟩) ?_);simp[ab.bN]
    have E:¬((c.toNat:Int)=1):=λh=>g (UInt8.toNat.inj (by show c.toNat=1;omega));rw[aq g,ag (by simpa using E)];exact jT (by omega) _
 by_cases c7:x.ae=6;have:=(ah6 H aL ih aa c7 ar (so:=so) d).eta;simp only[c7,a,gP,↓reduceIte,Int.reduceEq,dz,eC,cm,a7,ay];exact this;by_cases fc:x.ae=7;have:=(ah7 H aL ih aa fc ar (so:=so) d).eta;simp only[fc,a,gP,↓reduceIte,Int.reduceEq,dz,eC,cm,a7,ay];exact this;by_cases eA:x.ae=8;have:=(alc H aL ih aa eA ar (so:=so) d).eta;simp only[eA,a,gP,↓reduceIte,Int.reduceEq,dz,eC,cm,a7,ay];exact this
 have cZ:x.ae=5:=by omega
 have:=(ahw H aL ih aa cZ ar (so:=so) d).eta;simp only[cZ,a,gP,↓reduceIte,Int.reduceEq,dz,eC,cm,a7,ay];exact this
theorem Rl(H:jL ts):∀n,n<=200->pn ts n
 |0,_=>λt p so t0 t1 ar b=>by
  obtain⟨j,rfl⟩:=Dc t0;have a:j<ts.length:=by omega
  rw[ka,ag (aX a)];simp only[a7,ay];rw[jY,Kb];exact jT (by omega) _
 |n+1,aL=>afq H aL (Rl H n (by omega))
end
theorem ahx(n:Nat):(fZ (gI n)).toNat=n:=by
 unfold gI fZ;omega
theorem Sx:∀(k:Nat) (s:au),s.length=k->s.head?≠some 0->eD (gE 0 s)=s
 |0,s,c,h=>by
  have:s=[]:=ko c;subst this;rw[gE,eD,ag rfl]
 |k+1,s,c,h=>by
  have d:s≠[]:=λh0=>by rw[h0]at c;cases c
  have es:=List.dropLast_concat_getLast d;generalize s.getLast d=b at es;have ak:s.dropLast.length=k:=by simp[c]
  generalize s.dropLast=s' at es ak;subst es;have g:b.toNat<256:=Dn b;rw[KM];by_cases h0:s'=[];subst h0;have f:b≠0:=λe=>h (by rw[e];rfl);have:b.toNat≠0:=λe=>f (UInt8.toNat.inj e);show eD (0*256+b.toNat)=[b];rw[eD,b9,show(0*256+b.toNat)/256=0 by omega,eD,ag rfl,show(0*256+b.toNat)%256=b.toNat by omega];simp
  . have ih:=Sx k s' ak (λe=>h (by cases s' with|nil=>exact absurd rfl h0|cons a l=>simpa using e));have i:gE 0 s'≠0:=λe=>by rw[e,eD,ag rfl]at ih;exact h0 ih.symm
    rw[eD,b9,show(gE 0 s'*256+b.toNat)/256=gE 0 s' by omega,ih,show(gE 0 s'*256+b.toNat)%256=b.toNat by omega];simp
theorem Rm{s:au}{n:Nat}(h:gJ s=some n):eD n=s:=by
 unfold gJ at h;split at h;cases h;rename_i ad;cases h;exact Sx _ s rfl (λe=>ad (.inl e))
theorem Ty(s:au):∀(f i n m k:Nat),ie s f i n=((m:Int),(k:Int),0)->∃q,m=n+q*2^(7*i)/\s.drop i=e5 q++s.drop k/\(0<i->0<q)
 |0,i,n,m,k,h=>by rw[ie]at h;simp at h
 |f+1,i,n,m,k,h=>by
  rw[ie]at h;split at h
  . rename_i b;have a:s.drop i=s.getD i 0::s.drop (i+1):=by rw[gA b];exact mK b
    have o:(s.getD i 0).toNat<256:=Dn _;generalize s.getD i 0=c at*;split at h;simp at h
    . split at h
      . rename_i d;obtain⟨q,t,j,l⟩:=Ty s f (i+1) _ m k h;have r:=l (by omega);refine⟨c.toNat%128+128*q,?_,?_,λ_=>by omega⟩
        grind;rw[x6 (by omega),show(c.toNat%128+128*q)/128=q by omega,show(c.toNat%128+128*q)%128+128=c.toNat by omega,a,j];simp
      . rename_i d;split at h
        simp at h
        . rename_i h0;simp only[eB,vg]at h;have g:m=n+c.toNat*2^(7*i):=by have:=h.1;exact_mod_cast this.symm
          have e:k=i+1:=by have:=h.2;exact_mod_cast this.symm
          refine⟨c.toNat,g,?_,λp=>?_⟩;rw[w6 (by omega),a,e];simp;omega
  simp at h
theorem KN{s:au}{m k:Nat}(h:ie s 10 0 0=((m:Int),(k:Int),0)):s=e5 m++s.drop k:=by
 obtain⟨q,a,b,_⟩:=Ty s 10 0 0 m k h;grind
theorem Pq{s a b:au}(h:jc s=some (a,b)):s=dC a++b:=by
 unfold jc at h;rcases l4 s with⟨e,he,c⟩|⟨m,k,c,j,i,l⟩;grind
 . have dw:=KN c;rw[c]at h;dsimp only at h;split at h
   . rename_i g;simp only[eo,eB]at h;obtain⟨h1,d⟩:=h;have f:a.length=m:=by
      rw[<-h1,vk,mL];omega
     unfold dC;rw[f,j1,<-h1,<-d,Hz];simpa using dw
   cases h
theorem Pr:∀(n:Nat) (s:au) (b l:I au),s.length<=n->s.length+b.length<=100000->ir (s,b)=some (.inr l)->∃c,l=b++c/\c.flatMap dC=s
 |n,s,b,l,aL,g,h=>by
  rw[ir]at h;by_cases h0:s=[];simp_all
  . rw[ag (by simp[h0]),my]at h;simp only[a7,ay]at h;cases a:jc s with
    |none=>
     rw[a]at h;simp[eu]at h
    |some r=>
     obtain⟨x,rest⟩:=r;rw[a]at h;have ak:=oQ a;have e:¬((!(eu (some (x,rest))).2.2)=true):=(by simp[eu]);have f:bR 16 (b++[(eu (some (x,rest))).1]).length:=dQ;rw[aq e,ag f]at h
     match n,aL with
     |0,aL=>omega
     |n+1,aL=>
      obtain⟨c,aK,d⟩:=Pr n rest _ l (by omega) (by simp;omega) h;refine⟨x::c,by rw[aK];simp[eu],?_⟩;rw[hf,d];exact(Pq a).symm
theorem Ps:∀(n:Nat) (s:au) (b:I au),s.length<=n->s.length+b.length<=100000->ir (s,b)=some (.inl 0)->False
 |n,s,b,aL,e,h=>by
  rw[ir]at h;by_cases h0:s=[];grind
  . rw[ag (by simp[h0]),my]at h;simp only[a7,ay]at h;cases a:jc s with
    |none=>
     rw[a]at h;simp[eu]at h
    |some r=>
     obtain⟨x,rest⟩:=r;rw[a]at h;have ak:=oQ a;have c:¬((!(eu (some (x,rest))).2.2)=true):=(by simp[eu]);have d:bR 16 (b++[(eu (some (x,rest))).1]).length:=dQ;rw[aq c,ag d]at h
     match n,aL with
     |0,aL=>omega
     |n+1,aL=>exact Ps n rest _ (by omega) (by simp;omega) h
theorem Oj:∀(n:Nat) (s:au) (last:Nat) (b:I da),s.length<=n->s.length+b.length<=100000->hC ((last:Int),s,b)=some (.inl 0)->False
 |n,s,last,b,aL,g,h=>by
  rw[hC]at h;by_cases h0:s=[];grind
  . rw[ag (by simp[h0])]at h;rcases l4 s with⟨e,he,av⟩|⟨m,k,av,i,c,d⟩
    rw[oT he av]at h;simp at h
    . rw[mx av c]at h;simp only[a7,ay,vq d]at h;split at h
      cases h
      . rw[my (by rw[mL];omega)]at h;simp only[ay]at h;cases a:jc (s.drop k)with
        |none=>
         rw[a]at h;simp[eu]at h
        |some r=>
         obtain⟨x,rest⟩:=r;rw[a]at h;have ak:=oQ a;rw[mL]at ak;have f:¬((!(eu (some (x,rest))).2.2)=true):=(by simp[eu]);rw[aq f]at h;split at h
         . match n,aL with
           |0,aL=>omega
           |n+1,aL=>exact Oj n rest (m/2) _ (by omega) (by simp;omega) h
         cases h
theorem FL(ar:p.length<=90000){l:I au}(h:hy p=some l):l.flatMap dC=p:=by
 unfold hy at h;rw[lb]at h;cases a:ir (p,[])with
 |none=>rw[a]at h;simp at h
 |some o=>
  rw[a]at h;cases o with
  |inl e=>
   by_cases he:e=0;simp[he]at h;exfalso;obtain⟨d,a1,_⟩:=FM p.length p [] (by omega) (by simp;omega);exact Ps p.length p [] (by omega) (by simp;omega) (by rw[a,he]);grind
  |inr l2=>
   have e:l2=l:=(by simpa using h);obtain⟨c,aK,b⟩:=Pr p.length p [] l2 (by omega) (by simp;omega) a;grind
def wm(f:da):au:=fV f.ah.toNat f.bV f.b5
theorem Ol:∀(n:Nat) (s:au) (last:Nat) (b l:I da),s.length<=n->s.length+b.length<=100000->hC ((last:Int),s,b)=some (.inr l)->
 ∃c,l=b++c/\c.flatMap wm=s
 |n,s,last,b,l,aL,p,h=>by
  rw[hC]at h;by_cases h0:s=[];simp_all
  . rw[ag (by simp[h0])]at h;rcases l4 s with⟨e,he,av⟩|⟨m,k,av,t,f,g⟩
    rw[oT he av]at h;simp at h
    . have es:=KN av;rw[mx av f]at h;simp only[a7,ay,vq g]at h;by_cases q:((m/2:Nat):Int)<=(last:Int)\/1000<((m/2:Nat):Int)
      grind
      . have:¬((bif bif (!true)then true else (((m/2:Nat):Int)<=(last:Int):J)then true else (1000<((m/2:Nat):Int):J))=true):=(by grind);rw[aq this,my (by rw[mL];omega)]at h;simp only[ay]at h;cases a:jc (s.drop k)with
        |none=>
         rw[a]at h;simp[eu]at h
        |some r=>
         obtain⟨x,rest⟩:=r;rw[a]at h;have ak:=oQ a;have ex:=Pq a;rw[mL]at ak;have i:¬((!(eu (some (x,rest))).2.2)=true):=(by simp[eu]);have o:b7 .i64 ((m/2:Nat):Int)=((m/2:Nat):Int):=lv;rw[aq i,o]at h;have j:bR 32 (b++[(⟨((m/2:Nat):Int),(cn (m:Int) 2=1:J),(eu (some (x,rest))).1⟩:da)]).length:=dQ;rw[ag j]at h
         match n,aL with
         |0,aL=>omega
         |n+1,aL=>
          obtain⟨c,aK,d⟩:=Ol n rest (m/2) _ l (by omega) (by simp;omega) h;refine⟨⟨((m/2:Nat):Int),(cn (m:Int) 2=1:J),x⟩::c,by rw[aK];simp[eu],?_⟩;rw[hf,d];unfold wm fV;have u:2*(((m/2:Nat):Int)).toNat+(if (cn (m:Int) 2=1:J) then 1 else 0)=m:=by
           rw[iI];grind
          grind
theorem Sy(ar:p.length<=90000){l:I da}(h:iM p=some l):l.flatMap wm=p:=by
 unfold iM at h;rw[mE]at h;have dw:hC (0,p,[])=hC (((0:Nat):Int),p,[]):=rfl;rw[dw]at h;cases a:hC (((0:Nat):Int),p,[])with
 |none=>rw[a]at h;simp at h
 |some o=>
  rw[a]at h;cases o with
  |inl e=>
   by_cases he:e=0;exfalso;exact Oj p.length p 0 [] (by omega) (by simp;omega) (by rw[a,he]);grind
  |inr l2=>
   have e:l2=l:=(by simpa using h);obtain⟨c,aK,b⟩:=Ol p.length p 0 [] l2 (by omega) (by simp;omega) a;grind
theorem Tz(h:jI p=some (id,q)):p=e5 id.toNat++q:=by
 unfold jI at h;rw[mu]at h;rcases l4 p with⟨e,he,av⟩|⟨m,k,av,d,a,f⟩;rw[oT he av]at h;simp at h
 . have es:=KN av;rw[mx av a]at h;simp only[a7,ay]at h;by_cases c:(m:Int)<1\/1000<(m:Int)
   grind;have:¬((bif bif (!true)then true else ((m:Int)<1:J)then true else (1000<(m:Int):J))=true):=(by grind);have b:b7 .i64 (m:Int)=(m:Int):=lv;rw[aq this,b]at h;simp only[cg,eo,eB]at h;rw[<-h.1,<-h.2];simpa using es
theorem Rn{f:α->ai c}(d1:α)(d2:c):∀{l:I α} {m:I c},cR f l=some m->∀i,i<l.length->f (l.getD i d1)=some (m.getD i d2)
 |[],m,h,i,e=>by grind
 |a::l,m,h,i,e=>by
  rw[cR]at h;split at h
  . rename_i b g h1 d;cases h;cases i with
    |zero=>grind
    |succ i=>exact Rn d1 d2 d i (by grind)
  grind
theorem Av{f:α->ai c}(d1:α)(d2:c):∀{l:I α},(∀a,a∈l->∃b,f a=some b/\P a b)->∃m,cR f l=some m/\∀i,i<l.length->P (l.getD i d1) (m.getD i d2)
 |[],_=>⟨[],by rfl,λi e=>by grind⟩
 |a::l,h=>by
  obtain⟨b,b1,b2⟩:=h a (.head _);obtain⟨m,g,j⟩:=Av d1 d2 (λa d=>h a (.tail _ d));refine⟨b::m,by grind[cR],λi e=>?_⟩;grind
theorem Gr:∀{l:I α},l.length%2=0->(fu l).length=l.length/2/\(gr l).length=l.length/2
 |[],_=>⟨by simp[fu],by simp[gr]⟩
 |[a],h=>by grind
 |a::b::l,h=>by
  obtain⟨h1,c⟩:=Gr (l:=l) (by grind);show(fu l).length+1=(l.length+1+1)/2/\(gr l).length+1=(l.length+1+1)/2;omega
theorem FU:∀{l:I α} {y:α},y∈gr l->y∈l
 |[],y,h=>by cases h
 |[_],y,h=>by cases h
 |a::b::l,y,h=>by
  rcases fk.1 h with rfl|h;simp;exact .tail _ (.tail _ (FU h))
def ph(l:I au):Nat:=(l.map λq=>q.length+1).sum
theorem KO(q:au)(l:I au):ph (q::l)=q.length+1+ph l:=by rfl
theorem KP:∀(l:I au),ph l<=(l.flatMap dC).length
 |[]=>by simp[ph]
 |q::l=>by
  have:=KP l;have:=qe q.length;have e:(dC q).length=(e5 q.length).length+q.length:=by grind[dC]
  rw[KO,hf,ea];omega
theorem Ro:∀(l:I au),ph (fu l)+ph (gr l)<=ph l
 |[]=>by simp[fu,gr,ph]
 |[a]=>by simp[fu,gr,ph]
 |a::b::l=>by
  have:=Ro l;grind[fu,gr,KO]
theorem F2{C:Nat}{f:au->ai ab}:∀{l:I au} {m:I ab},cR f l=some m->(∀q,q∈l->∀v,f q=some v->wt v<=C*(q.length+1))->fJ m<=C*ph l
 |[],m,h,_=>by simp_all[cR,sq]
 |q::l,m,h,k=>by
  rw[cR]at h;split at h;rename_i b g h1 d;have a:=k q (.head _) b h1;have c:=F2 d (λq e=>k q (.tail _ e));grind[nH,KO,Nat.mul_add];grind
def y9(l:I da):Nat:=(l.map λf=>f.b5.length+1).sum
theorem Sz(f:da)(l:I da):y9 (f::l)=f.b5.length+1+y9 l:=by rfl
theorem SA:∀(l:I da),y9 l<=(l.flatMap wm).length
 |[]=>by simp[y9]
 |f::l=>by
  have:=SA l;have:=qe f.b5.length;have e:(wm f).length=(e5 (2*f.ah.toNat+(if f.bV then 1 else 0))).length+((e5 f.b5.length).length+f.b5.length):=by grind[wm,fV,dC]
  rw[Sz,hf,ea];omega
def eh(C d:Nat)(l:I da)(m:aT):Nat:=match l.find? (λf=>(f.ah=m.ah:J))with
 |some f=>C*(f.b5.length+1)
 |none=>d
def aH(C d:Nat)(l:I da)(ms:I aT):Nat:=(ms.map (eh C d l)).sum
def qZ(id:Int)(A:Nat)(ms:I aT):Nat:=(ms.map λm=>if m.ah=id then A else 0).sum
theorem Lj{A:Nat}:∀{ms:I aT},(∀m,m∈ms->m.ah≠id)->qZ id A ms=0
 |[],_=>rfl
 |m::ms,h=>by
  have:=Lj (A:=A) (λm a=>h m (.tail _ a));grind[qZ]
theorem TA{id:Int}{A:Nat}:∀{ms:I aT},ms.Pairwise (λa b=>a.ah<b.ah)->qZ id A ms<=A
 |[],_=>j2 _
 |m::ms,h=>by
  rw[kQ]at h;by_cases e:m.ah=id
  . have:qZ id A ms=0:=Lj λx aa=>by grind
    grind[qZ]
  have:=TA (id:=id) (A:=A) h.2;grind[qZ]
theorem ahy(C d:Nat)(f:da)(l:I da)(m:aT):eh C d (f::l) m<=(if m.ah=f.ah then C*(f.b5.length+1)else 0)+eh C d l m:=by
 grind[eh]
theorem RQ(C d:Nat)(f:da)(l:I da):∀(ms:I aT),aH C d (f::l) ms<=qZ f.ah (C*(f.b5.length+1)) ms+aH C d l ms
 |[]=>by simp[aH]
 |m::ms=>by
  have a:=RQ C d f l ms;grind[ahy,aH,qZ]
theorem TB(C d:Nat):∀(ms:I aT),aH C d [] ms=d*ms.length
 |[]=>by rfl
 |m::ms=>by
  have:=TB C d ms;unfold aH at*;simp;rw[Nat.mul_succ];have:eh C d [] m=d:=rfl;omega
theorem TC{C d:Nat}(fX:1<=C)(b:hY x.af):∀(l:I da),aH C d l x.af+((fO x l).map λr=>r.b5.length+1).sum<=d*x.af.length+C*y9 l
 |[]=>by grind[TB,fO]
 |f::l=>by
  have ih:=TC (d:=d) fX b l;have a:=RQ C d f l x.af;rw[Sz,Nat.mul_add];cases bJ:cx x.af f.ah with
  |some m=>
   have c:fO x (f::l)=fO x l:=(by grind[fO,List.filter_cons_of_neg,bJ]);rw[c];have:=TA (id:=f.ah) (A:=C*(f.b5.length+1)) b.1;omega
  |none=>
   have c:fO x (f::l)=⟨f.ah,f.b5⟩::fO x l:=(by grind[fO,List.filter_cons_of_pos,bJ]);have:qZ f.ah (C*(f.b5.length+1)) x.af=0:=Lj (mv bJ);have:f.b5.length+1<=C*(f.b5.length+1):=Nat.le_mul_of_pos_left _ fX;grind
theorem RR{C d:Nat}{f:Int->au->ai ab}{l:I da}(i:∀(m:aT),m.bO->True):∀{ms:I aT} {a:I ab},(∀m,m∈ms->(m.bO->wt m.bC<=d)/\∀g,g∈l->∀v,f m.aC g.b5=some v->wt v<=C*(g.b5.length+1))->cR (e4 f l) ms=some a->fJ a<=aH C d l ms
 |[],a,_,h=>by simp_all[cR,sq]
 |m::ms,a,k,h=>by
  rw[cR]at h;split at h
  . rename_i b o h1 e;cases h;have ih:=RR i (λm j=>k m (.tail _ j)) e;have n:wt b<=eh C d l m:=by
     unfold e4 at h1;unfold eh;cases c:l.find? _ with
     |some g=>
      rw[c]at h1;exact(k m (.head _)).2 g (xR c) b h1
     |none=>grind
    unfold aH at*;rw[nH,qT,List.sum_cons];omega
  grind
theorem Kc{l:I da}{r:ct}(h:r∈fO x l):∃f,f∈l/\cx x.af f.ah=none/\r=⟨f.ah,f.b5⟩:=by
 obtain⟨f,a,rfl⟩:=fl.1 h;obtain⟨h1,b⟩:=vl.1 a;refine⟨f,h1,?_,rfl⟩;simp_all
theorem Rp{l:I da}(c:l.Pairwise (λa b=>a.ah<b.ah))(d:∀f,f∈l->cB f.ah):iU x.af (fO x l):=by
 refine⟨?_,λr e=>?_⟩;grind[fO];grind[Kc]
section
variable {ts:I aj}
def re(ts:I aj)(t:Int)(p:au)(v:ab):Prop:=dL ts false t v/\cz v/\wt v<=300*(p.length+1)
theorem nJ{k:Int}{b:J}{i:Int}{s:au}{a:I ab}{r:I ct}(h0:0<=k/\k<=9)(h1:eE i)(c:0<=id/\id<=1000)(hs:s.length<=90000)(e:ks.length<=90000)(d:a.length<=90000)(f:r.length<=90000)
 (bj:∀x,x∈ks->cz x)(bq:∀x,x∈a->cz x)(b4:∀x,x∈r->x.b5.length<=90000/\cB x.ah):cz ⟨k,b,i,s,id,ks,a,r⟩:=by
 refine .mk _ (by grind[reachBytes]) (by grind[reachBytes]) (by grind[reachBytes]) (by grind[reachBytes]) bj bq (λx aa=>by grind[reachBytes]) ?_ h1 ?_ (λx aa=>by grind[cB])
 all_goals grind
theorem agt(H:dn ts){n:Nat}(ih:∀(t:Int) (p:au) (v:ab),p.length<=90000->0<=t->t<ts.length->ds ts n t p=some v->re ts t p v)(ar:p.length<=90000)(t0:0<=t)(t1:t<ts.length)(h:ds ts (n+1) t p=some v):re ts t p v:=by
 rw[EX]at h;have ax:t.toNat<ts.length:=by omega
 have aa:=bp ax aM;have fX:=H.iv;unfold re;rw[hp];generalize ts.getD t.toNat aM=x at*;unfold l3 at h;have kV:∀(k i id:Int) (b:J) (s:au),wt ⟨k,b,i,s,id,[],[],[]⟩=10+s.length:=λk i id b s=>by rfl
 by_cases bj:x.ae=1
 . have:∃b,v=⟨1,b,0,[],0,[],[],[]⟩:=by
    grind[Ce]
   obtain⟨b,rfl⟩:=this;exact⟨⟨⟨t0,t1,bj.symm,λh=>by simp⟩,.inl ⟨rfl,rfl,rfl,rfl,rfl,rfl,rfl⟩⟩,nJ (by simp) mH (by simp) (by simp) (by simp) (by simp) (by simp) (by simp) (by simp) (by simp),by grind⟩
 rw[aq bj]at h;by_cases bq:x.ae=2
 . rw[ag bq]at h;unfold Cf at h;cases u:gJ p with
   |none=>grind
   |some m=>
    rw[u]at h;dsimp only at h;split at h;rename_i E;cases h;exact⟨⟨⟨t0,t1,bq.symm,λh=>by rfl⟩,.inr (.inl ⟨rfl,rfl,rfl,rfl,rfl,rfl,rfl,E.1,E.2⟩)⟩,nJ (by simp) (Su (BU u)) (by simp) (by simp) (by simp) (by simp) (by simp) (by simp) (by simp) (by simp),by grind⟩;grind
 rw[aq bq]at h;by_cases b4:x.ae=3
 . rw[ag b4]at h;unfold Cg at h;split at h
   rename_i E;cases h;exact⟨⟨⟨t0,t1,b4.symm,λh=>by rfl⟩,.inr (.inr (.inl ⟨rfl,rfl,rfl,rfl,rfl,rfl,rfl,E⟩))⟩,nJ (by simp) mH (by simp) (by omega) (by simp) (by simp) (by simp) (by simp) (by simp) (by simp),by grind⟩;grind
 rw[aq b4]at h;by_cases cv:x.ae=4
 . rw[ag cv]at h;unfold Ch at h;cases u:gJ p with
   |none=>grind
   |some m=>
    rw[u]at h;dsimp only at h;split at h;rename_i E;cases h;refine⟨⟨⟨t0,t1,cv.symm,λh=>by rfl⟩,.inr (.inr (.inr (.inl ⟨rfl,rfl,rfl,rfl,rfl,rfl,rfl,?_⟩)))⟩,nJ (by simp) mH (by omega) (by simp) (by simp) (by simp) (by simp) (by simp) (by simp) (by simp),by grind⟩;grind[cB];grind
 rw[aq cv]at h;by_cases fv:x.ae=9
 . rw[ag fv]at h;obtain⟨aK,G⟩:=fX.elem aa (by omega);cases p with
   |nil=>
    cases h;simp_all[dv,nJ,mH]
   |cons c q=>
    rw[vC]at h;split at h
    . obtain⟨w,Z,rfl⟩:=o8.1 h;obtain⟨f1,f2,f3⟩:=ih _ _ _ (by grind) aK G Z;refine⟨⟨⟨t0,t1,fv.symm,λh=>by rfl⟩,.inr (.inr (.inr (.inr (.inr (.inr (.inr (.inr ⟨rfl,rfl,rfl,rfl,rfl,rfl,rfl,by simp,dv.2 ?_⟩)))))))⟩,nJ (by simp) mH (by simp) (by simp) (by simp) (by simp) (by simp) (by simp) ?_ (by simp),?_⟩
      grind;grind;grind[iA,nH,sq,List.length_cons]
    grind
 rw[aq fv]at h;by_cases c7:x.ae=6
 . rw[ag c7]at h;unfold Ci at h;cases ad:jI p with
   |none=>grind
   |some a=>
    obtain⟨id,q⟩:=a;rw[ad]at h;dsimp only at h;have ao:=Tz ad;have aG:=qe id.toNat;have aH:q.length+1<=p.length:=by rw[ao,ea];omega
    obtain⟨o,V,X,Y⟩:=Gp p;have hid:cB id:=(by grind);unfold cB at hid;cases bJ:cx x.af id with
    |some m=>
     rw[bJ]at h;obtain⟨w,Z,rfl⟩:=o8.1 h;obtain⟨B,aO⟩:=jS bJ;obtain⟨f1,f2,f3⟩:=ih _ _ _ (by omega) (fX.mem aa B).1 (fX.mem aa B).2 Z;refine⟨⟨⟨t0,t1,c7.symm,λh=>by cases h⟩,.inr (.inr (.inr (.inr (.inr (.inl ⟨rfl,rfl,rfl,rfl,rfl,?_⟩)))))⟩,nJ (by omega) mH (by omega) (by simp) (by simp) (by simp) (by simp) (by simp) ?_ (by simp),?_⟩
     . show(match cx x.af id with
        |some m=>_
        |none=>_)
       rw[bJ];refine⟨rfl,rfl,dv.2 ?_⟩;grind
     grind;rw[iA];show 10+0+0+fJ []+fJ [w]<=_;rw[nH,sq];omega
    |none=>
     rw[bJ]at h;dsimp only at h;split at h
     . rename_i aB;cases h;refine⟨⟨⟨t0,t1,c7.symm,λh=>by cases h⟩,.inr (.inr (.inr (.inr (.inr (.inl ⟨rfl,rfl,rfl,rfl,rfl,?_⟩)))))⟩,nJ (by omega) mH (by omega) (by simp) (by simp) (by simp) (by simp) (by simp) (by simp) ?_,?_⟩
       grind;grind;rw[iA];show 10+0+((q.length+1)+0)+fJ []+fJ []<=_;rw[sq];omega
     cases h
 rw[aq c7]at h;by_cases fc:x.ae=7
 . rw[ag fc]at h;unfold vB at h;obtain⟨aK,G⟩:=fX.elem aa (by omega);cases z:hy p with
   |none=>rw[z]at h;cases h
   |some l=>
    rw[z]at h;dsimp only at h;obtain⟨o,V,X,Y⟩:=u9 ar;have ak:(∀q,q∈l->q.length<=p.length)/\l.length<=p.length:=(by grind);have P:=KP l;rw[FL ar z]at P;split at h
    . rename_i ai;obtain⟨m,B,rfl⟩:=o8.1 h;have R:=nF B;have N:∀y,y∈m->∃q,q∈l/\re ts x.aE q y:=λy al=>by
       obtain⟨q,I,j⟩:=xo B y al;grind
      have an:=F2 (C:=300) B (λq O v F=>(ih _ _ _ (by have:=ak.1 q O;omega) aK G F).2.2);refine⟨⟨⟨t0,t1,fc.symm,λh=>by cases h⟩,.inr (.inr (.inr (.inr (.inr (.inr (.inl ⟨rfl,rfl,rfl,rfl,rfl,rfl,rfl,?_,dv.2 ?_⟩))))))⟩,nJ (by omega) mH (by omega) (by simp) (by simp) (by omega) (by simp) (by simp) ?_ (by simp),?_⟩;grind;intro y al;obtain⟨q,_,j⟩:=N y al;exact j.1;intro y al;obtain⟨q,_,j⟩:=N y al;exact j.2.1;rw[iA];show 10+0+0+fJ []+fJ m<=_;rw[sq];omega
    cases h
 rw[aq fc]at h;by_cases eA:x.ae=8
 . rw[ag eA]at h;unfold Cj at h;obtain⟨aK,G⟩:=fX.elem aa (by omega);obtain⟨d1,d2⟩:=fX.key aa eA;cases z:hy p with
   |none=>rw[z]at h;cases h
   |some l=>
    rw[z]at h;dsimp only at h;obtain⟨o,V,X,Y⟩:=u9 ar;have ak:(∀q,q∈l->q.length<=p.length)/\l.length<=p.length:=(by grind);have P:=KP l;rw[FL ar z]at P;have aL:=Ro l;split at h
    . rename_i ai;cases hs:cR (ds ts n x.aS) (fu l)with
      |none=>rw[hs]at h;cases h
      |some ks=>
       rw[hs]at h;dsimp only at h;split at h
       . rename_i aj;obtain⟨m,B,rfl⟩:=o8.1 h;have aD:=nF hs;have R:=nF B;obtain⟨g1,g2⟩:=Gr ai.1;have am:∀y,y∈ks->∃q,q∈fu l/\re ts x.aS q y:=λy al=>by
          obtain⟨q,I,j⟩:=xo hs y al;exact⟨q,I,ih _ _ _ (by have:=ak.1 q (EW I);omega) d1 d2 j⟩
         have N:∀y,y∈m->∃q,q∈gr l/\re ts x.aE q y:=λy al=>by
          obtain⟨q,I,j⟩:=xo B y al;exact⟨q,I,ih _ _ _ (by have:=ak.1 q (FU I);omega) aK G j⟩
         have aN:=F2 (C:=300) hs (λq O v F=>(ih _ _ _ (by have:=ak.1 q (EW O);omega) d1 d2 F).2.2);have an:=F2 (C:=300) B (λq O v F=>(ih _ _ _ (by have:=ak.1 q (FU O);omega) aK G F).2.2);refine⟨⟨⟨t0,t1,eA.symm,λh=>by cases h⟩,.inr (.inr (.inr (.inr (.inr (.inr (.inr (.inl ⟨rfl,rfl,rfl,rfl,rfl,rfl,?_,?_,dv.2 ?_,dv.2 ?_,x9.1 aj⟩)))))))⟩,nJ (by omega) mH (by omega) (by simp) (by omega) (by omega) (by simp) ?_ ?_ (by simp),?_⟩;grind;grind;intro y al;obtain⟨q,_,j⟩:=am y al;exact j.1;intro y al;obtain⟨q,_,j⟩:=N y al;exact j.1;intro y al;obtain⟨q,_,j⟩:=am y al;exact j.2.1;intro y al;obtain⟨q,_,j⟩:=N y al;exact j.2.1;rw[iA];grind
       cases h
    cases h
 rw[aq eA]at h;have cZ:x.ae=5:=by obtain⟨ay,az⟩:=fX.S.K x aa;omega
 unfold yo at h;obtain⟨ap,aA⟩:=fX.S.A x aa (.inl cZ);cases z:iM p with
 |none=>rw[z]at h;cases h
 |some l=>
  rw[z]at h;dsimp only at h;obtain⟨o,V,X,Y⟩:=EU ar;have ak:(∀f,f∈l->f.b5.length<=p.length/\cB f.ah)/\l.Pairwise (λa b=>a.ah<b.ah)/\l.length<=p.length:=by grind
  have P:=SA l;rw[Sy ar z]at P;cases hs:cR (e4 (ds ts n) l) x.af with
  |none=>rw[hs]at h;cases h
  |some U=>
   rw[hs]at h;dsimp only at h;split at h
   . rename_i aj;cases h;have R:=nF hs;have aw:∀i,i<x.af.length->dL ts false (x.af.getD i aF).aC (U.getD i aI)/\cz (U.getD i aI):=λi M=>by
      have u:=bp M aF;have:=Rn aF aI hs i M;unfold e4 at this;cases L:l.find? (λf=>(f.ah=(x.af.getD i aF).ah:J))with
      |some g=>
       rw[L]at this;have:=ih _ _ _ (by have:=(ak.1 g (xR L)).1;omega) (fX.mem aa u).1 (fX.mem aa u).2 this;exact⟨this.1,this.2.1⟩
      |none=>
       rw[L]at this;dsimp only at this;split at this
       . rename_i Q;have e:=(o' this)
         rw[<-e];exact⟨q1 _ _ (H.D x aa _ u Q),(H.T x aa).3 _ u⟩
       cases this
     have an:=RR (C:=300) (d:=13) (λ_ _=>trivial) (λm u=>⟨λQ=>H.W x aa m u Q,λg av v F=>(ih _ _ _ (by have:=(ak.1 g av).1;omega) (fX.mem aa u).1 (fX.mem aa u).2 F).2.2⟩) hs;have aJ:=TC (C:=300) (d:=13) (by omega) ap l;refine⟨⟨⟨t0,t1,cZ.symm,λh=>by cases h⟩,.inr (.inr (.inr (.inr (.inl ⟨rfl,rfl,rfl,rfl,rfl,rfl,Rp ak.2.1 (λf L=>(ak.1 f L).2),jR.2 ⟨R,λi M=>(aw i M).1⟩⟩))))⟩,nJ (by omega) mH (by omega) (by simp) (by simp) (by omega) ?_ (by simp) ?_ ?_,?_⟩;unfold fO;grind;intro y al;obtain⟨i,M,rfl⟩:=hE al;grind;intro r E;obtain⟨f,f1,_,rfl⟩:=Kc E;grind;rw[iA];show 10+0+((fO x l).map λr=>r.b5.length+1).sum+fJ []+fJ U<=_;rw[sq];omega
   cases h
theorem Lk(H:dn ts):∀(n:Nat) (t:Int) (p:au) (v:ab),p.length<=90000->0<=t->t<ts.length->ds ts n t p=some v->re ts t p v
 |0,t,p,v,_,_,_,h=>by grind[Kb]
 |n+1,t,p,v,ar,t0,t1,h=>agt H (Lk H n) ar t0 t1 h
end
theorem Ll:∀{A B:I Fd},A.Pairwise (λa b=>a.id<b.id)->B.Pairwise (λa b=>a.id<b.id)->(∀x,x∈A↔x∈B)->A=B
 |[],[],_,_,_=>rfl
 |[],b::B,_,_,h=>by have:=(h b).2 (.head _);grind
 |a::A,[],_,_,h=>by have:=(h a).1 (.head _);grind
 |a::A,b::B,c,dM,h=>by
  rw[kQ]at c dM;have e:a=b:=by grind
  subst e;rw[Ll c.2 dM.2 _];grind
theorem abw:∀(a b:au),Op.bytesLess a b->Op.bytesLess b a->False:=by
 grind[bytesLess_eq]
theorem aci{a b:au}(h1:kh a b)(c:kh b a):False:=by
 grind[EH,abw]
theorem afr{a b:ab}(e:1<=(ts.getD t.toNat aM).ae/\(ts.getD t.toNat aM).ae<=4)(c:eE a.bF)(d:eE b.bF)(l:a.ae=(ts.getD t.toNat aM).ae)(m:b.ae=(ts.getD t.toNat aM).ae)
 (h:iz a b=0):bM ts t a=bM ts t b:=by
 have h1:=AV c d;have f:=λv=>@pg ts t v;have g:=λv=>@q2 ts t v;have i:=λv=>@q3 ts t v;have j:=λv=>@q4 ts t v;generalize (ts.getD t.toNat aM).ae=k at*;rw[qv]at h1;by_cases bj:k=1;grind[js,ft,dM];by_cases bq:k=2;grind[sw,js];by_cases b4:k=3;simp only[js]at h1;grind;simp only[js]at h1;grind
theorem afs{a b:ab}(f:1<=(ts.getD t.toNat aM).ae/\(ts.getD t.toNat aM).ae<=4)(d:cz a)(e:cz b)(j:a.ae=(ts.getD t.toNat aM).ae)(k:b.ae=(ts.getD t.toNat aM).ae)
 (l:0<=a.ah\/a.ae≠4)(m:0<=b.ah\/b.ae≠4)(h:kh (bM ts t a) (bM ts t b)):iz a b<0:=by
 have g:eE a.bF:=by cases d with|mk _ _ _ _ _ _ _ _ _ c _ _=>exact c
 have i:eE b.bF:=by cases e with|mk _ _ _ _ _ _ _ _ _ c _ _=>exact c
 grind[afr,aci,aen,Pl]
theorem TD:∀(l:I au),l.length%2=0->gg (fu l) (gr l)=l.flatMap dC
 |[],_=>by rfl
 |[a],h=>by grind
 |a::b::l,h=>by rw[fu,gr,gg,TD l (by grind),hf,hf]
theorem Kd(d:α):∀{l:I α} {i:Nat},2*i+1<l.length->(fu l).getD i d=l.getD (2*i) d
 |[],i,h=>by rfl
 |[a],i,h=>by grind
 |a::b::l,0,h=>rfl
 |a::b::l,i+1,h=>by rw[fu,vj,Kd d (by grind),show 2*(i+1)=2*i+1+1 by rfl,vj,vj]
theorem Rq(d:α):∀{l:I α} {i:Nat},2*i+1<l.length->(gr l).getD i d=l.getD (2*i+1) d
 |[],i,h=>by rfl
 |[a],i,h=>by rfl
 |a::b::l,0,h=>rfl
 |a::b::l,i+1,h=>by rw[gr,vj,Rq d (by grind),show 2*(i+1)+1=2*i+1+1+1 by rfl,vj,vj]
theorem uI{l:I α}{y:α}(d:α)(h:y∈l):∃i,i<l.length/\l.getD i d=y:=by
 obtain⟨i,a,rfl⟩:=hE h;exact⟨i,a,gA a d⟩
section
variable {ts:I aj}
theorem Rr:∀{ms:I aT} {l:I ab} {j:Nat},j<ms.length->j<l.length->dm (ms.getD j aF) (l.getD j aI)=false->
 (⟨(ms.getD j aF).ah.toNat,(ms.getD j aF).bV,bM ts (ms.getD j aF).aC (l.getD j aI)⟩:Fd)∈dK ts ms l
 |[],l,j,h,_,_=>by grind
 |m::ms,[],j,_,h,_=>by grind
 |m::ms,v::l,0,_,_,h=>by
  grind[dK]
 |m::ms,v::l,j+1,h1,a,h=>by
  rw[dK];have:=Rr (j:=j) (by grind) (by grind) h;grind
theorem Rs{r:Nat}:∀{ms:I aT} {l:I ab},(∀j,j<ms.length->j<l.length->dm (ms.getD j aF) (l.getD j aI)=false->eW ts (ms.getD j aF).aC (l.getD j aI)<=r)->jn ts ms l<=r
 |[],l,_=>by
  grind[jn]
 |m::ms,[],_=>by
  grind[jn]
 |m::ms,v::l,h=>by
  have ih:=Rs λj h1 b a=>h (j+1) (by grind) (by grind) a;rw[jn];split;grind;have:=h 0 (by simp) (by simp) (by grind);grind
theorem FV{r:Nat}:∀{l:I ab},(∀y,y∈l->eW ts t y<=r)->gR ts t l<=r
 |[],_=>by exact j2 _
 |v::l,h=>by
  exact Nat.max_le.2 ⟨h v (.head _),FV λy al=>h y (.tail _ al)⟩
def Cv(ts:I aj)(r:Nat)(t:Int)(p:au):Prop:=∃v,ds ts r t p=some v/\bM ts t v=p/\eW ts t v<=r
theorem Rt{r:Nat}{l:I au}{m:I ab}(ak:m.length=l.length)(h:∀i,i<l.length->bM ts t (m.getD i aI)=l.getD i []/\eW ts t (m.getD i aI)<=r):bY ts t m=l/\gR ts t m<=r:=by
 constructor
 . refine Dk (by rw[lf,ak]) λi h1 b=>?_;have a:i<m.length:=(by omega);have e:=w7 (ts:=ts) (t:=t) a;grind
 . refine FV λy al=>?_;obtain⟨i,c,rfl⟩:=uI aI al;grind
theorem agu(H:dn ts){r:Nat}(ih:∀(t:Int) (p:au),p.length<=90000->0<=t->t<ts.length->ec ts r t p->Cv ts r t p)(ar:p.length<=90000)(t0:0<=t)(t1:t<ts.length)(h:ec ts (r+1) t p):Cv ts (r+1) t p:=by
 rw[Sn]at h;have aQ:t.toNat<ts.length:=by omega
 have aa:=bp aQ aM;have fX:=H.iv;obtain⟨a5,a6⟩:=fX.S.K _ aa;unfold Cv;rw[EX];rcases h with(⟨k,h⟩|⟨k,h⟩|⟨k,h⟩|⟨k,h⟩)|⟨k,h⟩|⟨k,h⟩|⟨k,h⟩|⟨k,h⟩|⟨k,h⟩
 . unfold l3;rw[ag k];unfold Ce;rcases h with h|h
   subst h;exact⟨_,ag rfl,by rw[pg k];rfl,by rw[oR rfl rfl];omega⟩;subst h;exact⟨_,by rw[cN,ag rfl],by rw[pg k];rfl,by rw[oR rfl rfl];omega⟩
 unfold l3;rw[b9,ag k];obtain⟨n,dF,T⟩:=h;unfold Cf;rw[dF];refine⟨_,ag T,?_,by rw[oR rfl rfl];omega⟩;rw[q2 k];show eD (fZ (gI n)).toNat=p;rw[ahx,Rm dF];unfold l3;rw[b9,b9,ag k];unfold Cg;exact⟨_,ag h,by rw[q3 k],by rw[oR rfl rfl];omega⟩
 . unfold l3;rw[b9,b9,b9,ag k];obtain⟨n,dF,T,be⟩:=h;unfold Ch;rw[dF];refine⟨_,ag ⟨T.1,T.2,?_⟩,?_,by rw[oR rfl rfl];omega⟩
   rw[q4 k];show eD (n:Int).toNat=p;rw[bo,Rm dF];grind
 ·
  unfold l3;rw[b9,b9,b9,b9,b9,b9,b9,b9];obtain⟨l,ak,B,am⟩:=h;obtain⟨X,a9⟩:=fX.S.A _ aa (.inl k);obtain⟨o,av,aw,ax⟩:=EU ar;have s:(∀f,f∈l->f.b5.length<=p.length/\cB f.ah)/\l.Pairwise (λa b=>a.ah<b.ah)/\l.length<=p.length:=by grind
  have iW:=λv=>@sZ ts t v k;have z:=λv=>qj (ts:=ts) t v;generalize ts.getD t.toNat aM=x at*
  obtain⟨Q,aW,aX⟩:=Av (f:=e4 (ds ts r) l) (P:=λm w=>(∃f,f∈l/\f.ah=m.ah/\dm m w=false/\bM ts m.aC w=f.b5/\f.bV=m.bV/\eW ts m.aC w<=r)\/((∀f,f∈l->f.ah≠m.ah)/\dm m w)) aF aI (l:=x.af) (λm O=>by
   unfold e4;cases ai:l.find? (λf=>(f.ah=m.ah:J))with
   |some f=>
    have W:=xR ai;have V:f.ah=m.ah:=by have:=Dm ai;simpa using this
    have bJ:cx x.af f.ah=some m:=by
     cases bJ:cx x.af f.ah with
     |none=>exact absurd V.symm (mv bJ m O)
     |some bd=>
      obtain⟨E,U⟩:=jS bJ;rw[qf X E O (by rw[U,V])]
    obtain⟨c1,c2,c3⟩:=(B f W).2 m bJ;obtain⟨v,v1,v2,v3⟩:=ih _ _ (by have:=(s.1 f W).1;omega) (fX.mem aa O).1 (fX.mem aa O).2 c2;refine⟨v,v1,.inl ⟨f,W,V,?_,v2,c1,v3⟩⟩;unfold dm;grind
   |none=>
    have aV:∀f,f∈l->f.ah≠m.ah:=λf B=>by grind
    cases aN:m.bO with
    |false=>grind
    |true=>
     dsimp only;rw[ag rfl]
     exact⟨_,rfl,.inr ⟨aV,by unfold dm;simp[aN]⟩⟩)
  have ba:=nF aW;have a':l.all (gQ x):=by
   rw[gF];intro f aO;unfold gQ;cases bJ:cx x.af f.ah with
   |some m=>rfl
   |none=>rw[(B f aO).1 bJ];rfl
  have ao:iU x.af (fO x l):=Rp s.2.1 (λf B=>(s.1 f B).2);refine⟨⟨5,false,0,[],0,[],Q,fO x l⟩,?_,?_,?_⟩;unfold yo;grind
  . rw[iW];dsimp only;have aP:hO fE (fD ts x.af Q (fO x l))=l.map λf=>(⟨f.ah.toNat,f.bV,f.b5⟩:Fd):=by
     refine Ll (Le (wW X ao) (J8 X ao)) ?_ λy=>?_
     . rw[nS];refine s.2.1.imp_of_mem λ{a b} aG aL aD=>?_;have Z:=(s.1 a aG).2;have C:=(s.1 b aL).2;unfold cB at Z C;grind
     . rw[(kd fE _).mem_iff];unfold fD;rw[gj,fl,fl];constructor
       . rintro (al|⟨a,a1,rfl⟩)
         obtain⟨j,R,aY,aZ,rfl⟩:=EI al;grind;obtain⟨f,f1,f2,rfl⟩:=Kc a1;refine⟨f,f1,?_⟩;have:=(B f f1).1 f2;unfold jb;rw[this]
       . rintro ⟨f,f1,rfl⟩
         cases bJ:cx x.af f.ah with
         |some m=>
          left;obtain⟨c,L⟩:=jS bJ;obtain⟨j,R,rfl⟩:=uI aF c;rcases aX j R with⟨g,g1,g2,g3,g4,a7,_⟩|⟨q,_⟩
          . have:g=f:=by
             obtain⟨a,a1,a2⟩:=hE g1;obtain⟨b,b1,b2⟩:=hE f1;rcases Nat.lt_trichotomy a b with N|N|N;have:=vh.1 s.2.1 a b a1 b1 N;grind;grind;have:=vh.1 s.2.1 b a b1 a1 N;grind
            subst this;have:=Rr (ts:=ts) (ms:=x.af) (l:=Q) R (by omega) g3;grind
          grind
         |none=>
          right;refine⟨⟨f.ah,f.b5⟩,?_,?_⟩;unfold fO;grind;unfold jb;rw[(B f f1).1 bJ]
    rw[aP,List.flatMap_map];exact Sy ar ak
  . rw[z,ag rfl,ag k];have:=Rs (ts:=ts) (r:=r) (ms:=x.af) (l:=Q) λj R aY aZ=>by grind
    grind
 ·
  unfold l3;rw[b9,b9,b9,b9,b9,ag k];obtain⟨id,q,E,U,M⟩:=h;have aB:=Tz E;have bb:=qe id.toNat;have an:q.length+1<=p.length:=by rw[aB,ea];omega
  have jU:=λv=>@q5 ts t v k;have z:=λv=>qj (ts:=ts) t v;unfold Ci;rw[E];dsimp only;generalize ts.getD t.toNat aM=x at*;cases bJ:cx x.af id with
  |some m=>
   obtain⟨c,L⟩:=jS bJ;obtain⟨v,v1,v2,v3⟩:=ih _ _ (by omega) (fX.mem aa c).1 (fX.mem aa c).2 (M m bJ);refine⟨_,by dsimp only;rw[v1];rfl,?_,?_⟩;rw[jU];dsimp only;rw[bJ];dsimp only;rw[bY,v2];grind
   . rw[z,ag rfl,b9,ag k];dsimp only;rw[bJ];dsimp only;have:gR ts m.aC [v]<=r:=FV λy al=>by rcases fk.1 al with rfl|al;exact v3;cases al
     omega
  |none=>simp_all
 ·
  unfold l3;rw[b9,b9,b9,b9,b9,b9,ag k];obtain⟨l,I,l2,D⟩:=h;obtain⟨aK,F⟩:=fX.elem aa (by omega);obtain⟨o,av,aw,ax⟩:=u9 ar;have ak:(∀q,q∈l->q.length<=p.length)/\l.length<=p.length:=by grind
  have tx:=λv=>@q6 ts t v k;have z:=λv=>qj (ts:=ts) t v;unfold vB;rw[I];dsimp only;generalize ts.getD t.toNat aM=x at*
  obtain⟨m,c,L⟩:=Av (f:=ds ts r x.aE) (P:=λq w=>bM ts x.aE w=q/\eW ts x.aE w<=r) ([]:au) aI (l:=l) (λq u=>by
   obtain⟨v,v1,v2,v3⟩:=ih _ _ (by have:=ak.1 q u;omega) aK F (D q u)
   grind)
  obtain⟨f1,f2⟩:=Rt (nF c) L;refine⟨⟨7,false,0,[],0,[],m,[]⟩,by rw[ag l2,c];rfl,?_,?_⟩;rw[tx];dsimp only;rw[f1];exact FL ar I;grind
 ·
  unfold l3;rw[b9,b9,b9,b9,b9,b9,b9,ag k];obtain⟨l,I,ab,l2,D⟩:=h;obtain⟨aK,F⟩:=fX.elem aa (by omega);obtain⟨d1,d2⟩:=fX.key aa k;have aT:=fX.S.oa _ aa k;obtain⟨o,av,aw,ax⟩:=u9 ar;have ak:(∀q,q∈l->q.length<=p.length)/\l.length<=p.length:=by grind
  obtain⟨g1,g2⟩:=Gr ab;have e8:=λv=>@q7 ts t v k;have z:=λv=>qj (ts:=ts) t v;unfold Cj;rw[I];dsimp only;generalize ts.getD t.toNat aM=x at*
  obtain⟨ks,ap,a0⟩:=Av (f:=ds ts r x.aS) (P:=λq w=>ds ts r x.aS q=some w/\bM ts x.aS w=q/\q.length<=90000) ([]:au) aI (l:=fu l) (λq u=>by
   obtain⟨i,Z,C⟩:=uI ([]:au) u;have an:=ak.1 q (EW u);rw[Kd [] (by omega)]at C;have d:=(D i (by omega)).1;rw[C]at d;obtain⟨v,v1,v2,v3⟩:=ih _ _ (by omega) d1 d2 d
   grind)
  obtain⟨m,c,L⟩:=Av (f:=ds ts r x.aE) (P:=λq w=>bM ts x.aE w=q/\eW ts x.aE w<=r) ([]:au) aI (l:=gr l) (λq u=>by
   obtain⟨i,Z,C⟩:=uI ([]:au) u;have an:=ak.1 q (FU u);rw[Rq [] (by omega)]at C;have d:=(D i (by omega)).2.1;rw[C]at d;obtain⟨v,v1,v2,v3⟩:=ih _ _ (by omega) aK F d
   grind)
  have aU:=nF ap;have G:∀i,i<ks.length->re ts x.aS ((fu l).getD i []) (ks.getD i aI)/\bM ts x.aS (ks.getD i aI)=(fu l).getD i []:=λi Y=>by
   obtain⟨E,U,M⟩:=a0 i (by omega);exact⟨Lk H r _ _ _ M d1 d2 E,U⟩
  have aR:bY ts x.aS ks=fu l:=by
   refine Dk (by rw[lf,aU]) λi h1 a8=>?_;have am:i<ks.length:=(by omega);have e:=w7 (ts:=ts) (t:=x.aS) am;grind
  have hid:∀i,i<ks.length->(ks.getD i aI).ae=(ts.getD x.aS.toNat aM).ae/\(0<=(ks.getD i aI).ah\/(ks.getD i aI).ae≠4):=λi Y=>by
   have aj:=(G i Y).1.1;rw[hp]at aj;obtain⟨⟨_,_,M,_⟩,q⟩:=aj;refine⟨M,?_⟩;have aH:=fX.S.S _ (bp (by omega:x.aS.toNat<ts.length) aM);rcases q with q|q|q|q|q|q|q|q|q;right;omega;right;omega;right;omega
   . left;obtain⟨a1,_,_,_,_,_,_,aA⟩:=q;rcases aA with⟨y,a3,bf⟩|⟨_,_,a4⟩
     have:=aH (by omega) y a3;unfold cB at this;omega;unfold cB at a4;omega
   right;omega;right;omega;right;omega;right;omega;omega
  have aJ:nI ks:=by
   intro i Y;have hs:=(D (i+1) (by omega)).2.2 (by omega);rw[show 2*(i+1)-2=2*i by omega]at hs;have ay:=(G i (by omega)).2;have az:=(G (i+1) (by omega)).2;rw[Kd [] (by omega)]at ay az;rw[<-ay,<-az]at hs;exact afs aT (G i (by omega)).1.2.1 (G (i+1) (by omega)).1.2.1 (hid i (by omega)).1 (hid (i+1) (by omega)).1 (hid i (by omega)).2 (hid (i+1) (by omega)).2 hs
  obtain⟨f1,f2⟩:=Rt (nF c) L;refine⟨⟨8,false,0,[],0,ks,m,[]⟩,by rw[ag ⟨ab,l2⟩,ap];dsimp only;rw[ag (x9.2 aJ),c];rfl,?_,?_⟩;rw[e8];dsimp only;rw[f1,aR,TD l ab];exact FL ar I
  . rw[z,aq (show ¬x.ae=5 by omega),aq (show ¬x.ae=6 by omega)];dsimp only;have bc:(if ks=[]then 0 else 1)<=r:=by
     by_cases he:ks=[];grind
     . have:0<ks.length:=qP.2 he;have d:=(D 0 (by omega)).1;cases r with
       |zero=>exact absurd d (by simp[ec])
       |succ r=>rw[aq he];omega
    omega
 ·
  unfold l3;rw[b9,b9,b9,b9,ag k];obtain⟨aK,F⟩:=fX.elem aa (by omega);have ad:=λv=>@q8 ts t v k;have z:=λv=>qj (ts:=ts) t v;generalize ts.getD t.toNat aM=x at*;rcases h with h|⟨q,h,d⟩;subst h;refine⟨_,rfl,?_,by rw[oR rfl rfl];omega⟩;rw[ad];dsimp only;rw[bY]
  . subst h;obtain⟨v,v1,v2,v3⟩:=ih _ _ (by simp at ar;omega) aK F d;refine⟨⟨9,false,0,[],0,[],[v],[]⟩,by rw[vC,ag rfl,v1];rfl,?_,?_⟩
    rw[ad];dsimp only;rw[bY,v2]
    . rw[z,ag rfl,b9,b9];dsimp only;have:gR ts x.aE [v]<=r:=FV λy al=>by rcases fk.1 al with rfl|al;exact v3;cases al
      omega
theorem RS(H:dn ts):∀(r:Nat) (t:Int) (p:au),p.length<=90000->0<=t->t<ts.length->ec ts r t p->Cv ts r t p
 |0,t,p,_,_,_,h=>by grind[ec]
 |r+1,t,p,ar,t0,t1,h=>agu H (RS H r) ar t0 t1 h
end
abbrev fU:=Int->ab->Int->az->ab ⊕ az
def iK{α:Type}:α ⊕ az->I α ⊕ az->I α ⊕ az
 |.inr p,_=>.inr p
 |.inl _,.inr p=>.inr p
 |.inl u,.inl l=>.inl (u::l)
def jF{α a:Type}(g:α->a):α ⊕ az->a ⊕ az
 |.inr p=>.inr p
 |.inl u=>.inl (g u)
def k3{α a:Type}(g:α->a ⊕ az):α ⊕ az->a ⊕ az
 |.inr p=>.inr p
 |.inl u=>g u
def ez(l:I aT)(id:Int):ai Nat:=l.findIdx? λm=>(m.ah=id:J)
def kK(l:I aT)(id:Int):Int×J:=match ez l id with
 |some j=>((j:Int),true)
 |none=>(0,false)
def eU(f:fU)(so:az)(t rt:Int):Nat->I ab->I ab ⊕ az
 |_,[]=>.inl []
 |i,v::l=>iK (f t v rt (so++[(i:Int)])) (eU f so t rt (i+1) l)
noncomputable def BH (m:aT)(w:ab)(n:aT)(a:az):ab ⊕ az->ab ⊕ az
 |.inr p=>if dm m w then .inr a else .inr p
 |.inl u=>if dm m w=true/\dm n u=false then .inr a else .inl u
noncomputable def mR (f:fU)(x:aj)(v:ab)(so:az)(n:aT):ab ⊕ az:=match ez x.af n.ah with
 |none=>if n.bO then .inl n.bC else .inr (so++[n.ah])
 |some i=>BH (x.af.getD i aF) (v.aw.getD i aI) n (so++[n.ah]) (f (x.af.getD i aF).aC (v.aw.getD i aI) n.aC (so++[n.ah]))
noncomputable def hR (f:fU)(x:aj)(v:ab)(so:az):I aT->I ab ⊕ az
 |[]=>.inl []
 |n::l=>iK (mR f x v so n) (hR f x v so l)
noncomputable def gZ (tw:I aj)(y:aj)(so:az):I aT->I ab->I ct ⊕ az
 |m::ms,v::l=>if(cx y.af m.ah).isSome then gZ tw y so ms l
  else if m.bV then .inr (so++[m.ah])
  else if dm m v then gZ tw y so ms l
  else iK (.inl ⟨m.ah,bM tw m.aC v⟩) (gZ tw y so ms l)
 |_,_=>.inl []
def j4(x y:aj)(v:ab):Prop:=(x.ae=2->y.bA<=v.bF/\v.bF<=y.bI)/\(x.ae=3->(v.bW.length:Int)<=y.Max)/\(x.ae=4->(∃s,s∈y.bf/\s.ah=v.ah)\/y.bt)
noncomputable def sT (tw:I aj)(f:fU)(x y:aj)(v:ab)(so:az):ab ⊕ az:=
 k3 (λa=>jF (λr=>⟨5,false,0,[],0,[],a,r⟩) (gZ tw y so x.af v.aw)) (hR f x v so y.af)
noncomputable def qW (tw:I aj)(f:fU)(x y:aj)(v:ab)(so:az):ab ⊕ az:=match ez x.af v.ah with
 |none=>.inr so
 |some i=>match ez y.af v.ah with
  |some k=>jF (λu=>⟨6,false,0,[],v.ah,[],[u],[]⟩) (f (x.af.getD i aF).aC (v.aw.getD 0 aI) (y.af.getD k aF).aC (so++[v.ah]))
  |none=>if y.bt then .inl ⟨6,false,0,[],v.ah,[],[],[⟨v.ah,bM tw (x.af.getD i aF).aC (v.aw.getD 0 aI)⟩]⟩else .inr so
def vu(f:fU)(x y:aj)(v:ab)(so:az):ab ⊕ az:=
 if(v.aw.length:Int)<=y.Max then jF (λa=>⟨7,false,0,[],0,[],a,[]⟩) (eU f so x.aE y.aE 0 v.aw)else .inr so
def vv(f:fU)(x y:aj)(v:ab)(so:az):ab ⊕ az:=
 if(v.aw.length:Int)<=y.Max then k3 (λks=>jF (λa=>⟨8,false,0,[],0,ks,a,[]⟩) (eU f so x.aE y.aE 0 v.aw)) (eU f so x.aS y.aS 0 v.a')else .inr so
def vw(f:fU)(x y:aj)(v:ab)(so:az):ab ⊕ az:=
 jF (λa=>⟨9,false,0,[],0,[],a,[]⟩) (eU f so x.aE y.aE 0 v.aw)
open Classical in
noncomputable def ib (tw:I aj)(f:fU)(x y:aj)(v:ab)(so:az):ab ⊕ az:=
 if ¬x.ae=y.ae then .inr so
 else if x.ae=5 then sT tw f x y v so
 else if x.ae=6 then qW tw f x y v so
 else if x.ae=7 then vu f x y v so
 else if x.ae=8 then vv f x y v so
 else if x.ae=9 then vw f x y v so
 else if j4 x y v then .inl v else .inr so
noncomputable def ef (tw tr:I aj):Nat->fU
 |0=>λ_ _ _ so=>.inr so
 |n+1=>λt v rt so=>ib tw (ef tw tr n) (tw.getD t.toNat aM) (tr.getD rt.toNat aM) v so
theorem uX(n:Nat)(t:Int)(v:ab)(rt:Int)(so:az):ef tw tr (n+1) t v rt so=ib tw (ef tw tr n) (tw.getD t.toNat aM) (tr.getD rt.toNat aM) v so:=rfl
section
variable {tw:I aj}{f:fU}{x y:aj}{v:ab}{so:az}
theorem TE(bS:¬x.ae=y.ae):ib tw f x y v so= .inr so:=by grind[ib]
theorem H0(bS:x.ae=y.ae)(h:x.ae=5):ib tw f x y v so=sT tw f x y v so:=by grind[ib]
theorem H2(bS:x.ae=y.ae)(h:x.ae=6):ib tw f x y v so=qW tw f x y v so:=by grind[ib]
theorem H3(bS:x.ae=y.ae)(h:x.ae=7):ib tw f x y v so=vu f x y v so:=by grind[ib]
theorem H4(bS:x.ae=y.ae)(h:x.ae=8):ib tw f x y v so=vv f x y v so:=by grind[ib]
theorem H5(bS:x.ae=y.ae)(h:x.ae=9):ib tw f x y v so=vw f x y v so:=by grind[ib]
theorem mz(bS:x.ae=y.ae)(h:x.ae<=4)(ak:j4 x y v):ib tw f x y v so= .inl v:=by grind[ib]
theorem xH(bS:x.ae=y.ae)(h:x.ae<=4)(ak:¬j4 x y v):ib tw f x y v so= .inr so:=by grind[ib]
end
theorem Lm{m:aT}{n:aT}{a p:az}:BH m w n a (.inr p)=if dm m w then .inr a else .inr p:=rfl
theorem BJ{m:aT}{n:aT}{a:az}{u:ab}:BH m w n a (.inl u)=if dm m w=true/\dm n u=false then .inr a else .inl u:=rfl
theorem hK{l:I aT}(h:ez l id=some j):j<l.length/\(l.getD j aF).ah=id/\∀k,k<j->(l.getD k aF).ah≠id:=by
 obtain⟨h1,a,b⟩:=List.findIdx?_eq_some_iff_getElem.1 h;grind[gA]
theorem RT{l:I aT}(h:ez l id=none):∀k,k<l.length->(l.getD k aF).ah≠id:=λk a=>by
 have:=List.findIdx?_eq_none_iff.1 h _ (bp a aF);grind
theorem Pt(l:I aT)(id:Int):uR l id (kK l id):=by
 unfold kK;cases h:ez l id with
 |some j=>exact .inl ⟨j,(hK h).1,(hK h).2.1,(hK h).2.2,rfl⟩
 |none=>exact .inr ⟨RT h,rfl⟩
theorem qk(l:I aT)(id:Int):(ez l id).isSome=(cx l id).isSome:=by
 cases h:ez l id with
 |some j=>
  obtain⟨h1,d,_⟩:=hK h;cases g:cx l id with
  |some _=>rfl
  |none=>grind[mv]
 |none=>
  cases g:cx l id with
  |none=>rfl
  |some m=>
   obtain⟨b,c⟩:=jS g;obtain⟨i,a,rfl⟩:=hE b;exact absurd c (by rw[<-gA a aF];grind[RT])
theorem Ke{b:I α ⊕ az}{l:I α}(h:iK a b= .inl l):∃u us,a= .inl u/\b= .inl us/\l=u::us:=by
 grind[iK]
theorem oU{g:α->c}{b:c}(h:jF g a= .inl b):∃u,a= .inl u/\b=g u:=by
 grind[jF]
theorem EY{b:c}(h:k3 g a= .inl b):∃u,a= .inl u/\g u= .inl b:=by
 grind[k3]
theorem EJ{f:fU}{so:az}{t rt:Int}:∀{l:I ab} {i:Nat} {us:I ab},eU f so t rt i l= .inl us->us.length=l.length/\∀j,j<l.length->f t (l.getD j aI) rt (so++[((i+j:Nat):Int)])= .inl (us.getD j aI)
 |[],i,us,h=>by
  grind[eU]
 |v::l,i,us,h=>by
  obtain⟨u,e,h1,c,rfl⟩:=Ke h;obtain⟨a,b⟩:=EJ c;refine⟨by grind,λj d=>?_⟩;cases j<;>grind
theorem Pu{f:fU}{x:aj}{v:ab}{so:az}:∀{l:I aT} {us:I ab},hR f x v so l= .inl us->us.length=l.length/\∀j,j<l.length->mR f x v so (l.getD j aF)= .inl (us.getD j aI)
 |[],us,h=>by
  grind[hR]
 |n::l,us,h=>by
  obtain⟨u,d,h1,c,rfl⟩:=Ke h;obtain⟨a,b⟩:=Pu c;grind
variable{f:fU}
theorem agv{n:aT}{u:ab}(h:mR f x v so n= .inl u):
 (ez x.af n.ah=none/\n.bO/\u=n.bC)\/∃i,ez x.af n.ah=some i/\f (x.af.getD i aF).aC (v.aw.getD i aI) n.aC (so++[n.ah])= .inl u/\(dm (x.af.getD i aF) (v.aw.getD i aI)->dm n u):=by
 unfold mR at h;cases a:ez _ _ with
 |none=>
  grind
 |some i=>
  simp only[a]at h;refine .inr ⟨i,rfl,?_⟩;revert h;cases f _ _ _ _ with
  |inr p=>grind[BH]
  |inl w=>grind[BH]
theorem EZ{tw:I aj}{y:aj}{so:az}:∀{ms:I aT} {l:I ab} {r:I ct},gZ tw y so ms l= .inl r->
 r.length<=ms.length/\(r.map λa=>a.ah).Sublist (ms.map λm=>m.ah)/\∀a,a∈r->cx y.af a.ah=none/\∃j,j<ms.length/\j<l.length/\a=⟨(ms.getD j aF).ah,bM tw (ms.getD j aF).aC (l.getD j aI)⟩
 |[],l,r,h=>by
  rw[gZ]at h;cases h;simp;intros;simp_all
 |m::ms,[],r,h=>by
  grind[gZ]
 |m::ms,v::l,r,h=>by
  have g:∀{r},gZ tw y so ms l= .inl r->r.length<=(m::ms).length/\(r.map λa=>a.ah).Sublist ((m::ms).map λm=>m.ah)/\∀a,a∈r->cx y.af a.ah=none/\∃j,j<(m::ms).length/\j<(v::l).length/\a=⟨((m::ms).getD j aF).ah,bM tw ((m::ms).getD j aF).aC ((v::l).getD j aI)⟩:=λ{r} h=>by
   obtain⟨a,b,c⟩:=EZ h;refine⟨by simp;omega,by grind,λq d=>?_⟩;obtain⟨c1,j,i,k,e⟩:=c q d;exact⟨c1,j+1,by simp;omega,by simp;omega,e⟩
  rw[gZ]at h;by_cases c1:(cx y.af m.ah).isSome=true;grind;rw[aq c1]at h;by_cases c2:m.bV=true;rw[ag c2]at h;cases h;rw[aq c2]at h;by_cases c3:dm m v=true;grind;rw[aq c3]at h;obtain⟨u,us,aK,f,rfl⟩:=Ke h;cases aK;obtain⟨a,b,c⟩:=EZ f;refine⟨by grind,by grind,λq d=>?_⟩;rcases fk.1 d with rfl|d;exact⟨by simpa using c1,0,by simp,by simp,rfl⟩;exact(g f).2.2 q d
section
variable {ts:I aj}
theorem Ck{n:Nat}(h:n<16384):(e5 n).length<=2:=Lb 1 n (by grind)
theorem xx(h:p.length<16384):(dC p).length<=p.length+2:=by
 grind[Ck,dC]
def l'(ts:I aj)(t:Int)(v:ab):Prop:=(bM ts t v).length+4<=wt v
theorem Fw:∀{l:I ab},fJ l<=3000->(∀y,y∈l->l' ts t y)->((bY ts t l).flatMap dC).length<=fJ l
 |[],_,_=>by grind[bY]
 |v::l,a,h=>by
  rw[bY];rw[nH]at a⊢;have h1:=h v (.head _);unfold l' at h1;have b:=Fw (by omega) λx aa=>h x (.tail _ aa);grind[xx]
theorem RU{l:I ab}(h:∀y,y∈l->l' ts t y):((bY ts t l).headD []).length+4<=fJ l\/l=[]:=by
 cases l with
 |nil=>simp
 |cons v l=>
  have h1:=h v (.head _);grind[l',bY,nH]
theorem Ru:∀{ms:I aT} {l:I ab},fJ l<=3000->(∀m,m∈ms->m.ah<=1000)->l.length=ms.length->(∀i,i<ms.length->l' ts (ms.getD i aF).aC (l.getD i aI))->((dK ts ms l).flatMap Fd.text).length<=fJ l
 |[],l,_,_,_,_=>by grind[dK]
 |m::ms,[],_,_,ak,_=>by grind
 |m::ms,v::l,b,a,ak,h=>by
  rw[nH]at b⊢;rw[dK];have h1:l' ts m.aC v:=h 0 (by simp);unfold l' at h1;have c:=Ru (ms:=ms) (l:=l) (by omega) (λx aa=>a x (.tail _ aa)) (by grind) λi e=>h (i+1) (by grind);split;omega
  . rw[hf,ea];have a1:=xx (p:=bM ts m.aC v) (by omega);have a2:=Ck (n:=2*m.ah.toNat+(if m.bV then 1 else 0)) (by grind);have d:(Fd.text ⟨m.ah.toNat,m.bV,bM ts m.aC v⟩).length<=(bM ts m.aC v).length+4:=by
     show(fV m.ah.toNat m.bV _).length<=_;grind[fV]
    omega
theorem aft(H:dn ts)(s:cz v):∀t,dL ts true t v->wt v<=3000->l' ts t v:=by
 have c:=H.V.ic H.T;induction s with
 |mk v hs h1 D E J G K dF R U W w u=>
  intro t p N;obtain⟨⟨g1,g2,g3,g4⟩,o⟩:=(hp _ _ _).1 p;have r:t.toNat<ts.length:=by omega
  have b:=bp r aM;have k:=g4 rfl;have O:=iA v;have ba:∀y,y∈v.a'->wt y+10<=wt v:=λy al=>by have:=e9 al;omega
  have P:∀y,y∈v.aw->wt y+10<=wt v:=λy al=>by have:=e9 al;omega
  have x:∀t,fp ts true t v.a'->∀y,y∈v.a'->l' ts t y:=λt ht y al=>w y al t (dv.1 ht y al) (by grind);have e:∀t,fp ts true t v.aw->∀y,y∈v.aw->l' ts t y:=λt ht y al=>u y al t (dv.1 ht y al) (by grind);unfold l';rcases o with h|h|h|h|h|h|h|h|h;grind[pg];have F:=H.L _ b (by omega);rw[q2 (by omega)];have:=x8 1 (fZ v.bF).toNat (by grind[fZ]);omega;grind[q3]
  . rw[q4 (by omega)];have hid:v.ah.toNat<256^2:=by
     rcases h.2.2.2.2.2.2.2 with⟨y,A,X⟩|⟨_,h,_⟩;have:=c.S _ b (by omega) y A;grind[cB];grind
    have:=x8 2 _ hid;omega
  . obtain⟨a1,a2,a3,a4,a5,a,f,d⟩:=h;obtain⟨f1,f2⟩:=jR.1 d;rw[sZ (by omega),JO (kd _ _)];unfold fD;rw[k,List.map_nil,nT];have:=Ru (ts:=ts) (l:=v.aw) (by omega) (c.M _ b) f1 λi I=>by grind
    omega
  . obtain⟨a1,a2,a3,a4,a5,a⟩:=h;rw[q5 (by omega)];cases bJ:cx (ts.getD t.toNat aM).af v.ah with
    |none=>grind
    |some m=>
     rw[bJ]at a;obtain⟨b1,b2,j⟩:=a;obtain⟨z,Q⟩:=jS bJ;have hid:=c.M _ b m z;have:=Ck (n:=v.ah.toNat) (by omega);rcases RU (e _ j)with q|q;grind;grind
  grind[q6,Fw];obtain⟨a1,a2,a3,a4,a5,a,f,d,a9,g,B⟩:=h;rw[q7 (by omega)];have aK:=Fw (l:=v.aw) (by omega) (e _ g);have C:=Fw (l:=v.a') (by omega) (x _ a9);grind[Fu]
  . obtain⟨a1,a2,a3,a4,a5,a,f,d,a9⟩:=h;rw[q8 (by omega)];rcases RU (e _ a9)with q|q
    grind;grind[bY]
end
def gx(ts:I aj):Nat->Int->ab->Prop
 |0,_,_=>False
 |n+1,t,v=>((bM ts t v).length<=4096/\v.aw.length<=1000/\v.a'.length<=1000)/\
  ((ts.getD t.toNat aM).ae=5->∀i,i<(ts.getD t.toNat aM).af.length->gx ts n ((ts.getD t.toNat aM).af.getD i aF).aC (v.aw.getD i aI))/\
  ((ts.getD t.toNat aM).ae=6->∀m,cx (ts.getD t.toNat aM).af v.ah=some m->∀y,y∈v.aw->gx ts n m.aC y)/\
  (7<=(ts.getD t.toNat aM).ae->(∀y,y∈v.aw->gx ts n (ts.getD t.toNat aM).aE y)/\∀y,y∈v.a'->gx ts n (ts.getD t.toNat aM).aS y)
section
variable {ts:I aj}
theorem gx.len{n:Nat}(h:gx ts n t v):(bM ts t v).length<=4096:=by
 cases n with
 |zero=>cases h
 |succ n=>exact h.1.1
theorem E0(p:au):p.length<=(dC p).length:=by grind[dC]
theorem KQ{t:Int}:∀{l:I ab} {y:ab},y∈l->(bM ts t y).length<=((bY ts t l).flatMap dC).length
 |v::l,y,h=>by
  rw[bY,hf,ea];rcases fk.1 h with rfl|h;grind[E0];have:=KQ (t:=t) h;omega
theorem Ln:∀{ms:I aT} {l:I ab} (i:Nat),i<ms.length->i<l.length->dm (ms.getD i aF) (l.getD i aI)=false->(bM ts (ms.getD i aF).aC (l.getD i aI)).length<=((dK ts ms l).flatMap Fd.text).length
 |m::ms,v::l,0,_,_,a=>by
  rw[dK];simp only[qQ]at a⊢;rw[aq (by grind),hf,ea];have c:(bM ts m.aC v).length<=(Fd.text ⟨m.ah.toNat,m.bV,bM ts m.aC v⟩).length:=by
   show _<=(fV m.ah.toNat m.bV _).length;grind[E0,fV]
  omega
 |m::ms,v::l,i+1,h1,b,a=>by
  have:=Ln (ms:=ms) (l:=l) i (by grind) (by grind) (by grind);rw[dK];grind
theorem ak8{m:aT}(h:dm m v):m.bO/\v=m.bC:=by
 grind[dm]
theorem F3:∀{a b:I au} {p:au},a.length=b.length->p∈a\/p∈b->p.length<=(gg a b).length
 |[],[],p,_,h=>by grind
 |k::ks,v::vs,p,ak,h=>by
  have aK:=E0 k;have c:=E0 v;have ih:=@F3 ks vs p (by grind);grind[gg]
theorem AM:∀{l:I ab} {y:ab},y∈l->bM ts t y∈bY ts t l
 |v::l,y,h=>by
  rw[bY];rcases fk.1 h with rfl|h;simp;exact .tail _ (AM h)
theorem ahz(b:(ts.getD t.toNat aM).ae<=4)(a:dL ts true t v):eW ts t v=1:=by
 obtain⟨⟨_,_,b4,_⟩,c⟩:=(hp _ _ _).1 a;grind[oR]
theorem pe(H:dn ts):∀(n:Nat) {v:ab} {t:Int},cz v->dL ts true t v->(bM ts t v).length<=4096\/wt v<=3000->eW ts t v+13<=n\/wt v<=n->gx ts n t v
 |0,v,t,_,_,_,d=>by grind[ahX]
 |n+1,v,t,f,A,c,d=>by
  have C:=H.V.ic H.T;have ak:(bM ts t v).length<=4096:=by
   rcases c with h|h;grind;have:=aft H f t A h;grind[l']
  have ai:=iA v;obtain⟨⟨g1,g2,g3,g4⟩,F⟩:=(hp _ _ _).1 A;have G:t.toNat<ts.length:=by omega
  have o:=bp G aM;have Y:=H.M _ o;have X:=(H.cr _ o).2.2;have Z:=g4 rfl;cases f with
  |mk _ hs h1 R S I j ad dF an ao ap=>
  have z:wt v<=3000->∀y,y∈v.aw->wt y<=3000:=λh y al=>by have:=e9 al;omega
  have P:wt v<=3000->∀y,y∈v.a'->wt y<=3000:=λh y al=>by have:=e9 al;omega
  have x:wt v<=n+1->∀y,y∈v.aw->wt y<=n:=λh y al=>by have:=e9 al;omega
  have L:wt v<=n+1->∀y,y∈v.a'->wt y<=n:=λh y al=>by have:=e9 al;omega
  have r:=qj (ts:=ts) t v
  have bQ:7<=(ts.getD t.toNat aM).ae->∀y,y∈v.aw->eW ts (ts.getD t.toNat aM).aE y+13<=n\/wt y<=n:=λU y al=>d.imp (λd=>by
   rw[aq (show ¬(ts.getD t.toNat aM).ae=5 by omega),aq (show ¬(ts.getD t.toNat aM).ae=6 by omega)]at r;have:=uW (ts:=ts) (t:=(ts.getD t.toNat aM).aE) al
   omega) λd=>x d _ al
  have aj:v.aw=[]->v.a'=[]->v.aw.length<=1000/\v.a'.length<=1000:=λa b=>by grind
  unfold gx;rcases F with h|h|h|h|h|h|h|h|h;grind;grind;grind;grind
  . obtain⟨a1,a2,a3,a4,a5,g,q,k⟩:=h;obtain⟨f1,f2⟩:=jR.1 k;refine⟨⟨ak,by omega,by grind⟩,λ_ i l=>?_,by omega,by omega⟩;have s:=bp (by omega:i<v.aw.length) aI;cases B:dm ((ts.getD t.toNat aM).af.getD i aF) (v.aw.getD i aI)with
    |true=>
     obtain⟨N,O⟩:=ak8 B;have eh:=H.W _ o _ (bp l aF) N;rw[<-O]at eh;refine pe H n (j _ s) (f2 i l) (.inr (by omega)) (.inr ?_);grind
    |false=>
     refine pe H n (j _ s) (f2 i l) ?_ (d.imp (λd=>by
      grind[J9]) λd=>x d _ s)
     rcases c with c|c;have h0:=Ln (ts:=ts) i l (by omega:i<v.aw.length) B;rw[sZ (by omega),JO (kd _ _)]at ak;unfold fD at ak;grind;grind
  . obtain⟨a1,a2,a3,a4,a5,g⟩:=h;cases bJ:cx (ts.getD t.toNat aM).af v.ah with
    |none=>grind
    |some m=>
     rw[bJ]at g;obtain⟨b1,b2,E⟩:=g;refine⟨⟨ak,by omega,by grind⟩,by omega,λ_ am J y al=>?_,by omega⟩;cases J
     refine pe H n (j _ al) (dv.1 E _ al) ?_ (d.imp (λd=>by
      rw[aq (show ¬(ts.getD t.toNat aM).ae=5 by omega),ag (show(ts.getD t.toNat aM).ae=6 by omega),bJ]at r;have:=uW (ts:=ts) (t:=m.aC) al
      grind) λd=>x d _ al)
     rcases c with c|c
     . rw[q5 (by omega),bJ,ea]at ak;have u:(bY ts m.aC v.aw).headD []=bM ts m.aC y:=by
        match f:v.aw,b2 with
        |[a],_=>rw[f]at al;rw[nQ.1 al,bY,bY];rfl
       simp only[u]at ak;omega
     grind
  . obtain⟨a1,a2,a3,a4,a5,g,q,k,a9⟩:=h;have w:=bQ (by omega);refine⟨⟨ak,by omega,by simp_all⟩,by omega,by omega,λ_=>⟨λy al=>pe H n (j _ al) (dv.1 a9 _ al) ?_ (w _ al),λy al=>by simp_all⟩⟩;rcases c with c|c
    left;rw[q6 (by omega)]at ak;have:=KQ (ts:=ts) (t:=(ts.getD t.toNat aM).aE) al;omega;exact .inr (z c _ al)
  . obtain⟨a1,a2,a3,a4,a5,g,q,k,a9,D,Q⟩:=h;have aa:=Fu (bY ts (ts.getD t.toNat aM).aS v.a') (bY ts (ts.getD t.toNat aM).aE v.aw)
    refine⟨⟨ak,by omega,by omega⟩,by omega,by omega,λ_=>⟨λy al=>pe H n (j _ al) (dv.1 D _ al) ?_ (bQ (by omega) _ al),λy al=>pe H n (I _ al) (dv.1 a9 _ al) ?_ (d.imp (λd=>by
     have K:v.a'≠[]:=λe=>by rw[e]at al;cases al
     rw[aq K]at r;have:=ahz (C.oa _ o (by omega)).2 (dv.1 a9 _ al)
     omega) λd=>L d _ al)⟩⟩
    all_goals
     rcases c with c|c
     case inr=>first|exact .inr (z c _ al)|exact .inr (P c _ al)
     left;rw[q7 (by omega)]at ak;have e:(bY ts (ts.getD t.toNat aM).aS v.a').length=(bY ts (ts.getD t.toNat aM).aE v.aw).length:=by rw[lf,lf];omega
     have:=F3 (p:=bM ts _ y) e (by first|exact .inr (AM al)|exact .inl (AM al));omega
  . obtain⟨a1,a2,a3,a4,a5,g,q,k,a9⟩:=h;have w:=bQ (by omega);refine⟨⟨ak,by omega,by simp_all⟩,by omega,by omega,λ_=>⟨λy al=>pe H n (j _ al) (dv.1 a9 _ al) ?_ (w _ al),λy al=>by simp_all⟩⟩;rcases c with c|c
    . left;rw[q8 (by omega)]at ak;have u:bY ts (ts.getD t.toNat aM).aE v.aw=[bM ts (ts.getD t.toNat aM).aE y]:=by
       match f:v.aw,k with
       |[a],_=>rw[f]at al;rw[nQ.1 al,bY,bY]
       |[],_=>rw[f]at al;cases al
      rw[u]at ak;rw[kR]at ak;omega
    exact .inr (z c _ al)
end
section
variable {tw tr:I aj}
theorem afu{n:Nat}{u:ab}(a:(tw.getD t.toNat aM).ae<=4)(h:ef tw tr n t v rt so= .inl u):u=v:=by
 cases n with
 |zero=>cases h
 |succ n=>
  grind[uX,ib]
theorem afv(c:∀v rt so u,f t v rt so= .inl u->u=v){i:Nat}{l us:I ab}(h:eU f so t rt i l= .inl us):us=l:=by
 obtain⟨a,b⟩:=EJ h;grind[P5]
theorem agw{l:I ab}{r:I ct}(d:hY ms)(h:gZ tw y so ms l= .inl r):iU y.af r:=by
 obtain⟨_,b,c⟩:=EZ h;refine⟨?_,λa f=>?_⟩;have h1:=nS.2 d.1;grind;obtain⟨c1,j,g,i,e⟩:=c a f;refine⟨?_,c1⟩;rw[e];exact d.2 _ (bp g _)
theorem cB.i64{n:Int}(h:cB n): -9223372036854775808<=n/\n<=9223372036854775807:=by grind[cB]
def F4(tr:I aj)(rt:Int)(u:ab):Prop:=cz u/\dL tr false rt u
def GI(tw tr:I aj)(n:Nat):Prop:=∀{v:ab},cz v->∀{t rt:Int} {so:az} {u:ab},dL tw true t v->gx tw n t v->0<=rt->rt<tr.length->ef tw tr n t v rt so= .inl u->F4 tr rt u
theorem ad0(HW:dn tw)(HR:dn tr){n:Nat}(ih:GI tw tr n):GI tw tr (n+1):=by
 intro v ao t rt so u aB aA p s h;unfold gx at aA;obtain⟨⟨z1,z2,z3⟩,ad,ag,J⟩:=aA;have SW:=HW.V.ic HW.T;have cH:=HR.V.ic HR.T;have P:=ao;have aW:=iA v;obtain⟨⟨g1,g2,g3,g4⟩,az⟩:=(hp _ _ _).1 aB;have aD:t.toNat<tw.length:=by omega
 have aE:rt.toNat<tr.length:=by omega
 have O:=bp aD aM;have o:=bp aE aM;have l:=λu=>(hp (ts:=tr) false rt u).2;rw[uX]at h;generalize aa:tw.getD t.toNat aM=x at*;generalize al:tr.getD rt.toNat aM=y at*;cases ao with
 |mk _ hs h1 aS aT am W aV dF a6 a7 a8=>
 have Z:∀{t rt:Int} {i:Nat} {us:I ab},fp tw true t v.aw->(∀y,y∈v.aw->gx tw n t y)->0<=rt->rt<tr.length->eU (ef tw tr n) so t rt i v.aw= .inl us->us.length=v.aw.length/\(∀q,q∈us->cz q)/\fp tr false rt us:=λ{t rt i us} U c a0 a1 ar=>by
  obtain⟨a,b⟩:=EJ ar;have key:∀q,q∈us->F4 tr rt q:=λq X=>by
   obtain⟨j,F,rfl⟩:=uI aI X;have g:=bp (by omega:j<v.aw.length) aI;exact ih (W _ g) (dv.1 U _ g) (c _ g) a0 a1 (b j (by omega))
  exact⟨a,λq c=>(key q c).1,dv.2 λq c=>(key q c).2⟩
 have aH:∀t,fp tw true t v.a'->(∀y,y∈v.a'->gx tw n t y)->(tw.getD t.toNat aM).ae<=4->∀{rt:Int} {i:Nat} {us:I ab},0<=rt->rt<tr.length->eU (ef tw tr n) so t rt i v.a'= .inl us->us=v.a'/\fp tr false rt v.a':=λt U X aG rt i us a0 a1 ar=>by
  have e:=afv (λv rt so u h=>afu aG h) ar;subst e;obtain⟨a,b⟩:=EJ ar;refine⟨rfl,dv.2 λq c=>?_⟩;obtain⟨j,F,rfl⟩:=uI aI c;exact(ih (am _ c) (dv.1 U _ c) (X _ c) a0 a1 (b j F)).2
 unfold ib at h;by_cases bS:x.ae=y.ae
 . rw[aq (by simpa using bS)]at h;rcases az with d|d|d|d|d|d|d|d|d
   rw[b9,b9,b9,b9,b9]at h;split at h<;>cases h;exact⟨P,l _ ⟨⟨p,s,by omega,by simp⟩,.inl d⟩⟩;rw[b9,b9,b9,b9,b9]at h;split at h<;>cases h;rename_i ak;exact⟨P,l _ ⟨⟨p,s,by omega,by simp⟩,.inr (.inl (by have:=ak.1 (by omega);simp_all))⟩⟩;rw[b9,b9,b9,b9,b9]at h;split at h<;>cases h;rename_i ak;exact⟨P,l _ ⟨⟨p,s,by omega,by simp⟩,.inr (.inr (.inl (by have:=ak.2.1 (by omega);simp_all)))⟩⟩
   . rw[b9,b9,b9,b9,b9]at h;split at h<;>cases h;rename_i ak;have L:cB v.ah:=by
      rcases d.2.2.2.2.2.2.2 with⟨y,aQ,aR⟩|⟨_,h,_⟩;rw[<-aR];exact SW.S _ O (by omega) y aQ;cases h
     refine⟨P,l _ ⟨⟨p,s,by omega,by simp⟩,.inr (.inr (.inr (.inl ⟨d.1,d.2.1,d.2.2.1,d.2.2.2.1,d.2.2.2.2.1,d.2.2.2.2.2.1,d.2.2.2.2.2.2.1,?_⟩)))⟩⟩;rcases ak.2.2 (by omega)with q|q;exact .inl q;grind
   . obtain⟨a1,a2,a3,a4,a5,C,R,K⟩:=d;obtain⟨Q,aL⟩:=SW.A _ O (.inl (by omega));obtain⟨aY,aZ⟩:=cH.A _ o (.inl (by omega));obtain⟨f1,f2⟩:=jR.1 K;rw[jE]at h;obtain⟨f,aK,h⟩:=EY h;obtain⟨r,ai,rfl⟩:=oU h;obtain⟨b1,b2⟩:=Pu aK;have key:∀j,j<y.af.length->F4 tr (y.af.getD j aF).aC (f.getD j aI):=λj N=>by
      have E:=bp N aF;rcases agv (b2 j N)with⟨_,c2,c3⟩|⟨i,c1,c2,_⟩;rw[c3];exact⟨(HR.T _ o).iw _ E,q1 _ _ (HR.D _ o _ E c2)⟩;obtain⟨d1,_,_⟩:=hK c1;have g:=bp (by omega:i<v.aw.length) aI;obtain⟨z,B⟩:=HR.iv.mem o E;exact ih (W _ g) (f2 i d1) (ad (by omega) i d1) z B c2
     have an:=agw Q ai;obtain⟨c1,_,c3⟩:=EZ ai;refine⟨.mk _ (by simp) (by simp) (by show f.length<=_;unfold reachBytes;omega) (by show r.length<=_;unfold reachBytes;omega) (λq c=>by cases c) (λq c=>?_) (λq c=>?_) (by simp) (by simp) (by simp) (λq c=>(an.2 q c).1.i64),l _ ⟨⟨p,s,by show(5:Int)=_;omega,by simp⟩,.inr (.inr (.inr (.inr (.inl ⟨rfl,rfl,rfl,rfl,rfl,rfl,an,jR.2 ⟨b1,λj N=>(key j N).2⟩⟩))))⟩⟩;obtain⟨j,F,rfl⟩:=uI aI c;exact(key j (by have:f.length=_:=b1;have aX:j<f.length:=F;omega)).1;obtain⟨_,j,F,aJ,e⟩:=c3 q c;have g:=bp aJ aI;have:=(ad (by omega) j F).len;rw[e];unfold reachBytes;grind
   . obtain⟨a1,a2,a3,a4,a5,C⟩:=d;rw[b9,jE]at h;unfold qW at h;obtain⟨Q,aL⟩:=SW.A _ O (.inr (by omega));cases bJ:cx x.af v.ah with
     |none=>rw[bJ]at C;cases C.2.1
     |some m=>
      rw[bJ]at C;obtain⟨b1,b2,ax⟩:=C;have Y:=qk x.af v.ah;rw[bJ]at Y;cases L:ez x.af v.ah with
      |none=>rw[L]at Y;cases Y
      |some i=>
      obtain⟨d1,d2,_⟩:=hK L;obtain⟨d3,d4⟩:=jS bJ;have em:x.af.getD i aF=m:=qf Q (bp d1 aF) d3 (by rw[d2,d4]);have hid:cB v.ah:=by rw[<-d4];exact Q.2 m d3
      simp only[L,em]at h;have g:=bp (by omega:0<v.aw.length) aI;cases M:ez y.af v.ah with
      |some k=>
       simp only[M]at h;obtain⟨w,aK,rfl⟩:=oU h;obtain⟨bj,bq,_⟩:=hK M;have E:=bp bj aF;obtain⟨z,B⟩:=HR.iv.mem o E;obtain⟨z1,z2⟩:=ih (W _ g) (dv.1 ax _ g) (ag (by omega) _ bJ _ g) z B aK;have aj:cx y.af v.ah=some (y.af.getD k aF):=by rw[<-bq];exact FR (cH.A _ o (.inr (by omega))).1 E
       refine⟨.mk _ (by simp) (by simp) (by show[w].length<=_;unfold reachBytes;simp) (by simp) (λq c=>by cases c) (λq c=>?_) (λq c=>by cases c) (by simp) (by simp) hid.i64 (λq c=>by cases c),l _ ⟨⟨p,s,by show(6:Int)=_;omega,by simp⟩,.inr (.inr (.inr (.inr (.inr (.inl ⟨rfl,rfl,rfl,rfl,rfl,?_⟩)))))⟩⟩;grind
       . show match cx y.af v.ah with|some m=>_|none=>_
         rw[aj];exact⟨rfl,rfl,z2,trivial⟩
      |none=>
       simp only[M]at h;split at h
       . cases h;rename_i aU;have aj:cx y.af v.ah=none:=by
          have:=qk y.af v.ah;rw[M]at this;cases c:cx y.af v.ah with
          |none=>rfl
          |some _=>rw[c]at this;cases this
         have:=(ag (by omega) _ bJ _ g).len;refine⟨.mk _ (by simp) (by simp) (by simp) (by show[_].length<=_;unfold reachBytes;simp) (λq c=>by cases c) (λq c=>by cases c) (λq c=>?_) (by simp) (by simp) hid.i64 (λq c=>?_),l _ ⟨⟨p,s,by show(6:Int)=_;omega,by simp⟩,.inr (.inr (.inr (.inr (.inr (.inl ⟨rfl,rfl,rfl,rfl,rfl,?_⟩)))))⟩⟩;rw[nQ.1 c];show(bM tw _ _).length<=_;unfold reachBytes;omega;grind;grind
       cases h
   . obtain⟨a1,a2,a3,a4,a5,C,R,K,a9⟩:=d;rw[b9,b9,jE]at h;unfold vu at h;split at h
     rename_i ay;obtain⟨f,aK,rfl⟩:=oU h;obtain⟨z,B⟩:=HR.iv.elem o (by omega);obtain⟨ap,G,H⟩:=Z a9 (J (by omega)).1 z B aK;exact⟨.mk _ (by simp) (by simp) (by show f.length<=_;omega) (by simp) (λq c=>by cases c) G (λq c=>by cases c) (by simp) (by simp) (by simp) (λq c=>by cases c),l _ ⟨⟨p,s,by show(7:Int)=_;omega,by simp⟩,.inr (.inr (.inr (.inr (.inr (.inr (.inl ⟨rfl,rfl,rfl,rfl,rfl,rfl,rfl,by show(f.length:Int)<=_;omega,H⟩))))))⟩⟩;cases h
   . obtain⟨a1,a2,a3,a4,a5,C,R,K,a9,au,av⟩:=d;rw[b9,b9,b9,jE]at h;unfold vv at h;split at h
     rename_i ay;obtain⟨ks,dw,h⟩:=EY h;obtain⟨f,aK,rfl⟩:=oU h;obtain⟨z,B⟩:=HR.iv.elem o (by omega);obtain⟨aO,aP⟩:=HR.iv.key o (by omega);obtain⟨ap,G,H⟩:=Z au (J (by omega)).1 z B aK;obtain⟨rfl,aN⟩:=aH _ a9 (J (by omega)).2 (SW.oa _ O (by omega)).2 aO aP dw;exact⟨.mk _ (by simp) (by show v.a'.length<=_;omega) (by show f.length<=_;omega) (by simp) am G (λq c=>by cases c) (by simp) (by simp) (by simp) (λq c=>by cases c),l _ ⟨⟨p,s,by show(8:Int)=_;omega,by simp⟩,.inr (.inr (.inr (.inr (.inr (.inr (.inr (.inl ⟨rfl,rfl,rfl,rfl,rfl,rfl,by show(v.a'.length:Int)<=_;omega,by show f.length=v.a'.length;omega,aN,H,av⟩)))))))⟩⟩;cases h
   obtain⟨a1,a2,a3,a4,a5,C,R,K,a9⟩:=d;rw[b9,b9,b9,b9,jE]at h;obtain⟨f,aK,rfl⟩:=oU h;obtain⟨z,B⟩:=HR.iv.elem o (by omega);obtain⟨ap,G,H⟩:=Z a9 (J (by omega)).1 z B aK;exact⟨.mk _ (by simp) (by simp) (by show f.length<=_;omega) (by simp) (λq c=>by cases c) G (λq c=>by cases c) (by simp) (by simp) (by simp) (λq c=>by cases c),l _ ⟨⟨p,s,by show(9:Int)=_;omega,by simp⟩,.inr (.inr (.inr (.inr (.inr (.inr (.inr (.inr ⟨rfl,rfl,rfl,rfl,rfl,rfl,rfl,by show f.length<=1;omega,H⟩)))))))⟩⟩
 grind
theorem Kf(HW:dn tw)(HR:dn tr):∀n,GI tw tr n
 |0=>λ_ _ _ _ _ _ _ _ _ h=>by cases h
 |n+1=>ad0 HW HR (Kf HW HR n)
end
theorem ad1{s:aY}(H:lB s.bk)(e:cz v)(f:wt v<=1099511627776)(d:dL s.bk false t v)(b:wT (s,t,v)=some 0):
 qG (s,t,v)=some (tz s.bk t v):=by
 have h1:=ahl H e f d;have c:wT ((⟨s.bk⟩:aY),t,v)=some 0:=b;rw[qG];simp only[ab.bN];rw[c,h1];simp only[a7,ay];rw[cN];unfold tz;generalize bM s.bk t v=p;generalize eW s.bk t v=l;by_cases g:4096<p.length
 . rw [ag (by have:(4096:Int)<p.length:= by omega
              simp[this]),ag (.inl g)]
 . by_cases g2:200<l
   . rw [ag (by have:¬ (4096:Int)<p.length:= by omega
                have a:(200:Int)<l:=by omega
                simp[this,a]),ag (.inr g2)]
   . rw [aq (by have:¬ (4096:Int)<p.length:= by omega
                have a:¬(200:Int)<l:=by omega
                simp[this,a]),b9]
theorem agx(H:dn ts)(a:Qz ts t v):qG ((⟨ts⟩:aY),t,v)=some (tz ts t v):=
 ad1 (s:=⟨ts⟩) (H.V.ic H.T) a.2.1 (hF a.2.2 (by decide)) a.1 (MF H.T H.V a.2.1 a.1)
noncomputable def mr (ts:I aj)(t:Int)(m:au):ab×Int:=
 if t<0\/(ts.length:Int)<=t then(kt,4)else if 4096<m.length then(kt,12)else match ds ts 200 t m with
  |some v=>(v,0)
  |none=>(kt,12)
theorem Om(ts:I aj)(t:Int)(m:au):(∃e,e≠0/\mr ts t m=(kt,e))\/∃v,mr ts t m=(v,0)/\(0<=t/\t<ts.length)/\m.length<=4096/\ds ts 200 t m=some v:=by
 unfold mr;by_cases h1:t<0\/(ts.length:Int)<=t;rw[ag h1];exact .inl ⟨4,by omega,rfl⟩
 . rw[aq h1];by_cases a:4096<m.length
   rw[ag a];exact .inl ⟨12,by omega,rfl⟩
   . rw[aq a];cases b:ds ts 200 t m with
     |none=>exact .inl ⟨12,by omega,rfl⟩
     |some v=>exact .inr ⟨v,rfl,by omega,by omega,rfl⟩
section
variable {ts:I aj}
theorem ad2(H:jL ts)(t:Int)(m:au):D7 ((⟨ts⟩:aY),t,m)=some (mr ts t m):=by
 rw[D7,IY,(qc H.S.T H.V).1];simp only[a7,ay];unfold mr;by_cases h1:t<0\/(ts.length:Int)<=t
 . have c:(bif (t<0:J)then true else ((ts.length:Int)<=t:J))=true:=by rcases h1 with h1|h1<;>simp[h1]
   rw[cN,ag c,ag h1];rfl
 . have c:¬(bif (t<0:J)then true else ((ts.length:Int)<=t:J)):=by
    have a:¬t<0:=λh=>h1 (.inl h);have b:¬(ts.length:Int)<=t:=λh=>h1 (.inr h);simp[a,b]
   by_cases d:4096<m.length;rw[cN,aq c,c',aq h1,ag d];rfl
   . have d1:=Sw H 200 (by omega) t m [] 0 [] (by omega) (by omega) (by omega) rfl;rw[cN,aq c,eF,aq h1,aq d];cases e:ds ts 200 t m with
     |none=>
      obtain⟨w,f1,f2,f⟩:=d1.2 e;rw[f];rfl
     |some v=>
      rw[d1.1 v e];simp[ab.bN]
theorem ad3(H:jL ts)(t:Int)(m:au):Eh ((⟨ts⟩:aY),t,m)=some (mr ts t m):=by
 have f:rN ((⟨ts⟩:aY),t)=some (if t<0\/(ts.length:Int)<=t then 4 else 0):=by
  rw[rN,(qc H.S.T H.V).2];simp only[a7,ay];rw[cN];by_cases h1:t<0\/(ts.length:Int)<=t;rw[ag h1,ag];rcases h1 with h1|h1<;>simp[h1];rw[aq h1,aq];have a:¬t<0:=λh=>h1 (.inl h);have b:¬(ts.length:Int)<=t:=λh=>h1 (.inr h);simp[a,b]
 rw[Eh,IF,f];simp only[a7,ay];unfold mr;by_cases h1:t<0\/(ts.length:Int)<=t;simp only[ag h1];rfl
 . by_cases d:4096<m.length
   simp only[aq h1];rw[cN,c',ag d,Bj (by simp)];rfl
   . have d2:=Rl H 200 (by omega) t m [] (by omega) (by omega) (by omega) (by simp);rw[show((201-200:Nat):Int)=1 from rfl]at d2;simp only[aq h1];rw[cN,eF,aq d];cases e:ds ts 200 t m with
     |none=>
      obtain⟨F,c⟩:=d2.2 e;rw[c];rfl
     |some v=>
      obtain⟨F,c⟩:=d2.1 v e;rw[c];simp[ab.bN]
noncomputable def zc (ts:I aj)(t:Int)(m:au):au×Int:=if(mr ts t m).2=0 then tz ts t (mr ts t m).1 else([],(mr ts t m).2)
theorem Rv(H:dn ts){m:au}(ht:0<=t/\t<ts.length)(d:m.length<=4096)(h:ds ts 200 t m=some v):Qz ts t v:=by
 obtain⟨a,b,c⟩:=Lk H 200 t m v (by omega) ht.1 ht.2 h;exact⟨a,b,by omega⟩
theorem ahA(H:dn ts){t:Int}{m:au}(ht:0<=t/\t<ts.length)(b:m.length<=4096)(h:ec ts 200 t m):zc ts t m=(m,0):=by
 obtain⟨v,v1,v2,v3⟩:=RS H 200 t m (by omega) ht.1 ht.2 h;have a:mr ts t m=(v,0):=by
  unfold mr;rw[b9,b9,v1]
 unfold zc;rw[a,ag rfl];unfold tz;rw[v2,aq];rintro (h|h);omega;have:eW ts t v>200:=h;omega
theorem ahB(H:dn ts){t:Int}{m a:au}(h:zc ts t m=(a,0)):(0<=t/\t<ts.length)/\a.length<=4096/\ec ts 200 t a:=by
 unfold zc at h;rcases Om ts t m with⟨e,he,b⟩|⟨v,b,ht,d,f⟩;rw[b,aq he]at h;have:e=0:=(by simpa using dN Prod.snd h);exact absurd this he
 . rw[b,ag rfl]at h;unfold tz at h;obtain⟨f1,f2,f3⟩:=Rv H ht d f;split at h
   have:=dN Prod.snd h;simp at this;rename_i c;have e:bM ts t v=a:=dN Prod.fst h;have ak:¬4096<(bM ts t v).length:=λh=>c (.inl h);have g:¬200<eW ts t v:=λh=>c (.inr h);refine⟨ht,by rw[<-e];exact zw ak,?_⟩;rw[<-e];exact adY H f2 (hF f3 (by decide)) (hF (zw ak) (by decide)) f1 (zw g)
end
theorem FW{m:aT}(a:cz v):tZ (m,v)=some (dm m v):=by
 rw[tZ];simp[ab.bN];unfold dm;cases b:m.bO with
 |false=>rfl
 |true=>
  obtain⟨r,c,d⟩:=P7 a m.bC;grind
theorem Kg(h:p.length<=100000:=by omega):wV p=some (dC p):=by
 rw[wV,ig,qt];have:=kG (n:=p.length) (by omega);simp only[a7,ay];rw[ag (ha)];rfl
theorem afw{c:J}(hid:cB id)(h:p.length<=4096):Ed (id,c,p)=some (fV id.toNat c p,0):=by
 unfold cB at hid;obtain⟨n,rfl⟩:=Dc (by omega:0<=id);rw[Ed,aq (by grind),aq (by grind),Lc (by omega)];rfl
section
variable {ts:I aj}
theorem KB:∀{ms:I aT} {l:I ab},((dK ts ms l).map λf=>f.id).Sublist (ms.map λm=>m.ah.toNat)
 |[],l=>by grind[dK]
 |m::ms,[]=>by grind[dK]
 |m::ms,v::l=>by
  rw[dK];split;exact(KB).cons _;exact(KB).cons₂ _
theorem afx{l:I ab}(c:hY ms):(dK ts ms l).Pairwise (λa b=>a.id<b.id):=by
 have h1:(ms.map λm=>m.ah.toNat).Pairwise (· < ·):=nS.2 (c.1.imp_of_mem λ{a b} d e h=>by
  have:=c.2 a d
  grind[cB])
 exact nS.1 (h1.sublist KB)
theorem On(h:(ts.getD t.toNat aM).ae=5)(a:v.a6=[])(b:hY (ts.getD t.toNat aM).af):bM ts t v=(dK ts (ts.getD t.toNat aM).af v.aw).flatMap Fd.text:=by
 rw[sZ h];have c:iU (ts.getD t.toNat aM).af v.a6:=by rw[a];exact⟨.nil,λx aa=>by grind⟩
 have e:fD ts (ts.getD t.toNat aM).af v.aw v.a6=dK ts (ts.getD t.toNat aM).af v.aw:=by
  grind[fD]
 grind[Ll,Le,wW,J8,kd,afx]
def na(ts:I aj)(t:Int)(v:ab):Prop:=lK ((⟨ts⟩:aY),t,v)=some (bM ts t v)
theorem Wc(b:∀m,m∈ms->cB m.ah)(ak:v.aw.length=ms.length)(e:ms.length<=1000)(c:∀y,y∈v.aw->cz y)(hs:∀i,i<ms.length->dm (ms.getD i aF) (v.aw.getD i aI)=false->(bM ts (ms.getD i aF).aC (v.aw.getD i aI)).length<=4096/\na ts (ms.getD i aF).aC (v.aw.getD i aI)):
 ∀(k i:Nat) (acc:au),i+k=ms.length->acc.length<=i*5000->
 rH (acc,ms,(ms.length:Int),(i:Int),ts,v)=some (acc++(dK ts (ms.drop i) (v.aw.drop i)).flatMap Fd.text)
 |0,i,acc,g,f=>by
  simp_all[rH,aq,fA,dK]
 |k+1,i,acc,g,f=>by
  have aD:i<ms.length:=by omega
  have a:i<v.aw.length:=by omega
  have j:=bp a aI;rw[rH,ag (by grind),ag (aX aD)];simp only[a7,ay,bo,ab.bN,iQ];rw[ag (aX a),FW (c _ j),fi aD aF,fi a aI,dK];have o:=λacc=>Wc b ak e c hs k (i+1) acc (by omega);cases l:dm (ms.getD i aF) _ with
  |true=>
   grind[lC]
  |false=>
   obtain⟨h1,d⟩:=hs i aD l;rw[ag (aX a),d];simp only[ay];rw[afw (b _ (bp aD aF)) (by omega)];simp only[ay];have hid:=b _ (bp aD aF);unfold cB at hid;have a1:=xx (p:=bM ts (ms.getD i aF).aC (v.aw.getD i aI)) (by omega);have a2:=Ck (n:=2*(ms.getD i aF).ah.toNat+(if(ms.getD i aF).bV then 1 else 0)) (by grind);have q:(fV (ms.getD i aF).ah.toNat (ms.getD i aF).bV (bM ts (ms.getD i aF).aC (v.aw.getD i aI))).length<=5000:=by
    grind[fV]
   rw[ag (ha),bP,o _ (by grind),j1];rfl
theorem Wd(b:¬x.ae=8)(ak:v.aw.length<=3000)(hs:∀y,y∈v.aw->(bM ts x.aE y).length<=4096/\na ts x.aE y):
 ∀(k i:Nat) (acc:au),i+k=v.aw.length->acc.length<=i*5000->
 lH (acc,v.aw,(v.aw.length:Int),(i:Int),ts,v,x)=some (acc++(bY ts x.aE (v.aw.drop i)).flatMap dC)
 |0,i,acc,d,c=>by
  simp_all[lH,aq,fA,bY]
 |k+1,i,acc,d,c=>by
  have aD:i<v.aw.length:=by omega
  obtain⟨h1,a⟩:=hs _ (bp aD aI);rw[lH,ag (by grind),ag (aX aD)];simp only[a7,ay,bo,ab.bN];have a1:=xx (p:=bM ts x.aE (v.aw.getD i aI)) (by omega);rw[aq (by grind),a];simp only[ay];rw[Kg];simp only[ay];rw[ag (ha),bP,Wd b ak hs k (i+1) _ (by omega) (by grind),fi aD aI,bY,hf,j1]
theorem TF(e:x.ae=8)(j:v.aw.length=v.a'.length)(ak:v.aw.length<=3000)(hs:∀y,y∈v.aw->(bM ts x.aE y).length<=4096/\na ts x.aE y)(b:∀y,y∈v.a'->(bM ts x.aS y).length<=4096/\na ts x.aS y):
 ∀(k i:Nat) (acc:au),i+k=v.aw.length->acc.length<=i*9000->
 lH (acc,v.aw,(v.aw.length:Int),(i:Int),ts,v,x)=some (acc++gg (bY ts x.aS (v.a'.drop i)) (bY ts x.aE (v.aw.drop i)))
 |0,i,acc,g,f=>by
  simp_all[lH,aq,fA,bY,gg]
 |k+1,i,acc,g,f=>by
  have aD:i<v.aw.length:=by omega
  have a:i<v.a'.length:=by omega
  obtain⟨h1,c⟩:=hs _ (bp aD aI);obtain⟨l,d⟩:=b _ (bp a aI);rw[lH,ag (by grind),ag (aX aD)];simp only[a7,ay,bo,ab.bN];have a1:=xx (p:=bM ts x.aE (v.aw.getD i aI)) (by omega);have a2:=xx (p:=bM ts x.aS (v.a'.getD i aI)) (by omega);rw[ag (by grind),ag (aX a),d];simp only[ay];rw[Kg];simp only[ay];rw[ag (ha),c];simp only[ay];rw[Kg];simp only[ay];rw[ag (ha (by grind)),bP,TF e j ak hs b k (i+1) _ (by omega) (by grind),fi aD aI,fi a aI,bY,bY,gg,j1,j1]
theorem agy(H:lB ts)(i:cz v)(f:dL ts true t v)(cv:v.ae<=4):kB (t,v,1,ts,0)=some (bM ts t v,ts,1):=by
 obtain⟨⟨g1,g2,g3,_⟩,b⟩:=(hp _ _ _).1 f;have a:eE v.bF:=by cases i with|mk _ _ _ _ _ _ _ _ _ a _ _=>exact a
 obtain⟨j,rfl⟩:∃j:Nat,t=(j:Int):=⟨t.toNat,by omega⟩
 have c:j<ts.length:=by omega
 have g:=bp c aM;have k:=@pg ts (j:Int) v;have d:=@q2 ts (j:Int) v;have l:=@q3 ts (j:Int) v;have e:=@q4 ts (j:Int) v;rw[kB];simp only[a7,ay];rw[ag (aX c),show mJ 0 1=1 by rfl];simp only[bo,ab.bN]at g3 b k d l e⊢;generalize ts.getD j aM=x at*;rcases b with h|h|h|h|h|h|h|h|h;grind;rw[aq (mt hx (by omega)),ag (ia (by omega)),d (by omega),sx a];grind[BS,fZ,bo,FK];grind
 . obtain⟨n,aL,ak⟩:∃n:Nat,v.ah=(n:Int)/\n<=1000:=by
    rcases h.2.2.2.2.2.2.2 with⟨y,m,o⟩|⟨_,h,_⟩;have:=H.S x g (by omega) y m;grind[cB];grind
   rw[aq (mt hx (by omega)),aq (mt hx (by omega)),aq (mt hx (by omega)),ag (ia (by omega)),e (by omega),aL,ig,FK (by omega),bo];rfl
 all_goals omega
theorem ahC(H:dn ts)(b:cz v)(a:dL ts true t v)(hs:(bM ts t v).length<=4096)(cv:v.ae<=4):qG ((⟨ts⟩:aY),t,v)=some (bM ts t v,0):=by
 rw[qG];simp[ab.bN];rw[MF H.T H.V b (q1 _ _ a)];rw[agy (H.V.ic H.T) b a cv];grind
theorem TG(H:dn ts)(r:cz v):∀t,dL ts true t v->(bM ts t v).length<=4096->na ts t v:=by
 have s:=H.V.ic H.T;have G:=r;induction r with
 |mk v hs h1 Q R W o Y dF ad ae ai Z z=>
  intro t u b;obtain⟨⟨g1,g2,g3,g4⟩,E⟩:=(hp _ _ _).1 u;obtain⟨j,rfl⟩:∃j:Nat,t=(j:Int):=⟨t.toNat,by omega⟩
  have w:j<ts.length:=by omega
  have p:=bp w aM;have D:=g4 rfl;have aa:=ahC H G u b;have S:=H.M _ p;unfold na;rw[lK,ag (aX w)];simp only[a7,ay,ab.bN];rw[bo]at*;rcases E with h|h|h|h|h|h|h|h|h;grind;grind;grind;grind
  . obtain⟨a1,a2,a3,a4,a5,c,k,d⟩:=h;obtain⟨g,I⟩:=s.A _ p (.inl (by omega));obtain⟨f1,f2⟩:=jR.1 d;rw[On (by rw[bo];omega) D (by rw[bo];exact g),bo]at b
    have h0:=Wc (ts:=ts) (ms:=(ts.getD j aM).af) (v:=v) g.2 f1 (by omega) o (λi U X=>by
     grind[bp,Nat.le_trans,Ln]) (ts.getD j aM).af.length 0 [] (by omega) (by simp)
    have f:rH ([],(ts.getD j aM).af,((ts.getD j aM).af.length:Int),0,ts,v)=_:=h0;rw[ag (ia (by omega)),f];grind[On,bo]
  . obtain⟨a1,a2,a3,a4,a5,c⟩:=h;obtain⟨g,I⟩:=s.A _ p (.inr (by omega));cases bJ:cx (ts.getD j aM).af v.ah with
    |none=>rw[bJ]at c;cases c.2.1
    |some m=>
     rw[bJ]at c;obtain⟨b1,b2,B⟩:=c;obtain⟨d3,d4⟩:=jS bJ;obtain⟨q,K,L,N⟩:=Hk g (by omega) bJ;have hid:=g.2 m d3;unfold cB at hid;have al:=bp (by omega:0<v.aw.length) aI;have F:bY ts m.aC v.aw=[bM ts m.aC (v.aw.getD 0 aI)]:=by
      match r:v.aw,b2 with
      |[a],_=>rw[bY,bY];rfl
     have z1:(bM ts m.aC (v.aw.getD 0 aI)).length<=4096:=by
      rw[q5 (t:=(j:Int)) (v:=v) (by rw[bo];omega),bo,bJ,ea]at b;simp only[F,List.headD_cons]at b;omega
     have z2:=z _ al (o _ al) m.aC (dv.1 B _ al) z1;unfold na at z2;obtain⟨n,aL⟩:∃n:Nat,v.ah=(n:Int):=⟨v.ah.toNat,by omega⟩;have:=Ck (n:=n) (by omega);rw[aq (mt hx (by omega)),ag (ia (by omega)),L];simp only[ay];rw[aL,ig,qt];simp only[ay];rw[ag (aX K),ag (by rw[b2];rfl),bo,N,show(0:Int).toNat=0 from rfl,z2];simp only[ay];rw[ag (ha),q5 (t:=(j:Int)) (v:=v) (by rw[bo];omega),bo,bJ,aL,bo];grind
  . obtain⟨a1,a2,a3,a4,a5,c,k,d,a9⟩:=h
    have h0:=Wd (ts:=ts) (x:=ts.getD j aM) (v:=v) (by omega) (by omega) (λy al=>by
     rw[q6 (by rw[bo];omega),bo]at b;have ak:=hF (KQ (ts:=ts) (t:=(ts.getD j aM).aE) al) b
     grind[dv]) v.aw.length 0 [] (by omega) (by simp)
    have f:lH ([],v.aw,(v.aw.length:Int),0,ts,v,ts.getD j aM)=_:=h0;rw[aq (mt hx (by omega)),aq (mt hx (by omega)),aq (mt hx (by omega)),ag (ia (by omega)),ag (ia (by omega)),f,q6 (by rw[bo];omega),bo];rfl
  . obtain⟨a1,a2,a3,a4,a5,c,k,d,a9,O,P⟩:=h;rw[q7 (by rw[bo];omega),bo]at b;have e:(bY ts (ts.getD j aM).aS v.a').length=(bY ts (ts.getD j aM).aE v.aw).length:=by grind[lf]
    have h0:=TF (ts:=ts) (x:=ts.getD j aM) (v:=v) (by omega) d (by omega) (λy al=>by
     have ak:=hF (F3 e (.inr (AM al))) b;grind[dv]) (λy al=>by
     have ak:=hF (F3 e (.inl (AM al))) b
     grind[dv]) v.aw.length 0 [] (by omega) (by simp)
    have f:lH ([],v.aw,(v.aw.length:Int),0,ts,v,ts.getD j aM)=_:=h0;rw[aq (mt hx (by omega)),aq (mt hx (by omega)),aq (mt hx (by omega)),aq (mt hx (by omega)),ag (ia (by omega)),f,q7 (by rw[bo];omega),bo];rfl
  . obtain⟨a1,a2,a3,a4,a5,c,k,d,a9⟩:=h;rw[aq (mt hx (by omega)),aq (mt hx (by omega)),ag (ia (by omega)),q8 (by rw[bo];omega),bo]
    match C:v.aw,d with
    |[],_=>
     rw[xg,cN,bY];rfl
    |[a],_=>
     have l:a∈v.aw:=(by grind);have z1:(bM ts (ts.getD j aM).aE a).length<=4096:=by
      rw[q8 (by rw[bo];omega),bo,C,bY,bY,kR]at b;omega
     have z2:=z _ l (o _ l) _ (dv.1 a9 a l) z1;rw[xg,jY,ag (show aG 0 [a].length=true from rfl)];simp only[ab.bN];rw[show[a].getD (Int.toNat 0) aI=a from rfl,z2];simp only[a7,ay];rw[ag (ha (by show 1+(bM ts (ts.getD j aM).aE a).length<=_;omega)),show aQ .i64 0 1=1 from by decide,xg,aq (show ¬((1:Int)<([a].length:Int):J)=true from by simp),bY,bY];rfl
end
theorem Oo{a0 a2 a4 z0 z2 z4:Int}{a1 z1:J}{a3 z3:au}{l l2:I ab}{r:I ct}(ak:l.length<=1000000000)(h:∀y,y∈l->k' y=some y):∀(k i:Nat),i+k=l.length->
 tX ((l.length:Int),(i:Int),a0,a1,a2,a3,a4,z0,z1,z2,z3,z4,l,l2,r)=some (a0,a1,a2,a3,a4,z0,z1,z2,z3,z4,l,l2,r)
 |0,i,a=>by simp_all[tX,aq]
 |k+1,i,a=>by
  have aD:i<l.length:=by omega
  rw[tX,ag (by grind),ag (aX aD),bo,ag (by grind)];simp only[ab.bN];rw[h _ (bp aD aI)];simp only[a7,ay];rw[ag (aX aD),ag (by grind),bP,FT aD];exact Oo ak h k _ (by omega)
theorem Oq{a0 a2 a4 z0 z2 z4:Int}{a1 z1:J}{a3 z3:au}{l l2:I ab}{r:I ct}(ak:l.length<=1000000000)(h:∀y,y∈l->k' y=some y):∀(k i:Nat),i+k=l.length->
 tY ((l.length:Int),(i:Int),a0,a1,a2,a3,a4,z0,z1,z2,z3,z4,l,l2,r)=some (a0,a1,a2,a3,a4,z0,z1,z2,z3,z4,l2,l,r)
 |0,i,a=>by simp_all[tY]
 |k+1,i,a=>by
  have aD:i<l.length:=by omega
  rw[tY,ag (by grind),ag (aX aD),bo,ag (by grind)];simp only[ab.bN];rw[h _ (bp aD aI)];simp only[a7,ay];rw[ag (aX aD),ag (by grind),bP,FT aD];exact Oq ak h k _ (by omega)
theorem ad4(e:cz v):wt v<=1000000000->k' v=some v:=by
 induction e with
 |mk v hs h1 j k n m o dF u w x g f=>
  intro p;have q:=iA v;have s:=Cm v.a';have l2:=Cm v.aw;have t:=P9 v.a6;have kk:∀y,y∈v.a'->k' y=some y:=λy al=>g y al (by have:=e9 al;omega);have i:=λy al=>f y al (by have:=e9 al;omega);have c1:hc 120 v.a'=some v.a':=by unfold hc;rw[ag (qg (xG (by simp)))]
  have c2:hc 120 v.aw=some v.aw:=by unfold hc;rw[ag (qg (xG (by simp)))]
  have c3:hc 24 v.a6=some v.a6:=by unfold hc;rw[ag (qg (xG (by simp)))]
  have a:=Oo (a0:=v.ae) (a1:=v.cp) (a2:=v.bF) (a3:=v.bW) (a4:=v.ah) (z0:=0) (z1:=false) (z2:=0) (z3:=[]) (z4:=0) (l:=v.a') (l2:=v.aw) (r:=v.a6) (by omega) kk v.a'.length 0 (by simp);have c:=Oq (a0:=v.ae) (a1:=v.cp) (a2:=v.bF) (a3:=v.bW) (a4:=v.ah) (z0:=0) (z1:=false) (z2:=0) (z3:=[]) (z4:=0) (l:=v.aw) (l2:=v.a') (r:=v.a6) (by omega) i v.aw.length 0 (by simp);have b:tX ((v.a'.length:Int),0,v.ae,v.cp,v.bF,v.bW,v.ah,0,false,0,[],0,v.a',v.aw,v.a6)=_:=a;have d:tY ((v.aw.length:Int),0,v.ae,v.cp,v.bF,v.bW,v.ah,0,false,0,[],0,v.aw,v.a',v.a6)=_:=c;rw[k',c1,c2,c3];simp only[a7,ay];rw[b];simp only[ay];rw[d];cases v;rfl
theorem Wr(ar:so.length<=90000)(a:az):tW (tw,tr,a,so)=some ((⟨0,false,0,[],0,[],[],[]⟩:ab),false,tw,tr,so,so):=by
 rw[tW];unfold uP hc;rw[ag (qg (dQ (by simp) (by omega)))];simp
theorem Fx(ar:so.length<=90000)(id:Int)(a:az):wM (id,tw,tr,a,so)=some ((⟨0,false,0,[],0,[],[],[]⟩:ab),false,tw,tr,so,so++[id]):=by
 rw[wM];unfold uP hc;rw[ag (qg (dQ (by simp) (by omega)))];simp only[mM,a7,ay];rw[ag (by rfl),ag (dQ (by simp) (by grind))]
theorem Bk(ak:x.af.length<=1000)(id:Int):hl (x,id)=some (kK x.af id):=by
 obtain⟨r,a,b⟩:=AZ (t:=x) (id:=id) (by omega);grind[IZ,Pt]
section
variable {tw tr:I aj}
def gM(tw tr:I aj)(a so:az):ab ⊕ az->ab×J×I aj×I aj×az×az
 |.inl u=>(u,true,tw,tr,a,so)
 |.inr p=>(⟨0,false,0,[],0,[],[],[]⟩,false,tw,tr,p,so)
def GG(tw tr:I aj)(a so:az)(acc:I ab):I ab ⊕ az->(J×I aj×I aj×az×az) ⊕ (I aj×I aj×az×I ab×az)
 |.inl us=>.inr (tw,tr,a,acc++us,so)
 |.inr p=>.inl (false,tw,tr,p,so)
def px(tw tr:I aj)(a so:az):I ab ⊕ az->I ab×J×I aj×I aj×az×az
 |.inl us=>(us,true,tw,tr,a,so)
 |.inr p=>([],false,tw,tr,p,so)
def Part(tw tr:I aj)(f:fU)(so:az)(t rt:Int)(v:ab):Prop:=∀(step:Int) (a:az),rL (step,t,v,rt,tw,tr,a,so)=some (gM tw tr a so (f t v rt (so++[step])))
theorem Rw{step:Int}{a:az}{o:ab ⊕ az}(ar:so.length<=90000)(h:t' (t,v,rt,tw,tr,a,so++[step])=some (gM tw tr a (so++[step]) o)):rL (step,t,v,rt,tw,tr,a,so)=some (gM tw tr a so o):=by
 rw[rL];simp only[a7,ay,ab.bN];rw[ag (dQ (by simp) (by grind)),h];have aK:dG .i64 ((so++[step]).length:Int) 1=(so.length:Int):=by grind[pD]
 have b:fI 0 (so.length:Int) (so++[step]).length:=jj.2 (by grind);cases o with
 |inl u=>
  simp only[ay,ab.bN,gM];simp_all
 |inr p=>
  simp only[ay,ab.bN,gM];simp_all
theorem MH{l:I ab}(ak:l.length<=50000)(h:∀y,y∈l->Part tw tr f so t rt y):∀(k i:Nat) (acc:I ab) (a:az),i+k=l.length->acc.length<=i->
 tN (t,rt,l,(l.length:Int),(i:Int),tw,tr,a,acc,so)=some (GG tw tr a so acc (eU f so t rt i (l.drop i)))
 |0,i,acc,a,c,b=>by
  simp_all[tN,aq,fA,eU,GG]
 |k+1,i,acc,a,c,b=>by
  have aD:i<l.length:=by omega
  rw[tN,ag (by grind),ag (aX aD),bo];simp only[ab.bN];rw[h _ (bp aD aI),fi aD aI,eU];cases f t (l.getD i aI) rt _ with
  |inr p=>rfl
  |inl u=>
   simp only[a7,ay,gM,dX,ab.bN];rw[cN,ag (dQ (by simp) (by grind)),bP,MH ak h k (i+1) _ a (by omega) (by grind)];cases eU f so t rt (i+1) _ with
   |inr p=>rfl
   |inl us=>simp[GG,iK]
theorem AN{l:I ab}(ak:l.length<=50000)(h:∀y,y∈l->Part tw tr f so t rt y)(a:az):
 oC (t,l,rt,tw,tr,a,so)=some (px tw tr a so (eU f so t rt 0 l)):=by
 have h0:=MH ak h l.length 0 [] a (by simp) (by simp);have b:tN (t,rt,l,l.length,0,tw,tr,a,[],so)=_:=h0;rw[oC,b,gk];cases eU f _ t rt 0 l<;>rfl
def vU(tw tr:I aj)(a so:az)(x:aj)(v:ab)(y:aj)(acc:I ab):I ab ⊕ az->(J×I aj×I aj×az×ab×az) ⊕ (I aj×I aj×az×aj×ab×aj×Int×J×Int×au×Int×Int×J×Int×au×Int×az×I ab)
 |.inl us=>.inr (tw,tr,a,x,v,y,0,false,0,[],0,v.ae,false,0,[],0,so,acc++us)
 |.inr p=>.inl (false,tw,tr,p,⟨0,false,0,[],0,[],[],[]⟩,so)
theorem Rx(ar:so.length<=90000)(aa:x.af.length<=1000)(al:y.af.length<=1000)(ak:v.aw.length=x.af.length)(o:∀q,q∈v.aw->cz q)
 (e:∀n,n∈y.af->n.bO->k' n.bC=some n.bC)
 (h:∀i,i<x.af.length->∀n,n∈y.af->Part tw tr f so (x.af.getD i aF).aC n.aC (v.aw.getD i aI)/\∀p u,f (x.af.getD i aF).aC (v.aw.getD i aI) n.aC p= .inl u->cz u):∀(k j:Nat) (acc:I ab) (a:az),j+k=y.af.length->acc.length<=j->
 pT (y.af,(y.af.length:Int),(j:Int),tw,tr,a,x,v,y,0,false,0,[],0,v.ae,false,0,[],0,so,acc)=some (vU tw tr a so x v y acc (hR f x v so (y.af.drop j)))
 |0,j,acc,a,z,s=>by
  simp_all[pT,aq,fA,hR,vU,ab.bN]
 |k+1,j,acc,a,z,s=>by
  have aD:j<y.af.length:=by omega
  have g:=bp aD aF;have r:=λacc a=>Rx ar aa al ak o e h k (j+1) acc a (by omega);rw[pT,ag (by grind),ag (aX aD),bo];simp only[a7,ay,ab.bN,iQ];rw[Bk aa,fi aD aF,hR];unfold mR kK;generalize aL:y.af.getD j aF=n at*;cases bJ:ez x.af n.ah with
  |none=>
   simp only[ay,fY];rw[ag trivial];cases w:n.bO with
   |false=>
    simp only[fY];rw[ag trivial,Fx ar];rfl
   |true=>
    rw[cN,e n g w];simp only[ay];rw[ag (dQ),bP,r _ _ (by simp;omega),ag trivial];cases hR f x v so (y.af.drop (j+1))with
    |inr p=>rfl
    |inl us=>simp[vU,iK]
  |some i=>
   obtain⟨c,_,_⟩:=hK bJ;have d:i<v.aw.length:=(by omega);obtain⟨B,C⟩:=h i c n g;simp only[ay,dX];rw[cN,ag (aX c),ag (aX d),bo,B n.ah a];have l:=FW (m:=x.af.getD i aF) (o _ (bp d aI));cases t:f (x.af.getD i aF).aC (v.aw.getD i aI) n.aC (so++[n.ah])with
   |inr p=>
    simp only[ay,gM,ab.bN,fY,dX,Bool.and_false];rw[ag (aX c),ag (aX d),l];rw[Lm];generalize dm (x.af.getD i aF) (v.aw.getD i aI)=b at*;cases b with
    |false=>rfl
    |true=>
     simp only[fe];rw[ag trivial,Fx ar];rfl
   |inl u=>
    have A:=FW (m:=n) (C _ u t);simp only[ay,gM,ab.bN,fY,dX,sR];rw[ag (aX c),ag (aX d),l];simp only[ay,cm,cw];rw[BJ];generalize dm (x.af.getD i aF) (v.aw.getD i aI)=b at*;have E:(some [u]>>=λt110=>if bR 120 (acc++t110).length then pT (y.af,(y.af.length:Int),aQ .i64 (j:Int) 1,tw,tr,a,x,v,y,0,false,0,[],0,v.ae,false,0,[],0,so,acc++t110)else none)=some (vU tw tr a so x v y acc (iK (.inl u) (hR f x v so (y.af.drop (j+1))))):=by
     simp only[a7,ay];rw[ag (dQ (by simp)),bP,r _ _ (by simp;omega)];cases hR f x v so (y.af.drop (j+1))with
     |inr p=>rfl
     |inl us=>simp[vU,iK]
    cases b with
    |false=>grind
    |true=>
     rw[ag rfl,A];cases D:dm n u with
     |true=>grind
     |false=>
      rw[Fx ar];rfl
def Cz(tw tr:I aj)(a so:az)(v:ab)(its:I ab)(acc:I ct):I ct ⊕ az->(J×I aj×I aj×ab×az×az) ⊕ (I aj×I aj×az×Int×J×Int×au×Int×Int×J×Int×au×Int×az×I ab×I ct)
 |.inl b=>.inr (tw,tr,a,0,false,0,[],0,v.ae,false,0,[],0,so,its,acc++b)
 |.inr p=>.inl (false,tw,tr,⟨0,false,0,[],0,[],[],[]⟩,so,p)
theorem Ry(ar:so.length<=90000)(aa:x.af.length<=1000)(al:y.af.length<=1000)(ak:v.aw.length=x.af.length)(d:∀q,q∈v.aw->cz q)
 (h:∀i,i<x.af.length->na tw (x.af.getD i aF).aC (v.aw.getD i aI)){its:I ab}(b:az):∀(k i:Nat) (acc:I ct),i+k=x.af.length->acc.length<=i->
 oq (x.af,(x.af.length:Int),(i:Int),tw,tr,b,v,y,0,false,0,[],0,v.ae,false,0,[],0,so,its,acc)=some (Cz tw tr b so v its acc (gZ tw y so (x.af.drop i) (v.aw.drop i)))
 |0,i,acc,g,f=>by
  simp_all[oq,aq,fA,gZ,Cz]
 |k+1,i,acc,g,f=>by
  have aD:i<x.af.length:=by omega
  have a:i<v.aw.length:=by omega
  have c:=λacc=>Ry ar aa al ak d h (its:=its) b k (i+1) acc (by omega);rw[oq,ag (by grind),ag (aX aD),bo];simp only[a7,ay,ab.bN,iQ];rw[Bk al,fi aD aF,fi a aI,gZ];have hs:=qk y.af (x.af.getD i aF).ah;have j:(kK y.af (x.af.getD i aF).ah).2=(cx y.af (x.af.getD i aF).ah).isSome:=by
   unfold kK;grind
  simp only[ay];rw[j];by_cases c1:(cx y.af (x.af.getD i aF).ah).isSome=true;rw[ag c1,ag c1,bP,c _ (by omega)];rw[aq c1,aq c1];by_cases c2:(x.af.getD i aF).bV=true;rw[ag c2,ag c2,Fx ar];rfl
  rw[aq c2,aq c2,ag (aX a),FW (d _ (bp a aI))];simp only[ay];cases dm (x.af.getD i aF) (v.aw.getD i aI)with
  |true=>rw[cN,ag rfl,bP,c _ (by omega)]
  |false=>
   have e:=h i aD;rw[ag (show(!false)=true from rfl),aq (show ¬false=true by simp),ag (aX a),e];simp only[ay];rw[ag (dQ (by simp)),bP,c _ (by simp_all)];cases gZ tw y so (x.af.drop (i+1)) (v.aw.drop (i+1))with
   |inr p=>rfl
   |inl us=>simp[Cz,iK]
theorem ad5(ar:so.length<=90000)(cZ:v.ae=5)(aa:x.af.length<=1000)(al:y.af.length<=1000)(ak:v.aw.length=x.af.length)(b:∀q,q∈v.aw->cz q)
 (e:∀n,n∈y.af->n.bO->k' n.bC=some n.bC)
 (h:∀i,i<x.af.length->∀n,n∈y.af->Part tw tr f so (x.af.getD i aF).aC n.aC (v.aw.getD i aI)/\∀p u,f (x.af.getD i aF).aC (v.aw.getD i aI) n.aC p= .inl u->cz u)
 (g:∀i,i<x.af.length->na tw (x.af.getD i aF).aC (v.aw.getD i aI))(a:az):
 Ao (x,v,y,tw,tr,a,so)=some (gM tw tr a so (sT tw f x y v so)):=by
 have h0:=Rx ar aa al ak b e h y.af.length 0 [] a (by simp) (by simp);have c:pT (y.af,y.af.length,0,tw,tr,a,x,v,y,0,false,0,[],0,v.ae,false,0,[],0,so,[])=_:=h0;rw[Ao];simp[ab.bN];rw[c,gk];unfold sT;cases hR f x v so _ with
 |inr p=>rfl
 |inl its=>
  have h1:=Ry (tr:=tr) ar aa al ak b g (its:=its) a x.af.length 0 [] (by simp) (by simp);have d:oq (x.af,x.af.length,0,tw,tr,a,v,y,0,false,0,[],0,v.ae,false,0,[],0,so,its,[])=_:=h1;simp only[a7,ay,vU,iY];rw[d,gk,gk];cases gZ tw y so _ v.aw with
  |inr p=>rfl
  |inl r=>simp_all[Cz,k3,jF,gM]
theorem afy(ar:so.length<=90000)(c7:v.ae=6)(aa:x.af.length<=1000)(al:y.af.length<=1000)(h1:v.aw.length=1){i:Nat}(a:ez x.af v.ah=some i)
 (h:∀n,n∈y.af->Part tw tr f so (x.af.getD i aF).aC n.aC (v.aw.getD 0 aI))
 (e:na tw (x.af.getD i aF).aC (v.aw.getD 0 aI))(b:az):
 zQ (x,v,y,tw,tr,b,so)=some (gM tw tr b so (qW tw f x y v so)):=by
 obtain⟨d,_,_⟩:=hK a;have c:aG 0 v.aw.length:=by rw[h1];rfl
 rw[zQ,Bk aa,Bk al];unfold qW kK;simp only[a7,ay,ab.bN,a];cases bJ:ez y.af v.ah with
 |some k=>
  obtain⟨bj,_,_⟩:=hK bJ;simp only;rw[ag trivial,ag (aX d),ag c,ag (aX bj),bo,bo,show(0:Int).toNat=0 from rfl,h _ (bp bj aF)];cases f _ (v.aw.getD 0 aI) (y.af.getD k aF).aC _ with
  |inr p=>
   rfl
  |inl u=>
   simp_all[gM,dX,jF,ab.bN,aq]
 |none=>
  cases y.bt with
  |false=>
   simp_all[ag,Wr,cm,cw,gM]
  |true=>
   simp_all[na,dX,aq,ag,aX,bo,ay,cg,gM]
def CB(tw tr:I aj)(n:Nat):Prop:=∀{v:ab},cz v->∀{t rt:Int} {so:az} (a:az),dL tw true t v->gx tw n t v->0<=rt->rt<tr.length->so.length+n<=50000->
 t' (t,v,rt,tw,tr,a,so)=some (gM tw tr a so (ef tw tr n t v rt so))
theorem afz(HW:dn tw)(HR:dn tr){n:Nat}(ih:CB tw tr n):CB tw tr (n+1):=by
 intro v aC t rt so e K aA a8 U ar;unfold gx at aA;obtain⟨⟨z1,aZ,a6⟩,M,O,H⟩:=aA;have SW:=HW.V.ic HW.T;have cH:=HR.V.ic HR.T;have aU:=iA v;obtain⟨⟨g1,g2,g3,g4⟩,X⟩:=(hp _ _ _).1 K;obtain⟨j,rfl⟩:∃j:Nat,t=(j:Int):=⟨t.toNat,by omega⟩;obtain⟨k,rfl⟩:∃k:Nat,rt=(k:Int):=⟨rt.toNat,by omega⟩
 have Z:j<tw.length:=by omega
 have ad:k<tr.length:=by omega
 have ai:=bp Z aM;have o:=bp ad aM;have aR:=g4 rfl;cases aC with
 |mk _ hs h1 aP aQ au B aT dF aV aW aY=>
 rw[t',ag (aX Z),uX];simp only[a7,ay,bo,ab.bN];rw[bo]at g3 X M O H;rw[ag (aX ad)];have ao:∀q,q∈(tr.getD k aM).af->q.bO->k' q.bC=some q.bC:=λq a ap=>ad4 ((HR.T _ o).iw _ a) (by have:=HR.W _ o q a ap;omega);generalize aa:tw.getD j aM=x at*;generalize al:tr.getD k aM=y at*;have L:∀{t rt:Int} {q:ab},q∈v.aw->dL tw true t q->gx tw n t q->0<=rt->rt<tr.length->Part tw tr (ef tw tr n) so t rt q:=λ{t rt q} a K R a0 a1 step e=>Rw (by omega) (ih (B q a) e K R a0 a1 (by simp;omega));have aJ:∀{t rt:Int} {q:ab},q∈v.a'->dL tw true t q->gx tw n t q->0<=rt->rt<tr.length->Part tw tr (ef tw tr n) so t rt q:=λ{t rt q} a K R a0 a1 step e=>Rw (by omega) (ih (au q a) e K R a0 a1 (by simp;omega));have F:=Wr (tw:=tw) (tr:=tr) (so:=so) (by omega) e;by_cases bS:x.ae=y.ae
 . rw[aq (show ¬(!(x.ae=y.ae:J))=true by simp[bS])];have N:∀{t rt:Int},v.aw=[]->oC (t,v.aw,rt,tw,tr,e,so)=some ([],true,tw,tr,e,so):=λ{t rt} he=>by
    have:=AN (tw:=tw) (tr:=tr) (f:=ef tw tr n) (so:=so) (t:=t) (rt:=rt) (l:=v.aw) (by omega) (λq a=>by rw[he]at a;cases a) e;rw[this,he];rfl
   rcases X with h|h|h|h|h|h|h|h|h
   . obtain⟨a1,a2,a3,a4,a5,d,C⟩:=h;have b:x.ae=1:=(by omega);have ak:j4 x y v:=⟨λh=>by omega,λh=>by omega,λh=>by omega⟩
     rw[mz bS (by omega) ak];simp only[b];simp only[N d,ay,dz,cm,cw,Int.reduceEq,dX,gM];cases v;simp_all
   . obtain⟨a1,a2,a3,a4,a5,d,C,D,a9⟩:=h;have b:x.ae=2:=(by omega);by_cases ak:y.bA<=v.bF/\v.bF<=y.bI
     rw[mz bS (by omega) (show j4 x y v from⟨λ_=>ak,λh=>by omega,λh=>by omega⟩)];simp only[b];simp only[N d,ak.1,ak.2,ay,dz,di,cm,cw,cg,Int.reduceEq,dX,fe,gM];cases v;simp_all
     . rw[xH bS (by omega) (show ¬j4 x y v fromλh=>ak (h.1 b))];have I:(bif (y.bA<=v.bF:J)then (v.bF<=y.bI:J)else false)=false:=by
        by_cases c:y.bA<=v.bF<;>simp[c];omega
       simp only[b,I];simp only[F,ay,di,cg,fY,gM,ab.bN]
   . obtain⟨a1,a2,a3,a4,a5,d,C,D⟩:=h;have b:x.ae=3:=(by omega);by_cases ak:(v.bW.length:Int)<=y.Max
     rw[mz bS (by omega) (show j4 x y v from⟨λh=>by omega,λ_=>ak,λh=>by omega⟩)];simp only[b];simp only[N d,ak,ay,dz,di,cm,cw,cg,Int.reduceEq,dX,fe,gM];cases v;simp_all;rw[xH bS (by omega) (show ¬j4 x y v fromλh=>ak (h.2.1 b))];simp only[b];simp only[F,ak,ay,di,dz,cg,cw,Int.reduceEq,cm,fY,gM,ab.bN]
   . obtain⟨a1,a2,a3,a4,a5,d,C,D⟩:=h;have b:x.ae=4:=(by omega);obtain⟨r,U,_,aL⟩:=rz (t:=y) v.ah (by have:=(HR.T _ o).1;have:=eS (e' reachBytes);omega);have G:r.2↔∃s,s∈y.bf/\s.ah=v.ah:=by
      rcases aL with⟨q,g,S,_,rfl⟩|⟨q,rfl⟩;exact⟨λ_=>⟨_,bp g ek,S⟩,λ_=>rfl⟩
      . constructor
        intro h;simp at h;intro a;obtain⟨s,s1,aN⟩:=a;obtain⟨i,B,rfl⟩:=hE s1;exact absurd aN (by have:=q i B;rwa [gA B]at this)
     by_cases ak:(∃s,s∈y.bf/\s.ah=v.ah)\/y.bt=true
     . rw[mz bS (by omega) (show j4 x y v from⟨λh=>by omega,λh=>by omega,λ_=>ak⟩)];have I:(bif r.2 then true else y.bt)=true:=by
        rcases ak with ak|ak;rw[G.2 ak];rfl;rw[ak];cases r.2<;>rfl
       simp only[b,U];simp only[N d,I,ay,dz,di,cm,cw,cg,Int.reduceEq,dX,gM];cases v;simp_all
     . rw[xH bS (by omega) (show ¬j4 x y v fromλh=>ak (h.2.2 b))];have I:(bif r.2 then true else y.bt)=false:=by
        cases az:r.2 with
        |true=>exact absurd (.inl (G.1 az)) ak
        |false=>
         cases av:y.bt with
         |true=>exact absurd (.inr av) ak
         |false=>rfl
       simp only[b,U];simp only[F,I,ay,di,dz,cg,cw,Int.reduceEq,cm,fY,gM,ab.bN]
   . obtain⟨a1,a2,a3,a4,a5,d,C,D⟩:=h;have b:x.ae=5:=(by omega);obtain⟨aj,aD⟩:=SW.A _ ai (.inl (by omega));obtain⟨aG,aH⟩:=cH.A _ o (.inl (by omega));obtain⟨f1,f2⟩:=jR.1 D
     have G:=ad5 (tw:=tw) (tr:=tr) (f:=ef tw tr n) (so:=so) (by omega) (x:=x) (y:=y) a1 (by omega) (by omega) f1 B ao (λi E q a=>by
      have w:=bp (by omega:i<v.aw.length) aI;obtain⟨z,g⟩:=HR.iv.mem o a;exact⟨L w (f2 i E) (M b i E) z g,λp u aB=>(Kf HW HR n (B _ w) (f2 i E) (M b i E) z g aB).1⟩) (λi E=>by
      have w:=bp (by omega:i<v.aw.length) aI
      exact TG HW (B _ w) _ (f2 i E) (M b i E).len) e
     rw[H0 bS b];simp only[b,G,ay,dz,di,cm,cw,cg,Int.reduceEq,ab.bN]
   . obtain⟨a1,a2,a3,a4,a5,d⟩:=h;have b:x.ae=6:=(by omega);obtain⟨aj,aD⟩:=SW.A _ ai (.inr (by omega));obtain⟨aG,aH⟩:=cH.A _ o (.inr (by omega));cases bJ:cx x.af v.ah with
     |none=>rw[bJ]at d;cases d.2.1
     |some m=>
      rw[bJ]at d;obtain⟨b1,b2,an⟩:=d;have Q:=qk x.af v.ah;rw[bJ]at Q;cases P:ez x.af v.ah with
      |none=>rw[P]at Q;cases Q
      |some i=>
      obtain⟨d1,d2,_⟩:=hK P;obtain⟨d3,d4⟩:=jS bJ;have em:x.af.getD i aF=m:=qf aj (bp d1 aF) d3 (by rw[d2,d4]);have w:=bp (by omega:0<v.aw.length) aI;have Y:=dv.1 an _ w
      have G:=afy (tw:=tw) (tr:=tr) (f:=ef tw tr n) (so:=so) (by omega) (x:=x) (y:=y) a1 (by omega) (by omega) b2 P (λq a=>by
       obtain⟨z,g⟩:=HR.iv.mem o a;rw[em]
       exact L w Y (O b _ bJ _ w) z g) (by rw[em];exact TG HW (B _ w) _ Y (O b _ bJ _ w).len) e
      rw[H2 bS b];simp only[b,G,ay,dz,di,cm,cw,cg,Int.reduceEq,ab.bN]
   . obtain⟨a1,a2,a3,a4,a5,d,C,D,a9⟩:=h;have b:x.ae=7:=(by omega);obtain⟨z,g⟩:=HR.iv.elem o (by omega);have a:=AN (tw:=tw) (tr:=tr) (f:=ef tw tr n) (so:=so) (t:=x.aE) (rt:=y.aE) (l:=v.aw) (by omega) (λq a=>L a (dv.1 a9 q a) ((H (by omega)).1 q a) z g) e;rw[H3 bS b];unfold vu;by_cases ak:(v.aw.length:Int)<=y.Max
     . rw[ag ak];simp only[b,a,ak,ay,dz,di,cm,cw,cg,Int.reduceEq,dX];cases eU (ef tw tr n) so x.aE y.aE 0 v.aw with
       |inr p=>rfl
       |inl us=>simp only[px,jF,gM,dX,cm,cw,a1,a2,a3,a4,a5]
     rw[aq ak];simp only[b];simp only[F,ak,ay,di,dz,cg,cw,Int.reduceEq,cm,fY,gM,ab.bN]
   . obtain⟨a1,a2,a3,a4,a5,d,C,D,a9,am,aO⟩:=h;have b:x.ae=8:=(by omega);obtain⟨z,g⟩:=HR.iv.elem o (by omega);obtain⟨S,aK⟩:=HR.iv.key o (by omega);have a:=AN (tw:=tw) (tr:=tr) (f:=ef tw tr n) (so:=so) (t:=x.aE) (rt:=y.aE) (l:=v.aw) (by omega) (λq a=>L a (dv.1 am q a) ((H (by omega)).1 q a) z g) e;have ax:=AN (tw:=tw) (tr:=tr) (f:=ef tw tr n) (so:=so) (t:=x.aS) (rt:=y.aS) (l:=v.a') (by omega) (λq a=>aJ a (dv.1 a9 q a) ((H (by omega)).2 q a) S aK) e;rw[H4 bS b];unfold vv;by_cases ak:(v.aw.length:Int)<=y.Max
     . rw[ag ak];simp only[b,ax,ak,ay,dz,di,cm,cw,cg,Int.reduceEq,dX];cases eU (ef tw tr n) so x.aS y.aS 0 v.a' with
       |inr p=>rfl
       |inl ks=>
        simp only[px,k3,dX,cm,cw,a,ay];cases eU (ef tw tr n) so x.aE y.aE 0 v.aw with
        |inr p=>rfl
        |inl us=>simp only[px,jF,gM,dX,cm,cw,a1,a2,a3,a4,a5]
     rw[aq ak];simp only[b];simp only[F,ak,ay,di,dz,cg,cw,Int.reduceEq,cm,fY,gM,ab.bN]
   . obtain⟨a1,a2,a3,a4,a5,d,C,D,a9⟩:=h;have b:x.ae=9:=(by omega);obtain⟨z,g⟩:=HR.iv.elem o (by omega);have a:=AN (tw:=tw) (tr:=tr) (f:=ef tw tr n) (so:=so) (t:=x.aE) (rt:=y.aE) (l:=v.aw) (by omega) (λq a=>L a (dv.1 a9 q a) ((H (by omega)).1 q a) z g) e;rw[H5 bS b];unfold vw;simp only[b,a,ay,dz,di,cm,cw,cg,Int.reduceEq,dX];cases eU (ef tw tr n) so x.aE y.aE 0 v.aw with
     |inr p=>rfl
     |inl us=>simp only[px,jF,gM,dX,cm,cw,a1,a2,a3,a4,a5]
 rw[ag (show(!(x.ae=y.ae:J))=true by simp[bS]),TE bS,F];simp only[ay,ab.bN,gM]
theorem afA:CB tw tr 0:=by
 intro v _ _ _ _ _ _ h;cases h
theorem Rz(HW:dn tw)(HR:dn tr):∀n,CB tw tr n
 |0=>afA
 |n+1=>afz HW HR (Rz HW HR n)
end
def iN:ab ⊕ az->ej
 |.inl u=>⟨u,[],true⟩
 |.inr p=>⟨⟨0,false,0,[],0,[],[],[]⟩,p,false⟩
theorem Dw(ar:so.length<=90000):k9 so=some (iN (.inr so)):=by
 rw[k9,ag (dQ (by simp) (by grind))];rfl
theorem Bc(ar:so.length<=90000)(step:Int):rV (so,step)=some (so++[step]):=by
 rw[rV,ag (dQ (by simp) (by grind)),iY];simp only[a7,ay];rw[ag (dQ (by simp) (by grind))]
theorem HY{m:aT}(a:cz m.bC)(v:ab):wI (m,v)=some (dm m v):=by
 rw[wI];simp[ab.bN];unfold dm;cases b:m.bO with
 |false=>rfl
 |true=>
  obtain⟨r,c,d⟩:=P6 a v;grind
theorem Bl(ak:x.af.length<=1000)(id:Int):g' (x,id)=some (kK x.af id):=by
 obtain⟨r,a,b⟩:=DW (t:=x) (id:=id) (by omega);grind[IZ,Pt]
section
variable {tw tr:I aj}
def py(tw tr:I aj)(f:fU)(so:az)(t rt:Int)(v:ab):Prop:=∀step:Int,ns ((⟨tw⟩:aY),t,v,(⟨tr⟩:aY),rt,so++[step])=some (iN (f t v rt (so++[step])))
def GC(tw tr:I aj)(so:az)(x y:aj)(v:ab)(acc:I ab):I ab ⊕ az->ej ⊕ (az×I aj×ab×I aj×Int×J×Int×au×Int×J×aj×aj×Int×J×Int×au×Int×I ct×I ab)
 |.inl us=>.inr (so,tw,v,tr,0,false,0,[],0,false,x,y,v.ae,v.cp,v.bF,v.bW,v.ah,v.a6,acc++us)
 |.inr p=>.inl (iN (.inr p))
theorem RA(ar:so.length<=90000)(ak:v.a'.length<=50000)(h:∀q,q∈v.a'->py tw tr f so x.aS y.aS q):∀(k i:Nat) (acc:I ab),i+k=v.a'.length->acc.length<=i->
 oy (so,(i:Int),tw,v,tr,0,false,0,[],0,false,x,y,v.ae,v.cp,v.bF,v.bW,v.ah,v.a6,acc)=some (GC tw tr so x y v acc (eU f so x.aS y.aS i (v.a'.drop i)))
 |0,i,acc,b,a=>by
  simp_all[oy,aq,fA,eU,GC,ab.bN]
 |k+1,i,acc,b,a=>by
  have aD:i<v.a'.length:=by omega
  rw[oy,ag (by grind),ag (aX aD),bo,Bc ar];simp only[ab.bN,a7,ay];rw[h _ (bp aD aI),fi aD aI,eU];cases f x.aS (v.a'.getD i aI) y.aS (so++[(i:Int)])with
  |inr p=>rfl
  |inl u=>
   simp only[ay,iN];rw[ag (dQ (by simp) (by grind)),bP,RA ar ak h k (i+1) _ (by omega) (by grind)];cases eU f so x.aS y.aS (i+1) (v.a'.drop (i+1))with
   |inr p=>rfl
   |inl us=>simp[GC,iK]
def GB(v:ab)(ks acc:I ab):I ab ⊕ az->ej ⊕ (Int×J×Int×au×Int×J×Int×J×Int×au×Int×I ct×I ab×I ab)
 |.inl us=>.inr (0,false,0,[],0,false,v.ae,v.cp,v.bF,v.bW,v.ah,v.a6,ks,acc++us)
 |.inr p=>.inl (iN (.inr p))
theorem Pv(ar:so.length<=90000)(ak:v.aw.length<=50000)(h:∀q,q∈v.aw->py tw tr f so x.aE y.aE q):∀(k i:Nat) (acc:I ab),i+k=v.aw.length->acc.length<=i->
 oz (so,(i:Int),tw,v,tr,0,false,0,[],0,false,x,y,v.ae,v.cp,v.bF,v.bW,v.ah,v.a6,ks,acc)=some (GB v ks acc (eU f so x.aE y.aE i (v.aw.drop i)))
 |0,i,acc,b,a=>by
  simp_all[oz,aq,eU,GB]
 |k+1,i,acc,b,a=>by
  have aD:i<v.aw.length:=by omega
  rw[oz,ag (by grind),ag (aX aD),bo,Bc ar];simp only[ab.bN,a7,ay];rw[h _ (bp aD _),fi aD aI,eU];cases f _ _ _ _ with
  |inr p=>rfl
  |inl u=>
   simp only[ay,iN];rw[ag (dQ (by simp) (by grind)),bP,Pv ar ak h k (i+1) _ (by omega) (by grind)];cases eU f so x.aE y.aE (i+1) _ with
   |inr p=>rfl
   |inl us=>simp[GB,iK]
def mQ(f:fU)(x y:aj)(v:ab)(so:az):ab ⊕ az:=
 k3 (λks=>jF (λa=>⟨v.ae,v.cp,v.bF,v.bW,v.ah,ks,a,v.a6⟩) (eU f so x.aE y.aE 0 v.aw)) (eU f so x.aS y.aS 0 v.a')
theorem uS(ar:so.length<=90000)(d:v.a'.length<=50000)(ak:v.aw.length<=50000)(c:∀q,q∈v.a'->py tw tr f so x.aS y.aS q)(h:∀q,q∈v.aw->py tw tr f so x.aE y.aE q):
 (∃p,mQ f x y v so= .inr p/\oy (so,0,tw,v,tr,0,false,0,[],0,false,x,y,v.ae,v.cp,v.bF,v.bW,v.ah,v.a6,[])=some (.inl (iN (.inr p))))\/
 ∃ks,oy (so,0,tw,v,tr,0,false,0,[],0,false,x,y,v.ae,v.cp,v.bF,v.bW,v.ah,v.a6,[])=some (.inr (so,tw,v,tr,0,false,0,[],0,false,x,y,v.ae,v.cp,v.bF,v.bW,v.ah,v.a6,ks))/\
  ((∃p,mQ f x y v so= .inr p/\oz (so,0,tw,v,tr,0,false,0,[],0,false,x,y,v.ae,v.cp,v.bF,v.bW,v.ah,v.a6,ks,[])=some (.inl (iN (.inr p))))\/
  ∃us,mQ f x y v so= .inl ⟨v.ae,v.cp,v.bF,v.bW,v.ah,ks,us,v.a6⟩/\oz (so,0,tw,v,tr,0,false,0,[],0,false,x,y,v.ae,v.cp,v.bF,v.bW,v.ah,v.a6,ks,[])=some (.inr (0,false,0,[],0,false,v.ae,v.cp,v.bF,v.bW,v.ah,v.a6,ks,us))):=by
 have h0:=RA ar d c v.a'.length 0 [] (by simp) (by simp);have a:oy (so,0,tw,v,tr,0,false,0,[],0,false,x,y,v.ae,v.cp,v.bF,v.bW,v.ah,v.a6,[])=_:=h0;rw[a,gk];unfold mQ;cases eU f _ _ _ 0 v.a' with
 |inr p=>exact .inl ⟨p,rfl,rfl⟩
 |inl ks=>
  have h1:=Pv ar ak h (ks:=ks) v.aw.length 0 [] (by simp) (by simp);have b:oz (so,0,tw,v,tr,0,false,0,[],0,false,x,y,v.ae,v.cp,v.bF,v.bW,v.ah,v.a6,ks,[])=_:=h1;refine .inr ⟨ks,by rfl,?_⟩;rw[b,gk];cases eU f _ _ _ 0 _ with
  |inr p=>exact .inl ⟨p,rfl,rfl⟩
  |inl us=>exact .inr ⟨us,rfl,by rfl⟩
def vV(tw:I aj)(so:az)(x y:aj)(v:ab)(acc:I ab):I ab ⊕ az->ej ⊕ (az×I aj×aj×ab×aj×Int×J×Int×au×Int×J×Int×J×Int×au×Int×I ab)
 |.inl us=>.inr (so,tw,x,v,y,0,false,0,[],0,false,v.ae,false,0,[],0,acc++us)
 |.inr p=>.inl (iN (.inr p))
theorem RB{so:az}(ar:so.length<=80000)(aa:x.af.length<=1000)(al:y.af.length<=1000)(ak:v.aw.length=x.af.length)
 (d:∀n,n∈x.af->cz n.bC)(e:∀n,n∈y.af->cz n.bC)
 (h:∀i,i<x.af.length->∀n,n∈y.af->py tw tr f so (x.af.getD i aF).aC n.aC (v.aw.getD i aI)):∀(k j:Nat) (acc:I ab),j+k=y.af.length->acc.length<=j->
 p1 (so,(j:Int),tw,x,v,tr,y,0,false,0,[],0,false,v.ae,false,0,[],0,acc)=some (vV tw so x y v acc (hR f x v so (y.af.drop j)))
 |0,j,acc,r,o=>by
  simp_all[p1,aq,fA,hR,vV,ab.bN]
 |k+1,j,acc,r,o=>by
  have aD:j<y.af.length:=by omega
  have g:=bp aD aF;have m:=λacc=>RB ar aa al ak d e h k (j+1) acc (by omega);rw[p1,ag (by grind),ag (aX aD),bo];simp only[a7,ay,ab.bN,iQ];rw[Bc (by omega),Bl aa,fi aD aF,hR];unfold mR kK;have q:=e _ g;generalize aL:y.af.getD j aF=n at*;have M:=Dw (so:=so++[n.ah]) (by grind);cases bJ:ez x.af n.ah with
  |none=>
   simp only[ay,fY,fe];cases A:n.bO with
   |false=>
    rw[M,aq (show ¬false=true by simp)];rfl
   |true=>
    rw[ag trivial,ag (dQ (by simp) (by grind)),bP,m _ (by grind),ag (show true=true from rfl)];cases hR f x v so (y.af.drop (j+1))with
    |inr p=>rfl
    |inl us=>simp[vV,iK]
  |some i=>
   obtain⟨a,_,_⟩:=hK bJ;have c:i<v.aw.length:=(by omega);have t:=h i a n g;simp only[ay,dX,eC];rw[cN,cN,ag (aX a),ag (aX c),bo,t n.ah];have l:=HY (d _ (bp a aF)) (v.aw.getD i aI);cases z:f (x.af.getD i aF).aC (v.aw.getD i aI) n.aC (so++[n.ah])with
   |inr p=>
    simp only[ay,iN,ab.bN,fY,dX,Bool.and_false];rw[ag (aX a),ag (aX c),l];rw[Lm];generalize dm (x.af.getD i aF) (v.aw.getD i aI)=b at*;cases b with
    |false=>rfl
    |true=>
     simp only[fe];rw[ag trivial,M];rfl
   |inl u=>
    have s:=HY q u;simp only[ay,iN,ab.bN,fY,dX,sR];rw[ag (aX a),ag (aX c),l];simp only[ay,cm,cw];rw[BJ];generalize dm (x.af.getD i aF) (v.aw.getD i aI)=b at*;have B:(some [u]>>=λt110=>if bR 120 (acc++t110).length then p1 (so,aQ .i64 (j:Int) 1,tw,x,v,tr,y,0,false,0,[],0,false,v.ae,false,0,[],0,acc++t110)else none)=some (vV tw so x y v acc (iK (.inl u) (hR f x v so (y.af.drop (j+1))))):=by
     simp only[a7,ay];rw[ag (dQ (by simp) (by grind)),bP,m _ (by grind)];cases hR f x v so (y.af.drop (j+1))with
     |inr p=>rfl
     |inl us=>simp[vV,iK]
    cases b with
    |false=>
     grind
    |true=>
     rw[ag rfl,s];cases w:dm n u with
     |true=>
      grind
     |false=>
      rw[M];rfl
def CA(v:ab)(its:I ab)(acc:I ct):I ct ⊕ az->ej ⊕ (Int×J×Int×au×Int×J×Int×J×Int×au×Int×I ab×I ct)
 |.inl a=>.inr (0,false,0,[],0,false,v.ae,false,0,[],0,its,acc++a)
 |.inr p=>.inl (iN (.inr p))
theorem RC(ar:so.length<=80000)(aa:x.af.length<=1000)(al:y.af.length<=1000)(ak:v.aw.length=x.af.length)(c:∀n,n∈x.af->cz n.bC)
 (h:∀i,i<x.af.length->k1 tw (v.aw.getD i aI) (x.af.getD i aF).aC){its:I ab}:∀(k i:Nat) (acc:I ct),i+k=x.af.length->acc.length<=i->
 ow (so,(i:Int),tw,x,v,y,0,false,0,[],0,false,v.ae,false,0,[],0,its,acc)=some (CA v its acc (gZ tw y so (x.af.drop i) (v.aw.drop i)))
 |0,i,acc,f,e=>by
  simp_all[ow,aq,fA,gZ,CA]
 |k+1,i,acc,f,e=>by
  have aD:i<x.af.length:=by omega
  have a:i<v.aw.length:=by omega
  have b:=λacc=>RC ar aa al ak c h (its:=its) k (i+1) acc (by omega);rw[ow,ag (by grind),ag (aX aD),bo];simp only[a7,ay,ab.bN,iQ];rw[Bl al,fi aD aF,fi a aI,gZ];have hs:=qk y.af (x.af.getD i aF).ah;have g:(kK y.af (x.af.getD i aF).ah).2=(cx y.af (x.af.getD i aF).ah).isSome:=by
   grind[kK]
  simp only[ay];rw[g];by_cases c1:(cx y.af (x.af.getD i aF).ah).isSome=true;rw[ag c1,ag c1,bP,b _ (by omega)];rw[aq c1,aq c1];by_cases c2:(x.af.getD i aF).bV=true;rw[ag c2,ag c2,Bc (by omega)];simp only[ay];rw[Dw (by grind)];rfl
  rw[aq c2,aq c2,ag (aX a),HY (c _ (bp aD aF))];simp only[ay];cases dm (x.af.getD i aF) (v.aw.getD i aI)with
  |true=>
   rw[cN,ag rfl,bP,b _ (by omega)]
  |false=>
   have d:=h i aD;rw[ag (aX a),d];simp only[ay];rw[ag (dQ (by simp) (by grind)),bP,b _ (by grind)];cases gZ tw y so _ _ with
   |inr p=>rfl
   |inl us=>simp[CA,iK]
theorem ad6(ar:so.length<=80000)(cZ:v.ae=5)(aa:x.af.length<=1000)(al:y.af.length<=1000)(ak:v.aw.length=x.af.length)
 (a:∀n,n∈x.af->cz n.bC)(b:∀n,n∈y.af->cz n.bC)
 (h:∀i,i<x.af.length->∀n,n∈y.af->py tw tr f so (x.af.getD i aF).aC n.aC (v.aw.getD i aI))
 (e:∀i,i<x.af.length->k1 tw (v.aw.getD i aI) (x.af.getD i aF).aC):
 zS ((⟨tw⟩:aY),x,v,(⟨tr⟩:aY),y,so)=some (iN (sT tw f x y v so)):=by
 have h0:=RB ar aa al ak a b h y.af.length 0 [] (by simp) (by simp);have c:p1 (so,0,tw,x,v,tr,y,0,false,0,[],0,false,v.ae,false,0,[],0,[])=_:=h0;rw[zS];simp only[ab.bN];rw[c,gk];unfold sT;cases hR f x v so _ with
 |inr p=>rfl
 |inl its=>
  have h1:=RC ar aa al ak a e (its:=its) x.af.length 0 [] (by simp) (by simp);have d:ow (so,0,tw,x,v,y,0,false,0,[],0,false,v.ae,false,0,[],0,its,[])=_:=h1;simp[ay,vV];rw[d,gk,gk];cases gZ tw y so _ v.aw with
  |inr p=>rfl
  |inl r=>grind[CA,k3,jF,iN,oE,ab.bN]
theorem afB(ar:so.length<=80000)(c7:v.ae=6)(aa:x.af.length<=1000)(al:y.af.length<=1000)(h1:v.aw.length=1){i:Nat}(a:ez x.af v.ah=some i)
 (h:∀n,n∈y.af->py tw tr f so (x.af.getD i aF).aC n.aC (v.aw.getD 0 aI))
 (d:k1 tw (v.aw.getD 0 aI) (x.af.getD i aF).aC):
 Aa ((⟨tw⟩:aY),x,v,(⟨tr⟩:aY),y,so)=some (iN (qW tw f x y v so)):=by
 obtain⟨c,_,_⟩:=hK a;have b:aG 0 v.aw.length:=by rw[h1];rfl
 rw[Aa,Bl aa,Bl al];unfold qW kK;simp only[a7,ay,ab.bN,a];cases bJ:ez y.af v.ah with
 |some k=>
  obtain⟨bj,_,_⟩:=hK bJ;rw[cN,cN,ag (aX c),ag b,ag (aX bj),bo,bo,show(0:Int).toNat=0 from rfl,Bc (by omega)];simp only[ay];rw[h _ (bp bj aF)];cases f _ _ _ _ with
  |inr p=>
   rfl
  |inl u=>
   simp_all[ay,iN,dX,jF,ab.bN,oE,aq]
 |none=>
  simp only[fY,fe];cases y.bt with
  |false=>
   rw[Dw (by omega)];rfl
  |true=>
   rw[ag trivial,ag (aX c),ag b,bo,show(0:Int).toNat=0 from rfl,d];simp_all[ay,cg,iN,oE,ab.bN]
def CC(tw tr:I aj)(n:Nat):Prop:=∀{v:ab},cz v->wt v<=2147483648->∀{t rt:Int} {so:az},dL tw true t v->gx tw n t v->0<=rt->rt<tr.length->so.length+n<=50000->
 ns ((⟨tw⟩:aY),t,v,(⟨tr⟩:aY),rt,so)=some (iN (ef tw tr n t v rt so))
theorem ad7(HW:dn tw)(HR:dn tr){n:Nat}(ih:CC tw tr n):CC tw tr (n+1):=by
 intro v aC aW t rt so K aA bc W ar;unfold gx at aA;obtain⟨⟨z1,ba,bb⟩,Y,Z,H⟩:=aA;have SW:=HW.V.ic HW.T;have cH:=HR.V.ic HR.T;have aY:=iA v;obtain⟨⟨g1,g2,g3,g4⟩,ad⟩:=(hp _ _ _).1 K;obtain⟨j,rfl⟩:∃j:Nat,t=(j:Int):=⟨t.toNat,by omega⟩;obtain⟨k,rfl⟩:∃k:Nat,rt=(k:Int):=⟨rt.toNat,by omega⟩
 have aj:j<tw.length:=by omega
 have am:k<tr.length:=by omega
 have P:=bp aj aM;have u:=bp am aM;have aU:=g4 rfl;cases aC with
 |mk _ hs h1 aR aT ax E aV dF aZ a6 a8=>
 rw[ns,ag (aX aj),uX];simp only[a7,ay,bo,ab.bN];rw[bo]at g3 ad Y Z H;rw[ag (aX am)];have au:=(HW.T _ P).iw;have av:=(HR.T _ u).iw;generalize aa:tw.getD j aM=x at*;generalize al:tr.getD k aM=y at*;have X:∀y,y∈v.aw->wt y<=2147483648:=λy al=>by have:=e9 al;omega
 have aP:∀y,y∈v.a'->wt y<=2147483648:=λy al=>by have:=e9 al;omega
 have L:∀{t rt:Int} {q:ab},q∈v.aw->dL tw true t q->gx tw n t q->0<=rt->rt<tr.length->py tw tr (ef tw tr n) so t rt q:=λ{t rt q} a K R a0 a1 step=>ih (E q a) (X q a) K R a0 a1 (by grind);have aJ:∀{t rt:Int} {q:ab},q∈v.a'->dL tw true t q->gx tw n t q->0<=rt->rt<tr.length->py tw tr (ef tw tr n) so t rt q:=λ{t rt q} a K R a0 a1 step=>ih (ax q a) (aP q a) K R a0 a1 (by grind);have F:=Dw (so:=so) (by omega);have D:(k9 so).bind (λr=>some (⟨r.b6,r.fy,r.cD⟩:ej))=some (iN (.inr so)):=by simp_all
 by_cases bS:x.ae=y.ae
 . rw[aq (show ¬(!(x.ae=y.ae:J))=true by simp[bS])];have N:v.a'=[]->v.aw=[]->mQ (ef tw tr n) x y v so= .inl v:=λaK I=>by
    unfold mQ;cases v;simp_all [eU,k3,jF]
   rcases ad with h|h|h|h|h|h|h|h|h
   case' inl=>
    obtain⟨a1,a2,a3,a4,a5,d,w⟩:=h;have b:x.ae=1:=(by omega);have ak:j4 x y v:=⟨λh=>by omega,λh=>by omega,λh=>by omega⟩;have C:=uS (tw:=tw) (tr:=tr) (f:=ef tw tr n) (so:=so) (by omega) (x:=x) (y:=y) (v:=v) (by omega) (by omega) (λq a=>by rw[a5]at a;cases a) (λq a=>by rw[d]at a;cases a);rw[mz bS (by omega) ak,<-N a5 d];simp only[b,Int.reduceEq,dz,di,eC,fe,cm,cw,cg]
   case' inr.inl=>
    obtain⟨a1,a2,a3,a4,a5,d,w,B,a9⟩:=h;have b:x.ae=2:=(by omega);by_cases ak:y.bA<=v.bF/\v.bF<=y.bI
    case' neg=>
     have g:(bif (v.bF<y.bA:J)then true else (y.bI<v.bF:J))=true:=by
      by_cases c:v.bF<y.bA<;>simp[c];omega
     rw[xH bS (by omega) (show ¬j4 x y v fromλh=>ak (h.1 b))];simp only[b,g,Int.reduceEq,dz,di,eC,fe,cm,cw,cg];exact D
    case' pos=>
     have g:(bif (v.bF<y.bA:J)then true else (y.bI<v.bF:J))=false:=by
      have c1:¬v.bF<y.bA:=(by omega);have c2:¬y.bI<v.bF:=(by omega);simp[c1,c2]
     have C:=uS (tw:=tw) (tr:=tr) (f:=ef tw tr n) (so:=so) (by omega) (x:=x) (y:=y) (v:=v) (by omega) (by omega) (λq a=>by rw[a5]at a;cases a) (λq a=>by rw[d]at a;cases a);rw[mz bS (by omega) (show j4 x y v from⟨λ_=>ak,λh=>by omega,λh=>by omega⟩),<-N a5 d];simp only[b,g,Int.reduceEq,dz,di,eC,fe,cm,cw,cg]
   case' inr.inr.inl=>
    obtain⟨a1,a2,a3,a4,a5,d,w,B⟩:=h;have b:x.ae=3:=(by omega);by_cases ak:(v.bW.length:Int)<=y.Max
    case' neg=>
     have g:(y.Max<(v.bW.length:Int):J):=ia (by omega);rw[xH bS (by omega) (show ¬j4 x y v fromλh=>ak (h.2.1 b))];simp only[b,g,Int.reduceEq,dz,di,eC,fe,cm,cw,cg];exact D
    case' pos=>
     have g:(y.Max<(v.bW.length:Int):J)=false:=vm (by omega);have C:=uS (tw:=tw) (tr:=tr) (f:=ef tw tr n) (so:=so) (by omega) (x:=x) (y:=y) (v:=v) (by omega) (by omega) (λq a=>by rw[a5]at a;cases a) (λq a=>by rw[d]at a;cases a);rw[mz bS (by omega) (show j4 x y v from⟨λh=>by omega,λ_=>ak,λh=>by omega⟩),<-N a5 d];simp only[b,g,Int.reduceEq,dz,di,eC,fe,cm,cw,cg]
   case' inr.inr.inr.inl=>
    obtain⟨a1,a2,a3,a4,a5,d,w,B⟩:=h;have b:x.ae=4:=(by omega);obtain⟨r,_,W,aN⟩:=rz (t:=y) v.ah (by have:=(HR.T _ u).1;have:=eS (e' reachBytes);omega);have G:r.2↔∃s,s∈y.bf/\s.ah=v.ah:=by
     rcases aN with⟨q,l,U,_,rfl⟩|⟨q,rfl⟩;exact⟨λ_=>⟨_,bp l ek,U⟩,λ_=>rfl⟩
     . constructor
       intro h;simp at h;intro a;obtain⟨s,s1,aO⟩:=a;obtain⟨i,E,rfl⟩:=hE s1;exact absurd aO (by have:=q i E;rwa [gA E]at this)
    by_cases ak:(∃s,s∈y.bf/\s.ah=v.ah)\/y.bt=true
    case' neg=>
     have g:(bif (!r.2)then(!y.bt)else false)=true:=by
      cases aB:r.2 with
      |true=>exact absurd (.inl (G.1 aB)) ak
      |false=>
       cases az:y.bt with
       |true=>exact absurd (.inr az) ak
       |false=>rfl
     rw[xH bS (by omega) (show ¬j4 x y v fromλh=>ak (h.2.2 b))];simp only[b,W,g,ay,Int.reduceEq,dz,di,eC,fe,cm,cw,cg];exact D
    case' pos=>
     have g:(bif (!r.2)then(!y.bt)else false)=false:=by
      rcases ak with ak|ak;rw[G.2 ak];rfl;rw[ak];cases r.2<;>rfl
     have C:=uS (tw:=tw) (tr:=tr) (f:=ef tw tr n) (so:=so) (by omega) (x:=x) (y:=y) (v:=v) (by omega) (by omega) (λq a=>by rw[a5]at a;cases a) (λq a=>by rw[d]at a;cases a);rw[mz bS (by omega) (show j4 x y v from⟨λh=>by omega,λh=>by omega,λ_=>ak⟩),<-N a5 d];simp only[b,W,g,ay,Int.reduceEq,dz,di,eC,fe,cm,cw,cg]
   case' inr.inr.inr.inr.inl=>
    obtain⟨a1,a2,a3,a4,a5,d,w,B⟩:=h;have b:x.ae=5:=(by omega);obtain⟨an,aD⟩:=SW.A _ P (.inl (by omega));obtain⟨aG,aH⟩:=cH.A _ u (.inl (by omega));obtain⟨f1,f2⟩:=jR.1 B
    have G:=ad6 (tw:=tw) (tr:=tr) (f:=ef tw tr n) (so:=so) (by omega) (x:=x) (y:=y) a1 (by omega) (by omega) f1 au av (λi M q a=>by
     have o:=bp (by omega:i<v.aw.length) aI;obtain⟨z,l⟩:=HR.iv.mem u a;exact L o (f2 i M) (Y b i M) z l) (λi M=>by
     have o:=bp (by omega:i<v.aw.length) aI
     exact KL SW (E _ o) (by have:=X _ o;omega) _ (q1 _ _ (f2 i M)))
    rw[H0 bS b];simp only[b,G,ay,Int.reduceEq,dz,di,eC,fe,cm,cw,cg]
    done
   case' inr.inr.inr.inr.inr.inl=>
    obtain⟨a1,a2,a3,a4,a5,d⟩:=h;have b:x.ae=6:=(by omega);obtain⟨an,aD⟩:=SW.A _ P (.inr (by omega));obtain⟨aG,aH⟩:=cH.A _ u (.inr (by omega));cases bJ:cx x.af v.ah with
    |none=>rw[bJ]at d;cases d.2.1
    |some m=>
     rw[bJ]at d;obtain⟨b1,b2,ap⟩:=d;have Q:=qk x.af v.ah;rw[bJ]at Q;cases O:ez x.af v.ah with
     |none=>rw[O]at Q;cases Q
     |some i=>
     obtain⟨d1,d2,_⟩:=hK O;obtain⟨d3,d4⟩:=jS bJ;have em:x.af.getD i aF=m:=qf an (bp d1 aF) d3 (by rw[d2,d4]);have o:=bp (by omega:0<v.aw.length) aI;have ai:=dv.1 ap _ o
     have G:=afB (tw:=tw) (tr:=tr) (f:=ef tw tr n) (so:=so) (by omega) (x:=x) (y:=y) a1 (by omega) (by omega) b2 O (λq a=>by
      obtain⟨z,l⟩:=HR.iv.mem u a;rw[em]
      exact L o ai (Z b _ bJ _ o) z l) (by rw[em];exact KL SW (E _ o) (by have:=X _ o;omega) _ (q1 _ _ ai))
     rw[H2 bS b];simp only[b,G,ay,Int.reduceEq,dz,di,eC,fe,cm,cw,cg]
    done
   case' inr.inr.inr.inr.inr.inr.inl=>
    obtain⟨a1,a2,a3,a4,a5,d,w,B,a9⟩:=h;have b:x.ae=7:=(by omega);obtain⟨z,l⟩:=HR.iv.elem u (by omega);rw[H3 bS b];unfold vu;by_cases ak:(v.aw.length:Int)<=y.Max
    case' neg=>
     have g:(y.Max<(v.aw.length:Int):J):=ia (by omega);rw[aq ak];simp only[b,g,Int.reduceEq,dz,di,eC,fe,cm,cw,cg];exact D
    case' pos=>
     have g:(y.Max<(v.aw.length:Int):J)=false:=vm (by omega);have C:=uS (tw:=tw) (tr:=tr) (f:=ef tw tr n) (so:=so) (by omega) (x:=x) (y:=y) (v:=v) (by omega) (by omega) (λq a=>by rw[d]at a;cases a) (λq a=>L a (dv.1 a9 q a) ((H (by omega)).1 q a) z l);have e:(if(v.aw.length:Int)<=y.Max then jF (λS=>(⟨7,false,0,[],0,[],S,[]⟩:ab)) (eU (ef tw tr n) so x.aE y.aE 0 v.aw)else .inr so)=mQ (ef tw tr n) x y v so:=by
      unfold mQ;rw[ag ak,a1,a2,a3,a4,a5,d,w];rfl
     rw[e];simp only[b,g,Int.reduceEq,dz,di,eC,fe,cm,cw,cg]
   case' inr.inr.inr.inr.inr.inr.inr.inl=>
    obtain⟨a1,a2,a3,a4,a5,d,w,B,a9,ao,aQ⟩:=h;have b:x.ae=8:=(by omega);obtain⟨z,l⟩:=HR.iv.elem u (by omega);obtain⟨U,aL⟩:=HR.iv.key u (by omega);rw[H4 bS b];unfold vv;by_cases ak:(v.aw.length:Int)<=y.Max
    case' neg=>
     have g:(y.Max<(v.aw.length:Int):J):=ia (by omega);rw[aq ak];simp only[b,g,Int.reduceEq,dz,di,eC,fe,cm,cw,cg];exact D
    case' pos=>
     have g:(y.Max<(v.aw.length:Int):J)=false:=vm (by omega);have C:=uS (tw:=tw) (tr:=tr) (f:=ef tw tr n) (so:=so) (by omega) (x:=x) (y:=y) (v:=v) (by omega) (by omega) (λq a=>aJ a (dv.1 a9 q a) ((H (by omega)).2 q a) U aL) (λq a=>L a (dv.1 ao q a) ((H (by omega)).1 q a) z l);have e:(if(v.aw.length:Int)<=y.Max then k3 (λks=>jF (λS=>(⟨8,false,0,[],0,ks,S,[]⟩:ab)) (eU (ef tw tr n) so x.aE y.aE 0 v.aw)) (eU (ef tw tr n) so x.aS y.aS 0 v.a')else .inr so)=mQ (ef tw tr n) x y v so:=by
      unfold mQ;rw[ag ak,a1,a2,a3,a4,a5,d]
     rw[e];simp only[b,g,Int.reduceEq,dz,di,eC,fe,cm,cw,cg]
   case' inr.inr.inr.inr.inr.inr.inr.inr=>
    obtain⟨a1,a2,a3,a4,a5,d,w,B,a9⟩:=h;have b:x.ae=9:=(by omega);obtain⟨z,l⟩:=HR.iv.elem u (by omega);have C:=uS (tw:=tw) (tr:=tr) (f:=ef tw tr n) (so:=so) (by omega) (x:=x) (y:=y) (v:=v) (by omega) (by omega) (λq a=>by rw[d]at a;cases a) (λq a=>L a (dv.1 a9 q a) ((H (by omega)).1 q a) z l);have e:vw (ef tw tr n) x y v so=mQ (ef tw tr n) x y v so:=by
     unfold mQ vw;rw[a1,a2,a3,a4,a5,d,w];rfl
    rw[H5 bS b,e];simp only[b,Int.reduceEq,dz,di,eC,fe,cm,cw,cg]
   all_goals
    rcases C with⟨p,aK,I⟩|⟨ks,I,⟨p,aK,dB⟩|⟨us,aK,dB⟩⟩;rw[aK,I];rfl;rw[aK,I];simp only[ay];rw[dB];rfl;rw[aK,I];simp only[ay];rw[dB];simp only[ay,iN,oE,ab.bN]
 rw[ag (show(!(x.ae=y.ae:J))=true by simp[bS]),TE bS,D]
theorem ad8:CC tw tr 0:=by
 intro v _ _ _ _ _ _ h;cases h
theorem RD(HW:dn tw)(HR:dn tr):∀n,CC tw tr n
 |0=>ad8
 |n+1=>ad7 HW HR (RD HW HR n)
end
def yH(x:gw):Prop:=pw x/\x.dp.length*3<=reachBytes
def k0(aP:I gw):Prop:=aP.length*32<=reachBytes/\∀x,x∈aP->yH x
def yE(c:lJ):Prop:=dS c.ae/\dS c.Node/\dS c.A/\dS c.B
theorem k0.set(h:k0 aP)(j:Nat){x:gw}(aa:yH x):k0 (aP.set j x):=by
 refine⟨by rw[iZ];exact h.1,λy al=>?_⟩;rcases Dt al with al|rfl;exact h.2 y al;grind
theorem nK(a:Int):dS (IntKind.wrap .u8 a):=by
 have:IntKind.wrap .u8 a=a%256:=by rfl
 grind[dS]
theorem H7{n:Nat}(h:n*3<=reachBytes):bR 3 n:=by
 grind[reachBytes,bR,h4,dT]
theorem alk{n:Nat}(h:n*32<=reachBytes):bR 32 n:=by
 grind[reachBytes,bR,h4,dT]
theorem ahD(O:L.length<=reachBytes)(D:∀c,c∈L->yE c){i:Nat}(H:i<L.length)(h:k0 aP)(aL:0<aP.length):
 ∃G,k0 G/\G.length=aP.length/\il (L,(i:Int),aP)=il (L,((i+1:Nat):Int),G):=by
 obtain⟨c1,c2,c3,c4⟩:=D _ (bp H oA);have V:=eS O;unfold dS at c1 c2 c3 c4;have U:aP.length<9223372036854775807:=by have:=h.1;grind[reachBytes]
 obtain⟨j,R,o⟩:∃j:Nat,cn (b7 .i64 (L.getD i oA).Node) (aP.length:Int)=(j:Int)/\j<aP.length:=by
  have e:cn (b7 .i64 (L.getD i oA).Node) (aP.length:Int)=(L.getD i oA).Node%(aP.length:Int):=by
   rw[lS ⟨by omega,by omega⟩,iI c2.1 (by simp)]
  have h0:=nU (L.getD i oA).Node (by omega:(aP.length:Int)≠0);have h1:=nR (L.getD i oA).Node (by omega:(0:Int)<aP.length);exact⟨((L.getD i oA).Node%(aP.length:Int)).toNat,by grind,by omega⟩
 obtain⟨⟨dF,s,k,m,fz,X⟩,K⟩:=h.2 _ (bp o fr);have u:∀z:Nat,z<(aP.getD j fr).dp.length->dS ((aP.getD j fr).dp.getD z jt).ah/\dS ((aP.getD j fr).dp.getD z jt).aC/\dS ((aP.getD j fr).dp.getD z jt).hV:=λz E=>fz _ (bp E _)
 rw[il,ag (by
  grind),ag (aX H),bo]
 simp only[a7,ay];rw[ag (show(!((aP.length:Int)=0:J))=true from by grind),R,ag (aX o),bo,ag (ia o),iY,ag (H7 K),ag (ia o)];simp only[di,cg,o];have aK:aQ .i64 (i:Int) 1=((i+1:Nat):Int):=bP;rw[aK];generalize ar:aP.getD j fr=p at*;generalize T:L.getD i oA=c at*;have g:∀{a b x:Int} {l:I mq},dS a->dS b->dS x->(∀q,q∈l->dS q.ah/\dS q.aC/\dS q.hV)->l.length<=p.dp.length+8/\(l.length<=p.dp.length\/l.length<=8)->yH ⟨p.ae,a,b,x,l⟩:=λ{a b x l} P Q D ak aL=>⟨⟨dF,P,Q,D,ak,by grind[reachBytes]⟩,by grind[reachBytes]⟩
 have gs:∀q:gw,(aP.set j q).getD j bK=q:=λq=>by rw[gA (by rw[iZ];grind)];simp
 have t:∀{a:Int},0<=a/\a<=255->dS a:=λh=>h;have W:(p.dp.length:Int)<9223372036854775807:=by unfold reachBytes at K;omega
 have n:∀{l:I mq},(∀q,q∈l->dS q.ah/\dS q.aC/\dS q.hV)->l.length<=p.dp.length+8/\(l.length<=p.dp.length\/l.length<=8)->yH ⟨p.ae,p.A,p.B,p.C,l⟩:=λ{l} h1 N=>g s k m h1 N;have self:p.dp.length<=p.dp.length+8/\(p.dp.length<=p.dp.length\/p.dp.length<=8):=by simp
 by_cases ak:0<p.dp.length
 . have v:(0:Int)<(p.dp.length:Int):=(by omega);obtain⟨z,E,f⟩:∃z:Nat,cn (b7 .i64 c.A) (p.dp.length:Int)=(z:Int)/\z<p.dp.length:=by
    have e:cn (b7 .i64 c.A) (p.dp.length:Int)=c.A%(p.dp.length:Int):=by
     rw[lS ⟨by omega,by omega⟩,iI c3.1 (by simp)]
    have h0:=nU c.A (by omega:(p.dp.length:Int)≠0);have h1:=nR c.A v;exact⟨(c.A%(p.dp.length:Int)).toNat,by omega,by omega⟩
   simp only[v,E,di,cg,gs,List.set_set];rw[ag (show(!((p.dp.length:Int)=0:J))=true from by grind)];by_cases r:cn c.ae 8=0;simp only[r,di,cg];exact⟨_,h.set j (g (nK _) k m fz self),iZ,rfl⟩;by_cases bj:cn c.ae 8=1;simp only[bj,di,dz,Int.reduceEq,cm,cg,cw];exact⟨_,h.set j (g s (nK _) m fz self),iZ,rfl⟩;by_cases bq:cn c.ae 8=2
   . have F:0<=cn c.A 6:=by rw[iI c3.1 (by simp)];omega
     simp only[bq,F,di,dz,Int.reduceEq,cm,cg,cw];exact⟨_,h.set j (g (nK _) k m fz self),iZ,rfl⟩
   by_cases b4:cn c.ae 8=3;simp only[b4,di,dz,Int.reduceEq,cm,cg,cw];exact⟨_,h.set j (g s k (nK _) fz self),iZ,rfl⟩;by_cases cv:cn c.ae 8=4
   . by_cases eA:(p.dp.length:Int)<8
     . simp only[cv,eA,di,dz,Int.reduceEq,cm,cg,cw];rw[ag (H7 (by rw[ea];unfold reachBytes;simp;omega))];refine⟨_,h.set j (n (λq d=>?_) (by rw[ea];simp;omega)),iZ,rfl⟩;rcases gj.1 d with d|d
       exact fz q d;rw[nQ.1 d];exact⟨t c3,t c4,nK _⟩
     simp only[cv,eA,di,dz,Int.reduceEq,cm,cg,cw];exact⟨_,h.set j (n fz self),iZ,rfl⟩
   by_cases cZ:cn c.ae 8=5
   . simp only[cZ,di,dz,Int.reduceEq,cm,cg,cw];have M:aQ .i64 (z:Int) 1=((z+1:Nat):Int):=bP;rw[M,ag (jj.2 (by omega)),ag (jj.2 (by omega)),bo,bo,bo,c'];refine⟨_,h.set j (n (λq d=>?_) (by rw[ea,vk,vk,mL];omega)),iZ,rfl⟩;rcases gj.1 d with d|d
     exact fz q (zF d);exact fz q (HB (zF d))
   have jH:∀{w:mq},dS w.ah/\dS w.aC/\dS w.hV->yH ⟨p.ae,p.A,p.B,p.C,p.dp.set z w⟩:=λ{w} S=>n (λq d=>by
    rcases Dt d with d|rfl;exact fz q d
    . exact S) (by rw[iZ];exact self)
   by_cases c7:cn c.ae 8=6;simp only[c7,di,dz,Int.reduceEq,cm,cg,cw];rw[ag (aX f),bo,ag (ia f)];exact⟨_,h.set j (jH (w:=⟨(p.dp.getD z jt).ah,(p.dp.getD z jt).aC,c.B⟩) ⟨(u z f).1,(u z f).2.1,t c4⟩),iZ,rfl⟩;simp only[r,bj,bq,b4,cv,cZ,c7,dz,cm,cw];rw[ag (aX f),bo,ag (ia f),ag (aX f),ag (ia f)];exact⟨_,h.set j (jH (w:=⟨(p.dp.getD z jt).ah,aQ .u8 (p.dp.getD z jt).aC c.B,(p.dp.getD z jt).hV⟩) ⟨(u z f).1,nK _,(u z f).2.2⟩),iZ,rfl⟩
 . have v:¬(0:Int)<(p.dp.length:Int):=(by omega);simp only[v,dz,cm,cw,gs,List.set_set];by_cases r:cn c.ae 8=0
   simp only[r,di,cg];exact⟨_,h.set j (g (nK _) k m fz self),iZ,rfl⟩;by_cases bj:cn c.ae 8=1;simp only[bj,di,dz,Int.reduceEq,cm,cg,cw];exact⟨_,h.set j (g s (nK _) m fz self),iZ,rfl⟩;by_cases bq:cn c.ae 8=2
   . have F:0<=cn c.A 6:=by rw[iI c3.1];omega
     simp only[bq,F,di,dz,Int.reduceEq,cm,cg,cw];exact⟨_,h.set j (g (nK _) k m fz self),iZ,rfl⟩
   by_cases b4:cn c.ae 8=3;simp only[b4,di,dz,Int.reduceEq,cm,cg,cw];exact⟨_,h.set j (g s k (nK _) fz self),iZ,rfl⟩;by_cases cv:cn c.ae 8=4
   . have eA:(p.dp.length:Int)<8:=(by omega);simp only[cv,eA,di,dz,Int.reduceEq,cm,cg,cw];rw[ag (H7 (by rw[ea];unfold reachBytes;simp;omega))];refine⟨_,h.set j (n (λq d=>?_) (by rw[ea];simp;omega)),iZ,rfl⟩;rcases gj.1 d with d|d
     exact fz q d;rw[nQ.1 d];exact⟨t c3,t c4,nK _⟩
   have y:=h.set j (n fz self);by_cases cZ:cn c.ae 8=5;simp only[cZ,di,dz,Int.reduceEq,cm,cg,cw];exact⟨_,y,iZ,rfl⟩;by_cases c7:cn c.ae 8=6;simp only[c7,di,dz,Int.reduceEq,cm,cg,cw];exact⟨_,y,iZ,rfl⟩;simp only[r,bj,bq,b4,cv,cZ,c7,dz,cm,cw];exact⟨_,y,iZ,rfl⟩
theorem TH{L:I lJ}(b:L.length<=reachBytes)(d:∀c,c∈L->yE c):∀(k i:Nat) {aP:I gw},i+k=L.length->k0 aP->∃a,k0 a/\a.length=aP.length/\il (L,(i:Int),aP)=some a
 |0,i,aP,g,h=>⟨aP,h,rfl,by
  simp_all[il]⟩
 |k+1,i,aP,g,h=>by
  by_cases aL:0<aP.length;obtain⟨a,h1,f,e⟩:=ahD b d (by omega:i<L.length) h aL;rw[e,<-f];exact TH b d k _ (by omega) h1;simp_all[il,aq]
theorem k0.Ui{d:eN}(h:k0 d.eR):vM d:=⟨by have:=h.1;grind,λx aa=>(h.2 x aa).1⟩
theorem adu{d:eN}(h:k0 d.eR)(g:L.length<=reachBytes)(i:∀c,c∈L->yE c):∃a,k0 a.eR/\a.eR.length=d.eR.length/\DO (d,L)=some a:=by
 obtain⟨j,h1,f,b⟩:=TH g i L.length 0 (by simp) h;have e:il (L,0,d.eR)=some _:=b;refine⟨⟨j⟩,h1,f,?_⟩;rw[DO,iY,ag (alk h.1),e];rfl
theorem ahE(h:WF cP ⟨.slice (.nm Ei),aP⟩):k0 aP:=by
 obtain⟨a,b,c⟩:=AU h;have D:=Sl h;refine⟨b,λx aa=>⟨D.2 x aa,?_⟩⟩;exact(AU (c x aa _ (.tail _ (.tail _ (.tail _ (.tail _ (.head _))))))).2.1
theorem alP{n:Int}(h:WF cP ⟨.int .u8,n⟩):dS n:=by
 cases h with
 |int k n h=>
  grind[Lit.wf,IntKind.min,IntKind.max,IntKind.bits,IntKind.signed,dS]
structure al2 (c:wO):Prop where
 d:Xu c.D
 n:k0 c.D.S.eR
 l:c.L.length<=reachBytes
 c:∀x,x∈c.L->yE x
structure Cw (tw tr:List aj)(t:Int)(v:ab):Prop where
 W:dn tw
 R:dn tr
 t0:0<=t
 t1:t<tw.length
 t2:t<tr.length
 f:dL tw true t v
 o:cz v
 w:wt v<=3000
theorem Cw.z{tw tr:I aj}{t:Int}{v:ab}(C:Cw tw tr t v):gx tw 3000 t v:=pe C.W _ C.o C.f (.inr C.w) (.inr C.w)
theorem Cw.u{tw tr:I aj}{t:Int}{v:ab}(C:Cw tw tr t v):wt v<=2147483648:=hF C.w (by simp)
section
variable {tw tr:I aj}{t rt:Int}{v:ab}
theorem afC(HW:dn tw)(HR:dn tr)(e:cz v)(c:dL tw true t v)(i:0<=rt)(j:rt<tr.length):D6 ((⟨tw⟩:aY),t,v,(⟨tr⟩:aY),rt)=some 0:=by
 obtain⟨⟨g1,g2,_⟩,_⟩:=(hp _ _ _).1 c;have ex:∀{ts:I aj} {t:Int},dn ts->0<=t->t<ts.length->AX ((⟨ts⟩:aY),t)=some 0:=λ{ts t} H a b=>by
  rw[AX,(qc H.T H.V).1];simp only[a7,ay];have c1:¬t<0:=by omega
  have c2:¬(ts.length:Int)<=t:=by omega
  rw[cN,aq (by simp[c1,c2])]
 obtain⟨r,f,g⟩:=FQ (HW.V.ic HW.T) e t true;have d:=g.2 c;subst d;rw[D6];simp only[ab.bN];rw[ex HW g1 g2];simp only[a7,ay];rw[cN,ex HR i j];simp only[ay];rw[cN,p9];simp only[ab.bN];rw[f];rfl
theorem afD(HW:dn tw)(HR:dn tr)(f:cz v)(d:dL tw true t v)(j:0<=rt)(k:rt<tr.length):Eo ((⟨tw⟩:aY),t,v,(⟨tr⟩:aY),rt)=some 0:=by
 obtain⟨⟨g1,g2,_⟩,_⟩:=(hp _ _ _).1 d;have ex:∀{ts:I aj} {t:Int},dn ts->0<=t->t<ts.length->rN ((⟨ts⟩:aY),t)=some 0:=λ{ts t} H a b=>by
  rw[rN,(qc H.T H.V).2];simp only[a7,ay];have c1:¬t<0:=by omega
  have c2:¬(ts.length:Int)<=t:=by omega
  rw[cN,aq (by simp[c1,c2])]
 have c:=HW.V.ic HW.T;obtain⟨q,g,i⟩:=FP (by have:=c.n;omega) HW.T c.K f t true;have e:=i.2 d;subst e;rw[Eo];simp only[ab.bN];rw[ex HW g1 g2];simp only[a7,ay];rw[cN,ex HR j k];simp only[ay];rw[cN,qB];simp only[ab.bN];rw[g];rfl
def yI:ab ⊕ az->ab×Int
 |.inl u=>(u,0)
 |.inr _=>(⟨0,false,0,[],0,[],[],[]⟩,12)
noncomputable def l5 (tw tr:I aj)(t:Int)(v:ab)(rt:Int):ab ⊕ az:=ef tw tr 3000 t v rt []
theorem No(HW:dn tw)(HR:dn tr)(b:cz v)(a:dL tw true t v)(e:gx tw 3000 t v)(c:0<=rt)(d:rt<tr.length):wP ((⟨tw⟩:aY),t,v,(⟨tr⟩:aY),rt)=some (yI (l5 tw tr t v rt)):=by
 have h:=Rz HW HR 3000 b [] a e c d (so:=[]) (by simp);rw[wP];simp only[ab.bN];rw[afC HW HR b a c d];simp only[a7,ay];rw[cN,h];unfold l5;cases ef tw tr 3000 t v rt []<;>rfl
theorem Np(HW:dn tw)(HR:dn tr)(b:cz v)(e:wt v<=2147483648)(a:dL tw true t v)(f:gx tw 3000 t v)(c:0<=rt)(d:rt<tr.length):Aq ((⟨tw⟩:aY),t,v,(⟨tr⟩:aY),rt)=some (yI (l5 tw tr t v rt)):=by
 have h:=RD HW HR 3000 b e a f c d (so:=[]) (by simp);rw[Aq];simp only[ab.bN];rw[afD HW HR b a c d];simp only[a7,ay];rw[cN,h];unfold l5;cases ef tw tr 3000 t v rt []<;>rfl
theorem agz(HW:dn tw)(HR:dn tr)(b:cz v)(a:dL tw true t v)(c:gx tw 3000 t v)(d:0<=rt)(e:rt<tr.length){u:ab}(h:l5 tw tr t v rt= .inl u):F4 tr rt u:=Kf HW HR 3000 b a c d e h
theorem ala(HW:dn tw)(HR:dn tr)(b:cz v)(a:dL tw true t v)(c:gx tw 3000 t v)(d:0<=rt)(e:rt<tr.length):cz (yI (l5 tw tr t v rt)).1:=by
 cases h:l5 tw tr t v rt with
 |inl u=>exact(agz HW HR b a c d e h).1
 |inr p=>exact ags
end
def lA(n:az):Prop:=∀i:Nat,0<=n.getD i 0/\n.getD i 0<=2
def GD(n cS:az):Prop:=n.length=cS.length/\∀i:Nat,n.getD i 0<=cS.getD i 0
def ga(n:az)(t:Int):Int:=n.getD t.toNat 0
def nX(n:az):I aT->Int->Int
 |[],c=>c
 |m::r,c=>nX n r (ed 2 (c*ga n m.aC))
def kT(n:az):I aT->Int->Int
 |[],c=>c
 |m::r,c=>kT n r (c+ga n m.aC)
def gW(x:aj)(n:az):Int:=
 if x.ae=2 then(if x.bA=x.bI then 1 else 2)else if x.ae=3 then(if x.Max=0 then 1 else 2)else if x.ae=4 then x.bf.length else if x.ae=5 then nX n x.af 1 else if x.ae=6 then kT n x.af 0 else if x.ae=7 then(if x.Max=0\/ga n x.aE=0 then 1 else 2)else if x.ae=8 then(if x.Max=0\/ga n x.aE=0\/ga n x.aS=0 then 1 else 2)else if x.ae=9 then 1+ga n x.aE else 2
theorem min2(c:Int):ed 2 c<=2/\ed 2 c<=c/\(ed 2 c=2\/ed 2 c=c):=by grind[ed]
theorem kf{n:az}{i:Nat}{c:Int}:(n.set i c).getD j 0=if i=j/\i<n.length then c else n.getD j 0:=by
 grind
section
variable {n cS:az}(h0:lA n)(h1:GD n cS)
include h0
theorem j'(t:Int):0<=ga n t/\ga n t<=2:=h0 _
theorem HS:∀(l:I aT) (c:Int),0<=c/\c<=2->0<=nX n l c/\nX n l c<=2
 |[],c,h=>h
 |m::r,c,h=>HS r _ (by
  obtain⟨a,b⟩:=j' h0 m.aC;have:=xO h.1 a
  grind[ed])
theorem BY:∀(l:I aT) (c:Int),c<=kT n l c/\kT n l c<=c+2*l.length
 |[],c=>⟨Int.le_refl _,by simp[kT]⟩
 |m::r,c=>by
  obtain⟨a,b⟩:=j' h0 m.aC;obtain⟨e,f⟩:=BY r (c+ga n m.aC);grind[kT]
include h1
theorem CF(t:Int):ga n t<=ga cS t:=h1.2 _
theorem Wq:∀(l:I aT) (c a:Int),0<=c->c<=a->nX n l c<=nX cS l a
 |[],c,a,_,h=>h
 |m::r,c,a,b,h=>Wq r _ _ (by
  have:=xO b (j' h0 m.aC).1;grind[ed]) (by
  have e:c*ga n _<=a*ga cS m.aC:=Dp h (CF h0 h1 _) (j' h0 _).1 (by omega)
  grind[ed])
theorem WI:∀(l:I aT) (c a:Int),c<=a->kT n l c<=kT cS l a
 |[],c,a,h=>h
 |m::r,c,a,h=>WI r _ _ (by have:=CF h0 h1 m.aC;omega)
theorem ah8(x:aj):gW x n<=gW x cS:=by
 have e:=CF h0 h1 x.aE;have k:=CF h0 h1 x.aS;have dw:=(j' h0 x.aE).1;have a:=(j' h0 x.aS).1;have p:=Wq h0 h1 x.af 1 1 (by simp) (Int.le_refl _);have s:=WI h0 h1 x.af 0 0 (Int.le_refl _);grind[gW]
end
theorem TI{n:az}:∀(l:I aT) (c:Int),1<=c->(∀m,m∈l->1<=ga n m.aC)->1<=nX n l c
 |[],c,h,_=>h
 |m::r,c,h,a=>TI r _ (by
  have e:=Dp h (a m (by simp)) (by simp) (by omega)
  grind[ed]) λx aa=>a x (by grind)
section
variable {ts:I aj}(H:dn ts){n:az}(aL:n.length=ts.length)(h0:lA n)
include H aL
theorem tj{u:Int}(h:0<=u/\u<ts.length):aG u n.length/\(u.toNat<n.length:J):=by
 grind[aG]
include h0
theorem TJ{l:I aT}(ak:l.length<=1000)(e:∀m,m∈l->0<=m.aC/\m.aC<ts.length):∀(k i:Nat) (c:Int),i+k=l.length->0<=c/\c<=2->uc (c,l,(l.length:Int),(i:Int),n)=some (nX n (l.drop i) c,n)
 |0,i,c,g,d=>by
  rw[uc,aq (by grind),o9 (by omega)];rfl
 |k+1,i,c,g,d=>by
  have aD:i<l.length:=by omega
  obtain⟨a,b⟩:=tj H aL (e _ (bp aD aF));obtain⟨aK,f⟩:=j' h0 (l.getD i aF).aC;rw[uc,ag (by grind),ag (aX aD)];simp only[a7,ay,fH];rw[ag a,ag b];have j:gi .i64 c (n.getD (l.getD i aF).aC.toNat 0)=c*ga n (l.getD i aF).aC:=by
   have:=xO d.1 aK;have:=Dp d.2 f aK (by simp);show IntKind.wrap .i64 (c*ga n (l.getD i aF).aC)=_;grind[IntKind.wrap_i64]
  rw[j,bP,TJ ak e k (i+1) _ (by omega) (by
   have:=xO d.1 aK
   grind[ed])]
  rw[mK aD];have:l.getD i aF=l[i]:=by grind
  rw[this];rfl
theorem TK{l:I aT}(ak:l.length<=1000)(d:∀m,m∈l->0<=m.aC/\m.aC<ts.length):∀(k i:Nat) (c:Int),i+k=l.length->0<=c/\c<=2*i->ud (c,l,(l.length:Int),(i:Int),n)=some (kT n (l.drop i) c,n)
 |0,i,c,g,f=>by
  rw[ud,aq (by grind),o9 (by omega)];rfl
 |k+1,i,c,g,f=>by
  have aD:i<l.length:=by omega
  obtain⟨a,b⟩:=tj H aL (d _ (bp aD _));obtain⟨aK,e⟩:=j' h0 (l.getD i aF).aC;unfold ga at aK e;rw[ud,ag (by grind),ag (aX aD)];simp only[a7,ay,fH];rw[ag a,ag b,k4,bP,TK ak d k _ _ (by omega) (by omega)];rw[mK aD];have:l.getD i aF=l[i]:=by grind
  rw[this];rfl
theorem agA(aa:x∈ts):D3 (x,n)=some (gW x n,n):=by
 have d:=H.V.U x aa;have c:∀m,m∈x.af->0<=m.aC/\m.aC<ts.length:=by
  obtain⟨i,g,rfl⟩:=xV.1 aa;intro m c;have:=H.R i g m (by grind);grind
 have ak:=(H.cr x aa).2.2;rw[D3];unfold gW;by_cases bq:x.ae=2;grind;rw[aq (by simpa using bq),aq bq];by_cases b4:x.ae=3;grind;rw[aq (by simpa using b4),aq b4];by_cases cv:x.ae=4;grind;rw[aq (by simpa using cv),aq cv];by_cases cZ:x.ae=5;rw[ag (by simpa using cZ),ag cZ];have:=TJ H aL h0 (by omega) c x.af.length 0 1 (by omega) (by omega);grind;rw[aq (by grind),aq cZ];by_cases c7:x.ae=6;rw[ag (by simpa using c7),ag c7];have:=TK H aL h0 (by omega) c x.af.length 0 0 (by omega) (by simp);grind;rw[aq (by simpa using c7),aq c7];have he:7<=x.ae->aG x.aE n.length/\(x.aE.toNat<n.length:J):=λh=>tj H aL (d _ (by grind[fB]));by_cases fc:x.ae=7;obtain⟨a,b⟩:=he (by omega);rw[ag (by simpa using fc),ag fc];grind[ga,eI];rw[aq (by grind),aq fc];by_cases eA:x.ae=8;obtain⟨a,b⟩:=he (by omega);obtain⟨cj,e⟩:=tj H aL (d x.aS (by grind[fB]));simp only[a7,ay,a,b,cj,e,pc,cg];grind[ga,eI];rw[aq (by simpa using eA),aq eA];by_cases fv:x.ae=9;obtain⟨a,b⟩:=he (by omega);obtain⟨aK,f⟩:=j' h0 x.aE;unfold ga at aK f;rw[ag (by simpa using fv),ag fv,ag a,ag b,k4];rfl;rw[aq (by simpa using fv),aq fv]
end
structure s9 (ts:List aj)(n:az):Prop where
 l:n.length=ts.length
 ok:lA n
 le:∀i:Nat,i<ts.length->n.getD i 0<=gW (ts.getD i aM) n
section
variable {ts:I aj}(H:dn ts)
include H
theorem KR(aa:x∈ts):1<=x.ae/\x.ae<=9:=by
 rcases H.V.F x aa with h|h|h|h|h|h|h|h|h<;>omega
theorem RV{n:az}(h0:lA n){i:Nat}(e:i<ts.length)(ad:∀j:Nat,j<ts.length->7<=(ts.getD j aM).ae->1<=n.getD j 0)(ar:∀j:Nat,j<i->1<=n.getD j 0):1<=gW (ts.getD i aM) n:=by
 have aa:=bp e aM;have d:∀m,m∈(ts.getD i _).af->1<=ga n _:=λm d=>by
  obtain⟨a,b,c⟩:=H.R i e m d;rcases c with c|c;exact ad _ (by omega) c;exact ar _ (by omega)
 have he:=(j' h0 (ts.getD i aM).aE).1;have p:=TI _ 1 (by simp) d;have o:(ts.getD i aM).ae=6->1<=kT n (ts.getD i aM).af 0:=λk=>by
  have ak:0<(ts.getD i aM).af.length:=by
   rcases H.V.F _ aa with h|h|h|h|h|h|h|h|h<;>try omega
   exact h.2.2.2.2.2.2.1.2.1.resolve_left (by simp)
  obtain⟨m,r,g⟩:∃m r,(ts.getD i aM).af=m::r:=by
   cases f:(ts.getD i _).af<;>grind
  have:=(BY h0 r (0+ga n m.aC)).1;grind[kT]
 have l:(ts.getD i aM).ae=4->1<=((ts.getD i _).bf.length:Int):=λk=>by
  rcases H.V.F _ aa with h|h|h|h|h|h|h|h|h<;>try omega
  exact Int.ofNat_lt.2 h.2.2.2.2.2.1.1
 grind[gW]
theorem TL{n:az}(h0:lA n)(x:aj):0<=gW x n/\(x.af.length<=12->x.bf.length<=16->gW x n<=40):=by
 have p:=HS h0 x.af 1 (by simp);have s:=BY h0 x.af 0;have e:=j' h0 x.aE;grind[gW]
theorem s9.set{n:az}(C:s9 ts n){i:Nat}(a:i<ts.length):s9 ts (n.set i (ed 2 (gW (ts.getD i aM) n)))/\GD n (n.set i (ed 2 (gW (ts.getD i aM) n))):=by
 have f:=C.le i a;have ak:=C.l;have m:=min2 (gW (ts.getD i aM) n);generalize ed 2 _=c at*;have ok:lA (n.set i c):=λj=>by
  have:=C.ok j;grind
 have le:GD n (n.set i c):=⟨by simp,λj=>by
  rw[kf];split;rename_i h;rw[<-h.1];have:=C.ok i;omega
  simp⟩
 refine⟨⟨by grind,ok,λj e=>?_⟩,le⟩;have:=ah8 C.ok le (ts.getD j aM);rw[kf];split;grind;have:=C.le j e;omega
def lu:az->Int
 |[]=>0
 |a::r=>a+lu r
omit H in
theorem agB{n:az}:∀{i:Nat} {c:Int},i<n.length->lu (n.set i c)=lu n-n.getD i 0+c:=by
 induction n with
 |nil=>simp
 |cons a r ih=>
  intro i c h;cases i with
  |zero=>grind[lu]
  |succ i=>grind[lu]
omit H in
theorem RW{n:az}(h:∀i:Nat,0<=n.getD i 0/\n.getD i 0<=2):0<=lu n/\lu n<=2*n.length:=by
 induction n with
 |nil=>simp[lu]
 |cons a r ih=>
  have:=ih λi=>by simpa using h (i+1)
  have:=h 0;grind[lu]
theorem Jb:∀(k i:Nat) (lF:J) {n:az},i+k=ts.length->s9 ts n->(∀j,j<i->7<=(ts.getD j aM).ae->1<=n.getD j 0)->(lF=false->∀j,j<i->n.getD j 0=ed 2 (gW (ts.getD j aM) n))->
 ∃cS a,qu (lF,ts,(ts.length:Int),(i:Int),ts,n)=some (a,ts,cS)/\s9 ts cS/\(∀j,j<ts.length->7<=(ts.getD j aM).ae->1<=cS.getD j 0)/\(a=false->∀j,j<ts.length->cS.getD j 0=ed 2 (gW (ts.getD j aM) cS))/\(lF=true->a=true)/\(a=true->lF=true\/lu n+1<=lu cS)/\lu n<=lu cS
 |0,i,lF,n,g,C,ad,e=>⟨n,lF,by simp_all[qu,aq],C,λj b=>ad j (by omega),λh j b=>e h j (by omega),λh=>h,.inl,Int.le_refl _⟩
 |k+1,i,lF,n,g,C,ad,e=>by
  have aD:i<ts.length:=by omega
  have s:=C.l;have bu:=H.fz;have aa:=bp aD aM;have o:=C.le i aD;have p:=C.ok i;obtain⟨f,L'⟩:=C.set H aD;have t:7<=(ts.getD i aM).ae->1<=gW (ts.getD i aM) n:=λd=>by
   have he:=(j' C.ok (ts.getD i aM).aE).1;grind[gW]
  have m:=min2 (gW (ts.getD i aM) n);rw[qu,ag (by grind),ag (aX aD)];simp only[fH];rw[agA H C.l C.ok aa];simp only[a7,ay];rw[ag (by rfl),ag (fP),ag (by grind)];by_cases he:ed 2 (gW (ts.getD i aM) n)=n.getD i 0
  . rw[aq (by grind),bP];refine Jb k (i+1) lF (by omega) C (λj b d=>?_) λh j b=>?_
    all_goals grind
  . rw[ag (fP),bP];have hs:=agB (n:=n) (i:=i) (c:=ed 2 (gW (ts.getD i aM) n)) (by omega)
    obtain⟨cS,a,aK,q,dB,r,iW,jU,tx⟩:=Jb k (i+1) true (by omega) f (λj b d=>by
     grind) (λh=>by grind)
    grind
theorem Ot:∀(f:Nat) {n:az},s9 ts n->(2*ts.length:Int)-lu n<f->∃cS,tU (true,ts,n)=some cS/\cS.length=ts.length/\∀i:Nat,i<ts.length->1<=cS.getD i 0
 |0,n,C,g=>by
  have:=(RW C.ok).2;have:=C.l;omega
 |f+1,n,C,g=>by
  obtain⟨cS,d,aK,b,dB,e,iW,jU,tx⟩:=Jb H ts.length 0 false (by simp) C (λj a=>absurd a (xL _)) (λ_ j a=>absurd a (xL _));have aK:qu (false,ts,ts.length,0,ts,n)=_:=aK;rw[tU,aK];simp only[a7,ay];cases d with
  |true=>
   have:=(jU rfl).resolve_left (by simp);exact Ot f b (by omega)
  |false=>
   refine⟨cS,by simp_all[tU,aq],b.l,λi=>?_⟩;induction i using Nat.strongRecOn with
   |_ i ih=>
   intro c;have:=RV H b.ok c dB (λj a=>ih j a (by omega));rw[e rfl i c];have:=min2 (gW (ts.getD i aM) cS);omega
omit H in
theorem Pw{n:az}(ak:n.length<=5)(h:∀i:Nat,i<n.length->1<=n.getD i 0):∀(k i:Nat),i+k=n.length->tV (n,(n.length:Int),(i:Int),List.replicate i true)=some (List.replicate n.length true)
 |0,i,a=>by simp_all[tV]
 |k+1,i,a=>by
  have e:List.replicate i true++[(0<n.getD i 0:J)]=List.replicate (i+1) true:=by
   grind[List.replicate_succ']
  rw[tV,ag (by grind),ag (fP)];simp only[a7,ay,fH];rw[e,ag (dQ (by simp) (by grind)),bP];exact Pw ak h k _ (by omega)
omit H in
theorem RE{m:Nat}(b:m<=5):∀(k i:Nat),i+k=m->ue (List.replicate m true,(m:Int),(i:Int))=some (.inr ())
 |0,i,a=>by grind[ue]
 |k+1,i,a=>by
  rw[ue,ag (by grind),ag (aX (by grind)),aq (by grind),bP];exact RE b k _ (by omega)
theorem aiv(t:aj)(ht:t∈ts){m:aT}(a:m∈t.af)(b:m.bO):p9 ((⟨ts⟩:aY),m.aC,ab.eta m.bC)=some true:=by
 have c:=(H.T t ht).iw m a;have e:=H.D t ht m a b;obtain⟨q,h1,d⟩:=FQ (H.V.ic H.T) c m.aC true;grind[p9,ab.bN]
theorem JP{i:Nat}{t:aj}(ht:t∈ts):∀(k j:Nat),j+k=t.af.length->rC ((i:Int),ts,(ts.length:Int),(i:Int),t.af,(t.af.length:Int),(j:Int),ts)=some (.inr (ts,(ts.length:Int),(i:Int),ts))
 |0,j,b=>by simp_all[rC]
 |k+1,j,b=>by
  have aD:j<t.af.length:=by omega
  have ak:=(H.cr t ht).2.2;rw[rC,ag (by grind),ag (aX aD)];simp only[a7,ay,fH];cases a:(t.af.getD j _).bO with
  |false=>
   rw[bP];exact JP ht k _ (by omega)
  |true=>
   rw[aiv H t ht (bp aD _) a];rw[bP];exact JP ht k (j+1) (by omega)
theorem Nq:∀(k i:Nat),i+k=ts.length->uH (ts,(ts.length:Int),(i:Int),ts)=some (.inr ())
 |0,i,a=>by simp_all[uH]
 |k+1,i,a=>by
  have aD:i<ts.length:=by omega
  have bu:=H.fz;have e:rC (i,ts,ts.length,i,(ts.getD i _).af,(ts.getD i _).af.length,0,ts)=_:=JP H (bp aD aM) (ts.getD i aM).af.length 0 (by simp);rw[uH,ag (by grind),ag (aX aD)];simp only[a7,ay,fH];rw[e];simp;rw[bP];exact Nq k _ (by omega)
theorem RX:s9 ts (List.replicate ts.length 0):=by
 have a:∀i,(List.replicate ts.length (0:Int)).getD i 0=0:=λi=>by
  grind
 refine⟨by simp,λi=>by grind,λi b=>?_⟩;rw[a];exact(TL H (λi=>by grind) _).1
theorem afE:D4 (⟨ts⟩:aY)=some 0:=by
 have bu:=H.fz;have c:D2 (⟨ts⟩:aY)=some 0:=by
  have e:=Nq H ts.length 0 (by simp);rw[D2,(qc H.T H.V).1];simp only[a7];rw[JA,(qc H.T H.V).1];grind
 obtain⟨n,c1,c2,c3⟩:=Ot H (2*ts.length+1) (RX H) (by
  have:=(RW (RX H).ok).1;omega)
 have a:Ez (⟨ts⟩:aY)=some n:=by
  rw[Ez];simp only[a7,ay,fH];rw[ag (Lu.2 ⟨by simp,by grind[h4],by grind[dT]⟩),c1];rfl
 have f1:=Pw (n:=n) (by omega) (λi b=>c3 i (by omega)) n.length 0 (by simp);have f2:=RE (m:=n.length) (by omega) n.length 0 (by simp);simp_all[D4,JB,a7,ay,aq,List.length_replicate]
theorem RY{n:az}(aL:n.length=ts.length)(h0:lA n)(aa:x∈ts)(e:∀m,m∈x.af->0<=m.aC/\m.aC<ts.length):∀(k i:Nat) (c:Int),i+k=x.af.length->0<=c/\c<=2->sj (c,(i:Int),n,x)=some (nX n (x.af.drop i) c,n)
 |0,i,c,g,d=>by
  rw[sj,aq (by grind),o9 (by omega)];rfl
 |k+1,i,c,g,d=>by
  have aD:i<x.af.length:=by omega
  have ak:=(H.cr x aa).2.2;obtain⟨a,b⟩:=tj H aL (e _ (bp aD aF));obtain⟨aK,f⟩:=j' h0 (x.af.getD i aF).aC;rw[sj,ag (by grind),ag (aX aD)];simp only[a7,ay,fH];rw[ag a,ag b];have j:gi .i64 c (n.getD (x.af.getD i aF).aC.toNat 0)=c*ga n (x.af.getD i aF).aC:=by
   have:=xO d.1 aK;have:=Dp d.2 f aK (by simp);show IntKind.wrap .i64 (c*ga n (x.af.getD i aF).aC)=_;grind[IntKind.wrap_i64]
  rw[j,bP,RY aL h0 aa e k (i+1) _ (by omega) (by
   have:=xO d.1 aK
   grind[ed])]
  rw[mK aD];have:x.af.getD i aF=x.af[i]:=by grind
  rw[this];rfl
theorem RZ{n:az}(aL:n.length=ts.length)(h0:lA n)(aa:x∈ts)(d:∀m,m∈x.af->0<=m.aC/\m.aC<ts.length):∀(k i:Nat) (c:Int),i+k=x.af.length->0<=c/\c<=2->sk (c,(i:Int),n,x)=some (ed 2 (kT n (x.af.drop i) c),n)
 |0,i,c,g,f=>by
  rw[sk,aq (by grind),o9 (by omega)];grind[ed,kT]
 |k+1,i,c,g,f=>by
  have aD:i<x.af.length:=by omega
  have ak:=(H.cr x aa).2.2;obtain⟨a,b⟩:=tj H aL (d _ (bp aD aF));obtain⟨aK,e⟩:=j' h0 (x.af.getD i aF).aC;unfold ga at aK e;rw[sk,ag (by grind),ag (aX aD)];simp only[a7,ay,fH];have m:=min2 (c+n.getD (x.af.getD i aF).aC.toNat 0);rw[ag a,ag b,k4,bP,RZ aL h0 aa d k (i+1) _ (by omega) (by omega)];rw[mK aD];have:x.af.getD i aF=x.af[i]:=by grind
  rw[this];have s1:=(BY h0 (x.af.drop (i+1)) (ed 2 (c+ga n x.af[i].aC))).1;have j:=(BY h0 (x.af.drop (i+1)) (c+ga n x.af[i].aC)).1;show some (ed 2 (kT n (x.af.drop (i+1)) (ed 2 (c+ga n x.af[i].aC))),n)=some (ed 2 (kT n (x.af.drop (i+1)) _),n);grind[min2,ed]
def vt(x:aj)(n:az):Int:=if x.ae=8 then(if x.Max=0\/ga n x.aE=0 then 1 else 2)else ed 2 (gW x n)
theorem afF{n:az}(aL:n.length=ts.length)(h0:lA n)(aa:x∈ts):Em (x,n)=some (vt x n,n):=by
 have g:=H.V.U x aa;have c:∀m,m∈x.af->0<=m.aC/\m.aC<ts.length:=by
  obtain⟨i,d,rfl⟩:=xV.1 aa;intro m c;have:=H.R i d m (by simpa[List.getD,fm d]using c);exact⟨this.1,this.2.1⟩
 have j:ed 2 1=1:=rfl;have k:ed 2 2=2:=rfl;rw[Em];unfold vt gW;by_cases bq:x.ae=2;grind;rw[aq (by simpa using bq),aq bq];by_cases b4:x.ae=3;grind;rw[aq (by simpa using b4),aq b4];by_cases cv:x.ae=4;grind;rw[aq (by grind),aq cv];by_cases cZ:x.ae=5;rw[ag (by simpa using cZ),aq (show ¬x.ae=8 by omega),ag cZ];have e:sj (1,0,n,x)=_:=RY H aL h0 aa c x.af.length 0 1 (by omega) (by omega);have p:=HS h0 x.af 1 (by omega);have:ed 2 (nX n x.af 1)=nX n x.af 1:=(by grind[ed]);grind;rw[aq (by grind),aq cZ];by_cases c7:x.ae=6;rw[ag (by simpa using c7),aq (show ¬x.ae=8 by omega),ag c7];have e:sk (0,0,n,x)=_:=RZ H aL h0 aa c x.af.length 0 0 (by omega) (by simp);rw[e,gk];rfl;rw[aq (by grind),aq c7];have he:7<=x.ae->aG x.aE n.length/\(x.aE.toNat<n.length:J):=λh=>tj H aL (g _ (by unfold fB;simp[h]));simp only[a7,ay];by_cases fc:x.ae=7;obtain⟨a,b⟩:=he (by omega);simp only[a,b,pc,cg];grind[ga,eI];rw[aq (by grind),aq fc];by_cases eA:x.ae=8;obtain⟨a,b⟩:=he (by omega);grind[ga,eI];rw[aq (by simpa using eA),aq eA,aq eA];by_cases fv:x.ae=9;obtain⟨a,b⟩:=he (by omega);obtain⟨aK,f⟩:=j' h0 x.aE;unfold ga at aK f;rw[ag (by grind),ag fv,ag a,ag b,k4];rfl;grind
theorem ah9{n:az}(h0:lA n)(x:aj):0<=vt x n/\vt x n<=2/\(7<=x.ae->1<=vt x n)/\(1<=gW x n->1<=vt x n):=by
 have c:=(TL H h0 x).1;have m:=min2 (gW x n);have he:=(j' h0 x.aE).1;have b:7<=x.ae->1<=gW x n:=λa=>by
  grind[gW]
 grind[vt]
theorem Mn(rd:Int)(P:Prop):∀(k i:Nat) {n:az},i+k=ts.length->n.length=ts.length->lA n->(∀j,j<i->7<=(ts.getD j aM).ae->1<=n.getD j 0)->(P->∀j,j<ts.length->7<=(ts.getD j aM).ae->1<=n.getD j 0)->(P->∀j,j<i->1<=n.getD j 0)->
 ∃cS,r8 (rd,(i:Int),ts,n)=some (rd,ts,cS)/\cS.length=ts.length/\lA cS/\(∀j,j<ts.length->7<=(ts.getD j aM).ae->1<=cS.getD j 0)/\(P->∀j,j<ts.length->1<=cS.getD j 0)
 |0,i,n,c,ak,h0,ad,aA,ar=>⟨n,by rw[r8,eF],ak,h0,λj a=>ad j (by omega),λh j a=>ar h j (by omega)⟩
 |k+1,i,n,c,ak,h0,ad,aA,ar=>by
  have aD:i<ts.length:=by omega
  have bu:=H.fz;have aa:=bp aD aM;obtain⟨d,e,f,g⟩:=ah9 H h0 (ts.getD i aM);rw[r8,c',ag (aX aD)];simp only[fH];rw[afF H ak h0 aa];simp only[a7,ay];rw[jY,ag (fP),c',bP];refine Mn rd P k (i+1) (by omega) (by simp[ak]) (λj=>?_) (λj a b=>?_) (λh j a b=>?_) λh j a=>?_
  have:=h0 j;rw[kf];split<;>omega;grind;grind;grind[kf,RV]
theorem Nr:∀(k r:Nat) {n:az},r+k=2*ts.length+1->n.length=ts.length->lA n->(1<=r->∀j,j<ts.length->7<=(ts.getD j aM).ae->1<=n.getD j 0)->(2<=r->∀j,j<ts.length->1<=n.getD j 0)->
 ∃cS,sb ((r:Int),ts,n)=some cS/\cS.length=ts.length/\∀j,j<ts.length->1<=cS.getD j 0
 |0,r,n,f,ak,h0,h1,c=>by
  have bu:=H.fz;have g:=H.dF;have b:gi .i64 2 (ts.length:Int)=2*ts.length:=by
   show IntKind.wrap .i64 _=_;grind[IntKind.wrap_i64]
  exact⟨n,by rw[sb,b,aq (by grind)],ak,c (by omega)⟩
 |k+1,r,n,f,ak,h0,h1,c=>by
  have bu:=H.fz;have b:gi .i64 2 (ts.length:Int)=2*ts.length:=by
   show IntKind.wrap .i64 (2*(ts.length:Int))=_;grind[IntKind.wrap_i64]
  obtain⟨cS,aK,d,dB,e,iW⟩:=Mn H _ (1<=r) ts.length 0 (n:=n) (by simp) ak h0 (λj a=>absurd a (xL _)) h1 (λ_ j a=>absurd a (xL _));have aK:r8 (r,0,ts,n)=_:=aK;rw[sb,b,ag (by grind),aK];simp only[a7,ay];rw[bP];exact Nr k (r+1) (by omega) d dB (λ_=>e) (λh=>iW (by omega))
omit H in
theorem Ou{n:az}(ak:n.length<=5)(h:∀i:Nat,i<n.length->1<=n.getD i 0):∀(k i:Nat),i+k=n.length->uv (n,(i:Int),List.replicate i true)=some (List.replicate n.length true)
 |0,i,a=>by simp_all[uv]
 |k+1,i,a=>by
  have e:List.replicate i true++[(0<n.getD i 0:J)]=List.replicate (i+1) true:=by
   grind[List.replicate_succ']
  rw[uv,ag (by grind),ag (fP)];simp only[a7,ay,fH];rw[e,ag (dQ (by simp) (by grind)),bP];exact Ou ak h k _ (by omega)
omit H in
theorem Px{m:Nat}(b:m<=5):∀(k i:Nat),i+k=m->uy (List.replicate m true,(i:Int))=some (.inr ())
 |0,i,a=>by grind[uy]
 |k+1,i,a=>by
  rw[uy,ag (by grind),ag (aX (by grind)),aq (by grind),bP];exact Px b k _ (by omega)
theorem afG:En (⟨ts⟩:aY)=some 0:=by
 have bu:=H.fz;have d:El (⟨ts⟩:aY)=some 0:=by
  have jX:=(qc H.T H.V).2;obtain⟨r,aK,a⟩:=adV (by grind[reachBytes]) H.T jX (λ_=>H.V);rw[El,jX];simp only[a7,ay];rw[cN,aK];simp only[ay];rw[(a rfl).2 H.D]
 obtain⟨n,c1,c2,c3⟩:=Nr H (2*ts.length+1) 0 (n:=List.replicate ts.length 0) (by simp) (by simp) (λi=>by grind) (λh=>by omega) (λh=>by omega);have c1:sb (0,ts,List.replicate ts.length 0)=_:=c1;have b:DB (⟨ts⟩:aY)=some n:=by
  rw[DB];simp only[a7,ay,fH];rw[ag (Lu.2 ⟨by simp,by grind[h4],by grind[dT]⟩),c1];rfl
 have f1:=Ou (n:=n) (by omega) (λi c=>c3 i (by omega)) n.length 0 (by simp);have f2:=Px (m:=n.length) (by omega) n.length 0 (by simp);simp_all[En,Ir,a7,ay,aq]
end
abbrev ty(ts:I aj)(t:Int):aj:=ts.getD t.toNat aM
def hr(y:aj)(id:Int):J:=y.bf.any λs=>(s.ah=id:J)
theorem alE(h:y.bf.length<=1000)(id:Int):∃a,rX (y,id)=some (a,hr y id)/\qx (y,id)=some (a,hr y id):=by
 obtain⟨r,h1,c,b⟩:=rz (t:=y) id (by omega);have:r.2=hr y id:=by
  rcases b with⟨j,a1,a2,a3,rfl⟩|⟨a1,rfl⟩;exact(xJ.2 ⟨_,bp a1 ek,by grind⟩).symm;refine(List.any_eq_false.2 λx aa=>?_).symm;grind[List.mem_iff_getElem]
 grind
theorem zk(h:y.af.length<=1000)(id:Int):hl (y,id)=some (kK y.af id)/\g' (y,id)=some (kK y.af id):=⟨Bk h id,Bl h id⟩
theorem BW(l:I aT)(id:Int):kK l id=match ez l id with
 |some j=>((j:Int),true)
 |none=>(0,false):=rfl
def me(x y:aj):J:=(x.bf.all λs=>hr y s.ah)&&(x.af.all λm=>(ez y.af m.ah).isSome)
section
variable {x y:aj}(aa:x.bf.length<=1000/\x.af.length<=1000)(al:y.bf.length<=1000/\y.af.length<=1000)
include aa al
theorem Gs:∀(k i:Nat),i+k=x.bf.length->((x.bf.drop i).all λs=>hr y s.ah)/\wK (x.bf,(x.bf.length:Int),(i:Int),x,y)=some (.inr (x,y))/\rI ((i:Int),x,y)=some (.inr (x,y))\/
 ((x.bf.drop i).all λs=>hr y s.ah)=false/\wK (x.bf,(x.bf.length:Int),(i:Int),x,y)=some (.inl false)/\rI ((i:Int),x,y)=some (.inl false)
 |0,i,b=>.inl ⟨by grind,by simp_all[wK,aq],by simp_all[rI,aq]⟩
 |k+1,i,b=>by
  have aD:i<x.bf.length:=by omega
  obtain⟨a,s1,c⟩:=alE al.1 _;have e:x.bf.drop i=x.bf.getD i ek::x.bf.drop (i+1):=by
   simp_all
  rw[wK,ag (by grind),ag (aX aD),rI,ag (by grind),ag (aX aD)];simp only[a7,fH];rw[s1,c,e,nV];cases d:hr y _ with
  |false=>simp
  |true=>
   rw[bP];exact Gs k (i+1) (by omega)
theorem Gt:∀(k i:Nat),i+k=x.af.length->((x.af.drop i).all λm=>(ez y.af m.ah).isSome)/\wL (x.af,(x.af.length:Int),(i:Int),y)=some (.inr ())/\rJ ((i:Int),x,y)=some (.inr ())\/
 ((x.af.drop i).all λm=>(ez y.af m.ah).isSome)=false/\wL (x.af,(x.af.length:Int),(i:Int),y)=some (.inl false)/\rJ ((i:Int),x,y)=some (.inl false)
 |0,i,a=>.inl ⟨by grind,by simp_all[wL,aq],by simp_all[rJ,aq]⟩
 |k+1,i,a=>by
  have aD:i<x.af.length:=by omega
  obtain⟨s1,b⟩:=zk al.2 _;have e:x.af.drop i=x.af.getD i aF::x.af.drop (i+1):=by
   simp_all
  rw[wL,ag (by grind),ag (aX aD),rJ,ag (by grind),ag (aX aD)];simp only[a7,fH];rw[s1,b,e,nV,BW];cases c:ez y.af _ with
  |none=>simp
  |some j=>
   rw[bP];exact Gt k (i+1) (by omega)
theorem ahF:um (x,y)=some (me x y):=by
 have a:=Gs aa al x.bf.length 0 (by simp);have b:=Gt aa al x.af.length 0 (by simp);grind[um,me]
theorem ahG:Et (x,y)=some (y.bt||me x y):=by
 have a:=Gs aa al x.bf.length 0 (by simp);have b:=Gt aa al x.af.length 0 (by simp);grind[Et,me]
end
noncomputable def iV (tw tr:I aj)(f g:aT):ab×Int:=yI (l5 tw tr f.aC f.bC g.aC)
noncomputable def C5 (tw tr:I aj)(f g:aT):Int:=if f.bO then(if g.bO then(if(iV tw tr f g).2=0/\dm g (iV tw tr f g).1=true then 0 else 10)else 7)else 0
noncomputable def lo (tw tr:I aj)(x:aj)(g:aT):Int:=match ez x.af g.ah with
 |none=>if g.bO then 0 else 7
 |some i=>C5 tw tr (x.af.getD i aF) g
def gp{α:Type}(f:α->Int):I α->Int
 |[]=>0
 |a::l=>if f a=0 then gp f l else f a
theorem afH{f:α->Int}{a:α}{l:I α}{c:Int}(h:f a=c)(b:c≠0):gp f (a::l)=c:=by
 subst h;exact aq b
theorem Py{f:α->Int}{a:α}{l:I α}(h:f a=0):gp f (a::l)=gp f l:=ag h
def fq(y:aj)(f:aT):Int:=if(ez y.af f.ah).isNone=true/\f.bV=true then 6 else 0
section
variable {tw tr:I aj}(HW:dn tw)(HR:dn tr)
include HW HR
theorem agW(aa:x∈tw)(al:y∈tr){f g:aT}(i:f∈x.af)(av:g∈y.af)(l:f.bO)(he:g.bO):
 wP ((⟨tw⟩:aY),f.aC,f.bC,(⟨tr⟩:aY),g.aC)=some (iV tw tr f g)/\(∃b,nC ((iV tw tr f g).1,g.bC)=some b/\b=dm g (iV tw tr f g).1)/\Ep ((⟨tw⟩:aY),f.aC,f.bC,(⟨tr⟩:aY),g.aC,g.bC)=some (((iV tw tr f g).2=0:J)&&dm g (iV tw tr f g).1):=by
 have e:=(HW.T x aa).iw f i;have d:=HW.D x aa f i l;have r:=HW.W x aa f i l;have k:gx tw 3000 f.aC f.bC:=pe HW 3000 e d (.inr (by omega)) (.inr (by omega));obtain⟨j,n,rfl⟩:=xV.1 al;have a:=HR.R j n g (by grind);have ok:cz (iV tw tr f g).1:=ala HW HR e d k a.1 a.2.1;have q:dm g (iV tw tr f g).1↔(iV tw tr f g).1=g.bC:=by
  grind[dm]
 obtain⟨b,b1,b2⟩:=P7 ok g.bC;obtain⟨c,c1,c2⟩:=P6 ok g.bC;have m:b=dm g (iV tw tr f g).1:=by grind
 have p:c=dm g (iV tw tr f g).1:=by grind
 refine⟨No HW HR e d k a.1 a.2.1,⟨b,b1,m⟩,?_⟩;rw[Ep];simp only[ab.bN];rw[Np HW HR e (by omega) d k a.1 a.2.1];show((if ((iV tw tr f g).2=0:J) then xl ((iV tw tr f g).1,g.bC)else some false)>>=λo=>some (bif ((iV tw tr f g).2=0:J)then o else false))=_;grind
theorem akt{l:I aT}(h:ez l id=some j):aG (j:Int) l.length:=aX (hK h).1
theorem R0{x y:aj}(aa:x∈tw)(al:y∈tr):∀(k i:Nat),i+k=y.af.length->
 (gp (lo tw tr x) (y.af.drop i)=0/\rD (y.af,(y.af.length:Int),(i:Int),tw,x,tr,y)=some (.inr (x,y))/\sd ((i:Int),tw,x,tr,y)=some (.inr (x,y)))\/
 (¬gp (lo tw tr x) (y.af.drop i)=0/\rD (y.af,(y.af.length:Int),(i:Int),tw,x,tr,y)=some (.inl (gp (lo tw tr x) (y.af.drop i)))/\sd ((i:Int),tw,x,tr,y)=some (.inl (gp (lo tw tr x) (y.af.drop i))))
 |0,i,l=>.inl ⟨by rw[o9 (by omega)];rfl,by simp_all[rD,aq],by simp_all[sd,aq]⟩
 |k+1,i,l=>by
  have aD:i<y.af.length:=by omega
  have q:=(HW.cr x aa).2.2;have r:=(HR.cr y al).2.2;have e:y.af.drop i=y.af.getD i aF::y.af.drop (i+1):=by
   simp_all
  have av:=bp aD aF;have ih:=R0 aa al k (i+1) (by omega);rw[rD,ag (by grind),ag (aX aD),sd,ag (by grind),ag (aX aD)];simp only[a7,ay,fH,ab.bN];generalize y.af.getD i aF=g at*;obtain⟨s1,n⟩:=zk (y:=x) (by omega) g.ah;rw[s1,n,e,BW,bP];have a:lo tw tr x g=match ez x.af g.ah with
   |none=>if g.bO then 0 else 7
   |some i=>C5 tw tr (x.af.getD i aF) g:=rfl
  cases bJ:ez x.af g.ah with
  |none=>
   cases p:g.bO with
   |false=>
    grind[gp]
   |true=>
    grind[gp]
  |some j=>
   rw[bJ]at a;have m:=akt (HW:=HW) (HR:=HR) bJ;have f:=bp (hK bJ).1 aF;simp only[ay,dX,cm,cw,fH,m,cg,pc,fe];simp only at a;unfold C5 at a;rcases zE (x.af.getD j aF).bO with c|c
   . rcases zE g.bO with d|d
     . obtain⟨d1,⟨b,d2,d3⟩,d4⟩:=agW HW HR aa al f av c d;rw[d1,d4];simp only[ay];by_cases h0:(iV tw tr (x.af.getD j aF) g).2=0/\dm g (iV tw tr (x.af.getD j aF) g).1=true
       rw[ag h0]at a;have dw:gp (lo tw tr x) (g::y.af.drop (i+1))=gp (lo tw tr x) (y.af.drop (i+1)):=(by grind[gp]);grind;rw[aq h0]at a;have o:gp (lo tw tr x) (g::y.af.drop (i+1))=10:=(by grind[gp]);grind
     simp_all[gp,dX,fY,cm,cw,cg,fe,eC]
   have dw:gp (lo tw tr x) (g::y.af.drop (i+1))=gp (lo tw tr x) (y.af.drop (i+1)):=(by grind[gp]);grind
theorem R1{x y:aj}(aa:x∈tw)(al:y∈tr):∀(k i:Nat),i+k=x.af.length->
 (gp (fq y) (x.af.drop i)=0/\xc (x.af,(x.af.length:Int),(i:Int),y)=some (.inr ())/\se ((i:Int),x,y)=some (.inr ()))\/
 (¬gp (fq y) (x.af.drop i)=0/\xc (x.af,(x.af.length:Int),(i:Int),y)=some (.inl (gp (fq y) (x.af.drop i)))/\se ((i:Int),x,y)=some (.inl (gp (fq y) (x.af.drop i))))
 |0,i,c=>.inl ⟨by rw[o9 (by omega)];rfl,by simp_all[xc,aq],by simp_all[se,aq]⟩
 |k+1,i,c=>by
  have aD:i<x.af.length:=by omega
  have f:=(HW.cr x aa).2.2;have g:=(HR.cr y al).2.2;have e:x.af.drop i=x.af.getD i aF::x.af.drop (i+1):=by
   simp_all
  have ih:=R1 aa al k (i+1) (by omega);obtain⟨s1,d⟩:=zk (y:=y) (by omega) (x.af.getD i aF).ah;rw[xc,ag (by grind),ag (aX aD),se,ag (by grind),ag (aX aD)];simp only[a7,ay,fH];rw[s1,d,e,bP];simp only[ay,aX aD,pc,cg];have a:fq y (x.af.getD i aF)=if(ez y.af (x.af.getD i aF).ah).isNone=true/\(x.af.getD i aF).bV=true then 6 else 0:=rfl
  rw[BW];rcases zE (x.af.getD i aF).bV with b|b
  . cases bJ:ez y.af (x.af.getD i aF).ah with
    |none=>
     rw[ag ⟨by grind,b⟩]at a;have jU:gp (fq y) ((x.af.getD i aF)::x.af.drop (i+1))=6:=afH a (by simp);grind
    |some j=>
     grind[Py]
  grind[Py]
noncomputable def ya (tw tr:I aj)(x y:aj):Int:=if gp (lo tw tr x) y.af=0 then gp (fq y) x.af else gp (lo tw tr x) y.af
theorem agC(aa:x∈tw)(al:y∈tr):IC ((⟨tw⟩:aY),x,(⟨tr⟩:aY),y)=some (ya tw tr x y)/\zT ((⟨tw⟩:aY),x,(⟨tr⟩:aY),y)=some (ya tw tr x y):=by
 have a:=R0 HW HR aa al y.af.length 0 (by simp);have b:=R1 HW HR aa al x.af.length 0 (by simp);grind[IC,zT,ya]
def kO(k:aj):Int:=if k.ae=1 then 2 else if k.ae=2 then k.bI-k.bA+1 else if k.ae=4 then k.bf.length else if k.Max=0 then 1 else 100
omit HW HR in
theorem R2{b:aj}(h: -100<=b.bA/\b.bI<=100):∀(k:Nat) (n v:Int),b.bI-v=k->b.bA<=v->1<=n->n+k<=100->rF (n,v,b)=some (n+k)
 |0,n,v,c,ak,h1,a=>by
  rw[rF,aq (by grind)];simp
 |k+1,n,v,c,ak,h1,a=>by
  rw[rF,k4,k4,R2 h k _ _ (by omega) (by omega) (by omega) (by omega)];grind
omit HR in
theorem afI{k:aj}(a:k∈tw)(d:k.ae<=4):(∃q,D5 k=some q/\∀m,m<=3->ed m q=ed m (kO k))/\xm k=some (kO k):=by
 have h1:=(KR HW a).1;have f:=HW.L k a;have bJ:=HW.V.F k a;rw[D5,xm];by_cases bj:k.ae=1;grind[kO];by_cases bq:k.ae=2
 . have i:k.bA<=k.bI:=by rcases bJ with h|h|h|h|h|h|h|h|h<;>omega
   have g:kO k=k.bI-k.bA+1:=(by grind[kO]);have e:rF (1,k.bA,k)=some (1+((k.bI-k.bA).toNat:Int)):=R2 (by omega) _ 1 k.bA (by omega) (by simp) (by simp) (by omega);have b:dG .u64 (b7 .u64 k.bI) (b7 .u64 k.bA)=k.bI-k.bA:=by
    show IntKind.wrap .u64 (IntKind.wrap .u64 k.bI-IntKind.wrap .u64 k.bA)=_;grind[IntKind.wrap_u64]
   have c:b7 .i64 (k.bI-k.bA)=k.bI-k.bA:=by
    show IntKind.wrap .i64 _=_;grind[IntKind.wrap_i64]
   refine⟨?_,?_⟩;rw[aq (by grind),ag (by grind),b];simp only[a7,ay];rw[ag (by grind),c,k4];grind;grind
 grind[kO,ed]
noncomputable def yc (tw tr:I aj)(t u:Int):Int:=
 if ¬(ty tw t).ae=(ty tr u).ae then 9
 else if(ty tw t).ae=2 then(if(ty tw t).bA<(ty tr u).bA\/(ty tr u).bI<(ty tw t).bI then 2 else 0)
 else if(ty tw t).ae=3\/(ty tw t).ae=7 then(if(ty tr u).Max<(ty tw t).Max then 3 else 0)
 else if(ty tw t).ae=8 then(if(ty tr u).Max<ed (ty tw t).Max (kO (ty tw (ty tw t).aS))then 3 else 0)
 else if(ty tw t).ae=4 then(if((ty tr u).bt||me (ty tw t) (ty tr u)) then 0 else 4)
 else if(ty tw t).ae=6 then(if((ty tr u).bt||me (ty tw t) (ty tr u)) then 0 else 5)
 else if(ty tw t).ae=5 then ya tw tr (ty tw t) (ty tr u)
 else 0
omit HW HR in
theorem Fy(h:x.ae=8):x.aS∈fB x:=by grind[fB]
omit HW HR in
theorem RF(h:7<=x.ae):x.aE∈fB x:=by grind[fB]
def hW(ts:I aj)(t:Int):Prop:=0<=t/\t<ts.length
omit HW HR in
theorem Bm(h:hW ts t):aG t ts.length:=by
 grind[hW,aG]
omit HW HR in
theorem lk(h:hW ts t):ty ts t∈ts:=bp (by grind[hW]) _
theorem lens{u:Int}(ht:hW tw t)(d:hW tr u):((ty tw t).bf.length<=1000/\(ty tw t).af.length<=1000)/\((ty tr u).bf.length<=1000/\(ty tr u).af.length<=1000):=by
 have aa:=lk ht;have al:=lk d;have a:=(HW.cr _ aa).2.2;have b:=(HR.cr _ al).2.2;have c:∀{x:aj} {ts:I aj},hG x->x.bf.length<=1000:=λ{x ts} h=>by
  rcases h with h|h|h|h|h|h|h|h|h
  all_goals first
   |(have:=h.2.2.2.2.2.1.2.2.2.2;omega)
   |(have q:x.bf=[]:=(by first|exact h.2.2.2.2.2.1|exact h.2.2.2.2.1);rw[q];simp)
 exact⟨⟨c (ts:=tw) (HW.V.F _ aa),by omega⟩,⟨c (ts:=tr) (HR.V.F _ al),by omega⟩⟩
theorem agD{u:Int}(ht:hW tw t)(a:hW tr u):aag ((⟨tw⟩:aY),t,(⟨tr⟩:aY),u)=some (yc tw tr t u)/\Iu ((⟨tw⟩:aY),t,(⟨tr⟩:aY),u)=some (yc tw tr t u):=by
 have aa:=lk ht;have al:=lk a;obtain⟨e,l2⟩:=lens HW HR ht a;have m:=ahG e l2;have n:=ahF e l2;have p:=agC HW HR aa al;have l:=HW.M _ aa;have o:(ty tw t).ae=8->aG (ty tw t).aS tw.length/\(∃q,D5 (ty tw (ty tw t).aS)=some q/\ed (ty tw t).Max q=ed (ty tw t).Max (kO (ty tw (ty tw t).aS)))/\xm (ty tw (ty tw t).aS)=some (kO (ty tw (ty tw t).aS)):=λeA=>by
  have d:hW tw (ty tw t).aS:=HW.V.U _ aa _ (Fy eA);obtain⟨⟨q,r,s⟩,v⟩:=afI HW (lk d) (HW.V.oa _ aa eA).2;grind[Bm]
 have d:=KR HW aa;show(if aG t tw.length then _ else none)=_/\(if aG t tw.length then _ else none)=_;rw[Bm ht,ag rfl,ag rfl];simp only[a7,ay];rw[Bm a,ag rfl,ag rfl];unfold yc;obtain⟨x,b⟩:∃x,ty tw t=x:=⟨_,rfl⟩;obtain⟨y,c⟩:∃y,ty tr u=y:=⟨_,rfl⟩;have f:tw.getD t.toNat aM=x:=b;have g:tr.getD u.toNat aM=y:=c;simp only[f,g,b,c]at*;by_cases bS:x.ae=y.ae
 . have i:x.ae=1\/x.ae=2\/x.ae=3\/x.ae=4\/x.ae=5\/x.ae=6\/x.ae=7\/x.ae=8\/x.ae=9:=(by omega);rcases i with k|k|k|k|k|k|k|k|k<;>have j:y.ae=_:=bS.symm.trans k
   all_goals simp only[k,j,Int.reduceEq,Int.reduceLT,di,dz,dX,fY,Bool.or_true,i',fe,eC,cm,cw,cg,ay,not_true_eq_false,or_false,false_or,or_true,true_or,and_self]
   grind;grind;grind;grind
   all_goals grind
 grind
end
theorem KS{a b:bD}:a=b↔a.c8=b.c8/\a.cO=b.cO:=by cases a;cases b;simp
instance al4:DecidableEq bD:=λa b=>decidable_of_iff (a.c8=b.c8/\a.cO=b.cO) KS.symm
theorem CY{a b:bD}:(eZ a.c8 b.c8&&(eZ a.cO b.cO&&true))=(a=b:J):=by
 simp[eZ,KS]
def hB(l:I bD)(p:bD):I bD:=if p∈l then l else l++[p]
theorem Lo(l:I bD)(p:bD):(hB l p).length<=l.length+1:=by grind[hB]
theorem agE{l:I bD}{p q:bD}:q∈hB l p↔q∈l\/q=p:=by
 grind[hB]
theorem u'{m:I bD}:∀{l:I bD} {q:bD},q∈m.foldl hB l↔q∈l\/q∈m:=by
 induction m with
 |nil=>simp
 |cons a m ih=>simp_all[agE,or_assoc]
theorem RG{m:I bD}:∀{l:I bD},(m.foldl hB l).length<=l.length+m.length:=by
 induction m with
 |nil=>simp
 |cons a m ih=>grind[Lo]
theorem adv{l:I bD}(h:l.Nodup)(p:bD):(hB l p).Nodup:=by
 grind[hB]
theorem adw{m:I bD}:∀{l:I bD},l.Nodup->(m.foldl hB l).Nodup:=by
 induction m with
 |nil=>simp
 |cons a m ih=>grind[adv]
theorem FX{l:I bD}{i:Nat}(h:i<l.length):l.drop i=l.getD i ey::l.drop (i+1):=by
 simp_all
section
variable {l:I bD}(p:bD)(ak:l.length<=1000000)
include ak
theorem V5:∀(k i:Nat),i+k=l.length->(p∈l.drop i/\rM (l,(i:Int),p)=some (.inl true)/\ox ((i:Int),l,p)=some (.inl (true,l))/\∃j:Nat,r' (l,(l.length:Int),(i:Int),p)=some (.inl (j:Int))/\r3 ((l.length:Int),(i:Int),l,p)=some (.inl ((j:Int),l)))\/
 (p ∉ l.drop i/\rM (l,(i:Int),p)=some (.inr ())/\ox ((i:Int),l,p)=some (.inr l)/\r' (l,(l.length:Int),(i:Int),p)=some (.inr ())/\r3 ((l.length:Int),(i:Int),l,p)=some (.inr l))
 |0,i,d=>.inr ⟨by grind,by simp_all[rM,aq],by simp_all[ox,aq],by simp_all[r',aq],by simp_all[r3,aq]⟩
 |k+1,i,d=>by
  have aD:i<l.length:=by omega
  have ih:=V5 k (i+1) (by omega);rw[FX aD];have aK:rM (l,(i:Int),p)=if l.getD i ey=p then some (.inl true)else rM (l,((i+1:Nat):Int),p):=by
   rw[rM,ag (by grind),ag (aX aD)];simp only[a7,ay,fH,CY];grind[lC]
  have a:ox ((i:Int),l,p)=if l.getD i ey=p then some (.inl (true,l))else ox (((i+1:Nat):Int),l,p):=by
   rw[ox,ag (by grind),ag (aX aD)];simp only[fH,CY,aD,di,cg];grind[lC]
  have dB:r' (l,(l.length:Int),(i:Int),p)=if l.getD i ey=p then some (.inl (i:Int))else r' (l,(l.length:Int),((i+1:Nat):Int),p):=by
   rw[r',ag (by grind),ag (aX aD)];simp only[a7,ay,fH,CY];grind[lC]
  have b:r3 ((l.length:Int),(i:Int),l,p)=if l.getD i ey=p then some (.inl ((i:Int),l))else r3 ((l.length:Int),((i+1:Nat):Int),l,p):=by
   rw[r3,ag (by grind),ag (aX aD)];simp only[fH,CY,aD,di,cg];grind[lC]
  rw[aK,a,dB,b];by_cases h:l.getD i ey=p;grind;have c:¬p=l.getD i ey:=λe=>h e.symm;simp only[aq h,fk,c,false_or];omega
theorem Hb:M3 (l,p)=some (p∈l:J)/\Ad (p,l)=some ((p∈l:J),l)/\L4 (l,p)=some (p∈l:J)/\IN (p,l)=some ((p∈l:J),l):=by
 have h:=V5 p ak l.length 0 (by simp);rw[M3,Ad,L4,IN,LH,L9];rcases h with⟨h1,a,b,j,c,bu⟩|⟨h1,a,b,c,bu⟩
 all_goals simp_all
end
def mO(x y:aj)(l:I aT):I bD:=l.filterMap λf=>match ez y.af f.ah with
 |none=>none
 |some j=>some ⟨f.aC,(y.af.getD j aF).aC⟩
def zi(x y:aj):I bD:=if x.ae=8/\0<x.Max then[⟨x.aS,y.aS⟩]else[]
def y6(x y:aj):I bD:=if x.ae=9\/(x.ae=7\/x.ae=8)/\0<x.Max then[⟨x.aE,y.aE⟩]else[]
def yp(x y:aj):I bD:=mO x y x.af++zi x y++y6 x y
def sY(x y:aj):I bD:=if x.ae=y.ae then(yp x y).foldl hB []else[]
theorem QX(x y:aj)(l:I aT):(mO x y l).length<=l.length:=by grind[mO]
theorem DU(a b:Int){l:I bD}(ak:l.length<=1000):wH (a,b,l)=some (hB l ⟨a,b⟩):=by
 rw[wH,(Hb _ (by omega)).2.2.2];simp only[a7,ay,di,sR,cg];unfold hB;by_cases h:⟨a,b⟩∈l;grind;rw[aq h,ag (by grind),ag (dQ (by simp) (by grind))]
section
variable {x y:aj}(aa:x.af.length<=100)(al:y.af.length<=100)
include aa al
theorem Gu:∀(k i:Nat) (acc:I bD),i+k=x.af.length->acc.length+k<=500->wF (x.af,(x.af.length:Int),(i:Int),x,y,acc)=some (x,y,(mO x y (x.af.drop i)).foldl hB acc)
 |0,i,acc,b,a=>by rw[o9 (by omega),wF,aq (by grind)];rfl
 |k+1,i,acc,b,a=>by
  have aD:i<x.af.length:=by omega
  have e:x.af.drop i=x.af.getD i aF::x.af.drop (i+1):=by
   simp_all
  rw[wF,ag (by grind),ag (aX aD)];simp only[a7,ay,fH];rw[(zk (y:=y) (by omega) _).1,BW,e,bP];unfold mO;rw[List.filterMap_cons];cases bJ:ez y.af _ with
  |none=>
   exact Gu k (i+1) acc (by omega) (by omega)
  |some j=>
   simp only[ay,cg,aX (hK bJ).1,fH,qS];rw[DU _ _ (by omega)];exact Gu k (i+1) _ (by omega) (by grind[Lo])
theorem Gv:∀(k i:Nat) (acc:I bD),i+k=x.af.length->acc.length+k<=500->rE ((i:Int),x,y,acc)=some (x,y,acc++mO x y (x.af.drop i))
 |0,i,acc,b,a=>by simp_all[o9,rE,aq,mO]
 |k+1,i,acc,b,a=>by
  have aD:i<x.af.length:=by omega
  have e:x.af.drop i=x.af.getD i aF::x.af.drop (i+1):=by
   simp_all
  rw[rE,ag (by grind),ag (aX aD)];simp only[a7,ay,fH];rw[(zk (y:=y) (by omega) _).2,BW,e,bP];unfold mO;rw[List.filterMap_cons];cases bJ:ez y.af _ with
  |none=>
   exact Gv k (i+1) acc (by omega) (by omega)
  |some j=>
   simp only[ay,cg,aX (hK bJ).1,aX aD,fH];rw[ag (dQ (by simp) (by grind)),Gv k (i+1) _ (by omega) (by grind),j1];rfl
end
theorem Gw{l:I bD}(ak:l.length<=500):∀(k i:Nat) (acc:I bD),i+k=l.length->acc.length+k<=500->mi ((i:Int),l,acc)=some ((l.drop i).foldl hB acc)
 |0,i,acc,b,a=>by simp_all[o9,mi,aq]
 |k+1,i,acc,b,a=>by
  have aD:i<l.length:=by omega
  rw[FX aD,mi,ag (by grind),ag (aX aD)];simp only[fH];rw[ag (ia aD),(Hb _ (by omega)).2.1,bP];simp only[a7,ay,di,sR,cg,qS];by_cases h:l.getD i ey∈acc;rw[show hB acc (l.getD i ey)=acc from ag h,ia h];exact Gw ak k (i+1) acc (by omega) (by omega);rw[show hB acc (l.getD i ey)=acc++[l.getD i ey]from aq h,vm h,ag (show(!false)=true from rfl),ag (aX aD),ag (ia aD),ag (dQ (by simp) (by grind))];exact Gw ak k (i+1) _ (by omega) (by grind)
theorem agF(aa:x.af.length<=100):(yp x y).length<=102:=by
 grind[QX,zi,y6,yp]
section
variable {tw tr:I aj}(HW:dn tw)(HR:dn tr)
include HW HR
theorem agG{u:Int}(ht:hW tw t)(e:hW tr u):Z3 ((⟨tw⟩:aY),t,(⟨tr⟩:aY),u)=some (sY (ty tw t) (ty tr u))/\ID ((⟨tw⟩:aY),t,(⟨tr⟩:aY),u)=some (sY (ty tw t) (ty tr u)):=by
 have aa:=(HW.cr _ (lk ht)).2.2;have al:=(HR.cr _ (lk e)).2.2;have n0:=Gu (x:=ty tw t) (y:=ty tr u) (by omega) (by omega) (ty tw t).af.length 0 [] (by simp) (by grind);have f:=Gv (x:=ty tw t) (y:=ty tr u) (by omega) (by omega) (ty tw t).af.length 0 [] (by simp) (by grind);have n:=QX (ty tw t) (ty tr u) (ty tw t).af;have dF:∀l:I bD,l.length<=500->mi (0,l,[])=some (l.foldl hB []):=λl ak=>by
  grind[Gw]
 have a:∀l:I bD,l.length<=500->bR 16 l.length:=λl ak=>dQ (by simp) (by omega);simp only[Int.natCast_zero,gk,iY]at n0 f;have g:=@RG (mO (ty tw t) (ty tr u) (ty tw t).af) [];simp only[pb]at g;show(if aG t tw.length then _ else none)=_/\(if aG t tw.length then _ else none)=_;rw[Bm ht,ag rfl,ag rfl];simp only[a7,ay];rw[Bm e,ag rfl,ag rfl];unfold sY yp;obtain⟨x,b⟩:∃x,ty tw t=x:=⟨_,rfl⟩;obtain⟨y,c⟩:∃y,ty tr u=y:=⟨_,rfl⟩;have j:tw.getD t.toNat aM=x:=b;have k:tr.getD u.toNat aM=y:=c;simp only[j,k,b,c]at*;by_cases bS:x.ae=y.ae
 . have m:(bif (x.ae=8:J)then (0<x.Max:J)else false)=(x.ae=8/\0<x.Max:J):=by
    grind
   have i:(bif (x.ae=9:J)then true else bif bif (x.ae=7:J)then true else (x.ae=8:J)then (0<x.Max:J)else false)=(x.ae=9\/(x.ae=7\/x.ae=8)/\0<x.Max:J):=by
    grind
   have d:¬(!(x.ae=y.ae:J)):=(by grind);rw[ag bS,aq d,aq d,n0,f];simp only[ay,Dj,m,i];have a2:=Lo (List.foldl hB [] (mO x y x.af)) ⟨x.aS,y.aS⟩;unfold zi y6;by_cases bj:x.ae=8/\0<x.Max;have bq:x.ae=9\/(x.ae=7\/x.ae=8)/\0<x.Max:= .inr ⟨.inr bj.1,bj.2⟩;simp only[bj,bq,di,cg,and_self,qS,List.foldl_nil];rw[DU _ _ (by omega),a _ (by simp;omega),a _ (by simp;omega),dF _ (by simp;omega)];simp only[ay];rw[DU _ _ (by omega)];simp[Dj]
   . by_cases bq:x.ae=9\/(x.ae=7\/x.ae=8)/\0<x.Max
     rw[ag bq];simp only[bj,bq,di,dz,cg,cw,cm,qS,List.foldl_nil];rw[DU _ _ (by omega),a _ (by simp;omega),dF _ (by simp;omega)];simp[Dj];rw[aq bq];simp only[bj,bq,dz,cw,cm,List.foldl_nil];rw[dF _ (by omega)];simp
 grind
end
end
end Go.Proofs.YtkbmjabicjpmjaaGreatDoor
