/- The functions of the program as functions of Lean, that its code does what they say, and what they answer; part C. -/
import Derived.Test.YtfcnkdegapjgnaaGreatDoorTrB

namespace Go.Proofs.YtfcnkdegapjgnaaGreatDoor
set_option linter.all false
section
open Go Go.Proofs.YtfcnkdegapjgnaaGreatDoor.Shv Go.Sort
set_option maxRecDepth 100000
abbrev fg:=dA
abbrev eF:=bl
abbrev adV:=iA
theorem sU{a:Int}(h:¬a=0):(!(decide (a=0)))=true:=by grind
theorem hE{x m:Int}(h:0<=x)(a:0<=m):cg x m=x%m:=by grind[cg]
theorem acM{x:Int}(h:0<=x)(a:x<=255):fY .u8 x 4=x/4:=by
 grind[fY,IntKind.wrap_u8]
theorem kT{x:Int}(h:bw x):bW .i64 x=x:=by
 grind[bW,bw,IntKind.wrap_i64]
theorem H9{k:Int}(h:0<=k/\k<=25):mo (bW .i32 (aM .i64 97 k))=[UInt8.ofNat (97+k.toNat)]:=by
 have key:∀k:Nat,k<26->mo (bW .i32 (aM .i64 97 k))=[UInt8.ofNat (97+k)]:=by decide+kernel
 grind
theorem acN{k:Int}(h:0<=k/\k<=25):mo (bW .i32 (aM .i64 65 k))=[UInt8.ofNat (65+k.toNat)]:=by
 have key:∀k:Nat,k<26->mo (bW .i32 (aM .i64 65 k))=[UInt8.ofNat (65+k)]:=by decide+kernel
 grind
theorem IW{s:List UInt8}(h0:s≠[])(ad:s.length<=24)(h:∀i:Nat,i<s.length->ph (hY s i)=true):nm s=true:=by
 have key:∀k i,i+k=s.length->lI (s,s.length,i)=some (.inr ()):=by
  intro k
  induction k with
  |zero=>simp_all[lI]
  |succ k ih=>
   intro i hi;rw[lI,ab (by grind),ab (aN (by omega)),CY,h i (by omega)];simp only[aV,ak];rw[ab (by simp),bB (by omega)];exact ih _ (by omega)
 have a:=vz.2 h0;have b:=aN a;have c:=key s.length 0 (by simp)
 grind[nm,ka,CY]
theorem acO{c:Nat}(h:65<=c/\c<=90\/97<=c/\c<=122):nm [UInt8.ofNat c]=true:=by
 grind[IW,yH,nn,ph]
theorem Nl{b c:Nat}(a:97<=b/\b<=122)(h:97<=c/\c<=122):nm [UInt8.ofNat b,UInt8.ofNat c]=true:=by
 grind[IW,yH,nn,ph]
def dr(x:Int):Prop:=0<=x/\x<=255
structure mV (x:fg):Prop where
 k:dr x.Kind
 a:dr x.A
 b:dr x.B
 c:dr x.C
 p:∀q,q∈x.cX->dr q.af/\dr q.av/\dr q.gQ
 l:x.cX.length<=reachBytes
def ea(aG:List fg)(i:Int):Int:=1+(aG.getD i.toNat eF).Kind%9
section
variable {aG:List fg}(cm:∀x,x∈aG->mV x)(bf:aG.length<=5)
include cm bf in
theorem q3{i:Int}(h0:0<=i)(h1:i<aG.length):qJ ((⟨aG⟩:eo),i)=some (ea aG i)/\1<=ea aG i/\ea aG i<=9:=by
 obtain⟨j,rfl⟩:∃j:Nat,i=j:=⟨i.toNat,by omega⟩
 have c:=(cm _ (bo (by omega:j<aG.length) eF)).k;unfold ea;obtain⟨a,b⟩:=c;refine⟨?_,by omega,by omega⟩;rw[qJ,ab (aN (by omega:j<aG.length)),aW,hE a (by simp),kT ⟨by omega,by omega⟩,hG (by omega) (by omega)]
def DJ(aG:List fg)(i a:Int):Prop:=0<=a/\a<aG.length/\(7<=ea aG a\/a<i)
include cm bf in
theorem JM:∀(k i:Nat),i+k=aG.length->nG ((aG.length:Int),(i:Int),aG)=some (.inr ())\/∃a:Int,nG ((aG.length:Int),(i:Int),aG)=some (.inl a)/\0<=a/\a<aG.length/\7<=ea aG a
 |0,i,hi=>.inl (by grind[nG])
 |k+1,i,hi=>by
  obtain⟨e,_,_⟩:=q3 cm bf (i:=i) (by simp) (by omega);rw[nG,ab (by grind),e];simp[xM];by_cases b:7<=ea aG i
  . grind
  . rw[ag (by grind),bB (by omega)];exact JM k _ (by omega)
include cm bf in
theorem aaU(h1:1<=aG.length){i code:Int}(hi:0<=i/\i<aG.length)(k:dr code):∃d,xN ((⟨aG⟩:eo),i,code)=some d/\(d<0\/DJ aG i d):=by
 have l:bW .i64 code=code:=kT ⟨by grind[dr],by grind[dr]⟩;obtain⟨c1,c2⟩:=k;have f:0<=code%(aG.length:Int):=lX _ (by omega);have g:code%aG.length<aG.length:=lV _ (by omega);rw[xN];simp only[aV,ak];rw[ab (sU (by omega)),l,hE c1 (by simp)];obtain⟨e,_,_⟩:=q3 cm bf f g;rw[e]
 simp only[ak,xM];by_cases j:7<=ea aG (code%aG.length)
 . rw[ab (by grind)];exact⟨_,rfl,.inr ⟨f,g,.inl j⟩⟩
 . by_cases aI:code%aG.length<i
   . rw[ab (by grind)];exact⟨_,rfl,.inr ⟨f,g,.inr aI⟩⟩
   . rw[ag (by grind)];by_cases m:0<i
     . rw[ab (by grind),ab (by grind),hE f (by omega)];have a0:0<=code%aG.length%i:=lX _ (by omega);have a1:code%(aG.length:Int)%i<i:=lV _ (by omega);exact⟨_,rfl,.inr ⟨a0,by omega,.inr a1⟩⟩
     . rw[ag (by grind)];have h0:=JM cm bf aG.length 0 (by simp);have bM:nG (aG.length,(0:Nat),aG)=nG ((aG.length:Int),0,aG):=rfl;rw[bM]at h0;rcases h0 with h|⟨d,h,a,b,c⟩
       . grind
       . rw[h];exact⟨d,rfl,.inr ⟨a,b,.inl c⟩⟩
def ob(aG:List fg)(a:Int):Prop:=0<=a/\a<aG.length/\1<=ea aG a/\ea aG a<=4
include cm bf in
theorem Nn{code:Int}(j:dr code)(h1:1<=aG.length):∀(k i:Nat),i+k=aG.length->(nL (code,(aG.length:Int),(i:Int),aG)=some (.inr ())/\∀m:Nat,i<=m->m<aG.length->¬ob aG ((code+m)%(aG.length:Int)))\/∃f:Int,nL (code,(aG.length:Int),(i:Int),aG)=some (.inl f)/\ob aG f
 |0,i,hi=>.inl ⟨by simp_all[nL],λm a b=>by omega⟩
 |k+1,i,hi=>by
  obtain⟨c1,c2⟩:=j;have c:0<=(code+i)%aG.length:=lX _ (by omega);have d:(code+i)%aG.length<aG.length:=lV _ (by omega);obtain⟨e,az,tW⟩:=q3 cm bf c d;rw[nL,ab (by grind),ab (sU (by omega)),kT ⟨by omega,by omega⟩,hG (by omega) (by omega),hE (by omega) (by simp)];simp;rw[e];simp only[ak,xF]
  by_cases g:ea aG ((code+i)%aG.length)<=4
  . rw[ab (by grind)];exact .inr ⟨_,rfl,c,d,az,g⟩
  . rw[ag (by grind),bB (by omega)];rcases Nn ⟨c1,c2⟩ h1 k (i+1) (by omega)with⟨a,b⟩|h
    . refine .inl ⟨a,λm n o=>?_⟩;by_cases l:m=i
      . rintro ⟨_,_,_,h⟩;grind
      grind
    grind
include cm bf in
theorem No{code:Int}(c:dr code)(h1:1<=aG.length):∃b,sG ((⟨aG⟩:eo),code)=some b/\((b= -1/\∀w,¬ob aG w)\/ob aG b):=by
 rw[sG];have h0:=Nn cm bf c h1 aG.length 0 (by simp);have bM:nL (code,aG.length,(0:Nat),aG)=nL (code,(aG.length:Int),0,aG):=rfl;rw[bM]at h0;rcases h0 with⟨h,a⟩|⟨b,h,a⟩
 . rw[h];refine⟨-1,rfl,.inl ⟨rfl,λw d=>?_⟩⟩;have f:=d;obtain⟨ll,j,_⟩:=f;have g:0<=(w-code)%aG.length:=lX _ (by omega);have i:(w-code)%aG.length<aG.length:=lV _ (by omega);have e:(code+((w-code)%(aG.length:Int)).toNat)%aG.length=w:=by
    grind[Int.add_emod_emod,Int.emod_eq_of_lt]
   grind
 grind
theorem H'{x:fg}(h:mV x):oF x=some (x.A%7-3):=by
 have:=h.a;rw[oF,hE this.1 (by simp),kT ⟨by omega,by omega⟩,fC (by omega) (by omega)]
theorem Ln{x:fg}(h:mV x):sy x=some (x.A%7-3+x.B%6):=by
 have a:=h.b;rw[sy,H' h];simp;rw[hE a.1 (by simp),kT ⟨by omega,by omega⟩,hG (by omega) (by omega)]
def tx(l:List Int)(n:Int):Prop:=l.Pairwise (· < ·)/\∀x,x∈l->1<=x/\x<=n
theorem Ia{x:fg}:∀(k i:Nat) (acc:List Int),i+k=6->tx acc i->acc.length<=i->∃l,pb ((i:Int),x,acc)=some l/\tx l 6/\l.length<=6
 |0,i,acc,hi,c,ad=>⟨acc,by simp_all[pb,ag],⟨c.1,λy d=>by have:=c.2 y d;omega⟩,by omega⟩
 |k+1,i,acc,hi,c,ad=>by
  have e:tx acc (i+1:Int):=⟨c.1,λy d=>by have:=c.2 y d;omega⟩
  rw[pb,ab (by grind),ab (by rfl)];simp only[aV,ak];rw[bB (by omega)];split
  . rw[ab (dY (by simp) (by grind))];refine Ia k (i+1) _ (by omega) ⟨?_,λy d=>?_⟩ (by grind)
    . rw[Es];refine⟨c.1,by simp,λa h1 b f=>?_⟩;have:=c.2 a h1
      grind
    . rcases fX.1 d with h|h
      . have:=c.2 y h;omega
      grind
  . exact Ia k _ _ (by omega) e (by omega)
theorem acP(x:fg):∃l,nQ x=some l/\tx l 6/\1<=l.length/\l.length<=6:=by
 obtain⟨l,h1,d,e⟩:=Ia 6 0 [] (by rfl) ⟨.nil,λy c=>by grind⟩ (by simp);have b:pb (0,x,[])=some l:=h1;rw[nQ,b];cases l with
 |nil=>
  exact⟨_,rfl,⟨by simp,λy c=>by grind⟩,by simp,by simp⟩
 |cons a l=>grind
def jS(x:fg):List Int:=(nQ x).getD []
theorem ua(x:fg):nQ x=some (jS x)/\tx (jS x) 6/\1<=(jS x).length/\(jS x).length<=6:=by
 obtain⟨l,h1,a⟩:=acP x
 grind[jS]
def l6(k:Int)(x:fg)(key:Prop)(v:I):Prop:=
 v.aE=[]/\v.al=[]/\v.Rest=[]/\
 (k=1/\v.Kind=1/\v.bq=0/\v.bA=[]/\v.af=0\/
  k=2/\v.Kind=2/\v.b'=false/\v.bA=[]/\v.af=0/\x.A%7-3<=v.bq/\v.bq<=x.A%7-3+x.B%6\/
  k=3/\v.Kind=3/\v.b'=false/\v.bq=0/\v.af=0/\(v.bA.length:Int)<=x.A%4\/
  k=4/\v.Kind=4/\v.b'=false/\v.bq=0/\v.bA=[]/\v.af∈jS x\/
  7<=k/\v.b'=false/\v.bq=0/\v.bA=[]/\v.af=0/\(v.Kind=k/\(k=8->key)\/k=8/\v.Kind=7/\¬key))
def Init(aG:List fg)(t:Int)(v:I):Prop:=l6 (ea aG t) (aG.getD t.toNat eF) (∃w,ob aG w) v
include cm bf in
theorem Z5(h1:1<=aG.length){t code:Int}(ht:0<=t/\t<aG.length)(o:dr code):∃r,xG ((⟨aG⟩:eo),t,code)=some r/\(r.2=false->r.1=aK)/\(r.2=true->Init aG t r.1):=by
 obtain⟨j,rfl⟩:∃j:Nat,t=(j:Int):=⟨t.toNat,by omega⟩
 have f:j<aG.length:=by omega
 have c:=cm _ (bo f eF);obtain⟨e,aZ,gM⟩:=q3 cm bf ht.1 ht.2;obtain⟨i,y,z⟩:=No cm bf (code:=0) ⟨by simp,by simp⟩ h1;obtain⟨c1,c2⟩:=o;rw[xG,ab (aN f)];simp only[aV,ak,aW];rw[e];unfold Init;simp only[aW];have u:=ua (aG.getD j eF);generalize ea aG (j:Int)=k at*;generalize aG.getD j eF=x at*;have n:=c.a
 have G:=c.b;have p:k=1\/k=2\/k=3\/k=4\/k=5\/k=6\/k=7\/k=8\/k=9:=by omega
 rcases p with rfl|rfl|rfl|rfl|rfl|rfl|rfl|rfl|rfl
 . exact⟨_,rfl,λh=>(by cases h),λ_=>by unfold l6;simp⟩
 . have el:=H' c;have m:=Ln c;have az:aM .i64 (c' .i64 (x.A%7-3+x.B%6) (x.A%7-3)) 1=x.B%6+1:=by rw[fC (by omega) (by omega),hG (by omega) (by omega)];omega
   have l:cg (bW .i64 code) (x.B%6+1)=code%(x.B%6+1):=by rw[kT ⟨by omega,by omega⟩,hE c1 (by omega)]
   have E:0<=code%(x.B%6+1):=lX _ (by omega);have F:code%(x.B%6+1)<x.B%6+1:=lV _ (by omega);have cz:aM .i64 (x.A%7-3) (code%(x.B%6+1))=x.A%7-3+code%(x.B%6+1):=hG (by omega) (by omega)
   simp only[Int.reduceEq,eG,ec,cN,cv,cw,ak,hv,gj];rw[el];rw[m];simp only[ak];rw[az,ab (by simp;omega),l,cz];exact⟨_,rfl,λh=>(by cases h),λ_=>by unfold l6;simp;omega⟩
 . simp only[Int.reduceEq,eG,ec,cN,cv,cw,ak,hv,gj];rw[hE n.1 (by omega),hE c1 (by omega)];by_cases g:0<x.A%4
   . by_cases d:code%2=1
     . rw[ab (by simp[g,d])];exact⟨_,rfl,λh=>(by cases h),λ_=>by unfold l6;simp;omega⟩
     . rw[ag (by simp[d])];exact⟨_,rfl,λh=>(by cases h),λ_=>by unfold l6;simp;omega⟩
   . rw[ag (by simp[g])];exact⟨_,rfl,λh=>(by cases h),λ_=>by unfold l6;simp;omega⟩
 . obtain⟨D,i2,i3,i4⟩:=u;simp only[Int.reduceEq,eG,ec,cN,cv,cw,ak,hv,gj];rw[D];simp only[aV,ak];have E:0<=code%((jS x).length:Int):=lX _ (by omega)
   have F:code%((jS x).length:Int)<((jS x).length:Int):=lV _ (by omega);rw[ab (sU (by omega)),kT ⟨by omega,by omega⟩,hE c1 (by omega)];obtain⟨q,v⟩:∃q:Nat,code%((jS x).length:Int)=(q:Int):=⟨(code%((jS x).length:Int)).toNat,by omega⟩
   rw[v,ab (aN (by omega)),aW];exact⟨_,rfl,λh=>(by cases h),λ_=>by unfold l6;simp;rw[<-lU];exact bo (by omega) 0⟩
 . exact⟨_,rfl,λ_=>rfl,λh=>by cases h⟩
 . exact⟨_,rfl,λ_=>rfl,λh=>by cases h⟩
 . exact⟨_,rfl,λh=>(by cases h),λ_=>by unfold l6;simp⟩
 . simp only[Int.reduceEq,eG,ec,cN,cv,cw,ak,hv,gj];rw[y];rcases z with⟨rfl,a⟩|a
   . exact⟨_,rfl,λh=>(by cases h),λ_=>by unfold l6;simp;exactλw C=>a w C⟩
   . have s:¬i<0:=by have:=a.1;omega
     simp only[aV,ak];rw[ag (by simp[s])];exact⟨_,rfl,λh=>(by cases h),λ_=>by unfold l6;simp;exact⟨i,a⟩⟩
 . exact⟨_,rfl,λh=>(by cases h),λ_=>by unfold l6;simp⟩
end
section
variable {aG:List fg}(cm:∀x,x∈aG->mV x)(bf:aG.length<=5)
structure tB (aG:List fg)(i:Int)(record:Bool)(m:aO):Prop where
 id:1<=m.af/\m.af<=12
 name:m.Name=[UInt8.ofNat 109,UInt8.ofNat (97+m.af.toNat)]
 rf:DJ aG i m.av
 dV:m.bQ=true->m.bD=false
 un:record=false->m.bQ=false/\m.bD=false
 P4:m.bD=false->m.bk=aK
 jP:m.bD=true->Init aG m.av m.bk
include cm bf in
theorem KJ(h1:1<=aG.length){i:Int}(hi:0<=i/\i<aG.length){x:fg}(e:mV x)(record:Bool){id:Int}(hid:1<=id/\id<=12){acc:List aO}(t:acc.length<=12):
 ∀(k j:Nat),j+k=x.cX.length->∃l,qf (i,record,id,(j:Int),aG,x,acc)=some (i,record,id,aG,x,acc++l)/\l.length<=1/\∀m,m∈l->m.af=id/\tB aG i record m
 |0,j,u=>⟨[],by rw[qf,ag (by simp;omega)];simp,by simp,λm v=>by cases v⟩
 |k+1,j,u=>by
  have aI:j<x.cX.length:=by omega
  have L:=eg e.l;obtain⟨C,D,E⟩:=e.p _ (bo aI adV);obtain⟨f,A,M⟩:=aaU cm bf h1 hi D;rw[qf,ab (by simp;omega),ab (aN aI)];simp only[aV,ak,aW];have B:xN ((⟨aG⟩:eo),i,(x.cX.getD j iA).av)=some f:=A;rw[B];simp only[ak];generalize o:x.cX.getD j iA=p
  have O:dr p.af:=by rw[<-o];exact C
  have F:dr p.gQ:=by rw[<-o];exact E
  obtain⟨f1,f2⟩:=F;have az:cg p.gQ 4=p.gQ%4:=hE f1 (by omega);have s:fY .u8 p.gQ 4=p.gQ/4:=acM f1 f2;have K:=KJ h1 hi e record hid t k (j+1) (by omega);by_cases q:(bif (!(decide (aM .i64 1 (bW .i64 (cg p.af 12))=id)))then true else decide (f<0))=true
  . rw[ab q,bB (by omega)];exact K
  . rw[ag q];have c:DJ aG i f:=by grind
    have z:=H9 (k:=id) ⟨by omega,by omega⟩;rw[z];have w:([109]++[UInt8.ofNat (97+id.toNat)]:List UInt8)=[UInt8.ofNat 109,UInt8.ofNat (97+id.toNat)]:=rfl;rw[ab (eY (by simp)),w,az,s];obtain⟨r,G,H,J⟩:=Z5 cm bf h1 ⟨c.1,c.2.1⟩ (code:=p.gQ/4) ⟨by omega,by omega⟩
    have d:∀m:aO,room 160 (acc++[m]).length=true:=λm=>dY (by omega) (by simp;omega)
    have done:∀m:aO,m.af=id->tB aG i record m->∃l,(some (i,record,id,aG,x,acc++[m]):Option (Int×Bool×Int×List fg×fg×List aO))=some (i,record,id,aG,x,acc++l)/\l.length<=1/\∀m,m∈l->m.af=id/\tB aG i record m:=λm a b=>⟨[m],rfl,by simp,λy N=>by grind⟩
    cases record with
    |false=>
     simp only[hv,cN,cv];rw[ab (d _)];exact done _ rfl ⟨hid,rfl,c,λh=>(by cases h),λ_=>⟨rfl,rfl⟩,λ_=>rfl,λh=>by cases h⟩
    |true=>
     simp only[gj];by_cases g:p.gQ%4=1
     . rw[ab (by simpa using g),ag (by simp;omega),ab (d _)];exact done _ rfl ⟨hid,rfl,c,λ_=>rfl,λh=>(by cases h),λ_=>rfl,λh=>by cases h⟩
     . rw[ag (by simpa using g)];by_cases n:2<=p.gQ%4
       . rw[ab (by simpa using n),G];simp only[ak,I.bj];rw[ab (d _)];exact done _ rfl ⟨hid,rfl,c,λh=>(by cases h),λh=>(by cases h),H,J⟩
       . rw[ag (by simpa using n),ab (d _)];exact done _ rfl ⟨hid,rfl,c,λh=>(by cases h),λh=>(by cases h),λ_=>rfl,λh=>by cases h⟩
def tC(aG:List fg)(i:Int)(record:Bool)(l:List aO):Prop:=l.Pairwise (λa b=>a.af<b.af)/\(∀m,m∈l->tB aG i record m)/\l.length<=12
include cm bf in
theorem KK(h1:1<=aG.length){i:Int}(hi:0<=i/\i<aG.length){x:fg}(g:mV x)(record:Bool):∀(k id:Nat) (acc:List aO),id+k=13->1<=id->
 acc.Pairwise (λa b=>a.af<b.af)->(∀m,m∈acc->tB aG i record m/\m.af<id)->acc.length<id->∃l,qm (i,record,(id:Int),aG,x,acc)=some l/\tC aG i record l
 |0,id,acc,j,h0,d,e,ad=>⟨acc,by rw[qm,ag (by simp;omega)],d,λm f=>(e m f).1,by omega⟩
 |k+1,id,acc,j,h0,d,e,ad=>by
  rw[qm,ab (by simp;omega)];obtain⟨l,n,l2,r⟩:=KJ cm bf h1 hi g record (id:=(id:Int)) ⟨by omega,by omega⟩ (acc:=acc) (by omega) x.cX.length 0 (by omega);have o:qf (i,record,(id:Int),0,aG,x,acc)=_:=n;rw[o];simp only[aV,ak];rw[bB (by omega)]
  refine KK h1 hi g record k (id+1) _ (by omega) (by omega) ?_ (λm f=>?_) (by simp;omega)
  . rw[Es];refine⟨d,?_,λa p b q=>?_⟩
    . match l,l2 with
      |[],_=>exact .nil
      |[a],_=>simp
      |a::b::c,h=>simp at h
    grind
  grind
include cm bf in
theorem KL(h1:1<=aG.length){i:Int}(hi:0<=i/\i<aG.length)(record:Bool):∃l,rI ((⟨aG⟩:eo),i,record)=some l/\tC aG i record l:=by
 obtain⟨j,rfl⟩:∃j:Nat,i=(j:Int):=⟨i.toNat,by omega⟩
 have a:j<aG.length:=by omega
 have c:=cm _ (bo a eF);obtain⟨l,d,l2⟩:=KK cm bf h1 hi c record 12 1 [] (by omega) (by omega) .nil (λm b=>by cases b) (by simp);refine⟨l,?_,l2⟩;have e:qm ((j:Int),record,1,aG,aG.getD j eF,[])=some l:=d;rw[rI,ab (aN a),aW]
 grind
def pP(l:List Int):List dc:=l.map λj=>⟨j,[UInt8.ofNat 115,UInt8.ofNat (97+j.toNat)]⟩
theorem MC{l:List Int}(ad:l.length<=6)(o:∀x,x∈l->1<=x/\x<=6)(n i:Int)(b:List fg)(b1:Int)(b2:List UInt8)(a c d e f:Int)(g:Bool)(m:List ah):∀(k j:Nat) (acc:List dc),j+k=l.length->acc.length<=j->
 pa (n,i,l,(j:Int),b,b1,b2,a,c,d,e,f,g,m,acc)=some (n,i,b,b1,b2,a,c,d,e,f,g,m,acc++pP (l.drop j))
 |0,j,acc,q,p=>by
  rw[pa,ag (by simp;omega),gy (by omega:l.length<=j)];simp[pP]
 |k+1,j,acc,q,p=>by
  have aI:j<l.length:=by omega
  have r:=o _ (bo aI 0);rw[pa,ab (by simp;omega),ab (aN aI),ab (aN aI)];simp only[aV,ak,aW];rw[H9 ⟨by omega,by omega⟩,ab (eY (by simp)),ab (dY (by omega) (by simp;omega)),bB (by omega),MC ad o n i b b1 b2 a c d e f g m k (j+1) _ (by omega) (by simp;omega),gG aI 0];simp[pP]
def fl(aG:List fg)(i:Int)(t:ah):Prop:=
 let x:=aG.getD i.toNat eF
 let n:=(aG.length:Int)
 let a:=[UInt8.ofNat (65+i.toNat)]
 (ea aG i=1/\t=⟨1,[],0,0,0,[],[],0,0,false⟩)\/
 (ea aG i=2/\t=⟨2,[],x.A%7-3,x.A%7-3+x.B%6,0,[],[],0,0,false⟩)\/
 (ea aG i=3/\t=⟨3,[],0,0,x.A%4,[],[],0,0,false⟩)\/
 (ea aG i=4/\∃o,t=⟨4,a,0,0,0,pP (jS x),[],0,0,o⟩)\/
 (ea aG i=5/\∃l,tC aG i true l/\t=⟨5,a,0,0,0,[],l,0,0,false⟩)\/
 (ea aG i=6/\t=⟨5,a,0,0,0,[],[],0,0,false⟩)\/
 (ea aG i=6/\∃l o,tC aG i false l/\0<l.length/\t=⟨6,a,0,0,0,[],l,0,0,o⟩)\/
 (ea aG i=7/\t=⟨7,[],0,0,x.A%4,[],[],0,x.C%n,false⟩)\/
 (ea aG i=8/\(∀w,¬ob aG w)/\t=⟨7,[],0,0,x.A%4,[],[],0,x.C%n,false⟩)\/
 (ea aG i=8/\∃k,ob aG k/\t=⟨8,[],0,0,x.A%4,[],[],k,x.C%n,false⟩)\/
 (ea aG i=9/\t=⟨9,[],0,0,0,[],[],0,x.C%n,false⟩)
include cm bf in
theorem P8(h1:1<=aG.length):∀(k i:Nat) (acc:List ah),i+k=aG.length->acc.length=i->(∀j,j<i->fl aG (j:Int) (acc.getD j ar))->
 ∃l,fA ((aG.length:Int),(i:Int),aG,acc)=some l/\l.length=aG.length/\∀j,j<aG.length->fl aG (j:Int) (l.getD j ar)
 |0,i,acc,hi,ad,v=>⟨acc,by rw[fA,ag (by simp;omega)],by omega,λj F=>v j (by omega)⟩
 |k+1,i,acc,hi,ad,v=>by
  have aI:i<aG.length:=by omega
  have m:=cm _ (bo aI eF);obtain⟨e,aZ,gM⟩:=q3 cm bf (i:=(i:Int)) (by omega) (by omega);have next:∀t:ah,fl aG (i:Int) t->∃l,(if room 120 (acc++[t]).length=true then fA ((aG.length:Int),aM .i64 (i:Int) 1,aG,acc++[t])else none)=some l/\l.length=aG.length/\∀j,j<aG.length->fl aG (j:Int) (l.getD j ar):=by
   intro t ht;rw[ab (dY (by omega) (by simp;omega)),bB (by omega)];refine P8 h1 k (i+1) _ (by omega) (by simp;omega) λj F=>?_
   grind
  rw[fA,ab (by simp;omega),ab (aN aI)];simp only[aV,ak,aW];rw[e];simp only[ak,jH];have q:=acN (k:=(i:Int)) ⟨by omega,by omega⟩;have cP:∀t,fl aG (i:Int) t->fl aG (i:Int) t:=λt h=>h
  have⟨s,D,u⟩:dr (aG.getD i eF).A/\dr (aG.getD i eF).B/\dr (aG.getD i eF).C:=⟨m.a,m.b,m.c⟩
  have n:(!(decide ((aG.length:Int)=0)))=true:=sU (by omega);have o:bW .i64 (cg (aG.getD i eF).A 4)=(aG.getD i eF).A%4:=by
   unfold dr at s;rw[hE s.1 (by omega),kT ⟨by omega,by omega⟩]
  have p:cg (bW .i64 (aG.getD i eF).C) (aG.length:Int)=(aG.getD i eF).C%(aG.length:Int):=by
   unfold dr at u;rw[kT ⟨by omega,by omega⟩,hE u.1 (by omega)]
  have E:ea aG (i:Int)=1\/ea aG (i:Int)=2\/ea aG (i:Int)=3\/ea aG (i:Int)=4\/ea aG (i:Int)=5\/ea aG (i:Int)=6\/ea aG (i:Int)=7\/ea aG (i:Int)=8\/ea aG (i:Int)=9:=by omega
  rcases E with d|d|d|d|d|d|d|d|d<;>rw[d] <;>
   simp only[Int.reduceEq,eG,ec,cN,cv,cw,ak,hv,gj]
  . exact next _ (by unfold fl;simp[d])
  . have el:=H' m;have x:=Ln m;have z:oF (aG.getD i bl)=_:=el;have y:sy (aG.getD i bl)=_:=x;rw[z];simp only[ak];rw[y];simp only[ak];exact next _ (by unfold fl;simp only[aW];exact .inr (.inl ⟨d,by first|trivial|rfl⟩))
  . have f:bW .i64 (cg (aG.getD i bl).A 4)=_:=o;rw[f];exact next _ (by unfold fl;simp only[aW];exact .inr (.inr (.inl ⟨d,by first|trivial|rfl⟩)))
  . obtain⟨H,i2,i3,i4⟩:=ua (aG.getD i eF);have I:nQ (aG.getD i bl)=_:=H;rw[I];simp only[ak];have hs:=MC (l:=jS (aG.getD i eF)) i4 i2.2 (aG.length:Int) (i:Int) aG 4 (mo (bW .i32 (aM .i64 65 (i:Int)))) 0 0 0 0 0 (decide (cg (aG.getD i eF).B 2=1)) acc (jS (aG.getD i eF)).length 0 [] (by omega) (by simp)
    have G:pa ((aG.length:Int),(i:Int),jS (aG.getD i eF),0,aG,4,mo (bW .i32 (aM .i64 65 (i:Int))),0,0,0,0,0,decide (cg (aG.getD i bl).B 2=1),acc,[])=_:=hs;rw[G];simp only[ak,la,hr];rw[q];exact next _ (by unfold fl;simp only[aW];exact .inr (.inr (.inr (.inl ⟨d,_,rfl⟩))))
  . obtain⟨l,r,l2⟩:=KL cm bf h1 (i:=(i:Int)) ⟨by omega,by omega⟩ true;rw[r];simp only[ak];rw[q];exact next _ (by unfold fl;simp only[aW];exact .inr (.inr (.inr (.inr (.inl ⟨d,l,l2,rfl⟩)))))
  . obtain⟨l,r,l2⟩:=KL cm bf h1 (i:=(i:Int)) ⟨by omega,by omega⟩ false;rw[r];simp only[ak];rw[q];by_cases h0:l.length=0
    . rw[ab (by simp[h0])];exact next _ (by unfold fl;simp only[aW];exact .inr (.inr (.inr (.inr (.inr (.inl ⟨d,by first|trivial|rfl⟩))))))
    . rw[ag (by simp;intro h;rw[h]at h0;simp at h0)];exact next _ (by unfold fl;simp only[aW];exact .inr (.inr (.inr (.inr (.inr (.inr (.inl ⟨d,l,_,l2,by omega,rfl⟩)))))))
  . have f:bW .i64 (cg (aG.getD i bl).A 4)=_:=o;have g:cg (bW .i64 (aG.getD i bl).C) (aG.length:Int)=_:=p;rw[ab n,f,g];exact next _ (by unfold fl;simp only[aW];exact .inr (.inr (.inr (.inr (.inr (.inr (.inr (.inl ⟨d,by first|trivial|rfl⟩))))))))
  . have f:bW .i64 (cg (aG.getD i bl).A 4)=_:=o;have g:cg (bW .i64 (aG.getD i bl).C) (aG.length:Int)=_:=p;obtain⟨w,J,L⟩:=No cm bf D h1;have K:sG ((⟨aG⟩:eo),(aG.getD i bl).B)=some w:=J;rw[K];simp only[ak];rw[ab n,f,g];rcases L with⟨rfl,a⟩|a
    . rw[ab (by simp)];exact next _ (by unfold fl;simp only[aW];exact .inr (.inr (.inr (.inr (.inr (.inr (.inr (.inr (.inl ⟨d,a,by first|trivial|rfl⟩)))))))))
    . rw[ag (by have:=a.1;simp;omega)];exact next _ (by unfold fl;simp only[aW];exact .inr (.inr (.inr (.inr (.inr (.inr (.inr (.inr (.inr (.inl ⟨d,w,a,rfl⟩))))))))))
  . have g:cg (bW .i64 (aG.getD i bl).C) (aG.length:Int)=_:=p;rw[ab n,g];exact next _ (by unfold fl;simp only[aW];exact .inr (.inr (.inr (.inr (.inr (.inr (.inr (.inr (.inr (.inr ⟨d,by first|trivial|rfl⟩))))))))))
end
def tq(d:eo):Prop:=d.ek.length<=reachBytes/\∀x,x∈d.ek->mV x
theorem of_eq{d:eo}(a:tq d):qM d=some (⟨[]⟩,false)\/∃l,qM d=some (⟨l⟩,true)/\1<=d.ek.length/\d.ek.length<=5/\l.length=d.ek.length/\∀j,j<d.ek.length->fl d.ek (j:Int) (l.getD j ar):=by
 rw[qM];simp only[aV,ak];by_cases h:1<=d.ek.length/\d.ek.length<=5
 . obtain⟨l,c,l2,e⟩:=P8 a.2 h.2 h.1 d.ek.length 0 [] (by omega) rfl (λj b=>by omega)
   grind
 grind
structure dH (ts:List ah):Prop where
 dy:1<=ts.length
 eB:ts.length<=5
 T:∀t,t∈ts->e3 t
 V:pY ts
 D:∀t,t∈ts->py ts t.ae
 R:∀i:Nat,i<ts.length->∀m,m∈(ts.getD i ar).ae->0<=m.av/\m.av<ts.length/\(7<=(ts.getD m.av.toNat ar).Kind\/m.av<i)
 L:∀t,t∈ts->t.Kind=2->-3<=t.bz/\t.bx<=8
 M:∀t,t∈ts->t.Max<=3
 ch:∀t,t∈ts->(∀m,m∈t.ae->m.af<=12)/\(∀y,y∈t.a7->y.af<=6)/\t.ae.length<=12
 W:∀t,t∈ts->∀m,m∈t.ae->m.bD=true->wt m.bk<=13
theorem mm{v:I}(d:v.aE=[])(hi:v.al=[])(e:v.Rest=[])(hs:v.bA.length<=1000)(dy:bw v.Kind)(b:bw v.bq)(c:bw v.af):bS v:=by
 refine .mk v (by grind[reachBytes]) (by grind) (by grind) (by grind) (λx a=>?_) (λx a=>?_) (λx a=>?_) dy b c (λx a=>?_)
 all_goals grind
theorem Qa:bS aK:=mm rfl rfl rfl (by simp[aK]) (by grind[bw,aK]) (by grind[bw,aK]) (by grind[bw,aK])
theorem Hz{v:I}(a:v.aE=[])(hi:v.al=[])(b:v.Rest=[]):wt v=10+v.bA.length:=by
 grind[hR,hj]
section
variable {aG:List fg}(cm:∀x,x∈aG->mV x)(bf:aG.length<=5)(h1:1<=aG.length){l:List ah}(ad:l.length=aG.length)(cP:∀j,j<aG.length->fl aG (j:Int) (l.getD j ar))
include cm bf in
theorem MD{t:Int}(ht:0<=t/\t<aG.length){v:I}(h:Init aG t v):bS v/\wt v<=13:=by
 obtain⟨a,b,c,h⟩:=h;obtain⟨j,rfl⟩:∃j:Nat,t=j:=⟨t.toNat,by omega⟩
 obtain⟨_,aZ,gM⟩:=q3 cm bf ht.1 ht.2;rw[aW]at h;have d:=(ua (aG.getD j eF)).2.1.2;rw[Hz a b c];have hs:v.bA.length<=3:=by grind
 refine⟨mm a b c (by omega) ?_ ?_ ?_,by omega⟩
 . unfold bw;rcases h with h|h|h|h|h<;>omega
 . unfold bw;rcases h with⟨_,_,e,_⟩|⟨_,_,_,_,_,e⟩|⟨_,_,_,e,_⟩|⟨_,_,_,e,_⟩|⟨_,_,e,_⟩<;>omega
 . unfold bw
   grind
include cm bf in
theorem IX{i:Int}{r:Bool}{e:List aO}(h:tC aG i r e):px (!r) e\/(r=false/\e=[]):=by
 obtain⟨a,b,c⟩:=h;by_cases h0:r=false/\e=[]
 . grind
 left;refine⟨λm d=>?_,?_,⟨a,λm d=>?_⟩,λm d=>?_,?_,by omega⟩
 . have q:=b m d;unfold oh;have p:m.bD=false->pw m.bk=true:=λh=>by
    rw[q.P4 h];have g:=B' Qa aK;obtain⟨w,t,u⟩:=g
    grind[pw]
   have n:=q.dV;have o:=q.un
   grind
 . grind
 . have:=(b m d).id;exact⟨by omega,by omega⟩
 . have q:=b m d;have:=q.id;rw[q.name];exact Nl (by simp) (by omega)
 . unfold List.Nodup;rw[q6];refine a.imp_of_mem λ{x y} j k aI=>?_
   have l:=b x j;have f:=b y k;have s:=f.id;rw[l.name,f.name]
   grind[nn]
theorem IY{l:List Int}(h:tx l 6)(h1:1<=l.length)(c:l.length<=6):y5 (pP l)/\(∀y,y∈pP l->y.af<=6):=by
 unfold pP;refine⟨⟨by grind,⟨?_,λy a=>?_⟩,λy a=>?_,?_,by grind⟩,λy a=>?_⟩
 . rw[q6];exact h.1
 . obtain⟨x,b,rfl⟩:=hM.1 a;have:=h.2 x b;exact⟨this.1,by grind⟩
 . obtain⟨x,b,rfl⟩:=hM.1 a;have:=h.2 x b;exact Nl (by simp) (by omega)
 . unfold List.Nodup;rw[q6,q6];refine h.1.imp_of_mem λ{x y} b a aI=>?_
   have d:=h.2 y a
   grind[nn]
 . obtain⟨x,b,rfl⟩:=hM.1 a;exact(h.2 x b).2
theorem ME{i:Int}{t:ah}(h:fl aG i t):(ea aG i<=5\/ea aG i=7\/ea aG i=9->t.Kind=ea aG i)/\(ea aG i=6->t.Kind=5\/t.Kind=6)/\(ea aG i=8->(t.Kind=8/\∃w,ob aG w)\/(t.Kind=7/\¬∃w,ob aG w)):=by
 rcases h with⟨k,rfl⟩|⟨k,rfl⟩|⟨k,rfl⟩|⟨k,_,rfl⟩|⟨k,_,_,rfl⟩|⟨k,rfl⟩|⟨k,_,_,_,_,rfl⟩|⟨k,rfl⟩|⟨k,a,rfl⟩|⟨k,w,a,rfl⟩|⟨k,rfl⟩<;>simp[k]
 . omega
 grind
theorem GX{i:Int}{t:ah}(h:fl aG i t):t.ae=[]\/∃r,tC aG i r t.ae:=by
 rcases h with⟨k,rfl⟩|⟨k,rfl⟩|⟨k,rfl⟩|⟨k,_,rfl⟩|⟨k,_,a,rfl⟩|⟨k,rfl⟩|⟨k,_,_,a,_,rfl⟩|⟨k,rfl⟩|⟨k,a,rfl⟩|⟨k,w,a,rfl⟩|⟨k,rfl⟩
 all_goals grind
include cm bf h1 ad cP in
theorem abl:dH l:=by
 have p:∀{P:ah->Prop},(∀j,j<aG.length->P (l.getD j ar))->∀t,t∈l->P t:=λad t ht=>by
  obtain⟨i,hi,rfl⟩:=jd ht
  grind
 have A:∀j,j<aG.length->mV (aG.getD j eF):=λj d=>cm _ (bo d eF)
 have D:∀j,j<aG.length->∀m,m∈(l.getD j ar).ae->∃r,tB aG (j:Int) r m:=λj d m g=>by
  rcases GX (cP j d)with h|⟨r,_,h,_⟩
  . grind
  grind
 have W:∀t,t∈l->e3 t:=p λj d=>by
  have g:=D j d;have ht:=cP j d;have aa:(l.getD j ar).ae.length<=12:=by
   rcases GX ht with h|⟨r,_,_,h⟩
   . rw[h];simp
   . exact h
  have ab:(l.getD j ar).a7.length<=6:=by
   have hi:=(ua (aG.getD j eF)).2.2.2;unfold fl at ht;rcases ht with⟨k,e⟩|⟨k,e⟩|⟨k,e⟩|⟨k,_,e⟩|⟨k,_,_,e⟩|⟨k,e⟩|⟨k,_,_,_,_,e⟩|⟨k,e⟩|⟨k,_,e⟩|⟨k,_,_,e⟩|⟨k,e⟩<;>rw[e]
   case inr.inr.inr.inl=>simp only[aW,pP,kn];exact hi
   all_goals simp
  refine⟨by unfold reachBytes;omega,by unfold reachBytes;omega,λm V=>?_⟩;obtain⟨r,q⟩:=g m V;by_cases B:m.bD=true
  . exact(MD cm bf ⟨q.rf.1,q.rf.2.1⟩ (q.jP B)).1
  . rw[q.P4 (by simpa using B)];exact Qa
 have ai:∀f:Int,0<=f->f<aG.length->7<=ea aG f->7<=(l.getD f.toNat ar).Kind:=λf h0 z H=>by
  obtain⟨j,rfl⟩:∃j:Nat,f=(j:Int):=⟨f.toNat,by omega⟩
  rw[aW];obtain⟨_,_,gM⟩:=q3 cm bf h0 z;obtain⟨a,b,c⟩:=ME (cP j (by omega));omega
 have X:pY l:=by
  refine⟨by omega,p λj d=>?_,λj d=>?_,p λj d=>?_,p λj d E=>?_⟩
  . have ht:=cP j d;have hid:=ua (aG.getD j eF);have u:=(A j d).a;have I:=(A j d).b;have F:nm [UInt8.ofNat (65+j)]=true:=acO (by omega);unfold dr at u I;unfold fl at ht;simp only[aW]at ht;generalize [UInt8.ofNat (65+j)]=al at F ht;unfold fv
    rcases ht with⟨k,e⟩|⟨k,e⟩|⟨k,e⟩|⟨k,_,e⟩|⟨k,n,a,e⟩|⟨k,e⟩|⟨k,n,_,a,a0,e⟩|⟨k,e⟩|⟨k,_,e⟩|⟨k,_,_,e⟩|⟨k,e⟩<;>rw[e]
    . simp
    . simp;omega
    . simp;omega
    . simp;exact⟨F,(IY hid.2.1 hid.2.2.1 hid.2.2.2).1⟩
    . simp;refine⟨F,?_⟩;rcases IX cm bf a with h|⟨h,_⟩
      . exact h
      . cases h
    . simp;exact⟨F,λm g=>(by cases g),.inl rfl,⟨.nil,λm g=>by cases g⟩,λm g=>(by cases g),by simp,by simp⟩
    . simp;refine⟨F,?_⟩;rcases IX cm bf a with h|⟨_,h⟩
      . exact h
      grind
    . simp;omega
    . simp;omega
    . simp;omega
    . simp
  ·
   have S:∀k,k<aG.length->(l.getD k ar).Name=[]\/(l.getD k ar).Name=[UInt8.ofNat (65+k)]:=λk Q=>by
    have ht:=cP k Q;unfold fl at ht;simp only[aW]at ht;rcases ht with⟨k,e⟩|⟨k,e⟩|⟨k,e⟩|⟨k,_,e⟩|⟨k,n,a,e⟩|⟨k,e⟩|⟨k,n,_,a,a0,e⟩|⟨k,e⟩|⟨k,_,e⟩|⟨k,_,_,e⟩|⟨k,e⟩<;>rw[e]<;>simp
   rcases S j (by omega)with h|h
   . rw[h];simp
   . rw[h];simp only[Bool.and_eq_false_iff];right;apply vA.2;intro J;obtain⟨k,Q,he⟩:=(qP (by simp;omega)).1 J;have aj:(l.map (·.Name)).getD k []=(l.getD k ar).Name:=i' (·.Name) l k ar [] (by omega);rw[aj]at he;rcases S k (by omega)with N|N
     . grind
     . rw[N]at he;simp only[List.cons.injEq,vu]at he;have s:=cC UInt8.toNat he;rw[nn (by omega),nn (by omega)]at s;omega
  . intro f z;have g:=D j d;have J:=(A j d).c;unfold dr at J;have c0:0<=(aG.getD j eF).C%(aG.length:Int):=lX _ (by omega);have c1:(aG.getD j eF).C%(aG.length:Int)<aG.length:=lV _ (by omega);have ht:=cP j d;unfold fl at ht;simp only[aW]at ht;generalize (aG.getD j eF).C%(aG.length:Int)=Z at c0 c1 ht;unfold fk at z
    simp only[fX,hM]at z;rcases z with(⟨m,h,rfl⟩|h)|h
    . obtain⟨r,q⟩:=g m h;have:=q.rf.1;have:=q.rf.2.1;omega
    . split at h
      . rename_i E;have:f=(l.getD j ar).Key:=by simpa using h
        rw[this];rcases ht with⟨k,e⟩|⟨k,e⟩|⟨k,e⟩|⟨k,_,e⟩|⟨k,n,a,e⟩|⟨k,e⟩|⟨k,n,_,a,a0,e⟩|⟨k,e⟩|⟨k,_,e⟩|⟨k,w,a,e⟩|⟨k,e⟩<;>rw[e]at E⊢<;>simp at E⊢
        obtain⟨ll,Y,_⟩:=a;omega
      . cases h
    . split at h
      . rename_i H;have:f=(l.getD j ar).aH:=by simpa using h
        rw[this];rcases ht with⟨k,e⟩|⟨k,e⟩|⟨k,e⟩|⟨k,_,e⟩|⟨k,n,a,e⟩|⟨k,e⟩|⟨k,n,_,a,a0,e⟩|⟨k,e⟩|⟨k,_,e⟩|⟨k,w,a,e⟩|⟨k,e⟩<;>rw[e]at H⊢<;>simp at H⊢<;>omega
      . cases h
  . have ht:=cP j d;unfold fl at ht;simp only[aW]at ht;rcases ht with⟨k,e⟩|⟨k,e⟩|⟨k,e⟩|⟨k,_,e⟩|⟨k,n,a,e⟩|⟨k,e⟩|⟨k,n,_,a,a0,e⟩|⟨k,e⟩|⟨k,_,e⟩|⟨k,w,a,e⟩|⟨k,e⟩<;>rw[e]at E⊢<;>simp at E⊢
    obtain⟨ll,Y,ao,ap⟩:=a;obtain⟨q,rfl⟩:∃q:Nat,w=(q:Int):=⟨w.toNat,by omega⟩
    obtain⟨a,_,_⟩:=ME (cP q (by omega));have:=a (.inl (by omega));simp_all
 refine⟨by omega,by omega,W,X,p λj d m g B=>?_,λj d m g=>?_,p λj d O=>?_,p λj d=>?_,p λj d=>⟨λm g=>?_,λy K=>?_,?_⟩,p λj d m g B=>?_⟩
 . obtain⟨r,q⟩:=D j d m g;have hi:=q.jP B;obtain⟨L,M,_⟩:=q.rf;generalize m.bk=v at hi;obtain⟨f,z⟩:∃f:Nat,m.av=(f:Int):=⟨m.av.toNat,by omega⟩
   rw[z]at hi L M⊢;have ht:=cP f (by omega);obtain⟨a,b,c,hi⟩:=hi;rw[e4];simp only[aW]at hi⊢;unfold fl at ht;simp only[aW]at ht;have U:((l.length:Nat):Int)=aG.length:=by omega
   rw[U];generalize l.getD f ar=x at ht⊢;rw[a,b,c];have an:∀t,eN l true t []:=λt=>by rw[eN];trivial
   have ag:il []:=λi hi=>by simp at hi
   have R:=A f (by omega);generalize aG.getD f eF=ak at ht hi R;rcases hi with⟨k,az,s,cz,e6⟩|⟨k,az,s,cz,e6,gx,jQ⟩|⟨k,az,s,cz,e6,gx⟩|⟨k,az,s,cz,e6,gx⟩|⟨k,az,s,cz,e6,gx⟩
   . rw[k]at ht
     grind
   . rw[k]at ht
     grind
   . rw[k]at ht
     grind
   . rw[k]at ht;simp only[Int.reduceEq,false_and,true_and,or_false,false_or]at ht;obtain⟨o,rfl⟩:=ht;rw[az,s,cz,e6];simp;refine⟨by omega,⟨v.af,[UInt8.ofNat 115,UInt8.ofNat (97+v.af.toNat)]⟩,?_,rfl⟩;unfold pP
     grind
   . rw[az,s,cz,e6];have gM:ea aG (f:Int)<=9:=(q3 cm bf L M).2.2;have T:ea aG (f:Int)=7\/ea aG (f:Int)=8\/ea aG (f:Int)=9:=by omega
     have u:=R.a;unfold dr at u;rcases T with G|G|G
     . rw[G]at ht gx
       grind
     . rw[G]at ht gx
       grind
     . rw[G]at ht gx
       grind
 . obtain⟨r,q⟩:=D j (by omega) m g;obtain⟨L,M,am⟩:=q.rf
   grind
 . have ht:=cP j d;have u:=(A j d).a;have I:=(A j d).b;unfold dr at u I;unfold fl at ht;simp only[aW]at ht;rcases ht with⟨k,e⟩|⟨k,e⟩|⟨k,e⟩|⟨k,_,e⟩|⟨k,n,a,e⟩|⟨k,e⟩|⟨k,n,_,a,a0,e⟩|⟨k,e⟩|⟨k,_,e⟩|⟨k,w,a,e⟩|⟨k,e⟩<;>rw[e]at O⊢<;>simp at O⊢
   omega
 . have ht:=cP j d;have u:=(A j d).a;unfold dr at u;unfold fl at ht;simp only[aW]at ht;rcases ht with⟨k,e⟩|⟨k,e⟩|⟨k,e⟩|⟨k,_,e⟩|⟨k,n,a,e⟩|⟨k,e⟩|⟨k,n,_,a,a0,e⟩|⟨k,e⟩|⟨k,_,e⟩|⟨k,w,a,e⟩|⟨k,e⟩<;>rw[e]<;>simp<;>omega
 . obtain⟨r,q⟩:=D j d m g;exact q.id.2
 . have ht:=cP j d;have hid:=ua (aG.getD j eF);unfold fl at ht;simp only[aW]at ht;rcases ht with⟨k,e⟩|⟨k,e⟩|⟨k,e⟩|⟨k,_,e⟩|⟨k,n,a,e⟩|⟨k,e⟩|⟨k,n,_,a,a0,e⟩|⟨k,e⟩|⟨k,_,e⟩|⟨k,w,a,e⟩|⟨k,e⟩<;>rw[e]at K<;>simp at K
   exact(IY hid.2.1 hid.2.2.1 hid.2.2.2).2 y K
 . rcases GX (cP j d)with h|⟨r,_,_,h⟩
   . rw[h];simp
   . exact h
 . obtain⟨r,q⟩:=D j d m g;exact(MD cm bf ⟨q.rf.1,q.rf.2.1⟩ (q.jP B)).2
end
theorem Ew{d:eo}(g:tq d):qM d=some (⟨[]⟩,false)\/∃l,qM d=some (⟨l⟩,true)/\dH l:=by
 rcases of_eq g with h|⟨l,a,b,c,e,f⟩
 . grind
 . exact .inr ⟨l,a,abl g.2 c b e f⟩
def fh(a C:List Int):Prop:=a.length<=C.length/\∀c,c∈a->c∈C
theorem fh.refl(C:List Int):fh C C:=⟨eJ _,λ_ h=>h⟩
theorem fh.trans{A B C:List Int}(h:fh A B)(k:fh B C):fh A C:=⟨iO h.1 k.1,λc a=>k.2 c (h.2 c a)⟩
def gC(C:List Int):Prop:=∀c,c∈C->dr c
theorem gC.dS{A B:List Int}(h:gC B)(k:fh A B):gC A:=λc a=>h c (k.2 c a)
section
variable {ts:List ah}
theorem kN{n:Int}(aA:1<=n/\n<=1000){C:List Int}(dn:gC C)(ad:C.length<=1000)(odd:Bool):
 ∃r a,ix (n,ts,C,odd)=some (r,ts,a,odd)/\0<=r/\r<n/\fh a C/\(r=0/\a=[]/\C=[]\/a.length+1=C.length):=by
 rw[ix];cases C with
 |nil=>
  exact⟨0,[],rfl,by simp,by omega,fh.refl _,.inl ⟨rfl,rfl,rfl⟩⟩
 |cons c C=>
  have b:=dn c (.head _);unfold dr at b;have h1:ed 1 (c::C).length (c::C).length=true:=jM (by simp) (by simp);have d:eI (c::C) 1 (c::C).length=C:=by
   have:=oX (c::C) 1
   grind
  rw[ab (sU (by omega)),ab h1,d];simp only[AR,s4];rw[kT ⟨by omega,by omega⟩,hE b.1 (by omega)];exact⟨_,C,rfl,lX _ (by omega),lV _ (by omega),⟨by simp,λx e=>.tail _ e⟩,.inr (by rfl)⟩
theorem Ib{C:List Int}(dn:gC C)(ad:C.length<=1000)(odd:Bool):
 ∃o a,uj (ts,C,odd)=some (o,ts,a,odd)/\(odd=false->o=false)/\fh a C:=by
 rw[uj];cases odd with
 |false=>grind[fh.refl]
 |true=>
  obtain⟨r,a,h1,_,_,b,_⟩:=kN (n:=4) ⟨by simp,by simp⟩ dn ad _;rw[h1];exact⟨_,a,rfl,λh=>(by grind),b⟩
theorem ab8{x:ah}(b:x.ae.length<9223372036854775807)(hs:x.a7.length<9223372036854775807)(n:Int):dq (Bk (x,n)) ((∃m,m∈x.ae/\m.af=n)\/∃y,y∈x.a7/\y.af=n):=by
 obtain⟨r,_,c,a⟩:=oN n b;obtain⟨s,_,d,aj⟩:=yz n hs;rw[Bk,c];rw[d];refine⟨_,rfl,?_⟩;have h1:=FL aj;have f:r.2=true↔∃m,m∈x.ae/\m.af=n:=by
  rcases yA a with⟨e,j,g,_,_,i⟩|⟨e,q⟩
  . grind
  grind[si]
 grind
theorem IZ{x:ah}(b:x.ae.length<9223372036854775807)(hs:x.a7.length<9223372036854775807)(c:∀m,m∈x.ae->m.af<=12)(d:∀y,y∈x.a7->y.af<=6)(C:List Int)(odd:Bool):
 ∀(k:Nat) (n:Int),1<=n->n<=14->13<=n+k->∃b3,uN (n,ts,C,odd,x)=some (b3,ts,C,odd)/\1<=b3/\b3<=14/\(∀m,m∈x.ae->m.af≠b3)/\(∀y,y∈x.a7->y.af≠b3)
 |k,n,h1,f,a=>by
  obtain⟨r,e,i⟩:=ab8 b hs n;rw[uN,e];cases r with
  |false=>grind
  |true=>
   have g:n<=12:=by grind
   rw[hG (by omega) (by omega)]
   match k,a with
   |0,a=>omega
   |k+1,a=>exact IZ b hs c d C _ k _ (by omega) (by omega) (by omega)
theorem GY{x:ah}(e:x.ae.length<9223372036854775807)(hs:x.a7.length<9223372036854775807)(b:∀m,m∈x.ae->m.af<=12)(d:∀y,y∈x.a7->y.af<=6){C:List Int}(dn:gC C)(ad:C.length<=1000)(odd:Bool):
 ∃n a,p7 (x,ts,C,odd)=some (n,ts,a,odd)/\cO n/\cV x.ae n=none/\fh a C:=by
 obtain⟨r,a,h1,f,g,c,_⟩:=kN (ts:=ts) (n:=14) ⟨by simp,by simp⟩ dn ad odd;obtain⟨n,dy,i,j,k,_⟩:=IZ (ts:=ts) e hs b d a odd 12 (1+r) (by omega) (by omega) (by omega);refine⟨n,a,?_,⟨by omega,by omega⟩,?_,c⟩
 . grind[p7,hG]
 grind[cV]
theorem KM{n:Int}{C:List Int}(dn:gC C)(ad:C.length<=1000)(odd:Bool):∃d a,uk (n,ts,C,odd)=some (⟨n,d⟩,ts,a,odd)/\d.length<=3/\fh a C:=by
 obtain⟨r,a,h1,b,c,e,_⟩:=kN (n:=4) ⟨by simp,by simp⟩ dn ad _;obtain⟨k,rfl⟩:∃k:Nat,r=k:=⟨r.toNat,by omega⟩
 rw[uk];simp;rw[h1];simp only[ak];rw[ab (aN (by grind))]
 grind
theorem MF(odd:Bool):∀(k:Nat) (s:List UInt8) (C:List Int),k<=100->gC C->C.length<=1000->s.length+k<=100->∃b a,rQ (s,(k:Int),ts,C,odd)=some (b,ts,a,odd)/\b.length<=s.length+k/\fh a C
 |0,s,C,g,dn,ad,hs=>⟨s,C,by simp_all[rQ],by simp,fh.refl _⟩
 |k+1,s,C,g,dn,ad,hs=>by
  obtain⟨r,a,h1,f,j,c,_⟩:=kN (n:=3) ⟨by simp,by simp⟩ dn ad _;have i:decide (0<((k+1:Nat):Int))=true:=by simp
  have e:c' .i64 (k+1:Nat) 1=k:=by grind[fC]
  rw[rQ,ab i,h1];simp only[aV,ak];rw[H9 ⟨f,by omega⟩,ab (eY (by grind)),e];obtain⟨b,d,a1,a2,a3⟩:=MF _ k (s++[UInt8.ofNat _]) a (by omega) (dn.dS c) (by grind) (by grind);exact⟨b,d,a1,by grind,a3.trans c⟩
theorem ab9{most:Int}(f:0<=most/\most<=1000){C:List Int}(dn:gC C)(ad:C.length<=1000)(odd:Bool):∃s a,BB (most,ts,C,odd)=some (s,ts,a,odd)/\(s.length:Int)<=most/\s.length<=3/\fh a C:=by
 have em:aM .i64 (dD most 3) 1=min most 3+1:=by
  have:dD _ 3=min most 3:=rfl
  grind[hG]
 obtain⟨r,a,h1,d,e,b,_⟩:=kN (ts:=ts) (n:=min most 3+1) ⟨by omega,by omega⟩ dn ad odd;obtain⟨k,rfl⟩:∃k:Nat,r=k:=⟨r.toNat,by omega⟩
 obtain⟨s,c,a1,a2,a3⟩:=MF (ts:=ts) odd k [] a (by omega) (dn.dS b) (by grind) (by grind);refine⟨s,c,?_,by grind,by grind,a3.trans b⟩
 grind[BB]
end
theorem R6:∀a b:List UInt8,Op.bytesLess a b=false->a≠b->Op.bytesLess b a=true
 |[],[],_,h=>absurd rfl h
 |[],y::b,h,_=>by grind[Op.bytesLess]
 |x::a,[],h,_=>by rfl
 |x::a,y::b,h,c=>by
  simp[Op.bytesLess]at h⊢;by_cases h1:x<y
  . grind
  . by_cases f:y<x
    . grind
    . have d:Op.bytesLess a b=false:=by grind
      have:=R6 a b d (λe=>c (by grind))
      grind
theorem vk{a b:I}(c:bw a.bq)(d:bw b.bq):nI (a,b)=some (gZ a b):=by
 grind[Cp,gZ]
theorem aaV{a b:I}(d:bw a.bq)(e:bw b.bq)(h:0<gZ a b):gZ b a<0:=by
 have h1:=vk d e;have c:=vk e d;rw[nI]at h1 c;by_cases f:a.Kind=b.Kind
 . rw[ag (by grind)]at h1 c;by_cases aZ:a.Kind=1
   . have g:b.Kind=1:=by omega
     simp only[j7,fc]at h1 c
     grind
   . rw[ag (by grind)]at h1;rw[ag (by grind)]at c;by_cases ba:a.Kind=2
     . have i:b.Kind=2:=by omega
       rw[ab (by grind),qF d,qF e]at h1;rw[ab (by grind),qF d,qF e]at c;simp only[aV,ak,j7]at h1 c
       grind[Lf]
     . rw[ag (by grind)]at h1;rw[ag (by grind)]at c;by_cases bE:a.Kind=3
       . have j:b.Kind=3:=by omega
         rw[ab (by grind)]at h1;rw[ab (by grind)]at c;simp only[aV,ak,j7]at h1 c;by_cases ad:a.bA.length=b.bA.length
         . grind[R6]
         grind
       . rw[ag (by grind)]at h1;rw[ag (by grind)]at c;by_cases bU:a.Kind=4
         . simp only[aV,ak,j7]at h1 c
           grind
         grind
 grind
theorem Qk{v key item:I}(ad:v.aE.length<1000000)(l:∀x,x∈v.aE->bw x.bq)(n:bw key.bq)(a:Int)(b:Bool)(c:Int)(d:List UInt8)(e:Int):∀(k i:Nat),i+k=v.aE.length->
 (∀j,j<i->gZ (v.aE.getD j aK) key<0)->∃m:Nat,m<=v.aE.length/\qt ((i:Int),v,key,item,a,b,c,d,e)=some ((m:Int),v,key,item,a,b,c,d,e)/\(∀j,j<m->gZ (v.aE.getD j aK) key<0)/\(m<v.aE.length->0<=gZ (v.aE.getD m aK) key)
 |0,i,hi,g=>by
  have f:decide (i<(v.aE.length:Int))=false:=by grind
  refine⟨i,by omega,?_,g,λh=>by omega⟩;rw[qt];simp only[aV,ak,f,fM,AV,cw,cN,cv,hv,I.bj]
 |k+1,i,hi,g=>by
  have aI:i<v.aE.length:=by omega
  have f:decide ((i:Int)<(v.aE.length:Int))=true:=by grind
  have o:=vk (l _ (bo aI aK)) n;rw[qt];simp only[aV,ak,f,eb,fN,cw,I.bj,aW];rw[ab (aN aI),o];simp only[ak];by_cases q:gZ (v.aE.getD i aK) key<0
  . rw[ab (by grind),bB (by omega)];refine Qk ad l n a b c d e k _ (by omega) λj p=>?_
    grind
  grind
theorem xW:∀(a b:List I),dN (a++b)=dN a+dN b
 |[],b=>by grind[hj]
 |x::a,b=>by rw[q7,iE,iE,xW a b];omega
theorem KN{α:Type}{l:List α}{m:Nat}{x d:α}(a:m<=l.length)(i:Nat):(l.take m++(x::l.drop m)).getD i d=if i<m then l.getD i d else if i=m then x else l.getD (i-1) d:=by grind
theorem adv{v key item:I}(ad:v.aE.length<1000)(r:v.al.length=v.aE.length)(k:∀x,x∈v.aE->bw x.bq)(l:bw key.bq)(e:il v.aE):
 ∃ks b,Bm (v,key,item)=some ⟨v.Kind,v.b',v.bq,v.bA,v.af,ks,b,v.Rest⟩/\b.length=ks.length/\ks.length<=v.aE.length+1/\il ks/\(∀x,x∈ks->x∈v.aE\/x=key)/\(∀x,x∈b->x∈v.al\/x=item)/\dN ks+dN b<=dN v.aE+dN v.al+wt key+wt item:=by
 obtain⟨m,d,t,B,C⟩:=Qk (item:=item) (by omega) k l 0 false 0 [] 0 v.aE.length 0 (by simp) (λj z=>by omega);have u:qt (0,v,key,item,0,false,0,[],0)=_:=t;rw[Bm];simp only[I.bj];rw[u];simp only[aV,ak,I.bj]
 have ins:∀(s:m<v.aE.length->0<gZ (v.aE.getD m aK) key),∃ks b,(some (⟨v.Kind,v.b',v.bq,v.bA,v.af,v.aE.take m++(key::v.aE.drop m),v.al.take m++(item::v.al.drop m),v.Rest⟩:I):Option I)=some ⟨v.Kind,v.b',v.bq,v.bA,v.af,ks,b,v.Rest⟩/\b.length=ks.length/\ks.length<=v.aE.length+1/\il ks/\(∀x,x∈ks->x∈v.aE\/x=key)/\(∀x,x∈b->x∈v.al\/x=item)/\dN ks+dN b<=dN v.aE+dN v.al+wt key+wt item:=by
  intro s;refine⟨_,_,rfl,by grind,by grind,λi hi=>?_,λx c=>?_,λx c=>?_,?_⟩
  . rw[KN d,KN d];have A:(v.aE.take m++(key::v.aE.drop m)).length=v.aE.length+1:=by grind
    by_cases h1:i+1<m
    . rw[ab (by omega),ab h1];exact e i (by omega)
    . by_cases w:i+1=m
      . grind
      . by_cases y:i=m
        . simp_all[ag,ab,aaV,bo]
        . have:=e (i-1) (by omega)
          grind
  . grind
  . grind
  grind[xW,iE,List.take_append_drop]
 have s1:ed 0 (m:Int) v.aE.length=true:=jM (a:=0) (by simp) d;have n:ed (m:Int) (v.aE.length:Int) v.aE.length=true:=jM d (by simp);have o:ed 0 (m:Int) v.al.length=true:=jM (a:=0) (by simp) (by omega);have p:ed (m:Int) (v.al.length:Int) v.al.length=true:=jM (by omega) (by simp);by_cases g:m<v.aE.length
 . have f:decide ((m:Int)<(v.aE.length:Int))=true:=by grind
   have q:=vk (k _ (bo g aK)) l;simp only[f,eb,fN,cw,gj,aW];rw[ab (aN g),q];simp only[ak];by_cases h0:gZ (v.aE.getD m aK) key=0
   . rw[ab (by grind)];refine⟨v.aE,v.al,by cases v;rfl,r,by simp,e,λx c=>.inl c,λx c=>.inl c,by omega⟩
   . rw[ag (by grind),ab s1,ab (dY (by simp) (by grind[eI]))];rw[ab (dY (by simp) (by grind[eI])),ab n,ab (dY (by simp) (by grind[eI])),ab o,ab (dY (by simp) (by grind[eI])),ab (dY (by simp) (by grind[eI])),ab p,ab (dY (by simp) (by grind[eI]))];rw[qV,qV,oX,oX]
     simp only[hr,jV,List.singleton_append];exact ins λ_=>by grind
 . have f:decide ((m:Int)<(v.aE.length:Int))=false:=by simp;omega
   simp only[f,fM,AV,cw,cN,cv,hv,ak];rw[ab s1,ab (dY (by omega) (by simp[eI];omega))]
   rw[ab (dY (by omega) (by simp[eI];omega)),ab n,ab (dY (by omega) (by simp[eI];omega)),ab o,ab (dY (by omega) (by simp[eI];omega)),ab (dY (by omega) (by simp[eI];omega)),ab p,ab (dY (by omega) (by simp[eI];omega))];rw[qV,qV,oX,oX];simp only[hr,jV,List.singleton_append]
   exact ins λh=>absurd h g
section
variable {ts:List ah}
mutual
theorem zu:∀(v:I) (t:Int),cI ts true t v->cI ts false t v
 |⟨k,b,i,s,id,ks,e,r⟩,t,h=>by
  rw[cI]at h⊢;obtain⟨⟨h1,o,p,A⟩,bf⟩:=h;have w:=G9 e;have B:=G9 ks;have D:=QN e;refine⟨⟨h1,o,p,λh=>by cases h⟩,?_⟩
  have y:(match cV (ts.getD t.toNat ar).ae id with
   |some m=>r=[]/\e.length=1/\eN ts true m.av e
   |none=>(ts.getD t.toNat ar).Open=true/\true=false/\cO id/\e=[]/\∃d,r=[⟨id,d⟩])->(match cV (ts.getD t.toNat ar).ae id with
   |some m=>r=[]/\e.length=1/\eN ts false m.av e
   |none=>(ts.getD t.toNat ar).Open=true/\false=false/\cO id/\e=[]/\∃d,r=[⟨id,d⟩]):=by
   split
   . rintro ⟨a,b,c⟩;exact⟨a,b,w _ c⟩
   . rintro ⟨_,b,_⟩;cases b
  rcases bf with h|h|h|⟨a1,a2,a3,a4,a5,f,g,j⟩|⟨a1,a2,a3,a4,a5,f,g,j⟩|⟨a1,a2,a3,a4,a5,f⟩|⟨a1,a2,a3,a4,a5,f,g,j,a9⟩|⟨a1,a2,a3,a4,a5,f,g,j,a9,q,x⟩|⟨a1,a2,a3,a4,a5,f,g,j,a9⟩
  . exact .inl h
  . grind
  . grind
  . grind
  . grind
  . grind
  . grind
  . grind
  grind
theorem G9:∀(l:List I) (t:Int),eN ts true t l->eN ts false t l
 |[],t,h=>by rw[eN];trivial
 |v::l,t,h=>by
  rw[eN]at h⊢;exact⟨zu v t h.1,G9 l t h.2⟩
theorem QN:∀(l:List I) (ms:List aO),h8 ts true ms l->h8 ts false ms l
 |[],[],h=>by rw[h8];trivial
 |[],m::ms,h=>by
  have:h8 ts true (m::ms) []=False:=by rw[h8]<;>(intros;simp_all)
  grind
 |v::l,[],h=>by
  have:h8 ts true [] (v::l)=False:=by rw[h8]<;>(intros;simp_all)
  grind
 |v::l,m::ms,h=>by
  rw[h8]at h⊢;exact⟨zu v m.av h.1,QN l ms h.2⟩
end
theorem KO{v:I}{t:Int}(h:cI ts true t v)(pl:Bool):cI ts pl t v:=by
 cases pl with
 |true=>exact h
 |false=>exact zu v t h
def e2(ts:List ah)(t:Nat):Nat:=if 7<=(ts.getD t ar).Kind then 0 else t+1
def dQ:Nat->Nat
 |0=>20
 |n+1=>12*dQ n+20
theorem pT{a:Nat}:∀{b:Nat},a<=b->dQ a<=dQ b
 |0,h=>by have:a = 0:= by omega
          subst this;omega
 |b+1,h=>by
  by_cases e:a=b+1
  . grind
  . have:=pT (a:=a) (b:=b) (by omega);simp only[dQ];omega
theorem Dv(r:Nat):20<=dQ r:=pT (a:=0) (lb _)
theorem wb:dQ 5=5429060:=rfl
def l7(ts:List ah)(odd:Bool)(C:List Int)(r:Nat)(t:Int):Prop:=∃v a,jj (t,ts,C,odd)=some (v,ts,a,odd)/\cI ts (!odd) t v/\bS v/\fh a C/\wt v+32574360*a.length<=dQ r+32574360*C.length
theorem Np {odd:Bool}{c r:Nat}(H:c<=1000){x:ah}(F:x.ae.length<=12)(p:∀m,m∈x.ae->(∀C,gC C->C.length<=c->l7 ts odd C r m.av)/\(m.bD=true->cI ts true m.av m.bk/\bS m.bk/\wt m.bk<=13))
 (a0:Int)(a1:Bool)(a2:Int)(a3:List UInt8)(a4:Int)(v0:Int)(v1:Bool)(v2:Int)(v3:List UInt8)(v4:Int):
 ∀(k i:Nat) (C:List Int) (acc:List I),i+k=x.ae.length->gC C->C.length<=c->acc.length=i->(∀j,j<i->cI ts (!odd) (x.ae.getD j au).av (acc.getD j aK))->(∀y,y∈acc->bS y)->
 ∃a b,mx ((i:Int),ts,C,odd,a0,a1,a2,a3,a4,x.Kind,x.Name,x.bz,x.bx,x.Max,x.a7,x.ae,x.Key,x.aH,x.Open,v0,v1,v2,v3,v4,acc)=some (ts,b,odd,a0,a1,a2,a3,a4,x.Kind,x.Name,x.bz,x.bx,x.Max,x.a7,x.ae,x.Key,x.aH,x.Open,v0,v1,v2,v3,v4,a)/\
  a.length=x.ae.length/\(∀j,j<x.ae.length->cI ts (!odd) (x.ae.getD j au).av (a.getD j aK))/\(∀y,y∈a->bS y)/\fh b C/\dN a+32574360*b.length<=dN acc+k*dQ r+32574360*C.length
 |0,i,C,acc,hi,dn,ad,G,o,g=>⟨acc,C,by rw[mx,ag (by simp;omega)],by omega,λj L=>o j (by omega),g,fh.refl _,by omega⟩
 |k+1,i,C,acc,hi,dn,ad,G,o,g=>by
  have aI:i<x.ae.length:=by omega
  obtain⟨s,K⟩:=p _ (bo aI au)
  have next:∀ (w:I) (d:List Int),cI ts (!odd) (x.ae.getD i au).av w->bS w->fh d C->wt w+32574360*d.length<=dQ r+32574360*C.length->
   ∃a b,(if room 120 (acc++[w]).length=true then mx (aM .i64 (i:Int) 1,ts,d,odd,a0,a1,a2,a3,a4,x.Kind,x.Name,x.bz,x.bx,x.Max,x.a7,x.ae,x.Key,x.aH,x.Open,v0,v1,v2,v3,v4,acc++[w])else none)=some (ts,b,odd,a0,a1,a2,a3,a4,x.Kind,x.Name,x.bz,x.bx,x.Max,x.a7,x.ae,x.Key,x.aH,x.Open,v0,v1,v2,v3,v4,a)/\
    a.length=x.ae.length/\(∀j,j<x.ae.length->cI ts (!odd) (x.ae.getD j au).av (a.getD j aK))/\(∀y,y∈a->bS y)/\fh b C/\dN a+32574360*b.length<=dN acc+(k+1)*dQ r+32574360*C.length:=by
   intro w d P M hs Q;rw[ab (dY (by omega) (by simp;omega)),bB (by omega)]
   obtain⟨a,b,b1,b2,A,B,D,E⟩:=Np H F p a0 a1 a2 a3 a4 v0 v1 v2 v3 v4 k (i+1) d (acc++[w]) (by omega) (dn.dS hs) (by have:=hs.1;omega) (by simp;omega) (λj L=>by
    grind) (λy N=>by
    rcases fX.1 N with h|h
    . exact g y h
    . have:y=w:=by simpa using h
      subst this;exact M)
   refine⟨a,b,b1,b2,A,B,D.trans hs,?_⟩;rw[xW,iE,hj]at E;have e:(k+1)*dQ r=k*dQ r+dQ r:=Nat.succ_mul _ _;omega
  rw[mx,ab (by simp;omega),ab (aN aI)];simp only[aV,ak,aW,I.bj];cases J:(x.ae.getD i au).bD with
  |true=>
   obtain⟨f1,f2,f3⟩:=K J;obtain⟨q,d,dy,R,S,f,eB⟩:=kN (ts:=ts) (n:=3) ⟨by omega,by omega⟩ dn (by omega) odd;rw[ab rfl,dy];simp only[ak,gj];by_cases h0:q=0
   . rw[ab (by simpa using h0)];have:=f.1;have:=Dv r;rw[ab (aN aI)];exact next _ d (KO f1 _) f2 f (by omega)
   . rw[ag (by simpa using h0),ab (aN aI)];obtain⟨w,l,t,u,v,z,O⟩:=s d (dn.dS f) (by have:=f.1;omega);rw[t];simp only[ak,I.bj];have:=f.1;exact next w l u v (z.trans f) (by omega)
  |false=>
   rw[ag (by simp),ag (by simp),ab (aN aI)];obtain⟨w,l,t,u,v,z,O⟩:=s C dn ad
   grind
theorem MG {odd:Bool}{c r:Nat}(n:c<=1000){x:ah}(cp:∀C,gC C->C.length<=c->l7 ts odd C r x.aH)
 (a0:Int)(a1:Bool)(a2:Int)(a3:List UInt8)(a4:Int)(v0:Int)(v1:Bool)(v2:Int)(v3:List UInt8)(v4:Int):
 ∀(k:Nat) (C:List Int) (acc:List I),acc.length+k<=100->gC C->C.length<=c->(∀y,y∈acc->cI ts (!odd) x.aH y/\bS y)->
 ∃a b,qx ((k:Int),ts,C,odd,a0,a1,a2,a3,a4,x.Kind,x.Name,x.bz,x.bx,x.Max,x.a7,x.ae,x.Key,x.aH,x.Open,v0,v1,v2,v3,v4,acc)=some (ts,b,odd,a0,a1,a2,a3,a4,v0,v1,v2,v3,v4,a)/\
  a.length=acc.length+k/\(∀y,y∈a->cI ts (!odd) x.aH y/\bS y)/\fh b C/\dN a+32574360*b.length<=dN acc+k*dQ r+32574360*C.length
 |0,C,acc,m,dn,ad,f=>⟨acc,C,by rw[qx,ag (by simp)],by omega,f,fh.refl _,by omega⟩
 |k+1,C,acc,m,dn,ad,f=>by
  have o:decide ((0:Int)<((k+1:Nat):Int))=true:=by rw[hq];omega
  have e:c' .i64 ((k+1:Nat):Int) 1=(k:Int):=by rw[fC (by omega) (by omega)];omega
  obtain⟨w,g,p,s,t,d,u⟩:=cp C dn ad;rw[qx,ab o,p];simp only[aV,ak,I.bj];rw[ab (dY (by omega) (by simp;omega)),e];obtain⟨a,b,b1,b2,i,j,l⟩:=MG n cp a0 a1 a2 a3 a4 v0 v1 v2 v3 v4 k g (acc++[w]) (by simp;omega) (dn.dS d) (by have:=d.1;omega) (λy q=>by grind)
  refine⟨a,b,b1,by simp at b2;omega,i,j.trans d,?_⟩;rw[xW,iE,hj]at l
  grind
theorem Nq {odd:Bool}{c r:Nat}(F:c<=1000){x:ah}(br:∀C,gC C->C.length<=c->l7 ts odd C r x.Key)(cp:∀C,gC C->C.length<=c->l7 ts odd C r x.aH)
 (a0:Int)(a1:Bool)(a2:Int)(a3:List UInt8)(a4:Int)(v0:Int)(v1:Bool)(v2:Int)(v3:List UInt8)(v4:Int)(R:List cF):
 ∀(k:Nat) (C:List Int) (ks a:List I),ks.length+k<=100->a.length=ks.length->gC C->C.length<=c->(∀y,y∈ks->cI ts (!odd) x.Key y/\bS y)->(∀y,y∈a->cI ts (!odd) x.aH y/\bS y)->il ks->
 ∃b d f,p6 ((k:Int),ts,C,odd,a0,a1,a2,a3,a4,x.Kind,x.Name,x.bz,x.bx,x.Max,x.a7,x.ae,x.Key,x.aH,x.Open,v0,v1,v2,v3,v4,ks,a,R)=some (ts,f,odd,a0,a1,a2,a3,a4,v0,v1,v2,v3,v4,b,d,R)/\
  b.length<=ks.length+k/\d.length=b.length/\(∀y,y∈b->cI ts (!odd) x.Key y/\bS y)/\(∀y,y∈d->cI ts (!odd) x.aH y/\bS y)/\il b/\fh f C/\dN b+dN d+32574360*f.length<=dN ks+dN a+2*(k*dQ r)+32574360*C.length
 |0,C,ks,a,E,m,dn,ad,l,aj,j=>⟨ks,a,C,by rw[p6,ag (by simp)],by omega,m,l,aj,j,fh.refl _,by omega⟩
 |k+1,C,ks,a,E,m,dn,ad,l,aj,j=>by
  have G:decide ((0:Int)<((k+1:Nat):Int))=true:=by rw[hq];omega
  have e:c' .i64 ((k+1:Nat):Int) 1=(k:Int):=by rw[fC (by omega) (by omega)];omega
  obtain⟨w,q,K,X,L,i,Y⟩:=br C dn ad;have V:=i.1;obtain⟨z,s,dy,M,N,n,eB⟩:=cp q (dn.dS i) (by omega);have W:=n.1;obtain⟨J,H,o,O,P,Q,S,p,T⟩:=adv (v:=⟨v0,v1,v2,v3,v4,ks,a,R⟩) (key:=w) (item:=z) (by show ks.length<1000;omega) m (λy g=>uU (l y g).2) (uU L) j;simp only at o P S p T
  rw[p6,ab G,K];simp only[aV,ak,I.bj];rw[dy];simp only[ak,I.bj];rw[o];simp only[ak];rw[e]
  obtain⟨b,d,f,b1,b2,t,u,A,B,D,U⟩:=Nq F br cp a0 a1 a2 a3 a4 v0 v1 v2 v3 v4 R k s J H (by omega) O ((dn.dS i).dS n) (by omega) (λy g=>by
   grind) (λy g=>by
   rcases p y g with h|h
   . exact aj y h
   . subst h;exact⟨M,N⟩) Q
  refine⟨b,d,f,b1,by omega,t,u,A,B,D.trans (n.trans i),?_⟩
  grind
end
section
variable {ts:List ah}
theorem kf{v:I}(hs:v.bA.length<=1000)(b:∀x,x∈v.aE->bS x)(hi:∀x,x∈v.al->bS x)(h1:v.aE.length<=1000)(f:v.al.length<=1000)(g:v.Rest.length<=1000)(c:∀x,x∈v.Rest->x.Data.length<=1000/\bw x.af)(dy:bw v.Kind)(d:bw v.bq)(e:bw v.af):bS v:=
 .mk v (by grind[reachBytes]) (by grind[reachBytes]) (by grind[reachBytes]) (by grind[reachBytes]) b hi (λx a=>by grind[reachBytes]) dy d e (λx a=>(c x a).2)
theorem su{n:Int}(h:cO n):bw n:=by grind[cO,bw]
def zQ(ts:List ah)(odd:Bool)(c r:Nat):Prop:=∀t:Nat,t<ts.length->e2 ts t<=r->∀C,gC C->C.length<=c->l7 ts odd C r (t:Int)
theorem Ic(H:dH ts){t:Nat}(ht:t<ts.length):e2 ts t<=5:=by
 unfold e2;have:=H.eB
 grind
theorem l7.up{odd:Bool}{C:List Int}{r a:Nat}{t:Int}(h:l7 ts odd C r t)(j:r<=a):l7 ts odd C a t:=by
 obtain⟨v,c,h1,e,f,g,bf⟩:=h;exact⟨v,c,h1,e,f,g,by have:=pT j;omega⟩
theorem ab'(H:dH ts){odd:Bool}{c r:Nat}(bH:c<=60)(be:∀aU,aU<c->zQ ts odd aU 5)(bf:∀G,G<r->zQ ts odd c G):zQ ts odd c r:=by
 intro t ht bN C dn ad;have Y:=bo ht ar;have bP:=H.V.F _ Y;have cP:=H.T _ Y;have bL:=H.M _ Y;obtain⟨aK,aL,aX⟩:=H.ch _ Y;have bn:=H.R t ht;have bm:=H.L _ Y;have ay:=H.V.U _ Y;have bk:=H.D _ Y;have e0:=H.W _ Y;have bs:e2 ts t=if 7<=(ts.getD t ar).Kind then 0 else t+1:=rfl
 unfold l7;rw[jj,ab (aN ht)];simp only[aV,ak,aW];have S:=λv=>e4 (ts:=ts) (!odd) (t:Int) v
 simp only[aW]at S;generalize bV:ts.getD t ar=x at*;have bD:=Dv r;have B:(0:Int)<=t/\(t:Int)<ts.length:=by omega
 have ai:∀(v:I) (u:List Int),v.aE=[]->v.al=[]->v.Rest=[]->v.bA.length<=3->fh u C->wt v+32574360*u.length<=dQ r+32574360*C.length:=λv u a b c d e=>by rw[Hz a b c];have:=e.1;omega
 have below:∀l:List Int,l.length+1=C.length->∀am:Int,0<=am->am<ts.length->∀p,gC p->p.length<=l.length->l7 ts odd p 5 am:=λl h1 am bT bU p O P=>by
  obtain⟨k,rfl⟩:∃k:Nat,am=(k:Int):=⟨am.toNat,by omega⟩
  exact be l.length (by omega) k (by omega) (Ic H (by omega)) p O P
 have bb:x.Kind=5\/x.Kind=6->1<=r/\∀m,m∈x.ae->∀p,gC p->p.length<=c->l7 ts odd p (r-1) m.av:=λbI=>by
  have bO:e2 ts t=t+1:=by rw[bs,ag (by omega)]
  refine⟨by omega,λm Q p O P=>?_⟩;obtain⟨a,b,bi⟩:=bn m Q;obtain⟨k,br⟩:∃k:Nat,m.av=(k:Int):=⟨m.av.toNat,by omega⟩
  rw[br]at bi⊢;refine bf (r-1) (by omega) k (by omega) ?_ p O P;have:e2 ts k<=t:=by
   unfold e2
   grind
  omega
 have aR:x.a7.length<9223372036854775807:=eg (iC cP.syms);have aO:x.ae.length<9223372036854775807:=eg (iC cP.gW);unfold fv at bP;rcases bP with⟨k,_⟩|⟨k,f1,f2,_⟩|⟨k,f1,f2,f3,f4,_⟩|⟨k,f1,f2,f3,f4,f5,_⟩|⟨k,f1,f2,f3,f4,f5,f6,_⟩|⟨k,f1,f2,f3,f4,f5,f6,_⟩|⟨k,f1,f2,f3,f4,_⟩|⟨k,f1,f2,f3,f4,_⟩|⟨k,_⟩
 . obtain⟨q,l,dy,aa,ah,g,eB⟩:=kN (ts:=ts) (n:=2) ⟨by omega,by omega⟩ dn (by omega) odd;rw[ab (by simp[k]),dy];refine⟨_,l,rfl,?_,mm rfl rfl rfl (by simp) (by simp[bw,k]) (by simp[bw]) (by simp[bw]),g,ai _ _ rfl rfl rfl (by simp) g⟩
   grind
 . obtain⟨q,l,dy,aa,ah,g,eB⟩:=kN (ts:=ts) (n:=256) ⟨by omega,by omega⟩ dn (by omega) odd;have bF:=bm k;have az:aM .i64 (c' .i64 x.bx x.bz) 1=x.bx-x.bz+1:=by rw[fC (by omega) (by omega),hG (by omega) (by omega)]
   have bW:0<=q%(x.bx-x.bz+1):=lX _ (by omega);have bX:q%(x.bx-x.bz+1)<x.bx-x.bz+1:=lV _ (by omega);rw[ag (by simp[k]),ab (by simp[k]),dy];simp only[ak];rw[az,ab (sU (by omega)),hE aa (by omega),hG (by omega) (by omega)]
   refine⟨_,l,rfl,?_,mm rfl rfl rfl (by simp) (by simp[bw,k]) (by simp only[bw];omega) (by simp[bw]),g,ai _ _ rfl rfl rfl (by simp) g⟩
   grind
 . obtain⟨s,l,dy,aa,ah,g⟩:=ab9 (ts:=ts) (most:=x.Max) ⟨f4.1,by omega⟩ dn (by omega) odd;rw[ag (by simp[k]),ag (by simp[k]),ab (by simp[k]),dy];refine⟨_,l,rfl,?_,mm rfl rfl rfl (by show s.length<=1000;omega) (by simp[bw,k]) (by simp[bw]) (by simp[bw]),g,ai _ _ rfl rfl rfl ah g⟩
   grind
 . have bR:=f5.1;have bQ:=f5.2.2.2.2;have a8:=f5.2.1.2;obtain⟨q,l,dy,aa,ah,g,eB⟩:=kN (ts:=ts) (n:=(x.a7.length:Int)) ⟨by omega,by omega⟩ dn (by omega) odd;obtain⟨j,rfl⟩:∃j:Nat,q=(j:Int):=⟨q.toNat,by omega⟩
   have ap:=g.1;have K:j<x.a7.length:=by omega
   have f:=bo K dm;rw[ag (by simp[k]),ag (by simp[k]),ag (by simp[k]),ab (by simp[k]),dy];simp only[ak];rw[ab (aN K)];simp only[aW];cases bv:x.Open with
   |false=>
    rw[ag (by simp),ag (by simp)];refine⟨_,l,rfl,?_,mm rfl rfl rfl (by simp) (by simp[bw,k]) (by simp[bw]) (su (a8 _ f)),g,ai _ _ rfl rfl rfl (by simp) g⟩
    grind
   |true=>
    obtain⟨o,p,aw,bc,z⟩:=Ib (ts:=ts) (dn.dS g) (by omega) odd;have aA:=z.1;rw[ab rfl,aw];simp only[ak,gj];cases o with
    |false=>
     rw[ag (by simp)];refine⟨_,p,rfl,?_,mm rfl rfl rfl (by simp) (by simp[bw,k]) (by simp[bw]) (su (a8 _ f)),(z.trans g),ai _ _ rfl rfl rfl (by simp) (z.trans g)⟩
     grind
    |true=>
     have aQ:odd=true:=by grind
     obtain⟨n,aG,ax,an,bd,N⟩:=GY (ts:=ts) aO aR aK aL ((dn.dS g).dS z) (by omega) odd;rw[ab rfl,ax];refine⟨_,aG,rfl,?_,mm rfl rfl rfl (by simp) (by simp[bw,k]) (by simp[bw]) (su an),N.trans (z.trans g),ai _ _ rfl rfl rfl (by simp) (N.trans (z.trans g))⟩
     grind
 . obtain⟨bB,aP⟩:=bb (.inl k);obtain⟨acc,l,b1,b2,J,E,A,ao⟩:=Np (ts:=ts) (odd:=odd) (c:=c) (r:=r-1) (by omega) (x:=x) aX (λm Q=>⟨aP m Q,λaZ=>⟨bk m Q aZ,cP.iL m Q,e0 m Q aZ⟩⟩) 0 false 0 [] 0 x.Kind false 0 [] 0 x.ae.length 0 C [] (by omega) dn ad rfl (λj K=>by omega) (λy f=>by cases f)
   have bh:mx (0,ts,C,odd,0,false,0,[],0,x.Kind,x.Name,x.bz,x.bx,x.Max,x.a7,x.ae,x.Key,x.aH,x.Open,x.Kind,false,0,[],0,[])=_:=b1;have ap:=A.1;have bE:dQ r=12*dQ (r-1)+20:=by
    obtain⟨G,rfl⟩:∃G,r=G+1:=⟨r-1,by omega⟩
    rfl
   have bK:x.ae.length*dQ (r-1)<=12*dQ (r-1):=et _ aX;rw[hj]at ao;have a0:h8 ts (!odd) x.ae acc:=kb.2 ⟨b2,J⟩;rw[ag (by simp[k]),ag (by simp[k]),ag (by simp[k]),ag (by simp[k]),ab (by simp[k]),bh];simp only[ak];obtain⟨o,p,aw,bc,z⟩:=Ib (ts:=ts) (dn.dS A) (by omega) odd
   have aA:=z.1;rw[aw];simp only[ak];cases o with
   |false=>
    rw[ag (by simp)];refine⟨_,p,rfl,?_,kf (by simp) (λy f=>by cases f) E (by simp) (by show acc.length<=1000;omega) (by simp) (λy f=>by cases f) (by simp[bw,k]) (by simp[bw]) (by simp[bw]),z.trans A,?_⟩
    . exact(S _).2 ⟨⟨B.1,B.2,rfl,λ_=>rfl⟩,.inr (.inr (.inr (.inr (.inl ⟨k,rfl,rfl,rfl,rfl,rfl,⟨.nil,λy f=>by cases f⟩,a0⟩))))⟩
    . rw[hR];simp only[hj,km,sY,vt];omega
   |true=>
    have aQ:odd=true:=by grind
    obtain⟨n,aG,ax,an,bd,N⟩:=GY (ts:=ts) aO aR aK aL ((dn.dS A).dS z) (by omega) odd;have bt:=N.1;obtain⟨d,aI,d1,d2,d3⟩:=KM (ts:=ts) (n:=n) (((dn.dS A).dS z).dS N) (by omega) odd;have bu:=d3.1;rw[ab rfl,CC,ax];simp only[ak];rw[d1];simp only[ak]
    refine⟨_,aI,rfl,?_,kf (by simp) (λy f=>by cases f) E (by simp) (by show acc.length<=1000;omega) (by simp) (λy f=>?_) (by simp[bw,k]) (by simp[bw]) (by simp[bw]),d3.trans (N.trans (z.trans A)),?_⟩
    . refine(S _).2 ⟨⟨B.1,B.2,rfl,λh=>by simp[aQ]at h⟩,.inr (.inr (.inr (.inr (.inl ⟨k,rfl,rfl,rfl,rfl,rfl,⟨by simp,λy f=>?_⟩,a0⟩))))⟩
      grind
    . have:y=⟨n,d⟩:=by simpa using f
      subst this;exact⟨by show d.length<=1000;omega,su an⟩
    . rw[hR];simp only[hj,km,je,sY,sW,vt];omega
 . obtain⟨bB,aP⟩:=bb (.inr k);have bG:0<x.ae.length:=by
    rcases f6.2.1 with h|h
    . cases h
    . exact h
   have bC:dQ (r-1)+20<=dQ r:=by
    obtain⟨G,rfl⟩:∃G,r=G+1:=⟨r-1,by omega⟩
    have:=Dv G;show dQ G+20<=12*dQ G+20;omega
   have bg:∀ aF,fh aF C->∃ v u,(Option.bind (ix ((x.ae.length:Int),ts,aF,odd)) λaj=>if aB aj.1 x.ae.length = true then
    (jj ((x.ae.getD aj.1.toNat au).av,aj.2.1,aj.2.2.1,aj.2.2.2)).bind λaD=>
     some ((⟨x.Kind,false,0,[],(x.ae.getD aj.1.toNat au).af,[],[aD.1],[]⟩:I),aD.2.1,aD.2.2.1,aD.2.2.2)
    else none)=some (v,ts,u,odd)/\cI ts (!odd) (t:Int) v/\bS v/\fh u C/\wt v+32574360*u.length<=dQ r+32574360*C.length:=by
    intro aF aC;have bJ:=aC.1;obtain⟨q,l,dy,aa,ah,g,eB⟩:=kN (ts:=ts) (n:=(x.ae.length:Int)) ⟨by omega,by omega⟩ (dn.dS aC) (by omega) odd;obtain⟨j,rfl⟩:∃j:Nat,q=(j:Int):=⟨q.toNat,by omega⟩
    have ap:=g.1;have K:j<x.ae.length:=by omega
    have Q:=bo K au;obtain⟨w,p,aS,a9,a',aq,ba⟩:=aP _ Q l ((dn.dS aC).dS g) (by omega);have aA:=aq.1;rw[dy];simp only[ak];rw[ab (aN K)];simp only[aW];rw[aS];simp only[ak];have bl:=f6.2.2.1.2 _ Q
    refine⟨_,p,rfl,?_,kf (by simp) (λy f=>by cases f) (λy f=>?_) (by simp) (by simp) (by simp) (λy f=>by cases f) (by simp[bw,k]) (by simp[bw]) (su bl),aq.trans (g.trans aC),?_⟩
    . refine(S _).2 ⟨⟨B.1,B.2,rfl,λ_=>rfl⟩,.inr (.inr (.inr (.inr (.inr (.inl ⟨k,rfl,rfl,rfl,rfl,?_⟩)))))⟩;have bq:cV x.ae (x.ae.getD j au).af=some (x.ae.getD j au):=by
       unfold cV;rw[Ek];refine⟨by simp,j,K,(gb K _).symm,λi hi=>?_⟩;have bM:=Em.1 f6.2.2.1.1 i j (by omega) K hi;rw[gb K];simp;omega
      simp only[bq];refine⟨by first|rfl|trivial,by first|rfl|trivial,?_⟩;rw[dR];intro y f;have:y=w:=by simpa using f
      subst this;exact a9
    . have:y=w:=by simpa using f
      subst this;exact a'
    . rw[hR];simp only[iE,hj,km,sY,vt];omega
   rw[ag (by simp[k]),ag (by simp[k]),ag (by simp[k]),ag (by simp[k]),ag (by simp[k]),ab (by simp[k])];simp only[I.bj];cases bv:x.Open with
   |false=>
    rw[ag (by simp),ag (by simp)];obtain⟨v,u,a1,a2,a3,a4,a5⟩:=bg C (fh.refl _)
    grind
   |true=>
    obtain⟨o,p,aw,bc,z⟩:=Ib (ts:=ts) dn (by omega) odd;have aA:=z.1;rw[ab rfl,aw];simp only[ak,gj];cases o with
    |false=>grind
    |true=>
     have aQ:odd=true:=by grind
     obtain⟨n,aG,ax,an,bd,N⟩:=GY (ts:=ts) aO aR aK aL (dn.dS z) (by omega) odd;have bt:=N.1;obtain⟨d,aI,d1,d2,d3⟩:=KM (ts:=ts) (n:=n) ((dn.dS z).dS N) (by omega) odd;have bu:=d3.1;rw[ab rfl,ax];simp only[ak];rw[d1];simp only[ak]
     refine⟨_,aI,rfl,?_,kf (by simp) (λy f=>by cases f) (λy f=>by cases f) (by simp) (by simp) (by simp) (λy f=>?_) (by simp[bw,k]) (by simp[bw]) (su an),d3.trans (N.trans z),?_⟩
     . grind
     . have:y=⟨n,d⟩:=by simpa using f
       subst this;exact⟨by show d.length<=1000;omega,su an⟩
     . rw[hR];simp only[hj,km,je,sY,sW,vt];omega
 . have em:aM .i64 (dD x.Max 3) 1=min x.Max 3+1:=by
    have:dD x.Max 3=min x.Max 3:=rfl;rw[this,hG (by omega) (by omega)]
   have X:0<=x.aH/\x.aH<ts.length:=ay x.aH (by unfold fk;simp[k]);obtain⟨q,l,dy,aa,ah,g,eB⟩:=kN (ts:=ts) (n:=min x.Max 3+1) ⟨by omega,by omega⟩ dn (by omega) odd;obtain⟨j,rfl⟩:∃j:Nat,q=(j:Int):=⟨q.toNat,by omega⟩
   have ap:=g.1
   have loop:∃acc u,qx ((j:Int),ts,l,odd,0,false,0,[],0,x.Kind,x.Name,x.bz,x.bx,x.Max,x.a7,x.ae,x.Key,x.aH,x.Open,x.Kind,false,0,[],0,[])=some (ts,u,odd,0,false,0,[],0,x.Kind,false,0,[],0,acc)/\acc.length=j/\(∀y,y∈acc->cI ts (!odd) x.aH y/\bS y)/\fh u C/\10+dN acc+32574360*u.length<=dQ r+32574360*C.length:=by
    rcases eB with⟨h0,h1,bj⟩|h1
    . have:j=0:=by omega
      subst this;refine⟨[],l,by rw[qx,ag (by simp)],rfl,λy f=>(by cases f),g,?_⟩;rw[hj];omega
    . obtain⟨acc,u,b1,b2,J,E,A⟩:=MG (ts:=ts) (odd:=odd) (c:=l.length) (r:=5) (by omega) (x:=x) (λp O P=>below l h1 x.aH X.1 X.2 p O P) 0 false 0 [] 0 x.Kind false 0 [] 0 j l [] (by simp;omega) (dn.dS g) (by omega) (λy f=>by cases f);refine⟨acc,u,b1,by simpa using b2,J,E.trans g,?_⟩;rw[hj,wb]at A;omega
   obtain⟨acc,u,b1,b2,J,E,A⟩:=loop;rw[ag (by simp[k]),ag (by simp[k]),ag (by simp[k]),ag (by simp[k]),ag (by simp[k]),ag (by simp[k]),ab (by simp[k]),em,dy];simp only[ak];rw[b1];simp only[ak]
   refine⟨_,u,rfl,?_,kf (by simp) (λy f=>by cases f) (λy f=>(J y f).2) (by simp) (by show acc.length<=1000;omega) (by simp) (λy f=>by cases f) (by simp[bw,k]) (by simp[bw]) (by simp[bw]),E,?_⟩
   . exact(S _).2 ⟨⟨B.1,B.2,rfl,λ_=>rfl⟩,.inr (.inr (.inr (.inr (.inr (.inr (.inl ⟨k,rfl,rfl,rfl,rfl,rfl,rfl,by show(acc.length:Int)<=x.Max;omega,dR.2 λy f=>(J y f).1⟩))))))⟩
   . rw[hR];simp only[hj,km,sY,vt];omega
 . have em:aM .i64 (dD x.Max 3) 1=min x.Max 3+1:=by
    have:dD x.Max 3=min x.Max 3:=rfl;rw[this,hG (by omega) (by omega)]
   have X:0<=x.aH/\x.aH<ts.length:=ay x.aH (by unfold fk;simp[k]);have a6:0<=x.Key/\x.Key<ts.length:=ay x.Key (by unfold fk;simp[k]);obtain⟨q,l,dy,aa,ah,g,eB⟩:=kN (ts:=ts) (n:=min x.Max 3+1) ⟨by omega,by omega⟩ dn (by omega) odd;obtain⟨j,rfl⟩:∃j:Nat,q=(j:Int):=⟨q.toNat,by omega⟩
   have ap:=g.1;have aY:il []:=λi hi=>by simp at hi
   have loop:∃ks Z u,p6 ((j:Int),ts,l,odd,0,false,0,[],0,x.Kind,x.Name,x.bz,x.bx,x.Max,x.a7,x.ae,x.Key,x.aH,x.Open,x.Kind,false,0,[],0,[],[],[])=some (ts,u,odd,0,false,0,[],0,x.Kind,false,0,[],0,ks,Z,[])/\ks.length<=j/\Z.length=ks.length/\(∀y,y∈ks->cI ts (!odd) x.Key y/\bS y)/\(∀y,y∈Z->cI ts (!odd) x.aH y/\bS y)/\il ks/\fh u C/\10+dN ks+dN Z+32574360*u.length<=dQ r+32574360*C.length:=by
    rcases eB with⟨h0,h1,bj⟩|h1
    . have:j=0:=by omega
      subst this;refine⟨[],[],l,by rw[p6,ag (by simp)],by simp,rfl,λy f=>(by cases f),λy f=>(by cases f),aY,g,?_⟩;rw[hj];omega
    . obtain⟨ks,Z,u,b1,b2,J,E,A,ao,aJ,aT⟩:=Nq (ts:=ts) (odd:=odd) (c:=l.length) (r:=5) (by omega) (x:=x) (λp O P=>below l h1 x.Key a6.1 a6.2 p O P) (λp O P=>below l h1 x.aH X.1 X.2 p O P) 0 false 0 [] 0 x.Kind false 0 [] 0 [] j l [] [] (by simp;omega) rfl (dn.dS g) (by omega) (λy f=>by cases f) (λy f=>by cases f) aY
      refine⟨ks,Z,u,b1,by simpa using b2,J,E,A,ao,aJ.trans g,?_⟩;rw[hj,wb]at aT;omega
   obtain⟨ks,Z,u,b1,b2,J,E,A,ao,aJ,aT⟩:=loop;rw[ag (by simp[k]),ag (by simp[k]),ag (by simp[k]),ag (by simp[k]),ag (by simp[k]),ag (by simp[k]),ag (by simp[k]),ab (by simp[k]),em,dy];simp only[ak];rw[b1];simp only[ak]
   refine⟨_,u,rfl,?_,kf (by simp) (λy f=>(E y f).2) (λy f=>(A y f).2) (by show ks.length<=1000;omega) (by show Z.length<=1000;omega) (by simp) (λy f=>by cases f) (by simp[bw,k]) (by simp[bw]) (by simp[bw]),aJ,?_⟩
   . exact(S _).2 ⟨⟨B.1,B.2,rfl,λ_=>rfl⟩,.inr (.inr (.inr (.inr (.inr (.inr (.inr (.inl ⟨k,rfl,rfl,rfl,rfl,rfl,by show(ks.length:Int)<=x.Max;omega,J,dR.2 λy f=>(E y f).1,dR.2 λy f=>(A y f).1,ao⟩)))))))⟩
   . rw[hR]
     grind
 . have X:0<=x.aH/\x.aH<ts.length:=ay x.aH (by unfold fk;simp[k]);obtain⟨q,l,dy,aa,ah,g,eB⟩:=kN (ts:=ts) (n:=2) ⟨by omega,by omega⟩ dn (by omega) odd;have ap:=g.1;rw[ag (by simp[k]),ag (by simp[k]),ag (by simp[k]),ag (by simp[k]),ag (by simp[k]),ag (by simp[k]),ag (by simp[k]),ag (by simp[k]),dy]
   simp only[ak,I.bj];by_cases h1:q=1
   . have bp:l.length+1=C.length:=by omega
     obtain⟨w,p,aS,a9,a',aq,ba⟩:=below l bp x.aH X.1 X.2 l (dn.dS g) (by omega);have aA:=aq.1;rw[wb]at ba;rw[ab (by simpa using h1),aS];simp only[ak]
     refine⟨_,p,rfl,?_,kf (by simp) (λy f=>by cases f) (λy f=>?_) (by simp) (by simp) (by simp) (λy f=>by cases f) (by simp[bw,k]) (by simp[bw]) (by simp[bw]),aq.trans g,?_⟩
     . refine(S _).2 ⟨⟨B.1,B.2,rfl,λ_=>rfl⟩,.inr (.inr (.inr (.inr (.inr (.inr (.inr (.inr ⟨k,rfl,rfl,rfl,rfl,rfl,rfl,by simp,dR.2 λy f=>?_⟩)))))))⟩
       grind
     . grind
     . rw[hR];simp only[iE,hj,km,sY,vt];omega
   . rw[ag (by simpa using h1)];refine⟨_,l,rfl,?_,mm rfl rfl rfl (by simp) (by simp[bw,k]) (by simp[bw]) (by simp[bw]),g,ai _ _ rfl rfl rfl (by simp) g⟩;exact(S _).2 ⟨⟨B.1,B.2,rfl,λ_=>rfl⟩,.inr (.inr (.inr (.inr (.inr (.inr (.inr (.inr ⟨k,rfl,rfl,rfl,rfl,rfl,rfl,by simp,dR.2 λy f=>by cases f⟩)))))))⟩
theorem Nr(H:dH ts){odd:Bool}:∀(c:Nat),c<=60->∀r,zQ ts odd c r:=by
 intro c
 induction c using Nat.strongRecOn with
 |ind c b=>
  intro a r
  induction r using Nat.strongRecOn with
  |ind r d=>grind[ab']
theorem aca(H:dH ts){t:Int}(ht:0<=t/\t<ts.length){C:List Int}(dn:gC C)(ad:C.length<=reachBytes):∃v,xj ((⟨ts⟩:bh),t,C)=some v/\cI ts true t v/\bS v/\wt v<=2147483648:=by
 obtain⟨j,rfl⟩:∃j:Nat,t=j:=⟨t.toNat,by omega⟩
 have d:dD 60 _=min 60 C.length:=Gx 60 _;have hs:gC (C.take (min 60 C.length)):=λc a=>dn c (pG a)
 have b:(C.take (min 60 C.length)).length<=60:=by grind
 have e:ed 0 (min 60 C.length:Nat) C.length=true:=jM (by simp) (by omega);obtain⟨v,f,h1,g,i,k,bf⟩:=Nr H 60 (by simp) 5 j (by omega) (Ic H (by omega)) _ hs b;rw[xj];simp only[aV,ak];rw[d,ab e,qV,h1]
 grind[I.bj,wb]
theorem Z6(H:dH ts){t:Int}(ht:0<=t/\t<ts.length){C:List Int}(dn:gC C)(ad:C.length<=reachBytes):∃v,xH ((⟨ts⟩:bh),t,C)=some v/\cI ts false t v/\bS v/\wt v<=2147483648:=by
 obtain⟨j,rfl⟩:∃j:Nat,t=j:=⟨t.toNat,by omega⟩
 have d:dD 60 _=min 60 C.length:=Gx 60 _;have hs:gC (C.take (min 60 C.length)):=λc a=>dn c (pG a)
 have b:(C.take (min 60 C.length)).length<=60:=by grind
 have e:ed 0 (min 60 C.length:Nat) C.length=true:=jM (by simp) (by omega);obtain⟨v,f,h1,g,i,k,bf⟩:=Nr H 60 (by simp) 5 j (by omega) (Ic H (by omega)) _ hs b;rw[xH];simp only[aV,ak];rw[d,ab e,qV,h1]
 grind[I.bj,wb]
end
structure Dz (d:lF):Prop where
 s:tq d.S
 t:dr d.T
 c:gC d.C
 l:d.C.length<=reachBytes
theorem af'{d:lF}(a:Dz d):(∃s t v w,qN d=some (s,t,v,w,false))\/
 ∃ts t v w,qN d=some (⟨ts⟩,t,v,w,true)/\dH ts/\(0<=t/\t<ts.length)/\(cI ts true t v/\bS v/\wt v<=2147483648)/\(cI ts false t w/\bS w/\wt w<=2147483648):=by
 rw[qN];rcases Ew a.s with h|⟨l,h,H⟩
 . simp_all
 . right;have i:=H.dy;have ht:=a.t;unfold dr at ht;have b:0<=d.T%l.length:=lX _ (by omega);have e:d.T%l.length<l.length:=lV _ (by omega);obtain⟨v,v1,v2⟩:=aca H ⟨b,e⟩ a.c a.l;obtain⟨w,f,g⟩:=Z6 H ⟨b,e⟩ a.c a.l;rw[h];simp only[aV,ak]
   rw[ag (by simp),ab (sU (by omega)),kT ⟨by omega,by omega⟩,hE ht.1 (by simp),v1];rw[f];exact⟨l,_,v,w,by simp[I.bj],H,⟨b,e⟩,v2,g⟩
theorem KP{ts:List ah}(H:oe ts){v:I}(a:bS v)(t:Int)(pl:Bool):dq (jJ ((⟨ts⟩:bh),t,v,pl)) (cI ts pl t v):=by
 obtain⟨r,h1,c⟩:=KE (by have:=H.n;omega) H.T H.K a t pl;obtain⟨q,d,b⟩:=aaN (by have:=H.n;omega) H.T H.K a t pl;rw[h1]at b;have:r=q:=lW b;subst this;exact⟨r,d,c⟩
theorem Yq{ts:List ah}(cP:∀t,t∈ts->e3 t)(gV:pY ts){v:I}(d:bS v){t:Int}(a:cI ts false t v):Bo ((⟨ts⟩:bh),t,v)=some 0:=by
 have H:=gV.iv cP;obtain⟨v1,_⟩:=x2 cP gV;obtain⟨⟨g,i,_⟩,_⟩:=(e4 _ _ _).1 a;obtain⟨r,e,f⟩:=KP H d t false;have c:=f.2 a;subst c;have b:¬((bif decide (t<0)then true else decide (((⟨ts⟩:bh).Types.length:Int)<=t))=true):=by grind
 rw[Bo,Fh];simp only[YI,I.bj];rw[v1];show((if(bif decide (t<0)then true else decide (((⟨ts⟩:bh).Types.length:Int)<=t))=true then some (4:Int)else some 0)>>=_)=_;rw[ag b];show(B8 ((⟨ts⟩:bh),t,v)>>=_)=_;rw[B8];simp only[I.bj];rw[e];rfl
theorem abm{l:List Fd}(d:kR jT l=true)(aA:l.Pairwise (λa b=>a.id≠b.id)):(nV jT l).Pairwise (λa b=>a.id<b.id):=by
 have h1:=BS Li l;have c:(nV jT l).Pairwise (λa b=>a.id≠b.id):=(qZ jT l).symm.pairwise aA (λ{a b} h=>λe=>h e.symm);refine(h1.and c).imp λ{a b} h=>?_
 have:=h.1;have:=h.2;simp only[jT,AD]at*;omega
theorem aaW{ts:List ah}{ms:List aO}{l:List I}{r:List cF}(h:hU ms)(c:mw ms r):(ke ts ms l r).Pairwise (λa b=>a.id≠b.id):=by
 have:=Gd (ts:=ts) (l:=l) h c;have key:∀q:List Fd,kR jT q=true->q.Pairwise (λa b=>a.id≠b.id):=by
  intro q
  induction q with
  |nil=>intro _;exact .nil
  |cons a q ih=>
   intro h;simp only[kR,cH,dW,ko,jT,hq]at h;rw[jU]
   grind
 grind
def mD(f:Fd):eP:=⟨(f.id:Int),f.c,f.p⟩
theorem JN:∀(l:List Fd) (last:Nat) (b:List eP),l.Pairwise (λa b=>a.id<b.id)->(∀f,f∈l->last<f.id/\f.id<=1000)->(l.flatMap Fd.text).length<=100000->b.length+l.length<=90000->
 jI ((last:Int),l.flatMap Fd.text,b)=some (.inr (b++l.map mD))
 |[],last,b,_,_,_,_=>by
  rw[jI,ag (by simp)];simp
 |f::l,last,b,d,i,ad,e=>by
  rw[jU]at d;obtain⟨h1,j⟩:=i f (.head _);rw[kl]at ad⊢;have ht:f.text=eZ f.id f.c f.p:=rfl;rw[ht]at ad⊢;rw[X7 h1 j ad (by simp at e;omega)];have k:(l.flatMap Fd.text).length<=100000:=by rw[dP]at ad;omega
  rw[JN l f.id _ d.2 (λg aj=>⟨d.1 g aj,(i g (.tail _ aj)).2⟩) k (by simp at e⊢;omega)];simp[mD]
theorem Z7{p rest:List UInt8}{b:List (List UInt8)}(h:(dB p++rest).length<=100000)(i:b.length<=90000):j8 (dB p++rest,b)=j8 (rest,b++[p]):=by
 have f:p.length<=100000:=by simp only[dB,dP]at h;omega
 have d:dB p++rest≠[]:=by
  intro c;have a:=cC List.length c;have:=vg p.length;simp only[dB,dP,km]at a;omega
 rw[j8,ab (by simp only[s3,AD];exact d),uT (by omega),SA f];simp only[aV,ak];have e:¬((!(gI (some (p,rest))).2.2)=true):=by simp[gI]
 have g:room 16 (b++[(gI (some (p,rest))).1]).length=true:=dY (by omega) (by simp;omega);rw[ag e,ab g];rfl
theorem Ko:∀(l:List (List UInt8)) (b:List (List UInt8)),(l.flatMap dB).length<=100000->b.length+l.length<=90000->j8 (l.flatMap dB,b)=some (.inr (b++l))
 |[],b,_,_=>by
  rw[j8,ag (by simp)];simp
 |p::l,b,ad,a=>by
  rw[kl]at ad⊢;rw[Z7 ad (by simp at a;omega),Ko l _ (by rw[dP]at ad;omega) (by simp at a⊢;omega)];simp
def mM:List (List UInt8)->List (List UInt8)->List (List UInt8)
 |k::ks,v::vs=>k::v::mM ks vs
 |_,_=>[]
theorem GD:∀a b,fU a b=(mM a b).flatMap dB
 |[],b=>by simp[fU,mM]
 |k::ks,[]=>by simp[fU,mM]
 |k::ks,v::vs=>by simp[fU,mM,GD ks vs]
theorem JO:∀a b:List (List UInt8),a.length=b.length->(mM a b).length=a.length+b.length
 |[],[],_=>rfl
 |k::ks,v::vs,h=>by
  simp only[mM,jv];have:=JO ks vs (by simpa using h);omega
theorem Z8(p:List UInt8):1<=(dB p).length:=by
 have:=vg p.length;unfold dB;rw[dP];omega
theorem S8:∀l:List (List UInt8),l.length<=(l.flatMap dB).length
 |[]=>by simp
 |p::l=>by
  have:=S8 l;have:=Z8 p
  grind
theorem abn(f:Fd):1<=f.text.length:=by
 have:=vg (2*f.id+(if f.c then 1 else 0));unfold Fd.text eZ;rw[dP];omega
theorem S9:∀l:List Fd,l.length<=(l.flatMap Fd.text).length
 |[]=>by simp
 |p::l=>by
  have:=S9 l;have:=abn p
  grind
theorem MH{d:eo}(h:WF cT ⟨.slice (.nm xf),d.ek⟩):tq d:=by
 obtain⟨a,_,c⟩:=vi (t:= .nm xf) h;refine⟨a,λx i=>?_⟩;have e:=c x i;have b:∀{n:Int},WF cT ⟨.int .u8,n⟩->dr n:=λ{n} h=>by
  cases h with
  |int k n h=>
   simp[Lit.wf,IntKind.min,IntKind.max,IntKind.bits,IntKind.signed]at h;unfold dr;omega
 have c1:=e ⟨.int .u8,x.Kind⟩ (.head _);have c2:=e ⟨.int .u8,x.A⟩ (.tail _ (.head _));have c3:=e ⟨.int .u8,x.B⟩ (.tail _ (.tail _ (.head _)));have c4:=e ⟨.int .u8,x.C⟩ (.tail _ (.tail _ (.tail _ (.head _))));have c5:=e ⟨.slice (.nm Rg),x.cX⟩ (.tail _ (.tail _ (.tail _ (.tail _ (.head _)))));obtain⟨j,_,l⟩:=vi (t:= .nm Rg) c5
 refine⟨b c1,b c2,b c3,b c4,λq g=>?_,j⟩;have f:=l q g;exact⟨b (f ⟨.int .u8,q.af⟩ (.head _)),b (f ⟨.int .u8,q.av⟩ (.tail _ (.head _))),b (f ⟨.int .u8,q.gQ⟩ (.tail _ (.tail _ (.head _))))⟩
theorem abo{d:lF}(h:∀c,c∈cT.rE VF d->WF cT c):Dz d:=by
 have c1:=h ⟨.slice (.nm xf),d.S.ek⟩ (.head _);have c2:=h ⟨.int .u8,d.T⟩ (.tail _ (.head _));have c3:=h ⟨.slice (.int .u8),d.C⟩ (.tail _ (.tail _ (.head _)));obtain⟨a,_,c⟩:=vi (t:= .int .u8) c3;have b:∀{n:Int},WF cT ⟨.int .u8,n⟩->dr n:=λ{n} h=>by
  cases h with
  |int k n h=>
   simp[Lit.wf,IntKind.min,IntKind.max,IntKind.bits,IntKind.signed]at h;unfold dr;omega
 exact⟨MH c1,b c2,λn aA=>b (c n aA ⟨.int .u8,n⟩ (.head _)),a⟩
def k4(n:Nat):List UInt8->Nat
 |[]=>n
 |c::s=>k4 (n*256+c.toNat) s
theorem PL:∀(s:List UInt8) (n k:Nat),n<256^k->k4 n s<256^(k+s.length)
 |[],n,k,h=>by simpa[k4]using h
 |c::s,n,k,h=>by
  have a:c.toNat<256:=UInt8.toNat_lt c;have h1:n*256+c.toNat<256^(k+1):=by rw[Nat.pow_succ];omega
  have:=PL s _ (k+1) h1;simp only[k4,jv]
  grind
theorem agr{n:Nat}(h:n<72057594037927936):mL .u64 (n:Int) 8=((n*256:Nat):Int):=by
 unfold mL;have e:((2:Int)^min (8:Int).toNat IntKind.u64.bits)=256:=by decide
 rw[e];have:(n:Int)*256=((n*256:Nat):Int):=by push_cast;rfl
 rw[this];exact kA (by omega) (by omega)
theorem acb{a b:Nat}(c:a<72057594037927936)(d:b<256):q' .u64 ((a*256:Nat):Int) (b:Int)=((a*256+b:Nat):Int):=by
 have e:(BitVec.ofInt 64 ((a*256:Nat):Int) ||| BitVec.ofInt 64 (b:Int)).toNat=a*256+b:=by
  rw[vx,vx,BitVec.toNat_or,yd,yd,FG,n0 (by omega),n0 (by omega)];have h:=Nat.shiftLeft_add_eq_or_of_lt (show b<2^8 by omega) a;rw[Nat.shiftLeft_eq]at h;exact h.symm
 show IntKind.u64.wrap (((BitVec.ofInt 64 ((a*256:Nat):Int) ||| BitVec.ofInt 64 (b:Int)).toNat:Nat):Int)=_;rw[e];exact kA (by omega) (by omega)
theorem HO{s:List UInt8}(hs:s.length<=8):∀(k i n:Nat),i+k=s.length->n<256^i->oD (s,(n:Int),(s.length:Int),(i:Int))=some ((k4 n (s.drop i):Nat):Int)
 |0,i,n,hi,aA=>by
  rw[oD,ag (by simp;omega),gy (by omega:s.length<=i)];rfl
 |k+1,i,n,hi,aA=>by
  have aI:i<s.length:=by omega
  have b:=Hg s i;have a:n<72057594037927936:=by
   have:(256:Nat)^i<=256^7:=AI (by omega) (by omega);omega
  rw[oD,ab (by simp;omega),ab (aN aI),agr a,yH,h9 (by omega),acb a b,bB (by omega),HO hs k (i+1) _ (by omega) (by rw[Nat.pow_succ];omega),gG aI 0];rfl
def j0(s:List UInt8):Option Nat:=if s.head?=some 0\/8<s.length then none else some (k4 0 s)
theorem Ns{s:List UInt8}{n:Nat}(h:j0 s=some n):n<18446744073709551616:=by
 unfold j0 at h;split at h
 . cases h
 . rename_i aa;cases h;have:=PL s 0 0 (by simp);have a:(256:Nat)^(0+s.length)<=256^8:=AI (by omega) (by omega);omega
theorem JP{s:List UInt8}(h:s≠[]):(hY s 0=0)↔s.head?=some 0:=by
 cases s with
 |nil=>exact absurd rfl h
 |cons c s=>
  have:hY (c::s) 0=(c.toNat:Int):=yH (c::s) 0;rw[this];simp only[List.head?_cons,cQ];constructor
  . intro h;exact UInt8.toNat_inj.1 (by simpa using h)
  simp_all
theorem acd(s:List UInt8):∃r,xo s=some r/\(r.2=0->∃n,j0 s=some n/\r.1=(n:Int))/\(r.2≠0->j0 s=none):=by
 rw[xo];simp only[aV,ak];by_cases h0:s=[]
 . subst h0;have az:oD ([],0,((([]:List UInt8)).length:Int),0)=some ((k4 0 []:Nat):Int):=HO (s:=[]) (by simp) 0 0 0 rfl (by simp);refine⟨(((k4 0 []:Nat):Int),0),?_,λ_=>⟨0,rfl,rfl⟩,λh=>absurd rfl h⟩
   grind
 . have e:0<s.length:=vz.2 h0;have d:aB 0 s.length=true:=aN (k:=0) e;have c:(!(decide (s=[])))=true:=by simp[h0]
   rw[c,d];simp only[vr,cw,gj];by_cases a:hY s 0=0
   . rw[ab (by simp[a])];refine⟨_,rfl,λh=>(by cases h),λ_=>?_⟩;unfold j0;rw[ab (.inl ((JP h0).1 a))]
   . rw[ag (by simp[a])];by_cases b:8<s.length
     . rw[ab (by simp;omega)];refine⟨_,rfl,λh=>(by cases h),λ_=>?_⟩;unfold j0;rw[ab (.inr b)]
     . have az:oD (s,0,(s.length:Int),0)=some ((k4 0 s:Nat):Int):=HO (by omega) s.length 0 0 (by omega) (by simp);rw[ag (by simp;omega),az];refine⟨_,rfl,λ_=>⟨k4 0 s,?_,rfl⟩,λh=>absurd rfl h⟩;unfold j0;rw[ag]
       rintro (h|h)
       . exact a ((JP h0).2 h)
       omega
def ky(n:Nat):Int:=if n%2=0 then((n/2:Nat):Int)else -((n/2:Nat):Int)-1
theorem ace{n:Int}(h:bw n):ky (fr n).toNat=n:=by
 unfold ky fr bw at*;omega
theorem adL{n:Nat}(h:n<18446744073709551616):zX .u64 (n:Int) 1=((n%2:Nat):Int):=by
 have e:(BitVec.ofInt 64 (n:Int) &&& BitVec.ofInt 64 (1:Int)).toNat=n%2:=by grind
 show IntKind.u64.wrap (((BitVec.ofInt 64 (n:Int) &&& BitVec.ofInt 64 (1:Int)).toNat:Nat):Int)=_;rw[e];exact kA (by omega) (by omega)
theorem ags{n:Nat}:lh .u64 (n:Int) 1=((n/2:Nat):Int):=by
 unfold lh;have:((2:Int)^min (1:Int).toNat IntKind.u64.bits)=2:=by decide
 grind
theorem aaX{a:Nat}(h:a<9223372036854775808):tj .i64 (a:Int) 0=(a:Int):=by
 have e:(BitVec.ofInt 64 (a:Int) ^^^ BitVec.ofInt 64 (0:Int)).toNat=a:=by grind
 show IntKind.i64.wrap (((BitVec.ofInt 64 (a:Int) ^^^ BitVec.ofInt 64 (0:Int)).toNat:Nat):Int)=_;rw[e,IntKind.wrap_i64];omega
theorem aaY{a:Nat}(h:a<9223372036854775808):tj .i64 (a:Int) (-1)= -(a:Int)-1:=by
 have e:(BitVec.ofInt 64 (a:Int) ^^^ BitVec.ofInt 64 (-1:Int)).toNat=18446744073709551615-a:=by
  have h1:BitVec.ofInt 64 (-1:Int)=BitVec.allOnes 64:=by decide
  rw[h1,vx,BitVec.xor_allOnes,BitVec.toNat_not,yd,FG,n0 (by omega)]
 all_goals (try omega)
 show IntKind.i64.wrap (((BitVec.ofInt 64 (a:Int) ^^^ BitVec.ofInt 64 (-1:Int)).toNat:Nat):Int)=_;rw[e,IntKind.wrap_i64];omega
theorem adw{n:Nat}(h:n<18446744073709551616):Bn (n:Int)=some (ky n):=by
 rw[Bn,ags,adL h,pQ (by omega) (by omega),pQ (by omega) (by omega),fC (by omega) (by omega)];unfold ky;by_cases h0:n%2=0
 . rw[ab h0,h0];have:(0:Int)-((0:Nat):Int)=0:=rfl;rw[this,aaX (by omega)]
 . have h1:n%2=1:=by omega
   rw[ag h0,h1];have:(0:Int)-((1:Nat):Int)= -1:=rfl;rw[this,aaY (by omega)]
def lk(p:List UInt8):Option (List (List UInt8)):=match oM p with
 |some (l,e)=>if e=0 then some l else none
 |none=>none
def lj(p:List UInt8):Option (List eP):=match qO p with
 |some (l,e)=>if e=0 then some l else none
 |none=>none
def n2(p:List UInt8):Option (Int×List UInt8):=match qX p with
 |some (id,q,e)=>if e=0 then some (id,q)else none
 |none=>none
theorem JQ:∀(n:Nat) (s:List UInt8) (b l:List (List UInt8)),s.length<=n->s.length+b.length<=100000->j8 (s,b)=some (.inr l)->∀q,q∈l->q∈b\/q.length<=s.length
 |n,s,b,l,aA,f,h=>by
  rw[j8]at h;by_cases h0:s=[]
  . grind
  . rw[ab (by simp[h0]),uT (by omega)]at h;simp only[aV,ak]at h;cases a:n5 s with
    |none=>
     rw[a]at h;simp[gI]at h
    |some r=>
     obtain⟨x,rest⟩:=r;rw[a]at h;have ad:=BQ a;have c:¬((!(gI (some (x,rest))).2.2)=true):=by simp[gI]
     have e:room 16 (b++[(gI (some (x,rest))).1]).length=true:=dY (by omega) (by simp;omega);rw[ag c,ab e]at h;intro q d
     match n,aA with
     |0,aA=>omega
     |n+1,aA=>
      have:=JQ n rest _ l (by omega) (by simp;omega) h q d;rcases this with h|h
      . rcases fX.1 h with h|h
        . exact .inl h
        . right;have:q=x:=by simpa[gI]using h
          grind
      omega
theorem I0:∀(n:Nat) (s:List UInt8) (last:Nat) (b l:List eP),s.length<=n->s.length+b.length<=100000->jI ((last:Int),s,b)=some (.inr l)->
 ∃c,l=b++c/\(∀f,f∈c->f.Data.length<=s.length/\(last:Int)<f.af/\f.af<=1000)/\c.Pairwise (λa b=>a.af<b.af)
 |n,s,last,b,l,aA,u,h=>by
  rw[jI]at h;by_cases h0:s=[]
  . simp_all
  . rw[ab (by simp[h0])]at h;rcases vN s with⟨e,he,aj⟩|⟨m,k,aj,w,i,j⟩
    . rw[x9 he aj]at h;simp at h
    . rw[sM aj i]at h;simp only[aV,ak,EE j]at h;by_cases v:((m/2:Nat):Int)<=(last:Int)\/1000<((m/2:Nat):Int)
      . grind
      . have:¬((bif bif (!true)then true else decide (((m/2:Nat):Int)<=(last:Int))then true else decide (1000<((m/2:Nat):Int)))=true):=by grind
        rw[ag this,uT (by rw[pH];omega)]at h;simp only[ak]at h;cases d:n5 (s.drop k)with
        |none=>
         rw[d]at h;simp[gI]at h
        |some r=>
         obtain⟨x,rest⟩:=r;rw[d]at h;have ad:=BQ d;rw[pH]at ad;have o:¬((!(gI (some (x,rest))).2.2)=true):=by simp[gI]
         have q:bW .i64 ((m/2:Nat):Int)=((m/2:Nat):Int):=pQ (by omega) (by omega);rw[ag o,q]at h;have p:room 32 (b++[(⟨((m/2:Nat):Int),decide (cg (m:Int) 2=1),(gI (some (x,rest))).1⟩:eP)]).length=true:=dY (by omega) (by simp;omega);rw[ab p]at h
         match n,aA with
         |0,aA=>omega
         |n+1,aA=>
          obtain⟨c,e,h1,t⟩:=I0 n rest (m/2) _ l (by omega) (by simp;omega) h;refine⟨⟨((m/2:Nat):Int),decide (cg (m:Int) 2=1),(gI (some (x,rest))).1⟩::c,by rw[e];simp,λf g=>?_,?_⟩
          . rcases fF.1 g with rfl|g
            . refine⟨by show x.length<=_;omega,by show(last:Int)<((m/2:Nat):Int);omega,by show((m/2:Nat):Int)<=1000;omega⟩
            grind
          grind
theorem Kp{p:List UInt8}(b:p.length<=90000):∃o,oM p=some o/\(o.2=0->lk p=some o.1/\(∀q,q∈o.1->q.length<=p.length)/\o.1.length<=p.length)/\(o.2≠0->lk p=none):=by
 obtain⟨o,h1,a⟩:=abV b;refine⟨o,h1,λh0=>⟨?_,?_,a⟩,λh0=>?_⟩
 . unfold lk;rw[h1]
   grind
 . obtain⟨d,a1,_⟩:=Kv p.length p [] (by omega) (by simp;omega);rw[oM,a1]at h1;cases d with
   |inl e=>grind
   |inr l=>
    have:o=(l,0):=(lW h1).symm;subst this;intro q c;rcases JQ p.length p [] l (by omega) (by simp;omega) a1 q c with h|h
    . cases h
    . exact h
 . unfold lk;rw[h1]
   grind
theorem aaZ{p:List UInt8}(k:p.length<=90000):∃o,qO p=some o/\(o.2=0->lj p=some o.1/\(∀f,f∈o.1->f.Data.length<=p.length/\cO f.af)/\o.1.Pairwise (λa b=>a.af<b.af)/\o.1.length<=p.length)/\(o.2≠0->lj p=none):=by
 obtain⟨o,h1,i⟩:=aaI k;obtain⟨d,a1,_⟩:=Jz p.length p 0 [] (by omega) (by simp;omega);have key:o.2=0->(∀f,f∈o.1->f.Data.length<=p.length/\cO f.af)/\o.1.Pairwise (λa b=>a.af<b.af):=by
  intro h0;have c:=h1;have g:jI (0,p,[])=some d:=a1;rw[qO,g]at c;cases d with
  |inl e=>
   have:o=([],e):=(lW c).symm;simp_all
  |inr l=>
   have:o=(l,0):=(lW c).symm;subst this;obtain⟨m,e,b1,b2⟩:=I0 p.length p 0 [] l (by omega) (by simp;omega) a1;have:l=m:=by simpa using e
   subst this;exact⟨λf j=>by have:=b1 f j;exact⟨this.1,by omega,this.2.2⟩,b2⟩
 refine⟨o,h1,λh0=>⟨?_,(key h0).1,(key h0).2,i⟩,λh0=>?_⟩
 . unfold lj;rw[h1]
   grind
 . unfold lj;rw[h1]
   grind
theorem adx(p:List UInt8):∃o,qX p=some o/\(o.2.2=0->n2 p=some (o.1,o.2.1)/\o.2.1.length<=p.length/\cO o.1)/\(o.2.2≠0->n2 p=none):=by
 obtain⟨o,h1⟩:=ac5 p;have key:o.2.2=0->o.2.1.length<=p.length/\cO o.1:=by
  intro h0;have a:=h1;rw[qX]at a;rcases vN p with⟨e,he,aj⟩|⟨m,k,aj,f,c,g⟩
  . rw[x9 he aj]at a
    grind
  . rw[sM aj c]at a;simp only[aV,ak]at a;by_cases d:(m:Int)<1\/1000<(m:Int)
    . grind
    . have b:¬((bif bif (!true)then true else decide ((m:Int)<1)then true else decide (1000<(m:Int)))=true):=by grind
      rw[ag b,pQ (by omega) (by omega)]at a;have:o=((m:Int),p.drop k,0):=(lW a).symm;subst this;exact⟨by show(p.drop k).length<=_;rw[pH];omega,by omega,by show(m:Int)<=1000;omega⟩
 refine⟨o,h1,λh0=>⟨?_,(key h0).1,(key h0).2⟩,λh0=>?_⟩
 . unfold n2;rw[h1]
   grind
 . unfold n2;rw[h1]
   grind
def Nt(a b:List UInt8):Bool:=bif decide ((a.length:Int)<(b.length:Int))then true else bif decide ((a.length:Int)=(b.length:Int))then Op.bytesLess a b else false
section
variable {ts:List ah}
theorem Kq(a b:List UInt8):Bj (a,b)=some (Nt a b):=rfl
end
theorem MI:∀(s:List UInt8) (n:Nat) (b:UInt8),k4 n (s++[b])=k4 n s*256+b.toNat
 |[],n,b=>by rfl
 |a::s,n,b=>by
  exact MI s _ b
theorem acf(n:Nat):k4 0 (eV n)=n:=by
 induction n using Nat.strongRecOn with
 |ind n ih=>
  rw[eV];split
  . rename_i h;subst h;rfl
  grind[MI,nn]
theorem aan:∀(n:Nat),¬(eV n).head?=some 0:=by
 intro n
 induction n using Nat.strongRecOn with
 |ind n ih=>
  rw[eV];split
  . simp
  . by_cases b:n<256
    . have:n/256=0:=by omega
      rw[this,eV,ab rfl];simp[List.head?_cons,cQ];intro a;have c:=cC UInt8.toNat a
      grind[nn]
    . have d:eV (n/256)≠[]:=by rw[eV,ag (by omega)];simp
      cases e:eV _<;>grind
theorem Kr{n:Nat}(h:n<18446744073709551616):j0 (eV n)=some n:=by
 simp_all[j0,aan,vj,acf]
theorem abp{l m:List I}(ad:l.length=m.length)(h:∀i,i<l.length->l.getD i aK=m.getD i aK):l=m:=by
 grind[List.ext_getElem]
theorem ya{ms:List aO}(h:hU ms){a b:aO}(c:a∈ms)(d:b∈ms)(e:a.af=b.af):a=b:=by
 obtain⟨i,hi,rfl⟩:=jd c;obtain⟨j,f,rfl⟩:=jd d;have key:=Em.1 h.1
 grind
theorem oT{ms:List aO}{id:Int}{m:aO}(h:cV ms id=some m):m∈ms/\m.af=id:=
 ⟨List.mem_of_find?_eq_some h,by simpa using List.find?_some h⟩
theorem CD{ms:List aO}(c:hU ms){m:aO}(h:m∈ms):cV ms m.af=some m:=by
 cases a:cV ms _ with
 |none=>grind[si]
 |some q=>
  obtain⟨h1,b⟩:=oT a
  grind[ya]
theorem sj{ts:List ah}{t:Int}:∀{l:List I} {x:I},x∈l->g' ts t x<=iS ts t l
 |v::l,x,h=>by
  rw[iS];rcases fF.1 h with rfl|h
  . omega
  . have:=sj (ts:=ts) (t:=t) h;omega
theorem GF{ts:List ah}:∀{ms:List aO} {l:List I} {j:Nat},j<ms.length->j<l.length->dz (ms.getD j au) (l.getD j aK)=false->g' ts (ms.getD j au).av (l.getD j aK)<=kz ts ms l
 |m::ms,v::l,0,_,_,a=>by
  simp at a⊢;rw[kz,ag (by grind)];omega
 |m::ms,v::l,j+1,h1,b,a=>by
  simp at a⊢;have:=GF (ts:=ts) (by grind) (by grind) a
  grind[kz]
theorem MJ{l:List (List UInt8)}(h:(l.flatMap dB).length<=90000):lk (l.flatMap dB)=some l:=by
 grind[S8,Ko,lk,oM]
theorem abq{l:List Fd}(c:l.Pairwise (λa b=>a.id<b.id))(d:∀f,f∈l->1<=f.id/\f.id<=1000)(h:(l.flatMap Fd.text).length<=90000):lj (l.flatMap Fd.text)=some (l.map mD):=by
 have ad:=S9 l;have bP:=JN l 0 [] c (λf h=>⟨by grind,(d f h).2⟩) (by omega) (by grind)
 grind[lj,qO]
theorem ady{n:Nat}(h:1<=n/\n<=1000)(rest:List UInt8):n2 (ei n++rest)=some ((n:Int),rest):=by
 unfold n2;have a:=sM (Hw (n:=n) (by omega) rest) (by simp);rw[qX,a];simp;rw[ag (by grind),pQ (by simp) (by omega)];rfl
theorem Z9{ts:List ah}{t:Int}{l:List I}{i:Nat}(h:i<l.length):(b4 ts t l).getD i []=bY ts t (l.getD i aK):=by
 grind[q2]
theorem Ie{a b c n r:Nat}(h:a=1+max n b)(e:a<=r+1)(d:c<=b):c<=r:=by omega
theorem acg{a b c r:Nat}(h:a=1+max 1 b)(e:a<=r+1)(d:c=1):c<=r:=by omega
set_option maxHeartbeats 1000000 in
end
section
open Go Go.Proofs.YtfcnkdegapjgnaaGreatDoor.Shv Go.Sort
set_option maxRecDepth 100000
theorem abr{a:I}(h:bS a)(b:I):eK (Bc (a,b)) a b:=by
 obtain⟨r,h1,c⟩:=y9 h b;refine⟨r,?_,c⟩;rw[Bc];simp only[I.bj];rw[h1];rfl
theorem Ks{a:I}(h:bS a)(b:I):eK (nq (a,b)) a b:=Y4 h b
def dM{α c:Type}(f:α->Option c):List α->Option (List c)
 |[]=>some []
 |a::l=>match f a,dM f l with
  |some b,some m=>some (b::m)
  |_,_=>none
def jc{α:Type}:List α->List α
 |a::_::l=>a::jc l
 |_=>[]
def kq{α:Type}:List α->List α
 |_::b::l=>b::kq l
 |_=>[]
def rr(ks:List I):Bool:=(List.range (ks.length-1)).all λi=>decide (gZ (ks.getD i aK) (ks.getD (i+1) aK)<0)
theorem HP{ks:List I}:rr ks=true↔il ks:=by
 unfold rr il
 grind
def ee(ts:List ah):Nat->Int->List UInt8->Option I
 |0,_,_=>none
 |n+1,t,p=>
  let x:=ts.getD t.toNat ar
  if x.Kind=1 then(if p=[]then some ⟨1,false,0,[],0,[],[],[]⟩else if p=[1]then some ⟨1,true,0,[],0,[],[],[]⟩else none)
  else if x.Kind=2 then(match j0 p with
   |some m=>if x.bz<=ky m/\ky m<=x.bx then some ⟨2,false,ky m,[],0,[],[],[]⟩else none
   |none=>none)
  else if x.Kind=3 then(if(p.length:Int)<=x.Max then some ⟨3,false,0,p,0,[],[],[]⟩else none)
  else if x.Kind=4 then(match j0 p with
   |some m=>if 1<=m/\m<=1000/\((x.a7.any λy=>decide (y.af=(m:Int)))||x.Open)=true then some ⟨4,false,0,[],(m:Int),[],[],[]⟩else none
   |none=>none)
  else if x.Kind=9 then(match p with
   |[]=>some ⟨9,false,0,[],0,[],[],[]⟩
   |c::q=>if c=1 then(ee ts n x.aH q).map λv=>⟨9,false,0,[],0,[],[v],[]⟩else none)
  else if x.Kind=6 then(match n2 p with
   |some (id,q)=>(match cV x.ae id with
    |some m=>(ee ts n m.av q).map λv=>⟨6,false,0,[],id,[],[v],[]⟩
    |none=>if x.Open=true then some ⟨6,false,0,[],id,[],[],[⟨id,q⟩]⟩else none)
   |none=>none)
  else if x.Kind=7 then(match lk p with
   |some l=>if(l.length:Int)<=x.Max then(dM (ee ts n x.aH) l).map λa=>⟨7,false,0,[],0,[],a,[]⟩else none
   |none=>none)
  else if x.Kind=8 then(match lk p with
   |some l=>if l.length%2 = 0/\((l.length/2:Nat):Int)<=x.Max then (match dM (ee ts n x.Key) (jc l) with
    |some ks=>if rr ks=true then(dM (ee ts n x.aH) (kq l)).map λa=>⟨8,false,0,[],0,ks,a,[]⟩else none
    |none=>none)else none
   |none=>none)
  else(match lj p with
   |some l=>(match dM (λm:aO=>match l.find? (λf=>decide (f.af = m.af)) with
    |some f=>ee ts n m.av f.Data
    |none=>if m.bD=true then some m.bk else none) x.ae with
    |some a=>if(l.all λf=>(cV x.ae f.af).isSome || !f.bQ)=true then some ⟨5,false,0,[],0,[],a,(l.filter λf=>!(cV x.ae f.af).isSome).map λf=>⟨f.af,f.Data⟩⟩else none
    |none=>none)
   |none=>none)
section
variable {ts:List ah}
def ft(ts:List ah)(b1:List Int)(b2:Int)(path:List Int)(o:Option I)(r:Option (I×Bool×List ah×List Int×Int×List Int)):Prop:=
 (∀v,o=some v->r=some (v,true,ts,b1,b2,path))/\(o=none->∃w f1 f2,r=some (w,false,ts,f1,f2,path))
theorem yb{path:List Int}(b:path.length<=1000)(a:Int)(b1:List Int)(b2:Int):hf (a,ts,b1,b2,path)=some ((⟨0,false,0,[],0,[],[],[]⟩:I),false,ts,a,path,path):=by
 rw[hf];unfold sR fR;rw[ab (pg (dY (by omega) (by omega)))];simp
theorem vl{b1:List Int}{b2 step t:Int}{p:List UInt8}{path:List Int}{o:Option I}(d:path.length<=1000)(h:ft ts b1 b2 (path++[step]) o (o8 (t,p,ts,b1,b2,path++[step]))):
 ft ts b1 b2 path o (iy (step,t,p,ts,b1,b2,path)):=by
 have key:∀w ok f1 f2,o8 (t,p,ts,b1,b2,path++[step])=some (w,ok,ts,f1,f2,path++[step])->iy (step,t,p,ts,b1,b2,path)=some (w,ok,ts,f1,f2,path):=by
  intro w ok f1 f2 a;rw[iy];simp only[aV,ak];rw[ab (dY (by omega) (by simp;omega)),a];simp only[ak,I.bj];have az:c' .i64 ((path++[step]).length:Int) 1=(path.length:Int):=by rw[fC (by simp<;>omega) (by simp<;>omega)];simp
  rw[az];have c:ed 0 (path.length:Int) (path++[step]).length=true:=iF.2 (by simp;omega);simp_all
 refine⟨λv b=>key _ _ _ _ (h.1 v b),λaA=>?_⟩;obtain⟨w,f1,f2,a⟩:=h.2 aA;exact⟨w,f1,f2,key _ _ _ _ a⟩
theorem JR{α c:Type}{f:α->Option c}:∀{l:List α} {m:List c},dM f l=some m->m.length=l.length
 |[],m,h=>by rw[dM]at h;cases h;rfl
 |a::l,m,h=>by
  rw[dM]at h;split at h
  . rename_i b e h1 d;cases h;rw[jv,jv,JR d]
  . cases h
theorem LM {x:ah}{path:List Int}{f:List UInt8->Option I}{l:List (List UInt8)}(ad:l.length<=90000)(h:∀q,q∈l->∀step b1 b2,ft ts b1 b2 path (f q) (iy (step,x.aH,q,ts,b1,b2,path)))
 {z0 z2 z4 a0 a2 a4:Int}{z1 a1:Bool}{z3 a3:List UInt8}{b1:List Int}{b2:Int}:∀(k i:Nat) (acc:List I),i+k=l.length->acc.length=i->
 (∀m,dM f (l.drop i)=some m->rX (l,(l.length:Int),(i:Int),ts,b1,b2,x,z0,z1,z2,z3,z4,a0,a1,a2,a3,a4,path,acc)=some (.inr (ts,b1,b2,z0,z1,z2,z3,z4,a0,a1,a2,a3,a4,path,acc++m)))/\
 (dM f (l.drop i)=none->∃w f1 f2,rX (l,(l.length:Int),(i:Int),ts,b1,b2,x,z0,z1,z2,z3,z4,a0,a1,a2,a3,a4,path,acc)=some (.inl (false,ts,f1,f2,w,path)))
 |0,i,acc,hi,c=>by
  rw[rX,ag (by simp;omega),gy (by omega),dM]
  grind
 |k+1,i,acc,hi,c=>by
  have aI:i<l.length:=by omega
  have a:=h _ (bo aI []) (i:Int) b1 b2;have e:l.drop i=l.getD i []::l.drop (i+1):=by rw[gb aI];exact nX aI
  rw[rX,ab (by simp;omega),ab (aN aI),aW,e,dM];cases b:f (l.getD i [])with
  |none=>
   obtain⟨w,f1,f2,g⟩:=a.2 b;simp_all
  |some v=>
   rw[a.1 v b];simp only[aV,ak,I.bj,eb];rw[ag (by simp),ab (dY (by omega) (by simp;omega)),bB (by omega)];obtain⟨j,i2⟩:=LM ad h (z0:=z0) (z1:=z1) (z2:=z2) (z3:=z3) (z4:=z4) (a0:=a0) (a1:=a1) (a2:=a2) (a3:=a3) (a4:=a4) (b1:=b1) (b2:=b2) k (i+1) (acc++[v]) (by omega) (by simp;omega)
   cases hs:dM f (l.drop (i+1))with
   |none=>exact⟨λm d=>by simp at d,λ_=>i2 hs⟩
   |some n=>grind
end
theorem CE{l:List I}{i:Nat}(hi:i<l.length):l.set i (l.getD i aK)=l:=by simp_all
theorem JS{a0 a2 a4 z0 z2 z4:Int}{a1 z1:Bool}{a3 z3:List UInt8}{l l2:List I}{r:List cF}(ad:l.length<=5000000000000)(h:∀y,y∈l->jl y=some y):∀(k i:Nat),i+k=l.length->
 sA ((l.length:Int),(i:Int),a0,a1,a2,a3,a4,z0,z1,z2,z3,z4,l,l2,r)=some (a0,a1,a2,a3,a4,z0,z1,z2,z3,z4,l,l2,r)
 |0,i,hi=>by rw[sA,ag (by simp;omega)]
 |k+1,i,hi=>by
  have aI:i<l.length:=by omega
  rw[sA,ab (by simp;omega),ab (aN aI),aW,ab (by simp;omega)];simp only[I.bj];rw[h _ (bo aI aK)];simp only[aV,ak,I.bj];rw[ab (aN aI),ab (by simp;omega),bB (by omega),CE aI];exact JS ad h k (i+1) (by omega)
theorem JT{a0 a2 a4 z0 z2 z4:Int}{a1 z1:Bool}{a3 z3:List UInt8}{l l2:List I}{r:List cF}(ad:l.length<=5000000000000)(h:∀y,y∈l->jl y=some y):∀(k i:Nat),i+k=l.length->
 sC ((l.length:Int),(i:Int),a0,a1,a2,a3,a4,z0,z1,z2,z3,z4,l,l2,r)=some (a0,a1,a2,a3,a4,z0,z1,z2,z3,z4,l2,l,r)
 |0,i,hi=>by rw[sC,ag (by simp;omega)]
 |k+1,i,hi=>by
  have aI:i<l.length:=by omega
  rw[sC,ab (by simp;omega),ab (aN aI),aW,ab (by simp;omega)];simp only[I.bj];rw[h _ (bo aI aK)];simp only[aV,ak,I.bj];rw[ab (aN aI),ab (by simp;omega),bB (by omega),CE aI];exact JT ad h k (i+1) (by omega)
theorem zA:∀l:List I,l.length<=dN l
 |[]=>by simp
 |v::l=>by
  rw[iE,hR,jv];have:=zA l;omega
theorem LN(l:List cF):l.length<=(l.map λx=>x.Data.length+1).sum:=by
 induction l with
 |nil=>simp
 |cons a l ih=>simp only[je,sW,jv];omega
theorem u6{k n:Nat}(a:k<=1000)(h:n<=1000000000):room k n=true:=by
 unfold room gr dd;simp only[cH,hq];refine⟨?_,by omega⟩;have:(2*n+192)*k<=2000000192*1000:=AQ (by omega) a;omega
theorem aao{v:I}(f:bS v):wt v<=1000000000->jl v=some v:=by
 induction f with
 |mk v hs h1 k m n hi o dy u w x i g=>
  intro p;have q:=hR v;have s:=zA v.aE;have l2:=zA v.al;have t:=LN v.Rest;have kk:∀y,y∈v.aE->jl y=some y:=λy a=>i y a (by have:=iH a;omega)
  have j:∀y,y∈v.al->jl y=some y:=λy a=>g y a (by have:=iH a;omega)
  have c1:fR 120 v.aE=some v.aE:=by unfold fR;rw[ab (pg (u6 (by omega) (by omega)))]
  have c2:fR 120 v.al=some v.al:=by unfold fR;rw[ab (pg (u6 (by omega) (by omega)))]
  have c3:fR 24 v.Rest=some v.Rest:=by unfold fR;rw[ab (pg (u6 (by omega) (by omega)))]
  have b:=JS (a0:=v.Kind) (a1:=v.b') (a2:=v.bq) (a3:=v.bA) (a4:=v.af) (z0:=0) (z1:=false) (z2:=0) (z3:=[]) (z4:=0) (l:=v.aE) (l2:=v.al) (r:=v.Rest) (by omega) kk v.aE.length 0 (by omega)
  have d:=JT (a0:=v.Kind) (a1:=v.b') (a2:=v.bq) (a3:=v.bA) (a4:=v.af) (z0:=0) (z1:=false) (z2:=0) (z3:=[]) (z4:=0) (l:=v.al) (l2:=v.aE) (r:=v.Rest) (by omega) j v.al.length 0 (by omega);have c:sA ((v.aE.length:Int),0,v.Kind,v.b',v.bq,v.bA,v.af,0,false,0,[],0,v.aE,v.al,v.Rest)=_:=b
  have e:sC ((v.al.length:Int),0,v.Kind,v.b',v.bq,v.bA,v.af,0,false,0,[],0,v.al,v.aE,v.Rest)=_:=d;rw[jl,c1,c2,c3];simp only[aV,ak];rw[c];simp only[ak];rw[e];simp only[ak];cases v;rfl
section
variable {ts:List ah}
def wc(ts:List ah)(n:Nat):Prop:=∀(t:Int) (p:List UInt8) (b1:List Int) (b2:Int) (path:List Int),0<=t->t<ts.length->p.length<=4096->path.length+n=200->
 ft ts b1 b2 path (ee ts n t p) (o8 (t,p,ts,b1,b2,path))
theorem jn{path:List Int}(a:path.length<=1000)(b:Int)(b1:List Int)(b2:Int):ft ts b1 b2 path none (hf (b,ts,b1,b2,path)>>=λr=>some (I.eta r.1,r.2.1,r.2.2.1,r.2.2.2.2.2,r.2.2.2.1,r.2.2.2.2.1)):=by
 refine⟨λv h=>(by cases h),λ_=>?_⟩;rw[yb a];simp_all
theorem Ee{x:ah}(c:hU x.ae)(ad:x.ae.length<=1000){id:Int}{m:aO}(bP:cV x.ae id=some m):∃j,j<x.ae.length/\hB (x,id)=some ((j:Int),true)/\x.ae.getD j au=m:=by
 obtain⟨b,e⟩:=oT bP;obtain⟨r,f,g⟩:=xr (t:=x) (id:=id) (by omega);rcases g with⟨j,a,d,_,rfl⟩|⟨q,_⟩
 . exact⟨j,a,f,ya c (bo a au) b (by rw[d,e])⟩
 . obtain⟨i,hi,rfl⟩:=jd b
   grind
theorem aap(H:oe ts){n:Nat}(ih:wc ts n){x:ah}(k:x∈ts)(cM:x.Kind=6)(cP:∀m,m∈x.ae->0<=m.av/\m.av<ts.length){p:List UInt8}(E:p.length<=4096){b1:List Int}{b2:Int}{path:List Int}(F:path.length+(n+1)=200):
 ft ts b1 b2 path (match n2 p with
  |some (id,q)=>(match cV x.ae id with
   |some m=>(ee ts n m.av q).map λv=>⟨6,false,0,[],id,[],[v],[]⟩
   |none=>if x.Open=true then some ⟨6,false,0,[],id,[],[],[⟨id,q⟩]⟩else none)
  |none=>none) (BI (x,p,ts,b1,b2,path)):=by
 obtain⟨o,s,u,y⟩:=adx p;rw[BI,s];simp only[aV,ak];by_cases h0:o.2.2=0
 . obtain⟨v1,v2,v3⟩:=u h0;rw[ag (by simp[h0]),v1];dsimp only;obtain⟨f,C⟩:=H.A x k (.inr cM);cases bP:cV x.ae o.1 with
   |some m=>
    obtain⟨j,a,b,l⟩:=Ee f (by omega) bP;rw[b];simp only[ak];rw[ab trivial,ab (aN a),aW,l];obtain⟨t1,t2⟩:=cP m (oT bP).1;have c:=vl (step:=o.1) (path:=path) (by omega) (ih m.av o.2.1 b1 b2 (path++[o.1]) t1 t2 (by omega) (by simp;omega));cases d:ee ts n m.av o.2.1 with
    |none=>
     obtain⟨w,f1,f2,i⟩:=c.2 d;rw[i];exact⟨λv h=>by simp at h,λ_=>⟨_,_,_,rfl⟩⟩
    |some v=>
     rw[c.1 v d]
     exact⟨λe h=>by
      have:e=⟨6,false,0,[],o.1,[],[v],[]⟩:=by simpa using h.symm
      rw[this]
      simp[I.bj,cM],λh=>by simp at h⟩
   |none=>
    obtain⟨r,z,B⟩:=xr (t:=x) (id:=o.1) (by omega);have g:r=(0,false):=by
     rcases B with⟨j,a,b,_,_⟩|⟨_,q⟩
     . exact absurd b (si bP _ (bo a au))
     . exact q
    rw[z,g];cases D:x.Open with
    |false=>
     simp only[ak,cN,cv,fM,cw,eq_self];exact jn (by omega) _ _ _
    |true=>
     simp only[ak,cN,cv,eb,cw,eq_self];exact⟨λe h=>(by cases h;rw[cM]),λh=>(by cases h)⟩
 . rw[ab (by simp[h0]),y h0];exact jn (by omega) _ _ _
end
theorem Z'{α:Type}{l:List α}{j:Nat}(h:2*j+1<l.length)(d:α):jc (l.drop (2*j))=l.getD (2*j) d::jc (l.drop (2*(j+1))):=by
 rw[nX (by omega:2*j<l.length),nX h,jc,gb (by omega)];rfl
theorem aaq{α:Type}{l:List α}{j:Nat}(h:2*j+1<l.length)(d:α):kq (l.drop (2*j))=l.getD (2*j+1) d::kq (l.drop (2*(j+1))):=by
 rw[nX (by omega:2*j<l.length),nX h,kq,gb h];rfl
theorem NY{i:Nat}(h:i<1000000):aM .i64 (i:Int) 2=((i+2:Nat):Int):=by
 have:=uS (a:=i) (b:=2) (by omega);exact this
section
variable {ts:List ah}
theorem LO {x:ah}{path:List Int}{f:List UInt8->Option I}{l:List (List UInt8)}(ad:l.length<=90000)(he:l.length%2=0)(h:∀q,q∈l->∀step b1 b2,ft ts b1 b2 path (f q) (iy (step,x.Key,q,ts,b1,b2,path)))
 {z0 z2 z4 a0 a2 a4:Int}{z1 a1:Bool}{z3 a3:List UInt8}{b1:List Int}{b2:Int}:∀(k j:Nat) (acc:List I),2*(j+k)=l.length->acc.length=j->
 (∀m,dM f (jc (l.drop (2*j)))=some m->rS (l,((2*j:Nat):Int),ts,b1,b2,x,z0,z1,z2,z3,z4,a0,a1,a2,a3,a4,path,acc)=some (.inr (l,ts,b1,b2,x,z0,z1,z2,z3,z4,a0,a1,a2,a3,a4,path,acc++m)))/\
 (dM f (jc (l.drop (2*j)))=none->∃w f1 f2,rS (l,((2*j:Nat):Int),ts,b1,b2,x,z0,z1,z2,z3,z4,a0,a1,a2,a3,a4,path,acc)=some (.inl (false,ts,f1,f2,w,path)))
 |0,j,acc,hi,d=>by
  rw[rS,ag (by simp;omega),gy (by omega),show jc ([]:List (List UInt8))=[]from rfl,dM]
  grind
 |k+1,j,acc,hi,d=>by
  have aI:2*j<l.length:=by omega
  have a:=h _ (bo aI []) (fY .i64 ((2*j:Nat):Int) 2) b1 b2;rw[rS,ab (by simp;omega),ab (aN aI),aW,Z' (by omega) [],dM];cases b:f (l.getD (2*j) [])with
  |none=>
   obtain⟨w,f1,f2,g⟩:=a.2 b;simp_all
  |some v=>
   rw[a.1 v b];simp only[aV,ak,I.bj,eb];rw[ag (by simp),ab (dY (by omega) (by simp;omega)),NY (by omega)];obtain⟨i,i2⟩:=LO ad he h (z0:=z0) (z1:=z1) (z2:=z2) (z3:=z3) (z4:=z4) (a0:=a0) (a1:=a1) (a2:=a2) (a3:=a3) (a4:=a4) (b1:=b1) (b2:=b2) k (j+1) (acc++[v]) (by omega) (by simp;omega)
   have c:2*j+2=2*(j+1):=by omega
   rw[c];cases hs:dM f (jc (l.drop (2*(j+1))))with
   |none=>exact⟨λm e=>by simp at e,λ_=>i2 hs⟩
   |some n=>grind
theorem JU {x:ah}{path:List Int}{f:List UInt8->Option I}{l:List (List UInt8)}(ad:l.length<=90000)(he:l.length%2=0)(h:∀q,q∈l->∀step b1 b2,ft ts b1 b2 path (f q) (iy (step,x.aH,q,ts,b1,b2,path)))
 {z0 z2 z4 a0 a2 a4:Int}{z1 a1:Bool}{z3 a3:List UInt8}{b1:List Int}{b2:Int}{ks:List I}:∀(k j:Nat) (acc:List I),2*(j+k)=l.length->acc.length=j->
 (∀m,dM f (kq (l.drop (2*j)))=some m->rT (l,((2*j+1:Nat):Int),ts,b1,b2,x,z0,z1,z2,z3,z4,a0,a1,a2,a3,a4,path,ks,acc)=some (.inr (ts,b1,b2,z0,z1,z2,z3,z4,a0,a1,a2,a3,a4,path,ks,acc++m)))/\
 (dM f (kq (l.drop (2*j)))=none->∃w f1 f2,rT (l,((2*j+1:Nat):Int),ts,b1,b2,x,z0,z1,z2,z3,z4,a0,a1,a2,a3,a4,path,ks,acc)=some (.inl (false,ts,f1,f2,w,path)))
 |0,j,acc,hi,d=>by
  rw[rT,ag (by simp;omega),gy (by omega),show kq ([]:List (List UInt8))=[]from rfl,dM]
  grind
 |k+1,j,acc,hi,d=>by
  have aI:2*j+1<l.length:=by omega
  have a:=h _ (bo aI []) (fY .i64 ((2*j+1:Nat):Int) 2) b1 b2;rw[rT,ab (by simp;omega),ab (aN aI),aW,aaq aI [],dM];cases b:f (l.getD (2*j+1) [])with
  |none=>
   obtain⟨w,f1,f2,g⟩:=a.2 b;simp_all
  |some v=>
   rw[a.1 v b];simp only[aV,ak,I.bj,eb];rw[ag (by simp),ab (dY (by omega) (by simp;omega)),NY (by omega)];obtain⟨i,i2⟩:=JU ad he h (z0:=z0) (z1:=z1) (z2:=z2) (z3:=z3) (z4:=z4) (a0:=a0) (a1:=a1) (a2:=a2) (a3:=a3) (a4:=a4) (b1:=b1) (b2:=b2) (ks:=ks) k (j+1) (acc++[v]) (by omega) (by simp;omega)
   have c:2*j+1+2=2*(j+1)+1:=by omega
   rw[c];cases hs:dM f (kq (l.drop (2*(j+1))))with
   |none=>exact⟨λm e=>by simp at e,λ_=>i2 hs⟩
   |some n=>grind
end
section
variable {ts:List ah}
theorem ach{a b:I}(c:bw a.bq)(d:bw b.bq):oJ (a,b)=some (gZ a b):=by
 obtain⟨r,e,f⟩:=Cp c d;have:=vk c d
 grind
theorem MK {x:ah}{path:List Int}(c:path.length<=1000){l:List (List UInt8)}{ks:List I}(a:∀y,y∈ks->bw y.bq)(ad:ks.length<=90000)
 {z0 z2 z4 a0 a2 a4:Int}{z1 a1:Bool}{z3 a3:List UInt8}{b1:List Int}{b2:Int}:∀(k i:Nat),ks.length-(i+1)=k->
 ((∀m,i<=m->m+1<ks.length->gZ (ks.getD m aK) (ks.getD (m+1) aK)<0)/\p8 (l,((i+1:Nat):Int),ts,b1,b2,x,z0,z1,z2,z3,z4,a0,a1,a2,a3,a4,path,ks)=some (.inr (l,ts,b1,b2,x,z0,z1,z2,z3,z4,a0,a1,a2,a3,a4,path,ks)))\/
 ((∃m,m+1<ks.length/\¬gZ (ks.getD m aK) (ks.getD (m+1) aK)<0)/\∃w f1 f2,p8 (l,((i+1:Nat):Int),ts,b1,b2,x,z0,z1,z2,z3,z4,a0,a1,a2,a3,a4,path,ks)=some (.inl (false,ts,f2,w,path,f1)))
 |0,i,hi=>by
  rw[p8,ag (by simp;omega)]
  grind
 |k+1,i,hi=>by
  have aI:i+1<ks.length:=by omega
  have az:c' .i64 ((i+1:Nat):Int) 1=(i:Int):=by rw[fC (by omega) (by omega)];omega
  rw[p8,ab (by simp;omega),az];simp only[aV,ak];rw[ab (aN (by omega)),ab (by simp;omega),ab (aN aI),ab (by simp;omega),aW,aW];simp only[I.bj];rw[ach (a _ (bo (by omega) aK)) (a _ (bo aI aK))];simp only[ak];by_cases b:gZ (ks.getD i aK) (ks.getD (i+1) aK)<0
  . rw[ag (by simpa using b),bB (by omega)];rcases MK c a ad (x:=x) (l:=l) (z0:=z0) (z1:=z1) (z2:=z2) (z3:=z3) (z4:=z4) (a0:=a0) (a1:=a1) (a2:=a2) (a3:=a3) (a4:=a4) (b1:=b1) (b2:=b2) k (i+1) (by omega)with⟨h1,d⟩|h
    . grind
    grind
  . rw[ab (by simpa using b),yb c]
    grind
theorem abW{m:Nat}(h:m<18446744073709551616):bw (ky m):=by
 unfold ky bw;omega
theorem PU:bw 0:=by unfold bw;omega
def l5(o:Option I):Prop:=∀v,o=some v->bw v.bq
theorem l5.ite{c:Prop}[Decidable c]{a b:Option I}(e:c->l5 a)(f:¬c->l5 b):l5 (if c then a else b):=by grind
theorem l5.no:l5 none:=λv h=>(by cases h)
theorem l5.zero{k i:Int}{b:Bool}{s:List UInt8}{ks a:List I}{r:List cF}:l5 (some ⟨k,b,0,s,i,ks,a,r⟩):=λv h=>(by cases h;exact PU)
theorem l5.map{α:Type}{o:Option α}{k i:Int}{b:Bool}{s:List UInt8}{ks a:α->List I}{r:List cF}:l5 (o.map λv=>⟨k,b,0,s,i,ks v,a v,r⟩):=λv h=>by obtain⟨_,_,rfl⟩:=pE.1 h;exact PU
theorem abt{n:Nat}{t:Int}{p:List UInt8}{v:I}(h:ee ts n t p=some v):bw v.bq:=by
 have key:l5 (ee ts n t p):=by
  cases n with
  |zero=>unfold ee;exact .no
  |succ n=>
   unfold ee;refine .ite (λ_=>.ite (λ_=>.zero) λ_=>.ite (λ_=>.zero) λ_=>.no) λ_=>?_
   refine .ite (λ_=>?_) λ_=>?_
   . cases b:j0 p with
     |none=>exact .no
     |some m=>exact .ite (λ_=>λv h=>(by cases h;exact abW (Ns b))) λ_=>.no
   refine .ite (λ_=>.ite (λ_=>.zero) λ_=>.no) λ_=>?_
   refine .ite (λ_=>?_) λ_=>?_
   . cases b:j0 p with
     |none=>exact .no
     |some m=>exact .ite (λ_=>.zero) λ_=>.no
   refine .ite (λ_=>?_) λ_=>?_
   . cases p with
     |nil=>exact .zero
     |cons c q=>exact .ite (λ_=>.map) λ_=>.no
   refine .ite (λ_=>?_) λ_=>?_
   . cases n2 p with
     |none=>exact .no
     |some a=>
      obtain⟨id,q⟩:=a;dsimp only;cases cV (ts.getD t.toNat ar).ae id with
      |none=>exact .ite (λ_=>.zero) λ_=>.no
      |some m=>exact .map
   refine .ite (λ_=>?_) λ_=>?_
   . cases lk p with
     |none=>exact .no
     |some l=>exact .ite (λ_=>.map) λ_=>.no
   refine .ite (λ_=>?_) λ_=>?_
   . cases lk p with
     |none=>exact .no
     |some l=>
      refine .ite (λ_=>?_) λ_=>.no
      cases dM (ee ts n (ts.getD t.toNat ar).Key) (jc l)with
      |none=>exact .no
      |some ks=>exact .ite (λ_=>.map) λ_=>.no
   . cases lj p with
     |none=>exact .no
     |some l=>
      dsimp only;split
      . exact .ite (λ_=>.zero) λ_=>.no
      . exact .no
 exact key v h
theorem LP{α d:Type}{f:α->Option d}:∀{l:List α} {m:List d},dM f l=some m->∀y,y∈m->∃a,a∈l/\f a=some y
 |[],m,h,y,c=>by rw[dM]at h;cases h;cases c
 |a::l,m,h,y,c=>by
  rw[dM]at h;split at h
  . rename_i b i h1 e;cases h;rcases fF.1 c with rfl|c
    . grind
    . obtain⟨g,aZ,ba⟩:=LP e y c
      grind
  . cases h
theorem JV{α:Type}:∀(l:List α),(jc l).length<=l.length
 |[]=>eJ _
 |[_]=>lb _
 |a::b::l=>by
  show(jc l).length+1<=l.length+1+1;have:=JV l;omega
theorem Ql{a:Nat}(h:a<1000000):fY .i64 (a:Int) 2=((a/2:Nat):Int):=by
 unfold fY;have e:(a:Int).tdiv 2=((a/2:Nat):Int):=by rw[Int.tdiv_eq_ediv_of_nonneg (by omega)];omega
 rw[e];exact pQ (by omega) (by omega)
theorem abX{n:Nat}(ih:wc ts n){x:ah}(fL:x.Kind=8)(br:0<=x.Key/\x.Key<ts.length)(cp:0<=x.aH/\x.aH<ts.length){p:List UInt8}(N:p.length<=4096){b1:List Int}{b2:Int}{path:List Int}(O:path.length+(n+1)=200):
 ft ts b1 b2 path (match lk p with
  |some l=>if l.length%2 = 0/\((l.length/2:Nat):Int)<=x.Max then (match dM (ee ts n x.Key) (jc l) with
   |some ks=>if rr ks=true then(dM (ee ts n x.aH) (kq l)).map λs=>(⟨8,false,0,[],0,ks,s,[]⟩:I)else none
   |none=>none)else none
  |none=>none) (xC (x,p,ts,b1,b2,path)):=by
 obtain⟨o,K,L,M⟩:=Kp (p:=p) (by omega);rw[xC,K];simp only[aV,ak];by_cases h0:o.2=0
 . obtain⟨v1,v2,v3⟩:=L h0;rw[v1];dsimp only;have F:cg (o.1.length:Int) 2=((o.1.length%2:Nat):Int):=by rw[hE (by omega) (by omega)];omega
   rw[F,Ql (by omega)];by_cases he:o.1.length%2=0
   . have b:¬(bif (!(decide (o.2=0)))then true else(!(decide (((o.1.length%2:Nat):Int)=0))))=true:=by grind
     rw[ag b];by_cases t:((o.1.length/2:Nat):Int)<=x.Max
     . rw[ab (show o.1.length%2=0/\((o.1.length/2:Nat):Int)<=x.Max from⟨he,t⟩),ag (show ¬decide (x.Max<((o.1.length/2:Nat):Int))=true by simp only[hq];omega)];have C:∀q,q∈o.1->∀step b1 b2,ft ts b1 b2 path (ee ts n x.Key q) (iy (step,x.Key,q,ts,b1,b2,path)):=λq k step b1 b2=>
        vl (by omega) (ih x.Key q b1 b2 (path++[step]) br.1 br.2 (by have:=v2 q k;omega) (by simp;omega))
       have hi:∀q,q∈o.1->∀step b1 b2,ft ts b1 b2 path (ee ts n x.aH q) (iy (step,x.aH,q,ts,b1,b2,path)):=λq k step b1 b2=>
        vl (by omega) (ih x.aH q b1 b2 (path++[step]) cp.1 cp.2 (by have:=v2 q k;omega) (by simp;omega))
       obtain⟨c,d⟩:=LO (x:=x) (l:=o.1) (by omega) he C (z0:=0) (z1:=false) (z2:=0) (z3:=[]) (z4:=0) (a0:=x.Kind) (a1:=false) (a2:=0) (a3:=[]) (a4:=0) (b1:=b1) (b2:=b2) (o.1.length/2) 0 [] (by omega) rfl;have d0:o.1.drop (2*0)=o.1:=rfl;rw[d0]at c d;have z0:((2*0:Nat):Int)=0:=rfl;rw[z0]at c d
       cases hs:dM (ee ts n x.Key) (jc o.1)with
       |none=>
        obtain⟨w,f1,f2,r⟩:=d hs;rw[r];exact⟨λv h=>(by cases h),λ_=>⟨_,_,_,rfl⟩⟩
       |some ks=>
        rw[c ks hs];simp only[ak,hr];have D:∀y,y∈ks->bw y.bq:=λy G=>by
         obtain⟨a,_,A⟩:=LP hs y G;exact abt A
        have E:ks.length<=90000:=by
         have:=JR hs;have:=JV o.1;omega
        have B:=MK (ts:=ts) (x:=x) (path:=path) (by omega) (l:=o.1) D E (z0:=0) (z1:=false) (z2:=0) (z3:=[]) (z4:=0) (a0:=x.Kind) (a1:=false) (a2:=0) (a3:=[]) (a4:=0) (b1:=b1) (b2:=b2) _ 0 rfl;have z1:((0+1:Nat):Int)=1:=rfl;rw[z1]at B;rcases B with⟨z,e⟩|⟨⟨m,H,J⟩,w,f1,f2,e⟩
        . have j:rr ks=true:=HP.2 λi hi=>z i (lb _) hi
          rw[ab j,e];simp only[ak];obtain⟨f,g⟩:=JU (x:=x) (l:=o.1) (by omega) he hi (z0:=0) (z1:=false) (z2:=0) (z3:=[]) (z4:=0) (a0:=x.Kind) (a1:=false) (a2:=0) (a3:=[]) (a4:=0) (b1:=b1) (b2:=b2) (ks:=ks) (o.1.length/2) 0 [] (by omega) rfl;rw[d0]at f g;have z2:((2*0+1:Nat):Int)=1:=rfl;rw[z2]at f g
          cases u:dM (ee ts n x.aH) (kq o.1)with
          |none=>
           obtain⟨w,f1,f2,r⟩:=g u;rw[r];exact⟨λv h=>(by cases h),λ_=>⟨_,_,_,rfl⟩⟩
          |some s=>
           rw[f s u];exact⟨λv h=>(by cases h;simp[fL]),λh=>(by cases h)⟩
        . have j:¬rr ks=true:=λh=>J (HP.1 h m H)
          rw[ag j,e];exact⟨λv h=>(by cases h),λ_=>⟨I.eta w,f1,f2,rfl⟩⟩
     . rw[ag (show ¬(o.1.length%2=0/\((o.1.length/2:Nat):Int)<=x.Max)fromλh=>t h.2),ab (show decide (x.Max<((o.1.length/2:Nat):Int))=true by simp only[hq];omega)];exact jn (by omega) _ _ _
   . have b:(bif (!(decide (o.2=0)))then true else(!(decide (((o.1.length%2:Nat):Int)=0))))=true:=by grind
     rw[ag (show ¬(o.1.length%2=0/\((o.1.length/2:Nat):Int)<=x.Max)fromλh=>he h.1),ab b];exact jn (by omega) _ _ _
 . have b:(bif (!(decide (o.2=0)))then true else(!(decide (cg (o.1.length:Int) 2=0))))=true:=by simp[h0]
   rw[ab b,M h0];exact jn (by omega) _ _ _
end
section
variable {ts:List ah}
theorem aar{l:List eP}(m:aO)(ad:l.length<=90000):(∃j,j<l.length/\l.find? (λf=>decide (f.af=m.af))=some (l.getD j lP)/\w5 (l,m)=some ((j:Int),m))\/
 (l.find? (λf=>decide (f.af=m.af))=none/\w5 (l,m)=some (-1,m)):=by
 have h:=u9 (λi=>ox (l,(l.length:Int),(i:Int),m)) l.length (λi=>decide ((l.getD i lP).af=m.af)) (λi=>.inl ((i:Int),m)) (.inr m)
  (λi hi=>by
   rw[ox,ab (by simp;omega),ab (aN hi)];simp only[aV,ak,aW,I.bj,Fs]
   rw[bB (by omega)])
  (by rw[ox,ag (by simp)];simp only[jL])
 have bM:ox (l,(l.length:Int),((0:Nat):Int),m)=ox (l,(l.length:Int),0,m):=rfl;simp only[bM]at h;rw[w5];simp only[jL];rcases h with⟨j,h1,b,c,a⟩|⟨h1,a⟩
 . left;refine⟨j,h1,?_,by rw[a];simp only[aV,ak,jL]⟩;rw[gb h1]at b⊢;rw[Ek];refine⟨b,j,h1,rfl,λk e=>?_⟩;have:=c k e;rw[gb (by omega)]at this
   simpa using this
 . right;refine⟨?_,by rw[a];simp only[aV,ak,jL]⟩;rw[List.find?_eq_none];intro f d;obtain⟨i,hi,rfl⟩:=jd d;have:=h1 i hi;rw[gb hi]at this
   simpa using this
def DP{a:Type}:Option a->Option (List a)->Option (List a)
 |some b,some m=>some (b::m)
 |_,_=>none
theorem GG{α b:Type}(f:α->Option b)(a:α)(l:List α):dM f (a::l)=DP (f a) (dM f l):=by rfl
def hy(f:Int->List UInt8->Option I)(l:List eP)(m:aO):Option I:=match l.find? (λf=>decide (f.af=m.af))with
 |some g=>f m.av g.Data
 |none=>if m.bD=true then some m.bk else none
theorem LQ {x:ah}{path:List Int}(D:path.length<=900){f:Int->List UInt8->Option I}{l:List eP}(ad:l.length<=90000)(A:x.ae.length<=16)
 (r:∀m,m∈x.ae->m.bD=true->jl m.bk=some m.bk)
 (h:∀m,m∈x.ae->∀q,q∈l->∀step b1 b2,ft ts b1 b2 path (f m.av q.Data) (iy (step,m.av,q.Data,ts,b1,b2,path)))
 {z0 z2 z4 a0 a2 a4:Int}{z1 a1:Bool}{z3 a3:List UInt8}{b1:List Int}{b2:Int}:∀(k i:Nat) (acc:List I),i+k=x.ae.length->acc.length=i->
 (∀m,dM (hy f l) (x.ae.drop i)=some m->mA (l,x.ae,(x.ae.length:Int),(i:Int),ts,b1,b2,x,z0,z1,z2,z3,z4,a0,a1,a2,a3,a4,path,acc)=some (.inr (l,ts,b1,b2,x,z0,z1,z2,z3,z4,a0,a1,a2,a3,a4,path,acc++m)))/\
 (dM (hy f l) (x.ae.drop i)=none->∃w f1 f2,mA (l,x.ae,(x.ae.length:Int),(i:Int),ts,b1,b2,x,z0,z1,z2,z3,z4,a0,a1,a2,a3,a4,path,acc)=some (.inl (false,ts,f1,f2,w,path)))
 |0,i,acc,hi,C=>by
  rw[mA,ag (by simp;omega),gy (by omega),dM]
  grind
 |k+1,i,acc,hi,C=>by
  have aI:i<x.ae.length:=by omega
  have t:=bo aI au;have e:x.ae.drop i=x.ae.getD i au::x.ae.drop (i+1):=by rw[gb aI];exact nX aI
  have go:∀v,(∀g,dM (hy f l) (x.ae.drop (i+1))=some g->mA (l,x.ae,(x.ae.length:Int),((i+1:Nat):Int),ts,b1,b2,x,z0,z1,z2,z3,z4,a0,a1,a2,a3,a4,path,acc++[v])=some (.inr (l,ts,b1,b2,x,z0,z1,z2,z3,z4,a0,a1,a2,a3,a4,path,acc++[v]++g)))/\(dM (hy f l) (x.ae.drop (i+1))=none->∃w f1 f2,mA (l,x.ae,(x.ae.length:Int),((i+1:Nat):Int),ts,b1,b2,x,z0,z1,z2,z3,z4,a0,a1,a2,a3,a4,path,acc++[v])=some (.inl (false,ts,f1,f2,w,path))):=λv=>
   LQ D ad A r h k (i+1) (acc++[v]) (by omega) (by simp;omega)
  rw [mA,ab (by simp; omega),ab (aN aI),aW,e,GG];simp only [aV,ak,jL];generalize x.ae.getD i au = a at *;have y:∀ (v:I) (X:Option _),hy f l a = some v->X = mA (l,x.ae,(x.ae.length:Int),((i+1:Nat):Int),ts,b1,b2,x,z0,z1,z2,z3,z4,a0,a1,a2,a3,a4,path,acc++[v])->
   (∀m,DP (hy f l a) (dM (hy f l) (x.ae.drop (i+1)))=some m->X=some (.inr (l,ts,b1,b2,x,z0,z1,z2,z3,z4,a0,a1,a2,a3,a4,path,acc++m)))/\
   (DP (hy f l a) (dM (hy f l) (x.ae.drop (i+1)))=none->∃w f1 f2,X=some (.inl (false,ts,f1,f2,w,path))):=by
   intro v X c B;obtain⟨F,z⟩:=go v;rw[c,B];cases hs:dM (hy f l) (x.ae.drop (i+1))with
   |none=>exact⟨λm b=>(by cases b),λ_=>z hs⟩
   |some g=>
    refine⟨λm b=>?_,λh=>(by cases h)⟩;have:m=v::g:=(by cases b;rfl)
    grind
  rcases aar a ad with⟨j,u,d,p⟩|⟨d,p⟩
  . rw[p];simp only[ak];rw[ab (by simp),ab (aN u),aW];have s:=h a t _ (bo u lP) a.af b1 b2;have o:hy f l a=f a.av (l.getD j lP).Data:=by unfold hy;rw[d]
    cases c:f a.av (l.getD j lP).Data with
    |none=>
     obtain⟨w,f1,f2,E⟩:=s.2 c;rw[E,o,c];exact⟨λm b=>(by cases b),λ_=>⟨w,f1,f2,by simp[I.bj]⟩⟩
    |some v=>
     rw[s.1 v c];simp only[ak,I.bj,eb];rw[ag (by simp),ab (dY (by omega) (by simp;omega)),bB (by omega)]
     grind
  . rw[p];simp only[ak];rw[ag (by simp)];cases n:a.bD with
    |true=>
     rw[ab rfl];simp only[I.bj];rw[r a t n];simp only[ak,I.bj];rw[ab (dY (by omega) (by simp;omega)),bB (by omega)];exact y a.bk _ (by unfold hy;rw[d];simp[n]) rfl
    |false=>
     have o:hy f l a=none:=by unfold hy;rw[d];simp[n]
     rw[ag (by simp),ab (dY (by omega) (by simp;omega)),yb (by simp;omega),o];simp only[ak,I.bj];have az:c' .i64 ((path++[a.af]).length:Int) 1=(path.length:Int):=by rw[fC (by simp<;>omega) (by simp<;>omega)];simp
     rw[az,ab (iF.2 (by simp;omega)),ab (by simp),aW];exact⟨λm b=>(by cases b),λ_=>⟨_,_,_,by simp;exact⟨rfl,rfl,rfl⟩⟩⟩
end
section
variable {ts:List ah}
theorem af5{x:ah}(d:x.ae.length<=1000)(c:hU x.ae)(id:Int):∃r,hB (x,id)=some r/\r.2=(cV x.ae id).isSome:=by
 cases bP:cV x.ae id with
 |some m=>
  obtain⟨j,a,b,g⟩:=Ee c d bP
  grind
 |none=>
  obtain⟨r,e,f⟩:=xr (t:=x) (id:=id) (by omega);refine⟨r,e,?_⟩;rcases f with⟨j,a,b,_,_⟩|⟨_,q⟩
  . exact absurd b (si bP _ (bo a au))
  grind
def iP(x:ah)(f:eP):Bool:=(cV x.ae f.af).isSome || !f.bQ
def jZ(x:ah)(l:List eP):List cF:=(l.filter λf=>!(cV x.ae f.af).isSome).map λf=>⟨f.af,f.Data⟩
theorem HQ {x:ah}{path:List Int}(j:path.length<=900)(c:x.ae.length<=1000)(b:hU x.ae){l:List eP}(ad:l.length<=90000)
 {z0 z2 z4 a0 a2 a4:Int}{z1 a1:Bool}{z3 a3:List UInt8}{b1:List Int}{b2:Int}{its:List I}:∀(k i:Nat) (acc:List cF),i+k=l.length->acc.length<=i->
 ((l.drop i).all (iP x)=true->oz (l,(l.length:Int),(i:Int),ts,b1,b2,x,z0,z1,z2,z3,z4,a0,a1,a2,a3,a4,path,its,acc)=some (.inr (ts,b1,b2,z0,z1,z2,z3,z4,a0,a1,a2,a3,a4,path,its,acc++jZ x (l.drop i))))/\
 ((l.drop i).all (iP x)=false->∃w f1 f2,oz (l,(l.length:Int),(i:Int),ts,b1,b2,x,z0,z1,z2,z3,z4,a0,a1,a2,a3,a4,path,its,acc)=some (.inl (false,ts,f2,w,path,f1)))
 |0,i,acc,hi,n=>by
  rw[oz,ag (by simp;omega),gy (by omega)];exact⟨λ_=>by simp[jZ],λh=>by simp at h⟩
 |k+1,i,acc,hi,n=>by
  have aI:i<l.length:=by omega
  have e:l.drop i=l.getD i lP::l.drop (i+1):=by rw[gb aI];exact nX aI
  obtain⟨r,p,m⟩:=af5 c b (l.getD i lP).af;rw[oz,ab (by simp;omega),ab (aN aI),aW,e];simp only[aV,ak];generalize l.getD i lP=f at*;rw[p];simp only[ak];have o:(f::l.drop (i+1)).all (iP x)=(iP x f&&(l.drop (i+1)).all (iP x)):=rfl;rw[o];cases hs:(cV x.ae f.af).isSome with
  |true=>
   have a:iP x f=true:=by unfold iP;rw[hs];rfl
   have d:jZ x (f::l.drop (i+1))=jZ x (l.drop (i+1)):=by unfold jZ;rw[List.filter_cons_of_neg (by rw[hs];simp)]
   rw[m,hs,ab rfl,a,d,bB (by omega),kp];exact HQ j c b ad k (i+1) acc (by omega) (by omega)
  |false=>
   rw[m,hs,ag (by simp)];cases g:f.bQ with
   |true=>
    have a:iP x f=false:=by unfold iP;rw[hs,g];rfl
    rw[ab rfl,ab (dY (by omega) (by simp;omega)),yb (by simp;omega),a];simp only[ak,I.bj];have az:c' .i64 ((path++[f.af]).length:Int) 1=(path.length:Int):=by rw[fC (by simp<;>omega) (by simp<;>omega)];simp
    rw[az,ab (iF.2 (by simp;omega)),ab (by simp),aW];simp_all
   |false=>
    have a:iP x f=true:=by unfold iP;rw[hs,g];rfl
    have d:jZ x (f::l.drop (i+1))=⟨f.af,f.Data⟩::jZ x (l.drop (i+1)):=by unfold jZ;rw[List.filter_cons_of_pos (by rw[hs];rfl)];rfl
    rw[ag (by simp),ab (dY (by omega) (by simp;omega)),a,d,bB (by omega),kp];have:=HQ j c b ad (z0:=z0) (z1:=z1) (z2:=z2) (z3:=z3) (z4:=z4) (a0:=a0) (a1:=a1) (a2:=a2) (a3:=a3) (a4:=a4) (b1:=b1) (b2:=b2) (its:=its) k (i+1) (acc++[⟨f.af,f.Data⟩]) (by omega) (by simp;omega)
    grind
end
section
variable {ts:List ah}
theorem aaa(H:oe ts)(i:∀x,x∈ts->∀m,m∈x.ae->m.bD=true->jl m.bk=some m.bk){n:Nat}(ih:wc ts n){x:ah}(g:x∈ts)(cL:x.Kind=5)(cP:∀m,m∈x.ae->0<=m.av/\m.av<ts.length){p:List UInt8}(E:p.length<=4096){b1:List Int}{b2:Int}{path:List Int}(F:path.length+(n+1)=200):
 (∀l,lj p=some l->∀a,dM (hy (ee ts n) l) x.ae=some a->l.all (iP x)=true->xE (x,p,ts,b1,b2,path)=some (⟨5,false,0,[],0,[],a,jZ x l⟩,true,ts,b1,b2,path))/\
 ((lj p=none\/(∃l,lj p=some l/\(dM (hy (ee ts n) l) x.ae=none\/l.all (iP x)=false)))->∃w f1 f2,xE (x,p,ts,b1,b2,path)=some (w,false,ts,f1,f2,path)):=by
 obtain⟨j,C⟩:=H.A x g (.inl cL);obtain⟨o,v,y,z⟩:=aaZ (p:=p) (by omega);rw[xE,v];simp only[aV,ak];by_cases h0:o.2=0
 . obtain⟨v1,v2,v3,v4⟩:=y h0;rw[ag (by simp[h0]),v1];have D:=H.T x g;have k:∀m,m∈x.ae->m.bD=true->jl m.bk=some m.bk:=λm c s=>i x g m c s
   have aC:∀m,m∈x.ae->∀q,q∈o.1->∀step b1 b2,ft ts b1 b2 path (ee ts n m.av q.Data) (iy (step,m.av,q.Data,ts,b1,b2,path)):=λm c q u step b1 b2=>
    vl (by omega) (ih m.av q.Data b1 b2 (path++[step]) (cP m c).1 (cP m c).2 (by have:=(v2 q u).1;omega) (by simp;omega))
   obtain⟨b,d⟩:=LQ (x:=x) (path:=path) (by omega) (f:=ee ts n) (l:=o.1) (by omega) (by omega) k aC (z0:=0) (z1:=false) (z2:=0) (z3:=[]) (z4:=0) (a0:=x.Kind) (a1:=false) (a2:=0) (a3:=[]) (a4:=0) (b1:=b1) (b2:=b2) x.ae.length 0 [] (by omega) rfl;rw[la]at b d;have z0:((0:Nat):Int)=0:=rfl;rw[z0]at b d
   have B:=λits=>HQ (ts:=ts) (x:=x) (path:=path) (by omega) (by omega) j (l:=o.1) (by omega) (z0:=0) (z1:=false) (z2:=0) (z3:=[]) (z4:=0) (a0:=x.Kind) (a1:=false) (a2:=0) (a3:=[]) (a4:=0) (b1:=b1) (b2:=b2) (its:=its) o.1.length 0 [] (by omega) (eJ _)
   rw[la,z0]at B;constructor
   . intro l ad a t r;cases ad;rw[b a t];simp only[ak,hr];rw[(B a).1 r];simp[cL]
   . intro h;rcases h with h|⟨l,ad,h⟩
     . cases h
     . cases ad;cases hs:dM (hy (ee ts n) o.1) x.ae with
       |none=>
        obtain⟨w,f1,f2,e⟩:=d hs;rw[e];exact⟨_,_,_,rfl⟩
       |some a=>
        rcases h with h|h
        . rw[hs]at h;cases h
        . obtain⟨w,f1,f2,e⟩:=(B a).2 h;rw[b a hs];simp only[ak,hr];rw[e];exact⟨I.eta w,f1,f2,rfl⟩
 . rw[ab (by simp[h0]),z h0];constructor
   . intro l ad;cases ad
   . intro _;rw[yb (by omega)];exact⟨_,_,_,rfl⟩
end
structure mR (ts:List ah):Prop where
 S:oe ts
 V:pY ts
 W:∀x,x∈ts->∀m,m∈x.ae->m.bD=true->jl m.bk=some m.bk
theorem dH.gw{ts:List ah}(H:dH ts):mR ts:=⟨H.V.iv H.T,H.V,λx c m a e=>aao ((H.T x c).3 m a) (by have:=H.W x c m a e;omega)⟩
section
variable {ts:List ah}
theorem mR.mem(H:mR ts){x:ah}(c:x∈ts){m:aO}(a:m∈x.ae):0<=m.av/\m.av<ts.length:=
 H.V.U x c m.av (by unfold fk;simp;exact .inl ⟨m,a,rfl⟩)
theorem mR.elem(H:mR ts){x:ah}(c:x∈ts)(a:7<=x.Kind):0<=x.aH/\x.aH<ts.length:=
 H.V.U x c x.aH (by unfold fk;simp[a])
theorem mR.key(H:mR ts){x:ah}(c:x∈ts)(a:x.Kind=8):0<=x.Key/\x.Key<ts.length:=
 H.V.U x c x.Key (by unfold fk;simp[a])
def vP:I:=⟨0,false,0,[],0,[],[],[]⟩
abbrev tu:=Int->List UInt8->Option I
def GZ(p:List UInt8):Option I:=if p=[]then some ⟨1,false,0,[],0,[],[],[]⟩else if p=[1]then some ⟨1,true,0,[],0,[],[],[]⟩else none
def G0(x:ah)(p:List UInt8):Option I:=match j0 p with
 |some m=>if x.bz<=ky m/\ky m<=x.bx then some ⟨2,false,ky m,[],0,[],[],[]⟩else none
 |none=>none
def G1(x:ah)(p:List UInt8):Option I:=if(p.length:Int)<=x.Max then some ⟨3,false,0,p,0,[],[],[]⟩else none
def G2(x:ah)(p:List UInt8):Option I:=match j0 p with
 |some m=>if 1<=m/\m<=1000/\((x.a7.any λy=>decide (y.af=(m:Int)))||x.Open)=true then some ⟨4,false,0,[],(m:Int),[],[],[]⟩else none
 |none=>none
def G4(f:tu)(x:ah):List UInt8->Option I
 |[]=>some ⟨9,false,0,[],0,[],[],[]⟩
 |c::q=>if c=1 then(f x.aH q).map λv=>⟨9,false,0,[],0,[],[v],[]⟩else none
def QL(f:tu)(x:ah)(p:List UInt8):Option I:=match n2 p with
 |some (id,q)=>(match cV x.ae id with
  |some m=>(f m.av q).map λv=>⟨6,false,0,[],id,[],[v],[]⟩
  |none=>if x.Open=true then some ⟨6,false,0,[],id,[],[],[⟨id,q⟩]⟩else none)
 |none=>none
def Db(f:tu)(x:ah)(p:List UInt8):Option I:=match lk p with
 |some l=>if(l.length:Int)<=x.Max then(dM (f x.aH) l).map λa=>⟨7,false,0,[],0,[],a,[]⟩else none
 |none=>none
def QM(f:tu)(x:ah)(p:List UInt8):Option I:=match lk p with
 |some l=>if l.length%2 = 0/\((l.length/2:Nat):Int)<=x.Max then (match dM (f x.Key) (jc l) with
  |some ks=>if rr ks=true then(dM (f x.aH) (kq l)).map λa=>⟨8,false,0,[],0,ks,a,[]⟩else none
  |none=>none)else none
 |none=>none
def G3(f:tu)(x:ah)(p:List UInt8):Option I:=match lj p with
 |some l=>(match dM (hy f l) x.ae with
  |some a=>if l.all (iP x)=true then some ⟨5,false,0,[],0,[],a,jZ x l⟩else none
  |none=>none)
 |none=>none
def G5(f:tu)(x:ah)(p:List UInt8):Option I:=
 if x.Kind=1 then GZ p else if x.Kind=2 then G0 x p else if x.Kind=3 then G1 x p else if x.Kind=4 then G2 x p
 else if x.Kind=9 then G4 f x p else if x.Kind=6 then QL f x p else if x.Kind=7 then Db f x p else if x.Kind=8 then QM f x p else G3 f x p
theorem aas(t:Int)(p:List UInt8):ee ts 0 t p=none:=by rw[ee.eq_def]
theorem Jp(n:Nat)(t:Int)(p:List UInt8):ee ts (n+1) t p=G5 (ee ts n) (ts.getD t.toNat ar) p:=by rfl
theorem ft.eta{b1:List Int}{b2:Int}{path:List Int}{o:Option I}{X:Option (I×Bool×List ah×List Int×Int×List Int)}(h:ft ts b1 b2 path o X):
 ft ts b1 b2 path o (X>>=λr=>some (I.eta r.1,r.2.1,r.2.2.1,r.2.2.2.1,r.2.2.2.2.1,r.2.2.2.2.2)):=by
 refine⟨λv a=>?_,λaA=>?_⟩
 . rw[h.1 v a];simp[I.bj]
 . obtain⟨w,f1,f2,c⟩:=h.2 aA;exact⟨w,f1,f2,by rw[c];simp[I.bj]⟩
theorem ft.one{b1:List Int}{b2:Int}{path:List Int}(v:I):ft ts b1 b2 path (some v) (some (v,true,ts,b1,b2,path)):=⟨λa h=>by cases h;rfl,λh=>by cases h⟩
theorem ft.cast{b1:List Int}{b2:Int}{path:List Int}{o a:Option I}{X:Option (I×Bool×List ah×List Int×Int×List Int)}(e:o=a)(h:ft ts b1 b2 path o X):ft ts b1 b2 path a X:=e▸h
theorem ML{l:List dc}{m:Nat}:(∃y,y∈l/\y.af=(m:Int))↔(l.any λy=>decide (y.af=(m:Int)))=true:=by grind
theorem aat(H:mR ts){n:Nat}(ih:wc ts n){x:ah}(g:x∈ts)(fK:x.Kind=7){p:List UInt8}(r:p.length<=4096){b1:List Int}{b2:Int}{path:List Int}(s:path.length+(n+1)=200):
 ft ts b1 b2 path (Db (ee ts n) x p) (A' (x,p,ts,b1,b2,path)):=by
 obtain⟨o,j,k,m⟩:=Kp (p:=p) (by omega);obtain⟨az,d⟩:=H.elem g (by omega);rw[A',j];unfold Db;simp only[aV,ak];by_cases h0:o.2=0
 . obtain⟨v1,v2,v3⟩:=k h0;rw[ag (by simp[h0]),v1];dsimp only;by_cases c:(o.1.length:Int)<=x.Max
   . rw[ab c,ag (by simp;omega)];have hi:∀q,q∈o.1->∀step b1 b2,ft ts b1 b2 path (ee ts n x.aH q) (iy (step,x.aH,q,ts,b1,b2,path)):=λq e step b1 b2=>
      vl (by omega) (ih x.aH q b1 b2 (path++[step]) az d (by have:=v2 q e;omega) (by simp;omega))
     obtain⟨a,b⟩:=LM (x:=x) (l:=o.1) (by omega) hi (z0:=0) (z1:=false) (z2:=0) (z3:=[]) (z4:=0) (a0:=x.Kind) (a1:=false) (a2:=0) (a3:=[]) (a4:=0) (b1:=b1) (b2:=b2) o.1.length 0 [] (by omega) rfl;rw[la]at a b;have z0:((0:Nat):Int)=0:=rfl;rw[z0]at a b;cases hs:dM (ee ts n x.aH) o.1 with
     |none=>
      obtain⟨w,f1,f2,f⟩:=b hs;rw[f];exact⟨λv h=>by simp at h,λ_=>⟨_,_,_,rfl⟩⟩
     |some i=>
      rw[a i hs];exact⟨λt h=>by grind,λh=>by simp at h⟩
   . rw[ag c,ab (by simp;omega)];exact jn (by omega) _ _ _
 . rw[ab (by simp[h0]),m h0];exact jn (by omega) _ _ _
theorem MM(H:mR ts):∀n,n<=200->wc ts n
 |0,_=>λt p b1 b2 path t0 t1 d f=>by
  rw[o8,ab (by simp;omega),aas];exact jn (by omega) _ _ _
 |n+1,aA=>λt p b1 b2 path t0 t1 d f=>by
  have ih:=MM H n (by omega);obtain⟨j,rfl⟩:=Int.eq_ofNat_of_zero_le t0;have C:j<ts.length:=by omega
  rw[o8,ag (by simp;omega),ab (aN C),Jp,aW];have a:=bo C ar;generalize ts.getD j ar=x at*;obtain⟨X,Y⟩:=H.S.K x a;have O:x.a7.length<9223372036854775807:=eg (iC (H.S.T x a).1);unfold G5;simp only[aV,ak];obtain⟨u,E,F,G⟩:=acd p;by_cases aZ:x.Kind=1
  . rw[ab aZ,ab (show decide (x.Kind=1)=true by simpa using aZ)];unfold GZ;by_cases h0:p=[]
    . rw[ab h0,ag (by simp[h0]),aZ,h0];exact .one _
    . by_cases h1:p=[1]
      . rw[ag h0,ab h1,ag (by simp[h1]),aZ,h1];exact .one _
      . rw[ag h0,ag h1,ab (by simp[h0,h1])];exact jn (by omega) _ _ _
  rw[ag aZ,ag (show ¬decide (x.Kind=1)=true by simpa using aZ)];by_cases ba:x.Kind=2
  . rw[ab ba,ab (show decide (x.Kind=2)=true by simpa using ba),E];unfold G0;simp only[ak];by_cases h0:u.2=0
    . obtain⟨m,g,s⟩:=F h0;rw[g,s,adw (Ns g),ag (by simp[h0])];simp only[ak];by_cases b:x.bz<=ky m/\ky m<=x.bx
      . rw[ab b,ag (by simp;omega),ba];exact .one _
      . rw[ag b,ab (by simp;omega)];exact jn (by omega) _ _ _
    . rw[G h0,ab (by simp[h0])];exact jn (by omega) _ _ _
  rw[ag ba,ag (show ¬decide (x.Kind=2)=true by simpa using ba)];by_cases bE:x.Kind=3
  . rw[ab bE,ab (show decide (x.Kind=3)=true by simpa using bE)];unfold G1;by_cases b:(p.length:Int)<=x.Max
    . rw[ab b,ag (by simp;omega),bE];exact .one _
    . rw[ag b,ab (by simp;omega)];exact jn (by omega) _ _ _
  rw[ag bE,ag (show ¬decide (x.Kind=3)=true by simpa using bE)];by_cases bU:x.Kind=4
  . rw[ab bU,ab (show decide (x.Kind=4)=true by simpa using bU),E];unfold G2;simp only[ak];by_cases h0:u.2=0
    . obtain⟨m,g,s⟩:=F h0;rw[g,s];dsimp only;by_cases b:1<=m/\m<=1000
      . obtain⟨q,R,_,U⟩:=yz (t:=x) (m:Int) O;have e:bW .i64 (m:Int)=(m:Int):=pQ (by omega) (by omega);rw[ag (show ¬(bif bif !decide (u.2=0)then true else decide ((m:Int)<1)then true else decide (1000<(m:Int)))=true by simp[h0];omega),e,R];simp only[ak]
        have N:q.2=(x.a7.any λy=>decide (y.af=(m:Int))):=by
         have:=(FL U).trans ML
         grind
        rw[N,bU];by_cases A:((x.a7.any λy=>decide (y.af=(m:Int)))||x.Open)=true
        . rw[ab (show 1<=m/\m<=1000/\((x.a7.any λy=>decide (y.af=(m:Int)))||x.Open)=true from⟨b.1,b.2,A⟩),ag]
          . exact .one _
          grind
        . rw[ag (show ¬(1<=m/\m<=1000/\((x.a7.any λy=>decide (y.af=(m:Int)))||x.Open)=true)fromλh=>A h.2.2),ab]
          . exact jn (by omega) _ _ _
          grind
      . rw[ag (show ¬(1<=m/\m<=1000/\((x.a7.any λy=>decide (y.af=(m:Int)))||x.Open)=true)fromλh=>b ⟨h.1,h.2.1⟩),ab (by simp[h0];omega)];exact jn (by omega) _ _ _
    . rw[G h0,ab (by simp[h0])];exact jn (by omega) _ _ _
  rw[ag bU,ag (show ¬decide (x.Kind=4)=true by simpa using bU)];by_cases gM:x.Kind=9
  . rw[ab gM,ab (show decide (x.Kind=9)=true by simpa using gM)];obtain⟨az,L⟩:=H.elem a (by omega);cases p with
    |nil=>
     rw[ab (by simp),G4,gM];exact .one _
    |cons c q=>
     have ad:(c::q).length=q.length+1:=rfl;have i0:aB 0 (c::q).length=true:=aN (k:=0) (by simp);have b0:hY (c::q) 0=(c.toNat:Int):=rfl;have vE:ed 1 ((c::q).length:Int) (c::q).length=true:=iF.2 (by simp<;>omega);have c0:eI (c::q) 1 ((c::q).length:Int)=q:=by
      unfold eI;simp
     rw[ag (by simp),ab i0,b0,G4];by_cases o:c=1
     . subst o;rw[ab rfl,ag (by simp),ab vE,c0];have B:=vl (step:=0) (path:=path) (by omega) (ih x.aH q b1 b2 (path++[0]) az L (by simp at d;omega) (by simp;omega));cases D:ee ts n x.aH q with
       |none=>
        obtain⟨w,f1,f2,P⟩:=B.2 D;rw[P];exact⟨λv h=>by simp at h,λ_=>⟨_,_,_,rfl⟩⟩
       |some v=>
        rw[B.1 v D]
        exact⟨λV h=>by
         have:V=⟨9,false,0,[],0,[],[v],[]⟩:=by simpa using h.symm
         rw[this]
         simp[I.bj,gM],λh=>by simp at h⟩
     . have M:¬((c.toNat:Int)=1):=λh=>o (UInt8.toNat.inj (by show c.toNat=1;omega))
       rw[ag o,ab (by simpa using M)];exact jn (by omega) _ _ _
  rw[ag gM,ag (show ¬decide (x.Kind=9)=true by simpa using gM)];by_cases cM:x.Kind=6
  . rw[ab cM,ab (show decide (x.Kind=6)=true by simpa using cM)];refine ft.eta (ft.cast ?_ (aap H.S ih a cM (λm r=>H.mem a r) d f));rfl
  rw[ag cM,ag (show ¬decide (x.Kind=6)=true by simpa using cM)];by_cases fK:x.Kind=7
  . rw[ab fK,ab (show decide (x.Kind=7)=true by simpa using fK)];exact ft.eta (aat H ih a fK d f)
  rw[ag fK,ag (show ¬decide (x.Kind=7)=true by simpa using fK)];by_cases fL:x.Kind=8
  . rw[ab fL,ab (show decide (x.Kind=8)=true by simpa using fL)];refine ft.eta (ft.cast ?_ (abX ih fL (H.key a fL) (H.elem a (by omega)) d f));rfl
  rw[ag fL,ag (show ¬decide (x.Kind=8)=true by simpa using fL)];have cL:x.Kind=5:=by omega
  obtain⟨J,i⟩:=aaa H.S H.W ih a cL (λm r=>H.mem a r) d (b1:=b1) (b2:=b2) f;refine ft.eta ?_;unfold G3;cases ad:lj p with
  |none=>exact⟨λv h=>(by cases h),λ_=>i (.inl ad)⟩
  |some l=>
   dsimp only;cases hs:dM (hy (ee ts n) l) x.ae with
   |none=>exact⟨λv h=>(by cases h),λ_=>i (.inr ⟨l,ad,.inl hs⟩)⟩
   |some Q=>
    dsimp only;cases z:l.all (iP x)with
    |true=>exact⟨λv h=>(by cases h;exact J l ad Q hs z),λh=>(by cases h)⟩
    |false=>exact⟨λv h=>(by cases h),λ_=>i (.inr ⟨l,ad,.inr z⟩)⟩
end
end
section
open Go Go.Proofs.YtfcnkdegapjgnaaGreatDoor.Shv Go.Sort
set_option maxRecDepth 100000
def e0(C d:Nat)(l:List eP)(m:aO):Nat:=match l.find? (λf=>decide (f.af=m.af))with
 |some f=>C*(f.Data.length+1)
 |none=>d
def ay(C d:Nat)(l:List eP)(ms:List aO):Nat:=(ms.map (e0 C d l)).sum
theorem LR:∀{A B:List Fd},A.Pairwise (λa b=>a.id<b.id)->B.Pairwise (λa b=>a.id<b.id)->(∀x,x∈A↔x∈B)->A=B
 |[],[],_,_,_=>rfl
 |[],b::B,_,_,h=>by have:=(h b).2 (.head _);grind
 |a::A,[],_,_,h=>by have:=(h a).1 (.head _);grind
 |a::A,b::B,c,cA,h=>by
  rw[jU]at c cA;have e:a=b:=by grind
  subst e;rw[LR c.2 cA.2 _]
  grind
theorem HA{α:Type}{l:List α}{y:α}(d:α)(h:y∈l):∃i,i<l.length/\l.getD i d=y:=by
 obtain⟨i,hi,rfl⟩:=jd h;exact⟨i,hi,gb hi d⟩
section
variable {ts:List ah}
theorem LS{r:Nat}:∀{ms:List aO} {l:List I},(∀j,j<ms.length->j<l.length->dz (ms.getD j au) (l.getD j aK)=false->g' ts (ms.getD j au).av (l.getD j aK)<=r)->kz ts ms l<=r
 |[],l,_=>by
  grind[kz]
 |m::ms,[],_=>by
  grind[kz]
 |m::ms,v::l,h=>by
  have ih:=LS λj h1 b a=>h (j+1) (by grind) (by grind) a
  rw[kz];split
  . grind
  . have:=h 0 (by simp) (by simp) (by grind)
    grind
end
abbrev hA:=Int->I->Int->List Int->I ⊕ List Int
def mZ{α:Type}:α ⊕ List Int->List α ⊕ List Int->List α ⊕ List Int
 |.inr p,_=>.inr p
 |.inl _,.inr p=>.inr p
 |.inl a,.inl l=>.inl (a::l)
def lT{α a:Type}(g:α->a):α ⊕ List Int->a ⊕ List Int
 |.inr p=>.inr p
 |.inl b=>.inl (g b)
def tL{α a:Type}(g:α->a ⊕ List Int):α ⊕ List Int->a ⊕ List Int
 |.inr p=>.inr p
 |.inl b=>g b
def fE(l:List aO)(id:Int):Option Nat:=l.findIdx? λm=>decide (m.af=id)
def rD(l:List aO)(id:Int):Int×Bool:=match fE l id with
 |some j=>((j:Int),true)
 |none=>(0,false)
def hI(f:hA)(path:List Int)(t rt:Int):Nat->List I->List I ⊕ List Int
 |_,[]=>.inl []
 |i,v::l=>mZ (f t v rt (path++[(i:Int)])) (hI f path t rt (i+1) l)
noncomputable def zl (m:aO)(w:I)(n:aO)(a:List Int):I ⊕ List Int->I ⊕ List Int
 |.inr p=>if dz m w=true then .inr a else .inr p
 |.inl b=>if dz m w=true/\dz n b=false then .inr a else .inl b
noncomputable def zn (f:hA)(x:ah)(v:I)(path:List Int)(n:aO):I ⊕ List Int:=match fE x.ae n.af with
 |none=>if n.bD=true then .inl n.bk else .inr (path++[n.af])
 |some i=>zl (x.ae.getD i au) (v.al.getD i aK) n (path++[n.af]) (f (x.ae.getD i au).av (v.al.getD i aK) n.av (path++[n.af]))
noncomputable def mJ (f:hA)(x:ah)(v:I)(path:List Int):List aO->List I ⊕ List Int
 |[]=>.inl []
 |n::l=>mZ (zn f x v path n) (mJ f x v path l)
noncomputable def iu (tw:List ah)(y:ah)(path:List Int):List aO->List I->List cF ⊕ List Int
 |m::ms,v::l=>if(cV y.ae m.af).isSome=true then iu tw y path ms l
  else if m.bQ=true then .inr (path++[m.af])
  else if dz m v=true then iu tw y path ms l
  else mZ (.inl ⟨m.af,bY tw m.av v⟩) (iu tw y path ms l)
 |_,_=>.inl []
def lZ(x y:ah)(v:I):Prop:=(x.Kind=2->y.bz<=v.bq/\v.bq<=y.bx)/\(x.Kind=3->(v.bA.length:Int)<=y.Max)/\(x.Kind=4->(∃s,s∈y.a7/\s.af=v.af)\/y.Open=true)
noncomputable def Ch (tw:List ah)(f:hA)(x y:ah)(v:I)(path:List Int):I ⊕ List Int:=
 tL (λa=>lT (λr=>⟨5,false,0,[],0,[],a,r⟩) (iu tw y path x.ae v.al)) (mJ f x v path y.ae)
noncomputable def vC (tw:List ah)(f:hA)(x y:ah)(v:I)(path:List Int):I ⊕ List Int:=match fE x.ae v.af with
 |none=>.inr path
 |some i=>match fE y.ae v.af with
  |some k=>lT (λa=>⟨6,false,0,[],v.af,[],[a],[]⟩) (f (x.ae.getD i au).av (v.al.getD 0 aK) (y.ae.getD k au).av (path++[v.af]))
  |none=>if y.Open=true then .inl ⟨6,false,0,[],v.af,[],[],[⟨v.af,bY tw (x.ae.getD i au).av (v.al.getD 0 aK)⟩]⟩else .inr path
def zj(f:hA)(x y:ah)(v:I)(path:List Int):I ⊕ List Int:=
 if(v.al.length:Int)<=y.Max then lT (λa=>⟨7,false,0,[],0,[],a,[]⟩) (hI f path x.aH y.aH 0 v.al)else .inr path
def zk(f:hA)(x y:ah)(v:I)(path:List Int):I ⊕ List Int:=
 if(v.al.length:Int)<=y.Max then tL (λks=>lT (λa=>⟨8,false,0,[],0,ks,a,[]⟩) (hI f path x.aH y.aH 0 v.al)) (hI f path x.Key y.Key 0 v.aE)else .inr path
def EG(f:hA)(x y:ah)(v:I)(path:List Int):I ⊕ List Int:=
 lT (λa=>⟨9,false,0,[],0,[],a,[]⟩) (hI f path x.aH y.aH 0 v.al)
open Classical in
noncomputable def h6 (tw:List ah)(f:hA)(x y:ah)(v:I)(path:List Int):I ⊕ List Int:=
 if ¬x.Kind=y.Kind then .inr path
 else if x.Kind=5 then Ch tw f x y v path
 else if x.Kind=6 then vC tw f x y v path
 else if x.Kind=7 then zj f x y v path
 else if x.Kind=8 then zk f x y v path
 else if x.Kind=9 then EG f x y v path
 else if lZ x y v then .inl v else .inr path
noncomputable def gA (tw tr:List ah):Nat->hA
 |0=>λ_ _ _ path=>.inr path
 |n+1=>λt v rt path=>h6 tw (gA tw tr n) (tw.getD t.toNat ar) (tr.getD rt.toNat ar) v path
theorem Ca{tw tr:List ah}(n:Nat)(t:Int)(v:I)(rt:Int)(path:List Int):gA tw tr (n+1) t v rt path=h6 tw (gA tw tr n) (tw.getD t.toNat ar) (tr.getD rt.toNat ar) v path:=rfl
section
variable {tw:List ah}{f:hA}{x y:ah}{v:I}{path:List Int}
theorem Nu(br:¬x.Kind=y.Kind):h6 tw f x y v path= .inr path:=by grind[h6]
theorem Qn(br:x.Kind=y.Kind)(h:x.Kind=5):h6 tw f x y v path=Ch tw f x y v path:=by grind[h6]
theorem Qo(br:x.Kind=y.Kind)(h:x.Kind=6):h6 tw f x y v path=vC tw f x y v path:=by grind[h6]
theorem Qp(br:x.Kind=y.Kind)(h:x.Kind=7):h6 tw f x y v path=zj f x y v path:=by grind[h6]
theorem Qq(br:x.Kind=y.Kind)(h:x.Kind=8):h6 tw f x y v path=zk f x y v path:=by grind[h6]
theorem Qr(br:x.Kind=y.Kind)(h:x.Kind=9):h6 tw f x y v path=EG f x y v path:=by grind[h6]
theorem y'(br:x.Kind=y.Kind)(h:x.Kind<=4)(ad:lZ x y v):h6 tw f x y v path= .inl v:=by grind[h6]
theorem Cw(br:x.Kind=y.Kind)(h:x.Kind<=4)(ad:¬lZ x y v):h6 tw f x y v path= .inr path:=by grind[h6]
end
theorem abu{m:aO}{w:I}{n:aO}{a p:List Int}:zl m w n a (.inr p)=if dz m w=true then .inr a else .inr p:=rfl
theorem abv{m:aO}{w:I}{n:aO}{b:List Int}{a:I}:zl m w n b (.inl a)=if dz m w=true/\dz n a=false then .inr b else .inl a:=rfl
theorem jN{l:List aO}{id:Int}{j:Nat}(h:fE l id=some j):j<l.length/\(l.getD j au).af=id/\∀k,k<j->(l.getD k au).af≠id:=by
 obtain⟨h1,a,b⟩:=List.findIdx?_eq_some_iff_getElem.1 h
 grind[gb]
theorem MN{l:List aO}{id:Int}(h:fE l id=none):∀k,k<l.length->(l.getD k au).af≠id:=λk a=>by
 have:=List.findIdx?_eq_none_iff.1 h _ (bo a au)
 grind
theorem aau(l:List aO)(id:Int):sT l id (rD l id):=by
 unfold rD;cases h:fE l id with
 |some j=>exact .inl ⟨j,(jN h).1,(jN h).2.1,(jN h).2.2,rfl⟩
 |none=>exact .inr ⟨MN h,rfl⟩
theorem uV(l:List aO)(id:Int):(fE l id).isSome=(cV l id).isSome:=by
 cases h:fE l id with
 |some j=>
  obtain⟨h1,c,_⟩:=jN h;cases g:cV l id with
  |some _=>rfl
  |none=>grind[si]
 |none=>
  cases g:cV l id with
  |none=>rfl
  |some m=>
   obtain⟨a,b⟩:=oT g;obtain⟨i,hi,rfl⟩:=jd a;exact absurd b (by rw[<-gb hi au];grind[MN])
theorem C0{α:Type}{a:α ⊕ List Int}{b:List α ⊕ List Int}{l:List α}(h:mZ a b= .inl l):∃c us,a= .inl c/\b= .inl us/\l=c::us:=by
 grind[mZ]
theorem nu{α d:Type}{g:α->d}{a:α ⊕ List Int}{b:d}(h:lT g a= .inl b):∃c,a= .inl c/\b=g c:=by
 grind[lT]
theorem C1{α d:Type}{g:α->d ⊕ List Int}{a:α ⊕ List Int}{b:d}(h:tL g a= .inl b):∃c,a= .inl c/\g c= .inl b:=by
 grind[tL]
theorem xX{f:hA}{path:List Int}{t rt:Int}:∀{l:List I} {i:Nat} {us:List I},hI f path t rt i l= .inl us->us.length=l.length/\∀j,j<l.length->f t (l.getD j aK) rt (path++[((i+j:Nat):Int)])= .inl (us.getD j aK)
 |[],i,us,h=>by
  grind[hI]
 |v::l,i,us,h=>by
  obtain⟨e,g,h1,c,rfl⟩:=C0 h;obtain⟨a,b⟩:=xX c;refine⟨by grind,λj d=>?_⟩;cases j<;>grind
theorem GH{f:hA}{x:ah}{v:I}{path:List Int}:∀{l:List aO} {us:List I},mJ f x v path l= .inl us->us.length=l.length/\∀j,j<l.length->zn f x v path (l.getD j au)= .inl (us.getD j aK)
 |[],us,h=>by
  grind[mJ]
 |n::l,us,h=>by
  obtain⟨d,e,h1,c,rfl⟩:=C0 h;obtain⟨a,b⟩:=GH c
  grind
theorem LU{f:hA}{x:ah}{v:I}{path:List Int}{n:aO}{a:I}(h:zn f x v path n= .inl a):
 (fE x.ae n.af=none/\n.bD=true/\a=n.bk)\/∃i,fE x.ae n.af=some i/\f (x.ae.getD i au).av (v.al.getD i aK) n.av (path++[n.af])= .inl a/\(dz (x.ae.getD i au) (v.al.getD i aK)=true->dz n a=true):=by
 unfold zn at h;cases b:fE _ _ with
 |none=>
  grind
 |some i=>
  simp only[b]at h;refine .inr ⟨i,rfl,?_⟩;revert h;cases f _ _ _ _ with
  |inr p=>grind[zl]
  |inl w=>grind[zl]
theorem C2{tw:List ah}{y:ah}{path:List Int}:∀{ms:List aO} {l:List I} {r:List cF},iu tw y path ms l= .inl r->
 r.length<=ms.length/\(r.map λa=>a.af).Sublist (ms.map λm=>m.af)/\∀a,a∈r->cV y.ae a.af=none/\∃j,j<ms.length/\j<l.length/\a=⟨(ms.getD j au).af,bY tw (ms.getD j au).av (l.getD j aK)⟩
 |[],l,r,h=>by
  rw[iu]at h
  . cases h;simp
  . intros;simp_all
 |m::ms,[],r,h=>by
  grind[iu]
 |m::ms,v::l,r,h=>by
  have g:∀{r},iu tw y path ms l= .inl r->r.length<=(m::ms).length/\(r.map λa=>a.af).Sublist ((m::ms).map λm=>m.af)/\∀a,a∈r->cV y.ae a.af=none/\∃j,j<(m::ms).length/\j<(v::l).length/\a=⟨((m::ms).getD j au).af,bY tw ((m::ms).getD j au).av ((v::l).getD j aK)⟩:=λ{r} h=>by
   obtain⟨a,b,c⟩:=C2 h;refine⟨by simp;omega,by grind,λq d=>?_⟩;obtain⟨c1,j,i,k,e⟩:=c q d;exact⟨c1,j+1,by simp;omega,by simp;omega,e⟩
  rw[iu]at h;by_cases c1:(cV y.ae m.af).isSome=true
  . grind
  rw[ag c1]at h;by_cases c2:m.bQ=true
  . rw[ab c2]at h;cases h
  rw[ag c2]at h;by_cases c3:dz m v=true
  . grind
  rw[ag c3]at h;obtain⟨n,us,az,f,rfl⟩:=C0 h;cases az;obtain⟨a,b,c⟩:=C2 f;refine⟨by grind,by grind,λq d=>?_⟩;rcases fF.1 d with rfl|d
  . exact⟨by simpa using c1,0,by simp,by simp,rfl⟩
  . exact(g f).2.2 q d
section
variable {ts:List ah}
theorem zz{n:Nat}(h:n<16384):(ei n).length<=2:=HM 1 n (by grind)
theorem ny{p:List UInt8}(h:p.length<16384):(dB p).length<=p.length+2:=by
 grind[zz,dB]
def lv(ts:List ah)(t:Int)(v:I):Prop:=(bY ts t v).length+4<=wt v
theorem CM{t:Int}:∀{l:List I},dN l<=3000->(∀y,y∈l->lv ts t y)->((b4 ts t l).flatMap dB).length<=dN l
 |[],_,_=>by grind[b4]
 |v::l,a,h=>by
  rw[b4];rw[iE]at a⊢;have h1:=h v (.head _);unfold lv at h1;have c:=CM (by omega) λx b=>h x (.tail _ b)
  grind[ny]
theorem MO{t:Int}{l:List I}(h:∀y,y∈l->lv ts t y):((b4 ts t l).headD []).length+4<=dN l\/l=[]:=by
 cases l with
 |nil=>simp
 |cons v l=>
  have h1:=h v (.head _)
  grind[lv,b4,iE]
theorem LV:∀{ms:List aO} {l:List I},dN l<=3000->(∀m,m∈ms->m.af<=1000)->l.length=ms.length->(∀i,i<ms.length->lv ts (ms.getD i au).av (l.getD i aK))->((dk ts ms l).flatMap Fd.text).length<=dN l
 |[],l,_,_,_,_=>by grind[dk]
 |m::ms,[],_,_,ad,_=>by grind
 |m::ms,v::l,b,a,ad,h=>by
  rw[iE]at b⊢;rw[dk];have h1:lv ts m.av v:=h 0 (by simp);unfold lv at h1;have d:=LV (ms:=ms) (l:=l) (by omega) (λx c=>a x (.tail _ c)) (by grind) λi hi=>h (i+1) (by grind)
  split
  . omega
  . rw[kl,dP];have a1:=ny (p:=bY ts m.av v) (by omega);have a2:=zz (n:=2*m.af.toNat+(if m.bQ then 1 else 0)) (by grind);have e:(Fd.text ⟨m.af.toNat,m.bQ,bY ts m.av v⟩).length<=(bY ts m.av v).length+4:=by
     show(eZ m.af.toNat m.bQ _).length<=_
     grind[eZ]
    omega
theorem aav(H:dH ts){v:I}(w:bS v):∀t,cI ts true t v->wt v<=3000->lv ts t v:=by
 have d:=H.V.iv H.T
 induction w with
 |mk v hs h1 K N Q hi R dy Z aa ab z x=>
  intro t s U;obtain⟨⟨F,G,J,o⟩,r⟩:=(e4 _ _ _).1 s;have u:t.toNat<ts.length:=by omega
  have c:=bo u ar;have p:=o rfl;have W:=hR v;have aU:∀y,y∈v.aE->wt y+10<=wt v:=λy a=>by have:=iH a;omega
  have X:∀y,y∈v.al->wt y+10<=wt v:=λy a=>by have:=iH a;omega
  have A:∀t,eN ts true t v.aE->∀y,y∈v.aE->lv ts t y:=λt ht y a=>z y a t (dR.1 ht y a) (by grind)
  have f:∀t,eN ts true t v.al->∀y,y∈v.al->lv ts t y:=λt ht y a=>x y a t (dR.1 ht y a) (by grind)
  unfold lv;rcases r with h|h|h|h|h|h|h|h|h
  . grind[zv]
  . have O:=H.L _ c (by omega);rw[zw (by omega)];have:=vj 1 (fr v.bq).toNat (by grind[fr]);omega
  . grind[zx]
  . rw[zy (by omega)];have hid:v.af.toNat<256^2:=by
     rcases h.2.2.2.2.2.2.2 with⟨y,C,ad⟩|⟨_,h,_⟩
     . have:=d.S _ c (by omega) y C
       grind[cO]
     grind
    have:=vj 2 _ hid;omega
  . obtain⟨a1,a2,a3,a4,a5,b,g,e⟩:=h;obtain⟨f1,f2⟩:=kb.1 e;rw[Dd (by omega),Gc (qZ _ _)];unfold ke;rw[p,sY,pI];have:=LV (ts:=ts) (l:=v.al) (by omega) (d.M _ c) f1 λi P=>by grind
    omega
  . obtain⟨a1,a2,a3,a4,a5,b⟩:=h;rw[td (by omega)];cases bP:cV (ts.getD t.toNat ar).ae v.af with
    |none=>grind
    |some m=>
     rw[bP]at b;obtain⟨b1,b2,k⟩:=b;obtain⟨B,Y⟩:=oT bP;have hid:=d.M _ c m B;have:=zz (n:=v.af.toNat) (by omega);rcases MO (f _ k)with q|q
     . grind
     grind
  . grind[tf,CM]
  . obtain⟨a1,a2,a3,a4,a5,b,g,e,a9,j,D⟩:=h;rw[tg (by omega)];have az:=CM (l:=v.al) (by omega) (f _ j);have E:=CM (l:=v.aE) (by omega) (A _ a9)
    grind[CK]
  . obtain⟨a1,a2,a3,a4,a5,b,g,e,a9⟩:=h;rw[rh (by omega)];rcases MO (f _ a9)with q|q
    . grind
    grind[b4]
end
def gR(ts:List ah):Nat->Int->I->Prop
 |0,_,_=>False
 |n+1,t,v=>((bY ts t v).length<=4096/\v.al.length<=1000/\v.aE.length<=1000)/\
  ((ts.getD t.toNat ar).Kind=5->∀i,i<(ts.getD t.toNat ar).ae.length->gR ts n ((ts.getD t.toNat ar).ae.getD i au).av (v.al.getD i aK))/\
  ((ts.getD t.toNat ar).Kind=6->∀m,cV (ts.getD t.toNat ar).ae v.af=some m->∀y,y∈v.al->gR ts n m.av y)/\
  (7<=(ts.getD t.toNat ar).Kind->(∀y,y∈v.al->gR ts n (ts.getD t.toNat ar).aH y)/\∀y,y∈v.aE->gR ts n (ts.getD t.toNat ar).Key y)
section
variable {ts:List ah}
theorem gR.len{n:Nat}{t:Int}{v:I}(h:gR ts n t v):(bY ts t v).length<=4096:=by
 cases n with
 |zero=>cases h
 |succ n=>exact h.1.1
theorem C3(p:List UInt8):p.length<=(dB p).length:=by grind[dB]
theorem HB{t:Int}:∀{l:List I} {y:I},y∈l->(bY ts t y).length<=((b4 ts t l).flatMap dB).length
 |v::l,y,h=>by
  rw[b4,kl,dP];rcases fF.1 h with rfl|h
  . grind[C3]
  . have:=HB (t:=t) h;omega
theorem HR:∀{ms:List aO} {l:List I} (i:Nat),i<ms.length->i<l.length->dz (ms.getD i au) (l.getD i aK)=false->(bY ts (ms.getD i au).av (l.getD i aK)).length<=((dk ts ms l).flatMap Fd.text).length
 |m::ms,v::l,0,_,_,a=>by
  rw[dk];simp only[s4]at a⊢;rw[ag (by grind),kl,dP];have c:(bY ts m.av v).length<=(Fd.text ⟨m.af.toNat,m.bQ,bY ts m.av v⟩).length:=by
   show _<=(eZ m.af.toNat m.bQ _).length
   grind[C3,eZ]
  omega
 |m::ms,v::l,i+1,h1,b,a=>by
  have:=HR (ms:=ms) (l:=l) i (by grind) (by grind) (by grind);rw[dk]
  grind
theorem agd{m:aO}{v:I}(h:dz m v=true):m.bD=true/\v=m.bk:=by
 grind[dz]
theorem Cx:∀{a b:List (List UInt8)} {p:List UInt8},a.length=b.length->p∈a\/p∈b->p.length<=(fU a b).length
 |[],[],p,_,h=>by grind
 |k::ks,v::vs,p,ad,h=>by
  have az:=C3 k;have c:=C3 v;have ih:=@Cx ks vs p (by grind)
  grind[fU]
theorem x3{t:Int}:∀{l:List I} {y:I},y∈l->bY ts t y∈b4 ts t l
 |v::l,y,h=>by
  rw[b4];rcases fF.1 h with rfl|h
  . simp
  . exact .tail _ (x3 h)
theorem abY{t:Int}{v:I}(b:(ts.getD t.toNat ar).Kind<=4)(a:cI ts true t v):g' ts t v=1:=by
 obtain⟨⟨_,_,bE,_⟩,c⟩:=(e4 _ _ _).1 a
 grind[GC]
theorem pL(H:dH ts):∀(n:Nat) {v:I} {t:Int},bS v->cI ts true t v->(bY ts t v).length<=4096\/wt v<=3000->g' ts t v+13<=n\/wt v<=n->gR ts n t v
 |0,v,t,_,_,_,f=>by grind[acL]
 |n+1,v,t,g,A,d,f=>by
  have C:=H.V.iv H.T;have ad:(bY ts t v).length<=4096:=by
   rcases d with h|h
   . grind
   . have:=aav H g t A h
     grind[lv]
  have ao:=hR v;obtain⟨⟨U,X,Y,F⟩,G⟩:=(e4 _ _ _).1 A;have J:t.toNat<ts.length:=by omega
  have o:=bo J ar;have aj:=H.M _ o;have ai:=(H.ch _ o).2.2;have ak:=F rfl;cases g with
  |mk _ hs h1 Z aa K hi an dy aw ax ay=>
  have z:wt v<=3000->∀y,y∈v.al->wt y<=3000:=λh y c=>by have:=iH c;omega
  have R:wt v<=3000->∀y,y∈v.aE->wt y<=3000:=λh y c=>by have:=iH c;omega
  have x:wt v<=n+1->∀y,y∈v.al->wt y<=n:=λh y c=>by have:=iH c;omega
  have O:wt v<=n+1->∀y,y∈v.aE->wt y<=n:=λh y c=>by have:=iH c;omega
  have r:=qD (ts:=ts) t v
  have bI:7<=(ts.getD t.toNat ar).Kind->∀y,y∈v.al->g' ts (ts.getD t.toNat ar).aH y+13<=n\/wt y<=n:=λah y c=>f.imp (λf=>by
   rw[ag (show ¬(ts.getD t.toNat ar).Kind=5 by omega),ag (show ¬(ts.getD t.toNat ar).Kind=6 by omega)]at r;have:=sj (ts:=ts) (t:=(ts.getD t.toNat ar).aH) c
   omega) λf=>x f _ c
  have ap:v.al=[]->v.aE=[]->v.al.length<=1000/\v.aE.length<=1000:=λa b=>by grind
  unfold gR;rcases G with h|h|h|h|h|h|h|h|h
  . grind
  . grind
  . grind
  . grind
  . obtain⟨a1,a2,a3,a4,a5,j,q,k⟩:=h;obtain⟨f1,f2⟩:=kb.1 k;refine⟨⟨ad,by omega,by grind⟩,λ_ i l=>?_,by omega,by omega⟩;have s:=bo (by omega:i<v.al.length) aK;cases B:dz ((ts.getD t.toNat ar).ae.getD i au) (v.al.getD i aK)with
    |true=>
     obtain⟨P,Q⟩:=agd B;have e0:=H.W _ o _ (bo l au) P;rw[<-Q]at e0;refine pL H n (hi _ s) (f2 i l) (.inr (by omega)) (.inr ?_)
     grind
    |false=>
     refine pL H n (hi _ s) (f2 i l) ?_ (f.imp (λf=>by
      grind[GF]) λf=>x f _ s)
     rcases d with d|d
     . have h0:=HR (ts:=ts) i l (by omega:i<v.al.length) B;rw[Dd (by omega),Gc (qZ _ _)]at ad;unfold ke at ad
       grind
     grind
  . obtain⟨a1,a2,a3,a4,a5,j⟩:=h;cases bP:cV (ts.getD t.toNat ar).ae v.af with
    |none=>grind
    |some m=>
     rw[bP]at j;obtain⟨b1,b2,E⟩:=j;refine⟨⟨ad,by omega,by grind⟩,by omega,λ_ aq L y c=>?_,by omega⟩;cases L
     refine pL H n (hi _ c) (dR.1 E _ c) ?_ (f.imp (λf=>by
      rw[ag (show ¬(ts.getD t.toNat ar).Kind=5 by omega),ab (show(ts.getD t.toNat ar).Kind=6 by omega),bP]at r;have:=sj (ts:=ts) (t:=m.av) c
      grind) λf=>x f _ c)
     rcases d with d|d
     . rw[td (by omega),bP,dP]at ad;have u:(b4 ts m.av v.al).headD []=bY ts m.av y:=by
        match g:v.al,b2 with
        |[a],_=>rw[g]at c;rw[e7.1 c,b4,b4];rfl
       simp only[u]at ad;omega
     grind
  . obtain⟨a1,a2,a3,a4,a5,j,q,k,a9⟩:=h;have w:=bI (by omega);refine⟨⟨ad,by omega,by simp_all⟩,by omega,by omega,λ_=>⟨λy c=>pL H n (hi _ c) (dR.1 a9 _ c) ?_ (w _ c),λy c=>by simp_all⟩⟩;rcases d with d|d
    . left;rw[tf (by omega)]at ad;have:=HB (ts:=ts) (t:=(ts.getD t.toNat ar).aH) c;omega
    . exact .inr (z d _ c)
  . obtain⟨a1,a2,a3,a4,a5,j,q,k,a9,D,S⟩:=h;have am:=CK (b4 ts (ts.getD t.toNat ar).Key v.aE) (b4 ts (ts.getD t.toNat ar).aH v.al)
    refine⟨⟨ad,by omega,by omega⟩,by omega,by omega,λ_=>⟨λy c=>pL H n (hi _ c) (dR.1 D _ c) ?_ (bI (by omega) _ c),λy c=>pL H n (K _ c) (dR.1 a9 _ c) ?_ (f.imp (λf=>by
     have N:v.aE≠[]:=λe=>by rw[e]at c;cases c
     rw[ag N]at r;have:=abY (C.tz _ o (by omega)).2 (dR.1 a9 _ c)
     omega) λf=>O f _ c)⟩⟩
    all_goals
     rcases d with d|d
     case inr=>first|exact .inr (z d _ c)|exact .inr (R d _ c)
     left;rw[tg (by omega)]at ad;have e:(b4 ts (ts.getD t.toNat ar).Key v.aE).length=(b4 ts (ts.getD t.toNat ar).aH v.al).length:=by rw[kK,kK];omega
     have:=Cx (p:=bY ts _ y) e (by first|exact .inr (x3 c)|exact .inl (x3 c));omega
  . obtain⟨a1,a2,a3,a4,a5,j,q,k,a9⟩:=h;have w:=bI (by omega);refine⟨⟨ad,by omega,by simp_all⟩,by omega,by omega,λ_=>⟨λy c=>pL H n (hi _ c) (dR.1 a9 _ c) ?_ (w _ c),λy c=>by simp_all⟩⟩;rcases d with d|d
    . left;rw[rh (by omega)]at ad;have u:b4 ts (ts.getD t.toNat ar).aH v.al=[bY ts (ts.getD t.toNat ar).aH y]:=by
       match g:v.al,k with
       |[a],_=>rw[g]at c;rw[e7.1 c,b4,b4]
       |[],_=>rw[g]at c;cases c
      rw[u]at ad;rw[jv]at ad;omega
    . exact .inr (z d _ c)
end
section
variable {tw tr:List ah}
theorem Jq{n:Nat}{t:Int}{v:I}{rt:Int}{path:List Int}{a:I}(b:(tw.getD t.toNat ar).Kind<=4)(h:gA tw tr n t v rt path= .inl a):a=v:=by
 cases n with
 |zero=>cases h
 |succ n=>
  grind[Ca,h6]
theorem Js{f:hA}{path:List Int}{t rt:Int}(d:∀v rt path c,f t v rt path= .inl c->c=v){i:Nat}{l us:List I}(h:hI f path t rt i l= .inl us):us=l:=by
 obtain⟨a,b⟩:=xX h
 grind[abp]
theorem abw{y:ah}{path:List Int}{ms:List aO}{l:List I}{r:List cF}(d:hU ms)(h:iu tw y path ms l= .inl r):mw y.ae r:=by
 obtain⟨_,b,c⟩:=C2 h;refine⟨?_,λa f=>?_⟩
 . have h1:=q6.2 d.1
   grind
 . obtain⟨c1,j,g,i,e⟩:=c a f;refine⟨?_,c1⟩;rw[e];exact d.2 _ (bo g _)
theorem cO.i64{n:Int}(h:cO n): -9223372036854775808<=n/\n<=9223372036854775807:=by grind[cO]
def Cy(tr:List ah)(rt:Int)(a:I):Prop:=bS a/\cI tr false rt a
def DH(tw tr:List ah)(n:Nat):Prop:=∀{v:I},bS v->∀{t rt:Int} {path:List Int} {a:I},cI tw true t v->gR tw n t v->0<=rt->rt<tr.length->gA tw tr n t v rt path= .inl a->Cy tr rt a
theorem aab(ah:dH tw)(l:dH tr){n:Nat}(ih:DH tw tr n):DH tw tr (n+1):=by
 intro v ap t rt path aa aD aC s u h;unfold gR at aC;obtain⟨⟨z1,z2,z3⟩,ai,aj,J⟩:=aC;have SW:=ah.V.iv ah.T;have cq:=l.V.iv l.T;have Q:=ap;have a6:=hR v;obtain⟨⟨aR,aS,aT,aU⟩,aB⟩:=(e4 _ _ _).1 aD;have aF:t.toNat<tw.length:=by omega
 have aG:rt.toNat<tr.length:=by omega
 have O:=bo aF ar;have p:=bo aG ar;have o:=λaa=>(e4 (ts:=tr) false rt aa).2
 rw[Ca]at h;generalize a7:tw.getD t.toNat ar=x at*;generalize a8:tr.getD rt.toNat ar=y at*;cases ap with
 |mk _ hs h1 aV aW an hi aY dy bd be bf=>
 have Z:∀{t rt:Int} {i:Nat} {us:List I},eN tw true t v.al->(∀y,y∈v.al->gR tw n t y)->0<=rt->rt<tr.length->hI (gA tw tr n) path t rt i v.al= .inl us->us.length=v.al.length/\(∀q,q∈us->bS q)/\eN tr false rt us:=λ{t rt i us} W c a0 a1 P=>by
  obtain⟨a,b⟩:=xX P;have key:∀q,q∈us->Cy tr rt q:=λq X=>by
   obtain⟨j,F,rfl⟩:=HA aK X;have g:=bo (by omega:j<v.al.length) aK;exact ih (hi _ g) (dR.1 W _ g) (c _ g) a0 a1 (b j (by omega))
  exact⟨a,λq c=>(key q c).1,dR.2 λq c=>(key q c).2⟩
 have aI:∀t,eN tw true t v.aE->(∀y,y∈v.aE->gR tw n t y)->(tw.getD t.toNat ar).Kind<=4->∀{rt:Int} {i:Nat} {us:List I},0<=rt->rt<tr.length->hI (gA tw tr n) path t rt i v.aE= .inl us->us=v.aE/\eN tr false rt v.aE:=λt W X aH rt i us a0 a1 P=>by
  have e:=Js (λv rt path aa h=>Jq aH h) P;subst e;obtain⟨a,b⟩:=xX P;refine⟨rfl,dR.2 λq c=>?_⟩;obtain⟨j,F,rfl⟩:=HA aK c;exact(ih (an _ c) (dR.1 W _ c) (X _ c) a0 a1 (b j F)).2
 unfold h6 at h;by_cases br:x.Kind=y.Kind
 . rw[ag (by simpa using br)]at h;rcases aB with d|d|d|d|d|d|d|d|d
   . rw[ag (by omega),ag (by omega),ag (by omega),ag (by omega),ag (by omega)]at h;split at h<;>cases h
     exact⟨Q,o _ ⟨⟨s,u,by omega,by simp⟩,.inl d⟩⟩
   . rw[ag (by omega),ag (by omega),ag (by omega),ag (by omega),ag (by omega)]at h;split at h<;>cases h
     rename_i ad;exact⟨Q,o _ ⟨⟨s,u,by omega,by simp⟩,.inr (.inl (by have:=ad.1 (by omega);simp_all))⟩⟩
   . rw[ag (by omega),ag (by omega),ag (by omega),ag (by omega),ag (by omega)]at h;split at h<;>cases h
     rename_i ad;exact⟨Q,o _ ⟨⟨s,u,by omega,by simp⟩,.inr (.inr (.inl (by have:=ad.2.1 (by omega);simp_all)))⟩⟩
   . rw[ag (by omega),ag (by omega),ag (by omega),ag (by omega),ag (by omega)]at h;split at h<;>cases h
     rename_i ad;have L:cO v.af:=by
      rcases d.2.2.2.2.2.2.2 with⟨y,aP,aQ⟩|⟨_,h,_⟩
      . rw[<-aQ];exact SW.S _ O (by omega) y aP
      . cases h
     refine⟨Q,o _ ⟨⟨s,u,by omega,by simp⟩,.inr (.inr (.inr (.inl ⟨d.1,d.2.1,d.2.2.1,d.2.2.2.1,d.2.2.2.2.1,d.2.2.2.2.2.1,d.2.2.2.2.2.2.1,?_⟩)))⟩⟩;rcases ad.2.2 (by omega)with q|q
     . exact .inl q
     grind
   . obtain⟨a1,a2,a3,a4,a5,C,U,K⟩:=d;obtain⟨R,aL⟩:=SW.A _ O (.inl (by omega));obtain⟨bb,bc⟩:=cq.A _ p (.inl (by omega));obtain⟨f1,f2⟩:=kb.1 K;rw[ab (by omega)]at h;obtain⟨f,az,h⟩:=C1 h;obtain⟨r,ak,rfl⟩:=nu h;obtain⟨b1,b2⟩:=GH az;have key:∀j,j<y.ae.length->Cy tr (y.ae.getD j au).av (f.getD j aK):=λj N=>by
      have E:=bo N au;rcases LU (b2 j N)with⟨_,c2,c3⟩|⟨i,c1,c2,_⟩
      . rw[c3];exact⟨(l.T _ p).iL _ E,zu _ _ (l.D _ p _ E c2)⟩
      . obtain⟨d1,_,_⟩:=jN c1;have g:=bo (by omega:i<v.al.length) aK;obtain⟨z,B⟩:=l.gw.mem p E;exact ih (hi _ g) (f2 i d1) (ai (by omega) i d1) z B c2
     have ao:=abw R ak;obtain⟨c1,_,c3⟩:=C2 ak
     refine⟨.mk _ (by simp) (by simp) (by show f.length<=_;unfold reachBytes;omega) (by show r.length<=_;unfold reachBytes;omega) (λq c=>by cases c) (λq c=>?_) (λq c=>?_) (by simp) (by simp) (by simp) (λq c=>(ao.2 q c).1.i64),o _ ⟨⟨s,u,by show(5:Int)=_;omega,by simp⟩,.inr (.inr (.inr (.inr (.inl ⟨rfl,rfl,rfl,rfl,rfl,rfl,ao,kb.2 ⟨b1,λj N=>(key j N).2⟩⟩))))⟩⟩
     . obtain⟨j,F,rfl⟩:=HA aK c;exact(key j (by have:f.length=_:=b1;have a':j<f.length:=F;omega)).1
     . obtain⟨_,j,F,aJ,e⟩:=c3 q c;have g:=bo aJ aK;have:=(ai (by omega) j F).len;rw[e];unfold reachBytes
       grind
   . obtain⟨a1,a2,a3,a4,a5,C⟩:=d;rw[ag (by omega),ab (by omega)]at h;unfold vC at h;obtain⟨R,aL⟩:=SW.A _ O (.inr (by omega));cases bP:cV x.ae v.af with
     |none=>rw[bP]at C;cases C.2.1
     |some m=>
      rw[bP]at C;obtain⟨b1,b2,ay⟩:=C;have Y:=uV x.ae v.af;rw[bP]at Y;cases L:fE x.ae v.af with
      |none=>rw[L]at Y;cases Y
      |some i=>
      obtain⟨d1,d2,_⟩:=jN L;obtain⟨d3,d4⟩:=oT bP;have em:x.ae.getD i au=m:=ya R (bo d1 au) d3 (by rw[d2,d4]);have hid:cO v.af:=by rw[<-d4];exact R.2 m d3
      simp only[L,em]at h;have g:=bo (by omega:0<v.al.length) aK;cases M:fE y.ae v.af with
      |some k=>
       simp only[M]at h;obtain⟨w,az,rfl⟩:=nu h;obtain⟨aZ,ba,_⟩:=jN M;have E:=bo aZ au;obtain⟨z,B⟩:=l.gw.mem p E;obtain⟨z1,z2⟩:=ih (hi _ g) (dR.1 ay _ g) (aj (by omega) _ bP _ g) z B az;have am:cV y.ae v.af=some (y.ae.getD k au):=by rw[<-ba];exact CD (cq.A _ p (.inr (by omega))).1 E
       refine⟨.mk _ (by simp) (by simp) (by show[w].length<=_;unfold reachBytes;simp) (by simp) (λq c=>by cases c) (λq c=>?_) (λq c=>by cases c) (by simp) (by simp) hid.i64 (λq c=>by cases c),o _ ⟨⟨s,u,by show(6:Int)=_;omega,by simp⟩,.inr (.inr (.inr (.inr (.inr (.inl ⟨rfl,rfl,rfl,rfl,rfl,?_⟩)))))⟩⟩
       . grind
       . show match cV y.ae v.af with|some m=>_|none=>_
         rw[am];exact⟨rfl,rfl,z2,trivial⟩
      |none=>
       simp only[M]at h;split at h
       . cases h;rename_i aX;have am:cV y.ae v.af=none:=by
          have:=uV y.ae v.af;rw[M]at this;cases c:cV y.ae v.af with
          |none=>rfl
          |some _=>rw[c]at this;cases this
         have:=(aj (by omega) _ bP _ g).len;refine⟨.mk _ (by simp) (by simp) (by simp) (by show[_].length<=_;unfold reachBytes;simp) (λq c=>by cases c) (λq c=>by cases c) (λq c=>?_) (by simp) (by simp) hid.i64 (λq c=>?_),o _ ⟨⟨s,u,by show(6:Int)=_;omega,by simp⟩,.inr (.inr (.inr (.inr (.inr (.inl ⟨rfl,rfl,rfl,rfl,rfl,?_⟩)))))⟩⟩
         . rw[e7.1 c];show(bY tw _ _).length<=_;unfold reachBytes;omega
         . grind
         grind
       . cases h
   . obtain⟨a1,a2,a3,a4,a5,C,U,K,a9⟩:=d;rw[ag (by omega),ag (by omega),ab (by omega)]at h;unfold zj at h;split at h
     . rename_i aA;obtain⟨f,az,rfl⟩:=nu h;obtain⟨z,B⟩:=l.gw.elem p (by omega);obtain⟨aq,G,H⟩:=Z a9 (J (by omega)).1 z B az
       exact⟨.mk _ (by simp) (by simp) (by show f.length<=_;omega) (by simp) (λq c=>by cases c) G (λq c=>by cases c) (by simp) (by simp) (by simp) (λq c=>by cases c),o _ ⟨⟨s,u,by show(7:Int)=_;omega,by simp⟩,.inr (.inr (.inr (.inr (.inr (.inr (.inl ⟨rfl,rfl,rfl,rfl,rfl,rfl,rfl,by show(f.length:Int)<=_;omega,H⟩))))))⟩⟩
     . cases h
   . obtain⟨a1,a2,a3,a4,a5,C,U,K,a9,aw,ax⟩:=d;rw[ag (by omega),ag (by omega),ag (by omega),ab (by omega)]at h;unfold zk at h;split at h
     . rename_i aA;obtain⟨ks,bM,h⟩:=C1 h;obtain⟨f,az,rfl⟩:=nu h;obtain⟨z,B⟩:=l.gw.elem p (by omega);obtain⟨aN,aO⟩:=l.gw.key p (by omega);obtain⟨aq,G,H⟩:=Z aw (J (by omega)).1 z B az;obtain⟨rfl,aM⟩:=aI _ a9 (J (by omega)).2 (SW.tz _ O (by omega)).2 aN aO bM
       exact⟨.mk _ (by simp) (by show v.aE.length<=_;omega) (by show f.length<=_;omega) (by simp) an G (λq c=>by cases c) (by simp) (by simp) (by simp) (λq c=>by cases c),o _ ⟨⟨s,u,by show(8:Int)=_;omega,by simp⟩,.inr (.inr (.inr (.inr (.inr (.inr (.inr (.inl ⟨rfl,rfl,rfl,rfl,rfl,rfl,by show(v.aE.length:Int)<=_;omega,by show f.length=v.aE.length;omega,aM,H,ax⟩)))))))⟩⟩
     . cases h
   . obtain⟨a1,a2,a3,a4,a5,C,U,K,a9⟩:=d;rw[ag (by omega),ag (by omega),ag (by omega),ag (by omega),ab (by omega)]at h;obtain⟨f,az,rfl⟩:=nu h;obtain⟨z,B⟩:=l.gw.elem p (by omega);obtain⟨aq,G,H⟩:=Z a9 (J (by omega)).1 z B az
     exact⟨.mk _ (by simp) (by simp) (by show f.length<=_;omega) (by simp) (λq c=>by cases c) G (λq c=>by cases c) (by simp) (by simp) (by simp) (λq c=>by cases c),o _ ⟨⟨s,u,by show(9:Int)=_;omega,by simp⟩,.inr (.inr (.inr (.inr (.inr (.inr (.inr (.inr ⟨rfl,rfl,rfl,rfl,rfl,rfl,rfl,by show f.length<=1;omega,H⟩)))))))⟩⟩
 grind
theorem GI(b:dH tw)(a:dH tr):∀n,DH tw tr n
 |0=>λ_ _ _ _ _ _ _ _ _ h=>by cases h
 |n+1=>aab b a (GI b a n)
end
noncomputable def z' (ts:List ah)(t:Int)(m:List UInt8):I×Int:=
 if t<0\/(ts.length:Int)<=t then(vP,4)else if 4096<m.length then(vP,12)else match ee ts 200 t m with
  |some v=>(v,0)
  |none=>(vP,12)
section
variable {ts:List ah}
theorem aac(H:mR ts)(t:Int)(m:List UInt8):Bv ((⟨ts⟩:bh),t,m)=some (z' ts t m):=by
 rw[Bv,FV,(x2 H.S.T H.V).1];simp only[aV,ak];unfold z';by_cases h1:t<0\/(ts.length:Int)<=t
 . have c:(bif decide (t<0)then true else decide ((ts.length:Int)<=t))=true:=by rcases h1 with h1|h1<;>simp[h1]
   rw[ag (by simp),ab c,ab h1];rfl
 . have c:¬(bif decide (t<0)then true else decide ((ts.length:Int)<=t))=true:=by
    have a:¬t<0:=λh=>h1 (.inl h)
    have b:¬(ts.length:Int)<=t:=λh=>h1 (.inr h)
    simp[a,b]
   by_cases d:4096<m.length
   . rw[ag (by simp),ag c,ab (by simp;omega),ag h1,ab d];rfl
   . have d1:=MM H 200 (by omega) t m [] 0 [] (by omega) (by omega) (by omega) rfl;rw[ag (by simp),ag c,ag (by simp;omega),ag h1,ag d];cases e:ee ts 200 t m with
     |none=>
      obtain⟨w,f1,f2,f⟩:=d1.2 e;rw[f];rfl
     |some v=>
      rw[d1.1 v e];simp[I.bj]
end
theorem CF{m:aO}{v:I}(a:bS v):sw (m,v)=some (dz m v):=by
 rw[sw];simp[I.bj];unfold dz;cases b:m.bD with
 |false=>rfl
 |true=>
  obtain⟨r,c,d⟩:=Ks a m.bk
  grind
theorem GJ{p:List UInt8}(h:p.length<=100000):uE p=some (dB p):=by
 rw[uE,h9 (by omega),y0 (by omega)];have:=jK (n:=p.length) (by omega);simp only[aV,ak];rw[ab (eY (by omega))];rfl
theorem aaw{id:Int}{c:Bool}{p:List UInt8}(hid:cO id)(h:p.length<=4096):Cm (id,c,p)=some (eZ id.toNat c p,0):=by
 unfold cO at hid;obtain⟨n,rfl⟩:=Int.eq_ofNat_of_zero_le (by omega:0<=id);rw[Cm,ag (by grind),ag (by grind),aba (by omega) (by omega)];rfl
section
variable {ts:List ah}
theorem G6:∀{ms:List aO} {l:List I},((dk ts ms l).map λf=>f.id).Sublist (ms.map λm=>m.af.toNat)
 |[],l=>by grind[dk]
 |m::ms,[]=>by grind[dk]
 |m::ms,v::l=>by
  rw[dk];split
  . exact(G6).cons _
  . exact(G6).cons₂ _
theorem Jt{ms:List aO}{l:List I}(c:hU ms):(dk ts ms l).Pairwise (λa b=>a.id<b.id):=by
 have h1:(ms.map λm=>m.af.toNat).Pairwise (· < ·):=q6.2 (c.1.imp_of_mem λ{a b} d e h=>by
  have:=c.2 a d
  grind[cO])
 exact q6.1 (h1.sublist G6)
theorem Cb{t:Int}{v:I}(h:(ts.getD t.toNat ar).Kind=5)(a:v.Rest=[])(b:hU (ts.getD t.toNat ar).ae):bY ts t v=(dk ts (ts.getD t.toNat ar).ae v.al).flatMap Fd.text:=by
 rw[Dd h];have c:mw (ts.getD t.toNat ar).ae v.Rest:=by rw[a];exact⟨.nil,λx d=>by grind⟩
 have e:ke ts (ts.getD t.toNat ar).ae v.al v.Rest=dk ts (ts.getD t.toNat ar).ae v.al:=by
  grind[ke]
 grind[LR,abm,Gd,aaW,qZ,Jt]
def l8(ts:List ah)(t:Int)(v:I):Prop:=k0 ((⟨ts⟩:bh),t,v)=some (bY ts t v)
theorem P1{ms:List aO}{v:I}(b:∀m,m∈ms->cO m.af)(ad:v.al.length=ms.length)(e:ms.length<=1000)(c:∀y,y∈v.al->bS y)(hs:∀i,i<ms.length->dz (ms.getD i au) (v.al.getD i aK)=false->(bY ts (ms.getD i au).av (v.al.getD i aK)).length<=4096/\l8 ts (ms.getD i au).av (v.al.getD i aK)):
 ∀(k i:Nat) (acc:List UInt8),i+k=ms.length->acc.length<=i*5000->
 qu (acc,ms,(ms.length:Int),(i:Int),ts,v)=some (acc++(dk ts (ms.drop i) (v.al.drop i)).flatMap Fd.text)
 |0,i,acc,hi,f=>by
  simp_all[qu,ag,gy,dk]
 |k+1,i,acc,hi,f=>by
  have aI:i<ms.length:=by omega
  have a:i<v.al.length:=by omega
  have g:=bo a aK;rw[qu,ab (by grind),ab (aN aI)];simp only[aV,ak,aW,I.bj,jL];rw[ab (aN a),CF (c _ g),gG aI au,gG a aK,dk];have l:=λacc=>P1 b ad e c hs k (i+1) acc (by omega)
  cases j:dz (ms.getD i au) _ with
  |true=>
   grind[bB]
  |false=>
   obtain⟨h1,d⟩:=hs i aI j;rw[ab (aN a),d];simp only[ak];rw[aaw (b _ (bo aI au)) (by omega)];simp only[ak];have hid:=b _ (bo aI au);unfold cO at hid;have a1:=ny (p:=bY ts (ms.getD i au).av (v.al.getD i aK)) (by omega);have a2:=zz (n:=2*(ms.getD i au).af.toNat+(if(ms.getD i au).bQ then 1 else 0)) (by grind)
   have o:(eZ (ms.getD i au).af.toNat (ms.getD i au).bQ (bY ts (ms.getD i au).av (v.al.getD i aK))).length<=5000:=by
    grind[eZ]
   rw[ab (eY (by omega)),bB (by omega),l _ (by grind),jV];rfl
theorem P2{x:ah}{v:I}(b:¬x.Kind=8)(ad:v.al.length<=3000)(hs:∀y,y∈v.al->(bY ts x.aH y).length<=4096/\l8 ts x.aH y):
 ∀(k i:Nat) (acc:List UInt8),i+k=v.al.length->acc.length<=i*5000->
 kZ (acc,v.al,(v.al.length:Int),(i:Int),ts,v,x)=some (acc++(b4 ts x.aH (v.al.drop i)).flatMap dB)
 |0,i,acc,hi,c=>by
  simp_all[kZ,ag,gy,b4]
 |k+1,i,acc,hi,c=>by
  have aI:i<v.al.length:=by omega
  obtain⟨h1,a⟩:=hs _ (bo aI aK);rw[kZ,ab (by grind),ab (aN aI)];simp only[aV,ak,aW,I.bj];have a1:=ny (p:=bY ts x.aH (v.al.getD i aK)) (by omega);rw[ag (by grind),a];simp only[ak];rw[GJ (by omega)];simp only[ak]
  rw[ab (eY (by omega)),bB (by omega),P2 b ad hs k (i+1) _ (by omega) (by grind),gG aI aK,b4,kl,jV]
theorem Nv{x:ah}{v:I}(e:x.Kind=8)(g:v.al.length=v.aE.length)(ad:v.al.length<=3000)(hs:∀y,y∈v.al->(bY ts x.aH y).length<=4096/\l8 ts x.aH y)(b:∀y,y∈v.aE->(bY ts x.Key y).length<=4096/\l8 ts x.Key y):
 ∀(k i:Nat) (acc:List UInt8),i+k=v.al.length->acc.length<=i*9000->
 kZ (acc,v.al,(v.al.length:Int),(i:Int),ts,v,x)=some (acc++fU (b4 ts x.Key (v.aE.drop i)) (b4 ts x.aH (v.al.drop i)))
 |0,i,acc,hi,f=>by
  simp_all[kZ,ag,gy,b4,fU]
 |k+1,i,acc,hi,f=>by
  have aI:i<v.al.length:=by omega
  have a:i<v.aE.length:=by omega
  obtain⟨h1,c⟩:=hs _ (bo aI aK);obtain⟨j,d⟩:=b _ (bo a aK);rw[kZ,ab (by grind),ab (aN aI)];simp only[aV,ak,aW,I.bj];have a1:=ny (p:=bY ts x.aH (v.al.getD i aK)) (by omega);have a2:=ny (p:=bY ts x.Key (v.aE.getD i aK)) (by omega);rw[ab (by grind),ab (aN a),d];simp only[ak]
  rw[GJ (by omega)];simp only[ak];rw[ab (eY (by omega)),c];simp only[ak];rw[GJ (by omega)];simp only[ak];rw[ab (eY (by grind)),bB (by omega),Nv e g ad hs b k (i+1) _ (by omega) (by grind),gG aI aK,gG a aK,b4,b4,fU,jV,jV]
theorem aa0(H:oe ts){v:I}(k:bS v){t:Int}(g:cI ts true t v)(bU:v.Kind<=4):lB (t,v,1,ts,0)=some (bY ts t v,ts,1):=by
 obtain⟨⟨p,q,f,_⟩,b⟩:=(e4 _ _ _).1 g;have a:bw v.bq:=by cases k with|mk _ _ _ _ _ _ _ _ _ a _ _=>exact a
 obtain⟨j,rfl⟩:∃j:Nat,t=(j:Int):=⟨t.toNat,by omega⟩
 have c:j<ts.length:=by omega
 have i:=bo c ar;have l:=@zv ts (j:Int) v;have d:=@zw ts (j:Int) v;have m:=@zx ts (j:Int) v;have e:=@zy ts (j:Int) v;rw[lB];simp only[aV,ak];rw[ab (aN c),show ki 0 1=1 by rfl];simp only[aW,I.bj]at f b l d m e⊢;generalize ts.getD j ar=x at*;rcases b with h|h|h|h|h|h|h|h|h
 . grind
 . rw[ag (mt fm (by omega)),ab (dL (by omega)),d (by omega),H8 a]
   grind[y2,fr,aW,Nj]
 . grind
 . obtain⟨n,aA,ad⟩:∃n:Nat,v.af=(n:Int)/\n<=1000:=by
    rcases h.2.2.2.2.2.2.2 with⟨y,o,r⟩|⟨_,h,_⟩
    . have:=H.S x i (by omega) y o
      grind[cO]
    grind
   rw[ag (mt fm (by omega)),ag (mt fm (by omega)),ag (mt fm (by omega)),ab (dL (by omega)),e (by omega),aA,h9 (by omega),Nj (by omega),aW];rfl
 all_goals omega
theorem abZ(H:dH ts){t:Int}{v:I}(b:bS v)(a:cI ts true t v)(hs:(bY ts t v).length<=4096)(bU:v.Kind<=4):xu ((⟨ts⟩:bh),t,v)=some (bY ts t v,0):=by
 rw[xu];simp[I.bj];rw[Yq H.T H.V b (zu _ _ a)];rw[aa0 (H.V.iv H.T) b a bU]
 grind
theorem M3(H:dH ts){v:I}(r:bS v):∀t,cI ts true t v->(bY ts t v).length<=4096->l8 ts t v:=by
 have s:=H.V.iv H.T;have J:=r
 induction r with
 |mk v hs h1 W X aa hi ai dy an ao ap aj z=>
  intro t u b;obtain⟨⟨R,S,U,C⟩,F⟩:=(e4 _ _ _).1 u;obtain⟨j,rfl⟩:∃j:Nat,t=(j:Int):=⟨t.toNat,by omega⟩
  have w:j<ts.length:=by omega
  have p:=bo w ar;have E:=C rfl;have am:=abZ H J u b;have Y:=H.M _ p;unfold l8;rw[k0,ab (aN w)];simp only[aV,ak,I.bj];rw[aW]at*;rcases F with h|h|h|h|h|h|h|h|h
  . grind
  . grind
  . grind
  . grind
  . obtain⟨a1,a2,a3,a4,a5,d,l,f⟩:=h;obtain⟨k,K⟩:=s.A _ p (.inl (by omega));obtain⟨f1,f2⟩:=kb.1 f;rw[Cb (by rw[aW];omega) E (by rw[aW];exact k),aW]at b
    have h0:=P1 (ts:=ts) (ms:=(ts.getD j ar).ae) (v:=v) k.2 f1 (by omega) hi (λi Z ah=>by
     grind[bo,Nat.le_trans,HR]) (ts.getD j ar).ae.length 0 [] (by omega) (by simp)
    have g:qu ([],(ts.getD j ar).ae,((ts.getD j ar).ae.length:Int),0,ts,v)=_:=h0;rw[ab (dL (by omega)),g]
    grind[Cb,aW]
  . obtain⟨a1,a2,a3,a4,a5,d⟩:=h;obtain⟨k,K⟩:=s.A _ p (.inr (by omega));cases bP:cV (ts.getD j ar).ae v.af with
    |none=>rw[bP]at d;cases d.2.1
    |some m=>
     rw[bP]at d;obtain⟨b1,b2,B⟩:=d;obtain⟨d3,d4⟩:=oT bP;obtain⟨q,L,N,O⟩:=Ee k (by omega) bP;have hid:=k.2 m d3;unfold cO at hid;have c:=bo (by omega:0<v.al.length) aK;have G:b4 ts m.av v.al=[bY ts m.av (v.al.getD 0 aK)]:=by
      match r:v.al,b2 with
      |[a],_=>rw[b4,b4];rfl
     have z1:(bY ts m.av (v.al.getD 0 aK)).length<=4096:=by
      rw[td (t:=(j:Int)) (v:=v) (by rw[aW];omega),aW,bP,dP]at b;simp only[G,List.headD_cons]at b;omega
     have z2:=z _ c (hi _ c) m.av (dR.1 B _ c) z1;unfold l8 at z2;obtain⟨n,aA⟩:∃n:Nat,v.af=(n:Int):=⟨v.af.toNat,by omega⟩
     have:=zz (n:=n) (by omega);rw[ag (mt fm (by omega)),ab (dL (by omega)),N];simp only[ak];rw[aA,h9 (by omega),y0 (by omega)];simp only[ak];rw[ab (aN L),ab (by rw[b2];rfl),aW,O,show(0:Int).toNat=0 from rfl,z2];simp only[ak]
     rw[ab (eY (by omega)),td (t:=(j:Int)) (v:=v) (by rw[aW];omega),aW,bP,aA,aW]
     grind
  . obtain⟨a1,a2,a3,a4,a5,d,l,f,a9⟩:=h
    have h0:=P2 (ts:=ts) (x:=ts.getD j ar) (v:=v) (by omega) (by omega) (λy c=>by
     rw[tf (by rw[aW];omega),aW]at b;have ad:=iO (HB (ts:=ts) (t:=(ts.getD j ar).aH) c) b
     grind[dR]) v.al.length 0 [] (by omega) (by simp)
    have g:kZ ([],v.al,(v.al.length:Int),0,ts,v,ts.getD j ar)=_:=h0;rw[ag (mt fm (by omega)),ag (mt fm (by omega)),ag (mt fm (by omega)),ab (dL (by omega)),ab (dL (by omega)),g,tf (by rw[aW];omega),aW];rfl
  . obtain⟨a1,a2,a3,a4,a5,d,l,f,a9,P,Q⟩:=h;rw[tg (by rw[aW];omega),aW]at b;have e:(b4 ts (ts.getD j ar).Key v.aE).length=(b4 ts (ts.getD j ar).aH v.al).length:=by grind[kK]
    have h0:=Nv (ts:=ts) (x:=ts.getD j ar) (v:=v) (by omega) f (by omega) (λy c=>by
     have ad:=iO (Cx e (.inr (x3 c))) b
     grind[dR]) (λy c=>by
     have ad:=iO (Cx e (.inl (x3 c))) b
     grind[dR]) v.al.length 0 [] (by omega) (by simp)
    have g:kZ ([],v.al,(v.al.length:Int),0,ts,v,ts.getD j ar)=_:=h0;rw[ag (mt fm (by omega)),ag (mt fm (by omega)),ag (mt fm (by omega)),ag (mt fm (by omega)),ab (dL (by omega)),g,tg (by rw[aW];omega),aW];rfl
  . obtain⟨a1,a2,a3,a4,a5,d,l,f,a9⟩:=h;rw[ag (mt fm (by omega)),ag (mt fm (by omega)),ab (dL (by omega)),rh (by rw[aW];omega),aW]
    match D:v.al,f with
    |[],_=>
     rw[uw,ag (by simp),b4];rfl
    |[a],_=>
     have o:a∈v.al:=by grind
     have z1:(bY ts (ts.getD j ar).aH a).length<=4096:=by
      rw[rh (by rw[aW];omega),aW,D,b4,b4,jv]at b;omega
     have z2:=z _ o (hi _ o) _ (dR.1 a9 a o) z1;rw[uw,ab (by simp),ab (show aB 0 [a].length=true from rfl)];simp only[I.bj];rw[show[a].getD (Int.toNat 0) aK=a from rfl,z2];simp only[aV,ak]
     rw[ab (eY (by show 1+(bY ts (ts.getD j ar).aH a).length<=_;omega)),show aM .i64 0 1=1 from by decide,uw,ag (show ¬decide ((1:Int)<([a].length:Int))=true from by simp),b4,b4];rfl
end
theorem Iw{a0 a2 a4 z0 z2 z4:Int}{a1 z1:Bool}{a3 z3:List UInt8}{l l2:List I}{r:List cF}(ad:l.length<=1000000000)(h:∀y,y∈l->j' y=some y):∀(k i:Nat),i+k=l.length->
 rM ((l.length:Int),(i:Int),a0,a1,a2,a3,a4,z0,z1,z2,z3,z4,l,l2,r)=some (a0,a1,a2,a3,a4,z0,z1,z2,z3,z4,l,l2,r)
 |0,i,hi=>by simp_all[rM,ag]
 |k+1,i,hi=>by
  have aI:i<l.length:=by omega
  rw[rM,ab (by grind),ab (aN aI),aW,ab (by grind)];simp only[I.bj];rw[h _ (bo aI aK)];simp only[aV,ak];rw[ab (aN aI),ab (by grind),bB (by omega),CE aI];exact Iw ad h k _ (by omega)
theorem Ix{a0 a2 a4 z0 z2 z4:Int}{a1 z1:Bool}{a3 z3:List UInt8}{l l2:List I}{r:List cF}(ad:l.length<=1000000000)(h:∀y,y∈l->j' y=some y):∀(k i:Nat),i+k=l.length->
 rN ((l.length:Int),(i:Int),a0,a1,a2,a3,a4,z0,z1,z2,z3,z4,l,l2,r)=some (a0,a1,a2,a3,a4,z0,z1,z2,z3,z4,l2,l,r)
 |0,i,hi=>by simp_all[rN]
 |k+1,i,hi=>by
  have aI:i<l.length:=by omega
  rw[rN,ab (by grind),ab (aN aI),aW,ab (by grind)];simp only[I.bj];rw[h _ (bo aI aK)];simp only[aV,ak];rw[ab (aN aI),ab (by grind),bB (by omega),CE aI];exact Ix ad h k _ (by omega)
theorem aad{v:I}(f:bS v):wt v<=1000000000->j' v=some v:=by
 induction f with
 |mk v hs h1 k m n hi o dy u w x i g=>
  intro p;have q:=hR v;have s:=zA v.aE;have l2:=zA v.al;have t:=LN v.Rest;have kk:∀y,y∈v.aE->j' y=some y:=λy a=>i y a (by have:=iH a;omega)
  have j:=λy a=>g y a (by have:=iH a;omega)
  have c1:fR 120 v.aE=some v.aE:=by unfold fR;rw[ab (pg (u6 (by simp) (by omega)))]
  have c2:fR 120 v.al=some v.al:=by unfold fR;rw[ab (pg (u6 (by simp) (by omega)))]
  have c3:fR 24 v.Rest=some v.Rest:=by unfold fR;rw[ab (pg (u6 (by simp) (by omega)))]
  have b:=Iw (a0:=v.Kind) (a1:=v.b') (a2:=v.bq) (a3:=v.bA) (a4:=v.af) (z0:=0) (z1:=false) (z2:=0) (z3:=[]) (z4:=0) (l:=v.aE) (l2:=v.al) (r:=v.Rest) (by omega) kk v.aE.length 0 (by simp)
  have d:=Ix (a0:=v.Kind) (a1:=v.b') (a2:=v.bq) (a3:=v.bA) (a4:=v.af) (z0:=0) (z1:=false) (z2:=0) (z3:=[]) (z4:=0) (l:=v.al) (l2:=v.aE) (r:=v.Rest) (by omega) j v.al.length 0 (by simp);have c:rM ((v.aE.length:Int),0,v.Kind,v.b',v.bq,v.bA,v.af,0,false,0,[],0,v.aE,v.al,v.Rest)=_:=b
  have e:rN ((v.al.length:Int),0,v.Kind,v.b',v.bq,v.bA,v.af,0,false,0,[],0,v.al,v.aE,v.Rest)=_:=d;rw[j',c1,c2,c3];simp only[aV,ak];rw[c];simp only[ak];rw[e];cases v;rfl
theorem Qf{tw tr:List ah}{path:List Int}(b:path.length<=90000)(a:List Int):rL (tw,tr,a,path)=some ((⟨0,false,0,[],0,[],[],[]⟩:I),false,tw,tr,path,path):=by
 rw[rL];unfold sR fR;rw[ab (pg (dY (by simp) (by omega)))];simp
theorem CN{tw tr:List ah}{path:List Int}(b:path.length<=90000)(id:Int)(a:List Int):uq (id,tw,tr,a,path)=some ((⟨0,false,0,[],0,[],[],[]⟩:I),false,tw,tr,path,path++[id]):=by
 rw[uq];unfold sR fR;rw[ab (pg (dY (by simp) (by omega)))];simp only[jW,aV,ak];rw[ab (by rfl),ab (dY (by simp) (by grind))]
theorem CO{x:ah}(ad:x.ae.length<=1000)(id:Int):hB (x,id)=some (rD x.ae id):=by
 obtain⟨r,a,b⟩:=xr (t:=x) (id:=id) (by omega)
 grind[SC,aau]
section
variable {tw tr:List ah}
def fy(tw tr:List ah)(a path:List Int):I ⊕ List Int->I×Bool×List ah×List ah×List Int×List Int
 |.inl b=>(b,true,tw,tr,a,path)
 |.inr p=>(⟨0,false,0,[],0,[],[],[]⟩,false,tw,tr,p,path)
def DE(tw tr:List ah)(a path:List Int)(acc:List I):List I ⊕ List Int->(Bool×List ah×List ah×List Int×List Int) ⊕ (List ah×List ah×List Int×List I×List Int)
 |.inl us=>.inr (tw,tr,a,acc++us,path)
 |.inr p=>.inl (false,tw,tr,p,path)
def oc(tw tr:List ah)(a path:List Int):List I ⊕ List Int->List I×Bool×List ah×List ah×List Int×List Int
 |.inl us=>(us,true,tw,tr,a,path)
 |.inr p=>([],false,tw,tr,p,path)
def Part(tw tr:List ah)(f:hA)(path:List Int)(t rt:Int)(v:I):Prop:=∀(step:Int) (a:List Int),qI (step,t,v,rt,tw,tr,a,path)=some (fy tw tr a path (f t v rt (path++[step])))
theorem LW{t rt step:Int}{v:I}{a path:List Int}{o:I ⊕ List Int}(c:path.length<=90000)(h:sx (t,v,rt,tw,tr,a,path++[step])=some (fy tw tr a (path++[step]) o)):qI (step,t,v,rt,tw,tr,a,path)=some (fy tw tr a path o):=by
 rw[qI];simp only[aV,ak,I.bj];rw[ab (dY (by simp) (by grind)),h];have az:c' .i64 ((path++[step]).length:Int) 1=(path.length:Int):=by grind[fC]
 have b:ed 0 (path.length:Int) (path++[step]).length=true:=iF.2 (by grind);cases o with
 |inl d=>
  simp only[ak,I.bj,fy];simp_all
 |inr p=>
  simp only[ak,I.bj,fy];simp_all
theorem Th{f:hA}{path:List Int}{t rt:Int}{l:List I}(ad:l.length<=50000)(h:∀y,y∈l->Part tw tr f path t rt y):∀(k i:Nat) (acc:List I) (a:List Int),i+k=l.length->acc.length<=i->
 rZ (t,rt,l,(l.length:Int),(i:Int),tw,tr,a,acc,path)=some (DE tw tr a path acc (hI f path t rt i (l.drop i)))
 |0,i,acc,a,hi,b=>by
  simp_all[rZ,ag,gy,hI,DE]
 |k+1,i,acc,a,hi,b=>by
  have aI:i<l.length:=by omega
  rw[rZ,ab (by grind),ab (aN aI),aW];simp only[I.bj];rw[h _ (bo aI aK),gG aI aK,hI];cases f t (l.getD i aK) rt _ with
  |inr p=>rfl
  |inl c=>
   simp only[aV,ak,fy,eb,I.bj];rw[ag (by simp),ab (dY (by simp) (by grind)),bB (by omega),Th ad h k (i+1) _ a (by omega) (by grind)];cases hI f path t rt (i+1) _ with
   |inr p=>rfl
   |inl us=>simp[DE,mZ]
theorem x4{f:hA}{path:List Int}{t rt:Int}{l:List I}(ad:l.length<=50000)(h:∀y,y∈l->Part tw tr f path t rt y)(a:List Int):
 nM (t,l,rt,tw,tr,a,path)=some (oc tw tr a path (hI f path t rt 0 l)):=by
 have h0:=Th ad h l.length 0 [] a (by simp) (by simp);have b:rZ (t,rt,l,l.length,0,tw,tr,a,[],path)=_:=h0;rw[nM,b,la];cases hI f _ t rt 0 l<;>rfl
def tE(tw tr:List ah)(a path:List Int)(x:ah)(v:I)(y:ah)(acc:List I):List I ⊕ List Int->(Bool×List ah×List ah×List Int×I×List Int) ⊕ (List ah×List ah×List Int×ah×I×ah×Int×Bool×Int×List UInt8×Int×Int×Bool×Int×List UInt8×Int×List Int×List I)
 |.inl us=>.inr (tw,tr,a,x,v,y,0,false,0,[],0,v.Kind,false,0,[],0,path,acc++us)
 |.inr p=>.inl (false,tw,tr,p,⟨0,false,0,[],0,[],[],[]⟩,path)
theorem LX {f:hA}{path:List Int}(d:path.length<=90000){x y:ah}{v:I}(s:x.ae.length<=1000)(C:y.ae.length<=1000)(ad:v.al.length=x.ae.length)(r:∀q,q∈v.al->bS q)
 (g:∀n,n∈y.ae->n.bD=true->j' n.bk=some n.bk)
 (h:∀i,i<x.ae.length->∀n,n∈y.ae->Part tw tr f path (x.ae.getD i au).av n.av (v.al.getD i aK)/\∀p c,f (x.ae.getD i au).av (v.al.getD i aK) n.av p= .inl c->bS c):∀(k j:Nat) (acc:List I) (a:List Int),j+k=y.ae.length->acc.length<=j->
 o5 (y.ae,(y.ae.length:Int),(j:Int),tw,tr,a,x,v,y,0,false,0,[],0,v.Kind,false,0,[],0,path,acc)=some (tE tw tr a path x v y acc (mJ f x v path (y.ae.drop j)))
 |0,j,acc,a,A,u=>by
  simp_all[o5,ag,gy,mJ,tE,I.bj]
 |k+1,j,acc,a,A,u=>by
  have aI:j<y.ae.length:=by omega
  have l:=bo aI au;have t:=λacc a=>LX d s C ad r g h k (j+1) acc a (by omega)
  rw[o5,ab (by grind),ab (aN aI),aW];simp only[aV,ak,I.bj,jL];rw[CO s,gG aI au,mJ];unfold zn rD;generalize aA:y.ae.getD j au=n at*;cases bP:fE x.ae n.af with
  |none=>
   simp only[ak,fM];rw[ab trivial];cases z:n.bD with
   |false=>
    simp only[fM];rw[ab trivial,CN d];rfl
   |true=>
    rw[ag (by simp),g n l z];simp only[ak];rw[ab (dY (by omega) (by simp;omega)),bB (by omega),t _ _ (by simp;omega),ab trivial];cases mJ f x v path (y.ae.drop (j+1))with
    |inr p=>rfl
    |inl us=>simp[tE,mZ]
  |some i=>
   obtain⟨e,_,_⟩:=jN bP;have i2:i<v.al.length:=by omega
   obtain⟨D,E⟩:=h i e n l;simp only[ak,eb];rw[ag (by simp),ab (aN e),ab (aN i2),aW,D n.af a];have o:=CF (m:=x.ae.getD i au) (r _ (bo i2 aK));cases w:f (x.ae.getD i au).av (v.al.getD i aK) n.av (path++[n.af])with
   |inr p=>
    simp only[ak,fy,I.bj,fM,eb,yh];rw[ab (aN e),ab (aN i2),o];rw[abu];generalize dz (x.ae.getD i au) (v.al.getD i aK)=b at*;cases b with
    |false=>rfl
    |true=>
     simp only[gj];rw[ab trivial,CN d];rfl
   |inl c=>
    have B:=CF (m:=n) (E _ c w);simp only[ak,fy,I.bj,fM,eb,vp];rw[ab (aN e),ab (aN i2),o];simp only[ak,cN,cv];rw[abv];generalize dz (x.ae.getD i au) (v.al.getD i aK)=b at*
    have tail:(some [c]>>=λt110=>if room 120 (acc++t110).length=true then o5 (y.ae,(y.ae.length:Int),aM .i64 (j:Int) 1,tw,tr,a,x,v,y,0,false,0,[],0,v.Kind,false,0,[],0,path,acc++t110)else none)=some (tE tw tr a path x v y acc (mZ (.inl c) (mJ f x v path (y.ae.drop (j+1))))):=by
     simp only[aV,ak];rw[ab (dY (by simp) (by simp;omega)),bB (by omega),t _ _ (by simp;omega)];cases mJ f x v path (y.ae.drop (j+1))with
     |inr p=>rfl
     |inl us=>simp[tE,mZ]
    cases b with
    |false=>grind
    |true=>
     rw[ab rfl,B];cases F:dz n c with
     |true=>grind
     |false=>
      rw[CN d];rfl
def zT(tw tr:List ah)(a path:List Int)(v:I)(its:List I)(acc:List cF):List cF ⊕ List Int->(Bool×List ah×List ah×I×List Int×List Int) ⊕ (List ah×List ah×List Int×Int×Bool×Int×List UInt8×Int×Int×Bool×Int×List UInt8×Int×List Int×List I×List cF)
 |.inl b=>.inr (tw,tr,a,0,false,0,[],0,v.Kind,false,0,[],0,path,its,acc++b)
 |.inr p=>.inl (false,tw,tr,⟨0,false,0,[],0,[],[],[]⟩,path,p)
theorem LY {path:List Int}(d:path.length<=90000){x y:ah}{v:I}(m:x.ae.length<=1000)(f:y.ae.length<=1000)(ad:v.al.length=x.ae.length)(e:∀q,q∈v.al->bS q)
 (h:∀i,i<x.ae.length->l8 tw (x.ae.getD i au).av (v.al.getD i aK)){its:List I}(b:List Int):∀(k i:Nat) (acc:List cF),i+k=x.ae.length->acc.length<=i->
 nF (x.ae,(x.ae.length:Int),(i:Int),tw,tr,b,v,y,0,false,0,[],0,v.Kind,false,0,[],0,path,its,acc)=some (zT tw tr b path v its acc (iu tw y path (x.ae.drop i) (v.al.drop i)))
 |0,i,acc,hi,j=>by
  simp_all[nF,ag,gy,iu,zT]
 |k+1,i,acc,hi,j=>by
  have aI:i<x.ae.length:=by omega
  have a:i<v.al.length:=by omega
  have c:=λacc=>LY d m f ad e h (its:=its) b k (i+1) acc (by omega)
  rw[nF,ab (by grind),ab (aN aI),aW];simp only[aV,ak,I.bj,jL];rw[CO f,gG aI au,gG a aK,iu];have hs:=uV y.ae (x.ae.getD i au).af;have l:(rD y.ae (x.ae.getD i au).af).2=(cV y.ae (x.ae.getD i au).af).isSome:=by
   unfold rD
   grind
  simp only[ak];rw[l];by_cases c1:(cV y.ae (x.ae.getD i au).af).isSome=true
  . rw[ab c1,ab c1,bB (by omega),c _ (by omega)]
  rw[ag c1,ag c1];by_cases c2:(x.ae.getD i au).bQ=true
  . rw[ab c2,ab c2,CN d];rfl
  rw[ag c2,ag c2,ab (aN a),CF (e _ (bo a aK))];simp only[ak];cases dz (x.ae.getD i au) (v.al.getD i aK)with
  |true=>rw[ag (by simp),ab rfl,bB (by omega),c _ (by omega)]
  |false=>
   have g:=h i aI;rw[ab (show(!false)=true from rfl),ag (show ¬false=true by simp),ab (aN a),g];simp only[ak];rw[ab (dY (by simp) (by simp;omega)),bB (by omega),c _ (by simp_all)];cases iu tw y path (x.ae.drop (i+1)) (v.al.drop (i+1))with
   |inr p=>rfl
   |inl us=>simp[zT,mZ]
end
section
variable {tw tr:List ah}
theorem aae {f:hA}{path:List Int}(b:path.length<=90000){x y:ah}{v:I}(cL:v.Kind=5)(d:x.ae.length<=1000)(e:y.ae.length<=1000)(ad:v.al.length=x.ae.length)(c:∀q,q∈v.al->bS q)
 (l:∀n,n∈y.ae->n.bD=true->j' n.bk=some n.bk)
 (h:∀i,i<x.ae.length->∀n,n∈y.ae->Part tw tr f path (x.ae.getD i au).av n.av (v.al.getD i aK)/\∀p g,f (x.ae.getD i au).av (v.al.getD i aK) n.av p= .inl g->bS g)
 (m:∀i,i<x.ae.length->l8 tw (x.ae.getD i au).av (v.al.getD i aK))(a:List Int):
 xJ (x,v,y,tw,tr,a,path)=some (fy tw tr a path (Ch tw f x y v path)):=by
 have h0:=LX b d e ad c l h y.ae.length 0 [] a (by simp) (by simp);have j:o5 (y.ae,y.ae.length,0,tw,tr,a,x,v,y,0,false,0,[],0,v.Kind,false,0,[],0,path,[])=_:=h0;rw[xJ];simp[I.bj];rw[j,la];unfold Ch;cases mJ f x v path _ with
 |inr p=>rfl
 |inl its=>
  have h1:=LY (tr:=tr) b d e ad c m (its:=its) a x.ae.length 0 [] (by simp) (by simp);have k:nF (x.ae,x.ae.length,0,tw,tr,a,v,y,0,false,0,[],0,v.Kind,false,0,[],0,path,its,[])=_:=h1;simp only[aV,ak,tE,hr];rw[k,la,la];cases iu tw y path _ v.al with
  |inr p=>rfl
  |inl r=>simp_all[zT,tL,lT,fy]
theorem aax {f:hA}{path:List Int}(j:path.length<=90000){x y:ah}{v:I}(cM:v.Kind=6)(c:x.ae.length<=1000)(d:y.ae.length<=1000)(h1:v.al.length=1){i:Nat}(hi:fE x.ae v.af=some i)
 (h:∀n,n∈y.ae->Part tw tr f path (x.ae.getD i au).av n.av (v.al.getD 0 aK))
 (g:l8 tw (x.ae.getD i au).av (v.al.getD 0 aK))(a:List Int):
 xd (x,v,y,tw,tr,a,path)=some (fy tw tr a path (vC tw f x y v path)):=by
 obtain⟨e,_,_⟩:=jN hi;have b:aB 0 v.al.length=true:=by rw[h1];rfl
 rw[xd,CO c,CO d];unfold vC rD;simp only[aV,ak,I.bj,hi];cases bP:fE y.ae v.af with
 |some k=>
  obtain⟨aZ,_,_⟩:=jN bP;simp only;rw[ab trivial,ab (aN e),ab b,ab (aN aZ),aW,aW,show(0:Int).toNat=0 from rfl,h _ (bo aZ au)];cases f _ (v.al.getD 0 aK) (y.ae.getD k au).av _ with
  |inr p=>
   rfl
  |inl l=>
   simp_all[fy,eb,lT,I.bj,ag]
 |none=>
  cases y.Open with
  |false=>
   simp_all[ab,Qf,cN,cv,fy]
  |true=>
   simp_all[l8,eb,ag,ab,aN,aW,ak,cw,fy]
def zU(tw tr:List ah)(n:Nat):Prop:=∀{v:I},bS v->∀{t rt:Int} {path:List Int} (a:List Int),cI tw true t v->gR tw n t v->0<=rt->rt<tr.length->path.length+n<=50000->
 sx (t,v,rt,tw,tr,a,path)=some (fy tw tr a path (gA tw tr n t v rt path))
theorem aay(G:dH tw)(g:dH tr){n:Nat}(ih:zU tw tr n):zU tw tr (n+1):=by
 intro v aA t rt path e K aC bc U aT;unfold gR at aC;obtain⟨⟨z1,ba,bb⟩,M,O,H⟩:=aC;have SW:=G.V.iv G.T;have cq:=g.V.iv g.T;have aX:=hR v;obtain⟨⟨aO,aP,ao,ap⟩,X⟩:=(e4 _ _ _).1 K;obtain⟨j,rfl⟩:∃j:Nat,t=(j:Int):=⟨t.toNat,by omega⟩
 obtain⟨k,rfl⟩:∃k:Nat,rt=(k:Int):=⟨rt.toNat,by omega⟩
 have Z:j<tw.length:=by omega
 have aa:k<tr.length:=by omega
 have ah:=bo Z ar;have u:=bo aa ar;have aS:=ap rfl;cases aA with
 |mk _ hs h1 aQ aR av hi aU dy a6 a8 a'=>
 rw[sx,ab (aN Z),Ca];simp only[aV,ak,aW,I.bj];rw[aW]at ao X M O H;rw[ab (aN aa)];have an:∀q,q∈(tr.getD k ar).ae->q.bD=true->j' q.bk=some q.bk:=λq a aq=>aad ((g.T _ u).iL _ a) (by have:=g.W _ u q a aq;omega)
 generalize aY:tw.getD j ar=x at*;generalize aZ:tr.getD k ar=y at*;have L:∀{t rt:Int} {q:I},q∈v.al->cI tw true t q->gR tw n t q->0<=rt->rt<tr.length->Part tw tr (gA tw tr n) path t rt q:=λ{t rt q} a K R a0 a1 step e=>LW (by omega) (ih (hi q a) e K R a0 a1 (by simp;omega))
 have aG:∀{t rt:Int} {q:I},q∈v.aE->cI tw true t q->gR tw n t q->0<=rt->rt<tr.length->Part tw tr (gA tw tr n) path t rt q:=λ{t rt q} a K R a0 a1 step e=>LW (by omega) (ih (av q a) e K R a0 a1 (by simp;omega))
 have F:=Qf (tw:=tw) (tr:=tr) (path:=path) (by omega) e;by_cases br:x.Kind=y.Kind
 . rw[ag (show ¬(!(decide (x.Kind=y.Kind)))=true by simp[br])];have N:∀{t rt:Int},v.al=[]->nM (t,v.al,rt,tw,tr,e,path)=some ([],true,tw,tr,e,path):=λ{t rt} he=>by
    have:=x4 (tw:=tw) (tr:=tr) (f:=gA tw tr n) (path:=path) (t:=t) (rt:=rt) (l:=v.al) (by omega) (λq a=>by rw[he]at a;cases a) e;rw[this,he];rfl
   rcases X with h|h|h|h|h|h|h|h|h
   . obtain⟨a1,a2,a3,a4,a5,d,B⟩:=h;have b:x.Kind=1:=by omega
     have ad:lZ x y v:=⟨λh=>by omega,λh=>by omega,λh=>by omega⟩
     rw[y' br (by omega) ad];simp only[b];simp only[N d,ak,eG,cN,cv,Int.reduceEq,eb,fy];cases v;simp_all
   . obtain⟨a1,a2,a3,a4,a5,d,B,C,a9⟩:=h;have b:x.Kind=2:=by omega
     by_cases ad:y.bz<=v.bq/\v.bq<=y.bx
     . rw[y' br (by omega) (show lZ x y v from⟨λ_=>ad,λh=>by omega,λh=>by omega⟩)];simp only[b];simp only[N d,ad.1,ad.2,ak,eG,ec,cN,cv,cw,Int.reduceEq,eb,gj,fy];cases v;simp_all
     . rw[Cw br (by omega) (show ¬lZ x y v fromλh=>ad (h.1 b))];have J:(bif decide (y.bz<=v.bq)then decide (v.bq<=y.bx)else false)=false:=by
        by_cases c:y.bz<=v.bq<;>simp[c]
        omega
       simp only[b,J];simp only[F,ak,ec,cw,fM,fy,I.bj]
   . obtain⟨a1,a2,a3,a4,a5,d,B,C⟩:=h;have b:x.Kind=3:=by omega
     by_cases ad:(v.bA.length:Int)<=y.Max
     . rw[y' br (by omega) (show lZ x y v from⟨λh=>by omega,λ_=>ad,λh=>by omega⟩)];simp only[b];simp only[N d,ad,ak,eG,ec,cN,cv,cw,Int.reduceEq,eb,gj,fy];cases v;simp_all
     . rw[Cw br (by omega) (show ¬lZ x y v fromλh=>ad (h.2.1 b))];simp only[b];simp only[F,ad,ak,ec,eG,cw,cv,Int.reduceEq,cN,fM,fy,I.bj]
   . obtain⟨a1,a2,a3,a4,a5,d,B,C⟩:=h;have b:x.Kind=4:=by omega
     obtain⟨r,U,_,aJ⟩:=yz (t:=y) v.af (by have:=(g.T _ u).1;have:=eg (eJ reachBytes);omega);have E:r.2=true↔∃s,s∈y.a7/\s.af=v.af:=by
      rcases aJ with⟨q,o,S,_,rfl⟩|⟨q,rfl⟩
      . exact⟨λ_=>⟨_,bo o dm,S⟩,λ_=>rfl⟩
      . constructor
        . intro h;simp at h
        intro a;obtain⟨s,s1,aL⟩:=a;obtain⟨i,hi,rfl⟩:=jd s1;exact absurd aL (by have:=q i hi;rwa [gb hi]at this)
     by_cases ad:(∃s,s∈y.a7/\s.af=v.af)\/y.Open=true
     . rw[y' br (by omega) (show lZ x y v from⟨λh=>by omega,λh=>by omega,λ_=>ad⟩)];have J:(bif r.2 then true else y.Open)=true:=by
        rcases ad with ad|ad
        . rw[E.2 ad];rfl
        . rw[ad];cases r.2<;>rfl
       simp only[b,U];simp only[N d,J,ak,eG,ec,cN,cv,cw,Int.reduceEq,eb,fy];cases v;simp_all
     . rw[Cw br (by omega) (show ¬lZ x y v fromλh=>ad (h.2.2 b))];have J:(bif r.2 then true else y.Open)=false:=by
        cases ay:r.2 with
        |true=>exact absurd (.inl (E.1 ay)) ad
        |false=>
         cases aw:y.Open with
         |true=>exact absurd (.inr aw) ad
         |false=>rfl
       simp only[b,U];simp only[F,J,ak,ec,eG,cw,cv,Int.reduceEq,cN,fM,fy,I.bj]
   . obtain⟨a1,a2,a3,a4,a5,d,B,C⟩:=h;have b:x.Kind=5:=by omega
     obtain⟨ai,aB⟩:=SW.A _ ah (.inl (by omega));obtain⟨aD,aF⟩:=cq.A _ u (.inl (by omega));obtain⟨f1,f2⟩:=kb.1 C
     have E:=aae (tw:=tw) (tr:=tr) (f:=gA tw tr n) (path:=path) (by omega) (x:=x) (y:=y) a1 (by omega) (by omega) f1 hi an (λi D q a=>by
      have w:=bo (by omega:i<v.al.length) aK;obtain⟨z,o⟩:=g.gw.mem u a;exact⟨L w (f2 i D) (M b i D) z o,λp bd az=>(GI G g n (hi _ w) (f2 i D) (M b i D) z o az).1⟩) (λi D=>by
      have w:=bo (by omega:i<v.al.length) aK
      exact M3 G (hi _ w) _ (f2 i D) (M b i D).len) e
     rw[Qn br b];simp only[b,E,ak,eG,ec,cN,cv,cw,Int.reduceEq,I.bj]
   . obtain⟨a1,a2,a3,a4,a5,d⟩:=h;have b:x.Kind=6:=by omega
     obtain⟨ai,aB⟩:=SW.A _ ah (.inr (by omega));obtain⟨aD,aF⟩:=cq.A _ u (.inr (by omega));cases bP:cV x.ae v.af with
     |none=>rw[bP]at d;cases d.2.1
     |some m=>
      rw[bP]at d;obtain⟨b1,b2,am⟩:=d;have Q:=uV x.ae v.af;rw[bP]at Q;cases P:fE x.ae v.af with
      |none=>rw[P]at Q;cases Q
      |some i=>
      obtain⟨d1,d2,_⟩:=jN P;obtain⟨d3,d4⟩:=oT bP;have em:x.ae.getD i au=m:=ya ai (bo d1 au) d3 (by rw[d2,d4]);have w:=bo (by omega:0<v.al.length) aK;have Y:=dR.1 am _ w
      have E:=aax (tw:=tw) (tr:=tr) (f:=gA tw tr n) (path:=path) (by omega) (x:=x) (y:=y) a1 (by omega) (by omega) b2 P (λq a=>by
       obtain⟨z,o⟩:=g.gw.mem u a;rw[em]
       exact L w Y (O b _ bP _ w) z o) (by rw[em];exact M3 G (hi _ w) _ Y (O b _ bP _ w).len) e
      rw[Qo br b];simp only[b,E,ak,eG,ec,cN,cv,cw,Int.reduceEq,I.bj]
   . obtain⟨a1,a2,a3,a4,a5,d,B,C,a9⟩:=h;have b:x.Kind=7:=by omega
     obtain⟨z,o⟩:=g.gw.elem u (by omega);have a:=x4 (tw:=tw) (tr:=tr) (f:=gA tw tr n) (path:=path) (t:=x.aH) (rt:=y.aH) (l:=v.al) (by omega) (λq a=>L a (dR.1 a9 q a) ((H (by omega)).1 q a) z o) e;rw[Qp br b];unfold zj;by_cases ad:(v.al.length:Int)<=y.Max
     . rw[ab ad];simp only[b,a,ad,ak,eG,ec,cN,cv,cw,Int.reduceEq,eb];cases hI (gA tw tr n) path x.aH y.aH 0 v.al with
       |inr p=>rfl
       |inl us=>simp only[oc,lT,fy,eb,cN,cv,a1,a2,a3,a4,a5]
     . rw[ag ad];simp only[b];simp only[F,ad,ak,ec,eG,cw,cv,Int.reduceEq,cN,fM,fy,I.bj]
   . obtain⟨a1,a2,a3,a4,a5,d,B,C,a9,aj,aM⟩:=h;have b:x.Kind=8:=by omega
     obtain⟨z,o⟩:=g.gw.elem u (by omega);obtain⟨S,aI⟩:=g.gw.key u (by omega);have a:=x4 (tw:=tw) (tr:=tr) (f:=gA tw tr n) (path:=path) (t:=x.aH) (rt:=y.aH) (l:=v.al) (by omega) (λq a=>L a (dR.1 aj q a) ((H (by omega)).1 q a) z o) e
     have ax:=x4 (tw:=tw) (tr:=tr) (f:=gA tw tr n) (path:=path) (t:=x.Key) (rt:=y.Key) (l:=v.aE) (by omega) (λq a=>aG a (dR.1 a9 q a) ((H (by omega)).2 q a) S aI) e;rw[Qq br b];unfold zk;by_cases ad:(v.al.length:Int)<=y.Max
     . rw[ab ad];simp only[b,ax,ad,ak,eG,ec,cN,cv,cw,Int.reduceEq,eb];cases hI (gA tw tr n) path x.Key y.Key 0 v.aE with
       |inr p=>rfl
       |inl ks=>
        simp only[oc,tL,eb,cN,cv,a,ak];cases hI (gA tw tr n) path x.aH y.aH 0 v.al with
        |inr p=>rfl
        |inl us=>simp only[oc,lT,fy,eb,cN,cv,a1,a2,a3,a4,a5]
     . rw[ag ad];simp only[b];simp only[F,ad,ak,ec,eG,cw,cv,Int.reduceEq,cN,fM,fy,I.bj]
   . obtain⟨a1,a2,a3,a4,a5,d,B,C,a9⟩:=h;have b:x.Kind=9:=by omega
     obtain⟨z,o⟩:=g.gw.elem u (by omega);have a:=x4 (tw:=tw) (tr:=tr) (f:=gA tw tr n) (path:=path) (t:=x.aH) (rt:=y.aH) (l:=v.al) (by omega) (λq a=>L a (dR.1 a9 q a) ((H (by omega)).1 q a) z o) e;rw[Qr br b];unfold EG
     simp only[b,a,ak,eG,ec,cN,cv,cw,Int.reduceEq,eb];cases hI (gA tw tr n) path x.aH y.aH 0 v.al with
     |inr p=>rfl
     |inl us=>simp only[oc,lT,fy,eb,cN,cv,a1,a2,a3,a4,a5]
 . rw[ab (show(!(decide (x.Kind=y.Kind)))=true by simp[br]),Nu br,F];simp only[ak,I.bj,fy]
theorem aaz:zU tw tr 0:=by
 intro v _ _ _ _ _ _ h;cases h
theorem LZ(b:dH tw)(a:dH tr):∀n,zU tw tr n
 |0=>aaz
 |n+1=>aay b a (LZ b a n)
end
def wg(x:fg):Prop:=mV x/\x.cX.length*3<=reachBytes
def kF(aG:List fg):Prop:=aG.length*32<=reachBytes/\∀x,x∈aG->wg x
def zM(c:lE):Prop:=dr c.Kind/\dr c.Node/\dr c.A/\dr c.B
theorem kF.set{aG:List fg}(h:kF aG)(j:Nat){x:fg}(c:wg x):kF (aG.set j x):=by
 refine⟨by rw[h5];exact h.1,λy a=>?_⟩;rcases AY a with a|rfl
 . exact h.2 y a
 grind
theorem mq(a:Int):dr (IntKind.wrap .u8 a):=by
 have:IntKind.wrap .u8 a=a%256:=by rfl
 grind[dr]
theorem EK{n:Nat}(h:n*3<=reachBytes):room 3 n=true:=by
 grind[reachBytes,room,gr,dd]
theorem agn{n:Nat}(h:n*32<=reachBytes):room 32 n=true:=by
 grind[reachBytes,room,gr,dd]
theorem ab0{L:List lE}(N:L.length<=reachBytes)(D:∀c,c∈L->zM c){i:Nat}(hi:i<L.length){aG:List fg}(h:kF aG)(aA:0<aG.length):
 ∃G,kF G/\G.length=aG.length/\hd (L,(i:Int),aG)=hd (L,((i+1:Nat):Int),G):=by
 obtain⟨c1,c2,c3,c4⟩:=D _ (bo hi nK);have V:=eg N;unfold dr at c1 c2 c3 c4;have T:aG.length<9223372036854775807:=by have:=h.1;grind[reachBytes]
 obtain⟨j,Q,o⟩:∃j:Nat,cg (bW .i64 (L.getD i nK).Node) (aG.length:Int)=(j:Int)/\j<aG.length:=by
  have e:cg (bW .i64 (L.getD i nK).Node) (aG.length:Int)=(L.getD i nK).Node%(aG.length:Int):=by
   rw[kT ⟨by omega,by omega⟩,hE c2.1 (by simp)]
  have h0:=lX (L.getD i nK).Node (by omega:(aG.length:Int)≠0);have h1:=lV (L.getD i nK).Node (by omega:(0:Int)<aG.length);exact⟨((L.getD i nK).Node%(aG.length:Int)).toNat,by grind,by omega⟩
 obtain⟨⟨dy,s,k,m,eB,X⟩,I⟩:=h.2 _ (bo o eF);have u:∀z:Nat,z<(aG.getD j eF).cX.length->dr ((aG.getD j eF).cX.getD z iA).af/\dr ((aG.getD j eF).cX.getD z iA).av/\dr ((aG.getD j eF).cX.getD z iA).gQ:=λz E=>eB _ (bo E _)
 rw[hd,ab (by
  grind),ab (aN hi),aW]
 simp only[aV,ak];rw[ab (show(!(decide ((aG.length:Int)=0)))=true from by grind),Q,ab (aN o),aW,ab (dL o),hr,ab (EK I),ab (dL o)];simp only[ec,cw,o];have az:aM .i64 (i:Int) 1=((i+1:Nat):Int):=bB (by omega);rw[az]
 generalize U:aG.getD j eF=p at*;generalize S:L.getD i nK=c at*;have g:∀{a b x:Int} {l:List lG},dr a->dr b->dr x->(∀q,q∈l->dr q.af/\dr q.av/\dr q.gQ)->l.length<=p.cX.length+8/\(l.length<=p.cX.length\/l.length<=8)->wg ⟨p.Kind,a,b,x,l⟩:=λ{a b x l} O P D ad aA=>⟨⟨dy,O,P,D,ad,by grind[reachBytes]⟩,by grind[reachBytes]⟩
 have H:∀q:fg,(aG.set j q).getD j bl=q:=λq=>by rw[gb (by rw[h5];grind)];simp
 have t:∀{a:Int},0<=a/\a<=255->dr a:=λh=>h
 have W:(p.cX.length:Int)<9223372036854775807:=by unfold reachBytes at I;omega
 have n:∀{l:List lG},(∀q,q∈l->dr q.af/\dr q.av/\dr q.gQ)->l.length<=p.cX.length+8/\(l.length<=p.cX.length\/l.length<=8)->wg ⟨p.Kind,p.A,p.B,p.C,l⟩:=λ{l} h1 M=>g s k m h1 M
 have self:p.cX.length<=p.cX.length+8/\(p.cX.length<=p.cX.length\/p.cX.length<=8):=by simp
 by_cases ad:0<p.cX.length
 . have v:(0:Int)<(p.cX.length:Int):=by omega
   obtain⟨z,E,f⟩:∃z:Nat,cg (bW .i64 c.A) (p.cX.length:Int)=(z:Int)/\z<p.cX.length:=by
    have e:cg (bW .i64 c.A) (p.cX.length:Int)=c.A%(p.cX.length:Int):=by
     rw[kT ⟨by omega,by omega⟩,hE c3.1 (by simp)]
    have h0:=lX c.A (by omega:(p.cX.length:Int)≠0);have h1:=lV c.A v;exact⟨(c.A%(p.cX.length:Int)).toNat,by omega,by omega⟩
   simp only[v,E,ec,cw,H,List.set_set];rw[ab (show(!(decide ((p.cX.length:Int)=0)))=true from by grind)];by_cases r:cg c.Kind 8=0
   . simp only[r,ec,cw];exact⟨_,h.set j (g (mq _) k m eB self),h5,rfl⟩
   by_cases aZ:cg c.Kind 8=1
   . simp only[aZ,ec,eG,Int.reduceEq,cN,cw,cv];exact⟨_,h.set j (g s (mq _) m eB self),h5,rfl⟩
   by_cases ba:cg c.Kind 8=2
   . have F:0<=cg c.A 6:=by rw[hE c3.1 (by simp)];omega
     simp only[ba,F,ec,eG,Int.reduceEq,cN,cw,cv];exact⟨_,h.set j (g (mq _) k m eB self),h5,rfl⟩
   by_cases bE:cg c.Kind 8=3
   . simp only[bE,ec,eG,Int.reduceEq,cN,cw,cv];exact⟨_,h.set j (g s k (mq _) eB self),h5,rfl⟩
   by_cases bU:cg c.Kind 8=4
   . by_cases fL:(p.cX.length:Int)<8
     . simp only[bU,fL,ec,eG,Int.reduceEq,cN,cw,cv];rw[ab (EK (by rw[dP];unfold reachBytes;simp;omega))];refine⟨_,h.set j (n (λq d=>?_) (by rw[dP];simp;omega)),h5,rfl⟩;rcases fX.1 d with d|d
       . exact eB q d
       . rw[e7.1 d];exact⟨t c3,t c4,mq _⟩
     . simp only[bU,fL,ec,eG,Int.reduceEq,cN,cw,cv];exact⟨_,h.set j (n eB self),h5,rfl⟩
   by_cases cL:cg c.Kind 8=5
   . simp only[cL,ec,eG,Int.reduceEq,cN,cw,cv];have K:aM .i64 (z:Int) 1=((z+1:Nat):Int):=bB (by omega);rw[K,ab (iF.2 (by omega)),ab (iF.2 (by omega)),aW,aW,aW,ab (by simp;omega)]
     refine⟨_,h.set j (n (λq d=>?_) (by rw[dP,ju,ju,pH];omega)),h5,rfl⟩;rcases fX.1 d with d|d
     . exact eB q (pG d)
     . exact eB q (yp (pG d))
   have J:∀{w:lG},dr w.af/\dr w.av/\dr w.gQ->wg ⟨p.Kind,p.A,p.B,p.C,p.cX.set z w⟩:=λ{w} R=>n (λq d=>by
    rcases AY d with d|rfl
    . exact eB q d
    . exact R) (by rw[h5];exact self)
   by_cases cM:cg c.Kind 8=6
   . simp only[cM,ec,eG,Int.reduceEq,cN,cw,cv];rw[ab (aN f),aW,ab (dL f)];exact⟨_,h.set j (J (w:=⟨(p.cX.getD z iA).af,(p.cX.getD z iA).av,c.B⟩) ⟨(u z f).1,(u z f).2.1,t c4⟩),h5,rfl⟩
   . simp only[r,aZ,ba,bE,bU,cL,cM,eG,cN,cv];rw[ab (aN f),aW,ab (dL f),ab (aN f),ab (dL f)];exact⟨_,h.set j (J (w:=⟨(p.cX.getD z iA).af,aM .u8 (p.cX.getD z iA).av c.B,(p.cX.getD z iA).gQ⟩) ⟨(u z f).1,mq _,(u z f).2.2⟩),h5,rfl⟩
 . have v:¬(0:Int)<(p.cX.length:Int):=by omega
   simp only[v,eG,cN,cv,H,List.set_set];by_cases r:cg c.Kind 8=0
   . simp only[r,ec,cw];exact⟨_,h.set j (g (mq _) k m eB self),h5,rfl⟩
   by_cases aZ:cg c.Kind 8=1
   . simp only[aZ,ec,eG,Int.reduceEq,cN,cw,cv];exact⟨_,h.set j (g s (mq _) m eB self),h5,rfl⟩
   by_cases ba:cg c.Kind 8=2
   . have F:0<=cg c.A 6:=by rw[hE c3.1 (by omega)];omega
     simp only[ba,F,ec,eG,Int.reduceEq,cN,cw,cv];exact⟨_,h.set j (g (mq _) k m eB self),h5,rfl⟩
   by_cases bE:cg c.Kind 8=3
   . simp only[bE,ec,eG,Int.reduceEq,cN,cw,cv];exact⟨_,h.set j (g s k (mq _) eB self),h5,rfl⟩
   by_cases bU:cg c.Kind 8=4
   . have fL:(p.cX.length:Int)<8:=by omega
     simp only[bU,fL,ec,eG,Int.reduceEq,cN,cw,cv];rw[ab (EK (by rw[dP];unfold reachBytes;simp;omega))];refine⟨_,h.set j (n (λq d=>?_) (by rw[dP];simp;omega)),h5,rfl⟩;rcases fX.1 d with d|d
     . exact eB q d
     . rw[e7.1 d];exact⟨t c3,t c4,mq _⟩
   have y:=h.set j (n eB self);by_cases cL:cg c.Kind 8=5
   . simp only[cL,ec,eG,Int.reduceEq,cN,cw,cv];exact⟨_,y,h5,rfl⟩
   by_cases cM:cg c.Kind 8=6
   . simp only[cM,ec,eG,Int.reduceEq,cN,cw,cv];exact⟨_,y,h5,rfl⟩
   . simp only[r,aZ,ba,bE,bU,cL,cM,eG,cN,cv];exact⟨_,y,h5,rfl⟩
theorem M4{L:List lE}(b:L.length<=reachBytes)(d:∀c,c∈L->zM c):∀(k i:Nat) {aG:List fg},i+k=L.length->kF aG->∃a,kF a/\a.length=aG.length/\hd (L,(i:Int),aG)=some a
 |0,i,aG,hi,h=>⟨aG,h,rfl,by
  simp_all[hd]⟩
 |k+1,i,aG,hi,h=>by
  by_cases aA:0<aG.length
  . obtain⟨a,h1,f,e⟩:=ab0 b d (by omega:i<L.length) h aA;rw[e,<-f];exact M4 b d k _ (by omega) h1
  simp_all[hd,ag]
theorem kF.DR{d:eo}(h:kF d.ek):tq d:=⟨by have:=h.1;grind,λx a=>(h.2 x a).1⟩
theorem aaf{d:eo}(h:kF d.ek){L:List lE}(g:L.length<=reachBytes)(i:∀c,c∈L->zM c):∃a,kF a.ek/\a.ek.length=d.ek.length/\BH (d,L)=some a:=by
 obtain⟨j,h1,f,b⟩:=M4 g i L.length 0 (by simp) h;have e:hd (L,0,d.ek)=some _:=b;refine⟨⟨j⟩,h1,f,?_⟩;rw[BH,hr,ab (agn h.1),e];rfl
theorem ab1{aG:List fg}(h:WF cT ⟨.slice (.nm xf),aG⟩):kF aG:=by
 obtain⟨a,b,c⟩:=vi h;have D:=MH h;refine⟨b,λx d=>⟨D.2 x d,?_⟩⟩;exact(vi (c x d _ (.tail _ (.tail _ (.tail _ (.tail _ (.head _))))))).2.1
theorem agT{n:Int}(h:WF cT ⟨.int .u8,n⟩):dr n:=by
 cases h with
 |int k n h=>
  grind[Lit.wf,IntKind.min,IntKind.max,IntKind.bits,IntKind.signed,dr]
theorem ac8{d:lF}{ts:List ah}{t:Int}{v w:I}(c:tq d.S)(h:qN d=some (⟨ts⟩,t,v,w,true)):ts.length=d.S.ek.length:=by
 rw[qN]at h;rcases of_eq c with e|⟨l,e,_,_,f,_⟩
 . grind
 . rw[e]at h;simp only[aV,ak,eb,cN,cv]at h;split at h
   . cases a:xj (⟨l⟩,cg (bW .i64 d.T) (l.length:Int),d.C)with
     |none=>grind
     |some x=>
      cases b:xH (⟨l⟩,cg (bW .i64 d.T) (l.length:Int),d.C)<;>grind
   grind
structure zL (c:lH):Prop where
 d:Dz c.D
 n:kF c.D.S.ek
 l:c.L.length<=reachBytes
 c:∀x,x∈c.L->zM x
structure tp (tw tr:List ah)(t:Int)(v:I):Prop where
 W:dH tw
 R:dH tr
 t0:0<=t
 t1:t<tw.length
 t2:t<tr.length
 f:cI tw true t v
 o:bS v
 w:wt v<=3000
theorem tp.z{tw tr:List ah}{t:Int}{v:I}(C:tp tw tr t v):gR tw 3000 t v:=pL C.W _ C.o C.f (.inr C.w) (.inr C.w)
theorem tp.u{tw tr:List ah}{t:Int}{v:I}(C:tp tw tr t v):wt v<=2147483648:=iO C.w (by simp)
theorem aa1{c:lH}(h:zL c):(∃w r t v,sH c=some (w,r,t,v,false))\/∃tw tr t v,(sH c=some (⟨tw⟩,⟨tr⟩,t,v,true)/\tp tw tr t v)/\∃w,qN c.D=some (⟨tw⟩,t,v,w,true)/\cI tw false t w/\bS w:=by
 obtain⟨m,d1,d3,d2⟩:=aaf h.n h.l h.c;rw[sH];rcases af' h.d with⟨s,t,v,w,e⟩|⟨ts,t,v,w,e,H,ht,⟨v1,v2,v3⟩,j,k,_⟩
 . rw[e];simp only[aV,ak];rw[d2];simp only[ak];rcases Ew d1.DR with a|⟨l,a,_⟩<;>rw[a]<;>exact .inl ⟨_,_,_,_,rfl⟩
 . have ad:=ac8 h.d.s e;rw[e];simp only[aV,ak];rw[d2];simp only[ak];rcases of_eq d1.DR with a|⟨l,a,_,_,l2,_⟩
   . rw[a];exact .inl ⟨_,_,_,_,rfl⟩
   . rcases Ew d1.DR with f|⟨i,f,g⟩
     . rw[a]at f;cases f
     . rw[a]at f;have:l=i:=by injection f with q;injection q with q _;injection q
       subst this;rw[a];simp only[ak,eb,hv];cases o:decide (4<(c.L.length:Int))with
       |true=>exact .inl ⟨_,_,_,_,rfl⟩
       |false=>
        obtain⟨b,b1,b2⟩:=Yb v2;simp only[fM,cw,hv,I.bj];rw[b1];cases b with
        |false=>exact .inl ⟨_,_,_,_,rfl⟩
        |true=>exact .inr ⟨ts,l,t,v,⟨rfl,H,g,ht.1,ht.2,by omega,v1,v2,b2 rfl⟩,w,rfl,j,k⟩
theorem ac9{c:lH}(h:zL c):(∃w r t v,sH c=some (w,r,t,v,false))\/∃tw tr t v,sH c=some (⟨tw⟩,⟨tr⟩,t,v,true)/\tp tw tr t v:=
 (aa1 h).imp id λ⟨tw,tr,t,v,h,_⟩=>⟨tw,tr,t,v,h⟩
section
variable {tw tr:List ah}{t rt:Int}{v:I}
theorem aaA(c:dH tw)(f:dH tr)(k:bS v)(e:cI tw true t v)(n:0<=rt)(o:rt<tr.length):Bw ((⟨tw⟩:bh),t,v,(⟨tr⟩:bh),rt)=some 0:=by
 obtain⟨⟨g,i,_⟩,_⟩:=(e4 _ _ _).1 e;have d:∀{ts:List ah} {t:Int},dH ts->0<=t->t<ts.length->xq ((⟨ts⟩:bh),t)=some 0:=λ{ts t} H a b=>by
  rw[xq,(x2 H.T H.V).1];simp only[aV,ak];have c1:¬t<0:=by omega
  have c2:¬(ts.length:Int)<=t:=by omega
  rw[ag (by simp),ag (by simp[c1,c2])]
 obtain⟨r,l,m⟩:=KP (c.V.iv c.T) k t true;have j:=m.2 e;subst j;rw[Bw];simp only[I.bj];rw[d c g i];simp only[aV,ak];rw[ag (by simp),d f n o];simp only[ak];rw[ag (by simp),FW];simp only[I.bj];rw[l];rfl
def zS:I ⊕ List Int->I×Int
 |.inl a=>(a,0)
 |.inr _=>(⟨0,false,0,[],0,[],[],[]⟩,12)
noncomputable def vO (tw tr:List ah)(t:Int)(v:I)(rt:Int):I ⊕ List Int:=gA tw tr 3000 t v rt []
theorem S'(b:dH tw)(a:dH tr)(d:bS v)(c:cI tw true t v)(g:gR tw 3000 t v)(e:0<=rt)(f:rt<tr.length):xk ((⟨tw⟩:bh),t,v,(⟨tr⟩:bh),rt)=some (zS (vO tw tr t v rt)):=by
 have h:=LZ b a 3000 d [] c g e f (path:=[]) (by simp);rw[xk];simp only[I.bj];rw[aaA b a d c e f];simp only[aV,ak];rw[ag (by simp),h];unfold vO;cases gA tw tr 3000 t v rt []<;>rfl
theorem L0(c:dH tw)(b:dH tr)(e:bS v)(d:cI tw true t v)(f:gR tw 3000 t v)(g:0<=rt)(i:rt<tr.length){a:I}(h:vO tw tr t v rt= .inl a):Cy tr rt a:=GI c b 3000 e d f g i h
end
theorem afX{c:lH}(h:∀d,d∈cT.rE FD c->WF cT d):zL c:=by
 have c1:=h ⟨.slice (.nm xf),c.D.S.ek⟩ (.head _);have c4:=h ⟨.slice (.nm Q0),c.L⟩ (.tail _ (.tail _ (.tail _ (.head _))));obtain⟨a,_,e⟩:=vi (t:= .nm Q0) c4;have g:∀{n:Int},WF cT ⟨.int .u8,n⟩->dr n:=agT;refine⟨abo λd b=>?_,ab1 c1,a,λx i=>?_⟩
 . refine h d ?_;cases b with
   |head=>exact .head _
   |tail _ b=>cases b with
    |head=>exact .tail _ (.head _)
    |tail _ b=>cases b with
     |head=>exact .tail _ (.tail _ (.head _))
     |tail _ b=>cases b
 . have f:=e x i;exact⟨g (f ⟨.int .u8,x.Kind⟩ (.head _)),g (f ⟨.int .u8,x.Node⟩ (.tail _ (.head _))),g (f ⟨.int .u8,x.A⟩ (.tail _ (.tail _ (.head _)))),g (f ⟨.int .u8,x.B⟩ (.tail _ (.tail _ (.tail _ (.head _)))))⟩
theorem aaB{tw tr:List ah}{t rt:Int}{v:I}(d:dH tw)(c:dH tr)(f:bS v)(e:cI tw true t v)(g:gR tw 3000 t v)(i:0<=rt)(j:rt<tr.length)(a:I):dq (A6 ((⟨tw⟩:bh),t,v,(⟨tr⟩:bh),rt,a)) (vO tw tr t v rt= .inl a):=by
 rw[A6];simp only[I.bj];rw[S' d c f e g i j];simp only[aV,ak];cases h:vO tw tr t v rt with
 |inr p=>exact⟨false,rfl,by simp⟩
 |inl x=>
  obtain⟨b,b1,b2⟩:=Ks (L0 d c f e g i j h).1 a;simp only[zS,ec,cw,gj];rw[b1];exact⟨b,rfl,b2.trans (by simp)⟩
end
end Go.Proofs.YtfcnkdegapjgnaaGreatDoor
