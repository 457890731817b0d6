/- The functions of the program as functions of Lean, that its code does what they say, and what they answer; part E. -/
import Derived.Test.YtdjagncoefjfeaaGreatCrD

namespace Go.Proofs.YtdjagncoefjfeaaGreat
set_option linter.all false
section
open Go Go.Proofs.YtdjagncoefjfeaaGreat.Shv Go.Sort
set_option maxRecDepth 100000
variable{α:Type}
theorem Ih{c:Type}{f:α->Option c}(d:α)(e:c):∀{l:List α} {m:List c},m.length=l.length->(∀j,j<l.length->f (l.getD j d)=some (m.getD j e))->ch f l=some m
 |[],[],_,_=>rfl
 |[],b::m,h,_=>by simp at h
 |a::l,[],h,_=>by simp at h
 |a::l,b::m,h,g=>by
  have h0:f a=some b:=g 0 (by simp);rw[qB,h0,Ih d e (l:=l) (m:=m) (by simpa using h) λj i=>g (j+1) (by simpa using i)];rfl
theorem JG:∀{a b:List aj},a.length=b.length->e0 (j2 a b)=a/\e6 (j2 a b)=b
 |[],[],_=>⟨rfl,rfl⟩
 |[],_::_,h=>by simp at h
 |_::_,[],h=>by simp at h
 |x::a,y::b,h=>by
  obtain⟨h1,c⟩:=JG (a:=a) (b:=b) (by simpa using h);exact⟨by rw[j2,e0,h1],by rw[j2,e6,c]⟩
theorem adX{m:aR}{v:I}:c7 m v=true↔m.bZ=true/\m.bu=v:=by unfold c7;simp
theorem acU(m:aR)(l:List aR)(id:Int):fi (m::l) id=if m.ad=id then some 0 else(fi l id).map (· +1):=by
 unfold fi;rw[List.findIdx?_cons];by_cases h:m.ad=id<;>simp[h]
section
variable {tw tr:List ah}
theorem ZG{ms:List aR}(o:∀m,m∈ms->cj m.ad):∀{l:List I},l.length=ms.length->(ms.Pairwise λa b=>a.ad<b.ad)->∀id:Int,((dd tw ms l).map jD).find? (λf=>decide (f.ad=id))=
 match fi ms id with
 |none=>none
 |some i=>if c7 (ms.getD i ay) (l.getD i au) then none else some ⟨id,(ms.getD i ay).cf,br tw (ms.getD i ay).av (l.getD i au)⟩:=by
 induction ms with
 |nil=>intro l af _ id;rw[dd]<;>simp[fi]
 |cons m ms ih=>
  intro l af k id;cases l with
  |nil=>simp at af
  |cons v l=>
   rw[hV]at k;have r:=o m (.head _);unfold cj at r;have e:((m.ad.toNat:Nat):Int)=m.ad:=(by omega);have p:=ih (λq n=>o q (.tail _ n)) (l:=l) (by simpa using af) k.2 id;rw[dd,acU];by_cases g:m.ad=id
   . rw[ae g];by_cases c:c7 m v=true
     . rw[ae c,p];have aE:fi ms id=none:=by
        cases n:fi ms id with
        |none=>rfl
        |some j=>
         obtain⟨s,t,_⟩:=iO n;have:=k.1 _ (bg s ay);omega
       rw[aE];show none=if c7 m v then none else _
       rw[ae c]
     . rw[ak c,fu,List.find?_cons];have d:decide ((jD ⟨m.ad.toNat,m.cf,br tw m.av v⟩).ad=id)=true:=jF (by show((m.ad.toNat:Nat):Int)=id;omega);rw[d];show some _=if c7 m v then none else _
       rw[ak c];show some (⟨((m.ad.toNat:Nat):Int),m.cf,br tw m.av v⟩:cO)=_;rw[e,g];rfl
   . rw[ak g];have tail:(((dd tw ms l).map jD).find? λf=>decide (f.ad=id))=match (fi ms id).map (· +1)with
      |none=>none
      |some i=>if c7 ((m::ms).getD i ay) ((v::l).getD i au) then none else some ⟨id,((m::ms).getD i ay).cf,br tw ((m::ms).getD i ay).av ((v::l).getD i au)⟩:=by
      rw[p];cases fi ms id<;>rfl
     by_cases c:c7 m v=true
     . rw[ae c,tail]
     . rw[ak c,fu,List.find?_cons];have d:decide ((jD ⟨m.ad.toNat,m.cf,br tw m.av v⟩).ad=id)=false:=rO (by show ¬((m.ad.toNat:Nat):Int)=id;omega);rw[d];simp only;rw[tail]
theorem J9{y:ah}{path:aq}:∀{ms:List aR} {l:List I} {r:List bX},(∀m,m∈ms->cj m.ad)->ha tw y path ms l= .inl r->((dd tw ms l).map jD).all (fv y)=true/\eO y ((dd tw ms l).map jD)=r
 |[],l,r,_,h=>by
  rw[ha]at h
  . cases h;rw[dd]<;>simp[eO]
  . intros;simp_all
 |m::ms,[],r,_,h=>by
  rw[ha]at h
  . cases h;rw[dd]<;>simp[eO]
  . intros;simp_all
 |m::ms,v::l,r,j,h=>by
  have n:=j m (.head _);unfold cj at n;have e:((m.ad.toNat:Nat):Int)=m.ad:=by omega
  have g:=λ{r}=>J9 (y:=y) (path:=path) (ms:=ms) (l:=l) (r:=r) λq o=>j q (.tail _ o);have i:jD ⟨m.ad.toNat,m.cf,br tw m.av v⟩=⟨m.ad,m.cf,br tw m.av v⟩:=by show(⟨((m.ad.toNat:Nat):Int),m.cf,br tw m.av v⟩:cO)=_;rw[e]
  rw[ha]at h;rw[dd];by_cases c:(cz y.ag m.ad).isSome=true
  . rw[ae c]at h;obtain⟨a,b⟩:=g h;by_cases d:c7 m v=true
    . rw[ae d];exact⟨a,b⟩
    . rw[ak d,fu,i];refine⟨by rw[l7,a];simp[fv,c],?_⟩;unfold eO at b⊢;rw[BW,ak (by simp[c])];exact b
  rw[ak c]at h;by_cases f:m.cf=true
  . rw[ae f]at h;cases h
  rw[ak f]at h;by_cases d:c7 m v=true
  . rw[ae d]at h⊢;exact g h
  . rw[ak d]at h⊢;obtain⟨u,us,aI,k,rfl⟩:=Dg h;cases aI;obtain⟨a,b⟩:=g k;rw[fu,i];refine⟨by rw[l7,a];simp[fv,f],?_⟩;unfold eO at b⊢;rw[BW,ae (by simp[c]),fu,b]
def Ey(tw tr:List ah)(n:Nat):Prop:=∀{v:I},bK v->wt v<=3000->∀{t rt:Int} {path:aq} {u:I},b6 tw true t v->0<=rt->rt<tr.length->ec tw tr n t v rt path= .inl u->∀m,dL tw t v<=m->cP tr m rt (br tw t v)=some u
theorem ZH(al:da tw)(E:da tr){n:Nat}(ih:Ey tw tr n):Ey tw tr (n+1):=by
 intro v az bu t rt path u W bY bZ h m Q;have SW:=al.V.hB al.T;have cv:=E.V.hB E.T;have bU:=fw v;have aM:=wx al az t W bu;unfold h4 at aM;have bs:=qF (ts:=tw) t v;obtain⟨m,rfl⟩:∃k,m=k+1:=⟨m-1,by omega⟩
 have s:=tF (ts:=tw) t v;have ap:∀q,q∈v.aw->(if v.aw=[]then 0 else 1)=1:=λq b=>ak λe=>by rw[e]at b;cases b
 generalize (if v.aw=[]then 0 else 1)=kk at s ap;obtain⟨⟨bO,bP,bQ,bi⟩,G⟩:=(eL _ _ _).1 W;have bm:=bi rfl;have L:t.toNat<tw.length:=by omega
 have bo:rt.toNat<tr.length:=by omega
 have Y:=bg L aN;have H:=bg bo aN;have aV:=λh=>uy (ts:=tw) (t:=t) (v:=v) h;have aW:=λh=>uz (ts:=tw) (t:=t) (v:=v) h;have aX:=λh=>uA (ts:=tw) (t:=t) (v:=v) h;have aY:=λh=>uB (ts:=tw) (t:=t) (v:=v) h;have aZ:=λh h1 aD=>KB (ts:=tw) (t:=t) (v:=v) h h1 aD;have a6:=λh=>uC (ts:=tw) (t:=t) (v:=v) h;have a7:=λh=>uD (ts:=tw) (t:=t) (v:=v) h;have a':=λh=>uE (ts:=tw) (t:=t) (v:=v) h;have ba:=λh=>uF (ts:=tw) (t:=t) (v:=v) h;rw[zc]at h;rw[qC];generalize aO:tw.getD t.toNat aN=x at*;generalize aa:tr.getD rt.toNat aN=y at*;cases az with
 |mk _ hs h1 aD bR X P bT c9 aQ bW bX=>
 have ar:(br tw t v).length<=90000:=by omega
 have aS:x.Kind=5->∀c,c<=fD tw x.ag v.ai->c<=m:=λh c G=>by rw[ae h]at s;exact wO s Q G
 have aT:x.Kind=6->∀o,cz x.ag v.ad=some o->∀c,c<=dR tw o.av v.ai->c<=m:=λh o bw c G=>by
  rw[ak (by rw[h];decide),ae h,bw]at s;exact wO s Q G
 have am:7<=x.Kind->∀c,c<=dR tw x.aG v.ai->c<=m:=λh c G=>by
  rw[ak (λe=>by rw[e]at h;exact absurd h (by decide)),ak (λe=>by rw[e]at h;exact absurd h (by decide))]at s;exact wO s Q G
 have aU:∀q,q∈v.aw->1<=m:=λq b=>by
  rw[ap q b]at s;exact OF s Q rfl
 clear s Q bs aM ap;have R:∀y,y∈v.ai->wt y<=3000:=λy aa=>by have:=e' aa;omega
 have bH:∀y,y∈v.aw->wt y<=3000:=λy aa=>by have:=e' aa;omega
 have bD:x.Kind=y.Kind:=by
  by_cases e:x.Kind=y.Kind
  . exact e
  . rw[Jd e]at h;cases h
 have ah:x.Kind<=4->u=v/\iR x y v:=λaE=>by
  by_cases af:iR x y v
  . rw[pN bD aE af]at h;cases h;exact⟨rfl,af⟩
  . rw[tZ bD aE af]at h;cases h
 have seq:∀{t rt:Int} {i:Nat} {l us:List I},(∀q,q∈l->bK q/\wt q<=3000/\b6 tw true t q/\dL tw t q<=m)->0<=rt->rt<tr.length->eZ (ec tw tr n) path t rt i l= .inl us->ch (cP tr m rt) (bF tw t l)=some us/\us.length=l.length:=λ{t rt i l us} af a0 a1 B=>by
  obtain⟨b1,b2⟩:=zd B;refine⟨Ih [] au (by rw[jx,b1]) λj L=>?_,b1⟩;rw[jx]at L;rw[Hx L];obtain⟨p,aA,aB,bE⟩:=af _ (bg L au);exact ih p aA aB a0 a1 (b2 j L) m bE
 unfold oE;rcases G with d|d|d|d|d|d|d|d|d
 . obtain⟨rfl,_⟩:=ah (by omega);rw[eT,aV (by omega)];obtain⟨a1,a2,a3,a4,a5,g,F⟩:=d;unfold uu;cases bS:u.bL with
   |true=>
    rw[ae (show true=true from rfl),ak (show ¬([1]:aj)=[] by simp),ae (show([1]:aj)=[1]from rfl)];cases u;simp_all
   |false=>
    rw[ak (show ¬false=true by simp),ae (show([]:aj)=[]from rfl)];cases u;simp_all
 . obtain⟨rfl,af⟩:=ah (by omega);obtain⟨a1,a2,a3,a4,a5,g,F,z,a9⟩:=d;rw[a8,eT,aW (by omega)];have bv:=OE (n:=u.bf) aQ;unfold uv;rw[Du (wN aQ)];simp only;rw[bv,ae (af.1 (by omega))];cases u;simp_all
 . obtain⟨rfl,af⟩:=ah (by omega);obtain⟨a1,a2,a3,a4,a5,g,F,z⟩:=d;rw[a8,a8,eT,aX (by omega)];unfold uw;rw[ae (af.2.1 (by omega))];cases u;simp_all
 . obtain⟨rfl,af⟩:=ah (by omega);obtain⟨a1,a2,a3,a4,a5,g,F,z⟩:=d;have O:cj u.ad:=by
    rcases z with⟨y,bM,bN⟩|⟨_,h,_⟩
    . rw[<-bN];exact SW.S _ Y (by omega) y bM
    . cases h
   unfold cj at O;obtain⟨k,X⟩:∃k:Nat,u.ad=(k:Int):=⟨u.ad.toNat,by omega⟩
   rw[a8,a8,a8,eT,aY (by omega),X,bc];unfold ux;rw[Du (by omega)];simp only;have hs:((y.bj.any λy=>decide (y.ad=(k:Int)))||y.Open)=true:=by
    rcases af.2.2 (by omega)with q|q
    . rw[X]at q;rw[Eg.1 q];rfl
    . rw[q];simp
   rw[ae ⟨by omega,by omega,hs⟩];cases u;simp_all
 . obtain⟨a1,a2,a3,a4,a5,g,F,z⟩:=d;rw[FW bD (by omega)]at h;obtain⟨C,bA⟩:=SW.A _ Y (.inl (by omega));obtain⟨f1,f2⟩:=h9.1 z;obtain⟨ab,aI,h⟩:=Dh h;obtain⟨r,be,rfl⟩:=n5 h;obtain⟨b1,b2⟩:=IE aI;obtain⟨K,N⟩:=J9 C.2 be;have aL:=aZ (by omega) bm C;rw[a8,a8,a8,a8,a8,a8,a8,a8,aL];unfold mb
   rw[L0 (Mz C) (λf W=>by
    have:=GR (ts:=tw) (ms:=x.ag) (l:=v.ai) (r:=[]) C ⟨.nil,λx aO=>by cases aO⟩ (x:=f) (by unfold fk;simpa using W)
    exact this) (by rw[<-aL];exact ar)]
   simp only;have bt:ch (d' (cP tr m) ((dd tw x.ag v.ai).map jD)) y.ag=some ab:=Ih ay au b1 λj aH=>by
    have Z:=bg aH ay;unfold d';rw[ZG C.2 f1 C.1];rcases NB (b2 j aH)with⟨K,N,an⟩|⟨i,K,N,an⟩
    . rw[K];simp only;rw[ae N,an]
    . rw[K];obtain⟨d1,_,_⟩:=iO K;simp only;by_cases M:c7 (x.ag.getD i ay) (v.ai.getD i au)=true
      . rw[ae M];obtain⟨bB,bC⟩:=adX.1 (an M);simp only;rw[ae bB,bC]
      . rw[ak M];simp only;have J:=bg (by omega:i<v.ai.length) au;obtain⟨D,p⟩:=E.fA.mem H Z;have aq:=IB (ts:=tw) (ms:=x.ag) (l:=v.ai) d1 (by rw[f1];exact d1) (by simpa using M);exact ih (P _ J) (R _ J) (f2 i d1) D p N m (aS (by omega) _ aq)
   rw[bt];simp only;rw[ae K,N]
 . obtain⟨a1,a2,a3,a4,a5,g⟩:=d;rw[FX bD (by omega)]at h;unfold rR at h;obtain⟨C,bA⟩:=SW.A _ Y (.inr (by omega));cases bw:cz x.ag v.ad with
   |none=>rw[bw]at g;cases g.2.1
   |some o=>
    rw[bw]at g;obtain⟨b1,b2,b3⟩:=g;have ax:=rA x.ag v.ad;rw[bw]at ax;cases O:fi x.ag v.ad with
    |none=>rw[O]at ax;cases ax
    |some i=>
    obtain⟨d1,d2,_⟩:=iO O;obtain⟨d3,d4⟩:=jP bw;have em:x.ag.getD i ay=o:=pJ C (bg d1 ay) d3 (by rw[d2,d4]);have bn:cj v.ad:=by rw[<-d4];exact C.2 o d3
    unfold cj at bn;obtain⟨k,aJ⟩:∃k:Nat,v.ad=(k:Int):=⟨v.ad.toNat,by omega⟩
    have J:=bg (by omega:0<v.ai.length) au;have b:bF tw o.av v.ai=[br tw o.av (v.ai.getD 0 au)]:=by
     match az:v.ai,b2 with
     |[a],_=>rw[bF,bF];rfl
    have B:br tw t v=dM k++br tw o.av (v.ai.getD 0 au):=by
     rw[a6 (by omega),bw];show _++(bF tw o.av v.ai).headD []=_;rw[b,aJ,bc];rfl
    rw[a8,a8,a8,a8,a8,eT,B];unfold oC;rw[Jb (by omega)];simp only;rw[<-aJ];simp only[O,em]at h;cases U:fi y.ag v.ad with
    |some j=>
     simp only[U]at h;obtain⟨w,aI,rfl⟩:=n5 h;obtain⟨bx,bz,_⟩:=iO U;have Z:=bg bx ay;obtain⟨D,p⟩:=E.fA.mem H Z;have ao:cz y.ag v.ad=some (y.ag.getD j ay):=by rw[<-bz];exact H9 (cv.A _ H (.inr (by omega))).1 Z
     rw[ao];simp only;have aq:=pC (ts:=tw) (t:=o.av) J;rw[ih (P _ J) (R _ J) (cN.1 b3 _ J) D p aI m (aT (by omega) o bw _ aq)];rfl
    |none=>
     simp only[U]at h;have ao:cz y.ag v.ad=none:=by
      have:=rA y.ag v.ad;rw[U]at this;cases b:cz y.ag v.ad with
      |none=>rfl
      |some _=>rw[b]at this;cases this
     rw[ao];simp only;split at h
     . cases h;rename_i M;rw[ae M]
     . cases h
 . obtain⟨a1,a2,a3,a4,a5,g,F,z,a9⟩:=d;rw[FY bD (by omega)]at h;unfold wR at h;split at h
   . rename_i bl;obtain⟨ab,aI,rfl⟩:=n5 h;obtain⟨D,p⟩:=E.fA.elem H (by omega);have B:=a7 (by omega);obtain⟨s1,aR⟩:=seq (λq b=>⟨P q b,R q b,cN.1 a9 q b,am (by omega) _ (pC b)⟩) D p aI;rw[a8,a8,a8,a8,a8,a8,eT,B];unfold mc;rw[Ee (by rw[<-B];exact ar)];simp only;rw[ae (by rw[jx];omega),s1];rfl
   . cases h
 . obtain⟨a1,a2,a3,a4,a5,g,F,z,a9,bb,bd⟩:=d;rw[FZ bD (by omega)]at h;unfold wS at h;split at h
   . rename_i bl;obtain⟨ks,cW,h⟩:=Dh h;obtain⟨ab,aI,rfl⟩:=n5 h;obtain⟨D,p⟩:=E.fA.elem H (by omega);obtain⟨aA,aB⟩:=E.fA.key H (by omega);have B:=a' (by omega);obtain⟨s1,aR⟩:=seq (λq b=>⟨P q b,R q b,cN.1 bb q b,am (by omega) _ (pC b)⟩) D p aI;have bk:=(SW.qo _ Y (by omega))
     have bp:∀q,q∈v.aw->dL tw x.Key q<=m:=λq b=>by
      have bq:=aU q b;have e:dL tw x.Key q=1:=by
       obtain⟨⟨_,_,bV,_⟩,aP⟩:=(eL _ _ _).1 (cN.1 a9 q b);refine zV ?_ ?_
       . rcases aP with k|k|k|k|k|k|k|k|k
         . exact k.2.2.2.2.1
         . exact k.2.2.2.2.1
         . exact k.2.2.2.2.1
         . exact k.2.2.2.2.1
         all_goals (exfalso;omega)
       . rcases aP with k|k|k|k|k|k|k|k|k
         . exact k.2.2.2.2.2.1
         . exact k.2.2.2.2.2.1
         . exact k.2.2.2.2.2.1
         . exact k.2.2.2.2.2.1
         all_goals (exfalso;omega)
      rw[e];exact bq
     obtain⟨bG,b0⟩:=seq (λq b=>⟨X q b,bH q b,cN.1 a9 q b,bp q b⟩) aA aB cW;have bh:=La (λv rt path u h=>K' bk.2 h) cW;subst bh;have aK:(bF tw x.Key v.aw).length=(bF tw x.aG v.ai).length:=by rw[jx,jx];omega
     obtain⟨bI,bJ⟩:=JG aK;have aC:=IA _ _ aK;rw[jx,jx]at aC;rw[a8,a8,a8,a8,a8,a8,a8,eT,B,zW];unfold oD;rw[Ee (by rw[<-zW,<-B];exact ar)];simp only;rw[ae ⟨by rw[aC];omega,by rw[aC];omega⟩,bI,bJ,bG];simp only;rw[ae (tB.2 bd),s1];rfl
   . cases h
 . obtain⟨a1,a2,a3,a4,a5,g,F,z,a9⟩:=d;rw[F0 bD (by omega)]at h;obtain⟨ab,aI,rfl⟩:=n5 h;obtain⟨D,p⟩:=E.fA.elem H (by omega);obtain⟨s1,aR⟩:=seq (λq b=>⟨P q b,R q b,cN.1 a9 q b,am (by omega) _ (pC b)⟩) D p aI;rw[a8,a8,a8,a8,eT,ba (by omega)]
   match gy:v.ai,z with
   |[],_=>
    rw[gy,bF]at s1;cases s1;rw[bF];rfl
   |[a],_=>
    rw[gy,bF,bF]at s1;rw[bF,bF];rw[qB]at s1;show((if(1:UInt8)=1 then(cP tr m y.aG (br tw x.aG a)).map _ else none):Option I)=_;rw[ae rfl];cases aF:cP tr m y.aG (br tw x.aG a)with
    |none=>rw[aF]at s1;cases s1
    |some w=>
     rw[aF]at s1;cases s1;rfl
theorem M6(b:da tw)(a:da tr):∀n,Ey tw tr n
 |0=>λ_ _ _ _ _ _ _ _ _ h=>by cases h
 |n+1=>ZH b a (M6 b a n)
end
theorem AM{a b:α}{x y:Int}(h:(a,x)=(b,y))(aE:x≠y):False:=aE (dX Prod.snd h)
theorem ZI{c:kO}(k:A1 c):As c=some true:=by
 rw[As,UN];rcases acS k with⟨w,r,t,v,e⟩|⟨tw,tr,t,v,e,C⟩
 . rw[e];rfl
 . rw[e];have F:=C.w;have D:xa tw tr t v:=⟨C.W,C.R,⟨C.t0,C.t1⟩,⟨C.t0,C.t2⟩,mY _ _ C.f,C.o,C.w⟩
   have he:ny ((⟨tw⟩:aS),t,v)=_:=Ie C.W ⟨mY _ _ C.f,C.o,by omega⟩;have s:sH ((⟨tw⟩:aS),t,v,(⟨tr⟩:aS),t)=_:=JF C.W C.R C.o C.w C.f C.t0 C.t2;simp only[aT,ao,dn,dW,bV,b7,I.aU];rw[he];rcases HZ tw t v with h|⟨h,a,l2⟩
   . rw[h];rfl
   . rw[h];simp only[ao,dp,dn,bV,b7];rw[s];have l:=Ig C.W D.t1 C.o (mY _ _ C.f) a l2;have hs:=Zj C.o t C.f;have W:=MD C.W C.R D.t1 D.t2 (m:=br tw t v) (λu h=>by rw[D.back u h];exact C.w);rw[l]at W;rw[G8];cases d:rZ tw tr t v t with
     |inr p=>
      have key:nd tw tr t t (br tw t v) eg eg [] 12:=by
       rcases W with⟨q,_⟩|⟨x,q,_,W⟩
       . exact(AM q (by decide)).elim
       . have:v=x:=dX Prod.fst q;subst this;rw[hs,d]at W;rcases W with⟨q,_⟩|⟨_,⟨_,W⟩|⟨⟨x,q⟩,_⟩⟩
         . exact absurd C.f q
         . exact W
         . cases q
      have g:lP ((⟨⟨tw⟩,t⟩:dO),(⟨⟨tr⟩,t⟩:dO),br tw t v)=_:=key.1;simp[kz,g]
     |inl u=>
      have b:=M6 C.W C.R 3000 C.o C.w C.f C.t0 C.t2 d 200 (by omega);have j:gN tr t (br tw t v)=(u,0):=by
       unfold gN;rw[ak (by have:=C.t0;have:=C.t2;omega),ak (Nat.not_lt.2 a),b]
      obtain⟨s1,i⟩:=Oc C.R 200 t _ u (by omega) C.t0 C.t2 b;have G:=NF C.R D.t2 a b;have dD:ki tr t u=(br tr t u,0):=by
       unfold ki;rw[ak]
       rintro (h|h)
       . exact absurd (g' s1 a) (Nat.not_le.2 h)
       . exact absurd i (Nat.not_le.2 h)
      have key:nd tw tr t t (br tw t v) v u (br tr t u) 0:=by
       rcases W with⟨q,_⟩|⟨x,q,_,W⟩
       . exact(AM q (by decide)).elim
       . have:v=x:=dX Prod.fst q;subst this;rw[hs,d,h,j]at W;rcases W with⟨q,_⟩|⟨_,⟨⟨p,q⟩,_⟩|⟨_,⟨q,_⟩|⟨_,⟨q,_⟩|⟨y,q,_,W⟩⟩⟩⟩
         . exact absurd C.f q
         . cases q
         . exact(AM q (by decide)).elim
         . exact(AM q (by decide)).elim
         . have:u=y:=dX Prod.fst q;subst this;rw[dD]at W;rcases W with⟨q,_⟩|⟨_,_,W⟩
           . exact(AM q (by decide)).elim
           . exact W
      have g:lP ((⟨⟨tw⟩,t⟩:dO),(⟨⟨tr⟩,t⟩:dO),br tw t v)=_:=key.1;have z:pU ((⟨tr⟩:aS),t,br tr t u)=some (u,0):=by
       rw[Hy C.R.fA,Ig C.R D.t2 G.2.1 G.1 (g' s1 a) i]
      have A:ju ((⟨tr⟩:aS),t,u)=some (br tr t u):=Ed (C.R.V.hB C.R.T) G.2.1 (g' G.2.2 (by decide)) t G.1;obtain⟨q,B,E⟩:=L1 G.2.1 u;have n:=E.2 rfl;subst n;simp[kz,g,z,A,B,I.aU]
theorem agp(h:aL cY.D [.nm GS])(a:Ok cY [.nm GS] h):As h=some true:=ZI (ags (agH a))
end
end Go.Proofs.YtdjagncoefjfeaaGreat
