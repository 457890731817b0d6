/- The functions of the program as functions of Lean, that its code does what they say, and what they answer; part C. -/
import Derived.Test.YtdjagncoefjfeaaGreatCkB

namespace Go.Proofs.YtdjagncoefjfeaaGreat
set_option linter.all false
section
open Go Go.Proofs.YtdjagncoefjfeaaGreat.Shv Go.Sort
set_option maxRecDepth 100000
variable{α:Type}{p:aj}{v:I}{ms:List aR}{id t code:Int}{o:Option Bool}{Q P:Prop}{L:Nat->Option (Bool ⊕ Unit)}{x:ai}{w j c a:Nat}{ts:List ai}{odd pl:Bool}
section
variable {α:Type}
theorem Oo{a c:Type}{f g:a->List c}:∀{l:List a},(∀x,x∈l->f x=g x)->l.flatMap f=l.flatMap g
 |[],_=>rfl
 |x::l,h=>by
  simp;rw[h x (.head _),Oo λy b=>h y (.tail _ b)]
theorem My(x:α)(n:Nat)(f:Nat->List α):∀(ks:a7),ks.Nodup->n∈ks->(ks.flatMap λi=>if n=i then x::f i else f i).Perm (x::ks.flatMap f)
 |[],_,h=>by grind
 |k::ks,aJ,h=>by
  rw[List.nodup_cons]at aJ;simp;by_cases e:n=k
  . have:(ks.flatMap λi=>if n=i then x::f i else f i)=ks.flatMap f:=Oo λy b=>by grind
    simp_all
  . rw[al e];have a:=(eR.1 h).resolve_left e;refine((My x n f ks aJ.2 a).append_left _).trans ?_;simp
theorem NV(key:α->Nat)(ks:a7)(aJ:ks.Nodup):∀l:List α,(∀x,x∈l->key x∈ks)->(ks.flatMap λi=>l.filter λx=>decide (key x=i)).Perm l
 |[],_=>by simp
 |x::l,h=>by
  have e:(λi=>(x::l).filter λy=>decide (key y=i))=λi=>if key x=i then x::(l.filter λy=>decide (key y=i))else l.filter λy=>decide (key y=i):=by grind
  rw[e];exact(My x _ _ ks aJ (h x (.head _))).trans ((NV _ ks aJ l λy a=>h y (.tail _ a)).cons x)
theorem ZR(key:α->Nat)(a n:Nat)(l:List α):((List.range' a n).flatMap λi=>l.filter λx=>decide (key x=i)).Pairwise (λx y=>decide (key y<key x)=false):=by
 rw[List.pairwise_flatMap];grind[List.pairwise_iff_forall_sublist,List.pairwise_lt_range']
theorem Oq{c:Type}[Inhabited α][Inhabited c]{lt:α->α->Bool}{d:c->c->Bool}(g:α->c)(h:∀a b,d (g a) (g b)=lt a b):∀l,fO d (l.map g)=(fO lt l).map g
 |[]=>rfl
 |x::l=>by
  have key:∀r,oP d (g x) (r.map g)=(oP lt x r).map g:=by
   intro r;induction r with
   |nil=>rfl
   |cons y r ih=>
    grind[oP]
  simp[fO];rw[Oq g h l,key]
theorem Nu[Inhabited α]{lt:α->α->Bool}:∀{l:List α},l.Pairwise (λx y=>lt x y=true\/lt y x=true)->kq lt l=true
 |[],_=>rfl
 |x::l,h=>by
  rw[jb]at h;simp[kq];exact⟨h.1,Nu h.2⟩
end
mutual
def wt:I->Nat
 |⟨_,_,_,s,_,ks,a,r⟩=>10+s.length+(r.map λx=>x.Data.length+1).sum+cx ks+cx a
def cx:List I->Nat
 |[]=>0
 |v::l=>wt v+cx l
end
structure Fd where
 id:Nat
 c:Bool
 p:aj
instance:Inhabited Fd:=⟨⟨0,false,[]⟩⟩
def eQ(a b:Fd):Bool:=decide (a.id<b.id)
def Fd.text(f:Fd):aj:=fr f.id f.c f.p
def gA:List aj->List aj->aj
 |k::ks,v::vs=>dg k++(dg v++gA ks vs)
 |_,_=>[]
def cw(l:List aR)(id:Int):Option aR:=l.find? λm=>decide (m.ad=id)
open Classical in
noncomputable def dh (m:aR)(v:I):Bool:=m.bu&&decide (m.bm=v)
def kx(r:bQ):Fd:=⟨r.ad.toNat,false,r.Data⟩
mutual
noncomputable def bp (ts:List ai)(t:Int):I->aj
 |⟨_,b,i,s,id,ks,a,r⟩=>
  let x:=ts.getD t.toNat aG
  if x.Kind=1 then(if b then[1]else[])
  else if x.Kind=2 then gR (gF i).toNat
  else if x.Kind=3 then s
  else if x.Kind=4 then gR id.toNat
  else if x.Kind=5 then(fO eQ (dv ts x.af a++r.map kx)).flatMap Fd.text
  else if x.Kind=6 then ey id.toNat++(match cw x.af id with
   |some m=>(bF ts m.av a).headD []
   |none=>(r.map bQ.Data).headD [])
  else if x.Kind=7 then(bF ts x.aD a).flatMap dg
  else if x.Kind=8 then gA (bF ts x.Key ks) (bF ts x.aD a)
  else match bF ts x.aD a with
   |[]=>[]
   |p::_=>1::p
noncomputable def bF (ts:List ai)(t:Int):List I->List aj
 |[]=>[]
 |v::l=>bp ts t v::bF ts t l
noncomputable def dv (ts:List ai):List aR->List I->List Fd
 |m::ms,v::l=>if dh m v then dv ts ms l else⟨m.ad.toNat,m.b8,bp ts m.av v⟩::dv ts ms l
 |_,_=>[]
end
mutual
noncomputable def ew (ts:List ai)(t:Int):I->Nat
 |⟨_,_,_,_,id,ks,a,_⟩=>
  let x:=ts.getD t.toNat aG
  1+max (if ks=[]then 0 else 1) (if x.Kind=5 then hf ts x.af a
   else if x.Kind=6 then(match cw x.af id with
    |some m=>e1 ts m.av a
    |none=>0)
   else e1 ts x.aD a)
noncomputable def e1 (ts:List ai)(t:Int):List I->Nat
 |[]=>0
 |v::l=>max (ew ts t v) (e1 ts t l)
noncomputable def hf (ts:List ai):List aR->List I->Nat
 |m::ms,v::l=>if dh m v then hf ts ms l else max (ew ts m.av v) (hf ts ms l)
 |_,_=>0
end
def cv(n:Int):Prop:=1<=n/\n<=1000
def j0(ms:List aR)(r:List bQ):Prop:=r.Pairwise (λa b=>a.ad<b.ad)/\∀x,x∈r->cv x.ad/\cw ms x.ad=none
def hT(a b:I):Int:=(pT (a,b)).getD 0
def jX(ks:List I):Prop:=∀i,i+1<ks.length->hT (ks.getD i ar) (ks.getD (i+1) ar)<0
mutual
def bO(ts:List ai)(pl:Bool)(t:Int):I->Prop
 |⟨k,b,i,s,id,ks,a,r⟩=>
  let x:=ts.getD t.toNat aG
  (0<=t/\t<ts.length/\k=x.Kind/\(pl=true->r=[]))/\
  (k=1/\i=0/\s=[]/\id=0/\ks=[]/\a=[]/\r=[]\/
  k=2/\b=false/\s=[]/\id=0/\ks=[]/\a=[]/\r=[]/\x.bJ<=i/\i<=x.bN\/
  k=3/\b=false/\i=0/\id=0/\ks=[]/\a=[]/\r=[]/\(s.length:Int)<=x.Max\/
  k=4/\b=false/\i=0/\s=[]/\ks=[]/\a=[]/\r=[]/\((∃y,y∈x.bj/\y.ad=id)\/x.Open=true/\pl=false/\cv id)\/
  k=5/\b=false/\i=0/\s=[]/\id=0/\ks=[]/\j0 x.af r/\iv ts pl x.af a\/
  k=6/\b=false/\i=0/\s=[]/\ks=[]/\(match cw x.af id with
   |some m=>r=[]/\a.length=1/\e0 ts pl m.av a
   |none=>x.Open=true/\pl=false/\cv id/\a=[]/\∃d,r=[⟨id,d⟩])\/
  k=7/\b=false/\i=0/\s=[]/\id=0/\ks=[]/\r=[]/\(a.length:Int)<=x.Max/\e0 ts pl x.aD a\/
  k=8/\b=false/\i=0/\s=[]/\id=0/\r=[]/\(ks.length:Int)<=x.Max/\a.length=ks.length/\e0 ts pl x.Key ks/\e0 ts pl x.aD a/\jX ks\/
  k=9/\b=false/\i=0/\s=[]/\id=0/\ks=[]/\r=[]/\a.length<=1/\e0 ts pl x.aD a)
def e0(ts:List ai)(pl:Bool)(t:Int):List I->Prop
 |[]=>True
 |v::l=>bO ts pl t v/\e0 ts pl t l
def iv(ts:List ai)(pl:Bool):List aR->List I->Prop
 |m::ms,v::l=>bO ts pl m.av v/\iv ts pl ms l
 |[],[]=>True
 |_,_=>False
end
theorem eV(v:I):wt v=10+v.bt.length+(v.Rest.map λx=>x.Data.length+1).sum+cx v.aB+cx v.ag:=by cases v;rfl
theorem gW(v:I)(l:List I):cx (v::l)=wt v+cx l:=by rfl
theorem gK:cx []=0:=by rfl
theorem e2:∀{l:List I} {x:I},x∈l->wt x<=cx l
 |y::l,x,h=>by
  rw[gW];rcases eR.1 h with rfl|h
  . simp
  . have:=e2 h;omega
theorem NW(h:p.length<1152921504606846976):(dg p).length<=p.length+10:=by
 grind[ko,dg]
theorem Ot{f:Fd}(h:f.p.length<1152921504606846976)(a:f.id<=9223372036854775807):f.text.length<=f.p.length+20:=by
 grind[NW,ko,Fd.text,fr]
theorem IF{c:Type}{f:α->List c}{a b:List α}(h:a.Perm b):(a.flatMap f).length=(b.flatMap f).length:=(h.flatMap_right f).length_eq
theorem Bf{n:Int}(h:cy n):(gF n).toNat<18446744073709551616:=by
 grind[gF,cy]
section
variable {ts:List ai}
def BV(ts:List ai)(v:I):Prop:=∀t,(bp ts t v).length+20<=21*wt v
theorem JT:∀{l:List I} {t:Int},cx l<=1099511627776->(∀x,x∈l->BV ts x)->((bF ts t l).flatMap dg).length<=21*cx l
 |[],t,_,_=>by grind[bF]
 |v::l,t,a,h=>by
  rw[bF];rw[gW]at a⊢;have h1:=h v (.head _) t;have c:=JT (t:=t) (by omega) λx b=>h x (.tail _ b);grind[NW]
theorem iS:∀{l:List I} {t:Int},(bF ts t l).length=l.length
 |[],t=>by rfl
 |v::l,t=>by rw[bF,h8,h8,iS]
theorem zU:∀{l:List I} {t:Int},bF ts t l=l.map (bp ts t)
 |[],t=>by rfl
 |v::l,t=>by rw[bF,List.map,zU]
theorem Fi:∀(a b:List aj),(gA a b).length<=(a.flatMap dg).length+(b.flatMap dg).length
 |[],b=>by simp[gA]
 |k::ks,[]=>by simp[gA]
 |k::ks,v::vs=>by
  have:=Fi ks vs;simp only[gA,gQ,cc];omega
theorem Nv:∀{ms:List aR} {l:List I},cx l<=1099511627776->(∀m,m∈ms->m.ad<=1000)->(∀x,x∈l->BV ts x)->((dv ts ms l).flatMap Fd.text).length<=21*cx l
 |[],l,_,_,_=>by grind[dv]
 |m::ms,[],_,_,_=>by grind[dv]
 |m::ms,v::l,c,b,h=>by
  rw[gW]at c⊢;rw[dv];have h1:=h v (.head _) m.av;have d:=Nv (by omega) (λx a=>b x (.tail _ a)) λx a=>h x (.tail _ a);grind[Ot]
theorem Ou:∀{l:List bQ},(∀x,x∈l->x.Data.length<=reachBytes/\x.ad<=9223372036854775807)->True->((l.map kx).flatMap Fd.text).length<=21*(l.map λx=>x.Data.length+1).sum
 |[],_,_=>by simp
 |r::l,h,_=>by
  have h1:=h r (.head _);have c:=Ou (λx b=>h x (.tail _ b)) trivial;unfold reachBytes at h1;have a:=Ot (f:=kx r) (by show r.Data.length<_;omega) (by show r.ad.toNat<=_;omega);have d:(kx r).text.length<=r.Data.length+20:=a;grind
def Sx(ts:List ai):Prop:=∀x,x∈ts->∀m,m∈x.af->m.ad<=1000
theorem aba(l:List α)(i:Nat)(d:α):l.getD i d∈l\/l.getD i d=d:=by grind
theorem OR{l:List aj}{n:Nat}(h:∀x,x∈l->x.length<=n):(l.headD []).length<=n:=by
 cases l<;>grind
theorem Qj:∀{l:a7} {n:Nat},n∈l->n<=l.sum
 |a::l,n,h=>by
  rw[qD];rcases eR.1 h with rfl|h
  . simp
  . have:=Qj h;omega
theorem aeq(g:Sx ts)(h:bC v):wt v<=1099511627776->BV ts v:=by
 induction h with
 |mk v hs h1 B C F E k cZ q L u n l=>
  intro G t;have H:=eV v;have f:∀x,x∈v.aB->BV ts x:=λx a=>n x a (by have:=e2 a;omega);have d:=λx a=>l x a (by have:=e2 a;omega);have z:=λt=>JT (t:=t) (by omega) f;have o8:=λt=>JT (t:=t) (by omega) d;have a:∀m,m∈(ts.getD t.toNat aG).af->m.ad<=1000:=by
   rcases aba ts t.toNat aG with h|h
   . exact g _ h
   . rw[h];intro m j;cases j
  have A:=λt=>by
   have:((bF ts t v.ag).headD []).length<=21*cx v.ag:=OR λp c=>by
    rw[zU]at c;obtain⟨x,a,rfl⟩:=eS.1 c;have:=d x a t;have:=e2 a;omega
   omega
  have fD:=Ou (λx a=>⟨k x a,(u x a).2⟩) trivial;have y:=Nv (by omega) a d;have w:((v.Rest.map bQ.Data).headD []).length<=(v.Rest.map λx=>x.Data.length+1).sum:=OR λp c=>by
   obtain⟨x,a,rfl⟩:=eS.1 c;have:x.Data.length+1<=(v.Rest.map λx=>x.Data.length+1).sum:=Qj (eS.2 ⟨x,a,rfl⟩);omega
  obtain⟨K,b,i,s,id,ks,o,r⟩:=v;simp only at*;rw[bp];have J:=xw 8 _ (Bf q);have e:id.toNat<18446744073709551616:=by omega
  have D:=xw 8 _ e;have c:=ko e;generalize ts.getD t.toNat aG=x at*;split
  . grind
  . split
    . omega
    . split
      . omega
      . split
        . omega
        . split
          . rw[IF (kM _ _),GD,cc];omega
          . split
            . grind
            . split
              . grind
              . split
                . have:=Fi (bF ts x.Key ks) (bF ts x.aD o);grind
                grind
end
section
variable (ts:List ai)
mutual
theorem Vd:∀(v:I) (t:Int),ew ts t v<=wt v
 |⟨_,_,_,_,id,ks,a,_⟩,t=>by
  rw[ew,wt];have h1:=Hp a;have c:=Ho a;grind
theorem Hp:∀(l:List I) (t:Int),e1 ts t l<=cx l
 |[],t=>by rw[e1];omega
 |v::l,t=>by
  rw[e1,cx];have:=Vd v t;have:=Hp l t;omega
theorem Ho:∀(l:List I) (ms:List aR),hf ts ms l<=cx l
 |[],ms=>by rw [hf]; · omega
            . intros;simp_all
 |v::l,[]=>by rw [hf]; · omega
              . intros;simp_all
 |v::l,m::ms=>by
  rw[hf,cx];have:=Vd v m.av;have:=Ho l ms;grind
end
end
theorem afO(v:I):10<=wt v:=by grind[eV]
section
variable {ts:List ai}
theorem xm:∀{ms:List aR} {l:List I} {x:Fd},x∈dv ts ms l->∃m,m∈ms/\x.id=m.ad.toNat
 |[],l,x,h=>by
  grind[dv]
 |m::ms,[],x,h=>by
  grind[dv]
 |m::ms,v::l,x,h=>by
  rw[dv]at h;split at h
  . obtain⟨b,h1,a⟩:=xm h;grind
  . rcases eR.1 h with rfl|h
    . simp
    . obtain⟨b,h1,a⟩:=xm h;grind
theorem NX{l:List I}{n:Nat}(h:∀m,m∈ms->m.ad.toNat≠n):((dv ts ms l).filter λx=>decide (x.id=n))=[]:=by
 grind[List.filter_eq_nil_iff,xm]
theorem M3:∀{ms:List aR} {l:List I} {n j:Nat},ms.Pairwise (λa b=>a.ad.toNat≠b.ad.toNat)->l.length=ms.length->j<ms.length->(ms.getD j aw).ad.toNat=n->
 ((dv ts ms l).filter λx=>decide (x.id=n))=if dh (ms.getD j aw) (l.getD j ar) then[]else[⟨n,(ms.getD j aw).b8,bp ts (ms.getD j aw).av (l.getD j ar)⟩]
 |[],l,n,j,_,_,d,_=>by grind
 |m::ms,[],n,j,_,ah,_,_=>by grind
 |m::ms,v::l,n,0,c,ah,d,he=>by
  rw[jb]at c;have aJ:=NX (ts:=ts) (l:=l) (ms:=ms) (n:=n) λx f=>by grind
  grind[dv]
 |m::ms,v::l,n,j+1,c,ah,d,he=>by
  rw[jb]at c;have e:j<ms.length:=by grind
  have ih:=M3 c.2 (by simpa using ah) e he;grind[dv]
theorem abb(l:List bQ)(n:Nat)(h:∀x,x∈l->0<=x.ad):((l.map kx).filter λx=>decide (x.id=n))=(l.filter λx=>decide (x.ad=(n:Int))).map kx:=by
 rw[List.filter_map]
 congr 1
 apply List.filter_congr;intro x a;show decide (x.ad.toNat=n)=_;grind
noncomputable def e9 (ts:List ai)(ms:List aR)(l:List I)(r:List bQ):List Fd:=dv ts ms l++r.map kx
def fV(ms:List aR):Prop:=ms.Pairwise (λa b=>a.ad<b.ad)/\∀m,m∈ms->cv m.ad
theorem Qk(h:fV ms):ms.Pairwise (λa b=>a.ad.toNat≠b.ad.toNat):=by
 refine h.1.imp_of_mem λ{a b} d c aC=>?_;have:=h.2 b c;grind[cv]
theorem JU:∀{ms:List aR} {l:List I},ms.Pairwise (λa b=>a.ad.toNat≠b.ad.toNat)->(dv ts ms l).Pairwise (λa b=>a.id≠b.id)
 |[],l,_=>by
  simp_all[dv]
 |m::ms,[],_=>by
  simp_all[dv]
 |m::ms,v::l,h=>by
  rw[jb]at h;rw[dv];split
  . exact JU h.2
  . rw[jb];refine⟨λx c=>?_,JU h.2⟩;grind[xm]
theorem oG(h:cw ms id=none):∀m,m∈ms->m.ad≠id:=by
 grind[cw]
theorem um{l:List I}{r:List bQ}(h:fV ms)(c:j0 ms r):kq eQ (e9 ts ms l r)=true:=by
 apply Nu;have key:(e9 ts ms l r).Pairwise (λa b=>a.id≠b.id):=by
  unfold e9;rw[GC];refine⟨JU (Qk h),?_,?_⟩
  . rw[nA];refine c.1.imp_of_mem λ{a b} k e aC=>?_;have:=(c.2 b e).1;show a.ad.toNat≠b.ad.toNat;grind[cv]
  . intro x f y g;obtain⟨m,h1,i⟩:=xm f;obtain⟨q,d,rfl⟩:=eS.1 g;have j:=oG (c.2 q d).2 m h1;have:=(c.2 q d).1;show x.id≠q.ad.toNat;grind[cv]
 grind[eQ]
theorem IY{l:List I}{r:List bQ}(h:fV ms)(c:j0 ms r){x:Fd}(a:x∈e9 ts ms l r):1<=x.id/\x.id<=1000:=by
 rcases hb.1 a with a|a
 . obtain⟨m,h1,d⟩:=xm a;have:=h.2 m h1;grind[cv]
 . obtain⟨q,b,rfl⟩:=eS.1 a;have:=(c.2 q b).1;unfold cv at*;show 1<=q.ad.toNat/\q.ad.toNat<=1000;omega
theorem Ql:SWO eQ:=by refine⟨λx=>?_,λx y z h1 a=>?_,λx y z h1 a=>?_⟩<;>simp[eQ]at*<;>omega
theorem Y0{l:List Fd}(a:kq eQ l=true)(b:∀x,x∈l->1<=x.id/\x.id<=1000):
 fO eQ l=(List.range' 1 1000).flatMap λn=>l.filter λx=>decide (x.id=n):=by
 refine MX a (kM _ _) (NV _ _ List.nodup_range' l λx c=>?_) (DK Ql l) (ZR _ 1 _ l);grind
end
section
variable {ts:List ai}{pl:Bool}
theorem cD:∀{l:List I} {t:Int},e0 ts pl t l↔∀x,x∈l->bO ts pl t x
 |[],t=>by grind[e0]
 |v::l,t=>by
  rw[e0,cD];simp
theorem gV:∀{ms:List aR} {l:List I},iv ts pl ms l↔l.length=ms.length/\∀i,i<ms.length->bO ts pl (ms.getD i aw).av (l.getD i ar)
 |[],[]=>by
  grind[iv]
 |[],v::l=>by
  grind[iv]
 |m::ms,[]=>by
  grind[iv]
 |m::ms,v::l=>by
  rw[iv,gV];constructor
  . grind
  . rintro ⟨h1,a⟩
    exact⟨a 0 (by simp),by grind,λi b=>a (i+1) (by grind)⟩
end
def dk(o:Option Bool)(P:Prop):Prop:=∃r,o=some r/\(r=true↔P)
theorem dk.imp(h:dk o P)(e:P↔Q):dk o Q:=by grind
theorem dk.of{b:Bool}(e:b=true↔P):dk (some b) P:=⟨b,rfl,e⟩
theorem dk.loop{n:Nat}{p:Nat->Bool}{g:Unit}{o:Option (Bool ⊕ Unit)}(h0:o=L 0)(f:∀i,i<n->L i=if p i then L (i+1)else some (.inl false))(e:L n=some (.inr g)):
 dk (o>>=λo=>match o with|.inl x=>some x|.inr _=>some true) (∀i,i<n->p i=true):=by
 subst h0;rcases scan L n p (.inl false) (.inr g) f e with⟨h1,a⟩|⟨h1,j,a,c⟩
 . rw[h1];exact⟨true,rfl,by simpa using a⟩
 . rw[h1];refine⟨false,rfl,?_⟩;constructor
   . intro h;cases h
   . intro h;have:=h j a;rw[c]at this;cases this
theorem Fj(f:α->Int)(d:α):∀l:List α,l.Pairwise (λa b=>f a<f b)↔∀i,i+1<l.length->f (l.getD i d)<f (l.getD (i+1) d)
 |[]=>by simp
 |[a]=>by simp
 |a::b::l=>by
  rw[jb,Fj f d (b::l)];constructor
  . rintro ⟨h1,c⟩ i e
    cases i with
    |zero=>exact h1 b (.head _)
    |succ i=>exact c i (by simpa using e)
  . intro h;have c:∀i,i+1<(b::l).length->f ((b::l).getD i d)<f ((b::l).getD (i+1) d):=λi e=>h (i+1) (by simpa using e);refine⟨λx j=>?_,c⟩;have h0:=h 0 (by simp);simp only[mw,CG]at h0;have g:=(Fj f d (b::l)).2 c;rw[jb]at g;grind
section
variable {ts:List ai}
def FD(ts:List ai)(x:I):Prop:=∀t pl,dk (iB ((⟨ts⟩:aO),t,x,pl)) (bO ts pl t x)
theorem Ov{l:List I}(ah:l.length<=reachBytes)(ih:∀x,x∈l->FD ts x)(t:Int)(pl:Bool):dk (oB ((⟨ts⟩:aO),t,l,pl)) (e0 ts pl t l):=by
 have e:=dx ah;let p:Nat->Bool:=λi=>(iB ((⟨ts⟩:aO),t,l.getD i ar,pl)).getD false;have b:∀i,i<l.length->iB ((⟨ts⟩:aO),t,l.getD i ar,pl)=some (p i)/\(p i=true↔bO ts pl t (l.getD i ar)):=by
  intro i a;obtain⟨r,h1,d⟩:=ih _ (aZ a ar) t pl;grind
 rw[oB];refine(dk.loop (L:=λi=>kV (t,l,pl,(i:Int),ts)) (n:=l.length) (p:=p) (g:=()) rfl (λi a=>?_) ?_).imp ?_
 . show kV (t,l,pl,(i:Int),ts)=if p i then kV (t,l,pl,((i+1:Nat):Int),ts)else _
   rw[kV,bE,ae (aH a)];simp only[I.aP,aV];rw[(b i a).1,bA (by omega)];grind
 . show kV (t,l,pl,(l.length:Int),ts)=_;rw[kV,bz]
 . rw[cD];constructor
   . intro h x c;obtain⟨i,a,rfl⟩:=e3 c;grind
   grind
theorem uv{l:List aR}{r:Int×Bool}(h:uh l id r):(r.2=true/\∃j:Nat,j<l.length/\r.1=(j:Int)/\cw l id=some (l.getD j aw)/\(l.getD j aw).ad=id)\/(r.2=false/\cw l id=none):=by
 rcases h with⟨j,h1,a,c,rfl⟩|⟨h1,rfl⟩
 . refine .inl ⟨rfl,j,h1,rfl,?_,a⟩;unfold cw;rw[yT];refine⟨by rw[e4];exact a,j,h1,(dd h1 _).symm,λk e=>?_⟩;grind
 . refine .inr ⟨rfl,?_⟩;unfold cw;rw[CI];intro m b;obtain⟨i,d,rfl⟩:=e3 b;grind
theorem acz{t:ai}(ht:t.af.length<9223372036854775807){l:List bQ}(ah:l.length<=reachBytes):dk (rr (t,l)) (j0 t.af l):=by
 have s:=dx ah;rw[rr];let p:Nat->Bool:=λi=>!((gr (t,(l.getD i bP).ad)).getD (0,false)).2&&(bif decide (1<=(l.getD i bP).ad)then decide ((l.getD i bP).ad<=1000)else false)&&(!(decide ((0:Int)<(i:Int))) || !(decide ((l.getD i bP).ad<=(l.getD (di .i64 (i:Int) 1).toNat bP).ad)));refine(dk.loop (L:=λi=>kj (l,(i:Int),t)) (n:=l.length) (p:=p) (g:=()) rfl (λi c=>?_) ?_).imp ?_
 . show kj (l,(i:Int),t)=if p i then kj (l,((i+1:Nat):Int),t)else _
   obtain⟨r,h1,d,_⟩:=ma (t:=t) (l.getD i bP).ad ht;have f:p i=(!r.2&&(bif decide (1<=(l.getD i bP).ad)then decide ((l.getD i bP).ad<=1000)else false)&&(!(decide ((0:Int)<(i:Int))) || !(decide ((l.getD i bP).ad<=(l.getD (di .i64 (i:Int) 1).toNat bP).ad)))):=(by simp only[p,h1,yO]);rw[f,kj,bE,ae (aH c)];simp only[aV];rw[d,bA (by omega)];have o:jr ((l.getD i bP).ad,r.2)=some ((!r.2)&&(bif decide (1<=(l.getD i bP).ad)then decide ((l.getD i bP).ad<=1000)else false)):=by
    rw[jr];grind
   show(if ay (i:Int) l.length then jr ((l.getD i bP).ad,r.2)>>=_ else none)=_;rw[ae (aH c),o]
   exact M1 ((!r.2)&&(bif decide (1<=(l.getD i bP).ad)then decide ((l.getD i bP).ad<=1000)else false)) (ay (i:Int) l.length) (decide ((0:Int)<(i:Int))) (di .i64 (i:Int) 1) (λj=>ay j l.length) (λj=>decide ((l.getD i bP).ad<=(l.getD j.toNat bP).ad)) _ _ (aH c) (λk=>by
    have:0<i:=by simp at k;omega
    show ay _ _=true
    rw[rI this (by omega)];exact aH (by omega))
 . show kj (l,(l.length:Int),t)=_;rw[kj,bz]
 . unfold j0;rw[Fj (λa:bQ=>a.ad) bP];have key:∀i,i<l.length->(p i=true↔(cv (l.getD i bP).ad/\cw t.af (l.getD i bP).ad=none)/\(i=0\/(l.getD (i-1) bP).ad<(l.getD i bP).ad)):=by
    intro i c;obtain⟨r,h1,d,m⟩:=ma (t:=t) (l.getD i bP).ad ht;have f:p i=(!r.2&&(bif decide (1<=(l.getD i bP).ad)then decide ((l.getD i bP).ad<=1000)else false)&&(!(decide ((0:Int)<(i:Int))) || !(decide ((l.getD i bP).ad<=(l.getD (di .i64 (i:Int) 1).toNat bP).ad)))):=(by simp only[p,h1,yO]);rw[f];have aJ:r.2=false↔cw t.af (l.getD i bP).ad=none:=by
     rcases uv m with⟨a,j,_,_,b,_⟩|⟨a,b⟩
     . grind
     grind
    rw[<-aJ];unfold cv;by_cases h0:i=0
    . grind
    . have k:decide ((0:Int)<(i:Int))=true:=by simp;omega
      rw[k,rI (by omega) (by omega),aV];grind
   constructor
   . intro h;refine⟨λi c=>?_,λx q=>?_⟩
     . grind
     . obtain⟨i,c,rfl⟩:=e3 q;simp_all
   . rintro ⟨h1,d⟩ i c
     refine(key i c).2 ⟨d _ (aZ c bP),?_⟩;by_cases h0:i=0
     . omega
     . right;have:=h1 (i-1) (by omega);have e:i-1+1=i:=(by omega);grind
theorem ab4{t:ai}(ah:v.ag.length=t.af.length)(e:t.af.length<9223372036854775807)(ih:∀x,x∈v.ag->FD ts x)(pl:Bool):
 dk (jP (pl,0,ts,v,t.Kind,t.Name,t.bJ,t.bN,t.Max,t.bj,t.af,t.Key,t.aD,t.Open)>>=λo=>match o with|.inl c=>some c|.inr _=>some true) (iv ts pl t.af v.ag):=by
 let p:Nat->Bool:=λi=>(iB ((⟨ts⟩:aO),(t.af.getD i aw).av,v.ag.getD i ar,pl)).getD false;have b:∀i,i<t.af.length->iB ((⟨ts⟩:aO),(t.af.getD i aw).av,v.ag.getD i ar,pl)=some (p i)/\(p i=true↔bO ts pl (t.af.getD i aw).av (v.ag.getD i ar)):=by
  intro i a;obtain⟨r,h1,d⟩:=ih _ (aZ (by omega:i<v.ag.length) ar) (t.af.getD i aw).av pl;grind
 refine(dk.loop (L:=λi=>jP (pl,(i:Int),ts,v,t.Kind,t.Name,t.bJ,t.bN,t.Max,t.bj,t.af,t.Key,t.aD,t.Open)) (n:=t.af.length) (p:=p) (g:=()) rfl (λi a=>?_) ?_).imp ?_
 . show jP (pl,(i:Int),ts,v,t.Kind,t.Name,t.bJ,t.bN,t.Max,t.bj,t.af,t.Key,t.aD,t.Open)=if p i then jP (pl,((i+1:Nat):Int),ts,v,t.Kind,t.Name,t.bJ,t.bN,t.Max,t.bj,t.af,t.Key,t.aD,t.Open)else _
   rw[jP,bE,ae (aH a),ae (aH (by omega))];simp only[aV,I.aP];rw[(b i a).1,bA (by omega)];cases p i<;>rfl
 . show jP (pl,(t.af.length:Int),ts,v,t.Kind,t.Name,t.bJ,t.bN,t.Max,t.bj,t.af,t.Key,t.aD,t.Open)=_;rw[jP,cr]
 . rw[gV];constructor
   . intro h;exact⟨ah,λi a=>(b i a).2.1 (h i a)⟩
   . rintro ⟨_,h⟩ i a;exact(b i a).2.2 (h i a)
theorem acA(m:v.aB.length<9223372036854775807)(b:∀x,x∈v.aB->bC x):
 dk (iA (1,v)>>=λk=>match k with|.inl l=>some l|.inr _=>some true) (jX v.aB):=by
 by_cases h0:v.aB.length=0
 . rw[iA,al (by simp[h0])];refine⟨true,rfl,?_⟩;unfold jX;simp only[true_iff];intro i a;omega
 refine(dk.loop (L:=λi=>iA (((i+1:Nat):Int),v)) (n:=v.aB.length-1) (p:=λi=>!(decide (0<=hT (v.aB.getD i ar) (v.aB.getD (i+1) ar)))) (g:=()) rfl (λi a=>?_) ?_).imp ?_
 . show iA (((i+1:Nat):Int),v)=if _ then iA (((i+1+1:Nat):Int),v)else _
   have f:di .i64 ((i+1:Nat):Int) 1=(i:Int):=by rw[rI (by omega) (by omega)];simp
   obtain⟨r,c,d⟩:=DF (wW (b _ (aZ (by omega:i<v.aB.length) ar))) (wW (b _ (aZ (by omega:i+1<v.aB.length) ar)));have j:hT (v.aB.getD i ar) (v.aB.getD (i+1) ar)=r:=by unfold hT;rw[c];rfl
   rw[j,iA,bE];simp only[aS,ak];rw[f,ae (aH (by omega)),ae (aH (by omega))];simp only[aV,I.aP];rw[d,bA (by omega)];simp only[ak];cases decide (0<=r)<;>rfl
 . have e:v.aB.length-1+1=v.aB.length:=(by omega);show iA (((v.aB.length-1+1:Nat):Int),v)=_;rw[e,iA,bz]
 . unfold jX;constructor
   . intro h i a;have:=h i (by omega);simpa using this
   . intro h i a;have:=h i (by omega);simpa using this
theorem dO(pl:Bool)(t:Int)(v:I):bO ts pl t v↔
 (0<=t/\t<ts.length/\v.Kind=(ts.getD t.toNat aG).Kind/\(pl=true->v.Rest=[]))/\
 (v.Kind=1/\v.bg=0/\v.bt=[]/\v.ad=0/\v.aB=[]/\v.ag=[]/\v.Rest=[]\/
 v.Kind=2/\v.bS=false/\v.bt=[]/\v.ad=0/\v.aB=[]/\v.ag=[]/\v.Rest=[]/\(ts.getD t.toNat aG).bJ<=v.bg/\v.bg<=(ts.getD t.toNat aG).bN\/
 v.Kind=3/\v.bS=false/\v.bg=0/\v.ad=0/\v.aB=[]/\v.ag=[]/\v.Rest=[]/\(v.bt.length:Int)<=(ts.getD t.toNat aG).Max\/
 v.Kind=4/\v.bS=false/\v.bg=0/\v.bt=[]/\v.aB=[]/\v.ag=[]/\v.Rest=[]/\((∃y,y∈(ts.getD t.toNat aG).bj/\y.ad=v.ad)\/(ts.getD t.toNat aG).Open=true/\pl=false/\cv v.ad)\/
 v.Kind=5/\v.bS=false/\v.bg=0/\v.bt=[]/\v.ad=0/\v.aB=[]/\j0 (ts.getD t.toNat aG).af v.Rest/\iv ts pl (ts.getD t.toNat aG).af v.ag\/
 v.Kind=6/\v.bS=false/\v.bg=0/\v.bt=[]/\v.aB=[]/\(match cw (ts.getD t.toNat aG).af v.ad with
  |some m=>v.Rest=[]/\v.ag.length=1/\e0 ts pl m.av v.ag
  |none=>(ts.getD t.toNat aG).Open=true/\pl=false/\cv v.ad/\v.ag=[]/\∃d,v.Rest=[⟨v.ad,d⟩])\/
 v.Kind=7/\v.bS=false/\v.bg=0/\v.bt=[]/\v.ad=0/\v.aB=[]/\v.Rest=[]/\(v.ag.length:Int)<=(ts.getD t.toNat aG).Max/\e0 ts pl (ts.getD t.toNat aG).aD v.ag\/
 v.Kind=8/\v.bS=false/\v.bg=0/\v.bt=[]/\v.ad=0/\v.Rest=[]/\(v.aB.length:Int)<=(ts.getD t.toNat aG).Max/\v.ag.length=v.aB.length/\e0 ts pl (ts.getD t.toNat aG).Key v.aB/\e0 ts pl (ts.getD t.toNat aG).aD v.ag/\jX v.aB\/
 v.Kind=9/\v.bS=false/\v.bg=0/\v.bt=[]/\v.ad=0/\v.aB=[]/\v.Rest=[]/\v.ag.length<=1/\e0 ts pl (ts.getD t.toNat aG).aD v.ag):=by
 cases v;rw[bO];try exact Iff.rfl
end
def lY(v:I):Prop:=(v.Kind=1\/v.bS=false)/\(v.Kind=2\/v.bg=0)/\(v.Kind=3\/v.bt=[])/\((v.Kind=4\/v.Kind=6)\/v.ad=0)/\(v.Kind=8\/v.aB=[])/\(5<=v.Kind\/v.ag=[])/\((v.Kind=5\/v.Kind=6)\/v.Rest=[])
theorem ab8(v:I):dk (tz v) (lY v):=by
 rw[tz];refine .of ?_;unfold lY;have e:∀{α:Type} (l:List α),((l.length:Int)=0)↔l=[]:=λl=>by simp_all
 grind
theorem agE{z b:Bool}{c:Prop}(d:z=true↔c)(a:b=false↔Q)(e:dk o P):dk (if(bif (bif false then true else(!z))then true else b)then some false else o) (c/\Q/\P):=by
 obtain⟨r,rfl,h⟩:=e;cases z with
 |false=>
  refine⟨false,rfl,?_⟩;grind
 |true=>
  cases b with
  |true=>refine⟨false,rfl,?_⟩;simp at a;simp[a]
  |false=>refine⟨r,rfl,?_⟩;simp at d a;simp[d,a,h]
theorem vk{q:Bool}(c:q=true↔Q)(a:dk o P):dk (some q>>=λt244=>(if t244 then o else some false)>>=λb=>some (bif t244 then b else false)) (Q/\P):=by
 obtain⟨r,rfl,h⟩:=a;refine⟨q&&r,by cases q<;>cases r<;>rfl,?_⟩;grind
theorem agl{A:Bool}{f L:Option Bool}{c e d:Prop}(a:A=true↔c)(j:dk f e)(g:A=true->dk L d):
 dk (some (!A)>>=λt107=>(if !t107 then f else some false)>>=λk=>if(bif t107 then true else(!k)) then some false else L) (c/\e/\d):=by
 obtain⟨q,rfl,b⟩:=j;cases A with
 |false=>refine⟨false,rfl,?_⟩;simp at a;simp[a]
 |true=>
  obtain⟨m,rfl,i⟩:=g rfl;cases q with
  |false=>refine⟨false,rfl,?_⟩;simp at b;simp[b]
  |true=>refine⟨m,rfl,?_⟩;simp at a b;simp[a,b,i]
theorem agm{c:Bool}{j g L:Option Bool}{d e o8 f:Prop}(m:c=false↔d)(b:dk j e)(a:dk g o8)(l:dk L f):
 dk (some c>>=λt239=>(if !t239 then j else some false)>>=λo=>some (bif t239 then true else(!o))>>=λt249=>(if !t249 then g else some false)>>=λp=>if(bif t249 then true else(!p)) then some false else L) (d/\e/\o8/\f):=by
 obtain⟨k,rfl,b⟩:=b;obtain⟨i,rfl,a⟩:=a;obtain⟨q,rfl,n⟩:=l;rw[<-m,<-b,<-a,<-n];cases c<;>cases k<;>cases i<;>exact⟨_,rfl,by simp⟩
theorem EL{l:List c1}{r:Int×Bool}(h:wH l id r):r.2=true↔∃y,y∈l/\y.ad=id:=by
 rcases h with⟨j,h1,b,c,rfl⟩|⟨h1,rfl⟩
 . grind
 . constructor
   . grind
   . rintro ⟨y,a,he⟩
     obtain⟨i,d,rfl⟩:=e3 a;grind
section
variable {ts:List ai}(aJ:ts.length<9223372036854775807)(cS:∀t,t∈ts->eW t)(bD:∀t,t∈ts->oy t.Kind)
include aJ cS bD in
theorem uI(aB:bC v):FD ts v:=by
 induction aB with
 |mk v hs h1 aa ab ax aI aJ cZ aK aL aM aD X=>
  intro t pl;rw[iB];by_cases ag:(bif decide (t<0)then true else decide (((⟨ts⟩:aO).Types.length:Int)<=t))=true
  . rw[ae ag];refine⟨false,rfl,?_⟩;rw[dO];grind
  . rw[al ag];have au:0<=t/\t<ts.length:=(by grind);obtain⟨j,rfl⟩:∃j:Nat,t=(j:Int):=⟨t.toNat,by omega⟩
    have T:j<ts.length:=(by omega);rw[ae (aH T)];simp only[dO,aV,I.aP];have V:=cS _ (aZ T aG);have U:=bD _ (aZ T aG);generalize ts.getD j aG=x at V U⊢;have F:=dx (ig V.ha);have ah:=dx (ig V.syms);by_cases D:v.Kind=x.Kind
    . obtain⟨z,z1,z2⟩:=ab8 v;have Q:=Ov (ts:=ts) aa X;have az:=Ov (ts:=ts) h1 aD;show dk ((if !(!(v.Kind=x.Kind:Bool)) then tz v else some false)>>=_) _;rw[ae (by simp[D]),z1];obtain⟨K,N,L,H,M,S,l,w,E,n⟩:=x;obtain⟨p,B,cu,C,ad,s,i,R⟩:=v;simp only at D;subst D;simp only at U F ah h1 aa ab z1;have J:(bif pl then decide (0<(R.length:Int))else false)=false↔(pl=true->R=[]):=(by simp_all);have ap:p=1\/p=2\/p=3\/p=4\/p=5\/p=6\/p=7\/p=8\/p=9:=by unfold oy at U;omega
      have cut:∀ {o:Option Bool} {P W:Prop},dk o P->((lY ⟨p,B,cu,C,ad,s,i,R⟩/\(pl = true->R = [])/\P) ↔ W)->
       dk (some z>>=λr=>if(bif (bif false then true else(!r))then true else bif pl then (0<(R.length:Int):Bool)else false) then some false else o) W:=λaA aC=>(agE z2 J aA).imp aC
      have u:(0:Int)<=j/\(j:Int)<ts.length:=au;rcases ap with rfl|rfl|rfl|rfl|rfl|rfl|rfl|rfl|rfl
      . exact cut (P:=True) (.of (b:=true) (by simp)) (by unfold lY;simp[u];grind)
      . exact cut (P:=L<=cu/\cu<=H) (.of (b:=bif decide (L<=cu)then decide (cu<=H)else false) (by by_cases g:L<=cu<;>simp[g])) (by unfold lY;simp[u];grind)
      . exact cut (P:=(C.length:Int)<=M) (.of (b:=decide ((C.length:Int)<=M)) (by simp)) (by unfold lY;simp[u];grind)
      . obtain⟨r,_,Y,O⟩:=p0 (t:=⟨4,N,L,H,M,S,l,w,E,n⟩) ad ah;have af:jr (ad,false)=some (bif decide (1<=ad)then decide (ad<=1000)else false):=(by rfl);have ak:=Gd Y n pl _ (λb=>jr (ad,b)) af;have hs:=EL O;simp only at hs;refine cut (P:=(∃y,y∈S/\y.ad=ad)\/n=true/\pl=false/\cv ad) ⟨_,ak,?_⟩ (by unfold lY;simp[u];grind);rw[<-hs];unfold cv;grind
      . refine cut (P:=i.length=l.length/\j0 l R/\iv ts pl l i) ?_ (by
         have:iv ts pl l i->i.length=l.length:=λh=>(gV.1 h).1
         unfold lY;simp[u];grind)
        exact agl (A:=decide ((i.length:Int)=(l.length:Int))) (by simp;omega) (acz (t:=⟨5,N,L,H,M,S,l,w,E,n⟩) F ab) (λam=>ab4 (ts:=ts) (t:=⟨5,N,L,H,M,S,l,w,E,n⟩) (v:=⟨5,B,cu,C,ad,s,i,R⟩) (Mw am) F X pl)
      . obtain⟨r,_,Y,O⟩:=ma (t:=⟨6,N,L,H,M,S,l,w,E,n⟩) ad F;have af:∀b,b=false->jr (ad,b)=some (bif decide (1<=ad)then decide (ad<=1000)else false):=by
         intro b J;subst J;rfl
        have an:decide ((R.length:Int)=1)=true->ay 0 R.length=true:=by
         intro h;have:=gP h;exact aH (k:=0) (by omega)
        refine cut (P:=match cw l ad with
         |some m=>R=[]/\i.length=1/\e0 ts pl m.av i
         |none=>n=true/\pl=false/\cv ad/\i=[]/\∃d,R=[⟨ad,d⟩]) ?_ (by
          unfold lY;simp[u]
          grind)
        obtain⟨aN,ky⟩:=r;show dk (fw (⟨6,N,L,H,M,S,l,w,E,n⟩,ad)>>=_) _;rw[Y];rcases uv O with⟨e,k,k1,k2,k3,k4⟩|⟨e,k3⟩
        . simp only at e k1 k2 k3 k4;subst e;subst k2;rw[k3];have ao:∃f:Bool,((bif decide ((i.length:Int)=1)then decide ((R.length:Int)=0)else false)=true->iB ((⟨ts⟩:aO),(l.getD (k:Int).toNat aw).av,i.getD (0:Int).toNat ar,pl)=some f)/\(i.length=1->(f=true↔e0 ts pl (l.getD k aw).av i)):=by
           by_cases G:i.length=1
           . obtain⟨f,f1,f2⟩:=X (i.getD 0 ar) (aZ (by omega:0<i.length) ar) (l.getD k aw).av pl;refine⟨f,λ_=>f1,λ_=>?_⟩;rw[f2]
             match i,G with
             |[y],_=>rw[cD];simp
           . refine⟨false,λh=>?_,λh=>absurd h G⟩;grind
          obtain⟨f,f1,f2⟩:=ao;have aq:(bif decide ((i.length:Int)=1)then decide ((R.length:Int)=0)else false)=true->ay (k:Int) l.length=true/\ay 0 i.length=true:=by
           intro aF;refine⟨aH k1,?_⟩;by_cases G:i.length=1
           . exact aH (k:=0) (by omega)
           grind
          refine⟨_,Ge _ (ay (k:Int) l.length) (ay 0 i.length) f f1 aq,?_⟩;by_cases Z:i.length=1
          . simp_all
          grind
        . simp only at e k3;subst e;rw[k3];refine⟨_,Gf (bif n then(!pl)else false) (bif decide (1<=ad)then decide (ad<=1000)else false) (decide ((i.length:Int)=0)) (decide ((R.length:Int)=1)) (ay 0 R.length) (decide ((R.getD (0:Int).toNat bP).ad=ad)) an,?_⟩;unfold cv
          match R with
          |[]=>simp
          |[⟨aE,rd⟩]=>cases n<;>cases pl<;>by_cases Z:1<=ad<;>by_cases ai:ad<=1000<;>cases i<;>by_cases aj:aE=ad<;>simp[Z,ai,aj]<;>omega
          |a::b::c=>simp;omega
      . exact cut (P:=(i.length:Int)<=M/\e0 ts pl E i) (vk (by simp) (Q E pl)) (by unfold lY;simp[u];grind)
      . refine cut (P:=((s.length:Int)<=M/\i.length=s.length)/\e0 ts pl w s/\e0 ts pl E i/\jX s) ?_ (by unfold lY;simp[u];grind);refine agm (c:=bif decide (M<(s.length:Int))then true else(!(decide ((i.length:Int)=(s.length:Int))))) ?_ (az w pl) (Q E pl) (acA (v:=⟨8,B,cu,C,ad,s,i,R⟩) (dx h1) ax);grind
      . exact cut (P:=i.length<=1/\e0 ts pl E i) (vk (q:=decide ((i.length:Int)<=1)) (by simp;omega) (Q E pl)) (by unfold lY;simp[u];grind)
    . refine⟨false,by simp[D],?_⟩;grind
end
theorem ai8{n:Nat}(h:n<=70368744177664):room 1 n=true:=by
 unfold room hF dT;grind
theorem Su{n:Nat}(h:n<=2199023255552:=by simp;omega):room 24 n=true:=by
 unfold room hF dT;grind
theorem bws{s b:aj}(h:b.length+s.length<=70368744177664:=by omega):sY (s,b)=some ((s.length:Int),b++s):=by
 rw[sY];simp only[aS,ak];rw[hQ,ae (ai8 h)];rfl
theorem FM(b:aj):zn b=some b:=by rw[zn,ae (by simp[hL])]
theorem AD(a b:Nat):iI (a:Int) (b:Int)=((max a b:Nat):Int):=by unfold iI;omega
theorem eD{l:List α}{i:Nat}(h:i<l.length)(d:α):l.drop i=l.getD i d::l.drop (i+1):=by simp_all
def jw(f:Fd):gu:=⟨(f.id:Int),f.text⟩
theorem ab5{m:aR}(a:bC m.bm)(v:I):D0 (m,v)=some (dh m v):=by
 rw[D0];unfold dh;cases c:m.bu with
 |false=>simp
 |true=>
  obtain⟨r,h1,b⟩:=MR a v;simp only[I.aP];grind
theorem Qm{m:aR}(a:bC v)(c:m.bu=true):jN (v,m.bm)=some (dh m v):=by
 obtain⟨r,h1,b⟩:=Fh a m.bm;rw[h1];unfold dh;grind
section
variable {ts:List ai}
def qQ(ts:List ai)(x:I)(t:Int):Prop:=∀L D:Nat,1<=L->L+wt x<=1125899906842624->kg (t,x,(L:Int),ts,(D:Int))=some (bp ts t x,ts,((max D (L+ew ts t x-1):Nat):Int))
theorem OS:∀{ms:List aR} {l:List I},(dv ts ms l).length<=ms.length
 |[],l=>by
  rw[dv]
  . simp
  grind
 |m::ms,[]=>by
  rw[dv]
  . simp
  grind
 |m::ms,v::l=>by
  rw[dv];have:=OS (ms:=ms) (l:=l);grind
theorem tW(t:Int)(v:I):1<=ew ts t v:=by
 cases v;rw[ew];omega
theorem RN{a:List aR}(q:a.length<=1000)(d:∀m,m∈a->bC m.bm)(e:∀m,m∈a->cv m.ad)(ah:v.ag.length=a.length)(f:∀x,x∈v.ag->∀t,(bp ts t x).length<=70368744177664)
 (j:∀i,i<a.length->dh (a.getD i aw) (v.ag.getD i ar)=false->qQ ts (v.ag.getD i ar) (a.getD i aw).av)(L:Nat)(o:1<=L)(p:L+cx v.ag<1125899906842624):
 ∀(k i:Nat) (D:Nat) (acc:List gu),i+k=a.length->L<=D->acc.length+k<=100000->
 q6 ((L:Int),a,(a.length:Int),(i:Int),ts,(D:Int),v,acc)=some (ts,((max D (L+hf ts (a.drop i) (v.ag.drop i)):Nat):Int),v,acc++(dv ts (a.drop i) (v.ag.drop i)).map jw)
 |0,i,D,acc,s,l,r=>by
  rw[q6,cr,I.aP,ei (by omega:a.length<=i)];rw[hf,dv]
  . simp;omega
  . grind
  grind
 |k+1,i,D,acc,s,l,r=>by
  have aC:i<a.length:=by omega
  have b:i<v.ag.length:=by omega
  rw[q6,bE,ae (aH aC)];simp only[aS,ak,aV,I.aP,gw];rw[ae (aH b),ab5 (d _ (aZ aC aw))];rw[eD aC aw,eD b ar,hf,dv];have w:=RN q d e ah f j L o p k (i+1);cases u:dh (a.getD i aw) (v.ag.getD i ar)with
  |true=>
   simp only[ak,de,bW,b6,bM];rw[bA (by omega)];grind
  |false=>
   have g:v.ag.getD i ar∈v.ag:=aZ b ar;have A:=e2 g;have ds:=j i aC u (L+1) D (by omega) (by omega);have y:=tW (ts:=ts) (a.getD i aw).av (v.ag.getD i ar);have c:=e _ (aZ aC aw);obtain⟨n,aJ⟩:∃n:Nat,(a.getD i aw).ad=(n:Int):=⟨(a.getD i aw).ad.toNat,by unfold cv at c;omega⟩
   simp only[ak,en,bM,bW,b6];have z:=f _ g (a.getD i aw).av;have aM:aK .i64 (L:Int) 1=((L+1:Nat):Int):=bA (by omega);rw[ae (aH b),aM,ds];simp only[ak];rw[aJ,JB (by unfold cv at c;omega)];simp only[ak];rw[ae (Su),bA (by omega),w _ _ (by omega) (by omega) (by simp;omega)];have:(⟨(n:Int),fr n (a.getD i aw).b8 (bp ts (a.getD i aw).av (v.ag.getD i ar))⟩:gu)=jw ⟨(n:Int).toNat,(a.getD i aw).b8,bp ts (a.getD i aw).av (v.ag.getD i ar)⟩:=(by rfl);simp_all
theorem RO{R:List bQ}(b:∀x,x∈R->cv x.ad/\x.Data.length<=reachBytes)(dm:R.length<=2199023255552)(D:Int):∀(k i:Nat) (acc:List gu),i+k=R.length->acc.length+k<=2199023255552->
 q5 (R,(R.length:Int),(i:Int),ts,D,acc)=some (ts,D,acc++((R.drop i).map kx).map jw)
 |0,i,acc,e,c=>by
  rw[q5,cr,ei (by omega:R.length<=i)];simp
 |k+1,i,acc,e,c=>by
  have aC:i<R.length:=by omega
  obtain⟨a,d⟩:=b _ (aZ aC bP);obtain⟨n,aJ⟩:∃n:Nat,(R.getD i bP).ad=(n:Int):=⟨(R.getD i bP).ad.toNat,by unfold cv at a;omega⟩
  unfold reachBytes at d;rw[q5,bE,ae (aH aC)];simp only[aS,ak,aV];rw[aJ,JB (by unfold cv at a;omega)];simp only[ak];rw[ae (Su),bA (by omega),RO b dm D k (i+1) _ (by omega) (by simp;omega),eD aC bP];have:(⟨(n:Int),fr n false (R.getD i bP).Data⟩:gu)=jw (kx (R.getD i bP)):=by
   show _=(⟨(((R.getD i bP).ad.toNat:Nat):Int),fr (R.getD i bP).ad.toNat false (R.getD i bP).Data⟩:gu);grind
  grind
theorem RP{l:List Fd}(D:Int):∀(k i:Nat) (b:aj),i+k=l.length->l.length<=2199023255552->b.length+((l.drop i).flatMap Fd.text).length<=70368744177664->
 tH ((l.length:Int),(i:Int),ts,D,l.map jw,b)=some (ts,D,b++(l.drop i).flatMap Fd.text)
 |0,i,b,c,_,a=>by
  rw[tH,cr,ei (by omega:l.length<=i)];simp
 |k+1,i,b,c,ah,a=>by
  have aC:i<l.length:=by omega
  rw[tH,bE,ae (aH (by simp;omega)),bE];rw[eD aC default]at a⊢;simp only[gQ,cc]at a⊢;have aq:(l.map jw).getD i v'=jw (l.getD i default):=iE jw l i default v' aC;simp only[aV,aq];have:(jw (l.getD i default)).text=(l.getD i default).text:=rfl;rw[this,bws];simp only[aS,ak];rw[bA (by omega),RP D k (i+1) _ (by omega) ah (by rw[cc];omega)];simp
end
structure hj (ts:List ai):Prop where
 n:ts.length<=1000
 T:∀t,t∈ts->eW t
 K:∀t,t∈ts->oy t.Kind
 M:Sx ts
 A:∀x,x∈ts->(x.Kind=5\/x.Kind=6)->fV x.af/\x.af.length<=16
 S:∀x,x∈ts->x.Kind=4->∀y,y∈x.bj->cv y.ad
 o6:∀x,x∈ts->x.Kind=8->1<=(ts.getD x.Key.toNat aG).Kind/\(ts.getD x.Key.toNat aG).Kind<=4
section
variable {ts:List ai}
theorem BA{t:Int}{v:I}(h:(ts.getD t.toNat aG).Kind=1):bp ts t v=if v.bS then[1]else[]:=by cases v;rw[bp];simp only[h];rfl
theorem BB{t:Int}{v:I}(h:(ts.getD t.toNat aG).Kind=2):bp ts t v=gR (gF v.bg).toNat:=by cases v;rw[bp];simp only[h];rfl
theorem BC{t:Int}{v:I}(h:(ts.getD t.toNat aG).Kind=3):bp ts t v=v.bt:=by cases v;rw[bp];simp only[h];rfl
theorem BD{t:Int}{v:I}(h:(ts.getD t.toNat aG).Kind=4):bp ts t v=gR v.ad.toNat:=by cases v;rw[bp];simp only[h];rfl
theorem u3{t:Int}{v:I}(h:(ts.getD t.toNat aG).Kind=5):bp ts t v=(fO eQ (e9 ts (ts.getD t.toNat aG).af v.ag v.Rest)).flatMap Fd.text:=by cases v;rw[bp];simp only[h];rfl
theorem sn{t:Int}{v:I}(h:(ts.getD t.toNat aG).Kind=6):bp ts t v=ey v.ad.toNat++(match cw (ts.getD t.toNat aG).af v.ad with
 |some m=>(bF ts m.av v.ag).headD []
 |none=>(v.Rest.map bQ.Data).headD []):=by
 cases v;rw[bp];simp only[h];rfl
theorem sq{t:Int}{v:I}(h:(ts.getD t.toNat aG).Kind=7):bp ts t v=(bF ts (ts.getD t.toNat aG).aD v.ag).flatMap dg:=by cases v;rw[bp];simp only[h];rfl
theorem sr{t:Int}{v:I}(h:(ts.getD t.toNat aG).Kind=8):bp ts t v=gA (bF ts (ts.getD t.toNat aG).Key v.aB) (bF ts (ts.getD t.toNat aG).aD v.ag):=by cases v;rw[bp];simp only[h];rfl
theorem su{t:Int}{v:I}(h:(ts.getD t.toNat aG).Kind=9):bp ts t v=match bF ts (ts.getD t.toNat aG).aD v.ag with
 |[]=>[]
 |p::_=>1::p:=by
 cases v;rw[bp];simp only[h];rfl
theorem AE(t:Int)(v:I):ew ts t v=1+max (if v.aB=[]then 0 else 1) (if(ts.getD t.toNat aG).Kind=5 then hf ts (ts.getD t.toNat aG).af v.ag
 else if(ts.getD t.toNat aG).Kind=6 then(match cw (ts.getD t.toNat aG).af v.ad with
  |some m=>e1 ts m.av v.ag
  |none=>0)
 else e1 ts (ts.getD t.toNat aG).aD v.ag):=by
 cases v;rw[ew];try rfl
theorem Ed(c:v.aB=[])(b:v.ag=[]):ew ts t v=1:=by
 rw[AE,c,b];have h1:e1 ts (ts.getD t.toNat aG).aD []=0:=by rw[e1]
 have a:hf ts (ts.getD t.toNat aG).af []=0:=by rw[hf];intros;simp_all
 rw[h1,a]
 have d:(match cw (ts.getD t.toNat aG).af v.ad with
  |some m=>e1 ts m.av []
  |none=>0)=0:=by
  split
  . rw[e1]
  . rfl
 grind
theorem OT(b:¬x.Kind=8)(d:∀y,y∈v.ag->(bp ts x.aD y).length<=1000000000000000)(e:∀y,y∈v.ag->qQ ts y x.aD)(ah:v.ag.length<=reachBytes)(L:Nat)(g:1<=L)(j:L+cx v.ag<1125899906842624):
 ∀(k i D:Nat) (acc:aj),i+k=v.ag.length->L<=D->acc.length+((bF ts x.aD (v.ag.drop i)).flatMap dg).length<=70368744177664->
 mh ((L:Int),v.ag,(v.ag.length:Int),(i:Int),ts,(D:Int),v,x,acc)=some (ts,((max D (L+e1 ts x.aD (v.ag.drop i)):Nat):Int),acc++(bF ts x.aD (v.ag.drop i)).flatMap dg)
 |0,i,D,acc,l,f,c=>by
  rw[mh,cr,ei (by omega:v.ag.length<=i),e1,bF];simp;omega
 |k+1,i,D,acc,l,f,c=>by
  have aC:i<v.ag.length:=by omega
  have o:=dx ah;have a:v.ag.getD i ar∈v.ag:=aZ aC ar;have p:=e2 a;rw[eD aC ar,bF,gQ,cc]at c;have n:=d _ a;have ds:=e _ a (L+1) D (by omega) (by omega);have m:=tW (ts:=ts) x.aD (v.ag.getD i ar);have aM:aK .i64 (L:Int) 1=((L+1:Nat):Int):=bA (by omega);rw[mh,bE,ae (aH aC)];simp only[aS,ak,aV,I.aP];rw[al (by simp[b]),aM,ds];simp only[ak];rw[Eu];simp only[ak];rw[bws];simp only[ak];rw[bA (by omega),OT b d e ah L g j k (i+1) _ _ (by omega) (by omega) (by rw[cc];omega),eD aC ar,e1,bF,gQ,gg];grind
theorem PH(d:x.Kind=8)(r:v.ag.length=v.aB.length)(g:∀y,y∈v.ag->(bp ts x.aD y).length<=1000000000000000)(j:∀y,y∈v.aB->(bp ts x.Key y).length<=1000000000000000)
 (l:∀y,y∈v.ag->qQ ts y x.aD)(m:∀y,y∈v.aB->qQ ts y x.Key)(h1:∀y,y∈v.aB->ew ts x.Key y=1)(ah:v.ag.length<=reachBytes)(L:Nat)(o:1<=L)(p:L+cx v.ag+cx v.aB<1125899906842624):
 ∀(k i D:Nat) (acc:aj),i+k=v.ag.length->L<=D->acc.length+(gA (bF ts x.Key (v.aB.drop i)) (bF ts x.aD (v.ag.drop i))).length<=70368744177664->
 mh ((L:Int),v.ag,(v.ag.length:Int),(i:Int),ts,(D:Int),v,x,acc)=some (ts,((max D (L+max (if v.aB.drop i=[]then 0 else 1) (e1 ts x.aD (v.ag.drop i))):Nat):Int),acc++gA (bF ts x.Key (v.aB.drop i)) (bF ts x.aD (v.ag.drop i)))
 |0,i,D,acc,q,n,f=>by
  rw[mh,cr,ei (by omega:v.ag.length<=i),ei (by omega:v.aB.length<=i),e1,bF,bF,gA]
  . simp;omega
  grind
 |k+1,i,D,acc,q,n,f=>by
  have aC:i<v.ag.length:=by omega
  have a:i<v.aB.length:=by omega
  have w:=dx ah;have c:v.ag.getD i ar∈v.ag:=aZ aC ar;have b:v.aB.getD i ar∈v.aB:=aZ a ar;have z:=e2 c;have A:=e2 b;rw[eD aC ar,eD a ar,bF,bF,gA,cc,cc]at f;have t:=g _ c;have u:=j _ b;have e:=m _ b (L+1) D (by omega) (by omega);rw[h1 _ b]at e;have ds:=l _ c (L+1) (max D (L+1+1-1)) (by omega) (by omega);have s:=tW (ts:=ts) x.aD (v.ag.getD i ar);have aM:aK .i64 (L:Int) 1=((L+1:Nat):Int):=bA (by omega);rw[mh,bE,ae (aH aC)];simp only[aS,ak,aV,I.aP];rw[ae (by simp[d]),ae (aH a),aM,e];simp only[ak];rw[Eu];simp only[ak];rw[bws];simp only[ak];rw[ds];simp only[ak];rw[Eu];simp only[ak];rw[bws (by rw[cc];omega)];simp only[ak];rw[bA (by omega),PH d r g j l m h1 ah L o p k (i+1) _ _ (by omega) (by omega) (by rw[cc,cc];omega),eD aC ar,eD a ar,e1,bF,bF,gA,gg,gg];grind
end
section
variable {ts:List ai}(H:hj ts)
theorem wX(H:hj ts)(a:bC v)(b:wt v<=1099511627776)(t:Int):(bp ts t v).length<=23089744183296:=by
 have:=aeq H.M a b t;omega
theorem ab9{l:List I}{r:List bQ}(h:fV ms)(d:j0 ms r):H4 ((e9 ts ms l r).map jw)=some ((fO eQ (e9 ts ms l r)).map jw):=by
 have e:∀a b,lP (jw a) (jw b)=eQ a b:=λa b=>by unfold lP eQ jw;simp
 have f:SWO lP:=by refine⟨λx=>?_,λx y z h1 c=>?_,λx y z h1 c=>?_⟩<;>simp[lP]at*<;>omega
 have g:kq lP ((e9 ts ms l r).map jw)=true:=by
  have h0:=um (ts:=ts) (l:=l) h d;generalize e9 ts ms l r=q at h0;induction q with
  |nil=>rfl
  |cons a q ih=>
   grind[kq]
 grind[H4,QO,Oq]
theorem CC{D L b:Nat}(h:w=1+b):max (max D L) (L+b)=max D (L+w-1):=by omega
theorem aiL{D L b:Nat}(h:w=1+b):max (max D L) (L+1+b-1)=max D (L+w-1):=by omega
theorem UF{b:Nat}(h:w=1+max 0 b):w=1+b:=by omega
theorem afn(n:∀m,m∈x.af->bC m.bm)(e:fV x.af)(M:x.af.length<=16)(c:j0 x.af v.Rest)(p:v.ag.length=x.af.length)
 (u:∀y,y∈v.Rest->y.Data.length<=reachBytes)(J:∀x,x∈v.ag->∀t,(bp ts t x).length<=23089744183296)
 (k:∀i,i<x.af.length->qQ ts (v.ag.getD i ar) (x.af.getD i aw).av)
 (K:((fO eQ (e9 ts x.af v.ag v.Rest)).flatMap Fd.text).length<=23089744183296)
 (L D:Nat)(g:1<=L)(E:L<=D)(F:L+cx v.ag<1125899906842624)(H:(v.Rest.map λx=>x.Data.length+1).sum<=1099511627776):
 Dg (x,v,(L:Int),ts,(D:Int))=some ((fO eQ (e9 ts x.af v.ag v.Rest)).flatMap Fd.text,ts,((max D (L+hf ts x.af v.ag):Nat):Int)):=by
 have s:=e.2;have j:∀y,y∈v.Rest->cv y.ad/\y.Data.length<=reachBytes:=λy b=>⟨(c.2 y b).1,u y b⟩
 have G:v.Rest.length<=(v.Rest.map λx=>x.Data.length+1).sum:=by
  generalize v.Rest=R;induction R with
  |nil=>simp
  |cons a R ih=>grind
 have N:=OS (ts:=ts) (ms:=x.af) (l:=v.ag);have w:=RN (by omega) n s p (λy b t=>by grind) (λi o _=>k i o) L g (by omega) x.af.length 0 D [] (by simp) (by omega) (by grind);have A:q6 ((L:Int),x.af,x.af.length,0,ts,D,v,[])=_:=w;rw[Dg];simp only[I.aP];rw[A];simp only[aS,ak,fc,fH];generalize ((max D (L+hf ts x.af v.ag):Nat):Int)=d;have B:=RO (ts:=ts) j (by omega) d v.Rest.length 0 ((dv ts x.af v.ag).map jw) (by simp) (by grind);have C:q5 (v.Rest,(v.Rest.length:Int),0,ts,d,(dv ts x.af v.ag).map jw)=_:=B;rw[C];simp only[ak,fc];rw[<-qC];have hs:=ab9 (ts:=ts) (l:=v.ag) e c;have cQ:dv ts x.af v.ag++v.Rest.map kx=e9 ts x.af v.ag v.Rest:=rfl;rw[cQ];generalize e9 ts x.af v.ag v.Rest=q at*;rw[hs];simp only[ak];have f:=kM eQ q;rw[ae (by simp[f.length_eq])];have r:(fO eQ q).length<=2199023255552:=by rw[f.length_eq];grind
 generalize fO eQ q=z at*;have O:=RP (ts:=ts) (l:=z) d z.length 0 [] (gC _) r (by grind);simp_all[FM]
theorem ab'(u:x.af.length<9223372036854775807)(w:fV x.af)(J: -9223372036854775808<=v.ad/\v.ad<=9223372036854775807)
 (b:match cw x.af v.ad with
  |some m=>v.Rest=[]/\v.ag.length=1/\e0 ts false m.av v.ag
  |none=>x.Open=true/\True/\cv v.ad/\v.ag=[]/\∃d,v.Rest=[⟨v.ad,d⟩])
 (A:∀y,y∈v.Rest->y.Data.length<=reachBytes)(s:∀x,x∈v.ag->∀t,(bp ts t x).length<=23089744183296)
 (p:∀x,x∈v.ag->∀t,bO ts false t x->qQ ts x t)
 (L D:Nat)(E:1<=L)(C:L<=D)(F:L+cx v.ag<1125899906842624):
 yZ (x,v,(L:Int),ts,(D:Int)) = some (ey v.ad.toNat++(match cw x.af v.ad with
  |some m=>(bF ts m.av v.ag).headD []
  |none=>(v.Rest.map bQ.Data).headD []),ts,((max D (L+(match cw x.af v.ad with
  |some m=>e1 ts m.av v.ag
  |none=>0)):Nat):Int)):=by
 obtain⟨r,l,_,f⟩:=ma (t:=x) v.ad u;rcases uv f with⟨e,q,j,B,a,K⟩|⟨e,a⟩
 . rw[a]at b;rw[a];obtain⟨d1,d2,d3⟩:=b;have o:=w.2 _ (aZ j aw);obtain⟨n,aJ⟩:∃n:Nat,v.ad=(n:Int):=⟨v.ad.toNat,by grind[cv]⟩
   rw[yZ];simp only[I.aP];rw[l,aJ,hz (by grind),ug (by grind)];simp only[aS,ak];rw[al (by grind),B,ae (aH j)]
   match o:v.ag,d2 with
   |[y],_=>
    have c:y∈v.ag:=(by grind);have i:ay 0 [y].length=true:=aH (k:=0) (by simp);have H:=e2 c;have f:=cD.1 d3 y c;have ds:=p y c _ f (L+1) D (by simp) (by omega);have aM:aK .i64 (L:Int) 1=((L+1:Nat):Int):=bA (by omega);rw[ae i,aM];simp only[aV,uU,mw];rw[ds];have G:=s y c (x.af.getD q aw).av;have z:=ko (n:=n) (by grind);simp only[ak];rw[ae (ga)];grind[tW,e1,bF]
 . rw[a]at b;rw[a];obtain⟨d1,d2,d3,d4,d,d5⟩:=b;obtain⟨n,aJ⟩:∃n:Nat,v.ad=(n:Int):=⟨v.ad.toNat,by grind[cv]⟩
   have g:=A ⟨v.ad,d⟩ (by grind);simp only at g;unfold reachBytes at g;have z:=ko (n:=n) (by grind);rw[yZ];rw[l,d5,aJ,hz (by grind),ug (by grind)];simp only[aS,ak];have i:ay 0 ([⟨(n:Int),d⟩]:List bQ).length=true:=aH (k:=0) (by simp);simp only[uU,mw];rw[ae (ga)];grind
set_option maxHeartbeats 400000 in
theorem afo(H:hj ts)(aU:bC v):wt v<=1099511627776->∀t,bO ts false t v->qQ ts v t:=by
 induction aU with
 |mk v hs h1 O aE ai M U cZ Y ax a1 a0 aY=>
  intro aX t r L D K a5;have aL:bC v:= .mk v hs h1 O aE ai M U cZ Y ax a1;have a9:=eV v;have G:=λx o t=>wX H (M x o) (by have:=e2 o;omega) t;have aT:∀x,x∈v.aB->∀t,(bp ts t x).length<=23089744183296:=λx o t=>wX H (ai x o) (by have:=e2 o;omega) t;have F:∀x,x∈v.ag->∀t,bO ts false t x->qQ ts x t:=λx o t=>aY x o (by have:=e2 o;omega) t;have aN:=λx o t=>a0 x o (by have:=e2 o;omega) t;have Q:=wX H aL aX t;obtain⟨⟨a3,a4,q,_⟩,r⟩:=(dO _ _ _).1 r;obtain⟨j,rfl⟩:∃j:Nat,t=(j:Int):=⟨t.toNat,by omega⟩
  have ab:j<ts.length:=by omega
  rw[kg];simp only[aS,ak];rw[ae (aH ab),AD];simp only[aV,I.aP]at r q⊢;have J:=aZ ab aG;have C:=AE (ts:=ts) (j:Int) v;have aW:=@BA ts (j:Int) v;have an:=@BB ts (j:Int) v;have ao:=@BC ts (j:Int) v;have ap:=@BD ts (j:Int) v;have V:=@u3 ts (j:Int) v;have aq:=@sn ts (j:Int) v;have W:=@sq ts (j:Int) v;have X:=@sr ts (j:Int) v;have au:=@su ts (j:Int) v;simp only[aV]at C aW an ao ap V aq W X au;have Z:=H.A _ J;have aF:=H.o6 _ J;have aI:=H.S _ J;generalize ts.getD j aG=x at*;have aj:¬x.Kind=5->¬x.Kind=6->v.aB=[]->ew ts (j:Int) v=1+e1 ts x.aD v.ag:=λa b c=>by grind
  have N:v.aB=[]->v.ag=[]->max D (L+ew ts (j:Int) v-1)=max D L:=λa b=>by rw[Ed a b];omega
  rcases r with⟨k,s,u,w,l,g,B⟩|⟨k,s,u,w,l,g,B,p,E⟩|⟨k,s,u,w,l,g,B,p⟩|⟨k,s,u,w,l,g,B,p⟩|⟨k,s,u,w,l,g,B,p⟩|⟨k,s,u,w,l,g⟩|⟨k,s,u,w,l,g,B,p,E⟩|⟨k,s,u,w,l,g,B,p,E,az,a2⟩|⟨k,s,u,w,l,g,B,p,E⟩<;>rw[k]at q
  . grind
  . have d:=q.symm;rw[al (by simp[d]),ae (by simp[d]),an d,N l g,E2 Y];simp only[ak];have aw:=Bf Y;obtain⟨n,aJ⟩:∃n:Nat,gF v.bg=(n:Int):=⟨(gF v.bg).toNat,by unfold gF;split<;>omega⟩
    rw[aJ,oU]at aw;rw[aJ,E3 aw];rfl
  . have d:=q.symm;rw[al (by simp[d]),al (by simp[d]),ae (by simp[d]),ao d,N l g]
  . have d:=q.symm;rw[al (by simp[d]),al (by simp[d]),al (by simp[d]),ae (by simp[d]),ap d,N l g]
    obtain⟨n,aJ⟩:∃n:Nat,v.ad=(n:Int):=⟨v.ad.toNat,by
     rcases p with⟨y,f,he⟩|⟨_,_,he⟩
     . have:=aI d y f;unfold cv at this;omega
     . unfold cv at he;omega⟩
    rw[aJ,hz,E3 (by omega),oU];rfl
  . have d:=q.symm;rw[al (by simp[d]),al (by simp[d]),al (by simp[d]),al (by simp[d]),ae (by simp[d]),V d];obtain⟨R,am⟩:=Z (.inl d);obtain⟨aP,aQ⟩:=gV.1 p;rw[afn (H.T _ J).iG R am B aP (λy f=>U y f) G (λi M=>F _ (aZ (by omega) ar) _ (aQ i M)) (by rw[<-V d];exact Q) L (max D L) K (by omega) (by omega) (by omega)];simp only[ak];rw[ae d,ae g]at C;have e:max (max D L) (L+hf ts x.af v.ag)=max D (L+ew ts (j:Int) v-1):=CC (UF C);rw[e]
  . have d:=q.symm;rw[al (by simp[d]),al (by simp[d]),al (by simp[d]),al (by simp[d]),al (by simp[d]),ae (by simp[d]),aq d];obtain⟨R,am⟩:=Z (.inr d);rw[al (show ¬x.Kind=5 by omega),ae d,ae l]at C;rw[ab' (dx (ig (H.T _ J).ha)) R ax g (λy f=>U y f) G F L (max D L) K (by omega) (by omega)];simp only[ak]
    exact eM (λz:Nat=>some (ey v.ad.toNat++(match cw x.af v.ad with
     |some m=>(bF ts m.av v.ag).headD []
     |none=>(v.Rest.map bQ.Data).headD []),ts,(z:Int))) (CC (D:=D) (L:=L) (UF C))
  . have d:=q.symm;rw[al (by simp[d]),al (by simp[d]),al (by simp[d]),al (by simp[d]),al (by simp[d]),al (by simp[d]),al (by simp[d])];have r:=cD.1 E;rw[W d]at Q;have:=OT (x:=x) (v:=v) (by omega) (λy f=>by have:=G y f x.aD;omega) (λy f=>F y f x.aD (r y f)) O L K (by omega) v.ag.length 0 (max D L) [] (by omega) (by omega) (by simp only[fc,ku];omega);have h0:mh ((L:Int),v.ag,(v.ag.length:Int),0,ts,((max D L:Nat):Int),v,x,[])=_:=this;rw[h0];simp only[ak,FM];have ah:=aj (by omega) (by omega) g;have e:max (max D L) (L+e1 ts x.aD v.ag)=max D (L+ew ts (j:Int) v-1):=CC ah;rw[W d,fc,fH,e]
  . have d:=q.symm;rw[al (by simp[d]),al (by simp[d]),al (by simp[d]),al (by simp[d]),al (by simp[d]),al (by simp[d]),al (by simp[d])];have r:=cD.1 az;have aa:=cD.1 E;rw[X d]at Q;obtain⟨a',ba⟩:=aF d;have aR:∀y,y∈v.aB->ew ts x.Key y=1:=λy f=>by
     obtain⟨⟨_,_,b3,_⟩,b⟩:=(dO _ _ _).1 (aa y f);apply Ed<;>grind
    have:=PH (x:=x) (v:=v) d p (λy f=>by have:=G y f x.aD;omega) (λy f=>by have:=aT y f x.Key;omega) (λy f=>F y f x.aD (r y f)) (λy f=>aN y f x.Key (aa y f)) aR O L K (by omega) v.ag.length 0 (max D L) [] (by omega) (by omega) (by simp only[fc,ku];omega);have h0:mh ((L:Int),v.ag,(v.ag.length:Int),0,ts,((max D L:Nat):Int),v,x,[])=_:=this;rw[h0];simp only[ak,FM];rw[al (show ¬x.Kind=5 by omega),al (show ¬x.Kind=6 by omega)]at C;simp only[fc,fH];have e:max (max D L) _=max D (L+ew ts (j:Int) v-1):=CC C;rw[X d,e]
  . have d:=q.symm;rw[al (by simp[d]),al (by simp[d]),al (by simp[d]),al (by simp[d]),al (by simp[d]),al (by simp[d]),ae (by simp[d]),au d];have r:=cD.1 E
    match P:v.ag,p with
    |[],_=>rw[hQ,N g P,bF]
    |[y],_=>
     have f:y∈v.ag:=by rw[P];exact .head _
     have aO:ay 0 ([y]:List I).length=true:=aH (k:=0) (by simp);rw[bz,ae aO];have a8:=e2 f;have ds:=F y f x.aD (r y f) (L+1) (max D L) (by omega) (by omega);have aM:aK .i64 (L:Int) 1=((L+1:Nat):Int):=bA (by omega);rw[aM];simp only[uU,mw];rw[ds];have a7:=G y f x.aD;simp only[ak];rw[ae (ga (by simp;omega))];have ah:=aj (by omega) (by omega) g;rw[P]at ah;have a6:=tW (ts:=ts) x.aD y;have aC:e1 ts x.aD [y]=ew ts x.aD y:=by
      have cQ:e1 ts x.aD []=0:=by rw[e1]
      rw[e1,cQ];omega
     have aA:bF ts x.aD [y]=[bp ts x.aD y]:=by rw[bF,bF]
     rw[aC]at ah;have e:max (max D L) (L+1+ew ts x.aD y-1)=max D (L+ew ts (j:Int) v-1):=aiL ah;rw[aA,e];rfl
    |a::b::c,h=>simp at h
end
section
variable {ts:List ai}
def jL(ts:List ai)(x:I)(t:Int):Prop:=iP ((⟨ts⟩:aO),t,x)=some (bp ts t x)
def x1(ts:List ai)(x:I)(t:Int):Prop:=na ((⟨ts⟩:aO),t,x)=some ((ew ts t x:Nat):Int)
theorem PI(b:∀y,y∈v.ag->(bp ts x.aD y).length<=1000000000000000)(d:∀y,y∈v.ag->jL ts y x.aD)(ah:v.ag.length<=reachBytes):
 ∀(k i:Nat) (acc:aj),i+k=v.ag.length->acc.length+((bF ts x.aD (v.ag.drop i)).flatMap dg).length<=70368744177664->
 tI (acc,(i:Int),ts,v,x)=some (acc++(bF ts x.aD (v.ag.drop i)).flatMap dg)
 |0,i,acc,e,a=>by
  rw[tI,cr,ei (by omega:v.ag.length<=i),bF];simp
 |k+1,i,acc,e,a=>by
  have aC:i<v.ag.length:=by omega
  have g:=dx ah;have c:v.ag.getD i ar∈v.ag:=aZ aC ar;rw[eD aC ar,bF,gQ,cc]at a;have f:=b _ c;have ds:=d _ c;unfold jL at ds;rw[tI,bE,ae (aH aC)];simp only[aS,ak,aV,I.aP];rw[ds];simp only[ak];rw[Ez];simp only[ak];rw[ae (ga),bA (by omega),PI b d ah k (i+1) _ (by omega) (by rw[cc];omega),eD aC ar,bF,gQ,gg]
theorem Qn(n:v.ag.length=v.aB.length)(d:∀y,y∈v.ag->(bp ts x.aD y).length<=1000000000000000)(e:∀y,y∈v.aB->(bp ts x.Key y).length<=1000000000000000)
 (j:∀y,y∈v.ag->jL ts y x.aD)(l:∀y,y∈v.aB->jL ts y x.Key)(ah:v.ag.length<=reachBytes):
 ∀(k i:Nat) (acc:aj),i+k=v.ag.length->acc.length+(gA (bF ts x.Key (v.aB.drop i)) (bF ts x.aD (v.ag.drop i))).length<=70368744177664->
 tK (acc,(i:Int),ts,v,x)=some (acc++gA (bF ts x.Key (v.aB.drop i)) (bF ts x.aD (v.ag.drop i)))
 |0,i,acc,m,c=>by
  rw[tK,cr,ei (by omega:v.ag.length<=i),ei (by omega:v.aB.length<=i),bF,bF,gA]
  . simp
  grind
 |k+1,i,acc,m,c=>by
  have aC:i<v.ag.length:=by omega
  have a:i<v.aB.length:=by omega
  have q:=dx ah;have f:v.ag.getD i ar∈v.ag:=aZ aC ar;have g:v.aB.getD i ar∈v.aB:=aZ a ar;rw[eD aC ar,eD a ar,bF,bF,gA,cc,cc]at c;have o:=d _ f;have p:=e _ g;have ds:=j _ f;have b:=l _ g;unfold jL at ds b;rw[tK,bE,ae (aH a)];simp only[aS,ak,aV,I.aP];rw[b];simp only[ak];rw[Ez];simp only[ak];rw[ae (ga),ae (aH aC),ds];simp only[ak];rw[Ez];simp only[ak];rw[ae (ga (by rw[cc];omega)),bA (by omega),Qn n d e j l ah k (i+1) _ (by omega) (by rw[cc,cc];omega),eD aC ar,eD a ar,bF,bF,gA,gg,gg]
def lH(R:List bQ)(n:Nat):List Fd:=(R.filter λx=>decide (x.ad=(n:Int))).map kx
theorem ab6{a:bQ}{l:List bQ}{n:Nat}(h:a.ad=(n:Int)):lH (a::l) n=kx a::lH l n:=by unfold lH;rw[List.filter_cons,ae (by rw[h];simp),iJ]
theorem aca{a:bQ}{l:List bQ}{n:Nat}(h:¬a.ad=(n:Int)):lH (a::l) n=lH l n:=by unfold lH;rw[List.filter_cons,al (by simpa using h)]
theorem ai3{d:Type}{m:aR}{w:I}(b:bC w)(A B:Option d):
 ((if !(!m.bu) then jN (w,m.bm)else some false).bind λc=>if(bif (!m.bu)then true else(!c)) then A else B)=if dh m w then B else A:=by
 cases a:m.bu with
 |false=>
  have:dh m w=false:=by unfold dh;rw[a];rfl
  rw[this];rfl
 |true=>
  have:=Qm b a;simp only[de,en,bM,this];cases dh m w<;>rfl
theorem H9(c:∀y,y∈v.Rest->y.Data.length<=reachBytes)(dm:v.Rest.length<=reachBytes)(n:Nat)(aJ:n<=1000):
 ∀(k i:Nat) (b:aj),i+k=v.Rest.length->b.length+((lH (v.Rest.drop i) n).flatMap Fd.text).length<=70368744177664->
 mW (b,(n:Int),(i:Int),ts,v,x)=some (b++(lH (v.Rest.drop i) n).flatMap Fd.text,(n:Int),ts,v,x)
 |0,i,b,f,a=>by
  rw[mW,cr,ei (by omega:v.Rest.length<=i),I.aP];simp[lH]
 |k+1,i,b,f,a=>by
  have aC:i<v.Rest.length:=by omega
  have g:=dx dm;have d:=c _ (aZ aC bP);unfold reachBytes at d;rw[eD aC bP]at a;rw[mW,bE,ae (aH aC)];simp only[aS,ak,aV,I.aP];rw[eD aC bP];by_cases e:(v.Rest.getD i bP).ad=(n:Int)
  . rw[ab6 e,gQ]at a⊢;have ht:(kx (v.Rest.getD i bP)).text=fr n false (v.Rest.getD i bP).Data:=by unfold kx Fd.text;rw[e];rfl
    rw[ht,cc]at a;rw[ae (by rw[e];simp),ae (aH aC),MY (by omega) (by omega)];simp only[ak];rw[ae (ga),bA (by omega),H9 c dm n aJ k (i+1) _ (by omega) (by rw[cc];omega),ht,gg]
  . rw[aca e]at a⊢;rw[al (by simpa using e),bA (by omega),H9 c dm n aJ k (i+1) _ (by omega) a]
noncomputable def yD (ts:List ai)(x:ai)(v:I)(n:Nat):List Fd:=(e9 ts x.af v.ag v.Rest).filter λf=>decide (f.id=n)
theorem Kt{x:ai}(p:x.af.length<9223372036854775807)(q:fV x.af)(w:j0 x.af v.Rest)(g:v.ag.length=x.af.length)
 (u:∀y,y∈v.Rest->y.Data.length<=reachBytes)(dm:v.Rest.length<=reachBytes)(s:∀y,y∈v.ag->bC y)(l:∀x,x∈v.ag->∀t,(bp ts t x).length<=23089744183296)
 (z:∀i,i<x.af.length->jL ts (v.ag.getD i ar) (x.af.getD i aw).av):
 ∀(k n:Nat) (b:aj),n+k=1001->1<=n->b.length+(((List.range' n k).flatMap (yD ts x v)).flatMap Fd.text).length<=70368744177664->
 py (b,(n:Int),ts,v,x)=some (b++((List.range' n k).flatMap (yD ts x v)).flatMap Fd.text)
 |0,n,b,H,h1,a=>by
  rw[py,cr];simp
 |k+1,n,b,H,h1,a=>by
  have J:∀y,y∈v.Rest->0<=y.ad:=λy M=>by have:=(w.2 y M).1;unfold cv at this;omega
  have aq:yD ts x v n=((dv ts x.af v.ag).filter λf=>decide (f.id=n))++lH v.Rest n:=by
   unfold yD e9 lH;rw[List.filter_append,abb _ _ J]
  rw[CL,gQ,GD,aq,GD]at a⊢;simp only[cc]at a;rw[py,bE];obtain⟨r,_,P,G⟩:=ma (t:=x) (n:Int) p;simp only[aS,ak,aV,I.aP];rw[P];simp only[ak];have A:∀c:aj,c.length+((lH v.Rest n).flatMap Fd.text).length<=70368744177664->mW (c,(n:Int),0,ts,v,x)=some (c++(lH v.Rest n).flatMap Fd.text,(n:Int),ts,v,x):=λc h=>by
   have:=H9 (ts:=ts) (x:=x) u dm n (by omega) v.Rest.length 0 c (by omega) (by simpa using h);grind
  rcases uv G with⟨e,j,B,N,F,O⟩|⟨e,F⟩
  . have o:j<v.ag.length:=(by omega);have C:v.ag.getD j ar∈v.ag:=aZ o ar;have d:=M3 (ts:=ts) (Qk q) g B (n:=n) (by rw[O];simp);rw[ae e,N,ae (aH B)];rw[ae (by rw[aH o];rfl)];simp only[aV];rw[ai3 (s _ C)];have E:=Kt p q w g u dm s l z k (n+1);cases D:dh (x.af.getD j aw) (v.ag.getD j ar)with
    |true=>
     rw[D,ae rfl]at d;rw[d]at a⊢;rw[ae rfl,A b (by omega)];simp only[ak,I.aP];rw[bA (by omega),E _ (by omega) (by omega) (by rw[cc];omega)];simp
    |false=>
     rw[D,bz]at d;rw[d]at a⊢;have Q:=l _ C (x.af.getD j aw).av;have ds:=z j B;unfold jL at ds;have ht:([⟨n,(x.af.getD j aw).b8,bp ts (x.af.getD j aw).av (v.ag.getD j ar)⟩]:List Fd).flatMap Fd.text=fr n (x.af.getD j aw).b8 (bp ts (x.af.getD j aw).av (v.ag.getD j ar)):=by simp only[gQ,List.flatMap_nil,h9];rfl
     rw[ht]at a⊢;rw[bz,ae (aH o),ds];simp only[ak];rw[MY (by omega) (by omega)];simp only[ak];rw[ae (ga),A _ (by rw[cc];omega)];simp only[ak,I.aP];rw[bA (by omega),E _ (by omega) (by omega) (by rw[cc,cc];omega)];grind
  . have L:((dv ts x.af v.ag).filter λf=>decide (f.id=n))=[]:=NX λm K=>by
     have:=oG F m K;omega
    rw[L]at a⊢;rw[al (by simp[e]),A b (by omega)];simp only[ak,I.aP];rw[bA (by omega),Kt p q w g u dm s l z k (n+1) _ (by omega) (by omega) (by rw[cc];omega)];simp
theorem afP{a:Type}{m:aR}{w:I}(c:bC w)(A B:Option a):
 ((if m.bu then jN (w,m.bm)else some false).bind λr=>if(bif m.bu then r else false) then A else B)=if dh m w then A else B:=by
 cases b:m.bu with
 |false=>
  grind[dh]
 |true=>
  grind[Qm]
theorem PJ(bf:¬x.Kind=5)(c:¬x.Kind=6)(a:∀y,y∈v.ag->x1 ts y x.aD)(ah:v.ag.length<=reachBytes):
 ∀(k i b:Nat),i+k=v.ag.length->hZ ((b:Int),(i:Int),ts,v,x)=some (((max b (e1 ts x.aD (v.ag.drop i)):Nat):Int),v)
 |0,i,b,d=>by grind[hZ,e1,I.aP]
 |k+1,i,b,d=>by
  have aC:i<v.ag.length:=by omega
  have e:=dx ah;have ds:=a _ (aZ aC ar);rw[hZ,ae (by grind),al (by grind),al (by grind),ae (aH aC)];simp only[aV,I.aP];rw[ds];simp only[aS,ak];rw[AD,bA (by omega),PJ bf c a ah k _ _ (by omega),eD aC _,e1,Nat.max_assoc]
theorem Qo(bf:x.Kind=5)(g:v.ag.length=x.af.length)(c:∀y,y∈v.ag->bC y)(e:∀i,i<x.af.length->x1 ts (v.ag.getD i ar) (x.af.getD i aw).av)(ah:v.ag.length<=reachBytes):
 ∀(k i b:Nat),i+k=v.ag.length->hZ ((b:Int),(i:Int),ts,v,x)=some (((max b (hf ts (x.af.drop i) (v.ag.drop i)):Nat):Int),v)
 |0,i,b,f=>by
  simp_all[hZ,I.aP,hf]
 |k+1,i,b,f=>by
  have aC:i<v.ag.length:=by omega
  have a:i<x.af.length:=by omega
  have m:=dx ah;have j:=aZ aC ar;have ds:=e i a;rw[hZ,ae (by grind),ae (by grind),ae (aH a)];simp only[aS,ak,aV,I.aP];rw[ae (by grind[aH]),afP (c _ j)];have d:=Qo bf g c e ah k (i+1);rw[eD aC _,eD a _,hf];cases l:dh _ _ with
  |true=>rw[ae rfl,bA (by omega),d _ (by omega),ae rfl]
  |false=>
   rw[bz,al (by grind),ae (aH aC),ds];simp only[ak];rw[AD,bA (by omega),d _ (by omega),bz,Nat.max_assoc]
theorem Qp(e:x.Kind=6)(c:j<x.af.length)(a:fw (x,v.ad)=some ((j:Int),true))(d:∀y,y∈v.ag->x1 ts y (x.af.getD j aw).av)(ah:v.ag.length<=reachBytes):
 ∀(k i b:Nat),i+k=v.ag.length->hZ ((b:Int),(i:Int),ts,v,x)=some (((max b (e1 ts (x.af.getD j aw).av (v.ag.drop i)):Nat):Int),v)
 |0,i,b,f=>by grind[hZ,e1,I.aP]
 |k+1,i,b,f=>by
  have aC:i<v.ag.length:=by omega
  have g:=dx ah;have ds:=d _ (aZ aC ar);rw[hZ,ae (by grind),al (by grind),ae (by grind),a];simp only[aS,ak,aV,I.aP];rw[ae (aH c),ae (aH aC),ds];simp only[ak];rw[AD,bA (by omega),Qp e c a d ah k _ _ (by omega),eD aC _,e1,Nat.max_assoc]
theorem Fk{b:Nat}(c:hZ (0,0,ts,v,x)=some (((max 0 b:Nat):Int),v))(d:b<1152921504606846976)(f:w=1+max (if v.aB=[]then 0 else 1) b):
 (hZ (0,0,ts,v,x)>>=λo=>if (0<(o.2.aB.length:Int):Bool) then some (aK .i64 1 (iI o.1 1))else some (aK .i64 1 o.1))=some (w:Int):=by
 rw[c];simp;by_cases e:v.aB=[]
 . have:aK _ 1 _=1+max 0 b:=wV (a:=1) (by omega);grind
 . rw[ae (by
    grind)]
   grind[AD,wV]
theorem afp(H:hj ts)(Q:bC v):wt v<=1099511627776->∀t,bO ts false t v->x1 ts v t:=by
 induction Q with
 |mk v hs h1 C af ah K ai cZ an ao ap am S=>
  intro aj t z;have ak:=eV v;have D:=λx J t=>S x J (by have:=e2 J;omega) t;obtain⟨⟨aa,ab,w,_⟩,z⟩:=(dO _ _ _).1 z;obtain⟨j,rfl⟩:∃j:Nat,t=(j:Int):=⟨t.toNat,by omega⟩
  have G:j<ts.length:=by omega
  unfold x1;rw[na,ae (aH G)];simp only[aV,I.aP]at z w⊢;have R:=aZ G aG;have f:=AE (ts:=ts) (j:Int) v;simp only[aV]at f;have O:=dx (ig (H.T _ R).ha);generalize ts.getD j aG=x at*;have b1:∀E,e1 ts E v.ag<1152921504606846976:=λE=>by grind[Hp]
  have b2:∀E,hf ts E v.ag<1152921504606846976:=λE=>by grind[Ho]
  have Z:¬x.Kind=5->¬x.Kind=6->(∀y,y∈v.ag->bO ts false x.aD y)->(hZ (0,0,ts,v,x)>>=λo=>if (0<(o.2.aB.length:Int):Bool) then some (aK .i64 1 (iI o.1 1))else some (aK .i64 1 o.1))=some ((ew ts (j:Int) v:Nat):Int):=by
   intro a b c;have u:=PJ (ts:=ts) (x:=x) (v:=v) a b (λy A=>D y A _ (c y A)) C v.ag.length 0 0 (by simp);rw[al a,al b]at f;exact Fk u (b1 _) f
  rcases z with⟨k,g,l,m,n,d,p⟩|⟨k,g,l,m,n,d,p,s,B⟩|⟨k,g,l,m,n,d,p,s⟩|⟨k,g,l,m,n,d,p,s⟩|⟨k,g,l,m,n,d,p,s⟩|⟨k,g,l,m,n,d⟩|⟨k,g,l,m,n,d,p,s,B⟩|⟨k,g,l,m,n,d,p,s,B,Y,X⟩|⟨k,g,l,m,n,d,p,s,B⟩<;>rw[k]at w
  . grind
  . grind
  . grind
  . grind
  . obtain⟨M,N⟩:=gV.1 s;have u:=Qo (ts:=ts) (x:=x) (v:=v) w.symm M K (λi L=>D _ (aZ (by omega) ar) _ (N i L)) C v.ag.length 0 0 (by simp);rw[ae w.symm]at f;exact Fk u (b2 _) f
  . rw[al (show ¬x.Kind=5 by omega),ae w.symm]at f;obtain⟨r,_,W,z⟩:=ma (t:=x) v.ad O;rcases uv z with⟨e,q,U,V,F,aq⟩|⟨e,F⟩
    . rw[F]at d f;obtain⟨d1,d2,d3⟩:=d;have P:r=((q:Int),true):=by rw[<-V,<-e]
      have u:=Qp (ts:=ts) (x:=x) (v:=v) w.symm U (by rw[W,P]) (λy A=>D y A _ (cD.1 d3 y A)) C v.ag.length 0 0 (by omega);exact Fk u (b1 _) f
    . rw[F]at d f;have u:hZ (0,0,ts,v,x)=some (((max 0 0:Nat):Int),v):=by rw[hZ,al (by grind),I.aP];rfl
      exact Fk u (by simp) f
  . grind[cD]
  . grind[cD]
  grind[cD]
set_option maxHeartbeats 400000 in
theorem Fl(H:hj ts)(aR:bC v):wt v<=1099511627776->∀t,bO ts false t v->jL ts v t:=by
 induction aR with
 |mk v hs h1 Q Z ai R U cZ X Y aY aX aW=>
  intro aU t p;have aC:bC v:= .mk v hs h1 Q Z ai R U cZ X Y aY;have a6:=eV v;have K:=λx s t=>wX H (R x s) (by have:=e2 s;omega) t;have aN:=λx s t=>wX H (ai x s) (by have:=e2 s;omega) t;have G:=λx s t=>aW x s (by have:=e2 s;omega) t;have aE:=λx s t=>aX x s (by have:=e2 s;omega) t;have N:=wX H aC aU t;obtain⟨⟨a4,a5,P,_⟩,p⟩:=(dO _ _ _).1 p;obtain⟨j,rfl⟩:∃j:Nat,t=(j:Int):=⟨t.toNat,by omega⟩
  have ah:j<ts.length:=by omega
  unfold jL;rw[iP,ae (aH ah)];simp only[aS,ak,aV,I.aP]at p P⊢;have W:=aZ ah aG;have aT:=@BA ts (j:Int) v;have an:=@BB ts (j:Int) v;have ao:=@BC ts (j:Int) v;have ap:=@BD ts (j:Int) v;have V:=@u3 ts (j:Int) v;have aq:=@sn ts (j:Int) v;have au:=@sq ts (j:Int) v;have ax:=@sr ts (j:Int) v;have az:=@su ts (j:Int) v;simp only[aV]at aT an ao ap V aq au ax az;have aa:=H.A _ W;have aI:=H.S _ W;have aj:=dx (ig (H.T _ W).ha);generalize ts.getD j aG=x at*;rcases p with⟨k,z,B,C,D,o,u⟩|⟨k,z,B,C,D,o,u,w,F⟩|⟨k,z,B,C,D,o,u,w⟩|⟨k,z,B,C,D,o,u,w⟩|⟨k,z,B,C,D,o,u,w⟩|⟨k,z,B,C,D,o⟩|⟨k,z,B,C,D,o,u,w,F⟩|⟨k,z,B,C,D,o,u,w,F,aB,a3⟩|⟨k,z,B,C,D,o,u,w,F⟩<;>rw[k]at P<;>have g:=P.symm
  . grind
  . rw[al (by grind),ae (by grind),an g,ui X];have a7:=Bf X;obtain⟨n,aJ⟩:∃n:Nat,gF v.bg=(n:Int):=⟨(gF v.bg).toNat,by unfold gF;grind⟩
    grind[Int.toNat_natCast,Nt]
  . rw[al (by simp[g]),al (by simp[g]),ae (by simp[g]),ao g]
  . rw[al (by simp[g]),al (by simp[g]),al (by simp[g]),ae (by simp[g]),ap g]
    obtain⟨n,aJ⟩:∃n:Nat,v.ad=(n:Int):=⟨v.ad.toNat,by
     rcases w with⟨y,m,he⟩|⟨_,_,he⟩
     . have:=aI g y m;unfold cv at this;omega
     . unfold cv at he;omega⟩
    rw[aJ,hz,Nt (by omega),oU];rfl
  . rw[al (by simp[g]),al (by simp[g]),al (by simp[g]),al (by simp[g]),al (by simp[g]),al (by simp[g]),al (by simp[g]),al (by simp[g]),V g];obtain⟨L,aO⟩:=aa (.inl g);obtain⟨aL,aM⟩:=gV.1 w;rw[V g]at N;have am:=Y0 (um (ts:=ts) (l:=v.ag) L u) (λy m=>IY L u m);have cQ:(λn=>(e9 ts x.af v.ag v.Rest).filter λf=>decide (f.id=n))=yD ts x v:=rfl;rw[cQ]at am;rw[am]at N⊢;have:=Kt (ts:=ts) aj L u aL (λy m=>U y m) Z R K (λi aK=>G _ (aZ (by omega) ar) _ (aM i aK)) 1000 1 [] (by omega) (by omega) (by simp only[ku];omega);have h0:py ([],1,ts,v,x)=_:=this;rw[h0];rfl
  . rw[al (by simp[g]),al (by simp[g]),al (by simp[g]),al (by simp[g]),al (by simp[g]),ae (by simp[g]),aq g];obtain⟨L,aO⟩:=aa (.inr g);obtain⟨r,_,a2,p⟩:=ma (t:=x) v.ad aj;rcases uv p with⟨e,q,aA,a0,M,a1⟩|⟨e,M⟩
    . rw[M]at o;rw[M];simp only at o⊢;obtain⟨d1,d2,d3⟩:=o;have E:=L.2 _ (aZ aA aw);rw[a1]at E;obtain⟨n,aJ⟩:∃n:Nat,v.ad=(n:Int):=⟨v.ad.toNat,by unfold cv at E;omega⟩
      rw[al (by simp[d1]),a2,aJ,hz (by unfold cv at E;omega),zT (by unfold cv at E;omega)];simp only[ak];rw[a0,ae (aH aA)]
      match E:v.ag,d2 with
      |[y],_=>
       have m:y∈v.ag:=by rw[E];exact .head _
       have J:ay 0 ([y]:List I).length=true:=aH (k:=0) (by simp);have p:=cD.1 d3 y m;have ds:=G y m _ p;unfold jL at ds;rw[ae J];simp only[aV,uU,mw];rw[ds];have aP:=K y m (x.af.getD q aw).av;have aQ:=ko (n:=n) (by rw[aJ]at Y;omega);simp only[ak];rw[ae (ga)];have O:bF ts (x.af.getD q aw).av [y]=[bp ts (x.af.getD q aw).av y]:=by rw[bF,bF]
       rw[O];rfl
    . rw[M]at o;rw[M];simp only at o⊢;obtain⟨d1,d2,d3,d4,d,d5⟩:=o;obtain⟨n,aJ⟩:∃n:Nat,v.ad=(n:Int):=⟨v.ad.toNat,by unfold cv at d3;omega⟩
      have ab:=U ⟨v.ad,d⟩ (by rw[d5];exact .head _);simp only at ab;unfold reachBytes at ab;have aQ:=ko (n:=n) (by rw[aJ]at Y;omega);rw[d5,aJ,hQ,hz (by unfold cv at d3;omega),zT (by unfold cv at d3;omega)];simp only[ak];have J:ay 0 ([⟨(n:Int),d⟩]:List bQ).length=true:=aH (k:=0) (by simp);rw[ae J];simp only[uU,mw];rw[ae (ga)];rfl
  . rw[al (by simp[g]),al (by simp[g]),al (by simp[g]),al (by simp[g]),al (by simp[g]),al (by simp[g]),ae (by simp[g])];have p:=cD.1 F;rw[au g]at N⊢;have:=PI (ts:=ts) (x:=x) (v:=v) (λy m=>by have:=K y m x.aD;omega) (λy m=>G y m x.aD (p y m)) Q v.ag.length 0 [] (by omega) (by simp only[fc,ku];omega);have h0:tI ([],0,ts,v,x)=_:=this;rw[h0];rfl
  . rw[al (by simp[g]),al (by simp[g]),al (by simp[g]),al (by simp[g]),al (by simp[g]),al (by simp[g]),al (by simp[g]),ae (by simp[g])];have p:=cD.1 aB;have aF:=cD.1 F;rw[ax g]at N⊢;have:=Qn (ts:=ts) (x:=x) (v:=v) w (λy m=>by have:=K y m x.aD;omega) (λy m=>by have:=aN y m x.Key;omega) (λy m=>G y m x.aD (p y m)) (λy m=>aE y m x.Key (aF y m)) Q v.ag.length 0 [] (by omega) (by simp only[fc,ku];omega);have h0:tK ([],0,ts,v,x)=_:=this;rw[h0];rfl
  . rw[al (by simp[g]),al (by simp[g]),al (by simp[g]),al (by simp[g]),ae (by simp[g]),az g];have p:=cD.1 F
    match E:v.ag,w with
    |[],_=>rw[hQ,bF]
    |[y],_=>
     have m:y∈v.ag:=by rw[E];exact .head _
     have J:ay 0 ([y]:List I).length=true:=aH (k:=0) (by simp);rw[bz,ae J];have ds:=G y m x.aD (p y m);unfold jL at ds;simp only[uU,mw];rw[ds];have aP:=K y m x.aD;simp only[ak];rw[ae (ga (by simp;omega))];have O:bF ts x.aD [y]=[bp ts x.aD y]:=by rw[bF,bF]
     rw[O];rfl
    |a::b::c,h=>simp at h
end
theorem dk.qH{a b:α}(h:eX o a b):dk o (a=b):=h
theorem FK{j k l:Option Bool}{f g i:Prop}(h1:dk j f)(d:dk k g)(e:dk l i):
 dk (j>>=λm=>(if m then k else some false)>>=λn=>some (bif m then n else false)>>=λt53=>(if t53 then l else some false)>>=λo=>some (bif t53 then o else false)) (f/\g/\i):=by
 obtain⟨a,rfl,h1⟩:=h1;obtain⟨b,rfl,d⟩:=d;obtain⟨c,rfl,e⟩:=e;rw[<-h1,<-d,<-e];cases a<;>cases b<;>cases c<;>exact⟨_,rfl,by simp⟩
theorem RQ(h:dk o P):dk (o>>=λr=>some r) P:=by grind
def qx(b:Bool)(a:List aR):Prop:=(∀m,m∈a->mQ b m=false)/\(b=false\/0<a.length)/\fV a/\(∀m,m∈a->nm m.Name=true)/\(a.map (·.Name)).Nodup/\a.length<=16
def Bg(S:List c1):Prop:=0<S.length/\(S.Pairwise (λa b=>a.ad<b.ad)/\∀y,y∈S->cv y.ad)/\(∀y,y∈S->nm y.Name=true)/\(S.map (·.Name)).Nodup/\S.length<=16
theorem ab7{l:List aj}:l.Nodup↔∀i,i<l.length->(l.take i).contains (l.getD i [])=false:=by
 unfold List.Nodup;rw[uN];constructor
 . intro h i a;apply GI.2;intro c;obtain⟨k,b,he⟩:=(pV (by omega)).1 c;grind
 . intro h k i d a b he;have:=h i a;rw[GI]at this;apply this;refine(pV (by omega)).2 ⟨k,b,?_⟩;grind
theorem Qq(f:α->Int)(g:α->aj)(d:α)(l:List α):(∀i,i<l.length->kr (l.map f) (l.map g) i=true)↔(l.Pairwise (λa b=>f a<f b)/\∀x,x∈l->cv (f x))/\(∀x,x∈l->nm (g x)=true)/\(l.map g).Nodup:=by
 rw[Fj f d,ab7];have key:∀i,i<l.length->(kr (l.map f) (l.map g) i=true↔cv (f (l.getD i d))/\(i=0\/f (l.getD (i-1) d)<f (l.getD i d))/\nm (g (l.getD i d))=true/\((l.map g).take i).contains ((l.map g).getD i [])=false):=by
  intro i c;unfold kr cv;grind
 constructor
 . intro h;refine⟨⟨λi c=>?_,λx j=>?_⟩,λx j=>?_,λi c=>?_⟩
   . grind
   . obtain⟨i,c,rfl⟩:=e3 j;grind
   . obtain⟨i,c,rfl⟩:=e3 j;grind
   grind
 . rintro ⟨⟨h1,k⟩,m,n⟩ i c
   refine(key i c).2 ⟨k _ (aZ c d),?_,m _ (aZ c d),n i (by simpa using c)⟩;by_cases h0:i=0
   . omega
   . right;have:=h1 (i-1) (by omega);have e:i-1+1=i:=(by omega);grind
theorem OU{t:ai}(h:eW t):dk (tD t) ((∀m,m∈t.af->mQ (decide (t.Kind=6)) m=false)/\(t.Kind=5\/0<t.af.length)/\fV t.af/\(∀m,m∈t.af->nm m.Name=true)/\(t.af.map (·.Name)).Nodup/\t.af.length<=16):=by
 obtain⟨r,h1,a⟩:=MV h;refine⟨r,h1,a.trans ?_⟩;rw[Qq (λm:aR=>m.ad) (λm:aR=>m.Name) aw];have e:(∀i,i<t.af.length->mQ (decide (t.Kind=6)) (t.af.getD i aw)=false)↔∀m,m∈t.af->mQ (decide (t.Kind=6)) m=false:=by
  constructor
  . intro h m b;obtain⟨i,c,rfl⟩:=e3 b;grind
  grind
 rw[e];unfold fV;grind
theorem acb{l:List c1}(ah:l.length*24<=reachBytes):dk (vV l) (Bg l):=by
 obtain⟨r,h1,a⟩:=Qh ah;refine⟨r,h1,a.trans ?_⟩;rw[Qq (λm:c1=>m.ad) (λm:c1=>m.Name) dI];unfold Bg;grind
def gk(t:ai):Prop:=
 (t.Kind=1/\t.Name=[]/\t.bJ=0/\t.bN=0/\t.Max=0/\t.bj=[]/\t.af=[]/\t.Key=0/\t.aD=0/\t.Open=false)\/
 (t.Kind=2/\t.Name=[]/\t.bJ<=t.bN/\t.Max=0/\t.bj=[]/\t.af=[]/\t.Key=0/\t.aD=0/\t.Open=false)\/
 (t.Kind=3/\t.Name=[]/\t.bJ=0/\t.bN=0/\(0<=t.Max/\t.Max<=200)/\t.bj=[]/\t.af=[]/\t.Key=0/\t.aD=0/\t.Open=false)\/
 (t.Kind=4/\nm t.Name=true/\t.bJ=0/\t.bN=0/\t.Max=0/\Bg t.bj/\t.af=[]/\t.Key=0/\t.aD=0)\/
 (t.Kind=5/\nm t.Name=true/\t.bJ=0/\t.bN=0/\t.Max=0/\t.bj=[]/\qx false t.af/\t.Key=0/\t.aD=0/\t.Open=false)\/
 (t.Kind=6/\nm t.Name=true/\t.bJ=0/\t.bN=0/\t.Max=0/\t.bj=[]/\qx true t.af/\t.Key=0/\t.aD=0)\/
 (t.Kind=7/\t.Name=[]/\t.bJ=0/\t.bN=0/\(0<=t.Max/\t.Max<=50)/\t.bj=[]/\t.af=[]/\t.Key=0/\t.Open=false)\/
 (t.Kind=8/\t.Name=[]/\t.bJ=0/\t.bN=0/\(0<=t.Max/\t.Max<=50)/\t.bj=[]/\t.af=[]/\t.Open=false)\/
 (t.Kind=9/\t.Name=[]/\t.bJ=0/\t.bN=0/\t.Max=0/\t.bj=[]/\t.af=[]/\t.Key=0/\t.Open=false)
theorem acd{t:ai}(h:eW t):dk (gv t) (gk t):=by
 have i:eW (⟨0,[],0,0,0,[],[],0,0,false⟩:ai):=⟨by simp,by simp,by simp⟩
 obtain⟨d,N,L,H,M,S,c,K,E,b⟩:=t;have aI:=h.syms;have e:=h.ha;have f:=h.iG;simp only at aI e f;by_cases k1:d=1
 . subst k1;have a:=iU (a:=(⟨0,N,L,H,M,S,c,K,E,b⟩:ai)) ⟨aI,e,f⟩ (⟨0,[],0,0,0,[],[],0,0,false⟩:ai);refine(RQ (dk.qH a)).imp ?_;unfold gk;simp
 by_cases k2:d=2
 . subst k2;have a:=iU (a:=(⟨0,N,0,0,M,S,c,K,E,b⟩:ai)) ⟨aI,e,f⟩ (⟨0,[],0,0,0,[],[],0,0,false⟩:ai);refine(vk (q:=decide (L<=H)) (Q:=L<=H) (by simp) (dk.qH a)).imp (Q:=gk ⟨2,N,L,H,M,S,c,K,E,b⟩) ?_;unfold gk;grind
 by_cases k3:d=3
 . subst k3;have a:=iU (a:=(⟨0,N,L,H,0,S,c,K,E,b⟩:ai)) ⟨aI,e,f⟩ (⟨0,[],0,0,0,[],[],0,0,false⟩:ai);refine(vk (q:=bif decide (0<=M)then decide (M<=200)else false) (Q:=0<=M/\M<=200) (by by_cases g:0<=M<;>simp[g]) (dk.qH a)).imp (Q:=gk ⟨3,N,L,H,M,S,c,K,E,b⟩) ?_;unfold gk;grind
 by_cases k4:d=4
 . subst k4;have a:=iU (a:=(⟨0,[],L,H,M,[],c,K,E,false⟩:ai)) ⟨by simp,e,f⟩ (⟨0,[],0,0,0,[],[],0,0,false⟩:ai);refine(FK (⟨nm N,tJ N,Iff.rfl⟩:dk (kL N) (nm N=true)) (acb aI) (dk.qH a)).imp (Q:=gk ⟨4,N,L,H,M,S,c,K,E,b⟩) ?_;unfold gk;grind
 by_cases k5:d=5
 . subst k5;have a:=iU (a:=(⟨0,[],L,H,M,S,[],K,E,bif b then decide ((5:Int)=5)else false⟩:ai)) ⟨aI,by simp,by simp⟩ (⟨0,[],0,0,0,[],[],0,0,false⟩:ai);refine(FK (⟨nm N,tJ N,Iff.rfl⟩:dk (kL N) (nm N=true)) (OU h) (dk.qH a)).imp (Q:=gk ⟨5,N,L,H,M,S,c,K,E,b⟩) ?_;unfold gk qx;grind
 by_cases k6:d=6
 . subst k6;have a:=iU (a:=(⟨0,[],L,H,M,S,[],K,E,bif b then decide ((6:Int)=5)else false⟩:ai)) ⟨aI,by simp,by simp⟩ (⟨0,[],0,0,0,[],[],0,0,false⟩:ai);refine(FK (⟨nm N,tJ N,Iff.rfl⟩:dk (kL N) (nm N=true)) (OU h) (dk.qH a)).imp (Q:=gk ⟨6,N,L,H,M,S,c,K,E,b⟩) ?_;unfold gk qx;grind
 by_cases k7:d=7
 . subst k7;have a:=iU (a:=(⟨0,N,L,H,0,S,c,K,0,b⟩:ai)) ⟨aI,e,f⟩ (⟨0,[],0,0,0,[],[],0,0,false⟩:ai);refine(vk (q:=bif decide (0<=M)then decide (M<=50)else false) (Q:=0<=M/\M<=50) (by by_cases g:0<=M<;>simp[g]) (dk.qH a)).imp (Q:=gk ⟨7,N,L,H,M,S,c,K,E,b⟩) ?_;unfold gk;grind
 by_cases k8:d=8
 . subst k8;have a:=iU (a:=(⟨0,N,L,H,0,S,c,0,0,b⟩:ai)) ⟨aI,e,f⟩ (⟨0,[],0,0,0,[],[],0,0,false⟩:ai);refine(vk (q:=bif decide (0<=M)then decide (M<=50)else false) (Q:=0<=M/\M<=50) (by by_cases g:0<=M<;>simp[g]) (dk.qH a)).imp (Q:=gk ⟨8,N,L,H,M,S,c,K,E,b⟩) ?_;unfold gk;grind
 by_cases k9:d=9
 . subst k9;have a:=iU (a:=(⟨0,N,L,H,M,S,c,K,0,b⟩:ai)) ⟨aI,e,f⟩ (⟨0,[],0,0,0,[],[],0,0,false⟩:ai);refine(RQ (dk.qH a)).imp (Q:=gk ⟨9,N,L,H,M,S,c,K,E,b⟩) ?_;unfold gk;simp
 refine⟨false,by simp[gv,k1,k2,k3,k4,k5,k6,k7,k8,k9],?_⟩;unfold gk;grind
structure nT (ts:List ai):Prop where
 n:ts.length<=32
 F:∀t,t∈ts->gk t
 D:∀i,i<ts.length->(!(decide ((ts.getD i aG).Name=[]))&&((ts.map (·.Name)).take i).contains (ts.getD i aG).Name)=false
 U:∀t,t∈ts->∀u,u∈fm t->0<=u/\u<ts.length
 o6:∀t,t∈ts->t.Kind=8->1<=(ts.getD t.Key.toNat aG).Kind/\(ts.getD t.Key.toNat aG).Kind<=4
theorem abu(cS:∀t,t∈ts->eW t){i:Nat}(e:i<ts.length):u1 ts i=none↔gk (ts.getD i aG)/\(!(decide ((ts.getD i aG).Name=[]))&&((ts.map (·.Name)).take i).contains (ts.getD i aG).Name)=false/\(∀u,u∈fm (ts.getD i aG)->0<=u/\u<ts.length)/\
 ((ts.getD i aG).Kind=8->1<=(ts.getD (ts.getD i aG).Key.toNat aG).Kind/\(ts.getD (ts.getD i aG).Key.toNat aG).Kind<=4):=by
 obtain⟨r,f1,f2⟩:=acd (cS _ (aZ e aG));rw[JC rfl f1,<-f2];have a:(fm (ts.getD i aG)).any (mE ts.length)=false↔∀u,u∈fm (ts.getD i aG)->0<=u/\u<ts.length:=by
  rw[GJ];constructor
  . intro h u a;have:=h u a;unfold mE at this;grind
  . intro h u a;have:=h u a;unfold mE;grind
 rw[<-a];generalize (fm (ts.getD i aG)).any (mE ts.length)=b;generalize (!(decide ((ts.getD i aG).Name=[]))&&((ts.map (·.Name)).take i).contains (ts.getD i aG).Name)=c;have f:(decide ((ts.getD i aG).Kind=8) && !(s7 (ts.getD (ts.getD i aG).Key.toNat aG).Kind))=false↔((ts.getD i aG).Kind=8->1<=(ts.getD (ts.getD i aG).Key.toNat aG).Kind/\(ts.getD (ts.getD i aG).Key.toNat aG).Kind<=4):=by
  unfold s7;grind
 rw[<-f];generalize (decide ((ts.getD i aG).Kind=8) && !(s7 (ts.getD (ts.getD i aG).Key.toNat aG).Kind))=d;cases r<;>cases b<;>cases c<;>cases d<;>simp
theorem oJ(cS:∀t,t∈ts->eW t)(h:nT ts):pZ (⟨ts⟩:aO)=some 0/\wA (⟨ts⟩:aO)=some 0:=by
 obtain⟨e,h1,c,_,b,_⟩:=ab2 (s:=⟨ts⟩) (by have:=h.n;unfold reachBytes;show ts.length<=_;omega) cS;have cQ:e=0:=b ⟨h.n,λi a=>(abu cS a).2 ⟨h.F _ (aZ a aG),h.D i a,h.U _ (aZ a aG),h.o6 _ (aZ a aG)⟩⟩;grind
theorem nT.fR(cS:∀t,t∈ts->eW t)(h:nT ts):hj ts:=by
 refine⟨by have:=h.n;omega,cS,λt ht=>?_,λt ht m c=>?_,λt ht f=>?_,λt ht f y j=>?_,h.o6⟩
 . have:=h.F t ht;unfold gk at this;unfold oy;omega
 . have:=h.F t ht;unfold gk at this;have o:t.af≠[]:=by intro e;rw[e]at c;cases c
   have:qx false t.af\/qx true t.af:=(by grind);rcases this with a|a
   . exact(a.2.2.1.2 m c).2
   . exact(a.2.2.1.2 m c).2
 . have:=h.F t ht;unfold gk at this;have:qx false t.af\/qx true t.af:=(by grind);rcases this with a|a
   . exact⟨a.2.2.1,a.2.2.2.2.2⟩
   . exact⟨a.2.2.1,a.2.2.2.2.2⟩
 . have:=h.F t ht;unfold gk at this;have:Bg t.bj:=(by grind);exact this.2.1.2 y j
def uZ(l:List bQ):Nat:=(l.map λx=>x.Data.length).sum
theorem aer(l:List bQ):(l.map λx=>x.Data.length+1).sum=uZ l+l.length:=by
 unfold uZ;induction l with
 |nil=>rfl
 |cons a l ih=>simp only[iJ,qD,h8];omega
def Left(n:Int)(w:Nat)(m:Int):Prop:=m<=n/\-1000000000000000<=m/\(0<=m->(w:Int)+m<=n)
theorem PK(ah:v.Rest.length<=reachBytes)(b:∀x,x∈v.Rest->x.Data.length<=reachBytes):∀(k i:Nat) (n:Int),i+k=v.Rest.length->n<=3000->-1000000000000000<=n->∃m,rf (n,(i:Int),v)=some (m,v)/\Left n (uZ (v.Rest.drop i)) m
 |0,i,n,f,c,a=>⟨n,by
  rw[rf,al,I.aP];intro h;have g:¬(i:Int)<(v.Rest.length:Int):=by omega
  simp[g]at h,by
  rw[ei (by omega:v.Rest.length<=i)]
  exact⟨by omega,a,λ_=>by simp[uZ]⟩⟩
 |k+1,i,n,f,c,a=>by
  have aC:i<v.Rest.length:=by omega
  have p:=dx ah;have d:=b _ (aZ aC bP);unfold reachBytes at d;have g:(i:Int)<(v.Rest.length:Int):=by omega
  rw[rf];by_cases h0:0<=n
  . rw[ae (by simp[g,h0]),ae (aH aC)];simp only[aV,I.aP];rw[hJ (by omega) (by omega),bA (by omega)];obtain⟨m,j,q,l,o⟩:=PK ah b k (i+1) (n-((v.Rest.getD i bP).Data.length:Int)) (by omega) (by omega) (by omega);refine⟨m,j,by omega,l,λh=>?_⟩;have:=o h;rw[eD aC bP];have e:uZ (v.Rest.getD i bP::v.Rest.drop (i+1))=(v.Rest.getD i bP).Data.length+uZ (v.Rest.drop (i+1)):=by unfold uZ;simp only[iJ,qD]
    rw[e];omega
  . refine⟨n,?_,by omega,a,λh=>absurd h h0⟩;rw[al (by simp[g,h0]),I.aP]
theorem PL(ah:v.aB.length<=reachBytes)(ih:∀x,x∈v.aB->∀n,0<=n->n<=3000->∃m,oj (x,n)=some m/\Left n (wt x) m):∀(k i:Nat) (n:Int),i+k=v.aB.length->n<=3000->-1000000000000000<=n->∃m,tR (n,(i:Int),v)=some (m,v)/\Left n (cx (v.aB.drop i)) m
 |0,i,n,d,c,b=>⟨n,by
  rw[tR,al,I.aP];intro h;have g:¬(i:Int)<(v.aB.length:Int):=by omega
  simp[g]at h,by
  rw[ei (by omega:v.aB.length<=i),gK]
  exact⟨by omega,b,λ_=>by simp⟩⟩
 |k+1,i,n,d,c,b=>by
  have aC:i<v.aB.length:=by omega
  have l:=dx ah;have g:(i:Int)<(v.aB.length:Int):=by omega
  rw[tR];by_cases h0:0<=n
  . obtain⟨a,a1,a2,a3,a4⟩:=ih _ (aZ aC ar) n h0 c;rw[ae (by simp[g,h0]),ae (aH aC)];simp only[aV,I.aP];rw[a1];simp only[aS,ak];rw[bA (by omega)];obtain⟨m,e,o,f,j⟩:=PL ah ih k (i+1) a (by omega) (by omega) (by omega);refine⟨m,e,by omega,f,λh=>?_⟩;have:=j h;have:=a4 (by omega);rw[eD aC ar,gW];omega
  . refine⟨n,?_,by omega,b,λh=>absurd h h0⟩;rw[al (by simp[g,h0]),I.aP]
theorem PM(ah:v.ag.length<=reachBytes)(ih:∀x,x∈v.ag->∀n,0<=n->n<=3000->∃m,oj (x,n)=some m/\Left n (wt x) m):∀(k i:Nat) (n:Int),i+k=v.ag.length->n<=3000->-1000000000000000<=n->∃m,tS (n,(i:Int),v)=some m/\Left n (cx (v.ag.drop i)) m
 |0,i,n,d,c,b=>⟨n,by
  rw[tS,al];intro h;have g:¬(i:Int)<(v.ag.length:Int):=by omega
  simp[g]at h,by
  rw[ei (by omega:v.ag.length<=i),gK]
  exact⟨by omega,b,λ_=>by simp⟩⟩
 |k+1,i,n,d,c,b=>by
  have aC:i<v.ag.length:=by omega
  have l:=dx ah;have g:(i:Int)<(v.ag.length:Int):=by omega
  rw[tS];by_cases h0:0<=n
  . obtain⟨a,a1,a2,a3,a4⟩:=ih _ (aZ aC ar) n h0 c;rw[ae (by simp[g,h0]),ae (aH aC)];simp only[aV,I.aP];rw[a1];simp only[aS,ak];rw[bA (by omega)];obtain⟨m,e,o,f,j⟩:=PM ah ih k (i+1) a (by omega) (by omega) (by omega);refine⟨m,e,by omega,f,λh=>?_⟩;have:=j h;have:=a4 (by omega);rw[eD aC ar,gW];omega
  . refine⟨n,?_,by omega,b,λh=>absurd h h0⟩;rw[al (by simp[g,h0])]
theorem ajg(r:bC v):∀n:Int,0<=n->n<=3000->∃m,oj (v,n)=some m/\Left n (wt v) m:=by
 induction r with
 |mk v hs h1 o d x w q cZ y z A t s=>
  intro n h0 aJ;have aM:aK .i64 (aK .i64 10 (v.bt.length:Int)) (v.Rest.length:Int)=((10+v.bt.length+v.Rest.length:Nat):Int):=by
   have a1:=dx hs;have a2:=dx d;unfold reachBytes at hs d;have:aK .i64 10 (v.bt.length:Int)=((10+v.bt.length:Nat):Int):=wV (a:=10) (by omega);rw[this,wV (by omega)]
  unfold reachBytes at hs;have p:=d;unfold reachBytes at p;have l:di .i64 n ((10+v.bt.length+v.Rest.length:Nat):Int)=n-((10+v.bt.length+v.Rest.length:Nat):Int):=hJ (by omega) (by omega);obtain⟨a,a1,a2,a3,a4⟩:=PK d q v.Rest.length 0 (n-((10+v.bt.length+v.Rest.length:Nat):Int)) (by omega) (by omega) (by omega);obtain⟨b,b1,b2,b3,b4⟩:=PL h1 t v.aB.length 0 a (by omega) (by omega) (by omega);obtain⟨c,g,u,j,k⟩:=PM o s v.ag.length 0 b (by omega) (by omega) (by omega);have e:rf (n-((10+v.bt.length+v.Rest.length:Nat):Int),0,v)=_:=a1;have f:tR (a,0,v)=_:=b1;have i:tS (b,0,v)=_:=g;refine⟨c,?_,by omega,j,λh=>?_⟩
  . rw[oj];simp only[I.aP];rw[aM,l,e];simp only[aS,ak,I.aP];rw[f];simp only[ak,I.aP];rw[i];rfl
  . have:=k h;have:=b4 (by omega);have:=a4 (by omega);rw[eV,aer];grind
theorem Is(a:bC v):∃b,wz v=some b/\(b=true->wt v<=3000):=by
 obtain⟨m,c,e,f,d⟩:=ajg a 3000 (by omega) (by omega);rw[wz];simp only[I.aP];rw[c];refine⟨decide (0<=m),rfl,λh=>?_⟩;have h0:0<=m:=gP h;have:=d h0;omega
theorem abc(aJ:ts.length<9223372036854775807)(cS:∀t,t∈ts->eW t)(bD:∀t,t∈ts->oy t.Kind)(b:bC v)(t:Int):dk (wC ((⟨ts⟩:aO),t,v)) (bO ts true t v):=by
 obtain⟨r,h1,a⟩:=uI aJ cS bD b t true;refine⟨r,?_,a⟩;rw[wC];simp only[I.aP];rw[h1];rfl
def afQ(ts:List ai)(ms:List aR):Prop:=∀m,m∈ms->m.bu=true->bO ts true m.av m.bm
theorem aiV{t:aN}{x:t.den cR.D}(h:Ok cR [t] x):∀d,d∈t.row cR x->WF cR d:=λd a=>h ⟨t,x⟩ (GG ..) d a
theorem afq(H:hj ts)(b:bC v)(c:wt v<=1099511627776)(a:bO ts false t v):
 kg (t,v,1,ts,0)=some (bp ts t v,ts,((ew ts t v:Nat):Int)):=by
 have h:=afo H b c t a 1 0 (by omega) (by omega);have d:=tW (ts:=ts) t v;have e:max 0 (1+ew ts t v-1)=ew ts t v:=by omega
 rw[e]at h;exact h
noncomputable def lK (ts:List ai)(t:Int)(v:I):aj×Int:=
 if 4096<(bp ts t v).length\/200<ew ts t v then([],3)else(bp ts t v,0)
abbrev fC:=dq
abbrev eP:=bx
abbrev agF:=iR
theorem uJ{a:Int}(h:¬a=0):(!(decide (a=0)))=true:=by grind
theorem hp{x m:Int}(h:0<=x:=by omega)(a:0<=m:=by omega):b9 x m=x%m:=by grind[b9]
theorem afR{x:Int}(h:0<=x)(a:x<=255):fB .u8 x 4=x/4:=by
 grind[fB,IntKind.wrap_u8]
theorem lI{x:Int}(h:cy x):bY .i64 x=x:=by
 grind[bY,cy,IntKind.wrap_i64]
theorem J9{k:Int}(h:0<=k/\k<=25):nw (bY .i32 (aK .i64 97 k))=[UInt8.ofNat (97+k.toNat)]:=by
 have key:∀k:Nat,k<26->nw (bY .i32 (aK .i64 97 k))=[UInt8.ofNat (97+k)]:=by decide+kernel
 grind
theorem afS{k:Int}(h:0<=k/\k<=25):nw (bY .i32 (aK .i64 65 k))=[UInt8.ofNat (65+k.toNat)]:=by
 have key:∀k:Nat,k<26->nw (bY .i32 (aK .i64 65 k))=[UInt8.ofNat (65+k)]:=by decide+kernel
 grind
theorem NY{s:aj}(h0:s≠[])(ah:s.length<=24)(h:∀i:Nat,i<s.length->qo (fY s i)=true):nm s=true:=by
 have key:∀k i,i+k=s.length->l1 (s,s.length,i)=some (.inr ()):=by
  intro k;induction k with
  |zero=>simp_all[l1]
  |succ k ih=>
   intro i b;rw[l1,ae (by grind),ae (aH (by omega)),Ec,h i (by omega)];simp only[aS,ak];rw[hQ,bA (by omega)];exact ih _ (by omega)
 have a:=xf.2 h0;have c:=aH a;have d:=key s.length 0 (by simp);grind[nm,kL,Ec]
theorem afT(h:65<=c/\c<=90\/97<=c/\c<=122):nm [UInt8.ofNat c]=true:=by
 grind[NY,uy,l8,qo]
theorem RR{b:Nat}(a:97<=b/\b<=122)(h:97<=c/\c<=122):nm [UInt8.ofNat b,UInt8.ofNat c]=true:=by
 grind[NY,uy,l8,qo]
def df(x:Int):Prop:=0<=x/\x<=255
structure o7 (x:fC):Prop where
 k:df x.Kind
 a:df x.A
 b:df x.B
 c:df x.C
 p:∀q,q∈x.cX->df q.ad/\df q.av/\df q.hg
 l:x.cX.length<=reachBytes
def ek(aL:List fC)(i:Int):Int:=1+(aL.getD i.toNat eP).Kind%9
section
variable {aL:List fC}(cq:∀x,x∈aL->o7 x)(bf:aL.length<=5)
include cq bf in
theorem rT{i:Int}(h0:0<=i)(h1:i<aL.length):rn ((⟨aL⟩:ep),i)=some (ek aL i)/\1<=ek aL i/\ek aL i<=9:=by
 obtain⟨j,rfl⟩:∃j:Nat,i=j:=⟨i.toNat,by omega⟩
 have c:=(cq _ (aZ (by omega:j<aL.length) eP)).k;unfold ek;obtain⟨a,b⟩:=c;refine⟨?_,by omega,by omega⟩;rw[rn,ae (aH (by omega:j<aL.length)),aV,hp a (by simp),lI ⟨by omega,by omega⟩,kp (by omega) (by omega)]
def FJ(aL:List fC)(i u:Int):Prop:=0<=u/\u<aL.length/\(7<=ek aL u\/u<i)
include cq bf in
theorem OV:∀(k i:Nat),i+k=aL.length->n2 ((aL.length:Int),(i:Int),aL)=some (.inr ())\/∃u:Int,n2 ((aL.length:Int),(i:Int),aL)=some (.inl u)/\0<=u/\u<aL.length/\7<=ek aL u
 |0,i,a=>.inl (by grind[n2])
 |k+1,i,a=>by
  obtain⟨e,_,_⟩:=rT cq bf (i:=i) (by simp) (by omega);rw[n2,ae (by grind),e];simp[y4];by_cases b:7<=ek aL i
  . grind
  . rw[al (by grind),bA (by omega)];exact OV k _ (by omega)
include cq bf in
theorem ace(h1:1<=aL.length){i:Int}(n:0<=i/\i<aL.length)(k:df code):∃u,y5 ((⟨aL⟩:ep),i,code)=some u/\(u<0\/FJ aL i u):=by
 have l:bY .i64 code=code:=lI ⟨by grind[df],by grind[df]⟩;obtain⟨g,m⟩:=k;have d:0<=code%(aL.length:Int):=mD _ (by omega);have f:code%aL.length<aL.length:=mz _ (by omega);rw[y5];simp only[aS,ak];rw[ae (uJ (by omega)),l,hp g (by simp)];obtain⟨e,_,_⟩:=rT cq bf d f;rw[e];simp only[ak,y4];by_cases j:7<=ek aL (code%aL.length)
 . rw[ae (by grind)];exact⟨_,rfl,.inr ⟨d,f,.inl j⟩⟩
 . by_cases aC:code%aL.length<i
   . rw[ae (by grind)];exact⟨_,rfl,.inr ⟨d,f,.inr aC⟩⟩
   . rw[al (by grind)];by_cases o:0<i
     . rw[ae (by grind),ae (by grind),hp d];have a0:0<=code%aL.length%i:=mD _ (by omega);have a1:code%(aL.length:Int)%i<i:=mz _ (by omega);exact⟨_,rfl,.inr ⟨a0,by omega,.inr a1⟩⟩
     . rw[al (by grind)];have h0:=OV cq bf aL.length 0 (by simp);have cQ:n2 (aL.length,(0:Nat),aL)=n2 ((aL.length:Int),0,aL):=rfl;rw[cQ]at h0;rcases h0 with h|⟨u,h,a,b,c⟩
       . grind
       . rw[h];exact⟨u,rfl,.inr ⟨a,b,.inl c⟩⟩
def o5(aL:List fC)(u:Int):Prop:=0<=u/\u<aL.length/\1<=ek aL u/\ek aL u<=4
include cq bf in
theorem RS{code:Int}(l:df code)(h1:1<=aL.length):∀(k i:Nat),i+k=aL.length->(og (code,(aL.length:Int),(i:Int),aL)=some (.inr ())/\∀m:Nat,i<=m->m<aL.length->¬o5 aL ((code+m)%(aL.length:Int)))\/∃u:Int,og (code,(aL.length:Int),(i:Int),aL)=some (.inl u)/\o5 aL u
 |0,i,n=>.inl ⟨by simp_all[og],λm a b=>by omega⟩
 |k+1,i,n=>by
  obtain⟨f,g⟩:=l;have c:0<=(code+i)%aL.length:=mD _ (by omega);have d:(code+i)%aL.length<aL.length:=mz _ (by omega);obtain⟨e,aM,Cq⟩:=rT cq bf c d;rw[og,ae (by grind),ae (uJ (by omega)),lI ⟨by omega,by omega⟩,kp (by omega) (by omega),hp (by omega) (by simp)];simp;rw[e];simp only[ak,zt];by_cases j:ek aL ((code+i)%aL.length)<=4
  . rw[ae (by grind)];exact .inr ⟨_,rfl,c,d,aM,j⟩
  . rw[al (by grind),bA (by omega)];rcases RS ⟨f,g⟩ h1 k (i+1) (by omega)with⟨a,b⟩|h
    . refine .inl ⟨a,λm p q=>?_⟩;by_cases o:m=i
      . rintro ⟨_,_,_,h⟩;grind
      grind
    grind
include cq bf in
theorem RT(b:df code)(h1:1<=aL.length):∃u,tA ((⟨aL⟩:ep),code)=some u/\((u= -1/\∀w,¬o5 aL w)\/o5 aL u):=by
 rw[tA];have h0:=RS cq bf b h1 aL.length 0 (by simp);have cQ:og (code,aL.length,(0:Nat),aL)=og (code,(aL.length:Int),0,aL):=rfl;rw[cQ]at h0;rcases h0 with⟨h,a⟩|⟨u,h,a⟩
 . rw[h];refine⟨-1,rfl,.inl ⟨rfl,λw c=>?_⟩⟩;have d:=c;obtain⟨j9,i,_⟩:=d;have f:0<=(w-code)%aL.length:=mD _ (by omega);have g:(w-code)%aL.length<aL.length:=mz _ (by omega);have e:(code+((w-code)%(aL.length:Int)).toNat)%aL.length=w:=by
    grind[Int.add_emod_emod,Int.emod_eq_of_lt]
   grind
 grind
theorem Ka{x:fC}(h:o7 x):pN x=some (x.A%7-3):=by
 have:=h.a;rw[pN,hp this.1 (by simp),lI ⟨by omega,by omega⟩,hJ (by omega) (by omega)]
theorem Qr{x:fC}(h:o7 x):tq x=some (x.A%7-3+x.B%6):=by
 have a:=h.b;rw[tq,Ka h];simp;rw[hp a.1 (by simp),lI ⟨by omega,by omega⟩,kp (by omega) (by omega)]
def vd(l:ao)(n:Int):Prop:=l.Pairwise (· < ·)/\∀x,x∈l->1<=x/\x<=n
theorem Kb{x:fC}:∀(k i:Nat) (acc:ao),i+k=6->vd acc i->acc.length<=i->∃l,pH ((i:Int),x,acc)=some l/\vd l 6/\l.length<=6
 |0,i,acc,f,c,ah=>⟨acc,by simp_all[pH,al],⟨c.1,λy d=>by have:=c.2 y d;omega⟩,by omega⟩
 |k+1,i,acc,f,c,ah=>by
  have e:vd acc (i+1:Int):=⟨c.1,λy d=>by have:=c.2 y d;omega⟩
  rw[pH,ae (by grind),ae (by rfl)];simp only[aS,ak];rw[bA (by omega)];split
  . rw[ae (cV (by simp) (by grind))];refine Kb k (i+1) _ (by omega) ⟨?_,λy d=>?_⟩ (by grind)
    . rw[GC];refine⟨c.1,by simp,λa h1 b g=>?_⟩;have:=c.2 a h1;grind
    . rcases hb.1 d with h|h
      . have:=c.2 y h;omega
      grind
  . exact Kb k _ _ (by omega) e (by omega)
theorem afU(x:fC):∃l,oA x=some l/\vd l 6/\1<=l.length/\l.length<=6:=by
 obtain⟨l,h1,d,e⟩:=Kb 6 0 [] (by rfl) ⟨.nil,λy c=>by grind⟩ (by simp);have b:pH (0,x,[])=some l:=h1;rw[oA,b];cases l with
 |nil=>
  exact⟨_,rfl,⟨by simp,λy c=>by grind⟩,by simp,by simp⟩
 |cons a l=>grind
def kt(x:fC):ao:=(oA x).getD []
theorem vD(x:fC):oA x=some (kt x)/\vd (kt x) 6/\1<=(kt x).length/\(kt x).length<=6:=by
 obtain⟨l,h1,a⟩:=afU x;grind[kt]
def mM(k:Int)(x:fC)(key:Prop)(v:I):Prop:=
 v.aB=[]/\v.ag=[]/\v.Rest=[]/\
 (k=1/\v.Kind=1/\v.bg=0/\v.bt=[]/\v.ad=0\/
  k=2/\v.Kind=2/\v.bS=false/\v.bt=[]/\v.ad=0/\x.A%7-3<=v.bg/\v.bg<=x.A%7-3+x.B%6\/
  k=3/\v.Kind=3/\v.bS=false/\v.bg=0/\v.ad=0/\(v.bt.length:Int)<=x.A%4\/
  k=4/\v.Kind=4/\v.bS=false/\v.bg=0/\v.bt=[]/\v.ad∈kt x\/
  7<=k/\v.bS=false/\v.bg=0/\v.bt=[]/\v.ad=0/\(v.Kind=k/\(k=8->key)\/k=8/\v.Kind=7/\¬key))
def Init(aL:List fC)(t:Int)(v:I):Prop:=mM (ek aL t) (aL.getD t.toNat eP) (∃w,o5 aL w) v
include cq bf in
theorem abv(h1:1<=aL.length)(ht:0<=t/\t<aL.length)(o:df code):∃r,zu ((⟨aL⟩:ep),t,code)=some r/\(r.2=false->r.1=ar)/\(r.2=true->Init aL t r.1):=by
 obtain⟨j,rfl⟩:∃j:Nat,t=(j:Int):=⟨t.toNat,by omega⟩
 have i:j<aL.length:=by omega
 have c:=cq _ (aZ i eP);obtain⟨e,k1,k9⟩:=rT cq bf ht.1 ht.2;obtain⟨u,z,C⟩:=RT cq bf (code:=0) ⟨by simp,by simp⟩ h1;obtain⟨d,H⟩:=o;rw[zu,ae (aH i)];simp only[aS,ak,aV];rw[e];unfold Init;simp only[aV];have v:=vD (aL.getD j eP);generalize ek aL (j:Int)=k at*;generalize aL.getD j eP=x at*;have n:=c.a;have I:=c.b;have p:k=1\/k=2\/k=3\/k=4\/k=5\/k=6\/k=7\/k=8\/k=9:=by omega
 rcases p with rfl|rfl|rfl|rfl|rfl|rfl|rfl|rfl|rfl
 . exact⟨_,rfl,λh=>(by cases h),λ_=>by unfold mM;simp⟩
 . have el:=Ka c;have m:=Qr c;have aM:aK .i64 (di .i64 (x.A%7-3+x.B%6) (x.A%7-3)) 1=x.B%6+1:=by rw[hJ (by omega) (by omega),kp (by omega) (by omega)];omega
   have l:b9 (bY .i64 code) (x.B%6+1)=code%(x.B%6+1):=by rw[lI ⟨by omega,by omega⟩,hp d]
   have F:0<=code%(x.B%6+1):=mD _ (by omega);have G:code%(x.B%6+1)<x.B%6+1:=mz _ (by omega);have c2:aK .i64 (x.A%7-3) (code%(x.B%6+1))=x.A%7-3+code%(x.B%6+1):=kp (by omega) (by omega);simp only[Int.reduceEq,c6,dc,bW,b6,bM,ak,dU,ed];rw[el];rw[m];simp only[ak];rw[aM,bE,l,c2];exact⟨_,rfl,λh=>(by cases h),λ_=>by unfold mM;simp;omega⟩
 . simp only[Int.reduceEq,c6,dc,bW,b6,bM,ak,dU,ed];rw[hp n.1,hp d];by_cases g:0<x.A%4
   . by_cases f:code%2=1
     . rw[ae (by simp[g,f])];exact⟨_,rfl,λh=>(by cases h),λ_=>by unfold mM;simp;omega⟩
     . rw[al (by simp[f])];exact⟨_,rfl,λh=>(by cases h),λ_=>by unfold mM;simp;omega⟩
   . rw[al (by simp[g])];exact⟨_,rfl,λh=>(by cases h),λ_=>by unfold mM;simp;omega⟩
 . obtain⟨E,J,K,L⟩:=v;simp only[Int.reduceEq,c6,dc,bW,b6,bM,ak,dU,ed];rw[E];simp only[aS,ak];have F:0<=code%((kt x).length:Int):=mD _ (by omega);have G:code%((kt x).length:Int)<((kt x).length:Int):=mz _ (by omega);rw[ae (uJ (by omega)),lI ⟨by omega,by omega⟩,hp d];obtain⟨q,y⟩:∃q:Nat,code%((kt x).length:Int)=(q:Int):=⟨(code%((kt x).length:Int)).toNat,by omega⟩
   rw[y,ae (aH (by omega)),aV];exact⟨_,rfl,λh=>(by cases h),λ_=>by unfold mM;simp;rw[<-Gp];exact aZ (by omega) 0⟩
 . exact⟨_,rfl,λ_=>rfl,λh=>by cases h⟩
 . exact⟨_,rfl,λ_=>rfl,λh=>by cases h⟩
 . exact⟨_,rfl,λh=>(by cases h),λ_=>by unfold mM;simp⟩
 . simp only[Int.reduceEq,c6,dc,bW,b6,bM,ak,dU,ed];rw[z];rcases C with⟨rfl,a⟩|a
   . exact⟨_,rfl,λh=>(by cases h),λ_=>by unfold mM;simp;exactλw D=>a w D⟩
   . have s:¬u<0:=by have:=a.1;omega
     simp only[aS,ak];rw[al (by simp[s])];exact⟨_,rfl,λh=>(by cases h),λ_=>by unfold mM;simp;exact⟨u,a⟩⟩
 . exact⟨_,rfl,λh=>(by cases h),λ_=>by unfold mM;simp⟩
structure vf (aL:List fC)(i:Int)(record:Bool)(m:aR):Prop where
 id:1<=m.ad/\m.ad<=12
 name:m.Name=[UInt8.ofNat 109,UInt8.ofNat (97+m.ad.toNat)]
 sm:FJ aL i m.av
 gf:m.b8=true->m.bu=false
 un:record=false->m.b8=false/\m.bu=false
 UH:m.bu=false->m.bm=ar
 ki:m.bu=true->Init aL m.av m.bm
include cq bf in
theorem PN(h1:1<=aL.length){i:Int}(o:0<=i/\i<aL.length){x:fC}(f:o7 x)(record:Bool){id:Int}(d:1<=id/\id<=12){acc:List aR}(v:acc.length<=12):
 ∀(k j:Nat),j+k=x.cX.length->∃l,q8 (i,record,id,(j:Int),aL,x,acc)=some (i,record,id,aL,x,acc++l)/\l.length<=1/\∀m,m∈l->m.ad=id/\vf aL i record m
 |0,j,w=>⟨[],by rw[q8,cr];simp,by simp,λm z=>by cases z⟩
 |k+1,j,w=>by
  have aC:j<x.cX.length:=by omega
  have N:=dx f.l;obtain⟨E,F,G⟩:=f.p _ (aZ aC agF);obtain⟨u,C,O⟩:=ace cq bf h1 o F;rw[q8,bE,ae (aH aC)];simp only[aS,ak,aV];have D:y5 ((⟨aL⟩:ep),i,(x.cX.getD j iR).av)=some u:=C;rw[D];simp only[ak];generalize q:x.cX.getD j iR=p;have Q:df p.ad:=by rw[<-q];exact E
  have H:df p.hg:=by rw[<-q];exact G
  obtain⟨f1,f2⟩:=H;have aM:b9 p.hg 4=p.hg%4:=hp f1;have t:fB .u8 p.hg 4=p.hg/4:=afR f1 f2;have M:=PN h1 o f record d v k (j+1) (by omega);by_cases s:(bif (!(decide (aK .i64 1 (bY .i64 (b9 p.ad 12))=id)))then true else decide (u<0))=true
  . rw[ae s,bA (by omega)];exact M
  . rw[al s];have c:FJ aL i u:=(by grind);have B:=J9 (k:=id) ⟨by omega,by omega⟩;rw[B];have A:([109]++[UInt8.ofNat (97+id.toNat)]:aj)=[UInt8.ofNat 109,UInt8.ofNat (97+id.toNat)]:=rfl;rw[ae (ga (by simp)),A,aM,t];obtain⟨r,J,K,L⟩:=abv cq bf h1 ⟨c.1,c.2.1⟩ (code:=p.hg/4) ⟨by omega,by omega⟩;have e:∀m:aR,room 160 (acc++[m]).length=true:=λm=>cV;have done:∀m:aR,m.ad=id->vf aL i record m->∃l,(some (i,record,id,aL,x,acc++[m]):Option (Int×Bool×Int×List fC×fC×List aR))=some (i,record,id,aL,x,acc++l)/\l.length<=1/\∀m,m∈l->m.ad=id/\vf aL i record m:=λm a b=>⟨[m],rfl,by simp,λy P=>by grind⟩
    cases record with
    |false=>
     simp only[dU,bW,b6];rw[ae (e _)];exact done _ rfl ⟨d,rfl,c,λh=>(by cases h),λ_=>⟨rfl,rfl⟩,λ_=>rfl,λh=>by cases h⟩
    |true=>
     simp only[ed];by_cases g:p.hg%4=1
     . rw[ae (by simpa using g),cr,ae (e _)];exact done _ rfl ⟨d,rfl,c,λ_=>rfl,λh=>(by cases h),λ_=>rfl,λh=>by cases h⟩
     . rw[al (by simpa using g)];by_cases n:2<=p.hg%4
       . rw[ae (by simpa using n),J];simp only[ak,I.aP];rw[ae (e _)];exact done _ rfl ⟨d,rfl,c,λh=>(by cases h),λh=>(by cases h),K,L⟩
       . rw[al (by simpa using n),ae (e _)];exact done _ rfl ⟨d,rfl,c,λh=>(by cases h),λh=>(by cases h),λ_=>rfl,λh=>by cases h⟩
def vg(aL:List fC)(i:Int)(record:Bool)(l:List aR):Prop:=l.Pairwise (λa b=>a.ad<b.ad)/\(∀m,m∈l->vf aL i record m)/\l.length<=12
include cq bf in
theorem PO(h1:1<=aL.length){i:Int}(f:0<=i/\i<aL.length){x:fC}(j:o7 x)(record:Bool):∀(k id:Nat) (acc:List aR),id+k=13->1<=id->
 acc.Pairwise (λa b=>a.ad<b.ad)->(∀m,m∈acc->vf aL i record m/\m.ad<id)->acc.length<id->∃l,ra (i,record,(id:Int),aL,x,acc)=some l/\vg aL i record l
 |0,id,acc,n,h0,d,e,ah=>⟨acc,by rw[ra,cr],d,λm g=>(e m g).1,by omega⟩
 |k+1,id,acc,n,h0,d,e,ah=>by
  rw[ra,bE];obtain⟨l,o,l2,s⟩:=PN cq bf h1 f j record (id:=(id:Int)) ⟨by omega,by omega⟩ (acc:=acc) (by omega) x.cX.length 0 (by omega);have p:q8 (i,record,(id:Int),0,aL,x,acc)=_:=o;rw[p];simp only[aS,ak];rw[bA (by omega)];refine PO h1 f j record k (id+1) _ (by omega) (by omega) ?_ (λm g=>?_) (by simp;omega)
  . rw[GC];refine⟨d,?_,λa q b r=>?_⟩
    . match l,l2 with
      |[],_=>exact .nil
      |[a],_=>simp
      |a::b::c,h=>simp at h
    grind
  grind
include cq bf in
theorem PQ(h1:1<=aL.length){i:Int}(b:0<=i/\i<aL.length)(record:Bool):∃l,ti ((⟨aL⟩:ep),i,record)=some l/\vg aL i record l:=by
 obtain⟨j,rfl⟩:∃j:Nat,i=(j:Int):=⟨i.toNat,by omega⟩
 have a:j<aL.length:=by omega
 have d:=cq _ (aZ a eP);obtain⟨l,e,l2⟩:=PO cq bf h1 b d record 12 1 [] (by omega) (by omega) .nil (λm c=>by cases c) (by simp);refine⟨l,?_,l2⟩;have f:ra ((j:Int),record,1,aL,aL.getD j eP,[])=some l:=e;rw[ti,ae (aH a),aV];grind
def qI(l:ao):List c1:=l.map λj=>⟨j,[UInt8.ofNat 115,UInt8.ofNat (97+j.toNat)]⟩
theorem Qs{l:ao}(ah:l.length<=6)(g:∀x,x∈l->1<=x/\x<=6)(n i:Int)(b:List fC)(b1:Int)(b2:aj)(b3 b4 a c d:Int)(e:Bool)(f:List ai):∀(k j:Nat) (acc:List c1),j+k=l.length->acc.length<=j->
 qc (n,i,l,(j:Int),b,b1,b2,b3,b4,a,c,d,e,f,acc)=some (n,i,b,b1,b2,b3,b4,a,c,d,e,f,acc++qI (l.drop j))
 |0,j,acc,o,m=>by
  rw[qc,cr,ei (by omega:l.length<=j)];simp[qI]
 |k+1,j,acc,o,m=>by
  have aC:j<l.length:=by omega
  have p:=g _ (aZ aC 0);rw[qc,bE,ae (aH aC),ae (aH aC)];simp only[aS,ak,aV];rw[J9 ⟨by omega,by omega⟩,ae (ga (by simp)),ae (cV),bA (by omega),Qs ah g n i b b1 b2 b3 b4 a c d e f k (j+1) _ (by omega) (by simp;omega),eD aC 0];simp[qI]
def fq(aL:List fC)(i:Int)(t:ai):Prop:=
 let x:=aL.getD i.toNat eP;let n:=(aL.length:Int)
 let a:=[UInt8.ofNat (65+i.toNat)]
 (ek aL i=1/\t=⟨1,[],0,0,0,[],[],0,0,false⟩)\/
 (ek aL i=2/\t=⟨2,[],x.A%7-3,x.A%7-3+x.B%6,0,[],[],0,0,false⟩)\/
 (ek aL i=3/\t=⟨3,[],0,0,x.A%4,[],[],0,0,false⟩)\/
 (ek aL i=4/\∃o,t=⟨4,a,0,0,0,qI (kt x),[],0,0,o⟩)\/
 (ek aL i=5/\∃l,vg aL i true l/\t=⟨5,a,0,0,0,[],l,0,0,false⟩)\/
 (ek aL i=6/\t=⟨5,a,0,0,0,[],[],0,0,false⟩)\/
 (ek aL i=6/\∃l o,vg aL i false l/\0<l.length/\t=⟨6,a,0,0,0,[],l,0,0,o⟩)\/
 (ek aL i=7/\t=⟨7,[],0,0,x.A%4,[],[],0,x.C%n,false⟩)\/
 (ek aL i=8/\(∀w,¬o5 aL w)/\t=⟨7,[],0,0,x.A%4,[],[],0,x.C%n,false⟩)\/
 (ek aL i=8/\∃k,o5 aL k/\t=⟨8,[],0,0,x.A%4,[],[],k,x.C%n,false⟩)\/
 (ek aL i=9/\t=⟨9,[],0,0,0,[],[],0,x.C%n,false⟩)
include cq bf in
theorem UL(h1:1<=aL.length):∀(k i:Nat) (acc:List ai),i+k=aL.length->acc.length=i->(∀j,j<i->fq aL (j:Int) (acc.getD j aG))->
 ∃l,fM ((aL.length:Int),(i:Int),aL,acc)=some l/\l.length=aL.length/\∀j,j<aL.length->fq aL (j:Int) (l.getD j aG)
 |0,i,acc,E,ah,v=>⟨acc,by rw[fM,cr],by omega,λj F=>v j (by omega)⟩
 |k+1,i,acc,E,ah,v=>by
  have aC:i<aL.length:=by omega
  have m:=cq _ (aZ aC eP);obtain⟨e,k1,k9⟩:=rT cq bf (i:=(i:Int)) (by omega) (by omega);have next:∀t:ai,fq aL (i:Int) t->∃l,(if room 120 (acc++[t]).length then fM ((aL.length:Int),aK .i64 (i:Int) 1,aL,acc++[t])else none)=some l/\l.length=aL.length/\∀j,j<aL.length->fq aL (j:Int) (l.getD j aG):=by
   intro t ht;rw[ae (cV),bA (by omega)];refine UL h1 k (i+1) _ (by omega) (by simp;omega) λj F=>?_;grind
  rw[fM,bE,ae (aH aC)];simp only[aS,ak,aV];rw[e];simp only[ak,kl];have q:=afS (k:=(i:Int)) ⟨by omega,by omega⟩;have cS:∀t,fq aL (i:Int) t->fq aL (i:Int) t:=λt h=>h;have⟨s,z,gc⟩:df (aL.getD i eP).A/\df (aL.getD i eP).B/\df (aL.getD i eP).C:=⟨m.a,m.b,m.c⟩
  have n:(!(decide ((aL.length:Int)=0)))=true:=uJ (by omega);have o:bY .i64 (b9 (aL.getD i eP).A 4)=(aL.getD i eP).A%4:=by
   unfold df at s;rw[hp s.1,lI ⟨by omega,by omega⟩]
  have p:b9 (bY .i64 (aL.getD i eP).C) (aL.length:Int)=(aL.getD i eP).C%(aL.length:Int):=by
   unfold df at gc;rw[lI ⟨by omega,by omega⟩,hp gc.1]
  have D:ek aL (i:Int)=1\/ek aL (i:Int)=2\/ek aL (i:Int)=3\/ek aL (i:Int)=4\/ek aL (i:Int)=5\/ek aL (i:Int)=6\/ek aL (i:Int)=7\/ek aL (i:Int)=8\/ek aL (i:Int)=9:=by omega
  rcases D with d|d|d|d|d|d|d|d|d<;>rw[d] <;>
   simp only[Int.reduceEq,c6,dc,bW,b6,bM,ak,dU,ed]
  . exact next _ (by unfold fq;simp[d])
  . have el:=Ka m;have w:=Qr m;have y:pN (aL.getD i bx)=_:=el;have x:tq (aL.getD i bx)=_:=w;rw[y];simp only[ak];rw[x];simp only[ak];exact next _ (by unfold fq;simp only[aV];exact .inr (.inl ⟨d,by first|trivial|rfl⟩))
  . have f:bY .i64 (b9 (aL.getD i bx).A 4)=_:=o;rw[f];exact next _ (by unfold fq;simp only[aV];exact .inr (.inr (.inl ⟨d,by first|trivial|rfl⟩)))
  . obtain⟨H,J,O,K⟩:=vD (aL.getD i eP);have I:oA (aL.getD i bx)=_:=H;rw[I];simp only[ak];have hs:=Qs (l:=kt (aL.getD i eP)) K J.2 (aL.length:Int) (i:Int) aL 4 (nw (bY .i32 (aK .i64 65 (i:Int)))) 0 0 0 0 0 (decide (b9 (aL.getD i eP).B 2=1)) acc (kt (aL.getD i eP)).length 0 [] (by omega) (by simp);have G:qc ((aL.length:Int),(i:Int),kt (aL.getD i eP),0,aL,4,nw (bY .i32 (aK .i64 65 (i:Int))),0,0,0,0,0,decide (b9 (aL.getD i bx).B 2=1),acc,[])=_:=hs;rw[G];simp only[ak,fc,fH];rw[q];exact next _ (by unfold fq;simp only[aV];exact .inr (.inr (.inr (.inl ⟨d,_,rfl⟩))))
  . obtain⟨l,r,l2⟩:=PQ cq bf h1 (i:=(i:Int)) ⟨by omega,by omega⟩ true;rw[r];simp only[ak];rw[q];exact next _ (by unfold fq;simp only[aV];exact .inr (.inr (.inr (.inr (.inl ⟨d,l,l2,rfl⟩)))))
  . obtain⟨l,r,l2⟩:=PQ cq bf h1 (i:=(i:Int)) ⟨by omega,by omega⟩ false;rw[r];simp only[ak];rw[q];by_cases h0:l.length=0
    . rw[ae (by simp[h0])];exact next _ (by unfold fq;simp only[aV];exact .inr (.inr (.inr (.inr (.inr (.inl ⟨d,by first|trivial|rfl⟩))))))
    . rw[al (by simp;intro h;rw[h]at h0;simp at h0)];exact next _ (by unfold fq;simp only[aV];exact .inr (.inr (.inr (.inr (.inr (.inr (.inl ⟨d,l,_,l2,by omega,rfl⟩)))))))
  . have f:bY .i64 (b9 (aL.getD i bx).A 4)=_:=o;have g:b9 (bY .i64 (aL.getD i bx).C) (aL.length:Int)=_:=p;rw[ae n,f,g];exact next _ (by unfold fq;simp only[aV];exact .inr (.inr (.inr (.inr (.inr (.inr (.inr (.inl ⟨d,by first|trivial|rfl⟩))))))))
  . have f:bY .i64 (b9 (aL.getD i bx).A 4)=_:=o;have g:b9 (bY .i64 (aL.getD i bx).C) (aL.length:Int)=_:=p;obtain⟨u,L,N⟩:=RT cq bf z h1;have M:tA ((⟨aL⟩:ep),(aL.getD i bx).B)=some u:=L;rw[M];simp only[ak];rw[ae n,f,g];rcases N with⟨rfl,a⟩|a
    . rw[hQ];exact next _ (by unfold fq;simp only[aV];exact .inr (.inr (.inr (.inr (.inr (.inr (.inr (.inr (.inl ⟨d,a,by first|trivial|rfl⟩)))))))))
    . rw[al (by have:=a.1;simp;omega)];exact next _ (by unfold fq;simp only[aV];exact .inr (.inr (.inr (.inr (.inr (.inr (.inr (.inr (.inr (.inl ⟨d,u,a,rfl⟩))))))))))
  . have g:b9 (bY .i64 (aL.getD i bx).C) (aL.length:Int)=_:=p;rw[ae n,g];exact next _ (by unfold fq;simp only[aV];exact .inr (.inr (.inr (.inr (.inr (.inr (.inr (.inr (.inr (.inr ⟨d,by first|trivial|rfl⟩))))))))))
end
def vb(d:ep):Prop:=d.eg.length<=reachBytes/\∀x,x∈d.eg->o7 x
theorem of_eq{d:ep}(a:vb d):q0 d=some (⟨[]⟩,false)\/∃l,q0 d=some (⟨l⟩,true)/\1<=d.eg.length/\d.eg.length<=5/\l.length=d.eg.length/\∀j,j<d.eg.length->fq d.eg (j:Int) (l.getD j aG):=by
 rw[q0];simp only[aS,ak];by_cases h:1<=d.eg.length/\d.eg.length<=5
 . obtain⟨l,c,l2,e⟩:=UL a.2 h.2 h.1 d.eg.length 0 [] (by omega) rfl (λj b=>by omega);grind
 grind
structure c8 (ts:List ai):Prop where
 cZ:1<=ts.length
 fu:ts.length<=5
 T:∀t,t∈ts->eW t
 V:nT ts
 D:∀t,t∈ts->afQ ts t.af
 R:∀i:Nat,i<ts.length->∀m,m∈(ts.getD i aG).af->0<=m.av/\m.av<ts.length/\(7<=(ts.getD m.av.toNat aG).Kind\/m.av<i)
 L:∀t,t∈ts->t.Kind=2->-3<=t.bJ/\t.bN<=8
 M:∀t,t∈ts->t.Max<=3
 cu:∀t,t∈ts->(∀m,m∈t.af->m.ad<=12)/\(∀y,y∈t.bj->y.ad<=6)/\t.af.length<=12
 W:∀t,t∈ts->∀m,m∈t.af->m.bu=true->wt m.bm<=13
theorem ql(c:v.aB=[])(b:v.ag=[])(d:v.Rest=[])(hs:v.bt.length<=1000)(cZ:cy v.Kind)(e:cy v.bg)(f:cy v.ad):bC v:=by
 refine .mk v (by unfold reachBytes;omega) (by rw[c];simp) (by rw[b];simp) (by rw[d];simp) (λx a=>?_) (λx a=>?_) (λx a=>?_) cZ e f (λx a=>?_)
 . grind
 . grind
 . grind
 grind
theorem UN:bC ar:=ql rfl rfl rfl (by simp[ar]) (by unfold cy ar;simp) (by unfold cy ar;simp) (by unfold cy ar;simp)
theorem Qt(b:v.aB=[])(a:v.ag=[])(c:v.Rest=[]):wt v=10+v.bt.length:=by
 rw[eV,b,a,c,gK];simp
section
variable {aL:List fC}(cq:∀x,x∈aL->o7 x)(bf:aL.length<=5)(h1:1<=aL.length){l:List ai}(ah:l.length=aL.length)(cS:∀j,j<aL.length->fq aL (j:Int) (l.getD j aG))
include cq bf in
theorem Qu(ht:0<=t/\t<aL.length)(h:Init aL t v):bC v/\wt v<=13:=by
 obtain⟨a,b,c,h⟩:=h;obtain⟨j,rfl⟩:∃j:Nat,t=(j:Int):=⟨t.toNat,by omega⟩
 have d:=cq _ (aZ (by omega:j<aL.length) eP);obtain⟨_,k1,k9⟩:=rT cq bf ht.1 ht.2;rw[aV]at h;have f:=d.a;have g:=d.b;have i:=(vD (aL.getD j eP)).2.1.2;unfold df at f g;rw[Qt a b c];have hs:v.bt.length<=3:=by grind
 refine⟨ql a b c (by omega) ?_ ?_ ?_,by omega⟩
 . unfold cy;rcases h with h|h|h|h|h<;>omega
 . unfold cy;rcases h with⟨_,_,e,_⟩|⟨_,_,_,_,_,e⟩|⟨_,_,_,e,_⟩|⟨_,_,_,e,_⟩|⟨_,_,e,_⟩<;>omega
 . unfold cy;grind
include cq bf in
theorem NZ{i:Int}{r:Bool}{f:List aR}(h:vg aL i r f):qx (!r) f\/(r=false/\f=[]):=by
 obtain⟨a,b,c⟩:=h;by_cases h0:r=false/\f=[]
 . grind
 left;refine⟨λm d=>?_,?_,⟨a,λm d=>?_⟩,λm d=>?_,?_,by omega⟩
 . have q:=b m d;unfold mQ;have t:m.bu=false->qw m.bm=true:=λh=>by
    rw[q.UH h];have l:eX (l9 (ar,ar)) ar ar:=EK UN ar;obtain⟨w,z,A⟩:=l;unfold qw;grind
   have p:=q.gf;have s:=q.un;grind
 . grind
 . have:=(b m d).id;exact⟨by omega,by omega⟩
 . have q:=b m d;have:=q.id;rw[q.name];exact RR (by omega) (by omega)
 . unfold List.Nodup;rw[nA];refine a.imp_of_mem λ{x y} n o aC=>?_;have g:=b x n;have j:=b y o;have u:=g.id;have v:=j.id;rw[g.name,j.name];intro e;simp only[List.cons.injEq,qA,uM]at e;have k:=eM UInt8.toNat e;rw[l8 (by omega),l8 (by omega)]at k;omega
theorem N0{l:ao}(h:vd l 6)(h1:1<=l.length)(d:l.length<=6):Bg (qI l)/\(∀y,y∈qI l->y.ad<=6):=by
 unfold qI;refine⟨⟨by simp;omega,⟨?_,λy b=>?_⟩,λy b=>?_,?_,by simp;omega⟩,λy b=>?_⟩
 . rw[nA];exact h.1
 . obtain⟨x,a,rfl⟩:=eS.1 b;have:=h.2 x a;exact⟨this.1,by show x<=1000;omega⟩
 . obtain⟨x,a,rfl⟩:=eS.1 b;have:=h.2 x a;exact RR (by omega) (by omega)
 . unfold List.Nodup;rw[nA,nA];refine h.1.imp_of_mem λ{x y} a b aC=>?_;have f:=h.2 x a;have g:=h.2 y b;intro e;simp only[List.cons.injEq,qA,uM]at e;have c:=eM UInt8.toNat e;rw[l8 (by omega),l8 (by omega)]at c;omega
 . obtain⟨x,a,rfl⟩:=eS.1 b;exact(h.2 x a).2
theorem Qv{i:Int}{t:ai}(h:fq aL i t):(ek aL i<=5\/ek aL i=7\/ek aL i=9->t.Kind=ek aL i)/\(ek aL i=6->t.Kind=5\/t.Kind=6)/\(ek aL i=8->(t.Kind=8/\∃w,o5 aL w)\/(t.Kind=7/\¬∃w,o5 aL w)):=by
 unfold fq at h;rcases h with⟨k,rfl⟩|⟨k,rfl⟩|⟨k,rfl⟩|⟨k,_,rfl⟩|⟨k,_,_,rfl⟩|⟨k,rfl⟩|⟨k,_,_,_,_,rfl⟩|⟨k,rfl⟩|⟨k,a,rfl⟩|⟨k,w,a,rfl⟩|⟨k,rfl⟩<;>simp[k]
 . omega
 grind
theorem H'{i:Int}{t:ai}(h:fq aL i t):t.af=[]\/∃r,vg aL i r t.af:=by
 unfold fq at h;rcases h with⟨k,rfl⟩|⟨k,rfl⟩|⟨k,rfl⟩|⟨k,_,rfl⟩|⟨k,_,a,rfl⟩|⟨k,rfl⟩|⟨k,_,_,a,_,rfl⟩|⟨k,rfl⟩|⟨k,a,rfl⟩|⟨k,w,a,rfl⟩|⟨k,rfl⟩
 . grind
 . grind
 . grind
 . grind
 . grind
 . grind
 . grind
 . grind
 . grind
 . grind
 grind
include cq bf h1 ah cS in
theorem aes:c8 l:=by
 have p:∀{P:ai->Prop},(∀j,j<aL.length->P (l.getD j aG))->∀t,t∈l->P t:=λak t ht=>by
  obtain⟨i,n,rfl⟩:=e3 ht;grind
 have D:∀j,j<aL.length->o7 (aL.getD j eP):=λj d=>cq _ (aZ d eP);have F:∀j,j<aL.length->∀m,m∈(l.getD j aG).af->∃r,vf aL (j:Int) r m:=λj d m f=>by
  rcases H' (cS j d)with h|⟨r,_,h,_⟩
  . grind
  grind
 have aa:∀t,t∈l->eW t:=p λj d=>by
  have f:=F j d;have ht:=cS j d;have ah:(l.getD j aG).af.length<=12:=by
   rcases H' ht with h|⟨r,_,_,h⟩
   . rw[h];simp
   . exact h
  have aj:(l.getD j aG).bj.length<=6:=by
   have n:=(vD (aL.getD j eP)).2.2.2;unfold fq at ht;rcases ht with⟨k,e⟩|⟨k,e⟩|⟨k,e⟩|⟨k,_,e⟩|⟨k,_,_,e⟩|⟨k,e⟩|⟨k,_,_,_,_,e⟩|⟨k,e⟩|⟨k,_,e⟩|⟨k,_,_,e⟩|⟨k,e⟩<;>rw[e]
   case inr.inr.inr.inl=>simp only[aV,qI,jc];exact n
   all_goals simp
  refine⟨by unfold reachBytes;omega,by unfold reachBytes;omega,λm Z=>?_⟩;obtain⟨r,q⟩:=f m Z;by_cases E:m.bu=true
  . exact(Qu cq bf ⟨q.sm.1,q.sm.2.1⟩ (q.ki E)).1
  . rw[q.UH (by simpa using E)];exact UN
 have am:∀u:Int,0<=u->u<aL.length->7<=ek aL u->7<=(l.getD u.toNat aG).Kind:=λu h0 B J=>by
  obtain⟨j,rfl⟩:∃j:Nat,u=(j:Int):=⟨u.toNat,by omega⟩
  rw[aV];obtain⟨_,_,k9⟩:=rT cq bf h0 B;obtain⟨a,b,c⟩:=Qv (cS j (by omega));omega
 have ab:nT l:=by
  refine⟨by omega,p λj d=>?_,λj d=>?_,p λj d=>?_,p λj d G=>?_⟩
  . have ht:=cS j d;have A:=vD (aL.getD j eP);have z:=(D j d).a;have K:=(D j d).b;have H:nm [UInt8.ofNat (65+j)]=true:=afT (by omega);unfold df at z K;unfold fq at ht;simp only[aV]at ht;generalize [UInt8.ofNat (65+j)]=ao at H ht;unfold gk;rcases ht with⟨k,e⟩|⟨k,e⟩|⟨k,e⟩|⟨k,_,e⟩|⟨k,g,a,e⟩|⟨k,e⟩|⟨k,g,_,a,a0,e⟩|⟨k,e⟩|⟨k,_,e⟩|⟨k,_,_,e⟩|⟨k,e⟩<;>rw[e]
    . simp
    . simp;omega
    . simp;omega
    . simp;exact⟨H,(N0 A.2.1 A.2.2.1 A.2.2.2).1⟩
    . simp;refine⟨H,?_⟩;rcases NZ cq bf a with h|⟨h,_⟩
      . exact h
      . cases h
    . simp;exact⟨H,λm f=>(by cases f),.inl rfl,⟨.nil,λm f=>by cases f⟩,λm f=>(by cases f),by simp,by simp⟩
    . simp;refine⟨H,?_⟩;rcases NZ cq bf a with h|⟨_,h⟩
      . exact h
      grind
    . simp;omega
    . simp;omega
    . simp;omega
    . simp
  ·
   have U:∀k,k<aL.length->(l.getD k aG).Name=[]\/(l.getD k aG).Name=[UInt8.ofNat (65+k)]:=λk S=>by
    have ht:=cS k S;unfold fq at ht;simp only[aV]at ht;rcases ht with⟨k,e⟩|⟨k,e⟩|⟨k,e⟩|⟨k,_,e⟩|⟨k,g,a,e⟩|⟨k,e⟩|⟨k,g,_,a,a0,e⟩|⟨k,e⟩|⟨k,_,e⟩|⟨k,_,_,e⟩|⟨k,e⟩<;>rw[e]<;>simp
   rcases U j (by omega)with h|h
   . rw[h];simp
   . rw[h];simp only[Bool.and_eq_false_iff];right;apply GI.2;intro L;obtain⟨k,S,he⟩:=(pV).1 L;have aq:(l.map (·.Name)).getD k []=(l.getD k aG).Name:=iE (·.Name) l k aG [] (by omega);rw[aq]at he;rcases U k (by omega)with Q|Q
     . grind
     . rw[Q]at he;simp only[List.cons.injEq,qA]at he;have s:=eM UInt8.toNat he;rw[l8 (by omega),l8 (by omega)]at s;omega
  . intro u B;have f:=F j d;have L:=(D j d).c;unfold df at L;have V:0<=(aL.getD j eP).C%(aL.length:Int):=mD _ (by omega);have W:(aL.getD j eP).C%(aL.length:Int)<aL.length:=mz _ (by omega);have ht:=cS j d;unfold fq at ht;simp only[aV]at ht;generalize (aL.getD j eP).C%(aL.length:Int)=ag at V W ht;unfold fm at B;simp only[hb,eS]at B;rcases B with(⟨m,h,rfl⟩|h)|h
    . obtain⟨r,q⟩:=f m h;have:=q.sm.1;have:=q.sm.2.1;omega
    . split at h
      . rename_i G;have:u=(l.getD j aG).Key:=(by simpa using h);rw[this];rcases ht with⟨k,e⟩|⟨k,e⟩|⟨k,e⟩|⟨k,_,e⟩|⟨k,g,a,e⟩|⟨k,e⟩|⟨k,g,_,a,a0,e⟩|⟨k,e⟩|⟨k,_,e⟩|⟨k,w,a,e⟩|⟨k,e⟩<;>rw[e]at G⊢<;>simp at G⊢;obtain⟨j9,ae,_⟩:=a;omega
      . cases h
    . split at h
      . rename_i J;have:u=(l.getD j aG).aD:=(by simpa using h);rw[this];rcases ht with⟨k,e⟩|⟨k,e⟩|⟨k,e⟩|⟨k,_,e⟩|⟨k,g,a,e⟩|⟨k,e⟩|⟨k,g,_,a,a0,e⟩|⟨k,e⟩|⟨k,_,e⟩|⟨k,w,a,e⟩|⟨k,e⟩<;>rw[e]at J⊢<;>simp at J⊢<;>omega
      . cases h
  . have ht:=cS j d;unfold fq at ht;simp only[aV]at ht;rcases ht with⟨k,e⟩|⟨k,e⟩|⟨k,e⟩|⟨k,_,e⟩|⟨k,g,a,e⟩|⟨k,e⟩|⟨k,g,_,a,a0,e⟩|⟨k,e⟩|⟨k,_,e⟩|⟨k,w,a,e⟩|⟨k,e⟩<;>rw[e]at G⊢<;>simp at G⊢;obtain⟨j9,ae,au,aw⟩:=a;obtain⟨q,rfl⟩:∃q:Nat,w=(q:Int):=⟨w.toNat,by omega⟩
    obtain⟨a,_,_⟩:=Qv (cS q (by omega));have:=a (.inl (by omega));simp_all
 refine⟨by omega,by omega,aa,ab,p λj d m f E=>?_,λj d m f=>?_,p λj d R=>?_,p λj d=>?_,p λj d=>⟨λm f=>?_,λy M=>?_,?_⟩,p λj d m f E=>?_⟩
 . obtain⟨r,q⟩:=F j d m f;have n:=q.ki E;obtain⟨N,O,_⟩:=q.sm;generalize m.bm=v at n;obtain⟨u,B⟩:∃u:Nat,m.av=(u:Int):=⟨m.av.toNat,by omega⟩
   rw[B]at n N O⊢;have ht:=cS u (by omega);obtain⟨a,b,c,n⟩:=n;rw[dO];simp only[aV]at n⊢;unfold fq at ht;simp only[aV]at ht;have Y:((l.length:Nat):Int)=aL.length:=(by omega);rw[Y];generalize l.getD u aG=x at ht⊢;rw[a,b,c];have ar:∀t,e0 l true t []:=λt=>by rw[e0];trivial
   have al:jX []:=λi n=>by simp at n
   have T:=D u (by omega);generalize aL.getD u eP=an at ht n T;rcases n with⟨k,aM,s,c2,h5⟩|⟨k,aM,s,c2,h5,lJ,mU⟩|⟨k,aM,s,c2,h5,lJ⟩|⟨k,aM,s,c2,h5,lJ⟩|⟨k,aM,s,c2,h5,lJ⟩
   . rw[k]at ht;grind
   . rw[k]at ht;grind
   . rw[k]at ht;grind
   . rw[k]at ht;simp only[Int.reduceEq,false_and,uM,or_false,false_or]at ht;obtain⟨o,rfl⟩:=ht;rw[aM,s,c2,h5];simp;refine⟨by omega,⟨v.ad,[UInt8.ofNat 115,UInt8.ofNat (97+v.ad.toNat)]⟩,?_,rfl⟩;unfold qI;grind
   . rw[aM,s,c2,h5];have k9:ek aL (u:Int)<=9:=(rT cq bf N O).2.2;have X:ek aL (u:Int)=7\/ek aL (u:Int)=8\/ek aL (u:Int)=9:=(by omega);have z:=T.a;unfold df at z;rcases X with I|I|I
     . rw[I]at ht lJ;grind
     . rw[I]at ht lJ;grind
     . rw[I]at ht lJ;grind
 . obtain⟨r,q⟩:=F j (by omega) m f;obtain⟨N,O,ap⟩:=q.sm;grind
 . have ht:=cS j d;have z:=(D j d).a;have K:=(D j d).b;unfold df at z K;unfold fq at ht;simp only[aV]at ht;rcases ht with⟨k,e⟩|⟨k,e⟩|⟨k,e⟩|⟨k,_,e⟩|⟨k,g,a,e⟩|⟨k,e⟩|⟨k,g,_,a,a0,e⟩|⟨k,e⟩|⟨k,_,e⟩|⟨k,w,a,e⟩|⟨k,e⟩<;>rw[e]at R⊢<;>simp at R⊢;omega
 . have ht:=cS j d;have z:=(D j d).a;unfold df at z;unfold fq at ht;simp only[aV]at ht;rcases ht with⟨k,e⟩|⟨k,e⟩|⟨k,e⟩|⟨k,_,e⟩|⟨k,g,a,e⟩|⟨k,e⟩|⟨k,g,_,a,a0,e⟩|⟨k,e⟩|⟨k,_,e⟩|⟨k,w,a,e⟩|⟨k,e⟩<;>rw[e]<;>simp<;>omega
 . obtain⟨r,q⟩:=F j d m f;exact q.id.2
 . have ht:=cS j d;have A:=vD (aL.getD j eP);unfold fq at ht;simp only[aV]at ht;rcases ht with⟨k,e⟩|⟨k,e⟩|⟨k,e⟩|⟨k,_,e⟩|⟨k,g,a,e⟩|⟨k,e⟩|⟨k,g,_,a,a0,e⟩|⟨k,e⟩|⟨k,_,e⟩|⟨k,w,a,e⟩|⟨k,e⟩<;>rw[e]at M<;>simp at M;exact(N0 A.2.1 A.2.2.1 A.2.2.2).2 y M
 . rcases H' (cS j d)with h|⟨r,_,_,h⟩
   . rw[h];simp
   . exact h
 . obtain⟨r,q⟩:=F j d m f;exact(Qu cq bf ⟨q.sm.1,q.sm.2.1⟩ (q.ki E)).2
end
theorem GM{d:ep}(g:vb d):q0 d=some (⟨[]⟩,false)\/∃l,q0 d=some (⟨l⟩,true)/\c8 l:=by
 rcases of_eq g with h|⟨l,a,b,c,e,f⟩
 . exact .inl h
 . exact .inr ⟨l,a,aes g.2 c b e f⟩
def fv(a C:ao):Prop:=a.length<=C.length/\∀c,c∈a->c∈C
theorem fv.refl(C:ao):fv C C:=⟨eI _,λ_ h=>h⟩
theorem fv.trans{A B C:ao}(h:fv A B)(k:fv B C):fv A C:=⟨fg h.1 k.1,λc a=>k.2 c (h.2 c a)⟩
def gS(C:ao):Prop:=∀c,c∈C->df c
theorem gS.dK{A B:ao}(h:gS B)(k:fv A B):gS A:=λc a=>h c (k.2 c a)
section
variable {ts:List ai}
theorem lB{n:Int}(aJ:1<=n/\n<=1000){C:ao}(cM:gS C)(ah:C.length<=1000)(odd:Bool):
 ∃r a,iY (n,ts,C,odd)=some (r,ts,a,odd)/\0<=r/\r<n/\fv a C/\(r=0/\a=[]/\C=[]\/a.length+1=C.length):=by
 rw[iY];cases C with
 |nil=>
  exact⟨0,[],rfl,by simp,by omega,fv.refl _,.inl ⟨rfl,rfl,rfl⟩⟩
 |cons c C=>
  have b:=cM c (.head _);unfold df at b;have h1:d' 1 (c::C).length (c::C).length=true:=jW (by simp) (by simp);have d:et (c::C) 1 (c::C).length=C:=by
   have:=oM (c::C) 1;grind
  rw[ae (uJ (by omega)),ae h1,d];simp only[uU,mw];rw[lI ⟨by omega,by omega⟩,hp b.1];exact⟨_,C,rfl,mD _ (by omega),mz _ (by omega),⟨by simp,λx e=>.tail _ e⟩,.inr (by rfl)⟩
theorem Kc{C:ao}(cM:gS C)(ah:C.length<=1000)(odd:Bool):
 ∃o a,vM (ts,C,odd)=some (o,ts,a,odd)/\(odd=false->o=false)/\fv a C:=by
 rw[vM];cases odd with
 |false=>grind[fv.refl]
 |true=>
  obtain⟨r,a,h1,_,_,b,_⟩:=lB (n:=4) ⟨by simp,by simp⟩ cM ah _;rw[h1];exact⟨_,a,rfl,λh=>(by grind),b⟩
theorem afr(b:x.af.length<9223372036854775807)(hs:x.bj.length<9223372036854775807)(n:Int):dk (DS (x,n)) ((∃m,m∈x.af/\m.ad=n)\/∃y,y∈x.bj/\y.ad=n):=by
 obtain⟨r,_,c,a⟩:=ma n b;obtain⟨s,_,d,aq⟩:=p0 n hs;rw[DS,c];rw[d];refine⟨_,rfl,?_⟩;have h1:=EL aq;have f:r.2=true↔∃m,m∈x.af/\m.ad=n:=by
  rcases uv a with⟨e,j,g,_,_,i⟩|⟨e,q⟩
  . grind
  grind[oG]
 grind
theorem N1(c:x.af.length<9223372036854775807)(hs:x.bj.length<9223372036854775807)(d:∀m,m∈x.af->m.ad<=12)(e:∀y,y∈x.bj->y.ad<=6)(C:ao)(odd:Bool):
 ∀(k:Nat) (n:Int),1<=n->n<=14->13<=n+k->∃a,vK (n,ts,C,odd,x)=some (a,ts,C,odd)/\1<=a/\a<=14/\(∀m,m∈x.af->m.ad≠a)/\(∀y,y∈x.bj->y.ad≠a)
 |k,n,h1,g,b=>by
  obtain⟨r,f,j⟩:=afr c hs n;rw[vK,f];cases r with
  |false=>grind
  |true=>
   have i:n<=12:=(by grind);rw[kp (by omega) (by omega)]
   match k,b with
   |0,b=>omega
   |k+1,b=>exact N1 c hs d e C _ k _ (by omega) (by omega) (by omega)
theorem Ia(e:x.af.length<9223372036854775807)(hs:x.bj.length<9223372036854775807)(b:∀m,m∈x.af->m.ad<=12)(d:∀y,y∈x.bj->y.ad<=6){C:ao}(cM:gS C)(ah:C.length<=1000)(odd:Bool):
 ∃n a,rE (x,ts,C,odd)=some (n,ts,a,odd)/\cv n/\cw x.af n=none/\fv a C:=by
 obtain⟨r,a,h1,f,g,c,_⟩:=lB (ts:=ts) (n:=14) ⟨by simp,by simp⟩ cM ah odd;obtain⟨n,cZ,i,j,k,_⟩:=N1 (ts:=ts) e hs b d a odd 12 (1+r) (by omega) (by omega) (by omega);refine⟨n,a,?_,⟨by omega,by omega⟩,?_,c⟩
 . grind[rE,kp]
 grind[cw]
theorem PR{n:Int}{C:ao}(cM:gS C)(ah:C.length<=1000)(odd:Bool):∃d a,vN (n,ts,C,odd)=some (⟨n,d⟩,ts,a,odd)/\d.length<=3/\fv a C:=by
 obtain⟨r,a,h1,b,c,e,_⟩:=lB (n:=4) ⟨by simp,by simp⟩ cM ah _;obtain⟨k,rfl⟩:∃k:Nat,r=k:=⟨r.toNat,by omega⟩
 rw[vN];simp;rw[h1];simp only[ak];rw[ae (aH (by grind))];grind
theorem Qw(odd:Bool):∀(k:Nat) (s:aj) (C:ao),k<=100->gS C->C.length<=1000->s.length+k<=100->∃b a,sZ (s,(k:Int),ts,C,odd)=some (b,ts,a,odd)/\b.length<=s.length+k/\fv a C
 |0,s,C,g,cM,ah,hs=>⟨s,C,by simp_all[sZ],by simp,fv.refl _⟩
 |k+1,s,C,g,cM,ah,hs=>by
  obtain⟨r,a,h1,f,j,c,_⟩:=lB (n:=3) ⟨by simp,by simp⟩ cM ah _;have i:decide (0<((k+1:Nat):Int))=true:=by simp
  have e:di .i64 (k+1:Nat) 1=k:=by grind[hJ]
  rw[sZ,ae i,h1];simp only[aS,ak];rw[J9 ⟨f,by omega⟩,ae (ga (by grind)),e];obtain⟨b,d,a1,a2,a3⟩:=Qw _ k (s++[UInt8.ofNat _]) a (by omega) (cM.dK c) (by grind) (by grind);exact⟨b,d,a1,by grind,a3.trans c⟩
theorem afs{most:Int}(f:0<=most/\most<=1000){C:ao}(cM:gS C)(ah:C.length<=1000)(odd:Bool):∃s a,Db (most,ts,C,odd)=some (s,ts,a,odd)/\(s.length:Int)<=most/\s.length<=3/\fv a C:=by
 have em:aK .i64 (ja most 3) 1=min most 3+1:=by
  have:ja _ 3=min most 3:=rfl;grind[kp]
 obtain⟨r,a,h1,d,e,b,_⟩:=lB (ts:=ts) (n:=min most 3+1) ⟨by omega,by omega⟩ cM ah odd;obtain⟨k,rfl⟩:∃k:Nat,r=k:=⟨r.toNat,by omega⟩
 obtain⟨s,c,a1,a2,a3⟩:=Qw (ts:=ts) odd k [] a (by omega) (cM.dK b) (by grind) (by grind);refine⟨s,c,?_,by grind,by grind,a3.trans b⟩;grind[Db]
end
theorem K6:∀a b:aj,Op.bytesLess a b=false->a≠b->Op.bytesLess b a=true
 |[],[],_,h=>absurd rfl h
 |[],y::b,h,_=>by grind[Op.bytesLess]
 |x::a,[],h,_=>by rfl
 |x::a,y::b,h,c=>by
  simp[Op.bytesLess]at h⊢;by_cases h1:x<y
  . grind
  . by_cases f:y<x
    . grind
    . have d:Op.bytesLess a b=false:=(by grind);have:=K6 a b d (λe=>c (by grind));grind
theorem wK{a b:I}(c:cy a.bg)(d:cy b.bg):n' (a,b)=some (hT a b):=by
 grind[DF,hT]
theorem acf{a b:I}(d:cy a.bg)(e:cy b.bg)(h:0<hT a b):hT b a<0:=by
 have h1:=wK d e;have c:=wK e d;rw[n']at h1 c;by_cases f:a.Kind=b.Kind
 . rw[al (by grind)]at h1 c;by_cases k1:a.Kind=1
   . have g:b.Kind=1:=(by omega);simp only[kJ,fy]at h1 c;grind
   . rw[al (by grind)]at h1;rw[al (by grind)]at c;by_cases k2:a.Kind=2
     . have i:b.Kind=2:=(by omega);rw[ae (by grind),ui d,ui e]at h1;rw[ae (by grind),ui d,ui e]at c;simp only[aS,ak,kJ]at h1 c;grind[Qi]
     . rw[al (by grind)]at h1;rw[al (by grind)]at c;by_cases k3:a.Kind=3
       . have j:b.Kind=3:=(by omega);rw[ae (by grind)]at h1;rw[ae (by grind)]at c;simp only[aS,ak,kJ]at h1 c;by_cases ah:a.bt.length=b.bt.length
         . grind[K6]
         grind
       . rw[al (by grind)]at h1;rw[al (by grind)]at c;by_cases k4:a.Kind=4
         . simp only[aS,ak,kJ]at h1 c;grind
         grind
 grind
theorem UY{key item:I}(ah:v.aB.length<1000000)(l:∀x,x∈v.aB->cy x.bg)(n:cy key.bg)(a:Int)(b:Bool)(c:Int)(d:aj)(e:Int):∀(k i:Nat),i+k=v.aB.length->
 (∀j,j<i->hT (v.aB.getD j ar) key<0)->∃m:Nat,m<=v.aB.length/\rh ((i:Int),v,key,item,a,b,c,d,e)=some ((m:Int),v,key,item,a,b,c,d,e)/\(∀j,j<m->hT (v.aB.getD j ar) key<0)/\(m<v.aB.length->0<=hT (v.aB.getD m ar) key)
 |0,i,p,g=>by
  have f:decide (i<(v.aB.length:Int))=false:=by grind
  refine⟨i,by omega,?_,g,λh=>by omega⟩;rw[rh];simp only[aS,ak,f,en,Bool.or_true,bM,bW,b6,dU,I.aP]
 |k+1,i,p,g=>by
  have aC:i<v.aB.length:=by omega
  have f:decide ((i:Int)<(v.aB.length:Int))=true:=by grind
  have o:=wK (l _ (aZ aC ar)) n;rw[rh];simp only[aS,ak,f,de,jd,bM,I.aP,aV];rw[ae (aH aC),o];simp only[ak];by_cases r:hT (v.aB.getD i ar) key<0
  . rw[ae (by grind),bA (by omega)];refine UY ah l n a b c d e k _ (by omega) λj q=>?_;grind
  grind
theorem EM:∀(a b:List I),cx (a++b)=cx a+cx b
 |[],b=>by grind[gK]
 |x::a,b=>by rw[uR,gW,gW,EM a b];omega
theorem PS{l:List α}{m:Nat}{x d:α}(a:m<=l.length)(i:Nat):(l.take m++(x::l.drop m)).getD i d=if i<m then l.getD i d else if i=m then x else l.getD (i-1) d:=by grind
theorem afV{key item:I}(ah:v.aB.length<1000)(r:v.ag.length=v.aB.length)(k:∀x,x∈v.aB->cy x.bg)(l:cy key.bg)(e:jX v.aB):
 ∃ks b,DW (v,key,item)=some ⟨v.Kind,v.bS,v.bg,v.bt,v.ad,ks,b,v.Rest⟩/\b.length=ks.length/\ks.length<=v.aB.length+1/\jX ks/\(∀x,x∈ks->x∈v.aB\/x=key)/\(∀x,x∈b->x∈v.ag\/x=item)/\cx ks+cx b<=cx v.aB+cx v.ag+wt key+wt item:=by
 obtain⟨m,d,t,C,D⟩:=UY (item:=item) (by omega) k l 0 false 0 [] 0 v.aB.length 0 (by simp) (λj A=>by omega);have u:rh (0,v,key,item,0,false,0,[],0)=_:=t;rw[DW];simp only[I.aP];rw[u];simp only[aS,ak,I.aP];have ins:∀(s:m<v.aB.length->0<hT (v.aB.getD m ar) key),∃ks b,(some (⟨v.Kind,v.bS,v.bg,v.bt,v.ad,v.aB.take m++(key::v.aB.drop m),v.ag.take m++(item::v.ag.drop m),v.Rest⟩:I):Option I)=some ⟨v.Kind,v.bS,v.bg,v.bt,v.ad,ks,b,v.Rest⟩/\b.length=ks.length/\ks.length<=v.aB.length+1/\jX ks/\(∀x,x∈ks->x∈v.aB\/x=key)/\(∀x,x∈b->x∈v.ag\/x=item)/\cx ks+cx b<=cx v.aB+cx v.ag+wt key+wt item:=by
  intro s;refine⟨_,_,rfl,by grind,by grind,λi z=>?_,λx c=>?_,λx c=>?_,?_⟩
  . rw[PS d,PS d];have B:(v.aB.take m++(key::v.aB.drop m)).length=v.aB.length+1:=(by grind);by_cases h1:i+1<m
    . rw[fe,ae h1];exact e i (by omega)
    . by_cases w:i+1=m
      . grind
      . by_cases y:i=m
        . simp_all[al,ae,acf,aZ]
        . have:=e (i-1) (by omega);grind
  . grind
  . grind
  grind[EM,gW,List.take_append_drop]
 have s1:d' 0 (m:Int) v.aB.length=true:=jW (a:=0) (by simp) d;have n:d' (m:Int) (v.aB.length:Int) v.aB.length=true:=jW d (by simp);have o:d' 0 (m:Int) v.ag.length=true:=jW (a:=0) (by simp) (by omega);have p:d' (m:Int) (v.ag.length:Int) v.ag.length=true:=jW (by omega) (by simp);by_cases g:m<v.aB.length
 . have f:decide ((m:Int)<(v.aB.length:Int))=true:=(by grind);have q:=wK (k _ (aZ g ar)) l;simp only[f,de,jd,bM,ed,aV];rw[ae (aH g),q];simp only[ak];by_cases h0:hT (v.aB.getD m ar) key=0
   . rw[ae (by grind)];refine⟨v.aB,v.ag,by cases v;rfl,r,by simp,e,λx c=>.inl c,λx c=>.inl c,by omega⟩
   . rw[al (by grind),ae s1,ae (cV (by simp) (by grind[et]))];rw[ae (cV (by simp) (by grind[et])),ae n,ae (cV (by simp) (by grind[et])),ae o,ae (cV (by simp) (by grind[et])),ae (cV (by simp) (by grind[et])),ae p,ae (cV (by simp) (by grind[et]))];rw[uz,uz,oM,oM];simp only[fH,gg,List.singleton_append];exact ins λ_=>by grind
 . have f:decide ((m:Int)<(v.aB.length:Int))=false:=by simp;omega
   simp only[f,en,Bool.or_true,bM,bW,b6,dU,ak];rw[ae s1,ae (cV (by omega) (by simp[et];omega))];rw[ae (cV (by omega) (by simp[et];omega)),ae n,ae (cV (by omega) (by simp[et];omega)),ae o,ae (cV (by omega) (by simp[et];omega)),ae (cV (by omega) (by simp[et];omega)),ae p,ae (cV (by omega) (by simp[et];omega))];rw[uz,uz,oM,oM];simp only[fH,gg,List.singleton_append];exact ins λh=>absurd h g
section
variable {ts:List ai}
mutual
theorem oY:∀(v:I) (t:Int),bO ts true t v->bO ts false t v
 |⟨k,b,i,s,id,ks,e,r⟩,t,h=>by
  rw[bO]at h⊢;obtain⟨⟨h1,p,q,B⟩,bf⟩:=h;have w:=Hn e;have D:=Hn ks;have E:=Vc e;refine⟨⟨h1,p,q,λh=>by cases h⟩,?_⟩
  have A:(match cw (ts.getD t.toNat aG).af id with
   |some m=>r=[]/\e.length=1/\e0 ts true m.av e
   |none=>(ts.getD t.toNat aG).Open=true/\true=false/\cv id/\e=[]/\∃d,r=[⟨id,d⟩])->(match cw (ts.getD t.toNat aG).af id with
   |some m=>r=[]/\e.length=1/\e0 ts false m.av e
   |none=>(ts.getD t.toNat aG).Open=true/\false=false/\cv id/\e=[]/\∃d,r=[⟨id,d⟩]):=by
   split
   . rintro ⟨a,b,c⟩;exact⟨a,b,w _ c⟩
   . rintro ⟨_,b,_⟩;cases b
  rcases bf with h|h|h|⟨a1,a2,a3,a4,a5,f,j,o⟩|⟨a1,a2,a3,a4,a5,f,j,o⟩|⟨a1,a2,a3,a4,a5,f⟩|⟨a1,a2,a3,a4,a5,f,j,o,a9⟩|⟨a1,a2,a3,a4,a5,f,j,o,a9,x,y⟩|⟨a1,a2,a3,a4,a5,f,j,o,a9⟩
  . exact .inl h
  . grind
  . grind
  . grind
  . grind
  . grind
  . grind
  . grind
  grind
theorem Hn:∀(l:List I) (t:Int),e0 ts true t l->e0 ts false t l
 |[],t,h=>by rw[e0];trivial
 |v::l,t,h=>by
  rw[e0]at h⊢;exact⟨oY v t h.1,Hn l t h.2⟩
theorem Vc:∀(l:List I) (ms:List aR),iv ts true ms l->iv ts false ms l
 |[],[],h=>by rw[iv];trivial
 |[],m::ms,h=>by
  have:iv ts true (m::ms) []=False:=by rw[iv]<;>(intros;simp_all)
  grind
 |v::l,[],h=>by
  have:iv ts true [] (v::l)=False:=by rw[iv]<;>(intros;simp_all)
  grind
 |v::l,m::ms,h=>by
  rw[iv]at h⊢;exact⟨oY v m.av h.1,Vc l ms h.2⟩
end
theorem aet(h:bO ts true t v)(pl:Bool):bO ts pl t v:=by
 cases pl with
 |true=>exact h
 |false=>exact oY v t h
def ky(ts:List ai)(t:Nat):Nat:=if 7<=(ts.getD t aG).Kind then 0 else t+1
def gj:Nat->Nat
 |0=>20
 |n+1=>12*gj n+20
theorem FA{a:Nat}:∀{b:Nat},a<=b->gj a<=gj b
 |0,h=>by have:a = 0:= by omega
          subst this;omega
 |b+1,h=>by
  by_cases e:a=b+1
  . grind
  . have:=FA (a:=a) (b:=b) (by omega);simp only[gj];omega
theorem Fz(r:Nat):20<=gj r:=FA (a:=0) (iq _)
theorem xT:gj 5=5429060:=rfl
def mN(ts:List ai)(odd:Bool)(C:ao)(r:Nat)(t:Int):Prop:=∃v a,jM (t,ts,C,odd)=some (v,ts,a,odd)/\bO ts (!odd) t v/\bC v/\fv a C/\wt v+32574360*a.length<=gj r+32574360*C.length
theorem RU {odd:Bool}{c r:Nat}(G:c<=1000){x:ai}(E:x.af.length<=12)(s:∀m,m∈x.af->(∀C,gS C->C.length<=c->mN ts odd C r m.av)/\(m.bu=true->bO ts true m.av m.bm/\bC m.bm/\wt m.bm<=13))
 (a0:Int)(a1:Bool)(a2:Int)(a3:aj)(a4:Int)(v0:Int)(v1:Bool)(g:Int)(v3:aj)(v4:Int):
 ∀(k i:Nat) (C:ao) (acc:List I),i+k=x.af.length->gS C->C.length<=c->acc.length=i->(∀j,j<i->bO ts (!odd) (x.af.getD j aw).av (acc.getD j ar))->(∀y,y∈acc->bC y)->
 ∃a b,mV ((i:Int),ts,C,odd,a0,a1,a2,a3,a4,x.Kind,x.Name,x.bJ,x.bN,x.Max,x.bj,x.af,x.Key,x.aD,x.Open,v0,v1,g,v3,v4,acc)=some (ts,b,odd,a0,a1,a2,a3,a4,x.Kind,x.Name,x.bJ,x.bN,x.Max,x.bj,x.af,x.Key,x.aD,x.Open,v0,v1,g,v3,v4,a)/\
  a.length=x.af.length/\(∀j,j<x.af.length->bO ts (!odd) (x.af.getD j aw).av (a.getD j ar))/\(∀y,y∈a->bC y)/\fv b C/\cx a+32574360*b.length<=cx acc+k*gj r+32574360*C.length
 |0,i,C,acc,K,cM,ah,F,p,l=>⟨acc,C,by rw[mV,cr],by omega,λj L=>p j (by omega),l,fv.refl _,by omega⟩
 |k+1,i,C,acc,K,cM,ah,F,p,l=>by
  have aC:i<x.af.length:=by omega
  obtain⟨t,J⟩:=s _ (aZ aC aw);have next:∀ (w:I) (d:ao),bO ts (!odd) (x.af.getD i aw).av w->bC w->fv d C->wt w+32574360*d.length<=gj r+32574360*C.length->
   ∃a b,(if room 120 (acc++[w]).length then mV (aK .i64 (i:Int) 1,ts,d,odd,a0,a1,a2,a3,a4,x.Kind,x.Name,x.bJ,x.bN,x.Max,x.bj,x.af,x.Key,x.aD,x.Open,v0,v1,g,v3,v4,acc++[w])else none)=some (ts,b,odd,a0,a1,a2,a3,a4,x.Kind,x.Name,x.bJ,x.bN,x.Max,x.bj,x.af,x.Key,x.aD,x.Open,v0,v1,g,v3,v4,a)/\
    a.length=x.af.length/\(∀j,j<x.af.length->bO ts (!odd) (x.af.getD j aw).av (a.getD j ar))/\(∀y,y∈a->bC y)/\fv b C/\cx a+32574360*b.length<=cx acc+(k+1)*gj r+32574360*C.length:=by
   intro w d P M hs Q;rw[ae (cV),bA (by omega)]
   obtain⟨a,b,b1,b2,b3,b4,B,D⟩:=RU G E s a0 a1 a2 a3 a4 v0 v1 g v3 v4 k (i+1) d (acc++[w]) (by omega) (cM.dK hs) (by have:=hs.1;omega) (by simp;omega) (λj L=>by
    grind) (λy N=>by
    rcases hb.1 N with h|h
    . exact l y h
    . have:y=w:=by simpa using h
      subst this;exact M)
   refine⟨a,b,b1,b2,b3,b4,B.trans hs,?_⟩;rw[EM,gW,gK]at D;have e:(k+1)*gj r=k*gj r+gj r:=Nat.succ_mul _ _;omega
  rw[mV,bE,ae (aH aC)];simp only[aS,ak,aV,I.aP];cases H:(x.af.getD i aw).bu with
  |true=>
   obtain⟨f1,f2,f3⟩:=J H;obtain⟨q,d,cZ,R,S,f,fu⟩:=lB (ts:=ts) (n:=3) ⟨by omega,by omega⟩ cM (by omega) odd;rw[ae rfl,cZ];simp only[ak,ed];by_cases h0:q=0
   . rw[ae (by simpa using h0)];have:=f.1;have:=Fz r;rw[ae (aH aC)];exact next _ d (aet f1 _) f2 f (by omega)
   . rw[al (by simpa using h0),ae (aH aC)];obtain⟨w,o,u,v,z,A,O⟩:=t d (cM.dK f) (by have:=f.1;omega);rw[u];simp only[ak,I.aP];have:=f.1;exact next w o v z (A.trans f) (by omega)
  |false=>
   rw[bz,bz,ae (aH aC)];obtain⟨w,o,u,v,z,A,O⟩:=t C cM ah;grind
theorem Qx{r:Nat}(m:c<=1000)(ec:∀C,gS C->C.length<=c->mN ts odd C r x.aD)
 (a0:Int)(a1:Bool)(a2:Int)(a3:aj)(a4:Int)(v0:Int)(v1:Bool)(f:Int)(v3:aj)(v4:Int):
 ∀(k:Nat) (C:ao) (acc:List I),acc.length+k<=100->gS C->C.length<=c->(∀y,y∈acc->bO ts (!odd) x.aD y/\bC y)->
 ∃a b,rC ((k:Int),ts,C,odd,a0,a1,a2,a3,a4,x.Kind,x.Name,x.bJ,x.bN,x.Max,x.bj,x.af,x.Key,x.aD,x.Open,v0,v1,f,v3,v4,acc)=some (ts,b,odd,a0,a1,a2,a3,a4,v0,v1,f,v3,v4,a)/\
  a.length=acc.length+k/\(∀y,y∈a->bO ts (!odd) x.aD y/\bC y)/\fv b C/\cx a+32574360*b.length<=cx acc+k*gj r+32574360*C.length
 |0,C,acc,l,cM,ah,g=>⟨acc,C,by rw[rC,bz],by omega,g,fv.refl _,by omega⟩
 |k+1,C,acc,l,cM,ah,g=>by
  have n:decide ((0:Int)<((k+1:Nat):Int))=true:=by rw[e4];omega
  have e:di .i64 ((k+1:Nat):Int) 1=(k:Int):=by rw[hJ (by omega) (by omega)];omega
  obtain⟨w,i,o,q,s,d,t⟩:=ec C cM ah;rw[rC,ae n,o];simp only[aS,ak,I.aP];rw[ae (cV),e];obtain⟨a,b,b1,b2,b3,b4,j⟩:=Qx m ec a0 a1 a2 a3 a4 v0 v1 f v3 v4 k i (acc++[w]) (by simp;omega) (cM.dK d) (by have:=d.1;omega) (λy p=>by grind);refine⟨a,b,b1,by simp at b2;omega,b3,b4.trans d,?_⟩;rw[EM,gW,gK]at j;grind
theorem RV {odd:Bool}{c r:Nat}(E:c<=1000){x:ai}(bD:∀C,gS C->C.length<=c->mN ts odd C r x.Key)(ec:∀C,gS C->C.length<=c->mN ts odd C r x.aD)
 (a0:Int)(a1:Bool)(a2:Int)(a3:aj)(a4:Int)(v0:Int)(v1:Bool)(j:Int)(v3:aj)(v4:Int)(R:List bQ):
 ∀(k:Nat) (C:ao) (ks a:List I),ks.length+k<=100->a.length=ks.length->gS C->C.length<=c->(∀y,y∈ks->bO ts (!odd) x.Key y/\bC y)->(∀y,y∈a->bO ts (!odd) x.aD y/\bC y)->jX ks->
 ∃b d f,rD ((k:Int),ts,C,odd,a0,a1,a2,a3,a4,x.Kind,x.Name,x.bJ,x.bN,x.Max,x.bj,x.af,x.Key,x.aD,x.Open,v0,v1,j,v3,v4,ks,a,R)=some (ts,f,odd,a0,a1,a2,a3,a4,v0,v1,j,v3,v4,b,d,R)/\
  b.length<=ks.length+k/\d.length=b.length/\(∀y,y∈b->bO ts (!odd) x.Key y/\bC y)/\(∀y,y∈d->bO ts (!odd) x.aD y/\bC y)/\jX b/\fv f C/\cx b+cx d+32574360*f.length<=cx ks+cx a+2*(k*gj r)+32574360*C.length
 |0,C,ks,a,D,n,cM,ah,m,aq,l=>⟨ks,a,C,by rw[rD,bz],by omega,n,m,aq,l,fv.refl _,by omega⟩
 |k+1,C,ks,a,D,n,cM,ah,m,aq,l=>by
  have F:decide ((0:Int)<((k+1:Nat):Int))=true:=by rw[e4];omega
  have e:di .i64 ((k+1:Nat):Int) 1=(k:Int):=by rw[hJ (by omega) (by omega)];omega
  obtain⟨w,s,J,W,K,i,X⟩:=bD C cM ah;have U:=i.1;obtain⟨z,t,cZ,L,M,o,fu⟩:=ec s (cM.dK i) (by omega);have V:=o.1;obtain⟨H,G,p,N,O,P,Q,q,S⟩:=afV (v:=⟨v0,v1,j,v3,v4,ks,a,R⟩) (key:=w) (item:=z) (by show ks.length<1000;omega) n (λy g=>wW (m y g).2) (wW K) l;simp only at p O Q q S;rw[rD,ae F,J];simp only[aS,ak,I.aP];rw[cZ];simp only[ak,I.aP];rw[p];simp only[ak];rw[e]
  obtain⟨b,d,f,b1,b2,b3,b4,u,A,B,T⟩:=RV E bD ec a0 a1 a2 a3 a4 v0 v1 j v3 v4 R k t H G (by omega) N ((cM.dK i).dK o) (by omega) (λy g=>by
   grind) (λy g=>by
   rcases q y g with h|h
   . exact aq y h
   . subst h;exact⟨L,M⟩) P
  refine⟨b,d,f,b1,by omega,b3,b4,u,A,B.trans (o.trans i),?_⟩;grind
theorem uj(hs:v.bt.length<=1000)(c:∀x,x∈v.aB->bC x)(b:∀x,x∈v.ag->bC x)(h1:v.aB.length<=1000)(g:v.ag.length<=1000)(i:v.Rest.length<=1000)(d:∀x,x∈v.Rest->x.Data.length<=1000/\cy x.ad)(cZ:cy v.Kind)(e:cy v.bg)(f:cy v.ad):bC v:=
 .mk v (by grind[reachBytes]) (by grind[reachBytes]) (by grind[reachBytes]) (by grind[reachBytes]) c b (λx a=>by grind[reachBytes]) cZ e f (λx a=>(d x a).2)
theorem tX{n:Int}(h:cv n):cy n:=by grind[cv,cy]
def BS(ts:List ai)(odd:Bool)(c r:Nat):Prop:=∀t:Nat,t<ts.length->ky ts t<=r->∀C,gS C->C.length<=c->mN ts odd C r (t:Int)
theorem Kd(H:c8 ts){t:Nat}(ht:t<ts.length:=by omega):ky ts t<=5:=by
 unfold ky;have:=H.fu;grind
theorem mN.up{C:ao}{r:Nat}(h:mN ts odd C r t)(o:r<=a):mN ts odd C a t:=by
 obtain⟨v,c,h1,e,f,j,bf⟩:=h;exact⟨v,c,h1,e,f,j,by have:=FA o;omega⟩
theorem aft(H:c8 ts){r:Nat}(bH:c<=60)(be:∀aW,aW<c->BS ts odd aW 5)(bf:∀G,G<r->BS ts odd c G):BS ts odd c r:=by
 intro t ht bQ C cM ah;have X:=aZ ht aG;have bn:=H.V.F _ X;have cS:=H.T _ X;have bM:=H.M _ X;obtain⟨aJ,aL,aX⟩:=H.cu _ X;have dm:=H.R t ht;have bp:=H.L _ X;have au:=H.V.U _ X;have bm:=H.D _ X;have ds:=H.W _ X;have bu:ky ts t=if 7<=(ts.getD t aG).Kind then 0 else t+1:=rfl
 unfold mN;rw[jM,ae (aH ht)];simp only[aS,ak,aV];have Q:=λv=>dO (ts:=ts) (!odd) (t:Int) v;simp only[aV]at Q;generalize bW:ts.getD t aG=x at*;have bD:=Fz r;have E:(0:Int)<=t/\(t:Int)<ts.length:=by omega
 have ab:∀(v:I) (z:ao),v.aB=[]->v.ag=[]->v.Rest=[]->v.bt.length<=3->fv z C->wt v+32574360*z.length<=gj r+32574360*C.length:=λv z a b c d e=>by rw[Qt a b c];have:=e.1;omega
 have below:∀l:ao,l.length+1=C.length->∀u:Int,0<=u->u<ts.length->∀p,gS p->p.length<=l.length->mN ts odd p 5 u:=λl h1 u bU bV p N O=>by
  obtain⟨k,rfl⟩:∃k:Nat,u=(k:Int):=⟨u.toNat,by omega⟩
  exact be l.length (by omega) k (by omega) (Kd H) p N O
 have bb:x.Kind=5\/x.Kind=6->1<=r/\∀m,m∈x.af->∀p,gS p->p.length<=c->mN ts odd p (r-1) m.av:=λbI=>by
  have bR:ky ts t=t+1:=by rw[bu,bl]
  refine⟨by omega,λm P p N O=>?_⟩;obtain⟨a,b,bi⟩:=dm m P;obtain⟨k,bs⟩:∃k:Nat,m.av=(k:Int):=⟨m.av.toNat,by omega⟩
  rw[bs]at bi⊢;refine bf (r-1) (by omega) k (by omega) ?_ p N O;have:ky ts k<=t:=by
   unfold ky;grind
  omega
 have aR:x.bj.length<9223372036854775807:=dx (ig cS.syms);have aO:x.af.length<9223372036854775807:=dx (ig cS.ha);unfold gk at bn;rcases bn with⟨k,_⟩|⟨k,f1,f2,_⟩|⟨k,f1,f2,f3,f4,_⟩|⟨k,f1,f2,f3,f4,f5,_⟩|⟨k,f1,f2,f3,f4,f5,f6,_⟩|⟨k,f1,f2,f3,f4,f5,f6,_⟩|⟨k,f1,f2,f3,f4,_⟩|⟨k,f1,f2,f3,f4,_⟩|⟨k,_⟩
 . obtain⟨q,l,cZ,Z,aa,g,fu⟩:=lB (ts:=ts) (n:=2) ⟨by omega,by omega⟩ cM (by omega) odd;rw[ae (by simp[k]),cZ];refine⟨_,l,rfl,?_,ql rfl rfl rfl (by simp) (by simp[cy,k]) (by simp[cy]) (by simp[cy]),g,ab _ _ rfl rfl rfl (by simp) g⟩;grind
 . obtain⟨q,l,cZ,Z,aa,g,fu⟩:=lB (ts:=ts) (n:=256) ⟨by omega,by omega⟩ cM (by omega) odd;have bF:=bp k;have aM:aK .i64 (di .i64 x.bN x.bJ) 1=x.bN-x.bJ+1:=by rw[hJ (by omega) (by omega),kp (by omega) (by omega)]
   have bX:0<=q%(x.bN-x.bJ+1):=mD _ (by omega);have bY:q%(x.bN-x.bJ+1)<x.bN-x.bJ+1:=mz _ (by omega);rw[al (by simp[k]),ae (by simp[k]),cZ];simp only[ak];rw[aM,ae (uJ (by omega)),hp Z,kp (by omega) (by omega)];refine⟨_,l,rfl,?_,ql rfl rfl rfl (by simp) (by simp[cy,k]) (by simp only[cy];omega) (by simp[cy]),g,ab _ _ rfl rfl rfl (by simp) g⟩;grind
 . obtain⟨s,l,cZ,Z,aa,g⟩:=afs (ts:=ts) (most:=x.Max) ⟨f4.1,by omega⟩ cM (by omega) odd;rw[al (by simp[k]),al (by simp[k]),ae (by simp[k]),cZ];refine⟨_,l,rfl,?_,ql rfl rfl rfl (by show s.length<=1000;omega) (by simp[cy,k]) (by simp[cy]) (by simp[cy]),g,ab _ _ rfl rfl rfl aa g⟩;grind
 . have bT:=f5.1;have bS:=f5.2.2.2.2;have a8:=f5.2.1.2;obtain⟨q,l,cZ,Z,aa,g,fu⟩:=lB (ts:=ts) (n:=(x.bj.length:Int)) ⟨by omega,by omega⟩ cM (by omega) odd;obtain⟨j,rfl⟩:∃j:Nat,q=(j:Int):=⟨q.toNat,by omega⟩
   have an:=g.1;have J:j<x.bj.length:=(by omega);have f:=aZ J dI;rw[al (by simp[k]),al (by simp[k]),al (by simp[k]),ae (by simp[k]),cZ];simp only[ak];rw[ae (aH J)];simp only[aV];cases bx:x.Open with
   |false=>
    rw[bz,bz];refine⟨_,l,rfl,?_,ql rfl rfl rfl (by simp) (by simp[cy,k]) (by simp[cy]) (tX (a8 _ f)),g,ab _ _ rfl rfl rfl (by simp) g⟩;grind
   |true=>
    obtain⟨o,p,aq,bc,A⟩:=Kc (ts:=ts) (cM.dK g) (by omega) odd;have ax:=A.1;rw[ae rfl,aq];simp only[ak,ed];cases o with
    |false=>
     rw[bz];refine⟨_,p,rfl,?_,ql rfl rfl rfl (by simp) (by simp[cy,k]) (by simp[cy]) (tX (a8 _ f)),(A.trans g),ab _ _ rfl rfl rfl (by simp) (A.trans g)⟩;grind
    |true=>
     have aQ:odd=true:=(by grind);obtain⟨n,aE,ar,aj,bd,K⟩:=Ia (ts:=ts) aO aR aJ aL ((cM.dK g).dK A) (by omega) odd;rw[ae rfl,ar];refine⟨_,aE,rfl,?_,ql rfl rfl rfl (by simp) (by simp[cy,k]) (by simp[cy]) (tX aj),K.trans (A.trans g),ab _ _ rfl rfl rfl (by simp) (K.trans (A.trans g))⟩;grind
 . obtain⟨bA,aP⟩:=bb (.inl k);obtain⟨acc,l,b1,b2,b3,b4,B,am⟩:=RU (ts:=ts) (odd:=odd) (c:=c) (r:=r-1) (by omega) (x:=x) aX (λm P=>⟨aP m P,λa0=>⟨bm m P a0,cS.iG m P,ds m P a0⟩⟩) 0 false 0 [] 0 x.Kind false 0 [] 0 x.af.length 0 C [] (by omega) cM ah rfl (λj J=>by omega) (λy f=>by cases f);have bh:mV (0,ts,C,odd,0,false,0,[],0,x.Kind,x.Name,x.bJ,x.bN,x.Max,x.bj,x.af,x.Key,x.aD,x.Open,x.Kind,false,0,[],0,[])=_:=b1;have an:=B.1;have bE:gj r=12*gj (r-1)+20:=by
    obtain⟨G,rfl⟩:∃G,r=G+1:=⟨r-1,by omega⟩
    rfl
   have bL:x.af.length*gj (r-1)<=12*gj (r-1):=eZ _ aX;rw[gK]at am;have a6:iv ts (!odd) x.af acc:=gV.2 ⟨b2,b3⟩;rw[al (by simp[k]),al (by simp[k]),al (by simp[k]),al (by simp[k]),ae (by simp[k]),bh];simp only[ak];obtain⟨o,p,aq,bc,A⟩:=Kc (ts:=ts) (cM.dK B) (by omega) odd;have ax:=A.1;rw[aq];simp only[ak];cases o with
   |false=>
    rw[bz];refine⟨_,p,rfl,?_,uj (by simp) (λy f=>by cases f) b4 (by simp) (by show acc.length<=1000;omega) (by simp) (λy f=>by cases f) (by simp[cy,k]) (by simp[cy]) (by simp[cy]),A.trans B,?_⟩
    . exact(Q _).2 ⟨⟨E.1,E.2,rfl,λ_=>rfl⟩,.inr (.inr (.inr (.inr (.inl ⟨k,rfl,rfl,rfl,rfl,rfl,⟨.nil,λy f=>by cases f⟩,a6⟩))))⟩
    . rw[eV];simp only[gK,ku,qE,uL];omega
   |true=>
    have aQ:odd=true:=(by grind);obtain⟨n,aE,ar,aj,bd,K⟩:=Ia (ts:=ts) aO aR aJ aL ((cM.dK B).dK A) (by omega) odd;have bv:=K.1;obtain⟨d,aF,d1,d2,d3⟩:=PR (ts:=ts) (n:=n) (((cM.dK B).dK A).dK K) (by omega) odd;have bw:=d3.1;rw[ae rfl,D3,ar];simp only[ak];rw[d1];simp only[ak];refine⟨_,aF,rfl,?_,uj (by simp) (λy f=>by cases f) b4 (by simp) (by show acc.length<=1000;omega) (by simp) (λy f=>?_) (by simp[cy,k]) (by simp[cy]) (by simp[cy]),d3.trans (K.trans (A.trans B)),?_⟩
    . refine(Q _).2 ⟨⟨E.1,E.2,rfl,λh=>by simp[aQ]at h⟩,.inr (.inr (.inr (.inr (.inl ⟨k,rfl,rfl,rfl,rfl,rfl,⟨by simp,λy f=>?_⟩,a6⟩))))⟩;grind
    . have:y=⟨n,d⟩:=(by simpa using f);subst this;exact⟨by show d.length<=1000;omega,tX aj⟩
    . rw[eV];simp only[gK,ku,iJ,qE,qD,uL];omega
 . obtain⟨bA,aP⟩:=bb (.inr k);have bG:0<x.af.length:=by
    rcases f6.2.1 with h|h
    . cases h
    . exact h
   have bB:gj (r-1)+20<=gj r:=by
    obtain⟨G,rfl⟩:∃G,r=G+1:=⟨r-1,by omega⟩
    have:=Fz G;show gj G+20<=12*gj G+20;omega
   have bg:∀ aC,fv aC C->∃ v z,(Option.bind (iY ((x.af.length:Int),ts,aC,odd)) λai=>if ay ai.1 x.af.length then
    (jM ((x.af.getD ai.1.toNat aw).av,ai.2.1,ai.2.2.1,ai.2.2.2)).bind λaA=>
     some ((⟨x.Kind,false,0,[],(x.af.getD ai.1.toNat aw).ad,[],[aA.1],[]⟩:I),aA.2.1,aA.2.2.1,aA.2.2.2)
    else none)=some (v,ts,z,odd)/\bO ts (!odd) (t:Int) v/\bC v/\fv z C/\wt v+32574360*z.length<=gj r+32574360*C.length:=by
    intro aC az;have bK:=az.1;obtain⟨q,l,cZ,Z,aa,g,fu⟩:=lB (ts:=ts) (n:=(x.af.length:Int)) ⟨by omega,by omega⟩ (cM.dK az) (by omega) odd;obtain⟨j,rfl⟩:∃j:Nat,q=(j:Int):=⟨q.toNat,by omega⟩
    have an:=g.1;have J:j<x.af.length:=(by omega);have P:=aZ J aw;obtain⟨w,p,aT,a9,a',ap,ba⟩:=aP _ P l ((cM.dK az).dK g) (by omega);have ax:=ap.1;rw[cZ];simp only[ak];rw[ae (aH J)];simp only[aV];rw[aT];simp only[ak];have bo:=f6.2.2.1.2 _ P;refine⟨_,p,rfl,?_,uj (by simp) (λy f=>by cases f) (λy f=>?_) (by simp) (by simp) (by simp) (λy f=>by cases f) (by simp[cy,k]) (by simp[cy]) (tX bo),ap.trans (g.trans az),?_⟩
    . refine(Q _).2 ⟨⟨E.1,E.2,rfl,λ_=>rfl⟩,.inr (.inr (.inr (.inr (.inr (.inl ⟨k,rfl,rfl,rfl,rfl,?_⟩)))))⟩;have br:cw x.af (x.af.getD j aw).ad=some (x.af.getD j aw):=by
       unfold cw;rw[yT];refine⟨by simp,j,J,(dd J _).symm,λi aN=>?_⟩;have bP:=uN.1 f6.2.2.1.1 i j (by omega) J aN;rw[dd J];simp;omega
      simp only[br];refine⟨by first|rfl|trivial,by first|rfl|trivial,?_⟩;rw[cD];intro y f;have:y=w:=(by simpa using f);subst this;exact a9
    . have:y=w:=(by simpa using f);subst this;exact a'
    . rw[eV];simp only[gW,gK,ku,qE,uL];omega
   rw[al (by simp[k]),al (by simp[k]),al (by simp[k]),al (by simp[k]),al (by simp[k]),ae (by simp[k])];simp only[I.aP];cases bx:x.Open with
   |false=>
    rw[bz,bz];obtain⟨v,z,a1,a2,a3,a4,a5⟩:=bg C (fv.refl _);grind
   |true=>
    obtain⟨o,p,aq,bc,A⟩:=Kc (ts:=ts) cM (by omega) odd;have ax:=A.1;rw[ae rfl,aq];simp only[ak,ed];cases o with
    |false=>grind
    |true=>
     have aQ:odd=true:=(by grind);obtain⟨n,aE,ar,aj,bd,K⟩:=Ia (ts:=ts) aO aR aJ aL (cM.dK A) (by omega) odd;have bv:=K.1;obtain⟨d,aF,d1,d2,d3⟩:=PR (ts:=ts) (n:=n) ((cM.dK A).dK K) (by omega) odd;have bw:=d3.1;rw[ae rfl,ar];simp only[ak];rw[d1];simp only[ak];refine⟨_,aF,rfl,?_,uj (by simp) (λy f=>by cases f) (λy f=>by cases f) (by simp) (by simp) (by simp) (λy f=>?_) (by simp[cy,k]) (by simp[cy]) (tX aj),d3.trans (K.trans A),?_⟩
     . grind
     . have:y=⟨n,d⟩:=(by simpa using f);subst this;exact⟨by show d.length<=1000;omega,tX aj⟩
     . rw[eV];simp only[gK,ku,iJ,qE,qD,uL];omega
 . have em:aK .i64 (ja x.Max 3) 1=min x.Max 3+1:=by
    have:ja x.Max 3=min x.Max 3:=rfl;rw[this,kp (by omega) (by omega)]
   have S:0<=x.aD/\x.aD<ts.length:=au x.aD (by unfold fm;simp[k]);obtain⟨q,l,cZ,Z,aa,g,fu⟩:=lB (ts:=ts) (n:=min x.Max 3+1) ⟨by omega,by omega⟩ cM (by omega) odd;obtain⟨j,rfl⟩:∃j:Nat,q=(j:Int):=⟨q.toNat,by omega⟩
   have an:=g.1;have loop:∃acc z,rC ((j:Int),ts,l,odd,0,false,0,[],0,x.Kind,x.Name,x.bJ,x.bN,x.Max,x.bj,x.af,x.Key,x.aD,x.Open,x.Kind,false,0,[],0,[])=some (ts,z,odd,0,false,0,[],0,x.Kind,false,0,[],0,acc)/\acc.length=j/\(∀y,y∈acc->bO ts (!odd) x.aD y/\bC y)/\fv z C/\10+cx acc+32574360*z.length<=gj r+32574360*C.length:=by
    rcases fu with⟨h0,h1,bk⟩|h1
    . have:j=0:=(by omega);subst this;refine⟨[],l,by rw[rC,bz],rfl,λy f=>(by cases f),g,?_⟩;rw[gK];omega
    . obtain⟨acc,z,b1,b2,b3,b4,B⟩:=Qx (ts:=ts) (odd:=odd) (c:=l.length) (r:=5) (by omega) (x:=x) (λp N O=>below l h1 x.aD S.1 S.2 p N O) 0 false 0 [] 0 x.Kind false 0 [] 0 j l [] (by simp;omega) (cM.dK g) (by omega) (λy f=>by cases f);refine⟨acc,z,b1,by simpa using b2,b3,b4.trans g,?_⟩;rw[gK,xT]at B;omega
   obtain⟨acc,z,b1,b2,b3,b4,B⟩:=loop;rw[al (by simp[k]),al (by simp[k]),al (by simp[k]),al (by simp[k]),al (by simp[k]),al (by simp[k]),ae (by simp[k]),em,cZ];simp only[ak];rw[b1];simp only[ak];refine⟨_,z,rfl,?_,uj (by simp) (λy f=>by cases f) (λy f=>(b3 y f).2) (by simp) (by show acc.length<=1000;omega) (by simp) (λy f=>by cases f) (by simp[cy,k]) (by simp[cy]) (by simp[cy]),b4,?_⟩
   . exact(Q _).2 ⟨⟨E.1,E.2,rfl,λ_=>rfl⟩,.inr (.inr (.inr (.inr (.inr (.inr (.inl ⟨k,rfl,rfl,rfl,rfl,rfl,rfl,by show(acc.length:Int)<=x.Max;omega,cD.2 λy f=>(b3 y f).1⟩))))))⟩
   . rw[eV];simp only[gK,ku,qE,uL];omega
 . have em:aK .i64 (ja x.Max 3) 1=min x.Max 3+1:=by
    have:ja x.Max 3=min x.Max 3:=rfl;rw[this,kp (by omega) (by omega)]
   have S:0<=x.aD/\x.aD<ts.length:=au x.aD (by unfold fm;simp[k]);have a7:0<=x.Key/\x.Key<ts.length:=au x.Key (by unfold fm;simp[k]);obtain⟨q,l,cZ,Z,aa,g,fu⟩:=lB (ts:=ts) (n:=min x.Max 3+1) ⟨by omega,by omega⟩ cM (by omega) odd;obtain⟨j,rfl⟩:∃j:Nat,q=(j:Int):=⟨q.toNat,by omega⟩
   have an:=g.1;have aY:jX []:=λi aN=>by simp at aN
   have loop:∃ks Y z,rD ((j:Int),ts,l,odd,0,false,0,[],0,x.Kind,x.Name,x.bJ,x.bN,x.Max,x.bj,x.af,x.Key,x.aD,x.Open,x.Kind,false,0,[],0,[],[],[])=some (ts,z,odd,0,false,0,[],0,x.Kind,false,0,[],0,ks,Y,[])/\ks.length<=j/\Y.length=ks.length/\(∀y,y∈ks->bO ts (!odd) x.Key y/\bC y)/\(∀y,y∈Y->bO ts (!odd) x.aD y/\bC y)/\jX ks/\fv z C/\10+cx ks+cx Y+32574360*z.length<=gj r+32574360*C.length:=by
    rcases fu with⟨h0,h1,bk⟩|h1
    . have:j=0:=(by omega);subst this;refine⟨[],[],l,by rw[rD,bz],by simp,rfl,λy f=>(by cases f),λy f=>(by cases f),aY,g,?_⟩;rw[gK];omega
    . obtain⟨ks,Y,z,b1,b2,b3,b4,B,am,aI,aU⟩:=RV (ts:=ts) (odd:=odd) (c:=l.length) (r:=5) (by omega) (x:=x) (λp N O=>below l h1 x.Key a7.1 a7.2 p N O) (λp N O=>below l h1 x.aD S.1 S.2 p N O) 0 false 0 [] 0 x.Kind false 0 [] 0 [] j l [] [] (by simp;omega) rfl (cM.dK g) (by omega) (λy f=>by cases f) (λy f=>by cases f) aY;refine⟨ks,Y,z,b1,by simpa using b2,b3,b4,B,am,aI.trans g,?_⟩;rw[gK,xT]at aU;omega
   obtain⟨ks,Y,z,b1,b2,b3,b4,B,am,aI,aU⟩:=loop;rw[al (by simp[k]),al (by simp[k]),al (by simp[k]),al (by simp[k]),al (by simp[k]),al (by simp[k]),al (by simp[k]),ae (by simp[k]),em,cZ];simp only[ak];rw[b1];simp only[ak];refine⟨_,z,rfl,?_,uj (by simp) (λy f=>(b4 y f).2) (λy f=>(B y f).2) (by show ks.length<=1000;omega) (by show Y.length<=1000;omega) (by simp) (λy f=>by cases f) (by simp[cy,k]) (by simp[cy]) (by simp[cy]),aI,?_⟩
   . exact(Q _).2 ⟨⟨E.1,E.2,rfl,λ_=>rfl⟩,.inr (.inr (.inr (.inr (.inr (.inr (.inr (.inl ⟨k,rfl,rfl,rfl,rfl,rfl,by show(ks.length:Int)<=x.Max;omega,b3,cD.2 λy f=>(b4 y f).1,cD.2 λy f=>(B y f).1,am⟩)))))))⟩
   . rw[eV];grind
 . have S:0<=x.aD/\x.aD<ts.length:=au x.aD (by unfold fm;simp[k]);obtain⟨q,l,cZ,Z,aa,g,fu⟩:=lB (ts:=ts) (n:=2) ⟨by omega,by omega⟩ cM (by omega) odd;have an:=g.1;rw[al (by simp[k]),al (by simp[k]),al (by simp[k]),al (by simp[k]),al (by simp[k]),al (by simp[k]),al (by simp[k]),al (by simp[k]),cZ];simp only[ak,I.aP];by_cases h1:q=1
   . have bq:l.length+1=C.length:=(by omega);obtain⟨w,p,aT,a9,a',ap,ba⟩:=below l bq x.aD S.1 S.2 l (cM.dK g) (by omega);have ax:=ap.1;rw[xT]at ba;rw[ae (by simpa using h1),aT];simp only[ak];refine⟨_,p,rfl,?_,uj (by simp) (λy f=>by cases f) (λy f=>?_) (by simp) (by simp) (by simp) (λy f=>by cases f) (by simp[cy,k]) (by simp[cy]) (by simp[cy]),ap.trans g,?_⟩
     . refine(Q _).2 ⟨⟨E.1,E.2,rfl,λ_=>rfl⟩,.inr (.inr (.inr (.inr (.inr (.inr (.inr (.inr ⟨k,rfl,rfl,rfl,rfl,rfl,rfl,by simp,cD.2 λy f=>?_⟩)))))))⟩;grind
     . grind
     . rw[eV];simp only[gW,gK,ku,qE,uL];omega
   . rw[al (by simpa using h1)];refine⟨_,l,rfl,?_,ql rfl rfl rfl (by simp) (by simp[cy,k]) (by simp[cy]) (by simp[cy]),g,ab _ _ rfl rfl rfl (by simp) g⟩;exact(Q _).2 ⟨⟨E.1,E.2,rfl,λ_=>rfl⟩,.inr (.inr (.inr (.inr (.inr (.inr (.inr (.inr ⟨k,rfl,rfl,rfl,rfl,rfl,rfl,by simp,cD.2 λy f=>by cases f⟩)))))))⟩
theorem RW(H:c8 ts):∀(c:Nat),c<=60->∀r,BS ts odd c r:=by
 intro c;induction c using Nat.strongRecOn with
 |ind c b=>
  intro a r;induction r using Nat.strongRecOn with
  |ind r d=>grind[aft]
theorem afu(H:c8 ts)(ht:0<=t/\t<ts.length){C:ao}(cM:gS C)(ah:C.length<=reachBytes):∃v,zi ((⟨ts⟩:aO),t,C)=some v/\bO ts true t v/\bC v/\wt v<=2147483648:=by
 obtain⟨j,rfl⟩:∃j:Nat,t=j:=⟨t.toNat,by omega⟩
 have d:ja 60 _=min 60 C.length:=Jy 60 _;have hs:gS (C.take (min 60 C.length)):=λc a=>cM c (uP a);have b:(C.take (min 60 C.length)).length<=60:=by grind
 have e:d' 0 (min 60 C.length:Nat) C.length=true:=jW (by simp) (by omega);obtain⟨v,f,h1,g,i,k,bf⟩:=RW H 60 (by simp) 5 j (by omega) (Kd H) _ hs b;rw[zi];simp only[aS,ak];rw[d,ae e,uz,h1];grind[I.aP,xT]
theorem abw(H:c8 ts)(ht:0<=t/\t<ts.length){C:ao}(cM:gS C)(ah:C.length<=reachBytes):∃v,yY ((⟨ts⟩:aO),t,C)=some v/\bO ts false t v/\bC v/\wt v<=2147483648:=by
 obtain⟨j,rfl⟩:∃j:Nat,t=j:=⟨t.toNat,by omega⟩
 have d:ja 60 _=min 60 C.length:=Jy 60 _;have hs:gS (C.take (min 60 C.length)):=λc a=>cM c (uP a);have b:(C.take (min 60 C.length)).length<=60:=by grind
 have e:d' 0 (min 60 C.length:Nat) C.length=true:=jW (by simp) (by omega);obtain⟨v,f,h1,g,i,k,bf⟩:=RW H 60 (by simp) 5 j (by omega) (Kd H) _ hs b;rw[yY];simp only[aS,ak];rw[d,ae e,uz,h1];grind[I.aP,xT]
end
structure FC (d:lq):Prop where
 s:vb d.S
 t:df d.T
 c:gS d.C
 l:d.C.length<=reachBytes
theorem aiR{d:lq}(a:FC d):(∃s t v w,pP d=some (s,t,v,w,false))\/
 ∃ts t v w,pP d=some (⟨ts⟩,t,v,w,true)/\c8 ts/\(0<=t/\t<ts.length)/\(bO ts true t v/\bC v/\wt v<=2147483648)/\(bO ts false t w/\bC w/\wt w<=2147483648):=by
 rw[pP];rcases GM a.s with h|⟨l,h,H⟩
 . simp_all
 . right;have j:=H.cZ;have ht:=a.t;unfold df at ht;have b:0<=d.T%l.length:=mD _ (by omega);have e:d.T%l.length<l.length:=mz _ (by omega);obtain⟨v,v1,f⟩:=afu H ⟨b,e⟩ a.c a.l;obtain⟨w,g,i⟩:=abw H ⟨b,e⟩ a.c a.l;rw[h];simp only[aS,ak];rw[bz,ae (uJ (by omega)),lI ⟨by omega,by omega⟩,hp ht.1 (by simp),v1];rw[g];exact⟨l,_,v,w,by simp[I.aP],H,⟨b,e⟩,f,i⟩
theorem PT(H:hj ts)(a:bC v)(t:Int)(pl:Bool):dk (kn ((⟨ts⟩:aO),t,v,pl)) (bO ts pl t v):=by
 obtain⟨r,h1,c⟩:=uI (by have:=H.n;omega) H.T H.K a t pl;obtain⟨q,d,b⟩:=JS (by have:=H.n;omega) H.T H.K a t pl;rw[h1]at b;have:r=q:=mC b;subst this;exact⟨r,d,c⟩
theorem IZ(cS:∀t,t∈ts->eW t)(ft:nT ts)(d:bC v)(a:bO ts false t v):tG ((⟨ts⟩:aO),t,v)=some 0:=by
 have H:=ft.fR cS;obtain⟨v1,_⟩:=oJ cS ft;obtain⟨⟨g,i,_⟩,_⟩:=(dO _ _ _).1 a;obtain⟨r,e,f⟩:=PT H d t false;have c:=f.2 a;subst c;have b:¬((bif decide (t<0)then true else decide (((⟨ts⟩:aO).Types.length:Int)<=t))=true):=by grind
 rw[tG,HL];simp only[Mx,I.aP];rw[v1];show((if(bif (t<0:Bool)then true else (((⟨ts⟩:aO).Types.length:Int)<=t:Bool)) then some (4:Int)else some 0)>>=_)=_;rw[al b];show(p2 ((⟨ts⟩:aO),t,v)>>=_)=_;rw[p2];simp only[I.aP];rw[e];rfl
theorem OW(cS:∀t,t∈ts->eW t)(ft:nT ts)(f:bC v)(b:bO ts false t v):rm ((⟨ts⟩:aO),t,v)=some 0:=by
 have a:=ft.fR cS;obtain⟨⟨j,k,_⟩,_⟩:=(dO _ _ _).1 b;obtain⟨q,g,i⟩:=uI (by have:=a.n;omega) cS a.K f t false;have e:=i.2 b;subst e;have c:¬t<0:=by omega
 have d:¬(ts.length:Int)<=t:=by omega
 rw[rm,(oJ cS ft).2];simp only[aS,ak];rw[bz,al (by simp[c,d]),vP];simp only[I.aP];rw[g];rfl
theorem N2(cS:∀t,t∈ts->eW t)(ft:nT ts)(b:bC v)(a:bO ts false t v):tG ((⟨ts⟩:aO),t,v)=some 0/\rm ((⟨ts⟩:aO),t,v)=some 0:=⟨IZ cS ft b a,OW cS ft b a⟩
theorem D4{l:List Fd}(d:kq eQ l=true)(aJ:l.Pairwise (λa b=>a.id≠b.id)):(fO eQ l).Pairwise (λa b=>a.id<b.id):=by
 have h1:=DK Ql l;have c:(fO eQ l).Pairwise (λa b=>a.id≠b.id):=(kM eQ l).symm.pairwise aJ (λ{a b} h=>λe=>h e.symm);refine(h1.and c).imp λ{a b} h=>?_;have:=h.1;have:=h.2;simp only[eQ,decide_eq_false_iff_not]at*;omega
theorem Ee{l:List I}{r:List bQ}(h:fV ms)(c:j0 ms r):(e9 ts ms l r).Pairwise (λa b=>a.id≠b.id):=by
 have:=um (ts:=ts) (l:=l) h c;have key:∀q:List Fd,kq eQ q=true->q.Pairwise (λa b=>a.id≠b.id):=by
  intro q;induction q with
  |nil=>intro _;exact .nil
  |cons a q ih=>
   intro h;simp only[kq,c7,gh,nB,eQ,e4]at h;rw[jb];grind
 grind
def mq(f:Fd):cP:=⟨(f.id:Int),f.c,f.p⟩
theorem OX:∀(l:List Fd) (last:Nat) (b:List cP),l.Pairwise (λa b=>a.id<b.id)->(∀f,f∈l->last<f.id/\f.id<=1000)->(l.flatMap Fd.text).length<=100000->b.length+l.length<=90000->
 f' ((last:Int),l.flatMap Fd.text,b)=some (.inr (b++l.map mq))
 |[],last,b,_,_,_,_=>by
  rw[f',bz];simp
 |f::l,last,b,d,i,ah,e=>by
  rw[jb]at d;obtain⟨h1,j⟩:=i f (.head _);rw[gQ]at ah⊢;have ht:f.text=fr f.id f.c f.p:=rfl;rw[ht]at ah⊢;rw[aa8 h1 j ah (by simp at e;omega)];have k:(l.flatMap Fd.text).length<=100000:=by rw[cc]at ah;omega
  rw[OX l f.id _ d.2 (λg aq=>⟨d.1 g aq,(i g (.tail _ aq)).2⟩) k (by simp at e⊢;omega)];simp[mq]
theorem abx{a:aj}{b:List aj}(h:(dg p++a).length<=100000)(j:b.length<=90000):hD (dg p++a,b)=hD (a,b++[p]):=by
 have g:p.length<=100000:=by simp only[dg,cc]at h;omega
 have e:dg p++a≠[]:=by
  intro d;have c:=eM List.length d;have:=rL p.length;simp only[dg,cc,ku]at c;omega
 rw[hD,ae (by simp only[xg,decide_eq_false_iff_not];exact e),mg,MZ g];simp only[aS,ak];have f:¬((!(dP (some (p,a))).2.2)=true):=by simp[dP]
 have i:room 16 (b++[(dP (some (p,a))).1]).length=true:=cV;rw[al f,ae i];rfl
theorem PU:∀(l:List aj) (b:List aj),(l.flatMap dg).length<=100000->b.length+l.length<=90000->hD (l.flatMap dg,b)=some (.inr (b++l))
 |[],b,_,_=>by
  rw[hD,bz];simp
 |p::l,b,ah,a=>by
  rw[gQ]at ah⊢;rw[abx ah (by simp at a;omega),PU l _ (by rw[cc]at ah;omega) (by simp at a⊢;omega)];simp
def lS:List aj->List aj->List aj
 |k::ks,v::vs=>k::v::lS ks vs
 |_,_=>[]
theorem zV:∀a b,gA a b=(lS a b).flatMap dg
 |[],b=>by simp[gA,lS]
 |k::ks,[]=>by simp[gA,lS]
 |k::ks,v::vs=>by simp[gA,lS,zV ks vs]
theorem OY:∀a b:List aj,a.length=b.length->(lS a b).length=a.length+b.length
 |[],[],_=>rfl
 |k::ks,v::vs,h=>by
  simp only[lS,h8];have:=OY ks vs (by simpa using h);omega
theorem aby(p:aj):1<=(dg p).length:=by
 have:=rL p.length;unfold dg;rw[cc];omega
theorem M4:∀l:List aj,l.length<=(l.flatMap dg).length
 |[]=>by simp
 |p::l=>by
  have:=M4 l;have:=aby p;grind
theorem aeu(f:Fd):1<=f.text.length:=by
 have:=rL (2*f.id+(if f.c then 1 else 0));unfold Fd.text fr;rw[cc];omega
theorem M5:∀l:List Fd,l.length<=(l.flatMap Fd.text).length
 |[]=>by simp
 |p::l=>by
  have:=M5 l;have:=aeu p;grind
theorem JV{f:Fd}:∀{l:List Fd},f∈l->f.p.length<=(l.flatMap Fd.text).length
 |g::l,h=>by
  rw[gQ,cc];rcases eR.1 h with rfl|h
  . have:f.p.length<=f.text.length:=by unfold Fd.text fr dg;simp only[cc];omega
    omega
  . have:=JV h;omega
theorem P4{d:ep}(h:WF cR ⟨.slice (.nm wy),d.eg⟩):vb d:=by
 obtain⟨a,_,c⟩:=xv (t:= .nm wy) h;refine⟨a,λx p=>?_⟩;have e:=c x p;have b:∀{n:Int},WF cR ⟨.int .u8,n⟩->df n:=λ{n} h=>by
  cases h with
  |int k n h=>
   simp[Lit.wf,IntKind.min,IntKind.max,IntKind.bits,IntKind.signed]at h;unfold df;omega
 have g:=e ⟨.int .u8,x.Kind⟩ (.head _);have i:=e ⟨.int .u8,x.A⟩ (.tail _ (.head _));have j:=e ⟨.int .u8,x.B⟩ (.tail _ (.tail _ (.head _)));have l:=e ⟨.int .u8,x.C⟩ (.tail _ (.tail _ (.tail _ (.head _))));have m:=e ⟨.slice (.nm DN),x.cX⟩ (.tail _ (.tail _ (.tail _ (.tail _ (.head _)))));obtain⟨r,_,s⟩:=xv (t:= .nm DN) m;refine⟨b g,b i,b j,b l,λq o=>?_,r⟩;have f:=s q o;exact⟨b (f ⟨.int .u8,q.ad⟩ (.head _)),b (f ⟨.int .u8,q.av⟩ (.tail _ (.head _))),b (f ⟨.int .u8,q.hg⟩ (.tail _ (.tail _ (.head _))))⟩
theorem aev{d:lq}(h:∀c,c∈cR.pj XE d->WF cR c):FC d:=by
 have e:=h ⟨.slice (.nm wy),d.S.eg⟩ (.head _);have f:=h ⟨.int .u8,d.T⟩ (.tail _ (.head _));have g:=h ⟨.slice (.int .u8),d.C⟩ (.tail _ (.tail _ (.head _)));obtain⟨a,_,c⟩:=xv (t:= .int .u8) g;have b:∀{n:Int},WF cR ⟨.int .u8,n⟩->df n:=λ{n} h=>by
  cases h with
  |int k n h=>
   simp[Lit.wf,IntKind.min,IntKind.max,IntKind.bits,IntKind.signed]at h;unfold df;omega
 exact⟨P4 e,b f,λn aJ=>b (c n aJ ⟨.int .u8,n⟩ (.head _)),a⟩
def hM(n:Nat):aj->Nat
 |[]=>n
 |c::s=>hM (n*256+c.toNat) s
theorem Ur:∀(s:aj) (n k:Nat),n<256^k->hM n s<256^(k+s.length)
 |[],n,k,h=>by simpa[hM]using h
 |c::s,n,k,h=>by
  have a:c.toNat<256:=UInt8.toNat_lt c;have h1:n*256+c.toNat<256^(k+1):=by rw[Nat.pow_succ];omega
  have:=Ur s _ (k+1) h1;simp only[hM,h8];grind
theorem ajb{n:Nat}(h:n<72057594037927936):nG .u64 (n:Int) 8=((n*256:Nat):Int):=by
 unfold nG;have e:((2:Int)^min (8:Int).toNat IntKind.u64.bits)=256:=by decide
 rw[e];have:(n:Int)*256=((n*256:Nat):Int):=by push_cast;rfl
 rw[this];exact lf (by omega) (by omega)
theorem afv{b:Nat}(c:a<72057594037927936)(d:b<256):sd .u64 ((a*256:Nat):Int) (b:Int)=((a*256+b:Nat):Int):=by
 have e:(BitVec.ofInt 64 ((a*256:Nat):Int) ||| BitVec.ofInt 64 (b:Int)).toNat=a*256+b:=by
  rw[xd,xd,BitVec.toNat_or,yL,yL,Hf,oV (by omega),oV (by omega)];have h:=Nat.shiftLeft_add_eq_or_of_lt (show b<2^8 by omega) a;rw[Nat.shiftLeft_eq]at h;exact h.symm
 show IntKind.u64.wrap (((BitVec.ofInt 64 ((a*256:Nat):Int) ||| BitVec.ofInt 64 (b:Int)).toNat:Nat):Int)=_;rw[e];exact lf (by omega) (by omega)
theorem afW:(256:Nat)^8=18446744073709551616:=by decide
theorem A5{s:aj}(hs:s.length<=8):∀(k i n:Nat),i+k=s.length->n<256^i->nb (s,(n:Int),(s.length:Int),(i:Int))=some ((hM n (s.drop i):Nat):Int)
 |0,i,n,c,aJ=>by
  rw[nb,cr,ei (by omega:s.length<=i)];rfl
 |k+1,i,n,c,aJ=>by
  have aC:i<s.length:=by omega
  have b:=zS s i;have a:n<72057594037927936:=by
   have:(256:Nat)^i<=256^7:=xe (by omega) (by omega);omega
  rw[nb,bE,ae (aH aC),ajb a,uy,hz,afv a b,bA (by omega),A5 hs k (i+1) _ (by omega) (by rw[Nat.pow_succ];omega),eD aC 0];rfl
theorem JD{s:aj}(hs:s.length<=8):∀(k i n:Nat),i+k=s.length->n<256^i->pC (s,(n:Int),(i:Int))=some ((hM n (s.drop i):Nat):Int)
 |0,i,n,a,aJ=>by
  rw[pC,cr,ei (by omega:s.length<=i)];rfl
 |k+1,i,n,a,aJ=>by
  have aC:i<s.length:=by omega
  have c:=zS s i;have d:n<72057594037927936:=by
   have:(256:Nat)^i<=256^7:=xe (by omega) (by omega);omega
  have aM:gB .u64 (n:Int) 256=((n*256:Nat):Int):=uE (b:=256) (by omega);rw[pC,bE,ae (aH aC),aM,uy,hz,sH (by omega),bA (by omega),JD hs k (i+1) _ (by omega) (by rw[Nat.pow_succ];omega),eD aC 0];rfl
def hU(s:aj):Option Nat:=if s.head?=some 0\/8<s.length then none else some (hM 0 s)
theorem E4{s:aj}{n:Nat}(h:hU s=some n):n<18446744073709551616:=by
 unfold hU at h;split at h
 . cases h
 . rename_i aa;cases h;have:=Ur s 0 0 (by simp);have a:(256:Nat)^(0+s.length)<=256^8:=xe (by omega) (by omega);omega
theorem Ef{s:aj}(h:s≠[]):(fY s 0=0)↔s.head?=some 0:=by
 cases s with
 |nil=>exact absurd rfl h
 |cons c s=>
  have:fY (c::s) 0=(c.toNat:Int):=uy (c::s) 0;rw[this];simp only[List.head?_cons,dF];constructor
  . intro h;exact UInt8.toNat_inj.1 (by simpa using h)
  simp_all
theorem afw(s:aj):∃r,tF s=some r/\(r.2=0->∃n,hU s=some n/\r.1=(n:Int))/\(r.2≠0->hU s=none):=by
 rw[tF];simp only[aS,ak];by_cases h0:s=[]
 . subst h0;have aM:nb ([],0,((([]:aj)).length:Int),0)=some ((hM 0 []:Nat):Int):=A5 (s:=[]) (by simp) 0 0 0 rfl (by simp);refine⟨(((hM 0 []:Nat):Int),0),?_,λ_=>⟨0,rfl,rfl⟩,λh=>absurd rfl h⟩;grind
 . have e:0<s.length:=xf.2 h0;have d:ay 0 s.length=true:=aH (k:=0) e;have c:(!(decide (s=[])))=true:=(by simp[h0]);rw[c,d];simp only[w7,bM,ed];by_cases a:fY s 0=0
   . rw[ae (by simp[a])];refine⟨_,rfl,λh=>(by cases h),λ_=>?_⟩;unfold hU;rw[ae (.inl ((Ef h0).1 a))]
   . rw[al (by simp[a])];by_cases b:8<s.length
     . rw[bE];refine⟨_,rfl,λh=>(by cases h),λ_=>?_⟩;unfold hU;rw[ae (.inr b)]
     . have aM:nb (s,0,(s.length:Int),0)=some ((hM 0 s:Nat):Int):=A5 (by omega) s.length 0 0 (by omega) (by simp);rw[cr,aM];refine⟨_,rfl,λ_=>⟨hM 0 s,?_,rfl⟩,λh=>absurd rfl h⟩;unfold hU;rw[al]
       rintro (h|h)
       . exact a ((Ef h0).2 h)
       omega
theorem abz(s:aj):∃r,tF s=some r/\C5 s=some r/\(r.2=0->∃n,hU s=some n/\r.1=(n:Int))/\(r.2≠0->hU s=none):=by
 rw[tF,C5];simp only[aS,ak];by_cases h0:s=[]
 . subst h0;have aM:nb ([],0,((([]:aj)).length:Int),0)=some ((hM 0 []:Nat):Int):=A5 (s:=[]) (by simp) 0 0 0 rfl (by simp);have c:pC ([],0,0)=some ((hM 0 []:Nat):Int):=JD (s:=[]) (by simp) 0 0 0 rfl (by simp);refine⟨(((hM 0 []:Nat):Int),0),?_,?_,λ_=>⟨0,rfl,rfl⟩,λh=>absurd rfl h⟩
   . grind
   grind
 . have i:0<s.length:=xf.2 h0;have g:ay 0 s.length=true:=aH (k:=0) i;have e:decide ((0:Int)<(s.length:Int))=true:=by simp;omega
   have f:(!(decide (s=[])))=true:=(by simp[h0]);rw[e,f,g];simp only[w7,bM,ed];by_cases b:fY s 0=0
   . have a:decide (fY s 0=0)=true:=(by simp[b]);rw[ae a,ae a];refine⟨_,rfl,rfl,λh=>(by cases h),λ_=>?_⟩;unfold hU;rw[ae (.inl ((Ef h0).1 b))]
   . have a:¬(decide (fY s 0=0)=true):=(by simp[b]);rw[al a,al a];by_cases d:8<s.length
     . have:decide ((8:Int)<(s.length:Int))=true:=by simp;omega
       rw[ae this,ae this];refine⟨_,rfl,rfl,λh=>(by cases h),λ_=>?_⟩;unfold hU;rw[ae (.inr d)]
     . have:¬(decide ((8:Int)<(s.length:Int))=true):=by simp;omega
       rw[al this,al this];have aM:nb (s,0,(s.length:Int),0)=some ((hM 0 s:Nat):Int):=A5 (by omega) s.length 0 0 (by omega) (by simp);have c:pC (s,0,0)=some ((hM 0 s:Nat):Int):=JD (by omega) s.length 0 0 (by omega) (by simp);rw[aM,c];refine⟨_,rfl,rfl,λ_=>⟨hM 0 s,?_,rfl⟩,λh=>absurd rfl h⟩;unfold hU;rw[al]
       rintro (h|h)
       . exact b ((Ef h0).2 h)
       omega
def ji(n:Nat):Int:=if n%2=0 then((n/2:Nat):Int)else -((n/2:Nat):Int)-1
theorem afx{n:Int}(h:cy n):ji (gF n).toNat=n:=by
 unfold ji gF cy at*;omega
theorem afX{n:Nat}(h:n<18446744073709551616):Dj (n:Int)=some (ji n):=by
 rw[Dj];have aM:b9 (n:Int) 2=((n%2:Nat):Int):=A0 (b:=2);have a:fB .u64 (n:Int) 2=((n/2:Nat):Int):=uW h;rw[aM,a,jF];unfold ji;by_cases h0:n%2=0
 . grind
 . have c2:di .i64 0 ((n/2:Nat):Int)= -((n/2:Nat):Int):=by rw[hJ (by omega) (by omega)];omega
   rw[cr,al h0,c2,hJ (by omega) (by omega)]
theorem agk{n:Nat}(h:n<18446744073709551616):BZ .u64 (n:Int) 1=((n%2:Nat):Int):=by
 have e:(BitVec.ofInt 64 (n:Int) &&& BitVec.ofInt 64 (1:Int)).toNat=n%2:=by grind
 show IntKind.u64.wrap (((BitVec.ofInt 64 (n:Int) &&& BitVec.ofInt 64 (1:Int)).toNat:Nat):Int)=_;rw[e];exact lf (by omega) (by omega)
theorem ajc{n:Nat}:lO .u64 (n:Int) 1=((n/2:Nat):Int):=by
 unfold lO;have:((2:Int)^min (1:Int).toNat IntKind.u64.bits)=2:=by decide
 grind
theorem adw(h:a<9223372036854775808):u7 .i64 (a:Int) 0=(a:Int):=by
 have e:(BitVec.ofInt 64 (a:Int) ^^^ BitVec.ofInt 64 (0:Int)).toNat=a:=by grind
 show IntKind.i64.wrap (((BitVec.ofInt 64 (a:Int) ^^^ BitVec.ofInt 64 (0:Int)).toNat:Nat):Int)=_;rw[e,IntKind.wrap_i64];omega
theorem adx(h:a<9223372036854775808):u7 .i64 (a:Int) (-1)= -(a:Int)-1:=by
 have e:(BitVec.ofInt 64 (a:Int) ^^^ BitVec.ofInt 64 (-1:Int)).toNat=18446744073709551615-a:=by
  have h1:BitVec.ofInt 64 (-1:Int)=BitVec.allOnes 64:=by decide
  rw[h1,xd,BitVec.xor_allOnes,BitVec.toNat_not,yL,Hf,oV (by omega)]
 all_goals (try omega)
 show IntKind.i64.wrap (((BitVec.ofInt 64 (a:Int) ^^^ BitVec.ofInt 64 (-1:Int)).toNat:Nat):Int)=_;rw[e,IntKind.wrap_i64];omega
theorem afY{n:Nat}(h:n<18446744073709551616):DX (n:Int)=some (ji n):=by
 rw[DX,ajc,agk h,jF,jF,hJ (by omega) (by omega)];unfold ji;by_cases h0:n%2=0
 . rw[ae h0,h0];have:(0:Int)-((0:Nat):Int)=0:=rfl;rw[this,adw (by omega)]
 . have h1:n%2=1:=(by omega);rw[al h0,h1];have:(0:Int)-((1:Nat):Int)= -1:=rfl;rw[this,adx (by omega)]
def iK(p:aj):Option (List aj):=match lv p with
 |some (l,e)=>if e=0 then some l else none
 |none=>none
def jj(p:aj):Option (List cP):=match l5 p with
 |some (l,e)=>if e=0 then some l else none
 |none=>none
def j8(p:aj):Option (Int×aj):=match mb p with
 |some (id,q,e)=>if e=0 then some (id,q)else none
 |none=>none
theorem OZ:∀(n:Nat) (s:aj) (b l:List aj),s.length<=n->s.length+b.length<=100000->hD (s,b)=some (.inr l)->∀q,q∈l->q∈b\/q.length<=s.length
 |n,s,b,l,aJ,g,h=>by
  rw[hD]at h;by_cases h0:s=[]
  . grind
  . rw[ae (by simp[h0]),mg]at h;simp only[aS,ak]at h;cases a:iw s with
    |none=>
     rw[a]at h;simp[dP]at h
    |some r=>
     obtain⟨x,c⟩:=r;rw[a]at h;have ah:=oI a;have d:¬((!(dP (some (x,c))).2.2)=true):=(by simp[dP]);have f:room 16 (b++[(dP (some (x,c))).1]).length=true:=cV;rw[al d,ae f]at h;intro q e
     match n,aJ with
     |0,aJ=>omega
     |n+1,aJ=>
      have:=OZ n c _ l (by omega) (by simp;omega) h q e;rcases this with h|h
      . rcases hb.1 h with h|h
        . exact .inl h
        . right;have:q=x:=(by simpa[dP]using h);grind
      omega
theorem N3:∀(n:Nat) (s:aj) (last:Nat) (b l:List cP),s.length<=n->s.length+b.length<=100000->f' ((last:Int),s,b)=some (.inr l)->
 ∃c,l=b++c/\(∀f,f∈c->f.Data.length<=s.length/\(last:Int)<f.ad/\f.ad<=1000)/\c.Pairwise (λa b=>a.ad<b.ad)
 |n,s,last,b,l,aJ,v,h=>by
  rw[f']at h;by_cases h0:s=[]
  . simp_all
  . rw[ae (by simp[h0])]at h;rcases lR s with⟨e,he,aq⟩|⟨m,k,aq,y,j,o⟩
    . rw[oN he aq]at h;simp at h
    . rw[mf aq j]at h;simp only[aS,ak,uW o]at h;by_cases w:((m/2:Nat):Int)<=(last:Int)\/1000<((m/2:Nat):Int)
      . grind
      . have:¬((bif bif (!true)then true else decide (((m/2:Nat):Int)<=(last:Int))then true else decide (1000<((m/2:Nat):Int)))=true):=(by grind);rw[al this,mg (by rw[mA];omega)]at h;simp only[ak]at h;cases g:iw (s.drop k)with
        |none=>
         rw[g]at h;simp[dP]at h
        |some r=>
         obtain⟨x,d⟩:=r;rw[g]at h;have ah:=oI g;rw[mA]at ah;have p:¬((!(dP (some (x,d))).2.2)=true):=(by simp[dP]);have t:bY .i64 ((m/2:Nat):Int)=((m/2:Nat):Int):=jF;rw[al p,t]at h;have q:room 32 (b++[(⟨((m/2:Nat):Int),decide (b9 (m:Int) 2=1),(dP (some (x,d))).1⟩:cP)]).length=true:=cV;rw[ae q]at h
         match n,aJ with
         |0,aJ=>omega
         |n+1,aJ=>
          obtain⟨c,e,h1,u⟩:=N3 n d (m/2) _ l (by omega) (by simp;omega) h;refine⟨⟨((m/2:Nat):Int),decide (b9 (m:Int) 2=1),(dP (some (x,d))).1⟩::c,by rw[e];simp,λf i=>?_,?_⟩
          . rcases eR.1 i with rfl|i
            . refine⟨by show x.length<=_;omega,by show(last:Int)<((m/2:Nat):Int);omega,by show((m/2:Nat):Int)<=1000;omega⟩
            grind
          grind
theorem A6(b:p.length<=90000):∃o,lv p=some o/\(o.2=0->iK p=some o.1/\(∀q,q∈o.1->q.length<=p.length)/\o.1.length<=p.length)/\(o.2≠0->iK p=none):=by
 obtain⟨o,h1,a⟩:=acW b;refine⟨o,h1,λh0=>⟨?_,?_,a⟩,λh0=>?_⟩
 . unfold iK;rw[h1];grind
 . obtain⟨d,a1,_⟩:=Jz p.length p [] (by omega) (by simp;omega);rw[lv,a1]at h1;cases d with
   |inl e=>grind
   |inr l=>
    have:o=(l,0):=(mC h1).symm;subst this;intro q c;rcases OZ p.length p [] l (by omega) (by simp;omega) a1 q c with h|h
    . cases h
    . exact h
 . unfold iK;rw[h1];grind
theorem N4(a:p.length<=90000):∃o,lv p=some o/\wB p=some o/\(o.2=0->iK p=some o.1/\(∀q,q∈o.1->q.length<=p.length)/\o.1.length<=p.length)/\(o.2≠0->iK p=none):=by
 obtain⟨o,h1,b⟩:=A6 a;exact⟨o,h1,by rw[acX a,h1],b⟩
theorem JW(k:p.length<=90000):∃o,l5 p=some o/\(o.2=0->jj p=some o.1/\(∀f,f∈o.1->f.Data.length<=p.length/\cv f.ad)/\o.1.Pairwise (λa b=>a.ad<b.ad)/\o.1.length<=p.length)/\(o.2≠0->jj p=none):=by
 obtain⟨o,h1,i⟩:=acs k;obtain⟨d,a1,_⟩:=NT p.length p 0 [] (by omega) (by simp;omega);have key:o.2=0->(∀f,f∈o.1->f.Data.length<=p.length/\cv f.ad)/\o.1.Pairwise (λa b=>a.ad<b.ad):=by
  intro h0;have c:=h1;have g:f' (0,p,[])=some d:=a1;rw[l5,g]at c;cases d with
  |inl e=>
   have:o=([],e):=(mC c).symm;simp_all
  |inr l=>
   have:o=(l,0):=(mC c).symm;subst this;obtain⟨m,e,b1,b2⟩:=N3 p.length p 0 [] l (by omega) (by simp;omega) a1;have:l=m:=(by simpa using e);subst this;exact⟨λf j=>by have:=b1 f j;exact⟨this.1,by omega,this.2.2⟩,b2⟩
 refine⟨o,h1,λh0=>⟨?_,(key h0).1,(key h0).2,i⟩,λh0=>?_⟩
 . unfold jj;rw[h1];grind
 . unfold jj;rw[h1];grind
theorem abd(c:p.length<=90000):∃o,l5 p=some o/\y' p=some o/\(o.2=0->jj p=some o.1/\(∀f,f∈o.1->f.Data.length<=p.length/\cv f.ad)/\o.1.Pairwise (λa b=>a.ad<b.ad)/\o.1.length<=p.length)/\(o.2≠0->jj p=none):=by
 obtain⟨o,h1,d⟩:=JW c;exact⟨o,h1,by rw[acu c,h1],d⟩
theorem Ke(p:aj):∃o,mb p=some o/\(o.2.2=0->j8 p=some (o.1,o.2.1)/\o.2.1.length<=p.length/\cv o.1)/\(o.2.2≠0->j8 p=none):=by
 obtain⟨o,h1⟩:=aeU p;have key:o.2.2=0->o.2.1.length<=p.length/\cv o.1:=by
  intro h0;have a:=h1;rw[mb]at a;rcases lR p with⟨e,he,aq⟩|⟨m,k,aq,f,c,g⟩
  . rw[oN he aq]at a;grind
  . rw[mf aq c]at a;simp only[aS,ak]at a;by_cases d:(m:Int)<1\/1000<(m:Int)
    . grind
    . have b:¬((bif bif (!true)then true else decide ((m:Int)<1)then true else decide (1000<(m:Int)))=true):=(by grind);rw[al b,jF]at a;have:o=((m:Int),p.drop k,0):=(mC a).symm;subst this;exact⟨by show(p.drop k).length<=_;rw[mA];omega,by omega,by show(m:Int)<=1000;omega⟩
 refine⟨o,h1,λh0=>⟨?_,(key h0).1,(key h0).2⟩,λh0=>?_⟩
 . unfold j8;rw[h1];grind
 . unfold j8;rw[h1];grind
theorem aew(p:aj):∃o,mb p=some o/\zZ p=some o/\(o.2.2=0->j8 p=some (o.1,o.2.1)/\o.2.1.length<=p.length/\cv o.1)/\(o.2.2≠0->j8 p=none):=by
 obtain⟨o,h1,a⟩:=Ke p;obtain⟨b,a1,a2⟩:=aeV p;rw[h1]at a1;rw[<-mC a1]at a2;exact⟨o,h1,a2,a⟩
theorem P5:∀(s:aj) (n:Nat) (b:UInt8),hM n (s++[b])=hM n s*256+b.toNat
 |[],n,b=>by simp[hM]
 |a::s,n,b=>by
  simp only[uR,hM];exact P5 s _ b
theorem afy(n:Nat):hM 0 (gR n)=n:=by
 induction n using Nat.strongRecOn with
 |ind n ih=>
  rw[gR];split
  . rename_i h;subst h;rfl
  . rw[P5,ih (n/256) (by omega),l8 (by omega)];omega
theorem ady:∀(n:Nat),¬(gR n).head?=some 0:=by
 intro n;induction n using Nat.strongRecOn with
 |ind n ih=>
  rw[gR];split
  . simp
  . rename_i h;have:=ih (n/256) (by omega);by_cases f:n<256
    . have:n/256=0:=(by omega);rw[this,gR,ae rfl];simp only[fH,List.head?_cons,dF];intro d;have c:=eM UInt8.toNat d;rw[l8 (by omega)]at c;grind
    . have e:gR (n/256)≠[]:=by rw[gR,bl];simp
      cases b:gR (n/256)with
      |nil=>exact absurd b e
      |cons a l=>rw[b]at this;simpa using this
theorem PV{n:Nat}(h:n<18446744073709551616):hU (gR n)=some n:=by
 unfold hU;have h1:=ady n;have a:=xw 8 n (by rw[afW];exact h)
 rw [al (by rintro (h|h)
            . exact h1 h
            . omega),afy]
theorem afz{a b:List bQ}(c:a.Pairwise (λx y=>x.ad<y.ad))(d:b.Pairwise (λx y=>x.ad<y.ad))(h:∀x,x∈a↔x∈b):a=b:=by
 have g:a.Nodup:=c.imp λ{x y} h e=>by subst e;omega
 have i:b.Nodup:=d.imp λ{x y} h e=>by subst e;omega
 have f:a.Perm b:=(List.perm_ext_iff_of_nodup g i).2 h;exact List.Perm.eq_of_pairwise (le:=λx y:bQ=>x.ad<y.ad) (λx y _ _ h1 j=>by omega) c d f
theorem aex{l m:List I}(ah:l.length=m.length)(h:∀i,i<l.length->l.getD i ar=m.getD i ar):l=m:=by
 apply List.ext_getElem ah;grind
theorem abe(p:aj):p.length<=(dg p).length:=by unfold dg;rw[cc];omega
theorem wb:∀{l:List aj},p∈l->p.length<=(l.flatMap dg).length
 |q::l,h=>by
  rw[gQ,cc];rcases eR.1 h with rfl|h
  . have:=abe p;omega
  . have:=wb h;omega
theorem Ib{ts:List ai}:∀{ms:List aR} {l:List I} {x:Fd},x∈dv ts ms l->∃j,j<ms.length/\j<l.length/\dh (ms.getD j aw) (l.getD j ar)=false/\x=⟨(ms.getD j aw).ad.toNat,(ms.getD j aw).b8,bp ts (ms.getD j aw).av (l.getD j ar)⟩
 |[],l,x,h=>by
  rw[dv]at h
  . cases h
  grind
 |m::ms,[],x,h=>by
  rw[dv]at h
  . cases h
  grind
 |m::ms,v::l,x,h=>by
  rw[dv]at h;split at h
  . obtain⟨j,h1,a,b,c⟩:=Ib h;exact⟨j+1,by simpa using h1,by simpa using a,by simpa using b,by simpa using c⟩
  . rename_i d;rcases eR.1 h with rfl|h
    . exact⟨0,by simp,by simp,by simpa using d,rfl⟩
    . obtain⟨j,h1,a,b,c⟩:=Ib h;exact⟨j+1,by simpa using h1,by simpa using a,by simpa using b,by simpa using c⟩
theorem qm(h:fV ms){a b:aR}(c:a∈ms)(d:b∈ms)(e:a.ad=b.ad):a=b:=by
 obtain⟨i,f,rfl⟩:=e3 c;obtain⟨j,g,rfl⟩:=e3 d;have key:=uN.1 h.1;grind
theorem jT{m:aR}(h:cw ms id=some m):m∈ms/\m.ad=id:=
 ⟨Gq h,by simpa using List.find?_some h⟩
theorem JE(c:fV ms){m:aR}(h:m∈ms):cw ms m.ad=some m:=by
 cases a:cw ms m.ad with
 |none=>exact absurd rfl (oG a m h)
 |some q=>
  obtain⟨h1,b⟩:=jT a;rw[qm c h1 h b]
theorem uA{ts:List ai}{t:Int}:∀{l:List I} {x:I},x∈l->ew ts t x<=e1 ts t l
 |v::l,x,h=>by
  rw[e1];rcases eR.1 h with rfl|h
  . omega
  . have:=uA (ts:=ts) (t:=t) h;omega
theorem JX{ts:List ai}:∀{ms:List aR} {l:List I} {j:Nat},j<ms.length->j<l.length->dh (ms.getD j aw) (l.getD j ar)=false->ew ts (ms.getD j aw).av (l.getD j ar)<=hf ts ms l
 |m::ms,v::l,0,_,_,a=>by
  simp only[mw]at a⊢;rw[hf,al (by rw[a];simp)];omega
 |m::ms,v::l,j+1,h1,b,a=>by
  simp only[CG]at a⊢;have:=JX (ts:=ts) (by simpa using h1) (by simpa using b) a;rw[hf];grind
theorem Fm{l:List aj}(h:(l.flatMap dg).length<=90000):iK (l.flatMap dg)=some l:=by
 have ah:=M4 l;have:=PU l [] (by omega) (by simp;omega);unfold iK;rw[lv,this];rfl
theorem PW{l:List Fd}(e:l.Pairwise (λa b=>a.id<b.id))(c:∀f,f∈l->1<=f.id/\f.id<=1000)(h:(l.flatMap Fd.text).length<=90000):jj (l.flatMap Fd.text)=some (l.map mq):=by
 have ah:=M5 l;have bn:=OX l 0 [] e (λf h=>⟨by have:=c f h;omega,(c f h).2⟩) (by omega) (by simp;omega);have d:f' (0,l.flatMap Fd.text,[])=some (.inr (l.map mq)):=by simpa using bn
 unfold jj;rw[l5,d];rfl
theorem Kf{n:Nat}(h:1<=n/\n<=1000)(c:aj):j8 (ey n++c)=some ((n:Int),c):=by
 unfold j8;have d:=mf (Ks (n:=n) (by omega) c) (by simp);rw[mb,d];simp only[aS,ak];have a:¬(n:Int)<1:=by omega
 have b:¬(1000:Int)<(n:Int):=by omega
 rw[al (by simp only[a,b,de,c6,dU,bW,not_false_eq_true]),jF];simp
theorem Ic{l:List I}{i:Nat}(h:i<l.length):(bF ts t l).getD i []=bp ts t (l.getD i ar):=by
 rw[zU,iE (bp ts t) l i ar [] h]
theorem Kg{b n r:Nat}(h:a=1+max n b)(e:a<=r+1)(d:c<=b):c<=r:=by omega
theorem afA{b r:Nat}(h:a=1+max 1 b)(e:a<=r+1)(d:c=1):c<=r:=by omega
def qO(ts:List ai)(t:Int)(v:I):Prop:=bO ts false t v/\bC v/\wt v<=2147483648
theorem PX{a:I}(h:bC a)(b:I):eX (tp (a,b)) a b:=by
 obtain⟨r,h1,c⟩:=Fh h b;refine⟨r,?_,c⟩;rw[tp];simp only[I.aP];rw[h1];rfl
theorem PY{a:I}(h:bC a)(b:I):eX (nq (a,b)) a b:=MR h b
mutual
def c5:I->I
 |⟨k,b,i,s,id,ks,a,r⟩=>⟨k,b,i,s,id,ks,BF a,if k=5 then[]else r⟩
def BF:List I->List I
 |[]=>[]
 |v::l=>c5 v::BF l
end
theorem M6:∀l:List I,BF l=l.map c5
 |[]=>by rw[BF];rfl
 |v::l=>by rw[BF,M6 l];rfl
theorem mc(v:I):c5 v=⟨v.Kind,v.bS,v.bg,v.bt,v.ad,v.aB,v.ag.map c5,if v.Kind=5 then[]else v.Rest⟩:=by
 cases v;rw[c5,M6]
theorem P6{l:List bQ}(h:l.Pairwise λa b=>a.ad<b.ad)(n:Nat)(h1:∀x,x∈l->1<=x.ad/\x.ad<=n):l.length<=n:=by
 have key:∀(l:List bQ) (m:Int),l.Pairwise (λa b=>a.ad<b.ad)->(∀x,x∈l->m<x.ad/\x.ad<=n)->m<=n->(l.length:Int)<=n-m:=by
  intro l;induction l with
  |nil=>intro m _ _ h;simp;omega
  |cons x l ih=>
   intro m e d aJ;have c:=d x (.head _);have:=ih x.ad (jb.1 e).2 (λy f=>⟨(jb.1 e).1 y f,(d y (.tail _ f)).2⟩) c.2;rw[h8];omega
 have:=key l 0 h (λx c=>⟨by have:=h1 x c;omega,(h1 x c).2⟩) (by omega);omega
section
variable {ts:List ai}
theorem aey(H:c8 ts)(j:bO ts pl t v):v.aB.length<=20/\v.ag.length<=20/\v.Rest.length<=1000:=by
 obtain⟨⟨l,m,n,o⟩,i⟩:=(dO _ _ _).1 j;have e:=aZ (by omega:t.toNat<ts.length) aG;generalize q:ts.getD t.toNat aG=x at*;have p:=H.M x e;have g:=H.cu x e;rcases i with h|h|h|h|h|h|h|h|h
 . obtain⟨a1,a2,a3,a4,a5,a,b⟩:=h;rw[a5,a,b];simp
 . obtain⟨a1,a2,a3,a4,a5,a,b,c⟩:=h;rw[a5,a,b];simp
 . obtain⟨a1,a2,a3,a4,a5,a,b,c⟩:=h;rw[a5,a,b];simp
 . obtain⟨a1,a2,a3,a4,a5,a,b,c⟩:=h;rw[a5,a,b];simp
 . obtain⟨a1,a2,a3,a4,a5,a,b,c⟩:=h;have:=(gV.1 c).1;refine⟨by rw[a];simp,by have:=g.2.2;omega,P6 b.1 1000 λy k=>?_⟩;have:=(b.2 y k).1;unfold cv at this;omega
 . obtain⟨a1,a2,a3,a4,a5,a⟩:=h;split at a
   . obtain⟨b1,b2,b3⟩:=a;rw[a5,b1,b2];simp
   . obtain⟨b1,b2,b3,b4,d,f⟩:=a;rw[a5,b4,f];simp
 . obtain⟨a1,a2,a3,a4,a5,a,b,c,a9⟩:=h;rw[a,b];simp;omega
 . obtain⟨a1,a2,a3,a4,a5,a,b,c,a9⟩:=h;rw[a];simp;omega
 . obtain⟨a1,a2,a3,a4,a5,a,b,c,a9⟩:=h;rw[a,b];simp;omega
structure nO (ts:List ai):Prop where
 T:∀t,t∈ts->eW t
 V:nT ts
theorem c8.g(H:c8 ts):nO ts:=⟨H.T,H.V⟩
inductive jH:I->Prop
 |mk (v:I) (k:v.aB.length<=1000) (i:v.ag.length<=1000) (Cy:∀x,x∈v.ag->jH x):jH v
theorem jH.items(h:jH v):∀x,x∈v.ag->jH x:=by
 cases h with
 |mk _ _ _ h=>exact h
theorem AF(f:jH v)(j:bO ts pl t v):v.aB.length<=1000/\v.ag.length<=1000/\v.Rest.length<=1000:=by
 have⟨k,i⟩:v.aB.length<=1000/\v.ag.length<=1000:=by cases f with|mk _ k i _=>exact⟨k,i⟩
 refine⟨k,i,?_⟩;obtain⟨_,g⟩:=(dO _ _ _).1 j;rcases g with h|h|h|h|h|h|h|h|h
 . rw[h.2.2.2.2.2.2];simp
 . rw[h.2.2.2.2.2.2.1];simp
 . rw[h.2.2.2.2.2.2.1];simp
 . rw[h.2.2.2.2.2.2.1];simp
 . obtain⟨a1,a2,a3,a4,a5,a,b,c⟩:=h;refine P6 b.1 1000 λy l=>?_;have:=(b.2 y l).1;unfold cv at this;omega
 . obtain⟨a1,a2,a3,a4,a5,a⟩:=h;split at a
   . obtain⟨b1,b2,b3⟩:=a;rw[b1];simp
   . obtain⟨b1,b2,b3,b4,d,e⟩:=a;rw[e];simp
 . rw[h.2.2.2.2.2.2.1];simp
 . obtain⟨a1,a2,a3,a4,a5,a,b,c,a9⟩:=h;rw[a];simp
 . rw[h.2.2.2.2.2.2.1];simp
def dG(x:ai)(v:I)(i:Nat):Int:=if x.Kind=5 then(x.af.getD i aw).av else if x.Kind=6 then((cw x.af v.ad).getD aw).av else x.aD
def gi(x:ai)(v:I)(i:Nat):Int:=if x.Kind=5 then(x.af.getD i aw).ad else if x.Kind=6 then v.ad else i
theorem oO(j:bO ts pl t v):∀i,i<v.ag.length->bO ts pl (dG (ts.getD t.toNat aG) v i) (v.ag.getD i ar):=by
 obtain⟨⟨n,o,p,q⟩,g⟩:=(dO _ _ _).1 j;generalize r:ts.getD t.toNat aG=x at*;intro i a;have d:=aZ a ar;unfold dG;rcases g with h|h|h|h|h|h|h|h|h
 . rw[h.2.2.2.2.2.1]at a;cases a
 . rw[h.2.2.2.2.2.1]at a;cases a
 . rw[h.2.2.2.2.2.1]at a;cases a
 . rw[h.2.2.2.2.2.1]at a;cases a
 . obtain⟨a1,a2,a3,a4,a5,b,e,c⟩:=h;rw[fe];obtain⟨b1,b2⟩:=gV.1 c;exact b2 i (by omega)
 . obtain⟨a1,a2,a3,a4,a5,b⟩:=h;rw[bl,fe];split at b
   . rename_i m k;rw[k];exact cD.1 b.2.2 _ d
   . rw[b.2.2.2.1]at a;cases a
 . obtain⟨a1,a2,a3,a4,a5,b,e,c,a9⟩:=h;rw[bl,bl];exact cD.1 a9 _ d
 . obtain⟨a1,a2,a3,a4,a5,b,e,c,a9,f,l⟩:=h;rw[bl,bl];exact cD.1 f _ d
 . obtain⟨a1,a2,a3,a4,a5,b,e,c,a9⟩:=h;rw[bl,bl];exact cD.1 a9 _ d
theorem aez(f:α->α)(l:List α){i:Nat}(a:i<l.length)(d:α):((l.take i).map f++l.drop i).set i (f (l.getD i d))=(l.take (i+1)).map f++l.drop (i+1):=by
 rw[dd a];have h1:((l.take i).map f).length=i:=by simp;omega
 rw[List.set_append_right _ _ (by omega),h1,CP,jB a,List.set_cons_zero,GH,qC,fb a,gg];rfl
theorem aeA(f:α->α)(l:List α){i:Nat}(a:i<l.length)(d:α):((l.take i).map f++l.drop i).getD i d=l.getD i d:=by
 have h1:((l.take i).map f).length=i:=by simp;omega
 rw[Gp,w8 (by omega),h1,CP,jB a,dd a];rfl
theorem LL{l:List I}(ah:l.length<=1000)(h:∀y,y∈l->p' y=some (c5 y)){a0 a2 a4 b0 b2 b4:Int}{a1 b1:Bool}{a3 b3:aj}{r:List bQ}{ks:List I}:∀(k i:Nat),i+k=l.length->
 q7 ((i:Int),a0,a1,a2,a3,a4,r,b0,b1,b2,b3,b4,ks,(l.take i).map c5++l.drop i)=some (a0,a1,a2,a3,a4,r,b0,b1,b2,b3,b4,ks,l.map c5)
 |0,i,a=>by
  rw[q7,cr,uO (by omega),ei (by omega),h9]
 |k+1,i,a=>by
  have aC:i<l.length:=by omega
  have aJ:((l.take i).map c5++l.drop i).length=l.length:=by simp;omega
  rw[q7,aJ,bE,ae (aH aC),aV,bE,aeA c5 l aC ar];simp only[I.aP];rw[h _ (aZ aC ar)];simp only[aS,ak,I.aP];rw[ae (aH aC),bE,aez c5 l aC ar,bA (by omega)];exact LL ah h k (i+1) (by omega)
theorem P7(H:c8 ts)(d:bC v):∀{pl:Bool} {t:Int},bO ts pl t v->jH v:=by
 induction d with
 |mk v hs h1 f g k j l cZ p q r m e=>
  intro pl t a;obtain⟨n,l2,o⟩:=aey H a;exact .mk v (by omega) (by omega) λy c=>by
   obtain⟨i,b,rfl⟩:=e3 c;have:=oO a i b;rw[dd b]at this;exact e _ c this
theorem adz(f:bC v):∀t,jH v->bO ts false t v->p' v=some (c5 v):=by
 induction f with
 |mk v hs h1 k m o n p cZ w x z q g=>
  intro t b c;obtain⟨s,l2,u⟩:=AF b c;have j:∀y,y∈v.ag->p' y=some (c5 y):=λy a=>by
   obtain⟨i,d,rfl⟩:=e3 a;have:=oO c i d;rw[dd d]at this;exact g _ a _ (b.items _ a) this
  have e:DM v=some (v.Kind,v.bS,v.bg,v.bt,v.ad,v.aB,v.ag,v.Rest):=by
   rw[DM];simp only[fH];rw[ae (cV (by omega) (by omega)),ae (cV (by omega) (by omega)),ae (cV (by omega) (by omega))]
  rw[p'];simp only[I.aP];rw[e,mc];simp only[aS,ak];have L:=λ(r:List bQ)=>LL (l:=v.ag) (by omega) j (a0:=v.Kind) (a1:=v.bS) (a2:=v.bg) (a3:=v.bt) (a4:=v.ad) (b0:=0) (b1:=false) (b2:=0) (b3:=[]) (b4:=0) (r:=r) (ks:=v.aB) v.ag.length 0 (by omega);have L':∀r:List bQ,q7 (0,v.Kind,v.bS,v.bg,v.bt,v.ad,r,0,false,0,[],0,v.aB,v.ag)=_:=L;by_cases bf:v.Kind=5
  . rw[ae (by simp[bf]),L',ae bf];rfl
  . rw[al (by simp[bf]),L',al bf];rfl
def jG(x:ai)(v:I):Prop:=x.Kind=4->∃y,y∈x.bj/\y.ad=v.ad
theorem EA(d:eW x)(v:I):∃b,lx (x,v)=some b/\(b=false↔jG x v):=by
 rw[lx];unfold jG;by_cases a:x.Kind=4
 . rw[al (by simp[a])];obtain⟨r,g,_,k⟩:=p0 (t:=x) v.ad (by have:=d.1;have:=dx (eI reachBytes);omega);rw[g];refine⟨!r.2,rfl,?_⟩;rcases k with⟨j,e,f,n,rfl⟩|⟨q,rfl⟩
   . simp only[de,true_iff];exactλ_=>⟨_,aZ e dI,f⟩
   . simp only[en,Bool.true_eq_false,false_iff];intro h;obtain⟨y,l,m⟩:=h a;obtain⟨i,c,rfl⟩:=e3 l;exact absurd m (by have:=q i c;rwa [dd c]at this)
 . rw[ae (by simp[a])];exact⟨false,rfl,by simp[a]⟩
theorem JY(cS:∀t,t∈ts->eW t)(ah:v.aB.length<=1000)(c:v.aB≠[]->0<=x.Key/\x.Key<ts.length):∃b,xi ((⟨ts⟩:aO),x,v)=some b/\(b=false↔∀k,k∈v.aB->jG (ts.getD x.Key.toNat aG) k):=by
 have f:∀i,i<v.aB.length->∃b,lx (ts.getD x.Key.toNat aG,v.aB.getD i ar)=some b/\(b=false↔jG (ts.getD x.Key.toNat aG) (v.aB.getD i ar)):=λi a=>
  EA (cS _ (aZ (by have:=c (by intro h;rw[h]at a;cases a);omega) aG)) _
 have o:∀i,i<v.aB.length->DC (v.aB.getD i ar,ts,x)=(lx (ts.getD x.Key.toNat aG,v.aB.getD i ar)).map λb=>(b,ts,x):=λi a=>by
  rw[DC];have q:=c (by intro h;rw[h]at a;cases a);rw[ae (by simp[ay];omega)];simp only[I.aP];cases lx (ts.getD x.Key.toNat aG,v.aB.getD i ar)<;>rfl
 have h:=ns (λi=>po (v.aB,(v.aB.length:Int),(i:Int),ts,x)) v.aB.length (λi=>(lx (ts.getD x.Key.toNat aG,v.aB.getD i ar))==some true) (λi=>.inl ((i:Int),ts,x)) (.inr (ts,x))
  (λi a=>by
   obtain⟨b,b1,_⟩:=f i a;rw[po,bE,ae (aH a),aV];simp only[I.aP];rw[o i a,b1];simp only[mB,aS,ak];rw[bA (by omega)]
   cases b<;>simp)
  (by rw[po,bz])
 have cQ:po (v.aB,(v.aB.length:Int),((0:Nat):Int),ts,x)=po (v.aB,(v.aB.length:Int),0,ts,x):=rfl;simp only[cQ]at h;rw[xi,Hi,Hg];rcases h with⟨j,h1,m,p,e⟩|⟨h1,e⟩
 . rw[e];refine⟨true,?_,?_⟩
   . have:decide ((0:Int)<=(j:Int))=true:=(by simp);simp only[aS,ak,this]
   . obtain⟨b,b1,b2⟩:=f j h1;have n:b=true:=by
      have g:(lx (ts.getD x.Key.toNat aG,v.aB.getD j ar)==some true)=true:=m;rw[b1]at g;simpa using g
     constructor
     . intro h;cases h
     . intro h;have:=b2.2 (h _ (aZ h1 ar));rw[n]at this;cases this
 . rw[e];refine⟨false,rfl,?_⟩;constructor
   . intro _ k c;obtain⟨i,a,rfl⟩:=e3 c;obtain⟨b,b1,b2⟩:=f i a;have l:(lx (ts.getD x.Key.toNat aG,v.aB.getD i ar)==some true)=false:=h1 i a;rw[b1]at l;have:b=false:=by cases b<;>simp_all
     rw[<-dd a (d:=ar)];exact b2.1 this
   . intro _;rfl
theorem M7(e:fV x.af)(ah:x.af.length<=1000){m:aR}(bn:cw x.af id=some m):∃j,j<x.af.length/\gr (x,id)=some ((j:Int),true)/\x.af.getD j aw=m:=by
 obtain⟨c,d⟩:=jT bn;obtain⟨r,g,k⟩:=vW (t:=x) (id:=id) (by omega);rcases k with⟨j,b,f,_,rfl⟩|⟨q,_⟩
 . exact⟨j,b,g,qm e (aZ b aw) c (by rw[f,d])⟩
 . obtain⟨i,a,rfl⟩:=e3 c;exact absurd d (by have:=q i a;rwa [dd a]at this)
def jg(x:ai)(v:I)(i:Nat):List h3:=(List.range i).map λj=>(⟨dG x v j,gi x v j⟩:h3)
theorem aeB(x:ai)(v:I)(i:Nat):jg x v i++[(⟨dG x v i,gi x v i⟩:h3)]=jg x v (i+1):=by
 unfold jg;rw[List.range_succ,qC];rfl
theorem ot(x:ai)(v:I)(i:Nat):(jg x v i).length=i:=by unfold jg;simp
theorem Ku(x:ai)(v:I){i n:Nat}(h:i<n):(jg x v n).getD i zH=⟨dG x v i,gi x v i⟩:=by
 rw[dd (by rw[ot];exact h)];unfold jg;simp
theorem PZ(ah:v.ag.length<=1000)(bf:x.Kind=5->v.ag.length<=x.af.length)(c:x.Kind=6->0<v.ag.length->∃m,cw x.af v.ad=some m)(a:x.Kind=6->fV x.af/\x.af.length<=16):∀(k i:Nat),i+k=v.ag.length->
 oE ((v.ag.length:Int),(i:Int),x,v,jg x v i)=some (jg x v v.ag.length)
 |0,i,d=>by
  rw[oE,cr];have:i=v.ag.length:=by omega
  rw[this]
 |k+1,i,d=>by
  have ih:=PZ ah bf c a k (i+1) (by omega);have hs:=aeB x v i;have b:∀s:h3,room 16 (jg x v i++[s]).length=true:=λs=>cV (by omega) (by simp[ot];omega);rw[oE,bE,bA (by omega)];simp only[aS,ak,I.aP];by_cases k5:x.Kind=5
  . have aC:i<x.af.length:=by have:=bf k5;omega
    rw[ae (by simp[k5]),ae (aH aC),ae (aH aC),ae (b _),aV];have e:(⟨(x.af.getD i aw).av,(x.af.getD i aw).ad⟩:h3)=⟨dG x v i,gi x v i⟩:=by unfold dG gi;rw[ae k5,ae k5]
    rw[e,hs];exact ih
  . rw[al (by simp[k5])];by_cases k6:x.Kind=6
    . obtain⟨m,bn⟩:=c k6 (by omega);obtain⟨j,f,g,l⟩:=M7 (a k6).1 (by have:=(a k6).2;omega) bn;rw[ae (by simp[k6]),g];simp only[ak];rw[ae (aH f),ae (b _),aV,l];have e:(⟨m.av,v.ad⟩:h3)=⟨dG x v i,gi x v i⟩:=by unfold dG gi;rw[al k5,ae k6,al k5,ae k6,bn];rfl
      rw[e,hs];exact ih
    . rw[al (by simp[k6]),ae (b _)];have e:(⟨x.aD,(i:Int)⟩:h3)=⟨dG x v i,gi x v i⟩:=by unfold dG gi;rw[al k5,al k6,al k5,al k6]
      rw[e,hs];exact ih
theorem JZ(H:hj ts)(d:bO ts pl t v)(ah:v.ag.length<=1000:=by omega):rZ (ts.getD t.toNat aG,v)=some (jg (ts.getD t.toNat aG) v v.ag.length):=by
 obtain⟨⟨g,i,j,k⟩,b⟩:=(dO _ _ _).1 d;have f:=aZ (by omega:t.toNat<ts.length) aG;generalize l:ts.getD t.toNat aG=x at*;rw[rZ];simp only[I.aP]
 have:= PZ (x:= x) (v:= v) ah (λk5=>by
  rcases b with h|h|h|h|h|h|h|h|h
  case inr.inr.inr.inr.inl=>have:=(gV.1 h.2.2.2.2.2.2.2).1;omega
  all_goals (have:=h.1;omega)) (λk6 c=>by
  rcases b with h|h|h|h|h|h|h|h|h
  case inr.inr.inr.inr.inr.inl=>
   obtain⟨a1,a2,a3,a4,a5,a⟩:=h;split at a
   . rename_i m e;exact⟨m,e⟩
   . rw[a.2.2.2.1]at c;cases c
  all_goals (have:=h.1;omega)) (λk6=>H.A x f (.inr k6)) v.ag.length 0 (by omega)
 have h0:oE ((v.ag.length:Int),0,x,v,[])=_:=this;rw[h0];rfl
def zeroV:I:=⟨0,false,0,[],0,[],[],[]⟩
def E5(ts:List ai)(t:Int)(v:I):Prop:=∃b,(b=true↔bO ts true t (c5 v))/\l' ((⟨ts⟩:aO),t,v)=some (if b then(c5 v,true)else(zeroV,false))
theorem P0{x:ai}{v:I}(ah:v.ag.length<=1000)(h:∀i,i<v.ag.length->E5 ts (dG x v i) (v.ag.getD i ar)){z0 z2 z4 a0 a2 a4:Int}{z1 a1:Bool}{z3 a3:aj}{ks:List I}:∀(k i:Nat),i+k=v.ag.length->
 (q1 (jg x v v.ag.length,(v.ag.length:Int),(i:Int),ts,v,z0,z1,z2,z3,z4,a0,a1,a2,a3,a4,ks,(v.ag.take i).map c5)=some (.inr (z0,z1,z2,z3,z4,a0,a1,a2,a3,a4,ks,v.ag.map c5))/\∀j,i<=j->j<v.ag.length->bO ts true (dG x v j) (c5 (v.ag.getD j ar)))\/
 (q1 (jg x v v.ag.length,(v.ag.length:Int),(i:Int),ts,v,z0,z1,z2,z3,z4,a0,a1,a2,a3,a4,ks,(v.ag.take i).map c5)=some (.inl (false,0,false,0,[],0))/\∃j,j<v.ag.length/\¬bO ts true (dG x v j) (c5 (v.ag.getD j ar)))
 |0,i,f=>.inl ⟨by rw[q1,cr,uO (by omega)],λj h1 d=>by omega⟩
 |k+1,i,f=>by
  have aC:i<v.ag.length:=by omega
  obtain⟨b,b1,b2⟩:=h i aC;rw[q1,bE,ae (aH (by rw[ot];exact aC)),ae (aH aC),aV,Ku x v aC];simp only[I.aP];rw[b2];cases b with
  |false=>exact .inr ⟨rfl,i,aC,λq=>by have:=b1.2 q;cases this⟩
  |true=>
   have e:(v.ag.take i).map c5++[c5 (v.ag.getD i ar)]=(v.ag.take (i+1)).map c5:=by
    rw[GH,qC,fb aC,dd aC];rfl
   simp only[aS,ak,bM,de,I.aP];rw[bz,ae (cV),bA (by omega),e];rcases P0 ah h (z0:=z0) (z1:=z1) (z2:=z2) (z3:=z3) (z4:=z4) (a0:=a0) (a1:=a1) (a2:=a2) (a3:=a3) (a4:=a4) (ks:=ks) k (i+1) (by omega)with⟨a,c⟩|⟨a,c⟩
   . refine .inl ⟨a,λj h1 d=>?_⟩;by_cases g:j=i
     . subst g;exact b1.1 rfl
     . exact c j (by omega) d
   . exact .inr ⟨a,c⟩
theorem aeC{k:I}(g:bO ts false t k)(h1:1<=(ts.getD t.toNat aG).Kind/\(ts.getD t.toNat aG).Kind<=4)(i:jG (ts.getD t.toNat aG) k):bO ts true t k:=by
 obtain⟨⟨a,b,c,l⟩,f⟩:=(dO _ _ _).1 g;rw[dO];rcases f with h|h|h|h|h|h|h|h|h
 . exact⟨⟨a,b,c,λ_=>h.2.2.2.2.2.2⟩,.inl h⟩
 . exact⟨⟨a,b,c,λ_=>h.2.2.2.2.2.2.1⟩,.inr (.inl h)⟩
 . exact⟨⟨a,b,c,λ_=>h.2.2.2.2.2.2.1⟩,.inr (.inr (.inl h))⟩
 . obtain⟨a1,a2,a3,a4,a5,e,d,j⟩:=h;exact⟨⟨a,b,c,λ_=>d⟩,.inr (.inr (.inr (.inl ⟨a1,a2,a3,a4,a5,e,d,.inl (i (by omega))⟩)))⟩
 all_goals (have:=h.1;omega)
theorem O0{k:I}(b:bO ts true t k):jG (ts.getD t.toNat aG) k:=by
 obtain⟨⟨c,d,e,f⟩,a⟩:=(dO _ _ _).1 b;intro g;rcases a with h|h|h|h|h|h|h|h|h
 case inr.inr.inr.inl=>
  rcases h.2.2.2.2.2.2.2 with h|h
  . exact h
  . cases h.2.1
 all_goals (have:=h.1;omega)
theorem adA(x:ai)(v:I)(j:Nat):dG x (c5 v) j=dG x v j:=by
 unfold dG;rw[mc]
theorem N5{l:List I}(h:j<l.length):(l.map c5).getD j ar=c5 (l.getD j ar):=by
 rw[dd h,dd (by simpa using h)];simp
theorem adB(H:hj ts)(C:bO ts false t v):bO ts true t (c5 v)↔
 jG (ts.getD t.toNat aG) v/\(∀k,k∈v.aB->jG (ts.getD (ts.getD t.toNat aG).Key.toNat aG) k)/\¬((ts.getD t.toNat aG).Kind=6/\v.ag.length=0)/\∀j,j<v.ag.length->bO ts true (dG (ts.getD t.toNat aG) v j) (c5 (v.ag.getD j ar)):=by
 obtain⟨⟨g,l,n,L⟩,B⟩:=(dO _ _ _).1 C;have G:=aZ (by omega:t.toNat<ts.length) aG;constructor
 . intro h;have D:=oO h;have E:=O0 h;have A:(c5 v).ad=v.ad:=by rw[mc]
   have p:(c5 v).aB=v.aB:=by rw[mc]
   have r:(c5 v).ag=v.ag.map c5:=by rw[mc]
   obtain⟨⟨_,_,f3,f4⟩,s⟩:=(dO _ _ _).1 h;refine⟨λz=>by have:=E z;rwa [A]at this,λk c=>?_,?_,λj o=>?_⟩
   . rcases s with h|h|h|h|h|h|h|h|h
     case inr.inr.inr.inr.inr.inr.inr.inl=>
      have:=h.2.2.2.2.2.2.2.2.1;rw[p]at this;exact O0 (cD.1 this _ c)
     case inr.inr.inr.inr.inr.inl=>have:=h.2.2.2.2.1;rw[p]at this;rw[this]at c;cases c
     case inl=>have:=h.2.2.2.2.1;rw[p]at this;rw[this]at c;cases c
     case inr.inl=>have:=h.2.2.2.2.1;rw[p]at this;rw[this]at c;cases c
     case inr.inr.inl=>have:=h.2.2.2.2.1;rw[p]at this;rw[this]at c;cases c
     case inr.inr.inr.inl=>have:=h.2.2.2.2.1;rw[p]at this;rw[this]at c;cases c
     all_goals (have:=h.2.2.2.2.2.1;rw[p]at this;rw[this]at c;cases c)
   . intro⟨k6,N⟩;rcases s with h|h|h|h|h|h|h|h|h
     case inr.inr.inr.inr.inr.inl=>
      obtain⟨a1,a2,a3,a4,a5,a⟩:=h;split at a
      . have:=a.2.1;rw[r,jc]at this;omega
      . cases a.2.1
     all_goals (have:=h.1;omega)
   . have:=D j (by rw[r,jc];exact o)
     rwa [adA,r,N5 o]at this
 . intro⟨c,F,J,o⟩;rw[mc,dO];dsimp only;generalize M:ts.getD t.toNat aG=x at*;rcases B with h|h|h|h|h|h|h|h|h
   . obtain⟨a1,a2,a3,a4,a5,a,b⟩:=h;rw[bl,a,b];exact⟨⟨g,l,n,λ_=>rfl⟩,.inl ⟨a1,a2,a3,a4,a5,rfl,rfl⟩⟩
   . obtain⟨a1,a2,a3,a4,a5,a,b,d⟩:=h;rw[bl,a,b];exact⟨⟨g,l,n,λ_=>rfl⟩,.inr (.inl ⟨a1,a2,a3,a4,a5,rfl,rfl,d⟩)⟩
   . obtain⟨a1,a2,a3,a4,a5,a,b,d⟩:=h;rw[bl,a,b];exact⟨⟨g,l,n,λ_=>rfl⟩,.inr (.inr (.inl ⟨a1,a2,a3,a4,a5,rfl,rfl,d⟩))⟩
   . obtain⟨a1,a2,a3,a4,a5,a,b,d⟩:=h;rw[bl,a,b];exact⟨⟨g,l,n,λ_=>rfl⟩,.inr (.inr (.inr (.inl ⟨a1,a2,a3,a4,a5,rfl,rfl,.inl (c (by omega))⟩)))⟩
   . obtain⟨a1,a2,a3,a4,a5,a,b,d⟩:=h;rw[ae a1];obtain⟨b1,b2⟩:=gV.1 d;refine⟨⟨g,l,n,λ_=>rfl⟩,.inr (.inr (.inr (.inr (.inl ⟨a1,a2,a3,a4,a5,a,⟨List.Pairwise.nil,λy f=>(by cases f)⟩,gV.2 ⟨by rw[jc];exact b1,λi e=>?_⟩⟩))))⟩;have:=o i (by omega);unfold dG at this;rw[fe]at this;rw[N5 (by omega)];exact this
   . obtain⟨a1,a2,a3,a4,a5,a⟩:=h;rw[bl];cases bn:cw x.af v.ad with
     |none=>
      rw[bn]at a;exact absurd ⟨by omega,by rw[a.2.2.2.1];rfl⟩ J
     |some m=>
      rw[bn]at a;obtain⟨b1,b2,b3⟩:=a;refine⟨⟨g,l,n,λ_=>b1⟩,.inr (.inr (.inr (.inr (.inr (.inl ⟨a1,a2,a3,a4,a5,b1,by rw[jc];exact b2,cD.2 λy f=>?_⟩)))))⟩;obtain⟨w,q,rfl⟩:=eS.1 f;obtain⟨i,e,rfl⟩:=e3 q;have:=o i e;unfold dG at this;rw[bl,fe,bn,dd e]at this;exact this
   . obtain⟨a1,a2,a3,a4,a5,a,b,d,a9⟩:=h;rw[bl];refine⟨⟨g,l,n,λ_=>b⟩,.inr (.inr (.inr (.inr (.inr (.inr (.inl ⟨a1,a2,a3,a4,a5,a,b,by rw[jc];exact d,cD.2 λy f=>?_⟩))))))⟩;obtain⟨w,q,rfl⟩:=eS.1 f;obtain⟨i,e,rfl⟩:=e3 q;have:=o i e;unfold dG at this;rw[bl,bl,dd e]at this;exact this
   . obtain⟨a1,a2,a3,a4,a5,a,b,d,a9,K,u⟩:=h;rw[bl];refine⟨⟨g,l,n,λ_=>a⟩,.inr (.inr (.inr (.inr (.inr (.inr (.inr (.inl ⟨a1,a2,a3,a4,a5,a,b,by rw[jc];exact d,cD.2 λy f=>aeC (cD.1 a9 y f) (H.o6 x G (by omega)) (F y f),cD.2 λy f=>?_,u⟩)))))))⟩;obtain⟨w,q,rfl⟩:=eS.1 f;obtain⟨i,e,rfl⟩:=e3 q;have:=o i e;unfold dG at this;rw[bl,bl,dd e]at this;exact this
   . obtain⟨a1,a2,a3,a4,a5,a,b,d,a9⟩:=h;rw[bl];refine⟨⟨g,l,n,λ_=>b⟩,.inr (.inr (.inr (.inr (.inr (.inr (.inr (.inr ⟨a1,a2,a3,a4,a5,a,b,by rw[jc];exact d,cD.2 λy f=>?_⟩)))))))⟩;obtain⟨w,q,rfl⟩:=eS.1 f;obtain⟨i,e,rfl⟩:=e3 q;have:=o i e;unfold dG at this;rw[bl,bl,dd e]at this;exact this
theorem Jf(c:bO ts pl t v):v.aB≠[]->0<=(ts.getD t.toNat aG).Key/\(ts.getD t.toNat aG).Key<ts.length:=by
 obtain⟨_,b⟩:=(dO _ _ _).1 c;intro aJ;rcases b with h|h|h|h|h|h|h|h|h
 case inr.inr.inr.inr.inr.inr.inr.inl=>
  obtain⟨a1,a2,a3,a4,a5,f,g,i,a9,_⟩:=h;cases a:v.aB with
  |nil=>exact absurd a aJ
  |cons k l=>
   have:=cD.1 a9 k (by rw[a];exact .head _);obtain⟨⟨d,e,_⟩,_⟩:=(dO _ _ _).1 this;exact⟨d,e⟩
 case inl=>exact absurd h.2.2.2.2.1 aJ
 case inr.inl=>exact absurd h.2.2.2.2.1 aJ
 case inr.inr.inl=>exact absurd h.2.2.2.2.1 aJ
 case inr.inr.inr.inl=>exact absurd h.2.2.2.2.1 aJ
 case inr.inr.inr.inr.inr.inl=>exact absurd h.2.2.2.2.1 aJ
 all_goals exact absurd h.2.2.2.2.2.1 aJ
theorem adC(H:nO ts)(N:bC v):∀t,jH v->bO ts false t v->E5 ts t v:=by
 have S:=H.V.fR H.T;induction N with
 |mk v hs h1 u ab ah af ai cZ an ao ap aj O=>
  intro t g c;obtain⟨al,l2,am⟩:=AF g c;obtain⟨⟨X,Y,Z,aa⟩,_⟩:=(dO _ _ _).1 c;have p:t.toNat<ts.length:=by omega
  have K:=aZ p aG;have e:=adB S c;have L:=JZ S c;have J:∀i,i<v.ag.length->E5 ts (dG (ts.getD t.toNat aG) v i) (v.ag.getD i ar):=λi o=>O _ (aZ o ar) _ (g.items _ (aZ o ar)) (oO c i o);obtain⟨W,s1,A⟩:=EA (H.T _ K) v;obtain⟨U,k1,k2⟩:=JY H.T (x:=ts.getD t.toNat aG) (v:=v) (by omega) (Jf c);generalize m:ts.getD t.toNat aG=x at*;have k:∀(P:Prop),¬bO ts true t (c5 v)->l' ((⟨ts⟩:aO),t,v)=some (zeroV,false)->E5 ts t v:=λ_ h1 u=>⟨false,by simp[h1],by rw[u];rfl⟩
  have l:ay t ts.length=true:=by simp[ay];omega
  have M:∀b,(bif decide (x.Kind=6)then decide ((v.ag.length:Int)=0)else false)=b->(b=true↔x.Kind=6/\v.ag.length=0):=by
   intro b F;rw[<-F];by_cases D:x.Kind=6<;>simp[D]
  obtain⟨B,s⟩:∃b,(bif decide (x.Kind=6)then decide ((v.ag.length:Int)=0)else false)=b:=⟨_,rfl⟩
  have y:=M B s;cases W with
  |true=>
   refine k True (λh=>?_) ?_
   . have:=A.2 (e.1 h).1;cases this
   . rw[l',ae l];simp only[aS,ak,I.aP,m];rw[s1];rfl
  |false=>
   cases U with
   |true=>
    refine k True (λh=>?_) ?_
    . have:=k2.2 (e.1 h).2.1;cases this
    . rw[l',ae l];simp only[aS,ak,I.aP,m];rw[s1];simp only[ak,en,bM];rw[k1];rfl
   |false=>
    cases B with
    |true=>
     refine k True (λh=>(e.1 h).2.2.1 (y.1 rfl)) ?_;rw[l',ae l];simp only[aS,ak,I.aP,m];rw[s1];simp only[ak,en,bM];rw[k1,s];rfl
    |false=>
     have g:=P0 (x:=x) (v:=v) (by omega) J (z0:=0) (z1:=false) (z2:=0) (z3:=[]) (z4:=0) (a0:=v.Kind) (a1:=v.bS) (a2:=v.bg) (a3:=v.bt) (a4:=v.ad) (ks:=v.aB) v.ag.length 0 (by omega)
     have w:∀ f,q1 (jg x v v.ag.length,(v.ag.length:Int),0,ts,v,0,false,0,[],0,v.Kind,v.bS,v.bg,v.bt,v.ad,v.aB,[]) = some f->l' ((⟨ts⟩:aO),t,v) = (match f with
      |.inl d=>some ((⟨d.2.1,d.2.2.1,d.2.2.2.1,d.2.2.2.2.1,d.2.2.2.2.2,[],[],[]⟩:I),d.1)
      |.inr a=>some ((⟨a.2.2.2.2.2.1,a.2.2.2.2.2.2.1,a.2.2.2.2.2.2.2.1,a.2.2.2.2.2.2.2.2.1,a.2.2.2.2.2.2.2.2.2.1,a.2.2.2.2.2.2.2.2.2.2.1,a.2.2.2.2.2.2.2.2.2.2.2,[]⟩:I),true)):=by
      intro f E;rw[l',ae l];simp only[aS,ak,I.aP,m];rw[s1];simp only[ak,en,bM];rw[k1,s];simp only[ak,dU];have G:eO 120 v.aB=some v.aB:=by unfold eO;rw[ae (lA (cV (by omega) (by omega)))]
      rw[bz,G];simp only[ak];rw[L];simp only[ak,ot];rw[E];cases f<;>rfl
     rcases g with⟨n,C⟩|⟨n,j,Q,R⟩
     . have z:bO ts true t (c5 v):=e.2 ⟨A.1 rfl,k2.1 rfl,λh=>(by have:=y.2 h;cases this),λj p=>C j (iq _) p⟩;refine⟨true,by simp[z],?_⟩;rw[w _ n,ae rfl];have r:(c5 v).Rest=[]:=by
        obtain⟨⟨_,_,_,q⟩,_⟩:=(dO _ _ _).1 z;exact q rfl
       have:(⟨v.Kind,v.bS,v.bg,v.bt,v.ad,v.aB,v.ag.map c5,[]⟩:I)=c5 v:=by
        rw[mc]at r⊢;dsimp only at r;rw[r]
       show some ((⟨v.Kind,v.bS,v.bg,v.bt,v.ad,v.aB,v.ag.map c5,[]⟩:I),true)=_;rw[this]
     . refine k True (λh=>R ((e.1 h).2.2.2 j Q)) ?_;rw[w _ n];rfl
end
theorem Jg(g:bC v):bC (c5 v):=by
 induction g with
 |mk v hs h1 c d e n f cZ k l m o j=>
  rw[mc];have b:∀x,x∈(if v.Kind=5 then[]else v.Rest)->x∈v.Rest:=λx a=>by
   by_cases bf:v.Kind=5
   . rw[ae bf]at a;cases a
   . rwa [al bf]at a
  refine .mk _ hs h1 (by show(v.ag.map c5).length<=_;rw[jc];exact c) ?_ e (λx a=>?_) (λx a=>f x (b x a)) cZ k l (λx a=>m x (b x a))
  . show(if v.Kind=5 then[]else v.Rest).length<=_;by_cases bf:v.Kind=5
    . rw[ae bf];exact iq _
    . rw[al bf];exact d
  . obtain⟨w,i,rfl⟩:=eS.1 a;exact j w i
theorem adD(H:nO ts)(a:bC v)(d:jH v)(c:bO ts false t v):
 ∃b,(b=true↔bO ts true t (c5 v))/\wg ((⟨ts⟩:aO),t,v)=some (if b then(c5 v,0)else(zeroV,12))/\wD ((⟨ts⟩:aO),t,v)=some (if b then(c5 v,0)else(zeroV,12)):=by
 have S:=H.V.fR H.T;obtain⟨b,b1,b2⟩:=adC H a t d c;obtain⟨_,f⟩:=N2 H.T H.V a c;obtain⟨v1,_⟩:=oJ H.T H.V;obtain⟨⟨u,w,_⟩,_⟩:=(dO _ _ _).1 c;have k:¬(bif decide (t<0)then true else decide ((ts.length:Int)<=t))=true:=by
  have h1:¬t<0:=by omega
  have i:¬(ts.length:Int)<=t:=by omega
  simp[h1,i]
 have m:vZ ((⟨ts⟩:aO),t)=some 0:=by
  rw[vZ];simp only[Mx];rw[v1];simp only[aS,ak];rw[bz,al k]
 have bn:p2 ((⟨ts⟩:aO),t,v)=some true:=by
  obtain⟨q,o,p⟩:=JS (by have:=S.n;omega) H.T S.K a t false;obtain⟨x,e,s⟩:=uI (by have:=S.n;omega) H.T S.K a t false;have g:x=q:=by rw[p]at e;exact(mC e).symm
  have l:q=true:=by rw[<-g];exact s.2 c
  rw[p2];simp only[I.aP];rw[o,l];rfl
 have j:tb ((⟨ts⟩:aO),t,v)=some 0:=by
  rw[tb];simp only[I.aP];rw[m];simp only[aS,ak];rw[bz,bn];rfl
 refine⟨b,b1,?_,?_⟩
 . rw[wg];simp only[I.aP];rw[j];simp only[aS,ak];rw[bz,b2];cases b<;>simp[zeroV,I.aP]
 . rw[wD];simp only[I.aP];rw[f];simp only[aS,ak];rw[bz,adz a t d c];simp only[ak,I.aP];obtain⟨q,r,y⟩:=abc (by have:=S.n;omega) H.T S.K (Jg a) t;rw[r];have:q=b:=by
    cases q<;>cases b<;>simp_all
   subst this;cases q<;>simp[zeroV]
theorem abA(H:c8 ts)(c:bC v)(a:bO ts false t v):
 ∃b,(b=true↔bO ts true t (c5 v))/\wg ((⟨ts⟩:aO),t,v)=some (if b then(c5 v,0)else(zeroV,12))/\wD ((⟨ts⟩:aO),t,v)=some (if b then(c5 v,0)else(zeroV,12)):=adD H.g c (P7 H c a) a
theorem jv{k n:Nat}(a:k<=1000:=by omega)(h:n<=100000000000:=by omega):room k n=true:=by
 unfold room hF dT;simp only[c7,e4];refine⟨?_,by omega⟩;have:(2*n+192)*k<=200000000192*1000:=CN (by omega) a;omega
def Hc(x:ai)(id:Int)(i:Nat):Int:=if x.Kind=5 then(x.af.getD i aw).av else if x.Kind=6 then((cw x.af id).getD aw).av else x.aD
def Dm(x:ai)(id:Int)(i:Nat):Int:=if x.Kind=5 then(x.af.getD i aw).ad else if x.Kind=6 then id else i
theorem ajo(x:ai)(v:I)(i:Nat):gi x v i=Dm x v.ad i:=rfl
abbrev ln:=ao×Int×I
mutual
def eK(ts:List ai)(t:Int):I->List ln
 |⟨k,b,i,s,id,ks,a,r⟩=>([],t,⟨k,b,i,s,id,ks,a,r⟩)::hd ts (ts.getD t.toNat aG) id 0 a
def hd(ts:List ai)(x:ai)(id:Int)(i:Nat):List I->List ln
 |[]=>[]
 |v::l=>(eK ts (Hc x id i) v).map (λq=>(Dm x id i::q.1,q.2))++hd ts x id (i+1) l
end
section
variable {ts:List ai}
theorem AG(t:Int)(v:I):eK ts t v=([],t,v)::hd ts (ts.getD t.toNat aG) v.ad 0 v.ag:=by
 cases v;rw[eK]
theorem JF(x:ai)(v:I){i:Nat}(a:i<v.ag.length):hd ts x v.ad i (v.ag.drop i)=(eK ts (dG x v i) (v.ag.getD i ar)).map (λq=>(gi x v i::q.1,q.2))++hd ts x v.ad (i+1) (v.ag.drop (i+1)):=by
 rw[jB a,hd,dd a];rfl
mutual
theorem u2(t:Int):∀v:I,(eK ts t v).length<=wt v
 |⟨k,b,i,s,id,ks,a,r⟩=>by
  rw[eK,h8,wt];have:=Vb (ts.getD t.toNat aG) id 0 a;omega
theorem Vb(x:ai)(id:Int)(i:Nat):∀l:List I,(hd ts x id i l).length<=cx l
 |[]=>by rw[hd];exact iq _
 |v::l=>by
  rw[hd,cx,cc,jc];have:=u2 (Hc x id i) v;have:=Vb x id (i+1) l;omega
end
def nS(ts:List ai)(x:ai)(v:I):Prop:=v.Rest≠[]\/¬jG x v\/¬∀k,k∈v.aB->jG (ts.getD x.Key.toNat aG) k
noncomputable def lQ (ts:List ai)(x:ai)(v:I):Bool:=@decide (nS ts x v) (Classical.propDecidable _)
theorem D5:lQ ts x v=true↔nS ts x v:=by
 unfold lQ;exact @decide_eq_true_iff _ (Classical.propDecidable _)
noncomputable def hc (ts:List ai)(p:ao)(q:ln):Option ao:=if lQ ts (ts.getD q.2.1.toNat aG) q.2.2 then some (p++q.1)else none
theorem Kv(p:ao)(l:List ln):(l.filterMap (hc ts p)).length<=l.length:=List.length_filterMap_le _ _
theorem P8(p:ao)(n:Int)(l:List ln):(l.map (λq=>((n::q.1,q.2):ln))).filterMap (hc ts p)=l.filterMap (hc ts (p++[n])):=by
 rw[List.filterMap_map]
 congr 1
 funext q
 unfold hc;simp
theorem A7{l:List I}{i:Nat}(a:i<l.length):cx (l.drop i)=wt (l.getD i ar)+cx (l.drop (i+1)):=by
 rw[jB a,gW,dd a]
theorem It(l:List I)(i:Nat):cx (l.drop i)<=cx l:=by
 induction l generalizing i with
 |nil=>simp
 |cons v l ih=>
  cases i with
  |zero=>simp
  |succ i=>rw[List.drop_succ_cons,gW];have:=ih i;omega
def Bh(ts:List ai)(t:Int)(v:I):Prop:=∀p:ao,p.length+wt v<=10000000000->rU ((⟨ts⟩:aO),t,v,p)=some ((eK ts t v).filterMap (hc ts p))
theorem KY{p:ao}(ah:v.ag.length<=1000)(h:∀i,i<v.ag.length->Bh ts (dG x v i) (v.ag.getD i ar))(e:p.length+cx v.ag+1<=10000000000):∀(k i:Nat) (acc:List ao),i+k=v.ag.length->acc.length+cx (v.ag.drop i)<=20000000000->
 rq (p,jg x v v.ag.length,(v.ag.length:Int),(i:Int),ts,v,acc)=some (acc++(hd ts x v.ad i (v.ag.drop i)).filterMap (hc ts p))
 |0,i,acc,c,a=>by
  rw[rq.eq_1,cr,ei (by omega),hd];simp
 |k+1,i,acc,c,a=>by
  have aC:i<v.ag.length:=by omega
  have j:=A7 aC;have f:=It v.ag i;have d:=h i aC (p++[gi x v i]) (by rw[cc];show p.length+1+_<=_;omega);have g:((eK ts (dG x v i) (v.ag.getD i ar)).filterMap (hc ts (p++[gi x v i]))).length<=wt (v.ag.getD i ar):=fg (Kv _ _) (u2 _ _);rw[rq.eq_1,bE,ae (aH (by rw[ot];exact aC)),aV,Ku x v aC];have b:eO 8 p=some p:=by unfold eO;rw[ae (lA (jv))]
  simp only[aS,ak,I.aP];rw[ae (aH aC),b];simp only[ak];rw[ae (jv (by omega) (by rw[cc];show p.length+1<=_;omega)),d];simp only[ak];rw[ae (jv (by omega) (by rw[cc];omega)),bA (by omega)];have ih:=KY ah h e k (i+1) (acc++(eK ts (dG x v i) (v.ag.getD i ar)).filterMap (hc ts (p++[gi x v i]))) (by omega) (by rw[cc];omega);rw[ih,JF x v aC,List.filterMap_append,P8,gg]
theorem Yg(H:nO ts)(k:jH v)(d:bO ts false t v)(q:∀i,i<v.ag.length->Bh ts (dG (ts.getD t.toNat aG) v i) (v.ag.getD i ar)):∀p:ao,p.length+wt v<=10000000000->rU ((⟨ts⟩:aO),t,v,p)=some ((eK ts t v).filterMap (hc ts p)):=by
 intro p D;have S:=H.V.fR H.T;obtain⟨F,l2,G⟩:=AF k d;obtain⟨⟨y,z,A,B⟩,_⟩:=(dO _ _ _).1 d;have o:t.toNat<ts.length:=by omega
 have r:=aZ o aG;have f:=JZ S d;have E:=eV v;obtain⟨b,s1,w⟩:=EA (H.T _ r) v;obtain⟨c,k1,k2⟩:=JY H.T (x:=ts.getD t.toNat aG) (v:=v) (by omega) (Jf d);rw[AG,GF];generalize g:ts.getD t.toNat aG=x at*;have n:ay t ts.length=true:=by simp[ay];omega
 have u:hc ts p (([],t,v):ln)=if lQ ts x v then some p else none:=by
  unfold hc;simp only[g,h9]
 have L:=λacc (e:acc.length<=1)=>KY (x:=x) (v:=v) (p:=p) (by omega) q (by omega) v.ag.length 0 acc (by omega) (by rw[fc];omega);have L':∀acc:List ao,acc.length<=1->rq (p,jg x v v.ag.length,(v.ag.length:Int),0,ts,v,acc)=some (acc++(hd ts x v.ad 0 v.ag).filterMap (hc ts p)):=λacc e=>by
  have:=L acc e;rw[fc]at this;exact this
 have s:decide (0<(v.Rest.length:Int))=decide (v.Rest≠[]):=by
  cases v.Rest with
  |nil=>rfl
  |cons a l=>simp
 have m:lQ ts x v=(decide (v.Rest≠[])||b||c):=by
  rw[yP,D5];unfold nS;rw[<-w,<-k2];cases b<;>cases c<;>simp
 rw[rU,ae n];simp only[aS,ak,I.aP,g];rw[s,u,m,s1,k1];have aM:(if !(v.Rest≠[]:Bool) then some b else some false)=some (!decide (v.Rest≠[])&&b):=by cases decide (v.Rest≠[])<;>rfl
 rw[aM];simp only[ak];have j:(if !(bif (v.Rest≠[]:Bool)then true else !(v.Rest≠[]:Bool)&&b) then some c else some false)=some (!(decide (v.Rest≠[])||b)&&c):=by cases decide (v.Rest≠[])<;>cases b<;>rfl
 rw[j];simp only[ak];have c2:(bif bif decide (v.Rest≠[])then true else !decide (v.Rest≠[])&&b then true else !(decide (v.Rest≠[])||b)&&c)=(decide (v.Rest≠[])||b||c):=by cases decide (v.Rest≠[])<;>cases b<;>cases c<;>rfl
 rw[c2];cases C:(decide (v.Rest≠[])||b||c)with
 |true=>
  rw[ae rfl,ae (jv (by omega) (by simp)),f];simp only[ak,ot];rw[L' [p] (by simp)];rfl
 |false=>
  rw[bz,f];simp only[ak,ot];rw[L' [] (by simp)];rfl
theorem L7{p:ao}(ah:v.ag.length<=1000)(h:∀i,i<v.ag.length->Bh ts (dG x v i) (v.ag.getD i ar))(e:p.length+cx v.ag+1<=10000000000):∀(k i:Nat) (acc:List ao),i+k=v.ag.length->acc.length+cx (v.ag.drop i)<=20000000000->
 pQ (p,jg x v v.ag.length,(v.ag.length:Int),(i:Int),ts,v,acc)=some (acc++(hd ts x v.ad i (v.ag.drop i)).filterMap (hc ts p))
 |0,i,acc,c,a=>by
  rw[pQ.eq_1,cr,ei (by omega),hd];simp
 |k+1,i,acc,c,a=>by
  have aC:i<v.ag.length:=by omega
  have j:=A7 aC;have f:=It v.ag i;have d:=h i aC (p++[gi x v i]) (by rw[cc];show p.length+1+_<=_;omega);have g:((eK ts (dG x v i) (v.ag.getD i ar)).filterMap (hc ts (p++[gi x v i]))).length<=wt (v.ag.getD i ar):=fg (Kv _ _) (u2 _ _);rw[pQ.eq_1,bE,ae (aH (by rw[ot];exact aC)),aV,Ku x v aC];have b:eO 8 p=some p:=by unfold eO;rw[ae (lA (jv))]
  simp only[aS,ak,I.aP];rw[ae (aH aC),b];simp only[ak];rw[ae (jv (by omega) (by rw[cc];show p.length+1<=_;omega)),d];simp only[ak];rw[ae (jv (by omega) (by rw[cc];omega)),bA (by omega)];have ih:=L7 ah h e k (i+1) (acc++(eK ts (dG x v i) (v.ag.getD i ar)).filterMap (hc ts (p++[gi x v i]))) (by omega) (by rw[cc];omega);rw[ih,JF x v aC,List.filterMap_append,P8,gg]
theorem Y7(H:nO ts)(k:jH v)(d:bO ts false t v)(q:∀i,i<v.ag.length->Bh ts (dG (ts.getD t.toNat aG) v i) (v.ag.getD i ar)):∀p:ao,p.length+wt v<=10000000000->zA ((⟨ts⟩:aO),t,v,p)=some ((eK ts t v).filterMap (hc ts p)):=by
 intro p D;have S:=H.V.fR H.T;obtain⟨F,l2,G⟩:=AF k d;obtain⟨⟨y,z,A,B⟩,_⟩:=(dO _ _ _).1 d;have o:t.toNat<ts.length:=by omega
 have r:=aZ o aG;have f:=JZ S d;have E:=eV v;obtain⟨b,s1,w⟩:=EA (H.T _ r) v;obtain⟨c,k1,k2⟩:=JY H.T (x:=ts.getD t.toNat aG) (v:=v) (by omega) (Jf d);rw[AG,GF];generalize g:ts.getD t.toNat aG=x at*;have n:ay t ts.length=true:=by simp[ay];omega
 have u:hc ts p (([],t,v):ln)=if lQ ts x v then some p else none:=by
  unfold hc;simp only[g,h9]
 have L:=λacc (e:acc.length<=1)=>L7 (x:=x) (v:=v) (p:=p) (by omega) q (by omega) v.ag.length 0 acc (by omega) (by rw[fc];omega);have L':∀acc:List ao,acc.length<=1->pQ (p,jg x v v.ag.length,(v.ag.length:Int),0,ts,v,acc)=some (acc++(hd ts x v.ad 0 v.ag).filterMap (hc ts p)):=λacc e=>by
  have:=L acc e;rw[fc]at this;exact this
 have s:decide (0<(v.Rest.length:Int))=decide (v.Rest≠[]):=by
  cases v.Rest with
  |nil=>rfl
  |cons a l=>simp
 have m:lQ ts x v=(decide (v.Rest≠[])||b||c):=by
  rw[yP,D5];unfold nS;rw[<-w,<-k2];cases b<;>cases c<;>simp
 rw[zA,ae n];simp only[aS,ak,I.aP,g];rw[s,u,m,s1,k1];have aM:(if !(v.Rest≠[]:Bool) then some b else some false)=some (!decide (v.Rest≠[])&&b):=by cases decide (v.Rest≠[])<;>rfl
 rw[aM];simp only[ak];have j:(if !(bif (v.Rest≠[]:Bool)then true else !(v.Rest≠[]:Bool)&&b) then some c else some false)=some (!(decide (v.Rest≠[])||b)&&c):=by cases decide (v.Rest≠[])<;>cases b<;>rfl
 rw[j];simp only[ak];have c2:(bif bif decide (v.Rest≠[])then true else !decide (v.Rest≠[])&&b then true else !(decide (v.Rest≠[])||b)&&c)=(decide (v.Rest≠[])||b||c):=by cases decide (v.Rest≠[])<;>cases b<;>cases c<;>rfl
 rw[c2];cases C:(decide (v.Rest≠[])||b||c)with
 |true=>
  rw[ae rfl,ae (jv (by omega) (by simp)),f];simp only[ak,ot];rw[L' [p] (by simp)];rfl
 |false=>
  rw[bz,f];simp only[ak,ot];rw[L' [] (by simp)];rfl
theorem adE(H:nO ts)(d:bC v):∀t,jH v->bO ts false t v->Bh ts t v:=by
 induction d with
 |mk v hs h1 f g k j l cZ n o p m e=>
  intro t b c;exact Yg H b c λi a=>e _ (aZ a ar) _ (b.items _ (aZ a ar)) (oO c i a)
theorem adF(H:nO ts)(e:bC v)(b:jH v)(c:bO ts false t v)(f:wt v<=10000000000):zA ((⟨ts⟩:aO),t,v,[])=some ((eK ts t v).filterMap (hc ts [])):=by
 cases e with
 |mk v hs h1 g j k d l cZ m n o=>
 exact Y7 H b c (λi a=>adE H (d _ (aZ a ar)) _ (b.items _ (aZ a ar)) (oO c i a)) [] (by simpa using f)
end
end
end Go.Proofs.YtdjagncoefjfeaaGreat
