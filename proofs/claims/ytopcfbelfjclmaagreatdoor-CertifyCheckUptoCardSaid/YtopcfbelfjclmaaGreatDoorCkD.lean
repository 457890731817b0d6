/- The functions of the program as functions of Lean, that its code does what they say, and what they answer; part D. -/
import Derived.Test.YtopcfbelfjclmaaGreatDoorCkC

namespace Go.Proofs.YtopcfbelfjclmaaGreatDoor
set_option linter.all false
section
open Go Go.Proofs.YtopcfbelfjclmaaGreatDoor.Shv Go.Sort
set_option maxRecDepth 100000
theorem P6:∀{A B:I Fd},A.Pairwise (λa b=>a.id<b.id)->B.Pairwise (λa b=>a.id<b.id)->(∀x,x∈A↔x∈B)->A=B
 |[],[],_,_,_=>rfl
 |[],b::B,_,_,h=>by have:=(h b).2 (.head _);grind
 |a::A,[],_,_,h=>by have:=(h a).1 (.head _);grind
 |a::A,b::B,c,cZ,h=>by
  rw[kz]at c cZ;have e:a=b:=by grind
  subst e;rw[P6 c.2 cZ.2 _];grind
theorem aaQ:∀(a b:aq),Op.bytesLess a b->Op.bytesLess b a->False:=by
 grind[bytesLess_eq]
theorem acV{a b:aq}(h1:jV a b)(c:jV b a):False:=by
 grind[Fc,aaQ]
variable{t id rt u:Int}{ts tr tw:I aj}{α:Type}{p:aq}{pf qf:Int->ab->aq}{j:Nat}{so:az}{v:ab}{x y:aj}{ms:I aU}{c:bL bM.D}{w:cv}{a:α ⊕ az}
theorem ae3{a b:ab}(e:1<=(ts.getD t.toNat aN).ae/\(ts.getD t.toNat aN).ae<=4)(c:ej a.bE)(d:ej b.bE)(l:a.ae=(ts.getD t.toNat aN).ae)(m:b.ae=(ts.getD t.toNat aN).ae)
 (h:iF a b=0):bG ts t a=bG ts t b:=by
 have h1:=AD c d;have f:=λv=>@o4 ts t v;have g:=λv=>@qE ts t v;have i:=λv=>@qF ts t v;have j:=λv=>@qG ts t v;generalize (ts.getD t.toNat aN).ae=k at*;rw[pF]at h1;by_cases k1:k=1;grind[jb,e7,cZ];by_cases k2:k=2;grind[rU,jb];by_cases k3:k=3;simp only[jb]at h1;grind;simp only[jb]at h1;grind
theorem ae4{a b:ab}(f:1<=(ts.getD t.toNat aN).ae/\(ts.getD t.toNat aN).ae<=4)(d:cp a)(e:cp b)(j:a.ae=(ts.getD t.toNat aN).ae)(k:b.ae=(ts.getD t.toNat aN).ae)
 (l:0<=a.ai\/a.ae≠4)(m:0<=b.ai\/b.ae≠4)(h:jV (bG ts t a) (bG ts t b)):iF a b<0:=by
 have g:ej a.bE:=by cases d with|mk _ _ _ _ _ _ _ _ _ c _ _=>exact c
 have i:ej b.bE:=by cases e with|mk _ _ _ _ _ _ _ _ _ c _ _=>exact c
 grind[ae3,acV,aeU,N3]
theorem Sn:∀(l:I aq),l.length%2=0->gI (e9 l) (fO l)=l.flatMap c'
 |[],_=>by rfl
 |[a],h=>by grind
 |a::b::l,h=>by rw[e9,fO,gI,Sn l (by grind),hd,hd]
theorem J'(d:α):∀{l:I α} {i:Nat},2*i+1<l.length->(e9 l).getD i d=l.getD (2*i) d
 |[],i,h=>by rfl
 |[a],i,h=>by grind
 |a::b::l,0,h=>rfl
 |a::b::l,i+1,h=>by rw[e9,uU,J' d (by grind),show 2*(i+1)=2*i+1+1 by rfl,uU,uU]
theorem P7(d:α):∀{l:I α} {i:Nat},2*i+1<l.length->(fO l).getD i d=l.getD (2*i+1) d
 |[],i,h=>by rfl
 |[a],i,h=>by rfl
 |a::b::l,0,h=>rfl
 |a::b::l,i+1,h=>by rw[fO,uU,P7 d (by grind),show 2*(i+1)+1=2*i+1+1+1 by rfl,uU,uU]
theorem rP{l:I α}{y:α}(d:α)(h:y∈l):∃i,i<l.length/\l.getD i d=y:=by
 obtain⟨i,a,rfl⟩:=gT h;exact⟨i,a,fM a d⟩
section
variable {ts:I aj}
theorem P8:∀{ms:I aU} {l:I ab} {j:Nat},j<ms.length->j<l.length->di (ms.getD j aH) (l.getD j aM)=false->
 (⟨(ms.getD j aH).ai.toNat,(ms.getD j aH).b4,bG ts (ms.getD j aH).aC (l.getD j aM)⟩:Fd)∈ey ts ms l
 |[],l,j,h,_,_=>by grind
 |m::ms,[],j,_,h,_=>by grind
 |m::ms,v::l,0,_,_,h=>by
  grind[ey]
 |m::ms,v::l,j+1,h1,a,h=>by
  rw[ey];have:=P8 (j:=j) (by grind) (by grind) h;grind
theorem P9{r:Nat}:∀{ms:I aU} {l:I ab},(∀j,j<ms.length->j<l.length->di (ms.getD j aH) (l.getD j aM)=false->e4 ts (ms.getD j aH).aC (l.getD j aM)<=r)->iV ts ms l<=r
 |[],l,_=>by
  grind[iV]
 |m::ms,[],_=>by
  grind[iV]
 |m::ms,v::l,h=>by
  have ih:=P9 λj h1 b a=>h (j+1) (by grind) (by grind) a;rw[iV];split;grind;have:=h 0 (by simp) (by simp) (by grind);grind
theorem EY{r:Nat}:∀{l:I ab},(∀y,y∈l->e4 ts t y<=r)->gn ts t l<=r
 |[],_=>by exact iD _
 |v::l,h=>by
  exact Nat.max_le.2 ⟨h v (.head _),EY λy al=>h y (.tail _ al)⟩
def Cg(ts:I aj)(r:Nat)(t:Int)(p:aq):Prop:=∃v,dd ts r t p=some v/\bG ts t v=p/\e4 ts t v<=r
theorem P'{r:Nat}{l:I aq}{m:I ab}(ak:m.length=l.length)(h:∀i,i<l.length->bG ts t (m.getD i aM)=l.getD i []/\e4 ts t (m.getD i aM)<=r):cK ts t m=l/\gn ts t m<=r:=by
 constructor
 . refine zw (by rw[nc,ak]) λi h1 b=>?_;have a:i<m.length:=(by omega);have e:=xd (ts:=ts) (t:=t) a;grind
 . refine EY λy al=>?_;obtain⟨i,c,rfl⟩:=rP aM al;grind
theorem afn(H:cX ts){r:Nat}(ih:∀(t:Int) (p:aq),p.length<=90000->0<=t->t<ts.length->dK ts r t p->Cg ts r t p)(ar:p.length<=90000)(t0:0<=t)(t1:t<ts.length)(h:dK ts (r+1) t p):Cg ts (r+1) t p:=by
 rw[Qs]at h;have aT:t.toNat<ts.length:=by omega
 have aa:=bA aT aN;have fB:=H.hZ;obtain⟨a7,a8⟩:=fB.S.K _ aa;unfold Cg;rw[EH];rcases h with(⟨k,h⟩|⟨k,h⟩|⟨k,h⟩|⟨k,h⟩)|⟨k,h⟩|⟨k,h⟩|⟨k,h⟩|⟨k,h⟩|⟨k,h⟩
 . unfold lS;rw[ah k];unfold BW;rcases h with h|h
   subst h;exact⟨_,ah rfl,by rw[o4 k];rfl,by rw[p8 rfl rfl];omega⟩;subst h;exact⟨_,by rw[cq,ah rfl],by rw[o4 k];rfl,by rw[p8 rfl rfl];omega⟩
 unfold lS;rw[cb,ah k];obtain⟨n,M,U⟩:=h;unfold BX;rw[M];refine⟨_,ah U,?_,by rw[p8 rfl rfl];omega⟩;rw[qE k];show ei (fP (ga n)).toNat=p;rw[agm,P1 M];unfold lS;rw[cb,cb,ah k];unfold BY;exact⟨_,ah h,by rw[qF k],by rw[p8 rfl rfl];omega⟩
 . unfold lS;rw[cb,cb,cb,ah k];obtain⟨n,M,U,bh⟩:=h;unfold BZ;rw[M];refine⟨_,ah ⟨U.1,U.2,?_⟩,?_,by rw[p8 rfl rfl];omega⟩
   rw[qG k];show ei (n:Int).toNat=p;rw[bQ,P1 M];grind
 ·
  unfold lS;rw[cb,cb,cb,cb,cb,cb,cb,cb];obtain⟨l,ak,B,am⟩:=h;obtain⟨Y,bb⟩:=fB.S.A _ aa (.inl k);obtain⟨o,av,aw,ax⟩:=EE ar;have s:(∀f,f∈l->f.bT.length<=p.length/\cD f.ai)/\l.Pairwise (λa b=>a.ai<b.ai)/\l.length<=p.length:=by grind
  have mq:=λv=>@B2 ts t v k;have z:=λv=>rO (ts:=ts) t v;generalize ts.getD t.toNat aN=x at*
  obtain⟨R,aY,aZ⟩:=AG (f:=eO (dd ts r) l) (P:=λm w=>(∃f,f∈l/\f.ai=m.ai/\di m w=false/\bG ts m.aC w=f.bT/\f.b4=m.b4/\e4 ts m.aC w<=r)\/((∀f,f∈l->f.ai≠m.ai)/\di m w)) aH aM (l:=x.af) (λm Q=>by
   unfold eO;cases ag:l.find? (λf=>(f.ai=m.ai:J))with
   |some f=>
    have X:=xu ag;have W:f.ai=m.ai:=by have:=C0 ag;simpa using this
    have bK:cw x.af f.ai=some m:=by
     cases bK:cw x.af f.ai with
     |none=>exact absurd W.symm (mi bK m Q)
     |some bg=>
      obtain⟨E,V⟩:=kp bK;rw[uq Y E Q (by rw[V,W])]
    obtain⟨aB,aE,a9⟩:=(B f X).2 m bK;obtain⟨v,v1,v2,v3⟩:=ih _ _ (by have:=(s.1 f X).1;omega) (fB.mem aa Q).1 (fB.mem aa Q).2 aE;refine⟨v,v1,.inl ⟨f,X,W,?_,v2,aB,v3⟩⟩;unfold di;grind
   |none=>
    have aX:∀f,f∈l->f.ai≠m.ai:=λf B=>by grind
    cases aP:m.bH with
    |false=>grind
    |true=>
     dsimp only;rw[ah rfl]
     exact⟨_,rfl,.inr ⟨aX,by unfold di;simp[aP]⟩⟩)
  have bd:=nk aY;have bc:l.all (gm x):=by
   rw[gk];intro f aQ;unfold gm;cases bK:cw x.af f.ai with
   |some m=>rfl
   |none=>rw[(B f aQ).1 bK];rfl
  have ao:iO x.af (ft x l):=P5 s.2.1 (λf B=>(s.1 f B).2);refine⟨⟨5,false,0,[],0,[],R,ft x l⟩,?_,?_,?_⟩;unfold x1;grind
  . rw[mq];dsimp only;have aS:hp fe (fE ts x.af R (ft x l))=l.map λf=>(⟨f.ai.toNat,f.b4,f.bT⟩:Fd):=by
     refine P6 (O1 (Ac Y ao) (NV Y ao)) ?_ λy=>?_
     . rw[Hi];refine s.2.1.imp_of_mem λ{a b} aK aO aD=>?_;have ab:=(s.1 a aK).2;have C:=(s.1 b aO).2;unfold cD at ab C;grind
     . rw[(lr fe _).mem_iff];unfold fE;rw[iB,fY,fY];constructor
       . rintro (al|⟨a,a1,rfl⟩)
         obtain⟨j,T,a0,a3,rfl⟩:=Fe al;grind;obtain⟨f,f1,f2,rfl⟩:=J9 a1;refine⟨f,f1,?_⟩;have:=(B f f1).1 f2;unfold iE;rw[this]
       . rintro ⟨f,f1,rfl⟩
         cases bK:cw x.af f.ai with
         |some m=>
          left;obtain⟨c,L⟩:=kp bK;obtain⟨j,T,rfl⟩:=rP aH c;rcases aZ j T with⟨g,g1,g2,g3,g4,a',_⟩|⟨q,_⟩
          . have:g=f:=by
             obtain⟨a,a1,a2⟩:=gT g1;obtain⟨b,b1,b2⟩:=gT f1;rcases Nat.lt_trichotomy a b with O|O|O;have:=xt.1 s.2.1 a b a1 b1 O;grind;grind;have:=xt.1 s.2.1 b a b1 a1 O;grind
            subst this;have:=P8 (ts:=ts) (ms:=x.af) (l:=R) T (by omega) g3;grind
          grind
         |none=>
          right;refine⟨⟨f.ai,f.bT⟩,?_,?_⟩;unfold ft;grind;unfold iE;rw[(B f f1).1 bK]
    rw[aS,List.flatMap_map];exact QC ar ak
  . rw[z,ah rfl,ah k];have:=P9 (ts:=ts) (r:=r) (ms:=x.af) (l:=R) λj T a0 a3=>by grind
    grind
 ·
  unfold lS;rw[cb,cb,cb,cb,cb,ah k];obtain⟨id,q,E,V,N⟩:=h;have aI:=Sj E;have be:=p' id.toNat;have an:q.length+1<=p.length:=by rw[aI,eh];omega
  have k':=λv=>@B3 ts t v k;have z:=λv=>rO (ts:=ts) t v;unfold B0;rw[E];dsimp only;generalize ts.getD t.toNat aN=x at*;cases bK:cw x.af id with
  |some m=>
   obtain⟨c,L⟩:=kp bK;obtain⟨v,v1,v2,v3⟩:=ih _ _ (by omega) (fB.mem aa c).1 (fB.mem aa c).2 (N m bK);refine⟨_,by dsimp only;rw[v1];rfl,?_,?_⟩;rw[k'];dsimp only;rw[bK];dsimp only;rw[cK,v2];grind
   . rw[z,ah rfl,cb,ah k];dsimp only;rw[bK];dsimp only;have:gn ts m.aC [v]<=r:=EY λy al=>by rcases eE.1 al with rfl|al;exact v3;cases al
     omega
  |none=>simp_all
 ·
  unfold lS;rw[cb,cb,cb,cb,cb,cb,ah k];obtain⟨l,I,l2,D⟩:=h;obtain⟨aJ,F⟩:=fB.elem aa (by omega);obtain⟨o,av,aw,ax⟩:=uo ar;have ak:(∀q,q∈l->q.length<=p.length)/\l.length<=p.length:=by grind
  have qW:=λv=>@B4 ts t v k;have z:=λv=>rO (ts:=ts) t v;unfold va;rw[I];dsimp only;generalize ts.getD t.toNat aN=x at*
  obtain⟨m,c,L⟩:=AG (f:=dd ts r x.aF) (P:=λq w=>bG ts x.aF w=q/\e4 ts x.aF w<=r) ([]:aq) aM (l:=l) (λq u=>by
   obtain⟨v,v1,v2,v3⟩:=ih _ _ (by have:=ak.1 q u;omega) aJ F (D q u)
   grind)
  obtain⟨f1,f2⟩:=P' (nk c) L;refine⟨⟨7,false,0,[],0,[],m,[]⟩,by rw[ah l2,c];rfl,?_,?_⟩;rw[qW];dsimp only;rw[f1];exact Fv ar I;grind
 ·
  unfold lS;rw[cb,cb,cb,cb,cb,cb,cb,ah k];obtain⟨l,I,ad,l2,D⟩:=h;obtain⟨aJ,F⟩:=fB.elem aa (by omega);obtain⟨d1,d2⟩:=fB.key aa k;have aV:=fB.S.qM _ aa k;obtain⟨o,av,aw,ax⟩:=uo ar;have ak:(∀q,q∈l->q.length<=p.length)/\l.length<=p.length:=by grind
  obtain⟨g1,g2⟩:=KG ad;have e8:=λv=>@B5 ts t v k;have z:=λv=>rO (ts:=ts) t v;unfold B1;rw[I];dsimp only;generalize ts.getD t.toNat aN=x at*
  obtain⟨ks,ap,a4⟩:=AG (f:=dd ts r x.aR) (P:=λq w=>dd ts r x.aR q=some w/\bG ts x.aR w=q/\q.length<=90000) ([]:aq) aM (l:=e9 l) (λq u=>by
   obtain⟨i,ab,C⟩:=rP ([]:aq) u;have an:=ak.1 q (EG u);rw[J' [] (by omega)]at C;have d:=(D i (by omega)).1;rw[C]at d;obtain⟨v,v1,v2,v3⟩:=ih _ _ (by omega) d1 d2 d
   grind)
  obtain⟨m,c,L⟩:=AG (f:=dd ts r x.aF) (P:=λq w=>bG ts x.aF w=q/\e4 ts x.aF w<=r) ([]:aq) aM (l:=fO l) (λq u=>by
   obtain⟨i,ab,C⟩:=rP ([]:aq) u;have an:=ak.1 q (EX u);rw[P7 [] (by omega)]at C;have d:=(D i (by omega)).2.1;rw[C]at d;obtain⟨v,v1,v2,v3⟩:=ih _ _ (by omega) aJ F d
   grind)
  have aW:=nk ap;have G:∀i,i<ks.length->qL ts x.aR ((e9 l).getD i []) (ks.getD i aM)/\bG ts x.aR (ks.getD i aM)=(e9 l).getD i []:=λi Z=>by
   obtain⟨E,V,N⟩:=a4 i (by omega);exact⟨JL H r _ _ _ N d1 d2 E,V⟩
  have aU:cK ts x.aR ks=e9 l:=by
   refine zw (by rw[nc,aW]) λi h1 ba=>?_;have am:i<ks.length:=(by omega);have e:=xd (ts:=ts) (t:=x.aR) am;grind
  have hid:∀i,i<ks.length->(ks.getD i aM).ae=(ts.getD x.aR.toNat aN).ae/\(0<=(ks.getD i aM).ai\/(ks.getD i aM).ae≠4):=λi Z=>by
   have aj:=(G i Z).1.1;rw[hF]at aj;obtain⟨⟨_,_,N,_⟩,q⟩:=aj;refine⟨N,?_⟩;have aG:=fB.S.S _ (bA (by omega:x.aR.toNat<ts.length) aN);rcases q with q|q|q|q|q|q|q|q|q;right;omega;right;omega;right;omega
   . left;obtain⟨a1,_,_,_,_,_,_,aA⟩:=q;rcases aA with⟨y,a5,bi⟩|⟨_,_,a6⟩
     have:=aG (by omega) y a5;unfold cD at this;omega;unfold cD at a6;omega
   right;omega;right;omega;right;omega;right;omega;omega
  have aL:qc ks:=by
   intro i Z;have hs:=(D (i+1) (by omega)).2.2 (by omega);rw[show 2*(i+1)-2=2*i by omega]at hs;have ay:=(G i (by omega)).2;have az:=(G (i+1) (by omega)).2;rw[J' [] (by omega)]at ay az;rw[<-ay,<-az]at hs;exact ae4 aV (G i (by omega)).1.2.1 (G (i+1) (by omega)).1.2.1 (hid i (by omega)).1 (hid (i+1) (by omega)).1 (hid i (by omega)).2 (hid (i+1) (by omega)).2 hs
  obtain⟨f1,f2⟩:=P' (nk c) L;refine⟨⟨8,false,0,[],0,ks,m,[]⟩,by rw[ah ⟨ad,l2⟩,ap];dsimp only;rw[ah (wT.2 aL),c];rfl,?_,?_⟩;rw[e8];dsimp only;rw[f1,aU,Sn l ad];exact Fv ar I
  . rw[z,au (show ¬x.ae=5 by omega),au (show ¬x.ae=6 by omega)];dsimp only;have bf:(if ks=[]then 0 else 1)<=r:=by
     by_cases he:ks=[];grind
     . have:0<ks.length:=xy.2 he;have d:=(D 0 (by omega)).1;cases r with
       |zero=>exact absurd d (by simp[dK])
       |succ r=>rw[au he];omega
    omega
 ·
  unfold lS;rw[cb,cb,cb,cb,ah k];obtain⟨aJ,F⟩:=fB.elem aa (by omega);have pv:=λv=>@B6 ts t v k;have z:=λv=>rO (ts:=ts) t v;generalize ts.getD t.toNat aN=x at*;rcases h with h|⟨q,h,d⟩;subst h;refine⟨_,rfl,?_,by rw[p8 rfl rfl];omega⟩;rw[pv];dsimp only;rw[cK]
  . subst h;obtain⟨v,v1,v2,v3⟩:=ih _ _ (by simp at ar;omega) aJ F d;refine⟨⟨9,false,0,[],0,[],[v],[]⟩,by rw[vb,ah rfl,v1];rfl,?_,?_⟩
    rw[pv];dsimp only;rw[cK,v2]
    . rw[z,ah rfl,cb,cb];dsimp only;have:gn ts x.aF [v]<=r:=EY λy al=>by rcases eE.1 al with rfl|al;exact v3;cases al
      omega
theorem QH(H:cX ts):∀(r:Nat) (t:Int) (p:aq),p.length<=90000->0<=t->t<ts.length->dK ts r t p->Cg ts r t p
 |0,t,p,_,_,_,h=>by grind[dK]
 |r+1,t,p,ar,t0,t1,h=>afn H (QH H r) ar t0 t1 h
end
abbrev fK:=Int->ab->Int->az->ab ⊕ az
def hK{α:Type}:α ⊕ az->I α ⊕ az->I α ⊕ az
 |.inr p,_=>.inr p
 |.inl _,.inr p=>.inr p
 |.inl u,.inl l=>.inl (u::l)
def jj{α a:Type}(g:α->a):α ⊕ az->a ⊕ az
 |.inr p=>.inr p
 |.inl u=>.inl (g u)
def lq{α a:Type}(g:α->a ⊕ az):α ⊕ az->a ⊕ az
 |.inr p=>.inr p
 |.inl u=>g u
def eX(l:I aU)(id:Int):ag Nat:=l.findIdx? λm=>(m.ai=id:J)
def kt(l:I aU)(id:Int):Int×J:=match eX l id with
 |some j=>((j:Int),true)
 |none=>(0,false)
def eW(f:fK)(so:az)(t rt:Int):Nat->I ab->I ab ⊕ az
 |_,[]=>.inl []
 |i,v::l=>hK (f t v rt (so++[(i:Int)])) (eW f so t rt (i+1) l)
noncomputable def sB (m:aU)(w:ab)(n:aU)(a:az):ab ⊕ az->ab ⊕ az
 |.inr p=>if di m w then .inr a else .inr p
 |.inl u=>if di m w=true/\di n u=false then .inr a else .inl u
noncomputable def qA (f:fK)(x:aj)(v:ab)(so:az)(n:aU):ab ⊕ az:=match eX x.af n.ai with
 |none=>if n.bH then .inl n.bm else .inr (so++[n.ai])
 |some i=>sB (x.af.getD i aH) (v.aw.getD i aM) n (so++[n.ai]) (f (x.af.getD i aH).aC (v.aw.getD i aM) n.aC (so++[n.ai]))
noncomputable def h5 (f:fK)(x:aj)(v:ab)(so:az):I aU->I ab ⊕ az
 |[]=>.inl []
 |n::l=>hK (qA f x v so n) (h5 f x v so l)
noncomputable def hv (pf:Int->ab->aq)(y:aj)(so:az):I aU->I ab->I ch ⊕ az
 |m::ms,v::l=>if(cw y.af m.ai).isSome then hv pf y so ms l
  else if m.b4 then .inr (so++[m.ai])
  else if di m v then hv pf y so ms l
  else hK (.inl ⟨m.ai,pf m.aC v⟩) (hv pf y so ms l)
 |_,_=>.inl []
def jH(x y:aj)(v:ab):Prop:=(x.ae=2->y.br<=v.bE/\v.bE<=y.bB)/\(x.ae=3->(v.bZ.length:Int)<=y.Max)/\(x.ae=4->(∃s,s∈y.bc/\s.ai=v.ai)\/y.bt)
noncomputable def qy (pf:Int->ab->aq)(f:fK)(x y:aj)(v:ab)(so:az):ab ⊕ az:=
 lq (λa=>jj (λr=>⟨5,false,0,[],0,[],a,r⟩) (hv pf y so x.af v.aw)) (h5 f x v so y.af)
noncomputable def o1 (pf:Int->ab->aq)(f:fK)(x y:aj)(v:ab)(so:az):ab ⊕ az:=match eX x.af v.ai with
 |none=>.inr so
 |some i=>match eX y.af v.ai with
  |some k=>jj (λu=>⟨6,false,0,[],v.ai,[],[u],[]⟩) (f (x.af.getD i aH).aC (v.aw.getD 0 aM) (y.af.getD k aH).aC (so++[v.ai]))
  |none=>if y.bt then .inl ⟨6,false,0,[],v.ai,[],[],[⟨v.ai,pf (x.af.getD i aH).aC (v.aw.getD 0 aM)⟩]⟩else .inr so
def sx(f:fK)(x y:aj)(v:ab)(so:az):ab ⊕ az:=
 if(v.aw.length:Int)<=y.Max then jj (λa=>⟨7,false,0,[],0,[],a,[]⟩) (eW f so x.aF y.aF 0 v.aw)else .inr so
def sy(f:fK)(x y:aj)(v:ab)(so:az):ab ⊕ az:=
 if(v.aw.length:Int)<=y.Max then lq (λks=>jj (λa=>⟨8,false,0,[],0,ks,a,[]⟩) (eW f so x.aF y.aF 0 v.aw)) (eW f so x.aR y.aR 0 v.a7)else .inr so
def sA(f:fK)(x y:aj)(v:ab)(so:az):ab ⊕ az:=
 jj (λa=>⟨9,false,0,[],0,[],a,[]⟩) (eW f so x.aF y.aF 0 v.aw)
open Classical in
noncomputable def hO (pf:Int->ab->aq)(f:fK)(x y:aj)(v:ab)(so:az):ab ⊕ az:=
 if ¬x.ae=y.ae then .inr so
 else if x.ae=5 then qy pf f x y v so
 else if x.ae=6 then o1 pf f x y v so
 else if x.ae=7 then sx f x y v so
 else if x.ae=8 then sy f x y v so
 else if x.ae=9 then sA f x y v so
 else if jH x y v then .inl v else .inr so
noncomputable def en (pf:Int->ab->aq)(tw tr:I aj):Nat->fK
 |0=>λ_ _ _ so=>.inr so
 |n+1=>λt v rt so=>hO pf (en pf tw tr n) (tw.getD t.toNat aN) (tr.getD rt.toNat aN) v so
theorem xe(n:Nat)(t:Int)(v:ab)(rt:Int)(so:az):en pf tw tr (n+1) t v rt so=hO pf (en pf tw tr n) (tw.getD t.toNat aN) (tr.getD rt.toNat aN) v so:=rfl
section
variable {pf:Int->ab->aq}{f:fK}{x y:aj}{v:ab}{so:az}
theorem Sp(bW:¬x.ae=y.ae):hO pf f x y v so= .inr so:=by grind[hO]
theorem VJ(bW:x.ae=y.ae)(h:x.ae=5):hO pf f x y v so=qy pf f x y v so:=by grind[hO]
theorem VK(bW:x.ae=y.ae)(h:x.ae=6):hO pf f x y v so=o1 pf f x y v so:=by grind[hO]
theorem VL(bW:x.ae=y.ae)(h:x.ae=7):hO pf f x y v so=sx f x y v so:=by grind[hO]
theorem VM(bW:x.ae=y.ae)(h:x.ae=8):hO pf f x y v so=sy f x y v so:=by grind[hO]
theorem VN(bW:x.ae=y.ae)(h:x.ae=9):hO pf f x y v so=sA f x y v so:=by grind[hO]
theorem rQ(bW:x.ae=y.ae)(h:x.ae<=4)(ak:jH x y v):hO pf f x y v so= .inl v:=by grind[hO]
theorem xj(bW:x.ae=y.ae)(h:x.ae<=4)(ak:¬jH x y v):hO pf f x y v so= .inr so:=by grind[hO]
end
theorem Qa{m:aU}{w:ab}{n:aU}{a p:az}:sB m w n a (.inr p)=if di m w then .inr a else .inr p:=rfl
theorem Qb{m:aU}{w:ab}{n:aU}{a:az}{u:ab}:sB m w n a (.inl u)=if di m w=true/\di n u=false then .inr a else .inl u:=rfl
theorem iN{l:I aU}(h:eX l id=some j):j<l.length/\(l.getD j aH).ai=id/\∀k,k<j->(l.getD k aH).ai≠id:=by
 obtain⟨h1,a,b⟩:=List.findIdx?_eq_some_iff_getElem.1 h;grind[fM]
theorem QI{l:I aU}(h:eX l id=none):∀k,k<l.length->(l.getD k aH).ai≠id:=λk a=>by
 have:=List.findIdx?_eq_none_iff.1 h _ (bA a aH);grind
theorem ND(l:I aU)(id:Int):uM l id (kt l id):=by
 unfold kt;cases h:eX l id with
 |some j=>exact .inl ⟨j,(iN h).1,(iN h).2.1,(iN h).2.2,rfl⟩
 |none=>exact .inr ⟨QI h,rfl⟩
theorem xC(l:I aU)(id:Int):(eX l id).isSome=(cw l id).isSome:=by
 cases h:eX l id with
 |some j=>
  obtain⟨h1,d,_⟩:=iN h;cases g:cw l id with
  |some _=>rfl
  |none=>grind[mi]
 |none=>
  cases g:cw l id with
  |none=>rfl
  |some m=>
   obtain⟨b,c⟩:=kp g;obtain⟨i,a,rfl⟩:=gT b;exact absurd c (by rw[<-fM a aH];grind[QI])
theorem Ka{b:I α ⊕ az}{l:I α}(h:hK a b= .inl l):∃u us,a= .inl u/\b= .inl us/\l=u::us:=by
 grind[hK]
theorem AH{c:Type}{g:α->c}{b:c}(h:jj g a= .inl b):∃u,a= .inl u/\b=g u:=by
 grind[jj]
theorem NF{c:Type}{g:α->c ⊕ az}{b:c}(h:lq g a= .inl b):∃u,a= .inl u/\g u= .inl b:=by
 grind[lq]
theorem Ff{f:fK}{so:az}{t rt:Int}:∀{l:I ab} {i:Nat} {us:I ab},eW f so t rt i l= .inl us->us.length=l.length/\∀j,j<l.length->f t (l.getD j aM) rt (so++[((i+j:Nat):Int)])= .inl (us.getD j aM)
 |[],i,us,h=>by
  grind[eW]
 |v::l,i,us,h=>by
  obtain⟨u,e,h1,c,rfl⟩:=Ka h;obtain⟨a,b⟩:=Ff c;refine⟨by grind,λj d=>?_⟩;cases j<;>grind
theorem NG{f:fK}{x:aj}{v:ab}{so:az}:∀{l:I aU} {us:I ab},h5 f x v so l= .inl us->us.length=l.length/\∀j,j<l.length->qA f x v so (l.getD j aH)= .inl (us.getD j aM)
 |[],us,h=>by
  grind[h5]
 |n::l,us,h=>by
  obtain⟨u,d,h1,c,rfl⟩:=Ka h;obtain⟨a,b⟩:=NG c;grind
variable{f:fK}
theorem afo{n:aU}{u:ab}(h:qA f x v so n= .inl u):
 (eX x.af n.ai=none/\n.bH/\u=n.bm)\/∃i,eX x.af n.ai=some i/\f (x.af.getD i aH).aC (v.aw.getD i aM) n.aC (so++[n.ai])= .inl u/\(di (x.af.getD i aH) (v.aw.getD i aM)->di n u):=by
 unfold qA at h;cases a:eX _ _ with
 |none=>
  grind
 |some i=>
  simp only[a]at h;refine .inr ⟨i,rfl,?_⟩;revert h;cases f _ _ _ _ with
  |inr p=>grind[sB]
  |inl w=>grind[sB]
theorem EI{pf:Int->ab->aq}{y:aj}{so:az}:∀{ms:I aU} {l:I ab} {r:I ch},hv pf y so ms l= .inl r->
 r.length<=ms.length/\(r.map λa=>a.ai).Sublist (ms.map λm=>m.ai)/\∀a,a∈r->cw y.af a.ai=none/\∃j,j<ms.length/\j<l.length/\a=⟨(ms.getD j aH).ai,pf (ms.getD j aH).aC (l.getD j aM)⟩
 |[],l,r,h=>by
  rw[hv]at h;cases h;simp;intros;simp_all
 |m::ms,[],r,h=>by
  grind[hv]
 |m::ms,v::l,r,h=>by
  have up:∀{r},hv pf y so ms l= .inl r->r.length<=(m::ms).length/\(r.map λa=>a.ai).Sublist ((m::ms).map λm=>m.ai)/\∀a,a∈r->cw y.af a.ai=none/\∃j,j<(m::ms).length/\j<(v::l).length/\a=⟨((m::ms).getD j aH).ai,pf ((m::ms).getD j aH).aC ((v::l).getD j aM)⟩:=λ{r} h=>by
   obtain⟨a,b,c⟩:=EI h;refine⟨by simp;omega,by grind,λq d=>?_⟩;obtain⟨f,j,n,o,e⟩:=c q d;exact⟨f,j+1,by simp;omega,by simp;omega,e⟩
  rw[hv]at h;by_cases f:(cw y.af m.ai).isSome=true;grind;rw[au f]at h;by_cases g:m.b4=true;rw[ah g]at h;cases h;rw[au g]at h;by_cases k:di m v=true;grind;rw[au k]at h;obtain⟨u,us,aJ,i,rfl⟩:=Ka h;cases aJ;obtain⟨a,b,c⟩:=EI i;refine⟨by grind,by grind,λq d=>?_⟩;rcases eE.1 d with rfl|d;exact⟨by simpa using f,0,by simp,by simp,rfl⟩;exact(up i).2.2 q d
def hg(pf:Int->ab->aq)(ts:I aj):Nat->Int->ab->Prop
 |0,_,_=>False
 |n+1,t,v=>((pf t v).length<=35184372088832/\v.aw.length<=1000/\v.a7.length<=1000)/\
  ((ts.getD t.toNat aN).ae=5->∀i,i<(ts.getD t.toNat aN).af.length->hg pf ts n ((ts.getD t.toNat aN).af.getD i aH).aC (v.aw.getD i aM))/\
  ((ts.getD t.toNat aN).ae=6->∀m,cw (ts.getD t.toNat aN).af v.ai=some m->∀y,y∈v.aw->hg pf ts n m.aC y)/\
  (7<=(ts.getD t.toNat aN).ae->(∀y,y∈v.aw->hg pf ts n (ts.getD t.toNat aN).aF y)/\∀y,y∈v.a7->hg pf ts n (ts.getD t.toNat aN).aR y)
section
variable {ts:I aj}
theorem hg.len{n:Nat}(h:hg pf ts n t v):(pf t v).length<=35184372088832:=by
 cases n with
 |zero=>cases h
 |succ n=>exact h.1.1
theorem Db(H:cX ts)(f:∀t v,cp v->dj ts true t v->wt v<=274877906944->(pf t v).length<=35184372088832):∀(n:Nat) {v:ab} {t:Int},cp v->dj ts true t v->wt v<=274877906944->wt v<=n->hg pf ts n t v
 |0,v,t,_,_,_,s=>by grind[ag3]
 |n+1,v,t,k,b,B,s=>by
  have D:=H.V.ik H.T;have ak:=f t v k b B;have K:=hT v;obtain⟨⟨g1,g2,g3,g4⟩,r⟩:=(hF _ _ _).1 b;have x:t.toNat<ts.length:=by omega
  have j:=bA x aN;have g:=H.GV _ j;have I:=(H.bC _ j).2.2;cases k with
  |mk _ hs h1 F G z u J M N O P=>
  have l:∀y,y∈v.aw->wt y<=274877906944/\wt y<=n:=λy al=>by have:=d' al;omega
  have o:∀y,y∈v.a7->wt y<=274877906944/\wt y<=n:=λy al=>by have:=d' al;omega
  have c:∀t y,y∈v.aw->dj ts true t y->hg pf ts n t y:=λt y al b=>Db H f n (u _ al) b (l y al).1 (l y al).2;have C:∀t y,y∈v.a7->dj ts true t y->hg pf ts n t y:=λt y al b=>Db H f n (z _ al) b (o y al).1 (o y al).2;unfold hg;rcases r with h|h|h|h|h|h|h|h|h;grind;grind;grind;grind;obtain⟨a1,a2,a3,a4,a5,a,e,d⟩:=h;obtain⟨f1,f2⟩:=jR.1 d;exact⟨⟨ak,by omega,by simp[a]⟩,λ_ i w=>c _ _ (bA (by omega:i<v.aw.length) aM) (f2 i w),by omega,by omega⟩
  . obtain⟨a1,a2,a3,a4,a5,a⟩:=h;cases bK:cw (ts.getD t.toNat aN).af v.ai with
    |none=>grind
    |some m=>
     rw[bK]at a;obtain⟨b1,b2,q⟩:=a;exact⟨⟨ak,by omega,by simp[a5]⟩,by omega,λ_ L A y al=>by cases A;exact c _ _ al (dv.1 q _ al),by omega⟩
  obtain⟨a1,a2,a3,a4,a5,a,e,d,a9⟩:=h;have:=g (by omega);exact⟨⟨ak,by omega,by simp[a]⟩,by omega,by omega,λ_=>⟨λy al=>c _ _ al (dv.1 a9 _ al),λy al=>by rw[a]at al;cases al⟩⟩;obtain⟨a1,a2,a3,a4,a5,a,e,d,a9,p,E⟩:=h;have:=g (by omega);exact⟨⟨ak,by omega,by omega⟩,by omega,by omega,λ_=>⟨λy al=>c _ _ al (dv.1 p _ al),λy al=>C _ _ al (dv.1 a9 _ al)⟩⟩;obtain⟨a1,a2,a3,a4,a5,a,e,d,a9⟩:=h;exact⟨⟨ak,by omega,by simp[a]⟩,by omega,by omega,λ_=>⟨λy al=>c _ _ al (dv.1 a9 _ al),λy al=>by rw[a]at al;cases al⟩⟩
end
section
variable {pf:Int->ab->aq}{tw tr:I aj}
theorem ae5{n:Nat}{u:ab}(a:(tw.getD t.toNat aN).ae<=4)(h:en pf tw tr n t v rt so= .inl u):u=v:=by
 cases n with
 |zero=>cases h
 |succ n=>
  grind[xe,hO]
theorem ae6(c:∀v rt so u,f t v rt so= .inl u->u=v){i:Nat}{l us:I ab}(h:eW f so t rt i l= .inl us):us=l:=by
 obtain⟨a,b⟩:=Ff h;grind[OG]
theorem afp{l:I ab}{r:I ch}(d:h9 ms)(h:hv pf y so ms l= .inl r):iO y.af r:=by
 obtain⟨_,b,c⟩:=EI h;refine⟨?_,λa g=>?_⟩;have h1:=Hi.2 d.1;grind;obtain⟨f,j,i,k,e⟩:=c a g;refine⟨?_,f⟩;rw[e];exact d.2 _ (bA i _)
theorem cD.i64{n:Int}(h:cD n): -9223372036854775808<=n/\n<=9223372036854775807:=by grind[cD]
def KH(tr:I aj)(rt:Int)(u:ab):Prop:=cp u/\dj tr false rt u
def Ge(pf:Int->ab->aq)(tw tr:I aj)(n:Nat):Prop:=∀{v:ab},cp v->∀{t rt:Int} {so:az} {u:ab},dj tw true t v->hg pf tw n t v->0<=rt->rt<tr.length->en pf tw tr n t v rt so= .inl u->KH tr rt u
theorem adb(bU:cX tw)(b5:cX tr){n:Nat}(ih:Ge pf tw tr n):Ge pf tw tr (n+1):=by
 intro v av t rt so u aF aB p s h;unfold hg at aB;obtain⟨⟨z1,z2,z3⟩,ah,aj,J⟩:=aB;have SW:=bU.V.ik bU.T;have cB:=b5.V.ik b5.T;have P:=av;have aZ:=hT v;obtain⟨⟨g1,g2,g3,g4⟩,aE⟩:=(hF _ _ _).1 aF;have aG:t.toNat<tw.length:=by omega
 have aI:rt.toNat<tr.length:=by omega
 have O:=bA aG aN;have o:=bA aI aN;have l:=λu=>(hF (ts:=tr) false rt u).2;rw[xe]at h;generalize aa:tw.getD t.toNat aN=x at*;generalize al:tr.getD rt.toNat aN=y at*;cases av with
 |mk _ hs h1 aV aW ap Y aY ba bb bc bd=>
 have ag:∀{t rt:Int} {i:Nat} {us:I ab},fu tw true t v.aw->(∀y,y∈v.aw->hg pf tw n t y)->0<=rt->rt<tr.length->eW (en pf tw tr n) so t rt i v.aw= .inl us->us.length=v.aw.length/\(∀q,q∈us->cp q)/\fu tr false rt us:=λ{t rt i us} X c a0 a1 ar=>by
  obtain⟨a,b⟩:=Ff ar;have key:∀q,q∈us->KH tr rt q:=λq Z=>by
   obtain⟨j,F,rfl⟩:=rP aM Z;have g:=bA (by omega:j<v.aw.length) aM;exact ih (Y _ g) (dv.1 X _ g) (c _ g) a0 a1 (b j (by omega))
  exact⟨a,λq c=>(key q c).1,dv.2 λq c=>(key q c).2⟩
 have aL:∀t,fu tw true t v.a7->(∀y,y∈v.a7->hg pf tw n t y)->(tw.getD t.toNat aN).ae<=4->∀{rt:Int} {i:Nat} {us:I ab},0<=rt->rt<tr.length->eW (en pf tw tr n) so t rt i v.a7= .inl us->us=v.a7/\fu tr false rt v.a7:=λt X Z aK rt i us a0 a1 ar=>by
  have e:=ae6 (λv rt so u h=>ae5 aK h) ar;subst e;obtain⟨a,b⟩:=Ff ar;refine⟨rfl,dv.2 λq c=>?_⟩;obtain⟨j,F,rfl⟩:=rP aM c;exact(ih (ap _ c) (dv.1 X _ c) (Z _ c) a0 a1 (b j F)).2
 unfold hO at h;by_cases bW:x.ae=y.ae
 . rw[au (by simpa using bW)]at h;rcases aE with d|d|d|d|d|d|d|d|d
   rw[cb,cb,cb,cb,cb]at h;split at h<;>cases h;exact⟨P,l _ ⟨⟨p,s,by omega,by simp⟩,.inl d⟩⟩;rw[cb,cb,cb,cb,cb]at h;split at h<;>cases h;rename_i ak;exact⟨P,l _ ⟨⟨p,s,by omega,by simp⟩,.inr (.inl (by have:=ak.1 (by omega);simp_all))⟩⟩;rw[cb,cb,cb,cb,cb]at h;split at h<;>cases h;rename_i ak;exact⟨P,l _ ⟨⟨p,s,by omega,by simp⟩,.inr (.inr (.inl (by have:=ak.2.1 (by omega);simp_all)))⟩⟩
   . rw[cb,cb,cb,cb,cb]at h;split at h<;>cases h;rename_i ak;have L:cD v.ai:=by
      rcases d.2.2.2.2.2.2.2 with⟨y,aT,aU⟩|⟨_,h,_⟩;rw[<-aU];exact SW.S _ O (by omega) y aT;cases h
     refine⟨P,l _ ⟨⟨p,s,by omega,by simp⟩,.inr (.inr (.inr (.inl ⟨d.1,d.2.1,d.2.2.1,d.2.2.2.1,d.2.2.2.2.1,d.2.2.2.2.2.1,d.2.2.2.2.2.2.1,?_⟩)))⟩⟩;rcases ak.2.2 (by omega)with q|q;exact .inl q;grind
   . obtain⟨a1,a2,a3,a4,a5,C,R,K⟩:=d;obtain⟨Q,aP⟩:=SW.A _ O (.inl (by omega));obtain⟨a8,a'⟩:=cB.A _ o (.inl (by omega));obtain⟨f1,f2⟩:=jR.1 K;rw[jB]at h;obtain⟨f,aJ,h⟩:=NF h;obtain⟨r,an,rfl⟩:=AH h;obtain⟨b1,b2⟩:=NG aJ;have key:∀j,j<y.af.length->KH tr (y.af.getD j aH).aC (f.getD j aM):=λj N=>by
      have E:=bA N aH;rcases afo (b2 j N)with⟨_,U,W⟩|⟨i,am,U,_⟩;rw[W];exact⟨(b5.T _ o).hj _ E,qD _ _ (b5.D _ o _ E U)⟩;obtain⟨d1,_,_⟩:=iN am;have g:=bA (by omega:i<v.aw.length) aM;obtain⟨z,B⟩:=b5.hZ.mem o E;exact ih (Y _ g) (f2 i d1) (ah (by omega) i d1) z B U
     have aq:=afp Q an;obtain⟨am,_,W⟩:=EI an;refine⟨.mk _ (by simp) (by simp) (by show f.length<=_;unfold reachBytes;omega) (by show r.length<=_;unfold reachBytes;omega) (λq c=>by cases c) (λq c=>?_) (λq c=>?_) (by simp) (by simp) (by simp) (λq c=>(aq.2 q c).1.i64),l _ ⟨⟨p,s,by show(5:Int)=_;omega,by simp⟩,.inr (.inr (.inr (.inr (.inl ⟨rfl,rfl,rfl,rfl,rfl,rfl,aq,jR.2 ⟨b1,λj N=>(key j N).2⟩⟩))))⟩⟩;obtain⟨j,F,rfl⟩:=rP aM c;exact(key j (by have:f.length=_:=b1;have a6:j<f.length:=F;omega)).1;obtain⟨_,j,F,aO,e⟩:=W q c;have g:=bA aO aM;have:=(ah (by omega) j F).len;rw[e];unfold reachBytes;grind
   . obtain⟨a1,a2,a3,a4,a5,C⟩:=d;rw[cb,jB]at h;unfold o1 at h;obtain⟨Q,aP⟩:=SW.A _ O (.inr (by omega));cases bK:cw x.af v.ai with
     |none=>rw[bK]at C;cases C.2.1
     |some m=>
      rw[bK]at C;obtain⟨b1,b2,aA⟩:=C;have ad:=xC x.af v.ai;rw[bK]at ad;cases L:eX x.af v.ai with
      |none=>rw[L]at ad;cases ad
      |some i=>
      obtain⟨d1,d2,_⟩:=iN L;obtain⟨d3,d4⟩:=kp bK;have em:x.af.getD i aH=m:=uq Q (bA d1 aH) d3 (by rw[d2,d4]);have hid:cD v.ai:=by rw[<-d4];exact Q.2 m d3
      simp only[L,em]at h;have g:=bA (by omega:0<v.aw.length) aM;cases M:eX y.af v.ai with
      |some k=>
       simp only[M]at h;obtain⟨w,aJ,rfl⟩:=AH h;obtain⟨k1,k2,_⟩:=iN M;have E:=bA k1 aH;obtain⟨z,B⟩:=b5.hZ.mem o E;obtain⟨z1,z2⟩:=ih (Y _ g) (dv.1 aA _ g) (aj (by omega) _ bK _ g) z B aJ;have ao:cw y.af v.ai=some (y.af.getD k aH):=by rw[<-k2];exact JI (cB.A _ o (.inr (by omega))).1 E
       refine⟨.mk _ (by simp) (by simp) (by show[w].length<=_;unfold reachBytes;simp) (by simp) (λq c=>by cases c) (λq c=>?_) (λq c=>by cases c) (by simp) (by simp) hid.i64 (λq c=>by cases c),l _ ⟨⟨p,s,by show(6:Int)=_;omega,by simp⟩,.inr (.inr (.inr (.inr (.inr (.inl ⟨rfl,rfl,rfl,rfl,rfl,?_⟩)))))⟩⟩;grind
       . show match cw y.af v.ai with|some m=>_|none=>_
         rw[ao];exact⟨rfl,rfl,z2,trivial⟩
      |none=>
       simp only[M]at h;split at h
       . cases h;rename_i aX;have ao:cw y.af v.ai=none:=by
          have:=xC y.af v.ai;rw[M]at this;cases c:cw y.af v.ai with
          |none=>rfl
          |some _=>rw[c]at this;cases this
         have:=(aj (by omega) _ bK _ g).len;refine⟨.mk _ (by simp) (by simp) (by simp) (by show[_].length<=_;unfold reachBytes;simp) (λq c=>by cases c) (λq c=>by cases c) (λq c=>?_) (by simp) (by simp) hid.i64 (λq c=>?_),l _ ⟨⟨p,s,by show(6:Int)=_;omega,by simp⟩,.inr (.inr (.inr (.inr (.inr (.inl ⟨rfl,rfl,rfl,rfl,rfl,?_⟩)))))⟩⟩;rw[zI.1 c];show(pf _ _).length<=_;unfold reachBytes;omega;grind;grind
       cases h
   . obtain⟨a1,a2,a3,a4,a5,C,R,K,a9⟩:=d;rw[cb,cb,jB]at h;unfold sx at h;split at h
     rename_i aD;obtain⟨f,aJ,rfl⟩:=AH h;obtain⟨z,B⟩:=b5.hZ.elem o (by omega);obtain⟨ax,G,H⟩:=ag a9 (J (by omega)).1 z B aJ;exact⟨.mk _ (by simp) (by simp) (by show f.length<=_;omega) (by simp) (λq c=>by cases c) G (λq c=>by cases c) (by simp) (by simp) (by simp) (λq c=>by cases c),l _ ⟨⟨p,s,by show(7:Int)=_;omega,by simp⟩,.inr (.inr (.inr (.inr (.inr (.inr (.inl ⟨rfl,rfl,rfl,rfl,rfl,rfl,rfl,by show(f.length:Int)<=_;omega,H⟩))))))⟩⟩;cases h
   . obtain⟨a1,a2,a3,a4,a5,C,R,K,a9,ay,az⟩:=d;rw[cb,cb,cb,jB]at h;unfold sy at h;split at h
     rename_i aD;obtain⟨ks,dp,h⟩:=NF h;obtain⟨f,aJ,rfl⟩:=AH h;obtain⟨z,B⟩:=b5.hZ.elem o (by omega);obtain⟨aR,aS⟩:=b5.hZ.key o (by omega);obtain⟨ax,G,H⟩:=ag ay (J (by omega)).1 z B aJ;obtain⟨rfl,aQ⟩:=aL _ a9 (J (by omega)).2 (SW.qM _ O (by omega)).2 aR aS dp;exact⟨.mk _ (by simp) (by show v.a7.length<=_;omega) (by show f.length<=_;omega) (by simp) ap G (λq c=>by cases c) (by simp) (by simp) (by simp) (λq c=>by cases c),l _ ⟨⟨p,s,by show(8:Int)=_;omega,by simp⟩,.inr (.inr (.inr (.inr (.inr (.inr (.inr (.inl ⟨rfl,rfl,rfl,rfl,rfl,rfl,by show(v.a7.length:Int)<=_;omega,by show f.length=v.a7.length;omega,aQ,H,az⟩)))))))⟩⟩;cases h
   obtain⟨a1,a2,a3,a4,a5,C,R,K,a9⟩:=d;rw[cb,cb,cb,cb,jB]at h;obtain⟨f,aJ,rfl⟩:=AH h;obtain⟨z,B⟩:=b5.hZ.elem o (by omega);obtain⟨ax,G,H⟩:=ag a9 (J (by omega)).1 z B aJ;exact⟨.mk _ (by simp) (by simp) (by show f.length<=_;omega) (by simp) (λq c=>by cases c) G (λq c=>by cases c) (by simp) (by simp) (by simp) (λq c=>by cases c),l _ ⟨⟨p,s,by show(9:Int)=_;omega,by simp⟩,.inr (.inr (.inr (.inr (.inr (.inr (.inr (.inr ⟨rfl,rfl,rfl,rfl,rfl,rfl,rfl,by show f.length<=1;omega,H⟩)))))))⟩⟩
 grind
theorem EJ(bU:cX tw)(b5:cX tr):∀n,Ge pf tw tr n
 |0=>λ_ _ _ _ _ _ _ _ _ h=>by cases h
 |n+1=>adb bU b5 (EJ bU b5 n)
end
theorem ade{s:aT}(H:kf s.bh)(e:cp v)(f:wt v<=1099511627776)(d:dj s.bh false t v)(b:wi (s,t,v)=some 0):
 oi (s,t,v)=some (vJ s.bh t v):=by
 have h1:=agZ H e f d;have c:wi ((⟨s.bh⟩:aT),t,v)=some 0:=b;rw[oi];simp only[ab.bI];rw[c,h1];simp only[aW,ay];rw[cq];unfold vJ;generalize bG s.bh t v=p;generalize e4 s.bh t v=l;by_cases g:4096<p.length
 . rw [ah (by have:(4096:Int)<p.length:= by omega
              simp[this]),ah (.inl g)]
 . by_cases g2:200<l
   . rw [ah (by have:¬ (4096:Int)<p.length:= by omega
                have a:(200:Int)<l:=by omega
                simp[this,a]),ah (.inr g2)]
   . rw [au (by have:¬ (4096:Int)<p.length:= by omega
                have a:¬(200:Int)<l:=by omega
                simp[this,a]),cb]
theorem afq(H:cX ts)(a:P2 ts t v):oi ((⟨ts⟩:aT),t,v)=some (vJ ts t v):=
 ade (s:=⟨ts⟩) (H.V.ik H.T) a.2.1 (hN a.2.2 (by decide)) a.1 (Mg H.T H.V a.2.1 a.1)
noncomputable def mo (ts:I aj)(t:Int)(m:aq):ab×Int:=
 if t<0\/(ts.length:Int)<=t then(j9,4)else if 4096<m.length then(j9,12)else match dd ts 200 t m with
  |some v=>(v,0)
  |none=>(j9,12)
theorem M3(ts:I aj)(t:Int)(m:aq):(∃e,e≠0/\mo ts t m=(j9,e))\/∃v,mo ts t m=(v,0)/\(0<=t/\t<ts.length)/\m.length<=4096/\dd ts 200 t m=some v:=by
 unfold mo;by_cases h1:t<0\/(ts.length:Int)<=t;rw[ah h1];exact .inl ⟨4,by omega,rfl⟩
 . rw[au h1];by_cases a:4096<m.length
   rw[ah a];exact .inl ⟨12,by omega,rfl⟩
   . rw[au a];cases b:dd ts 200 t m with
     |none=>exact .inl ⟨12,by omega,rfl⟩
     |some v=>exact .inr ⟨v,rfl,by omega,by omega,rfl⟩
section
variable {ts:I aj}
theorem adf(H:jo ts)(t:Int)(m:aq):Ew ((⟨ts⟩:aT),t,m)=some (mo ts t m):=by
 rw[Ew,IG,(wI H.S.T H.V).1];simp only[aW,ay];unfold mo;by_cases h1:t<0\/(ts.length:Int)<=t
 . have c:(bif (t<0:J)then true else ((ts.length:Int)<=t:J))=true:=by rcases h1 with h1|h1<;>simp[h1]
   rw[cq,ah c,ah h1];rfl
 . have c:¬(bif (t<0:J)then true else ((ts.length:Int)<=t:J))=true:=by
    have a:¬t<0:=λh=>h1 (.inl h);have b:¬(ts.length:Int)<=t:=λh=>h1 (.inr h);simp[a,b]
   by_cases d:4096<m.length;rw[cq,au c,cJ,au h1,ah d];rfl
   . have d1:=QA H 200 (by omega) t m [] 0 [] (by omega) (by omega) (by omega) rfl;rw[cq,au c,dC,au h1,au d];cases e:dd ts 200 t m with
     |none=>
      obtain⟨w,f1,f2,f⟩:=d1.2 e;rw[f];rfl
     |some v=>
      rw[d1.1 v e];simp[ab.bI]
theorem adg(H:jo ts)(t:Int)(m:aq):Dx ((⟨ts⟩:aT),t,m)=some (mo ts t m):=by
 have f:r5 ((⟨ts⟩:aT),t)=some (if t<0\/(ts.length:Int)<=t then 4 else 0):=by
  rw[r5,(wI H.S.T H.V).2];simp only[aW,ay];rw[cq];by_cases h1:t<0\/(ts.length:Int)<=t;rw[ah h1,ah];rcases h1 with h1|h1<;>simp[h1];rw[au h1,au];have a:¬t<0:=λh=>h1 (.inl h);have b:¬(ts.length:Int)<=t:=λh=>h1 (.inr h);simp[a,b]
 rw[Dx,Iw,f];simp only[aW,ay];unfold mo;by_cases h1:t<0\/(ts.length:Int)<=t;simp only[ah h1];rfl
 . by_cases d:4096<m.length
   simp only[au h1];rw[cq,cJ,ah d,AR (by simp)];rfl
   . have d2:=P0 H 200 (by omega) t m [] (by omega) (by omega) (by omega) (by simp);rw[show((201-200:Nat):Int)=1 from rfl]at d2;simp only[au h1];rw[cq,dC,au d];cases e:dd ts 200 t m with
     |none=>
      obtain⟨F,c⟩:=d2.2 e;rw[c];rfl
     |some v=>
      obtain⟨F,c⟩:=d2.1 v e;rw[c];simp[ab.bI]
noncomputable def yU (ts:I aj)(t:Int)(m:aq):aq×Int:=if(mo ts t m).2=0 then vJ ts t (mo ts t m).1 else([],(mo ts t m).2)
theorem Qc(H:cX ts){m:aq}(ht:0<=t/\t<ts.length)(d:m.length<=4096)(h:dd ts 200 t m=some v):P2 ts t v:=by
 obtain⟨a,b,c⟩:=JL H 200 t m v (by omega) ht.1 ht.2 h;exact⟨a,b,by omega⟩
theorem ago(H:cX ts){t:Int}{m:aq}(ht:0<=t/\t<ts.length)(b:m.length<=4096)(h:dK ts 200 t m):yU ts t m=(m,0):=by
 obtain⟨v,v1,v2,v3⟩:=QH H 200 t m (by omega) ht.1 ht.2 h;have a:mo ts t m=(v,0):=by
  unfold mo;rw[cb,cb,v1]
 unfold yU;rw[a,ah rfl];unfold vJ;rw[v2,au];rintro (h|h);omega;have:e4 ts t v>200:=h;omega
theorem agp(H:cX ts){t:Int}{m a:aq}(h:yU ts t m=(a,0)):(0<=t/\t<ts.length)/\a.length<=4096/\dK ts 200 t a:=by
 unfold yU at h;rcases M3 ts t m with⟨e,he,b⟩|⟨v,b,ht,d,f⟩;rw[b,au he]at h;have:e=0:=(by simpa using dA Prod.snd h);exact absurd this he
 . rw[b,ah rfl]at h;unfold vJ at h;obtain⟨f1,f2,f3⟩:=Qc H ht d f;split at h
   have:=dA Prod.snd h;simp at this;rename_i c;have e:bG ts t v=a:=dA Prod.fst h;have ak:¬4096<(bG ts t v).length:=λh=>c (.inl h);have g:¬200<e4 ts t v:=λh=>c (.inr h);refine⟨ht,by rw[<-e];exact zu ak,?_⟩;rw[<-e];exact ac' H f2 (hN f3 (by decide)) (hN (zu ak) (by decide)) f1 (zu g)
end
theorem EZ{m:aU}(a:cp v):tq (m,v)=some (di m v):=by
 rw[tq];simp[ab.bI];unfold di;cases b:m.bH with
 |false=>rfl
 |true=>
  obtain⟨r,c,d⟩:=OI a m.bm;grind
theorem E0(h:p.length<=1125899906842624):(c' p).length<=p.length+10:=by
 have:=je (n:=p.length) (by omega);grind[c']
theorem Kb(h:p.length<=1125899906842624:=by omega):wk p=some (c' p):=by
 rw[wk,hS,ql];have:=je (n:=p.length) (by omega);simp only[aW,ay];rw[ah (g')];rfl
theorem adh{c:J}(hid:cD id):∃f e,Ag (id,c,p)=some (f,e)/\f.length<=p.length+20:=by
 unfold cD at hid;obtain⟨n,rfl⟩:=C9 (by omega:0<=id);by_cases h:p.length<=4096
 . refine⟨gv n c p,0,?_,?_⟩
   rw[Ag,au (by grind),au (by grind),JD (by omega)];rfl;have a1:=E0 (p:=p) (by omega);have a2:=je (n:=2*n+(if c then 1 else 0)) (by grind);grind[gv]
 rw[Ag,au (by grind),ah (by grind)];exact⟨[],_,rfl,by simp⟩
section
variable {ts:I aj}
def qN(ts:I aj)(t:Int)(v:ab):Prop:=∃p,kn ((⟨ts⟩:aT),t,v)=some p/\p.length+20<=128*wt v
theorem E1{l:I ab}{i:Nat}(a:i<l.length):eC (l.drop i)=wt (l.getD i aM)+eC (l.drop (i+1)):=by
 rw[e6 a aM,ov]
theorem Sq(d:∀m,m∈ms->cD m.ai)(ak:v.aw.length=ms.length)(l:ms.length<=1000)(j:∀y,y∈v.aw->cp y)(r:eC v.aw<=274877906944)(hs:∀i,i<ms.length->qN ts (ms.getD i aH).aC (v.aw.getD i aM)):
 ∀(k i:Nat) (acc:aq),i+k=ms.length->acc.length<=100000000000000*i->
 ∃p,rY (acc,ms,(ms.length:Int),(i:Int),ts,v)=some p/\p.length<=acc.length+128*eC (v.aw.drop i)
 |0,i,acc,o,n=>by
  refine⟨acc,?_,by omega⟩;rw[rY,dC]
 |k+1,i,acc,o,n=>by
  have aD:i<ms.length:=by omega
  have a:i<v.aw.length:=by omega
  have g:=bA a aM;have x:=d' g;rw[rY,cJ,ah (aY aD)];simp only[aW,ay,bQ,ab.bI,iu];rw[ah (aY a),EZ (j _ g),E1 a];have rc:=λacc=>Sq d ak l j r hs k (i+1) acc (by omega);cases w:di (ms.getD i aH) (v.aw.getD i aM)with
  |true=>
   simp only[ay];rw[cq,bN];obtain⟨p,b,s⟩:=rc acc (by omega);exact⟨p,b,by omega⟩
  |false=>
   obtain⟨q,t,z⟩:=hs i aD;obtain⟨f,e,f1,f2⟩:=adh (c:=(ms.getD i aH).b4) (p:=q) (d _ (bA aD aH));simp only[ay];rw[ah (show(!false)=true from rfl),ah (aY a),t];simp only[ay];rw[f1];simp only[ay];have u:(acc++f).length=acc.length+f.length:=(by simp);rw[ah (g'),bN];obtain⟨p,b,s⟩:=rc (acc++f) (by omega);exact⟨p,b,by omega⟩
theorem Sr(a:¬x.ae=8)(ak:v.aw.length<=3000)(e:eC v.aw<=274877906944)(hs:∀y,y∈v.aw->qN ts x.aF y):
 ∀(k i:Nat) (acc:aq),i+k=v.aw.length->acc.length<=100000000000000*i->
 ∃p,lB (acc,v.aw,(v.aw.length:Int),(i:Int),ts,v,x)=some p/\p.length<=acc.length+128*eC (v.aw.drop i)
 |0,i,acc,d,c=>by
  refine⟨acc,?_,by omega⟩;rw[lB,dC]
 |k+1,i,acc,d,c=>by
  have aD:i<v.aw.length:=by omega
  have b:=bA aD aM;have l:=d' b;obtain⟨q,g,n⟩:=hs _ b;rw[lB,cJ,ah (aY aD)];simp only[aW,ay,bQ,ab.bI];have a1:=E0 (p:=q) (by omega);have j:(acc++c' q).length=acc.length+(c' q).length:=by simp
  rw[au (by simp[a]),g];simp only[ay];rw[Kb];simp only[ay];rw[ah (g'),bN,E1 aD];obtain⟨p,f,m⟩:=Sr a ak e hs k (i+1) (acc++c' q) (by omega) (by omega);exact⟨p,f,by omega⟩
theorem QJ(b:x.ae=8)(j:v.aw.length=v.a7.length)(ak:v.aw.length<=3000)(l:eC v.aw<=274877906944)(m:eC v.a7<=274877906944)(hs:∀y,y∈v.aw->qN ts x.aF y)(c:∀y,y∈v.a7->qN ts x.aR y):
 ∀(k i:Nat) (acc:aq),i+k=v.aw.length->acc.length<=200000000000000*i->
 ∃p,lB (acc,v.aw,(v.aw.length:Int),(i:Int),ts,v,x)=some p/\p.length<=acc.length+128*eC (v.a7.drop i)+128*eC (v.aw.drop i)
 |0,i,acc,g,f=>by
  refine⟨acc,?_,by omega⟩;rw[lB,dC]
 |k+1,i,acc,g,f=>by
  have aD:i<v.aw.length:=by omega
  have a:i<v.a7.length:=by omega
  have d:=bA aD aM;have e:=bA a aM;have u:=d' d;have w:=d' e;obtain⟨q,o,A⟩:=hs _ d;obtain⟨s,s1,B⟩:=c _ e;rw[lB,cJ,ah (aY aD)];simp only[aW,ay,bQ,ab.bI];have a1:=E0 (p:=q) (by omega);have a2:=E0 (p:=s) (by omega);have r:(acc++c' s).length=acc.length+(c' s).length:=by simp
  have t:(acc++c' s++c' q).length=acc.length+(c' s).length+(c' q).length:=by simp;omega
  rw[ah (by simp[b]),ah (aY a),s1];simp only[ay];rw[Kb];simp only[ay];rw[ah (g'),o];simp only[ay];rw[Kb];simp only[ay];rw[ah (g'),bN,E1 aD,E1 a];obtain⟨p,n,z⟩:=QJ b j ak l m hs c k (i+1) (acc++c' s++c' q) (by omega) (by omega);exact⟨p,n,by omega⟩
theorem afr(H:kf ts)(i:cp v)(f:dj ts true t v)(k4:v.ae<=4):kj (t,v,1,ts,0)=some (bG ts t v,ts,1):=by
 obtain⟨⟨g1,g2,g3,_⟩,b⟩:=(hF _ _ _).1 f;have a:ej v.bE:=by cases i with|mk _ _ _ _ _ _ _ _ _ a _ _=>exact a
 obtain⟨j,rfl⟩:∃j:Nat,t=(j:Int):=⟨t.toNat,by omega⟩
 have c:j<ts.length:=by omega
 have g:=bA c aN;have k:=@o4 ts (j:Int) v;have d:=@qE ts (j:Int) v;have l:=@qF ts (j:Int) v;have e:=@qG ts (j:Int) v;rw[kj];simp only[aW,ay];rw[ah (aY c),show mx 0 1=1 by rfl];simp only[bQ,ab.bI]at g3 b k d l e⊢;generalize ts.getD j aN=x at*;rcases b with h|h|h|h|h|h|h|h|h;grind;rw[au (mt gU (by omega)),ah (h3 (by omega)),d (by omega),xL a];grind[xN,fP,bQ,Ft];grind
 . obtain⟨n,aI,ak⟩:∃n:Nat,v.ai=(n:Int)/\n<=1000:=by
    rcases h.2.2.2.2.2.2.2 with⟨y,m,o⟩|⟨_,h,_⟩;have:=H.S x g (by omega) y m;grind[cD];grind
   rw[au (mt gU (by omega)),au (mt gU (by omega)),au (mt gU (by omega)),ah (h3 (by omega)),e (by omega),aI,hS,Ft (by omega),bQ];rfl
 all_goals omega
theorem afs(c:cp v)(e:dj ts true t v)(k4:v.ae<=4):(bG ts t v).length<=wt v:=by
 obtain⟨⟨g1,g2,g3,_⟩,d⟩:=(hF _ _ _).1 e;have a:ej v.bE:=by cases c with|mk _ _ _ _ _ _ _ _ _ a _ _=>exact a
 have b:ej v.ai:=by cases c with|mk _ _ _ _ _ _ _ _ _ _ b _=>exact b
 have f:=hT v;rcases d with h|h|h|h|h|h|h|h|h;rw[o4 (by omega)];split<;>simp<;>omega;rw[qE (by omega)];have:=wS 8 (fP v.bE).toNat (by have:=xN a;omega);omega;rw[qF (by omega)];omega;rw[qG (by omega)];have:=wS 8 v.ai.toNat (by unfold ej at b;omega);omega
 all_goals omega
theorem agq(H:cX ts)(b:cp v)(a:dj ts true t v)(k4:v.ae<=4):∃p e,oi ((⟨ts⟩:aT),t,v)=some (p,e)/\p.length<=wt v:=by
 have ak:=afs b a k4;rw[oi];simp[ab.bI];rw[Mg H.T H.V b (qD _ _ a)];rw[afr (H.V.ik H.T) b a k4];simp only[ay];rw[ah trivial];by_cases h:4096<((bG ts t v).length:Int)\/(200:Int)<1;rw[ah h];exact⟨[],⟨_,rfl⟩,by simp⟩;rw[au h];exact⟨bG ts t v,⟨_,rfl⟩,ak⟩
theorem agr(H:cX ts)(D:cp v):∀t,dj ts true t v->wt v<=274877906944->qN ts t v:=by
 have w:=H.V.ik H.T;have L:=D;induction D with
 |mk v hs h1 X Y K B ad ap aq ar av N M=>
  intro t d ag;obtain⟨⟨g1,g2,g3,g4⟩,G⟩:=(hF _ _ _).1 d;obtain⟨j,rfl⟩:∃j:Nat,t=(j:Int):=⟨t.toNat,by omega⟩
  have C:j<ts.length:=by omega
  have o:=bA C aN;have O:=agq H L d;have z:=H.GV _ o;have aa:=H.Vl _ o;have an:=hT v;have ak:eC v.aw+10<=wt v:=by omega
  have am:eC v.a7+10<=wt v:=by omega
  have k:∀t y,y∈v.aw->dj ts true t y->qN ts t y:=λt y al d=>M y al (B y al) t d (by have:=d' al;omega);have Q:∀t y,y∈v.a7->dj ts true t y->qN ts t y:=λt y al d=>N y al (K y al) t d (by have:=d' al;omega);unfold qN;rw[kn,ah (aY C)];simp only[aW,ay,ab.bI];rw[bQ]at*;have l:v.ae<=4->¬(ts.getD j aN).ae=5->¬(ts.getD j aN).ae=6->¬(ts.getD j aN).ae=9->¬(ts.getD j aN).ae=7->¬(ts.getD j aN).ae=8->∃p e,oi ((⟨ts⟩:aT),(j:Int),v)=some (p,e)/\p.length+20<=128*wt v:=λk4 _ _ _ _ _=>by
   obtain⟨p,e,g,l2⟩:=O k4;exact⟨p,e,g,by omega⟩
  rcases G with h|h|h|h|h|h|h|h|h;obtain⟨p,e,g,l2⟩:=l (by omega) (by omega) (by omega) (by omega) (by omega) (by omega);refine⟨p,?_,l2⟩;grind;obtain⟨p,e,g,l2⟩:=l (by omega) (by omega) (by omega) (by omega) (by omega) (by omega);refine⟨p,?_,l2⟩;grind;obtain⟨p,e,g,l2⟩:=l (by omega) (by omega) (by omega) (by omega) (by omega) (by omega);refine⟨p,?_,l2⟩;grind;obtain⟨p,e,g,l2⟩:=l (by omega) (by omega) (by omega) (by omega) (by omega) (by omega);refine⟨p,?_,l2⟩;grind;obtain⟨a1,a2,a3,a4,a5,b,s,c⟩:=h;obtain⟨r,P⟩:=w.A _ o (.inl (by omega));obtain⟨f1,f2⟩:=jR.1 c;obtain⟨p,h0,h1⟩:=Sq (ts:=ts) (ms:=(ts.getD j aN).af) (v:=v) r.2 f1 (by omega) B (by omega) (λi I=>k _ _ (bA (by omega) _) (f2 i I)) (ts.getD j aN).af.length 0 [] (by omega) (by simp);have f:rY ([],(ts.getD j aN).af,((ts.getD j aN).af.length:Int),0,ts,v)=_:=h0;rw[ah (h3 (by omega)),f];rw[eZ,lM]at h1;exact⟨p,rfl,by omega⟩
  . obtain⟨a1,a2,a3,a4,a5,b⟩:=h;obtain⟨r,P⟩:=w.A _ o (.inr (by omega));cases bK:cw (ts.getD j aN).af v.ai with
    |none=>rw[bK]at b;cases b.2.1
    |some m=>
     rw[bK]at b;obtain⟨b1,b2,F⟩:=b;obtain⟨d3,d4⟩:=kp bK;obtain⟨q,R,S,U⟩:=GS r (by omega) bK;have hid:=r.2 m d3;unfold cD at hid;have al:=bA (by omega:0<v.aw.length) aM;have ao:=d' al;obtain⟨p,z2,z3⟩:=k m.aC _ al (dv.1 F _ al);obtain⟨n,aI⟩:∃n:Nat,v.ai=(n:Int):=⟨v.ai.toNat,by omega⟩;have:=je (n:=n) (by omega);rw[au (mt gU (by omega)),ah (h3 (by omega)),S];simp only[ay];rw[aI,hS,ql];simp only[ay];rw[ah (aY R),ah (by rw[b2];rfl),bQ,U,show(0:Int).toNat=0 from rfl,z2];simp only[ay];rw[ah (g')];exact⟨_,rfl,by rw[eh];omega⟩
  obtain⟨a1,a2,a3,a4,a5,b,s,c,a9⟩:=h;have:=z (by omega);obtain⟨p,h0,h1⟩:=Sr (ts:=ts) (x:=ts.getD j aN) (v:=v) (by omega) (by omega) (by omega) (λy al=>k _ _ al (dv.1 a9 _ al)) v.aw.length 0 [] (by omega) (by simp);have f:lB ([],v.aw,(v.aw.length:Int),0,ts,v,ts.getD j aN)=_:=h0;rw[au (mt gU (by omega)),au (mt gU (by omega)),au (mt gU (by omega)),ah (h3 (by omega)),ah (h3 (by omega)),f];rw[eZ,lM]at h1;exact⟨p,rfl,by omega⟩;obtain⟨a1,a2,a3,a4,a5,b,s,c,a9,E,W⟩:=h;have:=z (by omega);obtain⟨p,h0,h1⟩:=QJ (ts:=ts) (x:=ts.getD j aN) (v:=v) (by omega) c (by omega) (by omega) (by omega) (λy al=>k _ _ al (dv.1 E _ al)) (λy al=>Q _ _ al (dv.1 a9 _ al)) v.aw.length 0 [] (by omega) (by simp);have f:lB ([],v.aw,(v.aw.length:Int),0,ts,v,ts.getD j aN)=_:=h0;rw[au (mt gU (by omega)),au (mt gU (by omega)),au (mt gU (by omega)),au (mt gU (by omega)),ah (h3 (by omega)),f];rw[eZ,eZ,lM]at h1;exact⟨p,rfl,by omega⟩
  . obtain⟨a1,a2,a3,a4,a5,b,s,c,a9⟩:=h;rw[au (mt gU (by omega)),au (mt gU (by omega)),ah (h3 (by omega))]
    match Z:v.aw,c with
    |[],_=>
     rw[vT,cq];exact⟨[],rfl,by simp;omega⟩
    |[a],_=>
     have u:a∈v.aw:=(by grind);have aj:=d' u;obtain⟨p,z2,z3⟩:=k _ _ u (dv.1 a9 a u);rw[vT,j1,ah (show aE 0 [a].length=true from rfl)];simp only[ab.bI];rw[show[a].getD (Int.toNat 0) aM=a from rfl,z2];simp only[aW,ay];rw[ah (g' (by show 1+p.length<=_;omega)),show a' .i64 0 1=1 from by decide,vT,au (show ¬((1:Int)<([a].length:Int):J)=true from by simp)];exact⟨_,rfl,by rw[eh];show 1+p.length+20<=_;omega⟩
def fi(ts:I aj)(t:Int)(v:ab):aq:=(kn ((⟨ts⟩:aT),t,v)).getD []
def vq(ts:I aj)(t:Int)(v:ab):Prop:=kn ((⟨ts⟩:aT),t,v)=some (fi ts t v)
theorem KI(H:cX ts)(b:cp v)(a:dj ts true t v)(c:wt v<=274877906944):vq ts t v/\(fi ts t v).length<=35184372088832:=by
 obtain⟨p,d,e⟩:=agr H b t a c;unfold vq fi;rw[d];exact⟨rfl,by show p.length<=_;omega⟩
end
theorem M4{a0 a2 a4 z0 z2 z4:Int}{a1 z1:J}{a3 z3:aq}{l l2:I ab}{r:I ch}(ak:l.length<=1000000000)(h:∀y,y∈l->kR y=some y):∀(k i:Nat),i+k=l.length->
 tn ((l.length:Int),(i:Int),a0,a1,a2,a3,a4,z0,z1,z2,z3,z4,l,l2,r)=some (a0,a1,a2,a3,a4,z0,z1,z2,z3,z4,l,l2,r)
 |0,i,a=>by simp_all[tn,au]
 |k+1,i,a=>by
  have aD:i<l.length:=by omega
  rw[tn,ah (by grind),ah (aY aD),bQ,ah (by grind)];simp only[ab.bI];rw[h _ (bA aD aM)];simp only[aW,ay];rw[ah (aY aD),ah (by grind),bN,EW aD];exact M4 ak h k _ (by omega)
theorem M5{a0 a2 a4 z0 z2 z4:Int}{a1 z1:J}{a3 z3:aq}{l l2:I ab}{r:I ch}(ak:l.length<=1000000000)(h:∀y,y∈l->kR y=some y):∀(k i:Nat),i+k=l.length->
 tp ((l.length:Int),(i:Int),a0,a1,a2,a3,a4,z0,z1,z2,z3,z4,l,l2,r)=some (a0,a1,a2,a3,a4,z0,z1,z2,z3,z4,l2,l,r)
 |0,i,a=>by simp_all[tp]
 |k+1,i,a=>by
  have aD:i<l.length:=by omega
  rw[tp,ah (by grind),ah (aY aD),bQ,ah (by grind)];simp only[ab.bI];rw[h _ (bA aD aM)];simp only[aW,ay];rw[ah (aY aD),ah (by grind),bN,EW aD];exact M5 ak h k _ (by omega)
theorem adi(i:cp v):wt v<=1000000000->kR v=some v:=by
 induction i with
 |mk v hs h1 n o q p s z A B C k j=>
  intro t;have u:=hT v;have w:=B9 v.a7;have l2:=B9 v.aw;have x:=PW v.aX;have kk:∀y,y∈v.a7->kR y=some y:=λy al=>k y al (by have:=d' al;omega);have m:=λy al=>j y al (by have:=d' al;omega);have e:gF 120 v.a7=some v.a7:=by unfold gF;rw[ah (qa (xO (by simp)))]
  have f:gF 120 v.aw=some v.aw:=by unfold gF;rw[ah (qa (xO (by simp)))]
  have g:gF 24 v.aX=some v.aX:=by unfold gF;rw[ah (qa (xO (by simp)))]
  have a:=M4 (a0:=v.ae) (a1:=v.ct) (a2:=v.bE) (a3:=v.bZ) (a4:=v.ai) (z0:=0) (z1:=false) (z2:=0) (z3:=[]) (z4:=0) (l:=v.a7) (l2:=v.aw) (r:=v.aX) (by omega) kk v.a7.length 0 (by simp);have c:=M5 (a0:=v.ae) (a1:=v.ct) (a2:=v.bE) (a3:=v.bZ) (a4:=v.ai) (z0:=0) (z1:=false) (z2:=0) (z3:=[]) (z4:=0) (l:=v.aw) (l2:=v.a7) (r:=v.aX) (by omega) m v.aw.length 0 (by simp);have b:tn ((v.a7.length:Int),0,v.ae,v.ct,v.bE,v.bZ,v.ai,0,false,0,[],0,v.a7,v.aw,v.aX)=_:=a;have d:tp ((v.aw.length:Int),0,v.ae,v.ct,v.bE,v.bZ,v.ai,0,false,0,[],0,v.aw,v.a7,v.aX)=_:=c;rw[kR,e,f,g];simp only[aW,ay];rw[b];simp only[ay];rw[d];cases v;rfl
theorem u6{n:Nat}(h:n<=4398046511104:=by simp;omega):cn 8 n:=by
 unfold cn;have:(2*n+192)*8<=hD:=by unfold hD;omega
 have a:n<=dB:=by unfold dB;omega
 rw[h3 this,h3 a];rfl
theorem Vz(ar:so.length<=2199023255552)(a:az):tm (tw,tr,a,so)=some ((⟨0,false,0,[],0,[],[],[]⟩:ab),false,tw,tr,so,so):=by
 rw[tm];unfold uJ gF;rw[ah (qa (u6 (by omega)))];simp
theorem FD(ar:so.length<=2199023255552)(id:Int)(a:az):wE (id,tw,tr,a,so)=some ((⟨0,false,0,[],0,[],[],[]⟩:ab),false,tw,tr,so,so++[id]):=by
 rw[wE];unfold uJ gF;rw[ah (qa (u6 (by omega)))];simp only[mA,aW,ay];rw[ah (by rfl),ah (u6)]
theorem Aq(ak:x.af.length<=1000)(id:Int):gO (x,id)=some (kt x.af id):=by
 obtain⟨r,a,b⟩:=zX (t:=x) (id:=id) (by omega);grind[IH,ND]
section
variable {tw tr:I aj}
def gh(tw tr:I aj)(a so:az):ab ⊕ az->ab×J×I aj×I aj×az×az
 |.inl u=>(u,true,tw,tr,a,so)
 |.inr p=>(⟨0,false,0,[],0,[],[],[]⟩,false,tw,tr,p,so)
def Gc(tw tr:I aj)(a so:az)(acc:I ab):I ab ⊕ az->(J×I aj×I aj×az×az) ⊕ (I aj×I aj×az×I ab×az)
 |.inl us=>.inr (tw,tr,a,acc++us,so)
 |.inr p=>.inl (false,tw,tr,p,so)
def pc(tw tr:I aj)(a so:az):I ab ⊕ az->I ab×J×I aj×I aj×az×az
 |.inl us=>(us,true,tw,tr,a,so)
 |.inr p=>([],false,tw,tr,p,so)
def Part(tw tr:I aj)(f:fK)(so:az)(t rt:Int)(v:ab):Prop:=∀(step:Int) (a:az),r4 (step,t,v,rt,tw,tr,a,so)=some (gh tw tr a so (f t v rt (so++[step])))
theorem Qd{step:Int}{a:az}{o:ab ⊕ az}(ar:so.length<=2199023255552)(h:tu (t,v,rt,tw,tr,a,so++[step])=some (gh tw tr a (so++[step]) o)):r4 (step,t,v,rt,tw,tr,a,so)=some (gh tw tr a so o):=by
 rw[r4];simp only[aW,ay,ab.bI];rw[ah (u6),h];have aJ:dD .i64 ((so++[step]).length:Int) 1=(so.length:Int):=by grind[pk]
 have b:fy 0 (so.length:Int) (so++[step]).length:=jx.2 (by grind);cases o with
 |inl u=>
  simp only[ay,ab.bI,gh];simp_all
 |inr p=>
  simp only[ay,ab.bI,gh];simp_all
theorem Mi{l:I ab}(ak:l.length<=50000)(h:∀y,y∈l->Part tw tr f so t rt y):∀(k i:Nat) (acc:I ab) (a:az),i+k=l.length->acc.length<=i->
 tL (t,rt,l,(l.length:Int),(i:Int),tw,tr,a,acc,so)=some (Gc tw tr a so acc (eW f so t rt i (l.drop i)))
 |0,i,acc,a,c,b=>by
  simp_all[tL,au,fx,eW,Gc]
 |k+1,i,acc,a,c,b=>by
  have aD:i<l.length:=by omega
  rw[tL,ah (by grind),ah (aY aD),bQ];simp only[ab.bI];rw[h _ (bA aD aM),e6 aD aM,eW];cases f t (l.getD i aM) rt _ with
  |inr p=>rfl
  |inl u=>
   simp only[aW,ay,gh,dc,ab.bI];rw[cq,ah (ef (by simp) (by grind)),bN,Mi ak h k (i+1) _ a (by omega) (by grind)];cases eW f so t rt (i+1) _ with
   |inr p=>rfl
   |inl us=>simp[Gc,hK]
theorem Aw{l:I ab}(ak:l.length<=50000)(h:∀y,y∈l->Part tw tr f so t rt y)(a:az):
 oN (t,l,rt,tw,tr,a,so)=some (pc tw tr a so (eW f so t rt 0 l)):=by
 have h0:=Mi ak h l.length 0 [] a (by simp) (by simp);have b:tL (t,rt,l,l.length,0,tw,tr,a,[],so)=_:=h0;rw[oN,b,eZ];cases eW f _ t rt 0 l<;>rfl
def vr(tw tr:I aj)(a so:az)(x:aj)(v:ab)(y:aj)(acc:I ab):I ab ⊕ az->(J×I aj×I aj×az×ab×az) ⊕ (I aj×I aj×az×aj×ab×aj×Int×J×Int×aq×Int×Int×J×Int×aq×Int×az×I ab)
 |.inl us=>.inr (tw,tr,a,x,v,y,0,false,0,[],0,v.ae,false,0,[],0,so,acc++us)
 |.inr p=>.inl (false,tw,tr,p,⟨0,false,0,[],0,[],[],[]⟩,so)
theorem Qe(ar:so.length<=2199023255552)(aa:x.af.length<=1000)(al:y.af.length<=1000)(ak:v.aw.length=x.af.length)(o:∀q,q∈v.aw->cp q)
 (e:∀n,n∈y.af->n.bH->kR n.bm=some n.bm)
 (h:∀i,i<x.af.length->∀n,n∈y.af->Part tw tr f so (x.af.getD i aH).aC n.aC (v.aw.getD i aM)/\∀p u,f (x.af.getD i aH).aC (v.aw.getD i aM) n.aC p= .inl u->cp u):∀(k j:Nat) (acc:I ab) (a:az),j+k=y.af.length->acc.length<=j->
 p4 (y.af,(y.af.length:Int),(j:Int),tw,tr,a,x,v,y,0,false,0,[],0,v.ae,false,0,[],0,so,acc)=some (vr tw tr a so x v y acc (h5 f x v so (y.af.drop j)))
 |0,j,acc,a,w,r=>by
  simp_all[p4,au,fx,h5,vr,ab.bI]
 |k+1,j,acc,a,w,r=>by
  have aD:j<y.af.length:=by omega
  have g:=bA aD aH;have rc:=λacc a=>Qe ar aa al ak o e h k (j+1) acc a (by omega);rw[p4,ah (by grind),ah (aY aD),bQ];simp only[aW,ay,ab.bI,iu];rw[Aq aa,e6 aD aH,h5];unfold qA kt;generalize aI:y.af.getD j aH=n at*;cases bK:eX x.af n.ai with
  |none=>
   simp only[ay,eL];rw[ah trivial];cases t:n.bH with
   |false=>
    simp only[eL];rw[ah trivial,FD ar];rfl
   |true=>
    rw[cq,e n g t];simp only[ay];rw[ah (ef),bN,rc _ _ (by simp;omega),ah trivial];cases h5 f x v so (y.af.drop (j+1))with
    |inr p=>rfl
    |inl us=>simp[vr,hK]
  |some i=>
   obtain⟨c,_,_⟩:=iN bK;have d:i<v.aw.length:=(by omega);obtain⟨A,B⟩:=h i c n g;simp only[ay,dc];rw[cq,ah (aY c),ah (aY d),bQ,A n.ai a];have l:=EZ (m:=x.af.getD i aH) (o _ (bA d aM));cases s:f (x.af.getD i aH).aC (v.aw.getD i aM) n.aC (so++[n.ai])with
   |inr p=>
    simp only[ay,gh,ab.bI,eL,dc,Bool.and_false];rw[ah (aY c),ah (aY d),l];rw[Qa];generalize di (x.af.getD i aH) (v.aw.getD i aM)=b at*;cases b with
    |false=>rfl
    |true=>
     simp only[fh];rw[ah trivial,FD ar];rfl
   |inl u=>
    have z:=EZ (m:=n) (B _ u s);simp only[ay,gh,ab.bI,eL,dc,u0];rw[ah (aY c),ah (aY d),l];simp only[ay,cx,cF];rw[Qb];generalize di (x.af.getD i aH) (v.aw.getD i aM)=b at*;have D:(some [u]>>=λt110=>if cn 120 (acc++t110).length then p4 (y.af,(y.af.length:Int),a' .i64 (j:Int) 1,tw,tr,a,x,v,y,0,false,0,[],0,v.ae,false,0,[],0,so,acc++t110)else none)=some (vr tw tr a so x v y acc (hK (.inl u) (h5 f x v so (y.af.drop (j+1))))):=by
     simp only[aW,ay];rw[ah (ef (by simp)),bN,rc _ _ (by simp;omega)];cases h5 f x v so (y.af.drop (j+1))with
     |inr p=>rfl
     |inl us=>simp[vr,hK]
    cases b with
    |false=>grind
    |true=>
     rw[ah rfl,z];cases C:di n u with
     |true=>grind
     |false=>
      rw[FD ar];rfl
def Cj(tw tr:I aj)(a so:az)(v:ab)(its:I ab)(acc:I ch):I ch ⊕ az->(J×I aj×I aj×ab×az×az) ⊕ (I aj×I aj×az×Int×J×Int×aq×Int×Int×J×Int×aq×Int×az×I ab×I ch)
 |.inl b=>.inr (tw,tr,a,0,false,0,[],0,v.ae,false,0,[],0,so,its,acc++b)
 |.inr p=>.inl (false,tw,tr,⟨0,false,0,[],0,[],[],[]⟩,so,p)
theorem PD(ar:so.length<=2199023255552)(aa:x.af.length<=1000)(al:y.af.length<=1000)(ak:v.aw.length=x.af.length)(e:∀q,q∈v.aw->cp q)
 (h:∀i,i<x.af.length->vq tw (x.af.getD i aH).aC (v.aw.getD i aM)){its:I ab}(d:az):∀(k i:Nat) (acc:I ch),i+k=x.af.length->acc.length<=i->
 oE (x.af,(x.af.length:Int),(i:Int),tw,tr,d,v,y,0,false,0,[],0,v.ae,false,0,[],0,so,its,acc)=some (Cj tw tr d so v its acc (hv (fi tw) y so (x.af.drop i) (v.aw.drop i)))
 |0,i,acc,j,g=>by
  simp_all[oE,au,fx,hv,Cj]
 |k+1,i,acc,j,g=>by
  have aD:i<x.af.length:=by omega
  have c:i<v.aw.length:=by omega
  have rc:=λacc=>PD ar aa al ak e h (its:=its) d k (i+1) acc (by omega);rw[oE,ah (by grind),ah (aY aD),bQ];simp only[aW,ay,ab.bI,iu];rw[Aq al,e6 aD aH,e6 c aM,hv];have hs:=xC y.af (x.af.getD i aH).ai;have l:(kt y.af (x.af.getD i aH).ai).2=(cw y.af (x.af.getD i aH).ai).isSome:=by
   unfold kt;grind
  simp only[ay];rw[l];by_cases a:(cw y.af (x.af.getD i aH).ai).isSome=true;rw[ah a,ah a,bN,rc _ (by omega)];rw[au a,au a];by_cases b:(x.af.getD i aH).b4=true;rw[ah b,ah b,FD ar];rfl
  rw[au b,au b,ah (aY c),EZ (e _ (bA c aM))];simp only[ay];cases di (x.af.getD i aH) (v.aw.getD i aM)with
  |true=>rw[cq,ah rfl,bN,rc _ (by omega)]
  |false=>
   have f:=h i aD;rw[ah (show(!false)=true from rfl),au (show ¬false=true by simp),ah (aY c),f];simp only[ay];rw[ah (ef (by simp)),bN,rc _ (by simp_all)];cases hv (fi tw) y so (x.af.drop (i+1)) (v.aw.drop (i+1))with
   |inr p=>rfl
   |inl us=>simp[Cj,hK]
theorem adj(ar:so.length<=2199023255552)(k5:v.ae=5)(aa:x.af.length<=1000)(al:y.af.length<=1000)(ak:v.aw.length=x.af.length)(b:∀q,q∈v.aw->cp q)
 (e:∀n,n∈y.af->n.bH->kR n.bm=some n.bm)
 (h:∀i,i<x.af.length->∀n,n∈y.af->Part tw tr f so (x.af.getD i aH).aC n.aC (v.aw.getD i aM)/\∀p u,f (x.af.getD i aH).aC (v.aw.getD i aM) n.aC p= .inl u->cp u)
 (g:∀i,i<x.af.length->vq tw (x.af.getD i aH).aC (v.aw.getD i aM))(a:az):
 zh (x,v,y,tw,tr,a,so)=some (gh tw tr a so (qy (fi tw) f x y v so)):=by
 have h0:=Qe ar aa al ak b e h y.af.length 0 [] a (by simp) (by simp);have c:p4 (y.af,y.af.length,0,tw,tr,a,x,v,y,0,false,0,[],0,v.ae,false,0,[],0,so,[])=_:=h0;rw[zh];simp[ab.bI];rw[c,eZ];unfold qy;cases h5 f x v so _ with
 |inr p=>rfl
 |inl its=>
  have h1:=PD (tr:=tr) ar aa al ak b g (its:=its) a x.af.length 0 [] (by simp) (by simp);have d:oE (x.af,x.af.length,0,tw,tr,a,v,y,0,false,0,[],0,v.ae,false,0,[],0,so,its,[])=_:=h1;simp only[aW,ay,vr,jE];rw[d,eZ,eZ];cases hv (fi tw) y so _ v.aw with
  |inr p=>rfl
  |inl r=>simp_all[Cj,lq,jj,gh]
theorem ae7(ar:so.length<=2199023255552)(k6:v.ae=6)(aa:x.af.length<=1000)(al:y.af.length<=1000)(h1:v.aw.length=1){i:Nat}(a:eX x.af v.ai=some i)
 (h:∀n,n∈y.af->Part tw tr f so (x.af.getD i aH).aC n.aC (v.aw.getD 0 aM))
 (e:vq tw (x.af.getD i aH).aC (v.aw.getD 0 aM))(b:az):
 zl (x,v,y,tw,tr,b,so)=some (gh tw tr b so (o1 (fi tw) f x y v so)):=by
 obtain⟨d,_,_⟩:=iN a;have c:aE 0 v.aw.length:=by rw[h1];rfl
 rw[zl,Aq aa,Aq al];unfold o1 kt;simp only[aW,ay,ab.bI,a];cases bK:eX y.af v.ai with
 |some k=>
  obtain⟨k1,_,_⟩:=iN bK;simp only;rw[ah trivial,ah (aY d),ah c,ah (aY k1),bQ,bQ,show(0:Int).toNat=0 from rfl,h _ (bA k1 aH)];cases f _ (v.aw.getD 0 aM) (y.af.getD k aH).aC _ with
  |inr p=>
   rfl
  |inl u=>
   simp_all[gh,dc,jj,ab.bI,au]
 |none=>
  cases y.bt with
  |false=>
   simp_all[ah,Vz,cx,cF,gh]
  |true=>
   simp_all[vq,dc,au,ah,aY,bQ,ay,cl,gh]
def Cl(tw tr:I aj)(n:Nat):Prop:=∀{v:ab},cp v->wt v<=274877906944->∀{t rt:Int} {so:az} (a:az),dj tw true t v->hg (fi tw) tw n t v->0<=rt->rt<tr.length->so.length+n<=1099511627776->
 tu (t,v,rt,tw,tr,a,so)=some (gh tw tr a so (en (fi tw) tw tr n t v rt so))
theorem aem(bU:cX tw)(b5:cX tr){n:Nat}(ih:Cl tw tr n):Cl tw tr (n+1):=by
 intro v aC aU t rt so e K aB bb S ar;unfold hg at aB;obtain⟨⟨z1,a',ba⟩,N,U,H⟩:=aB;have SW:=bU.V.ik bU.T;have cB:=b5.V.ik b5.T;have aV:=hT v;obtain⟨⟨g1,g2,g3,g4⟩,X⟩:=(hF _ _ _).1 K;obtain⟨j,rfl⟩:∃j:Nat,t=(j:Int):=⟨t.toNat,by omega⟩;obtain⟨k,rfl⟩:∃k:Nat,rt=(k:Int):=⟨rt.toNat,by omega⟩
 have Z:j<tw.length:=by omega
 have ad:k<tr.length:=by omega
 have ag:=bA Z aN;have w:=bA ad aN;have aS:=g4 rfl;cases aC with
 |mk _ hs h1 aP aQ aq B aT aX aZ a6 a8=>
 rw[tu,ah (aY Z),xe];simp only[aW,ay,bQ,ab.bI];rw[bQ]at g3 X N U H;rw[ah (aY ad)];have ao:∀q,q∈(tr.getD k aN).af->q.bH->kR q.bm=some q.bm:=λq a ap=>adi ((b5.T _ w).hj _ a) (by have:=b5.W _ w q a ap;omega);generalize aa:tw.getD j aN=x at*;generalize al:tr.getD k aN=y at*;have L:∀{t rt:Int} {q:ab},q∈v.aw->dj tw true t q->hg (fi tw) tw n t q->0<=rt->rt<tr.length->Part tw tr (en (fi tw) tw tr n) so t rt q:=λ{t rt q} a K Q a0 a1 step e=>Qd (by omega) (ih (B q a) (by have:=d' a;omega) e K Q a0 a1 (by simp;omega));have aI:∀{t rt:Int} {q:ab},q∈v.a7->dj tw true t q->hg (fi tw) tw n t q->0<=rt->rt<tr.length->Part tw tr (en (fi tw) tw tr n) so t rt q:=λ{t rt q} a K Q a0 a1 step e=>Qd (by omega) (ih (aq q a) (by have:=d' a;omega) e K Q a0 a1 (by simp;omega));have F:=Vz (tw:=tw) (tr:=tr) (so:=so) (by omega) e;by_cases bW:x.ae=y.ae
 . rw[au (show ¬(!(x.ae=y.ae:J))=true by simp[bW])];have M:∀{t rt:Int},v.aw=[]->oN (t,v.aw,rt,tw,tr,e,so)=some ([],true,tw,tr,e,so):=λ{t rt} he=>by
    have:=Aw (tw:=tw) (tr:=tr) (f:=en (fi tw) tw tr n) (so:=so) (t:=t) (rt:=rt) (l:=v.aw) (by omega) (λq a=>by rw[he]at a;cases a) e;rw[this,he];rfl
   rcases X with h|h|h|h|h|h|h|h|h
   . obtain⟨a1,a2,a3,a4,a5,d,C⟩:=h;have b:x.ae=1:=(by omega);have ak:jH x y v:=⟨λh=>by omega,λh=>by omega,λh=>by omega⟩
     rw[rQ bW (by omega) ak];simp only[b];simp only[M d,ay,ee,cx,cF,Int.reduceEq,dc,gh];cases v;simp_all
   . obtain⟨a1,a2,a3,a4,a5,d,C,D,a9⟩:=h;have b:x.ae=2:=(by omega);by_cases ak:y.br<=v.bE/\v.bE<=y.bB
     rw[rQ bW (by omega) (show jH x y v from⟨λ_=>ak,λh=>by omega,λh=>by omega⟩)];simp only[b];simp only[M d,ak.1,ak.2,ay,ee,dS,cx,cF,cl,Int.reduceEq,dc,fh,gh];cases v;simp_all
     . rw[xj bW (by omega) (show ¬jH x y v fromλh=>ak (h.1 b))];have I:(bif (y.br<=v.bE:J)then (v.bE<=y.bB:J)else false)=false:=by
        by_cases c:y.br<=v.bE<;>simp[c];omega
       simp only[b,I];simp only[F,ay,dS,cl,eL,gh,ab.bI]
   . obtain⟨a1,a2,a3,a4,a5,d,C,D⟩:=h;have b:x.ae=3:=(by omega);by_cases ak:(v.bZ.length:Int)<=y.Max
     rw[rQ bW (by omega) (show jH x y v from⟨λh=>by omega,λ_=>ak,λh=>by omega⟩)];simp only[b];simp only[M d,ak,ay,ee,dS,cx,cF,cl,Int.reduceEq,dc,fh,gh];cases v;simp_all;rw[xj bW (by omega) (show ¬jH x y v fromλh=>ak (h.2.1 b))];simp only[b];simp only[F,ak,ay,dS,ee,cl,cF,Int.reduceEq,cx,eL,gh,ab.bI]
   . obtain⟨a1,a2,a3,a4,a5,d,C,D⟩:=h;have b:x.ae=4:=(by omega);obtain⟨r,S,_,aK⟩:=rz (t:=y) v.ai (by have:=(b5.T _ w).1;have:=eI (ek reachBytes);omega);have G:r.2↔∃s,s∈y.bc/\s.ai=v.ai:=by
      rcases aK with⟨q,g,R,_,rfl⟩|⟨q,rfl⟩;exact⟨λ_=>⟨_,bA g dV,R⟩,λ_=>rfl⟩
      . constructor
        intro h;simp at h;intro a;obtain⟨s,s1,aL⟩:=a;obtain⟨i,B,rfl⟩:=gT s1;exact absurd aL (by have:=q i B;rwa [fM B]at this)
     by_cases ak:(∃s,s∈y.bc/\s.ai=v.ai)\/y.bt=true
     . rw[rQ bW (by omega) (show jH x y v from⟨λh=>by omega,λh=>by omega,λ_=>ak⟩)];have I:(bif r.2 then true else y.bt)=true:=by
        rcases ak with ak|ak;rw[G.2 ak];rfl;rw[ak];cases r.2<;>rfl
       simp only[b,S];simp only[M d,I,ay,ee,dS,cx,cF,cl,Int.reduceEq,dc,gh];cases v;simp_all
     . rw[xj bW (by omega) (show ¬jH x y v fromλh=>ak (h.2.2 b))];have I:(bif r.2 then true else y.bt)=false:=by
        cases az:r.2 with
        |true=>exact absurd (.inl (G.1 az)) ak
        |false=>
         cases av:y.bt with
         |true=>exact absurd (.inr av) ak
         |false=>rfl
       simp only[b,S];simp only[F,I,ay,dS,ee,cl,cF,Int.reduceEq,cx,eL,gh,ab.bI]
   . obtain⟨a1,a2,a3,a4,a5,d,C,D⟩:=h;have b:x.ae=5:=(by omega);obtain⟨aj,aD⟩:=SW.A _ ag (.inl (by omega));obtain⟨aE,aG⟩:=cB.A _ w (.inl (by omega));obtain⟨f1,f2⟩:=jR.1 D
     have G:=adj (tw:=tw) (tr:=tr) (f:=en (fi tw) tw tr n) (so:=so) (by omega) (x:=x) (y:=y) a1 (by omega) (by omega) f1 B ao (λi E q a=>by
      have o:=bA (by omega:i<v.aw.length) aM;obtain⟨z,g⟩:=b5.hZ.mem w a;exact⟨L o (f2 i E) (N b i E) z g,λp u aA=>(EJ bU b5 n (B _ o) (f2 i E) (N b i E) z g aA).1⟩) (λi E=>by
      have o:=bA (by omega:i<v.aw.length) aM
      exact(KI bU (B _ o) (f2 i E) (by have:=d' o;omega)).1) e
     rw[VJ bW b];simp only[b,G,ay,ee,dS,cx,cF,cl,Int.reduceEq,ab.bI]
   . obtain⟨a1,a2,a3,a4,a5,d⟩:=h;have b:x.ae=6:=(by omega);obtain⟨aj,aD⟩:=SW.A _ ag (.inr (by omega));obtain⟨aE,aG⟩:=cB.A _ w (.inr (by omega));cases bK:cw x.af v.ai with
     |none=>rw[bK]at d;cases d.2.1
     |some m=>
      rw[bK]at d;obtain⟨b1,b2,an⟩:=d;have P:=xC x.af v.ai;rw[bK]at P;cases O:eX x.af v.ai with
      |none=>rw[O]at P;cases P
      |some i=>
      obtain⟨d1,d2,_⟩:=iN O;obtain⟨d3,d4⟩:=kp bK;have em:x.af.getD i aH=m:=uq aj (bA d1 aH) d3 (by rw[d2,d4]);have o:=bA (by omega:0<v.aw.length) aM;have Y:=dv.1 an _ o
      have G:=ae7 (tw:=tw) (tr:=tr) (f:=en (fi tw) tw tr n) (so:=so) (by omega) (x:=x) (y:=y) a1 (by omega) (by omega) b2 O (λq a=>by
       obtain⟨z,g⟩:=b5.hZ.mem w a;rw[em]
       exact L o Y (U b _ bK _ o) z g) (by rw[em];exact(KI bU (B _ o) Y (by have:=d' o;omega)).1) e
      rw[VK bW b];simp only[b,G,ay,ee,dS,cx,cF,cl,Int.reduceEq,ab.bI]
   . obtain⟨a1,a2,a3,a4,a5,d,C,D,a9⟩:=h;have b:x.ae=7:=(by omega);obtain⟨z,g⟩:=b5.hZ.elem w (by omega);have a:=Aw (tw:=tw) (tr:=tr) (f:=en (fi tw) tw tr n) (so:=so) (t:=x.aF) (rt:=y.aF) (l:=v.aw) (by omega) (λq a=>L a (dv.1 a9 q a) ((H (by omega)).1 q a) z g) e;rw[VL bW b];unfold sx;by_cases ak:(v.aw.length:Int)<=y.Max
     . rw[ah ak];simp only[b,a,ak,ay,ee,dS,cx,cF,cl,Int.reduceEq,dc];cases eW (en (fi tw) tw tr n) so x.aF y.aF 0 v.aw with
       |inr p=>rfl
       |inl us=>simp only[pc,jj,gh,dc,cx,cF,a1,a2,a3,a4,a5]
     rw[au ak];simp only[b];simp only[F,ak,ay,dS,ee,cl,cF,Int.reduceEq,cx,eL,gh,ab.bI]
   . obtain⟨a1,a2,a3,a4,a5,d,C,D,a9,am,aO⟩:=h;have b:x.ae=8:=(by omega);obtain⟨z,g⟩:=b5.hZ.elem w (by omega);obtain⟨R,aJ⟩:=b5.hZ.key w (by omega);have a:=Aw (tw:=tw) (tr:=tr) (f:=en (fi tw) tw tr n) (so:=so) (t:=x.aF) (rt:=y.aF) (l:=v.aw) (by omega) (λq a=>L a (dv.1 am q a) ((H (by omega)).1 q a) z g) e;have ax:=Aw (tw:=tw) (tr:=tr) (f:=en (fi tw) tw tr n) (so:=so) (t:=x.aR) (rt:=y.aR) (l:=v.a7) (by omega) (λq a=>aI a (dv.1 a9 q a) ((H (by omega)).2 q a) R aJ) e;rw[VM bW b];unfold sy;by_cases ak:(v.aw.length:Int)<=y.Max
     . rw[ah ak];simp only[b,ax,ak,ay,ee,dS,cx,cF,cl,Int.reduceEq,dc];cases eW (en (fi tw) tw tr n) so x.aR y.aR 0 v.a7 with
       |inr p=>rfl
       |inl ks=>
        simp only[pc,lq,dc,cx,cF,a,ay];cases eW (en (fi tw) tw tr n) so x.aF y.aF 0 v.aw with
        |inr p=>rfl
        |inl us=>simp only[pc,jj,gh,dc,cx,cF,a1,a2,a3,a4,a5]
     rw[au ak];simp only[b];simp only[F,ak,ay,dS,ee,cl,cF,Int.reduceEq,cx,eL,gh,ab.bI]
   . obtain⟨a1,a2,a3,a4,a5,d,C,D,a9⟩:=h;have b:x.ae=9:=(by omega);obtain⟨z,g⟩:=b5.hZ.elem w (by omega);have a:=Aw (tw:=tw) (tr:=tr) (f:=en (fi tw) tw tr n) (so:=so) (t:=x.aF) (rt:=y.aF) (l:=v.aw) (by omega) (λq a=>L a (dv.1 a9 q a) ((H (by omega)).1 q a) z g) e;rw[VN bW b];unfold sA;simp only[b,a,ay,ee,dS,cx,cF,cl,Int.reduceEq,dc];cases eW (en (fi tw) tw tr n) so x.aF y.aF 0 v.aw with
     |inr p=>rfl
     |inl us=>simp only[pc,jj,gh,dc,cx,cF,a1,a2,a3,a4,a5]
 rw[ah (show(!(x.ae=y.ae:J))=true by simp[bW]),Sp bW,F];simp only[ay,ab.bI,gh]
theorem aen:Cl tw tr 0:=by
 intro v _ _ _ _ _ _ _ h;cases h
theorem PE(bU:cX tw)(b5:cX tr):∀n,Cl tw tr n
 |0=>aen
 |n+1=>aem bU b5 (PE bU b5 n)
end
def iq:ab ⊕ az->dU
 |.inl u=>⟨u,[],true⟩
 |.inr p=>⟨⟨0,false,0,[],0,[],[],[]⟩,p,false⟩
theorem De(ar:so.length<=2199023255552):kQ so=some (iq (.inr so)):=by
 rw[kQ,ah (u6)];rfl
theorem Ba(ar:so.length<=2199023255552)(step:Int):sa (so,step)=some (so++[step]):=by
 rw[sa,ah (u6),jE];simp only[aW,ay];rw[ah (u6)]
theorem Hr{m:aU}(a:cp m.bm)(v:ab):wz (m,v)=some (di m v):=by
 rw[wz];simp[ab.bI];unfold di;cases b:m.bH with
 |false=>rfl
 |true=>
  obtain⟨r,c,d⟩:=OH a v;grind
theorem BG(ak:x.af.length<=1000)(id:Int):gD (x,id)=some (kt x.af id):=by
 obtain⟨r,a,b⟩:=En (t:=x) (id:=id) (by omega);grind[IH,ND]
section
variable {tw tr:I aj}
def pd(tw tr:I aj)(f:fK)(so:az)(t rt:Int)(v:ab):Prop:=∀step:Int,mZ ((⟨tw⟩:aT),t,v,(⟨tr⟩:aT),rt,so++[step])=some (iq (f t v rt (so++[step])))
def F'(tw tr:I aj)(so:az)(x y:aj)(v:ab)(acc:I ab):I ab ⊕ az->dU ⊕ (az×I aj×ab×I aj×Int×J×Int×aq×Int×J×aj×aj×Int×J×Int×aq×Int×I ch×I ab)
 |.inl us=>.inr (so,tw,v,tr,0,false,0,[],0,false,x,y,v.ae,v.ct,v.bE,v.bZ,v.ai,v.aX,acc++us)
 |.inr p=>.inl (iq (.inr p))
theorem PF(ar:so.length<=2199023255552)(ak:v.a7.length<=50000)(h:∀q,q∈v.a7->pd tw tr f so x.aR y.aR q):∀(k i:Nat) (acc:I ab),i+k=v.a7.length->acc.length<=i->
 oK (so,(i:Int),tw,v,tr,0,false,0,[],0,false,x,y,v.ae,v.ct,v.bE,v.bZ,v.ai,v.aX,acc)=some (F' tw tr so x y v acc (eW f so x.aR y.aR i (v.a7.drop i)))
 |0,i,acc,b,a=>by
  simp_all[oK,au,fx,eW,F',ab.bI]
 |k+1,i,acc,b,a=>by
  have aD:i<v.a7.length:=by omega
  rw[oK,ah (by grind),ah (aY aD),bQ,Ba ar];simp only[ab.bI,aW,ay];rw[h _ (bA aD aM),e6 aD aM,eW];cases f x.aR (v.a7.getD i aM) y.aR (so++[(i:Int)])with
  |inr p=>rfl
  |inl u=>
   simp only[ay,iq];rw[ah (ef (by simp) (by grind)),bN,PF ar ak h k (i+1) _ (by omega) (by grind)];cases eW f so x.aR y.aR (i+1) (v.a7.drop (i+1))with
   |inr p=>rfl
   |inl us=>simp[F',hK]
def F9(v:ab)(ks acc:I ab):I ab ⊕ az->dU ⊕ (Int×J×Int×aq×Int×J×Int×J×Int×aq×Int×I ch×I ab×I ab)
 |.inl us=>.inr (0,false,0,[],0,false,v.ae,v.ct,v.bE,v.bZ,v.ai,v.aX,ks,acc++us)
 |.inr p=>.inl (iq (.inr p))
theorem NH(ar:so.length<=2199023255552)(ak:v.aw.length<=50000)(h:∀q,q∈v.aw->pd tw tr f so x.aF y.aF q){ks:I ab}:∀(k i:Nat) (acc:I ab),i+k=v.aw.length->acc.length<=i->
 oL (so,(i:Int),tw,v,tr,0,false,0,[],0,false,x,y,v.ae,v.ct,v.bE,v.bZ,v.ai,v.aX,ks,acc)=some (F9 v ks acc (eW f so x.aF y.aF i (v.aw.drop i)))
 |0,i,acc,b,a=>by
  simp_all[oL,au,eW,F9]
 |k+1,i,acc,b,a=>by
  have aD:i<v.aw.length:=by omega
  rw[oL,ah (by grind),ah (aY aD),bQ,Ba ar];simp only[ab.bI,aW,ay];rw[h _ (bA aD _),e6 aD aM,eW];cases f _ _ _ _ with
  |inr p=>rfl
  |inl u=>
   simp only[ay,iq];rw[ah (ef (by simp) (by grind)),bN,NH ar ak h k (i+1) _ (by omega) (by grind)];cases eW f so x.aF y.aF (i+1) _ with
   |inr p=>rfl
   |inl us=>simp[F9,hK]
def mF(f:fK)(x y:aj)(v:ab)(so:az):ab ⊕ az:=
 lq (λks=>jj (λa=>⟨v.ae,v.ct,v.bE,v.bZ,v.ai,ks,a,v.aX⟩) (eW f so x.aF y.aF 0 v.aw)) (eW f so x.aR y.aR 0 v.a7)
theorem uN(ar:so.length<=2199023255552)(d:v.a7.length<=50000)(ak:v.aw.length<=50000)(c:∀q,q∈v.a7->pd tw tr f so x.aR y.aR q)(h:∀q,q∈v.aw->pd tw tr f so x.aF y.aF q):
 (∃p,mF f x y v so= .inr p/\oK (so,0,tw,v,tr,0,false,0,[],0,false,x,y,v.ae,v.ct,v.bE,v.bZ,v.ai,v.aX,[])=some (.inl (iq (.inr p))))\/
 ∃ks,oK (so,0,tw,v,tr,0,false,0,[],0,false,x,y,v.ae,v.ct,v.bE,v.bZ,v.ai,v.aX,[])=some (.inr (so,tw,v,tr,0,false,0,[],0,false,x,y,v.ae,v.ct,v.bE,v.bZ,v.ai,v.aX,ks))/\
  ((∃p,mF f x y v so= .inr p/\oL (so,0,tw,v,tr,0,false,0,[],0,false,x,y,v.ae,v.ct,v.bE,v.bZ,v.ai,v.aX,ks,[])=some (.inl (iq (.inr p))))\/
  ∃us,mF f x y v so= .inl ⟨v.ae,v.ct,v.bE,v.bZ,v.ai,ks,us,v.aX⟩/\oL (so,0,tw,v,tr,0,false,0,[],0,false,x,y,v.ae,v.ct,v.bE,v.bZ,v.ai,v.aX,ks,[])=some (.inr (0,false,0,[],0,false,v.ae,v.ct,v.bE,v.bZ,v.ai,v.aX,ks,us))):=by
 have h0:=PF ar d c v.a7.length 0 [] (by simp) (by simp);have a:oK (so,0,tw,v,tr,0,false,0,[],0,false,x,y,v.ae,v.ct,v.bE,v.bZ,v.ai,v.aX,[])=_:=h0;rw[a,eZ];unfold mF;cases eW f _ _ _ 0 v.a7 with
 |inr p=>exact .inl ⟨p,rfl,rfl⟩
 |inl ks=>
  have h1:=NH ar ak h (ks:=ks) v.aw.length 0 [] (by simp) (by simp);have b:oL (so,0,tw,v,tr,0,false,0,[],0,false,x,y,v.ae,v.ct,v.bE,v.bZ,v.ai,v.aX,ks,[])=_:=h1;refine .inr ⟨ks,by rfl,?_⟩;rw[b,eZ];cases eW f _ _ _ 0 _ with
  |inr p=>exact .inl ⟨p,rfl,rfl⟩
  |inl us=>exact .inr ⟨us,rfl,by rfl⟩
def vt(tw:I aj)(so:az)(x y:aj)(v:ab)(acc:I ab):I ab ⊕ az->dU ⊕ (az×I aj×aj×ab×aj×Int×J×Int×aq×Int×J×Int×J×Int×aq×Int×I ab)
 |.inl us=>.inr (so,tw,x,v,y,0,false,0,[],0,false,v.ae,false,0,[],0,acc++us)
 |.inr p=>.inl (iq (.inr p))
theorem PG{so:az}(ar:so.length<=2199023255000)(aa:x.af.length<=1000)(al:y.af.length<=1000)(ak:v.aw.length=x.af.length)
 (d:∀n,n∈x.af->cp n.bm)(e:∀n,n∈y.af->cp n.bm)
 (h:∀i,i<x.af.length->∀n,n∈y.af->pd tw tr f so (x.af.getD i aH).aC n.aC (v.aw.getD i aM)):∀(k j:Nat) (acc:I ab),j+k=y.af.length->acc.length<=j->
 pB (so,(j:Int),tw,x,v,tr,y,0,false,0,[],0,false,v.ae,false,0,[],0,acc)=some (vt tw so x y v acc (h5 f x v so (y.af.drop j)))
 |0,j,acc,q,m=>by
  simp_all[pB,au,fx,h5,vt,ab.bI]
 |k+1,j,acc,q,m=>by
  have aD:j<y.af.length:=by omega
  have g:=bA aD aH;have rc:=λacc=>PG ar aa al ak d e h k (j+1) acc (by omega);rw[pB,ah (by grind),ah (aY aD),bQ];simp only[aW,ay,ab.bI,iu];rw[Ba (by omega),BG aa,e6 aD aH,h5];unfold qA kt;have o:=e _ g;generalize aI:y.af.getD j aH=n at*;have M:=De (so:=so++[n.ai]) (by grind);cases bK:eX x.af n.ai with
  |none=>
   simp only[ay,eL,fh];cases z:n.bH with
   |false=>
    rw[M,au (show ¬false=true by simp)];rfl
   |true=>
    rw[ah trivial,ah (ef (by simp) (by grind)),bN,rc _ (by grind),ah (show true=true from rfl)];cases h5 f x v so (y.af.drop (j+1))with
    |inr p=>rfl
    |inl us=>simp[vt,hK]
  |some i=>
   obtain⟨a,_,_⟩:=iN bK;have c:i<v.aw.length:=(by omega);have s:=h i a n g;simp only[ay,dc,et];rw[cq,cq,ah (aY a),ah (aY c),bQ,s n.ai];have l:=Hr (d _ (bA a aH)) (v.aw.getD i aM);cases w:f (x.af.getD i aH).aC (v.aw.getD i aM) n.aC (so++[n.ai])with
   |inr p=>
    simp only[ay,iq,ab.bI,eL,dc,Bool.and_false];rw[ah (aY a),ah (aY c),l];rw[Qa];generalize di (x.af.getD i aH) (v.aw.getD i aM)=b at*;cases b with
    |false=>rfl
    |true=>
     simp only[fh];rw[ah trivial,M];rfl
   |inl u=>
    have r:=Hr o u;simp only[ay,iq,ab.bI,eL,dc,u0];rw[ah (aY a),ah (aY c),l];simp only[ay,cx,cF];rw[Qb];generalize di (x.af.getD i aH) (v.aw.getD i aM)=b at*;have A:(some [u]>>=λt110=>if cn 120 (acc++t110).length then pB (so,a' .i64 (j:Int) 1,tw,x,v,tr,y,0,false,0,[],0,false,v.ae,false,0,[],0,acc++t110)else none)=some (vt tw so x y v acc (hK (.inl u) (h5 f x v so (y.af.drop (j+1))))):=by
     simp only[aW,ay];rw[ah (ef (by simp) (by grind)),bN,rc _ (by grind)];cases h5 f x v so (y.af.drop (j+1))with
     |inr p=>rfl
     |inl us=>simp[vt,hK]
    cases b with
    |false=>
     grind
    |true=>
     rw[ah rfl,r];cases t:di n u with
     |true=>
      grind
     |false=>
      rw[M];rfl
def Ck(v:ab)(its:I ab)(acc:I ch):I ch ⊕ az->dU ⊕ (Int×J×Int×aq×Int×J×Int×J×Int×aq×Int×I ab×I ch)
 |.inl a=>.inr (0,false,0,[],0,false,v.ae,false,0,[],0,its,acc++a)
 |.inr p=>.inl (iq (.inr p))
theorem PH(ar:so.length<=2199023255000)(aa:x.af.length<=1000)(al:y.af.length<=1000)(ak:v.aw.length=x.af.length)(d:∀n,n∈x.af->cp n.bm)
 (h:∀i,i<x.af.length->kM tw (v.aw.getD i aM) (x.af.getD i aH).aC){its:I ab}:∀(k i:Nat) (acc:I ch),i+k=x.af.length->acc.length<=i->
 oH (so,(i:Int),tw,x,v,y,0,false,0,[],0,false,v.ae,false,0,[],0,its,acc)=some (Ck v its acc (hv (bG tw) y so (x.af.drop i) (v.aw.drop i)))
 |0,i,acc,g,f=>by
  simp_all[oH,au,fx,hv,Ck]
 |k+1,i,acc,g,f=>by
  have aD:i<x.af.length:=by omega
  have c:i<v.aw.length:=by omega
  have rc:=λacc=>PH ar aa al ak d h (its:=its) k (i+1) acc (by omega);rw[oH,ah (by grind),ah (aY aD),bQ];simp only[aW,ay,ab.bI,iu];rw[BG al,e6 aD aH,e6 c aM,hv];have hs:=xC y.af (x.af.getD i aH).ai;have j:(kt y.af (x.af.getD i aH).ai).2=(cw y.af (x.af.getD i aH).ai).isSome:=by
   grind[kt]
  simp only[ay];rw[j];by_cases a:(cw y.af (x.af.getD i aH).ai).isSome=true;rw[ah a,ah a,bN,rc _ (by omega)];rw[au a,au a];by_cases b:(x.af.getD i aH).b4=true;rw[ah b,ah b,Ba (by omega)];simp only[ay];rw[De (by grind)];rfl
  rw[au b,au b,ah (aY c),Hr (d _ (bA aD aH))];simp only[ay];cases di (x.af.getD i aH) (v.aw.getD i aM)with
  |true=>
   rw[cq,ah rfl,bN,rc _ (by omega)]
  |false=>
   have e:=h i aD;rw[ah (aY c),e];simp only[ay];rw[ah (ef (by simp) (by grind)),bN,rc _ (by grind)];cases hv (bG tw) y so _ _ with
   |inr p=>rfl
   |inl us=>simp[Ck,hK]
theorem adk(ar:so.length<=2199023255000)(k5:v.ae=5)(aa:x.af.length<=1000)(al:y.af.length<=1000)(ak:v.aw.length=x.af.length)
 (a:∀n,n∈x.af->cp n.bm)(b:∀n,n∈y.af->cp n.bm)
 (h:∀i,i<x.af.length->∀n,n∈y.af->pd tw tr f so (x.af.getD i aH).aC n.aC (v.aw.getD i aM))
 (e:∀i,i<x.af.length->kM tw (v.aw.getD i aM) (x.af.getD i aH).aC):
 zo ((⟨tw⟩:aT),x,v,(⟨tr⟩:aT),y,so)=some (iq (qy (bG tw) f x y v so)):=by
 have h0:=PG ar aa al ak a b h y.af.length 0 [] (by simp) (by simp);have c:pB (so,0,tw,x,v,tr,y,0,false,0,[],0,false,v.ae,false,0,[],0,[])=_:=h0;rw[zo];simp only[ab.bI];rw[c,eZ];unfold qy;cases h5 f x v so _ with
 |inr p=>rfl
 |inl its=>
  have h1:=PH ar aa al ak a e (its:=its) x.af.length 0 [] (by simp) (by simp);have d:oH (so,0,tw,x,v,y,0,false,0,[],0,false,v.ae,false,0,[],0,its,[])=_:=h1;simp[ay,vt];rw[d,eZ,eZ];cases hv (bG tw) y so _ v.aw with
  |inr p=>rfl
  |inl r=>grind[Ck,lq,jj,iq,oc,ab.bI]
theorem aeo(ar:so.length<=2199023255000)(k6:v.ae=6)(aa:x.af.length<=1000)(al:y.af.length<=1000)(h1:v.aw.length=1){i:Nat}(a:eX x.af v.ai=some i)
 (h:∀n,n∈y.af->pd tw tr f so (x.af.getD i aH).aC n.aC (v.aw.getD 0 aM))
 (d:kM tw (v.aw.getD 0 aM) (x.af.getD i aH).aC):
 Ai ((⟨tw⟩:aT),x,v,(⟨tr⟩:aT),y,so)=some (iq (o1 (bG tw) f x y v so)):=by
 obtain⟨c,_,_⟩:=iN a;have b:aE 0 v.aw.length:=by rw[h1];rfl
 rw[Ai,BG aa,BG al];unfold o1 kt;simp only[aW,ay,ab.bI,a];cases bK:eX y.af v.ai with
 |some k=>
  obtain⟨k1,_,_⟩:=iN bK;rw[cq,cq,ah (aY c),ah b,ah (aY k1),bQ,bQ,show(0:Int).toNat=0 from rfl,Ba (by omega)];simp only[ay];rw[h _ (bA k1 aH)];cases f _ _ _ _ with
  |inr p=>
   rfl
  |inl u=>
   simp_all[ay,iq,dc,jj,ab.bI,oc,au]
 |none=>
  simp only[eL,fh];cases y.bt with
  |false=>
   rw[De (by omega)];rfl
  |true=>
   rw[ah trivial,ah (aY c),ah b,bQ,show(0:Int).toNat=0 from rfl,d];simp_all[ay,cl,iq,oc,ab.bI]
def Cm(tw tr:I aj)(n:Nat):Prop:=∀{v:ab},cp v->wt v<=274877906944->∀{t rt:Int} {so:az},dj tw true t v->hg (bG tw) tw n t v->0<=rt->rt<tr.length->so.length+n<=1099511627776->
 mZ ((⟨tw⟩:aT),t,v,(⟨tr⟩:aT),rt,so)=some (iq (en (bG tw) tw tr n t v rt so))
theorem adl(bU:cX tw)(b5:cX tr){n:Nat}(ih:Cm tw tr n):Cm tw tr (n+1):=by
 intro v aE a6 t rt so K aB bg W ar;unfold hg at aB;obtain⟨⟨z1,be,bf⟩,Y,Z,H⟩:=aB;have SW:=bU.V.ik bU.T;have cB:=b5.V.ik b5.T;have a8:=hT v;obtain⟨⟨g1,g2,g3,g4⟩,ad⟩:=(hF _ _ _).1 K;obtain⟨j,rfl⟩:∃j:Nat,t=(j:Int):=⟨t.toNat,by omega⟩;obtain⟨k,rfl⟩:∃k:Nat,rt=(k:Int):=⟨rt.toNat,by omega⟩
 have aj:j<tw.length:=by omega
 have am:k<tr.length:=by omega
 have P:=bA aj aN;have u:=bA am aN;have aX:=g4 rfl;cases aE with
 |mk _ hs h1 aU aV aA E aZ a' ba bb bd=>
 rw[mZ,ah (aY aj),xe];simp only[aW,ay,bQ,ab.bI];rw[bQ]at g3 ad Y Z H;rw[ah (aY am)];have ax:=(bU.T _ P).hj;have az:=(b5.T _ u).hj;generalize aa:tw.getD j aN=x at*;generalize al:tr.getD k aN=y at*;have X:∀y,y∈v.aw->wt y<=274877906944:=λy al=>by have:=d' al;omega
 have aS:∀y,y∈v.a7->wt y<=274877906944:=λy al=>by have:=d' al;omega
 have L:∀{t rt:Int} {q:ab},q∈v.aw->dj tw true t q->hg (bG tw) tw n t q->0<=rt->rt<tr.length->pd tw tr (en (bG tw) tw tr n) so t rt q:=λ{t rt q} a K R a0 a1 step=>ih (E q a) (X q a) K R a0 a1 (by grind);have aL:∀{t rt:Int} {q:ab},q∈v.a7->dj tw true t q->hg (bG tw) tw n t q->0<=rt->rt<tr.length->pd tw tr (en (bG tw) tw tr n) so t rt q:=λ{t rt q} a K R a0 a1 step=>ih (aA q a) (aS q a) K R a0 a1 (by grind);have F:=De (so:=so) (by omega);have D:(kQ so).bind (λr=>some (⟨r.bX,r.fb,r.cA⟩:dU))=some (iq (.inr so)):=by simp_all
 by_cases bW:x.ae=y.ae
 . rw[au (show ¬(!(x.ae=y.ae:J))=true by simp[bW])];have N:v.a7=[]->v.aw=[]->mF (en (bG tw) tw tr n) x y v so= .inl v:=λaJ I=>by
    unfold mF;cases v;simp_all [eW,lq,jj]
   rcases ad with h|h|h|h|h|h|h|h|h
   case' inl=>
    obtain⟨a1,a2,a3,a4,a5,d,w⟩:=h;have b:x.ae=1:=(by omega);have ak:jH x y v:=⟨λh=>by omega,λh=>by omega,λh=>by omega⟩;have C:=uN (tw:=tw) (tr:=tr) (f:=en (bG tw) tw tr n) (so:=so) (by omega) (x:=x) (y:=y) (v:=v) (by omega) (by omega) (λq a=>by rw[a5]at a;cases a) (λq a=>by rw[d]at a;cases a);rw[rQ bW (by omega) ak,<-N a5 d];simp only[b,Int.reduceEq,ee,dS,et,fh,cx,cF,cl]
   case' inr.inl=>
    obtain⟨a1,a2,a3,a4,a5,d,w,B,a9⟩:=h;have b:x.ae=2:=(by omega);by_cases ak:y.br<=v.bE/\v.bE<=y.bB
    case' neg=>
     have g:(bif (v.bE<y.br:J)then true else (y.bB<v.bE:J))=true:=by
      by_cases c:v.bE<y.br<;>simp[c];omega
     rw[xj bW (by omega) (show ¬jH x y v fromλh=>ak (h.1 b))];simp only[b,g,Int.reduceEq,ee,dS,et,fh,cx,cF,cl];exact D
    case' pos=>
     have g:(bif (v.bE<y.br:J)then true else (y.bB<v.bE:J))=false:=by
      have aq:¬v.bE<y.br:=(by omega);have av:¬y.bB<v.bE:=(by omega);simp[aq,av]
     have C:=uN (tw:=tw) (tr:=tr) (f:=en (bG tw) tw tr n) (so:=so) (by omega) (x:=x) (y:=y) (v:=v) (by omega) (by omega) (λq a=>by rw[a5]at a;cases a) (λq a=>by rw[d]at a;cases a);rw[rQ bW (by omega) (show jH x y v from⟨λ_=>ak,λh=>by omega,λh=>by omega⟩),<-N a5 d];simp only[b,g,Int.reduceEq,ee,dS,et,fh,cx,cF,cl]
   case' inr.inr.inl=>
    obtain⟨a1,a2,a3,a4,a5,d,w,B⟩:=h;have b:x.ae=3:=(by omega);by_cases ak:(v.bZ.length:Int)<=y.Max
    case' neg=>
     have g:(y.Max<(v.bZ.length:Int):J):=h3 (by omega);rw[xj bW (by omega) (show ¬jH x y v fromλh=>ak (h.2.1 b))];simp only[b,g,Int.reduceEq,ee,dS,et,fh,cx,cF,cl];exact D
    case' pos=>
     have g:(y.Max<(v.bZ.length:Int):J)=false:=qv (by omega);have C:=uN (tw:=tw) (tr:=tr) (f:=en (bG tw) tw tr n) (so:=so) (by omega) (x:=x) (y:=y) (v:=v) (by omega) (by omega) (λq a=>by rw[a5]at a;cases a) (λq a=>by rw[d]at a;cases a);rw[rQ bW (by omega) (show jH x y v from⟨λh=>by omega,λ_=>ak,λh=>by omega⟩),<-N a5 d];simp only[b,g,Int.reduceEq,ee,dS,et,fh,cx,cF,cl]
   case' inr.inr.inr.inl=>
    obtain⟨a1,a2,a3,a4,a5,d,w,B⟩:=h;have b:x.ae=4:=(by omega);obtain⟨r,_,W,aP⟩:=rz (t:=y) v.ai (by have:=(b5.T _ u).1;have:=eI (ek reachBytes);omega);have G:r.2↔∃s,s∈y.bc/\s.ai=v.ai:=by
     rcases aP with⟨q,l,U,_,rfl⟩|⟨q,rfl⟩;exact⟨λ_=>⟨_,bA l dV,U⟩,λ_=>rfl⟩
     . constructor
       intro h;simp at h;intro a;obtain⟨s,s1,aQ⟩:=a;obtain⟨i,E,rfl⟩:=gT s1;exact absurd aQ (by have:=q i E;rwa [fM E]at this)
    by_cases ak:(∃s,s∈y.bc/\s.ai=v.ai)\/y.bt=true
    case' neg=>
     have g:(bif (!r.2)then(!y.bt)else false)=true:=by
      cases aD:r.2 with
      |true=>exact absurd (.inl (G.1 aD)) ak
      |false=>
       cases aC:y.bt with
       |true=>exact absurd (.inr aC) ak
       |false=>rfl
     rw[xj bW (by omega) (show ¬jH x y v fromλh=>ak (h.2.2 b))];simp only[b,W,g,ay,Int.reduceEq,ee,dS,et,fh,cx,cF,cl];exact D
    case' pos=>
     have g:(bif (!r.2)then(!y.bt)else false)=false:=by
      rcases ak with ak|ak;rw[G.2 ak];rfl;rw[ak];cases r.2<;>rfl
     have C:=uN (tw:=tw) (tr:=tr) (f:=en (bG tw) tw tr n) (so:=so) (by omega) (x:=x) (y:=y) (v:=v) (by omega) (by omega) (λq a=>by rw[a5]at a;cases a) (λq a=>by rw[d]at a;cases a);rw[rQ bW (by omega) (show jH x y v from⟨λh=>by omega,λh=>by omega,λ_=>ak⟩),<-N a5 d];simp only[b,W,g,ay,Int.reduceEq,ee,dS,et,fh,cx,cF,cl]
   case' inr.inr.inr.inr.inl=>
    obtain⟨a1,a2,a3,a4,a5,d,w,B⟩:=h;have b:x.ae=5:=(by omega);obtain⟨an,aG⟩:=SW.A _ P (.inl (by omega));obtain⟨aI,aK⟩:=cB.A _ u (.inl (by omega));obtain⟨f1,f2⟩:=jR.1 B
    have G:=adk (tw:=tw) (tr:=tr) (f:=en (bG tw) tw tr n) (so:=so) (by omega) (x:=x) (y:=y) a1 (by omega) (by omega) f1 ax az (λi M q a=>by
     have o:=bA (by omega:i<v.aw.length) aM;obtain⟨z,l⟩:=b5.hZ.mem u a;exact L o (f2 i M) (Y b i M) z l) (λi M=>by
     have o:=bA (by omega:i<v.aw.length) aM
     exact Jw SW (E _ o) (by have:=X _ o;omega) _ (qD _ _ (f2 i M)))
    rw[VJ bW b];simp only[b,G,ay,Int.reduceEq,ee,dS,et,fh,cx,cF,cl]
    done
   case' inr.inr.inr.inr.inr.inl=>
    obtain⟨a1,a2,a3,a4,a5,d⟩:=h;have b:x.ae=6:=(by omega);obtain⟨an,aG⟩:=SW.A _ P (.inr (by omega));obtain⟨aI,aK⟩:=cB.A _ u (.inr (by omega));cases bK:cw x.af v.ai with
    |none=>rw[bK]at d;cases d.2.1
    |some m=>
     rw[bK]at d;obtain⟨b1,b2,ap⟩:=d;have Q:=xC x.af v.ai;rw[bK]at Q;cases O:eX x.af v.ai with
     |none=>rw[O]at Q;cases Q
     |some i=>
     obtain⟨d1,d2,_⟩:=iN O;obtain⟨d3,d4⟩:=kp bK;have em:x.af.getD i aH=m:=uq an (bA d1 aH) d3 (by rw[d2,d4]);have o:=bA (by omega:0<v.aw.length) aM;have ag:=dv.1 ap _ o
     have G:=aeo (tw:=tw) (tr:=tr) (f:=en (bG tw) tw tr n) (so:=so) (by omega) (x:=x) (y:=y) a1 (by omega) (by omega) b2 O (λq a=>by
      obtain⟨z,l⟩:=b5.hZ.mem u a;rw[em]
      exact L o ag (Z b _ bK _ o) z l) (by rw[em];exact Jw SW (E _ o) (by have:=X _ o;omega) _ (qD _ _ ag))
     rw[VK bW b];simp only[b,G,ay,Int.reduceEq,ee,dS,et,fh,cx,cF,cl]
    done
   case' inr.inr.inr.inr.inr.inr.inl=>
    obtain⟨a1,a2,a3,a4,a5,d,w,B,a9⟩:=h;have b:x.ae=7:=(by omega);obtain⟨z,l⟩:=b5.hZ.elem u (by omega);rw[VL bW b];unfold sx;by_cases ak:(v.aw.length:Int)<=y.Max
    case' neg=>
     have g:(y.Max<(v.aw.length:Int):J):=h3 (by omega);rw[au ak];simp only[b,g,Int.reduceEq,ee,dS,et,fh,cx,cF,cl];exact D
    case' pos=>
     have g:(y.Max<(v.aw.length:Int):J)=false:=qv (by omega);have C:=uN (tw:=tw) (tr:=tr) (f:=en (bG tw) tw tr n) (so:=so) (by omega) (x:=x) (y:=y) (v:=v) (by omega) (by omega) (λq a=>by rw[d]at a;cases a) (λq a=>L a (dv.1 a9 q a) ((H (by omega)).1 q a) z l);have e:(if(v.aw.length:Int)<=y.Max then jj (λS=>(⟨7,false,0,[],0,[],S,[]⟩:ab)) (eW (en (bG tw) tw tr n) so x.aF y.aF 0 v.aw)else .inr so)=mF (en (bG tw) tw tr n) x y v so:=by
      unfold mF;rw[ah ak,a1,a2,a3,a4,a5,d,w];rfl
     rw[e];simp only[b,g,Int.reduceEq,ee,dS,et,fh,cx,cF,cl]
   case' inr.inr.inr.inr.inr.inr.inr.inl=>
    obtain⟨a1,a2,a3,a4,a5,d,w,B,a9,ao,aT⟩:=h;have b:x.ae=8:=(by omega);obtain⟨z,l⟩:=b5.hZ.elem u (by omega);obtain⟨U,aO⟩:=b5.hZ.key u (by omega);rw[VM bW b];unfold sy;by_cases ak:(v.aw.length:Int)<=y.Max
    case' neg=>
     have g:(y.Max<(v.aw.length:Int):J):=h3 (by omega);rw[au ak];simp only[b,g,Int.reduceEq,ee,dS,et,fh,cx,cF,cl];exact D
    case' pos=>
     have g:(y.Max<(v.aw.length:Int):J)=false:=qv (by omega);have C:=uN (tw:=tw) (tr:=tr) (f:=en (bG tw) tw tr n) (so:=so) (by omega) (x:=x) (y:=y) (v:=v) (by omega) (by omega) (λq a=>aL a (dv.1 a9 q a) ((H (by omega)).2 q a) U aO) (λq a=>L a (dv.1 ao q a) ((H (by omega)).1 q a) z l);have e:(if(v.aw.length:Int)<=y.Max then lq (λks=>jj (λS=>(⟨8,false,0,[],0,ks,S,[]⟩:ab)) (eW (en (bG tw) tw tr n) so x.aF y.aF 0 v.aw)) (eW (en (bG tw) tw tr n) so x.aR y.aR 0 v.a7)else .inr so)=mF (en (bG tw) tw tr n) x y v so:=by
      unfold mF;rw[ah ak,a1,a2,a3,a4,a5,d]
     rw[e];simp only[b,g,Int.reduceEq,ee,dS,et,fh,cx,cF,cl]
   case' inr.inr.inr.inr.inr.inr.inr.inr=>
    obtain⟨a1,a2,a3,a4,a5,d,w,B,a9⟩:=h;have b:x.ae=9:=(by omega);obtain⟨z,l⟩:=b5.hZ.elem u (by omega);have C:=uN (tw:=tw) (tr:=tr) (f:=en (bG tw) tw tr n) (so:=so) (by omega) (x:=x) (y:=y) (v:=v) (by omega) (by omega) (λq a=>by rw[d]at a;cases a) (λq a=>L a (dv.1 a9 q a) ((H (by omega)).1 q a) z l);have e:sA (en (bG tw) tw tr n) x y v so=mF (en (bG tw) tw tr n) x y v so:=by
     unfold mF sA;rw[a1,a2,a3,a4,a5,d,w];rfl
    rw[VN bW b,e];simp only[b,Int.reduceEq,ee,dS,et,fh,cx,cF,cl]
   all_goals
    rcases C with⟨p,aJ,I⟩|⟨ks,I,⟨p,aJ,c3⟩|⟨us,aJ,c3⟩⟩;rw[aJ,I];rfl;rw[aJ,I];simp only[ay];rw[c3];rfl;rw[aJ,I];simp only[ay];rw[c3];simp only[ay,iq,oc,ab.bI]
 rw[ah (show(!(x.ae=y.ae:J))=true by simp[bW]),Sp bW,D]
theorem acY:Cm tw tr 0:=by
 intro v _ _ _ _ _ _ h;cases h
theorem PI(bU:cX tw)(b5:cX tr):∀n,Cm tw tr n
 |0=>acY
 |n+1=>adl bU b5 (PI bU b5 n)
end
inductive fS:ab->Prop
 |mk (v:ab) (ajH:v.aX=[]) (hk:∀y,y∈v.a7->fS y) (CL:∀y,y∈v.aw->fS y):fS v
theorem fS.rest(h:fS v):v.aX=[]:=by cases h;assumption
theorem fS.keys(h:fS v):∀y,y∈v.a7->fS y:=by cases h;assumption
theorem fS.items(h:fS v):∀y,y∈v.aw->fS y:=by cases h;assumption
theorem aj5(k:cp v):∀t,dj ts true t v->fS v:=by
 induction k with
 |mk v hs h1 n o q p r u w x z l g=>
  intro t j;obtain⟨⟨g1,g2,g3,g4⟩,f⟩:=(hF _ _ _).1 j;have a:v.a7=[]->∀y,y∈v.a7->fS y:=λe y al=>by rw[e]at al;cases al
  have c:v.aw=[]->∀y,y∈v.aw->fS y:=λe y al=>by rw[e]at al;cases al
  have d:∀{t},fu ts true t v.aw->∀y,y∈v.aw->fS y:=λ{t} h y al=>g y al t (dv.1 h y al);have a8:∀{t},fu ts true t v.a7->∀y,y∈v.a7->fS y:=λ{t} h y al=>l y al t (dv.1 h y al);refine .mk v (g4 rfl) ?_ ?_
  . rcases f with h|h|h|h|h|h|h|h|h
    exact a h.2.2.2.2.1;exact a h.2.2.2.2.1;exact a h.2.2.2.2.1;exact a h.2.2.2.2.1;exact a h.2.2.2.2.2.1;exact a h.2.2.2.2.1;exact a h.2.2.2.2.2.1;exact a8 h.2.2.2.2.2.2.2.2.1;exact a h.2.2.2.2.2.1
  . rcases f with h|h|h|h|h|h|h|h|h
    exact c h.2.2.2.2.2.1;exact c h.2.2.2.2.2.1;exact c h.2.2.2.2.2.1;exact c h.2.2.2.2.2.1;obtain⟨f1,f2⟩:=jR.1 h.2.2.2.2.2.2.2;intro y al;obtain⟨i,s,rfl⟩:=rP aM al;exact g _ al _ (f2 i (by omega))
    . obtain⟨a1,a2,a3,a4,a5,b⟩:=h;cases bK:cw (ts.getD t.toNat aN).af v.ai with
      |none=>rw[bK]at b;cases b.2.1
      |some m=>rw[bK]at b;exact d b.2.2
    exact d h.2.2.2.2.2.2.2.2;exact d h.2.2.2.2.2.2.2.2.2.1;exact d h.2.2.2.2.2.2.2.2
def eR(a b:ab ⊕ az):Prop:=(∀p,a= .inr p↔b= .inr p)/\∀d,fS d->(a= .inl d↔b= .inl d)
def kh(a b:I ab ⊕ az):Prop:=(∀p,a= .inr p↔b= .inr p)/\∀l,(∀d,d∈l->fS d)->(a= .inl l↔b= .inl l)
def Gf(a b:I ch ⊕ az):Prop:=(∀p,a= .inr p↔b= .inr p)/\(a= .inl []↔b= .inl [])
theorem eR.rfl'(a:ab ⊕ az):eR a a:=⟨λ_=>jF,λ_ _=>jF⟩
theorem kh.rfl'(a:I ab ⊕ az):kh a a:=⟨λ_=>jF,λ_ _=>jF⟩
theorem eR.two{a b:ab ⊕ az}(h:eR a b):(∃p,a= .inr p/\b= .inr p)\/∃u w,a= .inl u/\b= .inl w/\∀d,fS d->(u=d↔w=d):=by
 cases a with
 |inr p=>exact .inl ⟨p,rfl,(h.1 p).1 rfl⟩
 |inl u=>
  cases b with
  |inr p=>have:=(h.1 p).2 rfl;cases this
  |inl w=>exact .inr ⟨u,w,rfl,rfl,λd c=>by have:=h.2 d c;simpa using this⟩
theorem kh.two{a b:I ab ⊕ az}(h:kh a b):(∃p,a= .inr p/\b= .inr p)\/∃u w,a= .inl u/\b= .inl w/\∀l,(∀d,d∈l->fS d)->(u=l↔w=l):=by
 cases a with
 |inr p=>exact .inl ⟨p,rfl,(h.1 p).1 rfl⟩
 |inl u=>
  cases b with
  |inr p=>have:=(h.1 p).2 rfl;cases this
  |inl w=>exact .inr ⟨u,w,rfl,rfl,λd c=>by have:=h.2 d c;simpa using this⟩
theorem Gf.two{a b:I ch ⊕ az}(h:Gf a b):(∃p,a= .inr p/\b= .inr p)\/∃u w,a= .inl u/\b= .inl w/\(u=[]↔w=[]):=by
 cases a with
 |inr p=>exact .inl ⟨p,rfl,(h.1 p).1 rfl⟩
 |inl u=>
  cases b with
  |inr p=>have:=(h.1 p).2 rfl;cases this
  |inl w=>exact .inr ⟨u,w,rfl,rfl,by have:=h.2;simpa using this⟩
theorem eR.of{u w:ab}(h:∀d,fS d->(u=d↔w=d)):eR (.inl u) (.inl w):=⟨λp=>by simp,λd a=>by simpa using h d a⟩
theorem kh.cons{a b:ab ⊕ az}{c d:I ab ⊕ az}(h:eR a b)(k:kh c d):kh (hK a c) (hK b d):=by
 rcases h.two with⟨p,rfl,rfl⟩|⟨u,w,rfl,rfl,h1⟩;exact kh.rfl' _;rcases k.two with⟨p,rfl,rfl⟩|⟨l,m,rfl,rfl,k1⟩;exact kh.rfl' _
 refine⟨λp=>by simp[hK],λq e=>?_⟩;cases q with
 |nil=>simp[hK]
 |cons x q=>
  have a1:=h1 x (e x (.head _));have a2:=k1 q λd f=>e d (.tail _ f);simp[hK,a1,a2]
def SU(f g:fK):Prop:=∀t v rt so,eR (f t v rt so) (g t v rt so)
section
variable {f g:fK}(F:SU f g)
include F
theorem AI:∀(l:I ab) (i:Nat),kh (eW f so t rt i l) (eW g so t rt i l)
 |[],i=>kh.rfl' _
 |v::l,i=>by
  rw[eW,eW];exact kh.cons (F _ _ _ _) (AI l (i+1))
omit F in
theorem VX{n:aU}(aI:n.bH->fS n.bm){u w:ab}(h:∀d,fS d->(u=d↔w=d)):di n u=di n w:=by
 unfold di;cases a:n.bH with
 |false=>rfl
 |true=>
  have:=h _ (aI a);simp only[ig];exact decide_eq_decide.2 ⟨λe=>(this.1 e.symm).symm,λe=>(this.2 e.symm).symm⟩
omit F in
theorem aha{m n:aU}{w:ab}{c:az}(aI:n.bH->fS n.bm){a b:ab ⊕ az}(h:eR a b):eR (sB m w n c a) (sB m w n c b):=by
 rcases h.two with⟨p,rfl,rfl⟩|⟨u,q,rfl,rfl,h1⟩;exact eR.rfl' _
 . unfold sB;simp only[VX aI h1];split
   exact eR.rfl' _;exact eR.of h1
theorem ahb{n:aU}(aI:n.bH->fS n.bm):eR (qA f x v so n) (qA g x v so n):=by
 unfold qA;cases eX x.af n.ai with
 |none=>exact eR.rfl' _
 |some i=>exact aha aI (F _ _ _ _)
theorem Qf:∀{l:I aU},(∀n,n∈l->n.bH->fS n.bm)->kh (h5 f x v so l) (h5 g x v so l)
 |[],_=>kh.rfl' _
 |n::l,h=>by
  rw[h5,h5];exact kh.cons (ahb F (h n (.head _))) (Qf λm a=>h m (.tail _ a))
omit F in
theorem Qg{pf qf:Int->ab->aq}{y:aj}{so:az}:∀{ms:I aU} {l:I ab},Gf (hv pf y so ms l) (hv qf y so ms l)
 |[],l=>by cases l<;>exact⟨λ_=>jF,jF⟩
 |m::ms,[]=>⟨λ_=>jF,jF⟩
 |m::ms,v::l=>by
  rw[hv,hv];have ih:=@Qg pf qf y so ms l;split;exact ih;split;exact⟨λ_=>jF,jF⟩;split;exact ih;rcases ih.two with⟨p,aJ,a⟩|⟨u,w,aJ,a,h1⟩;rw[aJ,a];exact⟨λ_=>jF,jF⟩;rw[aJ,a];exact⟨λ_=>by simp[hK],by simp[hK]⟩
theorem akr(aI:∀n,n∈y.af->n.bH->fS n.bm):eR (qy pf f x y v so) (qy qf g x y v so):=by
 unfold qy;rcases (Qf F (x:=x) (v:=v) (so:=so) aI).two with⟨p,aJ,a⟩|⟨u,w,aJ,a,h1⟩;rw[aJ,a];exact eR.rfl' _;rw[aJ,a];rcases (Qg (pf:=pf) (qf:=qf) (y:=y) (so:=so) (ms:=x.af) (l:=v.aw)).two with⟨p,c3,gH⟩|⟨r,s,c3,gH,e⟩;simp only[lq];rw[c3,gH];exact eR.rfl' _
 simp only[lq];rw[c3,gH];refine eR.of λd c=>?_;obtain⟨k,b,n,t,i,ks,o,z⟩:=d;have m:z=[]:=c.rest;subst m;have:=h1 o λq j=>c.items q j;simp[this,e]
theorem aks:eR (o1 pf f x y v so) (o1 qf g x y v so):=by
 unfold o1;cases eX x.af v.ai with
 |none=>exact eR.rfl' _
 |some i=>
  cases eX y.af v.ai with
  |some k=>
   simp only;rcases (F (x.af.getD i aH).aC (v.aw.getD 0 aM) (y.af.getD k aH).aC (so++[v.ai])).two with⟨p,aJ,c⟩|⟨u,w,aJ,c,h1⟩;rw[aJ,c];exact eR.rfl' _
   rw[aJ,c];refine eR.of λd j=>?_;obtain⟨k,b,n,t,i,ks,m,o⟩:=d
   match m with
   |[]=>simp
   |[a]=>
    have:=h1 a (j.items a (by simp));simp[this]
   |a::b::l=>simp
  |none=>
   simp only;split
   . refine eR.of λd j=>?_;have:=j.rest;constructor<;>(intro e;rw[<-e]at this;cases this)
   exact eR.rfl' _
theorem akt:eR (sx f x y v so) (sx g x y v so):=by
 unfold sx;split
 . rcases (AI F (so:=so) (t:=x.aF) (rt:=y.aF) v.aw 0).two with⟨p,aJ,a⟩|⟨u,w,aJ,a,h1⟩
   rw[aJ,a];exact eR.rfl' _
   rw[aJ,a];refine eR.of λd c=>?_;obtain⟨k,b,n,t,i,ks,j,l⟩:=d;have:=h1 j λq e=>c.items q e;simp[this]
 exact eR.rfl' _
theorem akv:eR (sA f x y v so) (sA g x y v so):=by
 unfold sA;rcases (AI F (so:=so) (t:=x.aF) (rt:=y.aF) v.aw 0).two with⟨p,aJ,a⟩|⟨u,w,aJ,a,h1⟩;rw[aJ,a];exact eR.rfl' _
 rw[aJ,a];refine eR.of λd c=>?_;obtain⟨k,b,n,t,i,ks,j,l⟩:=d;have:=h1 j λq e=>c.items q e;simp[this]
theorem aku:eR (sy f x y v so) (sy g x y v so):=by
 unfold sy;split
 . rcases (AI F (so:=so) (t:=x.aR) (rt:=y.aR) v.a7 0).two with⟨p,aJ,a⟩|⟨u,w,aJ,a,h1⟩
   rw[aJ,a];exact eR.rfl' _;rw[aJ,a];simp only[lq];rcases (AI F (so:=so) (t:=x.aF) (rt:=y.aF) v.aw 0).two with⟨p,c3,gH⟩|⟨r,s,c3,gH,j⟩;rw[c3,gH];exact eR.rfl' _
   rw[c3,gH];refine eR.of λd e=>?_;obtain⟨k,b,n,t,i,ks,l,m⟩:=d;have a1:=h1 ks λq c=>e.keys q c;have a2:=j l λq c=>e.items q c;simp[a1,a2]
 exact eR.rfl' _
theorem akw(aI:∀n,n∈y.af->n.bH->fS n.bm):eR (hO pf f x y v so) (hO qf g x y v so):=by
 unfold hO;split;exact eR.rfl' _;split;exact akr F aI;split;exact aks F;split;exact akt F;split;exact aku F;split;exact akv F;exact eR.rfl' _
end
theorem Qh(aI:∀y,y∈tr->∀n,n∈y.af->n.bH->fS n.bm):∀n,SU (en pf tw tr n) (en qf tw tr n)
 |0=>λ_ _ _ _=>eR.rfl' _
 |n+1=>λt v rt so=>by
  rw[xe,xe];refine akw (Qh aI n) λm a b=>?_;by_cases h:rt.toNat<tr.length
  exact aI _ (bA h aN) m a b
  . have e:tr.getD rt.toNat aN=aN:=by simp[show tr.length<=rt.toNat by omega]
    rw[e]at a;cases a
theorem cX.Vo(H:cX ts):∀y,y∈ts->∀n,n∈y.af->n.bH->fS n.bm:=λy al n aI a=>aj5 ((H.T y al).hj n aI) _ (H.D y al n aI a)
section
variable {tw tr:I aj}{t rt:Int}{v:ab}
theorem aep(bU:cX tw)(b5:cX tr)(g:cp v)(c:dj tw true t v)(k:0<=rt)(l:rt<tr.length):Ev ((⟨tw⟩:aT),t,v,(⟨tr⟩:aT),rt)=some 0:=by
 obtain⟨⟨g1,g2,_⟩,_⟩:=(hF _ _ _).1 c;have ex:∀{ts:I aj} {t:Int},cX ts->0<=t->t<ts.length->zU ((⟨ts⟩:aT),t)=some 0:=λ{ts t} H a b=>by
  rw[zU,(wI H.T H.V).1];simp only[aW,ay];have d:¬t<0:=by omega
  have e:¬(ts.length:Int)<=t:=by omega
  rw[cq,au (by simp[d,e])]
 obtain⟨r,i,j⟩:=EV (bU.V.ik bU.T) g t true;have f:=j.2 c;subst f;rw[Ev];simp only[ab.bI];rw[ex bU g1 g2];simp only[aW,ay];rw[cq,ex b5 k l];simp only[ay];rw[cq,rv];simp only[ab.bI];rw[i];rfl
theorem aeq(bU:cX tw)(b5:cX tr)(i:cp v)(d:dj tw true t v)(l:0<=rt)(m:rt<tr.length):DB ((⟨tw⟩:aT),t,v,(⟨tr⟩:aT),rt)=some 0:=by
 obtain⟨⟨g1,g2,_⟩,_⟩:=(hF _ _ _).1 d;have ex:∀{ts:I aj} {t:Int},cX ts->0<=t->t<ts.length->r5 ((⟨ts⟩:aT),t)=some 0:=λ{ts t} H a b=>by
  rw[r5,(wI H.T H.V).2];simp only[aW,ay];have e:¬t<0:=by omega
  have f:¬(ts.length:Int)<=t:=by omega
  rw[cq,au (by simp[e,f])]
 have c:=bU.V.ik bU.T;obtain⟨q,j,k⟩:=EU (by have:=c.n;omega) bU.T c.K i t true;have g:=k.2 d;subst g;rw[DB];simp only[ab.bI];rw[ex bU g1 g2];simp only[aW,ay];rw[cq,ex b5 l m];simp only[ay];rw[cq,pK];simp only[ab.bI];rw[j];rfl
def ke:ab ⊕ az->ab×Int
 |.inl u=>(u,0)
 |.inr _=>(⟨0,false,0,[],0,[],[],[]⟩,12)
noncomputable def iH (pf:Int->ab->aq)(tw tr:I aj)(t:Int)(v:ab)(rt:Int):ab ⊕ az:=en pf tw tr (wt v) t v rt []
theorem VE(bU:cX tw)(e:cp v)(d:dj tw true t v)(f:wt v<=274877906944):hg (fi tw) tw (wt v) t v:=Db bU (λ_ _ a b c=>(KI bU a b c).2) _ e d f (ek _)
theorem VF(bU:cX tw)(d:cp v)(b:dj tw true t v)(e:wt v<=274877906944):hg (bG tw) tw (wt v) t v:=Db bU (λt _ a _ c=>hN (np (bU.V.ik bU.T) a (by omega) t) (by decide)) _ d b e (ek _)
theorem L4(bU:cX tw)(b5:cX tr)(b:cp v)(a:dj tw true t v)(c:wt v<=274877906944)(d:0<=rt)(e:rt<tr.length):wb ((⟨tw⟩:aT),t,v,(⟨tr⟩:aT),rt)=some (ke (iH (fi tw) tw tr t v rt)):=by
 have h:=PE bU b5 (wt v) b c [] a (VE bU b a c) d e (so:=[]) (by simp;omega);rw[wb];simp only[ab.bI];rw[aep bU b5 b a d e];simp only[aW,ay];rw[cq,h];unfold iH;cases en (fi tw) tw tr (wt v) t v rt []<;>rfl
theorem L5(bU:cX tw)(b5:cX tr)(b:cp v)(a:dj tw true t v)(c:wt v<=274877906944)(d:0<=rt)(e:rt<tr.length):zj ((⟨tw⟩:aT),t,v,(⟨tr⟩:aT),rt)=some (ke (iH (bG tw) tw tr t v rt)):=by
 have h:=PI bU b5 (wt v) b c a (VF bU b a c) d e (so:=[]) (by simp;omega);rw[zj];simp only[ab.bI];rw[aeq bU b5 b a d e];simp only[aW,ay];rw[cq,h];unfold iH;cases en (bG tw) tw tr (wt v) t v rt []<;>rfl
theorem ahc(bU:cX tw)(b5:cX tr)(b:cp v)(a:dj tw true t v)(c:wt v<=274877906944)(d:0<=rt)(e:rt<tr.length):cp (ke (iH (fi tw) tw tr t v rt)).1:=by
 cases h:iH (fi tw) tw tr t v rt with
 |inl u=>exact(EJ bU b5 _ b a (VE bU b a c) d e h).1
 |inr p=>exact OJ
theorem ahd(bU:cX tw)(b5:cX tr)(b:cp v)(a:dj tw true t v)(c:wt v<=274877906944)(d:0<=rt)(e:rt<tr.length):cp (ke (iH (bG tw) tw tr t v rt)).1:=by
 cases h:iH (bG tw) tw tr t v rt with
 |inl u=>exact(EJ bU b5 _ b a (VF bU b a c) d e h).1
 |inr p=>exact OJ
theorem Qi(b5:cX tr):(ke (iH (fi tw) tw tr t v rt)).2=(ke (iH (bG tw) tw tr t v rt)).2/\∀y,y∈tr->∀n,n∈y.af->((ke (iH (fi tw) tw tr t v rt)).2=0->di n (ke (iH (fi tw) tw tr t v rt)).1=di n (ke (iH (bG tw) tw tr t v rt)).1):=by
 unfold iH;rcases (Qh (pf:=fi tw) (qf:=bG tw) (tw:=tw) b5.Vo (wt v) t v rt []).two with⟨p,aJ,a⟩|⟨u,w,aJ,a,h⟩;rw[aJ,a];exact⟨rfl,λ_ _ _ _ h=>by cases h⟩;rw[aJ,a];exact⟨rfl,λy al n aI _=>VX (λb=>b5.Vo y al n aI b) h⟩
end
def jr(n:az):Prop:=∀i:Nat,0<=n.getD i 0/\n.getD i 0<=2
def Ga(n c5:az):Prop:=n.length=c5.length/\∀i:Nat,n.getD i 0<=c5.getD i 0
def dX(n:az)(t:Int):Int:=n.getD t.toNat 0
def mD(n:az):I aU->Int->Int
 |[],c=>c
 |m::r,c=>mD n r (c4 2 (c*dX n m.aC))
def j7(n:az):I aU->Int->Int
 |[],c=>c
 |m::r,c=>j7 n r (c+dX n m.aC)
def iy(x:aj)(n:az):Int:=
 if x.ae=2 then(if x.br=x.bB then 1 else 2)else if x.ae=3 then(if x.Max=0 then 1 else 2)else if x.ae=4 then x.bc.length else if x.ae=5 then mD n x.af 1 else if x.ae=6 then j7 n x.af 0 else if x.ae=7 then(if x.Max=0\/dX n x.aF=0 then 1 else 2)else if x.ae=8 then(if x.Max=0\/dX n x.aF=0\/dX n x.aR=0 then 1 else 2)else if x.ae=9 then 1+dX n x.aF else 2
theorem min2(c:Int):c4 2 c<=2/\c4 2 c<=c/\(c4 2 c=2\/c4 2 c=c):=by grind[c4]
theorem jT{n:az}{i:Nat}{c:Int}:(n.set i c).getD j 0=if i=j/\i<n.length then c else n.getD j 0:=by
 grind
section
variable {n c5:az}(h0:jr n)(h1:Ga n c5)
include h0
theorem iZ(t:Int):0<=dX n t/\dX n t<=2:=h0 _
theorem Hn:∀(l:I aU) (c:Int),0<=c/\c<=2->0<=mD n l c/\mD n l c<=2
 |[],c,h=>h
 |m::r,c,h=>Hn r _ (by
  obtain⟨a,b⟩:=iZ h0 m.aC;have:=uZ h.1 a
  grind[c4])
theorem BP:∀(l:I aU) (c:Int),c<=j7 n l c/\j7 n l c<=c+2*l.length
 |[],c=>⟨xp _,by simp[j7]⟩
 |m::r,c=>by
  obtain⟨a,b⟩:=iZ h0 m.aC;obtain⟨e,f⟩:=BP r (c+dX n m.aC);grind[j7]
include h1
theorem yl(t:Int):dX n t<=dX c5 t:=h1.2 _
theorem Vy:∀(l:I aU) (c a:Int),0<=c->c<=a->mD n l c<=mD c5 l a
 |[],c,a,_,h=>h
 |m::r,c,a,b,h=>Vy r _ _ (by
  have:=uZ b (iZ h0 m.aC).1;grind[c4]) (by
  have e:c*dX n _<=a*dX c5 m.aC:=C2 h (yl h0 h1 _) (iZ h0 _).1 (by omega)
  grind[c4])
theorem VW:∀(l:I aU) (c a:Int),c<=a->j7 n l c<=j7 c5 l a
 |[],c,a,h=>h
 |m::r,c,a,h=>VW r _ _ (by have:=yl h0 h1 m.aC;omega)
theorem Ss(x:aj):iy x n<=iy x c5:=by
 have e:=yl h0 h1 x.aF;have k:=yl h0 h1 x.aR;have dp:=(iZ h0 x.aF).1;have a:=(iZ h0 x.aR).1;have p:=Vy h0 h1 x.af 1 1 (by simp) (xp _);have s:=VW h0 h1 x.af 0 0 (xp _);grind[iy]
end
theorem St{n:az}:∀(l:I aU) (c:Int),1<=c->(∀m,m∈l->1<=dX n m.aC)->1<=mD n l c
 |[],c,h,_=>h
 |m::r,c,h,a=>St r _ (by
  have e:=C2 h (a m (by simp)) (by simp) (by omega)
  grind[c4]) λx aa=>a x (by grind)
section
variable {ts:I aj}(H:cX ts){n:az}(aI:n.length=ts.length)(h0:jr n)
include H aI
theorem sX(h:0<=u/\u<ts.length):aE u n.length/\(u.toNat<n.length:J):=by
 grind[aE]
include h0
theorem R1{l:I aU}(ak:l.length<=1000)(e:∀m,m∈l->0<=m.aC/\m.aC<ts.length):∀(k i:Nat) (c:Int),i+k=l.length->0<=c/\c<=2->tB (c,l,(l.length:Int),(i:Int),n)=some (mD n (l.drop i) c,n)
 |0,i,c,g,d=>by
  rw[tB,au (by grind),kx (by omega)];rfl
 |k+1,i,c,g,d=>by
  have aD:i<l.length:=by omega
  obtain⟨a,b⟩:=sX H aI (e _ (bA aD aH));obtain⟨aJ,f⟩:=iZ h0 (l.getD i aH).aC;rw[tB,ah (by grind),ah (aY aD)];simp only[aW,ay,e3];rw[ah a,ah b];have j:fH .i64 c (n.getD (l.getD i aH).aC.toNat 0)=c*dX n (l.getD i aH).aC:=by
   have:=uZ d.1 aJ;have:=C2 d.2 f aJ (by simp);show IntKind.wrap .i64 (c*dX n (l.getD i aH).aC)=_;grind[IntKind.wrap_i64]
  rw[j,bN,R1 ak e k (i+1) _ (by omega) (by
   have:=uZ d.1 aJ
   grind[c4])]
  rw[mz aD];have:l.getD i aH=l[i]:=by grind
  rw[this];rfl
theorem R2{l:I aU}(ak:l.length<=1000)(d:∀m,m∈l->0<=m.aC/\m.aC<ts.length):∀(k i:Nat) (c:Int),i+k=l.length->0<=c/\c<=2*i->tC (c,l,(l.length:Int),(i:Int),n)=some (j7 n (l.drop i) c,n)
 |0,i,c,g,f=>by
  rw[tC,au (by grind),kx (by omega)];rfl
 |k+1,i,c,g,f=>by
  have aD:i<l.length:=by omega
  obtain⟨a,b⟩:=sX H aI (d _ (bA aD _));obtain⟨aJ,e⟩:=iZ h0 (l.getD i aH).aC;unfold dX at aJ e;rw[tC,ah (by grind),ah (aY aD)];simp only[aW,ay,e3];rw[ah a,ah b,qZ,bN,R2 ak d k _ _ (by omega) (by omega)];rw[mz aD];have:l.getD i aH=l[i]:=by grind
  rw[this];rfl
theorem aft(aa:x∈ts):Eu (x,n)=some (iy x n,n):=by
 have d:=H.V.U x aa;have c:∀m,m∈x.af->0<=m.aC/\m.aC<ts.length:=by
  obtain⟨i,g,rfl⟩:=zH.1 aa;intro m c;have:=H.R i g m (by grind);grind
 have ak:=(H.bC x aa).2.2;rw[Eu];unfold iy;by_cases k2:x.ae=2;grind;rw[au (by simpa using k2),au k2];by_cases k3:x.ae=3;grind;rw[au (by simpa using k3),au k3];by_cases k4:x.ae=4;grind;rw[au (by simpa using k4),au k4];by_cases k5:x.ae=5;rw[ah (by simpa using k5),ah k5];have:=R1 H aI h0 (by omega) c x.af.length 0 1 (by omega) (by omega);grind;rw[au (by grind),au k5];by_cases k6:x.ae=6;rw[ah (by simpa using k6),ah k6];have:=R2 H aI h0 (by omega) c x.af.length 0 0 (by omega) (by simp);grind;rw[au (by simpa using k6),au k6];have he:7<=x.ae->aE x.aF n.length/\(x.aF.toNat<n.length:J):=λh=>sX H aI (d _ (by grind[fj]));by_cases k7:x.ae=7;obtain⟨a,b⟩:=he (by omega);rw[ah (by simpa using k7),ah k7];grind[dX,er];rw[au (by grind),au k7];by_cases k8:x.ae=8;obtain⟨a,b⟩:=he (by omega);obtain⟨ca,e⟩:=sX H aI (d x.aR (by grind[fj]));simp only[aW,ay,a,b,ca,e,mC,cl];grind[dX,er];rw[au (by simpa using k8),au k8];by_cases k9:x.ae=9;obtain⟨a,b⟩:=he (by omega);obtain⟨aJ,f⟩:=iZ h0 x.aF;unfold dX at aJ f;rw[ah (by simpa using k9),ah k9,ah a,ah b,qZ];rfl;rw[au (by simpa using k9),au k9]
end
inductive mP (ts:List aj):Int->Prop
 |Vi {t:Int} (ajD:¬(ts.getD t.toNat aN).ae=5) (ajE:¬(ts.getD t.toNat aN).ae=6):mP ts t
 |rc {t:Int} (ajD:(ts.getD t.toNat aN).ae=5) (h:∀m,m∈(ts.getD t.toNat aN).af->mP ts m.aC):mP ts t
 |un {t:Int} {m:aU} (ajE:(ts.getD t.toNat aN).ae=6) (hm:m∈(ts.getD t.toNat aN).af) (h:mP ts m.aC):mP ts t
theorem R3{n:az}(h0:jr n):∀(l:I aU) (c:Int),0<=c->1<=mD n l c->1<=c/\∀m,m∈l->1<=dX n m.aC
 |[],c,_,h=>⟨h,by simp⟩
 |m::r,c,i,h=>by
  have a:=iZ h0 m.aC;have aI:0<=c*dX n m.aC:=uZ i a.1;obtain⟨h1,g⟩:=R3 h0 r (c4 2 (c*dX n m.aC)) (by grind[c4]) h;have b:1<=c*dX n m.aC:=by grind[c4]
  have d:1<=c:=by
   by_cases e:c=0;rw[e,Int.zero_mul]at b;omega;omega
  have f:1<=dX n m.aC:=by
   by_cases e:dX n m.aC=0;rw[e,Int.mul_zero]at b;omega;omega
  exact⟨d,λx aa=>by
   rcases eE.1 aa with rfl|aa;exact f
   . exact g x aa⟩
theorem R4{n:az}:∀(l:I aU) (c:Int),1<=j7 n l c->1<=c\/∃m,m∈l/\1<=dX n m.aC
 |[],c,h=>.inl h
 |m::r,c,h=>by
  rcases R4 r (c+dX n m.aC) h with h1|⟨x,h1,a⟩
  . by_cases e:1<=dX n m.aC
    exact .inr ⟨m,.head _,e⟩;exact .inl (by omega)
  exact .inr ⟨x,.tail _ h1,a⟩
theorem VV{n:az}(h0:jr n):∀{l:I aU} {m:aU} (c:Int),m∈l->0<=c->dX n m.aC<=j7 n l c
 |x::r,m,c,b,d=>by
  have a:=iZ h0 x.aC;rcases eE.1 b with rfl|b;have:=(BP h0 r (c+dX n m.aC)).1;show dX n m.aC<=j7 n r (c+dX n m.aC);omega;exact VV h0 (c+dX n x.aC) b (by omega)
def SS(ts:I aj)(n:az):Prop:=∀j:Nat,j<ts.length->1<=n.getD j 0->mP ts (j:Int)
section
variable {ts:I aj}(H:cX ts)
include H
theorem Qj(aa:x∈ts):1<=x.ae/\x.ae<=9:=by
 rcases H.V.F x aa with h|h|h|h|h|h|h|h|h<;>omega
theorem BQ(aa:x∈ts){m:aU}(a:m∈x.af):0<=m.aC/\m.aC<ts.length:=H.V.U x aa m.aC (by unfold fj;simp;exact .inl ⟨m,a,rfl⟩)
theorem aer{n:az}(h0:jr n)(S:SS ts n){i:Nat}(e:i<ts.length)(h:1<=iy (ts.getD i aN) n):mP ts (i:Int):=by
 have aa:=bA e aN;have up:∀m,m∈(ts.getD i aN).af->1<=dX n m.aC->mP ts m.aC:=λm c h1=>by
  obtain⟨a,b⟩:=BQ H aa c;have:=S m.aC.toNat (by omega) h1;rwa [show((m.aC.toNat:Nat):Int)=m.aC by omega]at this
 by_cases k5:(ts.getD i aN).ae=5
 . unfold iy at h;rw[cb,cb,cb,ah k5]at h;obtain⟨_,d⟩:=R3 h0 _ 1 (by omega) h
   exact .rc (by rw[bQ];exact k5) (λm c=>by
    rw[bQ]at c
    exact up m c (d m c))
 by_cases k6:(ts.getD i aN).ae=6
 . unfold iy at h;rw[cb,cb,cb,au k5,ah k6]at h;rcases R4 _ 0 h with h1|⟨m,h1,d⟩
   omega;exact .un (by rw[bQ];exact k6) (by rw[bQ];exact h1) (up m h1 d)
 exact .Vi (by rw[bQ];exact k5) (by rw[bQ];exact k6)
theorem afu{n:az}(h0:jr n)(aa:x∈ts)(a:¬x.ae=5)(b:¬x.ae=6):1<=iy x n:=by
 have he:=(iZ h0 x.aF).1;have c:x.ae=4->1<=(x.bc.length:Int):=λk=>by
  rcases H.V.F _ aa with h|h|h|h|h|h|h|h|h<;>try omega
  exact Int.ofNat_lt.2 h.2.2.2.2.2.1.1
 grind[iy]
theorem R5{n:az}(h0:jr n):0<=iy x n:=by
 have p:=Hn h0 x.af 1 (by simp);have s:=BP h0 x.af 0;have e:=iZ h0 x.aF;grind[iy]
end
structure yh (ts:List aj)(c:aj->az->Int):Prop where
 ok:∀x,x∈ts->∀n,jr n->0<=c x n/\c x n<=2
 le:∀x,x∈ts->∀n c5,jr n->Ga n c5->c x n<=c x c5
 up:∀x,x∈ts->∀n,jr n->1<=iy x n->1<=c x n
 ah0:∀x,x∈ts->∀n,jr n->1<=c x n->1<=iy x n
def kD(c:aj->az->Int)(ts:I aj):Nat->Nat->az->az
 |0,_,n=>n
 |k+1,i,n=>kD c ts k (i+1) (n.set i (c (ts.getD i aN) n))
structure kL (ts:List aj)(c:aj->az->Int)(n:az):Prop where
 l:n.length=ts.length
 ok:jr n
 le:∀i:Nat,i<ts.length->n.getD i 0<=c (ts.getD i aN) n
 s:SS ts n
def vo(ts:I aj)(c:aj->az->Int)(n:az):Prop:=∀j:Nat,j<ts.length->n.getD j 0=c (ts.getD j aN) n
def iT:az->Int
 |[]=>0
 |a::r=>a+iT r
theorem PJ{n:az}:∀{i:Nat} {c:Int},i<n.length->iT (n.set i c)=iT n-n.getD i 0+c:=by
 induction n with
 |nil=>simp
 |cons a r ih=>
  intro i c h;cases i with
  |zero=>grind[iT]
  |succ i=>grind[iT]
theorem FE{n:az}(h:∀i:Nat,0<=n.getD i 0/\n.getD i 0<=2):0<=iT n/\iT n<=2*n.length:=by
 induction n with
 |nil=>simp[iT]
 |cons a r ih=>
  have:=ih λi=>by simpa using h (i+1)
  have:=h 0;grind[iT]
theorem JM{n:az}{i:Nat}(h:i<n.length):n.set i (n.getD i 0)=n:=by
 refine zw (by simp) λj a b=>?_;rw[List.getElem_set];split
 rename_i e;subst e;rw[fM h];rfl
section
variable {ts:I aj}(H:cX ts){c:aj->az->Int}(R:yh ts c)
include R
theorem Qk{n:az}(ak:n.length=ts.length)(F:vo ts c n):∀(k i:Nat),i+k=ts.length->kD c ts k i n=n
 |0,i,a=>rfl
 |k+1,i,a=>by
  rw[kD,<-F i (by omega),JM (by omega)];exact Qk ak F k (i+1) (by omega)
include H
theorem kL.set{n:az}(bC:kL ts c n){i:Nat}(f:i<ts.length):kL ts c (n.set i (c (ts.getD i aN) n)):=by
 have aa:=bA f aN;have g:=bC.le i f;have ak:=bC.l;have m:=R.ok _ aa n bC.ok;have p:1<=c (ts.getD i aN) n->mP ts (i:Int):=λh=>aer H bC.ok bC.s f (R.ah0 _ aa n bC.ok h);generalize o:c (ts.getD i aN) n=v at*;have ok:jr (n.set i v):=λj=>by
  have:=bC.ok j;rw[jT];split<;>omega
 have le:Ga n (n.set i v):=⟨by simp,λj=>by
  rw[jT];split;rename_i h;rw[<-h.1];exact g
  . exact xp _⟩
 refine⟨by simp[ak],ok,λj a=>?_,λj a h=>?_⟩
 . have:=R.le _ (bA a aN) n _ bC.ok le;rw[jT];split
   rename_i h;have e:=h.1;subst e;rw[o]at this;exact this;exact Int.le_trans (bC.le j a) this
 . rw[jT]at h;split at h
   rename_i e;rw[<-e.1];exact p h;exact bC.s j a h
theorem Fx:∀(k i:Nat) {n:az},i+k=ts.length->kL ts c n->kL ts c (kD c ts k i n)/\iT n<=iT (kD c ts k i n)/\(iT (kD c ts k i n)<=iT n->kD c ts k i n=n/\∀j,i<=j->j<ts.length->n.getD j 0=c (ts.getD j aN) n)
 |0,i,n,m,bC=>⟨bC,xp _,λ_=>⟨rfl,λj a b=>by omega⟩⟩
 |k+1,i,n,m,bC=>by
  have aD:i<ts.length:=by omega
  have hs:=PJ (n:=n) (i:=i) (c:=c (ts.getD i aN) n) (by rw[bC.l];exact aD);have p:=bC.le i aD;obtain⟨a,b,d⟩:=Fx k (i+1) (by omega) (bC.set H R aD);rw[kD];refine⟨a,by omega,λh=>?_⟩;have e:n.getD i 0=c (ts.getD i aN) n:=by omega
  have f:n.set i (c (ts.getD i aN) n)=n:=by rw[<-e];exact JM (by rw[bC.l];exact aD)
  rw[f]at d h⊢;obtain⟨d1,d2⟩:=d h
  exact⟨d1,λj h1 g=>by
   by_cases o:j=i;rw[o];exact e
   . exact d2 j (by omega) g⟩
theorem full{n:az}(bC:kL ts c n)(F:vo ts c n)(h:mP ts t):0<=t->t<ts.length->1<=dX n t:=by
 induction h with
 | @Vi t d e=>
  intro t0 t1;have a:t.toNat<ts.length:=by omega
  have aa:=bA a aN;unfold dX;rw[F _ a];exact R.up _ aa _ bC.ok (afu H bC.ok aa d e)
 | @rc t d h ih=>
  intro t0 t1;have a:t.toNat<ts.length:=by omega
  have aa:=bA a aN;unfold dX;rw[F _ a];refine R.up _ aa _ bC.ok ?_;unfold iy;rw[cb,cb,cb,ah d];exact St _ 1 (by omega) λm b=>ih m b (BQ H aa b).1 (BQ H aa b).2
 | @un t m e b h ih=>
  intro t0 t1;have a:t.toNat<ts.length:=by omega
  have aa:=bA a aN;have:=ih (BQ H aa b).1 (BQ H aa b).2;unfold dX;rw[F _ a];refine R.up _ aa _ bC.ok ?_;unfold iy;rw[cb,cb,cb,cb,ah e];exact Int.le_trans this (VV bC.ok 0 b (by omega))
omit R in
theorem FF(R:yh ts c):kL ts c (List.replicate ts.length 0):=by
 have a:∀i,(List.replicate ts.length (0:Int)).getD i 0=0:=λi=>by grind
 have h0:jr (List.replicate ts.length 0):=λi=>by grind
 refine⟨by simp,h0,λi b=>?_,λj d h=>?_⟩;rw[a];exact(R.ok _ (bA b aN) _ h0).1;rw[a]at h;omega
end
def j5(x:aj)(n:az):Int:=c4 2 (iy x n)
section
variable {ts:I aj}(H:cX ts)
include H
theorem xP:yh ts j5:=by
 refine⟨λx _ n h0=>?_,λx _ n c5 h0 h1=>?_,λx _ n h0 h=>?_,λx _ n h0 h=>?_⟩;have:=R5 H h0 (x:=x);grind[j5,c4];have:=Ss h0 h1 x;grind[j5,c4];grind[j5,c4];grind[j5,c4]
theorem I2:∀(k i:Nat) (a:J) {n:az},i+k=ts.length->kL ts j5 n->∃b,pE (a,ts,(ts.length:Int),(i:Int),ts,n)=some (b,ts,kD j5 ts k i n)/\(b=false->a=false/\kD j5 ts k i n=n)/\(b=true->a=true\/iT n+1<=iT (kD j5 ts k i n))
 |0,i,a,n,f,bC=>⟨a,by rw[pE,dC];rfl,λh=>⟨h,rfl⟩,.inl⟩
 |k+1,i,a,n,f,bC=>by
  have aD:i<ts.length:=by omega
  have m:=bC.l;have g:=H.CQ;have aa:=bA aD aN;have e:=bC.set H (xP H) aD;have j:=bC.le i aD;have hs:=PJ (n:=n) (i:=i) (c:=j5 (ts.getD i aN) n) (by omega);rw[pE,cJ,ah (aY aD)];simp only[e3];rw[aft H bC.l bC.ok aa];simp only[aW,ay];rw[j1,ah (fU),cJ,bN];show ∃b,(if !(j5 (ts.getD i aN) n=n.getD i 0:J) then _ else _)=_/\_;rw[kD];by_cases he:j5 (ts.getD i aN) n=n.getD i 0
  . rw[au (by simp only[he,dS];simp)];have d:n.set i (j5 (ts.getD i aN) n)=n:=by rw[he];exact JM (by omega)
    rw[d];exact I2 k (i+1) a (by omega) bC
  rw[ah (by simp only[he,ee];rfl),ah (fU),cJ];obtain⟨b,aJ,d,c3⟩:=I2 k (i+1) true (by omega) e;obtain⟨_,q,_⟩:=Fx H (xP H) k (i+1) (by omega) e;exact⟨b,aJ,λh=>absurd (d h).1 (by simp),λ_=>.inr (by omega)⟩
theorem M6:∀(f:Nat) {n:az},kL ts j5 n->(2*ts.length:Int)-iT n<f->∃c5,tl (true,ts,n)=some c5/\kL ts j5 c5/\vo ts j5 c5
 |0,n,bC,g=>by
  have:=(FE bC.ok).2;have:=bC.l;omega
 |f+1,n,bC,g=>by
  obtain⟨b,aJ,c,c3⟩:=I2 H ts.length 0 false (by simp) bC;obtain⟨k,m,a⟩:=Fx H (xP H) ts.length 0 (by simp) bC;have aJ:pE (false,ts,ts.length,0,ts,n)=_:=aJ;rw[tl,ah rfl,aJ];simp only[aW,ay];cases b with
  |true=>
   have:=(c3 rfl).resolve_left (by simp);exact M6 f k (by omega)
  |false=>
   obtain⟨_,e⟩:=c rfl;rw[e]at a⊢;obtain⟨_,d⟩:=a (xp _);exact⟨n,by rw[tl,cq],bC,λj i=>d j (iD _) i⟩
theorem Ql{n:az}(aI:n.length=ts.length)(h0:jr n)(aa:x∈ts)(e:∀m,m∈x.af->0<=m.aC/\m.aC<ts.length):∀(k i:Nat) (c:Int),i+k=x.af.length->0<=c/\c<=2->rk (c,(i:Int),n,x)=some (mD n (x.af.drop i) c,n)
 |0,i,c,g,d=>by
  rw[rk,au (by grind),kx (by omega)];rfl
 |k+1,i,c,g,d=>by
  have aD:i<x.af.length:=by omega
  have ak:=(H.bC x aa).2.2;obtain⟨a,b⟩:=sX H aI (e _ (bA aD aH));obtain⟨aJ,f⟩:=iZ h0 (x.af.getD i aH).aC;rw[rk,ah (by grind),ah (aY aD)];simp only[aW,ay,e3];rw[ah a,ah b];have j:fH .i64 c (n.getD (x.af.getD i aH).aC.toNat 0)=c*dX n (x.af.getD i aH).aC:=by
   have:=uZ d.1 aJ;have:=C2 d.2 f aJ (by simp);show IntKind.wrap .i64 (c*dX n (x.af.getD i aH).aC)=_;grind[IntKind.wrap_i64]
  rw[j,bN,Ql aI h0 aa e k (i+1) _ (by omega) (by
   have:=uZ d.1 aJ
   grind[c4])]
  rw[mz aD];have:x.af.getD i aH=x.af[i]:=by grind
  rw[this];rfl
theorem Qm{n:az}(aI:n.length=ts.length)(h0:jr n)(aa:x∈ts)(d:∀m,m∈x.af->0<=m.aC/\m.aC<ts.length):∀(k i:Nat) (c:Int),i+k=x.af.length->0<=c/\c<=2->rl (c,(i:Int),n,x)=some (c4 2 (j7 n (x.af.drop i) c),n)
 |0,i,c,g,f=>by
  rw[rl,au (by grind),kx (by omega)];grind[c4,j7]
 |k+1,i,c,g,f=>by
  have aD:i<x.af.length:=by omega
  have ak:=(H.bC x aa).2.2;obtain⟨a,b⟩:=sX H aI (d _ (bA aD aH));obtain⟨aJ,e⟩:=iZ h0 (x.af.getD i aH).aC;unfold dX at aJ e;rw[rl,ah (by grind),ah (aY aD)];simp only[aW,ay,e3];have m:=min2 (c+n.getD (x.af.getD i aH).aC.toNat 0);rw[ah a,ah b,qZ,bN,Qm aI h0 aa d k (i+1) _ (by omega) (by omega)];rw[mz aD];have:x.af.getD i aH=x.af[i]:=by grind
  rw[this];have s1:=(BP h0 (x.af.drop (i+1)) (c4 2 (c+dX n x.af[i].aC))).1;have j:=(BP h0 (x.af.drop (i+1)) (c+dX n x.af[i].aC)).1;show some (c4 2 (j7 n (x.af.drop (i+1)) (c4 2 (c+dX n x.af[i].aC))),n)=some (c4 2 (j7 n (x.af.drop (i+1)) _),n);grind[min2,c4]
def lj(x:aj)(n:az):Int:=if x.ae=8 then(if x.Max=0\/dX n x.aF=0 then 1 else 2)else c4 2 (iy x n)
theorem aes{n:az}(aI:n.length=ts.length)(h0:jr n)(aa:x∈ts):DA (x,n)=some (lj x n,n):=by
 have g:=H.V.U x aa;have c:∀m,m∈x.af->0<=m.aC/\m.aC<ts.length:=by
  obtain⟨i,d,rfl⟩:=zH.1 aa;intro m c;have:=H.R i d m (by simpa[List.getD,e0 d]using c);exact⟨this.1,this.2.1⟩
 have j:c4 2 1=1:=rfl;have k:c4 2 2=2:=rfl;rw[DA];unfold lj iy;by_cases k2:x.ae=2;grind;rw[au (by simpa using k2),au k2];by_cases k3:x.ae=3;grind;rw[au (by simpa using k3),au k3];by_cases k4:x.ae=4;grind;rw[au (by grind),au k4];by_cases k5:x.ae=5;rw[ah (by simpa using k5),au (show ¬x.ae=8 by omega),ah k5];have e:rk (1,0,n,x)=_:=Ql H aI h0 aa c x.af.length 0 1 (by omega) (by omega);have p:=Hn h0 x.af 1 (by omega);have:c4 2 (mD n x.af 1)=mD n x.af 1:=(by grind[c4]);grind;rw[au (by grind),au k5];by_cases k6:x.ae=6;rw[ah (by simpa using k6),au (show ¬x.ae=8 by omega),ah k6];have e:rl (0,0,n,x)=_:=Qm H aI h0 aa c x.af.length 0 0 (by omega) (by simp);rw[e,eZ];rfl;rw[au (by grind),au k6];have he:7<=x.ae->aE x.aF n.length/\(x.aF.toNat<n.length:J):=λh=>sX H aI (g _ (by unfold fj;simp[h]));simp only[aW,ay];by_cases k7:x.ae=7;obtain⟨a,b⟩:=he (by omega);simp only[a,b,mC,cl];grind[dX,er];rw[au (by grind),au k7];by_cases k8:x.ae=8;obtain⟨a,b⟩:=he (by omega);grind[dX,er];rw[au (by simpa using k8),au k8,au k8];by_cases k9:x.ae=9;obtain⟨a,b⟩:=he (by omega);obtain⟨aJ,f⟩:=iZ h0 x.aF;unfold dX at aJ f;rw[ah (by grind),ah k9,ah a,ah b,qZ];rfl;grind
theorem xQ:yh ts lj:=by
 refine⟨λx _ n h0=>?_,λx _ n c5 h0 h1=>?_,λx _ n h0 h=>?_,λx _ n h0 h=>?_⟩;have:=R5 H h0 (x:=x);grind[lj,c4];have:=Ss h0 h1 x;have e:=yl h0 h1 x.aF;have dp:=(iZ h0 x.aF).1;grind[lj,c4];grind[lj,c4];have dp:=(iZ h0 x.aF).1;grind[lj,c4,iy]
theorem L6(rd:Int):∀(k i:Nat) {n:az},i+k=ts.length->kL ts lj n->q8 (rd,(i:Int),ts,n)=some (rd,ts,kD lj ts k i n)
 |0,i,n,a,bC=>by rw[q8,dC];rfl
 |k+1,i,n,a,bC=>by
  have aD:i<ts.length:=by omega
  have b:=H.CQ;have c:=bC.l;rw[q8,cJ,ah (aY aD)];simp only[e3];rw[aes H bC.l bC.ok (bA aD aN)];simp only[aW,ay];rw[j1,ah (fU),cJ,bN,kD];exact L6 rd k (i+1) (by omega) (bC.set H (xQ H) aD)
theorem L7:∀(k r:Nat) {n:az},r+k=2*ts.length+1->kL ts lj n->vo ts lj n\/(r:Int)<=iT n->∃c5,rb ((r:Int),ts,n)=some c5/\kL ts lj c5/\vo ts lj c5
 |0,r,n,d,bC,h=>by
  have b:=H.CQ;have a:fH .i64 2 (ts.length:Int)=2*ts.length:=by
   show IntKind.wrap .i64 (2*(ts.length:Int))=_;grind[IntKind.wrap_i64]
  have:=(FE bC.ok).2;have:=bC.l;refine⟨n,by rw[rb,a,dC],bC,h.resolve_right (by omega)⟩
 |k+1,r,n,d,bC,h=>by
  have b:=H.CQ;have a:fH .i64 2 (ts.length:Int)=2*ts.length:=by
   show IntKind.wrap .i64 (2*(ts.length:Int))=_;grind[IntKind.wrap_i64]
  have aJ:q8 (r,0,ts,n)=_:=L6 H r ts.length 0 (by simp) bC;obtain⟨e,g,f⟩:=Fx H (xQ H) ts.length 0 (by simp) bC;rw[rb,a,cJ,aJ];simp only[aW,ay];rw[bN];refine L7 k (r+1) (by omega) e ?_;rcases h with h|h
  rw[Qk (xQ H) bC.l h ts.length 0 (by simp)];exact .inl h
  . by_cases hs:iT (kD lj ts ts.length 0 n)<=iT n
    obtain⟨d1,d2⟩:=f hs;rw[d1];exact .inl λj c=>d2 j (iD _) c;exact .inr (by omega)
end
def gz(n:az):I J:=n.map λa=>(0<a:J)
theorem NI{n:az}(ak:n.length<=1000):∀(k i:Nat),i+k=n.length->r3 (n,(n.length:Int),(i:Int),(gz n).take i)=some (gz n)
 |0,i,a=>by rw[r3,dC,sq (by simp[gz];omega)]
 |k+1,i,a=>by
  have aD:i<n.length:=by omega
  have e:(gz n).take i++[(0<n.getD i 0:J)]=(gz n).take (i+1):=by
   unfold gz;rw[List.take_succ];simp[aD]
  rw[r3,cJ,ah (aY aD)];simp only[aW,ay,e3];rw[e,ah (ef (by simp)),bN];exact NI ak k _ (by omega)
theorem M7{n:az}(ak:n.length<=1000):∀(k i:Nat),i+k=n.length->re (n,(i:Int),(gz n).take i)=some (gz n)
 |0,i,a=>by rw[re,dC,sq (by simp[gz];omega)]
 |k+1,i,a=>by
  have aD:i<n.length:=by omega
  have e:(gz n).take i++[(0<n.getD i 0:J)]=(gz n).take (i+1):=by
   unfold gz;rw[List.take_succ];simp[aD]
  rw[re,cJ,ah (aY aD)];simp only[aW,ay,e3];rw[e,ah (ef (by simp)),bN];exact M7 ak k _ (by omega)
theorem PK{l:I J}(ak:l.length<=1000):∀(k i:Nat),i+k=l.length->r7 (l,(l.length:Int),(i:Int))=some (if(l.drop i).all (λb=>b) then .inr ()else .inl 10)
 |0,i,c=>by rw[r7,dC,kx (by omega)];rfl
 |k+1,i,c=>by
  have aD:i<l.length:=by omega
  rw[r7,cJ,ah (aY aD),e6 aD false,kB];simp only[e3];by_cases a:l.getD i false=true;simp only[a,dc,cx,cF,ig];rw[bN,PK ak k (i+1) (by omega)];have b:l.getD i false=false:=(by simpa using a);simp only[b,eL,cl,zz,cx,cF]
theorem NJ{l:I J}(ak:l.length<=1000):∀(k i:Nat),i+k=l.length->rm (l,(i:Int))=some (if(l.drop i).all (λb=>b) then .inr ()else .inl 10)
 |0,i,c=>by rw[rm,dC,kx (by omega)];rfl
 |k+1,i,c=>by
  have aD:i<l.length:=by omega
  rw[rm,cJ,ah (aY aD),e6 aD false,kB];simp only[e3];by_cases a:l.getD i false=true;simp only[a,dc,cx,cF,ig];rw[bN,NJ ak k (i+1) (by omega)];have b:l.getD i false=false:=(by simpa using a);simp only[b,eL,cl,zz,cx,cF]
theorem PL{ts:I aj}(S:kf ts){ms:I aU}(d:∀m,m∈ms->cp m.bm)(ak:ms.length<=1000)(a b c:Int)(g:I aj):
 ∀(k i:Nat),i+k=ms.length->(oI (a,g,b,c,ms,(ms.length:Int),(i:Int),ts)=some (.inr (g,b,c,ts))/\jy ts (ms.drop i))\/(∃e,oI (a,g,b,c,ms,(ms.length:Int),(i:Int),ts)=some (.inl (a,e,1))/\¬jy ts (ms.drop i))
 |0,i,l=> .inl ⟨by rw [oI,dC],by
  rw[fx (by omega:ms.length<=i)]
  intro m d;cases d⟩
 |k+1,i,l=>by
  have aD:i<ms.length:=by omega
  have n:=bA aD aH;obtain⟨r,o,p⟩:=EV S (d _ n) (ms.getD i aH).aC true;rw[oI,cJ,ah (aY aD)];simp only[aW,ay,bQ,ab.bI,rv];rw[o];have ih:=PL S d ak a b c g k (i+1) (by omega);rw[e6 aD aH];have j:jy ts (ms.getD i aH::ms.drop (i+1))↔((ms.getD i aH).bH->dj ts true (ms.getD i aH).aC (ms.getD i aH).bm)/\jy ts (ms.drop (i+1)):=by
   unfold jy;constructor;intro h;exact⟨h _ (.head _),λm d=>h m (.tail _ d)⟩
   . rintro ⟨h1,f⟩ m d
     rcases eE.1 d with rfl|d;exact h1;exact f m d
  rw[j,<-p];cases q:(ms.getD i aH).bH with
  |false=>
   simp only[cx,cF,ay,et];rw[bN];rcases ih with⟨h1,f⟩|⟨e,h1,f⟩;exact .inl ⟨h1,λh=>h.elim,f⟩;exact .inr ⟨e,h1,λh=>f h.2⟩
  |true=>
   cases r with
   |true=>
    simp only[cl,ay,fh,dc,cx,cF];rw[bN];rcases ih with⟨h1,f⟩|⟨e,h1,f⟩;exact .inl ⟨h1,λ_=>trivial,f⟩;exact .inr ⟨e,h1,λh=>f h.2⟩
   |false=>
    simp only[cl,ay,fh,eL];exact .inr ⟨_,rfl,λh=>absurd (h.1 trivial) (by simp)⟩
theorem PM{ts:I aj}(S:kf ts)(d:∀t,t∈ts->t.af.length<=1000):
 ∀(k i:Nat),i+k=ts.length->(oP (ts,(ts.length:Int),(i:Int),ts)=some (.inr ())/\∀t,t∈ts.drop i->jy ts t.af)\/(∃a e,oP (ts,(ts.length:Int),(i:Int),ts)=some (.inl (a,e,1))/\¬∀t,t∈ts.drop i->jy ts t.af)
 |0,i,g=>.inl ⟨by rw[oP,dC],by grind⟩
 |k+1,i,g=>by
  have aD:i<ts.length:=by omega
  have f:=bA aD aN;have aI:=S.n;have h0:=PL S (S.T _ f).hj (d _ f) (i:Int) (ts.length:Int) (i:Int) ts (ts.getD i aN).af.length 0 (by omega);simp only[eZ]at h0;have ih:=PM S d k (i+1) (by omega);rw[e6 aD aN,oP,cJ,ah (aY aD)];simp only[bQ,aW,ay];rcases h0 with⟨h1,c⟩|⟨e,h1,c⟩
  . have b:oI ((i:Int),ts,(ts.length:Int),(i:Int),(ts.getD i aN).af,((ts.getD i aN).af.length:Int),0,ts)=_:=h1;rw[b];simp only[ay];rw[bN];rcases ih with⟨g1,g2⟩|⟨a,e,g1,g2⟩
    . refine .inl ⟨g1,λt ht=>?_⟩;rcases eE.1 ht with rfl|ht
      exact c;exact g2 t ht
    exact .inr ⟨a,e,g1,λh=>g2 λt ht=>h t (.tail _ ht)⟩
  have b:oI ((i:Int),ts,(ts.length:Int),(i:Int),(ts.getD i aN).af,((ts.getD i aN).af.length:Int),0,ts)=_:=h1;rw[b];exact .inr ⟨_,_,rfl,λh=>c (h _ (.head _))⟩
theorem PN{c:aj->az->Int}(H:cX ts)(R:yh ts c){n:az}(bC:kL ts c n)(F:vo ts c n):(gz n).all (λb=>b)↔∀t:Int,0<=t->t<ts.length->mP ts t:=by
 have ak:=bC.l;unfold gz;rw[List.all_map,gk];constructor
 . intro h t t0 t1;have b:t.toNat<n.length:=(by omega);have h1:=h _ (bA b 0);have h1:(0<n.getD t.toNat 0:J):=h1;have:=bC.s t.toNat (by omega) (by have:=gU h1;omega)
   rwa [show((t.toNat:Nat):Int)=t by omega]at this
 intro h a d;obtain⟨j,b,rfl⟩:=gT d;have:=full H R bC F (h (j:Int) (by omega) (by omega)) (by omega) (by omega);unfold dX at this;rw[e3]at this;show (0<n[j]:J)=true;rw[<-fM b 0];exact h3 (by omega)
theorem acZ(hs:ts.length<=1000)(dw:∀t,t∈ts->e5 t)(dJ:∀t,t∈ts->∀m,m∈t.af->m.bH->wt m.bm<=2097152):
 ∃e f,se (⟨ts⟩:aT)=some e/\tx (⟨ts⟩:aT)=some f/\(e=0↔f=0)/\(e=0->cX ts):=by
 obtain⟨e,v1,v2,v3,v4,_⟩:=MR (s:=⟨ts⟩) (by show ts.length<=_;unfold reachBytes;omega) dw;by_cases h0:e=0
 . subst h0;have iQ:pe ts:=ag4 dw (v3 rfl).1 (v3 rfl).2;have S:=iQ.ik dw;have C:∀t,t∈ts->t.af.length<=1000:=λt ht=>by
    have:=iQ.F t ht;rcases this with h|h|h|h|h|h|h|h|h;simp[h.2.2.2.2.2.2.1];simp[h.2.2.2.2.2.1];simp[h.2.2.2.2.2.2.1];simp[h.2.2.2.2.2.2.1];exact hN h.2.2.2.2.2.2.1.2.2.2.2.2 (by decide);exact hN h.2.2.2.2.2.2.1.2.2.2.2.2 (by decide);simp[h.2.2.2.2.2.2.1];simp[h.2.2.2.2.2.2.1];simp[h.2.2.2.2.2.2.1]
   obtain⟨r,D,d⟩:=ac8 (s:=⟨ts⟩) (by show ts.length<=_;unfold reachBytes;omega) dw v2 (λ_=>iQ);have p:=PM S C ts.length 0 (by omega);rw[eZ]at p;have ar:∃q,z' (⟨ts⟩:aT)=some q/\(q=0↔∀t,t∈ts->jy ts t.af):=by
    rw[z',v1];simp only[aW,ay];rw[cq,H5,v1];simp only[aW,ay];rw[cq];rcases p with⟨i,k⟩|⟨a,q,i,k⟩;have j:oP (ts,(ts.length:Int),0,ts)=_:=i;rw[j];exact⟨0,rfl,λ_=>k,λ_=>rfl⟩;have j:oP (ts,(ts.length:Int),0,ts)=_:=i;rw[j];exact⟨1,rfl,λh=>absurd h (by decide),λh=>absurd h k⟩
   obtain⟨q,w,x⟩:=ar;have v:y7 (⟨ts⟩:aT)=some r.2.2:=by
    rw[y7,v2];simp only[aW,ay];rw[cq,D];rfl
   have d:=d rfl;by_cases b:q=0
   . have u:=x.1 b;have c:r.2.2=0:=d.2 u;have H:cX ts:=⟨dw,iQ,u,dJ⟩
     obtain⟨n,y,o,z⟩:=M6 H (2*ts.length+1) (FF H (xP H)) (by
      have:=(FE (FF H (xP H)).ok).1;omega)
     obtain⟨m,d1,d2,d3⟩:=L7 H (2*ts.length+1) 0 (by omega) (FF H (xQ H)) (.inr (by
      have:=(FE (FF H (xQ H)).ok).1;omega))
     have d1:rb (0,ts,List.replicate ts.length 0)=_:=d1;have A:Ej (⟨ts⟩:aT)=some n:=by
      rw[Ej];simp only[aW,ay,e3];rw[ah (JS.2 ⟨by simp,by grind[hD],by grind[dB]⟩),y];rfl
     have B:Du (⟨ts⟩:aT)=some m:=by
      rw[Du];simp only[aW,ay,e3];rw[ah (JS.2 ⟨by simp,by grind[hD],by grind[dB]⟩),d1];rfl
     have G:=o.l;have E:=d2.l;have f1:r3 (n,(n.length:Int),0,[])=_:=NI (n:=n) (by omega) n.length 0 (by simp);have f2:r7 (gz n,((gz n).length:Int),0)=_:=PK (l:=gz n) (by simp[gz];omega) (gz n).length 0 (by simp);have g1:re (m,0,[])=_:=M7 (n:=m) (by omega) m.length 0 (by simp);have g2:rm (gz m,0)=_:=NJ (l:=gz m) (by simp[gz];omega) (gz m).length 0 (by simp);rw[eZ]at f2 g2;have a1:=PN H (xP H) o z;have a2:=PN H (xQ H) d2 d3;refine⟨if(gz n).all (λb=>b) then 0 else 10,if(gz m).all (λb=>b) then 0 else 10,?_,?_,?_,λ_=>H⟩
     . rw[se,zS,w,b];simp only[aW,ay];rw[cq,A];simp only[ay];rw[f1];simp only[ay];rw[cq,f2];by_cases h:(gz n).all (λb=>b)=true
       rw[ah h,ah h];rfl;rw[au h,au h];rfl
     . rw[tx,zn,v,c];simp only[aW,ay];rw[cq,B];simp only[ay];rw[g1];simp only[ay];rw[cq,g2];by_cases h:(gz m).all (λb=>b)=true
       rw[ah h,ah h];rfl;rw[au h,au h];rfl
     . by_cases h:(gz n).all (λb=>b)=true
       rw[ah h,ah (a2.2 (a1.1 h))];rw[au h,au λg=>h (a1.2 (a2.1 g))]
   . have c:¬r.2.2=0:=λh=>b (x.2 (d.1 h));refine⟨q,r.2.2,?_,?_,⟨λh=>absurd h b,λh=>absurd h c⟩,λh=>absurd h b⟩
     rw[se,zS,w];simp only[aW,ay];rw[ah (by simp[b])];simp only[ay];rw[ah (by simp[b])];rw[tx,zn,v];simp only[aW,ay];rw[ah (by simp[c])];simp only[ay];rw[ah (by simp[c])]
 . refine⟨e,e,?_,?_,jF,λh=>absurd h h0⟩
   rw[se,zS,z',v1];simp only[aW,ay];rw[ah (by simp[h0])];simp only[ay];rw[ah (by simp[h0])];simp only[ay];rw[ah (by simp[h0])];rw[tx,zn,y7,v2];simp only[aW,ay];rw[ah (by simp[h0])];simp only[ay];rw[ah (by simp[h0])];simp only[ay];rw[ah (by simp[h0])]
abbrev ty(ts:I aj)(t:Int):aj:=ts.getD t.toNat aN
def hc(y:aj)(id:Int):J:=y.bc.any λs=>(s.ai=id:J)
theorem akG(h:y.bc.length<=1000)(id:Int):∃a,sd (y,id)=some (a,hc y id)/\pG (y,id)=some (a,hc y id):=by
 obtain⟨r,h1,c,b⟩:=rz (t:=y) id (by omega);have:r.2=hc y id:=by
  rcases b with⟨j,a1,a2,a3,rfl⟩|⟨a1,rfl⟩;exact(su.2 ⟨_,bA a1 dV,by grind⟩).symm;refine(List.any_eq_false.2 λx aa=>?_).symm;grind[List.mem_iff_getElem]
 grind
theorem y1(h:y.af.length<=1000)(id:Int):gO (y,id)=some (kt y.af id)/\gD (y,id)=some (kt y.af id):=⟨Aq h id,BG h id⟩
theorem BR(l:I aU)(id:Int):kt l id=match eX l id with
 |some j=>((j:Int),true)
 |none=>(0,false):=rfl
def vC(x y:aj):J:=(x.bc.all λs=>hc y s.ai)&&(x.af.all λm=>(eX y.af m.ai).isSome)
section
variable {x y:aj}(aa:x.bc.length<=1000/\x.af.length<=1000)(al:y.bc.length<=1000/\y.af.length<=1000)
include aa al
theorem KJ:∀(k i:Nat),i+k=x.bc.length->((x.bc.drop i).all λs=>hc y s.ai)/\rn (x.bc,(x.bc.length:Int),(i:Int),x,y)=some (.inr (x,y))/\r0 ((i:Int),x,y)=some (.inr (x,y))\/
 ((x.bc.drop i).all λs=>hc y s.ai)=false/\rn (x.bc,(x.bc.length:Int),(i:Int),x,y)=some (.inl false)/\r0 ((i:Int),x,y)=some (.inl false)
 |0,i,b=>.inl ⟨by grind,by simp_all[rn,au],by simp_all[r0,au]⟩
 |k+1,i,b=>by
  have aD:i<x.bc.length:=by omega
  obtain⟨a,s1,c⟩:=akG al.1 _;have e:x.bc.drop i=x.bc.getD i dV::x.bc.drop (i+1):=by
   simp_all
  rw[rn,ah (by grind),ah (aY aD),r0,ah (by grind),ah (aY aD)];simp only[aW,e3];rw[s1,c,e,kB];cases d:hc y _ with
  |false=>simp
  |true=>
   rw[bN];exact KJ k (i+1) (by omega)
theorem KK:∀(k i:Nat),i+k=x.af.length->((x.af.drop i).all λm=>(eX y.af m.ai).isSome)/\rp (x.af,(x.af.length:Int),(i:Int),y)=some (.inr ())/\r1 ((i:Int),x,y)=some (.inr ())\/
 ((x.af.drop i).all λm=>(eX y.af m.ai).isSome)=false/\rp (x.af,(x.af.length:Int),(i:Int),y)=some (.inl false)/\r1 ((i:Int),x,y)=some (.inl false)
 |0,i,a=>.inl ⟨by grind,by simp_all[rp,au],by simp_all[r1,au]⟩
 |k+1,i,a=>by
  have aD:i<x.af.length:=by omega
  obtain⟨s1,b⟩:=y1 al.2 _;have e:x.af.drop i=x.af.getD i aH::x.af.drop (i+1):=by
   simp_all
  rw[rp,ah (by grind),ah (aY aD),r1,ah (by grind),ah (aY aD)];simp only[aW,e3];rw[s1,b,e,kB,BR];cases c:eX y.af _ with
  |none=>simp
  |some j=>
   rw[bN];exact KK k (i+1) (by omega)
theorem ags:uC (x,y)=some (vC x y):=by
 have a:=KJ aa al x.bc.length 0 (by simp);have b:=KK aa al x.af.length 0 (by simp);grind[uC,vC]
theorem agt:Am (x,y)=some (y.bt||vC x y):=by
 have a:=KJ aa al x.bc.length 0 (by simp);have b:=KK aa al x.af.length 0 (by simp);grind[Am,vC]
end
noncomputable def kX (tw tr:I aj)(f g:aU):ab×Int:=ke (iH (fi tw) tw tr f.aC f.bm g.aC)
noncomputable def GW (tw tr:I aj)(f g:aU):Int:=if f.bH then(if g.bH then(if(kX tw tr f g).2=0/\di g (kX tw tr f g).1=true then 0 else 10)else 7)else 0
noncomputable def my (tw tr:I aj)(x:aj)(g:aU):Int:=match eX x.af g.ai with
 |none=>if g.bH then 0 else 7
 |some i=>GW tw tr (x.af.getD i aH) g
def gC{α:Type}(f:α->Int):I α->Int
 |[]=>0
 |a::l=>if f a=0 then gC f l else f a
theorem aet{f:α->Int}{a:α}{l:I α}{c:Int}(h:f a=c)(b:c≠0):gC f (a::l)=c:=by
 subst h;exact au b
theorem NK{f:α->Int}{a:α}{l:I α}(h:f a=0):gC f (a::l)=gC f l:=ah h
def fw(y:aj)(f:aU):Int:=if(eX y.af f.ai).isNone=true/\f.b4=true then 6 else 0
section
variable {tw tr:I aj}(bU:cX tw)(b5:cX tr)
include bU b5
theorem agu(aa:x∈tw)(al:y∈tr){f g:aU}(m:f∈x.af)(av:g∈y.af)(n:f.bH)(he:g.bH):
 wb ((⟨tw⟩:aT),f.aC,f.bm,(⟨tr⟩:aT),g.aC)=some (kX tw tr f g)/\(∃b,nh ((kX tw tr f g).1,g.bm)=some b/\b=di g (kX tw tr f g).1)/\DC ((⟨tw⟩:aT),f.aC,f.bm,(⟨tr⟩:aT),g.aC,g.bm)=some (((kX tw tr f g).2=0:J)&&di g (kX tw tr f g).1):=by
 have k:=(bU.T x aa).hj f m;have i:=bU.D x aa f m n;have F:=bU.W x aa f m n;have l:wt f.bm<=274877906944:=by omega
 obtain⟨j,o,z⟩:=zH.1 al;have d:=b5.R j o g (by rw[show tr.getD j aN=y from by rw[<-z];simp[o]];exact av);have ok:cp (kX tw tr f g).1:=ahc bU b5 k i l d.1 d.2.1;obtain⟨z1,z2⟩:=Qi (tw:=tw) (t:=f.aC) (v:=f.bm) (rt:=g.aC) b5;have z2:=z2 y al g av;have p:∀u,di g u↔u=g.bm:=λu=>by
  unfold di;rw[he];simp only[ig,fI];exact⟨λh=>h.symm,λh=>h.symm⟩
 obtain⟨b,b1,b2⟩:=OI ok g.bm;have s:b=di g (kX tw tr f g).1:=by
  have:=p (kX tw tr f g).1;cases b<;>cases A:di g (kX tw tr f g).1<;>simp_all
 refine⟨L4 bU b5 k i l d.1 d.2.1,⟨b,b1,s⟩,?_⟩;have B:=ahd bU b5 k i l d.1 d.2.1;obtain⟨c,r,E⟩:=OH B g.bm;have w:c=di g (ke (iH (bG tw) tw tr f.aC f.bm g.aC)).1:=by
  have:=p (ke (iH (bG tw) tw tr f.aC f.bm g.aC)).1;cases c<;>cases A:di g (ke (iH (bG tw) tw tr f.aC f.bm g.aC)).1<;>simp_all
 rw[DC];simp only[ab.bI];rw[L5 bU b5 k i l d.1 d.2.1];unfold kX;generalize ke (iH (bG tw) tw tr f.aC f.bm g.aC)=q at*;generalize ke (iH (fi tw) tw tr f.aC f.bm g.aC)=a at*;show((if (q.2=0:J) then v7 (q.1,g.bm)else some false)>>=λC=>some (bif (q.2=0:J)then C else false))=_;by_cases h0:a.2=0;have e:q.2=0:=(by omega);rw[z2 h0,ah (by simp[e]),r,w];simp[h0,e];have e:¬q.2=0:=(by omega);rw[au (by simp[e])];simp[h0,e]
omit bU b5 in
theorem ajr{l:I aU}(h:eX l id=some j):aE (j:Int) l.length:=aY (iN h).1
theorem Qn{x y:aj}(aa:x∈tw)(al:y∈tr):∀(k i:Nat),i+k=y.af.length->
 (gC (my tw tr x) (y.af.drop i)=0/\oJ (y.af,(y.af.length:Int),(i:Int),tw,x,tr,y)=some (.inr (x,y))/\rf ((i:Int),tw,x,tr,y)=some (.inr (x,y)))\/
 (¬gC (my tw tr x) (y.af.drop i)=0/\oJ (y.af,(y.af.length:Int),(i:Int),tw,x,tr,y)=some (.inl (gC (my tw tr x) (y.af.drop i)))/\rf ((i:Int),tw,x,tr,y)=some (.inl (gC (my tw tr x) (y.af.drop i))))
 |0,i,l=>.inl ⟨by rw[kx (by omega)];rfl,by simp_all[oJ,au],by simp_all[rf,au]⟩
 |k+1,i,l=>by
  have aD:i<y.af.length:=by omega
  have p:=(bU.bC x aa).2.2;have q:=(b5.bC y al).2.2;have e:y.af.drop i=y.af.getD i aH::y.af.drop (i+1):=by
   simp_all
  have av:=bA aD aH;have ih:=Qn aa al k (i+1) (by omega);rw[oJ,ah (by grind),ah (aY aD),rf,ah (by grind),ah (aY aD)];simp only[aW,ay,e3,ab.bI];generalize y.af.getD i aH=g at*;obtain⟨s1,n⟩:=y1 (y:=x) (by omega) g.ai;rw[s1,n,e,BR,bN];have a:my tw tr x g=match eX x.af g.ai with
   |none=>if g.bH then 0 else 7
   |some i=>GW tw tr (x.af.getD i aH) g:=rfl
  cases bK:eX x.af g.ai with
  |none=>
   cases o:g.bH with
   |false=>
    grind[gC]
   |true=>
    grind[gC]
  |some j=>
   rw[bK]at a;have m:=ajr bK;have f:=bA (iN bK).1 aH;simp only[ay,dc,cx,cF,e3,m,cl,mC,fh];simp only at a;unfold GW at a;rcases G4 (x.af.getD j aH).bH with c|c
   . rcases G4 g.bH with d|d
     . obtain⟨d1,⟨b,d2,d3⟩,d4⟩:=agu bU b5 aa al f av c d;rw[d1,d4];simp only[ay];by_cases h0:(kX tw tr (x.af.getD j aH) g).2=0/\di g (kX tw tr (x.af.getD j aH) g).1=true
       rw[ah h0]at a;have dp:gC (my tw tr x) (g::y.af.drop (i+1))=gC (my tw tr x) (y.af.drop (i+1)):=(by grind[gC]);grind;rw[au h0]at a;have pq:gC (my tw tr x) (g::y.af.drop (i+1))=10:=(by grind[gC]);grind
     simp_all[gC,dc,eL,cx,cF,cl,fh,et]
   have dp:gC (my tw tr x) (g::y.af.drop (i+1))=gC (my tw tr x) (y.af.drop (i+1)):=(by grind[gC]);grind
theorem RC{x y:aj}(aa:x∈tw)(al:y∈tr):∀(k i:Nat),i+k=x.af.length->
 (gC (fw y) (x.af.drop i)=0/\rV (x.af,(x.af.length:Int),(i:Int),y)=some (.inr ())/\rh ((i:Int),x,y)=some (.inr ()))\/
 (¬gC (fw y) (x.af.drop i)=0/\rV (x.af,(x.af.length:Int),(i:Int),y)=some (.inl (gC (fw y) (x.af.drop i)))/\rh ((i:Int),x,y)=some (.inl (gC (fw y) (x.af.drop i))))
 |0,i,c=>.inl ⟨by rw[kx (by omega)];rfl,by simp_all[rV,au],by simp_all[rh,au]⟩
 |k+1,i,c=>by
  have aD:i<x.af.length:=by omega
  have f:=(bU.bC x aa).2.2;have g:=(b5.bC y al).2.2;have e:x.af.drop i=x.af.getD i aH::x.af.drop (i+1):=by
   simp_all
  have ih:=RC aa al k (i+1) (by omega);obtain⟨s1,d⟩:=y1 (y:=y) (by omega) (x.af.getD i aH).ai;rw[rV,ah (by grind),ah (aY aD),rh,ah (by grind),ah (aY aD)];simp only[aW,ay,e3];rw[s1,d,e,bN];simp only[ay,aY aD,mC,cl];have a:fw y (x.af.getD i aH)=if(eX y.af (x.af.getD i aH).ai).isNone=true/\(x.af.getD i aH).b4=true then 6 else 0:=rfl
  rw[BR];rcases G4 (x.af.getD i aH).b4 with b|b
  . cases bK:eX y.af (x.af.getD i aH).ai with
    |none=>
     rw[ah ⟨by grind,b⟩]at a;have k':gC (fw y) ((x.af.getD i aH)::x.af.drop (i+1))=6:=aet a (by simp);grind
    |some j=>
     grind[NK]
  grind[NK]
noncomputable def Dc (tw tr:I aj)(x y:aj):Int:=if gC (my tw tr x) y.af=0 then gC (fw y) x.af else gC (my tw tr x) y.af
theorem afv(aa:x∈tw)(al:y∈tr):DG ((⟨tw⟩:aT),x,(⟨tr⟩:aT),y)=some (Dc tw tr x y)/\zp ((⟨tw⟩:aT),x,(⟨tr⟩:aT),y)=some (Dc tw tr x y):=by
 have a:=Qn bU b5 aa al y.af.length 0 (by simp);have b:=RC bU b5 aa al x.af.length 0 (by simp);grind[DG,zp,Dc]
def qn(k:aj):Int:=if k.ae=1 then 2 else if k.ae=2 then c4 (k.bB-k.br+1) 100 else if k.ae=4 then k.bc.length else if k.Max=0 then 1 else 100
omit bU b5 in
theorem RD{b:aj}(h:ej b.br/\ej b.bB):∀(k:Nat) (n v:Int),n+k=100->b.br<=v->v<=b.bB->1<=n->rW (n,v,b)=some (c4 (n+(b.bB-v)) 100)
 |0,n,v,d,ak,h1,c=>by
  rw[rW,dC];unfold c4;congr 1;omega
 |k+1,n,v,d,ak,h1,c=>by
  obtain⟨⟨e,l2⟩,f,g⟩:=h;rw[rW];by_cases a:v<b.bB
  . rw[ah (by simp[a];omega),qZ,qZ,RD ⟨⟨e,l2⟩,f,g⟩ k _ _ (by omega) (by omega) (by omega) (by omega)]
    congr 2;omega
  . rw[au (by simp[a])];unfold c4
    congr 1;omega
omit b5 in
theorem aeu{k:aj}(c:k∈tw)(j:k.ae<=4)(b:ej k.br/\ej k.bB):(∃q,Ab k=some q/\∀m,m<=50->c4 m q=c4 m (qn k))/\v' k=some (qn k):=by
 have h1:=(Qj bU c).1;have bK:=bU.V.F k c;rw[Ab,v'];by_cases k1:k.ae=1;grind[qn];by_cases k2:k.ae=2
 . have d:k.br<=k.bB:=by rcases bK with h|h|h|h|h|h|h|h|h<;>omega
   have a:qn k=c4 (k.bB-k.br+1) 100:=by unfold qn;rw[au k1,ah k2]
   have e:rW (1,k.br,k)=some (c4 (1+(k.bB-k.br)) 100):=RD b 99 1 k.br (by omega) (by omega) d (by omega);obtain⟨⟨l,l2⟩,n,o⟩:=b;have g:dD .u64 (da .u64 k.bB) (da .u64 k.br)=k.bB-k.br:=by
    show IntKind.wrap .u64 (IntKind.wrap .u64 k.bB-IntKind.wrap .u64 k.br)=_;grind[IntKind.wrap_u64]
   refine⟨?_,?_⟩
   . rw[au (by grind),ah (by grind),g];simp only[aW,ay];by_cases hs:k.bB-k.br<2147483647
     . have i:da .i64 (k.bB-k.br)=k.bB-k.br:=by
        show IntKind.wrap .i64 _=_;grind[IntKind.wrap_i64]
       rw[ah (by simp[hs]),i,qZ];refine⟨_,rfl,λm f=>?_⟩;rw[a];unfold c4;omega
     rw[au (by simp[hs])];refine⟨_,rfl,λm f=>?_⟩;rw[a];unfold c4;omega
   . rw[au (by grind),ah (by grind),e,a];simp only[aW,ay]
     congr 2;omega
 grind[qn,c4]
noncomputable def sD (tw tr:I aj)(t u:Int):Int:=
 if ¬(ty tw t).ae=(ty tr u).ae then 9
 else if(ty tw t).ae=2 then(if(ty tw t).br<(ty tr u).br\/(ty tr u).bB<(ty tw t).bB then 2 else 0)
 else if(ty tw t).ae=3\/(ty tw t).ae=7 then(if(ty tr u).Max<(ty tw t).Max then 3 else 0)
 else if(ty tw t).ae=8 then(if(ty tr u).Max<c4 (ty tw t).Max (qn (ty tw (ty tw t).aR))then 3 else 0)
 else if(ty tw t).ae=4 then(if((ty tr u).bt||vC (ty tw t) (ty tr u)) then 0 else 4)
 else if(ty tw t).ae=6 then(if((ty tr u).bt||vC (ty tw t) (ty tr u)) then 0 else 5)
 else if(ty tw t).ae=5 then Dc tw tr (ty tw t) (ty tr u)
 else 0
omit bU b5 in
theorem agv(h:x.ae=8):x.aR∈fj x:=by grind[fj]
def gK(ts:I aj)(t:Int):Prop:=0<=t/\t<ts.length
omit bU b5 in
theorem BH(h:gK ts t):aE t ts.length:=by
 grind[gK,aE]
omit bU b5 in
theorem qd(h:gK ts t):ty ts t∈ts:=bA (by grind[gK]) _
theorem lens(ht:gK tw t)(d:gK tr u):((ty tw t).bc.length<=1000/\(ty tw t).af.length<=1000)/\((ty tr u).bc.length<=1000/\(ty tr u).af.length<=1000):=by
 have aa:=qd ht;have al:=qd d;have a:=(bU.bC _ aa).2.2;have b:=(b5.bC _ al).2.2;have c:∀{x:aj} {ts:I aj},hy x->x.bc.length<=1000:=λ{x ts} h=>by
  rcases h with h|h|h|h|h|h|h|h|h
  all_goals first
   |(have:=h.2.2.2.2.2.1.2.2.2.2;omega)
   |(have q:x.bc=[]:=(by first|exact h.2.2.2.2.2.1|exact h.2.2.2.2.1);rw[q];simp)
 exact⟨⟨c (ts:=tw) (bU.V.F _ aa),by omega⟩,⟨c (ts:=tr) (b5.V.F _ al),by omega⟩⟩
theorem afw(f:∀k,k∈tw->ej k.br/\ej k.bB)(ht:gK tw t)(b:gK tr u):Eh ((⟨tw⟩:aT),t,(⟨tr⟩:aT),u)=some (sD tw tr t u)/\Dv ((⟨tw⟩:aT),t,(⟨tr⟩:aT),u)=some (sD tw tr t u):=by
 have aa:=qd ht;have al:=qd b;obtain⟨e,l2⟩:=lens bU b5 ht b;have n:=agt e l2;have o:=ags e l2;have r:=afv bU b5 aa al;have m:=bU.GV _ aa;have p:(ty tw t).ae=8->aE (ty tw t).aR tw.length/\(∃q,Ab (ty tw (ty tw t).aR)=some q/\c4 (ty tw t).Max q=c4 (ty tw t).Max (qn (ty tw (ty tw t).aR)))/\v' (ty tw (ty tw t).aR)=some (qn (ty tw (ty tw t).aR)):=λk8=>by
  have a:gK tw (ty tw t).aR:=bU.V.U _ aa _ (agv k8);obtain⟨⟨q,s,v⟩,w⟩:=aeu bU (qd a) (bU.V.qM _ aa k8).2 (f _ (qd a));grind[BH]
 have a:=Qj bU aa;show(if aE t tw.length then _ else none)=_/\(if aE t tw.length then _ else none)=_;rw[BH ht,ah rfl,ah rfl];simp only[aW,ay];rw[BH b,ah rfl,ah rfl];unfold sD;obtain⟨x,c⟩:∃x,ty tw t=x:=⟨_,rfl⟩;obtain⟨y,d⟩:∃y,ty tr u=y:=⟨_,rfl⟩;have g:tw.getD t.toNat aN=x:=c;have i:tr.getD u.toNat aN=y:=d;simp only[g,i,c,d]at*;by_cases bW:x.ae=y.ae
 . have j:x.ae=1\/x.ae=2\/x.ae=3\/x.ae=4\/x.ae=5\/x.ae=6\/x.ae=7\/x.ae=8\/x.ae=9:=(by omega);rcases j with k|k|k|k|k|k|k|k|k<;>have l:y.ae=_:=bW.symm.trans k
   all_goals simp only[k,l,Int.reduceEq,Int.reduceLT,dS,ee,dc,eL,Bool.or_true,iC,fh,et,cx,cF,cl,ay,not_true_eq_false,or_false,false_or,or_true,true_or,and_self]
   grind;grind;grind;grind
   all_goals grind
 grind
end
theorem RE{a b:bn}:a=b↔a.cg=b.cg/\a.bY=b.bY:=by cases a;cases b;simp
instance ak3:DecidableEq bn:=λa b=>decidable_of_iff (a.cg=b.cg/\a.bY=b.bY) RE.symm
theorem yN{a b:bn}:(eJ a.cg b.cg&&(eJ a.bY b.bY&&true))=(a=b:J):=by
 simp[eJ,RE]
def l0(l:I bn)(p:bn):I bn:=if p∈l then l else l++[p]
theorem JN(l:I bn)(p:bn):(l0 l p).length<=l.length+1:=by grind[l0]
theorem PO{m:I bn}:∀{l:I bn},(m.foldl l0 l).length<=l.length+m.length:=by
 induction m with
 |nil=>simp
 |cons a m ih=>grind[JN]
theorem wW{l:I bn}{i:Nat}(h:i<l.length):l.drop i=l.getD i dH::l.drop (i+1):=by
 simp_all
section
variable {l:I bn}(p:bn)(ak:l.length<=1000000)
include ak
theorem Vc:∀(k i:Nat),i+k=l.length->(p∈l.drop i/\ob (l,(i:Int),p)=some (.inl true)/\oM ((i:Int),l,p)=some (.inl (true,l))/\∃j:Nat,oa (l,(l.length:Int),(i:Int),p)=some (.inl (j:Int))/\n3 ((l.length:Int),(i:Int),l,p)=some (.inl ((j:Int),l)))\/
 (p ∉ l.drop i/\ob (l,(i:Int),p)=some (.inr ())/\oM ((i:Int),l,p)=some (.inr l)/\oa (l,(l.length:Int),(i:Int),p)=some (.inr ())/\n3 ((l.length:Int),(i:Int),l,p)=some (.inr l))
 |0,i,c=>.inr ⟨by grind,by simp_all[ob,au],by simp_all[oM,au],by simp_all[oa,au],by simp_all[n3,au]⟩
 |k+1,i,c=>by
  have aD:i<l.length:=by omega
  have ih:=Vc k (i+1) (by omega);rw[wW aD];have aJ:ob (l,(i:Int),p)=if l.getD i dH=p then some (.inl true)else ob (l,((i+1:Nat):Int),p):=by
   rw[ob,ah (by grind),ah (aY aD)];simp only[aW,ay,e3,yN];grind[mS]
  have a:oM ((i:Int),l,p)=if l.getD i dH=p then some (.inl (true,l))else oM (((i+1:Nat):Int),l,p):=by
   rw[oM,ah (by grind),ah (aY aD)];simp only[e3,yN,aD,dS,cl];grind[mS]
  have c3:oa (l,(l.length:Int),(i:Int),p)=if l.getD i dH=p then some (.inl (i:Int))else oa (l,(l.length:Int),((i+1:Nat):Int),p):=by
   rw[oa,ah (by grind),ah (aY aD)];simp only[aW,ay,e3,yN];grind[mS]
  have gH:n3 ((l.length:Int),(i:Int),l,p)=if l.getD i dH=p then some (.inl ((i:Int),l))else n3 ((l.length:Int),((i+1:Nat):Int),l,p):=by
   rw[n3,ah (by grind),ah (aY aD)];simp only[e3,yN,aD,dS,cl];grind[mS]
  rw[aJ,a,c3,gH];by_cases h:l.getD i dH=p;grind;have b:¬p=l.getD i dH:=λe=>h e.symm;simp only[au h,eE,b,false_or];omega
theorem yY:zW (l,p)=some (p∈l:J)/\Di (p,l)=some ((p∈l:J),l)/\DP (l,p)=some (p∈l:J)/\DN (p,l)=some ((p∈l:J),l):=by
 have h:=Vc p ak l.length 0 (by simp);rw[zW,Di,DP,DN,HQ,HN];rcases h with⟨h1,a,b,j,c,d⟩|⟨h1,a,b,c,d⟩
 all_goals simp_all
end
def o0(x y:aj)(l:I aU):I bn:=l.filterMap λf=>match eX y.af f.ai with
 |none=>none
 |some j=>some ⟨f.aC,(y.af.getD j aH).aC⟩
def GO(x y:aj):I bn:=if x.ae=8/\0<x.Max then[⟨x.aR,y.aR⟩]else[]
def GB(x y:aj):I bn:=if x.ae=9\/(x.ae=7\/x.ae=8)/\0<x.Max then[⟨x.aF,y.aF⟩]else[]
def B7(x y:aj):I bn:=o0 x y x.af++GO x y++GB x y
def vc(x y:aj):I bn:=if x.ae=y.ae then(B7 x y).foldl l0 []else[]
theorem PQ(x y:aj)(l:I aU):(o0 x y l).length<=l.length:=by grind[o0]
theorem DQ(a b:Int){l:I bn}(ak:l.length<=1000):tM (a,b,l)=some (l0 l ⟨a,b⟩):=by
 rw[tM,(yY _ (by omega)).2.2.2];simp only[aW,ay,dS,u0,cl];unfold l0;by_cases h:⟨a,b⟩∈l;grind;rw[au h,ah (by grind),ah (ef (by simp) (by grind))]
section
variable {x y:aj}(aa:x.af.length<=100)(al:y.af.length<=100)
include aa al
theorem KL:∀(k i:Nat) (acc:I bn),i+k=x.af.length->acc.length+k<=500->q' (x.af,(x.af.length:Int),(i:Int),x,y,acc)=some (x,y,(o0 x y (x.af.drop i)).foldl l0 acc)
 |0,i,acc,b,a=>by rw[kx (by omega),q',au (by grind)];rfl
 |k+1,i,acc,b,a=>by
  have aD:i<x.af.length:=by omega
  have e:x.af.drop i=x.af.getD i aH::x.af.drop (i+1):=by
   simp_all
  rw[q',ah (by grind),ah (aY aD)];simp only[aW,ay,e3];rw[(y1 (y:=y) (by omega) _).1,BR,e,bN];unfold o0;rw[List.filterMap_cons];cases bK:eX y.af _ with
  |none=>
   exact KL k (i+1) acc (by omega) (by omega)
  |some j=>
   simp only[ay,cl,aY (iN bK).1,e3,uW];rw[DQ _ _ (by omega)];exact KL k (i+1) _ (by omega) (by grind[JN])
theorem KM:∀(k i:Nat) (acc:I bn),i+k=x.af.length->acc.length+k<=500->rX ((i:Int),x,y,acc)=some (x,y,acc++o0 x y (x.af.drop i))
 |0,i,acc,b,a=>by simp_all[kx,rX,au,o0]
 |k+1,i,acc,b,a=>by
  have aD:i<x.af.length:=by omega
  have e:x.af.drop i=x.af.getD i aH::x.af.drop (i+1):=by
   simp_all
  rw[rX,ah (by grind),ah (aY aD)];simp only[aW,ay,e3];rw[(y1 (y:=y) (by omega) _).2,BR,e,bN];unfold o0;rw[List.filterMap_cons];cases bK:eX y.af _ with
  |none=>
   exact KM k (i+1) acc (by omega) (by omega)
  |some j=>
   simp only[ay,cl,aY (iN bK).1,aY aD,e3];rw[ah (ef (by simp) (by grind)),KM k (i+1) _ (by omega) (by grind),lL];rfl
end
theorem KN{l:I bn}(ak:l.length<=500):∀(k i:Nat) (acc:I bn),i+k=l.length->acc.length+k<=500->l7 ((i:Int),l,acc)=some ((l.drop i).foldl l0 acc)
 |0,i,acc,b,a=>by simp_all[kx,l7,au]
 |k+1,i,acc,b,a=>by
  have aD:i<l.length:=by omega
  rw[wW aD,l7,ah (by grind),ah (aY aD)];simp only[e3];rw[ah (h3 aD),(yY _ (by omega)).2.1,bN];simp only[aW,ay,dS,u0,cl,uW];by_cases h:l.getD i dH∈acc;rw[show l0 acc (l.getD i dH)=acc from ah h,h3 h];exact KN ak k (i+1) acc (by omega) (by omega);rw[show l0 acc (l.getD i dH)=acc++[l.getD i dH]from au h,qv h,ah (show(!false)=true from rfl),ah (aY aD),ah (h3 aD),ah (ef (by simp) (by grind))];exact KN ak k (i+1) _ (by omega) (by grind)
theorem afx(aa:x.af.length<=100):(B7 x y).length<=102:=by
 grind[PQ,GO,GB,B7]
section
variable {tw tr:I aj}(bU:cX tw)(b5:cX tr)
include bU b5
theorem afy(ht:gK tw t)(f:gK tr u):Dp ((⟨tw⟩:aT),t,(⟨tr⟩:aT),u)=some (vc (ty tw t) (ty tr u))/\Dj ((⟨tw⟩:aT),t,(⟨tr⟩:aT),u)=some (vc (ty tw t) (ty tr u)):=by
 have aa:=(bU.bC _ (qd ht)).2.2;have al:=(b5.bC _ (qd f)).2.2;have nJ:=KL (x:=ty tw t) (y:=ty tr u) (by omega) (by omega) (ty tw t).af.length 0 [] (by simp) (by grind);have g:=KM (x:=ty tw t) (y:=ty tr u) (by omega) (by omega) (ty tw t).af.length 0 [] (by simp) (by grind);have o:=PQ (ty tw t) (ty tr u) (ty tw t).af;have a:∀l:I bn,l.length<=500->l7 (0,l,[])=some (l.foldl l0 []):=λl ak=>by
  grind[KN]
 have b:∀l:I bn,l.length<=500->cn 16 l.length:=λl ak=>ef (by simp) (by omega);simp only[CZ,eZ,jE]at nJ g;have i:=@PO (o0 (ty tw t) (ty tr u) (ty tw t).af) [];simp only[lM]at i;show(if aE t tw.length then _ else none)=_/\(if aE t tw.length then _ else none)=_;rw[BH ht,ah rfl,ah rfl];simp only[aW,ay];rw[BH f,ah rfl,ah rfl];unfold vc B7;obtain⟨x,c⟩:∃x,ty tw t=x:=⟨_,rfl⟩;obtain⟨y,d⟩:∃y,ty tr u=y:=⟨_,rfl⟩;have k:tw.getD t.toNat aN=x:=c;have m:tr.getD u.toNat aN=y:=d;simp only[k,m,c,d]at*;by_cases bW:x.ae=y.ae
 . have n:(bif (x.ae=8:J)then (0<x.Max:J)else false)=(x.ae=8/\0<x.Max:J):=by
    grind
   have j:(bif (x.ae=9:J)then true else bif bif (x.ae=7:J)then true else (x.ae=8:J)then (0<x.Max:J)else false)=(x.ae=9\/(x.ae=7\/x.ae=8)/\0<x.Max:J):=by
    grind
   have e:¬(!(x.ae=y.ae:J)):=(by grind);rw[ah bW,au e,au e,nJ,g];simp only[ay,CY,n,j];have a2:=JN (List.foldl l0 [] (o0 x y x.af)) ⟨x.aR,y.aR⟩;unfold GO GB;by_cases k1:x.ae=8/\0<x.Max;have k2:x.ae=9\/(x.ae=7\/x.ae=8)/\0<x.Max:= .inr ⟨.inr k1.1,k1.2⟩;simp only[k1,k2,dS,cl,and_self,uW,List.foldl_nil];rw[DQ _ _ (by omega),b _ (by simp;omega),b _ (by simp;omega),a _ (by simp;omega)];simp only[ay];rw[DQ _ _ (by omega)];simp[CY]
   . by_cases k2:x.ae=9\/(x.ae=7\/x.ae=8)/\0<x.Max
     rw[ah k2];simp only[k1,k2,dS,ee,cl,cF,cx,uW,List.foldl_nil];rw[DQ _ _ (by omega),b _ (by simp;omega),a _ (by simp;omega)];simp[CY];rw[au k2];simp only[k1,k2,ee,cF,cx,List.foldl_nil];rw[a _ (by omega)];simp
 grind
end
structure dM (ts:List aj):Prop where
 H:cX ts
 p:se (⟨ts⟩:aT)=some 0
 r:tx (⟨ts⟩:aT)=some 0
 bC:∀k,k∈ts->ej k.br/\ej k.bB
abbrev mO(tw tr:I aj)(p:bn):Prop:=gK tw p.cg/\gK tr p.bY
abbrev uP(tw tr:I aj)(p:bn):I bn:=vc (ty tw p.cg) (ty tr p.bY)
noncomputable abbrev BN (tw tr:I aj) (p:bn):Int:=sD tw tr p.cg p.bY
def p7(tw tr:I aj)(x:bn):J:=(0<=x.cg/\x.cg<tw.length/\0<=x.bY/\x.bY<tr.length:J)
theorem O5{x:bn}:p7 tw tr x↔mO tw tr x:=by unfold p7 mO gK;simp;omega
noncomputable def oY (tw tr:I aj)(l:I bn)(x:bn):J:=p7 tw tr x&&((BN tw tr x=0:J)&&(uP tw tr x).all λy=>(y∈l:J))
noncomputable def Dd (tw tr:I aj)(r:bn)(l:I bn):J:=(r∈l:J)&&l.all (oY tw tr l)
section
variable {tw tr:I aj}(bU:dM tw)(b5:dM tr)
include bU b5
theorem agw{p:bn}(ar:mO tw tr p):(uP tw tr p).length<=102:=by
 unfold uP vc;split;have:=@PO (B7 (ty tw p.cg) (ty tr p.bY)) [];have:=afx (x:=ty tw p.cg) (y:=ty tr p.bY) (by have:=(bU.H.bC _ (qd ar.1)).2.2;omega);grind;simp
omit b5 in
theorem agx(ht:gK tw t):zT ((⟨tw⟩:aT),t)=some 0:=by
 have:=bU.p;grind[zT,gK]
omit b5 in
theorem agy(ht:gK tw t):uB ((⟨tw⟩:aT),t)=some 0:=by
 have:=bU.r;grind[uB,gK]
omit b5 in
theorem Ez(ht:gK tw t):sf (⟨⟨tw⟩,t⟩:cv)=some true:=by
 have:=bU.p;grind[sf,gK]
theorem RF{p:bn}(ar:mO tw tr p):Aa ((⟨⟨tw⟩,p.cg⟩:cv),(⟨⟨tr⟩,p.bY⟩:cv))=some 0:=by
 grind[Aa,agx]
theorem PR{p:bn}(ar:mO tw tr p):tz ((⟨⟨tw⟩,p.cg⟩:cv),(⟨⟨tr⟩,p.bY⟩:cv))=some 0:=by
 grind[tz,agy]
theorem VT(ht:gK tw t)(a:gK tr u):Eh ((⟨tw⟩:aT),t,(⟨tr⟩:aT),u)=some (sD tw tr t u)/\Dv ((⟨tw⟩:aT),t,(⟨tr⟩:aT),u)=some (sD tw tr t u):=afw bU.H b5.H bU.bC ht a
theorem Vp(ht:gK tw t)(a:gK tr u):Dp ((⟨tw⟩:aT),t,(⟨tr⟩:aT),u)=some (vc (ty tw t) (ty tr u))/\Dj ((⟨tw⟩:aT),t,(⟨tr⟩:aT),u)=some (vc (ty tw t) (ty tr u)):=afy bU.H b5.H ht a
abbrev gV(ts:I aj)(t:Int):cv:=⟨⟨ts⟩,t⟩
theorem agz{r x:bn}(aa:mO tw tr x):vU ((⟨gV tw r.cg,gV tr r.bY⟩:gr),x)=some (BN tw tr x=0:J):=by
 rw[vU];show(El ((⟨tw⟩:aT),x.cg,(⟨tr⟩:aT),x.bY)>>=_)=_;rw[El];simp only[RF bU b5 aa,(VT bU b5 aa.1 aa.2).1,aW,ay];simp
theorem agA{r x:bn}(aa:mO tw tr x):vV ((⟨gV tw r.cg,gV tr r.bY⟩:gr),x)=some (uP tw tr x):=by
 rw[vV];show(Dq ((⟨tw⟩:aT),x.cg,(⟨tr⟩:aT),x.bY)>>=_)=_;rw[Dq];simp only[RF bU b5 aa,(Vp bU b5 aa.1 aa.2).1,aW,ay,dS,dc,cx,cF]
omit bU b5 in
theorem aev{r x:bn}:wB ((⟨gV tw r.cg,gV tr r.bY⟩:gr),x)=some (p7 tw tr x):=by
 rw[wB];congr 1
 unfold p7;have e:0<=c4 x.cg x.bY↔0<=x.cg/\0<=x.bY:=by simp only[c4];omega
 rw[xl];by_cases a:0<=x.cg<;>by_cases b:x.cg<tw.length<;>by_cases c:0<=x.bY<;>by_cases d:x.bY<tr.length<;>simp[e,a,b,c,d]
theorem af4{r x:bn}{l:I bn}:BF wB vU vV (⟨gV tw r.cg,gV tr r.bY⟩:gr) l x=some (oY tw tr l x):=by
 unfold BF oY;rw[aev];simp only[aW,ay];cases a:p7 tw tr x with
 |false=>rfl
 |true=>
  have aa:=O5.1 a;rw[cq,agz bU b5 aa];simp only[ay];by_cases h:BN tw tr x=0
  . rw[au (by rw[h3 h];simp),agA bU b5 aa];simp only[ay,ig];rw[h3 h,ig]
    congr 1
    refine List.all_congr rfl λy=>?_;rw[xl];simp only[su,yN,fI];exact⟨λ⟨z,b,e⟩=>e▸b,λh=>⟨y,h,rfl⟩⟩
  rw[ah (by rw[qv h];rfl),qv h];rfl
theorem RG{r:bn}{l:I bn}:∀{m:I bn},sW (BF wB vU vV (⟨gV tw r.cg,gV tr r.bY⟩:gr) l) m=some (m.all (oY tw tr l))
 |[]=>rfl
 |x::m=>by
  rw[sW,af4 bU b5,RG];rfl
theorem af5{r:bn}(a:mO tw tr r){l:I bn}(ak:l.length<=1000000):v8 (gV tw r.cg,gV tr r.bY,l)=some (Dd tw tr r l):=by
 rw[v8];unfold BE;simp only[Ez bU a.1,Ez b5 a.2,Ip,(yY _ ak).2.2.1,RG bU b5,aW,ay,dc,cx,cF];unfold Dd;by_cases h:r∈l;rw[h3 h];rfl;rw[qv h];rfl
omit bU b5 in
theorem RH{l m:I bn}(ak:l.length<=1000000)(b:m.length<=1000)(i:Int)(w r:cv):∀(n k:Nat),k+n=m.length->((m.drop k).all (λy=>(y∈l:J))/\q3 (l,i,m,(k:Int),w,r)=some (.inr (l,i,w,r)))\/((m.drop k).all (λy=>(y∈l:J))=false/\q3 (l,i,m,(k:Int),w,r)=some (.inl false))
 |0,k,a=>.inl ⟨by rw[kx (by omega)];rfl,by rw[q3,dC]⟩
 |n+1,k,a=>by
  have aD:k<m.length:=by omega
  have ih:=RH ak b i w r n (k+1) (by omega);rw[wW aD,q3,cJ,ah (aY aD)];simp only[e3];rw[(yY _ ak).1,bN,kB];simp only[aW,ay];cases (m.getD k dH∈l:J)with
  |false=>exact .inr ⟨rfl,rfl⟩
  |true=>simpa using ih
omit bU b5 in
theorem af6{r x:bn}:Dh (gV tw r.cg,gV tr r.bY,x)=some (p7 tw tr x):=by
 rw[Dh];congr 1;unfold p7;rw[xl];by_cases a:0<=x.cg<;>by_cases b:x.cg<tw.length<;>by_cases c:0<=x.bY<;>by_cases d:x.bY<tr.length<;>simp[a,b,c,d]
theorem R6{r:bn}{l:I bn}(ak:l.length<=1000000):∀(k i:Nat),i+k=l.length->((l.drop i).all (oY tw tr l)/\q9 (l,(i:Int),gV tw r.cg,gV tr r.bY)=some (.inr ()))\/((l.drop i).all (oY tw tr l)=false/\q9 (l,(i:Int),gV tw r.cg,gV tr r.bY)=some (.inl false))
 |0,i,d=>.inl ⟨by rw[kx (by omega)];rfl,by rw[q9,dC]⟩
 |k+1,i,d=>by
  have aD:i<l.length:=by omega
  have ih:=R6 (r:=r) ak k (i+1) (by omega);rw[wW aD,q9,cJ,ah (aY aD),kB];simp only[e3,af6,aW,ay,aY aD,mC,cl];generalize e:l.getD i dH=x at*;cases c:p7 tw tr x with
  |false=>
   have a:oY tw tr l x=false:=by unfold oY;rw[c];rfl
   rw[a];exact .inr ⟨rfl,rfl⟩
  |true=>
   have aa:=O5.1 c;simp only[dc,eL,cl,et,(VT bU b5 aa.1 aa.2).2,(Vp bU b5 aa.1 aa.2).2,ay];have a:oY tw tr l x=((BN tw tr x=0:J)&&(uP tw tr x).all λy=>(y∈l:J)):=by unfold oY;rw[c];rfl
   by_cases h:BN tw tr x=0
   . have b:sD tw tr x.cg x.bY=0:=h;rw[h3 h,ig]at a;simp only[b,dS,dc,cx,cF];have:=RH (m:=uP tw tr x) ak (by have:=agw bU b5 aa;omega) (i:Int) (gV tw r.cg) (gV tr r.bY) (uP tw tr x).length 0 (by omega);simp only[CZ,eZ]at this;rcases this with⟨a1,a2⟩|⟨a1,a2⟩
     rw[a,a1,a2];simp only[ay,ig];rw[bN];exact ih;rw[a,a1,a2];exact .inr ⟨rfl,rfl⟩
   have b:¬sD tw tr x.cg x.bY=0:=h;rw[qv h,zz]at a;rw[a];simp only[b,ee,eL,cl];simp
theorem af7{r:bn}(b:mO tw tr r){l:I bn}(ak:l.length<=1000000):wC (gV tw r.cg,gV tr r.bY,l)=some (Dd tw tr r l):=by
 rw[wC];simp only[PR bU b5 b,(yY _ ak).1,aW,ay,dS,dc,eL,cl,et];unfold Dd;have:=R6 bU b5 (r:=r) ak l.length 0 (by omega);simp only[CZ,eZ]at this;by_cases h:r∈l;have a:(⟨r.cg,r.bY⟩:bn)∈l:=h;rw[h3 h];simp only[a,dS,dc,cx,cF,ig];rcases this with⟨a1,a2⟩|⟨a1,a2⟩<;>rw[a1,a2]<;>rfl;have a:¬(⟨r.cg,r.bY⟩:bn)∈l:=h;rw[qv h];simp only[a,ee,eL,cl,zz]
end
theorem abC(H:cX ts)(ht:gK ts t){m:aq}(a:m.length<=4096):∃b,DT ((⟨ts⟩:aT),t,m)=some b/\(b=true↔dK ts 200 t m):=by
 obtain⟨z,z1,z2⟩:=Qt H 200 (by simp) t m ht.1 ht.2 a;rw[DT,(wI H.T H.V).2];have h1:=ht.1;have c:=ht.2;grind
theorem afz(H:cX ts)(c:cp v)(t:Int):∃b,rv ((⟨ts⟩:aT),t,v)=some b/\pK ((⟨ts⟩:aT),t,v)=some b/\(b=true↔dj ts true t v):=by
 have a:=H.V.ik H.T;obtain⟨r,d,e⟩:=EV a c t true;obtain⟨q,s1,f⟩:=EU (by have:=a.n;omega) H.T a.K c t true;grind[rv,ab.bI,pK]
section
variable {tw tr:I aj}(bU:dM tw)(b5:dM tr)
include bU b5
theorem afA{r:bn}(q:mO tw tr r){m:aq}(y:m.length<=300):∃b,wc (gV tw r.cg,gV tr r.bY,m)=some b/\wH (gV tw r.cg,gV tr r.bY,m)=some b:=by
 obtain⟨⟨t0,t1⟩,⟨d,f⟩⟩:=q;have d1:=adf bU.H.hZ r.cg m;have d2:=adg bU.H.hZ r.cg m;obtain⟨c,l,n⟩:=abC bU.H ⟨t0,t1⟩ (m:=m) (by omega);rw[wc,wH];simp only[Ez bU ⟨t0,t1⟩,Ez b5 ⟨d,f⟩,PR bU b5 ⟨⟨t0,t1⟩,⟨d,f⟩⟩,d1,d2,l,aW,ay,dc,eL,cl,et,cx,cF,dS,ab.bI];have g:=@agp tw bU.H r.cg m m;have a:=@ago tw bU.H r.cg m ⟨t0,t1⟩ (by omega);unfold yU at g a;rcases M3 tw r.cg m with⟨e,he,i⟩|⟨v,i,_,_,s⟩;simp_all
 . rw[i]at g a⊢;have F:=Qc bU.H ⟨t0,t1⟩ (by omega) s;obtain⟨b,b1,b2,k⟩:=afz bU.H F.2.1 r.cg;have aJ:=afq bU.H F;simp only[cl]at g a;simp only[b1,b2,aJ,dS,dc,eL,et,cl,cx,cF,ay];cases b with
   |false=>
    simp
   |true=>
    have j:=k.1 rfl;by_cases o:c=true;subst o;have p:=a (n.1 rfl);rw[p];have u:=L4 bU.H b5.H F.2.1 j F.2.2 d f;have w:=L5 bU.H b5.H F.2.1 j F.2.2 d f;have x:=(Qi (tw:=tw) (t:=r.cg) (v:=v) (rt:=r.bY) b5.H).1;simp only[u,w,x,dS,dc,cx,cF,et,ay];exact⟨_,rfl,rfl⟩;grind
end
theorem hi{l:I (bL bM.D)}{n:Nat}(h:eA bM (c::l) n):∃a b,nW bM c a/\eA bM l b/\a+b<=n:=by
 cases h with
 |cons h1 d e=>exact⟨_,_,h1,d,e⟩
theorem nK{n:Nat}(h:nW bM c n):1<=n:=by
 cases h<;>omega
theorem R7{s:aq}{n:Nat}(h:nW bM ⟨.str,s⟩ n):s.length+1<=n:=by
 cases h with
 |str h=>exact h
theorem BV{t:aL}{l:I (t.den bM.D)}{n:Nat}(h:nW bM ⟨.slice t,l⟩ n):∃m,lY bM t l m/\m+1<=n:=by
 cases h with
 |slice h1 a=>exact⟨_,h1,a⟩
theorem KO{t:aL}{x:t.den bM.D}{l:I (t.den bM.D)}{n:Nat}(h:lY bM t (x::l) n):∃a b,eA bM (t.row bM x) a/\lY bM t l b/\a+b<=n:=by
 cases h with
 |cons h1 c d=>exact⟨_,_,h1,c,d⟩
theorem Kt{t:aL}:∀{l:I (t.den bM.D)} {n:Nat},lY bM t l n->∀x,x∈l->eA bM (t.row bM x) n
 |y::l,n,h,x,aa=>by
  obtain⟨a,b,h1,c,d⟩:=KO h;rcases eE.1 aa with rfl|aa;exact h1.mono (by omega);exact(Kt c x aa).mono (by omega)
theorem SQ:∀{l:I ch} {n:Nat},lY bM (.nm Fo) l n->(l.map λx=>x.bT.length+1).sum<=n
 |[],n,_=>iD _
 |x::l,n,h=>by
  obtain⟨a,b,h1,c,f⟩:=KO h;have h1:eA bM [⟨.int .i64,x.ai⟩,⟨.str,x.bT⟩] a:=h1;obtain⟨a1,b1,_,d,g⟩:=hi h1;obtain⟨a2,b2,e,_,i⟩:=hi d;have:=R7 e;have:=SQ c;simp only[mB,xB];omega
theorem Kj:∀{l:I ab} {n:Nat},(∀y,y∈l->∀n,eA bM (bM.jZ mj y) n->wt y<=2*n)->lY bM (.nm mj) l n->eC l<=2*n
 |[],n,_,_=>by rw[rN];omega
 |x::l,n,h,hs=>by
  obtain⟨a,b,h1,c,d⟩:=KO hs;have:=h x (.head _) a h1;have:=Kj (λy al=>h y (.tail _ al)) c;rw[ov];omega
theorem ahe(a:cp v):∀n,eA bM (bM.jZ mj v) n->wt v<=2*n:=by
 induction a with
 |mk v hs h1 M N P O Q U V W X c b=>
  intro n h;have h:eA bM [⟨.int .i64,v.ae⟩,⟨.bool,v.ct⟩,⟨.int .i64,v.bE⟩,⟨.str,v.bZ⟩,⟨.int .i64,v.ai⟩,⟨.slice (.nm mj),v.a7⟩,⟨.slice (.nm mj),v.aw⟩,⟨.slice (.nm Fo),v.aX⟩] n:=h;obtain⟨a1,b1,d,m,aJ⟩:=hi h;obtain⟨a2,b2,e,o,I⟩:=hi m;obtain⟨a3,C,f,p,c3⟩:=hi o;obtain⟨a4,D,g,q,gH⟩:=hi p;obtain⟨a5,E,i,r,mq⟩:=hi q;obtain⟨z,F,j,s,k'⟩:=hi r;obtain⟨A,G,k,t,qW⟩:=hi s;obtain⟨B,H,l,Y,e8⟩:=hi t;have:=nK d;have:=nK e;have:=nK f;have:=R7 g;have:=nK i;obtain⟨R,u,J⟩:=BV j;obtain⟨S,w,K⟩:=BV k;obtain⟨T,x,L⟩:=BV l;have:=Kj (λy al=>c y al) u;have:=Kj (λy al=>b y al) w;have:=SQ x;rw[hT];omega
theorem ahf{n:Nat}(h:lY bM (.nm uv) ts n)(dw:∀t,t∈ts->e5 t):∀t,t∈ts->∀m,m∈t.af->wt m.bm<=2*n:=λt ht m a=>by
 have h1:eA bM [⟨.int .i64,t.ae⟩,⟨.str,t.aP⟩,⟨.int .i64,t.br⟩,⟨.int .i64,t.bB⟩,⟨.int .i64,t.Max⟩,⟨.slice (.nm IE),t.bc⟩,⟨.slice (.nm J0),t.af⟩,⟨.int .i64,t.aR⟩,⟨.int .i64,t.aF⟩,⟨.bool,t.bt⟩] n:=Kt h t ht;obtain⟨a1,b1,D,e,aJ⟩:=hi h1;obtain⟨a2,b2,E,f,B⟩:=hi e;obtain⟨a3,q,F,g,c3⟩:=hi f;obtain⟨a4,r,G,i,gH⟩:=hi g;obtain⟨a5,s,H,j,mq⟩:=hi i;obtain⟨o,u,J,k,k'⟩:=hi j;obtain⟨p,v,d,K,qW⟩:=hi k;obtain⟨c,l,C⟩:=BV d;have b:eA bM ([⟨.int .i64,m.ai⟩,⟨.str,m.aP⟩,⟨.int .i64,m.aC⟩,⟨.bool,m.b4⟩,⟨.bool,m.bH⟩]++bM.jZ mj m.bm) c:=Kt l m a;obtain⟨w,d1,s1,t1,f1⟩:=hi b;obtain⟨x,d2,L,t2,f2⟩:=hi t1;obtain⟨y,d3,M,t3,f3⟩:=hi t2;obtain⟨z,d4,N,t4,f4⟩:=hi t3;obtain⟨A,d5,O,t5,f5⟩:=hi t4;have:=ahe ((dw t ht).hj m a) d5 t5;omega
structure sS (w:cv):Prop where
 n:w.dO.bh.length<=reachBytes
 T:∀t,t∈w.dO.bh->e5 t
 bC:∀k,k∈w.dO.bh->ej k.br/\ej k.bB
 W:∀t,t∈w.dO.bh->∀m,m∈t.af->m.bH->wt m.bm<=2097152
theorem O6(h:sS w)(hs:w.dO.bh.length<=1000):∃b f,sf w=some b/\uB (w.dO,w.aC)=some f/\(b=true↔f=0)/\(b=true->dM w.dO.bh/\gK w.dO.bh w.aC):=by
 obtain⟨⟨ts⟩,t⟩:=w;obtain⟨aI,dw,i,dJ⟩:=h;simp only at aI dw i dJ hs;obtain⟨e,f,aJ,d,c3,gH⟩:=acZ hs dw dJ;rw[sf,uB];simp only[aJ,d,aW,ay];by_cases h0:e=0
 . have c:f=0:=c3.1 h0;subst h0;subst c;by_cases ht:0<=t/\t<ts.length
   refine⟨true,0,by simp[ht.1,ht.2],?_,by simp,λ_=>⟨⟨gH rfl,aJ,d,i⟩,ht⟩⟩;have a:¬t<0:=(by omega);have b:¬(ts.length:Int)<=t:=(by omega);simp[a,b]
   . refine⟨false,4,?_,?_,by simp,λh=>by cases h⟩
     . by_cases a:0<=t
       have b:¬t<(ts.length:Int):=λb=>ht ⟨a,b⟩;simp[a,b];simp[a]
     . by_cases a:t<0
       simp[a];have b:(ts.length:Int)<=t:=(by omega);simp[a,b]
 have c:¬f=0:=λg=>h0 (c3.2 g);exact⟨false,f,by simp[h0],by simp[c],by simp[c],λh=>by cases h⟩
def qp(x:bn):J:=(c4 x.cg x.bY<0:J)
theorem PS{l:I bn}(ak:l.length<=1000):∀(k i:Nat),i+k=l.length->((l.drop i).any qp/\∃j:Nat,q2 (l,(l.length:Int),(i:Int))=some (.inl (j:Int)))\/((l.drop i).any qp=false/\q2 (l,(l.length:Int),(i:Int))=some (.inr ()))
 |0,i,a=>.inr ⟨by rw[kx (by omega)];rfl,by rw[q2,dC]⟩
 |k+1,i,a=>by
  have aD:i<l.length:=by omega
  have ih:=PS ak k (i+1) (by omega);rw[wW aD,q2,cJ,ah (aY aD),zA,HV];simp only[aW,ay,e3];have e:qp (l.getD i dH)=(c4 (l.getD i dH).cg (l.getD i dH).bY<0:J):=rfl;rw[<-e];cases qp (l.getD i dH)with
  |true=>exact .inl ⟨rfl,i,rfl⟩
  |false=>
   rw[cq,bN,zB];exact ih
theorem Vd{v:ha}(ak:v.fv.length<=1000):∀(k i:Nat),i+k=v.fv.length->tv ((i:Int),v)=some (if(v.fv.drop i).any qp then .inl false else .inr v)
 |0,i,c=>by rw[tv,dC,kx (by omega)];rfl
 |k+1,i,c=>by
  have aD:i<v.fv.length:=by omega
  have ih:=Vd ak k (i+1) (by omega);rw[wW aD,tv,cJ,ah (aY aD),zA];simp only[aW,ay,e3,aY aD,mC,cl];have e:qp (v.fv.getD i dH)=(bif ((v.fv.getD i dH).cg<0:J)then true else ((v.fv.getD i dH).bY<0:J)):=by
   unfold qp;generalize v.fv.getD i dH=x;simp only[c4];by_cases a:x.cg<0;have:min x.cg x.bY<0:=(by omega);simp[a,this];have:(min x.cg x.bY<0)↔x.bY<0:=(by omega);simp[a,this]
  by_cases b:(bif ((v.fv.getD i dH).cg<0:J)then true else ((v.fv.getD i dH).bY<0:J))=true;have h1:qp (v.fv.getD i dH):=e.trans b;rw[h1];exact ah b
  . have h1:qp (v.fv.getD i dH)=false:=by rw[e];simpa using b
    rw[h1,zB,<-ih];have:a' .i64 (i:Int) 1=((i+1:Nat):Int):=bN;rw[<-this];exact au b
theorem afB{v:ha}(ak:v.fv.length<=1000):∃b,Ey v=some b/\Em v=some b:=by
 rw[Ey,Em];cases e:v.nS with
 |false=>exact⟨_,rfl,rfl⟩
 |true=>
  have h1:=PS ak v.fv.length 0 (by omega);have d:=Vd ak v.fv.length 0 (by omega);simp only[CZ,eZ]at h1 d;rw[d,HK,HL];simp only[cl,dc,cx,cF,aW,ay];rcases h1 with⟨a,j,b⟩|⟨a,b⟩
  . rw[a,b];refine⟨false,?_,rfl⟩;by_cases c:v.kc=[]
    simp[c];simp[c]
  . rw[a,b];refine⟨(v.kc=[]:J),?_,rfl⟩;by_cases c:v.kc=[]
    simp[c];simp[c]
theorem RI{l:I aj}(ak:l.length<=reachBytes):∀(k i:Nat) (n:Int),i+k=l.length->∃m,rZ (n,l,(l.length:Int),(i:Int),w)=some (m,w)
 |0,i,n,a=>⟨n,by rw[rZ,dC]⟩
 |k+1,i,n,a=>by
  have aD:i<l.length:=by omega
  have:=eI ak;rw[rZ,cJ,ah (aY aD)];simp only[aW,ay];rw[bN];exact RI ak k (i+1) _ (by omega)
theorem U5(h:sS w):∃b,Ap w=some b/\(b=true->w.dO.bh.length<=6):=by
 obtain⟨m,c⟩:=RI (w:=w) h.n w.dO.bh.length 0 0 (by omega);have d:rZ (0,w.dO.bh,(w.dO.bh.length:Int),0,w)=_:=c;rw[Ap,d];refine⟨_,rfl,λa=>?_⟩;simp only[zy,Bool.if_false_right,dh,fI]at a;omega
theorem ahg{r:cv}(s:sS w)(o:sS r)(F:w.dO.bh.length<=6)(E:r.dO.bh.length<=6){v:ha}(D:v.fv.length<=12)(k:v.kc.length<=300):∃b,DU (w,r,v)=some b/\DF (w,r,v)=some b:=by
 obtain⟨b,b1,b2⟩:=afB (v:=v) (by omega);rw[DU,DF];simp only[b1,b2,aW,ay];cases b with
 |false=>exact⟨false,rfl,rfl⟩
 |true=>
  simp only[dc,cx,cF];obtain⟨p,f,e,x,i,y⟩:=O6 s (by omega);obtain⟨q,g,j,A,B,C⟩:=O6 o (by omega);by_cases a:p=true/\q=true
  . obtain⟨SW,t0⟩:=y a.1;obtain⟨cB,t1⟩:=C a.2;obtain⟨⟨tw⟩,t⟩:=w;obtain⟨⟨tr⟩,u⟩:=r;have d:mO tw tr ⟨t,u⟩:=⟨t0,t1⟩
    cases v.nS with
    |true=>
     have a1:=af5 SW cB d (l:=v.fv) (by omega);have a2:=af7 SW cB d (l:=v.fv) (by omega);have a1:v8 ((⟨⟨tw⟩,t⟩:cv),(⟨⟨tr⟩,u⟩:cv),v.fv)=_:=a1;have a2:wC ((⟨⟨tw⟩,t⟩:cv),(⟨⟨tr⟩,u⟩:cv),v.fv)=_:=a2;rw[a1,a2];exact⟨_,rfl,rfl⟩
    |false=>
     obtain⟨c,a1,a2⟩:=afA SW cB d (m:=v.kc) k;have a1:wc ((⟨⟨tw⟩,t⟩:cv),(⟨⟨tr⟩,u⟩:cv),v.kc)=_:=a1;have a2:wH ((⟨⟨tw⟩,t⟩:cv),(⟨⟨tr⟩,u⟩:cv),v.kc)=_:=a2;rw[a1,a2];exact⟨_,rfl,rfl⟩
  . have he:∃z,tz (w,r)=some z/\¬z=0:=by
     rw[tz];simp only[x,A,aW,ay];by_cases ar:p=true;have f0:=i.1 ar;have n:¬q=true:=λh=>a ⟨ar,h⟩;exact⟨g,by simp[f0],λh=>n (B.2 h)⟩;have f0:¬f=0:=λh=>ar (i.2 h);exact⟨f,by simp[f0],f0⟩
    obtain⟨z,z1,z2⟩:=he;refine⟨false,?_,?_⟩
    . cases v.nS with
      |true=>
       rw[ah rfl,v8];unfold BE;simp only[e,j,aW,ay];cases p with
       |false=>rfl
       |true=>cases q with
        |false=>rfl
        |true=>exact absurd ⟨rfl,rfl⟩ a
      |false=>
       rw[cq,wc];simp only[e,j,aW,ay];cases p with
       |false=>rfl
       |true=>cases q with
        |false=>rfl
        |true=>exact absurd ⟨rfl,rfl⟩ a
    . cases v.nS with
      |true=>
       rw[ah rfl,wC];simp[z1,z2]
      |false=>
       rw[cq,wH];simp[z1,z2]
theorem VU{n:Nat}(h:∀d,d∈bM.jZ oA w->WF bM d)(c:eA bM (bM.jZ oA w) n)(aI:n<=1048576):sS w:=by
 have h1:=h ⟨.slice (.nm uv),w.dO.bh⟩ (.head _);obtain⟨a,b⟩:=aj9 h1;obtain⟨_,_,e⟩:=uk (t:= .nm uv) h1;have c:eA bM [⟨.slice (.nm uv),w.dO.bh⟩,⟨.int .i64,w.aC⟩] n:=c;obtain⟨a1,b1,l,o,aJ⟩:=hi c;obtain⟨m,r,g⟩:=BV l;refine⟨a,b,λk i=>?_,λt ht m j _=>by have:=ahf r b t ht m j;omega⟩;have f:=e k i;exact⟨xM (f ⟨.int .i64,k.br⟩ (.tail _ (.tail _ (.head _)))),xM (f ⟨.int .i64,k.bB⟩ (.tail _ (.tail _ (.tail _ (.head _)))))⟩
theorem Ku:∀{l m:I (bL bM.D)} {n:Nat},eA bM (l++m) n->∃a b,eA bM l a/\eA bM m b/\a+b<=n
 |[],m,n,h=>⟨0,n,.nil,h,by omega⟩
 |c::l,m,n,h=>by
  obtain⟨a,b,h1,e,f⟩:=hi h;obtain⟨ca,d,g1,g2,g3⟩:=Ku e;exact⟨a+ca,d,.cons h1 g1 (ek _),g2,by omega⟩
theorem ac0{r:cv}(d:sS w)(b:sS r)(v:ha):BT (w,r,v)=some true:=by
 obtain⟨p,g,i⟩:=U5 d;obtain⟨q,j,k⟩:=U5 b;rw[BT];simp only[X',g,j,aW,ay,dc,et,eL,cl];cases p with
 |false=>rfl
 |true=>
  cases q with
  |false=>rfl
  |true=>
   simp only[dc,et,eL,cl,ay];by_cases h1:12<(v.fv.length:Int);simp[h1];by_cases a:300<(v.kc.length:Int);simp[h1,a];obtain⟨c,e,f⟩:=ahg d b (i rfl) (k rfl) (v:=v) (by omega) (by omega);simp only[h1,a,e,f,ee,et,cx,cF,ay];cases c<;>rfl
theorem ajM(h:a6 bM.D [.nm oA,.nm oA,.nm E6])(d:Ok bM [.nm oA,.nm oA,.nm E6] h)(c:yj bM [.nm oA,.nm oA,.nm E6] h 1048576):BT h=some true:=match h,d,c with
 |(w,r,v),d,c=>by
  have c:eA bM (bM.jZ oA w++(bM.jZ oA r++(bM.jZ E6 v++[]))) 1048576:=c;obtain⟨a,b,z1,z2,z3⟩:=Ku c;obtain⟨ca,e,z4,z5,z6⟩:=Ku z2;exact ac0 (VU (Sd d) z1 (by omega)) (VU (Sd (ag5 d)) z4 (by omega)) v
end
end Go.Proofs.YtopcfbelfjclmaaGreatDoor
