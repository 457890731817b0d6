/- The functions of the program as functions of Lean, that its code does what they say, and what they answer; part C. -/
import Derived.Test.YtopcfbelfjclmaaGreatDoorCkB

namespace Go.Proofs.YtopcfbelfjclmaaGreatDoor
set_option linter.all false
section
open Go Go.Proofs.YtopcfbelfjclmaaGreatDoor.Shv Go.Sort
set_option maxRecDepth 100000
theorem akj{n:Nat}(h:n<=70368744177664):cn 1 n:=by
 unfold cn hD dB;grind
theorem R8{n:Nat}(h:n<=2199023255552:=by simp;omega):cn 24 n:=by
 unfold cn hD dB;grind
theorem bws{s b:aq}(h:b.length+s.length<=70368744177664:=by omega):tc (s,b)=some ((s.length:Int),b++s):=by
 rw[tc];simp only[aW,ay];rw[j1,ah (akj h)];rfl
theorem Gh(b:aq):za b=some b:=by rw[za,ah (by simp[eJ])]
theorem agV(a b:Nat):mx (a:Int) (b:Int)=((max a b:Nat):Int):=by unfold mx;omega
variable{α γ c:Type}{v:ab}{t id b2 L:Int}{x:aj}{ms:I aU}{ts:I aj}{p q:aq}{j:Nat}{ks:I ab}{so b1:az}{o:ag ab}{f:aq->ag ab}{a:ag (ab×J×I aj×az×Int×az)}{F:jf}{P:α->c->Prop}
theorem e6{l:I α}{i:Nat}(h:i<l.length)(d:α):l.drop i=l.getD i d::l.drop (i+1):=by simp_all
def jz(f:Fd):gP:=⟨(f.id:Int),f.text⟩
theorem ac5{m:aU}(a:cp m.bm)(v:ab):Ek (m,v)=some (di m v):=by
 rw[Ek];unfold di;cases c:m.bH with
 |false=>simp
 |true=>
  obtain⟨r,h1,b⟩:=Nx a v;simp only[ab.bI];grind
theorem agW{m:aU}(a:cp v)(c:m.bH):kP (v,m.bm)=some (di m v):=by
 obtain⟨r,h1,b⟩:=FA a m.bm;rw[h1];unfold di;grind
section
variable {ts:I aj}
def qP(ts:I aj)(x:ab)(t:Int):Prop:=∀L D:Nat,1<=L->L+wt x<=1125899906842624->kj (t,x,(L:Int),ts,(D:Int))=some (bG ts t x,ts,((max D (L+e4 ts t x-1):Nat):Int))
theorem NS:∀{ms:I aU} {l:I ab},(ey ts ms l).length<=ms.length
 |[],l=>by
  rw[ey];simp;grind
 |m::ms,[]=>by
  rw[ey];simp;grind
 |m::ms,v::l=>by
  rw[ey];have:=NS (ms:=ms) (l:=l);grind
theorem um(t:Int)(v:ab):1<=e4 ts t v:=by
 cases v;rw[e4];omega
theorem R9{a:I aU}(p:a.length<=1000)(d:∀m,m∈a->cp m.bm)(hid:∀m,m∈a->cD m.ai)(ak:v.aw.length=a.length)(e:∀x,x∈v.aw->∀t,(bG ts t x).length<=70368744177664)
 (g:∀i,i<a.length->di (a.getD i aH) (v.aw.getD i aM)=false->qP ts (v.aw.getD i aM) (a.getD i aH).aC)(L:Nat)(l:1<=L)(o:L+eC v.aw<1125899906842624):
 ∀(k i:Nat) (D:Nat) (acc:I gP),i+k=a.length->L<=D->acc.length+k<=100000->
 q7 ((L:Int),a,(a.length:Int),(i:Int),ts,(D:Int),v,acc)=some (ts,((max D (L+iV ts (a.drop i) (v.aw.drop i)):Nat):Int),v,acc++(ey ts (a.drop i) (v.aw.drop i)).map jz)
 |0,i,D,acc,r,j,q=>by
  rw[q7,dC,ab.bI,fx (by omega:a.length<=i)];rw[iV,ey];simp;omega;grind;grind
 |k+1,i,D,acc,r,j,q=>by
  have aD:i<a.length:=by omega
  have b:i<v.aw.length:=by omega
  rw[q7,cJ,ah (aY aD)];simp only[aW,ay,bQ,ab.bI,iu];rw[ah (aY b),ac5 (d _ (bA aD aH))];rw[e6 aD aH,e6 b aM,iV,ey];have u:=R9 p d hid ak e g L l o k (i+1);cases s:di (a.getD i aH) (v.aw.getD i aM)with
  |true=>
   simp only[ay,dc,cx,cF,cl];rw[bN];grind
  |false=>
   have f:v.aw.getD i aM∈v.aw:=bA b aM;have z:=d' f;have dJ:=g i aD s (L+1) D (by omega) (by omega);have w:=um (ts:=ts) (a.getD i aH).aC (v.aw.getD i aM);have c:=hid _ (bA aD aH);obtain⟨n,aI⟩:∃n:Nat,(a.getD i aH).ai=(n:Int):=⟨(a.getD i aH).ai.toNat,by unfold cD at c;omega⟩;simp only[ay,eL,cl,cx,cF];have y:=e _ f (a.getD i aH).aC;have aJ:a' .i64 (L:Int) 1=((L+1:Nat):Int):=bN;rw[ah (aY b),aJ,dJ];simp only[ay];rw[aI,JD (by unfold cD at c;omega)];simp only[ay];rw[ah (R8),bN,u _ _ (by omega) (by omega) (by simp;omega)];have:(⟨(n:Int),gv n (a.getD i aH).b4 (bG ts (a.getD i aH).aC (v.aw.getD i aM))⟩:gP)=jz ⟨(n:Int).toNat,(a.getD i aH).b4,bG ts (a.getD i aH).aC (v.aw.getD i aM)⟩:=(by rfl);simp_all
theorem Sa{R:I ch}(b:∀x,x∈R->cD x.ai/\x.bT.length<=reachBytes)(c:R.length<=2199023255552)(D:Int):∀(k i:Nat) (acc:I gP),i+k=R.length->acc.length+k<=2199023255552->
 q6 (R,(R.length:Int),(i:Int),ts,D,acc)=some (ts,D,acc++((R.drop i).map iE).map jz)
 |0,i,acc,f,d=>by
  rw[q6,dC,fx (by omega:R.length<=i)];simp
 |k+1,i,acc,f,d=>by
  have aD:i<R.length:=by omega
  obtain⟨a,e⟩:=b _ (bA aD cj);obtain⟨n,aI⟩:∃n:Nat,(R.getD i cj).ai=(n:Int):=⟨(R.getD i cj).ai.toNat,by unfold cD at a;omega⟩
  unfold reachBytes at e;rw[q6,cJ,ah (aY aD)];simp only[aW,ay,bQ];rw[aI,JD (by unfold cD at a;omega)];simp only[ay];rw[ah (R8),bN,Sa b c D k (i+1) _ (by omega) (by simp;omega),e6 aD cj];have:(⟨(n:Int),gv n false (R.getD i cj).bT⟩:gP)=jz (iE (R.getD i cj)):=by
   show _=(⟨(((R.getD i cj).ai.toNat:Nat):Int),gv (R.getD i cj).ai.toNat false (R.getD i cj).bT⟩:gP);grind
  grind
theorem Sb{l:I Fd}(D:Int):∀(k i:Nat) (b:aq),i+k=l.length->l.length<=2199023255552->b.length+((l.drop i).flatMap Fd.text).length<=70368744177664->
 tI ((l.length:Int),(i:Int),ts,D,l.map jz,b)=some (ts,D,b++(l.drop i).flatMap Fd.text)
 |0,i,b,c,_,a=>by
  rw[tI,dC,fx (by omega:l.length<=i)];simp
 |k+1,i,b,c,ak,a=>by
  have aD:i<l.length:=by omega
  rw[tI,cJ,ah (aY (by simp;omega)),cJ];rw[e6 aD default]at a⊢;simp only[hd,eh]at a⊢;have av:(l.map jz).getD i wo=jz (l.getD i default):=jw jz l i default wo aD;simp only[bQ,av];have:(jz (l.getD i default)).text=(l.getD i default).text:=rfl;rw[this,bws];simp only[aW,ay];rw[bN,Sb D k (i+1) _ (by omega) ak (by rw[eh];omega)];simp
end
structure kf (ts:List aj):Prop where
 n:ts.length<=1000
 T:∀t,t∈ts->e5 t
 K:∀t,t∈ts->ly t.ae
 M:SR ts
 A:∀x,x∈ts->(x.ae=5\/x.ae=6)->h9 x.af/\x.af.length<=16
 S:∀x,x∈ts->x.ae=4->∀y,y∈x.bc->cD y.ai
 qM:∀x,x∈ts->x.ae=8->1<=(ts.getD x.aR.toNat aN).ae/\(ts.getD x.aR.toNat aN).ae<=4
section
variable {ts:I aj}
theorem o4{t:Int}{v:ab}(h:(ts.getD t.toNat aN).ae=1):bG ts t v=if v.ct then[1]else[]:=by cases v;rw[bG];simp only[h];rfl
theorem qE{t:Int}{v:ab}(h:(ts.getD t.toNat aN).ae=2):bG ts t v=ei (fP v.bE).toNat:=by cases v;rw[bG];simp only[h];rfl
theorem qF{t:Int}{v:ab}(h:(ts.getD t.toNat aN).ae=3):bG ts t v=v.bZ:=by cases v;rw[bG];simp only[h];rfl
theorem qG{t:Int}{v:ab}(h:(ts.getD t.toNat aN).ae=4):bG ts t v=ei v.ai.toNat:=by cases v;rw[bG];simp only[h];rfl
theorem B2{t:Int}{v:ab}(h:(ts.getD t.toNat aN).ae=5):bG ts t v=(hp fe (fE ts (ts.getD t.toNat aN).af v.aw v.aX)).flatMap Fd.text:=by cases v;rw[bG];simp only[h];rfl
theorem B3{t:Int}{v:ab}(h:(ts.getD t.toNat aN).ae=6):bG ts t v=eU v.ai.toNat++(match cw (ts.getD t.toNat aN).af v.ai with
 |some m=>(cK ts m.aC v.aw).headD []
 |none=>(v.aX.map ch.bT).headD []):=by
 cases v;rw[bG];simp only[h];rfl
theorem B4{t:Int}{v:ab}(h:(ts.getD t.toNat aN).ae=7):bG ts t v=(cK ts (ts.getD t.toNat aN).aF v.aw).flatMap c':=by cases v;rw[bG];simp only[h];rfl
theorem B5{t:Int}{v:ab}(h:(ts.getD t.toNat aN).ae=8):bG ts t v=gI (cK ts (ts.getD t.toNat aN).aR v.a7) (cK ts (ts.getD t.toNat aN).aF v.aw):=by cases v;rw[bG];simp only[h];rfl
theorem B6{t:Int}{v:ab}(h:(ts.getD t.toNat aN).ae=9):bG ts t v=match cK ts (ts.getD t.toNat aN).aF v.aw with
 |[]=>[]
 |p::_=>1::p:=by
 cases v;rw[bG];simp only[h];rfl
theorem rO(t:Int)(v:ab):e4 ts t v=1+max (if v.a7=[]then 0 else 1) (if(ts.getD t.toNat aN).ae=5 then iV ts (ts.getD t.toNat aN).af v.aw
 else if(ts.getD t.toNat aN).ae=6 then(match cw (ts.getD t.toNat aN).af v.ai with
  |some m=>gn ts m.aC v.aw
  |none=>0)
 else gn ts (ts.getD t.toNat aN).aF v.aw):=by
 cases v;rw[e4];try rfl
theorem p8(c:v.a7=[])(b:v.aw=[]):e4 ts t v=1:=by
 rw[rO,c,b];have h1:gn ts (ts.getD t.toNat aN).aF []=0:=by rw[gn]
 have a:iV ts (ts.getD t.toNat aN).af []=0:=by rw[iV];intros;simp_all
 rw[h1,a]
 have d:(match cw (ts.getD t.toNat aN).af v.ai with
  |some m=>gn ts m.aC []
  |none=>0)=0:=by
  split;rw[gn];rfl
 grind
theorem NT(b:¬x.ae=8)(d:∀y,y∈v.aw->(bG ts x.aF y).length<=1000000000000000)(e:∀y,y∈v.aw->qP ts y x.aF)(ak:v.aw.length<=reachBytes)(L:Nat)(g:1<=L)(j:L+eC v.aw<1125899906842624):
 ∀(k i D:Nat) (acc:aq),i+k=v.aw.length->L<=D->acc.length+((cK ts x.aF (v.aw.drop i)).flatMap c').length<=70368744177664->
 l4 ((L:Int),v.aw,(v.aw.length:Int),(i:Int),ts,(D:Int),v,x,acc)=some (ts,((max D (L+gn ts x.aF (v.aw.drop i)):Nat):Int),acc++(cK ts x.aF (v.aw.drop i)).flatMap c')
 |0,i,D,acc,l,f,c=>by
  rw[l4,dC,fx (by omega:v.aw.length<=i),gn,cK];simp;omega
 |k+1,i,D,acc,l,f,c=>by
  have aD:i<v.aw.length:=by omega
  have n:=eI ak;have a:v.aw.getD i aM∈v.aw:=bA aD aM;have o:=d' a;rw[e6 aD aM,cK,hd,eh]at c;have ar:=d _ a;have dJ:=e _ a (L+1) D (by omega) (by omega);have m:=um (ts:=ts) x.aF (v.aw.getD i aM);have aJ:a' .i64 (L:Int) 1=((L+1:Nat):Int):=bN;rw[l4,cJ,ah (aY aD)];simp only[aW,ay,bQ,ab.bI];rw[au (by simp[b]),aJ,dJ];simp only[ay];rw[ES];simp only[ay];rw[bws];simp only[ay];rw[bN,NT b d e ak L g j k (i+1) _ _ (by omega) (by omega) (by rw[eh];omega),e6 aD aM,gn,cK,hd,lL];grind
theorem OZ(d:x.ae=8)(r:v.aw.length=v.a7.length)(g:∀y,y∈v.aw->(bG ts x.aF y).length<=1000000000000000)(j:∀y,y∈v.a7->(bG ts x.aR y).length<=1000000000000000)
 (l:∀y,y∈v.aw->qP ts y x.aF)(m:∀y,y∈v.a7->qP ts y x.aR)(h1:∀y,y∈v.a7->e4 ts x.aR y=1)(ak:v.aw.length<=reachBytes)(L:Nat)(o:1<=L)(p:L+eC v.aw+eC v.a7<1125899906842624):
 ∀(k i D:Nat) (acc:aq),i+k=v.aw.length->L<=D->acc.length+(gI (cK ts x.aR (v.a7.drop i)) (cK ts x.aF (v.aw.drop i))).length<=70368744177664->
 l4 ((L:Int),v.aw,(v.aw.length:Int),(i:Int),ts,(D:Int),v,x,acc)=some (ts,((max D (L+max (if v.a7.drop i=[]then 0 else 1) (gn ts x.aF (v.aw.drop i))):Nat):Int),acc++gI (cK ts x.aR (v.a7.drop i)) (cK ts x.aF (v.aw.drop i)))
 |0,i,D,acc,q,n,f=>by
  rw[l4,dC,fx (by omega:v.aw.length<=i),fx (by omega:v.a7.length<=i),gn,cK,cK,gI];simp;omega;grind
 |k+1,i,D,acc,q,n,f=>by
  have aD:i<v.aw.length:=by omega
  have a:i<v.a7.length:=by omega
  have u:=eI ak;have c:v.aw.getD i aM∈v.aw:=bA aD aM;have b:v.a7.getD i aM∈v.a7:=bA a aM;have w:=d' c;have z:=d' b;rw[e6 aD aM,e6 a aM,cK,cK,gI,eh,eh]at f;have ar:=g _ c;have t:=j _ b;have e:=m _ b (L+1) D (by omega) (by omega);rw[h1 _ b]at e;have dJ:=l _ c (L+1) (max D (L+1+1-1)) (by omega) (by omega);have s:=um (ts:=ts) x.aF (v.aw.getD i aM);have aJ:a' .i64 (L:Int) 1=((L+1:Nat):Int):=bN;rw[l4,cJ,ah (aY aD)];simp only[aW,ay,bQ,ab.bI];rw[ah (by simp[d]),ah (aY a),aJ,e];simp only[ay];rw[ES];simp only[ay];rw[bws];simp only[ay];rw[dJ];simp only[ay];rw[ES];simp only[ay];rw[bws (by rw[eh];omega)];simp only[ay];rw[bN,OZ d r g j l m h1 ak L o p k (i+1) _ _ (by omega) (by omega) (by rw[eh,eh];omega),e6 aD aM,e6 a aM,gn,cK,cK,gI,lL,lL];grind
end
section
variable {ts:I aj}(H:kf ts)
theorem np(H:kf ts)(a:cp v)(b:wt v<=1099511627776)(t:Int):(bG ts t v).length<=23089744183296:=by
 have:=af2 H.M a b t;omega
theorem aeP{l:I ab}{r:I ch}(h:h9 ms)(d:iO ms r):Is ((fE ts ms l r).map jz)=some ((hp fe (fE ts ms l r)).map jz):=by
 have e:∀a b,lR (jz a) (jz b)=fe a b:=λa b=>by unfold lR fe jz;simp
 have f:SWO lR:=by refine⟨λx=>?_,λx y z h1 c=>?_,λx y z h1 c=>?_⟩<;>simp[lR]at*<;>omega
 have ar:kq lR ((fE ts ms l r).map jz):=by
  have h0:=Ac (ts:=ts) (l:=l) h d;generalize fE ts ms l r=q at h0;induction q with
  |nil=>rfl
  |cons a q ih=>
   grind[kq]
 grind[Is,QN,OV]
theorem CP{D L b w:Nat}(h:w=1+b):max (max D L) (L+b)=max D (L+w-1):=by omega
theorem aj1{D L b w:Nat}(h:w=1+b):max (max D L) (L+1+b-1)=max D (L+w-1):=by omega
theorem Vm{b w:Nat}(h:w=1+max 0 b):w=1+b:=by omega
theorem agX(k:∀m,m∈x.af->cp m.bm)(c:h9 x.af)(J:x.af.length<=16)(b:iO x.af v.aX)(o:v.aw.length=x.af.length)
 (s:∀y,y∈v.aX->y.bT.length<=reachBytes)(H:∀x,x∈v.aw->∀t,(bG ts t x).length<=23089744183296)
 (j:∀i,i<x.af.length->qP ts (v.aw.getD i aM) (x.af.getD i aH).aC)
 (I:((hp fe (fE ts x.af v.aw v.aX)).flatMap Fd.text).length<=23089744183296)
 (L D:Nat)(f:1<=L)(C:L<=D)(E:L+eC v.aw<1125899906842624)(G:(v.aX.map λx=>x.bT.length+1).sum<=1099511627776):
 Dl (x,v,(L:Int),ts,(D:Int))=some ((hp fe (fE ts x.af v.aw v.aX)).flatMap Fd.text,ts,((max D (L+iV ts x.af v.aw):Nat):Int)):=by
 have r:=c.2;have g:∀y,y∈v.aX->cD y.ai/\y.bT.length<=reachBytes:=λy al=>⟨(b.2 y al).1,s y al⟩
 have F:v.aX.length<=(v.aX.map λx=>x.bT.length+1).sum:=by
  generalize v.aX=R;induction R with
  |nil=>simp
  |cons a R ih=>grind
 have K:=NS (ts:=ts) (ms:=x.af) (l:=v.aw);have u:=R9 (by omega) k r o (λy al t=>by grind) (λi n _=>j i n) L f (by omega) x.af.length 0 D [] (by simp) (by omega) (by grind);have w:q7 ((L:Int),x.af,x.af.length,0,ts,D,v,[])=_:=u;rw[Dl];simp only[ab.bI];rw[w];simp only[aW,ay,eZ,jE];generalize ((max D (L+iV ts x.af v.aw):Nat):Int)=d;have A:=Sa (ts:=ts) g (by omega) d v.aX.length 0 ((ey ts x.af v.aw).map jz) (by simp) (by grind);have B:q6 (v.aX,(v.aX.length:Int),0,ts,d,(ey ts x.af v.aw).map jz)=_:=A;rw[B];simp only[ay,eZ];rw[<-xk];have hs:=aeP (ts:=ts) (l:=v.aw) c b;have dp:ey ts x.af v.aw++v.aX.map iE=fE ts x.af v.aw v.aX:=rfl;rw[dp];generalize fE ts x.af v.aw v.aX=q at*;rw[hs];simp only[ay];have e:=lr fe q;rw[ah (by simp[e.length_eq])];have p:(hp fe q).length<=2199023255552:=by rw[e.length_eq];grind
 generalize hp fe q=z at*;have M:=Sb (ts:=ts) (l:=z) d z.length 0 [] (ij _) p (by grind);simp_all[Gh]
theorem aeQ(s:x.af.length<9223372036854775807)(u:h9 x.af)(G: -9223372036854775808<=v.ai/\v.ai<=9223372036854775807)
 (b:match cw x.af v.ai with
  |some m=>v.aX=[]/\v.aw.length=1/\fu ts false m.aC v.aw
  |none=>x.bt=true/\True/\cD v.ai/\v.aw=[]/\∃d,v.aX=[⟨v.ai,d⟩])
 (z:∀y,y∈v.aX->y.bT.length<=reachBytes)(p:∀x,x∈v.aw->∀t,(bG ts t x).length<=23089744183296)
 (o:∀x,x∈v.aw->∀t,dj ts false t x->qP ts x t)
 (L D:Nat)(C:1<=L)(B:L<=D)(E:L+eC v.aw<1125899906842624):
 zg (x,v,(L:Int),ts,(D:Int)) = some (eU v.ai.toNat++(match cw x.af v.ai with
  |some m=>(cK ts m.aC v.aw).headD []
  |none=>(v.aX.map ch.bT).headD []),ts,((max D (L+(match cw x.af v.ai with
  |some m=>gn ts m.aC v.aw
  |none=>0)):Nat):Int)):=by
 obtain⟨r,j,_,c⟩:=ni (t:=x) v.ai s;rcases t' c with⟨e,q,i,A,a,H⟩|⟨e,a⟩
 . rw[a]at b;rw[a];obtain⟨d1,d2,d3⟩:=b;have l:=u.2 _ (bA i aH);obtain⟨n,aI⟩:∃n:Nat,v.ai=(n:Int):=⟨v.ai.toNat,by grind[cD]⟩
   rw[zg];simp only[ab.bI];rw[j,aI,hS (by grind),ql (by grind)];simp only[aW,ay];rw[au (by grind),A,ah (aY i)]
   match l:v.aw,d2 with
   |[y],_=>
    have al:y∈v.aw:=(by grind);have g:aE 0 [y].length:=aY (k:=0) (by simp);have F:=d' al;have c:=dv.1 d3 y al;have dJ:=o y al _ c (L+1) D (by simp) (by omega);have aJ:a' .i64 (L:Int) 1=((L+1:Nat):Int):=bN;rw[ah g,aJ];simp only[bQ,xn,sr];rw[dJ];have ar:=p y al (x.af.getD q aH).aC;have w:=je (n:=n) (by grind);simp only[ay];rw[ah (g')];grind[um,gn,cK]
 . rw[a]at b;rw[a];obtain⟨d1,d2,d3,d4,d,d5⟩:=b;obtain⟨n,aI⟩:∃n:Nat,v.ai=(n:Int):=⟨v.ai.toNat,by grind[cD]⟩
   have f:=z ⟨v.ai,d⟩ (by grind);simp only at f;unfold reachBytes at f;have w:=je (n:=n) (by grind);rw[zg];rw[j,d5,aI,hS (by grind),ql (by grind)];simp only[aW,ay];have g:aE 0 ([⟨(n:Int),d⟩]:I ch).length:=aY (k:=0) (by simp);simp only[xn,sr];rw[ah (g')];grind
set_option maxHeartbeats 400000 in
theorem agY(H:kf ts)(aT:cp v):wt v<=1099511627776->∀t,dj ts false t v->qP ts v t:=by
 induction aT with
 |mk v hs h1 K aB Z G P a1 V av a2 a0 aZ=>
  intro aV t o L D F a5;have aH:cp v:= .mk v hs h1 K aB Z G P a1 V av a2;have a9:=hT v;have C:=λx aa t=>np H (G x aa) (by have:=d' aa;omega) t;have aS:∀x,x∈v.a7->∀t,(bG ts t x).length<=23089744183296:=λx aa t=>np H (Z x aa) (by have:=d' aa;omega) t;have B:∀x,x∈v.aw->∀t,dj ts false t x->qP ts x t:=λx aa t=>aZ x aa (by have:=d' aa;omega) t;have aK:=λx aa t=>a0 x aa (by have:=d' aa;omega) t;have N:=np H aH aV t;obtain⟨⟨g1,g2,g3,_⟩,o⟩:=(hF _ _ _).1 o;obtain⟨j,rfl⟩:∃j:Nat,t=(j:Int):=⟨t.toNat,by omega⟩
  have Y:j<ts.length:=by omega
  rw[kj];simp only[aW,ay];rw[ah (aY Y),agV];simp only[bQ,ab.bI]at o g3⊢;have E:=bA Y aN;have u:=rO (ts:=ts) (j:Int) v;have aU:=@o4 ts (j:Int) v;have aj:=@qE ts (j:Int) v;have am:=@qF ts (j:Int) v;have an:=@qG ts (j:Int) v;have Q:=@B2 ts (j:Int) v;have ao:=@B3 ts (j:Int) v;have R:=@B4 ts (j:Int) v;have U:=@B5 ts (j:Int) v;have ap:=@B6 ts (j:Int) v;simp only[bQ]at u aU aj am an Q ao R U ap;have W:=H.A _ E;have aD:=H.qM _ E;have aG:=H.S _ E;generalize ts.getD j aN=x at*;have ad:¬x.ae=5->¬x.ae=6->v.a7=[]->e4 ts (j:Int) v=1+gn ts x.aF v.aw:=λa b c=>by grind
  have J:v.a7=[]->v.aw=[]->max D (L+e4 ts (j:Int) v-1)=max D L:=λa b=>by rw[p8 a b];omega
  rcases o with⟨k,p,q,r,g,f,s⟩|⟨k,p,q,r,g,f,s,l,w⟩|⟨k,p,q,r,g,f,s,l⟩|⟨k,p,q,r,g,f,s,l⟩|⟨k,p,q,r,g,f,s,l⟩|⟨k,p,q,r,g,f⟩|⟨k,p,q,r,g,f,s,l,w⟩|⟨k,p,q,r,g,f,s,l,w,ax,a4⟩|⟨k,p,q,r,g,f,s,l,w⟩<;>rw[k]at g3;grind
  . have d:=g3.symm;rw[au (by simp[d]),ah (by simp[d]),aj d,J g f,xL V];simp only[ay];have aq:=xN V;obtain⟨n,aI⟩:∃n:Nat,fP v.bE=(n:Int):=⟨(fP v.bE).toNat,by unfold fP;split<;>omega⟩
    rw[aI,e3]at aq;rw[aI,Ft aq];rfl
  have d:=g3.symm;rw[au (by simp[d]),au (by simp[d]),ah (by simp[d]),am d,J g f]
  . have d:=g3.symm;rw[au (by simp[d]),au (by simp[d]),au (by simp[d]),ah (by simp[d]),an d,J g f]
    obtain⟨n,aI⟩:∃n:Nat,v.ai=(n:Int):=⟨v.ai.toNat,by
     rcases l with⟨y,al,he⟩|⟨_,_,he⟩;have:=aG d y al;unfold cD at this;omega
     . unfold cD at he;omega⟩
    rw[aI,hS,Ft (by omega),e3];rfl
  have d:=g3.symm;rw[au (by simp[d]),au (by simp[d]),au (by simp[d]),au (by simp[d]),ah (by simp[d]),Q d];obtain⟨O,ag⟩:=W (.inl d);obtain⟨aO,aP⟩:=jR.1 l;rw[agX (H.T _ E).hj O ag s aO (λy al=>P y al) C (λi G=>B _ (bA (by omega) aM) _ (aP i G)) (by rw[<-Q d];exact N) L (max D L) F (by omega) (by omega) (by omega)];simp only[ay];rw[ah d,ah f]at u;have e:max (max D L) (L+iV ts x.af v.aw)=max D (L+e4 ts (j:Int) v-1):=CP (Vm u);rw[e]
  . have d:=g3.symm;rw[au (by simp[d]),au (by simp[d]),au (by simp[d]),au (by simp[d]),au (by simp[d]),ah (by simp[d]),ao d];obtain⟨O,ag⟩:=W (.inr d);rw[au (show ¬x.ae=5 by omega),ah d,ah g]at u;rw[aeQ (eI (iw (H.T _ E).hq)) O av f (λy al=>P y al) C B L (max D L) F (by omega) (by omega)];simp only[ay]
    exact dA (λz:Nat=>some (eU v.ai.toNat++(match cw x.af v.ai with
     |some m=>(cK ts m.aC v.aw).headD []
     |none=>(v.aX.map ch.bT).headD []),ts,(z:Int))) (CP (D:=D) (L:=L) (Vm u))
  have d:=g3.symm;rw[au (by simp[d]),au (by simp[d]),au (by simp[d]),au (by simp[d]),au (by simp[d]),au (by simp[d]),au (by simp[d])];have o:=dv.1 w;rw[R d]at N;have:=NT (x:=x) (v:=v) (by omega) (λy al=>by have:=C y al x.aF;omega) (λy al=>B y al x.aF (o y al)) K L F (by omega) v.aw.length 0 (max D L) [] (by omega) (by omega) (by simp only[eZ,lM];omega);have h0:l4 ((L:Int),v.aw,(v.aw.length:Int),0,ts,((max D L:Nat):Int),v,x,[])=_:=this;rw[h0];simp only[ay,Gh];have ak:=ad (by omega) (by omega) f;have e:max (max D L) (L+gn ts x.aF v.aw)=max D (L+e4 ts (j:Int) v-1):=CP ak;rw[R d,eZ,jE,e]
  . have d:=g3.symm;rw[au (by simp[d]),au (by simp[d]),au (by simp[d]),au (by simp[d]),au (by simp[d]),au (by simp[d]),au (by simp[d])];have o:=dv.1 ax;have X:=dv.1 w;rw[U d]at N;obtain⟨ba,bb⟩:=aD d;have aQ:∀y,y∈v.a7->e4 ts x.aR y=1:=λy al=>by
     obtain⟨⟨_,_,a3,_⟩,b⟩:=(hF _ _ _).1 (X y al);apply p8<;>grind
    have:=OZ (x:=x) (v:=v) d l (λy al=>by have:=C y al x.aF;omega) (λy al=>by have:=aS y al x.aR;omega) (λy al=>B y al x.aF (o y al)) (λy al=>aK y al x.aR (X y al)) aQ K L F (by omega) v.aw.length 0 (max D L) [] (by omega) (by omega) (by simp only[eZ,lM];omega);have h0:l4 ((L:Int),v.aw,(v.aw.length:Int),0,ts,((max D L:Nat):Int),v,x,[])=_:=this;rw[h0];simp only[ay,Gh];rw[au (show ¬x.ae=5 by omega),au (show ¬x.ae=6 by omega)]at u;simp only[eZ,jE];have e:max (max D L) _=max D (L+e4 ts (j:Int) v-1):=CP u;rw[U d,e]
  . have d:=g3.symm;rw[au (by simp[d]),au (by simp[d]),au (by simp[d]),au (by simp[d]),au (by simp[d]),au (by simp[d]),ah (by simp[d]),ap d];have o:=dv.1 w
    match M:v.aw,l with
    |[],_=>rw[j1,J f M,cK]
    |[y],_=>
     have al:y∈v.aw:=by rw[M];exact .head _
     have aL:aE 0 ([y]:I ab).length:=aY (k:=0) (by simp);rw[cq,ah aL];have a8:=d' al;have dJ:=B y al x.aF (o y al) (L+1) (max D L) (by omega) (by omega);have aJ:a' .i64 (L:Int) 1=((L+1:Nat):Int):=bN;rw[aJ];simp only[xn,sr];rw[dJ];have ar:=C y al x.aF;simp only[ay];rw[ah (g' (by simp;omega))];have ak:=ad (by omega) (by omega) f;rw[M]at ak;have a6:=um (ts:=ts) x.aF y;have aA:gn ts x.aF [y]=e4 ts x.aF y:=by
      have dp:gn ts x.aF []=0:=by rw[gn]
      rw[gn,dp];omega
     have az:cK ts x.aF [y]=[bG ts x.aF y]:=by rw[cK,cK]
     rw[aA]at ak;have e:max (max D L) (L+1+e4 ts x.aF y-1)=max D (L+e4 ts (j:Int) v-1):=aj1 ak;rw[az,e];rfl
    |a::b::c,h=>simp at h
end
section
variable {ts:I aj}
def kM(ts:I aj)(x:ab)(t:Int):Prop:=km ((⟨ts⟩:aT),t,x)=some (bG ts t x)
theorem O0(b:∀y,y∈v.aw->(bG ts x.aF y).length<=1000000000000000)(d:∀y,y∈v.aw->kM ts y x.aF)(ak:v.aw.length<=reachBytes):
 ∀(k i:Nat) (acc:aq),i+k=v.aw.length->acc.length+((cK ts x.aF (v.aw.drop i)).flatMap c').length<=70368744177664->
 tJ (acc,(i:Int),ts,v,x)=some (acc++(cK ts x.aF (v.aw.drop i)).flatMap c')
 |0,i,acc,e,a=>by
  rw[tJ,dC,fx (by omega:v.aw.length<=i),cK];simp
 |k+1,i,acc,e,a=>by
  have aD:i<v.aw.length:=by omega
  have f:=eI ak;have c:v.aw.getD i aM∈v.aw:=bA aD aM;rw[e6 aD aM,cK,hd,eh]at a;have ar:=b _ c;have dJ:=d _ c;unfold kM at dJ;rw[tJ,cJ,ah (aY aD)];simp only[aW,ay,bQ,ab.bI];rw[dJ];simp only[ay];rw[Eb];simp only[ay];rw[ah (g'),bN,O0 b d ak k (i+1) _ (by omega) (by rw[eh];omega),e6 aD aM,cK,hd,lL]
theorem Q6(n:v.aw.length=v.a7.length)(d:∀y,y∈v.aw->(bG ts x.aF y).length<=1000000000000000)(e:∀y,y∈v.a7->(bG ts x.aR y).length<=1000000000000000)
 (j:∀y,y∈v.aw->kM ts y x.aF)(l:∀y,y∈v.a7->kM ts y x.aR)(ak:v.aw.length<=reachBytes):
 ∀(k i:Nat) (acc:aq),i+k=v.aw.length->acc.length+(gI (cK ts x.aR (v.a7.drop i)) (cK ts x.aF (v.aw.drop i))).length<=70368744177664->
 tK (acc,(i:Int),ts,v,x)=some (acc++gI (cK ts x.aR (v.a7.drop i)) (cK ts x.aF (v.aw.drop i)))
 |0,i,acc,m,c=>by
  rw[tK,dC,fx (by omega:v.aw.length<=i),fx (by omega:v.a7.length<=i),cK,cK,gI];simp;grind
 |k+1,i,acc,m,c=>by
  have aD:i<v.aw.length:=by omega
  have a:i<v.a7.length:=by omega
  have p:=eI ak;have f:v.aw.getD i aM∈v.aw:=bA aD aM;have g:v.a7.getD i aM∈v.a7:=bA a aM;rw[e6 aD aM,e6 a aM,cK,cK,gI,eh,eh]at c;have ar:=d _ f;have o:=e _ g;have dJ:=j _ f;have b:=l _ g;unfold kM at dJ b;rw[tK,cJ,ah (aY a)];simp only[aW,ay,bQ,ab.bI];rw[b];simp only[ay];rw[Eb];simp only[ay];rw[ah (g'),ah (aY aD),dJ];simp only[ay];rw[Eb];simp only[ay];rw[ah (g' (by rw[eh];omega)),bN,Q6 n d e j l ak k (i+1) _ (by omega) (by rw[eh,eh];omega),e6 aD aM,e6 a aM,cK,cK,gI,lL,lL]
def lz(R:I ch)(n:Nat):I Fd:=(R.filter λx=>(x.ai=(n:Int):J)).map iE
theorem ac6{a:ch}{l:I ch}{n:Nat}(h:a.ai=(n:Int)):lz (a::l) n=iE a::lz l n:=by unfold lz;rw[List.filter_cons,ah (by rw[h];simp),mB]
theorem aeR{a:ch}{l:I ch}{n:Nat}(h:¬a.ai=(n:Int)):lz (a::l) n=lz l n:=by unfold lz;rw[List.filter_cons,au (by simpa using h)]
theorem akd{m:aU}{w:ab}(b:cp w)(A B:ag γ):
 ((if !(!m.bH) then kP (w,m.bm)else some false).bind λc=>if(bif (!m.bH)then true else(!c)) then A else B)=if di m w then B else A:=by
 cases a:m.bH with
 |false=>
  have:di m w=false:=by unfold di;rw[a];rfl
  rw[this];rfl
 |true=>
  have:=agW b a;simp only[dc,eL,cl,this];cases di m w<;>rfl
theorem IZ(d:∀y,y∈v.aX->y.bT.length<=reachBytes)(c:v.aX.length<=reachBytes)(n:Nat)(aI:n<=1000):
 ∀(k i:Nat) (b:aq),i+k=v.aX.length->b.length+((lz (v.aX.drop i) n).flatMap Fd.text).length<=70368744177664->
 nu (b,(n:Int),(i:Int),ts,v,x)=some (b++(lz (v.aX.drop i) n).flatMap Fd.text,(n:Int),ts,v,x)
 |0,i,b,g,a=>by
  rw[nu,dC,fx (by omega:v.aX.length<=i),ab.bI];simp[lz]
 |k+1,i,b,g,a=>by
  have aD:i<v.aX.length:=by omega
  have j:=eI c;have f:=d _ (bA aD cj);unfold reachBytes at f;rw[e6 aD cj]at a;rw[nu,cJ,ah (aY aD)];simp only[aW,ay,bQ,ab.bI];rw[e6 aD cj];by_cases e:(v.aX.getD i cj).ai=(n:Int)
  . rw[ac6 e,hd]at a⊢;have ht:(iE (v.aX.getD i cj)).text=gv n false (v.aX.getD i cj).bT:=by unfold iE Fd.text;rw[e];rfl
    rw[ht,eh]at a;rw[ah (by rw[e];simp),ah (aY aD),LW (by omega) (by omega)];simp only[ay];rw[ah (g'),bN,IZ d c n aI k (i+1) _ (by omega) (by rw[eh];omega),ht,lL]
  rw[aeR e]at a⊢;rw[au (by simpa using e),bN,IZ d c n aI k (i+1) _ (by omega) a]
noncomputable def yV (ts:I aj)(x:aj)(v:ab)(n:Nat):I Fd:=(fE ts x.af v.aw v.aX).filter λf=>(f.id=n:J)
theorem Jv{x:aj}(q:x.af.length<9223372036854775807)(s:h9 x.af)(z:iO x.af v.aX)(l:v.aw.length=x.af.length)
 (w:∀y,y∈v.aX->y.bT.length<=reachBytes)(g:v.aX.length<=reachBytes)(u:∀y,y∈v.aw->cp y)(o:∀x,x∈v.aw->∀t,(bG ts t x).length<=23089744183296)
 (A:∀i,i<x.af.length->kM ts (v.aw.getD i aM) (x.af.getD i aH).aC):
 ∀(k n:Nat) (b:aq),n+k=1001->1<=n->b.length+(((List.range' n k).flatMap (yV ts x v)).flatMap Fd.text).length<=70368744177664->
 pw (b,(n:Int),ts,v,x)=some (b++((List.range' n k).flatMap (yV ts x v)).flatMap Fd.text)
 |0,n,b,K,h1,a=>by
  rw[pw,dC];simp
 |k+1,n,b,K,h1,a=>by
  have L:∀y,y∈v.aX->0<=y.ai:=λy al=>by have:=(z.2 y al).1;unfold cD at this;omega
  have av:yV ts x v n=((ey ts x.af v.aw).filter λf=>(f.id=n:J))++lz v.aX n:=by
   unfold yV fE lz;rw[Hf,acP _ _ L]
  rw[zv,hd,Hc,av,Hc]at a⊢;simp only[eh]at a;rw[pw,cJ];obtain⟨r,_,Q,H⟩:=ni (t:=x) (n:Int) q;simp only[aW,ay,bQ,ab.bI];rw[Q];simp only[ay];have B:∀c:aq,c.length+((lz v.aX n).flatMap Fd.text).length<=70368744177664->nu (c,(n:Int),0,ts,v,x)=some (c++(lz v.aX n).flatMap Fd.text,(n:Int),ts,v,x):=λc h=>by
   have:=IZ (ts:=ts) (x:=x) w g n (by omega) v.aX.length 0 c (by omega) (by simpa using h);grind
  rcases t' H with⟨e,j,C,O,G,P⟩|⟨e,G⟩
  . have p:j<v.aw.length:=(by omega);have D:v.aw.getD j aM∈v.aw:=bA p aM;have d:=AX (ts:=ts) (AQ s) l C (n:=n) (by rw[P];simp);rw[ah e,O,ah (aY C)];rw[ah (by rw[aY p];rfl)];simp only[bQ];rw[akd (u _ D)];have F:=Jv q s z l w g u o A k (n+1);cases E:di (x.af.getD j aH) (v.aw.getD j aM)with
    |true=>
     rw[E,ah rfl]at d;rw[d]at a⊢;rw[ah rfl,B b (by omega)];simp only[ay,ab.bI];rw[bN,F _ (by omega) (by omega) (by rw[eh];omega)];simp
    |false=>
     rw[E,cq]at d;rw[d]at a⊢;have ar:=o _ D (x.af.getD j aH).aC;have dJ:=A j C;unfold kM at dJ;have ht:([⟨n,(x.af.getD j aH).b4,bG ts (x.af.getD j aH).aC (v.aw.getD j aM)⟩]:I Fd).flatMap Fd.text=gv n (x.af.getD j aH).b4 (bG ts (x.af.getD j aH).aC (v.aw.getD j aM)):=by simp only[hd,List.flatMap_nil,nF];rfl
     rw[ht]at a⊢;rw[cq,ah (aY p),dJ];simp only[ay];rw[LW (by omega) (by omega)];simp only[ay];rw[ah (g'),B _ (by rw[eh];omega)];simp only[ay,ab.bI];rw[bN,F _ (by omega) (by omega) (by rw[eh,eh];omega)];grind
  . have N:((ey ts x.af v.aw).filter λf=>(f.id=n:J))=[]:=MW λm M=>by
     have:=mi G m M;omega
    rw[N]at a⊢;rw[au (by simp[e]),B b (by omega)];simp only[ay,ab.bI];rw[bN,Jv q s z l w g u o A k (n+1) _ (by omega) (by omega) (by rw[eh];omega)];simp
set_option maxHeartbeats 400000 in
theorem Jw(H:kf ts)(aS:cp v):wt v<=1099511627776->∀t,dj ts false t v->kM ts v t:=by
 induction aS with
 |mk v hs h1 O X ae P Q a0 V W a1 aZ aV=>
  intro aU t o;have aA:cp v:= .mk v hs h1 O X ae P Q a0 V W a1;have a6:=hT v;have G:=λx aa t=>np H (P x aa) (by have:=d' aa;omega) t;have aO:=λx aa t=>np H (ae x aa) (by have:=d' aa;omega) t;have E:=λx aa t=>aV x aa (by have:=d' aa;omega) t;have aB:=λx aa t=>aZ x aa (by have:=d' aa;omega) t;have M:=np H aA aU t;obtain⟨⟨g1,g2,g3,_⟩,o⟩:=(hF _ _ _).1 o;obtain⟨j,rfl⟩:∃j:Nat,t=(j:Int):=⟨t.toNat,by omega⟩
  have ad:j<ts.length:=by omega
  unfold kM;rw[km,ah (aY ad)];simp only[aW,ay,bQ,ab.bI]at o g3⊢;have U:=bA ad aN;have aT:=@o4 ts (j:Int) v;have ak:=@qE ts (j:Int) v;have am:=@qF ts (j:Int) v;have an:=@qG ts (j:Int) v;have R:=@B2 ts (j:Int) v;have ao:=@B3 ts (j:Int) v;have ap:=@B4 ts (j:Int) v;have aq:=@B5 ts (j:Int) v;have av:=@B6 ts (j:Int) v;simp only[bQ]at aT ak am an R ao ap aq av;have Y:=H.A _ U;have aG:=H.S _ U;have ag:=eI (iw (H.T _ U).hq);generalize ts.getD j aN=x at*;rcases o with⟨k,u,w,z,B,m,p⟩|⟨k,u,w,z,B,m,p,s,D⟩|⟨k,u,w,z,B,m,p,s⟩|⟨k,u,w,z,B,m,p,s⟩|⟨k,u,w,z,B,m,p,s⟩|⟨k,u,w,z,B,m⟩|⟨k,u,w,z,B,m,p,s,D⟩|⟨k,u,w,z,B,m,p,s,D,az,a5⟩|⟨k,u,w,z,B,m,p,s,D⟩<;>rw[k]at g3<;>have g:=g3.symm;grind
  . rw[au (by grind),ah (by grind),ak g,rU V];have a7:=xN V;obtain⟨n,aI⟩:∃n:Nat,fP v.bE=(n:Int):=⟨(fP v.bE).toNat,by unfold fP;grind⟩
    grind[Int.toNat_natCast,NO]
  rw[au (by simp[g]),au (by simp[g]),ah (by simp[g]),am g]
  . rw[au (by simp[g]),au (by simp[g]),au (by simp[g]),ah (by simp[g]),an g]
    obtain⟨n,aI⟩:∃n:Nat,v.ai=(n:Int):=⟨v.ai.toNat,by
     rcases s with⟨y,al,he⟩|⟨_,_,he⟩;have:=aG g y al;unfold cD at this;omega
     . unfold cD at he;omega⟩
    rw[aI,hS,NO (by omega),e3];rfl
  rw[au (by simp[g]),au (by simp[g]),au (by simp[g]),au (by simp[g]),au (by simp[g]),au (by simp[g]),au (by simp[g]),au (by simp[g]),R g];obtain⟨K,aP⟩:=Y (.inl g);obtain⟨aK,aL⟩:=jR.1 s;rw[R g]at M;have aj:=aay (Ac (ts:=ts) (l:=v.aw) K p) (λy al=>Jb K p al);have dp:(λn=>(fE ts x.af v.aw v.aX).filter λf=>(f.id=n:J))=yV ts x v:=rfl;rw[dp]at aj;rw[aj]at M⊢;have:=Jv (ts:=ts) ag K p aK (λy al=>Q y al) X P G (λi aJ=>E _ (bA (by omega) aM) _ (aL i aJ)) 1000 1 [] (by omega) (by omega) (by simp only[lM];omega);have h0:pw ([],1,ts,v,x)=_:=this;rw[h0];rfl
  . rw[au (by simp[g]),au (by simp[g]),au (by simp[g]),au (by simp[g]),au (by simp[g]),ah (by simp[g]),ao g];obtain⟨K,aP⟩:=Y (.inr g);obtain⟨r,_,a4,o⟩:=ni (t:=x) v.ai ag;rcases t' o with⟨e,q,ax,a2,L,a3⟩|⟨e,L⟩
    . rw[L]at m;rw[L];simp only at m⊢;obtain⟨d1,d2,d3⟩:=m;have C:=K.2 _ (bA ax aH);rw[a3]at C;obtain⟨n,aI⟩:∃n:Nat,v.ai=(n:Int):=⟨v.ai.toNat,by unfold cD at C;omega⟩
      rw[au (by simp[d1]),a4,aI,hS (by unfold cD at C;omega),Au (by unfold cD at C;omega)];simp only[ay];rw[a2,ah (aY ax)]
      match C:v.aw,d2 with
      |[y],_=>
       have al:y∈v.aw:=by rw[C];exact .head _
       have F:aE 0 ([y]:I ab).length:=aY (k:=0) (by simp);have o:=dv.1 d3 y al;have dJ:=E y al _ o;unfold kM at dJ;rw[ah F];simp only[bQ,xn,sr];rw[dJ];have ar:=G y al (x.af.getD q aH).aC;have aQ:=je (n:=n) (by rw[aI]at W;omega);simp only[ay];rw[ah (g')];have N:cK ts (x.af.getD q aH).aC [y]=[bG ts (x.af.getD q aH).aC y]:=by rw[cK,cK]
       rw[N];rfl
    . rw[L]at m;rw[L];simp only at m⊢;obtain⟨d1,d2,d3,d4,d,d5⟩:=m;obtain⟨n,aI⟩:∃n:Nat,v.ai=(n:Int):=⟨v.ai.toNat,by unfold cD at d3;omega⟩
      have Z:=Q ⟨v.ai,d⟩ (by rw[d5];exact .head _);simp only at Z;unfold reachBytes at Z;have aQ:=je (n:=n) (by rw[aI]at W;omega);rw[d5,aI,j1,hS (by unfold cD at d3;omega),Au (by unfold cD at d3;omega)];simp only[ay];have F:aE 0 ([⟨(n:Int),d⟩]:I ch).length:=aY (k:=0) (by simp);rw[ah F];simp only[xn,sr];rw[ah (g')];rfl
  rw[au (by simp[g]),au (by simp[g]),au (by simp[g]),au (by simp[g]),au (by simp[g]),au (by simp[g]),ah (by simp[g])];have o:=dv.1 D;rw[ap g]at M⊢;have:=O0 (ts:=ts) (x:=x) (v:=v) (λy al=>by have:=G y al x.aF;omega) (λy al=>E y al x.aF (o y al)) O v.aw.length 0 [] (by omega) (by simp only[eZ,lM];omega);have h0:tJ ([],0,ts,v,x)=_:=this;rw[h0];rfl;rw[au (by simp[g]),au (by simp[g]),au (by simp[g]),au (by simp[g]),au (by simp[g]),au (by simp[g]),au (by simp[g]),ah (by simp[g])];have o:=dv.1 az;have aD:=dv.1 D;rw[aq g]at M⊢;have:=Q6 (ts:=ts) (x:=x) (v:=v) s (λy al=>by have:=G y al x.aF;omega) (λy al=>by have:=aO y al x.aR;omega) (λy al=>E y al x.aF (o y al)) (λy al=>aB y al x.aR (aD y al)) O v.aw.length 0 [] (by omega) (by simp only[eZ,lM];omega);have h0:tK ([],0,ts,v,x)=_:=this;rw[h0];rfl
  . rw[au (by simp[g]),au (by simp[g]),au (by simp[g]),au (by simp[g]),ah (by simp[g]),av g];have o:=dv.1 D
    match C:v.aw,s with
    |[],_=>rw[j1,cK]
    |[y],_=>
     have al:y∈v.aw:=by rw[C];exact .head _
     have F:aE 0 ([y]:I ab).length:=aY (k:=0) (by simp);rw[cq,ah F];have dJ:=E y al x.aF (o y al);unfold kM at dJ;simp only[xn,sr];rw[dJ];have ar:=G y al x.aF;simp only[ay];rw[ah (g' (by simp;omega))];have N:cK ts x.aF [y]=[bG ts x.aF y]:=by rw[cK,cK]
     rw[N];rfl
    |a::b::c,h=>simp at h
end
theorem db.qB{o:ag J}{a b:α}(h:fc o a b):db o (a=b):=h
theorem Gg{j k l:ag J}{f g i:Prop}(h1:db j f)(d:db k g)(e:db l i):
 db (j>>=λm=>(if m then k else some false)>>=λn=>some (bif m then n else false)>>=λt53=>(if t53 then l else some false)>>=λo=>some (bif t53 then o else false)) (f/\g/\i):=by
 obtain⟨a,rfl,h1⟩:=h1;obtain⟨b,rfl,d⟩:=d;obtain⟨c,rfl,e⟩:=e;rw[<-h1,<-d,<-e];cases a<;>cases b<;>cases c<;>exact⟨_,rfl,by simp⟩
theorem Sc{o:ag J}{P:Prop}(h:db o P):db (o>>=λr=>some r) P:=by grind
def rr(b:J)(a:I aU):Prop:=(∀m,m∈a->qQ b m=false)/\(b=false\/0<a.length)/\h9 a/\(∀m,m∈a->nm m.aP)/\(a.map (·.aP)).Nodup/\a.length<=16
def Fu(S:I df):Prop:=0<S.length/\(S.Pairwise (λa b=>a.ai<b.ai)/\∀y,y∈S->cD y.ai)/\(∀y,y∈S->nm y.aP)/\(S.map (·.aP)).Nodup/\S.length<=16
theorem ac7{l:I aq}:l.Nodup↔∀i,i<l.length->(l.take i).contains (l.getD i [])=false:=by
 grind[List.pairwise_iff_getElem,tW]
theorem Q7(f:α->Int)(g:α->aq)(d:α)(l:I α):(∀i,i<l.length->kv (l.map f) (l.map g) i)↔(l.Pairwise (λa b=>f a<f b)/\∀x,x∈l->cD (f x))/\(∀x,x∈l->nm (g x))/\(l.map g).Nodup:=by
 rw[FC f d,ac7];have key:∀i,i<l.length->(kv (l.map f) (l.map g) i↔cD (f (l.getD i d))/\(i=0\/f (l.getD (i-1) d)<f (l.getD i d))/\nm (g (l.getD i d))/\((l.map g).take i).contains ((l.map g).getD i [])=false):=by
  grind[kv,cD]
 constructor
 . intro h;refine⟨⟨λi c=>?_,λx aa=>?_⟩,λx aa=>?_,λi c=>?_⟩
   grind;grind[List.getElem_of_mem];grind[List.getElem_of_mem];grind
 . rintro ⟨⟨h1,j⟩,k,m⟩ i c
   refine(key i c).2 ⟨j _ (bA c d),?_,k _ (bA c d),m i (by grind)⟩;by_cases h0:i=0;omega;have e:i-1+1=i:=(by omega);grind
theorem NU{t:aj}(h:e5 t):db (uD t) ((∀m,m∈t.af->qQ (t.ae=6:J) m=false)/\(t.ae=5\/0<t.af.length)/\h9 t.af/\(∀m,m∈t.af->nm m.aP)/\(t.af.map (·.aP)).Nodup/\t.af.length<=16):=by
 obtain⟨r,h1,a⟩:=MO h;refine⟨r,h1,a.trans ?_⟩;rw[Q7 _ _ aH];grind[List.getElem_of_mem,h9]
theorem aeS{l:I df}(ak:l.length*24<=reachBytes):db (wh l) (Fu l):=by
 obtain⟨r,h1,a⟩:=Q2 ak;refine⟨r,h1,a.trans ?_⟩;rw[Q7 _ _ dV];grind[Fu]
def hy(t:aj):Prop:=
 (t.ae=1/\t.aP=[]/\t.br=0/\t.bB=0/\t.Max=0/\t.bc=[]/\t.af=[]/\t.aR=0/\t.aF=0/\t.bt=false)\/
 (t.ae=2/\t.aP=[]/\t.br<=t.bB/\t.Max=0/\t.bc=[]/\t.af=[]/\t.aR=0/\t.aF=0/\t.bt=false)\/
 (t.ae=3/\t.aP=[]/\t.br=0/\t.bB=0/\(0<=t.Max/\t.Max<=200)/\t.bc=[]/\t.af=[]/\t.aR=0/\t.aF=0/\t.bt=false)\/
 (t.ae=4/\nm t.aP/\t.br=0/\t.bB=0/\t.Max=0/\Fu t.bc/\t.af=[]/\t.aR=0/\t.aF=0)\/
 (t.ae=5/\nm t.aP/\t.br=0/\t.bB=0/\t.Max=0/\t.bc=[]/\rr false t.af/\t.aR=0/\t.aF=0/\t.bt=false)\/
 (t.ae=6/\nm t.aP/\t.br=0/\t.bB=0/\t.Max=0/\t.bc=[]/\rr true t.af/\t.aR=0/\t.aF=0)\/
 (t.ae=7/\t.aP=[]/\t.br=0/\t.bB=0/\(0<=t.Max/\t.Max<=50)/\t.bc=[]/\t.af=[]/\t.aR=0/\t.bt=false)\/
 (t.ae=8/\t.aP=[]/\t.br=0/\t.bB=0/\(0<=t.Max/\t.Max<=50)/\t.bc=[]/\t.af=[]/\t.bt=false)\/
 (t.ae=9/\t.aP=[]/\t.br=0/\t.bB=0/\t.Max=0/\t.bc=[]/\t.af=[]/\t.aR=0/\t.bt=false)
theorem aeT{t:aj}(h:e5 t):db (gQ t) (hy t):=by
 obtain⟨d,N,L,H,M,S,c,K,E,b⟩:=t;have aG:=h.syms;have e:=h.hq;have f:=h.hj;simp only at aG e f;by_cases k1:d=1
 . subst k1;have a:=jg (a:=(⟨0,N,L,H,M,S,c,K,E,b⟩:aj)) ⟨aG,e,f⟩ (⟨0,[],0,0,0,[],[],0,0,false⟩:aj);refine(Sc (db.qB a)).imp ?_;unfold hy;simp
 by_cases k2:d=2
 . subst k2;have a:=jg (a:=(⟨0,N,0,0,M,S,c,K,E,b⟩:aj)) ⟨aG,e,f⟩ (⟨0,[],0,0,0,[],[],0,0,false⟩:aj);refine(vw (q:=(L<=H:J)) (Q:=L<=H) (by simp) (db.qB a)).imp ?_;unfold hy;grind
 by_cases k3:d=3
 . subst k3;have a:=jg (a:=(⟨0,N,L,H,0,S,c,K,E,b⟩:aj)) ⟨aG,e,f⟩ (⟨0,[],0,0,0,[],[],0,0,false⟩:aj);refine(vw (Q:=0<=M/\M<=200) (by by_cases g:0<=M<;>simp[g]) (db.qB a)).imp ?_;unfold hy;grind
 by_cases k4:d=4
 . subst k4;have a:=jg (a:=(⟨0,[],L,H,M,[],c,K,E,false⟩:aj)) ⟨by simp,e,f⟩ (⟨0,[],0,0,0,[],[],0,0,false⟩:aj);refine(Gg (⟨nm N,uy N,jF⟩:db (lG N) (nm N=true)) (aeS aG) (db.qB a)).imp (Q:=hy ⟨4,N,L,H,M,S,c,K,E,b⟩) ?_;unfold hy;grind
 by_cases k5:d=5
 . subst k5;have a:=jg (a:=(⟨0,[],L,H,M,S,[],K,E,bif b then ((5:Int)=5:J)else false⟩:aj)) ⟨aG,by simp,by simp⟩ (⟨0,[],0,0,0,[],[],0,0,false⟩:aj);refine(Gg (⟨nm N,uy N,jF⟩:db (lG N) (nm N=true)) (NU h) (db.qB a)).imp ?_;unfold hy rr;grind
 by_cases k6:d=6
 . subst k6;have a:=jg (a:=(⟨0,[],L,H,M,S,[],K,E,bif b then ((6:Int)=5:J)else false⟩:aj)) ⟨aG,by simp,by simp⟩ (⟨0,[],0,0,0,[],[],0,0,false⟩:aj);refine(Gg (⟨nm N,uy N,jF⟩:db (lG N) (nm N=true)) (NU h) (db.qB a)).imp (Q:=hy ⟨6,N,L,H,M,S,c,K,E,b⟩) ?_;unfold hy rr;grind
 by_cases k7:d=7
 . subst k7;have a:=jg (a:=(⟨0,N,L,H,0,S,c,K,0,b⟩:aj)) ⟨aG,e,f⟩ (⟨0,[],0,0,0,[],[],0,0,false⟩:aj);refine(vw (Q:=0<=M/\M<=50) (by by_cases g:0<=M<;>simp[g]) (db.qB a)).imp (Q:=hy ⟨7,N,L,H,M,S,c,K,E,b⟩) ?_;unfold hy;grind
 by_cases k8:d=8
 . subst k8;have a:=jg (a:=(⟨0,N,L,H,0,S,c,0,0,b⟩:aj)) ⟨aG,e,f⟩ (⟨0,[],0,0,0,[],[],0,0,false⟩:aj);refine(vw (q:=bif (0<=M:J)then (M<=50:J)else false) (Q:=0<=M/\M<=50) (by by_cases g:0<=M<;>simp[g]) (db.qB a)).imp (Q:=hy ⟨8,N,L,H,M,S,c,K,E,b⟩) ?_;unfold hy;grind
 by_cases k9:d=9
 . subst k9;have a:=jg (a:=(⟨0,N,L,H,M,S,c,K,0,b⟩:aj)) ⟨aG,e,f⟩ (⟨0,[],0,0,0,[],[],0,0,false⟩:aj);refine(Sc (db.qB a)).imp (Q:=hy ⟨9,N,L,H,M,S,c,K,E,b⟩) ?_;unfold hy;simp
 refine⟨false,by simp[gQ,k1,k2,k3,k4,k5,k6,k7,k8,k9],?_⟩;unfold hy;grind
structure pe (ts:List aj):Prop where
 n:ts.length<=32
 F:∀t,t∈ts->hy t
 D:∀i,i<ts.length->(!((ts.getD i aN).aP=[]:Bool)&&((ts.map (·.aP)).take i).contains (ts.getD i aN).aP)=false
 U:∀t,t∈ts->∀u,u∈fj t->0<=u/\u<ts.length
 qM:∀t,t∈ts->t.ae=8->1<=(ts.getD t.aR.toNat aN).ae/\(ts.getD t.aR.toNat aN).ae<=4
theorem MX(dw:∀t,t∈ts->e5 t){i:Nat}(a:i<ts.length):sG ts i=none↔hy (ts.getD i aN)/\(!((ts.getD i aN).aP=[]:J)&&((ts.map (·.aP)).take i).contains (ts.getD i aN).aP)=false/\(∀u,u∈fj (ts.getD i aN)->0<=u/\u<ts.length)/\
 ((ts.getD i aN).ae=8->1<=(ts.getD (ts.getD i aN).aR.toNat aN).ae/\(ts.getD (ts.getD i aN).aR.toNat aN).ae<=4):=by
 obtain⟨r,f1,f2⟩:=aeT (dw _ (bA a aN));rw[JE rfl f1];grind[List.any_eq_false,qw,yZ]
theorem ag4(dw:∀t,t∈ts->e5 t)(c:ts.length<=32)(h:∀i,i<ts.length->sG ts i=none):pe ts:=by
 have key:=λi a=>(MX dw a).1 (h i a);have b:∀{P:aj->Prop},(∀i,i<ts.length->P (ts.getD i aN))->∀t,t∈ts->P t:=λar t ht=>by
  obtain⟨i,a,rfl⟩:=gT ht;grind
 exact⟨c,b λi a=>(key i a).1,λi a=>(key i a).2.1,b λi a=>(key i a).2.2.1,b λi a=>(key i a).2.2.2⟩
theorem wI(dw:∀t,t∈ts->e5 t)(h:pe ts):pR (⟨ts⟩:aT)=some 0/\pJ (⟨ts⟩:aT)=some 0:=by
 obtain⟨e,h1,c,_,b,_⟩:=MR (by have:=h.n;grind[reachBytes]) dw;have dp:=b ⟨h.n,λi a=>(MX dw a).2 ⟨h.F _ (bA a _),h.D i a,h.U _ (bA a _),h.qM _ (bA a _)⟩⟩;grind
theorem pe.ik(dw:∀t,t∈ts->e5 t)(h:pe ts):kf ts:=by
 refine⟨by have:=h.n;omega,dw,λt ht=>?_,λt ht m c=>?_,λt ht e=>?_,λt ht e y al=>?_,h.qM⟩;have:=h.F t ht;grind[hy,ly]
 . have:=h.F t ht;unfold hy at this;have:rr false t.af\/rr true t.af:=(by grind);rcases this with a|a
   exact(a.2.2.1.2 m c).2;exact(a.2.2.1.2 m c).2
 . have:=h.F t ht;unfold hy at this;have:rr false t.af\/rr true t.af:=(by grind);rcases this with a|a
   exact⟨a.2.2.1,a.2.2.2.2.2⟩;exact⟨a.2.2.1,a.2.2.2.2.2⟩
 have:=h.F t ht;unfold hy at this;have:Fu t.bc:=(by grind);exact this.2.1.2 y al
theorem acQ(aI:ts.length<9223372036854775807)(dw:∀t,t∈ts->e5 t)(bW:∀t,t∈ts->ly t.ae)(b:cp v)(t:Int):db (pK ((⟨ts⟩:aT),t,v)) (dj ts true t v):=by
 obtain⟨r,h1,a⟩:=EU aI dw bW b t true;refine⟨r,?_,a⟩;rw[pK];simp only[ab.bI];rw[h1];rfl
def jy(ts:I aj)(ms:I aU):Prop:=∀m,m∈ms->m.bH->dj ts true m.aC m.bm
theorem Qo{ts:I aj}(aI:ts.length<9223372036854775807)(dw:∀t,t∈ts->e5 t)(bW:∀t,t∈ts->ly t.ae){ms:I aU}(a:∀m,m∈ms->cp m.bm)(ak:ms.length<=reachBytes)(t2:Int):
 ∀(k i:Nat),i+k=ms.length->(n2 (t2,ms,(i:Int),ts)=some (.inr (t2,ts))/\jy ts (ms.drop i))\/(∃e,n2 (t2,ms,(i:Int),ts)=some (.inl (t2,e,1))/\¬jy ts (ms.drop i))
 |0,i,d=> .inl ⟨by rw [n2,dC],by
  rw[fx (by omega:ms.length<=i)]
  intro m a;cases a⟩
 |k+1,i,d=>by
  have aD:i<ms.length:=by omega
  have n:=eI ak;have f:=bA aD aH;obtain⟨r,g,j⟩:=acQ aI dw bW (a _ f) (ms.getD i aH).aC;rw[n2,cJ,ah (aY aD)];simp only[aW,ay,bQ,ab.bI];rw[ah (by rw[aY aD];rfl),ah (by rw[aY aD];rfl),g];have ih:=Qo aI dw bW a ak t2 k (i+1) (by omega);rw[e6 aD aH];have c:jy ts (ms.getD i aH::ms.drop (i+1))↔((ms.getD i aH).bH->dj ts true (ms.getD i aH).aC (ms.getD i aH).bm)/\jy ts (ms.drop (i+1)):=by
   unfold jy;constructor;intro h;exact⟨h _ (.head _),λm a=>h m (.tail _ a)⟩
   . rintro ⟨h1,b⟩ m a
     rcases eE.1 a with rfl|a;exact h1;exact b m a
  rw[c,<-j];cases l:(ms.getD i aH).bH with
  |false=>
   simp only[cx,cF,ay,et];rw[bN];rcases ih with⟨h1,b⟩|⟨e,h1,b⟩;exact .inl ⟨h1,λh=>h.elim,b⟩;exact .inr ⟨e,h1,λh=>b h.2⟩
  |true=>
   cases r with
   |true=>
    simp only[cl,ay,fh,dc,cx,cF];rw[bN];rcases ih with⟨h1,b⟩|⟨e,h1,b⟩;exact .inl ⟨h1,λ_=>trivial,b⟩;exact .inr ⟨e,h1,λh=>b h.2⟩
   |false=>
    simp only[cl,ay,fh,eL];rw[ah (aY aD)];exact .inr ⟨_,rfl,λh=>absurd (h.1 trivial) (by simp)⟩
theorem Qp{ts:I aj}(aI:ts.length<9223372036854775807)(dw:∀t,t∈ts->e5 t)(bW:∀t,t∈ts->ly t.ae):
 ∀(k i:Nat),i+k=ts.length->(n' ((i:Int),ts)=some (.inr ())/\∀t,t∈ts.drop i->jy ts t.af)\/(∃a e,n' ((i:Int),ts)=some (.inl (a,e,1))/\¬∀t,t∈ts.drop i->jy ts t.af)
 |0,i,d=>.inl ⟨by rw[n',dC],by grind⟩
 |k+1,i,d=>by
  have aD:i<ts.length:=by omega
  have ht:=dw _ (bA aD aN);have h0:=Qo aI dw bW ht.hj (iw ht.hq) (i:Int) (ts.getD i aN).af.length 0 (by omega);simp only[eZ]at h0;have ih:=Qp aI dw bW k (i+1) (by omega);rw[e6 aD aN,n',cJ,ah (aY aD)];simp only[bQ];rcases h0 with⟨h1,c⟩|⟨e,h1,c⟩
  . have b:n2 ((i:Int),(ts.getD i aN).af,0,ts)=_:=h1;rw[b];simp only[aW,ay];rw[bN];rcases ih with⟨g1,g2⟩|⟨a,e,g1,g2⟩
    . refine .inl ⟨g1,λt ht=>?_⟩;rcases eE.1 ht with rfl|ht
      exact c;exact g2 t ht
    exact .inr ⟨a,e,g1,λh=>g2 λt ht=>h t (.tail _ ht)⟩
  have b:n2 ((i:Int),(ts.getD i aN).af,0,ts)=_:=h1;rw[b];exact .inr ⟨_,_,rfl,λh=>c (h _ (.head _))⟩
theorem ac8{s:aT}(aI:s.bh.length<=reachBytes)(dw:∀t,t∈s.bh->e5 t){e:Int}(d:pJ s=some e)(he:e=0->pe s.bh):∃r,Dn s=some r/\(e=0->(r.2.2=0↔∀t,t∈s.bh->jy s.bh t.af)):=by
 rw[Dn,d];simp only[aW,ay];by_cases h0:e=0
 . have iQ:=he h0;have aG:=iQ.ik dw;rw[au (by simp[h0])];have:=Qp (by have:=iQ.n;omega) dw aG.K s.bh.length 0 (by omega);simp only[eZ]at this;rcases this with⟨h1,c⟩|⟨a,f,h1,c⟩
   have b:n' (0,s.bh)=_:=h1;rw[b];exact⟨_,rfl,λ_=>⟨λ_=>c,λ_=>rfl⟩⟩;have b:n' (0,s.bh)=_:=h1;rw[b];exact⟨_,rfl,λ_=>⟨λh=>absurd h (by simp),λh=>absurd h c⟩⟩
 rw[ah (by simp[h0])];exact⟨_,rfl,λh=>absurd h h0⟩
theorem Sd{t u:aL}{r:I aL}{h:a6 bM.D (t::u::r)}(b:Ok bM (t::u::r) h):∀d,d∈t.row bM h.1->WF bM d:=λd a=>b ⟨t,h.1⟩ (He ..) d a
theorem ag5{t u:aL}{r:I aL}{h:a6 bM.D (t::u::r)}(e:Ok bM (t::u::r) h):Ok bM (u::r) h.2:=λc a d b=>e c (CT _ a) d b
theorem agZ(H:kf ts)(b:cp v)(c:wt v<=1099511627776)(a:dj ts false t v):
 kj (t,v,1,ts,0)=some (bG ts t v,ts,((e4 ts t v:Nat):Int)):=by
 have h:=agY H b c t a 1 0 (by omega) (by omega);have ar:=um (ts:=ts) t v;have e:max 0 (1+e4 ts t v-1)=e4 ts t v:=by omega
 rw[e]at h;exact h
noncomputable def vJ (ts:I aj)(t:Int)(v:ab):aq×Int:=
 if 4096<(bG ts t v).length\/200<e4 ts t v then([],3)else(bG ts t v,0)
theorem Qq{x m:Int}(h:0<=x)(a:0<=m):f' x m=x%m:=by grind[f']
structure cX (ts:List aj):Prop where
 T:∀t,t∈ts->e5 t
 V:pe ts
 D:∀t,t∈ts->jy ts t.af
 W:∀t,t∈ts->∀m,m∈t.af->m.bH->wt m.bm<=2097152
theorem cX.aj0(H:cX ts):∀t,t∈ts->t.Max<=200:=λt ht=>by
 have:=H.V.F t ht;rcases this with h|h|h|h|h|h|h|h|h<;>omega
theorem cX.GV(H:cX ts):∀t,t∈ts->5<=t.ae->t.Max<=50:=λt ht a=>by
 have:=H.V.F t ht;rcases this with h|h|h|h|h|h|h|h|h<;>omega
theorem cX.Vl(H:cX ts):∀t,t∈ts->t.af.length<=16:=λt ht=>by
 have:=H.V.F t ht;rcases this with h|h|h|h|h|h|h|h|h;simp[h.2.2.2.2.2.2.1];simp[h.2.2.2.2.2.1];simp[h.2.2.2.2.2.2.1];simp[h.2.2.2.2.2.2.1];exact h.2.2.2.2.2.2.1.2.2.2.2.2;exact h.2.2.2.2.2.2.1.2.2.2.2.2;simp[h.2.2.2.2.2.2.1];simp[h.2.2.2.2.2.2.1];simp[h.2.2.2.2.2.2.1]
theorem cX.bC{ts:I aj}(H:cX ts):∀t,t∈ts->True/\True/\t.af.length<=16:=λt ht=>⟨trivial,trivial,H.Vl t ht⟩
theorem cX.M(H:cX ts):∀t,t∈ts->t.Max<=200:=H.aj0
theorem cX.CQ(H:cX ts):ts.length<=32:=H.V.n
theorem cX.R(H:cX ts):∀i:Nat,i<ts.length->∀m,m∈(ts.getD i aN).af->0<=m.aC/\m.aC<ts.length/\True:=λi a m c=>by
 have:=H.V.U _ (bA a aN) m.aC (by unfold fj;simp;exact .inl ⟨m,c,rfl⟩);exact⟨this.1,this.2,trivial⟩
theorem Lx:∀a b:aq,Op.bytesLess a b=false->a≠b->Op.bytesLess b a=true
 |[],[],_,h=>absurd rfl h
 |[],y::b,h,_=>by grind[Op.bytesLess]
 |x::a,[],h,_=>by rfl
 |x::a,y::b,h,c=>by
  simp[Op.bytesLess]at h⊢;by_cases h1:x<y;grind
  . by_cases f:y<x
    grind;have d:Op.bytesLess a b=false:=(by grind);have:=Lx a b d (λe=>c (by grind));grind
theorem AD{a b:ab}(c:ej a.bE)(d:ej b.bE):pF (a,b)=some (iF a b):=by
 grind[D2,iF]
theorem aeU{a b:ab}(d:ej a.bE)(e:ej b.bE)(h:0<iF a b):iF b a<0:=by
 have h1:=AD d e;have c:=AD e d;rw[pF]at h1 c;by_cases f:a.ae=b.ae
 . rw[au (by grind)]at h1 c;by_cases k1:a.ae=1
   have g:b.ae=1:=(by omega);simp only[jb,e7]at h1 c;grind
   . rw[au (by grind)]at h1;rw[au (by grind)]at c;by_cases k2:a.ae=2
     have i:b.ae=2:=(by omega);rw[ah (by grind),rU d,rU e]at h1;rw[ah (by grind),rU d,rU e]at c;simp only[aW,ay,jb]at h1 c;grind[JZ]
     . rw[au (by grind)]at h1;rw[au (by grind)]at c;by_cases k3:a.ae=3
       . have j:b.ae=3:=(by omega);rw[ah (by grind)]at h1;rw[ah (by grind)]at c;simp only[aW,ay,jb]at h1 c;by_cases ak:a.bZ.length=b.bZ.length
         grind[Lx];grind
       . rw[au (by grind)]at h1;rw[au (by grind)]at c;by_cases k4:a.ae=4
         simp only[aW,ay,jb]at h1 c;grind;grind
 grind
section
variable {ts:I aj}
mutual
theorem qD:∀(v:ab) (t:Int),dj ts true t v->dj ts false t v
 |⟨k,b,i,s,id,ks,e,r⟩,t,h=>by
  rw[dj]at h⊢;obtain⟨⟨h1,o,p,z⟩,q⟩:=h;have w:=HU e;have A:=HU ks;have B:=V5 e;refine⟨⟨h1,o,p,λh=>by cases h⟩,?_⟩
  have y:(match cw (ts.getD t.toNat aN).af id with
   |some m=>r=[]/\e.length=1/\fu ts true m.aC e
   |none=>(ts.getD t.toNat aN).bt=true/\true=false/\cD id/\e=[]/\∃d,r=[⟨id,d⟩])->(match cw (ts.getD t.toNat aN).af id with
   |some m=>r=[]/\e.length=1/\fu ts false m.aC e
   |none=>(ts.getD t.toNat aN).bt=true/\false=false/\cD id/\e=[]/\∃d,r=[⟨id,d⟩]):=by
   split;rintro ⟨a,b,c⟩;exact⟨a,b,w _ c⟩;rintro ⟨_,b,_⟩;cases b
  rcases q with h|h|h|⟨a1,a2,a3,a4,a5,f,g,j⟩|⟨a1,a2,a3,a4,a5,f,g,j⟩|⟨a1,a2,a3,a4,a5,f⟩|⟨a1,a2,a3,a4,a5,f,g,j,a9⟩|⟨a1,a2,a3,a4,a5,f,g,j,a9,u,x⟩|⟨a1,a2,a3,a4,a5,f,g,j,a9⟩;exact .inl h;grind;grind;grind;grind;grind;grind;grind;grind
theorem HU:∀(l:I ab) (t:Int),fu ts true t l->fu ts false t l
 |[],t,h=>by rw[fu];trivial
 |v::l,t,h=>by
  rw[fu]at h⊢;exact⟨qD v t h.1,HU l t h.2⟩
theorem V5:∀(l:I ab) (ms:I aU),iU ts true ms l->iU ts false ms l
 |[],[],h=>by rw[iU];trivial
 |[],m::ms,h=>by
  have:iU ts true (m::ms) []=False:=by rw[iU]<;>(intros;simp_all)
  grind
 |v::l,[],h=>by
  have:iU ts true [] (v::l)=False:=by rw[iU]<;>(intros;simp_all)
  grind
 |v::l,m::ms,h=>by
  rw[iU]at h⊢;exact⟨qD v m.aC h.1,V5 l ms h.2⟩
end
theorem af3(h:dj ts true t v)(pl:J):dj ts pl t v:=by
 cases pl with
 |true=>exact h
 |false=>exact qD v t h
def sC(ts:I aj)(t:Nat):Nat:=if 7<=(ts.getD t aN).ae then 0 else t+1
end
theorem EV(H:kf ts)(a:cp v)(t:Int)(pl:J):db (ko ((⟨ts⟩:aT),t,v,pl)) (dj ts pl t v):=by
 obtain⟨r,h1,c⟩:=EU (by have:=H.n;omega) H.T H.K a t pl;obtain⟨q,d,b⟩:=aeL (by have:=H.n;omega) H.T H.K a t pl;rw[h1]at b;have:r=q:=oX b;subst this;exact⟨r,d,c⟩
theorem Mg(dw:∀t,t∈ts->e5 t)(iQ:pe ts)(d:cp v)(a:dj ts false t v):wi ((⟨ts⟩:aT),t,v)=some 0:=by
 have H:=iQ.ik dw;obtain⟨v1,_⟩:=wI dw iQ;obtain⟨⟨g1,g2,_⟩,_⟩:=(hF _ _ _).1 a;obtain⟨r,e,f⟩:=EV H d t false;have c:=f.2 a;subst c;have b:¬((bif (t<0:J)then true else (((⟨ts⟩:aT).bh.length:Int)<=t:J))=true):=by grind
 rw[wi,H6];simp only[adH,ab.bI];rw[v1];show((if(bif (t<0:J)then true else (((⟨ts⟩:aT).bh.length:Int)<=t:J)) then some (4:Int)else some 0)>>=_)=_;rw[au b];show(E8 ((⟨ts⟩:aT),t,v)>>=_)=_;rw[E8];simp only[ab.bI];rw[e];rfl
theorem O1{l:I Fd}(ar:kq fe l)(aI:l.Pairwise (λa b=>a.id≠b.id)):(hp fe l).Pairwise (λa b=>a.id<b.id):=by
 have h1:=D6 Q5 l;have c:(hp fe l).Pairwise (λa b=>a.id≠b.id):=(lr fe l).symm.pairwise aI (λ{a b} h=>λe=>h e.symm);refine(h1.and c).imp λ{a b} h=>?_;have:=h.1;have:=h.2;simp only[fe,G6]at*;omega
theorem NV{l:I ab}{r:I ch}(h:h9 ms)(c:iO ms r):(fE ts ms l r).Pairwise (λa b=>a.id≠b.id):=by
 have:=Ac (ts:=ts) (l:=l) h c;have key:∀q:I Fd,kq fe q->q.Pairwise (λa b=>a.id≠b.id):=by
  intro q;induction q with
  |nil=>intro _;exact .nil
  |cons a q ih=>
   intro h;simp only[kq,dh,gk,lN,fe,fI]at h;rw[kz];grind
 grind
def CI(f:Fd):cY:=⟨(f.id:Int),f.c,f.p⟩
theorem NW:∀(l:I Fd) (last:Nat) (b:I cY),l.Pairwise (λa b=>a.id<b.id)->(∀f,f∈l->last<f.id/\f.id<=1000)->(l.flatMap Fd.text).length<=100000->b.length+l.length<=90000->
 gZ ((last:Int),l.flatMap Fd.text,b)=some (.inr (b++l.map CI))
 |[],last,b,_,_,_,_=>by
  rw[gZ,cq];simp
 |f::l,last,b,ar,e,ak,d=>by
  rw[kz]at ar;obtain⟨h1,i⟩:=e f (.head _);rw[hd]at ak⊢;have ht:f.text=gv f.id f.c f.p:=rfl;rw[ht]at ak⊢;rw[acL h1 i ak (by simp at d;omega)];have j:(l.flatMap Fd.text).length<=100000:=by rw[eh]at ak;omega
  rw[NW l f.id _ ar.2 (λg av=>⟨ar.1 g av,(e g (.tail _ av)).2⟩) j (by simp at d⊢;omega)];simp[CI]
theorem ac9{rest:aq}{b:I aq}(h:(c' p++rest).length<=100000)(i:b.length<=90000):hX (c' p++rest,b)=hX (rest,b++[p]):=by
 have f:p.length<=100000:=by simp only[c',eh]at h;omega
 have d:c' p++rest≠[]:=by
  intro c;have a:=dA List.length c;have:=p' p.length;simp only[c',eh,lM]at a;omega
 rw[hX,ah (by simp only[CX,G6];exact d),mn,LX f];simp only[aW,ay];have e:¬((!(eb (some (p,rest))).2.2)=true):=by simp[eb]
 have g:cn 16 (b++[(eb (some (p,rest))).1]).length:=ef;rw[au e,ah g];rfl
theorem O2:∀(l:I aq) (b:I aq),(l.flatMap c').length<=100000->b.length+l.length<=90000->hX (l.flatMap c',b)=some (.inr (b++l))
 |[],b,_,_=>by
  rw[hX,cq];simp
 |p::l,b,ak,a=>by
  rw[hd]at ak⊢;rw[ac9 ak (by simp at a;omega),O2 l _ (by rw[eh]at ak;omega) (by simp at a⊢;omega)];simp
def lU:I aq->I aq->I aq
 |k::ks,v::vs=>k::v::lU ks vs
 |_,_=>[]
theorem NX:∀a b,gI a b=(lU a b).flatMap c'
 |[],b=>by simp[gI,lU]
 |k::ks,[]=>by simp[gI,lU]
 |k::ks,v::vs=>by simp[gI,lU,NX ks vs]
theorem NY:∀a b:I aq,a.length=b.length->(lU a b).length=a.length+b.length
 |[],[],_=>rfl
 |k::ks,v::vs,h=>by
  simp only[lU,lg];have:=NY ks vs (by simpa using h);omega
theorem A6(p:aq):1<=(c' p).length:=by
 have:=p' p.length;unfold c';rw[eh];omega
theorem L0:∀l:I aq,l.length<=(l.flatMap c').length
 |[]=>by simp
 |p::l=>by
  have:=L0 l;have:=A6 p;grind
theorem JF(f:Fd):1<=f.text.length:=by
 have:=p' (2*f.id+(if f.c then 1 else 0));unfold Fd.text gv;rw[eh];omega
theorem L1:∀l:I Fd,l.length<=(l.flatMap Fd.text).length
 |[]=>by simp
 |p::l=>by
  have:=L1 l;have:=JF p;grind
theorem NZ{f:Fd}:∀{l:I Fd},f∈l->f.p.length<=(l.flatMap Fd.text).length
 |g::l,h=>by
  rw[hd,eh];rcases eE.1 h with rfl|h
  . have:f.p.length<=f.text.length:=by unfold Fd.text gv c';simp only[eh];omega
    omega
  have:=NZ h;omega
def fX(n:Nat):aq->Nat
 |[]=>n
 |c::s=>fX (n*256+c.toNat) s
theorem U4:∀(s:aq) (n k:Nat),n<256^k->fX n s<256^(k+s.length)
 |[],n,k,h=>by simpa[fX]using h
 |c::s,n,k,h=>by
  have a:c.toNat<256:=C1 c;have h1:n*256+c.toNat<256^(k+1):=by rw[Nat.pow_succ];omega
  have:=U4 s _ (k+1) h1;simp only[fX,lg];grind
theorem akm{n:Nat}(h:n<72057594037927936):o3 .u64 (n:Int) 8=((n*256:Nat):Int):=by
 unfold o3;have e:((2:Int)^min (8:Int).toNat IntKind.u64.bits)=256:=by decide
 rw[e];have:(n:Int)*256=((n*256:Nat):Int):=by push_cast;rfl
 rw[this];exact ve
theorem ag0{a b:Nat}(c:a<72057594037927936)(d:b<256):sw .u64 ((a*256:Nat):Int) (b:Int)=((a*256+b:Nat):Int):=by
 have e:(BitVec.ofInt 64 ((a*256:Nat):Int) ||| BitVec.ofInt 64 (b:Int)).toNat=a*256+b:=by
  rw[xw,xw,BitVec.toNat_or,zs,zs,HG,oW (by omega),oW (by omega)];have h:=Nat.shiftLeft_add_eq_or_of_lt (show b<2^8 by omega) a;rw[Nat.shiftLeft_eq]at h;exact h.symm
 show IntKind.u64.wrap (((BitVec.ofInt 64 ((a*256:Nat):Int) ||| BitVec.ofInt 64 (b:Int)).toNat:Nat):Int)=_;rw[e];exact ve
theorem AE{s:aq}(hs:s.length<=8):∀(k i n:Nat),i+k=s.length->n<256^i->nz (s,(n:Int),(s.length:Int),(i:Int))=some ((fX n (s.drop i):Nat):Int)
 |0,i,n,c,aI=>by
  rw[nz,dC,fx (by omega:s.length<=i)];rfl
 |k+1,i,n,c,aI=>by
  have aD:i<s.length:=by omega
  have b:=As s i;have a:n<72057594037927936:=by
   have:(256:Nat)^i<=256^7:=xx (by omega) (by omega);omega
  rw[nz,cJ,ah (aY aD),akm a,xa,hS,ag0 a b,bN,AE hs k (i+1) _ (by omega) (by rw[Nat.pow_succ];omega),e6 aD 0];rfl
theorem JG{s:aq}(hs:s.length<=8):∀(k i n:Nat),i+k=s.length->n<256^i->px (s,(n:Int),(i:Int))=some ((fX n (s.drop i):Nat):Int)
 |0,i,n,a,aI=>by
  rw[px,dC,fx (by omega:s.length<=i)];rfl
 |k+1,i,n,a,aI=>by
  have aD:i<s.length:=by omega
  have c:=As s i;have d:n<72057594037927936:=by
   have:(256:Nat)^i<=256^7:=xx (by omega) (by omega);omega
  have aJ:fH .u64 (n:Int) 256=((n*256:Nat):Int):=uO (b:=256) (by omega);rw[px,cJ,ah (aY aD),aJ,xa,hS,sV (by omega),bN,JG hs k (i+1) _ (by omega) (by rw[Nat.pow_succ];omega),e6 aD 0];rfl
def gb(s:aq):ag Nat:=if s.head?=some 0\/8<s.length then none else some (fX 0 s)
theorem Bc{s:aq}{n:Nat}(h:gb s=some n):n<18446744073709551616:=by
 unfold gb at h;split at h;cases h;rename_i ad;cases h;have:=U4 s 0 0 (by simp);have a:(256:Nat)^(0+s.length)<=256^8:=xx (by omega) (by omega);omega
theorem ED{s:aq}(h:s≠[]):(gj s 0=0)↔s.head?=some 0:=by
 cases s with
 |nil=>exact absurd rfl h
 |cons c s=>
  have:gj (c::s) 0=(c.toNat:Int):=xa (c::s) 0;rw[this];simp only[List.head?_cons,dW];constructor;intro h;exact UInt8.toNat_inj.1 (by simpa using h);simp_all
theorem agc(s:aq):∃r,uF s=some r/\(r.2=0->∃n,gb s=some n/\r.1=(n:Int))/\(r.2≠0->gb s=none):=by
 rw[uF];simp only[aW,ay];by_cases h0:s=[];subst h0;have aJ:nz ([],0,((([]:aq)).length:Int),0)=some ((fX 0 []:Nat):Int):=AE (s:=[]) (by simp) 0 0 0 rfl (by simp);refine⟨(((fX 0 []:Nat):Int),0),?_,λ_=>⟨0,rfl,rfl⟩,λh=>absurd rfl h⟩;grind
 . have e:0<s.length:=xy.2 h0;have d:aE 0 s.length:=aY (k:=0) e;have c:(!(s=[]:J)):=(by simp[h0]);rw[c,d];simp only[mC,cl,fh];by_cases a:gj s 0=0
   rw[ah (by simp[a])];refine⟨_,rfl,λh=>(by cases h),λ_=>?_⟩;unfold gb;rw[ah (.inl ((ED h0).1 a))]
   . rw[au (by simp[a])];by_cases b:8<s.length
     rw[cJ];refine⟨_,rfl,λh=>(by cases h),λ_=>?_⟩;unfold gb;rw[ah (.inr b)]
     . have aJ:nz (s,0,(s.length:Int),0)=some ((fX 0 s:Nat):Int):=AE (by omega) s.length 0 0 (by omega) (by simp);rw[dC,aJ];refine⟨_,rfl,λ_=>⟨fX 0 s,?_,rfl⟩,λh=>absurd rfl h⟩;unfold gb;rw[au]
       rintro (h|h);exact a ((ED h0).2 h);omega
theorem I0(s:aq):∃r,uF s=some r/\wG s=some r/\(r.2=0->∃n,gb s=some n/\r.1=(n:Int))/\(r.2≠0->gb s=none):=by
 rw[uF,wG];simp only[aW,ay];by_cases h0:s=[]
 . subst h0;have aJ:nz ([],0,((([]:aq)).length:Int),0)=some ((fX 0 []:Nat):Int):=AE (s:=[]) (by simp) 0 0 0 rfl (by simp);have c:px ([],0,0)=some ((fX 0 []:Nat):Int):=JG (s:=[]) (by simp) 0 0 0 rfl (by simp);refine⟨(((fX 0 []:Nat):Int),0),?_,?_,λ_=>⟨0,rfl,rfl⟩,λh=>absurd rfl h⟩
   grind;grind
 . have i:0<s.length:=xy.2 h0;have g:aE 0 s.length:=aY (k:=0) i;have e:((0:Int)<(s.length:Int):J):=by simp;omega
   have f:(!(s=[]:J)):=(by simp[h0]);rw[e,f,g];simp only[mC,cl,fh];by_cases b:gj s 0=0;have a:(gj s 0=0:J):=(by simp[b]);rw[ah a,ah a];refine⟨_,rfl,rfl,λh=>(by cases h),λ_=>?_⟩;unfold gb;rw[ah (.inl ((ED h0).1 b))]
   . have a:¬((gj s 0=0:J)=true):=(by simp[b]);rw[au a,au a];by_cases d:8<s.length
     . have:((8:Int)<(s.length:Int):J):=by simp;omega
       rw[ah this,ah this];refine⟨_,rfl,rfl,λh=>(by cases h),λ_=>?_⟩;unfold gb;rw[ah (.inr d)]
     . have:¬(((8:Int)<(s.length:Int):J)=true):=by simp;omega
       rw[au this,au this];have aJ:nz (s,0,(s.length:Int),0)=some ((fX 0 s:Nat):Int):=AE (by omega) s.length 0 0 (by omega) (by simp);have c:px (s,0,0)=some ((fX 0 s:Nat):Int):=JG (by omega) s.length 0 0 (by omega) (by simp);rw[aJ,c];refine⟨_,rfl,rfl,λ_=>⟨fX 0 s,?_,rfl⟩,λh=>absurd rfl h⟩;unfold gb;rw[au];rintro (h|h);exact b ((ED h0).2 h);omega
def ga(n:Nat):Int:=if n%2=0 then((n/2:Nat):Int)else -((n/2:Nat):Int)-1
theorem Qr{n:Int}(h:ej n):ga (fP n).toNat=n:=by
 unfold ga fP ej at*;omega
theorem Se{n:Nat}(h:n<18446744073709551616):wD (n:Int)=some (ga n):=by
 rw[wD];have aJ:f' (n:Int) 2=((n%2:Nat):Int):=xR (b:=2);have a:gA .u64 (n:Int) 2=((n/2:Nat):Int):=u4 h;rw[aJ,a,lk];unfold ga;by_cases h0:n%2=0;grind
 . have c3:dD .i64 0 ((n/2:Nat):Int)= -((n/2:Nat):Int):=by rw[mW];omega
   rw[dC,au h0,c3,mW]
theorem ahP{n:Nat}(h:n<18446744073709551616):Co .u64 (n:Int) 1=((n%2:Nat):Int):=by
 have e:(BitVec.ofInt 64 (n:Int) &&& BitVec.ofInt 64 (1:Int)).toNat=n%2:=by grind
 show IntKind.u64.wrap (((BitVec.ofInt 64 (n:Int) &&& BitVec.ofInt 64 (1:Int)).toNat:Nat):Int)=_;rw[e];exact ve
theorem akn{n:Nat}:mG .u64 (n:Int) 1=((n/2:Nat):Int):=by
 unfold mG;have:((2:Int)^min (1:Int).toNat IntKind.u64.bits)=2:=by decide
 grind
theorem aeV{a:Nat}(h:a<9223372036854775808):x6 .i64 (a:Int) 0=(a:Int):=by
 have e:(BitVec.ofInt 64 (a:Int) ^^^ BitVec.ofInt 64 (0:Int)).toNat=a:=by grind
 show IntKind.i64.wrap (((BitVec.ofInt 64 (a:Int) ^^^ BitVec.ofInt 64 (0:Int)).toNat:Nat):Int)=_;rw[e,IntKind.wrap_i64];omega
theorem aeW{a:Nat}(h:a<9223372036854775808):x6 .i64 (a:Int) (-1)= -(a:Int)-1:=by
 have e:(BitVec.ofInt 64 (a:Int) ^^^ BitVec.ofInt 64 (-1:Int)).toNat=18446744073709551615-a:=by
  have h1:BitVec.ofInt 64 (-1:Int)=BitVec.allOnes 64:=by decide
  rw[h1,xw,BitVec.xor_allOnes,BitVec.toNat_not,zs,HG,oW (by omega)]
 all_goals (try omega)
 show IntKind.i64.wrap (((BitVec.ofInt 64 (a:Int) ^^^ BitVec.ofInt 64 (-1:Int)).toNat:Nat):Int)=_;rw[e,IntKind.wrap_i64];omega
theorem ag6{n:Nat}(h:n<18446744073709551616):Ei (n:Int)=some (ga n):=by
 rw[Ei,akn,ahP h,lk,lk,mW];unfold ga;by_cases h0:n%2=0;rw[ah h0,h0];have:(0:Int)-((0:Nat):Int)=0:=rfl;rw[this,aeV (by omega)];have h1:n%2=1:=(by omega);rw[au h0,h1];have:(0:Int)-((1:Nat):Int)= -1:=rfl;rw[this,aeW (by omega)]
def gW(p:aq):ag (I aq):=match kT p with
 |some (l,e)=>ite (e=0) (some l) none
 |none=>none
def im(p:aq):ag (I cY):=match mg p with
 |some (l,e)=>ite (e=0) (some l) none
 |none=>none
def jl(p:aq):ag (Int×aq):=match mh p with
 |some (id,q,e)=>ite (e=0) (some (id,q)) none
 |none=>none
theorem N0:∀(n:Nat) (s:aq) (b l:I aq),s.length<=n->s.length+b.length<=100000->hX (s,b)=some (.inr l)->∀q,q∈l->q∈b\/q.length<=s.length
 |n,s,b,l,aI,f,h=>by
  rw[hX]at h;by_cases h0:s=[];grind
  . rw[ah (by simp[h0]),mn]at h;simp only[aW,ay]at h;cases a:iG s with
    |none=>
     rw[a]at h;simp[eb]at h
    |some r=>
     obtain⟨x,rest⟩:=r;rw[a]at h;have ak:=oq a;have c:¬((!(eb (some (x,rest))).2.2)=true):=(by simp[eb]);have e:cn 16 (b++[(eb (some (x,rest))).1]).length:=ef;rw[au c,ah e]at h;intro q d
     match n,aI with
     |0,aI=>omega
     |n+1,aI=>
      have:=N0 n rest _ l (by omega) (by simp;omega) h q d;rcases this with h|h
      . rcases iB.1 h with h|h
        exact .inl h;right;have:q=x:=(by simpa[eb]using h);grind
      omega
theorem MY:∀(n:Nat) (s:aq) (last:Nat) (b l:I cY),s.length<=n->s.length+b.length<=100000->gZ ((last:Int),s,b)=some (.inr l)->
 ∃c,l=b++c/\(∀f,f∈c->f.bT.length<=s.length/\(last:Int)<f.ai/\f.ai<=1000)/\c.Pairwise (λa b=>a.ai<b.ai)
 |n,s,last,b,l,aI,u,h=>by
  rw[gZ]at h;by_cases h0:s=[];simp_all
  . rw[ah (by simp[h0])]at h;rcases lT s with⟨e,he,av⟩|⟨m,k,av,w,i,j⟩
    rw[ou he av]at h;simp at h
    . rw[mm av i]at h;simp only[aW,ay,u4 j]at h;by_cases v:((m/2:Nat):Int)<=(last:Int)\/1000<((m/2:Nat):Int)
      grind
      . have:¬((bif bif (!true)then true else (((m/2:Nat):Int)<=(last:Int):J)then true else (1000<((m/2:Nat):Int):J))=true):=(by grind);rw[au this,mn (by rw[nE];omega)]at h;simp only[ay]at h;cases d:iG (s.drop k)with
        |none=>
         rw[d]at h;simp[eb]at h
        |some r=>
         obtain⟨x,rest⟩:=r;rw[d]at h;have ak:=oq d;rw[nE]at ak;have o:¬((!(eb (some (x,rest))).2.2)=true):=(by simp[eb]);have q:da .i64 ((m/2:Nat):Int)=((m/2:Nat):Int):=lk;rw[au o,q]at h;have p:cn 32 (b++[(⟨((m/2:Nat):Int),(f' (m:Int) 2=1:J),(eb (some (x,rest))).1⟩:cY)]).length:=ef;rw[ah p]at h
         match n,aI with
         |0,aI=>omega
         |n+1,aI=>
          obtain⟨c,e,h1,t⟩:=MY n rest (m/2) _ l (by omega) (by simp;omega) h;refine⟨⟨((m/2:Nat):Int),(f' (m:Int) 2=1:J),(eb (some (x,rest))).1⟩::c,by rw[e];simp,λf g=>?_,?_⟩
          . rcases eE.1 g with rfl|g
            refine⟨by show x.length<=_;omega,by show(last:Int)<((m/2:Nat):Int);omega,by show((m/2:Nat):Int)<=1000;omega⟩;grind
          grind
theorem uo(ar:p.length<=90000):∃o,kT p=some o/\(o.2=0->gW p=some o.1/\(∀q,q∈o.1->q.length<=p.length)/\o.1.length<=p.length)/\(o.2≠0->gW p=none):=by
 obtain⟨o,h1,a⟩:=afS ar;refine⟨o,h1,λh0=>⟨?_,?_,a⟩,λh0=>?_⟩;unfold gW;rw[h1];grind
 . obtain⟨c,a1,_⟩:=ER p.length p [] (by omega) (by simp;omega);rw[kT,a1]at h1;cases c with
   |inl e=>grind
   |inr l=>
    have:o=(l,0):=(oX h1).symm;subst this;intro q b;rcases N0 p.length p [] l (by omega) (by simp;omega) a1 q b with h|h;cases h;exact h
 unfold gW;rw[h1];grind
theorem Fa(ar:p.length<=90000):∃o,kT p=some o/\r6 p=some o/\(o.2=0->gW p=some o.1/\(∀q,q∈o.1->q.length<=p.length)/\o.1.length<=p.length)/\(o.2≠0->gW p=none):=by
 obtain⟨o,h1,a⟩:=uo ar;exact⟨o,h1,by rw[afT ar,h1],a⟩
theorem EE(ar:p.length<=90000):∃o,mg p=some o/\(o.2=0->im p=some o.1/\(∀f,f∈o.1->f.bT.length<=p.length/\cD f.ai)/\o.1.Pairwise (λa b=>a.ai<b.ai)/\o.1.length<=p.length)/\(o.2≠0->im p=none):=by
 obtain⟨o,h1,i⟩:=adV ar;obtain⟨d,a1,_⟩:=Ov p.length p 0 [] (by omega) (by simp;omega);have key:o.2=0->(∀f,f∈o.1->f.bT.length<=p.length/\cD f.ai)/\o.1.Pairwise (λa b=>a.ai<b.ai):=by
  intro h0;have c:=h1;have g:gZ (0,p,[])=some d:=a1;rw[mg,g]at c;cases d with
  |inl e=>
   have:o=([],e):=(oX c).symm;simp_all
  |inr l=>
   have:o=(l,0):=(oX c).symm;subst this;obtain⟨k,e,b1,b2⟩:=MY p.length p 0 [] l (by omega) (by simp;omega) a1;have:l=k:=(by simpa using e);subst this;exact⟨λf j=>by have:=b1 f j;exact⟨this.1,by omega,this.2.2⟩,b2⟩
 refine⟨o,h1,λh0=>⟨?_,(key h0).1,(key h0).2,i⟩,λh0=>?_⟩;unfold im;rw[h1];grind;unfold im;rw[h1];grind
theorem L2(ar:p.length<=90000):∃o,mg p=some o/\vZ p=some o/\(o.2=0->im p=some o.1/\(∀f,f∈o.1->f.bT.length<=p.length/\cD f.ai)/\o.1.Pairwise (λa b=>a.ai<b.ai)/\o.1.length<=p.length)/\(o.2≠0->im p=none):=by
 obtain⟨o,h1,c⟩:=EE ar;exact⟨o,h1,by rw[adW ar,h1],c⟩
theorem KE(p:aq):∃o,mh p=some o/\(o.2.2=0->jl p=some (o.1,o.2.1)/\o.2.1.length<=p.length/\cD o.1)/\(o.2.2≠0->jl p=none):=by
 obtain⟨o,h1⟩:=ahD p;have key:o.2.2=0->o.2.1.length<=p.length/\cD o.1:=by
  intro h0;have a:=h1;rw[mh]at a;rcases lT p with⟨e,he,av⟩|⟨m,k,av,f,c,g⟩;rw[ou he av]at a;grind
  . rw[mm av c]at a;simp only[aW,ay]at a;by_cases d:(m:Int)<1\/1000<(m:Int)
    grind;have b:¬((bif bif (!true)then true else ((m:Int)<1:J)then true else (1000<(m:Int):J))=true):=(by grind);rw[au b,lk]at a;have:o=((m:Int),p.drop k,0):=(oX a).symm;subst this;exact⟨by show(p.drop k).length<=_;rw[nE];omega,by omega,by show(m:Int)<=1000;omega⟩
 refine⟨o,h1,λh0=>⟨?_,(key h0).1,(key h0).2⟩,λh0=>?_⟩;unfold jl;rw[h1];grind;unfold jl;rw[h1];grind
theorem O3(p:aq):∃o,mh p=some o/\wg p=some o/\(o.2.2=0->jl p=some (o.1,o.2.1)/\o.2.1.length<=p.length/\cD o.1)/\(o.2.2≠0->jl p=none):=by
 obtain⟨o,h1,a⟩:=KE p;obtain⟨b,a1,a2⟩:=ahE p;rw[h1]at a1;rw[<-oX a1]at a2;exact⟨o,h1,a2,a⟩
def jV(a b:aq):J:=bif ((a.length:Int)<(b.length:Int):J)then true else bif ((a.length:Int)=(b.length:Int):J)then Op.bytesLess a b else false
def dK(ts:I aj):Nat->Int->aq->Prop
 |0,_,_=>False
 |r+1,t,p=>
  let x:=ts.getD t.toNat aN
  (x.ae=1/\(p=[]\/p=[1]))\/
  (x.ae=2/\∃n,gb p=some n/\x.br<=ga n/\ga n<=x.bB)\/
  (x.ae=3/\(p.length:Int)<=x.Max)\/
  (x.ae=4/\∃n,gb p=some n/\(1<=n/\n<=1000)/\((∃y,y∈x.bc/\y.ai=(n:Int))\/x.bt))\/
  (x.ae=5/\∃l,im p=some l/\(∀f,f∈l->(cw x.af f.ai=none->f.b4=false)/\∀m,cw x.af f.ai=some m->f.b4=m.b4/\dK ts r m.aC f.bT/\(m.bH->f.bT≠bG ts m.aC m.bm))/\∀m,m∈x.af->m.bH=false->∃f,f∈l/\f.ai=m.ai)\/
  (x.ae=6/\∃id q,jl p=some (id,q)/\(cw x.af id=none->x.bt)/\∀m,cw x.af id=some m->dK ts r m.aC q)\/
  (x.ae=7/\∃l,gW p=some l/\(l.length:Int)<=x.Max/\∀q,q∈l->dK ts r x.aF q)\/
  (x.ae=8/\∃l,gW p=some l/\l.length%2=0/\((l.length/2:Nat):Int)<=x.Max/\∀i,2*i+1<l.length->dK ts r x.aR (l.getD (2*i) [])/\dK ts r x.aF (l.getD (2*i+1) [])/\(0<i->jV (l.getD (2*i-2) []) (l.getD (2*i) [])))\/
  (x.ae=9/\(p=[]\/∃q,p=1::q/\dK ts r x.aF q))
section
variable {ts:I aj}
theorem afh(a b:aq):DD (a,b)=some (jV a b):=rfl
def okF(ts:I aj)(r:Nat)(a:I aU)(f:cY):Prop:=(cw a f.ai=none->f.b4=false)/\∀m,cw a f.ai=some m->f.b4=m.b4/\dK ts r m.aC f.bT/\(m.bH->f.bT≠bG ts m.aC m.bm)
theorem agd(a e b sh t i:J)(c g:Int)(j:Int->J)(f:Int->J)(E:Int->ag J)(B:Int->ag J)(k l:ag γ)(er:E g=some e)(p:j g)(o:i=true)(h1:b=true->f c/\B c=some sh):
 (some a>>=λq=>some (!q)>>=λt61=>some g>>=λt68=>if(j t68||(!(!t61))) then(if !t61 then E t68 else some false)>>=λr=>some (bif t61 then true else(!r))>>=λt75=>some b>>=λt78=>some c>>=λt82=>
  if(f t82||(!((!t75)&&t78))) then if(i||(!((!t75)&&t78))) then(if((!t75)&&t78) then B t82 else some false)>>=λs=>if(bif t75 then true else bif t78 then(!s)else false) then k else l else none else none else none)=if(a&&e&&(!b||sh)) then l else k:=by
 subst o;simp only[aW,ay];rw[er,p];cases b with
 |true=>
  obtain⟨m,n⟩:=h1 rfl;rw[m,n];cases a<;>cases e<;>cases sh<;>rfl
 |false=>
  generalize f c=d;cases a<;>cases e<;>cases d<;>cases sh<;>rfl
theorem Qs(r:Nat)(t:Int)(p:aq):dK ts (r+1) t p↔
 (((ts.getD t.toNat aN).ae=1/\(p=[]\/p=[1]))\/
 ((ts.getD t.toNat aN).ae=2/\∃n,gb p=some n/\(ts.getD t.toNat aN).br<=ga n/\ga n<=(ts.getD t.toNat aN).bB)\/
 ((ts.getD t.toNat aN).ae=3/\(p.length:Int)<=(ts.getD t.toNat aN).Max)\/
 ((ts.getD t.toNat aN).ae=4/\∃n,gb p=some n/\(1<=n/\n<=1000)/\((∃y,y∈(ts.getD t.toNat aN).bc/\y.ai=(n:Int))\/(ts.getD t.toNat aN).bt)))\/
 ((ts.getD t.toNat aN).ae=5/\∃l,im p=some l/\(∀f,f∈l->okF ts r (ts.getD t.toNat aN).af f)/\∀m,m∈(ts.getD t.toNat aN).af->m.bH=false->∃f,f∈l/\f.ai=m.ai)\/
 ((ts.getD t.toNat aN).ae=6/\∃id q,jl p=some (id,q)/\(cw (ts.getD t.toNat aN).af id=none->(ts.getD t.toNat aN).bt)/\∀m,cw (ts.getD t.toNat aN).af id=some m->dK ts r m.aC q)\/
 ((ts.getD t.toNat aN).ae=7/\∃l,gW p=some l/\(l.length:Int)<=(ts.getD t.toNat aN).Max/\∀q,q∈l->dK ts r (ts.getD t.toNat aN).aF q)\/
 ((ts.getD t.toNat aN).ae=8/\∃l,gW p=some l/\l.length%2=0/\((l.length/2:Nat):Int)<=(ts.getD t.toNat aN).Max/\∀i,2*i+1<l.length->dK ts r (ts.getD t.toNat aN).aR (l.getD (2*i) [])/\dK ts r (ts.getD t.toNat aN).aF (l.getD (2*i+1) [])/\(0<i->jV (l.getD (2*i-2) []) (l.getD (2*i) [])))\/
 ((ts.getD t.toNat aN).ae=9/\(p=[]\/∃q,p=1::q/\dK ts r (ts.getD t.toNat aN).aF q)):=by
 rw[dK];simp only[or_assoc];exact jF
def Ns(ts:I aj)(r:Nat):Prop:=∀(t:Int) (p:aq),0<=t->t<ts.length->p.length<=4096->db (hV ((⟨ts⟩:aT),t,p,(r:Int))) (dK ts r t p)
theorem KF{l:I cY}(ak:l.length<=100000){x:aj}{m:aU}(b i:Int):∀(k j:Nat) (a:Int),j+k=l.length->(a= -1/\(∀q,q<j->(l.getD q dz).ai≠m.ai)\/∃q:Nat,q<l.length/\a=(q:Int)/\(l.getD q dz).ai=m.ai)->
 ∃ca,pY (b,l,i,a,(j:Int),ts,x.ae,x.aP,x.br,x.bB,x.Max,x.bc,x.af,x.aR,x.aF,x.bt,m)=some (b,l,i,ca,ts,x.ae,x.aP,x.br,x.bB,x.Max,x.bc,x.af,x.aR,x.aF,x.bt,m)/\(ca= -1/\(∀q,q<l.length->(l.getD q dz).ai≠m.ai)\/∃q:Nat,q<l.length/\ca=(q:Int)/\(l.getD q dz).ai=m.ai)
 |0,j,a,d,c=>by
  refine⟨a,by rw[pY,dC,iu],?_⟩;grind
 |k+1,j,a,d,c=>by
  have aD:j<l.length:=by omega
  rw[pY,cJ,ah (aY aD)];simp only[bQ,iu];by_cases e:(l.getD j dz).ai=m.ai;rw[ah (by simpa using e),bN];exact KF ak b i k (j+1) (j:Int) (by omega) (.inr ⟨j,aD,rfl,e⟩)
  . rw[au (by simpa using e),bN];refine KF ak b i k (j+1) a (by omega) ?_;grind
def u2(ts:I aj)(r:Nat)(l:I cY)(m:aU):Prop:=((∀f,f∈l->f.ai≠m.ai)->m.bH)/\∀f,f∈l->f.ai=m.ai->f.b4=m.b4/\dK ts r m.aC f.bT/\(m.bH->f.bT≠bG ts m.aC m.bm)
theorem ag7(bC:J)(A:Int->J)(b w a g:J)(W:ag J)(P:ag aq)(D q:aq)(e f:ag γ)(i:bC=true)(dJ:b=true->W=some w)(aB:b=true->w=true->a=true->P=some q)(j:g=(D=q:J)):
 (if(bC||(!true)) then some (!b)>>=λc=>if(bC||(!(true&&(!c)))) then(if(true&&(!c)) then W else some false)>>=λk=>some (bif c then true else(!k))>>=λd=>
  if(bC||(!(true&&(!d)&&a))) then(if(true&&(!d)&&a) then P else some [])>>=λl=>if(bif true then bif d then true else bif a then (D=l:J)else false else false) then e else f else none else none else none)=if(b&&w&&(!a || !g)) then f else e:=by
 subst i;cases b with
 |false=>rfl
 |true=>
  rw[dJ rfl];cases w with
  |false=>rfl
  |true=>
   cases a with
   |false=>rfl
   |true=>
    rw[aB rfl rfl rfl,j];simp only[aW,ay,dc,eL,Bool.and_self,u0,mC,cl,fh,et,zB];cases (D=q:J)<;>rfl
theorem O4(H:cX ts){r:Nat}(M:r<=300)(ih:Ns ts r){x:aj}(aa:x∈ts)(n:∀m,m∈x.af->0<=m.aC/\m.aC<ts.length){l:I cY}(ak:l.length<=100000)(o:l.Pairwise (λa b=>a.ai<b.ai))(p:∀f,f∈l->f.bT.length<=4096):
 ∀(k i:Nat),i+k=x.af.length->(n9 (((r+1:Nat):Int),l,(i:Int),ts,x.ae,x.aP,x.br,x.bB,x.Max,x.bc,x.af,x.aR,x.aF,x.bt)=some (.inr (l,x.ae,x.aP,x.br,x.bB,x.Max,x.bc,x.af,x.aR,x.aF,x.bt))/\∀m,m∈x.af.drop i->u2 ts r l m)\/
  (n9 (((r+1:Nat):Int),l,(i:Int),ts,x.ae,x.aP,x.br,x.bB,x.Max,x.bc,x.af,x.aR,x.aF,x.bt)=some (.inl false)/\¬∀m,m∈x.af.drop i->u2 ts r l m)
 |0,i,K=>by
  left;rw[n9,dC,fx (by omega:x.af.length<=i)];grind
 |k+1,i,K=>by
  have aD:i<x.af.length:=by omega
  have Z:=(H.bC _ aa).2.2;have Q:=O4 H M ih aa n ak o p k (i+1) (by omega);have j:=bA aD aH;obtain⟨R,S⟩:=n _ j;have E:=H.D _ aa _ j;have F:=(H.T _ aa).hj _ j;have G:=H.W _ aa _ j;obtain⟨a,a1,a2⟩:=KF (ts:=ts) ak (x:=x) (m:=x.af.getD i aH) (((r+1:Nat):Int)) (i:Int) l.length 0 (-1) (by omega) (.inl ⟨rfl,λq d=>by omega⟩);have y:pY (((r+1:Nat):Int),l,(i:Int),-1,0,ts,x.ae,x.aP,x.br,x.bB,x.Max,x.bc,x.af,x.aR,x.aF,x.bt,x.af.getD i aH)=_:=a1;have A:∀P:aU->Prop,(∀m,m∈x.af.getD i aH::x.af.drop (i+1)->P m)↔P (x.af.getD i aH)/\∀m,m∈x.af.drop (i+1)->P m:=λP=>by grind
  rw[e6 aD aH,A,n9,cJ,ah (aY aD)];simp only[aW,ay,bQ,iu,ab.bI];rw[y];simp only[ay];have aJ:dD .i64 ((r+1:Nat):Int) 1=(r:Int):=by rw[mW];omega
  rw[aJ,bN];generalize x.af.getD i aH=m at*;rcases a2 with⟨rfl,ad⟩|⟨q,d,rfl,he⟩
  . have u:∀f,f∈l->f.ai≠m.ai:=λf c=>by
     obtain⟨q,d,rfl⟩:=gT c;grind
    cases g:m.bH with
    |true=>
     have v:u2 ts r l m:=⟨λ_=>g,λf c e=>absurd e (u f c)⟩;grind
    |false=>
     right;rw[j1];refine⟨rfl,λh=>?_⟩;have:=h.1.1 u;grind
  . have c:=bA d dz;have al:∀f,f∈l->f.ai=m.ai->f=l.getD q dz:=λf s e=>by
     obtain⟨am,ag,rfl⟩:=gT s;rw[fM d]at he⊢;have ar:=xt.1 o;grind
    have v:u2 ts r l m↔(l.getD q dz).b4=m.b4/\dK ts r m.aC (l.getD q dz).bT/\(m.bH->(l.getD q dz).bT≠bG ts m.aC m.bm):=by
     constructor;rintro ⟨_,h⟩;exact h _ c he;intro h;refine⟨λz=>absurd he (z _ c),λf s e=>?_⟩;grind
    obtain⟨w,U,X⟩:=ih m.aC (l.getD q dz).bT R S (p _ c);have C:((0:Int)<=(q:Int):J):=(by simp);have L:¬((bif ((q:Int)<0:J)then(!m.bH)else false)=true):=(by grind);rw[au L,C];simp only[bQ];have N:=ag7 (γ:=J ⊕ (I cY×Int×aq×Int×Int×Int×I df×I aU×Int×Int×J)) (aE (q:Int) l.length) (λ_=>true) (e7 (l.getD q dz).b4 m.b4) w m.bH ((l.getD q dz).bT=bG ts m.aC m.bm:J) (hV ((⟨ts⟩:aT),m.aC,(l.getD q dz).bT,(r:Int))) (km ((⟨ts⟩:aT),m.aC,m.bm)) (l.getD q dz).bT (bG ts m.aC m.bm) (some (.inl false)) (n9 (((r+1:Nat):Int),l,((i+1:Nat):Int),ts,x.ae,x.aP,x.br,x.bB,x.Max,x.bc,x.af,x.aR,x.aF,x.bt)) (aY d) (λ_=>U) (λ_ _ g=>Jw (H.V.ik H.T) F (by have:=G g;omega) _ (qD _ _ (E g))) rfl;have t:=N;simp only[aW]at t;have B:(e7 (l.getD q dz).b4 m.b4&&w&&(!m.bH || !((l.getD q dz).bT=bG ts m.aC m.bm:J)))↔u2 ts r l m:=by
     rw[v,<-X];have Y:e7 (l.getD q dz).b4 m.b4↔(l.getD q dz).b4=m.b4:=by cases (l.getD q dz).b4<;>cases m.b4<;>simp[e7]
     grind
    by_cases O:u2 ts r l m
    . have er:=t.trans (ah (B.2 O));rcases Q with⟨b1,b2⟩|⟨b1,b2⟩
      grind;grind
    grind
theorem acR(d:x.af.length<9223372036854775807){l:I cY}(ak:l.length<=100000):db (nv (l,0,x.ae,x.aP,x.br,x.bB,x.Max,x.bc,x.af,x.aR,x.aF,x.bt)>>=λr=>match r with|.inl o=>some o|.inr _=>some true) (∀f,f∈l->cw x.af f.ai=none->f.b4=false):=by
 let u:Nat->J:=λi=>!((gD (x,(l.getD i dz).ai)).getD (0,false)).2;have k:∀i,i<l.length->∃q,gD (x,(l.getD i dz).ai)=some q/\u i=!q.2/\(q.2=false↔cw x.af (l.getD i dz).ai=none):=by
  intro i a;obtain⟨q,_,b,qf⟩:=ni (t:=x) (l.getD i dz).ai d;refine⟨q,b,by simp only[u,b,uV],?_⟩;rcases t' qf with⟨e,j,v,w,m,y⟩|⟨e,m⟩;grind;grind
 refine(db.loop (L:=λi=>nv (l,(i:Int),x.ae,x.aP,x.br,x.bB,x.Max,x.bc,x.af,x.aR,x.aF,x.bt)) (n:=l.length) (p:=λi=>!(bif u i then(l.getD i dz).b4 else false)) (g:=()) rfl (λi a=>?_) ?_).imp ?_
 . show nv (l,(i:Int),x.ae,x.aP,x.br,x.bB,x.Max,x.bc,x.af,x.aR,x.aF,x.bt)=if !(bif u i then(l.getD i dz).b4 else false) then nv (l,((i+1:Nat):Int),x.ae,x.aP,x.br,x.bB,x.Max,x.bc,x.af,x.aR,x.aF,x.bt)else _
   obtain⟨q,s,b,_⟩:=k i a;rw[nv,cJ,ah (aY a)];simp only[bQ,ET];rw[s,b];simp only[aW,ay];rw[ah (by rw[aY a];rfl),bN];grind
 show nv (l,(l.length:Int),x.ae,x.aP,x.br,x.bB,x.Max,x.bc,x.af,x.aR,x.aF,x.bt)=_;rw[nv,cq]
 . constructor
   intro h f c aI;obtain⟨i,a,rfl⟩:=gT c;grind;grind
theorem acS{r:Nat}{c:I aU}(n:h9 c){l:I cY}:((∀m,m∈c->u2 ts r l m)/\∀f,f∈l->cw c f.ai=none->f.b4=false)↔(∀f,f∈l->okF ts r c f)/\∀m,m∈c->m.bH=false->∃f,f∈l/\f.ai=m.ai:=by
 have p:∀m,m∈c->cw c m.ai=some m:=λm b=>by
  obtain⟨j,g,s⟩:=gT b;unfold cw;rw[GZ];refine⟨by simp,j,g,s,λi q=>?_⟩;have ar:=xt.1 n.1 i j (by omega) g q;grind
 constructor
 . rintro ⟨h1,d⟩
   refine⟨λf a=>⟨d f a,λm b=>?_⟩,λm b t=>?_⟩
   . have aJ:=xu b;have k:=C0 b
     exact (h1 m aJ).2 f a (by have:m.ai = f.ai:= by simpa using k
                               omega)
   apply Classical.byContradiction;intro o;have:=(h1 m b).1 (λf a e=>o ⟨f,a,e⟩);grind
 . rintro ⟨h1,d⟩
   refine⟨λm b=>⟨λu=>?_,λf a e=>?_⟩,λf a=>(h1 f a).1⟩;grind;exact(h1 f a).2 m (by rw[e];exact p m b)
end
theorem aeX(ar:p.length<=90000){o:I aq×Int}(h:kT p=some o)(h0:¬o.2=0):o.1=[]:=by
 have⟨a,a1,_⟩:=ER p.length p [] (by simp) (by grind);grind[kT]
section
variable {ts:I aj}
theorem Mh{r:Nat}(b:r<=300){l:I aq}(e:Int)(ak:l.length<=100000)(ih:∀q,q∈l->db (hV ((⟨ts⟩:aT),x.aF,q,(r:Int))) (dK ts r x.aF q)):
 ∀(k i:Nat),i+k=l.length->(p0 (((r+1:Nat):Int),l,e,(i:Int),ts,x.ae,x.aP,x.br,x.bB,x.Max,x.bc,x.af,x.aR,x.aF,x.bt)=some (.inr (l,e,x.ae,x.aP,x.br,x.bB,x.Max,x.bc,x.af,x.aR,x.aF,x.bt))/\∀q,q∈l.drop i->dK ts r x.aF q)\/
  (p0 (((r+1:Nat):Int),l,e,(i:Int),ts,x.ae,x.aP,x.br,x.bB,x.Max,x.bc,x.af,x.aR,x.aF,x.bt)=some (.inl false)/\¬∀q,q∈l.drop i->dK ts r x.aF q)
 |0,i,a=>by
  simp_all[p0,au,fx]
 |k+1,i,a=>by
  have aD:i<l.length:=by omega
  obtain⟨w,c,f⟩:=ih _ (bA aD []);have aJ:dD .i64 ((r+1:Nat):Int) 1=(r:Int):=by grind[pk]
  have d:=Mh b e ak ih k (i+1) (by omega);rw[e6 aD [],p0,ah (by grind),ah (aY aD)];simp only[aW,ay,bQ];rw[aJ,c];simp only[ay];cases w with
  |false=>grind
  |true=>
   rw[bN];grind
theorem acT{r:Nat}(y:r<=300){l:I aq}(ak:l.length<=100000)(he:l.length%2=0)(u:∀q,q∈l->db (hV ((⟨ts⟩:aT),x.aR,q,(r:Int))) (dK ts r x.aR q))(t:∀q,q∈l->db (hV ((⟨ts⟩:aT),x.aF,q,(r:Int))) (dK ts r x.aF q)):
 db (tH (((r+1:Nat):Int),l,0,ts,x.ae,x.aP,x.br,x.bB,x.Max,x.bc,x.af,x.aR,x.aF,x.bt)>>=λo=>match o with|.inl x=>some x|.inr _=>some true)
  (∀i,2*i+1<l.length->dK ts r x.aR (l.getD (2*i) [])/\dK ts r x.aF (l.getD (2*i+1) [])/\(0<i->jV (l.getD (2*i-2) []) (l.getD (2*i) []))):=by
 let a:Nat->J:=λi=>(hV ((⟨ts⟩:aT),x.aR,l.getD (2*i) [],(r:Int))).getD false;let e:Nat->J:=λi=>(hV ((⟨ts⟩:aT),x.aF,l.getD (2*i+1) [],(r:Int))).getD false;have k:∀i,2*i<l.length->hV ((⟨ts⟩:aT),x.aR,l.getD (2*i) [],(r:Int))=some (a i)/\(a i↔dK ts r x.aR (l.getD (2*i) [])):=by
  intro i c;obtain⟨w,h1,d⟩:=u _ (bA c []);grind
 have v:∀i,2*i+1<l.length->hV ((⟨ts⟩:aT),x.aF,l.getD (2*i+1) [],(r:Int))=some (e i)/\(e i↔dK ts r x.aF (l.getD (2*i+1) [])):=by
  intro i c;obtain⟨w,h1,d⟩:=t _ (bA c []);grind
 have aJ:dD .i64 ((r+1:Nat):Int) 1=(r:Int):=by grind[pk]
 refine(db.loop (L:=λi=>tH (((r+1:Nat):Int),l,((2*i:Nat):Int),ts,x.ae,x.aP,x.br,x.bB,x.Max,x.bc,x.af,x.aR,x.aF,x.bt)) (n:=l.length/2) (p:=λi=>a i&&e i&&(!((0:Int)<((2*i:Nat):Int):J)||jV (l.getD (2*i-2) []) (l.getD (2*i) []))) (g:=()) rfl (λi c=>?_) ?_).imp ?_
 . have d:2*i<l.length:=(by omega);have f:2*i+1<l.length:=(by omega);have s:a' .i64 ((2*i:Nat):Int) 2=((2*(i+1):Nat):Int):=by
    have:=JY (a:=2*i) (b:=2) (by omega);omega
   have m:a' .i64 ((2*i:Nat):Int) 1=((2*i+1:Nat):Int):=bN;rw[tH,cJ,ah (aY d)];simp only[bQ];rw[aJ,(k i d).1,s,m];refine agd (a i) (e i) ((0:Int)<((2*i:Nat):Int):J) (jV (l.getD (2*i-2) []) (l.getD (2*i) [])) true (aE ((2*i:Nat):Int) l.length) (dD .i64 ((2*i:Nat):Int) 2) ((2*i+1:Nat):Int) (λj=>aE j l.length) (λj=>aE j l.length) (λj=>hV ((⟨ts⟩:aT),x.aF,l.getD j.toNat [],(r:Int))) (λj=>DD (l.getD j.toNat [],l.getD (2*i) [])) _ _ ?_ (aY f) (aY d) (λA=>?_)
   grind[bQ]
   . have:0<i:=(by grind);have z:dD .i64 ((2*i:Nat):Int) 2=((2*i-2:Nat):Int):=by rw[mW];omega
     grind[bQ,aY,afh]
 have:2*(l.length/2)=l.length:=(by omega);simp_all[tH,au]
 . constructor
   intro h i c;have:=h i (by omega);grind;intro h i c;simp only[dh,lN];grind
theorem Sf{r:Nat}(aa:ts.getD j aN=x):
 (x.ae=1->(dK ts (r+1) (j:Int) p↔(p=[]\/p=[1])))/\
 (x.ae=2->(dK ts (r+1) (j:Int) p↔∃n,gb p=some n/\x.br<=ga n/\ga n<=x.bB))/\
 (x.ae=3->(dK ts (r+1) (j:Int) p↔(p.length:Int)<=x.Max))/\
 (x.ae=4->(dK ts (r+1) (j:Int) p↔∃n,gb p=some n/\(1<=n/\n<=1000)/\((∃y,y∈x.bc/\y.ai=(n:Int))\/x.bt)))/\
 (x.ae=5->(dK ts (r+1) (j:Int) p↔∃l,im p=some l/\(∀f,f∈l->okF ts r x.af f)/\∀m,m∈x.af->m.bH=false->∃f,f∈l/\f.ai=m.ai))/\
 (x.ae=6->(dK ts (r+1) (j:Int) p↔∃id q,jl p=some (id,q)/\(cw x.af id=none->x.bt)/\∀m,cw x.af id=some m->dK ts r m.aC q))/\
 (x.ae=7->(dK ts (r+1) (j:Int) p↔∃l,gW p=some l/\(l.length:Int)<=x.Max/\∀q,q∈l->dK ts r x.aF q))/\
 (x.ae=8->(dK ts (r+1) (j:Int) p↔∃l,gW p=some l/\l.length%2=0/\((l.length/2:Nat):Int)<=x.Max/\∀i,2*i+1<l.length->dK ts r x.aR (l.getD (2*i) [])/\dK ts r x.aF (l.getD (2*i+1) [])/\(0<i->jV (l.getD (2*i-2) []) (l.getD (2*i) []))))/\
 (x.ae=9->(dK ts (r+1) (j:Int) p↔(p=[]\/∃q,p=1::q/\dK ts r x.aF q))):=by
 have a:=Qs (ts:=ts) r (j:Int) p;rw[bQ,aa]at a;refine⟨λk=>?_,λk=>?_,λk=>?_,λk=>?_,λk=>?_,λk=>?_,λk=>?_,λk=>?_,λk=>?_⟩<;>rw[a]<;>simp[k]
theorem Qt(H:cX ts):∀(r:Nat),r<=200->Ns ts r
 |0,ap=>by
  intro t p az aA ar;obtain⟨j,rfl⟩:∃j:Nat,t=(j:Int):=⟨t.toNat,by omega⟩;rw[hV,ah (aY (by omega:j<ts.length))];simp only[aW,ay];rw[j1];refine⟨false,rfl,?_⟩;constructor;grind;intro h;exact h.elim
 |r+1,ap=>by
  intro t p az aA ar;have ih:=Qt H r (by omega);obtain⟨j,rfl⟩:∃j:Nat,t=(j:Int):=⟨t.toNat,by omega⟩
  have P:j<ts.length:=by omega
  have v:=bA P aN;have aG:=H.V.ik H.T;have B:=H.V.U _ v;have bW:=aG.K _ v;have W:(ts.getD j aN).af.length<9223372036854775807:=eI (iw (H.T _ v).hq);have aw:(ts.getD j aN).bc.length<9223372036854775807:=eI (iw (H.T _ v).syms);have N:∀m,m∈(ts.getD j aN).af->0<=m.aC/\m.aC<ts.length:=λm ak=>B m.aC (iB.2 (.inl (iB.2 (.inl (fY.2 ⟨m,ak,rfl⟩)))));have aJ:dD .i64 ((r+1:Nat):Int) 1=(r:Int):=by rw[mW];omega
  rw[hV,ah (aY P)];simp only[aW,ay,bQ];rw[dC];have Z:=aG.A _ v;generalize aB:ts.getD j aN=x at*;obtain⟨v1,v2,v3,v4,v5,a1,aS,aT,v9⟩:=Sf (ts:=ts) (r:=r) (p:=p) aB;unfold ly at bW;have ab:x.ae=1\/x.ae=2\/x.ae=3\/x.ae=4\/x.ae=5\/x.ae=6\/x.ae=7\/x.ae=8\/x.ae=9:=by omega
  rcases ab with k|k|k|k|k|k|k|k|k;rw[ah (by simp[k])];refine(db.of ?_).imp (v1 k).symm;grind
  . rw[au (by simp[k]),ah (by simp[k])];obtain⟨o,_,d,s,D⟩:=I0 p;rw[d];simp only[ay];by_cases h0:o.2=0
    . obtain⟨n,G,I⟩:=s h0;have aI:=Bc G;have u:(o.2=0:J):=(by simp[h0]);rw[u,ah rfl,I,Se aI];simp only[ay,fh];by_cases g:x.br<=ga n
      have av:(x.br<=ga n:J):=(by simpa using g);rw[av,ah rfl];refine⟨_,rfl,?_⟩;grind;have av:(x.br<=ga n:J)=false:=(by simpa using g);rw[av,cq];refine⟨false,rfl,?_⟩;grind
    have u:(o.2=0:J)=false:=(by simp[h0]);rw[u];refine⟨false,rfl,?_⟩;grind
  rw[au (by simp[k]),au (by simp[k]),ah (by simp[k])];exact(db.of (by simp)).imp (v3 k).symm
  . rw[au (by simp[k]),au (by simp[k]),au (by simp[k]),ah (by simp[k])];obtain⟨o,_,d,s,D⟩:=I0 p;rw[d];simp only[ay];by_cases h0:o.2=0
    . obtain⟨n,G,I⟩:=s h0;rw[I,h0];by_cases aZ:1<=n/\n<=1000
      have a:¬(n:Int)<1:=(by omega);have b:¬(1000:Int)<(n:Int):=(by omega);obtain⟨q,_,L,qf⟩:=rz (t:=x) (n:Int) aw;rw[au (by simp only[a,b,ee,dS,dc,et,cx,Hg]),lk,L];refine⟨_,rfl,?_⟩;rw[v4 k,G];have:=E' qf;grind;have F:(bif bif (!((0:Int)=0:J))then true else ((n:Int)<1:J)then true else (1000<(n:Int):J))=true:=(by grind);rw[ah F];refine⟨false,rfl,?_⟩;grind
    have F:(bif bif (!(o.2=0:J))then true else (o.1<1:J)then true else (1000<o.1:J))=true:=(by simp[h0]);rw[ah F];refine⟨false,rfl,?_⟩;grind
  . rw[au (by simp[k]),au (by simp[k]),au (by simp[k]),au (by simp[k]),au (by simp[k]),au (by simp[k]),au (by simp[k]),au (by simp[k])];obtain⟨o,_,d,s,D⟩:=L2 (p:=p) (by omega);rw[d];simp only[ay];by_cases h0:o.2=0
    . obtain⟨f1,f2,f3,f4⟩:=s h0;obtain⟨al,_⟩:=Z (.inl k);rw[au (by simp[h0])];have S:=O4 H (by omega:r<=300) ih v N (l:=o.1) (by omega) f3 (λf ai=>by have:=(f2 f ai).1;omega) x.af.length 0 (by omega);have dp:n9 (((r+1:Nat):Int),o.1,((0:Nat):Int),ts,x.ae,x.aP,x.br,x.bB,x.Max,x.bc,x.af,x.aR,x.aF,x.bt)=n9 (((r+1:Nat):Int),o.1,0,ts,x.ae,x.aP,x.br,x.bB,x.Max,x.bc,x.af,x.aR,x.aF,x.bt):=rfl;simp only[dp,eZ]at S;have aV:=acS (ts:=ts) (r:=r) al (l:=o.1);rcases S with⟨a,b⟩|⟨a,b⟩
      . rw[a];simp only[ay];refine(acR W (l:=o.1) (by omega)).imp ?_;simp_all
      rw[a];refine⟨false,rfl,?_⟩;simp_all
    rw[ah (by simp[h0])];refine⟨false,rfl,?_⟩;grind
  . rw[au (by simp[k]),au (by simp[k]),au (by simp[k]),au (by simp[k]),au (by simp[k]),ah (by simp[k])];obtain⟨o,_,d,s,D⟩:=O3 p;rw[d];simp only[ay];by_cases h0:o.2.2=0
    . obtain⟨f1,f2,f3⟩:=s h0;rw[au (by simp[h0])];obtain⟨q,_,L,qf⟩:=ni (t:=x) o.1 W;rw[L];simp only[ay];rcases t' qf with⟨e,i,X,aD,aK,a0⟩|⟨e,aK⟩
      have am:=bA X aH;obtain⟨aO,aQ⟩:=N _ am;obtain⟨w,M,aU⟩:=ih (x.af.getD i aH).aC o.2.1 aO aQ (by omega);rw[ah e,aD,ah (aY X),bQ,aJ,M];refine⟨w,rfl,?_⟩;grind;rw[au (by simp[e])];refine⟨_,rfl,?_⟩;grind
    rw[ah (by simp[h0])];refine⟨false,rfl,?_⟩;grind
  . rw[au (by simp[k]),au (by simp[k]),au (by simp[k]),au (by simp[k]),au (by simp[k]),au (by simp[k]),ah (by simp[k])];obtain⟨y,z⟩:=B x.aF (by unfold fj;simp[k]);obtain⟨o,Y,d,s,D⟩:=Fa (p:=p) (by omega);rw[d];simp only[ay];have Q:o.1.length<=100000/\∀q,q∈o.1->q.length<=4096:=by
     by_cases h0:o.2=0;grind;have:=aeX (by omega) Y h0;grind
    have R:=Mh (ts:=ts) (r:=r) (by omega) (x:=x) (l:=o.1) o.2 Q.1 (λq C=>ih x.aF q y z (Q.2 q C)) o.1.length 0 (by omega);have dp:p0 (((r+1:Nat):Int),o.1,o.2,((0:Nat):Int),ts,x.ae,x.aP,x.br,x.bB,x.Max,x.bc,x.af,x.aR,x.aF,x.bt)=p0 (((r+1:Nat):Int),o.1,o.2,0,ts,x.ae,x.aP,x.br,x.bB,x.Max,x.bc,x.af,x.aR,x.aF,x.bt):=rfl;simp only[dp,eZ]at R;rcases R with⟨a,b⟩|⟨a,b⟩
    . rw[a];simp only[ay];refine⟨_,rfl,?_⟩;rw[aS k];by_cases h0:o.2=0
      simp_all;grind
    rw[a];refine⟨false,rfl,?_⟩;grind
  . rw[au (by simp[k]),au (by simp[k]),au (by simp[k]),au (by simp[k]),au (by simp[k]),au (by simp[k]),au (by simp[k]),ah (by simp[k])];obtain⟨y,z⟩:=B x.aF (by unfold fj;simp[k]);obtain⟨aL,aM⟩:=B x.aR (by unfold fj;simp[k]);obtain⟨o,Y,d,s,D⟩:=Fa (p:=p) (by omega);rw[d];simp only[ay];by_cases h0:o.2=0
    . obtain⟨f1,f2,f3⟩:=s h0;have aq:f' (o.1.length:Int) 2=((o.1.length%2:Nat):Int):=xR (b:=2);have ao:gA .i64 (o.1.length:Int) 2=((o.1.length/2:Nat):Int):=by
       unfold gA;have e:(o.1.length:Int).tdiv 2=((o.1.length/2:Nat):Int):=by rw[G1 (by omega)];omega
       rw[e,IntKind.wrap_i64];omega
      rw[aq,ao,h0];by_cases ag:o.1.length%2=0
      . have E:((o.1.length%2:Nat):Int)=0:=(by omega);rw[E];by_cases aX:((o.1.length/2:Nat):Int)<=x.Max
        . have b:¬x.Max<((o.1.length/2:Nat):Int):=(by omega);rw[au (by simp only[b,dS,ee,dc,et,cx,Hg])];refine(acT (ts:=ts) (r:=r) (by omega) (x:=x) (l:=o.1) (by omega) ag (λq C=>ih x.aR q aL aM (by have:=f2 q C;omega)) (λq C=>ih x.aF q y z (by have:=f2 q C;omega))).imp ?_;rw[aT k];constructor
          grind;grind
        have b:x.Max<((o.1.length/2:Nat):Int):=(by omega);rw[ah (by simp only[b,dS,dc,et])];refine⟨false,rfl,?_⟩;grind
      have E:((o.1.length%2:Nat):Int)=1:=(by omega);rw[E,ah (by rfl)];refine⟨false,rfl,?_⟩;grind
    rw[ah (by simp[h0])];refine⟨false,rfl,?_⟩;grind
  . rw[au (by simp[k]),au (by simp[k]),au (by simp[k]),au (by simp[k]),ah (by simp[k])];obtain⟨y,z⟩:=B x.aF (by unfold fj;simp[k]);cases p with
    |nil=>
     refine⟨true,rfl,?_⟩;grind
    |cons c q=>
     have aj:aE 0 (c::q).length:=aY (k:=0) (by simp);have ax:fy 1 ((c::q).length:Int) (c::q).length:=oz (a:=1) (by simp) (by simp);have ad:gG (c::q) 1 ((c::q).length:Int)=q:=by
      have:=wP (c::q) 1;grind
     have an:decide (c::q=[])=false:=(by simp);have aa:gj (c::q) 0=(c.toNat:Int):=xa (c::q) 0;rw[an,aj,ax,aa,ad];simp only[eL,mC,cl,ig,et];by_cases O:c=1;subst O;obtain⟨w,M,aU⟩:=ih x.aF q y z (by simp at ar;omega);have u:(((1:UInt8).toNat:Int)=1:J):=(by decide);rw[u,ah rfl,aJ,M];refine⟨w,rfl,?_⟩;grind
     . have u:((c.toNat:Int)=1:J)=false:=by
        rw[G6];intro h;exact O (UInt8.toNat_inj.1 (by grind))
       rw[u];refine⟨false,rfl,?_⟩;grind
end
theorem JH{n m:Nat}(aI:n<18446744073709551616)(a:m<18446744073709551616){r s:aq}(h:eU n++r=eU m++s):n=m/\r=s:=by
 have h1:=AP aI r;rw[h,AP a s]at h1;have e:=dA Prod.fst h1;have e:m=n:=by omega
 simp_all
theorem Fb{r s:aq}(ar:p.length<18446744073709551616)(a:q.length<18446744073709551616)(h:c' p++r=c' q++s):p=q/\r=s:=by
 grind[c',JH,List.append_inj]
theorem OC:∀{a b:I aq},(∀x,x∈a->x.length<18446744073709551616)->(∀x,x∈b->x.length<18446744073709551616)->a.flatMap c'=b.flatMap c'->a=b
 |[],[],_,_,_=>rfl
 |[],q::b,_,_,h=>by
  have c:=dA List.length h;grind[A6]
 |p::a,[],_,_,h=>by
  have c:=dA List.length h;grind[A6]
 |p::a,q::b,d,f,h=>by
  obtain⟨e,c⟩:=Fb (d _ (.head _)) (f _ (.head _)) h;rw[e,OC (λx aa=>d x (.tail _ aa)) (λx aa=>f x (.tail _ aa)) c]
def vn(f:Fd):Prop:=f.id<=1000/\f.p.length<18446744073709551616
theorem OD:∀{a b:I Fd},(∀x,x∈a->vn x)->(∀x,x∈b->vn x)->a.flatMap Fd.text=b.flatMap Fd.text->a=b
 |[],[],_,_,_=>rfl
 |[],q::b,_,_,h=>by
  have e:=dA List.length h;grind[JF]
 |p::a,[],_,_,h=>by
  have e:=dA List.length h;grind[JF]
 |⟨i,c,p⟩::a,⟨j,d,q⟩::b,f,g,h=>by
  have h1:=f _ (.head _);have e:=g _ (.head _);unfold vn at h1 e;rw[hd,hd]at h;simp[Fd.text,gv]at h;obtain⟨aJ,k⟩:=JH (by grind) (by grind) h;obtain⟨m,l⟩:=Fb h1.2 e.2 k;have c3:=OD (λx aa=>f x (.tail _ aa)) (λx aa=>g x (.tail _ aa)) l;grind
theorem Jx:∀(s:aq) (n:Nat) (b:UInt8),fX n (s++[b])=fX n s*256+b.toNat
 |[],n,b=>by rfl
 |a::s,n,b=>by
  exact Jx s _ b
theorem Qu(n:Nat):fX 0 (ei n)=n:=by
 induction n using Nat.strongRecOn with
 |ind n ih=>
  rw[ei];split;rename_i h;subst h;rfl;grind[Jx,zL]
theorem OE{n m:Nat}(h:ei n=ei m):n=m:=by grind[Qu]
theorem aeY:∀(n:Nat),¬(ei n).head?=some 0:=by
 intro n;induction n using Nat.strongRecOn with
 |ind n ih=>
  rw[ei];split;simp
  . by_cases b:n<256
    have:n/256=0:=(by omega);rw[this,ei,ah rfl];simp[List.head?_cons,dW];intro a;have c:=dA UInt8.toNat a;grind[zL]
    . have d:ei (n/256)≠[]:=by rw[ei,cb];simp
      cases e:ei _<;>grind
theorem OF{n:Nat}(h:n<18446744073709551616):gb (ei n)=some n:=by
 simp_all[gb,aeY,wS,Qu]
theorem age{a b:I ch}(c:a.Pairwise (λx y=>x.ai<y.ai))(d:b.Pairwise (λx y=>x.ai<y.ai))(h:∀x,x∈a↔x∈b):a=b:=by
 have f:a.Nodup:=c.imp λ{x y} h e=>by grind
 have g:b.Nodup:=d.imp λ{x y} h e=>by grind
 grind[List.perm_ext_iff_of_nodup,List.Perm.eq_of_pairwise]
theorem Qv:∀{a b c d:I aq},(∀x,x∈a->x.length<18446744073709551616)->(∀x,x∈b->x.length<18446744073709551616)->(∀x,x∈c->x.length<18446744073709551616)->(∀x,x∈d->x.length<18446744073709551616)->a.length=b.length->c.length=d.length->gI a b=gI c d->a=c/\b=d
 |[],[],[],[],_,_,_,_,_,_,_=>⟨rfl,rfl⟩
 |[],[],p::c,q::d,_,_,_,_,_,_,h=>by
  grind[A6,gI,List.length_append,List.length_nil]
 |p::a,q::b,[],[],_,_,_,_,_,_,h=>by
  grind[A6,gI,List.length_append,List.length_nil]
 |p::a,q::b,r::c,s::d,e,f,g,i,h1,m,h=>by
  obtain⟨aJ,j⟩:=Fb (e _ (.head _)) (g _ (.head _)) h;obtain⟨l,k⟩:=Fb (f _ (.head _)) (i _ (.head _)) j;obtain⟨c3,gH⟩:=Qv (λx aa=>e x (.tail _ aa)) (λx aa=>f x (.tail _ aa)) (λx aa=>g x (.tail _ aa)) (λx aa=>i x (.tail _ aa)) (by grind) (by grind) k;grind
theorem EF:∀{l m:I ab},(∀x,x∈l->∀y,y∈m->bG ts t x=bG ts t y->x=y)->cK ts t l=cK ts t m->l=m
 |[],[],_,_=>rfl
 |[],y::m,_,h=>by grind[cK]
 |x::l,[],_,h=>by grind[cK]
 |x::l,y::m,c,h=>by
  injection h with h1 d;rw[c x (.head _) y (.head _) h1,EF (λa e b f=>c a (.tail _ e) b (.tail _ f)) d]
theorem OG{l m:I ab}(ak:l.length=m.length)(h:∀i,i<l.length->l.getD i aM=m.getD i aM):l=m:=by
 grind[List.ext_getElem]
theorem I1{n:Nat}:∀{ms:I aU} {l:I ab},(∀x,x∈l->∀t,(bG ts t x).length<n)->∀f,f∈ey ts ms l->f.p.length<n
 |[],l,_,f,a=>by grind[ey]
 |m::ms,[],_,f,a=>by grind[ey]
 |m::ms,v::l,h,f,a=>by
  rw[ey]at a;split at a;exact I1 (λx aa=>h x (.tail _ aa)) f a
  . rcases eE.1 a with rfl|a
    grind;exact I1 (λx aa=>h x (.tail _ aa)) f a
theorem agf{a b:I ab}{j k:I ch}(u:h9 ms)(o:iO ms j)(p:iO ms k)(B:a.length=ms.length)(C:b.length=ms.length)
 (z:∀f,f∈fE ts ms a j->vn f)(A:∀f,f∈fE ts ms b k->vn f)
 (ih:∀i,i<ms.length->bG ts (ms.getD i aH).aC (a.getD i aM)=bG ts (ms.getD i aH).aC (b.getD i aM)->a.getD i aM=b.getD i aM)
 (h:(hp fe (fE ts ms a j)).flatMap Fd.text=(hp fe (fE ts ms b k)).flatMap Fd.text):a=b/\j=k:=by
 have e:=OD (λf c=>z f ((lr fe _).mem_iff.1 c)) (λf c=>A f ((lr fe _).mem_iff.1 c)) h;have ar:(fE ts ms a j).Perm (fE ts ms b k):=(lr fe _).symm.trans (e▸lr fe _);have y:∀{l:I ab} {r:I ch},iO ms r->∀x,cD x.ai->cw ms x.ai=none->iE x∈fE ts ms l r->x∈r:=by
  intro l r v x aa aI D;rcases iB.1 D with h1|h1;obtain⟨m,d,n⟩:=uf h1;have:=mi aI m d;have n:x.ai.toNat=m.ai.toNat:=n;grind[cD]
  . obtain⟨q,d,n⟩:=fY.1 h1;have:q=x:=by
     cases q;cases x;grind[iE,Fd.mk.injEq,cD]
    grind
 refine⟨OG (by omega) λi E=>?_,age o.1 p.1 λx=>⟨λaa=>?_,λaa=>?_⟩⟩
 . have t:i<ms.length:=(by omega);have c:=ar.filter λx=>(x.id=(ms.getD i aH).ai.toNat:J)
   have w:∀{r:I ch},iO ms r->((r.map iE).filter λx=>(x.id=(ms.getD i aH).ai.toNat:J))=[]:=by
    intro r v;rw[List.filter_eq_nil_iff];intro f c;obtain⟨q,d,rfl⟩:=fY.1 c;have n:=v.2 q d;grind[mi,cD,iE]
   unfold fE at c;rw[Hf,Hf,w o,w p,nF,nF,AX (AQ u) B t rfl,AX (AQ u) C t rfl]at c;by_cases s:di (ms.getD i aH) (a.getD i aM)=true
   . by_cases g:di (ms.getD i aH) (b.getD i aM)=true
     unfold di at s g;grind;rw[ah s,au g]at c;simp_all
   . by_cases g:di (ms.getD i aH) (b.getD i aM)=true
     rw[au s,ah g]at c;simp_all;rw[au s,au g]at c;simp_all
 obtain⟨h1,d⟩:=o.2 x aa;exact y p x h1 d (ar.mem_iff.1 (G' _ (Hd aa)));obtain⟨h1,d⟩:=p.2 x aa;exact y o x h1 d (ar.mem_iff.2 (G' _ (Hd aa)))
theorem afi(H:kf ts){a:ab}(aB:cp a):∀{t:Int} {b:ab},cp b->wt a<=1099511627776->wt b<=1099511627776->dj ts false t a->dj ts false t b->bG ts t a=bG ts t b->a=b:=by
 induction aB with
 |mk a hs h1 J a5 aO L aR bf bg bh bi aT aS=>
  intro t b ad bm bn O fX e;have a9:=hT a;have a':=hT b;have a6:=ad;cases ad with
  |mk _ gs g1 g2 g3 Y X aA ba bb bd be=>
  have W:∀x,x∈a.aw->∀t,(bG ts t x).length<18446744073709551616:=λx aa t=>by have:=np H (L x aa) (by have:=d' aa;omega) t;omega
  have aY:∀x,x∈a.a7->∀t,(bG ts t x).length<18446744073709551616:=λx aa t=>by have:=np H (aO x aa) (by have:=d' aa;omega) t;omega
  have kI:∀x,x∈b.aw->∀t,(bG ts t x).length<18446744073709551616:=λx aa t=>by have:=np H (X x aa) (by have:=d' aa;omega) t;omega
  have aW:∀x,x∈b.a7->∀t,(bG ts t x).length<18446744073709551616:=λx aa t=>by have:=np H (Y x aa) (by have:=d' aa;omega) t;omega
  have K:∀{t:Int} x,x∈a.aw->∀y,y∈b.aw->dj ts false t x->dj ts false t y->bG ts t x=bG ts t y->x=y:=λx aa y al f g=>aS x aa (X y al) (by have:=d' aa;omega) (by have:=d' al;omega) f g;have ax:∀{t:Int} x,x∈a.a7->∀y,y∈b.a7->dj ts false t x->dj ts false t y->bG ts t x=bG ts t y->x=y:=λx aa y al f g=>aT x aa (Y y al) (by have:=d' aa;omega) (by have:=d' al;omega) f g;obtain⟨⟨bj,bk,au,_⟩,O⟩:=(hF _ _ _).1 O;obtain⟨⟨_,_,aZ,_⟩,fX⟩:=(hF _ _ _).1 fX;have aK:t.toNat<ts.length:=by omega
  have R:=bA aK aN;have ag:=λv=>@o4 ts t v;have ah:=λv=>@qE ts t v;have a8:=λv=>@qF ts t v;have am:=λv=>@qG ts t v;have an:=λv=>@B2 ts t v;have ao:=λv=>@B3 ts t v;have ap:=λv=>@B4 ts t v;have aq:=λv=>@B5 ts t v;have ar:=λv=>@B6 ts t v;have Z:=H.A _ R;have aG:=H.S _ R;have dw:=H.T _ R;generalize ts.getD t.toNat aN=x at*;have G:a.ae=b.ae->a.ct=b.ct->a.bE=b.bE->a.bZ=b.bZ->a.ai=b.ai->a.a7=b.a7->a.aw=b.aw->a.aX=b.aX->a=b:=by
   intro aJ D c3 gH mq k' qW e8;cases a;cases b;simp_all
  have F:a.ae=b.ae:=au.trans aZ.symm;rcases O with⟨k,o,p,s,u,n,w⟩|⟨k,o,p,s,u,n,w,C,E⟩|⟨k,o,p,s,u,n,w,C⟩|⟨k,o,p,s,u,n,w,C⟩|⟨k,o,p,s,u,n,w,C⟩|⟨k,o,p,s,u,n⟩|⟨k,o,p,s,u,n,w,C,E⟩|⟨k,o,p,s,u,n,w,C,E,ay,a4⟩|⟨k,o,p,s,u,n,w,C,E⟩ <;>
  rcases fX with⟨l,d1,d2,d3,d4,d5,d6⟩|⟨l,d1,d2,d3,d4,d5,d6,d7,d8⟩|⟨l,d1,d2,d3,d4,d5,d6,d7⟩|⟨l,d1,d2,d3,d4,d5,d6,d7⟩|⟨l,d1,d2,d3,d4,d5,d6,d7⟩|⟨l,d1,d2,d3,d4,d5⟩|⟨l,d1,d2,d3,d4,d5,d6,d7,d8⟩|⟨l,d1,d2,d3,d4,d5,d6,d7,d8,d9,d10⟩|⟨l,d1,d2,d3,d4,d5,d6,d7,d8⟩ <;>
  (first|(exfalso;omega)|skip)<;>have j:=au.symm.trans k
  rw[ag _ j,ag _ j]at e;grind
  . rw[ah _ j,ah _ j]at e;have:=OE e;refine G F (o.trans d1.symm) (JZ ?_) (p.trans d2.symm) (s.trans d3.symm) (u.trans d4.symm) (n.trans d5.symm) (w.trans d6.symm);have z1:0<=fP a.bE:=by unfold fP;split<;>omega
    have z2:0<=fP b.bE:=by unfold fP;split<;>omega
    omega
  grind
  . rw[am _ j,am _ j]at e;have:=OE e;refine G F (o.trans d1.symm) (p.trans d2.symm) (s.trans d3.symm) ?_ (u.trans d4.symm) (n.trans d5.symm) (w.trans d6.symm);have key:∀{v:ab},((∃y,y∈x.bc/\y.ai=v.ai)\/x.bt/\false=false/\cD v.ai)->cD v.ai:=(by grind);have U:=key C;have V:=key d7;unfold cD at U V;omega
  . rw[an _ j,an _ j]at e;obtain⟨M,aP⟩:=Z (.inl j);obtain⟨aH,aI⟩:=jR.1 C;obtain⟨aL,aM⟩:=jR.1 d7;have ok:∀{l:I ab} {r:I ch},(∀y,y∈l->∀t,(bG ts t y).length<18446744073709551616)->iO x.af r->(∀y,y∈r->y.bT.length<=reachBytes)->∀f,f∈fE ts x.af l r->vn f:=by
     intro l r ak aQ aD f B;refine⟨(Jb M aQ B).2,?_⟩;rcases iB.1 B with h|h;exact I1 ak f h;obtain⟨q,J,rfl⟩:=fY.1 h;have:=aD q J;show q.bT.length<_;unfold reachBytes at this;omega
    obtain⟨aJ,D⟩:=agf M w d6 aH aL (ok W w aR) (ok kI d6 aA) (λi L=>K _ (bA (by omega) _) _ (bA (by omega) _) (aI i L) (aM i L)) e;grind
  . rw[ao _ j,ao _ j]at e;obtain⟨M,aP⟩:=Z (.inr j)
    have key:∀ {v:ab},(match cw x.af v.ai with
     |some m=>v.aX=[]/\v.aw.length=1/\fu ts false m.aC v.aw
     |none=>x.bt=true/\false=false/\cD v.ai/\v.aw=[]/\∃d,v.aX=[⟨v.ai,d⟩])->cD v.ai:=by
     intro v h;split at h;rename_i m B;have h1:=xu B;have J:=C0 B;simp only[fI]at J;rw[<-J];exact M.2 m h1;exact h.2.2.1
    have U:=key n;have V:=key d5;have aU:=U;have aV:=V;unfold cD at aU aV;obtain⟨aJ,D⟩:=JH (by omega) (by omega) e;have az:a.ai=b.ai:=(by omega);rw[az]at n D;cases B:cw x.af b.ai with
    |some m=>
     simp only[B]at n d5 D;obtain⟨bl,a0,a1⟩:=n;obtain⟨s1,a2,a3⟩:=d5;obtain⟨y,al⟩:∃y,a.aw=[y]:=G7.1 a0;obtain⟨z,c⟩:∃y,b.aw=[y]:=G7.1 a2;rw[al,c,cK,cK]at D;have:=K y (by rw[al];exact .head _) z (by rw[c];exact .head _) (dv.1 a1 y (by rw[al];exact .head _)) (dv.1 a3 z (by rw[c];exact .head _)) D;grind
    |none=>grind
  rw[ap _ j,ap _ j]at e;have B:=dv.1 E;have av:=dv.1 d8;have aJ:=OC (λy al=>by rw[ue]at al;obtain⟨z,c,rfl⟩:=fY.1 al;exact W z c _) (λy al=>by rw[ue]at al;obtain⟨z,c,rfl⟩:=fY.1 al;exact kI z c _) e;exact G F (o.trans d1.symm) (p.trans d2.symm) (s.trans d3.symm) (u.trans d4.symm) (n.trans d5.symm) (EF (λy al z c=>K y al z c (B y al) (av z c)) aJ) (w.trans d6.symm)
  . rw[aq _ j,aq _ j]at e;have B:=dv.1 ay;have av:=dv.1 d9;have aE:=dv.1 E;have aF:=dv.1 d8;have N:∀{l:I ab} {t:Int},(∀y,y∈l->∀t,(bG ts t y).length<18446744073709551616)->∀y,y∈cK ts t l->y.length<18446744073709551616:=λak y al=>by rw[ue]at al;obtain⟨z,c,rfl⟩:=fY.1 al;exact ak z c _
    obtain⟨aJ,D⟩:=Qv (N aY) (N W) (N aW) (N kI) (by rw[nc,nc];omega) (by rw[nc,nc];omega) e;exact G F (o.trans d1.symm) (p.trans d2.symm) (s.trans d3.symm) (u.trans d4.symm) (EF (λy al z c=>ax y al z c (aE y al) (aF z c)) aJ) (EF (λy al z c=>K y al z c (B y al) (av z c)) D) (n.trans d5.symm)
  . rw[ar _ j,ar _ j]at e;have B:=dv.1 E;have av:=dv.1 d8;refine G F (o.trans d1.symm) (p.trans d2.symm) (s.trans d3.symm) (u.trans d4.symm) (n.trans d5.symm) ?_ (w.trans d6.symm)
    match P:a.aw,Q:b.aw,C,d7 with
    |[],[],_,_=>rfl
    |[],z::_,_,_=>rw[P,Q,cK,cK]at e;cases e
    |y::_,[],_,_=>rw[P,Q,cK,cK]at e;cases e
    |[y],[z],_,_=>
     rw[P,Q,cK,cK]at e;injection e with _ e;grind
    |_::_::_,_,h,_=>simp at h
    |[_],_::_::_,_,h=>simp at h
theorem acU(p:aq):p.length<=(c' p).length:=by grind[c']
theorem D3:∀{l:I aq},p∈l->p.length<=(l.flatMap c').length
 |q::l,h=>by
  rw[hd,eh];rcases eE.1 h with rfl|h;grind[acU];have:=D3 h;omega
theorem L3:∀{a b:aq} {x y:UInt8},a.length=b.length->Op.bytesLess a b->Op.bytesLess (a++[x]) (b++[y])=true
 |[],[],_,_,_,h=>by grind[Op.bytesLess]
 |p::a,q::b,x,y,ak,h=>by
  simp[Op.bytesLess]at h⊢;rcases h with h|⟨h1,c⟩;grind;exact .inr ⟨h1,L3 (by grind) c⟩
theorem N1:∀(a:aq) {x y:UInt8},x<y->Op.bytesLess (a++[x]) (a++[y])=true
 |[],x,y,h=>by grind[Op.bytesLess]
 |p::a,x,y,h=>by simp[Op.bytesLess,N1 a h]
theorem Fc{a b:aq}:jV a b↔a.length<b.length\/a.length=b.length/\Op.bytesLess a b:=by
 grind[jV]
theorem N2:∀(m n:Nat),n<m->jV (ei n) (ei m):=by
 intro m;induction m using Nat.strongRecOn with
 |ind m ih=>
  intro n h;rw[Fc];have em:ei m=ei (m/256)++[UInt8.ofNat (m%256)]:=by rw[ei,cb]
  by_cases h0:n=0
  . have:ei 0=[]:=by rw[ei,ah rfl]
    grind
  . have a:ei n=ei (n/256)++[UInt8.ofNat (n%256)]:=by rw[ei,au h0]
    by_cases b:n/256<m/256;grind[Fc,L3];grind[N1,UInt8.lt_iff_toNat_lt,zL]
theorem N3{a b:ab}(l:1<=(ts.getD t.toNat aN).ae/\(ts.getD t.toNat aN).ae<=4)(f:cp a)(g:cp b)(d:a.ae=(ts.getD t.toNat aN).ae)(p:b.ae=(ts.getD t.toNat aN).ae)
 (q:0<=a.ai\/a.ae≠4)(r:0<=b.ai\/b.ae≠4)(h:iF a b<0):jV (bG ts t a) (bG ts t b)=true:=by
 cases f with|mk _ _ _ _ _ _ _ _ _ j _ _=>
 cases g with|mk _ _ _ _ _ _ _ _ _ i _ _=>
 have c:=λv=>@o4 ts t v;have m:=λv=>@qE ts t v;have n:=λv=>@qF ts t v;have o:=λv=>@qG ts t v;generalize (ts.getD t.toNat aN).ae=k at*;unfold iF at h;rw[oh]at h;rw[au (by grind)]at h;by_cases k1:k=1
 . rw[ah (by simp[d,k1])]at h;rw[c _ k1,c _ k1];cases e:a.ct<;>cases cZ:b.ct<;>rw[e,cZ]at h<;>first|(exfalso;revert h;decide)|decide
 . rw[au (by grind)]at h;by_cases k2:k=2
   rw[ah (by simp[d,k2]),xL j,xL i]at h;simp only[aW,ay,S3,uV]at h;grind[fP,N2]
   . rw[au (by grind)]at h;by_cases k3:k=3
     simp only[aW,ay,Cr,S4,Vv,uV]at h;grind[Fc];simp only[aW,ay,Cr,uV]at h;grind[N2]
theorem Fe{ts:I aj}:∀{ms:I aU} {l:I ab} {x:Fd},x∈ey ts ms l->∃j,j<ms.length/\j<l.length/\di (ms.getD j aH) (l.getD j aM)=false/\x=⟨(ms.getD j aH).ai.toNat,(ms.getD j aH).b4,bG ts (ms.getD j aH).aC (l.getD j aM)⟩
 |[],l,x,h=>by
  grind[ey]
 |m::ms,[],x,h=>by
  grind[ey]
 |m::ms,v::l,x,h=>by
  rw[ey]at h;split at h;obtain⟨j,h1,a,b,c⟩:=Fe h;exact⟨j+1,by grind,by grind,by grind,by grind⟩
  . rcases eE.1 h with rfl|h
    exact⟨0,by simp,by simp,by grind,rfl⟩;obtain⟨j,h1,a,b,c⟩:=Fe h;exact⟨j+1,by grind,by grind,by grind,by grind⟩
theorem uq(h:h9 ms){a b:aU}(c:a∈ms)(d:b∈ms)(e:a.ai=b.ai):a=b:=by
 obtain⟨i,f,rfl⟩:=gT c;obtain⟨j,g,rfl⟩:=gT d;have key:=xt.1 h.1;grind
theorem kp{m:aU}(h:cw ms id=some m):m∈ms/\m.ai=id:=
 ⟨xu h,by simpa using C0 h⟩
theorem JI(c:h9 ms){m:aU}(h:m∈ms):cw ms m.ai=some m:=by
 cases a:cw ms _ with
 |none=>grind[mi]
 |some q=>
  obtain⟨h1,b⟩:=kp a;grind[uq]
theorem A7{ts:I aj}{t:Int}:∀{l:I ab} {x:ab},x∈l->e4 ts t x<=gn ts t l
 |v::l,x,h=>by
  rw[gn];rcases eE.1 h with rfl|h;omega;have:=A7 (ts:=ts) (t:=t) h;omega
theorem N4{ts:I aj}:∀{ms:I aU} {l:I ab} {j:Nat},j<ms.length->j<l.length->di (ms.getD j aH) (l.getD j aM)=false->e4 ts (ms.getD j aH).aC (l.getD j aM)<=iV ts ms l
 |m::ms,v::l,0,_,_,a=>by
  simp at a⊢;rw[iV,au (by grind)];omega
 |m::ms,v::l,j+1,h1,b,a=>by
  simp at a⊢;have:=N4 (ts:=ts) (by grind) (by grind) a;grind[iV]
theorem J6:∀{a b:I aq} {i:Nat},a.length=b.length->i<a.length->(lU a b).getD (2*i) []=a.getD i []/\(lU a b).getD (2*i+1) []=b.getD i []
 |p::a,q::b,0,_,_=>by simp[lU]
 |p::a,q::b,i+1,ak,c=>by
  have:=J6 (a:=a) (b:=b) (i:=i) (by grind) (by grind);grind[lU]
theorem Qw{l:I aq}(h:(l.flatMap c').length<=90000):gW (l.flatMap c')=some l:=by
 grind[L0,O2,gW,kT]
theorem afj{l:I Fd}(c:l.Pairwise (λa b=>a.id<b.id))(d:∀f,f∈l->1<=f.id/\f.id<=1000)(h:(l.flatMap Fd.text).length<=90000):im (l.flatMap Fd.text)=some (l.map CI):=by
 have ak:=L1 l;have bK:=NW l 0 [] c (λf h=>⟨by grind,(d f h).2⟩) (by omega) (by grind);grind[im,mg]
theorem Sg{n:Nat}(h:1<=n/\n<=1000)(rest:aq):jl (eU n++rest)=some ((n:Int),rest):=by
 unfold jl;have a:=mm (AP (n:=n) (by omega) rest) (by simp);rw[mh,a];simp;rw[au (by grind),B8 (by simp) (by omega)];rfl
theorem xd{l:I ab}{i:Nat}(h:i<l.length):(cK ts t l).getD i []=bG ts t (l.getD i aM):=by
 grind[ue]
theorem Bd{a b c n r:Nat}(h:a=1+max n b)(e:a<=r+1)(d:c<=b):c<=r:=by omega
theorem agh{a b c r:Nat}(h:a=1+max 1 b)(e:a<=r+1)(d:c=1):c<=r:=by omega
theorem afk{a b n:Nat}(h:n=a+b)(e:a=b):n%2=0/\n/2=a:=by omega
theorem agi{i n a:Nat}(h:2*i+1<n)(e:n/2=a):i<a:=by omega
theorem afl{r:Nat}{a b:I aq}(ak:a.length=b.length)(o:(a.length:Int)<=x.Max)(e:((lU a b).flatMap c').length<=90000)
 (bW:∀i,i<a.length->(a.getD i []).length<=90000->dK ts r x.aR (a.getD i []))(n:∀i,i<a.length->(b.getD i []).length<=90000->dK ts r x.aF (b.getD i []))(aG:∀i,i+1<a.length->jV (a.getD i []) (a.getD (i+1) [])):
 ∃l,gW ((lU a b).flatMap c')=some l/\l.length%2=0/\((l.length/2:Nat):Int)<=x.Max/\∀i,2*i+1<l.length->dK ts r x.aR (l.getD (2*i) [])/\dK ts r x.aF (l.getD (2*i+1) [])/\(0<i->jV (l.getD (2*i-2) []) (l.getD (2*i) [])):=by
 obtain⟨aJ,m⟩:=afk (NY a b ak) ak;refine⟨_,Qw e,aJ,by grind,λi c=>?_⟩;have d:=agi c m;obtain⟨g,j⟩:=J6 ak d;have f:=hN (D3 (bA (Nat.lt_of_succ_lt c) [])) e;have l2:=hN (D3 (bA c [])) e;rw[g]at f;rw[j]at l2;rw[g,j];refine⟨bW i d f,n i d l2,λh0=>?_⟩;obtain⟨k,rfl⟩:∃k,i=k+1:=⟨i-1,by grind⟩;grind[J6]
set_option maxHeartbeats 1000000 in
theorem ac'(H:cX ts)(br:cp v):∀{t:Int} {r:Nat},wt v<=1099511627776->(bG ts t v).length<=90000->dj ts false t v->e4 ts t v<=r->dK ts r t (bG ts t v):=by
 have aG:=H.V.ik H.T;induction br with
 |mk v hs h1 ad a' am aB bp bB Z bC bD bw bv=>
  intro t r bO o K N;have bP:=hT v;have bL:cp v:= .mk v hs h1 ad a' am aB bp bB Z bC bD;have bN:=um (ts:=ts) t v;obtain⟨r,rfl⟩:∃q,r=q+1:=⟨r-1,by omega⟩;obtain⟨⟨g1,g2,g3,_⟩,K⟩:=(hF _ _ _).1 K;obtain⟨j,rfl⟩:∃j:Nat,t=(j:Int):=⟨t.toNat,by omega⟩
  have bj:j<ts.length:=by omega
  have O:=bA bj aN;have s:=rO (ts:=ts) (j:Int) v;have aL:=@o4 ts (j:Int) v;have aO:=@qE ts (j:Int) v;have bs:=@qF ts (j:Int) v;have aP:=@qG ts (j:Int) v;have aQ:=@B2 ts (j:Int) v;have aS:=@B3 ts (j:Int) v;have aT:=@B4 ts (j:Int) v;have aU:=@B5 ts (j:Int) v;have aV:=@B6 ts (j:Int) v;simp only[bQ]at K g3 s aL aO bs aP aQ aS aT aU aV;have ax:=aG.A _ O;have bd:=aG.qM _ O;have bM:=aG.S _ O;have bb:=H.D _ O;have dJ:=H.W _ O;have dw:=H.T _ O;obtain⟨a0,a1,bK,a2,a3,a4,a5,a6,a8⟩:=Sf (ts:=ts) (r:=r) (j:=j) (p:=bG ts (j:Int) v) rfl;generalize ts.getD j aN=x at*;have P:∀{t:Int} x,x∈v.aw->(bG ts t x).length<=90000->dj ts false t x->e4 ts t x<=r->dK ts r t (bG ts t x):=λx aa a b c=>bv x aa (by have:=d' aa;omega) a b c;have aZ:∀{t:Int} x,x∈v.a7->(bG ts t x).length<=90000->dj ts false t x->e4 ts t x<=r->dK ts r t (bG ts t x):=λx aa a b c=>bw x aa (by have:=d' aa;omega) a b c;rcases K with⟨k,d1,d2,d3,d4,d5,d6⟩|⟨k,d1,d2,d3,d4,d5,d6,d7,d8⟩|⟨k,d1,d2,d3,d4,d5,d6,d7⟩|⟨k,d1,d2,d3,d4,d5,d6,d7⟩|⟨k,d1,d2,d3,d4,d5,d6,d7⟩|⟨k,d1,d2,d3,d4,d5⟩|⟨k,d1,d2,d3,d4,d5,d6,d7,d8⟩|⟨k,d1,d2,d3,d4,d5,d6,d7,d8,d9,d10⟩|⟨k,d1,d2,d3,d4,d5,d6,d7,d8⟩<;>rw[k]at g3<;>have e:=g3.symm
  . rw[a0 e,aL e];cases v.ct
    grind;grind
  rw[a1 e,aO e];have ao:=xN Z;exact⟨_,OF ao,by rw[Qr Z];exact d7,by rw[Qr Z];exact d8⟩;grind;rw[a2 e,aP e];have hid:cD v.ai:=(by grind);unfold cD at hid;refine⟨_,OF (by omega),by omega,?_⟩;grind
  . rw[a3 e];rw[aQ e]at o⊢;obtain⟨C,_⟩:=ax (.inl e);obtain⟨bi,aK⟩:=jR.1 d7;rw[ah e,ah d5]at s;have bf:=O1 (Ac (ts:=ts) (l:=v.aw) C d6) (NV C d6);have bq:∀f,f∈hp fe (fE ts x.af v.aw v.aX)->1<=f.id/\f.id<=1000:=λf h=>Jb C d6 ((lr fe _).mem_iff.1 h);have aE:∀f,f∈hp fe (fE ts x.af v.aw v.aX)↔f∈fE ts x.af v.aw v.aX:=λf=>(lr fe _).mem_iff;generalize hp fe (fE ts x.af v.aw v.aX)=l at*;refine⟨_,afj bf bq o,λf K=>?_,λm B Q=>?_⟩
    . obtain⟨g,av,rfl⟩:=fY.1 K;have bh:=NZ av;rcases iB.1 ((aE g).1 av)with h|h
      . obtain⟨i,X,aY,Y,rfl⟩:=Fe h;have M:=bA X aH;have an:=bA aY aM;have hid:=C.2 _ M;have E:(((x.af.getD i aH).ai.toNat:Nat):Int)=(x.af.getD i aH).ai:=by unfold cD at hid;omega
        have R:=N4 (ts:=ts) X aY Y;refine⟨λaI=>?_,λm B=>?_⟩;have aI:cw x.af (((x.af.getD i aH).ai.toNat:Nat):Int)=none:=aI;rw[E,JI C M]at aI;cases aI;have B:cw x.af (((x.af.getD i aH).ai.toNat:Nat):Int)=some m:=B;rw[E,JI C M]at B;cases B;have bu:e4 ts (x.af.getD i aH).aC (v.aw.getD i aM)<=r:=(by exact Bd s N R);have ba:=P (t:=(x.af.getD i aH).aC) _ an (hN bh o) (aK i X) bu;refine⟨rfl,ba,λQ he=>?_⟩;have he:bG ts (x.af.getD i aH).aC (v.aw.getD i aM)=bG ts (x.af.getD i aH).aC (x.af.getD i aH).bm:=he;have:=afi aG (aB _ an) (dw.hj _ M) (by have:=d' an;omega) (by have:=dJ _ M Q;omega) (aK i X) (af3 (bb _ M Q) false) he;unfold di at Y;rw[Q,this]at Y;simp at Y
      . obtain⟨q,ad,rfl⟩:=fY.1 h;obtain⟨aq,bJ⟩:=d6.2 q ad;have E:((q.ai.toNat:Nat):Int)=q.ai:=by unfold cD at aq;omega
        refine⟨λ_=>rfl,λm B=>?_⟩;have B:cw x.af ((q.ai.toNat:Nat):Int)=some m:=B;rw[E,bJ]at B;cases B
    . obtain⟨i,G,he⟩:=gT B;have em:x.af.getD i aH=m:=by rw[List.getD_eq_getElem?_getD,e0 G,he];rfl
      have hid:=C.2 _ B;have aA:=AX (ts:=ts) (l:=v.aw) (n:=m.ai.toNat) (AQ C) bi G (by rw[em]);rw[em,au (by unfold di;simp[Q])]at aA;have bl:(⟨m.ai.toNat,m.b4,bG ts m.aC (v.aw.getD i aM)⟩:Fd)∈ey ts x.af v.aw:=by
       have:(⟨m.ai.toNat,m.b4,bG ts m.aC (v.aw.getD i aM)⟩:Fd)∈(ey ts x.af v.aw).filter λx=>(x.id=m.ai.toNat:J):=by rw[aA];exact .head _
       exact(uX.1 this).1
      refine⟨CI _,Hd ((aE _).2 (List.mem_append_left _ bl)),?_⟩;show((m.ai.toNat:Nat):Int)=m.ai;unfold cD at hid;omega
  . rw[a4 e];rw[aS e]at o⊢;obtain⟨C,_⟩:=ax (.inr e);rw[au (show ¬x.ae=5 by rw[e];decide),ah e,ah d4]at s;cases L:cw x.af v.ai with
    |some m=>
     simp only[L]at d5 o s⊢;obtain⟨aJ,a9,c3⟩:=d5;obtain⟨f1,f2⟩:=kp L;have hid:=C.2 _ f1;rw[f2]at hid;unfold cD at hid;have E:((v.ai.toNat:Nat):Int)=v.ai:=(by omega);obtain⟨y,al⟩:∃y,v.aw=[y]:=G7.1 a9;have u:y∈v.aw:=by rw[al];exact .head _
     have R:=A7 (ts:=ts) (t:=m.aC) u;rw[al,cK]at o⊢;rw[eh]at o;refine⟨_,_,Sg (by omega) _,λaI=>?_,λq F=>?_⟩;rw[E,L]at aI;cases aI;rw[E,L]at F;cases F;exact P y u (by show(bG ts m.aC y).length<=_;have o:(eU v.ai.toNat).length+(bG ts m.aC y).length<=90000:=o;omega) (dv.1 c3 y u) (Bd s N R)
    |none=>
     simp only[L]at d5⊢;obtain⟨aJ,_,c3,gH,d,mq⟩:=d5;unfold cD at c3;have E:((v.ai.toNat:Nat):Int)=v.ai:=(by omega);refine⟨_,_,Sg (by omega) _,λ_=>aJ,λq F=>?_⟩;rw[E,L]at F;cases F
  rw[a5 e];rw[aT e]at o⊢;rw[au (show ¬x.ae=5 by rw[e];decide),au (show ¬x.ae=6 by rw[e];decide),ah d5]at s;refine⟨_,Qw o,by rw[nc];exact d7,λq F=>?_⟩;have bo:=D3 F;rw[ue]at F;obtain⟨y,al,rfl⟩:=fY.1 F;have:=A7 (ts:=ts) (t:=x.aF) al;exact P y al (hN bo o) (dv.1 d8 y al) (Bd s N this)
  . rw[a6 e];rw[aU e,NX]at o⊢;have bk:(cK ts x.aR v.a7).length=(cK ts x.aF v.aw).length:=by rw[nc,nc];exact d7.symm
    have U:=nc (ts:=ts) (l:=v.a7) (t:=x.aR);rw[au (show ¬x.ae=5 by rw[e];decide),au (show ¬x.ae=6 by rw[e];decide)]at s;obtain⟨bx,bz⟩:=bd e;have az:=dv.1 d8;have ap:∀y,y∈v.a7->e4 ts x.aR y=1/\y.ae=(ts.getD x.aR.toNat aN).ae/\(0<=y.ai\/y.ae≠4):=λy al=>by
     obtain⟨⟨b1,b2,ar,_⟩,b⟩:=(hF _ _ _).1 (az y al);refine⟨by apply p8<;>grind,ar,?_⟩;have be:=aG.S _ (bA (show x.aR.toNat<ts.length by clear o;omega) aN);by_cases k4:y.ae=4
     . left;have bg:(∃z,z∈(ts.getD x.aR.toNat aN).bc/\z.ai=y.ai)\/(ts.getD x.aR.toNat aN).bt/\false=false/\cD y.ai:=(by grind);rcases bg with⟨z,ao,he⟩|⟨_,_,he⟩
       have:=be (ar.symm.trans k4) z ao;unfold cD at this;clear o;omega;unfold cD at he;clear o;omega
     exact .inr k4
    refine afl bk (by rw[U];exact d6) o (λi G ak=>?_) (λi G ak=>?_) (λi G=>?_)
    . have w:i<v.a7.length:=U▸G;have u:=bA w aM;rw[xd w]at ak⊢;obtain⟨aq,_⟩:=ap _ u;have bn:v.a7≠[]:=by intro h;rw[h]at w;cases w
      rw[au bn]at s;exact aZ _ u ak (az _ u) (agh s N aq)
    . have w:i<v.aw.length:=by rw[d7];exact U▸G
      have ag:=bA w aM;rw[xd w]at ak⊢;have R:=A7 (ts:=ts) (t:=x.aF) ag;exact P _ ag ak (dv.1 d9 _ ag) (Bd s N R)
    have w:i+1<v.a7.length:=U▸G;have aD:i<v.a7.length:=Nat.lt_of_succ_lt w;rw[xd w,xd aD];have u:=bA w aM;have aW:=bA aD aM;obtain⟨_,bE,bF⟩:=ap _ aW;obtain⟨_,bH,bI⟩:=ap _ u;exact N3 ⟨bx,bz⟩ (am _ aW) (am _ u) bE bH bF bI (d10 i w)
  . rw[a8 e];rw[aV e]at o⊢;rw[au (show ¬x.ae=5 by rw[e];decide),au (show ¬x.ae=6 by rw[e];decide),ah d5]at s
    match ay:v.aw with
    |[]=>rw[cK];exact .inl rfl
    |y::l=>
     have u:y∈v.aw:=by rw[ay];exact .head _
     rw[ay,cK]at o;rw[cK];have:=A7 (ts:=ts) (t:=x.aF) u;refine .inr ⟨_,rfl,P y u ?_ (dv.1 d8 y u) (Bd s N this)⟩;have o:(bG ts x.aF y).length+1<=90000:=o;omega
def P2(ts:I aj)(t:Int)(v:ab):Prop:=dj ts false t v/\cp v/\wt v<=274877906944
theorem OH{a:ab}(h:cp a)(b:ab):fc (v7 (a,b)) a b:=by
 obtain⟨r,h1,c⟩:=FA h b;refine⟨r,?_,c⟩;rw[v7];simp only[ab.bI];rw[h1];rfl
theorem OI{a:ab}(h:cp a)(b:ab):fc (nh (a,b)) a b:=Nx h b
theorem OJ:cp (⟨0,false,0,[],0,[],[],[]⟩:ab):= .mk _ (by simp) (by simp) (by simp) (by simp) (λx h=>by cases h) (λx h=>by cases h) (λx h=>by cases h) (by simp) (by simp) (by simp) (λx h=>by cases h)
def cO{α c:Type}(f:α->ag c):I α->ag (I c)
 |[]=>some []
 |a::l=>match f a,cO f l with
  |some b,some m=>some (b::m)
  |_,_=>none
def e9{α:Type}:I α->I α
 |a::_::l=>a::e9 l
 |_=>[]
def fO{α:Type}:I α->I α
 |_::b::l=>b::fO l
 |_=>[]
def pg(ks:I ab):J:=(List.range (ks.length-1)).all λi=>(iF (ks.getD i aM) (ks.getD (i+1) aM)<0:J)
theorem wT:pg ks↔qc ks:=by
 unfold pg qc;grind
def dd(ts:I aj):Nat->Int->aq->ag ab
 |0,_,_=>none
 |n+1,t,p=>
  let x:=ts.getD t.toNat aN
  if x.ae=1 then(if p=[]then some ⟨1,false,0,[],0,[],[],[]⟩else ite (p=[1]) (some ⟨1,true,0,[],0,[],[],[]⟩) none)else if x.ae=2 then(match gb p with
   |some m=>ite (x.br<=ga m/\ga m<=x.bB) (some ⟨2,false,ga m,[],0,[],[],[]⟩) none
   |none=>none)
  else if x.ae=3 then(ite ((p.length:Int)<=x.Max) (some ⟨3,false,0,p,0,[],[],[]⟩) none)else if x.ae=4 then(match gb p with
   |some m=>ite (1<=m/\m<=1000/\((x.bc.any λy=>(y.ai=(m:Int):J))||x.bt)=true) (some ⟨4,false,0,[],(m:Int),[],[],[]⟩) none
   |none=>none)
  else if x.ae=9 then(match p with
   |[]=>some ⟨9,false,0,[],0,[],[],[]⟩
   |c::q=>ite (c=1) ((dd ts n x.aF q).map λv=>⟨9,false,0,[],0,[],[v],[]⟩) none)
  else if x.ae=6 then(match jl p with
   |some (id,q)=>(match cw x.af id with
    |some m=>(dd ts n m.aC q).map λv=>⟨6,false,0,[],id,[],[v],[]⟩
    |none=>ite x.bt (some ⟨6,false,0,[],id,[],[],[⟨id,q⟩]⟩) none)
   |none=>none)
  else if x.ae=7 then(match gW p with
   |some l=>ite ((l.length:Int)<=x.Max) ((cO (dd ts n x.aF) l).map λa=>⟨7,false,0,[],0,[],a,[]⟩) none
   |none=>none)
  else if x.ae=8 then(match gW p with
   |some l=>ite (l.length%2 = 0/\((l.length/2:Nat):Int)<=x.Max) (match cO (dd ts n x.aR) (e9 l) with
    |some ks=>ite (pg ks) ((cO (dd ts n x.aF) (fO l)).map λa=>⟨8,false,0,[],0,ks,a,[]⟩) none
    |none=>none) none
   |none=>none)
  else(match im p with
   |some l=>(match cO (λm:aU=>match l.find? (λf=>(f.ai = m.ai:J)) with
    |some f=>dd ts n m.aC f.bT
    |none=>ite m.bH (some m.bm) none) x.af with
    |some a=>ite (l.all λf=>(cw x.af f.ai).isSome || !f.b4) (some ⟨5,false,0,[],0,[],a,(l.filter λf=>!(cw x.af f.ai).isSome).map λf=>⟨f.ai,f.bT⟩⟩) none
    |none=>none)
   |none=>none)
section
variable {ts:I aj}
def gg(ts:I aj)(b1:az)(b2:Int)(so:az)(o:ag ab)(r:ag (ab×J×I aj×az×Int×az)):Prop:=
 (∀v,o=some v->r=some (v,true,ts,b1,b2,so))/\(o=none->∃w f1 f2,r=some (w,false,ts,f1,f2,so))
theorem AF(ar:so.length<=1000)(a:Int)(b1:az)(b2:Int):hW (a,ts,b1,b2,so)=some ((⟨0,false,0,[],0,[],[],[]⟩:ab),false,ts,a,so,so):=by
 rw[hW];unfold uJ gF;rw[ah (qa (ef (by omega) (by omega)))];simp
theorem wU{step:Int}(ar:so.length<=1000)(h:gg ts b1 b2 (so++[step]) o (py (t,p,ts,b1,b2,so++[step]))):
 gg ts b1 b2 so o (ja (step,t,p,ts,b1,b2,so)):=by
 have key:∀w ok f1 f2,py (t,p,ts,b1,b2,so++[step])=some (w,ok,ts,f1,f2,so++[step])->ja (step,t,p,ts,b1,b2,so)=some (w,ok,ts,f1,f2,so):=by
  intro w ok f1 f2 a;rw[ja];simp only[aW,ay];rw[ah (ef),a];simp only[ay,ab.bI];have aJ:dD .i64 ((so++[step]).length:Int) 1=(so.length:Int):=by rw[pk (by simp<;>omega) (by simp<;>omega)];simp
  rw[aJ];have c:fy 0 (so.length:Int) (so++[step]).length:=jx.2 (by simp;omega);simp_all
 refine⟨λv b=>key _ _ _ _ (h.1 v b),λaI=>?_⟩;obtain⟨w,f1,f2,a⟩:=h.2 aI;exact⟨w,f1,f2,key _ _ _ _ a⟩
theorem nk{f:α->ag c}:∀{l:I α} {m:I c},cO f l=some m->m.length=l.length
 |[],m,h=>by rw[cO]at h;cases h;rfl
 |a::l,m,h=>by
  rw[cO]at h;split at h;rename_i b e h1 d;cases h;rw[lg,lg,nk d];cases h
theorem PV{l:I aq}(ak:l.length<=90000)(h:∀q,q∈l->∀step b1 b2,gg ts b1 b2 so (f q) (ja (step,x.aF,q,ts,b1,b2,so)))
 {z0 z2 z4 a0 a2 a4:Int}{z1 a1:J}{z3 a3:aq}{b1:az}{b2:Int}:∀(k i:Nat) (acc:I ab),i+k=l.length->acc.length=i->
 (∀m,cO f (l.drop i)=some m->tN (l,(l.length:Int),(i:Int),ts,b1,b2,x,z0,z1,z2,z3,z4,a0,a1,a2,a3,a4,so,acc)=some (.inr (ts,b1,b2,z0,z1,z2,z3,z4,a0,a1,a2,a3,a4,so,acc++m)))/\
 (cO f (l.drop i)=none->∃w f1 f2,tN (l,(l.length:Int),(i:Int),ts,b1,b2,x,z0,z1,z2,z3,z4,a0,a1,a2,a3,a4,so,acc)=some (.inl (false,ts,f1,f2,w,so)))
 |0,i,acc,d,c=>by
  rw[tN,dC,fx (by omega),cO];grind
 |k+1,i,acc,d,c=>by
  have aD:i<l.length:=by omega
  have a:=h _ (bA aD []) (i:Int) b1 b2;have e:l.drop i=l.getD i []::l.drop (i+1):=by rw[fM aD];exact mz aD
  rw[tN,cJ,ah (aY aD),bQ,e,cO];cases b:f (l.getD i [])with
  |none=>
   obtain⟨w,f1,f2,n⟩:=a.2 b;simp_all
  |some v=>
   rw[a.1 v b];simp only[aW,ay,ab.bI,dc];rw[cq,ah (ef),bN];obtain⟨o,j⟩:=PV ak h (z0:=z0) (z1:=z1) (z2:=z2) (z3:=z3) (z4:=z4) (a0:=a0) (a1:=a1) (a2:=a2) (a3:=a3) (a4:=a4) (b1:=b1) (b2:=b2) k (i+1) (acc++[v]) (by omega) (by simp;omega);cases hs:cO f (l.drop (i+1))with
   |none=>exact⟨λm g=>by simp at g,λ_=>j hs⟩
   |some p=>grind
end
theorem EW{l:I ab}{i:Nat}(a:i<l.length):l.set i (l.getD i aM)=l:=by simp_all
theorem N5{a0 a2 a4 z0 z2 z4:Int}{a1 z1:J}{a3 z3:aq}{l l2:I ab}{r:I ch}(ak:l.length<=5000000000000)(h:∀y,y∈l->jQ y=some y):∀(k i:Nat),i+k=l.length->
 tD ((l.length:Int),(i:Int),a0,a1,a2,a3,a4,z0,z1,z2,z3,z4,l,l2,r)=some (a0,a1,a2,a3,a4,z0,z1,z2,z3,z4,l,l2,r)
 |0,i,a=>by rw[tD,dC]
 |k+1,i,a=>by
  have aD:i<l.length:=by omega
  rw[tD,cJ,ah (aY aD),bQ,cJ];simp only[ab.bI];rw[h _ (bA aD aM)];simp only[aW,ay,ab.bI];rw[ah (aY aD),cJ,bN,EW aD];exact N5 ak h k (i+1) (by omega)
theorem N6{a0 a2 a4 z0 z2 z4:Int}{a1 z1:J}{a3 z3:aq}{l l2:I ab}{r:I ch}(ak:l.length<=5000000000000)(h:∀y,y∈l->jQ y=some y):∀(k i:Nat),i+k=l.length->
 uw ((l.length:Int),(i:Int),a0,a1,a2,a3,a4,z0,z1,z2,z3,z4,l,l2,r)=some (a0,a1,a2,a3,a4,z0,z1,z2,z3,z4,l2,l,r)
 |0,i,a=>by rw[uw,dC]
 |k+1,i,a=>by
  have aD:i<l.length:=by omega
  rw[uw,cJ,ah (aY aD),bQ,cJ];simp only[ab.bI];rw[h _ (bA aD aM)];simp only[aW,ay,ab.bI];rw[ah (aY aD),cJ,bN,EW aD];exact N6 ak h k (i+1) (by omega)
theorem B9:∀l:I ab,l.length<=eC l
 |[]=>by simp
 |v::l=>by
  rw[ov,hT,lg];have:=B9 l;omega
theorem PW(l:I ch):l.length<=(l.map λx=>x.bT.length+1).sum:=by
 induction l with
 |nil=>simp
 |cons a l ih=>simp only[mB,xB,lg];omega
theorem xO{k n:Nat}(a:k<=1000:=by omega)(h:n<=1000000000:=by omega):cn k n:=by
 unfold cn hD dB;simp only[dh,fI];refine⟨?_,by omega⟩;have:(2*n+192)*k<=2000000192*1000:=Nat.mul_le_mul (by omega) a;omega
theorem aeZ(i:cp v):wt v<=1000000000->jQ v=some v:=by
 induction i with
 |mk v hs h1 n o q p s z A B C k j=>
  intro t;have u:=hT v;have w:=B9 v.a7;have l2:=B9 v.aw;have x:=PW v.aX;have kk:∀y,y∈v.a7->jQ y=some y:=λy al=>k y al (by have:=d' al;omega);have m:∀y,y∈v.aw->jQ y=some y:=λy al=>j y al (by have:=d' al;omega);have e:gF 120 v.a7=some v.a7:=by unfold gF;rw[ah (qa (xO))]
  have f:gF 120 v.aw=some v.aw:=by unfold gF;rw[ah (qa (xO))]
  have g:gF 24 v.aX=some v.aX:=by unfold gF;rw[ah (qa (xO))]
  have a:=N5 (a0:=v.ae) (a1:=v.ct) (a2:=v.bE) (a3:=v.bZ) (a4:=v.ai) (z0:=0) (z1:=false) (z2:=0) (z3:=[]) (z4:=0) (l:=v.a7) (l2:=v.aw) (r:=v.aX) (by omega) kk v.a7.length 0 (by omega);have c:=N6 (a0:=v.ae) (a1:=v.ct) (a2:=v.bE) (a3:=v.bZ) (a4:=v.ai) (z0:=0) (z1:=false) (z2:=0) (z3:=[]) (z4:=0) (l:=v.aw) (l2:=v.a7) (r:=v.aX) (by omega) m v.aw.length 0 (by omega);have b:tD ((v.a7.length:Int),0,v.ae,v.ct,v.bE,v.bZ,v.ai,0,false,0,[],0,v.a7,v.aw,v.aX)=_:=a;have d:uw ((v.aw.length:Int),0,v.ae,v.ct,v.bE,v.bZ,v.ai,0,false,0,[],0,v.aw,v.a7,v.aX)=_:=c;rw[jQ,e,f,g];simp only[aW,ay];rw[b];simp only[ay];rw[d];simp only[ay];cases v;rfl
section
variable {ts:I aj}
def yf(ts:I aj)(n:Nat):Prop:=∀(t:Int) (p:aq) (b1:az) (b2:Int) (so:az),0<=t->t<ts.length->p.length<=4096->so.length+n=200->
 gg ts b1 b2 so (dd ts n t p) (py (t,p,ts,b1,b2,so))
theorem jS(ar:so.length<=1000)(a:Int)(b1:az)(b2:Int):gg ts b1 b2 so none (hW (a,ts,b1,b2,so)>>=λr=>some (ab.eta r.1,r.2.1,r.2.2.1,r.2.2.2.2.2,r.2.2.2.1,r.2.2.2.2.1)):=by
 refine⟨λv h=>(by cases h),λ_=>?_⟩;rw[AF ar];simp_all
theorem GS(c:h9 x.af)(ak:x.af.length<=1000){m:aU}(bK:cw x.af id=some m):∃j,j<x.af.length/\gO (x,id)=some ((j:Int),true)/\x.af.getD j aH=m:=by
 obtain⟨b,e⟩:=kp bK;obtain⟨r,f,g⟩:=zX (t:=x) (id:=id) (by omega);rcases g with⟨j,a,d,_,rfl⟩|⟨q,_⟩;exact⟨j,a,f,uq c (bA a aH) b (by rw[d,e])⟩;obtain⟨i,k,rfl⟩:=gT b;grind
theorem ae0(H:kf ts){n:Nat}(ih:yf ts n)(aa:x∈ts)(k6:x.ae=6)(dw:∀m,m∈x.af->0<=m.aC/\m.aC<ts.length)(ar:p.length<=4096)(D:so.length+(n+1)=200):
 gg ts b1 b2 so (match jl p with
  |some (id,q)=>(match cw x.af id with
   |some m=>(dd ts n m.aC q).map λv=>⟨6,false,0,[],id,[],[v],[]⟩
   |none=>if x.bt then some ⟨6,false,0,[],id,[],[],[⟨id,q⟩]⟩else none)
  |none=>none) (Dr (x,p,ts,b1,b2,so)):=by
 obtain⟨o,l,s,u⟩:=KE p;rw[Dr,l];simp only[aW,ay];by_cases h0:o.2.2=0
 . obtain⟨v1,v2,v3⟩:=s h0;rw[au (by simp[h0]),v1];dsimp only;obtain⟨f,B⟩:=H.A x aa (.inr k6);cases bK:cw x.af o.1 with
   |some m=>
    obtain⟨j,a,b,k⟩:=GS f (by omega) bK;rw[b];simp only[ay];rw[ah trivial,ah (aY a),bQ,k];obtain⟨t1,t2⟩:=dw m (kp bK).1;have c:=wU (step:=o.1) (so:=so) (by omega) (ih m.aC o.2.1 b1 b2 (so++[o.1]) t1 t2 (by omega) (by simp;omega));cases d:dd ts n m.aC o.2.1 with
    |none=>
     obtain⟨w,f1,f2,i⟩:=c.2 d;rw[i];exact⟨λv h=>by simp at h,λ_=>⟨_,_,_,rfl⟩⟩
    |some v=>
     rw[c.1 v d]
     exact⟨λe h=>by
      have:e=⟨6,false,0,[],o.1,[],[v],[]⟩:=(by simpa using h.symm);rw[this]
      simp[ab.bI,k6],λh=>by simp at h⟩
   |none=>
    obtain⟨r,y,z⟩:=zX (t:=x) (id:=o.1) (by omega);have g:r=(0,false):=by
     rcases z with⟨j,a,b,_,_⟩|⟨_,q⟩;exact absurd b (mi bK _ (bA a aH));exact q
    rw[y,g];cases C:x.bt with
    |false=>
     simp only[ay,cx,cF,eL,cl,eq_self];exact jS (by omega) _ _ _
    |true=>
     simp only[ay,cx,cF,dc,cl,eq_self];exact⟨λe h=>(by cases h;rw[k6]),λh=>(by cases h)⟩
 rw[ah (by simp[h0]),u h0];exact jS (by omega) _ _ _
end
theorem MZ{l:I α}(h:2*j+1<l.length)(d:α):e9 (l.drop (2*j))=l.getD (2*j) d::e9 (l.drop (2*(j+1))):=by
 rw[mz (by omega:2*j<l.length),mz h,e9,fM (by omega)];rfl
theorem N7{l:I α}(h:2*j+1<l.length)(d:α):fO (l.drop (2*j))=l.getD (2*j+1) d::fO (l.drop (2*(j+1))):=by
 rw[mz (by omega:2*j<l.length),mz h,fO,fM h];rfl
theorem SV{i:Nat}(h:i<1000000):a' .i64 (i:Int) 2=((i+2:Nat):Int):=by
 have:=JY (a:=i) (b:=2) (by omega);exact this
section
variable {ts:I aj}
theorem PX{l:I aq}(ak:l.length<=90000)(he:l.length%2=0)(h:∀q,q∈l->∀step b1 b2,gg ts b1 b2 so (f q) (ja (step,x.aR,q,ts,b1,b2,so)))
 {z0 z2 z4 a0 a2 a4:Int}{z1 a1:J}{z3 a3:aq}{b1:az}{b2:Int}:∀(k j:Nat) (acc:I ab),2*(j+k)=l.length->acc.length=j->
 (∀m,cO f (e9 (l.drop (2*j)))=some m->tF (l,((2*j:Nat):Int),ts,b1,b2,x,z0,z1,z2,z3,z4,a0,a1,a2,a3,a4,so,acc)=some (.inr (l,ts,b1,b2,x,z0,z1,z2,z3,z4,a0,a1,a2,a3,a4,so,acc++m)))/\
 (cO f (e9 (l.drop (2*j)))=none->∃w f1 f2,tF (l,((2*j:Nat):Int),ts,b1,b2,x,z0,z1,z2,z3,z4,a0,a1,a2,a3,a4,so,acc)=some (.inl (false,ts,f1,f2,w,so)))
 |0,j,acc,e,d=>by
  rw[tF,dC,fx (by omega),show e9 ([]:I aq)=[]from rfl,cO];grind
 |k+1,j,acc,e,d=>by
  have aD:2*j<l.length:=by omega
  have a:=h _ (bA aD []) (gA .i64 ((2*j:Nat):Int) 2) b1 b2;rw[tF,cJ,ah (aY aD),bQ,MZ (by omega) [],cO];cases b:f (l.getD (2*j) [])with
  |none=>
   obtain⟨w,f1,f2,n⟩:=a.2 b;simp_all
  |some v=>
   rw[a.1 v b];simp only[aW,ay,ab.bI,dc];rw[cq,ah (ef),SV (by omega)];obtain⟨o,i⟩:=PX ak he h (z0:=z0) (z1:=z1) (z2:=z2) (z3:=z3) (z4:=z4) (a0:=a0) (a1:=a1) (a2:=a2) (a3:=a3) (a4:=a4) (b1:=b1) (b2:=b2) k (j+1) (acc++[v]) (by omega) (by simp;omega);have c:2*j+2=2*(j+1):=(by omega);rw[c];cases hs:cO f (e9 (l.drop (2*(j+1))))with
   |none=>exact⟨λm g=>by simp at g,λ_=>i hs⟩
   |some p=>grind
theorem N8{l:I aq}(ak:l.length<=90000)(he:l.length%2=0)(h:∀q,q∈l->∀step b1 b2,gg ts b1 b2 so (f q) (ja (step,x.aF,q,ts,b1,b2,so)))
 {z0 z2 z4 a0 a2 a4:Int}{z1 a1:J}{z3 a3:aq}{b1:az}{b2:Int}{ks:I ab}:∀(k j:Nat) (acc:I ab),2*(j+k)=l.length->acc.length=j->
 (∀m,cO f (fO (l.drop (2*j)))=some m->tG (l,((2*j+1:Nat):Int),ts,b1,b2,x,z0,z1,z2,z3,z4,a0,a1,a2,a3,a4,so,ks,acc)=some (.inr (ts,b1,b2,z0,z1,z2,z3,z4,a0,a1,a2,a3,a4,so,ks,acc++m)))/\
 (cO f (fO (l.drop (2*j)))=none->∃w f1 f2,tG (l,((2*j+1:Nat):Int),ts,b1,b2,x,z0,z1,z2,z3,z4,a0,a1,a2,a3,a4,so,ks,acc)=some (.inl (false,ts,f1,f2,w,so)))
 |0,j,acc,e,d=>by
  rw[tG,dC,fx (by omega),show fO ([]:I aq)=[]from rfl,cO];grind
 |k+1,j,acc,e,d=>by
  have aD:2*j+1<l.length:=by omega
  have a:=h _ (bA aD []) (gA .i64 ((2*j+1:Nat):Int) 2) b1 b2;rw[tG,cJ,ah (aY aD),bQ,N7 aD [],cO];cases b:f (l.getD (2*j+1) [])with
  |none=>
   obtain⟨w,f1,f2,n⟩:=a.2 b;simp_all
  |some v=>
   rw[a.1 v b];simp only[aW,ay,ab.bI,dc];rw[cq,ah (ef),SV (by omega)];obtain⟨o,i⟩:=N8 ak he h (z0:=z0) (z1:=z1) (z2:=z2) (z3:=z3) (z4:=z4) (a0:=a0) (a1:=a1) (a2:=a2) (a3:=a3) (a4:=a4) (b1:=b1) (b2:=b2) (ks:=ks) k (j+1) (acc++[v]) (by omega) (by simp;omega);have c:2*j+1+2=2*(j+1)+1:=(by omega);rw[c];cases hs:cO f (fO (l.drop (2*(j+1))))with
   |none=>exact⟨λm g=>by simp at g,λ_=>i hs⟩
   |some p=>grind
theorem agj{a b:ab}(c:ej a.bE)(d:ej b.bE):oh (a,b)=some (iF a b):=by
 obtain⟨r,e,f⟩:=D2 c d;have:=AD c d;grind
theorem Qx{x:aj}(ar:so.length<=1000){l:I aq}(a:∀y,y∈ks->ej y.bE)(ak:ks.length<=90000)
 {z0 z2 z4 a0 a2 a4:Int}{z1 a1:J}{z3 a3:aq}{b1:az}{b2:Int}:∀(k i:Nat),ks.length-(i+1)=k->
 ((∀m,i<=m->m+1<ks.length->iF (ks.getD m aM) (ks.getD (m+1) aM)<0)/\q5 (l,((i+1:Nat):Int),ts,b1,b2,x,z0,z1,z2,z3,z4,a0,a1,a2,a3,a4,so,ks)=some (.inr (l,ts,b1,b2,x,z0,z1,z2,z3,z4,a0,a1,a2,a3,a4,so,ks)))\/
 ((∃m,m+1<ks.length/\¬iF (ks.getD m aM) (ks.getD (m+1) aM)<0)/\∃w f1 f2,q5 (l,((i+1:Nat):Int),ts,b1,b2,x,z0,z1,z2,z3,z4,a0,a1,a2,a3,a4,so,ks)=some (.inl (false,ts,f2,w,so,f1)))
 |0,i,c=>by
  rw[q5,dC];grind
 |k+1,i,c=>by
  have aD:i+1<ks.length:=by omega
  have aJ:dD .i64 ((i+1:Nat):Int) 1=(i:Int):=by rw[mW];omega
  rw[q5,cJ,aJ];simp only[aW,ay];rw[ah (fU),cJ,ah (aY aD),cJ,bQ,bQ];simp only[ab.bI];rw[agj (a _ (bA (by omega) aM)) (a _ (bA aD aM))];simp only[ay];by_cases b:iF (ks.getD i aM) (ks.getD (i+1) aM)<0
  . rw[au (by simpa using b),bN];rcases Qx ar a ak (x:=x) (l:=l) (z0:=z0) (z1:=z1) (z2:=z2) (z3:=z3) (z4:=z4) (a0:=a0) (a1:=a1) (a2:=a2) (a3:=a3) (a4:=a4) (b1:=b1) (b2:=b2) k (i+1) (by omega)with⟨h1,d⟩|h
    grind;grind
  rw[ah (by simpa using b),AF ar];grind
theorem Qy{m:Nat}(h:m<18446744073709551616):ej (ga m):=by
 unfold ga ej;omega
theorem mv:ej 0:=by unfold ej;omega
def mN(o:ag ab):Prop:=∀v,o=some v->ej v.bE
theorem mN.ite{c:Prop}[Decidable c]{a b:ag ab}(e:c->mN a)(f:¬c->mN b):mN (if c then a else b):=by grind
theorem mN.no:mN none:=λv h=>(by cases h)
theorem mN.zero{k i:Int}{b:J}{s:aq}{a:I ab}{r:I ch}:mN (some ⟨k,b,0,s,i,ks,a,r⟩):=λv h=>(by cases h;exact mv)
theorem mN.map{α:Type}{o:ag α}{k i:Int}{b:J}{s:aq}{ks a:α->I ab}{r:I ch}:mN (o.map λv=>⟨k,b,0,s,i,ks v,a v,r⟩):=λv h=>by obtain⟨_,_,rfl⟩:=oV.1 h;exact mv
theorem PY{n:Nat}(h:dd ts n t p=some v):ej v.bE:=by
 have key:mN (dd ts n t p):=by
  cases n with
  |zero=>unfold dd;exact .no
  |succ n=>
   unfold dd;refine .ite (λ_=>.ite (λ_=>.zero) λ_=>.ite (λ_=>.zero) λ_=>.no) λ_=>?_;refine .ite (λ_=>?_) λ_=>?_
   . cases b:gb p with
     |none=>exact .no
     |some m=>exact .ite (λ_=>λv h=>(by cases h;exact Qy (Bc b))) λ_=>.no
   refine .ite (λ_=>.ite (λ_=>.zero) λ_=>.no) λ_=>?_;refine .ite (λ_=>?_) λ_=>?_
   . cases b:gb p with
     |none=>exact .no
     |some m=>exact .ite (λ_=>.zero) λ_=>.no
   refine .ite (λ_=>?_) λ_=>?_
   . cases p with
     |nil=>exact .zero
     |cons c q=>exact .ite (λ_=>.map) λ_=>.no
   refine .ite (λ_=>?_) λ_=>?_
   . cases jl p with
     |none=>exact .no
     |some a=>
      obtain⟨id,q⟩:=a;dsimp only;cases cw (ts.getD t.toNat aN).af id with
      |none=>exact .ite (λ_=>.zero) λ_=>.no
      |some m=>exact .map
   refine .ite (λ_=>?_) λ_=>?_
   . cases gW p with
     |none=>exact .no
     |some l=>exact .ite (λ_=>.map) λ_=>.no
   refine .ite (λ_=>?_) λ_=>?_
   . cases gW p with
     |none=>exact .no
     |some l=>
      refine .ite (λ_=>?_) λ_=>.no;cases cO (dd ts n (ts.getD t.toNat aN).aR) (e9 l)with
      |none=>exact .no
      |some ks=>exact .ite (λ_=>.map) λ_=>.no
   . cases im p with
     |none=>exact .no
     |some l=>
      dsimp only;split;exact .ite (λ_=>.zero) λ_=>.no;exact .no
 exact key v h
theorem wV{f:α->ag c}:∀{l:I α} {m:I c},cO f l=some m->∀y,y∈m->∃a,a∈l/\f a=some y
 |[],m,h,y,al=>by rw[cO]at h;cases h;cases al
 |a::l,m,h,y,al=>by
  rw[cO]at h;split at h
  . rename_i b e h1 d;cases h;rcases eE.1 al with rfl|al
    grind;obtain⟨ca,k1,k2⟩:=wV d y al;grind
  cases h
theorem EG:∀{l:I α} {y:α},y∈e9 l->y∈l
 |[],y,h=>by cases h
 |[_],y,h=>by cases h
 |a::b::l,y,h=>by
  rcases eE.1 h with rfl|h;grind;exact .tail _ (.tail _ (EG h))
theorem J7:∀(l:I α),(e9 l).length<=l.length
 |[]=>ek _
 |[_]=>iD _
 |a::b::l=>by
  show(e9 l).length+1<=l.length+1+1;have:=J7 l;omega
theorem VG{a:Nat}(h:a<1000000):gA .i64 (a:Int) 2=((a/2:Nat):Int):=by
 unfold gA;have e:(a:Int).tdiv 2=((a/2:Nat):Int):=by rw[G1 (by omega)];omega
 rw[e];exact lk
theorem agk{n:Nat}(ih:yf ts n)(k8:x.ae=8)(bW:0<=x.aR/\x.aR<ts.length)(er:0<=x.aF/\x.aF<ts.length)(ar:p.length<=4096)(M:so.length+(n+1)=200):
 gg ts b1 b2 so (match gW p with
  |some l=>if l.length%2 = 0/\((l.length/2:Nat):Int)<=x.Max then (match cO (dd ts n x.aR) (e9 l) with
   |some ks=>if pg ks then(cO (dd ts n x.aF) (fO l)).map λs=>(⟨8,false,0,[],0,ks,s,[]⟩:ab)else none
   |none=>none)else none
  |none=>none) (zd (x,p,ts,b1,b2,so)):=by
 obtain⟨o,I,K,L⟩:=uo (p:=p) (by omega);rw[zd,I];simp only[aW,ay];by_cases h0:o.2=0
 . obtain⟨v1,v2,v3⟩:=K h0;rw[v1];dsimp only;have F:f' (o.1.length:Int) 2=((o.1.length%2:Nat):Int):=by rw[Qq (by omega) (by omega)];omega
   rw[F,VG (by omega)];by_cases he:o.1.length%2=0
   . have b:¬(bif (!(o.2=0:J))then true else(!(((o.1.length%2:Nat):Int)=0:J)))=true:=(by grind);rw[au b];by_cases t:((o.1.length/2:Nat):Int)<=x.Max
     . rw[ah (show o.1.length%2=0/\((o.1.length/2:Nat):Int)<=x.Max from⟨he,t⟩),au (show ¬(x.Max<((o.1.length/2:Nat):Int):J)=true by simp only[fI];omega)];have C:∀q,q∈o.1->∀step b1 b2,gg ts b1 b2 so (dd ts n x.aR q) (ja (step,x.aR,q,ts,b1,b2,so)):=λq k step b1 b2=>
        wU (by omega) (ih x.aR q b1 b2 (so++[step]) bW.1 bW.2 (by have:=v2 q k;omega) (by simp;omega))
       have j:∀q,q∈o.1->∀step b1 b2,gg ts b1 b2 so (dd ts n x.aF q) (ja (step,x.aF,q,ts,b1,b2,so)):=λq k step b1 b2=>
        wU (by omega) (ih x.aF q b1 b2 (so++[step]) er.1 er.2 (by have:=v2 q k;omega) (by simp;omega))
       obtain⟨bY,c⟩:=PX (x:=x) (l:=o.1) (by omega) he C (z0:=0) (z1:=false) (z2:=0) (z3:=[]) (z4:=0) (a0:=x.ae) (a1:=false) (a2:=0) (a3:=[]) (a4:=0) (b1:=b1) (b2:=b2) (o.1.length/2) 0 [] (by omega) rfl;have d0:o.1.drop (2*0)=o.1:=rfl;rw[d0]at bY c;have z0:((2*0:Nat):Int)=0:=rfl;rw[z0]at bY c;cases hs:cO (dd ts n x.aR) (e9 o.1)with
       |none=>
        obtain⟨w,f1,f2,r⟩:=c hs;rw[r];exact⟨λv h=>(by cases h),λ_=>⟨_,_,_,rfl⟩⟩
       |some ks=>
        rw[bY ks hs];simp only[ay,jE];have D:∀y,y∈ks->ej y.bE:=λy al=>by
         obtain⟨a,_,A⟩:=wV hs y al;exact PY A
        have E:ks.length<=90000:=by
         have:=nk hs;have:=J7 o.1;omega
        have B:=Qx (ts:=ts) (x:=x) (so:=so) (by omega) (l:=o.1) D E (z0:=0) (z1:=false) (z2:=0) (z3:=[]) (z4:=0) (a0:=x.ae) (a1:=false) (a2:=0) (a3:=[]) (a4:=0) (b1:=b1) (b2:=b2) _ 0 rfl;have z1:((0+1:Nat):Int)=1:=rfl;rw[z1]at B;rcases B with⟨z,d⟩|⟨⟨m,G,H⟩,w,f1,f2,d⟩
        . have g:pg ks:=wT.2 λi j=>z i (iD _) j;rw[ah g,d];simp only[ay];obtain⟨e,f⟩:=N8 (x:=x) (l:=o.1) (by omega) he j (z0:=0) (z1:=false) (z2:=0) (z3:=[]) (z4:=0) (a0:=x.ae) (a1:=false) (a2:=0) (a3:=[]) (a4:=0) (b1:=b1) (b2:=b2) (ks:=ks) (o.1.length/2) 0 [] (by omega) rfl;rw[d0]at e f;have z2:((2*0+1:Nat):Int)=1:=rfl;rw[z2]at e f;cases u:cO (dd ts n x.aF) (fO o.1)with
          |none=>
           obtain⟨w,f1,f2,r⟩:=f u;rw[r];exact⟨λv h=>(by cases h),λ_=>⟨_,_,_,rfl⟩⟩
          |some s=>
           rw[e s u];exact⟨λv h=>(by cases h;simp[k8]),λh=>(by cases h)⟩
        have g:¬pg ks:=λh=>H (wT.1 h m G);rw[au g,d];exact⟨λv h=>(by cases h),λ_=>⟨ab.eta w,f1,f2,rfl⟩⟩
     rw[au (show ¬(o.1.length%2=0/\((o.1.length/2:Nat):Int)<=x.Max)fromλh=>t h.2),ah (show (x.Max<((o.1.length/2:Nat):Int):J) by simp only[fI];omega)];exact jS (by omega) _ _ _
   have b:(bif (!(o.2=0:J))then true else(!(((o.1.length%2:Nat):Int)=0:J)))=true:=(by grind);rw[au (show ¬(o.1.length%2=0/\((o.1.length/2:Nat):Int)<=x.Max)fromλh=>he h.1),ah b];exact jS (by omega) _ _ _
 have b:(bif (!(o.2=0:J))then true else(!(f' (o.1.length:Int) 2=0:J)))=true:=(by simp[h0]);rw[ah b,L h0];exact jS (by omega) _ _ _
theorem ae1{l:I cY}(m:aU)(ak:l.length<=90000):(∃j,j<l.length/\l.find? (λf=>(f.ai=m.ai:J))=some (l.getD j dz)/\y9 (l,m)=some ((j:Int),m))\/
 (l.find? (λf=>(f.ai=m.ai:J))=none/\y9 (l,m)=some (-1,m)):=by
 have h:=ud (λi=>pX (l,(l.length:Int),(i:Int),m)) l.length (λi=>((l.getD i dz).ai=m.ai:J)) (λi=>.inl ((i:Int),m)) (.inr m)
  (λi a=>by
   rw[pX,cJ,ah (aY a)];simp only[aW,ay,bQ,ab.bI,HM]
   rw[bN])
  (by rw[pX,cq];simp only[iu])
 have dp:pX (l,(l.length:Int),((0:Nat):Int),m)=pX (l,(l.length:Int),0,m):=rfl;simp only[dp]at h;rw[y9];simp only[iu];rcases h with⟨j,h1,c,d,b⟩|⟨h1,b⟩;left;refine⟨j,h1,?_,by rw[b];simp only[aW,ay,iu]⟩;rw[fM h1]at c⊢;rw[GZ];refine⟨c,j,h1,rfl,λk g=>?_⟩;have:=d k g;rw[fM (by omega)]at this;simpa using this;right;refine⟨?_,by rw[b];simp only[aW,ay,iu]⟩;rw[List.find?_eq_none];intro f e;obtain⟨i,a,rfl⟩:=gT e;have:=h1 i a;rw[fM a]at this;simpa using this
def yr{a:Type}:ag a->ag (I a)->ag (I a)
 |some b,some m=>some (b::m)
 |_,_=>none
theorem Av{b:Type}(f:α->ag b)(a:α)(l:I α):cO f (a::l)=yr (f a) (cO f l):=by rfl
def eO(f:Int->aq->ag ab)(l:I cY)(m:aU):ag ab:=match l.find? (λf=>(f.ai=m.ai:J))with
 |some g=>f m.aC g.bT
 |none=>ite m.bH (some m.bm) none
theorem PZ {x:aj}{so:az}(E:so.length<=900){f:Int->aq->ag ab}{l:I cY}(ak:l.length<=90000)(A:x.af.length<=16)
 (s:∀m,m∈x.af->m.bH->jQ m.bm=some m.bm)
 (h:∀m,m∈x.af->∀q,q∈l->∀step b1 b2,gg ts b1 b2 so (f m.aC q.bT) (ja (step,m.aC,q.bT,ts,b1,b2,so)))
 {z0 z2 z4 a0 a2 a4:Int}{z1 a1:J}{z3 a3:aq}{b1:az}{b2:Int}:∀(k i:Nat) (acc:I ab),i+k=x.af.length->acc.length=i->
 (∀m,cO (eO f l) (x.af.drop i)=some m->nw (l,x.af,(x.af.length:Int),(i:Int),ts,b1,b2,x,z0,z1,z2,z3,z4,a0,a1,a2,a3,a4,so,acc)=some (.inr (l,ts,b1,b2,x,z0,z1,z2,z3,z4,a0,a1,a2,a3,a4,so,acc++m)))/\
 (cO (eO f l) (x.af.drop i)=none->∃w f1 f2,nw (l,x.af,(x.af.length:Int),(i:Int),ts,b1,b2,x,z0,z1,z2,z3,z4,a0,a1,a2,a3,a4,so,acc)=some (.inl (false,ts,f1,f2,w,so)))
 |0,i,acc,D,C=>by
  rw[nw,dC,fx (by omega),cO];grind
 |k+1,i,acc,D,C=>by
  have aD:i<x.af.length:=by omega
  have u:=bA aD aH;have e:x.af.drop i=x.af.getD i aH::x.af.drop (i+1):=by rw[fM aD];exact mz aD
  have go:∀v,(∀n,cO (eO f l) (x.af.drop (i+1))=some n->nw (l,x.af,(x.af.length:Int),((i+1:Nat):Int),ts,b1,b2,x,z0,z1,z2,z3,z4,a0,a1,a2,a3,a4,so,acc++[v])=some (.inr (l,ts,b1,b2,x,z0,z1,z2,z3,z4,a0,a1,a2,a3,a4,so,acc++[v]++n)))/\(cO (eO f l) (x.af.drop (i+1))=none->∃w f1 f2,nw (l,x.af,(x.af.length:Int),((i+1:Nat):Int),ts,b1,b2,x,z0,z1,z2,z3,z4,a0,a1,a2,a3,a4,so,acc++[v])=some (.inl (false,ts,f1,f2,w,so))):=λv=>
   PZ E ak A s h k (i+1) (acc++[v]) (by omega) (by simp;omega)
  rw [nw,cJ,ah (aY aD),bQ,e,Av];simp only [aW,ay,iu];generalize x.af.getD i aH = a at *;have z:∀ (v:ab) (d:ag _),eO f l a = some v->d = nw (l,x.af,(x.af.length:Int),((i+1:Nat):Int),ts,b1,b2,x,z0,z1,z2,z3,z4,a0,a1,a2,a3,a4,so,acc++[v])->
   (∀m,yr (eO f l a) (cO (eO f l) (x.af.drop (i+1)))=some m->d=some (.inr (l,ts,b1,b2,x,z0,z1,z2,z3,z4,a0,a1,a2,a3,a4,so,acc++m)))/\
   (yr (eO f l a) (cO (eO f l) (x.af.drop (i+1)))=none->∃w f1 f2,d=some (.inl (false,ts,f1,f2,w,so))):=by
   intro v d c B;obtain⟨g1,g2⟩:=go v;rw[c,B];cases hs:cO (eO f l) (x.af.drop (i+1))with
   |none=>exact⟨λm b=>(by cases b),λ_=>g2 hs⟩
   |some n=>
    refine⟨λm b=>?_,λh=>(by cases h)⟩;have:m=v::n:=(by cases b;rfl);grind
  rcases ae1 a ak with⟨j,y,g,r⟩|⟨g,r⟩
  . rw[r];simp only[ay];rw[j1,ah (aY y),bQ];have t:=h a u _ (bA y dz) a.ai b1 b2;have p:eO f l a=f a.aC (l.getD j dz).bT:=by unfold eO;rw[g]
    cases c:f a.aC (l.getD j dz).bT with
    |none=>
     obtain⟨w,f1,f2,F⟩:=t.2 c;rw[F,p,c];exact⟨λm b=>(by cases b),λ_=>⟨w,f1,f2,by simp[ab.bI]⟩⟩
    |some v=>
     rw[t.1 v c];simp only[ay,ab.bI,dc];rw[cq,ah (ef),bN];grind
  . rw[r];simp only[ay];rw[cq];cases o:a.bH with
    |true=>
     rw[ah rfl];simp only[ab.bI];rw[s a u o];simp only[ay,ab.bI];rw[ah (ef),bN];exact z a.bm _ (by unfold eO;rw[g];simp[o]) rfl
    |false=>
     have p:eO f l a=none:=by unfold eO;rw[g];simp[o]
     rw[cq,ah (ef),AF (by simp;omega),p];simp only[ay,ab.bI];have aJ:dD .i64 ((so++[a.ai]).length:Int) 1=(so.length:Int):=by rw[pk (by simp<;>omega) (by simp<;>omega)];simp
     rw[aJ,ah (jx.2 (by simp;omega)),j1,bQ];exact⟨λm b=>(by cases b),λ_=>⟨_,_,_,by simp;exact⟨rfl,rfl,rfl⟩⟩⟩
theorem ajY(d:x.af.length<=1000)(c:h9 x.af)(id:Int):∃r,gO (x,id)=some r/\r.2=(cw x.af id).isSome:=by
 cases bK:cw x.af id with
 |some m=>
  obtain⟨j,a,b,g⟩:=GS c d bK;grind
 |none=>
  obtain⟨r,e,f⟩:=zX (t:=x) (id:=id) (by omega);refine⟨r,e,?_⟩;rcases f with⟨j,a,b,_,_⟩|⟨_,q⟩;exact absurd b (mi bK _ (bA a aH));grind
def gm(x:aj)(f:cY):J:=(cw x.af f.ai).isSome || !f.b4
def ft(x:aj)(l:I cY):I ch:=(l.filter λf=>!(cw x.af f.ai).isSome).map λf=>⟨f.ai,f.bT⟩
theorem JJ(j:so.length<=900)(c:x.af.length<=1000)(b:h9 x.af){l:I cY}(ak:l.length<=90000)
 {z0 z2 z4 a0 a2 a4:Int}{z1 a1:J}{z3 a3:aq}{b1:az}{b2:Int}{its:I ab}:∀(k i:Nat) (acc:I ch),i+k=l.length->acc.length<=i->
 ((l.drop i).all (gm x)->p1 (l,(l.length:Int),(i:Int),ts,b1,b2,x,z0,z1,z2,z3,z4,a0,a1,a2,a3,a4,so,its,acc)=some (.inr (ts,b1,b2,z0,z1,z2,z3,z4,a0,a1,a2,a3,a4,so,its,acc++ft x (l.drop i))))/\
 ((l.drop i).all (gm x)=false->∃w f1 f2,p1 (l,(l.length:Int),(i:Int),ts,b1,b2,x,z0,z1,z2,z3,z4,a0,a1,a2,a3,a4,so,its,acc)=some (.inl (false,ts,f2,w,so,f1)))
 |0,i,acc,p,n=>by
  rw[p1,dC,fx (by omega)];exact⟨λ_=>by simp[ft],λh=>by simp at h⟩
 |k+1,i,acc,p,n=>by
  have aD:i<l.length:=by omega
  have e:l.drop i=l.getD i dz::l.drop (i+1):=by rw[fM aD];exact mz aD
  obtain⟨r,q,m⟩:=ajY c b (l.getD i dz).ai;rw[p1,cJ,ah (aY aD),bQ,e];simp only[aW,ay];generalize l.getD i dz=f at*;rw[q];simp only[ay];have o:(f::l.drop (i+1)).all (gm x)=(gm x f&&(l.drop (i+1)).all (gm x)):=rfl;rw[o];cases hs:(cw x.af f.ai).isSome with
  |true=>
   have a:gm x f:=by unfold gm;rw[hs];rfl
   have d:ft x (f::l.drop (i+1))=ft x (l.drop (i+1)):=by unfold ft;rw[List.filter_cons_of_neg (by rw[hs];simp)]
   rw[m,hs,ah rfl,a,d,bN,ig];exact JJ j c b ak k (i+1) acc (by omega) (by omega)
  |false=>
   rw[m,hs,cq];cases g:f.b4 with
   |true=>
    have a:gm x f=false:=by unfold gm;rw[hs,g];rfl
    rw[ah rfl,ah (ef),AF (by simp;omega),a];simp only[ay,ab.bI];have aJ:dD .i64 ((so++[f.ai]).length:Int) 1=(so.length:Int):=by rw[pk (by simp<;>omega) (by simp<;>omega)];simp
    rw[aJ,ah (jx.2 (by simp;omega)),j1,bQ];simp_all
   |false=>
    have a:gm x f:=by unfold gm;rw[hs,g];rfl
    have d:ft x (f::l.drop (i+1))=⟨f.ai,f.bT⟩::ft x (l.drop (i+1)):=by unfold ft;rw[List.filter_cons_of_pos (by rw[hs];rfl)];rfl
    rw[cq,ah (ef),a,d,bN,ig];have:=JJ j c b ak (z0:=z0) (z1:=z1) (z2:=z2) (z3:=z3) (z4:=z4) (a0:=a0) (a1:=a1) (a2:=a2) (a3:=a3) (a4:=a4) (b1:=b1) (b2:=b2) (its:=its) k (i+1) (acc++[⟨f.ai,f.bT⟩]) (by omega) (by simp;omega);grind
theorem ada(H:kf ts)(bU:∀x,x∈ts->∀m,m∈x.af->m.bH->jQ m.bm=some m.bm){n:Nat}(ih:yf ts n)(aa:x∈ts)(k5:x.ae=5)(dw:∀m,m∈x.af->0<=m.aC/\m.aC<ts.length)(ar:p.length<=4096)(z:so.length+(n+1)=200):
 (∀l,im p=some l->∀a,cO (eO (dd ts n) l) x.af=some a->l.all (gm x)->ze (x,p,ts,b1,b2,so)=some (⟨5,false,0,[],0,[],a,ft x l⟩,true,ts,b1,b2,so))/\
 ((im p=none\/(∃l,im p=some l/\(cO (eO (dd ts n) l) x.af=none\/l.all (gm x)=false)))->∃w f1 f2,ze (x,p,ts,b1,b2,so)=some (w,false,ts,f1,f2,so)):=by
 obtain⟨e,v⟩:=H.A x aa (.inl k5);obtain⟨o,s,t,u⟩:=EE (p:=p) (by omega);rw[ze,s];simp only[aW,ay];by_cases h0:o.2=0
 . obtain⟨v1,v2,v3,v4⟩:=t h0;rw[au (by simp[h0]),v1];have y:=H.T x aa;have g:∀m,m∈x.af->m.bH->jQ m.bm=some m.bm:=λm b j=>bU x aa m b j;have aB:∀m,m∈x.af->∀q,q∈o.1->∀step b1 b2,gg ts b1 b2 so (dd ts n m.aC q.bT) (ja (step,m.aC,q.bT,ts,b1,b2,so)):=λm b q r step b1 b2=>
    wU (by omega) (ih m.aC q.bT b1 b2 (so++[step]) (dw m b).1 (dw m b).2 (by have:=(v2 q r).1;omega) (by simp;omega))
   obtain⟨bY,c⟩:=PZ (x:=x) (so:=so) (by omega) (f:=dd ts n) (l:=o.1) (by omega) (by omega) g aB (z0:=0) (z1:=false) (z2:=0) (z3:=[]) (z4:=0) (a0:=x.ae) (a1:=false) (a2:=0) (a3:=[]) (a4:=0) (b1:=b1) (b2:=b2) x.af.length 0 [] (by omega) rfl;rw[eZ]at bY c;have z0:((0:Nat):Int)=0:=rfl;rw[z0]at bY c;have B:=λits=>JJ (ts:=ts) (x:=x) (so:=so) (by omega) (by omega) e (l:=o.1) (by omega) (z0:=0) (z1:=false) (z2:=0) (z3:=[]) (z4:=0) (a0:=x.ae) (a1:=false) (a2:=0) (a3:=[]) (a4:=0) (b1:=b1) (b2:=b2) (its:=its) o.1.length 0 [] (by omega) (ek _);rw[eZ,z0]at B;constructor;intro l ak a k i;cases ak;rw[bY a k];simp only[ay,jE];rw[(B a).1 i];simp[k5]
   . intro h;rcases h with h|⟨l,ak,h⟩
     cases h
     . cases ak;cases hs:cO (eO (dd ts n) o.1) x.af with
       |none=>
        obtain⟨w,f1,f2,d⟩:=c hs;rw[d];exact⟨_,_,_,rfl⟩
       |some a=>
        rcases h with h|h;rw[hs]at h;cases h;obtain⟨w,f1,f2,d⟩:=(B a).2 h;rw[bY a hs];simp only[ay,jE];rw[d];exact⟨ab.eta w,f1,f2,rfl⟩
 . rw[ah (by simp[h0]),u h0];constructor
   intro l ak;cases ak;intro _;rw[AF (by omega)];exact⟨_,_,_,rfl⟩
end
structure jo (ts:List aj):Prop where
 S:kf ts
 V:pe ts
 W:∀x,x∈ts->∀m,m∈x.af->m.bH->jQ m.bm=some m.bm
theorem cX.hZ(H:cX ts):jo ts:=⟨H.V.ik H.T,H.V,λx aa m a c=>aeZ ((H.T x aa).3 m a) (by have:=H.W x aa m a c;omega)⟩
section
variable {ts:I aj}
theorem jo.mem(H:jo ts)(aa:x∈ts){m:aU}(a:m∈x.af):0<=m.aC/\m.aC<ts.length:=
 H.V.U x aa m.aC (by unfold fj;simp;exact .inl ⟨m,a,rfl⟩)
theorem jo.elem(H:jo ts)(aa:x∈ts)(a:7<=x.ae):0<=x.aF/\x.aF<ts.length:=
 H.V.U x aa x.aF (by unfold fj;simp[a])
theorem jo.key(H:jo ts)(aa:x∈ts)(a:x.ae=8):0<=x.aR/\x.aR<ts.length:=
 H.V.U x aa x.aR (by unfold fj;simp[a])
def j9:ab:=⟨0,false,0,[],0,[],[],[]⟩
abbrev vl:=Int->aq->ag ab
def BW(p:aq):ag ab:=if p=[]then some ⟨1,false,0,[],0,[],[],[]⟩else ite (p=[1]) (some ⟨1,true,0,[],0,[],[],[]⟩) none
def BX(x:aj)(p:aq):ag ab:=match gb p with
 |some m=>ite (x.br<=ga m/\ga m<=x.bB) (some ⟨2,false,ga m,[],0,[],[],[]⟩) none
 |none=>none
def BY(x:aj)(p:aq):ag ab:=ite ((p.length:Int)<=x.Max) (some ⟨3,false,0,p,0,[],[],[]⟩) none
def BZ(x:aj)(p:aq):ag ab:=match gb p with
 |some m=>ite (1<=m/\m<=1000/\((x.bc.any λy=>(y.ai=(m:Int):J))||x.bt)=true) (some ⟨4,false,0,[],(m:Int),[],[],[]⟩) none
 |none=>none
def vb(f:vl)(x:aj):aq->ag ab
 |[]=>some ⟨9,false,0,[],0,[],[],[]⟩
 |c::q=>ite (c=1) ((f x.aF q).map λv=>⟨9,false,0,[],0,[],[v],[]⟩) none
def B0(f:vl)(x:aj)(p:aq):ag ab:=match jl p with
 |some (id,q)=>(match cw x.af id with
  |some m=>(f m.aC q).map λv=>⟨6,false,0,[],id,[],[v],[]⟩
  |none=>ite x.bt (some ⟨6,false,0,[],id,[],[],[⟨id,q⟩]⟩) none)
 |none=>none
def va(f:vl)(x:aj)(p:aq):ag ab:=match gW p with
 |some l=>ite ((l.length:Int)<=x.Max) ((cO (f x.aF) l).map λa=>⟨7,false,0,[],0,[],a,[]⟩) none
 |none=>none
def B1(f:vl)(x:aj)(p:aq):ag ab:=match gW p with
 |some l=>ite (l.length%2 = 0/\((l.length/2:Nat):Int)<=x.Max) (match cO (f x.aR) (e9 l) with
  |some ks=>ite (pg ks) ((cO (f x.aF) (fO l)).map λa=>⟨8,false,0,[],0,ks,a,[]⟩) none
  |none=>none) none
 |none=>none
def x1(f:vl)(x:aj)(p:aq):ag ab:=match im p with
 |some l=>(match cO (eO f l) x.af with
  |some a=>ite (l.all (gm x)) (some ⟨5,false,0,[],0,[],a,ft x l⟩) none
  |none=>none)
 |none=>none
def lS(f:vl)(x:aj)(p:aq):ag ab:=
 if x.ae=1 then BW p else if x.ae=2 then BX x p else if x.ae=3 then BY x p else if x.ae=4 then BZ x p else if x.ae=9 then vb f x p else if x.ae=6 then B0 f x p else if x.ae=7 then va f x p else if x.ae=8 then B1 f x p else x1 f x p
theorem J8(t:Int)(p:aq):dd ts 0 t p=none:=by rw[dd.eq_def]
theorem EH(n:Nat)(t:Int)(p:aq):dd ts (n+1) t p=lS (dd ts n) (ts.getD t.toNat aN) p:=by rfl
theorem gg.eta(h:gg ts b1 b2 so o a):
 gg ts b1 b2 so o (a>>=λr=>some (ab.eta r.1,r.2.1,r.2.2.1,r.2.2.2.1,r.2.2.2.2.1,r.2.2.2.2.2)):=by
 refine⟨λv c=>?_,λaI=>?_⟩;rw[h.1 v c];simp[ab.bI];obtain⟨w,f1,f2,e⟩:=h.2 aI;exact⟨w,f1,f2,by rw[e];simp[ab.bI]⟩
theorem gg.one(v:ab):gg ts b1 b2 so (some v) (some (v,true,ts,b1,b2,so)):=⟨λa h=>by cases h;rfl,λh=>by cases h⟩
theorem gg.cast{c:ag ab}(e:o=c)(h:gg ts b1 b2 so o a):gg ts b1 b2 so c a:=e▸h
theorem Qz{l:I df}{m:Nat}:(∃y,y∈l/\y.ai=(m:Int))↔(l.any λy=>(y.ai=(m:Int):J)):=by grind
theorem Ts(H:jo ts){n:Nat}(ih:yf ts n)(aa:x∈ts)(k7:x.ae=7)(ar:p.length<=4096)(m:so.length+(n+1)=200):
 gg ts b1 b2 so (va (dd ts n) x p) (Dt (x,p,ts,b1,b2,so)):=by
 obtain⟨o,i,j,k⟩:=uo (p:=p) (by omega);obtain⟨aJ,c⟩:=H.elem aa (by omega);rw[Dt,i];unfold va;simp only[aW,ay];by_cases h0:o.2=0
 . obtain⟨v1,v2,v3⟩:=j h0;rw[au (by simp[h0]),v1];dsimp only;by_cases b:(o.1.length:Int)<=x.Max
   . rw[ah b,dC];have d:∀q,q∈o.1->∀step b1 b2,gg ts b1 b2 so (dd ts n x.aF q) (ja (step,x.aF,q,ts,b1,b2,so)):=λq e step b1 b2=>
      wU (by omega) (ih x.aF q b1 b2 (so++[step]) aJ c (by have:=v2 q e;omega) (by simp;omega))
     obtain⟨bY,a⟩:=PV (x:=x) (l:=o.1) (by omega) d (z0:=0) (z1:=false) (z2:=0) (z3:=[]) (z4:=0) (a0:=x.ae) (a1:=false) (a2:=0) (a3:=[]) (a4:=0) (b1:=b1) (b2:=b2) o.1.length 0 [] (by omega) rfl;rw[eZ]at bY a;have z0:((0:Nat):Int)=0:=rfl;rw[z0]at bY a;cases hs:cO (dd ts n x.aF) o.1 with
     |none=>
      obtain⟨w,f1,f2,f⟩:=a hs;rw[f];exact⟨λv h=>by simp at h,λ_=>⟨_,_,_,rfl⟩⟩
     |some g=>
      rw[bY g hs];exact⟨λr h=>by grind,λh=>by simp at h⟩
   rw[au b,cJ];exact jS (by omega) _ _ _
 rw[ah (by simp[h0]),k h0];exact jS (by omega) _ _ _
theorem QA(H:jo ts):∀n,n<=200->yf ts n
 |0,_=>λt p b1 b2 so t0 t1 ar b=>by
  rw[py,cJ,J8];exact jS (by omega) _ _ _
 |n+1,aI=>λt p b1 b2 so t0 t1 ar b=>by
  have ih:=QA H n (by omega);obtain⟨j,rfl⟩:=C9 t0;have A:j<ts.length:=by omega
  rw[py,dC,ah (aY A),EH,bQ];have aa:=bA A aN;generalize ts.getD j aN=x at*;obtain⟨X,Y⟩:=H.S.K x aa;have N:x.bc.length<9223372036854775807:=eI (iw (H.S.T x aa).1);unfold lS;simp only[aW,ay];obtain⟨u,C,D,E⟩:=agc p;by_cases k1:x.ae=1
  . rw[ah k1,ah (show (x.ae=1:J) by simpa using k1)];unfold BW;by_cases h0:p=[]
    rw[ah h0,au (by simp[h0]),k1,h0];exact .one _
    . by_cases h1:p=[1]
      rw[au h0,ah h1,au (by simp[h1]),k1,h1];exact .one _;rw[au h0,au h1,ah (by simp[h0,h1])];exact jS (by omega) _ _ _
  rw[au k1,au (show ¬(x.ae=1:J)=true by simpa using k1)];by_cases k2:x.ae=2
  . rw[ah k2,ah (show (x.ae=2:J) by simpa using k2),C];unfold BX;simp only[ay];by_cases h0:u.2=0
    . obtain⟨m,d,o⟩:=D h0;rw[d,o,ag6 (Bc d),au (by simp[h0])];simp only[ay];by_cases a:x.br<=ga m/\ga m<=x.bB
      rw[ah a,dC,k2];exact .one _;rw[au a,cJ];exact jS (by omega) _ _ _
    rw[E h0,ah (by simp[h0])];exact jS (by omega) _ _ _
  rw[au k2,au (show ¬(x.ae=2:J)=true by simpa using k2)];by_cases k3:x.ae=3
  . rw[ah k3,ah (show (x.ae=3:J) by simpa using k3)];unfold BY;by_cases a:(p.length:Int)<=x.Max
    rw[ah a,dC,k3];exact .one _;rw[au a,cJ];exact jS (by omega) _ _ _
  rw[au k3,au (show ¬(x.ae=3:J)=true by simpa using k3)];by_cases k4:x.ae=4
  . rw[ah k4,ah (show (x.ae=4:J) by simpa using k4),C];unfold BZ;simp only[ay];by_cases h0:u.2=0
    . obtain⟨m,d,o⟩:=D h0;rw[d,o];dsimp only;by_cases a:1<=m/\m<=1000
      . obtain⟨q,R,_,U⟩:=rz (t:=x) (m:Int) N;have e:da .i64 (m:Int)=(m:Int):=lk;rw[au (show ¬(bif bif !(u.2=0:J)then true else ((m:Int)<1:J)then true else (1000<(m:Int):J))=true by simp[h0];omega),e,R];simp only[ay];have M:q.2=(x.bc.any λy=>(y.ai=(m:Int):J)):=by
         have:=(E' U).trans Qz;grind
        rw[M,k4];by_cases s:((x.bc.any λy=>(y.ai=(m:Int):J))||x.bt)=true
        . rw[ah (show 1<=m/\m<=1000/\((x.bc.any λy=>(y.ai=(m:Int):J))||x.bt)=true from⟨a.1,a.2,s⟩),au]
          exact .one _;grind
        . rw[au (show ¬(1<=m/\m<=1000/\((x.bc.any λy=>(y.ai=(m:Int):J))||x.bt))fromλh=>s h.2.2),ah]
          exact jS (by omega) _ _ _;grind
      rw[au (show ¬(1<=m/\m<=1000/\((x.bc.any λy=>(y.ai=(m:Int):J))||x.bt))fromλh=>a ⟨h.1,h.2.1⟩),ah (by simp[h0];omega)];exact jS (by omega) _ _ _
    rw[E h0,ah (by simp[h0])];exact jS (by omega) _ _ _
  rw[au k4,au (show ¬(x.ae=4:J)=true by simpa using k4)];by_cases k9:x.ae=9
  . rw[ah k9,ah (show (x.ae=9:J) by simpa using k9)];obtain⟨aJ,I⟩:=H.elem aa (by omega);cases p with
    |nil=>
     rw[j1,vb,k9];exact .one _
    |cons c q=>
     have ak:(c::q).length=q.length+1:=rfl;have P:aE 0 (c::q).length:=aY (k:=0) (by simp);have b0:gj (c::q) 0=(c.toNat:Int):=rfl;have nJ:fy 1 ((c::q).length:Int) (c::q).length:=jx.2 (by simp<;>omega);have G:gG (c::q) 1 ((c::q).length:Int)=q:=by
      unfold gG;simp
     rw[cq,ah P,b0,vb];by_cases g:c=1
     . subst g;rw[ah rfl,cq,ah nJ,G];have z:=wU (step:=0) (so:=so) (by omega) (ih x.aF q b1 b2 (so++[0]) aJ I (by simp at ar;omega) (by simp;omega));cases B:dd ts n x.aF q with
       |none=>
        obtain⟨w,f1,f2,O⟩:=z.2 B;rw[O];exact⟨λv h=>by simp at h,λ_=>⟨_,_,_,rfl⟩⟩
       |some v=>
        rw[z.1 v B]
        exact⟨λV h=>by
         have:V=⟨9,false,0,[],0,[],[v],[]⟩:=(by simpa using h.symm);rw[this]
         simp[ab.bI,k9],λh=>by simp at h⟩
     have L:¬((c.toNat:Int)=1):=λh=>g (UInt8.toNat.inj (by show c.toNat=1;omega));rw[au g,ah (by simpa using L)];exact jS (by omega) _ _ _
  rw[au k9,au (show ¬(x.ae=9:J)=true by simpa using k9)];by_cases k6:x.ae=6;rw[ah k6,ah (show (x.ae=6:J) by simpa using k6)];refine gg.eta (gg.cast ?_ (ae0 H.S ih aa k6 (λm i=>H.mem aa i) ar b));rfl;rw[au k6,au (show ¬(x.ae=6:J)=true by simpa using k6)];by_cases k7:x.ae=7;rw[ah k7,ah (show (x.ae=7:J) by simpa using k7)];exact gg.eta (Ts H ih aa k7 ar b);rw[au k7,au (show ¬(x.ae=7:J)=true by simpa using k7)];by_cases k8:x.ae=8;rw[ah k8,ah (show (x.ae=8:J) by simpa using k8)];refine gg.eta (gg.cast ?_ (agk ih k8 (H.key aa k8) (H.elem aa (by omega)) ar b));rfl
  rw[au k8,au (show ¬(x.ae=8:J)=true by simpa using k8)];have k5:x.ae=5:=by omega
  obtain⟨F,f⟩:=ada H.S H.W ih aa k5 (λm i=>H.mem aa i) ar (b1:=b1) (b2:=b2) b;refine gg.eta ?_;unfold x1;cases ak:im p with
  |none=>exact⟨λv h=>(by cases h),λ_=>f (.inl ak)⟩
  |some l=>
   dsimp only;cases hs:cO (eO (dd ts n) l) x.af with
   |none=>exact⟨λv h=>(by cases h),λ_=>f (.inr ⟨l,ak,.inl hs⟩)⟩
   |some Q=>
    dsimp only;cases r:l.all (gm x)with
    |true=>exact⟨λv h=>(by cases h;exact F l ak Q hs r),λh=>(by cases h)⟩
    |false=>exact⟨λv h=>(by cases h),λ_=>f (.inr ⟨l,ak,.inr r⟩)⟩
end
def fT(o:ag ab)(r:ag c2):Prop:=(∀v,o=some v->∃F,r=some ⟨v,F,true⟩)/\(o=none->∃F,r=some ⟨j9,F,false⟩)
theorem AR(ar:so.length<=1000)(a:Int):hC (so,a)=some ⟨j9,⟨so,a⟩,false⟩:=by rw[hC,ah (ef (by simp) (by grind))];rfl
theorem nI(ar:so.length<=1000)(step:Int):me (so,step)=some (so++[step]):=by
 rw[me,ah (ef (by simp) (by grind))];simp only[aW,ay,jE];rw[ah (ef (by simp) (by grind))]
theorem jv(ar:so.length<=1000)(a:Int):fT none (hC (so,a)>>=λr=>some (⟨ab.eta r.bX,r.dZ,r.cA⟩:c2)):=by
 rw[AR ar];exact⟨λv h=>(by grind),λ_=>⟨_,rfl⟩⟩
theorem fT.eta{o:ag ab}{a:ag c2}(h:fT o a):fT o (a>>=λr=>some (⟨ab.eta r.bX,r.dZ,r.cA⟩:c2)):=by
 refine⟨λv c=>?_,λaI=>?_⟩;obtain⟨F,bK⟩:=h.1 v c;grind[ab.bI];obtain⟨F,bK⟩:=h.2 aI;exact⟨F,by rw[bK];rfl⟩
theorem u7(v:ab):od v=some ⟨v,⟨[],0⟩,true⟩:=by rw[od,ab.bI]
theorem fT.one(v:ab):fT (some v) (od v>>=λr=>some (⟨ab.eta r.bX,r.dZ,r.cA⟩:c2)):=by
 rw[u7];exact⟨λa h=>(by simp_all[ab.bI]),λh=>(by grind)⟩
section
variable {ts:I aj}
def lX(ts:I aj)(o:ag ab)(L:Int)(so:az)(t:Int)(q:aq)(step:Int):Prop:=
 fT o (me (so,step)>>=λr=>jO ((⟨ts⟩:aT),t,q,a' .i64 L 1,r))
theorem lX.yes{step:Int}(h:lX ts o L so t q step)(ar:so.length<=1000)(a:o=some v):∃F,jO ((⟨ts⟩:aT),t,q,a' .i64 L 1,so++[step])=some ⟨v,F,true⟩:=by
 unfold lX at h;rw[nI ar]at h;exact h.1 v a
theorem lX.no{step:Int}(h:lX ts o L so t q step)(ar:so.length<=1000)(a:o=none):∃F,jO ((⟨ts⟩:aT),t,q,a' .i64 L 1,so++[step])=some ⟨j9,F,false⟩:=by
 unfold lX at h;rw[nI ar]at h;exact h.2 a
theorem VQ {x:aj}{so:az}(n:so.length<=900){f:aq->ag ab}{l:I aq}(ak:l.length<=90000){L:Int}(h:∀q,q∈l->∀step,lX ts (f q) L so x.aF q step)
 {z0 z2 z4 z5 z7 z9 z11:Int}{z1 z6 z8:J}{z3 z10:aq}:∀(k i:Nat) (acc:I ab),i+k=l.length->acc.length=i->
 (∀m,cO f (l.drop i)=some m->th (L,so,l,(i:Int),ts,x,z0,z1,z2,z3,z4,z5,z6,z7,z8,z9,z10,z11,acc)=some (.inr (z0,z1,z2,z3,z4,z5,z6,z7,z8,z9,z10,z11,acc++m)))/\
 (cO f (l.drop i)=none->∃F,th (L,so,l,(i:Int),ts,x,z0,z1,z2,z3,z4,z5,z6,z7,z8,z9,z10,z11,acc)=some (.inl ⟨j9,F,false⟩))
 |0,i,acc,j,g=>by
  rw[th,au (by grind),fx (by omega),cO];simp
 |k+1,i,acc,j,g=>by
  have aD:i<l.length:=by omega
  have c:=h _ (bA aD []) (i:Int);have e:l.drop i=l.getD i []::l.drop (i+1):=by simp_all
  rw[th,ah (by grind),ah (aY aD),bQ,e,Av,nI (by omega)];simp only[aW,ay];cases d:f (l.getD i [])with
  |none=>
   obtain⟨F,b⟩:=c.no (by omega) d;rw[b];exact⟨λm a=>(by cases a),λ_=>⟨F,by rfl⟩⟩
  |some v=>
   obtain⟨F,b⟩:=c.yes (by omega) d;rw[b];simp only[ay,ab.bI,dc];rw[cq,ah (ef (by simp) (by grind)),bN];obtain⟨r,o⟩:=VQ n ak h (z0:=z0) (z1:=z1) (z2:=z2) (z3:=z3) (z4:=z4) (z5:=z5) (z6:=z6) (z7:=z7) (z8:=z8) (z9:=z9) (z10:=z10) (z11:=z11) k (i+1) (acc++[v]) (by omega) (by grind);cases hs:cO f (l.drop (i+1))with
   |none=>exact⟨λm a=>(by cases a),λ_=>o hs⟩
   |some p=>
    refine⟨λm a=>?_,λh=>(by cases h)⟩;have:m=v::p:=(by cases a;rfl);grind
theorem CO{i:Nat}(h:i<1000000:=by omega):fH .i64 2 (i:Int)=((2*i:Nat):Int):=by
 exact lk
theorem VP {x:aj}{so:az}(i:so.length<=900){f:aq->ag ab}{l:I aq}(ak:l.length<=90000){L:Int}(h:∀q,q∈l->∀step,lX ts (f q) L so x.aR q step)
 {z0 z2 z4 z5 z7 z9 z11:Int}{z1 z6 z8:J}{z3 z10:aq}:∀(k j:Nat) (acc:I ab),2*(j+k)=l.length->acc.length=j->
 (∀m,cO f (e9 (l.drop (2*j)))=some m->td (L,so,l,(j:Int),ts,x,z0,z1,z2,z3,z4,z5,z6,z7,z8,z9,z10,z11,acc)=some (.inr (L,so,l,ts,x,z0,z1,z2,z3,z4,z5,z6,z7,z8,z9,z10,z11,acc++m)))/\
 (cO f (e9 (l.drop (2*j)))=none->∃F,td (L,so,l,(j:Int),ts,x,z0,z1,z2,z3,z4,z5,z6,z7,z8,z9,z10,z11,acc)=some (.inl ⟨j9,F,false⟩))
 |0,j,acc,g,e=>by
  rw[td,CO,au (by grind),fx (by omega),show e9 ([]:I aq)=[]from rfl,cO];simp
 |k+1,j,acc,g,e=>by
  have aD:2*j<l.length:=by omega
  have c:=h _ (bA aD []) (j:Int);rw[td,CO,ah (by grind)];simp only[aW,ay];rw[ah (aY aD),bQ,MZ (by omega) [],Av,nI (by omega)];simp only[ay];cases d:f (l.getD (2*j) [])with
  |none=>
   obtain⟨F,b⟩:=c.no (by omega) d;rw[b];exact⟨λm a=>(by cases a),λ_=>⟨F,by rfl⟩⟩
  |some v=>
   obtain⟨F,b⟩:=c.yes (by omega) d;rw[b];simp only[ay,ab.bI,dc];rw[cq,ah (ef (by simp) (by grind)),bN];obtain⟨p,n⟩:=VP i ak h (z0:=z0) (z1:=z1) (z2:=z2) (z3:=z3) (z4:=z4) (z5:=z5) (z6:=z6) (z7:=z7) (z8:=z8) (z9:=z9) (z10:=z10) (z11:=z11) k (j+1) (acc++[v]) (by omega) (by grind);cases hs:cO f (e9 (l.drop (2*(j+1))))with
   |none=>exact⟨λm a=>(by cases a),λ_=>n hs⟩
   |some o=>
    refine⟨λm a=>?_,λh=>(by cases h)⟩;have:m=v::o:=(by cases a;rfl);grind
theorem Sh {x:aj}{so:az}(i:so.length<=900){f:aq->ag ab}{l:I aq}(ak:l.length<=90000){L:Int}(h:∀q,q∈l->∀step,lX ts (f q) L so x.aF q step)
 {z0 z2 z4 z5 z7 z9 z11:Int}{z1 z6 z8:J}{z3 z10:aq}{ks:I ab}:∀(k j:Nat) (acc:I ab),2*(j+k)=l.length->acc.length=j->
 (∀m,cO f (fO (l.drop (2*j)))=some m->tE (L,so,l,(j:Int),ts,x,z0,z1,z2,z3,z4,z5,z6,z7,z8,z9,z10,z11,ks,acc)=some (.inr (z0,z1,z2,z3,z4,z5,z6,z7,z8,z9,z10,z11,ks,acc++m)))/\
 (cO f (fO (l.drop (2*j)))=none->∃F,tE (L,so,l,(j:Int),ts,x,z0,z1,z2,z3,z4,z5,z6,z7,z8,z9,z10,z11,ks,acc)=some (.inl ⟨j9,F,false⟩))
 |0,j,acc,g,e=>by
  rw[tE,CO,au (by grind),fx (by omega),show fO ([]:I aq)=[]from rfl,cO];simp
 |k+1,j,acc,g,e=>by
  have aD:2*j+1<l.length:=by omega
  have c:=h _ (bA aD []) (j:Int);have aJ:a' .i64 ((2*j:Nat):Int) 1=((2*j+1:Nat):Int):=bN;rw[tE,CO,ah (by grind),aJ];simp only[aW,ay];rw[ah (aY aD),bQ,N7 aD [],Av,nI (by omega)];simp only[ay];cases d:f (l.getD (2*j+1) [])with
  |none=>
   obtain⟨F,b⟩:=c.no (by omega) d;rw[b];exact⟨λm a=>(by cases a),λ_=>⟨F,by rfl⟩⟩
  |some v=>
   obtain⟨F,b⟩:=c.yes (by omega) d;rw[b];simp only[ay,ab.bI,dc];rw[cq,ah (ef (by simp) (by grind)),bN];obtain⟨p,n⟩:=Sh i ak h (z0:=z0) (z1:=z1) (z2:=z2) (z3:=z3) (z4:=z4) (z5:=z5) (z6:=z6) (z7:=z7) (z8:=z8) (z9:=z9) (z10:=z10) (z11:=z11) (ks:=ks) k (j+1) (acc++[v]) (by omega) (by grind);cases hs:cO f (fO (l.drop (2*(j+1))))with
   |none=>exact⟨λm a=>(by cases a),λ_=>n hs⟩
   |some o=>
    refine⟨λm a=>?_,λh=>(by cases h)⟩;have:m=v::o:=(by cases a;rfl);grind
theorem VH{x:aj}(ar:so.length<=1000){l:I aq}(a:∀y,y∈ks->ej y.bE)(ak:ks.length<=90000){L:Int}
 {z0 z2 z4 z5 z7 z9 z11:Int}{z1 z6 z8:J}{z3 z10:aq}:∀(k i:Nat),ks.length-(i+1)=k->
 ((∀m,i<=m->m+1<ks.length->iF (ks.getD m aM) (ks.getD (m+1) aM)<0)/\q4 (L,so,l,((i+1:Nat):Int),ts,x,z0,z1,z2,z3,z4,z5,z6,z7,z8,z9,z10,z11,ks)=some (.inr (L,so,l,ts,x,z0,z1,z2,z3,z4,z5,z6,z7,z8,z9,z10,z11,ks)))\/
 ((∃m,m+1<ks.length/\¬iF (ks.getD m aM) (ks.getD (m+1) aM)<0)/\∃F,q4 (L,so,l,((i+1:Nat):Int),ts,x,z0,z1,z2,z3,z4,z5,z6,z7,z8,z9,z10,z11,ks)=some (.inl ⟨j9,F,false⟩))
 |0,i,b=>by
  rw[q4,au (by grind)];grind
 |k+1,i,b=>by
  have aD:i+1<ks.length:=by omega
  have aJ:dD .i64 ((i+1:Nat):Int) 1=(i:Int):=by grind[pk]
  rw[q4,ah (by grind),aJ];simp only[aW,ay];rw[ah (fU),ah (by grind),ah (aY aD),ah (by grind),bQ,bQ];simp only[ab.bI];rw[AD (a _ (bA (by omega) aM)) (a _ (bA aD aM))];simp only[ay];by_cases d:iF (ks.getD i aM) (ks.getD (i+1) aM)<0
  . rw[au (by grind),bN];rcases VH ar a ak (x:=x) (l:=l) (L:=L) (z0:=z0) (z1:=z1) (z2:=z2) (z3:=z3) (z4:=z4) (z5:=z5) (z6:=z6) (z7:=z7) (z8:=z8) (z9:=z9) (z10:=z10) (z11:=z11) k (i+1) (by omega)with⟨h1,c⟩|h
    grind;grind
  rw[ah (by grind),AR ar];grind
theorem ag8{l:I cY}(id:Int)(ak:l.length<=90000):(∃j,j<l.length/\l.find? (λf=>(f.ai=id:J))=some (l.getD j dz)/\Aj (l,id)=some (j:Int))\/
 (l.find? (λf=>(f.ai=id:J))=none/\Aj (l,id)=some (-1)):=by
 have h:=ud (λi=>tf (l,id,(i:Int))) l.length (λi=>((l.getD i dz).ai=id:J)) _ (.inr ())
  (λi b=>by
   rw[tf,ah (by grind),ah (aY b),bN]
   rfl)
  (by simp_all[tf,au])
 rw[Aj];rcases h with⟨j,h1,c,d,a⟩|⟨h1,a⟩;left;grind[fM,List.find?_eq_some_iff_getElem];grind[List.find?_eq_none,List.getElem_of_mem,fM]
theorem VS {x:aj}{so:az}(D:so.length<=900){f:Int->aq->ag ab}{l:I cY}(ak:l.length<=90000)(y:x.af.length<=16){L:Int}
 (h:∀m,m∈x.af->∀q,q∈l->∀step,lX ts (f m.aC q.bT) L so m.aC q.bT step)
 {z0 z2 z4 z5 z7 z9 z11:Int}{z1 z6 z8:J}{z3 z10:aq}:∀(k i:Nat) (acc:I ab),i+k=x.af.length->acc.length=i->
 (∀m,cO (eO f l) (x.af.drop i)=some m->nx (L,so,l,(i:Int),ts,x,z0,z1,z2,z3,z4,z5,z6,z7,z8,z9,z10,z11,acc)=some (.inr (so,l,x,z0,z1,z2,z3,z4,z5,z6,z7,z8,z9,z10,z11,acc++m)))/\
 (cO (eO f l) (x.af.drop i)=none->∃F,nx (L,so,l,(i:Int),ts,x,z0,z1,z2,z3,z4,z5,z6,z7,z8,z9,z10,z11,acc)=some (.inl ⟨j9,F,false⟩))
 |0,i,acc,B,A=>by
  rw[nx,au (by grind),fx (by omega),cO];simp
 |k+1,i,acc,B,A=>by
  have aD:i<x.af.length:=by omega
  have C:=bA aD aH;have e:x.af.drop i=x.af.getD i aH::x.af.drop (i+1):=by simp_all
  have go:∀v,(∀n,cO (eO f l) (x.af.drop (i+1))=some n->nx (L,so,l,((i+1:Nat):Int),ts,x,z0,z1,z2,z3,z4,z5,z6,z7,z8,z9,z10,z11,acc++[v])=some (.inr (so,l,x,z0,z1,z2,z3,z4,z5,z6,z7,z8,z9,z10,z11,acc++[v]++n)))/\(cO (eO f l) (x.af.drop (i+1))=none->∃F,nx (L,so,l,((i+1:Nat):Int),ts,x,z0,z1,z2,z3,z4,z5,z6,z7,z8,z9,z10,z11,acc++[v])=some (.inl ⟨j9,F,false⟩)):=λv=>
   VS D ak y h k (i+1) (acc++[v]) (by omega) (by grind)
  rw [nx,ah (by simp_all),ah (aY aD),bQ,e,Av];simp only [aW,ay];generalize x.af.getD i aH = a at *;have w:∀ (v:ab) (d:ag _),eO f l a = some v->d = nx (L,so,l,((i+1:Nat):Int),ts,x,z0,z1,z2,z3,z4,z5,z6,z7,z8,z9,z10,z11,acc++[v])->
   (∀m,yr (eO f l a) (cO (eO f l) (x.af.drop (i+1)))=some m->d=some (.inr (so,l,x,z0,z1,z2,z3,z4,z5,z6,z7,z8,z9,z10,z11,acc++m)))/\
   (yr (eO f l a) (cO (eO f l) (x.af.drop (i+1)))=none->∃F,d=some (.inl ⟨j9,F,false⟩)):=by
   intro v d c z;obtain⟨g1,g2⟩:=go v;rw[c,z];cases hs:cO (eO f l) (x.af.drop (i+1))with
   |none=>exact⟨λm b=>(by cases b),λ_=>g2 hs⟩
   |some n=>
    refine⟨λm b=>?_,λh=>(by cases h)⟩;have:m=v::n:=(by cases b;rfl);grind
  rcases ag8 a.ai ak with⟨j,u,g,r⟩|⟨g,r⟩
  . rw[r];simp only[ay];rw[cq,ah (aY u),bQ,nI (by omega)];have s:=h a C _ (bA u dz) a.ai;have o:eO f l a=f a.aC (l.getD j dz).bT:=by unfold eO;rw[g]
    simp only[ay];cases c:f a.aC (l.getD j dz).bT with
    |none=>
     obtain⟨F,p⟩:=s.no (by omega) c;rw[p,o,c];exact⟨λm b=>(by cases b),λ_=>⟨F,by rfl⟩⟩
    |some v=>
     obtain⟨F,p⟩:=s.yes (by omega) c;rw[p];simp only[ay,ab.bI,dc];rw[cq,ah (ef (by simp)),bN];grind
  . rw[r];simp only[ay];cases t:a.bH with
    |true=>
     simp only[ab.bI];rw[ah (ef),bN];exact w a.bm _ (by unfold eO;rw[g];simp[t]) rfl
    |false=>
     have o:eO f l a=none:=by unfold eO;rw[g];simp[t]
     rw[ah (by rfl),nI (by omega),o];simp only[ay];rw[AR (by simp;omega)];exact⟨λm b=>(by cases b),λ_=>⟨_,rfl⟩⟩
theorem aki(e:x.af.length<=1000)(id:Int):∃r,gD (x,id)=some r/\r.2=(cw x.af id).isSome:=by
 obtain⟨r,d,a⟩:=En (t:=x) (by omega);refine⟨r,d,?_⟩;cases bK:cw _ id with
 |some m=>
  obtain⟨f,g⟩:=kp bK;rcases a with⟨j,b,c,_,rfl⟩|⟨q,_⟩;rfl;grind[List.getElem_of_mem]
 |none=>
  rcases a with⟨j,b,c,_,_⟩|⟨_,q⟩;grind[mi,bA];grind
theorem Hu {x:aj}{so:az}(d:so.length<=900)(b:x.af.length<=1000){l:I cY}(ak:l.length<=90000)
 {z0 z2 z4 z5 z7 z9 z11:Int}{z1 z6 z8:J}{z3 z10:aq}{its:I ab}:∀(k i:Nat) (acc:I ch),i+k=l.length->acc.length<=i->
 ((l.drop i).all (gm x)->pC (so,l,(i:Int),x,z0,z1,z2,z3,z4,z5,z6,z7,z8,z9,z10,z11,its,acc)=some (.inr (z0,z1,z2,z3,z4,z5,z6,z7,z8,z9,z10,z11,its,acc++ft x (l.drop i))))/\
 ((l.drop i).all (gm x)=false->∃F,pC (so,l,(i:Int),x,z0,z1,z2,z3,z4,z5,z6,z7,z8,z9,z10,z11,its,acc)=some (.inl ⟨j9,F,false⟩))
 |0,i,acc,n,j=>by
  rw[pC,au (by grind),fx (by omega)];grind[ft]
 |k+1,i,acc,n,j=>by
  have aD:i<l.length:=by omega
  have e:l.drop i=l.getD i dz::l.drop (i+1):=by simp_all
  obtain⟨r,o,g⟩:=aki b (l.getD i dz).ai;rw[pC,ah (by grind),ah (aY aD),bQ,e];simp only[aW,ay];generalize l.getD i dz=f at*;rw[o];simp only[ay];have m:(f::l.drop (i+1)).all (gm x)=(gm x f&&(l.drop (i+1)).all (gm x)):=rfl;rw[m];cases hs:(cw x.af f.ai).isSome with
  |true=>
   have a:gm x f:=(by grind[gm]);have c:ft x (f::l.drop (i+1))=ft x (l.drop (i+1)):=(by grind[ft,List.filter_cons_of_neg]);rw[g,hs,ah rfl,a,c,bN,ig];exact Hu d b ak k (i+1) acc (by omega) (by omega)
  |false=>
   rw[g,hs,cq,ah (aY aD)];cases p:f.b4 with
   |true=>
    have a:gm x f=false:=(by grind[gm]);rw[ah rfl,ah (aY aD),nI (by omega),a];simp only[ay];rw[AR (by grind)];exact⟨λh=>(by grind),λ_=>⟨_,rfl⟩⟩
   |false=>
    have a:gm x f:=(by grind[gm]);have c:ft x (f::l.drop (i+1))=⟨f.ai,f.bT⟩::ft x (l.drop (i+1)):=(by grind[ft,List.filter_cons_of_pos]);rw[cq,ah (aY aD),ah (aY aD),ah (ef (by simp) (by grind)),a,c,bN,ig];have:=Hu d b ak (z0:=z0) (z1:=z1) (z2:=z2) (z3:=z3) (z4:=z4) (z5:=z5) (z6:=z6) (z7:=z7) (z8:=z8) (z9:=z9) (z10:=z10) (z11:=z11) (its:=its) k (i+1) (acc++[⟨f.ai,f.bT⟩]) (by omega) (by grind);grind
def o8(ts:I aj)(n:Nat):Prop:=∀(t:Int) (p:aq) (so:az),0<=t->t<ts.length->p.length<=4096->so.length+n<=200->
 fT (dd ts n t p) (jO ((⟨ts⟩:aT),t,p,((201-n:Nat):Int),so))
theorem o8.part{n:Nat}(ih:o8 ts n)(aI:n+1<=200)(t0:0<=t/\t<ts.length)(a:q.length<=4096)(ar:so.length+(n+1)<=200)(step:Int):
 lX ts (dd ts n t q) ((201-(n+1):Nat):Int) so t q step:=by
 unfold lX;rw[nI (by omega)];have e:a' .i64 (201-(n+1):Nat) 1=(201-n:Nat):=by grind[mS]
 rw[e];exact ih t q _ t0.1 t0.2 a (by grind)
theorem fT.cast{c:ag ab}{a:ag c2}(e:o=c)(h:fT o a):fT c a:=e▸h
theorem fT.sn{a:ag c2}(h:a=some ⟨j9,F,false⟩):fT none a:=⟨λv h=>(by grind),λ_=>⟨F,h⟩⟩
theorem fT.xU{a:ag c2}(h:a=some ⟨v,F,true⟩):fT (some v) a:=⟨λe c=>(by grind),λh=>(by grind)⟩
theorem ag9(H:jo ts){n:Nat}(aI:n+1<=200)(ih:o8 ts n)(aa:x∈ts)(k6:x.ae=6)(ar:p.length<=4096)(i:so.length+(n+1)<=200):
 fT (B0 (dd ts n) x p) (DE ((⟨ts⟩:aT),x,p,((201-(n+1):Nat):Int),so)):=by
 have⟨o,_,u,w,D⟩:=O3 p;rw[DE,u];simp only[aW,ay];unfold B0;by_cases h0:o.2.2=0
 . have⟨v1,v2,v3⟩:=w h0;have⟨g,z⟩:=H.S.A x aa (.inr k6);rw[au (by grind),v1];have⟨r,y,f⟩:=En (t:=x) (id:=o.1) (by omega);rw[y];simp only[ay];cases bK:cw x.af o.1 with
   |some m=>
    dsimp only;have⟨e,C⟩:=kp bK;rcases f with⟨j,a,l,_,rfl⟩|⟨q,_⟩
    . have s:x.af.getD j aH=m:=uq g (bA a aH) e (by grind);rw[cq,cq,ah (aY a),bQ,s];have b:=ih.part aI (t:=m.aC) (q:=o.2.1) (so:=so) (H.mem aa e) (by omega) i o.1;rw[nI (by omega)];simp only[ay];cases c:dd ts n m.aC o.2.1 with
      |none=>
       have⟨F,d⟩:=b.no (by omega) c;rw[d];exact .sn rfl
      |some v=>
       have⟨F,d⟩:=b.yes (by omega) c;simp_all[ay,au,u7,fT.cast,fT.xU,ab.bI]
    grind[List.getElem_of_mem,fM]
   |none=>
    have k:r=(0,false):=by
     rcases f with⟨j,a,l,_,_⟩|⟨_,q⟩;grind[mi,bA];grind
    rw[k];cases B:x.bt with
    |false=>
     exact jv (by omega) _
    |true=>
     simp_all[ah,au,u7,fT.xU,ab.bI]
 grind[jv]
theorem ag'(H:jo ts){n:Nat}(aI:n+1<=200)(ih:o8 ts n)(aa:x∈ts)(k7:x.ae=7)(ar:p.length<=4096)(c:so.length+(n+1)<=200):
 fT (va (dd ts n) x p) (Dk ((⟨ts⟩:aT),x,p,((201-(n+1):Nat):Int),so)):=by
 have⟨o,_,e,g,k⟩:=Fa (p:=p) (by omega);rw[Dk,e];unfold va;simp only[aW,ay];by_cases h0:o.2=0
 . have⟨v1,v2,v3⟩:=g h0;rw[v1];dsimp only;by_cases b:(o.1.length:Int)<=x.Max
   . rw[ah b,au (by grind),au (by grind)];have⟨bY,a⟩:=VQ (ts:=ts) (x:=x) (so:=so) (by omega) (f:=dd ts n x.aF) (l:=o.1) (by omega) (λq i step=>ih.part aI (H.elem aa (by omega)) (by grind) c step)
      (z0:=0) (z1:=false) (z2:=0) (z3:=[]) (z4:=0) (z5:=0) (z6:=false) (z7:=x.ae) (z8:=false) (z9:=0) (z10:=[]) (z11:=0) o.1.length 0 [] (by simp) rfl
     have z0:((0:Nat):Int)=0:=rfl;rw[z0]at bY a;cases hs:cO (dd ts n x.aF) o.1 with
     |none=>
      have⟨F,d⟩:=a hs;rw[d];exact .sn rfl
     |some j=>
      simp_all[ay,u7,fT.cast,fT.xU,ab.bI,k7]
   grind[jv]
 grind[jv]
theorem akc(H:jo ts){n:Nat}(aI:n+1<=200)(ih:o8 ts n)(aa:x∈ts)(k8:x.ae=8)(ar:p.length<=4096)(j:so.length+(n+1)<=200):
 fT (B1 (dd ts n) x p) (DR ((⟨ts⟩:aT),x,p,((201-(n+1):Nat):Int),so)):=by
 have⟨o,_,B,C,I⟩:=Fa (p:=p) (by omega);rw[DR,B];unfold B1;simp only[aW,ay];by_cases h0:o.2=0
 . have⟨v1,v2,v3⟩:=C h0;rw[v1];dsimp only;have v:f' (o.1.length:Int) 2=((o.1.length%2:Nat):Int):=(by rfl);rw[v,VG (by omega)];by_cases he:o.1.length%2=0
   . by_cases t:((o.1.length/2:Nat):Int)<=x.Max
     . rw[ah (show o.1.length%2=0/\((o.1.length/2:Nat):Int)<=x.Max from⟨he,t⟩),au (show ¬(bif !(o.2=0:J)then true else (((o.1.length%2:Nat):Int)=1:J))=true by grind),au (show ¬(x.Max<((o.1.length/2:Nat):Int):J)=true by grind)];have z0:((0:Nat):Int)=0:=rfl;have⟨bY,e⟩:=VP (ts:=ts) (x:=x) (so:=so) (by omega) (f:=dd ts n x.aR) (l:=o.1) (by omega) (L:=((201-(n+1):Nat):Int)) (λq u step=>ih.part aI (H.key aa k8) (by grind) j step)
        (z0:=0) (z1:=false) (z2:=0) (z3:=[]) (z4:=0) (z5:=0) (z6:=false) (z7:=x.ae) (z8:=false) (z9:=0) (z10:=[]) (z11:=0) (o.1.length/2) 0 [] (by omega) rfl
       rw[Nat.mul_zero,eZ,z0]at bY e;cases hs:cO (dd ts n x.aR) (e9 o.1)with
       |none=>
        have⟨F,d⟩:=e hs;rw[d];exact .sn rfl
       |some ks=>
        have E:=nk hs;have D:=J7 o.1;rw[bY ks hs];simp only[ay,jE];have s:∀y,y∈ks->ej y.bE:=λy al=>by
         have⟨a,_,a2⟩:=wV hs y al;exact PY a2
        have one:((0+1:Nat):Int)=1:=rfl;rcases VH (ts:=ts) (x:=x) (so:=so) (by omega) (l:=o.1) (ks:=ks) s (by omega) (L:=((201-(n+1):Nat):Int))
         (z0:=0) (z1:=false) (z2:=0) (z3:=[]) (z4:=0) (z5:=0) (z6:=false) (z7:=x.ae) (z8:=false) (z9:=0) (z10:=[]) (z11:=0) (ks.length-(0+1)) 0 rfl with⟨h1,b⟩|⟨⟨m,z,A⟩,F,b⟩
        . have c:pg ks:=wT.2 λi r=>h1 i (by simp) r;rw[one]at b;rw[b,ah c];simp only[ay];have⟨k,g⟩:=Sh (ts:=ts) (x:=x) (so:=so) (by omega) (f:=dd ts n x.aF) (l:=o.1) (by omega) (L:=((201-(n+1):Nat):Int)) (λq u step=>ih.part aI (H.elem aa (by omega)) (by grind) j step)
           (z0:=0) (z1:=false) (z2:=0) (z3:=[]) (z4:=0) (z5:=0) (z6:=false) (z7:=x.ae) (z8:=false) (z9:=0) (z10:=[]) (z11:=0) (ks:=ks) (o.1.length/2) 0 [] (by omega) rfl
          rw[Nat.mul_zero,eZ,z0]at k g;cases w:cO (dd ts n x.aF) (fO o.1)with
          |none=>
           have⟨F,d⟩:=g w;rw[d];exact .sn rfl
          |some G=>
           simp_all[u7,fT.cast,fT.xU,ab.bI]
        have c:¬pg ks:=λh=>A (wT.1 h m z);rw[one]at b;rw[b,au c];exact .sn rfl
     grind[jv]
   grind[jv]
 grind[jv]
theorem agl(H:jo ts){n:Nat}(aI:n+1<=200)(ih:o8 ts n)(aa:x∈ts)(k5:x.ae=5)(ar:p.length<=4096)(g:so.length+(n+1)<=200):
 fT (x1 (dd ts n) x p) (Dw ((⟨ts⟩:aT),x,p,((201-(n+1):Nat):Int),so)):=by
 have⟨k,r⟩:=H.S.A x aa (.inl k5);have⟨o,_,i,j,t⟩:=L2 (p:=p) (by omega);rw[Dw,i];unfold x1;simp only[aW,ay];by_cases h0:o.2=0
 . have⟨v1,v2,v3,v4⟩:=j h0;rw[au (by grind),v1];dsimp only;have⟨bY,b⟩:=VS (ts:=ts) (x:=x) (so:=so) (by omega) (f:=dd ts n) (l:=o.1) (by omega) (by omega) (λm e q s step=>ih.part aI (H.mem aa e) (by grind) g step)
    (z0:=0) (z1:=false) (z2:=0) (z3:=[]) (z4:=0) (z5:=0) (z6:=false) (z7:=x.ae) (z8:=false) (z9:=0) (z10:=[]) (z11:=0) x.af.length 0 [] (by simp) rfl
   have z0:((0:Nat):Int)=0:=rfl;rw[eZ,z0]at bY b;have B:=λits=>Hu (x:=x) (so:=so) (by omega) (by omega) (l:=o.1) (by omega) (z0:=0) (z1:=false) (z2:=0) (z3:=[]) (z4:=0) (z5:=0) (z6:=false) (z7:=x.ae) (z8:=false) (z9:=0) (z10:=[]) (z11:=0) (its:=its) o.1.length 0 [] (by simp) (ek _);rw[eZ,z0]at B;cases hs:cO (eO (dd ts n) o.1) x.af with
   |none=>
    have⟨F,a⟩:=b hs;rw[a];exact .sn rfl
   |some c=>
    rw[bY c hs];simp only[ay,jE];cases d:o.1.all (gm x)with
    |true=>
     simp_all[ah,ay,u7,fT.cast,fT.xU,ab.bI]
    |false=>
     have⟨F,a⟩:=(B c).2 d;rw[a,cq];exact .sn rfl
 grind[jv]
theorem ae2(H:jo ts){n:Nat}(aI:n+1<=200)(ih:o8 ts n):o8 ts (n+1):=λt p so t0 t1 ar d=>by
 obtain⟨j,rfl⟩:=C9 t0;have s:j<ts.length:=by omega
 have a:¬(200:Int)<((201-(n+1):Nat):Int):=by omega
 rw[jO,ah (aY s),EH,bQ];have aa:=bA s aN;generalize ts.getD j aN=x at*;obtain⟨P,Q⟩:=H.S.K x aa;have I:x.bc.length<9223372036854775807:=eI (iw (H.S.T x aa).1);unfold lS;obtain⟨u,_,O,A,B⟩:=I0 p;have w:zq p=some (u.1,(u.2=0:J)):=by rw[zq,O];rfl
 by_cases k1:x.ae=1
 . simp only[k1,a,fI,↓reduceIte,Int.reduceEq,ee,et,cx,aW,ay];unfold BW;by_cases h0:p=[]
   rw[ah h0,au (by simp[h0])];simp only[h0,dS,dc];exact .one _
   . by_cases h1:p=[1]
     rw[au h0,ah h1,au (by simp[h1])];simp only[h0,ee,eL];exact .one _;rw[au h0,au h1,ah (by simp[h0,h1])];exact jv (by omega) _
 by_cases k2:x.ae=2
 . simp only[k2,a,fI,↓reduceIte,Int.reduceEq,ee,et,cx,aW,ay,w];unfold BX;by_cases h0:u.2=0
   . obtain⟨m,f,l⟩:=A h0;rw[f,l,Se (Bc f),au (by simp[h0])];simp only[ay];by_cases b:x.br<=ga m/\ga m<=x.bB
     rw[ah b,dC];exact .one _;rw[au b,cJ];exact jv (by omega) _
   rw[B h0,ah (by simp[h0])];exact jv (by omega) _
 by_cases k3:x.ae=3
 . simp only[k3,a,fI,↓reduceIte,Int.reduceEq,ee,et,cx,aW,ay];unfold BY;by_cases b:(p.length:Int)<=x.Max
   rw[ah b,cb];exact .one _;rw[au b,jB];exact jv (by omega) _
 by_cases k4:x.ae=4
 . simp only[k4,a,fI,↓reduceIte,Int.reduceEq,ee,et,cx,aW,ay,w];unfold BZ;by_cases h0:u.2=0
   . obtain⟨m,f,l⟩:=A h0;rw[f,l];dsimp only;by_cases b:1<=m/\m<=1000
     . obtain⟨q,_,M,N⟩:=rz (t:=x) (m:Int) I;have e:da .i64 (m:Int)=(m:Int):=lk;rw[au (show ¬(bif bif !(u.2=0:J)then true else ((m:Int)<1:J)then true else (1000<(m:Int):J))=true by simp[h0];omega),e,M];simp only[ay];have G:q.2=(x.bc.any λy=>(y.ai=(m:Int):J)):=by
        have:=(E' N).trans Qz;grind
       rw[G];by_cases o:((x.bc.any λy=>(y.ai=(m:Int):J))||x.bt)=true
       . rw[ah (show 1<=m/\m<=1000/\((x.bc.any λy=>(y.ai=(m:Int):J))||x.bt)=true from⟨b.1,b.2,o⟩),au]
         exact .one _;grind
       . rw[au (show ¬(1<=m/\m<=1000/\((x.bc.any λy=>(y.ai=(m:Int):J))||x.bt))fromλh=>o h.2.2),ah]
         exact jv (by omega) _;grind
     rw[au (show ¬(1<=m/\m<=1000/\((x.bc.any λy=>(y.ai=(m:Int):J))||x.bt))fromλh=>b ⟨h.1,h.2.1⟩),ah (by simp[h0];omega)];exact jv (by omega) _
   rw[B h0,ah (by simp[h0])];exact jv (by omega) _
 by_cases k9:x.ae=9
 . obtain⟨aJ,D⟩:=H.elem aa (by omega);simp only[k9,a,fI,↓reduceIte,Int.reduceEq,ee,dS,et,fh,cx,aW,ay];cases p with
   |nil=>
    rw[cq,vb];exact .one _
   |cons c q=>
    have L:aE 0 (c::q).length:=aY (k:=0) (by simp);have b0:gj (c::q) 0=(c.toNat:Int):=rfl;have nJ:fy 1 ((c::q).length:Int) (c::q).length:=jx.2 (by simp<;>omega);have C:gG (c::q) 1 ((c::q).length:Int)=q:=by
     unfold gG;simp
    rw[j1,ah L,b0,vb];by_cases g:c=1
    . subst g;rw[ah rfl,cq,ah nJ,C];have r:=ih.part aI (t:=x.aF) (q:=q) (so:=so) ⟨aJ,D⟩ (by simp at ar;omega) d 0;rw[nI (by omega)];simp only[ay];cases z:dd ts n x.aF q with
      |none=>
       obtain⟨F,i⟩:=r.no (by omega) z;rw[i];exact .sn rfl
      |some v=>
       obtain⟨F,i⟩:=r.yes (by omega) z;rw[i];simp only[ay];rw[cq,u7];refine fT.cast rfl (fT.xU (F:=⟨[],0⟩) ?_);simp[ab.bI]
    have E:¬((c.toNat:Int)=1):=λh=>g (UInt8.toNat.inj (by show c.toNat=1;omega));rw[au g,ah (by simpa using E)];exact jv (by omega) _
 by_cases k6:x.ae=6;have:=(ag9 H aI ih aa k6 ar (so:=so) d).eta;simp only[k6,a,fI,↓reduceIte,Int.reduceEq,ee,et,cx,aW,ay];exact this;by_cases k7:x.ae=7;have:=(ag' H aI ih aa k7 ar (so:=so) d).eta;simp only[k7,a,fI,↓reduceIte,Int.reduceEq,ee,et,cx,aW,ay];exact this;by_cases k8:x.ae=8;have:=(akc H aI ih aa k8 ar (so:=so) d).eta;simp only[k8,a,fI,↓reduceIte,Int.reduceEq,ee,et,cx,aW,ay];exact this
 have k5:x.ae=5:=by omega
 have:=(agl H aI ih aa k5 ar (so:=so) d).eta;simp only[k5,a,fI,↓reduceIte,Int.reduceEq,ee,et,cx,aW,ay];exact this
theorem P0(H:jo ts):∀n,n<=200->o8 ts n
 |0,_=>λt p so t0 t1 ar b=>by
  obtain⟨j,rfl⟩:=C9 t0;have a:j<ts.length:=by omega
  rw[jO,ah (aY a)];simp only[aW,ay];rw[j1,J8];exact jv (by omega) _
 |n+1,aI=>ae2 H aI (P0 H n (by omega))
end
theorem agm(n:Nat):(fP (ga n)).toNat=n:=by
 unfold ga fP;omega
theorem QB:∀(k:Nat) (s:aq),s.length=k->s.head?≠some 0->ei (fX 0 s)=s
 |0,s,c,h=>by
  have:s=[]:=j3 c;subst this;rw[fX,ei,ah rfl]
 |k+1,s,c,h=>by
  have d:s≠[]:=λh0=>by rw[h0]at c;cases c
  have es:=List.dropLast_concat_getLast d;generalize s.getLast d=b at es;have ak:s.dropLast.length=k:=by simp[c]
  generalize s.dropLast=s' at es ak;subst es;have g:b.toNat<256:=C1 b;rw[Jx];by_cases h0:s'=[];subst h0;have f:b≠0:=λe=>h (by rw[e];rfl);have:b.toNat≠0:=λe=>f (UInt8.toNat.inj e);show ei (0*256+b.toNat)=[b];rw[ei,cb,show(0*256+b.toNat)/256=0 by omega,ei,ah rfl,show(0*256+b.toNat)%256=b.toNat by omega];simp
  . have ih:=QB k s' ak (λe=>h (by cases s' with|nil=>exact absurd rfl h0|cons a l=>simpa using e));have i:fX 0 s'≠0:=λe=>by rw[e,ei,ah rfl]at ih;exact h0 ih.symm
    rw[ei,cb,show(fX 0 s'*256+b.toNat)/256=fX 0 s' by omega,ih,show(fX 0 s'*256+b.toNat)%256=b.toNat by omega];simp
theorem P1{s:aq}{n:Nat}(h:gb s=some n):ei n=s:=by
 unfold gb at h;split at h;cases h;rename_i ad;cases h;exact QB _ s rfl (λe=>ad (.inl e))
theorem Si(s:aq):∀(f i n m k:Nat),hR s f i n=((m:Int),(k:Int),0)->∃q,m=n+q*2^(7*i)/\s.drop i=eU q++s.drop k/\(0<i->0<q)
 |0,i,n,m,k,h=>by rw[hR]at h;simp at h
 |f+1,i,n,m,k,h=>by
  rw[hR]at h;split at h
  . rename_i b;have a:s.drop i=s.getD i 0::s.drop (i+1):=by rw[fM b];exact mz b
    have o:(s.getD i 0).toNat<256:=C1 _;generalize s.getD i 0=c at*;split at h;simp at h
    . split at h
      . rename_i d;obtain⟨q,t,j,l⟩:=Si s f (i+1) _ m k h;have r:=l (by omega);refine⟨c.toNat%128+128*q,?_,?_,λ_=>by omega⟩
        grind;rw[wQ (by omega),show(c.toNat%128+128*q)/128=q by omega,show(c.toNat%128+128*q)%128+128=c.toNat by omega,a,j];simp
      . rename_i d;split at h
        simp at h
        . rename_i h0;simp only[eg,xq]at h;have g:m=n+c.toNat*2^(7*i):=by have:=h.1;exact_mod_cast this.symm
          have e:k=i+1:=by have:=h.2;exact_mod_cast this.symm
          refine⟨c.toNat,g,?_,λp=>?_⟩;rw[xc (by omega),a,e];simp;omega
  simp at h
theorem Jy{s:aq}{m k:Nat}(h:hR s 10 0 0=((m:Int),(k:Int),0)):s=eU m++s.drop k:=by
 obtain⟨q,a,b,_⟩:=Si s 10 0 0 m k h;grind
theorem NA{s a b:aq}(h:iG s=some (a,b)):s=c' a++b:=by
 unfold iG at h;rcases lT s with⟨e,he,c⟩|⟨m,k,c,j,i,l⟩;grind
 . have dp:=Jy c;rw[c]at h;dsimp only at h;split at h
   . rename_i g;simp only[dW,eg]at h;obtain⟨h1,d⟩:=h;have f:a.length=m:=by
      rw[<-h1,zx,nE];omega
     unfold c';rw[f,lL,<-h1,<-d,Ha];simpa using dp
   cases h
theorem NB:∀(n:Nat) (s:aq) (b l:I aq),s.length<=n->s.length+b.length<=100000->hX (s,b)=some (.inr l)->∃c,l=b++c/\c.flatMap c'=s
 |n,s,b,l,aI,g,h=>by
  rw[hX]at h;by_cases h0:s=[];simp_all
  . rw[ah (by simp[h0]),mn]at h;simp only[aW,ay]at h;cases a:iG s with
    |none=>
     rw[a]at h;simp[eb]at h
    |some r=>
     obtain⟨x,rest⟩:=r;rw[a]at h;have ak:=oq a;have e:¬((!(eb (some (x,rest))).2.2)=true):=(by simp[eb]);have f:cn 16 (b++[(eb (some (x,rest))).1]).length:=ef;rw[au e,ah f]at h
     match n,aI with
     |0,aI=>omega
     |n+1,aI=>
      obtain⟨c,aJ,d⟩:=NB n rest _ l (by omega) (by simp;omega) h;refine⟨x::c,by rw[aJ];simp[eb],?_⟩;rw[hd,d];exact(NA a).symm
theorem NC:∀(n:Nat) (s:aq) (b:I aq),s.length<=n->s.length+b.length<=100000->hX (s,b)=some (.inl 0)->False
 |n,s,b,aI,e,h=>by
  rw[hX]at h;by_cases h0:s=[];grind
  . rw[ah (by simp[h0]),mn]at h;simp only[aW,ay]at h;cases a:iG s with
    |none=>
     rw[a]at h;simp[eb]at h
    |some r=>
     obtain⟨x,rest⟩:=r;rw[a]at h;have ak:=oq a;have c:¬((!(eb (some (x,rest))).2.2)=true):=(by simp[eb]);have d:cn 16 (b++[(eb (some (x,rest))).1]).length:=ef;rw[au c,ah d]at h
     match n,aI with
     |0,aI=>omega
     |n+1,aI=>exact NC n rest _ (by omega) (by simp;omega) h
theorem M0:∀(n:Nat) (s:aq) (last:Nat) (b:I cY),s.length<=n->s.length+b.length<=100000->gZ ((last:Int),s,b)=some (.inl 0)->False
 |n,s,last,b,aI,g,h=>by
  rw[gZ]at h;by_cases h0:s=[];grind
  . rw[ah (by simp[h0])]at h;rcases lT s with⟨e,he,av⟩|⟨m,k,av,i,c,d⟩
    rw[ou he av]at h;simp at h
    . rw[mm av c]at h;simp only[aW,ay,u4 d]at h;split at h
      cases h
      . rw[mn (by rw[nE];omega)]at h;simp only[ay]at h;cases a:iG (s.drop k)with
        |none=>
         rw[a]at h;simp[eb]at h
        |some r=>
         obtain⟨x,rest⟩:=r;rw[a]at h;have ak:=oq a;rw[nE]at ak;have f:¬((!(eb (some (x,rest))).2.2)=true):=(by simp[eb]);rw[au f]at h;split at h
         . match n,aI with
           |0,aI=>omega
           |n+1,aI=>exact M0 n rest (m/2) _ (by omega) (by simp;omega) h
         cases h
theorem Fv(ar:p.length<=90000){l:I aq}(h:gW p=some l):l.flatMap c'=p:=by
 unfold gW at h;rw[kT]at h;cases a:hX (p,[])with
 |none=>rw[a]at h;simp at h
 |some o=>
  rw[a]at h;cases o with
  |inl e=>
   by_cases he:e=0;simp[he]at h;exfalso;obtain⟨d,a1,_⟩:=ER p.length p [] (by omega) (by simp;omega);exact NC p.length p [] (by omega) (by simp;omega) (by rw[a,he]);grind
  |inr l2=>
   have e:l2=l:=(by simpa using h);obtain⟨c,aJ,b⟩:=NB p.length p [] l2 (by omega) (by simp;omega) a;grind
def vL(f:cY):aq:=gv f.ai.toNat f.b4 f.bT
theorem M1:∀(n:Nat) (s:aq) (last:Nat) (b l:I cY),s.length<=n->s.length+b.length<=100000->gZ ((last:Int),s,b)=some (.inr l)->
 ∃c,l=b++c/\c.flatMap vL=s
 |n,s,last,b,l,aI,p,h=>by
  rw[gZ]at h;by_cases h0:s=[];simp_all
  . rw[ah (by simp[h0])]at h;rcases lT s with⟨e,he,av⟩|⟨m,k,av,t,f,g⟩
    rw[ou he av]at h;simp at h
    . have es:=Jy av;rw[mm av f]at h;simp only[aW,ay,u4 g]at h;by_cases q:((m/2:Nat):Int)<=(last:Int)\/1000<((m/2:Nat):Int)
      grind
      . have:¬((bif bif (!true)then true else (((m/2:Nat):Int)<=(last:Int):J)then true else (1000<((m/2:Nat):Int):J))=true):=(by grind);rw[au this,mn (by rw[nE];omega)]at h;simp only[ay]at h;cases a:iG (s.drop k)with
        |none=>
         rw[a]at h;simp[eb]at h
        |some r=>
         obtain⟨x,rest⟩:=r;rw[a]at h;have ak:=oq a;have ex:=NA a;rw[nE]at ak;have i:¬((!(eb (some (x,rest))).2.2)=true):=(by simp[eb]);have o:da .i64 ((m/2:Nat):Int)=((m/2:Nat):Int):=lk;rw[au i,o]at h;have j:cn 32 (b++[(⟨((m/2:Nat):Int),(f' (m:Int) 2=1:J),(eb (some (x,rest))).1⟩:cY)]).length:=ef;rw[ah j]at h
         match n,aI with
         |0,aI=>omega
         |n+1,aI=>
          obtain⟨c,aJ,d⟩:=M1 n rest (m/2) _ l (by omega) (by simp;omega) h;refine⟨⟨((m/2:Nat):Int),(f' (m:Int) 2=1:J),x⟩::c,by rw[aJ];simp[eb],?_⟩;rw[hd,d];unfold vL gv;have u:2*(((m/2:Nat):Int)).toNat+(if (f' (m:Int) 2=1:J) then 1 else 0)=m:=by
           rw[Qq (by omega) (by omega)];grind
          grind
theorem QC(ar:p.length<=90000){l:I cY}(h:im p=some l):l.flatMap vL=p:=by
 unfold im at h;rw[mg]at h;have dp:gZ (0,p,[])=gZ (((0:Nat):Int),p,[]):=rfl;rw[dp]at h;cases a:gZ (((0:Nat):Int),p,[])with
 |none=>rw[a]at h;simp at h
 |some o=>
  rw[a]at h;cases o with
  |inl e=>
   by_cases he:e=0;exfalso;exact M0 p.length p 0 [] (by omega) (by simp;omega) (by rw[a,he]);grind
  |inr l2=>
   have e:l2=l:=(by simpa using h);obtain⟨c,aJ,b⟩:=M1 p.length p 0 [] l2 (by omega) (by simp;omega) a;grind
theorem Sj(h:jl p=some (id,q)):p=eU id.toNat++q:=by
 unfold jl at h;rw[mh]at h;rcases lT p with⟨e,he,av⟩|⟨m,k,av,d,a,f⟩;rw[ou he av]at h;simp at h
 . have es:=Jy av;rw[mm av a]at h;simp only[aW,ay]at h;by_cases c:(m:Int)<1\/1000<(m:Int)
   grind;have:¬((bif bif (!true)then true else ((m:Int)<1:J)then true else (1000<(m:Int):J))=true):=(by grind);have b:da .i64 (m:Int)=(m:Int):=lk;rw[au this,b]at h;simp only[cl,dW,eg]at h;rw[<-h.1,<-h.2];simpa using es
theorem P3{f:α->ag c}(d1:α)(d2:c):∀{l:I α} {m:I c},cO f l=some m->∀i,i<l.length->f (l.getD i d1)=some (m.getD i d2)
 |[],m,h,i,e=>by grind
 |a::l,m,h,i,e=>by
  rw[cO]at h;split at h
  . rename_i b g h1 d;cases h;cases i with
    |zero=>grind
    |succ i=>exact P3 d1 d2 d i (by grind)
  grind
theorem AG{f:α->ag c}(d1:α)(d2:c):∀{l:I α},(∀a,a∈l->∃b,f a=some b/\P a b)->∃m,cO f l=some m/\∀i,i<l.length->P (l.getD i d1) (m.getD i d2)
 |[],_=>⟨[],by rfl,λi e=>by grind⟩
 |a::l,h=>by
  obtain⟨b,b1,b2⟩:=h a (.head _);obtain⟨m,g,j⟩:=AG d1 d2 (λa d=>h a (.tail _ d));refine⟨b::m,by grind[cO],λi e=>?_⟩;grind
theorem KG:∀{l:I α},l.length%2=0->(e9 l).length=l.length/2/\(fO l).length=l.length/2
 |[],_=>⟨by simp[e9],by simp[fO]⟩
 |[a],h=>by grind
 |a::b::l,h=>by
  obtain⟨h1,c⟩:=KG (l:=l) (by grind);show(e9 l).length+1=(l.length+1+1)/2/\(fO l).length+1=(l.length+1+1)/2;omega
theorem EX:∀{l:I α} {y:α},y∈fO l->y∈l
 |[],y,h=>by cases h
 |[_],y,h=>by cases h
 |a::b::l,y,h=>by
  rcases eE.1 h with rfl|h;simp;exact .tail _ (.tail _ (EX h))
def o5(l:I aq):Nat:=(l.map λq=>q.length+1).sum
theorem Jz(q:aq)(l:I aq):o5 (q::l)=q.length+1+o5 l:=by rfl
theorem JA:∀(l:I aq),o5 l<=(l.flatMap c').length
 |[]=>by simp[o5]
 |q::l=>by
  have:=JA l;have:=p' q.length;have e:(c' q).length=(eU q.length).length+q.length:=by grind[c']
  rw[Jz,hd,eh];omega
theorem P4:∀(l:I aq),o5 (e9 l)+o5 (fO l)<=o5 l
 |[]=>by simp[e9,fO,o5]
 |[a]=>by simp[e9,fO,o5]
 |a::b::l=>by
  have:=P4 l;grind[e9,fO,Jz]
theorem Fw{C:Nat}:∀{l:I aq} {m:I ab},cO f l=some m->(∀q,q∈l->∀v,f q=some v->wt v<=C*(q.length+1))->eC m<=C*o5 l
 |[],m,h,_=>by simp_all[cO,rN]
 |q::l,m,h,k=>by
  rw[cO]at h;split at h;rename_i b g h1 d;have a:=k q (.head _) b h1;have c:=Fw d (λq e=>k q (.tail _ e));grind[ov,Jz,Nat.mul_add];grind
def yQ(l:I cY):Nat:=(l.map λf=>f.bT.length+1).sum
theorem QD(f:cY)(l:I cY):yQ (f::l)=f.bT.length+1+yQ l:=by rfl
theorem QE:∀(l:I cY),yQ l<=(l.flatMap vL).length
 |[]=>by simp[yQ]
 |f::l=>by
  have:=QE l;have:=p' f.bT.length;have e:(vL f).length=(eU (2*f.ai.toNat+(if f.b4 then 1 else 0))).length+((eU f.bT.length).length+f.bT.length):=by grind[vL,gv,c']
  rw[QD,hd,eh];omega
def dJ(C d:Nat)(l:I cY)(m:aU):Nat:=match l.find? (λf=>(f.ai=m.ai:J))with
 |some f=>C*(f.bT.length+1)
 |none=>d
def aG(C d:Nat)(l:I cY)(ms:I aU):Nat:=(ms.map (dJ C d l)).sum
def qC(id:Int)(A:Nat)(ms:I aU):Nat:=(ms.map λm=>if m.ai=id then A else 0).sum
theorem JK{A:Nat}:∀{ms:I aU},(∀m,m∈ms->m.ai≠id)->qC id A ms=0
 |[],_=>rfl
 |m::ms,h=>by
  have:=JK (A:=A) (λm a=>h m (.tail _ a));grind[qC]
theorem Sk{id:Int}{A:Nat}:∀{ms:I aU},ms.Pairwise (λa b=>a.ai<b.ai)->qC id A ms<=A
 |[],_=>iD _
 |m::ms,h=>by
  rw[kz]at h;by_cases e:m.ai=id
  . have:qC id A ms=0:=JK λx aa=>by grind
    grind[qC]
  have:=Sk (id:=id) (A:=A) h.2;grind[qC]
theorem agn(C d:Nat)(f:cY)(l:I cY)(m:aU):dJ C d (f::l) m<=(if m.ai=f.ai then C*(f.bT.length+1)else 0)+dJ C d l m:=by
 grind[dJ]
theorem QF(C d:Nat)(f:cY)(l:I cY):∀(ms:I aU),aG C d (f::l) ms<=qC f.ai (C*(f.bT.length+1)) ms+aG C d l ms
 |[]=>by simp[aG]
 |m::ms=>by
  have a:=QF C d f l ms;grind[agn,aG,qC]
theorem Sl(C d:Nat):∀(ms:I aU),aG C d [] ms=d*ms.length
 |[]=>by rfl
 |m::ms=>by
  have:=Sl C d ms;unfold aG at*;simp;rw[Nat.mul_succ];have:dJ C d [] m=d:=rfl;omega
theorem Sm{C d:Nat}(fB:1<=C)(b:h9 x.af):∀(l:I cY),aG C d l x.af+((ft x l).map λr=>r.bT.length+1).sum<=d*x.af.length+C*yQ l
 |[]=>by grind[Sl,ft]
 |f::l=>by
  have ih:=Sm (d:=d) fB b l;have a:=QF C d f l x.af;rw[QD,Nat.mul_add];cases bK:cw x.af f.ai with
  |some m=>
   have c:ft x (f::l)=ft x l:=(by grind[ft,List.filter_cons_of_neg,bK]);rw[c];have:=Sk (id:=f.ai) (A:=C*(f.bT.length+1)) b.1;omega
  |none=>
   have c:ft x (f::l)=⟨f.ai,f.bT⟩::ft x l:=(by grind[ft,List.filter_cons_of_pos,bK]);have:qC f.ai (C*(f.bT.length+1)) x.af=0:=JK (mi bK);have:f.bT.length+1<=C*(f.bT.length+1):=Nat.le_mul_of_pos_left _ fB;grind
theorem QG{C d:Nat}{f:Int->aq->ag ab}{l:I cY}(i:∀(m:aU),m.bH->True):∀{ms:I aU} {a:I ab},(∀m,m∈ms->(m.bH->wt m.bm<=d)/\∀g,g∈l->∀v,f m.aC g.bT=some v->wt v<=C*(g.bT.length+1))->cO (eO f l) ms=some a->eC a<=aG C d l ms
 |[],a,_,h=>by simp_all[cO,rN]
 |m::ms,a,k,h=>by
  rw[cO]at h;split at h
  . rename_i b o h1 e;cases h;have ih:=QG i (λm j=>k m (.tail _ j)) e;have n:wt b<=dJ C d l m:=by
     unfold eO at h1;unfold dJ;cases c:l.find? _ with
     |some g=>
      rw[c]at h1;exact(k m (.head _)).2 g (xu c) b h1
     |none=>grind
    unfold aG at*;rw[ov,mB,xB];omega
  grind
theorem J9{l:I cY}{r:ch}(h:r∈ft x l):∃f,f∈l/\cw x.af f.ai=none/\r=⟨f.ai,f.bT⟩:=by
 obtain⟨f,a,rfl⟩:=fY.1 h;obtain⟨h1,b⟩:=uX.1 a;refine⟨f,h1,?_,rfl⟩;simp_all
theorem P5{l:I cY}(c:l.Pairwise (λa b=>a.ai<b.ai))(d:∀f,f∈l->cD f.ai):iO x.af (ft x l):=by
 refine⟨?_,λr e=>?_⟩;grind[ft];grind[J9]
section
variable {ts:I aj}
def qL(ts:I aj)(t:Int)(p:aq)(v:ab):Prop:=dj ts false t v/\cp v/\wt v<=34000000*(p.length+1)
theorem nq{k:Int}{b:J}{i:Int}{s:aq}{a:I ab}{r:I ch}(h0:0<=k/\k<=9)(h1:ej i)(c:0<=id/\id<=1000)(hs:s.length<=90000)(e:ks.length<=90000)(d:a.length<=90000)(f:r.length<=90000)
 (k1:∀x,x∈ks->cp x)(k2:∀x,x∈a->cp x)(k3:∀x,x∈r->x.bT.length<=90000/\cD x.ai):cp ⟨k,b,i,s,id,ks,a,r⟩:=by
 refine .mk _ (by grind[reachBytes]) (by grind[reachBytes]) (by grind[reachBytes]) (by grind[reachBytes]) k1 k2 (λx aa=>by grind[reachBytes]) ?_ h1 ?_ (λx aa=>by grind[cD])
 all_goals grind
theorem afm(H:cX ts){n:Nat}(ih:∀(t:Int) (p:aq) (v:ab),p.length<=90000->0<=t->t<ts.length->dd ts n t p=some v->qL ts t p v)(ar:p.length<=90000)(t0:0<=t)(t1:t<ts.length)(h:dd ts (n+1) t p=some v):qL ts t p v:=by
 rw[EH]at h;have ax:t.toNat<ts.length:=by omega
 have aa:=bA ax aN;have fB:=H.hZ;unfold qL;rw[hF];generalize ts.getD t.toNat aN=x at*;unfold lS at h;have mH:∀(k i id:Int) (b:J) (s:aq),wt ⟨k,b,i,s,id,[],[],[]⟩=10+s.length:=λk i id b s=>by rfl
 by_cases k1:x.ae=1
 . have:∃b,v=⟨1,b,0,[],0,[],[],[]⟩:=by
    grind[BW]
   obtain⟨b,rfl⟩:=this;exact⟨⟨⟨t0,t1,k1.symm,λh=>by simp⟩,.inl ⟨rfl,rfl,rfl,rfl,rfl,rfl,rfl⟩⟩,nq (by simp) mv (by simp) (by simp) (by simp) (by simp) (by simp) (by simp) (by simp) (by simp),by grind⟩
 rw[au k1]at h;by_cases k2:x.ae=2
 . rw[ah k2]at h;unfold BX at h;cases u:gb p with
   |none=>grind
   |some m=>
    rw[u]at h;dsimp only at h;split at h;rename_i E;cases h;exact⟨⟨⟨t0,t1,k2.symm,λh=>by rfl⟩,.inr (.inl ⟨rfl,rfl,rfl,rfl,rfl,rfl,rfl,E.1,E.2⟩)⟩,nq (by simp) (Qy (Bc u)) (by simp) (by simp) (by simp) (by simp) (by simp) (by simp) (by simp) (by simp),by grind⟩;grind
 rw[au k2]at h;by_cases k3:x.ae=3
 . rw[ah k3]at h;unfold BY at h;split at h
   rename_i E;cases h;exact⟨⟨⟨t0,t1,k3.symm,λh=>by rfl⟩,.inr (.inr (.inl ⟨rfl,rfl,rfl,rfl,rfl,rfl,rfl,E⟩))⟩,nq (by simp) mv (by simp) (by omega) (by simp) (by simp) (by simp) (by simp) (by simp) (by simp),by grind⟩;grind
 rw[au k3]at h;by_cases k4:x.ae=4
 . rw[ah k4]at h;unfold BZ at h;cases u:gb p with
   |none=>grind
   |some m=>
    rw[u]at h;dsimp only at h;split at h;rename_i E;cases h;refine⟨⟨⟨t0,t1,k4.symm,λh=>by rfl⟩,.inr (.inr (.inr (.inl ⟨rfl,rfl,rfl,rfl,rfl,rfl,rfl,?_⟩)))⟩,nq (by simp) mv (by omega) (by simp) (by simp) (by simp) (by simp) (by simp) (by simp) (by simp),by grind⟩;grind[cD];grind
 rw[au k4]at h;by_cases k9:x.ae=9
 . rw[ah k9]at h;obtain⟨aJ,G⟩:=fB.elem aa (by omega);cases p with
   |nil=>
    cases h;simp_all[dv,nq,mv]
   |cons c q=>
    rw[vb]at h;split at h
    . obtain⟨w,Z,rfl⟩:=oV.1 h;obtain⟨f1,f2,f3⟩:=ih _ _ _ (by grind) aJ G Z;refine⟨⟨⟨t0,t1,k9.symm,λh=>by rfl⟩,.inr (.inr (.inr (.inr (.inr (.inr (.inr (.inr ⟨rfl,rfl,rfl,rfl,rfl,rfl,rfl,by simp,dv.2 ?_⟩)))))))⟩,nq (by simp) mv (by simp) (by simp) (by simp) (by simp) (by simp) (by simp) ?_ (by simp),?_⟩
      grind;grind;grind[hT,ov,rN,List.length_cons]
    grind
 rw[au k9]at h;by_cases k6:x.ae=6
 . rw[ah k6]at h;unfold B0 at h;cases ad:jl p with
   |none=>grind
   |some a=>
    obtain⟨id,q⟩:=a;rw[ad]at h;dsimp only at h;have ao:=Sj ad;have aE:=p' id.toNat;have aG:q.length+1<=p.length:=by rw[ao,eh];omega
    obtain⟨o,V,X,Y⟩:=KE p;have hid:cD id:=(by grind);unfold cD at hid;cases bK:cw x.af id with
    |some m=>
     rw[bK]at h;obtain⟨w,Z,rfl⟩:=oV.1 h;obtain⟨B,aO⟩:=kp bK;obtain⟨f1,f2,f3⟩:=ih _ _ _ (by omega) (fB.mem aa B).1 (fB.mem aa B).2 Z;refine⟨⟨⟨t0,t1,k6.symm,λh=>by cases h⟩,.inr (.inr (.inr (.inr (.inr (.inl ⟨rfl,rfl,rfl,rfl,rfl,?_⟩)))))⟩,nq (by omega) mv (by omega) (by simp) (by simp) (by simp) (by simp) (by simp) ?_ (by simp),?_⟩
     . show(match cw x.af id with
        |some m=>_
        |none=>_)
       rw[bK];refine⟨rfl,rfl,dv.2 ?_⟩;grind
     grind;rw[hT];show 10+0+0+eC []+eC [w]<=_;rw[ov,rN];omega
    |none=>
     rw[bK]at h;dsimp only at h;split at h
     . rename_i aB;cases h;refine⟨⟨⟨t0,t1,k6.symm,λh=>by cases h⟩,.inr (.inr (.inr (.inr (.inr (.inl ⟨rfl,rfl,rfl,rfl,rfl,?_⟩)))))⟩,nq (by omega) mv (by omega) (by simp) (by simp) (by simp) (by simp) (by simp) (by simp) ?_,?_⟩
       grind;grind;rw[hT];show 10+0+((q.length+1)+0)+eC []+eC []<=_;rw[rN];omega
     cases h
 rw[au k6]at h;by_cases k7:x.ae=7
 . rw[ah k7]at h;unfold va at h;obtain⟨aJ,G⟩:=fB.elem aa (by omega);cases z:gW p with
   |none=>rw[z]at h;cases h
   |some l=>
    rw[z]at h;dsimp only at h;obtain⟨o,V,X,Y⟩:=uo ar;have ak:(∀q,q∈l->q.length<=p.length)/\l.length<=p.length:=(by grind);have P:=JA l;rw[Fv ar z]at P;split at h
    . rename_i ag;obtain⟨m,B,rfl⟩:=oV.1 h;have R:=nk B;have N:∀y,y∈m->∃q,q∈l/\qL ts x.aF q y:=λy al=>by
       obtain⟨q,I,j⟩:=wV B y al;grind
      have an:=Fw (C:=34000000) B (λq O v F=>(ih _ _ _ (by have:=ak.1 q O;omega) aJ G F).2.2);refine⟨⟨⟨t0,t1,k7.symm,λh=>by cases h⟩,.inr (.inr (.inr (.inr (.inr (.inr (.inl ⟨rfl,rfl,rfl,rfl,rfl,rfl,rfl,?_,dv.2 ?_⟩))))))⟩,nq (by omega) mv (by omega) (by simp) (by simp) (by omega) (by simp) (by simp) ?_ (by simp),?_⟩;grind;intro y al;obtain⟨q,_,j⟩:=N y al;exact j.1;intro y al;obtain⟨q,_,j⟩:=N y al;exact j.2.1;rw[hT];show 10+0+0+eC []+eC m<=_;rw[rN];omega
    cases h
 rw[au k7]at h;by_cases k8:x.ae=8
 . rw[ah k8]at h;unfold B1 at h;obtain⟨aJ,G⟩:=fB.elem aa (by omega);obtain⟨d1,d2⟩:=fB.key aa k8;cases z:gW p with
   |none=>rw[z]at h;cases h
   |some l=>
    rw[z]at h;dsimp only at h;obtain⟨o,V,X,Y⟩:=uo ar;have ak:(∀q,q∈l->q.length<=p.length)/\l.length<=p.length:=(by grind);have P:=JA l;rw[Fv ar z]at P;have aK:=P4 l;split at h
    . rename_i ag;cases hs:cO (dd ts n x.aR) (e9 l)with
      |none=>rw[hs]at h;cases h
      |some ks=>
       rw[hs]at h;dsimp only at h;split at h
       . rename_i aj;obtain⟨m,B,rfl⟩:=oV.1 h;have aD:=nk hs;have R:=nk B;obtain⟨g1,g2⟩:=KG ag.1;have am:∀y,y∈ks->∃q,q∈e9 l/\qL ts x.aR q y:=λy al=>by
          obtain⟨q,I,j⟩:=wV hs y al;exact⟨q,I,ih _ _ _ (by have:=ak.1 q (EG I);omega) d1 d2 j⟩
         have N:∀y,y∈m->∃q,q∈fO l/\qL ts x.aF q y:=λy al=>by
          obtain⟨q,I,j⟩:=wV B y al;exact⟨q,I,ih _ _ _ (by have:=ak.1 q (EX I);omega) aJ G j⟩
         have aL:=Fw (C:=34000000) hs (λq O v F=>(ih _ _ _ (by have:=ak.1 q (EG O);omega) d1 d2 F).2.2);have an:=Fw (C:=34000000) B (λq O v F=>(ih _ _ _ (by have:=ak.1 q (EX O);omega) aJ G F).2.2);refine⟨⟨⟨t0,t1,k8.symm,λh=>by cases h⟩,.inr (.inr (.inr (.inr (.inr (.inr (.inr (.inl ⟨rfl,rfl,rfl,rfl,rfl,rfl,?_,?_,dv.2 ?_,dv.2 ?_,wT.1 aj⟩)))))))⟩,nq (by omega) mv (by omega) (by simp) (by omega) (by omega) (by simp) ?_ ?_ (by simp),?_⟩;grind;grind;intro y al;obtain⟨q,_,j⟩:=am y al;exact j.1;intro y al;obtain⟨q,_,j⟩:=N y al;exact j.1;intro y al;obtain⟨q,_,j⟩:=am y al;exact j.2.1;intro y al;obtain⟨q,_,j⟩:=N y al;exact j.2.1;rw[hT];grind
       cases h
    cases h
 rw[au k8]at h;have k5:x.ae=5:=by obtain⟨ay,az⟩:=fB.S.K x aa;omega
 unfold x1 at h;obtain⟨ap,aA⟩:=fB.S.A x aa (.inl k5);cases z:im p with
 |none=>rw[z]at h;cases h
 |some l=>
  rw[z]at h;dsimp only at h;obtain⟨o,V,X,Y⟩:=EE ar;have ak:(∀f,f∈l->f.bT.length<=p.length/\cD f.ai)/\l.Pairwise (λa b=>a.ai<b.ai)/\l.length<=p.length:=by grind
  have P:=QE l;rw[QC ar z]at P;cases hs:cO (eO (dd ts n) l) x.af with
  |none=>rw[hs]at h;cases h
  |some U=>
   rw[hs]at h;dsimp only at h;split at h
   . rename_i aj;cases h;have R:=nk hs;have aw:∀i,i<x.af.length->dj ts false (x.af.getD i aH).aC (U.getD i aM)/\cp (U.getD i aM):=λi M=>by
      have u:=bA M aH;have:=P3 aH aM hs i M;unfold eO at this;cases L:l.find? (λf=>(f.ai=(x.af.getD i aH).ai:J))with
      |some g=>
       rw[L]at this;have:=ih _ _ _ (by have:=(ak.1 g (xu L)).1;omega) (fB.mem aa u).1 (fB.mem aa u).2 this;exact⟨this.1,this.2.1⟩
      |none=>
       rw[L]at this;dsimp only at this;split at this
       . rename_i Q;have e:=(oX this)
         rw[<-e];exact⟨qD _ _ (H.D x aa _ u Q),(H.T x aa).3 _ u⟩
       cases this
     have an:=QG (C:=34000000) (d:=2097152) (λ_ _=>trivial) (λm u=>⟨λQ=>H.W x aa m u Q,λg av v F=>(ih _ _ _ (by have:=(ak.1 g av).1;omega) (fB.mem aa u).1 (fB.mem aa u).2 F).2.2⟩) hs;have aI:=Sm (C:=34000000) (d:=2097152) (by omega) ap l;refine⟨⟨⟨t0,t1,k5.symm,λh=>by cases h⟩,.inr (.inr (.inr (.inr (.inl ⟨rfl,rfl,rfl,rfl,rfl,rfl,P5 ak.2.1 (λf L=>(ak.1 f L).2),jR.2 ⟨R,λi M=>(aw i M).1⟩⟩))))⟩,nq (by omega) mv (by omega) (by simp) (by simp) (by omega) ?_ (by simp) ?_ ?_,?_⟩;unfold ft;grind;intro y al;obtain⟨i,M,rfl⟩:=gT al;grind;intro r E;obtain⟨f,f1,_,rfl⟩:=J9 E;grind;rw[hT];show 10+0+((ft x l).map λr=>r.bT.length+1).sum+eC []+eC U<=_;rw[rN];omega
   cases h
theorem JL(H:cX ts):∀(n:Nat) (t:Int) (p:aq) (v:ab),p.length<=90000->0<=t->t<ts.length->dd ts n t p=some v->qL ts t p v
 |0,t,p,v,_,_,_,h=>by grind[J8]
 |n+1,t,p,v,ar,t0,t1,h=>afm H (JL H n) ar t0 t1 h
end
end
end Go.Proofs.YtopcfbelfjclmaaGreatDoor
