/- The functions of the program as functions of Lean, that its code does what they say, and what they answer; part C. -/
import Derived.Test.YtkbmjabicjpmjaaGreatDoorCcB

namespace Go.Proofs.YtkbmjabicjpmjaaGreatDoor
set_option linter.all false
section
open Go Go.Proofs.YtkbmjabicjpmjaaGreatDoor.Shv Go.Sort
set_option maxRecDepth 100000
structure jQ (ts:List ah):Prop where
 n:ts.length<=1000
 T:∀t,t∈ts->fD t
 K:∀t,t∈ts->oY t.Kind
 M:Mi ts
 A:∀x,x∈ts->(x.Kind=5\/x.Kind=6)->hD x.ag/\x.ag.length<=16
 S:∀x,x∈ts->x.Kind=4->∀y,y∈x.bg->cK y.ae
 q8:∀x,x∈ts->x.Kind=8->1<=(ts.getD x.Key.toNat aN).Kind/\(ts.getD x.Key.toNat aN).Kind<=4
variable{v:I}{t code id b2:Int}{x:ah}{ms:List aU}{w j c a:Nat}{α:Type}{ts:List ah}{odd:Bool}{p:ao}{ks:List I}{path b1:au}{o:Option I}{f:ao->Option I}{X:Option (I×Bool×List ah×au×Int×au)}
section
variable {ts:List ah}
theorem zo{t:Int}{v:I}(h:(ts.getD t.toNat aN).Kind=1):bF ts t v=if v.b5 then[1]else[]:=by cases v;rw[bF];simp only[h];rfl
theorem zp{t:Int}{v:I}(h:(ts.getD t.toNat aN).Kind=2):bF ts t v=gG (gB v.bo).toNat:=by cases v;rw[bF];simp only[h];rfl
theorem zq{t:Int}{v:I}(h:(ts.getD t.toNat aN).Kind=3):bF ts t v=v.bx:=by cases v;rw[bF];simp only[h];rfl
theorem zr{t:Int}{v:I}(h:(ts.getD t.toNat aN).Kind=4):bF ts t v=gG v.ae.toNat:=by cases v;rw[bF];simp only[h];rfl
theorem vN{t:Int}{v:I}(h:(ts.getD t.toNat aN).Kind=5):bF ts t v=(gR fq (fI ts (ts.getD t.toNat aN).ag v.ai v.Rest)).flatMap Fd.text:=by cases v;rw[bF];simp only[h];rfl
theorem s8{t:Int}{v:I}(h:(ts.getD t.toNat aN).Kind=6):bF ts t v=e4 v.ae.toNat++(match cU (ts.getD t.toNat aN).ag v.ae with
 |some m=>(bL ts m.aB v.ai).headD []
 |none=>(v.Rest.map b6.Data).headD []):=by
 cases v;rw[bF];simp only[h];rfl
theorem s9{t:Int}{v:I}(h:(ts.getD t.toNat aN).Kind=7):bF ts t v=(bL ts (ts.getD t.toNat aN).aC v.ai).flatMap dS:=by cases v;rw[bF];simp only[h];rfl
theorem ta{t:Int}{v:I}(h:(ts.getD t.toNat aN).Kind=8):bF ts t v=gw (bL ts (ts.getD t.toNat aN).Key v.aG) (bL ts (ts.getD t.toNat aN).aC v.ai):=by cases v;rw[bF];simp only[h];rfl
theorem tb{t:Int}{v:I}(h:(ts.getD t.toNat aN).Kind=9):bF ts t v=match bL ts (ts.getD t.toNat aN).aC v.ai with
 |[]=>[]
 |p::_=>1::p:=by
 cases v;rw[bF];simp only[h];rfl
theorem y0(t:Int)(v:I):eK ts t v=1+max (if v.aG=[]then 0 else 1) (if(ts.getD t.toNat aN).Kind=5 then gW ts (ts.getD t.toNat aN).ag v.ai
 else if(ts.getD t.toNat aN).Kind=6 then(match cU (ts.getD t.toNat aN).ag v.ae with
  |some m=>eW ts m.aB v.ai
  |none=>0)
 else eW ts (ts.getD t.toNat aN).aC v.ai):=by
 cases v;rw[eK];try rfl
theorem Bs(c:v.aG=[])(b:v.ai=[]):eK ts t v=1:=by
 rw[y0,c,b];have h1:eW ts (ts.getD t.toNat aN).aC []=0:=by rw[eW]
 have a:gW ts (ts.getD t.toNat aN).ag []=0:=by rw[gW];intros;simp_all
 rw[h1,a]
 have d:(match cU (ts.getD t.toNat aN).ag v.ae with
  |some m=>eW ts m.aB []
  |none=>0)=0:=by
  split
  . rw[eW]
  . rfl
 grind
theorem IS(b:¬x.Kind=8)(d:∀y,y∈v.ai->(bF ts x.aC y).length<=1000000000000000)(e:∀y,y∈v.ai->pG ts y x.aC)(ad:v.ai.length<=reachBytes)(L:Nat)(g:1<=L)(j:L+du v.ai<1125899906842624):
 ∀(k i D:Nat) (acc:ao),i+k=v.ai.length->L<=D->acc.length+((bL ts x.aC (v.ai.drop i)).flatMap dS).length<=70368744177664->
 lz ((L:Int),v.ai,(v.ai.length:Int),(i:Int),ts,(D:Int),v,x,acc)=some (ts,((max D (L+eW ts x.aC (v.ai.drop i)):Nat):Int),acc++(bL ts x.aC (v.ai.drop i)).flatMap dS)
 |0,i,D,acc,l,f,c=>by
  rw[lz,dE,fr (by omega:v.ai.length<=i),eW,bL];simp;omega
 |k+1,i,D,acc,l,f,c=>by
  have aE:i<v.ai.length:=by omega
  have n:=dM ad;have a:v.ai.getD i az∈v.ai:=br aE az;have o:=fx a;rw[eD aE az,bL,hO,db]at c;have aj:=d _ a;have dN:=e _ a (L+1) D (by omega) (by omega);have m:=sM (ts:=ts) x.aC (v.ai.getD i az);have aK:aQ .i64 (L:Int) 1=((L+1:Nat):Int):=bH (by omega);rw[lz,cq,af (aS aE)];simp only[a8,aq,a',I.bk];rw[al (by simp[b]),aK,dN];simp only[aq];rw[CD];simp only[aq];rw[bws];simp only[aq];rw[bH (by omega),IS b d e ad L g j k (i+1) _ _ (by omega) (by omega) (by rw[db];omega),eD aE az,eW,bL,hO,jh];grind
theorem JN(d:x.Kind=8)(r:v.ai.length=v.aG.length)(g:∀y,y∈v.ai->(bF ts x.aC y).length<=1000000000000000)(j:∀y,y∈v.aG->(bF ts x.Key y).length<=1000000000000000)
 (l:∀y,y∈v.ai->pG ts y x.aC)(m:∀y,y∈v.aG->pG ts y x.Key)(h1:∀y,y∈v.aG->eK ts x.Key y=1)(ad:v.ai.length<=reachBytes)(L:Nat)(o:1<=L)(p:L+du v.ai+du v.aG<1125899906842624):
 ∀(k i D:Nat) (acc:ao),i+k=v.ai.length->L<=D->acc.length+(gw (bL ts x.Key (v.aG.drop i)) (bL ts x.aC (v.ai.drop i))).length<=70368744177664->
 lz ((L:Int),v.ai,(v.ai.length:Int),(i:Int),ts,(D:Int),v,x,acc)=some (ts,((max D (L+max (if v.aG.drop i=[]then 0 else 1) (eW ts x.aC (v.ai.drop i))):Nat):Int),acc++gw (bL ts x.Key (v.aG.drop i)) (bL ts x.aC (v.ai.drop i)))
 |0,i,D,acc,q,n,f=>by
  rw[lz,dE,fr (by omega:v.ai.length<=i),fr (by omega:v.aG.length<=i),eW,bL,bL,gw]
  . simp;omega
  grind
 |k+1,i,D,acc,q,n,f=>by
  have aE:i<v.ai.length:=by omega
  have a:i<v.aG.length:=by omega
  have u:=dM ad;have c:v.ai.getD i az∈v.ai:=br aE az;have b:v.aG.getD i az∈v.aG:=br a az;have w:=fx c;have z:=fx b;rw[eD aE az,eD a az,bL,bL,gw,db,db]at f;have aj:=g _ c;have t:=j _ b;have e:=m _ b (L+1) D (by omega) (by omega);rw[h1 _ b]at e;have dN:=l _ c (L+1) (max D (L+1+1-1)) (by omega) (by omega);have s:=sM (ts:=ts) x.aC (v.ai.getD i az);have aK:aQ .i64 (L:Int) 1=((L+1:Nat):Int):=bH (by omega);rw[lz,cq,af (aS aE)];simp only[a8,aq,a',I.bk];rw[af (by simp[d]),af (aS a),aK,e];simp only[aq];rw[CD];simp only[aq];rw[bws];simp only[aq];rw[dN];simp only[aq];rw[CD];simp only[aq];rw[bws (by rw[db];omega)];simp only[aq];rw[bH (by omega),JN d r g j l m h1 ad L o p k (i+1) _ _ (by omega) (by omega) (by rw[db,db];omega),eD aE az,eD a az,eW,bL,bL,gw,jh,jh];grind
end
section
variable {ts:List ah}(H:jQ ts)
theorem vc(H:jQ ts)(a:b3 v)(b:wt v<=1099511627776)(t:Int):(bF ts t v).length<=23089744183296:=by
 have:=Zy H.M a b t;omega
theorem YN{l:List I}{r:List b6}(h:hD ms)(d:kG ms r):Et ((fI ts ms l r).map jc)=some ((gR fq (fI ts ms l r)).map jc):=by
 have e:∀a b,lk (jc a) (jc b)=fq a b:=λa b=>by unfold lk fq jc;simp
 have f:SWO lk:=by refine⟨λx=>?_,λx y z h1 c=>?_,λx y z h1 c=>?_⟩<;>simp[lk]at*<;>omega
 have aj:j1 lk ((fI ts ms l r).map jc)=true:=by
  have h0:=xp (ts:=ts) (l:=l) h d;generalize fI ts ms l r=q at h0;induction q with
  |nil=>rfl
  |cons a q ih=>
   grind[j1]
 grind[Et,KN,JJ]
theorem An{D L b:Nat}(h:w=1+b):max (max D L) (L+b)=max D (L+w-1):=by omega
theorem adX{D L b:Nat}(h:w=1+b):max (max D L) (L+1+b-1)=max D (L+w-1):=by omega
theorem Oh{b:Nat}(h:w=1+max 0 b):w=1+b:=by omega
theorem ZQ(n:∀m,m∈x.ag->b3 m.bz)(e:hD x.ag)(M:x.ag.length<=16)(c:kG x.ag v.Rest)(p:v.ai.length=x.ag.length)
 (u:∀y,y∈v.Rest->y.Data.length<=reachBytes)(J:∀x,x∈v.ai->∀t,(bF ts t x).length<=23089744183296)
 (k:∀i,i<x.ag.length->pG ts (v.ai.getD i az) (x.ag.getD i aD).aB)
 (K:((gR fq (fI ts x.ag v.ai v.Rest)).flatMap Fd.text).length<=23089744183296)
 (L D:Nat)(g:1<=L)(E:L<=D)(F:L+du v.ai<1125899906842624)(H:(v.Rest.map λx=>x.Data.length+1).sum<=1099511627776):
 Bh (x,v,(L:Int),ts,(D:Int))=some ((gR fq (fI ts x.ag v.ai v.Rest)).flatMap Fd.text,ts,((max D (L+gW ts x.ag v.ai):Nat):Int)):=by
 have s:=e.2;have j:∀y,y∈v.Rest->cK y.ae/\y.Data.length<=reachBytes:=λy b=>⟨(c.2 y b).1,u y b⟩
 have G:v.Rest.length<=(v.Rest.map λx=>x.Data.length+1).sum:=by
  generalize v.Rest=R;induction R with
  |nil=>simp
  |cons a R ih=>grind
 have N:=IQ (ts:=ts) (ms:=x.ag) (l:=v.ai);have w:=Lb (by omega) n s p (λy b t=>by grind) (λi o _=>k i o) L g (by omega) x.ag.length 0 D [] (by simp) (by omega) (by grind);have A:qk ((L:Int),x.ag,x.ag.length,0,ts,D,v,[])=_:=w;rw[Bh];simp only[I.bk];rw[A];simp only[a8,aq,hl,hZ];generalize ((max D (L+gW ts x.ag v.ai):Nat):Int)=d;have B:=Lc (ts:=ts) j (by omega) d v.Rest.length 0 ((dy ts x.ag v.ai).map jc) (by simp) (by grind);have C:qj (v.Rest,(v.Rest.length:Int),0,ts,d,(dy ts x.ag v.ai).map jc)=_:=B;rw[C];simp only[aq,hl];rw[<-vz];have hs:=YN (ts:=ts) (l:=v.ai) e c;have dh:dy ts x.ag v.ai++v.Rest.map kf=fI ts x.ag v.ai v.Rest:=rfl;rw[dh];generalize fI ts x.ag v.ai v.Rest=q at*;rw[hs];simp only[aq];have f:=mn fq q;rw[af (by simp[f.length_eq])];have r:(gR fq q).length<=2199023255552:=by rw[f.length_eq];grind
 generalize gR fq q=z at*;have O:=Ld (ts:=ts) (l:=z) d z.length 0 [] (hx _) r (by grind);simp_all[Db]
theorem YO(s:x.ag.length<9223372036854775807)(u:hD x.ag)(G: -9223372036854775808<=v.ae/\v.ae<=9223372036854775807)
 (c5:match cU x.ag v.ae with
  |some m=>v.Rest=[]/\v.ai.length=1/\e3 ts false m.aB v.ai
  |none=>x.Open=true/\True/\cK v.ae/\v.ai=[]/\∃d,v.Rest=[⟨v.ae,d⟩])
 (z:∀y,y∈v.Rest->y.Data.length<=reachBytes)(p:∀x,x∈v.ai->∀t,(bF ts t x).length<=23089744183296)
 (o:∀x,x∈v.ai->∀t,cL ts false t x->pG ts x t)
 (L D:Nat)(C:1<=L)(B:L<=D)(E:L+du v.ai<1125899906842624):
 wX (x,v,(L:Int),ts,(D:Int)) = some (e4 v.ae.toNat++(match cU x.ag v.ae with
  |some m=>(bL ts m.aB v.ai).headD []
  |none=>(v.Rest.map b6.Data).headD []),ts,((max D (L+(match cU x.ag v.ae with
  |some m=>eW ts m.aB v.ai
  |none=>0)):Nat):Int)):=by
 obtain⟨r,j,_,c⟩:=ml (t:=x) v.ae s;rcases rC c with⟨e,q,i,A,a,H⟩|⟨e,a⟩
 . rw[a]at c5;rw[a];obtain⟨d1,d2,d3⟩:=c5;have l:=u.2 _ (br i aD);obtain⟨n,aP⟩:∃n:Nat,v.ae=(n:Int):=⟨v.ae.toNat,by grind[cK]⟩
   rw[wX];simp only[I.bk];rw[j,aP,h7 (by grind),oW (by grind)];simp only[a8,aq];rw[al (by grind),A,af (aS i)]
   match l:v.ai,d2 with
   |[y],_=>
    have b:y∈v.ai:=(by grind);have g:aI 0 [y].length=true:=aS (k:=0) (by simp);have F:=fx b;have c:=dk.1 d3 y b;have dN:=o y b _ c (L+1) D (by simp) (by omega);have aK:aQ .i64 (L:Int) 1=((L+1:Nat):Int):=bH (by omega);rw[af g,aK];simp only[a',sX,mG];rw[dN];have aj:=p y b (x.ag.getD q aD).aB;have w:=jY (n:=n) (by grind);simp only[aq];rw[af (fW)];grind[sM,eW,bL]
 . rw[a]at c5;rw[a];obtain⟨d1,d2,d3,d4,d,d5⟩:=c5;obtain⟨n,aP⟩:∃n:Nat,v.ae=(n:Int):=⟨v.ae.toNat,by grind[cK]⟩
   have f:=z ⟨v.ae,d⟩ (by grind);simp only at f;unfold reachBytes at f;have w:=jY (n:=n) (by grind);rw[wX];rw[j,d5,aP,h7 (by grind),oW (by grind)];simp only[a8,aq];have g:aI 0 ([⟨(n:Int),d⟩]:List b6).length=true:=aS (k:=0) (by simp);simp only[sX,mG];rw[af (fW)];grind
set_option maxHeartbeats 400000 in
theorem ZR(H:jQ ts)(aJ:b3 v):wt v<=1099511627776->∀t,cL ts false t v->pG ts v t:=by
 induction aJ with
 |mk v hs h1 F au W C M cV Q an aT aR aO=>
  intro aM t o L D B aW;have aw:b3 v:= .mk v hs h1 F au W C M cV Q an aT;have aZ:=hz v;have u:=λx g t=>vc H (C x g) (by have:=fx g;omega) t;have aH:∀x,x∈v.aG->∀t,(bF ts t x).length<=23089744183296:=λx g t=>vc H (W x g) (by have:=fx g;omega) t;have s:∀x,x∈v.ai->∀t,cL ts false t x->pG ts x t:=λx g t=>aO x g (by have:=fx g;omega) t;have ax:=λx g t=>aR x g (by have:=fx g;omega) t;have J:=vc H aw aM t;obtain⟨⟨g1,g2,g3,_⟩,o⟩:=(hc _ _ _).1 o;obtain⟨j,rfl⟩:∃j:Nat,t=(j:Int):=⟨t.toNat,by omega⟩
  have V:j<ts.length:=by omega
  rw[jT];simp only[a8,aq];rw[af (aS V),yZ];simp only[a',I.bk]at o g3⊢;have w:=br V aN;have q:=y0 (ts:=ts) (j:Int) v;have aL:=@zo ts (j:Int) v;have Z:=@zp ts (j:Int) v;have aa:=@zq ts (j:Int) v;have ab:=@zr ts (j:Int) v;have N:=@vN ts (j:Int) v;have ah:=@s8 ts (j:Int) v;have O:=@s9 ts (j:Int) v;have P:=@ta ts (j:Int) v;have ak:=@tb ts (j:Int) v;simp only[a']at q aL Z aa ab N ah O P ak;have R:=H.A _ w;have av:=H.q8 _ w;have aA:=H.S _ w;generalize ts.getD j aN=x at*;have X:¬x.Kind=5->¬x.Kind=6->v.aG=[]->eK ts (j:Int) v=1+eW ts x.aC v.ai:=λa b c=>by grind
  have E:v.aG=[]->v.ai=[]->max D (L+eK ts (j:Int) v-1)=max D L:=λa b=>by rw[Bs a b];omega
  rcases o with⟨k,c1,c2,c3,c4,c5,p⟩|⟨k,c1,c2,c3,c4,c5,p,l,r⟩|⟨k,c1,c2,c3,c4,c5,p,l⟩|⟨k,c1,c2,c3,c4,c5,p,l⟩|⟨k,c1,c2,c3,c4,c5,p,l⟩|⟨k,c1,c2,c3,c4,c5⟩|⟨k,c1,c2,c3,c4,c5,p,l,r⟩|⟨k,c1,c2,c3,c4,c5,p,l,r,ao,aV⟩|⟨k,c1,c2,c3,c4,c5,p,l,r⟩<;>rw[k]at g3
  . grind
  . have d:=g3.symm;rw[al (by simp[d]),af (by simp[d]),Z d,E c4 c5,B6 Q];simp only[aq];have am:=zd Q;obtain⟨n,aP⟩:∃n:Nat,gB v.bo=(n:Int):=⟨(gB v.bo).toNat,by unfold gB;split<;>omega⟩
    rw[aP,kb]at am;rw[aP,B7 am];rfl
  . have d:=g3.symm;rw[al (by simp[d]),al (by simp[d]),af (by simp[d]),aa d,E c4 c5]
  . have d:=g3.symm;rw[al (by simp[d]),al (by simp[d]),al (by simp[d]),af (by simp[d]),ab d,E c4 c5]
    obtain⟨n,aP⟩:∃n:Nat,v.ae=(n:Int):=⟨v.ae.toNat,by
     rcases l with⟨y,f,he⟩|⟨_,_,he⟩
     . have:=aA d y f;unfold cK at this;omega
     . unfold cK at he;omega⟩
    rw[aP,h7,B7 (by omega),kb];rfl
  . have d:=g3.symm;rw[al (by simp[d]),al (by simp[d]),al (by simp[d]),al (by simp[d]),af (by simp[d]),N d];obtain⟨K,Y⟩:=R (.inl d);obtain⟨aD,aE⟩:=jZ.1 l;rw[ZQ (H.T _ w).im K Y p aD (λy f=>M y f) u (λi C=>s _ (br (by omega) az) _ (aE i C)) (by rw[<-N d];exact J) L (max D L) B (by omega) (by omega) (by omega)];simp only[aq];rw[af d,af c5]at q;have e:max (max D L) (L+gW ts x.ag v.ai)=max D (L+eK ts (j:Int) v-1):=An (Oh q);rw[e]
  . have d:=g3.symm;rw[al (by simp[d]),al (by simp[d]),al (by simp[d]),al (by simp[d]),al (by simp[d]),af (by simp[d]),ah d];obtain⟨K,Y⟩:=R (.inr d);rw[al (show ¬x.Kind=5 by omega),af d,af c4]at q;rw[YO (dM (ik (H.T _ w).gT)) K an c5 (λy f=>M y f) u s L (max D L) B (by omega) (by omega)];simp only[aq]
    exact dK (λz:Nat=>some (e4 v.ae.toNat++(match cU x.ag v.ae with
     |some m=>(bL ts m.aB v.ai).headD []
     |none=>(v.Rest.map b6.Data).headD []),ts,(z:Int))) (An (D:=D) (L:=L) (Oh q))
  . have d:=g3.symm;rw[al (by simp[d]),al (by simp[d]),al (by simp[d]),al (by simp[d]),al (by simp[d]),al (by simp[d]),al (by simp[d])];have o:=dk.1 r;rw[O d]at J;have:=IS (x:=x) (v:=v) (by omega) (λy f=>by have:=u y f x.aC;omega) (λy f=>s y f x.aC (o y f)) F L B (by omega) v.ai.length 0 (max D L) [] (by omega) (by omega) (by simp only[hl,kc];omega);have h0:lz ((L:Int),v.ai,(v.ai.length:Int),0,ts,((max D L:Nat):Int),v,x,[])=_:=this;rw[h0];simp only[aq,Db];have ad:=X (by omega) (by omega) c5;have e:max (max D L) (L+eW ts x.aC v.ai)=max D (L+eK ts (j:Int) v-1):=An ad;rw[O d,hl,hZ,e]
  . have d:=g3.symm;rw[al (by simp[d]),al (by simp[d]),al (by simp[d]),al (by simp[d]),al (by simp[d]),al (by simp[d]),al (by simp[d])];have o:=dk.1 ao;have U:=dk.1 r;rw[P d]at J;obtain⟨a0,a1⟩:=av d;have aF:∀y,y∈v.aG->eK ts x.Key y=1:=λy f=>by
     obtain⟨⟨_,_,aU,_⟩,b⟩:=(hc _ _ _).1 (U y f);apply Bs<;>grind
    have:=JN (x:=x) (v:=v) d l (λy f=>by have:=u y f x.aC;omega) (λy f=>by have:=aH y f x.Key;omega) (λy f=>s y f x.aC (o y f)) (λy f=>ax y f x.Key (U y f)) aF F L B (by omega) v.ai.length 0 (max D L) [] (by omega) (by omega) (by simp only[hl,kc];omega);have h0:lz ((L:Int),v.ai,(v.ai.length:Int),0,ts,((max D L:Nat):Int),v,x,[])=_:=this;rw[h0];simp only[aq,Db];rw[al (show ¬x.Kind=5 by omega),al (show ¬x.Kind=6 by omega)]at q;simp only[hl,hZ];have e:max (max D L) _=max D (L+eK ts (j:Int) v-1):=An q;rw[P d,e]
  . have d:=g3.symm;rw[al (by simp[d]),al (by simp[d]),al (by simp[d]),al (by simp[d]),al (by simp[d]),al (by simp[d]),af (by simp[d]),ak d];have o:=dk.1 r
    match G:v.ai,l with
    |[],_=>rw[j7,E c5 G,bL]
    |[y],_=>
     have f:y∈v.ai:=by rw[G];exact .head _
     have ay:aI 0 ([y]:List I).length=true:=aS (k:=0) (by simp);rw[ch,af ay];have aY:=fx f;have dN:=s y f x.aC (o y f) (L+1) (max D L) (by omega) (by omega);have aK:aQ .i64 (L:Int) 1=((L+1:Nat):Int):=bH (by omega);rw[aK];simp only[sX,mG];rw[dN];have aj:=u y f x.aC;simp only[aq];rw[af (fW (by simp;omega))];have ad:=X (by omega) (by omega) c5;rw[G]at ad;have aX:=sM (ts:=ts) x.aC y;have ar:eW ts x.aC [y]=eK ts x.aC y:=by
      have dh:eW ts x.aC []=0:=by rw[eW]
      rw[eW,dh];omega
     have ap:bL ts x.aC [y]=[bF ts x.aC y]:=by rw[bL,bL]
     rw[ar]at ad;have e:max (max D L) (L+1+eK ts x.aC y-1)=max D (L+eK ts (j:Int) v-1):=adX ad;rw[ap,e];rfl
    |a::b::c,h=>simp at h
end
section
variable {ts:List ah}
def kp(ts:List ah)(x:I)(t:Int):Prop:=jU ((⟨ts⟩:bl),t,x)=some (bF ts t x)
def vZ(ts:List ah)(x:I)(t:Int):Prop:=my ((⟨ts⟩:bl),t,x)=some ((eK ts t x:Nat):Int)
theorem JO(b:∀y,y∈v.ai->(bF ts x.aC y).length<=1000000000000000)(d:∀y,y∈v.ai->kp ts y x.aC)(ad:v.ai.length<=reachBytes):
 ∀(k i:Nat) (acc:ao),i+k=v.ai.length->acc.length+((bL ts x.aC (v.ai.drop i)).flatMap dS).length<=70368744177664->
 r' (acc,(i:Int),ts,v,x)=some (acc++(bL ts x.aC (v.ai.drop i)).flatMap dS)
 |0,i,acc,e,a=>by
  rw[r',dE,fr (by omega:v.ai.length<=i),bL];simp
 |k+1,i,acc,e,a=>by
  have aE:i<v.ai.length:=by omega
  have f:=dM ad;have c:v.ai.getD i az∈v.ai:=br aE az;rw[eD aE az,bL,hO,db]at a;have aj:=b _ c;have dN:=d _ c;unfold kp at dN;rw[r',cq,af (aS aE)];simp only[a8,aq,a',I.bk];rw[dN];simp only[aq];rw[Bx];simp only[aq];rw[af (fW),bH (by omega),JO b d ad k (i+1) _ (by omega) (by rw[db];omega),eD aE az,bL,hO,jh]
theorem K3(n:v.ai.length=v.aG.length)(d:∀y,y∈v.ai->(bF ts x.aC y).length<=1000000000000000)(e:∀y,y∈v.aG->(bF ts x.Key y).length<=1000000000000000)
 (j:∀y,y∈v.ai->kp ts y x.aC)(l:∀y,y∈v.aG->kp ts y x.Key)(ad:v.ai.length<=reachBytes):
 ∀(k i:Nat) (acc:ao),i+k=v.ai.length->acc.length+(gw (bL ts x.Key (v.aG.drop i)) (bL ts x.aC (v.ai.drop i))).length<=70368744177664->
 sa (acc,(i:Int),ts,v,x)=some (acc++gw (bL ts x.Key (v.aG.drop i)) (bL ts x.aC (v.ai.drop i)))
 |0,i,acc,m,c=>by
  rw[sa,dE,fr (by omega:v.ai.length<=i),fr (by omega:v.aG.length<=i),bL,bL,gw]
  . simp
  grind
 |k+1,i,acc,m,c=>by
  have aE:i<v.ai.length:=by omega
  have a:i<v.aG.length:=by omega
  have p:=dM ad;have f:v.ai.getD i az∈v.ai:=br aE az;have g:v.aG.getD i az∈v.aG:=br a az;rw[eD aE az,eD a az,bL,bL,gw,db,db]at c;have aj:=d _ f;have o:=e _ g;have dN:=j _ f;have b:=l _ g;unfold kp at dN b;rw[sa,cq,af (aS a)];simp only[a8,aq,a',I.bk];rw[b];simp only[aq];rw[Bx];simp only[aq];rw[af (fW),af (aS aE),dN];simp only[aq];rw[Bx];simp only[aq];rw[af (fW (by rw[db];omega)),bH (by omega),K3 n d e j l ad k (i+1) _ (by omega) (by rw[db,db];omega),eD aE az,eD a az,bL,bL,gw,jh,jh]
def kY(R:List b6)(n:Nat):List Fd:=(R.filter λx=>decide (x.ae=(n:Int))).map kf
theorem WX{a:b6}{l:List b6}{n:Nat}(h:a.ae=(n:Int)):kY (a::l) n=kf a::kY l n:=by unfold kY;rw[List.filter_cons,af (by rw[h];simp),kd]
theorem YP{a:b6}{l:List b6}{n:Nat}(h:¬a.ae=(n:Int)):kY (a::l) n=kY l n:=by unfold kY;rw[List.filter_cons,al (by simpa using h)]
theorem aee{d:Type}{m:aU}{w:I}(b:b3 w)(A B:Option d):
 ((if !(!m.bV) then jt (w,m.bz)else some false).bind λc=>if(bif (!m.bV)then true else(!c)) then A else B)=if dz m w then B else A:=by
 cases a:m.bV with
 |false=>
  have:dz m w=false:=by unfold dz;rw[a];rfl
  rw[this];rfl
 |true=>
  have:=K1 b a;simp only[dU,fz,b7,this];cases dz m w<;>rfl
theorem Gk(d:∀y,y∈v.Rest->y.Data.length<=reachBytes)(c:v.Rest.length<=reachBytes)(n:Nat)(aP:n<=1000):
 ∀(k i:Nat) (b:ao),i+k=v.Rest.length->b.length+((kY (v.Rest.drop i) n).flatMap Fd.text).length<=70368744177664->
 mg (b,(n:Int),(i:Int),ts,v,x)=some (b++(kY (v.Rest.drop i) n).flatMap Fd.text,(n:Int),ts,v,x)
 |0,i,b,g,a=>by
  rw[mg,dE,fr (by omega:v.Rest.length<=i),I.bk];simp[kY]
 |k+1,i,b,g,a=>by
  have aE:i<v.Rest.length:=by omega
  have j:=dM c;have f:=d _ (br aE bS);unfold reachBytes at f;rw[eD aE bS]at a;rw[mg,cq,af (aS aE)];simp only[a8,aq,a',I.bk];rw[eD aE bS];by_cases e:(v.Rest.getD i bS).ae=(n:Int)
  . rw[WX e,hO]at a⊢;have ht:(kf (v.Rest.getD i bS)).text=fR n false (v.Rest.getD i bS).Data:=by unfold kf Fd.text;rw[e];rfl
    rw[ht,db]at a;rw[af (by rw[e];simp),af (aS aE),P9 (by omega) (by omega)];simp only[aq];rw[af (fW),bH (by omega),Gk d c n aP k (i+1) _ (by omega) (by rw[db];omega),ht,jh]
  . rw[YP e]at a⊢;rw[al (by simpa using e),bH (by omega),Gk d c n aP k (i+1) _ (by omega) a]
noncomputable def wI (ts:List ah)(x:ah)(v:I)(n:Nat):List Fd:=(fI ts x.ag v.ai v.Rest).filter λf=>decide (f.id=n)
theorem He{x:ah}(q:x.ag.length<9223372036854775807)(s:hD x.ag)(z:kG x.ag v.Rest)(l:v.ai.length=x.ag.length)
 (w:∀y,y∈v.Rest->y.Data.length<=reachBytes)(g:v.Rest.length<=reachBytes)(u:∀y,y∈v.ai->b3 y)(o:∀x,x∈v.ai->∀t,(bF ts t x).length<=23089744183296)
 (A:∀i,i<x.ag.length->kp ts (v.ai.getD i az) (x.ag.getD i aD).aB):
 ∀(k n:Nat) (b:ao),n+k=1001->1<=n->b.length+(((List.range' n k).flatMap (wI ts x v)).flatMap Fd.text).length<=70368744177664->
 oy (b,(n:Int),ts,v,x)=some (b++((List.range' n k).flatMap (wI ts x v)).flatMap Fd.text)
 |0,n,b,J,h1,a=>by
  rw[oy,dE];simp
 |k+1,n,b,J,h1,a=>by
  have K:∀y,y∈v.Rest->0<=y.ae:=λy N=>by have:=(z.2 y N).1;unfold cK at this;omega
  have ak:wI ts x v n=((dy ts x.ag v.ai).filter λf=>decide (f.id=n))++kY v.Rest n:=by
   unfold wI fI kY;rw[List.filter_append,VS _ _ K]
  rw[x7,hO,DY,ak,DY]at a⊢;simp only[db]at a;rw[oy,cq];obtain⟨r,_,Q,H⟩:=ml (t:=x) (n:Int) q;simp only[a8,aq,a',I.bk];rw[Q];simp only[aq];have B:∀c:ao,c.length+((kY v.Rest n).flatMap Fd.text).length<=70368744177664->mg (c,(n:Int),0,ts,v,x)=some (c++(kY v.Rest n).flatMap Fd.text,(n:Int),ts,v,x):=λc h=>by
   have:=Gk (ts:=ts) (x:=x) w g n (by omega) v.Rest.length 0 c (by omega) (by simpa using h);grind
  rcases rC H with⟨e,j,C,O,G,P⟩|⟨e,G⟩
  . have p:j<v.ai.length:=(by omega);have D:v.ai.getD j az∈v.ai:=br p az;have d:=Rn (ts:=ts) (KZ s) l C (n:=n) (by rw[P];simp);rw[af e,O,af (aS C)];rw[af (by rw[aS p];rfl)];simp only[a'];rw[aee (u _ D)];have F:=He q s z l w g u o A k (n+1);cases E:dz (x.ag.getD j aD) (v.ai.getD j az)with
    |true=>
     rw[E,af rfl]at d;rw[d]at a⊢;rw[af rfl,B b (by omega)];simp only[aq,I.bk];rw[bH (by omega),F _ (by omega) (by omega) (by rw[db];omega)];simp
    |false=>
     rw[E,ch]at d;rw[d]at a⊢;have aj:=o _ D (x.ag.getD j aD).aB;have dN:=A j C;unfold kp at dN;have ht:([⟨n,(x.ag.getD j aD).cv,bF ts (x.ag.getD j aD).aB (v.ai.getD j az)⟩]:List Fd).flatMap Fd.text=fR n (x.ag.getD j aD).cv (bF ts (x.ag.getD j aD).aB (v.ai.getD j az)):=by simp only[hO,List.flatMap_nil,nQ];rfl
     rw[ht]at a⊢;rw[ch,af (aS p),dN];simp only[aq];rw[P9 (by omega) (by omega)];simp only[aq];rw[af (fW),B _ (by rw[db];omega)];simp only[aq,I.bk];rw[bH (by omega),F _ (by omega) (by omega) (by rw[db,db];omega)];grind
  . have M:((dy ts x.ag v.ai).filter λf=>decide (f.id=n))=[]:=HS λm L=>by
     have:=sD G m L;omega
    rw[M]at a⊢;rw[al (by simp[e]),B b (by omega)];simp only[aq,I.bk];rw[bH (by omega),He q s z l w g u o A k (n+1) _ (by omega) (by omega) (by rw[db];omega)];simp
theorem aaQ{a:Type}{m:aU}{w:I}(c:b3 w)(A B:Option a):
 ((if m.bV then jt (w,m.bz)else some false).bind λr=>if(bif m.bV then r else false) then A else B)=if dz m w then A else B:=by
 cases b:m.bV with
 |false=>
  grind[dz]
 |true=>
  grind[K1]
theorem JP(bp:¬x.Kind=5)(c:¬x.Kind=6)(a:∀y,y∈v.ai->vZ ts y x.aC)(ad:v.ai.length<=reachBytes):
 ∀(k i b:Nat),i+k=v.ai.length->hF ((b:Int),(i:Int),ts,v,x)=some (((max b (eW ts x.aC (v.ai.drop i)):Nat):Int),v)
 |0,i,b,d=>by grind[hF,eW,I.bk]
 |k+1,i,b,d=>by
  have aE:i<v.ai.length:=by omega
  have e:=dM ad;have dN:=a _ (br aE az);rw[hF,af (by grind),al (by grind),al (by grind),af (aS aE)];simp only[a',I.bk];rw[dN];simp only[a8,aq];rw[yZ,bH (by omega),JP bp c a ad k _ _ (by omega),eD aE _,eW,Nat.max_assoc]
theorem K4(bp:x.Kind=5)(g:v.ai.length=x.ag.length)(c:∀y,y∈v.ai->b3 y)(e:∀i,i<x.ag.length->vZ ts (v.ai.getD i az) (x.ag.getD i aD).aB)(ad:v.ai.length<=reachBytes):
 ∀(k i b:Nat),i+k=v.ai.length->hF ((b:Int),(i:Int),ts,v,x)=some (((max b (gW ts (x.ag.drop i) (v.ai.drop i)):Nat):Int),v)
 |0,i,b,f=>by
  simp_all[hF,I.bk,gW]
 |k+1,i,b,f=>by
  have aE:i<v.ai.length:=by omega
  have a:i<x.ag.length:=by omega
  have m:=dM ad;have j:=br aE az;have dN:=e i a;rw[hF,af (by grind),af (by grind),af (aS a)];simp only[a8,aq,a',I.bk];rw[af (by grind[aS]),aaQ (c _ j)];have d:=K4 bp g c e ad k (i+1);rw[eD aE _,eD a _,gW];cases l:dz _ _ with
  |true=>rw[af rfl,bH (by omega),d _ (by omega),af rfl]
  |false=>
   rw[ch,al (by grind),af (aS aE),dN];simp only[aq];rw[yZ,bH (by omega),d _ (by omega),ch,Nat.max_assoc]
theorem K5(e:x.Kind=6)(c:j<x.ag.length)(a:ib (x,v.ae)=some ((j:Int),true))(d:∀y,y∈v.ai->vZ ts y (x.ag.getD j aD).aB)(ad:v.ai.length<=reachBytes):
 ∀(k i b:Nat),i+k=v.ai.length->hF ((b:Int),(i:Int),ts,v,x)=some (((max b (eW ts (x.ag.getD j aD).aB (v.ai.drop i)):Nat):Int),v)
 |0,i,b,f=>by grind[hF,eW,I.bk]
 |k+1,i,b,f=>by
  have aE:i<v.ai.length:=by omega
  have g:=dM ad;have dN:=d _ (br aE az);rw[hF,af (by grind),al (by grind),af (by grind),a];simp only[a8,aq,a',I.bk];rw[af (aS c),af (aS aE),dN];simp only[aq];rw[yZ,bH (by omega),K5 e c a d ad k _ _ (by omega),eD aE _,eW,Nat.max_assoc]
theorem Cf{b:Nat}(c:hF (0,0,ts,v,x)=some (((max 0 b:Nat):Int),v))(d:b<1152921504606846976)(f:w=1+max (if v.aG=[]then 0 else 1) b):
 (hF (0,0,ts,v,x)>>=λo=>if (0<(o.2.aG.length:Int):Bool) then some (aQ .i64 1 (iw o.1 1))else some (aQ .i64 1 o.1))=some (w:Int):=by
 rw[c];simp;by_cases e:v.aG=[]
 . have:aQ _ 1 _=1+max 0 b:=xJ (a:=1) (by omega);grind
 . rw[af (by
    grind)]
   grind[yZ,xJ]
theorem ZS(H:jQ ts)(K:b3 v):wt v<=1099511627776->∀t,cL ts false t v->vZ ts v t:=by
 induction K with
 |mk v hs h1 s U V B W cV aa ab ad Z M=>
  intro X t m;have Y:=hz v;have u:=λx A t=>M x A (by have:=fx A;omega) t;obtain⟨⟨g1,g2,g3,_⟩,m⟩:=(hc _ _ _).1 m;obtain⟨j,rfl⟩:∃j:Nat,t=(j:Int):=⟨t.toNat,by omega⟩
  have z:j<ts.length:=by omega
  unfold vZ;rw[my,af (aS z)];simp only[a',I.bk]at m g3⊢;have L:=br z aN;have d:=y0 (ts:=ts) (j:Int) v;simp only[a']at d;have G:=dM (ik (H.T _ L).gT);generalize ts.getD j aN=x at*;have b1:∀E,eW ts E v.ai<1152921504606846976:=λE=>by grind[GA]
  have b2:∀E,gW ts E v.ai<1152921504606846976:=λE=>by grind[Gz]
  have S:¬x.Kind=5->¬x.Kind=6->(∀y,y∈v.ai->cL ts false x.aC y)->(hF (0,0,ts,v,x)>>=λo=>if (0<(o.2.aG.length:Int):Bool) then some (aQ .i64 1 (iw o.1 1))else some (aQ .i64 1 o.1))=some ((eK ts (j:Int) v:Nat):Int):=by
   intro a b c;have l:=JP (ts:=ts) (x:=x) (v:=v) a b (λy n=>u y n _ (c y n)) s v.ai.length 0 0 (by simp);rw[al a,al b]at d;exact Cf l (b1 _) d
  rcases m with⟨k,c1,c2,c3,c4,c5,f⟩|⟨k,c1,c2,c3,c4,c5,f,g,p⟩|⟨k,c1,c2,c3,c4,c5,f,g⟩|⟨k,c1,c2,c3,c4,c5,f,g⟩|⟨k,c1,c2,c3,c4,c5,f,g⟩|⟨k,c1,c2,c3,c4,c5⟩|⟨k,c1,c2,c3,c4,c5,f,g,p⟩|⟨k,c1,c2,c3,c4,c5,f,g,p,R,Q⟩|⟨k,c1,c2,c3,c4,c5,f,g,p⟩<;>rw[k]at g3
  . grind
  . grind
  . grind
  . grind
  . obtain⟨D,F⟩:=jZ.1 g;have l:=K4 (ts:=ts) (x:=x) (v:=v) g3.symm D B (λi C=>u _ (br (by omega) az) _ (F i C)) s v.ai.length 0 0 (by simp);rw[af g3.symm]at d;exact Cf l (b2 _) d
  . rw[al (show ¬x.Kind=5 by omega),af g3.symm]at d;obtain⟨r,_,P,m⟩:=ml (t:=x) v.ae G;rcases rC m with⟨e,q,N,O,w,ag⟩|⟨e,w⟩
    . rw[w]at c5 d;obtain⟨d1,d2,d3⟩:=c5;have J:r=((q:Int),true):=by rw[<-O,<-e]
      have l:=K5 (ts:=ts) (x:=x) (v:=v) g3.symm N (by rw[P,J]) (λy n=>u y n _ (dk.1 d3 y n)) s v.ai.length 0 0 (by omega);exact Cf l (b1 _) d
    . rw[w]at c5 d;have l:hF (0,0,ts,v,x)=some (((max 0 0:Nat):Int),v):=by rw[hF,al (by grind),I.bk];rfl
      exact Cf l (by simp) d
  . grind[dk]
  . grind[dk]
  grind[dk]
set_option maxHeartbeats 400000 in
theorem Hf(H:jQ ts)(aH:b3 v):wt v<=1099511627776->∀t,cL ts false t v->kp ts v t:=by
 induction aH with
 |mk v hs h1 K R X L M cV P Q aO aM aL=>
  intro aK t o;have ar:b3 v:= .mk v hs h1 K R X L M cV P Q aO;have aV:=hz v;have D:=λx p t=>vc H (L x p) (by have:=fx p;omega) t;have aE:=λx p t=>vc H (X x p) (by have:=fx p;omega) t;have B:=λx p t=>aL x p (by have:=fx p;omega) t;have au:=λx p t=>aM x p (by have:=fx p;omega) t;have G:=vc H ar aK t;obtain⟨⟨g1,g2,g3,_⟩,o⟩:=(hc _ _ _).1 o;obtain⟨j,rfl⟩:∃j:Nat,t=(j:Int):=⟨t.toNat,by omega⟩
  have W:j<ts.length:=by omega
  unfold kp;rw[jU,af (aS W)];simp only[a8,aq,a',I.bk]at o g3⊢;have O:=br W aN;have aJ:=@zo ts (j:Int) v;have aa:=@zp ts (j:Int) v;have ab:=@zq ts (j:Int) v;have ad:=@zr ts (j:Int) v;have N:=@vN ts (j:Int) v;have ah:=@s8 ts (j:Int) v;have ak:=@s9 ts (j:Int) v;have am:=@ta ts (j:Int) v;have an:=@tb ts (j:Int) v;simp only[a']at aJ aa ab ad N ah ak am an;have U:=H.A _ O;have aA:=H.S _ O;have Y:=dM (ik (H.T _ O).gT);generalize ts.getD j aN=x at*;rcases o with⟨k,c1,c2,c3,c4,c5,s⟩|⟨k,c1,c2,c3,c4,c5,s,u,z⟩|⟨k,c1,c2,c3,c4,c5,s,u⟩|⟨k,c1,c2,c3,c4,c5,s,u⟩|⟨k,c1,c2,c3,c4,c5,s,u⟩|⟨k,c1,c2,c3,c4,c5⟩|⟨k,c1,c2,c3,c4,c5,s,u,z⟩|⟨k,c1,c2,c3,c4,c5,s,u,z,ap,aU⟩|⟨k,c1,c2,c3,c4,c5,s,u,z⟩<;>rw[k]at g3<;>have g:=g3.symm
  . grind
  . rw[al (by grind),af (by grind),aa g,sw P];have aW:=zd P;obtain⟨n,aP⟩:∃n:Nat,gB v.bo=(n:Int):=⟨(gB v.bo).toNat,by unfold gB;grind⟩
    grind[Int.toNat_natCast,Ht]
  . rw[al (by simp[g]),al (by simp[g]),af (by simp[g]),ab g]
  . rw[al (by simp[g]),al (by simp[g]),al (by simp[g]),af (by simp[g]),ad g]
    obtain⟨n,aP⟩:∃n:Nat,v.ae=(n:Int):=⟨v.ae.toNat,by
     rcases u with⟨y,m,he⟩|⟨_,_,he⟩
     . have:=aA g y m;unfold cK at this;omega
     . unfold cK at he;omega⟩
    rw[aP,h7,Ht (by omega),kb];rfl
  . rw[al (by simp[g]),al (by simp[g]),al (by simp[g]),al (by simp[g]),al (by simp[g]),al (by simp[g]),al (by simp[g]),al (by simp[g]),N g];obtain⟨E,aF⟩:=U (.inl g);obtain⟨ax,ay⟩:=jZ.1 u;rw[N g]at G;have Z:=UY (xp (ts:=ts) (l:=v.ai) E s) (λy m=>Qa E s m);have dh:(λn=>(fI ts x.ag v.ai v.Rest).filter λf=>decide (f.id=n))=wI ts x v:=rfl;rw[dh]at Z;rw[Z]at G⊢;have:=He (ts:=ts) Y E s ax (λy m=>M y m) R L D (λi aw=>B _ (br (by omega) az) _ (ay i aw)) 1000 1 [] (by omega) (by omega) (by simp only[kc];omega);have h0:oy ([],1,ts,v,x)=_:=this;rw[h0];rfl
  . rw[al (by simp[g]),al (by simp[g]),al (by simp[g]),al (by simp[g]),al (by simp[g]),af (by simp[g]),ah g];obtain⟨E,aF⟩:=U (.inr g);obtain⟨r,_,aT,o⟩:=ml (t:=x) v.ae Y;rcases rC o with⟨e,q,ao,aQ,F,aR⟩|⟨e,F⟩
    . rw[F]at c5;rw[F];simp only at c5⊢;obtain⟨d1,d2,d3⟩:=c5;have w:=E.2 _ (br ao aD);rw[aR]at w;obtain⟨n,aP⟩:∃n:Nat,v.ae=(n:Int):=⟨v.ae.toNat,by unfold cK at w;omega⟩
      rw[al (by simp[d1]),aT,aP,h7 (by unfold cK at w;omega),xP (by unfold cK at w;omega)];simp only[aq];rw[aQ,af (aS ao)]
      match w:v.ai,d2 with
      |[y],_=>
       have m:y∈v.ai:=by rw[w];exact .head _
       have C:aI 0 ([y]:List I).length=true:=aS (k:=0) (by simp);have o:=dk.1 d3 y m;have dN:=B y m _ o;unfold kp at dN;rw[af C];simp only[a',sX,mG];rw[dN];have aj:=D y m (x.ag.getD q aD).aB;have aG:=jY (n:=n) (by rw[aP]at Q;omega);simp only[aq];rw[af (fW)];have J:bL ts (x.ag.getD q aD).aB [y]=[bF ts (x.ag.getD q aD).aB y]:=by rw[bL,bL]
       rw[J];rfl
    . rw[F]at c5;rw[F];simp only at c5⊢;obtain⟨d1,d2,d3,d4,d,d5⟩:=c5;obtain⟨n,aP⟩:∃n:Nat,v.ae=(n:Int):=⟨v.ae.toNat,by unfold cK at d3;omega⟩
      have V:=M ⟨v.ae,d⟩ (by rw[d5];exact .head _);simp only at V;unfold reachBytes at V;have aG:=jY (n:=n) (by rw[aP]at Q;omega);rw[d5,aP,j7,h7 (by unfold cK at d3;omega),xP (by unfold cK at d3;omega)];simp only[aq];have C:aI 0 ([⟨(n:Int),d⟩]:List b6).length=true:=aS (k:=0) (by simp);rw[af C];simp only[sX,mG];rw[af (fW)];rfl
  . rw[al (by simp[g]),al (by simp[g]),al (by simp[g]),al (by simp[g]),al (by simp[g]),al (by simp[g]),af (by simp[g])];have o:=dk.1 z;rw[ak g]at G⊢;have:=JO (ts:=ts) (x:=x) (v:=v) (λy m=>by have:=D y m x.aC;omega) (λy m=>B y m x.aC (o y m)) K v.ai.length 0 [] (by omega) (by simp only[hl,kc];omega);have h0:r' ([],0,ts,v,x)=_:=this;rw[h0];rfl
  . rw[al (by simp[g]),al (by simp[g]),al (by simp[g]),al (by simp[g]),al (by simp[g]),al (by simp[g]),al (by simp[g]),af (by simp[g])];have o:=dk.1 ap;have av:=dk.1 z;rw[am g]at G⊢;have:=K3 (ts:=ts) (x:=x) (v:=v) u (λy m=>by have:=D y m x.aC;omega) (λy m=>by have:=aE y m x.Key;omega) (λy m=>B y m x.aC (o y m)) (λy m=>au y m x.Key (av y m)) K v.ai.length 0 [] (by omega) (by simp only[hl,kc];omega);have h0:sa ([],0,ts,v,x)=_:=this;rw[h0];rfl
  . rw[al (by simp[g]),al (by simp[g]),al (by simp[g]),al (by simp[g]),af (by simp[g]),an g];have o:=dk.1 z
    match w:v.ai,u with
    |[],_=>rw[j7,bL]
    |[y],_=>
     have m:y∈v.ai:=by rw[w];exact .head _
     have C:aI 0 ([y]:List I).length=true:=aS (k:=0) (by simp);rw[ch,af C];have dN:=B y m x.aC (o y m);unfold kp at dN;simp only[sX,mG];rw[dN];have aj:=D y m x.aC;simp only[aq];rw[af (fW (by simp;omega))];have J:bL ts x.aC [y]=[bF ts x.aC y]:=by rw[bL,bL]
     rw[J];rfl
    |a::b::c,h=>simp at h
end
theorem dj.px{o:Option Bool}{a b:α}(h:eZ o a b):dj o (a=b):=h
theorem Da{j k l:Option Bool}{f g i:Prop}(h1:dj j f)(d:dj k g)(e:dj l i):
 dj (j>>=λm=>(if m then k else some false)>>=λn=>some (bif m then n else false)>>=λt53=>(if t53 then l else some false)>>=λo=>some (bif t53 then o else false)) (f/\g/\i):=by
 obtain⟨a,rfl,h1⟩:=h1;obtain⟨b,rfl,d⟩:=d;obtain⟨c,rfl,e⟩:=e;rw[<-h1,<-d,<-e];cases a<;>cases b<;>cases c<;>exact⟨_,rfl,by simp⟩
theorem LZ{o:Option Bool}{P:Prop}(h:dj o P):dj (o>>=λr=>some r) P:=by grind
def oZ(b:Bool)(a:List aU):Prop:=(∀m,m∈a->n9 b m=false)/\(b=false\/0<a.length)/\hD a/\(∀m,m∈a->nm m.Name=true)/\(a.map (·.Name)).Nodup/\a.length<=16
def ze(S:List c6):Prop:=0<S.length/\(S.Pairwise (λa b=>a.ae<b.ae)/\∀y,y∈S->cK y.ae)/\(∀y,y∈S->nm y.Name=true)/\(S.map (·.Name)).Nodup/\S.length<=16
theorem WY{l:List ao}:l.Nodup↔∀i,i<l.length->(l.take i).contains (l.getD i [])=false:=by
 grind[List.pairwise_iff_getElem,p7]
theorem K6(f:α->Int)(g:α->ao)(d:α)(l:List α):(∀i,i<l.length->j8 (l.map f) (l.map g) i=true)↔(l.Pairwise (λa b=>f a<f b)/\∀x,x∈l->cK (f x))/\(∀x,x∈l->nm (g x)=true)/\(l.map g).Nodup:=by
 rw[Ce f d,WY];have key:∀i,i<l.length->(j8 (l.map f) (l.map g) i=true↔cK (f (l.getD i d))/\(i=0\/f (l.getD (i-1) d)<f (l.getD i d))/\nm (g (l.getD i d))=true/\((l.map g).take i).contains ((l.map g).getD i [])=false):=by
  grind[j8,cK]
 constructor
 . intro h;refine⟨⟨λi c=>?_,λx n=>?_⟩,λx n=>?_,λi c=>?_⟩
   . grind
   . grind[List.getElem_of_mem]
   . grind[List.getElem_of_mem]
   grind
 . rintro ⟨⟨h1,j⟩,k,m⟩ i c
   refine(key i c).2 ⟨j _ (br c d),?_,k _ (br c d),m i (by grind)⟩;by_cases h0:i=0
   . omega
   . have e:i-1+1=i:=(by omega);grind
theorem IT{t:ah}(h:fD t):dj (rY t) ((∀m,m∈t.ag->n9 (decide (t.Kind=6)) m=false)/\(t.Kind=5\/0<t.ag.length)/\hD t.ag/\(∀m,m∈t.ag->nm m.Name=true)/\(t.ag.map (·.Name)).Nodup/\t.ag.length<=16):=by
 obtain⟨r,h1,a⟩:=Ri h;refine⟨r,h1,a.trans ?_⟩;rw[K6 _ _ aD];grind[List.getElem_of_mem,hD]
theorem YQ{l:List c6}(ad:l.length*24<=reachBytes):dj (ud l) (ze l):=by
 obtain⟨r,h1,a⟩:=KW ad;refine⟨r,h1,a.trans ?_⟩;rw[K6 _ _ dR];grind[ze]
def gI(t:ah):Prop:=
 (t.Kind=1/\t.Name=[]/\t.bE=0/\t.bG=0/\t.Max=0/\t.bg=[]/\t.ag=[]/\t.Key=0/\t.aC=0/\t.Open=false)\/
 (t.Kind=2/\t.Name=[]/\t.bE<=t.bG/\t.Max=0/\t.bg=[]/\t.ag=[]/\t.Key=0/\t.aC=0/\t.Open=false)\/
 (t.Kind=3/\t.Name=[]/\t.bE=0/\t.bG=0/\(0<=t.Max/\t.Max<=200)/\t.bg=[]/\t.ag=[]/\t.Key=0/\t.aC=0/\t.Open=false)\/
 (t.Kind=4/\nm t.Name=true/\t.bE=0/\t.bG=0/\t.Max=0/\ze t.bg/\t.ag=[]/\t.Key=0/\t.aC=0)\/
 (t.Kind=5/\nm t.Name=true/\t.bE=0/\t.bG=0/\t.Max=0/\t.bg=[]/\oZ false t.ag/\t.Key=0/\t.aC=0/\t.Open=false)\/
 (t.Kind=6/\nm t.Name=true/\t.bE=0/\t.bG=0/\t.Max=0/\t.bg=[]/\oZ true t.ag/\t.Key=0/\t.aC=0)\/
 (t.Kind=7/\t.Name=[]/\t.bE=0/\t.bG=0/\(0<=t.Max/\t.Max<=50)/\t.bg=[]/\t.ag=[]/\t.Key=0/\t.Open=false)\/
 (t.Kind=8/\t.Name=[]/\t.bE=0/\t.bG=0/\(0<=t.Max/\t.Max<=50)/\t.bg=[]/\t.ag=[]/\t.Open=false)\/
 (t.Kind=9/\t.Name=[]/\t.bE=0/\t.bG=0/\t.Max=0/\t.bg=[]/\t.ag=[]/\t.Key=0/\t.Open=false)
theorem YR{t:ah}(h:fD t):dj (gr t) (gI t):=by
 obtain⟨d,N,L,H,M,S,c,K,E,b⟩:=t;have aA:=h.syms;have e:=h.gT;have f:=h.im;simp only at aA e f;by_cases bb:d=1
 . subst bb;have a:=iK (a:=(⟨0,N,L,H,M,S,c,K,E,b⟩:ah)) ⟨aA,e,f⟩ (⟨0,[],0,0,0,[],[],0,0,false⟩:ah);refine(LZ (dj.px a)).imp ?_;unfold gI;simp
 by_cases bq:d=2
 . subst bq;have a:=iK (a:=(⟨0,N,0,0,M,S,c,K,E,b⟩:ah)) ⟨aA,e,f⟩ (⟨0,[],0,0,0,[],[],0,0,false⟩:ah);refine(tx (q:=decide (L<=H)) (Q:=L<=H) (by simp) (dj.px a)).imp ?_;unfold gI;grind
 by_cases bU:d=3
 . subst bU;have a:=iK (a:=(⟨0,N,L,H,0,S,c,K,E,b⟩:ah)) ⟨aA,e,f⟩ (⟨0,[],0,0,0,[],[],0,0,false⟩:ah);refine(tx (Q:=0<=M/\M<=200) (by by_cases g:0<=M<;>simp[g]) (dj.px a)).imp ?_;unfold gI;grind
 by_cases cu:d=4
 . subst cu;have a:=iK (a:=(⟨0,[],L,H,M,[],c,K,E,false⟩:ah)) ⟨by simp,e,f⟩ (⟨0,[],0,0,0,[],[],0,0,false⟩:ah);refine(Da (⟨nm N,sN N,Iff.rfl⟩:dj (kx N) (nm N=true)) (YQ aA) (dj.px a)).imp (Q:=gI ⟨4,N,L,H,M,S,c,K,E,b⟩) ?_;unfold gI;grind
 by_cases cW:d=5
 . subst cW;have a:=iK (a:=(⟨0,[],L,H,M,S,[],K,E,bif b then decide ((5:Int)=5)else false⟩:ah)) ⟨aA,by simp,by simp⟩ (⟨0,[],0,0,0,[],[],0,0,false⟩:ah);refine(Da (⟨nm N,sN N,Iff.rfl⟩:dj (kx N) (nm N=true)) (IT h) (dj.px a)).imp ?_;unfold gI oZ;grind
 by_cases da:d=6
 . subst da;have a:=iK (a:=(⟨0,[],L,H,M,S,[],K,E,bif b then decide ((6:Int)=5)else false⟩:ah)) ⟨aA,by simp,by simp⟩ (⟨0,[],0,0,0,[],[],0,0,false⟩:ah);refine(Da (⟨nm N,sN N,Iff.rfl⟩:dj (kx N) (nm N=true)) (IT h) (dj.px a)).imp (Q:=gI ⟨6,N,L,H,M,S,c,K,E,b⟩) ?_;unfold gI oZ;grind
 by_cases gx:d=7
 . subst gx;have a:=iK (a:=(⟨0,N,L,H,0,S,c,K,0,b⟩:ah)) ⟨aA,e,f⟩ (⟨0,[],0,0,0,[],[],0,0,false⟩:ah);refine(tx (Q:=0<=M/\M<=50) (by by_cases g:0<=M<;>simp[g]) (dj.px a)).imp (Q:=gI ⟨7,N,L,H,M,S,c,K,E,b⟩) ?_;unfold gI;grind
 by_cases gS:d=8
 . subst gS;have a:=iK (a:=(⟨0,N,L,H,0,S,c,0,0,b⟩:ah)) ⟨aA,e,f⟩ (⟨0,[],0,0,0,[],[],0,0,false⟩:ah);refine(tx (q:=bif decide (0<=M)then decide (M<=50)else false) (Q:=0<=M/\M<=50) (by by_cases g:0<=M<;>simp[g]) (dj.px a)).imp (Q:=gI ⟨8,N,L,H,M,S,c,K,E,b⟩) ?_;unfold gI;grind
 by_cases gi:d=9
 . subst gi;have a:=iK (a:=(⟨0,N,L,H,M,S,c,K,0,b⟩:ah)) ⟨aA,e,f⟩ (⟨0,[],0,0,0,[],[],0,0,false⟩:ah);refine(LZ (dj.px a)).imp (Q:=gI ⟨9,N,L,H,M,S,c,K,E,b⟩) ?_;unfold gI;simp
 refine⟨false,by simp[gr,bb,bq,bU,cu,cW,da,gx,gS,gi],?_⟩;unfold gI;grind
structure pF (ts:List ah):Prop where
 n:ts.length<=32
 F:∀t,t∈ts->gI t
 D:∀i,i<ts.length->(!(decide ((ts.getD i aN).Name=[]))&&((ts.map (·.Name)).take i).contains (ts.getD i aN).Name)=false
 U:∀t,t∈ts->∀u,u∈fu t->0<=u/\u<ts.length
 q8:∀t,t∈ts->t.Kind=8->1<=(ts.getD t.Key.toNat aN).Kind/\(ts.getD t.Key.toNat aN).Kind<=4
theorem Wp(dr:∀t,t∈ts->fD t){i:Nat}(a:i<ts.length):s6 ts i=none↔gI (ts.getD i aN)/\(!(decide ((ts.getD i aN).Name=[]))&&((ts.map (·.Name)).take i).contains (ts.getD i aN).Name)=false/\(∀u,u∈fu (ts.getD i aN)->0<=u/\u<ts.length)/\
 ((ts.getD i aN).Kind=8->1<=(ts.getD (ts.getD i aN).Key.toNat aN).Kind/\(ts.getD (ts.getD i aN).Key.toNat aN).Kind<=4):=by
 obtain⟨r,f1,f2⟩:=YR (dr _ (br a aN));rw[Gh rfl f1];grind[List.any_eq_false,pv,wL]
theorem sG(dr:∀t,t∈ts->fD t)(h:pF ts):pd (⟨ts⟩:bl)=some 0/\uQ (⟨ts⟩:bl)=some 0:=by
 obtain⟨e,h1,c,_,b,_⟩:=WS (by have:=h.n;grind[reachBytes]) dr;have dh:=b ⟨h.n,λi a=>(Wp dr a).2 ⟨h.F _ (br a _),h.D i a,h.U _ (br a _),h.q8 _ (br a _)⟩⟩;grind
theorem pF.iy(dr:∀t,t∈ts->fD t)(h:pF ts):jQ ts:=by
 refine⟨by have:=h.n;omega,dr,λt ht=>?_,λt ht m c=>?_,λt ht e=>?_,λt ht e y f=>?_,h.q8⟩
 . have:=h.F t ht;grind[gI,oY]
 . have:=h.F t ht;unfold gI at this;have:oZ false t.ag\/oZ true t.ag:=(by grind);rcases this with a|a
   . exact(a.2.2.1.2 m c).2
   . exact(a.2.2.1.2 m c).2
 . have:=h.F t ht;unfold gI at this;have:oZ false t.ag\/oZ true t.ag:=(by grind);rcases this with a|a
   . exact⟨a.2.2.1,a.2.2.2.2.2⟩
   . exact⟨a.2.2.1,a.2.2.2.2.2⟩
 . have:=h.F t ht;unfold gI at this;have:ze t.bg:=(by grind);exact this.2.1.2 y f
def s4(l:List b6):Nat:=(l.map λx=>x.Data.length).sum
theorem Zz(l:List b6):(l.map λx=>x.Data.length+1).sum=s4 l+l.length:=by
 unfold s4;induction l with
 |nil=>rfl
 |cons a l ih=>simp only[kd,vk,iP];omega
def Left(n:Int)(w:Nat)(m:Int):Prop:=m<=n/\-1000000000000000<=m/\(0<=m->(w:Int)+m<=n)
theorem JQ(ad:v.Rest.length<=reachBytes)(b:∀x,x∈v.Rest->x.Data.length<=reachBytes):∀(k i:Nat) (n:Int),i+k=v.Rest.length->n<=3000->-1000000000000000<=n->∃m,qu (n,(i:Int),v)=some (m,v)/\Left n (s4 (v.Rest.drop i)) m
 |0,i,n,f,c,a=>⟨n,by
  rw[qu,al,I.bk];intro h;have g:¬(i:Int)<(v.Rest.length:Int):=by omega
  simp[g]at h,by
  rw[fr (by omega:v.Rest.length<=i)]
  exact⟨by omega,a,λ_=>by simp[s4]⟩⟩
 |k+1,i,n,f,c,a=>by
  have aE:i<v.Rest.length:=by omega
  have p:=dM ad;have d:=b _ (br aE bS);unfold reachBytes at d;have g:(i:Int)<(v.Rest.length:Int):=by omega
  rw[qu];by_cases h0:0<=n
  . rw[af (by simp[g,h0]),af (aS aE)];simp only[a',I.bk];rw[iL (by omega) (by omega),bH (by omega)];obtain⟨m,j,q,l,o⟩:=JQ ad b k (i+1) (n-((v.Rest.getD i bS).Data.length:Int)) (by omega) (by omega) (by omega);refine⟨m,j,by omega,l,λh=>?_⟩;have:=o h;rw[eD aE bS];have e:s4 (v.Rest.getD i bS::v.Rest.drop (i+1))=(v.Rest.getD i bS).Data.length+s4 (v.Rest.drop (i+1)):=by unfold s4;simp only[kd,vk]
    rw[e];omega
  . refine⟨n,?_,by omega,a,λh=>absurd h h0⟩;rw[al (by simp[g,h0]),I.bk]
theorem JR(ad:v.aG.length<=reachBytes)(ih:∀x,x∈v.aG->∀n,0<=n->n<=3000->∃m,nz (x,n)=some m/\Left n (wt x) m):∀(k i:Nat) (n:Int),i+k=v.aG.length->n<=3000->-1000000000000000<=n->∃m,rG (n,(i:Int),v)=some (m,v)/\Left n (du (v.aG.drop i)) m
 |0,i,n,d,c,b=>⟨n,by
  rw[rG,al,I.bk];intro h;have g:¬(i:Int)<(v.aG.length:Int):=by omega
  simp[g]at h,by
  rw[fr (by omega:v.aG.length<=i),ja]
  exact⟨by omega,b,λ_=>by simp⟩⟩
 |k+1,i,n,d,c,b=>by
  have aE:i<v.aG.length:=by omega
  have l:=dM ad;have g:(i:Int)<(v.aG.length:Int):=by omega
  rw[rG];by_cases h0:0<=n
  . obtain⟨a,a1,a2,a3,a4⟩:=ih _ (br aE az) n h0 c;rw[af (by simp[g,h0]),af (aS aE)];simp only[a',I.bk];rw[a1];simp only[a8,aq];rw[bH (by omega)];obtain⟨m,e,o,f,j⟩:=JR ad ih k (i+1) a (by omega) (by omega) (by omega);refine⟨m,e,by omega,f,λh=>?_⟩;have:=j h;have:=a4 (by omega);rw[eD aE az,jz];omega
  . refine⟨n,?_,by omega,b,λh=>absurd h h0⟩;rw[al (by simp[g,h0]),I.bk]
theorem JS(ad:v.ai.length<=reachBytes)(ih:∀x,x∈v.ai->∀n,0<=n->n<=3000->∃m,nz (x,n)=some m/\Left n (wt x) m):∀(k i:Nat) (n:Int),i+k=v.ai.length->n<=3000->-1000000000000000<=n->∃m,rH (n,(i:Int),v)=some m/\Left n (du (v.ai.drop i)) m
 |0,i,n,d,c,b=>⟨n,by
  rw[rH,al];intro h;have g:¬(i:Int)<(v.ai.length:Int):=by omega
  simp[g]at h,by
  rw[fr (by omega:v.ai.length<=i),ja]
  exact⟨by omega,b,λ_=>by simp⟩⟩
 |k+1,i,n,d,c,b=>by
  have aE:i<v.ai.length:=by omega
  have l:=dM ad;have g:(i:Int)<(v.ai.length:Int):=by omega
  rw[rH];by_cases h0:0<=n
  . obtain⟨a,a1,a2,a3,a4⟩:=ih _ (br aE az) n h0 c;rw[af (by simp[g,h0]),af (aS aE)];simp only[a',I.bk];rw[a1];simp only[a8,aq];rw[bH (by omega)];obtain⟨m,e,o,f,j⟩:=JS ad ih k (i+1) a (by omega) (by omega) (by omega);refine⟨m,e,by omega,f,λh=>?_⟩;have:=j h;have:=a4 (by omega);rw[eD aE az,jz];omega
  . refine⟨n,?_,by omega,b,λh=>absurd h h0⟩;rw[al (by simp[g,h0])]
theorem aes(p:b3 v):∀n:Int,0<=n->n<=3000->∃m,nz (v,n)=some m/\Left n (wt v) m:=by
 induction p with
 |mk v hs h1 k d u t o cV w x y r q=>
  intro n h0 aP;have aK:aQ .i64 (aQ .i64 10 (v.bx.length:Int)) (v.Rest.length:Int)=((10+v.bx.length+v.Rest.length:Nat):Int):=by
   have a1:=dM hs;have a2:=dM d;unfold reachBytes at hs d;have:aQ .i64 10 (v.bx.length:Int)=((10+v.bx.length:Nat):Int):=xJ (a:=10) (by omega);rw[this,xJ (by omega)]
  unfold reachBytes at hs;have l:=d;unfold reachBytes at l;have j:dL .i64 n ((10+v.bx.length+v.Rest.length:Nat):Int)=n-((10+v.bx.length+v.Rest.length:Nat):Int):=iL (by omega) (by omega);obtain⟨a,a1,a2,a3,a4⟩:=JQ d o v.Rest.length 0 (n-((10+v.bx.length+v.Rest.length:Nat):Int)) (by omega) (by omega) (by omega);obtain⟨b,b1,b2,s,g⟩:=JR h1 r v.aG.length 0 a (by omega) (by omega) (by omega);obtain⟨c,c1,c2,c3,c4⟩:=JS k q v.ai.length 0 b (by omega) (by omega) (by omega);have e:qu (n-((10+v.bx.length+v.Rest.length:Nat):Int),0,v)=_:=a1;have f:rG (a,0,v)=_:=b1;have i:rH (b,0,v)=_:=c1;refine⟨c,?_,by omega,c3,λh=>?_⟩
  . rw[nz];simp only[I.bk];rw[aK,j,e];simp only[a8,aq,I.bk];rw[f];simp only[aq,I.bk];rw[i];rfl
  . have:=c4 h;have:=g (by omega);have:=a4 (by omega);rw[hz,Zz];grind
theorem VT(a:b3 v):∃b,AT v=some b/\(b=true->wt v<=3000):=by
 obtain⟨m,c,e,f,d⟩:=aes a 3000 (by omega) (by omega);rw[AT];simp only[I.bk];rw[c];refine⟨decide (0<=m),rfl,λh=>?_⟩;have h0:0<=m:=gk h;have:=d h0;omega
def aaR(ts:List ah)(ms:List aU):Prop:=∀m,m∈ms->m.bV=true->cL ts true m.aB m.bz
theorem ad6{t:aF}{x:t.den cn.D}(h:Ok cn [t] x):∀d,d∈t.row cn x->WF cn d:=λd a=>h ⟨t,x⟩ (D0 ..) d a
theorem ZT(H:jQ ts)(b:b3 v)(c:wt v<=1099511627776)(a:cL ts false t v):
 jT (t,v,1,ts,0)=some (bF ts t v,ts,((eK ts t v:Nat):Int)):=by
 have h:=ZR H b c t a 1 0 (by omega) (by omega);have aj:=sM (ts:=ts) t v;have e:max 0 (1+eK ts t v-1)=eK ts t v:=by omega
 rw[e]at h;exact h
noncomputable def oh (ts:List ah)(t:Int)(v:I):ao×Int:=
 if 4096<(bF ts t v).length\/200<eK ts t v then([],3)else(bF ts t v,0)
abbrev fC:=dp
abbrev eR:=bt
abbrev abE:=iG
theorem sO{a:Int}(h:¬a=0):(!(decide (a=0)))=true:=by grind
theorem hL{x m:Int}(h:0<=x)(a:0<=m:=by omega):cf x m=x%m:=by grind[cf]
theorem aaS{x:Int}(h:0<=x)(a:x<=255):gF .u8 x 4=x/4:=by
 grind[gF,IntKind.wrap_u8]
theorem kZ{x:Int}(h:cx x):b9 .i64 x=x:=by
 grind[b9,cx,IntKind.wrap_i64]
theorem GV{k:Int}(h:0<=k/\k<=25):mq (b9 .i32 (aQ .i64 97 k))=[UInt8.ofNat (97+k.toNat)]:=by
 have key:∀k:Nat,k<26->mq (b9 .i32 (aQ .i64 97 k))=[UInt8.ofNat (97+k)]:=by decide+kernel
 grind
theorem aaT{k:Int}(h:0<=k/\k<=25):mq (b9 .i32 (aQ .i64 65 k))=[UInt8.ofNat (65+k.toNat)]:=by
 have key:∀k:Nat,k<26->mq (b9 .i32 (aQ .i64 65 k))=[UInt8.ofNat (65+k)]:=by decide+kernel
 grind
theorem HT{s:ao}(h0:s≠[])(ad:s.length<=24)(h:∀i:Nat,i<s.length->oO (hU s i)=true):nm s=true:=by
 have key:∀k i,i+k=s.length->lL (s,s.length,i)=some (.inr ()):=by
  intro k;induction k with
  |zero=>simp_all[lL]
  |succ k ih=>
   intro i b;rw[lL,af (by grind),af (aS (by omega)),Bq,h i (by omega)];simp only[a8,aq];rw[j7,bH (by omega)];exact ih _ (by omega)
 have a:=yg.2 h0;have c:=aS a;have d:=key s.length 0 (by simp);grind[nm,kx,Bq]
theorem aaU(h:65<=c/\c<=90\/97<=c/\c<=122):nm [UInt8.ofNat c]=true:=by
 grind[HT,yw,nF,oO]
theorem L0{b:Nat}(a:97<=b/\b<=122)(h:97<=c/\c<=122):nm [UInt8.ofNat b,UInt8.ofNat c]=true:=by
 grind[HT,yw,nF,oO]
def dd(x:Int):Prop:=0<=x/\x<=255
structure n3 (x:fC):Prop where
 k:dd x.Kind
 a:dd x.A
 b:dd x.B
 c:dd x.C
 p:∀q,q∈x.cT->dd q.ae/\dd q.aB/\dd q.gX
 l:x.cT.length<=reachBytes
def ep(aH:List fC)(i:Int):Int:=1+(aH.getD i.toNat eR).Kind%9
section
variable {aH:List fC}(cp:∀x,x∈aH->n3 x)(bp:aH.length<=5)
include cp bp in
theorem qL{i:Int}(h0:0<=i)(h1:i<aH.length):pV ((⟨aH⟩:ek),i)=some (ep aH i)/\1<=ep aH i/\ep aH i<=9:=by
 obtain⟨j,rfl⟩:∃j:Nat,i=j:=⟨i.toNat,by omega⟩
 have c:=(cp _ (br (by omega:j<aH.length) eR)).k;unfold ep;obtain⟨a,b⟩:=c;refine⟨?_,by omega,by omega⟩;rw[pV,af (aS (by omega:j<aH.length)),a',hL a (by simp),kZ ⟨by omega,by omega⟩,jb (by omega) (by omega)]
def C'(aH:List fC)(i u:Int):Prop:=0<=u/\u<aH.length/\(7<=ep aH u\/u<i)
include cp bp in
theorem IU:∀(k i:Nat),i+k=aH.length->nd ((aH.length:Int),(i:Int),aH)=some (.inr ())\/∃u:Int,nd ((aH.length:Int),(i:Int),aH)=some (.inl u)/\0<=u/\u<aH.length/\7<=ep aH u
 |0,i,a=>.inl (by grind[nd])
 |k+1,i,a=>by
  obtain⟨e,_,_⟩:=qL cp bp (i:=i) (by simp) (by omega);rw[nd,af (by grind),e];simp[xu];by_cases b:7<=ep aH i
  . grind
  . rw[al (by grind),bH (by omega)];exact IU k _ (by omega)
include cp bp in
theorem YS(h1:1<=aH.length){i:Int}(l:0<=i/\i<aH.length)(j:dd code):∃u,xv ((⟨aH⟩:ek),i,code)=some u/\(u<0\/C' aH i u):=by
 have k:b9 .i64 code=code:=kZ ⟨by grind[dd],by grind[dd]⟩;obtain⟨c1,c2⟩:=j;have d:0<=code%(aH.length:Int):=lX _ (by omega);have f:code%aH.length<aH.length:=lU _ (by omega);rw[xv];simp only[a8,aq];rw[af (sO (by omega)),k,hL c1 (by simp)];obtain⟨e,_,_⟩:=qL cp bp d f;rw[e];simp only[aq,xu];by_cases g:7<=ep aH (code%aH.length)
 . rw[af (by grind)];exact⟨_,rfl,.inr ⟨d,f,.inl g⟩⟩
 . by_cases aE:code%aH.length<i
   . rw[af (by grind)];exact⟨_,rfl,.inr ⟨d,f,.inr aE⟩⟩
   . rw[al (by grind)];by_cases aj:0<i
     . rw[af (by grind),af (by grind),hL d];have a0:0<=code%aH.length%i:=lX _ (by omega);have a1:code%(aH.length:Int)%i<i:=lU _ (by omega);exact⟨_,rfl,.inr ⟨a0,by omega,.inr a1⟩⟩
     . rw[al (by grind)];have h0:=IU cp bp aH.length 0 (by simp);have dh:nd (aH.length,(0:Nat),aH)=nd ((aH.length:Int),0,aH):=rfl;rw[dh]at h0;rcases h0 with h|⟨u,h,a,b,c⟩
       . grind
       . rw[h];exact⟨u,rfl,.inr ⟨a,b,.inl c⟩⟩
def n1(aH:List fC)(u:Int):Prop:=0<=u/\u<aH.length/\1<=ep aH u/\ep aH u<=4
include cp bp in
theorem L1{code:Int}(g:dd code)(h1:1<=aH.length):∀(k i:Nat),i+k=aH.length->(nn (code,(aH.length:Int),(i:Int),aH)=some (.inr ())/\∀m:Nat,i<=m->m<aH.length->¬n1 aH ((code+m)%(aH.length:Int)))\/∃u:Int,nn (code,(aH.length:Int),(i:Int),aH)=some (.inl u)/\n1 aH u
 |0,i,j=>.inl ⟨by simp_all[nn],λm a b=>by omega⟩
 |k+1,i,j=>by
  obtain⟨c1,c2⟩:=g;have c:0<=(code+i)%aH.length:=lX _ (by omega);have d:(code+i)%aH.length<aH.length:=lU _ (by omega);obtain⟨e,aK,l⟩:=qL cp bp c d;rw[nn,af (by grind),af (sO (by omega)),kZ ⟨by omega,by omega⟩,jb (by omega) (by omega),hL (by omega) (by simp)];simp;rw[e];simp only[aq,wV];by_cases f:ep aH ((code+i)%aH.length)<=4
  . rw[af (by grind)];exact .inr ⟨_,rfl,c,d,aK,f⟩
  . rw[al (by grind),bH (by omega)];rcases L1 ⟨c1,c2⟩ h1 k (i+1) (by omega)with⟨a,b⟩|h
    . refine .inl ⟨a,λm o p=>?_⟩;by_cases n:m=i
      . rintro ⟨_,_,_,h⟩;grind
      grind
    grind
include cp bp in
theorem L2(b:dd code)(h1:1<=aH.length):∃u,rX ((⟨aH⟩:ek),code)=some u/\((u= -1/\∀w,¬n1 aH w)\/n1 aH u):=by
 rw[rX];have h0:=L1 cp bp b h1 aH.length 0 (by simp);have dh:nn (code,aH.length,(0:Nat),aH)=nn (code,(aH.length:Int),0,aH):=rfl;rw[dh]at h0;rcases h0 with⟨h,a⟩|⟨u,h,a⟩
 . rw[h];refine⟨-1,rfl,.inl ⟨rfl,λw c=>?_⟩⟩;have d:=c;obtain⟨kN,i,_⟩:=d;have f:0<=(w-code)%aH.length:=lX _ (by omega);have g:(w-code)%aH.length<aH.length:=lU _ (by omega);have e:(code+((w-code)%(aH.length:Int)).toNat)%aH.length=w:=by
    grind[Int.add_emod_emod,Int.emod_eq_of_lt]
   grind
 grind
theorem GW{x:fC}(h:n3 x):o6 x=some (x.A%7-3):=by
 have:=h.a;rw[o6,hL this.1 (by simp),kZ ⟨by omega,by omega⟩,iL (by omega) (by omega)]
theorem Kj{x:fC}(h:n3 x):rS x=some (x.A%7-3+x.B%6):=by
 have a:=h.b;rw[rS,GW h];simp;rw[hL a.1 (by simp),kZ ⟨by omega,by omega⟩,jb (by omega) (by omega)]
def tj(l:au)(n:Int):Prop:=l.Pairwise (· < ·)/\∀x,x∈l->1<=x/\x<=n
theorem GX{x:fC}:∀(k i:Nat) (acc:au),i+k=6->tj acc i->acc.length<=i->∃l,o2 ((i:Int),x,acc)=some l/\tj l 6/\l.length<=6
 |0,i,acc,f,c,ad=>⟨acc,by simp_all[o2,al],⟨c.1,λy d=>by have:=c.2 y d;omega⟩,by omega⟩
 |k+1,i,acc,f,c,ad=>by
  have e:tj acc (i+1:Int):=⟨c.1,λy d=>by have:=c.2 y d;omega⟩
  rw[o2,af (by grind),af (by rfl)];simp only[a8,aq];rw[bH (by omega)];split
  . rw[af (dB (by simp) (by grind))];refine GX k (i+1) _ (by omega) ⟨?_,λy d=>?_⟩ (by grind)
    . rw[DW];refine⟨c.1,by simp,λa h1 b g=>?_⟩;have:=c.2 a h1;grind
    . rcases hP.1 d with h|h
      . have:=c.2 y h;omega
      grind
  . exact GX k _ _ (by omega) e (by omega)
theorem aaV(x:fC):∃l,nA x=some l/\tj l 6/\1<=l.length/\l.length<=6:=by
 obtain⟨l,h1,d,e⟩:=GX 6 0 [] (by rfl) ⟨.nil,λy c=>by grind⟩ (by simp);have b:o2 (0,x,[])=some l:=h1;rw[nA,b];cases l with
 |nil=>
  exact⟨_,rfl,⟨by simp,λy c=>by grind⟩,by simp,by simp⟩
 |cons a l=>grind
def j9(x:fC):au:=(nA x).getD []
theorem tO(x:fC):nA x=some (j9 x)/\tj (j9 x) 6/\1<=(j9 x).length/\(j9 x).length<=6:=by
 obtain⟨l,h1,a⟩:=aaV x;grind[j9]
def l7(k:Int)(x:fC)(key:Prop)(v:I):Prop:=
 v.aG=[]/\v.ai=[]/\v.Rest=[]/\
 (k=1/\v.Kind=1/\v.bo=0/\v.bx=[]/\v.ae=0\/
  k=2/\v.Kind=2/\v.b5=false/\v.bx=[]/\v.ae=0/\x.A%7-3<=v.bo/\v.bo<=x.A%7-3+x.B%6\/
  k=3/\v.Kind=3/\v.b5=false/\v.bo=0/\v.ae=0/\(v.bx.length:Int)<=x.A%4\/
  k=4/\v.Kind=4/\v.b5=false/\v.bo=0/\v.bx=[]/\v.ae∈j9 x\/
  7<=k/\v.b5=false/\v.bo=0/\v.bx=[]/\v.ae=0/\(v.Kind=k/\(k=8->key)\/k=8/\v.Kind=7/\¬key))
def Init(aH:List fC)(t:Int)(v:I):Prop:=l7 (ep aH t) (aH.getD t.toNat eR) (∃w,n1 aH w) v
include cp bp in
theorem Wq(h1:1<=aH.length)(ht:0<=t/\t<aH.length)(m:dd code):∃r,wW ((⟨aH⟩:ek),t,code)=some r/\(r.2=false->r.1=az)/\(r.2=true->Init aH t r.1):=by
 obtain⟨j,rfl⟩:∃j:Nat,t=(j:Int):=⟨t.toNat,by omega⟩
 have d:j<aH.length:=by omega
 have c:=cp _ (br d eR);obtain⟨e,bb,gi⟩:=qL cp bp ht.1 ht.2;obtain⟨u,v,y⟩:=L2 cp bp (code:=0) ⟨by simp,by simp⟩ h1;obtain⟨c1,c2⟩:=m;rw[wW,af (aS d)];simp only[a8,aq,a'];rw[e];unfold Init;simp only[a'];have p:=tO (aH.getD j eR);generalize ep aH (j:Int)=k at*;generalize aH.getD j eR=x at*;have l:=c.a;have F:=c.b;have n:k=1\/k=2\/k=3\/k=4\/k=5\/k=6\/k=7\/k=8\/k=9:=by omega
 rcases n with rfl|rfl|rfl|rfl|rfl|rfl|rfl|rfl|rfl
 . exact⟨_,rfl,λh=>(by cases h),λ_=>by unfold l7;simp⟩
 . have el:=GW c;have i:=Kj c;have aK:aQ .i64 (dL .i64 (x.A%7-3+x.B%6) (x.A%7-3)) 1=x.B%6+1:=by rw[iL (by omega) (by omega),jb (by omega) (by omega)];omega
   have f:cf (b9 .i64 code) (x.B%6+1)=code%(x.B%6+1):=by rw[kZ ⟨by omega,by omega⟩,hL c1]
   have D:0<=code%(x.B%6+1):=lX _ (by omega);have E:code%(x.B%6+1)<x.B%6+1:=lU _ (by omega);have dD:aQ .i64 (x.A%7-3) (code%(x.B%6+1))=x.A%7-3+code%(x.B%6+1):=jb (by omega) (by omega);simp only[Int.reduceEq,dF,ds,ca,b4,b7,aq,e',eS];rw[el];rw[i];simp only[aq];rw[aK,cq,f,dD];exact⟨_,rfl,λh=>(by cases h),λ_=>by unfold l7;simp;omega⟩
 . simp only[Int.reduceEq,dF,ds,ca,b4,b7,aq,e',eS];rw[hL l.1,hL c1];by_cases g:0<x.A%4
   . by_cases g2:code%2=1
     . rw[af (by simp[g,g2])];exact⟨_,rfl,λh=>(by cases h),λ_=>by unfold l7;simp;omega⟩
     . rw[al (by simp[g2])];exact⟨_,rfl,λh=>(by cases h),λ_=>by unfold l7;simp;omega⟩
   . rw[al (by simp[g])];exact⟨_,rfl,λh=>(by cases h),λ_=>by unfold l7;simp;omega⟩
 . obtain⟨C,G,H,I⟩:=p;simp only[Int.reduceEq,dF,ds,ca,b4,b7,aq,e',eS];rw[C];simp only[a8,aq];have D:0<=code%((j9 x).length:Int):=lX _ (by omega);have E:code%((j9 x).length:Int)<((j9 x).length:Int):=lU _ (by omega);rw[af (sO (by omega)),kZ ⟨by omega,by omega⟩,hL c1];obtain⟨q,s⟩:∃q:Nat,code%((j9 x).length:Int)=(q:Int):=⟨(code%((j9 x).length:Int)).toNat,by omega⟩
   rw[s,af (aS (by omega)),a'];exact⟨_,rfl,λh=>(by cases h),λ_=>by unfold l7;simp;rw[<-ye];exact br (by omega) 0⟩
 . exact⟨_,rfl,λ_=>rfl,λh=>by cases h⟩
 . exact⟨_,rfl,λ_=>rfl,λh=>by cases h⟩
 . exact⟨_,rfl,λh=>(by cases h),λ_=>by unfold l7;simp⟩
 . simp only[Int.reduceEq,dF,ds,ca,b4,b7,aq,e',eS];rw[v];rcases y with⟨rfl,a⟩|a
   . exact⟨_,rfl,λh=>(by cases h),λ_=>by unfold l7;simp;exactλw z=>a w z⟩
   . have o:¬u<0:=by have:=a.1;omega
     simp only[a8,aq];rw[al (by simp[o])];exact⟨_,rfl,λh=>(by cases h),λ_=>by unfold l7;simp;exact⟨u,a⟩⟩
 . exact⟨_,rfl,λh=>(by cases h),λ_=>by unfold l7;simp⟩
structure tl (aH:List fC)(i:Int)(record:Bool)(m:aU):Prop where
 id:1<=m.ae/\m.ae<=12
 name:m.Name=[UInt8.ofNat 109,UInt8.ofNat (97+m.ae.toNat)]
 qW:C' aH i m.aB
 fS:m.cv=true->m.bV=false
 un:record=false->m.cv=false/\m.bV=false
 Oj:m.bV=false->m.bz=az
 j2:m.bV=true->Init aH m.aB m.bz
include cp bp in
theorem JT(h1:1<=aH.length){i:Int}(f:0<=i/\i<aH.length){x:fC}(e:n3 x)(record:Bool){id:Int}(hid:1<=id/\id<=12){acc:List aU}(o:acc.length<=12):
 ∀(k j:Nat),j+k=x.cT.length->∃l,ql (i,record,id,(j:Int),aH,x,acc)=some (i,record,id,aH,x,acc++l)/\l.length<=1/\∀m,m∈l->m.ae=id/\tl aH i record m
 |0,j,q=>⟨[],by rw[ql,dE];simp,by simp,λm s=>by cases s⟩
 |k+1,j,q=>by
  have aE:j<x.cT.length:=by omega
  have J:=dM e.l;obtain⟨A,B,C⟩:=e.p _ (br aE abE);obtain⟨u,w,K⟩:=YS cp bp h1 f B;rw[ql,cq,af (aS aE)];simp only[a8,aq,a'];have z:xv ((⟨aH⟩:ek),i,(x.cT.getD j iG).aB)=some u:=w;rw[z];simp only[aq];generalize aj:x.cT.getD j iG=p;have M:dd p.ae:=by rw[<-aj];exact A
  have D:dd p.gX:=by rw[<-aj];exact C
  obtain⟨f1,f2⟩:=D;have aK:cf p.gX 4=p.gX%4:=hL f1;have n:gF .u8 p.gX 4=p.gX/4:=aaS f1 f2;have H:=JT h1 f e record hid o k (j+1) (by omega);by_cases g:(bif (!(decide (aQ .i64 1 (b9 .i64 (cf p.ae 12))=id)))then true else decide (u<0))=true
  . rw[af g,bH (by omega)];exact H
  . rw[al g];have c:C' aH i u:=(by grind);have v:=GV (k:=id) ⟨by omega,by omega⟩;rw[v];have t:([109]++[UInt8.ofNat (97+id.toNat)]:ao)=[UInt8.ofNat 109,UInt8.ofNat (97+id.toNat)]:=rfl;rw[af (fW (by simp)),t,aK,n];obtain⟨r,E,F,G⟩:=Wq cp bp h1 ⟨c.1,c.2.1⟩ (code:=p.gX/4) ⟨by omega,by omega⟩;have d:∀m:aU,room 160 (acc++[m]).length=true:=λm=>dB;have done:∀m:aU,m.ae=id->tl aH i record m->∃l,(some (i,record,id,aH,x,acc++[m]):Option (Int×Bool×Int×List fC×fC×List aU))=some (i,record,id,aH,x,acc++l)/\l.length<=1/\∀m,m∈l->m.ae=id/\tl aH i record m:=λm a b=>⟨[m],rfl,by simp,λy L=>by grind⟩
    cases record with
    |false=>
     simp only[e',ca,b4];rw[af (d _)];exact done _ rfl ⟨hid,rfl,c,λh=>(by cases h),λ_=>⟨rfl,rfl⟩,λ_=>rfl,λh=>by cases h⟩
    |true=>
     simp only[eS];by_cases g1:p.gX%4=1
     . rw[af (by simpa using g1),dE,af (d _)];exact done _ rfl ⟨hid,rfl,c,λ_=>rfl,λh=>(by cases h),λ_=>rfl,λh=>by cases h⟩
     . rw[al (by simpa using g1)];by_cases g2:2<=p.gX%4
       . rw[af (by simpa using g2),E];simp only[aq,I.bk];rw[af (d _)];exact done _ rfl ⟨hid,rfl,c,λh=>(by cases h),λh=>(by cases h),F,G⟩
       . rw[al (by simpa using g2),af (d _)];exact done _ rfl ⟨hid,rfl,c,λh=>(by cases h),λh=>(by cases h),λ_=>rfl,λh=>by cases h⟩
def tm(aH:List fC)(i:Int)(record:Bool)(l:List aU):Prop:=l.Pairwise (λa b=>a.ae<b.ae)/\(∀m,m∈l->tl aH i record m)/\l.length<=12
include cp bp in
theorem JU(h1:1<=aH.length){i:Int}(f:0<=i/\i<aH.length){x:fC}(j:n3 x)(record:Bool):∀(k id:Nat) (acc:List aU),id+k=13->1<=id->
 acc.Pairwise (λa b=>a.ae<b.ae)->(∀m,m∈acc->tl aH i record m/\m.ae<id)->acc.length<id->∃l,qn (i,record,(id:Int),aH,x,acc)=some l/\tm aH i record l
 |0,id,acc,n,h0,d,e,ad=>⟨acc,by rw[qn,dE],d,λm g=>(e m g).1,by omega⟩
 |k+1,id,acc,n,h0,d,e,ad=>by
  rw[qn,cq];obtain⟨l,o,l2,s⟩:=JT cp bp h1 f j record (id:=(id:Int)) ⟨by omega,by omega⟩ (acc:=acc) (by omega) x.cT.length 0 (by omega);have p:ql (i,record,(id:Int),0,aH,x,acc)=_:=o;rw[p];simp only[a8,aq];rw[bH (by omega)];refine JU h1 f j record k (id+1) _ (by omega) (by omega) ?_ (λm g=>?_) (by simp;omega)
  . rw[DW];refine⟨d,?_,λa q b r=>?_⟩
    . match l,l2 with
      |[],_=>exact .nil
      |[a],_=>simp
      |a::b::c,h=>simp at h
    grind
  grind
include cp bp in
theorem JV(h1:1<=aH.length){i:Int}(b:0<=i/\i<aH.length)(record:Bool):∃l,rK ((⟨aH⟩:ek),i,record)=some l/\tm aH i record l:=by
 obtain⟨j,rfl⟩:∃j:Nat,i=(j:Int):=⟨i.toNat,by omega⟩
 have a:j<aH.length:=by omega
 have d:=cp _ (br a eR);obtain⟨l,e,l2⟩:=JU cp bp h1 b d record 12 1 [] (by omega) (by omega) .nil (λm c=>by cases c) (by simp);refine⟨l,?_,l2⟩;have f:qn ((j:Int),record,1,aH,aH.getD j eR,[])=some l:=e;rw[rK,af (aS a),a'];grind
def py(l:au):List c6:=l.map λj=>⟨j,[UInt8.ofNat 115,UInt8.ofNat (97+j.toNat)]⟩
theorem Kk{l:au}(ad:l.length<=6)(o:∀x,x∈l->1<=x/\x<=6)(n i:Int)(b:List fC)(b1:Int)(b2:ao)(a c d e f:Int)(g:Bool)(m:List ah):∀(k j:Nat) (acc:List c6),j+k=l.length->acc.length<=j->
 oE (n,i,l,(j:Int),b,b1,b2,a,c,d,e,f,g,m,acc)=some (n,i,b,b1,b2,a,c,d,e,f,g,m,acc++py (l.drop j))
 |0,j,acc,q,p=>by
  rw[oE,dE,fr (by omega:l.length<=j)];simp[py]
 |k+1,j,acc,q,p=>by
  have aE:j<l.length:=by omega
  have r:=o _ (br aE 0);rw[oE,cq,af (aS aE),af (aS aE)];simp only[a8,aq,a'];rw[GV ⟨by omega,by omega⟩,af (fW (by simp)),af (dB),bH (by omega),Kk ad o n i b b1 b2 a c d e f g m k (j+1) _ (by omega) (by simp;omega),eD aE 0];simp[py]
def fF(aH:List fC)(i:Int)(t:ah):Prop:=
 let x:=aH.getD i.toNat eR;let n:=(aH.length:Int)
 let a:=[UInt8.ofNat (65+i.toNat)]
 (ep aH i=1/\t=⟨1,[],0,0,0,[],[],0,0,false⟩)\/
 (ep aH i=2/\t=⟨2,[],x.A%7-3,x.A%7-3+x.B%6,0,[],[],0,0,false⟩)\/
 (ep aH i=3/\t=⟨3,[],0,0,x.A%4,[],[],0,0,false⟩)\/
 (ep aH i=4/\∃o,t=⟨4,a,0,0,0,py (j9 x),[],0,0,o⟩)\/
 (ep aH i=5/\∃l,tm aH i true l/\t=⟨5,a,0,0,0,[],l,0,0,false⟩)\/
 (ep aH i=6/\t=⟨5,a,0,0,0,[],[],0,0,false⟩)\/
 (ep aH i=6/\∃l o,tm aH i false l/\0<l.length/\t=⟨6,a,0,0,0,[],l,0,0,o⟩)\/
 (ep aH i=7/\t=⟨7,[],0,0,x.A%4,[],[],0,x.C%n,false⟩)\/
 (ep aH i=8/\(∀w,¬n1 aH w)/\t=⟨7,[],0,0,x.A%4,[],[],0,x.C%n,false⟩)\/
 (ep aH i=8/\∃k,n1 aH k/\t=⟨8,[],0,0,x.A%4,[],[],k,x.C%n,false⟩)\/
 (ep aH i=9/\t=⟨9,[],0,0,0,[],[],0,x.C%n,false⟩)
include cp bp in
theorem Oo(h1:1<=aH.length):∀(k i:Nat) (acc:List ah),i+k=aH.length->acc.length=i->(∀j,j<i->fF aH (j:Int) (acc.getD j aN))->
 ∃l,fP ((aH.length:Int),(i:Int),aH,acc)=some l/\l.length=aH.length/\∀j,j<aH.length->fF aH (j:Int) (l.getD j aN)
 |0,i,acc,E,ad,w=>⟨acc,by rw[fP,dE],by omega,λj F=>w j (by omega)⟩
 |k+1,i,acc,E,ad,w=>by
  have aE:i<aH.length:=by omega
  have m:=cp _ (br aE eR);obtain⟨e,bb,gi⟩:=qL cp bp (i:=(i:Int)) (by omega) (by omega);have next:∀t:ah,fF aH (i:Int) t->∃l,(if room 120 (acc++[t]).length then fP ((aH.length:Int),aQ .i64 (i:Int) 1,aH,acc++[t])else none)=some l/\l.length=aH.length/\∀j,j<aH.length->fF aH (j:Int) (l.getD j aN):=by
   intro t ht;rw[af (dB),bH (by omega)];refine Oo h1 k (i+1) _ (by omega) (by simp;omega) λj F=>?_;grind
  rw[fP,cq,af (aS aE)];simp only[a8,aq,a'];rw[e];simp only[aq,jV];have q:=aaT (k:=(i:Int)) ⟨by omega,by omega⟩;have dr:∀t,fF aH (i:Int) t->fF aH (i:Int) t:=λt h=>h;have⟨s,ea,v⟩:dd (aH.getD i eR).A/\dd (aH.getD i eR).B/\dd (aH.getD i eR).C:=⟨m.a,m.b,m.c⟩
  have n:(!(decide ((aH.length:Int)=0)))=true:=sO (by omega);have o:b9 .i64 (cf (aH.getD i eR).A 4)=(aH.getD i eR).A%4:=by
   unfold dd at s;rw[hL s.1,kZ ⟨by omega,by omega⟩]
  have p:cf (b9 .i64 (aH.getD i eR).C) (aH.length:Int)=(aH.getD i eR).C%(aH.length:Int):=by
   unfold dd at v;rw[kZ ⟨by omega,by omega⟩,hL v.1]
  have D:ep aH (i:Int)=1\/ep aH (i:Int)=2\/ep aH (i:Int)=3\/ep aH (i:Int)=4\/ep aH (i:Int)=5\/ep aH (i:Int)=6\/ep aH (i:Int)=7\/ep aH (i:Int)=8\/ep aH (i:Int)=9:=by omega
  rcases D with d|d|d|d|d|d|d|d|d<;>rw[d] <;>
   simp only[Int.reduceEq,dF,ds,ca,b4,b7,aq,e',eS]
  . exact next _ (by unfold fF;simp[d])
  . have el:=GW m;have x:=Kj m;have z:o6 (aH.getD i bt)=_:=el;have y:rS (aH.getD i bt)=_:=x;rw[z];simp only[aq];rw[y];simp only[aq];exact next _ (by unfold fF;simp only[a'];exact .inr (.inl ⟨d,by first|trivial|rfl⟩))
  . have f:b9 .i64 (cf (aH.getD i bt).A 4)=_:=o;rw[f];exact next _ (by unfold fF;simp only[a'];exact .inr (.inr (.inl ⟨d,by first|trivial|rfl⟩)))
  . obtain⟨H,J,O,K⟩:=tO (aH.getD i eR);have I:nA (aH.getD i bt)=_:=H;rw[I];simp only[aq];have hs:=Kk (l:=j9 (aH.getD i eR)) K J.2 (aH.length:Int) (i:Int) aH 4 (mq (b9 .i32 (aQ .i64 65 (i:Int)))) 0 0 0 0 0 (decide (cf (aH.getD i eR).B 2=1)) acc (j9 (aH.getD i eR)).length 0 [] (by omega) (by simp);have G:oE ((aH.length:Int),(i:Int),j9 (aH.getD i eR),0,aH,4,mq (b9 .i32 (aQ .i64 65 (i:Int))),0,0,0,0,0,decide (cf (aH.getD i bt).B 2=1),acc,[])=_:=hs;rw[G];simp only[aq,hl,hZ];rw[q];exact next _ (by unfold fF;simp only[a'];exact .inr (.inr (.inr (.inl ⟨d,_,rfl⟩))))
  . obtain⟨l,r,l2⟩:=JV cp bp h1 (i:=(i:Int)) ⟨by omega,by omega⟩ true;rw[r];simp only[aq];rw[q];exact next _ (by unfold fF;simp only[a'];exact .inr (.inr (.inr (.inr (.inl ⟨d,l,l2,rfl⟩)))))
  . obtain⟨l,r,l2⟩:=JV cp bp h1 (i:=(i:Int)) ⟨by omega,by omega⟩ false;rw[r];simp only[aq];rw[q];by_cases h0:l.length=0
    . rw[af (by simp[h0])];exact next _ (by unfold fF;simp only[a'];exact .inr (.inr (.inr (.inr (.inr (.inl ⟨d,by first|trivial|rfl⟩))))))
    . rw[al (by simp;intro h;rw[h]at h0;simp at h0)];exact next _ (by unfold fF;simp only[a'];exact .inr (.inr (.inr (.inr (.inr (.inr (.inl ⟨d,l,_,l2,by omega,rfl⟩)))))))
  . have f:b9 .i64 (cf (aH.getD i bt).A 4)=_:=o;have g:cf (b9 .i64 (aH.getD i bt).C) (aH.length:Int)=_:=p;rw[af n,f,g];exact next _ (by unfold fF;simp only[a'];exact .inr (.inr (.inr (.inr (.inr (.inr (.inr (.inl ⟨d,by first|trivial|rfl⟩))))))))
  . have f:b9 .i64 (cf (aH.getD i bt).A 4)=_:=o;have g:cf (b9 .i64 (aH.getD i bt).C) (aH.length:Int)=_:=p;obtain⟨u,L,N⟩:=L2 cp bp ea h1;have M:rX ((⟨aH⟩:ek),(aH.getD i bt).B)=some u:=L;rw[M];simp only[aq];rw[af n,f,g];rcases N with⟨rfl,a⟩|a
    . rw[j7];exact next _ (by unfold fF;simp only[a'];exact .inr (.inr (.inr (.inr (.inr (.inr (.inr (.inr (.inl ⟨d,a,by first|trivial|rfl⟩)))))))))
    . rw[al (by have:=a.1;simp;omega)];exact next _ (by unfold fF;simp only[a'];exact .inr (.inr (.inr (.inr (.inr (.inr (.inr (.inr (.inr (.inl ⟨d,u,a,rfl⟩))))))))))
  . have g:cf (b9 .i64 (aH.getD i bt).C) (aH.length:Int)=_:=p;rw[af n,g];exact next _ (by unfold fF;simp only[a'];exact .inr (.inr (.inr (.inr (.inr (.inr (.inr (.inr (.inr (.inr ⟨d,by first|trivial|rfl⟩))))))))))
end
def q5(d:ek):Prop:=d.ed.length<=reachBytes/\∀x,x∈d.ed->n3 x
theorem of_eq{d:ek}(a:q5 d):p2 d=some (⟨[]⟩,false)\/∃l,p2 d=some (⟨l⟩,true)/\1<=d.ed.length/\d.ed.length<=5/\l.length=d.ed.length/\∀j,j<d.ed.length->fF d.ed (j:Int) (l.getD j aN):=by
 rw[p2];simp only[a8,aq];by_cases h:1<=d.ed.length/\d.ed.length<=5
 . obtain⟨l,c,l2,e⟩:=Oo a.2 h.2 h.1 d.ed.length 0 [] (by omega) rfl (λj b=>by omega);grind
 grind
structure dW (ts:List ah):Prop where
 cV:1<=ts.length
 eO:ts.length<=5
 T:∀t,t∈ts->fD t
 V:pF ts
 D:∀t,t∈ts->aaR ts t.ag
 R:∀i:Nat,i<ts.length->∀m,m∈(ts.getD i aN).ag->0<=m.aB/\m.aB<ts.length/\(7<=(ts.getD m.aB.toNat aN).Kind\/m.aB<i)
 L:∀t,t∈ts->t.Kind=2->-3<=t.bE/\t.bG<=8
 M:∀t,t∈ts->t.Max<=3
 cr:∀t,t∈ts->(∀m,m∈t.ag->m.ae<=12)/\(∀y,y∈t.bg->y.ae<=6)/\t.ag.length<=12
 W:∀t,t∈ts->∀m,m∈t.ag->m.bV=true->wt m.bz<=13
theorem oM(e:v.aG=[])(d:v.ai=[])(f:v.Rest=[])(hs:v.bx.length<=1000)(cV:cx v.Kind)(b:cx v.bo)(c:cx v.ae):b3 v:=by
 refine .mk v (by grind[reachBytes]) (by grind) (by grind) (by grind) (λx a=>?_) (λx a=>?_) (λx a=>?_) cV b c (λx a=>?_)
 all_goals grind
theorem Ou:b3 az:=oM rfl rfl rfl (by simp[az]) (by grind[cx,az]) (by grind[cx,az]) (by grind[cx,az])
theorem Kl(b:v.aG=[])(a:v.ai=[])(c:v.Rest=[]):wt v=10+v.bx.length:=by
 grind[hz,ja]
section
variable {aH:List fC}(cp:∀x,x∈aH->n3 x)(bp:aH.length<=5)(h1:1<=aH.length){l:List ah}(ad:l.length=aH.length)(dr:∀j,j<aH.length->fF aH (j:Int) (l.getD j aN))
include cp bp in
theorem Km(ht:0<=t/\t<aH.length)(h:Init aH t v):b3 v/\wt v<=13:=by
 obtain⟨a,b,c,h⟩:=h;obtain⟨j,rfl⟩:∃j:Nat,t=j:=⟨t.toNat,by omega⟩
 obtain⟨_,bb,gi⟩:=qL cp bp ht.1 ht.2;rw[a']at h;have d:=(tO (aH.getD j eR)).2.1.2;rw[Kl a b c];have hs:v.bx.length<=3:=by grind
 refine⟨oM a b c (by omega) ?_ ?_ ?_,by omega⟩
 . unfold cx;rcases h with h|h|h|h|h<;>omega
 . unfold cx;rcases h with⟨_,_,e,_⟩|⟨_,_,_,_,_,e⟩|⟨_,_,_,e,_⟩|⟨_,_,_,e,_⟩|⟨_,_,e,_⟩<;>omega
 . unfold cx;grind
include cp bp in
theorem HU{i:Int}{r:Bool}{e:List aU}(h:tm aH i r e):oZ (!r) e\/(r=false/\e=[]):=by
 obtain⟨a,b,c⟩:=h;by_cases h0:r=false/\e=[]
 . grind
 left;refine⟨λm d=>?_,?_,⟨a,λm d=>?_⟩,λm d=>?_,?_,by omega⟩
 . have q:=b m d;unfold n9;have p:m.bV=false->oX m.bz=true:=λh=>by
    rw[q.Oj h];have g:=BJ Ou az;obtain⟨w,t,u⟩:=g;grind[oX]
   have n:=q.fS;have o:=q.un;grind
 . grind
 . have:=(b m d).id;exact⟨by omega,by omega⟩
 . have q:=b m d;have:=q.id;rw[q.name];exact L0 (by simp) (by omega)
 . unfold List.Nodup;rw[nP];refine a.imp_of_mem λ{x y} j k aE=>?_;have l:=b x j;have f:=b y k;have s:=f.id;rw[l.name,f.name];grind[nF]
theorem HV{l:au}(h:tj l 6)(h1:1<=l.length)(c:l.length<=6):ze (py l)/\(∀y,y∈py l->y.ae<=6):=by
 unfold py;refine⟨⟨by grind,⟨?_,λy a=>?_⟩,λy a=>?_,?_,by grind⟩,λy a=>?_⟩
 . rw[nP];exact h.1
 . obtain⟨x,b,rfl⟩:=fT.1 a;have:=h.2 x b;exact⟨this.1,by grind⟩
 . obtain⟨x,b,rfl⟩:=fT.1 a;have:=h.2 x b;exact L0 (by simp) (by omega)
 . unfold List.Nodup;rw[nP,nP];refine h.1.imp_of_mem λ{x y} b a aE=>?_;have d:=h.2 y a;grind[nF]
 . obtain⟨x,b,rfl⟩:=fT.1 a;exact(h.2 x b).2
theorem Kn{i:Int}{t:ah}(h:fF aH i t):(ep aH i<=5\/ep aH i=7\/ep aH i=9->t.Kind=ep aH i)/\(ep aH i=6->t.Kind=5\/t.Kind=6)/\(ep aH i=8->(t.Kind=8/\∃w,n1 aH w)\/(t.Kind=7/\¬∃w,n1 aH w)):=by
 rcases h with⟨k,rfl⟩|⟨k,rfl⟩|⟨k,rfl⟩|⟨k,_,rfl⟩|⟨k,_,_,rfl⟩|⟨k,rfl⟩|⟨k,_,_,_,_,rfl⟩|⟨k,rfl⟩|⟨k,a,rfl⟩|⟨k,w,a,rfl⟩|⟨k,rfl⟩<;>simp[k]
 . omega
 grind
theorem Gl{i:Int}{t:ah}(h:fF aH i t):t.ag=[]\/∃r,tm aH i r t.ag:=by
 rcases h with⟨k,rfl⟩|⟨k,rfl⟩|⟨k,rfl⟩|⟨k,_,rfl⟩|⟨k,_,a,rfl⟩|⟨k,rfl⟩|⟨k,_,_,a,_,rfl⟩|⟨k,rfl⟩|⟨k,a,rfl⟩|⟨k,w,a,rfl⟩|⟨k,rfl⟩
 all_goals grind
include cp bp h1 ad dr in
theorem ZA:dW l:=by
 have p:∀{P:ah->Prop},(∀j,j<aH.length->P (l.getD j aN))->∀t,t∈l->P t:=λaj t ht=>by
  obtain⟨i,n,rfl⟩:=jf ht;grind
 have B:∀j,j<aH.length->n3 (aH.getD j eR):=λj d=>cp _ (br d eR);have F:∀j,j<aH.length->∀m,m∈(l.getD j aN).ag->∃r,tl aH (j:Int) r m:=λj d m f=>by
  rcases Gl (dr j d)with h|⟨r,_,h,_⟩
  . grind
  grind
 have Z:∀t,t∈l->fD t:=p λj d=>by
  have f:=F j d;have ht:=dr j d;have af:(l.getD j aN).ag.length<=12:=by
   rcases Gl ht with h|⟨r,_,_,h⟩
   . rw[h];simp
   . exact h
  have ai:(l.getD j aN).bg.length<=6:=by
   have n:=(tO (aH.getD j eR)).2.2.2;unfold fF at ht;rcases ht with⟨k,e⟩|⟨k,e⟩|⟨k,e⟩|⟨k,_,e⟩|⟨k,_,_,e⟩|⟨k,e⟩|⟨k,_,_,_,_,e⟩|⟨k,e⟩|⟨k,_,e⟩|⟨k,_,_,e⟩|⟨k,e⟩<;>rw[e]
   case inr.inr.inr.inl=>simp only[a',py,sU];exact n
   all_goals simp
  refine⟨by unfold reachBytes;omega,by unfold reachBytes;omega,λm Y=>?_⟩;obtain⟨r,q⟩:=f m Y;by_cases E:m.bV=true
  . exact(Km cp bp ⟨q.qW.1,q.qW.2.1⟩ (q.j2 E)).1
  . rw[q.Oj (by simpa using E)];exact Ou
 have am:∀u:Int,0<=u->u<aH.length->7<=ep aH u->7<=(l.getD u.toNat aN).Kind:=λu h0 A J=>by
  obtain⟨j,rfl⟩:∃j:Nat,u=(j:Int):=⟨u.toNat,by omega⟩
  rw[a'];obtain⟨_,_,gi⟩:=qL cp bp h0 A;obtain⟨a,b,c⟩:=Kn (dr j (by omega));omega
 have aa:pF l:=by
  refine⟨by omega,p λj d=>?_,λj d=>?_,p λj d=>?_,p λj d G=>?_⟩
  . have ht:=dr j d;have hid:=tO (aH.getD j eR);have z:=(B j d).a;have K:=(B j d).b;have H:nm [UInt8.ofNat (65+j)]=true:=aaU (by omega);unfold dd at z K;unfold fF at ht;simp only[a']at ht;generalize [UInt8.ofNat (65+j)]=ao at H ht;unfold gI;rcases ht with⟨k,e⟩|⟨k,e⟩|⟨k,e⟩|⟨k,_,e⟩|⟨k,g,a,e⟩|⟨k,e⟩|⟨k,g,_,a,a0,e⟩|⟨k,e⟩|⟨k,_,e⟩|⟨k,_,_,e⟩|⟨k,e⟩<;>rw[e]
    . simp
    . simp;omega
    . simp;omega
    . simp;exact⟨H,(HV hid.2.1 hid.2.2.1 hid.2.2.2).1⟩
    . simp;refine⟨H,?_⟩;rcases HU cp bp a with h|⟨h,_⟩
      . exact h
      . cases h
    . simp;exact⟨H,λm f=>(by cases f),.inl rfl,⟨.nil,λm f=>by cases f⟩,λm f=>(by cases f),by simp,by simp⟩
    . simp;refine⟨H,?_⟩;rcases HU cp bp a with h|⟨_,h⟩
      . exact h
      grind
    . simp;omega
    . simp;omega
    . simp;omega
    . simp
  ·
   have U:∀k,k<aH.length->(l.getD k aN).Name=[]\/(l.getD k aN).Name=[UInt8.ofNat (65+k)]:=λk S=>by
    have ht:=dr k S;unfold fF at ht;simp only[a']at ht;rcases ht with⟨k,e⟩|⟨k,e⟩|⟨k,e⟩|⟨k,_,e⟩|⟨k,g,a,e⟩|⟨k,e⟩|⟨k,g,_,a,a0,e⟩|⟨k,e⟩|⟨k,_,e⟩|⟨k,_,_,e⟩|⟨k,e⟩<;>rw[e]<;>simp
   rcases U j (by omega)with h|h
   . rw[h];simp
   . rw[h];simp only[Bool.and_eq_false_iff];right;apply Bool.eq_false_iff.2;intro L;obtain⟨k,S,he⟩:=(p7 (by simp;omega)).1 L;have ak:(l.map (·.Name)).getD k []=(l.getD k aN).Name:=ij (·.Name) l k aN [] (by omega);rw[ak]at he;rcases U k (by omega)with Q|Q
     . grind
     . rw[Q]at he;simp only[List.cons.injEq,vn]at he;have s:=dK UInt8.toNat he;rw[nF (by omega),nF (by omega)]at s;omega
  . intro u A;have f:=F j d;have L:=(B j d).c;unfold dd at L;have V:0<=(aH.getD j eR).C%(aH.length:Int):=lX _ (by omega);have c1:(aH.getD j eR).C%(aH.length:Int)<aH.length:=lU _ (by omega);have ht:=dr j d;unfold fF at ht;simp only[a']at ht;generalize (aH.getD j eR).C%(aH.length:Int)=ad at V c1 ht;unfold fu at A;simp only[hP,fT]at A;rcases A with(⟨m,h,rfl⟩|h)|h
    . obtain⟨r,q⟩:=f m h;have:=q.qW.1;have:=q.qW.2.1;omega
    . split at h
      . rename_i G;have:u=(l.getD j aN).Key:=(by simpa using h);rw[this];rcases ht with⟨k,e⟩|⟨k,e⟩|⟨k,e⟩|⟨k,_,e⟩|⟨k,g,a,e⟩|⟨k,e⟩|⟨k,g,_,a,a0,e⟩|⟨k,e⟩|⟨k,_,e⟩|⟨k,w,a,e⟩|⟨k,e⟩<;>rw[e]at G⊢<;>simp at G⊢;obtain⟨kN,ab,_⟩:=a;omega
      . cases h
    . split at h
      . rename_i J;have:u=(l.getD j aN).aC:=(by simpa using h);rw[this];rcases ht with⟨k,e⟩|⟨k,e⟩|⟨k,e⟩|⟨k,_,e⟩|⟨k,g,a,e⟩|⟨k,e⟩|⟨k,g,_,a,a0,e⟩|⟨k,e⟩|⟨k,_,e⟩|⟨k,w,a,e⟩|⟨k,e⟩<;>rw[e]at J⊢<;>simp at J⊢<;>omega
      . cases h
  . have ht:=dr j d;unfold fF at ht;simp only[a']at ht;rcases ht with⟨k,e⟩|⟨k,e⟩|⟨k,e⟩|⟨k,_,e⟩|⟨k,g,a,e⟩|⟨k,e⟩|⟨k,g,_,a,a0,e⟩|⟨k,e⟩|⟨k,_,e⟩|⟨k,w,a,e⟩|⟨k,e⟩<;>rw[e]at G⊢<;>simp at G⊢;obtain⟨kN,ab,ar,au⟩:=a;obtain⟨q,rfl⟩:∃q:Nat,w=(q:Int):=⟨w.toNat,by omega⟩
    obtain⟨a,_,_⟩:=Kn (dr q (by omega));have:=a (.inl (by omega));simp_all
 refine⟨by omega,by omega,Z,aa,p λj d m f E=>?_,λj d m f=>?_,p λj d R=>?_,p λj d=>?_,p λj d=>⟨λm f=>?_,λy M=>?_,?_⟩,p λj d m f E=>?_⟩
 . obtain⟨r,q⟩:=F j d m f;have n:=q.j2 E;obtain⟨N,O,_⟩:=q.qW;generalize m.bz=v at n;obtain⟨u,A⟩:∃u:Nat,m.aB=(u:Int):=⟨m.aB.toNat,by omega⟩
   rw[A]at n N O⊢;have ht:=dr u (by omega);obtain⟨a,b,c,n⟩:=n;rw[hc];simp only[a']at n⊢;unfold fF at ht;simp only[a']at ht;have X:((l.length:Nat):Int)=aH.length:=(by omega);rw[X];generalize l.getD u aN=x at ht⊢;rw[a,b,c];have aq:∀t,e3 l true t []:=λt=>by rw[e3];trivial
   have al:jA []:=λi n=>by simp at n
   have T:=B u (by omega);generalize aH.getD u eR=an at ht n T;rcases n with⟨k,aK,s,dD,D⟩|⟨k,aK,s,dD,D,j3,pM⟩|⟨k,aK,s,dD,D,j3⟩|⟨k,aK,s,dD,D,j3⟩|⟨k,aK,s,dD,D,j3⟩
   . rw[k]at ht;grind
   . rw[k]at ht;grind
   . rw[k]at ht;grind
   . rw[k]at ht;simp only[Int.reduceEq,false_and,true_and,or_false,false_or]at ht;obtain⟨o,rfl⟩:=ht;rw[aK,s,dD,D];simp;refine⟨by omega,⟨v.ae,[UInt8.ofNat 115,UInt8.ofNat (97+v.ae.toNat)]⟩,?_,rfl⟩;unfold py;grind
   . rw[aK,s,dD,D];have gi:ep aH (u:Int)<=9:=(qL cp bp N O).2.2;have W:ep aH (u:Int)=7\/ep aH (u:Int)=8\/ep aH (u:Int)=9:=(by omega);have z:=T.a;unfold dd at z;rcases W with I|I|I
     . rw[I]at ht j3;grind
     . rw[I]at ht j3;grind
     . rw[I]at ht j3;grind
 . obtain⟨r,q⟩:=F j (by omega) m f;obtain⟨N,O,ap⟩:=q.qW;grind
 . have ht:=dr j d;have z:=(B j d).a;have K:=(B j d).b;unfold dd at z K;unfold fF at ht;simp only[a']at ht;rcases ht with⟨k,e⟩|⟨k,e⟩|⟨k,e⟩|⟨k,_,e⟩|⟨k,g,a,e⟩|⟨k,e⟩|⟨k,g,_,a,a0,e⟩|⟨k,e⟩|⟨k,_,e⟩|⟨k,w,a,e⟩|⟨k,e⟩<;>rw[e]at R⊢<;>simp at R⊢;omega
 . have ht:=dr j d;have z:=(B j d).a;unfold dd at z;unfold fF at ht;simp only[a']at ht;rcases ht with⟨k,e⟩|⟨k,e⟩|⟨k,e⟩|⟨k,_,e⟩|⟨k,g,a,e⟩|⟨k,e⟩|⟨k,g,_,a,a0,e⟩|⟨k,e⟩|⟨k,_,e⟩|⟨k,w,a,e⟩|⟨k,e⟩<;>rw[e]<;>simp<;>omega
 . obtain⟨r,q⟩:=F j d m f;exact q.id.2
 . have ht:=dr j d;have hid:=tO (aH.getD j eR);unfold fF at ht;simp only[a']at ht;rcases ht with⟨k,e⟩|⟨k,e⟩|⟨k,e⟩|⟨k,_,e⟩|⟨k,g,a,e⟩|⟨k,e⟩|⟨k,g,_,a,a0,e⟩|⟨k,e⟩|⟨k,_,e⟩|⟨k,w,a,e⟩|⟨k,e⟩<;>rw[e]at M<;>simp at M;exact(HV hid.2.1 hid.2.2.1 hid.2.2.2).2 y M
 . rcases Gl (dr j d)with h|⟨r,_,_,h⟩
   . rw[h];simp
   . exact h
 . obtain⟨r,q⟩:=F j d m f;exact(Km cp bp ⟨q.qW.1,q.qW.2.1⟩ (q.j2 E)).2
end
theorem D5{d:ek}(g:q5 d):p2 d=some (⟨[]⟩,false)\/∃l,p2 d=some (⟨l⟩,true)/\dW l:=by
 rcases of_eq g with h|⟨l,a,b,c,e,f⟩
 . grind
 . exact .inr ⟨l,a,ZA g.2 c b e f⟩
def fv(a C:au):Prop:=a.length<=C.length/\∀c,c∈a->c∈C
theorem fv.refl(C:au):fv C C:=⟨e9 _,λ_ h=>h⟩
theorem fv.trans{A B C:au}(h:fv A B)(k:fv B C):fv A C:=⟨gz h.1 k.1,λc a=>k.2 c (h.2 c a)⟩
def gH(C:au):Prop:=∀c,c∈C->dd c
theorem gH.dQ{A B:au}(h:gH B)(k:fv A B):gH A:=λc a=>h c (k.2 c a)
section
variable {ts:List ah}
theorem kU{n:Int}(aP:1<=n/\n<=1000){C:au}(de:gH C)(ad:C.length<=1000)(odd:Bool):
 ∃r a,iD (n,ts,C,odd)=some (r,ts,a,odd)/\0<=r/\r<n/\fv a C/\(r=0/\a=[]/\C=[]\/a.length+1=C.length):=by
 rw[iD];cases C with
 |nil=>
  exact⟨0,[],rfl,by simp,by omega,fv.refl _,.inl ⟨rfl,rfl,rfl⟩⟩
 |cons c C=>
  have b:=de c (.head _);unfold dd at b;have h1:ez 1 (c::C).length (c::C).length=true:=lO (by simp) (by simp);have d:e1 (c::C) 1 (c::C).length=C:=by
   have:=sL (c::C) 1;grind
  rw[af (sO (by omega)),af h1,d];simp only[sX,mG];rw[kZ ⟨by omega,by omega⟩,hL b.1];exact⟨_,C,rfl,lX _ (by omega),lU _ (by omega),⟨by simp,λx e=>.tail _ e⟩,.inr (by rfl)⟩
theorem GY{C:au}(de:gH C)(ad:C.length<=1000)(odd:Bool):
 ∃o a,uF (ts,C,odd)=some (o,ts,a,odd)/\(odd=false->o=false)/\fv a C:=by
 rw[uF];cases odd with
 |false=>grind[fv.refl]
 |true=>
  obtain⟨r,a,h1,_,_,b,_⟩:=kU (n:=4) ⟨by simp,by simp⟩ de ad _;rw[h1];exact⟨_,a,rfl,λh=>(by grind),b⟩
theorem ZU(b:x.ag.length<9223372036854775807)(hs:x.bg.length<9223372036854775807)(n:Int):dj (AV (x,n)) ((∃m,m∈x.ag/\m.ae=n)\/∃y,y∈x.bg/\y.ae=n):=by
 obtain⟨r,_,c,a⟩:=ml n b;obtain⟨s,_,d,ak⟩:=ur n hs;rw[AV,c];rw[d];refine⟨_,rfl,?_⟩;have h1:=E' ak;have f:r.2=true↔∃m,m∈x.ag/\m.ae=n:=by
  rcases rC a with⟨e,j,g,_,_,i⟩|⟨e,q⟩
  . grind
  grind[sD]
 grind
theorem HW(b:x.ag.length<9223372036854775807)(hs:x.bg.length<9223372036854775807)(c:∀m,m∈x.ag->m.ae<=12)(d:∀y,y∈x.bg->y.ae<=6)(C:au)(odd:Bool):
 ∀(k:Nat) (n:Int),1<=n->n<=14->13<=n+k->∃cF,tV (n,ts,C,odd,x)=some (cF,ts,C,odd)/\1<=cF/\cF<=14/\(∀m,m∈x.ag->m.ae≠cF)/\(∀y,y∈x.bg->y.ae≠cF)
 |k,n,h1,f,a=>by
  obtain⟨r,e,i⟩:=ZU b hs n;rw[tV,e];cases r with
  |false=>grind
  |true=>
   have g:n<=12:=(by grind);rw[jb (by omega) (by omega)]
   match k,a with
   |0,a=>omega
   |k+1,a=>exact HW b hs c d C _ k _ (by omega) (by omega) (by omega)
theorem Gm(e:x.ag.length<9223372036854775807)(hs:x.bg.length<9223372036854775807)(b:∀m,m∈x.ag->m.ae<=12)(d:∀y,y∈x.bg->y.ae<=6){C:au}(de:gH C)(ad:C.length<=1000)(odd:Bool):
 ∃n a,qh (x,ts,C,odd)=some (n,ts,a,odd)/\cK n/\cU x.ag n=none/\fv a C:=by
 obtain⟨r,a,h1,f,g,c,_⟩:=kU (ts:=ts) (n:=14) ⟨by simp,by simp⟩ de ad odd;obtain⟨n,cV,i,j,k,_⟩:=HW (ts:=ts) e hs b d a odd 12 (1+r) (by omega) (by omega) (by omega);refine⟨n,a,?_,⟨by omega,by omega⟩,?_,c⟩
 . grind[qh,jb]
 grind[cU]
theorem JX{n:Int}{C:au}(de:gH C)(ad:C.length<=1000)(odd:Bool):∃d a,uG (n,ts,C,odd)=some (⟨n,d⟩,ts,a,odd)/\d.length<=3/\fv a C:=by
 obtain⟨r,a,h1,b,c,e,_⟩:=kU (n:=4) ⟨by simp,by simp⟩ de ad _;obtain⟨k,rfl⟩:∃k:Nat,r=k:=⟨r.toNat,by omega⟩
 rw[uG];simp;rw[h1];simp only[aq];rw[af (aS (by grind))];grind
theorem Ko(odd:Bool):∀(k:Nat) (s:ao) (C:au),k<=100->gH C->C.length<=1000->s.length+k<=100->∃s' a,r5 (s,(k:Int),ts,C,odd)=some (s',ts,a,odd)/\s'.length<=s.length+k/\fv a C
 |0,s,C,f,de,ad,hs=>⟨s,C,by simp_all[r5],by simp,fv.refl _⟩
 |k+1,s,C,f,de,ad,hs=>by
  obtain⟨r,a,h1,d,i,b,_⟩:=kU (n:=3) ⟨by simp,by simp⟩ de ad _;have g:decide (0<((k+1:Nat):Int))=true:=by simp
  have e:dL .i64 (k+1:Nat) 1=k:=by grind[iL]
  rw[r5,af g,h1];simp only[a8,aq];rw[GV ⟨d,by omega⟩,af (fW (by grind)),e];obtain⟨s',c,a1,a2,a3⟩:=Ko _ k (s++[UInt8.ofNat _]) a (by omega) (de.dQ b) (by grind) (by grind);exact⟨s',c,a1,by grind,a3.trans b⟩
theorem ZV{most:Int}(f:0<=most/\most<=1000){C:au}(de:gH C)(ad:C.length<=1000)(odd:Bool):∃s a,Bf (most,ts,C,odd)=some (s,ts,a,odd)/\(s.length:Int)<=most/\s.length<=3/\fv a C:=by
 have em:aQ .i64 (eN most 3) 1=min most 3+1:=by
  have:eN _ 3=min most 3:=rfl;grind[jb]
 obtain⟨r,a,h1,d,e,b,_⟩:=kU (ts:=ts) (n:=min most 3+1) ⟨by omega,by omega⟩ de ad odd;obtain⟨k,rfl⟩:∃k:Nat,r=k:=⟨r.toNat,by omega⟩
 obtain⟨s,c,a1,a2,a3⟩:=Ko (ts:=ts) odd k [] a (by omega) (de.dQ b) (by grind) (by grind);refine⟨s,c,?_,by grind,by grind,a3.trans b⟩;grind[Bf]
end
theorem Pr:∀a b:ao,Op.bytesLess a b=false->a≠b->Op.bytesLess b a=true
 |[],[],_,h=>absurd rfl h
 |[],y::b,h,_=>by grind[Op.bytesLess]
 |x::a,[],h,_=>by rfl
 |x::a,y::b,h,c=>by
  simp[Op.bytesLess]at h⊢;by_cases h1:x<y
  . grind
  . by_cases f:y<x
    . grind
    . have d:Op.bytesLess a b=false:=(by grind);have:=Pr a b d (λe=>c (by grind));grind
theorem x0{a b:I}(c:cx a.bo)(d:cx b.bo):o1 (a,b)=some (iz a b):=by
 grind[BV,iz]
theorem YT{a b:I}(d:cx a.bo)(e:cx b.bo)(h:0<iz a b):iz b a<0:=by
 have h1:=x0 d e;have c:=x0 e d;rw[o1]at h1 c;by_cases f:a.Kind=b.Kind
 . rw[al (by grind)]at h1 c;by_cases bb:a.Kind=1
   . have g:b.Kind=1:=(by omega);simp only[ku,fg]at h1 c;grind
   . rw[al (by grind)]at h1;rw[al (by grind)]at c;by_cases bq:a.Kind=2
     . have i:b.Kind=2:=(by omega);rw[af (by grind),sw d,sw e]at h1;rw[af (by grind),sw d,sw e]at c;simp only[a8,aq,ku]at h1 c;grind[KX]
     . rw[al (by grind)]at h1;rw[al (by grind)]at c;by_cases bU:a.Kind=3
       . have j:b.Kind=3:=(by omega);rw[af (by grind)]at h1;rw[af (by grind)]at c;simp only[a8,aq,ku]at h1 c;by_cases ad:a.bx.length=b.bx.length
         . grind[Pr]
         grind
       . rw[al (by grind)]at h1;rw[al (by grind)]at c;by_cases cu:a.Kind=4
         . simp only[a8,aq,ku]at h1 c;grind
         grind
 grind
theorem OE{key item:I}(ad:v.aG.length<1000000)(l:∀x,x∈v.aG->cx x.bo)(n:cx key.bo)(a:Int)(b:Bool)(c:Int)(d:ao)(e:Int):∀(k i:Nat),i+k=v.aG.length->
 (∀j,j<i->iz (v.aG.getD j az) key<0)->∃m:Nat,m<=v.aG.length/\qw ((i:Int),v,key,item,a,b,c,d,e)=some ((m:Int),v,key,item,a,b,c,d,e)/\(∀j,j<m->iz (v.aG.getD j az) key<0)/\(m<v.aG.length->0<=iz (v.aG.getD m az) key)
 |0,i,p,g=>by
  have f:decide (i<(v.aG.length:Int))=false:=by grind
  refine⟨i,by omega,?_,g,λh=>by omega⟩;rw[qw];simp only[a8,aq,f,fz,AB,b7,ca,b4,e',I.bk]
 |k+1,i,p,g=>by
  have aE:i<v.aG.length:=by omega
  have f:decide ((i:Int)<(v.aG.length:Int))=true:=by grind
  have o:=x0 (l _ (br aE az)) n;rw[qw];simp only[a8,aq,f,dU,hQ,b7,I.bk,a'];rw[af (aS aE),o];simp only[aq];by_cases r:iz (v.aG.getD i az) key<0
  . rw[af (by grind),bH (by omega)];refine OE ad l n a b c d e k _ (by omega) λj q=>?_;grind
  grind
theorem BK:∀(a b:List I),du (a++b)=du a+du b
 |[],b=>by grind[ja]
 |x::a,b=>by rw[qQ,jz,jz,BK a b];omega
theorem JY{l:List α}{m:Nat}{x d:α}(a:m<=l.length)(i:Nat):(l.take m++(x::l.drop m)).getD i d=if i<m then l.getD i d else if i=m then x else l.getD (i-1) d:=by grind
theorem aaW{key item:I}(ad:v.aG.length<1000)(r:v.ai.length=v.aG.length)(k:∀x,x∈v.aG->cx x.bo)(l:cx key.bo)(e:jA v.aG):
 ∃ks b,AZ (v,key,item)=some ⟨v.Kind,v.b5,v.bo,v.bx,v.ae,ks,b,v.Rest⟩/\b.length=ks.length/\ks.length<=v.aG.length+1/\jA ks/\(∀x,x∈ks->x∈v.aG\/x=key)/\(∀x,x∈b->x∈v.ai\/x=item)/\du ks+du b<=du v.aG+du v.ai+wt key+wt item:=by
 obtain⟨m,d,t,C,D⟩:=OE (item:=item) (by omega) k l 0 false 0 [] 0 v.aG.length 0 (by simp) (λj A=>by omega);have u:qw (0,v,key,item,0,false,0,[],0)=_:=t;rw[AZ];simp only[I.bk];rw[u];simp only[a8,aq,I.bk];have ins:∀(s:m<v.aG.length->0<iz (v.aG.getD m az) key),∃ks b,(some (⟨v.Kind,v.b5,v.bo,v.bx,v.ae,v.aG.take m++(key::v.aG.drop m),v.ai.take m++(item::v.ai.drop m),v.Rest⟩:I):Option I)=some ⟨v.Kind,v.b5,v.bo,v.bx,v.ae,ks,b,v.Rest⟩/\b.length=ks.length/\ks.length<=v.aG.length+1/\jA ks/\(∀x,x∈ks->x∈v.aG\/x=key)/\(∀x,x∈b->x∈v.ai\/x=item)/\du ks+du b<=du v.aG+du v.ai+wt key+wt item:=by
  intro s;refine⟨_,_,rfl,by grind,by grind,λi z=>?_,λx c=>?_,λx c=>?_,?_⟩
  . rw[JY d,JY d];have B:(v.aG.take m++(key::v.aG.drop m)).length=v.aG.length+1:=(by grind);by_cases h1:i+1<m
    . rw[gh,af h1];exact e i (by omega)
    . by_cases w:i+1=m
      . grind
      . by_cases y:i=m
        . simp_all[al,af,YT,br]
        . have:=e (i-1) (by omega);grind
  . grind
  . grind
  grind[BK,jz,List.take_append_drop]
 have s1:ez 0 (m:Int) v.aG.length=true:=lO (a:=0) (by simp) d;have n:ez (m:Int) (v.aG.length:Int) v.aG.length=true:=lO d (by simp);have o:ez 0 (m:Int) v.ai.length=true:=lO (a:=0) (by simp) (by omega);have p:ez (m:Int) (v.ai.length:Int) v.ai.length=true:=lO (by omega) (by simp);by_cases g:m<v.aG.length
 . have f:decide ((m:Int)<(v.aG.length:Int))=true:=(by grind);have q:=x0 (k _ (br g az)) l;simp only[f,dU,hQ,b7,eS,a'];rw[af (aS g),q];simp only[aq];by_cases h0:iz (v.aG.getD m az) key=0
   . rw[af (by grind)];refine⟨v.aG,v.ai,by cases v;rfl,r,by simp,e,λx c=>.inl c,λx c=>.inl c,by omega⟩
   . rw[al (by grind),af s1,af (dB (by simp) (by grind[e1]))];rw[af (dB (by simp) (by grind[e1])),af n,af (dB (by simp) (by grind[e1])),af o,af (dB (by simp) (by grind[e1])),af (dB (by simp) (by grind[e1])),af p,af (dB (by simp) (by grind[e1]))];rw[sC,sC,sL,sL];simp only[hZ,jh,List.singleton_append];exact ins λ_=>by grind
 . have f:decide ((m:Int)<(v.aG.length:Int))=false:=by simp;omega
   simp only[f,fz,AB,b7,ca,b4,e',aq];rw[af s1,af (dB (by omega) (by simp[e1];omega))];rw[af (dB (by omega) (by simp[e1];omega)),af n,af (dB (by omega) (by simp[e1];omega)),af o,af (dB (by omega) (by simp[e1];omega)),af (dB (by omega) (by simp[e1];omega)),af p,af (dB (by omega) (by simp[e1];omega))];rw[sC,sC,sL,sL];simp only[hZ,jh,List.singleton_append];exact ins λh=>absurd h g
section
variable {ts:List ah}
mutual
theorem qX:∀(v:I) (t:Int),cL ts true t v->cL ts false t v
 |⟨k,b,i,s,id,ks,e,r⟩,t,h=>by
  rw[cL]at h⊢;obtain⟨⟨h1,o,p,A⟩,bp⟩:=h;have w:=Gv e;have B:=Gv ks;have D:=O0 e;refine⟨⟨h1,o,p,λh=>by cases h⟩,?_⟩
  have y:(match cU (ts.getD t.toNat aN).ag id with
   |some m=>r=[]/\e.length=1/\e3 ts true m.aB e
   |none=>(ts.getD t.toNat aN).Open=true/\true=false/\cK id/\e=[]/\∃d,r=[⟨id,d⟩])->(match cU (ts.getD t.toNat aN).ag id with
   |some m=>r=[]/\e.length=1/\e3 ts false m.aB e
   |none=>(ts.getD t.toNat aN).Open=true/\false=false/\cK id/\e=[]/\∃d,r=[⟨id,d⟩]):=by
   split
   . rintro ⟨a,b,c⟩;exact⟨a,b,w _ c⟩
   . rintro ⟨_,b,_⟩;cases b
  rcases bp with h|h|h|⟨a1,a2,a3,a4,a5,f,g,j⟩|⟨a1,a2,a3,a4,a5,f,g,j⟩|⟨a1,a2,a3,a4,a5,f⟩|⟨a1,a2,a3,a4,a5,f,g,j,a9⟩|⟨a1,a2,a3,a4,a5,f,g,j,a9,q,x⟩|⟨a1,a2,a3,a4,a5,f,g,j,a9⟩
  . exact .inl h
  . grind
  . grind
  . grind
  . grind
  . grind
  . grind
  . grind
  grind
theorem Gv:∀(l:List I) (t:Int),e3 ts true t l->e3 ts false t l
 |[],t,h=>by rw[e3];trivial
 |v::l,t,h=>by
  rw[e3]at h⊢;exact⟨qX v t h.1,Gv l t h.2⟩
theorem O0:∀(l:List I) (ms:List aU),h6 ts true ms l->h6 ts false ms l
 |[],[],h=>by rw[h6];trivial
 |[],m::ms,h=>by
  have:h6 ts true (m::ms) []=False:=by rw[h6]<;>(intros;simp_all)
  grind
 |v::l,[],h=>by
  have:h6 ts true [] (v::l)=False:=by rw[h6]<;>(intros;simp_all)
  grind
 |v::l,m::ms,h=>by
  rw[h6]at h⊢;exact⟨qX v m.aB h.1,O0 l ms h.2⟩
end
theorem ZB(h:cL ts true t v)(pl:Bool):cL ts pl t v:=by
 cases pl with
 |true=>exact h
 |false=>exact qX v t h
def kg(ts:List ah)(t:Nat):Nat:=if 7<=(ts.getD t aN).Kind then 0 else t+1
def ga:Nat->Nat
 |0=>20
 |n+1=>12*ga n+20
theorem CX{a:Nat}:∀{b:Nat},a<=b->ga a<=ga b
 |0,h=>by have:a = 0:= by omega
          subst this;omega
 |b+1,h=>by
  by_cases e:a=b+1
  . grind
  . have:=CX (a:=a) (b:=b) (by omega);simp only[ga];omega
theorem CW(r:Nat):20<=ga r:=CX (a:=0) (jJ _)
theorem vU:ga 5=5429060:=rfl
def l9(ts:List ah)(odd:Bool)(C:au)(r:Nat)(t:Int):Prop:=∃v a,js (t,ts,C,odd)=some (v,ts,a,odd)/\cL ts (!odd) t v/\b3 v/\fv a C/\wt v+32574360*a.length<=ga r+32574360*C.length
theorem L3 {odd:Bool}{c r:Nat}(H:c<=1000){x:ah}(F:x.ag.length<=12)(p:∀m,m∈x.ag->(∀C,gH C->C.length<=c->l9 ts odd C r m.aB)/\(m.bV=true->cL ts true m.aB m.bz/\b3 m.bz/\wt m.bz<=13))
 (a0:Int)(a1:Bool)(a2:Int)(a3:ao)(a4:Int)(v0:Int)(v1:Bool)(v2:Int)(v3:ao)(v4:Int):
 ∀(k i:Nat) (C:au) (acc:List I),i+k=x.ag.length->gH C->C.length<=c->acc.length=i->(∀j,j<i->cL ts (!odd) (x.ag.getD j aD).aB (acc.getD j az))->(∀y,y∈acc->b3 y)->
 ∃a b,mf ((i:Int),ts,C,odd,a0,a1,a2,a3,a4,x.Kind,x.Name,x.bE,x.bG,x.Max,x.bg,x.ag,x.Key,x.aC,x.Open,v0,v1,v2,v3,v4,acc)=some (ts,b,odd,a0,a1,a2,a3,a4,x.Kind,x.Name,x.bE,x.bG,x.Max,x.bg,x.ag,x.Key,x.aC,x.Open,v0,v1,v2,v3,v4,a)/\
  a.length=x.ag.length/\(∀j,j<x.ag.length->cL ts (!odd) (x.ag.getD j aD).aB (a.getD j az))/\(∀y,y∈a->b3 y)/\fv b C/\du a+32574360*b.length<=du acc+k*ga r+32574360*C.length
 |0,i,C,acc,L,de,ad,G,o,g=>⟨acc,C,by rw[mf,dE],by omega,λj M=>o j (by omega),g,fv.refl _,by omega⟩
 |k+1,i,C,acc,L,de,ad,G,o,g=>by
  have aE:i<x.ag.length:=by omega
  obtain⟨s,K⟩:=p _ (br aE aD);have next:∀ (w:I) (d:au),cL ts (!odd) (x.ag.getD i aD).aB w->b3 w->fv d C->wt w+32574360*d.length<=ga r+32574360*C.length->
   ∃a b,(if room 120 (acc++[w]).length then mf (aQ .i64 (i:Int) 1,ts,d,odd,a0,a1,a2,a3,a4,x.Kind,x.Name,x.bE,x.bG,x.Max,x.bg,x.ag,x.Key,x.aC,x.Open,v0,v1,v2,v3,v4,acc++[w])else none)=some (ts,b,odd,a0,a1,a2,a3,a4,x.Kind,x.Name,x.bE,x.bG,x.Max,x.bg,x.ag,x.Key,x.aC,x.Open,v0,v1,v2,v3,v4,a)/\
    a.length=x.ag.length/\(∀j,j<x.ag.length->cL ts (!odd) (x.ag.getD j aD).aB (a.getD j az))/\(∀y,y∈a->b3 y)/\fv b C/\du a+32574360*b.length<=du acc+(k+1)*ga r+32574360*C.length:=by
   intro w d Q N hs R;rw[af (dB),bH (by omega)]
   obtain⟨a,b,b1,b2,A,B,D,E⟩:=L3 H F p a0 a1 a2 a3 a4 v0 v1 v2 v3 v4 k (i+1) d (acc++[w]) (by omega) (de.dQ hs) (by have:=hs.1;omega) (by simp;omega) (λj M=>by
    grind) (λy O=>by
    rcases hP.1 O with h|h
    . exact g y h
    . have:y=w:=by simpa using h
      subst this;exact N)
   refine⟨a,b,b1,b2,A,B,D.trans hs,?_⟩;rw[BK,jz,ja]at E;have e:(k+1)*ga r=k*ga r+ga r:=Nat.succ_mul _ _;omega
  rw[mf,cq,af (aS aE)];simp only[a8,aq,a',I.bk];cases J:(x.ag.getD i aD).bV with
  |true=>
   obtain⟨f1,f2,f3⟩:=K J;obtain⟨q,d,cV,S,T,f,eO⟩:=kU (ts:=ts) (n:=3) ⟨by omega,by omega⟩ de (by omega) odd;rw[af rfl,cV];simp only[aq,eS];by_cases h0:q=0
   . rw[af (by simpa using h0)];have:=f.1;have:=CW r;rw[af (aS aE)];exact next _ d (ZB f1 _) f2 f (by omega)
   . rw[al (by simpa using h0),af (aS aE)];obtain⟨w,l,t,u,v,z,P⟩:=s d (de.dQ f) (by have:=f.1;omega);rw[t];simp only[aq,I.bk];have:=f.1;exact next w l u v (z.trans f) (by omega)
  |false=>
   rw[ch,ch,af (aS aE)];obtain⟨w,l,t,u,v,z,P⟩:=s C de ad;grind
theorem Kp{r:Nat}(n:c<=1000)(dY:∀C,gH C->C.length<=c->l9 ts odd C r x.aC)
 (a0:Int)(a1:Bool)(a2:Int)(a3:ao)(a4:Int)(v0:Int)(v1:Bool)(v2:Int)(v3:ao)(v4:Int):
 ∀(k:Nat) (C:au) (acc:List I),acc.length+k<=100->gH C->C.length<=c->(∀y,y∈acc->cL ts (!odd) x.aC y/\b3 y)->
 ∃a b,pQ ((k:Int),ts,C,odd,a0,a1,a2,a3,a4,x.Kind,x.Name,x.bE,x.bG,x.Max,x.bg,x.ag,x.Key,x.aC,x.Open,v0,v1,v2,v3,v4,acc)=some (ts,b,odd,a0,a1,a2,a3,a4,v0,v1,v2,v3,v4,a)/\
  a.length=acc.length+k/\(∀y,y∈a->cL ts (!odd) x.aC y/\b3 y)/\fv b C/\du a+32574360*b.length<=du acc+k*ga r+32574360*C.length
 |0,C,acc,m,de,ad,f=>⟨acc,C,by rw[pQ,ch],by omega,f,fv.refl _,by omega⟩
 |k+1,C,acc,m,de,ad,f=>by
  have o:decide ((0:Int)<((k+1:Nat):Int))=true:=by rw[gE];omega
  have e:dL .i64 ((k+1:Nat):Int) 1=(k:Int):=by rw[iL (by omega) (by omega)];omega
  obtain⟨w,g,p,s,t,d,u⟩:=dY C de ad;rw[pQ,af o,p];simp only[a8,aq,I.bk];rw[af (dB),e];obtain⟨a,b,b1,b2,i,j,l⟩:=Kp n dY a0 a1 a2 a3 a4 v0 v1 v2 v3 v4 k g (acc++[w]) (by simp;omega) (de.dQ d) (by have:=d.1;omega) (λy q=>by grind);refine⟨a,b,b1,by simp at b2;omega,i,j.trans d,?_⟩;rw[BK,jz,ja]at l;grind
theorem L4 {odd:Bool}{c r:Nat}(F:c<=1000){x:ah}(bJ:∀C,gH C->C.length<=c->l9 ts odd C r x.Key)(dY:∀C,gH C->C.length<=c->l9 ts odd C r x.aC)
 (a0:Int)(a1:Bool)(a2:Int)(a3:ao)(a4:Int)(v0:Int)(v1:Bool)(v2:Int)(v3:ao)(v4:Int)(R:List b6):
 ∀(k:Nat) (C:au) (ks a:List I),ks.length+k<=100->a.length=ks.length->gH C->C.length<=c->(∀y,y∈ks->cL ts (!odd) x.Key y/\b3 y)->(∀y,y∈a->cL ts (!odd) x.aC y/\b3 y)->jA ks->
 ∃b d f,qg ((k:Int),ts,C,odd,a0,a1,a2,a3,a4,x.Kind,x.Name,x.bE,x.bG,x.Max,x.bg,x.ag,x.Key,x.aC,x.Open,v0,v1,v2,v3,v4,ks,a,R)=some (ts,f,odd,a0,a1,a2,a3,a4,v0,v1,v2,v3,v4,b,d,R)/\
  b.length<=ks.length+k/\d.length=b.length/\(∀y,y∈b->cL ts (!odd) x.Key y/\b3 y)/\(∀y,y∈d->cL ts (!odd) x.aC y/\b3 y)/\jA b/\fv f C/\du b+du d+32574360*f.length<=du ks+du a+2*(k*ga r)+32574360*C.length
 |0,C,ks,a,E,m,de,ad,l,ak,j=>⟨ks,a,C,by rw[qg,ch],by omega,m,l,ak,j,fv.refl _,by omega⟩
 |k+1,C,ks,a,E,m,de,ad,l,ak,j=>by
  have G:decide ((0:Int)<((k+1:Nat):Int))=true:=by rw[gE];omega
  have e:dL .i64 ((k+1:Nat):Int) 1=(k:Int):=by rw[iL (by omega) (by omega)];omega
  obtain⟨w,q,K,X,L,i,Y⟩:=bJ C de ad;have V:=i.1;obtain⟨z,s,cV,M,N,n,eO⟩:=dY q (de.dQ i) (by omega);have W:=n.1;obtain⟨J,H,o,O,P,Q,S,p,T⟩:=aaW (v:=⟨v0,v1,v2,v3,v4,ks,a,R⟩) (key:=w) (item:=z) (by show ks.length<1000;omega) m (λy g=>vb (l y g).2) (vb L) j;simp only at o P S p T;rw[qg,af G,K];simp only[a8,aq,I.bk];rw[cV];simp only[aq,I.bk];rw[o];simp only[aq];rw[e]
  obtain⟨b,d,f,b1,b2,t,u,A,B,D,U⟩:=L4 F bJ dY a0 a1 a2 a3 a4 v0 v1 v2 v3 v4 R k s J H (by omega) O ((de.dQ i).dQ n) (by omega) (λy g=>by
   grind) (λy g=>by
   rcases p y g with h|h
   . exact ak y h
   . subst h;exact⟨M,N⟩) Q
  refine⟨b,d,f,b1,by omega,t,u,A,B,D.trans (n.trans i),?_⟩;grind
theorem sx(hs:v.bx.length<=1000)(c:∀x,x∈v.aG->b3 x)(b:∀x,x∈v.ai->b3 x)(h1:v.aG.length<=1000)(g:v.ai.length<=1000)(i:v.Rest.length<=1000)(d:∀x,x∈v.Rest->x.Data.length<=1000/\cx x.ae)(cV:cx v.Kind)(e:cx v.bo)(f:cx v.ae):b3 v:=
 .mk v (by grind[reachBytes]) (by grind[reachBytes]) (by grind[reachBytes]) (by grind[reachBytes]) c b (λx a=>by grind[reachBytes]) cV e f (λx a=>(d x a).2)
theorem sb{n:Int}(h:cK n):cx n:=by grind[cK,cx]
def zF(ts:List ah)(odd:Bool)(c r:Nat):Prop:=∀t:Nat,t<ts.length->kg ts t<=r->∀C,gH C->C.length<=c->l9 ts odd C r (t:Int)
theorem GZ(H:dW ts){t:Nat}(ht:t<ts.length:=by omega):kg ts t<=5:=by
 unfold kg;have:=H.eO;grind
theorem l9.up{C:au}{r:Nat}(h:l9 ts odd C r t)(j:r<=a):l9 ts odd C a t:=by
 obtain⟨v,c,h1,e,f,g,bp⟩:=h;exact⟨v,c,h1,e,f,g,by have:=CX j;omega⟩
theorem ZW(H:dW ts){r:Nat}(bK:c<=60)(bh:∀aX,aX<c->zF ts odd aX 5)(bi:∀J,J<r->zF ts odd c J):zF ts odd c r:=by
 intro t ht bP C de ad;have Z:=br ht aN;have bI:=H.V.F _ Z;have dr:=H.T _ Z;have bO:=H.M _ Z;obtain⟨aL,aM,aY⟩:=H.cr _ Z;have bq:=H.R t ht;have bp:=H.L _ Z;have ax:=H.V.U _ Z;have bn:=H.D _ Z;have dN:=H.W _ Z;have bv:kg ts t=if 7<=(ts.getD t aN).Kind then 0 else t+1:=rfl
 unfold l9;rw[js,af (aS ht)];simp only[a8,aq,a'];have X:=λv=>hc (ts:=ts) (!odd) (t:Int) v;simp only[a']at X;generalize bW:ts.getD t aN=x at*;have bD:=CW r;have E:(0:Int)<=t/\(t:Int)<ts.length:=by omega
 have ak:∀(v:I) (z:au),v.aG=[]->v.ai=[]->v.Rest=[]->v.bx.length<=3->fv z C->wt v+32574360*z.length<=ga r+32574360*C.length:=λv z a b c d e=>by rw[Kl a b c];have:=e.1;omega
 have below:∀l:au,l.length+1=C.length->∀u:Int,0<=u->u<ts.length->∀p,gH p->p.length<=l.length->l9 ts odd p 5 u:=λl h1 u bU bV p P Q=>by
  obtain⟨k,rfl⟩:∃k:Nat,u=(k:Int):=⟨u.toNat,by omega⟩
  exact bh l.length (by omega) k (by omega) (GZ H) p P Q
 have bd:x.Kind=5\/x.Kind=6->1<=r/\∀m,m∈x.ag->∀p,gH p->p.length<=c->l9 ts odd p (r-1) m.aB:=λbL=>by
  have bQ:kg ts t=t+1:=by rw[bv,bR]
  refine⟨by omega,λm S p P Q=>?_⟩;obtain⟨a,b,bl⟩:=bq m S;obtain⟨k,bu⟩:∃k:Nat,m.aB=(k:Int):=⟨m.aB.toNat,by omega⟩
  rw[bu]at bl⊢;refine bi (r-1) (by omega) k (by omega) ?_ p P Q;have:kg ts k<=t:=by
   unfold kg;grind
  omega
 have aU:x.bg.length<9223372036854775807:=dM (ik dr.syms);have aP:x.ag.length<9223372036854775807:=dM (ik dr.gT);unfold gI at bI;rcases bI with⟨k,_⟩|⟨k,f1,f2,_⟩|⟨k,f1,f2,f3,f4,_⟩|⟨k,f1,f2,f3,f4,f5,_⟩|⟨k,f1,f2,f3,f4,f5,f6,_⟩|⟨k,f1,f2,f3,f4,f5,f6,_⟩|⟨k,f1,f2,f3,f4,_⟩|⟨k,f1,f2,f3,f4,_⟩|⟨k,_⟩
 . obtain⟨q,l,cV,ab,ah,g,eO⟩:=kU (ts:=ts) (n:=2) ⟨by omega,by omega⟩ de (by omega) odd;rw[af (by simp[k]),cV];refine⟨_,l,rfl,?_,oM rfl rfl rfl (by simp) (by simp[cx,k]) (by simp[cx]) (by simp[cx]),g,ak _ _ rfl rfl rfl (by simp) g⟩;grind
 . obtain⟨q,l,cV,ab,ah,g,eO⟩:=kU (ts:=ts) (n:=256) ⟨by omega,by omega⟩ de (by omega) odd;have bH:=bp k;have aK:aQ .i64 (dL .i64 x.bG x.bE) 1=x.bG-x.bE+1:=by rw[iL (by omega) (by omega),jb (by omega) (by omega)]
   have bX:0<=q%(x.bG-x.bE+1):=lX _ (by omega);have bY:q%(x.bG-x.bE+1)<x.bG-x.bE+1:=lU _ (by omega);rw[al (by simp[k]),af (by simp[k]),cV];simp only[aq];rw[aK,af (sO (by omega)),hL ab,jb (by omega) (by omega)];refine⟨_,l,rfl,?_,oM rfl rfl rfl (by simp) (by simp[cx,k]) (by simp only[cx];omega) (by simp[cx]),g,ak _ _ rfl rfl rfl (by simp) g⟩;grind
 . obtain⟨s,l,cV,ab,ah,g⟩:=ZV (ts:=ts) (most:=x.Max) ⟨f4.1,by omega⟩ de (by omega) odd;rw[al (by simp[k]),al (by simp[k]),af (by simp[k]),cV];refine⟨_,l,rfl,?_,oM rfl rfl rfl (by show s.length<=1000;omega) (by simp[cx,k]) (by simp[cx]) (by simp[cx]),g,ak _ _ rfl rfl rfl ah g⟩;grind
 . have bT:=f5.1;have bS:=f5.2.2.2.2;have a9:=f5.2.1.2;obtain⟨q,l,cV,ab,ah,g,eO⟩:=kU (ts:=ts) (n:=(x.bg.length:Int)) ⟨by omega,by omega⟩ de (by omega) odd;obtain⟨j,rfl⟩:∃j:Nat,q=(j:Int):=⟨q.toNat,by omega⟩
   have ap:=g.1;have N:j<x.bg.length:=(by omega);have f:=br N dR;rw[al (by simp[k]),al (by simp[k]),al (by simp[k]),af (by simp[k]),cV];simp only[aq];rw[af (aS N)];simp only[a'];cases bA:x.Open with
   |false=>
    rw[ch,ch];refine⟨_,l,rfl,?_,oM rfl rfl rfl (by simp) (by simp[cx,k]) (by simp[cx]) (sb (a9 _ f)),g,ak _ _ rfl rfl rfl (by simp) g⟩;grind
   |true=>
    obtain⟨o,p,av,be,A⟩:=GY (ts:=ts) (de.dQ g) (by omega) odd;have ay:=A.1;rw[af rfl,av];simp only[aq,eS];cases o with
    |false=>
     rw[ch];refine⟨_,p,rfl,?_,oM rfl rfl rfl (by simp) (by simp[cx,k]) (by simp[cx]) (sb (a9 _ f)),(A.trans g),ak _ _ rfl rfl rfl (by simp) (A.trans g)⟩;grind
    |true=>
     have aT:odd=true:=(by grind);obtain⟨n,aF,aw,an,bf,O⟩:=Gm (ts:=ts) aP aU aL aM ((de.dQ g).dQ A) (by omega) odd;rw[af rfl,aw];refine⟨_,aF,rfl,?_,oM rfl rfl rfl (by simp) (by simp[cx,k]) (by simp[cx]) (sb an),O.trans (A.trans g),ak _ _ rfl rfl rfl (by simp) (O.trans (A.trans g))⟩;grind
 . obtain⟨bB,aR⟩:=bd (.inl k);obtain⟨acc,l,b1,b2,K,G,B,ao⟩:=L3 (ts:=ts) (odd:=odd) (c:=c) (r:=r-1) (by omega) (x:=x) aY (λm S=>⟨aR m S,λa0=>⟨bn m S a0,dr.im m S,dN m S a0⟩⟩) 0 false 0 [] 0 x.Kind false 0 [] 0 x.ag.length 0 C [] (by omega) de ad rfl (λj N=>by omega) (λy f=>by cases f);have bk:mf (0,ts,C,odd,0,false,0,[],0,x.Kind,x.Name,x.bE,x.bG,x.Max,x.bg,x.ag,x.Key,x.aC,x.Open,x.Kind,false,0,[],0,[])=_:=b1;have ap:=B.1;have bF:ga r=12*ga (r-1)+20:=by
    obtain⟨J,rfl⟩:∃J,r=J+1:=⟨r-1,by omega⟩
    rfl
   have bN:x.ag.length*ga (r-1)<=12*ga (r-1):=eV _ aY;rw[ja]at ao;have a6:h6 ts (!odd) x.ag acc:=jZ.2 ⟨b2,K⟩;rw[al (by simp[k]),al (by simp[k]),al (by simp[k]),al (by simp[k]),af (by simp[k]),bk];simp only[aq];obtain⟨o,p,av,be,A⟩:=GY (ts:=ts) (de.dQ B) (by omega) odd;have ay:=A.1;rw[av];simp only[aq];cases o with
   |false=>
    rw[ch];refine⟨_,p,rfl,?_,sx (by simp) (λy f=>by cases f) G (by simp) (by show acc.length<=1000;omega) (by simp) (λy f=>by cases f) (by simp[cx,k]) (by simp[cx]) (by simp[cx]),A.trans B,?_⟩
    . exact(X _).2 ⟨⟨E.1,E.2,rfl,λ_=>rfl⟩,.inr (.inr (.inr (.inr (.inl ⟨k,rfl,rfl,rfl,rfl,rfl,⟨.nil,λy f=>by cases f⟩,a6⟩))))⟩
    . rw[hz];simp only[ja,kc,pt,vl];omega
   |true=>
    have aT:odd=true:=(by grind);obtain⟨n,aF,aw,an,bf,O⟩:=Gm (ts:=ts) aP aU aL aM ((de.dQ B).dQ A) (by omega) odd;have bw:=O.1;obtain⟨d,aH,d1,d2,d3⟩:=JX (ts:=ts) (n:=n) (((de.dQ B).dQ A).dQ O) (by omega) odd;have bz:=d3.1;rw[af rfl,CE,aw];simp only[aq];rw[d1];simp only[aq];refine⟨_,aH,rfl,?_,sx (by simp) (λy f=>by cases f) G (by simp) (by show acc.length<=1000;omega) (by simp) (λy f=>?_) (by simp[cx,k]) (by simp[cx]) (by simp[cx]),d3.trans (O.trans (A.trans B)),?_⟩
    . refine(X _).2 ⟨⟨E.1,E.2,rfl,λh=>by simp[aT]at h⟩,.inr (.inr (.inr (.inr (.inl ⟨k,rfl,rfl,rfl,rfl,rfl,⟨by simp,λy f=>?_⟩,a6⟩))))⟩;grind
    . have:y=⟨n,d⟩:=(by simpa using f);subst this;exact⟨by show d.length<=1000;omega,sb an⟩
    . rw[hz];simp only[ja,kc,kd,pt,vk,vl];omega
 . obtain⟨bB,aR⟩:=bd (.inr k);have bJ:0<x.ag.length:=by
    rcases f6.2.1 with h|h
    . cases h
    . exact h
   have bC:ga (r-1)+20<=ga r:=by
    obtain⟨J,rfl⟩:∃J,r=J+1:=⟨r-1,by omega⟩
    have:=CW J;show ga J+20<=12*ga J+20;omega
   have bj:∀ aE,fv aE C->∃ v z,(Option.bind (iD ((x.ag.length:Int),ts,aE,odd)) λam=>if aI am.1 x.ag.length then
    (js ((x.ag.getD am.1.toNat aD).aB,am.2.1,am.2.2.1,am.2.2.2)).bind λaA=>
     some ((⟨x.Kind,false,0,[],(x.ag.getD am.1.toNat aD).ae,[],[aA.1],[]⟩:I),aA.2.1,aA.2.2.1,aA.2.2.2)
    else none)=some (v,ts,z,odd)/\cL ts (!odd) (t:Int) v/\b3 v/\fv z C/\wt v+32574360*z.length<=ga r+32574360*C.length:=by
    intro aE az;have bM:=az.1;obtain⟨q,l,cV,ab,ah,g,eO⟩:=kU (ts:=ts) (n:=(x.ag.length:Int)) ⟨by omega,by omega⟩ (de.dQ az) (by omega) odd;obtain⟨j,rfl⟩:∃j:Nat,q=(j:Int):=⟨q.toNat,by omega⟩
    have ap:=g.1;have N:j<x.ag.length:=(by omega);have S:=br N aD;obtain⟨w,p,aV,ba,bb,ar,bc⟩:=aR _ S l ((de.dQ az).dQ g) (by omega);have ay:=ar.1;rw[cV];simp only[aq];rw[af (aS N)];simp only[a'];rw[aV];simp only[aq];have bo:=f6.2.2.1.2 _ S;refine⟨_,p,rfl,?_,sx (by simp) (λy f=>by cases f) (λy f=>?_) (by simp) (by simp) (by simp) (λy f=>by cases f) (by simp[cx,k]) (by simp[cx]) (sb bo),ar.trans (g.trans az),?_⟩
    . refine(X _).2 ⟨⟨E.1,E.2,rfl,λ_=>rfl⟩,.inr (.inr (.inr (.inr (.inr (.inl ⟨k,rfl,rfl,rfl,rfl,?_⟩)))))⟩;have bt:cU x.ag (x.ag.getD j aD).ae=some (x.ag.getD j aD):=by
       unfold cU;rw[DL];refine⟨by simp,j,N,(fG N _).symm,λi aO=>?_⟩;have aj:=yf.1 f6.2.2.1.1 i j (by omega) N aO;rw[fG N];simp;omega
      simp only[bt];refine⟨by first|rfl|trivial,by first|rfl|trivial,?_⟩;rw[dk];intro y f;have:y=w:=(by simpa using f);subst this;exact ba
    . have:y=w:=(by simpa using f);subst this;exact bb
    . rw[hz];simp only[jz,ja,kc,pt,vl];omega
   rw[al (by simp[k]),al (by simp[k]),al (by simp[k]),al (by simp[k]),al (by simp[k]),af (by simp[k])];simp only[I.bk];cases bA:x.Open with
   |false=>
    rw[ch,ch];obtain⟨v,z,a1,a2,a3,a4,a5⟩:=bj C (fv.refl _);grind
   |true=>
    obtain⟨o,p,av,be,A⟩:=GY (ts:=ts) de (by omega) odd;have ay:=A.1;rw[af rfl,av];simp only[aq,eS];cases o with
    |false=>grind
    |true=>
     have aT:odd=true:=(by grind);obtain⟨n,aF,aw,an,bf,O⟩:=Gm (ts:=ts) aP aU aL aM (de.dQ A) (by omega) odd;have bw:=O.1;obtain⟨d,aH,d1,d2,d3⟩:=JX (ts:=ts) (n:=n) ((de.dQ A).dQ O) (by omega) odd;have bz:=d3.1;rw[af rfl,aw];simp only[aq];rw[d1];simp only[aq];refine⟨_,aH,rfl,?_,sx (by simp) (λy f=>by cases f) (λy f=>by cases f) (by simp) (by simp) (by simp) (λy f=>?_) (by simp[cx,k]) (by simp[cx]) (sb an),d3.trans (O.trans A),?_⟩
     . grind
     . have:y=⟨n,d⟩:=(by simpa using f);subst this;exact⟨by show d.length<=1000;omega,sb an⟩
     . rw[hz];simp only[ja,kc,kd,pt,vk,vl];omega
 . have em:aQ .i64 (eN x.Max 3) 1=min x.Max 3+1:=by
    have:eN x.Max 3=min x.Max 3:=rfl;rw[this,jb (by omega) (by omega)]
   have Y:0<=x.aC/\x.aC<ts.length:=ax x.aC (by unfold fu;simp[k]);obtain⟨q,l,cV,ab,ah,g,eO⟩:=kU (ts:=ts) (n:=min x.Max 3+1) ⟨by omega,by omega⟩ de (by omega) odd;obtain⟨j,rfl⟩:∃j:Nat,q=(j:Int):=⟨q.toNat,by omega⟩
   have ap:=g.1;have loop:∃acc z,pQ ((j:Int),ts,l,odd,0,false,0,[],0,x.Kind,x.Name,x.bE,x.bG,x.Max,x.bg,x.ag,x.Key,x.aC,x.Open,x.Kind,false,0,[],0,[])=some (ts,z,odd,0,false,0,[],0,x.Kind,false,0,[],0,acc)/\acc.length=j/\(∀y,y∈acc->cL ts (!odd) x.aC y/\b3 y)/\fv z C/\10+du acc+32574360*z.length<=ga r+32574360*C.length:=by
    rcases eO with⟨h0,h1,bm⟩|h1
    . have:j=0:=(by omega);subst this;refine⟨[],l,by rw[pQ,ch],rfl,λy f=>(by cases f),g,?_⟩;rw[ja];omega
    . obtain⟨acc,z,b1,b2,K,G,B⟩:=Kp (ts:=ts) (odd:=odd) (c:=l.length) (r:=5) (by omega) (x:=x) (λp P Q=>below l h1 x.aC Y.1 Y.2 p P Q) 0 false 0 [] 0 x.Kind false 0 [] 0 j l [] (by simp;omega) (de.dQ g) (by omega) (λy f=>by cases f);refine⟨acc,z,b1,by simpa using b2,K,G.trans g,?_⟩;rw[ja,vU]at B;omega
   obtain⟨acc,z,b1,b2,K,G,B⟩:=loop;rw[al (by simp[k]),al (by simp[k]),al (by simp[k]),al (by simp[k]),al (by simp[k]),al (by simp[k]),af (by simp[k]),em,cV];simp only[aq];rw[b1];simp only[aq];refine⟨_,z,rfl,?_,sx (by simp) (λy f=>by cases f) (λy f=>(K y f).2) (by simp) (by show acc.length<=1000;omega) (by simp) (λy f=>by cases f) (by simp[cx,k]) (by simp[cx]) (by simp[cx]),G,?_⟩
   . exact(X _).2 ⟨⟨E.1,E.2,rfl,λ_=>rfl⟩,.inr (.inr (.inr (.inr (.inr (.inr (.inl ⟨k,rfl,rfl,rfl,rfl,rfl,rfl,by show(acc.length:Int)<=x.Max;omega,dk.2 λy f=>(K y f).1⟩))))))⟩
   . rw[hz];simp only[ja,kc,pt,vl];omega
 . have em:aQ .i64 (eN x.Max 3) 1=min x.Max 3+1:=by
    have:eN x.Max 3=min x.Max 3:=rfl;rw[this,jb (by omega) (by omega)]
   have Y:0<=x.aC/\x.aC<ts.length:=ax x.aC (by unfold fu;simp[k]);have a7:0<=x.Key/\x.Key<ts.length:=ax x.Key (by unfold fu;simp[k]);obtain⟨q,l,cV,ab,ah,g,eO⟩:=kU (ts:=ts) (n:=min x.Max 3+1) ⟨by omega,by omega⟩ de (by omega) odd;obtain⟨j,rfl⟩:∃j:Nat,q=(j:Int):=⟨q.toNat,by omega⟩
   have ap:=g.1;have aZ:jA []:=λi aO=>by simp at aO
   have loop:∃ks aa z,qg ((j:Int),ts,l,odd,0,false,0,[],0,x.Kind,x.Name,x.bE,x.bG,x.Max,x.bg,x.ag,x.Key,x.aC,x.Open,x.Kind,false,0,[],0,[],[],[])=some (ts,z,odd,0,false,0,[],0,x.Kind,false,0,[],0,ks,aa,[])/\ks.length<=j/\aa.length=ks.length/\(∀y,y∈ks->cL ts (!odd) x.Key y/\b3 y)/\(∀y,y∈aa->cL ts (!odd) x.aC y/\b3 y)/\jA ks/\fv z C/\10+du ks+du aa+32574360*z.length<=ga r+32574360*C.length:=by
    rcases eO with⟨h0,h1,bm⟩|h1
    . have:j=0:=(by omega);subst this;refine⟨[],[],l,by rw[qg,ch],by simp,rfl,λy f=>(by cases f),λy f=>(by cases f),aZ,g,?_⟩;rw[ja];omega
    . obtain⟨ks,aa,z,b1,b2,K,G,B,ao,aJ,aW⟩:=L4 (ts:=ts) (odd:=odd) (c:=l.length) (r:=5) (by omega) (x:=x) (λp P Q=>below l h1 x.Key a7.1 a7.2 p P Q) (λp P Q=>below l h1 x.aC Y.1 Y.2 p P Q) 0 false 0 [] 0 x.Kind false 0 [] 0 [] j l [] [] (by simp;omega) rfl (de.dQ g) (by omega) (λy f=>by cases f) (λy f=>by cases f) aZ;refine⟨ks,aa,z,b1,by simpa using b2,K,G,B,ao,aJ.trans g,?_⟩;rw[ja,vU]at aW;omega
   obtain⟨ks,aa,z,b1,b2,K,G,B,ao,aJ,aW⟩:=loop;rw[al (by simp[k]),al (by simp[k]),al (by simp[k]),al (by simp[k]),al (by simp[k]),al (by simp[k]),al (by simp[k]),af (by simp[k]),em,cV];simp only[aq];rw[b1];simp only[aq];refine⟨_,z,rfl,?_,sx (by simp) (λy f=>(G y f).2) (λy f=>(B y f).2) (by show ks.length<=1000;omega) (by show aa.length<=1000;omega) (by simp) (λy f=>by cases f) (by simp[cx,k]) (by simp[cx]) (by simp[cx]),aJ,?_⟩
   . exact(X _).2 ⟨⟨E.1,E.2,rfl,λ_=>rfl⟩,.inr (.inr (.inr (.inr (.inr (.inr (.inr (.inl ⟨k,rfl,rfl,rfl,rfl,rfl,by show(ks.length:Int)<=x.Max;omega,K,dk.2 λy f=>(G y f).1,dk.2 λy f=>(B y f).1,ao⟩)))))))⟩
   . rw[hz];grind
 . have Y:0<=x.aC/\x.aC<ts.length:=ax x.aC (by unfold fu;simp[k]);obtain⟨q,l,cV,ab,ah,g,eO⟩:=kU (ts:=ts) (n:=2) ⟨by omega,by omega⟩ de (by omega) odd;have ap:=g.1;rw[al (by simp[k]),al (by simp[k]),al (by simp[k]),al (by simp[k]),al (by simp[k]),al (by simp[k]),al (by simp[k]),al (by simp[k]),cV];simp only[aq,I.bk];by_cases h1:q=1
   . have bs:l.length+1=C.length:=(by omega);obtain⟨w,p,aV,ba,bb,ar,bc⟩:=below l bs x.aC Y.1 Y.2 l (de.dQ g) (by omega);have ay:=ar.1;rw[vU]at bc;rw[af (by simpa using h1),aV];simp only[aq];refine⟨_,p,rfl,?_,sx (by simp) (λy f=>by cases f) (λy f=>?_) (by simp) (by simp) (by simp) (λy f=>by cases f) (by simp[cx,k]) (by simp[cx]) (by simp[cx]),ar.trans g,?_⟩
     . refine(X _).2 ⟨⟨E.1,E.2,rfl,λ_=>rfl⟩,.inr (.inr (.inr (.inr (.inr (.inr (.inr (.inr ⟨k,rfl,rfl,rfl,rfl,rfl,rfl,by simp,dk.2 λy f=>?_⟩)))))))⟩;grind
     . grind
     . rw[hz];simp only[jz,ja,kc,pt,vl];omega
   . rw[al (by simpa using h1)];refine⟨_,l,rfl,?_,oM rfl rfl rfl (by simp) (by simp[cx,k]) (by simp[cx]) (by simp[cx]),g,ak _ _ rfl rfl rfl (by simp) g⟩;exact(X _).2 ⟨⟨E.1,E.2,rfl,λ_=>rfl⟩,.inr (.inr (.inr (.inr (.inr (.inr (.inr (.inr ⟨k,rfl,rfl,rfl,rfl,rfl,rfl,by simp,dk.2 λy f=>by cases f⟩)))))))⟩
theorem L5(H:dW ts):∀(c:Nat),c<=60->∀r,zF ts odd c r:=by
 intro c;induction c using Nat.strongRecOn with
 |ind c b=>
  intro a r;induction r using Nat.strongRecOn with
  |ind r d=>grind[ZW]
theorem ZX(H:dW ts)(ht:0<=t/\t<ts.length){C:au}(de:gH C)(ad:C.length<=reachBytes):∃v,w9 ((⟨ts⟩:bl),t,C)=some v/\cL ts true t v/\b3 v/\wt v<=2147483648:=by
 obtain⟨j,rfl⟩:∃j:Nat,t=j:=⟨t.toNat,by omega⟩
 have d:eN 60 _=min 60 C.length:=Ge 60 _;have hs:gH (C.take (min 60 C.length)):=λc a=>de c (sT a);have b:(C.take (min 60 C.length)).length<=60:=by grind
 have e:ez 0 (min 60 C.length:Nat) C.length=true:=lO (by simp) (by omega);obtain⟨v,f,h1,g,i,k,bp⟩:=L5 H 60 (by simp) 5 j (by omega) (GZ H) _ hs b;rw[w9];simp only[a8,aq];rw[d,af e,sC,h1];grind[I.bk,vU]
theorem Wr(H:dW ts)(ht:0<=t/\t<ts.length){C:au}(de:gH C)(ad:C.length<=reachBytes):∃v,w0 ((⟨ts⟩:bl),t,C)=some v/\cL ts false t v/\b3 v/\wt v<=2147483648:=by
 obtain⟨j,rfl⟩:∃j:Nat,t=j:=⟨t.toNat,by omega⟩
 have d:eN 60 _=min 60 C.length:=Ge 60 _;have hs:gH (C.take (min 60 C.length)):=λc a=>de c (sT a);have b:(C.take (min 60 C.length)).length<=60:=by grind
 have e:ez 0 (min 60 C.length:Nat) C.length=true:=lO (by simp) (by omega);obtain⟨v,f,h1,g,i,k,bp⟩:=L5 H 60 (by simp) 5 j (by omega) (GZ H) _ hs b;rw[w0];simp only[a8,aq];rw[d,af e,sC,h1];grind[I.bk,vU]
end
structure CZ (d:lH):Prop where
 s:q5 d.S
 t:dd d.T
 c:gH d.C
 l:d.C.length<=reachBytes
theorem ad3{d:lH}(a:CZ d):(∃s t v w,p4 d=some (s,t,v,w,false))\/
 ∃ts t v w,p4 d=some (⟨ts⟩,t,v,w,true)/\dW ts/\(0<=t/\t<ts.length)/\(cL ts true t v/\b3 v/\wt v<=2147483648)/\(cL ts false t w/\b3 w/\wt w<=2147483648):=by
 rw[p4];rcases D5 a.s with h|⟨l,h,H⟩
 . simp_all
 . right;have i:=H.cV;have ht:=a.t;unfold dd at ht;have b:0<=d.T%l.length:=lX _ (by omega);have e:d.T%l.length<l.length:=lU _ (by omega);obtain⟨v,v1,v2⟩:=ZX H ⟨b,e⟩ a.c a.l;obtain⟨w,f,g⟩:=Wr H ⟨b,e⟩ a.c a.l;rw[h];simp only[a8,aq];rw[ch,af (sO (by omega)),kZ ⟨by omega,by omega⟩,hL ht.1 (by simp),v1];rw[f];exact⟨l,_,v,w,by simp[I.bk],H,⟨b,e⟩,v2,g⟩
theorem CF(H:jQ ts)(a:b3 v)(t:Int)(pl:Bool):dj (jX ((⟨ts⟩:bl),t,v,pl)) (cL ts pl t v):=by
 obtain⟨r,h1,c⟩:=Gi (by have:=H.n;omega) H.T H.K a t pl;obtain⟨q,d,b⟩:=YJ (by have:=H.n;omega) H.T H.K a t pl;rw[h1]at b;have:r=q:=qO b;subst this;exact⟨r,d,c⟩
theorem Qb(dr:∀t,t∈ts->fD t)(hN:pF ts)(d:b3 v)(a:cL ts false t v):ue ((⟨ts⟩:bl),t,v)=some 0:=by
 have H:=hN.iy dr;obtain⟨v1,_⟩:=sG dr hN;obtain⟨⟨g1,g2,_⟩,_⟩:=(hc _ _ _).1 a;obtain⟨r,e,f⟩:=CF H d t false;have c:=f.2 a;subst c;have b:¬((bif decide (t<0)then true else decide (((⟨ts⟩:bl).Types.length:Int)<=t))=true):=by grind
 rw[ue,EM];simp only[WU,I.bk];rw[v1];show((if(bif (t<0:Bool)then true else (((⟨ts⟩:bl).Types.length:Int)<=t:Bool)) then some (4:Int)else some 0)>>=_)=_;rw[al b];show(BH ((⟨ts⟩:bl),t,v)>>=_)=_;rw[BH];simp only[I.bk];rw[e];rfl
theorem YU(dr:∀t,t∈ts->fD t)(hN:pF ts)(d:b3 v)(b:cL ts false t v):w6 ((⟨ts⟩:bl),t,v)=some 0:=by
 have a:=hN.iy dr;obtain⟨⟨g1,g2,_⟩,_⟩:=(hc _ _ _).1 b;obtain⟨q,e,f⟩:=Gi (by have:=a.n;omega) dr a.K d t false;have c:=f.2 b;subst c;have c1:¬t<0:=by omega
 have c2:¬(ts.length:Int)<=t:=by omega
 rw[w6,(sG dr hN).2];simp only[a8,aq];rw[ch,al (by simp[c1,c2]),Ey];simp only[I.bk];rw[e];rfl
theorem JZ{l:List Fd}(aj:j1 fq l=true)(aP:l.Pairwise (λa b=>a.id≠b.id)):(gR fq l).Pairwise (λa b=>a.id<b.id):=by
 have h1:=B2 K0 l;have c:(gR fq l).Pairwise (λa b=>a.id≠b.id):=(mn fq l).symm.pairwise aP (λ{a b} h=>λe=>h e.symm);refine(h1.and c).imp λ{a b} h=>?_;have:=h.1;have:=h.2;simp only[fq,decide_eq_false_iff_not]at*;omega
theorem IV{l:List I}{r:List b6}(h:hD ms)(c:kG ms r):(fI ts ms l r).Pairwise (λa b=>a.id≠b.id):=by
 have:=xp (ts:=ts) (l:=l) h c;have key:∀q:List Fd,j1 fq q=true->q.Pairwise (λa b=>a.id≠b.id):=by
  intro q;induction q with
  |nil=>intro _;exact .nil
  |cons a q ih=>
   intro h;simp only[j1,cX,f',lV,fq,gE]at h;rw[ka];grind
 grind
def oF(f:Fd):eE:=⟨(f.id:Int),f.c,f.p⟩
theorem IW:∀(l:List Fd) (last:Nat) (b:List eE),l.Pairwise (λa b=>a.id<b.id)->(∀f,f∈l->last<f.id/\f.id<=1000)->(l.flatMap Fd.text).length<=100000->b.length+l.length<=90000->
 jv ((last:Int),l.flatMap Fd.text,b)=some (.inr (b++l.map oF))
 |[],last,b,_,_,_,_=>by
  rw[jv,ch];simp
 |f::l,last,b,aj,e,ad,d=>by
  rw[ka]at aj;obtain⟨h1,i⟩:=e f (.head _);rw[hO]at ad⊢;have ht:f.text=fR f.id f.c f.p:=rfl;rw[ht]at ad⊢;rw[VO h1 i ad (by simp at d;omega)];have j:(l.flatMap Fd.text).length<=100000:=by rw[db]at ad;omega
  rw[IW l f.id _ aj.2 (λg ak=>⟨aj.1 g ak,(e g (.tail _ ak)).2⟩) j (by simp at d⊢;omega)];simp[oF]
theorem Ws{rest:ao}{b:List ao}(h:(dS p++rest).length<=100000)(i:b.length<=90000):kv (dS p++rest,b)=kv (rest,b++[p]):=by
 have f:p.length<=100000:=by simp only[dS,db]at h;omega
 have d:dS p++rest≠[]:=by
  intro c;have a:=dK List.length c;have:=xZ p.length;simp only[dS,db,kc]at a;omega
 rw[kv,af (by simp only[vt,decide_eq_false_iff_not];exact d),u',Rk f];simp only[a8,aq];have e:¬((!(gM (some (p,rest))).2.2)=true):=by simp[gM]
 have g:room 16 (b++[(gM (some (p,rest))).1]).length=true:=dB;rw[al e,af g];rfl
theorem J0:∀(l:List ao) (b:List ao),(l.flatMap dS).length<=100000->b.length+l.length<=90000->kv (l.flatMap dS,b)=some (.inr (b++l))
 |[],b,_,_=>by
  rw[kv,ch];simp
 |p::l,b,ad,a=>by
  rw[hO]at ad⊢;rw[Ws ad (by simp at a;omega),J0 l _ (by rw[db]at ad;omega) (by simp at a⊢;omega)];simp
def l1:List ao->List ao->List ao
 |k::ks,v::vs=>k::v::l1 ks vs
 |_,_=>[]
theorem F2:∀a b,gw a b=(l1 a b).flatMap dS
 |[],b=>by simp[gw,l1]
 |k::ks,[]=>by simp[gw,l1]
 |k::ks,v::vs=>by simp[gw,l1,F2 ks vs]
theorem IX:∀a b:List ao,a.length=b.length->(l1 a b).length=a.length+b.length
 |[],[],_=>rfl
 |k::ks,v::vs,h=>by
  simp only[l1,iP];have:=IX ks vs (by simpa using h);omega
theorem Wt(p:ao):1<=(dS p).length:=by
 have:=xZ p.length;unfold dS;rw[db];omega
theorem Ro:∀l:List ao,l.length<=(l.flatMap dS).length
 |[]=>by simp
 |p::l=>by
  have:=Ro l;have:=Wt p;grind
theorem ZC(f:Fd):1<=f.text.length:=by
 have:=xZ (2*f.id+(if f.c then 1 else 0));unfold Fd.text fR;rw[db];omega
theorem Rp:∀l:List Fd,l.length<=(l.flatMap Fd.text).length
 |[]=>by simp
 |p::l=>by
  have:=Rp l;have:=ZC p;grind
theorem IY{f:Fd}:∀{l:List Fd},f∈l->f.p.length<=(l.flatMap Fd.text).length
 |g::l,h=>by
  rw[hO,db];rcases e2.1 h with rfl|h
  . have:f.p.length<=f.text.length:=by unfold Fd.text fR dS;simp only[db];omega
    omega
  . have:=IY h;omega
theorem Kq{d:ek}(h:WF cn ⟨.slice (.nm uP),d.ed⟩):q5 d:=by
 obtain⟨a,_,c⟩:=ub (t:= .nm uP) h;refine⟨a,λx i=>?_⟩;have e:=c x i;have b:∀{n:Int},WF cn ⟨.int .u8,n⟩->dd n:=λ{n} h=>by
  cases h with
  |int k n h=>
   simp[Lit.wf,IntKind.min,IntKind.max,IntKind.bits,IntKind.signed]at h;unfold dd;omega
 have c1:=e ⟨.int .u8,x.Kind⟩ (.head _);have c2:=e ⟨.int .u8,x.A⟩ (.tail _ (.head _));have c3:=e ⟨.int .u8,x.B⟩ (.tail _ (.tail _ (.head _)));have c4:=e ⟨.int .u8,x.C⟩ (.tail _ (.tail _ (.tail _ (.head _))));have c5:=e ⟨.slice (.nm AO),x.cT⟩ (.tail _ (.tail _ (.tail _ (.tail _ (.head _)))));obtain⟨j,_,l⟩:=ub (t:= .nm AO) c5;refine⟨b c1,b c2,b c3,b c4,λq g=>?_,j⟩;have f:=l q g;exact⟨b (f ⟨.int .u8,q.ae⟩ (.head _)),b (f ⟨.int .u8,q.aB⟩ (.tail _ (.head _))),b (f ⟨.int .u8,q.gX⟩ (.tail _ (.tail _ (.head _))))⟩
theorem ZD{d:lH}(h:∀c,c∈cn.rr Tn d->WF cn c):CZ d:=by
 have c1:=h ⟨.slice (.nm uP),d.S.ed⟩ (.head _);have c2:=h ⟨.int .u8,d.T⟩ (.tail _ (.head _));have c3:=h ⟨.slice (.int .u8),d.C⟩ (.tail _ (.tail _ (.head _)));obtain⟨a,_,c⟩:=ub (t:= .int .u8) c3;have b:∀{n:Int},WF cn ⟨.int .u8,n⟩->dd n:=λ{n} h=>by
  cases h with
  |int k n h=>
   simp[Lit.wf,IntKind.min,IntKind.max,IntKind.bits,IntKind.signed]at h;unfold dd;omega
 exact⟨Kq c1,b c2,λn aP=>b (c n aP ⟨.int .u8,n⟩ (.head _)),a⟩
def j5(n:Nat):ao->Nat
 |[]=>n
 |c::s=>j5 (n*256+c.toNat) s
theorem NZ:∀(s:ao) (n k:Nat),n<256^k->j5 n s<256^(k+s.length)
 |[],n,k,h=>by simpa[j5]using h
 |c::s,n,k,h=>by
  have a:c.toNat<256:=UInt8.toNat_lt c;have h1:n*256+c.toNat<256^(k+1):=by rw[Nat.pow_succ];omega
  have:=NZ s _ (k+1) h1;simp only[j5,iP];grind
theorem aen{n:Nat}(h:n<72057594037927936):mK .u64 (n:Int) 8=((n*256:Nat):Int):=by
 unfold mK;have e:((2:Int)^min (8:Int).toNat IntKind.u64.bits)=256:=by decide
 rw[e];have:(n:Int)*256=((n*256:Nat):Int):=by push_cast;rfl
 rw[this];exact kO (by omega) (by omega)
theorem ZY{b:Nat}(c:a<72057594037927936)(d:b<256):qR .u64 ((a*256:Nat):Int) (b:Int)=((a*256+b:Nat):Int):=by
 have e:(BitVec.ofInt 64 ((a*256:Nat):Int) ||| BitVec.ofInt 64 (b:Int)).toNat=a*256+b:=by
  rw[vr,vr,BitVec.toNat_or,yh,yh,E5,po (by omega),po (by omega)];have h:=Nat.shiftLeft_add_eq_or_of_lt (show b<2^8 by omega) a;rw[Nat.shiftLeft_eq]at h;exact h.symm
 show IntKind.u64.wrap (((BitVec.ofInt 64 ((a*256:Nat):Int) ||| BitVec.ofInt 64 (b:Int)).toNat:Nat):Int)=_;rw[e];exact kO (by omega) (by omega)
theorem aaX:(256:Nat)^8=18446744073709551616:=by decide
theorem Gj{s:ao}(hs:s.length<=8):∀(k i n:Nat),i+k=s.length->n<256^i->o5 (s,(n:Int),(s.length:Int),(i:Int))=some ((j5 n (s.drop i):Nat):Int)
 |0,i,n,c,aP=>by
  rw[o5,dE,fr (by omega:s.length<=i)];rfl
 |k+1,i,n,c,aP=>by
  have aE:i<s.length:=by omega
  have b:=GG s i;have a:n<72057594037927936:=by
   have:(256:Nat)^i<=256^7:=Ar (by omega) (by omega);omega
  rw[o5,cq,af (aS aE),aen a,yw,h7,ZY a b,bH (by omega),Gj hs k (i+1) _ (by omega) (by rw[Nat.pow_succ];omega),eD aE 0];rfl
def ki(s:ao):Option Nat:=if s.head?=some 0\/8<s.length then none else some (j5 0 s)
theorem L7{s:ao}{n:Nat}(h:ki s=some n):n<18446744073709551616:=by
 unfold ki at h;split at h
 . cases h
 . rename_i aa;cases h;have:=NZ s 0 0 (by simp);have a:(256:Nat)^(0+s.length)<=256^8:=Ar (by omega) (by omega);omega
theorem IZ{s:ao}(h:s≠[]):(hU s 0=0)↔s.head?=some 0:=by
 cases s with
 |nil=>exact absurd rfl h
 |cons c s=>
  have:hU (c::s) 0=(c.toNat:Int):=yw (c::s) 0;rw[this];simp only[List.head?_cons,dP];constructor
  . intro h;exact UInt8.toNat_inj.1 (by simpa using h)
  simp_all
theorem ZZ(s:ao):∃r,xi s=some r/\(r.2=0->∃n,ki s=some n/\r.1=(n:Int))/\(r.2≠0->ki s=none):=by
 rw[xi];simp only[a8,aq];by_cases h0:s=[]
 . subst h0;have aK:o5 ([],0,((([]:ao)).length:Int),0)=some ((j5 0 []:Nat):Int):=Gj (s:=[]) (by simp) 0 0 0 rfl (by simp);refine⟨(((j5 0 []:Nat):Int),0),?_,λ_=>⟨0,rfl,rfl⟩,λh=>absurd rfl h⟩;grind
 . have e:0<s.length:=yg.2 h0;have d:aI 0 s.length=true:=aS (k:=0) e;have c:(!(decide (s=[])))=true:=(by simp[h0]);rw[c,d];simp only[x9,b7,eS];by_cases a:hU s 0=0
   . rw[af (by simp[a])];refine⟨_,rfl,λh=>(by cases h),λ_=>?_⟩;unfold ki;rw[af (.inl ((IZ h0).1 a))]
   . rw[al (by simp[a])];by_cases b:8<s.length
     . rw[cq];refine⟨_,rfl,λh=>(by cases h),λ_=>?_⟩;unfold ki;rw[af (.inr b)]
     . have aK:o5 (s,0,(s.length:Int),0)=some ((j5 0 s:Nat):Int):=Gj (by omega) s.length 0 0 (by omega) (by simp);rw[dE,aK];refine⟨_,rfl,λ_=>⟨j5 0 s,?_,rfl⟩,λh=>absurd rfl h⟩;unfold ki;rw[al]
       rintro (h|h)
       . exact a ((IZ h0).2 h)
       omega
def kM(n:Nat):Int:=if n%2=0 then((n/2:Nat):Int)else -((n/2:Nat):Int)-1
theorem Z0{n:Int}(h:cx n):kM (gB n).toNat=n:=by
 unfold kM gB cx at*;omega
theorem abq{n:Nat}(h:n<18446744073709551616):zN .u64 (n:Int) 1=((n%2:Nat):Int):=by
 have e:(BitVec.ofInt 64 (n:Int) &&& BitVec.ofInt 64 (1:Int)).toNat=n%2:=by grind
 show IntKind.u64.wrap (((BitVec.ofInt 64 (n:Int) &&& BitVec.ofInt 64 (1:Int)).toNat:Nat):Int)=_;rw[e];exact kO (by omega) (by omega)
theorem aeo{n:Nat}:lh .u64 (n:Int) 1=((n/2:Nat):Int):=by
 unfold lh;have:((2:Int)^min (1:Int).toNat IntKind.u64.bits)=2:=by decide
 grind
theorem YV(h:a<9223372036854775808):td .i64 (a:Int) 0=(a:Int):=by
 have e:(BitVec.ofInt 64 (a:Int) ^^^ BitVec.ofInt 64 (0:Int)).toNat=a:=by grind
 show IntKind.i64.wrap (((BitVec.ofInt 64 (a:Int) ^^^ BitVec.ofInt 64 (0:Int)).toNat:Nat):Int)=_;rw[e,IntKind.wrap_i64];omega
theorem YW(h:a<9223372036854775808):td .i64 (a:Int) (-1)= -(a:Int)-1:=by
 have e:(BitVec.ofInt 64 (a:Int) ^^^ BitVec.ofInt 64 (-1:Int)).toNat=18446744073709551615-a:=by
  have h1:BitVec.ofInt 64 (-1:Int)=BitVec.allOnes 64:=by decide
  rw[h1,vr,BitVec.xor_allOnes,BitVec.toNat_not,yh,E5,po (by omega)]
 all_goals (try omega)
 show IntKind.i64.wrap (((BitVec.ofInt 64 (a:Int) ^^^ BitVec.ofInt 64 (-1:Int)).toNat:Nat):Int)=_;rw[e,IntKind.wrap_i64];omega
theorem aaB{n:Nat}(h:n<18446744073709551616):AX (n:Int)=some (kM n):=by
 rw[AX,aeo,abq h,pA,pA,iL (by omega) (by omega)];unfold kM;by_cases h0:n%2=0
 . rw[af h0,h0];have:(0:Int)-((0:Nat):Int)=0:=rfl;rw[this,YV (by omega)]
 . have h1:n%2=1:=(by omega);rw[al h0,h1];have:(0:Int)-((1:Nat):Int)= -1:=rfl;rw[this,YW (by omega)]
def ln(p:ao):Option (List ao):=match pe p with
 |some (l,e)=>if e=0 then some l else none
 |none=>none
def ll(p:ao):Option (List eE):=match p6 p with
 |some (l,e)=>if e=0 then some l else none
 |none=>none
def nU(p:ao):Option (Int×ao):=match qz p with
 |some (id,q,e)=>if e=0 then some (id,q)else none
 |none=>none
theorem I0:∀(n:Nat) (s:ao) (b l:List ao),s.length<=n->s.length+b.length<=100000->kv (s,b)=some (.inr l)->∀q,q∈l->q∈b\/q.length<=s.length
 |n,s,b,l,aP,f,h=>by
  rw[kv]at h;by_cases h0:s=[]
  . grind
  . rw[af (by simp[h0]),u']at h;simp only[a8,aq]at h;cases a:nV s with
    |none=>
     rw[a]at h;simp[gM]at h
    |some r=>
     obtain⟨x,rest⟩:=r;rw[a]at h;have ad:=Bo a;have c:¬((!(gM (some (x,rest))).2.2)=true):=(by simp[gM]);have e:room 16 (b++[(gM (some (x,rest))).1]).length=true:=dB;rw[al c,af e]at h;intro q d
     match n,aP with
     |0,aP=>omega
     |n+1,aP=>
      have:=I0 n rest _ l (by omega) (by simp;omega) h q d;rcases this with h|h
      . rcases hP.1 h with h|h
        . exact .inl h
        . right;have:q=x:=(by simpa[gM]using h);grind
      omega
theorem HX:∀(n:Nat) (s:ao) (last:Nat) (b l:List eE),s.length<=n->s.length+b.length<=100000->jv ((last:Int),s,b)=some (.inr l)->
 ∃c,l=b++c/\(∀f,f∈c->f.Data.length<=s.length/\(last:Int)<f.ae/\f.ae<=1000)/\c.Pairwise (λa b=>a.ae<b.ae)
 |n,s,last,b,l,aP,u,h=>by
  rw[jv]at h;by_cases h0:s=[]
  . simp_all
  . rw[af (by simp[h0])]at h;rcases vM s with⟨e,he,ak⟩|⟨m,k,ak,w,i,j⟩
    . rw[xX he ak]at h;simp at h
    . rw[sf ak i]at h;simp only[a8,aq,Eb j]at h;by_cases v:((m/2:Nat):Int)<=(last:Int)\/1000<((m/2:Nat):Int)
      . grind
      . have:¬((bif bif (!true)then true else decide (((m/2:Nat):Int)<=(last:Int))then true else decide (1000<((m/2:Nat):Int)))=true):=(by grind);rw[al this,u' (by rw[vy];omega)]at h;simp only[aq]at h;cases d:nV (s.drop k)with
        |none=>
         rw[d]at h;simp[gM]at h
        |some r=>
         obtain⟨x,rest⟩:=r;rw[d]at h;have ad:=Bo d;rw[vy]at ad;have o:¬((!(gM (some (x,rest))).2.2)=true):=(by simp[gM]);have q:b9 .i64 ((m/2:Nat):Int)=((m/2:Nat):Int):=pA;rw[al o,q]at h;have p:room 32 (b++[(⟨((m/2:Nat):Int),decide (cf (m:Int) 2=1),(gM (some (x,rest))).1⟩:eE)]).length=true:=dB;rw[af p]at h
         match n,aP with
         |0,aP=>omega
         |n+1,aP=>
          obtain⟨c,e,h1,t⟩:=HX n rest (m/2) _ l (by omega) (by simp;omega) h;refine⟨⟨((m/2:Nat):Int),decide (cf (m:Int) 2=1),(gM (some (x,rest))).1⟩::c,by rw[e];simp,λf g=>?_,?_⟩
          . rcases e2.1 g with rfl|g
            . refine⟨by show x.length<=_;omega,by show(last:Int)<((m/2:Nat):Int);omega,by show((m/2:Nat):Int)<=1000;omega⟩
            grind
          grind
theorem J3(aj:p.length<=90000):∃o,pe p=some o/\(o.2=0->ln p=some o.1/\(∀q,q∈o.1->q.length<=p.length)/\o.1.length<=p.length)/\(o.2≠0->ln p=none):=by
 obtain⟨o,h1,a⟩:=Zq aj;refine⟨o,h1,λh0=>⟨?_,?_,a⟩,λh0=>?_⟩
 . unfold ln;rw[h1];grind
 . obtain⟨c,a1,_⟩:=Ii p.length p [] (by omega) (by simp;omega);rw[pe,a1]at h1;cases c with
   |inl e=>grind
   |inr l=>
    have:o=(l,0):=(qO h1).symm;subst this;intro q b;rcases I0 p.length p [] l (by omega) (by simp;omega) a1 q b with h|h
    . cases h
    . exact h
 . unfold ln;rw[h1];grind
theorem YX(aj:p.length<=90000):∃o,p6 p=some o/\(o.2=0->ll p=some o.1/\(∀f,f∈o.1->f.Data.length<=p.length/\cK f.ae)/\o.1.Pairwise (λa b=>a.ae<b.ae)/\o.1.length<=p.length)/\(o.2≠0->ll p=none):=by
 obtain⟨o,h1,i⟩:=Xp aj;obtain⟨d,a1,_⟩:=HM p.length p 0 [] (by omega) (by simp;omega);have key:o.2=0->(∀f,f∈o.1->f.Data.length<=p.length/\cK f.ae)/\o.1.Pairwise (λa b=>a.ae<b.ae):=by
  intro h0;have c:=h1;have g:jv (0,p,[])=some d:=a1;rw[p6,g]at c;cases d with
  |inl e=>
   have:o=([],e):=(qO c).symm;simp_all
  |inr l=>
   have:o=(l,0):=(qO c).symm;subst this;obtain⟨k,e,b1,b2⟩:=HX p.length p 0 [] l (by omega) (by simp;omega) a1;have:l=k:=(by simpa using e);subst this;exact⟨λf j=>by have:=b1 f j;exact⟨this.1,by omega,this.2.2⟩,b2⟩
 refine⟨o,h1,λh0=>⟨?_,(key h0).1,(key h0).2,i⟩,λh0=>?_⟩
 . unfold ll;rw[h1];grind
 . unfold ll;rw[h1];grind
theorem aaC(p:ao):∃o,qz p=some o/\(o.2.2=0->nU p=some (o.1,o.2.1)/\o.2.1.length<=p.length/\cK o.1)/\(o.2.2≠0->nU p=none):=by
 obtain⟨o,h1⟩:=aaJ p;have key:o.2.2=0->o.2.1.length<=p.length/\cK o.1:=by
  intro h0;have a:=h1;rw[qz]at a;rcases vM p with⟨e,he,ak⟩|⟨m,k,ak,f,c,g⟩
  . rw[xX he ak]at a;grind
  . rw[sf ak c]at a;simp only[a8,aq]at a;by_cases d:(m:Int)<1\/1000<(m:Int)
    . grind
    . have b:¬((bif bif (!true)then true else decide ((m:Int)<1)then true else decide (1000<(m:Int)))=true):=(by grind);rw[al b,pA]at a;have:o=((m:Int),p.drop k,0):=(qO a).symm;subst this;exact⟨by show(p.drop k).length<=_;rw[vy];omega,by omega,by show(m:Int)<=1000;omega⟩
 refine⟨o,h1,λh0=>⟨?_,(key h0).1,(key h0).2⟩,λh0=>?_⟩
 . unfold nU;rw[h1];grind
 . unfold nU;rw[h1];grind
theorem Kr:∀(s:ao) (n:Nat) (b:UInt8),j5 n (s++[b])=j5 n s*256+b.toNat
 |[],n,b=>by simp[j5]
 |a::s,n,b=>by
  simp only[qQ,j5];exact Kr s _ b
theorem Z1(n:Nat):j5 0 (gG n)=n:=by
 induction n using Nat.strongRecOn with
 |ind n ih=>
  rw[gG];split
  . rename_i h;subst h;rfl
  . rw[Kr,ih (n/256) (by omega),nF (by omega)];omega
theorem YY:∀(n:Nat),¬(gG n).head?=some 0:=by
 intro n;induction n using Nat.strongRecOn with
 |ind n ih=>
  rw[gG];split
  . simp
  . rename_i h;have:=ih (n/256) (by omega);by_cases f:n<256
    . have:n/256=0:=(by omega);rw[this,gG,af rfl];simp only[hZ,List.head?_cons,dP];intro d;have c:=dK UInt8.toNat d;rw[nF (by omega)]at c;grind
    . have e:gG (n/256)≠[]:=by rw[gG,bR];simp
      cases b:gG (n/256)with
      |nil=>exact absurd b e
      |cons a l=>rw[b]at this;simpa using this
theorem J4{n:Nat}(h:n<18446744073709551616):ki (gG n)=some n:=by
 unfold ki;have h1:=YY n;have a:=uZ 8 n (by rw[aaX];exact h)
 rw [al (by rintro (h|h)
            . exact h1 h
            . omega),Z1]
theorem Z2{a b:List b6}(c:a.Pairwise (λx y=>x.ae<y.ae))(d:b.Pairwise (λx y=>x.ae<y.ae))(h:∀x,x∈a↔x∈b):a=b:=by
 have f:a.Nodup:=c.imp λ{x y} h e=>by subst e;omega
 have g:b.Nodup:=d.imp λ{x y} h e=>by subst e;omega
 have aj:a.Perm b:=(List.perm_ext_iff_of_nodup f g).2 h;exact List.Perm.eq_of_pairwise (le:=λx y:b6=>x.ae<y.ae) (λx y _ _ h1 i=>by omega) c d aj
theorem ZE{l m:List I}(ad:l.length=m.length)(h:∀i,i<l.length->l.getD i az=m.getD i az):l=m:=by
 apply D2 ad;grind
theorem VU(p:ao):p.length<=(dS p).length:=by unfold dS;rw[db];omega
theorem BW:∀{l:List ao},p∈l->p.length<=(l.flatMap dS).length
 |q::l,h=>by
  rw[hO,db];rcases e2.1 h with rfl|h
  . have:=VU p;omega
  . have:=BW h;omega
theorem Gt{ts:List ah}:∀{ms:List aU} {l:List I} {x:Fd},x∈dy ts ms l->∃j,j<ms.length/\j<l.length/\dz (ms.getD j aD) (l.getD j az)=false/\x=⟨(ms.getD j aD).ae.toNat,(ms.getD j aD).cv,bF ts (ms.getD j aD).aB (l.getD j az)⟩
 |[],l,x,h=>by
  rw[dy]at h
  . cases h
  grind
 |m::ms,[],x,h=>by
  rw[dy]at h
  . cases h
  grind
 |m::ms,v::l,x,h=>by
  rw[dy]at h;split at h
  . obtain⟨j,h1,a,b,c⟩:=Gt h;exact⟨j+1,by simpa using h1,by simpa using a,by simpa using b,by simpa using c⟩
  . rename_i d;rcases e2.1 h with rfl|h
    . exact⟨0,by simp,by simp,by simpa using d,rfl⟩
    . obtain⟨j,h1,a,b,c⟩:=Gt h;exact⟨j+1,by simpa using h1,by simpa using a,by simpa using b,by simpa using c⟩
theorem u0(h:hD ms){a b:aU}(c:a∈ms)(d:b∈ms)(e:a.ae=b.ae):a=b:=by
 obtain⟨i,f,rfl⟩:=jf c;obtain⟨j,g,rfl⟩:=jf d;have key:=yf.1 h.1;grind
theorem nI{m:aU}(h:cU ms id=some m):m∈ms/\m.ae=id:=
 ⟨List.mem_of_find?_eq_some h,by simpa using List.find?_some h⟩
theorem J5(c:hD ms){m:aU}(h:m∈ms):cU ms m.ae=some m:=by
 cases a:cU ms m.ae with
 |none=>exact absurd rfl (sD a m h)
 |some q=>
  obtain⟨h1,b⟩:=nI a;rw[u0 c h1 h b]
theorem sE{ts:List ah}{t:Int}:∀{l:List I} {x:I},x∈l->eK ts t x<=eW ts t l
 |v::l,x,h=>by
  rw[eW];rcases e2.1 h with rfl|h
  . omega
  . have:=sE (ts:=ts) (t:=t) h;omega
theorem F3{ts:List ah}:∀{ms:List aU} {l:List I} {j:Nat},j<ms.length->j<l.length->dz (ms.getD j aD) (l.getD j az)=false->eK ts (ms.getD j aD).aB (l.getD j az)<=gW ts ms l
 |m::ms,v::l,0,_,_,a=>by
  simp only[mG]at a⊢;rw[gW,al (by rw[a];simp)];omega
 |m::ms,v::l,j+1,h1,b,a=>by
  simp only[DX]at a⊢;have:=F3 (ts:=ts) (by simpa using h1) (by simpa using b) a;rw[gW];grind
theorem Ks{l:List ao}(h:(l.flatMap dS).length<=90000):ln (l.flatMap dS)=some l:=by
 have ad:=Ro l;have:=J0 l [] (by omega) (by simp;omega);unfold ln;rw[pe,this];rfl
theorem ZF{l:List Fd}(e:l.Pairwise (λa b=>a.id<b.id))(c:∀f,f∈l->1<=f.id/\f.id<=1000)(h:(l.flatMap Fd.text).length<=90000):ll (l.flatMap Fd.text)=some (l.map oF):=by
 have ad:=Rp l;have bI:=IW l 0 [] e (λf h=>⟨by have:=c f h;omega,(c f h).2⟩) (by omega) (by simp;omega);have d:jv (0,l.flatMap Fd.text,[])=some (.inr (l.map oF)):=by simpa using bI
 unfold ll;rw[p6,d];rfl
theorem L8{n:Nat}(h:1<=n/\n<=1000)(rest:ao):nU (e4 n++rest)=some ((n:Int),rest):=by
 unfold nU;have c:=sf (Hd (n:=n) (by omega) rest) (by simp);rw[qz,c];simp only[a8,aq];have a:¬(n:Int)<1:=by omega
 have b:¬(1000:Int)<(n:Int):=by omega
 rw[al (by simp only[a,b,dU,dF,e',ca,not_false_eq_true]),pA];simp
theorem HY{l:List I}{i:Nat}(h:i<l.length):(bL ts t l).getD i []=bF ts t (l.getD i az):=by
 rw[Br,ij (bF ts t) l i az [] h]
theorem G0{b n r:Nat}(h:a=1+max n b)(e:a<=r+1)(d:c<=b):c<=r:=by omega
theorem Z3{b r:Nat}(h:a=1+max 1 b)(e:a<=r+1)(d:c=1):c<=r:=by omega
def L6(ts:List ah)(t:Int)(v:I):Prop:=cL ts false t v/\b3 v/\wt v<=2147483648
theorem Y3{a:I}(h:b3 a)(b:I):eZ (AS (a,b)) a b:=by
 obtain⟨r,h1,c⟩:=Cc h b;refine⟨r,?_,c⟩;rw[AS];simp only[I.bk];rw[h1];rfl
theorem Y4{a:I}(h:b3 a)(b:I):eZ (oH (a,b)) a b:=Re h b
def dA{α c:Type}(f:α->Option c):List α->Option (List c)
 |[]=>some []
 |a::l=>match f a,dA f l with
  |some b,some m=>some (b::m)
  |_,_=>none
def iq{α:Type}:List α->List α
 |a::_::l=>a::iq l
 |_=>[]
def iQ{α:Type}:List α->List α
 |_::b::l=>b::iQ l
 |_=>[]
def rf(ks:List I):Bool:=(List.range (ks.length-1)).all λi=>decide (iz (ks.getD i az) (ks.getD (i+1) az)<0)
theorem FX:rf ks=true↔jA ks:=by
 unfold rf jA;grind
def eH(ts:List ah):Nat->Int->ao->Option I
 |0,_,_=>none
 |n+1,t,p=>
  let x:=ts.getD t.toNat aN
  if x.Kind=1 then(if p=[]then some ⟨1,false,0,[],0,[],[],[]⟩else if p=[1]then some ⟨1,true,0,[],0,[],[],[]⟩else none)else if x.Kind=2 then(match ki p with
   |some m=>if x.bE<=kM m/\kM m<=x.bG then some ⟨2,false,kM m,[],0,[],[],[]⟩else none
   |none=>none)
  else if x.Kind=3 then(if(p.length:Int)<=x.Max then some ⟨3,false,0,p,0,[],[],[]⟩else none)else if x.Kind=4 then(match ki p with
   |some m=>if 1<=m/\m<=1000/\((x.bg.any λy=>decide (y.ae=(m:Int)))||x.Open)=true then some ⟨4,false,0,[],(m:Int),[],[],[]⟩else none
   |none=>none)
  else if x.Kind=9 then(match p with
   |[]=>some ⟨9,false,0,[],0,[],[],[]⟩
   |c::q=>if c=1 then(eH ts n x.aC q).map λv=>⟨9,false,0,[],0,[],[v],[]⟩else none)
  else if x.Kind=6 then(match nU p with
   |some (id,q)=>(match cU x.ag id with
    |some m=>(eH ts n m.aB q).map λv=>⟨6,false,0,[],id,[],[v],[]⟩
    |none=>if x.Open then some ⟨6,false,0,[],id,[],[],[⟨id,q⟩]⟩else none)
   |none=>none)
  else if x.Kind=7 then(match ln p with
   |some l=>if(l.length:Int)<=x.Max then(dA (eH ts n x.aC) l).map λa=>⟨7,false,0,[],0,[],a,[]⟩else none
   |none=>none)
  else if x.Kind=8 then(match ln p with
   |some l=>if l.length%2 = 0/\((l.length/2:Nat):Int)<=x.Max then (match dA (eH ts n x.Key) (iq l) with
    |some ks=>if rf ks then(dA (eH ts n x.aC) (iQ l)).map λa=>⟨8,false,0,[],0,ks,a,[]⟩else none
    |none=>none)else none
   |none=>none)
  else(match ll p with
   |some l=>(match dA (λm:aU=>match l.find? (λf=>decide (f.ae = m.ae)) with
    |some f=>eH ts n m.aB f.Data
    |none=>if m.bV then some m.bz else none) x.ag with
    |some a=>if(l.all λf=>(cU x.ag f.ae).isSome || !f.cv) then some ⟨5,false,0,[],0,[],a,(l.filter λf=>!(cU x.ag f.ae).isSome).map λf=>⟨f.ae,f.Data⟩⟩else none
    |none=>none)
   |none=>none)
section
variable {ts:List ah}
def fM(ts:List ah)(b1:au)(b2:Int)(path:au)(o:Option I)(r:Option (I×Bool×List ah×au×Int×au)):Prop:=
 (∀v,o=some v->r=some (v,true,ts,b1,b2,path))/\(o=none->∃w f1 f2,r=some (w,false,ts,f1,f2,path))
theorem x1(aj:path.length<=1000)(a:Int)(b1:au)(b2:Int):hp (a,ts,b1,b2,path)=some ((⟨0,false,0,[],0,[],[],[]⟩:I),false,ts,a,path,path):=by
 rw[hp];unfold sr gg;rw[af (oN (dB (by omega) (by omega)))];simp
theorem u1{step:Int}(aj:path.length<=1000)(h:fM ts b1 b2 (path++[step]) o (oz (t,p,ts,b1,b2,path++[step]))):
 fM ts b1 b2 path o (iE (step,t,p,ts,b1,b2,path)):=by
 have key:∀w ok f1 f2,oz (t,p,ts,b1,b2,path++[step])=some (w,ok,ts,f1,f2,path++[step])->iE (step,t,p,ts,b1,b2,path)=some (w,ok,ts,f1,f2,path):=by
  intro w ok f1 f2 a;rw[iE];simp only[a8,aq];rw[af (dB),a];simp only[aq,I.bk];have aK:dL .i64 ((path++[step]).length:Int) 1=(path.length:Int):=by rw[iL (by simp<;>omega) (by simp<;>omega)];simp
  rw[aK];have c:ez 0 (path.length:Int) (path++[step]).length=true:=iI.2 (by simp;omega);simp_all
 refine⟨λv b=>key _ _ _ _ (h.1 v b),λaP=>?_⟩;obtain⟨w,f1,f2,a⟩:=h.2 aP;exact⟨w,f1,f2,key _ _ _ _ a⟩
theorem I1{c:Type}{f:α->Option c}:∀{l:List α} {m:List c},dA f l=some m->m.length=l.length
 |[],m,h=>by rw[dA]at h;cases h;rfl
 |a::l,m,h=>by
  rw[dA]at h;split at h
  . rename_i b e h1 d;cases h;rw[iP,iP,I1 d]
  . cases h
theorem J6{l:List ao}(ad:l.length<=90000)(h:∀q,q∈l->∀step b1 b2,fM ts b1 b2 path (f q) (iE (step,x.aC,q,ts,b1,b2,path)))
 {z0 z2 z4 a0 a2 a4:Int}{z1 a1:Bool}{z3 a3:ao}{b1:au}{b2:Int}:∀(k i:Nat) (acc:List I),i+k=l.length->acc.length=i->
 (∀m,dA f (l.drop i)=some m->rE (l,(l.length:Int),(i:Int),ts,b1,b2,x,z0,z1,z2,z3,z4,a0,a1,a2,a3,a4,path,acc)=some (.inr (ts,b1,b2,z0,z1,z2,z3,z4,a0,a1,a2,a3,a4,path,acc++m)))/\
 (dA f (l.drop i)=none->∃w f1 f2,rE (l,(l.length:Int),(i:Int),ts,b1,b2,x,z0,z1,z2,z3,z4,a0,a1,a2,a3,a4,path,acc)=some (.inl (false,ts,f1,f2,w,path)))
 |0,i,acc,d,c=>by
  rw[rE,dE,fr (by omega),dA];grind
 |k+1,i,acc,d,c=>by
  have aE:i<l.length:=by omega
  have a:=h _ (br aE []) (i:Int) b1 b2;have e:l.drop i=l.getD i []::l.drop (i+1):=by rw[fG aE];exact pk aE
  rw[rE,cq,af (aS aE),a',e,dA];cases b:f (l.getD i [])with
  |none=>
   obtain⟨w,f1,f2,n⟩:=a.2 b;simp_all
  |some v=>
   rw[a.1 v b];simp only[a8,aq,I.bk,dU];rw[ch,af (dB),bH (by omega)];obtain⟨o,j⟩:=J6 ad h (z0:=z0) (z1:=z1) (z2:=z2) (z3:=z3) (z4:=z4) (a0:=a0) (a1:=a1) (a2:=a2) (a3:=a3) (a4:=a4) (b1:=b1) (b2:=b2) k (i+1) (acc++[v]) (by omega) (by simp;omega);cases hs:dA f (l.drop (i+1))with
   |none=>exact⟨λm g=>by simp at g,λ_=>j hs⟩
   |some p=>grind
end
theorem CG{l:List I}{i:Nat}(a:i<l.length):l.set i (l.getD i az)=l:=by simp_all
theorem I2{a0 a2 a4 z0 z2 z4:Int}{a1 z1:Bool}{a3 z3:ao}{l l2:List I}{r:List b6}(ad:l.length<=5000000000000)(h:∀y,y∈l->jw y=some y):∀(k i:Nat),i+k=l.length->
 rT ((l.length:Int),(i:Int),a0,a1,a2,a3,a4,z0,z1,z2,z3,z4,l,l2,r)=some (a0,a1,a2,a3,a4,z0,z1,z2,z3,z4,l,l2,r)
 |0,i,a=>by rw[rT,dE]
 |k+1,i,a=>by
  have aE:i<l.length:=by omega
  rw[rT,cq,af (aS aE),a',cq];simp only[I.bk];rw[h _ (br aE az)];simp only[a8,aq,I.bk];rw[af (aS aE),cq,bH (by omega),CG aE];exact I2 ad h k (i+1) (by omega)
theorem I3{a0 a2 a4 z0 z2 z4:Int}{a1 z1:Bool}{a3 z3:ao}{l l2:List I}{r:List b6}(ad:l.length<=5000000000000)(h:∀y,y∈l->jw y=some y):∀(k i:Nat),i+k=l.length->
 rU ((l.length:Int),(i:Int),a0,a1,a2,a3,a4,z0,z1,z2,z3,z4,l,l2,r)=some (a0,a1,a2,a3,a4,z0,z1,z2,z3,z4,l2,l,r)
 |0,i,a=>by rw[rU,dE]
 |k+1,i,a=>by
  have aE:i<l.length:=by omega
  rw[rU,cq,af (aS aE),a',cq];simp only[I.bk];rw[h _ (br aE az)];simp only[a8,aq,I.bk];rw[af (aS aE),cq,bH (by omega),CG aE];exact I3 ad h k (i+1) (by omega)
theorem zu:∀l:List I,l.length<=du l
 |[]=>by simp
 |v::l=>by
  rw[jz,hz,iP];have:=zu l;omega
theorem J7(l:List b6):l.length<=(l.map λx=>x.Data.length+1).sum:=by
 induction l with
 |nil=>simp
 |cons a l ih=>simp only[kd,vk,iP];omega
theorem uX{k n:Nat}(a:k<=1000:=by omega)(h:n<=1000000000:=by omega):room k n=true:=by
 unfold room hr dm;simp only[cX,gE];refine⟨?_,by omega⟩;have:(2*n+192)*k<=2000000192*1000:=Nat.mul_le_mul (by omega) a;omega
theorem YZ(f:b3 v):wt v<=1000000000->jw v=some v:=by
 induction f with
 |mk v hs h1 k m o n p cV w x z i g=>
  intro q;have s:=hz v;have t:=zu v.aG;have l2:=zu v.ai;have u:=J7 v.Rest;have kk:∀y,y∈v.aG->jw y=some y:=λy a=>i y a (by have:=fx a;omega);have j:∀y,y∈v.ai->jw y=some y:=λy a=>g y a (by have:=fx a;omega);have c1:gg 120 v.aG=some v.aG:=by unfold gg;rw[af (oN (uX))]
  have c2:gg 120 v.ai=some v.ai:=by unfold gg;rw[af (oN (uX))]
  have c3:gg 24 v.Rest=some v.Rest:=by unfold gg;rw[af (oN (uX))]
  have b:=I2 (a0:=v.Kind) (a1:=v.b5) (a2:=v.bo) (a3:=v.bx) (a4:=v.ae) (z0:=0) (z1:=false) (z2:=0) (z3:=[]) (z4:=0) (l:=v.aG) (l2:=v.ai) (r:=v.Rest) (by omega) kk v.aG.length 0 (by omega);have d:=I3 (a0:=v.Kind) (a1:=v.b5) (a2:=v.bo) (a3:=v.bx) (a4:=v.ae) (z0:=0) (z1:=false) (z2:=0) (z3:=[]) (z4:=0) (l:=v.ai) (l2:=v.aG) (r:=v.Rest) (by omega) j v.ai.length 0 (by omega);have c:rT ((v.aG.length:Int),0,v.Kind,v.b5,v.bo,v.bx,v.ae,0,false,0,[],0,v.aG,v.ai,v.Rest)=_:=b;have e:rU ((v.ai.length:Int),0,v.Kind,v.b5,v.bo,v.bx,v.ae,0,false,0,[],0,v.ai,v.aG,v.Rest)=_:=d;rw[jw,c1,c2,c3];simp only[a8,aq];rw[c];simp only[aq];rw[e];simp only[aq];cases v;rfl
section
variable {ts:List ah}
def vW(ts:List ah)(n:Nat):Prop:=∀(t:Int) (p:ao) (b1:au) (b2:Int) (path:au),0<=t->t<ts.length->p.length<=4096->path.length+n=200->
 fM ts b1 b2 path (eH ts n t p) (oz (t,p,ts,b1,b2,path))
theorem jx(aj:path.length<=1000)(a:Int)(b1:au)(b2:Int):fM ts b1 b2 path none (hp (a,ts,b1,b2,path)>>=λr=>some (I.eta r.1,r.2.1,r.2.2.1,r.2.2.2.2.2,r.2.2.2.1,r.2.2.2.2.1)):=by
 refine⟨λv h=>(by cases h),λ_=>?_⟩;rw[x1 aj];simp_all
theorem DG(c:hD x.ag)(ad:x.ag.length<=1000){m:aU}(bI:cU x.ag id=some m):∃j,j<x.ag.length/\hG (x,id)=some ((j:Int),true)/\x.ag.getD j aD=m:=by
 obtain⟨b,e⟩:=nI bI;obtain⟨r,f,g⟩:=xk (t:=x) (id:=id) (by omega);rcases g with⟨j,a,d,_,rfl⟩|⟨q,_⟩
 . exact⟨j,a,f,u0 c (br a aD) b (by rw[d,e])⟩
 . obtain⟨i,k,rfl⟩:=jf b;grind
theorem Y0(H:jQ ts){n:Nat}(ih:vW ts n)(k:x∈ts)(da:x.Kind=6)(dr:∀m,m∈x.ag->0<=m.aB/\m.aB<ts.length)(aj:p.length<=4096)(E:path.length+(n+1)=200):
 fM ts b1 b2 path (match nU p with
  |some (id,q)=>(match cU x.ag id with
   |some m=>(eH ts n m.aB q).map λv=>⟨6,false,0,[],id,[],[v],[]⟩
   |none=>if x.Open then some ⟨6,false,0,[],id,[],[],[⟨id,q⟩]⟩else none)
  |none=>none) (Bk (x,p,ts,b1,b2,path)):=by
 obtain⟨o,s,u,y⟩:=aaC p;rw[Bk,s];simp only[a8,aq];by_cases h0:o.2.2=0
 . obtain⟨v1,v2,v3⟩:=u h0;rw[al (by simp[h0]),v1];dsimp only;obtain⟨f,C⟩:=H.A x k (.inr da);cases bI:cU x.ag o.1 with
   |some m=>
    obtain⟨j,a,b,l⟩:=DG f (by omega) bI;rw[b];simp only[aq];rw[af trivial,af (aS a),a',l];obtain⟨t1,t2⟩:=dr m (nI bI).1;have c:=u1 (step:=o.1) (path:=path) (by omega) (ih m.aB o.2.1 b1 b2 (path++[o.1]) t1 t2 (by omega) (by simp;omega));cases d:eH ts n m.aB o.2.1 with
    |none=>
     obtain⟨w,f1,f2,i⟩:=c.2 d;rw[i];exact⟨λv h=>by simp at h,λ_=>⟨_,_,_,rfl⟩⟩
    |some v=>
     rw[c.1 v d]
     exact⟨λe h=>by
      have:e=⟨6,false,0,[],o.1,[],[v],[]⟩:=(by simpa using h.symm);rw[this]
      simp[I.bk,da],λh=>by simp at h⟩
   |none=>
    obtain⟨r,z,B⟩:=xk (t:=x) (id:=o.1) (by omega);have g:r=(0,false):=by
     rcases B with⟨j,a,b,_,_⟩|⟨_,q⟩
     . exact absurd b (sD bI _ (br a aD))
     . exact q
    rw[z,g];cases D:x.Open with
    |false=>
     simp only[aq,ca,b4,fz,b7,eq_self];exact jx (by omega) _ _ _
    |true=>
     simp only[aq,ca,b4,dU,b7,eq_self];exact⟨λe h=>(by cases h;rw[da]),λh=>(by cases h)⟩
 . rw[af (by simp[h0]),y h0];exact jx (by omega) _ _ _
end
theorem Wu{l:List α}(h:2*j+1<l.length)(d:α):iq (l.drop (2*j))=l.getD (2*j) d::iq (l.drop (2*(j+1))):=by
 rw[pk (by omega:2*j<l.length),pk h,iq,fG (by omega)];rfl
theorem Y1{l:List α}(h:2*j+1<l.length)(d:α):iQ (l.drop (2*j))=l.getD (2*j+1) d::iQ (l.drop (2*(j+1))):=by
 rw[pk (by omega:2*j<l.length),pk h,iQ,fG h];rfl
theorem Mj{i:Nat}(h:i<1000000):aQ .i64 (i:Int) 2=((i+2:Nat):Int):=by
 have:=xJ (a:=i) (b:=2) (by omega);exact this
section
variable {ts:List ah}
theorem J8{l:List ao}(ad:l.length<=90000)(he:l.length%2=0)(h:∀q,q∈l->∀step b1 b2,fM ts b1 b2 path (f q) (iE (step,x.Key,q,ts,b1,b2,path)))
 {z0 z2 z4 a0 a2 a4:Int}{z1 a1:Bool}{z3 a3:ao}{b1:au}{b2:Int}:∀(k j:Nat) (acc:List I),2*(j+k)=l.length->acc.length=j->
 (∀m,dA f (iq (l.drop (2*j)))=some m->r6 (l,((2*j:Nat):Int),ts,b1,b2,x,z0,z1,z2,z3,z4,a0,a1,a2,a3,a4,path,acc)=some (.inr (l,ts,b1,b2,x,z0,z1,z2,z3,z4,a0,a1,a2,a3,a4,path,acc++m)))/\
 (dA f (iq (l.drop (2*j)))=none->∃w f1 f2,r6 (l,((2*j:Nat):Int),ts,b1,b2,x,z0,z1,z2,z3,z4,a0,a1,a2,a3,a4,path,acc)=some (.inl (false,ts,f1,f2,w,path)))
 |0,j,acc,e,d=>by
  rw[r6,dE,fr (by omega),show iq ([]:List ao)=[]from rfl,dA];grind
 |k+1,j,acc,e,d=>by
  have aE:2*j<l.length:=by omega
  have a:=h _ (br aE []) (gF .i64 ((2*j:Nat):Int) 2) b1 b2;rw[r6,cq,af (aS aE),a',Wu (by omega) [],dA];cases b:f (l.getD (2*j) [])with
  |none=>
   obtain⟨w,f1,f2,n⟩:=a.2 b;simp_all
  |some v=>
   rw[a.1 v b];simp only[a8,aq,I.bk,dU];rw[ch,af (dB),Mj (by omega)];obtain⟨o,i⟩:=J8 ad he h (z0:=z0) (z1:=z1) (z2:=z2) (z3:=z3) (z4:=z4) (a0:=a0) (a1:=a1) (a2:=a2) (a3:=a3) (a4:=a4) (b1:=b1) (b2:=b2) k (j+1) (acc++[v]) (by omega) (by simp;omega);have c:2*j+2=2*(j+1):=(by omega);rw[c];cases hs:dA f (iq (l.drop (2*(j+1))))with
   |none=>exact⟨λm g=>by simp at g,λ_=>i hs⟩
   |some p=>grind
theorem I5{l:List ao}(ad:l.length<=90000)(he:l.length%2=0)(h:∀q,q∈l->∀step b1 b2,fM ts b1 b2 path (f q) (iE (step,x.aC,q,ts,b1,b2,path)))
 {z0 z2 z4 a0 a2 a4:Int}{z1 a1:Bool}{z3 a3:ao}{b1:au}{b2:Int}{ks:List I}:∀(k j:Nat) (acc:List I),2*(j+k)=l.length->acc.length=j->
 (∀m,dA f (iQ (l.drop (2*j)))=some m->r7 (l,((2*j+1:Nat):Int),ts,b1,b2,x,z0,z1,z2,z3,z4,a0,a1,a2,a3,a4,path,ks,acc)=some (.inr (ts,b1,b2,z0,z1,z2,z3,z4,a0,a1,a2,a3,a4,path,ks,acc++m)))/\
 (dA f (iQ (l.drop (2*j)))=none->∃w f1 f2,r7 (l,((2*j+1:Nat):Int),ts,b1,b2,x,z0,z1,z2,z3,z4,a0,a1,a2,a3,a4,path,ks,acc)=some (.inl (false,ts,f1,f2,w,path)))
 |0,j,acc,e,d=>by
  rw[r7,dE,fr (by omega),show iQ ([]:List ao)=[]from rfl,dA];grind
 |k+1,j,acc,e,d=>by
  have aE:2*j+1<l.length:=by omega
  have a:=h _ (br aE []) (gF .i64 ((2*j+1:Nat):Int) 2) b1 b2;rw[r7,cq,af (aS aE),a',Y1 aE [],dA];cases b:f (l.getD (2*j+1) [])with
  |none=>
   obtain⟨w,f1,f2,n⟩:=a.2 b;simp_all
  |some v=>
   rw[a.1 v b];simp only[a8,aq,I.bk,dU];rw[ch,af (dB),Mj (by omega)];obtain⟨o,i⟩:=I5 ad he h (z0:=z0) (z1:=z1) (z2:=z2) (z3:=z3) (z4:=z4) (a0:=a0) (a1:=a1) (a2:=a2) (a3:=a3) (a4:=a4) (b1:=b1) (b2:=b2) (ks:=ks) k (j+1) (acc++[v]) (by omega) (by simp;omega);have c:2*j+1+2=2*(j+1)+1:=(by omega);rw[c];cases hs:dA f (iQ (l.drop (2*(j+1))))with
   |none=>exact⟨λm g=>by simp at g,λ_=>i hs⟩
   |some p=>grind
theorem Z4{a b:I}(c:cx a.bo)(d:cx b.bo):o9 (a,b)=some (iz a b):=by
 obtain⟨r,e,f⟩:=BV c d;have:=x0 c d;grind
theorem Kt{x:ah}(aj:path.length<=1000){l:List ao}(a:∀y,y∈ks->cx y.bo)(ad:ks.length<=90000)
 {z0 z2 z4 a0 a2 a4:Int}{z1 a1:Bool}{z3 a3:ao}{b1:au}{b2:Int}:∀(k i:Nat),ks.length-(i+1)=k->
 ((∀m,i<=m->m+1<ks.length->iz (ks.getD m az) (ks.getD (m+1) az)<0)/\qi (l,((i+1:Nat):Int),ts,b1,b2,x,z0,z1,z2,z3,z4,a0,a1,a2,a3,a4,path,ks)=some (.inr (l,ts,b1,b2,x,z0,z1,z2,z3,z4,a0,a1,a2,a3,a4,path,ks)))\/
 ((∃m,m+1<ks.length/\¬iz (ks.getD m az) (ks.getD (m+1) az)<0)/\∃w f1 f2,qi (l,((i+1:Nat):Int),ts,b1,b2,x,z0,z1,z2,z3,z4,a0,a1,a2,a3,a4,path,ks)=some (.inl (false,ts,f2,w,path,f1)))
 |0,i,c=>by
  rw[qi,dE];grind
 |k+1,i,c=>by
  have aE:i+1<ks.length:=by omega
  have aK:dL .i64 ((i+1:Nat):Int) 1=(i:Int):=by rw[iL (by omega) (by omega)];omega
  rw[qi,cq,aK];simp only[a8,aq];rw[af (aS (by omega)),cq,af (aS aE),cq,a',a'];simp only[I.bk];rw[Z4 (a _ (br (by omega) az)) (a _ (br aE az))];simp only[aq];by_cases b:iz (ks.getD i az) (ks.getD (i+1) az)<0
  . rw[al (by simpa using b),bH (by omega)];rcases Kt aj a ad (x:=x) (l:=l) (z0:=z0) (z1:=z1) (z2:=z2) (z3:=z3) (z4:=z4) (a0:=a0) (a1:=a1) (a2:=a2) (a3:=a3) (a4:=a4) (b1:=b1) (b2:=b2) k (i+1) (by omega)with⟨h1,d⟩|h
    . grind
    grind
  . rw[af (by simpa using b),x1 aj];grind
theorem Z5{m:Nat}(h:m<18446744073709551616):cx (kM m):=by
 unfold kM cx;omega
theorem N7:cx 0:=by unfold cx;omega
def l6(o:Option I):Prop:=∀v,o=some v->cx v.bo
theorem l6.ite{c:Prop}[Decidable c]{a b:Option I}(e:c->l6 a)(f:¬c->l6 b):l6 (if c then a else b):=by grind
theorem l6.no:l6 none:=λv h=>(by cases h)
theorem l6.zero{k i:Int}{b:Bool}{s:ao}{a:List I}{r:List b6}:l6 (some ⟨k,b,0,s,i,ks,a,r⟩):=λv h=>(by cases h;exact N7)
theorem l6.map{α:Type}{o:Option α}{k i:Int}{b:Bool}{s:ao}{ks a:α->List I}{r:List b6}:l6 (o.map λv=>⟨k,b,0,s,i,ks v,a v,r⟩):=λv h=>by obtain⟨_,_,rfl⟩:=Ao.1 h;exact N7
theorem Y5{n:Nat}(h:eH ts n t p=some v):cx v.bo:=by
 have key:l6 (eH ts n t p):=by
  cases n with
  |zero=>unfold eH;exact .no
  |succ n=>
   unfold eH;refine .ite (λ_=>.ite (λ_=>.zero) λ_=>.ite (λ_=>.zero) λ_=>.no) λ_=>?_;refine .ite (λ_=>?_) λ_=>?_
   . cases b:ki p with
     |none=>exact .no
     |some m=>exact .ite (λ_=>λv h=>(by cases h;exact Z5 (L7 b))) λ_=>.no
   refine .ite (λ_=>.ite (λ_=>.zero) λ_=>.no) λ_=>?_;refine .ite (λ_=>?_) λ_=>?_
   . cases b:ki p with
     |none=>exact .no
     |some m=>exact .ite (λ_=>.zero) λ_=>.no
   refine .ite (λ_=>?_) λ_=>?_
   . cases p with
     |nil=>exact .zero
     |cons c q=>exact .ite (λ_=>.map) λ_=>.no
   refine .ite (λ_=>?_) λ_=>?_
   . cases nU p with
     |none=>exact .no
     |some a=>
      obtain⟨id,q⟩:=a;dsimp only;cases cU (ts.getD t.toNat aN).ag id with
      |none=>exact .ite (λ_=>.zero) λ_=>.no
      |some m=>exact .map
   refine .ite (λ_=>?_) λ_=>?_
   . cases ln p with
     |none=>exact .no
     |some l=>exact .ite (λ_=>.map) λ_=>.no
   refine .ite (λ_=>?_) λ_=>?_
   . cases ln p with
     |none=>exact .no
     |some l=>
      refine .ite (λ_=>?_) λ_=>.no;cases dA (eH ts n (ts.getD t.toNat aN).Key) (iq l)with
      |none=>exact .no
      |some ks=>exact .ite (λ_=>.map) λ_=>.no
   . cases ll p with
     |none=>exact .no
     |some l=>
      dsimp only;split
      . exact .ite (λ_=>.zero) λ_=>.no
      . exact .no
 exact key v h
theorem Jl{d:Type}{f:α->Option d}:∀{l:List α} {m:List d},dA f l=some m->∀y,y∈m->∃a,a∈l/\f a=some y
 |[],m,h,y,c=>by rw[dA]at h;cases h;cases c
 |a::l,m,h,y,c=>by
  rw[dA]at h;split at h
  . rename_i b g h1 e;cases h;rcases e2.1 c with rfl|c
    . grind
    . obtain⟨bX,bb,bq⟩:=Jl e y c;grind
  . cases h
theorem I6:∀{l:List α} {y:α},y∈iq l->y∈l
 |[],y,h=>by cases h
 |[_],y,h=>by cases h
 |a::b::l,y,h=>by
  rcases e2.1 h with rfl|h
  . grind
  . exact .tail _ (.tail _ (I6 h))
theorem I7:∀(l:List α),(iq l).length<=l.length
 |[]=>e9 _
 |[_]=>jJ _
 |a::b::l=>by
  show(iq l).length+1<=l.length+1+1;have:=I7 l;omega
theorem aeb(h:a<1000000):gF .i64 (a:Int) 2=((a/2:Nat):Int):=by
 unfold gF;have e:(a:Int).tdiv 2=((a/2:Nat):Int):=by rw[Int.tdiv_eq_ediv_of_nonneg (by omega)];omega
 rw[e];exact pA
theorem Z6{n:Nat}(ih:vW ts n)(gS:x.Kind=8)(bJ:0<=x.Key/\x.Key<ts.length)(dY:0<=x.aC/\x.aC<ts.length)(aj:p.length<=4096)(N:path.length+(n+1)=200):
 fM ts b1 b2 path (match ln p with
  |some l=>if l.length%2 = 0/\((l.length/2:Nat):Int)<=x.Max then (match dA (eH ts n x.Key) (iq l) with
   |some ks=>if rf ks then(dA (eH ts n x.aC) (iQ l)).map λs=>(⟨8,false,0,[],0,ks,s,[]⟩:I)else none
   |none=>none)else none
  |none=>none) (wT (x,p,ts,b1,b2,path)):=by
 obtain⟨o,K,L,M⟩:=J3 (p:=p) (by omega);rw[wT,K];simp only[a8,aq];by_cases h0:o.2=0
 . obtain⟨v1,v2,v3⟩:=L h0;rw[v1];dsimp only;have F:cf (o.1.length:Int) 2=((o.1.length%2:Nat):Int):=by rw[hL (by omega)];omega
   rw[F,aeb (by omega)];by_cases he:o.1.length%2=0
   . have b:¬(bif (!(decide (o.2=0)))then true else(!(decide (((o.1.length%2:Nat):Int)=0))))=true:=(by grind);rw[al b];by_cases t:((o.1.length/2:Nat):Int)<=x.Max
     . rw[af (show o.1.length%2=0/\((o.1.length/2:Nat):Int)<=x.Max from⟨he,t⟩),al (show ¬decide (x.Max<((o.1.length/2:Nat):Int))=true by simp only[gE];omega)];have C:∀q,q∈o.1->∀step b1 b2,fM ts b1 b2 path (eH ts n x.Key q) (iE (step,x.Key,q,ts,b1,b2,path)):=λq k step b1 b2=>
        u1 (by omega) (ih x.Key q b1 b2 (path++[step]) bJ.1 bJ.2 (by have:=v2 q k;omega) (by simp;omega))
       have j:∀q,q∈o.1->∀step b1 b2,fM ts b1 b2 path (eH ts n x.aC q) (iE (step,x.aC,q,ts,b1,b2,path)):=λq k step b1 b2=>
        u1 (by omega) (ih x.aC q b1 b2 (path++[step]) dY.1 dY.2 (by have:=v2 q k;omega) (by simp;omega))
       obtain⟨dI,c⟩:=J8 (x:=x) (l:=o.1) (by omega) he C (z0:=0) (z1:=false) (z2:=0) (z3:=[]) (z4:=0) (a0:=x.Kind) (a1:=false) (a2:=0) (a3:=[]) (a4:=0) (b1:=b1) (b2:=b2) (o.1.length/2) 0 [] (by omega) rfl;have d0:o.1.drop (2*0)=o.1:=rfl;rw[d0]at dI c;have z0:((2*0:Nat):Int)=0:=rfl;rw[z0]at dI c;cases hs:dA (eH ts n x.Key) (iq o.1)with
       |none=>
        obtain⟨w,f1,f2,r⟩:=c hs;rw[r];exact⟨λv h=>(by cases h),λ_=>⟨_,_,_,rfl⟩⟩
       |some ks=>
        rw[dI ks hs];simp only[aq,hZ];have D:∀y,y∈ks->cx y.bo:=λy G=>by
         obtain⟨a,_,A⟩:=Jl hs y G;exact Y5 A
        have E:ks.length<=90000:=by
         have:=I1 hs;have:=I7 o.1;omega
        have B:=Kt (ts:=ts) (x:=x) (path:=path) (by omega) (l:=o.1) D E (z0:=0) (z1:=false) (z2:=0) (z3:=[]) (z4:=0) (a0:=x.Kind) (a1:=false) (a2:=0) (a3:=[]) (a4:=0) (b1:=b1) (b2:=b2) _ 0 rfl;have z1:((0+1:Nat):Int)=1:=rfl;rw[z1]at B;rcases B with⟨z,d⟩|⟨⟨m,H,J⟩,w,f1,f2,d⟩
        . have g:rf ks=true:=FX.2 λi j=>z i (jJ _) j;rw[af g,d];simp only[aq];obtain⟨e,f⟩:=I5 (x:=x) (l:=o.1) (by omega) he j (z0:=0) (z1:=false) (z2:=0) (z3:=[]) (z4:=0) (a0:=x.Kind) (a1:=false) (a2:=0) (a3:=[]) (a4:=0) (b1:=b1) (b2:=b2) (ks:=ks) (o.1.length/2) 0 [] (by omega) rfl;rw[d0]at e f;have z2:((2*0+1:Nat):Int)=1:=rfl;rw[z2]at e f;cases u:dA (eH ts n x.aC) (iQ o.1)with
          |none=>
           obtain⟨w,f1,f2,r⟩:=f u;rw[r];exact⟨λv h=>(by cases h),λ_=>⟨_,_,_,rfl⟩⟩
          |some s=>
           rw[e s u];exact⟨λv h=>(by cases h;simp[gS]),λh=>(by cases h)⟩
        . have g:¬rf ks=true:=λh=>J (FX.1 h m H);rw[al g,d];exact⟨λv h=>(by cases h),λ_=>⟨I.eta w,f1,f2,rfl⟩⟩
     . rw[al (show ¬(o.1.length%2=0/\((o.1.length/2:Nat):Int)<=x.Max)fromλh=>t h.2),af (show decide (x.Max<((o.1.length/2:Nat):Int))=true by simp only[gE];omega)];exact jx (by omega) _ _ _
   . have b:(bif (!(decide (o.2=0)))then true else(!(decide (((o.1.length%2:Nat):Int)=0))))=true:=(by grind);rw[al (show ¬(o.1.length%2=0/\((o.1.length/2:Nat):Int)<=x.Max)fromλh=>he h.1),af b];exact jx (by omega) _ _ _
 . have b:(bif (!(decide (o.2=0)))then true else(!(decide (cf (o.1.length:Int) 2=0))))=true:=(by simp[h0]);rw[af b,M h0];exact jx (by omega) _ _ _
theorem Yi{l:List eE}(m:aU)(ad:l.length<=90000):(∃j,j<l.length/\l.find? (λf=>decide (f.ae=m.ae))=some (l.getD j lP)/\wN (l,m)=some ((j:Int),m))\/
 (l.find? (λf=>decide (f.ae=m.ae))=none/\wN (l,m)=some (-1,m)):=by
 have h:=uA (λi=>om (l,(l.length:Int),(i:Int),m)) l.length (λi=>decide ((l.getD i lP).ae=m.ae)) (λi=>.inl ((i:Int),m)) (.inr m)
  (λi a=>by
   rw[om,cq,af (aS a)];simp only[a8,aq,a',I.bk,ET]
   rw[bH (by omega)])
  (by rw[om,ch];simp only[iZ])
 have dh:om (l,(l.length:Int),((0:Nat):Int),m)=om (l,(l.length:Int),0,m):=rfl;simp only[dh]at h;rw[wN];simp only[iZ];rcases h with⟨j,h1,c,d,b⟩|⟨h1,b⟩
 . left;refine⟨j,h1,?_,by rw[b];simp only[a8,aq,iZ]⟩;rw[fG h1]at c⊢;rw[DL];refine⟨c,j,h1,rfl,λk g=>?_⟩;have:=d k g;rw[fG (by omega)]at this;simpa using this
 . right;refine⟨?_,by rw[b];simp only[a8,aq,iZ]⟩;rw[List.find?_eq_none];intro f e;obtain⟨i,a,rfl⟩:=jf e;have:=h1 i a;rw[fG a]at this;simpa using this
def De{a:Type}:Option a->Option (List a)->Option (List a)
 |some b,some m=>some (b::m)
 |_,_=>none
theorem I8{b:Type}(f:α->Option b)(a:α)(l:List α):dA f (a::l)=De (f a) (dA f l):=by rfl
def hy(f:Int->ao->Option I)(l:List eE)(m:aU):Option I:=match l.find? (λf=>decide (f.ae=m.ae))with
 |some g=>f m.aB g.Data
 |none=>if m.bV then some m.bz else none
theorem Jm {x:ah}{path:au}(D:path.length<=900){f:Int->ao->Option I}{l:List eE}(ad:l.length<=90000)(z:x.ag.length<=16)
 (r:∀m,m∈x.ag->m.bV=true->jw m.bz=some m.bz)
 (h:∀m,m∈x.ag->∀q,q∈l->∀step b1 b2,fM ts b1 b2 path (f m.aB q.Data) (iE (step,m.aB,q.Data,ts,b1,b2,path)))
 {z0 z2 z4 a0 a2 a4:Int}{z1 a1:Bool}{z3 a3:ao}{b1:au}{b2:Int}:∀(k i:Nat) (acc:List I),i+k=x.ag.length->acc.length=i->
 (∀m,dA (hy f l) (x.ag.drop i)=some m->mw (l,x.ag,(x.ag.length:Int),(i:Int),ts,b1,b2,x,z0,z1,z2,z3,z4,a0,a1,a2,a3,a4,path,acc)=some (.inr (l,ts,b1,b2,x,z0,z1,z2,z3,z4,a0,a1,a2,a3,a4,path,acc++m)))/\
 (dA (hy f l) (x.ag.drop i)=none->∃w f1 f2,mw (l,x.ag,(x.ag.length:Int),(i:Int),ts,b1,b2,x,z0,z1,z2,z3,z4,a0,a1,a2,a3,a4,path,acc)=some (.inl (false,ts,f1,f2,w,path)))
 |0,i,acc,C,B=>by
  rw[mw,dE,fr (by omega),dA];grind
 |k+1,i,acc,C,B=>by
  have aE:i<x.ag.length:=by omega
  have t:=br aE aD;have e:x.ag.drop i=x.ag.getD i aD::x.ag.drop (i+1):=by rw[fG aE];exact pk aE
  have go:∀v,(∀g,dA (hy f l) (x.ag.drop (i+1))=some g->mw (l,x.ag,(x.ag.length:Int),((i+1:Nat):Int),ts,b1,b2,x,z0,z1,z2,z3,z4,a0,a1,a2,a3,a4,path,acc++[v])=some (.inr (l,ts,b1,b2,x,z0,z1,z2,z3,z4,a0,a1,a2,a3,a4,path,acc++[v]++g)))/\(dA (hy f l) (x.ag.drop (i+1))=none->∃w f1 f2,mw (l,x.ag,(x.ag.length:Int),((i+1:Nat):Int),ts,b1,b2,x,z0,z1,z2,z3,z4,a0,a1,a2,a3,a4,path,acc++[v])=some (.inl (false,ts,f1,f2,w,path))):=λv=>
   Jm D ad z r h k (i+1) (acc++[v]) (by omega) (by simp;omega)
  rw [mw,cq,af (aS aE),a',e,I8];simp only [a8,aq,iZ];generalize x.ag.getD i aD = a at *;have y:∀ (v:I) (X:Option _),hy f l a = some v->X = mw (l,x.ag,(x.ag.length:Int),((i+1:Nat):Int),ts,b1,b2,x,z0,z1,z2,z3,z4,a0,a1,a2,a3,a4,path,acc++[v])->
   (∀m,De (hy f l a) (dA (hy f l) (x.ag.drop (i+1)))=some m->X=some (.inr (l,ts,b1,b2,x,z0,z1,z2,z3,z4,a0,a1,a2,a3,a4,path,acc++m)))/\
   (De (hy f l a) (dA (hy f l) (x.ag.drop (i+1)))=none->∃w f1 f2,X=some (.inl (false,ts,f1,f2,w,path))):=by
   intro v X c A;obtain⟨g1,g2⟩:=go v;rw[c,A];cases hs:dA (hy f l) (x.ag.drop (i+1))with
   |none=>exact⟨λm b=>(by cases b),λ_=>g2 hs⟩
   |some g=>
    refine⟨λm b=>?_,λh=>(by cases h)⟩;have:m=v::g:=(by cases b;rfl)
    grind
  rcases Yi a ad with⟨j,u,d,p⟩|⟨d,p⟩
  . rw[p];simp only[aq];rw[j7,af (aS u),a'];have s:=h a t _ (br u lP) a.ae b1 b2;have o:hy f l a=f a.aB (l.getD j lP).Data:=by unfold hy;rw[d]
    cases c:f a.aB (l.getD j lP).Data with
    |none=>
     obtain⟨w,f1,f2,E⟩:=s.2 c;rw[E,o,c];exact⟨λm b=>(by cases b),λ_=>⟨w,f1,f2,by simp[I.bk]⟩⟩
    |some v=>
     rw[s.1 v c];simp only[aq,I.bk,dU];rw[ch,af (dB),bH (by omega)];grind
  . rw[p];simp only[aq];rw[ch];cases n:a.bV with
    |true=>
     rw[af rfl];simp only[I.bk];rw[r a t n];simp only[aq,I.bk];rw[af (dB),bH (by omega)];exact y a.bz _ (by unfold hy;rw[d];simp[n]) rfl
    |false=>
     have o:hy f l a=none:=by unfold hy;rw[d];simp[n]
     rw[ch,af (dB),x1 (by simp;omega),o];simp only[aq,I.bk];have aK:dL .i64 ((path++[a.ae]).length:Int) 1=(path.length:Int):=by rw[iL (by simp<;>omega) (by simp<;>omega)];simp
     rw[aK,af (iI.2 (by simp;omega)),j7,a'];exact⟨λm b=>(by cases b),λ_=>⟨_,_,_,by simp;exact⟨rfl,rfl,rfl⟩⟩⟩
theorem adV(d:x.ag.length<=1000)(c:hD x.ag)(id:Int):∃r,hG (x,id)=some r/\r.2=(cU x.ag id).isSome:=by
 cases bI:cU x.ag id with
 |some m=>
  obtain⟨j,a,b,g⟩:=DG c d bI;grind
 |none=>
  obtain⟨r,e,f⟩:=xk (t:=x) (id:=id) (by omega);refine⟨r,e,?_⟩;rcases f with⟨j,a,b,_,_⟩|⟨_,q⟩
  . exact absurd b (sD bI _ (br a aD))
  grind
def jj(x:ah)(f:eE):Bool:=(cU x.ag f.ae).isSome || !f.cv
def lZ(x:ah)(l:List eE):List b6:=(l.filter λf=>!(cU x.ag f.ae).isSome).map λf=>⟨f.ae,f.Data⟩
theorem FY(j:path.length<=900)(c:x.ag.length<=1000)(b:hD x.ag){l:List eE}(ad:l.length<=90000)
 {z0 z2 z4 a0 a2 a4:Int}{z1 a1:Bool}{z3 a3:ao}{b1:au}{b2:Int}{its:List I}:∀(k i:Nat) (acc:List b6),i+k=l.length->acc.length<=i->
 ((l.drop i).all (jj x)=true->oq (l,(l.length:Int),(i:Int),ts,b1,b2,x,z0,z1,z2,z3,z4,a0,a1,a2,a3,a4,path,its,acc)=some (.inr (ts,b1,b2,z0,z1,z2,z3,z4,a0,a1,a2,a3,a4,path,its,acc++lZ x (l.drop i))))/\
 ((l.drop i).all (jj x)=false->∃w f1 f2,oq (l,(l.length:Int),(i:Int),ts,b1,b2,x,z0,z1,z2,z3,z4,a0,a1,a2,a3,a4,path,its,acc)=some (.inl (false,ts,f2,w,path,f1)))
 |0,i,acc,p,n=>by
  rw[oq,dE,fr (by omega)];exact⟨λ_=>by simp[lZ],λh=>by simp at h⟩
 |k+1,i,acc,p,n=>by
  have aE:i<l.length:=by omega
  have e:l.drop i=l.getD i lP::l.drop (i+1):=by rw[fG aE];exact pk aE
  obtain⟨r,q,m⟩:=adV c b (l.getD i lP).ae;rw[oq,cq,af (aS aE),a',e];simp only[a8,aq];generalize l.getD i lP=f at*;rw[q];simp only[aq];have o:(f::l.drop (i+1)).all (jj x)=(jj x f&&(l.drop (i+1)).all (jj x)):=rfl;rw[o];cases hs:(cU x.ag f.ae).isSome with
  |true=>
   have a:jj x f=true:=by unfold jj;rw[hs];rfl
   have d:lZ x (f::l.drop (i+1))=lZ x (l.drop (i+1)):=by unfold lZ;rw[List.filter_cons_of_neg (by rw[hs];simp)]
   rw[m,hs,af rfl,a,d,bH (by omega),pr];exact FY j c b ad k (i+1) acc (by omega) (by omega)
  |false=>
   rw[m,hs,ch];cases g:f.cv with
   |true=>
    have a:jj x f=false:=by unfold jj;rw[hs,g];rfl
    rw[af rfl,af (dB),x1 (by simp;omega),a];simp only[aq,I.bk];have aK:dL .i64 ((path++[f.ae]).length:Int) 1=(path.length:Int):=by rw[iL (by simp<;>omega) (by simp<;>omega)];simp
    rw[aK,af (iI.2 (by simp;omega)),j7,a'];simp_all
   |false=>
    have a:jj x f=true:=by unfold jj;rw[hs,g];rfl
    have d:lZ x (f::l.drop (i+1))=⟨f.ae,f.Data⟩::lZ x (l.drop (i+1)):=by unfold lZ;rw[List.filter_cons_of_pos (by rw[hs];rfl)];rfl
    rw[ch,af (dB),a,d,bH (by omega),pr];have:=FY j c b ad (z0:=z0) (z1:=z1) (z2:=z2) (z3:=z3) (z4:=z4) (a0:=a0) (a1:=a1) (a2:=a2) (a3:=a3) (a4:=a4) (b1:=b1) (b2:=b2) (its:=its) k (i+1) (acc++[⟨f.ae,f.Data⟩]) (by omega) (by simp;omega);grind
theorem Wv(H:jQ ts)(ec:∀x,x∈ts->∀m,m∈x.ag->m.bV=true->jw m.bz=some m.bz){n:Nat}(ih:vW ts n)(e:x∈ts)(cW:x.Kind=5)(dr:∀m,m∈x.ag->0<=m.aB/\m.aB<ts.length)(aj:p.length<=4096)(C:path.length+(n+1)=200):
 (∀l,ll p=some l->∀a,dA (hy (eH ts n) l) x.ag=some a->l.all (jj x)=true->wU (x,p,ts,b1,b2,path)=some (⟨5,false,0,[],0,[],a,lZ x l⟩,true,ts,b1,b2,path))/\
 ((ll p=none\/(∃l,ll p=some l/\(dA (hy (eH ts n) l) x.ag=none\/l.all (jj x)=false)))->∃w f1 f2,wU (x,p,ts,b1,b2,path)=some (w,false,ts,f1,f2,path)):=by
 obtain⟨g,y⟩:=H.A x e (.inl cW);obtain⟨o,t,u,v⟩:=YX (p:=p) (by omega);rw[wU,t];simp only[a8,aq];by_cases h0:o.2=0
 . obtain⟨v1,v2,v3,v4⟩:=u h0;rw[al (by simp[h0]),v1];have z:=H.T x e;have i:∀m,m∈x.ag->m.bV=true->jw m.bz=some m.bz:=λm b k=>ec x e m b k;have ar:∀m,m∈x.ag->∀q,q∈o.1->∀step b1 b2,fM ts b1 b2 path (eH ts n m.aB q.Data) (iE (step,m.aB,q.Data,ts,b1,b2,path)):=λm b q s step b1 b2=>
    u1 (by omega) (ih m.aB q.Data b1 b2 (path++[step]) (dr m b).1 (dr m b).2 (by have:=(v2 q s).1;omega) (by simp;omega))
   obtain⟨dI,c⟩:=Jm (x:=x) (path:=path) (by omega) (f:=eH ts n) (l:=o.1) (by omega) (by omega) i ar (z0:=0) (z1:=false) (z2:=0) (z3:=[]) (z4:=0) (a0:=x.Kind) (a1:=false) (a2:=0) (a3:=[]) (a4:=0) (b1:=b1) (b2:=b2) x.ag.length 0 [] (by omega) rfl;rw[hl]at dI c;have z0:((0:Nat):Int)=0:=rfl;rw[z0]at dI c;have B:=λits=>FY (ts:=ts) (x:=x) (path:=path) (by omega) (by omega) g (l:=o.1) (by omega) (z0:=0) (z1:=false) (z2:=0) (z3:=[]) (z4:=0) (a0:=x.Kind) (a1:=false) (a2:=0) (a3:=[]) (a4:=0) (b1:=b1) (b2:=b2) (its:=its) o.1.length 0 [] (by omega) (e9 _);rw[hl,z0]at B;constructor
   . intro l ad a r j;cases ad;rw[dI a r];simp only[aq,hZ];rw[(B a).1 j];simp[cW]
   . intro h;rcases h with h|⟨l,ad,h⟩
     . cases h
     . cases ad;cases hs:dA (hy (eH ts n) o.1) x.ag with
       |none=>
        obtain⟨w,f1,f2,d⟩:=c hs;rw[d];exact⟨_,_,_,rfl⟩
       |some a=>
        rcases h with h|h
        . rw[hs]at h;cases h
        . obtain⟨w,f1,f2,d⟩:=(B a).2 h;rw[dI a hs];simp only[aq,hZ];rw[d];exact⟨I.eta w,f1,f2,rfl⟩
 . rw[af (by simp[h0]),v h0];constructor
   . intro l ad;cases ad
   . intro _;rw[x1 (by omega)];exact⟨_,_,_,rfl⟩
end
structure mR (ts:List ah):Prop where
 S:jQ ts
 V:pF ts
 W:∀x,x∈ts->∀m,m∈x.ag->m.bV=true->jw m.bz=some m.bz
theorem dW.il(H:dW ts):mR ts:=⟨H.V.iy H.T,H.V,λx c m a e=>YZ ((H.T x c).3 m a) (by have:=H.W x c m a e;omega)⟩
section
variable {ts:List ah}
theorem mR.mem(H:mR ts)(c:x∈ts){m:aU}(a:m∈x.ag):0<=m.aB/\m.aB<ts.length:=
 H.V.U x c m.aB (by unfold fu;simp;exact .inl ⟨m,a,rfl⟩)
theorem mR.elem(H:mR ts)(c:x∈ts)(a:7<=x.Kind):0<=x.aC/\x.aC<ts.length:=
 H.V.U x c x.aC (by unfold fu;simp[a])
theorem mR.key(H:mR ts)(c:x∈ts)(a:x.Kind=8):0<=x.Key/\x.Key<ts.length:=
 H.V.U x c x.Key (by unfold fu;simp[a])
def GJ:I:=⟨0,false,0,[],0,[],[],[]⟩
abbrev q6:=Int->ao->Option I
def Gn(p:ao):Option I:=if p=[]then some ⟨1,false,0,[],0,[],[],[]⟩else if p=[1]then some ⟨1,true,0,[],0,[],[],[]⟩else none
def Gp(x:ah)(p:ao):Option I:=match ki p with
 |some m=>if x.bE<=kM m/\kM m<=x.bG then some ⟨2,false,kM m,[],0,[],[],[]⟩else none
 |none=>none
def Gq(x:ah)(p:ao):Option I:=if(p.length:Int)<=x.Max then some ⟨3,false,0,p,0,[],[],[]⟩else none
def Gr(x:ah)(p:ao):Option I:=match ki p with
 |some m=>if 1<=m/\m<=1000/\((x.bg.any λy=>decide (y.ae=(m:Int)))||x.Open)=true then some ⟨4,false,0,[],(m:Int),[],[],[]⟩else none
 |none=>none
def CN(f:q6)(x:ah):ao->Option I
 |[]=>some ⟨9,false,0,[],0,[],[],[]⟩
 |c::q=>if c=1 then(f x.aC q).map λv=>⟨9,false,0,[],0,[],[v],[]⟩else none
def OY(f:q6)(x:ah)(p:ao):Option I:=match nU p with
 |some (id,q)=>(match cU x.ag id with
  |some m=>(f m.aB q).map λv=>⟨6,false,0,[],id,[],[v],[]⟩
  |none=>if x.Open then some ⟨6,false,0,[],id,[],[],[⟨id,q⟩]⟩else none)
 |none=>none
def CM(f:q6)(x:ah)(p:ao):Option I:=match ln p with
 |some l=>if(l.length:Int)<=x.Max then(dA (f x.aC) l).map λa=>⟨7,false,0,[],0,[],a,[]⟩else none
 |none=>none
def OZ(f:q6)(x:ah)(p:ao):Option I:=match ln p with
 |some l=>if l.length%2 = 0/\((l.length/2:Nat):Int)<=x.Max then (match dA (f x.Key) (iq l) with
  |some ks=>if rf ks then(dA (f x.aC) (iQ l)).map λa=>⟨8,false,0,[],0,ks,a,[]⟩else none
  |none=>none)else none
 |none=>none
def CL(f:q6)(x:ah)(p:ao):Option I:=match ll p with
 |some l=>(match dA (hy f l) x.ag with
  |some a=>if l.all (jj x) then some ⟨5,false,0,[],0,[],a,lZ x l⟩else none
  |none=>none)
 |none=>none
def Gs(f:q6)(x:ah)(p:ao):Option I:=
 if x.Kind=1 then Gn p else if x.Kind=2 then Gp x p else if x.Kind=3 then Gq x p else if x.Kind=4 then Gr x p else if x.Kind=9 then CN f x p else if x.Kind=6 then OY f x p else if x.Kind=7 then CM f x p else if x.Kind=8 then OZ f x p else CL f x p
theorem Yj(t:Int)(p:ao):eH ts 0 t p=none:=by rw[eH.eq_def]
theorem I9(n:Nat)(t:Int)(p:ao):eH ts (n+1) t p=Gs (eH ts n) (ts.getD t.toNat aN) p:=by rfl
theorem fM.eta(h:fM ts b1 b2 path o X):
 fM ts b1 b2 path o (X>>=λr=>some (I.eta r.1,r.2.1,r.2.2.1,r.2.2.2.1,r.2.2.2.2.1,r.2.2.2.2.2)):=by
 refine⟨λv a=>?_,λaP=>?_⟩
 . rw[h.1 v a];simp[I.bk]
 . obtain⟨w,f1,f2,c⟩:=h.2 aP;exact⟨w,f1,f2,by rw[c];simp[I.bk]⟩
theorem fM.one(v:I):fM ts b1 b2 path (some v) (some (v,true,ts,b1,b2,path)):=⟨λa h=>by cases h;rfl,λh=>by cases h⟩
theorem fM.cast{a:Option I}(e:o=a)(h:fM ts b1 b2 path o X):fM ts b1 b2 path a X:=e▸h
theorem Ku{l:List c6}{m:Nat}:(∃y,y∈l/\y.ae=(m:Int))↔(l.any λy=>decide (y.ae=(m:Int)))=true:=by grind
theorem Yk(H:mR ts){n:Nat}(ih:vW ts n)(g:x∈ts)(gx:x.Kind=7)(aj:p.length<=4096)(r:path.length+(n+1)=200):
 fM ts b1 b2 path (CM (eH ts n) x p) (Bm (x,p,ts,b1,b2,path)):=by
 obtain⟨o,j,k,m⟩:=J3 (p:=p) (by omega);obtain⟨aK,c⟩:=H.elem g (by omega);rw[Bm,j];unfold CM;simp only[a8,aq];by_cases h0:o.2=0
 . obtain⟨v1,v2,v3⟩:=k h0;rw[al (by simp[h0]),v1];dsimp only;by_cases b:(o.1.length:Int)<=x.Max
   . rw[af b,dE];have d:∀q,q∈o.1->∀step b1 b2,fM ts b1 b2 path (eH ts n x.aC q) (iE (step,x.aC,q,ts,b1,b2,path)):=λq e step b1 b2=>
      u1 (by omega) (ih x.aC q b1 b2 (path++[step]) aK c (by have:=v2 q e;omega) (by simp;omega))
     obtain⟨dI,a⟩:=J6 (x:=x) (l:=o.1) (by omega) d (z0:=0) (z1:=false) (z2:=0) (z3:=[]) (z4:=0) (a0:=x.Kind) (a1:=false) (a2:=0) (a3:=[]) (a4:=0) (b1:=b1) (b2:=b2) o.1.length 0 [] (by omega) rfl;rw[hl]at dI a;have z0:((0:Nat):Int)=0:=rfl;rw[z0]at dI a;cases hs:dA (eH ts n x.aC) o.1 with
     |none=>
      obtain⟨w,f1,f2,f⟩:=a hs;rw[f];exact⟨λv h=>by simp at h,λ_=>⟨_,_,_,rfl⟩⟩
     |some i=>
      rw[dI i hs];exact⟨λs h=>by grind,λh=>by simp at h⟩
   . rw[al b,cq];exact jx (by omega) _ _ _
 . rw[af (by simp[h0]),m h0];exact jx (by omega) _ _ _
theorem Kv(H:mR ts):∀n,n<=200->vW ts n
 |0,_=>λt p b1 b2 path t0 t1 aj d=>by
  rw[oz,cq,Yj];exact jx (by omega) _ _ _
 |n+1,aP=>λt p b1 b2 path t0 t1 aj d=>by
  have ih:=Kv H n (by omega);obtain⟨j,rfl⟩:=Int.eq_ofNat_of_zero_le t0;have B:j<ts.length:=by omega
  rw[oz,dE,af (aS B),I9,a'];have a:=br B aN;generalize ts.getD j aN=x at*;obtain⟨Y,Z⟩:=H.S.K x a;have O:x.bg.length<9223372036854775807:=dM (ik (H.S.T x a).1);unfold Gs;simp only[a8,aq];obtain⟨u,D,E,F⟩:=ZZ p;by_cases bb:x.Kind=1
  . rw[af bb,af (show decide (x.Kind=1)=true by simpa using bb)];unfold Gn;by_cases h0:p=[]
    . rw[af h0,al (by simp[h0]),bb,h0];exact .one _
    . by_cases h1:p=[1]
      . rw[al h0,af h1,al (by simp[h1]),bb,h1];exact .one _
      . rw[al h0,al h1,af (by simp[h0,h1])];exact jx (by omega) _ _ _
  rw[al bb,al (show ¬decide (x.Kind=1)=true by simpa using bb)];by_cases bq:x.Kind=2
  . rw[af bq,af (show decide (x.Kind=2)=true by simpa using bq),D];unfold Gp;simp only[aq];by_cases h0:u.2=0
    . obtain⟨m,f,r⟩:=E h0;rw[f,r,aaB (L7 f),al (by simp[h0])];simp only[aq];by_cases b:x.bE<=kM m/\kM m<=x.bG
      . rw[af b,dE,bq];exact .one _
      . rw[al b,cq];exact jx (by omega) _ _ _
    . rw[F h0,af (by simp[h0])];exact jx (by omega) _ _ _
  rw[al bq,al (show ¬decide (x.Kind=2)=true by simpa using bq)];by_cases bU:x.Kind=3
  . rw[af bU,af (show decide (x.Kind=3)=true by simpa using bU)];unfold Gq;by_cases b:(p.length:Int)<=x.Max
    . rw[af b,dE,bU];exact .one _
    . rw[al b,cq];exact jx (by omega) _ _ _
  rw[al bU,al (show ¬decide (x.Kind=3)=true by simpa using bU)];by_cases cu:x.Kind=4
  . rw[af cu,af (show decide (x.Kind=4)=true by simpa using cu),D];unfold Gr;simp only[aq];by_cases h0:u.2=0
    . obtain⟨m,f,r⟩:=E h0;rw[f,r];dsimp only;by_cases b:1<=m/\m<=1000
      . obtain⟨q,U,_,V⟩:=ur (t:=x) (m:Int) O;have e:b9 .i64 (m:Int)=(m:Int):=pA;rw[al (show ¬(bif bif !decide (u.2=0)then true else decide ((m:Int)<1)then true else decide (1000<(m:Int)))=true by simp[h0];omega),e,U];simp only[aq];have N:q.2=(x.bg.any λy=>decide (y.ae=(m:Int))):=by
         have:=(E' V).trans Ku;grind
        rw[N,cu];by_cases z:((x.bg.any λy=>decide (y.ae=(m:Int)))||x.Open)=true
        . rw[af (show 1<=m/\m<=1000/\((x.bg.any λy=>decide (y.ae=(m:Int)))||x.Open)=true from⟨b.1,b.2,z⟩),al]
          . exact .one _
          grind
        . rw[al (show ¬(1<=m/\m<=1000/\((x.bg.any λy=>decide (y.ae=(m:Int)))||x.Open)=true)fromλh=>z h.2.2),af]
          . exact jx (by omega) _ _ _
          grind
      . rw[al (show ¬(1<=m/\m<=1000/\((x.bg.any λy=>decide (y.ae=(m:Int)))||x.Open)=true)fromλh=>b ⟨h.1,h.2.1⟩),af (by simp[h0];omega)];exact jx (by omega) _ _ _
    . rw[F h0,af (by simp[h0])];exact jx (by omega) _ _ _
  rw[al cu,al (show ¬decide (x.Kind=4)=true by simpa using cu)];by_cases gi:x.Kind=9
  . rw[af gi,af (show decide (x.Kind=9)=true by simpa using gi)];obtain⟨aK,L⟩:=H.elem a (by omega);cases p with
    |nil=>
     rw[j7,CN,gi];exact .one _
    |cons c q=>
     have ad:(c::q).length=q.length+1:=rfl;have Q:aI 0 (c::q).length=true:=aS (k:=0) (by simp);have b0:hU (c::q) 0=(c.toNat:Int):=rfl;have vD:ez 1 ((c::q).length:Int) (c::q).length=true:=iI.2 (by simp<;>omega);have J:e1 (c::q) 1 ((c::q).length:Int)=q:=by
      unfold e1;simp
     rw[ch,af Q,b0,CN];by_cases i:c=1
     . subst i;rw[af rfl,ch,af vD,J];have A:=u1 (step:=0) (path:=path) (by omega) (ih x.aC q b1 b2 (path++[0]) aK L (by simp at aj;omega) (by simp;omega));cases C:eH ts n x.aC q with
       |none=>
        obtain⟨w,f1,f2,P⟩:=A.2 C;rw[P];exact⟨λv h=>by simp at h,λ_=>⟨_,_,_,rfl⟩⟩
       |some v=>
        rw[A.1 v C]
        exact⟨λX h=>by
         have:X=⟨9,false,0,[],0,[],[v],[]⟩:=(by simpa using h.symm);rw[this]
         simp[I.bk,gi],λh=>by simp at h⟩
     . have M:¬((c.toNat:Int)=1):=λh=>i (UInt8.toNat.inj (by show c.toNat=1;omega));rw[al i,af (by simpa using M)];exact jx (by omega) _ _ _
  rw[al gi,al (show ¬decide (x.Kind=9)=true by simpa using gi)];by_cases da:x.Kind=6
  . rw[af da,af (show decide (x.Kind=6)=true by simpa using da)];refine fM.eta (fM.cast ?_ (Y0 H.S ih a da (λm o=>H.mem a o) aj d));rfl
  rw[al da,al (show ¬decide (x.Kind=6)=true by simpa using da)];by_cases gx:x.Kind=7
  . rw[af gx,af (show decide (x.Kind=7)=true by simpa using gx)];exact fM.eta (Yk H ih a gx aj d)
  rw[al gx,al (show ¬decide (x.Kind=7)=true by simpa using gx)];by_cases gS:x.Kind=8
  . rw[af gS,af (show decide (x.Kind=8)=true by simpa using gS)];refine fM.eta (fM.cast ?_ (Z6 ih gS (H.key a gS) (H.elem a (by omega)) aj d));rfl
  rw[al gS,al (show ¬decide (x.Kind=8)=true by simpa using gS)];have cW:x.Kind=5:=by omega
  obtain⟨G,g⟩:=Wv H.S H.W ih a cW (λm o=>H.mem a o) aj (b1:=b1) (b2:=b2) d;refine fM.eta ?_;unfold CL;cases ad:ll p with
  |none=>exact⟨λv h=>(by cases h),λ_=>g (.inl ad)⟩
  |some l=>
   dsimp only;cases hs:dA (hy (eH ts n) l) x.ag with
   |none=>exact⟨λv h=>(by cases h),λ_=>g (.inr ⟨l,ad,.inl hs⟩)⟩
   |some R=>
    dsimp only;cases s:l.all (jj x)with
    |true=>exact⟨λv h=>(by cases h;exact G l ad R hs s),λh=>(by cases h)⟩
    |false=>exact⟨λv h=>(by cases h),λ_=>g (.inr ⟨l,ad,.inr s⟩)⟩
end
end
section
open Go Go.Proofs.YtkbmjabicjpmjaaGreatDoor.Shv Go.Sort
set_option maxRecDepth 100000
def dN(C d:Nat)(l:List eE)(m:aU):Nat:=match l.find? (λf=>decide (f.ae=m.ae))with
 |some f=>C*(f.Data.length+1)
 |none=>d
def aA(C d:Nat)(l:List eE)(ms:List aU):Nat:=(ms.map (dN C d l)).sum
theorem Jn:∀{A B:List Fd},A.Pairwise (λa b=>a.id<b.id)->B.Pairwise (λa b=>a.id<b.id)->(∀x,x∈A↔x∈B)->A=B
 |[],[],_,_,_=>rfl
 |[],b::B,_,_,h=>by have:=(h b).2 (.head _);grind
 |a::A,[],_,_,h=>by have:=(h a).1 (.head _);grind
 |a::A,b::B,c,di,h=>by
  rw[ka]at c di;have e:a=b:=by grind
  subst e;rw[Jn c.2 di.2 _];grind
variable{α:Type}{id t:Int}{v:I}{path:au}{a:α ⊕ au}
theorem Hg{l:List α}{y:α}(d:α)(h:y∈l):∃i,i<l.length/\l.getD i d=y:=by
 obtain⟨i,a,rfl⟩:=jf h;exact⟨i,a,fG a d⟩
section
variable {ts:List ah}
theorem G3:∀{ms:List aU} {l:List I} {j:Nat},j<ms.length->j<l.length->dz (ms.getD j aD) (l.getD j az)=false->
 (⟨(ms.getD j aD).ae.toNat,(ms.getD j aD).cv,bF ts (ms.getD j aD).aB (l.getD j az)⟩:Fd)∈dy ts ms l
 |[],l,j,h,_,_=>by grind
 |m::ms,[],j,_,h,_=>by grind
 |m::ms,v::l,0,_,_,h=>by
  grind[dy]
 |m::ms,v::l,j+1,h1,a,h=>by
  rw[dy];have:=G3 (j:=j) (by grind) (by grind) h;grind
end
abbrev fO:=Int->I->Int->au->I ⊕ au
def iJ{α:Type}:α ⊕ au->List α ⊕ au->List α ⊕ au
 |.inr p,_=>.inr p
 |.inl _,.inr p=>.inr p
 |.inl u,.inl l=>.inl (u::l)
def iv{α a:Type}(g:α->a):α ⊕ au->a ⊕ au
 |.inr p=>.inr p
 |.inl u=>.inl (g u)
def mb{α a:Type}(g:α->a ⊕ au):α ⊕ au->a ⊕ au
 |.inr p=>.inr p
 |.inl u=>g u
def gP(l:List aU)(id:Int):Option Nat:=l.findIdx? λm=>decide (m.ae=id)
def lQ(l:List aU)(id:Int):Int×Bool:=match gP l id with
 |some j=>((j:Int),true)
 |none=>(0,false)
def e0(f:fO)(path:au)(t rt:Int):Nat->List I->List I ⊕ au
 |_,[]=>.inl []
 |i,v::l=>iJ (f t v rt (path++[(i:Int)])) (e0 f path t rt (i+1) l)
noncomputable def zk (m:aU)(w:I)(n:aU)(a:au):I ⊕ au->I ⊕ au
 |.inr p=>if dz m w then .inr a else .inr p
 |.inl u=>if dz m w=true/\dz n u=false then .inr a else .inl u
noncomputable def vB (f:fO)(x:ah)(v:I)(path:au)(n:aU):I ⊕ au:=match gP x.ag n.ae with
 |none=>if n.bV then .inl n.bz else .inr (path++[n.ae])
 |some i=>zk (x.ag.getD i aD) (v.ai.getD i az) n (path++[n.ae]) (f (x.ag.getD i aD).aB (v.ai.getD i az) n.aB (path++[n.ae]))
noncomputable def iS (f:fO)(x:ah)(v:I)(path:au):List aU->List I ⊕ au
 |[]=>.inl []
 |n::l=>iJ (vB f x v path n) (iS f x v path l)
noncomputable def h5 (tw:List ah)(y:ah)(path:au):List aU->List I->List b6 ⊕ au
 |m::ms,v::l=>if(cU y.ag m.ae).isSome then h5 tw y path ms l
  else if m.cv then .inr (path++[m.ae])
  else if dz m v then h5 tw y path ms l
  else iJ (.inl ⟨m.ae,bF tw m.aB v⟩) (h5 tw y path ms l)
 |_,_=>.inl []
def jl(x y:ah)(v:I):Prop:=(x.Kind=2->y.bE<=v.bo/\v.bo<=y.bG)/\(x.Kind=3->(v.bx.length:Int)<=y.Max)/\(x.Kind=4->(∃s,s∈y.bg/\s.ae=v.ae)\/y.Open=true)
noncomputable def vA (tw:List ah)(f:fO)(x y:ah)(v:I)(path:au):I ⊕ au:=
 mb (λa=>iv (λr=>⟨5,false,0,[],0,[],a,r⟩) (h5 tw y path x.ag v.ai)) (iS f x v path y.ag)
noncomputable def s3 (tw:List ah)(f:fO)(x y:ah)(v:I)(path:au):I ⊕ au:=match gP x.ag v.ae with
 |none=>.inr path
 |some i=>match gP y.ag v.ae with
  |some k=>iv (λu=>⟨6,false,0,[],v.ae,[],[u],[]⟩) (f (x.ag.getD i aD).aB (v.ai.getD 0 az) (y.ag.getD k aD).aB (path++[v.ae]))
  |none=>if y.Open then .inl ⟨6,false,0,[],v.ae,[],[],[⟨v.ae,bF tw (x.ag.getD i aD).aB (v.ai.getD 0 az)⟩]⟩else .inr path
def zh(f:fO)(x y:ah)(v:I)(path:au):I ⊕ au:=
 if(v.ai.length:Int)<=y.Max then iv (λa=>⟨7,false,0,[],0,[],a,[]⟩) (e0 f path x.aC y.aC 0 v.ai)else .inr path
def zi(f:fO)(x y:ah)(v:I)(path:au):I ⊕ au:=
 if(v.ai.length:Int)<=y.Max then mb (λks=>iv (λa=>⟨8,false,0,[],0,ks,a,[]⟩) (e0 f path x.aC y.aC 0 v.ai)) (e0 f path x.Key y.Key 0 v.aG)else .inr path
def zj(f:fO)(x y:ah)(v:I)(path:au):I ⊕ au:=
 iv (λa=>⟨9,false,0,[],0,[],a,[]⟩) (e0 f path x.aC y.aC 0 v.ai)
open Classical in
noncomputable def h4 (tw:List ah)(f:fO)(x y:ah)(v:I)(path:au):I ⊕ au:=
 if ¬x.Kind=y.Kind then .inr path
 else if x.Kind=5 then vA tw f x y v path
 else if x.Kind=6 then s3 tw f x y v path
 else if x.Kind=7 then zh f x y v path
 else if x.Kind=8 then zi f x y v path
 else if x.Kind=9 then zj f x y v path
 else if jl x y v then .inl v else .inr path
noncomputable def er (tw tr:List ah):Nat->fO
 |0=>λ_ _ _ path=>.inr path
 |n+1=>λt v rt path=>h4 tw (er tw tr n) (tw.getD t.toNat aN) (tr.getD rt.toNat aN) v path
theorem BL{tw tr:List ah}(n:Nat)(t:Int)(v:I)(rt:Int)(path:au):er tw tr (n+1) t v rt path=h4 tw (er tw tr n) (tw.getD t.toNat aN) (tr.getD rt.toNat aN) v path:=rfl
section
variable {tw:List ah}{f:fO}{x y:ah}{v:I}{path:au}
theorem L9(bJ:¬x.Kind=y.Kind):h4 tw f x y v path= .inr path:=by unfold h4;rw[af bJ]
theorem OG(bJ:x.Kind=y.Kind)(h:x.Kind=5):h4 tw f x y v path=vA tw f x y v path:=by unfold h4;rw[al (λh=>h bJ),af h]
theorem OH(bJ:x.Kind=y.Kind)(h:x.Kind=6):h4 tw f x y v path=s3 tw f x y v path:=by unfold h4;rw[al (λh=>h bJ),bR,af h]
theorem OI(bJ:x.Kind=y.Kind)(h:x.Kind=7):h4 tw f x y v path=zh f x y v path:=by unfold h4;rw[al (λh=>h bJ),bR,bR,af h]
theorem OJ(bJ:x.Kind=y.Kind)(h:x.Kind=8):h4 tw f x y v path=zi f x y v path:=by unfold h4;rw[al (λh=>h bJ),bR,bR,bR,af h]
theorem OK(bJ:x.Kind=y.Kind)(h:x.Kind=9):h4 tw f x y v path=zj f x y v path:=by unfold h4;rw[al (λh=>h bJ),bR,bR,bR,bR,af h]
theorem qH(bJ:x.Kind=y.Kind)(h:x.Kind<=4)(ad:jl x y v):h4 tw f x y v path= .inl v:=by unfold h4;rw[al (λh=>h bJ),bR,bR,bR,bR,bR,af ad]
theorem uY(bJ:x.Kind=y.Kind)(h:x.Kind<=4)(ad:¬jl x y v):h4 tw f x y v path= .inr path:=by unfold h4;rw[al (λh=>h bJ),bR,bR,bR,bR,bR,al ad]
end
theorem Jo{m:aU}{w:I}{n:aU}{a p:au}:zk m w n a (.inr p)=if dz m w then .inr a else .inr p:=rfl
theorem Jp{m:aU}{w:I}{n:aU}{a:au}{u:I}:zk m w n a (.inl u)=if dz m w=true/\dz n u=false then .inr a else .inl u:=rfl
theorem j0{l:List aU}{j:Nat}(h:gP l id=some j):j<l.length/\(l.getD j aD).ae=id/\∀k,k<j->(l.getD k aD).ae≠id:=by
 obtain⟨h1,a,b⟩:=List.findIdx?_eq_some_iff_getElem.1 h;refine⟨h1,?_,λk c=>?_⟩
 . rw[fG h1];simpa using a
 . rw[fG (by omega)];simpa using b k c
theorem Kw{l:List aU}(h:gP l id=none):∀k,k<l.length->(l.getD k aD).ae≠id:=λk a=>by
 have:=List.findIdx?_eq_none_iff.1 h _ (br a aD);simpa using this
theorem I'(l:List aU)(id:Int):sv l id (lQ l id):=by
 unfold lQ;cases h:gP l id with
 |some j=>exact .inl ⟨j,(j0 h).1,(j0 h).2.1,(j0 h).2.2,rfl⟩
 |none=>exact .inr ⟨Kw h,rfl⟩
theorem vd(l:List aU)(id:Int):(gP l id).isSome=(cU l id).isSome:=by
 cases h:gP l id with
 |some j=>
  obtain⟨h1,b,_⟩:=j0 h;cases g:cU l id with
  |some _=>rfl
  |none=>exact absurd b (sD g _ (br h1 aD))
 |none=>
  cases g:cU l id with
  |none=>rfl
  |some m=>
   obtain⟨c,d⟩:=nI g;obtain⟨i,a,rfl⟩:=jf c;exact absurd d (by rw[<-fG a aD];exact Kw h i a)
theorem F4{b:List α ⊕ au}{l:List α}(h:iJ a b= .inl l):∃u us,a= .inl u/\b= .inl us/\l=u::us:=by
 cases a with
 |inr p=>simp[iJ]at h
 |inl u=>cases b with
  |inr p=>simp[iJ]at h
  |inl us=>exact⟨u,us,rfl,rfl,by simpa[iJ]using h.symm⟩
variable{c:Type}{g:α->c ⊕ au}
theorem x2{g:α->c}{b:c}(h:iv g a= .inl b):∃u,a= .inl u/\b=g u:=by
 cases a with
 |inr p=>simp[iv]at h
 |inl u=>exact⟨u,rfl,by simpa[iv]using h.symm⟩
theorem Ja{b:c}(h:mb g a= .inl b):∃u,a= .inl u/\g u= .inl b:=by
 cases a with
 |inr p=>simp[mb]at h
 |inl u=>exact⟨u,rfl,by simpa[mb]using h⟩
theorem BM{f:fO}{path:au}{t rt:Int}:∀{l:List I} {i:Nat} {us:List I},e0 f path t rt i l= .inl us->us.length=l.length/\∀j,j<l.length->f t (l.getD j az) rt (path++[((i+j:Nat):Int)])= .inl (us.getD j az)
 |[],i,us,h=>by
  simp only[e0,Sum.inl.injEq]at h;subst h;exact⟨rfl,λj c=>by simp at c⟩
 |v::l,i,us,h=>by
  obtain⟨u,e,h1,d,rfl⟩:=F4 h;obtain⟨a,b⟩:=BM d;refine⟨by simp[a],λj c=>?_⟩;cases j with
  |zero=>exact h1
  |succ j=>
   have:=b j (by simpa using c);rw[show i+1+j=i+(j+1) by omega]at this;exact this
theorem Jb{f:fO}{x:ah}{v:I}{path:au}:∀{l:List aU} {us:List I},iS f x v path l= .inl us->us.length=l.length/\∀j,j<l.length->vB f x v path (l.getD j aD)= .inl (us.getD j az)
 |[],us,h=>by
  simp only[iS,Sum.inl.injEq]at h;subst h;exact⟨rfl,λj c=>by simp at c⟩
 |n::l,us,h=>by
  obtain⟨u,e,h1,d,rfl⟩:=F4 h;obtain⟨a,b⟩:=Jb d;refine⟨by simp[a],λj c=>?_⟩;cases j with
  |zero=>exact h1
  |succ j=>exact b j (by simpa using c)
variable{f:fO}
theorem Y6{x:ah}{n:aU}{u:I}(h:vB f x v path n= .inl u):
 (gP x.ag n.ae=none/\n.bV=true/\u=n.bz)\/∃i,gP x.ag n.ae=some i/\f (x.ag.getD i aD).aB (v.ai.getD i az) n.aB (path++[n.ae])= .inl u/\(dz (x.ag.getD i aD) (v.ai.getD i az)=true->dz n u=true):=by
 unfold vB at h;cases b:gP x.ag n.ae with
 |none=>
  simp only[b]at h;by_cases a:n.bV=true
  . rw[af a]at h;exact .inl ⟨rfl,a,by simpa using h.symm⟩
  . rw[al a]at h;cases h
 |some i=>
  simp only[b]at h;refine .inr ⟨i,rfl,?_⟩;revert h;cases f (x.ag.getD i aD).aB (v.ai.getD i az) n.aB (path++[n.ae])with
  |inr p=>intro h;unfold zk at h;grind
  |inl w=>intro h;unfold zk at h;grind
theorem Cv{tw:List ah}{y:ah}{path:au}:∀{ms:List aU} {l:List I} {r:List b6},h5 tw y path ms l= .inl r->
 r.length<=ms.length/\(r.map λa=>a.ae).Sublist (ms.map λm=>m.ae)/\∀a,a∈r->cU y.ag a.ae=none/\∃j,j<ms.length/\j<l.length/\a=⟨(ms.getD j aD).ae,bF tw (ms.getD j aD).aB (l.getD j az)⟩
 |[],l,r,h=>by
  rw[h5]at h
  . cases h;simp
  . intros;simp_all
 |m::ms,[],r,h=>by
  rw[h5]at h
  . cases h;simp
  . intros;simp_all
 |m::ms,v::l,r,h=>by
  have f:∀{r},h5 tw y path ms l= .inl r->r.length<=(m::ms).length/\(r.map λa=>a.ae).Sublist ((m::ms).map λm=>m.ae)/\∀a,a∈r->cU y.ag a.ae=none/\∃j,j<(m::ms).length/\j<(v::l).length/\a=⟨((m::ms).getD j aD).ae,bF tw ((m::ms).getD j aD).aB ((v::l).getD j az)⟩:=λ{r} h=>by
   obtain⟨a,b,c⟩:=Cv h;refine⟨by simp;omega,by rw[kd];exact b.cons _,λq d=>?_⟩;obtain⟨c1,j,i,k,e⟩:=c q d;exact⟨c1,j+1,by simp;omega,by simp;omega,e⟩
  rw[h5]at h;by_cases c1:(cU y.ag m.ae).isSome=true
  . rw[af c1]at h;exact f h
  rw[al c1]at h;by_cases c2:m.cv=true
  . rw[af c2]at h;cases h
  rw[al c2]at h;by_cases c3:dz m v=true
  . rw[af c3]at h;exact f h
  rw[al c3]at h;obtain⟨u,us,aK,g,rfl⟩:=F4 h;cases aK;obtain⟨a,b,c⟩:=Cv g;refine⟨by simp;omega,by rw[kd,kd];exact b.cons₂ _,λq d=>?_⟩;rcases e2.1 d with rfl|d
  . exact⟨by simpa using c1,0,by simp,by simp,rfl⟩
  . exact(f g).2.2 q d
section
variable {ts:List ah}
theorem zs{n:Nat}(h:n<16384):(e4 n).length<=2:=Gf 1 n (by simpa using h)
theorem ve{p:ao}(h:p.length<16384):(dS p).length<=p.length+2:=by
 have:=zs h;unfold dS;simp;omega
def lq(ts:List ah)(t:Int)(v:I):Prop:=(bF ts t v).length+4<=wt v
theorem Cg{t:Int}:∀{l:List I},du l<=3000->(∀y,y∈l->lq ts t y)->((bL ts t l).flatMap dS).length<=du l
 |[],_,_=>by rw[bL];simp
 |v::l,a,h=>by
  rw[bL,hO,db];rw[jz]at a⊢;have h1:=h v (.head _);unfold lq at h1;have c:=Cg (t:=t) (l:=l) (by omega) λx b=>h x (.tail _ b);have d:=ve (p:=bF ts t v) (by omega);omega
theorem Kx{l:List I}(h:∀y,y∈l->lq ts t y):((bL ts t l).headD []).length+4<=du l\/l=[]:=by
 cases l with
 |nil=>exact .inr rfl
 |cons v l=>
  refine .inl ?_;have h1:=h v (.head _);unfold lq at h1;rw[bL,jz];grind
theorem Jq:∀{ms:List aU} {l:List I},du l<=3000->(∀m,m∈ms->m.ae<=1000)->l.length=ms.length->(∀i,i<ms.length->lq ts (ms.getD i aD).aB (l.getD i az))->((dy ts ms l).flatMap Fd.text).length<=du l
 |[],l,_,_,_,_=>by rw[dy]<;>simp
 |m::ms,[],_,_,ad,_=>by simp at ad
 |m::ms,v::l,c,a,ad,h=>by
  rw[jz]at c⊢;rw[dy];have h1:lq ts m.aB v:=h 0 (by simp);unfold lq at h1;have e:=Jq (ms:=ms) (l:=l) (by omega) (λx d=>a x (.tail _ d)) (by simpa using ad) λi b=>h (i+1) (by simpa using b);have g:=a m (.head _);split
  . omega
  . rw[hO,db];have a1:=ve (p:=bF ts m.aB v) (by omega);have a2:=zs (n:=2*m.ae.toNat+(if m.cv then 1 else 0)) (by split<;>omega);have f:(Fd.text ⟨m.ae.toNat,m.cv,bF ts m.aB v⟩).length<=(bF ts m.aB v).length+4:=by
     show(fR m.ae.toNat m.cv (bF ts m.aB v)).length<=_;unfold fR;grind
    omega
theorem Yl(H:dW ts)(w:b3 v):∀t,cL ts true t v->wt v<=3000->lq ts t v:=by
 have d:=H.V.iy H.T;induction w with
 |mk v hs h1 J K Q O R cV X Y Z z x=>
  intro t s U;obtain⟨⟨g1,g2,g3,g4⟩,r⟩:=(hc _ _ _).1 s;have u:t.toNat<ts.length:=by omega
  have c:=br u aN;have p:=g4 rfl;have W:=hz v;have aT:∀y,y∈v.aG->wt y+10<=wt v:=λy a=>by have:=fx a;omega
  have C:∀y,y∈v.ai->wt y+10<=wt v:=λy a=>by have:=fx a;omega
  have B:∀t,e3 ts true t v.aG->∀y,y∈v.aG->lq ts t y:=λt ht y a=>z y a t (dk.1 ht y a) (by have:=aT y a;omega);have f:∀t,e3 ts true t v.ai->∀y,y∈v.ai->lq ts t y:=λt ht y a=>x y a t (dk.1 ht y a) (by have:=C y a;omega);unfold lq;rcases r with h|h|h|h|h|h|h|h|h
  . rw[zo (by omega)];grind
  . have N:=H.L _ c (by omega);rw[zp (by omega)];have:=uZ 1 (gB v.bo).toNat (by unfold gB;split<;>omega);omega
  . rw[zq (by omega)];omega
  . rw[zr (by omega)];have hid:v.ae.toNat<256^2:=by
     rcases h.2.2.2.2.2.2.2 with⟨y,E,aa⟩|⟨_,h,_⟩
     . have:=d.S _ c (by omega) y E;unfold cK at this;omega
     . cases h
    have:=uZ 2 _ hid;omega
  . obtain⟨a1,a2,a3,a4,a5,b,g,e⟩:=h;obtain⟨j,D⟩:=d.A _ c (.inl (by omega));obtain⟨f1,f2⟩:=jZ.1 e;rw[vN (by omega),FF (mn _ _)];unfold fI;rw[p,pt,nQ];have:=Jq (ts:=ts) (l:=v.ai) (by omega) (d.M _ c) f1 λi P=>by grind
    omega
  . obtain⟨a1,a2,a3,a4,a5,b⟩:=h;rw[s8 (by omega)];cases bI:cU (ts.getD t.toNat aN).ag v.ae with
    |none=>rw[bI]at b;cases b.2.1
    |some m=>
     rw[bI]at b;obtain⟨b1,b2,o⟩:=b;obtain⟨j,D⟩:=nI bI;have hid:=d.M _ c m j;have:=zs (n:=v.ae.toNat) (by omega);rw[db];rcases Kx (f _ o)with q|q
     . grind
     grind
  . obtain⟨a1,a2,a3,a4,a5,b,g,e,a9⟩:=h;rw[s9 (by omega)];have:=Cg (l:=v.ai) (by omega) (f _ a9);omega
  . obtain⟨a1,a2,a3,a4,a5,b,g,e,a9,k,F⟩:=h;rw[ta (by omega)];have aK:=Cg (l:=v.ai) (by omega) (f _ k);have G:=Cg (l:=v.aG) (by omega) (B _ a9);have:=Cd (bL ts (ts.getD t.toNat aN).Key v.aG) (bL ts (ts.getD t.toNat aN).aC v.ai);omega
  . obtain⟨a1,a2,a3,a4,a5,b,g,e,a9⟩:=h;rw[tb (by omega)];rcases Kx (f _ a9)with q|q
    . grind
    . rw[q,bL];simp;omega
end
def gZ(ts:List ah):Nat->Int->I->Prop
 |0,_,_=>False
 |n+1,t,v=>((bF ts t v).length<=4096/\v.ai.length<=1000/\v.aG.length<=1000)/\
  ((ts.getD t.toNat aN).Kind=5->∀i,i<(ts.getD t.toNat aN).ag.length->gZ ts n ((ts.getD t.toNat aN).ag.getD i aD).aB (v.ai.getD i az))/\
  ((ts.getD t.toNat aN).Kind=6->∀m,cU (ts.getD t.toNat aN).ag v.ae=some m->∀y,y∈v.ai->gZ ts n m.aB y)/\
  (7<=(ts.getD t.toNat aN).Kind->(∀y,y∈v.ai->gZ ts n (ts.getD t.toNat aN).aC y)/\∀y,y∈v.aG->gZ ts n (ts.getD t.toNat aN).Key y)
section
variable {ts:List ah}
theorem gZ.len{n:Nat}(h:gZ ts n t v):(bF ts t v).length<=4096:=by
 cases n with
 |zero=>cases h
 |succ n=>exact h.1.1
theorem Cw(p:ao):p.length<=(dS p).length:=by unfold dS;simp
theorem GK{t:Int}:∀{l:List I} {y:I},y∈l->(bF ts t y).length<=((bL ts t l).flatMap dS).length
 |v::l,y,h=>by
  rw[bL,hO,db];rcases e2.1 h with rfl|h
  . have:=Cw (bF ts t y);omega
  . have:=GK (t:=t) h;omega
theorem G4:∀{ms:List aU} {l:List I} (i:Nat),i<ms.length->i<l.length->dz (ms.getD i aD) (l.getD i az)=false->(bF ts (ms.getD i aD).aB (l.getD i az)).length<=((dy ts ms l).flatMap Fd.text).length
 |m::ms,v::l,0,_,_,a=>by
  rw[dy];simp only[mG]at a⊢;rw[al (by simp[a]),hO,db];have c:(bF ts m.aB v).length<=(Fd.text ⟨m.ae.toNat,m.cv,bF ts m.aB v⟩).length:=by
   show _<=(fR m.ae.toNat m.cv (bF ts m.aB v)).length;have:=Cw (bF ts m.aB v);unfold fR;simp only[db];omega
  omega
 |m::ms,v::l,i+1,h1,b,a=>by
  have:=G4 (ms:=ms) (l:=l) i (by simpa using h1) (by simpa using b) (by simpa using a);rw[dy];simp only[DX];split
  . exact this
  . rw[hO,db];omega
theorem ad7{m:aU}(h:dz m v=true):m.bV=true/\v=m.bz:=by
 unfold dz at h;grind
theorem CI:∀{a b:List ao} {p:ao},a.length=b.length->p∈a\/p∈b->p.length<=(gw a b).length
 |[],[],p,_,h=>by simp at h
 |k::ks,v::vs,p,ad,h=>by
  have aK:=Cw k;have c:=Cw v;have ih:=@CI ks vs p (by simpa using ad);simp only[gw,db];simp only[e2]at h;grind
theorem xQ:∀{l:List I} {y:I},y∈l->bF ts t y∈bL ts t l
 |v::l,y,h=>by
  rw[bL];rcases e2.1 h with rfl|h
  . simp
  . exact .tail _ (xQ h)
theorem Z7(c:(ts.getD t.toNat aN).Kind<=4)(b:cL ts true t v):eK ts t v=1:=by
 obtain⟨⟨_,_,bU,_⟩,a⟩:=(hc _ _ _).1 b;refine Bs ?_ ?_
 . rcases a with k|k|k|k|k|k|k|k|k
   . exact k.2.2.2.2.1
   . exact k.2.2.2.2.1
   . exact k.2.2.2.2.1
   . exact k.2.2.2.2.1
   all_goals omega
 . rcases a with k|k|k|k|k|k|k|k|k
   . exact k.2.2.2.2.2.1
   . exact k.2.2.2.2.2.1
   . exact k.2.2.2.2.2.1
   . exact k.2.2.2.2.2.1
   all_goals omega
theorem qT(H:dW ts):∀(n:Nat) {v:I} {t:Int},b3 v->cL ts true t v->(bF ts t v).length<=4096\/wt v<=3000->eK ts t v+13<=n\/wt v<=n->gZ ts n t v
 |0,v,t,_,_,_,f=>by have:=aaP v;omega
 |n+1,v,t,k,D,d,f=>by
  have E:=H.V.iy H.T;have ad:(bF ts t v).length<=4096:=by
   rcases d with h|h
   . exact h
   . have:=Yl H k t D h;unfold lq at this;omega
  have am:=hz v;obtain⟨⟨g1,g2,g3,g4⟩,K⟩:=(hc _ _ _).1 D;have L:t.toNat<ts.length:=by omega
  have w:=br L aN;have ah:=H.M _ w;have ab:=(H.cr _ w).2.2;have J:=g4 rfl;cases k with
  |mk _ hs h1 Y Z N l ak cV ao ap aq=>
  have u:wt v<=3000->∀y,y∈v.ai->wt y<=3000:=λh y c=>by have:=fx c;omega
  have U:wt v<=3000->∀y,y∈v.aG->wt y<=3000:=λh y c=>by have:=fx c;omega
  have z:wt v<=n+1->∀y,y∈v.ai->wt y<=n:=λh y c=>by have:=fx c;omega
  have Q:wt v<=n+1->∀y,y∈v.aG->wt y<=n:=λh y c=>by have:=fx c;omega
  have r:=y0 (ts:=ts) t v
  have bQ:7<=(ts.getD t.toNat aN).Kind->∀y,y∈v.ai->eK ts (ts.getD t.toNat aN).aC y+13<=n\/wt y<=n:=λaa y c=>f.imp (λf=>by
   rw[al (show ¬(ts.getD t.toNat aN).Kind=5 by omega),al (show ¬(ts.getD t.toNat aN).Kind=6 by omega)]at r;have:=sE (ts:=ts) (t:=(ts.getD t.toNat aN).aC) c
   omega) λf=>z f _ c
  have x:v.ai=[]->v.aG=[]->v.ai.length<=1000/\v.aG.length<=1000:=λa b=>by rw[a,b];simp
  unfold gZ;rcases K with h|h|h|h|h|h|h|h|h
  . obtain⟨a1,a2,a3,a4,a5,g,j⟩:=h;exact⟨⟨ad,x g a5⟩,by omega,by omega,by omega⟩
  . obtain⟨a1,a2,a3,a4,a5,g,j,_⟩:=h;exact⟨⟨ad,x g a5⟩,by omega,by omega,by omega⟩
  . obtain⟨a1,a2,a3,a4,a5,g,j,_⟩:=h;exact⟨⟨ad,x g a5⟩,by omega,by omega,by omega⟩
  . obtain⟨a1,a2,a3,a4,a5,g,j,_⟩:=h;exact⟨⟨ad,x g a5⟩,by omega,by omega,by omega⟩
  . obtain⟨a1,a2,a3,a4,a5,g,j,o⟩:=h;obtain⟨f1,f2⟩:=jZ.1 o;refine⟨⟨ad,by omega,by rw[g];simp⟩,λ_ i q=>?_,by omega,by omega⟩;have s:=br (by omega:i<v.ai.length) az;cases A:dz ((ts.getD t.toNat aN).ag.getD i aD) (v.ai.getD i az)with
    |true=>
     obtain⟨R,S⟩:=ad7 A;have dN:=H.W _ w _ (br q aD) R;rw[<-S]at dN;refine qT H n (l _ s) (f2 i q) (.inr (by omega)) (.inr ?_);rcases f with f|f
     . omega
     . exact z f _ s
    |false=>
     refine qT H n (l _ s) (f2 i q) ?_ (f.imp (λf=>by
      rw[af (show(ts.getD t.toNat aN).Kind=5 by omega)]at r;have:=F3 (ts:=ts) q (by omega:i<v.ai.length) A
      omega) λf=>z f _ s)
     rcases d with d|d
     . left;have h0:=G4 (ts:=ts) i q (by omega:i<v.ai.length) A;rw[vN (by omega),FF (mn _ _)]at ad;unfold fI at ad;rw[J,pt,nQ]at ad;omega
     . exact .inr (u d _ s)
  . obtain⟨a1,a2,a3,a4,a5,g⟩:=h;cases bI:cU (ts.getD t.toNat aN).ag v.ae with
    |none=>rw[bI]at g;cases g.2.1
    |some m=>
     rw[bI]at g;obtain⟨b1,b2,G⟩:=g;refine⟨⟨ad,by omega,by rw[a5];simp⟩,by omega,λ_ an O y c=>?_,by omega⟩;cases O
     refine qT H n (l _ c) (dk.1 G _ c) ?_ (f.imp (λf=>by
      rw[al (show ¬(ts.getD t.toNat aN).Kind=5 by omega),af (show(ts.getD t.toNat aN).Kind=6 by omega),bI]at r;have:=sE (ts:=ts) (t:=m.aB) c;dsimp only at r
      omega) λf=>z f _ c)
     rcases d with d|d
     . left;rw[s8 (by omega),bI,db]at ad;have B:(bL ts m.aB v.ai).headD []=bF ts m.aB y:=by
        match k:v.ai,b2 with
        |[a],_=>rw[k]at c;rw[pn.1 c,bL,bL];rfl
       simp only[B]at ad;omega
     . exact .inr (u d _ c)
  . obtain⟨a1,a2,a3,a4,a5,g,j,o,a9⟩:=h;have C:=bQ (by omega);refine⟨⟨ad,by omega,by simp_all⟩,by omega,by omega,λ_=>⟨λy c=>qT H n (l _ c) (dk.1 a9 _ c) ?_ (C _ c),λy c=>by simp_all⟩⟩;rcases d with d|d
    . left;rw[s9 (by omega)]at ad;have:=GK (ts:=ts) (t:=(ts.getD t.toNat aN).aC) c;omega
    . exact .inr (u d _ c)
  . obtain⟨a1,a2,a3,a4,a5,g,j,o,a9,F,X⟩:=h;have aj:=Cd (bL ts (ts.getD t.toNat aN).Key v.aG) (bL ts (ts.getD t.toNat aN).aC v.ai)
    refine⟨⟨ad,by omega,by omega⟩,by omega,by omega,λ_=>⟨λy c=>qT H n (l _ c) (dk.1 F _ c) ?_ (bQ (by omega) _ c),λy c=>qT H n (N _ c) (dk.1 a9 _ c) ?_ (f.imp (λf=>by
     have P:v.aG≠[]:=λe=>by rw[e]at c;cases c
     rw[al P]at r;have:=Z7 (E.q8 _ w (by omega)).2 (dk.1 a9 _ c)
     omega) λf=>Q f _ c)⟩⟩
    all_goals
     rcases d with d|d
     case inr=>first|exact .inr (u d _ c)|exact .inr (U d _ c)
     left;rw[ta (by omega)]at ad;have e:(bL ts (ts.getD t.toNat aN).Key v.aG).length=(bL ts (ts.getD t.toNat aN).aC v.ai).length:=by rw[ky,ky];omega
     have:=CI (p:=bF ts _ y) e (by first|exact .inr (xQ c)|exact .inl (xQ c));omega
  . obtain⟨a1,a2,a3,a4,a5,g,j,o,a9⟩:=h;have C:=bQ (by omega);refine⟨⟨ad,by omega,by simp_all⟩,by omega,by omega,λ_=>⟨λy c=>qT H n (l _ c) (dk.1 a9 _ c) ?_ (C _ c),λy c=>by simp_all⟩⟩;rcases d with d|d
    . left;rw[tb (by omega)]at ad;have B:bL ts (ts.getD t.toNat aN).aC v.ai=[bF ts (ts.getD t.toNat aN).aC y]:=by
       match k:v.ai,o with
       |[a],_=>rw[k]at c;rw[pn.1 c,bL,bL]
       |[],_=>rw[k]at c;cases c
      rw[B]at ad;rw[iP]at ad;omega
    . exact .inr (u d _ c)
end
section
variable {tw tr:List ah}
variable{rt:Int}
theorem Ym{n:Nat}{u:I}(a:(tw.getD t.toNat aN).Kind<=4)(h:er tw tr n t v rt path= .inl u):u=v:=by
 cases n with
 |zero=>cases h
 |succ n=>
  rw[BL]at h;unfold h4 at h;grind
theorem Yn(c:∀v rt path u,f t v rt path= .inl u->u=v){i:Nat}{l us:List I}(h:e0 f path t rt i l= .inl us):us=l:=by
 obtain⟨a,b⟩:=BM h;exact ZE a λj d=>c _ _ _ _ (b j (by omega))
theorem Y7{y:ah}{ms:List aU}{l:List I}{r:List b6}(d:hD ms)(h:h5 tw y path ms l= .inl r):kG y.ag r:=by
 obtain⟨_,b,c⟩:=Cv h;refine⟨?_,λa f=>?_⟩
 . have h1:(ms.map λm=>m.ae).Pairwise (· < ·):=nP.2 d.1;grind
 . obtain⟨c1,j,g,i,e⟩:=c a f;refine⟨?_,c1⟩;rw[e];exact d.2 _ (br g aD)
theorem cK.i64{n:Int}(h:cK n): -9223372036854775808<=n/\n<=9223372036854775807:=by unfold cK at h;omega
def G1(tr:List ah)(rt:Int)(u:I):Prop:=b3 u/\cL tr false rt u
def C9(tw tr:List ah)(n:Nat):Prop:=∀{v:I},b3 v->∀{t rt:Int} {path:au} {u:I},cL tw true t v->gZ tw n t v->0<=rt->rt<tr.length->er tw tr n t v rt path= .inl u->G1 tr rt u
theorem Ww(ec:dW tw)(c':dW tr){n:Nat}(ih:C9 tw tr n):C9 tw tr (n+1):=by
 intro v an t rt path u ax ar p s h;unfold gZ at ar;obtain⟨⟨z1,z2,z3⟩,aa,ab,J⟩:=ar;have SW:=ec.V.iy ec.T;have cm:=c'.V.iy c'.T;have P:=an;have aT:=hz v;obtain⟨⟨g1,g2,g3,g4⟩,aw⟩:=(hc _ _ _).1 ax;have ay:t.toNat<tw.length:=by omega
 have aA:rt.toNat<tr.length:=by omega
 have O:=br ay aN;have o:=br aA aN;have l:=λu=>(hc (ts:=tr) false rt u).2;rw[BL]at h;generalize aU:tw.getD t.toNat aN=x at*;generalize aV:tr.getD rt.toNat aN=y at*;cases an with
 |mk _ hs h1 aP aQ ak W aS cV aZ a6 a7=>
 have Z:∀{t rt:Int} {i:Nat} {us:List I},e3 tw true t v.ai->(∀y,y∈v.ai->gZ tw n t y)->0<=rt->rt<tr.length->e0 (er tw tr n) path t rt i v.ai= .inl us->us.length=v.ai.length/\(∀q,q∈us->b3 q)/\e3 tr false rt us:=λ{t rt i us} U c a0 a1 aj=>by
  obtain⟨a,b⟩:=BM aj;have key:∀q,q∈us->G1 tr rt q:=λq X=>by
   obtain⟨j,F,rfl⟩:=Hg az X;have g:=br (by omega:j<v.ai.length) az;exact ih (W _ g) (dk.1 U _ g) (c _ g) a0 a1 (b j (by omega))
  exact⟨a,λq c=>(key q c).1,dk.2 λq c=>(key q c).2⟩
 have aE:∀t,e3 tw true t v.aG->(∀y,y∈v.aG->gZ tw n t y)->(tw.getD t.toNat aN).Kind<=4->∀{rt:Int} {i:Nat} {us:List I},0<=rt->rt<tr.length->e0 (er tw tr n) path t rt i v.aG= .inl us->us=v.aG/\e3 tr false rt v.aG:=λt U X aC rt i us a0 a1 aj=>by
  have e:=Yn (λv rt path u h=>Ym aC h) aj;subst e;obtain⟨a,b⟩:=BM aj;refine⟨rfl,dk.2 λq c=>?_⟩;obtain⟨j,F,rfl⟩:=Hg az c;exact(ih (ak _ c) (dk.1 U _ c) (X _ c) a0 a1 (b j F)).2
 unfold h4 at h;by_cases bJ:x.Kind=y.Kind
 . rw[al (by simpa using bJ)]at h;rcases aw with d|d|d|d|d|d|d|d|d
   . rw[bR,bR,bR,bR,bR]at h;split at h<;>cases h;exact⟨P,l _ ⟨⟨p,s,by omega,by simp⟩,.inl d⟩⟩
   . rw[bR,bR,bR,bR,bR]at h;split at h<;>cases h;rename_i ad;exact⟨P,l _ ⟨⟨p,s,by omega,by simp⟩,.inr (.inl (by have:=ad.1 (by omega);simp_all))⟩⟩
   . rw[bR,bR,bR,bR,bR]at h;split at h<;>cases h;rename_i ad;exact⟨P,l _ ⟨⟨p,s,by omega,by simp⟩,.inr (.inr (.inl (by have:=ad.2.1 (by omega);simp_all)))⟩⟩
   . rw[bR,bR,bR,bR,bR]at h;split at h<;>cases h;rename_i ad;have L:cK v.ae:=by
      rcases d.2.2.2.2.2.2.2 with⟨y,aM,aO⟩|⟨_,h,_⟩
      . rw[<-aO];exact SW.S _ O (by omega) y aM
      . cases h
     refine⟨P,l _ ⟨⟨p,s,by omega,by simp⟩,.inr (.inr (.inr (.inl ⟨d.1,d.2.1,d.2.2.1,d.2.2.2.1,d.2.2.2.2.1,d.2.2.2.2.2.1,d.2.2.2.2.2.2.1,?_⟩)))⟩⟩;rcases ad.2.2 (by omega)with q|q
     . exact .inl q
     grind
   . obtain⟨a1,a2,a3,a4,a5,C,R,K⟩:=d;obtain⟨Q,aH⟩:=SW.A _ O (.inl (by omega));obtain⟨aX,aY⟩:=cm.A _ o (.inl (by omega));obtain⟨f1,f2⟩:=jZ.1 K;rw[gh]at h;obtain⟨f,aK,h⟩:=Ja h;obtain⟨r,af,rfl⟩:=x2 h;obtain⟨b1,b2⟩:=Jb aK;have key:∀j,j<y.ag.length->G1 tr (y.ag.getD j aD).aB (f.getD j az):=λj N=>by
      have E:=br N aD;rcases Y6 (b2 j N)with⟨_,c2,c3⟩|⟨i,c1,c2,_⟩
      . rw[c3];exact⟨(c'.T _ o).im _ E,qX _ _ (c'.D _ o _ E c2)⟩
      . obtain⟨d1,_,_⟩:=j0 c1;have g:=br (by omega:i<v.ai.length) az;obtain⟨z,B⟩:=c'.il.mem o E;exact ih (W _ g) (f2 i d1) (aa (by omega) i d1) z B c2
     have am:=Y7 Q af;obtain⟨c1,_,c3⟩:=Cv af;refine⟨.mk _ (by simp) (by simp) (by show f.length<=_;unfold reachBytes;omega) (by show r.length<=_;unfold reachBytes;omega) (λq c=>by cases c) (λq c=>?_) (λq c=>?_) (by simp) (by simp) (by simp) (λq c=>(am.2 q c).1.i64),l _ ⟨⟨p,s,by show(5:Int)=_;omega,by simp⟩,.inr (.inr (.inr (.inr (.inl ⟨rfl,rfl,rfl,rfl,rfl,rfl,am,jZ.2 ⟨b1,λj N=>(key j N).2⟩⟩))))⟩⟩
     . obtain⟨j,F,rfl⟩:=Hg az c;exact(key j (by have:f.length=_:=b1;have aW:j<f.length:=F;omega)).1
     . obtain⟨_,j,F,aF,e⟩:=c3 q c;have g:=br aF az;have:=(aa (by omega) j F).len;rw[e];unfold reachBytes;grind
   . obtain⟨a1,a2,a3,a4,a5,C⟩:=d;rw[bR,gh]at h;unfold s3 at h;obtain⟨Q,aH⟩:=SW.A _ O (.inr (by omega));cases bI:cU x.ag v.ae with
     |none=>rw[bI]at C;cases C.2.1
     |some m=>
      rw[bI]at C;obtain⟨b1,b2,au⟩:=C;have Y:=vd x.ag v.ae;rw[bI]at Y;cases L:gP x.ag v.ae with
      |none=>rw[L]at Y;cases Y
      |some i=>
      obtain⟨d1,d2,_⟩:=j0 L;obtain⟨d3,d4⟩:=nI bI;have em:x.ag.getD i aD=m:=u0 Q (br d1 aD) d3 (by rw[d2,d4]);have hid:cK v.ae:=by rw[<-d4];exact Q.2 m d3
      simp only[L,em]at h;have g:=br (by omega:0<v.ai.length) az;cases M:gP y.ag v.ae with
      |some k=>
       simp only[M]at h;obtain⟨w,aK,rfl⟩:=x2 h;obtain⟨bb,bq,_⟩:=j0 M;have E:=br bb aD;obtain⟨z,B⟩:=c'.il.mem o E;obtain⟨z1,z2⟩:=ih (W _ g) (dk.1 au _ g) (ab (by omega) _ bI _ g) z B aK;have ah:cU y.ag v.ae=some (y.ag.getD k aD):=by rw[<-bq];exact J5 (cm.A _ o (.inr (by omega))).1 E
       refine⟨.mk _ (by simp) (by simp) (by show[w].length<=_;unfold reachBytes;simp) (by simp) (λq c=>by cases c) (λq c=>?_) (λq c=>by cases c) (by simp) (by simp) hid.i64 (λq c=>by cases c),l _ ⟨⟨p,s,by show(6:Int)=_;omega,by simp⟩,.inr (.inr (.inr (.inr (.inr (.inl ⟨rfl,rfl,rfl,rfl,rfl,?_⟩)))))⟩⟩
       . grind
       . show match cU y.ag v.ae with|some m=>_|none=>_
         rw[ah];exact⟨rfl,rfl,z2,trivial⟩
      |none=>
       simp only[M]at h;split at h
       . cases h;rename_i aR;have ah:cU y.ag v.ae=none:=by
          have:=vd y.ag v.ae;rw[M]at this;cases c:cU y.ag v.ae with
          |none=>rfl
          |some _=>rw[c]at this;cases this
         have:=(ab (by omega) _ bI _ g).len;refine⟨.mk _ (by simp) (by simp) (by simp) (by show[_].length<=_;unfold reachBytes;simp) (λq c=>by cases c) (λq c=>by cases c) (λq c=>?_) (by simp) (by simp) hid.i64 (λq c=>?_),l _ ⟨⟨p,s,by show(6:Int)=_;omega,by simp⟩,.inr (.inr (.inr (.inr (.inr (.inl ⟨rfl,rfl,rfl,rfl,rfl,?_⟩)))))⟩⟩
         . rw[pn.1 c];show(bF tw _ _).length<=_;unfold reachBytes;omega
         . grind
         grind
       . cases h
   . obtain⟨a1,a2,a3,a4,a5,C,R,K,a9⟩:=d;rw[bR,bR,gh]at h;unfold zh at h;split at h
     . rename_i av;obtain⟨f,aK,rfl⟩:=x2 h;obtain⟨z,B⟩:=c'.il.elem o (by omega);obtain⟨ao,G,H⟩:=Z a9 (J (by omega)).1 z B aK;exact⟨.mk _ (by simp) (by simp) (by show f.length<=_;omega) (by simp) (λq c=>by cases c) G (λq c=>by cases c) (by simp) (by simp) (by simp) (λq c=>by cases c),l _ ⟨⟨p,s,by show(7:Int)=_;omega,by simp⟩,.inr (.inr (.inr (.inr (.inr (.inr (.inl ⟨rfl,rfl,rfl,rfl,rfl,rfl,rfl,by show(f.length:Int)<=_;omega,H⟩))))))⟩⟩
     . cases h
   . obtain⟨a1,a2,a3,a4,a5,C,R,K,a9,ap,aq⟩:=d;rw[bR,bR,bR,gh]at h;unfold zi at h;split at h
     . rename_i av;obtain⟨ks,dh,h⟩:=Ja h;obtain⟨f,aK,rfl⟩:=x2 h;obtain⟨z,B⟩:=c'.il.elem o (by omega);obtain⟨aJ,aL⟩:=c'.il.key o (by omega);obtain⟨ao,G,H⟩:=Z ap (J (by omega)).1 z B aK;obtain⟨rfl,aI⟩:=aE _ a9 (J (by omega)).2 (SW.q8 _ O (by omega)).2 aJ aL dh;exact⟨.mk _ (by simp) (by show v.aG.length<=_;omega) (by show f.length<=_;omega) (by simp) ak G (λq c=>by cases c) (by simp) (by simp) (by simp) (λq c=>by cases c),l _ ⟨⟨p,s,by show(8:Int)=_;omega,by simp⟩,.inr (.inr (.inr (.inr (.inr (.inr (.inr (.inl ⟨rfl,rfl,rfl,rfl,rfl,rfl,by show(v.aG.length:Int)<=_;omega,by show f.length=v.aG.length;omega,aI,H,aq⟩)))))))⟩⟩
     . cases h
   . obtain⟨a1,a2,a3,a4,a5,C,R,K,a9⟩:=d;rw[bR,bR,bR,bR,gh]at h;obtain⟨f,aK,rfl⟩:=x2 h;obtain⟨z,B⟩:=c'.il.elem o (by omega);obtain⟨ao,G,H⟩:=Z a9 (J (by omega)).1 z B aK;exact⟨.mk _ (by simp) (by simp) (by show f.length<=_;omega) (by simp) (λq c=>by cases c) G (λq c=>by cases c) (by simp) (by simp) (by simp) (λq c=>by cases c),l _ ⟨⟨p,s,by show(9:Int)=_;omega,by simp⟩,.inr (.inr (.inr (.inr (.inr (.inr (.inr (.inr ⟨rfl,rfl,rfl,rfl,rfl,rfl,rfl,by show f.length<=1;omega,H⟩)))))))⟩⟩
 grind
theorem Jd(ec:dW tw)(c':dW tr):∀n,C9 tw tr n
 |0=>λ_ _ _ _ _ _ _ _ _ h=>by cases h
 |n+1=>Ww ec c' (Jd ec c' n)
end
end
end Go.Proofs.YtkbmjabicjpmjaaGreatDoor
