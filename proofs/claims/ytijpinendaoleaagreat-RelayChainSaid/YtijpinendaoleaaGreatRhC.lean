/- The functions of the program as functions of Lean, that its code does what they say, and what they answer; part C. -/
import Derived.Test.YtijpinendaoleaaGreatRhB

namespace Go.Proofs.YtijpinendaoleaaGreat
set_option linter.all false
section
open Go Go.Proofs.YtijpinendaoleaaGreat.Shv Go.Sort
set_option maxRecDepth 100000
section
variable {ts:List f7}
def WV(ts:List f7)(x:ak)(t:Int):Prop:=WE ((⟨ts⟩:hI),t,x)=some (n' ts t x)
def abn(ts:List f7)(x:ak)(t:Int):Prop:=Yv ((⟨ts⟩:hI),t,x)=some ((J0 ts t x:Nat):Int)
theorem aGB{x:f7}{v:ak}(hlen:∀y,y∈v.cy -> (n' ts x.ev y).length <=1000000000000000)(hw:∀y,y∈v.cy -> WV ts y x.ev)(a6:v.cy.length <=reachBytes):
 ∀(k i:Nat) (acc:List UInt8),i+k=v.cy.length->acc.length+((ob ts x.ev (v.cy.drop i)).flatMap H').length<=70368744177664->
 aeP (acc,(i:Int),ts,v,x)=some (acc++(ob ts x.ev (v.cy.drop i)).flatMap H')
 | 0,i,acc,ay,ch=>by
  rw[aeP,aJ (by simp;omega),MR (by omega:v.cy.length<=i),ob];simp
 | k+1,i,acc,ay,ch=>by
  have ec:i < v.cy.length:=by omega
  have ar:=Jg a6;have C3:v.cy.getD i eJ∈v.cy:=j1 ec eJ;rw[NP ec eJ,ob,MS,vx]at ch;have bo:=hlen _ C3;have v':=hw _ C3;unfold WV at v';rw[aeP,ao (by simp;omega),ao (gA ec)];simp only[g',cm,hJ,ak.h7];rw[v'];simp only[cm];rw[apq (by omega)];simp only[cm]
  rw[ao (P' (by omega)),j2 (by omega),aGB hlen hw a6 k (i+1) _ (by omega) (by rw[vx];omega),NP ec eJ,ob,MS,SY]
theorem aHs {x:f7} {v:ak} (Y6:v.cy.length=v.eI.length) (hlen:∀y,y∈v.cy -> (n' ts x.ev y).length <=1000000000000000) (aiT:∀y,y∈v.eI -> (n' ts x.Key y).length <=1000000000000000)
 (hw:∀y,y∈v.cy->WV ts y x.ev) (agh:∀y,y∈v.eI->WV ts y x.Key) (a6:v.cy.length<=reachBytes):
 ∀(k i:Nat) (acc:List UInt8),i+k=v.cy.length->acc.length+(Qm (ob ts x.Key (v.eI.drop i)) (ob ts x.ev (v.cy.drop i))).length<=70368744177664->
 aeQ (acc,(i:Int),ts,v,x)=some (acc++Qm (ob ts x.Key (v.eI.drop i)) (ob ts x.ev (v.cy.drop i)))
 | 0,i,acc,ay,ch=>by
  rw[aeQ,aJ (by simp;omega),MR (by omega:v.cy.length<=i),MR (by omega:v.eI.length<=i),ob,ob,Qm]
  . simp
  grind
 | k+1,i,acc,ay,ch=>by
  have ec:i < v.cy.length:=by omega
  have PR:i < v.eI.length:=by omega
  have ar:=Jg a6;have C3:v.cy.getD i eJ∈v.cy:=j1 ec eJ;have af4:v.eI.getD i eJ∈v.eI:=j1 PR eJ;rw[NP ec eJ,NP PR eJ,ob,ob,Qm,vx,vx]at ch;have bo:=hlen _ C3;have E':=aiT _ af4;have v':=hw _ C3;have amT:=agh _ af4;unfold WV at v' amT;rw[aeQ,ao (by simp;omega),ao (gA PR)]
  simp only[g',cm,hJ,ak.h7];rw[amT];simp only[cm];rw[apq (by omega)];simp only[cm];rw[ao (P' (by omega)),ao (gA ec),v'];simp only[cm];rw[apq (by omega)];simp only[cm]
  rw[ao (P' (by rw[vx];omega)),j2 (by omega),aHs Y6 hlen aiT hw agh a6 k (i+1) _ (by omega) (by rw[vx,vx];omega),NP ec eJ,NP PR eJ,ob,ob,Qm,SY,SY]
def WT(R:List pI)(n:Nat):List Fd:=(R.filter λx=>decide (x.a8=(n:Int))).map Ux
theorem aTe{a:pI}{l:List pI}{n:Nat}(h:a.a8=(n:Int)):WT (a::l) n=Ux a::WT l n:=by unfold WT;rw[List.filter_cons,ao (by rw[h];simp),QX]
theorem aUG{a:pI}{l:List pI}{n:Nat}(h:¬a.a8=(n:Int)):WT (a::l) n=WT l n:=by unfold WT;rw[List.filter_cons,aJ (by simpa using h)]
theorem a1P{Ky:Type}{m:li}{w:ak}(hw:qa w)(A B:Option Ky):
 ((if(!(!m.nk))=true then UE (w,m.j0)else some false).bind λWj=>if(bif (!m.nk)then true else(!Wj))=true then A else B)=if NK m w=true then B else A:=by
 cases a7:m.nk with
 | false=>
  have:NK m w=false:=by unfold NK;rw[a7];rfl
  rw[this];rfl
 | true=>
  have:=aHr hw a7;simp only[N2,Uw,qb,this];cases NK m w <;> rfl
theorem awz{x:f7}{v:ak}(ar:∀y,y∈v.Rest -> y.Data.length <=reachBytes)(JG:v.Rest.length <=reachBytes)(n:Nat)(dy:n <=1000):
 ∀(k i:Nat) (out:List UInt8),i+k=v.Rest.length->out.length+((WT (v.Rest.drop i) n).flatMap Fd.text).length<=70368744177664->
 Ys (out,(n:Int),(i:Int),ts,v,x)=some (out++(WT (v.Rest.drop i) n).flatMap Fd.text,(n:Int),ts,v,x)
 | 0,i,out,ay,ch=>by
  rw[Ys,aJ (by simp;omega),MR (by omega:v.Rest.length<=i),ak.h7];simp[WT]
 | k+1,i,out,ay,ch=>by
  have ec:i < v.Rest.length:=by omega
  have a3F:=Jg JG;have a7:=ar _ (j1 ec j');unfold reachBytes at a7;rw[NP ec j']at ch;rw[Ys,ao (by simp;omega),ao (gA ec)];simp only[g',cm,hJ,ak.h7];rw[NP ec j'];by_cases e:(v.Rest.getD i j').a8=(n:Int)
  . rw[aTe e,MS]at ch ⊢;have ht:(Ux (v.Rest.getD i j')).text=Ol n false (v.Rest.getD i j').Data:=by unfold Ux Fd.text;rw[e];rfl
    rw[ht,vx]at ch;rw[ao (by rw[e];simp),ao (gA ec),aEW (by omega) (by omega)];simp only[cm];rw[ao (P' (by omega)),j2 (by omega),awz ar JG n dy k (i+1) _ (by omega) (by rw[vx];omega),ht,SY]
  . rw[aUG e]at ch ⊢;rw[aJ (by simpa using e),j2 (by omega),awz ar JG n dy k (i+1) _ (by omega) ch]
noncomputable def amO (ts:List f7) (x:f7) (v:ak) (n:Nat):List Fd:=(LE ts x.b8 v.cy v.Rest).filter λf=>decide (f.id=n)
theorem av4 {x:f7} {v:ak} (hm:x.b8.length < 9223372036854775807) (SQ:Q5 x.b8) (arY:WS x.b8 v.Rest) (OK:v.cy.length=x.b8.length)
 (ar:∀y,y∈v.Rest->y.Data.length<=reachBytes) (JG:v.Rest.length<=reachBytes) (Np:∀y,y∈v.cy->qa y) (Rq:∀x,x∈v.cy->∀t,(n' ts t x).length<=23089744183296)
 (hw:∀i,i < x.b8.length->WV ts (v.cy.getD i eJ) (x.b8.getD i ii).e2):
 ∀(k n:Nat) (out:List UInt8),n+k=1001->1<=n->out.length+(((List.range' n k).flatMap (amO ts x v)).flatMap Fd.text).length<=70368744177664->
 Pi (out,(n:Int),ts,v,x)=some (out++((List.range' n k).flatMap (amO ts x v)).flatMap Fd.text)
 | 0,n,out,ay,h1,ch=>by
  rw[Pi,aJ (by simp;omega)];simp
 | k+1,n,out,ay,h1,ch=>by
  have aZV:∀y,y∈v.Rest->0<=y.a8:=λy bJ=>by have:=(arY.2 y bJ).1;unfold qj at this;omega
  have b9:amO ts x v n=((Ks ts x.b8 v.cy).filter λf=>decide (f.id=n))++WT v.Rest n:=by
   unfold amO LE WT;rw[List.filter_append,aSL _ _ aZV]
  rw[ay7,MS,ay1,b9,ay1]at ch ⊢;simp only[vx]at ch;rw[Pi,ao (by simp;omega)];obtain⟨r,_,oJ,cJ⟩:=YA (t:=x) (n:Int) hm;simp only[g',cm,hJ,ak.h7];rw[oJ];simp only[cm]
  have inner:∀aof:List UInt8,aof.length+((WT v.Rest n).flatMap Fd.text).length<=70368744177664->Ys (aof,(n:Int),0,ts,v,x)=some (aof++(WT v.Rest n).flatMap Fd.text,(n:Int),ts,v,x):=λaof h=>by
   have:=awz (ts:=ts) (x:=x) ar JG n (by omega) v.Rest.length 0 aof (by omega) (by simpa using h)
   grind
  rcases afp cJ with⟨e,j,s4,qi,JY,Xs⟩ | ⟨e,JY⟩
  . have PR:j < v.cy.length:=by omega
    have C3:v.cy.getD j eJ∈v.cy:=j1 PR eJ;have arJ:=aE0 (ts:=ts) (aHp SQ) OK s4 (n:=n) (by rw[Xs];simp);rw[ao e,qi,ao (gA s4)];rw[ao (by rw[gA PR];rfl)];simp only[hJ];rw[a1P (Np _ C3)];have af7:=av4 hm SQ arY OK ar JG Np Rq hw k (n+1);cases c8:NK (x.b8.getD j ii) (v.cy.getD j eJ)with
    | true=>
     rw[c8,ao rfl]at arJ;rw[arJ]at ch ⊢;rw[ao rfl,inner out (by omega)];simp only[cm,ak.h7];rw[j2 (by omega),af7 _ (by omega) (by omega) (by rw[vx];omega)];simp
    | false=>
     rw[c8,aJ (by simp)]at arJ;rw[arJ]at ch ⊢;have bo:=Rq _ C3 (x.b8.getD j ii).e2;have v':=hw j s4;unfold WV at v'
     have ht:([⟨n,(x.b8.getD j ii).sJ,n' ts (x.b8.getD j ii).e2 (v.cy.getD j eJ)⟩]:List Fd).flatMap Fd.text=Ol n (x.b8.getD j ii).sJ (n' ts (x.b8.getD j ii).e2 (v.cy.getD j eJ)):=by simp only[MS,List.flatMap_nil,aam];rfl
     rw[ht]at ch ⊢;rw[aJ (by simp),ao (gA PR),v'];simp only[cm];rw[aEW (by omega) (by omega)];simp only[cm];rw[ao (P' (by omega)),inner _ (by rw[vx];omega)];simp only[cm,ak.h7];rw[j2 (by omega),af7 _ (by omega) (by omega) (by rw[vx,vx];omega)]
     grind
  . have ank:((Ks ts x.b8 v.cy).filter λf=>decide (f.id=n))=[]:=aET λm TJ=>by
     have:=aaX JY m TJ;omega
    rw[ank]at ch ⊢;rw[aJ (by simp[e]),inner out (by omega)];simp only[cm,ak.h7];rw[j2 (by omega),av4 hm SQ arY OK ar JG Np Rq hw k (n+1) _ (by omega) (by omega) (by rw[vx];omega)];simp
end
section
variable {ts:List f7}
theorem aYr{Ky:Type}{m:li}{w:ak}(hw:qa w)(A B:Option Ky):
 ((if m.nk=true then UE (w,m.j0)else some false).bind λr=>if(bif m.nk then r else false)=true then A else B)=if NK m w=true then A else B:=by
 cases a7:m.nk with
 | false=>
  have:NK m w=false:=by unfold NK;rw[a7];rfl
  rw[this];rfl
 | true=>
  have:=aHr hw a7;simp only[qb,this];cases NK m w <;> rfl
theorem aGC{x:f7}{v:ak}(hf:¬x.Kind=5)(tJ:¬x.Kind=6)(hw:∀y,y∈v.cy -> abn ts y x.ev)(a6:v.cy.length <=reachBytes):
 ∀(k i b:Nat),i+k=v.cy.length->Qe ((b:Int),(i:Int),ts,v,x)=some (((max b (JS ts x.ev (v.cy.drop i)):Nat):Int),v)
 | 0,i,b,ay=>by rw[Qe,aJ (by simp;omega),MR (by omega:v.cy.length<=i),JS,ak.h7,Nat.max_zero]
 | k+1,i,b,ay=>by
  have ec:i < v.cy.length:=by omega
  have ar:=Jg a6;have v':=hw _ (j1 ec eJ);unfold abn at v';rw[Qe,ao (by simp;omega),aJ (by simp[hf]),aJ (by simp[tJ]),ao (gA ec)];simp only[hJ,ak.h7];rw[v'];simp only[g',cm];rw[alQ,j2 (by omega),aGC hf tJ hw a6 k (i+1) _ (by omega),NP ec eJ,JS,Nat.max_assoc]
theorem aHt{x:f7}{v:ak}(hf:x.Kind=5)(OK:v.cy.length=x.b8.length)(Np:∀y,y∈v.cy -> qa y)(hw:∀i,i < x.b8.length -> abn ts (v.cy.getD i eJ) (x.b8.getD i ii).e2)(a6:v.cy.length <=reachBytes):
 ∀(k i b:Nat),i+k=v.cy.length->Qe ((b:Int),(i:Int),ts,v,x)=some (((max b (OU ts (x.b8.drop i) (v.cy.drop i)):Nat):Int),v)
 | 0,i,b,ay=>by
  rw[Qe,aJ (by simp;omega),MR (by omega:v.cy.length<=i),ak.h7,MR (by omega:x.b8.length<=i)];rw[OU]
  . grind
  grind
 | k+1,i,b,ay=>by
  have ec:i < v.cy.length:=by omega
  have PR:i < x.b8.length:=by omega
  have ar:=Jg a6;have C3:=j1 ec eJ;have v':=hw i PR;unfold abn at v';rw[Qe,ao (by simp;omega),ao (by simp[hf]),ao (gA PR)];simp only[g',cm,hJ,ak.h7];rw[ao (by rw[gA ec];rfl),aYr (Np _ C3)];have af7:=aHt hf OK Np hw a6 k (i+1);rw[NP ec eJ,NP PR ii,OU]
  cases c8:NK (x.b8.getD i ii) (v.cy.getD i eJ)with
  | true=>rw[ao rfl,j2 (by omega),af7 _ (by omega),ao rfl]
  | false=>
   rw[aJ (by simp),aJ (by simp[hf]),ao (gA ec),v'];simp only[cm];rw[alQ,j2 (by omega),af7 _ (by omega),aJ (by simp),Nat.max_assoc]
theorem aHu{x:f7}{v:ak}(tJ:x.Kind=6){j:Nat}(c7:j < x.b8.length)(J8:Tj (x,v.a8)=some ((j:Int),true))(hw:∀y,y∈v.cy -> abn ts y (x.b8.getD j ii).e2)(a6:v.cy.length <=reachBytes):
 ∀(k i b:Nat),i+k=v.cy.length->Qe ((b:Int),(i:Int),ts,v,x)=some (((max b (JS ts (x.b8.getD j ii).e2 (v.cy.drop i)):Nat):Int),v)
 | 0,i,b,ay=>by rw[Qe,aJ (by simp;omega),MR (by omega:v.cy.length<=i),JS,ak.h7,Nat.max_zero]
 | k+1,i,b,ay=>by
  have ec:i < v.cy.length:=by omega
  have ar:=Jg a6;have v':=hw _ (j1 ec eJ);unfold abn at v';rw[Qe,ao (by simp;omega),aJ (by simp[tJ]),ao (by simp[tJ]),J8];simp only[g',cm,hJ,ak.h7];rw[ao (gA c7),ao (gA ec),v'];simp only[cm];rw[alQ,j2 (by omega),aHu tJ c7 J8 hw a6 k (i+1) _ (by omega),NP ec eJ,JS,Nat.max_assoc]
theorem aqu{x:f7}{v:ak}{b w:Nat}(vK:Qe (0,0,ts,v,x)=some (((max 0 b:Nat):Int),v))(al:b < 1152921504606846976)(hw:w=1+max (if v.eI=[]then 0 else 1) b):
 (Qe (0,0,ts,v,x) >>=λo=>if decide (0 < (o.2.eI.length:Int))=true then some (e0 .i64 1 (Rz o.1 1))else some (e0 .i64 1 o.1))=some (w:Int):=by
 rw[vK];simp only[g',cm];by_cases hk:v.eI=[]
 . rw[aJ (by simp[hk])];rw[ao hk]at hw;have:e0 .i64 1 ((max 0 b:Nat):Int)=((1+max 0 b:Nat):Int):=aqr (a:=1) (by omega);rw[this,hw]
 . rw[ao (by
    have:0 < v.eI.length:=agy.2 hk
    grind)]
   rw[aJ hk]at hw;have e:Rz ((max 0 b:Nat):Int) 1=((max 1 b:Nat):Int):=by
    have:=alQ (max 0 b) 1
    grind
   rw[e];have:e0 .i64 1 ((max 1 b:Nat):Int)=((1+max 1 b:Nat):Int):=aqr (a:=1) (by omega);rw[this,hw]
theorem aW1(H:UM ts){v:ak}(cv:qa v):wt v<=1099511627776->∀t,xJ ts false t v->abn ts v t:=by
 induction cv with
 | mk v hs h1 ah b' hk ay Um I0 D' Jm p' QU NH=>
  intro hw t cJ;have adF:=Qv v;have Rk:∀x,x∈v.cy->∀t,xJ ts false t x->abn ts x t:=λx ad t=>NH x ad (by have:=Qc ad;omega) t
  obtain⟨⟨g1,g2,g3,_⟩,cJ⟩:=(WN _ _ _).1 cJ;obtain⟨j,rfl⟩:∃j:Nat,t=(j:Int):=⟨t.toNat,by omega⟩
  have c7:j < ts.length:=by omega
  unfold abn;rw[Yv,ao (gA c7)];simp only[hJ,ak.h7]at cJ g3 ⊢;have OM:=j1 c7 hz;have QP:=aqt (ts:=ts) (j:Int) v;simp only[hJ]at QP;have vJ:=H.A _ OM;have hm:=Jg (Qz (H.T _ OM).OP);generalize ts.getD j hz=x at*;have b1:∀E,JS ts E v.cy < 1152921504606846976:=λE=>by have:=az1 ts v.cy E;omega
  have b2:∀E,OU ts E v.cy < 1152921504606846976:=λE=>by have:=az0 ts v.cy E;omega
  have avT:¬x.Kind=5->¬x.Kind=6->(∀y,y∈v.cy->xJ ts false x.ev y)->(Qe (0,0,ts,v,x) >>=λo=>if decide (0 < (o.2.eI.length:Int))=true then some (e0 .i64 1 (Rz o.1 1))else some (e0 .i64 1 o.1))=some ((J0 ts (j:Int) v:Nat):Int):=by
   intro a b c;have vK:=aGC (ts:=ts) (x:=x) (v:=v) a b (λy bJ=>Rk y bJ _ (c y bJ)) ah v.cy.length 0 0 (by omega);rw[aJ a,aJ b]at QP;exact aqu vK (b1 _) QP
  rcases cJ with⟨k,hN,hR,px,xi,vy,MI⟩ | ⟨k,hN,hR,px,xi,vy,MI,Nj,Rb⟩ | ⟨k,hN,hR,px,xi,vy,MI,Nj⟩ | ⟨k,hN,hR,px,xi,vy,MI,Nj⟩ | ⟨k,hN,hR,px,xi,vy,MI,Nj⟩ | ⟨k,hN,hR,px,xi,vy⟩ | ⟨k,hN,hR,px,xi,vy,MI,Nj,Rb⟩ | ⟨k,hN,hR,px,xi,vy,MI,Nj,Rb,amf,aAZ⟩ | ⟨k,hN,hR,px,xi,vy,MI,Nj,Rb⟩ <;> rw[k]at g3
  . grind
  . grind
  . grind
  . grind
  . obtain⟨OK,am8⟩:=abc.1 Nj;have vK:=aHt (ts:=ts) (x:=x) (v:=v) g3.symm OK ay (λi V8=>Rk _ (j1 (by omega) eJ) _ (am8 i V8)) ah v.cy.length 0 0 (by omega);rw[ao g3.symm]at QP;exact aqu vK (b2 _) QP
  . rw[aJ (show ¬x.Kind=5 by omega),ao g3.symm]at QP;obtain⟨r,_,oJ,cJ⟩:=YA (t:=x) v.a8 hm;rcases afp cJ with⟨e,q,s4,qi,JY,Xs⟩ | ⟨e,JY⟩
    . rw[JY]at vy QP;simp only at vy QP;obtain⟨d1,d2,d3⟩:=vy;have ar:r=((q:Int),true):=by rw[<-qi,<-e]
      have vK:=aHu (ts:=ts) (x:=x) (v:=v) g3.symm s4 (by rw[oJ,ar]) (λy bJ=>Rk y bJ _ (Lc.1 d3 y bJ)) ah v.cy.length 0 0 (by omega);exact aqu vK (b1 _) QP
    . rw[JY]at vy QP;simp only at vy QP;have Ui:v.cy=[]:=vy.2.2.2.1;have vK:Qe (0,0,ts,v,x)=some (((max 0 0:Nat):Int),v):=by rw[Qe,aJ (by simp[Ui]),ak.h7];rfl
      exact aqu vK (by omega) QP
  . exact avT (by omega) (by omega) (Lc.1 Rb)
  . exact avT (by omega) (by omega) (Lc.1 amf)
  . exact avT (by omega) (by omega) (Lc.1 Rb)
set_option maxHeartbeats 400000 in
theorem aWd(H:UM ts){v:ak}(cv:qa v):wt v<=1099511627776->∀t,xJ ts false t v->WV ts v t:=by
 induction cv with
 | mk v hs h1 ah b' hk ay Um I0 D' Jm p' QU NH=>
  intro hw t cJ;have amR:qa v:= .mk v hs h1 ah b' hk ay Um I0 D' Jm p';have adF:=Qv v;have Rq:∀x,x∈v.cy->∀t,(n' ts t x).length<=23089744183296:=λx ad t=>aie H (ay x ad) (by have:=Qc ad;omega) t
  have ax5:∀x,x∈v.eI->∀t,(n' ts t x).length<=23089744183296:=λx ad t=>aie H (hk x ad) (by have:=Qc ad;omega) t
  have Rk:∀x,x∈v.cy->∀t,xJ ts false t x->WV ts x t:=λx ad t=>NH x ad (by have:=Qc ad;omega) t
  have axD:∀x,x∈v.eI->∀t,xJ ts false t x->WV ts x t:=λx ad t=>QU x ad (by have:=Qc ad;omega) t
  have abR:=aie H amR hw t;obtain⟨⟨g1,g2,g3,_⟩,cJ⟩:=(WN _ _ _).1 cJ;obtain⟨j,rfl⟩:∃j:Nat,t=(j:Int):=⟨t.toNat,by omega⟩
  have c7:j < ts.length:=by omega
  unfold WV;rw[WE,ao (gA c7)];simp only[g',cm,hJ,ak.h7]at cJ g3 ⊢;have OM:=j1 c7 hz;have X8:=@az2 ts (j:Int) v;have Y':=@az3 ts (j:Int) v;have anv:=@az4 ts (j:Int) v;have anw:=@az5 ts (j:Int) v;have age:=@az6 ts (j:Int) v;have anx:=@az7 ts (j:Int) v;have aiZ:=@az8 ts (j:Int) v
  have ai0:=@az9 ts (j:Int) v;have anz:=@az' ts (j:Int) v;simp only[hJ]at X8 Y' anv anw age anx aiZ ai0 anz;have vJ:=H.A _ OM;have dx:=H.S _ OM;have hm:=Jg (Qz (H.T _ OM).OP);generalize ts.getD j hz=x at*
  rcases cJ with⟨k,hN,hR,px,xi,vy,MI⟩ | ⟨k,hN,hR,px,xi,vy,MI,Nj,Rb⟩ | ⟨k,hN,hR,px,xi,vy,MI,Nj⟩ | ⟨k,hN,hR,px,xi,vy,MI,Nj⟩ | ⟨k,hN,hR,px,xi,vy,MI,Nj⟩ | ⟨k,hN,hR,px,xi,vy⟩ | ⟨k,hN,hR,px,xi,vy,MI,Nj,Rb⟩ | ⟨k,hN,hR,px,xi,vy,MI,Nj,Rb,amf,aAZ⟩ | ⟨k,hN,hR,px,xi,vy,MI,Nj,Rb⟩ <;> rw[k]at g3 <;> have hY:=g3.symm
  . grind
  . rw[aJ (by simp[hY]),ao (by simp[hY]),Y' hY,afv D'];simp only[cm];have ga:=aqD D';obtain⟨n,dy⟩:∃n:Nat,Po v.hX=(n:Int):=⟨(Po v.hX).toNat,by unfold Po;split <;> omega⟩
    rw[dy,aaj]at ga;rw[dy,aFI ga];rfl
  . rw[aJ (by simp[hY]),aJ (by simp[hY]),ao (by simp[hY]),anv hY]
  . rw[aJ (by simp[hY]),aJ (by simp[hY]),aJ (by simp[hY]),ao (by simp[hY]),anw hY]
    obtain⟨n,dy⟩:∃n:Nat,v.a8=(n:Int):=⟨v.a8.toNat,by
     rcases Nj with⟨y,bJ,he⟩ | ⟨_,_,he⟩
     . have:=dx hY y bJ;unfold qj at this;omega
     . unfold qj at he;omega⟩
    rw[dy,Q2 (by omega),aFI (by omega),aaj];rfl
  . rw[aJ (by simp[hY]),aJ (by simp[hY]),aJ (by simp[hY]),aJ (by simp[hY]),aJ (by simp[hY]),aJ (by simp[hY]),aJ (by simp[hY]),aJ (by simp[hY]),age hY];obtain⟨SQ,anh⟩:=vJ (.inl hY);obtain⟨OK,am8⟩:=abc.1 Nj;rw[age hY]at abR;have aKm:=aRN (apB (ts:=ts) (l:=v.cy) SQ MI) (λy bJ=>aDG SQ MI bJ)
    have u1:(λn=>(LE ts x.b8 v.cy v.Rest).filter λf=>decide (f.id=n))=amO ts x v:=rfl;rw[u1]at aKm;rw[aKm]at abR ⊢;have:=av4 (ts:=ts) hm SQ MI OK (λy bJ=>Um y bJ) b' ay Rq (λi V8=>Rk _ (j1 (by omega) eJ) _ (am8 i V8)) 1000 1 [] (by omega) (by omega) (by simp only[Qo];omega);have h0:Pi ([],1,ts,v,x)=_:=this
    rw[h0];rfl
  . rw[aJ (by simp[hY]),aJ (by simp[hY]),aJ (by simp[hY]),aJ (by simp[hY]),aJ (by simp[hY]),ao (by simp[hY]),anx hY];obtain⟨SQ,anh⟩:=vJ (.inr hY);obtain⟨r,_,oJ,cJ⟩:=YA (t:=x) v.a8 hm;rcases afp cJ with⟨e,q,s4,qi,JY,Xs⟩ | ⟨e,JY⟩
    . rw[JY]at vy;rw[JY];simp only at vy ⊢;obtain⟨d1,d2,d3⟩:=vy;have C2:=SQ.2 _ (j1 s4 ii);rw[Xs]at C2;obtain⟨n,dy⟩:∃n:Nat,v.a8=(n:Int):=⟨v.a8.toNat,by unfold qj at C2;omega⟩
      rw[aJ (by simp[d1]),oJ,dy,Q2 (by unfold qj at C2;omega),akt (by unfold qj at C2;omega)];simp only[cm];rw[qi,ao (gA s4)]
      match C2:v.cy,d2 with
      | [y],_=>
       have bJ:y∈v.cy:=by rw[C2];exact .head _
       have Ui:ez 0 ([y]:List ak).length=true:=gA (k:=0) (by simp);have cJ:=Lc.1 d3 y bJ;have v':=Rk y bJ _ cJ;unfold WV at v';rw[ao Ui];simp only[hJ,adR,Vj];rw[v'];have bo:=Rq y bJ (x.b8.getD q ii).e2;have ayi:=VO (n:=n) (by rw[dy]at Jm;omega);simp only[cm];rw[ao (P' (by omega))]
       have afR:ob ts (x.b8.getD q ii).e2 [y]=[n' ts (x.b8.getD q ii).e2 y]:=by rw[ob,ob]
       rw[afR];rfl
    . rw[JY]at vy;rw[JY];simp only at vy ⊢;obtain⟨d1,d2,d3,d4,d,d5⟩:=vy;obtain⟨n,dy⟩:∃n:Nat,v.a8=(n:Int):=⟨v.a8.toNat,by unfold qj at d3;omega⟩
      have afX:=Um ⟨v.a8,d⟩ (by rw[d5];exact .head _);simp only at afX;unfold reachBytes at afX;have ayi:=VO (n:=n) (by rw[dy]at Jm;omega);rw[d5,dy,ao (by simp),Q2 (by unfold qj at d3;omega),akt (by unfold qj at d3;omega)];simp only[cm];have Ui:ez 0 ([⟨(n:Int),d⟩]:List pI).length=true:=gA (k:=0) (by simp);rw[ao Ui]
      simp only[adR,Vj];rw[ao (P' (by omega))];rfl
  . rw[aJ (by simp[hY]),aJ (by simp[hY]),aJ (by simp[hY]),aJ (by simp[hY]),aJ (by simp[hY]),aJ (by simp[hY]),ao (by simp[hY])];have cJ:=Lc.1 Rb;rw[aiZ hY]at abR ⊢
    have:=aGB (ts:=ts) (x:=x) (v:=v) (λy bJ=>by have:=Rq y bJ x.ev;omega) (λy bJ=>Rk y bJ x.ev (cJ y bJ)) ah v.cy.length 0 [] (by omega) (by simp only[Ph,Qo];omega);have h0:aeP ([],0,ts,v,x)=_:=this;rw[h0];rfl
  . rw[aJ (by simp[hY]),aJ (by simp[hY]),aJ (by simp[hY]),aJ (by simp[hY]),aJ (by simp[hY]),aJ (by simp[hY]),aJ (by simp[hY]),ao (by simp[hY])];have cJ:=Lc.1 amf;have arK:=Lc.1 Rb;rw[ai0 hY]at abR ⊢
    have:=aHs (ts:=ts) (x:=x) (v:=v) Nj (λy bJ=>by have:=Rq y bJ x.ev;omega) (λy bJ=>by have:=ax5 y bJ x.Key;omega) (λy bJ=>Rk y bJ x.ev (cJ y bJ)) (λy bJ=>axD y bJ x.Key (arK y bJ)) ah v.cy.length 0 [] (by omega) (by simp only[Ph,Qo];omega);have h0:aeQ ([],0,ts,v,x)=_:=this;rw[h0];rfl
  . rw[aJ (by simp[hY]),aJ (by simp[hY]),aJ (by simp[hY]),aJ (by simp[hY]),ao (by simp[hY]),anz hY];have cJ:=Lc.1 Rb
    match C2:v.cy,Nj with
    | [],_=>rw[ao (by simp),ob]
    | [y],_=>
     have bJ:y∈v.cy:=by rw[C2];exact .head _
     have Ui:ez 0 ([y]:List ak).length=true:=gA (k:=0) (by simp);rw[aJ (by simp),ao Ui];have v':=Rk y bJ x.ev (cJ y bJ);unfold WV at v';simp only[adR,Vj];rw[v'];have bo:=Rq y bJ x.ev;simp only[cm];rw[ao (P' (by simp;omega))];have afR:ob ts x.ev [y]=[n' ts x.ev y]:=by rw[ob,ob]
     rw[afR];rfl
    | a::b::c,h=>simp at h
end
theorem xe.ace{α:Type}{o:Option Bool}{a b:α}(h:Lj o a b):xe o (a=b):=h
theorem auK{KY KZ JD:Option Bool}{apa apb apc:Prop}(h1:xe KY apa)(ah:xe KZ apb)(b':xe JD apc):
 xe (KY >>=λK1=>(if K1=true then KZ else some false) >>=λK3=>some (bif K1 then K3 else false) >>=λt53=>(if t53=true then JD else some false) >>=λOC=>some (bif t53 then OC else false)) (apa/\apb/\apc):=by
 obtain⟨a,rfl,h1⟩:=h1;obtain⟨b,rfl,ah⟩:=ah;obtain⟨c,rfl,b'⟩:=b';rw[<-h1,<-ah,<-b'];cases a <;> cases b <;> cases c <;> exact⟨_,rfl,by simp⟩
theorem aJp{o:Option Bool}{P:Prop}(h:xe o P):xe (o >>=λr=>some r) P:=by grind
def abm(union:Bool)(Ms:List li):Prop:=(∀m,m∈Ms->YQ union m=false)/\(union=false\/0 < Ms.length)/\Q5 Ms/\(∀m,m∈Ms->nm m.Name=true)/\(Ms.map (·.Name)).Nodup/\Ms.length<=16
def alE(S:List r'):Prop:=0 < S.length/\(S.Pairwise (λa b=>a.a8 < b.a8)/\∀y,y∈S->qj y.a8)/\(∀y,y∈S->nm y.Name=true)/\(S.map (·.Name)).Nodup/\S.length<=16
theorem aTf{l:List (List UInt8)}:l.Nodup↔∀i,i < l.length->(l.take i).contains (l.getD i [])=false:=by
 unfold List.Nodup;rw[adV];constructor
 . intro h i ay;apply ay5.2;intro b7;obtain⟨k,hk,he⟩:=(aaR (by omega)).1 b7
   grind
 . intro h k i Uj ay hk he;have:=h i ay;rw[ay5]at this;apply this;refine(aaR (by omega)).2 ⟨k,hk,?_⟩
   grind
theorem aHv{α:Type}(f:α->Int)(g:α->List UInt8)(d:α)(l:List α):(∀i,i < l.length->Vf (l.map f) (l.map g) i=true)↔(l.Pairwise (λa b=>f a < f b)/\∀x,x∈l->qj (f x))/\(∀x,x∈l->nm (g x)=true)/\(l.map g).Nodup:=by
 rw[aqs f d,aTf];have key:∀i,i < l.length->(Vf (l.map f) (l.map g) i=true↔qj (f (l.getD i d))/\(i=0\/f (l.getD (i - 1) d) < f (l.getD i d))/\nm (g (l.getD i d))=true/\((l.map g).take i).contains ((l.map g).getD i [])=false):=by
  intro i ay;unfold Vf qj
  grind
 constructor
 . intro h;refine⟨⟨λi ay=>?_,λx ad=>?_⟩,λx ad=>?_,λi ay=>?_⟩
   . grind
   . obtain⟨i,ay,rfl⟩:=OR ad
     grind
   . obtain⟨i,ay,rfl⟩:=OR ad
     grind
   grind
 . rintro ⟨⟨h1,ah⟩,b',ea⟩ i ay
   refine(key i ay).2 ⟨ah _ (j1 ay d),?_,b' _ (j1 ay d),ea i (by simpa using ay)⟩;by_cases h0:i=0
   . omega
   . right;have:=h1 (i - 1) (by omega);have e:i - 1+1=i:=by omega
     grind
theorem aFO{t:f7}(h:LY t):xe (aeE t) ((∀m,m∈t.b8->YQ (decide (t.Kind=6)) m=false)/\(t.Kind=5\/0 < t.b8.length)/\Q5 t.b8/\(∀m,m∈t.b8->nm m.Name=true)/\(t.b8.map (·.Name)).Nodup/\t.b8.length<=16):=by
 obtain⟨r,h1,ah⟩:=aEM h;refine⟨r,h1,ah.trans ?_⟩;rw[aHv (λm:li=>m.a8) (λm:li=>m.Name) ii];have e:(∀i,i < t.b8.length->YQ (decide (t.Kind=6)) (t.b8.getD i ii)=false)↔∀m,m∈t.b8->YQ (decide (t.Kind=6)) m=false:=by
  constructor
  . intro h m hm;obtain⟨i,ay,rfl⟩:=OR hm
    grind
  grind
 rw[e];unfold Q5
 grind
theorem aUc{l:List r'}(a6:l.length*24<=reachBytes):xe (ahf l) (alE l):=by
 obtain⟨r,h1,ah⟩:=aHl a6;refine⟨r,h1,ah.trans ?_⟩;rw[aHv (λm:r'=>m.a8) (λm:r'=>m.Name) I'];unfold alE
 grind
def NN(t:f7):Prop:=
 (t.Kind=1/\t.Name=[]/\t.hU=0/\t.hV=0/\t.Max=0/\t.hl=[]/\t.b8=[]/\t.Key=0/\t.ev=0/\t.Open=false)\/
 (t.Kind=2/\t.Name=[]/\t.hU<=t.hV/\t.Max=0/\t.hl=[]/\t.b8=[]/\t.Key=0/\t.ev=0/\t.Open=false)\/
 (t.Kind=3/\t.Name=[]/\t.hU=0/\t.hV=0/\(0<=t.Max/\t.Max<=200)/\t.hl=[]/\t.b8=[]/\t.Key=0/\t.ev=0/\t.Open=false)\/
 (t.Kind=4/\nm t.Name=true/\t.hU=0/\t.hV=0/\t.Max=0/\alE t.hl/\t.b8=[]/\t.Key=0/\t.ev=0)\/
 (t.Kind=5/\nm t.Name=true/\t.hU=0/\t.hV=0/\t.Max=0/\t.hl=[]/\abm false t.b8/\t.Key=0/\t.ev=0/\t.Open=false)\/
 (t.Kind=6/\nm t.Name=true/\t.hU=0/\t.hV=0/\t.Max=0/\t.hl=[]/\abm true t.b8/\t.Key=0/\t.ev=0)\/
 (t.Kind=7/\t.Name=[]/\t.hU=0/\t.hV=0/\(0<=t.Max/\t.Max<=50)/\t.hl=[]/\t.b8=[]/\t.Key=0/\t.Open=false)\/
 (t.Kind=8/\t.Name=[]/\t.hU=0/\t.hV=0/\(0<=t.Max/\t.Max<=50)/\t.hl=[]/\t.b8=[]/\t.Open=false)\/
 (t.Kind=9/\t.Name=[]/\t.hU=0/\t.hV=0/\t.Max=0/\t.hl=[]/\t.b8=[]/\t.Key=0/\t.Open=false)
theorem aUd{t:f7}(h:LY t):xe (N6 t) (NN t):=by
 have ga:LY (⟨0,[],0,0,0,[],[],0,0,false⟩:f7):=⟨by simp,by simp,by simp⟩
 obtain⟨Q4,N,L,H,M,S,Ms,K,E,O⟩:=t;have dx:=h.syms;have adt:=h.OP;have a7:=h.V1;simp only at dx adt a7;by_cases hg:Q4=1
 . subst hg;have a:=R9 (a:=(⟨0,N,L,H,M,S,Ms,K,E,O⟩:f7)) ⟨dx,adt,a7⟩ (⟨0,[],0,0,0,[],[],0,0,false⟩:f7);refine(aJp (xe.ace a)).imp ?_;unfold NN;simp
 by_cases hv:Q4=2
 . subst hv;have a:=R9 (a:=(⟨0,N,0,0,M,S,Ms,K,E,O⟩:f7)) ⟨dx,adt,a7⟩ (⟨0,[],0,0,0,[],[],0,0,false⟩:f7);refine(aih (q:=decide (L<=H)) (Q:=L<=H) (by simp) (xe.ace a)).imp (Q:=NN ⟨2,N,L,H,M,S,Ms,K,E,O⟩) ?_;unfold NN
   grind
 by_cases h3:Q4=3
 . subst h3;have a:=R9 (a:=(⟨0,N,L,H,0,S,Ms,K,E,O⟩:f7)) ⟨dx,adt,a7⟩ (⟨0,[],0,0,0,[],[],0,0,false⟩:f7);refine(aih (q:=bif decide (0<=M)then decide (M<=200)else false) (Q:=0<=M/\M<=200) (by by_cases g:0<=M <;> simp[g]) (xe.ace a)).imp (Q:=NN ⟨3,N,L,H,M,S,Ms,K,E,O⟩) ?_;unfold NN
   grind
 by_cases oo:Q4=4
 . subst oo;have a:=R9 (a:=(⟨0,[],L,H,M,[],Ms,K,E,false⟩:f7)) ⟨by simp,adt,a7⟩ (⟨0,[],0,0,0,[],[],0,0,false⟩:f7);refine(auK (⟨nm N,ago N,Iff.rfl⟩:xe (VL N) (nm N=true)) (aUc dx) (xe.ace a)).imp (Q:=NN ⟨4,N,L,H,M,S,Ms,K,E,O⟩) ?_;unfold NN
   grind
 by_cases u2:Q4=5
 . subst u2;have a:=R9 (a:=(⟨0,[],L,H,M,S,[],K,E,bif O then decide ((5:Int)=5)else false⟩:f7)) ⟨dx,by simp,by simp⟩ (⟨0,[],0,0,0,[],[],0,0,false⟩:f7);refine(auK (⟨nm N,ago N,Iff.rfl⟩:xe (VL N) (nm N=true)) (aFO h) (xe.ace a)).imp (Q:=NN ⟨5,N,L,H,M,S,Ms,K,E,O⟩) ?_;unfold NN abm
   grind
 by_cases s3:Q4=6
 . subst s3;have a:=R9 (a:=(⟨0,[],L,H,M,S,[],K,E,bif O then decide ((6:Int)=5)else false⟩:f7)) ⟨dx,by simp,by simp⟩ (⟨0,[],0,0,0,[],[],0,0,false⟩:f7);refine(auK (⟨nm N,ago N,Iff.rfl⟩:xe (VL N) (nm N=true)) (aFO h) (xe.ace a)).imp (Q:=NN ⟨6,N,L,H,M,S,Ms,K,E,O⟩) ?_;unfold NN abm
   grind
 by_cases Ns:Q4=7
 . subst Ns;have a:=R9 (a:=(⟨0,N,L,H,0,S,Ms,K,0,O⟩:f7)) ⟨dx,adt,a7⟩ (⟨0,[],0,0,0,[],[],0,0,false⟩:f7);refine(aih (q:=bif decide (0<=M)then decide (M<=50)else false) (Q:=0<=M/\M<=50) (by by_cases g:0<=M <;> simp[g]) (xe.ace a)).imp (Q:=NN ⟨7,N,L,H,M,S,Ms,K,E,O⟩) ?_;unfold NN
   grind
 by_cases NZ:Q4=8
 . subst NZ;have a:=R9 (a:=(⟨0,N,L,H,0,S,Ms,0,0,O⟩:f7)) ⟨dx,adt,a7⟩ (⟨0,[],0,0,0,[],[],0,0,false⟩:f7);refine(aih (q:=bif decide (0<=M)then decide (M<=50)else false) (Q:=0<=M/\M<=50) (by by_cases g:0<=M <;> simp[g]) (xe.ace a)).imp (Q:=NN ⟨8,N,L,H,M,S,Ms,K,E,O⟩) ?_;unfold NN
   grind
 by_cases Qn:Q4=9
 . subst Qn;have a:=R9 (a:=(⟨0,N,L,H,M,S,Ms,K,0,O⟩:f7)) ⟨dx,adt,a7⟩ (⟨0,[],0,0,0,[],[],0,0,false⟩:f7);refine(aJp (xe.ace a)).imp (Q:=NN ⟨9,N,L,H,M,S,Ms,K,E,O⟩) ?_;unfold NN;simp
 refine⟨false,by simp[N6,hg,hv,h3,oo,u2,s3,Ns,NZ,Qn],?_⟩;unfold NN
 grind
structure YI (ts:List f7):Prop where
 n:ts.length<=32
 F:∀t,t∈ts->NN t
 D:∀i,i < ts.length->(!(decide ((ts.getD i hz).Name=[])) && ((ts.map (·.Name)).take i).contains (ts.getD i hz).Name)=false
 U:∀t,t∈ts->∀u,u∈LL t->0<=u/\u < ts.length
 ajZ:∀t,t∈ts->t.Kind=8->1<=(ts.getD t.Key.toNat hz).Kind/\(ts.getD t.Key.toNat hz).Kind<=4
theorem aEl{ts:List f7}(vk:∀t,t∈ts -> LY t){i:Nat}(ay:i < ts.length):aeb ts i=none↔NN (ts.getD i hz) /\ (!(decide ((ts.getD i hz).Name=[])) && ((ts.map (·.Name)).take i).contains (ts.getD i hz).Name)=false /\ (∀u,u∈LL (ts.getD i hz) -> 0 <=u /\ u < ts.length) /\
 ((ts.getD i hz).Kind=8->1<=(ts.getD (ts.getD i hz).Key.toNat hz).Kind/\(ts.getD (ts.getD i hz).Key.toNat hz).Kind<=4):=by
 obtain⟨r,f1,f2⟩:=aUd (vk _ (j1 ay hz));rw[awk rfl f1,<-f2];have hu:(LL (ts.getD i hz)).any (Xr ts.length)=false↔∀u,u∈LL (ts.getD i hz)->0<=u/\u < ts.length:=by
  rw[ay4];constructor
  . intro h u hu;have:=h u hu;unfold Xr at this
    grind
  . intro h u hu;have:=h u hu;unfold Xr
    grind
 rw[<-hu];generalize (LL (ts.getD i hz)).any (Xr ts.length)=b;generalize (!(decide ((ts.getD i hz).Name=[])) && ((ts.map (·.Name)).take i).contains (ts.getD i hz).Name)=c
 have hk:(decide ((ts.getD i hz).Kind=8) && !(agm (ts.getD (ts.getD i hz).Key.toNat hz).Kind))=false↔((ts.getD i hz).Kind=8->1<=(ts.getD (ts.getD i hz).Key.toNat hz).Kind/\(ts.getD (ts.getD i hz).Key.toNat hz).Kind<=4):=by
  unfold agm
  grind
 rw[<-hk];generalize (decide ((ts.getD i hz).Kind=8) && !(agm (ts.getD (ts.getD i hz).Key.toNat hz).Kind))=d;cases r <;> cases b <;> cases c <;> cases d <;> simp
theorem aYs{ts:List f7}(vk:∀t,t∈ts->LY t)(aJz:ts.length<=32)(h:∀i,i < ts.length->aeb ts i=none):YI ts:=by
 have key:=λi ay=>(aEl vk (i:=i) ay).1 (h i ay)
 have lift:∀{P:f7->Prop},(∀i,i < ts.length->P (ts.getD i hz))->∀t,t∈ts->P t:=λbo t ht=>by
  obtain⟨i,ay,rfl⟩:=OR ht
  grind
 exact⟨aJz,lift λi ay=>(key i ay).1,λi ay=>(key i ay).2.1,lift λi ay=>(key i ay).2.2.1,lift λi ay=>(key i ay).2.2.2⟩
theorem aqU{ts:List f7}(vk:∀t,t∈ts->LY t)(h:YI ts):ahl (⟨ts⟩:hI)=some 0/\aha (⟨ts⟩:hI)=some 0:=by
 obtain⟨e,h1,ah,_,ea⟩:=aTI (s:=⟨ts⟩) (by have:=h.n;unfold reachBytes;show ts.length<=_;omega) vk;have u1:e=0:=ea ⟨h.n,λi ay=>(aEl vk ay).2 ⟨h.F _ (j1 ay hz),h.D i ay,h.U _ (j1 ay hz),h.ajZ _ (j1 ay hz)⟩⟩
 grind
theorem YI.aea{ts:List f7}(vk:∀t,t∈ts->LY t)(h:YI ts):UM ts:=by
 refine⟨by have:=h.n;omega,vk,λt ht=>?_,λt ht m hm=>?_,λt ht hk=>?_,λt ht hk y bJ=>?_,h.ajZ⟩
 . have:=h.F t ht;unfold NN at this;unfold abl;omega
 . have:=h.F t ht;unfold NN at this;have hG:t.b8≠[]:=by intro e;rw[e]at hm;cases hm
   have:abm false t.b8\/abm true t.b8:=by grind
   rcases this with a | a
   . exact(a.2.2.1.2 m hm).2
   . exact(a.2.2.1.2 m hm).2
 . have:=h.F t ht;unfold NN at this;have:abm false t.b8\/abm true t.b8:=by grind
   rcases this with a | a
   . exact⟨a.2.2.1,a.2.2.2.2.2⟩
   . exact⟨a.2.2.1,a.2.2.2.2.2⟩
 . have:=h.F t ht;unfold NN at this;have:alE t.hl:=by grind
   exact this.2.1.2 y bJ
def aYt(ts:List f7)(ms:List li):Prop:=∀m,m∈ms->m.nk=true->xJ ts true m.e2 m.j0
theorem a1p{t:eb}{x:t.den u0.D}(h:Ok u0 [t] x):∀d,d∈t.row u0 x->WF u0 d:=λd a7=>h ⟨t,x⟩ (ay2 ..) d a7
theorem aWe{ts:List f7}(H:UM ts){v:ak}(cv:qa v)(hw:wt v <=1099511627776){t:Int}(cJ:xJ ts false t v):
 WC (t,v,1,ts,0)=some (n' ts t v,ts,((J0 ts t v:Nat):Int)):=by
 have h:=aW0 H cv hw t cJ 1 0 (by omega) (by omega);have bo:=afg (ts:=ts) t v;have e:max 0 (1+J0 ts t v - 1)=J0 ts t v:=by omega
 rw[e]at h;exact h
noncomputable def V2 (ts:List f7) (t:Int) (v:ak):List UInt8×Int:=
 if 4096 < (n' ts t v).length\/200 < J0 ts t v then([],3)else(n' ts t v,0)
abbrev ME :=x0
abbrev J6 :=hE
abbrev aNs :=RZ
theorem ags{a:Int}(h:¬a=0):(!(decide (a=0)))=true:=by simp[h]
theorem OY{x m:Int}(h:0<=x)(hm:0<=m):kt x m=x % m:=by unfold kt;rw[Int.tmod_eq_emod_of_nonneg h]
theorem aYu{x:Int}(h:0<=x)(ah:x<=255):MV .u8 x 4=x / 4:=by
 unfold MV;rw[aoa h,IntKind.wrap_u8];omega
theorem WU{x:Int}(h:nc x):jJ .i64 x=x:=by
 unfold jJ nc at*;rw[IntKind.wrap_i64];omega
theorem axn{k:Int}(h:0<=k/\k<=25):YC (jJ .i32 (e0 .i64 97 k))=[UInt8.ofNat (97+k.toNat)]:=by
 have key:∀k:Nat,k < 26->YC (jJ .i32 (e0 .i64 97 (k:Int)))=[UInt8.ofNat (97+k)]:=by decide+kernel
 grind
theorem aYv{k:Int}(h:0<=k/\k<=25):YC (jJ .i32 (e0 .i64 65 k))=[UInt8.ofNat (65+k.toNat)]:=by
 have key:∀k:Nat,k < 26->YC (jJ .i32 (e0 .i64 65 (k:Int)))=[UInt8.ofNat (65+k)]:=by decide+kernel
 grind
theorem aEm{s:List UInt8}(h0:s≠[])(a6:s.length<=24)(h:∀i:Nat,i < s.length->YD (MD s i)=true):nm s=true:=by
 have key:∀k i:Nat,i+k=s.length->WH (s,(s.length:Int),(i:Int))=some (.inr ()):=by
  intro k
  induction k with
  | zero=>intro i ay;rw[WH,aJ (by simp;omega)]
  | succ k ih=>
   intro i ay;rw[WH,ao (by simp;omega),ao (gA (by omega)),aqS,h i (by omega)];simp only[g',cm,N2];rw[ao (by rw[gA (by omega)];rfl),j2 (by omega)];exact ih (i+1) (by omega)
 have Rt:0 < s.length:=agy.2 h0;have aYZ:=h 0 Rt;have yb:ez 0 s.length=true:=gA (k:=0) Rt;have ht:(bif decide (s=[])then true else decide (24 < (s.length:Int)))=false:=by grind
 have hk:WH (s,(s.length:Int),0)=some (.inr ()):=key s.length 0 (by omega);have aY0:YD (MD s 0)=true:=aYZ;unfold nm;rw[VL];simp only[g',cm];rw[ht,yb,aqS,aY0]
 grind
theorem aYw{c:Nat}(h:65<=c/\c<=90\/97<=c/\c<=122):nm [UInt8.ofNat c]=true:=by
 refine aEm (by simp) (by simp) λi ay=>?_
 have:i=0:=by simp at ay;omega
 subst this;have e:MD [UInt8.ofNat c] ((0:Nat):Int)=(c:Int):=by
  rw[acR];simp only[Vj];rw[WL (by omega)]
 rw[e];unfold YD;simp;omega
theorem aJq{b c:Nat}(al:97<=b/\b<=122)(h:97<=c/\c<=122):nm [UInt8.ofNat b,UInt8.ofNat c]=true:=by
 refine aEm (by simp) (by simp) λi ay=>?_
 have:i=0\/i=1:=by simp at ay;omega
 rcases this with rfl | rfl
 . rw[acR];simp only[Vj];rw[WL (by omega)];unfold YD;simp;omega
 . rw[acR];simp only[anX,Vj];rw[WL (by omega)];unfold YD;simp;omega
def u4(x:Int):Prop:=0<=x/\x<=255
structure Zv (x:ME):Prop where
 k:u4 x.Kind
 a:u4 x.A
 b:u4 x.B
 c:u4 x.C
 p:∀q,q∈x.r1->u4 q.a8/\u4 q.e2/\u4 q.OV
 l:x.r1.length<=reachBytes
def Jw(dJ:List ME)(i:Int):Int:=1+(dJ.getD i.toNat J6).Kind % 9
section
variable {dJ:List ME} (lo:∀x,x∈dJ->Zv x) (hf:dJ.length<=5)
include lo hf in
theorem adL{i:Int}(h0:0<=i)(h1:i < dJ.length):acF ((⟨dJ⟩:JA),i)=some (Jw dJ i)/\1<=Jw dJ i/\Jw dJ i<=9:=by
 obtain⟨j,rfl⟩:∃j:Nat,i=(j:Int):=⟨i.toNat,by omega⟩
 have ad:=(lo _ (j1 (by omega:j < dJ.length) J6)).k;unfold Jw;rw[hJ];obtain⟨a,b⟩:=ad;refine⟨?_,by omega,by omega⟩;rw[acF,ao (gA (by omega:j < dJ.length)),hJ,OY a (by omega),WU ⟨by omega,by omega⟩,UJ (by omega) (by omega)]
def atr(dJ:List ME)(i u:Int):Prop:=0<=u/\u < dJ.length/\(7<=Jw dJ u\/u < i)
include lo hf in
theorem aFP :∀(k i:Nat),i+k=dJ.length->Zz ((dJ.length:Int),(i:Int),dJ)=some (.inr ())\/∃u:Int,Zz ((dJ.length:Int),(i:Int),dJ)=some (.inl u)/\0<=u/\u < dJ.length/\7<=Jw dJ u
 | 0,i,ay=>.inl (by rw[Zz,aJ (by simp;omega)])
 | k+1,i,ay=>by
  obtain⟨e,_,_⟩:=adL lo hf (i:=(i:Int)) (by omega) (by omega);rw[Zz,ao (by simp;omega),e];simp only[g',cm,akb];by_cases M1:7<=Jw dJ i
  . grind
  . rw[aJ (by simpa using M1),j2 (by omega)];exact aFP k (i+1) (by omega)
include lo hf in
theorem go2(h1:1<=dJ.length){i code:Int}(ay:0<=i/\i < dJ.length)(b7:u4 code):∃u,akc ((⟨dJ⟩:JA),i,code)=some u/\(u < 0\/atr dJ i u):=by
 have hm:jJ .i64 code=code:=WU ⟨by unfold u4 at b7;omega,by unfold u4 at b7;omega⟩;obtain⟨hN,hR⟩:=b7;have Y8:0<=code % (dJ.length:Int):=Ye _ (by omega);have Ru:code % (dJ.length:Int) < dJ.length:=Yc _ (by omega);rw[akc];simp only[g',cm];rw[ao (ags (by omega)),hm,OY hN (by omega)]
 obtain⟨e,_,_⟩:=adL lo hf Y8 Ru;rw[e];simp only[cm,akb];by_cases M1:7<=Jw dJ (code % (dJ.length:Int))
 . rw[ao (by simp[M1])];exact⟨_,rfl,.inr ⟨Y8,Ru,.inl M1⟩⟩
 . by_cases ec:code % (dJ.length:Int) < i
   . rw[ao (by simp[ec])];exact⟨_,rfl,.inr ⟨Y8,Ru,.inr ec⟩⟩
   . rw[aJ (by simp[M1,ec])];by_cases bo:0 < i
     . rw[ao (by simpa using bo),ao (by simp;omega),OY Y8 (by omega)];have a0:0<=code % (dJ.length:Int) % i:=Ye _ (by omega);have a1:code % (dJ.length:Int) % i < i:=Yc _ (by omega);exact⟨_,rfl,.inr ⟨a0,by omega,.inr a1⟩⟩
     . rw[aJ (by simpa using bo)];have h0:=aFP lo hf dJ.length 0 (by omega);have u1:Zz ((dJ.length:Int),((0:Nat):Int),dJ)=Zz ((dJ.length:Int),0,dJ):=rfl;rw[u1]at h0;rcases h0 with h | ⟨u,h,a,b,c⟩
       . grind
       . rw[h];exact⟨u,rfl,.inr ⟨a,b,.inl c⟩⟩
def aaA(dJ:List ME)(u:Int):Prop:=0<=u/\u < dJ.length/\1<=Jw dJ u/\Jw dJ u<=4
include lo hf in
theorem aJr{code:Int}(b7:u4 code)(h1:1<=dJ.length):∀(k i:Nat),i+k=dJ.length->(ZD (code,(dJ.length:Int),(i:Int),dJ)=some (.inr ())/\∀m:Nat,i<=m->m < dJ.length->¬aaA dJ ((code+m) % (dJ.length:Int)))\/∃u:Int,ZD (code,(dJ.length:Int),(i:Int),dJ)=some (.inl u)/\aaA dJ u
 | 0,i,ay=>.inl ⟨by rw[ZD,aJ (by simp;omega)],λm a b=>by omega⟩
 | k+1,i,ay=>by
  obtain⟨hN,hR⟩:=b7;have Y8:0<=(code+i) % (dJ.length:Int):=Ye _ (by omega);have Ru:(code+i) % (dJ.length:Int) < dJ.length:=Yc _ (by omega);obtain⟨e,eh,arq⟩:=adL lo hf Y8 Ru;rw[ZD,ao (by simp;omega),ao (ags (by omega)),WU ⟨by omega,by omega⟩,UJ (by omega) (by omega),OY (by omega) (by omega)]
  simp only[g',cm];rw[e];simp only[cm,ako];by_cases ea:Jw dJ ((code+i) % (dJ.length:Int))<=4
  . rw[ao (by simp[eh,ea])];exact .inr ⟨_,rfl,Y8,Ru,eh,ea⟩
  . rw[aJ (by simp[ea]),j2 (by omega)];rcases aJr ⟨hN,hR⟩ h1 k (i+1) (by omega)with⟨a,b⟩ | h
    . refine .inl ⟨a,λm aaa ax7=>?_⟩;by_cases hm:m=i
      . subst hm;rintro ⟨_,_,_,h⟩;exact ea h
      grind
    grind
include lo hf in
theorem aJs{code:Int}(b7:u4 code)(h1:1<=dJ.length):∃u,aeD ((⟨dJ⟩:JA),code)=some u/\((u= -1/\∀w,¬aaA dJ w)\/aaA dJ u):=by
 rw[aeD];have h0:=aJr lo hf b7 h1 dJ.length 0 (by omega);have u1:ZD (code,(dJ.length:Int),((0:Nat):Int),dJ)=ZD (code,(dJ.length:Int),0,dJ):=rfl;rw[u1]at h0;rcases h0 with⟨h,a⟩ | ⟨u,h,a⟩
 . rw[h];refine⟨-1,rfl,.inl ⟨rfl,λw hw=>?_⟩⟩;have anC:=hw;obtain⟨TP,RO,_⟩:=anC;have Y8:0<=(w - code) % (dJ.length:Int):=Ye _ (by omega);have Ru:(w - code) % (dJ.length:Int) < dJ.length:=Yc _ (by omega);refine a ((w - code) % (dJ.length:Int)).toNat (by omega) (by omega) ?_
   have e:(code+(((w - code) % (dJ.length:Int)).toNat:Int)) % (dJ.length:Int)=w:=by
    rw[anY Y8,Int.add_emod_emod];have:code+(w - code)=w:=by omega
    rw[this];exact Int.emod_eq_of_lt TP RO
   grind
 grind
theorem axo{x:ME}(h:Zv x):aaN x=some (x.A % 7 - 3):=by
 have:=h.a;unfold u4 at this;rw[aaN,OY this.1 (by omega),WU ⟨by omega,by omega⟩,Q7 (by omega) (by omega)]
theorem aHw{x:ME}(h:Zv x):aex x=some (x.A % 7 - 3+x.B % 6):=by
 have ch:=h.a;have al:=h.b;unfold u4 at ch al;rw[aex,axo h];simp only[g',cm];rw[OY al.1 (by omega),WU ⟨by omega,by omega⟩,UJ (by omega) (by omega)]
def agX(l:List Int)(n:Int):Prop:=l.Pairwise (· < ·)/\∀x,x∈l->1<=x/\x<=n
theorem axp{x:ME}:∀(k i:Nat) (acc:List Int),i+k=6->agX acc i->acc.length<=i->∃l,aa' ((i:Int),x,acc)=some l/\agX l 6/\l.length<=6
 | 0,i,acc,ay,ch,a6=>⟨acc,by rw[aa',aJ (by simp;omega)],⟨ch.1,λy bJ=>by have:=ch.2 y bJ;omega⟩,by omega⟩
 | k+1,i,acc,ay,ch,a6=>by
  have aZj:agX acc ((i+1:Nat):Int):=⟨ch.1,λy bJ=>by have:=ch.2 y bJ;omega⟩
  rw[aa',ao (by simp;omega),ao (by simp)];simp only[g',cm];rw[j2 (by omega)];split
  . rw[ao (CJ (by omega) (by simp;omega))];refine axp k (i+1) _ (by omega) ⟨?_,λy bJ=>?_⟩ (by simp;omega)
    . rw[ay0];refine⟨ch.1,by simp,λa h1 b ah=>?_⟩;have:=ch.2 a h1
      grind
    . rcases Nw.1 bJ with h | h
      . have:=ch.2 y h;omega
      grind
  . exact axp k (i+1) acc (by omega) aZj (by omega)
theorem aXZ(x:ME):∃l,ZF x=some l/\agX l 6/\1<=l.length/\l.length<=6:=by
 obtain⟨l,h1,ah,b'⟩:=axp (x:=x) 6 0 [] (by omega) ⟨.nil,λy bJ=>by cases bJ⟩ (by simp);have KR:aa' (0,x,[])=some l:=h1;rw[ZF,KR];simp only[g',cm];cases l with
 | nil=>
  rw[ao (by simp),ao (CJ (by omega) (by simp))];exact⟨_,rfl,⟨by simp,λy bJ=>by simp at bJ;omega⟩,by simp,by simp⟩
 | cons a l=>grind
def Vg(x:ME):List Int:=(ZF x).getD []
theorem ai9(x:ME):ZF x=some (Vg x)/\agX (Vg x) 6/\1<=(Vg x).length/\(Vg x).length<=6:=by
 obtain⟨l,h1,ah⟩:=aXZ x;unfold Vg
 grind
def Yq(k:Int)(x:ME)(key:Prop)(v:ak):Prop:=
 v.eI=[]/\v.cy=[]/\v.Rest=[]/\
 (k=1/\v.Kind=1/\v.hX=0/\v.js=[]/\v.a8=0\/
  k=2/\v.Kind=2/\v.oi=false/\v.js=[]/\v.a8=0/\x.A % 7 - 3<=v.hX/\v.hX<=x.A % 7 - 3+x.B % 6\/
  k=3/\v.Kind=3/\v.oi=false/\v.hX=0/\v.a8=0/\(v.js.length:Int)<=x.A % 4\/
  k=4/\v.Kind=4/\v.oi=false/\v.hX=0/\v.js=[]/\v.a8∈Vg x\/
  7<=k/\v.oi=false/\v.hX=0/\v.js=[]/\v.a8=0/\(v.Kind=k/\(k=8->key)\/k=8/\v.Kind=7/\¬key))
def Init(dJ:List ME)(t:Int)(v:ak):Prop:=Yq (Jw dJ t) (dJ.getD t.toNat J6) (∃w,aaA dJ w) v
include lo hf in
theorem aTg(h1:1<=dJ.length){t code:Int}(ht:0<=t/\t < dJ.length)(b7:u4 code):∃r,aj8 ((⟨dJ⟩:JA),t,code)=some r/\(r.2=false->r.1=eJ)/\(r.2=true->Init dJ t r.1):=by
 obtain⟨j,rfl⟩:∃j:Nat,t=(j:Int):=⟨t.toNat,by omega⟩
 have c7:j < dJ.length:=by omega
 have ad:=lo _ (j1 c7 J6);obtain⟨e,hg,Qn⟩:=adL lo hf ht.1 ht.2;obtain⟨u,hu,aKw⟩:=aJs lo hf (code:=0) ⟨by omega,by omega⟩ h1;obtain⟨hN,hR⟩:=b7;rw[aj8,ao (gA c7)];simp only[g',cm,hJ];rw[e];simp only[cm];unfold Init;simp only[hJ];have aJY:=ai9 (dJ.getD j J6);generalize Jw dJ (j:Int)=k at*
 generalize dJ.getD j J6=x at*;have ch:=ad.a;have al:=ad.b;unfold u4 at ch al;have axO:k=1\/k=2\/k=3\/k=4\/k=5\/k=6\/k=7\/k=8\/k=9:=by omega
 rcases axO with rfl | rfl | rfl | rfl | rfl | rfl | rfl | rfl | rfl
 . exact⟨_,rfl,λh=>(by cases h),λ_=>by unfold Yq;simp⟩
 . have el:=axo ad;have avU:=aHw ad;have eh:e0 .i64 (BJ .i64 (x.A % 7 - 3+x.B % 6) (x.A % 7 - 3)) 1=x.B % 6+1:=by rw[Q7 (by omega) (by omega),UJ (by omega) (by omega)];omega
   have hj:kt (jJ .i64 code) (x.B % 6+1)=code % (x.B % 6+1):=by rw[WU ⟨by omega,by omega⟩,OY hN (by omega)]
   have aca:0<=code % (x.B % 6+1):=Ye _ (by omega);have kJ:code % (x.B % 6+1) < x.B % 6+1:=Yc _ (by omega);have I2:e0 .i64 (x.A % 7 - 3) (code % (x.B % 6+1))=x.A % 7 - 3+code % (x.B % 6+1):=UJ (by omega) (by omega)
   simp only[Int.reduceEq,LV,M6,q2,uJ,qb,cm,OB,RG];rw[el];simp only[g',cm];rw[avU];simp only[cm];rw[eh,ao (by simp;omega),hj,I2];exact⟨_,rfl,λh=>(by cases h),λ_=>by unfold Yq;simp;omega⟩
 . simp only[Int.reduceEq,LV,M6,q2,uJ,qb,cm,OB,RG];rw[OY ch.1 (by omega),OY hN (by omega)];by_cases g:0 < x.A % 4
   . by_cases g2:code % 2=1
     . rw[ao (by simp[g,g2])];exact⟨_,rfl,λh=>(by cases h),λ_=>by unfold Yq;simp;omega⟩
     . rw[aJ (by simp[g2])];exact⟨_,rfl,λh=>(by cases h),λ_=>by unfold Yq;simp;omega⟩
   . rw[aJ (by simp[g])];exact⟨_,rfl,λh=>(by cases h),λ_=>by unfold Yq;simp;omega⟩
 . obtain⟨i1,i2,i3,i4⟩:=aJY;simp only[Int.reduceEq,LV,M6,q2,uJ,qb,cm,OB,RG];rw[i1];simp only[g',cm];have aca:0<=code % ((Vg x).length:Int):=Ye _ (by omega)
   have kJ:code % ((Vg x).length:Int) < ((Vg x).length:Int):=Yc _ (by omega);rw[ao (ags (by omega)),WU ⟨by omega,by omega⟩,OY hN (by omega)];obtain⟨q,eg⟩:∃q:Nat,code % ((Vg x).length:Int)=(q:Int):=⟨(code % ((Vg x).length:Int)).toNat,by omega⟩
   rw[eg,ao (gA (by omega)),hJ];exact⟨_,rfl,λh=>(by cases h),λ_=>by unfold Yq;simp;rw[<-List.getD_eq_getElem?_getD];exact j1 (by omega) 0⟩
 . exact⟨_,rfl,λ_=>rfl,λh=>by cases h⟩
 . exact⟨_,rfl,λ_=>rfl,λh=>by cases h⟩
 . exact⟨_,rfl,λh=>(by cases h),λ_=>by unfold Yq;simp⟩
 . simp only[Int.reduceEq,LV,M6,q2,uJ,qb,cm,OB,RG];rw[hu];rcases aKw with⟨rfl,a⟩ | a
   . exact⟨_,rfl,λh=>(by cases h),λ_=>by unfold Yq;simp;exactλw hw=>a w hw⟩
   . have aZS:¬u < 0:=by have:=a.1;omega
     simp only[g',cm];rw[aJ (by simp[aZS])];exact⟨_,rfl,λh=>(by cases h),λ_=>by unfold Yq;simp;exact⟨u,a⟩⟩
 . exact⟨_,rfl,λh=>(by cases h),λ_=>by unfold Yq;simp⟩
end
section
variable {dJ:List ME} (lo:∀x,x∈dJ->Zv x) (hf:dJ.length<=5)
structure agZ (dJ:List ME) (i:Int) (record:Bool) (m:li):Prop where
 id:1<=m.a8/\m.a8<=12
 name:m.Name=[UInt8.ofNat 109,UInt8.ofNat (97+m.a8.toNat)]
 aef:atr dJ i m.e2
 ND:m.sJ=true->m.nk=false
 un:record=false->m.sJ=false/\m.nk=false
 aKY:m.nk=false->m.j0=eJ
 U3:m.nk=true->Init dJ m.e2 m.j0
include lo hf in
theorem aGD(h1:1 <=dJ.length){i:Int}(ay:0 <=i /\ i < dJ.length){x:ME}(ad:Zv x)(record:Bool){id:Int}(Lx:1 <=id /\ id <=12){acc:List li}(ch:acc.length <=12):
 ∀(k j:Nat),j+k=x.r1.length->∃l,ac4 (i,record,id,(j:Int),dJ,x,acc)=some (i,record,id,dJ,x,acc++l)/\l.length<=1/\∀m,m∈l->m.a8=id/\agZ dJ i record m
 | 0,j,c7=>⟨[],by rw[ac4,aJ (by simp;omega)];simp,by simp,λm hm=>by cases hm⟩
 | k+1,j,c7=>by
  have ec:j < x.r1.length:=by omega
  have ar:=Jg ad.l;obtain⟨s4,qi,JY⟩:=ad.p _ (j1 ec aNs);obtain⟨u,hu,aKw⟩:=go2 lo hf h1 ay qi;rw[ac4,ao (by simp;omega),ao (gA ec)];simp only[g',cm,hJ];have anu:akc ((⟨dJ⟩:JA),i,(x.r1.getD j RZ).e2)=some u:=hu;rw[anu];simp only[cm];generalize bo:x.r1.getD j RZ=p
  have a38:u4 p.a8:=by rw[<-bo];exact s4
  have a1A:u4 p.OV:=by rw[<-bo];exact JY
  obtain⟨f1,f2⟩:=a1A;have eh:kt p.OV 4=p.OV % 4:=OY f1 (by omega);have hj:MV .u8 p.OV 4=p.OV / 4:=aYu f1 f2;have a1N:=aGD h1 ay ad record Lx ch k (j+1) (by omega);by_cases aKo:(bif (!(decide (e0 .i64 1 (jJ .i64 (kt p.a8 12))=id)))then true else decide (u < 0))=true
  . rw[ao aKo,j2 (by omega)];exact a1N
  . rw[aJ aKo];have agd:atr dJ i u:=by grind
    have anq:=axn (k:=id) ⟨by omega,by omega⟩;rw[anq];have ayd:([109]++[UInt8.ofNat (97+id.toNat)]:List UInt8)=[UInt8.ofNat 109,UInt8.ofNat (97+id.toNat)]:=rfl;rw[ao (P' (by simp)),ayd,eh,hj];obtain⟨r,kJ,oJ,aom⟩:=aTg lo hf h1 ⟨agd.1,agd.2.1⟩ (code:=p.OV / 4) ⟨by omega,by omega⟩
    have MN:∀m:li,room 160 (acc++[m]).length=true:=λm=>CJ (by omega) (by simp;omega)
    have done:∀m:li,m.a8=id->agZ dJ i record m->∃l,(some (i,record,id,dJ,x,acc++[m]):Option (Int×Bool×Int×List ME×ME×List li))=some (i,record,id,dJ,x,acc++l)/\l.length<=1/\∀m,m∈l->m.a8=id/\agZ dJ i record m:=λm a b=>⟨[m],rfl,by simp,λy bJ=>by grind⟩
    cases record with
    | false=>
     simp only[OB,q2,uJ];rw[ao (MN _)];exact done _ rfl ⟨Lx,rfl,agd,λh=>(by cases h),λ_=>⟨rfl,rfl⟩,λ_=>rfl,λh=>by cases h⟩
    | true=>
     simp only[RG];by_cases g1:p.OV % 4=1
     . rw[ao (by simpa using g1),aJ (by simp;omega),ao (MN _)];exact done _ rfl ⟨Lx,rfl,agd,λ_=>rfl,λh=>(by cases h),λ_=>rfl,λh=>by cases h⟩
     . rw[aJ (by simpa using g1)];by_cases g2:2<=p.OV % 4
       . rw[ao (by simpa using g2),kJ];simp only[cm,ak.h7];rw[ao (MN _)];exact done _ rfl ⟨Lx,rfl,agd,λh=>(by cases h),λh=>(by cases h),oJ,aom⟩
       . rw[aJ (by simpa using g2),ao (MN _)];exact done _ rfl ⟨Lx,rfl,agd,λh=>(by cases h),λh=>(by cases h),λ_=>rfl,λh=>by cases h⟩
def ag0(dJ:List ME)(i:Int)(record:Bool)(l:List li):Prop:=l.Pairwise (λa b=>a.a8 < b.a8)/\(∀m,m∈l->agZ dJ i record m)/\l.length<=12
include lo hf in
theorem aGE(h1:1 <=dJ.length){i:Int}(ay:0 <=i /\ i < dJ.length){x:ME}(ad:Zv x)(record:Bool):∀(k id:Nat) (acc:List li),id+k=13 -> 1 <=id ->
 acc.Pairwise (λa b=>a.a8 < b.a8)->(∀m,m∈acc->agZ dJ i record m/\m.a8 < id)->acc.length < id->∃l,acy (i,record,(id:Int),dJ,x,acc)=some l/\ag0 dJ i record l
 | 0,id,acc,hk,h0,ch,al,a6=>⟨acc,by rw[acy,aJ (by simp;omega)],ch,λm hm=>(al m hm).1,by omega⟩
 | k+1,id,acc,hk,h0,ch,al,a6=>by
  rw[acy,ao (by simp;omega)];obtain⟨l,M5,l2,agn⟩:=aGD lo hf h1 ay ad record (id:=(id:Int)) ⟨by omega,by omega⟩ (acc:=acc) (by omega) x.r1.length 0 (by omega);have ar':ac4 (i,record,(id:Int),0,dJ,x,acc)=_:=M5;rw[ar'];simp only[g',cm];rw[j2 (by omega)]
  refine aGE h1 ay ad record k (id+1) _ (by omega) (by omega) ?_ (λm hm=>?_) (by simp;omega)
  . rw[ay0];refine⟨ch,?_,λa ah b b'=>?_⟩
    . match l,l2 with
      | [],_=>exact .nil
      | [a],_=>simp
      | a::b::c,h=>simp at h
    grind
  grind
include lo hf in
theorem aGF(h1:1<=dJ.length){i:Int}(ay:0<=i/\i < dJ.length)(record:Bool):∃l,aew ((⟨dJ⟩:JA),i,record)=some l/\ag0 dJ i record l:=by
 obtain⟨j,rfl⟩:∃j:Nat,i=(j:Int):=⟨i.toNat,by omega⟩
 have c7:j < dJ.length:=by omega
 have ad:=lo _ (j1 c7 J6);obtain⟨l,M5,l2⟩:=aGE lo hf h1 ay ad record 12 1 [] (by omega) (by omega) .nil (λm hm=>by cases hm) (by simp);refine⟨l,?_,l2⟩;have ar':acy ((j:Int),record,1,dJ,dJ.getD j J6,[])=some l:=M5;rw[aew,ao (gA c7),hJ]
 grind
def acf(l:List Int):List r':=l.map λj=>⟨j,[UInt8.ofNat 115,UInt8.ofNat (97+j.toNat)]⟩
theorem aHx{l:List Int}(a6:l.length <=6)(ar:∀x,x∈l -> 1 <=x /\ x <=6)(n i:Int)(b:List ME)(b1:Int)(b2:List UInt8)(k9 Oo N8 T9 abq:Int)(afz:Bool)(auO:List f7):∀(k j:Nat) (acc:List r'),j+k=l.length -> acc.length <=j ->
 aa9 (n,i,l,(j:Int),b,b1,b2,k9,Oo,N8,T9,abq,afz,auO,acc)=some (n,i,b,b1,b2,k9,Oo,N8,T9,abq,afz,auO,acc++acf (l.drop j))
 | 0,j,acc,c7,ch=>by
  rw[aa9,aJ (by simp;omega),MR (by omega:l.length<=j)];simp[acf]
 | k+1,j,acc,c7,ch=>by
  have ec:j < l.length:=by omega
  have ad:=ar _ (j1 ec 0);rw[aa9,ao (by simp;omega),ao (gA ec),ao (gA ec)];simp only[g',cm,hJ];rw[axn ⟨by omega,by omega⟩,ao (P' (by simp)),ao (CJ (by omega) (by simp;omega)),j2 (by omega),aHx a6 ar n i b b1 b2 k9 Oo N8 T9 abq afz auO k (j+1) _ (by omega) (by simp;omega),NP ec 0];simp[acf]
def LZ(dJ:List ME)(i:Int)(t:f7):Prop:=
 let x:=dJ.getD i.toNat J6
 let n:=(dJ.length:Int)
 let asc:=[UInt8.ofNat (65+i.toNat)]
 (Jw dJ i=1/\t=⟨1,[],0,0,0,[],[],0,0,false⟩)\/
 (Jw dJ i=2/\t=⟨2,[],x.A % 7 - 3,x.A % 7 - 3+x.B % 6,0,[],[],0,0,false⟩)\/
 (Jw dJ i=3/\t=⟨3,[],0,0,x.A % 4,[],[],0,0,false⟩)\/
 (Jw dJ i=4/\∃o,t=⟨4,asc,0,0,0,acf (Vg x),[],0,0,o⟩)\/
 (Jw dJ i=5/\∃l,ag0 dJ i true l/\t=⟨5,asc,0,0,0,[],l,0,0,false⟩)\/
 (Jw dJ i=6/\t=⟨5,asc,0,0,0,[],[],0,0,false⟩)\/
 (Jw dJ i=6/\∃l o,ag0 dJ i false l/\0 < l.length/\t=⟨6,asc,0,0,0,[],l,0,0,o⟩)\/
 (Jw dJ i=7/\t=⟨7,[],0,0,x.A % 4,[],[],0,x.C % n,false⟩)\/
 (Jw dJ i=8/\(∀w,¬aaA dJ w)/\t=⟨7,[],0,0,x.A % 4,[],[],0,x.C % n,false⟩)\/
 (Jw dJ i=8/\∃k,aaA dJ k/\t=⟨8,[],0,0,x.A % 4,[],[],k,x.C % n,false⟩)\/
 (Jw dJ i=9/\t=⟨9,[],0,0,0,[],[],0,x.C % n,false⟩)
include lo hf in
theorem aK3(h1:1 <=dJ.length):∀(k i:Nat) (acc:List f7),i+k=dJ.length -> acc.length=i -> (∀j,j < i -> LZ dJ (j:Int) (acc.getD j hz)) ->
 ∃l,Na ((dJ.length:Int),(i:Int),dJ,acc)=some l/\l.length=dJ.length/\∀j,j < dJ.length->LZ dJ (j:Int) (l.getD j hz)
 | 0,i,acc,ay,a6,ch=>⟨acc,by rw[Na,aJ (by simp;omega)],by omega,λj c7=>ch j (by omega)⟩
 | k+1,i,acc,ay,a6,ch=>by
  have ec:i < dJ.length:=by omega
  have ad:=lo _ (j1 ec J6);obtain⟨e,hg,Qn⟩:=adL lo hf (i:=(i:Int)) (by omega) (by omega);have next:∀t:f7,LZ dJ (i:Int) t->∃l,(if room 120 (acc++[t]).length=true then Na ((dJ.length:Int),e0 .i64 (i:Int) 1,dJ,acc++[t])else none)=some l/\l.length=dJ.length/\∀j,j < dJ.length->LZ dJ (j:Int) (l.getD j hz):=by
   intro t ht;rw[ao (CJ (by omega) (by simp;omega)),j2 (by omega)];refine aK3 h1 k (i+1) _ (by omega) (by simp;omega) λj c7=>?_
   grind
  rw[Na,ao (by simp;omega),ao (gA ec)];simp only[g',cm,hJ];rw[e];simp only[cm,UG];have anq:=aYv (k:=(i:Int)) ⟨by omega,by omega⟩;have vk:∀t,LZ dJ (i:Int) t->LZ dJ (i:Int) t:=λt h=>h
  have⟨aCJ,aOW,gc⟩:u4 (dJ.getD i J6).A/\u4 (dJ.getD i J6).B/\u4 (dJ.getD i J6).C:=⟨ad.a,ad.b,ad.c⟩
  have g0:(!(decide ((dJ.length:Int)=0)))=true:=ags (by omega);have avZ:jJ .i64 (kt (dJ.getD i J6).A 4)=(dJ.getD i J6).A % 4:=by
   unfold u4 at aCJ;rw[OY aCJ.1 (by omega),WU ⟨by omega,by omega⟩]
  have av0:kt (jJ .i64 (dJ.getD i J6).C) (dJ.length:Int)=(dJ.getD i J6).C % (dJ.length:Int):=by
   unfold u4 at gc;rw[WU ⟨by omega,by omega⟩,OY gc.1 (by omega)]
  have axO:Jw dJ (i:Int)=1\/Jw dJ (i:Int)=2\/Jw dJ (i:Int)=3\/Jw dJ (i:Int)=4\/Jw dJ (i:Int)=5\/Jw dJ (i:Int)=6\/Jw dJ (i:Int)=7\/Jw dJ (i:Int)=8\/Jw dJ (i:Int)=9:=by omega
  rcases axO with hk | hk | hk | hk | hk | hk | hk | hk | hk <;> rw[hk] <;>
   simp only[Int.reduceEq,LV,M6,q2,uJ,qb,cm,OB,RG]
  . exact next _ (by unfold LZ;simp[hk])
  . have el:=axo ad;have avU:=aHw ad;have aOH:aaN (dJ.getD i hE)=_:=el;have aOE:aex (dJ.getD i hE)=_:=avU;rw[aOH];simp only[cm];rw[aOE];simp only[cm];exact next _ (by unfold LZ;simp only[hJ];exact .inr (.inl ⟨hk,by first | trivial | rfl⟩))
  . have amM:jJ .i64 (kt (dJ.getD i hE).A 4)=_:=avZ;rw[amM];exact next _ (by unfold LZ;simp only[hJ];exact .inr (.inr (.inl ⟨hk,by first | trivial | rfl⟩)))
  . obtain⟨i1,i2,i3,i4⟩:=ai9 (dJ.getD i J6);have a0O:ZF (dJ.getD i hE)=_:=i1;rw[a0O];simp only[cm];have hs:=aHx (l:=Vg (dJ.getD i J6)) i4 i2.2 (dJ.length:Int) (i:Int) dJ 4 (YC (jJ .i32 (e0 .i64 65 (i:Int)))) 0 0 0 0 0 (decide (kt (dJ.getD i J6).B 2=1)) acc (Vg (dJ.getD i J6)).length 0 [] (by omega) (by simp)
    have Ve:aa9 ((dJ.length:Int),(i:Int),Vg (dJ.getD i J6),0,dJ,4,YC (jJ .i32 (e0 .i64 65 (i:Int))),0,0,0,0,0,decide (kt (dJ.getD i hE).B 2=1),acc,[])=_:=hs;rw[Ve];simp only[cm,Ph,PX];rw[anq];exact next _ (by unfold LZ;simp only[hJ];exact .inr (.inr (.inr (.inl ⟨hk,_,rfl⟩))))
  . obtain⟨l,M5,l2⟩:=aGF lo hf h1 (i:=(i:Int)) ⟨by omega,by omega⟩ true;rw[M5];simp only[cm];rw[anq];exact next _ (by unfold LZ;simp only[hJ];exact .inr (.inr (.inr (.inr (.inl ⟨hk,l,l2,rfl⟩)))))
  . obtain⟨l,M5,l2⟩:=aGF lo hf h1 (i:=(i:Int)) ⟨by omega,by omega⟩ false;rw[M5];simp only[cm];rw[anq];by_cases h0:l.length=0
    . rw[ao (by simp[h0])];exact next _ (by unfold LZ;simp only[hJ];exact .inr (.inr (.inr (.inr (.inr (.inl ⟨hk,by first | trivial | rfl⟩))))))
    . rw[aJ (by simp;intro h;rw[h]at h0;simp at h0)];exact next _ (by unfold LZ;simp only[hJ];exact .inr (.inr (.inr (.inr (.inr (.inr (.inl ⟨hk,l,_,l2,by omega,rfl⟩)))))))
  . have amM:jJ .i64 (kt (dJ.getD i hE).A 4)=_:=avZ;have amN:kt (jJ .i64 (dJ.getD i hE).C) (dJ.length:Int)=_:=av0;rw[ao g0,amM,amN];exact next _ (by unfold LZ;simp only[hJ];exact .inr (.inr (.inr (.inr (.inr (.inr (.inr (.inl ⟨hk,by first | trivial | rfl⟩))))))))
  . have amM:jJ .i64 (kt (dJ.getD i hE).A 4)=_:=avZ;have amN:kt (jJ .i64 (dJ.getD i hE).C) (dJ.length:Int)=_:=av0;obtain⟨u,Ws,Zn⟩:=aJs lo hf aOW h1;have a2u:aeD ((⟨dJ⟩:JA),(dJ.getD i hE).B)=some u:=Ws;rw[a2u];simp only[cm];rw[ao g0,amM,amN];rcases Zn with⟨rfl,a⟩ | a
    . rw[ao (by simp)];exact next _ (by unfold LZ;simp only[hJ];exact .inr (.inr (.inr (.inr (.inr (.inr (.inr (.inr (.inl ⟨hk,a,by first | trivial | rfl⟩)))))))))
    . rw[aJ (by have:=a.1;simp;omega)];exact next _ (by unfold LZ;simp only[hJ];exact .inr (.inr (.inr (.inr (.inr (.inr (.inr (.inr (.inr (.inl ⟨hk,u,a,rfl⟩))))))))))
  . have amN:kt (jJ .i64 (dJ.getD i hE).C) (dJ.length:Int)=_:=av0;rw[ao g0,amN];exact next _ (by unfold LZ;simp only[hJ];exact .inr (.inr (.inr (.inr (.inr (.inr (.inr (.inr (.inr (.inr ⟨hk,by first | trivial | rfl⟩))))))))))
end
def ajW(d:JA):Prop:=d.Jv.length<=reachBytes/\∀x,x∈d.Jv->Zv x
theorem of_eq{d:JA}(a7:ajW d):aaP d=some (⟨[]⟩,false)\/∃l,aaP d=some (⟨l⟩,true)/\1<=d.Jv.length/\d.Jv.length<=5/\l.length=d.Jv.length/\∀j,j < d.Jv.length->LZ d.Jv (j:Int) (l.getD j hz):=by
 rw[aaP];simp only[g',cm];by_cases h:1<=d.Jv.length/\d.Jv.length<=5
 . obtain⟨l,M5,l2,agn⟩:=aK3 a7.2 h.2 h.1 d.Jv.length 0 [] (by omega) rfl (λj c7=>by omega)
   grind
 grind
structure Q3 (ts:List f7):Prop where
 I0:1<=ts.length
 L9:ts.length<=5
 T:∀t,t∈ts->LY t
 V:YI ts
 D:∀t,t∈ts->aYt ts t.b8
 R:∀i:Nat,i < ts.length->∀m,m∈(ts.getD i hz).b8->0<=m.e2/\m.e2 < ts.length/\(7<=(ts.getD m.e2.toNat hz).Kind\/m.e2 < i)
 L:∀t,t∈ts->t.Kind=2->-3<=t.hU/\t.hV<=8
 M:∀t,t∈ts->t.Max<=3
 ns:∀t,t∈ts->(∀m,m∈t.b8->m.a8<=12)/\(∀y,y∈t.hl->y.a8<=6)/\t.b8.length<=12
 W:∀t,t∈ts->∀m,m∈t.b8->m.nk=true->wt m.j0<=13
theorem abe{v:ak}(hk:v.eI=[])(ay:v.cy=[])(ar:v.Rest=[])(hs:v.js.length<=1000)(I0:nc v.Kind)(D':nc v.hX)(Jm:nc v.a8):qa v:=by
 refine .mk v (by unfold reachBytes;omega) (by rw[hk];simp) (by rw[ay];simp) (by rw[ar];simp) (λx ad=>?_) (λx ad=>?_) (λx ad=>?_) I0 D' Jm (λx ad=>?_)
 . grind
 . grind
 . grind
 grind
theorem aK5 :qa eJ:=abe rfl rfl rfl (by simp[eJ]) (by unfold nc eJ;simp) (by unfold nc eJ;simp) (by unfold nc eJ;simp)
theorem aHy{v:ak}(hk:v.eI=[])(ay:v.cy=[])(ar:v.Rest=[]):wt v=10+v.js.length:=by
 rw[Qv,hk,ay,ar,OX];simp
section
variable {dJ:List ME} (lo:∀x,x∈dJ->Zv x) (hf:dJ.length<=5) (h1:1<=dJ.length) {l:List f7} (a6:l.length=dJ.length) (vk:∀j,j < dJ.length->LZ dJ (j:Int) (l.getD j hz))
include lo hf in
theorem aHz{t:Int}(ht:0<=t/\t < dJ.length){v:ak}(h:Init dJ t v):qa v/\wt v<=13:=by
 obtain⟨a,b,c,h⟩:=h;obtain⟨j,rfl⟩:∃j:Nat,t=(j:Int):=⟨t.toNat,by omega⟩
 have ad:=lo _ (j1 (by omega:j < dJ.length) J6);obtain⟨_,hg,Qn⟩:=adL lo hf ht.1 ht.2;rw[hJ]at h;have ch:=ad.a;have al:=ad.b;have aJY:=(ai9 (dJ.getD j J6)).2.1.2;unfold u4 at ch al;rw[aHy a b c];have hs:v.js.length<=3:=by grind
 refine⟨abe a b c (by omega) ?_ ?_ ?_,by omega⟩
 . unfold nc;rcases h with h | h | h | h | h <;> omega
 . unfold nc;rcases h with⟨_,_,e,_⟩ | ⟨_,_,_,_,_,e⟩ | ⟨_,_,_,e,_⟩ | ⟨_,_,_,e,_⟩ | ⟨_,_,e,_⟩ <;> omega
 . unfold nc
   grind
include lo hf in
theorem aEn{i:Int}{r:Bool}{Ms:List li}(h:ag0 dJ i r Ms):abm (!r) Ms\/(r=false/\Ms=[]):=by
 obtain⟨a,b,c⟩:=h;by_cases h0:r=false/\Ms=[]
 . grind
 left;refine⟨λm hm=>?_,?_,⟨a,λm hm=>?_⟩,λm hm=>?_,?_,by omega⟩
 . have q:=b m hm;unfold YQ;have ga:m.nk=false->abk m.j0=true:=λh=>by
    rw[q.aKY h];have b':Lj (XO (eJ,eJ)) eJ eJ:=aqI aK5 eJ;obtain⟨w,RO,ach⟩:=b';unfold abk
    grind
   have b7:=q.ND;have hu:=q.un
   grind
 . grind
 . have:=(b m hm).id;exact⟨by omega,by omega⟩
 . have q:=b m hm;have:=q.id;rw[q.name];exact aJq (by omega) (by omega)
 . unfold List.Nodup;rw[agz];refine a.imp_of_mem λ{x y} ad bJ ec=>?_
   have aLo:=b x ad;have aLp:=b y bJ;have a0W:=aLo.id;have a0X:=aLp.id;rw[aLo.name,aLp.name];intro e;simp only[an2,ab3,adT]at e;have hj:=JQ UInt8.toNat e;rw[WL (by omega),WL (by omega)]at hj;omega
theorem aEo{l:List Int}(h:agX l 6)(h1:1<=l.length)(tJ:l.length<=6):alE (acf l)/\(∀y,y∈acf l->y.a8<=6):=by
 unfold acf;refine⟨⟨by simp;omega,⟨?_,λy bJ=>?_⟩,λy bJ=>?_,?_,by simp;omega⟩,λy bJ=>?_⟩
 . rw[agz];exact h.1
 . obtain⟨x,ad,rfl⟩:=Lp.1 bJ;have:=h.2 x ad;exact⟨this.1,by show x<=1000;omega⟩
 . obtain⟨x,ad,rfl⟩:=Lp.1 bJ;have:=h.2 x ad;exact aJq (by omega) (by omega)
 . unfold List.Nodup;rw[agz,agz];refine h.1.imp_of_mem λ{x y} ad bJ ec=>?_
   have a0W:=h.2 x ad;have a0X:=h.2 y bJ;intro e;simp only[an2,ab3,adT]at e;have hj:=JQ UInt8.toNat e;rw[WL (by omega),WL (by omega)]at hj;omega
 . obtain⟨x,ad,rfl⟩:=Lp.1 bJ;exact(h.2 x ad).2
theorem aHA{i:Int}{t:f7}(h:LZ dJ i t):(Jw dJ i<=5\/Jw dJ i=7\/Jw dJ i=9->t.Kind=Jw dJ i)/\(Jw dJ i=6->t.Kind=5\/t.Kind=6)/\(Jw dJ i=8->(t.Kind=8/\∃w,aaA dJ w)\/(t.Kind=7/\¬∃w,aaA dJ w)):=by
 unfold LZ at h;rcases h with⟨k,rfl⟩ | ⟨k,rfl⟩ | ⟨k,rfl⟩ | ⟨k,_,rfl⟩ | ⟨k,_,_,rfl⟩ | ⟨k,rfl⟩ | ⟨k,_,_,_,_,rfl⟩ | ⟨k,rfl⟩ | ⟨k,a,rfl⟩ | ⟨k,w,a,rfl⟩ | ⟨k,rfl⟩ <;> simp[k]
 . omega
 grind
theorem awA{i:Int}{t:f7}(h:LZ dJ i t):t.b8=[]\/∃r,ag0 dJ i r t.b8:=by
 unfold LZ at h;rcases h with⟨k,rfl⟩ | ⟨k,rfl⟩ | ⟨k,rfl⟩ | ⟨k,_,rfl⟩ | ⟨k,_,a,rfl⟩ | ⟨k,rfl⟩ | ⟨k,_,_,a,_,rfl⟩ | ⟨k,rfl⟩ | ⟨k,a,rfl⟩ | ⟨k,w,a,rfl⟩ | ⟨k,rfl⟩
 . grind
 . grind
 . grind
 . grind
 . grind
 . grind
 . grind
 . grind
 . grind
 . grind
 grind
include lo hf h1 a6 vk in
theorem aVt :Q3 l:=by
 have lift:∀{P:f7->Prop},(∀j,j < dJ.length->P (l.getD j hz))->∀t,t∈l->P t:=λbo t ht=>by
  obtain⟨i,ay,rfl⟩:=OR ht
  grind
 have ad:∀j,j < dJ.length->Zv (dJ.getD j J6):=λj c7=>lo _ (j1 c7 J6)
 have mem:∀j,j < dJ.length->∀m,m∈(l.getD j hz).b8->∃r,agZ dJ (j:Int) r m:=λj c7 m hm=>by
  rcases awA (vk j c7)with h | ⟨r,_,h,_⟩
  . grind
  grind
 have a1q:∀t,t∈l->LY t:=lift λj c7=>by
  have hm:=mem j c7;have ht:=vk j c7;have a3v:(l.getD j hz).b8.length<=12:=by
   rcases awA ht with h | ⟨r,_,_,h⟩
   . rw[h];simp
   . exact h
  have a3w:(l.getD j hz).hl.length<=6:=by
   have ay:=(ai9 (dJ.getD j J6)).2.2.2;unfold LZ at ht;rcases ht with⟨k,e⟩ | ⟨k,e⟩ | ⟨k,e⟩ | ⟨k,_,e⟩ | ⟨k,_,_,e⟩ | ⟨k,e⟩ | ⟨k,_,_,_,_,e⟩ | ⟨k,e⟩ | ⟨k,_,e⟩ | ⟨k,_,_,e⟩ | ⟨k,e⟩ <;> rw[e]
   case inr.inr.inr.inl=>simp only[hJ,acf,SZ];exact ay
   all_goals simp
  refine⟨by unfold reachBytes;omega,by unfold reachBytes;omega,λm TJ=>?_⟩;obtain⟨r,q⟩:=hm m TJ;by_cases a7:m.nk=true
  . exact(aHz lo hf ⟨q.aef.1,q.aef.2.1⟩ (q.U3 a7)).1
  . rw[q.aKY (by simpa using a7)];exact aK5
 have a3V:∀u:Int,0<=u->u < dJ.length->7<=Jw dJ u->7<=(l.getD u.toNat hz).Kind:=λu h0 hu M1=>by
  obtain⟨j,rfl⟩:∃j:Nat,u=(j:Int):=⟨u.toNat,by omega⟩
  rw[hJ];obtain⟨_,_,Qn⟩:=adL lo hf h0 hu;obtain⟨a,b,c⟩:=aHA (vk j (by omega));omega
 have a2z:YI l:=by
  refine⟨by omega,lift λj c7=>?_,λj c7=>?_,lift λj c7=>?_,lift λj c7 Lu=>?_⟩
  . have ht:=vk j c7;have Lx:=ai9 (dJ.getD j J6);have ch:=(ad j c7).a;have al:=(ad j c7).b;have anj:nm [UInt8.ofNat (65+j)]=true:=aYw (by omega);unfold u4 at ch al;unfold LZ at ht;simp only[hJ]at ht;generalize [UInt8.ofNat (65+j)]=a34 at anj ht;unfold NN
    rcases ht with⟨k,e⟩ | ⟨k,e⟩ | ⟨k,e⟩ | ⟨k,_,e⟩ | ⟨k,Ms,a,e⟩ | ⟨k,e⟩ | ⟨k,Ms,_,a,a0,e⟩ | ⟨k,e⟩ | ⟨k,_,e⟩ | ⟨k,_,_,e⟩ | ⟨k,e⟩ <;> rw[e]
    . simp
    . simp;omega
    . simp;omega
    . simp;exact⟨anj,(aEo Lx.2.1 Lx.2.2.1 Lx.2.2.2).1⟩
    . simp;refine⟨anj,?_⟩;rcases aEn lo hf a with h | ⟨h,_⟩
      . exact h
      . cases h
    . simp;exact⟨anj,λm hm=>(by cases hm),.inl rfl,⟨.nil,λm hm=>by cases hm⟩,λm hm=>(by cases hm),by simp,by simp⟩
    . simp;refine⟨anj,?_⟩;rcases aEn lo hf a with h | ⟨_,h⟩
      . exact h
      grind
    . simp;omega
    . simp;omega
    . simp;omega
    . simp
  ·
   have nameOf:∀k,k < dJ.length->(l.getD k hz).Name=[]\/(l.getD k hz).Name=[UInt8.ofNat (65+k)]:=λk hk=>by
    have ht:=vk k hk;unfold LZ at ht;simp only[hJ]at ht;rcases ht with⟨k,e⟩ | ⟨k,e⟩ | ⟨k,e⟩ | ⟨k,_,e⟩ | ⟨k,Ms,a,e⟩ | ⟨k,e⟩ | ⟨k,Ms,_,a,a0,e⟩ | ⟨k,e⟩ | ⟨k,_,e⟩ | ⟨k,_,_,e⟩ | ⟨k,e⟩ <;> rw[e] <;> simp
   rcases nameOf j (by omega)with h | h
   . rw[h];simp
   . rw[h];simp only[ayW];right;apply ay5.2;intro b7;obtain⟨k,hk,he⟩:=(aaR (by simp;omega)).1 b7;have b9:(l.map (·.Name)).getD k []=(l.getD k hz).Name:=Qb (·.Name) l k hz [] (by omega);rw[b9]at he;rcases nameOf k (by omega)with rz | rz
     . grind
     . rw[rz]at he;simp only[an2,ab3]at he;have hj:=JQ UInt8.toNat he;rw[WL (by omega),WL (by omega)]at hj;omega
  . intro u hu;have hm:=mem j c7;have b7:=(ad j c7).c;unfold u4 at b7;have MH:0<=(dJ.getD j J6).C % (dJ.length:Int):=Ye _ (by omega);have hN:(dJ.getD j J6).C % (dJ.length:Int) < dJ.length:=Yc _ (by omega);have ht:=vk j c7;unfold LZ at ht;simp only[hJ]at ht;generalize (dJ.getD j J6).C % (dJ.length:Int)=adi at MH hN ht;unfold LL at hu
    simp only[Nw,Lp]at hu;rcases hu with(⟨m,h,rfl⟩ | h) | h
    . obtain⟨r,q⟩:=hm m h;have:=q.aef.1;have:=q.aef.2.1;omega
    . split at h
      . rename_i Lu;have:u=(l.getD j hz).Key:=by simpa using h
        rw[this];rcases ht with⟨k,e⟩ | ⟨k,e⟩ | ⟨k,e⟩ | ⟨k,_,e⟩ | ⟨k,Ms,a,e⟩ | ⟨k,e⟩ | ⟨k,Ms,_,a,a0,e⟩ | ⟨k,e⟩ | ⟨k,_,e⟩ | ⟨k,w,a,e⟩ | ⟨k,e⟩ <;> rw[e]at Lu ⊢ <;> simp at Lu ⊢
        obtain⟨TP,RO,_⟩:=a;omega
      . cases h
    . split at h
      . rename_i M1;have:u=(l.getD j hz).ev:=by simpa using h
        rw[this];rcases ht with⟨k,e⟩ | ⟨k,e⟩ | ⟨k,e⟩ | ⟨k,_,e⟩ | ⟨k,Ms,a,e⟩ | ⟨k,e⟩ | ⟨k,Ms,_,a,a0,e⟩ | ⟨k,e⟩ | ⟨k,_,e⟩ | ⟨k,w,a,e⟩ | ⟨k,e⟩ <;> rw[e]at M1 ⊢ <;> simp at M1 ⊢ <;> omega
      . cases h
  . have ht:=vk j c7;unfold LZ at ht;simp only[hJ]at ht;rcases ht with⟨k,e⟩ | ⟨k,e⟩ | ⟨k,e⟩ | ⟨k,_,e⟩ | ⟨k,Ms,a,e⟩ | ⟨k,e⟩ | ⟨k,Ms,_,a,a0,e⟩ | ⟨k,e⟩ | ⟨k,_,e⟩ | ⟨k,w,a,e⟩ | ⟨k,e⟩ <;> rw[e]at Lu ⊢ <;> simp at Lu ⊢
    obtain⟨TP,RO,ach,a2A⟩:=a;obtain⟨q,rfl⟩:∃q:Nat,w=(q:Int):=⟨w.toNat,by omega⟩
    obtain⟨a,_,_⟩:=aHA (vk q (by omega));have:=a (.inl (by omega));simp_all
 refine⟨by omega,by omega,a1q,a2z,lift λj c7 m hm a7=>?_,λj c7 m hm=>?_,lift λj c7 ah=>?_,lift λj c7=>?_,lift λj c7=>⟨λm hm=>?_,λy bJ=>?_,?_⟩,lift λj c7 m hm a7=>?_⟩
 . obtain⟨r,q⟩:=mem j c7 m hm;have ay:=q.U3 a7;obtain⟨azX,Ws,_⟩:=q.aef;generalize m.j0=v at ay;obtain⟨u,hu⟩:∃u:Nat,m.e2=(u:Int):=⟨m.e2.toNat,by omega⟩
   rw[hu]at ay azX Ws ⊢;have ht:=vk u (by omega);obtain⟨a,b,c,ay⟩:=ay;rw[WN];simp only[hJ]at ay ⊢;unfold LZ at ht;simp only[hJ]at ht;have hlen:((l.length:Nat):Int)=dJ.length:=by omega
   rw[hlen];generalize l.getD u hz=x at ht ⊢;rw[a,b,c];have a4f:∀t,M8 l true t []:=λt=>by rw[M8];trivial
   have a3T:TZ []:=λi ay=>by simp at ay
   have aKz:=ad u (by omega);generalize dJ.getD u J6=a30 at ht ay aKz;rcases ay with⟨k,eh,hj,I2,U4⟩ | ⟨k,eh,hj,I2,U4,QH,aiz⟩ | ⟨k,eh,hj,I2,U4,QH⟩ | ⟨k,eh,hj,I2,U4,QH⟩ | ⟨k,eh,hj,I2,U4,QH⟩
   . rw[k]at ht
     grind
   . rw[k]at ht
     grind
   . rw[k]at ht
     grind
   . rw[k]at ht;simp only[Int.reduceEq,false_and,adT,or_false,false_or]at ht;obtain⟨o,rfl⟩:=ht;rw[eh,hj,I2,U4];simp;refine⟨by omega,⟨v.a8,[UInt8.ofNat 115,UInt8.ofNat (97+v.a8.toNat)]⟩,?_,rfl⟩;unfold acf
     grind
   . rw[eh,hj,I2,U4];have Qn:Jw dJ (u:Int)<=9:=(adL lo hf azX Ws).2.2;have amY:Jw dJ (u:Int)=7\/Jw dJ (u:Int)=8\/Jw dJ (u:Int)=9:=by omega
     have ch:=aKz.a;unfold u4 at ch;rcases amY with ka | ka | ka
     . rw[ka]at ht QH
       grind
     . rw[ka]at ht QH
       grind
     . rw[ka]at ht QH
       grind
 . obtain⟨r,q⟩:=mem j (by omega) m hm;obtain⟨azX,Ws,Zn⟩:=q.aef
   grind
 . have ht:=vk j c7;have ch:=(ad j c7).a;have al:=(ad j c7).b;unfold u4 at ch al;unfold LZ at ht;simp only[hJ]at ht;rcases ht with⟨k,e⟩ | ⟨k,e⟩ | ⟨k,e⟩ | ⟨k,_,e⟩ | ⟨k,Ms,a,e⟩ | ⟨k,e⟩ | ⟨k,Ms,_,a,a0,e⟩ | ⟨k,e⟩ | ⟨k,_,e⟩ | ⟨k,w,a,e⟩ | ⟨k,e⟩ <;> rw[e]at ah ⊢ <;> simp at ah ⊢
   omega
 . have ht:=vk j c7;have ch:=(ad j c7).a;unfold u4 at ch;unfold LZ at ht;simp only[hJ]at ht;rcases ht with⟨k,e⟩ | ⟨k,e⟩ | ⟨k,e⟩ | ⟨k,_,e⟩ | ⟨k,Ms,a,e⟩ | ⟨k,e⟩ | ⟨k,Ms,_,a,a0,e⟩ | ⟨k,e⟩ | ⟨k,_,e⟩ | ⟨k,w,a,e⟩ | ⟨k,e⟩ <;> rw[e] <;> simp <;> omega
 . obtain⟨r,q⟩:=mem j c7 m hm;exact q.id.2
 . have ht:=vk j c7;have Lx:=ai9 (dJ.getD j J6);unfold LZ at ht;simp only[hJ]at ht;rcases ht with⟨k,e⟩ | ⟨k,e⟩ | ⟨k,e⟩ | ⟨k,_,e⟩ | ⟨k,Ms,a,e⟩ | ⟨k,e⟩ | ⟨k,Ms,_,a,a0,e⟩ | ⟨k,e⟩ | ⟨k,_,e⟩ | ⟨k,w,a,e⟩ | ⟨k,e⟩ <;> rw[e]at bJ <;> simp at bJ
   exact(aEo Lx.2.1 Lx.2.2.1 Lx.2.2.2).2 y bJ
 . rcases awA (vk j c7)with h | ⟨r,_,_,h⟩
   . rw[h];simp
   . exact h
 . obtain⟨r,q⟩:=mem j c7 m hm;exact(aHz lo hf ⟨q.aef.1,q.aef.2.1⟩ (q.U3 a7)).2
end
theorem aK4{d:JA}(a7:ajW d):aaP d=some (⟨[]⟩,false)\/∃l,aaP d=some (⟨l⟩,true)/\Q3 l:=by
 rcases of_eq a7 with h | ⟨l,a,b,c,e,f⟩
 . exact .inl h
 . exact .inr ⟨l,a,aVt a7.2 c b e f⟩
def MF(m' C:List Int):Prop:=m'.length<=C.length/\∀c,c∈m'->c∈C
theorem MF.refl(C:List Int):MF C C:=⟨JK _,λ_ h=>h⟩
theorem MF.trans{A B C:List Int}(h:MF A B)(k:MF B C):MF A C:=⟨RD h.1 k.1,λc b7=>k.2 c (h.2 c b7)⟩
def OE(C:List Int):Prop:=∀c,c∈C->u4 c
theorem OE.DJ{A B:List Int}(h:OE B)(k:MF A B):OE A:=λc b7=>h c (k.2 c b7)
section
variable {ts:List f7}
theorem WO{n:Int}(dy:1 <=n /\ n <=1000){C:List Int}(q5:OE C)(a6:C.length <=1000)(odd:Bool):
 ∃r m',RU (n,ts,C,odd)=some (r,ts,m',odd)/\0<=r/\r < n/\MF m' C/\(r=0/\m'=[]/\C=[]\/m'.length+1=C.length):=by
 rw[RU];cases C with
 | nil=>
  rw[ao (by simp)];exact⟨0,[],rfl,by omega,by omega,MF.refl _,.inl ⟨rfl,rfl,rfl⟩⟩
 | cons c C=>
  have b7:=q5 c (.head _);unfold u4 at b7;have h0:ez 0 (c::C).length=true:=gA (k:=0) (by simp);have h1:Jt 1 ((c::C).length:Int) (c::C).length=true:=TY (a:=1) (by simp) (by simp);have ah:Jp (c::C) 1 ((c::C).length:Int)=C:=by
   have:=ZN (c::C) 1
   grind
  rw[aJ (by simp;omega),ao h0,ao (ags (by omega)),ao h1,ah];simp only[adR,Vj];rw[WU ⟨by omega,by omega⟩,OY b7.1 (by omega)];exact⟨_,C,rfl,Ye _ (by omega),Yc _ (by omega),⟨by simp,λx ad=>.tail _ ad⟩,.inr (by simp)⟩
theorem axq{C:List Int}(q5:OE C)(a6:C.length <=1000)(odd:Bool):
 ∃o m',ahx (ts,C,odd)=some (o,ts,m',odd)/\(odd=false->o=false)/\MF m' C:=by
 rw[ahx];cases odd with
 | false=>exact⟨false,C,rfl,λ_=>rfl,MF.refl _⟩
 | true=>
  obtain⟨r,m',h1,_,_,ea,_⟩:=WO (ts:=ts) (n:=4) ⟨by omega,by omega⟩ q5 a6 true;rw[ao rfl,h1];exact⟨_,m',rfl,λh=>(by cases h),ea⟩
theorem aWf{x:f7}(hm:x.b8.length < 9223372036854775807)(hs:x.hl.length < 9223372036854775807)(n:Int):xe (ap9 (x,n)) ((∃m,m∈x.b8/\m.a8=n)\/∃y,y∈x.hl/\y.a8=n):=by
 obtain⟨r,_,oJ,cJ⟩:=YA (t:=x) n hm;obtain⟨s,_,s2,b9⟩:=akK (t:=x) n hs;rw[ap9,oJ];simp only[g',cm];rw[s2];refine⟨_,rfl,?_⟩;have h1:=aqJ b9;have ah:r.2=true↔∃m,m∈x.b8/\m.a8=n:=by
  rcases afp cJ with⟨e,j,s4,_,_,Xs⟩ | ⟨e,q⟩
  . grind
  . rw[e];have:=aaX q
    grind
 grind
theorem aEp{x:f7}(hm:x.b8.length < 9223372036854775807)(hs:x.hl.length < 9223372036854775807)(amP:∀m,m∈x.b8 -> m.a8 <=12)(tJ:∀y,y∈x.hl -> y.a8 <=6)(C:List Int)(odd:Bool):
 ∀(k:Nat) (n:Int),1<=n->n<=14->13<=n+k->∃DI,ahv (n,ts,C,odd,x)=some (DI,ts,C,odd)/\1<=DI/\DI<=14/\(∀m,m∈x.b8->m.a8≠DI)/\(∀y,y∈x.hl->y.a8≠DI)
 | k,n,h1,a3g,hk=>by
  obtain⟨r,kJ,oJ⟩:=aWf hm hs n;rw[ahv,kJ];simp only[g',cm];cases r with
  | false=>grind
  | true=>
   have hle:n<=12:=by grind
   rw[ao rfl,UJ (by omega) (by omega)]
   match k,hk with
   | 0,hk=>omega
   | k+1,hk=>exact aEp hm hs amP tJ C odd k (n+1) (by omega) (by omega) (by omega)
theorem awB{x:f7}(hm:x.b8.length < 9223372036854775807)(hs:x.hl.length < 9223372036854775807)(amP:∀m,m∈x.b8 -> m.a8 <=12)(tJ:∀y,y∈x.hl -> y.a8 <=6){C:List Int}(q5:OE C)(a6:C.length <=1000)(odd:Bool):
 ∃n m',acY (x,ts,C,odd)=some (n,ts,m',odd)/\qj n/\zJ x.b8 n=none/\MF m' C:=by
 obtain⟨r,m',h1,ah,b',ea,_⟩:=WO (ts:=ts) (n:=14) ⟨by omega,by omega⟩ q5 a6 odd;obtain⟨n,I0,D',Jm,p',_⟩:=aEp (ts:=ts) hm hs amP tJ m' odd 12 (1+r) (by omega) (by omega) (by omega);refine⟨n,m',?_,⟨by omega,by omega⟩,?_,ea⟩
 . rw[acY,h1];simp only[g',cm];rw[UJ (by omega) (by omega),I0];rfl
 . unfold zJ;rw[anZ];intro m TJ
   simpa using p' m TJ
theorem aGG{n:Int}{C:List Int}(q5:OE C)(a6:C.length<=1000)(odd:Bool):∃d m',ahy (n,ts,C,odd)=some (⟨n,d⟩,ts,m',odd)/\d.length<=3/\MF m' C:=by
 obtain⟨r,m',h1,ah,b',ea,_⟩:=WO (ts:=ts) (n:=4) ⟨by omega,by omega⟩ q5 a6 odd;obtain⟨k,rfl⟩:∃k:Nat,r=(k:Int):=⟨r.toNat,by omega⟩
 rw[ahy];simp only[g',cm];rw[h1];simp only[cm];rw[ao (gA (by simp;omega)),hJ]
 grind
theorem aHB(odd:Bool):∀(k:Nat) (s:List UInt8) (C:List Int),k<=100->OE C->C.length<=1000->s.length+k<=100->∃Wl m',aeL (s,(k:Int),ts,C,odd)=some (Wl,ts,m',odd)/\Wl.length<=s.length+k/\MF m' C
 | 0,s,C,hk,q5,a6,hs=>⟨s,C,by rw[aeL,aJ (by simp)],by omega,MF.refl _⟩
 | k+1,s,C,hk,q5,a6,hs=>by
  obtain⟨r,m',h1,ah,b',ea,_⟩:=WO (ts:=ts) (n:=3) ⟨by omega,by omega⟩ q5 a6 odd;have Rt:decide ((0:Int) < ((k+1:Nat):Int))=true:=by rw[ye];omega
  have e:BJ .i64 ((k+1:Nat):Int) 1=(k:Int):=by rw[Q7 (by omega) (by omega)];omega
  rw[aeL,ao Rt,h1];simp only[g',cm];rw[axn ⟨ah,by omega⟩,ao (P' (by simp;omega)),e];obtain⟨Wl,atd,a1,a2,a3⟩:=aHB odd k (s++[UInt8.ofNat (97+r.toNat)]) m' (by omega) (q5.DJ ea) (by have:=ea.1;omega) (by simp;omega);exact⟨Wl,atd,a1,by simp at a2;omega,a3.trans ea⟩
theorem aWg{most:Int}(hm:0<=most/\most<=1000){C:List Int}(q5:OE C)(a6:C.length<=1000)(odd:Bool):∃s m',aph (most,ts,C,odd)=some (s,ts,m',odd)/\(s.length:Int)<=most/\s.length<=3/\MF m' C:=by
 have em:e0 .i64 (SU most 3) 1=min most 3+1:=by
  have:SU most 3=min most 3:=rfl;rw[this,UJ (by omega) (by omega)]
 obtain⟨r,m',h1,ah,b',ea,_⟩:=WO (ts:=ts) (n:=min most 3+1) ⟨by omega,by omega⟩ q5 a6 odd;obtain⟨k,rfl⟩:∃k:Nat,r=(k:Int):=⟨r.toNat,by omega⟩
 obtain⟨s,atd,a1,a2,a3⟩:=aHB (ts:=ts) odd k [] m' (by omega) (q5.DJ ea) (by have:=ea.1;omega) (by simp;omega);refine⟨s,atd,?_,by simp at a2;omega,by simp at a2;omega,a3.trans ea⟩;rw[aph,em,h1]
 grind
end
theorem aCN :∀a b:List UInt8,Op.bytesLess a b=false->a≠b->Op.bytesLess b a=true
 | [],[],_,h=>absurd rfl h
 | [],y::b,h,_=>by simp[Op.bytesLess]at h
 | x::a,[],h,_=>by simp[Op.bytesLess]
 | x::a,y::b,h,hG=>by
  simp only[Op.bytesLess]at h ⊢;by_cases h1:x < y
  . grind
  . by_cases ah:y < x
    . simp[ah]
    . have e:x=y:=by grind
      subst e;have ar:Op.bytesLess a b=false:=by simpa using h
      have:=aCN a b ar (λe=>hG (by rw[e]));simp[this]
theorem ah3{a b:ak}(ch:nc a.hX)(al:nc b.hX):ZB (a,b)=some (OT a b):=by
 obtain⟨r,h1,ah⟩:=apJ ch al;unfold OT
 grind
theorem aUe{a b:ak}(ch:nc a.hX)(al:nc b.hX)(h:0 < OT a b):OT b a < 0:=by
 have h1:=ah3 ch al;have ah:=ah3 al ch;generalize OT a b=r at h h1;generalize OT b a=q at ah;rw[ZB]at h1 ah;by_cases hk:a.Kind=b.Kind
 . rw[aJ (by simp[hk])]at h1 ah;by_cases hg:a.Kind=1
   . have ayA:b.Kind=1:=by omega
     rw[ao (by simp[hg])]at h1;rw[ao (by simp[ayA])]at ah;simp only[VH,MK]at h1 ah
     grind
   . have ayA:¬b.Kind=1:=by omega
     rw[aJ (by simp[hg])]at h1;rw[aJ (by simp[ayA])]at ah;by_cases hv:a.Kind=2
     . have agl:b.Kind=2:=by omega
       rw[ao (by simp[hv]),afv ch,afv al]at h1;rw[ao (by simp[agl]),afv ch,afv al]at ah;simp only[g',cm,VH]at h1 ah;by_cases e:a.hX=b.hX
       . grind
       . have ga:Po a.hX≠Po b.hX:=λh=>e (aHm h)
         grind
     . have agl:¬b.Kind=2:=by omega
       rw[aJ (by simp[hv])]at h1;rw[aJ (by simp[agl])]at ah;by_cases h3:a.Kind=3
       . have ayB:b.Kind=3:=by omega
         rw[ao (by simp[h3])]at h1;rw[ao (by simp[ayB])]at ah;simp only[g',cm,VH]at h1 ah;by_cases a6:a.js.length=b.js.length
         . rw[aJ (by simp[a6])]at h1 ah;by_cases e:a.js=b.js
           . grind
           . have sK:¬b.js=a.js:=λh=>e h.symm
             cases Oe:Op.bytesLess a.js b.js with
             | true=>simp[e,Oe]at h1;omega
             | false=>
              have:=aCN _ _ Oe e
              grind
         grind
       . have ayB:¬b.Kind=3:=by omega
         rw[aJ (by simp[h3])]at h1;rw[aJ (by simp[ayB])]at ah;by_cases oo:a.Kind=4
         . have a0Z:b.Kind=4:=by omega
           rw[ao (by simp[oo])]at h1;rw[ao (by simp[a0Z])]at ah;simp only[g',cm,VH]at h1 ah
           grind
         grind
 grind
theorem aLk{v key item:ak}(a6:v.eI.length < 1000000)(hk:∀x,x∈v.eI -> nc x.hX)(aiR:nc key.hX)(a:Int)(b:Bool)(c:Int)(d:List UInt8)(e:Int):∀(k i:Nat),i+k=v.eI.length ->
 (∀j,j < i->OT (v.eI.getD j eJ) key < 0)->∃m:Nat,m<=v.eI.length/\acD ((i:Int),v,key,item,a,b,c,d,e)=some ((m:Int),v,key,item,a,b,c,d,e)/\(∀j,j < m->OT (v.eI.getD j eJ) key < 0)/\(m < v.eI.length->0<=OT (v.eI.getD m eJ) key)
 | 0,i,ay,c7=>by
  have a7:decide ((i:Int) < (v.eI.length:Int))=false:=by simp;omega
  refine⟨i,by omega,?_,c7,λh=>by omega⟩;rw[acD];simp only[g',cm,a7,Uw,Bool.or_true,qb,q2,uJ,OB,ak.h7]
 | k+1,i,ay,c7=>by
  have ec:i < v.eI.length:=by omega
  have a7:decide ((i:Int) < (v.eI.length:Int))=true:=by simp;omega
  have b7:=ah3 (hk _ (j1 ec eJ)) aiR;rw[acD];simp only[g',cm,a7,N2,S0,qb,RG,ak.h7,hJ];rw[ao (gA ec),b7];simp only[cm];by_cases a0e:OT (v.eI.getD i eJ) key < 0
  . rw[ao (by simpa using a0e),j2 (by omega)];refine aLk a6 hk aiR a b c d e k (i+1) (by omega) λj SN=>?_
    grind
  grind
theorem ae8 :∀(a b:List ak),ry (a++b)=ry a+ry b
 | [],b=>by rw[OX];simp
 | x::a,b=>by rw[ab7,TX,TX,ae8 a b];omega
theorem aGH{α:Type}{l:List α}{m:Nat}{x d:α}(hm:m<=l.length)(i:Nat):(l.take m++(x::l.drop m)).getD i d=if i < m then l.getD i d else if i=m then x else l.getD (i - 1) d:=by grind
theorem aX0{v key item:ak}(a6:v.eI.length < 1000)(E8:v.cy.length=v.eI.length)(hk:∀x,x∈v.eI -> nc x.hX)(aiR:nc key.hX)(ch:TZ v.eI):
 ∃ks is,aqb (v,key,item)=some ⟨v.Kind,v.oi,v.hX,v.js,v.a8,ks,is,v.Rest⟩/\is.length=ks.length/\ks.length<=v.eI.length+1/\TZ ks/\(∀x,x∈ks->x∈v.eI\/x=key)/\(∀x,x∈is->x∈v.cy\/x=item)/\ry ks+ry is<=ry v.eI+ry v.cy+wt key+wt item:=by
 obtain⟨m,m1,m2,m3,m4⟩:=aLk (item:=item) (by omega) hk aiR 0 false 0 [] 0 v.eI.length 0 (by omega) (λj c7=>by omega);have a1a:acD (0,v,key,item,0,false,0,[],0)=_:=m2;rw[aqb];simp only[ak.h7];rw[a1a];simp only[g',cm,ak.h7]
 have ins:∀(hG:m < v.eI.length->0 < OT (v.eI.getD m eJ) key),∃ks is,(some (⟨v.Kind,v.oi,v.hX,v.js,v.a8,v.eI.take m++(key::v.eI.drop m),v.cy.take m++(item::v.cy.drop m),v.Rest⟩:ak):Option ak)=some ⟨v.Kind,v.oi,v.hX,v.js,v.a8,ks,is,v.Rest⟩/\is.length=ks.length/\ks.length<=v.eI.length+1/\TZ ks/\(∀x,x∈ks->x∈v.eI\/x=key)/\(∀x,x∈is->x∈v.cy\/x=item)/\ry ks+ry is<=ry v.eI+ry v.cy+wt key+wt item:=by
  intro hG;refine⟨_,_,rfl,by simp;omega,by simp;omega,λi ay=>?_,λx ad=>?_,λx ad=>?_,?_⟩
  . rw[aGH m1,aGH m1];have hlen:(v.eI.take m++(key::v.eI.drop m)).length=v.eI.length+1:=by simp;omega
    rw[hlen]at ay;by_cases h1:i+1 < m
    . rw[ao (by omega),ao h1];exact ch i (by omega)
    . by_cases ah:i+1=m
      . grind
      . by_cases b':i=m
        . rw[aJ (by omega),ao b',aJ h1,aJ ah];have e:i+1 - 1=m:=by omega
          rw[e];exact aUe (hk _ (j1 (by omega) eJ)) aiR (hG (by omega))
        . rw[aJ (by omega),aJ b',aJ h1,aJ ah];have:=ch (i - 1) (by omega)
          grind
  . grind
  . grind
  . rw[ae8,ae8,TX,TX];have eh:ry v.eI=ry (v.eI.take m)+ry (v.eI.drop m):=by rw[<-ae8,anW]
    have hj:ry v.cy=ry (v.cy.take m)+ry (v.cy.drop m):=by rw[<-ae8,anW]
    omega
 have s1:Jt 0 (m:Int) v.eI.length=true:=TY (a:=0) (by omega) m1;have s2:Jt (m:Int) (v.eI.length:Int) v.eI.length=true:=TY m1 (by omega);have Wm:Jt 0 (m:Int) v.cy.length=true:=TY (a:=0) (by omega) (by omega);have aLB:Jt (m:Int) (v.cy.length:Int) v.cy.length=true:=TY (by omega) (by omega)
 have build:∀{o:Option ak->Prop},o (some (⟨v.Kind,v.oi,v.hX,v.js,v.a8,v.eI.take m++(key::v.eI.drop m),v.cy.take m++(item::v.cy.drop m),v.Rest⟩:ak))->o (some (⟨v.Kind,v.oi,v.hX,v.js,v.a8,v.eI.take m++(key::v.eI.drop m),v.cy.take m++(item::v.cy.drop m),v.Rest⟩:ak)):=λh=>h
 by_cases yb:m < v.eI.length
 . have a7:decide ((m:Int) < (v.eI.length:Int))=true:=by simp;omega
   have b7:=ah3 (hk _ (j1 yb eJ)) aiR;simp only[a7,N2,S0,qb,RG,hJ];rw[ao (gA yb),b7];simp only[cm];by_cases h0:OT (v.eI.getD m eJ) key=0
   . rw[ao (by simpa using h0)];refine⟨v.eI,v.cy,by cases v;rfl,E8,by omega,ch,λx ad=>.inl ad,λx ad=>.inl ad,by omega⟩
   . rw[aJ (by simpa using h0),ao s1,ao (CJ (by omega) (by simp[Jp];omega))];rw[ao (CJ (by omega) (by simp[Jp];omega)),ao s2,ao (CJ (by omega) (by simp[Jp];omega)),ao Wm,ao (CJ (by omega) (by simp[Jp];omega)),ao (CJ (by omega) (by simp[Jp];omega)),ao aLB,ao (CJ (by omega) (by simp[Jp];omega))];rw[afu,afu,ZN,ZN]
     simp only[PX,SY,List.singleton_append];exact ins λ_=>by have:=m4 yb;omega
 . have a7:decide ((m:Int) < (v.eI.length:Int))=false:=by simp;omega
   simp only[a7,Uw,Bool.or_true,qb,q2,uJ,OB,cm];rw[ao s1,ao (CJ (by omega) (by simp[Jp];omega))]
   rw[ao (CJ (by omega) (by simp[Jp];omega)),ao s2,ao (CJ (by omega) (by simp[Jp];omega)),ao Wm,ao (CJ (by omega) (by simp[Jp];omega)),ao (CJ (by omega) (by simp[Jp];omega)),ao aLB,ao (CJ (by omega) (by simp[Jp];omega))];rw[afu,afu,ZN,ZN];simp only[PX,SY,List.singleton_append]
   exact ins λh=>absurd h yb
section
variable {ts:List f7}
mutual
theorem as1 :∀(v:ak) (t:Int),xJ ts true t v->xJ ts false t v
 | ⟨k,b,i,s,id,ks,is,r⟩,t,h=>by
  rw[xJ]at h ⊢;obtain⟨⟨h1,ah,b',ea⟩,hf⟩:=h;have w:=azZ is;have a4g:=azZ ks;have a4h:=aMw is;refine⟨⟨h1,ah,b',λh=>by cases h⟩,?_⟩
  have MI:(match zJ (ts.getD t.toNat hz).b8 id with
   | some m=>r=[]/\is.length=1/\M8 ts true m.e2 is
   | none=>(ts.getD t.toNat hz).Open=true/\true=false/\qj id/\is=[]/\∃d,r=[⟨id,d⟩])->(match zJ (ts.getD t.toNat hz).b8 id with
   | some m=>r=[]/\is.length=1/\M8 ts false m.e2 is
   | none=>(ts.getD t.toNat hz).Open=true/\false=false/\qj id/\is=[]/\∃d,r=[⟨id,d⟩]):=by
   split
   . rintro ⟨a,b,c⟩;exact⟨a,b,w _ c⟩
   . rintro ⟨_,b,_⟩;cases b
  rcases hf with h | h | h | ⟨a1,a2,a3,a4,a5,MG,UO,Sl⟩ | ⟨a1,a2,a3,a4,a5,MG,UO,Sl⟩ | ⟨a1,a2,a3,a4,a5,MG⟩ | ⟨a1,a2,a3,a4,a5,MG,UO,Sl,a9⟩ | ⟨a1,a2,a3,a4,a5,MG,UO,Sl,a9,aAG,aAH⟩ | ⟨a1,a2,a3,a4,a5,MG,UO,Sl,a9⟩
  . exact .inl h
  . grind
  . grind
  . grind
  . grind
  . grind
  . grind
  . grind
  grind
theorem azZ :∀(l:List ak) (t:Int),M8 ts true t l->M8 ts false t l
 | [],t,h=>by rw[M8];trivial
 | v::l,t,h=>by
  rw[M8]at h ⊢;exact⟨as1 v t h.1,azZ l t h.2⟩
theorem aMw :∀(l:List ak) (ms:List li),Pm ts true ms l->Pm ts false ms l
 | [],[],h=>by rw[Pm];trivial
 | [],m::ms,h=>by
  have:Pm ts true (m::ms) []=False:=by rw[Pm] <;> (intros;simp_all)
  grind
 | v::l,[],h=>by
  have:Pm ts true [] (v::l)=False:=by rw[Pm] <;> (intros;simp_all)
  grind
 | v::l,m::ms,h=>by
  rw[Pm]at h ⊢;exact⟨as1 v m.e2 h.1,aMw l ms h.2⟩
end
theorem aVu{v:ak}{t:Int}(h:xJ ts true t v)(pl:Bool):xJ ts pl t v:=by
 cases pl with
 | true=>exact h
 | false=>exact as1 v t h
def Vr(ts:List f7)(t:Nat):Nat:=if 7<=(ts.getD t hz).Kind then 0 else t+1
def NM :Nat->Nat
 | 0=>20
 | n+1=>12*NM n+20
theorem aAo{a:Nat}:∀{b:Nat},a<=b->NM a<=NM b
 | 0, h => by have : a = 0 := by omega
              subst this;omega
 | b+1,h=>by
  by_cases e:a=b+1
  . grind
  . have:=aAo (a:=a) (b:=b) (by omega);simp only[NM];omega
theorem atc(r:Nat):20<=NM r:=aAo (a:=0) (RE _)
theorem ajT :NM 5=5429060:=rfl
def acm(ts:List f7)(odd:Bool)(C:List Int)(r:Nat)(t:Int):Prop:=∃v m',TU (t,ts,C,odd)=some (v,ts,m',odd)/\xJ ts (!odd) t v/\qa v/\MF m' C/\wt v+32574360*m'.length<=NM r+32574360*C.length
theorem aJt {odd:Bool} {c r:Nat} (b7:c <=1000) {x:f7} (amP:x.b8.length <=12) (hm:∀m,m∈x.b8 -> (∀C,OE C -> C.length <=c -> acm ts odd C r m.e2) /\ (m.nk=true -> xJ ts true m.e2 m.j0 /\ qa m.j0 /\ wt m.j0 <=13))
 (a0:Int) (a1:Bool) (a2:Int) (a3:List UInt8) (a4:Int) (v0:Int) (v1:Bool) (v2:Int) (v3:List UInt8) (v4:Int):
 ∀(k i:Nat) (C:List Int) (acc:List ak),i+k=x.b8.length->OE C->C.length<=c->acc.length=i->(∀j,j < i->xJ ts (!odd) (x.b8.getD j ii).e2 (acc.getD j eJ))->(∀y,y∈acc->qa y)->
 ∃QA m',Yr ((i:Int),ts,C,odd,a0,a1,a2,a3,a4,x.Kind,x.Name,x.hU,x.hV,x.Max,x.hl,x.b8,x.Key,x.ev,x.Open,v0,v1,v2,v3,v4,acc)=some (ts,m',odd,a0,a1,a2,a3,a4,x.Kind,x.Name,x.hU,x.hV,x.Max,x.hl,x.b8,x.Key,x.ev,x.Open,v0,v1,v2,v3,v4,QA)/\
  QA.length=x.b8.length/\(∀j,j < x.b8.length->xJ ts (!odd) (x.b8.getD j ii).e2 (QA.getD j eJ))/\(∀y,y∈QA->qa y)/\MF m' C/\ry QA+32574360*m'.length<=ry acc+k*NM r+32574360*C.length
 | 0,i,C,acc,ay,q5,a6,ch,cJ,c8=>⟨acc,C,by rw[Yr,aJ (by simp;omega)],by omega,λj c7=>cJ j (by omega),c8,MF.refl _,by omega⟩
 | k+1,i,C,acc,ay,q5,a6,ch,cJ,c8=>by
  have ec:i < x.b8.length:=by omega
  obtain⟨arT,adx⟩:=hm _ (j1 ec ii)
  have next : ∀ (w : ak) (Jf : List Int), xJ ts (!odd) (x.b8.getD i ii).e2 w -> qa w -> MF Jf C -> wt w + 32574360 * Jf.length <= NM r + 32574360 * C.length ->
   ∃QA m',(if room 120 (acc++[w]).length=true then Yr (e0 .i64 (i:Int) 1,ts,Jf,odd,a0,a1,a2,a3,a4,x.Kind,x.Name,x.hU,x.hV,x.Max,x.hl,x.b8,x.Key,x.ev,x.Open,v0,v1,v2,v3,v4,acc++[w])else none)=some (ts,m',odd,a0,a1,a2,a3,a4,x.Kind,x.Name,x.hU,x.hV,x.Max,x.hl,x.b8,x.Key,x.ev,x.Open,v0,v1,v2,v3,v4,QA)/\
    QA.length=x.b8.length/\(∀j,j < x.b8.length->xJ ts (!odd) (x.b8.getD j ii).e2 (QA.getD j eJ))/\(∀y,y∈QA->qa y)/\MF m' C/\ry QA+32574360*m'.length<=ry acc+(k+1)*NM r+32574360*C.length:=by
   intro w Jf hw Np hs adF;rw[ao (CJ (by omega) (by simp;omega)),j2 (by omega)]
   obtain⟨QA,m',b1,b2,k9,Oo,N8,T9⟩:=aJt b7 amP hm a0 a1 a2 a3 a4 v0 v1 v2 v3 v4 k (i+1) Jf (acc++[w]) (by omega) (q5.DJ hs) (by have:=hs.1;omega) (by simp;omega) (λj c7=>by
    grind) (λy bJ=>by
    rcases Nw.1 bJ with h | h
    . exact c8 y h
    . have:y=w:=by simpa using h
      subst this;exact Np)
   refine⟨QA,m',b1,b2,k9,Oo,N8.trans hs,?_⟩;rw[ae8,TX,OX]at T9;have e:(k+1)*NM r=k*NM r+NM r:=Nat.succ_mul _ _;omega
  rw[Yr,ao (by simp;omega),ao (gA ec)];simp only[g',cm,hJ,ak.h7];cases a7:(x.b8.getD i ii).nk with
  | true=>
   obtain⟨f1,f2,f3⟩:=adx a7;obtain⟨q,Jf,I0,D',Jm,p',L9⟩:=WO (ts:=ts) (n:=3) ⟨by omega,by omega⟩ q5 (by omega) odd;rw[ao rfl,I0];simp only[cm,RG];by_cases h0:q=0
   . rw[ao (by simpa using h0)];have:=p'.1;have:=atc r;rw[ao (gA ec)];exact next _ Jf (aVu f1 _) f2 p' (by omega)
   . rw[aJ (by simpa using h0),ao (gA ec)];obtain⟨w,KU,m1,m2,m3,m4,m5⟩:=arT Jf (q5.DJ p') (by have:=p'.1;omega);rw[m1];simp only[cm,ak.h7];have:=p'.1;exact next w KU m2 m3 (m4.trans p') (by omega)
  | false=>
   rw[aJ (by simp),aJ (by simp),ao (gA ec)];obtain⟨w,KU,m1,m2,m3,m4,m5⟩:=arT C q5 a6
   grind
theorem aHC {odd:Bool} {c r:Nat} (b7:c <=1000) {x:f7} (J7:∀C,OE C -> C.length <=c -> acm ts odd C r x.ev)
 (a0:Int) (a1:Bool) (a2:Int) (a3:List UInt8) (a4:Int) (v0:Int) (v1:Bool) (v2:Int) (v3:List UInt8) (v4:Int):
 ∀(k:Nat) (C:List Int) (acc:List ak),acc.length+k<=100->OE C->C.length<=c->(∀y,y∈acc->xJ ts (!odd) x.ev y/\qa y)->
 ∃QA m',acV ((k:Int),ts,C,odd,a0,a1,a2,a3,a4,x.Kind,x.Name,x.hU,x.hV,x.Max,x.hl,x.b8,x.Key,x.ev,x.Open,v0,v1,v2,v3,v4,acc)=some (ts,m',odd,a0,a1,a2,a3,a4,v0,v1,v2,v3,v4,QA)/\
  QA.length=acc.length+k/\(∀y,y∈QA->xJ ts (!odd) x.ev y/\qa y)/\MF m' C/\ry QA+32574360*m'.length<=ry acc+k*NM r+32574360*C.length
 | 0,C,acc,ch,q5,a6,cJ=>⟨acc,C,by rw[acV,aJ (by simp)],by omega,cJ,MF.refl _,by omega⟩
 | k+1,C,acc,ch,q5,a6,cJ=>by
  have Rt:decide ((0:Int) < ((k+1:Nat):Int))=true:=by rw[ye];omega
  have e:BJ .i64 ((k+1:Nat):Int) 1=(k:Int):=by rw[Q7 (by omega) (by omega)];omega
  obtain⟨w,KU,m1,m2,m3,m4,m5⟩:=J7 C q5 a6;rw[acV,ao Rt,m1];simp only[g',cm,ak.h7];rw[ao (CJ (by omega) (by simp;omega)),e];obtain⟨QA,m',b1,b2,k9,Oo,N8⟩:=aHC b7 J7 a0 a1 a2 a3 a4 v0 v1 v2 v3 v4 k KU (acc++[w]) (by simp;omega) (q5.DJ m4) (by have:=m4.1;omega) (λy bJ=>by grind)
  refine⟨QA,m',b1,by simp at b2;omega,k9,Oo.trans m4,?_⟩;rw[ae8,TX,OX]at N8
  grind
theorem aJu {odd:Bool} {c r:Nat} (b7:c <=1000) {x:f7} (qs:∀C,OE C -> C.length <=c -> acm ts odd C r x.Key) (J7:∀C,OE C -> C.length <=c -> acm ts odd C r x.ev)
 (a0:Int) (a1:Bool) (a2:Int) (a3:List UInt8) (a4:Int) (v0:Int) (v1:Bool) (v2:Int) (v3:List UInt8) (v4:Int) (R:List pI):
 ∀(k:Nat) (C:List Int) (ks is:List ak),ks.length+k<=100->is.length=ks.length->OE C->C.length<=c->(∀y,y∈ks->xJ ts (!odd) x.Key y/\qa y)->(∀y,y∈is->xJ ts (!odd) x.ev y/\qa y)->TZ ks->
 ∃abX ai' m',acW ((k:Int),ts,C,odd,a0,a1,a2,a3,a4,x.Kind,x.Name,x.hU,x.hV,x.Max,x.hl,x.b8,x.Key,x.ev,x.Open,v0,v1,v2,v3,v4,ks,is,R)=some (ts,m',odd,a0,a1,a2,a3,a4,v0,v1,v2,v3,v4,abX,ai',R)/\
  abX.length<=ks.length+k/\ai'.length=abX.length/\(∀y,y∈abX->xJ ts (!odd) x.Key y/\qa y)/\(∀y,y∈ai'->xJ ts (!odd) x.ev y/\qa y)/\TZ abX/\MF m' C/\ry abX+ry ai'+32574360*m'.length<=ry ks+ry is+2*(k*NM r)+32574360*C.length
 | 0,C,ks,is,ch,ax6,q5,a6,cJ,b9,Z7=>⟨ks,is,C,by rw[acW,aJ (by simp)],by omega,ax6,cJ,b9,Z7,MF.refl _,by omega⟩
 | k+1,C,ks,is,ch,ax6,q5,a6,cJ,b9,Z7=>by
  have Rt:decide ((0:Int) < ((k+1:Nat):Int))=true:=by rw[ye];omega
  have e:BJ .i64 ((k+1:Nat):Int) 1=(k:Int):=by rw[Q7 (by omega) (by omega)];omega
  obtain⟨w,KU,m1,m2,m3,m4,m5⟩:=qs C q5 a6;have E8:=m4.1;obtain⟨z,ajU,I0,D',Jm,p',L9⟩:=J7 KU (q5.DJ m4) (by omega);have aiS:=p'.1;obtain⟨a03,a0V,aaq,aoi,agC,a1w,a1x,aK9,a1y⟩:=aX0 (v:=⟨v0,v1,v2,v3,v4,ks,is,R⟩) (key:=w) (item:=z) (by show ks.length < 1000;omega) ax6 (λy bJ=>aid (cJ y bJ).2) (aid m3) Z7;simp only at aaq agC a1x aK9 a1y
  rw[acW,ao Rt,m1];simp only[g',cm,ak.h7];rw[I0];simp only[cm,ak.h7];rw[aaq];simp only[cm];rw[e]
  obtain⟨abX,ai',m',b1,b2,k9,Oo,N8,T9,abq,afz⟩:=aJu b7 qs J7 a0 a1 a2 a3 a4 v0 v1 v2 v3 v4 R k ajU a03 a0V (by omega) aoi ((q5.DJ m4).DJ p') (by omega) (λy bJ=>by
   grind) (λy bJ=>by
   rcases aK9 y bJ with h | h
   . exact b9 y h
   . subst h;exact⟨D',Jm⟩) a1w
  refine⟨abX,ai',m',b1,by omega,k9,Oo,N8,T9,abq.trans (p'.trans m4),?_⟩
  grind
end
section
variable {ts:List f7}
theorem afw{v:ak}(hs:v.js.length<=1000)(hk:∀x,x∈v.eI->qa x)(ay:∀x,x∈v.cy->qa x)(h1:v.eI.length<=1000)(ah:v.cy.length<=1000)(b':v.Rest.length<=1000)(ar:∀x,x∈v.Rest->x.Data.length<=1000/\nc x.a8)(I0:nc v.Kind)(D':nc v.hX)(Jm:nc v.a8):qa v:=
 .mk v (by unfold reachBytes;omega) (by unfold reachBytes;omega) (by unfold reachBytes;omega) (by unfold reachBytes;omega) hk ay (λx ad=>by have:=(ar x ad).1;unfold reachBytes;omega) I0 D' Jm (λx ad=>(ar x ad).2)
theorem afh{n:Int}(h:qj n):nc n:=by unfold qj at h;unfold nc;omega
def ao8(ts:List f7)(odd:Bool)(c r:Nat):Prop:=∀t:Nat,t < ts.length->Vr ts t<=r->∀C,OE C->C.length<=c->acm ts odd C r (t:Int)
theorem axr(H:Q3 ts){t:Nat}(ht:t < ts.length):Vr ts t<=5:=by
 unfold Vr;have:=H.L9
 grind
theorem aWh(H:Q3 ts){odd:Bool}{c r:Nat}(b7:c<=60)(aMK:∀C4,C4 < c->ao8 ts odd C4 5)(aML:∀I1,I1 < r->ao8 ts odd c I1):ao8 ts odd c r:=by
 intro t ht arY C q5 a6;have OM:=j1 ht hz;have q0:=H.V.F _ OM;have vk:=H.T _ OM;have a3x:=H.M _ OM;obtain⟨axy,axz,aJC⟩:=H.ns _ OM;have JG:=H.R t ht;have vK:=H.L _ OM;have arE:=H.V.U _ OM;have NG:=H.D _ OM;have v':=H.W _ OM;have V9:Vr ts t=if 7<=(ts.getD t hz).Kind then 0 else t+1:=rfl
 unfold acm;rw[TU,ao (gA ht)];simp only[g',cm,hJ];have ado:=λv=>WN (ts:=ts) (!odd) (t:Int) v
 simp only[hJ]at ado;generalize ad:ts.getD t hz=x at*;have a3i:=atc r;have yb:(0:Int)<=t/\(t:Int) < ts.length:=by omega
 have leaf:∀(v:ak) (m':List Int),v.eI=[]->v.cy=[]->v.Rest=[]->v.js.length<=3->MF m' C->wt v+32574360*m'.length<=NM r+32574360*C.length:=λv m' a b c d e=>by rw[aHy a b c];have:=e.1;omega
 have below:∀Jf:List Int,Jf.length+1=C.length->∀u:Int,0<=u->u < ts.length->∀KU,OE KU->KU.length<=Jf.length->acm ts odd KU 5 u:=λJf h1 u agd a3L KU abH E8=>by
  obtain⟨k,rfl⟩:∃k:Nat,u=(k:Int):=⟨u.toNat,by omega⟩
  exact aMK Jf.length (by omega) k (by omega) (axr H (by omega)) KU abH E8
 have aKS:x.Kind=5\/x.Kind=6->1<=r/\∀m,m∈x.b8->∀KU,OE KU->KU.length<=c->acm ts odd KU (r - 1) m.e2:=λhk=>by
  have Y9:Vr ts t=t+1:=by rw[V9,aJ (by omega)]
  refine⟨by omega,λm hm KU abH E8=>?_⟩;obtain⟨a,b,adi⟩:=JG m hm;obtain⟨k,Uj⟩:∃k:Nat,m.e2=(k:Int):=⟨m.e2.toNat,by omega⟩
  rw[Uj]at adi ⊢;refine aML (r - 1) (by omega) k (by omega) ?_ KU abH E8;have:Vr ts k<=t:=by
   unfold Vr
   grind
  omega
 have af8:x.hl.length < 9223372036854775807:=Jg (Qz vk.syms);have ax8:x.b8.length < 9223372036854775807:=Jg (Qz vk.OP);unfold NN at q0;rcases q0 with⟨k,_⟩ | ⟨k,f1,f2,_⟩ | ⟨k,f1,f2,f3,f4,_⟩ | ⟨k,f1,f2,f3,f4,f5,_⟩ | ⟨k,f1,f2,f3,f4,f5,f6,_⟩ | ⟨k,f1,f2,f3,f4,f5,f6,_⟩ | ⟨k,f1,f2,f3,f4,_⟩ | ⟨k,f1,f2,f3,f4,_⟩ | ⟨k,_⟩
 . obtain⟨q,Jf,I0,D',Jm,p',L9⟩:=WO (ts:=ts) (n:=2) ⟨by omega,by omega⟩ q5 (by omega) odd;rw[ao (by simp[k]),I0];refine⟨_,Jf,rfl,?_,abe rfl rfl rfl (by simp) (by simp[nc,k]) (by simp[nc]) (by simp[nc]),p',leaf _ _ rfl rfl rfl (by simp) p'⟩
   grind
 . obtain⟨q,Jf,I0,D',Jm,p',L9⟩:=WO (ts:=ts) (n:=256) ⟨by omega,by omega⟩ q5 (by omega) odd;have a3m:=vK k;have eh:e0 .i64 (BJ .i64 x.hV x.hU) 1=x.hV - x.hU+1:=by rw[Q7 (by omega) (by omega),UJ (by omega) (by omega)]
   have aca:0<=q % (x.hV - x.hU+1):=Ye _ (by omega);have kJ:q % (x.hV - x.hU+1) < x.hV - x.hU+1:=Yc _ (by omega);rw[aJ (by simp[k]),ao (by simp[k]),I0];simp only[cm];rw[eh,ao (ags (by omega)),OY D' (by omega),UJ (by omega) (by omega)]
   refine⟨_,Jf,rfl,?_,abe rfl rfl rfl (by simp) (by simp[nc,k]) (by simp only[nc];omega) (by simp[nc]),p',leaf _ _ rfl rfl rfl (by simp) p'⟩
   grind
 . obtain⟨s,Jf,I0,D',Jm,p'⟩:=aWg (ts:=ts) (most:=x.Max) ⟨f4.1,by omega⟩ q5 (by omega) odd;rw[aJ (by simp[k]),aJ (by simp[k]),ao (by simp[k]),I0];refine⟨_,Jf,rfl,?_,abe rfl rfl rfl (by show s.length<=1000;omega) (by simp[nc,k]) (by simp[nc]) (by simp[nc]),p',leaf _ _ rfl rfl rfl Jm p'⟩
   grind
 . have aac:=f5.1;have a3J:=f5.2.2.2.2;have aKn:=f5.2.1.2;obtain⟨q,Jf,I0,D',Jm,p',L9⟩:=WO (ts:=ts) (n:=(x.hl.length:Int)) ⟨by omega,by omega⟩ q5 (by omega) odd;obtain⟨j,rfl⟩:∃j:Nat,q=(j:Int):=⟨q.toNat,by omega⟩
   have adC:=p'.1;have c7:j < x.hl.length:=by omega
   have bJ:=j1 c7 I';rw[aJ (by simp[k]),aJ (by simp[k]),aJ (by simp[k]),ao (by simp[k]),I0];simp only[cm];rw[ao (gA c7)];simp only[hJ];cases c8:x.Open with
   | false=>
    rw[aJ (by simp),aJ (by simp)];refine⟨_,Jf,rfl,?_,abe rfl rfl rfl (by simp) (by simp[nc,k]) (by simp[nc]) (afh (aKn _ bJ)),p',leaf _ _ rfl rfl rfl (by simp) p'⟩
    grind
   | true=>
    obtain⟨o,KU,KY,KZ,JD⟩:=axq (ts:=ts) (q5.DJ p') (by omega) odd;have arR:=JD.1;rw[ao rfl,KY];simp only[cm,RG];cases o with
    | false=>
     rw[aJ (by simp)];refine⟨_,KU,rfl,?_,abe rfl rfl rfl (by simp) (by simp[nc,k]) (by simp[nc]) (afh (aKn _ bJ)),(JD.trans p'),leaf _ _ rfl rfl rfl (by simp) (JD.trans p')⟩
     grind
    | true=>
     have ayf:odd=true:=by grind
     obtain⟨n,ajU,Ws,Zn,aeg,Uz⟩:=awB (ts:=ts) ax8 af8 axy axz ((q5.DJ p').DJ JD) (by omega) odd;rw[ao rfl,Ws];refine⟨_,ajU,rfl,?_,abe rfl rfl rfl (by simp) (by simp[nc,k]) (by simp[nc]) (afh Zn),Uz.trans (JD.trans p'),leaf _ _ rfl rfl rfl (by simp) (Uz.trans (JD.trans p'))⟩
     grind
 . obtain⟨Ru,C3⟩:=aKS (.inl k);obtain⟨acc,Jf,b1,b2,k9,Oo,N8,T9⟩:=aJt (ts:=ts) (odd:=odd) (c:=c) (r:=r - 1) (by omega) (x:=x) aJC (λm hm=>⟨C3 m hm,λa7=>⟨NG m hm a7,vk.V1 m hm,v' m hm a7⟩⟩) 0 false 0 [] 0 x.Kind false 0 [] 0 x.b8.length 0 C [] (by omega) q5 a6 rfl (λj c7=>by omega) (λy bJ=>by cases bJ)
   have aNd:Yr (0,ts,C,odd,0,false,0,[],0,x.Kind,x.Name,x.hU,x.hV,x.Max,x.hl,x.b8,x.Key,x.ev,x.Open,x.Kind,false,0,[],0,[])=_:=b1;have adC:=N8.1;have a3j:NM r=12*NM (r - 1)+20:=by
    obtain⟨I1,rfl⟩:∃I1,r=I1+1:=⟨r - 1,by omega⟩
    rfl
   have hmul:x.b8.length*NM (r - 1)<=12*NM (r - 1):=K0 _ aJC;rw[OX]at T9;have arL:Pm ts (!odd) x.b8 acc:=abc.2 ⟨b2,k9⟩;rw[aJ (by simp[k]),aJ (by simp[k]),aJ (by simp[k]),aJ (by simp[k]),ao (by simp[k]),aNd];simp only[cm];obtain⟨o,KU,KY,KZ,JD⟩:=axq (ts:=ts) (q5.DJ N8) (by omega) odd
   have arR:=JD.1;rw[KY];simp only[cm];cases o with
   | false=>
    rw[aJ (by simp)];refine⟨_,KU,rfl,?_,afw (by simp) (λy bJ=>by cases bJ) Oo (by simp) (by show acc.length<=1000;omega) (by simp) (λy bJ=>by cases bJ) (by simp[nc,k]) (by simp[nc]) (by simp[nc]),JD.trans N8,?_⟩
    . exact(ado _).2 ⟨⟨yb.1,yb.2,rfl,λ_=>rfl⟩,.inr (.inr (.inr (.inr (.inl ⟨k,rfl,rfl,rfl,rfl,rfl,⟨.nil,λy bJ=>by cases bJ⟩,arL⟩))))⟩
    . rw[Qv];simp only[OX,Qo,agu,ajo];omega
   | true=>
    have ayf:odd=true:=by grind
    obtain⟨n,ajU,Ws,Zn,aeg,Uz⟩:=awB (ts:=ts) ax8 af8 axy axz ((q5.DJ N8).DJ JD) (by omega) odd;have aZ3:=Uz.1;obtain⟨d,atf,d1,d2,d3⟩:=aGG (ts:=ts) (n:=n) (((q5.DJ N8).DJ JD).DJ Uz) (by omega) odd;have aZ4:=d3.1;rw[ao rfl,aqk,Ws];simp only[cm];rw[d1];simp only[cm]
    refine⟨_,atf,rfl,?_,afw (by simp) (λy bJ=>by cases bJ) Oo (by simp) (by show acc.length<=1000;omega) (by simp) (λy bJ=>?_) (by simp[nc,k]) (by simp[nc]) (by simp[nc]),d3.trans (Uz.trans (JD.trans N8)),?_⟩
    . refine(ado _).2 ⟨⟨yb.1,yb.2,rfl,λh=>by simp[ayf]at h⟩,.inr (.inr (.inr (.inr (.inl ⟨k,rfl,rfl,rfl,rfl,rfl,⟨by simp,λy bJ=>?_⟩,arL⟩))))⟩
      grind
    . have:y=⟨n,d⟩:=by simpa using bJ
      subst this;exact⟨by show d.length<=1000;omega,afh Zn⟩
    . rw[Qv];simp only[OX,Qo,QX,agu,adS,ajo];omega
 . obtain⟨Ru,C3⟩:=aKS (.inr k);have a3n:0 < x.b8.length:=by
    rcases f6.2.1 with h | h
    . cases h
    . exact h
   have abG:NM (r - 1)+20<=NM r:=by
    obtain⟨I1,rfl⟩:∃I1,r=I1+1:=⟨r - 1,by omega⟩
    have:=atc I1;show NM I1+20<=12*NM I1+20;omega
   have arm : ∀ ate, MF ate C -> ∃ v m', (Option.bind (RU ((x.b8.length : Int), ts, ate, odd)) λYi => if ez Yi.1 x.b8.length = true then
    (TU ((x.b8.getD Yi.1.toNat ii).e2,Yi.2.1,Yi.2.2.1,Yi.2.2.2)).bind λacb=>
     some ((⟨x.Kind,false,0,[],(x.b8.getD Yi.1.toNat ii).a8,[],[acb.1],[]⟩:ak),acb.2.1,acb.2.2.1,acb.2.2.2)
    else none)=some (v,ts,m',odd)/\xJ ts (!odd) (t:Int) v/\qa v/\MF m' C/\wt v+32574360*m'.length<=NM r+32574360*C.length:=by
    intro ate PT;have a3u:=PT.1;obtain⟨q,Jf,I0,D',Jm,p',L9⟩:=WO (ts:=ts) (n:=(x.b8.length:Int)) ⟨by omega,by omega⟩ (q5.DJ PT) (by omega) odd;obtain⟨j,rfl⟩:∃j:Nat,q=(j:Int):=⟨q.toNat,by omega⟩
    have adC:=p'.1;have c7:j < x.b8.length:=by omega
    have hm:=j1 c7 ii;obtain⟨w,KU,m1,m2,m3,m4,m5⟩:=C3 _ hm Jf ((q5.DJ PT).DJ p') (by omega);have arR:=m4.1;rw[I0];simp only[cm];rw[ao (gA c7)];simp only[hJ];rw[m1];simp only[cm];have C2:=f6.2.2.1.2 _ hm
    refine⟨_,KU,rfl,?_,afw (by simp) (λy bJ=>by cases bJ) (λy bJ=>?_) (by simp) (by simp) (by simp) (λy bJ=>by cases bJ) (by simp[nc,k]) (by simp[nc]) (afh C2),m4.trans (p'.trans PT),?_⟩
    . refine(ado _).2 ⟨⟨yb.1,yb.2,rfl,λ_=>rfl⟩,.inr (.inr (.inr (.inr (.inr (.inl ⟨k,rfl,rfl,rfl,rfl,?_⟩)))))⟩;have aZP:zJ x.b8 (x.b8.getD j ii).a8=some (x.b8.getD j ii):=by
       unfold zJ;rw[asu];refine⟨by simp,j,c7,(Ld c7 _).symm,λi ay=>?_⟩;have bo:=adV.1 f6.2.2.1.1 i j (by omega) c7 ay;rw[Ld c7];simp;omega
      simp only[aZP];refine⟨by first | rfl | trivial,by first | rfl | trivial,?_⟩;rw[Lc];intro y bJ;have:y=w:=by simpa using bJ
      subst this;exact m2
    . have:y=w:=by simpa using bJ
      subst this;exact m3
    . rw[Qv];simp only[TX,OX,Qo,agu,ajo];omega
   rw[aJ (by simp[k]),aJ (by simp[k]),aJ (by simp[k]),aJ (by simp[k]),aJ (by simp[k]),ao (by simp[k])];simp only[ak.h7];cases c8:x.Open with
   | false=>
    rw[aJ (by simp),aJ (by simp)];obtain⟨v,m',a1,a2,a3,a4,a5⟩:=arm C (MF.refl _)
    grind
   | true=>
    obtain⟨o,KU,KY,KZ,JD⟩:=axq (ts:=ts) q5 (by omega) odd;have arR:=JD.1;rw[ao rfl,KY];simp only[cm,RG];cases o with
    | false=>grind
    | true=>
     have ayf:odd=true:=by grind
     obtain⟨n,ajU,Ws,Zn,aeg,Uz⟩:=awB (ts:=ts) ax8 af8 axy axz (q5.DJ JD) (by omega) odd;have aZ3:=Uz.1;obtain⟨d,atf,d1,d2,d3⟩:=aGG (ts:=ts) (n:=n) ((q5.DJ JD).DJ Uz) (by omega) odd;have aZ4:=d3.1;rw[ao rfl,Ws];simp only[cm];rw[d1];simp only[cm]
     refine⟨_,atf,rfl,?_,afw (by simp) (λy bJ=>by cases bJ) (λy bJ=>by cases bJ) (by simp) (by simp) (by simp) (λy bJ=>?_) (by simp[nc,k]) (by simp[nc]) (afh Zn),d3.trans (Uz.trans JD),?_⟩
     . grind
     . have:y=⟨n,d⟩:=by simpa using bJ
       subst this;exact⟨by show d.length<=1000;omega,afh Zn⟩
     . rw[Qv];simp only[OX,Qo,QX,agu,adS,ajo];omega
 . have em:e0 .i64 (SU x.Max 3) 1=min x.Max 3+1:=by
    have:SU x.Max 3=min x.Max 3:=rfl;rw[this,UJ (by omega) (by omega)]
   have O9:0<=x.ev/\x.ev < ts.length:=arE x.ev (by unfold LL;simp[k]);obtain⟨q,Jf,I0,D',Jm,p',L9⟩:=WO (ts:=ts) (n:=min x.Max 3+1) ⟨by omega,by omega⟩ q5 (by omega) odd;obtain⟨j,rfl⟩:∃j:Nat,q=(j:Int):=⟨q.toNat,by omega⟩
   have adC:=p'.1
   have loop:∃acc m',acV ((j:Int),ts,Jf,odd,0,false,0,[],0,x.Kind,x.Name,x.hU,x.hV,x.Max,x.hl,x.b8,x.Key,x.ev,x.Open,x.Kind,false,0,[],0,[])=some (ts,m',odd,0,false,0,[],0,x.Kind,false,0,[],0,acc)/\acc.length=j/\(∀y,y∈acc->xJ ts (!odd) x.ev y/\qa y)/\MF m' C/\10+ry acc+32574360*m'.length<=NM r+32574360*C.length:=by
    rcases L9 with⟨h0,h1,ah⟩ | h1
    . have:j=0:=by omega
      subst this;refine⟨[],Jf,by rw[acV,aJ (by simp)],rfl,λy bJ=>(by cases bJ),p',?_⟩;rw[OX];omega
    . obtain⟨acc,m',b1,b2,k9,Oo,N8⟩:=aHC (ts:=ts) (odd:=odd) (c:=Jf.length) (r:=5) (by omega) (x:=x) (λKU abH E8=>below Jf h1 x.ev O9.1 O9.2 KU abH E8) 0 false 0 [] 0 x.Kind false 0 [] 0 j Jf [] (by simp;omega) (q5.DJ p') (by omega) (λy bJ=>by cases bJ);refine⟨acc,m',b1,by simpa using b2,k9,Oo.trans p',?_⟩;rw[OX,ajT]at N8;omega
   obtain⟨acc,m',b1,b2,k9,Oo,N8⟩:=loop;rw[aJ (by simp[k]),aJ (by simp[k]),aJ (by simp[k]),aJ (by simp[k]),aJ (by simp[k]),aJ (by simp[k]),ao (by simp[k]),em,I0];simp only[cm];rw[b1];simp only[cm]
   refine⟨_,m',rfl,?_,afw (by simp) (λy bJ=>by cases bJ) (λy bJ=>(k9 y bJ).2) (by simp) (by show acc.length<=1000;omega) (by simp) (λy bJ=>by cases bJ) (by simp[nc,k]) (by simp[nc]) (by simp[nc]),Oo,?_⟩
   . exact(ado _).2 ⟨⟨yb.1,yb.2,rfl,λ_=>rfl⟩,.inr (.inr (.inr (.inr (.inr (.inr (.inl ⟨k,rfl,rfl,rfl,rfl,rfl,rfl,by show(acc.length:Int)<=x.Max;omega,Lc.2 λy bJ=>(k9 y bJ).1⟩))))))⟩
   . rw[Qv];simp only[OX,Qo,agu,ajo];omega
 . have em:e0 .i64 (SU x.Max 3) 1=min x.Max 3+1:=by
    have:SU x.Max 3=min x.Max 3:=rfl;rw[this,UJ (by omega) (by omega)]
   have O9:0<=x.ev/\x.ev < ts.length:=arE x.ev (by unfold LL;simp[k]);have Y6:0<=x.Key/\x.Key < ts.length:=arE x.Key (by unfold LL;simp[k]);obtain⟨q,Jf,I0,D',Jm,p',L9⟩:=WO (ts:=ts) (n:=min x.Max 3+1) ⟨by omega,by omega⟩ q5 (by omega) odd;obtain⟨j,rfl⟩:∃j:Nat,q=(j:Int):=⟨q.toNat,by omega⟩
   have adC:=p'.1;have aJG:TZ []:=λi ay=>by simp at ay
   have loop:∃ks is m',acW ((j:Int),ts,Jf,odd,0,false,0,[],0,x.Kind,x.Name,x.hU,x.hV,x.Max,x.hl,x.b8,x.Key,x.ev,x.Open,x.Kind,false,0,[],0,[],[],[])=some (ts,m',odd,0,false,0,[],0,x.Kind,false,0,[],0,ks,is,[])/\ks.length<=j/\is.length=ks.length/\(∀y,y∈ks->xJ ts (!odd) x.Key y/\qa y)/\(∀y,y∈is->xJ ts (!odd) x.ev y/\qa y)/\TZ ks/\MF m' C/\10+ry ks+ry is+32574360*m'.length<=NM r+32574360*C.length:=by
    rcases L9 with⟨h0,h1,ah⟩ | h1
    . have:j=0:=by omega
      subst this;refine⟨[],[],Jf,by rw[acW,aJ (by simp)],by simp,rfl,λy bJ=>(by cases bJ),λy bJ=>(by cases bJ),aJG,p',?_⟩;rw[OX];omega
    . obtain⟨ks,is,m',b1,b2,k9,Oo,N8,T9,abq,afz⟩:=aJu (ts:=ts) (odd:=odd) (c:=Jf.length) (r:=5) (by omega) (x:=x) (λKU abH E8=>below Jf h1 x.Key Y6.1 Y6.2 KU abH E8) (λKU abH E8=>below Jf h1 x.ev O9.1 O9.2 KU abH E8) 0 false 0 [] 0 x.Kind false 0 [] 0 [] j Jf [] [] (by simp;omega) rfl (q5.DJ p') (by omega) (λy bJ=>by cases bJ) (λy bJ=>by cases bJ) aJG
      refine⟨ks,is,m',b1,by simpa using b2,k9,Oo,N8,T9,abq.trans p',?_⟩;rw[OX,ajT]at afz;omega
   obtain⟨ks,is,m',b1,b2,k9,Oo,N8,T9,abq,afz⟩:=loop;rw[aJ (by simp[k]),aJ (by simp[k]),aJ (by simp[k]),aJ (by simp[k]),aJ (by simp[k]),aJ (by simp[k]),aJ (by simp[k]),ao (by simp[k]),em,I0];simp only[cm];rw[b1];simp only[cm]
   refine⟨_,m',rfl,?_,afw (by simp) (λy bJ=>(Oo y bJ).2) (λy bJ=>(N8 y bJ).2) (by show ks.length<=1000;omega) (by show is.length<=1000;omega) (by simp) (λy bJ=>by cases bJ) (by simp[nc,k]) (by simp[nc]) (by simp[nc]),abq,?_⟩
   . exact(ado _).2 ⟨⟨yb.1,yb.2,rfl,λ_=>rfl⟩,.inr (.inr (.inr (.inr (.inr (.inr (.inr (.inl ⟨k,rfl,rfl,rfl,rfl,rfl,by show(ks.length:Int)<=x.Max;omega,k9,Lc.2 λy bJ=>(Oo y bJ).1,Lc.2 λy bJ=>(N8 y bJ).1,T9⟩)))))))⟩
   . rw[Qv]
     grind
 . have O9:0<=x.ev/\x.ev < ts.length:=arE x.ev (by unfold LL;simp[k]);obtain⟨q,Jf,I0,D',Jm,p',L9⟩:=WO (ts:=ts) (n:=2) ⟨by omega,by omega⟩ q5 (by omega) odd;have adC:=p'.1;rw[aJ (by simp[k]),aJ (by simp[k]),aJ (by simp[k]),aJ (by simp[k]),aJ (by simp[k]),aJ (by simp[k]),aJ (by simp[k]),aJ (by simp[k]),I0]
   simp only[cm,ak.h7];by_cases h1:q=1
   . have V6:Jf.length+1=C.length:=by omega
     obtain⟨w,KU,m1,m2,m3,m4,m5⟩:=below Jf V6 x.ev O9.1 O9.2 Jf (q5.DJ p') (by omega);have arR:=m4.1;rw[ajT]at m5;rw[ao (by simpa using h1),m1];simp only[cm]
     refine⟨_,KU,rfl,?_,afw (by simp) (λy bJ=>by cases bJ) (λy bJ=>?_) (by simp) (by simp) (by simp) (λy bJ=>by cases bJ) (by simp[nc,k]) (by simp[nc]) (by simp[nc]),m4.trans p',?_⟩
     . refine(ado _).2 ⟨⟨yb.1,yb.2,rfl,λ_=>rfl⟩,.inr (.inr (.inr (.inr (.inr (.inr (.inr (.inr ⟨k,rfl,rfl,rfl,rfl,rfl,rfl,by simp,Lc.2 λy bJ=>?_⟩)))))))⟩
       grind
     . grind
     . rw[Qv];simp only[TX,OX,Qo,agu,ajo];omega
   . rw[aJ (by simpa using h1)];refine⟨_,Jf,rfl,?_,abe rfl rfl rfl (by simp) (by simp[nc,k]) (by simp[nc]) (by simp[nc]),p',leaf _ _ rfl rfl rfl (by simp) p'⟩;exact(ado _).2 ⟨⟨yb.1,yb.2,rfl,λ_=>rfl⟩,.inr (.inr (.inr (.inr (.inr (.inr (.inr (.inr ⟨k,rfl,rfl,rfl,rfl,rfl,rfl,by simp,Lc.2 λy bJ=>by cases bJ⟩)))))))⟩
theorem aJv(H:Q3 ts){odd:Bool}:∀(c:Nat),c<=60->∀r,ao8 ts odd c r:=by
 intro c
 induction c using Nat.strongRecOn with
 | ind c a0Q=>
  intro b7 r
  induction r using Nat.strongRecOn with
  | ind r a0S=>exact aWh H b7 (λC4 h=>a0Q C4 h (by omega) 5) (λI1 h=>a0S I1 h)
theorem aWi(H:Q3 ts){t:Int}(ht:0<=t/\t < ts.length){C:List Int}(q5:OE C)(a6:C.length<=reachBytes):∃v,ap' ((⟨ts⟩:hI),t,C)=some v/\xJ ts true t v/\qa v/\wt v<=2147483648:=by
 obtain⟨j,rfl⟩:∃j:Nat,t=(j:Int):=⟨t.toNat,by omega⟩
 have ar:=Jg a6;have hm:SU 60 (C.length:Int)=((min 60 C.length:Nat):Int):=awi 60 C.length;have hs:OE (C.take (min 60 C.length)):=λc b7=>q5 c (ab4 b7)
 have hlen:(C.take (min 60 C.length)).length<=60:=by rw[aal];omega
 have aac:Jt 0 ((min 60 C.length:Nat):Int) C.length=true:=TY (a:=0) (by omega) (by omega);obtain⟨v,m',h1,ah,b',ea,hf⟩:=aJv H (odd:=false) 60 (by omega) 5 j (by omega) (axr H (by omega)) _ hs hlen;rw[ap'];simp only[g',cm];rw[hm,ao aac,afu,h1];refine⟨v,by simp only[cm,ak.h7],ah,b',?_⟩;rw[ajT]at hf;omega
theorem aTh(H:Q3 ts){t:Int}(ht:0<=t/\t < ts.length){C:List Int}(q5:OE C)(a6:C.length<=reachBytes):∃v,apW ((⟨ts⟩:hI),t,C)=some v/\xJ ts false t v/\qa v/\wt v<=2147483648:=by
 obtain⟨j,rfl⟩:∃j:Nat,t=(j:Int):=⟨t.toNat,by omega⟩
 have ar:=Jg a6;have hm:SU 60 (C.length:Int)=((min 60 C.length:Nat):Int):=awi 60 C.length;have hs:OE (C.take (min 60 C.length)):=λc b7=>q5 c (ab4 b7)
 have hlen:(C.take (min 60 C.length)).length<=60:=by rw[aal];omega
 have aac:Jt 0 ((min 60 C.length:Nat):Int) C.length=true:=TY (a:=0) (by omega) (by omega);obtain⟨v,m',h1,ah,b',ea,hf⟩:=aJv H (odd:=true) 60 (by omega) 5 j (by omega) (axr H (by omega)) _ hs hlen;rw[apW];simp only[g',cm];rw[hm,ao aac,afu,h1];refine⟨v,by simp only[cm,ak.h7],ah,b',?_⟩;rw[ajT]at hf;omega
end
structure ath (d:WG):Prop where
 s:ajW d.S
 t:u4 d.T
 c:OE d.C
 l:d.C.length<=reachBytes
theorem a1l{d:WG}(a7:ath d):(∃s t v w,alf d=some (s,t,v,w,false)) \/
 ∃ts t v w,alf d=some (⟨ts⟩,t,v,w,true)/\Q3 ts/\(0<=t/\t < ts.length)/\(xJ ts true t v/\qa v/\wt v<=2147483648)/\(xJ ts false t w/\qa w/\wt w<=2147483648):=by
 rw[alf];rcases aK4 a7.s with h | ⟨l,h,H⟩
 . rw[h];exact .inl ⟨_,_,_,_,rfl⟩
 . right;have a3z:=H.I0;have a3A:=H.L9;have ht:=a7.t;unfold u4 at ht;have aca:0<=d.T % (l.length:Int):=Ye _ (by omega);have kJ:d.T % (l.length:Int) < l.length:=Yc _ (by omega);obtain⟨v,v1,v2⟩:=aWi H ⟨aca,kJ⟩ a7.c a7.l;obtain⟨w,RO,ach⟩:=aTh H ⟨aca,kJ⟩ a7.c a7.l;rw[h];simp only[g',cm]
   rw[aJ (by simp),ao (ags (by omega)),WU ⟨by omega,by omega⟩,OY ht.1 (by omega),v1];simp only[cm];rw[RO];exact⟨l,_,v,w,by simp only[cm,ak.h7],H,⟨aca,kJ⟩,v2,ach⟩
theorem aVv{ts:List f7}(H:UM ts){v:ak}(cv:qa v)(t:Int)(pl:Bool):xe (VN ((⟨ts⟩:hI),t,v,pl)) (xJ ts pl t v):=by
 obtain⟨r,h1,ah⟩:=aGz (by have:=H.n;omega) H.T H.K cv t pl;obtain⟨q,s4,qi⟩:=aUA (by have:=H.n;omega) H.T H.K cv t pl;rw[h1]at qi;have:r=q:=aan qi;subst this;exact⟨r,s4,ah⟩
theorem aS8{ts:List f7}(vk:∀t,t∈ts->LY t)(QM:YI ts){v:ak}(cv:qa v){t:Int}(cJ:xJ ts false t v):ahg ((⟨ts⟩:hI),t,v)=some 0:=by
 have H:=QM.aea vk;obtain⟨v1,_⟩:=aqU vk QM;obtain⟨⟨g1,g2,_⟩,_⟩:=(WN _ _ _).1 cJ;obtain⟨r,kJ,oJ⟩:=aVv H cv t false;have ar:=oJ.2 cJ;subst ar;have Vb:¬((bif decide (t < 0)then true else decide (((⟨ts⟩:hI).Types.length:Int)<=t))=true):=by grind
 rw[ahg,auB];simp only[aTK,ak.h7];rw[v1];show((if(bif decide (t < 0)then true else decide (((⟨ts⟩:hI).Types.length:Int)<=t))=true then some (4:Int)else some 0) >>=_)=_;rw[aJ Vb];show(aqH ((⟨ts⟩:hI),t,v) >>=_)=_;rw[aqH];simp only[ak.h7];rw[kJ];rfl
theorem aFQ{ts:List f7}(vk:∀t,t∈ts->LY t)(QM:YI ts){v:ak}(cv:qa v){t:Int}(cJ:xJ ts false t v):ak1 ((⟨ts⟩:hI),t,v)=some 0:=by
 have aAr:=QM.aea vk;obtain⟨⟨g1,g2,_⟩,_⟩:=(WN _ _ _).1 cJ;obtain⟨q,s4,qi⟩:=aGz (by have:=aAr.n;omega) vk aAr.K cv t false;have ar:=qi.2 cJ;subst ar;have hN:¬t < 0:=by omega
 have hR:¬(ts.length:Int)<=t:=by omega
 rw[ak1,(aqU vk QM).2];simp only[g',cm];rw[aJ (by simp),aJ (by simp[hN,hR]),auq];simp only[ak.h7];rw[s4];rfl
theorem aVw{l:List Fd}(bo:UK MQ l=true)(dy:l.Pairwise (λa b=>a.id≠b.id)):(OO MQ l).Pairwise (λa b=>a.id < b.id):=by
 have h1:=apP aHq l;have ah:(OO MQ l).Pairwise (λa b=>a.id≠b.id):=(acn MQ l).symm.pairwise dy (λ{a b} h=>λe=>h e.symm);refine(h1.and ah).imp λ{a b} h=>?_
 have:=h.1;have:=h.2;simp only[MQ,aod]at*;omega
theorem aUf{ts:List f7}{ms:List li}{l:List ak}{r:List pI}(h:Q5 ms)(ar:WS ms r):(LE ts ms l r).Pairwise (λa b=>a.id≠b.id):=by
 have:=apB (ts:=ts) (l:=l) h ar;have key:∀q:List Fd,UK MQ q=true->q.Pairwise (λa b=>a.id≠b.id):=by
  intro q
  induction q with
  | nil=>intro _;exact .nil
  | cons a q ih=>
   intro h;simp only[UK,k0,r0,Qp,MQ,ye]at h;rw[Vk]
   grind
 grind
def abD(f:Fd):qy:=⟨(f.id:Int),f.c,f.p⟩
theorem aFj :∀(l:List Fd) (last:Nat) (b:List qy),l.Pairwise (λa b=>a.id < b.id) -> (∀f,f∈l -> last < f.id /\ f.id <=1000) -> (l.flatMap Fd.text).length <=100000 -> b.length+l.length <=90000 ->
 NB ((last:Int),l.flatMap Fd.text,b)=some (.inr (b++l.map abD))
 | [],last,b,_,_,_,_=>by
  rw[NB,aJ (by simp)];simp
 | f::l,last,b,bo,ar,a6,al=>by
  rw[Vk]at bo;obtain⟨h1,ah⟩:=ar f (.head _);rw[MS]at a6 ⊢;have ht:f.text=Ol f.id f.c f.p:=rfl;rw[ht]at a6 ⊢;rw[aSG h1 ah a6 (by simp at al;omega)];have E8:(l.flatMap Fd.text).length<=100000:=by rw[vx]at a6;omega
  rw[aFj l f.id _ bo.2 (λg b9=>⟨bo.1 g b9,(ar g (.tail _ b9)).2⟩) E8 (by simp at al ⊢;omega)];simp[abD]
theorem aTi{p rest:List UInt8}{b:List (List UInt8)}(h:(H' p++rest).length<=100000)(al:b.length<=90000):Py (H' p++rest,b)=Py (rest,b++[p]):=by
 have QQ:p.length<=100000:=by simp only[H',vx]at h;omega
 have hG:H' p++rest≠[]:=by
  intro b7;have ah:=JQ List.length b7;have:=acs p.length;simp only[H',vx,Qo]at ah;omega
 rw[Py,ao (by simp only[ab6,aod];exact hG),XP (by omega),aEX QQ];simp only[g',cm];have Ul:¬((!(ID (some (p,rest))).2.2)=true):=by simp[ID]
 have ar:room 16 (b++[(ID (some (p,rest))).1]).length=true:=CJ (by omega) (by simp;omega);rw[aJ Ul,ao ar];rfl
theorem aGI :∀(l:List (List UInt8)) (b:List (List UInt8)),(l.flatMap H').length<=100000->b.length+l.length<=90000->Py (l.flatMap H',b)=some (.inr (b++l))
 | [],b,_,_=>by
  rw[Py,aJ (by simp)];simp
 | p::l,b,a6,al=>by
  rw[MS]at a6 ⊢;rw[aTi a6 (by simp at al;omega),aGI l _ (by rw[vx]at a6;omega) (by simp at al ⊢;omega)];simp
def Yl :List (List UInt8)->List (List UInt8)->List (List UInt8)
 | k::ks,v::vs=>k::v::Yl ks vs
 | _,_=>[]
theorem aw7 :∀a b,Qm a b=(Yl a b).flatMap H'
 | [],b=>by simp[Qm,Yl]
 | k::ks,[]=>by simp[Qm,Yl]
 | k::ks,v::vs=>by simp[Qm,Yl,aw7 ks vs]
theorem aFk :∀a b:List (List UInt8),a.length=b.length->(Yl a b).length=a.length+b.length
 | [],[],_=>rfl
 | k::ks,v::vs,h=>by
  simp only[Yl,Pg];have:=aFk ks vs (by simpa using h);omega
theorem aTj(p:List UInt8):1<=(H' p).length:=by
 have:=acs p.length;unfold H';rw[vx];omega
theorem aE1 :∀l:List (List UInt8),l.length<=(l.flatMap H').length
 | []=>by simp
 | p::l=>by
  have:=aE1 l;have:=aTj p
  grind
theorem aVx(f:Fd):1<=f.text.length:=by
 have:=acs (2*f.id+(if f.c then 1 else 0));unfold Fd.text Ol;rw[vx];omega
theorem aE2 :∀l:List Fd,l.length<=(l.flatMap Fd.text).length
 | []=>by simp
 | p::l=>by
  have:=aE2 l;have:=aVx p
  grind
theorem aFl{f:Fd}:∀{l:List Fd},f∈l->f.p.length<=(l.flatMap Fd.text).length
 | g::l,h=>by
  rw[MS,vx];rcases LJ.1 h with rfl | h
  . have:f.p.length<=f.text.length:=by unfold Fd.text Ol H';simp only[vx];omega
    omega
  . have:=aFl h;omega
theorem aHD{d:JA}(h:WF u0 ⟨.slice (.nm ag'),d.Jv⟩):ajW d:=by
 obtain⟨a,_,c⟩:=aff (t:= .nm ag') h;refine⟨a,λx ad=>?_⟩;have b7:=c x ad;have u8:∀{n:Int},WF u0 ⟨.int .u8,n⟩->u4 n:=λ{n} h=>by
  cases h with
  | int k n h=>
   simp[Lit.wf,IntKind.min,IntKind.max,IntKind.bits,IntKind.signed]at h;unfold u4;omega
 have hN:=b7 ⟨.int .u8,x.Kind⟩ (.head _);have hR:=b7 ⟨.int .u8,x.A⟩ (.tail _ (.head _));have px:=b7 ⟨.int .u8,x.B⟩ (.tail _ (.tail _ (.head _)));have xi:=b7 ⟨.int .u8,x.C⟩ (.tail _ (.tail _ (.tail _ (.head _))));have vy:=b7 ⟨.slice (.nm ap1),x.r1⟩ (.tail _ (.tail _ (.tail _ (.tail _ (.head _)))));obtain⟨aaq,_,agC⟩:=aff (t:= .nm ap1) vy
 refine⟨u8 hN,u8 hR,u8 px,u8 xi,λq eg=>?_,aaq⟩;have abU:=agC q eg;exact⟨u8 (abU ⟨.int .u8,q.a8⟩ (.head _)),u8 (abU ⟨.int .u8,q.e2⟩ (.tail _ (.head _))),u8 (abU ⟨.int .u8,q.OV⟩ (.tail _ (.tail _ (.head _))))⟩
theorem aVy{d:WG}(h:∀c,c∈u0.afU aRg d->WF u0 c):ath d:=by
 have hN:=h ⟨.slice (.nm ag'),d.S.Jv⟩ (.head _);have hR:=h ⟨.int .u8,d.T⟩ (.tail _ (.head _));have px:=h ⟨.slice (.int .u8),d.C⟩ (.tail _ (.tail _ (.head _)));obtain⟨a,_,c⟩:=aff (t:= .int .u8) px;have u8:∀{n:Int},WF u0 ⟨.int .u8,n⟩->u4 n:=λ{n} h=>by
  cases h with
  | int k n h=>
   simp[Lit.wf,IntKind.min,IntKind.max,IntKind.bits,IntKind.signed]at h;unfold u4;omega
 exact⟨aHD hN,u8 hR,λn dy=>u8 (c n dy ⟨.int .u8,n⟩ (.head _)),a⟩
def PN(n:Nat):List UInt8->Nat
 | []=>n
 | c::s=>PN (n*256+c.toNat) s
theorem aCE :∀(s:List UInt8) (n k:Nat),n < 256 ^ k->PN n s < 256 ^ (k+s.length)
 | [],n,k,h=>by simpa[PN]using h
 | c::s,n,k,h=>by
  have b7:c.toNat < 256:=UInt8.toNat_lt c;have h1:n*256+c.toNat < 256 ^ (k+1):=by rw[an8];omega
  have:=aCE s _ (k+1) h1;simp only[PN,Pg]
  grind
theorem a13{n:Nat}(h:n < 72057594037927936):Zm .u64 (n:Int) 8=((n*256:Nat):Int):=by
 unfold Zm;have e:((2:Int) ^ min (8:Int).toNat IntKind.u64.bits)=256:=by decide
 rw[e];have:(n:Int)*256=((n*256:Nat):Int):=by push_cast;rfl
 rw[this];exact Wt (by omega) (by omega)
theorem aWj{a b:Nat}(ch:a < 72057594037927936)(al:b < 256):ad1 .u64 ((a*256:Nat):Int) (b:Int)=((a*256+b:Nat):Int):=by
 have e:(BitVec.ofInt 64 ((a*256:Nat):Int) ||| BitVec.ofInt 64 (b:Int)).toNat=a*256+b:=by
  rw[ajq,ajq,BitVec.toNat_or,ajf,ajf,ajM,aak (by omega),aak (by omega)];have h:=Nat.shiftLeft_add_eq_or_of_lt (show b < 2 ^ 8 by omega) a;rw[Nat.shiftLeft_eq]at h;exact h.symm
 show IntKind.u64.wrap (((BitVec.ofInt 64 ((a*256:Nat):Int) ||| BitVec.ofInt 64 (b:Int)).toNat:Nat):Int)=_;rw[e];exact Wt (by omega) (by omega)
theorem aX1 :(256:Nat) ^ 8=18446744073709551616:=by decide
theorem alH{s:List UInt8}(hs:s.length<=8):∀(k i n:Nat),i+k=s.length->n < 256 ^ i->Yw (s,(n:Int),(s.length:Int),(i:Int))=some ((PN n (s.drop i):Nat):Int)
 | 0,i,n,ay,dy=>by
  rw[Yw,aJ (by simp;omega),MR (by omega:s.length<=i)];rfl
 | k+1,i,n,ay,dy=>by
  have ec:i < s.length:=by omega
  have al:=akr s i;have ayb:n < 72057594037927936:=by
   have:(256:Nat) ^ i<=256 ^ 7:=ajr (by omega) (by omega);omega
  rw[Yw,ao (by simp;omega),ao (gA ec),a13 ayb,acR,Q2 (by omega),aWj ayb al,j2 (by omega),alH hs k (i+1) _ (by omega) (by rw[an8];omega),NP ec 0];rfl
theorem awl{s:List UInt8}(hs:s.length<=8):∀(k i n:Nat),i+k=s.length->n < 256 ^ i->aa1 (s,(n:Int),(i:Int))=some ((PN n (s.drop i):Nat):Int)
 | 0,i,n,ay,dy=>by
  rw[aa1,aJ (by simp;omega),MR (by omega:s.length<=i)];rfl
 | k+1,i,n,ay,dy=>by
  have ec:i < s.length:=by omega
  have al:=akr s i;have ayb:n < 72057594037927936:=by
   have:(256:Nat) ^ i<=256 ^ 7:=ajr (by omega) (by omega);omega
  have eh:Nv .u64 (n:Int) 256=((n*256:Nat):Int):=agq (b:=256) (by omega);rw[aa1,ao (by simp;omega),ao (gA ec),eh,acR,Q2 (by omega),afx (by omega),j2 (by omega),awl hs k (i+1) _ (by omega) (by rw[an8];omega),NP ec 0];rfl
def P2(s:List UInt8):Option Nat:=if s.head?=some 0\/8 < s.length then none else some (PN 0 s)
theorem aqE{s:List UInt8}{n:Nat}(h:P2 s=some n):n < 18446744073709551616:=by
 unfold P2 at h;split at h
 . cases h
 . rename_i ai;cases h;have:=aCE s 0 0 (by simp);have ah:(256:Nat) ^ (0+s.length)<=256 ^ 8:=ajr (by omega) (by omega);omega
theorem aqV{s:List UInt8}(h:s≠[]):(MD s 0=0)↔s.head?=some 0:=by
 cases s with
 | nil=>exact absurd rfl h
 | cons c s=>
  have:MD (c::s) 0=(c.toNat:Int):=acR (c::s) 0;rw[this];simp only[List.head?_cons,hQ];constructor
  . intro h;exact UInt8.toNat_inj.1 (by simpa using h)
  simp_all
theorem aWk(s:List UInt8):∃r,aeF s=some r/\(r.2=0->∃n,P2 s=some n/\r.1=(n:Int))/\(r.2≠0->P2 s=none):=by
 rw[aeF];simp only[g',cm];by_cases h0:s=[]
 . subst h0;have eh:Yw ([],0,((([]:List UInt8)).length:Int),0)=some ((PN 0 []:Nat):Int):=alH (s:=[]) (by simp) 0 0 0 rfl (by simp);refine⟨(((PN 0 []:Nat):Int),0),?_,λ_=>⟨0,rfl,rfl⟩,λh=>absurd rfl h⟩
   grind
 . have Rt:0 < s.length:=agy.2 h0;have yb:ez 0 s.length=true:=gA (k:=0) Rt;have a7:(!(decide (s=[])))=true:=by simp[h0]
   rw[a7,yb];simp only[ass,qb,RG];by_cases ga:MD s 0=0
   . rw[ao (by simp[ga])];refine⟨_,rfl,λh=>(by cases h),λ_=>?_⟩;unfold P2;rw[ao (.inl ((aqV h0).1 ga))]
   . rw[aJ (by simp[ga])];by_cases Lu:8 < s.length
     . rw[ao (by simp;omega)];refine⟨_,rfl,λh=>(by cases h),λ_=>?_⟩;unfold P2;rw[ao (.inr Lu)]
     . have eh:Yw (s,0,(s.length:Int),0)=some ((PN 0 s:Nat):Int):=alH (by omega) s.length 0 0 (by omega) (by simp);rw[aJ (by simp;omega),eh];refine⟨_,rfl,λ_=>⟨PN 0 s,?_,rfl⟩,λh=>absurd rfl h⟩;unfold P2;rw[aJ]
       rintro (h | h)
       . exact ga ((aqV h0).2 h)
       omega
theorem aTk(s:List UInt8):∃r,aeF s=some r/\apV s=some r/\(r.2=0->∃n,P2 s=some n/\r.1=(n:Int))/\(r.2≠0->P2 s=none):=by
 rw[aeF,apV];simp only[g',cm];by_cases h0:s=[]
 . subst h0;have eh:Yw ([],0,((([]:List UInt8)).length:Int),0)=some ((PN 0 []:Nat):Int):=alH (s:=[]) (by simp) 0 0 0 rfl (by simp);have hj:aa1 ([],0,0)=some ((PN 0 []:Nat):Int):=awl (s:=[]) (by simp) 0 0 0 rfl (by simp);refine⟨(((PN 0 []:Nat):Int),0),?_,?_,λ_=>⟨0,rfl,rfl⟩,λh=>absurd rfl h⟩
   . grind
   grind
 . have Rt:0 < s.length:=agy.2 h0;have yb:ez 0 s.length=true:=gA (k:=0) Rt;have a7:decide ((0:Int) < (s.length:Int))=true:=by simp;omega
   have arH:(!(decide (s=[])))=true:=by simp[h0]
   rw[a7,arH,yb];simp only[ass,qb,RG];by_cases ga:MD s 0=0
   . have agk:decide (MD s 0=0)=true:=by simp[ga]
     rw[ao agk,ao agk];refine⟨_,rfl,rfl,λh=>(by cases h),λ_=>?_⟩;unfold P2;rw[ao (.inl ((aqV h0).1 ga))]
   . have agk:¬(decide (MD s 0=0)=true):=by simp[ga]
     rw[aJ agk,aJ agk];by_cases Lu:8 < s.length
     . have:decide ((8:Int) < (s.length:Int))=true:=by simp;omega
       rw[ao this,ao this];refine⟨_,rfl,rfl,λh=>(by cases h),λ_=>?_⟩;unfold P2;rw[ao (.inr Lu)]
     . have:¬(decide ((8:Int) < (s.length:Int))=true):=by simp;omega
       rw[aJ this,aJ this];have eh:Yw (s,0,(s.length:Int),0)=some ((PN 0 s:Nat):Int):=alH (by omega) s.length 0 0 (by omega) (by simp);have hj:aa1 (s,0,0)=some ((PN 0 s:Nat):Int):=awl (by omega) s.length 0 0 (by omega) (by simp);rw[eh,hj];refine⟨_,rfl,rfl,λ_=>⟨PN 0 s,?_,rfl⟩,λh=>absurd rfl h⟩;unfold P2;rw[aJ]
       rintro (h | h)
       . exact ga ((aqV h0).2 h)
       omega
def S5(n:Nat):Int:=if n % 2=0 then((n / 2:Nat):Int)else -((n / 2:Nat):Int) - 1
theorem aWl{n:Int}(h:nc n):S5 (Po n).toNat=n:=by
 unfold S5 Po nc at*;omega
theorem aX2{n:Nat}(h:n < 18446744073709551616):apl (n:Int)=some (S5 n):=by
 rw[apl];have eh:kt (n:Int) 2=((n % 2:Nat):Int):=aot (b:=2);have hj:MV .u64 (n:Int) 2=((n / 2:Nat):Int):=agF h;rw[eh,hj,TQ (by omega) (by omega)];unfold S5;by_cases h0:n % 2=0
 . grind
 . have I2:BJ .i64 0 ((n / 2:Nat):Int)= -((n / 2:Nat):Int):=by rw[Q7 (by omega) (by omega)];omega
   rw[aJ (by simp;omega),aJ h0,I2,Q7 (by omega) (by omega)]
theorem aM3{n:Nat}(h:n < 18446744073709551616):aq8 .u64 (n:Int) 1=((n % 2:Nat):Int):=by
 have e:(BitVec.ofInt 64 (n:Int) &&& BitVec.ofInt 64 (1:Int)).toNat=n % 2:=by grind
 show IntKind.u64.wrap (((BitVec.ofInt 64 (n:Int) &&& BitVec.ofInt 64 (1:Int)).toNat:Nat):Int)=_;rw[e];exact Wt (by omega) (by omega)
theorem a14{n:Nat}:Xu .u64 (n:Int) 1=((n / 2:Nat):Int):=by
 unfold Xu;have:((2:Int) ^ min (1:Int).toNat IntKind.u64.bits)=2:=by decide
 grind
theorem aUg{a:Nat}(h:a < 9223372036854775808):agS .i64 (a:Int) 0=(a:Int):=by
 have e:(BitVec.ofInt 64 (a:Int) ^^^ BitVec.ofInt 64 (0:Int)).toNat=a:=by grind
 show IntKind.i64.wrap (((BitVec.ofInt 64 (a:Int) ^^^ BitVec.ofInt 64 (0:Int)).toNat:Nat):Int)=_;rw[e,IntKind.wrap_i64];omega
theorem aUh{a:Nat}(h:a < 9223372036854775808):agS .i64 (a:Int) (-1)= -(a:Int) - 1:=by
 have e:(BitVec.ofInt 64 (a:Int) ^^^ BitVec.ofInt 64 (-1:Int)).toNat=18446744073709551615 - a:=by
  have h1:BitVec.ofInt 64 (-1:Int)=BitVec.allOnes 64:=by decide
  rw[h1,ajq,BitVec.xor_allOnes,BitVec.toNat_not,ajf,ajM,aak (by omega)]
 all_goals (try omega)
 show IntKind.i64.wrap (((BitVec.ofInt 64 (a:Int) ^^^ BitVec.ofInt 64 (-1:Int)).toNat:Nat):Int)=_;rw[e,IntKind.wrap_i64];omega
theorem aX3{n:Nat}(h:n < 18446744073709551616):aqa (n:Int)=some (S5 n):=by
 rw[aqa,a14,aM3 h,TQ (by omega) (by omega),TQ (by omega) (by omega),Q7 (by omega) (by omega)];unfold S5;by_cases h0:n % 2=0
 . rw[ao h0,h0];have:(0:Int) - ((0:Nat):Int)=0:=rfl;rw[this,aUg (by omega)]
 . have h1:n % 2=1:=by omega
   rw[aJ h0,h1];have:(0:Int) - ((1:Nat):Int)= -1:=rfl;rw[this,aUh (by omega)]
def RN(p:List UInt8):Option (List (List UInt8)):=match WJ p with
 | some (l,e)=>if e=0 then some l else none
 | none=>none
def S7(p:List UInt8):Option (List qy):=match XN p with
 | some (l,e)=>if e=0 then some l else none
 | none=>none
def Vu(p:List UInt8):Option (Int×List UInt8):=match XD p with
 | some (id,q,e)=>if e=0 then some (id,q)else none
 | none=>none
theorem aFm :∀(n:Nat) (s:List UInt8) (b l:List (List UInt8)),s.length<=n->s.length+b.length<=100000->Py (s,b)=some (.inr l)->∀q,q∈l->q∈b\/q.length<=s.length
 | n,s,b,l,dy,al,h=>by
  rw[Py]at h;by_cases h0:s=[]
  . grind
  . rw[ao (by simp[h0]),XP (by omega)]at h;simp only[g',cm]at h;cases cv:Q1 s with
    | none=>
     rw[cv]at h;simp[ID]at h
    | some r=>
     obtain⟨x,rest⟩:=r;rw[cv]at h;have a6:=ZK cv;have Ul:¬((!(ID (some (x,rest))).2.2)=true):=by simp[ID]
     have ar:room 16 (b++[(ID (some (x,rest))).1]).length=true:=CJ (by omega) (by simp;omega);rw[aJ Ul,ao ar]at h;intro q eg
     match n,dy with
     | 0,dy=>omega
     | n+1,dy=>
      have:=aFm n rest _ l (by omega) (by simp;omega) h q eg;rcases this with h | h
      . rcases Nw.1 h with h | h
        . exact .inl h
        . right;have:q=x:=by simpa[ID]using h
          grind
      omega
theorem aEq :∀(n:Nat) (s:List UInt8) (last:Nat) (b l:List qy),s.length <=n -> s.length+b.length <=100000 -> NB ((last:Int),s,b)=some (.inr l) ->
 ∃z',l=b++z'/\(∀f,f∈z'->f.Data.length<=s.length/\(last:Int) < f.a8/\f.a8<=1000)/\z'.Pairwise (λa b=>a.a8 < b.a8)
 | n,s,last,b,l,dy,al,h=>by
  rw[NB]at h;by_cases h0:s=[]
  . simp_all
  . rw[ao (by simp[h0])]at h;rcases Xw s with⟨e,he,b9⟩ | ⟨m,k,b9,O',hk,hm⟩
    . rw[ZO he b9]at h;simp at h
    . rw[XI b9 hk]at h;simp only[g',cm,agF hm]at h;by_cases b7:((m / 2:Nat):Int)<=(last:Int)\/1000 < ((m / 2:Nat):Int)
      . grind
      . have:¬((bif bif (!true)then true else decide (((m / 2:Nat):Int)<=(last:Int))then true else decide (1000 < ((m / 2:Nat):Int)))=true):=by grind
        rw[aJ this,XP (by rw[Yd];omega)]at h;simp only[cm]at h;cases cv:Q1 (s.drop k)with
        | none=>
         rw[cv]at h;simp[ID]at h
        | some r=>
         obtain⟨x,rest⟩:=r;rw[cv]at h;have a6:=ZK cv;rw[Yd]at a6;have Ul:¬((!(ID (some (x,rest))).2.2)=true):=by simp[ID]
         have hw:jJ .i64 ((m / 2:Nat):Int)=((m / 2:Nat):Int):=TQ (by omega) (by omega);rw[aJ Ul,hw]at h;have ar:room 32 (b++[(⟨((m / 2:Nat):Int),decide (kt (m:Int) 2=1),(ID (some (x,rest))).1⟩:qy)]).length=true:=CJ (by omega) (by simp;omega);rw[ao ar]at h
         match n,dy with
         | 0,dy=>omega
         | n+1,dy=>
          obtain⟨z',e,h1,ah⟩:=aEq n rest (m / 2) _ l (by omega) (by simp;omega) h;refine⟨⟨((m / 2:Nat):Int),decide (kt (m:Int) 2=1),(ID (some (x,rest))).1⟩::z',by rw[e];simp,λf cJ=>?_,?_⟩
          . rcases LJ.1 cJ with rfl | cJ
            . refine⟨by show x.length<=_;omega,by show(last:Int) < ((m / 2:Nat):Int);omega,by show((m / 2:Nat):Int)<=1000;omega⟩
            grind
          grind
theorem alI{p:List UInt8}(bo:p.length<=90000):∃o,WJ p=some o/\(o.2=0->RN p=some o.1/\(∀q,q∈o.1->q.length<=p.length)/\o.1.length<=p.length)/\(o.2≠0->RN p=none):=by
 obtain⟨o,h1,b'⟩:=aVi bo;refine⟨o,h1,λh0=>⟨?_,?_,b'⟩,λh0=>?_⟩
 . unfold RN;rw[h1]
   grind
 . obtain⟨q1,a1,_⟩:=awj p.length p [] (by omega) (by simp;omega);rw[WJ,a1]at h1;cases q1 with
   | inl e=>grind
   | inr l=>
    have:o=(l,0):=(aan h1).symm;subst this;intro q eg;rcases aFm p.length p [] l (by omega) (by simp;omega) a1 q eg with h | h
    . cases h
    . exact h
 . unfold RN;rw[h1]
   grind
theorem aEr{p:List UInt8}(bo:p.length<=90000):∃o,WJ p=some o/\ahb p=some o/\(o.2=0->RN p=some o.1/\(∀q,q∈o.1->q.length<=p.length)/\o.1.length<=p.length)/\(o.2≠0->RN p=none):=by
 obtain⟨o,h1,b'⟩:=alI bo;exact⟨o,h1,by rw[aVj bo,h1],b'⟩
theorem aw8{p:List UInt8}(bo:p.length<=90000):∃o,XN p=some o/\(o.2=0->S7 p=some o.1/\(∀f,f∈o.1->f.Data.length<=p.length/\qj f.a8)/\o.1.Pairwise (λa b=>a.a8 < b.a8)/\o.1.length<=p.length)/\(o.2≠0->S7 p=none):=by
 obtain⟨o,h1,b'⟩:=aUv bo;obtain⟨q1,a1,_⟩:=aFz p.length p 0 [] (by omega) (by simp;omega);have key:o.2=0->(∀f,f∈o.1->f.Data.length<=p.length/\qj f.a8)/\o.1.Pairwise (λa b=>a.a8 < b.a8):=by
  intro h0;have KR:=h1;have aM2:NB (0,p,[])=some q1:=a1;rw[XN,aM2]at KR;cases q1 with
  | inl e=>
   have:o=([],e):=(aan KR).symm;simp_all
  | inr l=>
   have:o=(l,0):=(aan KR).symm;subst this;obtain⟨z',e,b1,b2⟩:=aEq p.length p 0 [] l (by omega) (by simp;omega) a1;have:l=z':=by simpa using e
   subst this;exact⟨λf cJ=>by have:=b1 f cJ;exact⟨this.1,by omega,this.2.2⟩,b2⟩
 refine⟨o,h1,λh0=>⟨?_,(key h0).1,(key h0).2,b'⟩,λh0=>?_⟩
 . unfold S7;rw[h1]
   grind
 . unfold S7;rw[h1]
   grind
theorem aSM{p:List UInt8}(bo:p.length<=90000):∃o,XN p=some o/\akW p=some o/\(o.2=0->S7 p=some o.1/\(∀f,f∈o.1->f.Data.length<=p.length/\qj f.a8)/\o.1.Pairwise (λa b=>a.a8 < b.a8)/\o.1.length<=p.length)/\(o.2≠0->S7 p=none):=by
 obtain⟨o,h1,b'⟩:=aw8 bo;exact⟨o,h1,by rw[goN bo,h1],b'⟩
theorem axs(p:List UInt8):∃o,XD p=some o/\(o.2.2=0->Vu p=some (o.1,o.2.1)/\o.2.1.length<=p.length/\qj o.1)/\(o.2.2≠0->Vu p=none):=by
 obtain⟨o,h1⟩:=aYj p;have key:o.2.2=0->o.2.1.length<=p.length/\qj o.1:=by
  intro h0;have KR:=h1;rw[XD]at KR;rcases Xw p with⟨e,he,b9⟩ | ⟨m,k,b9,O',hk,hm⟩
  . rw[ZO he b9]at KR
    grind
  . rw[XI b9 hk]at KR;simp only[g',cm]at KR;by_cases b7:(m:Int) < 1\/1000 < (m:Int)
    . grind
    . have amY:¬((bif bif (!true)then true else decide ((m:Int) < 1)then true else decide (1000 < (m:Int)))=true):=by grind
      rw[aJ amY,TQ (by omega) (by omega)]at KR;have:o=((m:Int),p.drop k,0):=(aan KR).symm;subst this;exact⟨by show(p.drop k).length<=_;rw[Yd];omega,by omega,by show(m:Int)<=1000;omega⟩
 refine⟨o,h1,λh0=>⟨?_,(key h0).1,(key h0).2⟩,λh0=>?_⟩
 . unfold Vu;rw[h1]
   grind
 . unfold Vu;rw[h1]
   grind
theorem aVz(p:List UInt8):∃o,XD p=some o/\ak8 p=some o/\(o.2.2=0->Vu p=some (o.1,o.2.1)/\o.2.1.length<=p.length/\qj o.1)/\(o.2.2≠0->Vu p=none):=by
 obtain⟨o,h1,b'⟩:=axs p;obtain⟨q1,a1,a2⟩:=aYk p;rw[h1]at a1;rw[<-aan a1]at a2;exact⟨o,h1,a2,b'⟩
theorem aHE :∀(s:List UInt8) (n:Nat) (b:UInt8),PN n (s++[b])=PN n s*256+b.toNat
 | [],n,b=>by simp[PN]
 | a::s,n,b=>by
  simp only[ab7,PN];exact aHE s _ b
theorem aWm(n:Nat):PN 0 (OD n)=n:=by
 induction n using Nat.strongRecOn with
 | ind n ih=>
  rw[OD];split
  . rename_i h;subst h;rfl
  . rw[aHE,ih (n / 256) (by omega),WL (by omega)];omega
theorem aUi :∀(n:Nat),¬(OD n).head?=some 0:=by
 intro n
 induction n using Nat.strongRecOn with
 | ind n ih=>
  rw[OD];split
  . simp
  . rename_i h;have:=ih (n / 256) (by omega);by_cases ah:n < 256
    . have:n / 256=0:=by omega
      rw[this,OD,ao rfl];simp only[PX,List.head?_cons,hQ];intro b7;have b':=JQ UInt8.toNat b7;rw[WL (by omega)]at b'
      grind
    . have hG:OD (n / 256)≠[]:=by rw[OD,aJ (by omega)];simp
      cases cv:OD (n / 256)with
      | nil=>exact absurd cv hG
      | cons a l=>rw[cv]at this;simpa using this
theorem aGJ{n:Nat}(h:n < 18446744073709551616):P2 (OD n)=some n:=by
 unfold P2;have h1:=aUi n;have ah:=aql 8 n (by rw[aX1];exact h)
 rw [aJ (by rintro (h | h)
            . exact h1 h
            . omega),aWm]
theorem aWn{a b:List pI}(ch:a.Pairwise (λx y=>x.a8 < y.a8))(al:b.Pairwise (λx y=>x.a8 < y.a8))(h:∀x,x∈a↔x∈b):a=b:=by
 have a1g:a.Nodup:=ch.imp λ{x y} h e=>by subst e;omega
 have a1h:b.Nodup:=al.imp λ{x y} h e=>by subst e;omega
 have bo:a.Perm b:=(List.perm_ext_iff_of_nodup a1g a1h).2 h;exact List.Perm.eq_of_pairwise (le:=λx y:pI=>x.a8 < y.a8) (λx y _ _ h1 ah=>by omega) ch al bo
theorem aSN(p:List UInt8):p.length<=(H' p).length:=by unfold H';rw[vx];omega
theorem apK{p:List UInt8}:∀{l:List (List UInt8)},p∈l->p.length<=(l.flatMap H').length
 | q::l,h=>by
  rw[MS,vx];rcases LJ.1 h with rfl | h
  . have:=aSN p;omega
  . have:=apK h;omega
theorem awC{ts:List f7}:∀{ms:List li} {l:List ak} {x:Fd},x∈Ks ts ms l->∃j,j < ms.length/\j < l.length/\NK (ms.getD j ii) (l.getD j eJ)=false/\x=⟨(ms.getD j ii).a8.toNat,(ms.getD j ii).sJ,n' ts (ms.getD j ii).e2 (l.getD j eJ)⟩
 | [],l,x,h=>by
  rw[Ks]at h
  . cases h
  grind
 | m::ms,[],x,h=>by
  rw[Ks]at h
  . cases h
  grind
 | m::ms,v::l,x,h=>by
  rw[Ks]at h;split at h
  . obtain⟨j,h1,ah,b',ea⟩:=awC h;exact⟨j+1,by simpa using h1,by simpa using ah,by simpa using b',by simpa using ea⟩
  . rename_i c8;rcases LJ.1 h with rfl | h
    . exact⟨0,by simp,by simp,by simpa using c8,rfl⟩
    . obtain⟨j,h1,ah,b',ea⟩:=awC h;exact⟨j+1,by simpa using h1,by simpa using ah,by simpa using b',by simpa using ea⟩
theorem aqm{ms:List li}(h:Q5 ms){a b:li}(ch:a∈ms)(al:b∈ms)(e:a.a8=b.a8):a=b:=by
 obtain⟨i,ay,rfl⟩:=OR ch;obtain⟨j,c7,rfl⟩:=OR al;have key:=adV.1 h.1
 grind
theorem ae'{ms:List li}{id:Int}{m:li}(h:zJ ms id=some m):m∈ms/\m.a8=id:=
 ⟨ayP h,by simpa using List.find?_some h⟩
theorem aVA{ms:List li}(hm:Q5 ms){m:li}(h:m∈ms):zJ ms m.a8=some m:=by
 cases cJ:zJ ms m.a8 with
 | none=>exact absurd rfl (aaX cJ m h)
 | some q=>
  obtain⟨h1,ah⟩:=ae' cJ;rw[aqm hm h1 h ah]
theorem akT{ts:List f7}{t:Int}:∀{l:List ak} {x:ak},x∈l->J0 ts t x<=JS ts t l
 | v::l,x,h=>by
  rw[JS];rcases LJ.1 h with rfl | h
  . omega
  . have:=akT (ts:=ts) (t:=t) h;omega
theorem aFn{ts:List f7}:∀{ms:List li} {l:List ak} {j:Nat},j < ms.length->j < l.length->NK (ms.getD j ii) (l.getD j eJ)=false->J0 ts (ms.getD j ii).e2 (l.getD j eJ)<=OU ts ms l
 | m::ms,v::l,0,_,_,c8=>by
  simp only[Vj]at c8 ⊢;rw[OU,aJ (by rw[c8];simp)];omega
 | m::ms,v::l,j+1,h1,ah,c8=>by
  simp only[anX]at c8 ⊢;have:=aFn (ts:=ts) (by simpa using h1) (by simpa using ah) c8;rw[OU]
  grind
theorem aHF{l:List (List UInt8)}(h:(l.flatMap H').length<=90000):RN (l.flatMap H')=some l:=by
 have a6:=aE1 l;have:=aGI l [] (by omega) (by simp;omega);unfold RN;rw[WJ,this];rfl
theorem aVB{l:List Fd}(ch:l.Pairwise (λa b=>a.id < b.id))(ar:∀f,f∈l->1<=f.id/\f.id<=1000)(h:(l.flatMap Fd.text).length<=90000):S7 (l.flatMap Fd.text)=some (l.map abD):=by
 have a6:=aE2 l;have q0:=aFj l 0 [] ch (λf h=>⟨by have:=ar f h;omega,(ar f h).2⟩) (by omega) (by simp;omega);have U6:NB (0,l.flatMap Fd.text,[])=some (.inr (l.map abD)):=by simpa using q0
 unfold S7;rw[XN,U6];rfl
theorem aJw{n:Nat}(h:1<=n/\n<=1000)(rest:List UInt8):Vu (JU n++rest)=some ((n:Int),rest):=by
 unfold Vu;have a0f:=XI (av2 (n:=n) (by omega) rest) (by simp);rw[XD,a0f];simp only[g',cm];have a:¬(n:Int) < 1:=by omega
 have b:¬(1000:Int) < (n:Int):=by omega
 rw[aJ (by simp only[a,b,N2,LV,OB,q2,not_false_eq_true]),TQ (by omega) (by omega)];simp
theorem aEs{ts:List f7}{t:Int}{l:List ak}{i:Nat}(h:i < l.length):(ob ts t l).getD i []=n' ts t (l.getD i eJ):=by
 rw[aqT,Qb (n' ts t) l i eJ [] h]
theorem axt{a b c n r:Nat}(h:a=1+max n b)(ar:a<=r+1)(b7:c<=b):c<=r:=by omega
theorem aWo{a b c r:Nat}(h:a=1+max 1 b)(ar:a<=r+1)(b7:c=1):c<=r:=by omega
def atj(ts:List f7)(t:Int)(v:ak):Prop:=xJ ts false t v/\qa v/\wt v<=2147483648
def mJ{α β:Type}(f:α->Option β):List α->Option (List β)
 | []=>some []
 | a::l=>match f a,mJ f l with
  | some b,some m=>some (b::m)
  | _,_=>none
def LO{α:Type}:List α->List α
 | a::_::l=>a::LO l
 | _=>[]
def Md{α:Type}:List α->List α
 | _::b::l=>b::Md l
 | _=>[]
def abp(ks:List ak):Bool:=(List.range (ks.length - 1)).all λi=>decide (OT (ks.getD i eJ) (ks.getD (i+1) eJ) < 0)
theorem ah4{ks:List ak}:abp ks=true↔TZ ks:=by
 unfold abp TZ
 grind
def te(ts:List f7):Nat->Int->List UInt8->Option ak
 | 0,_,_=>none
 | n+1,t,p=>
  let x:=ts.getD t.toNat hz
  if x.Kind=1 then(if p=[]then some ⟨1,false,0,[],0,[],[],[]⟩else if p=[1]then some ⟨1,true,0,[],0,[],[],[]⟩else none)
  else if x.Kind=2 then(match P2 p with
   | some m=>if x.hU<=S5 m/\S5 m<=x.hV then some ⟨2,false,S5 m,[],0,[],[],[]⟩else none
   | none=>none)
  else if x.Kind=3 then(if(p.length:Int)<=x.Max then some ⟨3,false,0,p,0,[],[],[]⟩else none)
  else if x.Kind=4 then(match P2 p with
   | some m=>if 1<=m/\m<=1000/\((x.hl.any λy=>decide (y.a8=(m:Int))) || x.Open)=true then some ⟨4,false,0,[],(m:Int),[],[],[]⟩else none
   | none=>none)
  else if x.Kind=9 then(match p with
   | []=>some ⟨9,false,0,[],0,[],[],[]⟩
   | c::q=>if c=1 then(te ts n x.ev q).map λv=>⟨9,false,0,[],0,[],[v],[]⟩else none)
  else if x.Kind=6 then(match Vu p with
   | some (id,q)=>(match zJ x.b8 id with
    | some m=>(te ts n m.e2 q).map λv=>⟨6,false,0,[],id,[],[v],[]⟩
    | none=>if x.Open=true then some ⟨6,false,0,[],id,[],[],[⟨id,q⟩]⟩else none)
   | none=>none)
  else if x.Kind=7 then(match RN p with
   | some l=>if(l.length:Int)<=x.Max then(mJ (te ts n x.ev) l).map λis=>⟨7,false,0,[],0,[],is,[]⟩else none
   | none=>none)
  else if x.Kind=8 then(match RN p with
   | some l => if l.length % 2 = 0 /\ ((l.length / 2 : Nat): Int) <= x.Max then (match mJ (te ts n x.Key) (LO l) with
    | some ks=>if abp ks=true then(mJ (te ts n x.ev) (Md l)).map λis=>⟨8,false,0,[],0,ks,is,[]⟩else none
    | none=>none)else none
   | none=>none)
  else(match S7 p with
   | some l => (match mJ (λm : li => match l.find? (λf => decide (f.a8 = m.a8)) with
    | some f=>te ts n m.e2 f.Data
    | none=>if m.nk=true then some m.j0 else none) x.b8 with
    | some is=>if(l.all λf=>(zJ x.b8 f.a8).isSome || !f.sJ)=true then some ⟨5,false,0,[],0,[],is,(l.filter λf=>!(zJ x.b8 f.a8).isSome).map λf=>⟨f.a8,f.Data⟩⟩else none
    | none=>none)
   | none=>none)
section
variable {ts:List f7}
def M9(ts:List f7)(b1:List Int)(b2:Int)(path:List Int)(o:Option ak)(r:Option (ak×Bool×List f7×List Int×Int×List Int)):Prop:=
 (∀v,o=some v->r=some (v,true,ts,b1,b2,path))/\(o=none->∃w f1 f2,r=some (w,false,ts,f1,f2,path))
theorem alJ{path:List Int}(bo:path.length<=1000)(reason:Int)(b1:List Int)(b2:Int):Px (reason,ts,b1,b2,path)=some ((⟨0,false,0,[],0,[],[],[]⟩:ak),false,ts,reason,path,path):=by
 rw[Px];unfold axg T8;rw[ao (CJ (by omega) (by omega))];simp
theorem ah5{b1:List Int}{b2 step t:Int}{p:List UInt8}{path:List Int}{o:Option ak}(bo:path.length <=1000)(h:M9 ts b1 b2 (path++[step]) o (aa2 (t,p,ts,b1,b2,path++[step]))):
 M9 ts b1 b2 path o (RX (step,t,p,ts,b1,b2,path)):=by
 have key:∀w ok f1 f2,aa2 (t,p,ts,b1,b2,path++[step])=some (w,ok,ts,f1,f2,path++[step])->RX (step,t,p,ts,b1,b2,path)=some (w,ok,ts,f1,f2,path):=by
  intro w ok f1 f2 hw;rw[RX];simp only[g',cm];rw[ao (CJ (by omega) (by simp;omega)),hw];simp only[cm,ak.h7];have eh:BJ .i64 ((path++[step]).length:Int) 1=(path.length:Int):=by rw[Q7 (by simp <;> omega) (by simp <;> omega)];simp
  rw[eh];have hj:Jt 0 (path.length:Int) (path++[step]).length=true:=R7.2 (by simp;omega);simp_all
 refine⟨λv cv=>key _ _ _ _ (h.1 v cv),λdy=>?_⟩;obtain⟨w,f1,f2,hw⟩:=h.2 dy;exact⟨w,f1,f2,key _ _ _ _ hw⟩
theorem afa{α β:Type}{f:α->Option β}:∀{l:List α} {m:List β},mJ f l=some m->m.length=l.length
 | [],m,h=>by rw[mJ]at h;cases h;rfl
 | a::l,m,h=>by
  rw[mJ]at h;split at h
  . rename_i b K7 h1 ah;cases h;rw[Pg,Pg,afa ah]
  . cases h
theorem aGK {x:f7} {path:List Int} {f:List UInt8 -> Option ak} {l:List (List UInt8)} (a6:l.length <=90000) (h:∀q,q∈l -> ∀step b1 b2,M9 ts b1 b2 path (f q) (RX (step,x.ev,q,ts,b1,b2,path)))
 {z0 z2 z4 a0 a2 a4:Int} {z1 a1:Bool} {z3 a3:List UInt8} {b1:List Int} {b2:Int}:∀(k i:Nat) (acc:List ak),i+k=l.length->acc.length=i->
 (∀m,mJ f (l.drop i)=some m->aeR (l,(l.length:Int),(i:Int),ts,b1,b2,x,z0,z1,z2,z3,z4,a0,a1,a2,a3,a4,path,acc)=some (.inr (ts,b1,b2,z0,z1,z2,z3,z4,a0,a1,a2,a3,a4,path,acc++m)))/\
 (mJ f (l.drop i)=none->∃w f1 f2,aeR (l,(l.length:Int),(i:Int),ts,b1,b2,x,z0,z1,z2,z3,z4,a0,a1,a2,a3,a4,path,acc)=some (.inl (false,ts,f1,f2,w,path)))
 | 0,i,acc,ay,ch=>by
  rw[aeR,aJ (by simp;omega),MR (by omega),mJ]
  grind
 | k+1,i,acc,ay,ch=>by
  have ec:i < l.length:=by omega
  have a7:=h _ (j1 ec []) (i:Int) b1 b2;have e:l.drop i=l.getD i []::l.drop (i+1):=by rw[Ld ec];exact Ze ec
  rw[aeR,ao (by simp;omega),ao (gA ec),hJ,e,mJ];cases cJ:f (l.getD i [])with
  | none=>
   obtain⟨w,f1,f2,hw⟩:=a7.2 cJ;simp_all
  | some v=>
   rw[a7.1 v cJ];simp only[g',cm,ak.h7,N2];rw[aJ (by simp),ao (CJ (by omega) (by simp;omega)),j2 (by omega)];obtain⟨i1,i2⟩:=aGK a6 h (z0:=z0) (z1:=z1) (z2:=z2) (z3:=z3) (z4:=z4) (a0:=a0) (a1:=a1) (a2:=a2) (a3:=a3) (a4:=a4) (b1:=b1) (b2:=b2) k (i+1) (acc++[v]) (by omega) (by simp;omega)
   cases hs:mJ f (l.drop (i+1))with
   | none=>exact⟨λm hm=>by simp at hm,λ_=>i2 hs⟩
   | some K7=>grind
end
theorem aGc{l:List ak}{i:Nat}(ay:i < l.length):l.set i (l.getD i eJ)=l:=by simp_all
theorem aFo{a0 a2 a4 z0 z2 z4:Int}{a1 z1:Bool}{a3 z3:List UInt8}{l l2:List ak}{r:List pI}(a6:l.length <=1000000000)(h:∀y,y∈l -> VI y=some y):∀(k i:Nat),i+k=l.length ->
 aey ((l.length:Int),(i:Int),a0,a1,a2,a3,a4,z0,z1,z2,z3,z4,l,l2,r)=some (a0,a1,a2,a3,a4,z0,z1,z2,z3,z4,l,l2,r)
 | 0,i,ay=>by rw[aey,aJ (by simp;omega)]
 | k+1,i,ay=>by
  have ec:i < l.length:=by omega
  rw[aey,ao (by simp;omega),ao (gA ec),hJ,ao (by simp;omega)];simp only[ak.h7];rw[h _ (j1 ec eJ)];simp only[g',cm,ak.h7];rw[ao (gA ec),ao (by simp;omega),j2 (by omega),aGc ec];exact aFo a6 h k (i+1) (by omega)
theorem aFp{a0 a2 a4 z0 z2 z4:Int}{a1 z1:Bool}{a3 z3:List UInt8}{l l2:List ak}{r:List pI}(a6:l.length <=1000000000)(h:∀y,y∈l -> VI y=some y):∀(k i:Nat),i+k=l.length ->
 aez ((l.length:Int),(i:Int),a0,a1,a2,a3,a4,z0,z1,z2,z3,z4,l,l2,r)=some (a0,a1,a2,a3,a4,z0,z1,z2,z3,z4,l2,l,r)
 | 0,i,ay=>by rw[aez,aJ (by simp;omega)]
 | k+1,i,ay=>by
  have ec:i < l.length:=by omega
  rw[aez,ao (by simp;omega),ao (gA ec),hJ,ao (by simp;omega)];simp only[ak.h7];rw[h _ (j1 ec eJ)];simp only[g',cm,ak.h7];rw[ao (gA ec),ao (by simp;omega),j2 (by omega),aGc ec];exact aFp a6 h k (i+1) (by omega)
theorem aAa :∀l:List ak,l.length<=ry l
 | []=>by simp
 | v::l=>by
  rw[TX,Qv,Pg];have:=aAa l;omega
theorem aVC(l:List pI):l.length<=(l.map λx=>x.Data.length+1).sum:=by
 induction l with
 | nil=>simp
 | cons a l ih=>simp only[QX,adS,Pg];omega
theorem axu{k n:Nat}(hk:k<=1000)(h:n<=1000000000):room k n=true:=by
 unfold room Qy KJ;simp only[k0,ye];refine⟨?_,by omega⟩;have:(2*n+192)*k<=2000000192*1000:=Nat.mul_le_mul (by omega) hk;omega
theorem aUj{v:ak}(cv:qa v):wt v<=1000000000->VI v=some v:=by
 induction cv with
 | mk v hs h1 ah b' hk ay Um I0 D' Jm p' QU NH=>
  intro hw;have adF:=Qv v;have M5:=aAa v.eI;have l2:=aAa v.cy;have agn:=aVC v.Rest;have kk:∀y,y∈v.eI->VI y=some y:=λy bJ=>QU y bJ (by have:=Qc bJ;omega)
  have anP:∀y,y∈v.cy->VI y=some y:=λy bJ=>NH y bJ (by have:=Qc bJ;omega)
  have hN:T8 120 v.eI=some v.eI:=by unfold T8;rw[ao (axu (by omega) (by omega))]
  have hR:T8 120 v.cy=some v.cy:=by unfold T8;rw[ao (axu (by omega) (by omega))]
  have px:T8 24 v.Rest=some v.Rest:=by unfold T8;rw[ao (axu (by omega) (by omega))]
  have aMM:=aFo (a0:=v.Kind) (a1:=v.oi) (a2:=v.hX) (a3:=v.js) (a4:=v.a8) (z0:=0) (z1:=false) (z2:=0) (z3:=[]) (z4:=0) (l:=v.eI) (l2:=v.cy) (r:=v.Rest) (by omega) kk v.eI.length 0 (by omega)
  have aMO:=aFp (a0:=v.Kind) (a1:=v.oi) (a2:=v.hX) (a3:=v.js) (a4:=v.a8) (z0:=0) (z1:=false) (z2:=0) (z3:=[]) (z4:=0) (l:=v.cy) (l2:=v.eI) (r:=v.Rest) (by omega) anP v.cy.length 0 (by omega);have aMN:aey ((v.eI.length:Int),0,v.Kind,v.oi,v.hX,v.js,v.a8,0,false,0,[],0,v.eI,v.cy,v.Rest)=_:=aMM
  have aMP:aez ((v.cy.length:Int),0,v.Kind,v.oi,v.hX,v.js,v.a8,0,false,0,[],0,v.cy,v.eI,v.Rest)=_:=aMO;rw[VI,hN,hR,px];simp only[g',cm];rw[aMN];simp only[cm];rw[aMP];simp only[cm];cases v;rfl
section
variable {ts:List f7}
def ajX(ts:List f7)(n:Nat):Prop:=∀(t:Int) (p:List UInt8) (b1:List Int) (b2:Int) (path:List Int),0<=t->t < ts.length->p.length<=4096->path.length+n=200->
 M9 ts b1 b2 path (te ts n t p) (aa2 (t,p,ts,b1,b2,path))
theorem TW{path:List Int}(bo:path.length<=1000)(reason:Int)(b1:List Int)(b2:Int):M9 ts b1 b2 path none (Px (reason,ts,b1,b2,path) >>=λr=>some (ak.eta r.1,r.2.1,r.2.2.1,r.2.2.2.2.2,r.2.2.2.1,r.2.2.2.2.1)):=by
 refine⟨λv h=>(by cases h),λ_=>?_⟩;rw[alJ bo];simp_all
theorem aKT{x:f7}(hm:Q5 x.b8)(a6:x.b8.length<=1000){id:Int}{m:li}(q0:zJ x.b8 id=some m):∃j,j < x.b8.length/\UH (x,id)=some ((j:Int),true)/\x.b8.getD j ii=m:=by
 obtain⟨m1,m2⟩:=ae' q0;obtain⟨r,kJ,oJ⟩:=aqd (t:=x) (id:=id) (by omega);rcases oJ with⟨j,Ll,MP,_,rfl⟩ | ⟨q,_⟩
 . exact⟨j,Ll,kJ,aqm hm (j1 Ll ii) m1 (by rw[MP,m2])⟩
 . obtain⟨i,ay,rfl⟩:=OR m1
   grind
theorem aUk(H:UM ts){n:Nat}(ih:ajX ts n){x:f7}(ad:x∈ts)(s3:x.Kind=6)(vk:∀m,m∈x.b8 -> 0 <=m.e2 /\ m.e2 < ts.length){p:List UInt8}(bo:p.length <=4096){b1:List Int}{b2:Int}{path:List Int}(Oz:path.length+(n+1)=200):
 M9 ts b1 b2 path (match Vu p with
  | some (id,q)=>(match zJ x.b8 id with
   | some m=>(te ts n m.e2 q).map λv=>⟨6,false,0,[],id,[],[v],[]⟩
   | none=>if x.Open=true then some ⟨6,false,0,[],id,[],[],[⟨id,q⟩]⟩else none)
  | none=>none) (apU (x,p,ts,b1,b2,path)):=by
 obtain⟨o,KY,KZ,JD⟩:=axs p;rw[apU,KY];simp only[g',cm];by_cases h0:o.2.2=0
 . obtain⟨v1,v2,v3⟩:=KZ h0;rw[aJ (by simp[h0]),v1];dsimp only;obtain⟨abG,arA⟩:=H.A x ad (.inr s3);cases q0:zJ x.b8 o.1 with
   | some m=>
    obtain⟨j,Ll,MP,We⟩:=aKT abG (by omega) q0;rw[MP];simp only[cm];rw[ao trivial,ao (gA Ll),hJ,We];obtain⟨t1,t2⟩:=vk m (ae' q0).1;have a7:=ah5 (step:=o.1) (path:=path) (by omega) (ih m.e2 o.2.1 b1 b2 (path++[o.1]) t1 t2 (by omega) (by simp;omega));cases cv:te ts n m.e2 o.2.1 with
    | none=>
     obtain⟨w,f1,f2,hw⟩:=a7.2 cv;rw[hw];exact⟨λv h=>by simp at h,λ_=>⟨_,_,_,rfl⟩⟩
    | some v=>
     rw[a7.1 v cv]
     exact⟨λLr h=>by
      have:Lr=⟨6,false,0,[],o.1,[],[v],[]⟩:=by simpa using h.symm
      rw[this]
      simp[ak.h7,s3],λh=>by simp at h⟩
   | none=>
    obtain⟨r,kJ,oJ⟩:=aqd (t:=x) (id:=o.1) (by omega);have ar:r=(0,false):=by
     rcases oJ with⟨j,Ll,MP,_,_⟩ | ⟨_,q⟩
     . exact absurd MP (aaX q0 _ (j1 Ll ii))
     . exact q
    rw[kJ,ar];cases Nl:x.Open with
    | false=>
     simp only[cm,q2,uJ,Uw,qb,eq_self];exact TW (by omega) _ _ _
    | true=>
     simp only[cm,q2,uJ,N2,qb,eq_self];exact⟨λLr h=>(by cases h;rw[s3]),λh=>(by cases h)⟩
 . rw[ao (by simp[h0]),JD h0];exact TW (by omega) _ _ _
end
theorem aEt{α:Type}{l:List α}{j:Nat}(h:2*j+1 < l.length)(d:α):LO (l.drop (2*j))=l.getD (2*j) d::LO (l.drop (2*(j+1))):=by
 rw[Ze (by omega:2*j < l.length),Ze h,LO,Ld (by omega)];rfl
theorem aFq{α:Type}{l:List α}{j:Nat}(h:2*j+1 < l.length)(d:α):Md (l.drop (2*j))=l.getD (2*j+1) d::Md (l.drop (2*(j+1))):=by
 rw[Ze (by omega:2*j < l.length),Ze h,Md,Ld h];rfl
theorem aAI{i:Nat}(h:i < 1000000):e0 .i64 (i:Int) 2=((i+2:Nat):Int):=by
 have:=aqr (a:=i) (b:=2) (by omega);exact this
section
variable {ts:List f7}
theorem aGd {x:f7} {path:List Int} {f:List UInt8 -> Option ak} {l:List (List UInt8)} (a6:l.length <=90000) (he:l.length % 2=0) (h:∀q,q∈l -> ∀step b1 b2,M9 ts b1 b2 path (f q) (RX (step,x.Key,q,ts,b1,b2,path)))
 {z0 z2 z4 a0 a2 a4:Int} {z1 a1:Bool} {z3 a3:List UInt8} {b1:List Int} {b2:Int}:∀(k j:Nat) (acc:List ak),2*(j+k)=l.length->acc.length=j->
 (∀m,mJ f (LO (l.drop (2*j)))=some m->aeM (l,((2*j:Nat):Int),ts,b1,b2,x,z0,z1,z2,z3,z4,a0,a1,a2,a3,a4,path,acc)=some (.inr (l,ts,b1,b2,x,z0,z1,z2,z3,z4,a0,a1,a2,a3,a4,path,acc++m)))/\
 (mJ f (LO (l.drop (2*j)))=none->∃w f1 f2,aeM (l,((2*j:Nat):Int),ts,b1,b2,x,z0,z1,z2,z3,z4,a0,a1,a2,a3,a4,path,acc)=some (.inl (false,ts,f1,f2,w,path)))
 | 0,j,acc,ay,ch=>by
  rw[aeM,aJ (by simp;omega),MR (by omega),show LO ([]:List (List UInt8))=[]from rfl,mJ]
  grind
 | k+1,j,acc,ay,ch=>by
  have ec:2*j < l.length:=by omega
  have a7:=h _ (j1 ec []) (MV .i64 ((2*j:Nat):Int) 2) b1 b2;rw[aeM,ao (by simp;omega),ao (gA ec),hJ,aEt (by omega) [],mJ];cases cJ:f (l.getD (2*j) [])with
  | none=>
   obtain⟨w,f1,f2,hw⟩:=a7.2 cJ;simp_all
  | some v=>
   rw[a7.1 v cJ];simp only[g',cm,ak.h7,N2];rw[aJ (by simp),ao (CJ (by omega) (by simp;omega)),aAI (by omega)];obtain⟨i1,i2⟩:=aGd a6 he h (z0:=z0) (z1:=z1) (z2:=z2) (z3:=z3) (z4:=z4) (a0:=a0) (a1:=a1) (a2:=a2) (a3:=a3) (a4:=a4) (b1:=b1) (b2:=b2) k (j+1) (acc++[v]) (by omega) (by simp;omega)
   have avV:2*j+2=2*(j+1):=by omega
   rw[avV];cases hs:mJ f (LO (l.drop (2*(j+1))))with
   | none=>exact⟨λm hm=>by simp at hm,λ_=>i2 hs⟩
   | some K7=>grind
theorem aFr {x:f7} {path:List Int} {f:List UInt8 -> Option ak} {l:List (List UInt8)} (a6:l.length <=90000) (he:l.length % 2=0) (h:∀q,q∈l -> ∀step b1 b2,M9 ts b1 b2 path (f q) (RX (step,x.ev,q,ts,b1,b2,path)))
 {z0 z2 z4 a0 a2 a4:Int} {z1 a1:Bool} {z3 a3:List UInt8} {b1:List Int} {b2:Int} {ks:List ak}:∀(k j:Nat) (acc:List ak),2*(j+k)=l.length->acc.length=j->
 (∀m,mJ f (Md (l.drop (2*j)))=some m->aeN (l,((2*j+1:Nat):Int),ts,b1,b2,x,z0,z1,z2,z3,z4,a0,a1,a2,a3,a4,path,ks,acc)=some (.inr (ts,b1,b2,z0,z1,z2,z3,z4,a0,a1,a2,a3,a4,path,ks,acc++m)))/\
 (mJ f (Md (l.drop (2*j)))=none->∃w f1 f2,aeN (l,((2*j+1:Nat):Int),ts,b1,b2,x,z0,z1,z2,z3,z4,a0,a1,a2,a3,a4,path,ks,acc)=some (.inl (false,ts,f1,f2,w,path)))
 | 0,j,acc,ay,ch=>by
  rw[aeN,aJ (by simp;omega),MR (by omega),show Md ([]:List (List UInt8))=[]from rfl,mJ]
  grind
 | k+1,j,acc,ay,ch=>by
  have ec:2*j+1 < l.length:=by omega
  have a7:=h _ (j1 ec []) (MV .i64 ((2*j+1:Nat):Int) 2) b1 b2;rw[aeN,ao (by simp;omega),ao (gA ec),hJ,aFq ec [],mJ];cases cJ:f (l.getD (2*j+1) [])with
  | none=>
   obtain⟨w,f1,f2,hw⟩:=a7.2 cJ;simp_all
  | some v=>
   rw[a7.1 v cJ];simp only[g',cm,ak.h7,N2];rw[aJ (by simp),ao (CJ (by omega) (by simp;omega)),aAI (by omega)]
   obtain⟨i1,i2⟩:=aFr a6 he h (z0:=z0) (z1:=z1) (z2:=z2) (z3:=z3) (z4:=z4) (a0:=a0) (a1:=a1) (a2:=a2) (a3:=a3) (a4:=a4) (b1:=b1) (b2:=b2) (ks:=ks) k (j+1) (acc++[v]) (by omega) (by simp;omega);have avV:2*j+1+2=2*(j+1)+1:=by omega
   rw[avV];cases hs:mJ f (Md (l.drop (2*(j+1))))with
   | none=>exact⟨λm hm=>by simp at hm,λ_=>i2 hs⟩
   | some K7=>grind
end
section
variable {ts:List f7}
theorem aWp{a b:ak}(ch:nc a.hX)(al:nc b.hX):PP (a,b)=some (OT a b):=by
 obtain⟨r,kJ,oJ⟩:=apJ ch al;have:=ah3 ch al
 grind
theorem aHa {x:f7} {path:List Int} (bo:path.length <=1000) {l:List (List UInt8)} {ks:List ak} (hk:∀y,y∈ks -> nc y.hX) (a6:ks.length <=90000)
 {z0 z2 z4 a0 a2 a4:Int} {z1 a1:Bool} {z3 a3:List UInt8} {b1:List Int} {b2:Int}:∀(k i:Nat),ks.length - (i+1)=k->
 ((∀m,i<=m->m+1 < ks.length->OT (ks.getD m eJ) (ks.getD (m+1) eJ) < 0)/\ac0 (l,((i+1:Nat):Int),ts,b1,b2,x,z0,z1,z2,z3,z4,a0,a1,a2,a3,a4,path,ks)=some (.inr (l,ts,b1,b2,x,z0,z1,z2,z3,z4,a0,a1,a2,a3,a4,path,ks)))\/
 ((∃m,m+1 < ks.length/\¬OT (ks.getD m eJ) (ks.getD (m+1) eJ) < 0)/\∃w f1 f2,ac0 (l,((i+1:Nat):Int),ts,b1,b2,x,z0,z1,z2,z3,z4,a0,a1,a2,a3,a4,path,ks)=some (.inl (false,ts,f2,w,path,f1)))
 | 0,i,ay=>by
  rw[ac0,aJ (by simp;omega)]
  grind
 | k+1,i,ay=>by
  have ec:i+1 < ks.length:=by omega
  have eh:BJ .i64 ((i+1:Nat):Int) 1=(i:Int):=by rw[Q7 (by omega) (by omega)];omega
  rw[ac0,ao (by simp;omega),eh];simp only[g',cm];rw[ao (gA (by omega)),ao (by simp;omega),ao (gA ec),ao (by simp;omega),hJ,hJ];simp only[ak.h7];rw[aWp (hk _ (j1 (by omega) eJ)) (hk _ (j1 ec eJ))];simp only[cm];by_cases b7:OT (ks.getD i eJ) (ks.getD (i+1) eJ) < 0
  . rw[aJ (by simpa using b7),j2 (by omega)];rcases aHa bo hk a6 (x:=x) (l:=l) (z0:=z0) (z1:=z1) (z2:=z2) (z3:=z3) (z4:=z4) (a0:=a0) (a1:=a1) (a2:=a2) (a3:=a3) (a4:=a4) (b1:=b1) (b2:=b2) k (i+1) (by omega)with⟨h1,ah⟩ | h
    . grind
    grind
  . rw[ao (by simpa using b7),alJ bo]
    grind
theorem aHb{m:Nat}(h:m < 18446744073709551616):nc (S5 m):=by
 unfold S5 nc;omega
theorem X9 :nc 0:=by unfold nc;omega
def Yp(o:Option ak):Prop:=∀v,o=some v->nc v.hX
theorem Yp.ite{c:Prop}[Decidable c]{a b:Option ak}(ch:c->Yp a)(al:¬c->Yp b):Yp (if c then a else b):=by grind
theorem Yp.no :Yp none:=λv h=>(by cases h)
theorem Yp.zero{k i:Int}{b:Bool}{s:List UInt8}{ks is:List ak}{r:List pI}:Yp (some ⟨k,b,0,s,i,ks,is,r⟩):=λv h=>(by cases h;exact X9)
theorem Yp.map{α:Type}{o:Option α}{k i:Int}{b:Bool}{s:List UInt8}{ks is:α->List ak}{r:List pI}:Yp (o.map λv=>⟨k,b,0,s,i,ks v,is v,r⟩):=λv h=>by obtain⟨_,_,rfl⟩:=ajp.1 h;exact X9
theorem aGe{n:Nat}{t:Int}{p:List UInt8}{v:ak}(h:te ts n t p=some v):nc v.hX:=by
 have key:Yp (te ts n t p):=by
  cases n with
  | zero=>unfold te;exact .no
  | succ n=>
   unfold te;refine .ite (λ_=>.ite (λ_=>.zero) λ_=>.ite (λ_=>.zero) λ_=>.no) λ_=>?_
   refine .ite (λ_=>?_) λ_=>?_
   . cases hm:P2 p with
     | none=>exact .no
     | some m=>exact .ite (λ_=>λv h=>(by cases h;exact aHb (aqE hm))) λ_=>.no
   refine .ite (λ_=>.ite (λ_=>.zero) λ_=>.no) λ_=>?_
   refine .ite (λ_=>?_) λ_=>?_
   . cases hm:P2 p with
     | none=>exact .no
     | some m=>exact .ite (λ_=>.zero) λ_=>.no
   refine .ite (λ_=>?_) λ_=>?_
   . cases p with
     | nil=>exact .zero
     | cons c q=>exact .ite (λ_=>.map) λ_=>.no
   refine .ite (λ_=>?_) λ_=>?_
   . cases Vu p with
     | none=>exact .no
     | some a=>
      obtain⟨id,q⟩:=a;dsimp only;cases zJ (ts.getD t.toNat hz).b8 id with
      | none=>exact .ite (λ_=>.zero) λ_=>.no
      | some m=>exact .map
   refine .ite (λ_=>?_) λ_=>?_
   . cases RN p with
     | none=>exact .no
     | some l=>exact .ite (λ_=>.map) λ_=>.no
   refine .ite (λ_=>?_) λ_=>?_
   . cases RN p with
     | none=>exact .no
     | some l=>
      refine .ite (λ_=>?_) λ_=>.no
      cases mJ (te ts n (ts.getD t.toNat hz).Key) (LO l)with
      | none=>exact .no
      | some ks=>exact .ite (λ_=>.map) λ_=>.no
   . cases S7 p with
     | none=>exact .no
     | some l=>
      dsimp only;split
      . exact .ite (λ_=>.zero) λ_=>.no
      . exact .no
 exact key v h
theorem ah6{α β:Type}{f:α->Option β}:∀{l:List α} {m:List β},mJ f l=some m->∀y,y∈m->∃a,a∈l/\f a=some y
 | [],m,h,y,bJ=>by rw[mJ]at h;cases h;cases bJ
 | a::l,m,h,y,bJ=>by
  rw[mJ]at h;split at h
  . rename_i b K7 h1 ah;cases h;rcases LJ.1 bJ with rfl | bJ
    . grind
    . obtain⟨q',hg,hv⟩:=ah6 ah y bJ
      grind
  . cases h
theorem aqW{α:Type}:∀{l:List α} {y:α},y∈LO l->y∈l
 | [],y,h=>by cases h
 | [_],y,h=>by cases h
 | a::b::l,y,h=>by
  rcases LJ.1 h with rfl | h
  . grind
  . exact .tail _ (.tail _ (aqW h))
theorem aw9{α:Type}:∀(l:List α),(LO l).length<=l.length
 | []=>JK _
 | [_]=>RE _
 | a::b::l=>by
  show(LO l).length+1<=l.length+1+1;have:=aw9 l;omega
theorem aLn{a:Nat}(h:a < 1000000):MV .i64 (a:Int) 2=((a / 2:Nat):Int):=by
 unfold MV;have e:(a:Int).tdiv 2=((a / 2:Nat):Int):=by rw[aoa (by omega)];omega
 rw[e];exact TQ (by omega) (by omega)
theorem aWq{n:Nat}(ih:ajX ts n){x:f7}(NZ:x.Kind=8)(qs:0 <=x.Key /\ x.Key < ts.length)(J7:0 <=x.ev /\ x.ev < ts.length){p:List UInt8}(bo:p.length <=4096){b1:List Int}{b2:Int}{path:List Int}(Oz:path.length+(n+1)=200):
 M9 ts b1 b2 path (match RN p with
  | some l => if l.length % 2 = 0 /\ ((l.length / 2 : Nat): Int) <= x.Max then (match mJ (te ts n x.Key) (LO l) with
   | some ks=>if abp ks=true then(mJ (te ts n x.ev) (Md l)).map λis=>(⟨8,false,0,[],0,ks,is,[]⟩:ak)else none
   | none=>none)else none
  | none=>none) (akl (x,p,ts,b1,b2,path)):=by
 obtain⟨o,KY,KZ,JD⟩:=alI (p:=p) (by omega);rw[akl,KY];simp only[g',cm];by_cases h0:o.2=0
 . obtain⟨v1,v2,v3⟩:=KZ h0;rw[v1];dsimp only;have X7:kt (o.1.length:Int) 2=((o.1.length % 2:Nat):Int):=by rw[OY (by omega) (by omega)];omega
   rw[X7,aLn (by omega)];by_cases he:o.1.length % 2=0
   . have al:¬(bif (!(decide (o.2=0)))then true else(!(decide (((o.1.length % 2:Nat):Int)=0))))=true:=by grind
     rw[aJ al];by_cases hm:((o.1.length / 2:Nat):Int)<=x.Max
     . rw[ao (show o.1.length % 2=0/\((o.1.length / 2:Nat):Int)<=x.Max from⟨he,hm⟩),aJ (show ¬decide (x.Max < ((o.1.length / 2:Nat):Int))=true by simp only[ye];omega)];have hk:∀q,q∈o.1->∀step b1 b2,M9 ts b1 b2 path (te ts n x.Key q) (RX (step,x.Key,q,ts,b1,b2,path)):=λq eg step b1 b2=>
        ah5 (by omega) (ih x.Key q b1 b2 (path++[step]) qs.1 qs.2 (by have:=v2 q eg;omega) (by simp;omega))
       have ay:∀q,q∈o.1->∀step b1 b2,M9 ts b1 b2 path (te ts n x.ev q) (RX (step,x.ev,q,ts,b1,b2,path)):=λq eg step b1 b2=>
        ah5 (by omega) (ih x.ev q b1 b2 (path++[step]) J7.1 J7.2 (by have:=v2 q eg;omega) (by simp;omega))
       obtain⟨J3,P5⟩:=aGd (x:=x) (l:=o.1) (by omega) he hk (z0:=0) (z1:=false) (z2:=0) (z3:=[]) (z4:=0) (a0:=x.Kind) (a1:=false) (a2:=0) (a3:=[]) (a4:=0) (b1:=b1) (b2:=b2) (o.1.length / 2) 0 [] (by omega) rfl;have d0:o.1.drop (2*0)=o.1:=rfl;rw[d0]at J3 P5;have z0:((2*0:Nat):Int)=0:=rfl;rw[z0]at J3 P5
       cases hs:mJ (te ts n x.Key) (LO o.1)with
       | none=>
        obtain⟨w,f1,f2,hw⟩:=P5 hs;rw[hw];exact⟨λv h=>(by cases h),λ_=>⟨_,_,_,rfl⟩⟩
       | some ks=>
        rw[J3 ks hs];simp only[cm,PX];have ax2:∀y,y∈ks->nc y.hX:=λy bJ=>by
         obtain⟨a,_,ch⟩:=ah6 hs y bJ;exact aGe ch
        have Y6:ks.length<=90000:=by
         have:=afa hs;have:=aw9 o.1;omega
        have B:=aHa (ts:=ts) (x:=x) (path:=path) (by omega) (l:=o.1) ax2 Y6 (z0:=0) (z1:=false) (z2:=0) (z3:=[]) (z4:=0) (a0:=x.Kind) (a1:=false) (a2:=0) (a3:=[]) (a4:=0) (b1:=b1) (b2:=b2) _ 0 rfl;have z1:((0+1:Nat):Int)=1:=rfl;rw[z1]at B;rcases B with⟨ao5,agT⟩ | ⟨⟨m,m1,m2⟩,w,f1,f2,agT⟩
        . have Z7:abp ks=true:=ah4.2 λi ay=>ao5 i (RE _) ay
          rw[ao Z7,agT];simp only[cm];obtain⟨Jf,KU⟩:=aFr (x:=x) (l:=o.1) (by omega) he ay (z0:=0) (z1:=false) (z2:=0) (z3:=[]) (z4:=0) (a0:=x.Kind) (a1:=false) (a2:=0) (a3:=[]) (a4:=0) (b1:=b1) (b2:=b2) (ks:=ks) (o.1.length / 2) 0 [] (by omega) rfl;rw[d0]at Jf KU;have z2:((2*0+1:Nat):Int)=1:=rfl;rw[z2]at Jf KU
          cases anr:mJ (te ts n x.ev) (Md o.1)with
          | none=>
           obtain⟨w,f1,f2,hw⟩:=KU anr;rw[hw];exact⟨λv h=>(by cases h),λ_=>⟨_,_,_,rfl⟩⟩
          | some is=>
           rw[Jf is anr];exact⟨λv h=>(by cases h;simp[NZ]),λh=>(by cases h)⟩
        . have Z7:¬abp ks=true:=λh=>m2 (ah4.1 h m m1)
          rw[aJ Z7,agT];exact⟨λv h=>(by cases h),λ_=>⟨ak.eta w,f1,f2,rfl⟩⟩
     . rw[aJ (show ¬(o.1.length % 2=0/\((o.1.length / 2:Nat):Int)<=x.Max)fromλh=>hm h.2),ao (show decide (x.Max < ((o.1.length / 2:Nat):Int))=true by simp only[ye];omega)];exact TW (by omega) _ _ _
   . have al:(bif (!(decide (o.2=0)))then true else(!(decide (((o.1.length % 2:Nat):Int)=0))))=true:=by grind
     rw[aJ (show ¬(o.1.length % 2=0/\((o.1.length / 2:Nat):Int)<=x.Max)fromλh=>he h.1),ao al];exact TW (by omega) _ _ _
 . have al:(bif (!(decide (o.2=0)))then true else(!(decide (kt (o.1.length:Int) 2=0))))=true:=by simp[h0]
   rw[ao al,JD h0];exact TW (by omega) _ _ _
end
section
variable {ts:List f7}
theorem aVE{l:List qy}(m:li)(a6:l.length <=90000):(∃j,j < l.length /\ l.find? (λf=>decide (f.a8=m.a8))=some (l.getD j NQ) /\ akh (l,m)=some ((j:Int),m)) \/
 (l.find? (λf=>decide (f.a8=m.a8))=none/\akh (l,m)=some (-1,m)):=by
 have h:=ae9 (λi=>aaD (l,(l.length:Int),(i:Int),m)) l.length (λi=>decide ((l.getD i NQ).a8=m.a8)) (λi=>.inl ((i:Int),m)) (.inr m)
  (λi ay=>by
   rw[aaD,ao (by simp;omega),ao (gA ay)];simp only[g',cm,hJ,ak.h7,atu]
   rw[j2 (by omega)])
  (by rw[aaD,aJ (by simp)];simp only[XF])
 have u1:aaD (l,(l.length:Int),((0:Nat):Int),m)=aaD (l,(l.length:Int),0,m):=rfl;simp only[u1]at h;rw[akh];simp only[XF];rcases h with⟨j,h1,ah,b',ea⟩ | ⟨h1,ea⟩
 . left;refine⟨j,h1,?_,by rw[ea];simp only[g',cm,XF]⟩;rw[Ld h1]at ah ⊢;rw[asu];refine⟨ah,j,h1,rfl,λk hk=>?_⟩;have:=b' k hk;rw[Ld (by omega)]at this
   simpa using this
 . right;refine⟨?_,by rw[ea];simp only[g',cm,XF]⟩;rw[anZ];intro f cJ;obtain⟨i,ay,rfl⟩:=OR cJ;have:=h1 i ay;rw[Ld ay]at this
   simpa using this
def amj{β:Type}:Option β->Option (List β)->Option (List β)
 | some b,some m=>some (b::m)
 | _,_=>none
theorem ahU{α β:Type}(f:α->Option β)(a:α)(l:List α):mJ f (a::l)=amj (f a) (mJ f l):=by rfl
def JL(f:Int->List UInt8->Option ak)(l:List qy)(m:li):Option ak:=match l.find? (λf=>decide (f.a8=m.a8))with
 | some g=>f m.e2 g.Data
 | none=>if m.nk=true then some m.j0 else none
theorem aGf {x:f7} {path:List Int} (Vd:path.length <=900) {f:Int -> List UInt8 -> Option ak} {l:List qy} (a6:l.length <=90000) (J8:x.b8.length <=16)
 (NG:∀m,m∈x.b8->m.nk=true->VI m.j0=some m.j0)
 (h:∀m,m∈x.b8->∀q,q∈l->∀step b1 b2,M9 ts b1 b2 path (f m.e2 q.Data) (RX (step,m.e2,q.Data,ts,b1,b2,path)))
 {z0 z2 z4 a0 a2 a4:Int} {z1 a1:Bool} {z3 a3:List UInt8} {b1:List Int} {b2:Int}:∀(k i:Nat) (acc:List ak),i+k=x.b8.length->acc.length=i->
 (∀m,mJ (JL f l) (x.b8.drop i)=some m->Yt (l,x.b8,(x.b8.length:Int),(i:Int),ts,b1,b2,x,z0,z1,z2,z3,z4,a0,a1,a2,a3,a4,path,acc)=some (.inr (l,ts,b1,b2,x,z0,z1,z2,z3,z4,a0,a1,a2,a3,a4,path,acc++m)))/\
 (mJ (JL f l) (x.b8.drop i)=none->∃w f1 f2,Yt (l,x.b8,(x.b8.length:Int),(i:Int),ts,b1,b2,x,z0,z1,z2,z3,z4,a0,a1,a2,a3,a4,path,acc)=some (.inl (false,ts,f1,f2,w,path)))
 | 0,i,acc,ay,ch=>by
  rw[Yt,aJ (by simp;omega),MR (by omega),mJ]
  grind
 | k+1,i,acc,ay,ch=>by
  have ec:i < x.b8.length:=by omega
  have C3:=j1 ec ii;have e:x.b8.drop i=x.b8.getD i ii::x.b8.drop (i+1):=by rw[Ld ec];exact Ze ec
  have go:∀v,(∀K7,mJ (JL f l) (x.b8.drop (i+1))=some K7->Yt (l,x.b8,(x.b8.length:Int),((i+1:Nat):Int),ts,b1,b2,x,z0,z1,z2,z3,z4,a0,a1,a2,a3,a4,path,acc++[v])=some (.inr (l,ts,b1,b2,x,z0,z1,z2,z3,z4,a0,a1,a2,a3,a4,path,acc++[v]++K7)))/\(mJ (JL f l) (x.b8.drop (i+1))=none->∃w f1 f2,Yt (l,x.b8,(x.b8.length:Int),((i+1:Nat):Int),ts,b1,b2,x,z0,z1,z2,z3,z4,a0,a1,a2,a3,a4,path,acc++[v])=some (.inl (false,ts,f1,f2,w,path))):=λv=>
   aGf Vd a6 J8 NG h k (i+1) (acc++[v]) (by omega) (by simp;omega)
  rw [Yt, ao (by simp; omega), ao (gA ec), hJ, e, ahU];simp only [g', cm, XF];generalize x.b8.getD i ii = m0 at *;have fin : ∀ (v : ak) (X : Option _), JL f l m0 = some v -> X = Yt (l, x.b8, (x.b8.length : Int), ((i + 1 : Nat): Int), ts, b1, b2, x, z0, z1, z2, z3, z4, a0, a1, a2, a3, a4, path, acc ++ [v]) ->
   (∀m,amj (JL f l m0) (mJ (JL f l) (x.b8.drop (i+1)))=some m->X=some (.inr (l,ts,b1,b2,x,z0,z1,z2,z3,z4,a0,a1,a2,a3,a4,path,acc++m)))/\
   (amj (JL f l m0) (mJ (JL f l) (x.b8.drop (i+1)))=none->∃w f1 f2,X=some (.inl (false,ts,f1,f2,w,path))):=by
   intro v X cv Xf;obtain⟨g1,g2⟩:=go v;rw[cv,Xf];cases hs:mJ (JL f l) (x.b8.drop (i+1))with
   | none=>exact⟨λm hm=>(by cases hm),λ_=>g2 hs⟩
   | some K7=>
    refine⟨λm hm=>?_,λh=>(by cases h)⟩;have:m=v::K7:=(by cases hm;rfl)
    grind
  rcases aVE m0 a6 with⟨j,Ll,MP,We⟩ | ⟨MP,We⟩
  . rw[We];simp only[cm];rw[ao (by simp),ao (gA Ll),hJ];have a7:=h m0 C3 _ (j1 Ll NQ) m0.a8 b1 b2;have agf:JL f l m0=f m0.e2 (l.getD j NQ).Data:=by unfold JL;rw[MP]
    cases cv:f m0.e2 (l.getD j NQ).Data with
    | none=>
     obtain⟨w,f1,f2,hw⟩:=a7.2 cv;rw[hw,agf,cv];exact⟨λm hm=>(by cases hm),λ_=>⟨w,f1,f2,by simp[ak.h7]⟩⟩
    | some v=>
     rw[a7.1 v cv];simp only[cm,ak.h7,N2];rw[aJ (by simp),ao (CJ (by omega) (by simp;omega)),j2 (by omega)]
     grind
  . rw[We];simp only[cm];rw[aJ (by simp)];cases adx:m0.nk with
    | true=>
     rw[ao rfl];simp only[ak.h7];rw[NG m0 C3 adx];simp only[cm,ak.h7];rw[ao (CJ (by omega) (by simp;omega)),j2 (by omega)];exact fin m0.j0 _ (by unfold JL;rw[MP];simp[adx]) rfl
    | false=>
     have agf:JL f l m0=none:=by unfold JL;rw[MP];simp[adx]
     rw[aJ (by simp),ao (CJ (by omega) (by simp;omega)),alJ (by simp;omega),agf];simp only[cm,ak.h7];have eh:BJ .i64 ((path++[m0.a8]).length:Int) 1=(path.length:Int):=by rw[Q7 (by simp <;> omega) (by simp <;> omega)];simp
     rw[eh,ao (R7.2 (by simp;omega)),ao (by simp),hJ];exact⟨λm hm=>(by cases hm),λ_=>⟨_,_,_,by simp;exact⟨rfl,rfl,rfl⟩⟩⟩
end
section
variable {ts:List f7}
theorem a1d{x:f7}(J8:x.b8.length<=1000)(vJ:Q5 x.b8)(id:Int):∃r,UH (x,id)=some r/\r.2=(zJ x.b8 id).isSome:=by
 cases q0:zJ x.b8 id with
 | some m=>
  obtain⟨j,Ll,MP,We⟩:=aKT vJ J8 q0
  grind
 | none=>
  obtain⟨r,kJ,oJ⟩:=aqd (t:=x) (id:=id) (by omega);refine⟨r,kJ,?_⟩;rcases oJ with⟨j,Ll,MP,_,_⟩ | ⟨_,q⟩
  . exact absurd MP (aaX q0 _ (j1 Ll ii))
  grind
def Nx(x:f7)(f:qy):Bool:=(zJ x.b8 f.a8).isSome || !f.sJ
def LK(x:f7)(l:List qy):List pI:=(l.filter λf=>!(zJ x.b8 f.a8).isSome).map λf=>⟨f.a8,f.Data⟩
theorem awm {x:f7} {path:List Int} (Vd:path.length <=900) (J8:x.b8.length <=1000) (vJ:Q5 x.b8) {l:List qy} (a6:l.length <=90000)
 {z0 z2 z4 a0 a2 a4:Int} {z1 a1:Bool} {z3 a3:List UInt8} {b1:List Int} {b2:Int} {its:List ak}:∀(k i:Nat) (acc:List pI),i+k=l.length->acc.length<=i->
 ((l.drop i).all (Nx x)=true->aaH (l,(l.length:Int),(i:Int),ts,b1,b2,x,z0,z1,z2,z3,z4,a0,a1,a2,a3,a4,path,its,acc)=some (.inr (ts,b1,b2,z0,z1,z2,z3,z4,a0,a1,a2,a3,a4,path,its,acc++LK x (l.drop i))))/\
 ((l.drop i).all (Nx x)=false->∃w f1 f2,aaH (l,(l.length:Int),(i:Int),ts,b1,b2,x,z0,z1,z2,z3,z4,a0,a1,a2,a3,a4,path,its,acc)=some (.inl (false,ts,f2,w,path,f1)))
 | 0,i,acc,ay,ch=>by
  rw[aaH,aJ (by simp;omega),MR (by omega)];exact⟨λ_=>by simp[LK],λh=>by simp at h⟩
 | k+1,i,acc,ay,ch=>by
  have ec:i < l.length:=by omega
  have e:l.drop i=l.getD i NQ::l.drop (i+1):=by rw[Ld ec];exact Ze ec
  obtain⟨r,kJ,oJ⟩:=a1d J8 vJ (l.getD i NQ).a8;rw[aaH,ao (by simp;omega),ao (gA ec),hJ,e];simp only[g',cm];generalize l.getD i NQ=f at*;rw[kJ];simp only[cm];have oj:(f::l.drop (i+1)).all (Nx x)=(Nx x f && (l.drop (i+1)).all (Nx x)):=rfl;rw[oj];cases hs:(zJ x.b8 f.a8).isSome with
  | true=>
   have c8:Nx x f=true:=by unfold Nx;rw[hs];rfl
   have ar:LK x (f::l.drop (i+1))=LK x (l.drop (i+1)):=by unfold LK;rw[ayR (by rw[hs];simp)]
   rw[oJ,hs,ao rfl,c8,ar,j2 (by omega),Zf];exact awm Vd J8 vJ a6 k (i+1) acc (by omega) (by omega)
  | false=>
   rw[oJ,hs,aJ (by simp)];cases b7:f.sJ with
   | true=>
    have c8:Nx x f=false:=by unfold Nx;rw[hs,b7];rfl
    rw[ao rfl,ao (CJ (by omega) (by simp;omega)),alJ (by simp;omega),c8];simp only[cm,ak.h7];have eh:BJ .i64 ((path++[f.a8]).length:Int) 1=(path.length:Int):=by rw[Q7 (by simp <;> omega) (by simp <;> omega)];simp
    rw[eh,ao (R7.2 (by simp;omega)),ao (by simp),hJ];simp_all
   | false=>
    have c8:Nx x f=true:=by unfold Nx;rw[hs,b7];rfl
    have ar:LK x (f::l.drop (i+1))=⟨f.a8,f.Data⟩::LK x (l.drop (i+1)):=by unfold LK;rw[ayS (by rw[hs];rfl)];rfl
    rw[aJ (by simp),ao (CJ (by omega) (by simp;omega)),c8,ar,j2 (by omega),Zf];have:=awm Vd J8 vJ a6 (z0:=z0) (z1:=z1) (z2:=z2) (z3:=z3) (z4:=z4) (a0:=a0) (a1:=a1) (a2:=a2) (a3:=a3) (a4:=a4) (b1:=b1) (b2:=b2) (its:=its) k (i+1) (acc++[⟨f.a8,f.Data⟩]) (by omega) (by simp;omega)
    grind
end
section
variable {ts:List f7}
theorem aTl(H:UM ts)(aMJ:∀x,x∈ts -> ∀m,m∈x.b8 -> m.nk=true -> wt m.j0 <=1000000){n:Nat}(ih:ajX ts n){x:f7}(ad:x∈ts)(u2:x.Kind=5)(vk:∀m,m∈x.b8 -> 0 <=m.e2 /\ m.e2 < ts.length){p:List UInt8}(bo:p.length <=4096){b1:List Int}{b2:Int}{path:List Int}(Oz:path.length+(n+1)=200):
 (∀l,S7 p=some l->∀is,mJ (JL (te ts n) l) x.b8=some is->l.all (Nx x)=true->akm (x,p,ts,b1,b2,path)=some (⟨5,false,0,[],0,[],is,LK x l⟩,true,ts,b1,b2,path))/\
 ((S7 p=none\/(∃l,S7 p=some l/\(mJ (JL (te ts n) l) x.b8=none\/l.all (Nx x)=false)))->∃w f1 f2,akm (x,p,ts,b1,b2,path)=some (w,false,ts,f1,f2,path)):=by
 obtain⟨abG,arA⟩:=H.A x ad (.inl u2);obtain⟨o,KY,KZ,JD⟩:=aw8 (p:=p) (by omega);rw[akm,KY];simp only[g',cm];by_cases h0:o.2=0
 . obtain⟨v1,v2,v3,v4⟩:=KZ h0;rw[aJ (by simp[h0]),v1];have amR:=H.T x ad;have NG:∀m,m∈x.b8->m.nk=true->VI m.j0=some m.j0:=λm hm a7=>aUj (amR.3 m hm) (by have:=aMJ x ad m hm a7;omega)
   have d':∀m,m∈x.b8->∀q,q∈o.1->∀step b1 b2,M9 ts b1 b2 path (te ts n m.e2 q.Data) (RX (step,m.e2,q.Data,ts,b1,b2,path)):=λm hm q eg step b1 b2=>
    ah5 (by omega) (ih m.e2 q.Data b1 b2 (path++[step]) (vk m hm).1 (vk m hm).2 (by have:=(v2 q eg).1;omega) (by simp;omega))
   obtain⟨J3,P5⟩:=aGf (x:=x) (path:=path) (by omega) (f:=te ts n) (l:=o.1) (by omega) (by omega) NG d' (z0:=0) (z1:=false) (z2:=0) (z3:=[]) (z4:=0) (a0:=x.Kind) (a1:=false) (a2:=0) (a3:=[]) (a4:=0) (b1:=b1) (b2:=b2) x.b8.length 0 [] (by omega) rfl;rw[Ph]at J3 P5;have z0:((0:Nat):Int)=0:=rfl;rw[z0]at J3 P5
   have B:=λits=>awm (ts:=ts) (x:=x) (path:=path) (by omega) (by omega) abG (l:=o.1) (by omega) (z0:=0) (z1:=false) (z2:=0) (z3:=[]) (z4:=0) (a0:=x.Kind) (a1:=false) (a2:=0) (a3:=[]) (a4:=0) (b1:=b1) (b2:=b2) (its:=its) o.1.length 0 [] (by omega) (JK _)
   rw[Ph,z0]at B;constructor
   . intro l a6 is Ox oj;cases a6;rw[J3 is Ox];simp only[cm,PX];rw[(B is).1 oj];simp[u2]
   . intro h;rcases h with h | ⟨l,a6,h⟩
     . cases h
     . cases a6;cases hs:mJ (JL (te ts n) o.1) x.b8 with
       | none=>
        obtain⟨w,f1,f2,hw⟩:=P5 hs;rw[hw];exact⟨_,_,_,rfl⟩
       | some is=>
        rcases h with h | h
        . rw[hs]at h;cases h
        . obtain⟨w,f1,f2,hw⟩:=(B is).2 h;rw[J3 is hs];simp only[cm,PX];rw[hw];exact⟨ak.eta w,f1,f2,rfl⟩
 . rw[ao (by simp[h0]),JD h0];constructor
   . intro l a6;cases a6
   . intro _;rw[alJ (by omega)];exact⟨_,_,_,rfl⟩
end
structure RQ (ts:List f7):Prop where
 S:UM ts
 V:YI ts
 W:∀x,x∈ts->∀m,m∈x.b8->m.nk=true->wt m.j0<=1000000
theorem Q3.auV{ts:List f7}(H:Q3 ts):RQ ts:=⟨H.V.aea H.T,H.V,λx ad m hm a7=>by have:=H.W x ad m hm a7;omega⟩
section
variable {ts:List f7}
theorem RQ.mem(H:RQ ts){x:f7}(ad:x∈ts){m:li}(hm:m∈x.b8):0<=m.e2/\m.e2 < ts.length:=
 H.V.U x ad m.e2 (by unfold LL;simp;exact .inl ⟨m,hm,rfl⟩)
theorem RQ.elem(H:RQ ts){x:f7}(ad:x∈ts)(hk:7<=x.Kind):0<=x.ev/\x.ev < ts.length:=
 H.V.U x ad x.ev (by unfold LL;simp[hk])
theorem RQ.key(H:RQ ts){x:f7}(ad:x∈ts)(hk:x.Kind=8):0<=x.Key/\x.Key < ts.length:=
 H.V.U x ad x.Key (by unfold LL;simp[hk])
def TO :ak:=⟨0,false,0,[],0,[],[],[]⟩
abbrev aeo :=Int->List UInt8->Option ak
def aoK(p:List UInt8):Option ak:=if p=[]then some ⟨1,false,0,[],0,[],[],[]⟩else if p=[1]then some ⟨1,true,0,[],0,[],[],[]⟩else none
def aoL(x:f7)(p:List UInt8):Option ak:=match P2 p with
 | some m=>if x.hU<=S5 m/\S5 m<=x.hV then some ⟨2,false,S5 m,[],0,[],[],[]⟩else none
 | none=>none
def aoM(x:f7)(p:List UInt8):Option ak:=if(p.length:Int)<=x.Max then some ⟨3,false,0,p,0,[],[],[]⟩else none
def aoN(x:f7)(p:List UInt8):Option ak:=match P2 p with
 | some m=>if 1<=m/\m<=1000/\((x.hl.any λy=>decide (y.a8=(m:Int))) || x.Open)=true then some ⟨4,false,0,[],(m:Int),[],[],[]⟩else none
 | none=>none
def aeh(f:aeo)(x:f7):List UInt8->Option ak
 | []=>some ⟨9,false,0,[],0,[],[],[]⟩
 | c::q=>if c=1 then(f x.ev q).map λv=>⟨9,false,0,[],0,[],[v],[]⟩else none
def aoO(f:aeo)(x:f7)(p:List UInt8):Option ak:=match Vu p with
 | some (id,q)=>(match zJ x.b8 id with
  | some m=>(f m.e2 q).map λv=>⟨6,false,0,[],id,[],[v],[]⟩
  | none=>if x.Open=true then some ⟨6,false,0,[],id,[],[],[⟨id,q⟩]⟩else none)
 | none=>none
def agP(f:aeo)(x:f7)(p:List UInt8):Option ak:=match RN p with
 | some l=>if(l.length:Int)<=x.Max then(mJ (f x.ev) l).map λis=>⟨7,false,0,[],0,[],is,[]⟩else none
 | none=>none
def aoP(f:aeo)(x:f7)(p:List UInt8):Option ak:=match RN p with
 | some l => if l.length % 2 = 0 /\ ((l.length / 2 : Nat): Int) <= x.Max then (match mJ (f x.Key) (LO l) with
  | some ks=>if abp ks=true then(mJ (f x.ev) (Md l)).map λis=>⟨8,false,0,[],0,ks,is,[]⟩else none
  | none=>none)else none
 | none=>none
def agO(f:aeo)(x:f7)(p:List UInt8):Option ak:=match S7 p with
 | some l=>(match mJ (JL f l) x.b8 with
  | some is=>if l.all (Nx x)=true then some ⟨5,false,0,[],0,[],is,LK x l⟩else none
  | none=>none)
 | none=>none
def aoQ(f:aeo)(x:f7)(p:List UInt8):Option ak:=
 if x.Kind=1 then aoK p else if x.Kind=2 then aoL x p else if x.Kind=3 then aoM x p else if x.Kind=4 then aoN x p
 else if x.Kind=9 then aeh f x p else if x.Kind=6 then aoO f x p else if x.Kind=7 then agP f x p else if x.Kind=8 then aoP f x p else agO f x p
theorem aw'(t:Int)(p:List UInt8):te ts 0 t p=none:=by rw[te.eq_def]
theorem aqX(n:Nat)(t:Int)(p:List UInt8):te ts (n+1) t p=aoQ (te ts n) (ts.getD t.toNat hz) p:=by rfl
theorem M9.eta{b1:List Int}{b2:Int}{path:List Int}{o:Option ak}{X:Option (ak×Bool×List f7×List Int×Int×List Int)}(h:M9 ts b1 b2 path o X):
 M9 ts b1 b2 path o (X >>=λr=>some (ak.eta r.1,r.2.1,r.2.2.1,r.2.2.2.1,r.2.2.2.2.1,r.2.2.2.2.2)):=by
 refine⟨λv cv=>?_,λdy=>?_⟩
 . rw[h.1 v cv];simp[ak.h7]
 . obtain⟨w,f1,f2,hw⟩:=h.2 dy;exact⟨w,f1,f2,by rw[hw];simp[ak.h7]⟩
theorem M9.one{b1:List Int}{b2:Int}{path:List Int}(v:ak):M9 ts b1 b2 path (some v) (some (v,true,ts,b1,b2,path)):=⟨λLr h=>by cases h;rfl,λh=>by cases h⟩
theorem M9.cast{b1:List Int}{b2:Int}{path:List Int}{o q1:Option ak}{X:Option (ak×Bool×List f7×List Int×Int×List Int)}(e:o=q1)(h:M9 ts b1 b2 path o X):M9 ts b1 b2 path q1 X:=e▸h
theorem av5{l:List r'}{m:Nat}:(∃y,y∈l/\y.a8=(m:Int))↔(l.any λy=>decide (y.a8=(m:Int)))=true:=by grind
theorem aVF(H:RQ ts){n:Nat}(ih:ajX ts n){x:f7}(ad:x∈ts)(Ns:x.Kind=7){p:List UInt8}(bo:p.length <=4096){b1:List Int}{b2:Int}{path:List Int}(Oz:path.length+(n+1)=200):
 M9 ts b1 b2 path (agP (te ts n) x p) (apY (x,p,ts,b1,b2,path)):=by
 obtain⟨o,KY,KZ,JD⟩:=alI (p:=p) (by omega);obtain⟨eh,hj⟩:=H.elem ad (by omega);rw[apY,KY];unfold agP;simp only[g',cm];by_cases h0:o.2=0
 . obtain⟨v1,v2,v3⟩:=KZ h0;rw[aJ (by simp[h0]),v1];dsimp only;by_cases hm:(o.1.length:Int)<=x.Max
   . rw[ao hm,aJ (by simp;omega)];have ay:∀q,q∈o.1->∀step b1 b2,M9 ts b1 b2 path (te ts n x.ev q) (RX (step,x.ev,q,ts,b1,b2,path)):=λq eg step b1 b2=>
      ah5 (by omega) (ih x.ev q b1 b2 (path++[step]) eh hj (by have:=v2 q eg;omega) (by simp;omega))
     obtain⟨J3,P5⟩:=aGK (x:=x) (l:=o.1) (by omega) ay (z0:=0) (z1:=false) (z2:=0) (z3:=[]) (z4:=0) (a0:=x.Kind) (a1:=false) (a2:=0) (a3:=[]) (a4:=0) (b1:=b1) (b2:=b2) o.1.length 0 [] (by omega) rfl;rw[Ph]at J3 P5;have z0:((0:Nat):Int)=0:=rfl;rw[z0]at J3 P5;cases hs:mJ (te ts n x.ev) o.1 with
     | none=>
      obtain⟨w,f1,f2,hw⟩:=P5 hs;rw[hw];exact⟨λv h=>by simp at h,λ_=>⟨_,_,_,rfl⟩⟩
     | some is=>
      rw[J3 is hs];exact⟨λLr h=>by grind,λh=>by simp at h⟩
   . rw[aJ hm,ao (by simp;omega)];exact TW (by omega) _ _ _
 . rw[ao (by simp[h0]),JD h0];exact TW (by omega) _ _ _
theorem aHc(H:RQ ts):∀n,n<=200->ajX ts n
 | 0,_=>λt p b1 b2 path t0 t1 bo Oz=>by
  rw[aa2,ao (by simp;omega),aw'];exact TW (by omega) _ _ _
 | n+1,dy=>λt p b1 b2 path t0 t1 bo Oz=>by
  have ih:=aHc H n (by omega);obtain⟨j,rfl⟩:=ayT t0;have c7:j < ts.length:=by omega
  rw[aa2,aJ (by simp;omega),ao (gA c7),aqX,hJ];have ad:=j1 c7 hz;generalize ts.getD j hz=x at*;obtain⟨aAw,aAx⟩:=H.S.K x ad;have af8:x.hl.length < 9223372036854775807:=Jg (Qz (H.S.T x ad).1);unfold aoQ;simp only[g',cm];obtain⟨u,Ws,aeg,Uz⟩:=aWk p;by_cases hg:x.Kind=1
  . rw[ao hg,ao (show decide (x.Kind=1)=true by simpa using hg)];unfold aoK;by_cases h0:p=[]
    . rw[ao h0,aJ (by simp[h0]),hg,h0];exact .one _
    . by_cases h1:p=[1]
      . rw[aJ h0,ao h1,aJ (by simp[h1]),hg,h1];exact .one _
      . rw[aJ h0,aJ h1,ao (by simp[h0,h1])];exact TW (by omega) _ _ _
  rw[aJ hg,aJ (show ¬decide (x.Kind=1)=true by simpa using hg)];by_cases hv:x.Kind=2
  . rw[ao hv,ao (show decide (x.Kind=2)=true by simpa using hv),Ws];unfold aoL;simp only[cm];by_cases h0:u.2=0
    . obtain⟨m,m1,m2⟩:=aeg h0;rw[m1,m2,aX3 (aqE m1),aJ (by simp[h0])];simp only[cm];by_cases ar:x.hU<=S5 m/\S5 m<=x.hV
      . rw[ao ar,aJ (by simp;omega),hv];exact .one _
      . rw[aJ ar,ao (by simp;omega)];exact TW (by omega) _ _ _
    . rw[Uz h0,ao (by simp[h0])];exact TW (by omega) _ _ _
  rw[aJ hv,aJ (show ¬decide (x.Kind=2)=true by simpa using hv)];by_cases h3:x.Kind=3
  . rw[ao h3,ao (show decide (x.Kind=3)=true by simpa using h3)];unfold aoM;by_cases ar:(p.length:Int)<=x.Max
    . rw[ao ar,aJ (by simp;omega),h3];exact .one _
    . rw[aJ ar,ao (by simp;omega)];exact TW (by omega) _ _ _
  rw[aJ h3,aJ (show ¬decide (x.Kind=3)=true by simpa using h3)];by_cases oo:x.Kind=4
  . rw[ao oo,ao (show decide (x.Kind=4)=true by simpa using oo),Ws];unfold aoN;simp only[cm];by_cases h0:u.2=0
    . obtain⟨m,m1,m2⟩:=aeg h0;rw[m1,m2];dsimp only;by_cases ar:1<=m/\m<=1000
      . obtain⟨q,s4,_,JY⟩:=akK (t:=x) (m:Int) af8;have e:jJ .i64 (m:Int)=(m:Int):=TQ (by omega) (by omega);rw[aJ (show ¬(bif bif !decide (u.2=0)then true else decide ((m:Int) < 1)then true else decide (1000 < (m:Int)))=true by simp[h0];omega),e,s4];simp only[cm]
        have eg:q.2=(x.hl.any λy=>decide (y.a8=(m:Int))):=by
         have:=(aqJ JY).trans av5
         grind
        rw[eg,oo];by_cases al:((x.hl.any λy=>decide (y.a8=(m:Int))) || x.Open)=true
        . rw[ao (show 1<=m/\m<=1000/\((x.hl.any λy=>decide (y.a8=(m:Int))) || x.Open)=true from⟨ar.1,ar.2,al⟩),aJ]
          . exact .one _
          grind
        . rw[aJ (show ¬(1<=m/\m<=1000/\((x.hl.any λy=>decide (y.a8=(m:Int))) || x.Open)=true)fromλh=>al h.2.2),ao]
          . exact TW (by omega) _ _ _
          grind
      . rw[aJ (show ¬(1<=m/\m<=1000/\((x.hl.any λy=>decide (y.a8=(m:Int))) || x.Open)=true)fromλh=>ar ⟨h.1,h.2.1⟩),ao (by simp[h0];omega)];exact TW (by omega) _ _ _
    . rw[Uz h0,ao (by simp[h0])];exact TW (by omega) _ _ _
  rw[aJ oo,aJ (show ¬decide (x.Kind=4)=true by simpa using oo)];by_cases Qn:x.Kind=9
  . rw[ao Qn,ao (show decide (x.Kind=9)=true by simpa using Qn)];obtain⟨eh,hj⟩:=H.elem ad (by omega);cases p with
    | nil=>
     rw[ao (by simp),aeh,Qn];exact .one _
    | cons c q=>
     have a6:(c::q).length=q.length+1:=rfl;have i0:ez 0 (c::q).length=true:=gA (k:=0) (by simp);have b0:MD (c::q) 0=(c.toNat:Int):=rfl;have ad7:Jt 1 ((c::q).length:Int) (c::q).length=true:=R7.2 (by simp <;> omega);have MH:Jp (c::q) 1 ((c::q).length:Int)=q:=by
      unfold Jp;simp
     rw[aJ (by simp),ao i0,b0,aeh];by_cases b7:c=1
     . subst b7;rw[ao rfl,aJ (by simp),ao ad7,MH];have a7:=ah5 (step:=0) (path:=path) (by omega) (ih x.ev q b1 b2 (path++[0]) eh hj (by simp at bo;omega) (by simp;omega));cases cv:te ts n x.ev q with
       | none=>
        obtain⟨w,f1,f2,hw⟩:=a7.2 cv;rw[hw];exact⟨λv h=>by simp at h,λ_=>⟨_,_,_,rfl⟩⟩
       | some v=>
        rw[a7.1 v cv]
        exact⟨λLr h=>by
         have:Lr=⟨9,false,0,[],0,[],[v],[]⟩:=by simpa using h.symm
         rw[this]
         simp[ak.h7,Qn],λh=>by simp at h⟩
     . have O8:¬((c.toNat:Int)=1):=λh=>b7 (UInt8.toNat.inj (by show c.toNat=1;omega))
       rw[aJ b7,ao (by simpa using O8)];exact TW (by omega) _ _ _
  rw[aJ Qn,aJ (show ¬decide (x.Kind=9)=true by simpa using Qn)];by_cases s3:x.Kind=6
  . rw[ao s3,ao (show decide (x.Kind=6)=true by simpa using s3)];refine M9.eta (M9.cast ?_ (aUk H.S ih ad s3 (λm hm=>H.mem ad hm) bo Oz));rfl
  rw[aJ s3,aJ (show ¬decide (x.Kind=6)=true by simpa using s3)];by_cases Ns:x.Kind=7
  . rw[ao Ns,ao (show decide (x.Kind=7)=true by simpa using Ns)];exact M9.eta (aVF H ih ad Ns bo Oz)
  rw[aJ Ns,aJ (show ¬decide (x.Kind=7)=true by simpa using Ns)];by_cases NZ:x.Kind=8
  . rw[ao NZ,ao (show decide (x.Kind=8)=true by simpa using NZ)];refine M9.eta (M9.cast ?_ (aWq ih NZ (H.key ad NZ) (H.elem ad (by omega)) bo Oz));rfl
  rw[aJ NZ,aJ (show ¬decide (x.Kind=8)=true by simpa using NZ)];have u2:x.Kind=5:=by omega
  obtain⟨k2,C0⟩:=aTl H.S H.W ih ad u2 (λm hm=>H.mem ad hm) bo (b1:=b1) (b2:=b2) Oz;refine M9.eta ?_;unfold agO;cases a6:S7 p with
  | none=>exact⟨λv h=>(by cases h),λ_=>C0 (.inl a6)⟩
  | some l=>
   dsimp only;cases hs:mJ (JL (te ts n) l) x.b8 with
   | none=>exact⟨λv h=>(by cases h),λ_=>C0 (.inr ⟨l,a6,.inl hs⟩)⟩
   | some is=>
    dsimp only;cases ch:l.all (Nx x)with
    | true=>exact⟨λv h=>(by cases h;exact k2 l a6 is hs ch),λh=>(by cases h)⟩
    | false=>exact⟨λv h=>(by cases h),λ_=>C0 (.inr ⟨l,a6,.inr ch⟩)⟩
end
def MY(o:Option ak)(r:Option q3):Prop:=(∀v,o=some v->∃F,r=some ⟨v,F,true⟩)/\(o=none->∃F,r=some ⟨TO,F,false⟩)
theorem alR{path:List Int}(bo:path.length<=1000)(reason:Int):OW (path,reason)=some ⟨TO,⟨path,reason⟩,false⟩:=by rw[OW,ao (CJ (by omega) (by simp;omega)),PX];rfl
theorem Zk{path:List Int}(bo:path.length<=1000)(step:Int):XM (path,step)=some (path++[step]):=by
 rw[XM,ao (CJ (by omega) (by simp;omega))];simp only[g',cm,PX];rw[ao (CJ (by omega) (by simp;omega))]
theorem Tf{path:List Int}(bo:path.length<=1000)(reason:Int):MY none (OW (path,reason) >>=λr=>some (⟨ak.eta r.Value,r.HW,r.zt⟩:q3)):=by
 rw[alR bo];exact⟨λv h=>(by cases h),λ_=>⟨_,rfl⟩⟩
theorem MY.eta{o:Option ak}{X:Option q3}(h:MY o X):MY o (X >>=λr=>some (⟨ak.eta r.Value,r.HW,r.zt⟩:q3)):=by
 refine⟨λv cv=>?_,λdy=>?_⟩
 . obtain⟨F,q0⟩:=h.1 v cv;exact⟨F,by rw[q0];simp[ak.h7]⟩
 . obtain⟨F,q0⟩:=h.2 dy;exact⟨F,by rw[q0];rfl⟩
theorem agK(v:ak):ZE v=some ⟨v,⟨[],0⟩,true⟩:=by rw[ZE,ak.h7]
theorem MY.one(v:ak):MY (some v) (ZE v >>=λr=>some (⟨ak.eta r.Value,r.HW,r.zt⟩:q3)):=by
 rw[agK];exact⟨λLr h=>(by cases h;exact⟨_,by simp[ak.h7];rfl⟩),λh=>(by cases h)⟩
section
variable {ts:List f7}
def XR(ts:List f7)(o:Option ak)(L:Int)(path:List Int)(t:Int)(q:List UInt8)(step:Int):Prop:=
 MY o (XM (path,step) >>=λr=>TV ((⟨ts⟩:hI),t,q,e0 .i64 L 1,r))
theorem XR.yes{o:Option ak}{L:Int}{path:List Int}{t:Int}{q:List UInt8}{step:Int}(h:XR ts o L path t q step)(bo:path.length<=1000){v:ak}(cv:o=some v):∃F,TV ((⟨ts⟩:hI),t,q,e0 .i64 L 1,path++[step])=some ⟨v,F,true⟩:=by
 unfold XR at h;rw[Zk bo]at h;exact h.1 v cv
theorem XR.no{o:Option ak}{L:Int}{path:List Int}{t:Int}{q:List UInt8}{step:Int}(h:XR ts o L path t q step)(bo:path.length<=1000)(cv:o=none):∃F,TV ((⟨ts⟩:hI),t,q,e0 .i64 L 1,path++[step])=some ⟨TO,F,false⟩:=by
 unfold XR at h;rw[Zk bo]at h;exact h.2 cv
theorem aLw {x:f7} {path:List Int} (Vd:path.length <=900) {f:List UInt8 -> Option ak} {l:List (List UInt8)} (a6:l.length <=90000) {L:Int} (h:∀q,q∈l -> ∀step,XR ts (f q) L path x.ev q step)
 {z0 z2 z4 z5 z7 z9 z11:Int} {z1 z6 z8:Bool} {z3 z10:List UInt8}:∀(k i:Nat) (acc:List ak),i+k=l.length->acc.length=i->
 (∀m,mJ f (l.drop i)=some m->aeU (L,path,l,(i:Int),ts,x,z0,z1,z2,z3,z4,z5,z6,z7,z8,z9,z10,z11,acc)=some (.inr (z0,z1,z2,z3,z4,z5,z6,z7,z8,z9,z10,z11,acc++m)))/\
 (mJ f (l.drop i)=none->∃F,aeU (L,path,l,(i:Int),ts,x,z0,z1,z2,z3,z4,z5,z6,z7,z8,z9,z10,z11,acc)=some (.inl ⟨TO,F,false⟩))
 | 0,i,acc,ay,ch=>by
  rw[aeU,aJ (by simp;omega),MR (by omega),mJ]
  grind
 | k+1,i,acc,ay,ch=>by
  have ec:i < l.length:=by omega
  have a7:=h _ (j1 ec []) (i:Int);have e:l.drop i=l.getD i []::l.drop (i+1):=by rw[Ld ec];exact Ze ec
  rw[aeU,ao (by simp;omega),ao (gA ec),hJ,e,ahU,Zk (by omega)];simp only[g',cm];cases cJ:f (l.getD i [])with
  | none=>
   obtain⟨F,hw⟩:=a7.no (by omega) cJ;rw[hw];exact⟨λm hm=>(by cases hm),λ_=>⟨F,by simp[ak.h7]⟩⟩
  | some v=>
   obtain⟨F,hw⟩:=a7.yes (by omega) cJ;rw[hw];simp only[cm,ak.h7,N2];rw[aJ (by simp),ao (CJ (by omega) (by simp;omega)),j2 (by omega)]
   obtain⟨i1,i2⟩:=aLw Vd a6 h (z0:=z0) (z1:=z1) (z2:=z2) (z3:=z3) (z4:=z4) (z5:=z5) (z6:=z6) (z7:=z7) (z8:=z8) (z9:=z9) (z10:=z10) (z11:=z11) k (i+1) (acc++[v]) (by omega) (by simp;omega);cases hs:mJ f (l.drop (i+1))with
   | none=>exact⟨λm hm=>(by cases hm),λ_=>i2 hs⟩
   | some K7=>
    refine⟨λm hm=>?_,λh=>(by cases h)⟩;have:m=v::K7:=(by cases hm;rfl)
    grind
theorem anU{i:Nat}(h:i < 1000000):Nv .i64 2 (i:Int)=((2*i:Nat):Int):=by
 unfold Nv;have e:(2:Int)*(i:Int)=((2*i:Nat):Int):=by omega
 rw[e];exact TQ (by omega) (by omega)
theorem aLv {x:f7} {path:List Int} (Vd:path.length <=900) {f:List UInt8 -> Option ak} {l:List (List UInt8)} (a6:l.length <=90000) {L:Int} (h:∀q,q∈l -> ∀step,XR ts (f q) L path x.Key q step)
 {z0 z2 z4 z5 z7 z9 z11:Int} {z1 z6 z8:Bool} {z3 z10:List UInt8}:∀(k j:Nat) (acc:List ak),2*(j+k)=l.length->acc.length=j->
 (∀m,mJ f (LO (l.drop (2*j)))=some m->aeJ (L,path,l,(j:Int),ts,x,z0,z1,z2,z3,z4,z5,z6,z7,z8,z9,z10,z11,acc)=some (.inr (L,path,l,ts,x,z0,z1,z2,z3,z4,z5,z6,z7,z8,z9,z10,z11,acc++m)))/\
 (mJ f (LO (l.drop (2*j)))=none->∃F,aeJ (L,path,l,(j:Int),ts,x,z0,z1,z2,z3,z4,z5,z6,z7,z8,z9,z10,z11,acc)=some (.inl ⟨TO,F,false⟩))
 | 0,j,acc,ay,ch=>by
  rw[aeJ,anU (by omega),aJ (by simp;omega),MR (by omega),show LO ([]:List (List UInt8))=[]from rfl,mJ]
  grind
 | k+1,j,acc,ay,ch=>by
  have ec:2*j < l.length:=by omega
  have a7:=h _ (j1 ec []) (j:Int);rw[aeJ,anU (by omega),ao (by simp;omega)];simp only[g',cm];rw[ao (gA ec),hJ,aEt (by omega) [],ahU,Zk (by omega)];simp only[cm];cases cJ:f (l.getD (2*j) [])with
  | none=>
   obtain⟨F,hw⟩:=a7.no (by omega) cJ;rw[hw];exact⟨λm hm=>(by cases hm),λ_=>⟨F,by simp[ak.h7]⟩⟩
  | some v=>
   obtain⟨F,hw⟩:=a7.yes (by omega) cJ;rw[hw];simp only[cm,ak.h7,N2];rw[aJ (by simp),ao (CJ (by omega) (by simp;omega)),j2 (by omega)]
   obtain⟨i1,i2⟩:=aLv Vd a6 h (z0:=z0) (z1:=z1) (z2:=z2) (z3:=z3) (z4:=z4) (z5:=z5) (z6:=z6) (z7:=z7) (z8:=z8) (z9:=z9) (z10:=z10) (z11:=z11) k (j+1) (acc++[v]) (by omega) (by simp;omega);cases hs:mJ f (LO (l.drop (2*(j+1))))with
   | none=>exact⟨λm hm=>(by cases hm),λ_=>i2 hs⟩
   | some K7=>
    refine⟨λm hm=>?_,λh=>(by cases h)⟩;have:m=v::K7:=(by cases hm;rfl)
    grind
theorem aJx {x:f7} {path:List Int} (Vd:path.length <=900) {f:List UInt8 -> Option ak} {l:List (List UInt8)} (a6:l.length <=90000) {L:Int} (h:∀q,q∈l -> ∀step,XR ts (f q) L path x.ev q step)
 {z0 z2 z4 z5 z7 z9 z11:Int} {z1 z6 z8:Bool} {z3 z10:List UInt8} {ks:List ak}:∀(k j:Nat) (acc:List ak),2*(j+k)=l.length->acc.length=j->
 (∀m,mJ f (Md (l.drop (2*j)))=some m->aeK (L,path,l,(j:Int),ts,x,z0,z1,z2,z3,z4,z5,z6,z7,z8,z9,z10,z11,ks,acc)=some (.inr (z0,z1,z2,z3,z4,z5,z6,z7,z8,z9,z10,z11,ks,acc++m)))/\
 (mJ f (Md (l.drop (2*j)))=none->∃F,aeK (L,path,l,(j:Int),ts,x,z0,z1,z2,z3,z4,z5,z6,z7,z8,z9,z10,z11,ks,acc)=some (.inl ⟨TO,F,false⟩))
 | 0,j,acc,ay,ch=>by
  rw[aeK,anU (by omega),aJ (by simp;omega),MR (by omega),show Md ([]:List (List UInt8))=[]from rfl,mJ]
  grind
 | k+1,j,acc,ay,ch=>by
  have ec:2*j+1 < l.length:=by omega
  have a7:=h _ (j1 ec []) (j:Int);have eh:e0 .i64 ((2*j:Nat):Int) 1=((2*j+1:Nat):Int):=j2 (by omega);rw[aeK,anU (by omega),ao (by simp;omega),eh];simp only[g',cm];rw[ao (gA ec),hJ,aFq ec [],ahU,Zk (by omega)];simp only[cm];cases cJ:f (l.getD (2*j+1) [])with
  | none=>
   obtain⟨F,hw⟩:=a7.no (by omega) cJ;rw[hw];exact⟨λm hm=>(by cases hm),λ_=>⟨F,by simp[ak.h7]⟩⟩
  | some v=>
   obtain⟨F,hw⟩:=a7.yes (by omega) cJ;rw[hw];simp only[cm,ak.h7,N2];rw[aJ (by simp),ao (CJ (by omega) (by simp;omega)),j2 (by omega)]
   obtain⟨i1,i2⟩:=aJx Vd a6 h (z0:=z0) (z1:=z1) (z2:=z2) (z3:=z3) (z4:=z4) (z5:=z5) (z6:=z6) (z7:=z7) (z8:=z8) (z9:=z9) (z10:=z10) (z11:=z11) (ks:=ks) k (j+1) (acc++[v]) (by omega) (by simp;omega);cases hs:mJ f (Md (l.drop (2*(j+1))))with
   | none=>exact⟨λm hm=>(by cases hm),λ_=>i2 hs⟩
   | some K7=>
    refine⟨λm hm=>?_,λh=>(by cases h)⟩;have:m=v::K7:=(by cases hm;rfl)
    grind
theorem aLr {x:f7} {path:List Int} (bo:path.length <=1000) {l:List (List UInt8)} {ks:List ak} (hk:∀y,y∈ks -> nc y.hX) (a6:ks.length <=90000) {L:Int}
 {z0 z2 z4 z5 z7 z9 z11:Int} {z1 z6 z8:Bool} {z3 z10:List UInt8}:∀(k i:Nat),ks.length - (i+1)=k->
 ((∀m,i<=m->m+1 < ks.length->OT (ks.getD m eJ) (ks.getD (m+1) eJ) < 0)/\acX (L,path,l,((i+1:Nat):Int),ts,x,z0,z1,z2,z3,z4,z5,z6,z7,z8,z9,z10,z11,ks)=some (.inr (L,path,l,ts,x,z0,z1,z2,z3,z4,z5,z6,z7,z8,z9,z10,z11,ks)))\/
 ((∃m,m+1 < ks.length/\¬OT (ks.getD m eJ) (ks.getD (m+1) eJ) < 0)/\∃F,acX (L,path,l,((i+1:Nat):Int),ts,x,z0,z1,z2,z3,z4,z5,z6,z7,z8,z9,z10,z11,ks)=some (.inl ⟨TO,F,false⟩))
 | 0,i,ay=>by
  rw[acX,aJ (by simp;omega)]
  grind
 | k+1,i,ay=>by
  have ec:i+1 < ks.length:=by omega
  have eh:BJ .i64 ((i+1:Nat):Int) 1=(i:Int):=by rw[Q7 (by omega) (by omega)];omega
  rw[acX,ao (by simp;omega),eh];simp only[g',cm];rw[ao (gA (by omega)),ao (by simp;omega),ao (gA ec),ao (by simp;omega),hJ,hJ];simp only[ak.h7];rw[ah3 (hk _ (j1 (by omega) eJ)) (hk _ (j1 ec eJ))];simp only[cm];by_cases b7:OT (ks.getD i eJ) (ks.getD (i+1) eJ) < 0
  . rw[aJ (by simpa using b7),j2 (by omega)];rcases aLr bo hk a6 (x:=x) (l:=l) (L:=L) (z0:=z0) (z1:=z1) (z2:=z2) (z3:=z3) (z4:=z4) (z5:=z5) (z6:=z6) (z7:=z7) (z8:=z8) (z9:=z9) (z10:=z10) (z11:=z11) k (i+1) (by omega)with⟨h1,ah⟩ | h
    . grind
    grind
  . rw[ao (by simpa using b7),alR bo]
    grind
theorem aX4{l:List qy}(id:Int)(a6:l.length <=90000):(∃j,j < l.length /\ l.find? (λf=>decide (f.a8=id))=some (l.getD j NQ) /\ ak0 (l,id)=some (j:Int)) \/
 (l.find? (λf=>decide (f.a8=id))=none/\ak0 (l,id)=some (-1)):=by
 have h:=ae9 (λi=>aa8 (l,id,(i:Int))) l.length (λi=>decide ((l.getD i NQ).a8=id)) (λi=>.inl (i:Int)) (.inr ())
  (λi ay=>by
   rw[aa8,ao (by simp;omega),ao (gA ay),j2 (by omega)]
   grind)
  (by rw[aa8,aJ (by simp)])
 have u1:aa8 (l,id,((0:Nat):Int))=aa8 (l,id,0):=rfl;simp only[u1]at h;rw[ak0];rcases h with⟨j,h1,ah,b',ea⟩ | ⟨h1,ea⟩
 . left;refine⟨j,h1,?_,by rw[ea];rfl⟩;rw[Ld h1]at ah ⊢;rw[asu];refine⟨ah,j,h1,rfl,λk hk=>?_⟩;have:=b' k hk;rw[Ld (by omega)]at this
   simpa using this
 . right;refine⟨?_,by rw[ea];rfl⟩;rw[anZ];intro f cJ;obtain⟨i,ay,rfl⟩:=OR cJ;have:=h1 i ay;rw[Ld ay]at this
   simpa using this
theorem aLz {x:f7} {path:List Int} (Vd:path.length <=900) {f:Int -> List UInt8 -> Option ak} {l:List qy} (a6:l.length <=90000) (J8:x.b8.length <=16) {L:Int}
 (h:∀m,m∈x.b8->∀q,q∈l->∀step,XR ts (f m.e2 q.Data) L path m.e2 q.Data step)
 {z0 z2 z4 z5 z7 z9 z11:Int} {z1 z6 z8:Bool} {z3 z10:List UInt8}:∀(k i:Nat) (acc:List ak),i+k=x.b8.length->acc.length=i->
 (∀m,mJ (JL f l) (x.b8.drop i)=some m->Yu (L,path,l,(i:Int),ts,x,z0,z1,z2,z3,z4,z5,z6,z7,z8,z9,z10,z11,acc)=some (.inr (path,l,x,z0,z1,z2,z3,z4,z5,z6,z7,z8,z9,z10,z11,acc++m)))/\
 (mJ (JL f l) (x.b8.drop i)=none->∃F,Yu (L,path,l,(i:Int),ts,x,z0,z1,z2,z3,z4,z5,z6,z7,z8,z9,z10,z11,acc)=some (.inl ⟨TO,F,false⟩))
 | 0,i,acc,ay,ch=>by
  rw[Yu,aJ (by simp;omega),MR (by omega),mJ]
  grind
 | k+1,i,acc,ay,ch=>by
  have ec:i < x.b8.length:=by omega
  have C3:=j1 ec ii;have e:x.b8.drop i=x.b8.getD i ii::x.b8.drop (i+1):=by rw[Ld ec];exact Ze ec
  have go:∀v,(∀K7,mJ (JL f l) (x.b8.drop (i+1))=some K7->Yu (L,path,l,((i+1:Nat):Int),ts,x,z0,z1,z2,z3,z4,z5,z6,z7,z8,z9,z10,z11,acc++[v])=some (.inr (path,l,x,z0,z1,z2,z3,z4,z5,z6,z7,z8,z9,z10,z11,acc++[v]++K7)))/\(mJ (JL f l) (x.b8.drop (i+1))=none->∃F,Yu (L,path,l,((i+1:Nat):Int),ts,x,z0,z1,z2,z3,z4,z5,z6,z7,z8,z9,z10,z11,acc++[v])=some (.inl ⟨TO,F,false⟩)):=λv=>
   aLz Vd a6 J8 h k (i+1) (acc++[v]) (by omega) (by simp;omega)
  rw [Yu, ao (by simp; omega), ao (gA ec), hJ, e, ahU];simp only [g', cm];generalize x.b8.getD i ii = m0 at *;have fin : ∀ (v : ak) (X : Option _), JL f l m0 = some v -> X = Yu (L, path, l, ((i + 1 : Nat): Int), ts, x, z0, z1, z2, z3, z4, z5, z6, z7, z8, z9, z10, z11, acc ++ [v]) ->
   (∀m,amj (JL f l m0) (mJ (JL f l) (x.b8.drop (i+1)))=some m->X=some (.inr (path,l,x,z0,z1,z2,z3,z4,z5,z6,z7,z8,z9,z10,z11,acc++m)))/\
   (amj (JL f l m0) (mJ (JL f l) (x.b8.drop (i+1)))=none->∃F,X=some (.inl ⟨TO,F,false⟩)):=by
   intro v X cv Xf;obtain⟨g1,g2⟩:=go v;rw[cv,Xf];cases hs:mJ (JL f l) (x.b8.drop (i+1))with
   | none=>exact⟨λm hm=>(by cases hm),λ_=>g2 hs⟩
   | some K7=>
    refine⟨λm hm=>?_,λh=>(by cases h)⟩;have:m=v::K7:=(by cases hm;rfl)
    grind
  rcases aX4 m0.a8 a6 with⟨j,Ll,MP,We⟩ | ⟨MP,We⟩
  . rw[We];simp only[cm];rw[aJ (by simp),ao (gA Ll),hJ,Zk (by omega)];have a7:=h m0 C3 _ (j1 Ll NQ) m0.a8;have agf:JL f l m0=f m0.e2 (l.getD j NQ).Data:=by unfold JL;rw[MP]
    simp only[cm];cases cv:f m0.e2 (l.getD j NQ).Data with
    | none=>
     obtain⟨F,hw⟩:=a7.no (by omega) cv;rw[hw,agf,cv];exact⟨λm hm=>(by cases hm),λ_=>⟨F,by simp[ak.h7]⟩⟩
    | some v=>
     obtain⟨F,hw⟩:=a7.yes (by omega) cv;rw[hw];simp only[cm,ak.h7,N2];rw[aJ (by simp),ao (CJ (by omega) (by simp;omega)),j2 (by omega)]
     grind
  . rw[We];simp only[cm];rw[ao (by simp)];cases adx:m0.nk with
    | true=>
     rw[aJ (by simp)];simp only[ak.h7];rw[ao (CJ (by omega) (by simp;omega)),j2 (by omega)];exact fin m0.j0 _ (by unfold JL;rw[MP];simp[adx]) rfl
    | false=>
     have agf:JL f l m0=none:=by unfold JL;rw[MP];simp[adx]
     rw[ao (by simp),Zk (by omega),agf];simp only[cm];rw[alR (by simp;omega)];simp only[cm,ak.h7];exact⟨λm hm=>(by cases hm),λ_=>⟨_,rfl⟩⟩
theorem a1U{x:f7}(J8:x.b8.length<=1000)(id:Int):∃r,Tj (x,id)=some r/\r.2=(zJ x.b8 id).isSome:=by
 obtain⟨r,kJ,oJ⟩:=auC (t:=x) (id:=id) (by omega);refine⟨r,kJ,?_⟩;cases q0:zJ x.b8 id with
 | some m=>
  obtain⟨m1,m2⟩:=ae' q0;rcases oJ with⟨j,Ll,MP,_,rfl⟩ | ⟨q,_⟩
  . rfl
  . obtain⟨i,ay,rfl⟩:=OR m1
    grind
 | none=>
  rcases oJ with⟨j,Ll,MP,_,_⟩ | ⟨_,q⟩
  . exact absurd MP (aaX q0 _ (j1 Ll ii))
  grind
theorem azG {x:f7} {path:List Int} (Vd:path.length <=900) (J8:x.b8.length <=1000) {l:List qy} (a6:l.length <=90000)
 {z0 z2 z4 z5 z7 z9 z11:Int} {z1 z6 z8:Bool} {z3 z10:List UInt8} {its:List ak}:∀(k i:Nat) (acc:List pI),i+k=l.length->acc.length<=i->
 ((l.drop i).all (Nx x)=true->aa5 (path,l,(i:Int),x,z0,z1,z2,z3,z4,z5,z6,z7,z8,z9,z10,z11,its,acc)=some (.inr (z0,z1,z2,z3,z4,z5,z6,z7,z8,z9,z10,z11,its,acc++LK x (l.drop i))))/\
 ((l.drop i).all (Nx x)=false->∃F,aa5 (path,l,(i:Int),x,z0,z1,z2,z3,z4,z5,z6,z7,z8,z9,z10,z11,its,acc)=some (.inl ⟨TO,F,false⟩))
 | 0,i,acc,ay,ch=>by
  rw[aa5,aJ (by simp;omega),MR (by omega)];exact⟨λ_=>by simp[LK],λh=>by simp at h⟩
 | k+1,i,acc,ay,ch=>by
  have ec:i < l.length:=by omega
  have e:l.drop i=l.getD i NQ::l.drop (i+1):=by rw[Ld ec];exact Ze ec
  obtain⟨r,kJ,oJ⟩:=a1U J8 (l.getD i NQ).a8;rw[aa5,ao (by simp;omega),ao (gA ec),hJ,e];simp only[g',cm];generalize l.getD i NQ=f at*;rw[kJ];simp only[cm];have oj:(f::l.drop (i+1)).all (Nx x)=(Nx x f && (l.drop (i+1)).all (Nx x)):=rfl;rw[oj];cases hs:(zJ x.b8 f.a8).isSome with
  | true=>
   have c8:Nx x f=true:=by unfold Nx;rw[hs];rfl
   have ar:LK x (f::l.drop (i+1))=LK x (l.drop (i+1)):=by unfold LK;rw[ayR (by rw[hs];simp)]
   rw[oJ,hs,ao rfl,c8,ar,j2 (by omega),Zf];exact azG Vd J8 a6 k (i+1) acc (by omega) (by omega)
  | false=>
   rw[oJ,hs,aJ (by simp),ao (gA ec)];cases b7:f.sJ with
   | true=>
    have c8:Nx x f=false:=by unfold Nx;rw[hs,b7];rfl
    rw[ao rfl,ao (gA ec),Zk (by omega),c8];simp only[cm];rw[alR (by simp;omega)];exact⟨λh=>(by cases h),λ_=>⟨_,rfl⟩⟩
   | false=>
    have c8:Nx x f=true:=by unfold Nx;rw[hs,b7];rfl
    have ar:LK x (f::l.drop (i+1))=⟨f.a8,f.Data⟩::LK x (l.drop (i+1)):=by unfold LK;rw[ayS (by rw[hs];rfl)];rfl
    rw[aJ (by simp),ao (gA ec),ao (gA ec),ao (CJ (by omega) (by simp;omega)),c8,ar,j2 (by omega),Zf];have:=azG Vd J8 a6 (z0:=z0) (z1:=z1) (z2:=z2) (z3:=z3) (z4:=z4) (z5:=z5) (z6:=z6) (z7:=z7) (z8:=z8) (z9:=z9) (z10:=z10) (z11:=z11) (its:=its) k (i+1) (acc++[⟨f.a8,f.Data⟩]) (by omega) (by simp;omega)
    grind
end
section
variable {ts:List f7}
def aay(ts:List f7)(n:Nat):Prop:=∀(t:Int) (p:List UInt8) (path:List Int),0<=t->t < ts.length->p.length<=4096->path.length+n<=200->
 MY (te ts n t p) (TV ((⟨ts⟩:hI),t,p,((201 - n:Nat):Int),path))
theorem aay.part{n:Nat}(ih:aay ts n)(dy:n+1 <=200){t:Int}{q:List UInt8}{path:List Int}(t0:0 <=t /\ t < ts.length)(eg:q.length <=4096)(bo:path.length+(n+1) <=200)(step:Int):
 XR ts (te ts n t q) ((201 - (n+1):Nat):Int) path t q step:=by
 unfold XR;rw[Zk (by omega)];have e:e0 .i64 ((201 - (n+1):Nat):Int) 1=((201 - n:Nat):Int):=by rw[j2 (by omega)];omega
 rw[e];exact ih t q (path++[step]) t0.1 t0.2 eg (by simp;omega)
theorem MY.cast{o q1:Option ak}{X:Option q3}(e:o=q1)(h:MY o X):MY q1 X:=e▸h
theorem MY.adQ{X:Option q3}{F:R2}(h:X=some ⟨TO,F,false⟩):MY none X:=⟨λv h=>(by cases h),λ_=>⟨F,h⟩⟩
theorem MY.ajC{X:Option q3}{v:ak}{F:R2}(h:X=some ⟨v,F,true⟩):MY (some v) X:=⟨λLr rz=>(by cases rz;exact⟨F,h⟩),λh=>(by cases h)⟩
theorem aX5(H:RQ ts){n:Nat}(dy:n+1 <=200)(ih:aay ts n){x:f7}(ad:x∈ts)(s3:x.Kind=6){p:List UInt8}(bo:p.length <=4096){path:List Int}(Oz:path.length+(n+1) <=200):
 MY (aoO (te ts n) x p) (ap5 ((⟨ts⟩:hI),x,p,((201 - (n+1):Nat):Int),path)):=by
 obtain⟨o,_,KY,KZ,JD⟩:=aVz p;rw[ap5,KY];simp only[g',cm];unfold aoO;by_cases h0:o.2.2=0
 . obtain⟨v1,v2,v3⟩:=KZ h0;obtain⟨abG,arA⟩:=H.S.A x ad (.inr s3);rw[aJ (by simp[h0]),v1];dsimp only;obtain⟨r,kJ,oJ⟩:=auC (t:=x) (id:=o.1) (by omega);rw[kJ];simp only[cm];cases q0:zJ x.b8 o.1 with
   | some m=>
    dsimp only;obtain⟨m1,m2⟩:=ae' q0;rcases oJ with⟨j,Ll,MP,_,rfl⟩ | ⟨q,_⟩
    . have We:x.b8.getD j ii=m:=aqm abG (j1 Ll ii) m1 (by rw[MP,m2]);rw[aJ (by simp),aJ (by simp),ao (gA Ll),hJ,We];have a7:=ih.part dy (t:=m.e2) (q:=o.2.1) (path:=path) (H.mem ad m1) (by omega) Oz o.1;rw[Zk (by omega)];simp only[cm];cases cv:te ts n m.e2 o.2.1 with
      | none=>
       obtain⟨F,hw⟩:=a7.no (by omega) cv;rw[hw];exact .adQ rfl
      | some v=>
       obtain⟨F,hw⟩:=a7.yes (by omega) cv;rw[hw];simp only[cm];rw[aJ (by simp),agK];refine MY.cast rfl (MY.ajC (F:=⟨[],0⟩) ?_);simp[ak.h7,s3]
    . obtain⟨i,ay,rfl⟩:=OR m1;exact absurd m2 (by have:=q i ay;rwa [Ld ay]at this)
   | none=>
    dsimp only;have ar:r=(0,false):=by
     rcases oJ with⟨j,Ll,MP,_,_⟩ | ⟨_,q⟩
     . exact absurd MP (aaX q0 _ (j1 Ll ii))
     . exact q
    rw[ar];cases Nl:x.Open with
    | false=>
     rw[aJ (by simp),ao (by simp)];exact Tf (by omega) _
    | true=>
     rw[ao (by simp),aJ (by simp),ao (by simp),agK,s3];refine MY.ajC (F:=⟨[],0⟩) ?_;simp[ak.h7]
 . rw[ao (by simp[h0]),JD h0];exact Tf (by omega) _
theorem aX6(H:RQ ts){n:Nat}(dy:n+1 <=200)(ih:aay ts n){x:f7}(ad:x∈ts)(Ns:x.Kind=7){p:List UInt8}(bo:p.length <=4096){path:List Int}(Oz:path.length+(n+1) <=200):
 MY (agP (te ts n) x p) (ap8 ((⟨ts⟩:hI),x,p,((201 - (n+1):Nat):Int),path)):=by
 obtain⟨o,_,KY,KZ,JD⟩:=aEr (p:=p) (by omega);rw[ap8,KY];unfold agP;simp only[g',cm];by_cases h0:o.2=0
 . obtain⟨v1,v2,v3⟩:=KZ h0;rw[v1];dsimp only;by_cases hm:(o.1.length:Int)<=x.Max
   . rw[ao hm,aJ (by simp[h0]),aJ (by simp;omega)];obtain⟨J3,P5⟩:=aLw (ts:=ts) (x:=x) (path:=path) (by omega) (f:=te ts n x.ev) (l:=o.1) (by omega) (L:=((201 - (n+1):Nat):Int)) (λq eg step=>ih.part dy (H.elem ad (by omega)) (by have:=v2 q eg;omega) Oz step)
      (z0:=0) (z1:=false) (z2:=0) (z3:=[]) (z4:=0) (z5:=0) (z6:=false) (z7:=x.Kind) (z8:=false) (z9:=0) (z10:=[]) (z11:=0) o.1.length 0 [] (by omega) rfl
     rw[Ph]at J3 P5;have z0:((0:Nat):Int)=0:=rfl;rw[z0]at J3 P5;cases hs:mJ (te ts n x.ev) o.1 with
     | none=>
      obtain⟨F,hw⟩:=P5 hs;rw[hw];exact .adQ rfl
     | some is=>
      rw[J3 is hs];simp only[cm];rw[agK];refine MY.cast rfl (MY.ajC (F:=⟨[],0⟩) ?_);simp[ak.h7,Ns]
   . rw[aJ hm,aJ (by simp[h0]),ao (by simp;omega)];exact Tf (by omega) _
 . rw[ao (by simp[h0]),JD h0];exact Tf (by omega) _
theorem a1M(H:RQ ts){n:Nat}(dy:n+1 <=200)(ih:aay ts n){x:f7}(ad:x∈ts)(NZ:x.Kind=8){p:List UInt8}(bo:p.length <=4096){path:List Int}(Oz:path.length+(n+1) <=200):
 MY (aoP (te ts n) x p) (apg ((⟨ts⟩:hI),x,p,((201 - (n+1):Nat):Int),path)):=by
 obtain⟨o,_,KY,KZ,JD⟩:=aEr (p:=p) (by omega);rw[apg,KY];unfold aoP;simp only[g',cm];by_cases h0:o.2=0
 . obtain⟨v1,v2,v3⟩:=KZ h0;rw[v1];dsimp only;have X7:kt (o.1.length:Int) 2=((o.1.length % 2:Nat):Int):=by rw[OY (by omega) (by omega)];omega
   rw[X7,aLn (by omega)];by_cases he:o.1.length % 2=0
   . by_cases hm:((o.1.length / 2:Nat):Int)<=x.Max
     . rw[ao (show o.1.length % 2=0/\((o.1.length / 2:Nat):Int)<=x.Max from⟨he,hm⟩),aJ (show ¬(bif !decide (o.2=0)then true else decide (((o.1.length % 2:Nat):Int)=1))=true by rw[he,h0];simp),aJ (show ¬decide (x.Max < ((o.1.length / 2:Nat):Int))=true by simp only[ye];omega)];have z0:((0:Nat):Int)=0:=rfl
       obtain⟨J3,P5⟩:=aLv (ts:=ts) (x:=x) (path:=path) (by omega) (f:=te ts n x.Key) (l:=o.1) (by omega) (L:=((201 - (n+1):Nat):Int)) (λq eg step=>ih.part dy (H.key ad NZ) (by have:=v2 q eg;omega) Oz step)
        (z0:=0) (z1:=false) (z2:=0) (z3:=[]) (z4:=0) (z5:=0) (z6:=false) (z7:=x.Kind) (z8:=false) (z9:=0) (z10:=[]) (z11:=0) (o.1.length / 2) 0 [] (by omega) rfl
       rw[Nat.mul_zero,Ph,z0]at J3 P5;cases hs:mJ (te ts n x.Key) (LO o.1)with
       | none=>
        obtain⟨F,hw⟩:=P5 hs;rw[hw];exact .adQ rfl
       | some ks=>
        have Y6:=afa hs;have O9:=aw9 o.1;rw[J3 ks hs];simp only[cm,PX];have ax2:∀y,y∈ks->nc y.hX:=λy bJ=>by
         obtain⟨a,_,a2⟩:=ah6 hs y bJ;exact aGe a2
        have one:((0+1:Nat):Int)=1:=rfl;rcases aLr (ts:=ts) (x:=x) (path:=path) (by omega) (l:=o.1) (ks:=ks) ax2 (by omega) (L:=((201 - (n+1):Nat):Int))
         (z0:=0) (z1:=false) (z2:=0) (z3:=[]) (z4:=0) (z5:=0) (z6:=false) (z7:=x.Kind) (z8:=false) (z9:=0) (z10:=[]) (z11:=0) (ks.length - (0+1)) 0 rfl with⟨h1,ah⟩ | ⟨⟨m,m1,m2⟩,F,ah⟩
        . have ch:abp ks=true:=ah4.2 λi ay=>h1 i (by omega) ay
          rw[one]at ah;rw[ah,ao ch];simp only[cm];obtain⟨ao5,agT⟩:=aJx (ts:=ts) (x:=x) (path:=path) (by omega) (f:=te ts n x.ev) (l:=o.1) (by omega) (L:=((201 - (n+1):Nat):Int)) (λq eg step=>ih.part dy (H.elem ad (by omega)) (by have:=v2 q eg;omega) Oz step)
           (z0:=0) (z1:=false) (z2:=0) (z3:=[]) (z4:=0) (z5:=0) (z6:=false) (z7:=x.Kind) (z8:=false) (z9:=0) (z10:=[]) (z11:=0) (ks:=ks) (o.1.length / 2) 0 [] (by omega) rfl
          rw[Nat.mul_zero,Ph,z0]at ao5 agT;cases anr:mJ (te ts n x.ev) (Md o.1)with
          | none=>
           obtain⟨F,hw⟩:=agT anr;rw[hw];exact .adQ rfl
          | some is=>
           rw[ao5 is anr];simp only[cm];rw[agK];refine MY.cast rfl (MY.ajC (F:=⟨[],0⟩) ?_);simp[ak.h7,NZ]
        . have ch:¬abp ks=true:=λh=>m2 (ah4.1 h m m1)
          rw[one]at ah;rw[ah,aJ ch];exact .adQ rfl
     . rw[aJ (show ¬(o.1.length % 2=0/\((o.1.length / 2:Nat):Int)<=x.Max)fromλh=>hm h.2),aJ (show ¬(bif !decide (o.2=0)then true else decide (((o.1.length % 2:Nat):Int)=1))=true by rw[he,h0];simp),ao (show decide (x.Max < ((o.1.length / 2:Nat):Int))=true by simp only[ye];omega)];exact Tf (by omega) _
   . have h1:o.1.length % 2=1:=by omega
     rw[aJ (show ¬(o.1.length % 2=0/\((o.1.length / 2:Nat):Int)<=x.Max)fromλh=>he h.1),ao (show(bif !decide (o.2=0)then true else decide (((o.1.length % 2:Nat):Int)=1))=true by rw[h1,h0];simp)];exact Tf (by omega) _
 . rw[JD h0,ao (by simp[h0])];exact Tf (by omega) _
theorem aWr(H:RQ ts){n:Nat}(dy:n+1 <=200)(ih:aay ts n){x:f7}(ad:x∈ts)(u2:x.Kind=5){p:List UInt8}(bo:p.length <=4096){path:List Int}(Oz:path.length+(n+1) <=200):
 MY (agO (te ts n) x p) (apZ ((⟨ts⟩:hI),x,p,((201 - (n+1):Nat):Int),path)):=by
 obtain⟨abG,arA⟩:=H.S.A x ad (.inl u2);obtain⟨o,_,KY,KZ,JD⟩:=aSM (p:=p) (by omega);rw[apZ,KY];unfold agO;simp only[g',cm];by_cases h0:o.2=0
 . obtain⟨v1,v2,v3,v4⟩:=KZ h0;rw[aJ (by simp[h0]),v1];dsimp only;obtain⟨J3,P5⟩:=aLz (ts:=ts) (x:=x) (path:=path) (by omega) (f:=te ts n) (l:=o.1) (by omega) (by omega) (L:=((201 - (n+1):Nat):Int)) (λm hm q eg step=>ih.part dy (H.mem ad hm) (by have:=(v2 q eg).1;omega) Oz step)
    (z0:=0) (z1:=false) (z2:=0) (z3:=[]) (z4:=0) (z5:=0) (z6:=false) (z7:=x.Kind) (z8:=false) (z9:=0) (z10:=[]) (z11:=0) x.b8.length 0 [] (by omega) rfl
   have z0:((0:Nat):Int)=0:=rfl;rw[Ph,z0]at J3 P5;have B:=λits=>azG (x:=x) (path:=path) (by omega) (by omega) (l:=o.1) (by omega) (z0:=0) (z1:=false) (z2:=0) (z3:=[]) (z4:=0) (z5:=0) (z6:=false) (z7:=x.Kind) (z8:=false) (z9:=0) (z10:=[]) (z11:=0) (its:=its) o.1.length 0 [] (by omega) (JK _)
   rw[Ph,z0]at B;cases hs:mJ (JL (te ts n) o.1) x.b8 with
   | none=>
    obtain⟨F,hw⟩:=P5 hs;rw[hw];exact .adQ rfl
   | some is=>
    rw[J3 is hs];simp only[cm,PX];cases ch:o.1.all (Nx x)with
    | true=>
     rw[(B is).1 ch,ao rfl];simp only[cm];rw[agK];refine MY.cast rfl (MY.ajC (F:=⟨[],0⟩) ?_);simp[ak.h7,u2]
    | false=>
     obtain⟨F,hw⟩:=(B is).2 ch;rw[hw,aJ (by simp)];exact .adQ rfl
 . rw[ao (by simp[h0]),JD h0];exact Tf (by omega) _
theorem aVG(H:RQ ts){n:Nat}(dy:n+1 <=200)(ih:aay ts n):aay ts (n+1):=λt p path t0 t1 bo Oz=>by
 obtain⟨j,rfl⟩:=ayT t0;have c7:j < ts.length:=by omega
 have SO:¬(200:Int) < ((201 - (n+1):Nat):Int):=by omega
 rw[TV,ao (gA c7),aqX,hJ];have ad:=j1 c7 hz;generalize ts.getD j hz=x at*;obtain⟨aAw,aAx⟩:=H.S.K x ad;have af8:x.hl.length < 9223372036854775807:=Jg (Qz (H.S.T x ad).1);unfold aoQ;obtain⟨u,_,Zn,aeg,Uz⟩:=aTk p;have aJ':ake p=some (u.1,decide (u.2=0)):=by rw[ake,Zn];rfl
 by_cases hg:x.Kind=1
 . simp only[hg,SO,ye,↓reduceIte,Int.reduceEq,LV,OB,q2,g',cm];unfold aoK;by_cases h0:p=[]
   . rw[ao h0,aJ (by simp[h0])];simp only[h0,M6,N2];exact .one _
   . by_cases h1:p=[1]
     . rw[aJ h0,ao h1,aJ (by simp[h1])];simp only[h0,LV,Uw];exact .one _
     . rw[aJ h0,aJ h1,ao (by simp[h0,h1])];exact Tf (by omega) _
 by_cases hv:x.Kind=2
 . simp only[hv,SO,ye,↓reduceIte,Int.reduceEq,LV,OB,q2,g',cm,aJ'];unfold aoL;by_cases h0:u.2=0
   . obtain⟨m,m1,m2⟩:=aeg h0;rw[m1,m2,aX2 (aqE m1),aJ (by simp[h0])];simp only[cm];by_cases ar:x.hU<=S5 m/\S5 m<=x.hV
     . rw[ao ar,aJ (by simp;omega)];exact .one _
     . rw[aJ ar,ao (by simp;omega)];exact Tf (by omega) _
   . rw[Uz h0,ao (by simp[h0])];exact Tf (by omega) _
 by_cases h3:x.Kind=3
 . simp only[h3,SO,ye,↓reduceIte,Int.reduceEq,LV,OB,q2,g',cm];unfold aoM;by_cases ar:(p.length:Int)<=x.Max
   . rw[ao ar,aJ (by omega)];exact .one _
   . rw[aJ ar,ao (by omega)];exact Tf (by omega) _
 by_cases oo:x.Kind=4
 . simp only[oo,SO,ye,↓reduceIte,Int.reduceEq,LV,OB,q2,g',cm,aJ'];unfold aoN;by_cases h0:u.2=0
   . obtain⟨m,m1,m2⟩:=aeg h0;rw[m1,m2];dsimp only;by_cases ar:1<=m/\m<=1000
     . obtain⟨q,_,s4,JY⟩:=akK (t:=x) (m:Int) af8;have e:jJ .i64 (m:Int)=(m:Int):=TQ (by omega) (by omega);rw[aJ (show ¬(bif bif !decide (u.2=0)then true else decide ((m:Int) < 1)then true else decide (1000 < (m:Int)))=true by simp[h0];omega),e,s4];simp only[cm]
       have eg:q.2=(x.hl.any λy=>decide (y.a8=(m:Int))):=by
        have:=(aqJ JY).trans av5
        grind
       rw[eg];by_cases al:((x.hl.any λy=>decide (y.a8=(m:Int))) || x.Open)=true
       . rw[ao (show 1<=m/\m<=1000/\((x.hl.any λy=>decide (y.a8=(m:Int))) || x.Open)=true from⟨ar.1,ar.2,al⟩),aJ]
         . exact .one _
         grind
       . rw[aJ (show ¬(1<=m/\m<=1000/\((x.hl.any λy=>decide (y.a8=(m:Int))) || x.Open)=true)fromλh=>al h.2.2),ao]
         . exact Tf (by omega) _
         grind
     . rw[aJ (show ¬(1<=m/\m<=1000/\((x.hl.any λy=>decide (y.a8=(m:Int))) || x.Open)=true)fromλh=>ar ⟨h.1,h.2.1⟩),ao (by simp[h0];omega)];exact Tf (by omega) _
   . rw[Uz h0,ao (by simp[h0])];exact Tf (by omega) _
 by_cases Qn:x.Kind=9
 . obtain⟨eh,hj⟩:=H.elem ad (by omega);simp only[Qn,SO,ye,↓reduceIte,Int.reduceEq,LV,M6,OB,RG,q2,g',cm];cases p with
   | nil=>
    rw[aJ (by simp),aeh];exact .one _
   | cons c q=>
    have i0:ez 0 (c::q).length=true:=gA (k:=0) (by simp);have b0:MD (c::q) 0=(c.toNat:Int):=rfl;have ad7:Jt 1 ((c::q).length:Int) (c::q).length=true:=R7.2 (by simp <;> omega);have MH:Jp (c::q) 1 ((c::q).length:Int)=q:=by
     unfold Jp;simp
    rw[ao (by simp),ao i0,b0,aeh];by_cases b7:c=1
    . subst b7;rw[ao rfl,aJ (by simp),ao ad7,MH];have a7:=ih.part dy (t:=x.ev) (q:=q) (path:=path) ⟨eh,hj⟩ (by simp at bo;omega) Oz 0;rw[Zk (by omega)];simp only[cm];cases cv:te ts n x.ev q with
      | none=>
       obtain⟨F,hw⟩:=a7.no (by omega) cv;rw[hw];exact .adQ rfl
      | some v=>
       obtain⟨F,hw⟩:=a7.yes (by omega) cv;rw[hw];simp only[cm];rw[aJ (by simp),agK];refine MY.cast rfl (MY.ajC (F:=⟨[],0⟩) ?_);simp[ak.h7]
    . have O8:¬((c.toNat:Int)=1):=λh=>b7 (UInt8.toNat.inj (by show c.toNat=1;omega))
      rw[aJ b7,ao (by simpa using O8)];exact Tf (by omega) _
 by_cases s3:x.Kind=6
 . have:=(aX5 H dy ih ad s3 bo (path:=path) Oz).eta;simp only[s3,SO,ye,↓reduceIte,Int.reduceEq,LV,OB,q2,g',cm];exact this
 by_cases Ns:x.Kind=7
 . have:=(aX6 H dy ih ad Ns bo (path:=path) Oz).eta;simp only[Ns,SO,ye,↓reduceIte,Int.reduceEq,LV,OB,q2,g',cm];exact this
 by_cases NZ:x.Kind=8
 . have:=(a1M H dy ih ad NZ bo (path:=path) Oz).eta;simp only[NZ,SO,ye,↓reduceIte,Int.reduceEq,LV,OB,q2,g',cm];exact this
 have u2:x.Kind=5:=by omega
 have:=(aWr H dy ih ad u2 bo (path:=path) Oz).eta;simp only[u2,SO,ye,↓reduceIte,Int.reduceEq,LV,OB,q2,g',cm];exact this
theorem aGg(H:RQ ts):∀n,n<=200->aay ts n
 | 0,_=>λt p path t0 t1 bo Oz=>by
  obtain⟨j,rfl⟩:=ayT t0;have c7:j < ts.length:=by omega
  rw[TV,ao (gA c7)];simp only[g',cm];rw[ao (by simp),aw'];exact Tf (by omega) _
 | n+1,dy=>aVG H dy (aGg H n (by omega))
end
theorem aJy(s:List UInt8):∀(f i n m k:Nat),Pn s f i n=((m:Int),(k:Int),0)->∃q,m=n+q*2 ^ (7*i)/\s.drop i=JU q++s.drop k/\(0 < i->0 < q)
 | 0,i,n,m,k,h=>by rw[Pn]at h;simp at h
 | f+1,i,n,m,k,h=>by
  rw[Pn]at h;split at h
  . rename_i ay;have aCB:s.drop i=s.getD i 0::s.drop (i+1):=by rw[Ld ay];exact Ze ay
    have al:(s.getD i 0).toNat < 256:=UInt8.toNat_lt _;generalize s.getD i 0=c at*;split at h
    . simp at h
    . split at h
      . rename_i aY1;obtain⟨q,s4,qi,JY⟩:=aJy s f (i+1) _ m k h;have eg:=JY (by omega);refine⟨c.toNat % 128+128*q,?_,?_,λ_=>by omega⟩
        . grind
        . rw[ah1 (by omega),show(c.toNat % 128+128*q) / 128=q by omega,show(c.toNat % 128+128*q) % 128+128=c.toNat by omega,aCB,qi];simp
      . rename_i aY1;split at h
        . simp at h
        . rename_i h0;simp only[hO,ab3]at h;have hm:m=n+c.toNat*2 ^ (7*i):=by have:=h.1;exact_mod_cast this.symm
          have hk:k=i+1:=by have:=h.2;exact_mod_cast this.symm
          refine⟨c.toNat,hm,?_,λUi=>?_⟩
          . rw[ag2 (by omega),aCB,hk];simp
          omega
  . simp at h
theorem av6{s:List UInt8}{m k:Nat}(h:Pn s 10 0 0=((m:Int),(k:Int),0)):s=JU m++s.drop k:=by
 obtain⟨q,s4,qi,_⟩:=aJy s 10 0 0 m k h
 grind
theorem aFs{s a b:List UInt8}(h:Q1 s=some (a,b)):s=H' a++b:=by
 unfold Q1 at h;rcases Xw s with⟨e,he,cv⟩ | ⟨m,k,cv,O',hk,hm⟩
 . grind
 . have u1:=av6 cv;rw[cv]at h;dsimp only at h;split at h
   . rename_i b7;simp only[hQ,hO]at h;obtain⟨h1,ah⟩:=h;have hlen:a.length=m:=by
      rw[<-h1,aal,Yd];omega
     unfold H';rw[hlen,SY,<-h1,<-ah,anW]
     simpa using u1
   . cases h
theorem aGL :∀(n:Nat) (s:List UInt8) (b l:List (List UInt8)),s.length<=n->s.length+b.length<=100000->Py (s,b)=some (.inr l)->∃z',l=b++z'/\z'.flatMap H'=s
 | n,s,b,l,dy,al,h=>by
  rw[Py]at h;by_cases h0:s=[]
  . simp_all
  . rw[ao (by simp[h0]),XP (by omega)]at h;simp only[g',cm]at h;cases cv:Q1 s with
    | none=>
     rw[cv]at h;simp[ID]at h
    | some r=>
     obtain⟨x,rest⟩:=r;rw[cv]at h;have a6:=ZK cv;have Ul:¬((!(ID (some (x,rest))).2.2)=true):=by simp[ID]
     have ar:room 16 (b++[(ID (some (x,rest))).1]).length=true:=CJ (by omega) (by simp;omega);rw[aJ Ul,ao ar]at h
     match n,dy with
     | 0,dy=>omega
     | n+1,dy=>
      obtain⟨z',eh,hj⟩:=aGL n rest _ l (by omega) (by simp;omega) h;refine⟨x::z',by rw[eh];simp[ID],?_⟩;rw[MS,hj];exact(aFs cv).symm
theorem aGM :∀(n:Nat) (s:List UInt8) (b:List (List UInt8)),s.length<=n->s.length+b.length<=100000->Py (s,b)=some (.inl 0)->False
 | n,s,b,dy,al,h=>by
  rw[Py]at h;by_cases h0:s=[]
  . grind
  . rw[ao (by simp[h0]),XP (by omega)]at h;simp only[g',cm]at h;cases cv:Q1 s with
    | none=>
     rw[cv]at h;simp[ID]at h
    | some r=>
     obtain⟨x,rest⟩:=r;rw[cv]at h;have a6:=ZK cv;have Ul:¬((!(ID (some (x,rest))).2.2)=true):=by simp[ID]
     have ar:room 16 (b++[(ID (some (x,rest))).1]).length=true:=CJ (by omega) (by simp;omega);rw[aJ Ul,ao ar]at h
     match n,dy with
     | 0,dy=>omega
     | n+1,dy=>exact aGM n rest _ (by omega) (by simp;omega) h
theorem aEu :∀(n:Nat) (s:List UInt8) (last:Nat) (b:List qy),s.length<=n->s.length+b.length<=100000->NB ((last:Int),s,b)=some (.inl 0)->False
 | n,s,last,b,dy,al,h=>by
  rw[NB]at h;by_cases h0:s=[]
  . grind
  . rw[ao (by simp[h0])]at h;rcases Xw s with⟨e,he,b9⟩ | ⟨m,k,b9,O',hk,hm⟩
    . rw[ZO he b9]at h;simp at h
    . rw[XI b9 hk]at h;simp only[g',cm,agF hm]at h;split at h
      . cases h
      . rw[XP (by rw[Yd];omega)]at h;simp only[cm]at h;cases cv:Q1 (s.drop k)with
        | none=>
         rw[cv]at h;simp[ID]at h
        | some r=>
         obtain⟨x,rest⟩:=r;rw[cv]at h;have a6:=ZK cv;rw[Yd]at a6;have Ul:¬((!(ID (some (x,rest))).2.2)=true):=by simp[ID]
         rw[aJ Ul]at h;split at h
         . match n,dy with
           | 0,dy=>omega
           | n+1,dy=>exact aEu n rest (m / 2) _ (by omega) (by simp;omega) h
         . cases h
theorem aI4{p:List UInt8}(bo:p.length<=90000){l:List (List UInt8)}(h:RN p=some l):l.flatMap H'=p:=by
 unfold RN at h;rw[WJ]at h;cases ay:Py (p,[])with
 | none=>rw[ay]at h;simp at h
 | some o=>
  rw[ay]at h;cases o with
  | inl e=>
   by_cases he:e=0
   . simp[he]at h
     exfalso
     obtain⟨q1,a1,_⟩:=awj p.length p [] (by omega) (by simp;omega);exact aGM p.length p [] (by omega) (by simp;omega) (by rw[ay,he])
   grind
  | inr l2=>
   have e:l2=l:=by simpa using h
   obtain⟨z',eh,hj⟩:=aGL p.length p [] l2 (by omega) (by simp;omega) ay
   grind
def aiJ(f:qy):List UInt8:=Ol f.a8.toNat f.sJ f.Data
theorem aFR :∀(n:Nat) (s:List UInt8) (last:Nat) (b l:List qy),s.length <=n -> s.length+b.length <=100000 -> NB ((last:Int),s,b)=some (.inr l) ->
 ∃z',l=b++z'/\z'.flatMap aiJ=s
 | n,s,last,b,l,dy,al,h=>by
  rw[NB]at h;by_cases h0:s=[]
  . simp_all
  . rw[ao (by simp[h0])]at h;rcases Xw s with⟨e,he,b9⟩ | ⟨m,k,b9,O',hk,hm⟩
    . rw[ZO he b9]at h;simp at h
    . have es:=av6 b9;rw[XI b9 hk]at h;simp only[g',cm,agF hm]at h;by_cases b7:((m / 2:Nat):Int)<=(last:Int)\/1000 < ((m / 2:Nat):Int)
      . grind
      . have:¬((bif bif (!true)then true else decide (((m / 2:Nat):Int)<=(last:Int))then true else decide (1000 < ((m / 2:Nat):Int)))=true):=by grind
        rw[aJ this,XP (by rw[Yd];omega)]at h;simp only[cm]at h;cases cv:Q1 (s.drop k)with
        | none=>
         rw[cv]at h;simp[ID]at h
        | some r=>
         obtain⟨x,rest⟩:=r;rw[cv]at h;have a6:=ZK cv;have ex:=aFs cv;rw[Yd]at a6;have Ul:¬((!(ID (some (x,rest))).2.2)=true):=by simp[ID]
         have hw:jJ .i64 ((m / 2:Nat):Int)=((m / 2:Nat):Int):=TQ (by omega) (by omega);rw[aJ Ul,hw]at h;have ar:room 32 (b++[(⟨((m / 2:Nat):Int),decide (kt (m:Int) 2=1),(ID (some (x,rest))).1⟩:qy)]).length=true:=CJ (by omega) (by simp;omega);rw[ao ar]at h
         match n,dy with
         | 0,dy=>omega
         | n+1,dy=>
          obtain⟨z',eh,hj⟩:=aFR n rest (m / 2) _ l (by omega) (by simp;omega) h;refine⟨⟨((m / 2:Nat):Int),decide (kt (m:Int) 2=1),x⟩::z',by rw[eh];simp[ID],?_⟩;rw[MS,hj];unfold aiJ Ol;have ax7:2*(((m / 2:Nat):Int)).toNat+(if decide (kt (m:Int) 2=1)=true then 1 else 0)=m:=by
           rw[OY (by omega) (by omega)]
           grind
          grind
theorem aWs{p:List UInt8}(bo:p.length<=90000){l:List qy}(h:S7 p=some l):l.flatMap aiJ=p:=by
 unfold S7 at h;rw[XN]at h;have u1:NB (0,p,[])=NB (((0:Nat):Int),p,[]):=rfl;rw[u1]at h;cases ay:NB (((0:Nat):Int),p,[])with
 | none=>rw[ay]at h;simp at h
 | some o=>
  rw[ay]at h;cases o with
  | inl e=>
   by_cases he:e=0
   . exfalso
     exact aEu p.length p 0 [] (by omega) (by simp;omega) (by rw[ay,he])
   grind
  | inr l2=>
   have e:l2=l:=by simpa using h
   obtain⟨z',eh,hj⟩:=aFR p.length p 0 [] l2 (by omega) (by simp;omega) ay
   grind
theorem aX7{p:List UInt8}{id:Int}{q:List UInt8}(h:Vu p=some (id,q)):p=JU id.toNat++q:=by
 unfold Vu at h;rw[XD]at h;rcases Xw p with⟨e,he,b9⟩ | ⟨m,k,b9,O',hk,hm⟩
 . rw[ZO he b9]at h;simp at h
 . have es:=av6 b9;rw[XI b9 hk]at h;simp only[g',cm]at h;by_cases b7:(m:Int) < 1\/1000 < (m:Int)
   . grind
   . have:¬((bif bif (!true)then true else decide ((m:Int) < 1)then true else decide (1000 < (m:Int)))=true):=by grind
     have hw:jJ .i64 (m:Int)=(m:Int):=TQ (by omega) (by omega);rw[aJ this,hw]at h;simp only[qb,hQ,hO]at h;rw[<-h.1,<-h.2]
     simpa using es
end
end Go.Proofs.YtijpinendaoleaaGreat
