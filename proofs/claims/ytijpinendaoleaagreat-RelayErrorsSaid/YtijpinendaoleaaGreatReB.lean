/- The functions of the program as functions of Lean, that its code does what they say, and what they answer; part B. -/
import Derived.Test.YtijpinendaoleaaGreatReA

namespace Go.Proofs.YtijpinendaoleaaGreat
set_option linter.all false
section
open Go Go.Proofs.YtijpinendaoleaaGreat.Shv
set_option maxRecDepth 100000
def QK(k:Int):Bool:=bif bif decide (k=4)then true else decide (k=5)then true else decide (k=6)
theorem asy{t:cm}(h:vk t):∃r,Lu t=some r/\M9 t=some r/\(r=true->1<=t.Kind/\t.Kind<=9/\QK t.Kind=!(decide (t.Name=[]))):=by
 by_cases hk:1<=t.Kind/\t.Kind<=9
 . obtain⟨Oa,N,L,H,M,S,hF,K,E,O⟩:=t;simp only at hk;have:Oa=1\/Oa=2\/Oa=3\/Oa=4\/Oa=5\/Oa=6\/Oa=7\/Oa=8\/Oa=9:=by omega
   rcases this with rfl | rfl | rfl | rfl | rfl | rfl | rfl | rfl | rfl
   . obtain⟨r,h1,ah,bJ⟩:=aBa h;exact⟨r,h1,ah,λar=>⟨hk.1,hk.2,by simp[QK,bJ ar]⟩⟩
   . obtain⟨r,h1,ah,bJ⟩:=aBb h;exact⟨r,h1,ah,λar=>⟨hk.1,hk.2,by simp[QK,bJ ar]⟩⟩
   . obtain⟨r,h1,ah,bJ⟩:=aBc h;exact⟨r,h1,ah,λar=>⟨hk.1,hk.2,by simp[QK,bJ ar]⟩⟩
   . obtain⟨r,h1,ah,bJ⟩:=aBd h;exact⟨r,h1,ah,λar=>⟨hk.1,hk.2,by simp[QK,bJ ar]⟩⟩
   . obtain⟨r,h1,ah,bJ⟩:=aBe h;exact⟨r,h1,ah,λar=>⟨hk.1,hk.2,by simp[QK,bJ ar]⟩⟩
   . obtain⟨r,h1,ah,bJ⟩:=aBf h;exact⟨r,h1,ah,λar=>⟨hk.1,hk.2,by simp[QK,bJ ar]⟩⟩
   . obtain⟨r,h1,ah,bJ⟩:=aBg h;exact⟨r,h1,ah,λar=>⟨hk.1,hk.2,by simp[QK,bJ ar]⟩⟩
   . obtain⟨r,h1,ah,bJ⟩:=aBh h;exact⟨r,h1,ah,λar=>⟨hk.1,hk.2,by simp[QK,bJ ar]⟩⟩
   . obtain⟨r,h1,ah,bJ⟩:=aBi h;exact⟨r,h1,ah,λar=>⟨hk.1,hk.2,by simp[QK,bJ ar]⟩⟩
 . refine⟨false,?_,?_,λh=>by cases h⟩
   . have e:∀k:Int,1<=k->k<=9->¬t.Kind=k:=λk h1 ah e=>hk (by omega)
     simp[Lu,e 1,e 2,e 3,e 4,e 5,e 6,e 7,e 8,e 9]
   . have e:(bif decide (t.Kind < 1)then true else decide (9 < t.Kind))=true:=by grind
     rw[M9,e];rfl
def LF(t:cm):List Int:=t.cy.map (·.ki)++(if t.Kind=8 then[t.Key]else[])++(if 7<=t.Kind then[t.hZ]else[])
theorem abR{k n:Nat}(hk:k<=16){m:Nat}(h:m*24<=reachBytes)(g':n<=m+2):room k n=true:=by
 unfold room Pz Jf;unfold reachBytes at h;simp only[kc,I2];have:(2*n+192)*k<=(2*n+192)*16:=Nat.mul_le_mul_left _ hk;omega
theorem ati(t:cm)(h:t.cy.length*24<=reachBytes):∀(k i:Nat),i+k=t.cy.length->Yf (t.cy,(t.cy.length:Int),(i:Int),t,(t.cy.map (·.ki)).take i)=some (t,t.cy.map (·.ki))
 | 0,i,al=>by rw[Yf,b' (by simp;omega),UL (by simp;omega)]
 | k+1,i,al=>by
  have ar:=i4 (QG h);have ey:i < t.cy.length:=by omega
  rw[Yf,b6 (by simp;omega),b6 (d4 ey)];simp only[h',eg,o1];rw[<-OB (·.ki) t.cy i hL 0 ey,abV _ _ _ (by simpa using ey),pv (by omega),b6 (abR (m:=t.cy.length) (by omega) h (by simp;omega))];exact ati t h k (i+1) (by omega)
theorem aHx{t:cm}(h:t.cy.length*24<=reachBytes):ahI t=some (LF t):=by
 have h0:=ati t h t.cy.length 0 (by omega);have yJ:Yf (t.cy,(t.cy.length:Int),0,t,[])=some (t,t.cy.map (·.ki)):=h0;rw[ahI,yJ];unfold LF;simp only[h',eg];have kJ:room 8 (t.cy.map (·.ki)++[t.Key]).length=true:=abR (m:=t.cy.length) (by omega) h (by simp)
 have pK:room 8 (t.cy.map (·.ki)++[t.Key]++[t.hZ]).length=true:=abR (m:=t.cy.length) (by omega) h (by simp)
 grind
theorem atj(t:cm)(h:t.cy.length*24<=reachBytes):∀(k i:Nat),i+k=t.cy.length->X8 ((i:Int),t,(t.cy.map (·.ki)).take i)=some (t,t.cy.map (·.ki))
 | 0,i,al=>by rw[X8,b' (by simp;omega),UL (by simp;omega)]
 | k+1,i,al=>by
  have ar:=i4 (QG h);have ey:i < t.cy.length:=by omega
  rw[X8,b6 (by simp;omega),b6 (d4 ey)];simp only[h',eg,o1];rw[<-OB (·.ki) t.cy i hL 0 ey,abV _ _ _ (by simpa using ey),pv (by omega),b6 (abR (m:=t.cy.length) (by omega) h (by simp;omega))];exact atj t h k (i+1) (by omega)
theorem aHy{t:cm}(h:t.cy.length*24<=reachBytes)(hk:t.Kind<=9):ahX t=some (LF t):=by
 have h0:=atj t h t.cy.length 0 (by omega);have yJ:X8 (0,t,[])=some (t,t.cy.map (·.ki)):=h0;rw[ahX,yJ];unfold LF;simp only[h',eg];have kJ:room 8 (t.cy.map (·.ki)++[t.Key]).length=true:=abR (m:=t.cy.length) (by omega) h (by simp)
 have pK:room 8 (t.cy.map (·.ki)++[t.Key]++[t.hZ]).length=true:=abR (m:=t.cy.length) (by omega) h (by simp)
 grind
theorem aHz(k:Int):Rr k=some (QK k):=rfl
def aaP(k:Int):Bool:=bif decide (1<=k)then decide (k<=4)else false
def SK(n:Nat)(u:Int):Bool:=bif decide (u < 0)then true else decide ((n:Int)<=u)
def XQ(ts:List cm)(i:Nat):Option Int:=
 let t:=ts.getD i e1
 if !((Lu t).getD false)then some 1
 else if !(decide (t.Name=[])) && ((ts.map (·.Name)).take i).contains t.Name then some 1
 else if(LF t).any (SK ts.length)then some 4
 else if decide (t.Kind=8) && !(aaP (ts.getD t.Key.toNat e1).Kind)then some 1
 else none
theorem alZ{ts:List cm}{i:Nat}{t:cm}{r:Bool}(k':ts.getD i e1=t)(f1:Lu t=some r):
 XQ ts i=if(!r)=true then some 1 else if(!(decide (t.Name=[])) && ((ts.map (·.Name)).take i).contains t.Name)=true then some 1 else if(LF t).any (SK ts.length)=true then some 4 else if(decide (t.Kind=8) && !(aaP (ts.getD t.Key.toNat e1).Kind))=true then some 1 else none:=by
 subst k';unfold XQ;simp only[f1,SG]
theorem au8{Ju:Type}(L:Nat -> Option Ju)(l:List Int)(q:Int -> Bool)(bad aav:Ju)(NZ:∀i,i < l.length -> L i=if q (l.getD i 0)=true then some bad else L (i+1))(UD:L l.length=some aav):
 L 0=some (if l.any q=true then bad else aav):=by
 have:=scan L l.length (λi=>!(q (l.getD i 0))) bad aav (λi al=>by grind) UD;rcases this with⟨h1,ah⟩ | ⟨h1,j,ah,bJ⟩
 . rw[h1,b'];intro h;rw[ac']at h;obtain⟨x,aa,ee⟩:=h;obtain⟨j,dx,he⟩:=K' aa;have:=ah j dx;rw[G' dx,he,ee]at this;cases this
 . rw[h1,b6];rw[ac'];refine⟨l.getD j 0,oJ ah 0,by simpa using bJ⟩
theorem asz{t:cm}(h:t.cy.length*24<=reachBytes):(LF t).length < 9223372036854775807:=by
 unfold LF reachBytes at*
 grind
theorem aI0 {L:Nat -> Option (Int ⊕ Unit)} {L':Nat -> Option (Int ⊕ Unit)} {n:Nat} {step:Nat -> Option Int}
 (h:∀i,i < n->L i=match step i with | some e=>some (.inl e) | none=>L (i+1)) (he:L n=some (.inr ()))
 (vc:∀i,i < n->L' i=match step i with | some e=>some (.inl e) | none=>L' (i+1)) (Jx:L' n=some (.inr ())):∃o,L 0=some o/\L' 0=some o/\((o= .inr ()/\∀i,i < n->step i=none)\/∃i e,i < n/\step i=some e/\o= .inl e):=by
 have key:∀k i,i+k=n->∃o,L i=some o/\L' i=some o/\((o= .inr ()/\∀m,i<=m->m < n->step m=none)\/∃m e,m < n/\step m=some e/\o= .inl e):=by
  intro k
  induction k with
  | zero => intro i al; have : i = n := by omega
            subst this;exact⟨_,he,Jx,.inl ⟨rfl,λm h1 ah=>by omega⟩⟩
  | succ k ih=>
   intro i al;rw[h i (by omega),vc i (by omega)];cases n2:step i with
   | some e=>exact⟨_,rfl,rfl,.inr ⟨i,e,by omega,n2,rfl⟩⟩
   | none=>
    obtain⟨o,aaT,V0,agr⟩:=ih (i+1) (by omega)
    grind
 obtain⟨o,aaT,V0,agr⟩:=key n 0 (by omega);refine⟨o,aaT,V0,?_⟩;rcases agr with⟨a,b⟩ | h
 . exact .inl ⟨a,λi al=>b i (Pq _) al⟩
 . exact .inr h
theorem awj{ts:List cm}{t:cm}(hu:(LF t).any (SK ts.length)=false)(OM:t.Kind=8):eh t.Key ts.length=true:=by
 have hm:t.Key∈LF t:=by unfold LF;simp[OM]
 rw[ape]at hu;have:=hu _ hm;unfold SK at this;unfold eh
 grind
theorem aI1(ts:List cm)(t:cm)(i:Nat)(al:i < ts.length)(ar:ts.length < 9223372036854775807):
 Vy ((i:Int),0,ts,t.Kind,t.Name,t.jb,t.i',t.Max,t.hq,t.cy,t.Key,t.hZ,t.Open)=some (if(QK t.Kind && ((ts.map (·.Name)).take i).contains t.Name)=true then .inl 1 else .inr ((i:Int),ts,t.Kind,t.Name,t.jb,t.i',t.Max,t.hq,t.cy,t.Key,t.hZ,t.Open)):=by
 have Lq:=scan (λk=>Vy ((i:Int),(k:Int),ts,t.Kind,t.Name,t.jb,t.i',t.Max,t.hq,t.cy,t.Key,t.hZ,t.Open)) i (λk=>!(bif QK t.Kind then decide ((ts.getD k e1).Name=t.Name)else false)) (.inl 1) (.inr ((i:Int),ts,t.Kind,t.Name,t.jb,t.i',t.Max,t.hq,t.cy,t.Key,t.hZ,t.Open))
  (λk hk=>by
   rw[Vy,b6 (by simp;omega),aHz];simp only[h',eg];rw[b6 (by rw[d4 (show k < ts.length by omega)];rfl),pv (by omega),o1]
   grind)
  (by rw[Vy,b' (by simp)])
 have vK:Vy ((i:Int),((0:Nat):Int),ts,t.Kind,t.Name,t.jb,t.i',t.Max,t.hq,t.cy,t.Key,t.hZ,t.Open)=Vy ((i:Int),0,ts,t.Kind,t.Name,t.jb,t.i',t.Max,t.hq,t.cy,t.Key,t.hZ,t.Open):=rfl;simp only[vK]at Lq;rcases Lq with⟨h1,ah⟩ | ⟨h1,j,ah,bJ⟩
 . rw[h1,b'];rw[kc,Yj (by simp;omega)]
   rintro ⟨g',k,hk,he⟩
   rw[OB (·.Name) ts k e1 [] (by omega)]at he;have:=ah k hk;rw[g',he]at this;simp at this
 . rw[h1,b6];rw[kc,Yj (by simp;omega)];cases g':QK t.Kind with
   | false=>rw[g']at bJ;cases bJ
   | true=>
    refine⟨rfl,j,ah,?_⟩;rw[OB (·.Name) ts j e1 [] (by omega)];rw[g']at bJ
    simpa using bJ
theorem aI2(ts:List cm)(t:cm)(i:Nat)(l:List Int)(aJ:l.length < 9223372036854775807):
 X5 ((i:Int),l,0,ts,t.Kind,t.Name,t.jb,t.i',t.Max,t.hq,t.cy,t.Key,t.hZ,t.Open)=some (if l.any (SK ts.length)=true then .inl 4 else .inr ((i:Int),ts,t.Kind,t.Name,t.jb,t.i',t.Max,t.hq,t.cy,t.Key,t.hZ,t.Open)):=
 au8 (λj=>X5 ((i:Int),l,(j:Int),ts,t.Kind,t.Name,t.jb,t.i',t.Max,t.hq,t.cy,t.Key,t.hZ,t.Open)) l (SK ts.length) (.inl 4) (.inr ((i:Int),ts,t.Kind,t.Name,t.jb,t.i',t.Max,t.hq,t.cy,t.Key,t.hZ,t.Open))
  (λj dx=>by
   rw[X5,b6 (by simp;omega),b6 (d4 dx)];simp only[h',eg];rw[b6 (by rw[d4 dx];rfl),pv (by omega)]
   rfl)
  (by rw[X5,b' (by simp)])
theorem akU{s:gJ}(hs:s.Types.length<=reachBytes)(ht:∀t,t∈s.Types->vk t):∃e,aby s=some e/\X1 s=some e/\(e=0->s.Types.length<=32/\∀i,i < s.Types.length->XQ s.Types i=none)/\((s.Types.length<=32/\∀i,i < s.Types.length->XQ s.Types i=none)->e=0)/\e≠12:=by
 rw[aby,X1];by_cases awR:32 < s.Types.length
 . exact⟨3,by rw[b6 (by simp;omega)],by rw[b6 (by simp;omega)],λh=>(by cases h),λh=>absurd h.1 (by omega),by decide⟩
 . rw[b' (by simp;omega),b' (by simp;omega)];have ar:s.Types.length < 9223372036854775807:=by omega
   have:=aI0 (L:=λi=>Ye (s.Types,(s.Types.length:Int),(i:Int),s.Types,Rb ((s.Types.map (·.Name)).take i))) (L':=λi=>WT ((i:Int),s.Types)) (n:=s.Types.length) (step:=XQ s.Types)
    (λi al=>by
     have NY:=ht _ (oJ al e1);obtain⟨r,f1,f2,f3⟩:=asy NY;rw[Ye,b6 (by simp;omega),b6 (d4 al)];simp only[h',eg,o1];generalize k':s.Types.getD i e1=t at*;rw[alZ k' f1,f1];simp only[eg,ate];cases r with
     | false=>rw[b6 (show(bif (!false)then true else bif (!(decide (t.Name=[])))then((s.Types.map (·.Name)).take i).contains t.Name else false)=true from rfl),b6 (show(!false)=true from rfl)]
     | true=>
      rw[b' (show ¬((!true)=true) by simp)];by_cases a6:(!(decide (t.Name=[])) && ((s.Types.map (·.Name)).take i).contains t.Name)=true
      . grind
      . have JF:¬((bif (!(decide (t.Name=[])))then((s.Types.map (·.Name)).take i).contains t.Name else false)=true):=by grind
        rw[b' (show ¬((bif (!true)then true else bif (!(decide (t.Name=[])))then((s.Types.map (·.Name)).take i).contains t.Name else false)=true)from JF),b' a6,aHx NY.Nu];simp only[eg];have aju:=asz NY.Nu
        have tw:=au8 (λj=>WY (s.Types,(s.Types.length:Int),(i:Int),LF t,((LF t).length:Int),(j:Int),s.Types,OH (Rb ((s.Types.map (·.Name)).take i)) t.Name,t.Kind,t.Name,t.jb,t.i',t.Max,t.hq,t.cy,t.Key,t.hZ,t.Open)) (LF t) (SK s.Types.length) (.inl 4)
         (.inr (s.Types,(s.Types.length:Int),(i:Int),s.Types,OH (Rb ((s.Types.map (·.Name)).take i)) t.Name,t.Kind,t.Name,t.jb,t.i',t.Max,t.hq,t.cy,t.Key,t.hZ,t.Open))
         (λj dx=>by
          rw[WY,b6 (by simp;omega),b6 (d4 dx),pv (by omega)]
          rfl)
         (by rw[WY,b' (by simp)])
        have vK:WY (s.Types,(s.Types.length:Int),(i:Int),LF t,((LF t).length:Int),((0:Nat):Int),s.Types,OH (Rb ((s.Types.map (·.Name)).take i)) t.Name,t.Kind,t.Name,t.jb,t.i',t.Max,t.hq,t.cy,t.Key,t.hZ,t.Open)=WY (s.Types,(s.Types.length:Int),(i:Int),LF t,((LF t).length:Int),0,s.Types,OH (Rb ((s.Types.map (·.Name)).take i)) t.Name,t.Kind,t.Name,t.jb,t.i',t.Max,t.hq,t.cy,t.Key,t.hZ,t.Open):=rfl
        rw[<-vK,tw];cases hu:(LF t).any (SK s.Types.length)with
        | true=>rfl
        | false=>
         simp only[u1,vv,eg];have aKZ:OH (Rb ((s.Types.map (·.Name)).take i)) t.Name=Rb ((s.Types.map (·.Name)).take (i+1)):=by
          have h1:=atf (l:=s.Types.map (·.Name)) (i:=i) (by simpa using al)
          grind
         rw[aKZ,pv (by omega)];by_cases OM:t.Kind=8
         . have hk:=awj hu OM;rw[b6 (by rw[hk];rfl),b6 (by rw[hk];rfl)];simp only[OM,UP,cond_true,aaY,aaP]
           grind
         grind)
    (by rw[Ye,b' (by simp)])
    (λi al=>by
     have NY:=ht _ (oJ al e1);obtain⟨r,f1,f2,f3⟩:=asy NY;rw[WT,b6 (by simp;omega),b6 (d4 al)];simp only[h',eg,o1];generalize k':s.Types.getD i e1=t at*;rw[alZ k' f1,f2,aI1 s.Types t i al ar];simp only[eg];cases r with
     | false=>rfl
     | true=>
      obtain⟨hg,hl,j2⟩:=f3 rfl;rw[b' (show ¬((!true)=true) by simp),b' (show ¬((!true)=true) by simp),j2];cases a6:(!(decide (t.Name=[])) && ((s.Types.map (·.Name)).take i).contains t.Name)with
      | true=>rfl
      | false=>
       simp only[u1,vv,alY];rw[aHy NY.Nu hl];simp only[eg];rw[aI2 s.Types t i (LF t) (asz NY.Nu)];cases hu:(LF t).any (SK s.Types.length)with
       | true=>rfl
       | false=>
        simp only[u1,vv,eg];rw[pv (by omega)];by_cases OM:t.Kind=8
        . have hk:=awj hu OM;rw[b6 (by rw[hk];rfl)];simp only[OM,UP,q',akB,eg,cond_true,aaY];show(if(!(aaP (s.Types.getD t.Key.toNat e1).Kind))=true then some (.inl 1)else WT (((i+1:Nat):Int),s.Types))=_
          grind
        grind)
    (by rw[WT,b' (by simp)])
   obtain⟨o,h1,ah,bJ⟩:=this;have J3:Ye (s.Types,(s.Types.length:Int),0,s.Types,[])=some o:=h1;have Tq:WT (0,s.Types)=some o:=ah;rw[J3,Tq];rcases bJ with⟨rfl,ea⟩ | ⟨i,e,ea,hi,rfl⟩
   . simp_all
   . refine⟨_,rfl,rfl,λh0=>?_,λh=>(by have:=h.2 i ea;rw[hi]at this;cases this),λh=>?_⟩
     . exfalso
       subst h0;unfold XQ at hi
       grind
     . subst h;unfold XQ at hi
       grind
theorem Zx{Ju:Type}(L:Nat -> Option Ju)(n:Nat)(q:Nat -> Bool)(aod:Nat -> Ju)(aoZ:Ju)(NZ:∀i,i < n -> L i=if q i=true then some (aod i)else L (i+1))(UD:L n=some aoZ):
 (∃j,j < n/\q j=true/\(∀k,k < j->q k=false)/\L 0=some (aod j))\/((∀k,k < n->q k=false)/\L 0=some aoZ):=by
 have key:∀k i,i+k=n->(∀m,m < i->q m=false)->L 0=L i->(∃j,j < n/\q j=true/\(∀k,k < j->q k=false)/\L 0=some (aod j))\/((∀k,k < n->q k=false)/\L 0=some aoZ):=by
  intro k
  induction k with
  | zero => intro i al hm h0; have : i = n := by omega
            subst this;exact .inr ⟨hm,by rw[h0,UD]⟩
  | succ k ih=>
   intro i al hm h0;rw[NZ i (by omega)]at h0
   grind
 exact key n 0 (by omega) (λm hm=>by omega) rfl
def abS(l:List em)(id:Int)(r:Int×Bool):Prop:=(∃j:Nat,j < l.length/\(l.getD j hL).bo=id/\(∀k,k < j->(l.getD k hL).bo≠id)/\r=((j:Int),true))\/((∀k,k < l.length->(l.getD k hL).bo≠id)/\r=(0,false))
theorem aEu{l:List em}{id:Int}{r q:Int×Bool}(h1:abS l id r)(ah:abS l id q):r=q:=by
 rcases h1 with⟨j,a1,a2,a3,rfl⟩ | ⟨a1,rfl⟩ <;> rcases ah with⟨k,b1,b2,b3,rfl⟩ | ⟨b1,rfl⟩
 . grind
 . grind
 . grind
 . rfl
theorem aqO{t:cm}{id:Int}(aJ:t.cy.length < 9223372036854775807):∃r,S7 (t,id)=some r/\abS t.cy id r:=by
 rw[S7,akL];have h:=Zx (λi=>Wm (t.cy,(t.cy.length:Int),(i:Int),id)) t.cy.length (λi=>decide ((t.cy.getD i hL).bo=id)) (λi=>.inl ((i:Int),id)) (.inr id)
  (λi al=>by
   rw[Wm,b6 (by simp;omega),b6 (d4 al)];simp only[h',eg,o1,abo,aln]
   rw[pv (by omega)])
  (by rw[Wm,b' (by simp)])
 have vK:Wm (t.cy,(t.cy.length:Int),((0:Nat):Int),id)=Wm (t.cy,(t.cy.length:Int),0,id):=rfl;simp only[vK]at h;rcases h with⟨j,h1,ah,bJ,ea⟩ | ⟨h1,ea⟩
 . rw[ea];refine⟨((j:Int),true),?_,.inl ⟨j,h1,by simpa using ah,λk hk=>by simpa using bJ k hk,rfl⟩⟩;have e':Y4 (j:Int) 0=(j:Int):=by unfold Y4;omega
   simp_all
 . rw[ea];exact⟨(0,false),rfl,.inr ⟨λk hk=>by simpa using h1 k hk,rfl⟩⟩
theorem aqP{t:cm}{id:Int}(aJ:t.cy.length < 9223372036854775807):∃r,QB (t,id)=some r/\abS t.cy id r:=by
 rw[QB];have h:=Zx (λi=>WS (id,(i:Int),t)) t.cy.length (λi=>decide ((t.cy.getD i hL).bo=id)) (λi=>.inl ((i:Int),true)) (.inr ())
  (λi al=>by
   rw[WS,b6 (by simp;omega),b6 (d4 al),pv (by omega)]
   grind)
  (by rw[WS,b' (by simp)])
 have vK:WS (id,((0:Nat):Int),t)=WS (id,0,t):=rfl;simp only[vK]at h;rcases h with⟨j,h1,ah,bJ,ea⟩ | ⟨h1,ea⟩
 . rw[ea];exact⟨((j:Int),true),rfl,.inl ⟨j,h1,by simpa using ah,λk hk=>by simpa using bJ k hk,rfl⟩⟩
 . rw[ea];exact⟨(0,false),rfl,.inr ⟨λk hk=>by simpa using h1 k hk,rfl⟩⟩
theorem Zu{t:cm}(id:Int)(aJ:t.cy.length < 9223372036854775807):∃r,S7 (t,id)=some r/\QB (t,id)=some r/\abS t.cy id r:=by
 obtain⟨r,h1,ah⟩:=aqO (id:=id) aJ;obtain⟨q,bJ,ea⟩:=aqP (id:=id) aJ;have:=aEu ah ea
 grind
def abT(l:List ri)(id:Int)(r:Int×Bool):Prop:=(∃j:Nat,j < l.length/\(l.getD j wm).bo=id/\(∀k,k < j->(l.getD k wm).bo≠id)/\r=((j:Int),true))\/((∀k,k < l.length->(l.getD k wm).bo≠id)/\r=(0,false))
theorem aEv{l:List ri}{id:Int}{r q:Int×Bool}(h1:abT l id r)(ah:abT l id q):r=q:=by
 rcases h1 with⟨j,a1,a2,a3,rfl⟩ | ⟨a1,rfl⟩ <;> rcases ah with⟨k,b1,b2,b3,rfl⟩ | ⟨b1,rfl⟩
 . grind
 . grind
 . grind
 . rfl
theorem ahM{t:cm}(id:Int)(aJ:t.hq.length < 9223372036854775807):∃r,aen (t,id)=some r/\ZO (t,id)=some r/\abT t.hq id r:=by
 rw[aen,UV,ZO];have h:=Zx (λi=>U0 (t.hq,(t.hq.length:Int),(i:Int),id)) t.hq.length (λi=>decide ((t.hq.getD i wm).bo=id)) (λi=>.inl ((i:Int),id)) (.inr id)
  (λi al=>by
   rw[U0,b6 (by simp;omega),b6 (d4 al)];simp only[h',eg,o1,alm]
   rw[pv (by omega)])
  (by rw[U0,b' (by simp)])
 have vK:U0 (t.hq,(t.hq.length:Int),((0:Nat):Int),id)=U0 (t.hq,(t.hq.length:Int),0,id):=rfl;have g:=Zx (λi=>U9 (id,(i:Int),t)) t.hq.length (λi=>decide ((t.hq.getD i wm).bo=id)) (λi=>.inl ((i:Int),true)) (.inr ())
  (λi al=>by
   rw[U9,b6 (by simp;omega),b6 (d4 al),pv (by omega)]
   grind)
  (by rw[U9,b' (by simp)])
 have g0:U9 (id,((0:Nat):Int),t)=U9 (id,0,t):=rfl;simp only[vK]at h;simp only[g0]at g;have uJ:∃r,(U0 (t.hq,(t.hq.length:Int),0,id) >>=λo=>match o with | .inl ho=>some (ho.1,ho.2) | .inr hV=>some ((-1),hV)) >>=(λr=>some (Y4 r.1 0,decide (0<=r.1)))=some r/\abT t.hq id r:=by
  rcases h with⟨j,h1,ah,bJ,ea⟩ | ⟨h1,ea⟩
  . rw[ea];refine⟨((j:Int),true),?_,.inl ⟨j,h1,by simpa using ah,λk hk=>by simpa using bJ k hk,rfl⟩⟩;have e':Y4 (j:Int) 0=(j:Int):=by unfold Y4;omega
    simp_all
  . rw[ea];exact⟨(0,false),rfl,.inr ⟨λk hk=>by simpa using h1 k hk,rfl⟩⟩
 have u0:∃r,(U9 (id,0,t) >>=λo=>match o with | .inl ho=>some (ho.1,ho.2) | .inr hV=>some (0,false))=some r/\abT t.hq id r:=by
  rcases g with⟨j,h1,ah,bJ,ea⟩ | ⟨h1,ea⟩
  . rw[ea];exact⟨((j:Int),true),rfl,.inl ⟨j,h1,by simpa using ah,λk hk=>by simpa using bJ k hk,rfl⟩⟩
  . rw[ea];exact⟨(0,false),rfl,.inr ⟨λk hk=>by simpa using h1 k hk,rfl⟩⟩
 obtain⟨r,a1,a2⟩:=uJ;obtain⟨q,b1,b2⟩:=u0;have:=aEv a2 b2
 grind
def XU(n:Int):Int:=if 0<=n then 2*n else -2*n - 1
theorem aHA{a b:Int}(h:XU a=XU b):a=b:=by
 unfold XU at h;split at h <;> split at h <;> omega
def Zr(n:Int):Prop:= -9223372036854775808<=n/\n<=9223372036854775807
theorem awk{n:Int}(h:Zr n):adY n=some (XU n):=by
 obtain⟨h1,ah⟩:=h;rw[adY];unfold XU;by_cases h0:0<=n
 . rw[b6 (by simp[h0]),b6 h0];obtain⟨k,rfl⟩:∃k:Nat,n=(k:Int):=⟨n.toNat,by omega⟩
   rw[apS (by omega)];have:=ax7 (a:=2) (b:=k) (by omega)
   grind
 . rw[b' (by simp[h0]),b' h0];rw[alR (by omega) (by omega),aeR (by omega) (by omega)];obtain⟨k,hk⟩:∃k:Nat,0 - (n+1)=(k:Int):=⟨(0 - (n+1)).toNat,by omega⟩
   rw[hk,apS (by omega)];have bJ:=ax7 (a:=2) (b:=k) (by omega);have aaw:ago .u64 2 (k:Int)=((2*k:Nat):Int):=bJ;rw[aaw];have ea:=azj (a:=2*k) (b:=1) (by omega)
   grind
theorem aHH(a:Nat)(h:a < 18446744073709551616):apY .u64 (a:Int) 0=(a:Int):=by
 have e:(BitVec.ofInt 64 (a:Int) ^^^ BitVec.ofInt 64 (0:Int)).toNat=a:=by grind
 show IntKind.u64.wrap (((BitVec.ofInt 64 (a:Int) ^^^ BitVec.ofInt 64 (0:Int)).toNat:Nat):Int)=_;rw[e];exact adr (by omega) (by omega)
theorem aHI(a:Nat)(h:a < 18446744073709551616):apY .u64 (a:Int) 18446744073709551615=((18446744073709551615 - a:Nat):Int):=by
 have e:(BitVec.ofInt 64 (a:Int) ^^^ BitVec.ofInt 64 (18446744073709551615:Int)).toNat=18446744073709551615 - a:=by
  have h1:BitVec.ofInt 64 (18446744073709551615:Int)=BitVec.allOnes 64:=by decide
  rw[h1,BitVec.ofInt_natCast,BitVec.xor_allOnes,BitVec.toNat_not,BitVec.toNat_ofNat,aMs,apf h]
 all_goals (try omega)
 show IntKind.u64.wrap (((BitVec.ofInt 64 (a:Int) ^^^ BitVec.ofInt 64 (18446744073709551615:Int)).toNat:Nat):Int)=_;rw[e];exact adr (by omega) (by omega)
theorem aL6{n:Int}(h:Zr n):akb .i64 n 63=if 0<=n then 0 else -1:=by
 obtain⟨h1,ah⟩:=h;unfold akb;have e:((2:Int) ^ min (63:Int).toNat IntKind.i64.bits)=9223372036854775808:=by decide
 grind
theorem awl{n:Int}(h:Zr n):aep n=some (XU n):=by
 rw[aep,aL6 h];obtain⟨h1,ah⟩:=h;unfold XU;have hs:∀m:Int,apH .u64 m 1=IntKind.u64.wrap (m*2):=by
  intro m;unfold apH;rfl
 rw[hs]
 congr 1
 by_cases h0:0<=n
 . rw[b6 h0,b6 h0];obtain⟨k,rfl⟩:∃k:Nat,n=(k:Int):=⟨n.toNat,by omega⟩
   rw[apS (by omega),adr (by omega) (by omega)];have:We .u64 0=0:=by decide
   rw[this];have:=aHH (2*k) (by omega)
   grind
 . rw[b' h0,b' h0];have:We .u64 (-1)=18446744073709551615:=by decide
   rw[this];obtain⟨k,hk⟩:∃k:Nat,n+9223372036854775808=(k:Int):=⟨(n+9223372036854775808).toNat,by omega⟩
   have e:IntKind.u64.wrap (We .u64 n*2)=((2*k:Nat):Int):=by
    unfold We;rw[IntKind.wrap_u64,IntKind.wrap_u64];omega
   rw[e,aHI _ (by omega)];omega
theorem azB(a b:Int):ahJ (a,b)=some (if a < b then -1 else if b < a then 1 else 0):=by
 rw[ahJ];simp only[aiv,h',eg,UP,Po,u1,vv]
 grind
theorem atJ(a b:Int):aeo (a,b)=some (if a < b then -1 else if b < a then 1 else 0):=by
 rw[aeo];simp only[ahK,h',eg,UP,Po,u1,vv]
 grind
theorem azC(a b:List UInt8):ahv (a,b)=some (if Op.bytesLess a b=true then -1 else if(Op.bytesLess a b || decide (a=b))=true then 0 else 1):=by
 rw[ahv];simp only[ahL,h',eg,UP,Po,u1,vv]
 grind
theorem aLL(a b:Int):aif [a,b]=some (if a≠0 then a else b):=by
 rw[aif];have h0:Yp (0,[a,b],((2:Nat):Int),((0:Nat):Int))=if a≠0 then some (.inl a)else(if b≠0 then some (.inl b)else some (.inr 0)):=by
  rw[Yp,b6 (by decide),b6 (show eh ((0:Nat):Int) ([a,b]:List Int).length=true from d4 (k:=0) (n:=2) (by omega))];simp only[h',eg,o1,apa];by_cases ch:a=0
  . rw[b' (by simp[ch]),b' (by simp[ch])];have e':hO .i64 ((0:Nat):Int) 1=((1:Nat):Int):=pv (by omega);rw[e',Yp,b6 (by decide),b6 (show eh ((1:Nat):Int) ([a,b]:List Int).length=true from d4 (k:=1) (n:=2) (by omega))];simp only[h',eg,o1,ajF,apa];by_cases ai:b=0
    . rw[b' (by simp[ai]),b' (by simp[ai])];have hf:hO .i64 ((1:Nat):Int) 1=((2:Nat):Int):=pv (by omega);rw[hf,Yp,b' (by decide)]
    grind
  grind
 grind
theorem aqX :∀a:List UInt8,Op.bytesLess a a=false
 | []=>rfl
 | x::r=>by
  simp[Op.bytesLess,aqX r]
theorem ar9{a b:ao}(ch:Zr a.hX)(ai:Zr b.hX):∃r,ZV (a,b)=some r/\adV (a,b)=some r:=by
 rw[ZV,adV];by_cases hk:a.Kind=b.Kind
 . rw[b' (show ¬((!(decide (a.Kind=b.Kind)))=true) by simp[hk]),b' (show ¬((!(decide (a.Kind=b.Kind)))=true) by simp[hk])];by_cases hg:a.Kind=1
   . rw[b6 (show decide (a.Kind=1)=true by simp[hg]),b6 (show decide (a.Kind=1)=true by simp[hg])];simp only[U'];cases J0 a.kt b.kt <;> cases b.kt <;> exact⟨_,rfl,rfl⟩
   . rw[b' (show ¬(decide (a.Kind=1)=true) by simp[hg]),b' (show ¬(decide (a.Kind=1)=true) by simp[hg])];by_cases hl:a.Kind=2
     . rw[b6 (show decide (a.Kind=2)=true by simp[hl]),b6 (show decide (a.Kind=2)=true by simp[hl]),awl ch,awl ai,awk ch,awk ai];simp only[h',eg,azB,U'];by_cases he:a.hX=b.hX
       . grind
       . have hv:XU a.hX≠XU b.hX:=λh=>he (aHA h)
         grind
     . rw[b' (show ¬(decide (a.Kind=2)=true) by simp[hl]),b' (show ¬(decide (a.Kind=2)=true) by simp[hl])];by_cases j2:a.Kind=3
       . rw[b6 (show decide (a.Kind=3)=true by simp[j2]),b6 (show decide (a.Kind=3)=true by simp[j2])];simp only[h',eg,atJ,azC,aLL,U'];by_cases aJ:a.hG.length=b.hG.length
         . have ee:¬((!(decide ((a.hG.length:Int)=(b.hG.length:Int))))=true):=by simp;omega
           rw[b' ee,aJ];have e':¬((b.hG.length:Int) < (b.hG.length:Int)):=by omega
           simp only[e',vv,ne_eq,not_true_eq_false];by_cases he:a.hG=b.hG
           . rw[he,aqX]
             grind
           grind
         grind
       . rw[b' (show ¬(decide (a.Kind=3)=true) by simp[j2]),b' (show ¬(decide (a.Kind=3)=true) by simp[j2])];by_cases px:a.Kind=4
         . rw[b6 (show decide (a.Kind=4)=true by simp[px]),b6 (show decide (a.Kind=4)=true by simp[px])];simp only[h',eg,atJ,U']
           grind
         simp_all
 simp_all
def ap6(aaT V0:Option Bool):Prop:=∃r,aaT=some r/\V0=some r
theorem amr {Ju ahd:Type} (L:Nat -> Option (Bool ⊕ Ju)) (L':Nat -> Option (Bool ⊕ ahd)) (n:Nat) (p:Nat -> Bool) (g:Ju) (LN:ahd)
 (h:∀i,i < n->L i=if p i=true then L (i+1)else some (.inl false)) (he:L n=some (.inr g))
 (vc:∀i,i < n->L' i=if p i=true then L' (i+1)else some (.inl false)) (Jx:L' n=some (.inr LN)):
 (L 0=some (.inr g)/\L' 0=some (.inr LN)/\∀j,j < n->p j=true)\/(L 0=some (.inl false)/\L' 0=some (.inl false)/\∃j,j < n/\p j=false):=by
 rcases scan L n p (.inl false) (.inr g) h he with⟨a1,a2⟩ | ⟨a1,j,a2,a3⟩ <;> rcases scan L' n p (.inl false) (.inr LN) vc Jx with⟨b1,b2⟩ | ⟨b1,k,b2,b3⟩
 . exact .inl ⟨a1,b1,a2⟩
 . have:=a2 k b2;rw[b3]at this;cases this
 . have:=b2 j a2;rw[a3]at this;cases this
 . exact .inr ⟨a1,b1,j,a2,a3⟩
def SZ(k:Int):Prop:=1<=k/\k<=9
theorem aEw{v:ao}(hk:SZ v.Kind):∃p,ahC v=some p/\ZS v=some p/\(p=true->v.Kind≠5->v.Kind≠6->v.Rest=[]):=by
 obtain⟨K,B,k5,S,bo,Jv,ob,R⟩:=v;simp only at hk;rw[ahC,ao.d5,ZS];have:K=1\/K=2\/K=3\/K=4\/K=5\/K=6\/K=7\/K=8\/K=9:=by unfold SZ at hk;omega
 have aMW:∀(x:Int),decide (x=x)=true:=λx=>by simp
 rcases this with rfl | rfl | rfl | rfl | rfl | rfl | rfl | rfl | rfl
 all_goals
  refine⟨_,rfl,?_,?_⟩
  . simp[aio,J0]
    try (cases B <;> simp)
  . simp[aio,J0]
section
variable {ts:List cm} (g':ts.length < 9223372036854775807) (k':∀t,t∈ts->vk t) (ns:∀t,t∈ts->SZ t.Kind)
def Fit(ts:List cm)(x:ao):Prop:=∀t plain,ap6 (PY ((⟨ts⟩:gJ),t,x,plain)) (NM ((⟨ts⟩:gJ),t,x,plain))
theorem asA{l:List ao}(aJ:l.length <=reachBytes)(ih:∀x,x∈l -> Fit ts x)(t:Int)(plain:Bool):
 ap6 (Yn ((⟨ts⟩:gJ),t,l,plain)) (Vg ((⟨ts⟩:gJ),t,l,plain)):=by
 have ar:=i4 aJ
 let p:Nat->Bool:=λi=>(PY ((⟨ts⟩:gJ),t,l.getD i e2,plain)).getD false
 have a7:∀i,i < l.length->PY ((⟨ts⟩:gJ),t,l.getD i e2,plain)=some (p i)/\NM ((⟨ts⟩:gJ),t,l.getD i e2,plain)=some (p i):=by
  intro i al;obtain⟨r,h1,ah⟩:=ih _ (oJ al e2) t plain
  grind
 have c6:=Zx (λi=>X3 (l,(l.length:Int),(i:Int),ts,t,plain)) l.length (λi=>!(p i)) (λi=>.inl ((i:Int),ts,t,plain)) (.inr (ts,t,plain))
  (λi al=>by
   rw[X3,b6 (by simp;omega),b6 (d4 al),alJ];simp only[ao.d5,o1];rw[(a7 i al).1,pv (by omega)]
   rfl)
  (by rw[X3,b' (by simp)])
 have hs:=scan (λi=>QD (t,l,plain,(i:Int),ts)) l.length p (.inl false) (.inr ())
  (λi al=>by
   rw[QD,b6 (by simp;omega),b6 (d4 al)];simp only[ao.d5,o1];rw[(a7 i al).2,pv (by omega)]
   grind)
  (by rw[QD,b' (by simp)])
 have e':X3 (l,(l.length:Int),((0:Nat):Int),ts,t,plain)=X3 (l,(l.length:Int),0,ts,t,plain):=rfl;have hf:QD (t,l,plain,((0:Nat):Int),ts)=QD (t,l,plain,0,ts):=rfl;simp only[e']at c6;simp only[hf]at hs;rw[Yn,ahO,akN,Vg];rcases c6 with⟨j,a1,a2,a3,a4⟩ | ⟨a1,a4⟩ <;> rcases hs with⟨b1,b2⟩ | ⟨b1,k,b2,b3⟩
 . have:=b2 j a1;simp[this]at a2
 . rw[a4,b1];refine⟨false,?_,rfl⟩;have e:decide ((0:Int)<=(j:Int))=true:=by simp
   simp only[h',eg,e,Po]
 . rw[a4,b1];exact⟨true,rfl,rfl⟩
 . have:=a1 k b2;simp[b3]at this
def apA(t:cm)(l:List C2)(i:Nat):Bool:=
 !((S7 (t,(l.getD i ka).bo)).getD (0,false)).2 && (decide (1<=(l.getD i ka).bo) && decide ((l.getD i ka).bo<=1000)) && (decide (i=0) || decide ((l.getD (i - 1) ka).bo < (l.getD i ka).bo))
theorem aHJ{Ju:Type}(J7 f Z:Bool)(UT:Int)(QA C:Int -> Bool)(X Y:Option Ju)(afz:Z=true -> QA UT=true):
 ((if(!J7)=true then some f else some false) >>=λagN=>some (bif J7 then true else(!agN)) >>=λt131=>some Z >>=λt134=>some UT >>=λt141=>
  if(QA t141 || (!((!t131) && t134)))=true then if(bif t131 then true else bif t134 then C t141 else false)=true then X else Y else none)=if(!J7 && f && (!Z || !(C UT)))=true then Y else X:=by
 simp only[h',eg];generalize C UT=c;cases Z with
 | true=>rw[afz rfl];cases J7 <;> cases f <;> cases c <;> rfl
 | false=>generalize QA UT=d;cases J7 <;> cases f <;> cases d <;> cases c <;> rfl
theorem arN{Ju:Type}(VB aqb Z:Bool)(UT:Int)(QA C:Int -> Bool)(X Y:Option Ju)(aJB:aqb=true)(afz:Z=true -> QA UT=true):
 (some VB >>=λJs=>some (!Js) >>=λt31=>some Z >>=λt34=>
  if(aqb || (!((!t31) && t34)))=true then some UT >>=λt43=>if(QA t43 || (!((!t31) && t34)))=true then if(bif t31 then true else bif t34 then C t43 else false)=true then X else Y else none else none)=if(VB && (!Z || !(C UT)))=true then Y else X:=by
 subst aJB;simp only[h',eg];generalize C UT=c;cases Z with
 | true=>rw[afz rfl];cases VB <;> cases c <;> rfl
 | false=>generalize QA UT=d;cases VB <;> cases d <;> cases c <;> rfl
theorem Yq{i:Nat}(h:0 < i)(ah:i < 9223372036854775807):Lx .i64 (i:Int) 1=((i - 1:Nat):Int):=by
 rw[aeR (by omega) (by omega)];omega
theorem aL0{t:cm}(ht:t.cy.length < 9223372036854775807)(v:ao)(aJ:v.Rest.length <=reachBytes)(plain:Bool)(ts:List cm):
 let inr:=(plain,ts,v.Kind,v.kt,v.hX,v.hG,v.bo,v.e0,v.b9,v.Rest,t.Kind,t.Name,t.jb,t.i',t.Max,t.hq,t.cy,t.Key,t.hZ,t.Open)
 ((Rt (plain,v.Rest,(v.Rest.length:Int),0,ts,v,t.Kind,t.Name,t.jb,t.i',t.Max,t.hq,t.cy,t.Key,t.hZ,t.Open)=some (.inr inr)/\Yc (t,v.Rest)=some true)\/
  (Rt (plain,v.Rest,(v.Rest.length:Int),0,ts,v,t.Kind,t.Name,t.jb,t.i',t.Max,t.hq,t.cy,t.Key,t.hZ,t.Open)=some (.inl false)/\Yc (t,v.Rest)=some false)):=by
 intro inr;have ar:=i4 aJ;have axA:∀i,i < v.Rest.length->∀r,S7 (t,(v.Rest.getD i ka).bo)=some r->apA t v.Rest i=(!r.2 && (bif decide (1<=(v.Rest.getD i ka).bo)then decide ((v.Rest.getD i ka).bo<=1000)else false) && (!(decide ((0:Int) < (i:Int))) || !(decide ((v.Rest.getD i ka).bo<=(v.Rest.getD (Lx .i64 (i:Int) 1).toNat ka).bo)))):=by
  intro i al r hm;unfold apA;rw[hm,SG];generalize (v.Rest.getD i ka).bo=x;by_cases h0:i=0
  . grind
  . have gA:decide ((0:Int) < (i:Int))=true:=by simp;omega
    rw[gA,Yq (by omega) (by omega),o1]
    grind
 have h:=amr (λi=>Rt (plain,v.Rest,(v.Rest.length:Int),(i:Int),ts,v,t.Kind,t.Name,t.jb,t.i',t.Max,t.hq,t.cy,t.Key,t.hZ,t.Open)) (λi=>PX (v.Rest,(i:Int),t)) v.Rest.length (apA t v.Rest) inr ()
  (λi al=>by
   obtain⟨r,h1,_,_⟩:=Zu (t:=t) (v.Rest.getD i ka).bo ht;rw[Rt,b6 (by simp;omega),b6 (d4 al),axA i al r h1];simp only[o1,alY,ao.d5,ad9,h',eg];rw[h1,pv (by omega)]
   exact aHJ r.2 (bif decide (1<=(v.Rest.getD i ka).bo)then decide ((v.Rest.getD i ka).bo<=1000)else false) (decide ((0:Int) < (i:Int))) (Lx .i64 (i:Int) 1) (λj=>eh j v.Rest.length) (λj=>decide ((v.Rest.getD i ka).bo<=(v.Rest.getD j.toNat ka).bo)) _ _ (λgA=>by
    have:0 < i:=by simp at gA;omega
    show eh _ _=true
    rw[Yq this (by omega)];exact d4 (by omega)))
  (by rw[Rt,b' (by simp)])
  (λi al=>by
   obtain⟨r,h1,ah,_⟩:=Zu (t:=t) (v.Rest.getD i ka).bo ht;rw[PX,b6 (by simp;omega),b6 (d4 al),axA i al r h1];simp only[o1];rw[ah,pv (by omega)];have Q2:O0 ((v.Rest.getD i ka).bo,r.2)=some ((!r.2) && (bif decide (1<=(v.Rest.getD i ka).bo)then decide ((v.Rest.getD i ka).bo<=1000)else false)):=by
    rw[O0]
    grind
   show(if eh (i:Int) v.Rest.length=true then O0 ((v.Rest.getD i ka).bo,r.2) >>=_ else none)=_;rw[b6 (d4 al),Q2]
   exact arN ((!r.2) && (bif decide (1<=(v.Rest.getD i ka).bo)then decide ((v.Rest.getD i ka).bo<=1000)else false)) (eh (i:Int) v.Rest.length) (decide ((0:Int) < (i:Int))) (Lx .i64 (i:Int) 1) (λj=>eh j v.Rest.length) (λj=>decide ((v.Rest.getD i ka).bo<=(v.Rest.getD j.toNat ka).bo)) _ _ (d4 al) (λgA=>by
    have:0 < i:=by simp at gA;omega
    show eh _ _=true
    rw[Yq this (by omega)];exact d4 (by omega)))
  (by rw[PX,b' (by simp)])
 have e':Rt (plain,v.Rest,(v.Rest.length:Int),((0:Nat):Int),ts,v,t.Kind,t.Name,t.jb,t.i',t.Max,t.hq,t.cy,t.Key,t.hZ,t.Open)=Rt (plain,v.Rest,(v.Rest.length:Int),0,ts,v,t.Kind,t.Name,t.jb,t.i',t.Max,t.hq,t.cy,t.Key,t.hZ,t.Open):=rfl;have hf:PX (v.Rest,((0:Nat):Int),t)=PX (v.Rest,0,t):=rfl
 simp only[e',hf]at h;rw[Yc];rcases h with⟨h1,ah,_⟩ | ⟨h1,ah,_⟩
 . exact .inl ⟨h1,by rw[ah];rfl⟩
 . exact .inr ⟨h1,by rw[ah];rfl⟩
end
theorem aFn{ts:List cm}{t:cm}{v:ao}(aJ:v.b9.length=t.cy.length)(ar:t.cy.length < 9223372036854775807)(ih:∀x,x∈v.b9 -> Fit ts x)(plain:Bool):
 (T0 (plain,t.cy,(t.cy.length:Int),0,ts,v.Kind,v.kt,v.hX,v.hG,v.bo,v.e0,v.b9,v.Rest)=some (.inr ())/\Oz (plain,0,ts,v,t.Kind,t.Name,t.jb,t.i',t.Max,t.hq,t.cy,t.Key,t.hZ,t.Open)=some (.inr ()))\/
 (T0 (plain,t.cy,(t.cy.length:Int),0,ts,v.Kind,v.kt,v.hX,v.hG,v.bo,v.e0,v.b9,v.Rest)=some (.inl false)/\Oz (plain,0,ts,v,t.Kind,t.Name,t.jb,t.i',t.Max,t.hq,t.cy,t.Key,t.hZ,t.Open)=some (.inl false)):=by
 let p:Nat->Bool:=λi=>(PY ((⟨ts⟩:gJ),(t.cy.getD i hL).ki,v.b9.getD i e2,plain)).getD false
 have a7:∀i,i < t.cy.length->PY ((⟨ts⟩:gJ),(t.cy.getD i hL).ki,v.b9.getD i e2,plain)=some (p i)/\NM ((⟨ts⟩:gJ),(t.cy.getD i hL).ki,v.b9.getD i e2,plain)=some (p i):=by
  intro i al;obtain⟨r,h1,ah⟩:=ih _ (oJ (by omega:i < v.b9.length) e2) (t.cy.getD i hL).ki plain
  grind
 have h:=amr (λi=>T0 (plain,t.cy,(t.cy.length:Int),(i:Int),ts,v.Kind,v.kt,v.hX,v.hG,v.bo,v.e0,v.b9,v.Rest)) (λi=>Oz (plain,(i:Int),ts,v,t.Kind,t.Name,t.jb,t.i',t.Max,t.hq,t.cy,t.Key,t.hZ,t.Open)) t.cy.length p () ()
  (λi al=>by
   rw[T0,b6 (by simp;omega),b6 (d4 al),b6 (d4 (by omega))];simp only[o1,ao.d5];rw[(a7 i al).1,pv (by omega)]
   grind)
  (by rw[T0,b' (by simp)])
  (λi al=>by
   rw[Oz,b6 (by simp;omega),b6 (d4 al),b6 (d4 (by omega))];simp only[o1,ao.d5];rw[(a7 i al).2,pv (by omega)]
   grind)
  (by rw[Oz,b' (by simp;omega)])
 have e':T0 (plain,t.cy,(t.cy.length:Int),((0:Nat):Int),ts,v.Kind,v.kt,v.hX,v.hG,v.bo,v.e0,v.b9,v.Rest)=T0 (plain,t.cy,(t.cy.length:Int),0,ts,v.Kind,v.kt,v.hX,v.hG,v.bo,v.e0,v.b9,v.Rest):=rfl
 have hf:Oz (plain,((0:Nat):Int),ts,v,t.Kind,t.Name,t.jb,t.i',t.Max,t.hq,t.cy,t.Key,t.hZ,t.Open)=Oz (plain,0,ts,v,t.Kind,t.Name,t.jb,t.i',t.Max,t.hq,t.cy,t.Key,t.hZ,t.Open):=rfl;simp only[e',hf]at h;rcases h with⟨h1,ah,_⟩ | ⟨h1,ah,_⟩
 . exact .inl ⟨h1,ah⟩
 . exact .inr ⟨h1,ah⟩
theorem ah7{v:ao}(h:pI v):Zr v.hX:=by cases h with | mk _ _ _ _ _ _ _ _ Ls K8=>exact K8
theorem aGV{ts:List cm}{t:cm}{v:ao}(ar:v.e0.length < 9223372036854775807)(hk:∀x,x∈v.e0 -> pI x)(plain:Bool):
 let inr:=(plain,ts,v,t.Kind,t.Name,t.jb,t.i',t.Max,t.hq,t.cy,t.Key,t.hZ,t.Open)
 (QE (plain,1,ts,v,t.Kind,t.Name,t.jb,t.i',t.Max,t.hq,t.cy,t.Key,t.hZ,t.Open)=some (.inr inr)/\ND (1,v)=some (.inr ()))\/
 (QE (plain,1,ts,v,t.Kind,t.Name,t.jb,t.i',t.Max,t.hq,t.cy,t.Key,t.hZ,t.Open)=some (.inl false)/\ND (1,v)=some (.inl false)):=by
 intro inr;by_cases h0:v.e0.length=0
 . left;refine⟨?_,?_⟩
   . rw[QE,b' (by simp[h0]),ao.d5]
   . rw[ND,b' (by simp[h0])]
 let c:Nat->Int:=λi=>(ZV (v.e0.getD i e2,v.e0.getD (i+1) e2)).getD 0
 have ay:∀i,i+1 < v.e0.length->ZV (v.e0.getD i e2,v.e0.getD (i+1) e2)=some (c i)/\adV (v.e0.getD i e2,v.e0.getD (i+1) e2)=some (c i):=by
  intro i al;obtain⟨r,h1,ah⟩:=ar9 (ah7 (hk _ (oJ (by omega:i < v.e0.length) e2))) (ah7 (hk _ (oJ al e2)))
  grind
 have h:=amr (λi=>QE (plain,((i+1:Nat):Int),ts,v,t.Kind,t.Name,t.jb,t.i',t.Max,t.hq,t.cy,t.Key,t.hZ,t.Open)) (λi=>ND (((i+1:Nat):Int),v)) (v.e0.length - 1) (λi=>!(decide (0<=c i))) inr ()
  (λi al=>by
   have hs:=Yq (i:=i+1) (by omega) (by omega);have Sj:Lx .i64 ((i+1:Nat):Int) 1=(i:Int):=by rw[hs];simp
   rw[QE,b6 (by simp;omega)];simp only[h',eg];rw[Sj,b6 (d4 (by omega)),b6 (d4 (by omega))];simp only[o1,ao.d5];rw[(ay i (by omega)).1,pv (by omega)]
   grind)
  (by
   have e:v.e0.length - 1+1=v.e0.length:=by omega
   rw[e,QE,b' (by simp),ao.d5])
  (λi al=>by
   have hs:=Yq (i:=i+1) (by omega) (by omega);have Sj:Lx .i64 ((i+1:Nat):Int) 1=(i:Int):=by rw[hs];simp
   rw[ND,b6 (by simp;omega)];simp only[h',eg];rw[Sj,b6 (d4 (by omega)),b6 (d4 (by omega))];simp only[o1,ao.d5];rw[(ay i (by omega)).2,pv (by omega)]
   grind)
  (by
   have e:v.e0.length - 1+1=v.e0.length:=by omega
   rw[e,ND,b' (by simp)])
 have e':QE (plain,((0+1:Nat):Int),ts,v,t.Kind,t.Name,t.jb,t.i',t.Max,t.hq,t.cy,t.Key,t.hZ,t.Open)=QE (plain,1,ts,v,t.Kind,t.Name,t.jb,t.i',t.Max,t.hq,t.cy,t.Key,t.hZ,t.Open):=rfl;have hf:ND (((0+1:Nat):Int),v)=ND (1,v):=rfl;simp only[e',hf]at h;rcases h with⟨h1,ah,_⟩ | ⟨h1,ah,_⟩
 . exact .inl ⟨h1,ah⟩
 . exact .inr ⟨h1,ah⟩
theorem atk{α β:Type}{a:List α}{b:List β}(h:decide ((a.length:Int)=(b.length:Int))=true):a.length=b.length:=by grind
theorem axZ{o:Option (Int×Bool)}{r:Int×Bool}(c7:o=some r)(O plain f:Bool):
 (o >>=λh8=>some (bif O then(!plain)else false) >>=λt85=>(if((!h8.2) && t85)=true then some f else some false) >>=λE1=>some (bif h8.2 then true else bif t85 then E1 else false))=some (r.2 || (O && !plain && f)):=by
 subst c7;obtain⟨k,J7⟩:=r;cases J7 <;> cases O <;> cases plain <;> cases f <;> rfl
theorem aoS{o:Option (Int×Bool)}{r:Int×Bool}(c7:o=some r)(O plain f:Bool)(F:Bool -> Option Bool)(tr:F false=some f):
 (o >>=λh8=>some (bif O then(!plain)else false) >>=λt85=>(if((!h8.2) && t85)=true then F h8.2 else some false) >>=λE1=>some (bif h8.2 then true else bif t85 then E1 else false))=some (r.2 || (O && !plain && f)):=by
 subst c7;obtain⟨k,J7⟩:=r;cases J7 <;> cases O <;> cases plain <;> simp[tr]
theorem Su{o:Option Bool}{r:Bool}(c7:o=some r)(q:Bool):(some q >>=λt244=>(if t244=true then o else some false) >>=λQn=>some (bif t244 then Qn else false))=some (q && r):=by grind
theorem aoT(c QA aqc f:Bool){X:Option Bool}(Uy:c=true->X=some f)(h1:c=true->QA=true/\aqc=true):(some c >>=λt188=>if(QA || (!t188))=true then if(aqc || (!t188))=true then(if t188=true then X else some false) >>=λXN=>some (bif t188 then XN else false)else none else none)=some (c && f):=by grind
theorem aLq(A b q m:Bool){ro:Option Bool}(ar:ro=some q){L:Option (Bool ⊕ Unit)}(s4:A=true -> L=some (if m=true then .inr ()else .inl false)):
 (if(bif (bif false then true else(!true))then true else b)=true then some false else some (!A) >>=λt107=>(if(!t107)=true then ro else some false) >>=λJB=>if(bif t107 then true else(!JB))=true then some false else L >>=λo=>match o with | .inl x=>some x | .inr _=>some true)=some (A && !b && q && m):=by
 subst ar;cases A with
 | false=>cases b <;> rfl
 | true=>
  rw[s4 rfl];cases b <;> cases q <;> cases m <;> rfl
theorem aoU(g f h5 js k5 E:Bool)(h1:js=true->k5=true):(some g >>=λt209=>(if t209=true then some f else some false) >>=λPx=>some (bif bif bif t209 then Px else false then h5 else false then js else false) >>=λt226=>if(k5 || (!t226))=true then some (bif t226 then E else false)else none)=some (g && f && h5 && js && E):=by grind
theorem ax1(c:Bool){ok V7:Option Bool}{k i:Bool}(hk:ok=some k)(al:V7=some i){L:Option (Bool ⊕ Unit)}{q:Bool}(s4:L=some (if q=true then .inr ()else .inl false)):
 (some c >>=λt239=>(if(!t239)=true then ok else some false) >>=λXM=>some (bif t239 then true else(!XM)) >>=λt249=>(if(!t249)=true then V7 else some false) >>=λUS=>if(bif t249 then true else(!US))=true then some false else L >>=λLd=>match Ld with | .inl J9=>some J9 | .inr _=>some true)=some (!c && k && q && i):=by
 subst hk;subst al;subst s4;cases c <;> cases k <;> cases q <;> cases i <;> rfl
theorem abW{ts:List cm}(g':ts.length < 9223372036854775807)(k':∀t,t∈ts->vk t)(ns:∀t,t∈ts->SZ t.Kind){v:ao}(cJ:pI v):Fit ts v:=by
 induction cJ with
 | mk v hs h1 ah bJ hk al Ph Ls K8 Nv Nw N2 Jp=>
  intro t plain;rw[PY,NM];by_cases Qd:(bif decide (t < 0)then true else decide (((⟨ts⟩:gJ).Types.length:Int)<=t))=true
  . rw[b6 Qd,b6 Qd];exact⟨false,rfl,rfl⟩
  . rw[b' Qd,b' Qd];have tw:0<=t/\t < ts.length:=by grind
    obtain⟨j,rfl⟩:∃j:Nat,t=(j:Int):=⟨t.toNat,by omega⟩
    have dx:j < ts.length:=by omega
    rw[b6 (d4 dx),b6 (d4 dx)];simp only[o1,ao.d5];have aaL:=k' _ (oJ dx e1);have YX:=ns _ (oJ dx e1);generalize ts.getD j e1=x at aaL YX ⊢;have hm:=i4 (QG aaL.Nu);have acS:=i4 (QG aaL.syms);by_cases TC:v.Kind=x.Kind
    . obtain⟨p,Ql,Qm,aps⟩:=aEw (v:=v) (by rw[TC];exact YX);rw[Ql,Qm];cases p with
      | false=>exact⟨false,by simp[TC],by simp[TC]⟩
      | true=>
       have aaA:=asA (ts:=ts) ah Jp;have aaC:=asA (ts:=ts) h1 N2;obtain⟨K,N,L,H,M,S,hF,LJ,E,O⟩:=x;obtain⟨N6,B,k5,OG,bo,Jv,ob,R⟩:=v;simp only at TC;subst TC;have Zc:=aps rfl;simp only at Zc YX hm acS h1 ah bJ;have ay:N6=1\/N6=2\/N6=3\/N6=4\/N6=5\/N6=6\/N6=7\/N6=8\/N6=9:=by unfold SZ at YX;omega
       rcases ay with rfl | rfl | rfl | rfl | rfl | rfl | rfl | rfl | rfl
       . obtain rfl:R=[]:=Zc (by decide) (by decide);cases plain <;> exact⟨true,rfl,rfl⟩
       . obtain rfl:R=[]:=Zc (by decide) (by decide);cases plain <;> exact⟨_,rfl,rfl⟩
       . obtain rfl:R=[]:=Zc (by decide) (by decide);cases plain <;> exact⟨_,rfl,rfl⟩
       . obtain rfl:R=[]:=Zc (by decide) (by decide);obtain⟨r,kJ,pK,_⟩:=ahM (t:=⟨4,N,L,H,M,S,hF,LJ,E,O⟩) bo acS;have c6:O0 (bo,false)=some (bif decide (1<=bo)then decide (bo<=1000)else false):=by rfl
         cases plain
         . exact⟨_,axZ kJ O false _,aoS pK O false _ (λb=>O0 (bo,b)) c6⟩
         . exact⟨_,axZ kJ O true _,aoS pK O true _ (λb=>O0 (bo,b)) c6⟩
       ·
        have aNd:=aL0 (t:=⟨5,N,L,H,M,S,hF,LJ,E,O⟩) hm ⟨5,B,k5,OG,bo,Jv,ob,R⟩ bJ plain ts;have BJ:decide ((ob.length:Int)=(hF.length:Int))=true->_:=λuJ=>aFn (ts:=ts) (t:=⟨5,N,L,H,M,S,hF,LJ,E,O⟩) (v:=⟨5,B,k5,OG,bo,Jv,ob,R⟩) (atk uJ) hm Jp plain
        have ee:∃q:Bool,Rt (plain,R,(R.length:Int),0,ts,⟨5,B,k5,OG,bo,Jv,ob,R⟩,5,N,L,H,M,S,hF,LJ,E,O)=some (if q=true then .inr (plain,ts,5,B,k5,OG,bo,Jv,ob,R,5,N,L,H,M,S,hF,LJ,E,O)else .inl false)/\Yc (⟨5,N,L,H,M,S,hF,LJ,E,O⟩,R)=some q:=by grind
        obtain⟨q,y0,t'⟩:=ee;have aKG:∃m:Bool,decide ((ob.length:Int)=(hF.length:Int))=true->(T0 (plain,hF,(hF.length:Int),0,ts,5,B,k5,OG,bo,Jv,ob,R)=some (if m=true then .inr ()else .inl false)/\Oz (plain,0,ts,⟨5,B,k5,OG,bo,Jv,ob,R⟩,5,N,L,H,M,S,hF,LJ,E,O)=some (if m=true then .inr ()else .inl false)):=by
         cases uJ:decide ((ob.length:Int)=(hF.length:Int))with
         | false=>exact⟨true,λh=>by cases h⟩
         | true=>
          rcases BJ uJ with⟨a,b⟩ | ⟨a,b⟩
          . simp_all
          simp_all
        obtain⟨m,Si⟩:=aKG;refine⟨(decide ((ob.length:Int)=(hF.length:Int))) && !(bif plain then decide (0 < (R.length:Int))else false) && q && m,?_,?_⟩
        . show(if(bif (!(decide ((ob.length:Int)=(hF.length:Int))))then true else bif plain then decide (0 < (R.length:Int))else false)=true then some false else Rt (plain,R,(R.length:Int),0,ts,⟨5,B,k5,OG,bo,Jv,ob,R⟩,5,N,L,H,M,S,hF,LJ,E,O) >>=_)=_
          grind
        . exact aLq (decide ((ob.length:Int)=(hF.length:Int))) (bif plain then decide (0 < (R.length:Int))else false) q m t' (λuJ=>(Si uJ).2)
       ·
        obtain⟨r,kJ,pK,c6⟩:=Zu (t:=⟨6,N,L,H,M,S,hF,LJ,E,O⟩) bo hm;have Q2:∀b,b=false->O0 (bo,b)=some (bif decide (1<=bo)then decide (bo<=1000)else false):=by
         intro b ai;subst ai;rfl
        have Uy:∃f:Bool,(bif decide ((ob.length:Int)=1)then decide ((R.length:Int)=0)else false)=true->(PY ((⟨ts⟩:gJ),(hF.getD r.1.toNat hL).ki,ob.getD (0:Int).toNat e2,plain)=some f/\NM ((⟨ts⟩:gJ),(hF.getD r.1.toNat hL).ki,ob.getD (0:Int).toNat e2,plain)=some f):=by
         by_cases J3:ob.length=1
         . obtain⟨f,f1,f2⟩:=Jp (ob.getD 0 e2) (oJ (by omega:0 < ob.length) e2) (hF.getD r.1.toNat hL).ki plain
           grind
         grind
        obtain⟨f,axg⟩:=Uy;have ajg:r.2=true->(bif decide ((ob.length:Int)=1)then decide ((R.length:Int)=0)else false)=true->eh r.1 hF.length=true/\eh 0 ob.length=true:=by
         intro q0 Om;constructor
         . rcases c6 with⟨k,hg,_,_,rfl⟩ | ⟨_,rfl⟩
           . exact d4 hg
           . cases q0
         . by_cases J3:ob.length=1
           . exact d4 (k:=0) (by omega)
           grind
        have ajb:decide ((R.length:Int)=1)=true->eh 0 R.length=true:=by
         intro h;have:=V3 h;exact d4 (k:=0) (by omega)
        obtain⟨agQ,Zf⟩:=r;refine⟨if Zf=true then(bif decide ((ob.length:Int)=1)then decide ((R.length:Int)=0)else false) && f else(bif O then(!plain)else false) && (bif decide (1<=bo)then decide (bo<=1000)else false) && decide ((ob.length:Int)=0) && decide ((R.length:Int)=1) && decide ((R.getD (0:Int).toNat ka).bo=bo),?_,?_⟩
        . show(S7 (⟨6,N,L,H,M,S,hF,LJ,E,O⟩,bo) >>=_)=_;rw[kJ];cases Zf with
          | true=>exact aoT _ (eh agQ hF.length) (eh 0 ob.length) f (λh=>(axg h).1) (ajg rfl)
          | false=>exact aoU (bif O then(!plain)else false) (bif decide (1<=bo)then decide (bo<=1000)else false) (decide ((ob.length:Int)=0)) (decide ((R.length:Int)=1)) (eh 0 R.length) (decide ((R.getD (0:Int).toNat ka).bo=bo)) ajb
        . show(if(bif (bif false then true else(!true))then true else(bif plain then decide (0 < (R.length:Int))else false))=true then some false else QB (⟨6,N,L,H,M,S,hF,LJ,E,O⟩,bo) >>=_)=_;rw[pK];cases VP:(bif plain then decide (0 < (R.length:Int))else false)with
          | true=>
           have YW:plain=true:=by grind
           subst YW;have aM4:decide ((R.length:Int)=0)=false:=by grind
           grind
          | false=>
           cases Zf with
           | true=>exact aoT _ (eh agQ hF.length) (eh 0 ob.length) f (λh=>(axg h).2) (ajg rfl)
           | false=>exact aoU (bif O then(!plain)else false) (bif decide (1<=bo)then decide (bo<=1000)else false) (decide ((ob.length:Int)=0)) (decide ((R.length:Int)=1)) (eh 0 R.length) (decide ((R.getD (0:Int).toNat ka).bo=bo)) ajb
       . obtain rfl:R=[]:=Zc (by decide) (by decide);obtain⟨r,kJ,pK⟩:=aaA E plain;cases plain
         . exact⟨_,Su kJ _,Su pK _⟩
         . exact⟨_,Su kJ _,Su pK _⟩
       . obtain rfl:R=[]:=Zc (by decide) (by decide);obtain⟨k,hg,hl⟩:=aaC LJ plain;obtain⟨i,i1,i2⟩:=aaA E plain;have J5:=aGV (ts:=ts) (t:=⟨8,N,L,H,M,S,hF,LJ,E,O⟩) (v:=⟨8,B,k5,OG,bo,Jv,ob,[]⟩) (i4 h1) hk plain
         obtain⟨q,aNq,ayn⟩:∃q:Bool,QE (plain,1,ts,⟨8,B,k5,OG,bo,Jv,ob,[]⟩,8,N,L,H,M,S,hF,LJ,E,O)=some (if q=true then .inr (plain,ts,⟨8,B,k5,OG,bo,Jv,ob,[]⟩,8,N,L,H,M,S,hF,LJ,E,O)else .inl false)/\ND (1,⟨8,B,k5,OG,bo,Jv,ob,[]⟩)=some (if q=true then .inr ()else .inl false):=by
          rcases J5 with⟨a,b⟩ | ⟨a,b⟩
          . simp_all
          simp_all
         refine⟨!(bif decide (M < (Jv.length:Int))then true else(!(decide ((ob.length:Int)=(Jv.length:Int))))) && k && q && i,?_,?_⟩
         . show(some (bif decide (M < (Jv.length:Int))then true else(!(decide ((ob.length:Int)=(Jv.length:Int))))) >>=λt270=>(if(!t270)=true then Yn ((⟨ts⟩:gJ),LJ,Jv,plain)else some false) >>=λTN=>if(bif t270 then true else(!TN))=true then some false else QE (plain,1,ts,⟨8,B,k5,OG,bo,Jv,ob,[]⟩,8,N,L,H,M,S,hF,LJ,E,O) >>=_)=_
           grind
         . cases plain
           . exact ax1 (bif decide (M < (Jv.length:Int))then true else(!(decide ((ob.length:Int)=(Jv.length:Int))))) hl i2 ayn
           . exact ax1 (bif decide (M < (Jv.length:Int))then true else(!(decide ((ob.length:Int)=(Jv.length:Int))))) hl i2 ayn
       . obtain rfl:R=[]:=Zc (by decide) (by decide);obtain⟨r,kJ,pK⟩:=aaA E plain;cases plain
         . exact⟨_,Su kJ _,Su pK _⟩
         . exact⟨_,Su kJ _,Su pK _⟩
    . exact⟨false,by simp[TC],by simp[TC]⟩
theorem ab3{U:l1}{t:c9}{l:List (t.den U.D)}(h:WF U ⟨.slice t,l⟩):l.length<=reachBytes/\l.length*t.bytes U<=reachBytes/\∀x,x∈l->∀c,c∈t.row U x->WF U c:=by cases h with | slice t l h1 ah bJ=>exact⟨h1,ah,bJ⟩
theorem awm{U:l1}{s:List UInt8}(h:WF U ⟨.str,s⟩):s.length<=reachBytes:=by cases h with | str s h=>exact h
theorem aih{U:l1}{n:Int}(h:WF U ⟨.int .i64,n⟩):Zr n:=by
 cases h with
 | int k n h=>
  simp[Lit.wf,IntKind.min,IntKind.max,IntKind.bits,IntKind.signed]at h;exact⟨by omega,by omega⟩
theorem au9{l:List ao}{x:ao}(h:x∈l):SizeOf.sizeOf x < SizeOf.sizeOf l:=List.sizeOf_lt_of_mem h
theorem aI3 :∀(n:Nat) (v:ao),SizeOf.sizeOf v < n->(∀c,c∈oi.Uu WA v->WF oi c)->pI v:=by
 intro n
 induction n with
 | zero=>intro v h;omega
 | succ n ih=>
  intro v cJ ay;have h5:=ay ⟨.int .i64,v.Kind⟩ (.head _);have yt:=ay ⟨.int .i64,v.hX⟩ (.tail _ (.tail _ (.head _)));have Np:=ay ⟨.str,v.hG⟩ (.tail _ (.tail _ (.tail _ (.head _))));have ae6:=ay ⟨.int .i64,v.bo⟩ (.tail _ (.tail _ (.tail _ (.tail _ (.head _)))));have amI:=ay ⟨.slice (.nm WA),v.e0⟩ (.tail _ (.tail _ (.tail _ (.tail _ (.tail _ (.head _))))))
  have amJ:=ay ⟨.slice (.nm WA),v.b9⟩ (.tail _ (.tail _ (.tail _ (.tail _ (.tail _ (.tail _ (.head _)))))));have azy:=ay ⟨.slice (.nm awJ),v.Rest⟩ (.tail _ (.tail _ (.tail _ (.tail _ (.tail _ (.tail _ (.tail _ (.head _))))))));obtain⟨hg,_,j2⟩:=ab3 (t:= .nm WA) amI;obtain⟨i1,_,i3⟩:=ab3 (t:= .nm WA) amJ;obtain⟨kJ,_,adg⟩:=ab3 (t:= .nm awJ) azy
  have hI:SizeOf.sizeOf v.e0 < SizeOf.sizeOf v/\SizeOf.sizeOf v.b9 < SizeOf.sizeOf v:=by cases v;simp;omega
  refine .mk v (awm Np) hg i1 kJ (λx aa=>ih x (by have:=au9 aa;omega) (j2 x aa)) (λx aa=>ih x (by have:=au9 aa;omega) (i3 x aa)) (λx aa=>?_) (aih h5) (aih yt) (aih ae6) (λx aa=>?_)
  . exact awm (adg x aa ⟨.str,x.Data⟩ (.tail _ (.head _)))
  . exact aih (adg x aa ⟨.int .i64,x.bo⟩ (.head _))
theorem al9{v:ao}(h:∀c,c∈oi.Uu WA v->WF oi c):pI v:=aI3 _ v (Nat.lt_succ_self _) h
theorem aHB{t:cm}(h:∀c,c∈oi.Uu ah6 t->WF oi c):vk t:=by
 have amI:=h ⟨.slice (.nm asY),t.hq⟩ (.tail _ (.tail _ (.tail _ (.tail _ (.tail _ (.head _))))));have amJ:=h ⟨.slice (.nm asZ),t.cy⟩ (.tail _ (.tail _ (.tail _ (.tail _ (.tail _ (.tail _ (.head _)))))));obtain⟨s1,s2,TP⟩:=ab3 (t:= .nm asY) amI;obtain⟨m1,m2,m3⟩:=ab3 (t:= .nm asZ) amJ;have aL4:t.hq.length*24<=reachBytes:=s2
 have aNn:t.cy.length*152<=reachBytes:=m2;refine⟨aL4,by omega,λm hm=>al9 λc ay=>m3 m hm c ?_⟩;exact .tail _ (.tail _ (.tail _ (.tail _ (.tail _ ay))))
theorem aLK{l:List cm}(h:WF oi ⟨.slice (.nm ah6),l⟩):l.length<=reachBytes/\∀t,t∈l->vk t:=by
 obtain⟨h1,_,bJ⟩:=ab3 (t:= .nm ah6) h;exact⟨h1,λt ht=>aHB (bJ t ht)⟩
theorem akV(s:gJ):(⟨s.Types⟩:gJ)=s:=by cases s;rfl
end
section
open Go Go.Proofs.YtijpinendaoleaaGreat.Shv Go.Sort
set_option maxRecDepth 100000
mutual
def wt :ao->Nat
 | ⟨_,_,_,s,_,ks,is,r⟩=>10+s.length+(r.map λx=>x.Data.length+1).sum+KW ks+KW is
def KW :List ao->Nat
 | []=>0
 | v::l=>wt v+KW l
end
structure Fd where
 id:Nat
 c:Bool
 p:List UInt8
instance:Inhabited Fd:=⟨⟨0,false,[]⟩⟩
def Fd.text(f:Fd):List UInt8:=aJu f.id f.c f.p
def Og(l:List em)(id:Int):Option em:=l.find? λm=>decide (m.bo=id)
def OE(n:Int):Prop:=1<=n/\n<=1000
def aeC(ms:List em)(r:List C2):Prop:=r.Pairwise (λa b=>a.bo < b.bo)/\∀x,x∈r->OE x.bo/\Og ms x.bo=none
def akj(a b:ao):Int:=(ZV (a,b)).getD 0
def acd(ks:List ao):Prop:=∀i,i+1 < ks.length->akj (ks.getD i e2) (ks.getD (i+1) e2) < 0
mutual
def qj(ts:List cm)(pl:Bool)(t:Int):ao->Prop
 | ⟨k,b,i,s,id,ks,is,r⟩=>
  let x:=ts.getD t.toNat e1
  (0<=t/\t < ts.length/\k=x.Kind/\(pl=true->r=[]))/\
  (k=1/\i=0/\s=[]/\id=0/\ks=[]/\is=[]/\r=[]\/
  k=2/\b=false/\s=[]/\id=0/\ks=[]/\is=[]/\r=[]/\x.jb<=i/\i<=x.i'\/
  k=3/\b=false/\i=0/\id=0/\ks=[]/\is=[]/\r=[]/\(s.length:Int)<=x.Max\/
  k=4/\b=false/\i=0/\s=[]/\ks=[]/\is=[]/\r=[]/\((∃y,y∈x.hq/\y.bo=id)\/x.Open=true/\pl=false/\OE id)\/
  k=5/\b=false/\i=0/\s=[]/\id=0/\ks=[]/\aeC x.cy r/\Rj ts pl x.cy is\/
  k=6/\b=false/\i=0/\s=[]/\ks=[]/\(match Og x.cy id with
   | some m=>r=[]/\is.length=1/\Nc ts pl m.ki is
   | none=>x.Open=true/\pl=false/\OE id/\is=[]/\∃d,r=[⟨id,d⟩])\/
  k=7/\b=false/\i=0/\s=[]/\id=0/\ks=[]/\r=[]/\(is.length:Int)<=x.Max/\Nc ts pl x.hZ is\/
  k=8/\b=false/\i=0/\s=[]/\id=0/\r=[]/\(ks.length:Int)<=x.Max/\is.length=ks.length/\Nc ts pl x.Key ks/\Nc ts pl x.hZ is/\acd ks\/
  k=9/\b=false/\i=0/\s=[]/\id=0/\ks=[]/\r=[]/\is.length<=1/\Nc ts pl x.hZ is)
def Nc(ts:List cm)(pl:Bool)(t:Int):List ao->Prop
 | []=>True
 | v::l=>qj ts pl t v/\Nc ts pl t l
def Rj(ts:List cm)(pl:Bool):List em->List ao->Prop
 | m::ms,v::l=>qj ts pl m.ki v/\Rj ts pl ms l
 | [],[]=>True
 | _,_=>False
end
theorem ads(v:ao):wt v=10+v.hG.length+(v.Rest.map λx=>x.Data.length+1).sum+KW v.e0+KW v.b9:=by cases v;rw[wt]
theorem ab4(v:ao)(l:List ao):KW (v::l)=wt v+KW l:=by rw[KW]
theorem awv :KW []=0:=by rw[KW]
theorem al' :∀{l:List ao} {x:ao},x∈l->wt x<=KW l
 | y::l,x,h=>by
  rw[ab4];rcases LU.1 h with rfl | h
  . omega
  . have:=al' h;omega
section
variable {ts:List cm}
def azd(ts:List cm):Prop:=∀x,x∈ts->∀m,m∈x.cy->m.bo<=1000
end
section
variable {ts:List cm}
def U6(ms:List em):Prop:=ms.Pairwise (λa b=>a.bo < b.bo)/\∀m,m∈ms->OE m.bo
end
section
variable {ts:List cm} {pl:Bool}
theorem OA :∀{l:List ao} {t:Int},Nc ts pl t l↔∀x,x∈l->qj ts pl t x
 | [],t=>by rw[Nc];simp
 | v::l,t=>by
  rw[Nc,OA]
  grind
theorem Ud :∀{ms:List em} {l:List ao},Rj ts pl ms l↔l.length=ms.length/\∀i,i < ms.length->qj ts pl (ms.getD i hL).ki (l.getD i e2)
 | [],[]=>by
  have:Rj ts pl [] []=True:=by rw[Rj]
  grind
 | [],v::l=>by
  have:Rj ts pl [] (v::l)=False:=by rw[Rj] <;> (intros;simp_all)
  grind
 | m::ms,[]=>by
  have:Rj ts pl (m::ms) []=False:=by rw[Rj] <;> (intros;simp_all)
  grind
 | m::ms,v::l=>by
  rw[Rj,Ud];constructor
  . grind
  . rintro ⟨h1,ah⟩
    exact⟨ah 0 (by simp),by simpa using h1,λi al=>ah (i+1) (by simpa using al)⟩
end
def ry(o:Option Bool)(P:Prop):Prop:=∃r,o=some r/\(r=true↔P)
theorem ry.imp{o:Option Bool}{P Q:Prop}(h:ry o P)(e:P↔Q):ry o Q:=by grind
theorem ry.of{b:Bool}{P:Prop}(e:b=true↔P):ry (some b) P:=⟨b,rfl,e⟩
theorem ry.loop{L:Nat -> Option (Bool ⊕ Unit)}{n:Nat}{p:Nat -> Bool}{g:Unit}{o:Option (Bool ⊕ Unit)}(h0:o=L 0)(NZ:∀i,i < n -> L i=if p i=true then L (i+1)else some (.inl false))(UD:L n=some (.inr g)):
 ry (o >>=λo=>match o with | .inl x=>some x | .inr _=>some true) (∀i,i < n->p i=true):=by
 subst h0;rcases scan L n p (.inl false) (.inr g) NZ UD with⟨h1,ah⟩ | ⟨h1,j,ah,bJ⟩
 . rw[h1];exact⟨true,rfl,by simpa using ah⟩
 . rw[h1];refine⟨false,rfl,?_⟩;constructor
   . intro h;cases h
   . intro h;have:=h j ah;rw[bJ]at this;cases this
theorem ah8{α:Type}(f:α->Int)(d:α):∀l:List α,l.Pairwise (λa b=>f a < f b)↔∀i,i+1 < l.length->f (l.getD i d) < f (l.getD (i+1) d)
 | []=>by simp
 | [a]=>by simp
 | a::b::l=>by
  rw[Y9,ah8 f d (b::l)];constructor
  . rintro ⟨h1,ah⟩ i al
    cases i with
    | zero=>exact h1 b (.head _)
    | succ i=>exact ah i (by simpa using al)
  . intro h;have ah:∀i,i+1 < (b::l).length->f ((b::l).getD i d) < f ((b::l).getD (i+1) d):=λi al=>h (i+1) (by simpa using al)
    refine⟨λx aa=>?_,ah⟩;have h0:=h 0 (by simp);simp only[apa,ajF]at h0;have bJ:=(ah8 f d (b::l)).2 ah;rw[Y9]at bJ
    grind
section
variable {ts:List cm}
def akt(ts:List cm)(x:ao):Prop:=∀t pl,ry (NM ((⟨ts⟩:gJ),t,x,pl)) (qj ts pl t x)
theorem au'{l:List ao}(aJ:l.length<=reachBytes)(ih:∀x,x∈l->akt ts x)(t:Int)(pl:Bool):ry (Vg ((⟨ts⟩:gJ),t,l,pl)) (Nc ts pl t l):=by
 have ar:=i4 aJ
 let p:Nat->Bool:=λi=>(NM ((⟨ts⟩:gJ),t,l.getD i e2,pl)).getD false
 have a7:∀i,i < l.length->NM ((⟨ts⟩:gJ),t,l.getD i e2,pl)=some (p i)/\(p i=true↔qj ts pl t (l.getD i e2)):=by
  intro i al;obtain⟨r,h1,ah⟩:=ih _ (oJ al e2) t pl
  grind
 rw[Vg];refine(ry.loop (L:=λi=>QD (t,l,pl,(i:Int),ts)) (n:=l.length) (p:=p) (g:=()) rfl (λi al=>?_) ?_).imp ?_
 . show QD (t,l,pl,(i:Int),ts)=if p i=true then QD (t,l,pl,((i+1:Nat):Int),ts)else _
   rw[QD,b6 (by simp;omega),b6 (d4 al)];simp only[ao.d5,o1];rw[(a7 i al).1,pv (by omega)]
   grind
 . show QD (t,l,pl,(l.length:Int),ts)=_;rw[QD,b' (by simp)]
 . rw[OA];constructor
   . intro h x aa;obtain⟨i,al,rfl⟩:=K' aa
     grind
   grind
theorem arO{l:List em}{id:Int}{r:Int×Bool}(h:abS l id r):(r.2=true/\∃j:Nat,j < l.length/\r.1=(j:Int)/\Og l id=some (l.getD j hL)/\(l.getD j hL).bo=id)\/(r.2=false/\Og l id=none):=by
 rcases h with⟨j,h1,ah,bJ,rfl⟩ | ⟨h1,rfl⟩
 . refine .inl ⟨rfl,j,h1,rfl,?_,ah⟩;unfold Og;rw[List.find?_eq_some_iff_getElem];refine⟨by rw[I2];exact ah,j,h1,(G' h1 _).symm,λk hk=>?_⟩
   grind
 . refine .inr ⟨rfl,?_⟩;unfold Og;rw[List.find?_eq_none];intro m hm;obtain⟨i,al,rfl⟩:=K' hm
   grind
theorem aGW{t:cm}(ht:t.cy.length < 9223372036854775807){l:List C2}(aJ:l.length<=reachBytes):ry (Yc (t,l)) (aeC t.cy l):=by
 have ar:=i4 aJ;rw[Yc]
 let p:Nat->Bool:=λi=>!((S7 (t,(l.getD i ka).bo)).getD (0,false)).2 && (bif decide (1<=(l.getD i ka).bo)then decide ((l.getD i ka).bo<=1000)else false) && (!(decide ((0:Int) < (i:Int))) || !(decide ((l.getD i ka).bo<=(l.getD (Lx .i64 (i:Int) 1).toNat ka).bo)))
 refine(ry.loop (L:=λi=>PX (l,(i:Int),t)) (n:=l.length) (p:=p) (g:=()) rfl (λi al=>?_) ?_).imp ?_
 . show PX (l,(i:Int),t)=if p i=true then PX (l,((i+1:Nat):Int),t)else _
   obtain⟨r,h1,ah,_⟩:=Zu (t:=t) (l.getD i ka).bo ht;have aot:p i=(!r.2 && (bif decide (1<=(l.getD i ka).bo)then decide ((l.getD i ka).bo<=1000)else false) && (!(decide ((0:Int) < (i:Int))) || !(decide ((l.getD i ka).bo<=(l.getD (Lx .i64 (i:Int) 1).toNat ka).bo)))):=by simp only[p,h1,SG]
   rw[aot,PX,b6 (by simp;omega),b6 (d4 al)];simp only[o1];rw[ah,pv (by omega)];have Q2:O0 ((l.getD i ka).bo,r.2)=some ((!r.2) && (bif decide (1<=(l.getD i ka).bo)then decide ((l.getD i ka).bo<=1000)else false)):=by
    rw[O0]
    grind
   show(if eh (i:Int) l.length=true then O0 ((l.getD i ka).bo,r.2) >>=_ else none)=_;rw[b6 (d4 al),Q2]
   exact arN ((!r.2) && (bif decide (1<=(l.getD i ka).bo)then decide ((l.getD i ka).bo<=1000)else false)) (eh (i:Int) l.length) (decide ((0:Int) < (i:Int))) (Lx .i64 (i:Int) 1) (λj=>eh j l.length) (λj=>decide ((l.getD i ka).bo<=(l.getD j.toNat ka).bo)) _ _ (d4 al) (λgA=>by
    have:0 < i:=by simp at gA;omega
    show eh _ _=true
    rw[Yq this (by omega)];exact d4 (by omega))
 . show PX (l,(l.length:Int),t)=_;rw[PX,b' (by simp)]
 . unfold aeC;rw[ah8 (λa:C2=>a.bo) ka];have key:∀i,i < l.length->(p i=true↔(OE (l.getD i ka).bo/\Og t.cy (l.getD i ka).bo=none)/\(i=0\/(l.getD (i - 1) ka).bo < (l.getD i ka).bo)):=by
    intro i al;obtain⟨r,h1,ah,c6⟩:=Zu (t:=t) (l.getD i ka).bo ht;have aot:p i=(!r.2 && (bif decide (1<=(l.getD i ka).bo)then decide ((l.getD i ka).bo<=1000)else false) && (!(decide ((0:Int) < (i:Int))) || !(decide ((l.getD i ka).bo<=(l.getD (Lx .i64 (i:Int) 1).toNat ka).bo)))):=by simp only[p,h1,SG]
    rw[aot];have g':r.2=false↔Og t.cy (l.getD i ka).bo=none:=by
     rcases arO c6 with⟨a,j,_,_,b,_⟩ | ⟨a,b⟩
     . grind
     grind
    rw[<-g'];unfold OE;by_cases h0:i=0
    . grind
    . have gA:decide ((0:Int) < (i:Int))=true:=by simp;omega
      rw[gA,Yq (by omega) (by omega),o1]
      grind
   constructor
   . intro h;refine⟨λi al=>?_,λx aa=>?_⟩
     . grind
     . obtain⟨i,al,rfl⟩:=K' aa;simp_all
   . rintro ⟨h1,ah⟩ i al
     refine(key i al).2 ⟨ah _ (oJ al ka),?_⟩;by_cases h0:i=0
     . omega
     . right;have:=h1 (i - 1) (by omega);have e:i - 1+1=i:=by omega
       grind
theorem aFo{t:cm}{v:ao}(aJ:v.b9.length=t.cy.length)(ar:t.cy.length < 9223372036854775807)(ih:∀x,x∈v.b9 -> akt ts x)(pl:Bool):
 ry (Oz (pl,0,ts,v,t.Kind,t.Name,t.jb,t.i',t.Max,t.hq,t.cy,t.Key,t.hZ,t.Open) >>=λo=>match o with | .inl ho=>some ho | .inr _=>some true) (Rj ts pl t.cy v.b9):=by
 let p:Nat->Bool:=λi=>(NM ((⟨ts⟩:gJ),(t.cy.getD i hL).ki,v.b9.getD i e2,pl)).getD false
 have a7:∀i,i < t.cy.length->NM ((⟨ts⟩:gJ),(t.cy.getD i hL).ki,v.b9.getD i e2,pl)=some (p i)/\(p i=true↔qj ts pl (t.cy.getD i hL).ki (v.b9.getD i e2)):=by
  intro i al;obtain⟨r,h1,ah⟩:=ih _ (oJ (by omega:i < v.b9.length) e2) (t.cy.getD i hL).ki pl
  grind
 refine(ry.loop (L:=λi=>Oz (pl,(i:Int),ts,v,t.Kind,t.Name,t.jb,t.i',t.Max,t.hq,t.cy,t.Key,t.hZ,t.Open)) (n:=t.cy.length) (p:=p) (g:=()) rfl (λi al=>?_) ?_).imp ?_
 . show Oz (pl,(i:Int),ts,v,t.Kind,t.Name,t.jb,t.i',t.Max,t.hq,t.cy,t.Key,t.hZ,t.Open)=if p i=true then Oz (pl,((i+1:Nat):Int),ts,v,t.Kind,t.Name,t.jb,t.i',t.Max,t.hq,t.cy,t.Key,t.hZ,t.Open)else _
   rw[Oz,b6 (by simp;omega),b6 (d4 al),b6 (d4 (by omega))];simp only[o1,ao.d5];rw[(a7 i al).1,pv (by omega)];cases p i <;> rfl
 . show Oz (pl,(t.cy.length:Int),ts,v,t.Kind,t.Name,t.jb,t.i',t.Max,t.hq,t.cy,t.Key,t.hZ,t.Open)=_;rw[Oz,b' (by simp;omega)]
 . rw[Ud];constructor
   . intro h;exact⟨aJ,λi al=>(a7 i al).2.1 (h i al)⟩
   . rintro ⟨_,h⟩ i al;exact(a7 i al).2.2 (h i al)
theorem aGX{v:ao}(ar:v.e0.length < 9223372036854775807)(hk:∀x,x∈v.e0 -> pI x):
 ry (ND (1,v) >>=λLd=>match Ld with | .inl J9=>some J9 | .inr _=>some true) (acd v.e0):=by
 by_cases h0:v.e0.length=0
 . rw[ND,b' (by simp[h0])];refine⟨true,rfl,?_⟩;unfold acd;simp only[true_iff];intro i al;omega
 refine(ry.loop (L:=λi=>ND (((i+1:Nat):Int),v)) (n:=v.e0.length - 1) (p:=λi=>!(decide (0<=akj (v.e0.getD i e2) (v.e0.getD (i+1) e2)))) (g:=()) rfl (λi al=>?_) ?_).imp ?_
 . show ND (((i+1:Nat):Int),v)=if _ then ND (((i+1+1:Nat):Int),v)else _
   have Sj:Lx .i64 ((i+1:Nat):Int) 1=(i:Int):=by rw[Yq (by omega) (by omega)];simp
   obtain⟨r,h5,js⟩:=ar9 (ah7 (hk _ (oJ (by omega:i < v.e0.length) e2))) (ah7 (hk _ (oJ (by omega:i+1 < v.e0.length) e2)));have cJ:akj (v.e0.getD i e2) (v.e0.getD (i+1) e2)=r:=by unfold akj;rw[h5];rfl
   rw[cJ,ND,b6 (by simp;omega)];simp only[h',eg];rw[Sj,b6 (d4 (by omega)),b6 (d4 (by omega))];simp only[o1,ao.d5];rw[js,pv (by omega)];simp only[eg];cases decide (0<=r) <;> rfl
 . have e:v.e0.length - 1+1=v.e0.length:=by omega
   show ND (((v.e0.length - 1+1:Nat):Int),v)=_;rw[e,ND,b' (by simp)]
 . unfold acd;constructor
   . intro h i al;have:=h i (by omega)
     simpa using this
   . intro h i al;have:=h i (by omega)
     simpa using this
theorem li(pl:Bool)(t:Int)(v:ao):qj ts pl t v↔
 (0<=t/\t < ts.length/\v.Kind=(ts.getD t.toNat e1).Kind/\(pl=true->v.Rest=[]))/\
 (v.Kind=1/\v.hX=0/\v.hG=[]/\v.bo=0/\v.e0=[]/\v.b9=[]/\v.Rest=[]\/
 v.Kind=2/\v.kt=false/\v.hG=[]/\v.bo=0/\v.e0=[]/\v.b9=[]/\v.Rest=[]/\(ts.getD t.toNat e1).jb<=v.hX/\v.hX<=(ts.getD t.toNat e1).i'\/
 v.Kind=3/\v.kt=false/\v.hX=0/\v.bo=0/\v.e0=[]/\v.b9=[]/\v.Rest=[]/\(v.hG.length:Int)<=(ts.getD t.toNat e1).Max\/
 v.Kind=4/\v.kt=false/\v.hX=0/\v.hG=[]/\v.e0=[]/\v.b9=[]/\v.Rest=[]/\((∃y,y∈(ts.getD t.toNat e1).hq/\y.bo=v.bo)\/(ts.getD t.toNat e1).Open=true/\pl=false/\OE v.bo)\/
 v.Kind=5/\v.kt=false/\v.hX=0/\v.hG=[]/\v.bo=0/\v.e0=[]/\aeC (ts.getD t.toNat e1).cy v.Rest/\Rj ts pl (ts.getD t.toNat e1).cy v.b9\/
 v.Kind=6/\v.kt=false/\v.hX=0/\v.hG=[]/\v.e0=[]/\(match Og (ts.getD t.toNat e1).cy v.bo with
  | some m=>v.Rest=[]/\v.b9.length=1/\Nc ts pl m.ki v.b9
  | none=>(ts.getD t.toNat e1).Open=true/\pl=false/\OE v.bo/\v.b9=[]/\∃d,v.Rest=[⟨v.bo,d⟩])\/
 v.Kind=7/\v.kt=false/\v.hX=0/\v.hG=[]/\v.bo=0/\v.e0=[]/\v.Rest=[]/\(v.b9.length:Int)<=(ts.getD t.toNat e1).Max/\Nc ts pl (ts.getD t.toNat e1).hZ v.b9\/
 v.Kind=8/\v.kt=false/\v.hX=0/\v.hG=[]/\v.bo=0/\v.Rest=[]/\(v.e0.length:Int)<=(ts.getD t.toNat e1).Max/\v.b9.length=v.e0.length/\Nc ts pl (ts.getD t.toNat e1).Key v.e0/\Nc ts pl (ts.getD t.toNat e1).hZ v.b9/\acd v.e0\/
 v.Kind=9/\v.kt=false/\v.hX=0/\v.hG=[]/\v.bo=0/\v.e0=[]/\v.Rest=[]/\v.b9.length<=1/\Nc ts pl (ts.getD t.toNat e1).hZ v.b9):=by
 cases v;rw[qj];try exact Iff.rfl
end
def S'(v:ao):Prop:=(v.Kind=1\/v.kt=false)/\(v.Kind=2\/v.hX=0)/\(v.Kind=3\/v.hG=[])/\((v.Kind=4\/v.Kind=6)\/v.bo=0)/\(v.Kind=8\/v.e0=[])/\(5<=v.Kind\/v.b9=[])/\((v.Kind=5\/v.Kind=6)\/v.Rest=[])
theorem aGY(v:ao):ry (ZS v) (S' v):=by
 rw[ZS];refine .of ?_;unfold S';have e:∀{α:Type} (l:List α),((l.length:Int)=0)↔l=[]:=λl=>by simp_all
 grind
theorem azD{z b:Bool}{o:Option Bool}{P Z Q:Prop}(gA:z=true↔Z)(ai:b=false↔Q)(c7:ry o P):ry (if(bif (bif false then true else(!z))then true else b)=true then some false else o) (Z/\Q/\P):=by
 obtain⟨r,rfl,h⟩:=c7;cases z with
 | false=>
  refine⟨false,rfl,?_⟩
  grind
 | true=>
  cases b with
  | true=>refine⟨false,rfl,?_⟩;simp at ai;simp[ai]
  | false=>refine⟨r,rfl,?_⟩;simp at gA ai;simp[gA,ai,h]
theorem acm{q:Bool}{o:Option Bool}{P Q:Prop}(ee:q=true↔Q)(c7:ry o P):ry (some q >>=λt244=>(if t244=true then o else some false) >>=λQn=>some (bif t244 then Qn else false)) (Q/\P):=by
 obtain⟨r,rfl,h⟩:=c7;refine⟨q && r,by cases q <;> cases r <;> rfl,?_⟩
 grind
theorem azk{A:Bool}{ro L:Option Bool}{aql aqr aqp:Prop}(uJ:A=true↔aql)(ar:ry ro aqr)(ON:A=true -> ry L aqp):
 ry (some (!A) >>=λt107=>(if(!t107)=true then ro else some false) >>=λJB=>if(bif t107 then true else(!JB))=true then some false else L) (aql/\aqr/\aqp):=by
 obtain⟨q,rfl,ee⟩:=ar;cases A with
 | false=>refine⟨false,rfl,?_⟩;simp at uJ;simp[uJ]
 | true=>
  obtain⟨m,rfl,hm⟩:=ON rfl;cases q with
  | false=>refine⟨false,rfl,?_⟩;simp at ee;simp[ee]
  | true=>refine⟨m,rfl,?_⟩;simp at uJ ee;simp[uJ,ee,hm]
theorem azl{c:Bool}{ok V7 L:Option Bool}{aqm aqo aqn aqq:Prop}(ay:c=false↔aqm)(hk:ry ok aqo)(al:ry V7 aqn)(s4:ry L aqq):
 ry (some c >>=λt239=>(if(!t239)=true then ok else some false) >>=λXM=>some (bif t239 then true else(!XM)) >>=λt249=>(if(!t249)=true then V7 else some false) >>=λUS=>if(bif t249 then true else(!US))=true then some false else L) (aqm/\aqo/\aqn/\aqq):=by
 obtain⟨k,rfl,hk⟩:=hk;obtain⟨i,rfl,al⟩:=al;obtain⟨q,rfl,ee⟩:=s4;rw[<-ay,<-hk,<-al,<-ee];cases c <;> cases k <;> cases i <;> exact⟨_,rfl,by simp⟩
theorem aFp{l:List ri}{id:Int}{r:Int×Bool}(h:abT l id r):r.2=true↔∃y,y∈l/\y.bo=id:=by
 rcases h with⟨j,h1,ah,bJ,rfl⟩ | ⟨h1,rfl⟩
 . grind
 . constructor
   . grind
   . rintro ⟨y,b8,he⟩
     obtain⟨i,al,rfl⟩:=K' b8
     grind
section
variable {ts:List cm} (g':ts.length < 9223372036854775807) (k':∀t,t∈ts->vk t) (ns:∀t,t∈ts->SZ t.Kind)
include g' k' ns in
theorem WB{v:ao}(cJ:pI v):akt ts v:=by
 induction cJ with
 | mk v hs h1 ah bJ hk al Ph Ls K8 Nv Nw N2 Jp=>
  intro t pl;rw[NM];by_cases Qd:(bif decide (t < 0)then true else decide (((⟨ts⟩:gJ).Types.length:Int)<=t))=true
  . rw[b6 Qd];refine⟨false,rfl,?_⟩;rw[li]
    grind
  . rw[b' Qd];have tw:0<=t/\t < ts.length:=by grind
    obtain⟨j,rfl⟩:∃j:Nat,t=(j:Int):=⟨t.toNat,by omega⟩
    have dx:j < ts.length:=by omega
    rw[b6 (d4 dx)];simp only[li,o1,ao.d5];have aaL:=k' _ (oJ dx e1);have YX:=ns _ (oJ dx e1);generalize ts.getD j e1=x at aaL YX ⊢;have hm:=i4 (QG aaL.Nu);have acS:=i4 (QG aaL.syms);by_cases TC:v.Kind=x.Kind
    . obtain⟨z,z1,z2⟩:=aGY v;have aaA:=au' (ts:=ts) ah Jp;have aaC:=au' (ts:=ts) h1 N2;show ry ((if(!(!(decide (v.Kind=x.Kind))))=true then ZS v else some false) >>=_) _;rw[b6 (by simp[TC]),z1];obtain⟨K,N,L,H,M,S,hF,LJ,E,O⟩:=x;obtain⟨N6,B,k5,OG,bo,Jv,ob,R⟩:=v;simp only at TC;subst TC;simp only at YX hm acS h1 ah bJ z1
      have ai:(bif pl then decide (0 < (R.length:Int))else false)=false↔(pl=true->R=[]):=by simp_all
      have ay:N6=1\/N6=2\/N6=3\/N6=4\/N6=5\/N6=6\/N6=7\/N6=8\/N6=9:=by unfold SZ at YX;omega
      have cut : ∀ {o : Option Bool} {P W : Prop}, ry o P -> ((S' ⟨N6, B, k5, OG, bo, Jv, ob, R⟩ /\ (pl = true -> R = []) /\ P) ↔ W) ->
       ry (some z >>=λr=>if(bif (bif false then true else(!r))then true else bif pl then decide (0 < (R.length:Int))else false)=true then some false else o) W:=λc7 hw=>(azD z2 ai c7).imp hw
      have gA:(0:Int)<=j/\(j:Int) < ts.length:=tw;rcases ay with rfl | rfl | rfl | rfl | rfl | rfl | rfl | rfl | rfl
      . exact cut (P:=True) (.of (b:=true) (by simp)) (by unfold S';simp[gA];grind)
      . exact cut (P:=L<=k5/\k5<=H) (.of (b:=bif decide (L<=k5)then decide (k5<=H)else false) (by by_cases g:L<=k5 <;> simp[g])) (by unfold S';simp[gA];grind)
      . exact cut (P:=(OG.length:Int)<=M) (.of (b:=decide ((OG.length:Int)<=M)) (by simp)) (by unfold S';simp[gA];grind)
      . obtain⟨r,_,pK,c6⟩:=ahM (t:=⟨4,N,L,H,M,S,hF,LJ,E,O⟩) bo acS;have Q2:O0 (bo,false)=some (bif decide (1<=bo)then decide (bo<=1000)else false):=by rfl
        have ea:=aoS pK O pl _ (λb=>O0 (bo,b)) Q2;have hs:=aFp c6;simp only at hs;refine cut (P:=(∃y,y∈S/\y.bo=bo)\/O=true/\pl=false/\OE bo) ⟨_,ea,?_⟩ (by unfold S';simp[gA];grind);rw[<-hs];unfold OE
        grind
      . refine cut (P:=ob.length=hF.length/\aeC hF R/\Rj ts pl hF ob) ?_ (by
         have:Rj ts pl hF ob->ob.length=hF.length:=λh=>(Ud.1 h).1
         unfold S';simp[gA];grind)
        exact azk (A:=decide ((ob.length:Int)=(hF.length:Int))) (by simp;omega) (aGW (t:=⟨5,N,L,H,M,S,hF,LJ,E,O⟩) hm bJ) (λuJ=>aFo (ts:=ts) (t:=⟨5,N,L,H,M,S,hF,LJ,E,O⟩) (v:=⟨5,B,k5,OG,bo,Jv,ob,R⟩) (atk uJ) hm Jp pl)
      . obtain⟨r,_,pK,c6⟩:=Zu (t:=⟨6,N,L,H,M,S,hF,LJ,E,O⟩) bo hm;have Q2:∀b,b=false->O0 (bo,b)=some (bif decide (1<=bo)then decide (bo<=1000)else false):=by
         intro b ai;subst ai;rfl
        have ajb:decide ((R.length:Int)=1)=true->eh 0 R.length=true:=by
         intro h;have:=V3 h;exact d4 (k:=0) (by omega)
        refine cut (P:=match Og hF bo with
         | some m=>R=[]/\ob.length=1/\Nc ts pl m.ki ob
         | none=>O=true/\pl=false/\OE bo/\ob=[]/\∃d,R=[⟨bo,d⟩]) ?_ (by
          unfold S';simp[gA]
          grind)
        obtain⟨agQ,Zf⟩:=r;show ry (QB (⟨6,N,L,H,M,S,hF,LJ,E,O⟩,bo) >>=_) _;rw[pK];rcases arO c6 with⟨e,k,hg,hl,j2,px⟩ | ⟨e,j2⟩
        . simp only at e hg hl j2 px;subst e;subst hl;rw[j2];have Uy:∃f:Bool,((bif decide ((ob.length:Int)=1)then decide ((R.length:Int)=0)else false)=true->NM ((⟨ts⟩:gJ),(hF.getD (k:Int).toNat hL).ki,ob.getD (0:Int).toNat e2,pl)=some f)/\(ob.length=1->(f=true↔Nc ts pl (hF.getD k hL).ki ob)):=by
           by_cases J3:ob.length=1
           . obtain⟨f,f1,f2⟩:=Jp (ob.getD 0 e2) (oJ (by omega:0 < ob.length) e2) (hF.getD k hL).ki pl;refine⟨f,λ_=>f1,λ_=>?_⟩;rw[f2]
             match ob,J3 with
             | [y],_=>rw[OA];simp
           . refine⟨false,λh=>?_,λh=>absurd h J3⟩
             grind
          obtain⟨f,f1,f2⟩:=Uy;have ajg:(bif decide ((ob.length:Int)=1)then decide ((R.length:Int)=0)else false)=true->eh (k:Int) hF.length=true/\eh 0 ob.length=true:=by
           intro Om;refine⟨d4 hg,?_⟩;by_cases J3:ob.length=1
           . exact d4 (k:=0) (by omega)
           grind
          refine⟨_,aoT _ (eh (k:Int) hF.length) (eh 0 ob.length) f f1 ajg,?_⟩;by_cases g1:ob.length=1
          . simp_all
          grind
        . simp only at e j2;subst e;rw[j2];refine⟨_,aoU (bif O then(!pl)else false) (bif decide (1<=bo)then decide (bo<=1000)else false) (decide ((ob.length:Int)=0)) (decide ((R.length:Int)=1)) (eh 0 R.length) (decide ((R.getD (0:Int).toNat ka).bo=bo)) ajb,?_⟩;unfold OE
          match R with
          | []=>simp
          | [⟨aL1,rd⟩]=>cases O <;> cases pl <;> by_cases g1:1<=bo <;> by_cases g2:bo<=1000 <;> cases ob <;> by_cases g3:aL1=bo <;> simp[g1,g2,g3] <;> omega
          | a::b::c=>simp;omega
      . exact cut (P:=(ob.length:Int)<=M/\Nc ts pl E ob) (acm (by simp) (aaA E pl)) (by unfold S';simp[gA];grind)
      . refine cut (P:=((Jv.length:Int)<=M/\ob.length=Jv.length)/\Nc ts pl LJ Jv/\Nc ts pl E ob/\acd Jv) ?_ (by unfold S';simp[gA];grind);refine azl (c:=bif decide (M < (Jv.length:Int))then true else(!(decide ((ob.length:Int)=(Jv.length:Int))))) ?_ (aaC LJ pl) (aaA E pl) (aGX (v:=⟨8,B,k5,OG,bo,Jv,ob,R⟩) (i4 h1) hk)
        grind
      . exact cut (P:=ob.length<=1/\Nc ts pl E ob) (acm (q:=decide ((ob.length:Int)<=1)) (by simp;omega) (aaA E pl)) (by unfold S';simp[gA];grind)
    . refine⟨false,by simp[TC],?_⟩
      grind
end
theorem aee{α:Type}{l:List α}{i:Nat}(h:i < l.length)(d:α):l.drop i=l.getD i d::l.drop (i+1):=by simp_all
structure W5 (ts:List cm):Prop where
 n:ts.length<=1000
 T:∀t,t∈ts->vk t
 K:∀t,t∈ts->SZ t.Kind
 M:azd ts
 A:∀x,x∈ts->(x.Kind=5\/x.Kind=6)->U6 x.cy/\x.cy.length<=16
 S:∀x,x∈ts->x.Kind=4->∀y,y∈x.hq->OE y.bo
 adC:∀x,x∈ts->x.Kind=8->1<=(ts.getD x.Key.toNat e1).Kind/\(ts.getD x.Key.toNat e1).Kind<=4
theorem ry.XP{α:Type}{o:Option Bool}{a b:α}(h:JC o a b):ry o (a=b):=h
theorem amB{aaT V0 agr:Option Bool}{aqi aqj aqk:Prop}(h1:ry aaT aqi)(ah:ry V0 aqj)(bJ:ry agr aqk):
 ry (aaT >>=λLW=>(if LW=true then V0 else some false) >>=λapx=>some (bif LW then apx else false) >>=λt53=>(if t53=true then agr else some false) >>=λXN=>some (bif t53 then XN else false)) (aqi/\aqj/\aqk):=by
 obtain⟨a,rfl,h1⟩:=h1;obtain⟨b,rfl,ah⟩:=ah;obtain⟨c,rfl,bJ⟩:=bJ;rw[<-h1,<-ah,<-bJ];cases a <;> cases b <;> cases c <;> exact⟨_,rfl,by simp⟩
theorem awn{o:Option Bool}{P:Prop}(h:ry o P):ry (o >>=λr=>some r) P:=by grind
def Ya(union:Bool)(hF:List em):Prop:=(∀m,m∈hF->VM union m=false)/\(union=false\/0 < hF.length)/\U6 hF/\(∀m,m∈hF->nm m.Name=true)/\(hF.map (·.Name)).Nodup/\hF.length<=16
def aii(S:List ri):Prop:=0 < S.length/\(S.Pairwise (λa b=>a.bo < b.bo)/\∀y,y∈S->OE y.bo)/\(∀y,y∈S->nm y.Name=true)/\(S.map (·.Name)).Nodup/\S.length<=16
theorem aFq{l:List (List UInt8)}:l.Nodup↔∀i,i < l.length->(l.take i).contains (l.getD i [])=false:=by
 unfold List.Nodup;rw[ac9];constructor
 . intro h i al;apply Bool.eq_false_iff.2;intro ay;obtain⟨k,hk,he⟩:=(Yj (by omega)).1 ay
   grind
 . intro h k i YT al hk he;have:=h i al;rw[Bool.eq_false_iff]at this;apply this;refine(Yj (by omega)).2 ⟨k,hk,?_⟩
   grind
theorem aww{α:Type}(f:α->Int)(g:α->List UInt8)(d:α)(l:List α):(∀i,i < l.length->Qe (l.map f) (l.map g) i=true)↔(l.Pairwise (λa b=>f a < f b)/\∀x,x∈l->OE (f x))/\(∀x,x∈l->nm (g x)=true)/\(l.map g).Nodup:=by
 rw[ah8 f d,aFq];have key:∀i,i < l.length->(Qe (l.map f) (l.map g) i=true↔OE (f (l.getD i d))/\(i=0\/f (l.getD (i - 1) d) < f (l.getD i d))/\nm (g (l.getD i d))=true/\((l.map g).take i).contains ((l.map g).getD i [])=false):=by
  intro i al;unfold Qe OE
  grind
 constructor
 . intro h;refine⟨⟨λi al=>?_,λx aa=>?_⟩,λx aa=>?_,λi al=>?_⟩
   . grind
   . obtain⟨i,al,rfl⟩:=K' aa
     grind
   . obtain⟨i,al,rfl⟩:=K' aa
     grind
   grind
 . rintro ⟨⟨h1,ah⟩,bJ,ea⟩ i al
   refine(key i al).2 ⟨ah _ (oJ al d),?_,bJ _ (oJ al d),ea i (by simpa using al)⟩;by_cases h0:i=0
   . omega
   . right;have:=h1 (i - 1) (by omega);have e:i - 1+1=i:=by omega
     grind
theorem asB{t:cm}(h:vk t):ry (ZU t) ((∀m,m∈t.cy->VM (decide (t.Kind=6)) m=false)/\(t.Kind=5\/0 < t.cy.length)/\U6 t.cy/\(∀m,m∈t.cy->nm m.Name=true)/\(t.cy.map (·.Name)).Nodup/\t.cy.length<=16):=by
 obtain⟨r,h1,ah⟩:=ath h;refine⟨r,h1,ah.trans ?_⟩;rw[aww (λm:em=>m.bo) (λm:em=>m.Name) hL];have e:(∀i,i < t.cy.length->VM (decide (t.Kind=6)) (t.cy.getD i hL)=false)↔∀m,m∈t.cy->VM (decide (t.Kind=6)) m=false:=by
  constructor
  . intro h m hm;obtain⟨i,al,rfl⟩:=K' hm
    grind
  grind
 rw[e];unfold U6
 grind
theorem aGZ{l:List ri}(aJ:l.length*24<=reachBytes):ry (PP l) (aii l):=by
 obtain⟨r,h1,ah⟩:=awu aJ;refine⟨r,h1,ah.trans ?_⟩;rw[aww (λm:ri=>m.bo) (λm:ri=>m.Name) wm];unfold aii
 grind
def LI(t:cm):Prop:=
 (t.Kind=1/\t.Name=[]/\t.jb=0/\t.i'=0/\t.Max=0/\t.hq=[]/\t.cy=[]/\t.Key=0/\t.hZ=0/\t.Open=false)\/
 (t.Kind=2/\t.Name=[]/\t.jb<=t.i'/\t.Max=0/\t.hq=[]/\t.cy=[]/\t.Key=0/\t.hZ=0/\t.Open=false)\/
 (t.Kind=3/\t.Name=[]/\t.jb=0/\t.i'=0/\(0<=t.Max/\t.Max<=200)/\t.hq=[]/\t.cy=[]/\t.Key=0/\t.hZ=0/\t.Open=false)\/
 (t.Kind=4/\nm t.Name=true/\t.jb=0/\t.i'=0/\t.Max=0/\aii t.hq/\t.cy=[]/\t.Key=0/\t.hZ=0)\/
 (t.Kind=5/\nm t.Name=true/\t.jb=0/\t.i'=0/\t.Max=0/\t.hq=[]/\Ya false t.cy/\t.Key=0/\t.hZ=0/\t.Open=false)\/
 (t.Kind=6/\nm t.Name=true/\t.jb=0/\t.i'=0/\t.Max=0/\t.hq=[]/\Ya true t.cy/\t.Key=0/\t.hZ=0)\/
 (t.Kind=7/\t.Name=[]/\t.jb=0/\t.i'=0/\(0<=t.Max/\t.Max<=50)/\t.hq=[]/\t.cy=[]/\t.Key=0/\t.Open=false)\/
 (t.Kind=8/\t.Name=[]/\t.jb=0/\t.i'=0/\(0<=t.Max/\t.Max<=50)/\t.hq=[]/\t.cy=[]/\t.Open=false)\/
 (t.Kind=9/\t.Name=[]/\t.jb=0/\t.i'=0/\t.Max=0/\t.hq=[]/\t.cy=[]/\t.Key=0/\t.Open=false)
theorem aG0{t:cm}(h:vk t):ry (Lu t) (LI t):=by
 have gA:vk (⟨0,[],0,0,0,[],[],0,0,false⟩:cm):=⟨by simp,by simp,by simp⟩
 obtain⟨Oa,N,L,H,M,S,hF,K,E,O⟩:=t;have c8:=h.syms;have YL:=h.Nu;have a6:=h.QV;simp only at c8 YL a6;by_cases hg:Oa=1
 . subst hg;have a:=OC (a:=(⟨0,N,L,H,M,S,hF,K,E,O⟩:cm)) ⟨c8,YL,a6⟩ (⟨0,[],0,0,0,[],[],0,0,false⟩:cm);refine(awn (ry.XP a)).imp ?_;unfold LI;simp
 by_cases hl:Oa=2
 . subst hl;have a:=OC (a:=(⟨0,N,0,0,M,S,hF,K,E,O⟩:cm)) ⟨c8,YL,a6⟩ (⟨0,[],0,0,0,[],[],0,0,false⟩:cm);refine(acm (q:=decide (L<=H)) (Q:=L<=H) (by simp) (ry.XP a)).imp (Q:=LI ⟨2,N,L,H,M,S,hF,K,E,O⟩) ?_;unfold LI
   grind
 by_cases j2:Oa=3
 . subst j2;have a:=OC (a:=(⟨0,N,L,H,0,S,hF,K,E,O⟩:cm)) ⟨c8,YL,a6⟩ (⟨0,[],0,0,0,[],[],0,0,false⟩:cm);refine(acm (q:=bif decide (0<=M)then decide (M<=200)else false) (Q:=0<=M/\M<=200) (by by_cases g:0<=M <;> simp[g]) (ry.XP a)).imp (Q:=LI ⟨3,N,L,H,M,S,hF,K,E,O⟩) ?_;unfold LI
   grind
 by_cases px:Oa=4
 . subst px;have a:=OC (a:=(⟨0,[],L,H,M,[],hF,K,E,false⟩:cm)) ⟨by simp,YL,a6⟩ (⟨0,[],0,0,0,[],[],0,0,false⟩:cm);refine(amB (⟨nm N,aaQ N,Iff.rfl⟩:ry (Ry N) (nm N=true)) (aGZ c8) (ry.XP a)).imp (Q:=LI ⟨4,N,L,H,M,S,hF,K,E,O⟩) ?_;unfold LI
   grind
 by_cases mJ:Oa=5
 . subst mJ;have a:=OC (a:=(⟨0,[],L,H,M,S,[],K,E,bif O then decide ((5:Int)=5)else false⟩:cm)) ⟨c8,by simp,by simp⟩ (⟨0,[],0,0,0,[],[],0,0,false⟩:cm);refine(amB (⟨nm N,aaQ N,Iff.rfl⟩:ry (Ry N) (nm N=true)) (asB h) (ry.XP a)).imp (Q:=LI ⟨5,N,L,H,M,S,hF,K,E,O⟩) ?_;unfold LI Ya
   grind
 by_cases nJ:Oa=6
 . subst nJ;have a:=OC (a:=(⟨0,[],L,H,M,S,[],K,E,bif O then decide ((6:Int)=5)else false⟩:cm)) ⟨c8,by simp,by simp⟩ (⟨0,[],0,0,0,[],[],0,0,false⟩:cm);refine(amB (⟨nm N,aaQ N,Iff.rfl⟩:ry (Ry N) (nm N=true)) (asB h) (ry.XP a)).imp (Q:=LI ⟨6,N,L,H,M,S,hF,K,E,O⟩) ?_;unfold LI Ya
   grind
 by_cases Su:Oa=7
 . subst Su;have a:=OC (a:=(⟨0,N,L,H,0,S,hF,K,0,O⟩:cm)) ⟨c8,YL,a6⟩ (⟨0,[],0,0,0,[],[],0,0,false⟩:cm);refine(acm (q:=bif decide (0<=M)then decide (M<=50)else false) (Q:=0<=M/\M<=50) (by by_cases g:0<=M <;> simp[g]) (ry.XP a)).imp (Q:=LI ⟨7,N,L,H,M,S,hF,K,E,O⟩) ?_;unfold LI
   grind
 by_cases ax0:Oa=8
 . subst ax0;have a:=OC (a:=(⟨0,N,L,H,0,S,hF,0,0,O⟩:cm)) ⟨c8,YL,a6⟩ (⟨0,[],0,0,0,[],[],0,0,false⟩:cm);refine(acm (q:=bif decide (0<=M)then decide (M<=50)else false) (Q:=0<=M/\M<=50) (by by_cases g:0<=M <;> simp[g]) (ry.XP a)).imp (Q:=LI ⟨8,N,L,H,M,S,hF,K,E,O⟩) ?_;unfold LI
   grind
 by_cases ax2:Oa=9
 . subst ax2;have a:=OC (a:=(⟨0,N,L,H,M,S,hF,K,0,O⟩:cm)) ⟨c8,YL,a6⟩ (⟨0,[],0,0,0,[],[],0,0,false⟩:cm);refine(awn (ry.XP a)).imp (Q:=LI ⟨9,N,L,H,M,S,hF,K,E,O⟩) ?_;unfold LI;simp
 refine⟨false,by simp[Lu,hg,hl,j2,px,mJ,nJ,Su,ax0,ax2],?_⟩;unfold LI
 grind
structure VD (ts:List cm):Prop where
 n:ts.length<=32
 F:∀t,t∈ts->LI t
 D:∀i,i < ts.length->(!(decide ((ts.getD i e1).Name=[])) && ((ts.map (·.Name)).take i).contains (ts.getD i e1).Name)=false
 U:∀t,t∈ts->∀u,u∈LF t->0<=u/\u < ts.length
 adC:∀t,t∈ts->t.Kind=8->1<=(ts.getD t.Key.toNat e1).Kind/\(ts.getD t.Key.toNat e1).Kind<=4
theorem atl{ts:List cm}(k':∀t,t∈ts -> vk t){i:Nat}(al:i < ts.length):XQ ts i=none↔LI (ts.getD i e1) /\ (!(decide ((ts.getD i e1).Name=[])) && ((ts.map (·.Name)).take i).contains (ts.getD i e1).Name)=false /\ (∀u,u∈LF (ts.getD i e1) -> 0 <=u /\ u < ts.length) /\
 ((ts.getD i e1).Kind=8->1<=(ts.getD (ts.getD i e1).Key.toNat e1).Kind/\(ts.getD (ts.getD i e1).Key.toNat e1).Kind<=4):=by
 obtain⟨r,f1,f2⟩:=aG0 (k' _ (oJ al e1));rw[alZ rfl f1,<-f2];have hu:(LF (ts.getD i e1)).any (SK ts.length)=false↔∀u,u∈LF (ts.getD i e1)->0<=u/\u < ts.length:=by
  rw[ape];constructor
  . intro h u hu;have:=h u hu;unfold SK at this
    grind
  . intro h u hu;have:=h u hu;unfold SK
    grind
 rw[<-hu];generalize (LF (ts.getD i e1)).any (SK ts.length)=b;generalize (!(decide ((ts.getD i e1).Name=[])) && ((ts.map (·.Name)).take i).contains (ts.getD i e1).Name)=c
 have hk:(decide ((ts.getD i e1).Kind=8) && !(aaP (ts.getD (ts.getD i e1).Key.toNat e1).Kind))=false↔((ts.getD i e1).Kind=8->1<=(ts.getD (ts.getD i e1).Key.toNat e1).Kind/\(ts.getD (ts.getD i e1).Key.toNat e1).Kind<=4):=by
  unfold aaP
  grind
 rw[<-hk];generalize (decide ((ts.getD i e1).Kind=8) && !(aaP (ts.getD (ts.getD i e1).Key.toNat e1).Kind))=d;cases r <;> cases b <;> cases c <;> cases d <;> simp
theorem avW{ts:List cm}(k':∀t,t∈ts->vk t)(awR:ts.length<=32)(h:∀i,i < ts.length->XQ ts i=none):VD ts:=by
 have key:=λi al=>(atl k' (i:=i) al).1 (h i al)
 have lift:∀{P:cm->Prop},(∀i,i < ts.length->P (ts.getD i e1))->∀t,t∈ts->P t:=λa7 t ht=>by
  obtain⟨i,al,rfl⟩:=K' ht
  grind
 exact⟨awR,lift λi al=>(key i al).1,λi al=>(key i al).2.1,lift λi al=>(key i al).2.2.1,lift λi al=>(key i al).2.2.2⟩
theorem aix{ts:List cm}(k':∀t,t∈ts->vk t)(h:VD ts):aby (⟨ts⟩:gJ)=some 0/\X1 (⟨ts⟩:gJ)=some 0:=by
 obtain⟨e,h1,ah,_,ea,_⟩:=akU (s:=⟨ts⟩) (by have:=h.n;unfold reachBytes;show ts.length<=_;omega) k';have vK:e=0:=ea ⟨h.n,λi al=>(atl k' al).2 ⟨h.F _ (oJ al e1),h.D i al,h.U _ (oJ al e1),h.adC _ (oJ al e1)⟩⟩
 grind
theorem VD.Re{ts:List cm}(k':∀t,t∈ts->vk t)(h:VD ts):W5 ts:=by
 refine⟨by have:=h.n;omega,k',λt ht=>?_,λt ht m hm=>?_,λt ht hk=>?_,λt ht hk y b8=>?_,h.adC⟩
 . have:=h.F t ht;unfold LI at this;unfold SZ;omega
 . have:=h.F t ht;unfold LI at this;have hv:t.cy≠[]:=by intro e;rw[e]at hm;cases hm
   have:Ya false t.cy\/Ya true t.cy:=by grind
   rcases this with a | a
   . exact(a.2.2.1.2 m hm).2
   . exact(a.2.2.1.2 m hm).2
 . have:=h.F t ht;unfold LI at this;have:Ya false t.cy\/Ya true t.cy:=by grind
   rcases this with a | a
   . exact⟨a.2.2.1,a.2.2.2.2.2⟩
   . exact⟨a.2.2.1,a.2.2.2.2.2⟩
 . have:=h.F t ht;unfold LI at this;have:aii t.hq:=by grind
   exact this.2.1.2 y b8
theorem ava{v:ao}(aJ:v.e0.length<=reachBytes)(ih:∀x,x∈v.e0->∃n,Ve x=some n):∀(k i:Nat) (n:Int),i+k=v.e0.length->∃m,ZF (n,(i:Int),v)=some (m,v)
 | 0,i,n,al=>⟨n,by rw[ZF,b' (by simp;omega),ao.d5]⟩
 | k+1,i,n,al=>by
  have ey:i < v.e0.length:=by omega
  have ar:=i4 aJ;obtain⟨a,ch⟩:=ih _ (oJ ey e2);obtain⟨m,hm⟩:=ava aJ ih k (i+1) (hO .i64 n a) (by omega);refine⟨m,?_⟩;rw[ZF,b6 (by simp;omega),b6 (d4 ey)];simp only[o1,ao.d5];rw[ch];simp only[h',eg];rw[pv (by omega),hm]
theorem avb{v:ao}(aJ:v.b9.length<=reachBytes)(ih:∀x,x∈v.b9->∃n,Ve x=some n):∀(k i:Nat) (n:Int),i+k=v.b9.length->∃m,ZG (n,(i:Int),v)=some (m,v)
 | 0,i,n,al=>⟨n,by rw[ZG,b' (by simp;omega),ao.d5]⟩
 | k+1,i,n,al=>by
  have ey:i < v.b9.length:=by omega
  have ar:=i4 aJ;obtain⟨a,ch⟩:=ih _ (oJ ey e2);obtain⟨m,hm⟩:=avb aJ ih k (i+1) (hO .i64 n a) (by omega);refine⟨m,?_⟩;rw[ZG,b6 (by simp;omega),b6 (d4 ey)];simp only[o1,ao.d5];rw[ch];simp only[h',eg];rw[pv (by omega),hm]
theorem avc{v:ao}(aJ:v.Rest.length<=reachBytes):∀(k i:Nat) (n:Int),i+k=v.Rest.length->∃m,XX (n,(i:Int),v)=some m
 | 0,i,n,al=>⟨n,by rw[XX,b' (by simp;omega)]⟩
 | k+1,i,n,al=>by
  have ey:i < v.Rest.length:=by omega
  have ar:=i4 aJ;obtain⟨m,hm⟩:=avc aJ k (i+1) (hO .i64 (hO .i64 n 1) ((v.Rest.getD i ka).Data.length:Int)) (by omega);refine⟨m,?_⟩;rw[XX,b6 (by simp;omega),b6 (d4 ey)];simp only[o1,ao.d5];rw[pv (by omega),hm]
theorem aL7{v:ao}(cJ:pI v):∃n,Ve v=some n:=by
 induction cJ with
 | mk v hs h1 ah bJ hk al Ph Ls K8 Nv Nw N2 Jp=>
  obtain⟨a,ch⟩:=ava h1 N2 v.e0.length 0 (hO .i64 1 (v.hG.length:Int)) (by omega);obtain⟨b,ai⟩:=avb ah Jp v.b9.length 0 a (by omega);obtain⟨c,ay⟩:=avc bJ v.Rest.length 0 b (by omega);have afB:ZF (hO .i64 1 (v.hG.length:Int),0,v)=_:=ch;have LO:ZG (a,0,v)=_:=ai;have Om:XX (b,0,v)=_:=ay;refine⟨c,?_⟩;rw[Ve];simp only[ao.d5];rw[afB]
  simp only[h',eg,ao.d5];rw[LO];simp only[eg,ao.d5];rw[Om];rfl
theorem avX{ts:List cm}{t:cm}(ht:vk t)(i2:Int):∀(k i:Nat) (n:Int),i+k=min t.cy.length 100->∃m,X7 (n,i2,(i:Int),ts,t)=some (m,i2,ts)
 | 0,i,n,al=>⟨n,by
  rw[X7,b'];intro h;by_cases g:(i:Int) < (t.cy.length:Int)
  . simp[g]at h;omega
  . simp[g]at h⟩
 | k+1,i,n,al=>by
  have ey:i < t.cy.length:=by omega
  obtain⟨a,ch⟩:=aL7 (ht.QV _ (oJ ey hL));obtain⟨m,hm⟩:=avX ht i2 k (i+1) (hO .i64 (hO .i64 n a) ((t.cy.getD i hL).Name.length:Int)) (by omega);refine⟨m,?_⟩
  rw[X7,b6 (by
   have g:(i:Int) < (t.cy.length:Int):=by omega
   simp[g];omega),b6 (d4 ey)]
  simp only[o1,ao.d5];rw[ch];simp only[h',eg];rw[b6 (d4 ey),pv (by omega),hm]
theorem avY{ts:List cm}(g':ts.length<=reachBytes)(k':∀t,t∈ts->vk t):∀(k i:Nat) (n:Int),i+k=ts.length->∃m,XZ (n,(i:Int),ts)=some m
 | 0,i,n,al=>⟨n,by rw[XZ,b' (by simp;omega)]⟩
 | k+1,i,n,al=>by
  have ey:i < ts.length:=by omega
  have ar:=i4 g';have ht:=k' _ (oJ ey e1);obtain⟨a,ch⟩:=avX (ts:=ts) ht (i:Int) (min (ts.getD i e1).cy.length 100) 0 (hO .i64 (hO .i64 (hO .i64 n ((ts.getD i e1).cy.length:Int)) ((ts.getD i e1).hq.length:Int)) ((ts.getD i e1).Name.length:Int)) (by omega);obtain⟨m,hm⟩:=avY g' k' k (i+1) a (by omega);refine⟨m,?_⟩
  rw[XZ,b6 (by simp;omega),b6 (d4 ey)];simp only[h',eg,o1];have afB:X7 (hO .i64 (hO .i64 (hO .i64 n ((ts.getD i e1).cy.length:Int)) ((ts.getD i e1).hq.length:Int)) ((ts.getD i e1).Name.length:Int),(i:Int),0,ts,ts.getD i e1)=_:=ch;rw[afB];simp only[eg];rw[pv (by omega),hm]
theorem aG1{s:gJ}(g':s.Types.length<=reachBytes)(k':∀t,t∈s.Types->vk t):∃b,ahZ s=some b:=by
 rw[ahZ];by_cases h:decide (40 < (s.Types.length:Int))=true
 . exact⟨false,by rw[b6 h]⟩
 . obtain⟨m,hm⟩:=avY g' k' s.Types.length 0 0 (by omega);have Si:XZ (0,0,s.Types)=some m:=hm;rw[b' h,Si];exact⟨_,rfl⟩
def aa5(l:List C2):Nat:=(l.map λx=>x.Data.length).sum
theorem aHK(l:List C2):(l.map λx=>x.Data.length+1).sum=aa5 l+l.length:=by
 unfold aa5
 induction l with
 | nil=>rfl
 | cons a l ih=>simp only[Q9,List.sum_cons,TI];omega
def Left(n:Int)(w:Nat)(m:Int):Prop:=m<=n/\-1000000000000000<=m/\(0<=m->(w:Int)+m<=n)
theorem avd{v:ao}(aJ:v.Rest.length<=reachBytes)(a6:∀x,x∈v.Rest->x.Data.length<=reachBytes):∀(k i:Nat) (n:Int),i+k=v.Rest.length->n<=3000->-1000000000000000<=n->∃m,XY (n,(i:Int),v)=some (m,v)/\Left n (aa5 (v.Rest.drop i)) m
 | 0, i, n, al, bJ, hm => ⟨n, by
  rw[XY,b',ao.d5];intro h;have g:¬(i:Int) < (v.Rest.length:Int):=by omega
  simp[g]at h,by
  rw[Q6 (by omega:v.Rest.length<=i)]
  exact⟨by omega,hm,λ_=>by simp[aa5]⟩⟩
 | k+1,i,n,al,bJ,hm=>by
  have ey:i < v.Rest.length:=by omega
  have ar:=i4 aJ;have NW:=a6 _ (oJ ey ka);unfold reachBytes at NW;have g:(i:Int) < (v.Rest.length:Int):=by omega
  rw[XY];by_cases h0:0<=n
  . rw[b6 (by simp[g,h0]),b6 (d4 ey)];simp only[o1,ao.d5];rw[aeR (by omega) (by omega),pv (by omega)];obtain⟨m,m1,m2,m3,m4⟩:=avd aJ a6 k (i+1) (n - ((v.Rest.getD i ka).Data.length:Int)) (by omega) (by omega) (by omega);refine⟨m,m1,by omega,m3,λh=>?_⟩;have:=m4 h;rw[aee ey ka]
    have e:aa5 (v.Rest.getD i ka::v.Rest.drop (i+1))=(v.Rest.getD i ka).Data.length+aa5 (v.Rest.drop (i+1)):=by unfold aa5;simp only[Q9,List.sum_cons]
    rw[e];omega
  . refine⟨n,?_,by omega,hm,λh=>absurd h h0⟩;rw[b' (by simp[g,h0]),ao.d5]
theorem ave{v:ao}(aJ:v.e0.length<=reachBytes)(ih:∀x,x∈v.e0->∀n,0<=n->n<=3000->∃m,Vf (x,n)=some m/\Left n (wt x) m):∀(k i:Nat) (n:Int),i+k=v.e0.length->n<=3000->-1000000000000000<=n->∃m,ZH (n,(i:Int),v)=some (m,v)/\Left n (KW (v.e0.drop i)) m
 | 0, i, n, al, bJ, hm => ⟨n, by
  rw[ZH,b',ao.d5];intro h;have g:¬(i:Int) < (v.e0.length:Int):=by omega
  simp[g]at h,by
  rw[Q6 (by omega:v.e0.length<=i),awv]
  exact⟨by omega,hm,λ_=>by simp⟩⟩
 | k+1,i,n,al,bJ,hm=>by
  have ey:i < v.e0.length:=by omega
  have ar:=i4 aJ;have g:(i:Int) < (v.e0.length:Int):=by omega
  rw[ZH];by_cases h0:0<=n
  . obtain⟨a,a1,a2,a3,a4⟩:=ih _ (oJ ey e2) n h0 bJ;rw[b6 (by simp[g,h0]),b6 (d4 ey)];simp only[o1,ao.d5];rw[a1];simp only[h',eg];rw[pv (by omega)];obtain⟨m,m1,m2,m3,m4⟩:=ave aJ ih k (i+1) a (by omega) (by omega) (by omega);refine⟨m,m1,by omega,m3,λh=>?_⟩;have:=m4 h;have:=a4 (by omega);rw[aee ey e2,ab4];omega
  . refine⟨n,?_,by omega,hm,λh=>absurd h h0⟩;rw[b' (by simp[g,h0]),ao.d5]
theorem avf{v:ao}(aJ:v.b9.length<=reachBytes)(ih:∀x,x∈v.b9->∀n,0<=n->n<=3000->∃m,Vf (x,n)=some m/\Left n (wt x) m):∀(k i:Nat) (n:Int),i+k=v.b9.length->n<=3000->-1000000000000000<=n->∃m,ZI (n,(i:Int),v)=some m/\Left n (KW (v.b9.drop i)) m
 | 0, i, n, al, bJ, hm => ⟨n, by
  rw[ZI,b'];intro h;have g:¬(i:Int) < (v.b9.length:Int):=by omega
  simp[g]at h,by
  rw[Q6 (by omega:v.b9.length<=i),awv]
  exact⟨by omega,hm,λ_=>by simp⟩⟩
 | k+1,i,n,al,bJ,hm=>by
  have ey:i < v.b9.length:=by omega
  have ar:=i4 aJ;have g:(i:Int) < (v.b9.length:Int):=by omega
  rw[ZI];by_cases h0:0<=n
  . obtain⟨a,a1,a2,a3,a4⟩:=ih _ (oJ ey e2) n h0 bJ;rw[b6 (by simp[g,h0]),b6 (d4 ey)];simp only[o1,ao.d5];rw[a1];simp only[h',eg];rw[pv (by omega)];obtain⟨m,m1,m2,m3,m4⟩:=avf aJ ih k (i+1) a (by omega) (by omega) (by omega);refine⟨m,m1,by omega,m3,λh=>?_⟩;have:=m4 h;have:=a4 (by omega);rw[aee ey e2,ab4];omega
  . refine⟨n,?_,by omega,hm,λh=>absurd h h0⟩;rw[b' (by simp[g,h0])]
theorem aL8{v:ao}(cJ:pI v):∀n:Int,0<=n->n<=3000->∃m,Vf (v,n)=some m/\Left n (wt v) m:=by
 induction cJ with
 | mk v hs h1 ah bJ hk al Ph Ls K8 Nv Nw N2 Jp=>
  intro n h0 g';have e':hO .i64 (hO .i64 10 (v.hG.length:Int)) (v.Rest.length:Int)=((10+v.hG.length+v.Rest.length:Nat):Int):=by
   have a1:=i4 hs;have a2:=i4 bJ;unfold reachBytes at hs bJ;have:hO .i64 10 (v.hG.length:Int)=((10+v.hG.length:Nat):Int):=au2 (a:=10) (by omega);rw[this,au2 (by omega)]
  unfold reachBytes at hs;have aaw:=bJ;unfold reachBytes at aaw;have hf:Lx .i64 n ((10+v.hG.length+v.Rest.length:Nat):Int)=n - ((10+v.hG.length+v.Rest.length:Nat):Int):=aeR (by omega) (by omega);obtain⟨a,a1,a2,a3,a4⟩:=avd bJ Ph v.Rest.length 0 (n - ((10+v.hG.length+v.Rest.length:Nat):Int)) (by omega) (by omega) (by omega)
  obtain⟨b,b1,b2,b3,b4⟩:=ave h1 N2 v.e0.length 0 a (by omega) (by omega) (by omega);obtain⟨c,h5,js,yt,Np⟩:=avf ah Jp v.b9.length 0 b (by omega) (by omega) (by omega);have azi:XY (n - ((10+v.hG.length+v.Rest.length:Nat):Int),0,v)=_:=a1;have azv:ZH (a,0,v)=_:=b1;have amH:ZI (b,0,v)=_:=h5;refine⟨c,?_,by omega,yt,λh=>?_⟩
  . rw[Vf];simp only[ao.d5];rw[e',hf,azi];simp only[h',eg,ao.d5];rw[azv];simp only[eg,ao.d5];rw[amH];rfl
  . have:=Np h;have:=b4 (by omega);have:=a4 (by omega);rw[ads,aHK]
    grind
theorem arP{v:ao}(cJ:pI v):∃b,adF v=some b/\(b=true->wt v<=3000):=by
 obtain⟨m,m1,m2,m3,m4⟩:=aL8 cJ 3000 (by omega) (by omega);rw[adF];simp only[ao.d5];rw[m1];refine⟨decide (0<=m),rfl,λh=>?_⟩;have h0:0<=m:=V3 h;have:=m4 h0;omega
theorem arQ{ts:List cm}(g':ts.length < 9223372036854775807)(k':∀t,t∈ts->vk t)(ns:∀t,t∈ts->SZ t.Kind){v:ao}(cJ:pI v)(t:Int):ry (Va ((⟨ts⟩:gJ),t,v)) (qj ts true t v):=by
 obtain⟨r,h1,ah⟩:=WB g' k' ns cJ t true;refine⟨r,?_,ah⟩;rw[Va];simp only[ao.d5];rw[h1];rfl
def WJ(ts:List cm)(ms:List em):Prop:=∀m,m∈ms->m.x'=true->qj ts true m.ki m.oo
theorem awx{ts:List cm}(g':ts.length < 9223372036854775807)(k':∀t,t∈ts -> vk t)(ns:∀t,t∈ts -> SZ t.Kind){ms:List em}(hm:∀m,m∈ms -> pI m.oo)(aJ:ms.length <=reachBytes)(t2:Int):
 ∀(k i:Nat),i+k=ms.length->(U1 (t2,ms,(i:Int),ts)=some (.inr (t2,ts))/\WJ ts (ms.drop i))\/(∃e,U1 (t2,ms,(i:Int),ts)=some (.inl (t2,e,1))/\¬WJ ts (ms.drop i))
 | 0, i, al => .inl ⟨by rw [U1, b' (by simp; omega)], by
  rw[Q6 (by omega:ms.length<=i)]
  intro m hm;cases hm⟩
 | k+1,i,al=>by
  have ey:i < ms.length:=by omega
  have ar:=i4 aJ;have K6:=oJ ey hL;obtain⟨r,kJ,pK⟩:=arQ g' k' ns (hm _ K6) (ms.getD i hL).ki;rw[U1,b6 (by simp;omega),b6 (d4 ey)];simp only[h',eg,o1,ao.d5];rw[b6 (by rw[d4 ey];rfl),b6 (by rw[d4 ey];rfl),kJ];have ih:=awx g' k' ns hm aJ t2 k (i+1) (by omega);rw[aee ey hL]
  have aJZ:WJ ts (ms.getD i hL::ms.drop (i+1))↔((ms.getD i hL).x'=true->qj ts true (ms.getD i hL).ki (ms.getD i hL).oo)/\WJ ts (ms.drop (i+1)):=by
   unfold WJ;constructor
   . intro h;exact⟨h _ (.head _),λm hm=>h m (.tail _ hm)⟩
   . rintro ⟨h1,ah⟩ m hm
     rcases LU.1 hm with rfl | hm
     . exact h1
     . exact ah m hm
  rw[aJZ,<-pK];cases a6:(ms.getD i hL).x' with
  | false=>
   simp only[u1,vv,eg,XL];rw[pv (by omega)];rcases ih with⟨h1,ah⟩ | ⟨e,h1,ah⟩
   . exact .inl ⟨h1,λh=>h.elim,ah⟩
   . exact .inr ⟨e,h1,λh=>ah h.2⟩
  | true=>
   cases r with
   | true=>
    simp only[q',eg,cond_true,Po,u1,vv];rw[pv (by omega)];rcases ih with⟨h1,ah⟩ | ⟨e,h1,ah⟩
    . exact .inl ⟨h1,λ_=>trivial,ah⟩
    . exact .inr ⟨e,h1,λh=>ah h.2⟩
   | false=>
    simp only[q',eg,cond_true,Ov];rw[b6 (d4 ey)];exact .inr ⟨_,rfl,λh=>absurd (h.1 trivial) (by simp)⟩
theorem awy{ts:List cm}(g':ts.length < 9223372036854775807)(k':∀t,t∈ts -> vk t)(ns:∀t,t∈ts -> SZ t.Kind):
 ∀(k i:Nat),i+k=ts.length->(Vx ((i:Int),ts)=some (.inr ())/\∀t,t∈ts.drop i->WJ ts t.cy)\/(∃a e,Vx ((i:Int),ts)=some (.inl (a,e,1))/\¬∀t,t∈ts.drop i->WJ ts t.cy)
 | 0,i,al=>.inl ⟨by rw[Vx,b' (by simp;omega)],by grind⟩
 | k+1,i,al=>by
  have ey:i < ts.length:=by omega
  have ht:=k' _ (oJ ey e1);have h0:=awx g' k' ns ht.QV (QG ht.Nu) (i:Int) (ts.getD i e1).cy.length 0 (by omega);simp only[UM]at h0;have ih:=awy g' k' ns k (i+1) (by omega);rw[aee ey e1,Vx,b6 (by simp;omega),b6 (d4 ey)];simp only[o1];rcases h0 with⟨h1,ah⟩ | ⟨e,h1,ah⟩
  . have J3:U1 ((i:Int),(ts.getD i e1).cy,0,ts)=_:=h1;rw[J3];simp only[h',eg];rw[pv (by omega)];rcases ih with⟨g1,g2⟩ | ⟨a,e,g1,g2⟩
    . refine .inl ⟨g1,λt ht=>?_⟩;rcases LU.1 ht with rfl | ht
      . exact ah
      . exact g2 t ht
    . exact .inr ⟨a,e,g1,λh=>g2 λt ht=>h t (.tail _ ht)⟩
  . have J3:U1 ((i:Int),(ts.getD i e1).cy,0,ts)=_:=h1;rw[J3];exact .inr ⟨_,_,rfl,λh=>ah (h _ (.head _))⟩
theorem aFr{s:gJ}(g':s.Types.length<=reachBytes)(k':∀t,t∈s.Types->vk t){e:Int}(cJ:X1 s=some e)(he:e=0->VD s.Types):∃r,ahT s=some r/\(e=0->(r.2.2=0↔∀t,t∈s.Types->WJ s.Types t.cy)):=by
 rw[ahT,cJ];simp only[h',eg];by_cases h0:e=0
 . have PH:=he h0;have c8:=PH.Re k';rw[b' (by simp[h0])];have:=awy (by have:=PH.n;omega) k' c8.K s.Types.length 0 (by omega);simp only[UM]at this;rcases this with⟨h1,ah⟩ | ⟨a,qa,h1,ah⟩
   . have J3:Vx (0,s.Types)=_:=h1;rw[J3];exact⟨_,rfl,λ_=>⟨λ_=>ah,λ_=>rfl⟩⟩
   . have J3:Vx (0,s.Types)=_:=h1;rw[J3];exact⟨_,rfl,λ_=>⟨λh=>absurd h (by simp),λh=>absurd h ah⟩⟩
 . rw[b6 (by simp[h0])];exact⟨_,rfl,λh=>absurd h h0⟩
theorem aLJ{t:c9}{x:t.den oi.D}(h:Ok oi [t] x):∀d,d∈t.row oi x->WF oi d:=λd a6=>h ⟨t,x⟩ (ajG ..) d a6
theorem aI4{t u:c9}{r:List c9}{h:d' oi.D (t::u::r)}(hk:Ok oi (t::u::r) h):∀d,d∈t.row oi h.1->WF oi d:=λd a6=>hk ⟨t,h.1⟩ (ajG ..) d a6
theorem avZ{t u:c9}{r:List c9}{h:d' oi.D (t::u::r)}(hk:Ok oi (t::u::r) h):Ok oi (u::r) h.2:=λc ay d a6=>hk c (ajY _ ay) d a6
abbrev S9 :=WZ
abbrev amP :=arb
def W6(x:Int):Prop:=0<=x/\x<=255
structure akx (x:S9):Prop where
 k:W6 x.Kind
 a:W6 x.A
 b:W6 x.B
 c:W6 x.C
 p:∀q,q∈x.ahl->W6 q.bo/\W6 q.ki/\W6 q.aku
 l:x.ahl.length<=reachBytes
def Qh(s0:List S9)(i:Int):Int:=1+(s0.getD i.toNat amP).Kind % 9
section
variable {s0:List S9} (q6:∀x,x∈s0->akx x) (hi:s0.length<=5)
def azg(s0:List S9)(i u:Int):Prop:=0<=u/\u < s0.length/\(7<=Qh s0 u\/u < i)
def akv(s0:List S9)(u:Int):Prop:=0<=u/\u < s0.length/\1<=Qh s0 u/\Qh s0 u<=4
def axX(x:S9):List Int:=(aCt x).getD []
def azb(k:Int)(x:S9)(key:Prop)(v:ao):Prop:=
 v.e0=[]/\v.b9=[]/\v.Rest=[]/\
 (k=1/\v.Kind=1/\v.hX=0/\v.hG=[]/\v.bo=0\/
  k=2/\v.Kind=2/\v.kt=false/\v.hG=[]/\v.bo=0/\x.A % 7 - 3<=v.hX/\v.hX<=x.A % 7 - 3+x.B % 6\/
  k=3/\v.Kind=3/\v.kt=false/\v.hX=0/\v.bo=0/\(v.hG.length:Int)<=x.A % 4\/
  k=4/\v.Kind=4/\v.kt=false/\v.hX=0/\v.hG=[]/\v.bo∈axX x\/
  7<=k/\v.kt=false/\v.hX=0/\v.hG=[]/\v.bo=0/\(v.Kind=k/\(k=8->key)\/k=8/\v.Kind=7/\¬key))
def Init(s0:List S9)(t:Int)(v:ao):Prop:=azb (Qh s0 t) (s0.getD t.toNat amP) (∃w,akv s0 w) v
end
section
variable {s0:List S9} (q6:∀x,x∈s0->akx x) (hi:s0.length<=5)
structure aze (s0:List S9) (i:Int) (record:Bool) (m:em):Prop where
 id:1<=m.bo/\m.bo<=12
 name:m.Name=[UInt8.ofNat 109,UInt8.ofNat (97+m.bo.toNat)]
 aNw:azg s0 i m.ki
 K1:m.Is=true->m.x'=false
 un:record=false->m.Is=false/\m.x'=false
 aNo:m.x'=false->m.oo=e2
 To:m.x'=true->Init s0 m.ki m.oo
def aqf(s0:List S9)(i:Int)(record:Bool)(l:List em):Prop:=l.Pairwise (λa b=>a.bo < b.bo)/\(∀m,m∈l->aze s0 i record m)/\l.length<=12
def aMj(l:List Int):List ri:=l.map λj=>⟨j,[UInt8.ofNat 115,UInt8.ofNat (97+j.toNat)]⟩
def aMV(s0:List S9)(i:Int)(t:cm):Prop:=
 let x:=s0.getD i.toNat amP
 let n:=(s0.length:Int)
 let ajD:=[UInt8.ofNat (65+i.toNat)]
 (Qh s0 i=1/\t=⟨1,[],0,0,0,[],[],0,0,false⟩)\/
 (Qh s0 i=2/\t=⟨2,[],x.A % 7 - 3,x.A % 7 - 3+x.B % 6,0,[],[],0,0,false⟩)\/
 (Qh s0 i=3/\t=⟨3,[],0,0,x.A % 4,[],[],0,0,false⟩)\/
 (Qh s0 i=4/\∃o,t=⟨4,ajD,0,0,0,aMj (axX x),[],0,0,o⟩)\/
 (Qh s0 i=5/\∃l,aqf s0 i true l/\t=⟨5,ajD,0,0,0,[],l,0,0,false⟩)\/
 (Qh s0 i=6/\t=⟨5,ajD,0,0,0,[],[],0,0,false⟩)\/
 (Qh s0 i=6/\∃l o,aqf s0 i false l/\0 < l.length/\t=⟨6,ajD,0,0,0,[],l,0,0,o⟩)\/
 (Qh s0 i=7/\t=⟨7,[],0,0,x.A % 4,[],[],0,x.C % n,false⟩)\/
 (Qh s0 i=8/\(∀w,¬akv s0 w)/\t=⟨7,[],0,0,x.A % 4,[],[],0,x.C % n,false⟩)\/
 (Qh s0 i=8/\∃k,akv s0 k/\t=⟨8,[],0,0,x.A % 4,[],[],k,x.C % n,false⟩)\/
 (Qh s0 i=9/\t=⟨9,[],0,0,0,[],[],0,x.C % n,false⟩)
end
def ay'(d:Vb):Prop:=d.Vz.length<=reachBytes/\∀x,x∈d.Vz->akx x
structure ap' (ts:List cm):Prop where
 Ls:1<=ts.length
 ajB:ts.length<=5
 T:∀t,t∈ts->vk t
 V:VD ts
 D:∀t,t∈ts->WJ ts t.cy
 R:∀i:Nat,i < ts.length->∀m,m∈(ts.getD i e1).cy->0<=m.ki/\m.ki < ts.length/\(7<=(ts.getD m.ki.toNat e1).Kind\/m.ki < i)
 L:∀t,t∈ts->t.Kind=2->-3<=t.jb/\t.i'<=8
 M:∀t,t∈ts->t.Max<=3
 k5:∀t,t∈ts->(∀m,m∈t.cy->m.bo<=12)/\(∀y,y∈t.hq->y.bo<=6)/\t.cy.length<=12
 W:∀t,t∈ts->∀m,m∈t.cy->m.x'=true->wt m.oo<=13
def aaa(ap7 C:List Int):Prop:=ap7.length<=C.length/\∀c,c∈ap7->c∈C
theorem aaa.refl(C:List Int):aaa C C:=⟨JA _,λ_ h=>h⟩
theorem aaa.trans{A B C:List Int}(h:aaa A B)(k:aaa B C):aaa A C:=⟨SH h.1 k.1,λc ay=>k.2 c (h.2 c ay)⟩
def ahf(C:List Int):Prop:=∀c,c∈C->W6 c
theorem ahf.Ly{A B:List Int}(h:ahf B)(k:aaa A B):ahf A:=λc ay=>h c (k.2 c ay)
section
variable {ts:List cm}
def Zf(ts:List cm)(t:Nat):Nat:=if 7<=(ts.getD t e1).Kind then 0 else t+1
end
structure aMP (d:Vd):Prop where
 s:ay' d.S
 t:W6 d.T
 c:ahf d.C
 l:d.C.length<=reachBytes
theorem aHL{ts:List cm}(H:W5 ts){v:ao}(cJ:pI v)(t:Int)(pl:Bool):ry (PY ((⟨ts⟩:gJ),t,v,pl)) (qj ts pl t v):=by
 obtain⟨r,h1,ah⟩:=WB (by have:=H.n;omega) H.T H.K cJ t pl;obtain⟨q,y0,t'⟩:=abW (by have:=H.n;omega) H.T H.K cJ t pl;rw[h1]at t';have:r=q:=XI t';subst this;exact⟨r,y0,ah⟩
theorem aEU{ts:List cm}(k':∀t,t∈ts->vk t)(PH:VD ts){v:ao}(cJ:pI v){t:Int}(c6:qj ts false t v):alx ((⟨ts⟩:gJ),t,v)=some 0:=by
 have H:=PH.Re k';obtain⟨v1,_⟩:=aix k' PH;obtain⟨⟨g1,g2,_⟩,_⟩:=(li _ _ _).1 c6;obtain⟨r,kJ,pK⟩:=aHL H cJ t false;have ar:=pK.2 c6;subst ar;have Qd:¬((bif decide (t < 0)then true else decide (((⟨ts⟩:gJ).Types.length:Int)<=t))=true):=by grind
 rw[alx,aqN];simp only[akV,ao.d5];rw[v1];show((if(bif decide (t < 0)then true else decide (((⟨ts⟩:gJ).Types.length:Int)<=t))=true then some (4:Int)else some 0) >>=_)=_;rw[b' Qd];show(Ub ((⟨ts⟩:gJ),t,v) >>=_)=_;rw[Ub];simp only[ao.d5];rw[kJ];rfl
theorem aG2{ts:List cm}(k':∀t,t∈ts->vk t)(PH:VD ts){v:ao}(cJ:pI v){t:Int}(c6:qj ts false t v):S4 ((⟨ts⟩:gJ),t,v)=some 0:=by
 have aqa:=PH.Re k';obtain⟨⟨g1,g2,_⟩,_⟩:=(li _ _ _).1 c6;obtain⟨q,y0,t'⟩:=WB (by have:=aqa.n;omega) k' aqa.K cJ t false;have ar:=t'.2 c6;subst ar;have h5:¬t < 0:=by omega
 have js:¬(ts.length:Int)<=t:=by omega
 rw[S4,(aix k' PH).2];simp only[h',eg];rw[b' (by simp),b' (by simp[h5,js]),Yd];simp only[ao.d5];rw[y0];rfl
theorem akW{ts:List cm}(k':∀t,t∈ts->vk t)(PH:VD ts){v:ao}(cJ:pI v){t:Int}(c6:qj ts false t v):alx ((⟨ts⟩:gJ),t,v)=some 0/\S4 ((⟨ts⟩:gJ),t,v)=some 0:=⟨aEU k' PH cJ c6,aG2 k' PH cJ c6⟩
end
section
open Go Go.Proofs.YtijpinendaoleaaGreat.Shv Go.Sort
set_option maxRecDepth 100000
set_option linter.all false

end
section
open Go Go.Proofs.YtijpinendaoleaaGreat.Shv Go.Sort
set_option maxRecDepth 100000
theorem aHM{ms:List em}(h:U6 ms){a b:em}(ch:a∈ms)(ai:b∈ms)(e:a.bo=b.bo):a=b:=by
 obtain⟨i,al,rfl⟩:=K' ch;obtain⟨j,dx,rfl⟩:=K' ai;have key:=ac9.1 h.1
 grind
theorem aG3{ms:List em}{id:Int}{m:em}(h:Og ms id=some m):m∈ms/\m.bo=id:=
 ⟨List.mem_of_find?_eq_some h,by simpa using List.find?_some h⟩
end
section
open Go Go.Proofs.YtijpinendaoleaaGreat.Shv Go.Sort
set_option maxRecDepth 100000
mutual
def zJ :ao->ao
 | ⟨k,b,i,s,id,ks,is,r⟩=>⟨k,b,i,s,id,ks,ag0 is,if k=5 then[]else r⟩
def ag0 :List ao->List ao
 | []=>[]
 | v::l=>zJ v::ag0 l
end
theorem arR :∀l:List ao,ag0 l=l.map zJ
 | []=>by rw[ag0];rfl
 | v::l=>by rw[ag0,arR l];rfl
theorem Yr(v:ao):zJ v=⟨v.Kind,v.kt,v.hX,v.hG,v.bo,v.e0,v.b9.map zJ,if v.Kind=5 then[]else v.Rest⟩:=by
 cases v;rw[zJ,arR]
theorem aHC{l:List C2}(h:l.Pairwise λa b=>a.bo < b.bo)(n:Nat)(h1:∀x,x∈l->1<=x.bo/\x.bo<=n):l.length<=n:=by
 have key:∀(l:List C2) (m:Int),l.Pairwise (λa b=>a.bo < b.bo)->(∀x,x∈l->m < x.bo/\x.bo<=n)->m<=n->(l.length:Int)<=n - m:=by
  intro l
  induction l with
  | nil=>intro m _ _ h;simp;omega
  | cons x l ih=>
   intro m a7 hm g';have aa:=hm x (.head _);have:=ih x.bo (Y9.1 a7).2 (λy b8=>⟨(Y9.1 a7).1 y b8,(hm y (.tail _ b8)).2⟩) aa.2;rw[TI];omega
 have:=key l 0 h (λx aa=>⟨by have:=h1 x aa;omega,(h1 x aa).2⟩) (by omega);omega
section
variable {ts:List cm}
structure Qz (ts:List cm):Prop where
 T:∀t,t∈ts->vk t
 V:VD ts
theorem ap'.g(H:ap' ts):Qz ts:=⟨H.T,H.V⟩
inductive KY:ao->Prop
 | mk (v:ao) (k:v.e0.length<=1000) (i:v.b9.length<=1000) (al:∀x,x∈v.b9->KY x):KY v
theorem KY.items{v:ao}(h:KY v):∀x,x∈v.b9->KY x:=by
 cases h with
 | mk _ _ _ h=>exact h
theorem TU{v:ao}(s4:KY v){pl:Bool}{t:Int}(c6:qj ts pl t v):v.e0.length<=1000/\v.b9.length<=1000/\v.Rest.length<=1000:=by
 have⟨k,i⟩:v.e0.length<=1000/\v.b9.length<=1000:=by cases s4 with | mk _ k i _=>exact⟨k,i⟩
 refine⟨k,i,?_⟩;obtain⟨_,ay⟩:=(li _ _ _).1 c6;rcases ay with h | h | h | h | h | h | h | h | h
 . rw[h.2.2.2.2.2.2];simp
 . rw[h.2.2.2.2.2.2.1];simp
 . rw[h.2.2.2.2.2.2.1];simp
 . rw[h.2.2.2.2.2.2.1];simp
 . obtain⟨a1,a2,a3,a4,a5,n',JM,Nn⟩:=h;refine aHC JM.1 1000 λy b8=>?_
   have:=(JM.2 y b8).1;unfold OE at this;omega
 . obtain⟨a1,a2,a3,a4,a5,n'⟩:=h;split at n'
   . obtain⟨b1,b2,b3⟩:=n';rw[b1];simp
   . obtain⟨b1,b2,b3,b4,d,amF⟩:=n';rw[amF];simp
 . rw[h.2.2.2.2.2.2.1];simp
 . obtain⟨a1,a2,a3,a4,a5,n',JM,Nn,a9⟩:=h;rw[n'];simp
 . rw[h.2.2.2.2.2.2.1];simp
theorem ama :∀l:List ao,l.length*10<=KW l
 | []=>by simp
 | v::l=>by
  rw[ab4,ads,TI];have:=ama l;omega
theorem awz{v:ao}(cJ:pI v):wt v<=9000->KY v:=by
 induction cJ with
 | mk v hs h1 ah bJ hk al Ph Ls K8 Nv Nw N2 Jp=>
  intro hw;have aoL:=ads v;have a:=ama v.e0;have b:=ama v.b9;exact .mk v (by omega) (by omega) λx aa=>Jp x aa (by have:=al' aa;omega)
def r1(x:cm)(v:ao)(i:Nat):Int:=if x.Kind=5 then(x.cy.getD i hL).ki else if x.Kind=6 then((Og x.cy v.bo).getD hL).ki else x.hZ
def Jt(x:cm)(v:ao)(i:Nat):Int:=if x.Kind=5 then(x.cy.getD i hL).bo else if x.Kind=6 then v.bo else i
theorem Vp{pl:Bool}{t:Int}{v:ao}(c6:qj ts pl t v):∀i,i < v.b9.length->qj ts pl (r1 (ts.getD t.toNat e1) v i) (v.b9.getD i e2):=by
 obtain⟨⟨g1,g2,g3,g4⟩,ay⟩:=(li _ _ _).1 c6;generalize aa:ts.getD t.toNat e1=x at*;intro i al;have ajm:=oJ al e2;unfold r1;rcases ay with h | h | h | h | h | h | h | h | h
 . rw[h.2.2.2.2.2.1]at al;cases al
 . rw[h.2.2.2.2.2.1]at al;cases al
 . rw[h.2.2.2.2.2.1]at al;cases al
 . rw[h.2.2.2.2.2.1]at al;cases al
 . obtain⟨a1,a2,a3,a4,a5,n',JM,Nn⟩:=h;rw[b6 (by omega)];obtain⟨b1,b2⟩:=Ud.1 Nn;exact b2 i (by omega)
 . obtain⟨a1,a2,a3,a4,a5,n'⟩:=h;rw[b' (by omega),b6 (by omega)];split at n'
   . rename_i m hm;rw[hm];exact OA.1 n'.2.2 _ ajm
   . rw[n'.2.2.2.1]at al;cases al
 . obtain⟨a1,a2,a3,a4,a5,n',JM,Nn,a9⟩:=h;rw[b' (by omega),b' (by omega)];exact OA.1 a9 _ ajm
 . obtain⟨a1,a2,a3,a4,a5,n',JM,Nn,a9,atq,atr⟩:=h;rw[b' (by omega),b' (by omega)];exact OA.1 atq _ ajm
 . obtain⟨a1,a2,a3,a4,a5,n',JM,Nn,a9⟩:=h;rw[b' (by omega),b' (by omega)];exact OA.1 a9 _ ajm
theorem aHN{α:Type}(f:α->α)(l:List α){i:Nat}(al:i < l.length)(d:α):((l.take i).map f++l.drop i).set i (f (l.getD i d))=(l.take (i+1)).map f++l.drop (i+1):=by
 rw[G' al];have h1:((l.take i).map f).length=i:=by simp;omega
 rw[List.set_append_right _ _ (by omega),h1,ac7,aaW al,List.set_cons_zero,ajI,Za,CJ al,SE];rfl
theorem aHO{α:Type}(f:α->α)(l:List α){i:Nat}(al:i < l.length)(d:α):((l.take i).map f++l.drop i).getD i d=l.getD i d:=by
 have h1:((l.take i).map f).length=i:=by simp;omega
 rw[api,V1 (by omega),h1,ac7,aaW al,G' al];rfl
theorem ar'{l:List ao}(aJ:l.length <=1000)(h:∀y,y∈l -> WU y=some (zJ y)){a0 a2 a4 b0 b2 b4:Int}{a1 b1:Bool}{a3 b3:List UInt8}{r:List C2}{ks:List ao}:∀(k i:Nat),i+k=l.length ->
 X4 ((i:Int),a0,a1,a2,a3,a4,r,b0,b1,b2,b3,b4,ks,(l.take i).map zJ++l.drop i)=some (a0,a1,a2,a3,a4,r,b0,b1,b2,b3,b4,ks,l.map zJ)
 | 0,i,al=>by
  rw[X4,b' (by simp;omega),UL (by omega),Q6 (by omega),Q8]
 | k+1,i,al=>by
  have ey:i < l.length:=by omega
  have g':((l.take i).map zJ++l.drop i).length=l.length:=by simp;omega
  rw[X4,g',b6 (by simp;omega),b6 (d4 ey),o1,b6 (by simp;omega),aHO zJ l ey e2];simp only[ao.d5];rw[h _ (oJ ey e2)];simp only[h',eg,ao.d5];rw[b6 (d4 ey),b6 (by simp;omega),aHN zJ l ey e2,pv (by omega)];exact ar' aJ h k (i+1) (by omega)
theorem aG4{v:ao}(cJ:pI v):∀t,KY v->qj ts false t v->WU v=some (zJ v):=by
 induction cJ with
 | mk v hs h1 ah bJ hk al Ph Ls K8 Nv Nw N2 Jp=>
  intro t s4 c6;obtain⟨L9,IJ,Y2⟩:=TU s4 c6;have kids:∀y,y∈v.b9->WU y=some (zJ y):=λy b8=>by
   obtain⟨i,JG,rfl⟩:=K' b8;have:=Vp c6 i JG;rw[G' JG]at this;exact Jp _ b8 _ (s4.items _ b8) this
  have ay:ZP v=some (v.Kind,v.kt,v.hX,v.hG,v.bo,v.e0,v.b9,v.Rest):=by
   rw[ZP];simp only[XH];rw[b6 (RG (by omega) (by omega)),b6 (RG (by omega) (by omega)),b6 (RG (by omega) (by omega))]
  rw[WU];simp only[ao.d5];rw[ay,Yr];simp only[h',eg];have L:=λ(r:List C2)=>ar' (l:=v.b9) (by omega) kids (a0:=v.Kind) (a1:=v.kt) (a2:=v.hX) (a3:=v.hG) (a4:=v.bo) (b0:=0) (b1:=false) (b2:=0) (b3:=[]) (b4:=0) (r:=r) (ks:=v.e0) v.b9.length 0 (by omega)
  have L':∀r:List C2,X4 (0,v.Kind,v.kt,v.hX,v.hG,v.bo,r,0,false,0,[],0,v.e0,v.b9)=_:=L;by_cases hi:v.Kind=5
  . rw[b6 (by simp[hi]),L',b6 hi];rfl
  . rw[b' (by simp[hi]),L',b' hi];rfl
def PD(x:cm)(v:ao):Prop:=x.Kind=4->∃y,y∈x.hq/\y.bo=v.bo
theorem ahN{x:cm}(aa:vk x)(v:ao):∃b,Rz (x,v)=some b/\(b=false↔PD x v):=by
 rw[Rz];unfold PD;by_cases ea:x.Kind=4
 . rw[b' (by simp[ea])];obtain⟨r,kJ,_,pK⟩:=ahM (t:=x) v.bo (by have:=aa.1;have:=i4 (JA reachBytes);omega);rw[kJ];refine⟨!r.2,rfl,?_⟩;rcases pK with⟨j,C3,Qg,aaO,rfl⟩ | ⟨q,rfl⟩
   . simp only[Po,true_iff];exactλ_=>⟨_,oJ C3 wm,Qg⟩
   . simp only[Ov,Bool.true_eq_false,false_iff];intro h;obtain⟨y,ady,ahc⟩:=h ea;obtain⟨i,al,rfl⟩:=K' ady;exact absurd ahc (by have:=q i al;rwa [G' al]at this)
 . rw[b6 (by simp[ea])];exact⟨false,rfl,by simp[ea]⟩
theorem ams(k':∀t,t∈ts->vk t){x:cm}{v:ao}(aJ:v.e0.length<=1000)(hk:v.e0≠[]->0<=x.Key/\x.Key < ts.length):∃b,abn ((⟨ts⟩:gJ),x,v)=some b/\(b=false↔∀k,k∈v.e0->PD (ts.getD x.Key.toNat e1) k):=by
 have ai:∀i,i < v.e0.length->∃b,Rz (ts.getD x.Key.toNat e1,v.e0.getD i e2)=some b/\(b=false↔PD (ts.getD x.Key.toNat e1) (v.e0.getD i e2)):=λi al=>
  ahN (k' _ (oJ (by have:=hk (by intro h;rw[h]at al;cases al);omega) e1)) _
 have ee:∀i,i < v.e0.length->ahD (v.e0.getD i e2,ts,x)=(Rz (ts.getD x.Key.toNat e1,v.e0.getD i e2)).map λb=>(b,ts,x):=λi al=>by
  rw[ahD];have aa:=hk (by intro h;rw[h]at al;cases al);rw[b6 (by simp[eh];omega)];simp only[ao.d5];cases Rz (ts.getD x.Key.toNat e1,v.e0.getD i e2) <;> rfl
 have h:=Zx (λi=>Wn (v.e0,(v.e0.length:Int),(i:Int),ts,x)) v.e0.length (λi=>(Rz (ts.getD x.Key.toNat e1,v.e0.getD i e2))==some true) (λi=>.inl ((i:Int),ts,x)) (.inr (ts,x))
  (λi al=>by
   obtain⟨b,b1,_⟩:=ai i al;rw[Wn,b6 (by simp;omega),b6 (d4 al),o1];simp only[ao.d5];rw[ee i al,b1];simp only[La,h',eg];rw[pv (by omega)]
   cases b <;> simp)
  (by rw[Wn,b' (by simp)])
 have vK:Wn (v.e0,(v.e0.length:Int),((0:Nat):Int),ts,x)=Wn (v.e0,(v.e0.length:Int),0,ts,x):=rfl;simp only[vK]at h;rw[abn,akK,akM];rcases h with⟨j,h1,ah,bJ,ea⟩ | ⟨h1,ea⟩
 . rw[ea];refine⟨true,?_,?_⟩
   . have:decide ((0:Int)<=(j:Int))=true:=by simp
     simp only[h',eg,this]
   . obtain⟨b,b1,b2⟩:=ai j h1;have an0:b=true:=by
      have Tq:(Rz (ts.getD x.Key.toNat e1,v.e0.getD j e2)==some true)=true:=ah;rw[b1]at Tq
      simpa using Tq
     constructor
     . intro h;cases h
     . intro h;have:=b2.2 (h _ (oJ h1 e2));rw[an0]at this;cases this
 . rw[ea];refine⟨false,rfl,?_⟩;constructor
   . intro _ k hk;obtain⟨i,al,rfl⟩:=K' hk;obtain⟨b,b1,b2⟩:=ai i al;have J3:(Rz (ts.getD x.Key.toNat e1,v.e0.getD i e2)==some true)=false:=h1 i al;rw[b1]at J3;have:b=false:=by cases b <;> simp_all
     rw[<-G' al (d:=e2)];exact b2.1 this
   . intro _;rfl
end
section
variable {ts:List cm}
theorem arS{x:cm}(hm:U6 x.cy)(aJ:x.cy.length<=1000){id:Int}{m:em}(tr:Og x.cy id=some m):∃j,j < x.cy.length/\S7 (x,id)=some ((j:Int),true)/\x.cy.getD j hL=m:=by
 obtain⟨m1,m2⟩:=aG3 tr;obtain⟨r,kJ,pK⟩:=aqO (t:=x) (id:=id) (by omega);rcases pK with⟨j,C3,Qg,_,rfl⟩ | ⟨q,_⟩
 . exact⟨j,C3,kJ,aHM hm (oJ C3 hL) m1 (by rw[Qg,m2])⟩
 . obtain⟨i,al,rfl⟩:=K' m1;exact absurd m2 (by have:=q i al;rwa [G' al]at this)
def NB(x:cm)(v:ao)(i:Nat):List Na:=(List.range i).map λj=>(⟨r1 x v j,Jt x v j⟩:Na)
theorem aHP(x:cm)(v:ao)(i:Nat):NB x v i++[(⟨r1 x v i,Jt x v i⟩:Na)]=NB x v (i+1):=by
 unfold NB;rw[List.range_succ,Za];rfl
theorem P0(x:cm)(v:ao)(i:Nat):(NB x v i).length=i:=by unfold NB;simp
theorem ah9(x:cm)(v:ao){i n:Nat}(h:i < n):(NB x v n).getD i abm=⟨r1 x v i,Jt x v i⟩:=by
 rw[G' (by rw[P0];exact h)];unfold NB;simp
theorem avg{x:cm}{v:ao}(aJ:v.b9.length <=1000)(hi:x.Kind=5 -> v.b9.length <=x.cy.length)(q0:x.Kind=6 -> 0 < v.b9.length -> ∃m,Og x.cy v.bo=some m)(uJ:x.Kind=6 -> U6 x.cy /\ x.cy.length <=16):∀(k i:Nat),i+k=v.b9.length ->
 Vi ((v.b9.length:Int),(i:Int),x,v,NB x v i)=some (NB x v v.b9.length)
 | 0,i,al=>by
  rw[Vi,b' (by simp;omega)];have:i=v.b9.length:=by omega
  rw[this]
 | k+1,i,al=>by
  have ih:=avg aJ hi q0 uJ k (i+1) (by omega);have hs:=aHP x v i;have ar:∀s:Na,room 16 (NB x v i++[s]).length=true:=λs=>RG (by omega) (by simp[P0];omega)
  rw[Vi,b6 (by simp;omega),pv (by omega)];simp only[h',eg,ao.d5];by_cases mJ:x.Kind=5
  . have ey:i < x.cy.length:=by have:=hi mJ;omega
    rw[b6 (by simp[mJ]),b6 (d4 ey),b6 (d4 ey),b6 (ar _),o1];have e:(⟨(x.cy.getD i hL).ki,(x.cy.getD i hL).bo⟩:Na)=⟨r1 x v i,Jt x v i⟩:=by unfold r1 Jt;rw[b6 mJ,b6 mJ]
    rw[e,hs];exact ih
  . rw[b' (by simp[mJ])];by_cases nJ:x.Kind=6
    . obtain⟨m,tr⟩:=q0 nJ (by omega);obtain⟨j,C3,Qg,aaO⟩:=arS (uJ nJ).1 (by have:=(uJ nJ).2;omega) tr;rw[b6 (by simp[nJ]),Qg];simp only[eg];rw[b6 (d4 C3),b6 (ar _),o1,aaO];have e:(⟨m.ki,v.bo⟩:Na)=⟨r1 x v i,Jt x v i⟩:=by unfold r1 Jt;rw[b' mJ,b6 nJ,b' mJ,b6 nJ,tr];rfl
      rw[e,hs];exact ih
    . rw[b' (by simp[nJ]),b6 (ar _)];have e:(⟨x.hZ,(i:Int)⟩:Na)=⟨r1 x v i,Jt x v i⟩:=by unfold r1 Jt;rw[b' mJ,b' nJ,b' mJ,b' nJ]
      rw[e,hs];exact ih
theorem aef(H:W5 ts){pl:Bool}{t:Int}{v:ao}(c6:qj ts pl t v)(aJ:v.b9.length<=1000):Ua (ts.getD t.toNat e1,v)=some (NB (ts.getD t.toNat e1) v v.b9.length):=by
 obtain⟨⟨g1,g2,g3,g4⟩,ay⟩:=(li _ _ _).1 c6;have K6:=oJ (by omega:t.toNat < ts.length) e1;generalize aa:ts.getD t.toNat e1=x at*;rw[Ua];simp only[ao.d5]
 have := avg (x := x) (v := v) aJ (λmJ => by
  rcases ay with h | h | h | h | h | h | h | h | h
  case inr.inr.inr.inr.inl=>have:=(Ud.1 h.2.2.2.2.2.2.2).1;omega
  all_goals (have:=h.1;omega)) (λnJ UH=>by
  rcases ay with h | h | h | h | h | h | h | h | h
  case inr.inr.inr.inr.inr.inl=>
   obtain⟨a1,a2,a3,a4,a5,n'⟩:=h;split at n'
   . rename_i m hm;exact⟨m,hm⟩
   . rw[n'.2.2.2.1]at UH;cases UH
  all_goals (have:=h.1;omega)) (λnJ=>H.A x K6 (.inr nJ)) v.b9.length 0 (by omega)
 have h0:Vi ((v.b9.length:Int),0,x,v,[])=_:=this;rw[h0];rfl
def zeroV :ao:=⟨0,false,0,[],0,[],[],[]⟩
def aij(ts:List cm)(t:Int)(v:ao):Prop:=∃b,(b=true↔qj ts true t (zJ v))/\LE ((⟨ts⟩:gJ),t,v)=some (if b=true then(zJ v,true)else(zeroV,false))
theorem avh{x:cm}{v:ao}(aJ:v.b9.length <=1000)(h:∀i,i < v.b9.length -> aij ts (r1 x v i) (v.b9.getD i e2)){z0 z2 z4 a0 a2 a4:Int}{z1 a1:Bool}{z3 a3:List UInt8}{ks:List ao}:∀(k i:Nat),i+k=v.b9.length ->
 (Yg (NB x v v.b9.length,(v.b9.length:Int),(i:Int),ts,v,z0,z1,z2,z3,z4,a0,a1,a2,a3,a4,ks,(v.b9.take i).map zJ)=some (.inr (z0,z1,z2,z3,z4,a0,a1,a2,a3,a4,ks,v.b9.map zJ))/\∀j,i<=j->j < v.b9.length->qj ts true (r1 x v j) (zJ (v.b9.getD j e2)))\/
 (Yg (NB x v v.b9.length,(v.b9.length:Int),(i:Int),ts,v,z0,z1,z2,z3,z4,a0,a1,a2,a3,a4,ks,(v.b9.take i).map zJ)=some (.inl (false,0,false,0,[],0))/\∃j,j < v.b9.length/\¬qj ts true (r1 x v j) (zJ (v.b9.getD j e2)))
 | 0,i,al=>.inl ⟨by rw[Yg,b' (by simp;omega),UL (by omega)],λj h1 ah=>by omega⟩
 | k+1,i,al=>by
  have ey:i < v.b9.length:=by omega
  obtain⟨b,b1,b2⟩:=h i ey;rw[Yg,b6 (by simp;omega),b6 (d4 (by rw[P0];exact ey)),b6 (d4 ey),o1,ah9 x v ey];simp only[ao.d5];rw[b2];cases b with
  | false=>exact .inr ⟨rfl,i,ey,λq=>by have:=b1.2 q;cases this⟩
  | true=>
   have e:(v.b9.take i).map zJ++[zJ (v.b9.getD i e2)]=(v.b9.take (i+1)).map zJ:=by
    rw[ajI,Za,CJ ey,G' ey];rfl
   simp only[h',eg,q',Po,ao.d5];rw[b' (by simp),b6 (RG (by omega) (by simp;omega)),pv (by omega),e];rcases avh aJ h (z0:=z0) (z1:=z1) (z2:=z2) (z3:=z3) (z4:=z4) (a0:=a0) (a1:=a1) (a2:=a2) (a3:=a3) (a4:=a4) (ks:=ks) k (i+1) (by omega)with⟨h5,js⟩ | ⟨h5,js⟩
   . refine .inl ⟨h5,λj h1 ah=>?_⟩;by_cases dx:j=i
     . subst dx;exact b1.1 rfl
     . exact js j (by omega) ah
   . exact .inr ⟨h5,js⟩
theorem aHQ{t:Int}{k:ao}(c6:qj ts false t k)(h1:1<=(ts.getD t.toNat e1).Kind/\(ts.getD t.toNat e1).Kind<=4)(hk:PD (ts.getD t.toNat e1) k):qj ts true t k:=by
 obtain⟨⟨g1,g2,g3,g4⟩,ay⟩:=(li _ _ _).1 c6;rw[li];rcases ay with h | h | h | h | h | h | h | h | h
 . exact⟨⟨g1,g2,g3,λ_=>h.2.2.2.2.2.2⟩,.inl h⟩
 . exact⟨⟨g1,g2,g3,λ_=>h.2.2.2.2.2.2.1⟩,.inr (.inl h)⟩
 . exact⟨⟨g1,g2,g3,λ_=>h.2.2.2.2.2.2.1⟩,.inr (.inr (.inl h))⟩
 . obtain⟨a1,a2,a3,a4,a5,n',JM,Nn⟩:=h;exact⟨⟨g1,g2,g3,λ_=>JM⟩,.inr (.inr (.inr (.inl ⟨a1,a2,a3,a4,a5,n',JM,.inl (hk (by omega))⟩)))⟩
 all_goals (have:=h.1;omega)
theorem avw{t:Int}{k:ao}(c6:qj ts true t k):PD (ts.getD t.toNat e1) k:=by
 obtain⟨⟨g1,g2,g3,g4⟩,ay⟩:=(li _ _ _).1 c6;intro ea;rcases ay with h | h | h | h | h | h | h | h | h
 case inr.inr.inr.inl=>
  rcases h.2.2.2.2.2.2.2 with h | h
  . exact h
  . cases h.2.1
 all_goals (have:=h.1;omega)
theorem aGg(x:cm)(v:ao)(j:Nat):r1 x (zJ v) j=r1 x v j:=by
 unfold r1;rw[Yr]
theorem atm{l:List ao}{j:Nat}(h:j < l.length):(l.map zJ).getD j e2=zJ (l.getD j e2):=by
 rw[G' h,G' (by simpa using h)];simp
theorem aGh(H:W5 ts){t:Int}{v:ao}(c6:qj ts false t v):qj ts true t (zJ v)↔
 PD (ts.getD t.toNat e1) v/\(∀k,k∈v.e0->PD (ts.getD (ts.getD t.toNat e1).Key.toNat e1) k)/\¬((ts.getD t.toNat e1).Kind=6/\v.b9.length=0)/\∀j,j < v.b9.length->qj ts true (r1 (ts.getD t.toNat e1) v j) (zJ (v.b9.getD j e2)):=by
 obtain⟨⟨g1,g2,g3,g4⟩,ay⟩:=(li _ _ _).1 c6;have K6:=oJ (by omega:t.toNat < ts.length) e1;constructor
 . intro h;have afU:=Vp h;have aaD:=avw h;have aJC:(zJ v).bo=v.bo:=by rw[Yr]
   have Xk:(zJ v).e0=v.e0:=by rw[Yr]
   have anO:(zJ v).b9=v.b9.map zJ:=by rw[Yr]
   obtain⟨⟨_,_,f3,f4⟩,auU⟩:=(li _ _ _).1 h;refine⟨λea=>by have:=aaD ea;rwa [aJC]at this,λk hk=>?_,?_,λj dx=>?_⟩
   . rcases auU with h | h | h | h | h | h | h | h | h
     case inr.inr.inr.inr.inr.inr.inr.inl=>
      have:=h.2.2.2.2.2.2.2.2.1;rw[Xk]at this;exact avw (OA.1 this _ hk)
     case inr.inr.inr.inr.inr.inl=>have:=h.2.2.2.2.1;rw[Xk]at this;rw[this]at hk;cases hk
     case inl=>have:=h.2.2.2.2.1;rw[Xk]at this;rw[this]at hk;cases hk
     case inr.inl=>have:=h.2.2.2.2.1;rw[Xk]at this;rw[this]at hk;cases hk
     case inr.inr.inl=>have:=h.2.2.2.2.1;rw[Xk]at this;rw[this]at hk;cases hk
     case inr.inr.inr.inl=>have:=h.2.2.2.2.1;rw[Xk]at this;rw[this]at hk;cases hk
     all_goals (have:=h.2.2.2.2.2.1;rw[Xk]at this;rw[this]at hk;cases hk)
   . intro⟨nJ,gA⟩;rcases auU with h | h | h | h | h | h | h | h | h
     case inr.inr.inr.inr.inr.inl=>
      obtain⟨a1,a2,a3,a4,a5,n'⟩:=h;split at n'
      . have:=n'.2.1;rw[anO,JU]at this;omega
      . cases n'.2.1
     all_goals (have:=h.1;omega)
   . have:=afU j (by rw[anO,JU];exact dx)
     rwa [aGg,anO,atm dx]at this
 . intro⟨hk,J5,hu,dx⟩;rw[Yr,li];dsimp only;generalize aa:ts.getD t.toNat e1=x at*;rcases ay with h | h | h | h | h | h | h | h | h
   . obtain⟨a1,a2,a3,a4,a5,n',JM⟩:=h;rw[b' (by omega),n',JM];exact⟨⟨g1,g2,g3,λ_=>rfl⟩,.inl ⟨a1,a2,a3,a4,a5,rfl,rfl⟩⟩
   . obtain⟨a1,a2,a3,a4,a5,n',JM,Nn⟩:=h;rw[b' (by omega),n',JM];exact⟨⟨g1,g2,g3,λ_=>rfl⟩,.inr (.inl ⟨a1,a2,a3,a4,a5,rfl,rfl,Nn⟩)⟩
   . obtain⟨a1,a2,a3,a4,a5,n',JM,Nn⟩:=h;rw[b' (by omega),n',JM];exact⟨⟨g1,g2,g3,λ_=>rfl⟩,.inr (.inr (.inl ⟨a1,a2,a3,a4,a5,rfl,rfl,Nn⟩))⟩
   . obtain⟨a1,a2,a3,a4,a5,n',JM,Nn⟩:=h;rw[b' (by omega),n',JM];exact⟨⟨g1,g2,g3,λ_=>rfl⟩,.inr (.inr (.inr (.inl ⟨a1,a2,a3,a4,a5,rfl,rfl,.inl (hk (by omega))⟩)))⟩
   . obtain⟨a1,a2,a3,a4,a5,n',JM,Nn⟩:=h;rw[b6 a1];obtain⟨b1,b2⟩:=Ud.1 Nn;refine⟨⟨g1,g2,g3,λ_=>rfl⟩,.inr (.inr (.inr (.inr (.inl ⟨a1,a2,a3,a4,a5,n',⟨List.Pairwise.nil,λy b8=>(by cases b8)⟩,Ud.2 ⟨by rw[JU];exact b1,λi al=>?_⟩⟩))))⟩;have:=dx i (by omega);unfold r1 at this;rw[b6 (by omega)]at this;rw[atm (by omega)]
     exact this
   . obtain⟨a1,a2,a3,a4,a5,n'⟩:=h;rw[b' (by omega)];cases tr:Og x.cy v.bo with
     | none=>
      rw[tr]at n';exact absurd ⟨by omega,by rw[n'.2.2.2.1];rfl⟩ hu
     | some m=>
      rw[tr]at n';obtain⟨b1,b2,b3⟩:=n';refine⟨⟨g1,g2,g3,λ_=>b1⟩,.inr (.inr (.inr (.inr (.inr (.inl ⟨a1,a2,a3,a4,a5,b1,by rw[JU];exact b2,OA.2 λy b8=>?_⟩)))))⟩;obtain⟨w,hw,rfl⟩:=LV.1 b8;obtain⟨i,al,rfl⟩:=K' hw;have:=dx i al;unfold r1 at this;rw[b' (by omega),b6 (by omega),tr,G' al]at this
      exact this
   . obtain⟨a1,a2,a3,a4,a5,n',JM,Nn,a9⟩:=h;rw[b' (by omega)];refine⟨⟨g1,g2,g3,λ_=>JM⟩,.inr (.inr (.inr (.inr (.inr (.inr (.inl ⟨a1,a2,a3,a4,a5,n',JM,by rw[JU];exact Nn,OA.2 λy b8=>?_⟩))))))⟩;obtain⟨w,hw,rfl⟩:=LV.1 b8;obtain⟨i,al,rfl⟩:=K' hw;have:=dx i al;unfold r1 at this
     rw[b' (by omega),b' (by omega),G' al]at this;exact this
   . obtain⟨a1,a2,a3,a4,a5,n',JM,Nn,a9,atq,atr⟩:=h;rw[b' (by omega)];refine⟨⟨g1,g2,g3,λ_=>n'⟩,.inr (.inr (.inr (.inr (.inr (.inr (.inr (.inl ⟨a1,a2,a3,a4,a5,n',JM,by rw[JU];exact Nn,OA.2 λy b8=>aHQ (OA.1 a9 y b8) (H.adC x K6 (by omega)) (J5 y b8),OA.2 λy b8=>?_,atr⟩)))))))⟩;obtain⟨w,hw,rfl⟩:=LV.1 b8
     obtain⟨i,al,rfl⟩:=K' hw;have:=dx i al;unfold r1 at this;rw[b' (by omega),b' (by omega),G' al]at this;exact this
   . obtain⟨a1,a2,a3,a4,a5,n',JM,Nn,a9⟩:=h;rw[b' (by omega)];refine⟨⟨g1,g2,g3,λ_=>JM⟩,.inr (.inr (.inr (.inr (.inr (.inr (.inr (.inr ⟨a1,a2,a3,a4,a5,n',JM,by rw[JU];exact Nn,OA.2 λy b8=>?_⟩)))))))⟩;obtain⟨w,hw,rfl⟩:=LV.1 b8;obtain⟨i,al,rfl⟩:=K' hw;have:=dx i al;unfold r1 at this
     rw[b' (by omega),b' (by omega),G' al]at this;exact this
theorem amt{t:Int}{v:ao}{pl:Bool}(c6:qj ts pl t v):v.e0≠[]->0<=(ts.getD t.toNat e1).Key/\(ts.getD t.toNat e1).Key < ts.length:=by
 obtain⟨_,ay⟩:=(li _ _ _).1 c6;intro g';rcases ay with h | h | h | h | h | h | h | h | h
 case inr.inr.inr.inr.inr.inr.inr.inl=>
  obtain⟨a1,a2,a3,a4,a5,n',JM,Nn,a9,_⟩:=h;cases hk:v.e0 with
  | nil=>exact absurd hk g'
  | cons k l=>
   have:=OA.1 a9 k (by rw[hk];exact .head _);obtain⟨⟨y0,t',_⟩,_⟩:=(li _ _ _).1 this;exact⟨y0,t'⟩
 case inl=>exact absurd h.2.2.2.2.1 g'
 case inr.inl=>exact absurd h.2.2.2.2.1 g'
 case inr.inr.inl=>exact absurd h.2.2.2.2.1 g'
 case inr.inr.inr.inl=>exact absurd h.2.2.2.2.1 g'
 case inr.inr.inr.inr.inr.inl=>exact absurd h.2.2.2.2.1 g'
 all_goals exact absurd h.2.2.2.2.2.1 g'
theorem aGi(H:Qz ts){v:ao}(cJ:pI v):∀t,KY v->qj ts false t v->aij ts t v:=by
 have S:=H.V.Re H.T
 induction cJ with
 | mk v hs h1 ah bJ hk al Ph Ls K8 Nv Nw N2 Jp=>
  intro t s4 c6;obtain⟨L9,IJ,Y2⟩:=TU s4 c6;obtain⟨⟨g1,g2,g3,g4⟩,_⟩:=(li _ _ _).1 c6;have dx:t.toNat < ts.length:=by omega
  have K6:=oJ dx e1;have afO:=aGh S c6;have n2:=aef S c6 (by omega);have afU:∀i,i < v.b9.length->aij ts (r1 (ts.getD t.toNat e1) v i) (v.b9.getD i e2):=λi JG=>Jp _ (oJ JG e2) _ (s4.items _ (oJ JG e2)) (Vp c6 i JG)
  obtain⟨Ky,s1,s2⟩:=ahN (H.T _ K6) v;obtain⟨Ou,hg,hl⟩:=ams H.T (x:=ts.getD t.toNat e1) (v:=v) (by omega) (amt c6);generalize aa:ts.getD t.toNat e1=x at*;have ajd:∀(P:Prop),¬qj ts true t (zJ v)->LE ((⟨ts⟩:gJ),t,v)=some (zeroV,false)->aij ts t v:=λ_ h1 ah=>⟨false,by simp[h1],by rw[ah];rfl⟩
  have tw:eh t ts.length=true:=by simp[eh];omega
  have aK5:∀b,(bif decide (x.Kind=6)then decide ((v.b9.length:Int)=0)else false)=b->(b=true↔x.Kind=6/\v.b9.length=0):=by
   intro b ai;rw[<-ai];by_cases q0:x.Kind=6 <;> simp[q0]
  obtain⟨ayU,aoH⟩:∃b,(bif decide (x.Kind=6)then decide ((v.b9.length:Int)=0)else false)=b:=⟨_,rfl⟩
  have hu:=aK5 ayU aoH;cases Ky with
  | true=>
   refine ajd True (λh=>?_) ?_
   . have:=s2.2 (afO.1 h).1;cases this
   . rw[LE,b6 tw];simp only[h',eg,ao.d5,aa];rw[s1];rfl
  | false=>
   cases Ou with
   | true=>
    refine ajd True (λh=>?_) ?_
    . have:=hl.2 (afO.1 h).2.1;cases this
    . rw[LE,b6 tw];simp only[h',eg,ao.d5,aa];rw[s1];simp only[eg,Ov,q'];rw[hg];rfl
   | false=>
    cases ayU with
    | true=>
     refine ajd True (λh=>(afO.1 h).2.2.1 (hu.1 rfl)) ?_;rw[LE,b6 tw];simp only[h',eg,ao.d5,aa];rw[s1];simp only[eg,Ov,q'];rw[hg,aoH];rfl
    | false=>
     have s4:=avh (x:=x) (v:=v) (by omega) afU (z0:=0) (z1:=false) (z2:=0) (z3:=[]) (z4:=0) (a0:=v.Kind) (a1:=v.kt) (a2:=v.hX) (a3:=v.hG) (a4:=v.bo) (ks:=v.e0) v.b9.length 0 (by omega)
     have Q1 : ∀ X, Yg (NB x v v.b9.length, (v.b9.length : Int), 0, ts, v, 0, false, 0, [], 0, v.Kind, v.kt, v.hX, v.hG, v.bo, v.e0, []) = some X -> LE ((⟨ts⟩ : gJ), t, v) = (match X with
      | .inl ho=>some ((⟨ho.2.1,ho.2.2.1,ho.2.2.2.1,ho.2.2.2.2.1,ho.2.2.2.2.2,[],[],[]⟩:ao),ho.1)
      | .inr hV=>some ((⟨hV.2.2.2.2.2.1,hV.2.2.2.2.2.2.1,hV.2.2.2.2.2.2.2.1,hV.2.2.2.2.2.2.2.2.1,hV.2.2.2.2.2.2.2.2.2.1,hV.2.2.2.2.2.2.2.2.2.2.1,hV.2.2.2.2.2.2.2.2.2.2.2,[]⟩:ao),true)):=by
      intro X Uy;rw[LE,b6 tw];simp only[h',eg,ao.d5,aa];rw[s1];simp only[eg,Ov,q'];rw[hg,aoH];simp only[eg,XL];have TA:MS 120 v.e0=some v.e0:=by unfold MS;rw[b6 (RG (by omega) (by omega))]
      rw[b' (by simp),TA];simp only[eg];rw[n2];simp only[eg,P0];rw[Uy];cases X <;> rfl
     rcases s4 with⟨h5,js⟩ | ⟨h5,j,C3,Qg⟩
     . have axS:qj ts true t (zJ v):=afO.2 ⟨s2.1 rfl,hl.1 rfl,λh=>(by have:=hu.2 h;cases this),λj dx=>js j (Pq _) dx⟩;refine⟨true,by simp[axS],?_⟩;rw[Q1 _ h5,b6 rfl];have ar:(zJ v).Rest=[]:=by
        obtain⟨⟨_,_,_,q⟩,_⟩:=(li _ _ _).1 axS;exact q rfl
       have:(⟨v.Kind,v.kt,v.hX,v.hG,v.bo,v.e0,v.b9.map zJ,[]⟩:ao)=zJ v:=by
        rw[Yr]at ar ⊢;dsimp only at ar;rw[ar]
       show some ((⟨v.Kind,v.kt,v.hX,v.hG,v.bo,v.e0,v.b9.map zJ,[]⟩:ao),true)=_;rw[this]
     . refine ajd True (λh=>Qg ((afO.1 h).2.2.2 j C3)) ?_;rw[Q1 _ h5];rfl
end
theorem aGj{v:ao}(cJ:pI v):pI (zJ v):=by
 induction cJ with
 | mk v hs h1 ah bJ hk al Ph Ls K8 Nv Nw N2 Jp=>
  rw[Yr];have ar:∀x,x∈(if v.Kind=5 then[]else v.Rest)->x∈v.Rest:=λx aa=>by
   by_cases hi:v.Kind=5
   . rw[b6 hi]at aa;cases aa
   . rwa [b' hi]at aa
  refine .mk _ hs h1 (by show(v.b9.map zJ).length<=_;rw[JU];exact ah) ?_ hk (λx aa=>?_) (λx aa=>Ph x (ar x aa)) Ls K8 Nv (λx aa=>Nw x (ar x aa))
  . show(if v.Kind=5 then[]else v.Rest).length<=_;by_cases hi:v.Kind=5
    . rw[b6 hi];exact Pq _
    . rw[b' hi];exact bJ
  . obtain⟨w,hw,rfl⟩:=LV.1 aa;exact Jp w hw
theorem aGk{ts:List cm}(H:Qz ts){t:Int}{v:ao}(cJ:pI v)(s4:KY v)(c6:qj ts false t v):
 ∃b,(b=true↔qj ts true t (zJ v))/\abD ((⟨ts⟩:gJ),t,v)=some (if b=true then(zJ v,0)else(zeroV,12))/\abt ((⟨ts⟩:gJ),t,v)=some (if b=true then(zJ v,0)else(zeroV,12)):=by
 have S:=H.V.Re H.T;obtain⟨b,b1,b2⟩:=aGi H cJ t s4 c6;obtain⟨_,hf⟩:=akW H.T H.V cJ c6;obtain⟨v1,_⟩:=aix H.T H.V;obtain⟨⟨g1,g2,_⟩,_⟩:=(li _ _ _).1 c6;have c7:¬(bif decide (t < 0)then true else decide ((ts.length:Int)<=t))=true:=by
  have h1:¬t < 0:=by omega
  have ah:¬(ts.length:Int)<=t:=by omega
  simp[h1,ah]
 have aa:S8 ((⟨ts⟩:gJ),t)=some 0:=by
  rw[S8];simp only[akV];rw[v1];simp only[h',eg];rw[b' (by simp),b' c7]
 have tr:Ub ((⟨ts⟩:gJ),t,v)=some true:=by
  obtain⟨q,Ql,Qm⟩:=abW (by have:=S.n;omega) H.T S.K cJ t false;obtain⟨x,N8,UX⟩:=WB (by have:=S.n;omega) H.T S.K cJ t false;have ex:x=q:=by rw[Qm]at N8;exact(XI N8).symm
  have ee:q=true:=by rw[<-ex];exact UX.2 c6
  rw[Ub];simp only[ao.d5];rw[Ql,ee];rfl
 have ay:Rx ((⟨ts⟩:gJ),t,v)=some 0:=by
  rw[Rx];simp only[ao.d5];rw[aa];simp only[h',eg];rw[b' (by simp),tr];rfl
 refine⟨b,b1,?_,?_⟩
 . rw[abD];simp only[ao.d5];rw[ay];simp only[h',eg];rw[b' (by simp),b2];cases b <;> simp[zeroV,ao.d5]
 . rw[abt];simp only[ao.d5];rw[hf];simp only[h',eg];rw[b' (by simp),aG4 cJ t s4 c6];simp only[eg,ao.d5];obtain⟨q,y0,t'⟩:=arQ (by have:=S.n;omega) H.T S.K (aGj cJ) t;rw[y0];have:q=b:=by
    cases q <;> cases b <;> simp_all
   subst this;cases q <;> simp[zeroV]
theorem TW{k n:Nat}(hk:k<=1000)(h:n<=100000000000):room k n=true:=by
 unfold room Pz Jf;simp only[kc,I2];refine⟨?_,by omega⟩;have:(2*n+192)*k<=200000000192*1000:=Nat.mul_le_mul (by omega) hk;omega
def apL(x:cm)(id:Int)(i:Nat):Int:=if x.Kind=5 then(x.cy.getD i hL).ki else if x.Kind=6 then((Og x.cy id).getD hL).ki else x.hZ
def akc(x:cm)(id:Int)(i:Nat):Int:=if x.Kind=5 then(x.cy.getD i hL).bo else if x.Kind=6 then id else i
theorem aMf(x:cm)(v:ao)(i:Nat):Jt x v i=akc x v.bo i:=rfl
abbrev RN :=List Int×Int×ao
mutual
def x1(ts:List cm)(t:Int):ao->List RN
 | ⟨k,b,i,s,id,ks,is,r⟩=>([],t,⟨k,b,i,s,id,ks,is,r⟩)::Md ts (ts.getD t.toNat e1) id 0 is
def Md(ts:List cm)(x:cm)(id:Int)(i:Nat):List ao->List RN
 | []=>[]
 | v::l=>(x1 ts (apL x id i) v).map (λq=>(akc x id i::q.1,q.2))++Md ts x id (i+1) l
end
section
variable {ts:List cm}
theorem aeG(t:Int)(v:ao):x1 ts t v=([],t,v)::Md ts (ts.getD t.toNat e1) v.bo 0 v.b9:=by
 cases v;rw[x1]
theorem akX(x:cm)(v:ao){i:Nat}(al:i < v.b9.length):Md ts x v.bo i (v.b9.drop i)=(x1 ts (r1 x v i) (v.b9.getD i e2)).map (λq=>(Jt x v i::q.1,q.2))++Md ts x v.bo (i+1) (v.b9.drop (i+1)):=by
 rw[aaW al,Md,G' al];rfl
mutual
theorem aba(t:Int):∀v:ao,(x1 ts t v).length<=wt v
 | ⟨k,b,i,s,id,ks,is,r⟩=>by
  rw[x1,TI,wt];have:=ayX (ts.getD t.toNat e1) id 0 is;omega
theorem ayX(x:cm)(id:Int)(i:Nat):∀l:List ao,(Md ts x id i l).length<=KW l
 | []=>by rw[Md];exact Pq _
 | v::l=>by
  rw[Md,KW,MM,JU];have:=aba (apL x id i) v;have:=ayX x id (i+1) l;omega
end
def VC(ts:List cm)(x:cm)(v:ao):Prop:=v.Rest≠[]\/¬PD x v\/¬∀k,k∈v.e0->PD (ts.getD x.Key.toNat e1) k
noncomputable def Ri (ts:List cm) (x:cm) (v:ao):Bool:=@decide (VC ts x v) (Classical.propDecidable _)
theorem ah1{x:cm}{v:ao}:Ri ts x v=true↔VC ts x v:=by
 unfold Ri;exact @decide_eq_true_iff _ (Classical.propDecidable _)
noncomputable def LX (ts:List cm) (p:List Int) (q:RN):Option (List Int):=if Ri ts (ts.getD q.2.1.toNat e1) q.2.2=true then some (p++q.1)else none
theorem amb(p:List Int)(l:List RN):(l.filterMap (LX ts p)).length<=l.length:=List.length_filterMap_le _ _
theorem awA(p:List Int)(n:Int)(l:List RN):(l.map (λq=>((n::q.1,q.2):RN))).filterMap (LX ts p)=l.filterMap (LX ts (p++[n])):=by
 rw[List.filterMap_map]
 congr 1
 funext q
 unfold LX;simp
theorem al0{l:List ao}{i:Nat}(al:i < l.length):KW (l.drop i)=wt (l.getD i e2)+KW (l.drop (i+1)):=by
 rw[aaW al,ab4,G' al]
theorem alc(l:List ao)(i:Nat):KW (l.drop i)<=KW l:=by
 induction l generalizing i with
 | nil=>simp
 | cons v l ih=>
  cases i with
  | zero=>simp
  | succ i=>rw[List.drop_succ_cons,ab4];have:=ih i;omega
def aeD(ts:List cm)(t:Int)(v:ao):Prop:=∀p:List Int,p.length+wt v<=10000000000->Yi ((⟨ts⟩:gJ),t,v,p)=some ((x1 ts t v).filterMap (LX ts p))
theorem arf{x:cm}{v:ao}{p:List Int}(aJ:v.b9.length <=1000)(h:∀i,i < v.b9.length -> aeD ts (r1 x v i) (v.b9.getD i e2))(a7:p.length+KW v.b9+1 <=10000000000):∀(k i:Nat) (acc:List (List Int)),i+k=v.b9.length -> acc.length+KW (v.b9.drop i) <=20000000000 ->
 Yb (p,NB x v v.b9.length,(v.b9.length:Int),(i:Int),ts,v,acc)=some (acc++(Md ts x v.bo i (v.b9.drop i)).filterMap (LX ts p))
 | 0,i,acc,al,ch=>by
  rw[Yb.eq_1,b' (by simp;omega),Q6 (by omega),Md];simp
 | k+1,i,acc,al,ch=>by
  have ey:i < v.b9.length:=by omega
  have hw:=al0 ey;have hle:=alc v.b9 i;have YU:=h i ey (p++[Jt x v i]) (by rw[MM];show p.length+1+_<=_;omega);have hlen:((x1 ts (r1 x v i) (v.b9.getD i e2)).filterMap (LX ts (p++[Jt x v i]))).length<=wt (v.b9.getD i e2):=SH (amb _ _) (aba _ _)
  rw[Yb.eq_1,b6 (by simp;omega),b6 (d4 (by rw[P0];exact ey)),o1,ah9 x v ey];have TA:MS 8 p=some p:=by unfold MS;rw[b6 (TW (by omega) (by omega))]
  simp only[h',eg,ao.d5];rw[b6 (d4 ey),TA];simp only[eg];rw[b6 (TW (by omega) (by rw[MM];show p.length+1<=_;omega)),YU];simp only[eg];rw[b6 (TW (by omega) (by rw[MM];omega)),pv (by omega)]
  have ih:=arf aJ h a7 k (i+1) (acc++(x1 ts (r1 x v i) (v.b9.getD i e2)).filterMap (LX ts (p++[Jt x v i]))) (by omega) (by rw[MM];omega);rw[ih,akX x v ey,List.filterMap_append,awA,SE]
theorem aCM(H:Qz ts){t:Int}{v:ao}(s4:KY v)(c6:qj ts false t v)(hk:∀i,i < v.b9.length->aeD ts (r1 (ts.getD t.toNat e1) v i) (v.b9.getD i e2)):∀p:List Int,p.length+wt v<=10000000000->Yi ((⟨ts⟩:gJ),t,v,p)=some ((x1 ts t v).filterMap (LX ts p)):=by
 intro p a7;have S:=H.V.Re H.T;obtain⟨L9,IJ,Y2⟩:=TU s4 c6;obtain⟨⟨g1,g2,g3,g4⟩,_⟩:=(li _ _ _).1 c6;have dx:t.toNat < ts.length:=by omega
 have K6:=oJ dx e1;have n2:=aef S c6 (by omega);have aoL:=ads v;obtain⟨Ky,s1,s2⟩:=ahN (H.T _ K6) v;obtain⟨Ou,hg,hl⟩:=ams H.T (x:=ts.getD t.toNat e1) (v:=v) (by omega) (amt c6);rw[aeG,apb];generalize aa:ts.getD t.toNat e1=x at*;have tw:eh t ts.length=true:=by simp[eh];omega
 have aoC:LX ts p (([],t,v):RN)=if Ri ts x v=true then some p else none:=by
  unfold LX;simp only[aa,Q8]
 have L:=λacc (ch:acc.length<=1)=>arf (x:=x) (v:=v) (p:=p) (by omega) hk (by omega) v.b9.length 0 acc (by omega) (by rw[UM];omega)
 have L':∀acc:List (List Int),acc.length<=1->Yb (p,NB x v v.b9.length,(v.b9.length:Int),0,ts,v,acc)=some (acc++(Md ts x v.bo 0 v.b9).filterMap (LX ts p)):=λacc ch=>by
  have:=L acc ch;rw[UM]at this;exact this
 have ar:decide (0 < (v.Rest.length:Int))=decide (v.Rest≠[]):=by
  cases v.Rest with
  | nil=>rfl
  | cons a l=>simp
 have ai:Ri ts x v=(decide (v.Rest≠[]) || Ky || Ou):=by
  rw[agt,ah1];unfold VC;rw[<-s2,<-hl];cases Ky <;> cases Ou <;> simp
 rw[Yi,b6 tw];simp only[h',eg,ao.d5,aa];rw[ar,aoC,ai,s1,hg];have e':(if(!decide (v.Rest≠[]))=true then some Ky else some false)=some (!decide (v.Rest≠[]) && Ky):=by cases decide (v.Rest≠[]) <;> rfl
 rw[e'];simp only[eg];have hf:(if(!(bif decide (v.Rest≠[])then true else !decide (v.Rest≠[]) && Ky))=true then some Ou else some false)=some (!(decide (v.Rest≠[]) || Ky) && Ou):=by cases decide (v.Rest≠[]) <;> cases Ky <;> rfl
 rw[hf];simp only[eg];have te:(bif bif decide (v.Rest≠[])then true else !decide (v.Rest≠[]) && Ky then true else !(decide (v.Rest≠[]) || Ky) && Ou)=(decide (v.Rest≠[]) || Ky || Ou):=by cases decide (v.Rest≠[]) <;> cases Ky <;> cases Ou <;> rfl
 rw[te];cases ay:(decide (v.Rest≠[]) || Ky || Ou)with
 | true=>
  rw[b6 rfl,b6 (TW (by omega) (by simp)),n2];simp only[eg,P0];rw[L' [p] (by simp)];rfl
 | false=>
  rw[b' (by simp),n2];simp only[eg,P0];rw[L' [] (by simp)];rfl
theorem aqQ{x:cm}{v:ao}{p:List Int}(aJ:v.b9.length <=1000)(h:∀i,i < v.b9.length -> aeD ts (r1 x v i) (v.b9.getD i e2))(a7:p.length+KW v.b9+1 <=10000000000):∀(k i:Nat) (acc:List (List Int)),i+k=v.b9.length -> acc.length+KW (v.b9.drop i) <=20000000000 ->
 W2 (p,NB x v v.b9.length,(v.b9.length:Int),(i:Int),ts,v,acc)=some (acc++(Md ts x v.bo i (v.b9.drop i)).filterMap (LX ts p))
 | 0,i,acc,al,ch=>by
  rw[W2.eq_1,b' (by simp;omega),Q6 (by omega),Md];simp
 | k+1,i,acc,al,ch=>by
  have ey:i < v.b9.length:=by omega
  have hw:=al0 ey;have hle:=alc v.b9 i;have YU:=h i ey (p++[Jt x v i]) (by rw[MM];show p.length+1+_<=_;omega);have hlen:((x1 ts (r1 x v i) (v.b9.getD i e2)).filterMap (LX ts (p++[Jt x v i]))).length<=wt (v.b9.getD i e2):=SH (amb _ _) (aba _ _)
  rw[W2.eq_1,b6 (by simp;omega),b6 (d4 (by rw[P0];exact ey)),o1,ah9 x v ey];have TA:MS 8 p=some p:=by unfold MS;rw[b6 (TW (by omega) (by omega))]
  simp only[h',eg,ao.d5];rw[b6 (d4 ey),TA];simp only[eg];rw[b6 (TW (by omega) (by rw[MM];show p.length+1<=_;omega)),YU];simp only[eg];rw[b6 (TW (by omega) (by rw[MM];omega)),pv (by omega)]
  have ih:=aqQ aJ h a7 k (i+1) (acc++(x1 ts (r1 x v i) (v.b9.getD i e2)).filterMap (LX ts (p++[Jt x v i]))) (by omega) (by rw[MM];omega);rw[ih,akX x v ey,List.filterMap_append,awA,SE]
theorem aD3(H:Qz ts){t:Int}{v:ao}(s4:KY v)(c6:qj ts false t v)(hk:∀i,i < v.b9.length->aeD ts (r1 (ts.getD t.toNat e1) v i) (v.b9.getD i e2)):∀p:List Int,p.length+wt v<=10000000000->aew ((⟨ts⟩:gJ),t,v,p)=some ((x1 ts t v).filterMap (LX ts p)):=by
 intro p a7;have S:=H.V.Re H.T;obtain⟨L9,IJ,Y2⟩:=TU s4 c6;obtain⟨⟨g1,g2,g3,g4⟩,_⟩:=(li _ _ _).1 c6;have dx:t.toNat < ts.length:=by omega
 have K6:=oJ dx e1;have n2:=aef S c6 (by omega);have aoL:=ads v;obtain⟨Ky,s1,s2⟩:=ahN (H.T _ K6) v;obtain⟨Ou,hg,hl⟩:=ams H.T (x:=ts.getD t.toNat e1) (v:=v) (by omega) (amt c6);rw[aeG,apb];generalize aa:ts.getD t.toNat e1=x at*;have tw:eh t ts.length=true:=by simp[eh];omega
 have aoC:LX ts p (([],t,v):RN)=if Ri ts x v=true then some p else none:=by
  unfold LX;simp only[aa,Q8]
 have L:=λacc (ch:acc.length<=1)=>aqQ (x:=x) (v:=v) (p:=p) (by omega) hk (by omega) v.b9.length 0 acc (by omega) (by rw[UM];omega)
 have L':∀acc:List (List Int),acc.length<=1->W2 (p,NB x v v.b9.length,(v.b9.length:Int),0,ts,v,acc)=some (acc++(Md ts x v.bo 0 v.b9).filterMap (LX ts p)):=λacc ch=>by
  have:=L acc ch;rw[UM]at this;exact this
 have ar:decide (0 < (v.Rest.length:Int))=decide (v.Rest≠[]):=by
  cases v.Rest with
  | nil=>rfl
  | cons a l=>simp
 have ai:Ri ts x v=(decide (v.Rest≠[]) || Ky || Ou):=by
  rw[agt,ah1];unfold VC;rw[<-s2,<-hl];cases Ky <;> cases Ou <;> simp
 rw[aew,b6 tw];simp only[h',eg,ao.d5,aa];rw[ar,aoC,ai,s1,hg];have e':(if(!decide (v.Rest≠[]))=true then some Ky else some false)=some (!decide (v.Rest≠[]) && Ky):=by cases decide (v.Rest≠[]) <;> rfl
 rw[e'];simp only[eg];have hf:(if(!(bif decide (v.Rest≠[])then true else !decide (v.Rest≠[]) && Ky))=true then some Ou else some false)=some (!(decide (v.Rest≠[]) || Ky) && Ou):=by cases decide (v.Rest≠[]) <;> cases Ky <;> rfl
 rw[hf];simp only[eg];have te:(bif bif decide (v.Rest≠[])then true else !decide (v.Rest≠[]) && Ky then true else !(decide (v.Rest≠[]) || Ky) && Ou)=(decide (v.Rest≠[]) || Ky || Ou):=by cases decide (v.Rest≠[]) <;> cases Ky <;> cases Ou <;> rfl
 rw[te];cases ay:(decide (v.Rest≠[]) || Ky || Ou)with
 | true=>
  rw[b6 rfl,b6 (TW (by omega) (by simp)),n2];simp only[eg,P0];rw[L' [p] (by simp)];rfl
 | false=>
  rw[b' (by simp),n2];simp only[eg,P0];rw[L' [] (by simp)];rfl
theorem aGl(H:Qz ts){v:ao}(cJ:pI v):∀t,KY v->qj ts false t v->aeD ts t v:=by
 induction cJ with
 | mk v hs h1 ah bJ hk al Ph Ls K8 Nv Nw N2 Jp=>
  intro t s4 c6;exact aCM H s4 c6 λi JG=>Jp _ (oJ JG e2) _ (s4.items _ (oJ JG e2)) (Vp c6 i JG)
theorem aGm(H:Qz ts){t:Int}{v:ao}(cJ:pI v)(s4:KY v)(c6:qj ts false t v)(hw:wt v<=10000000000):aew ((⟨ts⟩:gJ),t,v,[])=some ((x1 ts t v).filterMap (LX ts [])):=by
 cases cJ with
 | mk v hs h1 ah bJ hk al Ph Ls K8 Nv Nw=>
 exact aD3 H s4 c6 (λi JG=>aGl H (al _ (oJ JG e2)) _ (s4.items _ (oJ JG e2)) (Vp c6 i JG)) [] (by simpa using hw)
end
section
variable {ts:List cm}
theorem avi{x:cm}(hm:U6 x.cy)(aJ:x.cy.length<=1000){id:Int}{m:em}(tr:Og x.cy id=some m):∃j,j < x.cy.length/\QB (x,id)=some ((j:Int),true)/\x.cy.getD j hL=m:=by
 obtain⟨j,C3,Qg,aaO⟩:=arS hm aJ tr;obtain⟨r,kJ,pK,_⟩:=Zu (t:=x) id (by omega);refine⟨j,C3,?_,aaO⟩;rw[pK,<-kJ,Qg]
theorem aHR{x:cm}(hm:U6 x.cy)(aJ:x.cy.length<=1000){i:Nat}(al:i < x.cy.length):QB (x,(x.cy.getD i hL).bo)=some ((i:Int),true):=by
 have ON:=oJ al hL;obtain⟨r,kJ,pK⟩:=aqP (t:=x) (id:=(x.cy.getD i hL).bo) (by omega);rw[kJ];rcases pK with⟨j,h1,ah,bJ,rfl⟩ | ⟨h1,_⟩
 . have:j=i:=by
    rw[G' h1,G' al]at ah;rcases apd j i with h | h | h
    . have:=ac9.1 hm.1 j i h1 al h;omega
    . exact h
    . exact absurd rfl (bJ i h)
   rw[this]
 . exact absurd rfl (h1 i al)
mutual
theorem apP(t:Int):∀(v:ao) (q:RN),q∈x1 ts t v->q.1.length<=wt v
 | ⟨k,b,i,s,id,ks,is,r⟩,q,ee=>by
  rw[x1]at ee;rw[wt];rcases LU.1 ee with rfl | ee
  . exact Pq _
  . have:=apQ _ _ _ is q ee;omega
theorem apQ(x:cm)(id:Int)(i:Nat):∀(l:List ao) (q:RN),q∈Md ts x id i l->q.1.length<=KW l
 | [],q,ee=>by rw[Md]at ee;cases ee
 | v::l,q,ee=>by
  rw[Md]at ee;rw[KW];rcases Nx.1 ee with ee | ee
  . obtain⟨w,hw,rfl⟩:=LV.1 ee;have h1:=aMy _ v w hw;show w.1.length+1<=_;omega
  . have:=apQ x id (i+1) l q ee;omega
theorem aMy(t:Int):∀(v:ao) (q:RN),q∈x1 ts t v->q.1.length+1<=wt v
 | ⟨k,b,i,s,id,ks,is,r⟩,q,ee=>by
  rw[x1]at ee;rw[wt];rcases LU.1 ee with rfl | ee
  . show 0+1<=_;omega
  . have:=apQ _ _ _ is q ee;omega
end
theorem amu{x:cm}{id:Int}:∀{l:List ao} {i:Nat} {q:RN},q∈Md ts x id i l->∃j,j < l.length/\∃w,w∈x1 ts (apL x id (i+j)) (l.getD j e2)/\q=(akc x id (i+j)::w.1,w.2)
 | [],i,q,ee=>by rw[Md]at ee;cases ee
 | v::l,i,q,ee=>by
  rw[Md]at ee;rcases Nx.1 ee with ee | ee
  . obtain⟨w,hw,rfl⟩:=LV.1 ee;exact⟨0,by simp,w,hw,rfl⟩
  . obtain⟨j,C3,w,Wc,aMA⟩:=amu ee;refine⟨j+1,by simp;omega,w,?_,?_⟩
    . rw[show i+(j+1)=i+1+j from by omega];exact Wc
    . rw[show i+(j+1)=i+1+j from by omega];exact aMA
theorem aHS{pl:Bool}{v:ao}(cJ:pI v):∀t,qj ts pl t v->∀q,q∈x1 ts t v->qj ts pl q.2.1 q.2.2/\pI q.2.2:=by
 induction cJ with
 | mk v hs h1 ah bJ hk al Ph Ls K8 Nv Nw N2 Jp=>
  intro t c6 q ee;rw[aeG]at ee;rcases LU.1 ee with rfl | ee
  . exact⟨c6,.mk v hs h1 ah bJ hk al Ph Ls K8 Nv Nw⟩
  . obtain⟨j,C3,w,Wc,rfl⟩:=amu ee;rw[Jq]at Wc;exact Jp _ (oJ C3 e2) _ (Vp c6 j C3) w Wc
theorem avj{n i5:Int}{v:ao}{x:cm}{l:List (List Int)}(ee:∀q,q∈l -> q.length <=10000000000)(s4:l.length <=50000000000):∀(k i:Nat) (acc:List (List Int)),i+k=l.length -> acc.length+k <=50000000000 ->
 S1 (i5,n,l,(i:Int),ts,v,acc,x)=some (i5,ts,v,acc++(l.drop i).map (λq=>n::q),x)
 | 0,i,acc,al,ch=>by
  rw[S1,b' (by simp;omega),Q6 (by omega)];simp[ao.d5]
 | k+1,i,acc,al,ch=>by
  have ey:i < l.length:=by omega
  have h1:=ee _ (oJ ey []);rw[S1,b6 (by simp;omega),b6 (d4 ey),o1];simp only[h',eg,ao.d5];rw[b6 (TW (by omega) (by rw[MM];show 1+_<=_;omega)),b6 (TW (by omega) (by rw[MM];show acc.length+1<=_;omega)),pv (by omega)]
  have ih:=avj (n:=n) (i5:=i5) (v:=v) (x:=x) ee s4 k (i+1) (acc++[n::l.getD i []]) (by omega) (by rw[MM];show acc.length+1+k<=_;omega);have e:([n]++l.getD i []:List Int)=n::l.getD i []:=rfl;rw[e,ih,aaW ey,Q9,G' ey,SE];rfl
def abU(ts:List cm)(t:Int)(v:ao):Prop:=TZ ((⟨ts⟩:gJ),t,v)=some ((x1 ts t v).map Prod.fst)
theorem avk {x:cm} {v:ao} (aJ:v.b9.length <=1000) (hi:x.Kind=5 -> v.b9.length <=x.cy.length) (q0:x.Kind=6 -> 0 < v.b9.length -> ∃m,Og x.cy v.bo=some m) (uJ:x.Kind=6 -> U6 x.cy /\ x.cy.length <=16)
 (h:∀i,i < v.b9.length->abU ts (r1 x v i) (v.b9.getD i e2)) (hw:KW v.b9<=5000000000):∀(k i:Nat) (acc:List (List Int)),i+k=v.b9.length->acc.length+KW (v.b9.drop i)<=20000000000->
 TX ((i:Int),ts,v,acc,x)=some (acc++(Md ts x v.bo i (v.b9.drop i)).map Prod.fst)
 | 0,i,acc,al,ch=>by
  rw[TX,b' (by simp;omega),Q6 (by omega),Md];simp
 | k+1,i,acc,al,ch=>by
  have ey:i < v.b9.length:=by omega
  have aoJ:=al0 ey;have hle:=alc v.b9 i;have YU:=h i ey;unfold abU at YU;have hlen:((x1 ts (r1 x v i) (v.b9.getD i e2)).map Prod.fst).length<=wt (v.b9.getD i e2):=by rw[JU];exact aba _ _
  have tw:=λ(n:Int)=>avj (ts:=ts) (n:=n) (i5:=(i:Int)) (v:=v) (x:=x) (l:=(x1 ts (r1 x v i) (v.b9.getD i e2)).map Prod.fst) (λq ee=>by
   obtain⟨w,af8,rfl⟩:=LV.1 ee;have:=apP _ _ _ af8
   omega) (by omega) _ 0 acc (Jq _) (by omega)
  have ih:=avk aJ hi q0 uJ h hw k (i+1) (acc++((x1 ts (r1 x v i) (v.b9.getD i e2)).map Prod.fst).map (λq=>Jt x v i::q)) (by omega) (by rw[MM,JU];omega)
  have Q1:∀T N,T=r1 x v i->N=Jt x v i->(TZ ((⟨ts⟩:gJ),T,v.b9.getD i e2) >>=λr=>S1 ((i:Int),N,r,0,ts,v,acc,x) >>=λo=>TX (hO .i64 o.1 1,o.2.1,o.2.2.1,o.2.2.2.1,o.2.2.2.2))=some (acc++(Md ts x v.bo i (v.b9.drop i)).map Prod.fst):=by
   intro T N k' q6;rw[k',q6,YU];simp only[h',eg];have h0:=tw (Jt x v i);rw[UM]at h0;have yJ:S1 ((i:Int),Jt x v i,(x1 ts (r1 x v i) (v.b9.getD i e2)).map Prod.fst,0,ts,v,acc,x)=_:=h0;rw[yJ];simp only[eg];rw[pv (by omega),ih,akX x v ey,Za,SE]
   simp[ajN,Function.comp_def]
  rw[TX,b6 (by simp;omega)];simp only[ao.d5];by_cases mJ:x.Kind=5
  . have afY:i < x.cy.length:=by have:=hi mJ;omega
    rw[b6 (by simp[mJ]),b6 (d4 afY),b6 (d4 afY),b' (by simp[mJ]),b6 (d4 ey),o1];exact Q1 _ _ (by unfold r1;rw[b6 mJ]) (by unfold Jt;rw[b6 mJ])
  . rw[b' (by simp[mJ])];by_cases nJ:x.Kind=6
    . obtain⟨m,tr⟩:=q0 nJ (by omega);obtain⟨j,C3,Qg,aaO⟩:=avi (uJ nJ).1 (by have:=(uJ nJ).2;omega) tr;rw[b6 (by simp[nJ]),Qg];simp only[h',eg];rw[b6 (d4 C3),b6 (d4 ey),o1,o1,aaO];exact Q1 _ _ (by unfold r1;rw[b' mJ,b6 nJ,tr];rfl) (by unfold Jt;rw[b' mJ,b6 nJ])
    . rw[b' (by simp[nJ]),b6 (d4 ey),o1];exact Q1 _ _ (by unfold r1;rw[b' mJ,b' nJ]) (by unfold Jt;rw[b' mJ,b' nJ])
end
section
variable {ts:List cm}
theorem aGn(H:Qz ts){v:ao}(cJ:pI v):∀t,KY v->qj ts false t v->wt v<=5000000000->abU ts t v:=by
 have S:=H.V.Re H.T
 induction cJ with
 | mk v hs h1 ah bJ hk al Ph Ls K8 Nv Nw N2 Jp=>
  intro t s4 c6 hw;obtain⟨L9,IJ,Y2⟩:=TU s4 c6;obtain⟨⟨g1,g2,g3,g4⟩,ay⟩:=(li _ _ _).1 c6;have K6:=oJ (by omega:t.toNat < ts.length) e1;have aoL:=ads v;have afU:∀i,i < v.b9.length->abU ts (r1 (ts.getD t.toNat e1) v i) (v.b9.getD i e2):=λi JG=>by
   have hm:=oJ JG e2;exact Jp _ hm _ (s4.items _ hm) (Vp c6 i JG) (by have:=al' hm;omega)
  have tw:eh t ts.length=true:=by simp[eh];omega
  unfold abU;rw[TZ,b6 tw,aeG];generalize aa:ts.getD t.toNat e1=x at*;simp only[ao.d5]
  have:=avk (x:=x) (v:=v) (by omega) (λmJ=>by
   rcases ay with h | h | h | h | h | h | h | h | h
   case inr.inr.inr.inr.inl=>have:=(Ud.1 h.2.2.2.2.2.2.2).1;omega
   all_goals (have:=h.1;omega)) (λnJ UH=>by
   rcases ay with h | h | h | h | h | h | h | h | h
   case inr.inr.inr.inr.inr.inl=>
    obtain⟨a1,a2,a3,a4,a5,n'⟩:=h;split at n'
    . rename_i m hm;exact⟨m,hm⟩
    . rw[n'.2.2.2.1]at UH;cases UH
   all_goals (have:=h.1;omega)) (λnJ=>S.A x K6 (.inr nJ)) afU (by omega) v.b9.length 0 [[]] (by omega) (by rw[UM];show 1+_<=_;omega)
  rw[UM]at this;have h0:TX (0,ts,v,[[]],x)=_:=this;rw[h0];rfl
theorem azo(S:W5 ts){z0 z2 z4:Int}{z1:Bool}{z3:List UInt8}{v:ao}(cJ:pI v):∀t,qj ts false t v -> ∀q,q∈x1 ts t v -> ∀pre:List Int,pre.length+q.1.length <=100000000000 ->
 S5 (t,pre++q.1,(pre.length:Int),ts,v,z0,z1,z2,z3,z4)=some (.inr (q.2.1,q.2.2,z0,z1,z2,z3,z4)):=by
 induction cJ with
 | mk v hs h1 ah bJ hk al Ph Ls K8 Nv Nw N2 Jp=>
  intro t c6 q ee pre a7;rw[aeG]at ee;rcases LU.1 ee with rfl | ee
  . rw[S5,b' (by simp)];simp only[ao.d5]
  . obtain⟨j,C3,w,Wc,rfl⟩:=amu ee;rw[Jq]at Wc;have YU:=Vp c6 j C3;obtain⟨⟨g1,g2,g3,g4⟩,ay⟩:=(li _ _ _).1 c6;have K6:=oJ (by omega:t.toNat < ts.length) e1;have tw:eh t ts.length=true:=by simp[eh];omega
    generalize aa:ts.getD t.toNat e1=x at*;rw[Jq];generalize g':akc x v.bo j=n at*;have aoq:pre.length+(w.1.length+1)<=100000000000:=by simpa[Jq]using a7
    have ih:=Jp _ (oJ C3 e2) _ YU w Wc (pre++[n]) (by rw[MM];show pre.length+1+_<=_;omega);have e':(pre++[n]:List Int)++w.1=pre++n::w.1:=by simp
    have hf:((pre++[n]:List Int).length:Int)=((pre.length+1:Nat):Int):=by simp
    rw[e',hf]at ih;have te:(pre++n::w.1:List Int).getD pre.length 0=n:=by
     rw[api,V1 (JA _),ac7];rfl
    rw[S5,b6 (by simp;omega),b6 tw];simp only[h',eg,aa,ao.d5];rw[b6 (d4 (by simp)),o1,te,pv (by omega)];have aoA:n=Jt x v j:=by rw[aMf];exact g'.symm
    by_cases mJ:x.Kind=5
    . have uJ:=S.A x K6 (.inl mJ);have afY:j < x.cy.length:=by
       rcases ay with h | h | h | h | h | h | h | h | h
       case inr.inr.inr.inr.inl=>have:=(Ud.1 h.2.2.2.2.2.2.2).1;omega
       all_goals (have:=h.1;omega)
      have q6:n=(x.cy.getD j hL).bo:=by rw[aoA];unfold Jt;rw[b6 mJ]
      have k':(x.cy.getD j hL).ki=r1 x v j:=by unfold r1;rw[b6 mJ]
      have ON:=aHR uJ.1 (by have:=uJ.2;omega) afY;rw[<-q6]at ON;rw[b6 (by simp[mJ]),ON];simp only[eg];rw[b6 trivial,b6 (d4 afY),b' (by simp),b6 (d4 C3),o1,k'];exact ih
    . rw[b' (by simp[mJ])];by_cases nJ:x.Kind=6
      . have uJ:=S.A x K6 (.inr nJ);have aaB:j=0/\∃m,Og x.cy v.bo=some m:=by
         rcases ay with h | h | h | h | h | h | h | h | h
         case inr.inr.inr.inr.inr.inl=>
          obtain⟨a1,a2,a3,a4,a5,n'⟩:=h;split at n'
          . rename_i m hm;exact⟨by have:=n'.2.1;omega,m,hm⟩
          . rw[n'.2.2.2.1]at C3;cases C3
         all_goals (have:=h.1;omega)
        obtain⟨rfl,m,tr⟩:=aaB;obtain⟨PO,y0,t',SL⟩:=avi uJ.1 (by have:=uJ.2;omega) tr;have q6:n=v.bo:=by rw[aoA];unfold Jt;rw[b' mJ,b6 nJ]
        have k':m.ki=r1 x v 0:=by unfold r1;rw[b' mJ,b6 nJ,tr];rfl
        have aKr:eh 0 v.b9.length=true:=d4 C3;rw[b6 (by simp[nJ]),q6,t'];simp only[eg];rw[b6 (by simp),b6 (d4 y0),b6 aKr,o1,SL,k',show(0:Int).toNat=0 from rfl,<-q6];exact ih
      . rw[b' (by simp[nJ])];have q6:n=(j:Int):=by rw[aoA];unfold Jt;rw[b' mJ,b' nJ]
        have k':x.hZ=r1 x v j:=by unfold r1;rw[b' mJ,b' nJ]
        have hk:x.Kind=7\/x.Kind=8\/x.Kind=9:=by
         rcases ay with h | h | h | h | h | h | h | h | h
         . rw[h.2.2.2.2.2.1]at C3;cases C3
         . rw[h.2.2.2.2.2.1]at C3;cases C3
         . rw[h.2.2.2.2.2.1]at C3;cases C3
         . rw[h.2.2.2.2.2.1]at C3;cases C3
         all_goals (have:=h.1;omega)
        rw[q6]at ih ⊢;have ai:(bif decide ((0:Int)<=(j:Int))then decide ((j:Int) < (v.b9.length:Int))else false)=true:=by
         have:(j:Int) < (v.b9.length:Int):=by omega
         simp[this]
        rcases hk with hk | hk | hk
        . rw[hk];simp only[Int.reduceEq,UP,aaZ,q',eq_self,u1,vv];rw[b6 ai,b' (by simp),b6 (d4 C3),o1,k'];exact ih
        . rw[hk];simp only[Int.reduceEq,UP,aaZ,q',eq_self,u1,vv];rw[b6 ai,b' (by simp),b6 (d4 C3),o1,k'];exact ih
        . rw[hk];simp only[Int.reduceEq,UP,aaZ,q',eq_self,u1,vv];rw[b6 ai,b' (by simp),b6 (d4 C3),o1,k'];exact ih
theorem aI5(S:W5 ts){t:Int}{v:ao}(cJ:pI v)(c6:qj ts false t v){q:RN}(ee:q∈x1 ts t v)(g':q.1.length<=100000000000):ahq ((⟨ts⟩:gJ),t,v,q.1)=some (q.2.2,q.2.1,0):=by
 obtain⟨x,N8,UX⟩:=WB (by have:=S.n;omega) S.T S.K cJ t false;have aa:x=true:=UX.2 c6;have tr:Yd ((⟨ts⟩:gJ),t,v)=some true:=by
  rw[Yd];simp only[ao.d5];rw[N8,aa];rfl
 rw[ahq];simp only[ao.d5];rw[tr];simp only[h',eg];rw[b' (by simp)];have:=azo S cJ t c6 q ee [] (z0:=0) (z1:=false) (z2:=0) (z3:=[]) (z4:=0) (by simpa using g');have h0:S5 (t,q.1,0,ts,v,0,false,0,[],0)=_:=this;rw[h0];rfl
theorem ace{x:cm}{v:ao}{b:Bool}(h:b=true↔VC ts x v):Ri ts x v=b:=by
 rw[agt,ah1];exact h.symm
theorem aFs{x:cm}(aa:vk x)(v:ao):∃r,ZO (x,v.bo)=some r/\((!r.2)=true↔¬(∃y,y∈x.hq/\y.bo=v.bo)):=by
 obtain⟨r,_,kJ,pK⟩:=ahM (t:=x) v.bo (by have:=aa.1;have:=i4 (JA reachBytes);omega);refine⟨r,kJ,?_⟩;rcases pK with⟨j,C3,Qg,aaO,rfl⟩ | ⟨q,rfl⟩
 . simp only[Po,u1,false_iff];exactλh=>h ⟨_,oJ C3 wm,Qg⟩
 . simp only[Ov,true_iff];intro⟨y,ady,ahc⟩;obtain⟨i,al,rfl⟩:=K' ady;exact absurd ahc (by have:=q i al;rwa [G' al]at this)
theorem avl(S:W5 ts){t:Int}{v:ao}(c6:qj ts false t v)(OM:(ts.getD t.toNat e1).Kind≠8):WW ((⟨ts⟩:gJ),t,v)=some (Ri ts (ts.getD t.toNat e1) v):=by
 obtain⟨⟨g1,g2,g3,g4⟩,ay⟩:=(li _ _ _).1 c6;have K6:=oJ (by omega:t.toNat < ts.length) e1;have tw:eh t ts.length=true:=by simp[eh];omega
 generalize aa:ts.getD t.toNat e1=x at*;have hk:v.e0=[]:=by
  rcases ay with h | h | h | h | h | h | h | h | h
  . exact h.2.2.2.2.1
  . exact h.2.2.2.2.1
  . exact h.2.2.2.2.1
  . exact h.2.2.2.2.1
  . exact h.2.2.2.2.2.1
  . exact h.2.2.2.2.1
  . exact h.2.2.2.2.2.1
  . exact absurd h.1 (by omega)
  . exact h.2.2.2.2.2.1
 have j1:∀k,k∈v.e0->PD (ts.getD x.Key.toNat e1) k:=by rw[hk];intro k h;cases h
 have ar:decide (0 < (v.Rest.length:Int))=true↔v.Rest≠[]:=by
  cases v.Rest with
  | nil=>simp
  | cons a l=>simp
 rw[WW,b6 tw];simp only[h',eg,aa,ao.d5];by_cases mJ:x.Kind=5
 . rw[mJ];simp only[Int.reduceEq,UP,aaZ,q',eq_self,u1,vv];rw[ace (b:=decide (0 < (v.Rest.length:Int)))];unfold VC PD;rw[ar];exact⟨.inl,λh=>h.elim id λh=>h.elim (λh=>absurd (λk=>absurd k (by omega)) h) λh=>absurd j1 h⟩
 . by_cases nJ:x.Kind=6
   . rw[nJ];simp only[Int.reduceEq,UP,aaZ,q',eq_self,u1,vv];rw[ace (b:=decide (0 < (v.Rest.length:Int)))];unfold VC PD;rw[ar];exact⟨.inl,λh=>h.elim id λh=>h.elim (λh=>absurd (λk=>absurd k (by omega)) h) λh=>absurd j1 h⟩
   . have af1:v.Rest=[]:=by
      rcases ay with h | h | h | h | h | h | h | h | h
      . exact h.2.2.2.2.2.2
      . exact h.2.2.2.2.2.2.1
      . exact h.2.2.2.2.2.2.1
      . exact h.2.2.2.2.2.2.1
      . exact absurd h.1 (by omega)
      . exact absurd h.1 (by omega)
      . exact h.2.2.2.2.2.2.1
      . exact absurd h.1 (by omega)
      . exact h.2.2.2.2.2.2.1
     have ajB:decide (x.Kind=5)=false:=by simp[mJ]
     have n6:decide (x.Kind=6)=false:=by simp[nJ]
     have n8:decide (x.Kind=8)=false:=by simp[OM]
     simp only[ajB,n6,n8,u1,vv];by_cases px:x.Kind=4
     . obtain⟨r,kJ,pK⟩:=aFs (S.T x K6) v;rw[b6 (by simp[px]),kJ];simp only[eg];rw[ace (b:=!r.2)];rw[pK];unfold VC PD;exact⟨λh=>.inr (.inl λk=>h (k px)),λh=>h.elim (λh=>absurd af1 h) λh=>h.elim (λh vc=>h λ_=>vc) λh=>absurd j1 h⟩
     . rw[b' (by simp[px])];rw[ace (b:=false)];unfold VC PD;simp only[u1,false_iff];exactλh=>h.elim (λh=>absurd af1 h) λh=>h.elim (λh=>absurd (λk=>absurd k px) h) λh=>absurd j1 h
theorem awB{x:cm}{k:ao}{t:Int}(c6:qj ts false t k)(h1:1<=(ts.getD t.toNat e1).Kind/\(ts.getD t.toNat e1).Kind<=4):Ri ts (ts.getD t.toNat e1) k=true↔¬PD (ts.getD t.toNat e1) k:=by
 obtain⟨⟨g1,g2,g3,g4⟩,ay⟩:=(li _ _ _).1 c6;rw[ah1];unfold VC;have ar:k.Rest=[]/\k.e0=[]:=by
  rcases ay with h | h | h | h | h | h | h | h | h
  . exact⟨h.2.2.2.2.2.2,h.2.2.2.2.1⟩
  . exact⟨h.2.2.2.2.2.2.1,h.2.2.2.2.1⟩
  . exact⟨h.2.2.2.2.2.2.1,h.2.2.2.2.1⟩
  . exact⟨h.2.2.2.2.2.2.1,h.2.2.2.2.1⟩
  all_goals (have:=h.1;omega)
 rw[ar.1,ar.2];simp
theorem aG5(S:W5 ts){t:Int}{v:ao}(cJ:pI v)(c6:qj ts false t v):WW ((⟨ts⟩:gJ),t,v)=some (Ri ts (ts.getD t.toNat e1) v):=by
 by_cases OM:(ts.getD t.toNat e1).Kind=8
 . obtain⟨⟨g1,g2,g3,g4⟩,ay⟩:=(li _ _ _).1 c6;have K6:=oJ (by omega:t.toNat < ts.length) e1;have tw:eh t ts.length=true:=by simp[eh];omega
   have awU:=S.adC _ K6 OM;generalize aa:ts.getD t.toNat e1=x at*;have aKh:v.Rest=[]/\Nc ts false x.Key v.e0:=by
    rcases ay with h | h | h | h | h | h | h | h | h
    case inr.inr.inr.inr.inr.inr.inr.inl=>exact⟨h.2.2.2.2.2.1,h.2.2.2.2.2.2.2.2.1⟩
    all_goals (have:=h.1;omega)
   obtain⟨af1,J5⟩:=aKh;have hlen:v.e0.length < 9223372036854775807:=by
    cases cJ with
    | mk v hs h1=>exact i4 h1
   have h:=Zx (λi=>WQ ((i:Int),ts,v,x)) v.e0.length (λi=>Ri ts (ts.getD x.Key.toNat e1) (v.e0.getD i e2)) (λ_=>.inl true) (.inr ())
    (λi al=>by
     have aoe:=OA.1 J5 _ (oJ al e2);rw[WQ,b6 (by simp;omega),b6 (d4 al),o1,pv (by omega)];simp only[ao.d5];rw[avl S aoe (by omega)]
     rfl)
    (by rw[WQ,b' (by simp)])
   have vK:WQ (((0:Nat):Int),ts,v,x)=WQ (0,ts,v,x):=rfl;simp only[vK]at h;rw[WW,b6 tw];simp only[h',eg,aa,ao.d5];rw[OM];simp only[Int.reduceEq,UP,aaZ,q',eq_self,u1,vv];rcases h with⟨j,C3,Qg,_,aoR⟩ | ⟨C3,aoR⟩
   . rw[aoR,ace (b:=true)]
     . rfl
     . simp only[true_iff];have aKt:=OA.1 J5 _ (oJ C3 e2);exact .inr (.inr λny=>(awB (x:=x) aKt awU).1 Qg (ny _ (oJ C3 e2)))
   . rw[aoR,ace (b:=false)]
     . rfl
     . simp only[u1,false_iff];intro h;rcases h with h | h | h
       . exact h af1
       . exact h λpx=>absurd px (by omega)
       . refine h λk hk=>?_
         obtain⟨i,al,rfl⟩:=K' hk;have aoe:=OA.1 J5 _ hk;have:=C3 i al;rw[G' al]at this;exact Classical.byContradiction λg'=>by
          have:=(awB (x:=x) aoe awU).2 g';simp_all
 . exact avl S c6 OM
theorem akY(S:W5 ts){t:Int}{v:ao}(cJ:pI v)(c6:qj ts false t v)(hw:wt v <=5000000000):∀(k i:Nat) (acc:List (List Int)),i+k=(x1 ts t v).length -> acc.length+k <=50000000000 ->
 WV (t,(x1 ts t v).map Prod.fst,(i:Int),ts,v,acc)=some (acc++((x1 ts t v).drop i).filterMap (LX ts []))
 | 0,i,acc,al,ch=>by
  rw[WV,b' (by simp;omega),Q6 (by omega)];simp
 | k+1,i,acc,al,ch=>by
  have ey:i < (x1 ts t v).length:=by omega
  have aoh:i < ((x1 ts t v).map Prod.fst).length:=by rw[JU];exact ey
  have hlen:=aba (ts:=ts) t v;have ee:(x1 ts t v)[i]∈x1 ts t v:=ajJ ey;obtain⟨f1,f2⟩:=aHS cJ t c6 _ ee;have aNa:=apP t v _ ee;have e':((x1 ts t v).map Prod.fst).getD i []=(x1 ts t v)[i].1:=by rw[G' aoh];simp
  rw[WV,b6 (by rw[JU];simp;omega),b6 (d4 aoh),o1,e'];simp only[ao.d5];rw[aI5 S cJ c6 ee (by omega)];simp only[h',eg,ao.d5];rw[aG5 S f2 f1];simp only[eg];rw[pv (by omega),aaW ey,apb]
  have hs:LX ts [] (x1 ts t v)[i]=if Ri ts (ts.getD (x1 ts t v)[i].2.1.toNat e1) (x1 ts t v)[i].2.2=true then some (x1 ts t v)[i].1 else none:=by unfold LX;rfl
  rw[hs];cases ai:Ri ts (ts.getD (x1 ts t v)[i].2.1.toNat e1) (x1 ts t v)[i].2.2 with
  | true=>
   rw[b6 rfl,b6 (d4 aoh),b6 (TW (by omega) (by rw[MM];show acc.length+1<=_;omega)),b6 rfl];rw[akY S cJ c6 hw k (i+1) (acc++[(x1 ts t v)[i].1]) (by omega) (by rw[MM];show acc.length+1+k<=_;omega),SE];rfl
  | false=>
   rw[b' (by simp),b' (by simp)];exact akY S cJ c6 hw k (i+1) acc (by omega) (by omega)
end
theorem aGo(l:List Int)(aJ:l.length < 9223372036854775807):ahY (l,l)=some true:=by
 have key:∀k i,i+k=l.length->X9 (l,l,(i:Int))=some (.inr ()):=by
  intro k
  induction k with
  | zero=>intro i al;rw[X9,b' (by simp;omega)]
  | succ k ih=>
   intro i al;have ey:i < l.length:=by omega
   rw[X9,b6 (by simp;omega),b6 (d4 ey),b6 (d4 ey),b' (by simp),pv (by omega)];exact ih (i+1) (by omega)
 have h0:X9 (l,l,0)=_:=key l.length 0 (by omega);rw[ahY,b' (by simp),h0];rfl
theorem aFt(l:List (List Int))(aJ:l.length < 9223372036854775807)(h:∀x,x∈l->x.length < 9223372036854775807):ahW (l,l)=some true:=by
 have key:∀k i,i+k=l.length->X6 (l,l,(i:Int))=some (.inr ()):=by
  intro k
  induction k with
  | zero=>intro i al;rw[X6,b' (by simp;omega)]
  | succ k ih=>
   intro i al;have ey:i < l.length:=by omega
   rw[X6,b6 (by simp;omega),b6 (d4 ey),b6 (d4 ey),o1,aGo _ (h _ (oJ ey []))];simp only[h',eg];rw[b' (by simp),pv (by omega)];exact ih (i+1) (by omega)
 have h0:X6 (l,l,0)=_:=key l.length 0 (by omega);rw[ahW,b' (by simp),h0];rfl
theorem aqu{ts:List cm}(H:Qz ts){t:Int}{v:ao}(cJ:pI v)(c6:qj ts false t v):Rx ((⟨ts⟩:gJ),t,v)=some 0:=by
 have S:=H.V.Re H.T;obtain⟨v1,_⟩:=aix H.T H.V;obtain⟨⟨g1,g2,_⟩,_⟩:=(li _ _ _).1 c6;have c7:¬(bif decide (t < 0)then true else decide ((ts.length:Int)<=t))=true:=by
  have h1:¬t < 0:=by omega
  have ah:¬(ts.length:Int)<=t:=by omega
  simp[h1,ah]
 have aa:S8 ((⟨ts⟩:gJ),t)=some 0:=by
  rw[S8];simp only[akV];rw[v1];simp only[h',eg];rw[b' (by simp),b' c7]
 have tr:Ub ((⟨ts⟩:gJ),t,v)=some true:=by
  obtain⟨q,Ql,Qm⟩:=abW (by have:=S.n;omega) H.T S.K cJ t false;obtain⟨x,N8,UX⟩:=WB (by have:=S.n;omega) H.T S.K cJ t false;have ex:x=q:=by rw[Qm]at N8;exact(XI N8).symm
  have ee:q=true:=by rw[<-ex];exact UX.2 c6
  rw[Ub];simp only[ao.d5];rw[Ql,ee];rfl
 rw[Rx];simp only[ao.d5];rw[aa];simp only[h',eg];rw[b' (by simp),tr];rfl
noncomputable def agK (ts:List cm) (t:Int) (v:ao):List (List Int):=(x1 ts t v).filterMap (LX ts [])
theorem aGp{ts:List cm}(H:Qz ts){t:Int}{v:ao}(cJ:pI v)(s4:KY v)(c6:qj ts false t v)(hw:wt v <=5000000000):
 abB ((⟨ts⟩:gJ),t,v)=some (agK ts t v,0)/\abu ((⟨ts⟩:gJ),t,v)=some (agK ts t v,0):=by
 have S:=H.V.Re H.T;obtain⟨_,hf⟩:=akW H.T H.V cJ c6;constructor
 . rw[abB];simp only[ao.d5];rw[aqu H cJ c6];simp only[h',eg];rw[b' (by simp),aGm H cJ s4 c6 (by omega)];rfl
 . rw[abu];simp only[ao.d5];rw[hf];simp only[h',eg];have a7:=aGn H cJ t s4 c6 hw;unfold abU at a7;have aJ:=aba (ts:=ts) t v;have ar:=akY S cJ c6 hw _ 0 [] (Jq _) (by rw[Y'];omega);rw[UM,XH]at ar;have Xw:WV (t,(x1 ts t v).map Prod.fst,0,ts,v,[])=_:=ar;rw[b' (by simp),a7]
   simp only[eg];rw[Xw];rfl
mutual
def Qs(o:ao):ao->ao
 | ⟨k,b,i,s,id,ks,is,r⟩=>
  if k=5 then⟨k,b,i,s,id,ks,N7 o.b9 is,o.Rest⟩
  else if(k=6\/k=9)/\o.bo=id/\o.b9.length=1/\is.length=1 then⟨k,b,i,s,id,ks,N7 o.b9 is,r⟩
  else⟨k,b,i,s,id,ks,is,r⟩
def N7(os:List ao):List ao->List ao
 | []=>[]
 | v::l=>Qs (os.getD 0 e2) v::N7 os.tail l
end
theorem ad' :∀(os is:List ao),(N7 os is).length=is.length
 | os,[]=>by rw[N7]
 | os,v::l=>by rw[N7,TI,ad' os.tail l,TI]
theorem amf :∀(os is:List ao) (j:Nat),j < is.length->(N7 os is).getD j e2=Qs (os.getD j e2) (is.getD j e2)
 | os,v::l,0,_=>by rw[N7];rfl
 | os,v::l,j+1,h=>by
  rw[N7,ajF,ajF,amf os.tail l j (by simpa using h)];cases os with
  | nil=>rfl
  | cons a aNx=>rfl
def adA(x:cm)(o v:ao):Prop:=x.Kind=5\/((x.Kind=6\/x.Kind=9)/\o.bo=v.bo/\o.b9.length=1/\v.b9.length=1)
theorem avx{x:cm}{o v:ao}(hk:v.Kind=x.Kind)(h:adA x o v):Qs o v=⟨v.Kind,v.kt,v.hX,v.hG,v.bo,v.e0,N7 o.b9 v.b9,if v.Kind=5 then o.Rest else v.Rest⟩:=by
 cases v with
 | mk k b i s id ks is r=>
  have hk:k=x.Kind:=hk;rw[Qs];rcases h with h | h
  . have hi:k=5:=by omega
    rw[b6 hi,b6 hi]
  . have hi:¬k=5:=by omega
    rw[b' hi,b6 ⟨by omega,h.2⟩,b' hi]
theorem avm{x:cm}{o v:ao}(hk:v.Kind=x.Kind)(h:¬adA x o v):Qs o v=v:=by
 cases v with
 | mk k b i s id ks is r=>
  have hk:k=x.Kind:=hk;rw[Qs,b' (λhi=>h (.inl (by omega))),b' (λq0=>h (.inr ⟨by omega,q0.2⟩))]
section
variable {ts:List cm}
theorem avy {P:Int -> ao -> ao -> Prop}
 (base:∀t o v,qj ts false t o->pI o->qj ts true t v->pI v->¬adA (ts.getD t.toNat e1) o v->P t o v)
 (step:∀t o v,qj ts false t o->pI o->qj ts true t v->pI v->adA (ts.getD t.toNat e1) o v->o.b9.length=v.b9.length->(∀i,r1 (ts.getD t.toNat e1) o i=r1 (ts.getD t.toNat e1) v i/\Jt (ts.getD t.toNat e1) o i=Jt (ts.getD t.toNat e1) v i)->(∀i,i < v.b9.length->P (r1 (ts.getD t.toNat e1) v i) (o.b9.getD i e2) (v.b9.getD i e2))->P t o v)
 {v:ao} (cJ:pI v):∀t o,qj ts false t o->pI o->qj ts true t v->P t o v:=by
 induction cJ with
 | mk v hs h1 ah bJ hk al Ph Ls K8 Nv Nw N2 Jp=>
  intro t o n1 TD MG;have TE:pI v:= .mk v hs h1 ah bJ hk al Ph Ls K8 Nv Nw;by_cases ay:adA (ts.getD t.toNat e1) o v
  . obtain⟨⟨_,_,ok,_⟩,agG⟩:=(li _ _ _).1 n1;obtain⟨⟨_,_,Wb,_⟩,Wa⟩:=(li _ _ _).1 MG;have hlen:o.b9.length=v.b9.length:=by
     rcases ay with ay | ay
     . have h1:o.b9.length=(ts.getD t.toNat e1).cy.length:=by
        rcases agG with h | h | h | h | h | h | h | h | h
        case inr.inr.inr.inr.inl=>exact(Ud.1 h.2.2.2.2.2.2.2).1
        all_goals (have:=h.1;omega)
       have ah:v.b9.length=(ts.getD t.toNat e1).cy.length:=by
        rcases Wa with h | h | h | h | h | h | h | h | h
        case inr.inr.inr.inr.inl=>exact(Ud.1 h.2.2.2.2.2.2.2).1
        all_goals (have:=h.1;omega)
       omega
     . omega
    have n2:∀i,r1 (ts.getD t.toNat e1) o i=r1 (ts.getD t.toNat e1) v i/\Jt (ts.getD t.toNat e1) o i=Jt (ts.getD t.toNat e1) v i:=by
     intro i;unfold r1 Jt;rcases ay with ay | ay
     . rw[b6 ay,b6 ay,b6 ay,b6 ay];exact⟨rfl,rfl⟩
     . rw[ay.2.1];exact⟨rfl,rfl⟩
    refine step t o v n1 TD MG TE ay hlen n2 λi JG=>?_
    have c7:i < o.b9.length:=by omega
    have hg:=Vp n1 i c7;rw[(n2 i).1]at hg;have acN:pI (o.b9.getD i e2):=by
     cases TD with
     | mk o _ _ _ _ _ acN=>exact acN _ (oJ c7 e2)
    exact Jp _ (oJ JG e2) _ _ hg acN (Vp MG i JG)
  . exact base t o v n1 TD MG TE ay
end
theorem awC{a b:List ao}(h:a.length=b.length){i:Nat}(al:i < b.length):(a.take i++b.drop i).set i (a.getD i e2)=a.take (i+1)++b.drop (i+1):=by
 have axm:i < a.length:=by omega
 have h1:(a.take i).length=i:=by simp;omega
 rw[List.set_append_right _ _ (by omega),h1,ac7,aaW al,List.set_cons_zero,ajI,CJ axm,G' axm,SE];rfl
theorem amc{a b:List ao}(h:a.length=b.length)(i:Nat):(a.take i++b.drop i).length=b.length:=by simp;omega
section
variable {ts:List cm}
theorem asa{o v:ao}(aJ:v.b9.length <=1000)(hlen:o.b9.length=v.b9.length)(h:∀i,i < v.b9.length -> S3 (o.b9.getD i e2,v.b9.getD i e2)=some (Qs (o.b9.getD i e2) (v.b9.getD i e2))){z0 z2 z4 a0 a2 a4:Int}{z1 a1:Bool}{z3 a3:List UInt8}{ks:List ao}{r:List C2}:∀(k i:Nat),i+k=v.b9.length ->
 ZD ((i:Int),o,v,z0,z1,z2,z3,z4,a0,a1,a2,a3,a4,ks,(N7 o.b9 v.b9).take i++v.b9.drop i,r)=some (z0,z1,z2,z3,z4,a0,a1,a2,a3,a4,ks,N7 o.b9 v.b9,r)
 | 0,i,al=>by
  have ay:=ad' o.b9 v.b9;rw[ZD,amc ay,b' (by simp;omega),UL (by omega),Q6 (by omega),Q8]
 | k+1,i,al=>by
  have ey:i < v.b9.length:=by omega
  have ay:=ad' o.b9 v.b9;rw[ZD,amc ay,b6 (by simp;omega),b6 (d4 (by omega)),b6 (d4 ey),o1];simp only[ao.d5];rw[h i ey];simp only[h',eg,ao.d5];rw[b6 (d4 ey),b6 (by simp;omega),pv (by omega),<-amf o.b9 v.b9 i ey,awC ay ey];exact asa aJ hlen h k (i+1) (by omega)
theorem atn{t:Int}{v:ao}(s4:KY v){pl:Bool}(c6:qj ts pl t v):ZP v=some (v.Kind,v.kt,v.hX,v.hG,v.bo,v.e0,v.b9,v.Rest):=by
 obtain⟨L9,IJ,Y2⟩:=TU s4 c6;rw[ZP];simp only[XH];rw[b6 (RG (by omega) (by omega)),b6 (RG (by omega) (by omega)),b6 (RG (by omega) (by omega))]
theorem ato{o v:ao}(ah:v.b9.length=1):N7 o.b9 v.b9=v.b9.set 0 (Qs (o.b9.getD 0 e2) (v.b9.getD 0 e2)):=by
 match cJ:v.b9,ah with
 | [a],_=>rw[N7,N7];rfl
theorem abb(v:ao):(⟨v.Kind,v.kt,v.hX,v.hG,v.bo,v.e0,v.b9,v.Rest⟩:ao)=v:=by cases v;rfl
theorem aGq{v:ao}(cJ:pI v):∀t o,qj ts false t o->pI o->qj ts true t v->KY o->KY v->S3 (o,v)=some (Qs o v):=by
 refine avy (P:=λt o v=>KY o->KY v->S3 (o,v)=some (Qs o v)) (λt o v n1 TD MG TE ay LZ RH=>?_) (λt o v n1 TD MG TE ay hlen n2 aoP LZ RH=>?_) cJ
 . obtain⟨⟨_,_,Wb,_⟩,_⟩:=(li _ _ _).1 MG;rw[avm Wb ay,S3];simp only[ao.d5];rw[atn RH MG];simp only[h',eg];have hi:¬v.Kind=5:=λh=>ay (.inl (by omega))
   rw[b' (by simp[hi])];by_cases q0:v.Kind=6\/v.Kind=9
   . have g':¬(bif bif decide (o.bo=v.bo)then decide ((o.b9.length:Int)=1)else false then decide ((v.b9.length:Int)=1)else false)=true:=by
      intro h;refine ay (.inr ⟨by omega,?_⟩);by_cases i1:o.bo=v.bo <;> by_cases i2:(o.b9.length:Int)=1 <;> by_cases i3:(v.b9.length:Int)=1 <;> simp[i1,i2,i3]at h
      exact⟨i1,by omega,by omega⟩
     by_cases afy:v.Kind=6
     . have e:decide (v.Kind=6)=true:=by simp[afy]
       simp only[e,q'];rw[b' g',abb]
     . have e:decide (v.Kind=6)=false:=by simp[afy]
       have Xh:decide (v.Kind=9)=true:=by simp;omega
       simp only[e,Xh,q',u1,vv];rw[b' g',abb]
   . have e:decide (v.Kind=6)=false:=by simp;omega
     have Xh:decide (v.Kind=9)=false:=by simp;omega
     simp only[e,Xh,u1,vv];rw[abb]
 . obtain⟨⟨_,_,Wb,_⟩,_⟩:=(li _ _ _).1 MG;obtain⟨L9,IJ,Y2⟩:=TU RH MG;obtain⟨_,_,m3⟩:=TU LZ n1;have ih:=λi (al:i < v.b9.length)=>aoP i al (LZ.items _ (oJ (by omega) e2)) (RH.items _ (oJ al e2))
   rw[avx Wb ay,S3];simp only[ao.d5];rw[atn RH MG];simp only[h',eg];by_cases hi:v.Kind=5
   . rw[b6 (by simp[hi]),b6 (RG (by omega) (by simp;omega)),b6 hi];have L:=asa (o:=o) (v:=v) (by omega) hlen ih (z0:=0) (z1:=false) (z2:=0) (z3:=[]) (z4:=0) (a0:=v.Kind) (a1:=v.kt) (a2:=v.hX) (a3:=v.hG) (a4:=v.bo) (ks:=v.e0) (r:=o.Rest) v.b9.length 0 (by omega)
     have L':ZD (0,o,v,0,false,0,[],0,v.Kind,v.kt,v.hX,v.hG,v.bo,v.e0,v.b9,[]++o.Rest)=_:=L;rw[L'];rfl
   . rw[b' (by simp[hi]),b' hi];have ajf:(v.Kind=6\/v.Kind=9)/\o.bo=v.bo/\o.b9.length=1/\v.b9.length=1:=by
      rcases ay with ay | ay
      . omega
      . exact⟨by omega,ay.2⟩
     obtain⟨hk,i1,i2,i3⟩:=ajf;have b8:(bif bif decide (o.bo=v.bo)then decide ((o.b9.length:Int)=1)else false then decide ((v.b9.length:Int)=1)else false)=true:=by
      have aLl:(o.b9.length:Int)=1:=by omega
      have aLm:(v.b9.length:Int)=1:=by omega
      simp[i1,aLl,aLm]
     have c7:eh 0 o.b9.length=true:=d4 (k:=0) (by omega);have nk:eh 0 v.b9.length=true:=d4 (k:=0) (by omega);have axY:=ih 0 (by omega);have hs:decide (0 < v.b9.length)=true:=by rw[i3];rfl
     by_cases afy:v.Kind=6
     . have e:decide (v.Kind=6)=true:=by simp[afy]
       simp only[e,q'];rw[b6 b8,b6 c7,b6 nk,show(0:Int).toNat=0 from rfl,axY];simp only[eg,ao.d5];rw[b6 nk,b6 hs,ato i3]
     . have e:decide (v.Kind=6)=false:=by simp[afy]
       have Xh:decide (v.Kind=9)=true:=by simp;omega
       simp only[e,Xh,q',u1,vv];rw[b6 b8,b6 c7,b6 nk,show(0:Int).toNat=0 from rfl,axY];simp only[eg,ao.d5];rw[b6 nk,b6 hs,ato i3]
theorem akZ{x:cm}{o v:ao}(aJ:v.b9.length <=1000)(hlen:v.b9.length <=o.b9.length)(h:∀i,i < v.b9.length -> Vm ((⟨ts⟩:gJ),r1 x v i,o.b9.getD i e2,v.b9.getD i e2)=some (Qs (o.b9.getD i e2) (v.b9.getD i e2))){z0 z2 z4 a0 a2 a4:Int}{z1 a1:Bool}{z3 a3:List UInt8}{ks:List ao}{r:List C2}:∀(k i:Nat),i+k=v.b9.length ->
 Vj (NB x v v.b9.length,(v.b9.length:Int),(i:Int),ts,o,v,z0,z1,z2,z3,z4,a0,a1,a2,a3,a4,ks,r,(N7 o.b9 v.b9).take i++v.b9.drop i)=some (z0,z1,z2,z3,z4,a0,a1,a2,a3,a4,ks,r,N7 o.b9 v.b9)
 | 0,i,al=>by
  have ay:=ad' o.b9 v.b9;rw[Vj,b' (by simp;omega),UL (by omega),Q6 (by omega),Q8]
 | k+1,i,al=>by
  have ey:i < v.b9.length:=by omega
  have ay:=ad' o.b9 v.b9;rw[Vj,b6 (by simp;omega),b6 (d4 (by rw[P0];exact ey)),b6 (d4 (by omega)),b6 (d4 ey),o1,ah9 x v ey];simp only[ao.d5];rw[h i ey];simp only[h',eg,ao.d5];rw[amc ay,b6 (d4 ey),b6 (by simp;omega),pv (by omega),<-amf o.b9 v.b9 i ey,awC ay ey];exact akZ aJ hlen h k (i+1) (by omega)
theorem aGr(H:Qz ts){v:ao}(cJ:pI v):∀t o,qj ts false t o->pI o->qj ts true t v->KY o->KY v->Vm ((⟨ts⟩:gJ),t,o,v)=some (Qs o v):=by
 have S:=H.V.Re H.T;refine avy (P:=λt o v=>KY o->KY v->Vm ((⟨ts⟩:gJ),t,o,v)=some (Qs o v)) (λt o v n1 TD MG TE ay LZ RH=>?_) (λt o v n1 TD MG TE ay hlen n2 aoP LZ RH=>?_) cJ
 . obtain⟨⟨g1,g2,Wb,aMz⟩,Wa⟩:=(li _ _ _).1 MG;obtain⟨⟨_,_,ok,_⟩,agG⟩:=(li _ _ _).1 n1;obtain⟨L9,IJ,Y2⟩:=TU RH MG;have tw:eh t ts.length=true:=by simp[eh];omega
   have af4:=aef S MG (by omega);generalize aa:ts.getD t.toNat e1=x at*;have TA:MS 120 v.b9=some v.b9:=by unfold MS;rw[b6 (RG (by omega) (by omega))]
   rw[avm Wb ay,Vm,b6 tw];simp only[h',eg,ao.d5,aa];rw[TA];simp only[eg];have hi:¬x.Kind=5:=λh=>ay (.inl h)
   rw[b' (by simp[hi])];by_cases q0:x.Kind=6
   . have Q2:¬o.bo=v.bo\/o.b9.length=0:=by
      by_cases Q2:o.bo=v.bo
      . right;have VW:v.b9.length=1:=by
         rcases Wa with h | h | h | h | h | h | h | h | h
         case inr.inr.inr.inr.inr.inl=>
          obtain⟨a1,a2,a3,a4,a5,n'⟩:=h;split at n'
          . exact n'.2.1
          . cases n'.2.1
         all_goals (have:=h.1;omega)
        have aaF:o.b9.length=1\/o.b9.length=0:=by
         rcases agG with h | h | h | h | h | h | h | h | h
         case inr.inr.inr.inr.inr.inl=>
          obtain⟨a1,a2,a3,a4,a5,n'⟩:=h;split at n'
          . exact .inl n'.2.1
          . exact .inr (by rw[n'.2.2.2.1];rfl)
         all_goals (have:=h.1;omega)
        rcases aaF with aaF | aaF
        . exact absurd (.inr ⟨.inl q0,Q2,aaF,VW⟩) ay
        . exact aaF
      . exact .inl Q2
     have ai:(bif (!(decide (o.bo=v.bo)))then true else decide ((o.b9.length:Int)=0))=true:=by
      rcases Q2 with h | h
      . simp[h]
      . simp[h]
     rw[b6 (by simp[q0]),b6 ai,abb]
   . rw[b' (by simp[q0])];by_cases anL:x.Kind=9
     . rw[b6 (by simp[anL])];by_cases aoo:o.b9.length=0
       . rw[b6 (by simp[aoo]),abb]
       . have Q2:o.bo=v.bo:=by
          have e':v.bo=0:=by
           rcases Wa with h | h | h | h | h | h | h | h | h
           case inr.inr.inr.inr.inr.inr.inr.inr=>exact h.2.2.2.2.1
           all_goals (have:=h.1;omega)
          have hf:o.bo=0:=by
           rcases agG with h | h | h | h | h | h | h | h | h
           case inr.inr.inr.inr.inr.inr.inr.inr=>exact h.2.2.2.2.1
           all_goals (have:=h.1;omega)
          omega
         have aaF:o.b9.length=1:=by
          rcases agG with h | h | h | h | h | h | h | h | h
          case inr.inr.inr.inr.inr.inr.inr.inr=>have:=h.2.2.2.2.2.2.2.1;omega
          all_goals (have:=h.1;omega)
         have nk:v.b9.length=0:=by
          have:v.b9.length<=1:=by
           rcases Wa with h | h | h | h | h | h | h | h | h
           case inr.inr.inr.inr.inr.inr.inr.inr=>exact h.2.2.2.2.2.2.2.1
           all_goals (have:=h.1;omega)
          by_cases h1:v.b9.length=1
          . exact absurd (.inr ⟨.inr anL,Q2,aaF,h1⟩) ay
          . omega
         have aK7:v.b9=[]:=Sv nk;rw[b' (by simp;intro h;rw[h]at aoo;exact aoo rfl),af4];simp only[eg,P0]
         have L:=akZ (ts:=ts) (x:=x) (o:=o) (v:=v) (by omega) (by omega) (λi al=>by omega) (z0:=0) (z1:=false) (z2:=0) (z3:=[]) (z4:=0) (a0:=v.Kind) (a1:=v.kt) (a2:=v.hX) (a3:=v.hG) (a4:=v.bo) (ks:=v.e0) (r:=v.Rest) v.b9.length 0 (by omega)
         have L':Vj (NB x v v.b9.length,(v.b9.length:Int),0,ts,o,v,0,false,0,[],0,v.Kind,v.kt,v.hX,v.hG,v.bo,v.e0,v.Rest,v.b9)=_:=L;rw[L'];simp only[eg];have aK8:N7 o.b9 v.b9=v.b9:=by rw[aK7,N7]
         rw[aK8,abb]
     . rw[b' (by simp[anL]),abb]
 . obtain⟨⟨g1,g2,Wb,aMz⟩,Wa⟩:=(li _ _ _).1 MG;obtain⟨L9,IJ,Y2⟩:=TU RH MG;obtain⟨_,_,m3⟩:=TU LZ n1;have ih:=λi (al:i < v.b9.length)=>aoP i al (LZ.items _ (oJ (by omega) e2)) (RH.items _ (oJ al e2))
   have tw:eh t ts.length=true:=by simp[eh];omega
   have af4:=aef S MG (by omega);generalize aa:ts.getD t.toNat e1=x at*;have TA:MS 120 v.b9=some v.b9:=by unfold MS;rw[b6 (RG (by omega) (by omega))]
   have UC:MS 24 o.Rest=some o.Rest:=by unfold MS;rw[b6 (RG (by omega) (by omega))]
   have L:=λr=>akZ (ts:=ts) (x:=x) (o:=o) (v:=v) (by omega) (by omega) ih (z0:=0) (z1:=false) (z2:=0) (z3:=[]) (z4:=0) (a0:=v.Kind) (a1:=v.kt) (a2:=v.hX) (a3:=v.hG) (a4:=v.bo) (ks:=v.e0) (r:=r) v.b9.length 0 (by omega)
   have L':∀r,Vj (NB x v v.b9.length,(v.b9.length:Int),0,ts,o,v,0,false,0,[],0,v.Kind,v.kt,v.hX,v.hG,v.bo,v.e0,r,v.b9)=some (0,false,0,[],0,v.Kind,v.kt,v.hX,v.hG,v.bo,v.e0,r,N7 o.b9 v.b9):=L;rw[avx Wb ay,Vm,b6 tw];simp only[h',eg,ao.d5,aa];rw[TA];simp only[eg]
   by_cases hi:x.Kind=5
   . rw[b6 (by simp[hi]),UC,af4];simp only[eg,P0];rw[L',b6 (by omega)];rfl
   . have ajf:(x.Kind=6\/x.Kind=9)/\o.bo=v.bo/\o.b9.length=1/\v.b9.length=1:=by
      rcases ay with ay | ay
      . exact absurd ay hi
      . exact ay
     obtain⟨hk,i1,i2,i3⟩:=ajf;rw[b' (by simp[hi]),b' (show ¬v.Kind=5 by omega)];by_cases q0:x.Kind=6
     . have ai:¬(bif (!(decide (o.bo=v.bo)))then true else decide ((o.b9.length:Int)=0))=true:=by
        simp[i1,i2]
       rw[b6 (by simp[q0]),b' ai,af4];simp only[eg,P0];rw[L'];rfl
     . rw[b' (by simp[q0]),b6 (by simp;omega),b' (by rw[i2];simp),af4];simp only[eg,P0];rw[L'];rfl
end
theorem aGs{ts:List cm}(H:Qz ts){t:Int}{o v:ao}(TD:pI o)(n1:qj ts false t o)(cJ:pI v)(MG:qj ts true t v)(LZ:KY o)(RH:KY v):
 Yk ((⟨ts⟩:gJ),t,o,v)=some (Qs o v,0)/\X2 ((⟨ts⟩:gJ),t,o,v)=some (Qs o v,0):=by
 have S:=H.V.Re H.T;obtain⟨_,hf⟩:=akW H.T H.V TD n1;obtain⟨q,Ql,Qm⟩:=abW (by have:=S.n;omega) H.T S.K cJ t true;obtain⟨x,N8,UX⟩:=WB (by have:=S.n;omega) H.T S.K cJ t true;have ex:x=q:=by rw[Qm]at N8;exact(XI N8).symm
 have ee:q=true:=by rw[<-ex];exact UX.2 MG
 have eb:abC ((⟨ts⟩:gJ),t,v)=some true:=by
  rw[abC];simp only[ao.d5];rw[Ql,ee];rfl
 have Jw:Va ((⟨ts⟩:gJ),t,v)=some true:=by
  rw[Va];simp only[ao.d5];rw[Qm,ee];rfl
 constructor
 . rw[Yk];simp only[ao.d5];rw[aqu H TD n1];simp only[h',eg];rw[b' (by simp),eb];simp only[eg];rw[b' (by simp),aGr H cJ t o n1 TD MG LZ RH];rfl
 . rw[X2];simp only[ao.d5];rw[hf];simp only[h',eg];rw[b' (by simp),Jw];simp only[eg];rw[b' (by simp),aGq cJ t o n1 TD MG LZ RH];rfl
theorem aHT{s:gJ}(hs:s.Types.length <=reachBytes)(k':∀t,t∈s.Types -> vk t){v:ao}(cJ:pI v)(t:Int):
 ∃e,Rx (s,t,v)=some e/\S4 (s,t,v)=some e/\(e=0->Qz s.Types/\qj s.Types false t v):=by
 obtain⟨e,e',hf,te,_⟩:=akU hs k';by_cases h:e=0
 . subst h;by_cases c7:(bif decide (t < 0)then true else decide ((s.Types.length:Int)<=t))=true
   . have aa:S8 (s,t)=some 4:=by
      rw[S8];rw[e'];simp only[h',eg];rw[b' (by simp),b6 c7]
     refine⟨4,?_,?_,λh=>by cases h⟩
     . rw[Rx,aa];rfl
     . rw[S4,hf];simp only[h',eg];rw[b' (by simp),b6 c7]
   . have aa:S8 (s,t)=some 0:=by
      rw[S8];rw[e'];simp only[h',eg];rw[b' (by simp),b' c7]
     obtain⟨a,b⟩:=te rfl;have V:=avW k' a b;have S:=V.Re k';obtain⟨q,y0,t'⟩:=abW (by have:=S.n;omega) k' S.K cJ t false;obtain⟨x,N8,UX⟩:=WB (by have:=S.n;omega) k' S.K cJ t false;have ex:x=q:=by rw[t']at N8;exact(XI N8).symm
     have f1:Ub (s,t,v)=some q:=by
      rw[Ub];simp only[ao.d5];rw[y0];rfl
     have f2:Yd (s,t,v)=some q:=by
      rw[Yd];simp only[ao.d5];have aLQ:NM (s,t,v,false)=some q:=t';rw[aLQ];rfl
     have g1:Rx (s,t,v)=some (if q=true then 0 else 1):=by
      rw[Rx,aa];simp only[h',eg,ao.d5];rw[b' (by simp),f1];cases q <;> rfl
     have g2:S4 (s,t,v)=some (if q=true then 0 else 1):=by
      rw[S4,hf];simp only[h',eg,ao.d5];rw[b' (by simp),b' c7,f2];cases q <;> rfl
     refine⟨_,g1,g2,λh0=>?_⟩;cases q with
     | true=>exact⟨⟨k',V⟩,UX.1 (by rw[ex])⟩
     | false=>cases h0
 . have aa:S8 (s,t)=some e:=by
    rw[S8];rw[e'];simp[h]
   refine⟨e,?_,?_,λvc=>absurd vc h⟩
   . rw[Rx,aa];simp[h]
   . rw[S4,hf];simp[h]
theorem aFu{ts:List cm}(H:Qz ts){v:ao}(cJ:pI v)(t:Int):∃q,abC ((⟨ts⟩:gJ),t,v)=some q/\Va ((⟨ts⟩:gJ),t,v)=some q/\(q=true->qj ts true t v):=by
 have S:=H.V.Re H.T;obtain⟨q,Ql,Qm⟩:=abW (by have:=S.n;omega) H.T S.K cJ t true;obtain⟨x,N8,UX⟩:=WB (by have:=S.n;omega) H.T S.K cJ t true;have ex:x=q:=by rw[Qm]at N8;exact(XI N8).symm
 refine⟨q,?_,?_,λh=>UX.1 (by rw[ex];exact h)⟩
 . rw[abC];simp only[ao.d5];rw[Ql];rfl
 . rw[Va];simp only[ao.d5];rw[Qm];rfl
theorem aI6{s:gJ}(hs:s.Types.length <=reachBytes)(k':∀t,t∈s.Types -> vk t)(t:Int){a b:ao}(ch:pI a)(ai:pI b)(aNz:wt a <=3000)(aNA:wt b <=3000):
 ∃e' hf te v1 ayV v2 ayW l,abD (s,t,a)=some (v1,e')/\abt (s,t,a)=some (ayV,e')/\Yk (s,t,a,b)=some (v2,hf)/\X2 (s,t,a,b)=some (ayW,hf)/\
  abB (s,t,a)=some (l,te)/\abu (s,t,a)=some (l,te)/\l.length < 9223372036854775807/\∀x,x∈l->x.length < 9223372036854775807:=by
 obtain⟨ts⟩:=s;obtain⟨e,h5,js,yt⟩:=aHT hs k' ch t;by_cases h:e=0
 . obtain⟨G,c6⟩:=yt h;have akw:=awz ch (by omega);have azc:=awz ai (by omega);obtain⟨r,_,kJ,pK⟩:=aGk G ch akw c6;obtain⟨Ql,Qm⟩:=aGp G ch akw c6 (by omega);obtain⟨q,y0,t',SL⟩:=aFu G ai t;have ay:∃v2 hf,Yk ((⟨ts⟩:gJ),t,a,b)=some (v2,hf)/\X2 ((⟨ts⟩:gJ),t,a,b)=some (v2,hf):=by
    cases q with
    | true=>
     obtain⟨d1,d2⟩:=aGs G ch c6 ai (SL rfl) akw azc;exact⟨_,_,d1,d2⟩
    | false=>
     subst h;refine⟨⟨0,false,0,[],0,[],[],[]⟩,1,?_,?_⟩
     . rw[Yk];simp only[ao.d5];rw[h5];simp only[h',eg];rw[b' (by simp),y0];rfl
     . rw[X2];simp only[ao.d5];rw[js];simp only[h',eg];rw[b' (by simp),t'];rfl
   obtain⟨v2,hf,d1,d2⟩:=ay;have hw:=aba (ts:=ts) t a;have aJ:(agK ts t a).length < 9223372036854775807:=by
    have h1:=amb (ts:=ts) [] (x1 ts t a);unfold agK;omega
   refine⟨_,hf,0,_,_,v2,v2,_,kJ,pK,d1,d2,Ql,Qm,aJ,λx aa=>?_⟩;unfold agK at aa;obtain⟨q,ee,hs⟩:=List.mem_filterMap.1 aa;have acO:=apP t a q ee;unfold LX at hs;split at hs
   . cases hs;rw[XH];omega
   . cases hs
 . refine⟨e,e,e,⟨0,false,0,[],0,[],[],[]⟩,⟨0,false,0,[],0,[],[],[]⟩,⟨0,false,0,[],0,[],[],[]⟩,⟨0,false,0,[],0,[],[],[]⟩,[],?_,?_,?_,?_,?_,?_,by simp,by simp⟩
   . rw[abD];simp only[ao.d5];rw[h5];simp[h]
   . rw[abt];simp only[ao.d5];rw[js];simp[h]
   . rw[Yk];simp only[ao.d5];rw[h5];simp[h]
   . rw[X2];simp only[ao.d5];rw[js];simp[h]
   . rw[abB];simp only[ao.d5];rw[h5];simp[h]
   . rw[abu];simp only[ao.d5];rw[js];simp[h]
theorem aEV{s:gJ}(hs:s.Types.length<=reachBytes)(k':∀t,t∈s.Types->vk t)(t:Int){l:ZZ}(ch:pI l.Ll)(ai:pI l.Nj):ae2 (s,t,l)=some true:=by
 obtain⟨x,aa⟩:=aG1 hs k';obtain⟨c,ay,aJ4⟩:=arP ch;obtain⟨d,a6,aKa⟩:=arP ai;obtain⟨e,_,hf,te,_⟩:=akU hs k';obtain⟨r,ar,_⟩:=aFr hs k' hf (λh0=>avW k' (te h0).1 (te h0).2);rw[ae2,aBL];simp only[h',eg,ao.d5,Po,Ov,q',aa];cases x with
 | false=>rfl
 | true=>
  simp only[Po,XL,Ov,q',ay,eg];cases c with
  | false=>rfl
  | true=>
   simp only[Po,XL,Ov,q',a6,eg];cases d with
   | false=>rfl
   | true=>
    obtain⟨f1,f2,f3,v1,ayV,v2,ayW,p,g1,g2,g3,g4,g5,g6,g7,g8⟩:=aI6 hs k' t ch ai (aJ4 rfl) (aKa rfl);have s4:=aFt p g7 g8;simp only[Po,XL,u1,vv,ar,hf,eg];split
    . rfl
    . rw[g1,g2,g3,g4,g5,g6];simp[s4]
theorem aLt(h:d' oi.D [.nm as0,.int .i64,.nm atb])(hk:Ok oi [.nm as0,.int .i64,.nm atb] h):ae2 h=some true:=by
 obtain⟨a,b⟩:=aLK (aI4 hk ⟨.slice (.nm ah6),h.1.Types⟩ (.head _));have k:=aLJ (avZ (avZ hk));have K0:∀c,c∈oi.Uu WA h.2.2.Ll->WF oi c:=λc ay=>k c (List.mem_append_left _ ay)
 have h5:∀c,c∈oi.Uu WA h.2.2.Nj->WF oi c:=λc ay=>k c (List.mem_append_right (oi.Uu WA h.2.2.Ll) ay)
 exact aEV a b h.2.1 (al9 K0) (al9 h5)
end
end Go.Proofs.YtijpinendaoleaaGreat
