/- The functions of the program as functions of Lean, that its code does what they say, and what they answer; part B. -/
import Derived.Test.YtandcioiaooocaaGreatMaA

namespace Go.Proofs.YtandcioiaooocaaGreat
set_option linter.all false
section
open Go Go.Proofs.YtandcioiaooocaaGreat.Shv
set_option maxRecDepth 100000
theorem JI.plain{k l h m kk e:Int}{n:b8}{S:List s4}{nk:List hv}{o:Bool}(cy:S.length*24<=reachBytes)(Lh:nk.length*24<=reachBytes)(ay:∀x,x∈nk->JJ x.ix):JI ⟨k,n,l,h,m,S,nk,kk,e,o⟩:=⟨cy,Lh,ay⟩
theorem aC'{N:b8}{L H M K E:Int}{S:List s4}{nk:List hv}{O:Bool}(h:JI (⟨1,N,L,H,M,S,nk,K,E,O⟩:b')):∃r,LP (⟨1,N,L,H,M,S,nk,K,E,O⟩:b')=some r/\NC (⟨1,N,L,H,M,S,nk,K,E,O⟩:b')=some r/\(r=true->N=[]):=by
 obtain⟨a,a1,a2⟩:=O5 (a:=(⟨0,N,L,H,M,S,nk,K,E,O⟩:b')) ⟨h.syms,h.Pz,h.RF⟩ (⟨0,[],0,0,0,[],[],0,0,false⟩:b');obtain⟨b,b1,b2⟩:=Xs h (⟨1,[],0,0,0,[],[],0,0,false⟩:b');have zv:a=b:=by grind
 subst zv;refine⟨a,by simp[LP,a1],by simp[NC,UM,Sv,b1];try (cases a<;>rfl),λal=>?_⟩
 grind
theorem aDa{N:b8}{L H M K E:Int}{S:List s4}{nk:List hv}{O:Bool}(h:JI (⟨2,N,L,H,M,S,nk,K,E,O⟩:b')):∃r,LP (⟨2,N,L,H,M,S,nk,K,E,O⟩:b')=some r/\NC (⟨2,N,L,H,M,S,nk,K,E,O⟩:b')=some r/\(r=true->N=[]):=by
 obtain⟨a,a1,a2⟩:=O5 (a:=(⟨0,N,0,0,M,S,nk,K,E,O⟩:b')) ⟨h.syms,h.Pz,h.RF⟩ (⟨0,[],0,0,0,[],[],0,0,false⟩:b');obtain⟨b,b1,b2⟩:=Xs h (⟨2,[],L,H,0,[],[],0,0,false⟩:b');have zv:a=b:=by grind
 subst zv;refine⟨decide (L<=H)&&a,?_,?_,λal=>?_⟩
 . simp only[LP]
   grind
 . simp only[NC];generalize decide (L<=H)=q;simp[UM,Sv,b1]
   grind
 grind
theorem aDb{N:b8}{L H M K E:Int}{S:List s4}{nk:List hv}{O:Bool}(h:JI (⟨3,N,L,H,M,S,nk,K,E,O⟩:b')):∃r,LP (⟨3,N,L,H,M,S,nk,K,E,O⟩:b')=some r/\NC (⟨3,N,L,H,M,S,nk,K,E,O⟩:b')=some r/\(r=true->N=[]):=by
 obtain⟨a,a1,a2⟩:=O5 (a:=(⟨0,N,L,H,0,S,nk,K,E,O⟩:b')) ⟨h.syms,h.Pz,h.RF⟩ (⟨0,[],0,0,0,[],[],0,0,false⟩:b');obtain⟨b,b1,b2⟩:=Xs h (⟨3,[],0,0,M,[],[],0,0,false⟩:b');have zv:a=b:=by grind
 subst zv;refine⟨(bif decide (0<=M)then decide (M<=200)else false)&&a,?_,?_,λal=>?_⟩
 . simp only[LP]
   grind
 . simp only[NC];generalize (bif decide (0<=M)then decide (M<=200)else false)=q;simp[UM,Sv,b1]
   grind
 grind
theorem aDc{N:b8}{L H M K E:Int}{S:List s4}{nk:List hv}{O:Bool}(h:JI (⟨4,N,L,H,M,S,nk,K,E,O⟩:b')):∃r,LP (⟨4,N,L,H,M,S,nk,K,E,O⟩:b')=some r/\NC (⟨4,N,L,H,M,S,nk,K,E,O⟩:b')=some r/\(r=true->N≠[]):=by
 obtain⟨a,a1,a2⟩:=O5 (a:=(⟨0,[],L,H,M,[],nk,K,E,false⟩:b')) ⟨(by simp),h.Pz,h.RF⟩ (⟨0,[],0,0,0,[],[],0,0,false⟩:b');obtain⟨b,b1,b2⟩:=Xs h (⟨4,N,0,0,0,S,[],0,0,O⟩:b');have zv:a=b:=by grind
 subst zv;obtain⟨q,Jd,HS⟩:=aHN (l:=S) h.syms;refine⟨nm N&&q&&a,?_,?_,λal=>?_⟩
 . simp only[LP];simp[a1,Jd,abB]
   grind
 . simp only[NC]
   try simp at HS
   simp[UM,Sv,b1,HS,ah8]
   grind
 . simp only[h5]at al;exact apT al.1.1
theorem aDd{N:b8}{L H M K E:Int}{S:List s4}{nk:List hv}{O:Bool}(h:JI (⟨5,N,L,H,M,S,nk,K,E,O⟩:b')):∃r,LP (⟨5,N,L,H,M,S,nk,K,E,O⟩:b')=some r/\NC (⟨5,N,L,H,M,S,nk,K,E,O⟩:b')=some r/\(r=true->N≠[]):=by
 obtain⟨a,a1,a2⟩:=O5 (a:=(⟨0,[],L,H,M,S,[],K,E,(bif O then decide ((5:Int)=5)else false)⟩:b')) ⟨h.syms,(by simp),(by simp)⟩ (⟨0,[],0,0,0,[],[],0,0,false⟩:b');obtain⟨b,b1,b2⟩:=Xs h (⟨5,N,0,0,0,[],nk,0,0,false⟩:b');have zv:a=b:=by grind
 subst zv;obtain⟨q,Jd,HS⟩:=auU h (by simp);refine⟨nm N&&q&&a,?_,?_,λal=>?_⟩
 . simp only[LP]
   try simp at a1
   try simp at Jd
   simp[a1,Jd,abB]
   grind
 . simp only[NC]
   try simp at HS
   simp[UM,Sv,b1,HS,ah8]
   grind
 . simp only[h5]at al;exact apT al.1.1
theorem aDe{N:b8}{L H M K E:Int}{S:List s4}{nk:List hv}{O:Bool}(h:JI (⟨6,N,L,H,M,S,nk,K,E,O⟩:b')):∃r,LP (⟨6,N,L,H,M,S,nk,K,E,O⟩:b')=some r/\NC (⟨6,N,L,H,M,S,nk,K,E,O⟩:b')=some r/\(r=true->N≠[]):=by
 obtain⟨a,a1,a2⟩:=O5 (a:=(⟨0,[],L,H,M,S,[],K,E,(bif O then decide ((6:Int)=5)else false)⟩:b')) ⟨h.syms,(by simp),(by simp)⟩ (⟨0,[],0,0,0,[],[],0,0,false⟩:b');obtain⟨b,b1,b2⟩:=Xs h (⟨6,N,0,0,0,[],nk,0,0,O⟩:b');have zv:a=b:=by grind
 subst zv;obtain⟨q,Jd,HS⟩:=auU h (by simp);refine⟨nm N&&q&&a,?_,?_,λal=>?_⟩
 . simp only[LP]
   try simp at a1
   try simp at Jd
   simp[a1,Jd,abB]
   grind
 . simp only[NC]
   try simp at HS
   simp[UM,Sv,b1,HS,ah8]
   grind
 . simp only[h5]at al;exact apT al.1.1
theorem aDf{N:b8}{L H M K E:Int}{S:List s4}{nk:List hv}{O:Bool}(h:JI (⟨7,N,L,H,M,S,nk,K,E,O⟩:b')):∃r,LP (⟨7,N,L,H,M,S,nk,K,E,O⟩:b')=some r/\NC (⟨7,N,L,H,M,S,nk,K,E,O⟩:b')=some r/\(r=true->N=[]):=by
 obtain⟨a,a1,a2⟩:=O5 (a:=(⟨0,N,L,H,0,S,nk,K,0,O⟩:b')) ⟨h.syms,h.Pz,h.RF⟩ (⟨0,[],0,0,0,[],[],0,0,false⟩:b');obtain⟨b,b1,b2⟩:=Xs h (⟨7,[],0,0,M,[],[],0,E,false⟩:b');have zv:a=b:=by grind
 subst zv;refine⟨(bif decide (0<=M)then decide (M<=50)else false)&&a,?_,?_,λal=>?_⟩
 . simp only[LP]
   grind
 . simp only[NC];generalize (bif decide (0<=M)then decide (M<=50)else false)=q;simp[UM,Sv,b1]
   grind
 grind
theorem aDg{N:b8}{L H M K E:Int}{S:List s4}{nk:List hv}{O:Bool}(h:JI (⟨8,N,L,H,M,S,nk,K,E,O⟩:b')):∃r,LP (⟨8,N,L,H,M,S,nk,K,E,O⟩:b')=some r/\NC (⟨8,N,L,H,M,S,nk,K,E,O⟩:b')=some r/\(r=true->N=[]):=by
 obtain⟨a,a1,a2⟩:=O5 (a:=(⟨0,N,L,H,0,S,nk,0,0,O⟩:b')) ⟨h.syms,h.Pz,h.RF⟩ (⟨0,[],0,0,0,[],[],0,0,false⟩:b');obtain⟨b,b1,b2⟩:=Xs h (⟨8,[],0,0,M,[],[],K,E,false⟩:b');have zv:a=b:=by grind
 subst zv;refine⟨(bif decide (0<=M)then decide (M<=50)else false)&&a,?_,?_,λal=>?_⟩
 . simp only[LP]
   grind
 . simp only[NC];generalize (bif decide (0<=M)then decide (M<=50)else false)=q;simp[UM,Sv,b1]
   grind
 grind
theorem aDh{N:b8}{L H M K E:Int}{S:List s4}{nk:List hv}{O:Bool}(h:JI (⟨9,N,L,H,M,S,nk,K,E,O⟩:b')):∃r,LP (⟨9,N,L,H,M,S,nk,K,E,O⟩:b')=some r/\NC (⟨9,N,L,H,M,S,nk,K,E,O⟩:b')=some r/\(r=true->N=[]):=by
 obtain⟨a,a1,a2⟩:=O5 (a:=(⟨0,N,L,H,M,S,nk,K,0,O⟩:b')) ⟨h.syms,h.Pz,h.RF⟩ (⟨0,[],0,0,0,[],[],0,0,false⟩:b');obtain⟨b,b1,b2⟩:=Xs h (⟨9,[],0,0,0,[],[],0,E,false⟩:b');have zv:a=b:=by grind
 subst zv;refine⟨a,by simp[LP,a1],by simp[NC,UM,Sv,b1];try (cases a<;>rfl),λal=>?_⟩
 grind
def Rq(k:Int):Bool:=bif bif decide (k=4)then true else decide (k=5)then true else decide (k=6)
theorem auV{t:b'}(h:JI t):∃r,LP t=some r/\NC t=some r/\(r=true->1<=t.Kind/\t.Kind<=9/\Rq t.Kind=!(decide (t.Name=[]))):=by
 by_cases hk:1<=t.Kind/\t.Kind<=9
 . obtain⟨OH,N,L,H,M,S,nk,K,E,O⟩:=t;simp only at hk;have:OH=1\/OH=2\/OH=3\/OH=4\/OH=5\/OH=6\/OH=7\/OH=8\/OH=9:=by omega
   rcases this with rfl|rfl|rfl|rfl|rfl|rfl|rfl|rfl|rfl
   . obtain⟨r,h1,ad,a'⟩:=aC' h;exact⟨r,h1,ad,λal=>⟨hk.1,hk.2,by simp[Rq,a' al]⟩⟩
   . obtain⟨r,h1,ad,a'⟩:=aDa h;exact⟨r,h1,ad,λal=>⟨hk.1,hk.2,by simp[Rq,a' al]⟩⟩
   . obtain⟨r,h1,ad,a'⟩:=aDb h;exact⟨r,h1,ad,λal=>⟨hk.1,hk.2,by simp[Rq,a' al]⟩⟩
   . obtain⟨r,h1,ad,a'⟩:=aDc h;exact⟨r,h1,ad,λal=>⟨hk.1,hk.2,by simp[Rq,a' al]⟩⟩
   . obtain⟨r,h1,ad,a'⟩:=aDd h;exact⟨r,h1,ad,λal=>⟨hk.1,hk.2,by simp[Rq,a' al]⟩⟩
   . obtain⟨r,h1,ad,a'⟩:=aDe h;exact⟨r,h1,ad,λal=>⟨hk.1,hk.2,by simp[Rq,a' al]⟩⟩
   . obtain⟨r,h1,ad,a'⟩:=aDf h;exact⟨r,h1,ad,λal=>⟨hk.1,hk.2,by simp[Rq,a' al]⟩⟩
   . obtain⟨r,h1,ad,a'⟩:=aDg h;exact⟨r,h1,ad,λal=>⟨hk.1,hk.2,by simp[Rq,a' al]⟩⟩
   . obtain⟨r,h1,ad,a'⟩:=aDh h;exact⟨r,h1,ad,λal=>⟨hk.1,hk.2,by simp[Rq,a' al]⟩⟩
 . refine⟨false,?_,?_,λh=>by cases h⟩
   . have e:∀k:Int,1<=k->k<=9->¬t.Kind=k:=λk h1 ad e=>hk (by omega)
     simp[LP,e 1,e 2,e 3,e 4,e 5,e 6,e 7,e 8,e 9]
   . have e:(bif decide (t.Kind<1)then true else decide (9<t.Kind))=true:=by grind
     rw[NC,e];rfl
def K3(t:b'):ev:=t.c7.map (·.jb)++(if t.Kind=8 then[t.Key]else[])++(if 7<=t.Kind then[t.h6]else[])
theorem acT{k n:Nat}(hk:k<=16){m:Nat}(h:m*24<=reachBytes)(eJ:n<=m+2):q5 k n=true:=by
 unfold q5 UE I';unfold reachBytes at h;simp only[h5,u2];have:(2*n+192)*k<=(2*n+192)*16:=Nat.mul_le_mul_left _ hk;omega
theorem ath(t:b')(h:t.c7.length*24<=reachBytes):∀(k i:Nat),i+k=t.c7.length->YR (t.c7,(t.c7.length:Int),(i:Int),t,(t.c7.map (·.jb)).take i)=some (t,t.c7.map (·.jb))
 |0,i,ao=>by rw[YR,u1,abJ (by simp;omega)]
 |k+1,i,ao=>by
  have al:=M8 (UF h);have e':i<t.c7.length:=by omega
  rw[YR,kp,bJ (js e')];simp only[h3,ec,u3];rw[<-O4 (·.jb) t.c7 i d5 0 e',acn _ _ _ (by simpa using e'),f7,bJ (acT (m:=t.c7.length) (by omega) h (by simp;omega))];exact ath t h k (i+1) (by omega)
theorem aIq{t:b'}(h:t.c7.length*24<=reachBytes):ajJ t=some (K3 t):=by
 have h0:=ath t h t.c7.length 0 (by omega);have BJ:YR (t.c7,(t.c7.length:Int),0,t,[])=some (t,t.c7.map (·.jb)):=h0;rw[ajJ,BJ];unfold K3;simp only[h3,ec];have ln:q5 8 (t.c7.map (·.jb)++[t.Key]).length=true:=acT (m:=t.c7.length) (by omega) h (by simp)
 have sb:q5 8 (t.c7.map (·.jb)++[t.Key]++[t.h6]).length=true:=acT (m:=t.c7.length) (by omega) h (by simp)
 grind
theorem ati(t:b')(h:t.c7.length*24<=reachBytes):∀(k i:Nat),i+k=t.c7.length->YM ((i:Int),t,(t.c7.map (·.jb)).take i)=some (t,t.c7.map (·.jb))
 |0,i,ao=>by rw[YM,u1,abJ (by simp;omega)]
 |k+1,i,ao=>by
  have al:=M8 (UF h);have e':i<t.c7.length:=by omega
  rw[YM,kp,bJ (js e')];simp only[h3,ec,u3];rw[<-O4 (·.jb) t.c7 i d5 0 e',acn _ _ _ (by simpa using e'),f7,bJ (acT (m:=t.c7.length) (by omega) h (by simp;omega))];exact ati t h k (i+1) (by omega)
theorem aIr{t:b'}(h:t.c7.length*24<=reachBytes)(hk:t.Kind<=9):ai1 t=some (K3 t):=by
 have h0:=ati t h t.c7.length 0 (by omega);have BJ:YM (0,t,[])=some (t,t.c7.map (·.jb)):=h0;rw[ai1,BJ];unfold K3;simp only[h3,ec];have ln:q5 8 (t.c7.map (·.jb)++[t.Key]).length=true:=acT (m:=t.c7.length) (by omega) h (by simp)
 have sb:q5 8 (t.c7.map (·.jb)++[t.Key]++[t.h6]).length=true:=acT (m:=t.c7.length) (by omega) h (by simp)
 grind
theorem aIs(k:Int):Sv k=some (Rq k):=rfl
def abA(k:Int):Bool:=bif decide (1<=k)then decide (k<=4)else false
def Tn(n:Nat)(u:Int):Bool:=bif decide (u<0)then true else decide ((n:Int)<=u)
def Yt(ts:List b')(i:Nat):Option Int:=
 let t:=ts.getD i d4
 if !((LP t).getD false)then some 1
 else if !(decide (t.Name=[]))&&((ts.map (·.Name)).take i).contains t.Name then some 1
 else if(K3 t).any (Tn ts.length)then some 4
 else if decide (t.Kind=8) && !(abA (ts.getD t.Key.toNat d4).Kind)then some 1
 else none
theorem anP{ts:List b'}{i:Nat}{t:b'}{r:Bool}(JD:ts.getD i d4=t)(f1:LP t=some r):
 Yt ts i=if(!r)=true then some 1 else if(!(decide (t.Name=[]))&&((ts.map (·.Name)).take i).contains t.Name)=true then some 1 else if(K3 t).any (Tn ts.length)=true then some 4 else if(decide (t.Kind=8) && !(abA (ts.getD t.Key.toNat d4).Kind))=true then some 1 else none:=by
 subst JD;unfold Yt;simp only[f1,WC]
theorem atW{LV:Type}(L:Nat->Option LV)(l:ev)(q:Int->Bool)(aa2 abf:LV)(Ot:∀i,i<l.length->L i=if q (l.getD i 0)=true then some aa2 else L (i+1))(U':L l.length=some abf):
 L 0=some (if l.any q=true then aa2 else abf):=by
 have:=Qb L l.length (λi=>!(q (l.getD i 0))) aa2 abf (λi ao=>by grind) U';rcases this with⟨h1,ad⟩|⟨h1,j,ad,a'⟩
 . rw[h1,cx];intro h;rw[adW]at h;obtain⟨x,aa,e1⟩:=h;obtain⟨j,ea,he⟩:=OV aa;have:=ad j ea;rw[KZ ea,he,e1]at this;cases this
 . rw[h1,bJ];rw[adW];refine⟨l.getD j 0,E' ad 0,by simpa using a'⟩
theorem at0{t:b'}(h:t.c7.length*24<=reachBytes):(K3 t).length<9223372036854775807:=by
 unfold K3 reachBytes at*
 grind
theorem aJm {L:Nat->Option (Int ⊕ Unit)}{L':Nat->Option (Int ⊕ Unit)}{n:Nat}{step:Nat->Option Int}
 (h:∀i,i<n->L i=match step i with|some e=>some (.inl e)|none=>L (i+1))(he:L n=some (.inr ()))
 (s':∀i,i<n->L' i=match step i with|some e=>some (.inl e)|none=>L' (i+1))(J5:L' n=some (.inr ())):∃o,L 0=some o/\L' 0=some o/\((o= .inr ()/\∀i,i<n->step i=none)\/∃i e,i<n/\step i=some e/\o= .inl e):=by
 have key:∀k i,i+k=n->∃o,L i=some o/\L' i=some o/\((o= .inr ()/\∀m,i<=m->m<n->step m=none)\/∃m e,m<n/\step m=some e/\o= .inl e):=by
  intro k
  induction k with
  |zero=> intro i ao; have:i = n:= by omega
          subst this;exact⟨_,he,J5,.inl ⟨rfl,λm h1 ad=>by omega⟩⟩
  |succ k ih=>
   intro i ao;rw[h i (by omega),s' i (by omega)];cases qy:step i with
   |some e=>exact⟨_,rfl,rfl,.inr ⟨i,e,by omega,qy,rfl⟩⟩
   |none=>
    obtain⟨o,MB,K8,MC⟩:=ih (i+1) (by omega)
    grind
 obtain⟨o,MB,K8,MC⟩:=key n 0 (by omega);refine⟨o,MB,K8,?_⟩;rcases MC with⟨a,b⟩|h
 . exact .inl ⟨a,λi ao=>b i (Q2 _) ao⟩
 . exact .inr h
theorem axy{ts:List b'}{t:b'}(hu:(K3 t).any (Tn ts.length)=false)(Oj:t.Kind=8):hz t.Key ts.length=true:=by
 have hm:t.Key∈K3 t:=by unfold K3;simp[Oj]
 rw[ap3]at hu;have:=hu _ hm;unfold Tn at this;unfold hz
 grind
theorem aJn(ts:List b')(t:b')(i:Nat)(ao:i<ts.length)(al:ts.length<9223372036854775807):
 VJ ((i:Int),0,ts,t.Kind,t.Name,t.mJ,t.mx,t.Max,t.hD,t.c7,t.Key,t.h6,t.Open)=some (if(Rq t.Kind&&((ts.map (·.Name)).take i).contains t.Name)=true then .inl 1 else .inr ((i:Int),ts,t.Kind,t.Name,t.mJ,t.mx,t.Max,t.hD,t.c7,t.Key,t.h6,t.Open)):=by
 have LM:=Qb (λk=>VJ ((i:Int),(k:Int),ts,t.Kind,t.Name,t.mJ,t.mx,t.Max,t.hD,t.c7,t.Key,t.h6,t.Open)) i (λk=>!(bif Rq t.Kind then decide ((ts.getD k d4).Name=t.Name)else false)) (.inl 1) (.inr ((i:Int),ts,t.Kind,t.Name,t.mJ,t.mx,t.Max,t.hD,t.c7,t.Key,t.h6,t.Open))
  (λk hk=>by
   rw[VJ,kp,aIs];simp only[h3,ec];rw[bJ (by rw[js (show k<ts.length by omega)];rfl),f7,u3]
   grind)
  (by rw[VJ,nc])
 have vK:VJ ((i:Int),((0:Nat):Int),ts,t.Kind,t.Name,t.mJ,t.mx,t.Max,t.hD,t.c7,t.Key,t.h6,t.Open)=VJ ((i:Int),0,ts,t.Kind,t.Name,t.mJ,t.mx,t.Max,t.hD,t.c7,t.Key,t.h6,t.Open):=rfl;simp only[vK]at LM;rcases LM with⟨h1,ad⟩|⟨h1,j,ad,a'⟩
 . rw[h1,cx];rw[h5,YT]
   rintro ⟨eJ,k,hk,he⟩
   rw[O4 (·.Name) ts k d4 []]at he;have:=ad k hk;rw[eJ,he]at this;simp at this
 . rw[h1,bJ];rw[h5,YT];cases eJ:Rq t.Kind with
   |false=>rw[eJ]at a';cases a'
   |true=>
    refine⟨rfl,j,ad,?_⟩;rw[O4 (·.Name) ts j d4 []];rw[eJ]at a'
    simpa using a'
theorem aJo(ts:List b')(t:b')(i:Nat)(l:ev)(ar:l.length<9223372036854775807):
 YI ((i:Int),l,0,ts,t.Kind,t.Name,t.mJ,t.mx,t.Max,t.hD,t.c7,t.Key,t.h6,t.Open)=some (if l.any (Tn ts.length)=true then .inl 4 else .inr ((i:Int),ts,t.Kind,t.Name,t.mJ,t.mx,t.Max,t.hD,t.c7,t.Key,t.h6,t.Open)):=
 atW (λj=>YI ((i:Int),l,(j:Int),ts,t.Kind,t.Name,t.mJ,t.mx,t.Max,t.hD,t.c7,t.Key,t.h6,t.Open)) l (Tn ts.length) (.inl 4) (.inr ((i:Int),ts,t.Kind,t.Name,t.mJ,t.mx,t.Max,t.hD,t.c7,t.Key,t.h6,t.Open))
  (λj ea=>by
   rw[YI,kp,bJ (js ea)];simp only[h3,ec];rw[bJ (by rw[js ea];rfl),f7]
   rfl)
  (by rw[YI,nc])
theorem atj{s:f4}(hs:s.Types.length<=reachBytes)(ht:∀t,t∈s.Types->JI t):∃e,aaf s=some e/\aaO s=some e/\(e=0->s.Types.length<=32/\∀i,i<s.Types.length->Yt s.Types i=none)/\((s.Types.length<=32/\∀i,i<s.Types.length->Yt s.Types i=none)->e=0)/\e≠12:=by
 rw[aaf,aaO];by_cases ax9:32<s.Types.length
 . exact⟨3,by rw[kp],by rw[kp],λh=>(by cases h),λh=>absurd h.1 (by omega),by decide⟩
 . rw[u1,u1];have al:s.Types.length<9223372036854775807:=by omega
   have:=aJm (L:=λi=>YQ (s.Types,(s.Types.length:Int),(i:Int),s.Types,R2 ((s.Types.map (·.Name)).take i))) (L':=λi=>WV ((i:Int),s.Types)) (n:=s.Types.length) (step:=Yt s.Types)
    (λi ao=>by
     have Oq:=ht _ (E' ao d4);obtain⟨r,f1,f2,f3⟩:=auV Oq;rw[YQ,kp,bJ (js ao)];simp only[h3,ec,u3];generalize JD:s.Types.getD i d4=t at*;rw[anP JD f1,f1];simp only[ec,atd];cases r with
     |false=>rw[bJ (show(bif (!false)then true else bif (!(decide (t.Name=[])))then((s.Types.map (·.Name)).take i).contains t.Name else false)=true from rfl),bJ (show(!false)=true from rfl)]
     |true=>
      rw[cx (show ¬((!true)=true) by simp)];by_cases ay:(!(decide (t.Name=[]))&&((s.Types.map (·.Name)).take i).contains t.Name)=true
      . grind
      . have JU:¬((bif (!(decide (t.Name=[])))then((s.Types.map (·.Name)).take i).contains t.Name else false)=true):=by grind
        rw[cx (show ¬((bif (!true)then true else bif (!(decide (t.Name=[])))then((s.Types.map (·.Name)).take i).contains t.Name else false)=true)from JU),cx ay,aIq Oq.Pz];simp only[ec];have akR:=at0 Oq.Pz
        have JV:=atW (λj=>WZ (s.Types,(s.Types.length:Int),(i:Int),K3 t,((K3 t).length:Int),(j:Int),s.Types,O7 (R2 ((s.Types.map (·.Name)).take i)) t.Name,t.Kind,t.Name,t.mJ,t.mx,t.Max,t.hD,t.c7,t.Key,t.h6,t.Open)) (K3 t) (Tn s.Types.length) (.inl 4)
         (.inr (s.Types,(s.Types.length:Int),(i:Int),s.Types,O7 (R2 ((s.Types.map (·.Name)).take i)) t.Name,t.Kind,t.Name,t.mJ,t.mx,t.Max,t.hD,t.c7,t.Key,t.h6,t.Open))
         (λj ea=>by
          rw[WZ,kp,bJ (js ea),f7]
          rfl)
         (by rw[WZ,nc])
        have vK:WZ (s.Types,(s.Types.length:Int),(i:Int),K3 t,((K3 t).length:Int),((0:Nat):Int),s.Types,O7 (R2 ((s.Types.map (·.Name)).take i)) t.Name,t.Kind,t.Name,t.mJ,t.mx,t.Max,t.hD,t.c7,t.Key,t.h6,t.Open)=WZ (s.Types,(s.Types.length:Int),(i:Int),K3 t,((K3 t).length:Int),0,s.Types,O7 (R2 ((s.Types.map (·.Name)).take i)) t.Name,t.Kind,t.Name,t.mJ,t.mx,t.Max,t.hD,t.c7,t.Key,t.h6,t.Open):=rfl
        rw[<-vK,JV];cases hu:(K3 t).any (Tn s.Types.length)with
        |true=>rfl
        |false=>
         simp only[y0,Jb,ec];have aLP:O7 (R2 ((s.Types.map (·.Name)).take i)) t.Name=R2 ((s.Types.map (·.Name)).take (i+1)):=by
          have h1:=ate (l:=s.Types.map (·.Name)) (i:=i) (by simpa using ao)
          grind
         rw[aLP,f7];by_cases Oj:t.Kind=8
         . have hk:=axy hu Oj;rw[bJ (by rw[hk];rfl),bJ (by rw[hk];rfl)];simp only[Oj,ZL,abG,Vm,abA]
           grind
         grind)
    (by rw[YQ,nc])
    (λi ao=>by
     have Oq:=ht _ (E' ao d4);obtain⟨r,f1,f2,f3⟩:=auV Oq;rw[WV,kp,bJ (js ao)];simp only[h3,ec,u3];generalize JD:s.Types.getD i d4=t at*;rw[anP JD f1,f2,aJn s.Types t i ao al];simp only[ec];cases r with
     |false=>rfl
     |true=>
      obtain⟨ha,hg,hQ⟩:=f3 rfl;rw[cx (show ¬((!true)=true) by simp),cx (show ¬((!true)=true) by simp),hQ];cases ay:(!(decide (t.Name=[]))&&((s.Types.map (·.Name)).take i).contains t.Name)with
      |true=>rfl
      |false=>
       simp only[y0,Jb,atV];rw[aIr Oq.Pz hg];simp only[ec];rw[aJo s.Types t i (K3 t) (at0 Oq.Pz)];cases hu:(K3 t).any (Tn s.Types.length)with
       |true=>rfl
       |false=>
        simp only[y0,Jb,ec];rw[f7];by_cases Oj:t.Kind=8
        . have hk:=axy hu Oj;rw[bJ (by rw[hk];rfl)];simp only[Oj,ZL,xe,amu,ec,abG,Vm];show(if(!(abA (s.Types.getD t.Key.toNat d4).Kind))=true then some (.inl 1)else WV (((i+1:Nat):Int),s.Types))=_
          grind
        grind)
    (by rw[WV,nc])
   obtain⟨o,h1,ad,a'⟩:=this;have LK:YQ (s.Types,(s.Types.length:Int),0,s.Types,[])=some o:=h1;have XZ:WV (0,s.Types)=some o:=ad;rw[LK,XZ];rcases a' with⟨rfl,d'⟩|⟨i,e,d',hy,rfl⟩
   . simp_all
   . refine⟨_,rfl,rfl,λh0=>?_,λh=>(by have:=h.2 i d';rw[hy]at this;cases this),λh=>?_⟩
     . exfalso
       subst h0;unfold Yt at hy
       grind
     . subst h;unfold Yt at hy
       grind
theorem aco{LV:Type}(L:Nat->Option LV)(n:Nat)(q:Nat->Bool)(ao9:Nat->LV)(apP:LV)(Ot:∀i,i<n->L i=if q i=true then some (ao9 i)else L (i+1))(U':L n=some apP):
 (∃j,j<n/\q j=true/\(∀k,k<j->q k=false)/\L 0=some (ao9 j))\/((∀k,k<n->q k=false)/\L 0=some apP):=by
 have key:∀k i,i+k=n->(∀m,m<i->q m=false)->L 0=L i->(∃j,j<n/\q j=true/\(∀k,k<j->q k=false)/\L 0=some (ao9 j))\/((∀k,k<n->q k=false)/\L 0=some apP):=by
  intro k
  induction k with
  |zero=> intro i ao hm h0; have:i = n:= by omega
          subst this;exact .inr ⟨hm,by rw[h0,U']⟩
  |succ k ih=>
   intro i ao hm h0;rw[Ot i (by omega)]at h0
   grind
 exact key n 0 (by omega) (λm hm=>by omega) rfl
def axz(l:List hv)(id:Int)(r:Int×Bool):Prop:=(∃j:Nat,j<l.length/\(l.getD j d5).c6=id/\(∀k,k<j->(l.getD k d5).c6≠id)/\r=((j:Int),true))\/((∀k,k<l.length->(l.getD k d5).c6≠id)/\r=(0,false))
theorem amL{t:b'}{id:Int}(ar:t.c7.length<9223372036854775807):∃r,aaU (t,id)=some r/\axz t.c7 id r:=by
 rw[aaU,amo];have h:=aco (λi=>W3 (t.c7,(t.c7.length:Int),(i:Int),id)) t.c7.length (λi=>decide ((t.c7.getD i d5).c6=id)) (λi=>.inl ((i:Int),id)) (.inr id)
  (λi ao=>by
   rw[W3,kp,bJ (js ao)];simp only[h3,ec,u3,UC,amE]
   rw[f7])
  (by rw[W3,nc])
 have vK:W3 (t.c7,(t.c7.length:Int),((0:Nat):Int),id)=W3 (t.c7,(t.c7.length:Int),0,id):=rfl;simp only[vK]at h;rcases h with⟨j,h1,ad,a',d'⟩|⟨h1,d'⟩
 . rw[d'];refine⟨((j:Int),true),?_,.inl ⟨j,h1,by simpa using ad,λk hk=>by simpa using a' k hk,rfl⟩⟩;have ep:ZC (j:Int) 0=(j:Int):=by unfold ZC;omega
   simp_all
 . rw[d'];exact⟨(0,false),rfl,.inr ⟨λk hk=>by simpa using h1 k hk,rfl⟩⟩
theorem asC{t:b'}{id:Int}(ar:t.c7.length<9223372036854775807):∃r,acF (t,id)=some r/\axz t.c7 id r:=by
 rw[acF];have h:=aco (λi=>Xc (id,(i:Int),t)) t.c7.length (λi=>decide ((t.c7.getD i d5).c6=id)) (λi=>.inl ((i:Int),true)) (.inr ())
  (λi ao=>by
   rw[Xc,kp,bJ (js ao),f7]
   grind)
  (by rw[Xc,nc])
 have vK:Xc (id,((0:Nat):Int),t)=Xc (id,0,t):=rfl;simp only[vK]at h;rcases h with⟨j,h1,ad,a',d'⟩|⟨h1,d'⟩
 . rw[d'];exact⟨((j:Int),true),rfl,.inl ⟨j,h1,by simpa using ad,λk hk=>by simpa using a' k hk,rfl⟩⟩
 . rw[d'];exact⟨(0,false),rfl,.inr ⟨λk hk=>by simpa using h1 k hk,rfl⟩⟩
def acU(l:List s4)(id:Int)(r:Int×Bool):Prop:=(∃j:Nat,j<l.length/\(l.getD j yt).c6=id/\(∀k,k<j->(l.getD k yt).c6≠id)/\r=((j:Int),true))\/((∀k,k<l.length->(l.getD k yt).c6≠id)/\r=(0,false))
theorem aFK{l:List s4}{id:Int}{r q:Int×Bool}(h1:acU l id r)(ad:acU l id q):r=q:=by
 rcases h1 with⟨j,a1,a2,a3,rfl⟩|⟨a1,rfl⟩<;>rcases ad with⟨k,b1,b2,pI,rfl⟩|⟨b1,rfl⟩
 . grind
 . grind
 . grind
 . rfl
theorem atw{t:b'}(id:Int)(ar:t.hD.length<9223372036854775807):∃r,ajy (t,id)=some r/\aiU (t,id)=some r/\acU t.hD id r:=by
 rw[ajy,amn,aiU];have h:=aco (λi=>VG (t.hD,(t.hD.length:Int),(i:Int),id)) t.hD.length (λi=>decide ((t.hD.getD i yt).c6=id)) (λi=>.inl ((i:Int),id)) (.inr id)
  (λi ao=>by
   rw[VG,kp,bJ (js ao)];simp only[h3,ec,u3,amD]
   rw[f7])
  (by rw[VG,nc])
 have vK:VG (t.hD,(t.hD.length:Int),((0:Nat):Int),id)=VG (t.hD,(t.hD.length:Int),0,id):=rfl;have g:=aco (λi=>VK (id,(i:Int),t)) t.hD.length (λi=>decide ((t.hD.getD i yt).c6=id)) (λi=>.inl ((i:Int),true)) (.inr ())
  (λi ao=>by
   rw[VK,kp,bJ (js ao),f7]
   grind)
  (by rw[VK,nc])
 have g0:VK (id,((0:Nat):Int),t)=VK (id,0,t):=rfl;simp only[vK]at h;simp only[g0]at g;have JC:∃r,(VG (t.hD,(t.hD.length:Int),0,id)>>=λo=>match o with|.inl hq=>some (hq.1,hq.2)|.inr g'=>some ((-1),g'))>>=(λr=>some (ZC r.1 0,decide (0<=r.1)))=some r/\acU t.hD id r:=by
  rcases h with⟨j,h1,ad,a',d'⟩|⟨h1,d'⟩
  . rw[d'];refine⟨((j:Int),true),?_,.inl ⟨j,h1,by simpa using ad,λk hk=>by simpa using a' k hk,rfl⟩⟩;have ep:ZC (j:Int) 0=(j:Int):=by unfold ZC;omega
    simp_all
  . rw[d'];exact⟨(0,false),rfl,.inr ⟨λk hk=>by simpa using h1 k hk,rfl⟩⟩
 have u':∃r,(VK (id,0,t)>>=λo=>match o with|.inl hq=>some (hq.1,hq.2)|.inr g'=>some (0,false))=some r/\acU t.hD id r:=by
  rcases g with⟨j,h1,ad,a',d'⟩|⟨h1,d'⟩
  . rw[d'];exact⟨((j:Int),true),rfl,.inl ⟨j,h1,by simpa using ad,λk hk=>by simpa using a' k hk,rfl⟩⟩
  . rw[d'];exact⟨(0,false),rfl,.inr ⟨λk hk=>by simpa using h1 k hk,rfl⟩⟩
 obtain⟨r,a1,a2⟩:=JC;obtain⟨q,b1,b2⟩:=u';have:=aFK a2 b2
 grind
def Yx(n:Int):Int:=if 0<=n then 2*n else -2*n-1
theorem aIt{a b:Int}(h:Yx a=Yx b):a=b:=by
 unfold Yx at h;split at h<;>split at h<;>omega
def MQ(n:Int):Prop:= -9223372036854775808<=n/\n<=9223372036854775807
theorem axA{n:Int}(h:MQ n):afm n=some (Yx n):=by
 obtain⟨h1,ad⟩:=h;rw[afm];unfold Yx;by_cases h0:0<=n
 . rw[bJ (by simp[h0]),bJ h0];obtain⟨k,rfl⟩:∃k:Nat,n=(k:Int):=⟨n.toNat,by omega⟩
   rw[WM];have:=adI (a:=2) (b:=k) (by omega)
   grind
 . rw[cx (by simp[h0]),cx h0];rw[anM,UI];obtain⟨k,hk⟩:∃k:Nat,0-(n+1)=(k:Int):=⟨(0-(n+1)).toNat,by omega⟩
   rw[hk,WM];have a':=adI (a:=2) (b:=k) (by omega);have agQ:Nw .u64 2 (k:Int)=((2*k:Nat):Int):=a';rw[agQ];have d':=aka (a:=2*k) (b:=1) (by omega)
   grind
theorem aJg(a:Nat)(h:a<18446744073709551616):aeq .u64 (a:Int) 0=(a:Int):=by
 have e:(BitVec.ofInt 64 (a:Int) ^^^ BitVec.ofInt 64 (0:Int)).toNat=a:=by grind
 show IntKind.u64.wrap (((BitVec.ofInt 64 (a:Int) ^^^ BitVec.ofInt 64 (0:Int)).toNat:Nat):Int)=_;rw[e];exact Ur
theorem aJh(a:Nat)(h:a<18446744073709551616):aeq .u64 (a:Int) 18446744073709551615=((18446744073709551615-a:Nat):Int):=by
 have e:(BitVec.ofInt 64 (a:Int) ^^^ BitVec.ofInt 64 (18446744073709551615:Int)).toNat=18446744073709551615-a:=by
  have h1:BitVec.ofInt 64 (18446744073709551615:Int)=BitVec.allOnes 64:=by decide
  rw[h1,adR,BitVec.xor_allOnes,BitVec.toNat_not,adT,aei,ZJ h]
 all_goals (try omega)
 show IntKind.u64.wrap (((BitVec.ofInt 64 (a:Int) ^^^ BitVec.ofInt 64 (18446744073709551615:Int)).toNat:Nat):Int)=_;rw[e];exact Ur
theorem aM2{n:Int}(h:MQ n):abS .i64 n 63=if 0<=n then 0 else -1:=by
 obtain⟨h1,ad⟩:=h;unfold abS;have e:((2:Int)^min (63:Int).toNat IntKind.i64.bits)=9223372036854775808:=by decide
 grind
theorem axB{n:Int}(h:MQ n):aeZ n=some (Yx n):=by
 rw[aeZ,aM2 h];obtain⟨h1,ad⟩:=h;unfold Yx;have hs:∀m:Int,WI .u64 m 1=IntKind.u64.wrap (m*2):=by
  intro m;unfold WI;rfl
 rw[hs]
 congr 1
 by_cases h0:0<=n
 . rw[bJ h0,bJ h0];obtain⟨k,rfl⟩:∃k:Nat,n=(k:Int):=⟨n.toNat,by omega⟩
   rw[WM,Ur];have:G' .u64 0=0:=by decide
   rw[this];have:=aJg (2*k) (by omega)
   grind
 . rw[cx h0,cx h0];have:G' .u64 (-1)=18446744073709551615:=by decide
   rw[this];obtain⟨k,hk⟩:∃k:Nat,n+9223372036854775808=(k:Int):=⟨(n+9223372036854775808).toNat,by omega⟩
   have e:IntKind.u64.wrap (G' .u64 n*2)=((2*k:Nat):Int):=by
    unfold G';rw[IntKind.wrap_u64,IntKind.wrap_u64];omega
   rw[e,aJh _ (by omega)];omega
theorem aBm(a b:Int):ajK (a,b)=some (if a<b then -1 else if b<a then 1 else 0):=by
 rw[ajK];simp only[ajt,h3,ec,ZL,OW,y0,Jb]
 grind
theorem avo(a b:Int):aeY (a,b)=some (if a<b then -1 else if b<a then 1 else 0):=by
 rw[aeY];simp only[ai',h3,ec,ZL,OW,y0,Jb]
 grind
theorem aBn(a b:b8):ajz (a,b)=some (if Op.bytesLess a b=true then -1 else if(Op.bytesLess a b||decide (a=b))=true then 0 else 1):=by
 rw[ajz];simp only[aja,h3,ec,ZL,OW,y0,Jb]
 grind
theorem aMy(a b:Int):aj3 [a,b]=some (if a≠0 then a else b):=by
 rw[aj3];have h0:YZ (0,[a,b],((2:Nat):Int),((0:Nat):Int))=if a≠0 then some (.inl a)else(if b≠0 then some (.inl b)else some (.inr 0)):=by
  rw[YZ,bJ (by decide),bJ (show hz ((0:Nat):Int) ([a,b]:ev).length=true from js (k:=0) (n:=2) (by omega))];simp only[h3,ec,u3,ap0];by_cases b6:a=0
  . rw[cx (by simp[b6]),cx (by simp[b6])];have ep:hK .i64 ((0:Nat):Int) 1=((1:Nat):Int):=f7;rw[ep,YZ,bJ (by decide),bJ (show hz ((1:Nat):Int) ([a,b]:ev).length=true from js (k:=1) (n:=2) (by omega))];simp only[h3,ec,u3,List.getD_cons_succ,ap0];by_cases ai:b=0
    . rw[cx (by simp[ai]),cx (by simp[ai])];have hp:hK .i64 ((1:Nat):Int) 1=((2:Nat):Int):=f7;rw[hp,YZ,cx (by decide)]
    grind
  grind
 grind
theorem asK:∀a:b8,Op.bytesLess a a=false
 |[]=>rfl
 |x::r=>by
  simp[Op.bytesLess,asK r]
theorem ase{a b:a6}(b6:MQ a.oj)(ai:MQ b.oj):∃r,acK (a,b)=some r/\afk (a,b)=some r:=by
 rw[acK,afk];by_cases hk:a.Kind=b.Kind
 . rw[cx (show ¬((!(decide (a.Kind=b.Kind)))=true) by simp[hk]),cx (show ¬((!(decide (a.Kind=b.Kind)))=true) by simp[hk])];by_cases ha:a.Kind=1
   . rw[bJ (show decide (a.Kind=1)=true by simp[ha]),bJ (show decide (a.Kind=1)=true by simp[ha])];simp only[VB];cases JB a.s0 b.s0<;>cases b.s0<;>exact⟨_,rfl,rfl⟩
   . rw[cx (show ¬(decide (a.Kind=1)=true) by simp[ha]),cx (show ¬(decide (a.Kind=1)=true) by simp[ha])];by_cases hg:a.Kind=2
     . rw[bJ (show decide (a.Kind=2)=true by simp[hg]),bJ (show decide (a.Kind=2)=true by simp[hg]),axB b6,axB ai,axA b6,axA ai];simp only[h3,ec,aBm,VB];by_cases he:a.oj=b.oj
       . grind
       . have hn:Yx a.oj≠Yx b.oj:=λh=>he (aIt h)
         grind
     . rw[cx (show ¬(decide (a.Kind=2)=true) by simp[hg]),cx (show ¬(decide (a.Kind=2)=true) by simp[hg])];by_cases hQ:a.Kind=3
       . rw[bJ (show decide (a.Kind=3)=true by simp[hQ]),bJ (show decide (a.Kind=3)=true by simp[hQ])];simp only[h3,ec,avo,aBn,aMy,VB];by_cases ar:a.o'.length=b.o'.length
         . have e1:¬((!(decide ((a.o'.length:Int)=(b.o'.length:Int))))=true):=by simp;omega
           rw[cx e1,ar];have ep:¬((b.o'.length:Int)<(b.o'.length:Int)):=by omega
           simp only[ep,Jb,ne_eq,not_true_eq_false];by_cases he:a.o'=b.o'
           . rw[he,asK]
             grind
           grind
         grind
       . rw[cx (show ¬(decide (a.Kind=3)=true) by simp[hQ]),cx (show ¬(decide (a.Kind=3)=true) by simp[hQ])];by_cases oi:a.Kind=4
         . rw[bJ (show decide (a.Kind=4)=true by simp[oi]),bJ (show decide (a.Kind=4)=true by simp[oi])];simp only[h3,ec,avo,VB]
           grind
         simp_all
 simp_all
def aru(k:Int):Prop:=1<=k/\k<=9
theorem Ov{o:Option Bool}{r:Bool}(cJ:o=some r)(q:Bool):(some q>>=λt244=>(if t244=true then o else some false)>>=λJj=>some (bif t244 then Jj else false))=some (q&&r):=by grind
theorem UG{U:k9}{t:c8}{l:List (t.den U.D)}(h:WF U ⟨.slice t,l⟩):l.length<=reachBytes/\l.length*t.bytes U<=reachBytes/\∀x,x∈l->∀c,c∈t.row U x->WF U c:=by cases h with|slice t l h1 ad a'=>exact⟨h1,ad,a'⟩
theorem axC{U:k9}{s:b8}(h:WF U ⟨.str,s⟩):s.length<=reachBytes:=by cases h with|str s h=>exact h
theorem aj6{U:k9}{n:Int}(h:WF U ⟨.int .i64,n⟩):MQ n:=by
 cases h with
 |int k n h=>
  simp[Lit.wf,IntKind.min,IntKind.max,IntKind.bits,IntKind.signed]at h;exact⟨by omega,by omega⟩
theorem ajP{l:List a6}{x:a6}(h:x∈l):SizeOf.sizeOf x<SizeOf.sizeOf l:=List.sizeOf_lt_of_mem h
theorem aJp:∀(n:Nat) (v:a6),SizeOf.sizeOf v<n->(∀c,c∈nJ.Wh TE v->WF nJ c)->JJ v:=by
 intro n
 induction n with
 |zero=>intro v h;omega
 |succ n ih=>
  intro v ch a7;have kn:=a7 ⟨.int .i64,v.Kind⟩ (.head _);have A':=a7 ⟨.int .i64,v.oj⟩ (.tail _ (.tail _ (.head _)));have OJ:=a7 ⟨.str,v.o'⟩ (.tail _ (.tail _ (.tail _ (.head _))));have agv:=a7 ⟨.int .i64,v.c6⟩ (.tail _ (.tail _ (.tail _ (.tail _ (.head _)))));have agw:=a7 ⟨.slice (.nm TE),v.r3⟩ (.tail _ (.tail _ (.tail _ (.tail _ (.tail _ (.head _))))))
  have aa5:=a7 ⟨.slice (.nm TE),v.qb⟩ (.tail _ (.tail _ (.tail _ (.tail _ (.tail _ (.tail _ (.head _)))))));have aog:=a7 ⟨.slice (.nm aj2),v.Rest⟩ (.tail _ (.tail _ (.tail _ (.tail _ (.tail _ (.tail _ (.tail _ (.head _))))))));obtain⟨ha,_,hQ⟩:=UG (t:= .nm TE) agw;obtain⟨i1,_,i3⟩:=UG (t:= .nm TE) aa5;obtain⟨ln,_,ZQ⟩:=UG (t:= .nm aj2) aog
  have hG:SizeOf.sizeOf v.r3<SizeOf.sizeOf v/\SizeOf.sizeOf v.qb<SizeOf.sizeOf v:=by cases v;simp;omega
  refine .mk v (axC OJ) ha i1 ln (λx aa=>ih x (by have:=ajP aa;omega) (hQ x aa)) (λx aa=>ih x (by have:=ajP aa;omega) (i3 x aa)) (λx aa=>?_) (aj6 kn) (aj6 A') (aj6 agv) (λx aa=>?_)
  . exact axC (ZQ x aa ⟨.str,x.Data⟩ (.tail _ (.head _)))
  . exact aj6 (ZQ x aa ⟨.int .i64,x.c6⟩ (.head _))
theorem aIu{v:a6}(h:∀c,c∈nJ.Wh TE v->WF nJ c):JJ v:=aJp _ v (Nat.lt_succ_self _) h
theorem aIv{t:b'}(h:∀c,c∈nJ.Wh acD t->WF nJ c):JI t:=by
 have agw:=h ⟨.slice (.nm auL),t.hD⟩ (.tail _ (.tail _ (.tail _ (.tail _ (.tail _ (.head _))))));have aa5:=h ⟨.slice (.nm ajs),t.c7⟩ (.tail _ (.tail _ (.tail _ (.tail _ (.tail _ (.tail _ (.head _)))))));obtain⟨s1,s2,Ul⟩:=UG (t:= .nm auL) agw;obtain⟨m1,m2,m3⟩:=UG (t:= .nm ajs) aa5;have aMX:t.hD.length*24<=reachBytes:=s2
 have aOo:t.c7.length*152<=reachBytes:=m2;refine⟨aMX,by omega,λm hm=>aIu λc a7=>m3 m hm c ?_⟩;exact .tail _ (.tail _ (.tail _ (.tail _ (.tail _ a7))))
theorem aMx{l:List b'}(h:WF nJ ⟨.slice (.nm acD),l⟩):l.length<=reachBytes/\∀t,t∈l->JI t:=by
 obtain⟨h1,_,a'⟩:=UG (t:= .nm acD) h;exact⟨h1,λt ht=>aIv (a' t ht)⟩
end
section
open Go Go.Proofs.YtandcioiaooocaaGreat.Shv
set_option maxRecDepth 100000
set_option linter.all false

end
section
open Go Go.Proofs.YtandcioiaooocaaGreat.Shv Go.Sort
set_option maxRecDepth 100000
mutual
def wt:a6->Nat
 |⟨_,_,_,s,_,ks,is,r⟩=>10+s.length+(r.map λx=>x.Data.length+1).sum+aqT ks+aqT is
def aqT:List a6->Nat
 |[]=>0
 |v::l=>wt v+aqT l
end
structure Fd where
 id:Nat
 c:Bool
 p:b8
instance:Inhabited Fd:=⟨⟨0,false,[]⟩⟩
def Fd.text(f:Fd):b8:=aJR f.id f.c f.p
def MX(l:List hv)(id:Int):Option hv:=l.find? λm=>decide (m.c6=id)
def Ob(n:Int):Prop:=1<=n/\n<=1000
def aJq(ms:List hv)(r:List Jh):Prop:=r.Pairwise (λa b=>a.c6<b.c6)/\∀x,x∈r->Ob x.c6/\MX ms x.c6=none
def Vv(a b:a6):Int:=(acK (a,b)).getD 0
def an2(ks:List a6):Prop:=∀i,i+1<ks.length->Vv (ks.getD i f5) (ks.getD (i+1) f5)<0
mutual
def aqS(ts:List b')(pl:Bool)(t:Int):a6->Prop
 |⟨k,b,i,s,id,ks,is,r⟩=>
  let x:=ts.getD t.toNat d4
  (0<=t/\t<ts.length/\k=x.Kind/\(pl=true->r=[]))/\
  (k=1/\i=0/\s=[]/\id=0/\ks=[]/\is=[]/\r=[]\/
  k=2/\b=false/\s=[]/\id=0/\ks=[]/\is=[]/\r=[]/\x.mJ<=i/\i<=x.mx\/
  k=3/\b=false/\i=0/\id=0/\ks=[]/\is=[]/\r=[]/\(s.length:Int)<=x.Max\/
  k=4/\b=false/\i=0/\s=[]/\ks=[]/\is=[]/\r=[]/\((∃y,y∈x.hD/\y.c6=id)\/x.Open=true/\pl=false/\Ob id)\/
  k=5/\b=false/\i=0/\s=[]/\id=0/\ks=[]/\aJq x.c7 r/\aAe ts pl x.c7 is\/
  k=6/\b=false/\i=0/\s=[]/\ks=[]/\(match MX x.c7 id with
   |some m=>r=[]/\is.length=1/\aem ts pl m.jb is
   |none=>x.Open=true/\pl=false/\Ob id/\is=[]/\∃d,r=[⟨id,d⟩])\/
  k=7/\b=false/\i=0/\s=[]/\id=0/\ks=[]/\r=[]/\(is.length:Int)<=x.Max/\aem ts pl x.h6 is\/
  k=8/\b=false/\i=0/\s=[]/\id=0/\r=[]/\(ks.length:Int)<=x.Max/\is.length=ks.length/\aem ts pl x.Key ks/\aem ts pl x.h6 is/\an2 ks\/
  k=9/\b=false/\i=0/\s=[]/\id=0/\ks=[]/\r=[]/\is.length<=1/\aem ts pl x.h6 is)
def aem(ts:List b')(pl:Bool)(t:Int):List a6->Prop
 |[]=>True
 |v::l=>aqS ts pl t v/\aem ts pl t l
def aAe(ts:List b')(pl:Bool):List hv->List a6->Prop
 |m::ms,v::l=>aqS ts pl m.jb v/\aAe ts pl ms l
 |[],[]=>True
 |_,_=>False
end
section
variable {ts:List b'}
def aAU(ts:List b'):Prop:=∀x,x∈ts->∀m,m∈x.c7->m.c6<=1000
end
section
variable {ts:List b'}
def YA(ms:List hv):Prop:=ms.Pairwise (λa b=>a.c6<b.c6)/\∀m,m∈ms->Ob m.c6
theorem ajk{ms:List hv}{id:Int}(h:MX ms id=none):∀m,m∈ms->m.c6≠id:=by
 unfold MX at h
 grind
end
def JK(o:Option Bool)(P:Prop):Prop:=∃r,o=some r/\(r=true↔P)
theorem JK.imp{o:Option Bool}{P Q:Prop}(h:JK o P)(e:P↔Q):JK o Q:=by grind
theorem JK.of{b:Bool}{P:Prop}(e:b=true↔P):JK (some b) P:=⟨b,rfl,e⟩
theorem JK.loop{L:Nat->Option (Bool ⊕ Unit)}{n:Nat}{p:Nat->Bool}{g:Unit}{o:Option (Bool ⊕ Unit)}(h0:o=L 0)(Ot:∀i,i<n->L i=if p i=true then L (i+1)else some (.inl false))(U':L n=some (.inr g)):
 JK (o>>=λo=>match o with|.inl x=>some x|.inr _=>some true) (∀i,i<n->p i=true):=by
 subst h0;rcases Qb L n p (.inl false) (.inr g) Ot U' with⟨h1,ad⟩|⟨h1,j,ad,a'⟩
 . rw[h1];exact⟨true,rfl,by simpa using ad⟩
 . rw[h1];refine⟨false,rfl,?_⟩;constructor
   . intro h;cases h
   . intro h;have:=h j ad;rw[a']at this;cases this
theorem an3{α:Type}(f:α->Int)(d:α):∀l:List α,l.Pairwise (λa b=>f a<f b)↔∀i,i+1<l.length->f (l.getD i d)<f (l.getD (i+1) d)
 |[]=>by simp
 |[a]=>by simp
 |a::b::l=>by
  rw[adU,an3 f d (b::l)];constructor
  . rintro ⟨h1,ad⟩ i ao
    cases i with
    |zero=>exact h1 b (.head _)
    |succ i=>exact ad i (by simpa using ao)
  . intro h;have ad:∀i,i+1<(b::l).length->f ((b::l).getD i d)<f ((b::l).getD (i+1) d):=λi ao=>h (i+1) (by simpa using ao)
    refine⟨λx aa=>?_,ad⟩;have h0:=h 0 (by simp);simp only[ap0,List.getD_cons_succ]at h0;have a':=(an3 f d (b::l)).2 ad;rw[adU]at a'
    grind
theorem akb{q:Bool}{o:Option Bool}{P Q:Prop}(e1:q=true↔Q)(cJ:JK o P):JK (some q>>=λt244=>(if t244=true then o else some false)>>=λJj=>some (bif t244 then Jj else false)) (Q/\P):=by
 obtain⟨r,rfl,h⟩:=cJ;refine⟨q&&r,by cases q<;>cases r<;>rfl,?_⟩
 grind
theorem atk{l:List s4}{id:Int}{r:Int×Bool}(h:acU l id r):r.2=true↔∃y,y∈l/\y.c6=id:=by
 rcases h with⟨j,h1,ad,a',rfl⟩|⟨h1,rfl⟩
 . grind
 . constructor
   . grind
   . rintro ⟨y,bo,he⟩
     obtain⟨i,ao,rfl⟩:=OV bo
     grind
theorem at1{α:Type}{l:List α}{i:Nat}(h:i<l.length)(d:α):l.drop i=l.getD i d::l.drop (i+1):=by simp_all
structure aiX (ts:List b'):Prop where
 n:ts.length<=1000
 T:∀t,t∈ts->JI t
 K:∀t,t∈ts->aru t.Kind
 M:aAU ts
 A:∀x,x∈ts->(x.Kind=5\/x.Kind=6)->YA x.c7/\x.c7.length<=16
 S:∀x,x∈ts->x.Kind=4->∀y,y∈x.hD->Ob y.c6
 al9:∀x,x∈ts->x.Kind=8->1<=(ts.getD x.Key.toNat d4).Kind/\(ts.getD x.Key.toNat d4).Kind<=4
theorem JK.Ys{α:Type}{o:Option Bool}{a b:α}(h:Jg o a b):JK o (a=b):=h
theorem aoa{MB K8 MC:Option Bool}{arp arq ars:Prop}(h1:JK MB arp)(ad:JK K8 arq)(a':JK MC ars):
 JK (MB>>=λNA=>(if NA=true then K8 else some false)>>=λLS=>some (bif NA then LS else false)>>=λt53=>(if t53=true then MC else some false)>>=λTo=>some (bif t53 then To else false)) (arp/\arq/\ars):=by
 obtain⟨a,rfl,h1⟩:=h1;obtain⟨b,rfl,ad⟩:=ad;obtain⟨c,rfl,a'⟩:=a';rw[<-h1,<-ad,<-a'];cases a<;>cases b<;>cases c<;>exact⟨_,rfl,by simp⟩
theorem axD{o:Option Bool}{P:Prop}(h:JK o P):JK (o>>=λr=>some r) P:=by grind
def YF(alx:Bool)(nk:List hv):Prop:=(∀m,m∈nk->Wc alx m=false)/\(alx=false\/0<nk.length)/\YA nk/\(∀m,m∈nk->nm m.Name=true)/\(nk.map (·.Name)).Nodup/\nk.length<=16
def aj7(S:List s4):Prop:=0<S.length/\(S.Pairwise (λa b=>a.c6<b.c6)/\∀y,y∈S->Ob y.c6)/\(∀y,y∈S->nm y.Name=true)/\(S.map (·.Name)).Nodup/\S.length<=16
theorem aGA{l:List b8}:l.Nodup↔∀i,i<l.length->(l.take i).contains (l.getD i [])=false:=by
 unfold List.Nodup;rw[ahR];constructor
 . intro h i ao;apply Bool.eq_false_iff.2;intro a7;obtain⟨k,hk,he⟩:=(YT (by omega)).1 a7
   grind
 . intro h k i Zs ao hk he;have:=h i ao;rw[Bool.eq_false_iff]at this;apply this;refine(YT (by omega)).2 ⟨k,hk,?_⟩
   grind
theorem awJ{α:Type}(f:α->Int)(g:α->b8)(d:α)(l:List α):(∀i,i<l.length->QY (l.map f) (l.map g) i=true)↔(l.Pairwise (λa b=>f a<f b)/\∀x,x∈l->Ob (f x))/\(∀x,x∈l->nm (g x)=true)/\(l.map g).Nodup:=by
 rw[an3 f d,aGA];have key:∀i,i<l.length->(QY (l.map f) (l.map g) i=true↔Ob (f (l.getD i d))/\(i=0\/f (l.getD (i-1) d)<f (l.getD i d))/\nm (g (l.getD i d))=true/\((l.map g).take i).contains ((l.map g).getD i [])=false):=by
  intro i ao;unfold QY Ob
  grind
 constructor
 . intro h;refine⟨⟨λi ao=>?_,λx aa=>?_⟩,λx aa=>?_,λi ao=>?_⟩
   . grind
   . obtain⟨i,ao,rfl⟩:=OV aa
     grind
   . obtain⟨i,ao,rfl⟩:=OV aa
     grind
   grind
 . rintro ⟨⟨h1,ad⟩,a',d'⟩ i ao
   refine(key i ao).2 ⟨ad _ (E' ao d),?_,a' _ (E' ao d),d' i (by simpa using ao)⟩;by_cases h0:i=0
   . omega
   . right;have:=h1 (i-1) (by omega);have e:i-1+1=i:=by omega
     grind
theorem at6{t:b'}(h:JI t):JK (aaS t) ((∀m,m∈t.c7->Wc (decide (t.Kind=6)) m=false)/\(t.Kind=5\/0<t.c7.length)/\YA t.c7/\(∀m,m∈t.c7->nm m.Name=true)/\(t.c7.map (·.Name)).Nodup/\t.c7.length<=16):=by
 obtain⟨r,h1,ad⟩:=atg h;refine⟨r,h1,ad.trans ?_⟩;rw[awJ (λm:hv=>m.c6) (λm:hv=>m.Name) d5];have e:(∀i,i<t.c7.length->Wc (decide (t.Kind=6)) (t.c7.getD i d5)=false)↔∀m,m∈t.c7->Wc (decide (t.Kind=6)) m=false:=by
  constructor
  . intro h m hm;obtain⟨i,ao,rfl⟩:=OV hm
    grind
  grind
 rw[e];unfold YA
 grind
theorem aHQ{l:List s4}(ar:l.length*24<=reachBytes):JK (acJ l) (aj7 l):=by
 obtain⟨r,h1,ad⟩:=awI ar;refine⟨r,h1,ad.trans ?_⟩;rw[awJ (λm:s4=>m.c6) (λm:s4=>m.Name) yt];unfold aj7
 grind
def LW(t:b'):Prop:=
 (t.Kind=1/\t.Name=[]/\t.mJ=0/\t.mx=0/\t.Max=0/\t.hD=[]/\t.c7=[]/\t.Key=0/\t.h6=0/\t.Open=false)\/
 (t.Kind=2/\t.Name=[]/\t.mJ<=t.mx/\t.Max=0/\t.hD=[]/\t.c7=[]/\t.Key=0/\t.h6=0/\t.Open=false)\/
 (t.Kind=3/\t.Name=[]/\t.mJ=0/\t.mx=0/\(0<=t.Max/\t.Max<=200)/\t.hD=[]/\t.c7=[]/\t.Key=0/\t.h6=0/\t.Open=false)\/
 (t.Kind=4/\nm t.Name=true/\t.mJ=0/\t.mx=0/\t.Max=0/\aj7 t.hD/\t.c7=[]/\t.Key=0/\t.h6=0)\/
 (t.Kind=5/\nm t.Name=true/\t.mJ=0/\t.mx=0/\t.Max=0/\t.hD=[]/\YF false t.c7/\t.Key=0/\t.h6=0/\t.Open=false)\/
 (t.Kind=6/\nm t.Name=true/\t.mJ=0/\t.mx=0/\t.Max=0/\t.hD=[]/\YF true t.c7/\t.Key=0/\t.h6=0)\/
 (t.Kind=7/\t.Name=[]/\t.mJ=0/\t.mx=0/\(0<=t.Max/\t.Max<=50)/\t.hD=[]/\t.c7=[]/\t.Key=0/\t.Open=false)\/
 (t.Kind=8/\t.Name=[]/\t.mJ=0/\t.mx=0/\(0<=t.Max/\t.Max<=50)/\t.hD=[]/\t.c7=[]/\t.Open=false)\/
 (t.Kind=9/\t.Name=[]/\t.mJ=0/\t.mx=0/\t.Max=0/\t.hD=[]/\t.c7=[]/\t.Key=0/\t.Open=false)
theorem aHR{t:b'}(h:JI t):JK (LP t) (LW t):=by
 have gb:JI (⟨0,[],0,0,0,[],[],0,0,false⟩:b'):=⟨by simp,by simp,by simp⟩
 obtain⟨OH,N,L,H,M,S,nk,K,E,O⟩:=t;have cy:=h.syms;have Zi:=h.Pz;have ay:=h.RF;simp only at cy Zi ay;by_cases ha:OH=1
 . subst ha;have a:=O5 (a:=(⟨0,N,L,H,M,S,nk,K,E,O⟩:b')) ⟨cy,Zi,ay⟩ (⟨0,[],0,0,0,[],[],0,0,false⟩:b');refine(axD (JK.Ys a)).imp ?_;unfold LW;simp
 by_cases hg:OH=2
 . subst hg;have a:=O5 (a:=(⟨0,N,0,0,M,S,nk,K,E,O⟩:b')) ⟨cy,Zi,ay⟩ (⟨0,[],0,0,0,[],[],0,0,false⟩:b');refine(akb (q:=decide (L<=H)) (Q:=L<=H) (by simp) (JK.Ys a)).imp (Q:=LW ⟨2,N,L,H,M,S,nk,K,E,O⟩) ?_;unfold LW
   grind
 by_cases hQ:OH=3
 . subst hQ;have a:=O5 (a:=(⟨0,N,L,H,0,S,nk,K,E,O⟩:b')) ⟨cy,Zi,ay⟩ (⟨0,[],0,0,0,[],[],0,0,false⟩:b');refine(akb (q:=bif decide (0<=M)then decide (M<=200)else false) (Q:=0<=M/\M<=200) (by by_cases g:0<=M<;>simp[g]) (JK.Ys a)).imp (Q:=LW ⟨3,N,L,H,M,S,nk,K,E,O⟩) ?_;unfold LW
   grind
 by_cases oi:OH=4
 . subst oi;have a:=O5 (a:=(⟨0,[],L,H,M,[],nk,K,E,false⟩:b')) ⟨by simp,Zi,ay⟩ (⟨0,[],0,0,0,[],[],0,0,false⟩:b');refine(aoa (⟨nm N,abB N,Iff.rfl⟩:JK (SA N) (nm N=true)) (aHQ cy) (JK.Ys a)).imp (Q:=LW ⟨4,N,L,H,M,S,nk,K,E,O⟩) ?_;unfold LW
   grind
 by_cases te:OH=5
 . subst te;have a:=O5 (a:=(⟨0,[],L,H,M,S,[],K,E,bif O then decide ((5:Int)=5)else false⟩:b')) ⟨cy,by simp,by simp⟩ (⟨0,[],0,0,0,[],[],0,0,false⟩:b');refine(aoa (⟨nm N,abB N,Iff.rfl⟩:JK (SA N) (nm N=true)) (at6 h) (JK.Ys a)).imp (Q:=LW ⟨5,N,L,H,M,S,nk,K,E,O⟩) ?_;unfold LW YF
   grind
 by_cases q':OH=6
 . subst q';have a:=O5 (a:=(⟨0,[],L,H,M,S,[],K,E,bif O then decide ((6:Int)=5)else false⟩:b')) ⟨cy,by simp,by simp⟩ (⟨0,[],0,0,0,[],[],0,0,false⟩:b');refine(aoa (⟨nm N,abB N,Iff.rfl⟩:JK (SA N) (nm N=true)) (at6 h) (JK.Ys a)).imp (Q:=LW ⟨6,N,L,H,M,S,nk,K,E,O⟩) ?_;unfold LW YF
   grind
 by_cases Ov:OH=7
 . subst Ov;have a:=O5 (a:=(⟨0,N,L,H,0,S,nk,K,0,O⟩:b')) ⟨cy,Zi,ay⟩ (⟨0,[],0,0,0,[],[],0,0,false⟩:b');refine(akb (q:=bif decide (0<=M)then decide (M<=50)else false) (Q:=0<=M/\M<=50) (by by_cases g:0<=M<;>simp[g]) (JK.Ys a)).imp (Q:=LW ⟨7,N,L,H,M,S,nk,K,E,O⟩) ?_;unfold LW
   grind
 by_cases Nu:OH=8
 . subst Nu;have a:=O5 (a:=(⟨0,N,L,H,0,S,nk,0,0,O⟩:b')) ⟨cy,Zi,ay⟩ (⟨0,[],0,0,0,[],[],0,0,false⟩:b');refine(akb (q:=bif decide (0<=M)then decide (M<=50)else false) (Q:=0<=M/\M<=50) (by by_cases g:0<=M<;>simp[g]) (JK.Ys a)).imp (Q:=LW ⟨8,N,L,H,M,S,nk,K,E,O⟩) ?_;unfold LW
   grind
 by_cases RU:OH=9
 . subst RU;have a:=O5 (a:=(⟨0,N,L,H,M,S,nk,K,0,O⟩:b')) ⟨cy,Zi,ay⟩ (⟨0,[],0,0,0,[],[],0,0,false⟩:b');refine(axD (JK.Ys a)).imp (Q:=LW ⟨9,N,L,H,M,S,nk,K,E,O⟩) ?_;unfold LW;simp
 refine⟨false,by simp[LP,ha,hg,hQ,oi,te,q',Ov,Nu,RU],?_⟩;unfold LW
 grind
structure acW (ts:List b'):Prop where
 n:ts.length<=32
 F:∀t,t∈ts->LW t
 D:∀i,i<ts.length->(!(decide ((ts.getD i d4).Name=[]))&&((ts.map (·.Name)).take i).contains (ts.getD i d4).Name)=false
 U:∀t,t∈ts->∀u,u∈K3 t->0<=u/\u<ts.length
 al9:∀t,t∈ts->t.Kind=8->1<=(ts.getD t.Key.toNat d4).Kind/\(ts.getD t.Key.toNat d4).Kind<=4
theorem atl{ts:List b'}(JD:∀t,t∈ts->JI t){i:Nat}(ao:i<ts.length):Yt ts i=none↔LW (ts.getD i d4)/\(!(decide ((ts.getD i d4).Name=[]))&&((ts.map (·.Name)).take i).contains (ts.getD i d4).Name)=false/\(∀u,u∈K3 (ts.getD i d4)->0<=u/\u<ts.length)/\
 ((ts.getD i d4).Kind=8->1<=(ts.getD (ts.getD i d4).Key.toNat d4).Kind/\(ts.getD (ts.getD i d4).Key.toNat d4).Kind<=4):=by
 obtain⟨r,f1,f2⟩:=aHR (JD _ (E' ao d4));rw[anP rfl f1,<-f2];have hu:(K3 (ts.getD i d4)).any (Tn ts.length)=false↔∀u,u∈K3 (ts.getD i d4)->0<=u/\u<ts.length:=by
  rw[ap3];constructor
  . intro h u hu;have:=h u hu;unfold Tn at this
    grind
  . intro h u hu;have:=h u hu;unfold Tn
    grind
 rw[<-hu];generalize (K3 (ts.getD i d4)).any (Tn ts.length)=b;generalize (!(decide ((ts.getD i d4).Name=[]))&&((ts.map (·.Name)).take i).contains (ts.getD i d4).Name)=c
 have hk:(decide ((ts.getD i d4).Kind=8) && !(abA (ts.getD (ts.getD i d4).Key.toNat d4).Kind))=false↔((ts.getD i d4).Kind=8->1<=(ts.getD (ts.getD i d4).Key.toNat d4).Kind/\(ts.getD (ts.getD i d4).Key.toNat d4).Kind<=4):=by
  unfold abA
  grind
 rw[<-hk];generalize (decide ((ts.getD i d4).Kind=8) && !(abA (ts.getD (ts.getD i d4).Key.toNat d4).Kind))=d;cases r<;>cases b<;>cases c<;>cases d<;>simp
theorem aJr{ts:List b'}(JD:∀t,t∈ts->JI t)(ax9:ts.length<=32)(h:∀i,i<ts.length->Yt ts i=none):acW ts:=by
 have key:=λi ao=>(atl JD (i:=i) ao).1 (h i ao)
 have apL:∀{P:b'->Prop},(∀i,i<ts.length->P (ts.getD i d4))->∀t,t∈ts->P t:=λaJ t ht=>by
  obtain⟨i,ao,rfl⟩:=OV ht
  grind
 exact⟨ax9,apL λi ao=>(key i ao).1,λi ao=>(key i ao).2.1,apL λi ao=>(key i ao).2.2.1,apL λi ao=>(key i ao).2.2.2⟩
theorem anb{ts:List b'}(JD:∀t,t∈ts->JI t)(h:acW ts):aaf (⟨ts⟩:f4)=some 0/\aaO (⟨ts⟩:f4)=some 0:=by
 obtain⟨e,h1,ad,_,d',_⟩:=atj (s:=⟨ts⟩) (by have:=h.n;unfold reachBytes;show ts.length<=_;omega) JD;have vK:e=0:=d' ⟨h.n,λi ao=>(atl JD ao).2 ⟨h.F _ (E' ao d4),h.D i ao,h.U _ (E' ao d4),h.al9 _ (E' ao d4)⟩⟩
 grind
theorem acW.aM4{ts:List b'}(JD:∀t,t∈ts->JI t)(h:acW ts):aiX ts:=by
 refine⟨by have:=h.n;omega,JD,λt ht=>?_,λt ht m hm=>?_,λt ht hk=>?_,λt ht hk y bo=>?_,h.al9⟩
 . have:=h.F t ht;unfold LW at this;unfold aru;omega
 . have:=h.F t ht;unfold LW at this;have hn:t.c7≠[]:=by intro e;rw[e]at hm;cases hm
   have:YF false t.c7\/YF true t.c7:=by grind
   rcases this with a|a
   . exact(a.2.2.1.2 m hm).2
   . exact(a.2.2.1.2 m hm).2
 . have:=h.F t ht;unfold LW at this;have:YF false t.c7\/YF true t.c7:=by grind
   rcases this with a|a
   . exact⟨a.2.2.1,a.2.2.2.2.2⟩
   . exact⟨a.2.2.1,a.2.2.2.2.2⟩
 . have:=h.F t ht;unfold LW at this;have:aj7 t.hD:=by grind
   exact this.2.1.2 y bo
theorem atX{v:a6}(ar:v.r3.length<=reachBytes)(ih:∀x,x∈v.r3->∃n,VD x=some n):∀(k i:Nat) (n:Int),i+k=v.r3.length->∃m,aaF (n,(i:Int),v)=some (m,v)
 |0,i,n,ao=>⟨n,by rw[aaF,u1,a6.pa]⟩
 |k+1,i,n,ao=>by
  have e':i<v.r3.length:=by omega
  have al:=M8 ar;obtain⟨a,b6⟩:=ih _ (E' e' f5);obtain⟨m,hm⟩:=atX ar ih k (i+1) (hK .i64 n a) (by omega);refine⟨m,?_⟩;rw[aaF,kp,bJ (js e')];simp only[u3,a6.pa];rw[b6];simp only[h3,ec];rw[f7,hm]
theorem atY{v:a6}(ar:v.qb.length<=reachBytes)(ih:∀x,x∈v.qb->∃n,VD x=some n):∀(k i:Nat) (n:Int),i+k=v.qb.length->∃m,aaG (n,(i:Int),v)=some (m,v)
 |0,i,n,ao=>⟨n,by rw[aaG,u1,a6.pa]⟩
 |k+1,i,n,ao=>by
  have e':i<v.qb.length:=by omega
  have al:=M8 ar;obtain⟨a,b6⟩:=ih _ (E' e' f5);obtain⟨m,hm⟩:=atY ar ih k (i+1) (hK .i64 n a) (by omega);refine⟨m,?_⟩;rw[aaG,kp,bJ (js e')];simp only[u3,a6.pa];rw[b6];simp only[h3,ec];rw[f7,hm]
theorem atZ{v:a6}(ar:v.Rest.length<=reachBytes):∀(k i:Nat) (n:Int),i+k=v.Rest.length->∃m,YL (n,(i:Int),v)=some m
 |0,i,n,ao=>⟨n,by rw[YL,u1]⟩
 |k+1,i,n,ao=>by
  have e':i<v.Rest.length:=by omega
  have al:=M8 ar;obtain⟨m,hm⟩:=atZ ar k (i+1) (hK .i64 (hK .i64 n 1) ((v.Rest.getD i Na).Data.length:Int)) (by omega);refine⟨m,?_⟩;rw[YL,kp,bJ (js e')];simp only[u3,a6.pa];rw[f7,hm]
theorem aM3{v:a6}(ch:JJ v):∃n,VD v=some n:=by
 induction ch with
 |mk v hs h1 ad a' hk ao aOb Ww Wx adJ adK abx abw=>
  obtain⟨a,b6⟩:=atX h1 abx v.r3.length 0 (hK .i64 1 (v.o'.length:Int)) (by omega);obtain⟨b,ai⟩:=atY ad abw v.qb.length 0 a (by omega);obtain⟨c,a7⟩:=atZ a' v.Rest.length 0 b (by omega);have agS:aaF (hK .i64 1 (v.o'.length:Int),0,v)=_:=b6;have L1:aaG (a,0,v)=_:=ai;have NS:YL (b,0,v)=_:=a7;refine⟨c,?_⟩;rw[VD];simp only[a6.pa];rw[agS]
  simp only[h3,ec,a6.pa];rw[L1];simp only[ec,a6.pa];rw[NS];rfl
theorem axE{ts:List b'}{t:b'}(ht:JI t)(i2:Int):∀(k i:Nat) (n:Int),i+k=min t.c7.length 100->∃m,NE (n,i2,(i:Int),ts,t)=some (m,i2,ts)
 |0,i,n,ao=>⟨n,by
  rw[NE,cx];intro h;by_cases g:(i:Int)<(t.c7.length:Int)
  . simp[g]at h;omega
  . simp[g]at h⟩
 |k+1,i,n,ao=>by
  have e':i<t.c7.length:=by omega
  obtain⟨a,b6⟩:=aM3 (ht.RF _ (E' e' d5));obtain⟨m,hm⟩:=axE ht i2 k (i+1) (hK .i64 (hK .i64 n a) ((t.c7.getD i d5).Name.length:Int)) (by omega);refine⟨m,?_⟩
  rw[NE,bJ (by
   have g:(i:Int)<(t.c7.length:Int):=by omega
   simp[g];omega),bJ (js e')]
  simp only[u3,a6.pa];rw[b6];simp only[h3,ec];rw[bJ (js e'),f7,hm]
theorem axF{ts:List b'}(eJ:ts.length<=reachBytes)(JD:∀t,t∈ts->JI t):∀(k i:Nat) (n:Int),i+k=ts.length->∃m,YN (n,(i:Int),ts)=some m
 |0,i,n,ao=>⟨n,by rw[YN,u1]⟩
 |k+1,i,n,ao=>by
  have e':i<ts.length:=by omega
  have al:=M8 eJ;have ht:=JD _ (E' e' d4);obtain⟨a,b6⟩:=axE (ts:=ts) ht (i:Int) (min (ts.getD i d4).c7.length 100) 0 (hK .i64 (hK .i64 (hK .i64 n ((ts.getD i d4).c7.length:Int)) ((ts.getD i d4).hD.length:Int)) ((ts.getD i d4).Name.length:Int)) (by omega);obtain⟨m,hm⟩:=axF eJ JD k (i+1) a (by omega);refine⟨m,?_⟩
  rw[YN,kp,bJ (js e')];simp only[h3,ec,u3];have agS:NE (hK .i64 (hK .i64 (hK .i64 n ((ts.getD i d4).c7.length:Int)) ((ts.getD i d4).hD.length:Int)) ((ts.getD i d4).Name.length:Int),(i:Int),0,ts,ts.getD i d4)=_:=b6;rw[agS];simp only[ec];rw[f7,hm]
theorem aHS{s:f4}(eJ:s.Types.length<=reachBytes)(JD:∀t,t∈s.Types->JI t):∃b,aiI s=some b:=by
 rw[aiI];by_cases h:decide (40<(s.Types.length:Int))=true
 . exact⟨false,by rw[bJ h]⟩
 . obtain⟨m,hm⟩:=axF eJ JD s.Types.length 0 0 (by omega);have Ve:YN (0,0,s.Types)=some m:=hm;rw[cx h,Ve];exact⟨_,rfl⟩
def aJs(ts:List b')(ms:List hv):Prop:=∀m,m∈ms->m.qx=true->aqS ts true m.jb m.ix
theorem aJt{t u:c8}{r:List c8}{h:c' nJ.D (t::u::r)}(hk:Ok nJ (t::u::r) h):∀d,d∈t.row nJ h.1->WF nJ d:=λd ay=>hk ⟨t,h.1⟩ (ap2 ..) d ay
abbrev TI:=W1
abbrev aom:=arv
theorem awK{x m:Int}(h:0<=x)(hm:0<=m):NY x m=x%m:=by unfold NY;rw[Int.tmod_eq_emod_of_nonneg h]
def Xw(x:Int):Prop:=0<=x/\x<=255
structure al' (x:TI):Prop where
 k:Xw x.Kind
 a:Xw x.A
 b:Xw x.B
 c:Xw x.C
 p:∀q,q∈x.aiF->Xw q.c6/\Xw q.jb/\Xw q.al6
 l:x.aiF.length<=reachBytes
def Q0(uJ:List TI)(i:Int):Int:=1+(uJ.getD i.toNat aom).Kind%9
section
variable {uJ:List TI}(vc:∀x,x∈uJ->al' x)(hy:uJ.length<=5)
def aAX(uJ:List TI)(i u:Int):Prop:=0<=u/\u<uJ.length/\(7<=Q0 uJ u\/u<i)
def al8(uJ:List TI)(u:Int):Prop:=0<=u/\u<uJ.length/\1<=Q0 uJ u/\Q0 uJ u<=4
def ay7(x:TI):ev:=(aEW x).getD []
def aAP(k:Int)(x:TI)(key:Prop)(v:a6):Prop:=
 v.r3=[]/\v.qb=[]/\v.Rest=[]/\
 (k=1/\v.Kind=1/\v.oj=0/\v.o'=[]/\v.c6=0\/
  k=2/\v.Kind=2/\v.s0=false/\v.o'=[]/\v.c6=0/\x.A%7-3<=v.oj/\v.oj<=x.A%7-3+x.B%6\/
  k=3/\v.Kind=3/\v.s0=false/\v.oj=0/\v.c6=0/\(v.o'.length:Int)<=x.A%4\/
  k=4/\v.Kind=4/\v.s0=false/\v.oj=0/\v.o'=[]/\v.c6∈ay7 x\/
  7<=k/\v.s0=false/\v.oj=0/\v.o'=[]/\v.c6=0/\(v.Kind=k/\(k=8->key)\/k=8/\v.Kind=7/\¬key))
def aAO(uJ:List TI)(t:Int)(v:a6):Prop:=aAP (Q0 uJ t) (uJ.getD t.toNat aom) (∃w,al8 uJ w) v
end
section
variable {uJ:List TI}(vc:∀x,x∈uJ->al' x)(hy:uJ.length<=5)
structure aAV (uJ:List TI)(i:Int)(record:Bool)(m:hv):Prop where
 id:1<=m.c6/\m.c6<=12
 name:m.Name=[UInt8.ofNat 109,UInt8.ofNat (97+m.c6.toNat)]
 aOz:aAX uJ i m.jb
 Lc:m.r2=true->m.qx=false
 un:record=false->m.r2=false/\m.qx=false
 aOq:m.qx=false->m.ix=f5
 TZ:m.qx=true->aAO uJ m.jb m.ix
def arn(uJ:List TI)(i:Int)(record:Bool)(l:List hv):Prop:=l.Pairwise (λa b=>a.c6<b.c6)/\(∀m,m∈l->aAV uJ i record m)/\l.length<=12
def aNe(l:ev):List s4:=l.map λj=>⟨j,[UInt8.ofNat 115,UInt8.ofNat (97+j.toNat)]⟩
def aNU(uJ:List TI)(i:Int)(t:b'):Prop:=
 let x:=uJ.getD i.toNat aom
 let n:=(uJ.length:Int)
 let akZ:=[UInt8.ofNat (65+i.toNat)]
 (Q0 uJ i=1/\t=⟨1,[],0,0,0,[],[],0,0,false⟩)\/
 (Q0 uJ i=2/\t=⟨2,[],x.A%7-3,x.A%7-3+x.B%6,0,[],[],0,0,false⟩)\/
 (Q0 uJ i=3/\t=⟨3,[],0,0,x.A%4,[],[],0,0,false⟩)\/
 (Q0 uJ i=4/\∃o,t=⟨4,akZ,0,0,0,aNe (ay7 x),[],0,0,o⟩)\/
 (Q0 uJ i=5/\∃l,arn uJ i true l/\t=⟨5,akZ,0,0,0,[],l,0,0,false⟩)\/
 (Q0 uJ i=6/\t=⟨5,akZ,0,0,0,[],[],0,0,false⟩)\/
 (Q0 uJ i=6/\∃l o,arn uJ i false l/\0<l.length/\t=⟨6,akZ,0,0,0,[],l,0,0,o⟩)\/
 (Q0 uJ i=7/\t=⟨7,[],0,0,x.A%4,[],[],0,x.C%n,false⟩)\/
 (Q0 uJ i=8/\(∀w,¬al8 uJ w)/\t=⟨7,[],0,0,x.A%4,[],[],0,x.C%n,false⟩)\/
 (Q0 uJ i=8/\∃k,al8 uJ k/\t=⟨8,[],0,0,x.A%4,[],[],k,x.C%n,false⟩)\/
 (Q0 uJ i=9/\t=⟨9,[],0,0,0,[],[],0,x.C%n,false⟩)
end
def aAL(d:W0):Prop:=d.Y2.length<=reachBytes/\∀x,x∈d.Y2->al' x
structure aNO (ts:List b'):Prop where
 Ww:1<=ts.length
 azj:ts.length<=5
 T:∀t,t∈ts->JI t
 V:acW ts
 D:∀t,t∈ts->aJs ts t.c7
 R:∀i:Nat,i<ts.length->∀m,m∈(ts.getD i d4).c7->0<=m.jb/\m.jb<ts.length/\(7<=(ts.getD m.jb.toNat d4).Kind\/m.jb<i)
 L:∀t,t∈ts->t.Kind=2->-3<=t.mJ/\t.mx<=8
 M:∀t,t∈ts->t.Max<=3
 ri:∀t,t∈ts->(∀m,m∈t.c7->m.c6<=12)/\(∀y,y∈t.hD->y.c6<=6)/\t.c7.length<=12
 W:∀t,t∈ts->∀m,m∈t.c7->m.qx=true->wt m.ix<=13
def aaX(are C:ev):Prop:=are.length<=C.length/\∀c,c∈are->c∈C
theorem aaX.refl(C:ev):aaX C C:=⟨DJ _,λ_ h=>h⟩
theorem aaX.trans{A B C:ev}(h:aaX A B)(k:aaX B C):aaX A C:=⟨Ug h.1 k.1,λc a7=>k.2 c (h.2 c a7)⟩
def aiz(C:ev):Prop:=∀c,c∈C->Xw c
theorem aiz.LU{A B:ev}(h:aiz B)(k:aaX A B):aiz A:=λc a7=>h c (k.2 c a7)
theorem aw9{a b:a6}(b6:MQ a.oj)(ai:MQ b.oj):afk (a,b)=some (Vv a b):=by
 obtain⟨r,h1,ad⟩:=ase b6 ai;unfold Vv
 grind
section
variable {ts:List b'}
def aqx(ts:List b')(t:Nat):Nat:=if 7<=(ts.getD t d4).Kind then 0 else t+1
end
structure aNN (d:YP):Prop where
 s:aAL d.S
 t:Xw d.T
 c:aiz d.C
 l:d.C.length<=reachBytes
end
section
open Go Go.Proofs.YtandcioiaooocaaGreat.Shv Go.Sort
set_option maxRecDepth 100000
def P1(n:Nat):b8->Nat
 |[]=>n
 |c::s=>P1 (n*256+c.toNat) s
theorem awi:∀(s:b8) (n k:Nat),n<256^k->P1 n s<256^(k+s.length)
 |[],n,k,h=>by simpa[P1]using h
 |c::s,n,k,h=>by
  have a7:c.toNat<256:=UInt8.toNat_lt c;have h1:n*256+c.toNat<256^(k+1):=by rw[Nat.pow_succ];omega
  have:=awi s _ (k+1) h1;simp only[P1,Yl]
  grind
theorem aM0{n:Nat}(h:n<72057594037927936):WI .u64 (n:Int) 8=((n*256:Nat):Int):=by
 unfold WI;have e:((2:Int)^min (8:Int).toNat IntKind.u64.bits)=256:=by decide
 rw[e];have:(n:Int)*256=((n*256:Nat):Int):=by push_cast;rfl
 rw[this];exact Ur
theorem aIw{a b:Nat}(b6:a<72057594037927936)(ai:b<256):ah0 .u64 ((a*256:Nat):Int) (b:Int)=((a*256+b:Nat):Int):=by
 have e:(BitVec.ofInt 64 ((a*256:Nat):Int) ||| BitVec.ofInt 64 (b:Int)).toNat=a*256+b:=by
  rw[adR,adR,BitVec.toNat_or,adT,adT,aei,ZJ (by omega),ZJ (by omega)];have h:=Nat.shiftLeft_add_eq_or_of_lt (show b<2^8 by omega) a;rw[Nat.shiftLeft_eq]at h;exact h.symm
 show IntKind.u64.wrap (((BitVec.ofInt 64 ((a*256:Nat):Int) ||| BitVec.ofInt 64 (b:Int)).toNat:Nat):Int)=_;rw[e];exact Ur
theorem afP{s:b8}(hs:s.length<=8):∀(k i n:Nat),i+k=s.length->n<256^i->UN (s,(n:Int),(s.length:Int),(i:Int))=some ((P1 n (s.drop i):Nat):Int)
 |0,i,n,ao,eJ=>by
  rw[UN,u1,RY (by omega:s.length<=i)];rfl
 |k+1,i,n,ao,eJ=>by
  have e':i<s.length:=by omega
  have ai:=aeJ s i;have apf:n<72057594037927936:=by
   have:(256:Nat)^i<=256^7:=adS (by omega) (by omega);omega
  rw[UN,kp,bJ (js e'),aM0 apf,afb,WM,aIw apf ai,f7,afP hs k (i+1) _ (by omega) (by rw[Nat.pow_succ];omega),at1 e' 0];rfl
theorem anQ{s:b8}(hs:s.length<=8):∀(k i n:Nat),i+k=s.length->n<256^i->Xb (s,(n:Int),(i:Int))=some ((P1 n (s.drop i):Nat):Int)
 |0,i,n,ao,eJ=>by
  rw[Xb,u1,RY (by omega:s.length<=i)];rfl
 |k+1,i,n,ao,eJ=>by
  have e':i<s.length:=by omega
  have ai:=aeJ s i;have apf:n<72057594037927936:=by
   have:(256:Nat)^i<=256^7:=adS (by omega) (by omega);omega
  have ep:Nw .u64 (n:Int) 256=((n*256:Nat):Int):=adI (b:=256) (by omega);rw[Xb,kp,bJ (js e'),ep,afb,WM,aka (by omega),f7,anQ hs k (i+1) _ (by omega) (by rw[Nat.pow_succ];omega),at1 e' 0];rfl
def PM(s:b8):Option Nat:=if s.head?=some 0\/8<s.length then none else some (P1 0 s)
theorem aj8{s:b8}{n:Nat}(h:PM s=some n):n<18446744073709551616:=by
 unfold PM at h;split at h
 . cases h
 . rename_i ak;cases h;have:=awi s 0 0 (by simp);have ad:(256:Nat)^(0+s.length)<=256^8:=adS (by omega) (by omega);omega
theorem ajv{s:b8}(h:s≠[]):(m5 s 0=0)↔s.head?=some 0:=by
 cases s with
 |nil=>exact absurd rfl h
 |cons c s=>
  have:m5 (c::s) 0=(c.toNat:Int):=afb (c::s) 0;rw[this];simp only[List.head?_cons,hr];constructor
  . intro h;exact UInt8.toNat_inj.1 (by simpa using h)
  simp_all
theorem aJU(s:b8):∃r,aaT s=some r/\(r.2=0->∃n,PM s=some n/\r.1=(n:Int))/\(r.2≠0->PM s=none):=by
 rw[aaT];simp only[h3,ec];by_cases h0:s=[]
 . subst h0;have ep:UN ([],0,((([]:b8)).length:Int),0)=some ((P1 0 []:Nat):Int):=afP (s:=[]) (by simp) 0 0 0 rfl (by simp);refine⟨(((P1 0 []:Nat):Int),0),?_,λ_=>⟨0,rfl,rfl⟩,λh=>absurd rfl h⟩
   grind
 . have Yd:0<s.length:=ahV.2 h0;have JV:hz 0 s.length=true:=js (k:=0) Yd;have ay:(!(decide (s=[])))=true:=by simp[h0]
   rw[ay,JV];simp only[ahO,xe,abG];by_cases gb:m5 s 0=0
   . rw[bJ (by simp[gb])];refine⟨_,rfl,λh=>(by cases h),λ_=>?_⟩;unfold PM;rw[bJ (.inl ((ajv h0).1 gb))]
   . rw[cx (by simp[gb])];by_cases Oj:8<s.length
     . rw[kp];refine⟨_,rfl,λh=>(by cases h),λ_=>?_⟩;unfold PM;rw[bJ (.inr Oj)]
     . have ep:UN (s,0,(s.length:Int),0)=some ((P1 0 s:Nat):Int):=afP (by omega) s.length 0 0 (by omega) (by simp);rw[u1,ep];refine⟨_,rfl,λ_=>⟨P1 0 s,?_,rfl⟩,λh=>absurd rfl h⟩;unfold PM;rw[cx]
       rintro (h|h)
       . exact gb ((ajv h0).2 h)
       omega
theorem aGB(s:b8):∃r,aaT s=some r/\aiQ s=some r/\(r.2=0->∃n,PM s=some n/\r.1=(n:Int))/\(r.2≠0->PM s=none):=by
 rw[aaT,aiQ];simp only[h3,ec];by_cases h0:s=[]
 . subst h0;have ep:UN ([],0,((([]:b8)).length:Int),0)=some ((P1 0 []:Nat):Int):=afP (s:=[]) (by simp) 0 0 0 rfl (by simp);have hp:Xb ([],0,0)=some ((P1 0 []:Nat):Int):=anQ (s:=[]) (by simp) 0 0 0 rfl (by simp);refine⟨(((P1 0 []:Nat):Int),0),?_,?_,λ_=>⟨0,rfl,rfl⟩,λh=>absurd rfl h⟩
   . grind
   grind
 . have Yd:0<s.length:=ahV.2 h0;have JV:hz 0 s.length=true:=js (k:=0) Yd;have ay:decide ((0:Int)<(s.length:Int))=true:=by simp;omega
   have akD:(!(decide (s=[])))=true:=by simp[h0]
   rw[ay,akD,JV];simp only[ahO,xe,abG];by_cases gb:m5 s 0=0
   . have abv:decide (m5 s 0=0)=true:=by simp[gb]
     rw[bJ abv,bJ abv];refine⟨_,rfl,rfl,λh=>(by cases h),λ_=>?_⟩;unfold PM;rw[bJ (.inl ((ajv h0).1 gb))]
   . have abv:¬(decide (m5 s 0=0)=true):=by simp[gb]
     rw[cx abv,cx abv];by_cases Oj:8<s.length
     . have:decide ((8:Int)<(s.length:Int))=true:=by simp;omega
       rw[bJ this,bJ this];refine⟨_,rfl,rfl,λh=>(by cases h),λ_=>?_⟩;unfold PM;rw[bJ (.inr Oj)]
     . have:¬(decide ((8:Int)<(s.length:Int))=true):=by simp;omega
       rw[cx this,cx this];have ep:UN (s,0,(s.length:Int),0)=some ((P1 0 s:Nat):Int):=afP (by omega) s.length 0 0 (by omega) (by simp);have hp:Xb (s,0,0)=some ((P1 0 s:Nat):Int):=anQ (by omega) s.length 0 0 (by omega) (by simp);rw[ep,hp];refine⟨_,rfl,rfl,λ_=>⟨P1 0 s,?_,rfl⟩,λh=>absurd rfl h⟩;unfold PM;rw[cx]
       rintro (h|h)
       . exact gb ((ajv h0).2 h)
       omega
def Qz(n:Nat):Int:=if n%2=0 then((n/2:Nat):Int)else -((n/2:Nat):Int)-1
theorem aJu{n:Nat}(h:n<18446744073709551616):aiO (n:Int)=some (Qz n):=by
 rw[aiO];have ep:NY (n:Int) 2=((n%2:Nat):Int):=azK (b:=2);have hp:OY .u64 (n:Int) 2=((n/2:Nat):Int):=alj h;rw[ep,hp,Si];unfold Qz;by_cases h0:n%2=0
 . grind
 . have zt:MP .i64 0 ((n/2:Nat):Int)= -((n/2:Nat):Int):=by rw[UI];omega
   rw[u1,cx h0,zt,UI]
theorem aA1{n:Nat}(h:n<18446744073709551616):akc .u64 (n:Int) 1=((n%2:Nat):Int):=by
 have e:(BitVec.ofInt 64 (n:Int) &&& BitVec.ofInt 64 (1:Int)).toNat=n%2:=by grind
 show IntKind.u64.wrap (((BitVec.ofInt 64 (n:Int) &&& BitVec.ofInt 64 (1:Int)).toNat:Nat):Int)=_;rw[e];exact Ur
theorem aM1{n:Nat}:abS .u64 (n:Int) 1=((n/2:Nat):Int):=by
 unfold abS;have:((2:Int)^min (1:Int).toNat IntKind.u64.bits)=2:=by decide
 grind
theorem aHT{a:Nat}(h:a<9223372036854775808):aeq .i64 (a:Int) 0=(a:Int):=by
 have e:(BitVec.ofInt 64 (a:Int) ^^^ BitVec.ofInt 64 (0:Int)).toNat=a:=by grind
 show IntKind.i64.wrap (((BitVec.ofInt 64 (a:Int) ^^^ BitVec.ofInt 64 (0:Int)).toNat:Nat):Int)=_;rw[e,IntKind.wrap_i64];omega
theorem aHU{a:Nat}(h:a<9223372036854775808):aeq .i64 (a:Int) (-1)= -(a:Int)-1:=by
 have e:(BitVec.ofInt 64 (a:Int) ^^^ BitVec.ofInt 64 (-1:Int)).toNat=18446744073709551615-a:=by
  have h1:BitVec.ofInt 64 (-1:Int)=BitVec.allOnes 64:=by decide
  rw[h1,adR,BitVec.xor_allOnes,BitVec.toNat_not,adT,aei,ZJ (by omega)]
 all_goals (try omega)
 show IntKind.i64.wrap (((BitVec.ofInt 64 (a:Int) ^^^ BitVec.ofInt 64 (-1:Int)).toNat:Nat):Int)=_;rw[e,IntKind.wrap_i64];omega
theorem aKi{n:Nat}(h:n<18446744073709551616):aiJ (n:Int)=some (Qz n):=by
 rw[aiJ,aM1,aA1 h,Si,Si,UI];unfold Qz;by_cases h0:n%2=0
 . rw[bJ h0,h0];have:(0:Int)-((0:Nat):Int)=0:=rfl;rw[this,aHT (by omega)]
 . have h1:n%2=1:=by omega
   rw[cx h0,h1];have:(0:Int)-((1:Nat):Int)= -1:=rfl;rw[this,aHU (by omega)]
def Q'(p:b8):Option (List b8):=match UO p with
 |some (l,e)=>if e=0 then some l else none
 |none=>none
def R9(p:b8):Option (List yJ):=match VW p with
 |some (l,e)=>if e=0 then some l else none
 |none=>none
def Tt(p:b8):Option (Int×b8):=match UB p with
 |some (id,q,e)=>if e=0 then some (id,q)else none
 |none=>none
theorem at7:∀(n:Nat) (s:b8) (b l:List b8),s.length<=n->s.length+b.length<=100000->TA (s,b)=some (.inr l)->∀q,q∈l->q∈b\/q.length<=s.length
 |n,s,b,l,eJ,ai,h=>by
  rw[TA]at h;by_cases h0:s=[]
  . grind
  . rw[bJ (by simp[h0]),acb]at h;simp only[h3,ec]at h;cases ch:Uo s with
    |none=>
     rw[ch]at h;simp[LG]at h
    |some r=>
     obtain⟨x,rest⟩:=r;rw[ch]at h;have ar:=acm ch;have akJ:¬((!(LG (some (x,rest))).2.2)=true):=by simp[LG]
     have al:q5 16 (b++[(LG (some (x,rest))).1]).length=true:=MD;rw[cx akJ,bJ al]at h;intro q e1
     match n,eJ with
     |0,eJ=>omega
     |n+1,eJ=>
      have:=at7 n rest _ l (by omega) (by simp;omega) h q e1;rcases this with h|h
      . rcases Oy.1 h with h|h
        . exact .inl h
        . right;have:q=x:=by simpa[LG]using h
          grind
      omega
theorem atm:∀(n:Nat) (s:b8) (C2:Nat) (b l:List yJ),s.length<=n->s.length+b.length<=100000->QE ((C2:Int),s,b)=some (.inr l)->
 ∃C0,l=b++C0/\(∀f,f∈C0->f.Data.length<=s.length/\(C2:Int)<f.c6/\f.c6<=1000)/\C0.Pairwise (λa b=>a.c6<b.c6)
 |n,s,C2,b,l,eJ,ai,h=>by
  rw[QE]at h;by_cases h0:s=[]
  . simp_all
  . rw[bJ (by simp[h0])]at h;rcases WL s with⟨e,he,a8⟩|⟨m,k,a8,Oo,hk,hm⟩
    . rw[YB he a8]at h;simp at h
    . rw[YC a8 hk]at h;simp only[h3,ec,alj hm]at h;by_cases a7:((m/2:Nat):Int)<=(C2:Int)\/1000<((m/2:Nat):Int)
      . grind
      . have:¬((bif bif (!true)then true else decide (((m/2:Nat):Int)<=(C2:Int))then true else decide (1000<((m/2:Nat):Int)))=true):=by grind
        rw[cx this,acb (by rw[adY];omega)]at h;simp only[ec]at h;cases ch:Uo (s.drop k)with
        |none=>
         rw[ch]at h;simp[LG]at h
        |some r=>
         obtain⟨x,rest⟩:=r;rw[ch]at h;have ar:=acm ch;rw[adY]at ar;have akJ:¬((!(LG (some (x,rest))).2.2)=true):=by simp[LG]
         have hw:G' .i64 ((m/2:Nat):Int)=((m/2:Nat):Int):=Si;rw[cx akJ,hw]at h;have al:q5 32 (b++[(⟨((m/2:Nat):Int),decide (NY (m:Int) 2=1),(LG (some (x,rest))).1⟩:yJ)]).length=true:=MD;rw[bJ al]at h
         match n,eJ with
         |0,eJ=>omega
         |n+1,eJ=>
          obtain⟨C0,e,h1,ad⟩:=atm n rest (m/2) _ l (by omega) (by simp;omega) h;refine⟨⟨((m/2:Nat):Int),decide (NY (m:Int) 2=1),(LG (some (x,rest))).1⟩::C0,by rw[e];simp,λf c9=>?_,?_⟩
          . rcases Nx.1 c9 with rfl|c9
            . refine⟨by show x.length<=_;omega,by show(C2:Int)<((m/2:Nat):Int);omega,by show((m/2:Nat):Int)<=1000;omega⟩
            grind
          grind
theorem afQ{p:b8}(aJ:p.length<=90000):∃o,UO p=some o/\(o.2=0->Q' p=some o.1/\(∀q,q∈o.1->q.length<=p.length)/\o.1.length<=p.length)/\(o.2≠0->Q' p=none):=by
 obtain⟨o,h1,a'⟩:=aI9 aJ;refine⟨o,h1,λh0=>⟨?_,?_,a'⟩,λh0=>?_⟩
 . unfold Q';rw[h1]
   grind
 . obtain⟨ny,a1,_⟩:=atS p.length p [] (by omega) (by simp;omega);rw[UO,a1]at h1;cases ny with
   |inl e=>grind
   |inr l=>
    have:o=(l,0):=(ZK h1).symm;subst this;intro q e1;rcases at7 p.length p [] l (by omega) (by simp;omega) a1 q e1 with h|h
    . cases h
    . exact h
 . unfold Q';rw[h1]
   grind
theorem atn{p:b8}(aJ:p.length<=90000):∃o,UO p=some o/\Pi p=some o/\(o.2=0->Q' p=some o.1/\(∀q,q∈o.1->q.length<=p.length)/\o.1.length<=p.length)/\(o.2≠0->Q' p=none):=by
 obtain⟨o,h1,a'⟩:=afQ aJ;exact⟨o,h1,by rw[aI' aJ,h1],a'⟩
theorem anc{p:b8}(aJ:p.length<=90000):∃o,VW p=some o/\(o.2=0->R9 p=some o.1/\(∀f,f∈o.1->f.Data.length<=p.length/\Ob f.c6)/\o.1.Pairwise (λa b=>a.c6<b.c6)/\o.1.length<=p.length)/\(o.2≠0->R9 p=none):=by
 obtain⟨o,h1,a'⟩:=aHL aJ;obtain⟨ny,a1,_⟩:=auQ p.length p 0 [] (by omega) (by simp;omega);have key:o.2=0->(∀f,f∈o.1->f.Data.length<=p.length/\Ob f.c6)/\o.1.Pairwise (λa b=>a.c6<b.c6):=by
  intro h0;have LK:=h1;have aAZ:QE (0,p,[])=some ny:=a1;rw[VW,aAZ]at LK;cases ny with
  |inl e=>
   have:o=([],e):=(ZK LK).symm;simp_all
  |inr l=>
   have:o=(l,0):=(ZK LK).symm;subst this;obtain⟨C0,e,b1,b2⟩:=atm p.length p 0 [] l (by omega) (by simp;omega) a1;have:l=C0:=by simpa using e
   subst this;exact⟨λf c9=>by have:=b1 f c9;exact⟨this.1,by omega,this.2.2⟩,b2⟩
 refine⟨o,h1,λh0=>⟨?_,(key h0).1,(key h0).2,a'⟩,λh0=>?_⟩
 . unfold R9;rw[h1]
   grind
 . unfold R9;rw[h1]
   grind
theorem aG3{p:b8}(aJ:p.length<=90000):∃o,VW p=some o/\afq p=some o/\(o.2=0->R9 p=some o.1/\(∀f,f∈o.1->f.Data.length<=p.length/\Ob f.c6)/\o.1.Pairwise (λa b=>a.c6<b.c6)/\o.1.length<=p.length)/\(o.2≠0->R9 p=none):=by
 obtain⟨o,h1,a'⟩:=anc aJ;exact⟨o,h1,by rw[aHM aJ,h1],a'⟩
theorem anN(p:b8):∃o,UB p=some o/\(o.2.2=0->Tt p=some (o.1,o.2.1)/\o.2.1.length<=p.length/\Ob o.1)/\(o.2.2≠0->Tt p=none):=by
 obtain⟨o,h1⟩:=aJO p;have key:o.2.2=0->o.2.1.length<=p.length/\Ob o.1:=by
  intro h0;have LK:=h1;rw[UB]at LK;rcases WL p with⟨e,he,a8⟩|⟨m,k,a8,Oo,hk,hm⟩
  . rw[YB he a8]at LK
    grind
  . rw[YC a8 hk]at LK;simp only[h3,ec]at LK;by_cases a7:(m:Int)<1\/1000<(m:Int)
    . grind
    . have ayg:¬((bif bif (!true)then true else decide ((m:Int)<1)then true else decide (1000<(m:Int)))=true):=by grind
      rw[cx ayg,Si]at LK;have:o=((m:Int),p.drop k,0):=(ZK LK).symm;subst this;exact⟨by show(p.drop k).length<=_;rw[adY];omega,by omega,by show(m:Int)<=1000;omega⟩
 refine⟨o,h1,λh0=>⟨?_,(key h0).1,(key h0).2⟩,λh0=>?_⟩
 . unfold Tt;rw[h1]
   grind
 . unfold Tt;rw[h1]
   grind
theorem aJi(p:b8):∃o,UB p=some o/\aeQ p=some o/\(o.2.2=0->Tt p=some (o.1,o.2.1)/\o.2.1.length<=p.length/\Ob o.1)/\(o.2.2≠0->Tt p=none):=by
 obtain⟨o,h1,a'⟩:=anN p;obtain⟨ny,a1,a2⟩:=aJP p;rw[h1]at a1;rw[<-ZK a1]at a2;exact⟨o,h1,a2,a'⟩
end
section
open Go Go.Proofs.YtandcioiaooocaaGreat.Shv Go.Sort
set_option maxRecDepth 100000
theorem aw'{ms:List hv}(h:YA ms){a b:hv}(b6:a∈ms)(ai:b∈ms)(e:a.c6=b.c6):a=b:=by
 obtain⟨i,ao,rfl⟩:=OV b6;obtain⟨j,ea,rfl⟩:=OV ai;have key:=ahR.1 h.1
 grind
theorem aeK{ms:List hv}{id:Int}{m:hv}(h:MX ms id=some m):m∈ms/\m.c6=id:=
 ⟨List.mem_of_find?_eq_some h,by simpa using List.find?_some h⟩
end
section
open Go Go.Proofs.YtandcioiaooocaaGreat.Shv Go.Sort
set_option maxRecDepth 100000
theorem axa{a:a6}(h:JJ a)(b:a6):Jg (aiY (a,b)) a b:=by
 obtain⟨r,h1,ad⟩:=an1 h b;refine⟨r,?_,ad⟩;rw[aiY];simp only[a6.pa];rw[h1];rfl
theorem aJj{a:a6}(h:JJ a)(b:a6):Jg (YU (a,b)) a b:=aGv h b
theorem aJk:JJ (⟨0,false,0,[],0,[],[],[]⟩:a6):= .mk _ (by simp) (by simp) (by simp) (by simp) (λx h=>by cases h) (λx h=>by cases h) (λx h=>by cases h) (by simp) (by simp) (by simp) (λx h=>by cases h)
def m'{α β:Type}(f:α->Option β):List α->Option (List β)
 |[]=>some []
 |a::l=>match f a,m' f l with
  |some b,some m=>some (b::m)
  |_,_=>none
def MJ{α:Type}:List α->List α
 |a::_::l=>a::MJ l
 |_=>[]
def NV{α:Type}:List α->List α
 |_::b::l=>b::NV l
 |_=>[]
def Xx(ks:List a6):Bool:=(List.range (ks.length-1)).all λi=>decide (Vv (ks.getD i f5) (ks.getD (i+1) f5)<0)
theorem ajQ{ks:List a6}:Xx ks=true↔an2 ks:=by
 unfold Xx an2
 grind
def sJ(ts:List b'):Nat->Int->b8->Option a6
 |0,_,_=>none
 |n+1,t,p=>
  let x:=ts.getD t.toNat d4
  if x.Kind=1 then(if p=[]then some ⟨1,false,0,[],0,[],[],[]⟩else if p=[1]then some ⟨1,true,0,[],0,[],[],[]⟩else none)
  else if x.Kind=2 then(match PM p with
   |some m=>if x.mJ<=Qz m/\Qz m<=x.mx then some ⟨2,false,Qz m,[],0,[],[],[]⟩else none
   |none=>none)
  else if x.Kind=3 then(if(p.length:Int)<=x.Max then some ⟨3,false,0,p,0,[],[],[]⟩else none)
  else if x.Kind=4 then(match PM p with
   |some m=>if 1<=m/\m<=1000/\((x.hD.any λy=>decide (y.c6=(m:Int)))||x.Open)=true then some ⟨4,false,0,[],(m:Int),[],[],[]⟩else none
   |none=>none)
  else if x.Kind=9 then(match p with
   |[]=>some ⟨9,false,0,[],0,[],[],[]⟩
   |c::q=>if c=1 then(sJ ts n x.h6 q).map λv=>⟨9,false,0,[],0,[],[v],[]⟩else none)
  else if x.Kind=6 then(match Tt p with
   |some (id,q)=>(match MX x.c7 id with
    |some m=>(sJ ts n m.jb q).map λv=>⟨6,false,0,[],id,[],[v],[]⟩
    |none=>if x.Open=true then some ⟨6,false,0,[],id,[],[],[⟨id,q⟩]⟩else none)
   |none=>none)
  else if x.Kind=7 then(match Q' p with
   |some l=>if(l.length:Int)<=x.Max then(m' (sJ ts n x.h6) l).map λis=>⟨7,false,0,[],0,[],is,[]⟩else none
   |none=>none)
  else if x.Kind=8 then(match Q' p with
   |some l=>if l.length%2 = 0/\((l.length/2:Nat):Int)<=x.Max then (match m' (sJ ts n x.Key) (MJ l) with
    |some ks=>if Xx ks=true then(m' (sJ ts n x.h6) (NV l)).map λis=>⟨8,false,0,[],0,ks,is,[]⟩else none
    |none=>none)else none
   |none=>none)
  else(match R9 p with
   |some l=>(match m' (λm:hv=>match l.find? (λf=>decide (f.c6 = m.c6)) with
    |some f=>sJ ts n m.jb f.Data
    |none=>if m.qx=true then some m.ix else none) x.c7 with
    |some is=>if(l.all λf=>(MX x.c7 f.c6).isSome || !f.r2)=true then some ⟨5,false,0,[],0,[],is,(l.filter λf=>!(MX x.c7 f.c6).isSome).map λf=>⟨f.c6,f.Data⟩⟩else none
    |none=>none)
   |none=>none)
section
variable {ts:List b'}
def Ky(ts:List b')(b1:ev)(b2:Int)(path:ev)(o:Option a6)(r:Option (a6×Bool×List b'×ev×Int×ev)):Prop:=
 (∀v,o=some v->r=some (v,true,ts,b1,b2,path))/\(o=none->∃w f1 f2,r=some (w,false,ts,f1,f2,path))
theorem afR{path:ev}(aJ:path.length<=1000)(Tq:Int)(b1:ev)(b2:Int):NB (Tq,ts,b1,b2,path)=some ((⟨0,false,0,[],0,[],[],[]⟩:a6),false,ts,Tq,path,path):=by
 rw[NB];unfold anK Qi;rw[bJ (aIR (MD (by omega) (by omega)))];simp
theorem acv{b1:ev}{b2 step t:Int}{p:b8}{path:ev}{o:Option a6}(aJ:path.length<=1000)(h:Ky ts b1 b2 (path++[step]) o (Xe (t,p,ts,b1,b2,path++[step]))):
 Ky ts b1 b2 path o (O2 (step,t,p,ts,b1,b2,path)):=by
 have key:∀w ok f1 f2,Xe (t,p,ts,b1,b2,path++[step])=some (w,ok,ts,f1,f2,path++[step])->O2 (step,t,p,ts,b1,b2,path)=some (w,ok,ts,f1,f2,path):=by
  intro w ok f1 f2 hw;rw[O2];simp only[h3,ec];rw[bJ (MD),hw];simp only[ec,a6.pa];have ep:MP .i64 ((path++[step]).length:Int) 1=(path.length:Int):=by rw[UI (by simp<;>omega) (by simp<;>omega)];simp
  rw[ep];have hp:ME 0 (path.length:Int) (path++[step]).length=true:=Qg.2 (by simp;omega);simp_all
 refine⟨λv ch=>key _ _ _ _ (h.1 v ch),λeJ=>?_⟩;obtain⟨w,f1,f2,hw⟩:=h.2 eJ;exact⟨w,f1,f2,key _ _ _ _ hw⟩
theorem aal{α β:Type}{f:α->Option β}:∀{l:List α} {m:List β},m' f l=some m->m.length=l.length
 |[],m,h=>by rw[m']at h;cases h;rfl
 |a::l,m,h=>by
  rw[m']at h;split at h
  . rename_i b J9 h1 ad;cases h;rw[Yl,Yl,aal ad]
  . cases h
theorem axb {x:b'}{path:ev}{f:b8->Option a6}{l:List b8}(ar:l.length<=90000)(h:∀q,q∈l->∀step b1 b2,Ky ts b1 b2 path (f q) (O2 (step,x.h6,q,ts,b1,b2,path)))
 {z0 z2 z4 a0 a2 a4:Int}{z1 a1:Bool}{z3 a3:b8}{b1:ev}{b2:Int}:∀(k i:Nat) (acc:List a6),i+k=l.length->acc.length=i->
 (∀m,m' f (l.drop i)=some m->aaD (l,(l.length:Int),(i:Int),ts,b1,b2,x,z0,z1,z2,z3,z4,a0,a1,a2,a3,a4,path,acc)=some (.inr (ts,b1,b2,z0,z1,z2,z3,z4,a0,a1,a2,a3,a4,path,acc++m)))/\
 (m' f (l.drop i)=none->∃w f1 f2,aaD (l,(l.length:Int),(i:Int),ts,b1,b2,x,z0,z1,z2,z3,z4,a0,a1,a2,a3,a4,path,acc)=some (.inl (false,ts,f1,f2,w,path)))
 |0,i,acc,ao,b6=>by
  rw[aaD,u1,RY (by omega),m']
  grind
 |k+1,i,acc,ao,b6=>by
  have e':i<l.length:=by omega
  have ay:=h _ (E' e' []) (i:Int) b1 b2;have e:l.drop i=l.getD i []::l.drop (i+1):=by rw[KZ e'];exact Vj e'
  rw[aaD,kp,bJ (js e'),u3,e,m'];cases c9:f (l.getD i [])with
  |none=>
   obtain⟨w,f1,f2,hw⟩:=ay.2 c9;simp_all
  |some v=>
   rw[ay.1 v c9];simp only[h3,ec,a6.pa,OW];rw[nc,bJ (MD),f7];obtain⟨i1,i2⟩:=axb ar h (z0:=z0) (z1:=z1) (z2:=z2) (z3:=z3) (z4:=z4) (a0:=a0) (a1:=a1) (a2:=a2) (a3:=a3) (a4:=a4) (b1:=b1) (b2:=b2) k (i+1) (acc++[v]) (by omega) (by simp;omega)
   cases hs:m' f (l.drop (i+1))with
   |none=>exact⟨λm hm=>by simp at hm,λ_=>i2 hs⟩
   |some J9=>grind
end
theorem axc{l:List a6}{i:Nat}(ao:i<l.length):l.set i (l.getD i f5)=l:=by simp_all
theorem aua{a0 a2 a4 z0 z2 z4:Int}{a1 z1:Bool}{a3 z3:b8}{l l2:List a6}{r:List Jh}(ar:l.length<=5000000000000)(h:∀y,y∈l->Rr y=some y):∀(k i:Nat),i+k=l.length->
 aaP ((l.length:Int),(i:Int),a0,a1,a2,a3,a4,z0,z1,z2,z3,z4,l,l2,r)=some (a0,a1,a2,a3,a4,z0,z1,z2,z3,z4,l,l2,r)
 |0,i,ao=>by rw[aaP,u1]
 |k+1,i,ao=>by
  have e':i<l.length:=by omega
  rw[aaP,kp,bJ (js e'),u3,kp];simp only[a6.pa];rw[h _ (E' e' f5)];simp only[h3,ec,a6.pa];rw[bJ (js e'),kp,f7,axc e'];exact aua ar h k (i+1) (by omega)
theorem aub{a0 a2 a4 z0 z2 z4:Int}{a1 z1:Bool}{a3 z3:b8}{l l2:List a6}{r:List Jh}(ar:l.length<=5000000000000)(h:∀y,y∈l->Rr y=some y):∀(k i:Nat),i+k=l.length->
 aaQ ((l.length:Int),(i:Int),a0,a1,a2,a3,a4,z0,z1,z2,z3,z4,l,l2,r)=some (a0,a1,a2,a3,a4,z0,z1,z2,z3,z4,l2,l,r)
 |0,i,ao=>by rw[aaQ,u1]
 |k+1,i,ao=>by
  have e':i<l.length:=by omega
  rw[aaQ,kp,bJ (js e'),u3,kp];simp only[a6.pa];rw[h _ (E' e' f5)];simp only[h3,ec,a6.pa];rw[bJ (js e'),kp,f7,axc e'];exact aub ar h k (i+1) (by omega)
section
variable {ts:List b'}
def aeB(ts:List b')(n:Nat):Prop:=∀(t:Int) (p:b8) (b1:ev) (b2:Int) (path:ev),0<=t->t<ts.length->p.length<=4096->path.length+n=200->
 Ky ts b1 b2 path (sJ ts n t p) (Xe (t,p,ts,b1,b2,path))
theorem Qe{path:ev}(aJ:path.length<=1000)(Tq:Int)(b1:ev)(b2:Int):Ky ts b1 b2 path none (NB (Tq,ts,b1,b2,path)>>=λr=>some (a6.eta r.1,r.2.1,r.2.2.1,r.2.2.2.2.2,r.2.2.2.1,r.2.2.2.2.1)):=by
 refine⟨λv h=>(by cases h),λ_=>?_⟩;rw[afR aJ];simp_all
theorem azh{x:b'}(hm:YA x.c7)(ar:x.c7.length<=1000){id:Int}{m:hv}(v':MX x.c7 id=some m):∃j,j<x.c7.length/\aaU (x,id)=some ((j:Int),true)/\x.c7.getD j d5=m:=by
 obtain⟨m1,m2⟩:=aeK v';obtain⟨r,ln,sb⟩:=amL (t:=x) (id:=id) (by omega);rcases sb with⟨j,M1,Me,_,rfl⟩|⟨q,_⟩
 . exact⟨j,M1,ln,aw' hm (E' M1 d5) m1 (by rw[Me,m2])⟩
 . obtain⟨i,ao,rfl⟩:=OV m1
   grind
theorem aHV(H:aiX ts){n:Nat}(ih:aeB ts n){x:b'}(aa:x∈ts)(q':x.Kind=6)(JD:∀m,m∈x.c7->0<=m.jb/\m.jb<ts.length){p:b8}(aJ:p.length<=4096){b1:ev}{b2:Int}{path:ev}(L9:path.length+(n+1)=200):
 Ky ts b1 b2 path (match Tt p with
  |some (id,q)=>(match MX x.c7 id with
   |some m=>(sJ ts n m.jb q).map λv=>⟨6,false,0,[],id,[],[v],[]⟩
   |none=>if x.Open=true then some ⟨6,false,0,[],id,[],[],[⟨id,q⟩]⟩else none)
  |none=>none) (aiP (x,p,ts,b1,b2,path)):=by
 obtain⟨o,MB,K8,MC⟩:=anN p;rw[aiP,MB];simp only[h3,ec];by_cases h0:o.2.2=0
 . obtain⟨v1,v2,v3⟩:=K8 h0;rw[cx (by simp[h0]),v1];dsimp only;obtain⟨adj,aoG⟩:=H.A x aa (.inr q');cases v':MX x.c7 o.1 with
   |some m=>
    obtain⟨j,M1,Me,Ub⟩:=azh adj (by omega) v';rw[Me];simp only[ec];rw[bJ trivial,bJ (js M1),u3,Ub];obtain⟨t1,t2⟩:=JD m (aeK v').1;have ay:=acv (step:=o.1) (path:=path) (by omega) (ih m.jb o.2.1 b1 b2 (path++[o.1]) t1 t2 (by omega) (by simp;omega));cases ch:sJ ts n m.jb o.2.1 with
    |none=>
     obtain⟨w,f1,f2,hw⟩:=ay.2 ch;rw[hw];exact⟨λv h=>by simp at h,λ_=>⟨_,_,_,rfl⟩⟩
    |some v=>
     rw[ay.1 v ch]
     exact⟨λJu h=>by
      have:Ju=⟨6,false,0,[],o.1,[],[v],[]⟩:=by simpa using h.symm
      rw[this]
      simp[a6.pa,q'],λh=>by simp at h⟩
   |none=>
    obtain⟨r,ln,sb⟩:=amL (t:=x) (id:=o.1) (by omega);have al:r=(0,false):=by
     rcases sb with⟨j,M1,Me,_,_⟩|⟨_,q⟩
     . exact absurd Me (ajk v' _ (E' M1 d5))
     . exact q
    rw[ln,al];cases MK:x.Open with
    |false=>
     simp only[ec,y0,Jb,Tf,xe,eq_self];exact Qe (by omega) _ _ _
    |true=>
     simp only[ec,y0,Jb,OW,xe,eq_self];exact⟨λJu h=>(by cases h;rw[q']),λh=>(by cases h)⟩
 . rw[bJ (by simp[h0]),MC h0];exact Qe (by omega) _ _ _
end
theorem ato{α:Type}{l:List α}{j:Nat}(h:2*j+1<l.length)(d:α):MJ (l.drop (2*j))=l.getD (2*j) d::MJ (l.drop (2*(j+1))):=by
 rw[Vj (by omega:2*j<l.length),Vj h,MJ,KZ (by omega)];rfl
theorem auc{α:Type}{l:List α}{j:Nat}(h:2*j+1<l.length)(d:α):NV (l.drop (2*j))=l.getD (2*j+1) d::NV (l.drop (2*(j+1))):=by
 rw[Vj (by omega:2*j<l.length),Vj h,NV,KZ h];rfl
theorem auW{i:Nat}(h:i<1000000):hK .i64 (i:Int) 2=((i+2:Nat):Int):=by
 have:=awx (a:=i) (b:=2) (by omega);exact this
section
variable {ts:List b'}
theorem axd {x:b'}{path:ev}{f:b8->Option a6}{l:List b8}(ar:l.length<=90000)(he:l.length%2=0)(h:∀q,q∈l->∀step b1 b2,Ky ts b1 b2 path (f q) (O2 (step,x.Key,q,ts,b1,b2,path)))
 {z0 z2 z4 a0 a2 a4:Int}{z1 a1:Bool}{z3 a3:b8}{b1:ev}{b2:Int}:∀(k j:Nat) (acc:List a6),2*(j+k)=l.length->acc.length=j->
 (∀m,m' f (MJ (l.drop (2*j)))=some m->aaB (l,((2*j:Nat):Int),ts,b1,b2,x,z0,z1,z2,z3,z4,a0,a1,a2,a3,a4,path,acc)=some (.inr (l,ts,b1,b2,x,z0,z1,z2,z3,z4,a0,a1,a2,a3,a4,path,acc++m)))/\
 (m' f (MJ (l.drop (2*j)))=none->∃w f1 f2,aaB (l,((2*j:Nat):Int),ts,b1,b2,x,z0,z1,z2,z3,z4,a0,a1,a2,a3,a4,path,acc)=some (.inl (false,ts,f1,f2,w,path)))
 |0,j,acc,ao,b6=>by
  rw[aaB,u1,RY (by omega),show MJ ([]:List b8)=[]from rfl,m']
  grind
 |k+1,j,acc,ao,b6=>by
  have e':2*j<l.length:=by omega
  have ay:=h _ (E' e' []) (OY .i64 ((2*j:Nat):Int) 2) b1 b2;rw[aaB,kp,bJ (js e'),u3,ato (by omega) [],m'];cases c9:f (l.getD (2*j) [])with
  |none=>
   obtain⟨w,f1,f2,hw⟩:=ay.2 c9;simp_all
  |some v=>
   rw[ay.1 v c9];simp only[h3,ec,a6.pa,OW];rw[nc,bJ (MD),auW (by omega)];obtain⟨i1,i2⟩:=axd ar he h (z0:=z0) (z1:=z1) (z2:=z2) (z3:=z3) (z4:=z4) (a0:=a0) (a1:=a1) (a2:=a2) (a3:=a3) (a4:=a4) (b1:=b1) (b2:=b2) k (j+1) (acc++[v]) (by omega) (by simp;omega)
   have aoz:2*j+2=2*(j+1):=by omega
   rw[aoz];cases hs:m' f (MJ (l.drop (2*(j+1))))with
   |none=>exact⟨λm hm=>by simp at hm,λ_=>i2 hs⟩
   |some J9=>grind
theorem aud {x:b'}{path:ev}{f:b8->Option a6}{l:List b8}(ar:l.length<=90000)(he:l.length%2=0)(h:∀q,q∈l->∀step b1 b2,Ky ts b1 b2 path (f q) (O2 (step,x.h6,q,ts,b1,b2,path)))
 {z0 z2 z4 a0 a2 a4:Int}{z1 a1:Bool}{z3 a3:b8}{b1:ev}{b2:Int}{ks:List a6}:∀(k j:Nat) (acc:List a6),2*(j+k)=l.length->acc.length=j->
 (∀m,m' f (NV (l.drop (2*j)))=some m->aaC (l,((2*j+1:Nat):Int),ts,b1,b2,x,z0,z1,z2,z3,z4,a0,a1,a2,a3,a4,path,ks,acc)=some (.inr (ts,b1,b2,z0,z1,z2,z3,z4,a0,a1,a2,a3,a4,path,ks,acc++m)))/\
 (m' f (NV (l.drop (2*j)))=none->∃w f1 f2,aaC (l,((2*j+1:Nat):Int),ts,b1,b2,x,z0,z1,z2,z3,z4,a0,a1,a2,a3,a4,path,ks,acc)=some (.inl (false,ts,f1,f2,w,path)))
 |0,j,acc,ao,b6=>by
  rw[aaC,u1,RY (by omega),show NV ([]:List b8)=[]from rfl,m']
  grind
 |k+1,j,acc,ao,b6=>by
  have e':2*j+1<l.length:=by omega
  have ay:=h _ (E' e' []) (OY .i64 ((2*j+1:Nat):Int) 2) b1 b2;rw[aaC,kp,bJ (js e'),u3,auc e' [],m'];cases c9:f (l.getD (2*j+1) [])with
  |none=>
   obtain⟨w,f1,f2,hw⟩:=ay.2 c9;simp_all
  |some v=>
   rw[ay.1 v c9];simp only[h3,ec,a6.pa,OW];rw[nc,bJ (MD),auW (by omega)];obtain⟨i1,i2⟩:=aud ar he h (z0:=z0) (z1:=z1) (z2:=z2) (z3:=z3) (z4:=z4) (a0:=a0) (a1:=a1) (a2:=a2) (a3:=a3) (a4:=a4) (b1:=b1) (b2:=b2) (ks:=ks) k (j+1) (acc++[v]) (by omega) (by simp;omega)
   have aoz:2*j+1+2=2*(j+1)+1:=by omega
   rw[aoz];cases hs:m' f (NV (l.drop (2*(j+1))))with
   |none=>exact⟨λm hm=>by simp at hm,λ_=>i2 hs⟩
   |some J9=>grind
end
section
variable {ts:List b'}
theorem aJV{a b:a6}(b6:MQ a.oj)(ai:MQ b.oj):acK (a,b)=some (Vv a b):=by
 obtain⟨r,ln,sb⟩:=ase b6 ai;have:=aw9 b6 ai
 grind
theorem awL {x:b'}{path:ev}(aJ:path.length<=1000){l:List b8}{ks:List a6}(hk:∀y,y∈ks->MQ y.oj)(ar:ks.length<=90000)
 {z0 z2 z4 a0 a2 a4:Int}{z1 a1:Bool}{z3 a3:b8}{b1:ev}{b2:Int}:∀(k i:Nat),ks.length-(i+1)=k->
 ((∀m,i<=m->m+1<ks.length->Vv (ks.getD m f5) (ks.getD (m+1) f5)<0)/\YG (l,((i+1:Nat):Int),ts,b1,b2,x,z0,z1,z2,z3,z4,a0,a1,a2,a3,a4,path,ks)=some (.inr (l,ts,b1,b2,x,z0,z1,z2,z3,z4,a0,a1,a2,a3,a4,path,ks)))\/
 ((∃m,m+1<ks.length/\¬Vv (ks.getD m f5) (ks.getD (m+1) f5)<0)/\∃w f1 f2,YG (l,((i+1:Nat):Int),ts,b1,b2,x,z0,z1,z2,z3,z4,a0,a1,a2,a3,a4,path,ks)=some (.inl (false,ts,f2,w,path,f1)))
 |0,i,ao=>by
  rw[YG,u1]
  grind
 |k+1,i,ao=>by
  have e':i+1<ks.length:=by omega
  have ep:MP .i64 ((i+1:Nat):Int) 1=(i:Int):=by rw[UI];omega
  rw[YG,kp,ep];simp only[h3,ec];rw[bJ (js (by omega)),kp,bJ (js e'),kp,u3,u3];simp only[a6.pa];rw[aJV (hk _ (E' (by omega) f5)) (hk _ (E' e' f5))];simp only[ec];by_cases a7:Vv (ks.getD i f5) (ks.getD (i+1) f5)<0
  . rw[cx (by simpa using a7),f7];rcases awL aJ hk ar (x:=x) (l:=l) (z0:=z0) (z1:=z1) (z2:=z2) (z3:=z3) (z4:=z4) (a0:=a0) (a1:=a1) (a2:=a2) (a3:=a3) (a4:=a4) (b1:=b1) (b2:=b2) k (i+1) (by omega)with⟨h1,ad⟩|h
    . grind
    grind
  . rw[bJ (by simpa using a7),afR aJ]
    grind
theorem awM{m:Nat}(h:m<18446744073709551616):MQ (Qz m):=by
 unfold Qz MQ;omega
theorem apF:MQ 0:=by unfold MQ;omega
def Uy(o:Option a6):Prop:=∀v,o=some v->MQ v.oj
theorem Uy.ite{c:Prop}[Decidable c]{a b:Option a6}(b6:c->Uy a)(ai:¬c->Uy b):Uy (if c then a else b):=by grind
theorem Uy.no:Uy none:=λv h=>(by cases h)
theorem Uy.zero{k i:Int}{b:Bool}{s:b8}{ks is:List a6}{r:List Jh}:Uy (some ⟨k,b,0,s,i,ks,is,r⟩):=λv h=>(by cases h;exact apF)
theorem Uy.map{α:Type}{o:Option α}{k i:Int}{b:Bool}{s:b8}{ks is:α->List a6}{r:List Jh}:Uy (o.map λv=>⟨k,b,0,s,i,ks v,is v,r⟩):=λv h=>by obtain⟨_,_,rfl⟩:=adQ.1 h;exact apF
theorem axe{n:Nat}{t:Int}{p:b8}{v:a6}(h:sJ ts n t p=some v):MQ v.oj:=by
 have key:Uy (sJ ts n t p):=by
  cases n with
  |zero=>unfold sJ;exact .no
  |succ n=>
   unfold sJ;refine .ite (λ_=>.ite (λ_=>.zero) λ_=>.ite (λ_=>.zero) λ_=>.no) λ_=>?_
   refine .ite (λ_=>?_) λ_=>?_
   . cases hm:PM p with
     |none=>exact .no
     |some m=>exact .ite (λ_=>λv h=>(by cases h;exact awM (aj8 hm))) λ_=>.no
   refine .ite (λ_=>.ite (λ_=>.zero) λ_=>.no) λ_=>?_
   refine .ite (λ_=>?_) λ_=>?_
   . cases hm:PM p with
     |none=>exact .no
     |some m=>exact .ite (λ_=>.zero) λ_=>.no
   refine .ite (λ_=>?_) λ_=>?_
   . cases p with
     |nil=>exact .zero
     |cons c q=>exact .ite (λ_=>.map) λ_=>.no
   refine .ite (λ_=>?_) λ_=>?_
   . cases Tt p with
     |none=>exact .no
     |some a=>
      obtain⟨id,q⟩:=a;dsimp only;cases MX (ts.getD t.toNat d4).c7 id with
      |none=>exact .ite (λ_=>.zero) λ_=>.no
      |some m=>exact .map
   refine .ite (λ_=>?_) λ_=>?_
   . cases Q' p with
     |none=>exact .no
     |some l=>exact .ite (λ_=>.map) λ_=>.no
   refine .ite (λ_=>?_) λ_=>?_
   . cases Q' p with
     |none=>exact .no
     |some l=>
      refine .ite (λ_=>?_) λ_=>.no
      cases m' (sJ ts n (ts.getD t.toNat d4).Key) (MJ l)with
      |none=>exact .no
      |some ks=>exact .ite (λ_=>.map) λ_=>.no
   . cases R9 p with
     |none=>exact .no
     |some l=>
      dsimp only;split
      . exact .ite (λ_=>.zero) λ_=>.no
      . exact .no
 exact key v h
theorem afS{α β:Type}{f:α->Option β}:∀{l:List α} {m:List β},m' f l=some m->∀y,y∈m->∃a,a∈l/\f a=some y
 |[],m,h,y,bo=>by rw[m']at h;cases h;cases bo
 |a::l,m,h,y,bo=>by
  rw[m']at h;split at h
  . rename_i b J9 h1 ad;cases h;rcases Nx.1 bo with rfl|bo
    . grind
    . obtain⟨n1,ha,hg⟩:=afS ad y bo
      grind
  . cases h
theorem aue{α:Type}:∀{l:List α} {y:α},y∈MJ l->y∈l
 |[],y,h=>by cases h
 |[_],y,h=>by cases h
 |a::b::l,y,h=>by
  rcases Nx.1 h with rfl|h
  . grind
  . exact .tail _ (.tail _ (aue h))
theorem ane{α:Type}:∀(l:List α),(MJ l).length<=l.length
 |[]=>DJ _
 |[_]=>Q2 _
 |a::b::l=>by
  show(MJ l).length+1<=l.length+1+1;have:=ane l;omega
theorem azE{a:Nat}(h:a<1000000):OY .i64 (a:Int) 2=((a/2:Nat):Int):=by
 unfold OY;have e:(a:Int).tdiv 2=((a/2:Nat):Int):=by rw[Int.tdiv_eq_ediv_of_nonneg (by omega)];omega
 rw[e];exact Si
theorem aJW{n:Nat}(ih:aeB ts n){x:b'}(Nu:x.Kind=8)(p':0<=x.Key/\x.Key<ts.length)(Jn:0<=x.h6/\x.h6<ts.length){p:b8}(aJ:p.length<=4096){b1:ev}{b2:Int}{path:ev}(L9:path.length+(n+1)=200):
 Ky ts b1 b2 path (match Q' p with
  |some l=>if l.length%2 = 0/\((l.length/2:Nat):Int)<=x.Max then (match m' (sJ ts n x.Key) (MJ l) with
   |some ks=>if Xx ks=true then(m' (sJ ts n x.h6) (NV l)).map λis=>(⟨8,false,0,[],0,ks,is,[]⟩:a6)else none
   |none=>none)else none
  |none=>none) (afh (x,p,ts,b1,b2,path)):=by
 obtain⟨o,MB,K8,MC⟩:=afQ (p:=p) (by omega);rw[afh,MB];simp only[h3,ec];by_cases h0:o.2=0
 . obtain⟨v1,v2,v3⟩:=K8 h0;rw[v1];dsimp only;have adu:NY (o.1.length:Int) 2=((o.1.length%2:Nat):Int):=by rw[awK (by omega) (by omega)];omega
   rw[adu,azE (by omega)];by_cases he:o.1.length%2=0
   . have ai:¬(bif (!(decide (o.2=0)))then true else(!(decide (((o.1.length%2:Nat):Int)=0))))=true:=by grind
     rw[cx ai];by_cases hm:((o.1.length/2:Nat):Int)<=x.Max
     . rw[bJ (show o.1.length%2=0/\((o.1.length/2:Nat):Int)<=x.Max from⟨he,hm⟩),cx (show ¬decide (x.Max<((o.1.length/2:Nat):Int))=true by simp only[u2];omega)];have hk:∀q,q∈o.1->∀step b1 b2,Ky ts b1 b2 path (sJ ts n x.Key q) (O2 (step,x.Key,q,ts,b1,b2,path)):=λq e1 step b1 b2=>
        acv (by omega) (ih x.Key q b1 b2 (path++[step]) p'.1 p'.2 (by have:=v2 q e1;omega) (by simp;omega))
       have ao:∀q,q∈o.1->∀step b1 b2,Ky ts b1 b2 path (sJ ts n x.h6 q) (O2 (step,x.h6,q,ts,b1,b2,path)):=λq e1 step b1 b2=>
        acv (by omega) (ih x.h6 q b1 b2 (path++[step]) Jn.1 Jn.2 (by have:=v2 q e1;omega) (by simp;omega))
       obtain⟨JR,NI⟩:=axd (x:=x) (l:=o.1) (by omega) he hk (z0:=0) (z1:=false) (z2:=0) (z3:=[]) (z4:=0) (a0:=x.Kind) (a1:=false) (a2:=0) (a3:=[]) (a4:=0) (b1:=b1) (b2:=b2) (o.1.length/2) 0 [] (by omega) rfl;have d0:o.1.drop (2*0)=o.1:=rfl;rw[d0]at JR NI;have z0:((2*0:Nat):Int)=0:=rfl;rw[z0]at JR NI
       cases hs:m' (sJ ts n x.Key) (MJ o.1)with
       |none=>
        obtain⟨w,f1,f2,hw⟩:=NI hs;rw[hw];exact⟨λv h=>(by cases h),λ_=>⟨_,_,_,rfl⟩⟩
       |some ks=>
        rw[JR ks hs];simp only[ec,Ue];have apa:∀y,y∈ks->MQ y.oj:=λy bo=>by
         obtain⟨a,_,b6⟩:=afS hs y bo;exact axe b6
        have ayw:ks.length<=90000:=by
         have:=aal hs;have:=ane o.1;omega
        have B:=awL (ts:=ts) (x:=x) (path:=path) (by omega) (l:=o.1) apa ayw (z0:=0) (z1:=false) (z2:=0) (z3:=[]) (z4:=0) (a0:=x.Kind) (a1:=false) (a2:=0) (a3:=[]) (a4:=0) (b1:=b1) (b2:=b2) _ 0 rfl;have z1:((0+1:Nat):Int)=1:=rfl;rw[z1]at B;rcases B with⟨aiy,abZ⟩|⟨⟨m,m1,m2⟩,w,f1,f2,abZ⟩
        . have aoM:Xx ks=true:=ajQ.2 λi ao=>aiy i (Q2 _) ao
          rw[bJ aoM,abZ];simp only[ec];obtain⟨al3,al4⟩:=aud (x:=x) (l:=o.1) (by omega) he ao (z0:=0) (z1:=false) (z2:=0) (z3:=[]) (z4:=0) (a0:=x.Kind) (a1:=false) (a2:=0) (a3:=[]) (a4:=0) (b1:=b1) (b2:=b2) (ks:=ks) (o.1.length/2) 0 [] (by omega) rfl;rw[d0]at al3 al4;have z2:((2*0+1:Nat):Int)=1:=rfl;rw[z2]at al3 al4
          cases ahj:m' (sJ ts n x.h6) (NV o.1)with
          |none=>
           obtain⟨w,f1,f2,hw⟩:=al4 ahj;rw[hw];exact⟨λv h=>(by cases h),λ_=>⟨_,_,_,rfl⟩⟩
          |some is=>
           rw[al3 is ahj];exact⟨λv h=>(by cases h;simp[Nu]),λh=>(by cases h)⟩
        . have aoM:¬Xx ks=true:=λh=>m2 (ajQ.1 h m m1)
          rw[cx aoM,abZ];exact⟨λv h=>(by cases h),λ_=>⟨a6.eta w,f1,f2,rfl⟩⟩
     . rw[cx (show ¬(o.1.length%2=0/\((o.1.length/2:Nat):Int)<=x.Max)fromλh=>hm h.2),bJ (show decide (x.Max<((o.1.length/2:Nat):Int))=true by simp only[u2];omega)];exact Qe (by omega) _ _ _
   . have ai:(bif (!(decide (o.2=0)))then true else(!(decide (((o.1.length%2:Nat):Int)=0))))=true:=by grind
     rw[cx (show ¬(o.1.length%2=0/\((o.1.length/2:Nat):Int)<=x.Max)fromλh=>he h.1),bJ ai];exact Qe (by omega) _ _ _
 . have ai:(bif (!(decide (o.2=0)))then true else(!(decide (NY (o.1.length:Int) 2=0))))=true:=by simp[h0]
   rw[bJ ai,MC h0];exact Qe (by omega) _ _ _
end
section
variable {ts:List b'}
theorem aHW{l:List yJ}(m:hv)(ar:l.length<=90000):(∃j,j<l.length/\l.find? (λf=>decide (f.c6=m.c6))=some (l.getD j Lr)/\afe (l,m)=some ((j:Int),m))\/
 (l.find? (λf=>decide (f.c6=m.c6))=none/\afe (l,m)=some (-1,m)):=by
 have h:=aco (λi=>W4 (l,(l.length:Int),(i:Int),m)) l.length (λi=>decide ((l.getD i Lr).c6=m.c6)) (λi=>.inl ((i:Int),m)) (.inr m)
  (λi ao=>by
   rw[W4,kp,bJ (js ao)];simp only[h3,ec,u3,a6.pa,ams]
   rw[f7])
  (by rw[W4,nc];simp only[UC])
 have vK:W4 (l,(l.length:Int),((0:Nat):Int),m)=W4 (l,(l.length:Int),0,m):=rfl;simp only[vK]at h;rw[afe];simp only[UC];rcases h with⟨j,h1,ad,a',d'⟩|⟨h1,d'⟩
 . left;refine⟨j,h1,?_,by rw[d'];simp only[h3,ec,UC]⟩;rw[KZ h1]at ad⊢;rw[azo];refine⟨ad,j,h1,rfl,λk hk=>?_⟩;have:=a' k hk;rw[KZ (by omega)]at this
   simpa using this
 . right;refine⟨?_,by rw[d'];simp only[h3,ec,UC]⟩;rw[List.find?_eq_none];intro f c9;obtain⟨i,ao,rfl⟩:=OV c9;have:=h1 i ao;rw[KZ ao]at this
   simpa using this
def agz{β:Type}:Option β->Option (List β)->Option (List β)
 |some b,some m=>some (b::m)
 |_,_=>none
theorem aeL{α β:Type}(f:α->Option β)(a:α)(l:List α):m' f (a::l)=agz (f a) (m' f l):=by rfl
def Je(f:Int->b8->Option a6)(l:List yJ)(m:hv):Option a6:=match l.find? (λf=>decide (f.c6=m.c6))with
 |some g=>f m.jb g.Data
 |none=>if m.qx=true then some m.ix else none
theorem axf {x:b'}{path:ev}(QX:path.length<=900){f:Int->b8->Option a6}{l:List yJ}(ar:l.length<=90000)(Lh:x.c7.length<=16)
 (Pm:∀m,m∈x.c7->m.qx=true->Rr m.ix=some m.ix)
 (h:∀m,m∈x.c7->∀q,q∈l->∀step b1 b2,Ky ts b1 b2 path (f m.jb q.Data) (O2 (step,m.jb,q.Data,ts,b1,b2,path)))
 {z0 z2 z4 a0 a2 a4:Int}{z1 a1:Bool}{z3 a3:b8}{b1:ev}{b2:Int}:∀(k i:Nat) (acc:List a6),i+k=x.c7.length->acc.length=i->
 (∀m,m' (Je f l) (x.c7.drop i)=some m->UJ (l,x.c7,(x.c7.length:Int),(i:Int),ts,b1,b2,x,z0,z1,z2,z3,z4,a0,a1,a2,a3,a4,path,acc)=some (.inr (l,ts,b1,b2,x,z0,z1,z2,z3,z4,a0,a1,a2,a3,a4,path,acc++m)))/\
 (m' (Je f l) (x.c7.drop i)=none->∃w f1 f2,UJ (l,x.c7,(x.c7.length:Int),(i:Int),ts,b1,b2,x,z0,z1,z2,z3,z4,a0,a1,a2,a3,a4,path,acc)=some (.inl (false,ts,f1,f2,w,path)))
 |0,i,acc,ao,b6=>by
  rw[UJ,u1,RY (by omega),m']
  grind
 |k+1,i,acc,ao,b6=>by
  have e':i<x.c7.length:=by omega
  have Vf:=E' e' d5;have e:x.c7.drop i=x.c7.getD i d5::x.c7.drop (i+1):=by rw[KZ e'];exact Vj e'
  have go:∀v,(∀J9,m' (Je f l) (x.c7.drop (i+1))=some J9->UJ (l,x.c7,(x.c7.length:Int),((i+1:Nat):Int),ts,b1,b2,x,z0,z1,z2,z3,z4,a0,a1,a2,a3,a4,path,acc++[v])=some (.inr (l,ts,b1,b2,x,z0,z1,z2,z3,z4,a0,a1,a2,a3,a4,path,acc++[v]++J9)))/\(m' (Je f l) (x.c7.drop (i+1))=none->∃w f1 f2,UJ (l,x.c7,(x.c7.length:Int),((i+1:Nat):Int),ts,b1,b2,x,z0,z1,z2,z3,z4,a0,a1,a2,a3,a4,path,acc++[v])=some (.inl (false,ts,f1,f2,w,path))):=λv=>
   axf QX ar Lh Pm h k (i+1) (acc++[v]) (by omega) (by simp;omega)
  rw [UJ,kp,bJ (js e'),u3,e,aeL];simp only [h3,ec,UC];generalize x.c7.getD i d5 = m0 at *;have LJ:∀ (v:a6) (X:Option _),Je f l m0 = some v->X = UJ (l,x.c7,(x.c7.length:Int),((i+1:Nat):Int),ts,b1,b2,x,z0,z1,z2,z3,z4,a0,a1,a2,a3,a4,path,acc++[v])->
   (∀m,agz (Je f l m0) (m' (Je f l) (x.c7.drop (i+1)))=some m->X=some (.inr (l,ts,b1,b2,x,z0,z1,z2,z3,z4,a0,a1,a2,a3,a4,path,acc++m)))/\
   (agz (Je f l m0) (m' (Je f l) (x.c7.drop (i+1)))=none->∃w f1 f2,X=some (.inl (false,ts,f1,f2,w,path))):=by
   intro v X ch Zj;obtain⟨g1,g2⟩:=go v;rw[ch,Zj];cases hs:m' (Je f l) (x.c7.drop (i+1))with
   |none=>exact⟨λm hm=>(by cases hm),λ_=>g2 hs⟩
   |some J9=>
    refine⟨λm hm=>?_,λh=>(by cases h)⟩;have:m=v::J9:=(by cases hm;rfl)
    grind
  rcases aHW m0 ar with⟨j,M1,Me,Ub⟩|⟨Me,Ub⟩
  . rw[Ub];simp only[ec];rw[bJ (by simp),bJ (js M1),u3];have ay:=h m0 Vf _ (E' M1 Lr) m0.c6 b1 b2;have abt:Je f l m0=f m0.jb (l.getD j Lr).Data:=by unfold Je;rw[Me]
    cases ch:f m0.jb (l.getD j Lr).Data with
    |none=>
     obtain⟨w,f1,f2,hw⟩:=ay.2 ch;rw[hw,abt,ch];exact⟨λm hm=>(by cases hm),λ_=>⟨w,f1,f2,by simp[a6.pa]⟩⟩
    |some v=>
     rw[ay.1 v ch];simp only[ec,a6.pa,OW];rw[nc,bJ (MD),f7]
     grind
  . rw[Ub];simp only[ec];rw[nc];cases adl:m0.qx with
    |true=>
     rw[bJ rfl];simp only[a6.pa];rw[Pm m0 Vf adl];simp only[ec,a6.pa];rw[bJ (MD),f7];exact LJ m0.ix _ (by unfold Je;rw[Me];simp[adl]) rfl
    |false=>
     have abt:Je f l m0=none:=by unfold Je;rw[Me];simp[adl]
     rw[nc,bJ (MD),afR (by simp;omega),abt];simp only[ec,a6.pa];have ep:MP .i64 ((path++[m0.c6]).length:Int) 1=(path.length:Int):=by rw[UI (by simp<;>omega) (by simp<;>omega)];simp
     rw[ep,bJ (Qg.2 (by simp;omega)),bJ (by simp),u3];exact⟨λm hm=>(by cases hm),λ_=>⟨_,_,_,by simp;exact⟨rfl,rfl,rfl⟩⟩⟩
end
section
variable {ts:List b'}
theorem aMm{x:b'}(Lh:x.c7.length<=1000)(JC:YA x.c7)(id:Int):∃r,aaU (x,id)=some r/\r.2=(MX x.c7 id).isSome:=by
 cases v':MX x.c7 id with
 |some m=>
  obtain⟨j,M1,Me,Ub⟩:=azh JC Lh v'
  grind
 |none=>
  obtain⟨r,ln,sb⟩:=amL (t:=x) (id:=id) (by omega);refine⟨r,ln,?_⟩;rcases sb with⟨j,M1,Me,_,_⟩|⟨_,q⟩
  . exact absurd Me (ajk v' _ (E' M1 d5))
  grind
def Lx(x:b')(f:yJ):Bool:=(MX x.c7 f.c6).isSome || !f.r2
def NZ(x:b')(l:List yJ):List Jh:=(l.filter λf=>!(MX x.c7 f.c6).isSome).map λf=>⟨f.c6,f.Data⟩
theorem anR {x:b'}{path:ev}(QX:path.length<=900)(Lh:x.c7.length<=1000)(JC:YA x.c7){l:List yJ}(ar:l.length<=90000)
 {z0 z2 z4 a0 a2 a4:Int}{z1 a1:Bool}{z3 a3:b8}{b1:ev}{b2:Int}{its:List a6}:∀(k i:Nat) (acc:List Jh),i+k=l.length->acc.length<=i->
 ((l.drop i).all (Lx x)=true->W9 (l,(l.length:Int),(i:Int),ts,b1,b2,x,z0,z1,z2,z3,z4,a0,a1,a2,a3,a4,path,its,acc)=some (.inr (ts,b1,b2,z0,z1,z2,z3,z4,a0,a1,a2,a3,a4,path,its,acc++NZ x (l.drop i))))/\
 ((l.drop i).all (Lx x)=false->∃w f1 f2,W9 (l,(l.length:Int),(i:Int),ts,b1,b2,x,z0,z1,z2,z3,z4,a0,a1,a2,a3,a4,path,its,acc)=some (.inl (false,ts,f2,w,path,f1)))
 |0,i,acc,ao,b6=>by
  rw[W9,u1,RY (by omega)];exact⟨λ_=>by simp[NZ],λh=>by simp at h⟩
 |k+1,i,acc,ao,b6=>by
  have e':i<l.length:=by omega
  have e:l.drop i=l.getD i Lr::l.drop (i+1):=by rw[KZ e'];exact Vj e'
  obtain⟨r,ln,sb⟩:=aMm Lh JC (l.getD i Lr).c6;rw[W9,kp,bJ (js e'),u3,e];simp only[h3,ec];generalize l.getD i Lr=f at*;rw[ln];simp only[ec];have k4:(f::l.drop (i+1)).all (Lx x)=(Lx x f&&(l.drop (i+1)).all (Lx x)):=rfl;rw[k4];cases hs:(MX x.c7 f.c6).isSome with
  |true=>
   have cJ:Lx x f=true:=by unfold Lx;rw[hs];rfl
   have al:NZ x (f::l.drop (i+1))=NZ x (l.drop (i+1)):=by unfold NZ;rw[List.filter_cons_of_neg (by rw[hs];simp)]
   rw[sb,hs,bJ rfl,cJ,al,f7,Vm];exact anR QX Lh JC ar k (i+1) acc (by omega) (by omega)
  |false=>
   rw[sb,hs,nc];cases a7:f.r2 with
   |true=>
    have cJ:Lx x f=false:=by unfold Lx;rw[hs,a7];rfl
    rw[bJ rfl,bJ (MD),afR (by simp;omega),cJ];simp only[ec,a6.pa];have ep:MP .i64 ((path++[f.c6]).length:Int) 1=(path.length:Int):=by rw[UI (by simp<;>omega) (by simp<;>omega)];simp
    rw[ep,bJ (Qg.2 (by simp;omega)),bJ (by simp),u3];simp_all
   |false=>
    have cJ:Lx x f=true:=by unfold Lx;rw[hs,a7];rfl
    have al:NZ x (f::l.drop (i+1))=⟨f.c6,f.Data⟩::NZ x (l.drop (i+1)):=by unfold NZ;rw[List.filter_cons_of_pos (by rw[hs];rfl)];rfl
    rw[nc,bJ (MD),cJ,al,f7,Vm];have:=anR QX Lh JC ar (z0:=z0) (z1:=z1) (z2:=z2) (z3:=z3) (z4:=z4) (a0:=a0) (a1:=a1) (a2:=a2) (a3:=a3) (a4:=a4) (b1:=b1) (b2:=b2) (its:=its) k (i+1) (acc++[⟨f.c6,f.Data⟩]) (by omega) (by simp;omega)
    grind
end
section
variable {ts:List b'}
theorem aGC(H:aiX ts)(aAN:∀x,x∈ts->∀m,m∈x.c7->m.qx=true->Rr m.ix=some m.ix){n:Nat}(ih:aeB ts n){x:b'}(aa:x∈ts)(te:x.Kind=5)(JD:∀m,m∈x.c7->0<=m.jb/\m.jb<ts.length){p:b8}(aJ:p.length<=4096){b1:ev}{b2:Int}{path:ev}(L9:path.length+(n+1)=200):
 (∀l,R9 p=some l->∀is,m' (Je (sJ ts n) l) x.c7=some is->l.all (Lx x)=true->afi (x,p,ts,b1,b2,path)=some (⟨5,false,0,[],0,[],is,NZ x l⟩,true,ts,b1,b2,path))/\
 ((R9 p=none\/(∃l,R9 p=some l/\(m' (Je (sJ ts n) l) x.c7=none\/l.all (Lx x)=false)))->∃w f1 f2,afi (x,p,ts,b1,b2,path)=some (w,false,ts,f1,f2,path)):=by
 obtain⟨adj,aoG⟩:=H.A x aa (.inl te);obtain⟨o,MB,K8,MC⟩:=anc (p:=p) (by omega);rw[afi,MB];simp only[h3,ec];by_cases h0:o.2=0
 . obtain⟨v1,v2,v3,v4⟩:=K8 h0;rw[cx (by simp[h0]),v1];have aN3:=H.T x aa;have Pm:∀m,m∈x.c7->m.qx=true->Rr m.ix=some m.ix:=λm hm ay=>aAN x aa m hm ay
   have ez:∀m,m∈x.c7->∀q,q∈o.1->∀step b1 b2,Ky ts b1 b2 path (sJ ts n m.jb q.Data) (O2 (step,m.jb,q.Data,ts,b1,b2,path)):=λm hm q e1 step b1 b2=>
    acv (by omega) (ih m.jb q.Data b1 b2 (path++[step]) (JD m hm).1 (JD m hm).2 (by have:=(v2 q e1).1;omega) (by simp;omega))
   obtain⟨JR,NI⟩:=axf (x:=x) (path:=path) (by omega) (f:=sJ ts n) (l:=o.1) (by omega) (by omega) Pm ez (z0:=0) (z1:=false) (z2:=0) (z3:=[]) (z4:=0) (a0:=x.Kind) (a1:=false) (a2:=0) (a3:=[]) (a4:=0) (b1:=b1) (b2:=b2) x.c7.length 0 [] (by omega) rfl;rw[Yn]at JR NI;have z0:((0:Nat):Int)=0:=rfl;rw[z0]at JR NI
   have B:=λits=>anR (ts:=ts) (x:=x) (path:=path) (by omega) (by omega) adj (l:=o.1) (by omega) (z0:=0) (z1:=false) (z2:=0) (z3:=[]) (z4:=0) (a0:=x.Kind) (a1:=false) (a2:=0) (a3:=[]) (a4:=0) (b1:=b1) (b2:=b2) (its:=its) o.1.length 0 [] (by omega) (DJ _)
   rw[Yn,z0]at B;constructor
   . intro l ar is L6 k4;cases ar;rw[JR is L6];simp only[ec,Ue];rw[(B is).1 k4];simp[te]
   . intro h;rcases h with h|⟨l,ar,h⟩
     . cases h
     . cases ar;cases hs:m' (Je (sJ ts n) o.1) x.c7 with
       |none=>
        obtain⟨w,f1,f2,hw⟩:=NI hs;rw[hw];exact⟨_,_,_,rfl⟩
       |some is=>
        rcases h with h|h
        . rw[hs]at h;cases h
        . obtain⟨w,f1,f2,hw⟩:=(B is).2 h;rw[JR is hs];simp only[ec,Ue];rw[hw];exact⟨a6.eta w,f1,f2,rfl⟩
 . rw[bJ (by simp[h0]),MC h0];constructor
   . intro l ar;cases ar
   . intro _;rw[afR (by omega)];exact⟨_,_,_,rfl⟩
end
structure NL (ts:List b'):Prop where
 S:aiX ts
 V:acW ts
 W:∀x,x∈ts->∀m,m∈x.c7->m.qx=true->Rr m.ix=some m.ix
section
variable {ts:List b'}
theorem NL.mem(H:NL ts){x:b'}(aa:x∈ts){m:hv}(hm:m∈x.c7):0<=m.jb/\m.jb<ts.length:=
 H.V.U x aa m.jb (by unfold K3;simp;exact .inl ⟨m,hm,rfl⟩)
theorem NL.elem(H:NL ts){x:b'}(aa:x∈ts)(hk:7<=x.Kind):0<=x.h6/\x.h6<ts.length:=
 H.V.U x aa x.h6 (by unfold K3;simp[hk])
theorem NL.key(H:NL ts){x:b'}(aa:x∈ts)(hk:x.Kind=8):0<=x.Key/\x.Key<ts.length:=
 H.V.U x aa x.Key (by unfold K3;simp[hk])
def Nh:a6:=⟨0,false,0,[],0,[],[],[]⟩
abbrev ab1:=Int->b8->Option a6
def aly(p:b8):Option a6:=if p=[]then some ⟨1,false,0,[],0,[],[],[]⟩else if p=[1]then some ⟨1,true,0,[],0,[],[],[]⟩else none
def alz(x:b')(p:b8):Option a6:=match PM p with
 |some m=>if x.mJ<=Qz m/\Qz m<=x.mx then some ⟨2,false,Qz m,[],0,[],[],[]⟩else none
 |none=>none
def alA(x:b')(p:b8):Option a6:=if(p.length:Int)<=x.Max then some ⟨3,false,0,p,0,[],[],[]⟩else none
def alB(x:b')(p:b8):Option a6:=match PM p with
 |some m=>if 1<=m/\m<=1000/\((x.hD.any λy=>decide (y.c6=(m:Int)))||x.Open)=true then some ⟨4,false,0,[],(m:Int),[],[],[]⟩else none
 |none=>none
def ael(f:ab1)(x:b'):b8->Option a6
 |[]=>some ⟨9,false,0,[],0,[],[],[]⟩
 |c::q=>if c=1 then(f x.h6 q).map λv=>⟨9,false,0,[],0,[],[v],[]⟩else none
def alC(f:ab1)(x:b')(p:b8):Option a6:=match Tt p with
 |some (id,q)=>(match MX x.c7 id with
  |some m=>(f m.jb q).map λv=>⟨6,false,0,[],id,[],[v],[]⟩
  |none=>if x.Open=true then some ⟨6,false,0,[],id,[],[],[⟨id,q⟩]⟩else none)
 |none=>none
def aek(f:ab1)(x:b')(p:b8):Option a6:=match Q' p with
 |some l=>if(l.length:Int)<=x.Max then(m' (f x.h6) l).map λis=>⟨7,false,0,[],0,[],is,[]⟩else none
 |none=>none
def alD(f:ab1)(x:b')(p:b8):Option a6:=match Q' p with
 |some l=>if l.length%2 = 0/\((l.length/2:Nat):Int)<=x.Max then (match m' (f x.Key) (MJ l) with
  |some ks=>if Xx ks=true then(m' (f x.h6) (NV l)).map λis=>⟨8,false,0,[],0,ks,is,[]⟩else none
  |none=>none)else none
 |none=>none
def aij(f:ab1)(x:b')(p:b8):Option a6:=match R9 p with
 |some l=>(match m' (Je f l) x.c7 with
  |some is=>if l.all (Lx x)=true then some ⟨5,false,0,[],0,[],is,NZ x l⟩else none
  |none=>none)
 |none=>none
def alE(f:ab1)(x:b')(p:b8):Option a6:=
 if x.Kind=1 then aly p else if x.Kind=2 then alz x p else if x.Kind=3 then alA x p else if x.Kind=4 then alB x p
 else if x.Kind=9 then ael f x p else if x.Kind=6 then alC f x p else if x.Kind=7 then aek f x p else if x.Kind=8 then alD f x p else aij f x p
theorem anf(t:Int)(p:b8):sJ ts 0 t p=none:=by rw[sJ.eq_def]
theorem ang(n:Nat)(t:Int)(p:b8):sJ ts (n+1) t p=alE (sJ ts n) (ts.getD t.toNat d4) p:=by rfl
theorem Ky.eta{b1:ev}{b2:Int}{path:ev}{o:Option a6}{X:Option (a6×Bool×List b'×ev×Int×ev)}(h:Ky ts b1 b2 path o X):
 Ky ts b1 b2 path o (X>>=λr=>some (a6.eta r.1,r.2.1,r.2.2.1,r.2.2.2.1,r.2.2.2.2.1,r.2.2.2.2.2)):=by
 refine⟨λv ch=>?_,λeJ=>?_⟩
 . rw[h.1 v ch];simp[a6.pa]
 . obtain⟨w,f1,f2,hw⟩:=h.2 eJ;exact⟨w,f1,f2,by rw[hw];simp[a6.pa]⟩
theorem Ky.one{b1:ev}{b2:Int}{path:ev}(v:a6):Ky ts b1 b2 path (some v) (some (v,true,ts,b1,b2,path)):=⟨λJu h=>by cases h;rfl,λh=>by cases h⟩
theorem Ky.cast{b1:ev}{b2:Int}{path:ev}{o ny:Option a6}{X:Option (a6×Bool×List b'×ev×Int×ev)}(e:o=ny)(h:Ky ts b1 b2 path o X):Ky ts b1 b2 path ny X:=e▸h
theorem awO{l:List s4}{m:Nat}:(∃y,y∈l/\y.c6=(m:Int))↔(l.any λy=>decide (y.c6=(m:Int)))=true:=by grind
theorem aHX(H:NL ts){n:Nat}(ih:aeB ts n){x:b'}(aa:x∈ts)(Ov:x.Kind=7){p:b8}(aJ:p.length<=4096){b1:ev}{b2:Int}{path:ev}(L9:path.length+(n+1)=200):
 Ky ts b1 b2 path (aek (sJ ts n) x p) (aiV (x,p,ts,b1,b2,path)):=by
 obtain⟨o,MB,K8,MC⟩:=afQ (p:=p) (by omega);obtain⟨ep,hp⟩:=H.elem aa (by omega);rw[aiV,MB];unfold aek;simp only[h3,ec];by_cases h0:o.2=0
 . obtain⟨v1,v2,v3⟩:=K8 h0;rw[cx (by simp[h0]),v1];dsimp only;by_cases hm:(o.1.length:Int)<=x.Max
   . rw[bJ hm,u1];have ao:∀q,q∈o.1->∀step b1 b2,Ky ts b1 b2 path (sJ ts n x.h6 q) (O2 (step,x.h6,q,ts,b1,b2,path)):=λq e1 step b1 b2=>
      acv (by omega) (ih x.h6 q b1 b2 (path++[step]) ep hp (by have:=v2 q e1;omega) (by simp;omega))
     obtain⟨JR,NI⟩:=axb (x:=x) (l:=o.1) (by omega) ao (z0:=0) (z1:=false) (z2:=0) (z3:=[]) (z4:=0) (a0:=x.Kind) (a1:=false) (a2:=0) (a3:=[]) (a4:=0) (b1:=b1) (b2:=b2) o.1.length 0 [] (by omega) rfl;rw[Yn]at JR NI;have z0:((0:Nat):Int)=0:=rfl;rw[z0]at JR NI;cases hs:m' (sJ ts n x.h6) o.1 with
     |none=>
      obtain⟨w,f1,f2,hw⟩:=NI hs;rw[hw];exact⟨λv h=>by simp at h,λ_=>⟨_,_,_,rfl⟩⟩
     |some is=>
      rw[JR is hs];exact⟨λJu h=>by grind,λh=>by simp at h⟩
   . rw[cx hm,kp];exact Qe (by omega) _ _ _
 . rw[bJ (by simp[h0]),MC h0];exact Qe (by omega) _ _ _
theorem awQ(H:NL ts):∀n,n<=200->aeB ts n
 |0,_=>λt p b1 b2 path t0 t1 aJ L9=>by
  rw[Xe,kp,anf];exact Qe (by omega) _ _ _
 |n+1,eJ=>λt p b1 b2 path t0 t1 aJ L9=>by
  have ih:=awQ H n (by omega);obtain⟨j,rfl⟩:=apU t0;have ea:j<ts.length:=by omega
  rw[Xe,u1,bJ (js ea),ang,u3];have aa:=E' ea d4;generalize ts.getD j d4=x at*;obtain⟨arj,ark⟩:=H.S.K x aa;have apt:x.hD.length<9223372036854775807:=M8 (UF (H.S.T x aa).1);unfold alE;simp only[h3,ec];obtain⟨u,aih,aii,aej⟩:=aJU p;by_cases ha:x.Kind=1
  . rw[bJ ha,bJ (show decide (x.Kind=1)=true by simpa using ha)];unfold aly;by_cases h0:p=[]
    . rw[bJ h0,cx (by simp[h0]),ha,h0];exact .one _
    . by_cases h1:p=[1]
      . rw[cx h0,bJ h1,cx (by simp[h1]),ha,h1];exact .one _
      . rw[cx h0,cx h1,bJ (by simp[h0,h1])];exact Qe (by omega) _ _ _
  rw[cx ha,cx (show ¬decide (x.Kind=1)=true by simpa using ha)];by_cases hg:x.Kind=2
  . rw[bJ hg,bJ (show decide (x.Kind=2)=true by simpa using hg),aih];unfold alz;simp only[ec];by_cases h0:u.2=0
    . obtain⟨m,m1,m2⟩:=aii h0;rw[m1,m2,aKi (aj8 m1),cx (by simp[h0])];simp only[ec];by_cases al:x.mJ<=Qz m/\Qz m<=x.mx
      . rw[bJ al,u1,hg];exact .one _
      . rw[cx al,kp];exact Qe (by omega) _ _ _
    . rw[aej h0,bJ (by simp[h0])];exact Qe (by omega) _ _ _
  rw[cx hg,cx (show ¬decide (x.Kind=2)=true by simpa using hg)];by_cases hQ:x.Kind=3
  . rw[bJ hQ,bJ (show decide (x.Kind=3)=true by simpa using hQ)];unfold alA;by_cases al:(p.length:Int)<=x.Max
    . rw[bJ al,u1,hQ];exact .one _
    . rw[cx al,kp];exact Qe (by omega) _ _ _
  rw[cx hQ,cx (show ¬decide (x.Kind=3)=true by simpa using hQ)];by_cases oi:x.Kind=4
  . rw[bJ oi,bJ (show decide (x.Kind=4)=true by simpa using oi),aih];unfold alB;simp only[ec];by_cases h0:u.2=0
    . obtain⟨m,m1,m2⟩:=aii h0;rw[m1,m2];dsimp only;by_cases al:1<=m/\m<=1000
      . obtain⟨q,Jd,_,Q5⟩:=atw (t:=x) (m:Int) apt;have e:G' .i64 (m:Int)=(m:Int):=Si;rw[cx (show ¬(bif bif !decide (u.2=0)then true else decide ((m:Int)<1)then true else decide (1000<(m:Int)))=true by simp[h0];omega),e,Jd];simp only[ec]
        have e1:q.2=(x.hD.any λy=>decide (y.c6=(m:Int))):=by
         have:=(atk Q5).trans awO
         grind
        rw[e1,oi];by_cases ai:((x.hD.any λy=>decide (y.c6=(m:Int)))||x.Open)=true
        . rw[bJ (show 1<=m/\m<=1000/\((x.hD.any λy=>decide (y.c6=(m:Int)))||x.Open)=true from⟨al.1,al.2,ai⟩),cx]
          . exact .one _
          grind
        . rw[cx (show ¬(1<=m/\m<=1000/\((x.hD.any λy=>decide (y.c6=(m:Int)))||x.Open)=true)fromλh=>ai h.2.2),bJ]
          . exact Qe (by omega) _ _ _
          grind
      . rw[cx (show ¬(1<=m/\m<=1000/\((x.hD.any λy=>decide (y.c6=(m:Int)))||x.Open)=true)fromλh=>al ⟨h.1,h.2.1⟩),bJ (by simp[h0];omega)];exact Qe (by omega) _ _ _
    . rw[aej h0,bJ (by simp[h0])];exact Qe (by omega) _ _ _
  rw[cx oi,cx (show ¬decide (x.Kind=4)=true by simpa using oi)];by_cases RU:x.Kind=9
  . rw[bJ RU,bJ (show decide (x.Kind=9)=true by simpa using RU)];obtain⟨ep,hp⟩:=H.elem aa (by omega);cases p with
    |nil=>
     rw[bJ (by simp),ael,RU];exact .one _
    |cons c q=>
     have ar:(c::q).length=q.length+1:=rfl;have i0:hz 0 (c::q).length=true:=js (k:=0) (by simp);have b0:m5 (c::q) 0=(c.toNat:Int):=rfl;have ZT:ME 1 ((c::q).length:Int) (c::q).length=true:=Qg.2 (by simp<;>omega);have KU:LY (c::q) 1 ((c::q).length:Int)=q:=by
      unfold LY;simp
     rw[nc,bJ i0,b0,ael];by_cases a7:c=1
     . subst a7;rw[bJ rfl,nc,bJ ZT,KU];have ay:=acv (step:=0) (path:=path) (by omega) (ih x.h6 q b1 b2 (path++[0]) ep hp (by simp at aJ;omega) (by simp;omega));cases ch:sJ ts n x.h6 q with
       |none=>
        obtain⟨w,f1,f2,hw⟩:=ay.2 ch;rw[hw];exact⟨λv h=>by simp at h,λ_=>⟨_,_,_,rfl⟩⟩
       |some v=>
        rw[ay.1 v ch]
        exact⟨λJu h=>by
         have:Ju=⟨9,false,0,[],0,[],[v],[]⟩:=by simpa using h.symm
         rw[this]
         simp[a6.pa,RU],λh=>by simp at h⟩
     . have NS:¬((c.toNat:Int)=1):=λh=>a7 (UInt8.toNat.inj (by show c.toNat=1;omega))
       rw[cx a7,bJ (by simpa using NS)];exact Qe (by omega) _ _ _
  rw[cx RU,cx (show ¬decide (x.Kind=9)=true by simpa using RU)];by_cases q':x.Kind=6
  . rw[bJ q',bJ (show decide (x.Kind=6)=true by simpa using q')];refine Ky.eta (Ky.cast ?_ (aHV H.S ih aa q' (λm hm=>H.mem aa hm) aJ L9));rfl
  rw[cx q',cx (show ¬decide (x.Kind=6)=true by simpa using q')];by_cases Ov:x.Kind=7
  . rw[bJ Ov,bJ (show decide (x.Kind=7)=true by simpa using Ov)];exact Ky.eta (aHX H ih aa Ov aJ L9)
  rw[cx Ov,cx (show ¬decide (x.Kind=7)=true by simpa using Ov)];by_cases Nu:x.Kind=8
  . rw[bJ Nu,bJ (show decide (x.Kind=8)=true by simpa using Nu)];refine Ky.eta (Ky.cast ?_ (aJW ih Nu (H.key aa Nu) (H.elem aa (by omega)) aJ L9));rfl
  rw[cx Nu,cx (show ¬decide (x.Kind=8)=true by simpa using Nu)];have te:x.Kind=5:=by omega
  obtain⟨h',tJ⟩:=aGC H.S H.W ih aa te (λm hm=>H.mem aa hm) aJ (b1:=b1) (b2:=b2) L9;refine Ky.eta ?_;unfold aij;cases ar:R9 p with
  |none=>exact⟨λv h=>(by cases h),λ_=>tJ (.inl ar)⟩
  |some l=>
   dsimp only;cases hs:m' (Je (sJ ts n) l) x.c7 with
   |none=>exact⟨λv h=>(by cases h),λ_=>tJ (.inr ⟨l,ar,.inl hs⟩)⟩
   |some is=>
    dsimp only;cases b6:l.all (Lx x)with
    |true=>exact⟨λv h=>(by cases h;exact h' l ar is hs b6),λh=>(by cases h)⟩
    |false=>exact⟨λv h=>(by cases h),λ_=>tJ (.inr ⟨l,ar,.inr b6⟩)⟩
end
def J3(o:Option a6)(r:Option ns):Prop:=(∀v,o=some v->∃F,r=some ⟨v,F,true⟩)/\(o=none->∃F,r=some ⟨Nh,F,false⟩)
theorem af1{path:ev}(aJ:path.length<=1000)(Tq:Int):M7 (path,Tq)=some ⟨Nh,⟨path,Tq⟩,false⟩:=by rw[M7,bJ (MD),Ue];rfl
theorem Vs{path:ev}(aJ:path.length<=1000)(step:Int):TB (path,step)=some (path++[step]):=by
 rw[TB,bJ (MD)];simp only[h3,ec,Ue];rw[bJ (MD)]
theorem PS{path:ev}(aJ:path.length<=1000)(Tq:Int):J3 none (M7 (path,Tq)>>=λr=>some (⟨a6.eta r.Value,r.vk,r.ry⟩:ns)):=by
 rw[af1 aJ];exact⟨λv h=>(by cases h),λ_=>⟨_,rfl⟩⟩
theorem J3.eta{o:Option a6}{X:Option ns}(h:J3 o X):J3 o (X>>=λr=>some (⟨a6.eta r.Value,r.vk,r.ry⟩:ns)):=by
 refine⟨λv ch=>?_,λeJ=>?_⟩
 . obtain⟨F,v'⟩:=h.1 v ch;exact⟨F,by rw[v'];simp[a6.pa]⟩
 . obtain⟨F,v'⟩:=h.2 eJ;exact⟨F,by rw[v'];rfl⟩
theorem abR(v:a6):VE v=some ⟨v,⟨[],0⟩,true⟩:=by rw[VE,a6.pa]
theorem J3.one(v:a6):J3 (some v) (VE v>>=λr=>some (⟨a6.eta r.Value,r.vk,r.ry⟩:ns)):=by
 rw[abR];exact⟨λJu h=>(by cases h;exact⟨_,by simp[a6.pa];rfl⟩),λh=>(by cases h)⟩
section
variable {ts:List b'}
def TJ(ts:List b')(o:Option a6)(L:Int)(path:ev)(t:Int)(q:b8)(step:Int):Prop:=
 J3 o (TB (path,step)>>=λr=>Qj ((⟨ts⟩:f4),t,q,hK .i64 L 1,r))
theorem TJ.yes{o:Option a6}{L:Int}{path:ev}{t:Int}{q:b8}{step:Int}(h:TJ ts o L path t q step)(aJ:path.length<=1000){v:a6}(ch:o=some v):∃F,Qj ((⟨ts⟩:f4),t,q,hK .i64 L 1,path++[step])=some ⟨v,F,true⟩:=by
 unfold TJ at h;rw[Vs aJ]at h;exact h.1 v ch
theorem TJ.no{o:Option a6}{L:Int}{path:ev}{t:Int}{q:b8}{step:Int}(h:TJ ts o L path t q step)(aJ:path.length<=1000)(ch:o=none):∃F,Qj ((⟨ts⟩:f4),t,q,hK .i64 L 1,path++[step])=some ⟨Nh,F,false⟩:=by
 unfold TJ at h;rw[Vs aJ]at h;exact h.2 ch
theorem azM {x:b'}{path:ev}(QX:path.length<=900){f:b8->Option a6}{l:List b8}(ar:l.length<=90000){L:Int}(h:∀q,q∈l->∀step,TJ ts (f q) L path x.h6 q step)
 {z0 z2 z4 z5 z7 z9 z11:Int}{z1 z6 z8:Bool}{z3 z10:b8}:∀(k i:Nat) (acc:List a6),i+k=l.length->acc.length=i->
 (∀m,m' f (l.drop i)=some m->aaH (L,path,l,(i:Int),ts,x,z0,z1,z2,z3,z4,z5,z6,z7,z8,z9,z10,z11,acc)=some (.inr (z0,z1,z2,z3,z4,z5,z6,z7,z8,z9,z10,z11,acc++m)))/\
 (m' f (l.drop i)=none->∃F,aaH (L,path,l,(i:Int),ts,x,z0,z1,z2,z3,z4,z5,z6,z7,z8,z9,z10,z11,acc)=some (.inl ⟨Nh,F,false⟩))
 |0,i,acc,ao,b6=>by
  rw[aaH,u1,RY (by omega),m']
  grind
 |k+1,i,acc,ao,b6=>by
  have e':i<l.length:=by omega
  have ay:=h _ (E' e' []) (i:Int);have e:l.drop i=l.getD i []::l.drop (i+1):=by rw[KZ e'];exact Vj e'
  rw[aaH,kp,bJ (js e'),u3,e,aeL,Vs (by omega)];simp only[h3,ec];cases c9:f (l.getD i [])with
  |none=>
   obtain⟨F,hw⟩:=ay.no (by omega) c9;rw[hw];exact⟨λm hm=>(by cases hm),λ_=>⟨F,by simp[a6.pa]⟩⟩
  |some v=>
   obtain⟨F,hw⟩:=ay.yes (by omega) c9;rw[hw];simp only[ec,a6.pa,OW];rw[nc,bJ (MD),f7]
   obtain⟨i1,i2⟩:=azM QX ar h (z0:=z0) (z1:=z1) (z2:=z2) (z3:=z3) (z4:=z4) (z5:=z5) (z6:=z6) (z7:=z7) (z8:=z8) (z9:=z9) (z10:=z10) (z11:=z11) k (i+1) (acc++[v]) (by omega) (by simp;omega);cases hs:m' f (l.drop (i+1))with
   |none=>exact⟨λm hm=>(by cases hm),λ_=>i2 hs⟩
   |some J9=>
    refine⟨λm hm=>?_,λh=>(by cases h)⟩;have:m=v::J9:=(by cases hm;rfl)
    grind
theorem akX{i:Nat}(h:i<1000000:=by omega):Nw .i64 2 (i:Int)=((2*i:Nat):Int):=by
 unfold Nw;have e:(2:Int)*(i:Int)=((2*i:Nat):Int):=by omega
 rw[e];exact Si
theorem azL {x:b'}{path:ev}(QX:path.length<=900){f:b8->Option a6}{l:List b8}(ar:l.length<=90000){L:Int}(h:∀q,q∈l->∀step,TJ ts (f q) L path x.Key q step)
 {z0 z2 z4 z5 z7 z9 z11:Int}{z1 z6 z8:Bool}{z3 z10:b8}:∀(k j:Nat) (acc:List a6),2*(j+k)=l.length->acc.length=j->
 (∀m,m' f (MJ (l.drop (2*j)))=some m->Z9 (L,path,l,(j:Int),ts,x,z0,z1,z2,z3,z4,z5,z6,z7,z8,z9,z10,z11,acc)=some (.inr (L,path,l,ts,x,z0,z1,z2,z3,z4,z5,z6,z7,z8,z9,z10,z11,acc++m)))/\
 (m' f (MJ (l.drop (2*j)))=none->∃F,Z9 (L,path,l,(j:Int),ts,x,z0,z1,z2,z3,z4,z5,z6,z7,z8,z9,z10,z11,acc)=some (.inl ⟨Nh,F,false⟩))
 |0,j,acc,ao,b6=>by
  rw[Z9,akX,u1,RY (by omega),show MJ ([]:List b8)=[]from rfl,m']
  grind
 |k+1,j,acc,ao,b6=>by
  have e':2*j<l.length:=by omega
  have ay:=h _ (E' e' []) (j:Int);rw[Z9,akX,kp];simp only[h3,ec];rw[bJ (js e'),u3,ato (by omega) [],aeL,Vs (by omega)];simp only[ec];cases c9:f (l.getD (2*j) [])with
  |none=>
   obtain⟨F,hw⟩:=ay.no (by omega) c9;rw[hw];exact⟨λm hm=>(by cases hm),λ_=>⟨F,by simp[a6.pa]⟩⟩
  |some v=>
   obtain⟨F,hw⟩:=ay.yes (by omega) c9;rw[hw];simp only[ec,a6.pa,OW];rw[nc,bJ (MD),f7]
   obtain⟨i1,i2⟩:=azL QX ar h (z0:=z0) (z1:=z1) (z2:=z2) (z3:=z3) (z4:=z4) (z5:=z5) (z6:=z6) (z7:=z7) (z8:=z8) (z9:=z9) (z10:=z10) (z11:=z11) k (j+1) (acc++[v]) (by omega) (by simp;omega);cases hs:m' f (MJ (l.drop (2*(j+1))))with
   |none=>exact⟨λm hm=>(by cases hm),λ_=>i2 hs⟩
   |some J9=>
    refine⟨λm hm=>?_,λh=>(by cases h)⟩;have:m=v::J9:=(by cases hm;rfl)
    grind
theorem axG {x:b'}{path:ev}(QX:path.length<=900){f:b8->Option a6}{l:List b8}(ar:l.length<=90000){L:Int}(h:∀q,q∈l->∀step,TJ ts (f q) L path x.h6 q step)
 {z0 z2 z4 z5 z7 z9 z11:Int}{z1 z6 z8:Bool}{z3 z10:b8}{ks:List a6}:∀(k j:Nat) (acc:List a6),2*(j+k)=l.length->acc.length=j->
 (∀m,m' f (NV (l.drop (2*j)))=some m->aaA (L,path,l,(j:Int),ts,x,z0,z1,z2,z3,z4,z5,z6,z7,z8,z9,z10,z11,ks,acc)=some (.inr (z0,z1,z2,z3,z4,z5,z6,z7,z8,z9,z10,z11,ks,acc++m)))/\
 (m' f (NV (l.drop (2*j)))=none->∃F,aaA (L,path,l,(j:Int),ts,x,z0,z1,z2,z3,z4,z5,z6,z7,z8,z9,z10,z11,ks,acc)=some (.inl ⟨Nh,F,false⟩))
 |0,j,acc,ao,b6=>by
  rw[aaA,akX,u1,RY (by omega),show NV ([]:List b8)=[]from rfl,m']
  grind
 |k+1,j,acc,ao,b6=>by
  have e':2*j+1<l.length:=by omega
  have ay:=h _ (E' e' []) (j:Int);have ep:hK .i64 ((2*j:Nat):Int) 1=((2*j+1:Nat):Int):=f7;rw[aaA,akX,kp,ep];simp only[h3,ec];rw[bJ (js e'),u3,auc e' [],aeL,Vs (by omega)];simp only[ec];cases c9:f (l.getD (2*j+1) [])with
  |none=>
   obtain⟨F,hw⟩:=ay.no (by omega) c9;rw[hw];exact⟨λm hm=>(by cases hm),λ_=>⟨F,by simp[a6.pa]⟩⟩
  |some v=>
   obtain⟨F,hw⟩:=ay.yes (by omega) c9;rw[hw];simp only[ec,a6.pa,OW];rw[nc,bJ (MD),f7]
   obtain⟨i1,i2⟩:=axG QX ar h (z0:=z0) (z1:=z1) (z2:=z2) (z3:=z3) (z4:=z4) (z5:=z5) (z6:=z6) (z7:=z7) (z8:=z8) (z9:=z9) (z10:=z10) (z11:=z11) (ks:=ks) k (j+1) (acc++[v]) (by omega) (by simp;omega);cases hs:m' f (NV (l.drop (2*(j+1))))with
   |none=>exact⟨λm hm=>(by cases hm),λ_=>i2 hs⟩
   |some J9=>
    refine⟨λm hm=>?_,λh=>(by cases h)⟩;have:m=v::J9:=(by cases hm;rfl)
    grind
theorem azG {x:b'}{path:ev}(aJ:path.length<=1000){l:List b8}{ks:List a6}(hk:∀y,y∈ks->MQ y.oj)(ar:ks.length<=90000){L:Int}
 {z0 z2 z4 z5 z7 z9 z11:Int}{z1 z6 z8:Bool}{z3 z10:b8}:∀(k i:Nat),ks.length-(i+1)=k->
 ((∀m,i<=m->m+1<ks.length->Vv (ks.getD m f5) (ks.getD (m+1) f5)<0)/\Y4 (L,path,l,((i+1:Nat):Int),ts,x,z0,z1,z2,z3,z4,z5,z6,z7,z8,z9,z10,z11,ks)=some (.inr (L,path,l,ts,x,z0,z1,z2,z3,z4,z5,z6,z7,z8,z9,z10,z11,ks)))\/
 ((∃m,m+1<ks.length/\¬Vv (ks.getD m f5) (ks.getD (m+1) f5)<0)/\∃F,Y4 (L,path,l,((i+1:Nat):Int),ts,x,z0,z1,z2,z3,z4,z5,z6,z7,z8,z9,z10,z11,ks)=some (.inl ⟨Nh,F,false⟩))
 |0,i,ao=>by
  rw[Y4,u1]
  grind
 |k+1,i,ao=>by
  have e':i+1<ks.length:=by omega
  have ep:MP .i64 ((i+1:Nat):Int) 1=(i:Int):=by rw[UI];omega
  rw[Y4,kp,ep];simp only[h3,ec];rw[bJ (js (by omega)),kp,bJ (js e'),kp,u3,u3];simp only[a6.pa];rw[aw9 (hk _ (E' (by omega) f5)) (hk _ (E' e' f5))];simp only[ec];by_cases a7:Vv (ks.getD i f5) (ks.getD (i+1) f5)<0
  . rw[cx (by simpa using a7),f7];rcases azG aJ hk ar (x:=x) (l:=l) (L:=L) (z0:=z0) (z1:=z1) (z2:=z2) (z3:=z3) (z4:=z4) (z5:=z5) (z6:=z6) (z7:=z7) (z8:=z8) (z9:=z9) (z10:=z10) (z11:=z11) k (i+1) (by omega)with⟨h1,ad⟩|h
    . grind
    grind
  . rw[bJ (by simpa using a7),af1 aJ]
    grind
theorem aKj{l:List yJ}(id:Int)(ar:l.length<=90000):(∃j,j<l.length/\l.find? (λf=>decide (f.c6=id))=some (l.getD j Lr)/\afu (l,id)=some (j:Int))\/
 (l.find? (λf=>decide (f.c6=id))=none/\afu (l,id)=some (-1)):=by
 have h:=aco (λi=>WX (l,id,(i:Int))) l.length (λi=>decide ((l.getD i Lr).c6=id)) (λi=>.inl (i:Int)) (.inr ())
  (λi ao=>by
   rw[WX,kp,bJ (js ao),f7]
   grind)
  (by rw[WX,nc])
 have vK:WX (l,id,((0:Nat):Int))=WX (l,id,0):=rfl;simp only[vK]at h;rw[afu];rcases h with⟨j,h1,ad,a',d'⟩|⟨h1,d'⟩
 . left;refine⟨j,h1,?_,by rw[d'];rfl⟩;rw[KZ h1]at ad⊢;rw[azo];refine⟨ad,j,h1,rfl,λk hk=>?_⟩;have:=a' k hk;rw[KZ (by omega)]at this
   simpa using this
 . right;refine⟨?_,by rw[d'];rfl⟩;rw[List.find?_eq_none];intro f c9;obtain⟨i,ao,rfl⟩:=OV c9;have:=h1 i ao;rw[KZ ao]at this
   simpa using this
theorem azP {x:b'}{path:ev}(QX:path.length<=900){f:Int->b8->Option a6}{l:List yJ}(ar:l.length<=90000)(Lh:x.c7.length<=16){L:Int}
 (h:∀m,m∈x.c7->∀q,q∈l->∀step,TJ ts (f m.jb q.Data) L path m.jb q.Data step)
 {z0 z2 z4 z5 z7 z9 z11:Int}{z1 z6 z8:Bool}{z3 z10:b8}:∀(k i:Nat) (acc:List a6),i+k=x.c7.length->acc.length=i->
 (∀m,m' (Je f l) (x.c7.drop i)=some m->UL (L,path,l,(i:Int),ts,x,z0,z1,z2,z3,z4,z5,z6,z7,z8,z9,z10,z11,acc)=some (.inr (path,l,x,z0,z1,z2,z3,z4,z5,z6,z7,z8,z9,z10,z11,acc++m)))/\
 (m' (Je f l) (x.c7.drop i)=none->∃F,UL (L,path,l,(i:Int),ts,x,z0,z1,z2,z3,z4,z5,z6,z7,z8,z9,z10,z11,acc)=some (.inl ⟨Nh,F,false⟩))
 |0,i,acc,ao,b6=>by
  rw[UL,u1,RY (by omega),m']
  grind
 |k+1,i,acc,ao,b6=>by
  have e':i<x.c7.length:=by omega
  have Vf:=E' e' d5;have e:x.c7.drop i=x.c7.getD i d5::x.c7.drop (i+1):=by rw[KZ e'];exact Vj e'
  have go:∀v,(∀J9,m' (Je f l) (x.c7.drop (i+1))=some J9->UL (L,path,l,((i+1:Nat):Int),ts,x,z0,z1,z2,z3,z4,z5,z6,z7,z8,z9,z10,z11,acc++[v])=some (.inr (path,l,x,z0,z1,z2,z3,z4,z5,z6,z7,z8,z9,z10,z11,acc++[v]++J9)))/\(m' (Je f l) (x.c7.drop (i+1))=none->∃F,UL (L,path,l,((i+1:Nat):Int),ts,x,z0,z1,z2,z3,z4,z5,z6,z7,z8,z9,z10,z11,acc++[v])=some (.inl ⟨Nh,F,false⟩)):=λv=>
   azP QX ar Lh h k (i+1) (acc++[v]) (by omega) (by simp;omega)
  rw [UL,kp,bJ (js e'),u3,e,aeL];simp only [h3,ec];generalize x.c7.getD i d5 = m0 at *;have LJ:∀ (v:a6) (X:Option _),Je f l m0 = some v->X = UL (L,path,l,((i+1:Nat):Int),ts,x,z0,z1,z2,z3,z4,z5,z6,z7,z8,z9,z10,z11,acc++[v])->
   (∀m,agz (Je f l m0) (m' (Je f l) (x.c7.drop (i+1)))=some m->X=some (.inr (path,l,x,z0,z1,z2,z3,z4,z5,z6,z7,z8,z9,z10,z11,acc++m)))/\
   (agz (Je f l m0) (m' (Je f l) (x.c7.drop (i+1)))=none->∃F,X=some (.inl ⟨Nh,F,false⟩)):=by
   intro v X ch Zj;obtain⟨g1,g2⟩:=go v;rw[ch,Zj];cases hs:m' (Je f l) (x.c7.drop (i+1))with
   |none=>exact⟨λm hm=>(by cases hm),λ_=>g2 hs⟩
   |some J9=>
    refine⟨λm hm=>?_,λh=>(by cases h)⟩;have:m=v::J9:=(by cases hm;rfl)
    grind
  rcases aKj m0.c6 ar with⟨j,M1,Me,Ub⟩|⟨Me,Ub⟩
  . rw[Ub];simp only[ec];rw[nc,bJ (js M1),u3,Vs (by omega)];have ay:=h m0 Vf _ (E' M1 Lr) m0.c6;have abt:Je f l m0=f m0.jb (l.getD j Lr).Data:=by unfold Je;rw[Me]
    simp only[ec];cases ch:f m0.jb (l.getD j Lr).Data with
    |none=>
     obtain⟨F,hw⟩:=ay.no (by omega) ch;rw[hw,abt,ch];exact⟨λm hm=>(by cases hm),λ_=>⟨F,by simp[a6.pa]⟩⟩
    |some v=>
     obtain⟨F,hw⟩:=ay.yes (by omega) ch;rw[hw];simp only[ec,a6.pa,OW];rw[nc,bJ (MD),f7]
     grind
  . rw[Ub];simp only[ec];rw[bJ (by simp)];cases adl:m0.qx with
    |true=>
     rw[nc];simp only[a6.pa];rw[bJ (MD),f7];exact LJ m0.ix _ (by unfold Je;rw[Me];simp[adl]) rfl
    |false=>
     have abt:Je f l m0=none:=by unfold Je;rw[Me];simp[adl]
     rw[bJ (by simp),Vs (by omega),abt];simp only[ec];rw[af1 (by simp;omega)];simp only[ec,a6.pa];exact⟨λm hm=>(by cases hm),λ_=>⟨_,rfl⟩⟩
theorem aMU{x:b'}(Lh:x.c7.length<=1000)(id:Int):∃r,acF (x,id)=some r/\r.2=(MX x.c7 id).isSome:=by
 obtain⟨r,ln,sb⟩:=asC (t:=x) (id:=id) (by omega);refine⟨r,ln,?_⟩;cases v':MX x.c7 id with
 |some m=>
  obtain⟨m1,m2⟩:=aeK v';rcases sb with⟨j,M1,Me,_,rfl⟩|⟨q,_⟩
  . rfl
  . obtain⟨i,ao,rfl⟩:=OV m1
    grind
 |none=>
  rcases sb with⟨j,M1,Me,_,_⟩|⟨_,q⟩
  . exact absurd Me (ajk v' _ (E' M1 d5))
  grind
theorem aqz {x:b'}{path:ev}(QX:path.length<=900)(Lh:x.c7.length<=1000){l:List yJ}(ar:l.length<=90000)
 {z0 z2 z4 z5 z7 z9 z11:Int}{z1 z6 z8:Bool}{z3 z10:b8}{its:List a6}:∀(k i:Nat) (acc:List Jh),i+k=l.length->acc.length<=i->
 ((l.drop i).all (Lx x)=true->WU (path,l,(i:Int),x,z0,z1,z2,z3,z4,z5,z6,z7,z8,z9,z10,z11,its,acc)=some (.inr (z0,z1,z2,z3,z4,z5,z6,z7,z8,z9,z10,z11,its,acc++NZ x (l.drop i))))/\
 ((l.drop i).all (Lx x)=false->∃F,WU (path,l,(i:Int),x,z0,z1,z2,z3,z4,z5,z6,z7,z8,z9,z10,z11,its,acc)=some (.inl ⟨Nh,F,false⟩))
 |0,i,acc,ao,b6=>by
  rw[WU,u1,RY (by omega)];exact⟨λ_=>by simp[NZ],λh=>by simp at h⟩
 |k+1,i,acc,ao,b6=>by
  have e':i<l.length:=by omega
  have e:l.drop i=l.getD i Lr::l.drop (i+1):=by rw[KZ e'];exact Vj e'
  obtain⟨r,ln,sb⟩:=aMU Lh (l.getD i Lr).c6;rw[WU,kp,bJ (js e'),u3,e];simp only[h3,ec];generalize l.getD i Lr=f at*;rw[ln];simp only[ec];have k4:(f::l.drop (i+1)).all (Lx x)=(Lx x f&&(l.drop (i+1)).all (Lx x)):=rfl;rw[k4];cases hs:(MX x.c7 f.c6).isSome with
  |true=>
   have cJ:Lx x f=true:=by unfold Lx;rw[hs];rfl
   have al:NZ x (f::l.drop (i+1))=NZ x (l.drop (i+1)):=by unfold NZ;rw[List.filter_cons_of_neg (by rw[hs];simp)]
   rw[sb,hs,bJ rfl,cJ,al,f7,Vm];exact aqz QX Lh ar k (i+1) acc (by omega) (by omega)
  |false=>
   rw[sb,hs,nc,bJ (js e')];cases a7:f.r2 with
   |true=>
    have cJ:Lx x f=false:=by unfold Lx;rw[hs,a7];rfl
    rw[bJ rfl,bJ (js e'),Vs (by omega),cJ];simp only[ec];rw[af1 (by simp;omega)];exact⟨λh=>(by cases h),λ_=>⟨_,rfl⟩⟩
   |false=>
    have cJ:Lx x f=true:=by unfold Lx;rw[hs,a7];rfl
    have al:NZ x (f::l.drop (i+1))=⟨f.c6,f.Data⟩::NZ x (l.drop (i+1)):=by unfold NZ;rw[List.filter_cons_of_pos (by rw[hs];rfl)];rfl
    rw[nc,bJ (js e'),bJ (js e'),bJ (MD),cJ,al,f7,Vm];have:=aqz QX Lh ar (z0:=z0) (z1:=z1) (z2:=z2) (z3:=z3) (z4:=z4) (z5:=z5) (z6:=z6) (z7:=z7) (z8:=z8) (z9:=z9) (z10:=z10) (z11:=z11) (its:=its) k (i+1) (acc++[⟨f.c6,f.Data⟩]) (by omega) (by simp;omega)
    grind
end
section
variable {ts:List b'}
def WS(ts:List b')(n:Nat):Prop:=∀(t:Int) (p:b8) (path:ev),0<=t->t<ts.length->p.length<=4096->path.length+n<=200->
 J3 (sJ ts n t p) (Qj ((⟨ts⟩:f4),t,p,((201-n:Nat):Int),path))
theorem WS.part{n:Nat}(ih:WS ts n)(eJ:n+1<=200){t:Int}{q:b8}{path:ev}(t0:0<=t/\t<ts.length)(e1:q.length<=4096)(aJ:path.length+(n+1)<=200)(step:Int):
 TJ ts (sJ ts n t q) ((201-(n+1):Nat):Int) path t q step:=by
 unfold TJ;rw[Vs (by omega)];have e:hK .i64 ((201-(n+1):Nat):Int) 1=((201-n:Nat):Int):=by rw[f7];omega
 rw[e];exact ih t q (path++[step]) t0.1 t0.2 e1 (by simp;omega)
theorem J3.cast{o ny:Option a6}{X:Option ns}(e:o=ny)(h:J3 o X):J3 ny X:=e▸h
theorem J3.ZE{X:Option ns}{F:O3}(h:X=some ⟨Nh,F,false⟩):J3 none X:=⟨λv h=>(by cases h),λ_=>⟨F,h⟩⟩
theorem J3.aea{X:Option ns}{v:a6}{F:O3}(h:X=some ⟨v,F,true⟩):J3 (some v) X:=⟨λJu s'=>(by cases s';exact⟨F,h⟩),λh=>(by cases h)⟩
theorem aKk(H:NL ts){n:Nat}(eJ:n+1<=200)(ih:WS ts n){x:b'}(aa:x∈ts)(q':x.Kind=6){p:b8}(aJ:p.length<=4096){path:ev}(L9:path.length+(n+1)<=200):
 J3 (alC (sJ ts n) x p) (ai0 ((⟨ts⟩:f4),x,p,((201-(n+1):Nat):Int),path)):=by
 obtain⟨o,_,MB,K8,MC⟩:=aJi p;rw[ai0,MB];simp only[h3,ec];unfold alC;by_cases h0:o.2.2=0
 . obtain⟨v1,v2,v3⟩:=K8 h0;obtain⟨adj,aoG⟩:=H.S.A x aa (.inr q');rw[cx (by simp[h0]),v1];dsimp only;obtain⟨r,ln,sb⟩:=asC (t:=x) (id:=o.1) (by omega);rw[ln];simp only[ec];cases v':MX x.c7 o.1 with
   |some m=>
    dsimp only;obtain⟨m1,m2⟩:=aeK v';rcases sb with⟨j,M1,Me,_,rfl⟩|⟨q,_⟩
    . have Ub:x.c7.getD j d5=m:=aw' adj (E' M1 d5) m1 (by rw[Me,m2]);rw[nc,nc,bJ (js M1),u3,Ub];have ay:=ih.part eJ (t:=m.jb) (q:=o.2.1) (path:=path) (H.mem aa m1) (by omega) L9 o.1;rw[Vs (by omega)];simp only[ec];cases ch:sJ ts n m.jb o.2.1 with
      |none=>
       obtain⟨F,hw⟩:=ay.no (by omega) ch;rw[hw];exact .ZE rfl
      |some v=>
       obtain⟨F,hw⟩:=ay.yes (by omega) ch;rw[hw];simp only[ec];rw[nc,abR];refine J3.cast rfl (J3.aea (F:=⟨[],0⟩) ?_);simp[a6.pa,q']
    . obtain⟨i,ao,rfl⟩:=OV m1;exact absurd m2 (by have:=q i ao;rwa [KZ ao]at this)
   |none=>
    dsimp only;have al:r=(0,false):=by
     rcases sb with⟨j,M1,Me,_,_⟩|⟨_,q⟩
     . exact absurd Me (ajk v' _ (E' M1 d5))
     . exact q
    rw[al];cases MK:x.Open with
    |false=>
     rw[nc,bJ (by simp)];exact PS (by omega) _
    |true=>
     rw[bJ (by simp),nc,bJ (by simp),abR,q'];refine J3.aea (F:=⟨[],0⟩) ?_;simp[a6.pa]
 . rw[bJ (by simp[h0]),MC h0];exact PS (by omega) _
theorem aKl(H:NL ts){n:Nat}(eJ:n+1<=200)(ih:WS ts n){x:b'}(aa:x∈ts)(Ov:x.Kind=7){p:b8}(aJ:p.length<=4096){path:ev}(L9:path.length+(n+1)<=200):
 J3 (aek (sJ ts n) x p) (ai2 ((⟨ts⟩:f4),x,p,((201-(n+1):Nat):Int),path)):=by
 obtain⟨o,_,MB,K8,MC⟩:=atn (p:=p) (by omega);rw[ai2,MB];unfold aek;simp only[h3,ec];by_cases h0:o.2=0
 . obtain⟨v1,v2,v3⟩:=K8 h0;rw[v1];dsimp only;by_cases hm:(o.1.length:Int)<=x.Max
   . rw[bJ hm,cx (by simp[h0]),u1];obtain⟨JR,NI⟩:=azM (ts:=ts) (x:=x) (path:=path) (by omega) (f:=sJ ts n x.h6) (l:=o.1) (by omega) (L:=((201-(n+1):Nat):Int)) (λq e1 step=>ih.part eJ (H.elem aa (by omega)) (by have:=v2 q e1;omega) L9 step)
      (z0:=0) (z1:=false) (z2:=0) (z3:=[]) (z4:=0) (z5:=0) (z6:=false) (z7:=x.Kind) (z8:=false) (z9:=0) (z10:=[]) (z11:=0) o.1.length 0 [] (by omega) rfl
     rw[Yn]at JR NI;have z0:((0:Nat):Int)=0:=rfl;rw[z0]at JR NI;cases hs:m' (sJ ts n x.h6) o.1 with
     |none=>
      obtain⟨F,hw⟩:=NI hs;rw[hw];exact .ZE rfl
     |some is=>
      rw[JR is hs];simp only[ec];rw[abR];refine J3.cast rfl (J3.aea (F:=⟨[],0⟩) ?_);simp[a6.pa,Ov]
   . rw[cx hm,cx (by simp[h0]),kp];exact PS (by omega) _
 . rw[bJ (by simp[h0]),MC h0];exact PS (by omega) _
theorem aMQ(H:NL ts){n:Nat}(eJ:n+1<=200)(ih:WS ts n){x:b'}(aa:x∈ts)(Nu:x.Kind=8){p:b8}(aJ:p.length<=4096){path:ev}(L9:path.length+(n+1)<=200):
 J3 (alD (sJ ts n) x p) (ai6 ((⟨ts⟩:f4),x,p,((201-(n+1):Nat):Int),path)):=by
 obtain⟨o,_,MB,K8,MC⟩:=atn (p:=p) (by omega);rw[ai6,MB];unfold alD;simp only[h3,ec];by_cases h0:o.2=0
 . obtain⟨v1,v2,v3⟩:=K8 h0;rw[v1];dsimp only;have adu:NY (o.1.length:Int) 2=((o.1.length%2:Nat):Int):=by rw[awK (by omega) (by omega)];omega
   rw[adu,azE (by omega)];by_cases he:o.1.length%2=0
   . by_cases hm:((o.1.length/2:Nat):Int)<=x.Max
     . rw[bJ (show o.1.length%2=0/\((o.1.length/2:Nat):Int)<=x.Max from⟨he,hm⟩),cx (show ¬(bif !decide (o.2=0)then true else decide (((o.1.length%2:Nat):Int)=1))=true by rw[he,h0];simp),cx (show ¬decide (x.Max<((o.1.length/2:Nat):Int))=true by simp only[u2];omega)];have z0:((0:Nat):Int)=0:=rfl
       obtain⟨JR,NI⟩:=azL (ts:=ts) (x:=x) (path:=path) (by omega) (f:=sJ ts n x.Key) (l:=o.1) (by omega) (L:=((201-(n+1):Nat):Int)) (λq e1 step=>ih.part eJ (H.key aa Nu) (by have:=v2 q e1;omega) L9 step)
        (z0:=0) (z1:=false) (z2:=0) (z3:=[]) (z4:=0) (z5:=0) (z6:=false) (z7:=x.Kind) (z8:=false) (z9:=0) (z10:=[]) (z11:=0) (o.1.length/2) 0 [] (by omega) rfl
       rw[Nat.mul_zero,Yn,z0]at JR NI;cases hs:m' (sJ ts n x.Key) (MJ o.1)with
       |none=>
        obtain⟨F,hw⟩:=NI hs;rw[hw];exact .ZE rfl
       |some ks=>
        have ayw:=aal hs;have RO:=ane o.1;rw[JR ks hs];simp only[ec,Ue];have apa:∀y,y∈ks->MQ y.oj:=λy bo=>by
         obtain⟨a,_,a2⟩:=afS hs y bo;exact axe a2
        have one:((0+1:Nat):Int)=1:=rfl;rcases azG (ts:=ts) (x:=x) (path:=path) (by omega) (l:=o.1) (ks:=ks) apa (by omega) (L:=((201-(n+1):Nat):Int))
         (z0:=0) (z1:=false) (z2:=0) (z3:=[]) (z4:=0) (z5:=0) (z6:=false) (z7:=x.Kind) (z8:=false) (z9:=0) (z10:=[]) (z11:=0) (ks.length-(0+1)) 0 rfl with⟨h1,ad⟩|⟨⟨m,m1,m2⟩,F,ad⟩
        . have b6:Xx ks=true:=ajQ.2 λi ao=>h1 i (by omega) ao
          rw[one]at ad;rw[ad,bJ b6];simp only[ec];obtain⟨aiy,abZ⟩:=axG (ts:=ts) (x:=x) (path:=path) (by omega) (f:=sJ ts n x.h6) (l:=o.1) (by omega) (L:=((201-(n+1):Nat):Int)) (λq e1 step=>ih.part eJ (H.elem aa (by omega)) (by have:=v2 q e1;omega) L9 step)
           (z0:=0) (z1:=false) (z2:=0) (z3:=[]) (z4:=0) (z5:=0) (z6:=false) (z7:=x.Kind) (z8:=false) (z9:=0) (z10:=[]) (z11:=0) (ks:=ks) (o.1.length/2) 0 [] (by omega) rfl
          rw[Nat.mul_zero,Yn,z0]at aiy abZ;cases ahj:m' (sJ ts n x.h6) (NV o.1)with
          |none=>
           obtain⟨F,hw⟩:=abZ ahj;rw[hw];exact .ZE rfl
          |some is=>
           rw[aiy is ahj];simp only[ec];rw[abR];refine J3.cast rfl (J3.aea (F:=⟨[],0⟩) ?_);simp[a6.pa,Nu]
        . have b6:¬Xx ks=true:=λh=>m2 (ajQ.1 h m m1)
          rw[one]at ad;rw[ad,cx b6];exact .ZE rfl
     . rw[cx (show ¬(o.1.length%2=0/\((o.1.length/2:Nat):Int)<=x.Max)fromλh=>hm h.2),cx (show ¬(bif !decide (o.2=0)then true else decide (((o.1.length%2:Nat):Int)=1))=true by rw[he,h0];simp),bJ (show decide (x.Max<((o.1.length/2:Nat):Int))=true by simp only[u2];omega)];exact PS (by omega) _
   . have h1:o.1.length%2=1:=by omega
     rw[cx (show ¬(o.1.length%2=0/\((o.1.length/2:Nat):Int)<=x.Max)fromλh=>he h.1),bJ (show(bif !decide (o.2=0)then true else decide (((o.1.length%2:Nat):Int)=1))=true by rw[h1,h0];simp)];exact PS (by omega) _
 . rw[MC h0,bJ (by simp[h0])];exact PS (by omega) _
theorem aJX(H:NL ts){n:Nat}(eJ:n+1<=200)(ih:WS ts n){x:b'}(aa:x∈ts)(te:x.Kind=5){p:b8}(aJ:p.length<=4096){path:ev}(L9:path.length+(n+1)<=200):
 J3 (aij (sJ ts n) x p) (aiW ((⟨ts⟩:f4),x,p,((201-(n+1):Nat):Int),path)):=by
 obtain⟨adj,aoG⟩:=H.S.A x aa (.inl te);obtain⟨o,_,MB,K8,MC⟩:=aG3 (p:=p) (by omega);rw[aiW,MB];unfold aij;simp only[h3,ec];by_cases h0:o.2=0
 . obtain⟨v1,v2,v3,v4⟩:=K8 h0;rw[cx (by simp[h0]),v1];dsimp only;obtain⟨JR,NI⟩:=azP (ts:=ts) (x:=x) (path:=path) (by omega) (f:=sJ ts n) (l:=o.1) (by omega) (by omega) (L:=((201-(n+1):Nat):Int)) (λm hm q e1 step=>ih.part eJ (H.mem aa hm) (by have:=(v2 q e1).1;omega) L9 step)
    (z0:=0) (z1:=false) (z2:=0) (z3:=[]) (z4:=0) (z5:=0) (z6:=false) (z7:=x.Kind) (z8:=false) (z9:=0) (z10:=[]) (z11:=0) x.c7.length 0 [] (by omega) rfl
   have z0:((0:Nat):Int)=0:=rfl;rw[Yn,z0]at JR NI;have B:=λits=>aqz (x:=x) (path:=path) (by omega) (by omega) (l:=o.1) (by omega) (z0:=0) (z1:=false) (z2:=0) (z3:=[]) (z4:=0) (z5:=0) (z6:=false) (z7:=x.Kind) (z8:=false) (z9:=0) (z10:=[]) (z11:=0) (its:=its) o.1.length 0 [] (by omega) (DJ _)
   rw[Yn,z0]at B;cases hs:m' (Je (sJ ts n) o.1) x.c7 with
   |none=>
    obtain⟨F,hw⟩:=NI hs;rw[hw];exact .ZE rfl
   |some is=>
    rw[JR is hs];simp only[ec,Ue];cases b6:o.1.all (Lx x)with
    |true=>
     rw[(B is).1 b6,bJ rfl];simp only[ec];rw[abR];refine J3.cast rfl (J3.aea (F:=⟨[],0⟩) ?_);simp[a6.pa,te]
    |false=>
     obtain⟨F,hw⟩:=(B is).2 b6;rw[hw,nc];exact .ZE rfl
 . rw[bJ (by simp[h0]),MC h0];exact PS (by omega) _
theorem aHs(H:NL ts){n:Nat}(eJ:n+1<=200)(ih:WS ts n):WS ts (n+1):=λt p path t0 t1 aJ L9=>by
 obtain⟨j,rfl⟩:=apU t0;have ea:j<ts.length:=by omega
 have S5:¬(200:Int)<((201-(n+1):Nat):Int):=by omega
 rw[Qj,bJ (js ea),ang,u3];have aa:=E' ea d4;generalize ts.getD j d4=x at*;obtain⟨arj,ark⟩:=H.S.K x aa;have apt:x.hD.length<9223372036854775807:=M8 (UF (H.S.T x aa).1);unfold alE;obtain⟨u,_,aNo,aii,aej⟩:=aGB p;have ayG:afo p=some (u.1,decide (u.2=0)):=by rw[afo,aNo];rfl
 by_cases ha:x.Kind=1
 . simp only[ha,S5,u2,↓reduceIte,Int.reduceEq,Vp,Ti,y0,h3,ec];unfold aly;by_cases h0:p=[]
   . rw[bJ h0,cx (by simp[h0])];simp only[h0,ZL,OW];exact .one _
   . by_cases h1:p=[1]
     . rw[cx h0,bJ h1,cx (by simp[h1])];simp only[h0,Vp,Tf];exact .one _
     . rw[cx h0,cx h1,bJ (by simp[h0,h1])];exact PS (by omega) _
 by_cases hg:x.Kind=2
 . simp only[hg,S5,u2,↓reduceIte,Int.reduceEq,Vp,Ti,y0,h3,ec,ayG];unfold alz;by_cases h0:u.2=0
   . obtain⟨m,m1,m2⟩:=aii h0;rw[m1,m2,aJu (aj8 m1),cx (by simp[h0])];simp only[ec];by_cases al:x.mJ<=Qz m/\Qz m<=x.mx
     . rw[bJ al,u1];exact .one _
     . rw[cx al,kp];exact PS (by omega) _
   . rw[aej h0,bJ (by simp[h0])];exact PS (by omega) _
 by_cases hQ:x.Kind=3
 . simp only[hQ,S5,u2,↓reduceIte,Int.reduceEq,Vp,Ti,y0,h3,ec];unfold alA;by_cases al:(p.length:Int)<=x.Max
   . rw[bJ al,I2];exact .one _
   . rw[cx al,bJ (by omega)];exact PS (by omega) _
 by_cases oi:x.Kind=4
 . simp only[oi,S5,u2,↓reduceIte,Int.reduceEq,Vp,Ti,y0,h3,ec,ayG];unfold alB;by_cases h0:u.2=0
   . obtain⟨m,m1,m2⟩:=aii h0;rw[m1,m2];dsimp only;by_cases al:1<=m/\m<=1000
     . obtain⟨q,_,Jd,Q5⟩:=atw (t:=x) (m:Int) apt;have e:G' .i64 (m:Int)=(m:Int):=Si;rw[cx (show ¬(bif bif !decide (u.2=0)then true else decide ((m:Int)<1)then true else decide (1000<(m:Int)))=true by simp[h0];omega),e,Jd];simp only[ec]
       have e1:q.2=(x.hD.any λy=>decide (y.c6=(m:Int))):=by
        have:=(atk Q5).trans awO
        grind
       rw[e1];by_cases ai:((x.hD.any λy=>decide (y.c6=(m:Int)))||x.Open)=true
       . rw[bJ (show 1<=m/\m<=1000/\((x.hD.any λy=>decide (y.c6=(m:Int)))||x.Open)=true from⟨al.1,al.2,ai⟩),cx]
         . exact .one _
         grind
       . rw[cx (show ¬(1<=m/\m<=1000/\((x.hD.any λy=>decide (y.c6=(m:Int)))||x.Open)=true)fromλh=>ai h.2.2),bJ]
         . exact PS (by omega) _
         grind
     . rw[cx (show ¬(1<=m/\m<=1000/\((x.hD.any λy=>decide (y.c6=(m:Int)))||x.Open)=true)fromλh=>al ⟨h.1,h.2.1⟩),bJ (by simp[h0];omega)];exact PS (by omega) _
   . rw[aej h0,bJ (by simp[h0])];exact PS (by omega) _
 by_cases RU:x.Kind=9
 . obtain⟨ep,hp⟩:=H.elem aa (by omega);simp only[RU,S5,u2,↓reduceIte,Int.reduceEq,Vp,ZL,Ti,abG,y0,h3,ec];cases p with
   |nil=>
    rw[nc,ael];exact .one _
   |cons c q=>
    have i0:hz 0 (c::q).length=true:=js (k:=0) (by simp);have b0:m5 (c::q) 0=(c.toNat:Int):=rfl;have ZT:ME 1 ((c::q).length:Int) (c::q).length=true:=Qg.2 (by simp<;>omega);have KU:LY (c::q) 1 ((c::q).length:Int)=q:=by
     unfold LY;simp
    rw[bJ (by simp),bJ i0,b0,ael];by_cases a7:c=1
    . subst a7;rw[bJ rfl,nc,bJ ZT,KU];have ay:=ih.part eJ (t:=x.h6) (q:=q) (path:=path) ⟨ep,hp⟩ (by simp at aJ;omega) L9 0;rw[Vs (by omega)];simp only[ec];cases ch:sJ ts n x.h6 q with
      |none=>
       obtain⟨F,hw⟩:=ay.no (by omega) ch;rw[hw];exact .ZE rfl
      |some v=>
       obtain⟨F,hw⟩:=ay.yes (by omega) ch;rw[hw];simp only[ec];rw[nc,abR];refine J3.cast rfl (J3.aea (F:=⟨[],0⟩) ?_);simp[a6.pa]
    . have NS:¬((c.toNat:Int)=1):=λh=>a7 (UInt8.toNat.inj (by show c.toNat=1;omega))
      rw[cx a7,bJ (by simpa using NS)];exact PS (by omega) _
 by_cases q':x.Kind=6
 . have:=(aKk H eJ ih aa q' aJ (path:=path) L9).eta;simp only[q',S5,u2,↓reduceIte,Int.reduceEq,Vp,Ti,y0,h3,ec];exact this
 by_cases Ov:x.Kind=7
 . have:=(aKl H eJ ih aa Ov aJ (path:=path) L9).eta;simp only[Ov,S5,u2,↓reduceIte,Int.reduceEq,Vp,Ti,y0,h3,ec];exact this
 by_cases Nu:x.Kind=8
 . have:=(aMQ H eJ ih aa Nu aJ (path:=path) L9).eta;simp only[Nu,S5,u2,↓reduceIte,Int.reduceEq,Vp,Ti,y0,h3,ec];exact this
 have te:x.Kind=5:=by omega
 have:=(aJX H eJ ih aa te aJ (path:=path) L9).eta;simp only[te,S5,u2,↓reduceIte,Int.reduceEq,Vp,Ti,y0,h3,ec];exact this
theorem axg(H:NL ts):∀n,n<=200->WS ts n
 |0,_=>λt p path t0 t1 aJ L9=>by
  obtain⟨j,rfl⟩:=apU t0;have ea:j<ts.length:=by omega
  rw[Qj,bJ (js ea)];simp only[h3,ec];rw[bJ (by simp),anf];exact PS (by omega) _
 |n+1,eJ=>aHs H eJ (axg H n (by omega))
end
theorem axH(s:b8):∀(f i n m k:Nat),O1 s f i n=((m:Int),(k:Int),0)->∃q,m=n+q*2^(7*i)/\s.drop i=Vw q++s.drop k/\(0<i->0<q)
 |0,i,n,m,k,h=>by rw[O1]at h;simp at h
 |f+1,i,n,m,k,h=>by
  rw[O1]at h;split at h
  . rename_i ao;have awf:s.drop i=s.getD i 0::s.drop (i+1):=by rw[KZ ao];exact Vj ao
    have ai:(s.getD i 0).toNat<256:=UInt8.toNat_lt _;generalize s.getD i 0=c at*;split at h
    . simp at h
    . split at h
      . rename_i aKt;obtain⟨q,Jd,HS,Q5⟩:=axH s f (i+1) _ m k h;have e1:=Q5 (by omega);refine⟨c.toNat%128+128*q,?_,?_,λ_=>by omega⟩
        . grind
        . rw[aJb (by omega),show(c.toNat%128+128*q)/128=q by omega,show(c.toNat%128+128*q)%128+128=c.toNat by omega,awf,HS];simp
      . rename_i aKt;split at h
        . simp at h
        . rename_i h0;simp only[ho,adP]at h;have hm:m=n+c.toNat*2^(7*i):=by have:=h.1;exact_mod_cast this.symm
          have hk:k=i+1:=by have:=h.2;exact_mod_cast this.symm
          refine⟨c.toNat,hm,?_,λays=>?_⟩
          . rw[aGu (by omega),awf,hk];simp
          omega
  . simp at h
theorem aJY{s:b8}{m k:Nat}(h:O1 s 10 0 0=((m:Int),(k:Int),0)):s=Vw m++s.drop k:=by
 obtain⟨q,Jd,HS,_⟩:=axH s 10 0 0 m k h
 grind
theorem aKm{p:b8}{id:Int}{q:b8}(h:Tt p=some (id,q)):p=Vw id.toNat++q:=by
 unfold Tt at h;rw[UB]at h;rcases WL p with⟨e,he,a8⟩|⟨m,k,a8,Oo,hk,hm⟩
 . rw[YB he a8]at h;simp at h
 . have es:=aJY a8;rw[YC a8 hk]at h;simp only[h3,ec]at h;by_cases a7:(m:Int)<1\/1000<(m:Int)
   . grind
   . have:¬((bif bif (!true)then true else decide ((m:Int)<1)then true else decide (1000<(m:Int)))=true):=by grind
     have hw:G' .i64 (m:Int)=(m:Int):=Si;rw[cx this,hw]at h;simp only[xe,hr,ho]at h;rw[<-h.1,<-h.2]
     simpa using es
theorem axI{α:Type}:∀{l:List α},l.length%2=0->(MJ l).length=l.length/2/\(NV l).length=l.length/2
 |[],_=>⟨by simp[MJ],by simp[NV]⟩
 |[a],h=>by simp at h
 |a::b::l,h=>by
  obtain⟨h1,ad⟩:=axI (l:=l) (by simp at h;omega);show(MJ l).length+1=(l.length+1+1)/2/\(NV l).length+1=(l.length+1+1)/2;omega
theorem axh{α:Type}:∀{l:List α} {y:α},y∈NV l->y∈l
 |[],y,h=>by cases h
 |[_],y,h=>by cases h
 |a::b::l,y,h=>by
  rcases Nx.1 h with rfl|h
  . grind
  . exact .tail _ (.tail _ (axh h))
def Qn(C d:Nat)(l:List yJ)(m:hv):Nat:=match l.find? (λf=>decide (f.c6=m.c6))with
 |some f=>C*(f.Data.length+1)
 |none=>d
def cy(C d:Nat)(l:List yJ)(ms:List hv):Nat:=(ms.map (Qn C d l)).sum
theorem aHt{x:b'}{l:List yJ}{r:Jh}(h:r∈NZ x l):∃f,f∈l/\MX x.c7 f.c6=none/\r=⟨f.c6,f.Data⟩:=by
 unfold NZ at h;obtain⟨f,c9,rfl⟩:=PG.1 h;obtain⟨h1,ad⟩:=adZ.1 c9;refine⟨f,h1,?_,rfl⟩;simp_all
section
variable {ts:List b'}
theorem af2 {k:Int}{b:Bool}{i:Int}{s:b8}{id:Int}{ks is:List a6}{r:List Jh}(h0:0<=k/\k<=9)(h1:MQ i)(ad:0<=id/\id<=1000)(hs:s.length<=90000)(hk:ks.length<=90000)(ao:is.length<=90000)(al:r.length<=90000)
 (ha:∀x,x∈ks->JJ x)(hg:∀x,x∈is->JJ x)(hQ:∀x,x∈r->x.Data.length<=90000/\Ob x.c6):JJ ⟨k,b,i,s,id,ks,is,r⟩:=by
 refine .mk _ (by unfold reachBytes;show s.length<=_;omega) (by unfold reachBytes;show ks.length<=_;omega) (by unfold reachBytes;show is.length<=_;omega) (by unfold reachBytes;show r.length<=_;omega) ha hg (λx aa=>by have:=(hQ x aa).1;unfold reachBytes;omega) ?_ h1 ?_ (λx aa=>by have:=(hQ x aa).2;unfold Ob at this;omega)
 . show -9223372036854775808<=k/\k<=9223372036854775807;omega
 . show -9223372036854775808<=id/\id<=9223372036854775807;omega
end
noncomputable def XU (ts:List b')(t:Int)(m:b8):a6×Int:=
 if t<0\/(ts.length:Int)<=t then(Nh,4)else if 4096<m.length then(Nh,12)else match sJ ts 200 t m with
  |some v=>(v,0)
  |none=>(Nh,12)
section
variable {ts:List b'}
theorem ajl(H:NL ts)(t:Int)(m:b8):aad ((⟨ts⟩:f4),t,m)=some (XU ts t m):=by
 rw[aad,ajb,(anb H.S.T H.V).1];simp only[h3,ec];unfold XU;by_cases h1:t<0\/(ts.length:Int)<=t
 . have c:(bif decide (t<0)then true else decide ((ts.length:Int)<=t))=true:=by rcases h1 with h1|h1<;>simp[h1]
   rw[nc,bJ c,bJ h1];rfl
 . have c:¬(bif decide (t<0)then true else decide ((ts.length:Int)<=t))=true:=by
    have a:¬t<0:=λh=>h1 (.inl h)
    have b:¬(ts.length:Int)<=t:=λh=>h1 (.inr h)
    simp[a,b]
   by_cases ad:4096<m.length
   . rw[nc,cx c,kp,cx h1,bJ ad];rfl
   . have d1:=awQ H 200 (by omega) t m [] 0 [] (by omega) (by omega) (by omega) rfl;rw[nc,cx c,u1,cx h1,cx ad];cases ch:sJ ts 200 t m with
     |none=>
      obtain⟨w,f1,f2,hw⟩:=d1.2 ch;rw[hw];rfl
     |some v=>
      rw[d1.1 v ch];simp[a6.pa]
theorem asR(H:NL ts)(t:Int)(m:b8):aaL ((⟨ts⟩:f4),t,m)=some (XU ts t m):=by
 have al:VC ((⟨ts⟩:f4),t)=some (if t<0\/(ts.length:Int)<=t then 4 else 0):=by
  rw[VC,(anb H.S.T H.V).2];simp only[h3,ec];rw[nc];by_cases h1:t<0\/(ts.length:Int)<=t
  . rw[bJ h1,bJ];rcases h1 with h1|h1<;>simp[h1]
  . rw[cx h1,cx];have a:¬t<0:=λh=>h1 (.inl h)
    have b:¬(ts.length:Int)<=t:=λh=>h1 (.inr h)
    simp[a,b]
 rw[aaL,ai3,al];simp only[h3,ec];unfold XU;by_cases h1:t<0\/(ts.length:Int)<=t
 . simp only[bJ h1];rfl
 . by_cases ad:4096<m.length
   . simp only[cx h1];rw[nc,kp,bJ ad,af1 (by simp)];rfl
   . have d2:=axg H 200 (by omega) t m [] (by omega) (by omega) (by omega) (by simp);rw[show((201-200:Nat):Int)=1 from rfl]at d2;simp only[cx h1];rw[nc,u1,cx ad];cases ch:sJ ts 200 t m with
     |none=>
      obtain⟨F,hw⟩:=d2.2 ch;rw[hw];rfl
     |some v=>
      obtain⟨F,hw⟩:=d2.1 v ch;rw[hw];simp[a6.pa]
end
inductive aaJ:a6->Prop
 |mk (v:a6) (h1:v.r3.length*120<=reachBytes) (ad:v.qb.length*120<=reachBytes) (a':v.Rest.length*24<=reachBytes) (hk:∀x,x∈v.r3->aaJ x) (ao:∀x,x∈v.qb->aaJ x):aaJ v
theorem anO{k n:Nat}(h1:1<=k)(hk:k<=1000)(h:n*k<=reachBytes):Yq k n=true:=by
 have eJ:n<=n*k:=alb _ h1;have e:(n+n/4+512)*k=n*k+n/4*k+512*k:=by rw[K0,K0]
 have q:n/4*k*4<=n*k:=by
  rw[Nat.mul_assoc,ahL k 4,<-Nat.mul_assoc];exact Ja _ (Nat.div_mul_le_self n 4)
 unfold reachBytes at h;unfold Yq UE I';simp only[h5,Oz,u2];rw[e];omega
theorem aKn:∀(n:Nat) (v:a6),SizeOf.sizeOf v<n->(∀c,c∈nJ.Wh TE v->WF nJ c)->aaJ v:=by
 intro n
 induction n with
 |zero=>intro v h;omega
 |succ n ih=>
  intro v ch a7;have agw:=a7 ⟨.slice (.nm TE),v.r3⟩ (.tail _ (.tail _ (.tail _ (.tail _ (.tail _ (.head _))))));have aa5:=a7 ⟨.slice (.nm TE),v.qb⟩ (.tail _ (.tail _ (.tail _ (.tail _ (.tail _ (.tail _ (.head _)))))));have aog:=a7 ⟨.slice (.nm aj2),v.Rest⟩ (.tail _ (.tail _ (.tail _ (.tail _ (.tail _ (.tail _ (.tail _ (.head _))))))));obtain⟨_,ha,hQ⟩:=UG (t:= .nm TE) agw
  obtain⟨_,i1,i3⟩:=UG (t:= .nm TE) aa5;obtain⟨_,ln,_⟩:=UG (t:= .nm aj2) aog;have hG:SizeOf.sizeOf v.r3<SizeOf.sizeOf v/\SizeOf.sizeOf v.qb<SizeOf.sizeOf v:=by cases v;simp;omega
  exact .mk v ha i1 ln (λx aa=>ih x (by have:=ajP aa;omega) (hQ x aa)) (λx aa=>ih x (by have:=ajP aa;omega) (i3 x aa))
theorem aIx{v:a6}(ch:aaJ v):Rr v=some v:=by
 induction ch with
 |mk v h1 ad a' hk ao kk ahz=>
  have b:∀{n:Nat},n*120<=reachBytes->n<=5000000000000:=λh=>by unfold reachBytes at h;omega
  have kn:Qi 120 v.r3=some v.r3:=by unfold Qi;rw[bJ (anO (by omega) (by omega) h1)]
  have k0:Qi 120 v.qb=some v.qb:=by unfold Qi;rw[bJ (anO (by omega) (by omega) ad)]
  have A':Qi 24 v.Rest=some v.Rest:=by unfold Qi;rw[bJ (anO (by omega) (by omega) a')]
  have aAQ:=aua (a0:=v.Kind) (a1:=v.s0) (a2:=v.oj) (a3:=v.o') (a4:=v.c6) (z0:=0) (z1:=false) (z2:=0) (z3:=[]) (z4:=0) (l:=v.r3) (l2:=v.qb) (r:=v.Rest) (b h1) kk v.r3.length 0 (by omega)
  have aAS:=aub (a0:=v.Kind) (a1:=v.s0) (a2:=v.oj) (a3:=v.o') (a4:=v.c6) (z0:=0) (z1:=false) (z2:=0) (z3:=[]) (z4:=0) (l:=v.qb) (l2:=v.r3) (r:=v.Rest) (b ad) ahz v.qb.length 0 (by omega);have aAR:aaP ((v.r3.length:Int),0,v.Kind,v.s0,v.oj,v.o',v.c6,0,false,0,[],0,v.r3,v.qb,v.Rest)=_:=aAQ
  have aAT:aaQ ((v.qb.length:Int),0,v.Kind,v.s0,v.oj,v.o',v.c6,0,false,0,[],0,v.qb,v.r3,v.Rest)=_:=aAS;rw[Rr,kn,k0,A'];simp only[h3,ec];rw[aAR];simp only[ec];rw[aAT];simp only[ec];cases v;rfl
structure aiC (ts:List b'):Prop where
 n:ts.length<=reachBytes
 T:∀t,t∈ts->JI t
 B:∀t,t∈ts->∀m,m∈t.c7->aaJ m.ix
theorem aiC.ok{ts:List b'}(H:aiC ts):∃e,aaf (⟨ts⟩:f4)=some e/\aaO (⟨ts⟩:f4)=some e/\e≠12/\(e=0->NL ts):=by
 obtain⟨e,h1,ad,a',_,hy⟩:=atj (s:=⟨ts⟩) H.n H.T;refine⟨e,h1,ad,hy,λh0=>?_⟩;obtain⟨a,b⟩:=a' h0;have V:=aJr H.T a b;exact⟨V.aM4 H.T,V,λx aa m hm _=>aIx (H.B x aa m hm)⟩
section
variable {ts:List b'}
theorem anS{f:b8->Option a6}:∀{l:List b8} {m:List a6},m' f l=some m->(∀q,q∈l->∀v,f q=some v->JJ v)->∀y,y∈m->JJ y:=λhm h y bo=>by
 obtain⟨q,Jd,HS⟩:=afS hm y bo;exact h q Jd y HS
def ama(ts:List b')(n:Nat):Prop:=∀(t:Int) (p:b8) (v:a6),p.length<=90000->0<=t->t<ts.length->sJ ts n t p=some v->JJ v
theorem aIy(Pl:NL ts){n:Nat}(ih:ama ts n):ama ts (n+1):=by
 intro t p v aJ t0 t1 h;rw[ang]at h;have ea:t.toNat<ts.length:=by omega
 have aa:=E' ea d4;obtain⟨arj,ark⟩:=Pl.S.K _ aa;generalize ts.getD t.toNat d4=x at*;have i0:MQ 0:=apF;have leaf:∀{k:Int} {b:Bool} {i:Int} {s:b8} {id:Int},0<=k/\k<=9->MQ i->0<=id/\id<=1000->s.length<=90000->JJ ⟨k,b,i,s,id,[],[],[]⟩:=λh1 ad a' d'=>af2 h1 ad a' d' (by simp) (by simp) (by simp) (by simp) (by simp) (by simp)
 have one:∀{k:Int} {id:Int} {l:List a6},0<=k/\k<=9->0<=id/\id<=1000->l.length<=90000->(∀y,y∈l->JJ y)->JJ ⟨k,false,0,[],id,[],l,[]⟩:=λh1 a' d' hy=>af2 h1 i0 a' (by simp) (by simp) d' (by simp) (by simp) hy (by simp)
 unfold alE at h;by_cases ha:x.Kind=1
 . rw[bJ ha]at h;unfold aly at h;split at h
   . cases h;exact leaf (by omega) i0 (by omega) (by simp)
   . split at h
     . cases h;exact leaf (by omega) i0 (by omega) (by simp)
     . cases h
 rw[cx ha]at h;by_cases hg:x.Kind=2
 . rw[bJ hg]at h;unfold alz at h;split at h
   . rename_i m hm;split at h
     . cases h;refine leaf (by omega) ?_ (by omega) (by simp);exact awM (aj8 hm)
     . cases h
   . cases h
 rw[cx hg]at h;by_cases hQ:x.Kind=3
 . rw[bJ hQ]at h;unfold alA at h;split at h
   . cases h;exact leaf (by omega) i0 (by omega) aJ
   . cases h
 rw[cx hQ]at h;by_cases oi:x.Kind=4
 . rw[bJ oi]at h;unfold alB at h;split at h
   . split at h
     . rename_i a7;cases h;exact leaf (by omega) i0 (by omega) (by simp)
     . cases h
   . cases h
 rw[cx oi]at h;by_cases RU:x.Kind=9
 . rw[bJ RU]at h;cases p with
   |nil=>cases h;exact leaf (by omega) i0 (by omega) (by simp)
   |cons c q=>
    simp only[ael]at h;split at h
    . obtain⟨w,hw,rfl⟩:=adQ.1 h;have:=ih _ _ _ (by simp at aJ;omega) (Pl.elem aa (by omega)).1 (Pl.elem aa (by omega)).2 hw;exact one (by omega) (by omega) (by simp) (by simpa using this)
    . cases h
 rw[cx RU]at h;by_cases q':x.Kind=6
 . rw[bJ q']at h;unfold alC at h;cases JC:Tt p with
   |none=>rw[JC]at h;cases h
   |some a=>
    obtain⟨id,q⟩:=a;rw[JC]at h;dsimp only at h;have aC5:=aKm JC;have aOa:q.length<=p.length:=by rw[aC5,ZI];omega
    obtain⟨o,MB,K8,MC⟩:=anN p;have ayu:Ob id:=by grind
    unfold Ob at ayu;split at h
    . rename_i aOp v';obtain⟨w,hw,rfl⟩:=adQ.1 h;obtain⟨m1,_⟩:=aeK v';have:=ih _ _ _ (by omega) (Pl.mem aa m1).1 (Pl.mem aa m1).2 hw;exact one (by omega) (by omega) (by simp) (by simpa using this)
    . split at h
      . cases h;exact af2 (by omega) i0 (by omega) (by simp) (by simp) (by simp) (by simp) (by simp) (by simp) (by simp;exact⟨by omega,ayu⟩)
      . cases h
 rw[cx q']at h;by_cases Ov:x.Kind=7
 . rw[bJ Ov]at h;unfold aek at h;cases X0:Q' p with
   |none=>rw[X0]at h;cases h
   |some l=>
    rw[X0]at h;dsimp only at h;obtain⟨o,MB,K8,MC⟩:=afQ aJ;have ar:(∀q,q∈l->q.length<=p.length)/\l.length<=p.length:=by grind
    split at h
    . obtain⟨m,m1,rfl⟩:=adQ.1 h;have n':=aal m1;exact one (by omega) (by omega) (by omega) (anS m1 λq e1 v ch=>ih _ _ _ (by have:=ar.1 q e1;omega) (Pl.elem aa (by omega)).1 (Pl.elem aa (by omega)).2 ch)
    . cases h
 rw[cx Ov]at h;by_cases Nu:x.Kind=8
 . rw[bJ Nu]at h;unfold alD at h;cases X0:Q' p with
   |none=>rw[X0]at h;cases h
   |some l=>
    rw[X0]at h;dsimp only at h;obtain⟨o,MB,K8,MC⟩:=afQ aJ;have ar:(∀q,q∈l->q.length<=p.length)/\l.length<=p.length:=by grind
    split at h
    . rename_i a7;obtain⟨g1,g2⟩:=axI a7.1;split at h
      . rename_i ks hk;split at h
        . obtain⟨m,m1,rfl⟩:=adQ.1 h;have Qs:=aal m1;have l2:=aal hk
          exact af2 (by omega) i0 (by omega) (by simp) (by omega) (by omega) (by simp) (anS hk λq e1 v ch=>ih _ _ _ (by have:=ar.1 q (aue e1);omega) (Pl.key aa Nu).1 (Pl.key aa Nu).2 ch) (anS m1 λq e1 v ch=>ih _ _ _ (by have:=ar.1 q (axh e1);omega) (Pl.elem aa (by omega)).1 (Pl.elem aa (by omega)).2 ch) (by simp)
        . cases h
      . cases h
    . cases h
 rw[cx Nu]at h;unfold aij at h;cases ar:R9 p with
 |none=>rw[ar]at h;cases h
 |some l=>
  rw[ar]at h;dsimp only at h;obtain⟨o,MB,K8,MC⟩:=anc aJ;have Jo:(∀f,f∈l->f.Data.length<=p.length/\Ob f.c6)/\l.Pairwise (λa b=>a.c6<b.c6)/\l.length<=p.length:=by grind
  split at h
  . rename_i is ao;split at h
    . cases h;have n':=aal ao;have JD:=Pl.S.T x aa;have aN8:=(Pl.S.A _ aa (.inl (by omega))).2;refine af2 (by omega) i0 (by omega) (by simp) (by simp) (by omega) ?_ (by simp) (λy bo=>?_) (λr al=>?_)
      . unfold NZ;rw[PE];exact Ug (List.length_filter_le _ _) (by omega)
      . obtain⟨m,m1,m2⟩:=afS ao y bo;unfold Je at m2;split at m2
        . rename_i g a8;have:=(Jo.1 g (List.mem_of_find?_eq_some a8)).1;exact ih _ _ _ (by omega) (Pl.mem aa m1).1 (Pl.mem aa m1).2 m2
        . split at m2
          . cases m2;exact JD.RF m m1
          . cases m2
      . obtain⟨f,f1,f2,rfl⟩:=aHt al;exact⟨by have:=(Jo.1 f f1).1;show f.Data.length<=_;omega,(Jo.1 f f1).2⟩
    . cases h
  . cases h
theorem axi(Pl:NL ts):∀n,ama ts n
 |0=>λt p v _ _ _ h=>by rw[anf]at h;cases h
 |n+1=>aIy Pl (axi Pl n)
end
theorem awR{s:f4}{e:Int}(h1:aaf s=some e)(h0:e≠0)(t:Int)(m:b8):aad (s,t,m)=some (Nh,e):=by
 rw[aad,ajb,h1];simp[h0,Nh,a6.pa]
theorem awT{s:f4}{e:Int}(h1:aaO s=some e)(h0:e≠0)(t:Int)(m:b8):VC (s,t)=some e/\∃v,aaL (s,t,m)=some (v,e):=by
 have al:VC (s,t)=some e:=by
  rw[VC,h1];simp[h0]
 refine⟨al,?_⟩;rw[aaL,ai3,al];simp only[h3,ec];rw[bJ (by simp[h0])];exact⟨Nh,by simp[h0,Nh,a6.pa]⟩
theorem aKo{ts:List b'}(H:NL ts)(t:Int):VC ((⟨ts⟩:f4),t)=some (if t<0\/(ts.length:Int)<=t then 4 else 0):=by
 rw[VC,(anb H.S.T H.V).2];simp only[h3,ec];rw[nc];by_cases h1:t<0\/(ts.length:Int)<=t
 . rw[bJ h1,bJ];rcases h1 with h1|h1<;>simp[h1]
 . rw[cx h1,cx];have a:¬t<0:=λh=>h1 (.inl h)
   have b:¬(ts.length:Int)<=t:=λh=>h1 (.inr h)
   simp[a,b]
theorem am1{ts:List b'}{t:Int}(h:¬(t<0\/(ts.length:Int)<=t))(H:NL ts)(m:b8):XU ts t m=(Nh,12)\/∃v,XU ts t m=(v,0)/\JJ v:=by
 unfold XU;rw[cx h];by_cases ad:4096<m.length
 . rw[bJ ad];exact .inl rfl
 . rw[cx ad];cases ch:sJ ts 200 t m with
   |none=>exact .inl rfl
   |some v=>exact .inr ⟨v,rfl,axi H 200 t m v (by omega) (by omega) (by omega) ch⟩
theorem aKp:JJ Nh:=aJk
theorem aGD{s:f4}(H:aiC s.Types)(t:Int)(m:aaq):af' (s,t,m)=some true:=by
 obtain⟨ts⟩:=s;obtain⟨a,b6⟩:=aHS (s:=⟨ts⟩) H.n H.T;obtain⟨e,ep,hp,zt,T0⟩:=H.ok;rw[af',aEA];simp only[h3,ec,OW,Tf,xe,b6];split
 . rfl
 . by_cases h0:e=0
   . have D:=T0 h0;have Jn:=aKo D t;rw[asR D,asR D,Jn];simp only[ec];by_cases al:t<0\/(ts.length:Int)<=t
     . have d0:∀m,XU ts t m=(Nh,4):=λm=>by unfold XU;rw[bJ al]
       rw[ae0,ajl D,ajl D,d0,d0,bJ al];rfl
     . rw[cx al,ae0,ajl D,ajl D];rcases am1 al D m.Z6 with h|⟨v,h,ch⟩
       . rcases am1 al D m.JR with s'|⟨u,s',hu⟩
         . obtain⟨b,b1,b2⟩:=axa aKp Nh;have ai:=b2.2 rfl;subst ai;rw[h,s'];simp[a6.pa,b1,JB]
         . rw[h,s'];simp[JB]
       . rcases am1 al D m.JR with s'|⟨u,s',hu⟩
         . rw[h,s'];simp[JB]
         . obtain⟨b,b1,b2⟩:=axa ch u;obtain⟨c,kn,k0⟩:=aJj ch u;have:b=c:=by cases b<;>cases c<;>simp_all
           subst this;rw[h,s'];simp[a6.pa,b1,kn,JB]
   . obtain⟨ln,v,sb⟩:=awT hp h0 t m.Z6;obtain⟨_,u,ZQ⟩:=awT hp h0 t m.JR;rw[sb,ZQ,ln,ae0,awR ep h0,awR ep h0];simp[h0,zt,JB]
theorem aJZ{v:a6}(h:∀c,c∈nJ.Wh TE v->WF nJ c):aaJ v:=aKn _ v (Nat.lt_succ_self _) h
theorem aL'{l:List b'}(h:WF nJ ⟨.slice (.nm acD),l⟩):aiC l:=by
 obtain⟨a,b⟩:=aMx h;obtain⟨_,_,a'⟩:=UG (t:= .nm acD) h;refine⟨a,b,λt ht m hm=>?_⟩;have aa5:=a' t ht ⟨.slice (.nm ajs),t.c7⟩ (.tail _ (.tail _ (.tail _ (.tail _ (.tail _ (.tail _ (.head _)))))));obtain⟨_,_,m3⟩:=UG (t:= .nm ajs) aa5;exact aJZ λc a7=>m3 m hm c (.tail _ (.tail _ (.tail _ (.tail _ (.tail _ a7)))))
theorem aMd(h:c' nJ.D [.nm auM,.int .i64,.nm atb])(hk:Ok nJ [.nm auM,.int .i64,.nm atb] h):af' h=some true:=
 aGD (aL' (aJt hk ⟨.slice (.nm acD),h.1.Types⟩ (.head _))) h.2.1 h.2.2
end
end Go.Proofs.YtandcioiaooocaaGreat
