/- The functions of the program as functions of Lean, that its code does what they say, and what they answer; part C. -/
import Derived.Test.YthnmepafpikaiaaGreatEdB

namespace Go.Proofs.YthnmepafpikaiaaGreat
set_option linter.all false
section
open Go Go.Proofs.YthnmepafpikaiaaGreat.Shv
set_option maxRecDepth 100000
def Both(o1 o2:Option Bool) :Prop:=∃r,o1=some r∧o2=some r
theorem g10b {γ δ : Type} (L : Nat → Option (Bool ⊕ γ)) (L' : Nat → Option (Bool ⊕ δ)) (n : Nat) (p : Nat → Bool) (g : γ) (g' : δ)
   (h:∀i,i < n→L i=if p i=true then L (i+1)else some (.inl false)) (he:L n=some (.inr g))
   (h':∀i,i < n→L' i=if p i=true then L' (i+1)else some (.inl false)) (he':L' n=some (.inr g')):
   (L 0=some (.inr g)∧L' 0=some (.inr g')∧∀j,j < n→p j=true)∨(L 0=some (.inl false)∧L' 0=some (.inl false)∧∃j,j < n∧p j=false):=by
 rcases scan L n p (.inl false) (.inr g) h he with⟨a1,a2⟩ | ⟨a1,j,a2,a3⟩ <;> rcases scan L' n p (.inl false) (.inr g') h' he' with⟨b1,b2⟩ | ⟨b1,k,b2,b3⟩
 · exact .inl ⟨a1,b1,a2⟩
 · have:=a2 k b2;rw[b3]at this;cases this
 · have:=b2 j a2;rw[a3]at this;cases this
 · exact .inr ⟨a1,b1,j,a2,a3⟩
def gmi(k:Int) :Prop:=1≤k∧k≤9
theorem g1bk{v:SValue}(hk:gmi v.Kind) :∃p,ghc v=some p∧g9c v=some p∧(p=true→v.Kind≠5→v.Kind≠6→v.Rest=[]):=by
 obtain⟨K,B,I,S,ID,Ks,Is,R⟩:=v;simp only at hk;rw[ghc,SValue.g14,g9c];have:K=1∨K=2∨K=3∨K=4∨K=5∨K=6∨K=7∨K=8∨K=9:=by unfold gmi at hk;omega
 have eI:∀(x:Int),decide (x=x)=true:=fun x=>by simp
 rcases this with rfl | rfl | rfl | rfl | rfl | rfl | rfl | rfl | rfl
 all_goals
   refine⟨_,rfl,?_,?_⟩
   · simp[glf,eqB]
     try (cases B <;> simp)
   · simp[glf,eqB]
section
variable {ts:List SType} (hn:ts.length < 9223372036854775807) (hT:∀t,t∈ts→OkT t) (hK:∀t,t∈ts→gmi t.Kind)
def Fit(ts:List SType)(x:SValue) :Prop:=∀t plain,Both (g4h ((⟨ts⟩:SSchema),t,x,plain)) (g2a ((⟨ts⟩:SSchema),t,x,plain))
theorem g17j {l : List SValue} (hl : l.length ≤ reachBytes) (ih : ∀ x, x ∈ l → Fit ts x) (t : Int) (plain : Bool) :
   Both (g8a ((⟨ts⟩:SSchema),t,l,plain)) (g6o ((⟨ts⟩:SSchema),t,l,plain)):=by
 have hr:=g1i hl
 let p:Nat→Bool:=fun i=>(g4h ((⟨ts⟩:SSchema),t,l.getD i dSValue,plain)).getD false
 have hp:∀i,i < l.length→g4h ((⟨ts⟩:SSchema),t,l.getD i dSValue,plain)=some (p i)∧g2a ((⟨ts⟩:SSchema),t,l.getD i dSValue,plain)=some (p i):=by
   intro i hi;obtain⟨r,h1,h2⟩:=ih _ (gt hi dSValue) t plain;simp only[p,h1,h2,Option.getD_some,and_self]
 have hf:=goy (fun i=>g19 (l,(l.length:Int),(i:Int),ts,t,plain)) l.length (fun i=>!(p i)) (fun i=>.inl ((i:Int),ts,t,plain)) (.inr (ts,t,plain))
   (fun i hi=>by
     rw[g19,if_pos (by simp;omega),if_pos (g8 hi),ghf];simp only[SValue.g14,g9];rw[(hp i hi).1,gu (by omega)];rfl)
   (by rw[g19,if_neg (by simp)])
 have hs:=scan (fun i=>g2f (t,l,plain,(i:Int),ts)) l.length p (.inl false) (.inr ())
   (fun i hi=>by
     rw[g2f,if_pos (by simp;omega),if_pos (g8 hi)];simp only[SValue.g14,g9];rw[(hp i hi).2,gu (by omega)];cases p i <;> rfl)
   (by rw[g2f,if_neg (by simp)])
 have e1:g19 (l,(l.length:Int),((0:Nat):Int),ts,t,plain)=g19 (l,(l.length:Int),0,ts,t,plain):=rfl;have e2:g2f (t,l,plain,((0:Nat):Int),ts)=g2f (t,l,plain,0,ts):=rfl;simp only[e1]at hf;simp only[e2]at hs;rw[g8a,g22,g36,g6o];rcases hf with⟨j,a1,a2,a3,a4⟩ | ⟨a1,a4⟩ <;> rcases hs with⟨b1,b2⟩ | ⟨b1,k,b2,b3⟩
 · have:=b2 j a1;simp[this]at a2
 · rw[a4,b1];refine⟨false,?_,rfl⟩;have e:decide ((0:Int)≤(j:Int))=true:=by simp
   simp only[oZ4,oZ3,e,Bool.not_true]
 · rw[a4,b1];exact⟨true,rfl,rfl⟩
 · have:=a1 k b2;simp[b3]at this
def restP(t:SType)(l:List SRaw)(i:Nat) :Bool:=
 !((g38 (t,(l.getD i dSRaw).ID)).getD (0,false)).2 && (decide (1≤(l.getD i dSRaw).ID) && decide ((l.getD i dSRaw).ID≤1000)) && (decide (i=0) || decide ((l.getD (i - 1) dSRaw).ID < (l.getD i dSRaw).ID))
theorem g1j4 {γ : Type} (kn f Z : Bool) (sI : Int) (I1 C : Int → Bool) (X Y : Option γ) (hI1 : Z = true → I1 sI = true) :
   ((if(!kn)=true then some f else some false) >>=fun r_17=>some (bif kn then true else(!r_17)) >>=fun t131=>some Z >>=fun t134=>some sI >>=fun t141=>
     if(I1 t141 || (!((!t131) && t134)))=true then if(bif t131 then true else bif t134 then C t141 else false)=true then X else Y else none)=if(!kn && f && (!Z || !(C sI)))=true then Y else X:=by
 simp only[oZ4,oZ3];generalize C sI=c;cases Z with
 | true=>rw[hI1 rfl];cases kn <;> cases f <;> cases c <;> rfl
 | false=>generalize I1 sI=d;cases kn <;> cases f <;> cases d <;> cases c <;> rfl
theorem g127 {γ : Type} (R3 I0 Z : Bool) (sI : Int) (I1 C : Int → Bool) (X Y : Option γ) (hI0 : I0 = true) (hI1 : Z = true → I1 sI = true) :
   (some R3 >>=fun r_3=>some (!r_3) >>=fun t31=>some Z >>=fun t34=>
     if(I0 || (!((!t31) && t34)))=true then some sI >>=fun t43=>if(I1 t43 || (!((!t31) && t34)))=true then if(bif t31 then true else bif t34 then C t43 else false)=true then X else Y else none else none)=if(R3 && (!Z || !(C sI)))=true then Y else X:=by
 subst hI0;simp only[oZ4,oZ3];generalize C sI=c;cases Z with
 | true=>rw[hI1 rfl];cases R3 <;> cases c <;> rfl
 | false=>generalize I1 sI=d;cases R3 <;> cases d <;> cases c <;> rfl
theorem geg{i:Nat}(h:0 < i)(h2:i < 9223372036854775807) :subI .i64 (i:Int) 1=((i - 1:Nat):Int):=by
 rw[gj4 (by omega) (by omega)];omega
theorem rests {t : SType} (ht : t.Members.length < 9223372036854775807) (v : SValue) (hl : v.Rest.length ≤ reachBytes) (plain : Bool) (ts : List SType) :
   let inr:=(plain,ts,v.Kind,v.Bool_,v.Int_,v.Str,v.ID,v.Keys,v.Items,v.Rest,t.Kind,t.Name,t.Low,t.High,t.Max,t.Symbols,t.Members,t.Key,t.Elem,t.Open)
   ((g32 (plain,v.Rest,(v.Rest.length:Int),0,ts,v,t.Kind,t.Name,t.Low,t.High,t.Max,t.Symbols,t.Members,t.Key,t.Elem,t.Open)=some (.inr inr)∧g7d (t,v.Rest)=some true)∨
     (g32 (plain,v.Rest,(v.Rest.length:Int),0,ts,v,t.Kind,t.Name,t.Low,t.High,t.Max,t.Symbols,t.Members,t.Key,t.Elem,t.Open)=some (.inl false)∧g7d (t,v.Rest)=some false)):=by
 intro inr;have hr:=g1i hl;have hpe:∀i,i < v.Rest.length→∀r,g38 (t,(v.Rest.getD i dSRaw).ID)=some r→restP t v.Rest i=(!r.2 && (bif decide (1≤(v.Rest.getD i dSRaw).ID)then decide ((v.Rest.getD i dSRaw).ID≤1000)else false) && (!(decide ((0:Int) < (i:Int))) || !(decide ((v.Rest.getD i dSRaw).ID≤(v.Rest.getD (subI .i64 (i:Int) 1).toNat dSRaw).ID)))):=by
   intro i hi r hm;unfold restP;rw[hm,Option.getD_some];generalize (v.Rest.getD i dSRaw).ID=x;by_cases h0:i=0
   · subst h0;cases r.2 <;> by_cases h1:1≤x <;> by_cases h2:x≤1000 <;> simp[h1,h2]
   · have hz:decide ((0:Int) < (i:Int))=true:=by simp;omega
     rw[hz,geg (by omega) (by omega),g9];generalize (v.Rest.getD (i - 1) dSRaw).ID=y;cases r.2 <;> by_cases h1:1≤x <;> by_cases h2:x≤1000 <;> by_cases h3:y < x <;> simp[h0,h1,h2,h3] <;> omega
 have h:=g10b (fun i=>g32 (plain,v.Rest,(v.Rest.length:Int),(i:Int),ts,v,t.Kind,t.Name,t.Low,t.High,t.Max,t.Symbols,t.Members,t.Key,t.Elem,t.Open)) (fun i=>g23 (v.Rest,(i:Int),t)) v.Rest.length (restP t v.Rest) inr ()
   (fun i hi=>by
     obtain⟨r,h1,_,_⟩:=g73 (t:=t) (v.Rest.getD i dSRaw).ID ht;rw[g32,if_pos (by simp;omega),if_pos (g8 hi),hpe i hi r h1];simp only[g9,gxc,SValue.g14,gie,oZ4,oZ3];rw[h1,gu (by omega)]
     exact g1j4 r.2 (bif decide (1≤(v.Rest.getD i dSRaw).ID)then decide ((v.Rest.getD i dSRaw).ID≤1000)else false) (decide ((0:Int) < (i:Int))) (subI .i64 (i:Int) 1) (fun j=>inR j v.Rest.length) (fun j=>decide ((v.Rest.getD i dSRaw).ID≤(v.Rest.getD j.toNat dSRaw).ID)) _ _ (fun hz=>by
       have:0 < i:=by simp at hz;omega
       show inR _ _=true;rw[geg this (by omega)];exact g8 (by omega)))
   (by rw[g32,if_neg (by simp)])
   (fun i hi=>by
     obtain⟨r,h1,h2,_⟩:=g73 (t:=t) (v.Rest.getD i dSRaw).ID ht;rw[g23,if_pos (by simp;omega),if_pos (g8 hi),hpe i hi r h1];simp only[g9];rw[h2,gu (by omega)];have hid:g1p ((v.Rest.getD i dSRaw).ID,r.2)=some ((!r.2) && (bif decide (1≤(v.Rest.getD i dSRaw).ID)then decide ((v.Rest.getD i dSRaw).ID≤1000)else false)):=by
       rw[g1p];cases r.2 <;> cases decide (1≤(v.Rest.getD i dSRaw).ID) <;> rfl
     show(if inR (i:Int) v.Rest.length=true then g1p ((v.Rest.getD i dSRaw).ID,r.2) >>=_ else none)=_;rw[if_pos (g8 hi),hid]
     exact g127 ((!r.2) && (bif decide (1≤(v.Rest.getD i dSRaw).ID)then decide ((v.Rest.getD i dSRaw).ID≤1000)else false)) (inR (i:Int) v.Rest.length) (decide ((0:Int) < (i:Int))) (subI .i64 (i:Int) 1) (fun j=>inR j v.Rest.length) (fun j=>decide ((v.Rest.getD i dSRaw).ID≤(v.Rest.getD j.toNat dSRaw).ID)) _ _ (g8 hi) (fun hz=>by
       have:0 < i:=by simp at hz;omega
       show inR _ _=true;rw[geg this (by omega)];exact g8 (by omega)))
   (by rw[g23,if_neg (by simp)])
 have e1:g32 (plain,v.Rest,(v.Rest.length:Int),((0:Nat):Int),ts,v,t.Kind,t.Name,t.Low,t.High,t.Max,t.Symbols,t.Members,t.Key,t.Elem,t.Open)=g32 (plain,v.Rest,(v.Rest.length:Int),0,ts,v,t.Kind,t.Name,t.Low,t.High,t.Max,t.Symbols,t.Members,t.Key,t.Elem,t.Open):=rfl;have e2:g23 (v.Rest,((0:Nat):Int),t)=g23 (v.Rest,0,t):=rfl
 simp only[e1,e2]at h;rw[g7d];rcases h with⟨h1,h2,_⟩ | ⟨h1,h2,_⟩
 · exact .inl ⟨h1,by rw[h2];rfl⟩
 · exact .inr ⟨h1,by rw[h2];rfl⟩
end
end
section
open Go Go.Proofs.YthnmepafpikaiaaGreat.Shv
set_option maxRecDepth 100000
theorem g1e8 {ts : List SType} {t : SType} {v : SValue} (hl : v.Items.length = t.Members.length) (hr : t.Members.length < 9223372036854775807) (ih : ∀ x, x ∈ v.Items → Fit ts x) (plain : Bool) :
   (g3q (plain,t.Members,(t.Members.length:Int),0,ts,v.Kind,v.Bool_,v.Int_,v.Str,v.ID,v.Keys,v.Items,v.Rest)=some (.inr ())∧g1l (plain,0,ts,v,t.Kind,t.Name,t.Low,t.High,t.Max,t.Symbols,t.Members,t.Key,t.Elem,t.Open)=some (.inr ()))∨
   (g3q (plain,t.Members,(t.Members.length:Int),0,ts,v.Kind,v.Bool_,v.Int_,v.Str,v.ID,v.Keys,v.Items,v.Rest)=some (.inl false)∧g1l (plain,0,ts,v,t.Kind,t.Name,t.Low,t.High,t.Max,t.Symbols,t.Members,t.Key,t.Elem,t.Open)=some (.inl false)):=by
 let p:Nat→Bool:=fun i=>(g4h ((⟨ts⟩:SSchema),(t.Members.getD i dSMember).Type_,v.Items.getD i dSValue,plain)).getD false
 have hp:∀i,i < t.Members.length→g4h ((⟨ts⟩:SSchema),(t.Members.getD i dSMember).Type_,v.Items.getD i dSValue,plain)=some (p i)∧g2a ((⟨ts⟩:SSchema),(t.Members.getD i dSMember).Type_,v.Items.getD i dSValue,plain)=some (p i):=by
   intro i hi;obtain⟨r,h1,h2⟩:=ih _ (gt (by omega:i < v.Items.length) dSValue) (t.Members.getD i dSMember).Type_ plain;simp only[p,h1,h2,Option.getD_some,and_self]
 have h:=g10b (fun i=>g3q (plain,t.Members,(t.Members.length:Int),(i:Int),ts,v.Kind,v.Bool_,v.Int_,v.Str,v.ID,v.Keys,v.Items,v.Rest)) (fun i=>g1l (plain,(i:Int),ts,v,t.Kind,t.Name,t.Low,t.High,t.Max,t.Symbols,t.Members,t.Key,t.Elem,t.Open)) t.Members.length p () ()
   (fun i hi=>by
     rw[g3q,if_pos (by simp;omega),if_pos (g8 hi),if_pos (g8 (by omega))];simp only[g9,SValue.g14];rw[(hp i hi).1,gu (by omega)];cases p i <;> rfl)
   (by rw[g3q,if_neg (by simp)])
   (fun i hi=>by
     rw[g1l,if_pos (by simp;omega),if_pos (g8 hi),if_pos (g8 (by omega))];simp only[g9,SValue.g14];rw[(hp i hi).2,gu (by omega)];cases p i <;> rfl)
   (by rw[g1l,if_neg (by simp;omega)])
 have e1:g3q (plain,t.Members,(t.Members.length:Int),((0:Nat):Int),ts,v.Kind,v.Bool_,v.Int_,v.Str,v.ID,v.Keys,v.Items,v.Rest)=g3q (plain,t.Members,(t.Members.length:Int),0,ts,v.Kind,v.Bool_,v.Int_,v.Str,v.ID,v.Keys,v.Items,v.Rest):=rfl
 have e2:g1l (plain,((0:Nat):Int),ts,v,t.Kind,t.Name,t.Low,t.High,t.Max,t.Symbols,t.Members,t.Key,t.Elem,t.Open)=g1l (plain,0,ts,v,t.Kind,t.Name,t.Low,t.High,t.Max,t.Symbols,t.Members,t.Key,t.Elem,t.Open):=rfl;simp only[e1,e2]at h;rcases h with⟨h1,h2,_⟩ | ⟨h1,h2,_⟩
 · exact .inl ⟨h1,h2⟩
 · exact .inr ⟨h1,h2⟩
theorem gqu{v:SValue}(h:OkV v) :I64 v.Int_:=by cases h with | mk _ _ _ _ _ _ _ _ n1 n2=>exact n2
theorem g1g7 {ts : List SType} {t : SType} {v : SValue} (hr : v.Keys.length < 9223372036854775807) (hk : ∀ x, x ∈ v.Keys → OkV x) (plain : Bool) :
   let inr:=(plain,ts,v,t.Kind,t.Name,t.Low,t.High,t.Max,t.Symbols,t.Members,t.Key,t.Elem,t.Open)
   (g2o (plain,1,ts,v,t.Kind,t.Name,t.Low,t.High,t.Max,t.Symbols,t.Members,t.Key,t.Elem,t.Open)=some (.inr inr)∧g1g (1,v)=some (.inr ()))∨
   (g2o (plain,1,ts,v,t.Kind,t.Name,t.Low,t.High,t.Max,t.Symbols,t.Members,t.Key,t.Elem,t.Open)=some (.inl false)∧g1g (1,v)=some (.inl false)):=by
 intro inr;by_cases h0:v.Keys.length=0
 · left;refine⟨?_,?_⟩
   · rw[g2o,if_neg (by simp[h0]),SValue.g14]
   · rw[g1g,if_neg (by simp[h0])]
 let c:Nat→Int:=fun i=>(g8o (v.Keys.getD i dSValue,v.Keys.getD (i+1) dSValue)).getD 0
 have hc:∀i,i+1 < v.Keys.length→g8o (v.Keys.getD i dSValue,v.Keys.getD (i+1) dSValue)=some (c i)∧g3x (v.Keys.getD i dSValue,v.Keys.getD (i+1) dSValue)=some (c i):=by
   intro i hi;obtain⟨r,h1,h2⟩:=gsl (gqu (hk _ (gt (by omega:i < v.Keys.length) dSValue))) (gqu (hk _ (gt hi dSValue)));simp only[c,h1,h2,Option.getD_some,and_self]
 have h:=g10b (fun i=>g2o (plain,((i+1:Nat):Int),ts,v,t.Kind,t.Name,t.Low,t.High,t.Max,t.Symbols,t.Members,t.Key,t.Elem,t.Open)) (fun i=>g1g (((i+1:Nat):Int),v)) (v.Keys.length - 1) (fun i=>!(decide (0≤c i))) inr ()
   (fun i hi=>by
     have hs:=geg (i:=i+1) (by omega) (by omega);have hs':subI .i64 ((i+1:Nat):Int) 1=(i:Int):=by rw[hs];simp
     rw[g2o,if_pos (by simp;omega)];simp only[oZ4,oZ3];rw[hs',if_pos (g8 (by omega)),if_pos (g8 (by omega))];simp only[g9,SValue.g14];rw[(hc i (by omega)).1,gu (by omega)];simp only[oZ3];cases decide (0≤c i) <;> rfl)
   (by
     have e:v.Keys.length - 1+1=v.Keys.length:=by omega
     rw[e,g2o,if_neg (by simp),SValue.g14])
   (fun i hi=>by
     have hs:=geg (i:=i+1) (by omega) (by omega);have hs':subI .i64 ((i+1:Nat):Int) 1=(i:Int):=by rw[hs];simp
     rw[g1g,if_pos (by simp;omega)];simp only[oZ4,oZ3];rw[hs',if_pos (g8 (by omega)),if_pos (g8 (by omega))];simp only[g9,SValue.g14];rw[(hc i (by omega)).2,gu (by omega)];simp only[oZ3];cases decide (0≤c i) <;> rfl)
   (by
     have e:v.Keys.length - 1+1=v.Keys.length:=by omega
     rw[e,g1g,if_neg (by simp)])
 have e1:g2o (plain,((0+1:Nat):Int),ts,v,t.Kind,t.Name,t.Low,t.High,t.Max,t.Symbols,t.Members,t.Key,t.Elem,t.Open)=g2o (plain,1,ts,v,t.Kind,t.Name,t.Low,t.High,t.Max,t.Symbols,t.Members,t.Key,t.Elem,t.Open):=rfl;have e2:g1g (((0+1:Nat):Int),v)=g1g (1,v):=rfl;simp only[e1,e2]at h;rcases h with⟨h1,h2,_⟩ | ⟨h1,h2,_⟩
 · exact .inl ⟨h1,h2⟩
 · exact .inr ⟨h1,h2⟩
theorem g15k{α β:Type}{a:List α}{b:List β}(h:decide ((a.length:Int)=(b.length:Int))=true) :a.length=b.length:=by
 have:=of_decide_eq_true h;omega
theorem k4e {o : Option (Int × Bool)} {r : Int × Bool} (ho : o = some r) (O plain f : Bool) :
   (o >>=fun r_1=>some (bif O then(!plain)else false) >>=fun t85=>(if((!r_1.2) && t85)=true then some f else some false) >>=fun r_4=>some (bif r_1.2 then true else bif t85 then r_4 else false))=some (r.2 || (O && !plain && f)):=by
 subst ho;obtain⟨k,kn⟩:=r;cases kn <;> cases O <;> cases plain <;> cases f <;> rfl
theorem k4r {o : Option (Int × Bool)} {r : Int × Bool} (ho : o = some r) (O plain f : Bool) (F : Bool → Option Bool) (hF : F false = some f) :
   (o >>=fun r_1=>some (bif O then(!plain)else false) >>=fun t85=>(if((!r_1.2) && t85)=true then F r_1.2 else some false) >>=fun r_4=>some (bif r_1.2 then true else bif t85 then r_4 else false))=some (r.2 || (O && !plain && f)):=by
 subst ho;obtain⟨k,kn⟩:=r;cases kn <;> cases O <;> cases plain <;> simp[hF]
theorem k7{o:Option Bool}{r:Bool}(ho:o=some r)(q:Bool) :(some q >>=fun t244=>(if t244=true then o else some false) >>=fun r_10=>some (bif t244 then r_10 else false))=some (q && r):=by
 subst ho;cases q <;> cases r <;> rfl
theorem k6k(c I1 I2 f:Bool){X:Option Bool}(hX:c=true→X=some f)(h1:c=true→I1=true∧I2=true) :(some c >>=fun t188=>if(I1 || (!t188))=true then if(I2 || (!t188))=true then(if t188=true then X else some false) >>=fun r_8=>some (bif t188 then r_8 else false)else none else none)=some (c && f):=by
 cases c with
 | true=>obtain⟨a,b⟩:=h1 rfl;subst a;subst b;rw[hX rfl];rfl
 | false=>cases I1 <;> cases I2 <;> rfl
theorem k5r (A b q m : Bool) {ro : Option Bool} (hr : ro = some q) {L : Option (Bool ⊕ Unit)} (hL : A = true → L = some (if m = true then .inr () else .inl false)) :
   (if(bif (bif false then true else(!true))then true else b)=true then some false else some (!A) >>=fun t107=>(if(!t107)=true then ro else some false) >>=fun r_5=>if(bif t107 then true else(!r_5))=true then some false else L >>=fun o=>match o with | .inl x=>some x | .inr _=>some true)=some (A && !b && q && m):=by
 subst hr;cases A with
 | false=>cases b <;> rfl
 | true=>
   rw[hL rfl];cases b <;> cases q <;> cases m <;> rfl
theorem k6u(g f c1 c2 I E:Bool)(h1:c2=true→I=true) :(some g >>=fun t209=>(if t209=true then some f else some false) >>=fun r_9=>some (bif bif bif t209 then r_9 else false then c1 else false then c2 else false) >>=fun t226=>if(I || (!t226))=true then some (bif t226 then E else false)else none)=some (g && f && c1 && c2 && E):=by
 cases c2 with
 | true=>have:=h1 rfl;subst this;cases g <;> cases f <;> cases c1 <;> cases E <;> rfl
 | false=>cases g <;> cases f <;> cases c1 <;> cases I <;> rfl
theorem k8r (c : Bool) {ok oi : Option Bool} {k i : Bool} (hk : ok = some k) (hi : oi = some i) {L : Option (Bool ⊕ Unit)} {q : Bool} (hL : L = some (if q = true then .inr () else .inl false)) :
   (some c >>=fun t239=>(if(!t239)=true then ok else some false) >>=fun r_12=>some (bif t239 then true else(!r_12)) >>=fun t249=>(if(!t249)=true then oi else some false) >>=fun r_13=>if(bif t249 then true else(!r_13))=true then some false else L >>=fun o_3=>match o_3 with | .inl o_4=>some o_4 | .inr _=>some true)=some (!c && k && q && i):=by
 subst hk;subst hi;subst hL;cases c <;> cases k <;> cases q <;> cases i <;> rfl
theorem g17k{ts:List SType}(hn:ts.length < 9223372036854775807)(hT:∀t,t∈ts→OkT t)(hK:∀t,t∈ts→gmi t.Kind){v:SValue}(hv:OkV v) :Fit ts v:=by
 induction hv with
 | mk v hs h1 h2 h3 hk hi hrd n1 n2 n3 n4 ihk ihi=>
   intro t plain;rw[g4h,g2a];by_cases hout:(bif decide (t < 0)then true else decide (((⟨ts⟩:SSchema).Types.length:Int)≤t))=true
   · rw[if_pos hout,if_pos hout];exact⟨false,rfl,rfl⟩
   · rw[if_neg hout,if_neg hout];have hin:0≤t∧t < ts.length:=by
       simp only[Bool.cond_eq_ite]at hout;by_cases h0:t < 0
       · simp[h0]at hout
       · simp[h0]at hout;omega
     obtain⟨j,rfl⟩:∃j:Nat,t=(j:Int):=⟨t.toNat,by omega⟩
     have hj:j < ts.length:=by omega
     rw[if_pos (g8 hj),if_pos (g8 hj)];simp only[g9,SValue.g14];have hxT:=hT _ (gt hj dSType);have hxK:=hK _ (gt hj dSType);generalize ts.getD j dSType=x at hxT hxK ⊢;have hm:=g1i (g5r hxT.mems);have hsy:=g1i (g5r hxT.syms);by_cases hkd:v.Kind=x.Kind
     · obtain⟨p,p1,p2,p3⟩:=g1bk (v:=v) (by rw[hkd];exact hxK);rw[p1,p2];cases p with
       | false=>exact⟨false,by simp[hkd],by simp[hkd]⟩
       | true=>
         have hitems:=g17j (ts:=ts) h2 ihi;have hkeys:=g17j (ts:=ts) h1 ihk;obtain⟨K,N,L,H,M,S,Ms,Ke,E,O⟩:=x;obtain⟨vK,B,I,Sx,ID,Ks,Is,R⟩:=v;simp only at hkd;subst hkd;have p3':=p3 rfl;simp only at p3' hxK hm hsy h1 h2 h3;have hc:vK=1∨vK=2∨vK=3∨vK=4∨vK=5∨vK=6∨vK=7∨vK=8∨vK=9:=by unfold gmi at hxK;omega
         rcases hc with rfl | rfl | rfl | rfl | rfl | rfl | rfl | rfl | rfl
         · obtain rfl:R=[]:=p3' (by decide) (by decide);cases plain <;> exact⟨true,rfl,rfl⟩
         · obtain rfl:R=[]:=p3' (by decide) (by decide);cases plain <;> exact⟨_,rfl,rfl⟩
         · obtain rfl:R=[]:=p3' (by decide) (by decide);cases plain <;> exact⟨_,rfl,rfl⟩
         · obtain rfl:R=[]:=p3' (by decide) (by decide);obtain⟨r,r1,r2,_⟩:=gum (t:=⟨4,N,L,H,M,S,Ms,Ke,E,O⟩) ID hsy;have hf:g1p (ID,false)=some (bif decide (1≤ID)then decide (ID≤1000)else false):=by
             rw[g1p];cases decide (1≤ID) <;> rfl
           cases plain
           · exact⟨_,k4e r1 O false _,k4r r2 O false _ (fun b=>g1p (ID,b)) hf⟩
           · exact⟨_,k4e r1 O true _,k4r r2 O true _ (fun b=>g1p (ID,b)) hf⟩
         ·
           have hrs:=rests (t:=⟨5,N,L,H,M,S,Ms,Ke,E,O⟩) hm ⟨5,B,I,Sx,ID,Ks,Is,R⟩ h3 plain ts;have hps:decide ((Is.length:Int)=(Ms.length:Int))=true→_:=fun hA=>g1e8 (ts:=ts) (t:=⟨5,N,L,H,M,S,Ms,Ke,E,O⟩) (v:=⟨5,B,I,Sx,ID,Ks,Is,R⟩) (g15k hA) hm ihi plain
           have hq:∃q:Bool,g32 (plain,R,(R.length:Int),0,ts,⟨5,B,I,Sx,ID,Ks,Is,R⟩,5,N,L,H,M,S,Ms,Ke,E,O)=some (if q=true then .inr (plain,ts,5,B,I,Sx,ID,Ks,Is,R,5,N,L,H,M,S,Ms,Ke,E,O)else .inl false)∧g7d (⟨5,N,L,H,M,S,Ms,Ke,E,O⟩,R)=some q:=by
             rcases hrs with⟨a,b⟩ | ⟨a,b⟩
             · exact⟨true,a,b⟩
             · exact⟨false,a,b⟩
           obtain⟨q,q1,q2⟩:=hq;have hmm:∃m:Bool,decide ((Is.length:Int)=(Ms.length:Int))=true→(g3q (plain,Ms,(Ms.length:Int),0,ts,5,B,I,Sx,ID,Ks,Is,R)=some (if m=true then .inr ()else .inl false)∧g1l (plain,0,ts,⟨5,B,I,Sx,ID,Ks,Is,R⟩,5,N,L,H,M,S,Ms,Ke,E,O)=some (if m=true then .inr ()else .inl false)):=by
             cases hA:decide ((Is.length:Int)=(Ms.length:Int))with
             | false=>exact⟨true,fun h=>by cases h⟩
             | true=>
               rcases hps hA with⟨a,b⟩ | ⟨a,b⟩
               · exact⟨true,fun _=>⟨a,b⟩⟩
               · exact⟨false,fun _=>⟨a,b⟩⟩
           obtain⟨m,hm'⟩:=hmm;refine⟨(decide ((Is.length:Int)=(Ms.length:Int))) && !(bif plain then decide (0 < (R.length:Int))else false) && q && m,?_,?_⟩
           · show(if(bif (!(decide ((Is.length:Int)=(Ms.length:Int))))then true else bif plain then decide (0 < (R.length:Int))else false)=true then some false else g32 (plain,R,(R.length:Int),0,ts,⟨5,B,I,Sx,ID,Ks,Is,R⟩,5,N,L,H,M,S,Ms,Ke,E,O) >>=_)=_;rw[q1];cases hA:decide ((Is.length:Int)=(Ms.length:Int))with
             | false=>rfl
             | true=>
               cases (bif plain then decide (0 < (R.length:Int))else false)with
               | true=>rfl
               | false=>
                 cases q with
                 | false=>rfl
                 | true=>
                   show(g3q (plain,Ms,(Ms.length:Int),0,ts,5,B,I,Sx,ID,Ks,Is,R) >>=_)=_;rw[(hm' hA).1];cases m <;> rfl
           · exact k5r (decide ((Is.length:Int)=(Ms.length:Int))) (bif plain then decide (0 < (R.length:Int))else false) q m q2 (fun hA=>(hm' hA).2)
         ·
           obtain⟨r,r1,r2,hf⟩:=g73 (t:=⟨6,N,L,H,M,S,Ms,Ke,E,O⟩) ID hm;have hid:∀b,b=false→g1p (ID,b)=some (bif decide (1≤ID)then decide (ID≤1000)else false):=by
             intro b hb;subst hb;rw[g1p];cases decide (1≤ID) <;> rfl
           have hX:∃f:Bool,(bif decide ((Is.length:Int)=1)then decide ((R.length:Int)=0)else false)=true→(g4h ((⟨ts⟩:SSchema),(Ms.getD r.1.toNat dSMember).Type_,Is.getD (0:Int).toNat dSValue,plain)=some f∧g2a ((⟨ts⟩:SSchema),(Ms.getD r.1.toNat dSMember).Type_,Is.getD (0:Int).toNat dSValue,plain)=some f):=by
             by_cases h1':Is.length=1
             · obtain⟨f,f1,f2⟩:=ihi (Is.getD 0 dSValue) (gt (by omega:0 < Is.length) dSValue) (Ms.getD r.1.toNat dSMember).Type_ plain;exact⟨f,fun _=>⟨f1,f2⟩⟩
             · refine⟨false,fun h=>?_⟩
               exfalso
               have:decide ((Is.length:Int)=1)=false:=by simp;omega
               rw[this]at h;cases h
           obtain⟨f,hfX⟩:=hX;have hidx:r.2=true→(bif decide ((Is.length:Int)=1)then decide ((R.length:Int)=0)else false)=true→inR r.1 Ms.length=true∧inR 0 Is.length=true:=by
             intro h6 hc';constructor
             · rcases hf with⟨k,k1,_,_,rfl⟩ | ⟨_,rfl⟩
               · exact g8 k1
               · cases h6
             · by_cases h1':Is.length=1
               · exact g8 (k:=0) (by omega)
               · have:decide ((Is.length:Int)=1)=false:=by simp;omega
                 rw[this]at hc';cases hc'
           have hR0:decide ((R.length:Int)=1)=true→inR 0 R.length=true:=by
             intro h;have:=of_decide_eq_true h;exact g8 (k:=0) (by omega)
           obtain⟨ri,rk⟩:=r;refine⟨if rk=true then(bif decide ((Is.length:Int)=1)then decide ((R.length:Int)=0)else false) && f else(bif O then(!plain)else false) && (bif decide (1≤ID)then decide (ID≤1000)else false) && decide ((Is.length:Int)=0) && decide ((R.length:Int)=1) && decide ((R.getD (0:Int).toNat dSRaw).ID=ID),?_,?_⟩
           · show(g38 (⟨6,N,L,H,M,S,Ms,Ke,E,O⟩,ID) >>=_)=_;rw[r1];cases rk with
             | true=>exact k6k _ (inR ri Ms.length) (inR 0 Is.length) f (fun h=>(hfX h).1) (hidx rfl)
             | false=>exact k6u (bif O then(!plain)else false) (bif decide (1≤ID)then decide (ID≤1000)else false) (decide ((Is.length:Int)=0)) (decide ((R.length:Int)=1)) (inR 0 R.length) (decide ((R.getD (0:Int).toNat dSRaw).ID=ID)) hR0
           · show(if(bif (bif false then true else(!true))then true else(bif plain then decide (0 < (R.length:Int))else false))=true then some false else g20 (⟨6,N,L,H,M,S,Ms,Ke,E,O⟩,ID) >>=_)=_;rw[r2];cases hb0:(bif plain then decide (0 < (R.length:Int))else false)with
             | true=>
               have hpl:plain=true:=by
                 cases plain with
                 | true=>rfl
                 | false=>cases hb0
               subst hpl;have hRl:decide ((R.length:Int)=0)=false:=by
                 have:=of_decide_eq_true (show decide (0 < (R.length:Int))=true from hb0);simp;intro e;rw[e]at this;simp at this
               rw[hRl];cases rk with
               | true=>cases decide ((Is.length:Int)=1) <;> rfl
               | false=>cases O <;> rfl
             | false=>
               cases rk with
               | true=>exact k6k _ (inR ri Ms.length) (inR 0 Is.length) f (fun h=>(hfX h).2) (hidx rfl)
               | false=>exact k6u (bif O then(!plain)else false) (bif decide (1≤ID)then decide (ID≤1000)else false) (decide ((Is.length:Int)=0)) (decide ((R.length:Int)=1)) (inR 0 R.length) (decide ((R.getD (0:Int).toNat dSRaw).ID=ID)) hR0
         · obtain rfl:R=[]:=p3' (by decide) (by decide);obtain⟨r,r1,r2⟩:=hitems E plain;cases plain
           · exact⟨_,k7 r1 _,k7 r2 _⟩
           · exact⟨_,k7 r1 _,k7 r2 _⟩
         · obtain rfl:R=[]:=p3' (by decide) (by decide);obtain⟨k,k1,k2⟩:=hkeys Ke plain;obtain⟨i,i1,i2⟩:=hitems E plain;have hks:=g1g7 (ts:=ts) (t:=⟨8,N,L,H,M,S,Ms,Ke,E,O⟩) (v:=⟨8,B,I,Sx,ID,Ks,Is,[]⟩) (g1i h1) hk plain
           obtain⟨q,qa,qb⟩:∃q:Bool,g2o (plain,1,ts,⟨8,B,I,Sx,ID,Ks,Is,[]⟩,8,N,L,H,M,S,Ms,Ke,E,O)=some (if q=true then .inr (plain,ts,⟨8,B,I,Sx,ID,Ks,Is,[]⟩,8,N,L,H,M,S,Ms,Ke,E,O)else .inl false)∧g1g (1,⟨8,B,I,Sx,ID,Ks,Is,[]⟩)=some (if q=true then .inr ()else .inl false):=by
             rcases hks with⟨a,b⟩ | ⟨a,b⟩
             · exact⟨true,a,b⟩
             · exact⟨false,a,b⟩
           refine⟨!(bif decide (M < (Ks.length:Int))then true else(!(decide ((Is.length:Int)=(Ks.length:Int))))) && k && q && i,?_,?_⟩
           · show(some (bif decide (M < (Ks.length:Int))then true else(!(decide ((Is.length:Int)=(Ks.length:Int))))) >>=fun t270=>(if(!t270)=true then g8a ((⟨ts⟩:SSchema),Ke,Ks,plain)else some false) >>=fun r_11=>if(bif t270 then true else(!r_11))=true then some false else g2o (plain,1,ts,⟨8,B,I,Sx,ID,Ks,Is,[]⟩,8,N,L,H,M,S,Ms,Ke,E,O) >>=_)=_
             rw[k1,qa];cases (bif decide (M < (Ks.length:Int))then true else(!(decide ((Is.length:Int)=(Ks.length:Int)))))with
             | true=>rfl
             | false=>
               cases k with
               | false=>rfl
               | true=>
                 cases q with
                 | false=>rfl
                 | true=>
                   show(g8a ((⟨ts⟩:SSchema),E,Is,plain) >>=fun r_12=>some r_12)=_;rw[i1];cases i <;> rfl
           · cases plain
             · exact k8r (bif decide (M < (Ks.length:Int))then true else(!(decide ((Is.length:Int)=(Ks.length:Int))))) k2 i2 qb
             · exact k8r (bif decide (M < (Ks.length:Int))then true else(!(decide ((Is.length:Int)=(Ks.length:Int))))) k2 i2 qb
         · obtain rfl:R=[]:=p3' (by decide) (by decide);obtain⟨r,r1,r2⟩:=hitems E plain;cases plain
           · exact⟨_,k7 r1 _,k7 r2 _⟩
           · exact⟨_,k7 r1 _,k7 r2 _⟩
     · exact⟨false,by simp[hkd],by simp[hkd]⟩
end
section
open Go Go.Proofs.YthnmepafpikaiaaGreat.Shv
set_option maxRecDepth 100000
theorem g13h{U:Uni}{t:Ty}{l:List (t.den U.D)}(h:WF U ⟨.slice t,l⟩) :l.length≤reachBytes∧l.length*t.bytes U≤reachBytes∧∀x,x∈l→∀c,c∈t.row U x→WF U c:=by
 cases h with | slice t l h1 h2 h3=>exact⟨h1,h2,h3⟩
end
section
open Go Go.Proofs.YthnmepafpikaiaaGreat.Shv
set_option maxRecDepth 100000
theorem gqn(s:SSchema) :(⟨s.Types⟩:SSchema)=s:=by cases s;rfl
theorem g1e9 {s : SSchema} (hs : s.Types.length ≤ reachBytes) (hT : ∀ t, t ∈ s.Types → OkT t) {v : SValue} (hv : OkV v) (t : Int) :
   ∃e,g4z (s,t,v)=some e∧g8l (s,t,v)=some e∧
     (e=0→s.Types.length≤32∧(∀i,i < s.Types.length→stepV s.Types i=none)∧0≤t∧t < s.Types.length∧g4h (s,t,v,false)=some true):=by
 obtain⟨e,e1,e2,e3⟩:=g1e6 hs hT;rw[g4z,gb1,g8l];simp only[gqn,SValue.g14];rw[e1,e2];by_cases h0:e=0
 · subst h0;obtain⟨h32,hst⟩:=e3 rfl;by_cases hout:(bif decide (t < 0)then true else decide ((s.Types.length:Int)≤t))=true
   · refine⟨4,?_,?_,fun h=>by cases h⟩
     · show((if(bif decide (t < 0)then true else decide ((s.Types.length:Int)≤t))=true then some (4:Int)else some 0) >>=_)=_;rw[if_pos hout];rfl
     · show(if(bif decide (t < 0)then true else decide ((s.Types.length:Int)≤t))=true then some (4:Int)else _)=_;rw[if_pos hout]
   · have hk:=g1e7 hT hst;obtain⟨r,r1,r2⟩:=g17k (by omega) hT hk hv t false;rw[gqn]at r1 r2;have hin:0≤t∧t < s.Types.length:=by
       simp only[Bool.cond_eq_ite]at hout;by_cases h0:t < 0
       · simp[h0]at hout
       · simp[h0]at hout;omega
     refine⟨if(!r)=true then 1 else 0,?_,?_,?_⟩
     · show((if(bif decide (t < 0)then true else decide ((s.Types.length:Int)≤t))=true then some (4:Int)else some 0) >>=_)=_;rw[if_neg hout];show(gcc (s,t,v) >>=_)=_;rw[gcc];simp only[gqn,SValue.g14];rw[r1];cases r <;> rfl
     · show(if(bif decide (t < 0)then true else decide ((s.Types.length:Int)≤t))=true then some (4:Int)else _)=_;rw[if_neg hout];show(gkg (s,t,v) >>=_)=_;rw[gkg];simp only[SValue.g14];rw[r2];cases r <;> rfl
     · intro h;cases r with
       | false=>simp at h
       | true=>exact⟨h32,hst,hin.1,hin.2,r1⟩
 · have hd:(!(decide (e=0)))=true:=by simp[h0]
   refine⟨e,?_,?_,fun h=>absurd h h0⟩
   · show((if(!(decide (e=0)))=true then some e else _) >>=fun r=>if(!(decide (r=0)))=true then some r else _)=_;rw[if_pos hd];show(if(!(decide (e=0)))=true then some e else _)=_;rw[if_pos hd]
   · show(if(!(decide (e=0)))=true then some e else _)=_;rw[if_pos hd]
end
section
open Go Go.Proofs.YthnmepafpikaiaaGreat.Shv
set_option maxRecDepth 100000
def vbig(n:Nat) :List UInt8:=if n=0 then[]else vbig (n / 256)++[UInt8.ofNat (n % 256)]
termination_by n
decreasing_by omega
theorem g1a9{α:Type} :∀(l:List α) (k:Nat) (x:α),k < l.length→(l.set k x).drop k=x::l.drop (k+1)
 | [],k,x,h=>by simp at h
 | a::l,0,x,h=>by simp
 | a::l,k+1,x,h=>by simp[g1a9 l k x (by simpa using h)]
theorem shrI8(n:Nat) :shrI .u64 (n:Int) 8=((n / 256:Nat):Int):=by
 unfold shrI;have:((2:Int) ^ min (8:Int).toNat IntKind.u64.bits)=256:=by decide
 rw[this,Int.fdiv_eq_ediv_of_nonneg _ (by omega)];omega
theorem g1g8 :∀(i n:Nat) (b:List Int),n < 256 ^ i→i≤8→b.length=8→∃(i':Nat) (b':List Int),g6c ((n:Int),(i:Int),b)=some ((i':Int),b')∧i'≤8∧b'.length=8∧strOf (b'.drop i')=vbig n++strOf (b.drop i)
 | i,n,b,hn,hi,hb=>by
   rw[g6c];by_cases h0:n=0
   · subst h0;rw[if_neg (by simp)];refine⟨i,b,rfl,hi,hb,?_⟩;rw[vbig,if_pos rfl];rfl
   · rw[if_pos (by simp;omega)]
     match i,hn,hi with
     | 0,hn,hi=>simp at hn;omega
     | i+1,hn,hi=>
       have hs:subI .i64 ((i+1:Nat):Int) 1=(i:Int):=by rw[gj4 (by omega) (by omega)];omega
       simp only[oZ4,oZ3];rw[hs,if_pos (g8 (by omega)),if_pos (by simp[hb];omega),shrI8,wrp8,g9];have hlt:n / 256 < 256 ^ i:=by
         rw[Nat.div_lt_iff_lt_mul (by omega)];rw[Nat.pow_succ]at hn;exact hn
       obtain⟨i',b',h1,h2,h3,h4⟩:=g1g8 i (n / 256) (b.set i ((n % 256:Nat):Int)) hlt (by omega) (by simp[hb]);refine⟨i',b',h1,h2,h3,?_⟩;rw[h4,g1a9 _ _ _ (by omega),g1e0]
       conv=>rhs;rw[vbig,if_neg h0]
       rw[List.append_assoc];rfl
theorem g1g9{n:Nat}(hn:n < 18446744073709551616) :gif (n:Int)=some (vbig n):=by
 have e:(256:Nat) ^ 8=18446744073709551616:=by decide
 obtain⟨i',b',h1,h2,h3,h4⟩:=g1g8 8 n [0,0,0,0,0,0,0,0] (by rw[e];exact hn) (by omega) rfl;have h1':g6c ((n:Int),8,[0,0,0,0,0,0,0,0])=some ((i':Int),b'):=h1;rw[gif,h1'];simp only[oZ4,oZ3,g9];have hsl:slR (i':Int) 8 8=true:=gc0 (b:=8) (by omega) (by omega);have h8:(8:Int).toNat=8:=rfl
 rw[if_pos hsl,h8,if_pos (by simp[subR,h3];omega)];rw[List.take_of_length_le (by simp[h3]),h4];simp[strOf]
theorem g13i :∀(f n:Nat),n < 256 ^ f→(vbig n).length≤f
 | 0,n,h=>by
   have:n=0:=by simpa using h
   subst this;rw[vbig,if_pos rfl];simp
 | f+1,n,h=>by
   rw[vbig];split
   · simp
   · have:=g13i f (n / 256) (by
       rw[Nat.div_lt_iff_lt_mul (by omega)];rw[Nat.pow_succ]at h;exact h)
     simp;omega
theorem g17l :∀(f n:Nat) (out:List UInt8),n < 256 ^ f→n < 18446744073709551616→out.length+f≤1000→gch ((n:Int),out)=some (vbig n++out)
 | f,n,out,hn,h64,ho=>by
   rw[gch];by_cases h0:n=0
   · subst h0;rw[if_neg (by simp),vbig,if_pos rfl];rfl
   · rw[if_pos (by simp;omega)]
     match f,hn,ho with
     | 0,hn,ho=>simp at hn;omega
     | f+1,hn,ho=>
       have hrem:remI (n:Int) 256=((n % 256:Nat):Int):=remIn (b:=256);have hq:quoI .u64 (n:Int) 256=((n / 256:Nat):Int):=by
         unfold quoI;have e:(n:Int).tdiv 256=((n / 256:Nat):Int):=by rw[Int.tdiv_eq_ediv_of_nonneg (by omega)];omega
         rw[e];exact wrapu (by omega) (by omega)
       have hone:strOf [((n % 256 % 256:Nat):Int)]=[UInt8.ofNat (n % 256)]:=by
         have:n % 256 % 256=n % 256:=by omega
         rw[this];rfl
       simp only[oZ4,oZ3];rw[hrem,hq,wrp8,hone,if_pos (g3c (by simp;omega))];have hlt:n / 256 < 256 ^ f:=by
         rw[Nat.div_lt_iff_lt_mul (by omega)];rw[Nat.pow_succ]at hn;exact hn
       rw[g17l f (n / 256) _ hlt (by omega) (by simp;omega)]
       conv=>rhs;rw[vbig,if_neg h0]
       rw[List.append_assoc]
theorem g17m{n:Nat}(hn:n < 18446744073709551616) :ggq (n:Int)=some (vbig n):=by
 have e:(256:Nat) ^ 8=18446744073709551616:=by decide
 rw[ggq,g17l 8 n [] (by rw[e];exact hn) hn (by simp)];simp
end
section
open Go Go.Proofs.YthnmepafpikaiaaGreat.Shv Go.Sort
set_option maxRecDepth 100000
section
variable {α:Type}
theorem g1aa{β γ:Type}{f g:β→List γ} :∀{l:List β},(∀x,x∈l→f x=g x)→l.flatMap f=l.flatMap g
 | [],_=>rfl
 | x::l,h=>by
   simp only[List.flatMap_cons];rw[h x (.head _),g1aa fun y hy=>h y (.tail _ hy)]
theorem g15l(x:α)(n:Nat)(f:Nat→List α) :∀(ks:List Nat),ks.Nodup→n∈ks→(ks.flatMap fun i=>if n=i then x::f i else f i).Perm (x::ks.flatMap f)
 | [],_,h=>by cases h
 | k::ks,hn,h=>by
   rw[List.nodup_cons]at hn;simp only[List.flatMap_cons];by_cases e:n=k
   · rw[if_pos e];have:(ks.flatMap fun i=>if n=i then x::f i else f i)=ks.flatMap f:=g1aa fun y hy=>by
       rw[if_neg];rintro rfl;subst e;exact hn.1 hy
     rw[this];exact .refl _
   · rw[if_neg e];have hm:n∈ks:=(List.mem_cons.1 h).resolve_left e;refine((g15l x n f ks hn.2 hm).append_left (f k)).trans ?_;exact List.perm_middle
theorem g15m(key:α→Nat)(ks:List Nat)(hn:ks.Nodup) :∀l:List α,(∀x,x∈l→key x∈ks)→(ks.flatMap fun i=>l.filter fun x=>decide (key x=i)).Perm l
 | [],_=>by simp
 | x::l,h=>by
   have e:(fun i=>(x::l).filter fun y=>decide (key y=i))=fun i=>if key x=i then x::(l.filter fun y=>decide (key y=i))else l.filter fun y=>decide (key y=i):=by
     funext i
     by_cases e:key x=i <;> simp[e]
   rw[e];exact(g15l x (key x) _ ks hn (h x (.head _))).trans ((g15m key ks hn l fun y hy=>h y (.tail _ hy)).cons x)
theorem g1ab(key:α→Nat)(a n:Nat)(l:List α) :((List.range' a n).flatMap fun i=>l.filter fun x=>decide (key x=i)).Pairwise (fun x y=>decide (key y < key x)=false):=by
 rw[List.pairwise_flatMap];constructor
 · intro i hi;rw[List.pairwise_iff_forall_sublist];intro x y hs;have hx:=hs.subset (.head _);have hy:=hs.subset (.tail _ (.head _));simp at hx hy ⊢;omega
 · refine(List.pairwise_lt_range' (s:=a) (n:=n)).imp ?_;intro i j hij x hx y hy;simp at hx hy ⊢;omega
theorem g1ac{α β:Type}[Inhabited α][Inhabited β]{lt:α→α→Bool}{lt':β→β→Bool}(g:α→β)(h:∀a b,lt' (g a) (g b)=lt a b) :∀l,isoB lt' (l.map g)=(isoB lt l).map g
 | []=>rfl
 | x::l=>by
   have key:∀r,insB lt' (g x) (r.map g)=(insB lt x r).map g:=by
     intro r
     induction r with
     | nil=>rfl
     | cons y r ih=>
       simp only[insB,List.map];rw[h];split
       · rfl
       · simp[ih]
   simp only[isoB,List.map];rw[g1ac g h l,key]
theorem g17n{α:Type}[Inhabited α]{lt:α→α→Bool} :∀{l:List α},l.Pairwise (fun x y=>lt x y=true∨lt y x=true)→gb8 lt l=true
 | [],_=>rfl
 | x::l,h=>by
   rw[List.pairwise_cons]at h;simp only[gb8,Bool.and_eq_true,List.all_eq_true,Bool.or_eq_true];exact⟨h.1,g17n h.2⟩
end
mutual
def wt :SValue→Nat
 | ⟨_,_,_,s,_,ks,is,r⟩=>10+s.length+(r.map fun x=>x.Data.length+1).sum+wts ks+wts is
def wts :List SValue→Nat
 | []=>0
 | v::l=>wt v+wts l
end
structure Fd where
 id:Nat
 c:Bool
 p:List UInt8
instance:Inhabited Fd:=⟨⟨0,false,[]⟩⟩
def ltF(a b:Fd) :Bool:=decide (a.id < b.id)
def Fd.text(f:Fd) :List UInt8:=g6b f.id f.c f.p
def ilv :List (List UInt8)→List (List UInt8)→List UInt8
 | k::ks,v::vs=>g2z k++(g2z v++ilv ks vs)
 | _,_=>[]
def findM(l:List SMember)(id:Int) :Option SMember:=l.find? fun m=>decide (m.ID=id)
open Classical in
noncomputable def om (m:SMember) (v:SValue):Bool:=m.HasDefault && decide (m.Default=v)
def rawF(r:SRaw) :Fd:=⟨r.ID.toNat,false,r.Data⟩
mutual
noncomputable def vpay (ts:List SType) (t:Int):SValue→List UInt8
 | ⟨_,b,i,s,id,ks,is,r⟩=>
   let x:=ts.getD t.toNat dSType
   if x.Kind=1 then(if b=true then[1]else[])
   else if x.Kind=2 then vbig (zig i).toNat
   else if x.Kind=3 then s
   else if x.Kind=4 then vbig id.toNat
   else if x.Kind=5 then(isoB ltF (vents ts x.Members is++r.map rawF)).flatMap Fd.text
   else if x.Kind=6 then vput id.toNat++(match findM x.Members id with
     | some m=>(vpays ts m.Type_ is).headD []
     | none=>(r.map SRaw.Data).headD [])
   else if x.Kind=7 then(vpays ts x.Elem is).flatMap g2z
   else if x.Kind=8 then ilv (vpays ts x.Key ks) (vpays ts x.Elem is)
   else match vpays ts x.Elem is with
     | []=>[]
     | p::_=>1::p
noncomputable def vpays (ts:List SType) (t:Int):List SValue→List (List UInt8)
 | []=>[]
 | v::l=>vpay ts t v::vpays ts t l
noncomputable def vents (ts:List SType):List SMember→List SValue→List Fd
 | m::ms,v::l=>if om m v=true then vents ts ms l else⟨m.ID.toNat,m.Critical,vpay ts m.Type_ v⟩::vents ts ms l
 | _,_=>[]
end
mutual
noncomputable def vlev (ts:List SType) (t:Int):SValue→Nat
 | ⟨_,_,_,_,id,ks,is,_⟩=>
   let x:=ts.getD t.toNat dSType
   1+max (if ks=[]then 0 else 1) (if x.Kind=5 then vlevm ts x.Members is
     else if x.Kind=6 then(match findM x.Members id with
       | some m=>vlevs ts m.Type_ is
       | none=>0)
     else vlevs ts x.Elem is)
noncomputable def vlevs (ts:List SType) (t:Int):List SValue→Nat
 | []=>0
 | v::l=>max (vlev ts t v) (vlevs ts t l)
noncomputable def vlevm (ts:List SType):List SMember→List SValue→Nat
 | m::ms,v::l=>if om m v=true then vlevm ts ms l else max (vlev ts m.Type_ v) (vlevm ts ms l)
 | _,_=>0
end
def I1000(n:Int) :Prop:=1≤n∧n≤1000
def gi2(ms:List SMember)(r:List SRaw) :Prop:=r.Pairwise (fun a b=>a.ID < b.ID)∧∀x,x∈r→I1000 x.ID∧findM ms x.ID=none
def vcmp(a b:SValue) :Int:=(g8o (a,b)).getD 0
def ga2(ks:List SValue) :Prop:=∀i,i+1 < ks.length→vcmp (ks.getD i dSValue) (ks.getD (i+1) dSValue) < 0
mutual
def vfit(ts:List SType)(pl:Bool)(t:Int) :SValue→Prop
 | ⟨k,b,i,s,id,ks,is,r⟩=>
   let x:=ts.getD t.toNat dSType
   (0≤t∧t < ts.length∧k=x.Kind∧(pl=true→r=[]))∧
   (k=1∧i=0∧s=[]∧id=0∧ks=[]∧is=[]∧r=[]∨
   k=2∧b=false∧s=[]∧id=0∧ks=[]∧is=[]∧r=[]∧x.Low≤i∧i≤x.High∨
   k=3∧b=false∧i=0∧id=0∧ks=[]∧is=[]∧r=[]∧(s.length:Int)≤x.Max∨
   k=4∧b=false∧i=0∧s=[]∧ks=[]∧is=[]∧r=[]∧((∃y,y∈x.Symbols∧y.ID=id)∨x.Open=true∧pl=false∧I1000 id)∨
   k=5∧b=false∧i=0∧s=[]∧id=0∧ks=[]∧gi2 x.Members r∧vfitm ts pl x.Members is∨
   k=6∧b=false∧i=0∧s=[]∧ks=[]∧(match findM x.Members id with
     | some m=>r=[]∧is.length=1∧vfits ts pl m.Type_ is
     | none=>x.Open=true∧pl=false∧I1000 id∧is=[]∧∃d,r=[⟨id,d⟩])∨
   k=7∧b=false∧i=0∧s=[]∧id=0∧ks=[]∧r=[]∧(is.length:Int)≤x.Max∧vfits ts pl x.Elem is∨
   k=8∧b=false∧i=0∧s=[]∧id=0∧r=[]∧(ks.length:Int)≤x.Max∧is.length=ks.length∧vfits ts pl x.Key ks∧vfits ts pl x.Elem is∧ga2 ks∨
   k=9∧b=false∧i=0∧s=[]∧id=0∧ks=[]∧r=[]∧is.length≤1∧vfits ts pl x.Elem is)
def vfits(ts:List SType)(pl:Bool)(t:Int) :List SValue→Prop
 | []=>True
 | v::l=>vfit ts pl t v∧vfits ts pl t l
def vfitm(ts:List SType)(pl:Bool) :List SMember→List SValue→Prop
 | m::ms,v::l=>vfit ts pl m.Type_ v∧vfitm ts pl ms l
 | [],[]=>True
 | _,_=>False
end
theorem wt_eq(v:SValue) :wt v=10+v.Str.length+(v.Rest.map fun x=>x.Data.length+1).sum+wts v.Keys+wts v.Items:=by
 cases v;rw[wt]
theorem gbk(v:SValue)(l:List SValue) :wts (v::l)=wt v+wts l:=by rw[wts]
theorem g9g :wts []=0:=by rw[wts]
theorem g6i :∀{l:List SValue} {x:SValue},x∈l→wt x≤wts l
 | y::l,x,h=>by
   rw[gbk];rcases List.mem_cons.1 h with rfl | h
   · omega
   · have:=g6i h;omega
theorem g15n{p:List UInt8}(h:p.length < 1152921504606846976) :(g2z p).length≤p.length+10:=by
 have:=g5w (n:=p.length) (by omega);unfold g2z;simp;omega
theorem g1ad{f:Fd}(h:f.p.length < 1152921504606846976)(hi:f.id≤9223372036854775807) :f.text.length≤f.p.length+20:=by
 have:=g15n h;have:=g5w (n:=2*f.id+(if f.c then 1 else 0)) (by split <;> omega);unfold Fd.text g6b;simp only[List.length_append];omega
theorem g18i{α β:Type}{f:α→List β}{a b:List α}(h:a.Perm b) :(a.flatMap f).length=(b.flatMap f).length:=(h.flatMap_right f).length_eq
theorem g1ae{n:Int}(h:I64 n) :(zig n).toNat < 18446744073709551616:=by
 unfold zig I64 at*;split <;> omega
section
variable {ts:List SType}
def LenOk(ts:List SType)(v:SValue) :Prop:=∀t,(vpay ts t v).length+20≤21*wt v
theorem g10c :∀{l:List SValue} {t:Int},wts l≤1099511627776→(∀x,x∈l→LenOk ts x)→((vpays ts t l).flatMap g2z).length≤21*wts l
 | [],t,_,_=>by rw[vpays];simp
 | v::l,t,hw,h=>by
   rw[vpays,List.flatMap_cons,List.length_append];rw[gbk]at hw ⊢;have h1:=h v (.head _) t;have h2:=g10c (t:=t) (by omega) fun x hx=>h x (.tail _ hx)
   have h3:=g15n (p:=vpay ts t v) (by omega);omega
theorem gmj :∀{l:List SValue} {t:Int},(vpays ts t l).length=l.length
 | [],t=>by rw[vpays];rfl
 | v::l,t=>by rw[vpays,List.length_cons,List.length_cons,gmj]
theorem g17o :∀{l:List SValue} {t:Int},vpays ts t l=l.map (vpay ts t)
 | [],t=>by rw[vpays];rfl
 | v::l,t=>by rw[vpays,List.map,g17o]
theorem g1c8 :∀(a b:List (List UInt8)),(ilv a b).length≤(a.flatMap g2z).length+(b.flatMap g2z).length
 | [],b=>by simp[ilv]
 | k::ks,[]=>by simp[ilv]
 | k::ks,v::vs=>by
   have:=g1c8 ks vs;simp only[ilv,List.flatMap_cons,List.length_append];omega
theorem g17p :∀{ms:List SMember} {l:List SValue},wts l≤1099511627776→(∀m,m∈ms→m.ID≤1000)→(∀x,x∈l→LenOk ts x)→((vents ts ms l).flatMap Fd.text).length≤21*wts l
 | [],l,_,_,_=>by rw[vents] <;> simp
 | m::ms,[],_,_,_=>by rw[vents] <;> simp
 | m::ms,v::l,hw,hm,h=>by
   rw[gbk]at hw ⊢;rw[vents];have h1:=h v (.head _) m.Type_;have h2:=g17p (ms:=ms) (l:=l) (by omega) (fun x hx=>hm x (.tail _ hx)) fun x hx=>h x (.tail _ hx)
   have h4:=hm m (.head _);split
   · omega
   · rw[List.flatMap_cons,List.length_append];have h3:=g1ad (f:=⟨m.ID.toNat,m.Critical,vpay ts m.Type_ v⟩) (by show(vpay ts m.Type_ v).length < _;omega) (by show m.ID.toNat≤_;omega);have h3':(Fd.text ⟨m.ID.toNat,m.Critical,vpay ts m.Type_ v⟩).length≤(vpay ts m.Type_ v).length+20:=h3;omega
theorem g1af :∀{l:List SRaw},(∀x,x∈l→x.Data.length≤reachBytes∧x.ID≤9223372036854775807)→True→((l.map rawF).flatMap Fd.text).length≤21*(l.map fun x=>x.Data.length+1).sum
 | [],_,_=>by simp
 | r::l,h,_=>by
   have h1:=h r (.head _);have h2:=g1af (l:=l) (fun x hx=>h x (.tail _ hx)) trivial;unfold reachBytes at h1;have h3:=g1ad (f:=rawF r) (by show r.Data.length < _;omega) (by show r.ID.toNat≤_;omega);have h3':(rawF r).text.length≤r.Data.length+20:=h3;simp only[List.map_cons,List.flatMap_cons,List.length_append,List.sum_cons];omega
def MOk(ts:List SType) :Prop:=∀x,x∈ts→∀m,m∈x.Members→m.ID≤1000
theorem g1bl{α:Type}(l:List α)(i:Nat)(d:α) :l.getD i d∈l∨l.getD i d=d:=by
 by_cases h:i < l.length
 · left;rw[List.getD_eq_getElem?_getD,List.getElem?_eq_getElem h];exact List.getElem_mem h
 · right;rw[List.getD_eq_getElem?_getD,List.getElem?_eq_none (by omega)];rfl
theorem g17q{l:List (List UInt8)}{n:Nat}(h:∀x,x∈l→x.length≤n) :(l.headD []).length≤n:=by
 cases l with
 | nil=>simp
 | cons x l=>exact h x (.head _)
theorem g1c9 :∀{l:List Nat} {n:Nat},n∈l→n≤l.sum
 | a::l,n,h=>by
   rw[List.sum_cons];rcases List.mem_cons.1 h with rfl | h
   · omega
   · have:=g1c9 h;omega
theorem g1j5(hM:MOk ts){v:SValue}(h:OkV v) :wt v≤1099511627776→LenOk ts v:=by
 induction h with
 | mk v hs h1 h2 h3 hk hi hr n1 n2 n3 n4 ihk ihi=>
   intro hw t;have hwt:=wt_eq v;have LK:∀x,x∈v.Keys→LenOk ts x:=fun x hx=>ihk x hx (by have:=g6i hx;omega)
   have LI:∀x,x∈v.Items→LenOk ts x:=fun x hx=>ihi x hx (by have:=g6i hx;omega)
   have PK:=fun t=>g10c (t:=t) (l:=v.Keys) (by omega) LK
   have PI:=fun t=>g10c (t:=t) (l:=v.Items) (by omega) LI
   have hx:∀m,m∈(ts.getD t.toNat dSType).Members→m.ID≤1000:=by
     rcases g1bl ts t.toNat dSType with h | h
     · exact hM _ h
     · rw[h];intro m hm;cases hm
   have QI:∀t,((vpays ts t v.Items).headD []).length+20≤21*wts v.Items+20:=fun t=>by
     have:((vpays ts t v.Items).headD []).length≤21*wts v.Items:=g17q fun p hp=>by
       rw[g17o]at hp;obtain⟨x,hx,rfl⟩:=List.mem_map.1 hp;have:=LI x hx t;have:=g6i hx;omega
     omega
   have RI:((v.Rest.map rawF).flatMap Fd.text).length≤21*(v.Rest.map fun x=>x.Data.length+1).sum:=g1af (fun x hx=>⟨hr x hx,(n4 x hx).2⟩) trivial;have EI:=g17p (ts:=ts) (ms:=(ts.getD t.toNat dSType).Members) (l:=v.Items) (by omega) hx LI;have DI:((v.Rest.map SRaw.Data).headD []).length≤(v.Rest.map fun x=>x.Data.length+1).sum:=g17q fun p hp=>by
     obtain⟨x,hx,rfl⟩:=List.mem_map.1 hp;have:x.Data.length+1≤(v.Rest.map fun x=>x.Data.length+1).sum:=g1c9 (List.mem_map.2 ⟨x,hx,rfl⟩);omega
   obtain⟨K,b,i,s,id,ks,is,r⟩:=v;simp only at*;rw[vpay];have hz:=g13i 8 _ (g1ae n2);have hid:id.toNat < 18446744073709551616:=by omega
   have hb:=g13i 8 _ hid;have hp:=g5w hid;generalize ts.getD t.toNat dSType=x at*;split
   · split
     · simp;omega
     · simp;omega
   · split
     · omega
     · split
       · omega
       · split
         · omega
         · split
           · rw[g18i (gh7 _ _),List.flatMap_append,List.length_append];omega
           · split
             · rw[List.length_append];split
               · rename_i m _;have:=QI m.Type_;omega
               · omega
             · split
               · have:=PI x.Elem;omega
               · split
                 · have:=g1c8 (vpays ts x.Key ks) (vpays ts x.Elem is);have:=PK x.Key;have:=PI x.Elem;omega
                 · have:=QI x.Elem;split
                   · simp;omega
                   · rename_i p l e;rw[e]at this;simp only[List.headD_cons]at this;simp only[List.length_cons];omega
end
section
variable (ts:List SType)
mutual
theorem vlev_le :∀(v:SValue) (t:Int),vlev ts t v≤wt v
 | ⟨_,_,_,_,id,ks,is,_⟩,t=>by
   rw[vlev,wt];have h1:=vlevs_le is;have h2:=vlevm_le is;have h0:(if ks=[]then 0 else 1)≤1:=by split <;> omega
   generalize (if ks=[]then 0 else 1)=q at h0 ⊢;have h3:=h2 (ts.getD t.toNat dSType).Members;have h4:=h1 (ts.getD t.toNat dSType).Elem;split
   · omega
   · split
     · split
       · rename_i m _;have:=h1 m.Type_;omega
       · omega
     · omega
theorem vlevs_le :∀(l:List SValue) (t:Int),vlevs ts t l≤wts l
 | [],t=>by rw[vlevs];omega
 | v::l,t=>by
   rw[vlevs,wts];have:=vlev_le v t;have:=vlevs_le l t;omega
theorem vlevm_le :∀(l:List SValue) (ms:List SMember),vlevm ts ms l≤wts l
 | [], ms => by rw [vlevm]; · omega
                · intros;simp_all
 | v :: l, [] => by rw [vlevm]; · omega
                    · intros;simp_all
 | v::l,m::ms=>by
   rw[vlevm,wts];have:=vlev_le v m.Type_;have:=vlevm_le l ms;split <;> omega
end
end
section
variable {ts:List SType}
theorem gkx :∀{ms:List SMember} {l:List SValue} {x:Fd},x∈vents ts ms l→∃m,m∈ms∧x.id=m.ID.toNat
 | [],l,x,h=>by
   rw[vents]at h
   · cases h
   · intros;simp_all
 | m::ms,[],x,h=>by
   rw[vents]at h
   · cases h
   · intros;simp_all
 | m::ms,v::l,x,h=>by
   rw[vents]at h;split at h
   · obtain⟨m',h1,h2⟩:=gkx h;exact⟨m',.tail _ h1,h2⟩
   · rcases List.mem_cons.1 h with rfl | h
     · exact⟨m,.head _,rfl⟩
     · obtain⟨m',h1,h2⟩:=gkx h;exact⟨m',.tail _ h1,h2⟩
theorem g15o{ms:List SMember}{l:List SValue}{n:Nat}(h:∀m,m∈ms→m.ID.toNat≠n) :((vents ts ms l).filter fun x=>decide (x.id=n))=[]:=by
 rw[List.filter_eq_nil_iff];intro x hx;obtain⟨m,h1,h2⟩:=gkx hx;have:=h m h1;simp;omega
theorem g128 : ∀ {ms : List SMember} {l : List SValue} {n j : Nat}, ms.Pairwise (fun a b => a.ID.toNat ≠ b.ID.toNat) → l.length = ms.length → j < ms.length → (ms.getD j dSMember).ID.toNat = n →
   ((vents ts ms l).filter fun x=>decide (x.id=n))=if om (ms.getD j dSMember) (l.getD j dSValue)=true then[]else[⟨n,(ms.getD j dSMember).Critical,vpay ts (ms.getD j dSMember).Type_ (l.getD j dSValue)⟩]
 | [],l,n,j,_,_,hj,_=>by cases hj
 | m::ms,[],n,j,_,hl,_,_=>by cases hl
 | m::ms,v::l,n,0,hd,hl,hj,he=>by
   rw[List.pairwise_cons]at hd;simp only[List.getD_cons_zero]at he ⊢;have hn:=g15o (ts:=ts) (l:=l) (ms:=ms) (n:=n) fun x hx=>by have:=hd.1 x hx;omega
   rw[vents];split
   · exact hn
   · rw[List.filter_cons,if_pos (by simp[he]),hn,he]
 | m::ms,v::l,n,j+1,hd,hl,hj,he=>by
   rw[List.pairwise_cons]at hd;simp only[List.getD_cons_succ]at he ⊢;have hj':j < ms.length:=by simpa using hj
   have hm:ms.getD j dSMember∈ms:=by
     rw[List.getD_eq_getElem?_getD,List.getElem?_eq_getElem hj'];exact List.getElem_mem hj'
   have hne:=hd.1 _ hm;have ih:=g128 (l:=l) hd.2 (by simpa using hl) hj' he;rw[vents];split
   · exact ih
   · rw[List.filter_cons,if_neg (by simp;omega)];exact ih
theorem g1bm(l:List SRaw)(n:Nat)(h:∀x,x∈l→0≤x.ID) :((l.map rawF).filter fun x=>decide (x.id=n))=(l.filter fun x=>decide (x.ID=(n:Int))).map rawF:=by
 rw[List.filter_map]
 congr 1
 apply List.filter_congr;intro x hx;have:=h x hx;show decide (x.ID.toNat=n)=_;by_cases e:x.ID=n
 · simp[e]
 · have:¬x.ID.toNat=n:=by omega
   simp[e,this]
noncomputable def g74 (ts:List SType) (ms:List SMember) (l:List SValue) (r:List SRaw):List Fd:=vents ts ms l++r.map rawF
def MAsc(ms:List SMember) :Prop:=ms.Pairwise (fun a b=>a.ID < b.ID)∧∀m,m∈ms→I1000 m.ID
theorem g1ca{ms:List SMember}(h:MAsc ms) :ms.Pairwise (fun a b=>a.ID.toNat≠b.ID.toNat):=by
 refine h.1.imp_of_mem fun {a b} ha hb hlt=>?_
 have:=h.2 a ha;have:=h.2 b hb;unfold I1000 at*;omega
theorem g10d :∀{ms:List SMember} {l:List SValue},ms.Pairwise (fun a b=>a.ID.toNat≠b.ID.toNat)→(vents ts ms l).Pairwise (fun a b=>a.id≠b.id)
 | [],l,_=>by
   rw[vents]
   · exact .nil
   · intros;simp_all
 | m::ms,[],_=>by
   rw[vents]
   · exact .nil
   · intros;simp_all
 | m::ms,v::l,h=>by
   rw[List.pairwise_cons]at h;rw[vents];split
   · exact g10d h.2
   · rw[List.pairwise_cons];refine⟨fun x hx=>?_,g10d h.2⟩;obtain⟨m',h1,h2⟩:=gkx hx;rw[h2];exact h.1 m' h1
theorem gxe{ms:List SMember}{id:Int}(h:findM ms id=none) :∀m,m∈ms→m.ID≠id:=by
 unfold findM at h;rw[List.find?_eq_none]at h;intro m hm;simpa using h m hm
theorem gjr{ms:List SMember}{l:List SValue}{r:List SRaw}(h:MAsc ms)(hr:gi2 ms r) :gb8 ltF (g74 ts ms l r)=true:=by
 apply g17n;have key:(g74 ts ms l r).Pairwise (fun a b=>a.id≠b.id):=by
   unfold g74;rw[List.pairwise_append];refine⟨g10d (g1ca h),?_,?_⟩
   · rw[List.pairwise_map];refine hr.1.imp_of_mem fun {a b} ha hb hlt=>?_
     have:=(hr.2 a ha).1;have:=(hr.2 b hb).1;show a.ID.toNat≠b.ID.toNat;unfold I1000 at*;omega
   · intro x hx y hy;obtain⟨m,h1,h2⟩:=gkx hx;obtain⟨q,h3,rfl⟩:=List.mem_map.1 hy;have h4:=gxe (hr.2 q h3).2 m h1;have:=h.2 m h1;have:=(hr.2 q h3).1;show x.id≠q.ID.toNat;unfold I1000 at*;omega
 refine key.imp fun {a b} hne=>?_
 simp only[ltF,decide_eq_true_eq];omega
theorem g10e{ms:List SMember}{l:List SValue}{r:List SRaw}(h:MAsc ms)(hr:gi2 ms r){x:Fd}(hx:x∈g74 ts ms l r) :1≤x.id∧x.id≤1000:=by
 rcases List.mem_append.1 hx with hx | hx
 · obtain⟨m,h1,h2⟩:=gkx hx;have:=h.2 m h1;unfold I1000 at*;omega
 · obtain⟨q,h3,rfl⟩:=List.mem_map.1 hx;have:=(hr.2 q h3).1;unfold I1000 at*;show 1≤q.ID.toNat∧q.ID.toNat≤1000;omega
theorem g1cb :SWO ltF:=by
 refine⟨fun x=>?_,fun x y z h1 h2=>?_,fun x y z h1 h2=>?_⟩ <;> simp[ltF]at* <;> omega
theorem g18j {l : List Fd} (hp : gb8 ltF l = true) (hr : ∀ x, x ∈ l → 1 ≤ x.id ∧ x.id ≤ 1000) :
   isoB ltF l=(List.range' 1 1000).flatMap fun n=>l.filter fun x=>decide (x.id=n):=by
 refine g120 hp (gh7 _ _) (g15m Fd.id _ List.nodup_range' l fun x hx=>?_) (go0 g1cb l) (g1ab Fd.id 1 1000 l);have:=hr x hx;rw[List.mem_range'_1];omega
end
section
variable {ts:List SType} {pl:Bool}
theorem g35 :∀{l:List SValue} {t:Int},vfits ts pl t l↔∀x,x∈l→vfit ts pl t x
 | [],t=>by rw[vfits];simp
 | v::l,t=>by
   rw[vfits,g35];constructor
   · rintro ⟨h1,h2⟩ x hx
     rcases List.mem_cons.1 hx with rfl | hx
     · exact h1
     · exact h2 x hx
   · intro h;exact⟨h v (.head _),fun x hx=>h x (.tail _ hx)⟩
theorem gi3 :∀{ms:List SMember} {l:List SValue},vfitm ts pl ms l↔l.length=ms.length∧∀i,i < ms.length→vfit ts pl (ms.getD i dSMember).Type_ (l.getD i dSValue)
 | [],[]=>by
   have:vfitm ts pl [] []=True:=by rw[vfitm]
   rw[this];simp
 | [],v::l=>by
   have:vfitm ts pl [] (v::l)=False:=by rw[vfitm] <;> (intros;simp_all)
   rw[this];simp
 | m::ms,[]=>by
   have:vfitm ts pl (m::ms) []=False:=by rw[vfitm] <;> (intros;simp_all)
   rw[this];simp
 | m::ms,v::l=>by
   rw[vfitm,gi3];constructor
   · rintro ⟨h1,h2,h3⟩
     refine⟨by simp[h2],fun i hi=>?_⟩;cases i with
     | zero=>exact h1
     | succ i=>exact h3 i (by simpa using hi)
   · rintro ⟨h1,h2⟩
     exact⟨h2 0 (by simp),by simpa using h1,fun i hi=>h2 (i+1) (by simpa using hi)⟩
end
end
section
open Go Go.Proofs.YthnmepafpikaiaaGreat.Shv Go.Sort
set_option maxRecDepth 100000
def SaysP(o:Option Bool)(P:Prop) :Prop:=∃r,o=some r∧(r=true↔P)
theorem SaysP.imp{o:Option Bool}{P Q:Prop}(h:SaysP o P)(e:P↔Q) :SaysP o Q:=by
 obtain⟨r,h1,h2⟩:=h;exact⟨r,h1,h2.trans e⟩
theorem SaysP.of{b:Bool}{P:Prop}(e:b=true↔P) :SaysP (some b) P:=⟨b,rfl,e⟩
theorem SaysP.loop {L : Nat → Option (Bool ⊕ Unit)} {n : Nat} {p : Nat → Bool} {g : Unit} {o : Option (Bool ⊕ Unit)} (h0 : o = L 0) (hstep : ∀ i, i < n → L i = if p i = true then L (i + 1) else some (.inl false)) (hend : L n = some (.inr g)) :
   SaysP (o >>=fun o=>match o with | .inl x=>some x | .inr _=>some true) (∀i,i < n→p i=true):=by
 subst h0;rcases scan L n p (.inl false) (.inr g) hstep hend with⟨h1,h2⟩ | ⟨h1,j,h2,h3⟩
 · rw[h1];exact⟨true,rfl,by simpa using h2⟩
 · rw[h1];refine⟨false,rfl,?_⟩;constructor
   · intro h;cases h
   · intro h;have:=h j h2;rw[h3]at this;cases this
theorem g10k{α:Type}(f:α→Int)(d:α) :∀l:List α,l.Pairwise (fun a b=>f a < f b)↔∀i,i+1 < l.length→f (l.getD i d) < f (l.getD (i+1) d)
 | []=>by simp
 | [a]=>by simp
 | a::b::l=>by
   rw[List.pairwise_cons,g10k f d (b::l)];constructor
   · rintro ⟨h1,h2⟩ i hi
     cases i with
     | zero=>exact h1 b (.head _)
     | succ i=>exact h2 i (by simpa using hi)
   · intro h;have h2:∀i,i+1 < (b::l).length→f ((b::l).getD i d) < f ((b::l).getD (i+1) d):=fun i hi=>h (i+1) (by simpa using hi)
     refine⟨fun x hx=>?_,h2⟩;have h0:=h 0 (by simp);simp only[List.getD_cons_zero,List.getD_cons_succ]at h0;have h3:=(g10k f d (b::l)).2 h2;rw[List.pairwise_cons]at h3;rcases List.mem_cons.1 hx with rfl | hx
     · exact h0
     · have:=h3.1 x hx;omega
section
variable {ts:List SType}
def FitS(ts:List SType)(x:SValue) :Prop:=∀t pl,SaysP (g2a ((⟨ts⟩:SSchema),t,x,pl)) (vfit ts pl t x)
theorem g1ag{l:List SValue}(hl:l.length≤reachBytes)(ih:∀x,x∈l→FitS ts x)(t:Int)(pl:Bool) :SaysP (g6o ((⟨ts⟩:SSchema),t,l,pl)) (vfits ts pl t l):=by
 have hr:=g1i hl
 let p:Nat→Bool:=fun i=>(g2a ((⟨ts⟩:SSchema),t,l.getD i dSValue,pl)).getD false
 have hp:∀i,i < l.length→g2a ((⟨ts⟩:SSchema),t,l.getD i dSValue,pl)=some (p i)∧(p i=true↔vfit ts pl t (l.getD i dSValue)):=by
   intro i hi;obtain⟨r,h1,h2⟩:=ih _ (gt hi dSValue) t pl;refine⟨by simp only[p,h1,Option.getD_some],?_⟩;simp only[p,h1,Option.getD_some];exact h2
 rw[g6o];refine(SaysP.loop (L:=fun i=>g2f (t,l,pl,(i:Int),ts)) (n:=l.length) (p:=p) (g:=()) rfl (fun i hi=>?_) ?_).imp ?_
 · show g2f (t,l,pl,(i:Int),ts)=if p i=true then g2f (t,l,pl,((i+1:Nat):Int),ts)else _
   rw[g2f,if_pos (by simp;omega),if_pos (g8 hi)];simp only[SValue.g14,g9];rw[(hp i hi).1,gu (by omega)];cases p i <;> rfl
 · show g2f (t,l,pl,(l.length:Int),ts)=_;rw[g2f,if_neg (by simp)]
 · rw[g35];constructor
   · intro h x hx;obtain⟨i,hi,rfl⟩:=List.getElem_of_mem hx;have:=(hp i hi).2.1 (h i hi);rw[g1n hi]at this;exact this
   · intro h i hi;exact(hp i hi).2.2 (h _ (gt hi dSValue))
theorem gd3{l:List SMember}{id:Int}{r:Int × Bool}(h:gw4 l id r) :(r.2=true∧∃j:Nat,j < l.length∧r.1=(j:Int)∧findM l id=some (l.getD j dSMember)∧(l.getD j dSMember).ID=id)∨(r.2=false∧findM l id=none):=by
 rcases h with⟨j,h1,h2,h3,rfl⟩ | ⟨h1,rfl⟩
 · refine .inl ⟨rfl,j,h1,rfl,?_,h2⟩;unfold findM;rw[List.find?_eq_some_iff_getElem];refine⟨by rw[decide_eq_true_eq];exact h2,j,h1,(g1n h1 _).symm,fun k hk=>?_⟩;have:=h3 k hk;rw[g1n (by omega)]at this
   simpa using this
 · refine .inr ⟨rfl,?_⟩;unfold findM;rw[List.find?_eq_none];intro m hm;obtain⟨i,hi,rfl⟩:=List.getElem_of_mem hm;have:=h1 i hi;rw[g1n hi]at this
   simpa using this
theorem g1ga{t:SType}(ht:t.Members.length < 9223372036854775807){l:List SRaw}(hl:l.length≤reachBytes) :SaysP (g7d (t,l)) (gi2 t.Members l):=by
 have hr:=g1i hl;rw[g7d]
 let p:Nat→Bool:=fun i=>!((g38 (t,(l.getD i dSRaw).ID)).getD (0,false)).2 && (bif decide (1≤(l.getD i dSRaw).ID)then decide ((l.getD i dSRaw).ID≤1000)else false) && (!(decide ((0:Int) < (i:Int))) || !(decide ((l.getD i dSRaw).ID≤(l.getD (subI .i64 (i:Int) 1).toNat dSRaw).ID)))
 refine(SaysP.loop (L:=fun i=>g23 (l,(i:Int),t)) (n:=l.length) (p:=p) (g:=()) rfl (fun i hi=>?_) ?_).imp ?_
 · show g23 (l,(i:Int),t)=if p i=true then g23 (l,((i+1:Nat):Int),t)else _
   obtain⟨r,h1,h2,_⟩:=g73 (t:=t) (l.getD i dSRaw).ID ht;have hpi:p i=(!r.2 && (bif decide (1≤(l.getD i dSRaw).ID)then decide ((l.getD i dSRaw).ID≤1000)else false) && (!(decide ((0:Int) < (i:Int))) || !(decide ((l.getD i dSRaw).ID≤(l.getD (subI .i64 (i:Int) 1).toNat dSRaw).ID)))):=by simp only[p,h1,Option.getD_some]
   rw[hpi,g23,if_pos (by simp;omega),if_pos (g8 hi)];simp only[g9];rw[h2,gu (by omega)];have hid:g1p ((l.getD i dSRaw).ID,r.2)=some ((!r.2) && (bif decide (1≤(l.getD i dSRaw).ID)then decide ((l.getD i dSRaw).ID≤1000)else false)):=by
     rw[g1p];cases r.2 <;> cases decide (1≤(l.getD i dSRaw).ID) <;> rfl
   show(if inR (i:Int) l.length=true then g1p ((l.getD i dSRaw).ID,r.2) >>=_ else none)=_;rw[if_pos (g8 hi),hid]
   exact g127 ((!r.2) && (bif decide (1≤(l.getD i dSRaw).ID)then decide ((l.getD i dSRaw).ID≤1000)else false)) (inR (i:Int) l.length) (decide ((0:Int) < (i:Int))) (subI .i64 (i:Int) 1) (fun j=>inR j l.length) (fun j=>decide ((l.getD i dSRaw).ID≤(l.getD j.toNat dSRaw).ID)) _ _ (g8 hi) (fun hz=>by
     have:0 < i:=by simp at hz;omega
     show inR _ _=true;rw[geg this (by omega)];exact g8 (by omega))
 · show g23 (l,(l.length:Int),t)=_;rw[g23,if_neg (by simp)]
 · unfold gi2;rw[g10k (fun a:SRaw=>a.ID) dSRaw];have key:∀i,i < l.length→(p i=true↔(I1000 (l.getD i dSRaw).ID∧findM t.Members (l.getD i dSRaw).ID=none)∧(i=0∨(l.getD (i - 1) dSRaw).ID < (l.getD i dSRaw).ID)):=by
     intro i hi;obtain⟨r,h1,h2,hf⟩:=g73 (t:=t) (l.getD i dSRaw).ID ht;have hpi:p i=(!r.2 && (bif decide (1≤(l.getD i dSRaw).ID)then decide ((l.getD i dSRaw).ID≤1000)else false) && (!(decide ((0:Int) < (i:Int))) || !(decide ((l.getD i dSRaw).ID≤(l.getD (subI .i64 (i:Int) 1).toNat dSRaw).ID)))):=by simp only[p,h1,Option.getD_some]
     rw[hpi];have hn:r.2=false↔findM t.Members (l.getD i dSRaw).ID=none:=by
       rcases gd3 hf with⟨a,j,_,_,b,_⟩ | ⟨a,b⟩
       · rw[a,b];simp
       · rw[a,b];simp
     rw[←hn];unfold I1000;by_cases h0:i=0
     · subst h0;cases r.2 <;> by_cases g1:1≤(l.getD 0 dSRaw).ID <;> by_cases g2:(l.getD 0 dSRaw).ID≤1000 <;> simp[g1,g2]
     · have hz:decide ((0:Int) < (i:Int))=true:=by simp;omega
       rw[hz,geg (by omega) (by omega),g9];generalize (l.getD (i - 1) dSRaw).ID=y;generalize (l.getD i dSRaw).ID=x;cases r.2 <;> by_cases g1:1≤x <;> by_cases g2:x≤1000 <;> by_cases g3:y < x <;> simp[h0,g1,g2,g3] <;> omega
   constructor
   · intro h;refine⟨fun i hi=>?_,fun x hx=>?_⟩
     · have:=((key (i+1) hi).1 (h _ hi)).2;rcases this with h | h
       · omega
       · exact h
     · obtain⟨i,hi,rfl⟩:=List.getElem_of_mem hx;have:=((key i hi).1 (h _ hi)).1;rw[g1n hi]at this;exact this
   · rintro ⟨h1,h2⟩ i hi
     refine(key i hi).2 ⟨h2 _ (gt hi dSRaw),?_⟩;by_cases h0:i=0
     · exact .inl h0
     · right;have:=h1 (i - 1) (by omega);have e:i - 1+1=i:=by omega
       rw[e]at this;exact this
theorem g1ea {t : SType} {v : SValue} (hl : v.Items.length = t.Members.length) (hr : t.Members.length < 9223372036854775807) (ih : ∀ x, x ∈ v.Items → FitS ts x) (pl : Bool) :
   SaysP (g1l (pl,0,ts,v,t.Kind,t.Name,t.Low,t.High,t.Max,t.Symbols,t.Members,t.Key,t.Elem,t.Open) >>=fun o=>match o with | .inl o_1=>some o_1 | .inr _=>some true) (vfitm ts pl t.Members v.Items):=by
 let p:Nat→Bool:=fun i=>(g2a ((⟨ts⟩:SSchema),(t.Members.getD i dSMember).Type_,v.Items.getD i dSValue,pl)).getD false
 have hp:∀i,i < t.Members.length→g2a ((⟨ts⟩:SSchema),(t.Members.getD i dSMember).Type_,v.Items.getD i dSValue,pl)=some (p i)∧(p i=true↔vfit ts pl (t.Members.getD i dSMember).Type_ (v.Items.getD i dSValue)):=by
   intro i hi;obtain⟨r,h1,h2⟩:=ih _ (gt (by omega:i < v.Items.length) dSValue) (t.Members.getD i dSMember).Type_ pl;refine⟨by simp only[p,h1,Option.getD_some],?_⟩;simp only[p,h1,Option.getD_some];exact h2
 refine(SaysP.loop (L:=fun i=>g1l (pl,(i:Int),ts,v,t.Kind,t.Name,t.Low,t.High,t.Max,t.Symbols,t.Members,t.Key,t.Elem,t.Open)) (n:=t.Members.length) (p:=p) (g:=()) rfl (fun i hi=>?_) ?_).imp ?_
 · show g1l (pl,(i:Int),ts,v,t.Kind,t.Name,t.Low,t.High,t.Max,t.Symbols,t.Members,t.Key,t.Elem,t.Open)=if p i=true then g1l (pl,((i+1:Nat):Int),ts,v,t.Kind,t.Name,t.Low,t.High,t.Max,t.Symbols,t.Members,t.Key,t.Elem,t.Open)else _
   rw[g1l,if_pos (by simp;omega),if_pos (g8 hi),if_pos (g8 (by omega))];simp only[g9,SValue.g14];rw[(hp i hi).1,gu (by omega)];cases p i <;> rfl
 · show g1l (pl,(t.Members.length:Int),ts,v,t.Kind,t.Name,t.Low,t.High,t.Max,t.Symbols,t.Members,t.Key,t.Elem,t.Open)=_;rw[g1l,if_neg (by simp;omega)]
 · rw[gi3];constructor
   · intro h;exact⟨hl,fun i hi=>(hp i hi).2.1 (h i hi)⟩
   · rintro ⟨_,h⟩ i hi;exact(hp i hi).2.2 (h i hi)
theorem g1gb {v : SValue} (hr : v.Keys.length < 9223372036854775807) (hk : ∀ x, x ∈ v.Keys → OkV x) :
   SaysP (g1g (1,v) >>=fun o_3=>match o_3 with | .inl o_4=>some o_4 | .inr _=>some true) (ga2 v.Keys):=by
 by_cases h0:v.Keys.length=0
 · rw[g1g,if_neg (by simp[h0])];refine⟨true,rfl,?_⟩;unfold ga2;simp only[true_iff];intro i hi;omega
 refine(SaysP.loop (L:=fun i=>g1g (((i+1:Nat):Int),v)) (n:=v.Keys.length - 1) (p:=fun i=>!(decide (0≤vcmp (v.Keys.getD i dSValue) (v.Keys.getD (i+1) dSValue)))) (g:=()) rfl (fun i hi=>?_) ?_).imp ?_
 · show g1g (((i+1:Nat):Int),v)=if _ then g1g (((i+1+1:Nat):Int),v)else _
   have hs':subI .i64 ((i+1:Nat):Int) 1=(i:Int):=by rw[geg (by omega) (by omega)];simp
   obtain⟨r,c1,c2⟩:=gsl (gqu (hk _ (gt (by omega:i < v.Keys.length) dSValue))) (gqu (hk _ (gt (by omega:i+1 < v.Keys.length) dSValue)));have hv:vcmp (v.Keys.getD i dSValue) (v.Keys.getD (i+1) dSValue)=r:=by unfold vcmp;rw[c1];rfl
   rw[hv,g1g,if_pos (by simp;omega)];simp only[oZ4,oZ3];rw[hs',if_pos (g8 (by omega)),if_pos (g8 (by omega))];simp only[g9,SValue.g14];rw[c2,gu (by omega)];simp only[oZ3];cases decide (0≤r) <;> rfl
 · have e:v.Keys.length - 1+1=v.Keys.length:=by omega
   show g1g (((v.Keys.length - 1+1:Nat):Int),v)=_;rw[e,g1g,if_neg (by simp)]
 · unfold ga2;constructor
   · intro h i hi;have:=h i (by omega)
     simpa using this
   · intro h i hi;have:=h i (by omega)
     simpa using this
theorem gfw (pl : Bool) (t : Int) (v : SValue) : vfit ts pl t v ↔
   (0≤t∧t < ts.length∧v.Kind=(ts.getD t.toNat dSType).Kind∧(pl=true→v.Rest=[]))∧
   (v.Kind=1∧v.Int_=0∧v.Str=[]∧v.ID=0∧v.Keys=[]∧v.Items=[]∧v.Rest=[]∨
   v.Kind=2∧v.Bool_=false∧v.Str=[]∧v.ID=0∧v.Keys=[]∧v.Items=[]∧v.Rest=[]∧(ts.getD t.toNat dSType).Low≤v.Int_∧v.Int_≤(ts.getD t.toNat dSType).High∨
   v.Kind=3∧v.Bool_=false∧v.Int_=0∧v.ID=0∧v.Keys=[]∧v.Items=[]∧v.Rest=[]∧(v.Str.length:Int)≤(ts.getD t.toNat dSType).Max∨
   v.Kind=4∧v.Bool_=false∧v.Int_=0∧v.Str=[]∧v.Keys=[]∧v.Items=[]∧v.Rest=[]∧((∃y,y∈(ts.getD t.toNat dSType).Symbols∧y.ID=v.ID)∨(ts.getD t.toNat dSType).Open=true∧pl=false∧I1000 v.ID)∨
   v.Kind=5∧v.Bool_=false∧v.Int_=0∧v.Str=[]∧v.ID=0∧v.Keys=[]∧gi2 (ts.getD t.toNat dSType).Members v.Rest∧vfitm ts pl (ts.getD t.toNat dSType).Members v.Items∨
   v.Kind=6∧v.Bool_=false∧v.Int_=0∧v.Str=[]∧v.Keys=[]∧(match findM (ts.getD t.toNat dSType).Members v.ID with
     | some m=>v.Rest=[]∧v.Items.length=1∧vfits ts pl m.Type_ v.Items
     | none=>(ts.getD t.toNat dSType).Open=true∧pl=false∧I1000 v.ID∧v.Items=[]∧∃d,v.Rest=[⟨v.ID,d⟩])∨
   v.Kind=7∧v.Bool_=false∧v.Int_=0∧v.Str=[]∧v.ID=0∧v.Keys=[]∧v.Rest=[]∧(v.Items.length:Int)≤(ts.getD t.toNat dSType).Max∧vfits ts pl (ts.getD t.toNat dSType).Elem v.Items∨
   v.Kind=8∧v.Bool_=false∧v.Int_=0∧v.Str=[]∧v.ID=0∧v.Rest=[]∧(v.Keys.length:Int)≤(ts.getD t.toNat dSType).Max∧v.Items.length=v.Keys.length∧vfits ts pl (ts.getD t.toNat dSType).Key v.Keys∧vfits ts pl (ts.getD t.toNat dSType).Elem v.Items∧ga2 v.Keys∨
   v.Kind=9∧v.Bool_=false∧v.Int_=0∧v.Str=[]∧v.ID=0∧v.Keys=[]∧v.Rest=[]∧v.Items.length≤1∧vfits ts pl (ts.getD t.toNat dSType).Elem v.Items):=by
 cases v;rw[vfit];try exact Iff.rfl
end
end
section
open Go Go.Proofs.YthnmepafpikaiaaGreat.Shv Go.Sort
set_option maxRecDepth 100000
def ZeroV(v:SValue) :Prop:=(v.Kind=1∨v.Bool_=false)∧(v.Kind=2∨v.Int_=0)∧(v.Kind=3∨v.Str=[])∧((v.Kind=4∨v.Kind=6)∨v.ID=0)∧(v.Kind=8∨v.Keys=[])∧(5≤v.Kind∨v.Items=[])∧((v.Kind=5∨v.Kind=6)∨v.Rest=[])
theorem g1gc(v:SValue) :SaysP (g9c v) (ZeroV v):=by
 rw[g9c];refine .of ?_;unfold ZeroV;have e:∀{α:Type} (l:List α),((l.length:Int)=0)↔l=[]:=fun l=>by
   cases l with
   | nil=>simp
   | cons a l=>simp;omega
 simp only[Bool.cond_eq_ite,Bool.ite_eq_true_distrib,e];have h1:∀{a b:Bool},(if a=true then true else b)=true↔(a=true∨b=true):=fun {a b}=>by cases a <;> simp
 have h2:∀{a b:Bool},(if a=true then b else false)=true↔(a=true∧b=true):=fun {a b}=>by cases a <;> simp
 simp[and_assoc];constructor
 · rintro h
   simp_all
   grind
 · grind
theorem cutS{z b:Bool}{o:Option Bool}{P Z Q:Prop}(hz:z=true↔Z)(hb:b=false↔Q)(ho:SaysP o P) :SaysP (if(bif (bif false then true else(!z))then true else b)=true then some false else o) (Z∧Q∧P):=by
 obtain⟨r,rfl,h⟩:=ho;cases z with
 | false=>
   refine⟨false,rfl,?_⟩;simp at hz;simp[hz]
 | true=>
   cases b with
   | true=>refine⟨false,rfl,?_⟩;simp at hb;simp[hb]
   | false=>refine⟨r,rfl,?_⟩;simp at hz hb;simp[hz,hb,h]
theorem and2S{q:Bool}{o:Option Bool}{P Q:Prop}(hq:q=true↔Q)(ho:SaysP o P) :SaysP (some q >>=fun t244=>(if t244=true then o else some false) >>=fun r_10=>some (bif t244 then r_10 else false)) (Q∧P):=by
 obtain⟨r,rfl,h⟩:=ho;refine⟨q && r,by cases q <;> cases r <;> rfl,?_⟩;rw[Bool.and_eq_true,hq,h]
theorem and5S {A : Bool} {ro L : Option Bool} {PA PR PM : Prop} (hA : A = true ↔ PA) (hr : SaysP ro PR) (hM : A = true → SaysP L PM) :
   SaysP (some (!A) >>=fun t107=>(if(!t107)=true then ro else some false) >>=fun r_5=>if(bif t107 then true else(!r_5))=true then some false else L) (PA∧PR∧PM):=by
 obtain⟨q,rfl,hq⟩:=hr;cases A with
 | false=>refine⟨false,rfl,?_⟩;simp at hA;simp[hA]
 | true=>
   obtain⟨m,rfl,hm⟩:=hM rfl;cases q with
   | false=>refine⟨false,rfl,?_⟩;simp at hq;simp[hq]
   | true=>refine⟨m,rfl,?_⟩;simp at hA hq;simp[hA,hq,hm]
theorem and8S {c : Bool} {ok oi L : Option Bool} {PC PK PI PQ : Prop} (hc : c = false ↔ PC) (hk : SaysP ok PK) (hi : SaysP oi PI) (hL : SaysP L PQ) :
   SaysP (some c >>=fun t239=>(if(!t239)=true then ok else some false) >>=fun r_12=>some (bif t239 then true else(!r_12)) >>=fun t249=>(if(!t249)=true then oi else some false) >>=fun r_13=>if(bif t249 then true else(!r_13))=true then some false else L) (PC∧PK∧PI∧PQ):=by
 obtain⟨k,rfl,hk⟩:=hk;obtain⟨i,rfl,hi⟩:=hi;obtain⟨q,rfl,hq⟩:=hL;rw[←hc,←hk,←hi,←hq];cases c <;> cases k <;> cases i <;> exact⟨_,rfl,by simp⟩
theorem g15p{l:List SSymbol}{id:Int}{r:Int × Bool}(h:gw5 l id r) :r.2=true↔∃y,y∈l∧y.ID=id:=by
 rcases h with⟨j,h1,h2,h3,rfl⟩ | ⟨h1,rfl⟩
 · simp only[true_iff];exact⟨_,gt h1 dSSymbol,h2⟩
 · constructor
   · intro h;cases h
   · rintro ⟨y,hy,he⟩
     obtain⟨i,hi,rfl⟩:=List.getElem_of_mem hy;have:=h1 i hi;rw[g1n hi]at this;exact absurd he this
section
variable {ts:List SType} (hn:ts.length < 9223372036854775807) (hT:∀t,t∈ts→OkT t) (hK:∀t,t∈ts→gmi t.Kind)
include hn hT hK in
theorem g1j6{v:SValue}(hv:OkV v) :FitS ts v:=by
 induction hv with
 | mk v hs h1 h2 h3 hk hi hrd n1 n2 n3 n4 ihk ihi=>
   intro t pl;rw[g2a];by_cases hout:(bif decide (t < 0)then true else decide (((⟨ts⟩:SSchema).Types.length:Int)≤t))=true
   · rw[if_pos hout];refine⟨false,rfl,?_⟩;rw[gfw];have:¬(0≤t∧t < ts.length):=by
       intro hh;simp only[Bool.cond_eq_ite]at hout;by_cases h0:t < 0
       · omega
       · simp[h0]at hout;omega
     constructor
     · intro h;cases h
     · rintro ⟨⟨a,b,_⟩,_⟩;exact absurd ⟨a,b⟩ this
   · rw[if_neg hout];have hin:0≤t∧t < ts.length:=by
       simp only[Bool.cond_eq_ite]at hout;by_cases h0:t < 0
       · simp[h0]at hout
       · simp[h0]at hout;omega
     obtain⟨j,rfl⟩:∃j:Nat,t=(j:Int):=⟨t.toNat,by omega⟩
     have hj:j < ts.length:=by omega
     rw[if_pos (g8 hj)];simp only[gfw,g9,SValue.g14];have hxT:=hT _ (gt hj dSType);have hxK:=hK _ (gt hj dSType);generalize ts.getD j dSType=x at hxT hxK ⊢;have hm:=g1i (g5r hxT.mems);have hsy:=g1i (g5r hxT.syms);by_cases hkd:v.Kind=x.Kind
     · obtain⟨z,z1,z2⟩:=g1gc v;have hitems:=g1ag (ts:=ts) h2 ihi;have hkeys:=g1ag (ts:=ts) h1 ihk;show SaysP ((if(!(!(decide (v.Kind=x.Kind))))=true then g9c v else some false) >>=_) _;rw[if_pos (by simp[hkd]),z1];obtain⟨K,N,L,H,M,S,Ms,Ke,E,O⟩:=x;obtain⟨vK,B,I,Sx,ID,Ks,Is,R⟩:=v;simp only at hkd;subst hkd;simp only at hxK hm hsy h1 h2 h3 z1
       have hb:(bif pl then decide (0 < (R.length:Int))else false)=false↔(pl=true→R=[]):=by
         cases pl
         · simp
         · cases R <;> simp
       have hc:vK=1∨vK=2∨vK=3∨vK=4∨vK=5∨vK=6∨vK=7∨vK=8∨vK=9:=by unfold gmi at hxK;omega
       have cut : ∀ {o : Option Bool} {P W : Prop}, SaysP o P → ((ZeroV ⟨vK, B, I, Sx, ID, Ks, Is, R⟩ ∧ (pl = true → R = []) ∧ P) ↔ W) →
           SaysP (some z >>=fun r=>if(bif (bif false then true else(!r))then true else bif pl then decide (0 < (R.length:Int))else false)=true then some false else o) W:=fun ho hw=>(cutS z2 hb ho).imp hw
       have hz:(0:Int)≤j∧(j:Int) < ts.length:=hin;rcases hc with rfl | rfl | rfl | rfl | rfl | rfl | rfl | rfl | rfl
       · exact cut (P:=True) (.of (b:=true) (by simp)) (by unfold ZeroV;simp[hz];grind)
       · exact cut (P:=L≤I∧I≤H) (.of (b:=bif decide (L≤I)then decide (I≤H)else false) (by by_cases g:L≤I <;> simp[g])) (by unfold ZeroV;simp[hz];grind)
       · exact cut (P:=(Sx.length:Int)≤M) (.of (b:=decide ((Sx.length:Int)≤M)) (by simp)) (by unfold ZeroV;simp[hz];grind)
       · obtain⟨r,_,r2,hf⟩:=gum (t:=⟨4,N,L,H,M,S,Ms,Ke,E,O⟩) ID hsy;have hid:g1p (ID,false)=some (bif decide (1≤ID)then decide (ID≤1000)else false):=by
           rw[g1p];cases decide (1≤ID) <;> rfl
         have h4:=k4r r2 O pl _ (fun b=>g1p (ID,b)) hid;have hs:=g15p hf;simp only at hs;refine cut (P:=(∃y,y∈S∧y.ID=ID)∨O=true∧pl=false∧I1000 ID) ⟨_,h4,?_⟩ (by unfold ZeroV;simp[hz];grind);rw[←hs];unfold I1000;cases r.2 <;> cases O <;> cases pl <;> by_cases g1:1≤ID <;> by_cases g2:ID≤1000 <;> simp[g1,g2]
       · refine cut (P:=Is.length=Ms.length∧gi2 Ms R∧vfitm ts pl Ms Is) ?_ (by
           have:vfitm ts pl Ms Is→Is.length=Ms.length:=fun h=>(gi3.1 h).1
           unfold ZeroV;simp[hz];grind)
         exact and5S (A:=decide ((Is.length:Int)=(Ms.length:Int))) (by simp;omega) (g1ga (t:=⟨5,N,L,H,M,S,Ms,Ke,E,O⟩) hm h3) (fun hA=>g1ea (ts:=ts) (t:=⟨5,N,L,H,M,S,Ms,Ke,E,O⟩) (v:=⟨5,B,I,Sx,ID,Ks,Is,R⟩) (g15k hA) hm ihi pl)
       · obtain⟨r,_,r2,hf⟩:=g73 (t:=⟨6,N,L,H,M,S,Ms,Ke,E,O⟩) ID hm;have hid:∀b,b=false→g1p (ID,b)=some (bif decide (1≤ID)then decide (ID≤1000)else false):=by
           intro b hb;subst hb;rw[g1p];cases decide (1≤ID) <;> rfl
         have hR0:decide ((R.length:Int)=1)=true→inR 0 R.length=true:=by
           intro h;have:=of_decide_eq_true h;exact g8 (k:=0) (by omega)
         refine cut (P:=match findM Ms ID with
           | some m=>R=[]∧Is.length=1∧vfits ts pl m.Type_ Is
           | none=>O=true∧pl=false∧I1000 ID∧Is=[]∧∃d,R=[⟨ID,d⟩]) ?_ (by
             unfold ZeroV;simp[hz];cases findM Ms ID <;> grind)
         obtain⟨ri,rk⟩:=r;show SaysP (g20 (⟨6,N,L,H,M,S,Ms,Ke,E,O⟩,ID) >>=_) _;rw[r2];rcases gd3 hf with⟨e,k,k1,k2,k3,k4⟩ | ⟨e,k3⟩
         · simp only at e k1 k2 k3 k4;subst e;subst k2;rw[k3];have hX:∃f:Bool,((bif decide ((Is.length:Int)=1)then decide ((R.length:Int)=0)else false)=true→g2a ((⟨ts⟩:SSchema),(Ms.getD (k:Int).toNat dSMember).Type_,Is.getD (0:Int).toNat dSValue,pl)=some f)∧(Is.length=1→(f=true↔vfits ts pl (Ms.getD k dSMember).Type_ Is)):=by
             by_cases h1':Is.length=1
             · obtain⟨f,f1,f2⟩:=ihi (Is.getD 0 dSValue) (gt (by omega:0 < Is.length) dSValue) (Ms.getD k dSMember).Type_ pl;refine⟨f,fun _=>f1,fun _=>?_⟩;rw[f2]
               match Is,h1' with
               | [y],_=>rw[g35];simp
             · refine⟨false,fun h=>?_,fun h=>absurd h h1'⟩
               exfalso
               have:decide ((Is.length:Int)=1)=false:=by simp;omega
               rw[this]at h;cases h
           obtain⟨f,f1,f2⟩:=hX;have hidx:(bif decide ((Is.length:Int)=1)then decide ((R.length:Int)=0)else false)=true→inR (k:Int) Ms.length=true∧inR 0 Is.length=true:=by
             intro hc';refine⟨g8 k1,?_⟩;by_cases h1':Is.length=1
             · exact g8 (k:=0) (by omega)
             · have:decide ((Is.length:Int)=1)=false:=by simp;omega
               rw[this]at hc';cases hc'
           refine⟨_,k6k _ (inR (k:Int) Ms.length) (inR 0 Is.length) f f1 hidx,?_⟩;by_cases g1:Is.length=1
           · have g2:=f2 g1;simp only[g1,Bool.and_eq_true,g2];cases R <;> simp <;> omega
           · have:decide ((Is.length:Int)=1)=false:=by simp;omega
             simp[this,g1]
         · simp only at e k3;subst e;rw[k3];refine⟨_,k6u (bif O then(!pl)else false) (bif decide (1≤ID)then decide (ID≤1000)else false) (decide ((Is.length:Int)=0)) (decide ((R.length:Int)=1)) (inR 0 R.length) (decide ((R.getD (0:Int).toNat dSRaw).ID=ID)) hR0,?_⟩;unfold I1000
           match R with
           | []=>simp
           | [⟨rid,rd⟩]=>
             cases O <;> cases pl <;> by_cases g1:1≤ID <;> by_cases g2:ID≤1000 <;> cases Is <;> by_cases g3:rid=ID <;> simp[g1,g2,g3] <;> omega
           | a::b::c=>simp;omega
       · exact cut (P:=(Is.length:Int)≤M∧vfits ts pl E Is) (and2S (by simp) (hitems E pl)) (by unfold ZeroV;simp[hz];grind)
       · refine cut (P:=((Ks.length:Int)≤M∧Is.length=Ks.length)∧vfits ts pl Ke Ks∧vfits ts pl E Is∧ga2 Ks) ?_ (by unfold ZeroV;simp[hz];grind);refine and8S (c:=bif decide (M < (Ks.length:Int))then true else(!(decide ((Is.length:Int)=(Ks.length:Int))))) ?_ (hkeys Ke pl) (hitems E pl) (g1gb (v:=⟨8,B,I,Sx,ID,Ks,Is,R⟩) (g1i h1) hk)
         by_cases g1:M < (Ks.length:Int)
         · simp[g1];omega
         · simp[g1];omega
       · exact cut (P:=Is.length≤1∧vfits ts pl E Is) (and2S (q:=decide ((Is.length:Int)≤1)) (by simp;omega) (hitems E pl)) (by unfold ZeroV;simp[hz];grind)
     · refine⟨false,by simp[hkd],?_⟩;constructor
       · intro h;cases h
       · rintro ⟨⟨_,_,a,_⟩,_⟩;exact absurd a hkd
end
end
section
open Go Go.Proofs.YthnmepafpikaiaaGreat.Shv Go.Sort
set_option maxRecDepth 100000
theorem room1{n:Nat}(h:n≤70368744177664) :room 1 n=true:=by
 unfold room g63 g1s;simp only[Bool.and_eq_true,decide_eq_true_eq];omega
theorem g1gd{n:Nat}(h:n≤2199023255552) :room 24 n=true:=by
 unfold room g63 g1s;simp only[Bool.and_eq_true,decide_eq_true_eq];omega
theorem bws{s b:List UInt8}(h:b.length+s.length≤70368744177664) :g2j (s,b)=some ((s.length:Int),b++s):=by
 rw[g2j];simp only[oZ4,oZ3];rw[if_pos (by simp),if_pos (room1 h)];rfl
theorem bstr(b:List UInt8) :g5l b=some b:=by
 rw[g5l,if_pos (by simp[eqI])]
theorem gw6(a b:Nat) :maxI (a:Int) (b:Int)=((max a b:Nat):Int):=by unfold maxI;omega
theorem g2r{α:Type}{l:List α}{i:Nat}(h:i < l.length)(d:α) :l.drop i=l.getD i d::l.drop (i+1):=by
 rw[g1n h];exact List.drop_eq_getElem_cons h
def ent(f:Fd) :EncodeEntry:=⟨(f.id:Int),f.text⟩
theorem g1eb{m:SMember}(hm:OkV m.Default)(v:SValue) :gdm (m,v)=some (om m v):=by
 rw[gdm];unfold om;cases hd:m.HasDefault with
 | false=>simp
 | true=>
   obtain⟨r,h1,h2⟩:=g1e1 hm v;simp only[SValue.g14];rw[if_pos trivial,h1];simp only[oZ4,oZ3,cond_true,Bool.true_and]
   congr 1
   by_cases e:m.Default=v
   · simp[e,h2.2 e]
   · have:r≠true:=fun h=>e (h2.1 h)
     simp[e,this]
theorem g1cc{m:SMember}{v:SValue}(hv:OkV v)(hd:m.HasDefault=true) :g1y (v,m.Default)=some (om m v):=by
 obtain⟨r,h1,h2⟩:=g16n hv m.Default;rw[h1];unfold om;rw[hd,Bool.true_and]
 congr 1
 by_cases e:m.Default=v
 · simp[e,h2.2 e.symm]
 · have:r≠true:=fun h=>e (h2.1 h).symm
   simp[e,this]
section
variable {ts:List SType}
def Wr(ts:List SType)(x:SValue)(t:Int) :Prop:=∀L D:Nat,1≤L→L+wt x≤1125899906842624→g1d (t,x,(L:Int),ts,(D:Int))=some (vpay ts t x,ts,((max D (L+vlev ts t x - 1):Nat):Int))
theorem g17r :∀{ms:List SMember} {l:List SValue},(vents ts ms l).length≤ms.length
 | [],l=>by
   rw[vents]
   · simp
   · intros;simp_all
 | m::ms,[]=>by
   rw[vents]
   · simp
   · intros;simp_all
 | m::ms,v::l=>by
   rw[vents];have:=g17r (ms:=ms) (l:=l);split <;> simp <;> omega
theorem gnv(t:Int)(v:SValue) :1≤vlev ts t v:=by
 cases v;rw[vlev];omega
theorem g1ge {Ms : List SMember} {v : SValue} (hM : Ms.length ≤ 1000) (hd : ∀ m, m ∈ Ms → OkV m.Default) (hid : ∀ m, m ∈ Ms → I1000 m.ID) (hl : v.Items.length = Ms.length) (hlen : ∀ x, x ∈ v.Items → ∀ t, (vpay ts t x).length ≤ 70368744177664)
   (hw:∀i,i < Ms.length→om (Ms.getD i dSMember) (v.Items.getD i dSValue)=false→Wr ts (v.Items.getD i dSValue) (Ms.getD i dSMember).Type_) (L:Nat) (hL:1≤L) (hLw:L+wts v.Items < 1125899906842624):
   ∀(k i:Nat) (D:Nat) (acc:List EncodeEntry),i+k=Ms.length→L≤D→acc.length+k≤100000→
   g2b ((L:Int),Ms,(Ms.length:Int),(i:Int),ts,(D:Int),v,acc)=some (ts,((max D (L+vlevm ts (Ms.drop i) (v.Items.drop i)):Nat):Int),v,acc++(vents ts (Ms.drop i) (v.Items.drop i)).map ent)
 | 0,i,D,acc,hi,hD,ha=>by
   rw[g2b,if_neg (by simp;omega),SValue.g14,List.drop_eq_nil_of_le (by omega:Ms.length≤i)];rw[vlevm,vents]
   · simp;omega
   · intros;simp_all
   · intros;simp_all
 | k+1,i,D,acc,hi,hD,ha=>by
   have hlt:i < Ms.length:=by omega
   have hlt2:i < v.Items.length:=by omega
   rw[g2b,if_pos (by simp;omega),if_pos (g8 hlt)];simp only[oZ4,oZ3,g9,SValue.g14,gf9];rw[if_pos (g8 hlt2),g1eb (hd _ (gt hlt dSMember))];rw[g2r hlt dSMember,g2r hlt2 dSValue,vlevm,vents];have hrec:=g1ge hM hd hid hl hlen hw L hL hLw k (i+1);cases ho:om (Ms.getD i dSMember) (v.Items.getD i dSValue)with
   | true=>
     simp only[oZ3,Bool.not_true,Bool.false_eq_true,if_false,if_true];rw[gu (by omega)];exact hrec D acc (by omega) hD (by omega)
   | false=>
     have hmem:v.Items.getD i dSValue∈v.Items:=gt hlt2 dSValue;have hwm:=g6i hmem;have hW:=hw i hlt ho (L+1) D (by omega) (by omega);have hlv:=gnv (ts:=ts) (Ms.getD i dSMember).Type_ (v.Items.getD i dSValue);have hI:=hid _ (gt hlt dSMember);obtain⟨n,hn⟩:∃n:Nat,(Ms.getD i dSMember).ID=(n:Int):=⟨(Ms.getD i dSMember).ID.toNat,by unfold I1000 at hI;omega⟩
     simp only[oZ3,Bool.not_false,if_true,Bool.false_eq_true,if_false];have hpl:=hlen _ hmem (Ms.getD i dSMember).Type_;have e1:addI .i64 (L:Int) 1=((L+1:Nat):Int):=gu (by omega);rw[if_pos (g8 hlt2),e1,hW];simp only[oZ3];rw[hn,g13g (by unfold I1000 at hI;omega) (by omega)];simp only[oZ3]
     rw[if_pos (g1gd (by simp;omega)),gu (by omega),hrec _ _ (by omega) (by omega) (by simp;omega)];have:(⟨(n:Int),g6b n (Ms.getD i dSMember).Critical (vpay ts (Ms.getD i dSMember).Type_ (v.Items.getD i dSValue))⟩:EncodeEntry)=ent ⟨(n:Int).toNat,(Ms.getD i dSMember).Critical,vpay ts (Ms.getD i dSMember).Type_ (v.Items.getD i dSValue)⟩:=by
       unfold ent Fd.text;simp
     rw[this];simp only[List.map_cons,List.append_assoc,List.singleton_append]
     congr 3
     have:max (max D (L+1+vlev ts (Ms.getD i dSMember).Type_ (v.Items.getD i dSValue) - 1)) (L+vlevm ts (Ms.drop (i+1)) (v.Items.drop (i+1)))=max D (L+max (vlev ts (Ms.getD i dSMember).Type_ (v.Items.getD i dSValue)) (vlevm ts (Ms.drop (i+1)) (v.Items.drop (i+1)))):=by omega
     rw[this]
theorem g1gf {R : List SRaw} (hr : ∀ x, x ∈ R → I1000 x.ID ∧ x.Data.length ≤ reachBytes) (hR : R.length ≤ 2199023255552) (D : Int) : ∀ (k i : Nat) (acc : List EncodeEntry), i + k = R.length → acc.length + k ≤ 2199023255552 →
   g1w (R,(R.length:Int),(i:Int),ts,D,acc)=some (ts,D,acc++((R.drop i).map rawF).map ent)
 | 0,i,acc,hi,ha=>by
   rw[g1w,if_neg (by simp;omega),List.drop_eq_nil_of_le (by omega:R.length≤i)];simp
 | k+1,i,acc,hi,ha=>by
   have hlt:i < R.length:=by omega
   obtain⟨hI,hdl⟩:=hr _ (gt hlt dSRaw);obtain⟨n,hn⟩:∃n:Nat,(R.getD i dSRaw).ID=(n:Int):=⟨(R.getD i dSRaw).ID.toNat,by unfold I1000 at hI;omega⟩
   unfold reachBytes at hdl;rw[g1w,if_pos (by simp;omega),if_pos (g8 hlt)];simp only[oZ4,oZ3,g9];rw[hn,g13g (by unfold I1000 at hI;omega) (by omega)];simp only[oZ3];rw[if_pos (g1gd (by simp;omega)),gu (by omega),g1gf hr hR D k (i+1) _ (by omega) (by simp;omega),g2r hlt dSRaw]
   have:(⟨(n:Int),g6b n false (R.getD i dSRaw).Data⟩:EncodeEntry)=ent (rawF (R.getD i dSRaw)):=by
     show _=(⟨(((R.getD i dSRaw).ID.toNat:Nat):Int),g6b (R.getD i dSRaw).ID.toNat false (R.getD i dSRaw).Data⟩:EncodeEntry);rw[hn,Int.toNat_natCast]
   rw[this];simp
theorem g1gg {l : List Fd} (D : Int) : ∀ (k i : Nat) (b : List UInt8), i + k = l.length → l.length ≤ 2199023255552 → b.length + ((l.drop i).flatMap Fd.text).length ≤ 70368744177664 →
   g1x ((l.length:Int),(i:Int),ts,D,l.map ent,b)=some (ts,D,b++(l.drop i).flatMap Fd.text)
 | 0,i,b,hi,_,hb=>by
   rw[g1x,if_neg (by simp;omega),List.drop_eq_nil_of_le (by omega:l.length≤i)];simp
 | k+1,i,b,hi,hl,hb=>by
   have hlt:i < l.length:=by omega
   rw[g1x,if_pos (by simp;omega),if_pos (g8 (by simp;omega)),if_pos (by simp;omega)];rw[g2r hlt default]at hb ⊢;simp only[List.flatMap_cons,List.length_append]at hb ⊢;have hg:(l.map ent).getD i dEncodeEntry=ent (l.getD i default):=g2y ent l i default dEncodeEntry hlt;simp only[g9,hg];have:(ent (l.getD i default)).text=(l.getD i default).text:=rfl
   rw[this,bws (by omega)];simp only[oZ4,oZ3];rw[gu (by omega),g1gg D k (i+1) _ (by omega) hl (by rw[List.length_append];omega)];simp
end
end
section
open Go Go.Proofs.YthnmepafpikaiaaGreat.Shv Go.Sort
set_option maxRecDepth 100000
structure SOk (ts:List SType):Prop where
 n:ts.length≤1000
 T:∀t,t∈ts→OkT t
 K:∀t,t∈ts→gmi t.Kind
 M:MOk ts
 A:∀x,x∈ts→(x.Kind=5∨x.Kind=6)→MAsc x.Members∧x.Members.length≤16
 S:∀x,x∈ts→x.Kind=4→∀y,y∈x.Symbols→I1000 y.ID
 Ky:∀x,x∈ts→x.Kind=8→1≤(ts.getD x.Key.toNat dSType).Kind∧(ts.getD x.Key.toNat dSType).Kind≤4
section
variable {ts:List SType}
theorem vpay1{t:Int}{v:SValue}(h:(ts.getD t.toNat dSType).Kind=1) :vpay ts t v=if v.Bool_=true then[1]else[]:=by
 cases v;rw[vpay];simp only[h];rfl
theorem vpay2{t:Int}{v:SValue}(h:(ts.getD t.toNat dSType).Kind=2) :vpay ts t v=vbig (zig v.Int_).toNat:=by
 cases v;rw[vpay];simp only[h];rfl
theorem vpay3{t:Int}{v:SValue}(h:(ts.getD t.toNat dSType).Kind=3) :vpay ts t v=v.Str:=by
 cases v;rw[vpay];simp only[h];rfl
theorem vpay4{t:Int}{v:SValue}(h:(ts.getD t.toNat dSType).Kind=4) :vpay ts t v=vbig v.ID.toNat:=by
 cases v;rw[vpay];simp only[h];rfl
theorem vpay5{t:Int}{v:SValue}(h:(ts.getD t.toNat dSType).Kind=5) :vpay ts t v=(isoB ltF (g74 ts (ts.getD t.toNat dSType).Members v.Items v.Rest)).flatMap Fd.text:=by
 cases v;rw[vpay];simp only[h];rfl
theorem vpay6 {t : Int} {v : SValue} (h : (ts.getD t.toNat dSType).Kind = 6) : vpay ts t v = vput v.ID.toNat ++ (match findM (ts.getD t.toNat dSType).Members v.ID with
     | some m=>(vpays ts m.Type_ v.Items).headD []
     | none=>(v.Rest.map SRaw.Data).headD []):=by
 cases v;rw[vpay];simp only[h];rfl
theorem vpay7{t:Int}{v:SValue}(h:(ts.getD t.toNat dSType).Kind=7) :vpay ts t v=(vpays ts (ts.getD t.toNat dSType).Elem v.Items).flatMap g2z:=by
 cases v;rw[vpay];simp only[h];rfl
theorem vpay8{t:Int}{v:SValue}(h:(ts.getD t.toNat dSType).Kind=8) :vpay ts t v=ilv (vpays ts (ts.getD t.toNat dSType).Key v.Keys) (vpays ts (ts.getD t.toNat dSType).Elem v.Items):=by
 cases v;rw[vpay];simp only[h];rfl
theorem vpay9 {t : Int} {v : SValue} (h : (ts.getD t.toNat dSType).Kind = 9) : vpay ts t v = match vpays ts (ts.getD t.toNat dSType).Elem v.Items with
     | []=>[]
     | p::_=>1::p:=by
 cases v;rw[vpay];simp only[h];rfl
theorem g16q (t : Int) (v : SValue) : vlev ts t v = 1 + max (if v.Keys = [] then 0 else 1) (if (ts.getD t.toNat dSType).Kind = 5 then vlevm ts (ts.getD t.toNat dSType).Members v.Items
     else if(ts.getD t.toNat dSType).Kind=6 then(match findM (ts.getD t.toNat dSType).Members v.ID with
       | some m=>vlevs ts m.Type_ v.Items
       | none=>0)
     else vlevs ts (ts.getD t.toNat dSType).Elem v.Items):=by
 cases v;rw[vlev];try rfl
theorem g17s{t:Int}{v:SValue}(hk:v.Keys=[])(hi:v.Items=[]) :vlev ts t v=1:=by
 rw[g16q,hk,hi];have h1:vlevs ts (ts.getD t.toNat dSType).Elem []=0:=by rw[vlevs]
 have h2:vlevm ts (ts.getD t.toNat dSType).Members []=0:=by
   rw[vlevm];intros;simp_all
 rw [h1, h2];have h3 : (match findM (ts.getD t.toNat dSType).Members v.ID with
       | some m=>vlevs ts m.Type_ []
       | none=>0)=0:=by
   split
   · rw[vlevs]
   · rfl
 rw[h3];simp
theorem g17t {x : SType} {v : SValue} (h8 : ¬ x.Kind = 8) (hlen : ∀ y, y ∈ v.Items → (vpay ts x.Elem y).length ≤ 1000000000000000) (hw : ∀ y, y ∈ v.Items → Wr ts y x.Elem) (hl : v.Items.length ≤ reachBytes) (L : Nat) (hL : 1 ≤ L) (hLw : L + wts v.Items < 1125899906842624) :
   ∀(k i D:Nat) (acc:List UInt8),i+k=v.Items.length→L≤D→acc.length+((vpays ts x.Elem (v.Items.drop i)).flatMap g2z).length≤70368744177664→
   g1f ((L:Int),v.Items,(v.Items.length:Int),(i:Int),ts,(D:Int),v,x,acc)=some (ts,((max D (L+vlevs ts x.Elem (v.Items.drop i)):Nat):Int),acc++(vpays ts x.Elem (v.Items.drop i)).flatMap g2z)
 | 0,i,D,acc,hi,hD,ha=>by
   rw[g1f,if_neg (by simp;omega),List.drop_eq_nil_of_le (by omega:v.Items.length≤i),vlevs,vpays];simp;omega
 | k+1,i,D,acc,hi,hD,ha=>by
   have hlt:i < v.Items.length:=by omega
   have hr:=g1i hl;have hmem:v.Items.getD i dSValue∈v.Items:=gt hlt dSValue;have hwm:=g6i hmem;rw[g2r hlt dSValue,vpays,List.flatMap_cons,List.length_append]at ha;have hp:=hlen _ hmem;have hW:=hw _ hmem (L+1) D (by omega) (by omega);have hlv:=gnv (ts:=ts) x.Elem (v.Items.getD i dSValue);have e1:addI .i64 (L:Int) 1=((L+1:Nat):Int):=gu (by omega)
   rw[g1f,if_pos (by simp;omega),if_pos (g8 hlt)];simp only[oZ4,oZ3,g9,SValue.g14];rw[if_neg (by simp[h8]),e1,hW];simp only[oZ3];rw[gx9 (by omega)];simp only[oZ3];rw[bws (by omega)];simp only[oZ3]
   rw[gu (by omega),g17t h8 hlen hw hl L hL hLw k (i+1) _ _ (by omega) (by omega) (by rw[List.length_append];omega),g2r hlt dSValue,vlevs,vpays,List.flatMap_cons,List.append_assoc]
   have:max (max D (L+1+vlev ts x.Elem (v.Items.getD i dSValue) - 1)) (L+vlevs ts x.Elem (v.Items.drop (i+1)))=max D (L+max (vlev ts x.Elem (v.Items.getD i dSValue)) (vlevs ts x.Elem (v.Items.drop (i+1)))):=by omega
   rw[this]
theorem g1ah {x : SType} {v : SValue} (h8 : x.Kind = 8) (hkl : v.Items.length = v.Keys.length) (hlen : ∀ y, y ∈ v.Items → (vpay ts x.Elem y).length ≤ 1000000000000000) (hlenk : ∀ y, y ∈ v.Keys → (vpay ts x.Key y).length ≤ 1000000000000000)
   (hw:∀y,y∈v.Items→Wr ts y x.Elem) (hwk:∀y,y∈v.Keys→Wr ts y x.Key) (h1:∀y,y∈v.Keys→vlev ts x.Key y=1) (hl:v.Items.length≤reachBytes) (L:Nat) (hL:1≤L) (hLw:L+wts v.Items+wts v.Keys < 1125899906842624):
   ∀(k i D:Nat) (acc:List UInt8),i+k=v.Items.length→L≤D→acc.length+(ilv (vpays ts x.Key (v.Keys.drop i)) (vpays ts x.Elem (v.Items.drop i))).length≤70368744177664→
   g1f ((L:Int),v.Items,(v.Items.length:Int),(i:Int),ts,(D:Int),v,x,acc)=some (ts,((max D (L+max (if v.Keys.drop i=[]then 0 else 1) (vlevs ts x.Elem (v.Items.drop i))):Nat):Int),acc++ilv (vpays ts x.Key (v.Keys.drop i)) (vpays ts x.Elem (v.Items.drop i)))
 | 0,i,D,acc,hi,hD,ha=>by
   rw[g1f,if_neg (by simp;omega),List.drop_eq_nil_of_le (by omega:v.Items.length≤i),List.drop_eq_nil_of_le (by omega:v.Keys.length≤i),vlevs,vpays,vpays,ilv]
   · simp;omega
   · intros;simp_all
 | k+1,i,D,acc,hi,hD,ha=>by
   have hlt:i < v.Items.length:=by omega
   have hlt2:i < v.Keys.length:=by omega
   have hr:=g1i hl;have hmem:v.Items.getD i dSValue∈v.Items:=gt hlt dSValue;have hmem2:v.Keys.getD i dSValue∈v.Keys:=gt hlt2 dSValue;have hwm:=g6i hmem;have hwm2:=g6i hmem2;rw[g2r hlt dSValue,g2r hlt2 dSValue,vpays,vpays,ilv,List.length_append,List.length_append]at ha;have hp:=hlen _ hmem;have hp2:=hlenk _ hmem2
   have hW2:=hwk _ hmem2 (L+1) D (by omega) (by omega);rw[h1 _ hmem2]at hW2;have hW:=hw _ hmem (L+1) (max D (L+1+1 - 1)) (by omega) (by omega);have hlv:=gnv (ts:=ts) x.Elem (v.Items.getD i dSValue);have e1:addI .i64 (L:Int) 1=((L+1:Nat):Int):=gu (by omega);rw[g1f,if_pos (by simp;omega),if_pos (g8 hlt)]
   simp only[oZ4,oZ3,g9,SValue.g14];rw[if_pos (by simp[h8]),if_pos (g8 hlt2),e1,hW2];simp only[oZ3];rw[gx9 (by omega)];simp only[oZ3];rw[bws (by omega)];simp only[oZ3];rw[hW];simp only[oZ3];rw[gx9 (by omega)];simp only[oZ3];rw[bws (by rw[List.length_append];omega)]
   simp only[oZ3];rw[gu (by omega),g1ah h8 hkl hlen hlenk hw hwk h1 hl L hL hLw k (i+1) _ _ (by omega) (by omega) (by rw[List.length_append,List.length_append];omega),g2r hlt dSValue,g2r hlt2 dSValue,vlevs,vpays,vpays,ilv,List.append_assoc,List.append_assoc];have hne:(if v.Keys.getD i dSValue::v.Keys.drop (i+1)=[]then 0 else 1)=1:=by simp
   have hle:(if v.Keys.drop (i+1)=[]then 0 else 1)≤1:=by split <;> omega
   rw[hne];generalize (if v.Keys.drop (i+1)=[]then 0 else 1)=q at hle ⊢;have:max (max (max D (L+1+1 - 1)) (L+1+vlev ts x.Elem (v.Items.getD i dSValue) - 1)) (L+max q (vlevs ts x.Elem (v.Items.drop (i+1))))=max D (L+max 1 (max (vlev ts x.Elem (v.Items.getD i dSValue)) (vlevs ts x.Elem (v.Items.drop (i+1))))):=by omega
   rw[this]
end
end
section
open Go Go.Proofs.YthnmepafpikaiaaGreat.Shv Go.Sort
set_option maxRecDepth 100000
section
variable {ts:List SType} (H:SOk ts)
theorem gqv(H:SOk ts){v:SValue}(hv:OkV v)(hw:wt v≤1099511627776)(t:Int) :(vpay ts t v).length≤23089744183296:=by
 have:=g1j5 H.M hv hw t;omega
theorem g1gh{ms:List SMember}{l:List SValue}{r:List SRaw}(h:MAsc ms)(hr:gi2 ms r) :gzf ((g74 ts ms l r).map ent)=some ((isoB ltF (g74 ts ms l r)).map ent):=by
 have e:∀a b:Fd,sortLt (ent a) (ent b)=ltF a b:=fun a b=>by unfold sortLt ltF ent;simp
 have hO:SWO sortLt:=by
   refine⟨fun x=>?_,fun x y z h1 h2=>?_,fun x y z h1 h2=>?_⟩ <;> simp[sortLt]at* <;> omega
 have hp:gb8 sortLt ((g74 ts ms l r).map ent)=true:=by
   have h0:=gjr (ts:=ts) (l:=l) h hr;generalize g74 ts ms l r=q at h0
   induction q with
   | nil=>rfl
   | cons a q ih=>
     simp only[gb8,Bool.and_eq_true,List.all_eq_true,List.map_cons]at h0 ⊢;refine⟨fun y hy=>?_,ih h0.2⟩;obtain⟨z,hz,rfl⟩:=List.mem_map.1 hy;rw[e,e];exact h0.1 z hz
 unfold gzf;rw[g1by hO hp,g1ac ent e]
theorem mxs{D L b w:Nat}(h:w=1+b) :max (max D L) (L+b)=max D (L+w - 1):=by omega
theorem mxq{D L b w:Nat}(h:w=1+b) :max (max D L) (L+1+b - 1)=max D (L+w - 1):=by omega
theorem mx0{b w:Nat}(h:w=1+max 0 b) :w=1+b:=by omega
theorem g1mz {x : SType} {v : SValue} (hdef : ∀ m, m ∈ x.Members → OkV m.Default) (hma : MAsc x.Members) (hm16 : x.Members.length ≤ 16) (c6 : gi2 x.Members v.Rest) (hil : v.Items.length = x.Members.length)
   (hrd:∀y,y∈v.Rest→y.Data.length≤reachBytes) (hlenI:∀x,x∈v.Items→∀t,(vpay ts t x).length≤23089744183296)
   (hWI:∀i,i < x.Members.length→Wr ts (v.Items.getD i dSValue) (x.Members.getD i dSMember).Type_)
   (hlenv:((isoB ltF (g74 ts x.Members v.Items v.Rest)).flatMap Fd.text).length≤23089744183296)
   (L D:Nat) (hL:1≤L) (hD:L≤D) (hLw:L+wts v.Items < 1125899906842624) (hRw:(v.Rest.map fun x=>x.Data.length+1).sum≤1099511627776):
   g6h (x,v,(L:Int),ts,(D:Int))=some ((isoB ltF (g74 ts x.Members v.Items v.Rest)).flatMap Fd.text,ts,((max D (L+vlevm ts x.Members v.Items):Nat):Int)):=by
 have hma1:=hma.2;have hRok:∀y,y∈v.Rest→I1000 y.ID∧y.Data.length≤reachBytes:=fun y hy=>⟨(c6.2 y hy).1,hrd y hy⟩
 have hRl:v.Rest.length≤(v.Rest.map fun x=>x.Data.length+1).sum:=by
   generalize v.Rest=R
   induction R with
   | nil=>simp
   | cons a R ih=>simp only[List.length_cons,List.map_cons,List.sum_cons];omega
 have hnl:=g17r (ts:=ts) (ms:=x.Members) (l:=v.Items);have r0:=g1ge (ts:=ts) (Ms:=x.Members) (v:=v) (by omega) hdef hma1 hil (fun y hy t=>by have:=hlenI y hy t;omega) (fun i hi _=>hWI i hi) L hL (by omega) x.Members.length 0 D [] (by omega) (by omega) (by simp;omega);have r0':g2b ((L:Int),x.Members,(x.Members.length:Int),0,ts,(D:Int),v,[])=_:=r0;rw[g6h]
 simp only[SValue.g14];rw[r0'];simp only[oZ4,oZ3,List.drop_zero,List.nil_append];generalize ((max D (L+vlevm ts x.Members v.Items):Nat):Int)=d;have r1:=g1gf (ts:=ts) (R:=v.Rest) hRok (by omega) d v.Rest.length 0 ((vents ts x.Members v.Items).map ent) (by omega) (by simp;omega)
 have r1':g1w (v.Rest,(v.Rest.length:Int),0,ts,d,(vents ts x.Members v.Items).map ent)=_:=r1;rw[r1'];simp only[oZ3,List.drop_zero];rw[←List.map_append];have hs:=g1gh (ts:=ts) (l:=v.Items) hma c6;have hlen:(g74 ts x.Members v.Items v.Rest).length≤2199023255552:=by unfold g74;simp;omega
 have e0:vents ts x.Members v.Items++v.Rest.map rawF=g74 ts x.Members v.Items v.Rest:=rfl;rw[e0];generalize g74 ts x.Members v.Items v.Rest=q at*;rw[hs];simp only[oZ3];have hperm:=gh7 ltF q;rw[if_pos (by simp[hperm.length_eq])];have hll:(isoB ltF q).length≤2199023255552:=by
   rw[hperm.length_eq];exact hlen
 generalize isoB ltF q=z at*;have r2:=g1gg (ts:=ts) (l:=z) d z.length 0 [] (Nat.zero_add _) hll (by simp only[List.drop_zero,List.length_nil];omega);have r2':g1x (((z.map ent).length:Int),0,ts,d,z.map ent,[])=some (ts,d,[]++(z.drop 0).flatMap Fd.text):=by
   rw[List.length_map];exact r2
 rw[r2'];simp only[oZ3,bstr,List.drop_zero,List.nil_append]
theorem g1gi {x : SType} {v : SValue} (hm : x.Members.length < 9223372036854775807) (hma : MAsc x.Members) (n3 : -9223372036854775808 ≤ v.ID ∧ v.ID ≤ 9223372036854775807)
   (c5:match findM x.Members v.ID with
     | some m=>v.Rest=[]∧v.Items.length=1∧vfits ts false m.Type_ v.Items
     | none=>x.Open=true∧True∧I1000 v.ID∧v.Items=[]∧∃d,v.Rest=[⟨v.ID,d⟩])
   (hrd:∀y,y∈v.Rest→y.Data.length≤reachBytes) (hlenI:∀x,x∈v.Items→∀t,(vpay ts t x).length≤23089744183296)
   (hWI:∀x,x∈v.Items→∀t,vfit ts false t x→Wr ts x t)
   (L D:Nat) (hL:1≤L) (hD:L≤D) (hLw:L+wts v.Items < 1125899906842624):
   g5p (x, v, (L : Int), ts, (D : Int)) = some (vput v.ID.toNat ++ (match findM x.Members v.ID with
         | some m=>(vpays ts m.Type_ v.Items).headD []
         | none=>(v.Rest.map SRaw.Data).headD []),ts,((max D (L+(match findM x.Members v.ID with
         | some m=>vlevs ts m.Type_ v.Items
         | none=>0)):Nat):Int)):=by
 obtain⟨r,r1,_,hf⟩:=g73 (t:=x) v.ID hm;rcases gd3 hf with⟨e,q,q1,q2,q3,q4⟩ | ⟨e,q3⟩
 · rw[q3]at c5;rw[q3];simp only at c5 ⊢;obtain⟨d1,d2,d3⟩:=c5;have hI:=hma.2 _ (gt q1 dSMember);rw[q4]at hI;obtain⟨n,hn⟩:∃n:Nat,v.ID=(n:Int):=⟨v.ID.toNat,by unfold I1000 at hI;omega⟩
   rw[g5p];simp only[SValue.g14];rw[r1,hn,wrpn (by unfold I1000 at hI;omega),g108 (by unfold I1000 at hI;omega)];simp only[oZ4,oZ3];rw[if_neg (by simp[e]),q2,if_pos (g8 q1)]
   match hI:v.Items,d2 with
   | [y],_=>
     have hy:y∈v.Items:=by rw[hI];exact .head _
     have hi0:inR 0 ([y]:List SValue).length=true:=g8 (k:=0) (by simp);have hwm:=g6i hy;have hf:=g35.1 d3 y hy;have hW:=hWI y hy _ hf (L+1) D (by omega) (by omega);have e1:addI .i64 (L:Int) 1=((L+1:Nat):Int):=gu (by omega);rw[if_pos hi0,e1];simp only[g9,Int.toNat_zero,List.getD_cons_zero];rw[hW];have hp:=hlenI y hy (x.Members.getD q dSMember).Type_
     have hp10:=g5w (n:=n) (by rw[hn]at n3;omega);simp only[oZ3];rw[if_pos (g3c (by omega))];have hlv:=gnv (ts:=ts) (x.Members.getD q dSMember).Type_ y;have ev:vlevs ts (x.Members.getD q dSMember).Type_ [y]=vlev ts (x.Members.getD q dSMember).Type_ y:=by
       have e0:vlevs ts (x.Members.getD q dSMember).Type_ []=0:=by rw[vlevs]
       rw[vlevs,e0];omega
     have ep:vpays ts (x.Members.getD q dSMember).Type_ [y]=[vpay ts (x.Members.getD q dSMember).Type_ y]:=by rw[vpays,vpays]
     have e:max D (L+1+vlev ts (x.Members.getD q dSMember).Type_ y - 1)=max D (L+vlev ts (x.Members.getD q dSMember).Type_ y):=by omega
     rw[ep,ev,e];rfl
 · rw[q3]at c5;rw[q3];simp only at c5 ⊢;obtain⟨d1,d2,d3,d4,d,d5⟩:=c5;obtain⟨n,hn⟩:∃n:Nat,v.ID=(n:Int):=⟨v.ID.toNat,by unfold I1000 at d3;omega⟩
   have hdl:=hrd ⟨v.ID,d⟩ (by rw[d5];exact .head _);simp only at hdl;unfold reachBytes at hdl;have hp10:=g5w (n:=n) (by rw[hn]at n3;omega);rw[g5p];simp only[SValue.g14];rw[r1,d5,hn,wrpn (by unfold I1000 at d3;omega),g108 (by unfold I1000 at d3;omega)];simp only[oZ4,oZ3]
   have hi0:inR 0 ([⟨(n:Int),d⟩]:List SRaw).length=true:=g8 (k:=0) (by simp);rw[if_pos (by simp[e]),if_pos hi0];simp only[Int.toNat_zero,List.getD_cons_zero];rw[if_pos (g3c (by omega))];have e:max D (L+0)=D:=by omega
   rw[e];rfl
set_option maxHeartbeats 400000 in
theorem g1n0(H:SOk ts){v:SValue}(hv:OkV v) :wt v≤1099511627776→∀t,vfit ts false t v→Wr ts v t:=by
 induction hv with
 | mk v hs h1 h2 h3 hk hi hrd n1 n2 n3 n4 ihk ihi=>
   intro hw t hf L D hL hLw;have hOk:OkV v:= .mk v hs h1 h2 h3 hk hi hrd n1 n2 n3 n4;have hwt:=wt_eq v;have hlenI:∀x,x∈v.Items→∀t,(vpay ts t x).length≤23089744183296:=fun x hx t=>gqv H (hi x hx) (by have:=g6i hx;omega) t
   have hlenK:∀x,x∈v.Keys→∀t,(vpay ts t x).length≤23089744183296:=fun x hx t=>gqv H (hk x hx) (by have:=g6i hx;omega) t
   have hWI:∀x,x∈v.Items→∀t,vfit ts false t x→Wr ts x t:=fun x hx t=>ihi x hx (by have:=g6i hx;omega) t
   have hWK:∀x,x∈v.Keys→∀t,vfit ts false t x→Wr ts x t:=fun x hx t=>ihk x hx (by have:=g6i hx;omega) t
   have hlenv:=gqv H hOk hw t;obtain⟨⟨g1,g2,g3,_⟩,hf⟩:=(gfw _ _ _).1 hf;obtain⟨j,rfl⟩:∃j:Nat,t=(j:Int):=⟨t.toNat,by omega⟩
   have hj:j < ts.length:=by omega
   rw[g1d];simp only[oZ4,oZ3];rw[if_pos (g8 hj),gw6];simp only[g9,SValue.g14]at hf g3 ⊢;have hxm:=gt hj dSType;have hlev:=g16q (ts:=ts) (j:Int) v;have hv1:=@vpay1 ts (j:Int) v;have hv2:=@vpay2 ts (j:Int) v;have hv3:=@vpay3 ts (j:Int) v;have hv4:=@vpay4 ts (j:Int) v;have hv5:=@vpay5 ts (j:Int) v;have hv6:=@vpay6 ts (j:Int) v
   have hv7:=@vpay7 ts (j:Int) v;have hv8:=@vpay8 ts (j:Int) v;have hv9:=@vpay9 ts (j:Int) v;simp only[g9]at hlev hv1 hv2 hv3 hv4 hv5 hv6 hv7 hv8 hv9;have hA:=H.A _ hxm;have hKy:=H.Ky _ hxm;have hS:=H.S _ hxm;generalize ts.getD j dSType=x at*;have hlE:¬x.Kind=5→¬x.Kind=6→v.Keys=[]→vlev ts (j:Int) v=1+vlevs ts x.Elem v.Items:=fun a b c=>by
     rw[hlev,if_neg a,if_neg b,if_pos c,Nat.zero_max]
   have leaf:v.Keys=[]→v.Items=[]→max D (L+vlev ts (j:Int) v - 1)=max D L:=fun a b=>by rw[g17s a b];omega
   rcases hf with⟨k,c1,c2,c3,c4,c5,c6⟩ | ⟨k,c1,c2,c3,c4,c5,c6,c7,c8⟩ | ⟨k,c1,c2,c3,c4,c5,c6,c7⟩ | ⟨k,c1,c2,c3,c4,c5,c6,c7⟩ | ⟨k,c1,c2,c3,c4,c5,c6,c7⟩ | ⟨k,c1,c2,c3,c4,c5⟩ | ⟨k,c1,c2,c3,c4,c5,c6,c7,c8⟩ | ⟨k,c1,c2,c3,c4,c5,c6,c7,c8,c9,c10⟩ | ⟨k,c1,c2,c3,c4,c5,c6,c7,c8⟩ <;> rw[k]at g3
   · have kx:=g3.symm;rw[if_pos (by simp[kx]),hv1 kx,leaf c4 c5];cases v.Bool_ <;> rfl
   · have kx:=g3.symm;rw[if_neg (by simp[kx]),if_pos (by simp[kx]),hv2 kx,leaf c4 c5,g1a8 n2];simp only[oZ3];have hz:=g1ae n2;obtain⟨n,hn⟩:∃n:Nat,zig v.Int_=(n:Int):=⟨(zig v.Int_).toNat,by unfold zig;split <;> omega⟩
     rw[hn,Int.toNat_natCast]at hz;rw[hn,g1g9 hz];rfl
   · have kx:=g3.symm;rw[if_neg (by simp[kx]),if_neg (by simp[kx]),if_pos (by simp[kx]),hv3 kx,leaf c4 c5]
   · have kx:=g3.symm;rw[if_neg (by simp[kx]),if_neg (by simp[kx]),if_neg (by simp[kx]),if_pos (by simp[kx]),hv4 kx,leaf c4 c5];obtain⟨n,hn⟩:∃n:Nat,v.ID=(n:Int):=⟨v.ID.toNat,by
       rcases c7 with⟨y,hy,he⟩ | ⟨_,_,he⟩
       · have:=hS kx y hy;unfold I1000 at this;omega
       · unfold I1000 at he;omega⟩
     rw[hn,wrpn (by omega),g1g9 (by omega),Int.toNat_natCast];rfl
   · have kx:=g3.symm;rw[if_neg (by simp[kx]),if_neg (by simp[kx]),if_neg (by simp[kx]),if_neg (by simp[kx]),if_pos (by simp[kx]),hv5 kx];obtain⟨hma,hm16⟩:=hA (.inl kx);obtain⟨hil,hip⟩:=gi3.1 c7
     rw[g1mz (H.T _ hxm).dv hma hm16 c6 hil (fun y hy=>hrd y hy) hlenI (fun i hi=>hWI _ (gt (by omega) dSValue) _ (hip i hi)) (by rw[←hv5 kx];exact hlenv) L (max D L) hL (by omega) (by omega) (by omega)];simp only[oZ3];rw[if_pos kx,if_pos c5]at hlev;have e:max (max D L) (L+vlevm ts x.Members v.Items)=max D (L+vlev ts (j:Int) v - 1):=mxs (mx0 hlev);rw[e]
   · have kx:=g3.symm;rw[if_neg (by simp[kx]),if_neg (by simp[kx]),if_neg (by simp[kx]),if_neg (by simp[kx]),if_neg (by simp[kx]),if_pos (by simp[kx]),hv6 kx];obtain⟨hma,hm16⟩:=hA (.inr kx);rw[if_neg (show ¬x.Kind=5 by omega),if_pos kx,if_pos c4]at hlev
     rw [g1gi (g1i (g5r (H.T _ hxm).mems)) hma n3 c5 (fun y hy => hrd y hy) hlenI hWI L (max D L) hL (by omega) (by omega)];simp only [oZ3];exact congrArg (fun z : Nat => (some (vput v.ID.toNat ++ (match findM x.Members v.ID with
         | some m=>(vpays ts m.Type_ v.Items).headD []
         | none=>(v.Rest.map SRaw.Data).headD []),ts,(z:Int)):Option (List UInt8 × List SType × Int))) (mxs (D:=D) (L:=L) (mx0 hlev))
   · have kx:=g3.symm;rw[if_neg (by simp[kx]),if_neg (by simp[kx]),if_neg (by simp[kx]),if_neg (by simp[kx]),if_neg (by simp[kx]),if_neg (by simp[kx]),if_neg (by simp[kx])];have hf:=g35.1 c8;rw[hv7 kx]at hlenv
     have:=g17t (x:=x) (v:=v) (by omega) (fun y hy=>by have:=hlenI y hy x.Elem;omega) (fun y hy=>hWI y hy x.Elem (hf y hy)) h2 L hL (by omega) v.Items.length 0 (max D L) [] (by omega) (by omega) (by simp only[List.drop_zero,List.length_nil];omega);have h0:g1f ((L:Int),v.Items,(v.Items.length:Int),0,ts,((max D L:Nat):Int),v,x,[])=_:=this;rw[h0]
     simp only[oZ3,bstr];have hl:=hlE (by omega) (by omega) c5;have e:max (max D L) (L+vlevs ts x.Elem v.Items)=max D (L+vlev ts (j:Int) v - 1):=mxs hl;rw[hv7 kx,List.drop_zero,List.nil_append,e]
   · have kx:=g3.symm;rw[if_neg (by simp[kx]),if_neg (by simp[kx]),if_neg (by simp[kx]),if_neg (by simp[kx]),if_neg (by simp[kx]),if_neg (by simp[kx]),if_neg (by simp[kx])];have hf:=g35.1 c9;have hfk:=g35.1 c8;rw[hv8 kx]at hlenv;obtain⟨ky1,ky2⟩:=hKy kx;have hl1:∀y,y∈v.Keys→vlev ts x.Key y=1:=fun y hy=>by
       obtain⟨⟨_,_,b3,_⟩,b⟩:=(gfw _ _ _).1 (hfk y hy);apply g17s <;> grind
     have:=g1ah (x:=x) (v:=v) kx c7 (fun y hy=>by have:=hlenI y hy x.Elem;omega) (fun y hy=>by have:=hlenK y hy x.Key;omega) (fun y hy=>hWI y hy x.Elem (hf y hy)) (fun y hy=>hWK y hy x.Key (hfk y hy)) hl1 h2 L hL (by omega) v.Items.length 0 (max D L) [] (by omega) (by omega) (by simp only[List.drop_zero,List.length_nil];omega)
     have h0:g1f ((L:Int),v.Items,(v.Items.length:Int),0,ts,((max D L:Nat):Int),v,x,[])=_:=this;rw[h0];simp only[oZ3,bstr];rw[if_neg (show ¬x.Kind=5 by omega),if_neg (show ¬x.Kind=6 by omega)]at hlev;simp only[List.drop_zero,List.nil_append]
     have e:max (max D L) (L+max (if v.Keys=[]then 0 else 1) (vlevs ts x.Elem v.Items))=max D (L+vlev ts (j:Int) v - 1):=mxs hlev;rw[hv8 kx,e]
   · have kx:=g3.symm;rw[if_neg (by simp[kx]),if_neg (by simp[kx]),if_neg (by simp[kx]),if_neg (by simp[kx]),if_neg (by simp[kx]),if_neg (by simp[kx]),if_pos (by simp[kx]),hv9 kx];have hf:=g35.1 c8
     match hI:v.Items,c7 with
     | [],_=>
       rw[if_pos (by simp),leaf c5 hI,vpays]
     | [y],_=>
       have hy:y∈v.Items:=by rw[hI];exact .head _
       have hi0:inR 0 ([y]:List SValue).length=true:=g8 (k:=0) (by simp);rw[if_neg (by simp),if_pos hi0];have hwm:=g6i hy;have hW:=hWI y hy x.Elem (hf y hy) (L+1) (max D L) (by omega) (by omega);have e1:addI .i64 (L:Int) 1=((L+1:Nat):Int):=gu (by omega);rw[e1];simp only[Int.toNat_zero,List.getD_cons_zero];rw[hW];have hp:=hlenI y hy x.Elem
       simp only[oZ3];rw[if_pos (g3c (by simp;omega))];have hl:=hlE (by omega) (by omega) c5;rw[hI]at hl;have hlv:=gnv (ts:=ts) x.Elem y;have ev:vlevs ts x.Elem [y]=vlev ts x.Elem y:=by
         have e0:vlevs ts x.Elem []=0:=by rw[vlevs]
         rw[vlevs,e0];omega
       have ep:vpays ts x.Elem [y]=[vpay ts x.Elem y]:=by rw[vpays,vpays]
       rw[ev]at hl;have e:max (max D L) (L+1+vlev ts x.Elem y - 1)=max D (L+vlev ts (j:Int) v - 1):=mxq hl;rw[ep,e];rfl
     | a::b::c,h=>simp at h
end
end
section
open Go Go.Proofs.YthnmepafpikaiaaGreat.Shv Go.Sort
set_option maxRecDepth 100000
section
variable {ts:List SType}
def Rp(ts:List SType)(x:SValue)(t:Int) :Prop:=g2g ((⟨ts⟩:SSchema),t,x)=some (vpay ts t x)
def Rl(ts:List SType)(x:SValue)(t:Int) :Prop:=g4j ((⟨ts⟩:SSchema),t,x)=some ((vlev ts t x:Nat):Int)
theorem g1ai {x : SType} {v : SValue} (hlen : ∀ y, y ∈ v.Items → (vpay ts x.Elem y).length ≤ 1000000000000000) (hw : ∀ y, y ∈ v.Items → Rp ts y x.Elem) (hl : v.Items.length ≤ reachBytes) :
   ∀(k i:Nat) (acc:List UInt8),i+k=v.Items.length→acc.length+((vpays ts x.Elem (v.Items.drop i)).flatMap g2z).length≤70368744177664→
   g5n (acc,(i:Int),ts,v,x)=some (acc++(vpays ts x.Elem (v.Items.drop i)).flatMap g2z)
 | 0,i,acc,hi,ha=>by
   rw[g5n,if_neg (by simp;omega),List.drop_eq_nil_of_le (by omega:v.Items.length≤i),vpays];simp
 | k+1,i,acc,hi,ha=>by
   have hlt:i < v.Items.length:=by omega
   have hr:=g1i hl;have hmem:v.Items.getD i dSValue∈v.Items:=gt hlt dSValue;rw[g2r hlt dSValue,vpays,List.flatMap_cons,List.length_append]at ha;have hp:=hlen _ hmem;have hW:=hw _ hmem;unfold Rp at hW;rw[g5n,if_pos (by simp;omega),if_pos (g8 hlt)];simp only[oZ4,oZ3,g9,SValue.g14];rw[hW];simp only[oZ3];rw[go1 (by omega)]
   simp only[oZ3];rw[if_pos (g3c (by omega)),gu (by omega),g1ai hlen hw hl k (i+1) _ (by omega) (by rw[List.length_append];omega),g2r hlt dSValue,vpays,List.flatMap_cons,List.append_assoc]
theorem g1cd {x : SType} {v : SValue} (hkl : v.Items.length = v.Keys.length) (hlen : ∀ y, y ∈ v.Items → (vpay ts x.Elem y).length ≤ 1000000000000000) (hlenk : ∀ y, y ∈ v.Keys → (vpay ts x.Key y).length ≤ 1000000000000000)
   (hw:∀y,y∈v.Items→Rp ts y x.Elem) (hwk:∀y,y∈v.Keys→Rp ts y x.Key) (hl:v.Items.length≤reachBytes):
   ∀(k i:Nat) (acc:List UInt8),i+k=v.Items.length→acc.length+(ilv (vpays ts x.Key (v.Keys.drop i)) (vpays ts x.Elem (v.Items.drop i))).length≤70368744177664→
   g5o (acc,(i:Int),ts,v,x)=some (acc++ilv (vpays ts x.Key (v.Keys.drop i)) (vpays ts x.Elem (v.Items.drop i)))
 | 0,i,acc,hi,ha=>by
   rw[g5o,if_neg (by simp;omega),List.drop_eq_nil_of_le (by omega:v.Items.length≤i),List.drop_eq_nil_of_le (by omega:v.Keys.length≤i),vpays,vpays,ilv]
   · simp
   · intros;simp_all
 | k+1,i,acc,hi,ha=>by
   have hlt:i < v.Items.length:=by omega
   have hlt2:i < v.Keys.length:=by omega
   have hr:=g1i hl;have hmem:v.Items.getD i dSValue∈v.Items:=gt hlt dSValue;have hmem2:v.Keys.getD i dSValue∈v.Keys:=gt hlt2 dSValue;rw[g2r hlt dSValue,g2r hlt2 dSValue,vpays,vpays,ilv,List.length_append,List.length_append]at ha;have hp:=hlen _ hmem;have hp2:=hlenk _ hmem2;have hW:=hw _ hmem;have hW2:=hwk _ hmem2;unfold Rp at hW hW2
   rw[g5o,if_pos (by simp;omega),if_pos (g8 hlt2)];simp only[oZ4,oZ3,g9,SValue.g14];rw[hW2];simp only[oZ3];rw[go1 (by omega)];simp only[oZ3];rw[if_pos (g3c (by omega)),if_pos (g8 hlt),hW];simp only[oZ3];rw[go1 (by omega)];simp only[oZ3]
   rw[if_pos (g3c (by rw[List.length_append];omega)),gu (by omega),g1cd hkl hlen hlenk hw hwk hl k (i+1) _ (by omega) (by rw[List.length_append,List.length_append];omega),g2r hlt dSValue,g2r hlt2 dSValue,vpays,vpays,ilv,List.append_assoc,List.append_assoc]
def ge7(R:List SRaw)(n:Nat) :List Fd:=(R.filter fun x=>decide (x.ID=(n:Int))).map rawF
theorem g1ec{a:SRaw}{l:List SRaw}{n:Nat}(h:a.ID=(n:Int)) :ge7 (a::l) n=rawF a::ge7 l n:=by
 unfold ge7;rw[List.filter_cons,if_pos (by rw[h];simp),List.map_cons]
theorem g1gj{a:SRaw}{l:List SRaw}{n:Nat}(h:¬a.ID=(n:Int)) :ge7 (a::l) n=ge7 l n:=by
 unfold ge7;rw[List.filter_cons,if_neg (by simpa using h)]
theorem refOm {γ : Type} {m : SMember} {w : SValue} (hw : OkV w) (A B : Option γ) :
   ((if(!(!m.HasDefault))=true then g1y (w,m.Default)else some false).bind fun r_19=>if(bif (!m.HasDefault)then true else(!r_19))=true then A else B)=if om m w=true then B else A:=by
 cases hd:m.HasDefault with
 | false=>
   have:om m w=false:=by unfold om;rw[hd];rfl
   rw[this];rfl
 | true=>
   have:=g1cc hw hd;simp only[Bool.not_true,Bool.not_false,if_true,this];cases om m w <;> rfl
theorem gxf {x : SType} {v : SValue} (hr : ∀ y, y ∈ v.Rest → y.Data.length ≤ reachBytes) (hR : v.Rest.length ≤ reachBytes) (n : Nat) (hn : n ≤ 1000) :
   ∀(k i:Nat) (out:List UInt8),i+k=v.Rest.length→out.length+((ge7 (v.Rest.drop i) n).flatMap Fd.text).length≤70368744177664→
   g2l (out,(n:Int),(i:Int),ts,v,x)=some (out++(ge7 (v.Rest.drop i) n).flatMap Fd.text,(n:Int),ts,v,x)
 | 0,i,out,hi,ha=>by
   rw[g2l,if_neg (by simp;omega),List.drop_eq_nil_of_le (by omega:v.Rest.length≤i),SValue.g14];simp[ge7]
 | k+1,i,out,hi,ha=>by
   have hlt:i < v.Rest.length:=by omega
   have hrr:=g1i hR;have hd:=hr _ (gt hlt dSRaw);unfold reachBytes at hd;rw[g2r hlt dSRaw]at ha;rw[g2l,if_pos (by simp;omega),if_pos (g8 hlt)];simp only[oZ4,oZ3,g9,SValue.g14];rw[g2r hlt dSRaw];by_cases e:(v.Rest.getD i dSRaw).ID=(n:Int)
   · rw[g1ec e,List.flatMap_cons]at ha ⊢;have ht:(rawF (v.Rest.getD i dSRaw)).text=g6b n false (v.Rest.getD i dSRaw).Data:=by
       unfold rawF Fd.text;rw[e];rfl
     rw[ht,List.length_append]at ha;rw[if_pos (by rw[e];simp),if_pos (g8 hlt),g124 (by omega) (by omega)];simp only[oZ3];rw[if_pos (g3c (by omega)),gu (by omega),gxf hr hR n hn k (i+1) _ (by omega) (by rw[List.length_append];omega),ht,List.append_assoc]
   · rw[g1gj e]at ha ⊢;rw[if_neg (by simpa using e),gu (by omega),gxf hr hR n hn k (i+1) _ (by omega) ha]
noncomputable def grp (ts:List SType) (x:SType) (v:SValue) (n:Nat):List Fd:=(g74 ts x.Members v.Items v.Rest).filter fun f=>decide (f.id=n)
theorem g16r {x : SType} {v : SValue} (hm : x.Members.length < 9223372036854775807) (hma : MAsc x.Members) (hrk : gi2 x.Members v.Rest) (hil : v.Items.length = x.Members.length)
   (hr:∀y,y∈v.Rest→y.Data.length≤reachBytes) (hR:v.Rest.length≤reachBytes) (hok:∀y,y∈v.Items→OkV y) (hlenI:∀x,x∈v.Items→∀t,(vpay ts t x).length≤23089744183296)
   (hw:∀i,i < x.Members.length→Rp ts (v.Items.getD i dSValue) (x.Members.getD i dSMember).Type_):
   ∀(k n:Nat) (out:List UInt8),n+k=1001→1≤n→out.length+(((List.range' n k).flatMap (grp ts x v)).flatMap Fd.text).length≤70368744177664→
   g3n (out,(n:Int),ts,v,x)=some (out++((List.range' n k).flatMap (grp ts x v)).flatMap Fd.text)
 | 0,n,out,hi,h1,ha=>by
   rw[g3n,if_neg (by simp;omega)];simp
 | k+1,n,out,hi,h1,ha=>by
   have hid0:∀y,y∈v.Rest→0≤y.ID:=fun y hy=>by have:=(hrk.2 y hy).1;unfold I1000 at this;omega
   have hg:grp ts x v n=((vents ts x.Members v.Items).filter fun f=>decide (f.id=n))++ge7 v.Rest n:=by
     unfold grp g74 ge7;rw[List.filter_append,g1bm _ _ hid0]
   rw[List.range'_succ,List.flatMap_cons,List.flatMap_append,hg,List.flatMap_append]at ha ⊢;simp only[List.length_append]at ha;rw[g3n,if_pos (by simp;omega)];obtain⟨r,_,r2,hf⟩:=g73 (t:=x) (n:Int) hm;simp only[oZ4,oZ3,g9,SValue.g14];rw[r2];simp only[oZ3]
   have inner:∀out':List UInt8,out'.length+((ge7 v.Rest n).flatMap Fd.text).length≤70368744177664→g2l (out',(n:Int),0,ts,v,x)=some (out'++(ge7 v.Rest n).flatMap Fd.text,(n:Int),ts,v,x):=fun out' h=>by
     have:=gxf (ts:=ts) (x:=x) hr hR n (by omega) v.Rest.length 0 out' (by omega) (by simpa using h)
     simpa using this
   rcases gd3 hf with⟨e,j,q1,q2,q3,q4⟩ | ⟨e,q3⟩
   · have hlt2:j < v.Items.length:=by omega
     have hmem:v.Items.getD j dSValue∈v.Items:=gt hlt2 dSValue;have hfd:=g128 (ts:=ts) (g1ca hma) hil q1 (n:=n) (by rw[q4];simp);rw[if_pos e,q2,if_pos (g8 q1)];rw[if_pos (by rw[g8 hlt2];rfl)];simp only[g9];rw[refOm (hok _ hmem)];have hrec:=g16r hm hma hrk hil hr hR hok hlenI hw k (n+1);cases ho:om (x.Members.getD j dSMember) (v.Items.getD j dSValue)with
     | true=>
       rw[ho,if_pos rfl]at hfd;rw[hfd]at ha ⊢;rw[if_pos rfl,inner out (by omega)];simp only[oZ3,SValue.g14];rw[gu (by omega),hrec _ (by omega) (by omega) (by rw[List.length_append];omega)];simp
     | false=>
       rw[ho,if_neg (by simp)]at hfd;rw[hfd]at ha ⊢;have hp:=hlenI _ hmem (x.Members.getD j dSMember).Type_;have hW:=hw j q1;unfold Rp at hW
       have ht:([⟨n,(x.Members.getD j dSMember).Critical,vpay ts (x.Members.getD j dSMember).Type_ (v.Items.getD j dSValue)⟩]:List Fd).flatMap Fd.text=g6b n (x.Members.getD j dSMember).Critical (vpay ts (x.Members.getD j dSMember).Type_ (v.Items.getD j dSValue)):=by
         simp only[List.flatMap_cons,List.flatMap_nil,List.append_nil];rfl
       rw[ht]at ha ⊢;rw[if_neg (by simp),if_pos (g8 hlt2),hW];simp only[oZ3];rw[g124 (by omega) (by omega)];simp only[oZ3];rw[if_pos (g3c (by omega)),inner _ (by rw[List.length_append];omega)];simp only[oZ3,SValue.g14];rw[gu (by omega),hrec _ (by omega) (by omega) (by rw[List.length_append,List.length_append];omega)]
       simp only[List.append_assoc]
   · have hnone:((vents ts x.Members v.Items).filter fun f=>decide (f.id=n))=[]:=g15o fun m hm'=>by
       have:=gxe q3 m hm';have:=hma.2 m hm';unfold I1000 at this;omega
     rw[hnone]at ha ⊢;rw[if_neg (by simp[e]),inner out (by omega)];simp only[oZ3,SValue.g14];rw[gu (by omega),g16r hm hma hrk hil hr hR hok hlenI hw k (n+1) _ (by omega) (by omega) (by rw[List.length_append];omega)];simp
end
end
section
open Go Go.Proofs.YthnmepafpikaiaaGreat.Shv Go.Sort
set_option maxRecDepth 100000
section
variable {ts:List SType}
theorem g1ql {γ : Type} {m : SMember} {w : SValue} (hw : OkV w) (A B : Option γ) :
   ((if m.HasDefault=true then g1y (w,m.Default)else some false).bind fun r=>if(bif m.HasDefault then r else false)=true then A else B)=if om m w=true then A else B:=by
 cases hd:m.HasDefault with
 | false=>
   have:om m w=false:=by unfold om;rw[hd];rfl
   rw[this];rfl
 | true=>
   have:=g1cc hw hd;simp only[if_true,this];cases om m w <;> rfl
theorem g1aj {x : SType} {v : SValue} (h5 : ¬ x.Kind = 5) (h6 : ¬ x.Kind = 6) (hw : ∀ y, y ∈ v.Items → Rl ts y x.Elem) (hl : v.Items.length ≤ reachBytes) :
   ∀(k i b:Nat),i+k=v.Items.length→g16 ((b:Int),(i:Int),ts,v,x)=some (((max b (vlevs ts x.Elem (v.Items.drop i)):Nat):Int),v)
 | 0,i,b,hi=>by
   rw[g16,if_neg (by simp;omega),List.drop_eq_nil_of_le (by omega:v.Items.length≤i),vlevs,SValue.g14,Nat.max_zero]
 | k+1,i,b,hi=>by
   have hlt:i < v.Items.length:=by omega
   have hr:=g1i hl;have hW:=hw _ (gt hlt dSValue);unfold Rl at hW;rw[g16,if_pos (by simp;omega),if_neg (by simp[h5]),if_neg (by simp[h6]),if_pos (g8 hlt)];simp only[g9,SValue.g14];rw[hW];simp only[oZ4,oZ3];rw[gw6,gu (by omega),g1aj h5 h6 hw hl k (i+1) _ (by omega),g2r hlt dSValue,vlevs,Nat.max_assoc]
theorem g1ce {x : SType} {v : SValue} (h5 : x.Kind = 5) (hil : v.Items.length = x.Members.length) (hok : ∀ y, y ∈ v.Items → OkV y) (hw : ∀ i, i < x.Members.length → Rl ts (v.Items.getD i dSValue) (x.Members.getD i dSMember).Type_) (hl : v.Items.length ≤ reachBytes) :
   ∀(k i b:Nat),i+k=v.Items.length→g16 ((b:Int),(i:Int),ts,v,x)=some (((max b (vlevm ts (x.Members.drop i) (v.Items.drop i)):Nat):Int),v)
 | 0,i,b,hi=>by
   rw[g16,if_neg (by simp;omega),List.drop_eq_nil_of_le (by omega:v.Items.length≤i),SValue.g14,List.drop_eq_nil_of_le (by omega:x.Members.length≤i)];rw[vlevm]
   · rw[Nat.max_zero]
   · intros;simp_all
 | k+1,i,b,hi=>by
   have hlt:i < v.Items.length:=by omega
   have hlt2:i < x.Members.length:=by omega
   have hr:=g1i hl;have hmem:=gt hlt dSValue;have hW:=hw i hlt2;unfold Rl at hW;rw[g16,if_pos (by simp;omega),if_pos (by simp[h5]),if_pos (g8 hlt2)];simp only[oZ4,oZ3,g9,SValue.g14];rw[if_pos (by rw[g8 hlt];rfl),g1ql (hok _ hmem)];have hrec:=g1ce h5 hil hok hw hl k (i+1);rw[g2r hlt dSValue,g2r hlt2 dSMember,vlevm]
   cases ho:om (x.Members.getD i dSMember) (v.Items.getD i dSValue)with
   | true=>
     rw[if_pos rfl,gu (by omega),hrec _ (by omega),if_pos rfl]
   | false=>
     rw[if_neg (by simp),if_neg (by simp[h5]),if_pos (g8 hlt),hW];simp only[oZ3];rw[gw6,gu (by omega),hrec _ (by omega),if_neg (by simp),Nat.max_assoc]
theorem g1cf {x : SType} {v : SValue} (h6 : x.Kind = 6) {j : Nat} (hj : j < x.Members.length) (hM : g20 (x, v.ID) = some ((j : Int), true)) (hw : ∀ y, y ∈ v.Items → Rl ts y (x.Members.getD j dSMember).Type_) (hl : v.Items.length ≤ reachBytes) :
   ∀(k i b:Nat),i+k=v.Items.length→g16 ((b:Int),(i:Int),ts,v,x)=some (((max b (vlevs ts (x.Members.getD j dSMember).Type_ (v.Items.drop i)):Nat):Int),v)
 | 0,i,b,hi=>by
   rw[g16,if_neg (by simp;omega),List.drop_eq_nil_of_le (by omega:v.Items.length≤i),vlevs,SValue.g14,Nat.max_zero]
 | k+1,i,b,hi=>by
   have hlt:i < v.Items.length:=by omega
   have hr:=g1i hl;have hW:=hw _ (gt hlt dSValue);unfold Rl at hW;rw[g16,if_pos (by simp;omega),if_neg (by simp[h6]),if_pos (by simp[h6]),hM];simp only[oZ4,oZ3,g9,SValue.g14];rw[if_pos (g8 hj),if_pos (g8 hlt),hW];simp only[oZ3];rw[gw6,gu (by omega),g1cf h6 hj hM hw hl k (i+1) _ (by omega),g2r hlt dSValue,vlevs,Nat.max_assoc]
theorem g10l {x : SType} {v : SValue} {b w : Nat} (hL : g16 (0, 0, ts, v, x) = some (((max 0 b : Nat) : Int), v)) (hb : b < 1152921504606846976) (hw : w = 1 + max (if v.Keys = [] then 0 else 1) b) :
   (g16 (0,0,ts,v,x) >>=fun o=>if decide (0 < (o.2.Keys.length:Int))=true then some (addI .i64 1 (maxI o.1 1))else some (addI .i64 1 o.1))=some (w:Int):=by
 rw[hL];simp only[oZ4,oZ3];by_cases hk:v.Keys=[]
 · rw[if_neg (by simp[hk])];rw[if_pos hk]at hw;have:addI .i64 1 ((max 0 b:Nat):Int)=((1+max 0 b:Nat):Int):=g10j (a:=1) (by omega);rw[this,hw]
 · rw[if_pos (by
     have:0 < v.Keys.length:=List.length_pos_iff.2 hk
     simpa using this)]
   rw[if_neg hk]at hw;have e:maxI ((max 0 b:Nat):Int) 1=((max 1 b:Nat):Int):=by
     have:=gw6 (max 0 b) 1;have e2:max (max 0 b) 1=max 1 b:=by omega
     rw[e2]at this;exact this
   rw[e];have:addI .i64 1 ((max 1 b:Nat):Int)=((1+max 1 b:Nat):Int):=g10j (a:=1) (by omega);rw[this,hw]
theorem g1n1(H:SOk ts){v:SValue}(hv:OkV v) :wt v≤1099511627776→∀t,vfit ts false t v→Rl ts v t:=by
 induction hv with
 | mk v hs h1 h2 h3 hk hi hrd n1 n2 n3 n4 ihk ihi=>
   intro hw t hf;have hwt:=wt_eq v;have hWI:∀x,x∈v.Items→∀t,vfit ts false t x→Rl ts x t:=fun x hx t=>ihi x hx (by have:=g6i hx;omega) t
   obtain⟨⟨g1,g2,g3,_⟩,hf⟩:=(gfw _ _ _).1 hf;obtain⟨j,rfl⟩:∃j:Nat,t=(j:Int):=⟨t.toNat,by omega⟩
   have hj:j < ts.length:=by omega
   unfold Rl;rw[g4j,if_pos (g8 hj)];simp only[g9,SValue.g14]at hf g3 ⊢;have hxm:=gt hj dSType;have hlev:=g16q (ts:=ts) (j:Int) v;simp only[g9]at hlev;have hA:=H.A _ hxm;have hm:=g1i (g5r (H.T _ hxm).mems);generalize ts.getD j dSType=x at*;have b1:∀E,vlevs ts E v.Items < 1152921504606846976:=fun E=>by have:=vlevs_le ts v.Items E;omega
   have b2:∀E,vlevm ts E v.Items < 1152921504606846976:=fun E=>by have:=vlevm_le ts v.Items E;omega
   have easy:¬x.Kind=5→¬x.Kind=6→(∀y,y∈v.Items→vfit ts false x.Elem y)→(g16 (0,0,ts,v,x) >>=fun o=>if decide (0 < (o.2.Keys.length:Int))=true then some (addI .i64 1 (maxI o.1 1))else some (addI .i64 1 o.1))=some ((vlev ts (j:Int) v:Nat):Int):=by
     intro a b c;have hL:=g1aj (ts:=ts) (x:=x) (v:=v) a b (fun y hy=>hWI y hy _ (c y hy)) h2 v.Items.length 0 0 (by omega);rw[if_neg a,if_neg b]at hlev;exact g10l hL (b1 _) hlev
   rcases hf with⟨k,c1,c2,c3,c4,c5,c6⟩ | ⟨k,c1,c2,c3,c4,c5,c6,c7,c8⟩ | ⟨k,c1,c2,c3,c4,c5,c6,c7⟩ | ⟨k,c1,c2,c3,c4,c5,c6,c7⟩ | ⟨k,c1,c2,c3,c4,c5,c6,c7⟩ | ⟨k,c1,c2,c3,c4,c5⟩ | ⟨k,c1,c2,c3,c4,c5,c6,c7,c8⟩ | ⟨k,c1,c2,c3,c4,c5,c6,c7,c8,c9,c10⟩ | ⟨k,c1,c2,c3,c4,c5,c6,c7,c8⟩ <;> rw[k]at g3
   · exact easy (by omega) (by omega) (by rw[c5];intro y hy;cases hy)
   · exact easy (by omega) (by omega) (by rw[c5];intro y hy;cases hy)
   · exact easy (by omega) (by omega) (by rw[c5];intro y hy;cases hy)
   · exact easy (by omega) (by omega) (by rw[c5];intro y hy;cases hy)
   · obtain⟨hil,hip⟩:=gi3.1 c7;have hL:=g1ce (ts:=ts) (x:=x) (v:=v) g3.symm hil hi (fun i hi'=>hWI _ (gt (by omega) dSValue) _ (hip i hi')) h2 v.Items.length 0 0 (by omega);rw[if_pos g3.symm]at hlev;exact g10l hL (b2 _) hlev
   · rw[if_neg (show ¬x.Kind=5 by omega),if_pos g3.symm]at hlev;obtain⟨r,_,r2,hf⟩:=g73 (t:=x) v.ID hm;rcases gd3 hf with⟨e,q,q1,q2,q3,q4⟩ | ⟨e,q3⟩
     · rw[q3]at c5 hlev;simp only at c5 hlev;obtain⟨d1,d2,d3⟩:=c5;have hr:r=((q:Int),true):=by rw[←q2,←e]
       have hL:=g1cf (ts:=ts) (x:=x) (v:=v) g3.symm q1 (by rw[r2,hr]) (fun y hy=>hWI y hy _ (g35.1 d3 y hy)) h2 v.Items.length 0 0 (by omega);exact g10l hL (b1 _) hlev
     · rw[q3]at c5 hlev;simp only at c5 hlev;have hi0:v.Items=[]:=c5.2.2.2.1;have hL:g16 (0,0,ts,v,x)=some (((max 0 0:Nat):Int),v):=by
         rw[g16,if_neg (by simp[hi0]),SValue.g14];rfl
       exact g10l hL (by omega) hlev
   · exact easy (by omega) (by omega) (g35.1 c8)
   · exact easy (by omega) (by omega) (g35.1 c9)
   · exact easy (by omega) (by omega) (g35.1 c8)
set_option maxHeartbeats 400000 in
theorem g1n2(H:SOk ts){v:SValue}(hv:OkV v) :wt v≤1099511627776→∀t,vfit ts false t v→Rp ts v t:=by
 induction hv with
 | mk v hs h1 h2 h3 hk hi hrd n1 n2 n3 n4 ihk ihi=>
   intro hw t hf;have hOk:OkV v:= .mk v hs h1 h2 h3 hk hi hrd n1 n2 n3 n4;have hwt:=wt_eq v;have hlenI:∀x,x∈v.Items→∀t,(vpay ts t x).length≤23089744183296:=fun x hx t=>gqv H (hi x hx) (by have:=g6i hx;omega) t
   have hlenK:∀x,x∈v.Keys→∀t,(vpay ts t x).length≤23089744183296:=fun x hx t=>gqv H (hk x hx) (by have:=g6i hx;omega) t
   have hWI:∀x,x∈v.Items→∀t,vfit ts false t x→Rp ts x t:=fun x hx t=>ihi x hx (by have:=g6i hx;omega) t
   have hWK:∀x,x∈v.Keys→∀t,vfit ts false t x→Rp ts x t:=fun x hx t=>ihk x hx (by have:=g6i hx;omega) t
   have hlenv:=gqv H hOk hw t;obtain⟨⟨g1,g2,g3,_⟩,hf⟩:=(gfw _ _ _).1 hf;obtain⟨j,rfl⟩:∃j:Nat,t=(j:Int):=⟨t.toNat,by omega⟩
   have hj:j < ts.length:=by omega
   unfold Rp;rw[g2g,if_pos (g8 hj)];simp only[oZ4,oZ3,g9,SValue.g14]at hf g3 ⊢;have hxm:=gt hj dSType;have hv1:=@vpay1 ts (j:Int) v;have hv2:=@vpay2 ts (j:Int) v;have hv3:=@vpay3 ts (j:Int) v;have hv4:=@vpay4 ts (j:Int) v;have hv5:=@vpay5 ts (j:Int) v;have hv6:=@vpay6 ts (j:Int) v;have hv7:=@vpay7 ts (j:Int) v
   have hv8:=@vpay8 ts (j:Int) v;have hv9:=@vpay9 ts (j:Int) v;simp only[g9]at hv1 hv2 hv3 hv4 hv5 hv6 hv7 hv8 hv9;have hA:=H.A _ hxm;have hS:=H.S _ hxm;have hm:=g1i (g5r (H.T _ hxm).mems);generalize ts.getD j dSType=x at*
   rcases hf with⟨k,c1,c2,c3,c4,c5,c6⟩ | ⟨k,c1,c2,c3,c4,c5,c6,c7,c8⟩ | ⟨k,c1,c2,c3,c4,c5,c6,c7⟩ | ⟨k,c1,c2,c3,c4,c5,c6,c7⟩ | ⟨k,c1,c2,c3,c4,c5,c6,c7⟩ | ⟨k,c1,c2,c3,c4,c5⟩ | ⟨k,c1,c2,c3,c4,c5,c6,c7,c8⟩ | ⟨k,c1,c2,c3,c4,c5,c6,c7,c8,c9,c10⟩ | ⟨k,c1,c2,c3,c4,c5,c6,c7,c8⟩ <;> rw[k]at g3 <;> have kx:=g3.symm
   · rw[if_pos (by simp[kx]),hv1 kx];cases v.Bool_ <;> rfl
   · rw[if_neg (by simp[kx]),if_pos (by simp[kx]),hv2 kx,gsk n2];simp only[oZ3];have hz:=g1ae n2;obtain⟨n,hn⟩:∃n:Nat,zig v.Int_=(n:Int):=⟨(zig v.Int_).toNat,by unfold zig;split <;> omega⟩
     rw[hn,Int.toNat_natCast]at hz;rw[hn,g17m hz];rfl
   · rw[if_neg (by simp[kx]),if_neg (by simp[kx]),if_pos (by simp[kx]),hv3 kx]
   · rw[if_neg (by simp[kx]),if_neg (by simp[kx]),if_neg (by simp[kx]),if_pos (by simp[kx]),hv4 kx];obtain⟨n,hn⟩:∃n:Nat,v.ID=(n:Int):=⟨v.ID.toNat,by
       rcases c7 with⟨y,hy,he⟩ | ⟨_,_,he⟩
       · have:=hS kx y hy;unfold I1000 at this;omega
       · unfold I1000 at he;omega⟩
     rw[hn,wrpn (by omega),g17m (by omega),Int.toNat_natCast];rfl
   · rw[if_neg (by simp[kx]),if_neg (by simp[kx]),if_neg (by simp[kx]),if_neg (by simp[kx]),if_neg (by simp[kx]),if_neg (by simp[kx]),if_neg (by simp[kx]),if_neg (by simp[kx]),hv5 kx];obtain⟨hma,hm16⟩:=hA (.inl kx);obtain⟨hil,hip⟩:=gi3.1 c7;rw[hv5 kx]at hlenv;have hsg:=g18j (gjr (ts:=ts) (l:=v.Items) hma c6) (fun y hy=>g10e hma c6 hy)
     have e0:(fun n=>(g74 ts x.Members v.Items v.Rest).filter fun f=>decide (f.id=n))=grp ts x v:=rfl;rw[e0]at hsg;rw[hsg]at hlenv ⊢;have:=g16r (ts:=ts) hm hma c6 hil (fun y hy=>hrd y hy) h3 hi hlenI (fun i hi'=>hWI _ (gt (by omega) dSValue) _ (hip i hi')) 1000 1 [] (by omega) (by omega) (by simp only[List.length_nil];omega)
     have h0:g3n ([],1,ts,v,x)=_:=this;rw[h0];rfl
   · rw[if_neg (by simp[kx]),if_neg (by simp[kx]),if_neg (by simp[kx]),if_neg (by simp[kx]),if_neg (by simp[kx]),if_pos (by simp[kx]),hv6 kx];obtain⟨hma,hm16⟩:=hA (.inr kx);obtain⟨r,_,r2,hf⟩:=g73 (t:=x) v.ID hm;rcases gd3 hf with⟨e,q,q1,q2,q3,q4⟩ | ⟨e,q3⟩
     · rw[q3]at c5;rw[q3];simp only at c5 ⊢;obtain⟨d1,d2,d3⟩:=c5;have hI:=hma.2 _ (gt q1 dSMember);rw[q4]at hI;obtain⟨n,hn⟩:∃n:Nat,v.ID=(n:Int):=⟨v.ID.toNat,by unfold I1000 at hI;omega⟩
       rw[if_neg (by simp[d1]),r2,hn,wrpn (by unfold I1000 at hI;omega),gow (by unfold I1000 at hI;omega)];simp only[oZ3];rw[q2,if_pos (g8 q1)]
       match hI:v.Items,d2 with
       | [y],_=>
         have hy:y∈v.Items:=by rw[hI];exact .head _
         have hi0:inR 0 ([y]:List SValue).length=true:=g8 (k:=0) (by simp);have hf:=g35.1 d3 y hy;have hW:=hWI y hy _ hf;unfold Rp at hW;rw[if_pos hi0];simp only[g9,Int.toNat_zero,List.getD_cons_zero];rw[hW];have hp:=hlenI y hy (x.Members.getD q dSMember).Type_;have hp10:=g5w (n:=n) (by rw[hn]at n3;omega);simp only[oZ3]
         rw[if_pos (g3c (by omega))];have ep:vpays ts (x.Members.getD q dSMember).Type_ [y]=[vpay ts (x.Members.getD q dSMember).Type_ y]:=by rw[vpays,vpays]
         rw[ep];rfl
     · rw[q3]at c5;rw[q3];simp only at c5 ⊢;obtain⟨d1,d2,d3,d4,d,d5⟩:=c5;obtain⟨n,hn⟩:∃n:Nat,v.ID=(n:Int):=⟨v.ID.toNat,by unfold I1000 at d3;omega⟩
       have hdl:=hrd ⟨v.ID,d⟩ (by rw[d5];exact .head _);simp only at hdl;unfold reachBytes at hdl;have hp10:=g5w (n:=n) (by rw[hn]at n3;omega);rw[d5,hn,if_pos (by simp),wrpn (by unfold I1000 at d3;omega),gow (by unfold I1000 at d3;omega)];simp only[oZ3];have hi0:inR 0 ([⟨(n:Int),d⟩]:List SRaw).length=true:=g8 (k:=0) (by simp);rw[if_pos hi0]
       simp only[Int.toNat_zero,List.getD_cons_zero];rw[if_pos (g3c (by omega))];rfl
   · rw[if_neg (by simp[kx]),if_neg (by simp[kx]),if_neg (by simp[kx]),if_neg (by simp[kx]),if_neg (by simp[kx]),if_neg (by simp[kx]),if_pos (by simp[kx])];have hf:=g35.1 c8;rw[hv7 kx]at hlenv ⊢
     have:=g1ai (ts:=ts) (x:=x) (v:=v) (fun y hy=>by have:=hlenI y hy x.Elem;omega) (fun y hy=>hWI y hy x.Elem (hf y hy)) h2 v.Items.length 0 [] (by omega) (by simp only[List.drop_zero,List.length_nil];omega);have h0:g5n ([],0,ts,v,x)=_:=this;rw[h0];rfl
   · rw[if_neg (by simp[kx]),if_neg (by simp[kx]),if_neg (by simp[kx]),if_neg (by simp[kx]),if_neg (by simp[kx]),if_neg (by simp[kx]),if_neg (by simp[kx]),if_pos (by simp[kx])];have hf:=g35.1 c9;have hfk:=g35.1 c8;rw[hv8 kx]at hlenv ⊢
     have:=g1cd (ts:=ts) (x:=x) (v:=v) c7 (fun y hy=>by have:=hlenI y hy x.Elem;omega) (fun y hy=>by have:=hlenK y hy x.Key;omega) (fun y hy=>hWI y hy x.Elem (hf y hy)) (fun y hy=>hWK y hy x.Key (hfk y hy)) h2 v.Items.length 0 [] (by omega) (by simp only[List.drop_zero,List.length_nil];omega);have h0:g5o ([],0,ts,v,x)=_:=this;rw[h0];rfl
   · rw[if_neg (by simp[kx]),if_neg (by simp[kx]),if_neg (by simp[kx]),if_neg (by simp[kx]),if_pos (by simp[kx]),hv9 kx];have hf:=g35.1 c8
     match hI:v.Items,c7 with
     | [],_=>
       rw[if_pos (by simp),vpays]
     | [y],_=>
       have hy:y∈v.Items:=by rw[hI];exact .head _
       have hi0:inR 0 ([y]:List SValue).length=true:=g8 (k:=0) (by simp);rw[if_neg (by simp),if_pos hi0];have hW:=hWI y hy x.Elem (hf y hy);unfold Rp at hW;simp only[Int.toNat_zero,List.getD_cons_zero];rw[hW];have hp:=hlenI y hy x.Elem;simp only[oZ3];rw[if_pos (g3c (by simp;omega))];have ep:vpays ts x.Elem [y]=[vpay ts x.Elem y]:=by rw[vpays,vpays]
       rw[ep];rfl
     | a::b::c,h=>simp at h
end
end
section
open Go Go.Proofs.YthnmepafpikaiaaGreat.Shv Go.Sort
set_option maxRecDepth 100000
theorem SaysP.says{α:Type}{o:Option Bool}{a b:α}(h:Says o a b) :SaysP o (a=b):=h
theorem and3S {o1 o2 o3 : Option Bool} {P1 P2 P3 : Prop} (h1 : SaysP o1 P1) (h2 : SaysP o2 P2) (h3 : SaysP o3 P3) :
   SaysP (o1 >>=fun r_6=>(if r_6=true then o2 else some false) >>=fun r_7=>some (bif r_6 then r_7 else false) >>=fun t53=>(if t53=true then o3 else some false) >>=fun r_8=>some (bif t53 then r_8 else false)) (P1∧P2∧P3):=by
 obtain⟨a,rfl,h1⟩:=h1;obtain⟨b,rfl,h2⟩:=h2;obtain⟨c,rfl,h3⟩:=h3;rw[←h1,←h2,←h3];cases a <;> cases b <;> cases c <;> exact⟨_,rfl,by simp⟩
theorem g1gk{o:Option Bool}{P:Prop}(h:SaysP o P) :SaysP (o >>=fun r=>some r) P:=by
 obtain⟨a,rfl,h⟩:=h;exact⟨a,rfl,h⟩
def gmk(union:Bool)(Ms:List SMember) :Prop:=(∀m,m∈Ms→badM union m=false)∧(union=false∨0 < Ms.length)∧MAsc Ms∧(∀m,m∈Ms→nm m.Name=true)∧(Ms.map (·.Name)).Nodup∧Ms.length≤16
def g10f(S:List SSymbol) :Prop:=0 < S.length∧(S.Pairwise (fun a b=>a.ID < b.ID)∧∀y,y∈S→I1000 y.ID)∧(∀y,y∈S→nm y.Name=true)∧(S.map (·.Name)).Nodup∧S.length≤16
theorem g1ed{l:List (List UInt8)} :l.Nodup↔∀i,i < l.length→(l.take i).contains (l.getD i [])=false:=by
 unfold List.Nodup;rw[List.pairwise_iff_getElem];constructor
 · intro h i hi;apply Bool.eq_false_iff.2;intro hc;obtain⟨k,hk,he⟩:=(g77 (by omega)).1 hc;rw[g1n (by omega),g1n hi]at he;exact h k i (by omega) hi hk he
 · intro h k i hk' hi hk he;have:=h i hi;rw[Bool.eq_false_iff]at this;apply this;refine(g77 (by omega)).2 ⟨k,hk,?_⟩;rw[g1n (by omega),g1n hi];exact he
theorem g1cg{α:Type}(f:α→Int)(g:α→List UInt8)(d:α)(l:List α) :(∀i,i < l.length→idp (l.map f) (l.map g) i=true)↔(l.Pairwise (fun a b=>f a < f b)∧∀x,x∈l→I1000 (f x))∧(∀x,x∈l→nm (g x)=true)∧(l.map g).Nodup:=by
 rw[g10k f d,g1ed];have key:∀i,i < l.length→(idp (l.map f) (l.map g) i=true↔I1000 (f (l.getD i d))∧(i=0∨f (l.getD (i - 1) d) < f (l.getD i d))∧nm (g (l.getD i d))=true∧((l.map g).take i).contains ((l.map g).getD i [])=false):=by
   intro i hi;unfold idp I1000;rw[g2y f l i d 0 hi];have e2:i=0∨(l.map f).getD (i - 1) 0=f (l.getD (i - 1) d):=by
     by_cases h0:i=0
     · exact .inl h0
     · exact .inr (g2y f l (i - 1) d 0 (by omega))
   have e3:(l.map g).getD i []=g (l.getD i d):=g2y g l i d [] hi;rw[e3];simp only[Bool.and_eq_true,Bool.or_eq_true,decide_eq_true_eq,Bool.not_eq_true'];rcases e2 with rfl | e2
   · simp[and_assoc]
   · rw[e2];simp only[and_assoc]
 constructor
 · intro h;refine⟨⟨fun i hi=>?_,fun x hx=>?_⟩,fun x hx=>?_,fun i hi=>?_⟩
   · have:=((key (i+1) hi).1 (h _ hi)).2.1;rcases this with h | h
     · omega
     · exact h
   · obtain⟨i,hi,rfl⟩:=List.getElem_of_mem hx;have:=((key i hi).1 (h _ hi)).1;rw[g1n hi]at this;exact this
   · obtain⟨i,hi,rfl⟩:=List.getElem_of_mem hx;have:=((key i hi).1 (h _ hi)).2.2.1;rw[g1n hi]at this;exact this
   · have hi':i < l.length:=by simpa using hi
     exact((key i hi').1 (h _ hi')).2.2.2
 · rintro ⟨⟨h1,h2⟩,h3,h4⟩ i hi
   refine(key i hi).2 ⟨h2 _ (gt hi d),?_,h3 _ (gt hi d),h4 i (by simpa using hi)⟩;by_cases h0:i=0
   · exact .inl h0
   · right;have:=h1 (i - 1) (by omega);have e:i - 1+1=i:=by omega
     rw[e]at this;exact this
theorem g17u{t:SType}(h:OkT t) :SaysP (g7j t) ((∀m,m∈t.Members→badM (decide (t.Kind=6)) m=false)∧(t.Kind=5∨0 < t.Members.length)∧MAsc t.Members∧(∀m,m∈t.Members→nm m.Name=true)∧(t.Members.map (·.Name)).Nodup∧t.Members.length≤16):=by
 obtain⟨r,h1,h2⟩:=g15g h;refine⟨r,h1,h2.trans ?_⟩;rw[g1cg (fun m:SMember=>m.ID) (fun m:SMember=>m.Name) dSMember];have e:(∀i,i < t.Members.length→badM (decide (t.Kind=6)) (t.Members.getD i dSMember)=false)↔∀m,m∈t.Members→badM (decide (t.Kind=6)) m=false:=by
   constructor
   · intro h m hm;obtain⟨i,hi,rfl⟩:=List.getElem_of_mem hm;have:=h i hi;rw[g1n hi]at this;exact this
   · intro h i hi;exact h _ (gt hi dSMember)
 rw[e];unfold MAsc;simp only[and_assoc]
theorem g1gl{l:List SSymbol}(hl:l.length*24≤reachBytes) :SaysP (g94 l) (g10f l):=by
 obtain⟨r,h1,h2⟩:=g1c6 hl;refine⟨r,h1,h2.trans ?_⟩;rw[g1cg (fun m:SSymbol=>m.ID) (fun m:SSymbol=>m.Name) dSSymbol];unfold g10f;simp only[and_assoc]
def FormP(t:SType) :Prop:=
 (t.Kind=1∧t.Name=[]∧t.Low=0∧t.High=0∧t.Max=0∧t.Symbols=[]∧t.Members=[]∧t.Key=0∧t.Elem=0∧t.Open=false)∨
 (t.Kind=2∧t.Name=[]∧t.Low≤t.High∧t.Max=0∧t.Symbols=[]∧t.Members=[]∧t.Key=0∧t.Elem=0∧t.Open=false)∨
 (t.Kind=3∧t.Name=[]∧t.Low=0∧t.High=0∧(0≤t.Max∧t.Max≤200)∧t.Symbols=[]∧t.Members=[]∧t.Key=0∧t.Elem=0∧t.Open=false)∨
 (t.Kind=4∧nm t.Name=true∧t.Low=0∧t.High=0∧t.Max=0∧g10f t.Symbols∧t.Members=[]∧t.Key=0∧t.Elem=0)∨
 (t.Kind=5∧nm t.Name=true∧t.Low=0∧t.High=0∧t.Max=0∧t.Symbols=[]∧gmk false t.Members∧t.Key=0∧t.Elem=0∧t.Open=false)∨
 (t.Kind=6∧nm t.Name=true∧t.Low=0∧t.High=0∧t.Max=0∧t.Symbols=[]∧gmk true t.Members∧t.Key=0∧t.Elem=0)∨
 (t.Kind=7∧t.Name=[]∧t.Low=0∧t.High=0∧(0≤t.Max∧t.Max≤50)∧t.Symbols=[]∧t.Members=[]∧t.Key=0∧t.Open=false)∨
 (t.Kind=8∧t.Name=[]∧t.Low=0∧t.High=0∧(0≤t.Max∧t.Max≤50)∧t.Symbols=[]∧t.Members=[]∧t.Open=false)∨
 (t.Kind=9∧t.Name=[]∧t.Low=0∧t.High=0∧t.Max=0∧t.Symbols=[]∧t.Members=[]∧t.Key=0∧t.Open=false)
theorem g1gm{t:SType}(h:OkT t) :SaysP (g1o t) (FormP t):=by
 have hz:OkT (⟨0,[],0,0,0,[],[],0,0,false⟩:SType):=⟨by simp,by simp,by simp⟩
 obtain⟨Kd,N,L,H,M,S,Ms,K,E,O⟩:=t;have hS:=h.syms;have hMs:=h.mems;have hd:=h.dv;simp only at hS hMs hd;by_cases k1:Kd=1
 · subst k1;have a:=g6t (a:=(⟨0,N,L,H,M,S,Ms,K,E,O⟩:SType)) ⟨hS,hMs,hd⟩ (⟨0,[],0,0,0,[],[],0,0,false⟩:SType);refine(g1gk (SaysP.says a)).imp ?_;unfold FormP;simp
 by_cases k2:Kd=2
 · subst k2;have a:=g6t (a:=(⟨0,N,0,0,M,S,Ms,K,E,O⟩:SType)) ⟨hS,hMs,hd⟩ (⟨0,[],0,0,0,[],[],0,0,false⟩:SType);refine(and2S (q:=decide (L≤H)) (Q:=L≤H) (by simp) (SaysP.says a)).imp (Q:=FormP ⟨2,N,L,H,M,S,Ms,K,E,O⟩) ?_;unfold FormP;simp
   try grind
 by_cases k3:Kd=3
 · subst k3;have a:=g6t (a:=(⟨0,N,L,H,0,S,Ms,K,E,O⟩:SType)) ⟨hS,hMs,hd⟩ (⟨0,[],0,0,0,[],[],0,0,false⟩:SType);refine(and2S (q:=bif decide (0≤M)then decide (M≤200)else false) (Q:=0≤M∧M≤200) (by by_cases g:0≤M <;> simp[g]) (SaysP.says a)).imp (Q:=FormP ⟨3,N,L,H,M,S,Ms,K,E,O⟩) ?_;unfold FormP;simp
   try grind
 by_cases k4:Kd=4
 · subst k4;have a:=g6t (a:=(⟨0,[],L,H,M,[],Ms,K,E,false⟩:SType)) ⟨by simp,hMs,hd⟩ (⟨0,[],0,0,0,[],[],0,0,false⟩:SType);refine(and3S (⟨nm N,lexNm N,Iff.rfl⟩:SaysP (g3t N) (nm N=true)) (g1gl hS) (SaysP.says a)).imp (Q:=FormP ⟨4,N,L,H,M,S,Ms,K,E,O⟩) ?_;unfold FormP;simp
   try grind
 by_cases k5:Kd=5
 · subst k5;have a:=g6t (a:=(⟨0,[],L,H,M,S,[],K,E,bif O then decide ((5:Int)=5)else false⟩:SType)) ⟨hS,by simp,by simp⟩ (⟨0,[],0,0,0,[],[],0,0,false⟩:SType);refine(and3S (⟨nm N,lexNm N,Iff.rfl⟩:SaysP (g3t N) (nm N=true)) (g17u h) (SaysP.says a)).imp (Q:=FormP ⟨5,N,L,H,M,S,Ms,K,E,O⟩) ?_;unfold FormP gmk;cases O <;> simp
   grind
 by_cases k6:Kd=6
 · subst k6;have a:=g6t (a:=(⟨0,[],L,H,M,S,[],K,E,bif O then decide ((6:Int)=5)else false⟩:SType)) ⟨hS,by simp,by simp⟩ (⟨0,[],0,0,0,[],[],0,0,false⟩:SType);refine(and3S (⟨nm N,lexNm N,Iff.rfl⟩:SaysP (g3t N) (nm N=true)) (g17u h) (SaysP.says a)).imp (Q:=FormP ⟨6,N,L,H,M,S,Ms,K,E,O⟩) ?_;unfold FormP gmk;cases O <;> simp <;> grind
 by_cases k7:Kd=7
 · subst k7;have a:=g6t (a:=(⟨0,N,L,H,0,S,Ms,K,0,O⟩:SType)) ⟨hS,hMs,hd⟩ (⟨0,[],0,0,0,[],[],0,0,false⟩:SType);refine(and2S (q:=bif decide (0≤M)then decide (M≤50)else false) (Q:=0≤M∧M≤50) (by by_cases g:0≤M <;> simp[g]) (SaysP.says a)).imp (Q:=FormP ⟨7,N,L,H,M,S,Ms,K,E,O⟩) ?_;unfold FormP;simp
   try grind
 by_cases k8:Kd=8
 · subst k8;have a:=g6t (a:=(⟨0,N,L,H,0,S,Ms,0,0,O⟩:SType)) ⟨hS,hMs,hd⟩ (⟨0,[],0,0,0,[],[],0,0,false⟩:SType);refine(and2S (q:=bif decide (0≤M)then decide (M≤50)else false) (Q:=0≤M∧M≤50) (by by_cases g:0≤M <;> simp[g]) (SaysP.says a)).imp (Q:=FormP ⟨8,N,L,H,M,S,Ms,K,E,O⟩) ?_;unfold FormP;simp
   try grind
 by_cases k9:Kd=9
 · subst k9;have a:=g6t (a:=(⟨0,N,L,H,M,S,Ms,K,0,O⟩:SType)) ⟨hS,hMs,hd⟩ (⟨0,[],0,0,0,[],[],0,0,false⟩:SType);refine(g1gk (SaysP.says a)).imp (Q:=FormP ⟨9,N,L,H,M,S,Ms,K,E,O⟩) ?_;unfold FormP;simp
 refine⟨false,by simp[g1o,k1,k2,k3,k4,k5,k6,k7,k8,k9],?_⟩;unfold FormP;simp[k1,k2,k3,k4,k5,k6,k7,k8,k9]
structure VOk (ts:List SType):Prop where
 n:ts.length≤32
 F:∀t,t∈ts→FormP t
 D:∀i,i < ts.length→(!(decide ((ts.getD i dSType).Name=[])) && ((ts.map (·.Name)).take i).contains (ts.getD i dSType).Name)=false
 U:∀t,t∈ts→∀u,u∈usesL t→0≤u∧u < ts.length
 Ky:∀t,t∈ts→t.Kind=8→1≤(ts.getD t.Key.toNat dSType).Kind∧(ts.getD t.Key.toNat dSType).Kind≤4
theorem g1ee {ts : List SType} (hT : ∀ t, t ∈ ts → OkT t) {i : Nat} (hi : i < ts.length) : stepV ts i = none ↔ FormP (ts.getD i dSType) ∧ (!(decide ((ts.getD i dSType).Name = [])) && ((ts.map (·.Name)).take i).contains (ts.getD i dSType).Name) = false ∧ (∀ u, u ∈ usesL (ts.getD i dSType) → 0 ≤ u ∧ u < ts.length) ∧
   ((ts.getD i dSType).Kind=8→1≤(ts.getD (ts.getD i dSType).Key.toNat dSType).Kind∧(ts.getD (ts.getD i dSType).Key.toNat dSType).Kind≤4):=by
 obtain⟨r,f1,f2⟩:=g1gm (hT _ (gt hi dSType));rw[gxd rfl f1,←f2];have hu:(usesL (ts.getD i dSType)).any (outB ts.length)=false↔∀u,u∈usesL (ts.getD i dSType)→0≤u∧u < ts.length:=by
   rw[List.any_eq_false];constructor
   · intro h u hu;have:=h u hu;unfold outB at this;by_cases g:u < 0
     · simp[g]at this
     · simp[g]at this;omega
   · intro h u hu;have:=h u hu;unfold outB;have g:¬u < 0:=by omega
     simp[g];omega
 rw[←hu];generalize (usesL (ts.getD i dSType)).any (outB ts.length)=b;generalize (!(decide ((ts.getD i dSType).Name=[])) && ((ts.map (·.Name)).take i).contains (ts.getD i dSType).Name)=c
 have hk:(decide ((ts.getD i dSType).Kind=8) && !(keyB (ts.getD (ts.getD i dSType).Key.toNat dSType).Kind))=false↔((ts.getD i dSType).Kind=8→1≤(ts.getD (ts.getD i dSType).Key.toNat dSType).Kind∧(ts.getD (ts.getD i dSType).Key.toNat dSType).Kind≤4):=by
   unfold keyB;generalize (ts.getD (ts.getD i dSType).Key.toNat dSType).Kind=k;by_cases g:(ts.getD i dSType).Kind=8 <;> by_cases g1:1≤k <;> by_cases g2:k≤4 <;> simp[g,g1,g2]
 rw[←hk];generalize (decide ((ts.getD i dSType).Kind=8) && !(keyB (ts.getD (ts.getD i dSType).Key.toNat dSType).Kind))=d;cases r <;> cases b <;> cases c <;> cases d <;> simp
theorem g1gn{ts:List SType}(hT:∀t,t∈ts→OkT t)(h:VOk ts) :gba (⟨ts⟩:SSchema)=some 0∧gai (⟨ts⟩:SSchema)=some 0:=by
 obtain⟨e,h1,h2,_,h4⟩:=g15j (s:=⟨ts⟩) (by have:=h.n;unfold reachBytes;show ts.length≤_;omega) hT;have e0:e=0:=h4 ⟨h.n,fun i hi=>(g1ee hT hi).2 ⟨h.F _ (gt hi dSType),h.D i hi,h.U _ (gt hi dSType),h.Ky _ (gt hi dSType)⟩⟩;subst e0;exact⟨h1,h2⟩
theorem VOk.sok{ts:List SType}(hT:∀t,t∈ts→OkT t)(h:VOk ts) :SOk ts:=by
 refine⟨by have:=h.n;omega,hT,fun t ht=>?_,fun t ht m hm=>?_,fun t ht hk=>?_,fun t ht hk y hy=>?_,h.Ky⟩
 · have:=h.F t ht;unfold FormP at this;unfold gmi;omega
 · have:=h.F t ht;unfold FormP at this;have hne:t.Members≠[]:=by intro e;rw[e]at hm;cases hm
   have:gmk false t.Members∨gmk true t.Members:=by grind
   rcases this with a | a
   · exact(a.2.2.1.2 m hm).2
   · exact(a.2.2.1.2 m hm).2
 · have:=h.F t ht;unfold FormP at this;have:gmk false t.Members∨gmk true t.Members:=by grind
   rcases this with a | a
   · exact⟨a.2.2.1,a.2.2.2.2.2⟩
   · exact⟨a.2.2.1,a.2.2.2.2.2⟩
 · have:=h.F t ht;unfold FormP at this;have:g10f t.Symbols:=by grind
   exact this.2.1.2 y hy
end
section
open Go Go.Proofs.YthnmepafpikaiaaGreat.Shv Go.Sort
set_option maxRecDepth 100000
def g1qm(ts:List SType)(ms:List SMember) :Prop:=∀m,m∈ms→m.HasDefault=true→vfit ts true m.Type_ m.Default
end
section
open Go Go.Proofs.YthnmepafpikaiaaGreat.Shv Go.Sort
set_option maxRecDepth 100000
theorem okOne{t:Ty}{x:t.den Un.D}(h:Ok Un [t] x) :∀d,d∈t.row Un x→WF Un d:=fun d hd=>h ⟨t,x⟩ (List.mem_cons_self ..) d hd
theorem g1n3 {ts : List SType} (H : SOk ts) {v : SValue} (hv : OkV v) (hw : wt v ≤ 1099511627776) {t : Int} (hf : vfit ts false t v) :
   g1d (t,v,1,ts,0)=some (vpay ts t v,ts,((vlev ts t v:Nat):Int))∧g2g ((⟨ts⟩:SSchema),t,v)=some (vpay ts t v)∧g4j ((⟨ts⟩:SSchema),t,v)=some ((vlev ts t v:Nat):Int):=by
 refine⟨?_,g1n2 H hv hw t hf,g1n1 H hv hw t hf⟩;have h:=g1n0 H hv hw t hf 1 0 (by omega) (by omega);have hp:=gnv (ts:=ts) t v;have e:max 0 (1+vlev ts t v - 1)=vlev ts t v:=by
   generalize vlev ts t v=n;omega
 rw[e]at h;exact h
noncomputable def encA (ts:List SType) (t:Int) (v:SValue):List UInt8 × Int:=
 if 4096 < (vpay ts t v).length∨200 < vlev ts t v then([],3)else(vpay ts t v,0)
theorem g1go {s : SSchema} (H : SOk s.Types) {v : SValue} (hv : OkV v) (hw : wt v ≤ 1099511627776) {t : Int} (hf : vfit s.Types false t v) (hc : g4z (s, t, v) = some 0) (hr : g8l (s, t, v) = some 0) :
   ga8 (s,t,v)=some (encA s.Types t v)∧gon (s,t,v)=some (encA s.Types t v)∧g122 (s,t,v)=some (((vpay s.Types t v).length:Int),0)∧gs4 (s,t,v)=some (((vpay s.Types t v).length:Int),0):=by
 obtain⟨h1,h2,h3⟩:=g1n3 H hv hw hf;have h2':g2g (s,t,v)=some (vpay s.Types t v):=h2;have h3':g4j (s,t,v)=_:=h3;have hc':g4z ((⟨s.Types⟩:SSchema),t,v)=some 0:=hc;refine⟨?_,?_,?_,?_⟩
 · rw[ga8];simp only[SValue.g14];rw[hc',h1];simp only[oZ4,oZ3];rw[if_neg (by simp)];unfold encA;generalize vpay s.Types t v=p;generalize vlev s.Types t v=l;by_cases g:4096 < p.length
   · rw [if_pos (by have : (4096 : Int) < p.length := by omega
                    simp[this]),if_pos (.inl g)]
   · by_cases g2:200 < l
     · rw [if_pos (by have : ¬ (4096 : Int) < p.length := by omega
                      have h2:(200:Int) < l:=by omega
                      simp[this,h2]),if_pos (.inr g2)]
     · rw [if_neg (by have : ¬ (4096 : Int) < p.length := by omega
                      have h2:¬(200:Int) < l:=by omega
                      simp[this,h2]),if_neg (by omega)]
 · rw[gon];simp only[SValue.g14];rw[hr];simp only[oZ4,oZ3];rw[if_neg (by simp),h2'];simp only[oZ3];rw[h3'];unfold encA;generalize vpay s.Types t v=p;generalize vlev s.Types t v=l;by_cases g:4096 < p.length
   · have:decide ((4096:Int) < p.length)=true:=by simp;omega
     rw[this,if_neg (by simp)];simp only[oZ3,cond_true];rw[if_pos trivial,if_pos (.inl g)]
   · have:decide ((4096:Int) < p.length)=false:=by simp;omega
     rw[this,if_pos (by simp)];simp only[oZ3,cond_false];by_cases g2:200 < l
     · rw[if_pos (by simp;omega),if_pos (.inr g2)]
     · rw[if_neg (by simp;omega),if_neg (by omega)]
 · rw[g122];simp only[SValue.g14];rw[hc,h1];rfl
 · rw[gs4];simp only[SValue.g14];rw[hr,h2'];rfl
end
section
open Go Go.Proofs.YthnmepafpikaiaaGreat.Shv Go.Sort
set_option maxRecDepth 100000
abbrev Nd :=Sheaveref07Node
abbrev dNd :=dSheaveref07Node
abbrev dPt :=dSheaveref07Part
theorem nz{a:Int}(h:¬a=0) :(!(decide (a=0)))=true:=by simp[h]
theorem g8m{x m:Int}(h:0≤x)(hm:0≤m) :remI x m=x % m:=by
 unfold remI;rw[Int.tmod_eq_emod_of_nonneg h]
theorem g1qn{x:Int}(h:0≤x)(h2:x≤255) :quoI .u8 x 4=x / 4:=by
 unfold quoI;rw[Int.tdiv_eq_ediv_of_nonneg h,IntKind.wrap_u8];omega
theorem gi4{x:Int}(h:I64 x) :wrp .i64 x=x:=by
 unfold wrp I64 at*;rw[IntKind.wrap_i64];omega
theorem g1ak{k:Int}(h:0≤k∧k≤25) :gdf (wrp .i32 (addI .i64 97 k))=[UInt8.ofNat (97+k.toNat)]:=by
 have key:∀k:Nat,k < 26→gdf (wrp .i32 (addI .i64 97 (k:Int)))=[UInt8.ofNat (97+k)]:=by decide+kernel
 have:=key k.toNat (by omega);have e:((k.toNat:Nat):Int)=k:=by omega
 rw[e]at this;exact this
theorem g1qo{k:Int}(h:0≤k∧k≤25) :gdf (wrp .i32 (addI .i64 65 k))=[UInt8.ofNat (65+k.toNat)]:=by
 have key:∀k:Nat,k < 26→gdf (wrp .i32 (addI .i64 65 (k:Int)))=[UInt8.ofNat (65+k)]:=by decide+kernel
 have:=key k.toNat (by omega);have e:((k.toNat:Nat):Int)=k:=by omega
 rw[e]at this;exact this
theorem g15q{s:List UInt8}(h0:s≠[])(hl:s.length≤24)(h:∀i:Nat,i < s.length→ge6 (g4p s i)=true) :nm s=true:=by
 have key:∀k i:Nat,i+k=s.length→g28 (s,(s.length:Int),(i:Int))=some (.inr ()):=by
   intro k
   induction k with
   | zero=>intro i hi;rw[g28,if_neg (by simp;omega)]
   | succ k ih=>
     intro i hi;rw[g28,if_pos (by simp;omega),if_pos (g8 (by omega)),gtx,h i (by omega)];simp only[oZ4,oZ3,Bool.not_true];rw[if_pos (by rw[g8 (by omega)];rfl),gu (by omega)];exact ih (i+1) (by omega)
 have hpos:0 < s.length:=List.length_pos_iff.2 h0;have h00:=h 0 hpos;have hin:inR 0 s.length=true:=g8 (k:=0) hpos;have ht:(bif decide (s=[])then true else decide (24 < (s.length:Int)))=false:=by
   simp[h0];omega
 have hk:g28 (s,(s.length:Int),0)=some (.inr ()):=key s.length 0 (by omega);have h00':ge6 (g4p s 0)=true:=h00;unfold nm;rw[g3t];simp only[oZ4,oZ3];rw[ht,hin,gtx,h00'];simp only[Bool.true_or,if_true,Bool.not_false,oZ3,cond_false,Bool.not_true,Bool.false_eq_true,if_false,hk,Option.getD_some]
theorem g1qp{c:Nat}(h:65≤c∧c≤90∨97≤c∧c≤122) :nm [UInt8.ofNat c]=true:=by
 refine g15q (by simp) (by simp) fun i hi=>?_
 have:i=0:=by simp at hi;omega
 subst this;have e:g4p [UInt8.ofNat c] ((0:Nat):Int)=(c:Int):=by
   rw[gqa];simp only[List.getD_cons_zero];rw[g6a (by omega)]
 rw[e];unfold ge6;simp;omega
theorem g1gp{b c:Nat}(hb:97≤b∧b≤122)(h:97≤c∧c≤122) :nm [UInt8.ofNat b,UInt8.ofNat c]=true:=by
 refine g15q (by simp) (by simp) fun i hi=>?_
 have:i=0∨i=1:=by simp at hi;omega
 rcases this with rfl | rfl
 · rw[gqa];simp only[List.getD_cons_zero];rw[g6a (by omega)];unfold ge6;simp;omega
 · rw[gqa];simp only[List.getD_cons_succ,List.getD_cons_zero];rw[g6a (by omega)];unfold ge6;simp;omega
def U8(x:Int) :Prop:=0≤x∧x≤255
structure NOk (x:Nd):Prop where
 k:U8 x.Kind
 a:U8 x.A
 b:U8 x.B
 c:U8 x.C
 p:∀q,q∈x.Parts→U8 q.ID∧U8 q.Type_∧U8 q.Flag
 l:x.Parts.length≤reachBytes
def kd(ns:List Nd)(i:Int) :Int:=1+(ns.getD i.toNat dNd).Kind % 9
section
variable {ns:List Nd} (hN:∀x,x∈ns→NOk x) (h5:ns.length≤5)
include hN h5 in
theorem kd_eq{i:Int}(h0:0≤i)(h1:i < ns.length) :g68 ((⟨ns⟩:Sheaveref07Draft),i)=some (kd ns i)∧1≤kd ns i∧kd ns i≤9:=by
 obtain⟨j,rfl⟩:∃j:Nat,i=(j:Int):=⟨i.toNat,by omega⟩
 have hx:=(hN _ (gt (by omega:j < ns.length) dNd)).k;unfold kd;rw[g9];obtain⟨a,b⟩:=hx;refine⟨?_,by omega,by omega⟩;rw[g68,if_pos (g8 (by omega:j < ns.length)),g9,g8m a (by omega),gi4 ⟨by omega,by omega⟩,gb7 (by omega) (by omega)]
def Tgt(ns:List Nd)(i u:Int) :Prop:=0≤u∧u < ns.length∧(7≤kd ns u∨u < i)
include hN h5 in
theorem g17v :∀(k i:Nat),i+k=ns.length→g2s ((ns.length:Int),(i:Int),ns)=some (.inr ())∨∃u:Int,g2s ((ns.length:Int),(i:Int),ns)=some (.inl u)∧0≤u∧u < ns.length∧7≤kd ns u
 | 0,i,hi=>.inl (by rw[g2s,if_neg (by simp;omega)])
 | k+1,i,hi=>by
   obtain⟨e,_,_⟩:=kd_eq hN h5 (i:=(i:Int)) (by omega) (by omega);rw[g2s,if_pos (by simp;omega),e];simp only[oZ4,oZ3,g9u];by_cases h7:7≤kd ns i
   · rw[if_pos (by simpa using h7)];exact .inr ⟨i,rfl,by omega,by omega,h7⟩
   · rw[if_neg (by simpa using h7),gu (by omega)];exact g17v k (i+1) (by omega)
include hN h5 in
theorem g1gq(h1:1≤ns.length){i code:Int}(hi:0≤i∧i < ns.length)(hc:U8 code) :∃u,g9v ((⟨ns⟩:Sheaveref07Draft),i,code)=some u∧(u < 0∨Tgt ns i u):=by
 have hm:wrp .i64 code=code:=gi4 ⟨by unfold U8 at hc;omega,by unfold U8 at hc;omega⟩;obtain⟨c1,c2⟩:=hc;have hr0:0≤code % (ns.length:Int):=Int.emod_nonneg _ (by omega);have hr1:code % (ns.length:Int) < ns.length:=Int.emod_lt_of_pos _ (by omega);rw[g9v];simp only[oZ4,oZ3];rw[if_pos (nz (by omega)),hm,g8m c1 (by omega)]
 obtain⟨e,_,_⟩:=kd_eq hN h5 hr0 hr1;rw[e];simp only[oZ3,g9u];by_cases h7:7≤kd ns (code % (ns.length:Int))
 · rw[if_pos (by simp[h7])];exact⟨_,rfl,.inr ⟨hr0,hr1,.inl h7⟩⟩
 · by_cases hlt:code % (ns.length:Int) < i
   · rw[if_pos (by simp[hlt])];exact⟨_,rfl,.inr ⟨hr0,hr1,.inr hlt⟩⟩
   · rw[if_neg (by simp[h7,hlt])];by_cases hp:0 < i
     · rw[if_pos (by simpa using hp),if_pos (by simp;omega),g8m hr0 (by omega)];have a0:0≤code % (ns.length:Int) % i:=Int.emod_nonneg _ (by omega);have a1:code % (ns.length:Int) % i < i:=Int.emod_lt_of_pos _ (by omega);exact⟨_,rfl,.inr ⟨a0,by omega,.inr a1⟩⟩
     · rw[if_neg (by simpa using hp)];have h0:=g17v hN h5 ns.length 0 (by omega);have e0:g2s ((ns.length:Int),((0:Nat):Int),ns)=g2s ((ns.length:Int),0,ns):=rfl;rw[e0]at h0;rcases h0 with h | ⟨u,h,a,b,c⟩
       · rw[h];exact⟨-1,rfl,.inl (by omega)⟩
       · rw[h];exact⟨u,rfl,.inr ⟨a,b,.inl c⟩⟩
def KeyT(ns:List Nd)(u:Int) :Prop:=0≤u∧u < ns.length∧1≤kd ns u∧kd ns u≤4
include hN h5 in
theorem g1gr{code:Int}(hc:U8 code)(h1:1≤ns.length) :∀(k i:Nat),i+k=ns.length→(g3k (code,(ns.length:Int),(i:Int),ns)=some (.inr ())∧∀m:Nat,i≤m→m < ns.length→¬KeyT ns ((code+m) % (ns.length:Int)))∨∃u:Int,g3k (code,(ns.length:Int),(i:Int),ns)=some (.inl u)∧KeyT ns u
 | 0,i,hi=>.inl ⟨by rw[g3k,if_neg (by simp;omega)],fun m a b=>by omega⟩
 | k+1,i,hi=>by
   obtain⟨c1,c2⟩:=hc;have hr0:0≤(code+i) % (ns.length:Int):=Int.emod_nonneg _ (by omega);have hr1:(code+i) % (ns.length:Int) < ns.length:=Int.emod_lt_of_pos _ (by omega);obtain⟨e,e1,e9⟩:=kd_eq hN h5 hr0 hr1;rw[g3k,if_pos (by simp;omega),if_pos (nz (by omega)),gi4 ⟨by omega,by omega⟩,gb7 (by omega) (by omega),g8m (by omega) (by omega)]
   simp only[oZ4,oZ3];rw[e];simp only[oZ3,g8z];by_cases h4:kd ns ((code+i) % (ns.length:Int))≤4
   · rw[if_pos (by simp[e1,h4])];exact .inr ⟨_,rfl,hr0,hr1,e1,h4⟩
   · rw[if_neg (by simp[h4]),gu (by omega)];rcases g1gr ⟨c1,c2⟩ h1 k (i+1) (by omega)with⟨a,b⟩ | h
     · refine .inl ⟨a,fun m hm1 hm2=>?_⟩;by_cases hm:m=i
       · subst hm;rintro ⟨_,_,_,h⟩;exact h4 h
       · exact b m (by omega) hm2
     · exact .inr h
include hN h5 in
theorem g1gs{code:Int}(hc:U8 code)(h1:1≤ns.length) :∃u,g8g ((⟨ns⟩:Sheaveref07Draft),code)=some u∧((u= -1∧∀w,¬KeyT ns w)∨KeyT ns u):=by
 rw[g8g];have h0:=g1gr hN h5 hc h1 ns.length 0 (by omega);have e0:g3k (code,(ns.length:Int),((0:Nat):Int),ns)=g3k (code,(ns.length:Int),0,ns):=rfl;rw[e0]at h0;rcases h0 with⟨h,a⟩ | ⟨u,h,a⟩
 · rw[h];refine⟨-1,rfl,.inl ⟨rfl,fun w hw=>?_⟩⟩;have hw':=hw;obtain⟨w0,w1,_⟩:=hw';have hr0:0≤(w - code) % (ns.length:Int):=Int.emod_nonneg _ (by omega);have hr1:(w - code) % (ns.length:Int) < ns.length:=Int.emod_lt_of_pos _ (by omega);refine a ((w - code) % (ns.length:Int)).toNat (by omega) (by omega) ?_
   have e:(code+(((w - code) % (ns.length:Int)).toNat:Int)) % (ns.length:Int)=w:=by
     rw[Int.toNat_of_nonneg hr0,Int.add_emod_emod];have:code+(w - code)=w:=by omega
     rw[this];exact Int.emod_eq_of_lt w0 w1
   rw[e];exact hw
 · rw[h];exact⟨u,rfl,.inr a⟩
theorem g1al{x:Nd}(h:NOk x) :g5s x=some (x.A % 7 - 3):=by
 have:=h.a;unfold U8 at this;rw[g5s,g8m this.1 (by omega),gi4 ⟨by omega,by omega⟩,gj4 (by omega) (by omega)]
theorem g1ch{x:Nd}(h:NOk x) :g7b x=some (x.A % 7 - 3+x.B % 6):=by
 have ha:=h.a;have hb:=h.b;unfold U8 at ha hb;rw[g7b,g1al h];simp only[oZ4,oZ3];rw[g8m hb.1 (by omega),gi4 ⟨by omega,by omega⟩,gb7 (by omega) (by omega)]
def IdsOk(l:List Int)(n:Int) :Prop:=l.Pairwise (· < ·)∧∀x,x∈l→1≤x∧x≤n
theorem g1am{x:Nd} :∀(k i:Nat) (acc:List Int),i+k=6→IdsOk acc i→acc.length≤i→∃l,g4i ((i:Int),x,acc)=some l∧IdsOk l 6∧l.length≤6
 | 0,i,acc,hi,ha,hl=>⟨acc,by rw[g4i,if_neg (by simp;omega)],⟨ha.1,fun y hy=>by have:=ha.2 y hy;omega⟩,by omega⟩
 | k+1,i,acc,hi,ha,hl=>by
   have hacc:IdsOk acc ((i+1:Nat):Int):=⟨ha.1,fun y hy=>by have:=ha.2 y hy;omega⟩
   rw[g4i,if_pos (by simp;omega),if_pos (by simp)];simp only[oZ4,oZ3];rw[gu (by omega)];split
   · rw[if_pos (g66 (by omega) (by simp;omega))];refine g1am k (i+1) _ (by omega) ⟨?_,fun y hy=>?_⟩ (by simp;omega)
     · rw[List.pairwise_append];refine⟨ha.1,by simp,fun a h1 b h2=>?_⟩;have:=ha.2 a h1;simp at h2;omega
     · rcases List.mem_append.1 hy with h | h
       · have:=ha.2 y h;omega
       · simp at h;omega
   · exact g1am k (i+1) acc (by omega) hacc (by omega)
theorem g1qq(x:Nd) :∃l,g55 x=some l∧IdsOk l 6∧1≤l.length∧l.length≤6:=by
 obtain⟨l,h1,h2,h3⟩:=g1am (x:=x) 6 0 [] (by omega) ⟨.nil,fun y hy=>by cases hy⟩ (by simp);have h1':g4i (0,x,[])=some l:=h1;rw[g55,h1'];simp only[oZ4,oZ3];cases l with
 | nil=>
   rw[if_pos (by simp),if_pos (g66 (by omega) (by simp))];exact⟨_,rfl,⟨by simp,fun y hy=>by simp at hy;omega⟩,by simp,by simp⟩
 | cons a l=>
   rw[if_neg (by simp;omega)];exact⟨_,rfl,h2,by simp,h3⟩
def idsL(x:Nd) :List Int:=(g55 x).getD []
theorem ids_eq'(x:Nd) :g55 x=some (idsL x)∧IdsOk (idsL x) 6∧1≤(idsL x).length∧(idsL x).length≤6:=by
 obtain⟨l,h1,h2⟩:=g1qq x;unfold idsL;rw[h1];exact⟨rfl,h2⟩
def InitP(k:Int)(x:Nd)(key:Prop)(v:SValue) :Prop:=
 v.Keys=[]∧v.Items=[]∧v.Rest=[]∧
 (k=1∧v.Kind=1∧v.Int_=0∧v.Str=[]∧v.ID=0∨
  k=2∧v.Kind=2∧v.Bool_=false∧v.Str=[]∧v.ID=0∧x.A % 7 - 3≤v.Int_∧v.Int_≤x.A % 7 - 3+x.B % 6∨
  k=3∧v.Kind=3∧v.Bool_=false∧v.Int_=0∧v.ID=0∧(v.Str.length:Int)≤x.A % 4∨
  k=4∧v.Kind=4∧v.Bool_=false∧v.Int_=0∧v.Str=[]∧v.ID∈idsL x∨
  7≤k∧v.Bool_=false∧v.Int_=0∧v.Str=[]∧v.ID=0∧(v.Kind=k∧(k=8→key)∨k=8∧v.Kind=7∧¬key))
def Init(ns:List Nd)(t:Int)(v:SValue) :Prop:=InitP (kd ns t) (ns.getD t.toNat dNd) (∃w,KeyT ns w) v
include hN h5 in
theorem g1ef(h1:1≤ns.length){t code:Int}(ht:0≤t∧t < ns.length)(hc:U8 code) :∃r,g90 ((⟨ns⟩:Sheaveref07Draft),t,code)=some r∧(r.2=false→r.1=dSValue)∧(r.2=true→Init ns t r.1):=by
 obtain⟨j,rfl⟩:∃j:Nat,t=(j:Int):=⟨t.toNat,by omega⟩
 have hj:j < ns.length:=by omega
 have hx:=hN _ (gt hj dNd);obtain⟨e,k1,k9⟩:=kd_eq hN h5 ht.1 ht.2;obtain⟨u,hu,hu2⟩:=g1gs hN h5 (code:=0) ⟨by omega,by omega⟩ h1;obtain⟨c1,c2⟩:=hc;rw[g90,if_pos (g8 hj)];simp only[oZ4,oZ3,g9];rw[e];simp only[oZ3];unfold Init;simp only[g9];have hids:=ids_eq' (ns.getD j dNd);generalize kd ns (j:Int)=k at*
 generalize ns.getD j dNd=x at*;have ha:=hx.a;have hb:=hx.b;unfold U8 at ha hb;have hc9:k=1∨k=2∨k=3∨k=4∨k=5∨k=6∨k=7∨k=8∨k=9:=by omega
 rcases hc9 with rfl | rfl | rfl | rfl | rfl | rfl | rfl | rfl | rfl
 · exact⟨_,rfl,fun h=>(by cases h),fun _=>by unfold InitP;simp⟩
 · have el:=g1al hx;have eh:=g1ch hx;have e1:addI .i64 (subI .i64 (x.A % 7 - 3+x.B % 6) (x.A % 7 - 3)) 1=x.B % 6+1:=by
     rw[gj4 (by omega) (by omega),gb7 (by omega) (by omega)];omega
   have e2:remI (wrp .i64 code) (x.B % 6+1)=code % (x.B % 6+1):=by
     rw[gi4 ⟨by omega,by omega⟩,g8m c1 (by omega)]
   have r0:0≤code % (x.B % 6+1):=Int.emod_nonneg _ (by omega);have r1:code % (x.B % 6+1) < x.B % 6+1:=Int.emod_lt_of_pos _ (by omega);have e3:addI .i64 (x.A % 7 - 3) (code % (x.B % 6+1))=x.A % 7 - 3+code % (x.B % 6+1):=gb7 (by omega) (by omega)
   simp only[Int.reduceEq,decide_false,decide_true,Bool.false_eq_true,if_false,if_true,oZ3,cond_false,cond_true];rw[el];simp only[oZ4,oZ3];rw[eh];simp only[oZ3];rw[e1,if_pos (by simp;omega),e2,e3];exact⟨_,rfl,fun h=>(by cases h),fun _=>by unfold InitP;simp;omega⟩
 · simp only[Int.reduceEq,decide_false,decide_true,Bool.false_eq_true,if_false,if_true,oZ3,cond_false,cond_true];rw[g8m ha.1 (by omega),g8m c1 (by omega)];by_cases g:0 < x.A % 4
   · by_cases g2:code % 2=1
     · rw[if_pos (by simp[g,g2])];exact⟨_,rfl,fun h=>(by cases h),fun _=>by unfold InitP;simp;omega⟩
     · rw[if_neg (by simp[g2])];exact⟨_,rfl,fun h=>(by cases h),fun _=>by unfold InitP;simp;omega⟩
   · rw[if_neg (by simp[g])];exact⟨_,rfl,fun h=>(by cases h),fun _=>by unfold InitP;simp;omega⟩
 · obtain⟨i1,i2,i3,i4⟩:=hids;simp only[Int.reduceEq,decide_false,decide_true,Bool.false_eq_true,if_false,if_true,oZ3,cond_false,cond_true];rw[i1];simp only[oZ4,oZ3];have r0:0≤code % ((idsL x).length:Int):=Int.emod_nonneg _ (by omega)
   have r1:code % ((idsL x).length:Int) < ((idsL x).length:Int):=Int.emod_lt_of_pos _ (by omega);rw[if_pos (nz (by omega)),gi4 ⟨by omega,by omega⟩,g8m c1 (by omega)];obtain⟨q,hq⟩:∃q:Nat,code % ((idsL x).length:Int)=(q:Int):=⟨(code % ((idsL x).length:Int)).toNat,by omega⟩
   rw[hq,if_pos (g8 (by omega)),g9];exact⟨_,rfl,fun h=>(by cases h),fun _=>by unfold InitP;simp;rw[←List.getD_eq_getElem?_getD];exact gt (by omega) 0⟩
 · exact⟨_,rfl,fun _=>rfl,fun h=>by cases h⟩
 · exact⟨_,rfl,fun _=>rfl,fun h=>by cases h⟩
 · exact⟨_,rfl,fun h=>(by cases h),fun _=>by unfold InitP;simp⟩
 · simp only[Int.reduceEq,decide_false,decide_true,Bool.false_eq_true,if_false,if_true,oZ3,cond_false,cond_true];rw[hu];rcases hu2 with⟨rfl,a⟩ | a
   · exact⟨_,rfl,fun h=>(by cases h),fun _=>by unfold InitP;simp;exact fun w hw=>a w hw⟩
   · have hge:¬u < 0:=by have:=a.1;omega
     simp only[oZ4,oZ3];rw[if_neg (by simp[hge])];exact⟨_,rfl,fun h=>(by cases h),fun _=>by unfold InitP;simp;exact⟨u,a⟩⟩
 · exact⟨_,rfl,fun h=>(by cases h),fun _=>by unfold InitP;simp⟩
end
end
section
open Go Go.Proofs.YthnmepafpikaiaaGreat.Shv Go.Sort
set_option maxRecDepth 100000
section
variable {ns:List Nd} (hN:∀x,x∈ns→NOk x) (h5:ns.length≤5)
structure MemP (ns:List Nd) (i:Int) (record:Bool) (m:SMember):Prop where
 id:1≤m.ID∧m.ID≤12
 name:m.Name=[UInt8.ofNat 109,UInt8.ofNat (97+m.ID.toNat)]
 tgt:Tgt ns i m.Type_
 crit:m.Critical=true→m.HasDefault=false
 un:record=false→m.Critical=false∧m.HasDefault=false
 nod:m.HasDefault=false→m.Default=dSValue
 dfl:m.HasDefault=true→Init ns m.Type_ m.Default
include hN h5 in
theorem g1an (h1 : 1 ≤ ns.length) {i : Int} (hi : 0 ≤ i ∧ i < ns.length) {x : Nd} (hx : NOk x) (record : Bool) {id : Int} (hid : 1 ≤ id ∧ id ≤ 12) {acc : List SMember} (ha : acc.length ≤ 12) :
   ∀(k j:Nat),j+k=x.Parts.length→∃l,g3l (i,record,id,(j:Int),ns,x,acc)=some (i,record,id,ns,x,acc++l)∧l.length≤1∧∀m,m∈l→m.ID=id∧MemP ns i record m
 | 0,j,hj=>⟨[],by rw[g3l,if_neg (by simp;omega)];simp,by simp,fun m hm=>by cases hm⟩
 | k+1,j,hj=>by
   have hlt:j < x.Parts.length:=by omega
   have hr:=g1i hx.l;obtain⟨q1,q2,q3⟩:=hx.p _ (gt hlt dPt);obtain⟨u,hu,hu2⟩:=g1gq hN h5 h1 hi q2;rw[g3l,if_pos (by simp;omega),if_pos (g8 hlt)];simp only[oZ4,oZ3,g9];have hu':g9v ((⟨ns⟩:Sheaveref07Draft),i,(x.Parts.getD j dSheaveref07Part).Type_)=some u:=hu;rw[hu'];simp only[oZ3]
   generalize hp:x.Parts.getD j dSheaveref07Part=p;have q1':U8 p.ID:=by rw[←hp];exact q1
   have q3':U8 p.Flag:=by rw[←hp];exact q3
   obtain⟨f1,f2⟩:=q3';have e1:remI p.Flag 4=p.Flag % 4:=g8m f1 (by omega);have e2:quoI .u8 p.Flag 4=p.Flag / 4:=g1qn f1 f2;have rec':=g1an h1 hi hx record hid ha k (j+1) (by omega);by_cases hskip:(bif (!(decide (addI .i64 1 (wrp .i64 (remI p.ID 12))=id)))then true else decide (u < 0))=true
   · rw[if_pos hskip,gu (by omega)];exact rec'
   · rw[if_neg hskip];have hu0:Tgt ns i u:=by
       rcases hu2 with h | h
       · exfalso;apply hskip
         cases decide (addI .i64 1 (wrp .i64 (remI p.ID 12))=id) <;> simp[h]
       · exact h
     have hrune:=g1ak (k:=id) ⟨by omega,by omega⟩;rw[hrune];have hname:([109]++[UInt8.ofNat (97+id.toNat)]:List UInt8)=[UInt8.ofNat 109,UInt8.ofNat (97+id.toNat)]:=rfl;rw[if_pos (g3c (by simp)),hname,e1,e2];obtain⟨r,r1,r2,r3⟩:=g1ef hN h5 h1 ⟨hu0.1,hu0.2.1⟩ (code:=p.Flag / 4) ⟨by omega,by omega⟩
     have hroom:∀m:SMember,room 160 (acc++[m]).length=true:=fun m=>g66 (by omega) (by simp;omega)
     have done:∀m:SMember,m.ID=id→MemP ns i record m→∃l,(some (i,record,id,ns,x,acc++[m]):Option (Int × Bool × Int × List Nd × Nd × List SMember))=some (i,record,id,ns,x,acc++l)∧l.length≤1∧∀m,m∈l→m.ID=id∧MemP ns i record m:=fun m a b=>⟨[m],rfl,by simp,fun y hy=>by
       have:y=m:=by simpa using hy
       subst this;exact⟨a,b⟩⟩
     cases record with
     | false=>
       simp only[cond_false,Bool.false_eq_true,if_false];rw[if_pos (hroom _)];exact done _ rfl ⟨hid,rfl,hu0,fun h=>(by cases h),fun _=>⟨rfl,rfl⟩,fun _=>rfl,fun h=>by cases h⟩
     | true=>
       simp only[cond_true];by_cases g1:p.Flag % 4=1
       · rw[if_pos (by simpa using g1),if_neg (by simp;omega),if_pos (hroom _)];exact done _ rfl ⟨hid,rfl,hu0,fun _=>rfl,fun h=>(by cases h),fun _=>rfl,fun h=>by cases h⟩
       · rw[if_neg (by simpa using g1)];by_cases g2:2≤p.Flag % 4
         · rw[if_pos (by simpa using g2),r1];simp only[oZ3,SValue.g14];rw[if_pos (hroom _)];exact done _ rfl ⟨hid,rfl,hu0,fun h=>(by cases h),fun h=>(by cases h),r2,r3⟩
         · rw[if_neg (by simpa using g2),if_pos (hroom _)];exact done _ rfl ⟨hid,rfl,hu0,fun h=>(by cases h),fun h=>(by cases h),fun _=>rfl,fun h=>by cases h⟩
def MemsP(ns:List Nd)(i:Int)(record:Bool)(l:List SMember) :Prop:=l.Pairwise (fun a b=>a.ID < b.ID)∧(∀m,m∈l→MemP ns i record m)∧l.length≤12
include hN h5 in
theorem g1ao (h1 : 1 ≤ ns.length) {i : Int} (hi : 0 ≤ i ∧ i < ns.length) {x : Nd} (hx : NOk x) (record : Bool) : ∀ (k id : Nat) (acc : List SMember), id + k = 13 → 1 ≤ id →
   acc.Pairwise (fun a b=>a.ID < b.ID)→(∀m,m∈acc→MemP ns i record m∧m.ID < id)→acc.length < id→∃l,g3g (i,record,(id:Int),ns,x,acc)=some l∧MemsP ns i record l
 | 0,id,acc,hk,h0,ha,hb,hl=>⟨acc,by rw[g3g,if_neg (by simp;omega)],ha,fun m hm=>(hb m hm).1,by omega⟩
 | k+1,id,acc,hk,h0,ha,hb,hl=>by
   rw[g3g,if_pos (by simp;omega)];obtain⟨l,l1,l2,l3⟩:=g1an hN h5 h1 hi hx record (id:=(id:Int)) ⟨by omega,by omega⟩ (acc:=acc) (by omega) x.Parts.length 0 (by omega);have l1':g3l (i,record,(id:Int),0,ns,x,acc)=_:=l1;rw[l1'];simp only[oZ4,oZ3];rw[gu (by omega)]
   refine g1ao h1 hi hx record k (id+1) _ (by omega) (by omega) ?_ (fun m hm=>?_) (by simp;omega)
   · rw[List.pairwise_append];refine⟨ha,?_,fun a h2 b h3=>?_⟩
     · match l,l2 with
       | [],_=>exact .nil
       | [a],_=>simp
       | a::b::c,h=>simp at h
     · have:=(hb a h2).2;have:=(l3 b h3).1;omega
   · rcases List.mem_append.1 hm with h | h
     · have:=hb m h;exact⟨this.1,by omega⟩
     · have:=l3 m h;exact⟨this.2,by omega⟩
include hN h5 in
theorem g1ap(h1:1≤ns.length){i:Int}(hi:0≤i∧i < ns.length)(record:Bool) :∃l,g6n ((⟨ns⟩:Sheaveref07Draft),i,record)=some l∧MemsP ns i record l:=by
 obtain⟨j,rfl⟩:∃j:Nat,i=(j:Int):=⟨i.toNat,by omega⟩
 have hj:j < ns.length:=by omega
 have hx:=hN _ (gt hj dNd);obtain⟨l,l1,l2⟩:=g1ao hN h5 h1 hi hx record 12 1 [] (by omega) (by omega) .nil (fun m hm=>by cases hm) (by simp);refine⟨l,?_,l2⟩;have l1':g3g ((j:Int),record,1,ns,ns.getD j dNd,[])=some l:=l1;rw[g6n,if_pos (g8 hj),g9];have l1'':g3g ((j:Int),record,1,ns,ns.getD j dSheaveref07Node,[])=some l:=l1';rw[l1''];rfl
def symsL(l:List Int) :List SSymbol:=l.map fun j=>⟨j,[UInt8.ofNat 115,UInt8.ofNat (97+j.toNat)]⟩
theorem g1ci {l : List Int} (hl : l.length ≤ 6) (hr : ∀ x, x ∈ l → 1 ≤ x ∧ x ≤ 6) (n i : Int) (b : List Nd) (b1 : Int) (b2 : List UInt8) (b3 b4 b5 b6 b7 : Int) (b8 : Bool) (b9 : List SType) : ∀ (k j : Nat) (acc : List SSymbol), j + k = l.length → acc.length ≤ j →
   g3w (n,i,l,(j:Int),b,b1,b2,b3,b4,b5,b6,b7,b8,b9,acc)=some (n,i,b,b1,b2,b3,b4,b5,b6,b7,b8,b9,acc++symsL (l.drop j))
 | 0,j,acc,hj,ha=>by
   rw[g3w,if_neg (by simp;omega),List.drop_eq_nil_of_le (by omega:l.length≤j)];simp[symsL]
 | k+1,j,acc,hj,ha=>by
   have hlt:j < l.length:=by omega
   have hx:=hr _ (gt hlt 0);rw[g3w,if_pos (by simp;omega),if_pos (g8 hlt),if_pos (g8 hlt)];simp only[oZ4,oZ3,g9];rw[g1ak ⟨by omega,by omega⟩,if_pos (g3c (by simp)),if_pos (g66 (by omega) (by simp;omega)),gu (by omega),g1ci hl hr n i b b1 b2 b3 b4 b5 b6 b7 b8 b9 k (j+1) _ (by omega) (by simp;omega),g2r hlt 0];simp[symsL]
def TyP(ns:List Nd)(i:Int)(t:SType) :Prop:=
 let x:=ns.getD i.toNat dNd
 let n:=(ns.length:Int)
 let nameL:=[UInt8.ofNat (65+i.toNat)]
 (kd ns i=1∧t=⟨1,[],0,0,0,[],[],0,0,false⟩)∨
 (kd ns i=2∧t=⟨2,[],x.A % 7 - 3,x.A % 7 - 3+x.B % 6,0,[],[],0,0,false⟩)∨
 (kd ns i=3∧t=⟨3,[],0,0,x.A % 4,[],[],0,0,false⟩)∨
 (kd ns i=4∧∃o,t=⟨4,nameL,0,0,0,symsL (idsL x),[],0,0,o⟩)∨
 (kd ns i=5∧∃l,MemsP ns i true l∧t=⟨5,nameL,0,0,0,[],l,0,0,false⟩)∨
 (kd ns i=6∧t=⟨5,nameL,0,0,0,[],[],0,0,false⟩)∨
 (kd ns i=6∧∃l o,MemsP ns i false l∧0 < l.length∧t=⟨6,nameL,0,0,0,[],l,0,0,o⟩)∨
 (kd ns i=7∧t=⟨7,[],0,0,x.A % 4,[],[],0,x.C % n,false⟩)∨
 (kd ns i=8∧(∀w,¬KeyT ns w)∧t=⟨7,[],0,0,x.A % 4,[],[],0,x.C % n,false⟩)∨
 (kd ns i=8∧∃k,KeyT ns k∧t=⟨8,[],0,0,x.A % 4,[],[],k,x.C % n,false⟩)∨
 (kd ns i=9∧t=⟨9,[],0,0,0,[],[],0,x.C % n,false⟩)
include hN h5 in
theorem of_l0 (h1 : 1 ≤ ns.length) : ∀ (k i : Nat) (acc : List SType), i + k = ns.length → acc.length = i → (∀ j, j < i → TyP ns (j : Int) (acc.getD j dSType)) →
   ∃l,gx ((ns.length:Int),(i:Int),ns,acc)=some l∧l.length=ns.length∧∀j,j < ns.length→TyP ns (j:Int) (l.getD j dSType)
 | 0,i,acc,hi,hl,ha=>⟨acc,by rw[gx,if_neg (by simp;omega)],by omega,fun j hj=>ha j (by omega)⟩
 | k+1,i,acc,hi,hl,ha=>by
   have hlt:i < ns.length:=by omega
   have hx:=hN _ (gt hlt dNd);obtain⟨e,k1,k9⟩:=kd_eq hN h5 (i:=(i:Int)) (by omega) (by omega);have next:∀t:SType,TyP ns (i:Int) t→∃l,(if room 120 (acc++[t]).length=true then gx ((ns.length:Int),addI .i64 (i:Int) 1,ns,acc++[t])else none)=some l∧l.length=ns.length∧∀j,j < ns.length→TyP ns (j:Int) (l.getD j dSType):=by
     intro t ht;rw[if_pos (g66 (by omega) (by simp;omega)),gu (by omega)];refine of_l0 h1 k (i+1) _ (by omega) (by simp;omega) fun j hj=>?_
     by_cases hji:j < i
     · have:(acc++[t]).getD j dSType=acc.getD j dSType:=by
         rw[List.getD_eq_getElem?_getD,List.getD_eq_getElem?_getD,List.getElem?_append_left (by omega)]
       rw[this];exact ha j hji
     · have:j=i:=by omega
       subst this;have:(acc++[t]).getD j dSType=t:=by
         rw[List.getD_eq_getElem?_getD,List.getElem?_append_right (by omega),hl];simp
       rw[this];exact ht
   rw[gx,if_pos (by simp;omega),if_pos (g8 hlt)];simp only[oZ4,oZ3,g9];rw[e];simp only[oZ3,g1z];have hrune:=g1qo (k:=(i:Int)) ⟨by omega,by omega⟩;have hT:∀t,TyP ns (i:Int) t→TyP ns (i:Int) t:=fun t h=>h
   have⟨ga,gb,gc⟩:U8 (ns.getD i dNd).A∧U8 (ns.getD i dNd).B∧U8 (ns.getD i dNd).C:=⟨hx.a,hx.b,hx.c⟩
   have g0:(!(decide ((ns.length:Int)=0)))=true:=nz (by omega);have gA:wrp .i64 (remI (ns.getD i dNd).A 4)=(ns.getD i dNd).A % 4:=by
     unfold U8 at ga;rw[g8m ga.1 (by omega),gi4 ⟨by omega,by omega⟩]
   have gC:remI (wrp .i64 (ns.getD i dNd).C) (ns.length:Int)=(ns.getD i dNd).C % (ns.length:Int):=by
     unfold U8 at gc;rw[gi4 ⟨by omega,by omega⟩,g8m gc.1 (by omega)]
   have hc9:kd ns (i:Int)=1∨kd ns (i:Int)=2∨kd ns (i:Int)=3∨kd ns (i:Int)=4∨kd ns (i:Int)=5∨kd ns (i:Int)=6∨kd ns (i:Int)=7∨kd ns (i:Int)=8∨kd ns (i:Int)=9:=by omega
   rcases hc9 with hk | hk | hk | hk | hk | hk | hk | hk | hk <;> rw[hk] <;>
     simp only[Int.reduceEq,decide_false,decide_true,Bool.false_eq_true,if_false,if_true,oZ3,cond_false,cond_true]
   · exact next _ (by unfold TyP;simp[hk])
   · have el:=g1al hx;have eh:=g1ch hx;have el':g5s (ns.getD i dSheaveref07Node)=_:=el;have eh':g7b (ns.getD i dSheaveref07Node)=_:=eh;rw[el'];simp only[oZ3];rw[eh'];simp only[oZ3];exact next _ (by unfold TyP;simp only[g9];exact .inr (.inl ⟨hk,by first | trivial | rfl⟩))
   · have gA':wrp .i64 (remI (ns.getD i dSheaveref07Node).A 4)=_:=gA;rw[gA'];exact next _ (by unfold TyP;simp only[g9];exact .inr (.inr (.inl ⟨hk,by first | trivial | rfl⟩)))
   · obtain⟨i1,i2,i3,i4⟩:=ids_eq' (ns.getD i dNd);have i1':g55 (ns.getD i dSheaveref07Node)=_:=i1;rw[i1'];simp only[oZ3];have hs:=g1ci (l:=idsL (ns.getD i dNd)) i4 i2.2 (ns.length:Int) (i:Int) ns 4 (gdf (wrp .i32 (addI .i64 65 (i:Int)))) 0 0 0 0 0 (decide (remI (ns.getD i dNd).B 2=1)) acc (idsL (ns.getD i dNd)).length 0 [] (by omega) (by simp)
     have hs':g3w ((ns.length:Int),(i:Int),idsL (ns.getD i dNd),0,ns,4,gdf (wrp .i32 (addI .i64 65 (i:Int))),0,0,0,0,0,decide (remI (ns.getD i dSheaveref07Node).B 2=1),acc,[])=_:=hs;rw[hs'];simp only[oZ3,List.drop_zero,List.nil_append];rw[hrune];exact next _ (by unfold TyP;simp only[g9];exact .inr (.inr (.inr (.inl ⟨hk,_,rfl⟩))))
   · obtain⟨l,l1,l2⟩:=g1ap hN h5 h1 (i:=(i:Int)) ⟨by omega,by omega⟩ true;rw[l1];simp only[oZ3];rw[hrune];exact next _ (by unfold TyP;simp only[g9];exact .inr (.inr (.inr (.inr (.inl ⟨hk,l,l2,rfl⟩)))))
   · obtain⟨l,l1,l2⟩:=g1ap hN h5 h1 (i:=(i:Int)) ⟨by omega,by omega⟩ false;rw[l1];simp only[oZ3];rw[hrune];by_cases h0:l.length=0
     · rw[if_pos (by simp[h0])];exact next _ (by unfold TyP;simp only[g9];exact .inr (.inr (.inr (.inr (.inr (.inl ⟨hk,by first | trivial | rfl⟩))))))
     · rw[if_neg (by simp;intro h;rw[h]at h0;simp at h0)];exact next _ (by unfold TyP;simp only[g9];exact .inr (.inr (.inr (.inr (.inr (.inr (.inl ⟨hk,l,_,l2,by omega,rfl⟩)))))))
   · have gA':wrp .i64 (remI (ns.getD i dSheaveref07Node).A 4)=_:=gA;have gC':remI (wrp .i64 (ns.getD i dSheaveref07Node).C) (ns.length:Int)=_:=gC;rw[if_pos g0,gA',gC'];exact next _ (by unfold TyP;simp only[g9];exact .inr (.inr (.inr (.inr (.inr (.inr (.inr (.inl ⟨hk,by first | trivial | rfl⟩))))))))
   · have gA':wrp .i64 (remI (ns.getD i dSheaveref07Node).A 4)=_:=gA;have gC':remI (wrp .i64 (ns.getD i dSheaveref07Node).C) (ns.length:Int)=_:=gC;obtain⟨u,u1,u2⟩:=g1gs hN h5 gb h1;have u1':g8g ((⟨ns⟩:Sheaveref07Draft),(ns.getD i dSheaveref07Node).B)=some u:=u1;rw[u1'];simp only[oZ3];rw[if_pos g0,gA',gC'];rcases u2 with⟨rfl,a⟩ | a
     · rw[if_pos (by simp)];exact next _ (by unfold TyP;simp only[g9];exact .inr (.inr (.inr (.inr (.inr (.inr (.inr (.inr (.inl ⟨hk,a,by first | trivial | rfl⟩)))))))))
     · rw[if_neg (by have:=a.1;simp;omega)];exact next _ (by unfold TyP;simp only[g9];exact .inr (.inr (.inr (.inr (.inr (.inr (.inr (.inr (.inr (.inl ⟨hk,u,a,rfl⟩))))))))))
   · have gC':remI (wrp .i64 (ns.getD i dSheaveref07Node).C) (ns.length:Int)=_:=gC;rw[if_pos g0,gC'];exact next _ (by unfold TyP;simp only[g9];exact .inr (.inr (.inr (.inr (.inr (.inr (.inr (.inr (.inr (.inr ⟨hk,by first | trivial | rfl⟩))))))))))
end
def DOk(d:Sheaveref07Draft) :Prop:=d.Nodes.length≤reachBytes∧∀x,x∈d.Nodes→NOk x
theorem of_eq{d:Sheaveref07Draft}(hd:DOk d) :g9a d=some (⟨[]⟩,false)∨∃l,g9a d=some (⟨l⟩,true)∧1≤d.Nodes.length∧d.Nodes.length≤5∧l.length=d.Nodes.length∧∀j,j < d.Nodes.length→TyP d.Nodes (j:Int) (l.getD j dSType):=by
 rw[g9a];simp only[oZ4,oZ3];by_cases h:1≤d.Nodes.length∧d.Nodes.length≤5
 · obtain⟨l,l1,l2,l3⟩:=of_l0 hd.2 h.2 h.1 d.Nodes.length 0 [] (by omega) rfl (fun j hj=>by omega);have l1':gx ((d.Nodes.length:Int),0,d.Nodes,[])=some l:=l1;right;have hc:¬((bif decide ((d.Nodes.length:Int) < 1)then true else decide (5 < (d.Nodes.length:Int)))=true):=by
     have a:¬(d.Nodes.length:Int) < 1:=by omega
     have b:¬(5:Int) < (d.Nodes.length:Int):=by omega
     simp only[a,b,decide_false,cond_false,Bool.false_eq_true,not_false_eq_true]
   rw[if_neg hc,l1'];exact⟨l,rfl,h.1,h.2,l2,l3⟩
 · left;have hc:(bif decide ((d.Nodes.length:Int) < 1)then true else decide (5 < (d.Nodes.length:Int)))=true:=by
     by_cases a:(d.Nodes.length:Int) < 1
     · simp only[a,decide_true,cond_true]
     · have b:(5:Int) < (d.Nodes.length:Int):=by omega
       simp only[a,b,decide_true,decide_false,cond_false]
   rw[if_pos hc]
end
section
open Go Go.Proofs.YthnmepafpikaiaaGreat.Shv Go.Sort
set_option maxRecDepth 100000
structure DrOk (ts:List SType):Prop where
 n1:1≤ts.length
 n5:ts.length≤5
 T:∀t,t∈ts→OkT t
 V:VOk ts
 D:∀t,t∈ts→g1qm ts t.Members
 R:∀i:Nat,i < ts.length→∀m,m∈(ts.getD i dSType).Members→0≤m.Type_∧m.Type_ < ts.length∧(7≤(ts.getD m.Type_.toNat dSType).Kind∨m.Type_ < i)
 L:∀t,t∈ts→t.Kind=2→-3≤t.Low∧t.High≤8
 M:∀t,t∈ts→t.Max≤3
 I:∀t,t∈ts→(∀m,m∈t.Members→m.ID≤12)∧(∀y,y∈t.Symbols→y.ID≤6)∧t.Members.length≤12
 W:∀t,t∈ts→∀m,m∈t.Members→m.HasDefault=true→wt m.Default≤13
theorem gfa{v:SValue}(hk:v.Keys=[])(hi:v.Items=[])(hr:v.Rest=[])(hs:v.Str.length≤1000)(n1:I64 v.Kind)(n2:I64 v.Int_)(n3:I64 v.ID) :OkV v:=by
 refine .mk v (by unfold reachBytes;omega) (by rw[hk];simp) (by rw[hi];simp) (by rw[hr];simp) (fun x hx=>?_) (fun x hx=>?_) (fun x hx=>?_) n1 n2 n3 (fun x hx=>?_)
 · rw[hk]at hx;cases hx
 · rw[hi]at hx;cases hx
 · rw[hr]at hx;cases hx
 · rw[hr]at hx;cases hx
theorem okV_d :OkV dSValue:=gfa rfl rfl rfl (by simp[dSValue]) (by unfold I64 dSValue;simp) (by unfold I64 dSValue;simp) (by unfold I64 dSValue;simp)
theorem g1cj{v:SValue}(hk:v.Keys=[])(hi:v.Items=[])(hr:v.Rest=[]) :wt v=10+v.Str.length:=by
 rw[wt_eq,hk,hi,hr,g9g];simp
section
variable {ns:List Nd} (hN:∀x,x∈ns→NOk x) (h5:ns.length≤5) (h1:1≤ns.length) {l:List SType} (hl:l.length=ns.length) (hT:∀j,j < ns.length→TyP ns (j:Int) (l.getD j dSType))
include hN h5 in
theorem g1ck{t:Int}(ht:0≤t∧t < ns.length){v:SValue}(h:Init ns t v) :OkV v∧wt v≤13:=by
 obtain⟨a,b,c,h⟩:=h;obtain⟨j,rfl⟩:∃j:Nat,t=(j:Int):=⟨t.toNat,by omega⟩
 have hx:=hN _ (gt (by omega:j < ns.length) dNd);obtain⟨_,k1,k9⟩:=kd_eq hN h5 ht.1 ht.2;rw[g9]at h;have ha:=hx.a;have hb:=hx.b;have hids:=(ids_eq' (ns.getD j dNd)).2.1.2;unfold U8 at ha hb;rw[g1cj a b c];have hs:v.Str.length≤3:=by
   rcases h with⟨_,_,_,e,_⟩ | ⟨_,_,_,e,_⟩ | ⟨_,_,_,_,_,e⟩ | ⟨_,_,_,_,e,_⟩ | ⟨_,_,_,e,_⟩
   · rw[e];simp
   · rw[e];simp
   · omega
   · rw[e];simp
   · rw[e];simp
 refine⟨gfa a b c (by omega) ?_ ?_ ?_,by omega⟩
 · unfold I64;rcases h with h | h | h | h | h <;> omega
 · unfold I64;rcases h with⟨_,_,e,_⟩ | ⟨_,_,_,_,_,e⟩ | ⟨_,_,_,e,_⟩ | ⟨_,_,_,e,_⟩ | ⟨_,_,e,_⟩ <;> omega
 · unfold I64;rcases h with⟨_,_,_,_,e⟩ | ⟨_,_,_,_,e,_⟩ | ⟨_,_,_,_,e,_⟩ | ⟨_,_,_,_,_,e⟩ | ⟨_,_,_,_,e,_⟩
   · omega
   · omega
   · omega
   · have:=hids _ e;omega
   · omega
include hN h5 in
theorem g15r{i:Int}{r:Bool}{Ms:List SMember}(h:MemsP ns i r Ms) :gmk (!r) Ms∨(r=false∧Ms=[]):=by
 obtain⟨a,b,c⟩:=h;by_cases h0:r=false∧Ms=[]
 · exact .inr h0
 left;refine⟨fun m hm=>?_,?_,⟨a,fun m hm=>?_⟩,fun m hm=>?_,?_,by omega⟩
 · have q:=b m hm;unfold badM;have hz:m.HasDefault=false→gjj m.Default=true:=fun h=>by
     rw[q.nod h];have h3:Says (g54 (dSValue,dSValue)) dSValue dSValue:=gqm okV_d dSValue;obtain⟨w,w1,w2⟩:=h3;unfold gjj;rw[w1];exact w2.2 rfl
   have hc:=q.crit;have hu:=q.un;cases r <;> cases hcr:m.Critical <;> cases hdf:m.HasDefault <;> simp_all
 · cases r with
   | true=>exact .inl rfl
   | false=>
     right;have:Ms≠[]:=fun e=>h0 ⟨rfl,e⟩
     exact List.length_pos_iff.2 this
 · have:=(b m hm).id;exact⟨by omega,by omega⟩
 · have q:=b m hm;have:=q.id;rw[q.name];exact g1gp (by omega) (by omega)
 · unfold List.Nodup;rw[List.pairwise_map];refine a.imp_of_mem fun {x y} hx hy hlt=>?_
   have qx:=b x hx;have qy:=b y hy;have ix:=qx.id;have iy:=qy.id;rw[qx.name,qy.name];intro e;simp only[List.cons.injEq,and_true,true_and]at e;have e2:=congrArg UInt8.toNat e;rw[g6a (by omega),g6a (by omega)]at e2;omega
theorem g15s{l:List Int}(h:IdsOk l 6)(h1:1≤l.length)(h6:l.length≤6) :g10f (symsL l)∧(∀y,y∈symsL l→y.ID≤6):=by
 unfold symsL;refine⟨⟨by simp;omega,⟨?_,fun y hy=>?_⟩,fun y hy=>?_,?_,by simp;omega⟩,fun y hy=>?_⟩
 · rw[List.pairwise_map];exact h.1
 · obtain⟨x,hx,rfl⟩:=List.mem_map.1 hy;have:=h.2 x hx;exact⟨this.1,by show x≤1000;omega⟩
 · obtain⟨x,hx,rfl⟩:=List.mem_map.1 hy;have:=h.2 x hx;exact g1gp (by omega) (by omega)
 · unfold List.Nodup;rw[List.pairwise_map,List.pairwise_map];refine h.1.imp_of_mem fun {x y} hx hy hlt=>?_
   have ix:=h.2 x hx;have iy:=h.2 y hy;intro e;simp only[List.cons.injEq,and_true,true_and]at e;have e2:=congrArg UInt8.toNat e;rw[g6a (by omega),g6a (by omega)]at e2;omega
 · obtain⟨x,hx,rfl⟩:=List.mem_map.1 hy;exact(h.2 x hx).2
theorem g1cl{i:Int}{t:SType}(h:TyP ns i t) :(kd ns i≤5∨kd ns i=7∨kd ns i=9→t.Kind=kd ns i)∧(kd ns i=6→t.Kind=5∨t.Kind=6)∧(kd ns i=8→(t.Kind=8∧∃w,KeyT ns w)∨(t.Kind=7∧¬∃w,KeyT ns w)):=by
 unfold TyP at h;rcases h with⟨k,rfl⟩ | ⟨k,rfl⟩ | ⟨k,rfl⟩ | ⟨k,_,rfl⟩ | ⟨k,_,_,rfl⟩ | ⟨k,rfl⟩ | ⟨k,_,_,_,_,rfl⟩ | ⟨k,rfl⟩ | ⟨k,a,rfl⟩ | ⟨k,w,a,rfl⟩ | ⟨k,rfl⟩ <;> simp[k]
 · exact fun w hw=>a w hw
 · exact⟨w,a⟩
theorem gxg{i:Int}{t:SType}(h:TyP ns i t) :t.Members=[]∨∃r,MemsP ns i r t.Members:=by
 unfold TyP at h;rcases h with⟨k,rfl⟩ | ⟨k,rfl⟩ | ⟨k,rfl⟩ | ⟨k,_,rfl⟩ | ⟨k,_,a,rfl⟩ | ⟨k,rfl⟩ | ⟨k,_,_,a,_,rfl⟩ | ⟨k,rfl⟩ | ⟨k,a,rfl⟩ | ⟨k,w,a,rfl⟩ | ⟨k,rfl⟩
 · exact .inl rfl
 · exact .inl rfl
 · exact .inl rfl
 · exact .inl rfl
 · exact .inr ⟨_,a⟩
 · exact .inl rfl
 · exact .inr ⟨_,a⟩
 · exact .inl rfl
 · exact .inl rfl
 · exact .inl rfl
 · exact .inl rfl
include hN h5 h1 hl hT in
theorem g1j7 :DrOk l:=by
 have lift:∀{P:SType→Prop},(∀j,j < ns.length→P (l.getD j dSType))→∀t,t∈l→P t:=fun hp t ht=>by
   obtain⟨i,hi,rfl⟩:=List.getElem_of_mem ht;have:=hp i (by omega);rw[g1n hi]at this;exact this
 have hx:∀j,j < ns.length→NOk (ns.getD j dNd):=fun j hj=>hN _ (gt hj dNd)
 have mem:∀j,j < ns.length→∀m,m∈(l.getD j dSType).Members→∃r,MemP ns (j:Int) r m:=fun j hj m hm=>by
   rcases gxg (hT j hj)with h | ⟨r,_,h,_⟩
   · rw[h]at hm;cases hm
   · exact⟨r,h m hm⟩
 have okT:∀t,t∈l→OkT t:=lift fun j hj=>by
   have hm:=mem j hj;have ht:=hT j hj;have hlm:(l.getD j dSType).Members.length≤12:=by
     rcases gxg ht with h | ⟨r,_,_,h⟩
     · rw[h];simp
     · exact h
   have hls:(l.getD j dSType).Symbols.length≤6:=by
     have hi:=(ids_eq' (ns.getD j dNd)).2.2.2;unfold TyP at ht;rcases ht with⟨k,e⟩ | ⟨k,e⟩ | ⟨k,e⟩ | ⟨k,_,e⟩ | ⟨k,_,_,e⟩ | ⟨k,e⟩ | ⟨k,_,_,_,_,e⟩ | ⟨k,e⟩ | ⟨k,_,e⟩ | ⟨k,_,_,e⟩ | ⟨k,e⟩ <;> rw[e]
     case inr.inr.inr.inl=>simp only[g9,symsL,List.length_map];exact hi
     all_goals simp
   refine⟨by unfold reachBytes;omega,by unfold reachBytes;omega,fun m hm'=>?_⟩;obtain⟨r,q⟩:=hm m hm';by_cases hd:m.HasDefault=true
   · exact(g1ck hN h5 ⟨q.tgt.1,q.tgt.2.1⟩ (q.dfl hd)).1
   · rw[q.nod (by simpa using hd)];exact okV_d
 have kind7:∀u:Int,0≤u→u < ns.length→7≤kd ns u→7≤(l.getD u.toNat dSType).Kind:=fun u h0 hu h7=>by
   obtain⟨j,rfl⟩:∃j:Nat,u=(j:Int):=⟨u.toNat,by omega⟩
   rw[g9];obtain⟨_,_,k9⟩:=kd_eq hN h5 h0 hu;obtain⟨a,b,c⟩:=g1cl (hT j (by omega));have:kd ns (j:Int)=7∨kd ns (j:Int)=8∨kd ns (j:Int)=9:=by omega
   rcases this with h | h | h
   · have:=a (.inr (.inl h));omega
   · rcases c h with h | h <;> omega
   · have:=a (.inr (.inr h));omega
 have vok:VOk l:=by
   refine⟨by omega,lift fun j hj=>?_,fun j hj=>?_,lift fun j hj=>?_,lift fun j hj h8=>?_⟩
   · have ht:=hT j hj;have hid:=ids_eq' (ns.getD j dNd);have ha:=(hx j hj).a;have hb:=(hx j hj).b;have hnm:nm [UInt8.ofNat (65+j)]=true:=g1qp (by omega);unfold U8 at ha hb;unfold TyP at ht;simp only[g9]at ht;generalize [UInt8.ofNat (65+j)]=nmL at hnm ht;unfold FormP
     rcases ht with⟨k,e⟩ | ⟨k,e⟩ | ⟨k,e⟩ | ⟨k,_,e⟩ | ⟨k,Ms,a,e⟩ | ⟨k,e⟩ | ⟨k,Ms,_,a,a0,e⟩ | ⟨k,e⟩ | ⟨k,_,e⟩ | ⟨k,_,_,e⟩ | ⟨k,e⟩ <;> rw[e]
     · simp
     · simp;omega
     · simp;omega
     · simp;exact⟨hnm,(g15s hid.2.1 hid.2.2.1 hid.2.2.2).1⟩
     · simp;refine⟨hnm,?_⟩;rcases g15r hN h5 a with h | ⟨h,_⟩
       · exact h
       · cases h
     · simp;exact⟨hnm,fun m hm=>(by cases hm),.inl rfl,⟨.nil,fun m hm=>by cases hm⟩,fun m hm=>(by cases hm),by simp,by simp⟩
     · simp;refine⟨hnm,?_⟩;rcases g15r hN h5 a with h | ⟨_,h⟩
       · exact h
       · rw[h]at a0;simp at a0
     · simp;omega
     · simp;omega
     · simp;omega
     · simp
   ·
     have nameOf:∀k,k < ns.length→(l.getD k dSType).Name=[]∨(l.getD k dSType).Name=[UInt8.ofNat (65+k)]:=fun k hk=>by
       have ht:=hT k hk;unfold TyP at ht;simp only[g9]at ht;rcases ht with⟨k,e⟩ | ⟨k,e⟩ | ⟨k,e⟩ | ⟨k,_,e⟩ | ⟨k,Ms,a,e⟩ | ⟨k,e⟩ | ⟨k,Ms,_,a,a0,e⟩ | ⟨k,e⟩ | ⟨k,_,e⟩ | ⟨k,_,_,e⟩ | ⟨k,e⟩ <;> rw[e] <;> simp
     rcases nameOf j (by omega)with h | h
     · rw[h];simp
     · rw[h];simp only[Bool.and_eq_false_iff];right;apply Bool.eq_false_iff.2;intro hc;obtain⟨k,hk,he⟩:=(g77 (by simp;omega)).1 hc;have hg:(l.map (·.Name)).getD k []=(l.getD k dSType).Name:=g2y (·.Name) l k dSType [] (by omega);rw[hg]at he;rcases nameOf k (by omega)with h' | h'
       · rw[h']at he;cases he
       · rw[h']at he;simp only[List.cons.injEq,and_true]at he;have e2:=congrArg UInt8.toNat he;rw[g6a (by omega),g6a (by omega)]at e2;omega
   · intro u hu;have hm:=mem j hj;have hc:=(hx j hj).c;unfold U8 at hc;have c0:0≤(ns.getD j dNd).C % (ns.length:Int):=Int.emod_nonneg _ (by omega);have c1:(ns.getD j dNd).C % (ns.length:Int) < ns.length:=Int.emod_lt_of_pos _ (by omega);have ht:=hT j hj;unfold TyP at ht;simp only[g9]at ht;generalize (ns.getD j dNd).C % (ns.length:Int)=cc at c0 c1 ht;unfold usesL at hu
     simp only[List.mem_append,List.mem_map]at hu;rcases hu with(⟨m,h,rfl⟩ | h) | h
     · obtain⟨r,q⟩:=hm m h;have:=q.tgt.1;have:=q.tgt.2.1;omega
     · split at h
       · rename_i h8;have:u=(l.getD j dSType).Key:=by simpa using h
         rw[this];rcases ht with⟨k,e⟩ | ⟨k,e⟩ | ⟨k,e⟩ | ⟨k,_,e⟩ | ⟨k,Ms,a,e⟩ | ⟨k,e⟩ | ⟨k,Ms,_,a,a0,e⟩ | ⟨k,e⟩ | ⟨k,_,e⟩ | ⟨k,w,a,e⟩ | ⟨k,e⟩ <;> rw[e]at h8 ⊢ <;> simp at h8 ⊢
         obtain⟨w0,w1,_⟩:=a;omega
       · cases h
     · split at h
       · rename_i h7;have:u=(l.getD j dSType).Elem:=by simpa using h
         rw[this];rcases ht with⟨k,e⟩ | ⟨k,e⟩ | ⟨k,e⟩ | ⟨k,_,e⟩ | ⟨k,Ms,a,e⟩ | ⟨k,e⟩ | ⟨k,Ms,_,a,a0,e⟩ | ⟨k,e⟩ | ⟨k,_,e⟩ | ⟨k,w,a,e⟩ | ⟨k,e⟩ <;> rw[e]at h7 ⊢ <;> simp at h7 ⊢ <;> omega
       · cases h
   · have ht:=hT j hj;unfold TyP at ht;simp only[g9]at ht;rcases ht with⟨k,e⟩ | ⟨k,e⟩ | ⟨k,e⟩ | ⟨k,_,e⟩ | ⟨k,Ms,a,e⟩ | ⟨k,e⟩ | ⟨k,Ms,_,a,a0,e⟩ | ⟨k,e⟩ | ⟨k,_,e⟩ | ⟨k,w,a,e⟩ | ⟨k,e⟩ <;> rw[e]at h8 ⊢ <;> simp at h8 ⊢
     obtain⟨w0,w1,w2,w3⟩:=a;obtain⟨q,rfl⟩:∃q:Nat,w=(q:Int):=⟨w.toNat,by omega⟩
     obtain⟨a,_,_⟩:=g1cl (hT q (by omega));have:=a (.inl (by omega));simp only[g9];rw[←List.getD_eq_getElem?_getD];omega
 refine⟨by omega,by omega,okT,vok,lift fun j hj m hm hd=>?_,fun j hj m hm=>?_,lift fun j hj h2=>?_,lift fun j hj=>?_,lift fun j hj=>⟨fun m hm=>?_,fun y hy=>?_,?_⟩,lift fun j hj m hm hd=>?_⟩
 · obtain⟨r,q⟩:=mem j hj m hm;have hi:=q.dfl hd;obtain⟨u0,u1,_⟩:=q.tgt;generalize m.Default=v at hi;obtain⟨u,hu⟩:∃u:Nat,m.Type_=(u:Int):=⟨m.Type_.toNat,by omega⟩
   rw[hu]at hi u0 u1 ⊢;have ht:=hT u (by omega);obtain⟨a,b,c,hi⟩:=hi;rw[gfw];simp only[g9]at hi ⊢;unfold TyP at ht;simp only[g9]at ht;have hlen:((l.length:Nat):Int)=ns.length:=by omega
   rw[hlen];generalize l.getD u dSType=x at ht ⊢;rw[a,b,c];have vn:∀t,vfits l true t []:=fun t=>by rw[vfits];trivial
   have ka:ga2 []:=fun i hi=>by simp at hi
   have hxu:=hx u (by omega);generalize ns.getD u dNd=nd at ht hi hxu;rcases hi with⟨k,e1,e2,e3,e4⟩ | ⟨k,e1,e2,e3,e4,e5,e6⟩ | ⟨k,e1,e2,e3,e4,e5⟩ | ⟨k,e1,e2,e3,e4,e5⟩ | ⟨k,e1,e2,e3,e4,e5⟩
   · rw[k]at ht;simp only[Int.reduceEq,false_and,true_and,or_false,false_or]at ht;rw[ht,e1,e2,e3,e4];simp <;> omega
   · rw[k]at ht;simp only[Int.reduceEq,false_and,true_and,or_false,false_or]at ht;rw[ht,e1,e2,e3,e4];simp <;> omega
   · rw[k]at ht;simp only[Int.reduceEq,false_and,true_and,or_false,false_or]at ht;rw[ht,e1,e2,e3,e4];simp <;> omega
   · rw[k]at ht;simp only[Int.reduceEq,false_and,true_and,or_false,false_or]at ht;obtain⟨o,rfl⟩:=ht;rw[e1,e2,e3,e4];simp;refine⟨by omega,⟨v.ID,[UInt8.ofNat 115,UInt8.ofNat (97+v.ID.toNat)]⟩,?_,rfl⟩;unfold symsL;refine List.mem_map.2 ⟨v.ID,?_,rfl⟩;exact e5
   · rw[e1,e2,e3,e4];have k9:kd ns (u:Int)≤9:=(kd_eq hN h5 u0 u1).2.2;have hcc:kd ns (u:Int)=7∨kd ns (u:Int)=8∨kd ns (u:Int)=9:=by omega
     have ha:=hxu.a;unfold U8 at ha;rcases hcc with k' | k' | k'
     · rw[k']at ht e5;simp only[Int.reduceEq,false_and,true_and,or_false,false_or]at ht;have e5':v.Kind=7:=by simpa using e5
       rw[ht,e5'];simp[vn];omega
     · rw[k']at ht e5;simp at e5;rcases e5 with⟨e5,w,hw⟩ | ⟨e5,e6⟩
       · simp at ht;rcases ht with⟨hno,_⟩ | ⟨w',hw',rfl⟩
         · exact absurd hw (hno w)
         · rw[e5];simp[vn,ka];omega
       · simp at ht;rcases ht with⟨hno,rfl⟩ | ⟨w',hw',rfl⟩
         · rw[e5];simp[vn];omega
         · exact absurd hw' (e6 w')
     · rw[k']at ht e5;simp only[Int.reduceEq,false_and,true_and,or_false,false_or]at ht;have e5':v.Kind=9:=by simpa using e5
       rw[ht,e5'];simp[vn];omega
 · obtain⟨r,q⟩:=mem j (by omega) m hm;obtain⟨u0,u1,u2⟩:=q.tgt;refine⟨u0,by omega,?_⟩;rcases u2 with h | h
   · exact .inl (kind7 _ u0 u1 h)
   · exact .inr h
 · have ht:=hT j hj;have ha:=(hx j hj).a;have hb:=(hx j hj).b;unfold U8 at ha hb;unfold TyP at ht;simp only[g9]at ht;rcases ht with⟨k,e⟩ | ⟨k,e⟩ | ⟨k,e⟩ | ⟨k,_,e⟩ | ⟨k,Ms,a,e⟩ | ⟨k,e⟩ | ⟨k,Ms,_,a,a0,e⟩ | ⟨k,e⟩ | ⟨k,_,e⟩ | ⟨k,w,a,e⟩ | ⟨k,e⟩ <;> rw[e]at h2 ⊢ <;> simp at h2 ⊢
   omega
 · have ht:=hT j hj;have ha:=(hx j hj).a;unfold U8 at ha;unfold TyP at ht;simp only[g9]at ht;rcases ht with⟨k,e⟩ | ⟨k,e⟩ | ⟨k,e⟩ | ⟨k,_,e⟩ | ⟨k,Ms,a,e⟩ | ⟨k,e⟩ | ⟨k,Ms,_,a,a0,e⟩ | ⟨k,e⟩ | ⟨k,_,e⟩ | ⟨k,w,a,e⟩ | ⟨k,e⟩ <;> rw[e] <;> simp <;> omega
 · obtain⟨r,q⟩:=mem j hj m hm;exact q.id.2
 · have ht:=hT j hj;have hid:=ids_eq' (ns.getD j dNd);unfold TyP at ht;simp only[g9]at ht;rcases ht with⟨k,e⟩ | ⟨k,e⟩ | ⟨k,e⟩ | ⟨k,_,e⟩ | ⟨k,Ms,a,e⟩ | ⟨k,e⟩ | ⟨k,Ms,_,a,a0,e⟩ | ⟨k,e⟩ | ⟨k,_,e⟩ | ⟨k,w,a,e⟩ | ⟨k,e⟩ <;> rw[e]at hy <;> simp at hy
   exact(g15s hid.2.1 hid.2.2.1 hid.2.2.2).2 y hy
 · rcases gxg (hT j hj)with h | ⟨r,_,_,h⟩
   · rw[h];simp
   · exact h
 · obtain⟨r,q⟩:=mem j hj m hm;exact(g1ck hN h5 ⟨q.tgt.1,q.tgt.2.1⟩ (q.dfl hd)).2
end
theorem of_ok{d:Sheaveref07Draft}(hd:DOk d) :g9a d=some (⟨[]⟩,false)∨∃l,g9a d=some (⟨l⟩,true)∧DrOk l:=by
 rcases of_eq hd with h | ⟨l,a,b,c,e,f⟩
 · exact .inl h
 · exact .inr ⟨l,a,g1j7 hd.2 c b e f⟩
end
section
open Go Go.Proofs.YthnmepafpikaiaaGreat.Shv Go.Sort
set_option maxRecDepth 100000
def Suf(C' C:List Int) :Prop:=C'.length≤C.length∧∀c,c∈C'→c∈C
theorem Suf.refl(C:List Int) :Suf C C:=⟨Nat.le_refl _,fun _ h=>h⟩
theorem Suf.trans{A B C:List Int}(h:Suf A B)(k:Suf B C) :Suf A C:=⟨Nat.le_trans h.1 k.1,fun c hc=>k.2 c (h.2 c hc)⟩
def CU8(C:List Int) :Prop:=∀c,c∈C→U8 c
theorem CU8.suf{A B:List Int}(h:CU8 B)(k:Suf A B) :CU8 A:=fun c hc=>h c (k.2 c hc)
section
variable {ts:List SType}
theorem gb3 {n : Int} (hn : 1 ≤ n ∧ n ≤ 1000) {C : List Int} (hC : CU8 C) (hl : C.length ≤ 1000) (odd : Bool) :
   ∃r C',g1a (n,ts,C,odd)=some (r,ts,C',odd)∧0≤r∧r < n∧Suf C' C∧(r=0∧C'=[]∧C=[]∨C'.length+1=C.length):=by
 rw[g1a];cases C with
 | nil=>
   rw[if_pos (by simp)];exact⟨0,[],rfl,by omega,by omega,Suf.refl _,.inl ⟨rfl,rfl,rfl⟩⟩
 | cons c C=>
   have hc:=hC c (.head _);unfold U8 at hc;have h0:inR 0 (c::C).length=true:=g8 (k:=0) (by simp);have h1:slR 1 ((c::C).length:Int) (c::C).length=true:=gc0 (a:=1) (by simp) (by simp);have h2:cutL (c::C) 1 ((c::C).length:Int)=C:=by
     have:=gju (c::C) 1
     simpa using this
   rw[if_neg (by simp;omega),if_pos h0,if_pos (nz (by omega)),if_pos h1,h2];simp only[Int.toNat_zero,List.getD_cons_zero];rw[gi4 ⟨by omega,by omega⟩,g8m hc.1 (by omega)];exact⟨_,C,rfl,Int.emod_nonneg _ (by omega),Int.emod_lt_of_pos _ (by omega),⟨by simp,fun x hx=>.tail _ hx⟩,.inr (by simp)⟩
theorem g1aq {C : List Int} (hC : CU8 C) (hl : C.length ≤ 1000) (odd : Bool) :
   ∃o C',g5z (ts,C,odd)=some (o,ts,C',odd)∧(odd=false→o=false)∧Suf C' C:=by
 rw[g5z];cases odd with
 | false=>exact⟨false,C,rfl,fun _=>rfl,Suf.refl _⟩
 | true=>
   obtain⟨r,C',h1,_,_,h4,_⟩:=gb3 (ts:=ts) (n:=4) ⟨by omega,by omega⟩ hC hl true;rw[if_pos rfl,h1];exact⟨_,C',rfl,fun h=>(by cases h),h4⟩
theorem g1n4{x:SType}(hm:x.Members.length < 9223372036854775807)(hs:x.Symbols.length < 9223372036854775807)(n:Int) :SaysP (gf5 (x,n)) ((∃m,m∈x.Members∧m.ID=n)∨∃y,y∈x.Symbols∧y.ID=n):=by
 obtain⟨r,_,r2,hf⟩:=g73 (t:=x) n hm;obtain⟨s,_,s2,hg⟩:=gum (t:=x) n hs;rw[gf5,r2];simp only[oZ4,oZ3];rw[s2];refine⟨_,rfl,?_⟩;have h1:=g15p hg;have h2:r.2=true↔∃m,m∈x.Members∧m.ID=n:=by
   rcases gd3 hf with⟨e,j,q1,_,_,q4⟩ | ⟨e,q⟩
   · rw[e];simp only[true_iff];exact⟨_,gt q1 dSMember,q4⟩
   · rw[e];have:=gxe q;simp;exact this
 rw[←h1,←h2];cases r.2 <;> cases s.2 <;> simp
theorem g15t {x : SType} (hm : x.Members.length < 9223372036854775807) (hs : x.Symbols.length < 9223372036854775807) (h12 : ∀ m, m ∈ x.Members → m.ID ≤ 12) (h6 : ∀ y, y ∈ x.Symbols → y.ID ≤ 6) (C : List Int) (odd : Bool) :
   ∀(k:Nat) (n:Int),1≤n→n≤14→13≤n+k→∃n',g3o (n,ts,C,odd,x)=some (n',ts,C,odd)∧1≤n'∧n'≤14∧(∀m,m∈x.Members→m.ID≠n')∧(∀y,y∈x.Symbols→y.ID≠n')
 | k,n,h1,h14,hk=>by
   obtain⟨r,r1,r2⟩:=g1n4 hm hs n;rw[g3o,r1];simp only[oZ4,oZ3];cases r with
   | false=>
     rw[if_neg (by simp)];refine⟨n,rfl,h1,h14,fun m hm' e=>?_,fun y hy e=>?_⟩
     · have:=r2.2 (.inl ⟨m,hm',e⟩);cases this
     · have:=r2.2 (.inr ⟨y,hy,e⟩);cases this
   | true=>
     have hle:n≤12:=by
       rcases r2.1 rfl with⟨m,hm',e⟩ | ⟨y,hy,e⟩
       · have:=h12 m hm';omega
       · have:=h6 y hy;omega
     rw[if_pos rfl,gb7 (by omega) (by omega)]
     match k,hk with
     | 0,hk=>omega
     | k+1,hk=>exact g15t hm hs h12 h6 C odd k (n+1) (by omega) (by omega) (by omega)
theorem gxh {x : SType} (hm : x.Members.length < 9223372036854775807) (hs : x.Symbols.length < 9223372036854775807) (h12 : ∀ m, m ∈ x.Members → m.ID ≤ 12) (h6 : ∀ y, y ∈ x.Symbols → y.ID ≤ 6) {C : List Int} (hC : CU8 C) (hl : C.length ≤ 1000) (odd : Bool) :
   ∃n C',g2v (x,ts,C,odd)=some (n,ts,C',odd)∧I1000 n∧findM x.Members n=none∧Suf C' C:=by
 obtain⟨r,C',h1,h2,h3,h4,_⟩:=gb3 (ts:=ts) (n:=14) ⟨by omega,by omega⟩ hC hl odd;obtain⟨n,n1,n2,n3,n4,_⟩:=g15t (ts:=ts) hm hs h12 h6 C' odd 12 (1+r) (by omega) (by omega) (by omega);refine⟨n,C',?_,⟨by omega,by omega⟩,?_,h4⟩
 · rw[g2v,h1];simp only[oZ4,oZ3];rw[gb7 (by omega) (by omega),n1];rfl
 · unfold findM;rw[List.find?_eq_none];intro m hm'
   simpa using n4 m hm'
theorem g1ar{n:Int}{C:List Int}(hC:CU8 C)(hl:C.length≤1000)(odd:Bool) :∃d C',g60 (n,ts,C,odd)=some (⟨n,d⟩,ts,C',odd)∧d.length≤3∧Suf C' C:=by
 obtain⟨r,C',h1,h2,h3,h4,_⟩:=gb3 (ts:=ts) (n:=4) ⟨by omega,by omega⟩ hC hl odd;obtain⟨k,rfl⟩:∃k:Nat,r=(k:Int):=⟨r.toNat,by omega⟩
 rw[g60];simp only[oZ4,oZ3];rw[h1];simp only[oZ3];rw[if_pos (g8 (by simp;omega)),g9];refine⟨_,C',rfl,?_,h4⟩;have:k=0∨k=1∨k=2∨k=3:=by omega
 rcases this with rfl | rfl | rfl | rfl <;> simp
theorem g1cm(odd:Bool) :∀(k:Nat) (s:List UInt8) (C:List Int),k≤100→CU8 C→C.length≤1000→s.length+k≤100→∃s' C',g3h (s,(k:Int),ts,C,odd)=some (s',ts,C',odd)∧s'.length≤s.length+k∧Suf C' C
 | 0,s,C,hk,hC,hl,hs=>⟨s,C,by rw[g3h,if_neg (by simp)],by omega,Suf.refl _⟩
 | k+1,s,C,hk,hC,hl,hs=>by
   obtain⟨r,C',h1,h2,h3,h4,_⟩:=gb3 (ts:=ts) (n:=3) ⟨by omega,by omega⟩ hC hl odd;have hpos:decide ((0:Int) < ((k+1:Nat):Int))=true:=by rw[decide_eq_true_eq];omega
   have e:subI .i64 ((k+1:Nat):Int) 1=(k:Int):=by rw[gj4 (by omega) (by omega)];omega
   rw[g3h,if_pos hpos,h1];simp only[oZ4,oZ3];rw[g1ak ⟨h2,by omega⟩,if_pos (g3c (by simp;omega)),e];obtain⟨s',C'',a1,a2,a3⟩:=g1cm odd k (s++[UInt8.ofNat (97+r.toNat)]) C' (by omega) (hC.suf h4) (by have:=h4.1;omega) (by simp;omega);exact⟨s',C'',a1,by simp at a2;omega,a3.trans h4⟩
theorem g1n5{most:Int}(hm:0≤most∧most≤1000){C:List Int}(hC:CU8 C)(hl:C.length≤1000)(odd:Bool) :∃s C',g9n (most,ts,C,odd)=some (s,ts,C',odd)∧(s.length:Int)≤most∧s.length≤3∧Suf C' C:=by
 have em:addI .i64 (minI most 3) 1=min most 3+1:=by
   have:minI most 3=min most 3:=rfl;rw[this,gb7 (by omega) (by omega)]
 obtain⟨r,C',h1,h2,h3,h4,_⟩:=gb3 (ts:=ts) (n:=min most 3+1) ⟨by omega,by omega⟩ hC hl odd;obtain⟨k,rfl⟩:∃k:Nat,r=(k:Int):=⟨r.toNat,by omega⟩
 obtain⟨s,C'',a1,a2,a3⟩:=g1cm (ts:=ts) odd k [] C' (by omega) (hC.suf h4) (by have:=h4.1;omega) (by simp;omega);refine⟨s,C'',?_,by simp at a2;omega,by simp at a2;omega,a3.trans h4⟩;rw[g9n,em,h1];simp only[oZ4,oZ3];rw[a1];rfl
end
theorem gty :∀a b:List UInt8,Op.bytesLess a b=false→a≠b→Op.bytesLess b a=true
 | [],[],_,h=>absurd rfl h
 | [],y::b,h,_=>by simp[Op.bytesLess]at h
 | x::a,[],h,_=>by simp[Op.bytesLess]
 | x::a,y::b,h,hne=>by
   simp only[Op.bytesLess]at h ⊢;by_cases h1:x < y
   · simp[h1]at h
   · by_cases h2:y < x
     · simp[h2]
     · have e:x=y:=by
         have h1':¬x.toNat < y.toNat:=h1;have h2':¬y.toNat < x.toNat:=h2;exact UInt8.toNat_inj.1 (by omega)
       subst e;have hr:Op.bytesLess a b=false:=by simpa using h
       have:=gty a b hr (fun e=>hne (by rw[e]));simp[this]
theorem gxi{a b:SValue}(ha:I64 a.Int_)(hb:I64 b.Int_) :g3x (a,b)=some (vcmp a b):=by
 obtain⟨r,h1,h2⟩:=gsl ha hb;unfold vcmp;rw[h1,h2];rfl
theorem g1gt{a b:SValue}(ha:I64 a.Int_)(hb:I64 b.Int_)(h:0 < vcmp a b) :vcmp b a < 0:=by
 have h1:=gxi ha hb;have h2:=gxi hb ha;generalize vcmp a b=r at h h1;generalize vcmp b a=q at h2;rw[g3x]at h1 h2;by_cases hk:a.Kind=b.Kind
 · rw[if_neg (by simp[hk])]at h1 h2;by_cases k1:a.Kind=1
   · have k1':b.Kind=1:=by omega
     rw[if_pos (by simp[k1])]at h1;rw[if_pos (by simp[k1'])]at h2;simp only[g29,eqB]at h1 h2;cases hA:a.Bool_ <;> cases hB:b.Bool_ <;> simp[hA,hB]at h1 h2 <;> omega
   · have k1':¬b.Kind=1:=by omega
     rw[if_neg (by simp[k1])]at h1;rw[if_neg (by simp[k1'])]at h2;by_cases k2:a.Kind=2
     · have k2':b.Kind=2:=by omega
       rw[if_pos (by simp[k2]),gsk ha,gsk hb]at h1;rw[if_pos (by simp[k2']),gsk ha,gsk hb]at h2;simp only[oZ4,oZ3,g29]at h1 h2;by_cases e:a.Int_=b.Int_
       · simp[e]at h1;omega
       · have hz:zig a.Int_≠zig b.Int_:=fun h=>e (g1c7 h)
         have e':¬b.Int_=a.Int_:=fun h=>e h.symm
         by_cases hl:zig a.Int_ < zig b.Int_
         · simp[e,hl]at h1;omega
         · have hl':zig b.Int_ < zig a.Int_:=by omega
           simp[e',hl']at h2;omega
     · have k2':¬b.Kind=2:=by omega
       rw[if_neg (by simp[k2])]at h1;rw[if_neg (by simp[k2'])]at h2;by_cases k3:a.Kind=3
       · have k3':b.Kind=3:=by omega
         rw[if_pos (by simp[k3])]at h1;rw[if_pos (by simp[k3'])]at h2;simp only[oZ4,oZ3,g29]at h1 h2;by_cases hl:a.Str.length=b.Str.length
         · rw[if_neg (by simp[hl])]at h1 h2;by_cases e:a.Str=b.Str
           · simp[e]at h1;omega
           · have e':¬b.Str=a.Str:=fun h=>e h.symm
             cases hb':Op.bytesLess a.Str b.Str with
             | true=>simp[e,hb']at h1;omega
             | false=>
               have:=gty _ _ hb' e;simp[e',this]at h2;omega
         · have hl1:¬(a.Str.length:Int)=(b.Str.length:Int):=by omega
           have hl2:¬(b.Str.length:Int)=(a.Str.length:Int):=by omega
           rw[if_pos (by simp only[hl1,decide_false,Bool.not_false])]at h1;rw[if_pos (by simp only[hl2,decide_false,Bool.not_false])]at h2;by_cases hlt:(a.Str.length:Int) < (b.Str.length:Int)
           · simp[hlt]at h1;omega
           · have hlt':(b.Str.length:Int) < (a.Str.length:Int):=by omega
             simp[hlt']at h2;omega
       · have k3':¬b.Kind=3:=by omega
         rw[if_neg (by simp[k3])]at h1;rw[if_neg (by simp[k3'])]at h2;by_cases k4:a.Kind=4
         · have k4':b.Kind=4:=by omega
           rw[if_pos (by simp[k4])]at h1;rw[if_pos (by simp[k4'])]at h2;simp only[oZ4,oZ3,g29]at h1 h2;by_cases e:a.ID=b.ID
           · simp[e]at h1;omega
           · have e':¬b.ID=a.ID:=fun h=>e h.symm
             by_cases hlt:a.ID < b.ID
             · simp[e,hlt]at h1;omega
             · have hlt':b.ID < a.ID:=by omega
               simp[e',hlt']at h2;omega
         · rw[if_neg (by simp[k4])]at h1;cases h1;omega
 · rw[if_pos (by simp[hk])]at h1;cases h1;omega
theorem put_l0' {v key item : SValue} (hl : v.Keys.length < 1000000) (hk : ∀ x, x ∈ v.Keys → I64 x.Int_) (hkey : I64 key.Int_) (a : Int) (b : Bool) (c : Int) (d : List UInt8) (e : Int) : ∀ (k i : Nat), i + k = v.Keys.length →
   (∀j,j < i→vcmp (v.Keys.getD j dSValue) key < 0)→∃m:Nat,m≤v.Keys.length∧g58 ((i:Int),v,key,item,a,b,c,d,e)=some ((m:Int),v,key,item,a,b,c,d,e)∧(∀j,j < m→vcmp (v.Keys.getD j dSValue) key < 0)∧(m < v.Keys.length→0≤vcmp (v.Keys.getD m dSValue) key)
 | 0,i,hi,hj=>by
   have hd:decide ((i:Int) < (v.Keys.length:Int))=false:=by simp;omega
   refine⟨i,by omega,?_,hj,fun h=>by omega⟩;rw[g58];simp only[oZ4,oZ3,hd,Bool.not_false,Bool.or_true,if_true,Bool.false_eq_true,if_false,cond_false,SValue.g14]
 | k+1,i,hi,hj=>by
   have hlt:i < v.Keys.length:=by omega
   have hd:decide ((i:Int) < (v.Keys.length:Int))=true:=by simp;omega
   have hc:=gxi (hk _ (gt hlt dSValue)) hkey;rw[g58];simp only[oZ4,oZ3,hd,Bool.not_true,Bool.or_false,if_true,cond_true,SValue.g14,g9];rw[if_pos (g8 hlt),hc];simp only[oZ3];by_cases hneg:vcmp (v.Keys.getD i dSValue) key < 0
   · rw[if_pos (by simpa using hneg),gu (by omega)];refine put_l0' hl hk hkey a b c d e k (i+1) (by omega) fun j hj'=>?_
     by_cases g:j < i
     · exact hj j g
     · have:j=i:=by omega
       subst this;exact hneg
   · rw[if_neg (by simpa using hneg)];exact⟨i,by omega,rfl,hj,fun _=>by omega⟩
theorem gfb :∀(a b:List SValue),wts (a++b)=wts a+wts b
 | [],b=>by rw[g9g];simp
 | x::a,b=>by rw[List.cons_append,gbk,gbk,gfb a b];omega
theorem g1as{α:Type}{l:List α}{m:Nat}{x d:α}(hm:m≤l.length)(i:Nat) :(l.take m++(x::l.drop m)).getD i d=if i < m then l.getD i d else if i=m then x else l.getD (i - 1) d:=by
 by_cases h1:i < m
 · rw[if_pos h1,List.getD_eq_getElem?_getD,List.getElem?_append_left (by simp;omega),List.getElem?_take_of_lt h1,←List.getD_eq_getElem?_getD]
 · rw[if_neg h1,List.getD_eq_getElem?_getD,List.getElem?_append_right (by simp;omega)];have hl:(l.take m).length=m:=by simp;omega
   rw[hl];by_cases h2:i=m
   · subst h2;simp
   · rw[if_neg h2];have:i - m=(i - m - 1)+1:=by omega
     rw[this,List.getElem?_cons_succ,List.getElem?_drop];have:m+(i - m - 1)=i - 1:=by omega
     rw[this,←List.getD_eq_getElem?_getD]
theorem g1qr {v key item : SValue} (hl : v.Keys.length < 1000) (hl2 : v.Items.length = v.Keys.length) (hk : ∀ x, x ∈ v.Keys → I64 x.Int_) (hkey : I64 key.Int_) (ha : ga2 v.Keys) :
   ∃ks is,ggr (v,key,item)=some ⟨v.Kind,v.Bool_,v.Int_,v.Str,v.ID,ks,is,v.Rest⟩∧is.length=ks.length∧ks.length≤v.Keys.length+1∧ga2 ks∧(∀x,x∈ks→x∈v.Keys∨x=key)∧(∀x,x∈is→x∈v.Items∨x=item)∧wts ks+wts is≤wts v.Keys+wts v.Items+wt key+wt item:=by
 obtain⟨m,m1,m2,m3,m4⟩:=put_l0' (item:=item) (by omega) hk hkey 0 false 0 [] 0 v.Keys.length 0 (by omega) (fun j hj=>by omega);have m2':g58 (0,v,key,item,0,false,0,[],0)=_:=m2;rw[ggr];simp only[SValue.g14];rw[m2'];simp only[oZ4,oZ3,SValue.g14]
 have ins:∀(hne:m < v.Keys.length→0 < vcmp (v.Keys.getD m dSValue) key),∃ks is,(some (⟨v.Kind,v.Bool_,v.Int_,v.Str,v.ID,v.Keys.take m++(key::v.Keys.drop m),v.Items.take m++(item::v.Items.drop m),v.Rest⟩:SValue):Option SValue)=some ⟨v.Kind,v.Bool_,v.Int_,v.Str,v.ID,ks,is,v.Rest⟩∧is.length=ks.length∧ks.length≤v.Keys.length+1∧ga2 ks∧(∀x,x∈ks→x∈v.Keys∨x=key)∧(∀x,x∈is→x∈v.Items∨x=item)∧wts ks+wts is≤wts v.Keys+wts v.Items+wt key+wt item:=by
   intro hne;refine⟨_,_,rfl,by simp;omega,by simp;omega,fun i hi=>?_,fun x hx=>?_,fun x hx=>?_,?_⟩
   · rw[g1as m1,g1as m1];have hlen:(v.Keys.take m++(key::v.Keys.drop m)).length=v.Keys.length+1:=by simp;omega
     rw[hlen]at hi;by_cases h1:i+1 < m
     · rw[if_pos (by omega),if_pos h1];exact ha i (by omega)
     · by_cases h2:i+1=m
       · rw[if_pos (by omega),if_neg h1,if_pos h2];exact m3 i (by omega)
       · by_cases h3:i=m
         · rw[if_neg (by omega),if_pos h3,if_neg h1,if_neg h2];have e:i+1 - 1=m:=by omega
           rw[e];exact g1gt (hk _ (gt (by omega) dSValue)) hkey (hne (by omega))
         · rw[if_neg (by omega),if_neg h3,if_neg h1,if_neg h2];have:=ha (i - 1) (by omega);have e:i - 1+1=i+1 - 1:=by omega
           rw[e]at this;exact this
   · rcases List.mem_append.1 hx with h | h
     · exact .inl (List.mem_of_mem_take h)
     · rcases List.mem_cons.1 h with h | h
       · exact .inr h
       · exact .inl (List.mem_of_mem_drop h)
   · rcases List.mem_append.1 hx with h | h
     · exact .inl (List.mem_of_mem_take h)
     · rcases List.mem_cons.1 h with h | h
       · exact .inr h
       · exact .inl (List.mem_of_mem_drop h)
   · rw[gfb,gfb,gbk,gbk];have e1:wts v.Keys=wts (v.Keys.take m)+wts (v.Keys.drop m):=by rw[←gfb,List.take_append_drop]
     have e2:wts v.Items=wts (v.Items.take m)+wts (v.Items.drop m):=by rw[←gfb,List.take_append_drop]
     omega
 have s1:slR 0 (m:Int) v.Keys.length=true:=gc0 (a:=0) (by omega) m1;have s2:slR (m:Int) (v.Keys.length:Int) v.Keys.length=true:=gc0 m1 (by omega);have s3:slR 0 (m:Int) v.Items.length=true:=gc0 (a:=0) (by omega) (by omega);have s4:slR (m:Int) (v.Items.length:Int) v.Items.length=true:=gc0 (by omega) (by omega)
 have build:∀{o:Option SValue→Prop},o (some (⟨v.Kind,v.Bool_,v.Int_,v.Str,v.ID,v.Keys.take m++(key::v.Keys.drop m),v.Items.take m++(item::v.Items.drop m),v.Rest⟩:SValue))→o (some (⟨v.Kind,v.Bool_,v.Int_,v.Str,v.ID,v.Keys.take m++(key::v.Keys.drop m),v.Items.take m++(item::v.Items.drop m),v.Rest⟩:SValue)):=fun h=>h
 by_cases hin:m < v.Keys.length
 · have hd:decide ((m:Int) < (v.Keys.length:Int))=true:=by simp;omega
   have hc:=gxi (hk _ (gt hin dSValue)) hkey;simp only[hd,Bool.not_true,Bool.or_false,if_true,cond_true,g9];rw[if_pos (g8 hin),hc];simp only[oZ3];by_cases h0:vcmp (v.Keys.getD m dSValue) key=0
   · rw[if_pos (by simpa using h0)];refine⟨v.Keys,v.Items,by cases v;rfl,hl2,by omega,ha,fun x hx=>.inl hx,fun x hx=>.inl hx,by omega⟩
   · rw[if_neg (by simpa using h0),if_pos s1,if_pos (g66 (by omega) (by simp[cutL];omega))];rw[if_pos (g66 (by omega) (by simp[cutL];omega)),if_pos s2,if_pos (g66 (by omega) (by simp[cutL];omega)),if_pos s3,if_pos (g66 (by omega) (by simp[cutL];omega)),if_pos (g66 (by omega) (by simp[cutL];omega)),if_pos s4,if_pos (g66 (by omega) (by simp[cutL];omega))]
     rw[gej,gej,gju,gju];simp only[List.nil_append,List.append_assoc,List.singleton_append];exact ins fun _=>by have:=m4 hin;omega
 · have hd:decide ((m:Int) < (v.Keys.length:Int))=false:=by simp;omega
   simp only[hd,Bool.not_false,Bool.or_true,if_true,Bool.false_eq_true,if_false,cond_false,oZ3];rw[if_pos s1,if_pos (g66 (by omega) (by simp[cutL];omega))]
   rw[if_pos (g66 (by omega) (by simp[cutL];omega)),if_pos s2,if_pos (g66 (by omega) (by simp[cutL];omega)),if_pos s3,if_pos (g66 (by omega) (by simp[cutL];omega)),if_pos (g66 (by omega) (by simp[cutL];omega)),if_pos s4,if_pos (g66 (by omega) (by simp[cutL];omega))];rw[gej,gej,gju,gju];simp only[List.nil_append,List.append_assoc,List.singleton_append]
   exact ins fun h=>absurd h hin
end
section
open Go Go.Proofs.YthnmepafpikaiaaGreat.Shv Go.Sort
set_option maxRecDepth 100000
section
variable {ts:List SType}
mutual
theorem vfit_weak :∀(v:SValue) (t:Int),vfit ts true t v→vfit ts false t v
 | ⟨k,b,i,s,id,ks,is,r⟩,t,h=>by
   rw[vfit]at h ⊢;obtain⟨⟨h1,h2,h3,h4⟩,h5⟩:=h;have w:=vfits_weak is;have wk:=vfits_weak ks;have wm:=vfitm_weak is;refine⟨⟨h1,h2,h3,fun h=>by cases h⟩,?_⟩;have c6:(match findM (ts.getD t.toNat dSType).Members id with
     | some m=>r=[]∧is.length=1∧vfits ts true m.Type_ is
     | none=>(ts.getD t.toNat dSType).Open=true∧true=false∧I1000 id∧is=[]∧∃d,r=[⟨id,d⟩])→(match findM (ts.getD t.toNat dSType).Members id with
     | some m=>r=[]∧is.length=1∧vfits ts false m.Type_ is
     | none=>(ts.getD t.toNat dSType).Open=true∧false=false∧I1000 id∧is=[]∧∃d,r=[⟨id,d⟩]):=by
     split
     · rintro ⟨a,b,c⟩;exact⟨a,b,w _ c⟩
     · rintro ⟨_,b,_⟩;cases b
   rcases h5 with h | h | h | ⟨a1,a2,a3,a4,a5,a6,a7,a8⟩ | ⟨a1,a2,a3,a4,a5,a6,a7,a8⟩ | ⟨a1,a2,a3,a4,a5,a6⟩ | ⟨a1,a2,a3,a4,a5,a6,a7,a8,a9⟩ | ⟨a1,a2,a3,a4,a5,a6,a7,a8,a9,a10,a11⟩ | ⟨a1,a2,a3,a4,a5,a6,a7,a8,a9⟩
   · exact .inl h
   · exact .inr (.inl h)
   · exact .inr (.inr (.inl h))
   · refine .inr (.inr (.inr (.inl ⟨a1,a2,a3,a4,a5,a6,a7,?_⟩)));rcases a8 with h | ⟨_,h,_⟩
     · exact .inl h
     · cases h
   · exact .inr (.inr (.inr (.inr (.inl ⟨a1,a2,a3,a4,a5,a6,a7,wm _ a8⟩))))
   · exact .inr (.inr (.inr (.inr (.inr (.inl ⟨a1,a2,a3,a4,a5,c6 a6⟩)))))
   · exact .inr (.inr (.inr (.inr (.inr (.inr (.inl ⟨a1,a2,a3,a4,a5,a6,a7,a8,w _ a9⟩))))))
   · exact .inr (.inr (.inr (.inr (.inr (.inr (.inr (.inl ⟨a1,a2,a3,a4,a5,a6,a7,a8,wk _ a9,w _ a10,a11⟩)))))))
   · exact .inr (.inr (.inr (.inr (.inr (.inr (.inr (.inr ⟨a1,a2,a3,a4,a5,a6,a7,a8,w _ a9⟩)))))))
theorem vfits_weak :∀(l:List SValue) (t:Int),vfits ts true t l→vfits ts false t l
 | [],t,h=>by rw[vfits];trivial
 | v::l,t,h=>by
   rw[vfits]at h ⊢;exact⟨vfit_weak v t h.1,vfits_weak l t h.2⟩
theorem vfitm_weak :∀(l:List SValue) (ms:List SMember),vfitm ts true ms l→vfitm ts false ms l
 | [],[],h=>by rw[vfitm];trivial
 | [],m::ms,h=>by
   have:vfitm ts true (m::ms) []=False:=by rw[vfitm] <;> (intros;simp_all)
   rw[this]at h;exact h.elim
 | v::l,[],h=>by
   have:vfitm ts true [] (v::l)=False:=by rw[vfitm] <;> (intros;simp_all)
   rw[this]at h;exact h.elim
 | v::l,m::ms,h=>by
   rw[vfitm]at h ⊢;exact⟨vfit_weak v m.Type_ h.1,vfitm_weak l ms h.2⟩
end
theorem g1j8{v:SValue}{t:Int}(h:vfit ts true t v)(pl:Bool) :vfit ts pl t v:=by
 cases pl with
 | true=>exact h
 | false=>exact vfit_weak v t h
def rk(ts:List SType)(t:Nat) :Nat:=if 7≤(ts.getD t dSType).Kind then 0 else t+1
def Aw :Nat→Nat
 | 0=>20
 | n+1=>12*Aw n+20
theorem Aw_le{a:Nat} :∀{b:Nat},a≤b→Aw a≤Aw b
 | 0, h => by have : a = 0 := by omega
              subst this;omega
 | b+1,h=>by
   by_cases e:a=b+1
   · subst e;omega
   · have:=Aw_le (a:=a) (b:=b) (by omega);simp only[Aw];omega
theorem Aw_20(r:Nat) :20≤Aw r:=Aw_le (a:=0) (Nat.zero_le _)
theorem Aw_5 :Aw 5=5429060:=rfl
def Mk(ts:List SType)(odd:Bool)(C:List Int)(r:Nat)(t:Int) :Prop:=∃v C',g1e (t,ts,C,odd)=some (v,ts,C',odd)∧vfit ts (!odd) t v∧OkV v∧Suf C' C∧wt v+32574360*C'.length≤Aw r+32574360*C.length
theorem g1gu {odd : Bool} {c r : Nat} (hc : c ≤ 1000) {x : SType} (h12 : x.Members.length ≤ 12) (hm : ∀ m, m ∈ x.Members → (∀ C, CU8 C → C.length ≤ c → Mk ts odd C r m.Type_) ∧ (m.HasDefault = true → vfit ts true m.Type_ m.Default ∧ OkV m.Default ∧ wt m.Default ≤ 13))
   (a0:Int) (a1:Bool) (a2:Int) (a3:List UInt8) (a4:Int) (v0:Int) (v1:Bool) (v2:Int) (v3:List UInt8) (v4:Int):
   ∀(k i:Nat) (C:List Int) (acc:List SValue),i+k=x.Members.length→CU8 C→C.length≤c→acc.length=i→(∀j,j < i→vfit ts (!odd) (x.Members.getD j dSMember).Type_ (acc.getD j dSValue))→(∀y,y∈acc→OkV y)→
   ∃acc' C',g1m ((i:Int),ts,C,odd,a0,a1,a2,a3,a4,x.Kind,x.Name,x.Low,x.High,x.Max,x.Symbols,x.Members,x.Key,x.Elem,x.Open,v0,v1,v2,v3,v4,acc)=some (ts,C',odd,a0,a1,a2,a3,a4,x.Kind,x.Name,x.Low,x.High,x.Max,x.Symbols,x.Members,x.Key,x.Elem,x.Open,v0,v1,v2,v3,v4,acc')∧
     acc'.length=x.Members.length∧(∀j,j < x.Members.length→vfit ts (!odd) (x.Members.getD j dSMember).Type_ (acc'.getD j dSValue))∧(∀y,y∈acc'→OkV y)∧Suf C' C∧wts acc'+32574360*C'.length≤wts acc+k*Aw r+32574360*C.length
 | 0,i,C,acc,hi,hC,hl,ha,hf,ho=>⟨acc,C,by rw[g1m,if_neg (by simp;omega)],by omega,fun j hj=>hf j (by omega),ho,Suf.refl _,by omega⟩
 | k+1,i,C,acc,hi,hC,hl,ha,hf,ho=>by
   have hlt:i < x.Members.length:=by omega
   obtain⟨hmk,hdf⟩:=hm _ (gt hlt dSMember)
   have next : ∀ (w : SValue) (C1 : List Int), vfit ts (!odd) (x.Members.getD i dSMember).Type_ w → OkV w → Suf C1 C → wt w + 32574360 * C1.length ≤ Aw r + 32574360 * C.length →
       ∃acc' C',(if room 120 (acc++[w]).length=true then g1m (addI .i64 (i:Int) 1,ts,C1,odd,a0,a1,a2,a3,a4,x.Kind,x.Name,x.Low,x.High,x.Max,x.Symbols,x.Members,x.Key,x.Elem,x.Open,v0,v1,v2,v3,v4,acc++[w])else none)=some (ts,C',odd,a0,a1,a2,a3,a4,x.Kind,x.Name,x.Low,x.High,x.Max,x.Symbols,x.Members,x.Key,x.Elem,x.Open,v0,v1,v2,v3,v4,acc')∧
         acc'.length=x.Members.length∧(∀j,j < x.Members.length→vfit ts (!odd) (x.Members.getD j dSMember).Type_ (acc'.getD j dSValue))∧(∀y,y∈acc'→OkV y)∧Suf C' C∧wts acc'+32574360*C'.length≤wts acc+(k+1)*Aw r+32574360*C.length:=by
     intro w C1 hw hok hs hwt;rw[if_pos (g66 (by omega) (by simp;omega)),gu (by omega)];obtain⟨acc',C',b1,b2,b3,b4,b5,b6⟩:=g1gu hc h12 hm a0 a1 a2 a3 a4 v0 v1 v2 v3 v4 k (i+1) C1 (acc++[w]) (by omega) (hC.suf hs) (by have:=hs.1;omega) (by simp;omega) (fun j hj=>by
       by_cases h:j < i
       · have e:(acc++[w]).getD j dSValue=acc.getD j dSValue:=by
           rw[List.getD_eq_getElem?_getD,List.getD_eq_getElem?_getD,List.getElem?_append_left (by omega)]
         rw[e];exact hf j h
       · have e0:j=i:=by omega
         subst e0;have e:(acc++[w]).getD j dSValue=w:=by
           rw[List.getD_eq_getElem?_getD,List.getElem?_append_right (by omega),ha];simp
         rw[e];exact hw) (fun y hy=>by
       rcases List.mem_append.1 hy with h | h
       · exact ho y h
       · have:y=w:=by simpa using h
         subst this;exact hok)
     refine⟨acc',C',b1,b2,b3,b4,b5.trans hs,?_⟩;rw[gfb,gbk,g9g]at b6;have e:(k+1)*Aw r=k*Aw r+Aw r:=Nat.succ_mul _ _;omega
   rw[g1m,if_pos (by simp;omega),if_pos (g8 hlt)];simp only[oZ4,oZ3,g9,SValue.g14];cases hd:(x.Members.getD i dSMember).HasDefault with
   | true=>
     obtain⟨f1,f2,f3⟩:=hdf hd;obtain⟨q,C1,n1,n2,n3,n4,n5⟩:=gb3 (ts:=ts) (n:=3) ⟨by omega,by omega⟩ hC (by omega) odd;rw[if_pos rfl,n1];simp only[oZ3,cond_true];by_cases h0:q=0
     · rw[if_pos (by simpa using h0)];have:=n4.1;have:=Aw_20 r;rw[if_pos (g8 hlt)];exact next _ C1 (g1j8 f1 _) f2 n4 (by omega)
     · rw[if_neg (by simpa using h0),if_pos (g8 hlt)];obtain⟨w,C2,m1,m2,m3,m4,m5⟩:=hmk C1 (hC.suf n4) (by have:=n4.1;omega);rw[m1];simp only[oZ3,SValue.g14];have:=n4.1;exact next w C2 m2 m3 (m4.trans n4) (by omega)
   | false=>
     rw[if_neg (by simp),if_neg (by simp),if_pos (g8 hlt)];obtain⟨w,C2,m1,m2,m3,m4,m5⟩:=hmk C hC hl;rw[m1];simp only[oZ3,SValue.g14];exact next w C2 m2 m3 m4 m5
theorem g1cn {odd : Bool} {c r : Nat} (hc : c ≤ 1000) {x : SType} (hE : ∀ C, CU8 C → C.length ≤ c → Mk ts odd C r x.Elem)
   (a0:Int) (a1:Bool) (a2:Int) (a3:List UInt8) (a4:Int) (v0:Int) (v1:Bool) (v2:Int) (v3:List UInt8) (v4:Int):
   ∀(k:Nat) (C:List Int) (acc:List SValue),acc.length+k≤100→CU8 C→C.length≤c→(∀y,y∈acc→vfit ts (!odd) x.Elem y∧OkV y)→
   ∃acc' C',g2p ((k:Int),ts,C,odd,a0,a1,a2,a3,a4,x.Kind,x.Name,x.Low,x.High,x.Max,x.Symbols,x.Members,x.Key,x.Elem,x.Open,v0,v1,v2,v3,v4,acc)=some (ts,C',odd,a0,a1,a2,a3,a4,v0,v1,v2,v3,v4,acc')∧
     acc'.length=acc.length+k∧(∀y,y∈acc'→vfit ts (!odd) x.Elem y∧OkV y)∧Suf C' C∧wts acc'+32574360*C'.length≤wts acc+k*Aw r+32574360*C.length
 | 0,C,acc,ha,hC,hl,hf=>⟨acc,C,by rw[g2p,if_neg (by simp)],by omega,hf,Suf.refl _,by omega⟩
 | k+1,C,acc,ha,hC,hl,hf=>by
   have hpos:decide ((0:Int) < ((k+1:Nat):Int))=true:=by rw[decide_eq_true_eq];omega
   have e:subI .i64 ((k+1:Nat):Int) 1=(k:Int):=by rw[gj4 (by omega) (by omega)];omega
   obtain⟨w,C2,m1,m2,m3,m4,m5⟩:=hE C hC hl;rw[g2p,if_pos hpos,m1];simp only[oZ4,oZ3,SValue.g14];rw[if_pos (g66 (by omega) (by simp;omega)),e];obtain⟨acc',C',b1,b2,b3,b4,b5⟩:=g1cn hc hE a0 a1 a2 a3 a4 v0 v1 v2 v3 v4 k C2 (acc++[w]) (by simp;omega) (hC.suf m4) (by have:=m4.1;omega) (fun y hy=>by
     rcases List.mem_append.1 hy with h | h
     · exact hf y h
     · have:y=w:=by simpa using h
       subst this;exact⟨m2,m3⟩)
   refine⟨acc',C',b1,by simp at b2;omega,b3,b4.trans m4,?_⟩;rw[gfb,gbk,g9g]at b5;have e:(k+1)*Aw r=k*Aw r+Aw r:=Nat.succ_mul _ _;omega
theorem g1gv {odd : Bool} {c r : Nat} (hc : c ≤ 1000) {x : SType} (hK : ∀ C, CU8 C → C.length ≤ c → Mk ts odd C r x.Key) (hE : ∀ C, CU8 C → C.length ≤ c → Mk ts odd C r x.Elem)
   (a0:Int) (a1:Bool) (a2:Int) (a3:List UInt8) (a4:Int) (v0:Int) (v1:Bool) (v2:Int) (v3:List UInt8) (v4:Int) (R:List SRaw):
   ∀(k:Nat) (C:List Int) (ks is:List SValue),ks.length+k≤100→is.length=ks.length→CU8 C→C.length≤c→(∀y,y∈ks→vfit ts (!odd) x.Key y∧OkV y)→(∀y,y∈is→vfit ts (!odd) x.Elem y∧OkV y)→ga2 ks→
   ∃ks' is' C',g2q ((k:Int),ts,C,odd,a0,a1,a2,a3,a4,x.Kind,x.Name,x.Low,x.High,x.Max,x.Symbols,x.Members,x.Key,x.Elem,x.Open,v0,v1,v2,v3,v4,ks,is,R)=some (ts,C',odd,a0,a1,a2,a3,a4,v0,v1,v2,v3,v4,ks',is',R)∧
     ks'.length≤ks.length+k∧is'.length=ks'.length∧(∀y,y∈ks'→vfit ts (!odd) x.Key y∧OkV y)∧(∀y,y∈is'→vfit ts (!odd) x.Elem y∧OkV y)∧ga2 ks'∧Suf C' C∧wts ks'+wts is'+32574360*C'.length≤wts ks+wts is+2*(k*Aw r)+32574360*C.length
 | 0,C,ks,is,ha,hli,hC,hl,hf,hg,hasc=>⟨ks,is,C,by rw[g2q,if_neg (by simp)],by omega,hli,hf,hg,hasc,Suf.refl _,by omega⟩
 | k+1,C,ks,is,ha,hli,hC,hl,hf,hg,hasc=>by
   have hpos:decide ((0:Int) < ((k+1:Nat):Int))=true:=by rw[decide_eq_true_eq];omega
   have e:subI .i64 ((k+1:Nat):Int) 1=(k:Int):=by rw[gj4 (by omega) (by omega)];omega
   obtain⟨w,C2,m1,m2,m3,m4,m5⟩:=hK C hC hl;have hl2:=m4.1;obtain⟨z,C3,n1,n2,n3,n4,n5⟩:=hE C2 (hC.suf m4) (by omega);have hl3:=n4.1;obtain⟨ks1,is1,p1,p2,p3,p4,p5,p6,p7⟩:=g1qr (v:=⟨v0,v1,v2,v3,v4,ks,is,R⟩) (key:=w) (item:=z) (by show ks.length < 1000;omega) hli (fun y hy=>gqu (hf y hy).2) (gqu m3) hasc;simp only at p1 p3 p5 p6 p7
   rw[g2q,if_pos hpos,m1];simp only[oZ4,oZ3,SValue.g14];rw[n1];simp only[oZ3,SValue.g14];rw[p1];simp only[oZ3];rw[e];obtain⟨ks',is',C',b1,b2,b3,b4,b5,b6,b7,b8⟩:=g1gv hc hK hE a0 a1 a2 a3 a4 v0 v1 v2 v3 v4 R k C3 ks1 is1 (by omega) p2 ((hC.suf m4).suf n4) (by omega) (fun y hy=>by
     rcases p5 y hy with h | h
     · exact hf y h
     · subst h;exact⟨m2,m3⟩) (fun y hy=>by
     rcases p6 y hy with h | h
     · exact hg y h
     · subst h;exact⟨n2,n3⟩) p4
   refine⟨ks',is',C',b1,by omega,b3,b4,b5,b6,b7.trans (n4.trans m4),?_⟩;have e:(k+1)*Aw r=k*Aw r+Aw r:=Nat.succ_mul _ _;omega
end
end
section
open Go Go.Proofs.YthnmepafpikaiaaGreat.Shv Go.Sort
set_option maxRecDepth 100000
section
variable {ts:List SType}
theorem gsm{v:SValue}(hs:v.Str.length≤1000)(hk:∀x,x∈v.Keys→OkV x)(hi:∀x,x∈v.Items→OkV x)(h1:v.Keys.length≤1000)(h2:v.Items.length≤1000)(h3:v.Rest.length≤1000)(hr:∀x,x∈v.Rest→x.Data.length≤1000∧I64 x.ID)(n1:I64 v.Kind)(n2:I64 v.Int_)(n3:I64 v.ID) :OkV v:=
 .mk v (by unfold reachBytes;omega) (by unfold reachBytes;omega) (by unfold reachBytes;omega) (by unfold reachBytes;omega) hk hi (fun x hx=>by have:=(hr x hx).1;unfold reachBytes;omega) n1 n2 n3 (fun x hx=>(hr x hx).2)
theorem gkn{n:Int}(h:I1000 n) :I64 n:=by unfold I1000 at h;unfold I64;omega
def Gd(ts:List SType)(odd:Bool)(c r:Nat) :Prop:=∀t:Nat,t < ts.length→rk ts t≤r→∀C,CU8 C→C.length≤c→Mk ts odd C r (t:Int)
theorem g1at(H:DrOk ts){t:Nat}(ht:t < ts.length) :rk ts t≤5:=by
 unfold rk;have:=H.n5;split <;> omega
theorem g1n6(H:DrOk ts){odd:Bool}{c r:Nat}(hc:c≤60)(Hc:∀c',c' < c→Gd ts odd c' 5)(Hr:∀r',r' < r→Gd ts odd c r') :Gd ts odd c r:=by
 intro t ht hrk C hC hl;have hxm:=gt ht dSType;have hF:=H.V.F _ hxm;have hT:=H.T _ hxm;have hmx:=H.M _ hxm;obtain⟨hI12,hI6,hM12⟩:=H.I _ hxm;have hR:=H.R t ht;have hL:=H.L _ hxm;have hU:=H.V.U _ hxm;have hD:=H.D _ hxm;have hW:=H.W _ hxm;have hkd:rk ts t=if 7≤(ts.getD t dSType).Kind then 0 else t+1:=rfl
 unfold Mk;rw[g1e,if_pos (g8 ht)];simp only[oZ4,oZ3,g9];have fitI:=fun v=>gfw (ts:=ts) (!odd) (t:Int) v
 simp only[g9]at fitI;generalize hx:ts.getD t dSType=x at*;have hA20:=Aw_20 r;have hin:(0:Int)≤t∧(t:Int) < ts.length:=by omega
 have leaf:∀(v:SValue) (C':List Int),v.Keys=[]→v.Items=[]→v.Rest=[]→v.Str.length≤3→Suf C' C→wt v+32574360*C'.length≤Aw r+32574360*C.length:=fun v C' a b c d e=>by
   rw[g1cj a b c];have:=e.1;omega
 have below:∀C1:List Int,C1.length+1=C.length→∀u:Int,0≤u→u < ts.length→∀C2,CU8 C2→C2.length≤C1.length→Mk ts odd C2 5 u:=fun C1 h1 u hu0 hu1 C2 hC2 hl2=>by
   obtain⟨k,rfl⟩:∃k:Nat,u=(k:Int):=⟨u.toNat,by omega⟩
   exact Hc C1.length (by omega) k (by omega) (g1at H (by omega)) C2 hC2 hl2
 have member:x.Kind=5∨x.Kind=6→1≤r∧∀m,m∈x.Members→∀C2,CU8 C2→C2.length≤c→Mk ts odd C2 (r - 1) m.Type_:=fun hk=>by
   have hrt:rk ts t=t+1:=by rw[hkd,if_neg (by omega)]
   refine⟨by omega,fun m hm C2 hC2 hl2=>?_⟩;obtain⟨a,b,cc⟩:=hR m hm;obtain⟨k,hk'⟩:∃k:Nat,m.Type_=(k:Int):=⟨m.Type_.toNat,by omega⟩
   rw[hk']at cc ⊢;refine Hr (r - 1) (by omega) k (by omega) ?_ C2 hC2 hl2;have:rk ts k≤t:=by
     unfold rk;rw[g9]at cc;split
     · omega
     · rcases cc with h | h <;> omega
   omega
 have hs7:x.Symbols.length < 9223372036854775807:=g1i (g5r hT.syms);have hm7:x.Members.length < 9223372036854775807:=g1i (g5r hT.mems);unfold FormP at hF;rcases hF with⟨k,_⟩ | ⟨k,f1,f2,_⟩ | ⟨k,f1,f2,f3,f4,_⟩ | ⟨k,f1,f2,f3,f4,f5,_⟩ | ⟨k,f1,f2,f3,f4,f5,f6,_⟩ | ⟨k,f1,f2,f3,f4,f5,f6,_⟩ | ⟨k,f1,f2,f3,f4,_⟩ | ⟨k,f1,f2,f3,f4,_⟩ | ⟨k,_⟩
 · obtain⟨q,C1,n1,n2,n3,n4,n5⟩:=gb3 (ts:=ts) (n:=2) ⟨by omega,by omega⟩ hC (by omega) odd;rw[if_pos (by simp[k]),n1];refine⟨_,C1,rfl,?_,gfa rfl rfl rfl (by simp) (by simp[I64,k]) (by simp[I64]) (by simp[I64]),n4,leaf _ _ rfl rfl rfl (by simp) n4⟩;rw[fitI];simp[k,hin]
 · obtain⟨q,C1,n1,n2,n3,n4,n5⟩:=gb3 (ts:=ts) (n:=256) ⟨by omega,by omega⟩ hC (by omega) odd;have hLk:=hL k;have e1:addI .i64 (subI .i64 x.High x.Low) 1=x.High - x.Low+1:=by
     rw[gj4 (by omega) (by omega),gb7 (by omega) (by omega)]
   have r0:0≤q % (x.High - x.Low+1):=Int.emod_nonneg _ (by omega);have r1:q % (x.High - x.Low+1) < x.High - x.Low+1:=Int.emod_lt_of_pos _ (by omega);rw[if_neg (by simp[k]),if_pos (by simp[k]),n1];simp only[oZ3];rw[e1,if_pos (nz (by omega)),g8m n2 (by omega),gb7 (by omega) (by omega)]
   refine⟨_,C1,rfl,?_,gfa rfl rfl rfl (by simp) (by simp[I64,k]) (by simp only[I64];omega) (by simp[I64]),n4,leaf _ _ rfl rfl rfl (by simp) n4⟩;rw[fitI];simp[k,hin];omega
 · obtain⟨s,C1,n1,n2,n3,n4⟩:=g1n5 (ts:=ts) (most:=x.Max) ⟨f4.1,by omega⟩ hC (by omega) odd;rw[if_neg (by simp[k]),if_neg (by simp[k]),if_pos (by simp[k]),n1];refine⟨_,C1,rfl,?_,gfa rfl rfl rfl (by show s.length≤1000;omega) (by simp[I64,k]) (by simp[I64]) (by simp[I64]),n4,leaf _ _ rfl rfl rfl n3 n4⟩;rw[fitI];simp[k,hin,n2]
 · have hsl:=f5.1;have hs16:=f5.2.2.2.2;have hsid:=f5.2.1.2;obtain⟨q,C1,n1,n2,n3,n4,n5⟩:=gb3 (ts:=ts) (n:=(x.Symbols.length:Int)) ⟨by omega,by omega⟩ hC (by omega) odd;obtain⟨j,rfl⟩:∃j:Nat,q=(j:Int):=⟨q.toNat,by omega⟩
   have hlc:=n4.1;have hj:j < x.Symbols.length:=by omega
   have hy:=gt hj dSSymbol;rw[if_neg (by simp[k]),if_neg (by simp[k]),if_neg (by simp[k]),if_pos (by simp[k]),n1];simp only[oZ3];rw[if_pos (g8 hj)];simp only[g9];cases ho:x.Open with
   | false=>
     rw[if_neg (by simp),if_neg (by simp)];refine⟨_,C1,rfl,?_,gfa rfl rfl rfl (by simp) (by simp[I64,k]) (by simp[I64]) (gkn (hsid _ hy)),n4,leaf _ _ rfl rfl rfl (by simp) n4⟩;refine(fitI _).2 ⟨⟨hin.1,hin.2,rfl,fun _=>rfl⟩,.inr (.inr (.inr (.inl ⟨k,rfl,rfl,rfl,rfl,rfl,rfl,.inl ⟨_,hy,rfl⟩⟩)))⟩
   | true=>
     obtain⟨o,C2,o1,o2,o3⟩:=g1aq (ts:=ts) (hC.suf n4) (by omega) odd;have hlc2:=o3.1;rw[if_pos rfl,o1];simp only[oZ3,cond_true];cases o with
     | false=>
       rw[if_neg (by simp)];refine⟨_,C2,rfl,?_,gfa rfl rfl rfl (by simp) (by simp[I64,k]) (by simp[I64]) (gkn (hsid _ hy)),(o3.trans n4),leaf _ _ rfl rfl rfl (by simp) (o3.trans n4)⟩;refine(fitI _).2 ⟨⟨hin.1,hin.2,rfl,fun _=>rfl⟩,.inr (.inr (.inr (.inl ⟨k,rfl,rfl,rfl,rfl,rfl,rfl,.inl ⟨_,hy,rfl⟩⟩)))⟩
     | true=>
       have hodd:odd=true:=by
         cases odd with
         | true=>rfl
         | false=>exact absurd (o2 rfl) (by simp)
       obtain⟨n,C3,u1,u2,u3,u4⟩:=gxh (ts:=ts) hm7 hs7 hI12 hI6 ((hC.suf n4).suf o3) (by omega) odd;rw[if_pos rfl,u1];refine⟨_,C3,rfl,?_,gfa rfl rfl rfl (by simp) (by simp[I64,k]) (by simp[I64]) (gkn u2),u4.trans (o3.trans n4),leaf _ _ rfl rfl rfl (by simp) (u4.trans (o3.trans n4))⟩
       refine(fitI _).2 ⟨⟨hin.1,hin.2,rfl,fun _=>rfl⟩,.inr (.inr (.inr (.inl ⟨k,rfl,rfl,rfl,rfl,rfl,rfl,.inr ⟨ho,by simp[hodd],u2⟩⟩)))⟩
 · obtain⟨hr1,hmem⟩:=member (.inl k);obtain⟨acc,C1,b1,b2,b3,b4,b5,b6⟩:=g1gu (ts:=ts) (odd:=odd) (c:=c) (r:=r - 1) (by omega) (x:=x) hM12 (fun m hm=>⟨hmem m hm,fun hd=>⟨hD m hm hd,hT.dv m hm,hW m hm hd⟩⟩) 0 false 0 [] 0 x.Kind false 0 [] 0 x.Members.length 0 C [] (by omega) hC hl rfl (fun j hj=>by omega) (fun y hy=>by cases hy)
   have b1':g1m (0,ts,C,odd,0,false,0,[],0,x.Kind,x.Name,x.Low,x.High,x.Max,x.Symbols,x.Members,x.Key,x.Elem,x.Open,x.Kind,false,0,[],0,[])=_:=b1;have hlc:=b5.1;have hAr:Aw r=12*Aw (r - 1)+20:=by
     obtain⟨r',rfl⟩:∃r',r=r'+1:=⟨r - 1,by omega⟩
     rfl
   have hmul:x.Members.length*Aw (r - 1)≤12*Aw (r - 1):=Nat.mul_le_mul_right _ hM12;rw[g9g]at b6;have hfm:vfitm ts (!odd) x.Members acc:=gi3.2 ⟨b2,b3⟩;rw[if_neg (by simp[k]),if_neg (by simp[k]),if_neg (by simp[k]),if_neg (by simp[k]),if_pos (by simp[k]),b1'];simp only[oZ3];obtain⟨o,C2,o1,o2,o3⟩:=g1aq (ts:=ts) (hC.suf b5) (by omega) odd
   have hlc2:=o3.1;rw[o1];simp only[oZ3];cases o with
   | false=>
     rw[if_neg (by simp)];refine⟨_,C2,rfl,?_,gsm (by simp) (fun y hy=>by cases hy) b4 (by simp) (by show acc.length≤1000;omega) (by simp) (fun y hy=>by cases hy) (by simp[I64,k]) (by simp[I64]) (by simp[I64]),o3.trans b5,?_⟩
     · exact(fitI _).2 ⟨⟨hin.1,hin.2,rfl,fun _=>rfl⟩,.inr (.inr (.inr (.inr (.inl ⟨k,rfl,rfl,rfl,rfl,rfl,⟨.nil,fun y hy=>by cases hy⟩,hfm⟩))))⟩
     · rw[wt_eq];simp only[g9g,List.length_nil,List.map_nil,List.sum_nil];omega
   | true=>
     have hodd:odd=true:=by
       cases odd with
       | true=>rfl
       | false=>exact absurd (o2 rfl) (by simp)
     obtain⟨n,C3,u1,u2,u3,u4⟩:=gxh (ts:=ts) hm7 hs7 hI12 hI6 ((hC.suf b5).suf o3) (by omega) odd;have hlc3:=u4.1;obtain⟨d,C4,d1,d2,d3⟩:=g1ar (ts:=ts) (n:=n) (((hC.suf b5).suf o3).suf u4) (by omega) odd;have hlc4:=d3.1;rw[if_pos rfl,gxc,u1];simp only[oZ3];rw[d1];simp only[oZ3]
     refine⟨_,C4,rfl,?_,gsm (by simp) (fun y hy=>by cases hy) b4 (by simp) (by show acc.length≤1000;omega) (by simp) (fun y hy=>?_) (by simp[I64,k]) (by simp[I64]) (by simp[I64]),d3.trans (u4.trans (o3.trans b5)),?_⟩
     · refine(fitI _).2 ⟨⟨hin.1,hin.2,rfl,fun h=>by simp[hodd]at h⟩,.inr (.inr (.inr (.inr (.inl ⟨k,rfl,rfl,rfl,rfl,rfl,⟨by simp,fun y hy=>?_⟩,hfm⟩))))⟩;have:y=⟨n,d⟩:=by simpa using hy
       subst this;exact⟨u2,u3⟩
     · have:y=⟨n,d⟩:=by simpa using hy
       subst this;exact⟨by show d.length≤1000;omega,gkn u2⟩
     · rw[wt_eq];simp only[g9g,List.length_nil,List.map_cons,List.map_nil,List.sum_cons,List.sum_nil];omega
 · obtain⟨hr1,hmem⟩:=member (.inr k);have hMp:0 < x.Members.length:=by
     rcases f6.2.1 with h | h
     · cases h
     · exact h
   have hA1:Aw (r - 1)+20≤Aw r:=by
     obtain⟨r',rfl⟩:∃r',r=r'+1:=⟨r - 1,by omega⟩
     have:=Aw_20 r';show Aw r'+20≤12*Aw r'+20;omega
   have arm : ∀ C0, Suf C0 C → ∃ v C', (Option.bind (g1a ((x.Members.length : Int), ts, C0, odd)) fun r_65 => if inR r_65.1 x.Members.length = true then
         (g1e ((x.Members.getD r_65.1.toNat dSMember).Type_,r_65.2.1,r_65.2.2.1,r_65.2.2.2)).bind fun r_70=>
           some ((⟨x.Kind,false,0,[],(x.Members.getD r_65.1.toNat dSMember).ID,[],[r_70.1],[]⟩:SValue),r_70.2.1,r_70.2.2.1,r_70.2.2.2)
       else none)=some (v,ts,C',odd)∧vfit ts (!odd) (t:Int) v∧OkV v∧Suf C' C∧wt v+32574360*C'.length≤Aw r+32574360*C.length:=by
     intro C0 hs0;have hlc0:=hs0.1;obtain⟨q,C1,n1,n2,n3,n4,n5⟩:=gb3 (ts:=ts) (n:=(x.Members.length:Int)) ⟨by omega,by omega⟩ (hC.suf hs0) (by omega) odd;obtain⟨j,rfl⟩:∃j:Nat,q=(j:Int):=⟨q.toNat,by omega⟩
     have hlc:=n4.1;have hj:j < x.Members.length:=by omega
     have hm:=gt hj dSMember;obtain⟨w,C2,m1,m2,m3,m4,m5⟩:=hmem _ hm C1 ((hC.suf hs0).suf n4) (by omega);have hlc2:=m4.1;rw[n1];simp only[oZ3];rw[if_pos (g8 hj)];simp only[g9];rw[m1];simp only[oZ3];have hI:=f6.2.2.1.2 _ hm
     refine⟨_,C2,rfl,?_,gsm (by simp) (fun y hy=>by cases hy) (fun y hy=>?_) (by simp) (by simp) (by simp) (fun y hy=>by cases hy) (by simp[I64,k]) (by simp[I64]) (gkn hI),m4.trans (n4.trans hs0),?_⟩
     · refine(fitI _).2 ⟨⟨hin.1,hin.2,rfl,fun _=>rfl⟩,.inr (.inr (.inr (.inr (.inr (.inl ⟨k,rfl,rfl,rfl,rfl,?_⟩)))))⟩;have hfind:findM x.Members (x.Members.getD j dSMember).ID=some (x.Members.getD j dSMember):=by
         unfold findM;rw[List.find?_eq_some_iff_getElem];refine⟨by simp,j,hj,(g1n hj _).symm,fun i hi=>?_⟩;have hp:=List.pairwise_iff_getElem.1 f6.2.2.1.1 i j (by omega) hj hi;rw[g1n hj];simp;omega
       simp only[hfind];refine⟨by first | rfl | trivial,by first | rfl | trivial,?_⟩;rw[g35];intro y hy;have:y=w:=by simpa using hy
       subst this;exact m2
     · have:y=w:=by simpa using hy
       subst this;exact m3
     · rw[wt_eq];simp only[gbk,g9g,List.length_nil,List.map_nil,List.sum_nil];omega
   rw[if_neg (by simp[k]),if_neg (by simp[k]),if_neg (by simp[k]),if_neg (by simp[k]),if_neg (by simp[k]),if_pos (by simp[k])];simp only[SValue.g14];cases ho:x.Open with
   | false=>
     rw[if_neg (by simp),if_neg (by simp)];obtain⟨v,C',a1,a2,a3,a4,a5⟩:=arm C (Suf.refl _);rw[a1];exact⟨v,C',rfl,a2,a3,a4,a5⟩
   | true=>
     obtain⟨o,C2,o1,o2,o3⟩:=g1aq (ts:=ts) hC (by omega) odd;have hlc2:=o3.1;rw[if_pos rfl,o1];simp only[oZ3,cond_true];cases o with
     | false=>
       rw[if_neg (by simp)];obtain⟨v,C',a1,a2,a3,a4,a5⟩:=arm C2 o3;rw[a1];exact⟨v,C',rfl,a2,a3,a4,a5⟩
     | true=>
       have hodd:odd=true:=by
         cases odd with
         | true=>rfl
         | false=>exact absurd (o2 rfl) (by simp)
       obtain⟨n,C3,u1,u2,u3,u4⟩:=gxh (ts:=ts) hm7 hs7 hI12 hI6 (hC.suf o3) (by omega) odd;have hlc3:=u4.1;obtain⟨d,C4,d1,d2,d3⟩:=g1ar (ts:=ts) (n:=n) ((hC.suf o3).suf u4) (by omega) odd;have hlc4:=d3.1;rw[if_pos rfl,u1];simp only[oZ3];rw[d1];simp only[oZ3]
       refine⟨_,C4,rfl,?_,gsm (by simp) (fun y hy=>by cases hy) (fun y hy=>by cases hy) (by simp) (by simp) (by simp) (fun y hy=>?_) (by simp[I64,k]) (by simp[I64]) (gkn u2),d3.trans (u4.trans o3),?_⟩
       · refine(fitI _).2 ⟨⟨hin.1,hin.2,rfl,fun h=>by simp[hodd]at h⟩,.inr (.inr (.inr (.inr (.inr (.inl ⟨k,rfl,rfl,rfl,rfl,?_⟩)))))⟩;simp only[u3];exact⟨ho,by simp[hodd],u2,by first | rfl | trivial,d,by first | rfl | trivial⟩
       · have:y=⟨n,d⟩:=by simpa using hy
         subst this;exact⟨by show d.length≤1000;omega,gkn u2⟩
       · rw[wt_eq];simp only[g9g,List.length_nil,List.map_cons,List.map_nil,List.sum_cons,List.sum_nil];omega
 · have em:addI .i64 (minI x.Max 3) 1=min x.Max 3+1:=by
     have:minI x.Max 3=min x.Max 3:=rfl;rw[this,gb7 (by omega) (by omega)]
   have hel:0≤x.Elem∧x.Elem < ts.length:=hU x.Elem (by unfold usesL;simp[k]);obtain⟨q,C1,n1,n2,n3,n4,n5⟩:=gb3 (ts:=ts) (n:=min x.Max 3+1) ⟨by omega,by omega⟩ hC (by omega) odd;obtain⟨j,rfl⟩:∃j:Nat,q=(j:Int):=⟨q.toNat,by omega⟩
   have hlc:=n4.1
   have loop:∃acc C',g2p ((j:Int),ts,C1,odd,0,false,0,[],0,x.Kind,x.Name,x.Low,x.High,x.Max,x.Symbols,x.Members,x.Key,x.Elem,x.Open,x.Kind,false,0,[],0,[])=some (ts,C',odd,0,false,0,[],0,x.Kind,false,0,[],0,acc)∧acc.length=j∧(∀y,y∈acc→vfit ts (!odd) x.Elem y∧OkV y)∧Suf C' C∧10+wts acc+32574360*C'.length≤Aw r+32574360*C.length:=by
     rcases n5 with⟨h0,h1,h2⟩ | h1
     · have:j=0:=by omega
       subst this;refine⟨[],C1,by rw[g2p,if_neg (by simp)],rfl,fun y hy=>(by cases hy),n4,?_⟩;rw[g9g];omega
     · obtain⟨acc,C',b1,b2,b3,b4,b5⟩:=g1cn (ts:=ts) (odd:=odd) (c:=C1.length) (r:=5) (by omega) (x:=x) (fun C2 hC2 hl2=>below C1 h1 x.Elem hel.1 hel.2 C2 hC2 hl2) 0 false 0 [] 0 x.Kind false 0 [] 0 j C1 [] (by simp;omega) (hC.suf n4) (by omega) (fun y hy=>by cases hy);refine⟨acc,C',b1,by simpa using b2,b3,b4.trans n4,?_⟩;rw[g9g,Aw_5]at b5
       have:j*5429060≤3*5429060:=Nat.mul_le_mul_right _ (by omega);omega
   obtain⟨acc,C',b1,b2,b3,b4,b5⟩:=loop;rw[if_neg (by simp[k]),if_neg (by simp[k]),if_neg (by simp[k]),if_neg (by simp[k]),if_neg (by simp[k]),if_neg (by simp[k]),if_pos (by simp[k]),em,n1];simp only[oZ3];rw[b1];simp only[oZ3]
   refine⟨_,C',rfl,?_,gsm (by simp) (fun y hy=>by cases hy) (fun y hy=>(b3 y hy).2) (by simp) (by show acc.length≤1000;omega) (by simp) (fun y hy=>by cases hy) (by simp[I64,k]) (by simp[I64]) (by simp[I64]),b4,?_⟩
   · exact(fitI _).2 ⟨⟨hin.1,hin.2,rfl,fun _=>rfl⟩,.inr (.inr (.inr (.inr (.inr (.inr (.inl ⟨k,rfl,rfl,rfl,rfl,rfl,rfl,by show(acc.length:Int)≤x.Max;omega,g35.2 fun y hy=>(b3 y hy).1⟩))))))⟩
   · rw[wt_eq];simp only[g9g,List.length_nil,List.map_nil,List.sum_nil];omega
 · have em:addI .i64 (minI x.Max 3) 1=min x.Max 3+1:=by
     have:minI x.Max 3=min x.Max 3:=rfl;rw[this,gb7 (by omega) (by omega)]
   have hel:0≤x.Elem∧x.Elem < ts.length:=hU x.Elem (by unfold usesL;simp[k]);have hkl:0≤x.Key∧x.Key < ts.length:=hU x.Key (by unfold usesL;simp[k]);obtain⟨q,C1,n1,n2,n3,n4,n5⟩:=gb3 (ts:=ts) (n:=min x.Max 3+1) ⟨by omega,by omega⟩ hC (by omega) odd;obtain⟨j,rfl⟩:∃j:Nat,q=(j:Int):=⟨q.toNat,by omega⟩
   have hlc:=n4.1;have hasc0:ga2 []:=fun i hi=>by simp at hi
   have loop:∃ks is C',g2q ((j:Int),ts,C1,odd,0,false,0,[],0,x.Kind,x.Name,x.Low,x.High,x.Max,x.Symbols,x.Members,x.Key,x.Elem,x.Open,x.Kind,false,0,[],0,[],[],[])=some (ts,C',odd,0,false,0,[],0,x.Kind,false,0,[],0,ks,is,[])∧ks.length≤j∧is.length=ks.length∧(∀y,y∈ks→vfit ts (!odd) x.Key y∧OkV y)∧(∀y,y∈is→vfit ts (!odd) x.Elem y∧OkV y)∧ga2 ks∧Suf C' C∧10+wts ks+wts is+32574360*C'.length≤Aw r+32574360*C.length:=by
     rcases n5 with⟨h0,h1,h2⟩ | h1
     · have:j=0:=by omega
       subst this;refine⟨[],[],C1,by rw[g2q,if_neg (by simp)],by simp,rfl,fun y hy=>(by cases hy),fun y hy=>(by cases hy),hasc0,n4,?_⟩;rw[g9g];omega
     · obtain⟨ks,is,C',b1,b2,b3,b4,b5,b6,b7,b8⟩:=g1gv (ts:=ts) (odd:=odd) (c:=C1.length) (r:=5) (by omega) (x:=x) (fun C2 hC2 hl2=>below C1 h1 x.Key hkl.1 hkl.2 C2 hC2 hl2) (fun C2 hC2 hl2=>below C1 h1 x.Elem hel.1 hel.2 C2 hC2 hl2) 0 false 0 [] 0 x.Kind false 0 [] 0 [] j C1 [] [] (by simp;omega) rfl (hC.suf n4) (by omega) (fun y hy=>by cases hy) (fun y hy=>by cases hy) hasc0
       refine⟨ks,is,C',b1,by simpa using b2,b3,b4,b5,b6,b7.trans n4,?_⟩;rw[g9g,Aw_5]at b8;have:j*5429060≤3*5429060:=Nat.mul_le_mul_right _ (by omega);omega
   obtain⟨ks,is,C',b1,b2,b3,b4,b5,b6,b7,b8⟩:=loop;rw[if_neg (by simp[k]),if_neg (by simp[k]),if_neg (by simp[k]),if_neg (by simp[k]),if_neg (by simp[k]),if_neg (by simp[k]),if_neg (by simp[k]),if_pos (by simp[k]),em,n1];simp only[oZ3];rw[b1];simp only[oZ3]
   refine⟨_,C',rfl,?_,gsm (by simp) (fun y hy=>(b4 y hy).2) (fun y hy=>(b5 y hy).2) (by show ks.length≤1000;omega) (by show is.length≤1000;omega) (by simp) (fun y hy=>by cases hy) (by simp[I64,k]) (by simp[I64]) (by simp[I64]),b7,?_⟩
   · exact(fitI _).2 ⟨⟨hin.1,hin.2,rfl,fun _=>rfl⟩,.inr (.inr (.inr (.inr (.inr (.inr (.inr (.inl ⟨k,rfl,rfl,rfl,rfl,rfl,by show(ks.length:Int)≤x.Max;omega,b3,g35.2 fun y hy=>(b4 y hy).1,g35.2 fun y hy=>(b5 y hy).1,b6⟩)))))))⟩
   · rw[wt_eq];simp only[List.length_nil,List.map_nil,List.sum_nil];omega
 · have hel:0≤x.Elem∧x.Elem < ts.length:=hU x.Elem (by unfold usesL;simp[k]);obtain⟨q,C1,n1,n2,n3,n4,n5⟩:=gb3 (ts:=ts) (n:=2) ⟨by omega,by omega⟩ hC (by omega) odd;have hlc:=n4.1;rw[if_neg (by simp[k]),if_neg (by simp[k]),if_neg (by simp[k]),if_neg (by simp[k]),if_neg (by simp[k]),if_neg (by simp[k]),if_neg (by simp[k]),if_neg (by simp[k]),n1]
   simp only[oZ3,SValue.g14];by_cases h1:q=1
   · have hc1:C1.length+1=C.length:=by
       rcases n5 with⟨h0,_,_⟩ | h
       · omega
       · exact h
     obtain⟨w,C2,m1,m2,m3,m4,m5⟩:=below C1 hc1 x.Elem hel.1 hel.2 C1 (hC.suf n4) (by omega);have hlc2:=m4.1;rw[Aw_5]at m5;rw[if_pos (by simpa using h1),m1];simp only[oZ3]
     refine⟨_,C2,rfl,?_,gsm (by simp) (fun y hy=>by cases hy) (fun y hy=>?_) (by simp) (by simp) (by simp) (fun y hy=>by cases hy) (by simp[I64,k]) (by simp[I64]) (by simp[I64]),m4.trans n4,?_⟩
     · refine(fitI _).2 ⟨⟨hin.1,hin.2,rfl,fun _=>rfl⟩,.inr (.inr (.inr (.inr (.inr (.inr (.inr (.inr ⟨k,rfl,rfl,rfl,rfl,rfl,rfl,by simp,g35.2 fun y hy=>?_⟩)))))))⟩;have:y=w:=by simpa using hy
       subst this;exact m2
     · have:y=w:=by simpa using hy
       subst this;exact m3
     · rw[wt_eq];simp only[gbk,g9g,List.length_nil,List.map_nil,List.sum_nil];omega
   · rw[if_neg (by simpa using h1)];refine⟨_,C1,rfl,?_,gfa rfl rfl rfl (by simp) (by simp[I64,k]) (by simp[I64]) (by simp[I64]),n4,leaf _ _ rfl rfl rfl (by simp) n4⟩;exact(fitI _).2 ⟨⟨hin.1,hin.2,rfl,fun _=>rfl⟩,.inr (.inr (.inr (.inr (.inr (.inr (.inr (.inr ⟨k,rfl,rfl,rfl,rfl,rfl,rfl,by simp,g35.2 fun y hy=>by cases hy⟩)))))))⟩
theorem g1gw(H:DrOk ts){odd:Bool} :∀(c:Nat),c≤60→∀r,Gd ts odd c r:=by
 intro c
 induction c using Nat.strongRecOn with
 | ind c ihc=>
   intro hc r
   induction r using Nat.strongRecOn with
   | ind r ihr=>exact g1n6 H hc (fun c' h=>ihc c' h (by omega) 5) (fun r' h=>ihr r' h)
theorem g1n7(H:DrOk ts){t:Int}(ht:0≤t∧t < ts.length){C:List Int}(hC:CU8 C)(hl:C.length≤reachBytes) :∃v,gf6 ((⟨ts⟩:SSchema),t,C)=some v∧vfit ts true t v∧OkV v∧wt v≤2147483648:=by
 obtain⟨j,rfl⟩:∃j:Nat,t=(j:Int):=⟨t.toNat,by omega⟩
 have hr:=g1i hl;have hm:minI 60 (C.length:Int)=((min 60 C.length:Nat):Int):=g12m 60 C.length;have hs:CU8 (C.take (min 60 C.length)):=fun c hc=>hC c (List.mem_of_mem_take hc)
 have hlen:(C.take (min 60 C.length)).length≤60:=by rw[List.length_take];omega
 have hsl:slR 0 ((min 60 C.length:Nat):Int) C.length=true:=gc0 (a:=0) (by omega) (by omega);obtain⟨v,C',h1,h2,h3,h4,h5⟩:=g1gw H (odd:=false) 60 (by omega) 5 j (by omega) (g1at H (by omega)) _ hs hlen;rw[gf6];simp only[oZ4,oZ3];rw[hm,if_pos hsl,gej,h1];refine⟨v,by simp only[oZ3,SValue.g14],h2,h3,?_⟩
 rw[Aw_5]at h5;omega
theorem g1eg(H:DrOk ts){t:Int}(ht:0≤t∧t < ts.length){C:List Int}(hC:CU8 C)(hl:C.length≤reachBytes) :∃v,gbm ((⟨ts⟩:SSchema),t,C)=some v∧vfit ts false t v∧OkV v∧wt v≤2147483648:=by
 obtain⟨j,rfl⟩:∃j:Nat,t=(j:Int):=⟨t.toNat,by omega⟩
 have hr:=g1i hl;have hm:minI 60 (C.length:Int)=((min 60 C.length:Nat):Int):=g12m 60 C.length;have hs:CU8 (C.take (min 60 C.length)):=fun c hc=>hC c (List.mem_of_mem_take hc)
 have hlen:(C.take (min 60 C.length)).length≤60:=by rw[List.length_take];omega
 have hsl:slR 0 ((min 60 C.length:Nat):Int) C.length=true:=gc0 (a:=0) (by omega) (by omega);obtain⟨v,C',h1,h2,h3,h4,h5⟩:=g1gw H (odd:=true) 60 (by omega) 5 j (by omega) (g1at H (by omega)) _ hs hlen;rw[gbm];simp only[oZ4,oZ3];rw[hm,if_pos hsl,gej,h1];refine⟨v,by simp only[oZ3,SValue.g14],h2,h3,?_⟩
 rw[Aw_5]at h5;omega
end
structure DrIn (d:Sheaveref08Draft):Prop where
 s:DOk d.S
 t:U8 d.T
 c:CU8 d.C
 l:d.C.length≤reachBytes
theorem of8 {d : Sheaveref08Draft} (hd : DrIn d) : (∃ s t v w, ge2 d = some (s, t, v, w, false)) ∨
   ∃ts t v w,ge2 d=some (⟨ts⟩,t,v,w,true)∧DrOk ts∧(0≤t∧t < ts.length)∧(vfit ts true t v∧OkV v∧wt v≤2147483648)∧(vfit ts false t w∧OkV w∧wt w≤2147483648):=by
 rw[ge2];rcases of_ok hd.s with h | ⟨l,h,H⟩
 · rw[h];exact .inl ⟨_,_,_,_,rfl⟩
 · right;have hn1:=H.n1;have hn5:=H.n5;have ht:=hd.t;unfold U8 at ht;have r0:0≤d.T % (l.length:Int):=Int.emod_nonneg _ (by omega);have r1:d.T % (l.length:Int) < l.length:=Int.emod_lt_of_pos _ (by omega);obtain⟨v,v1,v2⟩:=g1n7 H ⟨r0,r1⟩ hd.c hd.l;obtain⟨w,w1,w2⟩:=g1eg H ⟨r0,r1⟩ hd.c hd.l;rw[h];simp only[oZ4,oZ3]
   rw[if_neg (by simp),if_pos (nz (by omega)),gi4 ⟨by omega,by omega⟩,g8m ht.1 (by omega),v1];simp only[oZ3];rw[w1];exact⟨l,_,v,w,by simp only[oZ3,SValue.g14],H,⟨r0,r1⟩,v2,w2⟩
end
end Go.Proofs.YthnmepafpikaiaaGreat
