/- The functions of the program as functions of Lean, that its code does what they say, and what they answer; part B. -/
import Derived.Test.YthnmepafpikaiaaGreatExA

namespace Go.Proofs.YthnmepafpikaiaaGreat
set_option linter.all false
section
open Go Go.Proofs.YthnmepafpikaiaaGreat.Shv
set_option maxRecDepth 100000
theorem OkT.plain{k l h m kk e:Int}{n:List UInt8}{S:List SSymbol}{Ms:List SMember}{o:Bool}(hS:S.length*24≤reachBytes)(hM:Ms.length*24≤reachBytes)(hd:∀x,x∈Ms→OkV x.Default) :OkT ⟨k,n,l,h,m,S,Ms,kk,e,o⟩:=⟨hS,hM,hd⟩
theorem form1{N:List UInt8}{L H M K E:Int}{S:List SSymbol}{Ms:List SMember}{O:Bool}(h:OkT (⟨1,N,L,H,M,S,Ms,K,E,O⟩:SType)) :∃r,g1f (⟨1,N,L,H,M,S,Ms,K,E,O⟩:SType)=some r∧g16 (⟨1,N,L,H,M,S,Ms,K,E,O⟩:SType)=some r∧(r=true→N=[]):=by
 obtain⟨a,a1,a2⟩:=g4g (a:=(⟨0,N,L,H,M,S,Ms,K,E,O⟩:SType)) ⟨h.syms,h.mems,h.dv⟩ (⟨0,[],0,0,0,[],[],0,0,false⟩:SType);obtain⟨b,b1,b2⟩:=g8z h (⟨1,[],0,0,0,[],[],0,0,false⟩:SType);have hab:a=b:=by
   refine Bool.eq_iff_iff.2 (a2.trans (Iff.trans ?_ b2.symm));simp only[SType.mk.injEq]
   try (simp)
 subst hab;refine⟨a,by simp[g1f,a1],by simp[g16,g2t,g1k,b1];try (cases a <;> rfl),fun hr=>?_⟩;have:=b2.1 hr;simp only[SType.mk.injEq]at this;exact this.2.1
theorem form2{N:List UInt8}{L H M K E:Int}{S:List SSymbol}{Ms:List SMember}{O:Bool}(h:OkT (⟨2,N,L,H,M,S,Ms,K,E,O⟩:SType)) :∃r,g1f (⟨2,N,L,H,M,S,Ms,K,E,O⟩:SType)=some r∧g16 (⟨2,N,L,H,M,S,Ms,K,E,O⟩:SType)=some r∧(r=true→N=[]):=by
 obtain⟨a,a1,a2⟩:=g4g (a:=(⟨0,N,0,0,M,S,Ms,K,E,O⟩:SType)) ⟨h.syms,h.mems,h.dv⟩ (⟨0,[],0,0,0,[],[],0,0,false⟩:SType);obtain⟨b,b1,b2⟩:=g8z h (⟨2,[],L,H,0,[],[],0,0,false⟩:SType);have hab:a=b:=by
   refine Bool.eq_iff_iff.2 (a2.trans (Iff.trans ?_ b2.symm));simp only[SType.mk.injEq]
   try (simp)
 subst hab;refine⟨decide (L≤H) && a,?_,?_,fun hr=>?_⟩
 · simp only[g1f];generalize decide (L≤H)=q;simp[a1]
   try (cases q <;> rfl)
 · simp only[g16];generalize decide (L≤H)=q;simp[g2t,g1k,b1]
   try (cases a <;> cases q <;> rfl)
 · rw[Bool.and_eq_true]at hr;have:=b2.1 hr.2;simp only[SType.mk.injEq]at this;exact this.2.1
theorem form3{N:List UInt8}{L H M K E:Int}{S:List SSymbol}{Ms:List SMember}{O:Bool}(h:OkT (⟨3,N,L,H,M,S,Ms,K,E,O⟩:SType)) :∃r,g1f (⟨3,N,L,H,M,S,Ms,K,E,O⟩:SType)=some r∧g16 (⟨3,N,L,H,M,S,Ms,K,E,O⟩:SType)=some r∧(r=true→N=[]):=by
 obtain⟨a,a1,a2⟩:=g4g (a:=(⟨0,N,L,H,0,S,Ms,K,E,O⟩:SType)) ⟨h.syms,h.mems,h.dv⟩ (⟨0,[],0,0,0,[],[],0,0,false⟩:SType);obtain⟨b,b1,b2⟩:=g8z h (⟨3,[],0,0,M,[],[],0,0,false⟩:SType);have hab:a=b:=by
   refine Bool.eq_iff_iff.2 (a2.trans (Iff.trans ?_ b2.symm));simp only[SType.mk.injEq]
   try (simp)
 subst hab;refine⟨(bif decide (0≤M)then decide (M≤200)else false) && a,?_,?_,fun hr=>?_⟩
 · simp only[g1f];generalize (bif decide (0≤M)then decide (M≤200)else false)=q;simp[a1]
   try (cases q <;> rfl)
 · simp only[g16];generalize (bif decide (0≤M)then decide (M≤200)else false)=q;simp[g2t,g1k,b1]
   try (cases a <;> cases q <;> rfl)
 · rw[Bool.and_eq_true]at hr;have:=b2.1 hr.2;simp only[SType.mk.injEq]at this;exact this.2.1
theorem form4{N:List UInt8}{L H M K E:Int}{S:List SSymbol}{Ms:List SMember}{O:Bool}(h:OkT (⟨4,N,L,H,M,S,Ms,K,E,O⟩:SType)) :∃r,g1f (⟨4,N,L,H,M,S,Ms,K,E,O⟩:SType)=some r∧g16 (⟨4,N,L,H,M,S,Ms,K,E,O⟩:SType)=some r∧(r=true→N≠[]):=by
 obtain⟨a,a1,a2⟩:=g4g (a:=(⟨0,[],L,H,M,[],Ms,K,E,false⟩:SType)) ⟨(by simp),h.mems,h.dv⟩ (⟨0,[],0,0,0,[],[],0,0,false⟩:SType);obtain⟨b,b1,b2⟩:=g8z h (⟨4,N,0,0,0,S,[],0,0,O⟩:SType);have hab:a=b:=by
   refine Bool.eq_iff_iff.2 (a2.trans (Iff.trans ?_ b2.symm));simp only[SType.mk.injEq]
   try (cases O <;> simp)
 subst hab;obtain⟨q,q1,q2⟩:=gw1 (l:=S) h.syms;refine⟨nm N && q && a,?_,?_,fun hr=>?_⟩
 · simp only[g1f];simp[a1,q1,lexNm]
   try (cases nm N <;> cases q <;> rfl)
 · simp only[g16]
   try simp at q2
   simp[g2t,g1k,b1,q2,refNm]
   try (cases a <;> cases nm N <;> cases q <;> rfl)
 · simp only[Bool.and_eq_true]at hr;exact nm_ne hr.1.1
theorem form5{N:List UInt8}{L H M K E:Int}{S:List SSymbol}{Ms:List SMember}{O:Bool}(h:OkT (⟨5,N,L,H,M,S,Ms,K,E,O⟩:SType)) :∃r,g1f (⟨5,N,L,H,M,S,Ms,K,E,O⟩:SType)=some r∧g16 (⟨5,N,L,H,M,S,Ms,K,E,O⟩:SType)=some r∧(r=true→N≠[]):=by
 obtain⟨a,a1,a2⟩:=g4g (a:=(⟨0,[],L,H,M,S,[],K,E,(bif O then decide ((5:Int)=5)else false)⟩:SType)) ⟨h.syms,(by simp),(by simp)⟩ (⟨0,[],0,0,0,[],[],0,0,false⟩:SType);obtain⟨b,b1,b2⟩:=g8z h (⟨5,N,0,0,0,[],Ms,0,0,false⟩:SType);have hab:a=b:=by
   refine Bool.eq_iff_iff.2 (a2.trans (Iff.trans ?_ b2.symm));simp only[SType.mk.injEq]
   try (cases O <;> simp)
 subst hab;obtain⟨q,q1,q2⟩:=gni h (by simp);refine⟨nm N && q && a,?_,?_,fun hr=>?_⟩
 · simp only[g1f]
   try simp at a1
   try simp at q1
   simp[a1,q1,lexNm]
   try (cases nm N <;> cases q <;> rfl)
 · simp only[g16]
   try simp at q2
   simp[g2t,g1k,b1,q2,refNm]
   try (cases a <;> cases nm N <;> cases q <;> rfl)
 · simp only[Bool.and_eq_true]at hr;exact nm_ne hr.1.1
theorem form6{N:List UInt8}{L H M K E:Int}{S:List SSymbol}{Ms:List SMember}{O:Bool}(h:OkT (⟨6,N,L,H,M,S,Ms,K,E,O⟩:SType)) :∃r,g1f (⟨6,N,L,H,M,S,Ms,K,E,O⟩:SType)=some r∧g16 (⟨6,N,L,H,M,S,Ms,K,E,O⟩:SType)=some r∧(r=true→N≠[]):=by
 obtain⟨a,a1,a2⟩:=g4g (a:=(⟨0,[],L,H,M,S,[],K,E,(bif O then decide ((6:Int)=5)else false)⟩:SType)) ⟨h.syms,(by simp),(by simp)⟩ (⟨0,[],0,0,0,[],[],0,0,false⟩:SType);obtain⟨b,b1,b2⟩:=g8z h (⟨6,N,0,0,0,[],Ms,0,0,O⟩:SType);have hab:a=b:=by
   refine Bool.eq_iff_iff.2 (a2.trans (Iff.trans ?_ b2.symm));simp only[SType.mk.injEq]
   try (cases O <;> simp)
 subst hab;obtain⟨q,q1,q2⟩:=gni h (by simp);refine⟨nm N && q && a,?_,?_,fun hr=>?_⟩
 · simp only[g1f]
   try simp at a1
   try simp at q1
   simp[a1,q1,lexNm]
   try (cases nm N <;> cases q <;> rfl)
 · simp only[g16]
   try simp at q2
   simp[g2t,g1k,b1,q2,refNm]
   try (cases a <;> cases nm N <;> cases q <;> rfl)
 · simp only[Bool.and_eq_true]at hr;exact nm_ne hr.1.1
theorem form7{N:List UInt8}{L H M K E:Int}{S:List SSymbol}{Ms:List SMember}{O:Bool}(h:OkT (⟨7,N,L,H,M,S,Ms,K,E,O⟩:SType)) :∃r,g1f (⟨7,N,L,H,M,S,Ms,K,E,O⟩:SType)=some r∧g16 (⟨7,N,L,H,M,S,Ms,K,E,O⟩:SType)=some r∧(r=true→N=[]):=by
 obtain⟨a,a1,a2⟩:=g4g (a:=(⟨0,N,L,H,0,S,Ms,K,0,O⟩:SType)) ⟨h.syms,h.mems,h.dv⟩ (⟨0,[],0,0,0,[],[],0,0,false⟩:SType);obtain⟨b,b1,b2⟩:=g8z h (⟨7,[],0,0,M,[],[],0,E,false⟩:SType);have hab:a=b:=by
   refine Bool.eq_iff_iff.2 (a2.trans (Iff.trans ?_ b2.symm));simp only[SType.mk.injEq]
   try (simp)
 subst hab;refine⟨(bif decide (0≤M)then decide (M≤50)else false) && a,?_,?_,fun hr=>?_⟩
 · simp only[g1f];generalize (bif decide (0≤M)then decide (M≤50)else false)=q;simp[a1]
   try (cases q <;> rfl)
 · simp only[g16];generalize (bif decide (0≤M)then decide (M≤50)else false)=q;simp[g2t,g1k,b1]
   try (cases a <;> cases q <;> rfl)
 · rw[Bool.and_eq_true]at hr;have:=b2.1 hr.2;simp only[SType.mk.injEq]at this;exact this.2.1
theorem form8{N:List UInt8}{L H M K E:Int}{S:List SSymbol}{Ms:List SMember}{O:Bool}(h:OkT (⟨8,N,L,H,M,S,Ms,K,E,O⟩:SType)) :∃r,g1f (⟨8,N,L,H,M,S,Ms,K,E,O⟩:SType)=some r∧g16 (⟨8,N,L,H,M,S,Ms,K,E,O⟩:SType)=some r∧(r=true→N=[]):=by
 obtain⟨a,a1,a2⟩:=g4g (a:=(⟨0,N,L,H,0,S,Ms,0,0,O⟩:SType)) ⟨h.syms,h.mems,h.dv⟩ (⟨0,[],0,0,0,[],[],0,0,false⟩:SType);obtain⟨b,b1,b2⟩:=g8z h (⟨8,[],0,0,M,[],[],K,E,false⟩:SType);have hab:a=b:=by
   refine Bool.eq_iff_iff.2 (a2.trans (Iff.trans ?_ b2.symm));simp only[SType.mk.injEq]
   try (simp)
 subst hab;refine⟨(bif decide (0≤M)then decide (M≤50)else false) && a,?_,?_,fun hr=>?_⟩
 · simp only[g1f];generalize (bif decide (0≤M)then decide (M≤50)else false)=q;simp[a1]
   try (cases q <;> rfl)
 · simp only[g16];generalize (bif decide (0≤M)then decide (M≤50)else false)=q;simp[g2t,g1k,b1]
   try (cases a <;> cases q <;> rfl)
 · rw[Bool.and_eq_true]at hr;have:=b2.1 hr.2;simp only[SType.mk.injEq]at this;exact this.2.1
theorem form9{N:List UInt8}{L H M K E:Int}{S:List SSymbol}{Ms:List SMember}{O:Bool}(h:OkT (⟨9,N,L,H,M,S,Ms,K,E,O⟩:SType)) :∃r,g1f (⟨9,N,L,H,M,S,Ms,K,E,O⟩:SType)=some r∧g16 (⟨9,N,L,H,M,S,Ms,K,E,O⟩:SType)=some r∧(r=true→N=[]):=by
 obtain⟨a,a1,a2⟩:=g4g (a:=(⟨0,N,L,H,M,S,Ms,K,0,O⟩:SType)) ⟨h.syms,h.mems,h.dv⟩ (⟨0,[],0,0,0,[],[],0,0,false⟩:SType);obtain⟨b,b1,b2⟩:=g8z h (⟨9,[],0,0,0,[],[],0,E,false⟩:SType);have hab:a=b:=by
   refine Bool.eq_iff_iff.2 (a2.trans (Iff.trans ?_ b2.symm));simp only[SType.mk.injEq]
   try (simp)
 subst hab;refine⟨a,by simp[g1f,a1],by simp[g16,g2t,g1k,b1];try (cases a <;> rfl),fun hr=>?_⟩;have:=b2.1 hr;simp only[SType.mk.injEq]at this;exact this.2.1
end
section
open Go Go.Proofs.YthnmepafpikaiaaGreat.Shv
set_option maxRecDepth 100000
def g6b(k:Int) :Bool:=bif bif decide (k=4)then true else decide (k=5)then true else decide (k=6)
theorem gib{t:SType}(h:OkT t) :∃r,g1f t=some r∧g16 t=some r∧(r=true→1≤t.Kind∧t.Kind≤9∧g6b t.Kind=!(decide (t.Name=[]))):=by
 by_cases hk:1≤t.Kind∧t.Kind≤9
 · obtain⟨Kd,N,L,H,M,S,Ms,K,E,O⟩:=t;simp only at hk;have:Kd=1∨Kd=2∨Kd=3∨Kd=4∨Kd=5∨Kd=6∨Kd=7∨Kd=8∨Kd=9:=by omega
   rcases this with rfl | rfl | rfl | rfl | rfl | rfl | rfl | rfl | rfl
   · obtain⟨r,h1,h2,h3⟩:=form1 h;exact⟨r,h1,h2,fun hr=>⟨hk.1,hk.2,by simp[g6b,h3 hr]⟩⟩
   · obtain⟨r,h1,h2,h3⟩:=form2 h;exact⟨r,h1,h2,fun hr=>⟨hk.1,hk.2,by simp[g6b,h3 hr]⟩⟩
   · obtain⟨r,h1,h2,h3⟩:=form3 h;exact⟨r,h1,h2,fun hr=>⟨hk.1,hk.2,by simp[g6b,h3 hr]⟩⟩
   · obtain⟨r,h1,h2,h3⟩:=form4 h;exact⟨r,h1,h2,fun hr=>⟨hk.1,hk.2,by simp[g6b,h3 hr]⟩⟩
   · obtain⟨r,h1,h2,h3⟩:=form5 h;exact⟨r,h1,h2,fun hr=>⟨hk.1,hk.2,by simp[g6b,h3 hr]⟩⟩
   · obtain⟨r,h1,h2,h3⟩:=form6 h;exact⟨r,h1,h2,fun hr=>⟨hk.1,hk.2,by simp[g6b,h3 hr]⟩⟩
   · obtain⟨r,h1,h2,h3⟩:=form7 h;exact⟨r,h1,h2,fun hr=>⟨hk.1,hk.2,by simp[g6b,h3 hr]⟩⟩
   · obtain⟨r,h1,h2,h3⟩:=form8 h;exact⟨r,h1,h2,fun hr=>⟨hk.1,hk.2,by simp[g6b,h3 hr]⟩⟩
   · obtain⟨r,h1,h2,h3⟩:=form9 h;exact⟨r,h1,h2,fun hr=>⟨hk.1,hk.2,by simp[g6b,h3 hr]⟩⟩
 · refine⟨false,?_,?_,fun h=>by cases h⟩
   · have e:∀k:Int,1≤k→k≤9→¬t.Kind=k:=fun k h1 h2 e=>hk (by omega)
     simp[g1f,e 1,e 2,e 3,e 4,e 5,e 6,e 7,e 8,e 9]
   · have e:(bif decide (t.Kind < 1)then true else decide (9 < t.Kind))=true:=by
       by_cases h1:t.Kind < 1
       · simp[h1]
       · simp[h1];omega
     rw[g16,e];rfl
def usesL(t:SType) :List Int:=t.Members.map (·.Type_)++(if t.Kind=8 then[t.Key]else[])++(if 7≤t.Kind then[t.Elem]else[])
theorem gbg{k n:Nat}(hk:k≤16){m:Nat}(h:m*24≤reachBytes)(hn:n≤m+2) :room k n=true:=by
 unfold room g42 g1j;unfold reachBytes at h;simp only[Bool.and_eq_true,decide_eq_true_eq];have:(2*n+192)*k≤(2*n+192)*16:=Nat.mul_le_mul_left _ hk;omega
theorem gls(t:SType)(h:t.Members.length*24≤reachBytes) :∀(k i:Nat),i+k=t.Members.length→g4x (t.Members,(t.Members.length:Int),(i:Int),t,(t.Members.map (·.Type_)).take i)=some (t,t.Members.map (·.Type_))
 | 0,i,hi=>by
   rw[g4x,if_neg (by simp;omega),List.take_of_length_le (by simp;omega)]
 | k+1,i,hi=>by
   have hr:=g13 (g3v h);have hlt:i < t.Members.length:=by omega
   rw[g4x,if_pos (by simp;omega),if_pos (g6 hlt)];simp only[oZ4,oZ3,g7];rw[←g26 (·.Type_) t.Members i dSMember 0 hlt,g9r _ _ _ (by simpa using hlt),gj (by omega),if_pos (gbg (m:=t.Members.length) (by omega) h (by simp;omega))];exact gls t h k (i+1) (by omega)
theorem gyh{t:SType}(h:t.Members.length*24≤reachBytes) :gaz t=some (usesL t):=by
 have h0:=gls t h t.Members.length 0 (by omega);have h0':g4x (t.Members,(t.Members.length:Int),0,t,[])=some (t,t.Members.map (·.Type_)):=h0;rw[gaz,h0'];unfold usesL;simp only[oZ4,oZ3];have r1:room 8 (t.Members.map (·.Type_)++[t.Key]).length=true:=gbg (m:=t.Members.length) (by omega) h (by simp)
 have r2:room 8 (t.Members.map (·.Type_)++[t.Key]++[t.Elem]).length=true:=gbg (m:=t.Members.length) (by omega) h (by simp);have r3:room 8 (t.Members.map (·.Type_)++[t.Elem]).length=true:=gbg (m:=t.Members.length) (by omega) h (by simp);by_cases h8:t.Kind=8
 · have h7:7≤t.Kind:=by omega
   rw[if_pos (by simp[h8]),if_pos r1,if_pos (by simp[h7]),if_pos r2,if_pos h8,if_pos h7]
 · rw[if_neg (by simp[h8]),if_neg h8];by_cases h7:7≤t.Kind
   · rw[if_pos (by simp[h7]),if_pos r3,if_pos h7];simp
   · rw[if_neg (by simp[h7]),if_neg h7];simp
theorem glt(t:SType)(h:t.Members.length*24≤reachBytes) :∀(k i:Nat),i+k=t.Members.length→g4f ((i:Int),t,(t.Members.map (·.Type_)).take i)=some (t,t.Members.map (·.Type_))
 | 0,i,hi=>by
   rw[g4f,if_neg (by simp;omega),List.take_of_length_le (by simp;omega)]
 | k+1,i,hi=>by
   have hr:=g13 (g3v h);have hlt:i < t.Members.length:=by omega
   rw[g4f,if_pos (by simp;omega),if_pos (g6 hlt)];simp only[oZ4,oZ3,g7];rw[←g26 (·.Type_) t.Members i dSMember 0 hlt,g9r _ _ _ (by simpa using hlt),gj (by omega),if_pos (gbg (m:=t.Members.length) (by omega) h (by simp;omega))];exact glt t h k (i+1) (by omega)
theorem gyi{t:SType}(h:t.Members.length*24≤reachBytes)(hk:t.Kind≤9) :g9k t=some (usesL t):=by
 have h0:=glt t h t.Members.length 0 (by omega);have h0':g4f (0,t,[])=some (t,t.Members.map (·.Type_)):=h0;rw[g9k,h0'];unfold usesL;simp only[oZ4,oZ3];have r1:room 8 (t.Members.map (·.Type_)++[t.Key]).length=true:=gbg (m:=t.Members.length) (by omega) h (by simp)
 have r2:room 8 (t.Members.map (·.Type_)++[t.Key]++[t.Elem]).length=true:=gbg (m:=t.Members.length) (by omega) h (by simp);have r3:room 8 (t.Members.map (·.Type_)++[t.Elem]).length=true:=gbg (m:=t.Members.length) (by omega) h (by simp);by_cases h8:t.Kind=8
 · have h7:7≤t.Kind:=by omega
   rw[if_pos (by simp[h8]),if_pos r1,if_pos (by simp[h8]),if_pos r2,if_pos h8,if_pos h7]
 · rw[if_neg (by simp[h8]),if_neg h8];by_cases h7:7≤t.Kind
   · have:t.Kind=7∨t.Kind=9:=by omega
     rw[if_pos (by rcases this with e | e <;> simp[e]),if_pos r3,if_pos h7];simp
   · have e7:¬t.Kind=7:=by omega
     have e9:¬t.Kind=9:=by omega
     rw[if_neg (by simp[h8,e7,e9]),if_neg h7];simp
theorem gyj(k:Int) :g1k k=some (g6b k):=rfl
def keyB(k:Int) :Bool:=bif decide (1≤k)then decide (k≤4)else false
def outB(n:Nat)(u:Int) :Bool:=bif decide (u < 0)then true else decide ((n:Int)≤u)
def stepV(ts:List SType)(i:Nat) :Option Int:=
 let t:=ts.getD i dSType
 if !((g1f t).getD false)then some 1
 else if !(decide (t.Name=[])) && ((ts.map (·.Name)).take i).contains t.Name then some 1
 else if(usesL t).any (outB ts.length)then some 4
 else if decide (t.Kind=8) && !(keyB (ts.getD t.Key.toNat dSType).Kind)then some 1
 else none
theorem ggg {ts : List SType} {i : Nat} {t : SType} {r : Bool} (hT : ts.getD i dSType = t) (f1 : g1f t = some r) :
   stepV ts i=if(!r)=true then some 1 else if(!(decide (t.Name=[])) && ((ts.map (·.Name)).take i).contains t.Name)=true then some 1 else if(usesL t).any (outB ts.length)=true then some 4 else if(decide (t.Kind=8) && !(keyB (ts.getD t.Key.toNat dSType).Kind))=true then some 1 else none:=by
 subst hT;unfold stepV;simp only[f1,Option.getD_some]
theorem gpu {γ : Type} (L : Nat → Option γ) (l : List Int) (q : Int → Bool) (bad good : γ) (hstep : ∀ i, i < l.length → L i = if q (l.getD i 0) = true then some bad else L (i + 1)) (hend : L l.length = some good) :
   L 0=some (if l.any q=true then bad else good):=by
 have:=scan L l.length (fun i=>!(q (l.getD i 0))) bad good (fun i hi=>by
   rw[hstep i hi];cases q (l.getD i 0) <;> rfl) hend
 rcases this with⟨h1,h2⟩ | ⟨h1,j,h2,h3⟩
 · rw[h1,if_neg];intro h;rw[List.any_eq_true]at h;obtain⟨x,hx,hq⟩:=h;obtain⟨j,hj,he⟩:=List.getElem_of_mem hx;have:=h2 j hj;rw[g1c hj,he,hq]at this;cases this
 · rw[h1,if_pos];rw[List.any_eq_true];refine⟨l.getD j 0,gg h2 0,by simpa using h3⟩
theorem gnj{t:SType}(h:t.Members.length*24≤reachBytes) :(usesL t).length < 9223372036854775807:=by
 unfold usesL reachBytes at*;simp only[List.length_append,List.length_map];split <;> split <;> simp <;> omega
theorem g10t {L : Nat → Option (Int ⊕ Unit)} {L' : Nat → Option (Int ⊕ Unit)} {n : Nat} {step : Nat → Option Int}
   (h:∀i,i < n→L i=match step i with | some e=>some (.inl e) | none=>L (i+1)) (he:L n=some (.inr ()))
   (h':∀i,i < n→L' i=match step i with | some e=>some (.inl e) | none=>L' (i+1)) (he':L' n=some (.inr ())):∃o,L 0=some o∧L' 0=some o∧((o= .inr ()∧∀i,i < n→step i=none)∨∃i e,i < n∧step i=some e∧o= .inl e):=by
 have key:∀k i,i+k=n→∃o,L i=some o∧L' i=some o∧((o= .inr ()∧∀m,i≤m→m < n→step m=none)∨∃m e,m < n∧step m=some e∧o= .inl e):=by
   intro k
   induction k with
   | zero => intro i hi; have : i = n := by omega
             subst this;exact⟨_,he,he',.inl ⟨rfl,fun m h1 h2=>by omega⟩⟩
   | succ k ih=>
     intro i hi;rw[h i (by omega),h' i (by omega)];cases hst:step i with
     | some e=>exact⟨_,rfl,rfl,.inr ⟨i,e,by omega,hst,rfl⟩⟩
     | none=>
       obtain⟨o,o1,o2,o3⟩:=ih (i+1) (by omega);refine⟨o,o1,o2,?_⟩;rcases o3 with⟨a,b⟩ | h
       · refine .inl ⟨a,fun m h1 h2=>?_⟩;rcases Nat.lt_or_ge i m with h | h
         · exact b m h h2
         · have:m=i:=by omega
           subst this;exact hst
       · exact .inr h
 obtain⟨o,o1,o2,o3⟩:=key n 0 (by omega);refine⟨o,o1,o2,?_⟩;rcases o3 with⟨a,b⟩ | h
 · exact .inl ⟨a,fun i hi=>b i (Nat.zero_le _) hi⟩
 · exact .inr h
theorem gw4{ts:List SType}{t:SType}(hu:(usesL t).any (outB ts.length)=false)(h8:t.Kind=8) :inR t.Key ts.length=true:=by
 have hm:t.Key∈usesL t:=by unfold usesL;simp[h8]
 rw[List.any_eq_false]at hu;have:=hu _ hm;unfold outB at this;unfold inR;simp only[Bool.and_eq_true,decide_eq_true_eq];by_cases h1:t.Key < 0
 · simp[h1]at this
 · simp[h1]at this;omega
theorem g10u (ts : List SType) (t : SType) (i : Nat) (hi : i < ts.length) (hr : ts.length < 9223372036854775807) :
   g2i ((i:Int),0,ts,t.Kind,t.Name,t.Low,t.High,t.Max,t.Symbols,t.Members,t.Key,t.Elem,t.Open)=some (if(g6b t.Kind && ((ts.map (·.Name)).take i).contains t.Name)=true then .inl 1 else .inr ((i:Int),ts,t.Kind,t.Name,t.Low,t.High,t.Max,t.Symbols,t.Members,t.Key,t.Elem,t.Open)):=by
 have hsc:=scan (fun k=>g2i ((i:Int),(k:Int),ts,t.Kind,t.Name,t.Low,t.High,t.Max,t.Symbols,t.Members,t.Key,t.Elem,t.Open)) i (fun k=>!(bif g6b t.Kind then decide ((ts.getD k dSType).Name=t.Name)else false)) (.inl 1) (.inr ((i:Int),ts,t.Kind,t.Name,t.Low,t.High,t.Max,t.Symbols,t.Members,t.Key,t.Elem,t.Open))
   (fun k hk=>by
     rw[g2i,if_pos (by simp;omega),gyj];simp only[oZ4,oZ3];rw[if_pos (by rw[g6 (show k < ts.length by omega)];rfl),gj (by omega),g7]
     cases (bif g6b t.Kind then decide ((ts.getD k dSType).Name=t.Name)else false) <;> rfl)
   (by rw[g2i,if_neg (by simp)])
 have e0:g2i ((i:Int),((0:Nat):Int),ts,t.Kind,t.Name,t.Low,t.High,t.Max,t.Symbols,t.Members,t.Key,t.Elem,t.Open)=g2i ((i:Int),0,ts,t.Kind,t.Name,t.Low,t.High,t.Max,t.Symbols,t.Members,t.Key,t.Elem,t.Open):=rfl;simp only[e0]at hsc;rcases hsc with⟨h1,h2⟩ | ⟨h1,j,h2,h3⟩
 · rw[h1,if_neg];rw[Bool.and_eq_true,g4o (by simp;omega)]
   rintro ⟨hn,k,hk,he⟩
   rw[g26 (·.Name) ts k dSType [] (by omega)]at he;have:=h2 k hk;rw[hn,he]at this;simp at this
 · rw[h1,if_pos];rw[Bool.and_eq_true,g4o (by simp;omega)];cases hn:g6b t.Kind with
   | false=>rw[hn]at h3;cases h3
   | true=>
     refine⟨rfl,j,h2,?_⟩;rw[g26 (·.Name) ts j dSType [] (by omega)];rw[hn]at h3
     simpa using h3
theorem g10v (ts : List SType) (t : SType) (i : Nat) (l : List Int) (hl : l.length < 9223372036854775807) :
   g3r ((i:Int),l,0,ts,t.Kind,t.Name,t.Low,t.High,t.Max,t.Symbols,t.Members,t.Key,t.Elem,t.Open)=some (if l.any (outB ts.length)=true then .inl 4 else .inr ((i:Int),ts,t.Kind,t.Name,t.Low,t.High,t.Max,t.Symbols,t.Members,t.Key,t.Elem,t.Open)):=
 gpu (fun j=>g3r ((i:Int),l,(j:Int),ts,t.Kind,t.Name,t.Low,t.High,t.Max,t.Symbols,t.Members,t.Key,t.Elem,t.Open)) l (outB ts.length) (.inl 4) (.inr ((i:Int),ts,t.Kind,t.Name,t.Low,t.High,t.Max,t.Symbols,t.Members,t.Key,t.Elem,t.Open))
   (fun j hj=>by
     rw[g3r,if_pos (by simp;omega),if_pos (g6 hj)];simp only[oZ4,oZ3];rw[if_pos (by rw[g6 hj];rfl),gj (by omega)]
     rfl)
   (by rw[g3r,if_neg (by simp)])
theorem glu{s:SSchema}(hs:s.Types.length≤reachBytes)(ht:∀t,t∈s.Types→OkT t) :∃e,g7d s=some e∧g5u s=some e∧(e=0→s.Types.length≤32∧∀i,i < s.Types.length→stepV s.Types i=none)∧((s.Types.length≤32∧∀i,i < s.Types.length→stepV s.Types i=none)→e=0):=by
 rw[g7d,g5u];by_cases h32:32 < s.Types.length
 · exact⟨3,by rw[if_pos (by simp;omega)],by rw[if_pos (by simp;omega)],fun h=>(by cases h),fun h=>absurd h.1 (by omega)⟩
 · rw[if_neg (by simp;omega),if_neg (by simp;omega)];have hr:s.Types.length < 9223372036854775807:=by omega
   have:=g10t (L:=fun i=>g4c (s.Types,(s.Types.length:Int),(i:Int),s.Types,setOf ((s.Types.map (·.Name)).take i))) (L':=fun i=>g3m ((i:Int),s.Types)) (n:=s.Types.length) (step:=stepV s.Types)
     (fun i hi=>by
       have hok:=ht _ (gg hi dSType);obtain⟨r,f1,f2,f3⟩:=gib hok;rw[g4c,if_pos (by simp;omega),if_pos (g6 hi)];simp only[oZ4,oZ3,g7];generalize hT:s.Types.getD i dSType=t at*;rw[ggg hT f1,f1];simp only[oZ3,glo];cases r with
       | false=>rw[if_pos (show(bif (!false)then true else bif (!(decide (t.Name=[])))then((s.Types.map (·.Name)).take i).contains t.Name else false)=true from rfl),if_pos (show(!false)=true from rfl)]
       | true=>
         rw[if_neg (show ¬((!true)=true) by simp)];by_cases hd:(!(decide (t.Name=[])) && ((s.Types.map (·.Name)).take i).contains t.Name)=true
         · have hd':(bif (!(decide (t.Name=[])))then((s.Types.map (·.Name)).take i).contains t.Name else false)=true:=by
             simp only[Bool.and_eq_true]at hd;rw[hd.1,hd.2];rfl
           rw[if_pos (show(bif (!true)then true else bif (!(decide (t.Name=[])))then((s.Types.map (·.Name)).take i).contains t.Name else false)=true from hd'),if_pos hd]
         · have hd':¬((bif (!(decide (t.Name=[])))then((s.Types.map (·.Name)).take i).contains t.Name else false)=true):=by
             intro hc;apply hd;cases h1:(!(decide (t.Name=[])))with
             | true=>rw[h1]at hc;simpa using hc
             | false=>rw[h1]at hc;cases hc
           rw[if_neg (show ¬((bif (!true)then true else bif (!(decide (t.Name=[])))then((s.Types.map (·.Name)).take i).contains t.Name else false)=true)from hd'),if_neg hd,gyh hok.mems];simp only[oZ3];have hul:=gnj hok.mems
           have hin:=gpu (fun j=>g39 (s.Types,(s.Types.length:Int),(i:Int),usesL t,((usesL t).length:Int),(j:Int),s.Types,addS (setOf ((s.Types.map (·.Name)).take i)) t.Name,t.Kind,t.Name,t.Low,t.High,t.Max,t.Symbols,t.Members,t.Key,t.Elem,t.Open)) (usesL t) (outB s.Types.length) (.inl 4)
             (.inr (s.Types,(s.Types.length:Int),(i:Int),s.Types,addS (setOf ((s.Types.map (·.Name)).take i)) t.Name,t.Kind,t.Name,t.Low,t.High,t.Max,t.Symbols,t.Members,t.Key,t.Elem,t.Open))
             (fun j hj=>by
               rw[g39,if_pos (by simp;omega),if_pos (g6 hj),gj (by omega)]
               rfl)
             (by rw[g39,if_neg (by simp)])
           have e0:g39 (s.Types,(s.Types.length:Int),(i:Int),usesL t,((usesL t).length:Int),((0:Nat):Int),s.Types,addS (setOf ((s.Types.map (·.Name)).take i)) t.Name,t.Kind,t.Name,t.Low,t.High,t.Max,t.Symbols,t.Members,t.Key,t.Elem,t.Open)=g39 (s.Types,(s.Types.length:Int),(i:Int),usesL t,((usesL t).length:Int),0,s.Types,addS (setOf ((s.Types.map (·.Name)).take i)) t.Name,t.Kind,t.Name,t.Low,t.High,t.Max,t.Symbols,t.Members,t.Key,t.Elem,t.Open):=rfl
           rw[←e0,hin];cases hu:(usesL t).any (outB s.Types.length)with
           | true=>rfl
           | false=>
             simp only[Bool.false_eq_true,if_false,oZ3];have hsucc:addS (setOf ((s.Types.map (·.Name)).take i)) t.Name=setOf ((s.Types.map (·.Name)).take (i+1)):=by
               have h1:=glp (l:=s.Types.map (·.Name)) (i:=i) (by simpa using hi);rw[g26 (·.Name) s.Types i dSType [] hi,hT]at h1;exact h1
             rw[hsucc,gj (by omega)];by_cases h8:t.Kind=8
             · have hk:=gw4 hu h8;rw[if_pos (by rw[hk];rfl),if_pos (by rw[hk];rfl)];simp only[h8,decide_true,cond_true,Bool.true_and,keyB];generalize (s.Types.getD t.Key.toNat dSType).Kind=k;by_cases q1:k < 1
               · rw[if_pos (by simp[q1]),if_pos (by simp;omega)]
               · by_cases q2:4 < k
                 · rw[if_pos (by simp[q1,q2]),if_pos (by simp;omega)]
                 · rw[if_neg (by simp[q1,q2]),if_neg (by simp;omega)]
             · have e8:decide (t.Kind=8)=false:=by simp[h8]
               simp only[e8,Bool.not_false,Bool.or_true,if_true,Bool.false_and,cond_false,Bool.false_eq_true,if_false])
     (by rw[g4c,if_neg (by simp)])
     (fun i hi=>by
       have hok:=ht _ (gg hi dSType);obtain⟨r,f1,f2,f3⟩:=gib hok;rw[g3m,if_pos (by simp;omega),if_pos (g6 hi)];simp only[oZ4,oZ3,g7];generalize hT:s.Types.getD i dSType=t at*;rw[ggg hT f1,f2,g10u s.Types t i hi hr];simp only[oZ3];cases r with
       | false=>rfl
       | true=>
         obtain⟨k1,k2,k3⟩:=f3 rfl;rw[if_neg (show ¬((!true)=true) by simp),if_neg (show ¬((!true)=true) by simp),k3];cases hd:(!(decide (t.Name=[])) && ((s.Types.map (·.Name)).take i).contains t.Name)with
         | true=>rfl
         | false=>
           simp only[Bool.false_eq_true,if_false,ggf];rw[gyi hok.mems k2];simp only[oZ3];rw[g10v s.Types t i (usesL t) (gnj hok.mems)];cases hu:(usesL t).any (outB s.Types.length)with
           | true=>rfl
           | false=>
             simp only[Bool.false_eq_true,if_false,oZ3];rw[gj (by omega)];by_cases h8:t.Kind=8
             · have hk:=gw4 hu h8;rw[if_pos (by rw[hk];rfl)];simp only[h8,decide_true,if_true,g58,oZ3,cond_true,Bool.true_and];show(if(!(keyB (s.Types.getD t.Key.toNat dSType).Kind))=true then some (.inl 1)else g3m (((i+1:Nat):Int),s.Types))=_;cases keyB (s.Types.getD t.Key.toNat dSType).Kind <;> rfl
             · have e8:decide (t.Kind=8)=false:=by simp[h8]
               rw[e8]
               simp only[Bool.not_false,Bool.or_true,if_true,Bool.false_and,cond_false,Bool.false_eq_true,if_false,oZ3])
     (by rw[g3m,if_neg (by simp)])
   obtain⟨o,h1,h2,h3⟩:=this;have h1':g4c (s.Types,(s.Types.length:Int),0,s.Types,[])=some o:=h1;have h2':g3m (0,s.Types)=some o:=h2;rw[h1',h2'];rcases h3 with⟨rfl,h4⟩ | ⟨i,e,h4,h5,rfl⟩
   · exact⟨_,rfl,rfl,fun _=>⟨by omega,h4⟩,fun _=>rfl⟩
   · refine⟨_,rfl,rfl,fun h0=>?_,fun h=>by have:=h.2 i h4;rw[h5]at this;cases this⟩
     exfalso
     subst h0;unfold stepV at h5;simp only at h5;split at h5
     · cases h5
     · split at h5
       · cases h5
       · split at h5
         · cases h5
         · split at h5 <;> cases h5
theorem gu2{s:SSchema}(hs:s.Types.length≤reachBytes)(ht:∀t,t∈s.Types→OkT t) :∃e,g7d s=some e∧g5u s=some e∧(e=0→s.Types.length≤32∧∀i,i < s.Types.length→stepV s.Types i=none):=by
 obtain⟨e,h1,h2,h3,_⟩:=glu hs ht;exact⟨e,h1,h2,h3⟩
theorem gu3{ts:List SType}(hT:∀t,t∈ts→OkT t)(hv:∀i,i < ts.length→stepV ts i=none) :∀t,t∈ts→1≤t.Kind∧t.Kind≤9:=by
 intro t ht;obtain⟨i,hi,he⟩:=List.getElem_of_mem ht;have hg:ts.getD i dSType=t:=by rw[g1c hi];exact he
 obtain⟨r,f1,_,f3⟩:=gib (hT t ht);have h:=hv i hi;rw[ggg hg f1]at h;cases r with
 | false=>rw[if_pos (show(!false)=true from rfl)]at h;cases h
 | true=>exact⟨(f3 rfl).1,(f3 rfl).2.1⟩
end
section
open Go Go.Proofs.YthnmepafpikaiaaGreat.Shv
set_option maxRecDepth 100000
theorem gbh {γ : Type} (L : Nat → Option γ) (n : Nat) (q : Nat → Bool) (hit : Nat → γ) (miss : γ) (hstep : ∀ i, i < n → L i = if q i = true then some (hit i) else L (i + 1)) (hend : L n = some miss) :
   (∃j,j < n∧q j=true∧(∀k,k < j→q k=false)∧L 0=some (hit j))∨((∀k,k < n→q k=false)∧L 0=some miss):=by
 have key:∀k i,i+k=n→(∀m,m < i→q m=false)→L 0=L i→(∃j,j < n∧q j=true∧(∀k,k < j→q k=false)∧L 0=some (hit j))∨((∀k,k < n→q k=false)∧L 0=some miss):=by
   intro k
   induction k with
   | zero => intro i hi hm h0; have : i = n := by omega
             subst this;exact .inr ⟨hm,by rw[h0,hend]⟩
   | succ k ih=>
     intro i hi hm h0;rw[hstep i (by omega)]at h0;cases hq:q i with
     | true=>rw[hq,if_pos rfl]at h0;exact .inl ⟨i,by omega,hq,hm,h0⟩
     | false=>
       rw[hq,if_neg (by simp)]at h0;refine ih (i+1) (by omega) (fun m hm'=>?_) h0;rcases Nat.lt_or_ge m i with h | h
       · exact hm m h
       · have:m=i:=by omega
         subst this;exact hq
 exact key n 0 (by omega) (fun m hm=>by omega) rfl
def gfg(l:List SMember)(id:Int)(r:Int × Bool) :Prop:=(∃j:Nat,j < l.length∧(l.getD j dSMember).ID=id∧(∀k,k < j→(l.getD k dSMember).ID≠id)∧r=((j:Int),true))∨((∀k,k < l.length→(l.getD k dSMember).ID≠id)∧r=(0,false))
theorem gr8{l:List SMember}{id:Int}{r q:Int × Bool}(h1:gfg l id r)(h2:gfg l id q) :r=q:=by
 rcases h1 with⟨j,a1,a2,a3,rfl⟩ | ⟨a1,rfl⟩ <;> rcases h2 with⟨k,b1,b2,b3,rfl⟩ | ⟨b1,rfl⟩
 · have:j=k:=by
     rcases Nat.lt_trichotomy j k with h | h | h
     · exact absurd a2 (b3 j h)
     · exact h
     · exact absurd b2 (a3 k h)
   rw[this]
 · exact absurd a2 (b1 j a1)
 · exact absurd b2 (a1 k b1)
 · rfl
theorem gmo{t:SType}{id:Int}(hl:t.Members.length < 9223372036854775807) :∃r,g3n (t,id)=some r∧gfg t.Members id r:=by
 rw[g3n,g3z];have h:=gbh (fun i=>gx (t.Members,(t.Members.length:Int),(i:Int),id)) t.Members.length (fun i=>decide ((t.Members.getD i dSMember).ID=id)) (fun i=>.inl ((i:Int),id)) (.inr id)
   (fun i hi=>by
     rw[gx,if_pos (by simp;omega),if_pos (g6 hi)];simp only[oZ4,oZ3,g7,g7r,ga7]
     rw[gj (by omega)])
   (by rw[gx,if_neg (by simp)])
 have e0:gx (t.Members,(t.Members.length:Int),((0:Nat):Int),id)=gx (t.Members,(t.Members.length:Int),0,id):=rfl;simp only[e0]at h;rcases h with⟨j,h1,h2,h3,h4⟩ | ⟨h1,h4⟩
 · rw[h4];refine⟨((j:Int),true),?_,.inl ⟨j,h1,by simpa using h2,fun k hk=>by simpa using h3 k hk,rfl⟩⟩;have e1:maxI (j:Int) 0=(j:Int):=by unfold maxI;omega
   have e2:decide ((0:Int)≤(j:Int))=true:=by simp
   simp only[oZ4,oZ3,e1,e2]
 · rw[h4];exact⟨(0,false),rfl,.inr ⟨fun k hk=>by simpa using h1 k hk,rfl⟩⟩
theorem gmp{t:SType}{id:Int}(hl:t.Members.length < 9223372036854775807) :∃r,g1l (t,id)=some r∧gfg t.Members id r:=by
 rw[g1l];have h:=gbh (fun i=>g29 (id,(i:Int),t)) t.Members.length (fun i=>decide ((t.Members.getD i dSMember).ID=id)) (fun i=>.inl ((i:Int),true)) (.inr ())
   (fun i hi=>by
     rw[g29,if_pos (by simp;omega),if_pos (g6 hi),gj (by omega)]
     simp only[g7])
   (by rw[g29,if_neg (by simp)])
 have e0:g29 (id,((0:Nat):Int),t)=g29 (id,0,t):=rfl;simp only[e0]at h;rcases h with⟨j,h1,h2,h3,h4⟩ | ⟨h1,h4⟩
 · rw[h4];exact⟨((j:Int),true),rfl,.inl ⟨j,h1,by simpa using h2,fun k hk=>by simpa using h3 k hk,rfl⟩⟩
 · rw[h4];exact⟨(0,false),rfl,.inr ⟨fun k hk=>by simpa using h1 k hk,rfl⟩⟩
theorem g4m{t:SType}(id:Int)(hl:t.Members.length < 9223372036854775807) :∃r,g3n (t,id)=some r∧g1l (t,id)=some r∧gfg t.Members id r:=by
 obtain⟨r,h1,h2⟩:=gmo (id:=id) hl;obtain⟨q,h3,h4⟩:=gmp (id:=id) hl;have:=gr8 h2 h4;subst this;exact⟨r,h1,h3,h2⟩
def gfh(l:List SSymbol)(id:Int)(r:Int × Bool) :Prop:=(∃j:Nat,j < l.length∧(l.getD j dSSymbol).ID=id∧(∀k,k < j→(l.getD k dSSymbol).ID≠id)∧r=((j:Int),true))∨((∀k,k < l.length→(l.getD k dSSymbol).ID≠id)∧r=(0,false))
theorem gr9{l:List SSymbol}{id:Int}{r q:Int × Bool}(h1:gfh l id r)(h2:gfh l id q) :r=q:=by
 rcases h1 with⟨j,a1,a2,a3,rfl⟩ | ⟨a1,rfl⟩ <;> rcases h2 with⟨k,b1,b2,b3,rfl⟩ | ⟨b1,rfl⟩
 · have:j=k:=by
     rcases Nat.lt_trichotomy j k with h | h | h
     · exact absurd a2 (b3 j h)
     · exact h
     · exact absurd b2 (a3 k h)
   rw[this]
 · exact absurd a2 (b1 j a1)
 · exact absurd b2 (a1 k b1)
 · rfl
theorem gei{t:SType}(id:Int)(hl:t.Symbols.length < 9223372036854775807) :∃r,g9f (t,id)=some r∧g5n (t,id)=some r∧gfh t.Symbols id r:=by
 rw[g9f,g3y,g5n];have h:=gbh (fun i=>gt (t.Symbols,(t.Symbols.length:Int),(i:Int),id)) t.Symbols.length (fun i=>decide ((t.Symbols.getD i dSSymbol).ID=id)) (fun i=>.inl ((i:Int),id)) (.inr id)
   (fun i hi=>by
     rw[gt,if_pos (by simp;omega),if_pos (g6 hi)];simp only[oZ4,oZ3,g7,ga5]
     rw[gj (by omega)])
   (by rw[gt,if_neg (by simp)])
 have e0:gt (t.Symbols,(t.Symbols.length:Int),((0:Nat):Int),id)=gt (t.Symbols,(t.Symbols.length:Int),0,id):=rfl;have g:=gbh (fun i=>g20 (id,(i:Int),t)) t.Symbols.length (fun i=>decide ((t.Symbols.getD i dSSymbol).ID=id)) (fun i=>.inl ((i:Int),true)) (.inr ())
   (fun i hi=>by
     rw[g20,if_pos (by simp;omega),if_pos (g6 hi),gj (by omega)]
     simp only[g7])
   (by rw[g20,if_neg (by simp)])
 have g0:g20 (id,((0:Nat):Int),t)=g20 (id,0,t):=rfl;simp only[e0]at h;simp only[g0]at g;have hA:∃r,(gt (t.Symbols,(t.Symbols.length:Int),0,id) >>=fun o=>match o with | .inl o_1=>some (o_1.1,o_1.2) | .inr o_2=>some ((-1),o_2)) >>=(fun r=>some (maxI r.1 0,decide (0≤r.1)))=some r∧gfh t.Symbols id r:=by
   rcases h with⟨j,h1,h2,h3,h4⟩ | ⟨h1,h4⟩
   · rw[h4];refine⟨((j:Int),true),?_,.inl ⟨j,h1,by simpa using h2,fun k hk=>by simpa using h3 k hk,rfl⟩⟩;have e1:maxI (j:Int) 0=(j:Int):=by unfold maxI;omega
     have e2:decide ((0:Int)≤(j:Int))=true:=by simp
     simp only[oZ4,oZ3,e1,e2]
   · rw[h4];exact⟨(0,false),rfl,.inr ⟨fun k hk=>by simpa using h1 k hk,rfl⟩⟩
 have hB:∃r,(g20 (id,0,t) >>=fun o=>match o with | .inl o_1=>some (o_1.1,o_1.2) | .inr o_2=>some (0,false))=some r∧gfh t.Symbols id r:=by
   rcases g with⟨j,h1,h2,h3,h4⟩ | ⟨h1,h4⟩
   · rw[h4];exact⟨((j:Int),true),rfl,.inl ⟨j,h1,by simpa using h2,fun k hk=>by simpa using h3 k hk,rfl⟩⟩
   · rw[h4];exact⟨(0,false),rfl,.inr ⟨fun k hk=>by simpa using h1 k hk,rfl⟩⟩
 obtain⟨r,a1,a2⟩:=hA;obtain⟨q,b1,b2⟩:=hB;have:=gr9 a2 b2;subst this;exact⟨r,a1,b1,a2⟩
end
section
open Go Go.Proofs.YthnmepafpikaiaaGreat.Shv
set_option maxRecDepth 100000
def zig(n:Int) :Int:=if 0≤n then 2*n else -2*n - 1
theorem gmq{a b:Int}(h:zig a=zig b) :a=b:=by
 unfold zig at h;split at h <;> split at h <;> omega
def I64(n:Int) :Prop:= -9223372036854775808≤n∧n≤9223372036854775807
theorem gda{n:Int}(h:I64 n) :g4z n=some (zig n):=by
 obtain⟨h1,h2⟩:=h;rw[g4z];unfold zig;by_cases h0:0≤n
 · rw[if_pos (by simp[h0]),if_pos h0];obtain⟨k,rfl⟩:∃k:Nat,n=(k:Int):=⟨n.toNat,by omega⟩
   rw[wrpn (by omega)];have:=mulIn (a:=2) (b:=k) (by omega)
   congr 1
   try omega
 · rw[if_neg (by simp[h0]),if_neg h0];rw[g69 (by omega) (by omega),g99 (by omega) (by omega)];obtain⟨k,hk⟩:∃k:Nat,0 - (n+1)=(k:Int):=⟨(0 - (n+1)).toNat,by omega⟩
   rw[hk,wrpn (by omega)];have h3:=mulIn (a:=2) (b:=k) (by omega);have h3':mulI .u64 2 (k:Int)=((2*k:Nat):Int):=h3;rw[h3'];have h4:=addIn (a:=2*k) (b:=1) (by omega);have h4':addI .u64 ((2*k:Nat):Int) 1=((2*k+1:Nat):Int):=h4;rw[h4']
   congr 1
   omega
theorem gxk(a:Nat)(h:a < 18446744073709551616) :xorI .u64 (a:Int) 0=(a:Int):=by
 have e:(BitVec.ofInt 64 (a:Int) ^^^ BitVec.ofInt 64 (0:Int)).toNat=a:=by
   have:BitVec.ofInt 64 (0:Int)=BitVec.ofNat 64 0:=by decide
   rw[this,BitVec.ofInt_natCast,BitVec.toNat_xor,BitVec.toNat_ofNat,BitVec.toNat_ofNat,two64,Nat.mod_eq_of_lt h];simp
 show IntKind.u64.wrap (((BitVec.ofInt 64 (a:Int) ^^^ BitVec.ofInt 64 (0:Int)).toNat:Nat):Int)=_;rw[e];exact wrapu (by omega) (by omega)
theorem gxl(a:Nat)(h:a < 18446744073709551616) :xorI .u64 (a:Int) 18446744073709551615=((18446744073709551615 - a:Nat):Int):=by
 have e:(BitVec.ofInt 64 (a:Int) ^^^ BitVec.ofInt 64 (18446744073709551615:Int)).toNat=18446744073709551615 - a:=by
   have h1:BitVec.ofInt 64 (18446744073709551615:Int)=BitVec.allOnes 64:=by decide
   rw[h1,BitVec.ofInt_natCast,BitVec.xor_allOnes,BitVec.toNat_not,BitVec.toNat_ofNat,two64,Nat.mod_eq_of_lt h]
 all_goals (try omega)
 show IntKind.u64.wrap (((BitVec.ofInt 64 (a:Int) ^^^ BitVec.ofInt 64 (18446744073709551615:Int)).toNat:Nat):Int)=_;rw[e];exact wrapu (by omega) (by omega)
theorem shr63{n:Int}(h:I64 n) :shrI .i64 n 63=if 0≤n then 0 else -1:=by
 obtain⟨h1,h2⟩:=h;unfold shrI;have e:((2:Int) ^ min (63:Int).toNat IntKind.i64.bits)=9223372036854775808:=by decide
 rw[e,Int.fdiv_eq_ediv_of_nonneg _ (by omega)];split <;> omega
theorem gpv{n:Int}(h:I64 n) :g6g n=some (zig n):=by
 rw[g6g,shr63 h];obtain⟨h1,h2⟩:=h;unfold zig;have hs:∀m:Int,shlI .u64 m 1=IntKind.u64.wrap (m*2):=by
   intro m;unfold shlI;have e:((2:Int) ^ min (1:Int).toNat IntKind.u64.bits)=2:=by decide
   rw[e]
 rw[hs]
 congr 1
 by_cases h0:0≤n
 · rw[if_pos h0,if_pos h0];obtain⟨k,rfl⟩:∃k:Nat,n=(k:Int):=⟨n.toNat,by omega⟩
   rw[wrpn (by omega),wrapu (by omega) (by omega)];have:wrp .u64 0=0:=by decide
   rw[this];have:=gxk (2*k) (by omega);have e:((k:Int)*2)=((2*k:Nat):Int):=by omega
   rw[e,this];omega
 · rw[if_neg h0,if_neg h0];have:wrp .u64 (-1)=18446744073709551615:=by decide
   rw[this];obtain⟨k,hk⟩:∃k:Nat,n+9223372036854775808=(k:Int):=⟨(n+9223372036854775808).toNat,by omega⟩
   have e:IntKind.u64.wrap (wrp .u64 n*2)=((2*k:Nat):Int):=by
     unfold wrp;rw[IntKind.wrap_u64,IntKind.wrap_u64];omega
   rw[e,gxl _ (by omega)];omega
theorem cmp1(a b:Int) :gb0 (a,b)=some (if a < b then -1 else if b < a then 1 else 0):=by
 rw[gb0];simp only[gdw,oZ4,oZ3,decide_true,Bool.not_true,Bool.false_eq_true,if_false];by_cases h1:a < b <;> by_cases h2:b < a <;> simp[h1,h2]
theorem cmp2(a b:Int) :g7y (a,b)=some (if a < b then -1 else if b < a then 1 else 0):=by
 rw[g7y];simp only[gb1,oZ4,oZ3,decide_true,Bool.not_true,Bool.false_eq_true,if_false];by_cases h1:a < b <;> by_cases h2:b < a <;> simp[h1,h2]
theorem cmp3(a b:List UInt8) :g9g (a,b)=some (if Op.bytesLess a b=true then -1 else if(Op.bytesLess a b || decide (a=b))=true then 0 else 1):=by
 rw[g9g];simp only[gb2,oZ4,oZ3,decide_true,Bool.not_true,Bool.false_eq_true,if_false];cases Op.bytesLess a b with
 | true=>rfl
 | false=>cases decide (a=b) <;> rfl
theorem or2(a b:Int) :glh [a,b]=some (if a≠0 then a else b):=by
 rw[glh];have h0:g5z (0,[a,b],((2:Nat):Int),((0:Nat):Int))=if a≠0 then some (.inl a)else(if b≠0 then some (.inl b)else some (.inr 0)):=by
   rw[g5z,if_pos (by decide),if_pos (show inR ((0:Nat):Int) ([a,b]:List Int).length=true from g6 (k:=0) (n:=2) (by omega))];simp only[oZ4,oZ3,g7,List.getD_cons_zero];by_cases ha:a=0
   · rw[if_neg (by simp[ha]),if_neg (by simp[ha])];have e1:addI .i64 ((0:Nat):Int) 1=((1:Nat):Int):=gj (by omega);rw[e1,g5z,if_pos (by decide),if_pos (show inR ((1:Nat):Int) ([a,b]:List Int).length=true from g6 (k:=1) (n:=2) (by omega))];simp only[oZ4,oZ3,g7,List.getD_cons_succ,List.getD_cons_zero];by_cases hb:b=0
     · rw[if_neg (by simp[hb]),if_neg (by simp[hb])];have e2:addI .i64 ((1:Nat):Int) 1=((2:Nat):Int):=gj (by omega);rw[e2,g5z,if_neg (by decide)]
     · rw[if_pos (by simp[hb]),if_pos hb]
   · rw[if_pos (by simp[ha]),if_pos ha]
 have h1:g5z (0,[a,b],(([a,b]:List Int).length:Int),0)=g5z (0,[a,b],((2:Nat):Int),((0:Nat):Int)):=rfl;rw[h1,h0];by_cases ha:a=0
 · by_cases hb:b=0 <;> simp[ha,hb]
 · simp[ha]
theorem ggs :∀a:List UInt8,Op.bytesLess a a=false
 | []=>rfl
 | x::r=>by
   simp[Op.bytesLess,ggs r]
theorem gdb{a b:SValue}(ha:I64 a.Int_)(hb:I64 b.Int_) :∃r,g5q (a,b)=some r∧g2r (a,b)=some r:=by
 rw[g5q,g2r];by_cases hk:a.Kind=b.Kind
 · rw[if_neg (show ¬((!(decide (a.Kind=b.Kind)))=true) by simp[hk]),if_neg (show ¬((!(decide (a.Kind=b.Kind)))=true) by simp[hk])];by_cases k1:a.Kind=1
   · rw[if_pos (show decide (a.Kind=1)=true by simp[k1]),if_pos (show decide (a.Kind=1)=true by simp[k1])];simp only[g1p];cases eqB a.Bool_ b.Bool_ <;> cases b.Bool_ <;> exact⟨_,rfl,rfl⟩
   · rw[if_neg (show ¬(decide (a.Kind=1)=true) by simp[k1]),if_neg (show ¬(decide (a.Kind=1)=true) by simp[k1])];by_cases k2:a.Kind=2
     · rw[if_pos (show decide (a.Kind=2)=true by simp[k2]),if_pos (show decide (a.Kind=2)=true by simp[k2]),gpv ha,gpv hb,gda ha,gda hb];simp only[oZ4,oZ3,cmp1,g1p];by_cases he:a.Int_=b.Int_
       · rw[he];exact⟨0,by simp,by simp⟩
       · have hne:zig a.Int_≠zig b.Int_:=fun h=>he (gmq h)
         rcases Int.lt_or_gt_of_ne hne with h | h
         · exact⟨-1,by simp[h],by simp[h,he]⟩
         · have:¬zig a.Int_ < zig b.Int_:=by omega
           exact⟨1,by simp[h,this],by simp[h,he,this]⟩
     · rw[if_neg (show ¬(decide (a.Kind=2)=true) by simp[k2]),if_neg (show ¬(decide (a.Kind=2)=true) by simp[k2])];by_cases k3:a.Kind=3
       · rw[if_pos (show decide (a.Kind=3)=true by simp[k3]),if_pos (show decide (a.Kind=3)=true by simp[k3])];simp only[oZ4,oZ3,cmp2,cmp3,or2,g1p];by_cases hl:a.Str.length=b.Str.length
         · have hq:¬((!(decide ((a.Str.length:Int)=(b.Str.length:Int))))=true):=by simp;omega
           rw[if_neg hq,hl];have e1:¬((b.Str.length:Int) < (b.Str.length:Int)):=by omega
           simp only[e1,if_false,ne_eq,not_true_eq_false];by_cases he:a.Str=b.Str
           · rw[he,ggs];exact⟨0,by simp,by simp⟩
           · cases hb:Op.bytesLess a.Str b.Str with
             | true=>exact⟨-1,by simp,by simp[he]⟩
             | false=>exact⟨1,by simp[he],by simp[he]⟩
         · have hq:(!(decide ((a.Str.length:Int)=(b.Str.length:Int))))=true:=by simp;omega
           rw[if_pos hq];by_cases h:a.Str.length < b.Str.length
           · have e1:(a.Str.length:Int) < (b.Str.length:Int):=by omega
             exact⟨-1,by simp[e1],by simp[e1]⟩
           · have e1:¬((a.Str.length:Int) < (b.Str.length:Int)):=by omega
             have e2:(b.Str.length:Int) < (a.Str.length:Int):=by omega
             exact⟨1,by simp[e1,e2],by simp[e1]⟩
       · rw[if_neg (show ¬(decide (a.Kind=3)=true) by simp[k3]),if_neg (show ¬(decide (a.Kind=3)=true) by simp[k3])];by_cases k4:a.Kind=4
         · rw[if_pos (show decide (a.Kind=4)=true by simp[k4]),if_pos (show decide (a.Kind=4)=true by simp[k4])];simp only[oZ4,oZ3,cmp2,g1p];by_cases he:a.ID=b.ID
           · rw[he];exact⟨0,by simp,by simp⟩
           · rcases Int.lt_or_gt_of_ne he with h | h
             · exact⟨-1,by simp[h],by simp[h,he]⟩
             · have:¬a.ID < b.ID:=by omega
               exact⟨1,by simp[h,this],by simp[h,he,this]⟩
         · rw[if_neg (show ¬(decide (a.Kind=4)=true) by simp[k4]),if_neg (show ¬(decide (a.Kind=4)=true) by simp[k4])];exact⟨0,rfl,rfl⟩
 · rw[if_pos (show(!(decide (a.Kind=b.Kind)))=true by simp[hk]),if_pos (show(!(decide (a.Kind=b.Kind)))=true by simp[hk])];exact⟨0,rfl,rfl⟩
end
section
open Go Go.Proofs.YthnmepafpikaiaaGreat.Shv
set_option maxRecDepth 100000
def Both(o1 o2:Option Bool) :Prop:=∃r,o1=some r∧o2=some r
theorem gic {γ δ : Type} (L : Nat → Option (Bool ⊕ γ)) (L' : Nat → Option (Bool ⊕ δ)) (n : Nat) (p : Nat → Bool) (g : γ) (g' : δ)
   (h:∀i,i < n→L i=if p i=true then L (i+1)else some (.inl false)) (he:L n=some (.inr g))
   (h':∀i,i < n→L' i=if p i=true then L' (i+1)else some (.inl false)) (he':L' n=some (.inr g')):
   (L 0=some (.inr g)∧L' 0=some (.inr g')∧∀j,j < n→p j=true)∨(L 0=some (.inl false)∧L' 0=some (.inl false)∧∃j,j < n∧p j=false):=by
 rcases scan L n p (.inl false) (.inr g) h he with⟨a1,a2⟩ | ⟨a1,j,a2,a3⟩ <;> rcases scan L' n p (.inl false) (.inr g') h' he' with⟨b1,b2⟩ | ⟨b1,k,b2,b3⟩
 · exact .inl ⟨a1,b1,a2⟩
 · have:=a2 k b2;rw[b3]at this;cases this
 · have:=b2 j a2;rw[a3]at this;cases this
 · exact .inr ⟨a1,b1,j,a2,a3⟩
def gae(k:Int) :Prop:=1≤k∧k≤9
theorem gra{v:SValue}(hk:gae v.Kind) :∃p,ga4 v=some p∧g5f v=some p∧(p=true→v.Kind≠5→v.Kind≠6→v.Rest=[]):=by
 obtain⟨K,B,I,S,ID,Ks,Is,R⟩:=v;simp only at hk;rw[ga4,SValue.gq,g5f];have:K=1∨K=2∨K=3∨K=4∨K=5∨K=6∨K=7∨K=8∨K=9:=by unfold gae at hk;omega
 have eI:∀(x:Int),decide (x=x)=true:=fun x=>by simp
 rcases this with rfl | rfl | rfl | rfl | rfl | rfl | rfl | rfl | rfl
 all_goals
   refine⟨_,rfl,?_,?_⟩
   · simp[gby,eqB]
     try (cases B <;> simp)
   · simp[gby,eqB]
section
variable {ts:List SType} (hn:ts.length < 9223372036854775807) (hT:∀t,t∈ts→OkT t) (hK:∀t,t∈ts→gae t.Kind)
def Fit(ts:List SType)(x:SValue) :Prop:=∀t plain,Both (g3l ((⟨ts⟩:SSchema),t,x,plain)) (g1q ((⟨ts⟩:SSchema),t,x,plain))
theorem gnk {l : List SValue} (hl : l.length ≤ reachBytes) (ih : ∀ x, x ∈ l → Fit ts x) (t : Int) (plain : Bool) :
   Both (g5x ((⟨ts⟩:SSchema),t,l,plain)) (g4e ((⟨ts⟩:SSchema),t,l,plain)):=by
 have hr:=g13 hl
 let p:Nat→Bool:=fun i=>(g3l ((⟨ts⟩:SSchema),t,l.getD i dSValue,plain)).getD false
 have hp:∀i,i < l.length→g3l ((⟨ts⟩:SSchema),t,l.getD i dSValue,plain)=some (p i)∧g1q ((⟨ts⟩:SSchema),t,l.getD i dSValue,plain)=some (p i):=by
   intro i hi;obtain⟨r,h1,h2⟩:=ih _ (gg hi dSValue) t plain;simp only[p,h1,h2,Option.getD_some,and_self]
 have hf:=gbh (fun i=>g14 (l,(l.length:Int),(i:Int),ts,t,plain)) l.length (fun i=>!(p i)) (fun i=>.inl ((i:Int),ts,t,plain)) (.inr (ts,t,plain))
   (fun i hi=>by
     rw[g14,if_pos (by simp;omega),if_pos (g6 hi),gd5];simp only[SValue.gq,g7];rw[(hp i hi).1,gj (by omega)]
     rfl)
   (by rw[g14,if_neg (by simp)])
 have hs:=scan (fun i=>g1s (t,l,plain,(i:Int),ts)) l.length p (.inl false) (.inr ())
   (fun i hi=>by
     rw[g1s,if_pos (by simp;omega),if_pos (g6 hi)];simp only[SValue.gq,g7];rw[(hp i hi).2,gj (by omega)]
     cases p i <;> rfl)
   (by rw[g1s,if_neg (by simp)])
 have e1:g14 (l,(l.length:Int),((0:Nat):Int),ts,t,plain)=g14 (l,(l.length:Int),0,ts,t,plain):=rfl;have e2:g1s (t,l,plain,((0:Nat):Int),ts)=g1s (t,l,plain,0,ts):=rfl;simp only[e1]at hf;simp only[e2]at hs;rw[g5x,g2p,g48,g4e];rcases hf with⟨j,a1,a2,a3,a4⟩ | ⟨a1,a4⟩ <;> rcases hs with⟨b1,b2⟩ | ⟨b1,k,b2,b3⟩
 · have:=b2 j a1;simp[this]at a2
 · rw[a4,b1];refine⟨false,?_,rfl⟩;have e:decide ((0:Int)≤(j:Int))=true:=by simp
   simp only[oZ4,oZ3,e,Bool.not_true]
 · rw[a4,b1];exact⟨true,rfl,rfl⟩
 · have:=a1 k b2;simp[b3]at this
def restP(t:SType)(l:List SRaw)(i:Nat) :Bool:=
 !((g3n (t,(l.getD i dSRaw).ID)).getD (0,false)).2 && (decide (1≤(l.getD i dSRaw).ID) && decide ((l.getD i dSRaw).ID≤1000)) && (decide (i=0) || decide ((l.getD (i - 1) dSRaw).ID < (l.getD i dSRaw).ID))
theorem gxm {γ : Type} (kn f Z : Bool) (sI : Int) (I1 C : Int → Bool) (X Y : Option γ) (hI1 : Z = true → I1 sI = true) :
   ((if(!kn)=true then some f else some false) >>=fun r_17=>some (bif kn then true else(!r_17)) >>=fun t131=>some Z >>=fun t134=>some sI >>=fun t141=>
     if(I1 t141 || (!((!t131) && t134)))=true then if(bif t131 then true else bif t134 then C t141 else false)=true then X else Y else none)=if(!kn && f && (!Z || !(C sI)))=true then Y else X:=by
 simp only[oZ4,oZ3];generalize C sI=c;cases Z with
 | true=>rw[hI1 rfl];cases kn <;> cases f <;> cases c <;> rfl
 | false=>generalize I1 sI=d;cases kn <;> cases f <;> cases d <;> cases c <;> rfl
theorem gji {γ : Type} (R3 I0 Z : Bool) (sI : Int) (I1 C : Int → Bool) (X Y : Option γ) (hI0 : I0 = true) (hI1 : Z = true → I1 sI = true) :
   (some R3 >>=fun r_3=>some (!r_3) >>=fun t31=>some Z >>=fun t34=>
     if(I0 || (!((!t31) && t34)))=true then some sI >>=fun t43=>if(I1 t43 || (!((!t31) && t34)))=true then if(bif t31 then true else bif t34 then C t43 else false)=true then X else Y else none else none)=if(R3 && (!Z || !(C sI)))=true then Y else X:=by
 subst hI0;simp only[oZ4,oZ3];generalize C sI=c;cases Z with
 | true=>rw[hI1 rfl];cases R3 <;> cases c <;> rfl
 | false=>generalize I1 sI=d;cases R3 <;> cases d <;> cases c <;> rfl
theorem g7l{i:Nat}(h:0 < i)(h2:i < 9223372036854775807) :subI .i64 (i:Int) 1=((i - 1:Nat):Int):=by
 rw[g99 (by omega) (by omega)];omega
theorem rests {t : SType} (ht : t.Members.length < 9223372036854775807) (v : SValue) (hl : v.Rest.length ≤ reachBytes) (plain : Bool) (ts : List SType) :
   let inr:=(plain,ts,v.Kind,v.Bool_,v.Int_,v.Str,v.ID,v.Keys,v.Items,v.Rest,t.Kind,t.Name,t.Low,t.High,t.Max,t.Symbols,t.Members,t.Key,t.Elem,t.Open)
   ((g2x (plain,v.Rest,(v.Rest.length:Int),0,ts,v,t.Kind,t.Name,t.Low,t.High,t.Max,t.Symbols,t.Members,t.Key,t.Elem,t.Open)=some (.inr inr)∧g4s (t,v.Rest)=some true)∨
     (g2x (plain,v.Rest,(v.Rest.length:Int),0,ts,v,t.Kind,t.Name,t.Low,t.High,t.Max,t.Symbols,t.Members,t.Key,t.Elem,t.Open)=some (.inl false)∧g4s (t,v.Rest)=some false)):=by
 intro inr;have hr:=g13 hl;have hpe:∀i,i < v.Rest.length→∀r,g3n (t,(v.Rest.getD i dSRaw).ID)=some r→restP t v.Rest i=(!r.2 && (bif decide (1≤(v.Rest.getD i dSRaw).ID)then decide ((v.Rest.getD i dSRaw).ID≤1000)else false) && (!(decide ((0:Int) < (i:Int))) || !(decide ((v.Rest.getD i dSRaw).ID≤(v.Rest.getD (subI .i64 (i:Int) 1).toNat dSRaw).ID)))):=by
   intro i hi r hm;unfold restP;rw[hm,Option.getD_some];generalize (v.Rest.getD i dSRaw).ID=x;by_cases h0:i=0
   · subst h0;cases r.2 <;> by_cases h1:1≤x <;> by_cases h2:x≤1000 <;> simp[h1,h2]
   · have hz:decide ((0:Int) < (i:Int))=true:=by simp;omega
     rw[hz,g7l (by omega) (by omega),g7];generalize (v.Rest.getD (i - 1) dSRaw).ID=y;cases r.2 <;> by_cases h1:1≤x <;> by_cases h2:x≤1000 <;> by_cases h3:y < x <;> simp[h0,h1,h2,h3] <;> omega
 have h:=gic (fun i=>g2x (plain,v.Rest,(v.Rest.length:Int),(i:Int),ts,v,t.Kind,t.Name,t.Low,t.High,t.Max,t.Symbols,t.Members,t.Key,t.Elem,t.Open)) (fun i=>g1n (v.Rest,(i:Int),t)) v.Rest.length (restP t v.Rest) inr ()
   (fun i hi=>by
     obtain⟨r,h1,_,_⟩:=g4m (t:=t) (v.Rest.getD i dSRaw).ID ht;rw[g2x,if_pos (by simp;omega),if_pos (g6 hi),hpe i hi r h1];simp only[g7,ggf,SValue.gq,ga6,oZ4,oZ3];rw[h1,gj (by omega)]
     exact gxm r.2 (bif decide (1≤(v.Rest.getD i dSRaw).ID)then decide ((v.Rest.getD i dSRaw).ID≤1000)else false) (decide ((0:Int) < (i:Int))) (subI .i64 (i:Int) 1) (fun j=>inR j v.Rest.length) (fun j=>decide ((v.Rest.getD i dSRaw).ID≤(v.Rest.getD j.toNat dSRaw).ID)) _ _ (fun hz=>by
       have:0 < i:=by simp at hz;omega
       show inR _ _=true
       rw[g7l this (by omega)];exact g6 (by omega)))
   (by rw[g2x,if_neg (by simp)])
   (fun i hi=>by
     obtain⟨r,h1,h2,_⟩:=g4m (t:=t) (v.Rest.getD i dSRaw).ID ht;rw[g1n,if_pos (by simp;omega),if_pos (g6 hi),hpe i hi r h1];simp only[g7];rw[h2,gj (by omega)];have hid:g1h ((v.Rest.getD i dSRaw).ID,r.2)=some ((!r.2) && (bif decide (1≤(v.Rest.getD i dSRaw).ID)then decide ((v.Rest.getD i dSRaw).ID≤1000)else false)):=by
       rw[g1h];cases r.2 <;> cases decide (1≤(v.Rest.getD i dSRaw).ID) <;> rfl
     show(if inR (i:Int) v.Rest.length=true then g1h ((v.Rest.getD i dSRaw).ID,r.2) >>=_ else none)=_;rw[if_pos (g6 hi),hid]
     exact gji ((!r.2) && (bif decide (1≤(v.Rest.getD i dSRaw).ID)then decide ((v.Rest.getD i dSRaw).ID≤1000)else false)) (inR (i:Int) v.Rest.length) (decide ((0:Int) < (i:Int))) (subI .i64 (i:Int) 1) (fun j=>inR j v.Rest.length) (fun j=>decide ((v.Rest.getD i dSRaw).ID≤(v.Rest.getD j.toNat dSRaw).ID)) _ _ (g6 hi) (fun hz=>by
       have:0 < i:=by simp at hz;omega
       show inR _ _=true
       rw[g7l this (by omega)];exact g6 (by omega)))
   (by rw[g1n,if_neg (by simp)])
 have e1:g2x (plain,v.Rest,(v.Rest.length:Int),((0:Nat):Int),ts,v,t.Kind,t.Name,t.Low,t.High,t.Max,t.Symbols,t.Members,t.Key,t.Elem,t.Open)=g2x (plain,v.Rest,(v.Rest.length:Int),0,ts,v,t.Kind,t.Name,t.Low,t.High,t.Max,t.Symbols,t.Members,t.Key,t.Elem,t.Open):=rfl;have e2:g1n (v.Rest,((0:Nat):Int),t)=g1n (v.Rest,0,t):=rfl
 simp only[e1,e2]at h;rw[g4s];rcases h with⟨h1,h2,_⟩ | ⟨h1,h2,_⟩
 · exact .inl ⟨h1,by rw[h2];rfl⟩
 · exact .inr ⟨h1,by rw[h2];rfl⟩
end
end
section
open Go Go.Proofs.YthnmepafpikaiaaGreat.Shv
set_option maxRecDepth 100000
theorem gu4 {ts : List SType} {t : SType} {v : SValue} (hl : v.Items.length = t.Members.length) (hr : t.Members.length < 9223372036854775807) (ih : ∀ x, x ∈ v.Items → Fit ts x) (plain : Bool) :
   (g3a (plain,t.Members,(t.Members.length:Int),0,ts,v.Kind,v.Bool_,v.Int_,v.Str,v.ID,v.Keys,v.Items,v.Rest)=some (.inr ())∧g17 (plain,0,ts,v,t.Kind,t.Name,t.Low,t.High,t.Max,t.Symbols,t.Members,t.Key,t.Elem,t.Open)=some (.inr ()))∨
   (g3a (plain,t.Members,(t.Members.length:Int),0,ts,v.Kind,v.Bool_,v.Int_,v.Str,v.ID,v.Keys,v.Items,v.Rest)=some (.inl false)∧g17 (plain,0,ts,v,t.Kind,t.Name,t.Low,t.High,t.Max,t.Symbols,t.Members,t.Key,t.Elem,t.Open)=some (.inl false)):=by
 let p:Nat→Bool:=fun i=>(g3l ((⟨ts⟩:SSchema),(t.Members.getD i dSMember).Type_,v.Items.getD i dSValue,plain)).getD false
 have hp:∀i,i < t.Members.length→g3l ((⟨ts⟩:SSchema),(t.Members.getD i dSMember).Type_,v.Items.getD i dSValue,plain)=some (p i)∧g1q ((⟨ts⟩:SSchema),(t.Members.getD i dSMember).Type_,v.Items.getD i dSValue,plain)=some (p i):=by
   intro i hi;obtain⟨r,h1,h2⟩:=ih _ (gg (by omega:i < v.Items.length) dSValue) (t.Members.getD i dSMember).Type_ plain;simp only[p,h1,h2,Option.getD_some,and_self]
 have h:=gic (fun i=>g3a (plain,t.Members,(t.Members.length:Int),(i:Int),ts,v.Kind,v.Bool_,v.Int_,v.Str,v.ID,v.Keys,v.Items,v.Rest)) (fun i=>g17 (plain,(i:Int),ts,v,t.Kind,t.Name,t.Low,t.High,t.Max,t.Symbols,t.Members,t.Key,t.Elem,t.Open)) t.Members.length p () ()
   (fun i hi=>by
     rw[g3a,if_pos (by simp;omega),if_pos (g6 hi),if_pos (g6 (by omega))];simp only[g7,SValue.gq];rw[(hp i hi).1,gj (by omega)]
     cases p i <;> rfl)
   (by rw[g3a,if_neg (by simp)])
   (fun i hi=>by
     rw[g17,if_pos (by simp;omega),if_pos (g6 hi),if_pos (g6 (by omega))];simp only[g7,SValue.gq];rw[(hp i hi).2,gj (by omega)]
     cases p i <;> rfl)
   (by rw[g17,if_neg (by simp;omega)])
 have e1:g3a (plain,t.Members,(t.Members.length:Int),((0:Nat):Int),ts,v.Kind,v.Bool_,v.Int_,v.Str,v.ID,v.Keys,v.Items,v.Rest)=g3a (plain,t.Members,(t.Members.length:Int),0,ts,v.Kind,v.Bool_,v.Int_,v.Str,v.ID,v.Keys,v.Items,v.Rest):=rfl
 have e2:g17 (plain,((0:Nat):Int),ts,v,t.Kind,t.Name,t.Low,t.High,t.Max,t.Symbols,t.Members,t.Key,t.Elem,t.Open)=g17 (plain,0,ts,v,t.Kind,t.Name,t.Low,t.High,t.Max,t.Symbols,t.Members,t.Key,t.Elem,t.Open):=rfl;simp only[e1,e2]at h;rcases h with⟨h1,h2,_⟩ | ⟨h1,h2,_⟩
 · exact .inl ⟨h1,h2⟩
 · exact .inr ⟨h1,h2⟩
theorem gcd{v:SValue}(h:OkV v) :I64 v.Int_:=by cases h with | mk _ _ _ _ _ _ _ _ n1 n2=>exact n2
theorem gw5 {ts : List SType} {t : SType} {v : SValue} (hr : v.Keys.length < 9223372036854775807) (hk : ∀ x, x ∈ v.Keys → OkV x) (plain : Bool) :
   let inr:=(plain,ts,v,t.Kind,t.Name,t.Low,t.High,t.Max,t.Symbols,t.Members,t.Key,t.Elem,t.Open)
   (g2n (plain,1,ts,v,t.Kind,t.Name,t.Low,t.High,t.Max,t.Symbols,t.Members,t.Key,t.Elem,t.Open)=some (.inr inr)∧g11 (1,v)=some (.inr ()))∨
   (g2n (plain,1,ts,v,t.Kind,t.Name,t.Low,t.High,t.Max,t.Symbols,t.Members,t.Key,t.Elem,t.Open)=some (.inl false)∧g11 (1,v)=some (.inl false)):=by
 intro inr;by_cases h0:v.Keys.length=0
 · left;refine⟨?_,?_⟩
   · rw[g2n,if_neg (by simp[h0]),SValue.gq]
   · rw[g11,if_neg (by simp[h0])]
 let c:Nat→Int:=fun i=>(g5q (v.Keys.getD i dSValue,v.Keys.getD (i+1) dSValue)).getD 0
 have hc:∀i,i+1 < v.Keys.length→g5q (v.Keys.getD i dSValue,v.Keys.getD (i+1) dSValue)=some (c i)∧g2r (v.Keys.getD i dSValue,v.Keys.getD (i+1) dSValue)=some (c i):=by
   intro i hi;obtain⟨r,h1,h2⟩:=gdb (gcd (hk _ (gg (by omega:i < v.Keys.length) dSValue))) (gcd (hk _ (gg hi dSValue)));simp only[c,h1,h2,Option.getD_some,and_self]
 have h:=gic (fun i=>g2n (plain,((i+1:Nat):Int),ts,v,t.Kind,t.Name,t.Low,t.High,t.Max,t.Symbols,t.Members,t.Key,t.Elem,t.Open)) (fun i=>g11 (((i+1:Nat):Int),v)) (v.Keys.length - 1) (fun i=>!(decide (0≤c i))) inr ()
   (fun i hi=>by
     have hs:=g7l (i:=i+1) (by omega) (by omega);have hs':subI .i64 ((i+1:Nat):Int) 1=(i:Int):=by rw[hs];simp
     rw[g2n,if_pos (by simp;omega)];simp only[oZ4,oZ3];rw[hs',if_pos (g6 (by omega)),if_pos (g6 (by omega))];simp only[g7,SValue.gq];rw[(hc i (by omega)).1,gj (by omega)];simp only[oZ3]
     cases decide (0≤c i) <;> rfl)
   (by
     have e:v.Keys.length - 1+1=v.Keys.length:=by omega
     rw[e,g2n,if_neg (by simp),SValue.gq])
   (fun i hi=>by
     have hs:=g7l (i:=i+1) (by omega) (by omega);have hs':subI .i64 ((i+1:Nat):Int) 1=(i:Int):=by rw[hs];simp
     rw[g11,if_pos (by simp;omega)];simp only[oZ4,oZ3];rw[hs',if_pos (g6 (by omega)),if_pos (g6 (by omega))];simp only[g7,SValue.gq];rw[(hc i (by omega)).2,gj (by omega)];simp only[oZ3]
     cases decide (0≤c i) <;> rfl)
   (by
     have e:v.Keys.length - 1+1=v.Keys.length:=by omega
     rw[e,g11,if_neg (by simp)])
 have e1:g2n (plain,((0+1:Nat):Int),ts,v,t.Kind,t.Name,t.Low,t.High,t.Max,t.Symbols,t.Members,t.Key,t.Elem,t.Open)=g2n (plain,1,ts,v,t.Kind,t.Name,t.Low,t.High,t.Max,t.Symbols,t.Members,t.Key,t.Elem,t.Open):=rfl;have e2:g11 (((0+1:Nat):Int),v)=g11 (1,v):=rfl;simp only[e1,e2]at h;rcases h with⟨h1,h2,_⟩ | ⟨h1,h2,_⟩
 · exact .inl ⟨h1,h2⟩
 · exact .inr ⟨h1,h2⟩
theorem glv{α β:Type}{a:List α}{b:List β}(h:decide ((a.length:Int)=(b.length:Int))=true) :a.length=b.length:=by
 have:=of_decide_eq_true h;omega
theorem k4e {o : Option (Int × Bool)} {r : Int × Bool} (ho : o = some r) (O plain f : Bool) :
   (o >>=fun r_1=>some (bif O then(!plain)else false) >>=fun t85=>(if((!r_1.2) && t85)=true then some f else some false) >>=fun r_4=>some (bif r_1.2 then true else bif t85 then r_4 else false))=some (r.2 || (O && !plain && f)):=by
 subst ho;obtain⟨k,kn⟩:=r;cases kn <;> cases O <;> cases plain <;> cases f <;> rfl
theorem k4r {o : Option (Int × Bool)} {r : Int × Bool} (ho : o = some r) (O plain f : Bool) (F : Bool → Option Bool) (hF : F false = some f) :
   (o >>=fun r_1=>some (bif O then(!plain)else false) >>=fun t85=>(if((!r_1.2) && t85)=true then F r_1.2 else some false) >>=fun r_4=>some (bif r_1.2 then true else bif t85 then r_4 else false))=some (r.2 || (O && !plain && f)):=by
 subst ho;obtain⟨k,kn⟩:=r;cases kn <;> cases O <;> cases plain <;> simp[hF]
theorem k7{o:Option Bool}{r:Bool}(ho:o=some r)(q:Bool) :(some q >>=fun t244=>(if t244=true then o else some false) >>=fun r_10=>some (bif t244 then r_10 else false))=some (q && r):=by
 subst ho;cases q <;> cases r <;> rfl
theorem k6k(c I1 I2 f:Bool){X:Option Bool}(hX:c=true→X=some f)(h1:c=true→I1=true∧I2=true) :(some c >>=fun t188=>if(I1 || (!t188))=true then if(I2 || (!t188))=true then(if t188=true then X else some false) >>=fun r_8=>some (bif t188 then r_8 else false)else none else none)=some (c && f):=by
 cases c with
 | true=>obtain⟨a,b⟩:=h1 rfl;subst a;subst b;rw[hX rfl];rfl
 | false=>cases I1 <;> cases I2 <;> rfl
theorem k5r (A b q m : Bool) {ro : Option Bool} (hr : ro = some q) {L : Option (Bool ⊕ Unit)} (hL : A = true → L = some (if m = true then .inr () else .inl false)) :
   (if(bif (bif false then true else(!true))then true else b)=true then some false else some (!A) >>=fun t107=>(if(!t107)=true then ro else some false) >>=fun r_5=>if(bif t107 then true else(!r_5))=true then some false else L >>=fun o=>match o with | .inl x=>some x | .inr _=>some true)=some (A && !b && q && m):=by
 subst hr;cases A with
 | false=>cases b <;> rfl
 | true=>
   rw[hL rfl];cases b <;> cases q <;> cases m <;> rfl
theorem k6u(g f c1 c2 I E:Bool)(h1:c2=true→I=true) :(some g >>=fun t209=>(if t209=true then some f else some false) >>=fun r_9=>some (bif bif bif t209 then r_9 else false then c1 else false then c2 else false) >>=fun t226=>if(I || (!t226))=true then some (bif t226 then E else false)else none)=some (g && f && c1 && c2 && E):=by
 cases c2 with
 | true=>have:=h1 rfl;subst this;cases g <;> cases f <;> cases c1 <;> cases E <;> rfl
 | false=>cases g <;> cases f <;> cases c1 <;> cases I <;> rfl
theorem k8r (c : Bool) {ok oi : Option Bool} {k i : Bool} (hk : ok = some k) (hi : oi = some i) {L : Option (Bool ⊕ Unit)} {q : Bool} (hL : L = some (if q = true then .inr () else .inl false)) :
   (some c >>=fun t239=>(if(!t239)=true then ok else some false) >>=fun r_12=>some (bif t239 then true else(!r_12)) >>=fun t249=>(if(!t249)=true then oi else some false) >>=fun r_13=>if(bif t249 then true else(!r_13))=true then some false else L >>=fun o_3=>match o_3 with | .inl o_4=>some o_4 | .inr _=>some true)=some (!c && k && q && i):=by
 subst hk;subst hi;subst hL;cases c <;> cases k <;> cases q <;> cases i <;> rfl
theorem gnl{ts:List SType}(hn:ts.length < 9223372036854775807)(hT:∀t,t∈ts→OkT t)(hK:∀t,t∈ts→gae t.Kind){v:SValue}(hv:OkV v) :Fit ts v:=by
 induction hv with
 | mk v hs h1 h2 h3 hk hi hrd n1 n2 n3 n4 ihk ihi=>
   intro t plain;rw[g3l,g1q];by_cases hout:(bif decide (t < 0)then true else decide (((⟨ts⟩:SSchema).Types.length:Int)≤t))=true
   · rw[if_pos hout,if_pos hout];exact⟨false,rfl,rfl⟩
   · rw[if_neg hout,if_neg hout];have hin:0≤t∧t < ts.length:=by
       simp only[Bool.cond_eq_ite]at hout;by_cases h0:t < 0
       · simp[h0]at hout
       · simp[h0]at hout;omega
     obtain⟨j,rfl⟩:∃j:Nat,t=(j:Int):=⟨t.toNat,by omega⟩
     have hj:j < ts.length:=by omega
     rw[if_pos (g6 hj),if_pos (g6 hj)];simp only[g7,SValue.gq];have hxT:=hT _ (gg hj dSType);have hxK:=hK _ (gg hj dSType);generalize ts.getD j dSType=x at hxT hxK ⊢;have hm:=g13 (g3v hxT.mems);have hsy:=g13 (g3v hxT.syms);by_cases hkd:v.Kind=x.Kind
     · obtain⟨p,p1,p2,p3⟩:=gra (v:=v) (by rw[hkd];exact hxK);rw[p1,p2];cases p with
       | false=>exact⟨false,by simp[hkd],by simp[hkd]⟩
       | true=>
         have hitems:=gnk (ts:=ts) h2 ihi;have hkeys:=gnk (ts:=ts) h1 ihk;obtain⟨K,N,L,H,M,S,Ms,Ke,E,O⟩:=x;obtain⟨vK,B,I,Sx,ID,Ks,Is,R⟩:=v;simp only at hkd;subst hkd;have p3':=p3 rfl;simp only at p3' hxK hm hsy h1 h2 h3;have hc:vK=1∨vK=2∨vK=3∨vK=4∨vK=5∨vK=6∨vK=7∨vK=8∨vK=9:=by unfold gae at hxK;omega
         rcases hc with rfl | rfl | rfl | rfl | rfl | rfl | rfl | rfl | rfl
         · obtain rfl:R=[]:=p3' (by decide) (by decide);cases plain <;> exact⟨true,rfl,rfl⟩
         · obtain rfl:R=[]:=p3' (by decide) (by decide);cases plain <;> exact⟨_,rfl,rfl⟩
         · obtain rfl:R=[]:=p3' (by decide) (by decide);cases plain <;> exact⟨_,rfl,rfl⟩
         · obtain rfl:R=[]:=p3' (by decide) (by decide);obtain⟨r,r1,r2,_⟩:=gei (t:=⟨4,N,L,H,M,S,Ms,Ke,E,O⟩) ID hsy;have hf:g1h (ID,false)=some (bif decide (1≤ID)then decide (ID≤1000)else false):=by
             rw[g1h];cases decide (1≤ID) <;> rfl
           cases plain
           · exact⟨_,k4e r1 O false _,k4r r2 O false _ (fun b=>g1h (ID,b)) hf⟩
           · exact⟨_,k4e r1 O true _,k4r r2 O true _ (fun b=>g1h (ID,b)) hf⟩
         ·
           have hrs:=rests (t:=⟨5,N,L,H,M,S,Ms,Ke,E,O⟩) hm ⟨5,B,I,Sx,ID,Ks,Is,R⟩ h3 plain ts;have hps:decide ((Is.length:Int)=(Ms.length:Int))=true→_:=fun hA=>gu4 (ts:=ts) (t:=⟨5,N,L,H,M,S,Ms,Ke,E,O⟩) (v:=⟨5,B,I,Sx,ID,Ks,Is,R⟩) (glv hA) hm ihi plain
           have hq:∃q:Bool,g2x (plain,R,(R.length:Int),0,ts,⟨5,B,I,Sx,ID,Ks,Is,R⟩,5,N,L,H,M,S,Ms,Ke,E,O)=some (if q=true then .inr (plain,ts,5,B,I,Sx,ID,Ks,Is,R,5,N,L,H,M,S,Ms,Ke,E,O)else .inl false)∧g4s (⟨5,N,L,H,M,S,Ms,Ke,E,O⟩,R)=some q:=by
             rcases hrs with⟨a,b⟩ | ⟨a,b⟩
             · exact⟨true,a,b⟩
             · exact⟨false,a,b⟩
           obtain⟨q,q1,q2⟩:=hq;have hmm:∃m:Bool,decide ((Is.length:Int)=(Ms.length:Int))=true→(g3a (plain,Ms,(Ms.length:Int),0,ts,5,B,I,Sx,ID,Ks,Is,R)=some (if m=true then .inr ()else .inl false)∧g17 (plain,0,ts,⟨5,B,I,Sx,ID,Ks,Is,R⟩,5,N,L,H,M,S,Ms,Ke,E,O)=some (if m=true then .inr ()else .inl false)):=by
             cases hA:decide ((Is.length:Int)=(Ms.length:Int))with
             | false=>exact⟨true,fun h=>by cases h⟩
             | true=>
               rcases hps hA with⟨a,b⟩ | ⟨a,b⟩
               · exact⟨true,fun _=>⟨a,b⟩⟩
               · exact⟨false,fun _=>⟨a,b⟩⟩
           obtain⟨m,hm'⟩:=hmm;refine⟨(decide ((Is.length:Int)=(Ms.length:Int))) && !(bif plain then decide (0 < (R.length:Int))else false) && q && m,?_,?_⟩
           · show(if(bif (!(decide ((Is.length:Int)=(Ms.length:Int))))then true else bif plain then decide (0 < (R.length:Int))else false)=true then some false else g2x (plain,R,(R.length:Int),0,ts,⟨5,B,I,Sx,ID,Ks,Is,R⟩,5,N,L,H,M,S,Ms,Ke,E,O) >>=_)=_;rw[q1];cases hA:decide ((Is.length:Int)=(Ms.length:Int))with
             | false=>rfl
             | true=>
               cases (bif plain then decide (0 < (R.length:Int))else false)with
               | true=>rfl
               | false=>
                 cases q with
                 | false=>rfl
                 | true=>
                   show(g3a (plain,Ms,(Ms.length:Int),0,ts,5,B,I,Sx,ID,Ks,Is,R) >>=_)=_;rw[(hm' hA).1];cases m <;> rfl
           · exact k5r (decide ((Is.length:Int)=(Ms.length:Int))) (bif plain then decide (0 < (R.length:Int))else false) q m q2 (fun hA=>(hm' hA).2)
         ·
           obtain⟨r,r1,r2,hf⟩:=g4m (t:=⟨6,N,L,H,M,S,Ms,Ke,E,O⟩) ID hm;have hid:∀b,b=false→g1h (ID,b)=some (bif decide (1≤ID)then decide (ID≤1000)else false):=by
             intro b hb;subst hb;rw[g1h];cases decide (1≤ID) <;> rfl
           have hX:∃f:Bool,(bif decide ((Is.length:Int)=1)then decide ((R.length:Int)=0)else false)=true→(g3l ((⟨ts⟩:SSchema),(Ms.getD r.1.toNat dSMember).Type_,Is.getD (0:Int).toNat dSValue,plain)=some f∧g1q ((⟨ts⟩:SSchema),(Ms.getD r.1.toNat dSMember).Type_,Is.getD (0:Int).toNat dSValue,plain)=some f):=by
             by_cases h1':Is.length=1
             · obtain⟨f,f1,f2⟩:=ihi (Is.getD 0 dSValue) (gg (by omega:0 < Is.length) dSValue) (Ms.getD r.1.toNat dSMember).Type_ plain;exact⟨f,fun _=>⟨f1,f2⟩⟩
             · refine⟨false,fun h=>?_⟩
               exfalso
               have:decide ((Is.length:Int)=1)=false:=by simp;omega
               rw[this]at h;cases h
           obtain⟨f,hfX⟩:=hX;have hidx:r.2=true→(bif decide ((Is.length:Int)=1)then decide ((R.length:Int)=0)else false)=true→inR r.1 Ms.length=true∧inR 0 Is.length=true:=by
             intro h6 hc';constructor
             · rcases hf with⟨k,k1,_,_,rfl⟩ | ⟨_,rfl⟩
               · exact g6 k1
               · cases h6
             · by_cases h1':Is.length=1
               · exact g6 (k:=0) (by omega)
               · have:decide ((Is.length:Int)=1)=false:=by simp;omega
                 rw[this]at hc';cases hc'
           have hR0:decide ((R.length:Int)=1)=true→inR 0 R.length=true:=by
             intro h;have:=of_decide_eq_true h;exact g6 (k:=0) (by omega)
           obtain⟨ri,rk⟩:=r;refine⟨if rk=true then(bif decide ((Is.length:Int)=1)then decide ((R.length:Int)=0)else false) && f else(bif O then(!plain)else false) && (bif decide (1≤ID)then decide (ID≤1000)else false) && decide ((Is.length:Int)=0) && decide ((R.length:Int)=1) && decide ((R.getD (0:Int).toNat dSRaw).ID=ID),?_,?_⟩
           · show(g3n (⟨6,N,L,H,M,S,Ms,Ke,E,O⟩,ID) >>=_)=_;rw[r1];cases rk with
             | true=>exact k6k _ (inR ri Ms.length) (inR 0 Is.length) f (fun h=>(hfX h).1) (hidx rfl)
             | false=>exact k6u (bif O then(!plain)else false) (bif decide (1≤ID)then decide (ID≤1000)else false) (decide ((Is.length:Int)=0)) (decide ((R.length:Int)=1)) (inR 0 R.length) (decide ((R.getD (0:Int).toNat dSRaw).ID=ID)) hR0
           · show(if(bif (bif false then true else(!true))then true else(bif plain then decide (0 < (R.length:Int))else false))=true then some false else g1l (⟨6,N,L,H,M,S,Ms,Ke,E,O⟩,ID) >>=_)=_;rw[r2];cases hb0:(bif plain then decide (0 < (R.length:Int))else false)with
             | true=>
               have hpl:plain=true:=by
                 cases plain with
                 | true=>rfl
                 | false=>cases hb0
               subst hpl;have hRl:decide ((R.length:Int)=0)=false:=by
                 have:=of_decide_eq_true (show decide (0 < (R.length:Int))=true from hb0);simp;intro e;rw[e]at this;simp at this
               rw[hRl];cases rk with
               | true=>cases decide ((Is.length:Int)=1) <;> rfl
               | false=>cases O <;> rfl
             | false=>
               cases rk with
               | true=>exact k6k _ (inR ri Ms.length) (inR 0 Is.length) f (fun h=>(hfX h).2) (hidx rfl)
               | false=>exact k6u (bif O then(!plain)else false) (bif decide (1≤ID)then decide (ID≤1000)else false) (decide ((Is.length:Int)=0)) (decide ((R.length:Int)=1)) (inR 0 R.length) (decide ((R.getD (0:Int).toNat dSRaw).ID=ID)) hR0
         · obtain rfl:R=[]:=p3' (by decide) (by decide);obtain⟨r,r1,r2⟩:=hitems E plain;cases plain
           · exact⟨_,k7 r1 _,k7 r2 _⟩
           · exact⟨_,k7 r1 _,k7 r2 _⟩
         · obtain rfl:R=[]:=p3' (by decide) (by decide);obtain⟨k,k1,k2⟩:=hkeys Ke plain;obtain⟨i,i1,i2⟩:=hitems E plain;have hks:=gw5 (ts:=ts) (t:=⟨8,N,L,H,M,S,Ms,Ke,E,O⟩) (v:=⟨8,B,I,Sx,ID,Ks,Is,[]⟩) (g13 h1) hk plain
           obtain⟨q,qa,qb⟩:∃q:Bool,g2n (plain,1,ts,⟨8,B,I,Sx,ID,Ks,Is,[]⟩,8,N,L,H,M,S,Ms,Ke,E,O)=some (if q=true then .inr (plain,ts,⟨8,B,I,Sx,ID,Ks,Is,[]⟩,8,N,L,H,M,S,Ms,Ke,E,O)else .inl false)∧g11 (1,⟨8,B,I,Sx,ID,Ks,Is,[]⟩)=some (if q=true then .inr ()else .inl false):=by
             rcases hks with⟨a,b⟩ | ⟨a,b⟩
             · exact⟨true,a,b⟩
             · exact⟨false,a,b⟩
           refine⟨!(bif decide (M < (Ks.length:Int))then true else(!(decide ((Is.length:Int)=(Ks.length:Int))))) && k && q && i,?_,?_⟩
           · show(some (bif decide (M < (Ks.length:Int))then true else(!(decide ((Is.length:Int)=(Ks.length:Int))))) >>=fun t270=>(if(!t270)=true then g5x ((⟨ts⟩:SSchema),Ke,Ks,plain)else some false) >>=fun r_11=>if(bif t270 then true else(!r_11))=true then some false else g2n (plain,1,ts,⟨8,B,I,Sx,ID,Ks,Is,[]⟩,8,N,L,H,M,S,Ms,Ke,E,O) >>=_)=_
             rw[k1,qa];cases (bif decide (M < (Ks.length:Int))then true else(!(decide ((Is.length:Int)=(Ks.length:Int)))))with
             | true=>rfl
             | false=>
               cases k with
               | false=>rfl
               | true=>
                 cases q with
                 | false=>rfl
                 | true=>
                   show(g5x ((⟨ts⟩:SSchema),E,Is,plain) >>=fun r_12=>some r_12)=_;rw[i1];cases i <;> rfl
           · cases plain
             · exact k8r (bif decide (M < (Ks.length:Int))then true else(!(decide ((Is.length:Int)=(Ks.length:Int))))) k2 i2 qb
             · exact k8r (bif decide (M < (Ks.length:Int))then true else(!(decide ((Is.length:Int)=(Ks.length:Int))))) k2 i2 qb
         · obtain rfl:R=[]:=p3' (by decide) (by decide);obtain⟨r,r1,r2⟩:=hitems E plain;cases plain
           · exact⟨_,k7 r1 _,k7 r2 _⟩
           · exact⟨_,k7 r1 _,k7 r2 _⟩
     · exact⟨false,by simp[hkd],by simp[hkd]⟩
end
section
open Go Go.Proofs.YthnmepafpikaiaaGreat.Shv
set_option maxRecDepth 100000
theorem ggh{U:Uni}{t:Ty}{l:List (t.den U.D)}(h:WF U ⟨.slice t,l⟩) :l.length≤reachBytes∧l.length*t.bytes U≤reachBytes∧∀x,x∈l→∀c,c∈t.row U x→WF U c:=by
 cases h with | slice t l h1 h2 h3=>exact⟨h1,h2,h3⟩
end
section
open Go Go.Proofs.YthnmepafpikaiaaGreat.Shv
set_option maxRecDepth 100000
theorem gc4(s:SSchema) :(⟨s.Types⟩:SSchema)=s:=by cases s;rfl
theorem gu5 {s : SSchema} (hs : s.Types.length ≤ reachBytes) (hT : ∀ t, t ∈ s.Types → OkT t) {v : SValue} (hv : OkV v) (t : Int) :
   ∃e,g3q (s,t,v)=some e∧g55 (s,t,v)=some e∧
     (e=0→s.Types.length≤32∧(∀i,i < s.Types.length→stepV s.Types i=none)∧0≤t∧t < s.Types.length∧g3l (s,t,v,false)=some true):=by
 obtain⟨e,e1,e2,e3⟩:=gu2 hs hT;rw[g3q,g8v,g55];simp only[gc4,SValue.gq];rw[e1,e2];by_cases h0:e=0
 · subst h0;obtain⟨h32,hst⟩:=e3 rfl;by_cases hout:(bif decide (t < 0)then true else decide ((s.Types.length:Int)≤t))=true
   · refine⟨4,?_,?_,fun h=>by cases h⟩
     · show((if(bif decide (t < 0)then true else decide ((s.Types.length:Int)≤t))=true then some (4:Int)else some 0) >>=_)=_;rw[if_pos hout];rfl
     · show(if(bif decide (t < 0)then true else decide ((s.Types.length:Int)≤t))=true then some (4:Int)else _)=_;rw[if_pos hout]
   · have hk:=gu3 hT hst;obtain⟨r,r1,r2⟩:=gnl (by omega) hT hk hv t false;rw[gc4]at r1 r2;have hin:0≤t∧t < s.Types.length:=by
       simp only[Bool.cond_eq_ite]at hout;by_cases h0:t < 0
       · simp[h0]at hout
       · simp[h0]at hout;omega
     refine⟨if(!r)=true then 1 else 0,?_,?_,?_⟩
     · show((if(bif decide (t < 0)then true else decide ((s.Types.length:Int)≤t))=true then some (4:Int)else some 0) >>=_)=_;rw[if_neg hout];show(g8w (s,t,v) >>=_)=_;rw[g8w];simp only[gc4,SValue.gq];rw[r1];cases r <;> rfl
     · show(if(bif decide (t < 0)then true else decide ((s.Types.length:Int)≤t))=true then some (4:Int)else _)=_;rw[if_neg hout];show(g9m (s,t,v) >>=_)=_;rw[g9m];simp only[SValue.gq];rw[r2];cases r <;> rfl
     · intro h;cases r with
       | false=>simp at h
       | true=>exact⟨h32,hst,hin.1,hin.2,r1⟩
 · have hd:(!(decide (e=0)))=true:=by simp[h0]
   refine⟨e,?_,?_,fun h=>absurd h h0⟩
   · show((if(!(decide (e=0)))=true then some e else _) >>=fun r=>if(!(decide (r=0)))=true then some r else _)=_;rw[if_pos hd];show(if(!(decide (e=0)))=true then some e else _)=_;rw[if_pos hd]
   · show(if(!(decide (e=0)))=true then some e else _)=_;rw[if_pos hd]
end
section
open Go Go.Proofs.YthnmepafpikaiaaGreat.Shv
set_option maxRecDepth 100000
def vbig(n:Nat) :List UInt8:=if n=0 then[]else vbig (n / 256)++[UInt8.ofNat (n % 256)]
termination_by n
decreasing_by omega
theorem gpw{α:Type} :∀(l:List α) (k:Nat) (x:α),k < l.length→(l.set k x).drop k=x::l.drop (k+1)
 | [],k,x,h=>by simp at h
 | a::l,0,x,h=>by simp
 | a::l,k+1,x,h=>by simp[gpw l k x (by simpa using h)]
theorem shrI8(n:Nat) :shrI .u64 (n:Int) 8=((n / 256:Nat):Int):=by
 unfold shrI;have:((2:Int) ^ min (8:Int).toNat IntKind.u64.bits)=256:=by decide
 rw[this,Int.fdiv_eq_ediv_of_nonneg _ (by omega)];omega
theorem gw6 :∀(i n:Nat) (b:List Int),n < 256 ^ i→i≤8→b.length=8→∃(i':Nat) (b':List Int),g5r ((n:Int),(i:Int),b)=some ((i':Int),b')∧i'≤8∧b'.length=8∧strOf (b'.drop i')=vbig n++strOf (b.drop i)
 | i,n,b,hn,hi,hb=>by
   rw[g5r];by_cases h0:n=0
   · subst h0;rw[if_neg (by simp)];refine⟨i,b,rfl,hi,hb,?_⟩;rw[vbig,if_pos rfl];rfl
   · rw[if_pos (by simp;omega)]
     match i,hn,hi with
     | 0,hn,hi=>simp at hn;omega
     | i+1,hn,hi=>
       have hs:subI .i64 ((i+1:Nat):Int) 1=(i:Int):=by rw[g99 (by omega) (by omega)];omega
       simp only[oZ4,oZ3];rw[hs,if_pos (g6 (by omega)),if_pos (by simp[hb];omega),shrI8,wrp8,g7];have hlt:n / 256 < 256 ^ i:=by
         rw[Nat.div_lt_iff_lt_mul (by omega)];rw[Nat.pow_succ]at hn;exact hn
       obtain⟨i',b',h1,h2,h3,h4⟩:=gw6 i (n / 256) (b.set i ((n % 256:Nat):Int)) hlt (by omega) (by simp[hb]);refine⟨i',b',h1,h2,h3,?_⟩;rw[h4,gpw _ _ _ (by omega),gtw]
       conv=>rhs;rw[vbig,if_neg h0]
       rw[List.append_assoc];rfl
theorem gw7{n:Nat}(hn:n < 18446744073709551616) :ga9 (n:Int)=some (vbig n):=by
 have e:(256:Nat) ^ 8=18446744073709551616:=by decide
 obtain⟨i',b',h1,h2,h3,h4⟩:=gw6 8 n [0,0,0,0,0,0,0,0] (by rw[e];exact hn) (by omega) rfl;have h1':g5r ((n:Int),8,[0,0,0,0,0,0,0,0])=some ((i':Int),b'):=h1;rw[ga9,h1'];simp only[oZ4,oZ3,g7];have hsl:slR (i':Int) 8 8=true:=g8t (b:=8) (by omega) (by omega);have h8:(8:Int).toNat=8:=rfl
 rw[if_pos hsl,h8,if_pos (by simp[subR,h3];omega)];rw[List.take_of_length_le (by simp[h3]),h4];simp[strOf]
theorem gk6 :∀(f n:Nat),n < 256 ^ f→(vbig n).length≤f
 | 0,n,h=>by
   have:n=0:=by simpa using h
   subst this;rw[vbig,if_pos rfl];simp
 | f+1,n,h=>by
   rw[vbig];split
   · simp
   · have:=gk6 f (n / 256) (by
       rw[Nat.div_lt_iff_lt_mul (by omega)]
       rw[Nat.pow_succ]at h;exact h)
     simp;omega
theorem gnm :∀(f n:Nat) (out:List UInt8),n < 256 ^ f→n < 18446744073709551616→out.length+f≤1000→g6r ((n:Int),out)=some (vbig n++out)
 | f,n,out,hn,h64,ho=>by
   rw[g6r];by_cases h0:n=0
   · subst h0;rw[if_neg (by simp),vbig,if_pos rfl];rfl
   · rw[if_pos (by simp;omega)]
     match f,hn,ho with
     | 0,hn,ho=>simp at hn;omega
     | f+1,hn,ho=>
       have hrem:remI (n:Int) 256=((n % 256:Nat):Int):=remIn (b:=256);have hq:quoI .u64 (n:Int) 256=((n / 256:Nat):Int):=by
         unfold quoI;have e:(n:Int).tdiv 256=((n / 256:Nat):Int):=by rw[Int.tdiv_eq_ediv_of_nonneg (by omega)];omega
         rw[e];exact wrapu (by omega) (by omega)
       have hone:strOf [((n % 256 % 256:Nat):Int)]=[UInt8.ofNat (n % 256)]:=by
         have:n % 256 % 256=n % 256:=by omega
         rw[this];rfl
       simp only[oZ4,oZ3];rw[hrem,hq,wrp8,hone,if_pos (g2k (by simp;omega))];have hlt:n / 256 < 256 ^ f:=by
         rw[Nat.div_lt_iff_lt_mul (by omega)];rw[Nat.pow_succ]at hn;exact hn
       rw[gnm f (n / 256) _ hlt (by omega) (by simp;omega)]
       conv=>rhs;rw[vbig,if_neg h0]
       rw[List.append_assoc]
theorem gnn{n:Nat}(hn:n < 18446744073709551616) :g85 (n:Int)=some (vbig n):=by
 have e:(256:Nat) ^ 8=18446744073709551616:=by decide
 rw[g85,gnm 8 n [] (by rw[e];exact hn) hn (by simp)];simp
end
section
open Go Go.Proofs.YthnmepafpikaiaaGreat.Shv Go.Sort
set_option maxRecDepth 100000
section
variable {α:Type}
theorem gpx{β γ:Type}{f g:β→List γ} :∀{l:List β},(∀x,x∈l→f x=g x)→l.flatMap f=l.flatMap g
 | [],_=>rfl
 | x::l,h=>by
   simp only[List.flatMap_cons];rw[h x (.head _),gpx fun y hy=>h y (.tail _ hy)]
theorem glw(x:α)(n:Nat)(f:Nat→List α) :∀(ks:List Nat),ks.Nodup→n∈ks→(ks.flatMap fun i=>if n=i then x::f i else f i).Perm (x::ks.flatMap f)
 | [],_,h=>by cases h
 | k::ks,hn,h=>by
   rw[List.nodup_cons]at hn;simp only[List.flatMap_cons];by_cases e:n=k
   · rw[if_pos e];have:(ks.flatMap fun i=>if n=i then x::f i else f i)=ks.flatMap f:=gpx fun y hy=>by
       rw[if_neg];rintro rfl;subst e;exact hn.1 hy
     rw[this];exact .refl _
   · rw[if_neg e];have hm:n∈ks:=(List.mem_cons.1 h).resolve_left e;refine((glw x n f ks hn.2 hm).append_left (f k)).trans ?_;exact List.perm_middle
theorem glx(key:α→Nat)(ks:List Nat)(hn:ks.Nodup) :∀l:List α,(∀x,x∈l→key x∈ks)→(ks.flatMap fun i=>l.filter fun x=>decide (key x=i)).Perm l
 | [],_=>by simp
 | x::l,h=>by
   have e:(fun i=>(x::l).filter fun y=>decide (key y=i))=fun i=>if key x=i then x::(l.filter fun y=>decide (key y=i))else l.filter fun y=>decide (key y=i):=by
     funext i
     by_cases e:key x=i <;> simp[e]
   rw[e];exact(glw x (key x) _ ks hn (h x (.head _))).trans ((glx key ks hn l fun y hy=>h y (.tail _ hy)).cons x)
theorem gpy(key:α→Nat)(a n:Nat)(l:List α) :((List.range' a n).flatMap fun i=>l.filter fun x=>decide (key x=i)).Pairwise (fun x y=>decide (key y < key x)=false):=by
 rw[List.pairwise_flatMap];constructor
 · intro i hi;rw[List.pairwise_iff_forall_sublist];intro x y hs;have hx:=hs.subset (.head _);have hy:=hs.subset (.tail _ (.head _));simp at hx hy ⊢;omega
 · refine(List.pairwise_lt_range' (s:=a) (n:=n)).imp ?_;intro i j hij x hx y hy;simp at hx hy ⊢;omega
theorem gpz{α β:Type}[Inhabited α][Inhabited β]{lt:α→α→Bool}{lt':β→β→Bool}(g:α→β)(h:∀a b,lt' (g a) (g b)=lt a b) :∀l,isoB lt' (l.map g)=(isoB lt l).map g
 | []=>rfl
 | x::l=>by
   have key:∀r,insB lt' (g x) (r.map g)=(insB lt x r).map g:=by
     intro r
     induction r with
     | nil=>rfl
     | cons y r ih=>
       simp only[insB,List.map];rw[h];split
       · rfl
       · simp[ih]
   simp only[isoB,List.map];rw[gpz g h l,key]
theorem gno{α:Type}[Inhabited α]{lt:α→α→Bool} :∀{l:List α},l.Pairwise (fun x y=>lt x y=true∨lt y x=true)→g7v lt l=true
 | [],_=>rfl
 | x::l,h=>by
   rw[List.pairwise_cons]at h;simp only[g7v,Bool.and_eq_true,List.all_eq_true,Bool.or_eq_true];exact⟨h.1,gno h.2⟩
end
mutual
def wt :SValue→Nat
 | ⟨_,_,_,s,_,ks,is,r⟩=>10+s.length+(r.map fun x=>x.Data.length+1).sum+wts ks+wts is
def wts :List SValue→Nat
 | []=>0
 | v::l=>wt v+wts l
end
structure Fd where
 id:Nat
 c:Bool
 p:List UInt8
instance:Inhabited Fd:=⟨⟨0,false,[]⟩⟩
def ltF(a b:Fd) :Bool:=decide (a.id < b.id)
def Fd.text(f:Fd) :List UInt8:=g8i f.id f.c f.p
def ilv :List (List UInt8)→List (List UInt8)→List UInt8
 | k::ks,v::vs=>g3p k++(g3p v++ilv ks vs)
 | _,_=>[]
def findM(l:List SMember)(id:Int) :Option SMember:=l.find? fun m=>decide (m.ID=id)
open Classical in
noncomputable def om (m:SMember) (v:SValue):Bool:=m.HasDefault && decide (m.Default=v)
def rawF(r:SRaw) :Fd:=⟨r.ID.toNat,false,r.Data⟩
mutual
noncomputable def vpay (ts:List SType) (t:Int):SValue→List UInt8
 | ⟨_,b,i,s,id,ks,is,r⟩=>
   let x:=ts.getD t.toNat dSType
   if x.Kind=1 then(if b=true then[1]else[])
   else if x.Kind=2 then vbig (zig i).toNat
   else if x.Kind=3 then s
   else if x.Kind=4 then vbig id.toNat
   else if x.Kind=5 then(isoB ltF (vents ts x.Members is++r.map rawF)).flatMap Fd.text
   else if x.Kind=6 then vput id.toNat++(match findM x.Members id with
     | some m=>(vpays ts m.Type_ is).headD []
     | none=>(r.map SRaw.Data).headD [])
   else if x.Kind=7 then(vpays ts x.Elem is).flatMap g3p
   else if x.Kind=8 then ilv (vpays ts x.Key ks) (vpays ts x.Elem is)
   else match vpays ts x.Elem is with
     | []=>[]
     | p::_=>1::p
noncomputable def vpays (ts:List SType) (t:Int):List SValue→List (List UInt8)
 | []=>[]
 | v::l=>vpay ts t v::vpays ts t l
noncomputable def vents (ts:List SType):List SMember→List SValue→List Fd
 | m::ms,v::l=>if om m v=true then vents ts ms l else⟨m.ID.toNat,m.Critical,vpay ts m.Type_ v⟩::vents ts ms l
 | _,_=>[]
end
mutual
noncomputable def vlev (ts:List SType) (t:Int):SValue→Nat
 | ⟨_,_,_,_,id,ks,is,_⟩=>
   let x:=ts.getD t.toNat dSType
   1+max (if ks=[]then 0 else 1) (if x.Kind=5 then vlevm ts x.Members is
     else if x.Kind=6 then(match findM x.Members id with
       | some m=>vlevs ts m.Type_ is
       | none=>0)
     else vlevs ts x.Elem is)
noncomputable def vlevs (ts:List SType) (t:Int):List SValue→Nat
 | []=>0
 | v::l=>max (vlev ts t v) (vlevs ts t l)
noncomputable def vlevm (ts:List SType):List SMember→List SValue→Nat
 | m::ms,v::l=>if om m v=true then vlevm ts ms l else max (vlev ts m.Type_ v) (vlevm ts ms l)
 | _,_=>0
end
def I1000(n:Int) :Prop:=1≤n∧n≤1000
def g6c(ms:List SMember)(r:List SRaw) :Prop:=r.Pairwise (fun a b=>a.ID < b.ID)∧∀x,x∈r→I1000 x.ID∧findM ms x.ID=none
def vcmp(a b:SValue) :Int:=(g5q (a,b)).getD 0
def g5o(ks:List SValue) :Prop:=∀i,i+1 < ks.length→vcmp (ks.getD i dSValue) (ks.getD (i+1) dSValue) < 0
mutual
def vfit(ts:List SType)(pl:Bool)(t:Int) :SValue→Prop
 | ⟨k,b,i,s,id,ks,is,r⟩=>
   let x:=ts.getD t.toNat dSType
   (0≤t∧t < ts.length∧k=x.Kind∧(pl=true→r=[]))∧
   (k=1∧i=0∧s=[]∧id=0∧ks=[]∧is=[]∧r=[]∨
   k=2∧b=false∧s=[]∧id=0∧ks=[]∧is=[]∧r=[]∧x.Low≤i∧i≤x.High∨
   k=3∧b=false∧i=0∧id=0∧ks=[]∧is=[]∧r=[]∧(s.length:Int)≤x.Max∨
   k=4∧b=false∧i=0∧s=[]∧ks=[]∧is=[]∧r=[]∧((∃y,y∈x.Symbols∧y.ID=id)∨x.Open=true∧pl=false∧I1000 id)∨
   k=5∧b=false∧i=0∧s=[]∧id=0∧ks=[]∧g6c x.Members r∧vfitm ts pl x.Members is∨
   k=6∧b=false∧i=0∧s=[]∧ks=[]∧(match findM x.Members id with
     | some m=>r=[]∧is.length=1∧vfits ts pl m.Type_ is
     | none=>x.Open=true∧pl=false∧I1000 id∧is=[]∧∃d,r=[⟨id,d⟩])∨
   k=7∧b=false∧i=0∧s=[]∧id=0∧ks=[]∧r=[]∧(is.length:Int)≤x.Max∧vfits ts pl x.Elem is∨
   k=8∧b=false∧i=0∧s=[]∧id=0∧r=[]∧(ks.length:Int)≤x.Max∧is.length=ks.length∧vfits ts pl x.Key ks∧vfits ts pl x.Elem is∧g5o ks∨
   k=9∧b=false∧i=0∧s=[]∧id=0∧ks=[]∧r=[]∧is.length≤1∧vfits ts pl x.Elem is)
def vfits(ts:List SType)(pl:Bool)(t:Int) :List SValue→Prop
 | []=>True
 | v::l=>vfit ts pl t v∧vfits ts pl t l
def vfitm(ts:List SType)(pl:Bool) :List SMember→List SValue→Prop
 | m::ms,v::l=>vfit ts pl m.Type_ v∧vfitm ts pl ms l
 | [],[]=>True
 | _,_=>False
end
theorem wt_eq(v:SValue) :wt v=10+v.Str.length+(v.Rest.map fun x=>x.Data.length+1).sum+wts v.Keys+wts v.Items:=by
 cases v;rw[wt]
theorem g6d(v:SValue)(l:List SValue) :wts (v::l)=wt v+wts l:=by rw[wts]
theorem g5g :wts []=0:=by rw[wts]
theorem g2m :∀{l:List SValue} {x:SValue},x∈l→wt x≤wts l
 | y::l,x,h=>by
   rw[g6d];rcases List.mem_cons.1 h with rfl | h
   · omega
   · have:=g2m h;omega
theorem gly{p:List UInt8}(h:p.length < 1152921504606846976) :(g3p p).length≤p.length+10:=by
 have:=g3x (n:=p.length) (by omega);unfold g3p;simp;omega
theorem gq0{f:Fd}(h:f.p.length < 1152921504606846976)(hi:f.id≤9223372036854775807) :f.text.length≤f.p.length+20:=by
 have:=gly h;have:=g3x (n:=2*f.id+(if f.c then 1 else 0)) (by split <;> omega);unfold Fd.text g8i;simp only[List.length_append];omega
theorem go8{α β:Type}{f:α→List β}{a b:List α}(h:a.Perm b) :(a.flatMap f).length=(b.flatMap f).length:=(h.flatMap_right f).length_eq
theorem gq1{n:Int}(h:I64 n) :(zig n).toNat < 18446744073709551616:=by
 unfold zig I64 at*;split <;> omega
section
variable {ts:List SType}
def LenOk(ts:List SType)(v:SValue) :Prop:=∀t,(vpay ts t v).length+20≤21*wt v
theorem gid :∀{l:List SValue} {t:Int},wts l≤1099511627776→(∀x,x∈l→LenOk ts x)→((vpays ts t l).flatMap g3p).length≤21*wts l
 | [],t,_,_=>by rw[vpays];simp
 | v::l,t,hw,h=>by
   rw[vpays,List.flatMap_cons,List.length_append];rw[g6d]at hw ⊢;have h1:=h v (.head _) t;have h2:=gid (t:=t) (by omega) fun x hx=>h x (.tail _ hx)
   have h3:=gly (p:=vpay ts t v) (by omega);omega
theorem g8j :∀{l:List SValue} {t:Int},(vpays ts t l).length=l.length
 | [],t=>by rw[vpays];rfl
 | v::l,t=>by rw[vpays,List.length_cons,List.length_cons,g8j]
theorem gbi :∀{l:List SValue} {t:Int},vpays ts t l=l.map (vpay ts t)
 | [],t=>by rw[vpays];rfl
 | v::l,t=>by rw[vpays,List.map,gbi]
theorem gs2 :∀(a b:List (List UInt8)),(ilv a b).length≤(a.flatMap g3p).length+(b.flatMap g3p).length
 | [],b=>by simp[ilv]
 | k::ks,[]=>by simp[ilv]
 | k::ks,v::vs=>by
   have:=gs2 ks vs;simp only[ilv,List.flatMap_cons,List.length_append];omega
theorem gnp :∀{ms:List SMember} {l:List SValue},wts l≤1099511627776→(∀m,m∈ms→m.ID≤1000)→(∀x,x∈l→LenOk ts x)→((vents ts ms l).flatMap Fd.text).length≤21*wts l
 | [],l,_,_,_=>by rw[vents] <;> simp
 | m::ms,[],_,_,_=>by rw[vents] <;> simp
 | m::ms,v::l,hw,hm,h=>by
   rw[g6d]at hw ⊢;rw[vents];have h1:=h v (.head _) m.Type_;have h2:=gnp (ms:=ms) (l:=l) (by omega) (fun x hx=>hm x (.tail _ hx)) fun x hx=>h x (.tail _ hx)
   have h4:=hm m (.head _);split
   · omega
   · rw[List.flatMap_cons,List.length_append];have h3:=gq0 (f:=⟨m.ID.toNat,m.Critical,vpay ts m.Type_ v⟩) (by show(vpay ts m.Type_ v).length < _;omega) (by show m.ID.toNat≤_;omega);have h3':(Fd.text ⟨m.ID.toNat,m.Critical,vpay ts m.Type_ v⟩).length≤(vpay ts m.Type_ v).length+20:=h3;omega
theorem gq2 :∀{l:List SRaw},(∀x,x∈l→x.Data.length≤reachBytes∧x.ID≤9223372036854775807)→True→((l.map rawF).flatMap Fd.text).length≤21*(l.map fun x=>x.Data.length+1).sum
 | [],_,_=>by simp
 | r::l,h,_=>by
   have h1:=h r (.head _);have h2:=gq2 (l:=l) (fun x hx=>h x (.tail _ hx)) trivial;unfold reachBytes at h1;have h3:=gq0 (f:=rawF r) (by show r.Data.length < _;omega) (by show r.ID.toNat≤_;omega);have h3':(rawF r).text.length≤r.Data.length+20:=h3;simp only[List.map_cons,List.flatMap_cons,List.length_append,List.sum_cons];omega
def MOk(ts:List SType) :Prop:=∀x,x∈ts→∀m,m∈x.Members→m.ID≤1000
theorem grb{α:Type}(l:List α)(i:Nat)(d:α) :l.getD i d∈l∨l.getD i d=d:=by
 by_cases h:i < l.length
 · left;rw[List.getD_eq_getElem?_getD,List.getElem?_eq_getElem h];exact List.getElem_mem h
 · right;rw[List.getD_eq_getElem?_getD,List.getElem?_eq_none (by omega)];rfl
theorem gnq{l:List (List UInt8)}{n:Nat}(h:∀x,x∈l→x.length≤n) :(l.headD []).length≤n:=by
 cases l with
 | nil=>simp
 | cons x l=>exact h x (.head _)
theorem gs3 :∀{l:List Nat} {n:Nat},n∈l→n≤l.sum
 | a::l,n,h=>by
   rw[List.sum_cons];rcases List.mem_cons.1 h with rfl | h
   · omega
   · have:=gs3 h;omega
theorem gxn(hM:MOk ts){v:SValue}(h:OkV v) :wt v≤1099511627776→LenOk ts v:=by
 induction h with
 | mk v hs h1 h2 h3 hk hi hr n1 n2 n3 n4 ihk ihi=>
   intro hw t;have hwt:=wt_eq v;have LK:∀x,x∈v.Keys→LenOk ts x:=fun x hx=>ihk x hx (by have:=g2m hx;omega)
   have LI:∀x,x∈v.Items→LenOk ts x:=fun x hx=>ihi x hx (by have:=g2m hx;omega)
   have PK:=fun t=>gid (t:=t) (l:=v.Keys) (by omega) LK
   have PI:=fun t=>gid (t:=t) (l:=v.Items) (by omega) LI
   have hx:∀m,m∈(ts.getD t.toNat dSType).Members→m.ID≤1000:=by
     rcases grb ts t.toNat dSType with h | h
     · exact hM _ h
     · rw[h];intro m hm;cases hm
   have QI:∀t,((vpays ts t v.Items).headD []).length+20≤21*wts v.Items+20:=fun t=>by
     have:((vpays ts t v.Items).headD []).length≤21*wts v.Items:=gnq fun p hp=>by
       rw[gbi]at hp;obtain⟨x,hx,rfl⟩:=List.mem_map.1 hp;have:=LI x hx t;have:=g2m hx;omega
     omega
   have RI:((v.Rest.map rawF).flatMap Fd.text).length≤21*(v.Rest.map fun x=>x.Data.length+1).sum:=gq2 (fun x hx=>⟨hr x hx,(n4 x hx).2⟩) trivial;have EI:=gnp (ts:=ts) (ms:=(ts.getD t.toNat dSType).Members) (l:=v.Items) (by omega) hx LI;have DI:((v.Rest.map SRaw.Data).headD []).length≤(v.Rest.map fun x=>x.Data.length+1).sum:=gnq fun p hp=>by
     obtain⟨x,hx,rfl⟩:=List.mem_map.1 hp;have:x.Data.length+1≤(v.Rest.map fun x=>x.Data.length+1).sum:=gs3 (List.mem_map.2 ⟨x,hx,rfl⟩);omega
   obtain⟨K,b,i,s,id,ks,is,r⟩:=v;simp only at*;rw[vpay];have hz:=gk6 8 _ (gq1 n2);have hid:id.toNat < 18446744073709551616:=by omega
   have hb:=gk6 8 _ hid;have hp:=g3x hid;generalize ts.getD t.toNat dSType=x at*;split
   · split
     · simp;omega
     · simp;omega
   · split
     · omega
     · split
       · omega
       · split
         · omega
         · split
           · rw[go8 (g6p _ _),List.flatMap_append,List.length_append];omega
           · split
             · rw[List.length_append];split
               · rename_i m _;have:=QI m.Type_;omega
               · omega
             · split
               · have:=PI x.Elem;omega
               · split
                 · have:=gs2 (vpays ts x.Key ks) (vpays ts x.Elem is);have:=PK x.Key;have:=PI x.Elem;omega
                 · have:=QI x.Elem;split
                   · simp;omega
                   · rename_i p l e;rw[e]at this;simp only[List.headD_cons]at this;simp only[List.length_cons];omega
end
section
variable (ts:List SType)
mutual
theorem vlev_le :∀(v:SValue) (t:Int),vlev ts t v≤wt v
 | ⟨_,_,_,_,id,ks,is,_⟩,t=>by
   rw[vlev,wt];have h1:=vlevs_le is;have h2:=vlevm_le is;have h0:(if ks=[]then 0 else 1)≤1:=by split <;> omega
   generalize (if ks=[]then 0 else 1)=q at h0 ⊢;have h3:=h2 (ts.getD t.toNat dSType).Members;have h4:=h1 (ts.getD t.toNat dSType).Elem;split
   · omega
   · split
     · split
       · rename_i m _;have:=h1 m.Type_;omega
       · omega
     · omega
theorem vlevs_le :∀(l:List SValue) (t:Int),vlevs ts t l≤wts l
 | [],t=>by rw[vlevs];omega
 | v::l,t=>by
   rw[vlevs,wts];have:=vlev_le v t;have:=vlevs_le l t;omega
theorem vlevm_le :∀(l:List SValue) (ms:List SMember),vlevm ts ms l≤wts l
 | [], ms => by rw [vlevm]; · omega
                · intros;simp_all
 | v :: l, [] => by rw [vlevm]; · omega
                    · intros;simp_all
 | v::l,m::ms=>by
   rw[vlevm,wts];have:=vlev_le v m.Type_;have:=vlevm_le l ms;split <;> omega
end
end
section
variable {ts:List SType}
theorem g8k :∀{ms:List SMember} {l:List SValue} {x:Fd},x∈vents ts ms l→∃m,m∈ms∧x.id=m.ID.toNat
 | [],l,x,h=>by
   rw[vents]at h
   · cases h
   · intros;simp_all
 | m::ms,[],x,h=>by
   rw[vents]at h
   · cases h
   · intros;simp_all
 | m::ms,v::l,x,h=>by
   rw[vents]at h;split at h
   · obtain⟨m',h1,h2⟩:=g8k h;exact⟨m',.tail _ h1,h2⟩
   · rcases List.mem_cons.1 h with rfl | h
     · exact⟨m,.head _,rfl⟩
     · obtain⟨m',h1,h2⟩:=g8k h;exact⟨m',.tail _ h1,h2⟩
theorem glz{ms:List SMember}{l:List SValue}{n:Nat}(h:∀m,m∈ms→m.ID.toNat≠n) :((vents ts ms l).filter fun x=>decide (x.id=n))=[]:=by
 rw[List.filter_eq_nil_iff];intro x hx;obtain⟨m,h1,h2⟩:=g8k hx;have:=h m h1;simp;omega
theorem gb4 : ∀ {ms : List SMember} {l : List SValue} {n j : Nat}, ms.Pairwise (fun a b => a.ID.toNat ≠ b.ID.toNat) → l.length = ms.length → j < ms.length → (ms.getD j dSMember).ID.toNat = n →
   ((vents ts ms l).filter fun x=>decide (x.id=n))=if om (ms.getD j dSMember) (l.getD j dSValue)=true then[]else[⟨n,(ms.getD j dSMember).Critical,vpay ts (ms.getD j dSMember).Type_ (l.getD j dSValue)⟩]
 | [],l,n,j,_,_,hj,_=>by cases hj
 | m::ms,[],n,j,_,hl,_,_=>by cases hl
 | m::ms,v::l,n,0,hd,hl,hj,he=>by
   rw[List.pairwise_cons]at hd;simp only[List.getD_cons_zero]at he ⊢;have hn:=glz (ts:=ts) (l:=l) (ms:=ms) (n:=n) fun x hx=>by have:=hd.1 x hx;omega
   rw[vents];split
   · exact hn
   · rw[List.filter_cons,if_pos (by simp[he]),hn,he]
 | m::ms,v::l,n,j+1,hd,hl,hj,he=>by
   rw[List.pairwise_cons]at hd;simp only[List.getD_cons_succ]at he ⊢;have hj':j < ms.length:=by simpa using hj
   have hm:ms.getD j dSMember∈ms:=by
     rw[List.getD_eq_getElem?_getD,List.getElem?_eq_getElem hj'];exact List.getElem_mem hj'
   have hne:=hd.1 _ hm;have ih:=gb4 (l:=l) hd.2 (by simpa using hl) hj' he;rw[vents];split
   · exact ih
   · rw[List.filter_cons,if_neg (by simp;omega)];exact ih
theorem grc(l:List SRaw)(n:Nat)(h:∀x,x∈l→0≤x.ID) :((l.map rawF).filter fun x=>decide (x.id=n))=(l.filter fun x=>decide (x.ID=(n:Int))).map rawF:=by
 rw[List.filter_map]
 congr 1
 apply List.filter_congr;intro x hx;have:=h x hx;show decide (x.ID.toNat=n)=_;by_cases e:x.ID=n
 · simp[e]
 · have:¬x.ID.toNat=n:=by omega
   simp[e,this]
noncomputable def g3d (ts:List SType) (ms:List SMember) (l:List SValue) (r:List SRaw):List Fd:=vents ts ms l++r.map rawF
def MAsc(ms:List SMember) :Prop:=ms.Pairwise (fun a b=>a.ID < b.ID)∧∀m,m∈ms→I1000 m.ID
theorem gil{ms:List SMember}(h:MAsc ms) :ms.Pairwise (fun a b=>a.ID.toNat≠b.ID.toNat):=by
 refine h.1.imp_of_mem fun {a b} ha hb hlt=>?_
 have:=h.2 a ha;have:=h.2 b hb;unfold I1000 at*;omega
theorem gie :∀{ms:List SMember} {l:List SValue},ms.Pairwise (fun a b=>a.ID.toNat≠b.ID.toNat)→(vents ts ms l).Pairwise (fun a b=>a.id≠b.id)
 | [],l,_=>by
   rw[vents]
   · exact .nil
   · intros;simp_all
 | m::ms,[],_=>by
   rw[vents]
   · exact .nil
   · intros;simp_all
 | m::ms,v::l,h=>by
   rw[List.pairwise_cons]at h;rw[vents];split
   · exact gie h.2
   · rw[List.pairwise_cons];refine⟨fun x hx=>?_,gie h.2⟩;obtain⟨m',h1,h2⟩:=g8k hx;rw[h2];exact h.1 m' h1
theorem gaf{ms:List SMember}{id:Int}(h:findM ms id=none) :∀m,m∈ms→m.ID≠id:=by
 unfold findM at h;rw[List.find?_eq_none]at h;intro m hm;simpa using h m hm
theorem ggt{ms:List SMember}{l:List SValue}{r:List SRaw}(h:MAsc ms)(hr:g6c ms r) :g7v ltF (g3d ts ms l r)=true:=by
 apply gno;have key:(g3d ts ms l r).Pairwise (fun a b=>a.id≠b.id):=by
   unfold g3d;rw[List.pairwise_append];refine⟨gie (gil h),?_,?_⟩
   · rw[List.pairwise_map];refine hr.1.imp_of_mem fun {a b} ha hb hlt=>?_
     have:=(hr.2 a ha).1;have:=(hr.2 b hb).1;show a.ID.toNat≠b.ID.toNat;unfold I1000 at*;omega
   · intro x hx y hy;obtain⟨m,h1,h2⟩:=g8k hx;obtain⟨q,h3,rfl⟩:=List.mem_map.1 hy;have h4:=gaf (hr.2 q h3).2 m h1;have:=h.2 m h1;have:=(hr.2 q h3).1;show x.id≠q.ID.toNat;unfold I1000 at*;omega
 refine key.imp fun {a b} hne=>?_
 simp only[ltF,decide_eq_true_eq];omega
theorem gif{ms:List SMember}{l:List SValue}{r:List SRaw}(h:MAsc ms)(hr:g6c ms r){x:Fd}(hx:x∈g3d ts ms l r) :1≤x.id∧x.id≤1000:=by
 rcases List.mem_append.1 hx with hx | hx
 · obtain⟨m,h1,h2⟩:=g8k hx;have:=h.2 m h1;unfold I1000 at*;omega
 · obtain⟨q,h3,rfl⟩:=List.mem_map.1 hx;have:=(hr.2 q h3).1;unfold I1000 at*;show 1≤q.ID.toNat∧q.ID.toNat≤1000;omega
theorem gyk :SWO ltF:=by
 refine⟨fun x=>?_,fun x y z h1 h2=>?_,fun x y z h1 h2=>?_⟩ <;> simp[ltF]at* <;> omega
theorem go9 {l : List Fd} (hp : g7v ltF l = true) (hr : ∀ x, x ∈ l → 1 ≤ x.id ∧ x.id ≤ 1000) :
   isoB ltF l=(List.range' 1 1000).flatMap fun n=>l.filter fun x=>decide (x.id=n):=by
 refine gjf hp (g6p _ _) (glx Fd.id _ List.nodup_range' l fun x hx=>?_) (gef gyk l) (gpy Fd.id 1 1000 l);have:=hr x hx;rw[List.mem_range'_1];omega
end
section
variable {ts:List SType} {pl:Bool}
theorem g1d :∀{l:List SValue} {t:Int},vfits ts pl t l↔∀x,x∈l→vfit ts pl t x
 | [],t=>by rw[vfits];simp
 | v::l,t=>by
   rw[vfits,g1d];constructor
   · rintro ⟨h1,h2⟩ x hx
     rcases List.mem_cons.1 hx with rfl | hx
     · exact h1
     · exact h2 x hx
   · intro h;exact⟨h v (.head _),fun x hx=>h x (.tail _ hx)⟩
theorem g6t :∀{ms:List SMember} {l:List SValue},vfitm ts pl ms l↔l.length=ms.length∧∀i,i < ms.length→vfit ts pl (ms.getD i dSMember).Type_ (l.getD i dSValue)
 | [],[]=>by
   have:vfitm ts pl [] []=True:=by rw[vfitm]
   rw[this];simp
 | [],v::l=>by
   have:vfitm ts pl [] (v::l)=False:=by rw[vfitm] <;> (intros;simp_all)
   rw[this];simp
 | m::ms,[]=>by
   have:vfitm ts pl (m::ms) []=False:=by rw[vfitm] <;> (intros;simp_all)
   rw[this];simp
 | m::ms,v::l=>by
   rw[vfitm,g6t];constructor
   · rintro ⟨h1,h2,h3⟩
     refine⟨by simp[h2],fun i hi=>?_⟩;cases i with
     | zero=>exact h1
     | succ i=>exact h3 i (by simpa using hi)
   · rintro ⟨h1,h2⟩
     exact⟨h2 0 (by simp),by simpa using h1,fun i hi=>h2 (i+1) (by simpa using hi)⟩
end
end
section
open Go Go.Proofs.YthnmepafpikaiaaGreat.Shv Go.Sort
set_option maxRecDepth 100000
def SaysP(o:Option Bool)(P:Prop) :Prop:=∃r,o=some r∧(r=true↔P)
theorem SaysP.imp{o:Option Bool}{P Q:Prop}(h:SaysP o P)(e:P↔Q) :SaysP o Q:=by
 obtain⟨r,h1,h2⟩:=h;exact⟨r,h1,h2.trans e⟩
theorem SaysP.of{b:Bool}{P:Prop}(e:b=true↔P) :SaysP (some b) P:=⟨b,rfl,e⟩
theorem SaysP.loop {L : Nat → Option (Bool ⊕ Unit)} {n : Nat} {p : Nat → Bool} {g : Unit} {o : Option (Bool ⊕ Unit)} (h0 : o = L 0) (hstep : ∀ i, i < n → L i = if p i = true then L (i + 1) else some (.inl false)) (hend : L n = some (.inr g)) :
   SaysP (o >>=fun o=>match o with | .inl x=>some x | .inr _=>some true) (∀i,i < n→p i=true):=by
 subst h0;rcases scan L n p (.inl false) (.inr g) hstep hend with⟨h1,h2⟩ | ⟨h1,j,h2,h3⟩
 · rw[h1];exact⟨true,rfl,by simpa using h2⟩
 · rw[h1];refine⟨false,rfl,?_⟩;constructor
   · intro h;cases h
   · intro h;have:=h j h2;rw[h3]at this;cases this
theorem gim{α:Type}(f:α→Int)(d:α) :∀l:List α,l.Pairwise (fun a b=>f a < f b)↔∀i,i+1 < l.length→f (l.getD i d) < f (l.getD (i+1) d)
 | []=>by simp
 | [a]=>by simp
 | a::b::l=>by
   rw[List.pairwise_cons,gim f d (b::l)];constructor
   · rintro ⟨h1,h2⟩ i hi
     cases i with
     | zero=>exact h1 b (.head _)
     | succ i=>exact h2 i (by simpa using hi)
   · intro h;have h2:∀i,i+1 < (b::l).length→f ((b::l).getD i d) < f ((b::l).getD (i+1) d):=fun i hi=>h (i+1) (by simpa using hi)
     refine⟨fun x hx=>?_,h2⟩;have h0:=h 0 (by simp);simp only[List.getD_cons_zero,List.getD_cons_succ]at h0;have h3:=(gim f d (b::l)).2 h2;rw[List.pairwise_cons]at h3;rcases List.mem_cons.1 hx with rfl | hx
     · exact h0
     · have:=h3.1 x hx;omega
section
variable {ts:List SType}
def FitS(ts:List SType)(x:SValue) :Prop:=∀t pl,SaysP (g1q ((⟨ts⟩:SSchema),t,x,pl)) (vfit ts pl t x)
theorem gq3{l:List SValue}(hl:l.length≤reachBytes)(ih:∀x,x∈l→FitS ts x)(t:Int)(pl:Bool) :SaysP (g4e ((⟨ts⟩:SSchema),t,l,pl)) (vfits ts pl t l):=by
 have hr:=g13 hl
 let p:Nat→Bool:=fun i=>(g1q ((⟨ts⟩:SSchema),t,l.getD i dSValue,pl)).getD false
 have hp:∀i,i < l.length→g1q ((⟨ts⟩:SSchema),t,l.getD i dSValue,pl)=some (p i)∧(p i=true↔vfit ts pl t (l.getD i dSValue)):=by
   intro i hi;obtain⟨r,h1,h2⟩:=ih _ (gg hi dSValue) t pl;refine⟨by simp only[p,h1,Option.getD_some],?_⟩;simp only[p,h1,Option.getD_some];exact h2
 rw[g4e];refine(SaysP.loop (L:=fun i=>g1s (t,l,pl,(i:Int),ts)) (n:=l.length) (p:=p) (g:=()) rfl (fun i hi=>?_) ?_).imp ?_
 · show g1s (t,l,pl,(i:Int),ts)=if p i=true then g1s (t,l,pl,((i+1:Nat):Int),ts)else _
   rw[g1s,if_pos (by simp;omega),if_pos (g6 hi)];simp only[SValue.gq,g7];rw[(hp i hi).1,gj (by omega)];cases p i <;> rfl
 · show g1s (t,l,pl,(l.length:Int),ts)=_;rw[g1s,if_neg (by simp)]
 · rw[g1d];constructor
   · intro h x hx;obtain⟨i,hi,rfl⟩:=List.getElem_of_mem hx;have:=(hp i hi).2.1 (h i hi);rw[g1c hi]at this;exact this
   · intro h i hi;exact(hp i hi).2.2 (h _ (gg hi dSValue))
theorem g70{l:List SMember}{id:Int}{r:Int × Bool}(h:gfg l id r) :(r.2=true∧∃j:Nat,j < l.length∧r.1=(j:Int)∧findM l id=some (l.getD j dSMember)∧(l.getD j dSMember).ID=id)∨(r.2=false∧findM l id=none):=by
 rcases h with⟨j,h1,h2,h3,rfl⟩ | ⟨h1,rfl⟩
 · refine .inl ⟨rfl,j,h1,rfl,?_,h2⟩;unfold findM;rw[List.find?_eq_some_iff_getElem];refine⟨by rw[decide_eq_true_eq];exact h2,j,h1,(g1c h1 _).symm,fun k hk=>?_⟩;have:=h3 k hk;rw[g1c (by omega)]at this
   simpa using this
 · refine .inr ⟨rfl,?_⟩;unfold findM;rw[List.find?_eq_none];intro m hm;obtain⟨i,hi,rfl⟩:=List.getElem_of_mem hm;have:=h1 i hi;rw[g1c hi]at this
   simpa using this
theorem gw8{t:SType}(ht:t.Members.length < 9223372036854775807){l:List SRaw}(hl:l.length≤reachBytes) :SaysP (g4s (t,l)) (g6c t.Members l):=by
 have hr:=g13 hl;rw[g4s]
 let p:Nat→Bool:=fun i=>!((g3n (t,(l.getD i dSRaw).ID)).getD (0,false)).2 && (bif decide (1≤(l.getD i dSRaw).ID)then decide ((l.getD i dSRaw).ID≤1000)else false) && (!(decide ((0:Int) < (i:Int))) || !(decide ((l.getD i dSRaw).ID≤(l.getD (subI .i64 (i:Int) 1).toNat dSRaw).ID)))
 refine(SaysP.loop (L:=fun i=>g1n (l,(i:Int),t)) (n:=l.length) (p:=p) (g:=()) rfl (fun i hi=>?_) ?_).imp ?_
 · show g1n (l,(i:Int),t)=if p i=true then g1n (l,((i+1:Nat):Int),t)else _
   obtain⟨r,h1,h2,_⟩:=g4m (t:=t) (l.getD i dSRaw).ID ht;have hpi:p i=(!r.2 && (bif decide (1≤(l.getD i dSRaw).ID)then decide ((l.getD i dSRaw).ID≤1000)else false) && (!(decide ((0:Int) < (i:Int))) || !(decide ((l.getD i dSRaw).ID≤(l.getD (subI .i64 (i:Int) 1).toNat dSRaw).ID)))):=by simp only[p,h1,Option.getD_some]
   rw[hpi,g1n,if_pos (by simp;omega),if_pos (g6 hi)];simp only[g7];rw[h2,gj (by omega)];have hid:g1h ((l.getD i dSRaw).ID,r.2)=some ((!r.2) && (bif decide (1≤(l.getD i dSRaw).ID)then decide ((l.getD i dSRaw).ID≤1000)else false)):=by
     rw[g1h];cases r.2 <;> cases decide (1≤(l.getD i dSRaw).ID) <;> rfl
   show(if inR (i:Int) l.length=true then g1h ((l.getD i dSRaw).ID,r.2) >>=_ else none)=_;rw[if_pos (g6 hi),hid]
   exact gji ((!r.2) && (bif decide (1≤(l.getD i dSRaw).ID)then decide ((l.getD i dSRaw).ID≤1000)else false)) (inR (i:Int) l.length) (decide ((0:Int) < (i:Int))) (subI .i64 (i:Int) 1) (fun j=>inR j l.length) (fun j=>decide ((l.getD i dSRaw).ID≤(l.getD j.toNat dSRaw).ID)) _ _ (g6 hi) (fun hz=>by
     have:0 < i:=by simp at hz;omega
     show inR _ _=true
     rw[g7l this (by omega)];exact g6 (by omega))
 · show g1n (l,(l.length:Int),t)=_;rw[g1n,if_neg (by simp)]
 · unfold g6c;rw[gim (fun a:SRaw=>a.ID) dSRaw];have key:∀i,i < l.length→(p i=true↔(I1000 (l.getD i dSRaw).ID∧findM t.Members (l.getD i dSRaw).ID=none)∧(i=0∨(l.getD (i - 1) dSRaw).ID < (l.getD i dSRaw).ID)):=by
     intro i hi;obtain⟨r,h1,h2,hf⟩:=g4m (t:=t) (l.getD i dSRaw).ID ht;have hpi:p i=(!r.2 && (bif decide (1≤(l.getD i dSRaw).ID)then decide ((l.getD i dSRaw).ID≤1000)else false) && (!(decide ((0:Int) < (i:Int))) || !(decide ((l.getD i dSRaw).ID≤(l.getD (subI .i64 (i:Int) 1).toNat dSRaw).ID)))):=by simp only[p,h1,Option.getD_some]
     rw[hpi];have hn:r.2=false↔findM t.Members (l.getD i dSRaw).ID=none:=by
       rcases g70 hf with⟨a,j,_,_,b,_⟩ | ⟨a,b⟩
       · rw[a,b];simp
       · rw[a,b];simp
     rw[←hn];unfold I1000;by_cases h0:i=0
     · subst h0;cases r.2 <;> by_cases g1:1≤(l.getD 0 dSRaw).ID <;> by_cases g2:(l.getD 0 dSRaw).ID≤1000 <;> simp[g1,g2]
     · have hz:decide ((0:Int) < (i:Int))=true:=by simp;omega
       rw[hz,g7l (by omega) (by omega),g7];generalize (l.getD (i - 1) dSRaw).ID=y;generalize (l.getD i dSRaw).ID=x;cases r.2 <;> by_cases g1:1≤x <;> by_cases g2:x≤1000 <;> by_cases g3:y < x <;> simp[h0,g1,g2,g3] <;> omega
   constructor
   · intro h;refine⟨fun i hi=>?_,fun x hx=>?_⟩
     · have:=((key (i+1) hi).1 (h _ hi)).2;rcases this with h | h
       · omega
       · exact h
     · obtain⟨i,hi,rfl⟩:=List.getElem_of_mem hx;have:=((key i hi).1 (h _ hi)).1;rw[g1c hi]at this;exact this
   · rintro ⟨h1,h2⟩ i hi
     refine(key i hi).2 ⟨h2 _ (gg hi dSRaw),?_⟩;by_cases h0:i=0
     · exact .inl h0
     · right;have:=h1 (i - 1) (by omega);have e:i - 1+1=i:=by omega
       rw[e]at this;exact this
theorem gu6 {t : SType} {v : SValue} (hl : v.Items.length = t.Members.length) (hr : t.Members.length < 9223372036854775807) (ih : ∀ x, x ∈ v.Items → FitS ts x) (pl : Bool) :
   SaysP (g17 (pl,0,ts,v,t.Kind,t.Name,t.Low,t.High,t.Max,t.Symbols,t.Members,t.Key,t.Elem,t.Open) >>=fun o=>match o with | .inl o_1=>some o_1 | .inr _=>some true) (vfitm ts pl t.Members v.Items):=by
 let p:Nat→Bool:=fun i=>(g1q ((⟨ts⟩:SSchema),(t.Members.getD i dSMember).Type_,v.Items.getD i dSValue,pl)).getD false
 have hp:∀i,i < t.Members.length→g1q ((⟨ts⟩:SSchema),(t.Members.getD i dSMember).Type_,v.Items.getD i dSValue,pl)=some (p i)∧(p i=true↔vfit ts pl (t.Members.getD i dSMember).Type_ (v.Items.getD i dSValue)):=by
   intro i hi;obtain⟨r,h1,h2⟩:=ih _ (gg (by omega:i < v.Items.length) dSValue) (t.Members.getD i dSMember).Type_ pl;refine⟨by simp only[p,h1,Option.getD_some],?_⟩;simp only[p,h1,Option.getD_some];exact h2
 refine(SaysP.loop (L:=fun i=>g17 (pl,(i:Int),ts,v,t.Kind,t.Name,t.Low,t.High,t.Max,t.Symbols,t.Members,t.Key,t.Elem,t.Open)) (n:=t.Members.length) (p:=p) (g:=()) rfl (fun i hi=>?_) ?_).imp ?_
 · show g17 (pl,(i:Int),ts,v,t.Kind,t.Name,t.Low,t.High,t.Max,t.Symbols,t.Members,t.Key,t.Elem,t.Open)=if p i=true then g17 (pl,((i+1:Nat):Int),ts,v,t.Kind,t.Name,t.Low,t.High,t.Max,t.Symbols,t.Members,t.Key,t.Elem,t.Open)else _
   rw[g17,if_pos (by simp;omega),if_pos (g6 hi),if_pos (g6 (by omega))];simp only[g7,SValue.gq];rw[(hp i hi).1,gj (by omega)];cases p i <;> rfl
 · show g17 (pl,(t.Members.length:Int),ts,v,t.Kind,t.Name,t.Low,t.High,t.Max,t.Symbols,t.Members,t.Key,t.Elem,t.Open)=_;rw[g17,if_neg (by simp;omega)]
 · rw[g6t];constructor
   · intro h;exact⟨hl,fun i hi=>(hp i hi).2.1 (h i hi)⟩
   · rintro ⟨_,h⟩ i hi;exact(hp i hi).2.2 (h i hi)
theorem gw9 {v : SValue} (hr : v.Keys.length < 9223372036854775807) (hk : ∀ x, x ∈ v.Keys → OkV x) :
   SaysP (g11 (1,v) >>=fun o_3=>match o_3 with | .inl o_4=>some o_4 | .inr _=>some true) (g5o v.Keys):=by
 by_cases h0:v.Keys.length=0
 · rw[g11,if_neg (by simp[h0])];refine⟨true,rfl,?_⟩;unfold g5o;simp only[true_iff];intro i hi;omega
 refine(SaysP.loop (L:=fun i=>g11 (((i+1:Nat):Int),v)) (n:=v.Keys.length - 1) (p:=fun i=>!(decide (0≤vcmp (v.Keys.getD i dSValue) (v.Keys.getD (i+1) dSValue)))) (g:=()) rfl (fun i hi=>?_) ?_).imp ?_
 · show g11 (((i+1:Nat):Int),v)=if _ then g11 (((i+1+1:Nat):Int),v)else _
   have hs':subI .i64 ((i+1:Nat):Int) 1=(i:Int):=by rw[g7l (by omega) (by omega)];simp
   obtain⟨r,c1,c2⟩:=gdb (gcd (hk _ (gg (by omega:i < v.Keys.length) dSValue))) (gcd (hk _ (gg (by omega:i+1 < v.Keys.length) dSValue)));have hv:vcmp (v.Keys.getD i dSValue) (v.Keys.getD (i+1) dSValue)=r:=by unfold vcmp;rw[c1];rfl
   rw[hv,g11,if_pos (by simp;omega)];simp only[oZ4,oZ3];rw[hs',if_pos (g6 (by omega)),if_pos (g6 (by omega))];simp only[g7,SValue.gq];rw[c2,gj (by omega)];simp only[oZ3];cases decide (0≤r) <;> rfl
 · have e:v.Keys.length - 1+1=v.Keys.length:=by omega
   show g11 (((v.Keys.length - 1+1:Nat):Int),v)=_;rw[e,g11,if_neg (by simp)]
 · unfold g5o;constructor
   · intro h i hi;have:=h i (by omega)
     simpa using this
   · intro h i hi;have:=h i (by omega)
     simpa using this
theorem g7i (pl : Bool) (t : Int) (v : SValue) : vfit ts pl t v ↔
   (0≤t∧t < ts.length∧v.Kind=(ts.getD t.toNat dSType).Kind∧(pl=true→v.Rest=[]))∧
   (v.Kind=1∧v.Int_=0∧v.Str=[]∧v.ID=0∧v.Keys=[]∧v.Items=[]∧v.Rest=[]∨
   v.Kind=2∧v.Bool_=false∧v.Str=[]∧v.ID=0∧v.Keys=[]∧v.Items=[]∧v.Rest=[]∧(ts.getD t.toNat dSType).Low≤v.Int_∧v.Int_≤(ts.getD t.toNat dSType).High∨
   v.Kind=3∧v.Bool_=false∧v.Int_=0∧v.ID=0∧v.Keys=[]∧v.Items=[]∧v.Rest=[]∧(v.Str.length:Int)≤(ts.getD t.toNat dSType).Max∨
   v.Kind=4∧v.Bool_=false∧v.Int_=0∧v.Str=[]∧v.Keys=[]∧v.Items=[]∧v.Rest=[]∧((∃y,y∈(ts.getD t.toNat dSType).Symbols∧y.ID=v.ID)∨(ts.getD t.toNat dSType).Open=true∧pl=false∧I1000 v.ID)∨
   v.Kind=5∧v.Bool_=false∧v.Int_=0∧v.Str=[]∧v.ID=0∧v.Keys=[]∧g6c (ts.getD t.toNat dSType).Members v.Rest∧vfitm ts pl (ts.getD t.toNat dSType).Members v.Items∨
   v.Kind=6∧v.Bool_=false∧v.Int_=0∧v.Str=[]∧v.Keys=[]∧(match findM (ts.getD t.toNat dSType).Members v.ID with
     | some m=>v.Rest=[]∧v.Items.length=1∧vfits ts pl m.Type_ v.Items
     | none=>(ts.getD t.toNat dSType).Open=true∧pl=false∧I1000 v.ID∧v.Items=[]∧∃d,v.Rest=[⟨v.ID,d⟩])∨
   v.Kind=7∧v.Bool_=false∧v.Int_=0∧v.Str=[]∧v.ID=0∧v.Keys=[]∧v.Rest=[]∧(v.Items.length:Int)≤(ts.getD t.toNat dSType).Max∧vfits ts pl (ts.getD t.toNat dSType).Elem v.Items∨
   v.Kind=8∧v.Bool_=false∧v.Int_=0∧v.Str=[]∧v.ID=0∧v.Rest=[]∧(v.Keys.length:Int)≤(ts.getD t.toNat dSType).Max∧v.Items.length=v.Keys.length∧vfits ts pl (ts.getD t.toNat dSType).Key v.Keys∧vfits ts pl (ts.getD t.toNat dSType).Elem v.Items∧g5o v.Keys∨
   v.Kind=9∧v.Bool_=false∧v.Int_=0∧v.Str=[]∧v.ID=0∧v.Keys=[]∧v.Rest=[]∧v.Items.length≤1∧vfits ts pl (ts.getD t.toNat dSType).Elem v.Items):=by
 cases v;rw[vfit];try exact Iff.rfl
end
end
section
open Go Go.Proofs.YthnmepafpikaiaaGreat.Shv Go.Sort
set_option maxRecDepth 100000
def ZeroV(v:SValue) :Prop:=(v.Kind=1∨v.Bool_=false)∧(v.Kind=2∨v.Int_=0)∧(v.Kind=3∨v.Str=[])∧((v.Kind=4∨v.Kind=6)∨v.ID=0)∧(v.Kind=8∨v.Keys=[])∧(5≤v.Kind∨v.Items=[])∧((v.Kind=5∨v.Kind=6)∨v.Rest=[])
theorem gwa(v:SValue) :SaysP (g5f v) (ZeroV v):=by
 rw[g5f];refine .of ?_;unfold ZeroV;have e:∀{α:Type} (l:List α),((l.length:Int)=0)↔l=[]:=fun l=>by
   cases l with
   | nil=>simp
   | cons a l=>simp;omega
 simp only[Bool.cond_eq_ite,Bool.ite_eq_true_distrib,e];have h1:∀{a b:Bool},(if a=true then true else b)=true↔(a=true∨b=true):=fun {a b}=>by cases a <;> simp
 have h2:∀{a b:Bool},(if a=true then b else false)=true↔(a=true∧b=true):=fun {a b}=>by cases a <;> simp
 simp[and_assoc];constructor
 · rintro h
   simp_all
   grind
 · grind
theorem cutS{z b:Bool}{o:Option Bool}{P Z Q:Prop}(hz:z=true↔Z)(hb:b=false↔Q)(ho:SaysP o P) :SaysP (if(bif (bif false then true else(!z))then true else b)=true then some false else o) (Z∧Q∧P):=by
 obtain⟨r,rfl,h⟩:=ho;cases z with
 | false=>
   refine⟨false,rfl,?_⟩;simp at hz;simp[hz]
 | true=>
   cases b with
   | true=>refine⟨false,rfl,?_⟩;simp at hb;simp[hb]
   | false=>refine⟨r,rfl,?_⟩;simp at hz hb;simp[hz,hb,h]
theorem and2S{q:Bool}{o:Option Bool}{P Q:Prop}(hq:q=true↔Q)(ho:SaysP o P) :SaysP (some q >>=fun t244=>(if t244=true then o else some false) >>=fun r_10=>some (bif t244 then r_10 else false)) (Q∧P):=by
 obtain⟨r,rfl,h⟩:=ho;refine⟨q && r,by cases q <;> cases r <;> rfl,?_⟩;rw[Bool.and_eq_true,hq,h]
theorem and5S {A : Bool} {ro L : Option Bool} {PA PR PM : Prop} (hA : A = true ↔ PA) (hr : SaysP ro PR) (hM : A = true → SaysP L PM) :
   SaysP (some (!A) >>=fun t107=>(if(!t107)=true then ro else some false) >>=fun r_5=>if(bif t107 then true else(!r_5))=true then some false else L) (PA∧PR∧PM):=by
 obtain⟨q,rfl,hq⟩:=hr;cases A with
 | false=>refine⟨false,rfl,?_⟩;simp at hA;simp[hA]
 | true=>
   obtain⟨m,rfl,hm⟩:=hM rfl;cases q with
   | false=>refine⟨false,rfl,?_⟩;simp at hq;simp[hq]
   | true=>refine⟨m,rfl,?_⟩;simp at hA hq;simp[hA,hq,hm]
theorem and8S {c : Bool} {ok oi L : Option Bool} {PC PK PI PQ : Prop} (hc : c = false ↔ PC) (hk : SaysP ok PK) (hi : SaysP oi PI) (hL : SaysP L PQ) :
   SaysP (some c >>=fun t239=>(if(!t239)=true then ok else some false) >>=fun r_12=>some (bif t239 then true else(!r_12)) >>=fun t249=>(if(!t249)=true then oi else some false) >>=fun r_13=>if(bif t249 then true else(!r_13))=true then some false else L) (PC∧PK∧PI∧PQ):=by
 obtain⟨k,rfl,hk⟩:=hk;obtain⟨i,rfl,hi⟩:=hi;obtain⟨q,rfl,hq⟩:=hL;rw[←hc,←hk,←hi,←hq];cases c <;> cases k <;> cases i <;> exact⟨_,rfl,by simp⟩
theorem gm0{l:List SSymbol}{id:Int}{r:Int × Bool}(h:gfh l id r) :r.2=true↔∃y,y∈l∧y.ID=id:=by
 rcases h with⟨j,h1,h2,h3,rfl⟩ | ⟨h1,rfl⟩
 · simp only[true_iff];exact⟨_,gg h1 dSSymbol,h2⟩
 · constructor
   · intro h;cases h
   · rintro ⟨y,hy,he⟩
     obtain⟨i,hi,rfl⟩:=List.getElem_of_mem hy;have:=h1 i hi;rw[g1c hi]at this;exact absurd he this
section
variable {ts:List SType} (hn:ts.length < 9223372036854775807) (hT:∀t,t∈ts→OkT t) (hK:∀t,t∈ts→gae t.Kind)
include hn hT hK in
theorem gxo{v:SValue}(hv:OkV v) :FitS ts v:=by
 induction hv with
 | mk v hs h1 h2 h3 hk hi hrd n1 n2 n3 n4 ihk ihi=>
   intro t pl;rw[g1q];by_cases hout:(bif decide (t < 0)then true else decide (((⟨ts⟩:SSchema).Types.length:Int)≤t))=true
   · rw[if_pos hout];refine⟨false,rfl,?_⟩;rw[g7i];have:¬(0≤t∧t < ts.length):=by
       intro hh;simp only[Bool.cond_eq_ite]at hout;by_cases h0:t < 0
       · omega
       · simp[h0]at hout;omega
     constructor
     · intro h;cases h
     · rintro ⟨⟨a,b,_⟩,_⟩;exact absurd ⟨a,b⟩ this
   · rw[if_neg hout];have hin:0≤t∧t < ts.length:=by
       simp only[Bool.cond_eq_ite]at hout;by_cases h0:t < 0
       · simp[h0]at hout
       · simp[h0]at hout;omega
     obtain⟨j,rfl⟩:∃j:Nat,t=(j:Int):=⟨t.toNat,by omega⟩
     have hj:j < ts.length:=by omega
     rw[if_pos (g6 hj)];simp only[g7i,g7,SValue.gq];have hxT:=hT _ (gg hj dSType);have hxK:=hK _ (gg hj dSType);generalize ts.getD j dSType=x at hxT hxK ⊢;have hm:=g13 (g3v hxT.mems);have hsy:=g13 (g3v hxT.syms);by_cases hkd:v.Kind=x.Kind
     · obtain⟨z,z1,z2⟩:=gwa v;have hitems:=gq3 (ts:=ts) h2 ihi;have hkeys:=gq3 (ts:=ts) h1 ihk;show SaysP ((if(!(!(decide (v.Kind=x.Kind))))=true then g5f v else some false) >>=_) _;rw[if_pos (by simp[hkd]),z1];obtain⟨K,N,L,H,M,S,Ms,Ke,E,O⟩:=x;obtain⟨vK,B,I,Sx,ID,Ks,Is,R⟩:=v;simp only at hkd;subst hkd;simp only at hxK hm hsy h1 h2 h3 z1
       have hb:(bif pl then decide (0 < (R.length:Int))else false)=false↔(pl=true→R=[]):=by
         cases pl
         · simp
         · cases R <;> simp
       have hc:vK=1∨vK=2∨vK=3∨vK=4∨vK=5∨vK=6∨vK=7∨vK=8∨vK=9:=by unfold gae at hxK;omega
       have cut : ∀ {o : Option Bool} {P W : Prop}, SaysP o P → ((ZeroV ⟨vK, B, I, Sx, ID, Ks, Is, R⟩ ∧ (pl = true → R = []) ∧ P) ↔ W) →
           SaysP (some z >>=fun r=>if(bif (bif false then true else(!r))then true else bif pl then decide (0 < (R.length:Int))else false)=true then some false else o) W:=fun ho hw=>(cutS z2 hb ho).imp hw
       have hz:(0:Int)≤j∧(j:Int) < ts.length:=hin;rcases hc with rfl | rfl | rfl | rfl | rfl | rfl | rfl | rfl | rfl
       · exact cut (P:=True) (.of (b:=true) (by simp)) (by unfold ZeroV;simp[hz];grind)
       · exact cut (P:=L≤I∧I≤H) (.of (b:=bif decide (L≤I)then decide (I≤H)else false) (by by_cases g:L≤I <;> simp[g])) (by unfold ZeroV;simp[hz];grind)
       · exact cut (P:=(Sx.length:Int)≤M) (.of (b:=decide ((Sx.length:Int)≤M)) (by simp)) (by unfold ZeroV;simp[hz];grind)
       · obtain⟨r,_,r2,hf⟩:=gei (t:=⟨4,N,L,H,M,S,Ms,Ke,E,O⟩) ID hsy;have hid:g1h (ID,false)=some (bif decide (1≤ID)then decide (ID≤1000)else false):=by
           rw[g1h];cases decide (1≤ID) <;> rfl
         have h4:=k4r r2 O pl _ (fun b=>g1h (ID,b)) hid;have hs:=gm0 hf;simp only at hs;refine cut (P:=(∃y,y∈S∧y.ID=ID)∨O=true∧pl=false∧I1000 ID) ⟨_,h4,?_⟩ (by unfold ZeroV;simp[hz];grind);rw[←hs];unfold I1000;cases r.2 <;> cases O <;> cases pl <;> by_cases g1:1≤ID <;> by_cases g2:ID≤1000 <;> simp[g1,g2]
       · refine cut (P:=Is.length=Ms.length∧g6c Ms R∧vfitm ts pl Ms Is) ?_ (by
           have:vfitm ts pl Ms Is→Is.length=Ms.length:=fun h=>(g6t.1 h).1
           unfold ZeroV;simp[hz];grind)
         exact and5S (A:=decide ((Is.length:Int)=(Ms.length:Int))) (by simp;omega) (gw8 (t:=⟨5,N,L,H,M,S,Ms,Ke,E,O⟩) hm h3) (fun hA=>gu6 (ts:=ts) (t:=⟨5,N,L,H,M,S,Ms,Ke,E,O⟩) (v:=⟨5,B,I,Sx,ID,Ks,Is,R⟩) (glv hA) hm ihi pl)
       · obtain⟨r,_,r2,hf⟩:=g4m (t:=⟨6,N,L,H,M,S,Ms,Ke,E,O⟩) ID hm;have hid:∀b,b=false→g1h (ID,b)=some (bif decide (1≤ID)then decide (ID≤1000)else false):=by
           intro b hb;subst hb;rw[g1h];cases decide (1≤ID) <;> rfl
         have hR0:decide ((R.length:Int)=1)=true→inR 0 R.length=true:=by
           intro h;have:=of_decide_eq_true h;exact g6 (k:=0) (by omega)
         refine cut (P:=match findM Ms ID with
           | some m=>R=[]∧Is.length=1∧vfits ts pl m.Type_ Is
           | none=>O=true∧pl=false∧I1000 ID∧Is=[]∧∃d,R=[⟨ID,d⟩]) ?_ (by
             unfold ZeroV;simp[hz]
             cases findM Ms ID <;> grind)
         obtain⟨ri,rk⟩:=r;show SaysP (g1l (⟨6,N,L,H,M,S,Ms,Ke,E,O⟩,ID) >>=_) _;rw[r2];rcases g70 hf with⟨e,k,k1,k2,k3,k4⟩ | ⟨e,k3⟩
         · simp only at e k1 k2 k3 k4;subst e;subst k2;rw[k3];have hX:∃f:Bool,((bif decide ((Is.length:Int)=1)then decide ((R.length:Int)=0)else false)=true→g1q ((⟨ts⟩:SSchema),(Ms.getD (k:Int).toNat dSMember).Type_,Is.getD (0:Int).toNat dSValue,pl)=some f)∧(Is.length=1→(f=true↔vfits ts pl (Ms.getD k dSMember).Type_ Is)):=by
             by_cases h1':Is.length=1
             · obtain⟨f,f1,f2⟩:=ihi (Is.getD 0 dSValue) (gg (by omega:0 < Is.length) dSValue) (Ms.getD k dSMember).Type_ pl;refine⟨f,fun _=>f1,fun _=>?_⟩;rw[f2]
               match Is,h1' with
               | [y],_=>rw[g1d];simp
             · refine⟨false,fun h=>?_,fun h=>absurd h h1'⟩
               exfalso
               have:decide ((Is.length:Int)=1)=false:=by simp;omega
               rw[this]at h;cases h
           obtain⟨f,f1,f2⟩:=hX;have hidx:(bif decide ((Is.length:Int)=1)then decide ((R.length:Int)=0)else false)=true→inR (k:Int) Ms.length=true∧inR 0 Is.length=true:=by
             intro hc';refine⟨g6 k1,?_⟩;by_cases h1':Is.length=1
             · exact g6 (k:=0) (by omega)
             · have:decide ((Is.length:Int)=1)=false:=by simp;omega
               rw[this]at hc';cases hc'
           refine⟨_,k6k _ (inR (k:Int) Ms.length) (inR 0 Is.length) f f1 hidx,?_⟩;by_cases g1:Is.length=1
           · have g2:=f2 g1;simp only[g1,Bool.and_eq_true,g2];cases R <;> simp <;> omega
           · have:decide ((Is.length:Int)=1)=false:=by simp;omega
             simp[this,g1]
         · simp only at e k3;subst e;rw[k3];refine⟨_,k6u (bif O then(!pl)else false) (bif decide (1≤ID)then decide (ID≤1000)else false) (decide ((Is.length:Int)=0)) (decide ((R.length:Int)=1)) (inR 0 R.length) (decide ((R.getD (0:Int).toNat dSRaw).ID=ID)) hR0,?_⟩;unfold I1000
           match R with
           | []=>simp
           | [⟨rid,rd⟩]=>
             cases O <;> cases pl <;> by_cases g1:1≤ID <;> by_cases g2:ID≤1000 <;> cases Is <;> by_cases g3:rid=ID <;> simp[g1,g2,g3] <;> omega
           | a::b::c=>simp;omega
       · exact cut (P:=(Is.length:Int)≤M∧vfits ts pl E Is) (and2S (by simp) (hitems E pl)) (by unfold ZeroV;simp[hz];grind)
       · refine cut (P:=((Ks.length:Int)≤M∧Is.length=Ks.length)∧vfits ts pl Ke Ks∧vfits ts pl E Is∧g5o Ks) ?_ (by unfold ZeroV;simp[hz];grind);refine and8S (c:=bif decide (M < (Ks.length:Int))then true else(!(decide ((Is.length:Int)=(Ks.length:Int))))) ?_ (hkeys Ke pl) (hitems E pl) (gw9 (v:=⟨8,B,I,Sx,ID,Ks,Is,R⟩) (g13 h1) hk)
         by_cases g1:M < (Ks.length:Int)
         · simp[g1];omega
         · simp[g1];omega
       · exact cut (P:=Is.length≤1∧vfits ts pl E Is) (and2S (q:=decide ((Is.length:Int)≤1)) (by simp;omega) (hitems E pl)) (by unfold ZeroV;simp[hz];grind)
     · refine⟨false,by simp[hkd],?_⟩;constructor
       · intro h;cases h
       · rintro ⟨⟨_,_,a,_⟩,_⟩;exact absurd a hkd
end
end
section
open Go Go.Proofs.YthnmepafpikaiaaGreat.Shv Go.Sort
set_option maxRecDepth 100000
theorem room1{n:Nat}(h:n≤70368744177664) :room 1 n=true:=by
 unfold room g42 g1j;simp only[Bool.and_eq_true,decide_eq_true_eq];omega
theorem gwb{n:Nat}(h:n≤2199023255552) :room 24 n=true:=by
 unfold room g42 g1j;simp only[Bool.and_eq_true,decide_eq_true_eq];omega
theorem bws{s b:List UInt8}(h:b.length+s.length≤70368744177664) :g23 (s,b)=some ((s.length:Int),b++s):=by
 rw[g23];simp only[oZ4,oZ3];rw[if_pos (by simp),if_pos (room1 h)];rfl
theorem bstr(b:List UInt8) :g4k b=some b:=by
 rw[g4k,if_pos (by simp[eqI])]
theorem gfi(a b:Nat) :maxI (a:Int) (b:Int)=((max a b:Nat):Int):=by unfold maxI;omega
theorem g27{α:Type}{l:List α}{i:Nat}(h:i < l.length)(d:α) :l.drop i=l.getD i d::l.drop (i+1):=by
 rw[g1c h];exact List.drop_eq_getElem_cons h
def ent(f:Fd) :EncodeEntry:=⟨(f.id:Int),f.text⟩
theorem gu7{m:SMember}(hm:OkV m.Default)(v:SValue) :g8x (m,v)=some (om m v):=by
 rw[g8x];unfold om;cases hd:m.HasDefault with
 | false=>simp
 | true=>
   obtain⟨r,h1,h2⟩:=gtx hm v;simp only[SValue.gq];rw[if_pos trivial,h1];simp only[oZ4,oZ3,cond_true,Bool.true_and]
   congr 1
   by_cases e:m.Default=v
   · simp[e,h2.2 e]
   · have:r≠true:=fun h=>e (h2.1 h)
     simp[e,this]
theorem gs4{m:SMember}{v:SValue}(hv:OkV v)(hd:m.HasDefault=true) :g12 (v,m.Default)=some (om m v):=by
 obtain⟨r,h1,h2⟩:=gik hv m.Default;rw[h1];unfold om;rw[hd,Bool.true_and]
 congr 1
 by_cases e:m.Default=v
 · simp[e,h2.2 e.symm]
 · have:r≠true:=fun h=>e (h2.1 h).symm
   simp[e,this]
section
variable {ts:List SType}
def Wr(ts:List SType)(x:SValue)(t:Int) :Prop:=∀L D:Nat,1≤L→L+wt x≤1125899906842624→g19 (t,x,(L:Int),ts,(D:Int))=some (vpay ts t x,ts,((max D (L+vlev ts t x - 1):Nat):Int))
theorem gnr :∀{ms:List SMember} {l:List SValue},(vents ts ms l).length≤ms.length
 | [],l=>by
   rw[vents]
   · simp
   · intros;simp_all
 | m::ms,[]=>by
   rw[vents]
   · simp
   · intros;simp_all
 | m::ms,v::l=>by
   rw[vents];have:=gnr (ms:=ms) (l:=l);split <;> simp <;> omega
theorem gau(t:Int)(v:SValue) :1≤vlev ts t v:=by
 cases v;rw[vlev];omega
theorem gwc {Ms : List SMember} {v : SValue} (hM : Ms.length ≤ 1000) (hd : ∀ m, m ∈ Ms → OkV m.Default) (hid : ∀ m, m ∈ Ms → I1000 m.ID) (hl : v.Items.length = Ms.length) (hlen : ∀ x, x ∈ v.Items → ∀ t, (vpay ts t x).length ≤ 70368744177664)
   (hw:∀i,i < Ms.length→om (Ms.getD i dSMember) (v.Items.getD i dSValue)=false→Wr ts (v.Items.getD i dSValue) (Ms.getD i dSMember).Type_) (L:Nat) (hL:1≤L) (hLw:L+wts v.Items < 1125899906842624):
   ∀(k i:Nat) (D:Nat) (acc:List EncodeEntry),i+k=Ms.length→L≤D→acc.length+k≤100000→
   g2c ((L:Int),Ms,(Ms.length:Int),(i:Int),ts,(D:Int),v,acc)=some (ts,((max D (L+vlevm ts (Ms.drop i) (v.Items.drop i)):Nat):Int),v,acc++(vents ts (Ms.drop i) (v.Items.drop i)).map ent)
 | 0,i,D,acc,hi,hD,ha=>by
   rw[g2c,if_neg (by simp;omega),SValue.gq,List.drop_eq_nil_of_le (by omega:Ms.length≤i)];rw[vlevm,vents]
   · simp;omega
   · intros;simp_all
   · intros;simp_all
 | k+1,i,D,acc,hi,hD,ha=>by
   have hlt:i < Ms.length:=by omega
   have hlt2:i < v.Items.length:=by omega
   rw[g2c,if_pos (by simp;omega),if_pos (g6 hlt)];simp only[oZ4,oZ3,g7,SValue.gq,g7r];rw[if_pos (g6 hlt2),gu7 (hd _ (gg hlt dSMember))];rw[g27 hlt dSMember,g27 hlt2 dSValue,vlevm,vents];have hrec:=gwc hM hd hid hl hlen hw L hL hLw k (i+1);cases ho:om (Ms.getD i dSMember) (v.Items.getD i dSValue)with
   | true=>
     simp only[oZ3,Bool.not_true,Bool.false_eq_true,if_false,if_true];rw[gj (by omega)];exact hrec D acc (by omega) hD (by omega)
   | false=>
     have hmem:v.Items.getD i dSValue∈v.Items:=gg hlt2 dSValue;have hwm:=g2m hmem;have hW:=hw i hlt ho (L+1) D (by omega) (by omega);have hlv:=gau (ts:=ts) (Ms.getD i dSMember).Type_ (v.Items.getD i dSValue);have hI:=hid _ (gg hlt dSMember);obtain⟨n,hn⟩:∃n:Nat,(Ms.getD i dSMember).ID=(n:Int):=⟨(Ms.getD i dSMember).ID.toNat,by unfold I1000 at hI;omega⟩
     simp only[oZ3,Bool.not_false,if_true,Bool.false_eq_true,if_false];have hpl:=hlen _ hmem (Ms.getD i dSMember).Type_;have e1:addI .i64 (L:Int) 1=((L+1:Nat):Int):=gj (by omega);rw[if_pos (g6 hlt2),e1,hW];simp only[oZ3];rw[hn,gpr (by unfold I1000 at hI;omega) (by omega)];simp only[oZ3]
     rw[if_pos (gwb (by simp;omega)),gj (by omega),hrec _ _ (by omega) (by omega) (by simp;omega)];have:(⟨(n:Int),g8i n (Ms.getD i dSMember).Critical (vpay ts (Ms.getD i dSMember).Type_ (v.Items.getD i dSValue))⟩:EncodeEntry)=ent ⟨(n:Int).toNat,(Ms.getD i dSMember).Critical,vpay ts (Ms.getD i dSMember).Type_ (v.Items.getD i dSValue)⟩:=by
       unfold ent Fd.text;simp
     rw[this];simp only[List.map_cons,List.append_assoc,List.singleton_append]
     congr 3
     have:max (max D (L+1+vlev ts (Ms.getD i dSMember).Type_ (v.Items.getD i dSValue) - 1)) (L+vlevm ts (Ms.drop (i+1)) (v.Items.drop (i+1)))=max D (L+max (vlev ts (Ms.getD i dSMember).Type_ (v.Items.getD i dSValue)) (vlevm ts (Ms.drop (i+1)) (v.Items.drop (i+1)))):=by omega
     rw[this]
theorem gwd {R : List SRaw} (hr : ∀ x, x ∈ R → I1000 x.ID ∧ x.Data.length ≤ reachBytes) (hR : R.length ≤ 2199023255552) (D : Int) : ∀ (k i : Nat) (acc : List EncodeEntry), i + k = R.length → acc.length + k ≤ 2199023255552 →
   g2a (R,(R.length:Int),(i:Int),ts,D,acc)=some (ts,D,acc++((R.drop i).map rawF).map ent)
 | 0,i,acc,hi,ha=>by
   rw[g2a,if_neg (by simp;omega),List.drop_eq_nil_of_le (by omega:R.length≤i)];simp
 | k+1,i,acc,hi,ha=>by
   have hlt:i < R.length:=by omega
   obtain⟨hI,hdl⟩:=hr _ (gg hlt dSRaw);obtain⟨n,hn⟩:∃n:Nat,(R.getD i dSRaw).ID=(n:Int):=⟨(R.getD i dSRaw).ID.toNat,by unfold I1000 at hI;omega⟩
   unfold reachBytes at hdl;rw[g2a,if_pos (by simp;omega),if_pos (g6 hlt)];simp only[oZ4,oZ3,g7];rw[hn,gpr (by unfold I1000 at hI;omega) (by omega)];simp only[oZ3];rw[if_pos (gwb (by simp;omega)),gj (by omega),gwd hr hR D k (i+1) _ (by omega) (by simp;omega),g27 hlt dSRaw]
   have:(⟨(n:Int),g8i n false (R.getD i dSRaw).Data⟩:EncodeEntry)=ent (rawF (R.getD i dSRaw)):=by
     show _=(⟨(((R.getD i dSRaw).ID.toNat:Nat):Int),g8i (R.getD i dSRaw).ID.toNat false (R.getD i dSRaw).Data⟩:EncodeEntry);rw[hn,Int.toNat_natCast]
   rw[this];simp
theorem gwe {l : List Fd} (D : Int) : ∀ (k i : Nat) (b : List UInt8), i + k = l.length → l.length ≤ 2199023255552 → b.length + ((l.drop i).flatMap Fd.text).length ≤ 70368744177664 →
   g2b ((l.length:Int),(i:Int),ts,D,l.map ent,b)=some (ts,D,b++(l.drop i).flatMap Fd.text)
 | 0,i,b,hi,_,hb=>by
   rw[g2b,if_neg (by simp;omega),List.drop_eq_nil_of_le (by omega:l.length≤i)];simp
 | k+1,i,b,hi,hl,hb=>by
   have hlt:i < l.length:=by omega
   rw[g2b,if_pos (by simp;omega),if_pos (g6 (by simp;omega)),if_pos (by simp;omega)];rw[g27 hlt default]at hb ⊢;simp only[List.flatMap_cons,List.length_append]at hb ⊢;have hg:(l.map ent).getD i dEncodeEntry=ent (l.getD i default):=g26 ent l i default dEncodeEntry hlt;simp only[g7,hg];have:(ent (l.getD i default)).text=(l.getD i default).text:=rfl
   rw[this,bws (by omega)];simp only[oZ4,oZ3];rw[gj (by omega),gwe D k (i+1) _ (by omega) hl (by rw[List.length_append];omega)];simp
end
end
section
open Go Go.Proofs.YthnmepafpikaiaaGreat.Shv Go.Sort
set_option maxRecDepth 100000
structure SOk (ts:List SType):Prop where
 n:ts.length≤1000
 T:∀t,t∈ts→OkT t
 K:∀t,t∈ts→gae t.Kind
 M:MOk ts
 A:∀x,x∈ts→(x.Kind=5∨x.Kind=6)→MAsc x.Members∧x.Members.length≤16
 S:∀x,x∈ts→x.Kind=4→∀y,y∈x.Symbols→I1000 y.ID
 Ky:∀x,x∈ts→x.Kind=8→1≤(ts.getD x.Key.toNat dSType).Kind∧(ts.getD x.Key.toNat dSType).Kind≤4
section
variable {ts:List SType}
theorem vpay1{t:Int}{v:SValue}(h:(ts.getD t.toNat dSType).Kind=1) :vpay ts t v=if v.Bool_=true then[1]else[]:=by
 cases v;rw[vpay];simp only[h];rfl
theorem vpay2{t:Int}{v:SValue}(h:(ts.getD t.toNat dSType).Kind=2) :vpay ts t v=vbig (zig v.Int_).toNat:=by
 cases v;rw[vpay];simp only[h];rfl
theorem vpay3{t:Int}{v:SValue}(h:(ts.getD t.toNat dSType).Kind=3) :vpay ts t v=v.Str:=by
 cases v;rw[vpay];simp only[h];rfl
theorem vpay4{t:Int}{v:SValue}(h:(ts.getD t.toNat dSType).Kind=4) :vpay ts t v=vbig v.ID.toNat:=by
 cases v;rw[vpay];simp only[h];rfl
theorem vpay5{t:Int}{v:SValue}(h:(ts.getD t.toNat dSType).Kind=5) :vpay ts t v=(isoB ltF (g3d ts (ts.getD t.toNat dSType).Members v.Items v.Rest)).flatMap Fd.text:=by
 cases v;rw[vpay];simp only[h];rfl
theorem vpay6 {t : Int} {v : SValue} (h : (ts.getD t.toNat dSType).Kind = 6) : vpay ts t v = vput v.ID.toNat ++ (match findM (ts.getD t.toNat dSType).Members v.ID with
     | some m=>(vpays ts m.Type_ v.Items).headD []
     | none=>(v.Rest.map SRaw.Data).headD []):=by
 cases v;rw[vpay];simp only[h];rfl
theorem vpay7{t:Int}{v:SValue}(h:(ts.getD t.toNat dSType).Kind=7) :vpay ts t v=(vpays ts (ts.getD t.toNat dSType).Elem v.Items).flatMap g3p:=by
 cases v;rw[vpay];simp only[h];rfl
theorem vpay8{t:Int}{v:SValue}(h:(ts.getD t.toNat dSType).Kind=8) :vpay ts t v=ilv (vpays ts (ts.getD t.toNat dSType).Key v.Keys) (vpays ts (ts.getD t.toNat dSType).Elem v.Items):=by
 cases v;rw[vpay];simp only[h];rfl
theorem vpay9 {t : Int} {v : SValue} (h : (ts.getD t.toNat dSType).Kind = 9) : vpay ts t v = match vpays ts (ts.getD t.toNat dSType).Elem v.Items with
     | []=>[]
     | p::_=>1::p:=by
 cases v;rw[vpay];simp only[h];rfl
theorem gmr (t : Int) (v : SValue) : vlev ts t v = 1 + max (if v.Keys = [] then 0 else 1) (if (ts.getD t.toNat dSType).Kind = 5 then vlevm ts (ts.getD t.toNat dSType).Members v.Items
     else if(ts.getD t.toNat dSType).Kind=6 then(match findM (ts.getD t.toNat dSType).Members v.ID with
       | some m=>vlevs ts m.Type_ v.Items
       | none=>0)
     else vlevs ts (ts.getD t.toNat dSType).Elem v.Items):=by
 cases v;rw[vlev];try rfl
theorem gns{t:Int}{v:SValue}(hk:v.Keys=[])(hi:v.Items=[]) :vlev ts t v=1:=by
 rw[gmr,hk,hi];have h1:vlevs ts (ts.getD t.toNat dSType).Elem []=0:=by rw[vlevs]
 have h2:vlevm ts (ts.getD t.toNat dSType).Members []=0:=by
   rw[vlevm];intros;simp_all
 rw[h1,h2]
 have h3 : (match findM (ts.getD t.toNat dSType).Members v.ID with
       | some m=>vlevs ts m.Type_ []
       | none=>0)=0:=by
   split
   · rw[vlevs]
   · rfl
 rw[h3];simp
theorem gnt {x : SType} {v : SValue} (h8 : ¬ x.Kind = 8) (hlen : ∀ y, y ∈ v.Items → (vpay ts x.Elem y).length ≤ 1000000000000000) (hw : ∀ y, y ∈ v.Items → Wr ts y x.Elem) (hl : v.Items.length ≤ reachBytes) (L : Nat) (hL : 1 ≤ L) (hLw : L + wts v.Items < 1125899906842624) :
   ∀(k i D:Nat) (acc:List UInt8),i+k=v.Items.length→L≤D→acc.length+((vpays ts x.Elem (v.Items.drop i)).flatMap g3p).length≤70368744177664→
   g1a ((L:Int),v.Items,(v.Items.length:Int),(i:Int),ts,(D:Int),v,x,acc)=some (ts,((max D (L+vlevs ts x.Elem (v.Items.drop i)):Nat):Int),acc++(vpays ts x.Elem (v.Items.drop i)).flatMap g3p)
 | 0,i,D,acc,hi,hD,ha=>by
   rw[g1a,if_neg (by simp;omega),List.drop_eq_nil_of_le (by omega:v.Items.length≤i),vlevs,vpays];simp;omega
 | k+1,i,D,acc,hi,hD,ha=>by
   have hlt:i < v.Items.length:=by omega
   have hr:=g13 hl;have hmem:v.Items.getD i dSValue∈v.Items:=gg hlt dSValue;have hwm:=g2m hmem;rw[g27 hlt dSValue,vpays,List.flatMap_cons,List.length_append]at ha;have hp:=hlen _ hmem;have hW:=hw _ hmem (L+1) D (by omega) (by omega);have hlv:=gau (ts:=ts) x.Elem (v.Items.getD i dSValue);have e1:addI .i64 (L:Int) 1=((L+1:Nat):Int):=gj (by omega)
   rw[g1a,if_pos (by simp;omega),if_pos (g6 hlt)];simp only[oZ4,oZ3,g7,SValue.gq];rw[if_neg (by simp[h8]),e1,hW];simp only[oZ3];rw[ggc (by omega)];simp only[oZ3];rw[bws (by omega)];simp only[oZ3]
   rw[gj (by omega),gnt h8 hlen hw hl L hL hLw k (i+1) _ _ (by omega) (by omega) (by rw[List.length_append];omega),g27 hlt dSValue,vlevs,vpays,List.flatMap_cons,List.append_assoc]
   have:max (max D (L+1+vlev ts x.Elem (v.Items.getD i dSValue) - 1)) (L+vlevs ts x.Elem (v.Items.drop (i+1)))=max D (L+max (vlev ts x.Elem (v.Items.getD i dSValue)) (vlevs ts x.Elem (v.Items.drop (i+1)))):=by omega
   rw[this]
theorem gq4 {x : SType} {v : SValue} (h8 : x.Kind = 8) (hkl : v.Items.length = v.Keys.length) (hlen : ∀ y, y ∈ v.Items → (vpay ts x.Elem y).length ≤ 1000000000000000) (hlenk : ∀ y, y ∈ v.Keys → (vpay ts x.Key y).length ≤ 1000000000000000)
   (hw:∀y,y∈v.Items→Wr ts y x.Elem) (hwk:∀y,y∈v.Keys→Wr ts y x.Key) (h1:∀y,y∈v.Keys→vlev ts x.Key y=1) (hl:v.Items.length≤reachBytes) (L:Nat) (hL:1≤L) (hLw:L+wts v.Items+wts v.Keys < 1125899906842624):
   ∀(k i D:Nat) (acc:List UInt8),i+k=v.Items.length→L≤D→acc.length+(ilv (vpays ts x.Key (v.Keys.drop i)) (vpays ts x.Elem (v.Items.drop i))).length≤70368744177664→
   g1a ((L:Int),v.Items,(v.Items.length:Int),(i:Int),ts,(D:Int),v,x,acc)=some (ts,((max D (L+max (if v.Keys.drop i=[]then 0 else 1) (vlevs ts x.Elem (v.Items.drop i))):Nat):Int),acc++ilv (vpays ts x.Key (v.Keys.drop i)) (vpays ts x.Elem (v.Items.drop i)))
 | 0,i,D,acc,hi,hD,ha=>by
   rw[g1a,if_neg (by simp;omega),List.drop_eq_nil_of_le (by omega:v.Items.length≤i),List.drop_eq_nil_of_le (by omega:v.Keys.length≤i),vlevs,vpays,vpays,ilv]
   · simp;omega
   · intros;simp_all
 | k+1,i,D,acc,hi,hD,ha=>by
   have hlt:i < v.Items.length:=by omega
   have hlt2:i < v.Keys.length:=by omega
   have hr:=g13 hl;have hmem:v.Items.getD i dSValue∈v.Items:=gg hlt dSValue;have hmem2:v.Keys.getD i dSValue∈v.Keys:=gg hlt2 dSValue;have hwm:=g2m hmem;have hwm2:=g2m hmem2;rw[g27 hlt dSValue,g27 hlt2 dSValue,vpays,vpays,ilv,List.length_append,List.length_append]at ha;have hp:=hlen _ hmem;have hp2:=hlenk _ hmem2
   have hW2:=hwk _ hmem2 (L+1) D (by omega) (by omega);rw[h1 _ hmem2]at hW2;have hW:=hw _ hmem (L+1) (max D (L+1+1 - 1)) (by omega) (by omega);have hlv:=gau (ts:=ts) x.Elem (v.Items.getD i dSValue);have e1:addI .i64 (L:Int) 1=((L+1:Nat):Int):=gj (by omega);rw[g1a,if_pos (by simp;omega),if_pos (g6 hlt)]
   simp only[oZ4,oZ3,g7,SValue.gq];rw[if_pos (by simp[h8]),if_pos (g6 hlt2),e1,hW2];simp only[oZ3];rw[ggc (by omega)];simp only[oZ3];rw[bws (by omega)];simp only[oZ3];rw[hW];simp only[oZ3];rw[ggc (by omega)];simp only[oZ3];rw[bws (by rw[List.length_append];omega)]
   simp only[oZ3];rw[gj (by omega),gq4 h8 hkl hlen hlenk hw hwk h1 hl L hL hLw k (i+1) _ _ (by omega) (by omega) (by rw[List.length_append,List.length_append];omega),g27 hlt dSValue,g27 hlt2 dSValue,vlevs,vpays,vpays,ilv,List.append_assoc,List.append_assoc];have hne:(if v.Keys.getD i dSValue::v.Keys.drop (i+1)=[]then 0 else 1)=1:=by simp
   have hle:(if v.Keys.drop (i+1)=[]then 0 else 1)≤1:=by split <;> omega
   rw[hne];generalize (if v.Keys.drop (i+1)=[]then 0 else 1)=q at hle ⊢;have:max (max (max D (L+1+1 - 1)) (L+1+vlev ts x.Elem (v.Items.getD i dSValue) - 1)) (L+max q (vlevs ts x.Elem (v.Items.drop (i+1))))=max D (L+max 1 (max (vlev ts x.Elem (v.Items.getD i dSValue)) (vlevs ts x.Elem (v.Items.drop (i+1))))):=by omega
   rw[this]
end
end
section
open Go Go.Proofs.YthnmepafpikaiaaGreat.Shv Go.Sort
set_option maxRecDepth 100000
section
variable {ts:List SType} (H:SOk ts)
theorem g83(H:SOk ts){v:SValue}(hv:OkV v)(hw:wt v≤1099511627776)(t:Int) :(vpay ts t v).length≤23089744183296:=by
 have:=gxn H.M hv hw t;omega
theorem gwf{ms:List SMember}{l:List SValue}{r:List SRaw}(h:MAsc ms)(hr:g6c ms r) :gi1 ((g3d ts ms l r).map ent)=some ((isoB ltF (g3d ts ms l r)).map ent):=by
 have e:∀a b:Fd,sortLt (ent a) (ent b)=ltF a b:=fun a b=>by unfold sortLt ltF ent;simp
 have hO:SWO sortLt:=by
   refine⟨fun x=>?_,fun x y z h1 h2=>?_,fun x y z h1 h2=>?_⟩ <;> simp[sortLt]at* <;> omega
 have hp:g7v sortLt ((g3d ts ms l r).map ent)=true:=by
   have h0:=ggt (ts:=ts) (l:=l) h hr;generalize g3d ts ms l r=q at h0
   induction q with
   | nil=>rfl
   | cons a q ih=>
     simp only[g7v,Bool.and_eq_true,List.all_eq_true,List.map_cons]at h0 ⊢;refine⟨fun y hy=>?_,ih h0.2⟩;obtain⟨z,hz,rfl⟩:=List.mem_map.1 hy;rw[e,e];exact h0.1 z hz
 unfold gi1;rw[grr hO hp,gpz ent e]
theorem mxs{D L b w:Nat}(h:w=1+b) :max (max D L) (L+b)=max D (L+w - 1):=by omega
theorem mxq{D L b w:Nat}(h:w=1+b) :max (max D L) (L+1+b - 1)=max D (L+w - 1):=by omega
theorem mx0{b w:Nat}(h:w=1+max 0 b) :w=1+b:=by omega
theorem gyl {x : SType} {v : SValue} (hdef : ∀ m, m ∈ x.Members → OkV m.Default) (hma : MAsc x.Members) (hm16 : x.Members.length ≤ 16) (c6 : g6c x.Members v.Rest) (hil : v.Items.length = x.Members.length)
   (hrd:∀y,y∈v.Rest→y.Data.length≤reachBytes) (hlenI:∀x,x∈v.Items→∀t,(vpay ts t x).length≤23089744183296)
   (hWI:∀i,i < x.Members.length→Wr ts (v.Items.getD i dSValue) (x.Members.getD i dSMember).Type_)
   (hlenv:((isoB ltF (g3d ts x.Members v.Items v.Rest)).flatMap Fd.text).length≤23089744183296)
   (L D:Nat) (hL:1≤L) (hD:L≤D) (hLw:L+wts v.Items < 1125899906842624) (hRw:(v.Rest.map fun x=>x.Data.length+1).sum≤1099511627776):
   g5y (x,v,(L:Int),ts,(D:Int))=some ((isoB ltF (g3d ts x.Members v.Items v.Rest)).flatMap Fd.text,ts,((max D (L+vlevm ts x.Members v.Items):Nat):Int)):=by
 have hma1:=hma.2;have hRok:∀y,y∈v.Rest→I1000 y.ID∧y.Data.length≤reachBytes:=fun y hy=>⟨(c6.2 y hy).1,hrd y hy⟩
 have hRl:v.Rest.length≤(v.Rest.map fun x=>x.Data.length+1).sum:=by
   generalize v.Rest=R
   induction R with
   | nil=>simp
   | cons a R ih=>simp only[List.length_cons,List.map_cons,List.sum_cons];omega
 have hnl:=gnr (ts:=ts) (ms:=x.Members) (l:=v.Items);have r0:=gwc (ts:=ts) (Ms:=x.Members) (v:=v) (by omega) hdef hma1 hil (fun y hy t=>by have:=hlenI y hy t;omega) (fun i hi _=>hWI i hi) L hL (by omega) x.Members.length 0 D [] (by omega) (by omega) (by simp;omega);have r0':g2c ((L:Int),x.Members,(x.Members.length:Int),0,ts,(D:Int),v,[])=_:=r0;rw[g5y]
 simp only[SValue.gq];rw[r0'];simp only[oZ4,oZ3,List.drop_zero,List.nil_append];generalize ((max D (L+vlevm ts x.Members v.Items):Nat):Int)=d;have r1:=gwd (ts:=ts) (R:=v.Rest) hRok (by omega) d v.Rest.length 0 ((vents ts x.Members v.Items).map ent) (by omega) (by simp;omega)
 have r1':g2a (v.Rest,(v.Rest.length:Int),0,ts,d,(vents ts x.Members v.Items).map ent)=_:=r1;rw[r1'];simp only[oZ3,List.drop_zero];rw[←List.map_append];have hs:=gwf (ts:=ts) (l:=v.Items) hma c6;have hlen:(g3d ts x.Members v.Items v.Rest).length≤2199023255552:=by unfold g3d;simp;omega
 have e0:vents ts x.Members v.Items++v.Rest.map rawF=g3d ts x.Members v.Items v.Rest:=rfl;rw[e0];generalize g3d ts x.Members v.Items v.Rest=q at*;rw[hs];simp only[oZ3];have hperm:=g6p ltF q;rw[if_pos (by simp[hperm.length_eq])];have hll:(isoB ltF q).length≤2199023255552:=by
   rw[hperm.length_eq];exact hlen
 generalize isoB ltF q=z at*;have r2:=gwe (ts:=ts) (l:=z) d z.length 0 [] (Nat.zero_add _) hll (by simp only[List.drop_zero,List.length_nil];omega);have r2':g2b (((z.map ent).length:Int),0,ts,d,z.map ent,[])=some (ts,d,[]++(z.drop 0).flatMap Fd.text):=by
   rw[List.length_map];exact r2
 rw[r2'];simp only[oZ3,bstr,List.drop_zero,List.nil_append]
theorem gwg {x : SType} {v : SValue} (hm : x.Members.length < 9223372036854775807) (hma : MAsc x.Members) (n3 : -9223372036854775808 ≤ v.ID ∧ v.ID ≤ 9223372036854775807)
   (c5:match findM x.Members v.ID with
     | some m=>v.Rest=[]∧v.Items.length=1∧vfits ts false m.Type_ v.Items
     | none=>x.Open=true∧True∧I1000 v.ID∧v.Items=[]∧∃d,v.Rest=[⟨v.ID,d⟩])
   (hrd:∀y,y∈v.Rest→y.Data.length≤reachBytes) (hlenI:∀x,x∈v.Items→∀t,(vpay ts t x).length≤23089744183296)
   (hWI:∀x,x∈v.Items→∀t,vfit ts false t x→Wr ts x t)
   (L D:Nat) (hL:1≤L) (hD:L≤D) (hLw:L+wts v.Items < 1125899906842624):
   g57 (x, v, (L : Int), ts, (D : Int)) = some (vput v.ID.toNat ++ (match findM x.Members v.ID with
         | some m=>(vpays ts m.Type_ v.Items).headD []
         | none=>(v.Rest.map SRaw.Data).headD []),ts,((max D (L+(match findM x.Members v.ID with
         | some m=>vlevs ts m.Type_ v.Items
         | none=>0)):Nat):Int)):=by
 obtain⟨r,r1,_,hf⟩:=g4m (t:=x) v.ID hm;rcases g70 hf with⟨e,q,q1,q2,q3,q4⟩ | ⟨e,q3⟩
 · rw[q3]at c5;rw[q3];simp only at c5 ⊢;obtain⟨d1,d2,d3⟩:=c5;have hI:=hma.2 _ (gg q1 dSMember);rw[q4]at hI;obtain⟨n,hn⟩:∃n:Nat,v.ID=(n:Int):=⟨v.ID.toNat,by unfold I1000 at hI;omega⟩
   rw[g57];simp only[SValue.gq];rw[r1,hn,wrpn (by unfold I1000 at hI;omega),gi9 (by unfold I1000 at hI;omega)];simp only[oZ4,oZ3];rw[if_neg (by simp[e]),q2,if_pos (g6 q1)]
   match hI:v.Items,d2 with
   | [y],_=>
     have hy:y∈v.Items:=by rw[hI];exact .head _
     have hi0:inR 0 ([y]:List SValue).length=true:=g6 (k:=0) (by simp);have hwm:=g2m hy;have hf:=g1d.1 d3 y hy;have hW:=hWI y hy _ hf (L+1) D (by omega) (by omega);have e1:addI .i64 (L:Int) 1=((L+1:Nat):Int):=gj (by omega);rw[if_pos hi0,e1];simp only[g7,Int.toNat_zero,List.getD_cons_zero];rw[hW];have hp:=hlenI y hy (x.Members.getD q dSMember).Type_
     have hp10:=g3x (n:=n) (by rw[hn]at n3;omega);simp only[oZ3];rw[if_pos (g2k (by omega))];have hlv:=gau (ts:=ts) (x.Members.getD q dSMember).Type_ y;have ev:vlevs ts (x.Members.getD q dSMember).Type_ [y]=vlev ts (x.Members.getD q dSMember).Type_ y:=by
       have e0:vlevs ts (x.Members.getD q dSMember).Type_ []=0:=by rw[vlevs]
       rw[vlevs,e0];omega
     have ep:vpays ts (x.Members.getD q dSMember).Type_ [y]=[vpay ts (x.Members.getD q dSMember).Type_ y]:=by rw[vpays,vpays]
     have e:max D (L+1+vlev ts (x.Members.getD q dSMember).Type_ y - 1)=max D (L+vlev ts (x.Members.getD q dSMember).Type_ y):=by omega
     rw[ep,ev,e];rfl
 · rw[q3]at c5;rw[q3];simp only at c5 ⊢;obtain⟨d1,d2,d3,d4,d,d5⟩:=c5;obtain⟨n,hn⟩:∃n:Nat,v.ID=(n:Int):=⟨v.ID.toNat,by unfold I1000 at d3;omega⟩
   have hdl:=hrd ⟨v.ID,d⟩ (by rw[d5];exact .head _);simp only at hdl;unfold reachBytes at hdl;have hp10:=g3x (n:=n) (by rw[hn]at n3;omega);rw[g57];simp only[SValue.gq];rw[r1,d5,hn,wrpn (by unfold I1000 at d3;omega),gi9 (by unfold I1000 at d3;omega)];simp only[oZ4,oZ3]
   have hi0:inR 0 ([⟨(n:Int),d⟩]:List SRaw).length=true:=g6 (k:=0) (by simp);rw[if_pos (by simp[e]),if_pos hi0];simp only[Int.toNat_zero,List.getD_cons_zero];rw[if_pos (g2k (by omega))];have e:max D (L+0)=D:=by omega
   rw[e];rfl
set_option maxHeartbeats 400000 in
theorem gym(H:SOk ts){v:SValue}(hv:OkV v) :wt v≤1099511627776→∀t,vfit ts false t v→Wr ts v t:=by
 induction hv with
 | mk v hs h1 h2 h3 hk hi hrd n1 n2 n3 n4 ihk ihi=>
   intro hw t hf L D hL hLw;have hOk:OkV v:= .mk v hs h1 h2 h3 hk hi hrd n1 n2 n3 n4;have hwt:=wt_eq v;have hlenI:∀x,x∈v.Items→∀t,(vpay ts t x).length≤23089744183296:=fun x hx t=>g83 H (hi x hx) (by have:=g2m hx;omega) t
   have hlenK:∀x,x∈v.Keys→∀t,(vpay ts t x).length≤23089744183296:=fun x hx t=>g83 H (hk x hx) (by have:=g2m hx;omega) t
   have hWI:∀x,x∈v.Items→∀t,vfit ts false t x→Wr ts x t:=fun x hx t=>ihi x hx (by have:=g2m hx;omega) t
   have hWK:∀x,x∈v.Keys→∀t,vfit ts false t x→Wr ts x t:=fun x hx t=>ihk x hx (by have:=g2m hx;omega) t
   have hlenv:=g83 H hOk hw t;obtain⟨⟨g1,g2,g3,_⟩,hf⟩:=(g7i _ _ _).1 hf;obtain⟨j,rfl⟩:∃j:Nat,t=(j:Int):=⟨t.toNat,by omega⟩
   have hj:j < ts.length:=by omega
   rw[g19];simp only[oZ4,oZ3];rw[if_pos (g6 hj),gfi];simp only[g7,SValue.gq]at hf g3 ⊢;have hxm:=gg hj dSType;have hlev:=gmr (ts:=ts) (j:Int) v;have hv1:=@vpay1 ts (j:Int) v;have hv2:=@vpay2 ts (j:Int) v;have hv3:=@vpay3 ts (j:Int) v;have hv4:=@vpay4 ts (j:Int) v;have hv5:=@vpay5 ts (j:Int) v;have hv6:=@vpay6 ts (j:Int) v
   have hv7:=@vpay7 ts (j:Int) v;have hv8:=@vpay8 ts (j:Int) v;have hv9:=@vpay9 ts (j:Int) v;simp only[g7]at hlev hv1 hv2 hv3 hv4 hv5 hv6 hv7 hv8 hv9;have hA:=H.A _ hxm;have hKy:=H.Ky _ hxm;have hS:=H.S _ hxm;generalize ts.getD j dSType=x at*;have hlE:¬x.Kind=5→¬x.Kind=6→v.Keys=[]→vlev ts (j:Int) v=1+vlevs ts x.Elem v.Items:=fun a b c=>by
     rw[hlev,if_neg a,if_neg b,if_pos c,Nat.zero_max]
   have leaf:v.Keys=[]→v.Items=[]→max D (L+vlev ts (j:Int) v - 1)=max D L:=fun a b=>by rw[gns a b];omega
   rcases hf with⟨k,c1,c2,c3,c4,c5,c6⟩ | ⟨k,c1,c2,c3,c4,c5,c6,c7,c8⟩ | ⟨k,c1,c2,c3,c4,c5,c6,c7⟩ | ⟨k,c1,c2,c3,c4,c5,c6,c7⟩ | ⟨k,c1,c2,c3,c4,c5,c6,c7⟩ | ⟨k,c1,c2,c3,c4,c5⟩ | ⟨k,c1,c2,c3,c4,c5,c6,c7,c8⟩ | ⟨k,c1,c2,c3,c4,c5,c6,c7,c8,c9,c10⟩ | ⟨k,c1,c2,c3,c4,c5,c6,c7,c8⟩ <;> rw[k]at g3
   · have kx:=g3.symm;rw[if_pos (by simp[kx]),hv1 kx,leaf c4 c5];cases v.Bool_ <;> rfl
   · have kx:=g3.symm;rw[if_neg (by simp[kx]),if_pos (by simp[kx]),hv2 kx,leaf c4 c5,gpv n2];simp only[oZ3];have hz:=gq1 n2;obtain⟨n,hn⟩:∃n:Nat,zig v.Int_=(n:Int):=⟨(zig v.Int_).toNat,by unfold zig;split <;> omega⟩
     rw[hn,Int.toNat_natCast]at hz;rw[hn,gw7 hz];rfl
   · have kx:=g3.symm;rw[if_neg (by simp[kx]),if_neg (by simp[kx]),if_pos (by simp[kx]),hv3 kx,leaf c4 c5]
   · have kx:=g3.symm;rw[if_neg (by simp[kx]),if_neg (by simp[kx]),if_neg (by simp[kx]),if_pos (by simp[kx]),hv4 kx,leaf c4 c5]
     obtain⟨n,hn⟩:∃n:Nat,v.ID=(n:Int):=⟨v.ID.toNat,by
       rcases c7 with⟨y,hy,he⟩ | ⟨_,_,he⟩
       · have:=hS kx y hy;unfold I1000 at this;omega
       · unfold I1000 at he;omega⟩
     rw[hn,wrpn (by omega),gw7 (by omega),Int.toNat_natCast];rfl
   · have kx:=g3.symm;rw[if_neg (by simp[kx]),if_neg (by simp[kx]),if_neg (by simp[kx]),if_neg (by simp[kx]),if_pos (by simp[kx]),hv5 kx];obtain⟨hma,hm16⟩:=hA (.inl kx);obtain⟨hil,hip⟩:=g6t.1 c7
     rw[gyl (H.T _ hxm).dv hma hm16 c6 hil (fun y hy=>hrd y hy) hlenI (fun i hi=>hWI _ (gg (by omega) dSValue) _ (hip i hi)) (by rw[←hv5 kx];exact hlenv) L (max D L) hL (by omega) (by omega) (by omega)];simp only[oZ3];rw[if_pos kx,if_pos c5]at hlev;have e:max (max D L) (L+vlevm ts x.Members v.Items)=max D (L+vlev ts (j:Int) v - 1):=mxs (mx0 hlev);rw[e]
   · have kx:=g3.symm;rw[if_neg (by simp[kx]),if_neg (by simp[kx]),if_neg (by simp[kx]),if_neg (by simp[kx]),if_neg (by simp[kx]),if_pos (by simp[kx]),hv6 kx];obtain⟨hma,hm16⟩:=hA (.inr kx);rw[if_neg (show ¬x.Kind=5 by omega),if_pos kx,if_pos c4]at hlev
     rw[gwg (g13 (g3v (H.T _ hxm).mems)) hma n3 c5 (fun y hy=>hrd y hy) hlenI hWI L (max D L) hL (by omega) (by omega)];simp only[oZ3]
     exact congrArg (fun z : Nat => (some (vput v.ID.toNat ++ (match findM x.Members v.ID with
         | some m=>(vpays ts m.Type_ v.Items).headD []
         | none=>(v.Rest.map SRaw.Data).headD []),ts,(z:Int)):Option (List UInt8 × List SType × Int))) (mxs (D:=D) (L:=L) (mx0 hlev))
   · have kx:=g3.symm;rw[if_neg (by simp[kx]),if_neg (by simp[kx]),if_neg (by simp[kx]),if_neg (by simp[kx]),if_neg (by simp[kx]),if_neg (by simp[kx]),if_neg (by simp[kx])];have hf:=g1d.1 c8;rw[hv7 kx]at hlenv
     have:=gnt (x:=x) (v:=v) (by omega) (fun y hy=>by have:=hlenI y hy x.Elem;omega) (fun y hy=>hWI y hy x.Elem (hf y hy)) h2 L hL (by omega) v.Items.length 0 (max D L) [] (by omega) (by omega) (by simp only[List.drop_zero,List.length_nil];omega);have h0:g1a ((L:Int),v.Items,(v.Items.length:Int),0,ts,((max D L:Nat):Int),v,x,[])=_:=this;rw[h0]
     simp only[oZ3,bstr];have hl:=hlE (by omega) (by omega) c5;have e:max (max D L) (L+vlevs ts x.Elem v.Items)=max D (L+vlev ts (j:Int) v - 1):=mxs hl;rw[hv7 kx,List.drop_zero,List.nil_append,e]
   · have kx:=g3.symm;rw[if_neg (by simp[kx]),if_neg (by simp[kx]),if_neg (by simp[kx]),if_neg (by simp[kx]),if_neg (by simp[kx]),if_neg (by simp[kx]),if_neg (by simp[kx])];have hf:=g1d.1 c9;have hfk:=g1d.1 c8;rw[hv8 kx]at hlenv;obtain⟨ky1,ky2⟩:=hKy kx;have hl1:∀y,y∈v.Keys→vlev ts x.Key y=1:=fun y hy=>by
       obtain⟨⟨_,_,b3,_⟩,b⟩:=(g7i _ _ _).1 (hfk y hy);apply gns <;> grind
     have:=gq4 (x:=x) (v:=v) kx c7 (fun y hy=>by have:=hlenI y hy x.Elem;omega) (fun y hy=>by have:=hlenK y hy x.Key;omega) (fun y hy=>hWI y hy x.Elem (hf y hy)) (fun y hy=>hWK y hy x.Key (hfk y hy)) hl1 h2 L hL (by omega) v.Items.length 0 (max D L) [] (by omega) (by omega) (by simp only[List.drop_zero,List.length_nil];omega)
     have h0:g1a ((L:Int),v.Items,(v.Items.length:Int),0,ts,((max D L:Nat):Int),v,x,[])=_:=this;rw[h0];simp only[oZ3,bstr];rw[if_neg (show ¬x.Kind=5 by omega),if_neg (show ¬x.Kind=6 by omega)]at hlev;simp only[List.drop_zero,List.nil_append]
     have e:max (max D L) (L+max (if v.Keys=[]then 0 else 1) (vlevs ts x.Elem v.Items))=max D (L+vlev ts (j:Int) v - 1):=mxs hlev;rw[hv8 kx,e]
   · have kx:=g3.symm;rw[if_neg (by simp[kx]),if_neg (by simp[kx]),if_neg (by simp[kx]),if_neg (by simp[kx]),if_neg (by simp[kx]),if_neg (by simp[kx]),if_pos (by simp[kx]),hv9 kx];have hf:=g1d.1 c8
     match hI:v.Items,c7 with
     | [],_=>
       rw[if_pos (by simp),leaf c5 hI,vpays]
     | [y],_=>
       have hy:y∈v.Items:=by rw[hI];exact .head _
       have hi0:inR 0 ([y]:List SValue).length=true:=g6 (k:=0) (by simp);rw[if_neg (by simp),if_pos hi0];have hwm:=g2m hy;have hW:=hWI y hy x.Elem (hf y hy) (L+1) (max D L) (by omega) (by omega);have e1:addI .i64 (L:Int) 1=((L+1:Nat):Int):=gj (by omega);rw[e1];simp only[Int.toNat_zero,List.getD_cons_zero];rw[hW];have hp:=hlenI y hy x.Elem
       simp only[oZ3];rw[if_pos (g2k (by simp;omega))];have hl:=hlE (by omega) (by omega) c5;rw[hI]at hl;have hlv:=gau (ts:=ts) x.Elem y;have ev:vlevs ts x.Elem [y]=vlev ts x.Elem y:=by
         have e0:vlevs ts x.Elem []=0:=by rw[vlevs]
         rw[vlevs,e0];omega
       have ep:vpays ts x.Elem [y]=[vpay ts x.Elem y]:=by rw[vpays,vpays]
       rw[ev]at hl;have e:max (max D L) (L+1+vlev ts x.Elem y - 1)=max D (L+vlev ts (j:Int) v - 1):=mxq hl;rw[ep,e];rfl
     | a::b::c,h=>simp at h
end
end
section
open Go Go.Proofs.YthnmepafpikaiaaGreat.Shv Go.Sort
set_option maxRecDepth 100000
section
variable {ts:List SType}
def Rp(ts:List SType)(x:SValue)(t:Int) :Prop:=g1t ((⟨ts⟩:SSchema),t,x)=some (vpay ts t x)
def Rl(ts:List SType)(x:SValue)(t:Int) :Prop:=g34 ((⟨ts⟩:SSchema),t,x)=some ((vlev ts t x:Nat):Int)
theorem gq5 {x : SType} {v : SValue} (hlen : ∀ y, y ∈ v.Items → (vpay ts x.Elem y).length ≤ 1000000000000000) (hw : ∀ y, y ∈ v.Items → Rp ts y x.Elem) (hl : v.Items.length ≤ reachBytes) :
   ∀(k i:Nat) (acc:List UInt8),i+k=v.Items.length→acc.length+((vpays ts x.Elem (v.Items.drop i)).flatMap g3p).length≤70368744177664→
   g3s (acc,(i:Int),ts,v,x)=some (acc++(vpays ts x.Elem (v.Items.drop i)).flatMap g3p)
 | 0,i,acc,hi,ha=>by
   rw[g3s,if_neg (by simp;omega),List.drop_eq_nil_of_le (by omega:v.Items.length≤i),vpays];simp
 | k+1,i,acc,hi,ha=>by
   have hlt:i < v.Items.length:=by omega
   have hr:=g13 hl;have hmem:v.Items.getD i dSValue∈v.Items:=gg hlt dSValue;rw[g27 hlt dSValue,vpays,List.flatMap_cons,List.length_append]at ha;have hp:=hlen _ hmem;have hW:=hw _ hmem;unfold Rp at hW;rw[g3s,if_pos (by simp;omega),if_pos (g6 hlt)];simp only[oZ4,oZ3,g7,SValue.gq];rw[hW];simp only[oZ3];rw[gb3 (by omega)]
   simp only[oZ3];rw[if_pos (g2k (by omega)),gj (by omega),gq5 hlen hw hl k (i+1) _ (by omega) (by rw[List.length_append];omega),g27 hlt dSValue,vpays,List.flatMap_cons,List.append_assoc]
theorem gs5 {x : SType} {v : SValue} (hkl : v.Items.length = v.Keys.length) (hlen : ∀ y, y ∈ v.Items → (vpay ts x.Elem y).length ≤ 1000000000000000) (hlenk : ∀ y, y ∈ v.Keys → (vpay ts x.Key y).length ≤ 1000000000000000)
   (hw:∀y,y∈v.Items→Rp ts y x.Elem) (hwk:∀y,y∈v.Keys→Rp ts y x.Key) (hl:v.Items.length≤reachBytes):
   ∀(k i:Nat) (acc:List UInt8),i+k=v.Items.length→acc.length+(ilv (vpays ts x.Key (v.Keys.drop i)) (vpays ts x.Elem (v.Items.drop i))).length≤70368744177664→
   g3t (acc,(i:Int),ts,v,x)=some (acc++ilv (vpays ts x.Key (v.Keys.drop i)) (vpays ts x.Elem (v.Items.drop i)))
 | 0,i,acc,hi,ha=>by
   rw[g3t,if_neg (by simp;omega),List.drop_eq_nil_of_le (by omega:v.Items.length≤i),List.drop_eq_nil_of_le (by omega:v.Keys.length≤i),vpays,vpays,ilv]
   · simp
   · intros;simp_all
 | k+1,i,acc,hi,ha=>by
   have hlt:i < v.Items.length:=by omega
   have hlt2:i < v.Keys.length:=by omega
   have hr:=g13 hl;have hmem:v.Items.getD i dSValue∈v.Items:=gg hlt dSValue;have hmem2:v.Keys.getD i dSValue∈v.Keys:=gg hlt2 dSValue;rw[g27 hlt dSValue,g27 hlt2 dSValue,vpays,vpays,ilv,List.length_append,List.length_append]at ha;have hp:=hlen _ hmem;have hp2:=hlenk _ hmem2;have hW:=hw _ hmem;have hW2:=hwk _ hmem2;unfold Rp at hW hW2
   rw[g3t,if_pos (by simp;omega),if_pos (g6 hlt2)];simp only[oZ4,oZ3,g7,SValue.gq];rw[hW2];simp only[oZ3];rw[gb3 (by omega)];simp only[oZ3];rw[if_pos (g2k (by omega)),if_pos (g6 hlt),hW];simp only[oZ3];rw[gb3 (by omega)];simp only[oZ3]
   rw[if_pos (g2k (by rw[List.length_append];omega)),gj (by omega),gs5 hkl hlen hlenk hw hwk hl k (i+1) _ (by omega) (by rw[List.length_append,List.length_append];omega),g27 hlt dSValue,g27 hlt2 dSValue,vpays,vpays,ilv,List.append_assoc,List.append_assoc]
def g7j(R:List SRaw)(n:Nat) :List Fd:=(R.filter fun x=>decide (x.ID=(n:Int))).map rawF
theorem gu8{a:SRaw}{l:List SRaw}{n:Nat}(h:a.ID=(n:Int)) :g7j (a::l) n=rawF a::g7j l n:=by
 unfold g7j;rw[List.filter_cons,if_pos (by rw[h];simp),List.map_cons]
theorem gwh{a:SRaw}{l:List SRaw}{n:Nat}(h:¬a.ID=(n:Int)) :g7j (a::l) n=g7j l n:=by
 unfold g7j;rw[List.filter_cons,if_neg (by simpa using h)]
theorem refOm {γ : Type} {m : SMember} {w : SValue} (hw : OkV w) (A B : Option γ) :
   ((if(!(!m.HasDefault))=true then g12 (w,m.Default)else some false).bind fun r_19=>if(bif (!m.HasDefault)then true else(!r_19))=true then A else B)=if om m w=true then B else A:=by
 cases hd:m.HasDefault with
 | false=>
   have:om m w=false:=by unfold om;rw[hd];rfl
   rw[this];rfl
 | true=>
   have:=gs4 hw hd;simp only[Bool.not_true,Bool.not_false,if_true,this];cases om m w <;> rfl
theorem ggi {x : SType} {v : SValue} (hr : ∀ y, y ∈ v.Rest → y.Data.length ≤ reachBytes) (hR : v.Rest.length ≤ reachBytes) (n : Nat) (hn : n ≤ 1000) :
   ∀(k i:Nat) (out:List UInt8),i+k=v.Rest.length→out.length+((g7j (v.Rest.drop i) n).flatMap Fd.text).length≤70368744177664→
   g1w (out,(n:Int),(i:Int),ts,v,x)=some (out++(g7j (v.Rest.drop i) n).flatMap Fd.text,(n:Int),ts,v,x)
 | 0,i,out,hi,ha=>by
   rw[g1w,if_neg (by simp;omega),List.drop_eq_nil_of_le (by omega:v.Rest.length≤i),SValue.gq];simp[g7j]
 | k+1,i,out,hi,ha=>by
   have hlt:i < v.Rest.length:=by omega
   have hrr:=g13 hR;have hd:=hr _ (gg hlt dSRaw);unfold reachBytes at hd;rw[g27 hlt dSRaw]at ha;rw[g1w,if_pos (by simp;omega),if_pos (g6 hlt)];simp only[oZ4,oZ3,g7,SValue.gq];rw[g27 hlt dSRaw];by_cases e:(v.Rest.getD i dSRaw).ID=(n:Int)
   · rw[gu8 e,List.flatMap_cons]at ha ⊢;have ht:(rawF (v.Rest.getD i dSRaw)).text=g8i n false (v.Rest.getD i dSRaw).Data:=by
       unfold rawF Fd.text;rw[e];rfl
     rw[ht,List.length_append]at ha;rw[if_pos (by rw[e];simp),if_pos (g6 hlt),gjg (by omega) (by omega)];simp only[oZ3];rw[if_pos (g2k (by omega)),gj (by omega),ggi hr hR n hn k (i+1) _ (by omega) (by rw[List.length_append];omega),ht,List.append_assoc]
   · rw[gwh e]at ha ⊢;rw[if_neg (by simpa using e),gj (by omega),ggi hr hR n hn k (i+1) _ (by omega) ha]
noncomputable def grp (ts:List SType) (x:SType) (v:SValue) (n:Nat):List Fd:=(g3d ts x.Members v.Items v.Rest).filter fun f=>decide (f.id=n)
theorem gms {x : SType} {v : SValue} (hm : x.Members.length < 9223372036854775807) (hma : MAsc x.Members) (hrk : g6c x.Members v.Rest) (hil : v.Items.length = x.Members.length)
   (hr:∀y,y∈v.Rest→y.Data.length≤reachBytes) (hR:v.Rest.length≤reachBytes) (hok:∀y,y∈v.Items→OkV y) (hlenI:∀x,x∈v.Items→∀t,(vpay ts t x).length≤23089744183296)
   (hw:∀i,i < x.Members.length→Rp ts (v.Items.getD i dSValue) (x.Members.getD i dSMember).Type_):
   ∀(k n:Nat) (out:List UInt8),n+k=1001→1≤n→out.length+(((List.range' n k).flatMap (grp ts x v)).flatMap Fd.text).length≤70368744177664→
   g2j (out,(n:Int),ts,v,x)=some (out++((List.range' n k).flatMap (grp ts x v)).flatMap Fd.text)
 | 0,n,out,hi,h1,ha=>by
   rw[g2j,if_neg (by simp;omega)];simp
 | k+1,n,out,hi,h1,ha=>by
   have hid0:∀y,y∈v.Rest→0≤y.ID:=fun y hy=>by have:=(hrk.2 y hy).1;unfold I1000 at this;omega
   have hg:grp ts x v n=((vents ts x.Members v.Items).filter fun f=>decide (f.id=n))++g7j v.Rest n:=by
     unfold grp g3d g7j;rw[List.filter_append,grc _ _ hid0]
   rw[List.range'_succ,List.flatMap_cons,List.flatMap_append,hg,List.flatMap_append]at ha ⊢;simp only[List.length_append]at ha;rw[g2j,if_pos (by simp;omega)];obtain⟨r,_,r2,hf⟩:=g4m (t:=x) (n:Int) hm;simp only[oZ4,oZ3,g7,SValue.gq];rw[r2];simp only[oZ3]
   have inner:∀out':List UInt8,out'.length+((g7j v.Rest n).flatMap Fd.text).length≤70368744177664→g1w (out',(n:Int),0,ts,v,x)=some (out'++(g7j v.Rest n).flatMap Fd.text,(n:Int),ts,v,x):=fun out' h=>by
     have:=ggi (ts:=ts) (x:=x) hr hR n (by omega) v.Rest.length 0 out' (by omega) (by simpa using h)
     simpa using this
   rcases g70 hf with⟨e,j,q1,q2,q3,q4⟩ | ⟨e,q3⟩
   · have hlt2:j < v.Items.length:=by omega
     have hmem:v.Items.getD j dSValue∈v.Items:=gg hlt2 dSValue;have hfd:=gb4 (ts:=ts) (gil hma) hil q1 (n:=n) (by rw[q4];simp);rw[if_pos e,q2,if_pos (g6 q1)];rw[if_pos (by rw[g6 hlt2];rfl)];simp only[g7];rw[refOm (hok _ hmem)];have hrec:=gms hm hma hrk hil hr hR hok hlenI hw k (n+1);cases ho:om (x.Members.getD j dSMember) (v.Items.getD j dSValue)with
     | true=>
       rw[ho,if_pos rfl]at hfd;rw[hfd]at ha ⊢;rw[if_pos rfl,inner out (by omega)];simp only[oZ3,SValue.gq];rw[gj (by omega),hrec _ (by omega) (by omega) (by rw[List.length_append];omega)];simp
     | false=>
       rw[ho,if_neg (by simp)]at hfd;rw[hfd]at ha ⊢;have hp:=hlenI _ hmem (x.Members.getD j dSMember).Type_;have hW:=hw j q1;unfold Rp at hW
       have ht:([⟨n,(x.Members.getD j dSMember).Critical,vpay ts (x.Members.getD j dSMember).Type_ (v.Items.getD j dSValue)⟩]:List Fd).flatMap Fd.text=g8i n (x.Members.getD j dSMember).Critical (vpay ts (x.Members.getD j dSMember).Type_ (v.Items.getD j dSValue)):=by
         simp only[List.flatMap_cons,List.flatMap_nil,List.append_nil];rfl
       rw[ht]at ha ⊢;rw[if_neg (by simp),if_pos (g6 hlt2),hW];simp only[oZ3];rw[gjg (by omega) (by omega)];simp only[oZ3];rw[if_pos (g2k (by omega)),inner _ (by rw[List.length_append];omega)];simp only[oZ3,SValue.gq];rw[gj (by omega),hrec _ (by omega) (by omega) (by rw[List.length_append,List.length_append];omega)]
       simp only[List.append_assoc]
   · have hnone:((vents ts x.Members v.Items).filter fun f=>decide (f.id=n))=[]:=glz fun m hm'=>by
       have:=gaf q3 m hm';have:=hma.2 m hm';unfold I1000 at this;omega
     rw[hnone]at ha ⊢;rw[if_neg (by simp[e]),inner out (by omega)];simp only[oZ3,SValue.gq];rw[gj (by omega),gms hm hma hrk hil hr hR hok hlenI hw k (n+1) _ (by omega) (by omega) (by rw[List.length_append];omega)];simp
end
end
section
open Go Go.Proofs.YthnmepafpikaiaaGreat.Shv Go.Sort
set_option maxRecDepth 100000
section
variable {ts:List SType}
theorem g10w {γ : Type} {m : SMember} {w : SValue} (hw : OkV w) (A B : Option γ) :
   ((if m.HasDefault=true then g12 (w,m.Default)else some false).bind fun r=>if(bif m.HasDefault then r else false)=true then A else B)=if om m w=true then A else B:=by
 cases hd:m.HasDefault with
 | false=>
   have:om m w=false:=by unfold om;rw[hd];rfl
   rw[this];rfl
 | true=>
   have:=gs4 hw hd;simp only[if_true,this];cases om m w <;> rfl
theorem gq6 {x : SType} {v : SValue} (h5 : ¬ x.Kind = 5) (h6 : ¬ x.Kind = 6) (hw : ∀ y, y ∈ v.Items → Rl ts y x.Elem) (hl : v.Items.length ≤ reachBytes) :
   ∀(k i b:Nat),i+k=v.Items.length→gr ((b:Int),(i:Int),ts,v,x)=some (((max b (vlevs ts x.Elem (v.Items.drop i)):Nat):Int),v)
 | 0,i,b,hi=>by
   rw[gr,if_neg (by simp;omega),List.drop_eq_nil_of_le (by omega:v.Items.length≤i),vlevs,SValue.gq,Nat.max_zero]
 | k+1,i,b,hi=>by
   have hlt:i < v.Items.length:=by omega
   have hr:=g13 hl;have hW:=hw _ (gg hlt dSValue);unfold Rl at hW;rw[gr,if_pos (by simp;omega),if_neg (by simp[h5]),if_neg (by simp[h6]),if_pos (g6 hlt)];simp only[g7,SValue.gq];rw[hW];simp only[oZ4,oZ3];rw[gfi,gj (by omega),gq6 h5 h6 hw hl k (i+1) _ (by omega),g27 hlt dSValue,vlevs,Nat.max_assoc]
theorem gs6 {x : SType} {v : SValue} (h5 : x.Kind = 5) (hil : v.Items.length = x.Members.length) (hok : ∀ y, y ∈ v.Items → OkV y) (hw : ∀ i, i < x.Members.length → Rl ts (v.Items.getD i dSValue) (x.Members.getD i dSMember).Type_) (hl : v.Items.length ≤ reachBytes) :
   ∀(k i b:Nat),i+k=v.Items.length→gr ((b:Int),(i:Int),ts,v,x)=some (((max b (vlevm ts (x.Members.drop i) (v.Items.drop i)):Nat):Int),v)
 | 0,i,b,hi=>by
   rw[gr,if_neg (by simp;omega),List.drop_eq_nil_of_le (by omega:v.Items.length≤i),SValue.gq,List.drop_eq_nil_of_le (by omega:x.Members.length≤i)];rw[vlevm]
   · rw[Nat.max_zero]
   · intros;simp_all
 | k+1,i,b,hi=>by
   have hlt:i < v.Items.length:=by omega
   have hlt2:i < x.Members.length:=by omega
   have hr:=g13 hl;have hmem:=gg hlt dSValue;have hW:=hw i hlt2;unfold Rl at hW;rw[gr,if_pos (by simp;omega),if_pos (by simp[h5]),if_pos (g6 hlt2)];simp only[oZ4,oZ3,g7,SValue.gq];rw[if_pos (by rw[g6 hlt];rfl),g10w (hok _ hmem)];have hrec:=gs6 h5 hil hok hw hl k (i+1);rw[g27 hlt dSValue,g27 hlt2 dSMember,vlevm]
   cases ho:om (x.Members.getD i dSMember) (v.Items.getD i dSValue)with
   | true=>
     rw[if_pos rfl,gj (by omega),hrec _ (by omega),if_pos rfl]
   | false=>
     rw[if_neg (by simp),if_neg (by simp[h5]),if_pos (g6 hlt),hW];simp only[oZ3];rw[gfi,gj (by omega),hrec _ (by omega),if_neg (by simp),Nat.max_assoc]
theorem gs7 {x : SType} {v : SValue} (h6 : x.Kind = 6) {j : Nat} (hj : j < x.Members.length) (hM : g1l (x, v.ID) = some ((j : Int), true)) (hw : ∀ y, y ∈ v.Items → Rl ts y (x.Members.getD j dSMember).Type_) (hl : v.Items.length ≤ reachBytes) :
   ∀(k i b:Nat),i+k=v.Items.length→gr ((b:Int),(i:Int),ts,v,x)=some (((max b (vlevs ts (x.Members.getD j dSMember).Type_ (v.Items.drop i)):Nat):Int),v)
 | 0,i,b,hi=>by
   rw[gr,if_neg (by simp;omega),List.drop_eq_nil_of_le (by omega:v.Items.length≤i),vlevs,SValue.gq,Nat.max_zero]
 | k+1,i,b,hi=>by
   have hlt:i < v.Items.length:=by omega
   have hr:=g13 hl;have hW:=hw _ (gg hlt dSValue);unfold Rl at hW;rw[gr,if_pos (by simp;omega),if_neg (by simp[h6]),if_pos (by simp[h6]),hM];simp only[oZ4,oZ3,g7,SValue.gq];rw[if_pos (g6 hj),if_pos (g6 hlt),hW];simp only[oZ3];rw[gfi,gj (by omega),gs7 h6 hj hM hw hl k (i+1) _ (by omega),g27 hlt dSValue,vlevs,Nat.max_assoc]
theorem gin {x : SType} {v : SValue} {b w : Nat} (hL : gr (0, 0, ts, v, x) = some (((max 0 b : Nat) : Int), v)) (hb : b < 1152921504606846976) (hw : w = 1 + max (if v.Keys = [] then 0 else 1) b) :
   (gr (0,0,ts,v,x) >>=fun o=>if decide (0 < (o.2.Keys.length:Int))=true then some (addI .i64 1 (maxI o.1 1))else some (addI .i64 1 o.1))=some (w:Int):=by
 rw[hL];simp only[oZ4,oZ3];by_cases hk:v.Keys=[]
 · rw[if_neg (by simp[hk])];rw[if_pos hk]at hw;have:addI .i64 1 ((max 0 b:Nat):Int)=((1+max 0 b:Nat):Int):=grq (a:=1) (by omega);rw[this,hw]
 · rw[if_pos (by
     have:0 < v.Keys.length:=List.length_pos_iff.2 hk
     simpa using this)]
   rw[if_neg hk]at hw;have e:maxI ((max 0 b:Nat):Int) 1=((max 1 b:Nat):Int):=by
     have:=gfi (max 0 b) 1;have e2:max (max 0 b) 1=max 1 b:=by omega
     rw[e2]at this;exact this
   rw[e];have:addI .i64 1 ((max 1 b:Nat):Int)=((1+max 1 b:Nat):Int):=grq (a:=1) (by omega);rw[this,hw]
theorem gyn(H:SOk ts){v:SValue}(hv:OkV v) :wt v≤1099511627776→∀t,vfit ts false t v→Rl ts v t:=by
 induction hv with
 | mk v hs h1 h2 h3 hk hi hrd n1 n2 n3 n4 ihk ihi=>
   intro hw t hf;have hwt:=wt_eq v;have hWI:∀x,x∈v.Items→∀t,vfit ts false t x→Rl ts x t:=fun x hx t=>ihi x hx (by have:=g2m hx;omega) t
   obtain⟨⟨g1,g2,g3,_⟩,hf⟩:=(g7i _ _ _).1 hf;obtain⟨j,rfl⟩:∃j:Nat,t=(j:Int):=⟨t.toNat,by omega⟩
   have hj:j < ts.length:=by omega
   unfold Rl;rw[g34,if_pos (g6 hj)];simp only[g7,SValue.gq]at hf g3 ⊢;have hxm:=gg hj dSType;have hlev:=gmr (ts:=ts) (j:Int) v;simp only[g7]at hlev;have hA:=H.A _ hxm;have hm:=g13 (g3v (H.T _ hxm).mems);generalize ts.getD j dSType=x at*;have b1:∀E,vlevs ts E v.Items < 1152921504606846976:=fun E=>by have:=vlevs_le ts v.Items E;omega
   have b2:∀E,vlevm ts E v.Items < 1152921504606846976:=fun E=>by have:=vlevm_le ts v.Items E;omega
   have easy:¬x.Kind=5→¬x.Kind=6→(∀y,y∈v.Items→vfit ts false x.Elem y)→(gr (0,0,ts,v,x) >>=fun o=>if decide (0 < (o.2.Keys.length:Int))=true then some (addI .i64 1 (maxI o.1 1))else some (addI .i64 1 o.1))=some ((vlev ts (j:Int) v:Nat):Int):=by
     intro a b c;have hL:=gq6 (ts:=ts) (x:=x) (v:=v) a b (fun y hy=>hWI y hy _ (c y hy)) h2 v.Items.length 0 0 (by omega);rw[if_neg a,if_neg b]at hlev;exact gin hL (b1 _) hlev
   rcases hf with⟨k,c1,c2,c3,c4,c5,c6⟩ | ⟨k,c1,c2,c3,c4,c5,c6,c7,c8⟩ | ⟨k,c1,c2,c3,c4,c5,c6,c7⟩ | ⟨k,c1,c2,c3,c4,c5,c6,c7⟩ | ⟨k,c1,c2,c3,c4,c5,c6,c7⟩ | ⟨k,c1,c2,c3,c4,c5⟩ | ⟨k,c1,c2,c3,c4,c5,c6,c7,c8⟩ | ⟨k,c1,c2,c3,c4,c5,c6,c7,c8,c9,c10⟩ | ⟨k,c1,c2,c3,c4,c5,c6,c7,c8⟩ <;> rw[k]at g3
   · exact easy (by omega) (by omega) (by rw[c5];intro y hy;cases hy)
   · exact easy (by omega) (by omega) (by rw[c5];intro y hy;cases hy)
   · exact easy (by omega) (by omega) (by rw[c5];intro y hy;cases hy)
   · exact easy (by omega) (by omega) (by rw[c5];intro y hy;cases hy)
   · obtain⟨hil,hip⟩:=g6t.1 c7;have hL:=gs6 (ts:=ts) (x:=x) (v:=v) g3.symm hil hi (fun i hi'=>hWI _ (gg (by omega) dSValue) _ (hip i hi')) h2 v.Items.length 0 0 (by omega);rw[if_pos g3.symm]at hlev;exact gin hL (b2 _) hlev
   · rw[if_neg (show ¬x.Kind=5 by omega),if_pos g3.symm]at hlev;obtain⟨r,_,r2,hf⟩:=g4m (t:=x) v.ID hm;rcases g70 hf with⟨e,q,q1,q2,q3,q4⟩ | ⟨e,q3⟩
     · rw[q3]at c5 hlev;simp only at c5 hlev;obtain⟨d1,d2,d3⟩:=c5;have hr:r=((q:Int),true):=by rw[←q2,←e]
       have hL:=gs7 (ts:=ts) (x:=x) (v:=v) g3.symm q1 (by rw[r2,hr]) (fun y hy=>hWI y hy _ (g1d.1 d3 y hy)) h2 v.Items.length 0 0 (by omega);exact gin hL (b1 _) hlev
     · rw[q3]at c5 hlev;simp only at c5 hlev;have hi0:v.Items=[]:=c5.2.2.2.1;have hL:gr (0,0,ts,v,x)=some (((max 0 0:Nat):Int),v):=by
         rw[gr,if_neg (by simp[hi0]),SValue.gq];rfl
       exact gin hL (by omega) hlev
   · exact easy (by omega) (by omega) (g1d.1 c8)
   · exact easy (by omega) (by omega) (g1d.1 c9)
   · exact easy (by omega) (by omega) (g1d.1 c8)
set_option maxHeartbeats 400000 in
theorem gyo(H:SOk ts){v:SValue}(hv:OkV v) :wt v≤1099511627776→∀t,vfit ts false t v→Rp ts v t:=by
 induction hv with
 | mk v hs h1 h2 h3 hk hi hrd n1 n2 n3 n4 ihk ihi=>
   intro hw t hf;have hOk:OkV v:= .mk v hs h1 h2 h3 hk hi hrd n1 n2 n3 n4;have hwt:=wt_eq v;have hlenI:∀x,x∈v.Items→∀t,(vpay ts t x).length≤23089744183296:=fun x hx t=>g83 H (hi x hx) (by have:=g2m hx;omega) t
   have hlenK:∀x,x∈v.Keys→∀t,(vpay ts t x).length≤23089744183296:=fun x hx t=>g83 H (hk x hx) (by have:=g2m hx;omega) t
   have hWI:∀x,x∈v.Items→∀t,vfit ts false t x→Rp ts x t:=fun x hx t=>ihi x hx (by have:=g2m hx;omega) t
   have hWK:∀x,x∈v.Keys→∀t,vfit ts false t x→Rp ts x t:=fun x hx t=>ihk x hx (by have:=g2m hx;omega) t
   have hlenv:=g83 H hOk hw t;obtain⟨⟨g1,g2,g3,_⟩,hf⟩:=(g7i _ _ _).1 hf;obtain⟨j,rfl⟩:∃j:Nat,t=(j:Int):=⟨t.toNat,by omega⟩
   have hj:j < ts.length:=by omega
   unfold Rp;rw[g1t,if_pos (g6 hj)];simp only[oZ4,oZ3,g7,SValue.gq]at hf g3 ⊢;have hxm:=gg hj dSType;have hv1:=@vpay1 ts (j:Int) v;have hv2:=@vpay2 ts (j:Int) v;have hv3:=@vpay3 ts (j:Int) v;have hv4:=@vpay4 ts (j:Int) v;have hv5:=@vpay5 ts (j:Int) v;have hv6:=@vpay6 ts (j:Int) v;have hv7:=@vpay7 ts (j:Int) v
   have hv8:=@vpay8 ts (j:Int) v;have hv9:=@vpay9 ts (j:Int) v;simp only[g7]at hv1 hv2 hv3 hv4 hv5 hv6 hv7 hv8 hv9;have hA:=H.A _ hxm;have hS:=H.S _ hxm;have hm:=g13 (g3v (H.T _ hxm).mems);generalize ts.getD j dSType=x at*
   rcases hf with⟨k,c1,c2,c3,c4,c5,c6⟩ | ⟨k,c1,c2,c3,c4,c5,c6,c7,c8⟩ | ⟨k,c1,c2,c3,c4,c5,c6,c7⟩ | ⟨k,c1,c2,c3,c4,c5,c6,c7⟩ | ⟨k,c1,c2,c3,c4,c5,c6,c7⟩ | ⟨k,c1,c2,c3,c4,c5⟩ | ⟨k,c1,c2,c3,c4,c5,c6,c7,c8⟩ | ⟨k,c1,c2,c3,c4,c5,c6,c7,c8,c9,c10⟩ | ⟨k,c1,c2,c3,c4,c5,c6,c7,c8⟩ <;> rw[k]at g3 <;> have kx:=g3.symm
   · rw[if_pos (by simp[kx]),hv1 kx];cases v.Bool_ <;> rfl
   · rw[if_neg (by simp[kx]),if_pos (by simp[kx]),hv2 kx,gda n2];simp only[oZ3];have hz:=gq1 n2;obtain⟨n,hn⟩:∃n:Nat,zig v.Int_=(n:Int):=⟨(zig v.Int_).toNat,by unfold zig;split <;> omega⟩
     rw[hn,Int.toNat_natCast]at hz;rw[hn,gnn hz];rfl
   · rw[if_neg (by simp[kx]),if_neg (by simp[kx]),if_pos (by simp[kx]),hv3 kx]
   · rw[if_neg (by simp[kx]),if_neg (by simp[kx]),if_neg (by simp[kx]),if_pos (by simp[kx]),hv4 kx]
     obtain⟨n,hn⟩:∃n:Nat,v.ID=(n:Int):=⟨v.ID.toNat,by
       rcases c7 with⟨y,hy,he⟩ | ⟨_,_,he⟩
       · have:=hS kx y hy;unfold I1000 at this;omega
       · unfold I1000 at he;omega⟩
     rw[hn,wrpn (by omega),gnn (by omega),Int.toNat_natCast];rfl
   · rw[if_neg (by simp[kx]),if_neg (by simp[kx]),if_neg (by simp[kx]),if_neg (by simp[kx]),if_neg (by simp[kx]),if_neg (by simp[kx]),if_neg (by simp[kx]),if_neg (by simp[kx]),hv5 kx];obtain⟨hma,hm16⟩:=hA (.inl kx);obtain⟨hil,hip⟩:=g6t.1 c7;rw[hv5 kx]at hlenv;have hsg:=go9 (ggt (ts:=ts) (l:=v.Items) hma c6) (fun y hy=>gif hma c6 hy)
     have e0:(fun n=>(g3d ts x.Members v.Items v.Rest).filter fun f=>decide (f.id=n))=grp ts x v:=rfl;rw[e0]at hsg;rw[hsg]at hlenv ⊢;have:=gms (ts:=ts) hm hma c6 hil (fun y hy=>hrd y hy) h3 hi hlenI (fun i hi'=>hWI _ (gg (by omega) dSValue) _ (hip i hi')) 1000 1 [] (by omega) (by omega) (by simp only[List.length_nil];omega);have h0:g2j ([],1,ts,v,x)=_:=this
     rw[h0];rfl
   · rw[if_neg (by simp[kx]),if_neg (by simp[kx]),if_neg (by simp[kx]),if_neg (by simp[kx]),if_neg (by simp[kx]),if_pos (by simp[kx]),hv6 kx];obtain⟨hma,hm16⟩:=hA (.inr kx);obtain⟨r,_,r2,hf⟩:=g4m (t:=x) v.ID hm;rcases g70 hf with⟨e,q,q1,q2,q3,q4⟩ | ⟨e,q3⟩
     · rw[q3]at c5;rw[q3];simp only at c5 ⊢;obtain⟨d1,d2,d3⟩:=c5;have hI:=hma.2 _ (gg q1 dSMember);rw[q4]at hI;obtain⟨n,hn⟩:∃n:Nat,v.ID=(n:Int):=⟨v.ID.toNat,by unfold I1000 at hI;omega⟩
       rw[if_neg (by simp[d1]),r2,hn,wrpn (by unfold I1000 at hI;omega),gbf (by unfold I1000 at hI;omega)];simp only[oZ3];rw[q2,if_pos (g6 q1)]
       match hI:v.Items,d2 with
       | [y],_=>
         have hy:y∈v.Items:=by rw[hI];exact .head _
         have hi0:inR 0 ([y]:List SValue).length=true:=g6 (k:=0) (by simp);have hf:=g1d.1 d3 y hy;have hW:=hWI y hy _ hf;unfold Rp at hW;rw[if_pos hi0];simp only[g7,Int.toNat_zero,List.getD_cons_zero];rw[hW];have hp:=hlenI y hy (x.Members.getD q dSMember).Type_;have hp10:=g3x (n:=n) (by rw[hn]at n3;omega);simp only[oZ3]
         rw[if_pos (g2k (by omega))];have ep:vpays ts (x.Members.getD q dSMember).Type_ [y]=[vpay ts (x.Members.getD q dSMember).Type_ y]:=by rw[vpays,vpays]
         rw[ep];rfl
     · rw[q3]at c5;rw[q3];simp only at c5 ⊢;obtain⟨d1,d2,d3,d4,d,d5⟩:=c5;obtain⟨n,hn⟩:∃n:Nat,v.ID=(n:Int):=⟨v.ID.toNat,by unfold I1000 at d3;omega⟩
       have hdl:=hrd ⟨v.ID,d⟩ (by rw[d5];exact .head _);simp only at hdl;unfold reachBytes at hdl;have hp10:=g3x (n:=n) (by rw[hn]at n3;omega);rw[d5,hn,if_pos (by simp),wrpn (by unfold I1000 at d3;omega),gbf (by unfold I1000 at d3;omega)];simp only[oZ3];have hi0:inR 0 ([⟨(n:Int),d⟩]:List SRaw).length=true:=g6 (k:=0) (by simp);rw[if_pos hi0]
       simp only[Int.toNat_zero,List.getD_cons_zero];rw[if_pos (g2k (by omega))];rfl
   · rw[if_neg (by simp[kx]),if_neg (by simp[kx]),if_neg (by simp[kx]),if_neg (by simp[kx]),if_neg (by simp[kx]),if_neg (by simp[kx]),if_pos (by simp[kx])];have hf:=g1d.1 c8;rw[hv7 kx]at hlenv ⊢
     have:=gq5 (ts:=ts) (x:=x) (v:=v) (fun y hy=>by have:=hlenI y hy x.Elem;omega) (fun y hy=>hWI y hy x.Elem (hf y hy)) h2 v.Items.length 0 [] (by omega) (by simp only[List.drop_zero,List.length_nil];omega);have h0:g3s ([],0,ts,v,x)=_:=this;rw[h0];rfl
   · rw[if_neg (by simp[kx]),if_neg (by simp[kx]),if_neg (by simp[kx]),if_neg (by simp[kx]),if_neg (by simp[kx]),if_neg (by simp[kx]),if_neg (by simp[kx]),if_pos (by simp[kx])];have hf:=g1d.1 c9;have hfk:=g1d.1 c8;rw[hv8 kx]at hlenv ⊢
     have:=gs5 (ts:=ts) (x:=x) (v:=v) c7 (fun y hy=>by have:=hlenI y hy x.Elem;omega) (fun y hy=>by have:=hlenK y hy x.Key;omega) (fun y hy=>hWI y hy x.Elem (hf y hy)) (fun y hy=>hWK y hy x.Key (hfk y hy)) h2 v.Items.length 0 [] (by omega) (by simp only[List.drop_zero,List.length_nil];omega);have h0:g3t ([],0,ts,v,x)=_:=this;rw[h0];rfl
   · rw[if_neg (by simp[kx]),if_neg (by simp[kx]),if_neg (by simp[kx]),if_neg (by simp[kx]),if_pos (by simp[kx]),hv9 kx];have hf:=g1d.1 c8
     match hI:v.Items,c7 with
     | [],_=>
       rw[if_pos (by simp),vpays]
     | [y],_=>
       have hy:y∈v.Items:=by rw[hI];exact .head _
       have hi0:inR 0 ([y]:List SValue).length=true:=g6 (k:=0) (by simp);rw[if_neg (by simp),if_pos hi0];have hW:=hWI y hy x.Elem (hf y hy);unfold Rp at hW;simp only[Int.toNat_zero,List.getD_cons_zero];rw[hW];have hp:=hlenI y hy x.Elem;simp only[oZ3];rw[if_pos (g2k (by simp;omega))];have ep:vpays ts x.Elem [y]=[vpay ts x.Elem y]:=by rw[vpays,vpays]
       rw[ep];rfl
     | a::b::c,h=>simp at h
end
end
section
open Go Go.Proofs.YthnmepafpikaiaaGreat.Shv Go.Sort
set_option maxRecDepth 100000
theorem SaysP.says{α:Type}{o:Option Bool}{a b:α}(h:Says o a b) :SaysP o (a=b):=h
theorem and3S {o1 o2 o3 : Option Bool} {P1 P2 P3 : Prop} (h1 : SaysP o1 P1) (h2 : SaysP o2 P2) (h3 : SaysP o3 P3) :
   SaysP (o1 >>=fun r_6=>(if r_6=true then o2 else some false) >>=fun r_7=>some (bif r_6 then r_7 else false) >>=fun t53=>(if t53=true then o3 else some false) >>=fun r_8=>some (bif t53 then r_8 else false)) (P1∧P2∧P3):=by
 obtain⟨a,rfl,h1⟩:=h1;obtain⟨b,rfl,h2⟩:=h2;obtain⟨c,rfl,h3⟩:=h3;rw[←h1,←h2,←h3];cases a <;> cases b <;> cases c <;> exact⟨_,rfl,by simp⟩
theorem gwi{o:Option Bool}{P:Prop}(h:SaysP o P) :SaysP (o >>=fun r=>some r) P:=by
 obtain⟨a,rfl,h⟩:=h;exact⟨a,rfl,h⟩
def gag(union:Bool)(Ms:List SMember) :Prop:=(∀m,m∈Ms→badM union m=false)∧(union=false∨0 < Ms.length)∧MAsc Ms∧(∀m,m∈Ms→nm m.Name=true)∧(Ms.map (·.Name)).Nodup∧Ms.length≤16
def gig(S:List SSymbol) :Prop:=0 < S.length∧(S.Pairwise (fun a b=>a.ID < b.ID)∧∀y,y∈S→I1000 y.ID)∧(∀y,y∈S→nm y.Name=true)∧(S.map (·.Name)).Nodup∧S.length≤16
theorem gu9{l:List (List UInt8)} :l.Nodup↔∀i,i < l.length→(l.take i).contains (l.getD i [])=false:=by
 unfold List.Nodup;rw[List.pairwise_iff_getElem];constructor
 · intro h i hi;apply Bool.eq_false_iff.2;intro hc;obtain⟨k,hk,he⟩:=(g4o (by omega)).1 hc;rw[g1c (by omega),g1c hi]at he;exact h k i (by omega) hi hk he
 · intro h k i hk' hi hk he;have:=h i hi;rw[Bool.eq_false_iff]at this;apply this;refine(g4o (by omega)).2 ⟨k,hk,?_⟩;rw[g1c (by omega),g1c hi];exact he
theorem gs8{α:Type}(f:α→Int)(g:α→List UInt8)(d:α)(l:List α) :(∀i,i < l.length→idp (l.map f) (l.map g) i=true)↔(l.Pairwise (fun a b=>f a < f b)∧∀x,x∈l→I1000 (f x))∧(∀x,x∈l→nm (g x)=true)∧(l.map g).Nodup:=by
 rw[gim f d,gu9];have key:∀i,i < l.length→(idp (l.map f) (l.map g) i=true↔I1000 (f (l.getD i d))∧(i=0∨f (l.getD (i - 1) d) < f (l.getD i d))∧nm (g (l.getD i d))=true∧((l.map g).take i).contains ((l.map g).getD i [])=false):=by
   intro i hi;unfold idp I1000;rw[g26 f l i d 0 hi];have e2:i=0∨(l.map f).getD (i - 1) 0=f (l.getD (i - 1) d):=by
     by_cases h0:i=0
     · exact .inl h0
     · exact .inr (g26 f l (i - 1) d 0 (by omega))
   have e3:(l.map g).getD i []=g (l.getD i d):=g26 g l i d [] hi;rw[e3];simp only[Bool.and_eq_true,Bool.or_eq_true,decide_eq_true_eq,Bool.not_eq_true'];rcases e2 with rfl | e2
   · simp[and_assoc]
   · rw[e2];simp only[and_assoc]
 constructor
 · intro h;refine⟨⟨fun i hi=>?_,fun x hx=>?_⟩,fun x hx=>?_,fun i hi=>?_⟩
   · have:=((key (i+1) hi).1 (h _ hi)).2.1;rcases this with h | h
     · omega
     · exact h
   · obtain⟨i,hi,rfl⟩:=List.getElem_of_mem hx;have:=((key i hi).1 (h _ hi)).1;rw[g1c hi]at this;exact this
   · obtain⟨i,hi,rfl⟩:=List.getElem_of_mem hx;have:=((key i hi).1 (h _ hi)).2.2.1;rw[g1c hi]at this;exact this
   · have hi':i < l.length:=by simpa using hi
     exact((key i hi').1 (h _ hi')).2.2.2
 · rintro ⟨⟨h1,h2⟩,h3,h4⟩ i hi
   refine(key i hi).2 ⟨h2 _ (gg hi d),?_,h3 _ (gg hi d),h4 i (by simpa using hi)⟩;by_cases h0:i=0
   · exact .inl h0
   · right;have:=h1 (i - 1) (by omega);have e:i - 1+1=i:=by omega
     rw[e]at this;exact this
theorem gnu{t:SType}(h:OkT t) :SaysP (g5d t) ((∀m,m∈t.Members→badM (decide (t.Kind=6)) m=false)∧(t.Kind=5∨0 < t.Members.length)∧MAsc t.Members∧(∀m,m∈t.Members→nm m.Name=true)∧(t.Members.map (·.Name)).Nodup∧t.Members.length≤16):=by
 obtain⟨r,h1,h2⟩:=glr h;refine⟨r,h1,h2.trans ?_⟩;rw[gs8 (fun m:SMember=>m.ID) (fun m:SMember=>m.Name) dSMember];have e:(∀i,i < t.Members.length→badM (decide (t.Kind=6)) (t.Members.getD i dSMember)=false)↔∀m,m∈t.Members→badM (decide (t.Kind=6)) m=false:=by
   constructor
   · intro h m hm;obtain⟨i,hi,rfl⟩:=List.getElem_of_mem hm;have:=h i hi;rw[g1c hi]at this;exact this
   · intro h i hi;exact h _ (gg hi dSMember)
 rw[e];unfold MAsc;simp only[and_assoc]
theorem gwj{l:List SSymbol}(hl:l.length*24≤reachBytes) :SaysP (g62 l) (gig l):=by
 obtain⟨r,h1,h2⟩:=gs1 hl;refine⟨r,h1,h2.trans ?_⟩;rw[gs8 (fun m:SSymbol=>m.ID) (fun m:SSymbol=>m.Name) dSSymbol];unfold gig;simp only[and_assoc]
def FormP(t:SType) :Prop:=
 (t.Kind=1∧t.Name=[]∧t.Low=0∧t.High=0∧t.Max=0∧t.Symbols=[]∧t.Members=[]∧t.Key=0∧t.Elem=0∧t.Open=false)∨
 (t.Kind=2∧t.Name=[]∧t.Low≤t.High∧t.Max=0∧t.Symbols=[]∧t.Members=[]∧t.Key=0∧t.Elem=0∧t.Open=false)∨
 (t.Kind=3∧t.Name=[]∧t.Low=0∧t.High=0∧(0≤t.Max∧t.Max≤200)∧t.Symbols=[]∧t.Members=[]∧t.Key=0∧t.Elem=0∧t.Open=false)∨
 (t.Kind=4∧nm t.Name=true∧t.Low=0∧t.High=0∧t.Max=0∧gig t.Symbols∧t.Members=[]∧t.Key=0∧t.Elem=0)∨
 (t.Kind=5∧nm t.Name=true∧t.Low=0∧t.High=0∧t.Max=0∧t.Symbols=[]∧gag false t.Members∧t.Key=0∧t.Elem=0∧t.Open=false)∨
 (t.Kind=6∧nm t.Name=true∧t.Low=0∧t.High=0∧t.Max=0∧t.Symbols=[]∧gag true t.Members∧t.Key=0∧t.Elem=0)∨
 (t.Kind=7∧t.Name=[]∧t.Low=0∧t.High=0∧(0≤t.Max∧t.Max≤50)∧t.Symbols=[]∧t.Members=[]∧t.Key=0∧t.Open=false)∨
 (t.Kind=8∧t.Name=[]∧t.Low=0∧t.High=0∧(0≤t.Max∧t.Max≤50)∧t.Symbols=[]∧t.Members=[]∧t.Open=false)∨
 (t.Kind=9∧t.Name=[]∧t.Low=0∧t.High=0∧t.Max=0∧t.Symbols=[]∧t.Members=[]∧t.Key=0∧t.Open=false)
theorem gwk{t:SType}(h:OkT t) :SaysP (g1f t) (FormP t):=by
 have hz:OkT (⟨0,[],0,0,0,[],[],0,0,false⟩:SType):=⟨by simp,by simp,by simp⟩
 obtain⟨Kd,N,L,H,M,S,Ms,K,E,O⟩:=t;have hS:=h.syms;have hMs:=h.mems;have hd:=h.dv;simp only at hS hMs hd;by_cases k1:Kd=1
 · subst k1;have a:=g4g (a:=(⟨0,N,L,H,M,S,Ms,K,E,O⟩:SType)) ⟨hS,hMs,hd⟩ (⟨0,[],0,0,0,[],[],0,0,false⟩:SType);refine(gwi (SaysP.says a)).imp ?_;unfold FormP;simp
 by_cases k2:Kd=2
 · subst k2;have a:=g4g (a:=(⟨0,N,0,0,M,S,Ms,K,E,O⟩:SType)) ⟨hS,hMs,hd⟩ (⟨0,[],0,0,0,[],[],0,0,false⟩:SType);refine(and2S (q:=decide (L≤H)) (Q:=L≤H) (by simp) (SaysP.says a)).imp (Q:=FormP ⟨2,N,L,H,M,S,Ms,K,E,O⟩) ?_;unfold FormP;simp
   try grind
 by_cases k3:Kd=3
 · subst k3;have a:=g4g (a:=(⟨0,N,L,H,0,S,Ms,K,E,O⟩:SType)) ⟨hS,hMs,hd⟩ (⟨0,[],0,0,0,[],[],0,0,false⟩:SType);refine(and2S (q:=bif decide (0≤M)then decide (M≤200)else false) (Q:=0≤M∧M≤200) (by by_cases g:0≤M <;> simp[g]) (SaysP.says a)).imp (Q:=FormP ⟨3,N,L,H,M,S,Ms,K,E,O⟩) ?_;unfold FormP;simp
   try grind
 by_cases k4:Kd=4
 · subst k4;have a:=g4g (a:=(⟨0,[],L,H,M,[],Ms,K,E,false⟩:SType)) ⟨by simp,hMs,hd⟩ (⟨0,[],0,0,0,[],[],0,0,false⟩:SType);refine(and3S (⟨nm N,lexNm N,Iff.rfl⟩:SaysP (g32 N) (nm N=true)) (gwj hS) (SaysP.says a)).imp (Q:=FormP ⟨4,N,L,H,M,S,Ms,K,E,O⟩) ?_;unfold FormP;simp
   try grind
 by_cases k5:Kd=5
 · subst k5;have a:=g4g (a:=(⟨0,[],L,H,M,S,[],K,E,bif O then decide ((5:Int)=5)else false⟩:SType)) ⟨hS,by simp,by simp⟩ (⟨0,[],0,0,0,[],[],0,0,false⟩:SType);refine(and3S (⟨nm N,lexNm N,Iff.rfl⟩:SaysP (g32 N) (nm N=true)) (gnu h) (SaysP.says a)).imp (Q:=FormP ⟨5,N,L,H,M,S,Ms,K,E,O⟩) ?_;unfold FormP gag;cases O <;> simp
   grind
 by_cases k6:Kd=6
 · subst k6;have a:=g4g (a:=(⟨0,[],L,H,M,S,[],K,E,bif O then decide ((6:Int)=5)else false⟩:SType)) ⟨hS,by simp,by simp⟩ (⟨0,[],0,0,0,[],[],0,0,false⟩:SType);refine(and3S (⟨nm N,lexNm N,Iff.rfl⟩:SaysP (g32 N) (nm N=true)) (gnu h) (SaysP.says a)).imp (Q:=FormP ⟨6,N,L,H,M,S,Ms,K,E,O⟩) ?_;unfold FormP gag;cases O <;> simp <;> grind
 by_cases k7:Kd=7
 · subst k7;have a:=g4g (a:=(⟨0,N,L,H,0,S,Ms,K,0,O⟩:SType)) ⟨hS,hMs,hd⟩ (⟨0,[],0,0,0,[],[],0,0,false⟩:SType);refine(and2S (q:=bif decide (0≤M)then decide (M≤50)else false) (Q:=0≤M∧M≤50) (by by_cases g:0≤M <;> simp[g]) (SaysP.says a)).imp (Q:=FormP ⟨7,N,L,H,M,S,Ms,K,E,O⟩) ?_;unfold FormP;simp
   try grind
 by_cases k8:Kd=8
 · subst k8;have a:=g4g (a:=(⟨0,N,L,H,0,S,Ms,0,0,O⟩:SType)) ⟨hS,hMs,hd⟩ (⟨0,[],0,0,0,[],[],0,0,false⟩:SType);refine(and2S (q:=bif decide (0≤M)then decide (M≤50)else false) (Q:=0≤M∧M≤50) (by by_cases g:0≤M <;> simp[g]) (SaysP.says a)).imp (Q:=FormP ⟨8,N,L,H,M,S,Ms,K,E,O⟩) ?_;unfold FormP;simp
   try grind
 by_cases k9:Kd=9
 · subst k9;have a:=g4g (a:=(⟨0,N,L,H,M,S,Ms,K,0,O⟩:SType)) ⟨hS,hMs,hd⟩ (⟨0,[],0,0,0,[],[],0,0,false⟩:SType);refine(gwi (SaysP.says a)).imp (Q:=FormP ⟨9,N,L,H,M,S,Ms,K,E,O⟩) ?_;unfold FormP;simp
 refine⟨false,by simp[g1f,k1,k2,k3,k4,k5,k6,k7,k8,k9],?_⟩;unfold FormP;simp[k1,k2,k3,k4,k5,k6,k7,k8,k9]
structure VOk (ts:List SType):Prop where
 n:ts.length≤32
 F:∀t,t∈ts→FormP t
 D:∀i,i < ts.length→(!(decide ((ts.getD i dSType).Name=[])) && ((ts.map (·.Name)).take i).contains (ts.getD i dSType).Name)=false
 U:∀t,t∈ts→∀u,u∈usesL t→0≤u∧u < ts.length
 Ky:∀t,t∈ts→t.Kind=8→1≤(ts.getD t.Key.toNat dSType).Kind∧(ts.getD t.Key.toNat dSType).Kind≤4
theorem gua {ts : List SType} (hT : ∀ t, t ∈ ts → OkT t) {i : Nat} (hi : i < ts.length) : stepV ts i = none ↔ FormP (ts.getD i dSType) ∧ (!(decide ((ts.getD i dSType).Name = [])) && ((ts.map (·.Name)).take i).contains (ts.getD i dSType).Name) = false ∧ (∀ u, u ∈ usesL (ts.getD i dSType) → 0 ≤ u ∧ u < ts.length) ∧
   ((ts.getD i dSType).Kind=8→1≤(ts.getD (ts.getD i dSType).Key.toNat dSType).Kind∧(ts.getD (ts.getD i dSType).Key.toNat dSType).Kind≤4):=by
 obtain⟨r,f1,f2⟩:=gwk (hT _ (gg hi dSType));rw[ggg rfl f1,←f2];have hu:(usesL (ts.getD i dSType)).any (outB ts.length)=false↔∀u,u∈usesL (ts.getD i dSType)→0≤u∧u < ts.length:=by
   rw[List.any_eq_false];constructor
   · intro h u hu;have:=h u hu;unfold outB at this;by_cases g:u < 0
     · simp[g]at this
     · simp[g]at this;omega
   · intro h u hu;have:=h u hu;unfold outB;have g:¬u < 0:=by omega
     simp[g];omega
 rw[←hu];generalize (usesL (ts.getD i dSType)).any (outB ts.length)=b;generalize (!(decide ((ts.getD i dSType).Name=[])) && ((ts.map (·.Name)).take i).contains (ts.getD i dSType).Name)=c
 have hk:(decide ((ts.getD i dSType).Kind=8) && !(keyB (ts.getD (ts.getD i dSType).Key.toNat dSType).Kind))=false↔((ts.getD i dSType).Kind=8→1≤(ts.getD (ts.getD i dSType).Key.toNat dSType).Kind∧(ts.getD (ts.getD i dSType).Key.toNat dSType).Kind≤4):=by
   unfold keyB;generalize (ts.getD (ts.getD i dSType).Key.toNat dSType).Kind=k;by_cases g:(ts.getD i dSType).Kind=8 <;> by_cases g1:1≤k <;> by_cases g2:k≤4 <;> simp[g,g1,g2]
 rw[←hk];generalize (decide ((ts.getD i dSType).Kind=8) && !(keyB (ts.getD (ts.getD i dSType).Key.toNat dSType).Kind))=d;cases r <;> cases b <;> cases c <;> cases d <;> simp
theorem gwl{ts:List SType}(hT:∀t,t∈ts→OkT t)(h:VOk ts) :g7d (⟨ts⟩:SSchema)=some 0∧g5u (⟨ts⟩:SSchema)=some 0:=by
 obtain⟨e,h1,h2,_,h4⟩:=glu (s:=⟨ts⟩) (by have:=h.n;unfold reachBytes;show ts.length≤_;omega) hT;have e0:e=0:=h4 ⟨h.n,fun i hi=>(gua hT hi).2 ⟨h.F _ (gg hi dSType),h.D i hi,h.U _ (gg hi dSType),h.Ky _ (gg hi dSType)⟩⟩;subst e0;exact⟨h1,h2⟩
theorem VOk.sok{ts:List SType}(hT:∀t,t∈ts→OkT t)(h:VOk ts) :SOk ts:=by
 refine⟨by have:=h.n;omega,hT,fun t ht=>?_,fun t ht m hm=>?_,fun t ht hk=>?_,fun t ht hk y hy=>?_,h.Ky⟩
 · have:=h.F t ht;unfold FormP at this;unfold gae;omega
 · have:=h.F t ht;unfold FormP at this;have hne:t.Members≠[]:=by intro e;rw[e]at hm;cases hm
   have:gag false t.Members∨gag true t.Members:=by grind
   rcases this with a | a
   · exact(a.2.2.1.2 m hm).2
   · exact(a.2.2.1.2 m hm).2
 · have:=h.F t ht;unfold FormP at this;have:gag false t.Members∨gag true t.Members:=by grind
   rcases this with a | a
   · exact⟨a.2.2.1,a.2.2.2.2.2⟩
   · exact⟨a.2.2.1,a.2.2.2.2.2⟩
 · have:=h.F t ht;unfold FormP at this;have:gig t.Symbols:=by grind
   exact this.2.1.2 y hy
end
section
open Go Go.Proofs.YthnmepafpikaiaaGreat.Shv Go.Sort
set_option maxRecDepth 100000
def g10x(ts:List SType)(ms:List SMember) :Prop:=∀m,m∈ms→m.HasDefault=true→vfit ts true m.Type_ m.Default
end
section
open Go Go.Proofs.YthnmepafpikaiaaGreat.Shv Go.Sort
set_option maxRecDepth 100000
theorem okOne{t:Ty}{x:t.den Un.D}(h:Ok Un [t] x) :∀d,d∈t.row Un x→WF Un d:=fun d hd=>h ⟨t,x⟩ (List.mem_cons_self ..) d hd
theorem gyp {ts : List SType} (H : SOk ts) {v : SValue} (hv : OkV v) (hw : wt v ≤ 1099511627776) {t : Int} (hf : vfit ts false t v) :
   g19 (t,v,1,ts,0)=some (vpay ts t v,ts,((vlev ts t v:Nat):Int))∧g1t ((⟨ts⟩:SSchema),t,v)=some (vpay ts t v)∧g34 ((⟨ts⟩:SSchema),t,v)=some ((vlev ts t v:Nat):Int):=by
 refine⟨?_,gyo H hv hw t hf,gyn H hv hw t hf⟩;have h:=gym H hv hw t hf 1 0 (by omega) (by omega);have hp:=gau (ts:=ts) t v;have e:max 0 (1+vlev ts t v - 1)=vlev ts t v:=by
   generalize vlev ts t v=n;omega
 rw[e]at h;exact h
noncomputable def encA (ts:List SType) (t:Int) (v:SValue):List UInt8 × Int:=
 if 4096 < (vpay ts t v).length∨200 < vlev ts t v then([],3)else(vpay ts t v,0)
theorem gwm {s : SSchema} (H : SOk s.Types) {v : SValue} (hv : OkV v) (hw : wt v ≤ 1099511627776) {t : Int} (hf : vfit s.Types false t v) (hc : g3q (s, t, v) = some 0) (hr : g55 (s, t, v) = some 0) :
   g6h (s,t,v)=some (encA s.Types t v)∧g8h (s,t,v)=some (encA s.Types t v)∧geh (s,t,v)=some (((vpay s.Types t v).length:Int),0)∧gd9 (s,t,v)=some (((vpay s.Types t v).length:Int),0):=by
 obtain⟨h1,h2,h3⟩:=gyp H hv hw hf;have h2':g1t (s,t,v)=some (vpay s.Types t v):=h2;have h3':g34 (s,t,v)=_:=h3;have hc':g3q ((⟨s.Types⟩:SSchema),t,v)=some 0:=hc;refine⟨?_,?_,?_,?_⟩
 · rw[g6h];simp only[SValue.gq];rw[hc',h1];simp only[oZ4,oZ3];rw[if_neg (by simp)];unfold encA;generalize vpay s.Types t v=p;generalize vlev s.Types t v=l;by_cases g:4096 < p.length
   · rw [if_pos (by have : (4096 : Int) < p.length := by omega
                    simp[this]),if_pos (.inl g)]
   · by_cases g2:200 < l
     · rw [if_pos (by have : ¬ (4096 : Int) < p.length := by omega
                      have h2:(200:Int) < l:=by omega
                      simp[this,h2]),if_pos (.inr g2)]
     · rw [if_neg (by have : ¬ (4096 : Int) < p.length := by omega
                      have h2:¬(200:Int) < l:=by omega
                      simp[this,h2]),if_neg (by omega)]
 · rw[g8h];simp only[SValue.gq];rw[hr];simp only[oZ4,oZ3];rw[if_neg (by simp),h2'];simp only[oZ3];rw[h3'];unfold encA;generalize vpay s.Types t v=p;generalize vlev s.Types t v=l;by_cases g:4096 < p.length
   · have:decide ((4096:Int) < p.length)=true:=by simp;omega
     rw[this,if_neg (by simp)];simp only[oZ3,cond_true];rw[if_pos trivial,if_pos (.inl g)]
   · have:decide ((4096:Int) < p.length)=false:=by simp;omega
     rw[this,if_pos (by simp)];simp only[oZ3,cond_false];by_cases g2:200 < l
     · rw[if_pos (by simp;omega),if_pos (.inr g2)]
     · rw[if_neg (by simp;omega),if_neg (by omega)]
 · rw[geh];simp only[SValue.gq];rw[hc,h1];rfl
 · rw[gd9];simp only[SValue.gq];rw[hr,h2'];rfl
end
section
open Go Go.Proofs.YthnmepafpikaiaaGreat.Shv Go.Sort
set_option maxRecDepth 100000
abbrev Nd :=Sheaveref07Node
abbrev dNd :=dSheaveref07Node
abbrev dPt :=dSheaveref07Part
theorem nz{a:Int}(h:¬a=0) :(!(decide (a=0)))=true:=by simp[h]
theorem g56{x m:Int}(h:0≤x)(hm:0≤m) :remI x m=x % m:=by
 unfold remI;rw[Int.tmod_eq_emod_of_nonneg h]
theorem g10y{x:Int}(h:0≤x)(h2:x≤255) :quoI .u8 x 4=x / 4:=by
 unfold quoI;rw[Int.tdiv_eq_ediv_of_nonneg h,IntKind.wrap_u8];omega
theorem g8l{x:Int}(h:I64 x) :wrp .i64 x=x:=by
 unfold wrp I64 at*;rw[IntKind.wrap_i64];omega
theorem gq7{k:Int}(h:0≤k∧k≤25) :g78 (wrp .i32 (addI .i64 97 k))=[UInt8.ofNat (97+k.toNat)]:=by
 have key:∀k:Nat,k < 26→g78 (wrp .i32 (addI .i64 97 (k:Int)))=[UInt8.ofNat (97+k)]:=by decide+kernel
 have:=key k.toNat (by omega);have e:((k.toNat:Nat):Int)=k:=by omega
 rw[e]at this;exact this
theorem g10z{k:Int}(h:0≤k∧k≤25) :g78 (wrp .i32 (addI .i64 65 k))=[UInt8.ofNat (65+k.toNat)]:=by
 have key:∀k:Nat,k < 26→g78 (wrp .i32 (addI .i64 65 (k:Int)))=[UInt8.ofNat (65+k)]:=by decide+kernel
 have:=key k.toNat (by omega);have e:((k.toNat:Nat):Int)=k:=by omega
 rw[e]at this;exact this
theorem gm1{s:List UInt8}(h0:s≠[])(hl:s.length≤24)(h:∀i:Nat,i < s.length→g7h (g68 s i)=true) :nm s=true:=by
 have key:∀k i:Nat,i+k=s.length→g28 (s,(s.length:Int),(i:Int))=some (.inr ()):=by
   intro k
   induction k with
   | zero=>intro i hi;rw[g28,if_neg (by simp;omega)]
   | succ k ih=>
     intro i hi;rw[g28,if_pos (by simp;omega),if_pos (g6 (by omega)),ge0,h i (by omega)];simp only[oZ4,oZ3,Bool.not_true];rw[if_pos (by rw[g6 (by omega)];rfl),gj (by omega)];exact ih (i+1) (by omega)
 have hpos:0 < s.length:=List.length_pos_iff.2 h0;have h00:=h 0 hpos;have hin:inR 0 s.length=true:=g6 (k:=0) hpos;have ht:(bif decide (s=[])then true else decide (24 < (s.length:Int)))=false:=by
   simp[h0];omega
 have hk:g28 (s,(s.length:Int),0)=some (.inr ()):=key s.length 0 (by omega);have h00':g7h (g68 s 0)=true:=h00;unfold nm;rw[g32];simp only[oZ4,oZ3];rw[ht,hin,ge0,h00'];simp only[Bool.true_or,if_true,Bool.not_false,oZ3,cond_false,Bool.not_true,Bool.false_eq_true,if_false,hk,Option.getD_some]
theorem g110{c:Nat}(h:65≤c∧c≤90∨97≤c∧c≤122) :nm [UInt8.ofNat c]=true:=by
 refine gm1 (by simp) (by simp) fun i hi=>?_
 have:i=0:=by simp at hi;omega
 subst this;have e:g68 [UInt8.ofNat c] ((0:Nat):Int)=(c:Int):=by
   rw[gg3];simp only[List.getD_cons_zero];rw[g3o (by omega)]
 rw[e];unfold g7h;simp;omega
theorem gwn{b c:Nat}(hb:97≤b∧b≤122)(h:97≤c∧c≤122) :nm [UInt8.ofNat b,UInt8.ofNat c]=true:=by
 refine gm1 (by simp) (by simp) fun i hi=>?_
 have:i=0∨i=1:=by simp at hi;omega
 rcases this with rfl | rfl
 · rw[gg3];simp only[List.getD_cons_zero];rw[g3o (by omega)];unfold g7h;simp;omega
 · rw[gg3];simp only[List.getD_cons_succ,List.getD_cons_zero];rw[g3o (by omega)];unfold g7h;simp;omega
def U8(x:Int) :Prop:=0≤x∧x≤255
structure NOk (x:Nd):Prop where
 k:U8 x.Kind
 a:U8 x.A
 b:U8 x.B
 c:U8 x.C
 p:∀q,q∈x.Parts→U8 q.ID∧U8 q.Type_∧U8 q.Flag
 l:x.Parts.length≤reachBytes
def kd(ns:List Nd)(i:Int) :Int:=1+(ns.getD i.toNat dNd).Kind % 9
section
variable {ns:List Nd} (hN:∀x,x∈ns→NOk x) (h5:ns.length≤5)
include hN h5 in
theorem kd_eq{i:Int}(h0:0≤i)(h1:i < ns.length) :g45 ((⟨ns⟩:Sheaveref07Draft),i)=some (kd ns i)∧1≤kd ns i∧kd ns i≤9:=by
 obtain⟨j,rfl⟩:∃j:Nat,i=(j:Int):=⟨i.toNat,by omega⟩
 have hx:=(hN _ (gg (by omega:j < ns.length) dNd)).k;unfold kd;rw[g7];obtain⟨a,b⟩:=hx;refine⟨?_,by omega,by omega⟩;rw[g45,if_pos (g6 (by omega:j < ns.length)),g7,g56 a (by omega),g8l ⟨by omega,by omega⟩,g69 (by omega) (by omega)]
def Tgt(ns:List Nd)(i u:Int) :Prop:=0≤u∧u < ns.length∧(7≤kd ns u∨u < i)
include hN h5 in
theorem gnv :∀(k i:Nat),i+k=ns.length→g1z ((ns.length:Int),(i:Int),ns)=some (.inr ())∨∃u:Int,g1z ((ns.length:Int),(i:Int),ns)=some (.inl u)∧0≤u∧u < ns.length∧7≤kd ns u
 | 0,i,hi=>.inl (by rw[g1z,if_neg (by simp;omega)])
 | k+1,i,hi=>by
   obtain⟨e,_,_⟩:=kd_eq hN h5 (i:=(i:Int)) (by omega) (by omega);rw[g1z,if_pos (by simp;omega),e];simp only[oZ4,oZ3,g5l];by_cases h7:7≤kd ns i
   · rw[if_pos (by simpa using h7)];exact .inr ⟨i,rfl,by omega,by omega,h7⟩
   · rw[if_neg (by simpa using h7),gj (by omega)];exact gnv k (i+1) (by omega)
include hN h5 in
theorem gwo(h1:1≤ns.length){i code:Int}(hi:0≤i∧i < ns.length)(hc:U8 code) :∃u,g5m ((⟨ns⟩:Sheaveref07Draft),i,code)=some u∧(u < 0∨Tgt ns i u):=by
 have hm:wrp .i64 code=code:=g8l ⟨by unfold U8 at hc;omega,by unfold U8 at hc;omega⟩;obtain⟨c1,c2⟩:=hc;have hr0:0≤code % (ns.length:Int):=Int.emod_nonneg _ (by omega);have hr1:code % (ns.length:Int) < ns.length:=Int.emod_lt_of_pos _ (by omega);rw[g5m];simp only[oZ4,oZ3];rw[if_pos (nz (by omega)),hm,g56 c1 (by omega)]
 obtain⟨e,_,_⟩:=kd_eq hN h5 hr0 hr1;rw[e];simp only[oZ3,g5l];by_cases h7:7≤kd ns (code % (ns.length:Int))
 · rw[if_pos (by simp[h7])];exact⟨_,rfl,.inr ⟨hr0,hr1,.inl h7⟩⟩
 · by_cases hlt:code % (ns.length:Int) < i
   · rw[if_pos (by simp[hlt])];exact⟨_,rfl,.inr ⟨hr0,hr1,.inr hlt⟩⟩
   · rw[if_neg (by simp[h7,hlt])];by_cases hp:0 < i
     · rw[if_pos (by simpa using hp),if_pos (by simp;omega),g56 hr0 (by omega)];have a0:0≤code % (ns.length:Int) % i:=Int.emod_nonneg _ (by omega);have a1:code % (ns.length:Int) % i < i:=Int.emod_lt_of_pos _ (by omega);exact⟨_,rfl,.inr ⟨a0,by omega,.inr a1⟩⟩
     · rw[if_neg (by simpa using hp)];have h0:=gnv hN h5 ns.length 0 (by omega);have e0:g1z ((ns.length:Int),((0:Nat):Int),ns)=g1z ((ns.length:Int),0,ns):=rfl;rw[e0]at h0;rcases h0 with h | ⟨u,h,a,b,c⟩
       · rw[h];exact⟨-1,rfl,.inl (by omega)⟩
       · rw[h];exact⟨u,rfl,.inr ⟨a,b,.inl c⟩⟩
def KeyT(ns:List Nd)(u:Int) :Prop:=0≤u∧u < ns.length∧1≤kd ns u∧kd ns u≤4
include hN h5 in
theorem gwp{code:Int}(hc:U8 code)(h1:1≤ns.length) :∀(k i:Nat),i+k=ns.length→(g2g (code,(ns.length:Int),(i:Int),ns)=some (.inr ())∧∀m:Nat,i≤m→m < ns.length→¬KeyT ns ((code+m) % (ns.length:Int)))∨∃u:Int,g2g (code,(ns.length:Int),(i:Int),ns)=some (.inl u)∧KeyT ns u
 | 0,i,hi=>.inl ⟨by rw[g2g,if_neg (by simp;omega)],fun m a b=>by omega⟩
 | k+1,i,hi=>by
   obtain⟨c1,c2⟩:=hc;have hr0:0≤(code+i) % (ns.length:Int):=Int.emod_nonneg _ (by omega);have hr1:(code+i) % (ns.length:Int) < ns.length:=Int.emod_lt_of_pos _ (by omega);obtain⟨e,e1,e9⟩:=kd_eq hN h5 hr0 hr1;rw[g2g,if_pos (by simp;omega),if_pos (nz (by omega)),g8l ⟨by omega,by omega⟩,g69 (by omega) (by omega),g56 (by omega) (by omega)]
   simp only[oZ4,oZ3];rw[e];simp only[oZ3,g58];by_cases h4:kd ns ((code+i) % (ns.length:Int))≤4
   · rw[if_pos (by simp[e1,h4])];exact .inr ⟨_,rfl,hr0,hr1,e1,h4⟩
   · rw[if_neg (by simp[h4]),gj (by omega)];rcases gwp ⟨c1,c2⟩ h1 k (i+1) (by omega)with⟨a,b⟩ | h
     · refine .inl ⟨a,fun m hm1 hm2=>?_⟩;by_cases hm:m=i
       · subst hm;rintro ⟨_,_,_,h⟩;exact h4 h
       · exact b m (by omega) hm2
     · exact .inr h
include hN h5 in
theorem gwq{code:Int}(hc:U8 code)(h1:1≤ns.length) :∃u,g53 ((⟨ns⟩:Sheaveref07Draft),code)=some u∧((u= -1∧∀w,¬KeyT ns w)∨KeyT ns u):=by
 rw[g53];have h0:=gwp hN h5 hc h1 ns.length 0 (by omega);have e0:g2g (code,(ns.length:Int),((0:Nat):Int),ns)=g2g (code,(ns.length:Int),0,ns):=rfl;rw[e0]at h0;rcases h0 with⟨h,a⟩ | ⟨u,h,a⟩
 · rw[h];refine⟨-1,rfl,.inl ⟨rfl,fun w hw=>?_⟩⟩;have hw':=hw;obtain⟨w0,w1,_⟩:=hw';have hr0:0≤(w - code) % (ns.length:Int):=Int.emod_nonneg _ (by omega);have hr1:(w - code) % (ns.length:Int) < ns.length:=Int.emod_lt_of_pos _ (by omega);refine a ((w - code) % (ns.length:Int)).toNat (by omega) (by omega) ?_
   have e:(code+(((w - code) % (ns.length:Int)).toNat:Int)) % (ns.length:Int)=w:=by
     rw[Int.toNat_of_nonneg hr0,Int.add_emod_emod];have:code+(w - code)=w:=by omega
     rw[this];exact Int.emod_eq_of_lt w0 w1
   rw[e];exact hw
 · rw[h];exact⟨u,rfl,.inr a⟩
theorem gq8{x:Nd}(h:NOk x) :g3w x=some (x.A % 7 - 3):=by
 have:=h.a;unfold U8 at this;rw[g3w,g56 this.1 (by omega),g8l ⟨by omega,by omega⟩,g99 (by omega) (by omega)]
theorem gs9{x:Nd}(h:NOk x) :g4q x=some (x.A % 7 - 3+x.B % 6):=by
 have ha:=h.a;have hb:=h.b;unfold U8 at ha hb;rw[g4q,gq8 h];simp only[oZ4,oZ3];rw[g56 hb.1 (by omega),g8l ⟨by omega,by omega⟩,g69 (by omega) (by omega)]
def IdsOk(l:List Int)(n:Int) :Prop:=l.Pairwise (· < ·)∧∀x,x∈l→1≤x∧x≤n
theorem gq9{x:Nd} :∀(k i:Nat) (acc:List Int),i+k=6→IdsOk acc i→acc.length≤i→∃l,g33 ((i:Int),x,acc)=some l∧IdsOk l 6∧l.length≤6
 | 0,i,acc,hi,ha,hl=>⟨acc,by rw[g33,if_neg (by simp;omega)],⟨ha.1,fun y hy=>by have:=ha.2 y hy;omega⟩,by omega⟩
 | k+1,i,acc,hi,ha,hl=>by
   have hacc:IdsOk acc ((i+1:Nat):Int):=⟨ha.1,fun y hy=>by have:=ha.2 y hy;omega⟩
   rw[g33,if_pos (by simp;omega),if_pos (by simp)];simp only[oZ4,oZ3];rw[gj (by omega)];split
   · rw[if_pos (g4j (by omega) (by simp;omega))];refine gq9 k (i+1) _ (by omega) ⟨?_,fun y hy=>?_⟩ (by simp;omega)
     · rw[List.pairwise_append];refine⟨ha.1,by simp,fun a h1 b h2=>?_⟩;have:=ha.2 a h1;simp at h2;omega
     · rcases List.mem_append.1 hy with h | h
       · have:=ha.2 y h;omega
       · simp at h;omega
   · exact gq9 k (i+1) acc (by omega) hacc (by omega)
theorem g111(x:Nd) :∃l,g3g x=some l∧IdsOk l 6∧1≤l.length∧l.length≤6:=by
 obtain⟨l,h1,h2,h3⟩:=gq9 (x:=x) 6 0 [] (by omega) ⟨.nil,fun y hy=>by cases hy⟩ (by simp);have h1':g33 (0,x,[])=some l:=h1;rw[g3g,h1'];simp only[oZ4,oZ3];cases l with
 | nil=>
   rw[if_pos (by simp),if_pos (g4j (by omega) (by simp))];exact⟨_,rfl,⟨by simp,fun y hy=>by simp at hy;omega⟩,by simp,by simp⟩
 | cons a l=>
   rw[if_neg (by simp;omega)];exact⟨_,rfl,h2,by simp,h3⟩
def idsL(x:Nd) :List Int:=(g3g x).getD []
theorem ids_eq'(x:Nd) :g3g x=some (idsL x)∧IdsOk (idsL x) 6∧1≤(idsL x).length∧(idsL x).length≤6:=by
 obtain⟨l,h1,h2⟩:=g111 x;unfold idsL;rw[h1];exact⟨rfl,h2⟩
def InitP(k:Int)(x:Nd)(key:Prop)(v:SValue) :Prop:=
 v.Keys=[]∧v.Items=[]∧v.Rest=[]∧
 (k=1∧v.Kind=1∧v.Int_=0∧v.Str=[]∧v.ID=0∨
  k=2∧v.Kind=2∧v.Bool_=false∧v.Str=[]∧v.ID=0∧x.A % 7 - 3≤v.Int_∧v.Int_≤x.A % 7 - 3+x.B % 6∨
  k=3∧v.Kind=3∧v.Bool_=false∧v.Int_=0∧v.ID=0∧(v.Str.length:Int)≤x.A % 4∨
  k=4∧v.Kind=4∧v.Bool_=false∧v.Int_=0∧v.Str=[]∧v.ID∈idsL x∨
  7≤k∧v.Bool_=false∧v.Int_=0∧v.Str=[]∧v.ID=0∧(v.Kind=k∧(k=8→key)∨k=8∧v.Kind=7∧¬key))
def Init(ns:List Nd)(t:Int)(v:SValue) :Prop:=InitP (kd ns t) (ns.getD t.toNat dNd) (∃w,KeyT ns w) v
include hN h5 in
theorem gub(h1:1≤ns.length){t code:Int}(ht:0≤t∧t < ns.length)(hc:U8 code) :∃r,g59 ((⟨ns⟩:Sheaveref07Draft),t,code)=some r∧(r.2=false→r.1=dSValue)∧(r.2=true→Init ns t r.1):=by
 obtain⟨j,rfl⟩:∃j:Nat,t=(j:Int):=⟨t.toNat,by omega⟩
 have hj:j < ns.length:=by omega
 have hx:=hN _ (gg hj dNd);obtain⟨e,k1,k9⟩:=kd_eq hN h5 ht.1 ht.2;obtain⟨u,hu,hu2⟩:=gwq hN h5 (code:=0) ⟨by omega,by omega⟩ h1;obtain⟨c1,c2⟩:=hc;rw[g59,if_pos (g6 hj)];simp only[oZ4,oZ3,g7];rw[e];simp only[oZ3];unfold Init;simp only[g7];have hids:=ids_eq' (ns.getD j dNd);generalize kd ns (j:Int)=k at*
 generalize ns.getD j dNd=x at*;have ha:=hx.a;have hb:=hx.b;unfold U8 at ha hb;have hc9:k=1∨k=2∨k=3∨k=4∨k=5∨k=6∨k=7∨k=8∨k=9:=by omega
 rcases hc9 with rfl | rfl | rfl | rfl | rfl | rfl | rfl | rfl | rfl
 · exact⟨_,rfl,fun h=>(by cases h),fun _=>by unfold InitP;simp⟩
 · have el:=gq8 hx;have eh:=gs9 hx;have e1:addI .i64 (subI .i64 (x.A % 7 - 3+x.B % 6) (x.A % 7 - 3)) 1=x.B % 6+1:=by
     rw[g99 (by omega) (by omega),g69 (by omega) (by omega)];omega
   have e2:remI (wrp .i64 code) (x.B % 6+1)=code % (x.B % 6+1):=by
     rw[g8l ⟨by omega,by omega⟩,g56 c1 (by omega)]
   have r0:0≤code % (x.B % 6+1):=Int.emod_nonneg _ (by omega);have r1:code % (x.B % 6+1) < x.B % 6+1:=Int.emod_lt_of_pos _ (by omega);have e3:addI .i64 (x.A % 7 - 3) (code % (x.B % 6+1))=x.A % 7 - 3+code % (x.B % 6+1):=g69 (by omega) (by omega)
   simp only[Int.reduceEq,decide_false,decide_true,Bool.false_eq_true,if_false,if_true,oZ3,cond_false,cond_true];rw[el];simp only[oZ4,oZ3];rw[eh];simp only[oZ3];rw[e1,if_pos (by simp;omega),e2,e3];exact⟨_,rfl,fun h=>(by cases h),fun _=>by unfold InitP;simp;omega⟩
 · simp only[Int.reduceEq,decide_false,decide_true,Bool.false_eq_true,if_false,if_true,oZ3,cond_false,cond_true];rw[g56 ha.1 (by omega),g56 c1 (by omega)];by_cases g:0 < x.A % 4
   · by_cases g2:code % 2=1
     · rw[if_pos (by simp[g,g2])];exact⟨_,rfl,fun h=>(by cases h),fun _=>by unfold InitP;simp;omega⟩
     · rw[if_neg (by simp[g2])];exact⟨_,rfl,fun h=>(by cases h),fun _=>by unfold InitP;simp;omega⟩
   · rw[if_neg (by simp[g])];exact⟨_,rfl,fun h=>(by cases h),fun _=>by unfold InitP;simp;omega⟩
 · obtain⟨i1,i2,i3,i4⟩:=hids;simp only[Int.reduceEq,decide_false,decide_true,Bool.false_eq_true,if_false,if_true,oZ3,cond_false,cond_true];rw[i1];simp only[oZ4,oZ3];have r0:0≤code % ((idsL x).length:Int):=Int.emod_nonneg _ (by omega)
   have r1:code % ((idsL x).length:Int) < ((idsL x).length:Int):=Int.emod_lt_of_pos _ (by omega);rw[if_pos (nz (by omega)),g8l ⟨by omega,by omega⟩,g56 c1 (by omega)];obtain⟨q,hq⟩:∃q:Nat,code % ((idsL x).length:Int)=(q:Int):=⟨(code % ((idsL x).length:Int)).toNat,by omega⟩
   rw[hq,if_pos (g6 (by omega)),g7];exact⟨_,rfl,fun h=>(by cases h),fun _=>by unfold InitP;simp;rw[←List.getD_eq_getElem?_getD];exact gg (by omega) 0⟩
 · exact⟨_,rfl,fun _=>rfl,fun h=>by cases h⟩
 · exact⟨_,rfl,fun _=>rfl,fun h=>by cases h⟩
 · exact⟨_,rfl,fun h=>(by cases h),fun _=>by unfold InitP;simp⟩
 · simp only[Int.reduceEq,decide_false,decide_true,Bool.false_eq_true,if_false,if_true,oZ3,cond_false,cond_true];rw[hu];rcases hu2 with⟨rfl,a⟩ | a
   · exact⟨_,rfl,fun h=>(by cases h),fun _=>by unfold InitP;simp;exact fun w hw=>a w hw⟩
   · have hge:¬u < 0:=by have:=a.1;omega
     simp only[oZ4,oZ3];rw[if_neg (by simp[hge])];exact⟨_,rfl,fun h=>(by cases h),fun _=>by unfold InitP;simp;exact⟨u,a⟩⟩
 · exact⟨_,rfl,fun h=>(by cases h),fun _=>by unfold InitP;simp⟩
end
end
section
open Go Go.Proofs.YthnmepafpikaiaaGreat.Shv Go.Sort
set_option maxRecDepth 100000
section
variable {ns:List Nd} (hN:∀x,x∈ns→NOk x) (h5:ns.length≤5)
structure MemP (ns:List Nd) (i:Int) (record:Bool) (m:SMember):Prop where
 id:1≤m.ID∧m.ID≤12
 name:m.Name=[UInt8.ofNat 109,UInt8.ofNat (97+m.ID.toNat)]
 tgt:Tgt ns i m.Type_
 crit:m.Critical=true→m.HasDefault=false
 un:record=false→m.Critical=false∧m.HasDefault=false
 nod:m.HasDefault=false→m.Default=dSValue
 dfl:m.HasDefault=true→Init ns m.Type_ m.Default
include hN h5 in
theorem gqa (h1 : 1 ≤ ns.length) {i : Int} (hi : 0 ≤ i ∧ i < ns.length) {x : Nd} (hx : NOk x) (record : Bool) {id : Int} (hid : 1 ≤ id ∧ id ≤ 12) {acc : List SMember} (ha : acc.length ≤ 12) :
   ∀(k j:Nat),j+k=x.Parts.length→∃l,g2h (i,record,id,(j:Int),ns,x,acc)=some (i,record,id,ns,x,acc++l)∧l.length≤1∧∀m,m∈l→m.ID=id∧MemP ns i record m
 | 0,j,hj=>⟨[],by rw[g2h,if_neg (by simp;omega)];simp,by simp,fun m hm=>by cases hm⟩
 | k+1,j,hj=>by
   have hlt:j < x.Parts.length:=by omega
   have hr:=g13 hx.l;obtain⟨q1,q2,q3⟩:=hx.p _ (gg hlt dPt);obtain⟨u,hu,hu2⟩:=gwo hN h5 h1 hi q2;rw[g2h,if_pos (by simp;omega),if_pos (g6 hlt)];simp only[oZ4,oZ3,g7];have hu':g5m ((⟨ns⟩:Sheaveref07Draft),i,(x.Parts.getD j dSheaveref07Part).Type_)=some u:=hu;rw[hu'];simp only[oZ3]
   generalize hp:x.Parts.getD j dSheaveref07Part=p;have q1':U8 p.ID:=by rw[←hp];exact q1
   have q3':U8 p.Flag:=by rw[←hp];exact q3
   obtain⟨f1,f2⟩:=q3';have e1:remI p.Flag 4=p.Flag % 4:=g56 f1 (by omega);have e2:quoI .u8 p.Flag 4=p.Flag / 4:=g10y f1 f2;have rec':=gqa h1 hi hx record hid ha k (j+1) (by omega);by_cases hskip:(bif (!(decide (addI .i64 1 (wrp .i64 (remI p.ID 12))=id)))then true else decide (u < 0))=true
   · rw[if_pos hskip,gj (by omega)];exact rec'
   · rw[if_neg hskip];have hu0:Tgt ns i u:=by
       rcases hu2 with h | h
       · exfalso;apply hskip
         cases decide (addI .i64 1 (wrp .i64 (remI p.ID 12))=id) <;> simp[h]
       · exact h
     have hrune:=gq7 (k:=id) ⟨by omega,by omega⟩;rw[hrune];have hname:([109]++[UInt8.ofNat (97+id.toNat)]:List UInt8)=[UInt8.ofNat 109,UInt8.ofNat (97+id.toNat)]:=rfl;rw[if_pos (g2k (by simp)),hname,e1,e2];obtain⟨r,r1,r2,r3⟩:=gub hN h5 h1 ⟨hu0.1,hu0.2.1⟩ (code:=p.Flag / 4) ⟨by omega,by omega⟩
     have hroom:∀m:SMember,room 160 (acc++[m]).length=true:=fun m=>g4j (by omega) (by simp;omega)
     have done:∀m:SMember,m.ID=id→MemP ns i record m→∃l,(some (i,record,id,ns,x,acc++[m]):Option (Int × Bool × Int × List Nd × Nd × List SMember))=some (i,record,id,ns,x,acc++l)∧l.length≤1∧∀m,m∈l→m.ID=id∧MemP ns i record m:=fun m a b=>⟨[m],rfl,by simp,fun y hy=>by
       have:y=m:=by simpa using hy
       subst this;exact⟨a,b⟩⟩
     cases record with
     | false=>
       simp only[cond_false,Bool.false_eq_true,if_false];rw[if_pos (hroom _)];exact done _ rfl ⟨hid,rfl,hu0,fun h=>(by cases h),fun _=>⟨rfl,rfl⟩,fun _=>rfl,fun h=>by cases h⟩
     | true=>
       simp only[cond_true];by_cases g1:p.Flag % 4=1
       · rw[if_pos (by simpa using g1),if_neg (by simp;omega),if_pos (hroom _)];exact done _ rfl ⟨hid,rfl,hu0,fun _=>rfl,fun h=>(by cases h),fun _=>rfl,fun h=>by cases h⟩
       · rw[if_neg (by simpa using g1)];by_cases g2:2≤p.Flag % 4
         · rw[if_pos (by simpa using g2),r1];simp only[oZ3,SValue.gq];rw[if_pos (hroom _)];exact done _ rfl ⟨hid,rfl,hu0,fun h=>(by cases h),fun h=>(by cases h),r2,r3⟩
         · rw[if_neg (by simpa using g2),if_pos (hroom _)];exact done _ rfl ⟨hid,rfl,hu0,fun h=>(by cases h),fun h=>(by cases h),fun _=>rfl,fun h=>by cases h⟩
def MemsP(ns:List Nd)(i:Int)(record:Bool)(l:List SMember) :Prop:=l.Pairwise (fun a b=>a.ID < b.ID)∧(∀m,m∈l→MemP ns i record m)∧l.length≤12
include hN h5 in
theorem gqb (h1 : 1 ≤ ns.length) {i : Int} (hi : 0 ≤ i ∧ i < ns.length) {x : Nd} (hx : NOk x) (record : Bool) : ∀ (k id : Nat) (acc : List SMember), id + k = 13 → 1 ≤ id →
   acc.Pairwise (fun a b=>a.ID < b.ID)→(∀m,m∈acc→MemP ns i record m∧m.ID < id)→acc.length < id→∃l,g2d (i,record,(id:Int),ns,x,acc)=some l∧MemsP ns i record l
 | 0,id,acc,hk,h0,ha,hb,hl=>⟨acc,by rw[g2d,if_neg (by simp;omega)],ha,fun m hm=>(hb m hm).1,by omega⟩
 | k+1,id,acc,hk,h0,ha,hb,hl=>by
   rw[g2d,if_pos (by simp;omega)];obtain⟨l,l1,l2,l3⟩:=gqa hN h5 h1 hi hx record (id:=(id:Int)) ⟨by omega,by omega⟩ (acc:=acc) (by omega) x.Parts.length 0 (by omega);have l1':g2h (i,record,(id:Int),0,ns,x,acc)=_:=l1;rw[l1'];simp only[oZ4,oZ3];rw[gj (by omega)]
   refine gqb h1 hi hx record k (id+1) _ (by omega) (by omega) ?_ (fun m hm=>?_) (by simp;omega)
   · rw[List.pairwise_append];refine⟨ha,?_,fun a h2 b h3=>?_⟩
     · match l,l2 with
       | [],_=>exact .nil
       | [a],_=>simp
       | a::b::c,h=>simp at h
     · have:=(hb a h2).2;have:=(l3 b h3).1;omega
   · rcases List.mem_append.1 hm with h | h
     · have:=hb m h;exact⟨this.1,by omega⟩
     · have:=l3 m h;exact⟨this.2,by omega⟩
include hN h5 in
theorem gqc(h1:1≤ns.length){i:Int}(hi:0≤i∧i < ns.length)(record:Bool) :∃l,g4b ((⟨ns⟩:Sheaveref07Draft),i,record)=some l∧MemsP ns i record l:=by
 obtain⟨j,rfl⟩:∃j:Nat,i=(j:Int):=⟨i.toNat,by omega⟩
 have hj:j < ns.length:=by omega
 have hx:=hN _ (gg hj dNd);obtain⟨l,l1,l2⟩:=gqb hN h5 h1 hi hx record 12 1 [] (by omega) (by omega) .nil (fun m hm=>by cases hm) (by simp);refine⟨l,?_,l2⟩;have l1':g2d ((j:Int),record,1,ns,ns.getD j dNd,[])=some l:=l1;rw[g4b,if_pos (g6 hj),g7];have l1'':g2d ((j:Int),record,1,ns,ns.getD j dSheaveref07Node,[])=some l:=l1';rw[l1''];rfl
def symsL(l:List Int) :List SSymbol:=l.map fun j=>⟨j,[UInt8.ofNat 115,UInt8.ofNat (97+j.toNat)]⟩
theorem gsa {l : List Int} (hl : l.length ≤ 6) (hr : ∀ x, x ∈ l → 1 ≤ x ∧ x ≤ 6) (n i : Int) (b : List Nd) (b1 : Int) (b2 : List UInt8) (b3 b4 b5 b6 b7 : Int) (b8 : Bool) (b9 : List SType) : ∀ (k j : Nat) (acc : List SSymbol), j + k = l.length → acc.length ≤ j →
   g2q (n,i,l,(j:Int),b,b1,b2,b3,b4,b5,b6,b7,b8,b9,acc)=some (n,i,b,b1,b2,b3,b4,b5,b6,b7,b8,b9,acc++symsL (l.drop j))
 | 0,j,acc,hj,ha=>by
   rw[g2q,if_neg (by simp;omega),List.drop_eq_nil_of_le (by omega:l.length≤j)];simp[symsL]
 | k+1,j,acc,hj,ha=>by
   have hlt:j < l.length:=by omega
   have hx:=hr _ (gg hlt 0);rw[g2q,if_pos (by simp;omega),if_pos (g6 hlt),if_pos (g6 hlt)];simp only[oZ4,oZ3,g7];rw[gq7 ⟨by omega,by omega⟩,if_pos (g2k (by simp)),if_pos (g4j (by omega) (by simp;omega)),gj (by omega),gsa hl hr n i b b1 b2 b3 b4 b5 b6 b7 b8 b9 k (j+1) _ (by omega) (by simp;omega),g27 hlt 0];simp[symsL]
def TyP(ns:List Nd)(i:Int)(t:SType) :Prop:=
 let x:=ns.getD i.toNat dNd
 let n:=(ns.length:Int)
 let nameL:=[UInt8.ofNat (65+i.toNat)]
 (kd ns i=1∧t=⟨1,[],0,0,0,[],[],0,0,false⟩)∨
 (kd ns i=2∧t=⟨2,[],x.A % 7 - 3,x.A % 7 - 3+x.B % 6,0,[],[],0,0,false⟩)∨
 (kd ns i=3∧t=⟨3,[],0,0,x.A % 4,[],[],0,0,false⟩)∨
 (kd ns i=4∧∃o,t=⟨4,nameL,0,0,0,symsL (idsL x),[],0,0,o⟩)∨
 (kd ns i=5∧∃l,MemsP ns i true l∧t=⟨5,nameL,0,0,0,[],l,0,0,false⟩)∨
 (kd ns i=6∧t=⟨5,nameL,0,0,0,[],[],0,0,false⟩)∨
 (kd ns i=6∧∃l o,MemsP ns i false l∧0 < l.length∧t=⟨6,nameL,0,0,0,[],l,0,0,o⟩)∨
 (kd ns i=7∧t=⟨7,[],0,0,x.A % 4,[],[],0,x.C % n,false⟩)∨
 (kd ns i=8∧(∀w,¬KeyT ns w)∧t=⟨7,[],0,0,x.A % 4,[],[],0,x.C % n,false⟩)∨
 (kd ns i=8∧∃k,KeyT ns k∧t=⟨8,[],0,0,x.A % 4,[],[],k,x.C % n,false⟩)∨
 (kd ns i=9∧t=⟨9,[],0,0,0,[],[],0,x.C % n,false⟩)
include hN h5 in
theorem of_l0 (h1 : 1 ≤ ns.length) : ∀ (k i : Nat) (acc : List SType), i + k = ns.length → acc.length = i → (∀ j, j < i → TyP ns (j : Int) (acc.getD j dSType)) →
   ∃l,gm ((ns.length:Int),(i:Int),ns,acc)=some l∧l.length=ns.length∧∀j,j < ns.length→TyP ns (j:Int) (l.getD j dSType)
 | 0,i,acc,hi,hl,ha=>⟨acc,by rw[gm,if_neg (by simp;omega)],by omega,fun j hj=>ha j (by omega)⟩
 | k+1,i,acc,hi,hl,ha=>by
   have hlt:i < ns.length:=by omega
   have hx:=hN _ (gg hlt dNd);obtain⟨e,k1,k9⟩:=kd_eq hN h5 (i:=(i:Int)) (by omega) (by omega);have next:∀t:SType,TyP ns (i:Int) t→∃l,(if room 120 (acc++[t]).length=true then gm ((ns.length:Int),addI .i64 (i:Int) 1,ns,acc++[t])else none)=some l∧l.length=ns.length∧∀j,j < ns.length→TyP ns (j:Int) (l.getD j dSType):=by
     intro t ht;rw[if_pos (g4j (by omega) (by simp;omega)),gj (by omega)];refine of_l0 h1 k (i+1) _ (by omega) (by simp;omega) fun j hj=>?_
     by_cases hji:j < i
     · have:(acc++[t]).getD j dSType=acc.getD j dSType:=by
         rw[List.getD_eq_getElem?_getD,List.getD_eq_getElem?_getD,List.getElem?_append_left (by omega)]
       rw[this];exact ha j hji
     · have:j=i:=by omega
       subst this;have:(acc++[t]).getD j dSType=t:=by
         rw[List.getD_eq_getElem?_getD,List.getElem?_append_right (by omega),hl];simp
       rw[this];exact ht
   rw[gm,if_pos (by simp;omega),if_pos (g6 hlt)];simp only[oZ4,oZ3,g7];rw[e];simp only[oZ3,g1k];have hrune:=g10z (k:=(i:Int)) ⟨by omega,by omega⟩;have hT:∀t,TyP ns (i:Int) t→TyP ns (i:Int) t:=fun t h=>h
   have⟨ga,gb,gc⟩:U8 (ns.getD i dNd).A∧U8 (ns.getD i dNd).B∧U8 (ns.getD i dNd).C:=⟨hx.a,hx.b,hx.c⟩
   have g0:(!(decide ((ns.length:Int)=0)))=true:=nz (by omega);have gA:wrp .i64 (remI (ns.getD i dNd).A 4)=(ns.getD i dNd).A % 4:=by
     unfold U8 at ga;rw[g56 ga.1 (by omega),g8l ⟨by omega,by omega⟩]
   have gC:remI (wrp .i64 (ns.getD i dNd).C) (ns.length:Int)=(ns.getD i dNd).C % (ns.length:Int):=by
     unfold U8 at gc;rw[g8l ⟨by omega,by omega⟩,g56 gc.1 (by omega)]
   have hc9:kd ns (i:Int)=1∨kd ns (i:Int)=2∨kd ns (i:Int)=3∨kd ns (i:Int)=4∨kd ns (i:Int)=5∨kd ns (i:Int)=6∨kd ns (i:Int)=7∨kd ns (i:Int)=8∨kd ns (i:Int)=9:=by omega
   rcases hc9 with hk | hk | hk | hk | hk | hk | hk | hk | hk <;> rw[hk] <;>
     simp only[Int.reduceEq,decide_false,decide_true,Bool.false_eq_true,if_false,if_true,oZ3,cond_false,cond_true]
   · exact next _ (by unfold TyP;simp[hk])
   · have el:=gq8 hx;have eh:=gs9 hx;have el':g3w (ns.getD i dSheaveref07Node)=_:=el;have eh':g4q (ns.getD i dSheaveref07Node)=_:=eh;rw[el'];simp only[oZ3];rw[eh'];simp only[oZ3];exact next _ (by unfold TyP;simp only[g7];exact .inr (.inl ⟨hk,by first | trivial | rfl⟩))
   · have gA':wrp .i64 (remI (ns.getD i dSheaveref07Node).A 4)=_:=gA;rw[gA'];exact next _ (by unfold TyP;simp only[g7];exact .inr (.inr (.inl ⟨hk,by first | trivial | rfl⟩)))
   · obtain⟨i1,i2,i3,i4⟩:=ids_eq' (ns.getD i dNd);have i1':g3g (ns.getD i dSheaveref07Node)=_:=i1;rw[i1'];simp only[oZ3];have hs:=gsa (l:=idsL (ns.getD i dNd)) i4 i2.2 (ns.length:Int) (i:Int) ns 4 (g78 (wrp .i32 (addI .i64 65 (i:Int)))) 0 0 0 0 0 (decide (remI (ns.getD i dNd).B 2=1)) acc (idsL (ns.getD i dNd)).length 0 [] (by omega) (by simp)
     have hs':g2q ((ns.length:Int),(i:Int),idsL (ns.getD i dNd),0,ns,4,g78 (wrp .i32 (addI .i64 65 (i:Int))),0,0,0,0,0,decide (remI (ns.getD i dSheaveref07Node).B 2=1),acc,[])=_:=hs;rw[hs'];simp only[oZ3,List.drop_zero,List.nil_append];rw[hrune];exact next _ (by unfold TyP;simp only[g7];exact .inr (.inr (.inr (.inl ⟨hk,_,rfl⟩))))
   · obtain⟨l,l1,l2⟩:=gqc hN h5 h1 (i:=(i:Int)) ⟨by omega,by omega⟩ true;rw[l1];simp only[oZ3];rw[hrune];exact next _ (by unfold TyP;simp only[g7];exact .inr (.inr (.inr (.inr (.inl ⟨hk,l,l2,rfl⟩)))))
   · obtain⟨l,l1,l2⟩:=gqc hN h5 h1 (i:=(i:Int)) ⟨by omega,by omega⟩ false;rw[l1];simp only[oZ3];rw[hrune];by_cases h0:l.length=0
     · rw[if_pos (by simp[h0])];exact next _ (by unfold TyP;simp only[g7];exact .inr (.inr (.inr (.inr (.inr (.inl ⟨hk,by first | trivial | rfl⟩))))))
     · rw[if_neg (by simp;intro h;rw[h]at h0;simp at h0)];exact next _ (by unfold TyP;simp only[g7];exact .inr (.inr (.inr (.inr (.inr (.inr (.inl ⟨hk,l,_,l2,by omega,rfl⟩)))))))
   · have gA':wrp .i64 (remI (ns.getD i dSheaveref07Node).A 4)=_:=gA;have gC':remI (wrp .i64 (ns.getD i dSheaveref07Node).C) (ns.length:Int)=_:=gC;rw[if_pos g0,gA',gC'];exact next _ (by unfold TyP;simp only[g7];exact .inr (.inr (.inr (.inr (.inr (.inr (.inr (.inl ⟨hk,by first | trivial | rfl⟩))))))))
   · have gA':wrp .i64 (remI (ns.getD i dSheaveref07Node).A 4)=_:=gA;have gC':remI (wrp .i64 (ns.getD i dSheaveref07Node).C) (ns.length:Int)=_:=gC;obtain⟨u,u1,u2⟩:=gwq hN h5 gb h1;have u1':g53 ((⟨ns⟩:Sheaveref07Draft),(ns.getD i dSheaveref07Node).B)=some u:=u1;rw[u1'];simp only[oZ3];rw[if_pos g0,gA',gC'];rcases u2 with⟨rfl,a⟩ | a
     · rw[if_pos (by simp)];exact next _ (by unfold TyP;simp only[g7];exact .inr (.inr (.inr (.inr (.inr (.inr (.inr (.inr (.inl ⟨hk,a,by first | trivial | rfl⟩)))))))))
     · rw[if_neg (by have:=a.1;simp;omega)];exact next _ (by unfold TyP;simp only[g7];exact .inr (.inr (.inr (.inr (.inr (.inr (.inr (.inr (.inr (.inl ⟨hk,u,a,rfl⟩))))))))))
   · have gC':remI (wrp .i64 (ns.getD i dSheaveref07Node).C) (ns.length:Int)=_:=gC;rw[if_pos g0,gC'];exact next _ (by unfold TyP;simp only[g7];exact .inr (.inr (.inr (.inr (.inr (.inr (.inr (.inr (.inr (.inr ⟨hk,by first | trivial | rfl⟩))))))))))
end
def DOk(d:Sheaveref07Draft) :Prop:=d.Nodes.length≤reachBytes∧∀x,x∈d.Nodes→NOk x
theorem of_eq{d:Sheaveref07Draft}(hd:DOk d) :g5e d=some (⟨[]⟩,false)∨∃l,g5e d=some (⟨l⟩,true)∧1≤d.Nodes.length∧d.Nodes.length≤5∧l.length=d.Nodes.length∧∀j,j < d.Nodes.length→TyP d.Nodes (j:Int) (l.getD j dSType):=by
 rw[g5e];simp only[oZ4,oZ3];by_cases h:1≤d.Nodes.length∧d.Nodes.length≤5
 · obtain⟨l,l1,l2,l3⟩:=of_l0 hd.2 h.2 h.1 d.Nodes.length 0 [] (by omega) rfl (fun j hj=>by omega);have l1':gm ((d.Nodes.length:Int),0,d.Nodes,[])=some l:=l1;right;have hc:¬((bif decide ((d.Nodes.length:Int) < 1)then true else decide (5 < (d.Nodes.length:Int)))=true):=by
     have a:¬(d.Nodes.length:Int) < 1:=by omega
     have b:¬(5:Int) < (d.Nodes.length:Int):=by omega
     simp only[a,b,decide_false,cond_false,Bool.false_eq_true,not_false_eq_true]
   rw[if_neg hc,l1'];exact⟨l,rfl,h.1,h.2,l2,l3⟩
 · left;have hc:(bif decide ((d.Nodes.length:Int) < 1)then true else decide (5 < (d.Nodes.length:Int)))=true:=by
     by_cases a:(d.Nodes.length:Int) < 1
     · simp only[a,decide_true,cond_true]
     · have b:(5:Int) < (d.Nodes.length:Int):=by omega
       simp only[a,b,decide_true,decide_false,cond_false]
   rw[if_pos hc]
end
section
open Go Go.Proofs.YthnmepafpikaiaaGreat.Shv Go.Sort
set_option maxRecDepth 100000
structure DrOk (ts:List SType):Prop where
 n1:1≤ts.length
 n5:ts.length≤5
 T:∀t,t∈ts→OkT t
 V:VOk ts
 D:∀t,t∈ts→g10x ts t.Members
 R:∀i:Nat,i < ts.length→∀m,m∈(ts.getD i dSType).Members→0≤m.Type_∧m.Type_ < ts.length∧(7≤(ts.getD m.Type_.toNat dSType).Kind∨m.Type_ < i)
 L:∀t,t∈ts→t.Kind=2→-3≤t.Low∧t.High≤8
 M:∀t,t∈ts→t.Max≤3
 I:∀t,t∈ts→(∀m,m∈t.Members→m.ID≤12)∧(∀y,y∈t.Symbols→y.ID≤6)∧t.Members.length≤12
 W:∀t,t∈ts→∀m,m∈t.Members→m.HasDefault=true→wt m.Default≤13
theorem g7s{v:SValue}(hk:v.Keys=[])(hi:v.Items=[])(hr:v.Rest=[])(hs:v.Str.length≤1000)(n1:I64 v.Kind)(n2:I64 v.Int_)(n3:I64 v.ID) :OkV v:=by
 refine .mk v (by unfold reachBytes;omega) (by rw[hk];simp) (by rw[hi];simp) (by rw[hr];simp) (fun x hx=>?_) (fun x hx=>?_) (fun x hx=>?_) n1 n2 n3 (fun x hx=>?_)
 · rw[hk]at hx;cases hx
 · rw[hi]at hx;cases hx
 · rw[hr]at hx;cases hx
 · rw[hr]at hx;cases hx
theorem okV_d :OkV dSValue:=g7s rfl rfl rfl (by simp[dSValue]) (by unfold I64 dSValue;simp) (by unfold I64 dSValue;simp) (by unfold I64 dSValue;simp)
theorem gsb{v:SValue}(hk:v.Keys=[])(hi:v.Items=[])(hr:v.Rest=[]) :wt v=10+v.Str.length:=by
 rw[wt_eq,hk,hi,hr,g5g];simp
section
variable {ns:List Nd} (hN:∀x,x∈ns→NOk x) (h5:ns.length≤5) (h1:1≤ns.length) {l:List SType} (hl:l.length=ns.length) (hT:∀j,j < ns.length→TyP ns (j:Int) (l.getD j dSType))
include hN h5 in
theorem gsc{t:Int}(ht:0≤t∧t < ns.length){v:SValue}(h:Init ns t v) :OkV v∧wt v≤13:=by
 obtain⟨a,b,c,h⟩:=h;obtain⟨j,rfl⟩:∃j:Nat,t=(j:Int):=⟨t.toNat,by omega⟩
 have hx:=hN _ (gg (by omega:j < ns.length) dNd);obtain⟨_,k1,k9⟩:=kd_eq hN h5 ht.1 ht.2;rw[g7]at h;have ha:=hx.a;have hb:=hx.b;have hids:=(ids_eq' (ns.getD j dNd)).2.1.2;unfold U8 at ha hb;rw[gsb a b c];have hs:v.Str.length≤3:=by
   rcases h with⟨_,_,_,e,_⟩ | ⟨_,_,_,e,_⟩ | ⟨_,_,_,_,_,e⟩ | ⟨_,_,_,_,e,_⟩ | ⟨_,_,_,e,_⟩
   · rw[e];simp
   · rw[e];simp
   · omega
   · rw[e];simp
   · rw[e];simp
 refine⟨g7s a b c (by omega) ?_ ?_ ?_,by omega⟩
 · unfold I64;rcases h with h | h | h | h | h <;> omega
 · unfold I64;rcases h with⟨_,_,e,_⟩ | ⟨_,_,_,_,_,e⟩ | ⟨_,_,_,e,_⟩ | ⟨_,_,_,e,_⟩ | ⟨_,_,e,_⟩ <;> omega
 · unfold I64;rcases h with⟨_,_,_,_,e⟩ | ⟨_,_,_,_,e,_⟩ | ⟨_,_,_,_,e,_⟩ | ⟨_,_,_,_,_,e⟩ | ⟨_,_,_,_,e,_⟩
   · omega
   · omega
   · omega
   · have:=hids _ e;omega
   · omega
include hN h5 in
theorem gm2{i:Int}{r:Bool}{Ms:List SMember}(h:MemsP ns i r Ms) :gag (!r) Ms∨(r=false∧Ms=[]):=by
 obtain⟨a,b,c⟩:=h;by_cases h0:r=false∧Ms=[]
 · exact .inr h0
 left;refine⟨fun m hm=>?_,?_,⟨a,fun m hm=>?_⟩,fun m hm=>?_,?_,by omega⟩
 · have q:=b m hm;unfold badM;have hz:m.HasDefault=false→g9a m.Default=true:=fun h=>by
     rw[q.nod h];have h3:Says (g46 (dSValue,dSValue)) dSValue dSValue:=gc3 okV_d dSValue;obtain⟨w,w1,w2⟩:=h3;unfold g9a;rw[w1];exact w2.2 rfl
   have hc:=q.crit;have hu:=q.un;cases r <;> cases hcr:m.Critical <;> cases hdf:m.HasDefault <;> simp_all
 · cases r with
   | true=>exact .inl rfl
   | false=>
     right;have:Ms≠[]:=fun e=>h0 ⟨rfl,e⟩
     exact List.length_pos_iff.2 this
 · have:=(b m hm).id;exact⟨by omega,by omega⟩
 · have q:=b m hm;have:=q.id;rw[q.name];exact gwn (by omega) (by omega)
 · unfold List.Nodup;rw[List.pairwise_map];refine a.imp_of_mem fun {x y} hx hy hlt=>?_
   have qx:=b x hx;have qy:=b y hy;have ix:=qx.id;have iy:=qy.id;rw[qx.name,qy.name];intro e;simp only[List.cons.injEq,and_true,true_and]at e;have e2:=congrArg UInt8.toNat e;rw[g3o (by omega),g3o (by omega)]at e2;omega
theorem gm3{l:List Int}(h:IdsOk l 6)(h1:1≤l.length)(h6:l.length≤6) :gig (symsL l)∧(∀y,y∈symsL l→y.ID≤6):=by
 unfold symsL;refine⟨⟨by simp;omega,⟨?_,fun y hy=>?_⟩,fun y hy=>?_,?_,by simp;omega⟩,fun y hy=>?_⟩
 · rw[List.pairwise_map];exact h.1
 · obtain⟨x,hx,rfl⟩:=List.mem_map.1 hy;have:=h.2 x hx;exact⟨this.1,by show x≤1000;omega⟩
 · obtain⟨x,hx,rfl⟩:=List.mem_map.1 hy;have:=h.2 x hx;exact gwn (by omega) (by omega)
 · unfold List.Nodup;rw[List.pairwise_map,List.pairwise_map];refine h.1.imp_of_mem fun {x y} hx hy hlt=>?_
   have ix:=h.2 x hx;have iy:=h.2 y hy;intro e;simp only[List.cons.injEq,and_true,true_and]at e;have e2:=congrArg UInt8.toNat e;rw[g3o (by omega),g3o (by omega)]at e2;omega
 · obtain⟨x,hx,rfl⟩:=List.mem_map.1 hy;exact(h.2 x hx).2
theorem gsd{i:Int}{t:SType}(h:TyP ns i t) :(kd ns i≤5∨kd ns i=7∨kd ns i=9→t.Kind=kd ns i)∧(kd ns i=6→t.Kind=5∨t.Kind=6)∧(kd ns i=8→(t.Kind=8∧∃w,KeyT ns w)∨(t.Kind=7∧¬∃w,KeyT ns w)):=by
 unfold TyP at h;rcases h with⟨k,rfl⟩ | ⟨k,rfl⟩ | ⟨k,rfl⟩ | ⟨k,_,rfl⟩ | ⟨k,_,_,rfl⟩ | ⟨k,rfl⟩ | ⟨k,_,_,_,_,rfl⟩ | ⟨k,rfl⟩ | ⟨k,a,rfl⟩ | ⟨k,w,a,rfl⟩ | ⟨k,rfl⟩ <;> simp[k]
 · exact fun w hw=>a w hw
 · exact⟨w,a⟩
theorem ggj{i:Int}{t:SType}(h:TyP ns i t) :t.Members=[]∨∃r,MemsP ns i r t.Members:=by
 unfold TyP at h;rcases h with⟨k,rfl⟩ | ⟨k,rfl⟩ | ⟨k,rfl⟩ | ⟨k,_,rfl⟩ | ⟨k,_,a,rfl⟩ | ⟨k,rfl⟩ | ⟨k,_,_,a,_,rfl⟩ | ⟨k,rfl⟩ | ⟨k,a,rfl⟩ | ⟨k,w,a,rfl⟩ | ⟨k,rfl⟩
 · exact .inl rfl
 · exact .inl rfl
 · exact .inl rfl
 · exact .inl rfl
 · exact .inr ⟨_,a⟩
 · exact .inl rfl
 · exact .inr ⟨_,a⟩
 · exact .inl rfl
 · exact .inl rfl
 · exact .inl rfl
 · exact .inl rfl
include hN h5 h1 hl hT in
theorem gxp :DrOk l:=by
 have lift:∀{P:SType→Prop},(∀j,j < ns.length→P (l.getD j dSType))→∀t,t∈l→P t:=fun hp t ht=>by
   obtain⟨i,hi,rfl⟩:=List.getElem_of_mem ht;have:=hp i (by omega);rw[g1c hi]at this;exact this
 have hx:∀j,j < ns.length→NOk (ns.getD j dNd):=fun j hj=>hN _ (gg hj dNd)
 have mem:∀j,j < ns.length→∀m,m∈(l.getD j dSType).Members→∃r,MemP ns (j:Int) r m:=fun j hj m hm=>by
   rcases ggj (hT j hj)with h | ⟨r,_,h,_⟩
   · rw[h]at hm;cases hm
   · exact⟨r,h m hm⟩
 have okT:∀t,t∈l→OkT t:=lift fun j hj=>by
   have hm:=mem j hj;have ht:=hT j hj;have hlm:(l.getD j dSType).Members.length≤12:=by
     rcases ggj ht with h | ⟨r,_,_,h⟩
     · rw[h];simp
     · exact h
   have hls:(l.getD j dSType).Symbols.length≤6:=by
     have hi:=(ids_eq' (ns.getD j dNd)).2.2.2;unfold TyP at ht;rcases ht with⟨k,e⟩ | ⟨k,e⟩ | ⟨k,e⟩ | ⟨k,_,e⟩ | ⟨k,_,_,e⟩ | ⟨k,e⟩ | ⟨k,_,_,_,_,e⟩ | ⟨k,e⟩ | ⟨k,_,e⟩ | ⟨k,_,_,e⟩ | ⟨k,e⟩ <;> rw[e]
     case inr.inr.inr.inl=>simp only[g7,symsL,List.length_map];exact hi
     all_goals simp
   refine⟨by unfold reachBytes;omega,by unfold reachBytes;omega,fun m hm'=>?_⟩;obtain⟨r,q⟩:=hm m hm';by_cases hd:m.HasDefault=true
   · exact(gsc hN h5 ⟨q.tgt.1,q.tgt.2.1⟩ (q.dfl hd)).1
   · rw[q.nod (by simpa using hd)];exact okV_d
 have kind7:∀u:Int,0≤u→u < ns.length→7≤kd ns u→7≤(l.getD u.toNat dSType).Kind:=fun u h0 hu h7=>by
   obtain⟨j,rfl⟩:∃j:Nat,u=(j:Int):=⟨u.toNat,by omega⟩
   rw[g7];obtain⟨_,_,k9⟩:=kd_eq hN h5 h0 hu;obtain⟨a,b,c⟩:=gsd (hT j (by omega));have:kd ns (j:Int)=7∨kd ns (j:Int)=8∨kd ns (j:Int)=9:=by omega
   rcases this with h | h | h
   · have:=a (.inr (.inl h));omega
   · rcases c h with h | h <;> omega
   · have:=a (.inr (.inr h));omega
 have vok:VOk l:=by
   refine⟨by omega,lift fun j hj=>?_,fun j hj=>?_,lift fun j hj=>?_,lift fun j hj h8=>?_⟩
   · have ht:=hT j hj;have hid:=ids_eq' (ns.getD j dNd);have ha:=(hx j hj).a;have hb:=(hx j hj).b;have hnm:nm [UInt8.ofNat (65+j)]=true:=g110 (by omega);unfold U8 at ha hb;unfold TyP at ht;simp only[g7]at ht;generalize [UInt8.ofNat (65+j)]=nmL at hnm ht;unfold FormP
     rcases ht with⟨k,e⟩ | ⟨k,e⟩ | ⟨k,e⟩ | ⟨k,_,e⟩ | ⟨k,Ms,a,e⟩ | ⟨k,e⟩ | ⟨k,Ms,_,a,a0,e⟩ | ⟨k,e⟩ | ⟨k,_,e⟩ | ⟨k,_,_,e⟩ | ⟨k,e⟩ <;> rw[e]
     · simp
     · simp;omega
     · simp;omega
     · simp;exact⟨hnm,(gm3 hid.2.1 hid.2.2.1 hid.2.2.2).1⟩
     · simp;refine⟨hnm,?_⟩;rcases gm2 hN h5 a with h | ⟨h,_⟩
       · exact h
       · cases h
     · simp;exact⟨hnm,fun m hm=>(by cases hm),.inl rfl,⟨.nil,fun m hm=>by cases hm⟩,fun m hm=>(by cases hm),by simp,by simp⟩
     · simp;refine⟨hnm,?_⟩;rcases gm2 hN h5 a with h | ⟨_,h⟩
       · exact h
       · rw[h]at a0;simp at a0
     · simp;omega
     · simp;omega
     · simp;omega
     · simp
   ·
     have nameOf:∀k,k < ns.length→(l.getD k dSType).Name=[]∨(l.getD k dSType).Name=[UInt8.ofNat (65+k)]:=fun k hk=>by
       have ht:=hT k hk;unfold TyP at ht;simp only[g7]at ht;rcases ht with⟨k,e⟩ | ⟨k,e⟩ | ⟨k,e⟩ | ⟨k,_,e⟩ | ⟨k,Ms,a,e⟩ | ⟨k,e⟩ | ⟨k,Ms,_,a,a0,e⟩ | ⟨k,e⟩ | ⟨k,_,e⟩ | ⟨k,_,_,e⟩ | ⟨k,e⟩ <;> rw[e] <;> simp
     rcases nameOf j (by omega)with h | h
     · rw[h];simp
     · rw[h];simp only[Bool.and_eq_false_iff];right;apply Bool.eq_false_iff.2;intro hc;obtain⟨k,hk,he⟩:=(g4o (by simp;omega)).1 hc;have hg:(l.map (·.Name)).getD k []=(l.getD k dSType).Name:=g26 (·.Name) l k dSType [] (by omega);rw[hg]at he;rcases nameOf k (by omega)with h' | h'
       · rw[h']at he;cases he
       · rw[h']at he;simp only[List.cons.injEq,and_true]at he;have e2:=congrArg UInt8.toNat he;rw[g3o (by omega),g3o (by omega)]at e2;omega
   · intro u hu;have hm:=mem j hj;have hc:=(hx j hj).c;unfold U8 at hc;have c0:0≤(ns.getD j dNd).C % (ns.length:Int):=Int.emod_nonneg _ (by omega);have c1:(ns.getD j dNd).C % (ns.length:Int) < ns.length:=Int.emod_lt_of_pos _ (by omega);have ht:=hT j hj;unfold TyP at ht;simp only[g7]at ht;generalize (ns.getD j dNd).C % (ns.length:Int)=cc at c0 c1 ht;unfold usesL at hu
     simp only[List.mem_append,List.mem_map]at hu;rcases hu with(⟨m,h,rfl⟩ | h) | h
     · obtain⟨r,q⟩:=hm m h;have:=q.tgt.1;have:=q.tgt.2.1;omega
     · split at h
       · rename_i h8;have:u=(l.getD j dSType).Key:=by simpa using h
         rw[this];rcases ht with⟨k,e⟩ | ⟨k,e⟩ | ⟨k,e⟩ | ⟨k,_,e⟩ | ⟨k,Ms,a,e⟩ | ⟨k,e⟩ | ⟨k,Ms,_,a,a0,e⟩ | ⟨k,e⟩ | ⟨k,_,e⟩ | ⟨k,w,a,e⟩ | ⟨k,e⟩ <;> rw[e]at h8 ⊢ <;> simp at h8 ⊢
         obtain⟨w0,w1,_⟩:=a;omega
       · cases h
     · split at h
       · rename_i h7;have:u=(l.getD j dSType).Elem:=by simpa using h
         rw[this];rcases ht with⟨k,e⟩ | ⟨k,e⟩ | ⟨k,e⟩ | ⟨k,_,e⟩ | ⟨k,Ms,a,e⟩ | ⟨k,e⟩ | ⟨k,Ms,_,a,a0,e⟩ | ⟨k,e⟩ | ⟨k,_,e⟩ | ⟨k,w,a,e⟩ | ⟨k,e⟩ <;> rw[e]at h7 ⊢ <;> simp at h7 ⊢ <;> omega
       · cases h
   · have ht:=hT j hj;unfold TyP at ht;simp only[g7]at ht;rcases ht with⟨k,e⟩ | ⟨k,e⟩ | ⟨k,e⟩ | ⟨k,_,e⟩ | ⟨k,Ms,a,e⟩ | ⟨k,e⟩ | ⟨k,Ms,_,a,a0,e⟩ | ⟨k,e⟩ | ⟨k,_,e⟩ | ⟨k,w,a,e⟩ | ⟨k,e⟩ <;> rw[e]at h8 ⊢ <;> simp at h8 ⊢
     obtain⟨w0,w1,w2,w3⟩:=a;obtain⟨q,rfl⟩:∃q:Nat,w=(q:Int):=⟨w.toNat,by omega⟩
     obtain⟨a,_,_⟩:=gsd (hT q (by omega));have:=a (.inl (by omega));simp only[g7];rw[←List.getD_eq_getElem?_getD];omega
 refine⟨by omega,by omega,okT,vok,lift fun j hj m hm hd=>?_,fun j hj m hm=>?_,lift fun j hj h2=>?_,lift fun j hj=>?_,lift fun j hj=>⟨fun m hm=>?_,fun y hy=>?_,?_⟩,lift fun j hj m hm hd=>?_⟩
 · obtain⟨r,q⟩:=mem j hj m hm;have hi:=q.dfl hd;obtain⟨u0,u1,_⟩:=q.tgt;generalize m.Default=v at hi;obtain⟨u,hu⟩:∃u:Nat,m.Type_=(u:Int):=⟨m.Type_.toNat,by omega⟩
   rw[hu]at hi u0 u1 ⊢;have ht:=hT u (by omega);obtain⟨a,b,c,hi⟩:=hi;rw[g7i];simp only[g7]at hi ⊢;unfold TyP at ht;simp only[g7]at ht;have hlen:((l.length:Nat):Int)=ns.length:=by omega
   rw[hlen];generalize l.getD u dSType=x at ht ⊢;rw[a,b,c];have vn:∀t,vfits l true t []:=fun t=>by rw[vfits];trivial
   have ka:g5o []:=fun i hi=>by simp at hi
   have hxu:=hx u (by omega);generalize ns.getD u dNd=nd at ht hi hxu;rcases hi with⟨k,e1,e2,e3,e4⟩ | ⟨k,e1,e2,e3,e4,e5,e6⟩ | ⟨k,e1,e2,e3,e4,e5⟩ | ⟨k,e1,e2,e3,e4,e5⟩ | ⟨k,e1,e2,e3,e4,e5⟩
   · rw[k]at ht;simp only[Int.reduceEq,false_and,true_and,or_false,false_or]at ht;rw[ht,e1,e2,e3,e4];simp <;> omega
   · rw[k]at ht;simp only[Int.reduceEq,false_and,true_and,or_false,false_or]at ht;rw[ht,e1,e2,e3,e4];simp <;> omega
   · rw[k]at ht;simp only[Int.reduceEq,false_and,true_and,or_false,false_or]at ht;rw[ht,e1,e2,e3,e4];simp <;> omega
   · rw[k]at ht;simp only[Int.reduceEq,false_and,true_and,or_false,false_or]at ht;obtain⟨o,rfl⟩:=ht;rw[e1,e2,e3,e4];simp;refine⟨by omega,⟨v.ID,[UInt8.ofNat 115,UInt8.ofNat (97+v.ID.toNat)]⟩,?_,rfl⟩;unfold symsL;refine List.mem_map.2 ⟨v.ID,?_,rfl⟩;exact e5
   · rw[e1,e2,e3,e4];have k9:kd ns (u:Int)≤9:=(kd_eq hN h5 u0 u1).2.2;have hcc:kd ns (u:Int)=7∨kd ns (u:Int)=8∨kd ns (u:Int)=9:=by omega
     have ha:=hxu.a;unfold U8 at ha;rcases hcc with k' | k' | k'
     · rw[k']at ht e5;simp only[Int.reduceEq,false_and,true_and,or_false,false_or]at ht;have e5':v.Kind=7:=by simpa using e5
       rw[ht,e5'];simp[vn];omega
     · rw[k']at ht e5;simp at e5;rcases e5 with⟨e5,w,hw⟩ | ⟨e5,e6⟩
       · simp at ht;rcases ht with⟨hno,_⟩ | ⟨w',hw',rfl⟩
         · exact absurd hw (hno w)
         · rw[e5];simp[vn,ka];omega
       · simp at ht;rcases ht with⟨hno,rfl⟩ | ⟨w',hw',rfl⟩
         · rw[e5];simp[vn];omega
         · exact absurd hw' (e6 w')
     · rw[k']at ht e5;simp only[Int.reduceEq,false_and,true_and,or_false,false_or]at ht;have e5':v.Kind=9:=by simpa using e5
       rw[ht,e5'];simp[vn];omega
 · obtain⟨r,q⟩:=mem j (by omega) m hm;obtain⟨u0,u1,u2⟩:=q.tgt;refine⟨u0,by omega,?_⟩;rcases u2 with h | h
   · exact .inl (kind7 _ u0 u1 h)
   · exact .inr h
 · have ht:=hT j hj;have ha:=(hx j hj).a;have hb:=(hx j hj).b;unfold U8 at ha hb;unfold TyP at ht;simp only[g7]at ht;rcases ht with⟨k,e⟩ | ⟨k,e⟩ | ⟨k,e⟩ | ⟨k,_,e⟩ | ⟨k,Ms,a,e⟩ | ⟨k,e⟩ | ⟨k,Ms,_,a,a0,e⟩ | ⟨k,e⟩ | ⟨k,_,e⟩ | ⟨k,w,a,e⟩ | ⟨k,e⟩ <;> rw[e]at h2 ⊢ <;> simp at h2 ⊢
   omega
 · have ht:=hT j hj;have ha:=(hx j hj).a;unfold U8 at ha;unfold TyP at ht;simp only[g7]at ht;rcases ht with⟨k,e⟩ | ⟨k,e⟩ | ⟨k,e⟩ | ⟨k,_,e⟩ | ⟨k,Ms,a,e⟩ | ⟨k,e⟩ | ⟨k,Ms,_,a,a0,e⟩ | ⟨k,e⟩ | ⟨k,_,e⟩ | ⟨k,w,a,e⟩ | ⟨k,e⟩ <;> rw[e] <;> simp <;> omega
 · obtain⟨r,q⟩:=mem j hj m hm;exact q.id.2
 · have ht:=hT j hj;have hid:=ids_eq' (ns.getD j dNd);unfold TyP at ht;simp only[g7]at ht;rcases ht with⟨k,e⟩ | ⟨k,e⟩ | ⟨k,e⟩ | ⟨k,_,e⟩ | ⟨k,Ms,a,e⟩ | ⟨k,e⟩ | ⟨k,Ms,_,a,a0,e⟩ | ⟨k,e⟩ | ⟨k,_,e⟩ | ⟨k,w,a,e⟩ | ⟨k,e⟩ <;> rw[e]at hy <;> simp at hy
   exact(gm3 hid.2.1 hid.2.2.1 hid.2.2.2).2 y hy
 · rcases ggj (hT j hj)with h | ⟨r,_,_,h⟩
   · rw[h];simp
   · exact h
 · obtain⟨r,q⟩:=mem j hj m hm;exact(gsc hN h5 ⟨q.tgt.1,q.tgt.2.1⟩ (q.dfl hd)).2
end
theorem of_ok{d:Sheaveref07Draft}(hd:DOk d) :g5e d=some (⟨[]⟩,false)∨∃l,g5e d=some (⟨l⟩,true)∧DrOk l:=by
 rcases of_eq hd with h | ⟨l,a,b,c,e,f⟩
 · exact .inl h
 · exact .inr ⟨l,a,gxp hd.2 c b e f⟩
end
end Go.Proofs.YthnmepafpikaiaaGreat
