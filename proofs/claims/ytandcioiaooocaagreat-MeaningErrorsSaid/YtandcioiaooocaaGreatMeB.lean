/- The functions of the program as functions of Lean, that its code does what they say, and what they answer; part B. -/
import Derived.Test.YtandcioiaooocaaGreatMeA

namespace Go.Proofs.YtandcioiaooocaaGreat
set_option linter.all false
section
open Go Go.Proofs.YtandcioiaooocaaGreat.Shv
set_option maxRecDepth 100000
theorem OkT.plain{k l h m kk e:Int}{n:List UInt8}{S:List SSymbol}{Ms:List SMember}{o:Bool}(hS:S.length*24≤reachBytes)(hM:Ms.length*24≤reachBytes)(hd:∀x,x∈Ms→OkV x.Default) :OkT ⟨k,n,l,h,m,S,Ms,kk,e,o⟩:=⟨hS,hM,hd⟩
theorem form1{N:List UInt8}{L H M K E:Int}{S:List SSymbol}{Ms:List SMember}{O:Bool}(h:OkT (⟨1,N,L,H,M,S,Ms,K,E,O⟩:SType)) :∃r,g10 (⟨1,N,L,H,M,S,Ms,K,E,O⟩:SType)=some r∧gq (⟨1,N,L,H,M,S,Ms,K,E,O⟩:SType)=some r∧(r=true→N=[]):=by
 obtain⟨a,a1,a2⟩:=g3o (a:=(⟨0,N,L,H,M,S,Ms,K,E,O⟩:SType)) ⟨h.syms,h.mems,h.dv⟩ (⟨0,[],0,0,0,[],[],0,0,false⟩:SType);obtain⟨b,b1,b2⟩:=g7v h (⟨1,[],0,0,0,[],[],0,0,false⟩:SType);have hab:a=b:=by
   refine Bool.eq_iff_iff.2 (a2.trans (Iff.trans ?_ b2.symm));simp only[SType.mk.injEq]
   try (simp)
 subst hab;refine⟨a,by simp[g10,a1],by simp[gq,g1v,g1i,b1];try (cases a <;> rfl),fun hr=>?_⟩;have:=b2.1 hr;simp only[SType.mk.injEq]at this;exact this.2.1
theorem form2{N:List UInt8}{L H M K E:Int}{S:List SSymbol}{Ms:List SMember}{O:Bool}(h:OkT (⟨2,N,L,H,M,S,Ms,K,E,O⟩:SType)) :∃r,g10 (⟨2,N,L,H,M,S,Ms,K,E,O⟩:SType)=some r∧gq (⟨2,N,L,H,M,S,Ms,K,E,O⟩:SType)=some r∧(r=true→N=[]):=by
 obtain⟨a,a1,a2⟩:=g3o (a:=(⟨0,N,0,0,M,S,Ms,K,E,O⟩:SType)) ⟨h.syms,h.mems,h.dv⟩ (⟨0,[],0,0,0,[],[],0,0,false⟩:SType);obtain⟨b,b1,b2⟩:=g7v h (⟨2,[],L,H,0,[],[],0,0,false⟩:SType);have hab:a=b:=by
   refine Bool.eq_iff_iff.2 (a2.trans (Iff.trans ?_ b2.symm));simp only[SType.mk.injEq]
   try (simp)
 subst hab;refine⟨decide (L≤H) && a,?_,?_,fun hr=>?_⟩
 · simp only[g10];generalize decide (L≤H)=q;simp[a1]
   try (cases q <;> rfl)
 · simp only[gq];generalize decide (L≤H)=q;simp[g1v,g1i,b1]
   try (cases a <;> cases q <;> rfl)
 · rw[Bool.and_eq_true]at hr;have:=b2.1 hr.2;simp only[SType.mk.injEq]at this;exact this.2.1
theorem form3{N:List UInt8}{L H M K E:Int}{S:List SSymbol}{Ms:List SMember}{O:Bool}(h:OkT (⟨3,N,L,H,M,S,Ms,K,E,O⟩:SType)) :∃r,g10 (⟨3,N,L,H,M,S,Ms,K,E,O⟩:SType)=some r∧gq (⟨3,N,L,H,M,S,Ms,K,E,O⟩:SType)=some r∧(r=true→N=[]):=by
 obtain⟨a,a1,a2⟩:=g3o (a:=(⟨0,N,L,H,0,S,Ms,K,E,O⟩:SType)) ⟨h.syms,h.mems,h.dv⟩ (⟨0,[],0,0,0,[],[],0,0,false⟩:SType);obtain⟨b,b1,b2⟩:=g7v h (⟨3,[],0,0,M,[],[],0,0,false⟩:SType);have hab:a=b:=by
   refine Bool.eq_iff_iff.2 (a2.trans (Iff.trans ?_ b2.symm));simp only[SType.mk.injEq]
   try (simp)
 subst hab;refine⟨(bif decide (0≤M)then decide (M≤200)else false) && a,?_,?_,fun hr=>?_⟩
 · simp only[g10];generalize (bif decide (0≤M)then decide (M≤200)else false)=q;simp[a1]
   try (cases q <;> rfl)
 · simp only[gq];generalize (bif decide (0≤M)then decide (M≤200)else false)=q;simp[g1v,g1i,b1]
   try (cases a <;> cases q <;> rfl)
 · rw[Bool.and_eq_true]at hr;have:=b2.1 hr.2;simp only[SType.mk.injEq]at this;exact this.2.1
theorem form4{N:List UInt8}{L H M K E:Int}{S:List SSymbol}{Ms:List SMember}{O:Bool}(h:OkT (⟨4,N,L,H,M,S,Ms,K,E,O⟩:SType)) :∃r,g10 (⟨4,N,L,H,M,S,Ms,K,E,O⟩:SType)=some r∧gq (⟨4,N,L,H,M,S,Ms,K,E,O⟩:SType)=some r∧(r=true→N≠[]):=by
 obtain⟨a,a1,a2⟩:=g3o (a:=(⟨0,[],L,H,M,[],Ms,K,E,false⟩:SType)) ⟨(by simp),h.mems,h.dv⟩ (⟨0,[],0,0,0,[],[],0,0,false⟩:SType);obtain⟨b,b1,b2⟩:=g7v h (⟨4,N,0,0,0,S,[],0,0,O⟩:SType);have hab:a=b:=by
   refine Bool.eq_iff_iff.2 (a2.trans (Iff.trans ?_ b2.symm));simp only[SType.mk.injEq]
   try (cases O <;> simp)
 subst hab;obtain⟨q,q1,q2⟩:=gui (l:=S) h.syms;refine⟨nm N && q && a,?_,?_,fun hr=>?_⟩
 · simp only[g10];simp[a1,q1,lexNm]
   try (cases nm N <;> cases q <;> rfl)
 · simp only[gq]
   try simp at q2
   simp[g1v,g1i,b1,q2,refNm]
   try (cases a <;> cases nm N <;> cases q <;> rfl)
 · simp only[Bool.and_eq_true]at hr;exact nm_ne hr.1.1
theorem form5{N:List UInt8}{L H M K E:Int}{S:List SSymbol}{Ms:List SMember}{O:Bool}(h:OkT (⟨5,N,L,H,M,S,Ms,K,E,O⟩:SType)) :∃r,g10 (⟨5,N,L,H,M,S,Ms,K,E,O⟩:SType)=some r∧gq (⟨5,N,L,H,M,S,Ms,K,E,O⟩:SType)=some r∧(r=true→N≠[]):=by
 obtain⟨a,a1,a2⟩:=g3o (a:=(⟨0,[],L,H,M,S,[],K,E,(bif O then decide ((5:Int)=5)else false)⟩:SType)) ⟨h.syms,(by simp),(by simp)⟩ (⟨0,[],0,0,0,[],[],0,0,false⟩:SType);obtain⟨b,b1,b2⟩:=g7v h (⟨5,N,0,0,0,[],Ms,0,0,false⟩:SType);have hab:a=b:=by
   refine Bool.eq_iff_iff.2 (a2.trans (Iff.trans ?_ b2.symm));simp only[SType.mk.injEq]
   try (cases O <;> simp)
 subst hab;obtain⟨q,q1,q2⟩:=gn7 h (by simp);refine⟨nm N && q && a,?_,?_,fun hr=>?_⟩
 · simp only[g10]
   try simp at a1
   try simp at q1
   simp[a1,q1,lexNm]
   try (cases nm N <;> cases q <;> rfl)
 · simp only[gq]
   try simp at q2
   simp[g1v,g1i,b1,q2,refNm]
   try (cases a <;> cases nm N <;> cases q <;> rfl)
 · simp only[Bool.and_eq_true]at hr;exact nm_ne hr.1.1
theorem form6{N:List UInt8}{L H M K E:Int}{S:List SSymbol}{Ms:List SMember}{O:Bool}(h:OkT (⟨6,N,L,H,M,S,Ms,K,E,O⟩:SType)) :∃r,g10 (⟨6,N,L,H,M,S,Ms,K,E,O⟩:SType)=some r∧gq (⟨6,N,L,H,M,S,Ms,K,E,O⟩:SType)=some r∧(r=true→N≠[]):=by
 obtain⟨a,a1,a2⟩:=g3o (a:=(⟨0,[],L,H,M,S,[],K,E,(bif O then decide ((6:Int)=5)else false)⟩:SType)) ⟨h.syms,(by simp),(by simp)⟩ (⟨0,[],0,0,0,[],[],0,0,false⟩:SType);obtain⟨b,b1,b2⟩:=g7v h (⟨6,N,0,0,0,[],Ms,0,0,O⟩:SType);have hab:a=b:=by
   refine Bool.eq_iff_iff.2 (a2.trans (Iff.trans ?_ b2.symm));simp only[SType.mk.injEq]
   try (cases O <;> simp)
 subst hab;obtain⟨q,q1,q2⟩:=gn7 h (by simp);refine⟨nm N && q && a,?_,?_,fun hr=>?_⟩
 · simp only[g10]
   try simp at a1
   try simp at q1
   simp[a1,q1,lexNm]
   try (cases nm N <;> cases q <;> rfl)
 · simp only[gq]
   try simp at q2
   simp[g1v,g1i,b1,q2,refNm]
   try (cases a <;> cases nm N <;> cases q <;> rfl)
 · simp only[Bool.and_eq_true]at hr;exact nm_ne hr.1.1
theorem form7{N:List UInt8}{L H M K E:Int}{S:List SSymbol}{Ms:List SMember}{O:Bool}(h:OkT (⟨7,N,L,H,M,S,Ms,K,E,O⟩:SType)) :∃r,g10 (⟨7,N,L,H,M,S,Ms,K,E,O⟩:SType)=some r∧gq (⟨7,N,L,H,M,S,Ms,K,E,O⟩:SType)=some r∧(r=true→N=[]):=by
 obtain⟨a,a1,a2⟩:=g3o (a:=(⟨0,N,L,H,0,S,Ms,K,0,O⟩:SType)) ⟨h.syms,h.mems,h.dv⟩ (⟨0,[],0,0,0,[],[],0,0,false⟩:SType);obtain⟨b,b1,b2⟩:=g7v h (⟨7,[],0,0,M,[],[],0,E,false⟩:SType);have hab:a=b:=by
   refine Bool.eq_iff_iff.2 (a2.trans (Iff.trans ?_ b2.symm));simp only[SType.mk.injEq]
   try (simp)
 subst hab;refine⟨(bif decide (0≤M)then decide (M≤50)else false) && a,?_,?_,fun hr=>?_⟩
 · simp only[g10];generalize (bif decide (0≤M)then decide (M≤50)else false)=q;simp[a1]
   try (cases q <;> rfl)
 · simp only[gq];generalize (bif decide (0≤M)then decide (M≤50)else false)=q;simp[g1v,g1i,b1]
   try (cases a <;> cases q <;> rfl)
 · rw[Bool.and_eq_true]at hr;have:=b2.1 hr.2;simp only[SType.mk.injEq]at this;exact this.2.1
theorem form8{N:List UInt8}{L H M K E:Int}{S:List SSymbol}{Ms:List SMember}{O:Bool}(h:OkT (⟨8,N,L,H,M,S,Ms,K,E,O⟩:SType)) :∃r,g10 (⟨8,N,L,H,M,S,Ms,K,E,O⟩:SType)=some r∧gq (⟨8,N,L,H,M,S,Ms,K,E,O⟩:SType)=some r∧(r=true→N=[]):=by
 obtain⟨a,a1,a2⟩:=g3o (a:=(⟨0,N,L,H,0,S,Ms,0,0,O⟩:SType)) ⟨h.syms,h.mems,h.dv⟩ (⟨0,[],0,0,0,[],[],0,0,false⟩:SType);obtain⟨b,b1,b2⟩:=g7v h (⟨8,[],0,0,M,[],[],K,E,false⟩:SType);have hab:a=b:=by
   refine Bool.eq_iff_iff.2 (a2.trans (Iff.trans ?_ b2.symm));simp only[SType.mk.injEq]
   try (simp)
 subst hab;refine⟨(bif decide (0≤M)then decide (M≤50)else false) && a,?_,?_,fun hr=>?_⟩
 · simp only[g10];generalize (bif decide (0≤M)then decide (M≤50)else false)=q;simp[a1]
   try (cases q <;> rfl)
 · simp only[gq];generalize (bif decide (0≤M)then decide (M≤50)else false)=q;simp[g1v,g1i,b1]
   try (cases a <;> cases q <;> rfl)
 · rw[Bool.and_eq_true]at hr;have:=b2.1 hr.2;simp only[SType.mk.injEq]at this;exact this.2.1
theorem form9{N:List UInt8}{L H M K E:Int}{S:List SSymbol}{Ms:List SMember}{O:Bool}(h:OkT (⟨9,N,L,H,M,S,Ms,K,E,O⟩:SType)) :∃r,g10 (⟨9,N,L,H,M,S,Ms,K,E,O⟩:SType)=some r∧gq (⟨9,N,L,H,M,S,Ms,K,E,O⟩:SType)=some r∧(r=true→N=[]):=by
 obtain⟨a,a1,a2⟩:=g3o (a:=(⟨0,N,L,H,M,S,Ms,K,0,O⟩:SType)) ⟨h.syms,h.mems,h.dv⟩ (⟨0,[],0,0,0,[],[],0,0,false⟩:SType);obtain⟨b,b1,b2⟩:=g7v h (⟨9,[],0,0,0,[],[],0,E,false⟩:SType);have hab:a=b:=by
   refine Bool.eq_iff_iff.2 (a2.trans (Iff.trans ?_ b2.symm));simp only[SType.mk.injEq]
   try (simp)
 subst hab;refine⟨a,by simp[g10,a1],by simp[gq,g1v,g1i,b1];try (cases a <;> rfl),fun hr=>?_⟩;have:=b2.1 hr;simp only[SType.mk.injEq]at this;exact this.2.1
end
section
open Go Go.Proofs.YtandcioiaooocaaGreat.Shv
set_option maxRecDepth 100000
def g5a(k:Int) :Bool:=bif bif decide (k=4)then true else decide (k=5)then true else decide (k=6)
theorem gn8{t:SType}(h:OkT t) :∃r,g10 t=some r∧gq t=some r∧(r=true→1≤t.Kind∧t.Kind≤9∧g5a t.Kind=!(decide (t.Name=[]))):=by
 by_cases hk:1≤t.Kind∧t.Kind≤9
 · obtain⟨Kd,N,L,H,M,S,Ms,K,E,O⟩:=t;simp only at hk;have:Kd=1∨Kd=2∨Kd=3∨Kd=4∨Kd=5∨Kd=6∨Kd=7∨Kd=8∨Kd=9:=by omega
   rcases this with rfl | rfl | rfl | rfl | rfl | rfl | rfl | rfl | rfl
   · obtain⟨r,h1,h2,h3⟩:=form1 h;exact⟨r,h1,h2,fun hr=>⟨hk.1,hk.2,by simp[g5a,h3 hr]⟩⟩
   · obtain⟨r,h1,h2,h3⟩:=form2 h;exact⟨r,h1,h2,fun hr=>⟨hk.1,hk.2,by simp[g5a,h3 hr]⟩⟩
   · obtain⟨r,h1,h2,h3⟩:=form3 h;exact⟨r,h1,h2,fun hr=>⟨hk.1,hk.2,by simp[g5a,h3 hr]⟩⟩
   · obtain⟨r,h1,h2,h3⟩:=form4 h;exact⟨r,h1,h2,fun hr=>⟨hk.1,hk.2,by simp[g5a,h3 hr]⟩⟩
   · obtain⟨r,h1,h2,h3⟩:=form5 h;exact⟨r,h1,h2,fun hr=>⟨hk.1,hk.2,by simp[g5a,h3 hr]⟩⟩
   · obtain⟨r,h1,h2,h3⟩:=form6 h;exact⟨r,h1,h2,fun hr=>⟨hk.1,hk.2,by simp[g5a,h3 hr]⟩⟩
   · obtain⟨r,h1,h2,h3⟩:=form7 h;exact⟨r,h1,h2,fun hr=>⟨hk.1,hk.2,by simp[g5a,h3 hr]⟩⟩
   · obtain⟨r,h1,h2,h3⟩:=form8 h;exact⟨r,h1,h2,fun hr=>⟨hk.1,hk.2,by simp[g5a,h3 hr]⟩⟩
   · obtain⟨r,h1,h2,h3⟩:=form9 h;exact⟨r,h1,h2,fun hr=>⟨hk.1,hk.2,by simp[g5a,h3 hr]⟩⟩
 · refine⟨false,?_,?_,fun h=>by cases h⟩
   · have e:∀k:Int,1≤k→k≤9→¬t.Kind=k:=fun k h1 h2 e=>hk (by omega)
     simp[g10,e 1,e 2,e 3,e 4,e 5,e 6,e 7,e 8,e 9]
   · have e:(bif decide (t.Kind < 1)then true else decide (9 < t.Kind))=true:=by
       by_cases h1:t.Kind < 1
       · simp[h1]
       · simp[h1];omega
     rw[gq,e];rfl
def usesL(t:SType) :List Int:=t.Members.map (·.Type_)++(if t.Kind=8 then[t.Key]else[])++(if 7≤t.Kind then[t.Elem]else[])
theorem gad{k n:Nat}(hk:k≤16){m:Nat}(h:m*24≤reachBytes)(hn:n≤m+2) :room k n=true:=by
 unfold room g43 g1c;unfold reachBytes at h;simp only[Bool.and_eq_true,decide_eq_true_eq];have:(2*n+192)*k≤(2*n+192)*16:=Nat.mul_le_mul_left _ hk;omega
theorem glr(t:SType)(h:t.Members.length*24≤reachBytes) :∀(k i:Nat),i+k=t.Members.length→g3z (t.Members,(t.Members.length:Int),(i:Int),t,(t.Members.map (·.Type_)).take i)=some (t,t.Members.map (·.Type_))
 | 0,i,hi=>by
   rw[g3z,if_neg (by simp;omega),List.take_of_length_le (by simp;omega)]
 | k+1,i,hi=>by
   have hr:=g12 (g4h h);have hlt:i < t.Members.length:=by omega
   rw[g3z,if_pos (by simp;omega),if_pos (g8 hlt)];simp only[oZ4,oZ3,gf];rw[←g1x (·.Type_) t.Members i dSMember 0 hlt,g8l _ _ _ (by simpa using hlt),gp (by omega),if_pos (gad (m:=t.Members.length) (by omega) h (by simp;omega))];exact glr t h k (i+1) (by omega)
theorem gwg{t:SType}(h:t.Members.length*24≤reachBytes) :ga3 t=some (usesL t):=by
 have h0:=glr t h t.Members.length 0 (by omega);have h0':g3z (t.Members,(t.Members.length:Int),0,t,[])=some (t,t.Members.map (·.Type_)):=h0;rw[ga3,h0'];unfold usesL;simp only[oZ4,oZ3];have r1:room 8 (t.Members.map (·.Type_)++[t.Key]).length=true:=gad (m:=t.Members.length) (by omega) h (by simp)
 have r2:room 8 (t.Members.map (·.Type_)++[t.Key]++[t.Elem]).length=true:=gad (m:=t.Members.length) (by omega) h (by simp);have r3:room 8 (t.Members.map (·.Type_)++[t.Elem]).length=true:=gad (m:=t.Members.length) (by omega) h (by simp);by_cases h8:t.Kind=8
 · have h7:7≤t.Kind:=by omega
   rw[if_pos (by simp[h8]),if_pos r1,if_pos (by simp[h7]),if_pos r2,if_pos h8,if_pos h7]
 · rw[if_neg (by simp[h8]),if_neg h8];by_cases h7:7≤t.Kind
   · rw[if_pos (by simp[h7]),if_pos r3,if_pos h7];simp
   · rw[if_neg (by simp[h7]),if_neg h7];simp
theorem gls(t:SType)(h:t.Members.length*24≤reachBytes) :∀(k i:Nat),i+k=t.Members.length→g2i ((i:Int),t,(t.Members.map (·.Type_)).take i)=some (t,t.Members.map (·.Type_))
 | 0,i,hi=>by
   rw[g2i,if_neg (by simp;omega),List.take_of_length_le (by simp;omega)]
 | k+1,i,hi=>by
   have hr:=g12 (g4h h);have hlt:i < t.Members.length:=by omega
   rw[g2i,if_pos (by simp;omega),if_pos (g8 hlt)];simp only[oZ4,oZ3,gf];rw[←g1x (·.Type_) t.Members i dSMember 0 hlt,g8l _ _ _ (by simpa using hlt),gp (by omega),if_pos (gad (m:=t.Members.length) (by omega) h (by simp;omega))];exact gls t h k (i+1) (by omega)
theorem gwh{t:SType}(h:t.Members.length*24≤reachBytes)(hk:t.Kind≤9) :g6o t=some (usesL t):=by
 have h0:=gls t h t.Members.length 0 (by omega);have h0':g2i (0,t,[])=some (t,t.Members.map (·.Type_)):=h0;rw[g6o,h0'];unfold usesL;simp only[oZ4,oZ3];have r1:room 8 (t.Members.map (·.Type_)++[t.Key]).length=true:=gad (m:=t.Members.length) (by omega) h (by simp)
 have r2:room 8 (t.Members.map (·.Type_)++[t.Key]++[t.Elem]).length=true:=gad (m:=t.Members.length) (by omega) h (by simp);have r3:room 8 (t.Members.map (·.Type_)++[t.Elem]).length=true:=gad (m:=t.Members.length) (by omega) h (by simp);by_cases h8:t.Kind=8
 · have h7:7≤t.Kind:=by omega
   rw[if_pos (by simp[h8]),if_pos r1,if_pos (by simp[h8]),if_pos r2,if_pos h8,if_pos h7]
 · rw[if_neg (by simp[h8]),if_neg h8];by_cases h7:7≤t.Kind
   · have:t.Kind=7∨t.Kind=9:=by omega
     rw[if_pos (by rcases this with e | e <;> simp[e]),if_pos r3,if_pos h7];simp
   · have e7:¬t.Kind=7:=by omega
     have e9:¬t.Kind=9:=by omega
     rw[if_neg (by simp[h8,e7,e9]),if_neg h7];simp
theorem gwi(k:Int) :g1i k=some (g5a k):=rfl
def keyB(k:Int) :Bool:=bif decide (1≤k)then decide (k≤4)else false
def outB(n:Nat)(u:Int) :Bool:=bif decide (u < 0)then true else decide ((n:Int)≤u)
def stepV(ts:List SType)(i:Nat) :Option Int:=
 let t:=ts.getD i dSType
 if !((g10 t).getD false)then some 1
 else if !(decide (t.Name=[])) && ((ts.map (·.Name)).take i).contains t.Name then some 1
 else if(usesL t).any (outB ts.length)then some 4
 else if decide (t.Kind=8) && !(keyB (ts.getD t.Key.toNat dSType).Kind)then some 1
 else none
theorem gk2 {ts : List SType} {i : Nat} {t : SType} {r : Bool} (hT : ts.getD i dSType = t) (f1 : g10 t = some r) :
   stepV ts i=if(!r)=true then some 1 else if(!(decide (t.Name=[])) && ((ts.map (·.Name)).take i).contains t.Name)=true then some 1 else if(usesL t).any (outB ts.length)=true then some 4 else if(decide (t.Kind=8) && !(keyB (ts.getD t.Key.toNat dSType).Kind))=true then some 1 else none:=by
 subst hT;unfold stepV;simp only[f1,Option.getD_some]
theorem gp6 {γ : Type} (L : Nat → Option γ) (l : List Int) (q : Int → Bool) (bad good : γ) (hstep : ∀ i, i < l.length → L i = if q (l.getD i 0) = true then some bad else L (i + 1)) (hend : L l.length = some good) :
   L 0=some (if l.any q=true then bad else good):=by
 have:=scan L l.length (fun i=>!(q (l.getD i 0))) bad good (fun i hi=>by
   rw[hstep i hi];cases q (l.getD i 0) <;> rfl) hend
 rcases this with⟨h1,h2⟩ | ⟨h1,j,h2,h3⟩
 · rw[h1,if_neg];intro h;rw[List.any_eq_true]at h;obtain⟨x,hx,hq⟩:=h;obtain⟨j,hj,he⟩:=List.getElem_of_mem hx;have:=h2 j hj;rw[g13 hj,he,hq]at this;cases this
 · rw[h1,if_pos];rw[List.any_eq_true];refine⟨l.getD j 0,g16 h2 0,by simpa using h3⟩
theorem gn9{t:SType}(h:t.Members.length*24≤reachBytes) :(usesL t).length < 9223372036854775807:=by
 unfold usesL reachBytes at*;simp only[List.length_append,List.length_map];split <;> split <;> simp <;> omega
theorem gyy {L : Nat → Option (Int ⊕ Unit)} {L' : Nat → Option (Int ⊕ Unit)} {n : Nat} {step : Nat → Option Int}
   (h:∀i,i < n→L i=match step i with | some e=>some (.inl e) | none=>L (i+1)) (he:L n=some (.inr ()))
   (h':∀i,i < n→L' i=match step i with | some e=>some (.inl e) | none=>L' (i+1)) (he':L' n=some (.inr ())):∃o,L 0=some o∧L' 0=some o∧((o= .inr ()∧∀i,i < n→step i=none)∨∃i e,i < n∧step i=some e∧o= .inl e):=by
 have key:∀k i,i+k=n→∃o,L i=some o∧L' i=some o∧((o= .inr ()∧∀m,i≤m→m < n→step m=none)∨∃m e,m < n∧step m=some e∧o= .inl e):=by
   intro k
   induction k with
   | zero => intro i hi; have : i = n := by omega
             subst this;exact⟨_,he,he',.inl ⟨rfl,fun m h1 h2=>by omega⟩⟩
   | succ k ih=>
     intro i hi;rw[h i (by omega),h' i (by omega)];cases hst:step i with
     | some e=>exact⟨_,rfl,rfl,.inr ⟨i,e,by omega,hst,rfl⟩⟩
     | none=>
       obtain⟨o,o1,o2,o3⟩:=ih (i+1) (by omega);refine⟨o,o1,o2,?_⟩;rcases o3 with⟨a,b⟩ | h
       · refine .inl ⟨a,fun m h1 h2=>?_⟩;rcases Nat.lt_or_ge i m with h | h
         · exact b m h h2
         · have:m=i:=by omega
           subst this;exact hst
       · exact .inr h
 obtain⟨o,o1,o2,o3⟩:=key n 0 (by omega);refine⟨o,o1,o2,?_⟩;rcases o3 with⟨a,b⟩ | h
 · exact .inl ⟨a,fun i hi=>b i (Nat.zero_le _) hi⟩
 · exact .inr h
theorem gul{ts:List SType}{t:SType}(hu:(usesL t).any (outB ts.length)=false)(h8:t.Kind=8) :inR t.Key ts.length=true:=by
 have hm:t.Key∈usesL t:=by unfold usesL;simp[h8]
 rw[List.any_eq_false]at hu;have:=hu _ hm;unfold outB at this;unfold inR;simp only[Bool.and_eq_true,decide_eq_true_eq];by_cases h1:t.Key < 0
 · simp[h1]at this
 · simp[h1]at this;omega
theorem gyz (ts : List SType) (t : SType) (i : Nat) (hi : i < ts.length) (hr : ts.length < 9223372036854775807) :
   g1f ((i:Int),0,ts,t.Kind,t.Name,t.Low,t.High,t.Max,t.Symbols,t.Members,t.Key,t.Elem,t.Open)=some (if(g5a t.Kind && ((ts.map (·.Name)).take i).contains t.Name)=true then .inl 1 else .inr ((i:Int),ts,t.Kind,t.Name,t.Low,t.High,t.Max,t.Symbols,t.Members,t.Key,t.Elem,t.Open)):=by
 have hsc:=scan (fun k=>g1f ((i:Int),(k:Int),ts,t.Kind,t.Name,t.Low,t.High,t.Max,t.Symbols,t.Members,t.Key,t.Elem,t.Open)) i (fun k=>!(bif g5a t.Kind then decide ((ts.getD k dSType).Name=t.Name)else false)) (.inl 1) (.inr ((i:Int),ts,t.Kind,t.Name,t.Low,t.High,t.Max,t.Symbols,t.Members,t.Key,t.Elem,t.Open))
   (fun k hk=>by
     rw[g1f,if_pos (by simp;omega),gwi];simp only[oZ4,oZ3];rw[if_pos (by rw[g8 (show k < ts.length by omega)];rfl),gp (by omega),gf]
     cases (bif g5a t.Kind then decide ((ts.getD k dSType).Name=t.Name)else false) <;> rfl)
   (by rw[g1f,if_neg (by simp)])
 have e0:g1f ((i:Int),((0:Nat):Int),ts,t.Kind,t.Name,t.Low,t.High,t.Max,t.Symbols,t.Members,t.Key,t.Elem,t.Open)=g1f ((i:Int),0,ts,t.Kind,t.Name,t.Low,t.High,t.Max,t.Symbols,t.Members,t.Key,t.Elem,t.Open):=rfl;simp only[e0]at hsc;rcases hsc with⟨h1,h2⟩ | ⟨h1,j,h2,h3⟩
 · rw[h1,if_neg];rw[Bool.and_eq_true,g47 (by simp;omega)]
   rintro ⟨hn,k,hk,he⟩
   rw[g1x (·.Name) ts k dSType [] (by omega)]at he;have:=h2 k hk;rw[hn,he]at this;simp at this
 · rw[h1,if_pos];rw[Bool.and_eq_true,g47 (by simp;omega)];cases hn:g5a t.Kind with
   | false=>rw[hn]at h3;cases h3
   | true=>
     refine⟨rfl,j,h2,?_⟩;rw[g1x (·.Name) ts j dSType [] (by omega)];rw[hn]at h3
     simpa using h3
theorem gz0 (ts : List SType) (t : SType) (i : Nat) (l : List Int) (hl : l.length < 9223372036854775807) :
   g1z ((i:Int),l,0,ts,t.Kind,t.Name,t.Low,t.High,t.Max,t.Symbols,t.Members,t.Key,t.Elem,t.Open)=some (if l.any (outB ts.length)=true then .inl 4 else .inr ((i:Int),ts,t.Kind,t.Name,t.Low,t.High,t.Max,t.Symbols,t.Members,t.Key,t.Elem,t.Open)):=
 gp6 (fun j=>g1z ((i:Int),l,(j:Int),ts,t.Kind,t.Name,t.Low,t.High,t.Max,t.Symbols,t.Members,t.Key,t.Elem,t.Open)) l (outB ts.length) (.inl 4) (.inr ((i:Int),ts,t.Kind,t.Name,t.Low,t.High,t.Max,t.Symbols,t.Members,t.Key,t.Elem,t.Open))
   (fun j hj=>by
     rw[g1z,if_pos (by simp;omega),if_pos (g8 hj)];simp only[oZ4,oZ3];rw[if_pos (by rw[g8 hj];rfl),gp (by omega)]
     rfl)
   (by rw[g1z,if_neg (by simp)])
theorem gsi{s:SSchema}(hs:s.Types.length≤reachBytes)(ht:∀t,t∈s.Types→OkT t) :∃e,g7k s=some e∧g63 s=some e∧(e=0→s.Types.length≤32∧∀i,i < s.Types.length→stepV s.Types i=none)∧((s.Types.length≤32∧∀i,i < s.Types.length→stepV s.Types i=none)→e=0):=by
 rw[g7k,g63];by_cases h32:32 < s.Types.length
 · exact⟨3,by rw[if_pos (by simp;omega)],by rw[if_pos (by simp;omega)],fun h=>(by cases h),fun h=>absurd h.1 (by omega)⟩
 · rw[if_neg (by simp;omega),if_neg (by simp;omega)];have hr:s.Types.length < 9223372036854775807:=by omega
   have:=gyy (L:=fun i=>g3k (s.Types,(s.Types.length:Int),(i:Int),s.Types,setOf ((s.Types.map (·.Name)).take i))) (L':=fun i=>g1w ((i:Int),s.Types)) (n:=s.Types.length) (step:=stepV s.Types)
     (fun i hi=>by
       have hok:=ht _ (g16 hi dSType);obtain⟨r,f1,f2,f3⟩:=gn8 hok;rw[g3k,if_pos (by simp;omega),if_pos (g8 hi)];simp only[oZ4,oZ3,gf];generalize hT:s.Types.getD i dSType=t at*;rw[gk2 hT f1,f1];simp only[oZ3,gln];cases r with
       | false=>rw[if_pos (show(bif (!false)then true else bif (!(decide (t.Name=[])))then((s.Types.map (·.Name)).take i).contains t.Name else false)=true from rfl),if_pos (show(!false)=true from rfl)]
       | true=>
         rw[if_neg (show ¬((!true)=true) by simp)];by_cases hd:(!(decide (t.Name=[])) && ((s.Types.map (·.Name)).take i).contains t.Name)=true
         · have hd':(bif (!(decide (t.Name=[])))then((s.Types.map (·.Name)).take i).contains t.Name else false)=true:=by
             simp only[Bool.and_eq_true]at hd;rw[hd.1,hd.2];rfl
           rw[if_pos (show(bif (!true)then true else bif (!(decide (t.Name=[])))then((s.Types.map (·.Name)).take i).contains t.Name else false)=true from hd'),if_pos hd]
         · have hd':¬((bif (!(decide (t.Name=[])))then((s.Types.map (·.Name)).take i).contains t.Name else false)=true):=by
             intro hc;apply hd;cases h1:(!(decide (t.Name=[])))with
             | true=>rw[h1]at hc;simpa using hc
             | false=>rw[h1]at hc;cases hc
           rw[if_neg (show ¬((bif (!true)then true else bif (!(decide (t.Name=[])))then((s.Types.map (·.Name)).take i).contains t.Name else false)=true)from hd'),if_neg hd,gwg hok.mems];simp only[oZ3];have hul:=gn9 hok.mems
           have hin:=gp6 (fun j=>g2k (s.Types,(s.Types.length:Int),(i:Int),usesL t,((usesL t).length:Int),(j:Int),s.Types,addS (setOf ((s.Types.map (·.Name)).take i)) t.Name,t.Kind,t.Name,t.Low,t.High,t.Max,t.Symbols,t.Members,t.Key,t.Elem,t.Open)) (usesL t) (outB s.Types.length) (.inl 4)
             (.inr (s.Types,(s.Types.length:Int),(i:Int),s.Types,addS (setOf ((s.Types.map (·.Name)).take i)) t.Name,t.Kind,t.Name,t.Low,t.High,t.Max,t.Symbols,t.Members,t.Key,t.Elem,t.Open))
             (fun j hj=>by
               rw[g2k,if_pos (by simp;omega),if_pos (g8 hj),gp (by omega)]
               rfl)
             (by rw[g2k,if_neg (by simp)])
           have e0:g2k (s.Types,(s.Types.length:Int),(i:Int),usesL t,((usesL t).length:Int),((0:Nat):Int),s.Types,addS (setOf ((s.Types.map (·.Name)).take i)) t.Name,t.Kind,t.Name,t.Low,t.High,t.Max,t.Symbols,t.Members,t.Key,t.Elem,t.Open)=g2k (s.Types,(s.Types.length:Int),(i:Int),usesL t,((usesL t).length:Int),0,s.Types,addS (setOf ((s.Types.map (·.Name)).take i)) t.Name,t.Kind,t.Name,t.Low,t.High,t.Max,t.Symbols,t.Members,t.Key,t.Elem,t.Open):=rfl
           rw[←e0,hin];cases hu:(usesL t).any (outB s.Types.length)with
           | true=>rfl
           | false=>
             simp only[Bool.false_eq_true,if_false,oZ3];have hsucc:addS (setOf ((s.Types.map (·.Name)).take i)) t.Name=setOf ((s.Types.map (·.Name)).take (i+1)):=by
               have h1:=glo (l:=s.Types.map (·.Name)) (i:=i) (by simpa using hi);rw[g1x (·.Name) s.Types i dSType [] hi,hT]at h1;exact h1
             rw[hsucc,gp (by omega)];by_cases h8:t.Kind=8
             · have hk:=gul hu h8;rw[if_pos (by rw[hk];rfl),if_pos (by rw[hk];rfl)];simp only[h8,decide_true,cond_true,Bool.true_and,keyB];generalize (s.Types.getD t.Key.toNat dSType).Kind=k;by_cases q1:k < 1
               · rw[if_pos (by simp[q1]),if_pos (by simp;omega)]
               · by_cases q2:4 < k
                 · rw[if_pos (by simp[q1,q2]),if_pos (by simp;omega)]
                 · rw[if_neg (by simp[q1,q2]),if_neg (by simp;omega)]
             · have e8:decide (t.Kind=8)=false:=by simp[h8]
               simp only[e8,Bool.not_false,Bool.or_true,if_true,Bool.false_and,cond_false,Bool.false_eq_true,if_false])
     (by rw[g3k,if_neg (by simp)])
     (fun i hi=>by
       have hok:=ht _ (g16 hi dSType);obtain⟨r,f1,f2,f3⟩:=gn8 hok;rw[g1w,if_pos (by simp;omega),if_pos (g8 hi)];simp only[oZ4,oZ3,gf];generalize hT:s.Types.getD i dSType=t at*;rw[gk2 hT f1,f2,gyz s.Types t i hi hr];simp only[oZ3];cases r with
       | false=>rfl
       | true=>
         obtain⟨k1,k2,k3⟩:=f3 rfl;rw[if_neg (show ¬((!true)=true) by simp),if_neg (show ¬((!true)=true) by simp),k3];cases hd:(!(decide (t.Name=[])) && ((s.Types.map (·.Name)).take i).contains t.Name)with
         | true=>rfl
         | false=>
           simp only[Bool.false_eq_true,if_false,gk1];rw[gwh hok.mems k2];simp only[oZ3];rw[gz0 s.Types t i (usesL t) (gn9 hok.mems)];cases hu:(usesL t).any (outB s.Types.length)with
           | true=>rfl
           | false=>
             simp only[Bool.false_eq_true,if_false,oZ3];rw[gp (by omega)];by_cases h8:t.Kind=8
             · have hk:=gul hu h8;rw[if_pos (by rw[hk];rfl)];simp only[h8,decide_true,if_true,g71,oZ3,cond_true,Bool.true_and];show(if(!(keyB (s.Types.getD t.Key.toNat dSType).Kind))=true then some (.inl 1)else g1w (((i+1:Nat):Int),s.Types))=_;cases keyB (s.Types.getD t.Key.toNat dSType).Kind <;> rfl
             · have e8:decide (t.Kind=8)=false:=by simp[h8]
               rw[e8]
               simp only[Bool.not_false,Bool.or_true,if_true,Bool.false_and,cond_false,Bool.false_eq_true,if_false,oZ3])
     (by rw[g1w,if_neg (by simp)])
   obtain⟨o,h1,h2,h3⟩:=this;have h1':g3k (s.Types,(s.Types.length:Int),0,s.Types,[])=some o:=h1;have h2':g1w (0,s.Types)=some o:=h2;rw[h1',h2'];rcases h3 with⟨rfl,h4⟩ | ⟨i,e,h4,h5,rfl⟩
   · exact⟨_,rfl,rfl,fun _=>⟨by omega,h4⟩,fun _=>rfl⟩
   · refine⟨_,rfl,rfl,fun h0=>?_,fun h=>by have:=h.2 i h4;rw[h5]at this;cases this⟩
     exfalso
     subst h0;unfold stepV at h5;simp only at h5;split at h5
     · cases h5
     · split at h5
       · cases h5
       · split at h5
         · cases h5
         · split at h5 <;> cases h5
end
section
open Go Go.Proofs.YtandcioiaooocaaGreat.Shv
set_option maxRecDepth 100000
theorem gae {γ : Type} (L : Nat → Option γ) (n : Nat) (q : Nat → Bool) (hit : Nat → γ) (miss : γ) (hstep : ∀ i, i < n → L i = if q i = true then some (hit i) else L (i + 1)) (hend : L n = some miss) :
   (∃j,j < n∧q j=true∧(∀k,k < j→q k=false)∧L 0=some (hit j))∨((∀k,k < n→q k=false)∧L 0=some miss):=by
 have key:∀k i,i+k=n→(∀m,m < i→q m=false)→L 0=L i→(∃j,j < n∧q j=true∧(∀k,k < j→q k=false)∧L 0=some (hit j))∨((∀k,k < n→q k=false)∧L 0=some miss):=by
   intro k
   induction k with
   | zero => intro i hi hm h0; have : i = n := by omega
             subst this;exact .inr ⟨hm,by rw[h0,hend]⟩
   | succ k ih=>
     intro i hi hm h0;rw[hstep i (by omega)]at h0;cases hq:q i with
     | true=>rw[hq,if_pos rfl]at h0;exact .inl ⟨i,by omega,hq,hm,h0⟩
     | false=>
       rw[hq,if_neg (by simp)]at h0;refine ih (i+1) (by omega) (fun m hm'=>?_) h0;rcases Nat.lt_or_ge m i with h | h
       · exact hm m h
       · have:m=i:=by omega
         subst this;exact hq
 exact key n 0 (by omega) (fun m hm=>by omega) rfl
def geo(l:List SMember)(id:Int)(r:Int × Bool) :Prop:=(∃j:Nat,j < l.length∧(l.getD j dSMember).ID=id∧(∀k,k < j→(l.getD k dSMember).ID≠id)∧r=((j:Int),true))∨((∀k,k < l.length→(l.getD k dSMember).ID≠id)∧r=(0,false))
theorem gq3{l:List SMember}{id:Int}{r q:Int × Bool}(h1:geo l id r)(h2:geo l id q) :r=q:=by
 rcases h1 with⟨j,a1,a2,a3,rfl⟩ | ⟨a1,rfl⟩ <;> rcases h2 with⟨k,b1,b2,b3,rfl⟩ | ⟨b1,rfl⟩
 · have:j=k:=by
     rcases Nat.lt_trichotomy j k with h | h | h
     · exact absurd a2 (b3 j h)
     · exact h
     · exact absurd b2 (a3 k h)
   rw[this]
 · exact absurd a2 (b1 j a1)
 · exact absurd b2 (a1 k b1)
 · rfl
theorem gmc{t:SType}{id:Int}(hl:t.Members.length < 9223372036854775807) :∃r,g1o (t,id)=some r∧geo t.Members id r:=by
 rw[g1o,g38];have h:=gae (fun i=>gk (t.Members,(t.Members.length:Int),(i:Int),id)) t.Members.length (fun i=>decide ((t.Members.getD i dSMember).ID=id)) (fun i=>.inl ((i:Int),id)) (.inr id)
   (fun i hi=>by
     rw[gk,if_pos (by simp;omega),if_pos (g8 hi)];simp only[oZ4,oZ3,gf,g7u,g98]
     rw[gp (by omega)])
   (by rw[gk,if_neg (by simp)])
 have e0:gk (t.Members,(t.Members.length:Int),((0:Nat):Int),id)=gk (t.Members,(t.Members.length:Int),0,id):=rfl;simp only[e0]at h;rcases h with⟨j,h1,h2,h3,h4⟩ | ⟨h1,h4⟩
 · rw[h4];refine⟨((j:Int),true),?_,.inl ⟨j,h1,by simpa using h2,fun k hk=>by simpa using h3 k hk,rfl⟩⟩;have e1:maxI (j:Int) 0=(j:Int):=by unfold maxI;omega
   have e2:decide ((0:Int)≤(j:Int))=true:=by simp
   simp only[oZ4,oZ3,e1,e2]
 · rw[h4];exact⟨(0,false),rfl,.inr ⟨fun k hk=>by simpa using h1 k hk,rfl⟩⟩
theorem gmd{t:SType}{id:Int}(hl:t.Members.length < 9223372036854775807) :∃r,g2r (t,id)=some r∧geo t.Members id r:=by
 rw[g2r];have h:=gae (fun i=>g1s (id,(i:Int),t)) t.Members.length (fun i=>decide ((t.Members.getD i dSMember).ID=id)) (fun i=>.inl ((i:Int),true)) (.inr ())
   (fun i hi=>by
     rw[g1s,if_pos (by simp;omega),if_pos (g8 hi),gp (by omega)]
     simp only[gf])
   (by rw[g1s,if_neg (by simp)])
 have e0:g1s (id,((0:Nat):Int),t)=g1s (id,0,t):=rfl;simp only[e0]at h;rcases h with⟨j,h1,h2,h3,h4⟩ | ⟨h1,h4⟩
 · rw[h4];exact⟨((j:Int),true),rfl,.inl ⟨j,h1,by simpa using h2,fun k hk=>by simpa using h3 k hk,rfl⟩⟩
 · rw[h4];exact⟨(0,false),rfl,.inr ⟨fun k hk=>by simpa using h1 k hk,rfl⟩⟩
theorem g70{t:SType}(id:Int)(hl:t.Members.length < 9223372036854775807) :∃r,g1o (t,id)=some r∧g2r (t,id)=some r∧geo t.Members id r:=by
 obtain⟨r,h1,h2⟩:=gmc (id:=id) hl;obtain⟨q,h3,h4⟩:=gmd (id:=id) hl;have:=gq3 h2 h4;subst this;exact⟨r,h1,h3,h2⟩
def gep(l:List SSymbol)(id:Int)(r:Int × Bool) :Prop:=(∃j:Nat,j < l.length∧(l.getD j dSSymbol).ID=id∧(∀k,k < j→(l.getD k dSSymbol).ID≠id)∧r=((j:Int),true))∨((∀k,k < l.length→(l.getD k dSSymbol).ID≠id)∧r=(0,false))
theorem gq4{l:List SSymbol}{id:Int}{r q:Int × Bool}(h1:gep l id r)(h2:gep l id q) :r=q:=by
 rcases h1 with⟨j,a1,a2,a3,rfl⟩ | ⟨a1,rfl⟩ <;> rcases h2 with⟨k,b1,b2,b3,rfl⟩ | ⟨b1,rfl⟩
 · have:j=k:=by
     rcases Nat.lt_trichotomy j k with h | h | h
     · exact absurd a2 (b3 j h)
     · exact h
     · exact absurd b2 (a3 k h)
   rw[this]
 · exact absurd a2 (b1 j a1)
 · exact absurd b2 (a1 k b1)
 · rfl
theorem gjc{t:SType}(id:Int)(hl:t.Symbols.length < 9223372036854775807) :∃r,g6s (t,id)=some r∧g5r (t,id)=some r∧gep t.Symbols id r:=by
 rw[g6s,g37,g5r];have h:=gae (fun i=>gg (t.Symbols,(t.Symbols.length:Int),(i:Int),id)) t.Symbols.length (fun i=>decide ((t.Symbols.getD i dSSymbol).ID=id)) (fun i=>.inl ((i:Int),id)) (.inr id)
   (fun i hi=>by
     rw[gg,if_pos (by simp;omega),if_pos (g8 hi)];simp only[oZ4,oZ3,gf,g96]
     rw[gp (by omega)])
   (by rw[gg,if_neg (by simp)])
 have e0:gg (t.Symbols,(t.Symbols.length:Int),((0:Nat):Int),id)=gg (t.Symbols,(t.Symbols.length:Int),0,id):=rfl;have g:=gae (fun i=>g1j (id,(i:Int),t)) t.Symbols.length (fun i=>decide ((t.Symbols.getD i dSSymbol).ID=id)) (fun i=>.inl ((i:Int),true)) (.inr ())
   (fun i hi=>by
     rw[g1j,if_pos (by simp;omega),if_pos (g8 hi),gp (by omega)]
     simp only[gf])
   (by rw[g1j,if_neg (by simp)])
 have g0:g1j (id,((0:Nat):Int),t)=g1j (id,0,t):=rfl;simp only[e0]at h;simp only[g0]at g;have hA:∃r,(gg (t.Symbols,(t.Symbols.length:Int),0,id) >>=fun o=>match o with | .inl o_1=>some (o_1.1,o_1.2) | .inr o_2=>some ((-1),o_2)) >>=(fun r=>some (maxI r.1 0,decide (0≤r.1)))=some r∧gep t.Symbols id r:=by
   rcases h with⟨j,h1,h2,h3,h4⟩ | ⟨h1,h4⟩
   · rw[h4];refine⟨((j:Int),true),?_,.inl ⟨j,h1,by simpa using h2,fun k hk=>by simpa using h3 k hk,rfl⟩⟩;have e1:maxI (j:Int) 0=(j:Int):=by unfold maxI;omega
     have e2:decide ((0:Int)≤(j:Int))=true:=by simp
     simp only[oZ4,oZ3,e1,e2]
   · rw[h4];exact⟨(0,false),rfl,.inr ⟨fun k hk=>by simpa using h1 k hk,rfl⟩⟩
 have hB:∃r,(g1j (id,0,t) >>=fun o=>match o with | .inl o_1=>some (o_1.1,o_1.2) | .inr o_2=>some (0,false))=some r∧gep t.Symbols id r:=by
   rcases g with⟨j,h1,h2,h3,h4⟩ | ⟨h1,h4⟩
   · rw[h4];exact⟨((j:Int),true),rfl,.inl ⟨j,h1,by simpa using h2,fun k hk=>by simpa using h3 k hk,rfl⟩⟩
   · rw[h4];exact⟨(0,false),rfl,.inr ⟨fun k hk=>by simpa using h1 k hk,rfl⟩⟩
 obtain⟨r,a1,a2⟩:=hA;obtain⟨q,b1,b2⟩:=hB;have:=gq4 a2 b2;subst this;exact⟨r,a1,b1,a2⟩
end
section
open Go Go.Proofs.YtandcioiaooocaaGreat.Shv
set_option maxRecDepth 100000
def zig(n:Int) :Int:=if 0≤n then 2*n else -2*n - 1
theorem gwj{a b:Int}(h:zig a=zig b) :a=b:=by
 unfold zig at h;split at h <;> split at h <;> omega
def I64(n:Int) :Prop:= -9223372036854775808≤n∧n≤9223372036854775807
theorem gum{n:Int}(h:I64 n) :g4j n=some (zig n):=by
 obtain⟨h1,h2⟩:=h;rw[g4j];unfold zig;by_cases h0:0≤n
 · rw[if_pos (by simp[h0]),if_pos h0];obtain⟨k,rfl⟩:∃k:Nat,n=(k:Int):=⟨n.toNat,by omega⟩
   rw[wrpn (by omega)];have:=mulIn (a:=2) (b:=k) (by omega)
   congr 1
   try omega
 · rw[if_neg (by simp[h0]),if_neg h0];rw[gou (by omega) (by omega),gh9 (by omega) (by omega)];obtain⟨k,hk⟩:∃k:Nat,0 - (n+1)=(k:Int):=⟨(0 - (n+1)).toNat,by omega⟩
   rw[hk,wrpn (by omega)];have h3:=mulIn (a:=2) (b:=k) (by omega);have h3':mulI .u64 2 (k:Int)=((2*k:Nat):Int):=h3;rw[h3'];have h4:=addIn (a:=2*k) (b:=1) (by omega);have h4':addI .u64 ((2*k:Nat):Int) 1=((2*k+1:Nat):Int):=h4;rw[h4']
   congr 1
   omega
theorem gvl(a:Nat)(h:a < 18446744073709551616) :xorI .u64 (a:Int) 0=(a:Int):=by
 have e:(BitVec.ofInt 64 (a:Int) ^^^ BitVec.ofInt 64 (0:Int)).toNat=a:=by
   have:BitVec.ofInt 64 (0:Int)=BitVec.ofNat 64 0:=by decide
   rw[this,BitVec.ofInt_natCast,BitVec.toNat_xor,BitVec.toNat_ofNat,BitVec.toNat_ofNat,two64,Nat.mod_eq_of_lt h];simp
 show IntKind.u64.wrap (((BitVec.ofInt 64 (a:Int) ^^^ BitVec.ofInt 64 (0:Int)).toNat:Nat):Int)=_;rw[e];exact wrapu (by omega) (by omega)
theorem gvm(a:Nat)(h:a < 18446744073709551616) :xorI .u64 (a:Int) 18446744073709551615=((18446744073709551615 - a:Nat):Int):=by
 have e:(BitVec.ofInt 64 (a:Int) ^^^ BitVec.ofInt 64 (18446744073709551615:Int)).toNat=18446744073709551615 - a:=by
   have h1:BitVec.ofInt 64 (18446744073709551615:Int)=BitVec.allOnes 64:=by decide
   rw[h1,BitVec.ofInt_natCast,BitVec.xor_allOnes,BitVec.toNat_not,BitVec.toNat_ofNat,two64,Nat.mod_eq_of_lt h]
 all_goals (try omega)
 show IntKind.u64.wrap (((BitVec.ofInt 64 (a:Int) ^^^ BitVec.ofInt 64 (18446744073709551615:Int)).toNat:Nat):Int)=_;rw[e];exact wrapu (by omega) (by omega)
theorem shr63{n:Int}(h:I64 n) :shrI .i64 n 63=if 0≤n then 0 else -1:=by
 obtain⟨h1,h2⟩:=h;unfold shrI;have e:((2:Int) ^ min (63:Int).toNat IntKind.i64.bits)=9223372036854775808:=by decide
 rw[e,Int.fdiv_eq_ediv_of_nonneg _ (by omega)];split <;> omega
theorem gun{n:Int}(h:I64 n) :g5e n=some (zig n):=by
 rw[g5e,shr63 h];obtain⟨h1,h2⟩:=h;unfold zig;have hs:∀m:Int,shlI .u64 m 1=IntKind.u64.wrap (m*2):=by
   intro m;unfold shlI;have e:((2:Int) ^ min (1:Int).toNat IntKind.u64.bits)=2:=by decide
   rw[e]
 rw[hs]
 congr 1
 by_cases h0:0≤n
 · rw[if_pos h0,if_pos h0];obtain⟨k,rfl⟩:∃k:Nat,n=(k:Int):=⟨n.toNat,by omega⟩
   rw[wrpn (by omega),wrapu (by omega) (by omega)];have:wrp .u64 0=0:=by decide
   rw[this];have:=gvl (2*k) (by omega);have e:((k:Int)*2)=((2*k:Nat):Int):=by omega
   rw[e,this];omega
 · rw[if_neg h0,if_neg h0];have:wrp .u64 (-1)=18446744073709551615:=by decide
   rw[this];obtain⟨k,hk⟩:∃k:Nat,n+9223372036854775808=(k:Int):=⟨(n+9223372036854775808).toNat,by omega⟩
   have e:IntKind.u64.wrap (wrp .u64 n*2)=((2*k:Nat):Int):=by
     unfold wrp;rw[IntKind.wrap_u64,IntKind.wrap_u64];omega
   rw[e,gvm _ (by omega)];omega
theorem cmp1(a b:Int) :ga4 (a,b)=some (if a < b then -1 else if b < a then 1 else 0):=by
 rw[ga4];simp only[gcs,oZ4,oZ3,decide_true,Bool.not_true,Bool.false_eq_true,if_false];by_cases h1:a < b <;> by_cases h2:b < a <;> simp[h1,h2]
theorem cmp2(a b:Int) :g6u (a,b)=some (if a < b then -1 else if b < a then 1 else 0):=by
 rw[g6u];simp only[ga5,oZ4,oZ3,decide_true,Bool.not_true,Bool.false_eq_true,if_false];by_cases h1:a < b <;> by_cases h2:b < a <;> simp[h1,h2]
theorem cmp3(a b:List UInt8) :g8a (a,b)=some (if Op.bytesLess a b=true then -1 else if(Op.bytesLess a b || decide (a=b))=true then 0 else 1):=by
 rw[g8a];simp only[ga6,oZ4,oZ3,decide_true,Bool.not_true,Bool.false_eq_true,if_false];cases Op.bytesLess a b with
 | true=>rfl
 | false=>cases decide (a=b) <;> rfl
theorem or2(a b:Int) :glb [a,b]=some (if a≠0 then a else b):=by
 rw[glb];have h0:g50 (0,[a,b],((2:Nat):Int),((0:Nat):Int))=if a≠0 then some (.inl a)else(if b≠0 then some (.inl b)else some (.inr 0)):=by
   rw[g50,if_pos (by decide),if_pos (show inR ((0:Nat):Int) ([a,b]:List Int).length=true from g8 (k:=0) (n:=2) (by omega))];simp only[oZ4,oZ3,gf,List.getD_cons_zero];by_cases ha:a=0
   · rw[if_neg (by simp[ha]),if_neg (by simp[ha])];have e1:addI .i64 ((0:Nat):Int) 1=((1:Nat):Int):=gp (by omega);rw[e1,g50,if_pos (by decide),if_pos (show inR ((1:Nat):Int) ([a,b]:List Int).length=true from g8 (k:=1) (n:=2) (by omega))];simp only[oZ4,oZ3,gf,List.getD_cons_succ,List.getD_cons_zero];by_cases hb:b=0
     · rw[if_neg (by simp[hb]),if_neg (by simp[hb])];have e2:addI .i64 ((1:Nat):Int) 1=((2:Nat):Int):=gp (by omega);rw[e2,g50,if_neg (by decide)]
     · rw[if_pos (by simp[hb]),if_pos hb]
   · rw[if_pos (by simp[ha]),if_pos ha]
 have h1:g50 (0,[a,b],(([a,b]:List Int).length:Int),0)=g50 (0,[a,b],((2:Nat):Int),((0:Nat):Int)):=rfl;rw[h1,h0];by_cases ha:a=0
 · by_cases hb:b=0 <;> simp[ha,hb]
 · simp[ha]
theorem gfv :∀a:List UInt8,Op.bytesLess a a=false
 | []=>rfl
 | x::r=>by
   simp[Op.bytesLess,gfv r]
theorem ghz{a b:SValue}(ha:I64 a.Int_)(hb:I64 b.Int_) :∃r,g4o (a,b)=some r∧g4d (a,b)=some r:=by
 rw[g4o,g4d];by_cases hk:a.Kind=b.Kind
 · rw[if_neg (show ¬((!(decide (a.Kind=b.Kind)))=true) by simp[hk]),if_neg (show ¬((!(decide (a.Kind=b.Kind)))=true) by simp[hk])];by_cases k1:a.Kind=1
   · rw[if_pos (show decide (a.Kind=1)=true by simp[k1]),if_pos (show decide (a.Kind=1)=true by simp[k1])];simp only[g23];cases eqB a.Bool_ b.Bool_ <;> cases b.Bool_ <;> exact⟨_,rfl,rfl⟩
   · rw[if_neg (show ¬(decide (a.Kind=1)=true) by simp[k1]),if_neg (show ¬(decide (a.Kind=1)=true) by simp[k1])];by_cases k2:a.Kind=2
     · rw[if_pos (show decide (a.Kind=2)=true by simp[k2]),if_pos (show decide (a.Kind=2)=true by simp[k2]),gun ha,gun hb,gum ha,gum hb];simp only[oZ4,oZ3,cmp1,g23];by_cases he:a.Int_=b.Int_
       · rw[he];exact⟨0,by simp,by simp⟩
       · have hne:zig a.Int_≠zig b.Int_:=fun h=>he (gwj h)
         rcases Int.lt_or_gt_of_ne hne with h | h
         · exact⟨-1,by simp[h],by simp[h,he]⟩
         · have:¬zig a.Int_ < zig b.Int_:=by omega
           exact⟨1,by simp[h,this],by simp[h,he,this]⟩
     · rw[if_neg (show ¬(decide (a.Kind=2)=true) by simp[k2]),if_neg (show ¬(decide (a.Kind=2)=true) by simp[k2])];by_cases k3:a.Kind=3
       · rw[if_pos (show decide (a.Kind=3)=true by simp[k3]),if_pos (show decide (a.Kind=3)=true by simp[k3])];simp only[oZ4,oZ3,cmp2,cmp3,or2,g23];by_cases hl:a.Str.length=b.Str.length
         · have hq:¬((!(decide ((a.Str.length:Int)=(b.Str.length:Int))))=true):=by simp;omega
           rw[if_neg hq,hl];have e1:¬((b.Str.length:Int) < (b.Str.length:Int)):=by omega
           simp only[e1,if_false,ne_eq,not_true_eq_false];by_cases he:a.Str=b.Str
           · rw[he,gfv];exact⟨0,by simp,by simp⟩
           · cases hb:Op.bytesLess a.Str b.Str with
             | true=>exact⟨-1,by simp,by simp[he]⟩
             | false=>exact⟨1,by simp[he],by simp[he]⟩
         · have hq:(!(decide ((a.Str.length:Int)=(b.Str.length:Int))))=true:=by simp;omega
           rw[if_pos hq];by_cases h:a.Str.length < b.Str.length
           · have e1:(a.Str.length:Int) < (b.Str.length:Int):=by omega
             exact⟨-1,by simp[e1],by simp[e1]⟩
           · have e1:¬((a.Str.length:Int) < (b.Str.length:Int)):=by omega
             have e2:(b.Str.length:Int) < (a.Str.length:Int):=by omega
             exact⟨1,by simp[e1,e2],by simp[e1]⟩
       · rw[if_neg (show ¬(decide (a.Kind=3)=true) by simp[k3]),if_neg (show ¬(decide (a.Kind=3)=true) by simp[k3])];by_cases k4:a.Kind=4
         · rw[if_pos (show decide (a.Kind=4)=true by simp[k4]),if_pos (show decide (a.Kind=4)=true by simp[k4])];simp only[oZ4,oZ3,cmp2,g23];by_cases he:a.ID=b.ID
           · rw[he];exact⟨0,by simp,by simp⟩
           · rcases Int.lt_or_gt_of_ne he with h | h
             · exact⟨-1,by simp[h],by simp[h,he]⟩
             · have:¬a.ID < b.ID:=by omega
               exact⟨1,by simp[h,this],by simp[h,he,this]⟩
         · rw[if_neg (show ¬(decide (a.Kind=4)=true) by simp[k4]),if_neg (show ¬(decide (a.Kind=4)=true) by simp[k4])];exact⟨0,rfl,rfl⟩
 · rw[if_pos (show(!(decide (a.Kind=b.Kind)))=true by simp[hk]),if_pos (show(!(decide (a.Kind=b.Kind)))=true by simp[hk])];exact⟨0,rfl,rfl⟩
end
section
open Go Go.Proofs.YtandcioiaooocaaGreat.Shv
set_option maxRecDepth 100000
def Both(o1 o2:Option Bool) :Prop:=∃r,o1=some r∧o2=some r
theorem gi0 {γ δ : Type} (L : Nat → Option (Bool ⊕ γ)) (L' : Nat → Option (Bool ⊕ δ)) (n : Nat) (p : Nat → Bool) (g : γ) (g' : δ)
   (h:∀i,i < n→L i=if p i=true then L (i+1)else some (.inl false)) (he:L n=some (.inr g))
   (h':∀i,i < n→L' i=if p i=true then L' (i+1)else some (.inl false)) (he':L' n=some (.inr g')):
   (L 0=some (.inr g)∧L' 0=some (.inr g')∧∀j,j < n→p j=true)∨(L 0=some (.inl false)∧L' 0=some (.inl false)∧∃j,j < n∧p j=false):=by
 rcases scan L n p (.inl false) (.inr g) h he with⟨a1,a2⟩ | ⟨a1,j,a2,a3⟩ <;> rcases scan L' n p (.inl false) (.inr g') h' he' with⟨b1,b2⟩ | ⟨b1,k,b2,b3⟩
 · exact .inl ⟨a1,b1,a2⟩
 · have:=a2 k b2;rw[b3]at this;cases this
 · have:=b2 j a2;rw[a3]at this;cases this
 · exact .inr ⟨a1,b1,j,a2,a3⟩
def g9c(k:Int) :Prop:=1≤k∧k≤9
theorem gq5{v:SValue}(hk:g9c v.Kind) :∃p,g95 v=some p∧g3w v=some p∧(p=true→v.Kind≠5→v.Kind≠6→v.Rest=[]):=by
 obtain⟨K,B,I,S,ID,Ks,Is,R⟩:=v;simp only at hk;rw[g95,SValue.gu,g3w];have:K=1∨K=2∨K=3∨K=4∨K=5∨K=6∨K=7∨K=8∨K=9:=by unfold g9c at hk;omega
 have eI:∀(x:Int),decide (x=x)=true:=fun x=>by simp
 rcases this with rfl | rfl | rfl | rfl | rfl | rfl | rfl | rfl | rfl
 all_goals
   refine⟨_,rfl,?_,?_⟩
   · simp[gaz,eqB]
     try (cases B <;> simp)
   · simp[gaz,eqB]
section
variable {ts:List SType} (hn:ts.length < 9223372036854775807) (hT:∀t,t∈ts→OkT t) (hK:∀t,t∈ts→g9c t.Kind)
def Fit(ts:List SType)(x:SValue) :Prop:=∀t plain,Both (g2w ((⟨ts⟩:SSchema),t,x,plain)) (gz ((⟨ts⟩:SSchema),t,x,plain))
theorem gna {l : List SValue} (hl : l.length ≤ reachBytes) (ih : ∀ x, x ∈ l → Fit ts x) (t : Int) (plain : Bool) :
   Both (g4y ((⟨ts⟩:SSchema),t,l,plain)) (g2q ((⟨ts⟩:SSchema),t,l,plain)):=by
 have hr:=g12 hl
 let p:Nat→Bool:=fun i=>(g2w ((⟨ts⟩:SSchema),t,l.getD i dSValue,plain)).getD false
 have hp:∀i,i < l.length→g2w ((⟨ts⟩:SSchema),t,l.getD i dSValue,plain)=some (p i)∧gz ((⟨ts⟩:SSchema),t,l.getD i dSValue,plain)=some (p i):=by
   intro i hi;obtain⟨r,h1,h2⟩:=ih _ (g16 hi dSValue) t plain;simp only[p,h1,h2,Option.getD_some,and_self]
 have hf:=gae (fun i=>gr (l,(l.length:Int),(i:Int),ts,t,plain)) l.length (fun i=>!(p i)) (fun i=>.inl ((i:Int),ts,t,plain)) (.inr (ts,t,plain))
   (fun i hi=>by
     rw[gr,if_pos (by simp;omega),if_pos (g8 hi),gc3];simp only[SValue.gu,gf];rw[(hp i hi).1,gp (by omega)]
     rfl)
   (by rw[gr,if_neg (by simp)])
 have hs:=scan (fun i=>g17 (t,l,plain,(i:Int),ts)) l.length p (.inl false) (.inr ())
   (fun i hi=>by
     rw[g17,if_pos (by simp;omega),if_pos (g8 hi)];simp only[SValue.gu,gf];rw[(hp i hi).2,gp (by omega)]
     cases p i <;> rfl)
   (by rw[g17,if_neg (by simp)])
 have e1:gr (l,(l.length:Int),((0:Nat):Int),ts,t,plain)=gr (l,(l.length:Int),0,ts,t,plain):=rfl;have e2:g17 (t,l,plain,((0:Nat):Int),ts)=g17 (t,l,plain,0,ts):=rfl;simp only[e1]at hf;simp only[e2]at hs;rw[g4y,g22,g3f,g2q];rcases hf with⟨j,a1,a2,a3,a4⟩ | ⟨a1,a4⟩ <;> rcases hs with⟨b1,b2⟩ | ⟨b1,k,b2,b3⟩
 · have:=b2 j a1;simp[this]at a2
 · rw[a4,b1];refine⟨false,?_,rfl⟩;have e:decide ((0:Int)≤(j:Int))=true:=by simp
   simp only[oZ4,oZ3,e,Bool.not_true]
 · rw[a4,b1];exact⟨true,rfl,rfl⟩
 · have:=a1 k b2;simp[b3]at this
def restP(t:SType)(l:List SRaw)(i:Nat) :Bool:=
 !((g1o (t,(l.getD i dSRaw).ID)).getD (0,false)).2 && (decide (1≤(l.getD i dSRaw).ID) && decide ((l.getD i dSRaw).ID≤1000)) && (decide (i=0) || decide ((l.getD (i - 1) dSRaw).ID < (l.getD i dSRaw).ID))
theorem gvn {γ : Type} (kn f Z : Bool) (sI : Int) (I1 C : Int → Bool) (X Y : Option γ) (hI1 : Z = true → I1 sI = true) :
   ((if(!kn)=true then some f else some false) >>=fun r_17=>some (bif kn then true else(!r_17)) >>=fun t131=>some Z >>=fun t134=>some sI >>=fun t141=>
     if(I1 t141 || (!((!t131) && t134)))=true then if(bif t131 then true else bif t134 then C t141 else false)=true then X else Y else none)=if(!kn && f && (!Z || !(C sI)))=true then Y else X:=by
 simp only[oZ4,oZ3];generalize C sI=c;cases Z with
 | true=>rw[hI1 rfl];cases kn <;> cases f <;> cases c <;> rfl
 | false=>generalize I1 sI=d;cases kn <;> cases f <;> cases d <;> cases c <;> rfl
theorem gjd {γ : Type} (R3 I0 Z : Bool) (sI : Int) (I1 C : Int → Bool) (X Y : Option γ) (hI0 : I0 = true) (hI1 : Z = true → I1 sI = true) :
   (some R3 >>=fun r_3=>some (!r_3) >>=fun t31=>some Z >>=fun t34=>
     if(I0 || (!((!t31) && t34)))=true then some sI >>=fun t43=>if(I1 t43 || (!((!t31) && t34)))=true then if(bif t31 then true else bif t34 then C t43 else false)=true then X else Y else none else none)=if(R3 && (!Z || !(C sI)))=true then Y else X:=by
 subst hI0;simp only[oZ4,oZ3];generalize C sI=c;cases Z with
 | true=>rw[hI1 rfl];cases R3 <;> cases c <;> rfl
 | false=>generalize I1 sI=d;cases R3 <;> cases d <;> cases c <;> rfl
theorem g6j{i:Nat}(h:0 < i)(h2:i < 9223372036854775807) :subI .i64 (i:Int) 1=((i - 1:Nat):Int):=by
 rw[gh9 (by omega) (by omega)];omega
theorem rests {t : SType} (ht : t.Members.length < 9223372036854775807) (v : SValue) (hl : v.Rest.length ≤ reachBytes) (plain : Bool) (ts : List SType) :
   let inr:=(plain,ts,v.Kind,v.Bool_,v.Int_,v.Str,v.ID,v.Keys,v.Items,v.Rest,t.Kind,t.Name,t.Low,t.High,t.Max,t.Symbols,t.Members,t.Key,t.Elem,t.Open)
   ((g25 (plain,v.Rest,(v.Rest.length:Int),0,ts,v,t.Kind,t.Name,t.Low,t.High,t.Max,t.Symbols,t.Members,t.Key,t.Elem,t.Open)=some (.inr inr)∧g3d (t,v.Rest)=some true)∨
     (g25 (plain,v.Rest,(v.Rest.length:Int),0,ts,v,t.Kind,t.Name,t.Low,t.High,t.Max,t.Symbols,t.Members,t.Key,t.Elem,t.Open)=some (.inl false)∧g3d (t,v.Rest)=some false)):=by
 intro inr;have hr:=g12 hl;have hpe:∀i,i < v.Rest.length→∀r,g1o (t,(v.Rest.getD i dSRaw).ID)=some r→restP t v.Rest i=(!r.2 && (bif decide (1≤(v.Rest.getD i dSRaw).ID)then decide ((v.Rest.getD i dSRaw).ID≤1000)else false) && (!(decide ((0:Int) < (i:Int))) || !(decide ((v.Rest.getD i dSRaw).ID≤(v.Rest.getD (subI .i64 (i:Int) 1).toNat dSRaw).ID)))):=by
   intro i hi r hm;unfold restP;rw[hm,Option.getD_some];generalize (v.Rest.getD i dSRaw).ID=x;by_cases h0:i=0
   · subst h0;cases r.2 <;> by_cases h1:1≤x <;> by_cases h2:x≤1000 <;> simp[h1,h2]
   · have hz:decide ((0:Int) < (i:Int))=true:=by simp;omega
     rw[hz,g6j (by omega) (by omega),gf];generalize (v.Rest.getD (i - 1) dSRaw).ID=y;cases r.2 <;> by_cases h1:1≤x <;> by_cases h2:x≤1000 <;> by_cases h3:y < x <;> simp[h0,h1,h2,h3] <;> omega
 have h:=gi0 (fun i=>g25 (plain,v.Rest,(v.Rest.length:Int),(i:Int),ts,v,t.Kind,t.Name,t.Low,t.High,t.Max,t.Symbols,t.Members,t.Key,t.Elem,t.Open)) (fun i=>gy (v.Rest,(i:Int),t)) v.Rest.length (restP t v.Rest) inr ()
   (fun i hi=>by
     obtain⟨r,h1,_,_⟩:=g70 (t:=t) (v.Rest.getD i dSRaw).ID ht;rw[g25,if_pos (by simp;omega),if_pos (g8 hi),hpe i hi r h1];simp only[gf,gk1,SValue.gu,g97,oZ4,oZ3];rw[h1,gp (by omega)]
     exact gvn r.2 (bif decide (1≤(v.Rest.getD i dSRaw).ID)then decide ((v.Rest.getD i dSRaw).ID≤1000)else false) (decide ((0:Int) < (i:Int))) (subI .i64 (i:Int) 1) (fun j=>inR j v.Rest.length) (fun j=>decide ((v.Rest.getD i dSRaw).ID≤(v.Rest.getD j.toNat dSRaw).ID)) _ _ (fun hz=>by
       have:0 < i:=by simp at hz;omega
       show inR _ _=true
       rw[g6j this (by omega)];exact g8 (by omega)))
   (by rw[g25,if_neg (by simp)])
   (fun i hi=>by
     obtain⟨r,h1,h2,_⟩:=g70 (t:=t) (v.Rest.getD i dSRaw).ID ht;rw[gy,if_pos (by simp;omega),if_pos (g8 hi),hpe i hi r h1];simp only[gf];rw[h2,gp (by omega)];have hid:gx ((v.Rest.getD i dSRaw).ID,r.2)=some ((!r.2) && (bif decide (1≤(v.Rest.getD i dSRaw).ID)then decide ((v.Rest.getD i dSRaw).ID≤1000)else false)):=by
       rw[gx];cases r.2 <;> cases decide (1≤(v.Rest.getD i dSRaw).ID) <;> rfl
     show(if inR (i:Int) v.Rest.length=true then gx ((v.Rest.getD i dSRaw).ID,r.2) >>=_ else none)=_;rw[if_pos (g8 hi),hid]
     exact gjd ((!r.2) && (bif decide (1≤(v.Rest.getD i dSRaw).ID)then decide ((v.Rest.getD i dSRaw).ID≤1000)else false)) (inR (i:Int) v.Rest.length) (decide ((0:Int) < (i:Int))) (subI .i64 (i:Int) 1) (fun j=>inR j v.Rest.length) (fun j=>decide ((v.Rest.getD i dSRaw).ID≤(v.Rest.getD j.toNat dSRaw).ID)) _ _ (g8 hi) (fun hz=>by
       have:0 < i:=by simp at hz;omega
       show inR _ _=true
       rw[g6j this (by omega)];exact g8 (by omega)))
   (by rw[gy,if_neg (by simp)])
 have e1:g25 (plain,v.Rest,(v.Rest.length:Int),((0:Nat):Int),ts,v,t.Kind,t.Name,t.Low,t.High,t.Max,t.Symbols,t.Members,t.Key,t.Elem,t.Open)=g25 (plain,v.Rest,(v.Rest.length:Int),0,ts,v,t.Kind,t.Name,t.Low,t.High,t.Max,t.Symbols,t.Members,t.Key,t.Elem,t.Open):=rfl;have e2:gy (v.Rest,((0:Nat):Int),t)=gy (v.Rest,0,t):=rfl
 simp only[e1,e2]at h;rw[g3d];rcases h with⟨h1,h2,_⟩ | ⟨h1,h2,_⟩
 · exact .inl ⟨h1,by rw[h2];rfl⟩
 · exact .inr ⟨h1,by rw[h2];rfl⟩
end
end
section
open Go Go.Proofs.YtandcioiaooocaaGreat.Shv
set_option maxRecDepth 100000
theorem gsj {ts : List SType} {t : SType} {v : SValue} (hl : v.Items.length = t.Members.length) (hr : t.Members.length < 9223372036854775807) (ih : ∀ x, x ∈ v.Items → Fit ts x) (plain : Bool) :
   (g2l (plain,t.Members,(t.Members.length:Int),0,ts,v.Kind,v.Bool_,v.Int_,v.Str,v.ID,v.Keys,v.Items,v.Rest)=some (.inr ())∧gt (plain,0,ts,v,t.Kind,t.Name,t.Low,t.High,t.Max,t.Symbols,t.Members,t.Key,t.Elem,t.Open)=some (.inr ()))∨
   (g2l (plain,t.Members,(t.Members.length:Int),0,ts,v.Kind,v.Bool_,v.Int_,v.Str,v.ID,v.Keys,v.Items,v.Rest)=some (.inl false)∧gt (plain,0,ts,v,t.Kind,t.Name,t.Low,t.High,t.Max,t.Symbols,t.Members,t.Key,t.Elem,t.Open)=some (.inl false)):=by
 let p:Nat→Bool:=fun i=>(g2w ((⟨ts⟩:SSchema),(t.Members.getD i dSMember).Type_,v.Items.getD i dSValue,plain)).getD false
 have hp:∀i,i < t.Members.length→g2w ((⟨ts⟩:SSchema),(t.Members.getD i dSMember).Type_,v.Items.getD i dSValue,plain)=some (p i)∧gz ((⟨ts⟩:SSchema),(t.Members.getD i dSMember).Type_,v.Items.getD i dSValue,plain)=some (p i):=by
   intro i hi;obtain⟨r,h1,h2⟩:=ih _ (g16 (by omega:i < v.Items.length) dSValue) (t.Members.getD i dSMember).Type_ plain;simp only[p,h1,h2,Option.getD_some,and_self]
 have h:=gi0 (fun i=>g2l (plain,t.Members,(t.Members.length:Int),(i:Int),ts,v.Kind,v.Bool_,v.Int_,v.Str,v.ID,v.Keys,v.Items,v.Rest)) (fun i=>gt (plain,(i:Int),ts,v,t.Kind,t.Name,t.Low,t.High,t.Max,t.Symbols,t.Members,t.Key,t.Elem,t.Open)) t.Members.length p () ()
   (fun i hi=>by
     rw[g2l,if_pos (by simp;omega),if_pos (g8 hi),if_pos (g8 (by omega))];simp only[gf,SValue.gu];rw[(hp i hi).1,gp (by omega)]
     cases p i <;> rfl)
   (by rw[g2l,if_neg (by simp)])
   (fun i hi=>by
     rw[gt,if_pos (by simp;omega),if_pos (g8 hi),if_pos (g8 (by omega))];simp only[gf,SValue.gu];rw[(hp i hi).2,gp (by omega)]
     cases p i <;> rfl)
   (by rw[gt,if_neg (by simp;omega)])
 have e1:g2l (plain,t.Members,(t.Members.length:Int),((0:Nat):Int),ts,v.Kind,v.Bool_,v.Int_,v.Str,v.ID,v.Keys,v.Items,v.Rest)=g2l (plain,t.Members,(t.Members.length:Int),0,ts,v.Kind,v.Bool_,v.Int_,v.Str,v.ID,v.Keys,v.Items,v.Rest):=rfl
 have e2:gt (plain,((0:Nat):Int),ts,v,t.Kind,t.Name,t.Low,t.High,t.Max,t.Symbols,t.Members,t.Key,t.Elem,t.Open)=gt (plain,0,ts,v,t.Kind,t.Name,t.Low,t.High,t.Max,t.Symbols,t.Members,t.Key,t.Elem,t.Open):=rfl;simp only[e1,e2]at h;rcases h with⟨h1,h2,_⟩ | ⟨h1,h2,_⟩
 · exact .inl ⟨h1,h2⟩
 · exact .inr ⟨h1,h2⟩
theorem gi8{v:SValue}(h:OkV v) :I64 v.Int_:=by cases h with | mk _ _ _ _ _ _ _ _ n1 n2=>exact n2
theorem guo {ts : List SType} {t : SType} {v : SValue} (hr : v.Keys.length < 9223372036854775807) (hk : ∀ x, x ∈ v.Keys → OkV x) (plain : Bool) :
   let inr:=(plain,ts,v,t.Kind,t.Name,t.Low,t.High,t.Max,t.Symbols,t.Members,t.Key,t.Elem,t.Open)
   (g20 (plain,1,ts,v,t.Kind,t.Name,t.Low,t.High,t.Max,t.Symbols,t.Members,t.Key,t.Elem,t.Open)=some (.inr inr)∧gm (1,v)=some (.inr ()))∨
   (g20 (plain,1,ts,v,t.Kind,t.Name,t.Low,t.High,t.Max,t.Symbols,t.Members,t.Key,t.Elem,t.Open)=some (.inl false)∧gm (1,v)=some (.inl false)):=by
 intro inr;by_cases h0:v.Keys.length=0
 · left;refine⟨?_,?_⟩
   · rw[g20,if_neg (by simp[h0]),SValue.gu]
   · rw[gm,if_neg (by simp[h0])]
 let c:Nat→Int:=fun i=>(g4o (v.Keys.getD i dSValue,v.Keys.getD (i+1) dSValue)).getD 0
 have hc:∀i,i+1 < v.Keys.length→g4o (v.Keys.getD i dSValue,v.Keys.getD (i+1) dSValue)=some (c i)∧g4d (v.Keys.getD i dSValue,v.Keys.getD (i+1) dSValue)=some (c i):=by
   intro i hi;obtain⟨r,h1,h2⟩:=ghz (gi8 (hk _ (g16 (by omega:i < v.Keys.length) dSValue))) (gi8 (hk _ (g16 hi dSValue)));simp only[c,h1,h2,Option.getD_some,and_self]
 have h:=gi0 (fun i=>g20 (plain,((i+1:Nat):Int),ts,v,t.Kind,t.Name,t.Low,t.High,t.Max,t.Symbols,t.Members,t.Key,t.Elem,t.Open)) (fun i=>gm (((i+1:Nat):Int),v)) (v.Keys.length - 1) (fun i=>!(decide (0≤c i))) inr ()
   (fun i hi=>by
     have hs:=g6j (i:=i+1) (by omega) (by omega);have hs':subI .i64 ((i+1:Nat):Int) 1=(i:Int):=by rw[hs];simp
     rw[g20,if_pos (by simp;omega)];simp only[oZ4,oZ3];rw[hs',if_pos (g8 (by omega)),if_pos (g8 (by omega))];simp only[gf,SValue.gu];rw[(hc i (by omega)).1,gp (by omega)];simp only[oZ3]
     cases decide (0≤c i) <;> rfl)
   (by
     have e:v.Keys.length - 1+1=v.Keys.length:=by omega
     rw[e,g20,if_neg (by simp),SValue.gu])
   (fun i hi=>by
     have hs:=g6j (i:=i+1) (by omega) (by omega);have hs':subI .i64 ((i+1:Nat):Int) 1=(i:Int):=by rw[hs];simp
     rw[gm,if_pos (by simp;omega)];simp only[oZ4,oZ3];rw[hs',if_pos (g8 (by omega)),if_pos (g8 (by omega))];simp only[gf,SValue.gu];rw[(hc i (by omega)).2,gp (by omega)];simp only[oZ3]
     cases decide (0≤c i) <;> rfl)
   (by
     have e:v.Keys.length - 1+1=v.Keys.length:=by omega
     rw[e,gm,if_neg (by simp)])
 have e1:g20 (plain,((0+1:Nat):Int),ts,v,t.Kind,t.Name,t.Low,t.High,t.Max,t.Symbols,t.Members,t.Key,t.Elem,t.Open)=g20 (plain,1,ts,v,t.Kind,t.Name,t.Low,t.High,t.Max,t.Symbols,t.Members,t.Key,t.Elem,t.Open):=rfl;have e2:gm (((0+1:Nat):Int),v)=gm (1,v):=rfl;simp only[e1,e2]at h;rcases h with⟨h1,h2,_⟩ | ⟨h1,h2,_⟩
 · exact .inl ⟨h1,h2⟩
 · exact .inr ⟨h1,h2⟩
theorem glt{α β:Type}{a:List α}{b:List β}(h:decide ((a.length:Int)=(b.length:Int))=true) :a.length=b.length:=by
 have:=of_decide_eq_true h;omega
theorem k4e {o : Option (Int × Bool)} {r : Int × Bool} (ho : o = some r) (O plain f : Bool) :
   (o >>=fun r_1=>some (bif O then(!plain)else false) >>=fun t85=>(if((!r_1.2) && t85)=true then some f else some false) >>=fun r_4=>some (bif r_1.2 then true else bif t85 then r_4 else false))=some (r.2 || (O && !plain && f)):=by
 subst ho;obtain⟨k,kn⟩:=r;cases kn <;> cases O <;> cases plain <;> cases f <;> rfl
theorem k4r {o : Option (Int × Bool)} {r : Int × Bool} (ho : o = some r) (O plain f : Bool) (F : Bool → Option Bool) (hF : F false = some f) :
   (o >>=fun r_1=>some (bif O then(!plain)else false) >>=fun t85=>(if((!r_1.2) && t85)=true then F r_1.2 else some false) >>=fun r_4=>some (bif r_1.2 then true else bif t85 then r_4 else false))=some (r.2 || (O && !plain && f)):=by
 subst ho;obtain⟨k,kn⟩:=r;cases kn <;> cases O <;> cases plain <;> simp[hF]
theorem k7{o:Option Bool}{r:Bool}(ho:o=some r)(q:Bool) :(some q >>=fun t244=>(if t244=true then o else some false) >>=fun r_10=>some (bif t244 then r_10 else false))=some (q && r):=by
 subst ho;cases q <;> cases r <;> rfl
theorem k6k(c I1 I2 f:Bool){X:Option Bool}(hX:c=true→X=some f)(h1:c=true→I1=true∧I2=true) :(some c >>=fun t188=>if(I1 || (!t188))=true then if(I2 || (!t188))=true then(if t188=true then X else some false) >>=fun r_8=>some (bif t188 then r_8 else false)else none else none)=some (c && f):=by
 cases c with
 | true=>obtain⟨a,b⟩:=h1 rfl;subst a;subst b;rw[hX rfl];rfl
 | false=>cases I1 <;> cases I2 <;> rfl
theorem k5r (A b q m : Bool) {ro : Option Bool} (hr : ro = some q) {L : Option (Bool ⊕ Unit)} (hL : A = true → L = some (if m = true then .inr () else .inl false)) :
   (if(bif (bif false then true else(!true))then true else b)=true then some false else some (!A) >>=fun t107=>(if(!t107)=true then ro else some false) >>=fun r_5=>if(bif t107 then true else(!r_5))=true then some false else L >>=fun o=>match o with | .inl x=>some x | .inr _=>some true)=some (A && !b && q && m):=by
 subst hr;cases A with
 | false=>cases b <;> rfl
 | true=>
   rw[hL rfl];cases b <;> cases q <;> cases m <;> rfl
theorem k6u(g f c1 c2 I E:Bool)(h1:c2=true→I=true) :(some g >>=fun t209=>(if t209=true then some f else some false) >>=fun r_9=>some (bif bif bif t209 then r_9 else false then c1 else false then c2 else false) >>=fun t226=>if(I || (!t226))=true then some (bif t226 then E else false)else none)=some (g && f && c1 && c2 && E):=by
 cases c2 with
 | true=>have:=h1 rfl;subst this;cases g <;> cases f <;> cases c1 <;> cases E <;> rfl
 | false=>cases g <;> cases f <;> cases c1 <;> cases I <;> rfl
theorem k8r (c : Bool) {ok oi : Option Bool} {k i : Bool} (hk : ok = some k) (hi : oi = some i) {L : Option (Bool ⊕ Unit)} {q : Bool} (hL : L = some (if q = true then .inr () else .inl false)) :
   (some c >>=fun t239=>(if(!t239)=true then ok else some false) >>=fun r_12=>some (bif t239 then true else(!r_12)) >>=fun t249=>(if(!t249)=true then oi else some false) >>=fun r_13=>if(bif t249 then true else(!r_13))=true then some false else L >>=fun o_3=>match o_3 with | .inl o_4=>some o_4 | .inr _=>some true)=some (!c && k && q && i):=by
 subst hk;subst hi;subst hL;cases c <;> cases k <;> cases q <;> cases i <;> rfl
theorem gup{ts:List SType}(hn:ts.length < 9223372036854775807)(hT:∀t,t∈ts→OkT t)(hK:∀t,t∈ts→g9c t.Kind){v:SValue}(hv:OkV v) :Fit ts v:=by
 induction hv with
 | mk v hs h1 h2 h3 hk hi hrd n1 n2 n3 n4 ihk ihi=>
   intro t plain;rw[g2w,gz];by_cases hout:(bif decide (t < 0)then true else decide (((⟨ts⟩:SSchema).Types.length:Int)≤t))=true
   · rw[if_pos hout,if_pos hout];exact⟨false,rfl,rfl⟩
   · rw[if_neg hout,if_neg hout];have hin:0≤t∧t < ts.length:=by
       simp only[Bool.cond_eq_ite]at hout;by_cases h0:t < 0
       · simp[h0]at hout
       · simp[h0]at hout;omega
     obtain⟨j,rfl⟩:∃j:Nat,t=(j:Int):=⟨t.toNat,by omega⟩
     have hj:j < ts.length:=by omega
     rw[if_pos (g8 hj),if_pos (g8 hj)];simp only[gf,SValue.gu];have hxT:=hT _ (g16 hj dSType);have hxK:=hK _ (g16 hj dSType);generalize ts.getD j dSType=x at hxT hxK ⊢;have hm:=g12 (g4h hxT.mems);have hsy:=g12 (g4h hxT.syms);by_cases hkd:v.Kind=x.Kind
     · obtain⟨p,p1,p2,p3⟩:=gq5 (v:=v) (by rw[hkd];exact hxK);rw[p1,p2];cases p with
       | false=>exact⟨false,by simp[hkd],by simp[hkd]⟩
       | true=>
         have hitems:=gna (ts:=ts) h2 ihi;have hkeys:=gna (ts:=ts) h1 ihk;obtain⟨K,N,L,H,M,S,Ms,Ke,E,O⟩:=x;obtain⟨vK,B,I,Sx,ID,Ks,Is,R⟩:=v;simp only at hkd;subst hkd;have p3':=p3 rfl;simp only at p3' hxK hm hsy h1 h2 h3;have hc:vK=1∨vK=2∨vK=3∨vK=4∨vK=5∨vK=6∨vK=7∨vK=8∨vK=9:=by unfold g9c at hxK;omega
         rcases hc with rfl | rfl | rfl | rfl | rfl | rfl | rfl | rfl | rfl
         · obtain rfl:R=[]:=p3' (by decide) (by decide);cases plain <;> exact⟨true,rfl,rfl⟩
         · obtain rfl:R=[]:=p3' (by decide) (by decide);cases plain <;> exact⟨_,rfl,rfl⟩
         · obtain rfl:R=[]:=p3' (by decide) (by decide);cases plain <;> exact⟨_,rfl,rfl⟩
         · obtain rfl:R=[]:=p3' (by decide) (by decide);obtain⟨r,r1,r2,_⟩:=gjc (t:=⟨4,N,L,H,M,S,Ms,Ke,E,O⟩) ID hsy;have hf:gx (ID,false)=some (bif decide (1≤ID)then decide (ID≤1000)else false):=by
             rw[gx];cases decide (1≤ID) <;> rfl
           cases plain
           · exact⟨_,k4e r1 O false _,k4r r2 O false _ (fun b=>gx (ID,b)) hf⟩
           · exact⟨_,k4e r1 O true _,k4r r2 O true _ (fun b=>gx (ID,b)) hf⟩
         ·
           have hrs:=rests (t:=⟨5,N,L,H,M,S,Ms,Ke,E,O⟩) hm ⟨5,B,I,Sx,ID,Ks,Is,R⟩ h3 plain ts;have hps:decide ((Is.length:Int)=(Ms.length:Int))=true→_:=fun hA=>gsj (ts:=ts) (t:=⟨5,N,L,H,M,S,Ms,Ke,E,O⟩) (v:=⟨5,B,I,Sx,ID,Ks,Is,R⟩) (glt hA) hm ihi plain
           have hq:∃q:Bool,g25 (plain,R,(R.length:Int),0,ts,⟨5,B,I,Sx,ID,Ks,Is,R⟩,5,N,L,H,M,S,Ms,Ke,E,O)=some (if q=true then .inr (plain,ts,5,B,I,Sx,ID,Ks,Is,R,5,N,L,H,M,S,Ms,Ke,E,O)else .inl false)∧g3d (⟨5,N,L,H,M,S,Ms,Ke,E,O⟩,R)=some q:=by
             rcases hrs with⟨a,b⟩ | ⟨a,b⟩
             · exact⟨true,a,b⟩
             · exact⟨false,a,b⟩
           obtain⟨q,q1,q2⟩:=hq;have hmm:∃m:Bool,decide ((Is.length:Int)=(Ms.length:Int))=true→(g2l (plain,Ms,(Ms.length:Int),0,ts,5,B,I,Sx,ID,Ks,Is,R)=some (if m=true then .inr ()else .inl false)∧gt (plain,0,ts,⟨5,B,I,Sx,ID,Ks,Is,R⟩,5,N,L,H,M,S,Ms,Ke,E,O)=some (if m=true then .inr ()else .inl false)):=by
             cases hA:decide ((Is.length:Int)=(Ms.length:Int))with
             | false=>exact⟨true,fun h=>by cases h⟩
             | true=>
               rcases hps hA with⟨a,b⟩ | ⟨a,b⟩
               · exact⟨true,fun _=>⟨a,b⟩⟩
               · exact⟨false,fun _=>⟨a,b⟩⟩
           obtain⟨m,hm'⟩:=hmm;refine⟨(decide ((Is.length:Int)=(Ms.length:Int))) && !(bif plain then decide (0 < (R.length:Int))else false) && q && m,?_,?_⟩
           · show(if(bif (!(decide ((Is.length:Int)=(Ms.length:Int))))then true else bif plain then decide (0 < (R.length:Int))else false)=true then some false else g25 (plain,R,(R.length:Int),0,ts,⟨5,B,I,Sx,ID,Ks,Is,R⟩,5,N,L,H,M,S,Ms,Ke,E,O) >>=_)=_;rw[q1];cases hA:decide ((Is.length:Int)=(Ms.length:Int))with
             | false=>rfl
             | true=>
               cases (bif plain then decide (0 < (R.length:Int))else false)with
               | true=>rfl
               | false=>
                 cases q with
                 | false=>rfl
                 | true=>
                   show(g2l (plain,Ms,(Ms.length:Int),0,ts,5,B,I,Sx,ID,Ks,Is,R) >>=_)=_;rw[(hm' hA).1];cases m <;> rfl
           · exact k5r (decide ((Is.length:Int)=(Ms.length:Int))) (bif plain then decide (0 < (R.length:Int))else false) q m q2 (fun hA=>(hm' hA).2)
         ·
           obtain⟨r,r1,r2,hf⟩:=g70 (t:=⟨6,N,L,H,M,S,Ms,Ke,E,O⟩) ID hm;have hid:∀b,b=false→gx (ID,b)=some (bif decide (1≤ID)then decide (ID≤1000)else false):=by
             intro b hb;subst hb;rw[gx];cases decide (1≤ID) <;> rfl
           have hX:∃f:Bool,(bif decide ((Is.length:Int)=1)then decide ((R.length:Int)=0)else false)=true→(g2w ((⟨ts⟩:SSchema),(Ms.getD r.1.toNat dSMember).Type_,Is.getD (0:Int).toNat dSValue,plain)=some f∧gz ((⟨ts⟩:SSchema),(Ms.getD r.1.toNat dSMember).Type_,Is.getD (0:Int).toNat dSValue,plain)=some f):=by
             by_cases h1':Is.length=1
             · obtain⟨f,f1,f2⟩:=ihi (Is.getD 0 dSValue) (g16 (by omega:0 < Is.length) dSValue) (Ms.getD r.1.toNat dSMember).Type_ plain;exact⟨f,fun _=>⟨f1,f2⟩⟩
             · refine⟨false,fun h=>?_⟩
               exfalso
               have:decide ((Is.length:Int)=1)=false:=by simp;omega
               rw[this]at h;cases h
           obtain⟨f,hfX⟩:=hX;have hidx:r.2=true→(bif decide ((Is.length:Int)=1)then decide ((R.length:Int)=0)else false)=true→inR r.1 Ms.length=true∧inR 0 Is.length=true:=by
             intro h6 hc';constructor
             · rcases hf with⟨k,k1,_,_,rfl⟩ | ⟨_,rfl⟩
               · exact g8 k1
               · cases h6
             · by_cases h1':Is.length=1
               · exact g8 (k:=0) (by omega)
               · have:decide ((Is.length:Int)=1)=false:=by simp;omega
                 rw[this]at hc';cases hc'
           have hR0:decide ((R.length:Int)=1)=true→inR 0 R.length=true:=by
             intro h;have:=of_decide_eq_true h;exact g8 (k:=0) (by omega)
           obtain⟨ri,rk⟩:=r;refine⟨if rk=true then(bif decide ((Is.length:Int)=1)then decide ((R.length:Int)=0)else false) && f else(bif O then(!plain)else false) && (bif decide (1≤ID)then decide (ID≤1000)else false) && decide ((Is.length:Int)=0) && decide ((R.length:Int)=1) && decide ((R.getD (0:Int).toNat dSRaw).ID=ID),?_,?_⟩
           · show(g1o (⟨6,N,L,H,M,S,Ms,Ke,E,O⟩,ID) >>=_)=_;rw[r1];cases rk with
             | true=>exact k6k _ (inR ri Ms.length) (inR 0 Is.length) f (fun h=>(hfX h).1) (hidx rfl)
             | false=>exact k6u (bif O then(!plain)else false) (bif decide (1≤ID)then decide (ID≤1000)else false) (decide ((Is.length:Int)=0)) (decide ((R.length:Int)=1)) (inR 0 R.length) (decide ((R.getD (0:Int).toNat dSRaw).ID=ID)) hR0
           · show(if(bif (bif false then true else(!true))then true else(bif plain then decide (0 < (R.length:Int))else false))=true then some false else g2r (⟨6,N,L,H,M,S,Ms,Ke,E,O⟩,ID) >>=_)=_;rw[r2];cases hb0:(bif plain then decide (0 < (R.length:Int))else false)with
             | true=>
               have hpl:plain=true:=by
                 cases plain with
                 | true=>rfl
                 | false=>cases hb0
               subst hpl;have hRl:decide ((R.length:Int)=0)=false:=by
                 have:=of_decide_eq_true (show decide (0 < (R.length:Int))=true from hb0);simp;intro e;rw[e]at this;simp at this
               rw[hRl];cases rk with
               | true=>cases decide ((Is.length:Int)=1) <;> rfl
               | false=>cases O <;> rfl
             | false=>
               cases rk with
               | true=>exact k6k _ (inR ri Ms.length) (inR 0 Is.length) f (fun h=>(hfX h).2) (hidx rfl)
               | false=>exact k6u (bif O then(!plain)else false) (bif decide (1≤ID)then decide (ID≤1000)else false) (decide ((Is.length:Int)=0)) (decide ((R.length:Int)=1)) (inR 0 R.length) (decide ((R.getD (0:Int).toNat dSRaw).ID=ID)) hR0
         · obtain rfl:R=[]:=p3' (by decide) (by decide);obtain⟨r,r1,r2⟩:=hitems E plain;cases plain
           · exact⟨_,k7 r1 _,k7 r2 _⟩
           · exact⟨_,k7 r1 _,k7 r2 _⟩
         · obtain rfl:R=[]:=p3' (by decide) (by decide);obtain⟨k,k1,k2⟩:=hkeys Ke plain;obtain⟨i,i1,i2⟩:=hitems E plain;have hks:=guo (ts:=ts) (t:=⟨8,N,L,H,M,S,Ms,Ke,E,O⟩) (v:=⟨8,B,I,Sx,ID,Ks,Is,[]⟩) (g12 h1) hk plain
           obtain⟨q,qa,qb⟩:∃q:Bool,g20 (plain,1,ts,⟨8,B,I,Sx,ID,Ks,Is,[]⟩,8,N,L,H,M,S,Ms,Ke,E,O)=some (if q=true then .inr (plain,ts,⟨8,B,I,Sx,ID,Ks,Is,[]⟩,8,N,L,H,M,S,Ms,Ke,E,O)else .inl false)∧gm (1,⟨8,B,I,Sx,ID,Ks,Is,[]⟩)=some (if q=true then .inr ()else .inl false):=by
             rcases hks with⟨a,b⟩ | ⟨a,b⟩
             · exact⟨true,a,b⟩
             · exact⟨false,a,b⟩
           refine⟨!(bif decide (M < (Ks.length:Int))then true else(!(decide ((Is.length:Int)=(Ks.length:Int))))) && k && q && i,?_,?_⟩
           · show(some (bif decide (M < (Ks.length:Int))then true else(!(decide ((Is.length:Int)=(Ks.length:Int))))) >>=fun t270=>(if(!t270)=true then g4y ((⟨ts⟩:SSchema),Ke,Ks,plain)else some false) >>=fun r_11=>if(bif t270 then true else(!r_11))=true then some false else g20 (plain,1,ts,⟨8,B,I,Sx,ID,Ks,Is,[]⟩,8,N,L,H,M,S,Ms,Ke,E,O) >>=_)=_
             rw[k1,qa];cases (bif decide (M < (Ks.length:Int))then true else(!(decide ((Is.length:Int)=(Ks.length:Int)))))with
             | true=>rfl
             | false=>
               cases k with
               | false=>rfl
               | true=>
                 cases q with
                 | false=>rfl
                 | true=>
                   show(g4y ((⟨ts⟩:SSchema),E,Is,plain) >>=fun r_12=>some r_12)=_;rw[i1];cases i <;> rfl
           · cases plain
             · exact k8r (bif decide (M < (Ks.length:Int))then true else(!(decide ((Is.length:Int)=(Ks.length:Int))))) k2 i2 qb
             · exact k8r (bif decide (M < (Ks.length:Int))then true else(!(decide ((Is.length:Int)=(Ks.length:Int))))) k2 i2 qb
         · obtain rfl:R=[]:=p3' (by decide) (by decide);obtain⟨r,r1,r2⟩:=hitems E plain;cases plain
           · exact⟨_,k7 r1 _,k7 r2 _⟩
           · exact⟨_,k7 r1 _,k7 r2 _⟩
     · exact⟨false,by simp[hkd],by simp[hkd]⟩
end
section
open Go Go.Proofs.YtandcioiaooocaaGreat.Shv
set_option maxRecDepth 100000
theorem g9y{U:Uni}{t:Ty}{l:List (t.den U.D)}(h:WF U ⟨.slice t,l⟩) :l.length≤reachBytes∧l.length*t.bytes U≤reachBytes∧∀x,x∈l→∀c,c∈t.row U x→WF U c:=by
 cases h with | slice t l h1 h2 h3=>exact⟨h1,h2,h3⟩
theorem guq{U:Uni}{s:List UInt8}(h:WF U ⟨.str,s⟩) :s.length≤reachBytes:=by
 cases h with | str s h=>exact h
theorem glu{U:Uni}{n:Int}(h:WF U ⟨.int .i64,n⟩) :I64 n:=by
 cases h with
 | int k n h=>
   simp[Lit.wf,IntKind.min,IntKind.max,IntKind.bits,IntKind.signed]at h;exact⟨by omega,by omega⟩
theorem gp7{l:List SValue}{x:SValue}(h:x∈l) :SizeOf.sizeOf x < SizeOf.sizeOf l:=List.sizeOf_lt_of_mem h
theorem gz1 :∀(n:Nat) (v:SValue),SizeOf.sizeOf v < n→(∀c,c∈Un.flds ixSValue v→WF Un c)→OkV v:=by
 intro n
 induction n with
 | zero=>intro v h;omega
 | succ n ih=>
   intro v hv hc;have c1:=hc ⟨.int .i64,v.Kind⟩ (.head _);have c3:=hc ⟨.int .i64,v.Int_⟩ (.tail _ (.tail _ (.head _)));have c4:=hc ⟨.str,v.Str⟩ (.tail _ (.tail _ (.tail _ (.head _))));have c5:=hc ⟨.int .i64,v.ID⟩ (.tail _ (.tail _ (.tail _ (.tail _ (.head _)))));have c6:=hc ⟨.slice (.nm ixSValue),v.Keys⟩ (.tail _ (.tail _ (.tail _ (.tail _ (.tail _ (.head _))))))
   have c7:=hc ⟨.slice (.nm ixSValue),v.Items⟩ (.tail _ (.tail _ (.tail _ (.tail _ (.tail _ (.tail _ (.head _)))))));have c8:=hc ⟨.slice (.nm ixSRaw),v.Rest⟩ (.tail _ (.tail _ (.tail _ (.tail _ (.tail _ (.tail _ (.tail _ (.head _))))))));obtain⟨k1,_,k3⟩:=g9y (t:= .nm ixSValue) c6;obtain⟨i1,_,i3⟩:=g9y (t:= .nm ixSValue) c7;obtain⟨r1,_,r3⟩:=g9y (t:= .nm ixSRaw) c8
   have hsz:SizeOf.sizeOf v.Keys < SizeOf.sizeOf v∧SizeOf.sizeOf v.Items < SizeOf.sizeOf v:=by
     cases v;simp;omega
   refine .mk v (guq c4) k1 i1 r1 (fun x hx=>ih x (by have:=gp7 hx;omega) (k3 x hx)) (fun x hx=>ih x (by have:=gp7 hx;omega) (i3 x hx)) (fun x hx=>?_) (glu c1) (glu c3) (glu c5) (fun x hx=>?_)
   · exact guq (r3 x hx ⟨.str,x.Data⟩ (.tail _ (.head _)))
   · exact glu (r3 x hx ⟨.int .i64,x.ID⟩ (.head _))
theorem gqx{v:SValue}(h:∀c,c∈Un.flds ixSValue v→WF Un c) :OkV v:=gz1 _ v (Nat.lt_succ_self _) h
theorem gwk{t:SType}(h:∀c,c∈Un.flds ixSType t→WF Un c) :OkT t:=by
 have c6:=h ⟨.slice (.nm ixSSymbol),t.Symbols⟩ (.tail _ (.tail _ (.tail _ (.tail _ (.tail _ (.head _))))));have c7:=h ⟨.slice (.nm ixSMember),t.Members⟩ (.tail _ (.tail _ (.tail _ (.tail _ (.tail _ (.tail _ (.head _)))))));obtain⟨s1,s2,s3⟩:=g9y (t:= .nm ixSSymbol) c6;obtain⟨m1,m2,m3⟩:=g9y (t:= .nm ixSMember) c7;have s2':t.Symbols.length*24≤reachBytes:=s2
 have m2':t.Members.length*147≤reachBytes:=m2;refine⟨s2',by omega,fun m hm=>gqx fun c hc=>m3 m hm c ?_⟩;exact .tail _ (.tail _ (.tail _ (.tail _ (.tail _ hc))))
theorem okTs{l:List SType}(h:WF Un ⟨.slice (.nm ixSType),l⟩) :l.length≤reachBytes∧∀t,t∈l→OkT t:=by
 obtain⟨h1,_,h3⟩:=g9y (t:= .nm ixSType) h;exact⟨h1,fun t ht=>gwk (h3 t ht)⟩
end
section
open Go Go.Proofs.YtandcioiaooocaaGreat.Shv
set_option maxRecDepth 100000
theorem g6p(s:SSchema) :(⟨s.Types⟩:SSchema)=s:=by cases s;rfl
end
section
open Go Go.Proofs.YtandcioiaooocaaGreat.Shv
set_option maxRecDepth 100000
set_option linter.all false
end
section
open Go Go.Proofs.YtandcioiaooocaaGreat.Shv Go.Sort
set_option maxRecDepth 100000
section
variable {α:Type}
end
mutual
def wt :SValue→Nat
 | ⟨_,_,_,s,_,ks,is,r⟩=>10+s.length+(r.map fun x=>x.Data.length+1).sum+wts ks+wts is
def wts :List SValue→Nat
 | []=>0
 | v::l=>wt v+wts l
end
structure Fd where
 id:Nat
 c:Bool
 p:List UInt8
instance:Inhabited Fd:=⟨⟨0,false,[]⟩⟩
def Fd.text(f:Fd) :List UInt8:=gyt f.id f.c f.p
def findM(l:List SMember)(id:Int) :Option SMember:=l.find? fun m=>decide (m.ID=id)
def I1000(n:Int) :Prop:=1≤n∧n≤1000
def gi1(ms:List SMember)(r:List SRaw) :Prop:=r.Pairwise (fun a b=>a.ID < b.ID)∧∀x,x∈r→I1000 x.ID∧findM ms x.ID=none
def vcmp(a b:SValue) :Int:=(g4o (a,b)).getD 0
def gbf(ks:List SValue) :Prop:=∀i,i+1 < ks.length→vcmp (ks.getD i dSValue) (ks.getD (i+1) dSValue) < 0
mutual
def vfit(ts:List SType)(pl:Bool)(t:Int) :SValue→Prop
 | ⟨k,b,i,s,id,ks,is,r⟩=>
   let x:=ts.getD t.toNat dSType
   (0≤t∧t < ts.length∧k=x.Kind∧(pl=true→r=[]))∧
   (k=1∧i=0∧s=[]∧id=0∧ks=[]∧is=[]∧r=[]∨
   k=2∧b=false∧s=[]∧id=0∧ks=[]∧is=[]∧r=[]∧x.Low≤i∧i≤x.High∨
   k=3∧b=false∧i=0∧id=0∧ks=[]∧is=[]∧r=[]∧(s.length:Int)≤x.Max∨
   k=4∧b=false∧i=0∧s=[]∧ks=[]∧is=[]∧r=[]∧((∃y,y∈x.Symbols∧y.ID=id)∨x.Open=true∧pl=false∧I1000 id)∨
   k=5∧b=false∧i=0∧s=[]∧id=0∧ks=[]∧gi1 x.Members r∧vfitm ts pl x.Members is∨
   k=6∧b=false∧i=0∧s=[]∧ks=[]∧(match findM x.Members id with
     | some m=>r=[]∧is.length=1∧vfits ts pl m.Type_ is
     | none=>x.Open=true∧pl=false∧I1000 id∧is=[]∧∃d,r=[⟨id,d⟩])∨
   k=7∧b=false∧i=0∧s=[]∧id=0∧ks=[]∧r=[]∧(is.length:Int)≤x.Max∧vfits ts pl x.Elem is∨
   k=8∧b=false∧i=0∧s=[]∧id=0∧r=[]∧(ks.length:Int)≤x.Max∧is.length=ks.length∧vfits ts pl x.Key ks∧vfits ts pl x.Elem is∧gbf ks∨
   k=9∧b=false∧i=0∧s=[]∧id=0∧ks=[]∧r=[]∧is.length≤1∧vfits ts pl x.Elem is)
def vfits(ts:List SType)(pl:Bool)(t:Int) :List SValue→Prop
 | []=>True
 | v::l=>vfit ts pl t v∧vfits ts pl t l
def vfitm(ts:List SType)(pl:Bool) :List SMember→List SValue→Prop
 | m::ms,v::l=>vfit ts pl m.Type_ v∧vfitm ts pl ms l
 | [],[]=>True
 | _,_=>False
end
theorem wt_eq(v:SValue) :wt v=10+v.Str.length+(v.Rest.map fun x=>x.Data.length+1).sum+wts v.Keys+wts v.Items:=by
 cases v;rw[wt]
theorem gp8(v:SValue)(l:List SValue) :wts (v::l)=wt v+wts l:=by rw[wts]
theorem gqy :wts []=0:=by rw[wts]
section
variable {ts:List SType}
def MOk(ts:List SType) :Prop:=∀x,x∈ts→∀m,m∈x.Members→m.ID≤1000
end
section
variable (ts:List SType)
end
section
variable {ts:List SType}
def MAsc(ms:List SMember) :Prop:=ms.Pairwise (fun a b=>a.ID < b.ID)∧∀m,m∈ms→I1000 m.ID
end
section
variable {ts:List SType} {pl:Bool}
theorem gi2 :∀{l:List SValue} {t:Int},vfits ts pl t l↔∀x,x∈l→vfit ts pl t x
 | [],t=>by rw[vfits];simp
 | v::l,t=>by
   rw[vfits,gi2];constructor
   · rintro ⟨h1,h2⟩ x hx
     rcases List.mem_cons.1 hx with rfl | hx
     · exact h1
     · exact h2 x hx
   · intro h;exact⟨h v (.head _),fun x hx=>h x (.tail _ hx)⟩
theorem gi3 :∀{ms:List SMember} {l:List SValue},vfitm ts pl ms l↔l.length=ms.length∧∀i,i < ms.length→vfit ts pl (ms.getD i dSMember).Type_ (l.getD i dSValue)
 | [],[]=>by
   have:vfitm ts pl [] []=True:=by rw[vfitm]
   rw[this];simp
 | [],v::l=>by
   have:vfitm ts pl [] (v::l)=False:=by rw[vfitm] <;> (intros;simp_all)
   rw[this];simp
 | m::ms,[]=>by
   have:vfitm ts pl (m::ms) []=False:=by rw[vfitm] <;> (intros;simp_all)
   rw[this];simp
 | m::ms,v::l=>by
   rw[vfitm,gi3];constructor
   · rintro ⟨h1,h2,h3⟩
     refine⟨by simp[h2],fun i hi=>?_⟩;cases i with
     | zero=>exact h1
     | succ i=>exact h3 i (by simpa using hi)
   · rintro ⟨h1,h2⟩
     exact⟨h2 0 (by simp),by simpa using h1,fun i hi=>h2 (i+1) (by simpa using hi)⟩
end
end
section
open Go Go.Proofs.YtandcioiaooocaaGreat.Shv Go.Sort
set_option maxRecDepth 100000
def SaysP(o:Option Bool)(P:Prop) :Prop:=∃r,o=some r∧(r=true↔P)
theorem SaysP.imp{o:Option Bool}{P Q:Prop}(h:SaysP o P)(e:P↔Q) :SaysP o Q:=by
 obtain⟨r,h1,h2⟩:=h;exact⟨r,h1,h2.trans e⟩
theorem SaysP.of{b:Bool}{P:Prop}(e:b=true↔P) :SaysP (some b) P:=⟨b,rfl,e⟩
theorem SaysP.loop {L : Nat → Option (Bool ⊕ Unit)} {n : Nat} {p : Nat → Bool} {g : Unit} {o : Option (Bool ⊕ Unit)} (h0 : o = L 0) (hstep : ∀ i, i < n → L i = if p i = true then L (i + 1) else some (.inl false)) (hend : L n = some (.inr g)) :
   SaysP (o >>=fun o=>match o with | .inl x=>some x | .inr _=>some true) (∀i,i < n→p i=true):=by
 subst h0;rcases scan L n p (.inl false) (.inr g) hstep hend with⟨h1,h2⟩ | ⟨h1,j,h2,h3⟩
 · rw[h1];exact⟨true,rfl,by simpa using h2⟩
 · rw[h1];refine⟨false,rfl,?_⟩;constructor
   · intro h;cases h
   · intro h;have:=h j h2;rw[h3]at this;cases this
theorem gi9{α:Type}(f:α→Int)(d:α) :∀l:List α,l.Pairwise (fun a b=>f a < f b)↔∀i,i+1 < l.length→f (l.getD i d) < f (l.getD (i+1) d)
 | []=>by simp
 | [a]=>by simp
 | a::b::l=>by
   rw[List.pairwise_cons,gi9 f d (b::l)];constructor
   · rintro ⟨h1,h2⟩ i hi
     cases i with
     | zero=>exact h1 b (.head _)
     | succ i=>exact h2 i (by simpa using hi)
   · intro h;have h2:∀i,i+1 < (b::l).length→f ((b::l).getD i d) < f ((b::l).getD (i+1) d):=fun i hi=>h (i+1) (by simpa using hi)
     refine⟨fun x hx=>?_,h2⟩;have h0:=h 0 (by simp);simp only[List.getD_cons_zero,List.getD_cons_succ]at h0;have h3:=(gi9 f d (b::l)).2 h2;rw[List.pairwise_cons]at h3;rcases List.mem_cons.1 hx with rfl | hx
     · exact h0
     · have:=h3.1 x hx;omega
section
variable {ts:List SType}
def FitS(ts:List SType)(x:SValue) :Prop:=∀t pl,SaysP (gz ((⟨ts⟩:SSchema),t,x,pl)) (vfit ts pl t x)
theorem gp9{l:List SValue}(hl:l.length≤reachBytes)(ih:∀x,x∈l→FitS ts x)(t:Int)(pl:Bool) :SaysP (g2q ((⟨ts⟩:SSchema),t,l,pl)) (vfits ts pl t l):=by
 have hr:=g12 hl
 let p:Nat→Bool:=fun i=>(gz ((⟨ts⟩:SSchema),t,l.getD i dSValue,pl)).getD false
 have hp:∀i,i < l.length→gz ((⟨ts⟩:SSchema),t,l.getD i dSValue,pl)=some (p i)∧(p i=true↔vfit ts pl t (l.getD i dSValue)):=by
   intro i hi;obtain⟨r,h1,h2⟩:=ih _ (g16 hi dSValue) t pl;refine⟨by simp only[p,h1,Option.getD_some],?_⟩;simp only[p,h1,Option.getD_some];exact h2
 rw[g2q];refine(SaysP.loop (L:=fun i=>g17 (t,l,pl,(i:Int),ts)) (n:=l.length) (p:=p) (g:=()) rfl (fun i hi=>?_) ?_).imp ?_
 · show g17 (t,l,pl,(i:Int),ts)=if p i=true then g17 (t,l,pl,((i+1:Nat):Int),ts)else _
   rw[g17,if_pos (by simp;omega),if_pos (g8 hi)];simp only[SValue.gu,gf];rw[(hp i hi).1,gp (by omega)];cases p i <;> rfl
 · show g17 (t,l,pl,(l.length:Int),ts)=_;rw[g17,if_neg (by simp)]
 · rw[gi2];constructor
   · intro h x hx;obtain⟨i,hi,rfl⟩:=List.getElem_of_mem hx;have:=(hp i hi).2.1 (h i hi);rw[g13 hi]at this;exact this
   · intro h i hi;exact(hp i hi).2.2 (h _ (g16 hi dSValue))
theorem gje{l:List SMember}{id:Int}{r:Int × Bool}(h:geo l id r) :(r.2=true∧∃j:Nat,j < l.length∧r.1=(j:Int)∧findM l id=some (l.getD j dSMember)∧(l.getD j dSMember).ID=id)∨(r.2=false∧findM l id=none):=by
 rcases h with⟨j,h1,h2,h3,rfl⟩ | ⟨h1,rfl⟩
 · refine .inl ⟨rfl,j,h1,rfl,?_,h2⟩;unfold findM;rw[List.find?_eq_some_iff_getElem];refine⟨by rw[decide_eq_true_eq];exact h2,j,h1,(g13 h1 _).symm,fun k hk=>?_⟩;have:=h3 k hk;rw[g13 (by omega)]at this
   simpa using this
 · refine .inr ⟨rfl,?_⟩;unfold findM;rw[List.find?_eq_none];intro m hm;obtain⟨i,hi,rfl⟩:=List.getElem_of_mem hm;have:=h1 i hi;rw[g13 hi]at this
   simpa using this
theorem gur{t:SType}(ht:t.Members.length < 9223372036854775807){l:List SRaw}(hl:l.length≤reachBytes) :SaysP (g3d (t,l)) (gi1 t.Members l):=by
 have hr:=g12 hl;rw[g3d]
 let p:Nat→Bool:=fun i=>!((g1o (t,(l.getD i dSRaw).ID)).getD (0,false)).2 && (bif decide (1≤(l.getD i dSRaw).ID)then decide ((l.getD i dSRaw).ID≤1000)else false) && (!(decide ((0:Int) < (i:Int))) || !(decide ((l.getD i dSRaw).ID≤(l.getD (subI .i64 (i:Int) 1).toNat dSRaw).ID)))
 refine(SaysP.loop (L:=fun i=>gy (l,(i:Int),t)) (n:=l.length) (p:=p) (g:=()) rfl (fun i hi=>?_) ?_).imp ?_
 · show gy (l,(i:Int),t)=if p i=true then gy (l,((i+1:Nat):Int),t)else _
   obtain⟨r,h1,h2,_⟩:=g70 (t:=t) (l.getD i dSRaw).ID ht;have hpi:p i=(!r.2 && (bif decide (1≤(l.getD i dSRaw).ID)then decide ((l.getD i dSRaw).ID≤1000)else false) && (!(decide ((0:Int) < (i:Int))) || !(decide ((l.getD i dSRaw).ID≤(l.getD (subI .i64 (i:Int) 1).toNat dSRaw).ID)))):=by simp only[p,h1,Option.getD_some]
   rw[hpi,gy,if_pos (by simp;omega),if_pos (g8 hi)];simp only[gf];rw[h2,gp (by omega)];have hid:gx ((l.getD i dSRaw).ID,r.2)=some ((!r.2) && (bif decide (1≤(l.getD i dSRaw).ID)then decide ((l.getD i dSRaw).ID≤1000)else false)):=by
     rw[gx];cases r.2 <;> cases decide (1≤(l.getD i dSRaw).ID) <;> rfl
   show(if inR (i:Int) l.length=true then gx ((l.getD i dSRaw).ID,r.2) >>=_ else none)=_;rw[if_pos (g8 hi),hid]
   exact gjd ((!r.2) && (bif decide (1≤(l.getD i dSRaw).ID)then decide ((l.getD i dSRaw).ID≤1000)else false)) (inR (i:Int) l.length) (decide ((0:Int) < (i:Int))) (subI .i64 (i:Int) 1) (fun j=>inR j l.length) (fun j=>decide ((l.getD i dSRaw).ID≤(l.getD j.toNat dSRaw).ID)) _ _ (g8 hi) (fun hz=>by
     have:0 < i:=by simp at hz;omega
     show inR _ _=true
     rw[g6j this (by omega)];exact g8 (by omega))
 · show gy (l,(l.length:Int),t)=_;rw[gy,if_neg (by simp)]
 · unfold gi1;rw[gi9 (fun a:SRaw=>a.ID) dSRaw];have key:∀i,i < l.length→(p i=true↔(I1000 (l.getD i dSRaw).ID∧findM t.Members (l.getD i dSRaw).ID=none)∧(i=0∨(l.getD (i - 1) dSRaw).ID < (l.getD i dSRaw).ID)):=by
     intro i hi;obtain⟨r,h1,h2,hf⟩:=g70 (t:=t) (l.getD i dSRaw).ID ht;have hpi:p i=(!r.2 && (bif decide (1≤(l.getD i dSRaw).ID)then decide ((l.getD i dSRaw).ID≤1000)else false) && (!(decide ((0:Int) < (i:Int))) || !(decide ((l.getD i dSRaw).ID≤(l.getD (subI .i64 (i:Int) 1).toNat dSRaw).ID)))):=by simp only[p,h1,Option.getD_some]
     rw[hpi];have hn:r.2=false↔findM t.Members (l.getD i dSRaw).ID=none:=by
       rcases gje hf with⟨a,j,_,_,b,_⟩ | ⟨a,b⟩
       · rw[a,b];simp
       · rw[a,b];simp
     rw[←hn];unfold I1000;by_cases h0:i=0
     · subst h0;cases r.2 <;> by_cases g1:1≤(l.getD 0 dSRaw).ID <;> by_cases g2:(l.getD 0 dSRaw).ID≤1000 <;> simp[g1,g2]
     · have hz:decide ((0:Int) < (i:Int))=true:=by simp;omega
       rw[hz,g6j (by omega) (by omega),gf];generalize (l.getD (i - 1) dSRaw).ID=y;generalize (l.getD i dSRaw).ID=x;cases r.2 <;> by_cases g1:1≤x <;> by_cases g2:x≤1000 <;> by_cases g3:y < x <;> simp[h0,g1,g2,g3] <;> omega
   constructor
   · intro h;refine⟨fun i hi=>?_,fun x hx=>?_⟩
     · have:=((key (i+1) hi).1 (h _ hi)).2;rcases this with h | h
       · omega
       · exact h
     · obtain⟨i,hi,rfl⟩:=List.getElem_of_mem hx;have:=((key i hi).1 (h _ hi)).1;rw[g13 hi]at this;exact this
   · rintro ⟨h1,h2⟩ i hi
     refine(key i hi).2 ⟨h2 _ (g16 hi dSRaw),?_⟩;by_cases h0:i=0
     · exact .inl h0
     · right;have:=h1 (i - 1) (by omega);have e:i - 1+1=i:=by omega
       rw[e]at this;exact this
theorem gsk {t : SType} {v : SValue} (hl : v.Items.length = t.Members.length) (hr : t.Members.length < 9223372036854775807) (ih : ∀ x, x ∈ v.Items → FitS ts x) (pl : Bool) :
   SaysP (gt (pl,0,ts,v,t.Kind,t.Name,t.Low,t.High,t.Max,t.Symbols,t.Members,t.Key,t.Elem,t.Open) >>=fun o=>match o with | .inl o_1=>some o_1 | .inr _=>some true) (vfitm ts pl t.Members v.Items):=by
 let p:Nat→Bool:=fun i=>(gz ((⟨ts⟩:SSchema),(t.Members.getD i dSMember).Type_,v.Items.getD i dSValue,pl)).getD false
 have hp:∀i,i < t.Members.length→gz ((⟨ts⟩:SSchema),(t.Members.getD i dSMember).Type_,v.Items.getD i dSValue,pl)=some (p i)∧(p i=true↔vfit ts pl (t.Members.getD i dSMember).Type_ (v.Items.getD i dSValue)):=by
   intro i hi;obtain⟨r,h1,h2⟩:=ih _ (g16 (by omega:i < v.Items.length) dSValue) (t.Members.getD i dSMember).Type_ pl;refine⟨by simp only[p,h1,Option.getD_some],?_⟩;simp only[p,h1,Option.getD_some];exact h2
 refine(SaysP.loop (L:=fun i=>gt (pl,(i:Int),ts,v,t.Kind,t.Name,t.Low,t.High,t.Max,t.Symbols,t.Members,t.Key,t.Elem,t.Open)) (n:=t.Members.length) (p:=p) (g:=()) rfl (fun i hi=>?_) ?_).imp ?_
 · show gt (pl,(i:Int),ts,v,t.Kind,t.Name,t.Low,t.High,t.Max,t.Symbols,t.Members,t.Key,t.Elem,t.Open)=if p i=true then gt (pl,((i+1:Nat):Int),ts,v,t.Kind,t.Name,t.Low,t.High,t.Max,t.Symbols,t.Members,t.Key,t.Elem,t.Open)else _
   rw[gt,if_pos (by simp;omega),if_pos (g8 hi),if_pos (g8 (by omega))];simp only[gf,SValue.gu];rw[(hp i hi).1,gp (by omega)];cases p i <;> rfl
 · show gt (pl,(t.Members.length:Int),ts,v,t.Kind,t.Name,t.Low,t.High,t.Max,t.Symbols,t.Members,t.Key,t.Elem,t.Open)=_;rw[gt,if_neg (by simp;omega)]
 · rw[gi3];constructor
   · intro h;exact⟨hl,fun i hi=>(hp i hi).2.1 (h i hi)⟩
   · rintro ⟨_,h⟩ i hi;exact(hp i hi).2.2 (h i hi)
theorem gus {v : SValue} (hr : v.Keys.length < 9223372036854775807) (hk : ∀ x, x ∈ v.Keys → OkV x) :
   SaysP (gm (1,v) >>=fun o_3=>match o_3 with | .inl o_4=>some o_4 | .inr _=>some true) (gbf v.Keys):=by
 by_cases h0:v.Keys.length=0
 · rw[gm,if_neg (by simp[h0])];refine⟨true,rfl,?_⟩;unfold gbf;simp only[true_iff];intro i hi;omega
 refine(SaysP.loop (L:=fun i=>gm (((i+1:Nat):Int),v)) (n:=v.Keys.length - 1) (p:=fun i=>!(decide (0≤vcmp (v.Keys.getD i dSValue) (v.Keys.getD (i+1) dSValue)))) (g:=()) rfl (fun i hi=>?_) ?_).imp ?_
 · show gm (((i+1:Nat):Int),v)=if _ then gm (((i+1+1:Nat):Int),v)else _
   have hs':subI .i64 ((i+1:Nat):Int) 1=(i:Int):=by rw[g6j (by omega) (by omega)];simp
   obtain⟨r,c1,c2⟩:=ghz (gi8 (hk _ (g16 (by omega:i < v.Keys.length) dSValue))) (gi8 (hk _ (g16 (by omega:i+1 < v.Keys.length) dSValue)));have hv:vcmp (v.Keys.getD i dSValue) (v.Keys.getD (i+1) dSValue)=r:=by unfold vcmp;rw[c1];rfl
   rw[hv,gm,if_pos (by simp;omega)];simp only[oZ4,oZ3];rw[hs',if_pos (g8 (by omega)),if_pos (g8 (by omega))];simp only[gf,SValue.gu];rw[c2,gp (by omega)];simp only[oZ3];cases decide (0≤r) <;> rfl
 · have e:v.Keys.length - 1+1=v.Keys.length:=by omega
   show gm (((v.Keys.length - 1+1:Nat):Int),v)=_;rw[e,gm,if_neg (by simp)]
 · unfold gbf;constructor
   · intro h i hi;have:=h i (by omega)
     simpa using this
   · intro h i hi;have:=h i (by omega)
     simpa using this
theorem gqz (pl : Bool) (t : Int) (v : SValue) : vfit ts pl t v ↔
   (0≤t∧t < ts.length∧v.Kind=(ts.getD t.toNat dSType).Kind∧(pl=true→v.Rest=[]))∧
   (v.Kind=1∧v.Int_=0∧v.Str=[]∧v.ID=0∧v.Keys=[]∧v.Items=[]∧v.Rest=[]∨
   v.Kind=2∧v.Bool_=false∧v.Str=[]∧v.ID=0∧v.Keys=[]∧v.Items=[]∧v.Rest=[]∧(ts.getD t.toNat dSType).Low≤v.Int_∧v.Int_≤(ts.getD t.toNat dSType).High∨
   v.Kind=3∧v.Bool_=false∧v.Int_=0∧v.ID=0∧v.Keys=[]∧v.Items=[]∧v.Rest=[]∧(v.Str.length:Int)≤(ts.getD t.toNat dSType).Max∨
   v.Kind=4∧v.Bool_=false∧v.Int_=0∧v.Str=[]∧v.Keys=[]∧v.Items=[]∧v.Rest=[]∧((∃y,y∈(ts.getD t.toNat dSType).Symbols∧y.ID=v.ID)∨(ts.getD t.toNat dSType).Open=true∧pl=false∧I1000 v.ID)∨
   v.Kind=5∧v.Bool_=false∧v.Int_=0∧v.Str=[]∧v.ID=0∧v.Keys=[]∧gi1 (ts.getD t.toNat dSType).Members v.Rest∧vfitm ts pl (ts.getD t.toNat dSType).Members v.Items∨
   v.Kind=6∧v.Bool_=false∧v.Int_=0∧v.Str=[]∧v.Keys=[]∧(match findM (ts.getD t.toNat dSType).Members v.ID with
     | some m=>v.Rest=[]∧v.Items.length=1∧vfits ts pl m.Type_ v.Items
     | none=>(ts.getD t.toNat dSType).Open=true∧pl=false∧I1000 v.ID∧v.Items=[]∧∃d,v.Rest=[⟨v.ID,d⟩])∨
   v.Kind=7∧v.Bool_=false∧v.Int_=0∧v.Str=[]∧v.ID=0∧v.Keys=[]∧v.Rest=[]∧(v.Items.length:Int)≤(ts.getD t.toNat dSType).Max∧vfits ts pl (ts.getD t.toNat dSType).Elem v.Items∨
   v.Kind=8∧v.Bool_=false∧v.Int_=0∧v.Str=[]∧v.ID=0∧v.Rest=[]∧(v.Keys.length:Int)≤(ts.getD t.toNat dSType).Max∧v.Items.length=v.Keys.length∧vfits ts pl (ts.getD t.toNat dSType).Key v.Keys∧vfits ts pl (ts.getD t.toNat dSType).Elem v.Items∧gbf v.Keys∨
   v.Kind=9∧v.Bool_=false∧v.Int_=0∧v.Str=[]∧v.ID=0∧v.Keys=[]∧v.Rest=[]∧v.Items.length≤1∧vfits ts pl (ts.getD t.toNat dSType).Elem v.Items):=by
 cases v;rw[vfit];try exact Iff.rfl
end
end
section
open Go Go.Proofs.YtandcioiaooocaaGreat.Shv Go.Sort
set_option maxRecDepth 100000
def ZeroV(v:SValue) :Prop:=(v.Kind=1∨v.Bool_=false)∧(v.Kind=2∨v.Int_=0)∧(v.Kind=3∨v.Str=[])∧((v.Kind=4∨v.Kind=6)∨v.ID=0)∧(v.Kind=8∨v.Keys=[])∧(5≤v.Kind∨v.Items=[])∧((v.Kind=5∨v.Kind=6)∨v.Rest=[])
theorem gut(v:SValue) :SaysP (g3w v) (ZeroV v):=by
 rw[g3w];refine .of ?_;unfold ZeroV;have e:∀{α:Type} (l:List α),((l.length:Int)=0)↔l=[]:=fun l=>by
   cases l with
   | nil=>simp
   | cons a l=>simp;omega
 simp only[Bool.cond_eq_ite,Bool.ite_eq_true_distrib,e];have h1:∀{a b:Bool},(if a=true then true else b)=true↔(a=true∨b=true):=fun {a b}=>by cases a <;> simp
 have h2:∀{a b:Bool},(if a=true then b else false)=true↔(a=true∧b=true):=fun {a b}=>by cases a <;> simp
 simp[and_assoc];constructor
 · rintro h
   simp_all
   grind
 · grind
theorem cutS{z b:Bool}{o:Option Bool}{P Z Q:Prop}(hz:z=true↔Z)(hb:b=false↔Q)(ho:SaysP o P) :SaysP (if(bif (bif false then true else(!z))then true else b)=true then some false else o) (Z∧Q∧P):=by
 obtain⟨r,rfl,h⟩:=ho;cases z with
 | false=>
   refine⟨false,rfl,?_⟩;simp at hz;simp[hz]
 | true=>
   cases b with
   | true=>refine⟨false,rfl,?_⟩;simp at hb;simp[hb]
   | false=>refine⟨r,rfl,?_⟩;simp at hz hb;simp[hz,hb,h]
theorem and2S{q:Bool}{o:Option Bool}{P Q:Prop}(hq:q=true↔Q)(ho:SaysP o P) :SaysP (some q >>=fun t244=>(if t244=true then o else some false) >>=fun r_10=>some (bif t244 then r_10 else false)) (Q∧P):=by
 obtain⟨r,rfl,h⟩:=ho;refine⟨q && r,by cases q <;> cases r <;> rfl,?_⟩;rw[Bool.and_eq_true,hq,h]
theorem and5S {A : Bool} {ro L : Option Bool} {PA PR PM : Prop} (hA : A = true ↔ PA) (hr : SaysP ro PR) (hM : A = true → SaysP L PM) :
   SaysP (some (!A) >>=fun t107=>(if(!t107)=true then ro else some false) >>=fun r_5=>if(bif t107 then true else(!r_5))=true then some false else L) (PA∧PR∧PM):=by
 obtain⟨q,rfl,hq⟩:=hr;cases A with
 | false=>refine⟨false,rfl,?_⟩;simp at hA;simp[hA]
 | true=>
   obtain⟨m,rfl,hm⟩:=hM rfl;cases q with
   | false=>refine⟨false,rfl,?_⟩;simp at hq;simp[hq]
   | true=>refine⟨m,rfl,?_⟩;simp at hA hq;simp[hA,hq,hm]
theorem and8S {c : Bool} {ok oi L : Option Bool} {PC PK PI PQ : Prop} (hc : c = false ↔ PC) (hk : SaysP ok PK) (hi : SaysP oi PI) (hL : SaysP L PQ) :
   SaysP (some c >>=fun t239=>(if(!t239)=true then ok else some false) >>=fun r_12=>some (bif t239 then true else(!r_12)) >>=fun t249=>(if(!t249)=true then oi else some false) >>=fun r_13=>if(bif t249 then true else(!r_13))=true then some false else L) (PC∧PK∧PI∧PQ):=by
 obtain⟨k,rfl,hk⟩:=hk;obtain⟨i,rfl,hi⟩:=hi;obtain⟨q,rfl,hq⟩:=hL;rw[←hc,←hk,←hi,←hq];cases c <;> cases k <;> cases i <;> exact⟨_,rfl,by simp⟩
theorem gsl{l:List SSymbol}{id:Int}{r:Int × Bool}(h:gep l id r) :r.2=true↔∃y,y∈l∧y.ID=id:=by
 rcases h with⟨j,h1,h2,h3,rfl⟩ | ⟨h1,rfl⟩
 · simp only[true_iff];exact⟨_,g16 h1 dSSymbol,h2⟩
 · constructor
   · intro h;cases h
   · rintro ⟨y,hy,he⟩
     obtain⟨i,hi,rfl⟩:=List.getElem_of_mem hy;have:=h1 i hi;rw[g13 hi]at this;exact absurd he this
section
variable {ts:List SType} (hn:ts.length < 9223372036854775807) (hT:∀t,t∈ts→OkT t) (hK:∀t,t∈ts→g9c t.Kind)
include hn hT hK in
theorem gvo{v:SValue}(hv:OkV v) :FitS ts v:=by
 induction hv with
 | mk v hs h1 h2 h3 hk hi hrd n1 n2 n3 n4 ihk ihi=>
   intro t pl;rw[gz];by_cases hout:(bif decide (t < 0)then true else decide (((⟨ts⟩:SSchema).Types.length:Int)≤t))=true
   · rw[if_pos hout];refine⟨false,rfl,?_⟩;rw[gqz];have:¬(0≤t∧t < ts.length):=by
       intro hh;simp only[Bool.cond_eq_ite]at hout;by_cases h0:t < 0
       · omega
       · simp[h0]at hout;omega
     constructor
     · intro h;cases h
     · rintro ⟨⟨a,b,_⟩,_⟩;exact absurd ⟨a,b⟩ this
   · rw[if_neg hout];have hin:0≤t∧t < ts.length:=by
       simp only[Bool.cond_eq_ite]at hout;by_cases h0:t < 0
       · simp[h0]at hout
       · simp[h0]at hout;omega
     obtain⟨j,rfl⟩:∃j:Nat,t=(j:Int):=⟨t.toNat,by omega⟩
     have hj:j < ts.length:=by omega
     rw[if_pos (g8 hj)];simp only[gqz,gf,SValue.gu];have hxT:=hT _ (g16 hj dSType);have hxK:=hK _ (g16 hj dSType);generalize ts.getD j dSType=x at hxT hxK ⊢;have hm:=g12 (g4h hxT.mems);have hsy:=g12 (g4h hxT.syms);by_cases hkd:v.Kind=x.Kind
     · obtain⟨z,z1,z2⟩:=gut v;have hitems:=gp9 (ts:=ts) h2 ihi;have hkeys:=gp9 (ts:=ts) h1 ihk;show SaysP ((if(!(!(decide (v.Kind=x.Kind))))=true then g3w v else some false) >>=_) _;rw[if_pos (by simp[hkd]),z1];obtain⟨K,N,L,H,M,S,Ms,Ke,E,O⟩:=x;obtain⟨vK,B,I,Sx,ID,Ks,Is,R⟩:=v;simp only at hkd;subst hkd;simp only at hxK hm hsy h1 h2 h3 z1
       have hb:(bif pl then decide (0 < (R.length:Int))else false)=false↔(pl=true→R=[]):=by
         cases pl
         · simp
         · cases R <;> simp
       have hc:vK=1∨vK=2∨vK=3∨vK=4∨vK=5∨vK=6∨vK=7∨vK=8∨vK=9:=by unfold g9c at hxK;omega
       have cut : ∀ {o : Option Bool} {P W : Prop}, SaysP o P → ((ZeroV ⟨vK, B, I, Sx, ID, Ks, Is, R⟩ ∧ (pl = true → R = []) ∧ P) ↔ W) →
           SaysP (some z >>=fun r=>if(bif (bif false then true else(!r))then true else bif pl then decide (0 < (R.length:Int))else false)=true then some false else o) W:=fun ho hw=>(cutS z2 hb ho).imp hw
       have hz:(0:Int)≤j∧(j:Int) < ts.length:=hin;rcases hc with rfl | rfl | rfl | rfl | rfl | rfl | rfl | rfl | rfl
       · exact cut (P:=True) (.of (b:=true) (by simp)) (by unfold ZeroV;simp[hz];grind)
       · exact cut (P:=L≤I∧I≤H) (.of (b:=bif decide (L≤I)then decide (I≤H)else false) (by by_cases g:L≤I <;> simp[g])) (by unfold ZeroV;simp[hz];grind)
       · exact cut (P:=(Sx.length:Int)≤M) (.of (b:=decide ((Sx.length:Int)≤M)) (by simp)) (by unfold ZeroV;simp[hz];grind)
       · obtain⟨r,_,r2,hf⟩:=gjc (t:=⟨4,N,L,H,M,S,Ms,Ke,E,O⟩) ID hsy;have hid:gx (ID,false)=some (bif decide (1≤ID)then decide (ID≤1000)else false):=by
           rw[gx];cases decide (1≤ID) <;> rfl
         have h4:=k4r r2 O pl _ (fun b=>gx (ID,b)) hid;have hs:=gsl hf;simp only at hs;refine cut (P:=(∃y,y∈S∧y.ID=ID)∨O=true∧pl=false∧I1000 ID) ⟨_,h4,?_⟩ (by unfold ZeroV;simp[hz];grind);rw[←hs];unfold I1000;cases r.2 <;> cases O <;> cases pl <;> by_cases g1:1≤ID <;> by_cases g2:ID≤1000 <;> simp[g1,g2]
       · refine cut (P:=Is.length=Ms.length∧gi1 Ms R∧vfitm ts pl Ms Is) ?_ (by
           have:vfitm ts pl Ms Is→Is.length=Ms.length:=fun h=>(gi3.1 h).1
           unfold ZeroV;simp[hz];grind)
         exact and5S (A:=decide ((Is.length:Int)=(Ms.length:Int))) (by simp;omega) (gur (t:=⟨5,N,L,H,M,S,Ms,Ke,E,O⟩) hm h3) (fun hA=>gsk (ts:=ts) (t:=⟨5,N,L,H,M,S,Ms,Ke,E,O⟩) (v:=⟨5,B,I,Sx,ID,Ks,Is,R⟩) (glt hA) hm ihi pl)
       · obtain⟨r,_,r2,hf⟩:=g70 (t:=⟨6,N,L,H,M,S,Ms,Ke,E,O⟩) ID hm;have hid:∀b,b=false→gx (ID,b)=some (bif decide (1≤ID)then decide (ID≤1000)else false):=by
           intro b hb;subst hb;rw[gx];cases decide (1≤ID) <;> rfl
         have hR0:decide ((R.length:Int)=1)=true→inR 0 R.length=true:=by
           intro h;have:=of_decide_eq_true h;exact g8 (k:=0) (by omega)
         refine cut (P:=match findM Ms ID with
           | some m=>R=[]∧Is.length=1∧vfits ts pl m.Type_ Is
           | none=>O=true∧pl=false∧I1000 ID∧Is=[]∧∃d,R=[⟨ID,d⟩]) ?_ (by
             unfold ZeroV;simp[hz]
             cases findM Ms ID <;> grind)
         obtain⟨ri,rk⟩:=r;show SaysP (g2r (⟨6,N,L,H,M,S,Ms,Ke,E,O⟩,ID) >>=_) _;rw[r2];rcases gje hf with⟨e,k,k1,k2,k3,k4⟩ | ⟨e,k3⟩
         · simp only at e k1 k2 k3 k4;subst e;subst k2;rw[k3];have hX:∃f:Bool,((bif decide ((Is.length:Int)=1)then decide ((R.length:Int)=0)else false)=true→gz ((⟨ts⟩:SSchema),(Ms.getD (k:Int).toNat dSMember).Type_,Is.getD (0:Int).toNat dSValue,pl)=some f)∧(Is.length=1→(f=true↔vfits ts pl (Ms.getD k dSMember).Type_ Is)):=by
             by_cases h1':Is.length=1
             · obtain⟨f,f1,f2⟩:=ihi (Is.getD 0 dSValue) (g16 (by omega:0 < Is.length) dSValue) (Ms.getD k dSMember).Type_ pl;refine⟨f,fun _=>f1,fun _=>?_⟩;rw[f2]
               match Is,h1' with
               | [y],_=>rw[gi2];simp
             · refine⟨false,fun h=>?_,fun h=>absurd h h1'⟩
               exfalso
               have:decide ((Is.length:Int)=1)=false:=by simp;omega
               rw[this]at h;cases h
           obtain⟨f,f1,f2⟩:=hX;have hidx:(bif decide ((Is.length:Int)=1)then decide ((R.length:Int)=0)else false)=true→inR (k:Int) Ms.length=true∧inR 0 Is.length=true:=by
             intro hc';refine⟨g8 k1,?_⟩;by_cases h1':Is.length=1
             · exact g8 (k:=0) (by omega)
             · have:decide ((Is.length:Int)=1)=false:=by simp;omega
               rw[this]at hc';cases hc'
           refine⟨_,k6k _ (inR (k:Int) Ms.length) (inR 0 Is.length) f f1 hidx,?_⟩;by_cases g1:Is.length=1
           · have g2:=f2 g1;simp only[g1,Bool.and_eq_true,g2];cases R <;> simp <;> omega
           · have:decide ((Is.length:Int)=1)=false:=by simp;omega
             simp[this,g1]
         · simp only at e k3;subst e;rw[k3];refine⟨_,k6u (bif O then(!pl)else false) (bif decide (1≤ID)then decide (ID≤1000)else false) (decide ((Is.length:Int)=0)) (decide ((R.length:Int)=1)) (inR 0 R.length) (decide ((R.getD (0:Int).toNat dSRaw).ID=ID)) hR0,?_⟩;unfold I1000
           match R with
           | []=>simp
           | [⟨rid,rd⟩]=>
             cases O <;> cases pl <;> by_cases g1:1≤ID <;> by_cases g2:ID≤1000 <;> cases Is <;> by_cases g3:rid=ID <;> simp[g1,g2,g3] <;> omega
           | a::b::c=>simp;omega
       · exact cut (P:=(Is.length:Int)≤M∧vfits ts pl E Is) (and2S (by simp) (hitems E pl)) (by unfold ZeroV;simp[hz];grind)
       · refine cut (P:=((Ks.length:Int)≤M∧Is.length=Ks.length)∧vfits ts pl Ke Ks∧vfits ts pl E Is∧gbf Ks) ?_ (by unfold ZeroV;simp[hz];grind);refine and8S (c:=bif decide (M < (Ks.length:Int))then true else(!(decide ((Is.length:Int)=(Ks.length:Int))))) ?_ (hkeys Ke pl) (hitems E pl) (gus (v:=⟨8,B,I,Sx,ID,Ks,Is,R⟩) (g12 h1) hk)
         by_cases g1:M < (Ks.length:Int)
         · simp[g1];omega
         · simp[g1];omega
       · exact cut (P:=Is.length≤1∧vfits ts pl E Is) (and2S (q:=decide ((Is.length:Int)≤1)) (by simp;omega) (hitems E pl)) (by unfold ZeroV;simp[hz];grind)
     · refine⟨false,by simp[hkd],?_⟩;constructor
       · intro h;cases h
       · rintro ⟨⟨_,_,a,_⟩,_⟩;exact absurd a hkd
end
end
section
open Go Go.Proofs.YtandcioiaooocaaGreat.Shv Go.Sort
set_option maxRecDepth 100000
theorem gi4{α:Type}{l:List α}{i:Nat}(h:i < l.length)(d:α) :l.drop i=l.getD i d::l.drop (i+1):=by
 rw[g13 h];exact List.drop_eq_getElem_cons h
section
variable {ts:List SType}
end
end
section
open Go Go.Proofs.YtandcioiaooocaaGreat.Shv Go.Sort
set_option maxRecDepth 100000
structure SOk (ts:List SType):Prop where
 n:ts.length≤1000
 T:∀t,t∈ts→OkT t
 K:∀t,t∈ts→g9c t.Kind
 M:MOk ts
 A:∀x,x∈ts→(x.Kind=5∨x.Kind=6)→MAsc x.Members∧x.Members.length≤16
 S:∀x,x∈ts→x.Kind=4→∀y,y∈x.Symbols→I1000 y.ID
 Ky:∀x,x∈ts→x.Kind=8→1≤(ts.getD x.Key.toNat dSType).Kind∧(ts.getD x.Key.toNat dSType).Kind≤4
section
variable {ts:List SType}
end
end
section
open Go Go.Proofs.YtandcioiaooocaaGreat.Shv Go.Sort
set_option maxRecDepth 100000
section
variable {ts:List SType} (H:SOk ts)
end
end
section
open Go Go.Proofs.YtandcioiaooocaaGreat.Shv Go.Sort
set_option maxRecDepth 100000
section
variable {ts:List SType}
end
end
section
open Go Go.Proofs.YtandcioiaooocaaGreat.Shv Go.Sort
set_option maxRecDepth 100000
section
variable {ts:List SType}
end
end
section
open Go Go.Proofs.YtandcioiaooocaaGreat.Shv Go.Sort
set_option maxRecDepth 100000
theorem SaysP.says{α:Type}{o:Option Bool}{a b:α}(h:Says o a b) :SaysP o (a=b):=h
theorem and3S {o1 o2 o3 : Option Bool} {P1 P2 P3 : Prop} (h1 : SaysP o1 P1) (h2 : SaysP o2 P2) (h3 : SaysP o3 P3) :
   SaysP (o1 >>=fun r_6=>(if r_6=true then o2 else some false) >>=fun r_7=>some (bif r_6 then r_7 else false) >>=fun t53=>(if t53=true then o3 else some false) >>=fun r_8=>some (bif t53 then r_8 else false)) (P1∧P2∧P3):=by
 obtain⟨a,rfl,h1⟩:=h1;obtain⟨b,rfl,h2⟩:=h2;obtain⟨c,rfl,h3⟩:=h3;rw[←h1,←h2,←h3];cases a <;> cases b <;> cases c <;> exact⟨_,rfl,by simp⟩
theorem guu{o:Option Bool}{P:Prop}(h:SaysP o P) :SaysP (o >>=fun r=>some r) P:=by
 obtain⟨a,rfl,h⟩:=h;exact⟨a,rfl,h⟩
def gaf(union:Bool)(Ms:List SMember) :Prop:=(∀m,m∈Ms→badM union m=false)∧(union=false∨0 < Ms.length)∧MAsc Ms∧(∀m,m∈Ms→nm m.Name=true)∧(Ms.map (·.Name)).Nodup∧Ms.length≤16
def glv(S:List SSymbol) :Prop:=0 < S.length∧(S.Pairwise (fun a b=>a.ID < b.ID)∧∀y,y∈S→I1000 y.ID)∧(∀y,y∈S→nm y.Name=true)∧(S.map (·.Name)).Nodup∧S.length≤16
theorem gsm{l:List (List UInt8)} :l.Nodup↔∀i,i < l.length→(l.take i).contains (l.getD i [])=false:=by
 unfold List.Nodup;rw[List.pairwise_iff_getElem];constructor
 · intro h i hi;apply Bool.eq_false_iff.2;intro hc;obtain⟨k,hk,he⟩:=(g47 (by omega)).1 hc;rw[g13 (by omega),g13 hi]at he;exact h k i (by omega) hi hk he
 · intro h k i hk' hi hk he;have:=h i hi;rw[Bool.eq_false_iff]at this;apply this;refine(g47 (by omega)).2 ⟨k,hk,?_⟩;rw[g13 (by omega),g13 hi];exact he
theorem gr0{α:Type}(f:α→Int)(g:α→List UInt8)(d:α)(l:List α) :(∀i,i < l.length→idp (l.map f) (l.map g) i=true)↔(l.Pairwise (fun a b=>f a < f b)∧∀x,x∈l→I1000 (f x))∧(∀x,x∈l→nm (g x)=true)∧(l.map g).Nodup:=by
 rw[gi9 f d,gsm];have key:∀i,i < l.length→(idp (l.map f) (l.map g) i=true↔I1000 (f (l.getD i d))∧(i=0∨f (l.getD (i - 1) d) < f (l.getD i d))∧nm (g (l.getD i d))=true∧((l.map g).take i).contains ((l.map g).getD i [])=false):=by
   intro i hi;unfold idp I1000;rw[g1x f l i d 0 hi];have e2:i=0∨(l.map f).getD (i - 1) 0=f (l.getD (i - 1) d):=by
     by_cases h0:i=0
     · exact .inl h0
     · exact .inr (g1x f l (i - 1) d 0 (by omega))
   have e3:(l.map g).getD i []=g (l.getD i d):=g1x g l i d [] hi;rw[e3];simp only[Bool.and_eq_true,Bool.or_eq_true,decide_eq_true_eq,Bool.not_eq_true'];rcases e2 with rfl | e2
   · simp[and_assoc]
   · rw[e2];simp only[and_assoc]
 constructor
 · intro h;refine⟨⟨fun i hi=>?_,fun x hx=>?_⟩,fun x hx=>?_,fun i hi=>?_⟩
   · have:=((key (i+1) hi).1 (h _ hi)).2.1;rcases this with h | h
     · omega
     · exact h
   · obtain⟨i,hi,rfl⟩:=List.getElem_of_mem hx;have:=((key i hi).1 (h _ hi)).1;rw[g13 hi]at this;exact this
   · obtain⟨i,hi,rfl⟩:=List.getElem_of_mem hx;have:=((key i hi).1 (h _ hi)).2.2.1;rw[g13 hi]at this;exact this
   · have hi':i < l.length:=by simpa using hi
     exact((key i hi').1 (h _ hi')).2.2.2
 · rintro ⟨⟨h1,h2⟩,h3,h4⟩ i hi
   refine(key i hi).2 ⟨h2 _ (g16 hi d),?_,h3 _ (g16 hi d),h4 i (by simpa using hi)⟩;by_cases h0:i=0
   · exact .inl h0
   · right;have:=h1 (i - 1) (by omega);have e:i - 1+1=i:=by omega
     rw[e]at this;exact this
theorem gnb{t:SType}(h:OkT t) :SaysP (g4g t) ((∀m,m∈t.Members→badM (decide (t.Kind=6)) m=false)∧(t.Kind=5∨0 < t.Members.length)∧MAsc t.Members∧(∀m,m∈t.Members→nm m.Name=true)∧(t.Members.map (·.Name)).Nodup∧t.Members.length≤16):=by
 obtain⟨r,h1,h2⟩:=glq h;refine⟨r,h1,h2.trans ?_⟩;rw[gr0 (fun m:SMember=>m.ID) (fun m:SMember=>m.Name) dSMember];have e:(∀i,i < t.Members.length→badM (decide (t.Kind=6)) (t.Members.getD i dSMember)=false)↔∀m,m∈t.Members→badM (decide (t.Kind=6)) m=false:=by
   constructor
   · intro h m hm;obtain⟨i,hi,rfl⟩:=List.getElem_of_mem hm;have:=h i hi;rw[g13 hi]at this;exact this
   · intro h i hi;exact h _ (g16 hi dSMember)
 rw[e];unfold MAsc;simp only[and_assoc]
theorem guv{l:List SSymbol}(hl:l.length*24≤reachBytes) :SaysP (g53 l) (glv l):=by
 obtain⟨r,h1,h2⟩:=gqw hl;refine⟨r,h1,h2.trans ?_⟩;rw[gr0 (fun m:SSymbol=>m.ID) (fun m:SSymbol=>m.Name) dSSymbol];unfold glv;simp only[and_assoc]
def FormP(t:SType) :Prop:=
 (t.Kind=1∧t.Name=[]∧t.Low=0∧t.High=0∧t.Max=0∧t.Symbols=[]∧t.Members=[]∧t.Key=0∧t.Elem=0∧t.Open=false)∨
 (t.Kind=2∧t.Name=[]∧t.Low≤t.High∧t.Max=0∧t.Symbols=[]∧t.Members=[]∧t.Key=0∧t.Elem=0∧t.Open=false)∨
 (t.Kind=3∧t.Name=[]∧t.Low=0∧t.High=0∧(0≤t.Max∧t.Max≤200)∧t.Symbols=[]∧t.Members=[]∧t.Key=0∧t.Elem=0∧t.Open=false)∨
 (t.Kind=4∧nm t.Name=true∧t.Low=0∧t.High=0∧t.Max=0∧glv t.Symbols∧t.Members=[]∧t.Key=0∧t.Elem=0)∨
 (t.Kind=5∧nm t.Name=true∧t.Low=0∧t.High=0∧t.Max=0∧t.Symbols=[]∧gaf false t.Members∧t.Key=0∧t.Elem=0∧t.Open=false)∨
 (t.Kind=6∧nm t.Name=true∧t.Low=0∧t.High=0∧t.Max=0∧t.Symbols=[]∧gaf true t.Members∧t.Key=0∧t.Elem=0)∨
 (t.Kind=7∧t.Name=[]∧t.Low=0∧t.High=0∧(0≤t.Max∧t.Max≤50)∧t.Symbols=[]∧t.Members=[]∧t.Key=0∧t.Open=false)∨
 (t.Kind=8∧t.Name=[]∧t.Low=0∧t.High=0∧(0≤t.Max∧t.Max≤50)∧t.Symbols=[]∧t.Members=[]∧t.Open=false)∨
 (t.Kind=9∧t.Name=[]∧t.Low=0∧t.High=0∧t.Max=0∧t.Symbols=[]∧t.Members=[]∧t.Key=0∧t.Open=false)
theorem guw{t:SType}(h:OkT t) :SaysP (g10 t) (FormP t):=by
 have hz:OkT (⟨0,[],0,0,0,[],[],0,0,false⟩:SType):=⟨by simp,by simp,by simp⟩
 obtain⟨Kd,N,L,H,M,S,Ms,K,E,O⟩:=t;have hS:=h.syms;have hMs:=h.mems;have hd:=h.dv;simp only at hS hMs hd;by_cases k1:Kd=1
 · subst k1;have a:=g3o (a:=(⟨0,N,L,H,M,S,Ms,K,E,O⟩:SType)) ⟨hS,hMs,hd⟩ (⟨0,[],0,0,0,[],[],0,0,false⟩:SType);refine(guu (SaysP.says a)).imp ?_;unfold FormP;simp
 by_cases k2:Kd=2
 · subst k2;have a:=g3o (a:=(⟨0,N,0,0,M,S,Ms,K,E,O⟩:SType)) ⟨hS,hMs,hd⟩ (⟨0,[],0,0,0,[],[],0,0,false⟩:SType);refine(and2S (q:=decide (L≤H)) (Q:=L≤H) (by simp) (SaysP.says a)).imp (Q:=FormP ⟨2,N,L,H,M,S,Ms,K,E,O⟩) ?_;unfold FormP;simp
   try grind
 by_cases k3:Kd=3
 · subst k3;have a:=g3o (a:=(⟨0,N,L,H,0,S,Ms,K,E,O⟩:SType)) ⟨hS,hMs,hd⟩ (⟨0,[],0,0,0,[],[],0,0,false⟩:SType);refine(and2S (q:=bif decide (0≤M)then decide (M≤200)else false) (Q:=0≤M∧M≤200) (by by_cases g:0≤M <;> simp[g]) (SaysP.says a)).imp (Q:=FormP ⟨3,N,L,H,M,S,Ms,K,E,O⟩) ?_;unfold FormP;simp
   try grind
 by_cases k4:Kd=4
 · subst k4;have a:=g3o (a:=(⟨0,[],L,H,M,[],Ms,K,E,false⟩:SType)) ⟨by simp,hMs,hd⟩ (⟨0,[],0,0,0,[],[],0,0,false⟩:SType);refine(and3S (⟨nm N,lexNm N,Iff.rfl⟩:SaysP (g2n N) (nm N=true)) (guv hS) (SaysP.says a)).imp (Q:=FormP ⟨4,N,L,H,M,S,Ms,K,E,O⟩) ?_;unfold FormP;simp
   try grind
 by_cases k5:Kd=5
 · subst k5;have a:=g3o (a:=(⟨0,[],L,H,M,S,[],K,E,bif O then decide ((5:Int)=5)else false⟩:SType)) ⟨hS,by simp,by simp⟩ (⟨0,[],0,0,0,[],[],0,0,false⟩:SType);refine(and3S (⟨nm N,lexNm N,Iff.rfl⟩:SaysP (g2n N) (nm N=true)) (gnb h) (SaysP.says a)).imp (Q:=FormP ⟨5,N,L,H,M,S,Ms,K,E,O⟩) ?_;unfold FormP gaf;cases O <;> simp
   grind
 by_cases k6:Kd=6
 · subst k6;have a:=g3o (a:=(⟨0,[],L,H,M,S,[],K,E,bif O then decide ((6:Int)=5)else false⟩:SType)) ⟨hS,by simp,by simp⟩ (⟨0,[],0,0,0,[],[],0,0,false⟩:SType);refine(and3S (⟨nm N,lexNm N,Iff.rfl⟩:SaysP (g2n N) (nm N=true)) (gnb h) (SaysP.says a)).imp (Q:=FormP ⟨6,N,L,H,M,S,Ms,K,E,O⟩) ?_;unfold FormP gaf;cases O <;> simp <;> grind
 by_cases k7:Kd=7
 · subst k7;have a:=g3o (a:=(⟨0,N,L,H,0,S,Ms,K,0,O⟩:SType)) ⟨hS,hMs,hd⟩ (⟨0,[],0,0,0,[],[],0,0,false⟩:SType);refine(and2S (q:=bif decide (0≤M)then decide (M≤50)else false) (Q:=0≤M∧M≤50) (by by_cases g:0≤M <;> simp[g]) (SaysP.says a)).imp (Q:=FormP ⟨7,N,L,H,M,S,Ms,K,E,O⟩) ?_;unfold FormP;simp
   try grind
 by_cases k8:Kd=8
 · subst k8;have a:=g3o (a:=(⟨0,N,L,H,0,S,Ms,0,0,O⟩:SType)) ⟨hS,hMs,hd⟩ (⟨0,[],0,0,0,[],[],0,0,false⟩:SType);refine(and2S (q:=bif decide (0≤M)then decide (M≤50)else false) (Q:=0≤M∧M≤50) (by by_cases g:0≤M <;> simp[g]) (SaysP.says a)).imp (Q:=FormP ⟨8,N,L,H,M,S,Ms,K,E,O⟩) ?_;unfold FormP;simp
   try grind
 by_cases k9:Kd=9
 · subst k9;have a:=g3o (a:=(⟨0,N,L,H,M,S,Ms,K,0,O⟩:SType)) ⟨hS,hMs,hd⟩ (⟨0,[],0,0,0,[],[],0,0,false⟩:SType);refine(guu (SaysP.says a)).imp (Q:=FormP ⟨9,N,L,H,M,S,Ms,K,E,O⟩) ?_;unfold FormP;simp
 refine⟨false,by simp[g10,k1,k2,k3,k4,k5,k6,k7,k8,k9],?_⟩;unfold FormP;simp[k1,k2,k3,k4,k5,k6,k7,k8,k9]
structure VOk (ts:List SType):Prop where
 n:ts.length≤32
 F:∀t,t∈ts→FormP t
 D:∀i,i < ts.length→(!(decide ((ts.getD i dSType).Name=[])) && ((ts.map (·.Name)).take i).contains (ts.getD i dSType).Name)=false
 U:∀t,t∈ts→∀u,u∈usesL t→0≤u∧u < ts.length
 Ky:∀t,t∈ts→t.Kind=8→1≤(ts.getD t.Key.toNat dSType).Kind∧(ts.getD t.Key.toNat dSType).Kind≤4
theorem gsn {ts : List SType} (hT : ∀ t, t ∈ ts → OkT t) {i : Nat} (hi : i < ts.length) : stepV ts i = none ↔ FormP (ts.getD i dSType) ∧ (!(decide ((ts.getD i dSType).Name = [])) && ((ts.map (·.Name)).take i).contains (ts.getD i dSType).Name) = false ∧ (∀ u, u ∈ usesL (ts.getD i dSType) → 0 ≤ u ∧ u < ts.length) ∧
   ((ts.getD i dSType).Kind=8→1≤(ts.getD (ts.getD i dSType).Key.toNat dSType).Kind∧(ts.getD (ts.getD i dSType).Key.toNat dSType).Kind≤4):=by
 obtain⟨r,f1,f2⟩:=guw (hT _ (g16 hi dSType));rw[gk2 rfl f1,←f2];have hu:(usesL (ts.getD i dSType)).any (outB ts.length)=false↔∀u,u∈usesL (ts.getD i dSType)→0≤u∧u < ts.length:=by
   rw[List.any_eq_false];constructor
   · intro h u hu;have:=h u hu;unfold outB at this;by_cases g:u < 0
     · simp[g]at this
     · simp[g]at this;omega
   · intro h u hu;have:=h u hu;unfold outB;have g:¬u < 0:=by omega
     simp[g];omega
 rw[←hu];generalize (usesL (ts.getD i dSType)).any (outB ts.length)=b;generalize (!(decide ((ts.getD i dSType).Name=[])) && ((ts.map (·.Name)).take i).contains (ts.getD i dSType).Name)=c
 have hk:(decide ((ts.getD i dSType).Kind=8) && !(keyB (ts.getD (ts.getD i dSType).Key.toNat dSType).Kind))=false↔((ts.getD i dSType).Kind=8→1≤(ts.getD (ts.getD i dSType).Key.toNat dSType).Kind∧(ts.getD (ts.getD i dSType).Key.toNat dSType).Kind≤4):=by
   unfold keyB;generalize (ts.getD (ts.getD i dSType).Key.toNat dSType).Kind=k;by_cases g:(ts.getD i dSType).Kind=8 <;> by_cases g1:1≤k <;> by_cases g2:k≤4 <;> simp[g,g1,g2]
 rw[←hk];generalize (decide ((ts.getD i dSType).Kind=8) && !(keyB (ts.getD (ts.getD i dSType).Key.toNat dSType).Kind))=d;cases r <;> cases b <;> cases c <;> cases d <;> simp
theorem gz2{ts:List SType}(hT:∀t,t∈ts→OkT t)(h32:ts.length≤32)(h:∀i,i < ts.length→stepV ts i=none) :VOk ts:=by
 have key:=fun i hi=>(gsn hT (i:=i) hi).1 (h i hi)
 have lift:∀{P:SType→Prop},(∀i,i < ts.length→P (ts.getD i dSType))→∀t,t∈ts→P t:=fun hp t ht=>by
   obtain⟨i,hi,rfl⟩:=List.getElem_of_mem ht;have:=hp i hi;rw[g13 hi]at this;exact this
 exact⟨h32,lift fun i hi=>(key i hi).1,fun i hi=>(key i hi).2.1,lift fun i hi=>(key i hi).2.2.1,lift fun i hi=>(key i hi).2.2.2⟩
theorem VOk.sok{ts:List SType}(hT:∀t,t∈ts→OkT t)(h:VOk ts) :SOk ts:=by
 refine⟨by have:=h.n;omega,hT,fun t ht=>?_,fun t ht m hm=>?_,fun t ht hk=>?_,fun t ht hk y hy=>?_,h.Ky⟩
 · have:=h.F t ht;unfold FormP at this;unfold g9c;omega
 · have:=h.F t ht;unfold FormP at this;have hne:t.Members≠[]:=by intro e;rw[e]at hm;cases hm
   have:gaf false t.Members∨gaf true t.Members:=by grind
   rcases this with a | a
   · exact(a.2.2.1.2 m hm).2
   · exact(a.2.2.1.2 m hm).2
 · have:=h.F t ht;unfold FormP at this;have:gaf false t.Members∨gaf true t.Members:=by grind
   rcases this with a | a
   · exact⟨a.2.2.1,a.2.2.2.2.2⟩
   · exact⟨a.2.2.1,a.2.2.2.2.2⟩
 · have:=h.F t ht;unfold FormP at this;have:glv t.Symbols:=by grind
   exact this.2.1.2 y hy
end
section
open Go Go.Proofs.YtandcioiaooocaaGreat.Shv Go.Sort
set_option maxRecDepth 100000
theorem gpa{v:SValue}(hl:v.Keys.length≤reachBytes)(ih:∀x,x∈v.Keys→∃n,g2d x=some n) :∀(k i:Nat) (n:Int),i+k=v.Keys.length→∃m,g34 (n,(i:Int),v)=some (m,v)
 | 0,i,n,hi=>⟨n,by rw[g34,if_neg (by simp;omega),SValue.gu]⟩
 | k+1,i,n,hi=>by
   have hlt:i < v.Keys.length:=by omega
   have hr:=g12 hl;obtain⟨a,ha⟩:=ih _ (g16 hlt dSValue);obtain⟨m,hm⟩:=gpa hl ih k (i+1) (addI .i64 n a) (by omega);refine⟨m,?_⟩;rw[g34,if_pos (by simp;omega),if_pos (g8 hlt)];simp only[gf,SValue.gu];rw[ha];simp only[oZ4,oZ3];rw[gp (by omega),hm]
theorem gpb{v:SValue}(hl:v.Items.length≤reachBytes)(ih:∀x,x∈v.Items→∃n,g2d x=some n) :∀(k i:Nat) (n:Int),i+k=v.Items.length→∃m,g35 (n,(i:Int),v)=some (m,v)
 | 0,i,n,hi=>⟨n,by rw[g35,if_neg (by simp;omega),SValue.gu]⟩
 | k+1,i,n,hi=>by
   have hlt:i < v.Items.length:=by omega
   have hr:=g12 hl;obtain⟨a,ha⟩:=ih _ (g16 hlt dSValue);obtain⟨m,hm⟩:=gpb hl ih k (i+1) (addI .i64 n a) (by omega);refine⟨m,?_⟩;rw[g35,if_pos (by simp;omega),if_pos (g8 hlt)];simp only[gf,SValue.gu];rw[ha];simp only[oZ4,oZ3];rw[gp (by omega),hm]
theorem gpc{v:SValue}(hl:v.Rest.length≤reachBytes) :∀(k i:Nat) (n:Int),i+k=v.Rest.length→∃m,g2h (n,(i:Int),v)=some m
 | 0,i,n,hi=>⟨n,by rw[g2h,if_neg (by simp;omega)]⟩
 | k+1,i,n,hi=>by
   have hlt:i < v.Rest.length:=by omega
   have hr:=g12 hl;obtain⟨m,hm⟩:=gpc hl k (i+1) (addI .i64 (addI .i64 n 1) ((v.Rest.getD i dSRaw).Data.length:Int)) (by omega);refine⟨m,?_⟩;rw[g2h,if_pos (by simp;omega),if_pos (g8 hlt)];simp only[gf,SValue.gu];rw[gp (by omega),hm]
theorem size7{v:SValue}(hv:OkV v) :∃n,g2d v=some n:=by
 induction hv with
 | mk v hs h1 h2 h3 hk hi hrd n1 n2 n3 n4 ihk ihi=>
   obtain⟨a,ha⟩:=gpa h1 ihk v.Keys.length 0 (addI .i64 1 (v.Str.length:Int)) (by omega);obtain⟨b,hb⟩:=gpb h2 ihi v.Items.length 0 a (by omega);obtain⟨c,hc⟩:=gpc h3 v.Rest.length 0 b (by omega);have ha':g34 (addI .i64 1 (v.Str.length:Int),0,v)=_:=ha;have hb':g35 (a,0,v)=_:=hb;have hc':g2h (b,0,v)=_:=hc;refine⟨c,?_⟩;rw[g2d];simp only[SValue.gu];rw[ha']
   simp only[oZ4,oZ3,SValue.gu];rw[hb'];simp only[oZ3,SValue.gu];rw[hc'];rfl
theorem gux{ts:List SType}{t:SType}(ht:OkT t)(i2:Int) :∀(k i:Nat) (n:Int),i+k=min t.Members.length 100→∃m,g2a (n,i2,(i:Int),ts,t)=some (m,i2,ts)
 | 0,i,n,hi=>⟨n,by
   rw[g2a,if_neg];intro h;by_cases g:(i:Int) < (t.Members.length:Int)
   · simp[g]at h;omega
   · simp[g]at h⟩
 | k+1,i,n,hi=>by
   have hlt:i < t.Members.length:=by omega
   obtain⟨a,ha⟩:=size7 (ht.dv _ (g16 hlt dSMember));obtain⟨m,hm⟩:=gux ht i2 k (i+1) (addI .i64 (addI .i64 n a) ((t.Members.getD i dSMember).Name.length:Int)) (by omega);refine⟨m,?_⟩
   rw[g2a,if_pos (by
     have g:(i:Int) < (t.Members.length:Int):=by omega
     simp[g];omega),if_pos (g8 hlt)]
   simp only[gf,SValue.gu];rw[ha];simp only[oZ4,oZ3];rw[if_pos (g8 hlt),gp (by omega),hm]
theorem guy{ts:List SType}(hn:ts.length≤reachBytes)(hT:∀t,t∈ts→OkT t) :∀(k i:Nat) (n:Int),i+k=ts.length→∃m,g2u (n,(i:Int),ts)=some m
 | 0,i,n,hi=>⟨n,by rw[g2u,if_neg (by simp;omega)]⟩
 | k+1,i,n,hi=>by
   have hlt:i < ts.length:=by omega
   have hr:=g12 hn;have ht:=hT _ (g16 hlt dSType);obtain⟨a,ha⟩:=gux (ts:=ts) ht (i:Int) (min (ts.getD i dSType).Members.length 100) 0 (addI .i64 (addI .i64 (addI .i64 n ((ts.getD i dSType).Members.length:Int)) ((ts.getD i dSType).Symbols.length:Int)) ((ts.getD i dSType).Name.length:Int)) (by omega);obtain⟨m,hm⟩:=guy hn hT k (i+1) a (by omega);refine⟨m,?_⟩
   rw[g2u,if_pos (by simp;omega),if_pos (g8 hlt)];simp only[oZ4,oZ3,gf];have ha':g2a (addI .i64 (addI .i64 (addI .i64 n ((ts.getD i dSType).Members.length:Int)) ((ts.getD i dSType).Symbols.length:Int)) ((ts.getD i dSType).Name.length:Int),(i:Int),0,ts,ts.getD i dSType)=_:=ha;rw[ha'];simp only[oZ3];rw[gp (by omega),hm]
theorem gnc{s:SSchema}(hn:s.Types.length≤reachBytes)(hT:∀t,t∈s.Types→OkT t) :∃b,g5t s=some b:=by
 rw[g5t];by_cases h:decide (40 < (s.Types.length:Int))=true
 · exact⟨false,by rw[if_pos h]⟩
 · obtain⟨m,hm⟩:=guy hn hT s.Types.length 0 0 (by omega);have hm':g2u (0,0,s.Types)=some m:=hm;rw[if_neg h,hm'];exact⟨_,rfl⟩
def rsum(l:List SRaw) :Nat:=(l.map fun x=>x.Data.length).sum
theorem gvp(l:List SRaw) :(l.map fun x=>x.Data.length+1).sum=rsum l+l.length:=by
 unfold rsum
 induction l with
 | nil=>rfl
 | cons a l ih=>simp only[List.map_cons,List.sum_cons,List.length_cons];omega
def Left(n:Int)(w:Nat)(m:Int) :Prop:=m≤n∧-1000000000000000≤m∧(0≤m→(w:Int)+m≤n)
theorem gpd{v:SValue}(hl:v.Rest.length≤reachBytes)(hd:∀x,x∈v.Rest→x.Data.length≤reachBytes) :∀(k i:Nat) (n:Int),i+k=v.Rest.length→n≤3000→-1000000000000000≤n→∃m,g2g (n,(i:Int),v)=some (m,v)∧Left n (rsum (v.Rest.drop i)) m
 | 0, i, n, hi, h3, hm => ⟨n, by
     rw[g2g,if_neg,SValue.gu];intro h;have g:¬(i:Int) < (v.Rest.length:Int):=by omega
     simp[g]at h,by
     rw[List.drop_eq_nil_of_le (by omega:v.Rest.length≤i)]
     exact⟨by omega,hm,fun _=>by simp[rsum]⟩⟩
 | k+1,i,n,hi,h3,hm=>by
   have hlt:i < v.Rest.length:=by omega
   have hr:=g12 hl;have hdd:=hd _ (g16 hlt dSRaw);unfold reachBytes at hdd;have g:(i:Int) < (v.Rest.length:Int):=by omega
   rw[g2g];by_cases h0:0≤n
   · rw[if_pos (by simp[g,h0]),if_pos (g8 hlt)];simp only[gf,SValue.gu];rw[gh9 (by omega) (by omega),gp (by omega)];obtain⟨m,m1,m2,m3,m4⟩:=gpd hl hd k (i+1) (n - ((v.Rest.getD i dSRaw).Data.length:Int)) (by omega) (by omega) (by omega);refine⟨m,m1,by omega,m3,fun h=>?_⟩;have:=m4 h;rw[gi4 hlt dSRaw]
     have e:rsum (v.Rest.getD i dSRaw::v.Rest.drop (i+1))=(v.Rest.getD i dSRaw).Data.length+rsum (v.Rest.drop (i+1)):=by unfold rsum;simp only[List.map_cons,List.sum_cons]
     rw[e];omega
   · refine⟨n,?_,by omega,hm,fun h=>absurd h h0⟩;rw[if_neg (by simp[g,h0]),SValue.gu]
theorem gpe{v:SValue}(hl:v.Keys.length≤reachBytes)(ih:∀x,x∈v.Keys→∀n,0≤n→n≤3000→∃m,g2c (x,n)=some m∧Left n (wt x) m) :∀(k i:Nat) (n:Int),i+k=v.Keys.length→n≤3000→-1000000000000000≤n→∃m,g32 (n,(i:Int),v)=some (m,v)∧Left n (wts (v.Keys.drop i)) m
 | 0, i, n, hi, h3, hm => ⟨n, by
     rw[g32,if_neg,SValue.gu];intro h;have g:¬(i:Int) < (v.Keys.length:Int):=by omega
     simp[g]at h,by
     rw[List.drop_eq_nil_of_le (by omega:v.Keys.length≤i),gqy]
     exact⟨by omega,hm,fun _=>by simp⟩⟩
 | k+1,i,n,hi,h3,hm=>by
   have hlt:i < v.Keys.length:=by omega
   have hr:=g12 hl;have g:(i:Int) < (v.Keys.length:Int):=by omega
   rw[g32];by_cases h0:0≤n
   · obtain⟨a,a1,a2,a3,a4⟩:=ih _ (g16 hlt dSValue) n h0 h3;rw[if_pos (by simp[g,h0]),if_pos (g8 hlt)];simp only[gf,SValue.gu];rw[a1];simp only[oZ4,oZ3];rw[gp (by omega)];obtain⟨m,m1,m2,m3,m4⟩:=gpe hl ih k (i+1) a (by omega) (by omega) (by omega);refine⟨m,m1,by omega,m3,fun h=>?_⟩;have:=m4 h;have:=a4 (by omega)
     rw[gi4 hlt dSValue,gp8];omega
   · refine⟨n,?_,by omega,hm,fun h=>absurd h h0⟩;rw[if_neg (by simp[g,h0]),SValue.gu]
theorem gpf{v:SValue}(hl:v.Items.length≤reachBytes)(ih:∀x,x∈v.Items→∀n,0≤n→n≤3000→∃m,g2c (x,n)=some m∧Left n (wt x) m) :∀(k i:Nat) (n:Int),i+k=v.Items.length→n≤3000→-1000000000000000≤n→∃m,g33 (n,(i:Int),v)=some m∧Left n (wts (v.Items.drop i)) m
 | 0, i, n, hi, h3, hm => ⟨n, by
     rw[g33,if_neg];intro h;have g:¬(i:Int) < (v.Items.length:Int):=by omega
     simp[g]at h,by
     rw[List.drop_eq_nil_of_le (by omega:v.Items.length≤i),gqy]
     exact⟨by omega,hm,fun _=>by simp⟩⟩
 | k+1,i,n,hi,h3,hm=>by
   have hlt:i < v.Items.length:=by omega
   have hr:=g12 hl;have g:(i:Int) < (v.Items.length:Int):=by omega
   rw[g33];by_cases h0:0≤n
   · obtain⟨a,a1,a2,a3,a4⟩:=ih _ (g16 hlt dSValue) n h0 h3;rw[if_pos (by simp[g,h0]),if_pos (g8 hlt)];simp only[gf,SValue.gu];rw[a1];simp only[oZ4,oZ3];rw[gp (by omega)];obtain⟨m,m1,m2,m3,m4⟩:=gpf hl ih k (i+1) a (by omega) (by omega) (by omega);refine⟨m,m1,by omega,m3,fun h=>?_⟩;have:=m4 h;have:=a4 (by omega)
     rw[gi4 hlt dSValue,gp8];omega
   · refine⟨n,?_,by omega,hm,fun h=>absurd h h0⟩;rw[if_neg (by simp[g,h0])]
theorem size8{v:SValue}(hv:OkV v) :∀n:Int,0≤n→n≤3000→∃m,g2c (v,n)=some m∧Left n (wt v) m:=by
 induction hv with
 | mk v hs h1 h2 h3 hk hi hrd n1 n2 n3 n4 ihk ihi=>
   intro n h0 hn;have e1:addI .i64 (addI .i64 10 (v.Str.length:Int)) (v.Rest.length:Int)=((10+v.Str.length+v.Rest.length:Nat):Int):=by
     have a1:=g12 hs;have a2:=g12 h3;unfold reachBytes at hs h3;have:addI .i64 10 (v.Str.length:Int)=((10+v.Str.length:Nat):Int):=gql (a:=10) (by omega);rw[this,gql (by omega)]
   unfold reachBytes at hs;have h3':=h3;unfold reachBytes at h3';have e2:subI .i64 n ((10+v.Str.length+v.Rest.length:Nat):Int)=n - ((10+v.Str.length+v.Rest.length:Nat):Int):=gh9 (by omega) (by omega);obtain⟨a,a1,a2,a3,a4⟩:=gpd h3 hrd v.Rest.length 0 (n - ((10+v.Str.length+v.Rest.length:Nat):Int)) (by omega) (by omega) (by omega)
   obtain⟨b,b1,b2,b3,b4⟩:=gpe h1 ihk v.Keys.length 0 a (by omega) (by omega) (by omega);obtain⟨c,c1,c2,c3,c4⟩:=gpf h2 ihi v.Items.length 0 b (by omega) (by omega) (by omega);have a1':g2g (n - ((10+v.Str.length+v.Rest.length:Nat):Int),0,v)=_:=a1;have b1':g32 (a,0,v)=_:=b1;have c1':g33 (b,0,v)=_:=c1;refine⟨c,?_,by omega,c3,fun h=>?_⟩
   · rw[g2c];simp only[SValue.gu];rw[e1,e2,a1'];simp only[oZ4,oZ3,SValue.gu];rw[b1'];simp only[oZ3,SValue.gu];rw[c1'];rfl
   · have:=c4 h;have:=b4 (by omega);have:=a4 (by omega);rw[wt_eq,gvp];simp only[List.drop_zero]at*;omega
theorem gq6{v:SValue}(hv:OkV v) :∃b,g60 v=some b∧(b=true→wt v≤3000):=by
 obtain⟨m,m1,m2,m3,m4⟩:=size8 hv 3000 (by omega) (by omega);rw[g60];simp only[SValue.gu];rw[m1];refine⟨decide (0≤m),rfl,fun h=>?_⟩;have h0:0≤m:=of_decide_eq_true h;have:=m4 h0;omega
end
section
open Go Go.Proofs.YtandcioiaooocaaGreat.Shv Go.Sort
set_option maxRecDepth 100000
theorem okOne{t:Ty}{x:t.den Un.D}(h:Ok Un [t] x) :∀d,d∈t.row Un x→WF Un d:=fun d hd=>h ⟨t,x⟩ (List.mem_cons_self ..) d hd
end
section
open Go Go.Proofs.YtandcioiaooocaaGreat.Shv Go.Sort
set_option maxRecDepth 100000
theorem gvq{a:SValue}(h:OkV a)(b:SValue) :Says (g61 (a,b)) a b:=by
 obtain⟨r,h1,h2⟩:=gmb h b;refine⟨r,?_,h2⟩;rw[g61];simp only[SValue.gu];rw[h1];rfl
def Exist(ts:List SType)(t:Int) :Prop:=ts.length≤32∧(∀i,i < ts.length→stepV ts i=none)∧0≤t∧t < ts.length
theorem gjf {s : SSchema} (hs : s.Types.length ≤ reachBytes) (hT : ∀ t, t ∈ s.Types → OkT t) (t : Int) :
   ∃e,g6b (s,t)=some e∧g4v (s,t)=some e∧(e=0→Exist s.Types t):=by
 obtain⟨e,e1,e2,e3,_⟩:=gsi hs hT;rw[g6b,g4v];rw[e1,e2];simp only[oZ4,oZ3];by_cases h:e=0
 · subst h;rw[if_neg (by simp)];by_cases ho:(bif decide (t < 0)then true else decide ((s.Types.length:Int)≤t))=true
   · rw[if_pos ho];exact⟨4,rfl,rfl,fun h=>by cases h⟩
   · rw[if_neg ho];refine⟨0,rfl,rfl,fun _=>⟨(e3 rfl).1,(e3 rfl).2,?_⟩⟩;by_cases h0:t < 0
     · simp[h0]at ho
     · simp[h0]at ho;omega
 · rw[if_pos (by simp[h])];exact⟨e,rfl,rfl,fun h'=>absurd h' h⟩
theorem Exist.sok{ts:List SType}{t:Int}(h:Exist ts t)(hT:∀t,t∈ts→OkT t) :SOk ts:=(gz2 hT h.1 h.2.1).sok hT
theorem gso {w r : SSchema} (hw : w.Types.length ≤ reachBytes) (hW : ∀ t, t ∈ w.Types → OkT t) (hr : r.Types.length ≤ reachBytes) (hR : ∀ t, t ∈ r.Types → OkT t) {v : SValue} (hv : OkV v) (wt rt : Int) :
   ∃e,g5f (w,wt,v,r,rt)=some e∧g65 (w,wt,v,r,rt)=some e∧(e=0→Exist w.Types wt∧Exist r.Types rt∧vfit w.Types true wt v):=by
 obtain⟨a,a1,a2,a3⟩:=gjf hw hW wt;obtain⟨b,b1,b2,b3⟩:=gjf hr hR rt;rw[g5f,g65];simp only[SValue.gu,g6p];rw[a1,a2];simp only[oZ4,oZ3];by_cases ha:a=0
 · subst ha;rw[if_neg (by simp),if_neg (by simp),b1,b2];simp only[oZ3];by_cases hb:b=0
   · subst hb;rw[if_neg (by simp),if_neg (by simp)];have H:=(a3 rfl).sok hW;obtain⟨q,q1,q2⟩:=gup (by have:=H.n;omega) hW H.K hv wt true;obtain⟨x,x1,x2⟩:=gvo (by have:=H.n;omega) hW H.K hv wt true;have ex:x=q:=by rw[q2]at x1;exact(Option.some.inj x1).symm
     have e1:ga7 (w,wt,v)=some q:=by
       rw[ga7];simp only[SValue.gu,g6p];have q1':g2w (w,wt,v,true)=some q:=q1;rw[q1'];rfl
     have e2:g64 (w,wt,v)=some q:=by
       rw[g64];simp only[SValue.gu,g6p];have q2':gz (w,wt,v,true)=some q:=q2;rw[q2'];rfl
     rw[e1,e2];subst ex;cases x with
     | true=>exact⟨0,rfl,rfl,fun _=>⟨a3 rfl,b3 rfl,x2.1 rfl⟩⟩
     | false=>exact⟨1,rfl,rfl,fun h=>by cases h⟩
   · rw[if_pos (by simp[hb]),if_pos (by simp[hb])];exact⟨b,rfl,rfl,fun h'=>absurd h' hb⟩
 · rw[if_pos (by simp[ha]),if_pos (by simp[ha])];exact⟨a,rfl,rfl,fun h'=>absurd h' ha⟩
theorem gq7 {w r : SSchema} {wt rt e : Int} {v : SValue} (he : e ≠ 0) (h : g5f (w, wt, v, r, rt) = some e) :
   g4m (w,wt,v,r,rt)=some ((⟨0,false,0,[],0,[],[],[]⟩:SValue),e)∧g76 (w,wt,v,r,rt)=some ([],e)∧∀u,g8e (w,wt,v,r,rt,u)=some false:=by
 have h1:g4m (w,wt,v,r,rt)=some ((⟨0,false,0,[],0,[],[],[]⟩:SValue),e):=by
   rw[g4m];simp only[SValue.gu,g6p];rw[h];simp only[oZ4,oZ3];rw[if_pos (by simp[he])]
 refine⟨h1,?_,fun u=>?_⟩
 · rw[g76];simp only[SValue.gu,g6p];rw[h];simp only[oZ4,oZ3];rw[if_pos (by simp[he])]
 · rw[g8e];simp only[SValue.gu,g6p];rw[h1];simp[he]
theorem gvr :OkV (⟨0,false,0,[],0,[],[],[]⟩:SValue):= .mk _ (by simp) (by simp) (by simp) (by simp) (fun x h=>by cases h) (fun x h=>by cases h) (fun x h=>by cases h) (by simp) (by simp) (by simp) (fun x h=>by cases h)
theorem gq8{j:Sheavelaw14Job}(hw:j.W.Types.length≤reachBytes)(hW:∀t,t∈j.W.Types→OkT t)(hr:j.R.Types.length≤reachBytes)(hR:∀t,t∈j.R.Types→OkT t)(hv:OkV j.V) :g40 j=some true:=by
 obtain⟨a,ha⟩:=gnc hw hW;obtain⟨b,hb⟩:=gnc hr hR;obtain⟨c,hc,_⟩:=gq6 hv;obtain⟨e,e1,e2,_⟩:=gso hw hW hr hR hv j.WT j.RT;rw[g40,ge6];simp only[oZ4,oZ3,SValue.gu,g6p,Bool.not_true,Bool.not_false,if_true,cond_false];rw[ha];cases a with
 | false=>rfl
 | true=>
   simp only[oZ3,Bool.not_true,Bool.not_false,if_true];rw[hb];cases b with
   | false=>rfl
   | true=>
     simp only[oZ3,Bool.not_true,Bool.not_false,if_true];rw[hc];cases c with
     | false=>rfl
     | true=>
       simp only[oZ3,Bool.not_true,Bool.not_false,cond_false,Bool.false_eq_true,if_false,if_true,eq_self];rw[e2];simp only[oZ3,Bool.not_true,Bool.false_eq_true,if_false];by_cases h0:e=0
       · rw[if_pos (by simp[h0])]
       · obtain⟨r1,r2,r3⟩:=gq7 h0 e1;rw[if_neg (by simp[h0]),r1,r2,r3];obtain⟨q,q1,q2⟩:=gvq gvr (⟨0,false,0,[],0,[],[],[]⟩:SValue);have:q=true:=q2.2 rfl;subst this;simp[q1]
theorem law_MeaningErrors(h:Hs Un.D [.nm ixSheavelaw14Job])(hk:Ok Un [.nm ixSheavelaw14Job] h) :g40 h=some true:=by
 have hj:∀d,d∈Un.flds ixSheavelaw14Job h→WF Un d:=okOne hk;have h1:=hj ⟨.slice (.nm ixSType),h.W.Types⟩ (.head _);have h2:=hj ⟨.slice (.nm ixSType),h.R.Types⟩ (.tail _ (.head _));obtain⟨a1,a2⟩:=okTs h1;obtain⟨b1,b2⟩:=okTs h2;exact gq8 a1 a2 b1 b2 (gqx fun c hc=>hj c (.tail _ (.tail _ (.tail _ (.tail _ hc)))))
end
end Go.Proofs.YtandcioiaooocaaGreat
