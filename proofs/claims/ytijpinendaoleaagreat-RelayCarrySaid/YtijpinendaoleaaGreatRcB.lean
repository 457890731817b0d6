/- The functions of the program as functions of Lean, that its code does what they say, and what they answer; part B. -/
import Derived.Test.YtijpinendaoleaaGreatRcA

namespace Go.Proofs.YtijpinendaoleaaGreat
set_option linter.all false
section
open Go Go.Proofs.YtijpinendaoleaaGreat.Shv
set_option maxRecDepth 100000
theorem room8{k n:Nat}(hk:k≤16)(h:n*24≤reachBytes) :room k n=true:=by
 unfold room g4l g1f;unfold reachBytes at h;simp only[Bool.and_eq_true,decide_eq_true_eq];have:(2*n+192)*k≤(2*n+192)*16:=Nat.mul_le_mul_left _ hk;omega
theorem gaj{α:Type}(l:List α)(i:Nat)(d:α)(h:i < l.length) :l.take i++[l.getD i d]=l.take (i+1):=by
 rw[List.take_add_one,List.getElem?_eq_getElem h,gk h];rfl
theorem g2b{α β:Type}(f:α→β)(l:List α)(i:Nat)(d:α)(e:β)(h:i < l.length) :(l.map f).getD i e=f (l.getD i d):=by
 rw[gk h,gk (by simpa using h)];simp
theorem g54{l:List (List UInt8)}{i:Nat}{s:List UInt8}(hi:i≤l.length) :(l.take i).contains s=true↔∃k,k < i∧l.getD k []=s:=by
 rw[List.contains_iff_mem];constructor
 · intro h;obtain⟨k,hk,he⟩:=List.getElem_of_mem h;rw[List.length_take]at hk;refine⟨k,by omega,?_⟩;rw[gk (by omega),←he,List.getElem_take]
 · rintro ⟨k,hk,he⟩
   rw[←he,gk (by omega)];have:(l.take i)[k]'(by rw[List.length_take];omega)=l[k]:=List.getElem_take;rw[←this];exact List.getElem_mem _
def bef(l:List Int)(i:Nat) :Int:=if i=0 then 0 else l.getD (i - 1) 0
theorem guk {l : List Int} {names : List (List UInt8)} {i : Nat} (hi : i < l.length) (hn : names.length = l.length) :
   idp l names i=(decide (bef l i < l.getD i 0) && decide (1≤l.getD i 0) && decide (l.getD i 0≤1000) && nm (names.getD i []) && !((names.take i).contains (names.getD i []))):=by
 unfold idp bef;generalize l.getD i 0=x;generalize l.getD (i - 1) 0=y;generalize nm (names.getD i [])=a;generalize (names.take i).contains (names.getD i [])=b;by_cases h0:i=0
 · subst h0;by_cases h1:1≤x
   · have:decide ((0:Int) < x)=true:=by simp;omega
     simp[h1,this]
   · simp[h1]
 · simp only[h0,if_false,decide_false,Bool.false_or];by_cases h1:1≤x <;> by_cases h2:x≤1000 <;> by_cases h3:y < x <;> simp[h1,h2,h3]
theorem goi(l:List SSymbol)(hl:l.length*24≤reachBytes) :∀(k i:Nat),i+k=l.length→g3r (l,l,(l.length:Int),(i:Int),(l.map (·.ID)).take i,(l.map (·.Name)).take i)=some (l,l.map (·.ID),l.map (·.Name))
 | 0,i,h=>by
   have:i=l.length:=by omega
   subst this;rw[g3r,if_neg (by simp)];rw[List.take_of_length_le (by simp),List.take_of_length_le (by simp)]
 | k+1,i,h=>by
   have hr:l.length < 9223372036854775807:=by unfold reachBytes at hl;omega
   have hi:i < l.length:=by omega
   rw[g3r,if_pos (by simp;omega),if_pos (g6 hi)];simp only[oZ4,oZ3,g7];rw[←g2b (·.ID) l i dSSymbol 0 hi,←g2b (·.Name) l i dSSymbol [] hi,gaj _ _ _ (by simpa using hi),gaj _ _ _ (by simpa using hi)];rw[if_pos (room8 (by omega) (by simp;omega)),if_pos (room8 (by omega) (by simp;omega)),gp (by omega)];exact goi l hl k (i+1) (by omega)
theorem gul{l:List SSymbol}(hl:l.length*24≤reachBytes) :∃r,g6q l=some r∧(r=true↔0 < l.length∧(∀i,i < l.length→idp (l.map (·.ID)) (l.map (·.Name)) i=true)∧l.length≤16):=by
 have h:=goi l hl l.length 0 (by omega);have h':g3r (l,l,(l.length:Int),0,[],[])=some (l,l.map (·.ID),l.map (·.Name)):=h;rw[g6q,h'];simp only[oZ4,oZ3];obtain⟨r,h1,h2⟩:=gyn (l:=l.map (·.ID)) (names:=l.map (·.Name)) (by simp;unfold reachBytes at*;omega) (by simp);rw[List.length_map]at h2;rw[h1]
 refine⟨decide (0 < (l.length:Int)) && r,?_,?_⟩
 · cases decide (0 < (l.length:Int)) <;> rfl
 · rw[Bool.and_eq_true,h2,decide_eq_true_eq];constructor
   · rintro ⟨a,b⟩;exact⟨by omega,b⟩
   · rintro ⟨a,b⟩;exact⟨by omega,b⟩
theorem refId(a b:Int) :g83 (a,b)=some (decide (a < b) && decide (1≤b) && decide (b≤1000)):=by
 rw[g83];cases decide (a < b) <;> cases decide (1≤b) <;> rfl
theorem gwe (l : List SSymbol) (hl : l.length ≤ reachBytes) (i : Nat) (hi : i < l.length) :
   g1k (l,(i:Int),0)=some (if((l.map (·.Name)).take i).contains ((l.map (·.Name)).getD i [])=true then .inl false else .inr (l,(i:Int))):=by
 have hr:=g1e hl;have hsc:=scan (fun k=>g1k (l,(i:Int),(k:Int))) i (fun k=>!(decide ((l.getD k dSSymbol).Name=(l.getD i dSSymbol).Name))) (.inl false) (.inr (l,(i:Int)))
   (fun k hk=>by
     rw[g1k,if_pos (by simp;omega),if_pos (g6 (by omega)),if_pos (g6 hi),gp (by omega)];simp only[g7]
     cases decide ((l.getD k dSSymbol).Name=(l.getD i dSSymbol).Name) <;> rfl)
   (by rw[g1k,if_neg (by simp)])
 have e0:g1k (l,(i:Int),((0:Nat):Int))=g1k (l,(i:Int),0):=rfl;simp only[e0]at hsc;rw[g2b (·.Name) l i dSSymbol [] hi];rcases hsc with⟨h1,h2⟩ | ⟨h1,j,h2,h3⟩
 · rw[h1,if_neg];rw[g54 (by simp;omega)]
   rintro ⟨k,hk,he⟩
   rw[g2b (·.Name) l k dSSymbol [] (by omega)]at he;have:=h2 k hk;rw[he]at this;simp at this
 · rw[h1,if_pos];rw[g54 (by simp;omega)];refine⟨j,h2,?_⟩;rw[g2b (·.Name) l j dSSymbol [] (by omega)]
   simpa using h3
theorem g11e{l:List SSymbol}(hl:l.length≤reachBytes) :∃r,g5t l=some r∧(r=true↔0 < l.length∧(∀i,i < l.length→idp (l.map (·.ID)) (l.map (·.Name)) i=true)∧l.length≤16):=by
 have hr:=g1e hl;have hsc:=scan (fun i=>g24 (l,bef (l.map (·.ID)) i,(i:Int))) l.length (idp (l.map (·.ID)) (l.map (·.Name))) (.inl false) (.inr l)
   (fun i hi=>by
     rw[g24,if_pos (by simp;omega),if_pos (g6 hi),refId,gwe l hl i hi,guk (by simpa using hi) (by simp)];simp only[oZ4,oZ3,g7];rw[←g2b (·.ID) l i dSSymbol 0 hi,←g2b (·.Name) l i dSSymbol [] hi,refNm]
     generalize (decide (bef (l.map (·.ID)) i < (l.map (·.ID)).getD i 0) && decide (1≤(l.map (·.ID)).getD i 0) && decide ((l.map (·.ID)).getD i 0≤1000))=q;rw[if_pos (by rw[g6 hi];rfl)];cases q with
     | false=>rfl
     | true=>
       simp only[Bool.not_true,Bool.not_false,if_true,oZ3,Bool.true_and];cases nm ((l.map (·.Name)).getD i [])with
       | false=>rfl
       | true=>
         simp only[Bool.not_true,cond_false,Bool.false_eq_true,if_false,Bool.true_and];cases hc:((l.map (·.Name)).take i).contains ((l.map (·.Name)).getD i [])with
         | true=>simp
         | false=>
           simp only[Bool.false_eq_true,if_false,Bool.not_false,if_true];rw[if_pos (g6 hi),gp (by omega)];have:bef (l.map (·.ID)) (i+1)=(l.getD i dSSymbol).ID:=by
             unfold bef;rw[if_neg (by omega)];exact g2b (·.ID) l i dSSymbol 0 hi
           rw[this]
           rfl)
   (by rw[g24,if_neg (by simp)])
 have e0:g24 (l,bef (l.map (·.ID)) 0,((0:Nat):Int))=g24 (l,0,0):=rfl;simp only[e0]at hsc;rw[g5t];rcases hsc with⟨h1,h2⟩ | ⟨h1,j,h2,h3⟩
 · rw[h1];refine⟨_,rfl,?_⟩;simp only[Bool.cond_eq_ite];constructor
   · intro h;split at h
     · rename_i h4;simp at h h4;exact⟨by omega,h2,by omega⟩
     · cases h
   · rintro ⟨a,_,b⟩
     rw[if_pos (by simp;omega)];simp;omega
 · rw[h1];refine⟨false,rfl,?_⟩;constructor
   · intro h;cases h
   · rintro ⟨_,h,_⟩
     have:=h j h2;rw[h3]at this;cases this
theorem gyo{l:List SSymbol}(hl:l.length*24≤reachBytes) :∃r,g6q l=some r∧g5t l=some r:=by
 obtain⟨r,h1,h2⟩:=gul hl;obtain⟨q,h3,h4⟩:=g11e (l:=l) (by unfold reachBytes at*;omega);have:r=q:=Bool.eq_iff_iff.2 (h2.trans h4.symm);exact⟨r,h1,by rw[this];exact h3⟩
end
section
open Go Go.Proofs.YtijpinendaoleaaGreat.Shv
set_option maxRecDepth 100000
structure OkT (t:SType):Prop where
 syms:t.Symbols.length*24≤reachBytes
 mems:t.Members.length*24≤reachBytes
 dv:∀m,m∈t.Members→OkV m.Default
theorem g58{n:Nat}(h:n*24≤reachBytes) :n≤reachBytes:=by unfold reachBytes at*;omega
theorem gwf{a b:SMember} :a=b↔a.ID=b.ID∧a.Name=b.Name∧a.Type_=b.Type_∧a.Critical=b.Critical∧a.HasDefault=b.HasDefault∧a.Default=b.Default:=by
 cases a;cases b;simp
theorem g9o(x:SMember) :(⟨x.ID,x.Name,x.Type_,x.Critical,x.HasDefault,SValue.eta x.Default⟩:SMember)=x:=by cases x;simp[SValue.ge]
theorem fiveM{a b:SMember} :(bif bif bif bif decide (a.ID=b.ID)then decide (a.Name=b.Name)else false then decide (a.Type_=b.Type_)else false then eqB a.Critical b.Critical else false then eqB a.HasDefault b.HasDefault else false)=true↔a.ID=b.ID∧a.Name=b.Name∧a.Type_=b.Type_∧a.Critical=b.Critical∧a.HasDefault=b.HasDefault:=by
 simp only[Bool.cond_eq_ite,eqB];by_cases h1:a.ID=b.ID <;> by_cases h2:a.Name=b.Name <;> by_cases h3:a.Type_=b.Type_ <;> by_cases h4:a.Critical=b.Critical <;> simp[h1,h2,h3,h4]
theorem twoM {a b : SMember} {q : Bool} (hq : q = true ↔ a.ID = b.ID ∧ a.Name = b.Name ∧ a.Type_ = b.Type_ ∧ a.Critical = b.Critical ∧ a.HasDefault = b.HasDefault) {x : Option Bool} (hx : Says x a.Default b.Default) :
   Says (some q >>=fun t37=>(if t37=true then x else some false) >>=fun r=>some (bif t37 then r else false)) a b:=by
 obtain⟨rx,h1,h2⟩:=hx;subst h1;refine⟨q && rx,by cases q <;> cases rx <;> rfl,?_⟩;rw[gwf,Bool.and_eq_true,hq,h2];constructor
 · rintro ⟨⟨a1,a2,a3,a4,a5⟩,a6⟩;exact⟨a1,a2,a3,a4,a5,a6⟩
 · rintro ⟨a1,a2,a3,a4,a5,a6⟩;exact⟨⟨a1,a2,a3,a4,a5⟩,a6⟩
theorem gyp{a:SMember}(h:OkV a.Default)(b:SMember) :Says (g7v (a,b)) a b:=by
 rw[g7v];simp only[gfh,SValue.ge];exact twoM fiveM (gdf h _)
theorem gyq{a:SMember}(h:OkV a.Default)(b:SMember) :Says (g51 (a,b)) a b:=by
 rw[g51];simp only[gfh,SValue.ge];exact twoM fiveM (gpg h _)
theorem gm9 {f : SMember × SMember → Option Bool} {γ : Type} {g : γ} {a b : List SMember} (hl : a.length = b.length) (ih : ∀ x, x ∈ a → ∀ y, Says (f (x, y)) x y) (L : Nat → Option (Bool ⊕ γ))
   (hstep:∀i,i < a.length→L i=(f (a.getD i dSMember,b.getD i dSMember) >>=fun r=>if(!r)=true then some (.inl false)else L (i+1)))
   (hend:L a.length=some (.inr g)):(L 0=some (.inr g)∧a=b)∨(L 0=some (.inl false)∧a≠b):=by
 have hget:∀(i:Nat) (h1:i < a.length) (h2:i < b.length),Says (f (a.getD i dSMember,b.getD i dSMember)) a[i] b[i]:=by
   intro i h1 h2;rw[gk h1,gk h2];exact ih _ (List.getElem_mem h1) _
 have hp:∀(i:Nat) (h1:i < a.length) (h2:i < b.length),(f (a.getD i dSMember,b.getD i dSMember)).getD false=true↔a[i]=b[i]:=by
   intro i h1 h2;obtain⟨r,h3,h4⟩:=hget i h1 h2;rw[h3];exact h4
 have:=scan L a.length (fun i=>(f (a.getD i dSMember,b.getD i dSMember)).getD false) (.inl false) (.inr g)
   (fun i hi=>by
     obtain⟨r,h1,h2⟩:=hget i hi (by omega);rw[hstep i hi,h1]
     cases r <;> rfl) hend
 rcases this with⟨h1,h2⟩ | ⟨h1,j,h2,h3⟩
 · exact .inl ⟨h1,(g6l hl hp).1 h2⟩
 · refine .inr ⟨h1,fun e=>?_⟩;have:=(g6l hl hp).2 e j h2;rw[h3]at this;cases this
theorem gsl{a b:List SMember}(ha:a.length≤reachBytes)(hd:∀m,m∈a→OkV m.Default) :Says (g1b (a,b)) a b:=by
 rw[g1b];by_cases hl:a.length=b.length
 · rw[if_neg (by simp;omega)];have hr:=g1e ha;have hs:=gm9 (g:=()) hl (f:=g7v) (fun x hx y=>gyp (hd x hx) y) (fun i=>gi (b,a,(a.length:Int),(i:Int)))
     (fun i hi=>by
       rw[gi,if_pos (by simp;omega),if_pos (g6 hi)];simp only[oZ4,oZ3,g7,g9o]
       rw[if_pos (g6 (by omega)),gp (by omega)])
     (by rw[gi,if_neg (by simp)])
   have e0:gi (b,a,(a.length:Int),((0:Nat):Int))=gi (b,a,(a.length:Int),0):=rfl;simp only[e0]at hs;rcases hs with⟨h1,h2⟩ | ⟨h1,h2⟩
   · rw[h1];exact⟨true,rfl,by simp[h2]⟩
   · rw[h1];exact⟨false,rfl,by simp[h2]⟩
 · rw[if_pos (by simp;omega)];exact gby hl
theorem gif{a b:SType} :a=b↔a.Kind=b.Kind∧a.Name=b.Name∧a.Low=b.Low∧a.High=b.High∧a.Max=b.Max∧a.Key=b.Key∧a.Elem=b.Elem∧a.Open=b.Open∧a.Symbols=b.Symbols∧a.Members=b.Members:=by
 cases a;cases b;simp only[SType.mk.injEq];constructor
 · rintro ⟨h1,h2,h3,h4,h5,h6,h7,h8,h9,h10⟩;exact⟨h1,h2,h3,h4,h5,h8,h9,h10,h6,h7⟩
 · rintro ⟨h1,h2,h3,h4,h5,h6,h7,h8,h9,h10⟩;exact⟨h1,h2,h3,h4,h5,h9,h10,h6,h7,h8⟩
theorem g14k {a b : SType} : (bif bif bif bif bif bif bif decide (a.Kind = b.Kind) then decide (a.Name = b.Name) else false then decide (a.Low = b.Low) else false then decide (a.High = b.High) else false then decide (a.Max = b.Max) else false then decide (a.Key = b.Key) else false then decide (a.Elem = b.Elem) else false then eqB a.Open b.Open else false) = true ↔
   a.Kind=b.Kind∧a.Name=b.Name∧a.Low=b.Low∧a.High=b.High∧a.Max=b.Max∧a.Key=b.Key∧a.Elem=b.Elem∧a.Open=b.Open:=by
 simp only[Bool.cond_eq_ite,eqB];by_cases h1:a.Kind=b.Kind <;> by_cases h2:a.Name=b.Name <;> by_cases h3:a.Low=b.Low <;> by_cases h4:a.High=b.High <;> simp[h1,h2,h3,h4]
 by_cases h5:a.Max=b.Max <;> by_cases h6:a.Key=b.Key <;> by_cases h7:a.Elem=b.Elem <;> simp[h5,h6,h7]
theorem g4w{a:SType}(h:OkT a)(b:SType) :Says (g1j (a,b)) a b:=by
 rw[g1j];obtain⟨rs,s1,s2⟩:=g14j (a:=a.Symbols) (b:=b.Symbols) (g58 h.syms);obtain⟨rm,m1,m2⟩:=gsl (a:=a.Members) (b:=b.Members) (g58 h.mems) h.dv;have e8:=g14k (a:=a) (b:=b)
 generalize (bif bif bif bif bif bif bif decide (a.Kind=b.Kind)then decide (a.Name=b.Name)else false then decide (a.Low=b.Low)else false then decide (a.High=b.High)else false then decide (a.Max=b.Max)else false then decide (a.Key=b.Key)else false then decide (a.Elem=b.Elem)else false then eqB a.Open b.Open else false)=q at e8 ⊢
 simp only[oZ4,oZ3];rw[s1,m1];refine⟨q && rs && rm,by cases q <;> cases rs <;> cases rm <;> rfl,?_⟩;rw[gif,Bool.and_eq_true,Bool.and_eq_true,e8,s2,m2];constructor
 · rintro ⟨⟨⟨a1,a2,a3,a4,a5,a6,a7,a8⟩,a9⟩,a10⟩;exact⟨a1,a2,a3,a4,a5,a6,a7,a8,a9,a10⟩
 · rintro ⟨a1,a2,a3,a4,a5,a6,a7,a8,a9,a10⟩;exact⟨⟨⟨a1,a2,a3,a4,a5,a6,a7,a8⟩,a9⟩,a10⟩
theorem gig(a:SType) :(⟨a.Kind,a.Name,a.Low,a.High,a.Max,a.Symbols,a.Members,a.Key,a.Elem,a.Open⟩:SType)=a:=by cases a;rfl
theorem g9p{a:SType}(h:OkT a)(b:SType) :Says (g6i (a,b)) a b:=by
 rw[g6i];simp only[gig];by_cases h5:(a.Kind=b.Kind∧a.Name=b.Name∧a.Low=b.Low∧a.High=b.High∧a.Max=b.Max∧a.Key=b.Key∧a.Elem=b.Elem∧a.Open=b.Open)∧a.Symbols.length=b.Symbols.length∧a.Members.length=b.Members.length
 · obtain⟨⟨e1,e2,e3,e4,e5,e6,e7,e8⟩,e9,e10⟩:=h5;rw[if_neg (by simp[e1,e2,e3,e4,e5,e6,e7,e8,e9,e10,eqB])];have hr:=g1e (g58 h.syms);have hr2:=g1e (g58 h.mems)
   have hsc:=scan (fun i=>g1y ((i:Int),a,b)) a.Symbols.length (fun i=>eqI (a.Symbols.getD i dSSymbol).ID (b.Symbols.getD i dSSymbol).ID && (eqS (a.Symbols.getD i dSSymbol).Name (b.Symbols.getD i dSSymbol).Name && true)) (.inl false) (.inr (a,b))
     (fun i hi'=>by
       rw[g1y,if_pos (by simp;omega),if_pos (g6 hi')];simp only[oZ4,oZ3,g7];rw[if_pos (g6 (by omega)),gp (by omega)];generalize (eqI (a.Symbols.getD i dSSymbol).ID (b.Symbols.getD i dSSymbol).ID && (eqS (a.Symbols.getD i dSSymbol).Name (b.Symbols.getD i dSSymbol).Name && true))=c
       cases c <;> rfl)
     (by rw[g1y,if_neg (by simp)])
   have h0:g1y (((0:Nat):Int),a,b)=g1y (0,a,b):=rfl;simp only[h0]at hsc;have hp:∀(i:Nat) (h1:i < a.Symbols.length) (h2:i < b.Symbols.length),(eqI (a.Symbols.getD i dSSymbol).ID (b.Symbols.getD i dSSymbol).ID && (eqS (a.Symbols.getD i dSSymbol).Name (b.Symbols.getD i dSSymbol).Name && true))=true↔a.Symbols[i]=b.Symbols[i]:=fun i h1 h2=>by
     rw[gk h1,gk h2];exact gym
   rcases hsc with⟨g1,g2⟩ | ⟨g1,j,g2,g3⟩
   · have hsy:=(g6l e9 hp).1 g2;rw[g1];simp only[oZ4,oZ3];have hs:=gm9 (g:=()) e10 (f:=g51) (fun x hx y=>gyq (h.dv x hx) y) (fun i=>g1z ((i:Int),a,b))
       (fun i hi=>by
         rw[g1z,if_pos (by simp;omega),if_pos (g6 hi)];simp only[oZ4,oZ3,g7,g9o]
         rw[if_pos (g6 (by omega)),gp (by omega)])
       (by rw[g1z,if_neg (by simp)])
     have e0:g1z (((0:Nat):Int),a,b)=g1z (0,a,b):=rfl;simp only[e0]at hs;rcases hs with⟨k1,k2⟩ | ⟨k1,k2⟩
     · rw[k1];refine⟨true,rfl,?_⟩;rw[gif];simp[e1,e2,e3,e4,e5,e6,e7,e8,hsy,k2]
     · rw[k1];refine⟨false,rfl,?_⟩;rw[gif];simp[k2]
   · rw[g1];refine⟨false,rfl,?_⟩;constructor
     · intro h;cases h
     · intro h;have:=(g6l e9 hp).2 (gif.1 h).2.2.2.2.2.2.2.2.1 j g2;rw[g3]at this;cases this
 · rw[if_pos]
   · refine⟨false,rfl,?_⟩;constructor
     · intro h;cases h
     · intro h
       exfalso;apply h5
       subst h;simp
   · simp only[Bool.cond_eq_ite,eqB];by_cases q1:a.Kind=b.Kind <;> by_cases q2:a.Name=b.Name <;> by_cases q3:a.Low=b.Low <;> by_cases q4:a.High=b.High <;> simp[q1,q2,q3,q4]
     by_cases q5:a.Max=b.Max <;> by_cases q6:a.Key=b.Key <;> by_cases q7:a.Elem=b.Elem <;> by_cases q8:a.Open=b.Open <;> simp[q5,q6,q7,q8]
     by_cases q9:a.Symbols.length=b.Symbols.length
     · by_cases q10:a.Members.length=b.Members.length
       · exact absurd ⟨⟨q1,q2,q3,q4,q5,q6,q7,q8⟩,q9,q10⟩ h5
       · right;omega
     · left;omega
end
section
open Go Go.Proofs.YtijpinendaoleaaGreat.Shv
set_option maxRecDepth 100000
def ga1(v:SValue) :Bool:=(g4e (v,dSValue)).getD false
theorem g11f{v:SValue}(h:OkV v) :g4e (v,dSValue)=some (ga1 v):=by
 obtain⟨r,h1,h2⟩:=gdf h dSValue;unfold ga1;rw[h1];rfl
theorem g11g{v:SValue}(h:OkV v) :g1o (v,dSValue)=some (ga1 v):=by
 obtain⟨r,h1,h2⟩:=gdf h dSValue;obtain⟨q,h3,h4⟩:=gpg h dSValue;unfold ga1;rw[h1,h3];have:q=r:=Bool.eq_iff_iff.2 (h4.trans h2.symm);rw[this];rfl
theorem g10e{v:SValue}(h:OkV v) :gb2 v=some (ga1 v):=by
 rw[gb2,SValue.ge];have:=g11f h;unfold dSValue at this;rw[this];rfl
def badM(union:Bool)(m:SMember) :Bool:=(union && (m.Critical || m.HasDefault)) || (m.Critical && m.HasDefault) || (!m.HasDefault && !ga1 m.Default)
theorem gg{α:Type}{l:List α}{i:Nat}(h:i < l.length)(d:α) :l.getD i d∈l:=by
 rw[gk h];exact List.getElem_mem h
theorem goj{t:SType}(h:OkT t) :∃r,g5x t=some r∧(r=true↔(∀i,i < t.Members.length→badM (decide (t.Kind=6)) (t.Members.getD i dSMember)=false)∧(t.Kind=5∨0 < t.Members.length)∧(∀i,i < t.Members.length→idp (t.Members.map (·.ID)) (t.Members.map (·.Name)) i=true)∧t.Members.length≤16):=by
 have hr:t.Members.length < 9223372036854775807:=g1e (g58 h.mems);have hsc:=scan (fun i=>g37 (t.Members,(t.Members.length:Int),(i:Int),t,(t.Members.map (·.ID)).take i,(t.Members.map (·.Name)).take i)) t.Members.length (fun i=>!(badM (decide (t.Kind=6)) (t.Members.getD i dSMember))) (.inl false) (.inr (t,t.Members.map (·.ID),t.Members.map (·.Name)))
   (fun i hi=>by
     have hz:=g10e (h.dv _ (gg hi dSMember));rw[g37,if_pos (by simp;omega),if_pos (g6 hi)];simp only[oZ4,oZ3,g7,SValue.ge];rw[←g2b (·.ID) t.Members i dSMember 0 hi,←g2b (·.Name) t.Members i dSMember [] hi,gaj _ _ _ (by simpa using hi),gaj _ _ _ (by simpa using hi)];have hb:((t.Members.map (·.ID)).take (i+1)).length*24≤reachBytes:=by
       refine Nat.le_trans (Nat.mul_le_mul_right _ ?_) h.mems;simp;omega
     have hb2:((t.Members.map (·.Name)).take (i+1)).length*24≤reachBytes:=by
       refine Nat.le_trans (Nat.mul_le_mul_right _ ?_) h.mems;simp;omega
     rw[if_pos (room8 (by omega) hb),if_pos (room8 (by omega) hb2),gp (by omega),hz];unfold badM
     cases decide (t.Kind=6) <;> cases (t.Members.getD i dSMember).Critical <;> cases (t.Members.getD i dSMember).HasDefault <;> cases ga1 (t.Members.getD i dSMember).Default <;> rfl)
   (by
     rw[g37,if_neg (by simp)]
     rw[List.take_of_length_le (by simp),List.take_of_length_le (by simp)])
 have e0:g37 (t.Members,(t.Members.length:Int),((0:Nat):Int),t,(t.Members.map (·.ID)).take 0,(t.Members.map (·.Name)).take 0)=g37 (t.Members,(t.Members.length:Int),0,t,[],[]):=rfl;simp only[e0]at hsc;rw[g5x];obtain⟨r,h1,h2⟩:=gyn (l:=t.Members.map (·.ID)) (names:=t.Members.map (·.Name)) (by simpa using g58 h.mems) (by simp);rw[List.length_map]at h2
 rcases hsc with⟨g1,g2⟩ | ⟨g1,j,g2,g3⟩
 · rw[g1];simp only[oZ4,oZ3];rw[h1];refine⟨(bif decide (t.Kind=5)then true else decide (0 < ((t.Members.map (·.ID)).length:Int))) && r,?_,?_⟩
   · cases (bif decide (t.Kind=5)then true else decide (0 < ((t.Members.map (·.ID)).length:Int))) <;> rfl
   · rw[Bool.and_eq_true,h2];have e5:(bif decide (t.Kind=5)then true else decide (0 < ((t.Members.map (·.ID)).length:Int)))=true↔(t.Kind=5∨0 < t.Members.length):=by
       by_cases h5:t.Kind=5 <;> simp[h5]
     rw[e5];constructor
     · rintro ⟨a,b,c⟩
       exact⟨fun i hi=>by simpa using g2 i hi,a,b,c⟩
     · rintro ⟨_,a,b,c⟩;exact⟨a,b,c⟩
 · rw[g1];refine⟨false,rfl,?_⟩;constructor
   · intro h;cases h
   · rintro ⟨a,_⟩
     have h5:=a j g2;have g3':(!(badM (decide (t.Kind=6)) (t.Members.getD j dSMember)))=false:=g3;rw[h5]at g3';cases g3'
theorem gwg (l : List SMember) (record : Bool) (hl : l.length ≤ reachBytes) (i : Nat) (hi : i < l.length) :
   g1l (l,record,(i:Int),0,l.getD i dSMember)=some (if((l.map (·.Name)).take i).contains ((l.map (·.Name)).getD i [])=true then .inl false else .inr (l,record,(i:Int),l.getD i dSMember)):=by
 have hr:=g1e hl;have hsc:=scan (fun k=>g1l (l,record,(i:Int),(k:Int),l.getD i dSMember)) i (fun k=>!(decide ((l.getD k dSMember).Name=(l.getD i dSMember).Name))) (.inl false) (.inr (l,record,(i:Int),l.getD i dSMember))
   (fun k hk=>by
     rw[g1l,if_pos (by simp;omega),if_pos (g6 (by omega)),gp (by omega)];simp only[g7,g9o]
     cases decide ((l.getD k dSMember).Name=(l.getD i dSMember).Name) <;> rfl)
   (by rw[g1l,if_neg (by simp),g9o])
 have e0:g1l (l,record,(i:Int),((0:Nat):Int),l.getD i dSMember)=g1l (l,record,(i:Int),0,l.getD i dSMember):=rfl;simp only[e0]at hsc;rw[g2b (·.Name) l i dSMember [] hi];rcases hsc with⟨h1,h2⟩ | ⟨h1,j,h2,h3⟩
 · rw[h1,if_neg];rw[g54 (by simp;omega)]
   rintro ⟨k,hk,he⟩
   rw[g2b (·.Name) l k dSMember [] (by omega)]at he;have:=h2 k hk;rw[he]at this;simp at this
 · rw[h1,if_pos];rw[g54 (by simp;omega)];refine⟨j,h2,?_⟩;rw[g2b (·.Name) l j dSMember [] (by omega)]
   simpa using h3
theorem gwh{l:List SMember}{record:Bool}(hl:l.length≤reachBytes)(hd:∀m,m∈l→OkV m.Default) :∃r,g4u (l,record)=some r∧(r=true↔(∀i,i < l.length→badM (!record) (l.getD i dSMember)=false)∧(record=true∨0 < l.length)∧(∀i,i < l.length→idp (l.map (·.ID)) (l.map (·.Name)) i=true)∧l.length≤16):=by
 have hr:=g1e hl;have hsc:=scan (fun i=>g25 (l,record,bef (l.map (·.ID)) i,(i:Int))) l.length (fun i=>idp (l.map (·.ID)) (l.map (·.Name)) i && !(badM (!record) (l.getD i dSMember))) (.inl false) (.inr (l,record))
   (fun i hi=>by
     have hz:=g11g (hd _ (gg hi dSMember));unfold dSValue at hz;rw[g25,if_pos (by simp;omega),if_pos (g6 hi)];simp only[oZ4,oZ3,g7,SValue.ge,g9o,guk (l:=l.map (·.ID)) (names:=l.map (·.Name)) (i:=i) (by simpa using hi) (by simp)];rw[gwg l record hl i hi,hz];have hbef:bef (l.map (·.ID)) (i+1)=(l.getD i dSMember).ID:=by
       unfold bef;rw[if_neg (by omega)];exact g2b (·.ID) l i dSMember 0 hi
     rw[←g2b (·.ID) l i dSMember 0 hi,←g2b (·.Name) l i dSMember [] hi,refId,refNm];simp only[oZ3];generalize (decide (bef (l.map (·.ID)) i < (l.map (·.ID)).getD i 0) && decide (1≤(l.map (·.ID)).getD i 0) && decide ((l.map (·.ID)).getD i 0≤1000))=q;cases q with
     | false=>simp
     | true=>
       simp only[Bool.not_true,Bool.not_false,if_true,oZ3,Bool.true_and];cases nm ((l.map (·.Name)).getD i [])with
       | false=>simp
       | true=>
         simp only[Bool.not_true,Bool.true_and,Bool.or_false,cond_false];unfold badM;cases record <;> cases (l.getD i dSMember).Critical <;> cases (l.getD i dSMember).HasDefault <;> cases ga1 (l.getD i dSMember).Default <;>
           simp only[Bool.not_true,Bool.not_false,Bool.or_self,Bool.and_self,Bool.or_true,Bool.true_or,Bool.and_true,Bool.and_false,Bool.false_and,Bool.true_and,Bool.false_or,Bool.or_false,cond_true,cond_false,if_true,if_false,Bool.false_eq_true,oZ3] <;>
           first
             | rfl
             | (cases hc:((l.map (·.Name)).take i).contains ((l.map (·.Name)).getD i [])with
               | true=>simp
               | false=>
                 simp only[Bool.false_eq_true,if_false,Bool.not_false,if_true];rw[gp (by omega),hbef]
                 try rfl))
   (by rw[g25,if_neg (by simp)])
 have e0:g25 (l,record,bef (l.map (·.ID)) 0,((0:Nat):Int))=g25 (l,record,0,0):=rfl;simp only[e0]at hsc;rw[g4u];rcases hsc with⟨h1,h2⟩ | ⟨h1,j,h2,h3⟩
 · rw[h1];refine⟨_,rfl,?_⟩;have h2':∀i,i < l.length→idp (l.map (·.ID)) (l.map (·.Name)) i=true∧badM (!record) (l.getD i dSMember)=false:=fun i hi=>by
     have:=h2 i hi
     simpa using this
   simp only[Bool.cond_eq_ite];constructor
   · intro h;split at h
     · rename_i h4;refine⟨fun i hi=>(h2' i hi).2,?_,fun i hi=>(h2' i hi).1,by simp at h4;omega⟩;cases record with
       | true=>exact .inl rfl
       | false=>right;simp at h;omega
     · cases h
   · rintro ⟨_,a,_,b⟩
     rw[if_pos (by simp;omega)];cases record with
     | true=>rfl
     | false=>simp at a ⊢;omega
 · rw[h1];refine⟨false,rfl,?_⟩;constructor
   · intro h;cases h
   · rintro ⟨a,_,b,_⟩
     have h5:=b j h2;have h6:=a j h2;rw[h5,h6]at h3;cases h3
theorem gq9{t:SType}(h:OkT t)(hk:t.Kind=5∨t.Kind=6) :∃r,g5x t=some r∧g4u (t.Members,decide (t.Kind=5))=some r:=by
 obtain⟨r,h1,h2⟩:=goj h;obtain⟨q,h3,h4⟩:=gwh (l:=t.Members) (record:=decide (t.Kind=5)) (g58 h.mems) h.dv;have hu:(!(decide (t.Kind=5)))=decide (t.Kind=6):=by
   rcases hk with e | e <;> rw[e] <;> rfl
 rw[hu]at h4;have e5:decide (t.Kind=5)=true↔t.Kind=5:=decide_eq_true_iff;rw[e5]at h4;have:r=q:=Bool.eq_iff_iff.2 (h2.trans h4.symm);exact⟨r,h1,by rw[this];exact h3⟩
end
section
open Go Go.Proofs.YtijpinendaoleaaGreat.Shv
set_option maxRecDepth 100000
theorem OkT.plain{k l h m kk e:Int}{n:List UInt8}{S:List SSymbol}{Ms:List SMember}{o:Bool}(hS:S.length*24≤reachBytes)(hM:Ms.length*24≤reachBytes)(hd:∀x,x∈Ms→OkV x.Default) :OkT ⟨k,n,l,h,m,S,Ms,kk,e,o⟩:=⟨hS,hM,hd⟩
theorem form1{N:List UInt8}{L H M K E:Int}{S:List SSymbol}{Ms:List SMember}{O:Bool}(h:OkT (⟨1,N,L,H,M,S,Ms,K,E,O⟩:SType)) :∃r,g1a (⟨1,N,L,H,M,S,Ms,K,E,O⟩:SType)=some r∧gz (⟨1,N,L,H,M,S,Ms,K,E,O⟩:SType)=some r∧(r=true→N=[]):=by
 obtain⟨a,a1,a2⟩:=g4w (a:=(⟨0,N,L,H,M,S,Ms,K,E,O⟩:SType)) ⟨h.syms,h.mems,h.dv⟩ (⟨0,[],0,0,0,[],[],0,0,false⟩:SType);obtain⟨b,b1,b2⟩:=g9p h (⟨1,[],0,0,0,[],[],0,0,false⟩:SType);have hab:a=b:=by
   refine Bool.eq_iff_iff.2 (a2.trans (Iff.trans ?_ b2.symm));simp only[SType.mk.injEq]
   try (simp)
 subst hab;refine⟨a,by simp[g1a,a1],by simp[gz,g2d,g1g,b1];try (cases a <;> rfl),fun hr=>?_⟩;have:=b2.1 hr;simp only[SType.mk.injEq]at this;exact this.2.1
theorem form2{N:List UInt8}{L H M K E:Int}{S:List SSymbol}{Ms:List SMember}{O:Bool}(h:OkT (⟨2,N,L,H,M,S,Ms,K,E,O⟩:SType)) :∃r,g1a (⟨2,N,L,H,M,S,Ms,K,E,O⟩:SType)=some r∧gz (⟨2,N,L,H,M,S,Ms,K,E,O⟩:SType)=some r∧(r=true→N=[]):=by
 obtain⟨a,a1,a2⟩:=g4w (a:=(⟨0,N,0,0,M,S,Ms,K,E,O⟩:SType)) ⟨h.syms,h.mems,h.dv⟩ (⟨0,[],0,0,0,[],[],0,0,false⟩:SType);obtain⟨b,b1,b2⟩:=g9p h (⟨2,[],L,H,0,[],[],0,0,false⟩:SType);have hab:a=b:=by
   refine Bool.eq_iff_iff.2 (a2.trans (Iff.trans ?_ b2.symm));simp only[SType.mk.injEq]
   try (simp)
 subst hab;refine⟨decide (L≤H) && a,?_,?_,fun hr=>?_⟩
 · simp only[g1a];generalize decide (L≤H)=q;simp[a1]
   try (cases q <;> rfl)
 · simp only[gz];generalize decide (L≤H)=q;simp[g2d,g1g,b1]
   try (cases a <;> cases q <;> rfl)
 · rw[Bool.and_eq_true]at hr;have:=b2.1 hr.2;simp only[SType.mk.injEq]at this;exact this.2.1
theorem form3{N:List UInt8}{L H M K E:Int}{S:List SSymbol}{Ms:List SMember}{O:Bool}(h:OkT (⟨3,N,L,H,M,S,Ms,K,E,O⟩:SType)) :∃r,g1a (⟨3,N,L,H,M,S,Ms,K,E,O⟩:SType)=some r∧gz (⟨3,N,L,H,M,S,Ms,K,E,O⟩:SType)=some r∧(r=true→N=[]):=by
 obtain⟨a,a1,a2⟩:=g4w (a:=(⟨0,N,L,H,0,S,Ms,K,E,O⟩:SType)) ⟨h.syms,h.mems,h.dv⟩ (⟨0,[],0,0,0,[],[],0,0,false⟩:SType);obtain⟨b,b1,b2⟩:=g9p h (⟨3,[],0,0,M,[],[],0,0,false⟩:SType);have hab:a=b:=by
   refine Bool.eq_iff_iff.2 (a2.trans (Iff.trans ?_ b2.symm));simp only[SType.mk.injEq]
   try (simp)
 subst hab;refine⟨(bif decide (0≤M)then decide (M≤200)else false) && a,?_,?_,fun hr=>?_⟩
 · simp only[g1a];generalize (bif decide (0≤M)then decide (M≤200)else false)=q;simp[a1]
   try (cases q <;> rfl)
 · simp only[gz];generalize (bif decide (0≤M)then decide (M≤200)else false)=q;simp[g2d,g1g,b1]
   try (cases a <;> cases q <;> rfl)
 · rw[Bool.and_eq_true]at hr;have:=b2.1 hr.2;simp only[SType.mk.injEq]at this;exact this.2.1
theorem form4{N:List UInt8}{L H M K E:Int}{S:List SSymbol}{Ms:List SMember}{O:Bool}(h:OkT (⟨4,N,L,H,M,S,Ms,K,E,O⟩:SType)) :∃r,g1a (⟨4,N,L,H,M,S,Ms,K,E,O⟩:SType)=some r∧gz (⟨4,N,L,H,M,S,Ms,K,E,O⟩:SType)=some r∧(r=true→N≠[]):=by
 obtain⟨a,a1,a2⟩:=g4w (a:=(⟨0,[],L,H,M,[],Ms,K,E,false⟩:SType)) ⟨(by simp),h.mems,h.dv⟩ (⟨0,[],0,0,0,[],[],0,0,false⟩:SType);obtain⟨b,b1,b2⟩:=g9p h (⟨4,N,0,0,0,S,[],0,0,O⟩:SType);have hab:a=b:=by
   refine Bool.eq_iff_iff.2 (a2.trans (Iff.trans ?_ b2.symm));simp only[SType.mk.injEq]
   try (cases O <;> simp)
 subst hab;obtain⟨q,q1,q2⟩:=gyo (l:=S) h.syms;refine⟨nm N && q && a,?_,?_,fun hr=>?_⟩
 · simp only[g1a];simp[a1,q1,lexNm]
   try (cases nm N <;> cases q <;> rfl)
 · simp only[gz]
   try simp at q2
   simp[g2d,g1g,b1,q2,refNm]
   try (cases a <;> cases nm N <;> cases q <;> rfl)
 · simp only[Bool.and_eq_true]at hr;exact nm_ne hr.1.1
theorem form5{N:List UInt8}{L H M K E:Int}{S:List SSymbol}{Ms:List SMember}{O:Bool}(h:OkT (⟨5,N,L,H,M,S,Ms,K,E,O⟩:SType)) :∃r,g1a (⟨5,N,L,H,M,S,Ms,K,E,O⟩:SType)=some r∧gz (⟨5,N,L,H,M,S,Ms,K,E,O⟩:SType)=some r∧(r=true→N≠[]):=by
 obtain⟨a,a1,a2⟩:=g4w (a:=(⟨0,[],L,H,M,S,[],K,E,(bif O then decide ((5:Int)=5)else false)⟩:SType)) ⟨h.syms,(by simp),(by simp)⟩ (⟨0,[],0,0,0,[],[],0,0,false⟩:SType);obtain⟨b,b1,b2⟩:=g9p h (⟨5,N,0,0,0,[],Ms,0,0,false⟩:SType);have hab:a=b:=by
   refine Bool.eq_iff_iff.2 (a2.trans (Iff.trans ?_ b2.symm));simp only[SType.mk.injEq]
   try (cases O <;> simp)
 subst hab;obtain⟨q,q1,q2⟩:=gq9 h (by simp);refine⟨nm N && q && a,?_,?_,fun hr=>?_⟩
 · simp only[g1a]
   try simp at a1
   try simp at q1
   simp[a1,q1,lexNm]
   try (cases nm N <;> cases q <;> rfl)
 · simp only[gz]
   try simp at q2
   simp[g2d,g1g,b1,q2,refNm]
   try (cases a <;> cases nm N <;> cases q <;> rfl)
 · simp only[Bool.and_eq_true]at hr;exact nm_ne hr.1.1
theorem form6{N:List UInt8}{L H M K E:Int}{S:List SSymbol}{Ms:List SMember}{O:Bool}(h:OkT (⟨6,N,L,H,M,S,Ms,K,E,O⟩:SType)) :∃r,g1a (⟨6,N,L,H,M,S,Ms,K,E,O⟩:SType)=some r∧gz (⟨6,N,L,H,M,S,Ms,K,E,O⟩:SType)=some r∧(r=true→N≠[]):=by
 obtain⟨a,a1,a2⟩:=g4w (a:=(⟨0,[],L,H,M,S,[],K,E,(bif O then decide ((6:Int)=5)else false)⟩:SType)) ⟨h.syms,(by simp),(by simp)⟩ (⟨0,[],0,0,0,[],[],0,0,false⟩:SType);obtain⟨b,b1,b2⟩:=g9p h (⟨6,N,0,0,0,[],Ms,0,0,O⟩:SType);have hab:a=b:=by
   refine Bool.eq_iff_iff.2 (a2.trans (Iff.trans ?_ b2.symm));simp only[SType.mk.injEq]
   try (cases O <;> simp)
 subst hab;obtain⟨q,q1,q2⟩:=gq9 h (by simp);refine⟨nm N && q && a,?_,?_,fun hr=>?_⟩
 · simp only[g1a]
   try simp at a1
   try simp at q1
   simp[a1,q1,lexNm]
   try (cases nm N <;> cases q <;> rfl)
 · simp only[gz]
   try simp at q2
   simp[g2d,g1g,b1,q2,refNm]
   try (cases a <;> cases nm N <;> cases q <;> rfl)
 · simp only[Bool.and_eq_true]at hr;exact nm_ne hr.1.1
theorem form7{N:List UInt8}{L H M K E:Int}{S:List SSymbol}{Ms:List SMember}{O:Bool}(h:OkT (⟨7,N,L,H,M,S,Ms,K,E,O⟩:SType)) :∃r,g1a (⟨7,N,L,H,M,S,Ms,K,E,O⟩:SType)=some r∧gz (⟨7,N,L,H,M,S,Ms,K,E,O⟩:SType)=some r∧(r=true→N=[]):=by
 obtain⟨a,a1,a2⟩:=g4w (a:=(⟨0,N,L,H,0,S,Ms,K,0,O⟩:SType)) ⟨h.syms,h.mems,h.dv⟩ (⟨0,[],0,0,0,[],[],0,0,false⟩:SType);obtain⟨b,b1,b2⟩:=g9p h (⟨7,[],0,0,M,[],[],0,E,false⟩:SType);have hab:a=b:=by
   refine Bool.eq_iff_iff.2 (a2.trans (Iff.trans ?_ b2.symm));simp only[SType.mk.injEq]
   try (simp)
 subst hab;refine⟨(bif decide (0≤M)then decide (M≤50)else false) && a,?_,?_,fun hr=>?_⟩
 · simp only[g1a];generalize (bif decide (0≤M)then decide (M≤50)else false)=q;simp[a1]
   try (cases q <;> rfl)
 · simp only[gz];generalize (bif decide (0≤M)then decide (M≤50)else false)=q;simp[g2d,g1g,b1]
   try (cases a <;> cases q <;> rfl)
 · rw[Bool.and_eq_true]at hr;have:=b2.1 hr.2;simp only[SType.mk.injEq]at this;exact this.2.1
theorem form8{N:List UInt8}{L H M K E:Int}{S:List SSymbol}{Ms:List SMember}{O:Bool}(h:OkT (⟨8,N,L,H,M,S,Ms,K,E,O⟩:SType)) :∃r,g1a (⟨8,N,L,H,M,S,Ms,K,E,O⟩:SType)=some r∧gz (⟨8,N,L,H,M,S,Ms,K,E,O⟩:SType)=some r∧(r=true→N=[]):=by
 obtain⟨a,a1,a2⟩:=g4w (a:=(⟨0,N,L,H,0,S,Ms,0,0,O⟩:SType)) ⟨h.syms,h.mems,h.dv⟩ (⟨0,[],0,0,0,[],[],0,0,false⟩:SType);obtain⟨b,b1,b2⟩:=g9p h (⟨8,[],0,0,M,[],[],K,E,false⟩:SType);have hab:a=b:=by
   refine Bool.eq_iff_iff.2 (a2.trans (Iff.trans ?_ b2.symm));simp only[SType.mk.injEq]
   try (simp)
 subst hab;refine⟨(bif decide (0≤M)then decide (M≤50)else false) && a,?_,?_,fun hr=>?_⟩
 · simp only[g1a];generalize (bif decide (0≤M)then decide (M≤50)else false)=q;simp[a1]
   try (cases q <;> rfl)
 · simp only[gz];generalize (bif decide (0≤M)then decide (M≤50)else false)=q;simp[g2d,g1g,b1]
   try (cases a <;> cases q <;> rfl)
 · rw[Bool.and_eq_true]at hr;have:=b2.1 hr.2;simp only[SType.mk.injEq]at this;exact this.2.1
theorem form9{N:List UInt8}{L H M K E:Int}{S:List SSymbol}{Ms:List SMember}{O:Bool}(h:OkT (⟨9,N,L,H,M,S,Ms,K,E,O⟩:SType)) :∃r,g1a (⟨9,N,L,H,M,S,Ms,K,E,O⟩:SType)=some r∧gz (⟨9,N,L,H,M,S,Ms,K,E,O⟩:SType)=some r∧(r=true→N=[]):=by
 obtain⟨a,a1,a2⟩:=g4w (a:=(⟨0,N,L,H,M,S,Ms,K,0,O⟩:SType)) ⟨h.syms,h.mems,h.dv⟩ (⟨0,[],0,0,0,[],[],0,0,false⟩:SType);obtain⟨b,b1,b2⟩:=g9p h (⟨9,[],0,0,0,[],[],0,E,false⟩:SType);have hab:a=b:=by
   refine Bool.eq_iff_iff.2 (a2.trans (Iff.trans ?_ b2.symm));simp only[SType.mk.injEq]
   try (simp)
 subst hab;refine⟨a,by simp[g1a,a1],by simp[gz,g2d,g1g,b1];try (cases a <;> rfl),fun hr=>?_⟩;have:=b2.1 hr;simp only[SType.mk.injEq]at this;exact this.2.1
end
section
open Go Go.Proofs.YtijpinendaoleaaGreat.Shv
set_option maxRecDepth 100000
def g71(k:Int) :Bool:=bif bif decide (k=4)then true else decide (k=5)then true else decide (k=6)
theorem gkq{t:SType}(h:OkT t) :∃r,g1a t=some r∧gz t=some r∧(r=true→1≤t.Kind∧t.Kind≤9∧g71 t.Kind=!(decide (t.Name=[]))):=by
 by_cases hk:1≤t.Kind∧t.Kind≤9
 · obtain⟨Kd,N,L,H,M,S,Ms,K,E,O⟩:=t;simp only at hk;have:Kd=1∨Kd=2∨Kd=3∨Kd=4∨Kd=5∨Kd=6∨Kd=7∨Kd=8∨Kd=9:=by omega
   rcases this with rfl | rfl | rfl | rfl | rfl | rfl | rfl | rfl | rfl
   · obtain⟨r,h1,h2,h3⟩:=form1 h;exact⟨r,h1,h2,fun hr=>⟨hk.1,hk.2,by simp[g71,h3 hr]⟩⟩
   · obtain⟨r,h1,h2,h3⟩:=form2 h;exact⟨r,h1,h2,fun hr=>⟨hk.1,hk.2,by simp[g71,h3 hr]⟩⟩
   · obtain⟨r,h1,h2,h3⟩:=form3 h;exact⟨r,h1,h2,fun hr=>⟨hk.1,hk.2,by simp[g71,h3 hr]⟩⟩
   · obtain⟨r,h1,h2,h3⟩:=form4 h;exact⟨r,h1,h2,fun hr=>⟨hk.1,hk.2,by simp[g71,h3 hr]⟩⟩
   · obtain⟨r,h1,h2,h3⟩:=form5 h;exact⟨r,h1,h2,fun hr=>⟨hk.1,hk.2,by simp[g71,h3 hr]⟩⟩
   · obtain⟨r,h1,h2,h3⟩:=form6 h;exact⟨r,h1,h2,fun hr=>⟨hk.1,hk.2,by simp[g71,h3 hr]⟩⟩
   · obtain⟨r,h1,h2,h3⟩:=form7 h;exact⟨r,h1,h2,fun hr=>⟨hk.1,hk.2,by simp[g71,h3 hr]⟩⟩
   · obtain⟨r,h1,h2,h3⟩:=form8 h;exact⟨r,h1,h2,fun hr=>⟨hk.1,hk.2,by simp[g71,h3 hr]⟩⟩
   · obtain⟨r,h1,h2,h3⟩:=form9 h;exact⟨r,h1,h2,fun hr=>⟨hk.1,hk.2,by simp[g71,h3 hr]⟩⟩
 · refine⟨false,?_,?_,fun h=>by cases h⟩
   · have e:∀k:Int,1≤k→k≤9→¬t.Kind=k:=fun k h1 h2 e=>hk (by omega)
     simp[g1a,e 1,e 2,e 3,e 4,e 5,e 6,e 7,e 8,e 9]
   · have e:(bif decide (t.Kind < 1)then true else decide (9 < t.Kind))=true:=by
       by_cases h1:t.Kind < 1
       · simp[h1]
       · simp[h1];omega
     rw[gz,e];rfl
def usesL(t:SType) :List Int:=t.Members.map (·.Type_)++(if t.Kind=8 then[t.Key]else[])++(if 7≤t.Kind then[t.Elem]else[])
theorem gcn{k n:Nat}(hk:k≤16){m:Nat}(h:m*24≤reachBytes)(hn:n≤m+2) :room k n=true:=by
 unfold room g4l g1f;unfold reachBytes at h;simp only[Bool.and_eq_true,decide_eq_true_eq];have:(2*n+192)*k≤(2*n+192)*16:=Nat.mul_le_mul_left _ hk;omega
theorem gok(t:SType)(h:t.Members.length*24≤reachBytes) :∀(k i:Nat),i+k=t.Members.length→g5b (t.Members,(t.Members.length:Int),(i:Int),t,(t.Members.map (·.Type_)).take i)=some (t,t.Members.map (·.Type_))
 | 0,i,hi=>by
   rw[g5b,if_neg (by simp;omega),List.take_of_length_le (by simp;omega)]
 | k+1,i,hi=>by
   have hr:=g1e (g58 h);have hlt:i < t.Members.length:=by omega
   rw[g5b,if_pos (by simp;omega),if_pos (g6 hlt)];simp only[oZ4,oZ3,g7];rw[←g2b (·.Type_) t.Members i dSMember 0 hlt,gaj _ _ _ (by simpa using hlt),gp (by omega),if_pos (gcn (m:=t.Members.length) (by omega) h (by simp;omega))];exact gok t h k (i+1) (by omega)
theorem g11h{t:SType}(h:t.Members.length*24≤reachBytes) :gc4 t=some (usesL t):=by
 have h0:=gok t h t.Members.length 0 (by omega);have h0':g5b (t.Members,(t.Members.length:Int),0,t,[])=some (t,t.Members.map (·.Type_)):=h0;rw[gc4,h0'];unfold usesL;simp only[oZ4,oZ3];have r1:room 8 (t.Members.map (·.Type_)++[t.Key]).length=true:=gcn (m:=t.Members.length) (by omega) h (by simp)
 have r2:room 8 (t.Members.map (·.Type_)++[t.Key]++[t.Elem]).length=true:=gcn (m:=t.Members.length) (by omega) h (by simp);have r3:room 8 (t.Members.map (·.Type_)++[t.Elem]).length=true:=gcn (m:=t.Members.length) (by omega) h (by simp);by_cases h8:t.Kind=8
 · have h7:7≤t.Kind:=by omega
   rw[if_pos (by simp[h8]),if_pos r1,if_pos (by simp[h7]),if_pos r2,if_pos h8,if_pos h7]
 · rw[if_neg (by simp[h8]),if_neg h8];by_cases h7:7≤t.Kind
   · rw[if_pos (by simp[h7]),if_pos r3,if_pos h7];simp
   · rw[if_neg (by simp[h7]),if_neg h7];simp
theorem gol(t:SType)(h:t.Members.length*24≤reachBytes) :∀(k i:Nat),i+k=t.Members.length→g36 ((i:Int),t,(t.Members.map (·.Type_)).take i)=some (t,t.Members.map (·.Type_))
 | 0,i,hi=>by
   rw[g36,if_neg (by simp;omega),List.take_of_length_le (by simp;omega)]
 | k+1,i,hi=>by
   have hr:=g1e (g58 h);have hlt:i < t.Members.length:=by omega
   rw[g36,if_pos (by simp;omega),if_pos (g6 hlt)];simp only[oZ4,oZ3,g7];rw[←g2b (·.Type_) t.Members i dSMember 0 hlt,gaj _ _ _ (by simpa using hlt),gp (by omega),if_pos (gcn (m:=t.Members.length) (by omega) h (by simp;omega))];exact gol t h k (i+1) (by omega)
theorem g11i{t:SType}(h:t.Members.length*24≤reachBytes)(hk:t.Kind≤9) :g8e t=some (usesL t):=by
 have h0:=gol t h t.Members.length 0 (by omega);have h0':g36 (0,t,[])=some (t,t.Members.map (·.Type_)):=h0;rw[g8e,h0'];unfold usesL;simp only[oZ4,oZ3];have r1:room 8 (t.Members.map (·.Type_)++[t.Key]).length=true:=gcn (m:=t.Members.length) (by omega) h (by simp)
 have r2:room 8 (t.Members.map (·.Type_)++[t.Key]++[t.Elem]).length=true:=gcn (m:=t.Members.length) (by omega) h (by simp);have r3:room 8 (t.Members.map (·.Type_)++[t.Elem]).length=true:=gcn (m:=t.Members.length) (by omega) h (by simp);by_cases h8:t.Kind=8
 · have h7:7≤t.Kind:=by omega
   rw[if_pos (by simp[h8]),if_pos r1,if_pos (by simp[h8]),if_pos r2,if_pos h8,if_pos h7]
 · rw[if_neg (by simp[h8]),if_neg h8];by_cases h7:7≤t.Kind
   · have:t.Kind=7∨t.Kind=9:=by omega
     rw[if_pos (by rcases this with e | e <;> simp[e]),if_pos r3,if_pos h7];simp
   · have e7:¬t.Kind=7:=by omega
     have e9:¬t.Kind=9:=by omega
     rw[if_neg (by simp[h8,e7,e9]),if_neg h7];simp
theorem g11j(k:Int) :g1g k=some (g71 k):=rfl
def keyB(k:Int) :Bool:=bif decide (1≤k)then decide (k≤4)else false
def outB(n:Nat)(u:Int) :Bool:=bif decide (u < 0)then true else decide ((n:Int)≤u)
def stepV(ts:List SType)(i:Nat) :Option Int:=
 let t:=ts.getD i dSType
 if !((g1a t).getD false)then some 1
 else if !(decide (t.Name=[])) && ((ts.map (·.Name)).take i).contains t.Name then some 1
 else if(usesL t).any (outB ts.length)then some 4
 else if decide (t.Kind=8) && !(keyB (ts.getD t.Key.toNat dSType).Kind)then some 1
 else none
theorem gih {ts : List SType} {i : Nat} {t : SType} {r : Bool} (hT : ts.getD i dSType = t) (f1 : g1a t = some r) :
   stepV ts i=if(!r)=true then some 1 else if(!(decide (t.Name=[])) && ((ts.map (·.Name)).take i).contains t.Name)=true then some 1 else if(usesL t).any (outB ts.length)=true then some 4 else if(decide (t.Kind=8) && !(keyB (ts.getD t.Key.toNat dSType).Kind))=true then some 1 else none:=by
 subst hT;unfold stepV;simp only[f1,Option.getD_some]
theorem gsm {γ : Type} (L : Nat → Option γ) (l : List Int) (q : Int → Bool) (bad good : γ) (hstep : ∀ i, i < l.length → L i = if q (l.getD i 0) = true then some bad else L (i + 1)) (hend : L l.length = some good) :
   L 0=some (if l.any q=true then bad else good):=by
 have:=scan L l.length (fun i=>!(q (l.getD i 0))) bad good (fun i hi=>by
   rw[hstep i hi];cases q (l.getD i 0) <;> rfl) hend
 rcases this with⟨h1,h2⟩ | ⟨h1,j,h2,h3⟩
 · rw[h1,if_neg];intro h;rw[List.any_eq_true]at h;obtain⟨x,hx,hq⟩:=h;obtain⟨j,hj,he⟩:=List.getElem_of_mem hx;have:=h2 j hj;rw[gk hj,he,hq]at this;cases this
 · rw[h1,if_pos];rw[List.any_eq_true];refine⟨l.getD j 0,gg h2 0,by simpa using h3⟩
theorem gqa{t:SType}(h:t.Members.length*24≤reachBytes) :(usesL t).length < 9223372036854775807:=by
 unfold usesL reachBytes at*;simp only[List.length_append,List.length_map];split <;> split <;> simp <;> omega
theorem g14l {L : Nat → Option (Int ⊕ Unit)} {L' : Nat → Option (Int ⊕ Unit)} {n : Nat} {step : Nat → Option Int}
   (h:∀i,i < n→L i=match step i with | some e=>some (.inl e) | none=>L (i+1)) (he:L n=some (.inr ()))
   (h':∀i,i < n→L' i=match step i with | some e=>some (.inl e) | none=>L' (i+1)) (he':L' n=some (.inr ())):∃o,L 0=some o∧L' 0=some o∧((o= .inr ()∧∀i,i < n→step i=none)∨∃i e,i < n∧step i=some e∧o= .inl e):=by
 have key:∀k i,i+k=n→∃o,L i=some o∧L' i=some o∧((o= .inr ()∧∀m,i≤m→m < n→step m=none)∨∃m e,m < n∧step m=some e∧o= .inl e):=by
   intro k
   induction k with
   | zero => intro i hi; have : i = n := by omega
             subst this;exact⟨_,he,he',.inl ⟨rfl,fun m h1 h2=>by omega⟩⟩
   | succ k ih=>
     intro i hi;rw[h i (by omega),h' i (by omega)];cases hst:step i with
     | some e=>exact⟨_,rfl,rfl,.inr ⟨i,e,by omega,hst,rfl⟩⟩
     | none=>
       obtain⟨o,o1,o2,o3⟩:=ih (i+1) (by omega);refine⟨o,o1,o2,?_⟩;rcases o3 with⟨a,b⟩ | h
       · refine .inl ⟨a,fun m h1 h2=>?_⟩;rcases Nat.lt_or_ge i m with h | h
         · exact b m h h2
         · have:m=i:=by omega
           subst this;exact hst
       · exact .inr h
 obtain⟨o,o1,o2,o3⟩:=key n 0 (by omega);refine⟨o,o1,o2,?_⟩;rcases o3 with⟨a,b⟩ | h
 · exact .inl ⟨a,fun i hi=>b i (Nat.zero_le _) hi⟩
 · exact .inr h
theorem gyr{ts:List SType}{t:SType}(hu:(usesL t).any (outB ts.length)=false)(h8:t.Kind=8) :inR t.Key ts.length=true:=by
 have hm:t.Key∈usesL t:=by unfold usesL;simp[h8]
 rw[List.any_eq_false]at hu;have:=hu _ hm;unfold outB at this;unfold inR;simp only[Bool.and_eq_true,decide_eq_true_eq];by_cases h1:t.Key < 0
 · simp[h1]at this
 · simp[h1]at this;omega
theorem g14m (ts : List SType) (t : SType) (i : Nat) (hi : i < ts.length) (hr : ts.length < 9223372036854775807) :
   g1r ((i:Int),0,ts,t.Kind,t.Name,t.Low,t.High,t.Max,t.Symbols,t.Members,t.Key,t.Elem,t.Open)=some (if(g71 t.Kind && ((ts.map (·.Name)).take i).contains t.Name)=true then .inl 1 else .inr ((i:Int),ts,t.Kind,t.Name,t.Low,t.High,t.Max,t.Symbols,t.Members,t.Key,t.Elem,t.Open)):=by
 have hsc:=scan (fun k=>g1r ((i:Int),(k:Int),ts,t.Kind,t.Name,t.Low,t.High,t.Max,t.Symbols,t.Members,t.Key,t.Elem,t.Open)) i (fun k=>!(bif g71 t.Kind then decide ((ts.getD k dSType).Name=t.Name)else false)) (.inl 1) (.inr ((i:Int),ts,t.Kind,t.Name,t.Low,t.High,t.Max,t.Symbols,t.Members,t.Key,t.Elem,t.Open))
   (fun k hk=>by
     rw[g1r,if_pos (by simp;omega),g11j];simp only[oZ4,oZ3];rw[if_pos (by rw[g6 (show k < ts.length by omega)];rfl),gp (by omega),g7]
     cases (bif g71 t.Kind then decide ((ts.getD k dSType).Name=t.Name)else false) <;> rfl)
   (by rw[g1r,if_neg (by simp)])
 have e0:g1r ((i:Int),((0:Nat):Int),ts,t.Kind,t.Name,t.Low,t.High,t.Max,t.Symbols,t.Members,t.Key,t.Elem,t.Open)=g1r ((i:Int),0,ts,t.Kind,t.Name,t.Low,t.High,t.Max,t.Symbols,t.Members,t.Key,t.Elem,t.Open):=rfl;simp only[e0]at hsc;rcases hsc with⟨h1,h2⟩ | ⟨h1,j,h2,h3⟩
 · rw[h1,if_neg];rw[Bool.and_eq_true,g54 (by simp;omega)]
   rintro ⟨hn,k,hk,he⟩
   rw[g2b (·.Name) ts k dSType [] (by omega)]at he;have:=h2 k hk;rw[hn,he]at this;simp at this
 · rw[h1,if_pos];rw[Bool.and_eq_true,g54 (by simp;omega)];cases hn:g71 t.Kind with
   | false=>rw[hn]at h3;cases h3
   | true=>
     refine⟨rfl,j,h2,?_⟩;rw[g2b (·.Name) ts j dSType [] (by omega)];rw[hn]at h3
     simpa using h3
theorem g14n (ts : List SType) (t : SType) (i : Nat) (l : List Int) (hl : l.length < 9223372036854775807) :
   g2k ((i:Int),l,0,ts,t.Kind,t.Name,t.Low,t.High,t.Max,t.Symbols,t.Members,t.Key,t.Elem,t.Open)=some (if l.any (outB ts.length)=true then .inl 4 else .inr ((i:Int),ts,t.Kind,t.Name,t.Low,t.High,t.Max,t.Symbols,t.Members,t.Key,t.Elem,t.Open)):=
 gsm (fun j=>g2k ((i:Int),l,(j:Int),ts,t.Kind,t.Name,t.Low,t.High,t.Max,t.Symbols,t.Members,t.Key,t.Elem,t.Open)) l (outB ts.length) (.inl 4) (.inr ((i:Int),ts,t.Kind,t.Name,t.Low,t.High,t.Max,t.Symbols,t.Members,t.Key,t.Elem,t.Open))
   (fun j hj=>by
     rw[g2k,if_pos (by simp;omega),if_pos (g6 hj)];simp only[oZ4,oZ3];rw[if_pos (by rw[g6 hj];rfl),gp (by omega)]
     rfl)
   (by rw[g2k,if_neg (by simp)])
theorem gom{s:SSchema}(hs:s.Types.length≤reachBytes)(ht:∀t,t∈s.Types→OkT t) :∃e,g6y s=some e∧g5l s=some e∧(e=0→s.Types.length≤32∧∀i,i < s.Types.length→stepV s.Types i=none)∧((s.Types.length≤32∧∀i,i < s.Types.length→stepV s.Types i=none)→e=0):=by
 rw[g6y,g5l];by_cases h32:32 < s.Types.length
 · exact⟨3,by rw[if_pos (by simp;omega)],by rw[if_pos (by simp;omega)],fun h=>(by cases h),fun h=>absurd h.1 (by omega)⟩
 · rw[if_neg (by simp;omega),if_neg (by simp;omega)];have hr:s.Types.length < 9223372036854775807:=by omega
   have:=g14l (L:=fun i=>g4t (s.Types,(s.Types.length:Int),(i:Int),s.Types,setOf ((s.Types.map (·.Name)).take i))) (L':=fun i=>g2f ((i:Int),s.Types)) (n:=s.Types.length) (step:=stepV s.Types)
     (fun i hi=>by
       have hok:=ht _ (gg hi dSType);obtain⟨r,f1,f2,f3⟩:=gkq hok;rw[g4t,if_pos (by simp;omega),if_pos (g6 hi)];simp only[oZ4,oZ3,g7];generalize hT:s.Types.getD i dSType=t at*;rw[gih hT f1,f1];simp only[oZ3,gog];cases r with
       | false=>rw[if_pos (show(bif (!false)then true else bif (!(decide (t.Name=[])))then((s.Types.map (·.Name)).take i).contains t.Name else false)=true from rfl),if_pos (show(!false)=true from rfl)]
       | true=>
         rw[if_neg (show ¬((!true)=true) by simp)];by_cases hd:(!(decide (t.Name=[])) && ((s.Types.map (·.Name)).take i).contains t.Name)=true
         · have hd':(bif (!(decide (t.Name=[])))then((s.Types.map (·.Name)).take i).contains t.Name else false)=true:=by
             simp only[Bool.and_eq_true]at hd;rw[hd.1,hd.2];rfl
           rw[if_pos (show(bif (!true)then true else bif (!(decide (t.Name=[])))then((s.Types.map (·.Name)).take i).contains t.Name else false)=true from hd'),if_pos hd]
         · have hd':¬((bif (!(decide (t.Name=[])))then((s.Types.map (·.Name)).take i).contains t.Name else false)=true):=by
             intro hc;apply hd;cases h1:(!(decide (t.Name=[])))with
             | true=>rw[h1]at hc;simpa using hc
             | false=>rw[h1]at hc;cases hc
           rw[if_neg (show ¬((bif (!true)then true else bif (!(decide (t.Name=[])))then((s.Types.map (·.Name)).take i).contains t.Name else false)=true)from hd'),if_neg hd,g11h hok.mems];simp only[oZ3];have hul:=gqa hok.mems
           have hin:=gsm (fun j=>g38 (s.Types,(s.Types.length:Int),(i:Int),usesL t,((usesL t).length:Int),(j:Int),s.Types,addS (setOf ((s.Types.map (·.Name)).take i)) t.Name,t.Kind,t.Name,t.Low,t.High,t.Max,t.Symbols,t.Members,t.Key,t.Elem,t.Open)) (usesL t) (outB s.Types.length) (.inl 4)
             (.inr (s.Types,(s.Types.length:Int),(i:Int),s.Types,addS (setOf ((s.Types.map (·.Name)).take i)) t.Name,t.Kind,t.Name,t.Low,t.High,t.Max,t.Symbols,t.Members,t.Key,t.Elem,t.Open))
             (fun j hj=>by
               rw[g38,if_pos (by simp;omega),if_pos (g6 hj),gp (by omega)]
               rfl)
             (by rw[g38,if_neg (by simp)])
           have e0:g38 (s.Types,(s.Types.length:Int),(i:Int),usesL t,((usesL t).length:Int),((0:Nat):Int),s.Types,addS (setOf ((s.Types.map (·.Name)).take i)) t.Name,t.Kind,t.Name,t.Low,t.High,t.Max,t.Symbols,t.Members,t.Key,t.Elem,t.Open)=g38 (s.Types,(s.Types.length:Int),(i:Int),usesL t,((usesL t).length:Int),0,s.Types,addS (setOf ((s.Types.map (·.Name)).take i)) t.Name,t.Kind,t.Name,t.Low,t.High,t.Max,t.Symbols,t.Members,t.Key,t.Elem,t.Open):=rfl
           rw[←e0,hin];cases hu:(usesL t).any (outB s.Types.length)with
           | true=>rfl
           | false=>
             simp only[Bool.false_eq_true,if_false,oZ3];have hsucc:addS (setOf ((s.Types.map (·.Name)).take i)) t.Name=setOf ((s.Types.map (·.Name)).take (i+1)):=by
               have h1:=goh (l:=s.Types.map (·.Name)) (i:=i) (by simpa using hi);rw[g2b (·.Name) s.Types i dSType [] hi,hT]at h1;exact h1
             rw[hsucc,gp (by omega)];by_cases h8:t.Kind=8
             · have hk:=gyr hu h8;rw[if_pos (by rw[hk];rfl),if_pos (by rw[hk];rfl)];simp only[h8,decide_true,cond_true,Bool.true_and,keyB];generalize (s.Types.getD t.Key.toNat dSType).Kind=k;by_cases q1:k < 1
               · rw[if_pos (by simp[q1]),if_pos (by simp;omega)]
               · by_cases q2:4 < k
                 · rw[if_pos (by simp[q1,q2]),if_pos (by simp;omega)]
                 · rw[if_neg (by simp[q1,q2]),if_neg (by simp;omega)]
             · have e8:decide (t.Kind=8)=false:=by simp[h8]
               simp only[e8,Bool.not_false,Bool.or_true,if_true,Bool.false_and,cond_false,Bool.false_eq_true,if_false])
     (by rw[g4t,if_neg (by simp)])
     (fun i hi=>by
       have hok:=ht _ (gg hi dSType);obtain⟨r,f1,f2,f3⟩:=gkq hok;rw[g2f,if_pos (by simp;omega),if_pos (g6 hi)];simp only[oZ4,oZ3,g7];generalize hT:s.Types.getD i dSType=t at*;rw[gih hT f1,f2,g14m s.Types t i hi hr];simp only[oZ3];cases r with
       | false=>rfl
       | true=>
         obtain⟨k1,k2,k3⟩:=f3 rfl;rw[if_neg (show ¬((!true)=true) by simp),if_neg (show ¬((!true)=true) by simp),k3];cases hd:(!(decide (t.Name=[])) && ((s.Types.map (·.Name)).take i).contains t.Name)with
         | true=>rfl
         | false=>
           simp only[Bool.false_eq_true,if_false,gig];rw[g11i hok.mems k2];simp only[oZ3];rw[g14n s.Types t i (usesL t) (gqa hok.mems)];cases hu:(usesL t).any (outB s.Types.length)with
           | true=>rfl
           | false=>
             simp only[Bool.false_eq_true,if_false,oZ3];rw[gp (by omega)];by_cases h8:t.Kind=8
             · have hk:=gyr hu h8;rw[if_pos (by rw[hk];rfl)];simp only[h8,decide_true,if_true,g5r,oZ3,cond_true,Bool.true_and];show(if(!(keyB (s.Types.getD t.Key.toNat dSType).Kind))=true then some (.inl 1)else g2f (((i+1:Nat):Int),s.Types))=_;cases keyB (s.Types.getD t.Key.toNat dSType).Kind <;> rfl
             · have e8:decide (t.Kind=8)=false:=by simp[h8]
               rw[e8]
               simp only[Bool.not_false,Bool.or_true,if_true,Bool.false_and,cond_false,Bool.false_eq_true,if_false,oZ3])
     (by rw[g2f,if_neg (by simp)])
   obtain⟨o,h1,h2,h3⟩:=this;have h1':g4t (s.Types,(s.Types.length:Int),0,s.Types,[])=some o:=h1;have h2':g2f (0,s.Types)=some o:=h2;rw[h1',h2'];rcases h3 with⟨rfl,h4⟩ | ⟨i,e,h4,h5,rfl⟩
   · exact⟨_,rfl,rfl,fun _=>⟨by omega,h4⟩,fun _=>rfl⟩
   · refine⟨_,rfl,rfl,fun h0=>?_,fun h=>by have:=h.2 i h4;rw[h5]at this;cases this⟩
     exfalso
     subst h0;unfold stepV at h5;simp only at h5;split at h5
     · cases h5
     · split at h5
       · cases h5
       · split at h5
         · cases h5
         · split at h5 <;> cases h5
theorem gwi{s:SSchema}(hs:s.Types.length≤reachBytes)(ht:∀t,t∈s.Types→OkT t) :∃e,g6y s=some e∧g5l s=some e∧(e=0→s.Types.length≤32∧∀i,i < s.Types.length→stepV s.Types i=none):=by
 obtain⟨e,h1,h2,h3,_⟩:=gom hs ht;exact⟨e,h1,h2,h3⟩
theorem gwj{ts:List SType}(hT:∀t,t∈ts→OkT t)(hv:∀i,i < ts.length→stepV ts i=none) :∀t,t∈ts→1≤t.Kind∧t.Kind≤9:=by
 intro t ht;obtain⟨i,hi,he⟩:=List.getElem_of_mem ht;have hg:ts.getD i dSType=t:=by rw[gk hi];exact he
 obtain⟨r,f1,_,f3⟩:=gkq (hT t ht);have h:=hv i hi;rw[gih hg f1]at h;cases r with
 | false=>rw[if_pos (show(!false)=true from rfl)]at h;cases h
 | true=>exact⟨(f3 rfl).1,(f3 rfl).2.1⟩
end
section
open Go Go.Proofs.YtijpinendaoleaaGreat.Shv
set_option maxRecDepth 100000
theorem g89 {γ : Type} (L : Nat → Option γ) (n : Nat) (q : Nat → Bool) (hit : Nat → γ) (miss : γ) (hstep : ∀ i, i < n → L i = if q i = true then some (hit i) else L (i + 1)) (hend : L n = some miss) :
   (∃j,j < n∧q j=true∧(∀k,k < j→q k=false)∧L 0=some (hit j))∨((∀k,k < n→q k=false)∧L 0=some miss):=by
 have key:∀k i,i+k=n→(∀m,m < i→q m=false)→L 0=L i→(∃j,j < n∧q j=true∧(∀k,k < j→q k=false)∧L 0=some (hit j))∨((∀k,k < n→q k=false)∧L 0=some miss):=by
   intro k
   induction k with
   | zero => intro i hi hm h0; have : i = n := by omega
             subst this;exact .inr ⟨hm,by rw[h0,hend]⟩
   | succ k ih=>
     intro i hi hm h0;rw[hstep i (by omega)]at h0;cases hq:q i with
     | true=>rw[hq,if_pos rfl]at h0;exact .inl ⟨i,by omega,hq,hm,h0⟩
     | false=>
       rw[hq,if_neg (by simp)]at h0;refine ih (i+1) (by omega) (fun m hm'=>?_) h0;rcases Nat.lt_or_ge m i with h | h
       · exact hm m h
       · have:m=i:=by omega
         subst this;exact hq
 exact key n 0 (by omega) (fun m hm=>by omega) rfl
def ghb(l:List SMember)(id:Int)(r:Int × Bool) :Prop:=(∃j:Nat,j < l.length∧(l.getD j dSMember).ID=id∧(∀k,k < j→(l.getD k dSMember).ID≠id)∧r=((j:Int),true))∨((∀k,k < l.length→(l.getD k dSMember).ID≠id)∧r=(0,false))
theorem gtu{l:List SMember}{id:Int}{r q:Int × Bool}(h1:ghb l id r)(h2:ghb l id q) :r=q:=by
 rcases h1 with⟨j,a1,a2,a3,rfl⟩ | ⟨a1,rfl⟩ <;> rcases h2 with⟨k,b1,b2,b3,rfl⟩ | ⟨b1,rfl⟩
 · have:j=k:=by
     rcases Nat.lt_trichotomy j k with h | h | h
     · exact absurd a2 (b3 j h)
     · exact h
     · exact absurd b2 (a3 k h)
   rw[this]
 · exact absurd a2 (b1 j a1)
 · exact absurd b2 (a1 k b1)
 · rfl
theorem ghc{t:SType}{id:Int}(hl:t.Members.length < 9223372036854775807) :∃r,g3b (t,id)=some r∧ghb t.Members id r:=by
 rw[g3b,g3w];have h:=g89 (fun i=>gu (t.Members,(t.Members.length:Int),(i:Int),id)) t.Members.length (fun i=>decide ((t.Members.getD i dSMember).ID=id)) (fun i=>.inl ((i:Int),id)) (.inr id)
   (fun i hi=>by
     rw[gu,if_pos (by simp;omega),if_pos (g6 hi)];simp only[oZ4,oZ3,g7,g9o,gb4]
     rw[gp (by omega)])
   (by rw[gu,if_neg (by simp)])
 have e0:gu (t.Members,(t.Members.length:Int),((0:Nat):Int),id)=gu (t.Members,(t.Members.length:Int),0,id):=rfl;simp only[e0]at h;rcases h with⟨j,h1,h2,h3,h4⟩ | ⟨h1,h4⟩
 · rw[h4];refine⟨((j:Int),true),?_,.inl ⟨j,h1,by simpa using h2,fun k hk=>by simpa using h3 k hk,rfl⟩⟩;have e1:maxI (j:Int) 0=(j:Int):=by unfold maxI;omega
   have e2:decide ((0:Int)≤(j:Int))=true:=by simp
   simp only[oZ4,oZ3,e1,e2]
 · rw[h4];exact⟨(0,false),rfl,.inr ⟨fun k hk=>by simpa using h1 k hk,rfl⟩⟩
theorem ghd{t:SType}{id:Int}(hl:t.Members.length < 9223372036854775807) :∃r,g1c (t,id)=some r∧ghb t.Members id r:=by
 rw[g1c];have h:=g89 (fun i=>g2a (id,(i:Int),t)) t.Members.length (fun i=>decide ((t.Members.getD i dSMember).ID=id)) (fun i=>.inl ((i:Int),true)) (.inr ())
   (fun i hi=>by
     rw[g2a,if_pos (by simp;omega),if_pos (g6 hi),gp (by omega)]
     simp only[g7])
   (by rw[g2a,if_neg (by simp)])
 have e0:g2a (id,((0:Nat):Int),t)=g2a (id,0,t):=rfl;simp only[e0]at h;rcases h with⟨j,h1,h2,h3,h4⟩ | ⟨h1,h4⟩
 · rw[h4];exact⟨((j:Int),true),rfl,.inl ⟨j,h1,by simpa using h2,fun k hk=>by simpa using h3 k hk,rfl⟩⟩
 · rw[h4];exact⟨(0,false),rfl,.inr ⟨fun k hk=>by simpa using h1 k hk,rfl⟩⟩
theorem g6m{t:SType}(id:Int)(hl:t.Members.length < 9223372036854775807) :∃r,g3b (t,id)=some r∧g1c (t,id)=some r∧ghb t.Members id r:=by
 obtain⟨r,h1,h2⟩:=ghc (id:=id) hl;obtain⟨q,h3,h4⟩:=ghd (id:=id) hl;have:=gtu h2 h4;subst this;exact⟨r,h1,h3,h2⟩
def ghe(l:List SSymbol)(id:Int)(r:Int × Bool) :Prop:=(∃j:Nat,j < l.length∧(l.getD j dSSymbol).ID=id∧(∀k,k < j→(l.getD k dSSymbol).ID≠id)∧r=((j:Int),true))∨((∀k,k < l.length→(l.getD k dSSymbol).ID≠id)∧r=(0,false))
theorem gtv{l:List SSymbol}{id:Int}{r q:Int × Bool}(h1:ghe l id r)(h2:ghe l id q) :r=q:=by
 rcases h1 with⟨j,a1,a2,a3,rfl⟩ | ⟨a1,rfl⟩ <;> rcases h2 with⟨k,b1,b2,b3,rfl⟩ | ⟨b1,rfl⟩
 · have:j=k:=by
     rcases Nat.lt_trichotomy j k with h | h | h
     · exact absurd a2 (b3 j h)
     · exact h
     · exact absurd b2 (a3 k h)
   rw[this]
 · exact absurd a2 (b1 j a1)
 · exact absurd b2 (a1 k b1)
 · rfl
theorem ga2{t:SType}(id:Int)(hl:t.Symbols.length < 9223372036854775807) :∃r,g8n (t,id)=some r∧g3j (t,id)=some r∧ghe t.Symbols id r:=by
 rw[g8n,g3v,g3j];have h:=g89 (fun i=>gq (t.Symbols,(t.Symbols.length:Int),(i:Int),id)) t.Symbols.length (fun i=>decide ((t.Symbols.getD i dSSymbol).ID=id)) (fun i=>.inl ((i:Int),id)) (.inr id)
   (fun i hi=>by
     rw[gq,if_pos (by simp;omega),if_pos (g6 hi)];simp only[oZ4,oZ3,g7,gb3]
     rw[gp (by omega)])
   (by rw[gq,if_neg (by simp)])
 have e0:gq (t.Symbols,(t.Symbols.length:Int),((0:Nat):Int),id)=gq (t.Symbols,(t.Symbols.length:Int),0,id):=rfl;have g:=g89 (fun i=>g1x (id,(i:Int),t)) t.Symbols.length (fun i=>decide ((t.Symbols.getD i dSSymbol).ID=id)) (fun i=>.inl ((i:Int),true)) (.inr ())
   (fun i hi=>by
     rw[g1x,if_pos (by simp;omega),if_pos (g6 hi),gp (by omega)]
     simp only[g7])
   (by rw[g1x,if_neg (by simp)])
 have g0:g1x (id,((0:Nat):Int),t)=g1x (id,0,t):=rfl;simp only[e0]at h;simp only[g0]at g;have hA:∃r,(gq (t.Symbols,(t.Symbols.length:Int),0,id) >>=fun o=>match o with | .inl o_1=>some (o_1.1,o_1.2) | .inr o_2=>some ((-1),o_2)) >>=(fun r=>some (maxI r.1 0,decide (0≤r.1)))=some r∧ghe t.Symbols id r:=by
   rcases h with⟨j,h1,h2,h3,h4⟩ | ⟨h1,h4⟩
   · rw[h4];refine⟨((j:Int),true),?_,.inl ⟨j,h1,by simpa using h2,fun k hk=>by simpa using h3 k hk,rfl⟩⟩;have e1:maxI (j:Int) 0=(j:Int):=by unfold maxI;omega
     have e2:decide ((0:Int)≤(j:Int))=true:=by simp
     simp only[oZ4,oZ3,e1,e2]
   · rw[h4];exact⟨(0,false),rfl,.inr ⟨fun k hk=>by simpa using h1 k hk,rfl⟩⟩
 have hB:∃r,(g1x (id,0,t) >>=fun o=>match o with | .inl o_1=>some (o_1.1,o_1.2) | .inr o_2=>some (0,false))=some r∧ghe t.Symbols id r:=by
   rcases g with⟨j,h1,h2,h3,h4⟩ | ⟨h1,h4⟩
   · rw[h4];exact⟨((j:Int),true),rfl,.inl ⟨j,h1,by simpa using h2,fun k hk=>by simpa using h3 k hk,rfl⟩⟩
   · rw[h4];exact⟨(0,false),rfl,.inr ⟨fun k hk=>by simpa using h1 k hk,rfl⟩⟩
 obtain⟨r,a1,a2⟩:=hA;obtain⟨q,b1,b2⟩:=hB;have:=gtv a2 b2;subst this;exact⟨r,a1,b1,a2⟩
end
section
open Go Go.Proofs.YtijpinendaoleaaGreat.Shv
set_option maxRecDepth 100000
def zig(n:Int) :Int:=if 0≤n then 2*n else -2*n - 1
theorem gum{a b:Int}(h:zig a=zig b) :a=b:=by
 unfold zig at h;split at h <;> split at h <;> omega
def I64(n:Int) :Prop:= -9223372036854775808≤n∧n≤9223372036854775807
theorem ghf{n:Int}(h:I64 n) :g67 n=some (zig n):=by
 obtain⟨h1,h2⟩:=h;rw[g67];unfold zig;by_cases h0:0≤n
 · rw[if_pos (by simp[h0]),if_pos h0];obtain⟨k,rfl⟩:∃k:Nat,n=(k:Int):=⟨n.toNat,by omega⟩
   rw[wrpn (by omega)];have:=mulIn (a:=2) (b:=k) (by omega)
   congr 1
   try omega
 · rw[if_neg (by simp[h0]),if_neg h0];rw[g7f (by omega) (by omega),gaz (by omega) (by omega)];obtain⟨k,hk⟩:∃k:Nat,0 - (n+1)=(k:Int):=⟨(0 - (n+1)).toNat,by omega⟩
   rw[hk,wrpn (by omega)];have h3:=mulIn (a:=2) (b:=k) (by omega);have h3':mulI .u64 2 (k:Int)=((2*k:Nat):Int):=h3;rw[h3'];have h4:=addIn (a:=2*k) (b:=1) (by omega);have h4':addI .u64 ((2*k:Nat):Int) 1=((2*k+1:Nat):Int):=h4;rw[h4']
   congr 1
   omega
theorem g10f(a:Nat)(h:a < 18446744073709551616) :xorI .u64 (a:Int) 0=(a:Int):=by
 have e:(BitVec.ofInt 64 (a:Int) ^^^ BitVec.ofInt 64 (0:Int)).toNat=a:=by
   have:BitVec.ofInt 64 (0:Int)=BitVec.ofNat 64 0:=by decide
   rw[this,BitVec.ofInt_natCast,BitVec.toNat_xor,BitVec.toNat_ofNat,BitVec.toNat_ofNat,two64,Nat.mod_eq_of_lt h];simp
 show IntKind.u64.wrap (((BitVec.ofInt 64 (a:Int) ^^^ BitVec.ofInt 64 (0:Int)).toNat:Nat):Int)=_;rw[e];exact wrapu (by omega) (by omega)
theorem g10g(a:Nat)(h:a < 18446744073709551616) :xorI .u64 (a:Int) 18446744073709551615=((18446744073709551615 - a:Nat):Int):=by
 have e:(BitVec.ofInt 64 (a:Int) ^^^ BitVec.ofInt 64 (18446744073709551615:Int)).toNat=18446744073709551615 - a:=by
   have h1:BitVec.ofInt 64 (18446744073709551615:Int)=BitVec.allOnes 64:=by decide
   rw[h1,BitVec.ofInt_natCast,BitVec.xor_allOnes,BitVec.toNat_not,BitVec.toNat_ofNat,two64,Nat.mod_eq_of_lt h]
 all_goals (try omega)
 show IntKind.u64.wrap (((BitVec.ofInt 64 (a:Int) ^^^ BitVec.ofInt 64 (18446744073709551615:Int)).toNat:Nat):Int)=_;rw[e];exact wrapu (by omega) (by omega)
theorem shr63{n:Int}(h:I64 n) :shrI .i64 n 63=if 0≤n then 0 else -1:=by
 obtain⟨h1,h2⟩:=h;unfold shrI;have e:((2:Int) ^ min (63:Int).toNat IntKind.i64.bits)=9223372036854775808:=by decide
 rw[e,Int.fdiv_eq_ediv_of_nonneg _ (by omega)];split <;> omega
theorem gys{n:Int}(h:I64 n) :g8p n=some (zig n):=by
 rw[g8p,shr63 h];obtain⟨h1,h2⟩:=h;unfold zig;have hs:∀m:Int,shlI .u64 m 1=IntKind.u64.wrap (m*2):=by
   intro m;unfold shlI;have e:((2:Int) ^ min (1:Int).toNat IntKind.u64.bits)=2:=by decide
   rw[e]
 rw[hs]
 congr 1
 by_cases h0:0≤n
 · rw[if_pos h0,if_pos h0];obtain⟨k,rfl⟩:∃k:Nat,n=(k:Int):=⟨n.toNat,by omega⟩
   rw[wrpn (by omega),wrapu (by omega) (by omega)];have:wrp .u64 0=0:=by decide
   rw[this];have:=g10f (2*k) (by omega);have e:((k:Int)*2)=((2*k:Nat):Int):=by omega
   rw[e,this];omega
 · rw[if_neg h0,if_neg h0];have:wrp .u64 (-1)=18446744073709551615:=by decide
   rw[this];obtain⟨k,hk⟩:∃k:Nat,n+9223372036854775808=(k:Int):=⟨(n+9223372036854775808).toNat,by omega⟩
   have e:IntKind.u64.wrap (wrp .u64 n*2)=((2*k:Nat):Int):=by
     unfold wrp;rw[IntKind.wrap_u64,IntKind.wrap_u64];omega
   rw[e,g10g _ (by omega)];omega
theorem cmp1(a b:Int) :gc5 (a,b)=some (if a < b then -1 else if b < a then 1 else 0):=by
 rw[gc5];simp only[gfg,oZ4,oZ3,decide_true,Bool.not_true,Bool.false_eq_true,if_false];by_cases h1:a < b <;> by_cases h2:b < a <;> simp[h1,h2]
theorem cmp2(a b:Int) :g8o (a,b)=some (if a < b then -1 else if b < a then 1 else 0):=by
 rw[g8o];simp only[gc6,oZ4,oZ3,decide_true,Bool.not_true,Bool.false_eq_true,if_false];by_cases h1:a < b <;> by_cases h2:b < a <;> simp[h1,h2]
theorem cmp3(a b:List UInt8) :ga8 (a,b)=some (if Op.bytesLess a b=true then -1 else if(Op.bytesLess a b || decide (a=b))=true then 0 else 1):=by
 rw[ga8];simp only[gc7,oZ4,oZ3,decide_true,Bool.not_true,Bool.false_eq_true,if_false];cases Op.bytesLess a b with
 | true=>rfl
 | false=>cases decide (a=b) <;> rfl
theorem or2(a b:Int) :go6 [a,b]=some (if a≠0 then a else b):=by
 rw[go6];have h0:g6k (0,[a,b],((2:Nat):Int),((0:Nat):Int))=if a≠0 then some (.inl a)else(if b≠0 then some (.inl b)else some (.inr 0)):=by
   rw[g6k,if_pos (by decide),if_pos (show inR ((0:Nat):Int) ([a,b]:List Int).length=true from g6 (k:=0) (n:=2) (by omega))];simp only[oZ4,oZ3,g7,List.getD_cons_zero];by_cases ha:a=0
   · rw[if_neg (by simp[ha]),if_neg (by simp[ha])];have e1:addI .i64 ((0:Nat):Int) 1=((1:Nat):Int):=gp (by omega);rw[e1,g6k,if_pos (by decide),if_pos (show inR ((1:Nat):Int) ([a,b]:List Int).length=true from g6 (k:=1) (n:=2) (by omega))];simp only[oZ4,oZ3,g7,List.getD_cons_succ,List.getD_cons_zero];by_cases hb:b=0
     · rw[if_neg (by simp[hb]),if_neg (by simp[hb])];have e2:addI .i64 ((1:Nat):Int) 1=((2:Nat):Int):=gp (by omega);rw[e2,g6k,if_neg (by decide)]
     · rw[if_pos (by simp[hb]),if_pos hb]
   · rw[if_pos (by simp[ha]),if_pos ha]
 have h1:g6k (0,[a,b],(([a,b]:List Int).length:Int),0)=g6k (0,[a,b],((2:Nat):Int),((0:Nat):Int)):=rfl;rw[h1,h0];by_cases ha:a=0
 · by_cases hb:b=0 <;> simp[ha,hb]
 · simp[ha]
theorem git :∀a:List UInt8,Op.bytesLess a a=false
 | []=>rfl
 | x::r=>by
   simp[Op.bytesLess,git r]
theorem ges{a b:SValue}(ha:I64 a.Int_)(hb:I64 b.Int_) :∃r,g6a (a,b)=some r∧g2s (a,b)=some r:=by
 rw[g6a,g2s];by_cases hk:a.Kind=b.Kind
 · rw[if_neg (show ¬((!(decide (a.Kind=b.Kind)))=true) by simp[hk]),if_neg (show ¬((!(decide (a.Kind=b.Kind)))=true) by simp[hk])];by_cases k1:a.Kind=1
   · rw[if_pos (show decide (a.Kind=1)=true by simp[k1]),if_pos (show decide (a.Kind=1)=true by simp[k1])];simp only[g1n];cases eqB a.Bool_ b.Bool_ <;> cases b.Bool_ <;> exact⟨_,rfl,rfl⟩
   · rw[if_neg (show ¬(decide (a.Kind=1)=true) by simp[k1]),if_neg (show ¬(decide (a.Kind=1)=true) by simp[k1])];by_cases k2:a.Kind=2
     · rw[if_pos (show decide (a.Kind=2)=true by simp[k2]),if_pos (show decide (a.Kind=2)=true by simp[k2]),gys ha,gys hb,ghf ha,ghf hb];simp only[oZ4,oZ3,cmp1,g1n];by_cases he:a.Int_=b.Int_
       · rw[he];exact⟨0,by simp,by simp⟩
       · have hne:zig a.Int_≠zig b.Int_:=fun h=>he (gum h)
         rcases Int.lt_or_gt_of_ne hne with h | h
         · exact⟨-1,by simp[h],by simp[h,he]⟩
         · have:¬zig a.Int_ < zig b.Int_:=by omega
           exact⟨1,by simp[h,this],by simp[h,he,this]⟩
     · rw[if_neg (show ¬(decide (a.Kind=2)=true) by simp[k2]),if_neg (show ¬(decide (a.Kind=2)=true) by simp[k2])];by_cases k3:a.Kind=3
       · rw[if_pos (show decide (a.Kind=3)=true by simp[k3]),if_pos (show decide (a.Kind=3)=true by simp[k3])];simp only[oZ4,oZ3,cmp2,cmp3,or2,g1n];by_cases hl:a.Str.length=b.Str.length
         · have hq:¬((!(decide ((a.Str.length:Int)=(b.Str.length:Int))))=true):=by simp;omega
           rw[if_neg hq,hl];have e1:¬((b.Str.length:Int) < (b.Str.length:Int)):=by omega
           simp only[e1,if_false,ne_eq,not_true_eq_false];by_cases he:a.Str=b.Str
           · rw[he,git];exact⟨0,by simp,by simp⟩
           · cases hb:Op.bytesLess a.Str b.Str with
             | true=>exact⟨-1,by simp,by simp[he]⟩
             | false=>exact⟨1,by simp[he],by simp[he]⟩
         · have hq:(!(decide ((a.Str.length:Int)=(b.Str.length:Int))))=true:=by simp;omega
           rw[if_pos hq];by_cases h:a.Str.length < b.Str.length
           · have e1:(a.Str.length:Int) < (b.Str.length:Int):=by omega
             exact⟨-1,by simp[e1],by simp[e1]⟩
           · have e1:¬((a.Str.length:Int) < (b.Str.length:Int)):=by omega
             have e2:(b.Str.length:Int) < (a.Str.length:Int):=by omega
             exact⟨1,by simp[e1,e2],by simp[e1]⟩
       · rw[if_neg (show ¬(decide (a.Kind=3)=true) by simp[k3]),if_neg (show ¬(decide (a.Kind=3)=true) by simp[k3])];by_cases k4:a.Kind=4
         · rw[if_pos (show decide (a.Kind=4)=true by simp[k4]),if_pos (show decide (a.Kind=4)=true by simp[k4])];simp only[oZ4,oZ3,cmp2,g1n];by_cases he:a.ID=b.ID
           · rw[he];exact⟨0,by simp,by simp⟩
           · rcases Int.lt_or_gt_of_ne he with h | h
             · exact⟨-1,by simp[h],by simp[h,he]⟩
             · have:¬a.ID < b.ID:=by omega
               exact⟨1,by simp[h,this],by simp[h,he,this]⟩
         · rw[if_neg (show ¬(decide (a.Kind=4)=true) by simp[k4]),if_neg (show ¬(decide (a.Kind=4)=true) by simp[k4])];exact⟨0,rfl,rfl⟩
 · rw[if_pos (show(!(decide (a.Kind=b.Kind)))=true by simp[hk]),if_pos (show(!(decide (a.Kind=b.Kind)))=true by simp[hk])];exact⟨0,rfl,rfl⟩
end
section
open Go Go.Proofs.YtijpinendaoleaaGreat.Shv
set_option maxRecDepth 100000
def Both(o1 o2:Option Bool) :Prop:=∃r,o1=some r∧o2=some r
theorem gkr {γ δ : Type} (L : Nat → Option (Bool ⊕ γ)) (L' : Nat → Option (Bool ⊕ δ)) (n : Nat) (p : Nat → Bool) (g : γ) (g' : δ)
   (h:∀i,i < n→L i=if p i=true then L (i+1)else some (.inl false)) (he:L n=some (.inr g))
   (h':∀i,i < n→L' i=if p i=true then L' (i+1)else some (.inl false)) (he':L' n=some (.inr g')):
   (L 0=some (.inr g)∧L' 0=some (.inr g')∧∀j,j < n→p j=true)∨(L 0=some (.inl false)∧L' 0=some (.inl false)∧∃j,j < n∧p j=false):=by
 rcases scan L n p (.inl false) (.inr g) h he with⟨a1,a2⟩ | ⟨a1,j,a2,a3⟩ <;> rcases scan L' n p (.inl false) (.inr g') h' he' with⟨b1,b2⟩ | ⟨b1,k,b2,b3⟩
 · exact .inl ⟨a1,b1,a2⟩
 · have:=a2 k b2;rw[b3]at this;cases this
 · have:=b2 j a2;rw[a3]at this;cases this
 · exact .inr ⟨a1,b1,j,a2,a3⟩
def ga3(k:Int) :Prop:=1≤k∧k≤9
theorem gtw{v:SValue}(hk:ga3 v.Kind) :∃p,gb6 v=some p∧g57 v=some p∧(p=true→v.Kind≠5→v.Kind≠6→v.Rest=[]):=by
 obtain⟨K,B,I,S,ID,Ks,Is,R⟩:=v;simp only at hk;rw[gb6,SValue.ge,g57];have:K=1∨K=2∨K=3∨K=4∨K=5∨K=6∨K=7∨K=8∨K=9:=by unfold ga3 at hk;omega
 have eI:∀(x:Int),decide (x=x)=true:=fun x=>by simp
 rcases this with rfl | rfl | rfl | rfl | rfl | rfl | rfl | rfl | rfl
 all_goals
   refine⟨_,rfl,?_,?_⟩
   · simp[gda,eqB]
     try (cases B <;> simp)
   · simp[gda,eqB]
section
variable {ts:List SType} (hn:ts.length < 9223372036854775807) (hT:∀t,t∈ts→OkT t) (hK:∀t,t∈ts→ga3 t.Kind)
def Fit(ts:List SType)(x:SValue) :Prop:=∀t plain,Both (g39 ((⟨ts⟩:SSchema),t,x,plain)) (g19 ((⟨ts⟩:SSchema),t,x,plain))
theorem gqb {l : List SValue} (hl : l.length ≤ reachBytes) (ih : ∀ x, x ∈ l → Fit ts x) (t : Int) (plain : Bool) :
   Both (g6h ((⟨ts⟩:SSchema),t,l,plain)) (g3i ((⟨ts⟩:SSchema),t,l,plain)):=by
 have hr:=g1e hl
 let p:Nat→Bool:=fun i=>(g39 ((⟨ts⟩:SSchema),t,l.getD i dSValue,plain)).getD false
 have hp:∀i,i < l.length→g39 ((⟨ts⟩:SSchema),t,l.getD i dSValue,plain)=some (p i)∧g19 ((⟨ts⟩:SSchema),t,l.getD i dSValue,plain)=some (p i):=by
   intro i hi;obtain⟨r,h1,h2⟩:=ih _ (gg hi dSValue) t plain;simp only[p,h1,h2,Option.getD_some,and_self]
 have hf:=g89 (fun i=>g11 (l,(l.length:Int),(i:Int),ts,t,plain)) l.length (fun i=>!(p i)) (fun i=>.inl ((i:Int),ts,t,plain)) (.inr (ts,t,plain))
   (fun i hi=>by
     rw[g11,if_pos (by simp;omega),if_pos (g6 hi),geg];simp only[SValue.ge,g7];rw[(hp i hi).1,gp (by omega)]
     rfl)
   (by rw[g11,if_neg (by simp)])
 have hs:=scan (fun i=>g1h (t,l,plain,(i:Int),ts)) l.length p (.inl false) (.inr ())
   (fun i hi=>by
     rw[g1h,if_pos (by simp;omega),if_pos (g6 hi)];simp only[SValue.ge,g7];rw[(hp i hi).2,gp (by omega)]
     cases p i <;> rfl)
   (by rw[g1h,if_neg (by simp)])
 have e1:g11 (l,(l.length:Int),((0:Nat):Int),ts,t,plain)=g11 (l,(l.length:Int),0,ts,t,plain):=rfl;have e2:g1h (t,l,plain,((0:Nat):Int),ts)=g1h (t,l,plain,0,ts):=rfl;simp only[e1]at hf;simp only[e2]at hs;rw[g6h,g2r,g4h,g3i];rcases hf with⟨j,a1,a2,a3,a4⟩ | ⟨a1,a4⟩ <;> rcases hs with⟨b1,b2⟩ | ⟨b1,k,b2,b3⟩
 · have:=b2 j a1;simp[this]at a2
 · rw[a4,b1];refine⟨false,?_,rfl⟩;have e:decide ((0:Int)≤(j:Int))=true:=by simp
   simp only[oZ4,oZ3,e,Bool.not_true]
 · rw[a4,b1];exact⟨true,rfl,rfl⟩
 · have:=a1 k b2;simp[b3]at this
def restP(t:SType)(l:List SRaw)(i:Nat) :Bool:=
 !((g3b (t,(l.getD i dSRaw).ID)).getD (0,false)).2 && (decide (1≤(l.getD i dSRaw).ID) && decide ((l.getD i dSRaw).ID≤1000)) && (decide (i=0) || decide ((l.getD (i - 1) dSRaw).ID < (l.getD i dSRaw).ID))
theorem g10h {γ : Type} (kn f Z : Bool) (sI : Int) (I1 C : Int → Bool) (X Y : Option γ) (hI1 : Z = true → I1 sI = true) :
   ((if(!kn)=true then some f else some false) >>=fun r_17=>some (bif kn then true else(!r_17)) >>=fun t131=>some Z >>=fun t134=>some sI >>=fun t141=>
     if(I1 t141 || (!((!t131) && t134)))=true then if(bif t131 then true else bif t134 then C t141 else false)=true then X else Y else none)=if(!kn && f && (!Z || !(C sI)))=true then Y else X:=by
 simp only[oZ4,oZ3];generalize C sI=c;cases Z with
 | true=>rw[hI1 rfl];cases kn <;> cases f <;> cases c <;> rfl
 | false=>generalize I1 sI=d;cases kn <;> cases f <;> cases d <;> cases c <;> rfl
theorem gma {γ : Type} (R3 I0 Z : Bool) (sI : Int) (I1 C : Int → Bool) (X Y : Option γ) (hI0 : I0 = true) (hI1 : Z = true → I1 sI = true) :
   (some R3 >>=fun r_3=>some (!r_3) >>=fun t31=>some Z >>=fun t34=>
     if(I0 || (!((!t31) && t34)))=true then some sI >>=fun t43=>if(I1 t43 || (!((!t31) && t34)))=true then if(bif t31 then true else bif t34 then C t43 else false)=true then X else Y else none else none)=if(R3 && (!Z || !(C sI)))=true then Y else X:=by
 subst hI0;simp only[oZ4,oZ3];generalize C sI=c;cases Z with
 | true=>rw[hI1 rfl];cases R3 <;> cases c <;> rfl
 | false=>generalize I1 sI=d;cases R3 <;> cases d <;> cases c <;> rfl
theorem g8a{i:Nat}(h:0 < i)(h2:i < 9223372036854775807) :subI .i64 (i:Int) 1=((i - 1:Nat):Int):=by
 rw[gaz (by omega) (by omega)];omega
theorem rests {t : SType} (ht : t.Members.length < 9223372036854775807) (v : SValue) (hl : v.Rest.length ≤ reachBytes) (plain : Bool) (ts : List SType) :
   let inr:=(plain,ts,v.Kind,v.Bool_,v.Int_,v.Str,v.ID,v.Keys,v.Items,v.Rest,t.Kind,t.Name,t.Low,t.High,t.Max,t.Symbols,t.Members,t.Key,t.Elem,t.Open)
   ((g2w (plain,v.Rest,(v.Rest.length:Int),0,ts,v,t.Kind,t.Name,t.Low,t.High,t.Max,t.Symbols,t.Members,t.Key,t.Elem,t.Open)=some (.inr inr)∧g4b (t,v.Rest)=some true)∨
     (g2w (plain,v.Rest,(v.Rest.length:Int),0,ts,v,t.Kind,t.Name,t.Low,t.High,t.Max,t.Symbols,t.Members,t.Key,t.Elem,t.Open)=some (.inl false)∧g4b (t,v.Rest)=some false)):=by
 intro inr;have hr:=g1e hl;have hpe:∀i,i < v.Rest.length→∀r,g3b (t,(v.Rest.getD i dSRaw).ID)=some r→restP t v.Rest i=(!r.2 && (bif decide (1≤(v.Rest.getD i dSRaw).ID)then decide ((v.Rest.getD i dSRaw).ID≤1000)else false) && (!(decide ((0:Int) < (i:Int))) || !(decide ((v.Rest.getD i dSRaw).ID≤(v.Rest.getD (subI .i64 (i:Int) 1).toNat dSRaw).ID)))):=by
   intro i hi r hm;unfold restP;rw[hm,Option.getD_some];generalize (v.Rest.getD i dSRaw).ID=x;by_cases h0:i=0
   · subst h0;cases r.2 <;> by_cases h1:1≤x <;> by_cases h2:x≤1000 <;> simp[h1,h2]
   · have hz:decide ((0:Int) < (i:Int))=true:=by simp;omega
     rw[hz,g8a (by omega) (by omega),g7];generalize (v.Rest.getD (i - 1) dSRaw).ID=y;cases r.2 <;> by_cases h1:1≤x <;> by_cases h2:x≤1000 <;> by_cases h3:y < x <;> simp[h0,h1,h2,h3] <;> omega
 have h:=gkr (fun i=>g2w (plain,v.Rest,(v.Rest.length:Int),(i:Int),ts,v,t.Kind,t.Name,t.Low,t.High,t.Max,t.Symbols,t.Members,t.Key,t.Elem,t.Open)) (fun i=>g17 (v.Rest,(i:Int),t)) v.Rest.length (restP t v.Rest) inr ()
   (fun i hi=>by
     obtain⟨r,h1,_,_⟩:=g6m (t:=t) (v.Rest.getD i dSRaw).ID ht;rw[g2w,if_pos (by simp;omega),if_pos (g6 hi),hpe i hi r h1];simp only[g7,gig,SValue.ge,gb7,oZ4,oZ3];rw[h1,gp (by omega)]
     exact g10h r.2 (bif decide (1≤(v.Rest.getD i dSRaw).ID)then decide ((v.Rest.getD i dSRaw).ID≤1000)else false) (decide ((0:Int) < (i:Int))) (subI .i64 (i:Int) 1) (fun j=>inR j v.Rest.length) (fun j=>decide ((v.Rest.getD i dSRaw).ID≤(v.Rest.getD j.toNat dSRaw).ID)) _ _ (fun hz=>by
       have:0 < i:=by simp at hz;omega
       show inR _ _=true
       rw[g8a this (by omega)];exact g6 (by omega)))
   (by rw[g2w,if_neg (by simp)])
   (fun i hi=>by
     obtain⟨r,h1,h2,_⟩:=g6m (t:=t) (v.Rest.getD i dSRaw).ID ht;rw[g17,if_pos (by simp;omega),if_pos (g6 hi),hpe i hi r h1];simp only[g7];rw[h2,gp (by omega)];have hid:g16 ((v.Rest.getD i dSRaw).ID,r.2)=some ((!r.2) && (bif decide (1≤(v.Rest.getD i dSRaw).ID)then decide ((v.Rest.getD i dSRaw).ID≤1000)else false)):=by
       rw[g16];cases r.2 <;> cases decide (1≤(v.Rest.getD i dSRaw).ID) <;> rfl
     show(if inR (i:Int) v.Rest.length=true then g16 ((v.Rest.getD i dSRaw).ID,r.2) >>=_ else none)=_;rw[if_pos (g6 hi),hid]
     exact gma ((!r.2) && (bif decide (1≤(v.Rest.getD i dSRaw).ID)then decide ((v.Rest.getD i dSRaw).ID≤1000)else false)) (inR (i:Int) v.Rest.length) (decide ((0:Int) < (i:Int))) (subI .i64 (i:Int) 1) (fun j=>inR j v.Rest.length) (fun j=>decide ((v.Rest.getD i dSRaw).ID≤(v.Rest.getD j.toNat dSRaw).ID)) _ _ (g6 hi) (fun hz=>by
       have:0 < i:=by simp at hz;omega
       show inR _ _=true
       rw[g8a this (by omega)];exact g6 (by omega)))
   (by rw[g17,if_neg (by simp)])
 have e1:g2w (plain,v.Rest,(v.Rest.length:Int),((0:Nat):Int),ts,v,t.Kind,t.Name,t.Low,t.High,t.Max,t.Symbols,t.Members,t.Key,t.Elem,t.Open)=g2w (plain,v.Rest,(v.Rest.length:Int),0,ts,v,t.Kind,t.Name,t.Low,t.High,t.Max,t.Symbols,t.Members,t.Key,t.Elem,t.Open):=rfl;have e2:g17 (v.Rest,((0:Nat):Int),t)=g17 (v.Rest,0,t):=rfl
 simp only[e1,e2]at h;rw[g4b];rcases h with⟨h1,h2,_⟩ | ⟨h1,h2,_⟩
 · exact .inl ⟨h1,by rw[h2];rfl⟩
 · exact .inr ⟨h1,by rw[h2];rfl⟩
end
end
section
open Go Go.Proofs.YtijpinendaoleaaGreat.Shv
set_option maxRecDepth 100000
theorem gwk {ts : List SType} {t : SType} {v : SValue} (hl : v.Items.length = t.Members.length) (hr : t.Members.length < 9223372036854775807) (ih : ∀ x, x ∈ v.Items → Fit ts x) (plain : Bool) :
   (g3c (plain,t.Members,(t.Members.length:Int),0,ts,v.Kind,v.Bool_,v.Int_,v.Str,v.ID,v.Keys,v.Items,v.Rest)=some (.inr ())∧g12 (plain,0,ts,v,t.Kind,t.Name,t.Low,t.High,t.Max,t.Symbols,t.Members,t.Key,t.Elem,t.Open)=some (.inr ()))∨
   (g3c (plain,t.Members,(t.Members.length:Int),0,ts,v.Kind,v.Bool_,v.Int_,v.Str,v.ID,v.Keys,v.Items,v.Rest)=some (.inl false)∧g12 (plain,0,ts,v,t.Kind,t.Name,t.Low,t.High,t.Max,t.Symbols,t.Members,t.Key,t.Elem,t.Open)=some (.inl false)):=by
 let p:Nat→Bool:=fun i=>(g39 ((⟨ts⟩:SSchema),(t.Members.getD i dSMember).Type_,v.Items.getD i dSValue,plain)).getD false
 have hp:∀i,i < t.Members.length→g39 ((⟨ts⟩:SSchema),(t.Members.getD i dSMember).Type_,v.Items.getD i dSValue,plain)=some (p i)∧g19 ((⟨ts⟩:SSchema),(t.Members.getD i dSMember).Type_,v.Items.getD i dSValue,plain)=some (p i):=by
   intro i hi;obtain⟨r,h1,h2⟩:=ih _ (gg (by omega:i < v.Items.length) dSValue) (t.Members.getD i dSMember).Type_ plain;simp only[p,h1,h2,Option.getD_some,and_self]
 have h:=gkr (fun i=>g3c (plain,t.Members,(t.Members.length:Int),(i:Int),ts,v.Kind,v.Bool_,v.Int_,v.Str,v.ID,v.Keys,v.Items,v.Rest)) (fun i=>g12 (plain,(i:Int),ts,v,t.Kind,t.Name,t.Low,t.High,t.Max,t.Symbols,t.Members,t.Key,t.Elem,t.Open)) t.Members.length p () ()
   (fun i hi=>by
     rw[g3c,if_pos (by simp;omega),if_pos (g6 hi),if_pos (g6 (by omega))];simp only[g7,SValue.ge];rw[(hp i hi).1,gp (by omega)]
     cases p i <;> rfl)
   (by rw[g3c,if_neg (by simp)])
   (fun i hi=>by
     rw[g12,if_pos (by simp;omega),if_pos (g6 hi),if_pos (g6 (by omega))];simp only[g7,SValue.ge];rw[(hp i hi).2,gp (by omega)]
     cases p i <;> rfl)
   (by rw[g12,if_neg (by simp;omega)])
 have e1:g3c (plain,t.Members,(t.Members.length:Int),((0:Nat):Int),ts,v.Kind,v.Bool_,v.Int_,v.Str,v.ID,v.Keys,v.Items,v.Rest)=g3c (plain,t.Members,(t.Members.length:Int),0,ts,v.Kind,v.Bool_,v.Int_,v.Str,v.ID,v.Keys,v.Items,v.Rest):=rfl
 have e2:g12 (plain,((0:Nat):Int),ts,v,t.Kind,t.Name,t.Low,t.High,t.Max,t.Symbols,t.Members,t.Key,t.Elem,t.Open)=g12 (plain,0,ts,v,t.Kind,t.Name,t.Low,t.High,t.Max,t.Symbols,t.Members,t.Key,t.Elem,t.Open):=rfl;simp only[e1,e2]at h;rcases h with⟨h1,h2,_⟩ | ⟨h1,h2,_⟩
 · exact .inl ⟨h1,h2⟩
 · exact .inr ⟨h1,h2⟩
theorem gdo{v:SValue}(h:OkV v) :I64 v.Int_:=by cases h with | mk _ _ _ _ _ _ _ _ n1 n2=>exact n2
theorem gyt {ts : List SType} {t : SType} {v : SValue} (hr : v.Keys.length < 9223372036854775807) (hk : ∀ x, x ∈ v.Keys → OkV x) (plain : Bool) :
   let inr:=(plain,ts,v,t.Kind,t.Name,t.Low,t.High,t.Max,t.Symbols,t.Members,t.Key,t.Elem,t.Open)
   (g2n (plain,1,ts,v,t.Kind,t.Name,t.Low,t.High,t.Max,t.Symbols,t.Members,t.Key,t.Elem,t.Open)=some (.inr inr)∧gw (1,v)=some (.inr ()))∨
   (g2n (plain,1,ts,v,t.Kind,t.Name,t.Low,t.High,t.Max,t.Symbols,t.Members,t.Key,t.Elem,t.Open)=some (.inl false)∧gw (1,v)=some (.inl false)):=by
 intro inr;by_cases h0:v.Keys.length=0
 · left;refine⟨?_,?_⟩
   · rw[g2n,if_neg (by simp[h0]),SValue.ge]
   · rw[gw,if_neg (by simp[h0])]
 let c:Nat→Int:=fun i=>(g6a (v.Keys.getD i dSValue,v.Keys.getD (i+1) dSValue)).getD 0
 have hc:∀i,i+1 < v.Keys.length→g6a (v.Keys.getD i dSValue,v.Keys.getD (i+1) dSValue)=some (c i)∧g2s (v.Keys.getD i dSValue,v.Keys.getD (i+1) dSValue)=some (c i):=by
   intro i hi;obtain⟨r,h1,h2⟩:=ges (gdo (hk _ (gg (by omega:i < v.Keys.length) dSValue))) (gdo (hk _ (gg hi dSValue)));simp only[c,h1,h2,Option.getD_some,and_self]
 have h:=gkr (fun i=>g2n (plain,((i+1:Nat):Int),ts,v,t.Kind,t.Name,t.Low,t.High,t.Max,t.Symbols,t.Members,t.Key,t.Elem,t.Open)) (fun i=>gw (((i+1:Nat):Int),v)) (v.Keys.length - 1) (fun i=>!(decide (0≤c i))) inr ()
   (fun i hi=>by
     have hs:=g8a (i:=i+1) (by omega) (by omega);have hs':subI .i64 ((i+1:Nat):Int) 1=(i:Int):=by rw[hs];simp
     rw[g2n,if_pos (by simp;omega)];simp only[oZ4,oZ3];rw[hs',if_pos (g6 (by omega)),if_pos (g6 (by omega))];simp only[g7,SValue.ge];rw[(hc i (by omega)).1,gp (by omega)];simp only[oZ3]
     cases decide (0≤c i) <;> rfl)
   (by
     have e:v.Keys.length - 1+1=v.Keys.length:=by omega
     rw[e,g2n,if_neg (by simp),SValue.ge])
   (fun i hi=>by
     have hs:=g8a (i:=i+1) (by omega) (by omega);have hs':subI .i64 ((i+1:Nat):Int) 1=(i:Int):=by rw[hs];simp
     rw[gw,if_pos (by simp;omega)];simp only[oZ4,oZ3];rw[hs',if_pos (g6 (by omega)),if_pos (g6 (by omega))];simp only[g7,SValue.ge];rw[(hc i (by omega)).2,gp (by omega)];simp only[oZ3]
     cases decide (0≤c i) <;> rfl)
   (by
     have e:v.Keys.length - 1+1=v.Keys.length:=by omega
     rw[e,gw,if_neg (by simp)])
 have e1:g2n (plain,((0+1:Nat):Int),ts,v,t.Kind,t.Name,t.Low,t.High,t.Max,t.Symbols,t.Members,t.Key,t.Elem,t.Open)=g2n (plain,1,ts,v,t.Kind,t.Name,t.Low,t.High,t.Max,t.Symbols,t.Members,t.Key,t.Elem,t.Open):=rfl;have e2:gw (((0+1:Nat):Int),v)=gw (1,v):=rfl;simp only[e1,e2]at h;rcases h with⟨h1,h2,_⟩ | ⟨h1,h2,_⟩
 · exact .inl ⟨h1,h2⟩
 · exact .inr ⟨h1,h2⟩
theorem gon{α β:Type}{a:List α}{b:List β}(h:decide ((a.length:Int)=(b.length:Int))=true) :a.length=b.length:=by
 have:=of_decide_eq_true h;omega
theorem k4e {o : Option (Int × Bool)} {r : Int × Bool} (ho : o = some r) (O plain f : Bool) :
   (o >>=fun r_1=>some (bif O then(!plain)else false) >>=fun t85=>(if((!r_1.2) && t85)=true then some f else some false) >>=fun r_4=>some (bif r_1.2 then true else bif t85 then r_4 else false))=some (r.2 || (O && !plain && f)):=by
 subst ho;obtain⟨k,kn⟩:=r;cases kn <;> cases O <;> cases plain <;> cases f <;> rfl
theorem k4r {o : Option (Int × Bool)} {r : Int × Bool} (ho : o = some r) (O plain f : Bool) (F : Bool → Option Bool) (hF : F false = some f) :
   (o >>=fun r_1=>some (bif O then(!plain)else false) >>=fun t85=>(if((!r_1.2) && t85)=true then F r_1.2 else some false) >>=fun r_4=>some (bif r_1.2 then true else bif t85 then r_4 else false))=some (r.2 || (O && !plain && f)):=by
 subst ho;obtain⟨k,kn⟩:=r;cases kn <;> cases O <;> cases plain <;> simp[hF]
theorem k7{o:Option Bool}{r:Bool}(ho:o=some r)(q:Bool) :(some q >>=fun t244=>(if t244=true then o else some false) >>=fun r_10=>some (bif t244 then r_10 else false))=some (q && r):=by
 subst ho;cases q <;> cases r <;> rfl
theorem k6k(c I1 I2 f:Bool){X:Option Bool}(hX:c=true→X=some f)(h1:c=true→I1=true∧I2=true) :(some c >>=fun t188=>if(I1 || (!t188))=true then if(I2 || (!t188))=true then(if t188=true then X else some false) >>=fun r_8=>some (bif t188 then r_8 else false)else none else none)=some (c && f):=by
 cases c with
 | true=>obtain⟨a,b⟩:=h1 rfl;subst a;subst b;rw[hX rfl];rfl
 | false=>cases I1 <;> cases I2 <;> rfl
theorem k5r (A b q m : Bool) {ro : Option Bool} (hr : ro = some q) {L : Option (Bool ⊕ Unit)} (hL : A = true → L = some (if m = true then .inr () else .inl false)) :
   (if(bif (bif false then true else(!true))then true else b)=true then some false else some (!A) >>=fun t107=>(if(!t107)=true then ro else some false) >>=fun r_5=>if(bif t107 then true else(!r_5))=true then some false else L >>=fun o=>match o with | .inl x=>some x | .inr _=>some true)=some (A && !b && q && m):=by
 subst hr;cases A with
 | false=>cases b <;> rfl
 | true=>
   rw[hL rfl];cases b <;> cases q <;> cases m <;> rfl
theorem k6u(g f c1 c2 I E:Bool)(h1:c2=true→I=true) :(some g >>=fun t209=>(if t209=true then some f else some false) >>=fun r_9=>some (bif bif bif t209 then r_9 else false then c1 else false then c2 else false) >>=fun t226=>if(I || (!t226))=true then some (bif t226 then E else false)else none)=some (g && f && c1 && c2 && E):=by
 cases c2 with
 | true=>have:=h1 rfl;subst this;cases g <;> cases f <;> cases c1 <;> cases E <;> rfl
 | false=>cases g <;> cases f <;> cases c1 <;> cases I <;> rfl
theorem k8r (c : Bool) {ok oi : Option Bool} {k i : Bool} (hk : ok = some k) (hi : oi = some i) {L : Option (Bool ⊕ Unit)} {q : Bool} (hL : L = some (if q = true then .inr () else .inl false)) :
   (some c >>=fun t239=>(if(!t239)=true then ok else some false) >>=fun r_12=>some (bif t239 then true else(!r_12)) >>=fun t249=>(if(!t249)=true then oi else some false) >>=fun r_13=>if(bif t249 then true else(!r_13))=true then some false else L >>=fun o_3=>match o_3 with | .inl o_4=>some o_4 | .inr _=>some true)=some (!c && k && q && i):=by
 subst hk;subst hi;subst hL;cases c <;> cases k <;> cases q <;> cases i <;> rfl
theorem gco{ts:List SType}(hn:ts.length < 9223372036854775807)(hT:∀t,t∈ts→OkT t)(hK:∀t,t∈ts→ga3 t.Kind){v:SValue}(hv:OkV v) :Fit ts v:=by
 induction hv with
 | mk v hs h1 h2 h3 hk hi hrd n1 n2 n3 n4 ihk ihi=>
   intro t plain;rw[g39,g19];by_cases hout:(bif decide (t < 0)then true else decide (((⟨ts⟩:SSchema).Types.length:Int)≤t))=true
   · rw[if_pos hout,if_pos hout];exact⟨false,rfl,rfl⟩
   · rw[if_neg hout,if_neg hout];have hin:0≤t∧t < ts.length:=by
       simp only[Bool.cond_eq_ite]at hout;by_cases h0:t < 0
       · simp[h0]at hout
       · simp[h0]at hout;omega
     obtain⟨j,rfl⟩:∃j:Nat,t=(j:Int):=⟨t.toNat,by omega⟩
     have hj:j < ts.length:=by omega
     rw[if_pos (g6 hj),if_pos (g6 hj)];simp only[g7,SValue.ge];have hxT:=hT _ (gg hj dSType);have hxK:=hK _ (gg hj dSType);generalize ts.getD j dSType=x at hxT hxK ⊢;have hm:=g1e (g58 hxT.mems);have hsy:=g1e (g58 hxT.syms);by_cases hkd:v.Kind=x.Kind
     · obtain⟨p,p1,p2,p3⟩:=gtw (v:=v) (by rw[hkd];exact hxK);rw[p1,p2];cases p with
       | false=>exact⟨false,by simp[hkd],by simp[hkd]⟩
       | true=>
         have hitems:=gqb (ts:=ts) h2 ihi;have hkeys:=gqb (ts:=ts) h1 ihk;obtain⟨K,N,L,H,M,S,Ms,Ke,E,O⟩:=x;obtain⟨vK,B,I,Sx,ID,Ks,Is,R⟩:=v;simp only at hkd;subst hkd;have p3':=p3 rfl;simp only at p3' hxK hm hsy h1 h2 h3;have hc:vK=1∨vK=2∨vK=3∨vK=4∨vK=5∨vK=6∨vK=7∨vK=8∨vK=9:=by unfold ga3 at hxK;omega
         rcases hc with rfl | rfl | rfl | rfl | rfl | rfl | rfl | rfl | rfl
         · obtain rfl:R=[]:=p3' (by decide) (by decide);cases plain <;> exact⟨true,rfl,rfl⟩
         · obtain rfl:R=[]:=p3' (by decide) (by decide);cases plain <;> exact⟨_,rfl,rfl⟩
         · obtain rfl:R=[]:=p3' (by decide) (by decide);cases plain <;> exact⟨_,rfl,rfl⟩
         · obtain rfl:R=[]:=p3' (by decide) (by decide);obtain⟨r,r1,r2,_⟩:=ga2 (t:=⟨4,N,L,H,M,S,Ms,Ke,E,O⟩) ID hsy;have hf:g16 (ID,false)=some (bif decide (1≤ID)then decide (ID≤1000)else false):=by
             rw[g16];cases decide (1≤ID) <;> rfl
           cases plain
           · exact⟨_,k4e r1 O false _,k4r r2 O false _ (fun b=>g16 (ID,b)) hf⟩
           · exact⟨_,k4e r1 O true _,k4r r2 O true _ (fun b=>g16 (ID,b)) hf⟩
         ·
           have hrs:=rests (t:=⟨5,N,L,H,M,S,Ms,Ke,E,O⟩) hm ⟨5,B,I,Sx,ID,Ks,Is,R⟩ h3 plain ts;have hps:decide ((Is.length:Int)=(Ms.length:Int))=true→_:=fun hA=>gwk (ts:=ts) (t:=⟨5,N,L,H,M,S,Ms,Ke,E,O⟩) (v:=⟨5,B,I,Sx,ID,Ks,Is,R⟩) (gon hA) hm ihi plain
           have hq:∃q:Bool,g2w (plain,R,(R.length:Int),0,ts,⟨5,B,I,Sx,ID,Ks,Is,R⟩,5,N,L,H,M,S,Ms,Ke,E,O)=some (if q=true then .inr (plain,ts,5,B,I,Sx,ID,Ks,Is,R,5,N,L,H,M,S,Ms,Ke,E,O)else .inl false)∧g4b (⟨5,N,L,H,M,S,Ms,Ke,E,O⟩,R)=some q:=by
             rcases hrs with⟨a,b⟩ | ⟨a,b⟩
             · exact⟨true,a,b⟩
             · exact⟨false,a,b⟩
           obtain⟨q,q1,q2⟩:=hq;have hmm:∃m:Bool,decide ((Is.length:Int)=(Ms.length:Int))=true→(g3c (plain,Ms,(Ms.length:Int),0,ts,5,B,I,Sx,ID,Ks,Is,R)=some (if m=true then .inr ()else .inl false)∧g12 (plain,0,ts,⟨5,B,I,Sx,ID,Ks,Is,R⟩,5,N,L,H,M,S,Ms,Ke,E,O)=some (if m=true then .inr ()else .inl false)):=by
             cases hA:decide ((Is.length:Int)=(Ms.length:Int))with
             | false=>exact⟨true,fun h=>by cases h⟩
             | true=>
               rcases hps hA with⟨a,b⟩ | ⟨a,b⟩
               · exact⟨true,fun _=>⟨a,b⟩⟩
               · exact⟨false,fun _=>⟨a,b⟩⟩
           obtain⟨m,hm'⟩:=hmm;refine⟨(decide ((Is.length:Int)=(Ms.length:Int))) && !(bif plain then decide (0 < (R.length:Int))else false) && q && m,?_,?_⟩
           · show(if(bif (!(decide ((Is.length:Int)=(Ms.length:Int))))then true else bif plain then decide (0 < (R.length:Int))else false)=true then some false else g2w (plain,R,(R.length:Int),0,ts,⟨5,B,I,Sx,ID,Ks,Is,R⟩,5,N,L,H,M,S,Ms,Ke,E,O) >>=_)=_;rw[q1];cases hA:decide ((Is.length:Int)=(Ms.length:Int))with
             | false=>rfl
             | true=>
               cases (bif plain then decide (0 < (R.length:Int))else false)with
               | true=>rfl
               | false=>
                 cases q with
                 | false=>rfl
                 | true=>
                   show(g3c (plain,Ms,(Ms.length:Int),0,ts,5,B,I,Sx,ID,Ks,Is,R) >>=_)=_;rw[(hm' hA).1];cases m <;> rfl
           · exact k5r (decide ((Is.length:Int)=(Ms.length:Int))) (bif plain then decide (0 < (R.length:Int))else false) q m q2 (fun hA=>(hm' hA).2)
         ·
           obtain⟨r,r1,r2,hf⟩:=g6m (t:=⟨6,N,L,H,M,S,Ms,Ke,E,O⟩) ID hm;have hid:∀b,b=false→g16 (ID,b)=some (bif decide (1≤ID)then decide (ID≤1000)else false):=by
             intro b hb;subst hb;rw[g16];cases decide (1≤ID) <;> rfl
           have hX:∃f:Bool,(bif decide ((Is.length:Int)=1)then decide ((R.length:Int)=0)else false)=true→(g39 ((⟨ts⟩:SSchema),(Ms.getD r.1.toNat dSMember).Type_,Is.getD (0:Int).toNat dSValue,plain)=some f∧g19 ((⟨ts⟩:SSchema),(Ms.getD r.1.toNat dSMember).Type_,Is.getD (0:Int).toNat dSValue,plain)=some f):=by
             by_cases h1':Is.length=1
             · obtain⟨f,f1,f2⟩:=ihi (Is.getD 0 dSValue) (gg (by omega:0 < Is.length) dSValue) (Ms.getD r.1.toNat dSMember).Type_ plain;exact⟨f,fun _=>⟨f1,f2⟩⟩
             · refine⟨false,fun h=>?_⟩
               exfalso
               have:decide ((Is.length:Int)=1)=false:=by simp;omega
               rw[this]at h;cases h
           obtain⟨f,hfX⟩:=hX;have hidx:r.2=true→(bif decide ((Is.length:Int)=1)then decide ((R.length:Int)=0)else false)=true→inR r.1 Ms.length=true∧inR 0 Is.length=true:=by
             intro h6 hc';constructor
             · rcases hf with⟨k,k1,_,_,rfl⟩ | ⟨_,rfl⟩
               · exact g6 k1
               · cases h6
             · by_cases h1':Is.length=1
               · exact g6 (k:=0) (by omega)
               · have:decide ((Is.length:Int)=1)=false:=by simp;omega
                 rw[this]at hc';cases hc'
           have hR0:decide ((R.length:Int)=1)=true→inR 0 R.length=true:=by
             intro h;have:=of_decide_eq_true h;exact g6 (k:=0) (by omega)
           obtain⟨ri,rk⟩:=r;refine⟨if rk=true then(bif decide ((Is.length:Int)=1)then decide ((R.length:Int)=0)else false) && f else(bif O then(!plain)else false) && (bif decide (1≤ID)then decide (ID≤1000)else false) && decide ((Is.length:Int)=0) && decide ((R.length:Int)=1) && decide ((R.getD (0:Int).toNat dSRaw).ID=ID),?_,?_⟩
           · show(g3b (⟨6,N,L,H,M,S,Ms,Ke,E,O⟩,ID) >>=_)=_;rw[r1];cases rk with
             | true=>exact k6k _ (inR ri Ms.length) (inR 0 Is.length) f (fun h=>(hfX h).1) (hidx rfl)
             | false=>exact k6u (bif O then(!plain)else false) (bif decide (1≤ID)then decide (ID≤1000)else false) (decide ((Is.length:Int)=0)) (decide ((R.length:Int)=1)) (inR 0 R.length) (decide ((R.getD (0:Int).toNat dSRaw).ID=ID)) hR0
           · show(if(bif (bif false then true else(!true))then true else(bif plain then decide (0 < (R.length:Int))else false))=true then some false else g1c (⟨6,N,L,H,M,S,Ms,Ke,E,O⟩,ID) >>=_)=_;rw[r2];cases hb0:(bif plain then decide (0 < (R.length:Int))else false)with
             | true=>
               have hpl:plain=true:=by
                 cases plain with
                 | true=>rfl
                 | false=>cases hb0
               subst hpl;have hRl:decide ((R.length:Int)=0)=false:=by
                 have:=of_decide_eq_true (show decide (0 < (R.length:Int))=true from hb0);simp;intro e;rw[e]at this;simp at this
               rw[hRl];cases rk with
               | true=>cases decide ((Is.length:Int)=1) <;> rfl
               | false=>cases O <;> rfl
             | false=>
               cases rk with
               | true=>exact k6k _ (inR ri Ms.length) (inR 0 Is.length) f (fun h=>(hfX h).2) (hidx rfl)
               | false=>exact k6u (bif O then(!plain)else false) (bif decide (1≤ID)then decide (ID≤1000)else false) (decide ((Is.length:Int)=0)) (decide ((R.length:Int)=1)) (inR 0 R.length) (decide ((R.getD (0:Int).toNat dSRaw).ID=ID)) hR0
         · obtain rfl:R=[]:=p3' (by decide) (by decide);obtain⟨r,r1,r2⟩:=hitems E plain;cases plain
           · exact⟨_,k7 r1 _,k7 r2 _⟩
           · exact⟨_,k7 r1 _,k7 r2 _⟩
         · obtain rfl:R=[]:=p3' (by decide) (by decide);obtain⟨k,k1,k2⟩:=hkeys Ke plain;obtain⟨i,i1,i2⟩:=hitems E plain;have hks:=gyt (ts:=ts) (t:=⟨8,N,L,H,M,S,Ms,Ke,E,O⟩) (v:=⟨8,B,I,Sx,ID,Ks,Is,[]⟩) (g1e h1) hk plain
           obtain⟨q,qa,qb⟩:∃q:Bool,g2n (plain,1,ts,⟨8,B,I,Sx,ID,Ks,Is,[]⟩,8,N,L,H,M,S,Ms,Ke,E,O)=some (if q=true then .inr (plain,ts,⟨8,B,I,Sx,ID,Ks,Is,[]⟩,8,N,L,H,M,S,Ms,Ke,E,O)else .inl false)∧gw (1,⟨8,B,I,Sx,ID,Ks,Is,[]⟩)=some (if q=true then .inr ()else .inl false):=by
             rcases hks with⟨a,b⟩ | ⟨a,b⟩
             · exact⟨true,a,b⟩
             · exact⟨false,a,b⟩
           refine⟨!(bif decide (M < (Ks.length:Int))then true else(!(decide ((Is.length:Int)=(Ks.length:Int))))) && k && q && i,?_,?_⟩
           · show(some (bif decide (M < (Ks.length:Int))then true else(!(decide ((Is.length:Int)=(Ks.length:Int))))) >>=fun t270=>(if(!t270)=true then g6h ((⟨ts⟩:SSchema),Ke,Ks,plain)else some false) >>=fun r_11=>if(bif t270 then true else(!r_11))=true then some false else g2n (plain,1,ts,⟨8,B,I,Sx,ID,Ks,Is,[]⟩,8,N,L,H,M,S,Ms,Ke,E,O) >>=_)=_
             rw[k1,qa];cases (bif decide (M < (Ks.length:Int))then true else(!(decide ((Is.length:Int)=(Ks.length:Int)))))with
             | true=>rfl
             | false=>
               cases k with
               | false=>rfl
               | true=>
                 cases q with
                 | false=>rfl
                 | true=>
                   show(g6h ((⟨ts⟩:SSchema),E,Is,plain) >>=fun r_12=>some r_12)=_;rw[i1];cases i <;> rfl
           · cases plain
             · exact k8r (bif decide (M < (Ks.length:Int))then true else(!(decide ((Is.length:Int)=(Ks.length:Int))))) k2 i2 qb
             · exact k8r (bif decide (M < (Ks.length:Int))then true else(!(decide ((Is.length:Int)=(Ks.length:Int))))) k2 i2 qb
         · obtain rfl:R=[]:=p3' (by decide) (by decide);obtain⟨r,r1,r2⟩:=hitems E plain;cases plain
           · exact⟨_,k7 r1 _,k7 r2 _⟩
           · exact⟨_,k7 r1 _,k7 r2 _⟩
     · exact⟨false,by simp[hkd],by simp[hkd]⟩
end
section
open Go Go.Proofs.YtijpinendaoleaaGreat.Shv
set_option maxRecDepth 100000
theorem gii{U:Uni}{t:Ty}{l:List (t.den U.D)}(h:WF U ⟨.slice t,l⟩) :l.length≤reachBytes∧l.length*t.bytes U≤reachBytes∧∀x,x∈l→∀c,c∈t.row U x→WF U c:=by
 cases h with | slice t l h1 h2 h3=>exact⟨h1,h2,h3⟩
end
section
open Go Go.Proofs.YtijpinendaoleaaGreat.Shv
set_option maxRecDepth 100000
theorem g9q(s:SSchema) :(⟨s.Types⟩:SSchema)=s:=by cases s;rfl
theorem gwl {s : SSchema} (hs : s.Types.length ≤ reachBytes) (hT : ∀ t, t ∈ s.Types → OkT t) {v : SValue} (hv : OkV v) (t : Int) :
   ∃e,g80 (s,t,v)=some e∧g4p (s,t,v)=some e∧
     (e=0→s.Types.length≤32∧(∀i,i < s.Types.length→stepV s.Types i=none)∧0≤t∧t < s.Types.length∧g39 (s,t,v,false)=some true):=by
 obtain⟨e,e1,e2,e3⟩:=gwi hs hT;rw[g80,gbu,g4p];simp only[g9q,SValue.ge];rw[e1,e2];by_cases h0:e=0
 · subst h0;obtain⟨h32,hst⟩:=e3 rfl;by_cases hout:(bif decide (t < 0)then true else decide ((s.Types.length:Int)≤t))=true
   · refine⟨4,?_,?_,fun h=>by cases h⟩
     · show((if(bif decide (t < 0)then true else decide ((s.Types.length:Int)≤t))=true then some (4:Int)else some 0) >>=_)=_;rw[if_pos hout];rfl
     · show(if(bif decide (t < 0)then true else decide ((s.Types.length:Int)≤t))=true then some (4:Int)else _)=_;rw[if_pos hout]
   · have hk:=gwj hT hst;obtain⟨r,r1,r2⟩:=gco (by omega) hT hk hv t false;rw[g9q]at r1 r2;have hin:0≤t∧t < s.Types.length:=by
       simp only[Bool.cond_eq_ite]at hout;by_cases h0:t < 0
       · simp[h0]at hout
       · simp[h0]at hout;omega
     refine⟨if(!r)=true then 1 else 0,?_,?_,?_⟩
     · show((if(bif decide (t < 0)then true else decide ((s.Types.length:Int)≤t))=true then some (4:Int)else some 0) >>=_)=_;rw[if_neg hout];show(g5i (s,t,v) >>=_)=_;rw[g5i];simp only[g9q,SValue.ge];rw[r1];cases r <;> rfl
     · show(if(bif decide (t < 0)then true else decide ((s.Types.length:Int)≤t))=true then some (4:Int)else _)=_;rw[if_neg hout];show(g33 (s,t,v) >>=_)=_;rw[g33];simp only[SValue.ge];rw[r2];cases r <;> rfl
     · intro h;cases r with
       | false=>simp at h
       | true=>exact⟨h32,hst,hin.1,hin.2,r1⟩
 · have hd:(!(decide (e=0)))=true:=by simp[h0]
   refine⟨e,?_,?_,fun h=>absurd h h0⟩
   · show((if(!(decide (e=0)))=true then some e else _) >>=fun r=>if(!(decide (r=0)))=true then some r else _)=_;rw[if_pos hd];show(if(!(decide (e=0)))=true then some e else _)=_;rw[if_pos hd]
   · show(if(!(decide (e=0)))=true then some e else _)=_;rw[if_pos hd]
end
section
open Go Go.Proofs.YtijpinendaoleaaGreat.Shv
set_option maxRecDepth 100000
set_option linter.all false
end
section
open Go Go.Proofs.YtijpinendaoleaaGreat.Shv Go.Sort
set_option maxRecDepth 100000
section
variable {α:Type}
end
mutual
def wt :SValue→Nat
 | ⟨_,_,_,s,_,ks,is,r⟩=>10+s.length+(r.map fun x=>x.Data.length+1).sum+wts ks+wts is
def wts :List SValue→Nat
 | []=>0
 | v::l=>wt v+wts l
end
structure Fd where
 id:Nat
 c:Bool
 p:List UInt8
instance:Inhabited Fd:=⟨⟨0,false,[]⟩⟩
def Fd.text(f:Fd) :List UInt8:=g14g f.id f.c f.p
def findM(l:List SMember)(id:Int) :Option SMember:=l.find? fun m=>decide (m.ID=id)
def I1000(n:Int) :Prop:=1≤n∧n≤1000
def ghg(ms:List SMember)(r:List SRaw) :Prop:=r.Pairwise (fun a b=>a.ID < b.ID)∧∀x,x∈r→I1000 x.ID∧findM ms x.ID=none
def vcmp(a b:SValue) :Int:=(g6a (a,b)).getD 0
def g68(ks:List SValue) :Prop:=∀i,i+1 < ks.length→vcmp (ks.getD i dSValue) (ks.getD (i+1) dSValue) < 0
mutual
def vfit(ts:List SType)(pl:Bool)(t:Int) :SValue→Prop
 | ⟨k,b,i,s,id,ks,is,r⟩=>
   let x:=ts.getD t.toNat dSType
   (0≤t∧t < ts.length∧k=x.Kind∧(pl=true→r=[]))∧
   (k=1∧i=0∧s=[]∧id=0∧ks=[]∧is=[]∧r=[]∨
   k=2∧b=false∧s=[]∧id=0∧ks=[]∧is=[]∧r=[]∧x.Low≤i∧i≤x.High∨
   k=3∧b=false∧i=0∧id=0∧ks=[]∧is=[]∧r=[]∧(s.length:Int)≤x.Max∨
   k=4∧b=false∧i=0∧s=[]∧ks=[]∧is=[]∧r=[]∧((∃y,y∈x.Symbols∧y.ID=id)∨x.Open=true∧pl=false∧I1000 id)∨
   k=5∧b=false∧i=0∧s=[]∧id=0∧ks=[]∧ghg x.Members r∧vfitm ts pl x.Members is∨
   k=6∧b=false∧i=0∧s=[]∧ks=[]∧(match findM x.Members id with
     | some m=>r=[]∧is.length=1∧vfits ts pl m.Type_ is
     | none=>x.Open=true∧pl=false∧I1000 id∧is=[]∧∃d,r=[⟨id,d⟩])∨
   k=7∧b=false∧i=0∧s=[]∧id=0∧ks=[]∧r=[]∧(is.length:Int)≤x.Max∧vfits ts pl x.Elem is∨
   k=8∧b=false∧i=0∧s=[]∧id=0∧r=[]∧(ks.length:Int)≤x.Max∧is.length=ks.length∧vfits ts pl x.Key ks∧vfits ts pl x.Elem is∧g68 ks∨
   k=9∧b=false∧i=0∧s=[]∧id=0∧ks=[]∧r=[]∧is.length≤1∧vfits ts pl x.Elem is)
def vfits(ts:List SType)(pl:Bool)(t:Int) :List SValue→Prop
 | []=>True
 | v::l=>vfit ts pl t v∧vfits ts pl t l
def vfitm(ts:List SType)(pl:Bool) :List SMember→List SValue→Prop
 | m::ms,v::l=>vfit ts pl m.Type_ v∧vfitm ts pl ms l
 | [],[]=>True
 | _,_=>False
end
theorem wt_eq(v:SValue) :wt v=10+v.Str.length+(v.Rest.map fun x=>x.Data.length+1).sum+wts v.Keys+wts v.Items:=by
 cases v;rw[wt]
theorem g5k(v:SValue)(l:List SValue) :wts (v::l)=wt v+wts l:=by rw[wts]
theorem g5m :wts []=0:=by rw[wts]
theorem gun :∀{l:List SValue} {x:SValue},x∈l→wt x≤wts l
 | y::l,x,h=>by
   rw[g5k];rcases List.mem_cons.1 h with rfl | h
   · omega
   · have:=gun h;omega
section
variable {ts:List SType}
def MOk(ts:List SType) :Prop:=∀x,x∈ts→∀m,m∈x.Members→m.ID≤1000
end
section
variable (ts:List SType)
end
section
variable {ts:List SType}
def MAsc(ms:List SMember) :Prop:=ms.Pairwise (fun a b=>a.ID < b.ID)∧∀m,m∈ms→I1000 m.ID
theorem gwm{ms:List SMember}{id:Int}(h:findM ms id=none) :∀m,m∈ms→m.ID≠id:=by
 unfold findM at h;rw[List.find?_eq_none]at h;intro m hm;simpa using h m hm
end
section
variable {ts:List SType} {pl:Bool}
theorem g1q :∀{l:List SValue} {t:Int},vfits ts pl t l↔∀x,x∈l→vfit ts pl t x
 | [],t=>by rw[vfits];simp
 | v::l,t=>by
   rw[vfits,g1q];constructor
   · rintro ⟨h1,h2⟩ x hx
     rcases List.mem_cons.1 hx with rfl | hx
     · exact h1
     · exact h2 x hx
   · intro h;exact⟨h v (.head _),fun x hx=>h x (.tail _ hx)⟩
theorem g4d :∀{ms:List SMember} {l:List SValue},vfitm ts pl ms l↔l.length=ms.length∧∀i,i < ms.length→vfit ts pl (ms.getD i dSMember).Type_ (l.getD i dSValue)
 | [],[]=>by
   have:vfitm ts pl [] []=True:=by rw[vfitm]
   rw[this];simp
 | [],v::l=>by
   have:vfitm ts pl [] (v::l)=False:=by rw[vfitm] <;> (intros;simp_all)
   rw[this];simp
 | m::ms,[]=>by
   have:vfitm ts pl (m::ms) []=False:=by rw[vfitm] <;> (intros;simp_all)
   rw[this];simp
 | m::ms,v::l=>by
   rw[vfitm,g4d];constructor
   · rintro ⟨h1,h2,h3⟩
     refine⟨by simp[h2],fun i hi=>?_⟩;cases i with
     | zero=>exact h1
     | succ i=>exact h3 i (by simpa using hi)
   · rintro ⟨h1,h2⟩
     exact⟨h2 0 (by simp),by simpa using h1,fun i hi=>h2 (i+1) (by simpa using hi)⟩
end
end
section
open Go Go.Proofs.YtijpinendaoleaaGreat.Shv Go.Sort
set_option maxRecDepth 100000
def SaysP(o:Option Bool)(P:Prop) :Prop:=∃r,o=some r∧(r=true↔P)
theorem SaysP.imp{o:Option Bool}{P Q:Prop}(h:SaysP o P)(e:P↔Q) :SaysP o Q:=by
 obtain⟨r,h1,h2⟩:=h;exact⟨r,h1,h2.trans e⟩
theorem SaysP.of{b:Bool}{P:Prop}(e:b=true↔P) :SaysP (some b) P:=⟨b,rfl,e⟩
theorem SaysP.loop {L : Nat → Option (Bool ⊕ Unit)} {n : Nat} {p : Nat → Bool} {g : Unit} {o : Option (Bool ⊕ Unit)} (h0 : o = L 0) (hstep : ∀ i, i < n → L i = if p i = true then L (i + 1) else some (.inl false)) (hend : L n = some (.inr g)) :
   SaysP (o >>=fun o=>match o with | .inl x=>some x | .inr _=>some true) (∀i,i < n→p i=true):=by
 subst h0;rcases scan L n p (.inl false) (.inr g) hstep hend with⟨h1,h2⟩ | ⟨h1,j,h2,h3⟩
 · rw[h1];exact⟨true,rfl,by simpa using h2⟩
 · rw[h1];refine⟨false,rfl,?_⟩;constructor
   · intro h;cases h
   · intro h;have:=h j h2;rw[h3]at this;cases this
theorem gl4{α:Type}(f:α→Int)(d:α) :∀l:List α,l.Pairwise (fun a b=>f a < f b)↔∀i,i+1 < l.length→f (l.getD i d) < f (l.getD (i+1) d)
 | []=>by simp
 | [a]=>by simp
 | a::b::l=>by
   rw[List.pairwise_cons,gl4 f d (b::l)];constructor
   · rintro ⟨h1,h2⟩ i hi
     cases i with
     | zero=>exact h1 b (.head _)
     | succ i=>exact h2 i (by simpa using hi)
   · intro h;have h2:∀i,i+1 < (b::l).length→f ((b::l).getD i d) < f ((b::l).getD (i+1) d):=fun i hi=>h (i+1) (by simpa using hi)
     refine⟨fun x hx=>?_,h2⟩;have h0:=h 0 (by simp);simp only[List.getD_cons_zero,List.getD_cons_succ]at h0;have h3:=(gl4 f d (b::l)).2 h2;rw[List.pairwise_cons]at h3;rcases List.mem_cons.1 hx with rfl | hx
     · exact h0
     · have:=h3.1 x hx;omega
section
variable {ts:List SType}
def FitS(ts:List SType)(x:SValue) :Prop:=∀t pl,SaysP (g19 ((⟨ts⟩:SSchema),t,x,pl)) (vfit ts pl t x)
theorem gsn{l:List SValue}(hl:l.length≤reachBytes)(ih:∀x,x∈l→FitS ts x)(t:Int)(pl:Bool) :SaysP (g3i ((⟨ts⟩:SSchema),t,l,pl)) (vfits ts pl t l):=by
 have hr:=g1e hl
 let p:Nat→Bool:=fun i=>(g19 ((⟨ts⟩:SSchema),t,l.getD i dSValue,pl)).getD false
 have hp:∀i,i < l.length→g19 ((⟨ts⟩:SSchema),t,l.getD i dSValue,pl)=some (p i)∧(p i=true↔vfit ts pl t (l.getD i dSValue)):=by
   intro i hi;obtain⟨r,h1,h2⟩:=ih _ (gg hi dSValue) t pl;refine⟨by simp only[p,h1,Option.getD_some],?_⟩;simp only[p,h1,Option.getD_some];exact h2
 rw[g3i];refine(SaysP.loop (L:=fun i=>g1h (t,l,pl,(i:Int),ts)) (n:=l.length) (p:=p) (g:=()) rfl (fun i hi=>?_) ?_).imp ?_
 · show g1h (t,l,pl,(i:Int),ts)=if p i=true then g1h (t,l,pl,((i+1:Nat):Int),ts)else _
   rw[g1h,if_pos (by simp;omega),if_pos (g6 hi)];simp only[SValue.ge,g7];rw[(hp i hi).1,gp (by omega)];cases p i <;> rfl
 · show g1h (t,l,pl,(l.length:Int),ts)=_;rw[g1h,if_neg (by simp)]
 · rw[g1q];constructor
   · intro h x hx;obtain⟨i,hi,rfl⟩:=List.getElem_of_mem hx;have:=(hp i hi).2.1 (h i hi);rw[gk hi]at this;exact this
   · intro h i hi;exact(hp i hi).2.2 (h _ (gg hi dSValue))
theorem gg3{l:List SMember}{id:Int}{r:Int × Bool}(h:ghb l id r) :(r.2=true∧∃j:Nat,j < l.length∧r.1=(j:Int)∧findM l id=some (l.getD j dSMember)∧(l.getD j dSMember).ID=id)∨(r.2=false∧findM l id=none):=by
 rcases h with⟨j,h1,h2,h3,rfl⟩ | ⟨h1,rfl⟩
 · refine .inl ⟨rfl,j,h1,rfl,?_,h2⟩;unfold findM;rw[List.find?_eq_some_iff_getElem];refine⟨by rw[decide_eq_true_eq];exact h2,j,h1,(gk h1 _).symm,fun k hk=>?_⟩;have:=h3 k hk;rw[gk (by omega)]at this
   simpa using this
 · refine .inr ⟨rfl,?_⟩;unfold findM;rw[List.find?_eq_none];intro m hm;obtain⟨i,hi,rfl⟩:=List.getElem_of_mem hm;have:=h1 i hi;rw[gk hi]at this
   simpa using this
theorem gyu{t:SType}(ht:t.Members.length < 9223372036854775807){l:List SRaw}(hl:l.length≤reachBytes) :SaysP (g4b (t,l)) (ghg t.Members l):=by
 have hr:=g1e hl;rw[g4b]
 let p:Nat→Bool:=fun i=>!((g3b (t,(l.getD i dSRaw).ID)).getD (0,false)).2 && (bif decide (1≤(l.getD i dSRaw).ID)then decide ((l.getD i dSRaw).ID≤1000)else false) && (!(decide ((0:Int) < (i:Int))) || !(decide ((l.getD i dSRaw).ID≤(l.getD (subI .i64 (i:Int) 1).toNat dSRaw).ID)))
 refine(SaysP.loop (L:=fun i=>g17 (l,(i:Int),t)) (n:=l.length) (p:=p) (g:=()) rfl (fun i hi=>?_) ?_).imp ?_
 · show g17 (l,(i:Int),t)=if p i=true then g17 (l,((i+1:Nat):Int),t)else _
   obtain⟨r,h1,h2,_⟩:=g6m (t:=t) (l.getD i dSRaw).ID ht;have hpi:p i=(!r.2 && (bif decide (1≤(l.getD i dSRaw).ID)then decide ((l.getD i dSRaw).ID≤1000)else false) && (!(decide ((0:Int) < (i:Int))) || !(decide ((l.getD i dSRaw).ID≤(l.getD (subI .i64 (i:Int) 1).toNat dSRaw).ID)))):=by simp only[p,h1,Option.getD_some]
   rw[hpi,g17,if_pos (by simp;omega),if_pos (g6 hi)];simp only[g7];rw[h2,gp (by omega)];have hid:g16 ((l.getD i dSRaw).ID,r.2)=some ((!r.2) && (bif decide (1≤(l.getD i dSRaw).ID)then decide ((l.getD i dSRaw).ID≤1000)else false)):=by
     rw[g16];cases r.2 <;> cases decide (1≤(l.getD i dSRaw).ID) <;> rfl
   show(if inR (i:Int) l.length=true then g16 ((l.getD i dSRaw).ID,r.2) >>=_ else none)=_;rw[if_pos (g6 hi),hid]
   exact gma ((!r.2) && (bif decide (1≤(l.getD i dSRaw).ID)then decide ((l.getD i dSRaw).ID≤1000)else false)) (inR (i:Int) l.length) (decide ((0:Int) < (i:Int))) (subI .i64 (i:Int) 1) (fun j=>inR j l.length) (fun j=>decide ((l.getD i dSRaw).ID≤(l.getD j.toNat dSRaw).ID)) _ _ (g6 hi) (fun hz=>by
     have:0 < i:=by simp at hz;omega
     show inR _ _=true
     rw[g8a this (by omega)];exact g6 (by omega))
 · show g17 (l,(l.length:Int),t)=_;rw[g17,if_neg (by simp)]
 · unfold ghg;rw[gl4 (fun a:SRaw=>a.ID) dSRaw];have key:∀i,i < l.length→(p i=true↔(I1000 (l.getD i dSRaw).ID∧findM t.Members (l.getD i dSRaw).ID=none)∧(i=0∨(l.getD (i - 1) dSRaw).ID < (l.getD i dSRaw).ID)):=by
     intro i hi;obtain⟨r,h1,h2,hf⟩:=g6m (t:=t) (l.getD i dSRaw).ID ht;have hpi:p i=(!r.2 && (bif decide (1≤(l.getD i dSRaw).ID)then decide ((l.getD i dSRaw).ID≤1000)else false) && (!(decide ((0:Int) < (i:Int))) || !(decide ((l.getD i dSRaw).ID≤(l.getD (subI .i64 (i:Int) 1).toNat dSRaw).ID)))):=by simp only[p,h1,Option.getD_some]
     rw[hpi];have hn:r.2=false↔findM t.Members (l.getD i dSRaw).ID=none:=by
       rcases gg3 hf with⟨a,j,_,_,b,_⟩ | ⟨a,b⟩
       · rw[a,b];simp
       · rw[a,b];simp
     rw[←hn];unfold I1000;by_cases h0:i=0
     · subst h0;cases r.2 <;> by_cases g1:1≤(l.getD 0 dSRaw).ID <;> by_cases g2:(l.getD 0 dSRaw).ID≤1000 <;> simp[g1,g2]
     · have hz:decide ((0:Int) < (i:Int))=true:=by simp;omega
       rw[hz,g8a (by omega) (by omega),g7];generalize (l.getD (i - 1) dSRaw).ID=y;generalize (l.getD i dSRaw).ID=x;cases r.2 <;> by_cases g1:1≤x <;> by_cases g2:x≤1000 <;> by_cases g3:y < x <;> simp[h0,g1,g2,g3] <;> omega
   constructor
   · intro h;refine⟨fun i hi=>?_,fun x hx=>?_⟩
     · have:=((key (i+1) hi).1 (h _ hi)).2;rcases this with h | h
       · omega
       · exact h
     · obtain⟨i,hi,rfl⟩:=List.getElem_of_mem hx;have:=((key i hi).1 (h _ hi)).1;rw[gk hi]at this;exact this
   · rintro ⟨h1,h2⟩ i hi
     refine(key i hi).2 ⟨h2 _ (gg hi dSRaw),?_⟩;by_cases h0:i=0
     · exact .inl h0
     · right;have:=h1 (i - 1) (by omega);have e:i - 1+1=i:=by omega
       rw[e]at this;exact this
theorem gwn {t : SType} {v : SValue} (hl : v.Items.length = t.Members.length) (hr : t.Members.length < 9223372036854775807) (ih : ∀ x, x ∈ v.Items → FitS ts x) (pl : Bool) :
   SaysP (g12 (pl,0,ts,v,t.Kind,t.Name,t.Low,t.High,t.Max,t.Symbols,t.Members,t.Key,t.Elem,t.Open) >>=fun o=>match o with | .inl o_1=>some o_1 | .inr _=>some true) (vfitm ts pl t.Members v.Items):=by
 let p:Nat→Bool:=fun i=>(g19 ((⟨ts⟩:SSchema),(t.Members.getD i dSMember).Type_,v.Items.getD i dSValue,pl)).getD false
 have hp:∀i,i < t.Members.length→g19 ((⟨ts⟩:SSchema),(t.Members.getD i dSMember).Type_,v.Items.getD i dSValue,pl)=some (p i)∧(p i=true↔vfit ts pl (t.Members.getD i dSMember).Type_ (v.Items.getD i dSValue)):=by
   intro i hi;obtain⟨r,h1,h2⟩:=ih _ (gg (by omega:i < v.Items.length) dSValue) (t.Members.getD i dSMember).Type_ pl;refine⟨by simp only[p,h1,Option.getD_some],?_⟩;simp only[p,h1,Option.getD_some];exact h2
 refine(SaysP.loop (L:=fun i=>g12 (pl,(i:Int),ts,v,t.Kind,t.Name,t.Low,t.High,t.Max,t.Symbols,t.Members,t.Key,t.Elem,t.Open)) (n:=t.Members.length) (p:=p) (g:=()) rfl (fun i hi=>?_) ?_).imp ?_
 · show g12 (pl,(i:Int),ts,v,t.Kind,t.Name,t.Low,t.High,t.Max,t.Symbols,t.Members,t.Key,t.Elem,t.Open)=if p i=true then g12 (pl,((i+1:Nat):Int),ts,v,t.Kind,t.Name,t.Low,t.High,t.Max,t.Symbols,t.Members,t.Key,t.Elem,t.Open)else _
   rw[g12,if_pos (by simp;omega),if_pos (g6 hi),if_pos (g6 (by omega))];simp only[g7,SValue.ge];rw[(hp i hi).1,gp (by omega)];cases p i <;> rfl
 · show g12 (pl,(t.Members.length:Int),ts,v,t.Kind,t.Name,t.Low,t.High,t.Max,t.Symbols,t.Members,t.Key,t.Elem,t.Open)=_;rw[g12,if_neg (by simp;omega)]
 · rw[g4d];constructor
   · intro h;exact⟨hl,fun i hi=>(hp i hi).2.1 (h i hi)⟩
   · rintro ⟨_,h⟩ i hi;exact(hp i hi).2.2 (h i hi)
theorem gyv {v : SValue} (hr : v.Keys.length < 9223372036854775807) (hk : ∀ x, x ∈ v.Keys → OkV x) :
   SaysP (gw (1,v) >>=fun o_3=>match o_3 with | .inl o_4=>some o_4 | .inr _=>some true) (g68 v.Keys):=by
 by_cases h0:v.Keys.length=0
 · rw[gw,if_neg (by simp[h0])];refine⟨true,rfl,?_⟩;unfold g68;simp only[true_iff];intro i hi;omega
 refine(SaysP.loop (L:=fun i=>gw (((i+1:Nat):Int),v)) (n:=v.Keys.length - 1) (p:=fun i=>!(decide (0≤vcmp (v.Keys.getD i dSValue) (v.Keys.getD (i+1) dSValue)))) (g:=()) rfl (fun i hi=>?_) ?_).imp ?_
 · show gw (((i+1:Nat):Int),v)=if _ then gw (((i+1+1:Nat):Int),v)else _
   have hs':subI .i64 ((i+1:Nat):Int) 1=(i:Int):=by rw[g8a (by omega) (by omega)];simp
   obtain⟨r,c1,c2⟩:=ges (gdo (hk _ (gg (by omega:i < v.Keys.length) dSValue))) (gdo (hk _ (gg (by omega:i+1 < v.Keys.length) dSValue)));have hv:vcmp (v.Keys.getD i dSValue) (v.Keys.getD (i+1) dSValue)=r:=by unfold vcmp;rw[c1];rfl
   rw[hv,gw,if_pos (by simp;omega)];simp only[oZ4,oZ3];rw[hs',if_pos (g6 (by omega)),if_pos (g6 (by omega))];simp only[g7,SValue.ge];rw[c2,gp (by omega)];simp only[oZ3];cases decide (0≤r) <;> rfl
 · have e:v.Keys.length - 1+1=v.Keys.length:=by omega
   show gw (((v.Keys.length - 1+1:Nat):Int),v)=_;rw[e,gw,if_neg (by simp)]
 · unfold g68;constructor
   · intro h i hi;have:=h i (by omega)
     simpa using this
   · intro h i hi;have:=h i (by omega)
     simpa using this
theorem g10 (pl : Bool) (t : Int) (v : SValue) : vfit ts pl t v ↔
   (0≤t∧t < ts.length∧v.Kind=(ts.getD t.toNat dSType).Kind∧(pl=true→v.Rest=[]))∧
   (v.Kind=1∧v.Int_=0∧v.Str=[]∧v.ID=0∧v.Keys=[]∧v.Items=[]∧v.Rest=[]∨
   v.Kind=2∧v.Bool_=false∧v.Str=[]∧v.ID=0∧v.Keys=[]∧v.Items=[]∧v.Rest=[]∧(ts.getD t.toNat dSType).Low≤v.Int_∧v.Int_≤(ts.getD t.toNat dSType).High∨
   v.Kind=3∧v.Bool_=false∧v.Int_=0∧v.ID=0∧v.Keys=[]∧v.Items=[]∧v.Rest=[]∧(v.Str.length:Int)≤(ts.getD t.toNat dSType).Max∨
   v.Kind=4∧v.Bool_=false∧v.Int_=0∧v.Str=[]∧v.Keys=[]∧v.Items=[]∧v.Rest=[]∧((∃y,y∈(ts.getD t.toNat dSType).Symbols∧y.ID=v.ID)∨(ts.getD t.toNat dSType).Open=true∧pl=false∧I1000 v.ID)∨
   v.Kind=5∧v.Bool_=false∧v.Int_=0∧v.Str=[]∧v.ID=0∧v.Keys=[]∧ghg (ts.getD t.toNat dSType).Members v.Rest∧vfitm ts pl (ts.getD t.toNat dSType).Members v.Items∨
   v.Kind=6∧v.Bool_=false∧v.Int_=0∧v.Str=[]∧v.Keys=[]∧(match findM (ts.getD t.toNat dSType).Members v.ID with
     | some m=>v.Rest=[]∧v.Items.length=1∧vfits ts pl m.Type_ v.Items
     | none=>(ts.getD t.toNat dSType).Open=true∧pl=false∧I1000 v.ID∧v.Items=[]∧∃d,v.Rest=[⟨v.ID,d⟩])∨
   v.Kind=7∧v.Bool_=false∧v.Int_=0∧v.Str=[]∧v.ID=0∧v.Keys=[]∧v.Rest=[]∧(v.Items.length:Int)≤(ts.getD t.toNat dSType).Max∧vfits ts pl (ts.getD t.toNat dSType).Elem v.Items∨
   v.Kind=8∧v.Bool_=false∧v.Int_=0∧v.Str=[]∧v.ID=0∧v.Rest=[]∧(v.Keys.length:Int)≤(ts.getD t.toNat dSType).Max∧v.Items.length=v.Keys.length∧vfits ts pl (ts.getD t.toNat dSType).Key v.Keys∧vfits ts pl (ts.getD t.toNat dSType).Elem v.Items∧g68 v.Keys∨
   v.Kind=9∧v.Bool_=false∧v.Int_=0∧v.Str=[]∧v.ID=0∧v.Keys=[]∧v.Rest=[]∧v.Items.length≤1∧vfits ts pl (ts.getD t.toNat dSType).Elem v.Items):=by
 cases v;rw[vfit];try exact Iff.rfl
end
end
section
open Go Go.Proofs.YtijpinendaoleaaGreat.Shv Go.Sort
set_option maxRecDepth 100000
def ZeroV(v:SValue) :Prop:=(v.Kind=1∨v.Bool_=false)∧(v.Kind=2∨v.Int_=0)∧(v.Kind=3∨v.Str=[])∧((v.Kind=4∨v.Kind=6)∨v.ID=0)∧(v.Kind=8∨v.Keys=[])∧(5≤v.Kind∨v.Items=[])∧((v.Kind=5∨v.Kind=6)∨v.Rest=[])
theorem gyw(v:SValue) :SaysP (g57 v) (ZeroV v):=by
 rw[g57];refine .of ?_;unfold ZeroV;have e:∀{α:Type} (l:List α),((l.length:Int)=0)↔l=[]:=fun l=>by
   cases l with
   | nil=>simp
   | cons a l=>simp;omega
 simp only[Bool.cond_eq_ite,Bool.ite_eq_true_distrib,e];have h1:∀{a b:Bool},(if a=true then true else b)=true↔(a=true∨b=true):=fun {a b}=>by cases a <;> simp
 have h2:∀{a b:Bool},(if a=true then b else false)=true↔(a=true∧b=true):=fun {a b}=>by cases a <;> simp
 simp[and_assoc];constructor
 · rintro h
   simp_all
   grind
 · grind
theorem cutS{z b:Bool}{o:Option Bool}{P Z Q:Prop}(hz:z=true↔Z)(hb:b=false↔Q)(ho:SaysP o P) :SaysP (if(bif (bif false then true else(!z))then true else b)=true then some false else o) (Z∧Q∧P):=by
 obtain⟨r,rfl,h⟩:=ho;cases z with
 | false=>
   refine⟨false,rfl,?_⟩;simp at hz;simp[hz]
 | true=>
   cases b with
   | true=>refine⟨false,rfl,?_⟩;simp at hb;simp[hb]
   | false=>refine⟨r,rfl,?_⟩;simp at hz hb;simp[hz,hb,h]
theorem and2S{q:Bool}{o:Option Bool}{P Q:Prop}(hq:q=true↔Q)(ho:SaysP o P) :SaysP (some q >>=fun t244=>(if t244=true then o else some false) >>=fun r_10=>some (bif t244 then r_10 else false)) (Q∧P):=by
 obtain⟨r,rfl,h⟩:=ho;refine⟨q && r,by cases q <;> cases r <;> rfl,?_⟩;rw[Bool.and_eq_true,hq,h]
theorem and5S {A : Bool} {ro L : Option Bool} {PA PR PM : Prop} (hA : A = true ↔ PA) (hr : SaysP ro PR) (hM : A = true → SaysP L PM) :
   SaysP (some (!A) >>=fun t107=>(if(!t107)=true then ro else some false) >>=fun r_5=>if(bif t107 then true else(!r_5))=true then some false else L) (PA∧PR∧PM):=by
 obtain⟨q,rfl,hq⟩:=hr;cases A with
 | false=>refine⟨false,rfl,?_⟩;simp at hA;simp[hA]
 | true=>
   obtain⟨m,rfl,hm⟩:=hM rfl;cases q with
   | false=>refine⟨false,rfl,?_⟩;simp at hq;simp[hq]
   | true=>refine⟨m,rfl,?_⟩;simp at hA hq;simp[hA,hq,hm]
theorem and8S {c : Bool} {ok oi L : Option Bool} {PC PK PI PQ : Prop} (hc : c = false ↔ PC) (hk : SaysP ok PK) (hi : SaysP oi PI) (hL : SaysP L PQ) :
   SaysP (some c >>=fun t239=>(if(!t239)=true then ok else some false) >>=fun r_12=>some (bif t239 then true else(!r_12)) >>=fun t249=>(if(!t249)=true then oi else some false) >>=fun r_13=>if(bif t249 then true else(!r_13))=true then some false else L) (PC∧PK∧PI∧PQ):=by
 obtain⟨k,rfl,hk⟩:=hk;obtain⟨i,rfl,hi⟩:=hi;obtain⟨q,rfl,hq⟩:=hL;rw[←hc,←hk,←hi,←hq];cases c <;> cases k <;> cases i <;> exact⟨_,rfl,by simp⟩
theorem goo{l:List SSymbol}{id:Int}{r:Int × Bool}(h:ghe l id r) :r.2=true↔∃y,y∈l∧y.ID=id:=by
 rcases h with⟨j,h1,h2,h3,rfl⟩ | ⟨h1,rfl⟩
 · simp only[true_iff];exact⟨_,gg h1 dSSymbol,h2⟩
 · constructor
   · intro h;cases h
   · rintro ⟨y,hy,he⟩
     obtain⟨i,hi,rfl⟩:=List.getElem_of_mem hy;have:=h1 i hi;rw[gk hi]at this;exact absurd he this
section
variable {ts:List SType} (hn:ts.length < 9223372036854775807) (hT:∀t,t∈ts→OkT t) (hK:∀t,t∈ts→ga3 t.Kind)
include hn hT hK in
theorem gad{v:SValue}(hv:OkV v) :FitS ts v:=by
 induction hv with
 | mk v hs h1 h2 h3 hk hi hrd n1 n2 n3 n4 ihk ihi=>
   intro t pl;rw[g19];by_cases hout:(bif decide (t < 0)then true else decide (((⟨ts⟩:SSchema).Types.length:Int)≤t))=true
   · rw[if_pos hout];refine⟨false,rfl,?_⟩;rw[g10];have:¬(0≤t∧t < ts.length):=by
       intro hh;simp only[Bool.cond_eq_ite]at hout;by_cases h0:t < 0
       · omega
       · simp[h0]at hout;omega
     constructor
     · intro h;cases h
     · rintro ⟨⟨a,b,_⟩,_⟩;exact absurd ⟨a,b⟩ this
   · rw[if_neg hout];have hin:0≤t∧t < ts.length:=by
       simp only[Bool.cond_eq_ite]at hout;by_cases h0:t < 0
       · simp[h0]at hout
       · simp[h0]at hout;omega
     obtain⟨j,rfl⟩:∃j:Nat,t=(j:Int):=⟨t.toNat,by omega⟩
     have hj:j < ts.length:=by omega
     rw[if_pos (g6 hj)];simp only[g10,g7,SValue.ge];have hxT:=hT _ (gg hj dSType);have hxK:=hK _ (gg hj dSType);generalize ts.getD j dSType=x at hxT hxK ⊢;have hm:=g1e (g58 hxT.mems);have hsy:=g1e (g58 hxT.syms);by_cases hkd:v.Kind=x.Kind
     · obtain⟨z,z1,z2⟩:=gyw v;have hitems:=gsn (ts:=ts) h2 ihi;have hkeys:=gsn (ts:=ts) h1 ihk;show SaysP ((if(!(!(decide (v.Kind=x.Kind))))=true then g57 v else some false) >>=_) _;rw[if_pos (by simp[hkd]),z1];obtain⟨K,N,L,H,M,S,Ms,Ke,E,O⟩:=x;obtain⟨vK,B,I,Sx,ID,Ks,Is,R⟩:=v;simp only at hkd;subst hkd;simp only at hxK hm hsy h1 h2 h3 z1
       have hb:(bif pl then decide (0 < (R.length:Int))else false)=false↔(pl=true→R=[]):=by
         cases pl
         · simp
         · cases R <;> simp
       have hc:vK=1∨vK=2∨vK=3∨vK=4∨vK=5∨vK=6∨vK=7∨vK=8∨vK=9:=by unfold ga3 at hxK;omega
       have cut : ∀ {o : Option Bool} {P W : Prop}, SaysP o P → ((ZeroV ⟨vK, B, I, Sx, ID, Ks, Is, R⟩ ∧ (pl = true → R = []) ∧ P) ↔ W) →
           SaysP (some z >>=fun r=>if(bif (bif false then true else(!r))then true else bif pl then decide (0 < (R.length:Int))else false)=true then some false else o) W:=fun ho hw=>(cutS z2 hb ho).imp hw
       have hz:(0:Int)≤j∧(j:Int) < ts.length:=hin;rcases hc with rfl | rfl | rfl | rfl | rfl | rfl | rfl | rfl | rfl
       · exact cut (P:=True) (.of (b:=true) (by simp)) (by unfold ZeroV;simp[hz];grind)
       · exact cut (P:=L≤I∧I≤H) (.of (b:=bif decide (L≤I)then decide (I≤H)else false) (by by_cases g:L≤I <;> simp[g])) (by unfold ZeroV;simp[hz];grind)
       · exact cut (P:=(Sx.length:Int)≤M) (.of (b:=decide ((Sx.length:Int)≤M)) (by simp)) (by unfold ZeroV;simp[hz];grind)
       · obtain⟨r,_,r2,hf⟩:=ga2 (t:=⟨4,N,L,H,M,S,Ms,Ke,E,O⟩) ID hsy;have hid:g16 (ID,false)=some (bif decide (1≤ID)then decide (ID≤1000)else false):=by
           rw[g16];cases decide (1≤ID) <;> rfl
         have h4:=k4r r2 O pl _ (fun b=>g16 (ID,b)) hid;have hs:=goo hf;simp only at hs;refine cut (P:=(∃y,y∈S∧y.ID=ID)∨O=true∧pl=false∧I1000 ID) ⟨_,h4,?_⟩ (by unfold ZeroV;simp[hz];grind);rw[←hs];unfold I1000;cases r.2 <;> cases O <;> cases pl <;> by_cases g1:1≤ID <;> by_cases g2:ID≤1000 <;> simp[g1,g2]
       · refine cut (P:=Is.length=Ms.length∧ghg Ms R∧vfitm ts pl Ms Is) ?_ (by
           have:vfitm ts pl Ms Is→Is.length=Ms.length:=fun h=>(g4d.1 h).1
           unfold ZeroV;simp[hz];grind)
         exact and5S (A:=decide ((Is.length:Int)=(Ms.length:Int))) (by simp;omega) (gyu (t:=⟨5,N,L,H,M,S,Ms,Ke,E,O⟩) hm h3) (fun hA=>gwn (ts:=ts) (t:=⟨5,N,L,H,M,S,Ms,Ke,E,O⟩) (v:=⟨5,B,I,Sx,ID,Ks,Is,R⟩) (gon hA) hm ihi pl)
       · obtain⟨r,_,r2,hf⟩:=g6m (t:=⟨6,N,L,H,M,S,Ms,Ke,E,O⟩) ID hm;have hid:∀b,b=false→g16 (ID,b)=some (bif decide (1≤ID)then decide (ID≤1000)else false):=by
           intro b hb;subst hb;rw[g16];cases decide (1≤ID) <;> rfl
         have hR0:decide ((R.length:Int)=1)=true→inR 0 R.length=true:=by
           intro h;have:=of_decide_eq_true h;exact g6 (k:=0) (by omega)
         refine cut (P:=match findM Ms ID with
           | some m=>R=[]∧Is.length=1∧vfits ts pl m.Type_ Is
           | none=>O=true∧pl=false∧I1000 ID∧Is=[]∧∃d,R=[⟨ID,d⟩]) ?_ (by
             unfold ZeroV;simp[hz]
             cases findM Ms ID <;> grind)
         obtain⟨ri,rk⟩:=r;show SaysP (g1c (⟨6,N,L,H,M,S,Ms,Ke,E,O⟩,ID) >>=_) _;rw[r2];rcases gg3 hf with⟨e,k,k1,k2,k3,k4⟩ | ⟨e,k3⟩
         · simp only at e k1 k2 k3 k4;subst e;subst k2;rw[k3];have hX:∃f:Bool,((bif decide ((Is.length:Int)=1)then decide ((R.length:Int)=0)else false)=true→g19 ((⟨ts⟩:SSchema),(Ms.getD (k:Int).toNat dSMember).Type_,Is.getD (0:Int).toNat dSValue,pl)=some f)∧(Is.length=1→(f=true↔vfits ts pl (Ms.getD k dSMember).Type_ Is)):=by
             by_cases h1':Is.length=1
             · obtain⟨f,f1,f2⟩:=ihi (Is.getD 0 dSValue) (gg (by omega:0 < Is.length) dSValue) (Ms.getD k dSMember).Type_ pl;refine⟨f,fun _=>f1,fun _=>?_⟩;rw[f2]
               match Is,h1' with
               | [y],_=>rw[g1q];simp
             · refine⟨false,fun h=>?_,fun h=>absurd h h1'⟩
               exfalso
               have:decide ((Is.length:Int)=1)=false:=by simp;omega
               rw[this]at h;cases h
           obtain⟨f,f1,f2⟩:=hX;have hidx:(bif decide ((Is.length:Int)=1)then decide ((R.length:Int)=0)else false)=true→inR (k:Int) Ms.length=true∧inR 0 Is.length=true:=by
             intro hc';refine⟨g6 k1,?_⟩;by_cases h1':Is.length=1
             · exact g6 (k:=0) (by omega)
             · have:decide ((Is.length:Int)=1)=false:=by simp;omega
               rw[this]at hc';cases hc'
           refine⟨_,k6k _ (inR (k:Int) Ms.length) (inR 0 Is.length) f f1 hidx,?_⟩;by_cases g1:Is.length=1
           · have g2:=f2 g1;simp only[g1,Bool.and_eq_true,g2];cases R <;> simp <;> omega
           · have:decide ((Is.length:Int)=1)=false:=by simp;omega
             simp[this,g1]
         · simp only at e k3;subst e;rw[k3];refine⟨_,k6u (bif O then(!pl)else false) (bif decide (1≤ID)then decide (ID≤1000)else false) (decide ((Is.length:Int)=0)) (decide ((R.length:Int)=1)) (inR 0 R.length) (decide ((R.getD (0:Int).toNat dSRaw).ID=ID)) hR0,?_⟩;unfold I1000
           match R with
           | []=>simp
           | [⟨rid,rd⟩]=>
             cases O <;> cases pl <;> by_cases g1:1≤ID <;> by_cases g2:ID≤1000 <;> cases Is <;> by_cases g3:rid=ID <;> simp[g1,g2,g3] <;> omega
           | a::b::c=>simp;omega
       · exact cut (P:=(Is.length:Int)≤M∧vfits ts pl E Is) (and2S (by simp) (hitems E pl)) (by unfold ZeroV;simp[hz];grind)
       · refine cut (P:=((Ks.length:Int)≤M∧Is.length=Ks.length)∧vfits ts pl Ke Ks∧vfits ts pl E Is∧g68 Ks) ?_ (by unfold ZeroV;simp[hz];grind);refine and8S (c:=bif decide (M < (Ks.length:Int))then true else(!(decide ((Is.length:Int)=(Ks.length:Int))))) ?_ (hkeys Ke pl) (hitems E pl) (gyv (v:=⟨8,B,I,Sx,ID,Ks,Is,R⟩) (g1e h1) hk)
         by_cases g1:M < (Ks.length:Int)
         · simp[g1];omega
         · simp[g1];omega
       · exact cut (P:=Is.length≤1∧vfits ts pl E Is) (and2S (q:=decide ((Is.length:Int)≤1)) (by simp;omega) (hitems E pl)) (by unfold ZeroV;simp[hz];grind)
     · refine⟨false,by simp[hkd],?_⟩;constructor
       · intro h;cases h
       · rintro ⟨⟨_,_,a,_⟩,_⟩;exact absurd a hkd
end
end
section
open Go Go.Proofs.YtijpinendaoleaaGreat.Shv Go.Sort
set_option maxRecDepth 100000
theorem gyx{α:Type}{l:List α}{i:Nat}(h:i < l.length)(d:α) :l.drop i=l.getD i d::l.drop (i+1):=by
 rw[gk h];exact List.drop_eq_getElem_cons h
section
variable {ts:List SType}
end
end
section
open Go Go.Proofs.YtijpinendaoleaaGreat.Shv Go.Sort
set_option maxRecDepth 100000
structure SOk (ts:List SType):Prop where
 n:ts.length≤1000
 T:∀t,t∈ts→OkT t
 K:∀t,t∈ts→ga3 t.Kind
 M:MOk ts
 A:∀x,x∈ts→(x.Kind=5∨x.Kind=6)→MAsc x.Members∧x.Members.length≤16
 S:∀x,x∈ts→x.Kind=4→∀y,y∈x.Symbols→I1000 y.ID
 Ky:∀x,x∈ts→x.Kind=8→1≤(ts.getD x.Key.toNat dSType).Kind∧(ts.getD x.Key.toNat dSType).Kind≤4
section
variable {ts:List SType}
end
end
section
open Go Go.Proofs.YtijpinendaoleaaGreat.Shv Go.Sort
set_option maxRecDepth 100000
section
variable {ts:List SType} (H:SOk ts)
end
end
section
open Go Go.Proofs.YtijpinendaoleaaGreat.Shv Go.Sort
set_option maxRecDepth 100000
section
variable {ts:List SType}
end
end
section
open Go Go.Proofs.YtijpinendaoleaaGreat.Shv Go.Sort
set_option maxRecDepth 100000
section
variable {ts:List SType}
end
end
section
open Go Go.Proofs.YtijpinendaoleaaGreat.Shv Go.Sort
set_option maxRecDepth 100000
theorem SaysP.says{α:Type}{o:Option Bool}{a b:α}(h:Says o a b) :SaysP o (a=b):=h
theorem and3S {o1 o2 o3 : Option Bool} {P1 P2 P3 : Prop} (h1 : SaysP o1 P1) (h2 : SaysP o2 P2) (h3 : SaysP o3 P3) :
   SaysP (o1 >>=fun r_6=>(if r_6=true then o2 else some false) >>=fun r_7=>some (bif r_6 then r_7 else false) >>=fun t53=>(if t53=true then o3 else some false) >>=fun r_8=>some (bif t53 then r_8 else false)) (P1∧P2∧P3):=by
 obtain⟨a,rfl,h1⟩:=h1;obtain⟨b,rfl,h2⟩:=h2;obtain⟨c,rfl,h3⟩:=h3;rw[←h1,←h2,←h3];cases a <;> cases b <;> cases c <;> exact⟨_,rfl,by simp⟩
theorem gyy{o:Option Bool}{P:Prop}(h:SaysP o P) :SaysP (o >>=fun r=>some r) P:=by
 obtain⟨a,rfl,h⟩:=h;exact⟨a,rfl,h⟩
def gbd(union:Bool)(Ms:List SMember) :Prop:=(∀m,m∈Ms→badM union m=false)∧(union=false∨0 < Ms.length)∧MAsc Ms∧(∀m,m∈Ms→nm m.Name=true)∧(Ms.map (·.Name)).Nodup∧Ms.length≤16
def gks(S:List SSymbol) :Prop:=0 < S.length∧(S.Pairwise (fun a b=>a.ID < b.ID)∧∀y,y∈S→I1000 y.ID)∧(∀y,y∈S→nm y.Name=true)∧(S.map (·.Name)).Nodup∧S.length≤16
theorem gwo{l:List (List UInt8)} :l.Nodup↔∀i,i < l.length→(l.take i).contains (l.getD i [])=false:=by
 unfold List.Nodup;rw[List.pairwise_iff_getElem];constructor
 · intro h i hi;apply Bool.eq_false_iff.2;intro hc;obtain⟨k,hk,he⟩:=(g54 (by omega)).1 hc;rw[gk (by omega),gk hi]at he;exact h k i (by omega) hi hk he
 · intro h k i hk' hi hk he;have:=h i hi;rw[Bool.eq_false_iff]at this;apply this;refine(g54 (by omega)).2 ⟨k,hk,?_⟩;rw[gk (by omega),gk hi];exact he
theorem guo{α:Type}(f:α→Int)(g:α→List UInt8)(d:α)(l:List α) :(∀i,i < l.length→idp (l.map f) (l.map g) i=true)↔(l.Pairwise (fun a b=>f a < f b)∧∀x,x∈l→I1000 (f x))∧(∀x,x∈l→nm (g x)=true)∧(l.map g).Nodup:=by
 rw[gl4 f d,gwo];have key:∀i,i < l.length→(idp (l.map f) (l.map g) i=true↔I1000 (f (l.getD i d))∧(i=0∨f (l.getD (i - 1) d) < f (l.getD i d))∧nm (g (l.getD i d))=true∧((l.map g).take i).contains ((l.map g).getD i [])=false):=by
   intro i hi;unfold idp I1000;rw[g2b f l i d 0 hi];have e2:i=0∨(l.map f).getD (i - 1) 0=f (l.getD (i - 1) d):=by
     by_cases h0:i=0
     · exact .inl h0
     · exact .inr (g2b f l (i - 1) d 0 (by omega))
   have e3:(l.map g).getD i []=g (l.getD i d):=g2b g l i d [] hi;rw[e3];simp only[Bool.and_eq_true,Bool.or_eq_true,decide_eq_true_eq,Bool.not_eq_true'];rcases e2 with rfl | e2
   · simp[and_assoc]
   · rw[e2];simp only[and_assoc]
 constructor
 · intro h;refine⟨⟨fun i hi=>?_,fun x hx=>?_⟩,fun x hx=>?_,fun i hi=>?_⟩
   · have:=((key (i+1) hi).1 (h _ hi)).2.1;rcases this with h | h
     · omega
     · exact h
   · obtain⟨i,hi,rfl⟩:=List.getElem_of_mem hx;have:=((key i hi).1 (h _ hi)).1;rw[gk hi]at this;exact this
   · obtain⟨i,hi,rfl⟩:=List.getElem_of_mem hx;have:=((key i hi).1 (h _ hi)).2.2.1;rw[gk hi]at this;exact this
   · have hi':i < l.length:=by simpa using hi
     exact((key i hi').1 (h _ hi')).2.2.2
 · rintro ⟨⟨h1,h2⟩,h3,h4⟩ i hi
   refine(key i hi).2 ⟨h2 _ (gg hi d),?_,h3 _ (gg hi d),h4 i (by simpa using hi)⟩;by_cases h0:i=0
   · exact .inl h0
   · right;have:=h1 (i - 1) (by omega);have e:i - 1+1=i:=by omega
     rw[e]at this;exact this
theorem gqc{t:SType}(h:OkT t) :SaysP (g5x t) ((∀m,m∈t.Members→badM (decide (t.Kind=6)) m=false)∧(t.Kind=5∨0 < t.Members.length)∧MAsc t.Members∧(∀m,m∈t.Members→nm m.Name=true)∧(t.Members.map (·.Name)).Nodup∧t.Members.length≤16):=by
 obtain⟨r,h1,h2⟩:=goj h;refine⟨r,h1,h2.trans ?_⟩;rw[guo (fun m:SMember=>m.ID) (fun m:SMember=>m.Name) dSMember];have e:(∀i,i < t.Members.length→badM (decide (t.Kind=6)) (t.Members.getD i dSMember)=false)↔∀m,m∈t.Members→badM (decide (t.Kind=6)) m=false:=by
   constructor
   · intro h m hm;obtain⟨i,hi,rfl⟩:=List.getElem_of_mem hm;have:=h i hi;rw[gk hi]at this;exact this
   · intro h i hi;exact h _ (gg hi dSMember)
 rw[e];unfold MAsc;simp only[and_assoc]
theorem gyz{l:List SSymbol}(hl:l.length*24≤reachBytes) :SaysP (g6q l) (gks l):=by
 obtain⟨r,h1,h2⟩:=gul hl;refine⟨r,h1,h2.trans ?_⟩;rw[guo (fun m:SSymbol=>m.ID) (fun m:SSymbol=>m.Name) dSSymbol];unfold gks;simp only[and_assoc]
def FormP(t:SType) :Prop:=
 (t.Kind=1∧t.Name=[]∧t.Low=0∧t.High=0∧t.Max=0∧t.Symbols=[]∧t.Members=[]∧t.Key=0∧t.Elem=0∧t.Open=false)∨
 (t.Kind=2∧t.Name=[]∧t.Low≤t.High∧t.Max=0∧t.Symbols=[]∧t.Members=[]∧t.Key=0∧t.Elem=0∧t.Open=false)∨
 (t.Kind=3∧t.Name=[]∧t.Low=0∧t.High=0∧(0≤t.Max∧t.Max≤200)∧t.Symbols=[]∧t.Members=[]∧t.Key=0∧t.Elem=0∧t.Open=false)∨
 (t.Kind=4∧nm t.Name=true∧t.Low=0∧t.High=0∧t.Max=0∧gks t.Symbols∧t.Members=[]∧t.Key=0∧t.Elem=0)∨
 (t.Kind=5∧nm t.Name=true∧t.Low=0∧t.High=0∧t.Max=0∧t.Symbols=[]∧gbd false t.Members∧t.Key=0∧t.Elem=0∧t.Open=false)∨
 (t.Kind=6∧nm t.Name=true∧t.Low=0∧t.High=0∧t.Max=0∧t.Symbols=[]∧gbd true t.Members∧t.Key=0∧t.Elem=0)∨
 (t.Kind=7∧t.Name=[]∧t.Low=0∧t.High=0∧(0≤t.Max∧t.Max≤50)∧t.Symbols=[]∧t.Members=[]∧t.Key=0∧t.Open=false)∨
 (t.Kind=8∧t.Name=[]∧t.Low=0∧t.High=0∧(0≤t.Max∧t.Max≤50)∧t.Symbols=[]∧t.Members=[]∧t.Open=false)∨
 (t.Kind=9∧t.Name=[]∧t.Low=0∧t.High=0∧t.Max=0∧t.Symbols=[]∧t.Members=[]∧t.Key=0∧t.Open=false)
theorem gz0{t:SType}(h:OkT t) :SaysP (g1a t) (FormP t):=by
 have hz:OkT (⟨0,[],0,0,0,[],[],0,0,false⟩:SType):=⟨by simp,by simp,by simp⟩
 obtain⟨Kd,N,L,H,M,S,Ms,K,E,O⟩:=t;have hS:=h.syms;have hMs:=h.mems;have hd:=h.dv;simp only at hS hMs hd;by_cases k1:Kd=1
 · subst k1;have a:=g4w (a:=(⟨0,N,L,H,M,S,Ms,K,E,O⟩:SType)) ⟨hS,hMs,hd⟩ (⟨0,[],0,0,0,[],[],0,0,false⟩:SType);refine(gyy (SaysP.says a)).imp ?_;unfold FormP;simp
 by_cases k2:Kd=2
 · subst k2;have a:=g4w (a:=(⟨0,N,0,0,M,S,Ms,K,E,O⟩:SType)) ⟨hS,hMs,hd⟩ (⟨0,[],0,0,0,[],[],0,0,false⟩:SType);refine(and2S (q:=decide (L≤H)) (Q:=L≤H) (by simp) (SaysP.says a)).imp (Q:=FormP ⟨2,N,L,H,M,S,Ms,K,E,O⟩) ?_;unfold FormP;simp
   try grind
 by_cases k3:Kd=3
 · subst k3;have a:=g4w (a:=(⟨0,N,L,H,0,S,Ms,K,E,O⟩:SType)) ⟨hS,hMs,hd⟩ (⟨0,[],0,0,0,[],[],0,0,false⟩:SType);refine(and2S (q:=bif decide (0≤M)then decide (M≤200)else false) (Q:=0≤M∧M≤200) (by by_cases g:0≤M <;> simp[g]) (SaysP.says a)).imp (Q:=FormP ⟨3,N,L,H,M,S,Ms,K,E,O⟩) ?_;unfold FormP;simp
   try grind
 by_cases k4:Kd=4
 · subst k4;have a:=g4w (a:=(⟨0,[],L,H,M,[],Ms,K,E,false⟩:SType)) ⟨by simp,hMs,hd⟩ (⟨0,[],0,0,0,[],[],0,0,false⟩:SType);refine(and3S (⟨nm N,lexNm N,Iff.rfl⟩:SaysP (g31 N) (nm N=true)) (gyz hS) (SaysP.says a)).imp (Q:=FormP ⟨4,N,L,H,M,S,Ms,K,E,O⟩) ?_;unfold FormP;simp
   try grind
 by_cases k5:Kd=5
 · subst k5;have a:=g4w (a:=(⟨0,[],L,H,M,S,[],K,E,bif O then decide ((5:Int)=5)else false⟩:SType)) ⟨hS,by simp,by simp⟩ (⟨0,[],0,0,0,[],[],0,0,false⟩:SType);refine(and3S (⟨nm N,lexNm N,Iff.rfl⟩:SaysP (g31 N) (nm N=true)) (gqc h) (SaysP.says a)).imp (Q:=FormP ⟨5,N,L,H,M,S,Ms,K,E,O⟩) ?_;unfold FormP gbd;cases O <;> simp
   grind
 by_cases k6:Kd=6
 · subst k6;have a:=g4w (a:=(⟨0,[],L,H,M,S,[],K,E,bif O then decide ((6:Int)=5)else false⟩:SType)) ⟨hS,by simp,by simp⟩ (⟨0,[],0,0,0,[],[],0,0,false⟩:SType);refine(and3S (⟨nm N,lexNm N,Iff.rfl⟩:SaysP (g31 N) (nm N=true)) (gqc h) (SaysP.says a)).imp (Q:=FormP ⟨6,N,L,H,M,S,Ms,K,E,O⟩) ?_;unfold FormP gbd;cases O <;> simp <;> grind
 by_cases k7:Kd=7
 · subst k7;have a:=g4w (a:=(⟨0,N,L,H,0,S,Ms,K,0,O⟩:SType)) ⟨hS,hMs,hd⟩ (⟨0,[],0,0,0,[],[],0,0,false⟩:SType);refine(and2S (q:=bif decide (0≤M)then decide (M≤50)else false) (Q:=0≤M∧M≤50) (by by_cases g:0≤M <;> simp[g]) (SaysP.says a)).imp (Q:=FormP ⟨7,N,L,H,M,S,Ms,K,E,O⟩) ?_;unfold FormP;simp
   try grind
 by_cases k8:Kd=8
 · subst k8;have a:=g4w (a:=(⟨0,N,L,H,0,S,Ms,0,0,O⟩:SType)) ⟨hS,hMs,hd⟩ (⟨0,[],0,0,0,[],[],0,0,false⟩:SType);refine(and2S (q:=bif decide (0≤M)then decide (M≤50)else false) (Q:=0≤M∧M≤50) (by by_cases g:0≤M <;> simp[g]) (SaysP.says a)).imp (Q:=FormP ⟨8,N,L,H,M,S,Ms,K,E,O⟩) ?_;unfold FormP;simp
   try grind
 by_cases k9:Kd=9
 · subst k9;have a:=g4w (a:=(⟨0,N,L,H,M,S,Ms,K,0,O⟩:SType)) ⟨hS,hMs,hd⟩ (⟨0,[],0,0,0,[],[],0,0,false⟩:SType);refine(gyy (SaysP.says a)).imp (Q:=FormP ⟨9,N,L,H,M,S,Ms,K,E,O⟩) ?_;unfold FormP;simp
 refine⟨false,by simp[g1a,k1,k2,k3,k4,k5,k6,k7,k8,k9],?_⟩;unfold FormP;simp[k1,k2,k3,k4,k5,k6,k7,k8,k9]
structure VOk (ts:List SType):Prop where
 n:ts.length≤32
 F:∀t,t∈ts→FormP t
 D:∀i,i < ts.length→(!(decide ((ts.getD i dSType).Name=[])) && ((ts.map (·.Name)).take i).contains (ts.getD i dSType).Name)=false
 U:∀t,t∈ts→∀u,u∈usesL t→0≤u∧u < ts.length
 Ky:∀t,t∈ts→t.Kind=8→1≤(ts.getD t.Key.toNat dSType).Kind∧(ts.getD t.Key.toNat dSType).Kind≤4
theorem gwp {ts : List SType} (hT : ∀ t, t ∈ ts → OkT t) {i : Nat} (hi : i < ts.length) : stepV ts i = none ↔ FormP (ts.getD i dSType) ∧ (!(decide ((ts.getD i dSType).Name = [])) && ((ts.map (·.Name)).take i).contains (ts.getD i dSType).Name) = false ∧ (∀ u, u ∈ usesL (ts.getD i dSType) → 0 ≤ u ∧ u < ts.length) ∧
   ((ts.getD i dSType).Kind=8→1≤(ts.getD (ts.getD i dSType).Key.toNat dSType).Kind∧(ts.getD (ts.getD i dSType).Key.toNat dSType).Kind≤4):=by
 obtain⟨r,f1,f2⟩:=gz0 (hT _ (gg hi dSType));rw[gih rfl f1,←f2];have hu:(usesL (ts.getD i dSType)).any (outB ts.length)=false↔∀u,u∈usesL (ts.getD i dSType)→0≤u∧u < ts.length:=by
   rw[List.any_eq_false];constructor
   · intro h u hu;have:=h u hu;unfold outB at this;by_cases g:u < 0
     · simp[g]at this
     · simp[g]at this;omega
   · intro h u hu;have:=h u hu;unfold outB;have g:¬u < 0:=by omega
     simp[g];omega
 rw[←hu];generalize (usesL (ts.getD i dSType)).any (outB ts.length)=b;generalize (!(decide ((ts.getD i dSType).Name=[])) && ((ts.map (·.Name)).take i).contains (ts.getD i dSType).Name)=c
 have hk:(decide ((ts.getD i dSType).Kind=8) && !(keyB (ts.getD (ts.getD i dSType).Key.toNat dSType).Kind))=false↔((ts.getD i dSType).Kind=8→1≤(ts.getD (ts.getD i dSType).Key.toNat dSType).Kind∧(ts.getD (ts.getD i dSType).Key.toNat dSType).Kind≤4):=by
   unfold keyB;generalize (ts.getD (ts.getD i dSType).Key.toNat dSType).Kind=k;by_cases g:(ts.getD i dSType).Kind=8 <;> by_cases g1:1≤k <;> by_cases g2:k≤4 <;> simp[g,g1,g2]
 rw[←hk];generalize (decide ((ts.getD i dSType).Kind=8) && !(keyB (ts.getD (ts.getD i dSType).Key.toNat dSType).Kind))=d;cases r <;> cases b <;> cases c <;> cases d <;> simp
theorem gkt{ts:List SType}(hT:∀t,t∈ts→OkT t)(h:VOk ts) :g6y (⟨ts⟩:SSchema)=some 0∧g5l (⟨ts⟩:SSchema)=some 0:=by
 obtain⟨e,h1,h2,_,h4⟩:=gom (s:=⟨ts⟩) (by have:=h.n;unfold reachBytes;show ts.length≤_;omega) hT;have e0:e=0:=h4 ⟨h.n,fun i hi=>(gwp hT hi).2 ⟨h.F _ (gg hi dSType),h.D i hi,h.U _ (gg hi dSType),h.Ky _ (gg hi dSType)⟩⟩;subst e0;exact⟨h1,h2⟩
theorem VOk.sok{ts:List SType}(hT:∀t,t∈ts→OkT t)(h:VOk ts) :SOk ts:=by
 refine⟨by have:=h.n;omega,hT,fun t ht=>?_,fun t ht m hm=>?_,fun t ht hk=>?_,fun t ht hk y hy=>?_,h.Ky⟩
 · have:=h.F t ht;unfold FormP at this;unfold ga3;omega
 · have:=h.F t ht;unfold FormP at this;have hne:t.Members≠[]:=by intro e;rw[e]at hm;cases hm
   have:gbd false t.Members∨gbd true t.Members:=by grind
   rcases this with a | a
   · exact(a.2.2.1.2 m hm).2
   · exact(a.2.2.1.2 m hm).2
 · have:=h.F t ht;unfold FormP at this;have:gbd false t.Members∨gbd true t.Members:=by grind
   rcases this with a | a
   · exact⟨a.2.2.1,a.2.2.2.2.2⟩
   · exact⟨a.2.2.1,a.2.2.2.2.2⟩
 · have:=h.F t ht;unfold FormP at this;have:gks t.Symbols:=by grind
   exact this.2.1.2 y hy
end
section
open Go Go.Proofs.YtijpinendaoleaaGreat.Shv Go.Sort
set_option maxRecDepth 100000
theorem gtx{ts:List SType}(hn:ts.length < 9223372036854775807)(hT:∀t,t∈ts→OkT t)(hK:∀t,t∈ts→ga3 t.Kind){v:SValue}(hv:OkV v)(t:Int) :SaysP (g4q ((⟨ts⟩:SSchema),t,v)) (vfit ts true t v):=by
 obtain⟨r,h1,h2⟩:=gad hn hT hK hv t true;refine⟨r,?_,h2⟩;rw[g4q];simp only[SValue.ge];rw[h1];rfl
def g14o(ts:List SType)(ms:List SMember) :Prop:=∀m,m∈ms→m.HasDefault=true→vfit ts true m.Type_ m.Default
end
section
open Go Go.Proofs.YtijpinendaoleaaGreat.Shv Go.Sort
set_option maxRecDepth 100000
theorem okOne{t:Ty}{x:t.den Un.D}(h:Ok Un [t] x) :∀d,d∈t.row Un x→WF Un d:=fun d hd=>h ⟨t,x⟩ (List.mem_cons_self ..) d hd
end
section
open Go Go.Proofs.YtijpinendaoleaaGreat.Shv Go.Sort
set_option maxRecDepth 100000
abbrev Nd :=Sheaveref07Node
abbrev dNd :=dSheaveref07Node
abbrev dPt :=dSheaveref07Part
theorem nz{a:Int}(h:¬a=0) :(!(decide (a=0)))=true:=by simp[h]
theorem g5n{x m:Int}(h:0≤x)(hm:0≤m) :remI x m=x % m:=by
 unfold remI;rw[Int.tmod_eq_emod_of_nonneg h]
theorem g14p{x:Int}(h:0≤x)(h2:x≤255) :quoI .u8 x 4=x / 4:=by
 unfold quoI;rw[Int.tdiv_eq_ediv_of_nonneg h,IntKind.wrap_u8];omega
theorem g9b{x:Int}(h:I64 x) :wrp .i64 x=x:=by
 unfold wrp I64 at*;rw[IntKind.wrap_i64];omega
theorem gso{k:Int}(h:0≤k∧k≤25) :g7s (wrp .i32 (addI .i64 97 k))=[UInt8.ofNat (97+k.toNat)]:=by
 have key:∀k:Nat,k < 26→g7s (wrp .i32 (addI .i64 97 (k:Int)))=[UInt8.ofNat (97+k)]:=by decide+kernel
 have:=key k.toNat (by omega);have e:((k.toNat:Nat):Int)=k:=by omega
 rw[e]at this;exact this
theorem g14q{k:Int}(h:0≤k∧k≤25) :g7s (wrp .i32 (addI .i64 65 k))=[UInt8.ofNat (65+k.toNat)]:=by
 have key:∀k:Nat,k < 26→g7s (wrp .i32 (addI .i64 65 (k:Int)))=[UInt8.ofNat (65+k)]:=by decide+kernel
 have:=key k.toNat (by omega);have e:((k.toNat:Nat):Int)=k:=by omega
 rw[e]at this;exact this
theorem gop{s:List UInt8}(h0:s≠[])(hl:s.length≤24)(h:∀i:Nat,i < s.length→g86 (g6v s i)=true) :nm s=true:=by
 have key:∀k i:Nat,i+k=s.length→g28 (s,(s.length:Int),(i:Int))=some (.inr ()):=by
   intro k
   induction k with
   | zero=>intro i hi;rw[g28,if_neg (by simp;omega)]
   | succ k ih=>
     intro i hi;rw[g28,if_pos (by simp;omega),if_pos (g6 (by omega)),gfj,h i (by omega)];simp only[oZ4,oZ3,Bool.not_true];rw[if_pos (by rw[g6 (by omega)];rfl),gp (by omega)];exact ih (i+1) (by omega)
 have hpos:0 < s.length:=List.length_pos_iff.2 h0;have h00:=h 0 hpos;have hin:inR 0 s.length=true:=g6 (k:=0) hpos;have ht:(bif decide (s=[])then true else decide (24 < (s.length:Int)))=false:=by
   simp[h0];omega
 have hk:g28 (s,(s.length:Int),0)=some (.inr ()):=key s.length 0 (by omega);have h00':g86 (g6v s 0)=true:=h00;unfold nm;rw[g31];simp only[oZ4,oZ3];rw[ht,hin,gfj,h00'];simp only[Bool.true_or,if_true,Bool.not_false,oZ3,cond_false,Bool.not_true,Bool.false_eq_true,if_false,hk,Option.getD_some]
theorem g14r{c:Nat}(h:65≤c∧c≤90∨97≤c∧c≤122) :nm [UInt8.ofNat c]=true:=by
 refine gop (by simp) (by simp) fun i hi=>?_
 have:i=0:=by simp at hi;omega
 subst this;have e:g6v [UInt8.ofNat c] ((0:Nat):Int)=(c:Int):=by
   rw[gi2];simp only[List.getD_cons_zero];rw[g5j (by omega)]
 rw[e];unfold g86;simp;omega
theorem gz1{b c:Nat}(hb:97≤b∧b≤122)(h:97≤c∧c≤122) :nm [UInt8.ofNat b,UInt8.ofNat c]=true:=by
 refine gop (by simp) (by simp) fun i hi=>?_
 have:i=0∨i=1:=by simp at hi;omega
 rcases this with rfl | rfl
 · rw[gi2];simp only[List.getD_cons_zero];rw[g5j (by omega)];unfold g86;simp;omega
 · rw[gi2];simp only[List.getD_cons_succ,List.getD_cons_zero];rw[g5j (by omega)];unfold g86;simp;omega
def U8(x:Int) :Prop:=0≤x∧x≤255
structure NOk (x:Nd):Prop where
 k:U8 x.Kind
 a:U8 x.A
 b:U8 x.B
 c:U8 x.C
 p:∀q,q∈x.Parts→U8 q.ID∧U8 q.Type_∧U8 q.Flag
 l:x.Parts.length≤reachBytes
def kd(ns:List Nd)(i:Int) :Int:=1+(ns.getD i.toNat dNd).Kind % 9
section
variable {ns:List Nd} (hN:∀x,x∈ns→NOk x) (h5:ns.length≤5)
include hN h5 in
theorem kd_eq{i:Int}(h0:0≤i)(h1:i < ns.length) :g48 ((⟨ns⟩:Sheaveref07Draft),i)=some (kd ns i)∧1≤kd ns i∧kd ns i≤9:=by
 obtain⟨j,rfl⟩:∃j:Nat,i=(j:Int):=⟨i.toNat,by omega⟩
 have hx:=(hN _ (gg (by omega:j < ns.length) dNd)).k;unfold kd;rw[g7];obtain⟨a,b⟩:=hx;refine⟨?_,by omega,by omega⟩;rw[g48,if_pos (g6 (by omega:j < ns.length)),g7,g5n a (by omega),g9b ⟨by omega,by omega⟩,g7f (by omega) (by omega)]
def Tgt(ns:List Nd)(i u:Int) :Prop:=0≤u∧u < ns.length∧(7≤kd ns u∨u < i)
include hN h5 in
theorem gqd :∀(k i:Nat),i+k=ns.length→g1w ((ns.length:Int),(i:Int),ns)=some (.inr ())∨∃u:Int,g1w ((ns.length:Int),(i:Int),ns)=some (.inl u)∧0≤u∧u < ns.length∧7≤kd ns u
 | 0,i,hi=>.inl (by rw[g1w,if_neg (by simp;omega)])
 | k+1,i,hi=>by
   obtain⟨e,_,_⟩:=kd_eq hN h5 (i:=(i:Int)) (by omega) (by omega);rw[g1w,if_pos (by simp;omega),e];simp only[oZ4,oZ3,g64];by_cases h7:7≤kd ns i
   · rw[if_pos (by simpa using h7)];exact .inr ⟨i,rfl,by omega,by omega,h7⟩
   · rw[if_neg (by simpa using h7),gp (by omega)];exact gqd k (i+1) (by omega)
include hN h5 in
theorem gz2(h1:1≤ns.length){i code:Int}(hi:0≤i∧i < ns.length)(hc:U8 code) :∃u,g65 ((⟨ns⟩:Sheaveref07Draft),i,code)=some u∧(u < 0∨Tgt ns i u):=by
 have hm:wrp .i64 code=code:=g9b ⟨by unfold U8 at hc;omega,by unfold U8 at hc;omega⟩;obtain⟨c1,c2⟩:=hc;have hr0:0≤code % (ns.length:Int):=Int.emod_nonneg _ (by omega);have hr1:code % (ns.length:Int) < ns.length:=Int.emod_lt_of_pos _ (by omega);rw[g65];simp only[oZ4,oZ3];rw[if_pos (nz (by omega)),hm,g5n c1 (by omega)]
 obtain⟨e,_,_⟩:=kd_eq hN h5 hr0 hr1;rw[e];simp only[oZ3,g64];by_cases h7:7≤kd ns (code % (ns.length:Int))
 · rw[if_pos (by simp[h7])];exact⟨_,rfl,.inr ⟨hr0,hr1,.inl h7⟩⟩
 · by_cases hlt:code % (ns.length:Int) < i
   · rw[if_pos (by simp[hlt])];exact⟨_,rfl,.inr ⟨hr0,hr1,.inr hlt⟩⟩
   · rw[if_neg (by simp[h7,hlt])];by_cases hp:0 < i
     · rw[if_pos (by simpa using hp),if_pos (by simp;omega),g5n hr0 (by omega)];have a0:0≤code % (ns.length:Int) % i:=Int.emod_nonneg _ (by omega);have a1:code % (ns.length:Int) % i < i:=Int.emod_lt_of_pos _ (by omega);exact⟨_,rfl,.inr ⟨a0,by omega,.inr a1⟩⟩
     · rw[if_neg (by simpa using hp)];have h0:=gqd hN h5 ns.length 0 (by omega);have e0:g1w ((ns.length:Int),((0:Nat):Int),ns)=g1w ((ns.length:Int),0,ns):=rfl;rw[e0]at h0;rcases h0 with h | ⟨u,h,a,b,c⟩
       · rw[h];exact⟨-1,rfl,.inl (by omega)⟩
       · rw[h];exact⟨u,rfl,.inr ⟨a,b,.inl c⟩⟩
def KeyT(ns:List Nd)(u:Int) :Prop:=0≤u∧u < ns.length∧1≤kd ns u∧kd ns u≤4
include hN h5 in
theorem gz3{code:Int}(hc:U8 code)(h1:1≤ns.length) :∀(k i:Nat),i+k=ns.length→(g2i (code,(ns.length:Int),(i:Int),ns)=some (.inr ())∧∀m:Nat,i≤m→m < ns.length→¬KeyT ns ((code+m) % (ns.length:Int)))∨∃u:Int,g2i (code,(ns.length:Int),(i:Int),ns)=some (.inl u)∧KeyT ns u
 | 0,i,hi=>.inl ⟨by rw[g2i,if_neg (by simp;omega)],fun m a b=>by omega⟩
 | k+1,i,hi=>by
   obtain⟨c1,c2⟩:=hc;have hr0:0≤(code+i) % (ns.length:Int):=Int.emod_nonneg _ (by omega);have hr1:(code+i) % (ns.length:Int) < ns.length:=Int.emod_lt_of_pos _ (by omega);obtain⟨e,e1,e9⟩:=kd_eq hN h5 hr0 hr1;rw[g2i,if_pos (by simp;omega),if_pos (nz (by omega)),g9b ⟨by omega,by omega⟩,g7f (by omega) (by omega),g5n (by omega) (by omega)]
   simp only[oZ4,oZ3];rw[e];simp only[oZ3,g5r];by_cases h4:kd ns ((code+i) % (ns.length:Int))≤4
   · rw[if_pos (by simp[e1,h4])];exact .inr ⟨_,rfl,hr0,hr1,e1,h4⟩
   · rw[if_neg (by simp[h4]),gp (by omega)];rcases gz3 ⟨c1,c2⟩ h1 k (i+1) (by omega)with⟨a,b⟩ | h
     · refine .inl ⟨a,fun m hm1 hm2=>?_⟩;by_cases hm:m=i
       · subst hm;rintro ⟨_,_,_,h⟩;exact h4 h
       · exact b m (by omega) hm2
     · exact .inr h
include hN h5 in
theorem gz4{code:Int}(hc:U8 code)(h1:1≤ns.length) :∃u,g5h ((⟨ns⟩:Sheaveref07Draft),code)=some u∧((u= -1∧∀w,¬KeyT ns w)∨KeyT ns u):=by
 rw[g5h];have h0:=gz3 hN h5 hc h1 ns.length 0 (by omega);have e0:g2i (code,(ns.length:Int),((0:Nat):Int),ns)=g2i (code,(ns.length:Int),0,ns):=rfl;rw[e0]at h0;rcases h0 with⟨h,a⟩ | ⟨u,h,a⟩
 · rw[h];refine⟨-1,rfl,.inl ⟨rfl,fun w hw=>?_⟩⟩;have hw':=hw;obtain⟨w0,w1,_⟩:=hw';have hr0:0≤(w - code) % (ns.length:Int):=Int.emod_nonneg _ (by omega);have hr1:(w - code) % (ns.length:Int) < ns.length:=Int.emod_lt_of_pos _ (by omega);refine a ((w - code) % (ns.length:Int)).toNat (by omega) (by omega) ?_
   have e:(code+(((w - code) % (ns.length:Int)).toNat:Int)) % (ns.length:Int)=w:=by
     rw[Int.toNat_of_nonneg hr0,Int.add_emod_emod];have:code+(w - code)=w:=by omega
     rw[this];exact Int.emod_eq_of_lt w0 w1
   rw[e];exact hw
 · rw[h];exact⟨u,rfl,.inr a⟩
theorem gsp{x:Nd}(h:NOk x) :g3u x=some (x.A % 7 - 3):=by
 have:=h.a;unfold U8 at this;rw[g3u,g5n this.1 (by omega),g9b ⟨by omega,by omega⟩,gaz (by omega) (by omega)]
theorem gup{x:Nd}(h:NOk x) :g55 x=some (x.A % 7 - 3+x.B % 6):=by
 have ha:=h.a;have hb:=h.b;unfold U8 at ha hb;rw[g55,gsp h];simp only[oZ4,oZ3];rw[g5n hb.1 (by omega),g9b ⟨by omega,by omega⟩,g7f (by omega) (by omega)]
def IdsOk(l:List Int)(n:Int) :Prop:=l.Pairwise (· < ·)∧∀x,x∈l→1≤x∧x≤n
theorem gsq{x:Nd} :∀(k i:Nat) (acc:List Int),i+k=6→IdsOk acc i→acc.length≤i→∃l,g30 ((i:Int),x,acc)=some l∧IdsOk l 6∧l.length≤6
 | 0,i,acc,hi,ha,hl=>⟨acc,by rw[g30,if_neg (by simp;omega)],⟨ha.1,fun y hy=>by have:=ha.2 y hy;omega⟩,by omega⟩
 | k+1,i,acc,hi,ha,hl=>by
   have hacc:IdsOk acc ((i+1:Nat):Int):=⟨ha.1,fun y hy=>by have:=ha.2 y hy;omega⟩
   rw[g30,if_pos (by simp;omega),if_pos (by simp)];simp only[oZ4,oZ3];rw[gp (by omega)];split
   · rw[if_pos (g2h (by omega) (by simp;omega))];refine gsq k (i+1) _ (by omega) ⟨?_,fun y hy=>?_⟩ (by simp;omega)
     · rw[List.pairwise_append];refine⟨ha.1,by simp,fun a h1 b h2=>?_⟩;have:=ha.2 a h1;simp at h2;omega
     · rcases List.mem_append.1 hy with h | h
       · have:=ha.2 y h;omega
       · simp at h;omega
   · exact gsq k (i+1) acc (by omega) hacc (by omega)
theorem g14s(x:Nd) :∃l,g3g x=some l∧IdsOk l 6∧1≤l.length∧l.length≤6:=by
 obtain⟨l,h1,h2,h3⟩:=gsq (x:=x) 6 0 [] (by omega) ⟨.nil,fun y hy=>by cases hy⟩ (by simp);have h1':g30 (0,x,[])=some l:=h1;rw[g3g,h1'];simp only[oZ4,oZ3];cases l with
 | nil=>
   rw[if_pos (by simp),if_pos (g2h (by omega) (by simp))];exact⟨_,rfl,⟨by simp,fun y hy=>by simp at hy;omega⟩,by simp,by simp⟩
 | cons a l=>
   rw[if_neg (by simp;omega)];exact⟨_,rfl,h2,by simp,h3⟩
def idsL(x:Nd) :List Int:=(g3g x).getD []
theorem ids_eq'(x:Nd) :g3g x=some (idsL x)∧IdsOk (idsL x) 6∧1≤(idsL x).length∧(idsL x).length≤6:=by
 obtain⟨l,h1,h2⟩:=g14s x;unfold idsL;rw[h1];exact⟨rfl,h2⟩
def InitP(k:Int)(x:Nd)(key:Prop)(v:SValue) :Prop:=
 v.Keys=[]∧v.Items=[]∧v.Rest=[]∧
 (k=1∧v.Kind=1∧v.Int_=0∧v.Str=[]∧v.ID=0∨
  k=2∧v.Kind=2∧v.Bool_=false∧v.Str=[]∧v.ID=0∧x.A % 7 - 3≤v.Int_∧v.Int_≤x.A % 7 - 3+x.B % 6∨
  k=3∧v.Kind=3∧v.Bool_=false∧v.Int_=0∧v.ID=0∧(v.Str.length:Int)≤x.A % 4∨
  k=4∧v.Kind=4∧v.Bool_=false∧v.Int_=0∧v.Str=[]∧v.ID∈idsL x∨
  7≤k∧v.Bool_=false∧v.Int_=0∧v.Str=[]∧v.ID=0∧(v.Kind=k∧(k=8→key)∨k=8∧v.Kind=7∧¬key))
def Init(ns:List Nd)(t:Int)(v:SValue) :Prop:=InitP (kd ns t) (ns.getD t.toNat dNd) (∃w,KeyT ns w) v
include hN h5 in
theorem gwq(h1:1≤ns.length){t code:Int}(ht:0≤t∧t < ns.length)(hc:U8 code) :∃r,g5s ((⟨ns⟩:Sheaveref07Draft),t,code)=some r∧(r.2=false→r.1=dSValue)∧(r.2=true→Init ns t r.1):=by
 obtain⟨j,rfl⟩:∃j:Nat,t=(j:Int):=⟨t.toNat,by omega⟩
 have hj:j < ns.length:=by omega
 have hx:=hN _ (gg hj dNd);obtain⟨e,k1,k9⟩:=kd_eq hN h5 ht.1 ht.2;obtain⟨u,hu,hu2⟩:=gz4 hN h5 (code:=0) ⟨by omega,by omega⟩ h1;obtain⟨c1,c2⟩:=hc;rw[g5s,if_pos (g6 hj)];simp only[oZ4,oZ3,g7];rw[e];simp only[oZ3];unfold Init;simp only[g7];have hids:=ids_eq' (ns.getD j dNd);generalize kd ns (j:Int)=k at*
 generalize ns.getD j dNd=x at*;have ha:=hx.a;have hb:=hx.b;unfold U8 at ha hb;have hc9:k=1∨k=2∨k=3∨k=4∨k=5∨k=6∨k=7∨k=8∨k=9:=by omega
 rcases hc9 with rfl | rfl | rfl | rfl | rfl | rfl | rfl | rfl | rfl
 · exact⟨_,rfl,fun h=>(by cases h),fun _=>by unfold InitP;simp⟩
 · have el:=gsp hx;have eh:=gup hx;have e1:addI .i64 (subI .i64 (x.A % 7 - 3+x.B % 6) (x.A % 7 - 3)) 1=x.B % 6+1:=by
     rw[gaz (by omega) (by omega),g7f (by omega) (by omega)];omega
   have e2:remI (wrp .i64 code) (x.B % 6+1)=code % (x.B % 6+1):=by
     rw[g9b ⟨by omega,by omega⟩,g5n c1 (by omega)]
   have r0:0≤code % (x.B % 6+1):=Int.emod_nonneg _ (by omega);have r1:code % (x.B % 6+1) < x.B % 6+1:=Int.emod_lt_of_pos _ (by omega);have e3:addI .i64 (x.A % 7 - 3) (code % (x.B % 6+1))=x.A % 7 - 3+code % (x.B % 6+1):=g7f (by omega) (by omega)
   simp only[Int.reduceEq,decide_false,decide_true,Bool.false_eq_true,if_false,if_true,oZ3,cond_false,cond_true];rw[el];simp only[oZ4,oZ3];rw[eh];simp only[oZ3];rw[e1,if_pos (by simp;omega),e2,e3];exact⟨_,rfl,fun h=>(by cases h),fun _=>by unfold InitP;simp;omega⟩
 · simp only[Int.reduceEq,decide_false,decide_true,Bool.false_eq_true,if_false,if_true,oZ3,cond_false,cond_true];rw[g5n ha.1 (by omega),g5n c1 (by omega)];by_cases g:0 < x.A % 4
   · by_cases g2:code % 2=1
     · rw[if_pos (by simp[g,g2])];exact⟨_,rfl,fun h=>(by cases h),fun _=>by unfold InitP;simp;omega⟩
     · rw[if_neg (by simp[g2])];exact⟨_,rfl,fun h=>(by cases h),fun _=>by unfold InitP;simp;omega⟩
   · rw[if_neg (by simp[g])];exact⟨_,rfl,fun h=>(by cases h),fun _=>by unfold InitP;simp;omega⟩
 · obtain⟨i1,i2,i3,i4⟩:=hids;simp only[Int.reduceEq,decide_false,decide_true,Bool.false_eq_true,if_false,if_true,oZ3,cond_false,cond_true];rw[i1];simp only[oZ4,oZ3];have r0:0≤code % ((idsL x).length:Int):=Int.emod_nonneg _ (by omega)
   have r1:code % ((idsL x).length:Int) < ((idsL x).length:Int):=Int.emod_lt_of_pos _ (by omega);rw[if_pos (nz (by omega)),g9b ⟨by omega,by omega⟩,g5n c1 (by omega)];obtain⟨q,hq⟩:∃q:Nat,code % ((idsL x).length:Int)=(q:Int):=⟨(code % ((idsL x).length:Int)).toNat,by omega⟩
   rw[hq,if_pos (g6 (by omega)),g7];exact⟨_,rfl,fun h=>(by cases h),fun _=>by unfold InitP;simp;rw[←List.getD_eq_getElem?_getD];exact gg (by omega) 0⟩
 · exact⟨_,rfl,fun _=>rfl,fun h=>by cases h⟩
 · exact⟨_,rfl,fun _=>rfl,fun h=>by cases h⟩
 · exact⟨_,rfl,fun h=>(by cases h),fun _=>by unfold InitP;simp⟩
 · simp only[Int.reduceEq,decide_false,decide_true,Bool.false_eq_true,if_false,if_true,oZ3,cond_false,cond_true];rw[hu];rcases hu2 with⟨rfl,a⟩ | a
   · exact⟨_,rfl,fun h=>(by cases h),fun _=>by unfold InitP;simp;exact fun w hw=>a w hw⟩
   · have hge:¬u < 0:=by have:=a.1;omega
     simp only[oZ4,oZ3];rw[if_neg (by simp[hge])];exact⟨_,rfl,fun h=>(by cases h),fun _=>by unfold InitP;simp;exact⟨u,a⟩⟩
 · exact⟨_,rfl,fun h=>(by cases h),fun _=>by unfold InitP;simp⟩
end
end
section
open Go Go.Proofs.YtijpinendaoleaaGreat.Shv Go.Sort
set_option maxRecDepth 100000
section
variable {ns:List Nd} (hN:∀x,x∈ns→NOk x) (h5:ns.length≤5)
structure MemP (ns:List Nd) (i:Int) (record:Bool) (m:SMember):Prop where
 id:1≤m.ID∧m.ID≤12
 name:m.Name=[UInt8.ofNat 109,UInt8.ofNat (97+m.ID.toNat)]
 tgt:Tgt ns i m.Type_
 crit:m.Critical=true→m.HasDefault=false
 un:record=false→m.Critical=false∧m.HasDefault=false
 nod:m.HasDefault=false→m.Default=dSValue
 dfl:m.HasDefault=true→Init ns m.Type_ m.Default
include hN h5 in
theorem gsr (h1 : 1 ≤ ns.length) {i : Int} (hi : 0 ≤ i ∧ i < ns.length) {x : Nd} (hx : NOk x) (record : Bool) {id : Int} (hid : 1 ≤ id ∧ id ≤ 12) {acc : List SMember} (ha : acc.length ≤ 12) :
   ∀(k j:Nat),j+k=x.Parts.length→∃l,g2j (i,record,id,(j:Int),ns,x,acc)=some (i,record,id,ns,x,acc++l)∧l.length≤1∧∀m,m∈l→m.ID=id∧MemP ns i record m
 | 0,j,hj=>⟨[],by rw[g2j,if_neg (by simp;omega)];simp,by simp,fun m hm=>by cases hm⟩
 | k+1,j,hj=>by
   have hlt:j < x.Parts.length:=by omega
   have hr:=g1e hx.l;obtain⟨q1,q2,q3⟩:=hx.p _ (gg hlt dPt);obtain⟨u,hu,hu2⟩:=gz2 hN h5 h1 hi q2;rw[g2j,if_pos (by simp;omega),if_pos (g6 hlt)];simp only[oZ4,oZ3,g7];have hu':g65 ((⟨ns⟩:Sheaveref07Draft),i,(x.Parts.getD j dSheaveref07Part).Type_)=some u:=hu;rw[hu'];simp only[oZ3]
   generalize hp:x.Parts.getD j dSheaveref07Part=p;have q1':U8 p.ID:=by rw[←hp];exact q1
   have q3':U8 p.Flag:=by rw[←hp];exact q3
   obtain⟨f1,f2⟩:=q3';have e1:remI p.Flag 4=p.Flag % 4:=g5n f1 (by omega);have e2:quoI .u8 p.Flag 4=p.Flag / 4:=g14p f1 f2;have rec':=gsr h1 hi hx record hid ha k (j+1) (by omega);by_cases hskip:(bif (!(decide (addI .i64 1 (wrp .i64 (remI p.ID 12))=id)))then true else decide (u < 0))=true
   · rw[if_pos hskip,gp (by omega)];exact rec'
   · rw[if_neg hskip];have hu0:Tgt ns i u:=by
       rcases hu2 with h | h
       · exfalso;apply hskip
         cases decide (addI .i64 1 (wrp .i64 (remI p.ID 12))=id) <;> simp[h]
       · exact h
     have hrune:=gso (k:=id) ⟨by omega,by omega⟩;rw[hrune];have hname:([109]++[UInt8.ofNat (97+id.toNat)]:List UInt8)=[UInt8.ofNat 109,UInt8.ofNat (97+id.toNat)]:=rfl;rw[if_pos (gko (by simp)),hname,e1,e2];obtain⟨r,r1,r2,r3⟩:=gwq hN h5 h1 ⟨hu0.1,hu0.2.1⟩ (code:=p.Flag / 4) ⟨by omega,by omega⟩
     have hroom:∀m:SMember,room 160 (acc++[m]).length=true:=fun m=>g2h (by omega) (by simp;omega)
     have done:∀m:SMember,m.ID=id→MemP ns i record m→∃l,(some (i,record,id,ns,x,acc++[m]):Option (Int × Bool × Int × List Nd × Nd × List SMember))=some (i,record,id,ns,x,acc++l)∧l.length≤1∧∀m,m∈l→m.ID=id∧MemP ns i record m:=fun m a b=>⟨[m],rfl,by simp,fun y hy=>by
       have:y=m:=by simpa using hy
       subst this;exact⟨a,b⟩⟩
     cases record with
     | false=>
       simp only[cond_false,Bool.false_eq_true,if_false];rw[if_pos (hroom _)];exact done _ rfl ⟨hid,rfl,hu0,fun h=>(by cases h),fun _=>⟨rfl,rfl⟩,fun _=>rfl,fun h=>by cases h⟩
     | true=>
       simp only[cond_true];by_cases g1:p.Flag % 4=1
       · rw[if_pos (by simpa using g1),if_neg (by simp;omega),if_pos (hroom _)];exact done _ rfl ⟨hid,rfl,hu0,fun _=>rfl,fun h=>(by cases h),fun _=>rfl,fun h=>by cases h⟩
       · rw[if_neg (by simpa using g1)];by_cases g2:2≤p.Flag % 4
         · rw[if_pos (by simpa using g2),r1];simp only[oZ3,SValue.ge];rw[if_pos (hroom _)];exact done _ rfl ⟨hid,rfl,hu0,fun h=>(by cases h),fun h=>(by cases h),r2,r3⟩
         · rw[if_neg (by simpa using g2),if_pos (hroom _)];exact done _ rfl ⟨hid,rfl,hu0,fun h=>(by cases h),fun h=>(by cases h),fun _=>rfl,fun h=>by cases h⟩
def MemsP(ns:List Nd)(i:Int)(record:Bool)(l:List SMember) :Prop:=l.Pairwise (fun a b=>a.ID < b.ID)∧(∀m,m∈l→MemP ns i record m)∧l.length≤12
include hN h5 in
theorem gss (h1 : 1 ≤ ns.length) {i : Int} (hi : 0 ≤ i ∧ i < ns.length) {x : Nd} (hx : NOk x) (record : Bool) : ∀ (k id : Nat) (acc : List SMember), id + k = 13 → 1 ≤ id →
   acc.Pairwise (fun a b=>a.ID < b.ID)→(∀m,m∈acc→MemP ns i record m∧m.ID < id)→acc.length < id→∃l,g2e (i,record,(id:Int),ns,x,acc)=some l∧MemsP ns i record l
 | 0,id,acc,hk,h0,ha,hb,hl=>⟨acc,by rw[g2e,if_neg (by simp;omega)],ha,fun m hm=>(hb m hm).1,by omega⟩
 | k+1,id,acc,hk,h0,ha,hb,hl=>by
   rw[g2e,if_pos (by simp;omega)];obtain⟨l,l1,l2,l3⟩:=gsr hN h5 h1 hi hx record (id:=(id:Int)) ⟨by omega,by omega⟩ (acc:=acc) (by omega) x.Parts.length 0 (by omega);have l1':g2j (i,record,(id:Int),0,ns,x,acc)=_:=l1;rw[l1'];simp only[oZ4,oZ3];rw[gp (by omega)]
   refine gss h1 hi hx record k (id+1) _ (by omega) (by omega) ?_ (fun m hm=>?_) (by simp;omega)
   · rw[List.pairwise_append];refine⟨ha,?_,fun a h2 b h3=>?_⟩
     · match l,l2 with
       | [],_=>exact .nil
       | [a],_=>simp
       | a::b::c,h=>simp at h
     · have:=(hb a h2).2;have:=(l3 b h3).1;omega
   · rcases List.mem_append.1 hm with h | h
     · have:=hb m h;exact⟨this.1,by omega⟩
     · have:=l3 m h;exact⟨this.2,by omega⟩
include hN h5 in
theorem gst(h1:1≤ns.length){i:Int}(hi:0≤i∧i < ns.length)(record:Bool) :∃l,g4o ((⟨ns⟩:Sheaveref07Draft),i,record)=some l∧MemsP ns i record l:=by
 obtain⟨j,rfl⟩:∃j:Nat,i=(j:Int):=⟨i.toNat,by omega⟩
 have hj:j < ns.length:=by omega
 have hx:=hN _ (gg hj dNd);obtain⟨l,l1,l2⟩:=gss hN h5 h1 hi hx record 12 1 [] (by omega) (by omega) .nil (fun m hm=>by cases hm) (by simp);refine⟨l,?_,l2⟩;have l1':g2e ((j:Int),record,1,ns,ns.getD j dNd,[])=some l:=l1;rw[g4o,if_pos (g6 hj),g7];have l1'':g2e ((j:Int),record,1,ns,ns.getD j dSheaveref07Node,[])=some l:=l1';rw[l1''];rfl
def symsL(l:List Int) :List SSymbol:=l.map fun j=>⟨j,[UInt8.ofNat 115,UInt8.ofNat (97+j.toNat)]⟩
theorem guq {l : List Int} (hl : l.length ≤ 6) (hr : ∀ x, x ∈ l → 1 ≤ x ∧ x ≤ 6) (n i : Int) (b : List Nd) (b1 : Int) (b2 : List UInt8) (b3 b4 b5 b6 b7 : Int) (b8 : Bool) (b9 : List SType) : ∀ (k j : Nat) (acc : List SSymbol), j + k = l.length → acc.length ≤ j →
   g2q (n,i,l,(j:Int),b,b1,b2,b3,b4,b5,b6,b7,b8,b9,acc)=some (n,i,b,b1,b2,b3,b4,b5,b6,b7,b8,b9,acc++symsL (l.drop j))
 | 0,j,acc,hj,ha=>by
   rw[g2q,if_neg (by simp;omega),List.drop_eq_nil_of_le (by omega:l.length≤j)];simp[symsL]
 | k+1,j,acc,hj,ha=>by
   have hlt:j < l.length:=by omega
   have hx:=hr _ (gg hlt 0);rw[g2q,if_pos (by simp;omega),if_pos (g6 hlt),if_pos (g6 hlt)];simp only[oZ4,oZ3,g7];rw[gso ⟨by omega,by omega⟩,if_pos (gko (by simp)),if_pos (g2h (by omega) (by simp;omega)),gp (by omega),guq hl hr n i b b1 b2 b3 b4 b5 b6 b7 b8 b9 k (j+1) _ (by omega) (by simp;omega),gyx hlt 0];simp[symsL]
def TyP(ns:List Nd)(i:Int)(t:SType) :Prop:=
 let x:=ns.getD i.toNat dNd
 let n:=(ns.length:Int)
 let nameL:=[UInt8.ofNat (65+i.toNat)]
 (kd ns i=1∧t=⟨1,[],0,0,0,[],[],0,0,false⟩)∨
 (kd ns i=2∧t=⟨2,[],x.A % 7 - 3,x.A % 7 - 3+x.B % 6,0,[],[],0,0,false⟩)∨
 (kd ns i=3∧t=⟨3,[],0,0,x.A % 4,[],[],0,0,false⟩)∨
 (kd ns i=4∧∃o,t=⟨4,nameL,0,0,0,symsL (idsL x),[],0,0,o⟩)∨
 (kd ns i=5∧∃l,MemsP ns i true l∧t=⟨5,nameL,0,0,0,[],l,0,0,false⟩)∨
 (kd ns i=6∧t=⟨5,nameL,0,0,0,[],[],0,0,false⟩)∨
 (kd ns i=6∧∃l o,MemsP ns i false l∧0 < l.length∧t=⟨6,nameL,0,0,0,[],l,0,0,o⟩)∨
 (kd ns i=7∧t=⟨7,[],0,0,x.A % 4,[],[],0,x.C % n,false⟩)∨
 (kd ns i=8∧(∀w,¬KeyT ns w)∧t=⟨7,[],0,0,x.A % 4,[],[],0,x.C % n,false⟩)∨
 (kd ns i=8∧∃k,KeyT ns k∧t=⟨8,[],0,0,x.A % 4,[],[],k,x.C % n,false⟩)∨
 (kd ns i=9∧t=⟨9,[],0,0,0,[],[],0,x.C % n,false⟩)
include hN h5 in
theorem of_l0 (h1 : 1 ≤ ns.length) : ∀ (k i : Nat) (acc : List SType), i + k = ns.length → acc.length = i → (∀ j, j < i → TyP ns (j : Int) (acc.getD j dSType)) →
   ∃l,gm ((ns.length:Int),(i:Int),ns,acc)=some l∧l.length=ns.length∧∀j,j < ns.length→TyP ns (j:Int) (l.getD j dSType)
 | 0,i,acc,hi,hl,ha=>⟨acc,by rw[gm,if_neg (by simp;omega)],by omega,fun j hj=>ha j (by omega)⟩
 | k+1,i,acc,hi,hl,ha=>by
   have hlt:i < ns.length:=by omega
   have hx:=hN _ (gg hlt dNd);obtain⟨e,k1,k9⟩:=kd_eq hN h5 (i:=(i:Int)) (by omega) (by omega);have next:∀t:SType,TyP ns (i:Int) t→∃l,(if room 120 (acc++[t]).length=true then gm ((ns.length:Int),addI .i64 (i:Int) 1,ns,acc++[t])else none)=some l∧l.length=ns.length∧∀j,j < ns.length→TyP ns (j:Int) (l.getD j dSType):=by
     intro t ht;rw[if_pos (g2h (by omega) (by simp;omega)),gp (by omega)];refine of_l0 h1 k (i+1) _ (by omega) (by simp;omega) fun j hj=>?_
     by_cases hji:j < i
     · have:(acc++[t]).getD j dSType=acc.getD j dSType:=by
         rw[List.getD_eq_getElem?_getD,List.getD_eq_getElem?_getD,List.getElem?_append_left (by omega)]
       rw[this];exact ha j hji
     · have:j=i:=by omega
       subst this;have:(acc++[t]).getD j dSType=t:=by
         rw[List.getD_eq_getElem?_getD,List.getElem?_append_right (by omega),hl];simp
       rw[this];exact ht
   rw[gm,if_pos (by simp;omega),if_pos (g6 hlt)];simp only[oZ4,oZ3,g7];rw[e];simp only[oZ3,g1g];have hrune:=g14q (k:=(i:Int)) ⟨by omega,by omega⟩;have hT:∀t,TyP ns (i:Int) t→TyP ns (i:Int) t:=fun t h=>h
   have⟨ga,gb,gc⟩:U8 (ns.getD i dNd).A∧U8 (ns.getD i dNd).B∧U8 (ns.getD i dNd).C:=⟨hx.a,hx.b,hx.c⟩
   have g0:(!(decide ((ns.length:Int)=0)))=true:=nz (by omega);have gA:wrp .i64 (remI (ns.getD i dNd).A 4)=(ns.getD i dNd).A % 4:=by
     unfold U8 at ga;rw[g5n ga.1 (by omega),g9b ⟨by omega,by omega⟩]
   have gC:remI (wrp .i64 (ns.getD i dNd).C) (ns.length:Int)=(ns.getD i dNd).C % (ns.length:Int):=by
     unfold U8 at gc;rw[g9b ⟨by omega,by omega⟩,g5n gc.1 (by omega)]
   have hc9:kd ns (i:Int)=1∨kd ns (i:Int)=2∨kd ns (i:Int)=3∨kd ns (i:Int)=4∨kd ns (i:Int)=5∨kd ns (i:Int)=6∨kd ns (i:Int)=7∨kd ns (i:Int)=8∨kd ns (i:Int)=9:=by omega
   rcases hc9 with hk | hk | hk | hk | hk | hk | hk | hk | hk <;> rw[hk] <;>
     simp only[Int.reduceEq,decide_false,decide_true,Bool.false_eq_true,if_false,if_true,oZ3,cond_false,cond_true]
   · exact next _ (by unfold TyP;simp[hk])
   · have el:=gsp hx;have eh:=gup hx;have el':g3u (ns.getD i dSheaveref07Node)=_:=el;have eh':g55 (ns.getD i dSheaveref07Node)=_:=eh;rw[el'];simp only[oZ3];rw[eh'];simp only[oZ3];exact next _ (by unfold TyP;simp only[g7];exact .inr (.inl ⟨hk,by first | trivial | rfl⟩))
   · have gA':wrp .i64 (remI (ns.getD i dSheaveref07Node).A 4)=_:=gA;rw[gA'];exact next _ (by unfold TyP;simp only[g7];exact .inr (.inr (.inl ⟨hk,by first | trivial | rfl⟩)))
   · obtain⟨i1,i2,i3,i4⟩:=ids_eq' (ns.getD i dNd);have i1':g3g (ns.getD i dSheaveref07Node)=_:=i1;rw[i1'];simp only[oZ3];have hs:=guq (l:=idsL (ns.getD i dNd)) i4 i2.2 (ns.length:Int) (i:Int) ns 4 (g7s (wrp .i32 (addI .i64 65 (i:Int)))) 0 0 0 0 0 (decide (remI (ns.getD i dNd).B 2=1)) acc (idsL (ns.getD i dNd)).length 0 [] (by omega) (by simp)
     have hs':g2q ((ns.length:Int),(i:Int),idsL (ns.getD i dNd),0,ns,4,g7s (wrp .i32 (addI .i64 65 (i:Int))),0,0,0,0,0,decide (remI (ns.getD i dSheaveref07Node).B 2=1),acc,[])=_:=hs;rw[hs'];simp only[oZ3,List.drop_zero,List.nil_append];rw[hrune];exact next _ (by unfold TyP;simp only[g7];exact .inr (.inr (.inr (.inl ⟨hk,_,rfl⟩))))
   · obtain⟨l,l1,l2⟩:=gst hN h5 h1 (i:=(i:Int)) ⟨by omega,by omega⟩ true;rw[l1];simp only[oZ3];rw[hrune];exact next _ (by unfold TyP;simp only[g7];exact .inr (.inr (.inr (.inr (.inl ⟨hk,l,l2,rfl⟩)))))
   · obtain⟨l,l1,l2⟩:=gst hN h5 h1 (i:=(i:Int)) ⟨by omega,by omega⟩ false;rw[l1];simp only[oZ3];rw[hrune];by_cases h0:l.length=0
     · rw[if_pos (by simp[h0])];exact next _ (by unfold TyP;simp only[g7];exact .inr (.inr (.inr (.inr (.inr (.inl ⟨hk,by first | trivial | rfl⟩))))))
     · rw[if_neg (by simp;intro h;rw[h]at h0;simp at h0)];exact next _ (by unfold TyP;simp only[g7];exact .inr (.inr (.inr (.inr (.inr (.inr (.inl ⟨hk,l,_,l2,by omega,rfl⟩)))))))
   · have gA':wrp .i64 (remI (ns.getD i dSheaveref07Node).A 4)=_:=gA;have gC':remI (wrp .i64 (ns.getD i dSheaveref07Node).C) (ns.length:Int)=_:=gC;rw[if_pos g0,gA',gC'];exact next _ (by unfold TyP;simp only[g7];exact .inr (.inr (.inr (.inr (.inr (.inr (.inr (.inl ⟨hk,by first | trivial | rfl⟩))))))))
   · have gA':wrp .i64 (remI (ns.getD i dSheaveref07Node).A 4)=_:=gA;have gC':remI (wrp .i64 (ns.getD i dSheaveref07Node).C) (ns.length:Int)=_:=gC;obtain⟨u,u1,u2⟩:=gz4 hN h5 gb h1;have u1':g5h ((⟨ns⟩:Sheaveref07Draft),(ns.getD i dSheaveref07Node).B)=some u:=u1;rw[u1'];simp only[oZ3];rw[if_pos g0,gA',gC'];rcases u2 with⟨rfl,a⟩ | a
     · rw[if_pos (by simp)];exact next _ (by unfold TyP;simp only[g7];exact .inr (.inr (.inr (.inr (.inr (.inr (.inr (.inr (.inl ⟨hk,a,by first | trivial | rfl⟩)))))))))
     · rw[if_neg (by have:=a.1;simp;omega)];exact next _ (by unfold TyP;simp only[g7];exact .inr (.inr (.inr (.inr (.inr (.inr (.inr (.inr (.inr (.inl ⟨hk,u,a,rfl⟩))))))))))
   · have gC':remI (wrp .i64 (ns.getD i dSheaveref07Node).C) (ns.length:Int)=_:=gC;rw[if_pos g0,gC'];exact next _ (by unfold TyP;simp only[g7];exact .inr (.inr (.inr (.inr (.inr (.inr (.inr (.inr (.inr (.inr ⟨hk,by first | trivial | rfl⟩))))))))))
end
def DOk(d:Sheaveref07Draft) :Prop:=d.Nodes.length≤reachBytes∧∀x,x∈d.Nodes→NOk x
theorem of_eq{d:Sheaveref07Draft}(hd:DOk d) :g5w d=some (⟨[]⟩,false)∨∃l,g5w d=some (⟨l⟩,true)∧1≤d.Nodes.length∧d.Nodes.length≤5∧l.length=d.Nodes.length∧∀j,j < d.Nodes.length→TyP d.Nodes (j:Int) (l.getD j dSType):=by
 rw[g5w];simp only[oZ4,oZ3];by_cases h:1≤d.Nodes.length∧d.Nodes.length≤5
 · obtain⟨l,l1,l2,l3⟩:=of_l0 hd.2 h.2 h.1 d.Nodes.length 0 [] (by omega) rfl (fun j hj=>by omega);have l1':gm ((d.Nodes.length:Int),0,d.Nodes,[])=some l:=l1;right;have hc:¬((bif decide ((d.Nodes.length:Int) < 1)then true else decide (5 < (d.Nodes.length:Int)))=true):=by
     have a:¬(d.Nodes.length:Int) < 1:=by omega
     have b:¬(5:Int) < (d.Nodes.length:Int):=by omega
     simp only[a,b,decide_false,cond_false,Bool.false_eq_true,not_false_eq_true]
   rw[if_neg hc,l1'];exact⟨l,rfl,h.1,h.2,l2,l3⟩
 · left;have hc:(bif decide ((d.Nodes.length:Int) < 1)then true else decide (5 < (d.Nodes.length:Int)))=true:=by
     by_cases a:(d.Nodes.length:Int) < 1
     · simp only[a,decide_true,cond_true]
     · have b:(5:Int) < (d.Nodes.length:Int):=by omega
       simp only[a,b,decide_true,decide_false,cond_false]
   rw[if_pos hc]
end
section
open Go Go.Proofs.YtijpinendaoleaaGreat.Shv Go.Sort
set_option maxRecDepth 100000
structure DrOk (ts:List SType):Prop where
 n1:1≤ts.length
 n5:ts.length≤5
 T:∀t,t∈ts→OkT t
 V:VOk ts
 D:∀t,t∈ts→g14o ts t.Members
 R:∀i:Nat,i < ts.length→∀m,m∈(ts.getD i dSType).Members→0≤m.Type_∧m.Type_ < ts.length∧(7≤(ts.getD m.Type_.toNat dSType).Kind∨m.Type_ < i)
 L:∀t,t∈ts→t.Kind=2→-3≤t.Low∧t.High≤8
 M:∀t,t∈ts→t.Max≤3
 I:∀t,t∈ts→(∀m,m∈t.Members→m.ID≤12)∧(∀y,y∈t.Symbols→y.ID≤6)∧t.Members.length≤12
 W:∀t,t∈ts→∀m,m∈t.Members→m.HasDefault=true→wt m.Default≤13
theorem g8h{v:SValue}(hk:v.Keys=[])(hi:v.Items=[])(hr:v.Rest=[])(hs:v.Str.length≤1000)(n1:I64 v.Kind)(n2:I64 v.Int_)(n3:I64 v.ID) :OkV v:=by
 refine .mk v (by unfold reachBytes;omega) (by rw[hk];simp) (by rw[hi];simp) (by rw[hr];simp) (fun x hx=>?_) (fun x hx=>?_) (fun x hx=>?_) n1 n2 n3 (fun x hx=>?_)
 · rw[hk]at hx;cases hx
 · rw[hi]at hx;cases hx
 · rw[hr]at hx;cases hx
 · rw[hr]at hx;cases hx
theorem okV_d :OkV dSValue:=g8h rfl rfl rfl (by simp[dSValue]) (by unfold I64 dSValue;simp) (by unfold I64 dSValue;simp) (by unfold I64 dSValue;simp)
theorem gur{v:SValue}(hk:v.Keys=[])(hi:v.Items=[])(hr:v.Rest=[]) :wt v=10+v.Str.length:=by
 rw[wt_eq,hk,hi,hr,g5m];simp
section
variable {ns:List Nd} (hN:∀x,x∈ns→NOk x) (h5:ns.length≤5) (h1:1≤ns.length) {l:List SType} (hl:l.length=ns.length) (hT:∀j,j < ns.length→TyP ns (j:Int) (l.getD j dSType))
include hN h5 in
theorem gus{t:Int}(ht:0≤t∧t < ns.length){v:SValue}(h:Init ns t v) :OkV v∧wt v≤13:=by
 obtain⟨a,b,c,h⟩:=h;obtain⟨j,rfl⟩:∃j:Nat,t=(j:Int):=⟨t.toNat,by omega⟩
 have hx:=hN _ (gg (by omega:j < ns.length) dNd);obtain⟨_,k1,k9⟩:=kd_eq hN h5 ht.1 ht.2;rw[g7]at h;have ha:=hx.a;have hb:=hx.b;have hids:=(ids_eq' (ns.getD j dNd)).2.1.2;unfold U8 at ha hb;rw[gur a b c];have hs:v.Str.length≤3:=by
   rcases h with⟨_,_,_,e,_⟩ | ⟨_,_,_,e,_⟩ | ⟨_,_,_,_,_,e⟩ | ⟨_,_,_,_,e,_⟩ | ⟨_,_,_,e,_⟩
   · rw[e];simp
   · rw[e];simp
   · omega
   · rw[e];simp
   · rw[e];simp
 refine⟨g8h a b c (by omega) ?_ ?_ ?_,by omega⟩
 · unfold I64;rcases h with h | h | h | h | h <;> omega
 · unfold I64;rcases h with⟨_,_,e,_⟩ | ⟨_,_,_,_,_,e⟩ | ⟨_,_,_,e,_⟩ | ⟨_,_,_,e,_⟩ | ⟨_,_,e,_⟩ <;> omega
 · unfold I64;rcases h with⟨_,_,_,_,e⟩ | ⟨_,_,_,_,e,_⟩ | ⟨_,_,_,_,e,_⟩ | ⟨_,_,_,_,_,e⟩ | ⟨_,_,_,_,e,_⟩
   · omega
   · omega
   · omega
   · have:=hids _ e;omega
   · omega
include hN h5 in
theorem goq{i:Int}{r:Bool}{Ms:List SMember}(h:MemsP ns i r Ms) :gbd (!r) Ms∨(r=false∧Ms=[]):=by
 obtain⟨a,b,c⟩:=h;by_cases h0:r=false∧Ms=[]
 · exact .inr h0
 left;refine⟨fun m hm=>?_,?_,⟨a,fun m hm=>?_⟩,fun m hm=>?_,?_,by omega⟩
 · have q:=b m hm;unfold badM;have hz:m.HasDefault=false→ga1 m.Default=true:=fun h=>by
     rw[q.nod h];have h3:Says (g4e (dSValue,dSValue)) dSValue dSValue:=gdf okV_d dSValue;obtain⟨w,w1,w2⟩:=h3;unfold ga1;rw[w1];exact w2.2 rfl
   have hc:=q.crit;have hu:=q.un;cases r <;> cases hcr:m.Critical <;> cases hdf:m.HasDefault <;> simp_all
 · cases r with
   | true=>exact .inl rfl
   | false=>
     right;have:Ms≠[]:=fun e=>h0 ⟨rfl,e⟩
     exact List.length_pos_iff.2 this
 · have:=(b m hm).id;exact⟨by omega,by omega⟩
 · have q:=b m hm;have:=q.id;rw[q.name];exact gz1 (by omega) (by omega)
 · unfold List.Nodup;rw[List.pairwise_map];refine a.imp_of_mem fun {x y} hx hy hlt=>?_
   have qx:=b x hx;have qy:=b y hy;have ix:=qx.id;have iy:=qy.id;rw[qx.name,qy.name];intro e;simp only[List.cons.injEq,and_true,true_and]at e;have e2:=congrArg UInt8.toNat e;rw[g5j (by omega),g5j (by omega)]at e2;omega
theorem gor{l:List Int}(h:IdsOk l 6)(h1:1≤l.length)(h6:l.length≤6) :gks (symsL l)∧(∀y,y∈symsL l→y.ID≤6):=by
 unfold symsL;refine⟨⟨by simp;omega,⟨?_,fun y hy=>?_⟩,fun y hy=>?_,?_,by simp;omega⟩,fun y hy=>?_⟩
 · rw[List.pairwise_map];exact h.1
 · obtain⟨x,hx,rfl⟩:=List.mem_map.1 hy;have:=h.2 x hx;exact⟨this.1,by show x≤1000;omega⟩
 · obtain⟨x,hx,rfl⟩:=List.mem_map.1 hy;have:=h.2 x hx;exact gz1 (by omega) (by omega)
 · unfold List.Nodup;rw[List.pairwise_map,List.pairwise_map];refine h.1.imp_of_mem fun {x y} hx hy hlt=>?_
   have ix:=h.2 x hx;have iy:=h.2 y hy;intro e;simp only[List.cons.injEq,and_true,true_and]at e;have e2:=congrArg UInt8.toNat e;rw[g5j (by omega),g5j (by omega)]at e2;omega
 · obtain⟨x,hx,rfl⟩:=List.mem_map.1 hy;exact(h.2 x hx).2
theorem gut{i:Int}{t:SType}(h:TyP ns i t) :(kd ns i≤5∨kd ns i=7∨kd ns i=9→t.Kind=kd ns i)∧(kd ns i=6→t.Kind=5∨t.Kind=6)∧(kd ns i=8→(t.Kind=8∧∃w,KeyT ns w)∨(t.Kind=7∧¬∃w,KeyT ns w)):=by
 unfold TyP at h;rcases h with⟨k,rfl⟩ | ⟨k,rfl⟩ | ⟨k,rfl⟩ | ⟨k,_,rfl⟩ | ⟨k,_,_,rfl⟩ | ⟨k,rfl⟩ | ⟨k,_,_,_,_,rfl⟩ | ⟨k,rfl⟩ | ⟨k,a,rfl⟩ | ⟨k,w,a,rfl⟩ | ⟨k,rfl⟩ <;> simp[k]
 · exact fun w hw=>a w hw
 · exact⟨w,a⟩
theorem gij{i:Int}{t:SType}(h:TyP ns i t) :t.Members=[]∨∃r,MemsP ns i r t.Members:=by
 unfold TyP at h;rcases h with⟨k,rfl⟩ | ⟨k,rfl⟩ | ⟨k,rfl⟩ | ⟨k,_,rfl⟩ | ⟨k,_,a,rfl⟩ | ⟨k,rfl⟩ | ⟨k,_,_,a,_,rfl⟩ | ⟨k,rfl⟩ | ⟨k,a,rfl⟩ | ⟨k,w,a,rfl⟩ | ⟨k,rfl⟩
 · exact .inl rfl
 · exact .inl rfl
 · exact .inl rfl
 · exact .inl rfl
 · exact .inr ⟨_,a⟩
 · exact .inl rfl
 · exact .inr ⟨_,a⟩
 · exact .inl rfl
 · exact .inl rfl
 · exact .inl rfl
 · exact .inl rfl
include hN h5 h1 hl hT in
theorem g10i :DrOk l:=by
 have lift:∀{P:SType→Prop},(∀j,j < ns.length→P (l.getD j dSType))→∀t,t∈l→P t:=fun hp t ht=>by
   obtain⟨i,hi,rfl⟩:=List.getElem_of_mem ht;have:=hp i (by omega);rw[gk hi]at this;exact this
 have hx:∀j,j < ns.length→NOk (ns.getD j dNd):=fun j hj=>hN _ (gg hj dNd)
 have mem:∀j,j < ns.length→∀m,m∈(l.getD j dSType).Members→∃r,MemP ns (j:Int) r m:=fun j hj m hm=>by
   rcases gij (hT j hj)with h | ⟨r,_,h,_⟩
   · rw[h]at hm;cases hm
   · exact⟨r,h m hm⟩
 have okT:∀t,t∈l→OkT t:=lift fun j hj=>by
   have hm:=mem j hj;have ht:=hT j hj;have hlm:(l.getD j dSType).Members.length≤12:=by
     rcases gij ht with h | ⟨r,_,_,h⟩
     · rw[h];simp
     · exact h
   have hls:(l.getD j dSType).Symbols.length≤6:=by
     have hi:=(ids_eq' (ns.getD j dNd)).2.2.2;unfold TyP at ht;rcases ht with⟨k,e⟩ | ⟨k,e⟩ | ⟨k,e⟩ | ⟨k,_,e⟩ | ⟨k,_,_,e⟩ | ⟨k,e⟩ | ⟨k,_,_,_,_,e⟩ | ⟨k,e⟩ | ⟨k,_,e⟩ | ⟨k,_,_,e⟩ | ⟨k,e⟩ <;> rw[e]
     case inr.inr.inr.inl=>simp only[g7,symsL,List.length_map];exact hi
     all_goals simp
   refine⟨by unfold reachBytes;omega,by unfold reachBytes;omega,fun m hm'=>?_⟩;obtain⟨r,q⟩:=hm m hm';by_cases hd:m.HasDefault=true
   · exact(gus hN h5 ⟨q.tgt.1,q.tgt.2.1⟩ (q.dfl hd)).1
   · rw[q.nod (by simpa using hd)];exact okV_d
 have kind7:∀u:Int,0≤u→u < ns.length→7≤kd ns u→7≤(l.getD u.toNat dSType).Kind:=fun u h0 hu h7=>by
   obtain⟨j,rfl⟩:∃j:Nat,u=(j:Int):=⟨u.toNat,by omega⟩
   rw[g7];obtain⟨_,_,k9⟩:=kd_eq hN h5 h0 hu;obtain⟨a,b,c⟩:=gut (hT j (by omega));have:kd ns (j:Int)=7∨kd ns (j:Int)=8∨kd ns (j:Int)=9:=by omega
   rcases this with h | h | h
   · have:=a (.inr (.inl h));omega
   · rcases c h with h | h <;> omega
   · have:=a (.inr (.inr h));omega
 have vok:VOk l:=by
   refine⟨by omega,lift fun j hj=>?_,fun j hj=>?_,lift fun j hj=>?_,lift fun j hj h8=>?_⟩
   · have ht:=hT j hj;have hid:=ids_eq' (ns.getD j dNd);have ha:=(hx j hj).a;have hb:=(hx j hj).b;have hnm:nm [UInt8.ofNat (65+j)]=true:=g14r (by omega);unfold U8 at ha hb;unfold TyP at ht;simp only[g7]at ht;generalize [UInt8.ofNat (65+j)]=nmL at hnm ht;unfold FormP
     rcases ht with⟨k,e⟩ | ⟨k,e⟩ | ⟨k,e⟩ | ⟨k,_,e⟩ | ⟨k,Ms,a,e⟩ | ⟨k,e⟩ | ⟨k,Ms,_,a,a0,e⟩ | ⟨k,e⟩ | ⟨k,_,e⟩ | ⟨k,_,_,e⟩ | ⟨k,e⟩ <;> rw[e]
     · simp
     · simp;omega
     · simp;omega
     · simp;exact⟨hnm,(gor hid.2.1 hid.2.2.1 hid.2.2.2).1⟩
     · simp;refine⟨hnm,?_⟩;rcases goq hN h5 a with h | ⟨h,_⟩
       · exact h
       · cases h
     · simp;exact⟨hnm,fun m hm=>(by cases hm),.inl rfl,⟨.nil,fun m hm=>by cases hm⟩,fun m hm=>(by cases hm),by simp,by simp⟩
     · simp;refine⟨hnm,?_⟩;rcases goq hN h5 a with h | ⟨_,h⟩
       · exact h
       · rw[h]at a0;simp at a0
     · simp;omega
     · simp;omega
     · simp;omega
     · simp
   ·
     have nameOf:∀k,k < ns.length→(l.getD k dSType).Name=[]∨(l.getD k dSType).Name=[UInt8.ofNat (65+k)]:=fun k hk=>by
       have ht:=hT k hk;unfold TyP at ht;simp only[g7]at ht;rcases ht with⟨k,e⟩ | ⟨k,e⟩ | ⟨k,e⟩ | ⟨k,_,e⟩ | ⟨k,Ms,a,e⟩ | ⟨k,e⟩ | ⟨k,Ms,_,a,a0,e⟩ | ⟨k,e⟩ | ⟨k,_,e⟩ | ⟨k,_,_,e⟩ | ⟨k,e⟩ <;> rw[e] <;> simp
     rcases nameOf j (by omega)with h | h
     · rw[h];simp
     · rw[h];simp only[Bool.and_eq_false_iff];right;apply Bool.eq_false_iff.2;intro hc;obtain⟨k,hk,he⟩:=(g54 (by simp;omega)).1 hc;have hg:(l.map (·.Name)).getD k []=(l.getD k dSType).Name:=g2b (·.Name) l k dSType [] (by omega);rw[hg]at he;rcases nameOf k (by omega)with h' | h'
       · rw[h']at he;cases he
       · rw[h']at he;simp only[List.cons.injEq,and_true]at he;have e2:=congrArg UInt8.toNat he;rw[g5j (by omega),g5j (by omega)]at e2;omega
   · intro u hu;have hm:=mem j hj;have hc:=(hx j hj).c;unfold U8 at hc;have c0:0≤(ns.getD j dNd).C % (ns.length:Int):=Int.emod_nonneg _ (by omega);have c1:(ns.getD j dNd).C % (ns.length:Int) < ns.length:=Int.emod_lt_of_pos _ (by omega);have ht:=hT j hj;unfold TyP at ht;simp only[g7]at ht;generalize (ns.getD j dNd).C % (ns.length:Int)=cc at c0 c1 ht;unfold usesL at hu
     simp only[List.mem_append,List.mem_map]at hu;rcases hu with(⟨m,h,rfl⟩ | h) | h
     · obtain⟨r,q⟩:=hm m h;have:=q.tgt.1;have:=q.tgt.2.1;omega
     · split at h
       · rename_i h8;have:u=(l.getD j dSType).Key:=by simpa using h
         rw[this];rcases ht with⟨k,e⟩ | ⟨k,e⟩ | ⟨k,e⟩ | ⟨k,_,e⟩ | ⟨k,Ms,a,e⟩ | ⟨k,e⟩ | ⟨k,Ms,_,a,a0,e⟩ | ⟨k,e⟩ | ⟨k,_,e⟩ | ⟨k,w,a,e⟩ | ⟨k,e⟩ <;> rw[e]at h8 ⊢ <;> simp at h8 ⊢
         obtain⟨w0,w1,_⟩:=a;omega
       · cases h
     · split at h
       · rename_i h7;have:u=(l.getD j dSType).Elem:=by simpa using h
         rw[this];rcases ht with⟨k,e⟩ | ⟨k,e⟩ | ⟨k,e⟩ | ⟨k,_,e⟩ | ⟨k,Ms,a,e⟩ | ⟨k,e⟩ | ⟨k,Ms,_,a,a0,e⟩ | ⟨k,e⟩ | ⟨k,_,e⟩ | ⟨k,w,a,e⟩ | ⟨k,e⟩ <;> rw[e]at h7 ⊢ <;> simp at h7 ⊢ <;> omega
       · cases h
   · have ht:=hT j hj;unfold TyP at ht;simp only[g7]at ht;rcases ht with⟨k,e⟩ | ⟨k,e⟩ | ⟨k,e⟩ | ⟨k,_,e⟩ | ⟨k,Ms,a,e⟩ | ⟨k,e⟩ | ⟨k,Ms,_,a,a0,e⟩ | ⟨k,e⟩ | ⟨k,_,e⟩ | ⟨k,w,a,e⟩ | ⟨k,e⟩ <;> rw[e]at h8 ⊢ <;> simp at h8 ⊢
     obtain⟨w0,w1,w2,w3⟩:=a;obtain⟨q,rfl⟩:∃q:Nat,w=(q:Int):=⟨w.toNat,by omega⟩
     obtain⟨a,_,_⟩:=gut (hT q (by omega));have:=a (.inl (by omega));simp only[g7];rw[←List.getD_eq_getElem?_getD];omega
 refine⟨by omega,by omega,okT,vok,lift fun j hj m hm hd=>?_,fun j hj m hm=>?_,lift fun j hj h2=>?_,lift fun j hj=>?_,lift fun j hj=>⟨fun m hm=>?_,fun y hy=>?_,?_⟩,lift fun j hj m hm hd=>?_⟩
 · obtain⟨r,q⟩:=mem j hj m hm;have hi:=q.dfl hd;obtain⟨u0,u1,_⟩:=q.tgt;generalize m.Default=v at hi;obtain⟨u,hu⟩:∃u:Nat,m.Type_=(u:Int):=⟨m.Type_.toNat,by omega⟩
   rw[hu]at hi u0 u1 ⊢;have ht:=hT u (by omega);obtain⟨a,b,c,hi⟩:=hi;rw[g10];simp only[g7]at hi ⊢;unfold TyP at ht;simp only[g7]at ht;have hlen:((l.length:Nat):Int)=ns.length:=by omega
   rw[hlen];generalize l.getD u dSType=x at ht ⊢;rw[a,b,c];have vn:∀t,vfits l true t []:=fun t=>by rw[vfits];trivial
   have ka:g68 []:=fun i hi=>by simp at hi
   have hxu:=hx u (by omega);generalize ns.getD u dNd=nd at ht hi hxu;rcases hi with⟨k,e1,e2,e3,e4⟩ | ⟨k,e1,e2,e3,e4,e5,e6⟩ | ⟨k,e1,e2,e3,e4,e5⟩ | ⟨k,e1,e2,e3,e4,e5⟩ | ⟨k,e1,e2,e3,e4,e5⟩
   · rw[k]at ht;simp only[Int.reduceEq,false_and,true_and,or_false,false_or]at ht;rw[ht,e1,e2,e3,e4];simp <;> omega
   · rw[k]at ht;simp only[Int.reduceEq,false_and,true_and,or_false,false_or]at ht;rw[ht,e1,e2,e3,e4];simp <;> omega
   · rw[k]at ht;simp only[Int.reduceEq,false_and,true_and,or_false,false_or]at ht;rw[ht,e1,e2,e3,e4];simp <;> omega
   · rw[k]at ht;simp only[Int.reduceEq,false_and,true_and,or_false,false_or]at ht;obtain⟨o,rfl⟩:=ht;rw[e1,e2,e3,e4];simp;refine⟨by omega,⟨v.ID,[UInt8.ofNat 115,UInt8.ofNat (97+v.ID.toNat)]⟩,?_,rfl⟩;unfold symsL;refine List.mem_map.2 ⟨v.ID,?_,rfl⟩;exact e5
   · rw[e1,e2,e3,e4];have k9:kd ns (u:Int)≤9:=(kd_eq hN h5 u0 u1).2.2;have hcc:kd ns (u:Int)=7∨kd ns (u:Int)=8∨kd ns (u:Int)=9:=by omega
     have ha:=hxu.a;unfold U8 at ha;rcases hcc with k' | k' | k'
     · rw[k']at ht e5;simp only[Int.reduceEq,false_and,true_and,or_false,false_or]at ht;have e5':v.Kind=7:=by simpa using e5
       rw[ht,e5'];simp[vn];omega
     · rw[k']at ht e5;simp at e5;rcases e5 with⟨e5,w,hw⟩ | ⟨e5,e6⟩
       · simp at ht;rcases ht with⟨hno,_⟩ | ⟨w',hw',rfl⟩
         · exact absurd hw (hno w)
         · rw[e5];simp[vn,ka];omega
       · simp at ht;rcases ht with⟨hno,rfl⟩ | ⟨w',hw',rfl⟩
         · rw[e5];simp[vn];omega
         · exact absurd hw' (e6 w')
     · rw[k']at ht e5;simp only[Int.reduceEq,false_and,true_and,or_false,false_or]at ht;have e5':v.Kind=9:=by simpa using e5
       rw[ht,e5'];simp[vn];omega
 · obtain⟨r,q⟩:=mem j (by omega) m hm;obtain⟨u0,u1,u2⟩:=q.tgt;refine⟨u0,by omega,?_⟩;rcases u2 with h | h
   · exact .inl (kind7 _ u0 u1 h)
   · exact .inr h
 · have ht:=hT j hj;have ha:=(hx j hj).a;have hb:=(hx j hj).b;unfold U8 at ha hb;unfold TyP at ht;simp only[g7]at ht;rcases ht with⟨k,e⟩ | ⟨k,e⟩ | ⟨k,e⟩ | ⟨k,_,e⟩ | ⟨k,Ms,a,e⟩ | ⟨k,e⟩ | ⟨k,Ms,_,a,a0,e⟩ | ⟨k,e⟩ | ⟨k,_,e⟩ | ⟨k,w,a,e⟩ | ⟨k,e⟩ <;> rw[e]at h2 ⊢ <;> simp at h2 ⊢
   omega
 · have ht:=hT j hj;have ha:=(hx j hj).a;unfold U8 at ha;unfold TyP at ht;simp only[g7]at ht;rcases ht with⟨k,e⟩ | ⟨k,e⟩ | ⟨k,e⟩ | ⟨k,_,e⟩ | ⟨k,Ms,a,e⟩ | ⟨k,e⟩ | ⟨k,Ms,_,a,a0,e⟩ | ⟨k,e⟩ | ⟨k,_,e⟩ | ⟨k,w,a,e⟩ | ⟨k,e⟩ <;> rw[e] <;> simp <;> omega
 · obtain⟨r,q⟩:=mem j hj m hm;exact q.id.2
 · have ht:=hT j hj;have hid:=ids_eq' (ns.getD j dNd);unfold TyP at ht;simp only[g7]at ht;rcases ht with⟨k,e⟩ | ⟨k,e⟩ | ⟨k,e⟩ | ⟨k,_,e⟩ | ⟨k,Ms,a,e⟩ | ⟨k,e⟩ | ⟨k,Ms,_,a,a0,e⟩ | ⟨k,e⟩ | ⟨k,_,e⟩ | ⟨k,w,a,e⟩ | ⟨k,e⟩ <;> rw[e]at hy <;> simp at hy
   exact(gor hid.2.1 hid.2.2.1 hid.2.2.2).2 y hy
 · rcases gij (hT j hj)with h | ⟨r,_,_,h⟩
   · rw[h];simp
   · exact h
 · obtain⟨r,q⟩:=mem j hj m hm;exact(gus hN h5 ⟨q.tgt.1,q.tgt.2.1⟩ (q.dfl hd)).2
end
theorem of_ok{d:Sheaveref07Draft}(hd:DOk d) :g5w d=some (⟨[]⟩,false)∨∃l,g5w d=some (⟨l⟩,true)∧DrOk l:=by
 rcases of_eq hd with h | ⟨l,a,b,c,e,f⟩
 · exact .inl h
 · exact .inr ⟨l,a,g10i hd.2 c b e f⟩
end
section
open Go Go.Proofs.YtijpinendaoleaaGreat.Shv Go.Sort
set_option maxRecDepth 100000
def Suf(C' C:List Int) :Prop:=C'.length≤C.length∧∀c,c∈C'→c∈C
theorem Suf.refl(C:List Int) :Suf C C:=⟨Nat.le_refl _,fun _ h=>h⟩
theorem Suf.trans{A B C:List Int}(h:Suf A B)(k:Suf B C) :Suf A C:=⟨Nat.le_trans h.1 k.1,fun c hc=>k.2 c (h.2 c hc)⟩
def CU8(C:List Int) :Prop:=∀c,c∈C→U8 c
theorem CU8.suf{A B:List Int}(h:CU8 B)(k:Suf A B) :CU8 A:=fun c hc=>h c (k.2 c hc)
section
variable {ts:List SType}
theorem g6r {n : Int} (hn : 1 ≤ n ∧ n ≤ 1000) {C : List Int} (hC : CU8 C) (hl : C.length ≤ 1000) (odd : Bool) :
   ∃r C',gr (n,ts,C,odd)=some (r,ts,C',odd)∧0≤r∧r < n∧Suf C' C∧(r=0∧C'=[]∧C=[]∨C'.length+1=C.length):=by
 rw[gr];cases C with
 | nil=>
   rw[if_pos (by simp)];exact⟨0,[],rfl,by omega,by omega,Suf.refl _,.inl ⟨rfl,rfl,rfl⟩⟩
 | cons c C=>
   have hc:=hC c (.head _);unfold U8 at hc;have h0:inR 0 (c::C).length=true:=g6 (k:=0) (by simp);have h1:slR 1 ((c::C).length:Int) (c::C).length=true:=gbs (a:=1) (by simp) (by simp);have h2:cutL (c::C) 1 ((c::C).length:Int)=C:=by
     have:=geb (c::C) 1
     simpa using this
   rw[if_neg (by simp;omega),if_pos h0,if_pos (nz (by omega)),if_pos h1,h2];simp only[Int.toNat_zero,List.getD_cons_zero];rw[g9b ⟨by omega,by omega⟩,g5n hc.1 (by omega)];exact⟨_,C,rfl,Int.emod_nonneg _ (by omega),Int.emod_lt_of_pos _ (by omega),⟨by simp,fun x hx=>.tail _ hx⟩,.inr (by simp)⟩
theorem gsu {C : List Int} (hC : CU8 C) (hl : C.length ≤ 1000) (odd : Bool) :
   ∃o C',g3y (ts,C,odd)=some (o,ts,C',odd)∧(odd=false→o=false)∧Suf C' C:=by
 rw[g3y];cases odd with
 | false=>exact⟨false,C,rfl,fun _=>rfl,Suf.refl _⟩
 | true=>
   obtain⟨r,C',h1,_,_,h4,_⟩:=g6r (ts:=ts) (n:=4) ⟨by omega,by omega⟩ hC hl true;rw[if_pos rfl,h1];exact⟨_,C',rfl,fun h=>(by cases h),h4⟩
theorem g11k{x:SType}(hm:x.Members.length < 9223372036854775807)(hs:x.Symbols.length < 9223372036854775807)(n:Int) :SaysP (g8g (x,n)) ((∃m,m∈x.Members∧m.ID=n)∨∃y,y∈x.Symbols∧y.ID=n):=by
 obtain⟨r,_,r2,hf⟩:=g6m (t:=x) n hm;obtain⟨s,_,s2,hg⟩:=ga2 (t:=x) n hs;rw[g8g,r2];simp only[oZ4,oZ3];rw[s2];refine⟨_,rfl,?_⟩;have h1:=goo hg;have h2:r.2=true↔∃m,m∈x.Members∧m.ID=n:=by
   rcases gg3 hf with⟨e,j,q1,_,_,q4⟩ | ⟨e,q⟩
   · rw[e];simp only[true_iff];exact⟨_,gg q1 dSMember,q4⟩
   · rw[e];have:=gwm q;simp;exact this
 rw[←h1,←h2];cases r.2 <;> cases s.2 <;> simp
theorem gos {x : SType} (hm : x.Members.length < 9223372036854775807) (hs : x.Symbols.length < 9223372036854775807) (h12 : ∀ m, m ∈ x.Members → m.ID ≤ 12) (h6 : ∀ y, y ∈ x.Symbols → y.ID ≤ 6) (C : List Int) (odd : Bool) :
   ∀(k:Nat) (n:Int),1≤n→n≤14→13≤n+k→∃n',g2m (n,ts,C,odd,x)=some (n',ts,C,odd)∧1≤n'∧n'≤14∧(∀m,m∈x.Members→m.ID≠n')∧(∀y,y∈x.Symbols→y.ID≠n')
 | k,n,h1,h14,hk=>by
   obtain⟨r,r1,r2⟩:=g11k hm hs n;rw[g2m,r1];simp only[oZ4,oZ3];cases r with
   | false=>
     rw[if_neg (by simp)];refine⟨n,rfl,h1,h14,fun m hm' e=>?_,fun y hy e=>?_⟩
     · have:=r2.2 (.inl ⟨m,hm',e⟩);cases this
     · have:=r2.2 (.inr ⟨y,hy,e⟩);cases this
   | true=>
     have hle:n≤12:=by
       rcases r2.1 rfl with⟨m,hm',e⟩ | ⟨y,hy,e⟩
       · have:=h12 m hm';omega
       · have:=h6 y hy;omega
     rw[if_pos rfl,g7f (by omega) (by omega)]
     match k,hk with
     | 0,hk=>omega
     | k+1,hk=>exact gos hm hs h12 h6 C odd k (n+1) (by omega) (by omega) (by omega)
theorem gik {x : SType} (hm : x.Members.length < 9223372036854775807) (hs : x.Symbols.length < 9223372036854775807) (h12 : ∀ m, m ∈ x.Members → m.ID ≤ 12) (h6 : ∀ y, y ∈ x.Symbols → y.ID ≤ 6) {C : List Int} (hC : CU8 C) (hl : C.length ≤ 1000) (odd : Bool) :
   ∃n C',g21 (x,ts,C,odd)=some (n,ts,C',odd)∧I1000 n∧findM x.Members n=none∧Suf C' C:=by
 obtain⟨r,C',h1,h2,h3,h4,_⟩:=g6r (ts:=ts) (n:=14) ⟨by omega,by omega⟩ hC hl odd;obtain⟨n,n1,n2,n3,n4,_⟩:=gos (ts:=ts) hm hs h12 h6 C' odd 12 (1+r) (by omega) (by omega) (by omega);refine⟨n,C',?_,⟨by omega,by omega⟩,?_,h4⟩
 · rw[g21,h1];simp only[oZ4,oZ3];rw[g7f (by omega) (by omega),n1];rfl
 · unfold findM;rw[List.find?_eq_none];intro m hm'
   simpa using n4 m hm'
theorem gsv{n:Int}{C:List Int}(hC:CU8 C)(hl:C.length≤1000)(odd:Bool) :∃d C',g3z (n,ts,C,odd)=some (⟨n,d⟩,ts,C',odd)∧d.length≤3∧Suf C' C:=by
 obtain⟨r,C',h1,h2,h3,h4,_⟩:=g6r (ts:=ts) (n:=4) ⟨by omega,by omega⟩ hC hl odd;obtain⟨k,rfl⟩:∃k:Nat,r=(k:Int):=⟨r.toNat,by omega⟩
 rw[g3z];simp only[oZ4,oZ3];rw[h1];simp only[oZ3];rw[if_pos (g6 (by simp;omega)),g7];refine⟨_,C',rfl,?_,h4⟩;have:k=0∨k=1∨k=2∨k=3:=by omega
 rcases this with rfl | rfl | rfl | rfl <;> simp
theorem guu(odd:Bool) :∀(k:Nat) (s:List UInt8) (C:List Int),k≤100→CU8 C→C.length≤1000→s.length+k≤100→∃s' C',g2g (s,(k:Int),ts,C,odd)=some (s',ts,C',odd)∧s'.length≤s.length+k∧Suf C' C
 | 0,s,C,hk,hC,hl,hs=>⟨s,C,by rw[g2g,if_neg (by simp)],by omega,Suf.refl _⟩
 | k+1,s,C,hk,hC,hl,hs=>by
   obtain⟨r,C',h1,h2,h3,h4,_⟩:=g6r (ts:=ts) (n:=3) ⟨by omega,by omega⟩ hC hl odd;have hpos:decide ((0:Int) < ((k+1:Nat):Int))=true:=by rw[decide_eq_true_eq];omega
   have e:subI .i64 ((k+1:Nat):Int) 1=(k:Int):=by rw[gaz (by omega) (by omega)];omega
   rw[g2g,if_pos hpos,h1];simp only[oZ4,oZ3];rw[gso ⟨h2,by omega⟩,if_pos (gko (by simp;omega)),e];obtain⟨s',C'',a1,a2,a3⟩:=guu odd k (s++[UInt8.ofNat (97+r.toNat)]) C' (by omega) (hC.suf h4) (by have:=h4.1;omega) (by simp;omega);exact⟨s',C'',a1,by simp at a2;omega,a3.trans h4⟩
theorem g11l{most:Int}(hm:0≤most∧most≤1000){C:List Int}(hC:CU8 C)(hl:C.length≤1000)(odd:Bool) :∃s C',g5z (most,ts,C,odd)=some (s,ts,C',odd)∧(s.length:Int)≤most∧s.length≤3∧Suf C' C:=by
 have em:addI .i64 (minI most 3) 1=min most 3+1:=by
   have:minI most 3=min most 3:=rfl;rw[this,g7f (by omega) (by omega)]
 obtain⟨r,C',h1,h2,h3,h4,_⟩:=g6r (ts:=ts) (n:=min most 3+1) ⟨by omega,by omega⟩ hC hl odd;obtain⟨k,rfl⟩:∃k:Nat,r=(k:Int):=⟨r.toNat,by omega⟩
 obtain⟨s,C'',a1,a2,a3⟩:=guu (ts:=ts) odd k [] C' (by omega) (hC.suf h4) (by have:=h4.1;omega) (by simp;omega);refine⟨s,C'',?_,by simp at a2;omega,by simp at a2;omega,a3.trans h4⟩;rw[g5z,em,h1];simp only[oZ4,oZ3];rw[a1];rfl
end
theorem gfk :∀a b:List UInt8,Op.bytesLess a b=false→a≠b→Op.bytesLess b a=true
 | [],[],_,h=>absurd rfl h
 | [],y::b,h,_=>by simp[Op.bytesLess]at h
 | x::a,[],h,_=>by simp[Op.bytesLess]
 | x::a,y::b,h,hne=>by
   simp only[Op.bytesLess]at h ⊢;by_cases h1:x < y
   · simp[h1]at h
   · by_cases h2:y < x
     · simp[h2]
     · have e:x=y:=by
         have h1':¬x.toNat < y.toNat:=h1;have h2':¬y.toNat < x.toNat:=h2;exact UInt8.toNat_inj.1 (by omega)
       subst e;have hr:Op.bytesLess a b=false:=by simpa using h
       have:=gfk a b hr (fun e=>hne (by rw[e]));simp[this]
theorem gil{a b:SValue}(ha:I64 a.Int_)(hb:I64 b.Int_) :g2s (a,b)=some (vcmp a b):=by
 obtain⟨r,h1,h2⟩:=ges ha hb;unfold vcmp;rw[h1,h2];rfl
theorem gz5{a b:SValue}(ha:I64 a.Int_)(hb:I64 b.Int_)(h:0 < vcmp a b) :vcmp b a < 0:=by
 have h1:=gil ha hb;have h2:=gil hb ha;generalize vcmp a b=r at h h1;generalize vcmp b a=q at h2;rw[g2s]at h1 h2;by_cases hk:a.Kind=b.Kind
 · rw[if_neg (by simp[hk])]at h1 h2;by_cases k1:a.Kind=1
   · have k1':b.Kind=1:=by omega
     rw[if_pos (by simp[k1])]at h1;rw[if_pos (by simp[k1'])]at h2;simp only[g1n,eqB]at h1 h2;cases hA:a.Bool_ <;> cases hB:b.Bool_ <;> simp[hA,hB]at h1 h2 <;> omega
   · have k1':¬b.Kind=1:=by omega
     rw[if_neg (by simp[k1])]at h1;rw[if_neg (by simp[k1'])]at h2;by_cases k2:a.Kind=2
     · have k2':b.Kind=2:=by omega
       rw[if_pos (by simp[k2]),ghf ha,ghf hb]at h1;rw[if_pos (by simp[k2']),ghf ha,ghf hb]at h2;simp only[oZ4,oZ3,g1n]at h1 h2;by_cases e:a.Int_=b.Int_
       · simp[e]at h1;omega
       · have hz:zig a.Int_≠zig b.Int_:=fun h=>e (gum h)
         have e':¬b.Int_=a.Int_:=fun h=>e h.symm
         by_cases hl:zig a.Int_ < zig b.Int_
         · simp[e,hl]at h1;omega
         · have hl':zig b.Int_ < zig a.Int_:=by omega
           simp[e',hl']at h2;omega
     · have k2':¬b.Kind=2:=by omega
       rw[if_neg (by simp[k2])]at h1;rw[if_neg (by simp[k2'])]at h2;by_cases k3:a.Kind=3
       · have k3':b.Kind=3:=by omega
         rw[if_pos (by simp[k3])]at h1;rw[if_pos (by simp[k3'])]at h2;simp only[oZ4,oZ3,g1n]at h1 h2;by_cases hl:a.Str.length=b.Str.length
         · rw[if_neg (by simp[hl])]at h1 h2;by_cases e:a.Str=b.Str
           · simp[e]at h1;omega
           · have e':¬b.Str=a.Str:=fun h=>e h.symm
             cases hb':Op.bytesLess a.Str b.Str with
             | true=>simp[e,hb']at h1;omega
             | false=>
               have:=gfk _ _ hb' e;simp[e',this]at h2;omega
         · have hl1:¬(a.Str.length:Int)=(b.Str.length:Int):=by omega
           have hl2:¬(b.Str.length:Int)=(a.Str.length:Int):=by omega
           rw[if_pos (by simp only[hl1,decide_false,Bool.not_false])]at h1;rw[if_pos (by simp only[hl2,decide_false,Bool.not_false])]at h2;by_cases hlt:(a.Str.length:Int) < (b.Str.length:Int)
           · simp[hlt]at h1;omega
           · have hlt':(b.Str.length:Int) < (a.Str.length:Int):=by omega
             simp[hlt']at h2;omega
       · have k3':¬b.Kind=3:=by omega
         rw[if_neg (by simp[k3])]at h1;rw[if_neg (by simp[k3'])]at h2;by_cases k4:a.Kind=4
         · have k4':b.Kind=4:=by omega
           rw[if_pos (by simp[k4])]at h1;rw[if_pos (by simp[k4'])]at h2;simp only[oZ4,oZ3,g1n]at h1 h2;by_cases e:a.ID=b.ID
           · simp[e]at h1;omega
           · have e':¬b.ID=a.ID:=fun h=>e h.symm
             by_cases hlt:a.ID < b.ID
             · simp[e,hlt]at h1;omega
             · have hlt':b.ID < a.ID:=by omega
               simp[e',hlt']at h2;omega
         · rw[if_neg (by simp[k4])]at h1;cases h1;omega
 · rw[if_pos (by simp[hk])]at h1;cases h1;omega
theorem put_l0' {v key item : SValue} (hl : v.Keys.length < 1000000) (hk : ∀ x, x ∈ v.Keys → I64 x.Int_) (hkey : I64 key.Int_) (a : Int) (b : Bool) (c : Int) (d : List UInt8) (e : Int) : ∀ (k i : Nat), i + k = v.Keys.length →
   (∀j,j < i→vcmp (v.Keys.getD j dSValue) key < 0)→∃m:Nat,m≤v.Keys.length∧g3k ((i:Int),v,key,item,a,b,c,d,e)=some ((m:Int),v,key,item,a,b,c,d,e)∧(∀j,j < m→vcmp (v.Keys.getD j dSValue) key < 0)∧(m < v.Keys.length→0≤vcmp (v.Keys.getD m dSValue) key)
 | 0,i,hi,hj=>by
   have hd:decide ((i:Int) < (v.Keys.length:Int))=false:=by simp;omega
   refine⟨i,by omega,?_,hj,fun h=>by omega⟩;rw[g3k];simp only[oZ4,oZ3,hd,Bool.not_false,Bool.or_true,if_true,Bool.false_eq_true,if_false,cond_false,SValue.ge]
 | k+1,i,hi,hj=>by
   have hlt:i < v.Keys.length:=by omega
   have hd:decide ((i:Int) < (v.Keys.length:Int))=true:=by simp;omega
   have hc:=gil (hk _ (gg hlt dSValue)) hkey;rw[g3k];simp only[oZ4,oZ3,hd,Bool.not_true,Bool.or_false,if_true,cond_true,SValue.ge,g7];rw[if_pos (g6 hlt),hc];simp only[oZ3];by_cases hneg:vcmp (v.Keys.getD i dSValue) key < 0
   · rw[if_pos (by simpa using hneg),gp (by omega)];refine put_l0' hl hk hkey a b c d e k (i+1) (by omega) fun j hj'=>?_
     by_cases g:j < i
     · exact hj j g
     · have:j=i:=by omega
       subst this;exact hneg
   · rw[if_neg (by simpa using hneg)];exact⟨i,by omega,rfl,hj,fun _=>by omega⟩
theorem g8i :∀(a b:List SValue),wts (a++b)=wts a+wts b
 | [],b=>by rw[g5m];simp
 | x::a,b=>by rw[List.cons_append,g5k,g5k,g8i a b];omega
theorem gsw{α:Type}{l:List α}{m:Nat}{x d:α}(hm:m≤l.length)(i:Nat) :(l.take m++(x::l.drop m)).getD i d=if i < m then l.getD i d else if i=m then x else l.getD (i - 1) d:=by
 by_cases h1:i < m
 · rw[if_pos h1,List.getD_eq_getElem?_getD,List.getElem?_append_left (by simp;omega),List.getElem?_take_of_lt h1,←List.getD_eq_getElem?_getD]
 · rw[if_neg h1,List.getD_eq_getElem?_getD,List.getElem?_append_right (by simp;omega)];have hl:(l.take m).length=m:=by simp;omega
   rw[hl];by_cases h2:i=m
   · subst h2;simp
   · rw[if_neg h2];have:i - m=(i - m - 1)+1:=by omega
     rw[this,List.getElem?_cons_succ,List.getElem?_drop];have:m+(i - m - 1)=i - 1:=by omega
     rw[this,←List.getD_eq_getElem?_getD]
theorem g14t {v key item : SValue} (hl : v.Keys.length < 1000) (hl2 : v.Items.length = v.Keys.length) (hk : ∀ x, x ∈ v.Keys → I64 x.Int_) (hkey : I64 key.Int_) (ha : g68 v.Keys) :
   ∃ks is,g8y (v,key,item)=some ⟨v.Kind,v.Bool_,v.Int_,v.Str,v.ID,ks,is,v.Rest⟩∧is.length=ks.length∧ks.length≤v.Keys.length+1∧g68 ks∧(∀x,x∈ks→x∈v.Keys∨x=key)∧(∀x,x∈is→x∈v.Items∨x=item)∧wts ks+wts is≤wts v.Keys+wts v.Items+wt key+wt item:=by
 obtain⟨m,m1,m2,m3,m4⟩:=put_l0' (item:=item) (by omega) hk hkey 0 false 0 [] 0 v.Keys.length 0 (by omega) (fun j hj=>by omega);have m2':g3k (0,v,key,item,0,false,0,[],0)=_:=m2;rw[g8y];simp only[SValue.ge];rw[m2'];simp only[oZ4,oZ3,SValue.ge]
 have ins:∀(hne:m < v.Keys.length→0 < vcmp (v.Keys.getD m dSValue) key),∃ks is,(some (⟨v.Kind,v.Bool_,v.Int_,v.Str,v.ID,v.Keys.take m++(key::v.Keys.drop m),v.Items.take m++(item::v.Items.drop m),v.Rest⟩:SValue):Option SValue)=some ⟨v.Kind,v.Bool_,v.Int_,v.Str,v.ID,ks,is,v.Rest⟩∧is.length=ks.length∧ks.length≤v.Keys.length+1∧g68 ks∧(∀x,x∈ks→x∈v.Keys∨x=key)∧(∀x,x∈is→x∈v.Items∨x=item)∧wts ks+wts is≤wts v.Keys+wts v.Items+wt key+wt item:=by
   intro hne;refine⟨_,_,rfl,by simp;omega,by simp;omega,fun i hi=>?_,fun x hx=>?_,fun x hx=>?_,?_⟩
   · rw[gsw m1,gsw m1];have hlen:(v.Keys.take m++(key::v.Keys.drop m)).length=v.Keys.length+1:=by simp;omega
     rw[hlen]at hi;by_cases h1:i+1 < m
     · rw[if_pos (by omega),if_pos h1];exact ha i (by omega)
     · by_cases h2:i+1=m
       · rw[if_pos (by omega),if_neg h1,if_pos h2];exact m3 i (by omega)
       · by_cases h3:i=m
         · rw[if_neg (by omega),if_pos h3,if_neg h1,if_neg h2];have e:i+1 - 1=m:=by omega
           rw[e];exact gz5 (hk _ (gg (by omega) dSValue)) hkey (hne (by omega))
         · rw[if_neg (by omega),if_neg h3,if_neg h1,if_neg h2];have:=ha (i - 1) (by omega);have e:i - 1+1=i+1 - 1:=by omega
           rw[e]at this;exact this
   · rcases List.mem_append.1 hx with h | h
     · exact .inl (List.mem_of_mem_take h)
     · rcases List.mem_cons.1 h with h | h
       · exact .inr h
       · exact .inl (List.mem_of_mem_drop h)
   · rcases List.mem_append.1 hx with h | h
     · exact .inl (List.mem_of_mem_take h)
     · rcases List.mem_cons.1 h with h | h
       · exact .inr h
       · exact .inl (List.mem_of_mem_drop h)
   · rw[g8i,g8i,g5k,g5k];have e1:wts v.Keys=wts (v.Keys.take m)+wts (v.Keys.drop m):=by rw[←g8i,List.take_append_drop]
     have e2:wts v.Items=wts (v.Items.take m)+wts (v.Items.drop m):=by rw[←g8i,List.take_append_drop]
     omega
 have s1:slR 0 (m:Int) v.Keys.length=true:=gbs (a:=0) (by omega) m1;have s2:slR (m:Int) (v.Keys.length:Int) v.Keys.length=true:=gbs m1 (by omega);have s3:slR 0 (m:Int) v.Items.length=true:=gbs (a:=0) (by omega) (by omega);have s4:slR (m:Int) (v.Items.length:Int) v.Items.length=true:=gbs (by omega) (by omega)
 have build:∀{o:Option SValue→Prop},o (some (⟨v.Kind,v.Bool_,v.Int_,v.Str,v.ID,v.Keys.take m++(key::v.Keys.drop m),v.Items.take m++(item::v.Items.drop m),v.Rest⟩:SValue))→o (some (⟨v.Kind,v.Bool_,v.Int_,v.Str,v.ID,v.Keys.take m++(key::v.Keys.drop m),v.Items.take m++(item::v.Items.drop m),v.Rest⟩:SValue)):=fun h=>h
 by_cases hin:m < v.Keys.length
 · have hd:decide ((m:Int) < (v.Keys.length:Int))=true:=by simp;omega
   have hc:=gil (hk _ (gg hin dSValue)) hkey;simp only[hd,Bool.not_true,Bool.or_false,if_true,cond_true,g7];rw[if_pos (g6 hin),hc];simp only[oZ3];by_cases h0:vcmp (v.Keys.getD m dSValue) key=0
   · rw[if_pos (by simpa using h0)];refine⟨v.Keys,v.Items,by cases v;rfl,hl2,by omega,ha,fun x hx=>.inl hx,fun x hx=>.inl hx,by omega⟩
   · rw[if_neg (by simpa using h0),if_pos s1,if_pos (g2h (by omega) (by simp[cutL];omega))];rw[if_pos (g2h (by omega) (by simp[cutL];omega)),if_pos s2,if_pos (g2h (by omega) (by simp[cutL];omega)),if_pos s3,if_pos (g2h (by omega) (by simp[cutL];omega)),if_pos (g2h (by omega) (by simp[cutL];omega)),if_pos s4,if_pos (g2h (by omega) (by simp[cutL];omega))]
     rw[g9k,g9k,geb,geb];simp only[List.nil_append,List.append_assoc,List.singleton_append];exact ins fun _=>by have:=m4 hin;omega
 · have hd:decide ((m:Int) < (v.Keys.length:Int))=false:=by simp;omega
   simp only[hd,Bool.not_false,Bool.or_true,if_true,Bool.false_eq_true,if_false,cond_false,oZ3];rw[if_pos s1,if_pos (g2h (by omega) (by simp[cutL];omega))]
   rw[if_pos (g2h (by omega) (by simp[cutL];omega)),if_pos s2,if_pos (g2h (by omega) (by simp[cutL];omega)),if_pos s3,if_pos (g2h (by omega) (by simp[cutL];omega)),if_pos (g2h (by omega) (by simp[cutL];omega)),if_pos s4,if_pos (g2h (by omega) (by simp[cutL];omega))];rw[g9k,g9k,geb,geb];simp only[List.nil_append,List.append_assoc,List.singleton_append]
   exact ins fun h=>absurd h hin
end
section
open Go Go.Proofs.YtijpinendaoleaaGreat.Shv Go.Sort
set_option maxRecDepth 100000
section
variable {ts:List SType}
mutual
theorem vfit_weak :∀(v:SValue) (t:Int),vfit ts true t v→vfit ts false t v
 | ⟨k,b,i,s,id,ks,is,r⟩,t,h=>by
   rw[vfit]at h ⊢;obtain⟨⟨h1,h2,h3,h4⟩,h5⟩:=h;have w:=vfits_weak is;have wk:=vfits_weak ks;have wm:=vfitm_weak is;refine⟨⟨h1,h2,h3,fun h=>by cases h⟩,?_⟩
   have c6:(match findM (ts.getD t.toNat dSType).Members id with
     | some m=>r=[]∧is.length=1∧vfits ts true m.Type_ is
     | none=>(ts.getD t.toNat dSType).Open=true∧true=false∧I1000 id∧is=[]∧∃d,r=[⟨id,d⟩])→(match findM (ts.getD t.toNat dSType).Members id with
     | some m=>r=[]∧is.length=1∧vfits ts false m.Type_ is
     | none=>(ts.getD t.toNat dSType).Open=true∧false=false∧I1000 id∧is=[]∧∃d,r=[⟨id,d⟩]):=by
     split
     · rintro ⟨a,b,c⟩;exact⟨a,b,w _ c⟩
     · rintro ⟨_,b,_⟩;cases b
   rcases h5 with h | h | h | ⟨a1,a2,a3,a4,a5,a6,a7,a8⟩ | ⟨a1,a2,a3,a4,a5,a6,a7,a8⟩ | ⟨a1,a2,a3,a4,a5,a6⟩ | ⟨a1,a2,a3,a4,a5,a6,a7,a8,a9⟩ | ⟨a1,a2,a3,a4,a5,a6,a7,a8,a9,a10,a11⟩ | ⟨a1,a2,a3,a4,a5,a6,a7,a8,a9⟩
   · exact .inl h
   · exact .inr (.inl h)
   · exact .inr (.inr (.inl h))
   · refine .inr (.inr (.inr (.inl ⟨a1,a2,a3,a4,a5,a6,a7,?_⟩)));rcases a8 with h | ⟨_,h,_⟩
     · exact .inl h
     · cases h
   · exact .inr (.inr (.inr (.inr (.inl ⟨a1,a2,a3,a4,a5,a6,a7,wm _ a8⟩))))
   · exact .inr (.inr (.inr (.inr (.inr (.inl ⟨a1,a2,a3,a4,a5,c6 a6⟩)))))
   · exact .inr (.inr (.inr (.inr (.inr (.inr (.inl ⟨a1,a2,a3,a4,a5,a6,a7,a8,w _ a9⟩))))))
   · exact .inr (.inr (.inr (.inr (.inr (.inr (.inr (.inl ⟨a1,a2,a3,a4,a5,a6,a7,a8,wk _ a9,w _ a10,a11⟩)))))))
   · exact .inr (.inr (.inr (.inr (.inr (.inr (.inr (.inr ⟨a1,a2,a3,a4,a5,a6,a7,a8,w _ a9⟩)))))))
theorem vfits_weak :∀(l:List SValue) (t:Int),vfits ts true t l→vfits ts false t l
 | [],t,h=>by rw[vfits];trivial
 | v::l,t,h=>by
   rw[vfits]at h ⊢;exact⟨vfit_weak v t h.1,vfits_weak l t h.2⟩
theorem vfitm_weak :∀(l:List SValue) (ms:List SMember),vfitm ts true ms l→vfitm ts false ms l
 | [],[],h=>by rw[vfitm];trivial
 | [],m::ms,h=>by
   have:vfitm ts true (m::ms) []=False:=by rw[vfitm] <;> (intros;simp_all)
   rw[this]at h;exact h.elim
 | v::l,[],h=>by
   have:vfitm ts true [] (v::l)=False:=by rw[vfitm] <;> (intros;simp_all)
   rw[this]at h;exact h.elim
 | v::l,m::ms,h=>by
   rw[vfitm]at h ⊢;exact⟨vfit_weak v m.Type_ h.1,vfitm_weak l ms h.2⟩
end
theorem g10j{v:SValue}{t:Int}(h:vfit ts true t v)(pl:Bool) :vfit ts pl t v:=by
 cases pl with
 | true=>exact h
 | false=>exact vfit_weak v t h
def rk(ts:List SType)(t:Nat) :Nat:=if 7≤(ts.getD t dSType).Kind then 0 else t+1
def Aw :Nat→Nat
 | 0=>20
 | n+1=>12*Aw n+20
theorem Aw_le{a:Nat} :∀{b:Nat},a≤b→Aw a≤Aw b
 | 0, h => by have : a = 0 := by omega
              subst this;omega
 | b+1,h=>by
   by_cases e:a=b+1
   · subst e;omega
   · have:=Aw_le (a:=a) (b:=b) (by omega);simp only[Aw];omega
theorem Aw_20(r:Nat) :20≤Aw r:=Aw_le (a:=0) (Nat.zero_le _)
theorem Aw_5 :Aw 5=5429060:=rfl
def Mk(ts:List SType)(odd:Bool)(C:List Int)(r:Nat)(t:Int) :Prop:=∃v C',gx (t,ts,C,odd)=some (v,ts,C',odd)∧vfit ts (!odd) t v∧OkV v∧Suf C' C∧wt v+32574360*C'.length≤Aw r+32574360*C.length
theorem gz6 {odd : Bool} {c r : Nat} (hc : c ≤ 1000) {x : SType} (h12 : x.Members.length ≤ 12) (hm : ∀ m, m ∈ x.Members → (∀ C, CU8 C → C.length ≤ c → Mk ts odd C r m.Type_) ∧ (m.HasDefault = true → vfit ts true m.Type_ m.Default ∧ OkV m.Default ∧ wt m.Default ≤ 13))
   (a0:Int) (a1:Bool) (a2:Int) (a3:List UInt8) (a4:Int) (v0:Int) (v1:Bool) (v2:Int) (v3:List UInt8) (v4:Int):
   ∀(k i:Nat) (C:List Int) (acc:List SValue),i+k=x.Members.length→CU8 C→C.length≤c→acc.length=i→(∀j,j < i→vfit ts (!odd) (x.Members.getD j dSMember).Type_ (acc.getD j dSValue))→(∀y,y∈acc→OkV y)→
   ∃acc' C',g14 ((i:Int),ts,C,odd,a0,a1,a2,a3,a4,x.Kind,x.Name,x.Low,x.High,x.Max,x.Symbols,x.Members,x.Key,x.Elem,x.Open,v0,v1,v2,v3,v4,acc)=some (ts,C',odd,a0,a1,a2,a3,a4,x.Kind,x.Name,x.Low,x.High,x.Max,x.Symbols,x.Members,x.Key,x.Elem,x.Open,v0,v1,v2,v3,v4,acc')∧
     acc'.length=x.Members.length∧(∀j,j < x.Members.length→vfit ts (!odd) (x.Members.getD j dSMember).Type_ (acc'.getD j dSValue))∧(∀y,y∈acc'→OkV y)∧Suf C' C∧wts acc'+32574360*C'.length≤wts acc+k*Aw r+32574360*C.length
 | 0,i,C,acc,hi,hC,hl,ha,hf,ho=>⟨acc,C,by rw[g14,if_neg (by simp;omega)],by omega,fun j hj=>hf j (by omega),ho,Suf.refl _,by omega⟩
 | k+1,i,C,acc,hi,hC,hl,ha,hf,ho=>by
   have hlt:i < x.Members.length:=by omega
   obtain⟨hmk,hdf⟩:=hm _ (gg hlt dSMember)
   have next : ∀ (w : SValue) (C1 : List Int), vfit ts (!odd) (x.Members.getD i dSMember).Type_ w → OkV w → Suf C1 C → wt w + 32574360 * C1.length ≤ Aw r + 32574360 * C.length →
       ∃acc' C',(if room 120 (acc++[w]).length=true then g14 (addI .i64 (i:Int) 1,ts,C1,odd,a0,a1,a2,a3,a4,x.Kind,x.Name,x.Low,x.High,x.Max,x.Symbols,x.Members,x.Key,x.Elem,x.Open,v0,v1,v2,v3,v4,acc++[w])else none)=some (ts,C',odd,a0,a1,a2,a3,a4,x.Kind,x.Name,x.Low,x.High,x.Max,x.Symbols,x.Members,x.Key,x.Elem,x.Open,v0,v1,v2,v3,v4,acc')∧
         acc'.length=x.Members.length∧(∀j,j < x.Members.length→vfit ts (!odd) (x.Members.getD j dSMember).Type_ (acc'.getD j dSValue))∧(∀y,y∈acc'→OkV y)∧Suf C' C∧wts acc'+32574360*C'.length≤wts acc+(k+1)*Aw r+32574360*C.length:=by
     intro w C1 hw hok hs hwt;rw[if_pos (g2h (by omega) (by simp;omega)),gp (by omega)]
     obtain⟨acc',C',b1,b2,b3,b4,b5,b6⟩:=gz6 hc h12 hm a0 a1 a2 a3 a4 v0 v1 v2 v3 v4 k (i+1) C1 (acc++[w]) (by omega) (hC.suf hs) (by have:=hs.1;omega) (by simp;omega) (fun j hj=>by
       by_cases h:j < i
       · have e:(acc++[w]).getD j dSValue=acc.getD j dSValue:=by
           rw[List.getD_eq_getElem?_getD,List.getD_eq_getElem?_getD,List.getElem?_append_left (by omega)]
         rw[e];exact hf j h
       · have e0:j=i:=by omega
         subst e0;have e:(acc++[w]).getD j dSValue=w:=by
           rw[List.getD_eq_getElem?_getD,List.getElem?_append_right (by omega),ha];simp
         rw[e];exact hw) (fun y hy=>by
       rcases List.mem_append.1 hy with h | h
       · exact ho y h
       · have:y=w:=by simpa using h
         subst this;exact hok)
     refine⟨acc',C',b1,b2,b3,b4,b5.trans hs,?_⟩;rw[g8i,g5k,g5m]at b6;have e:(k+1)*Aw r=k*Aw r+Aw r:=Nat.succ_mul _ _;omega
   rw[g14,if_pos (by simp;omega),if_pos (g6 hlt)];simp only[oZ4,oZ3,g7,SValue.ge];cases hd:(x.Members.getD i dSMember).HasDefault with
   | true=>
     obtain⟨f1,f2,f3⟩:=hdf hd;obtain⟨q,C1,n1,n2,n3,n4,n5⟩:=g6r (ts:=ts) (n:=3) ⟨by omega,by omega⟩ hC (by omega) odd;rw[if_pos rfl,n1];simp only[oZ3,cond_true];by_cases h0:q=0
     · rw[if_pos (by simpa using h0)];have:=n4.1;have:=Aw_20 r;rw[if_pos (g6 hlt)];exact next _ C1 (g10j f1 _) f2 n4 (by omega)
     · rw[if_neg (by simpa using h0),if_pos (g6 hlt)];obtain⟨w,C2,m1,m2,m3,m4,m5⟩:=hmk C1 (hC.suf n4) (by have:=n4.1;omega);rw[m1];simp only[oZ3,SValue.ge];have:=n4.1;exact next w C2 m2 m3 (m4.trans n4) (by omega)
   | false=>
     rw[if_neg (by simp),if_neg (by simp),if_pos (g6 hlt)];obtain⟨w,C2,m1,m2,m3,m4,m5⟩:=hmk C hC hl;rw[m1];simp only[oZ3,SValue.ge];exact next w C2 m2 m3 m4 m5
theorem guv {odd : Bool} {c r : Nat} (hc : c ≤ 1000) {x : SType} (hE : ∀ C, CU8 C → C.length ≤ c → Mk ts odd C r x.Elem)
   (a0:Int) (a1:Bool) (a2:Int) (a3:List UInt8) (a4:Int) (v0:Int) (v1:Bool) (v2:Int) (v3:List UInt8) (v4:Int):
   ∀(k:Nat) (C:List Int) (acc:List SValue),acc.length+k≤100→CU8 C→C.length≤c→(∀y,y∈acc→vfit ts (!odd) x.Elem y∧OkV y)→
   ∃acc' C',g1u ((k:Int),ts,C,odd,a0,a1,a2,a3,a4,x.Kind,x.Name,x.Low,x.High,x.Max,x.Symbols,x.Members,x.Key,x.Elem,x.Open,v0,v1,v2,v3,v4,acc)=some (ts,C',odd,a0,a1,a2,a3,a4,v0,v1,v2,v3,v4,acc')∧
     acc'.length=acc.length+k∧(∀y,y∈acc'→vfit ts (!odd) x.Elem y∧OkV y)∧Suf C' C∧wts acc'+32574360*C'.length≤wts acc+k*Aw r+32574360*C.length
 | 0,C,acc,ha,hC,hl,hf=>⟨acc,C,by rw[g1u,if_neg (by simp)],by omega,hf,Suf.refl _,by omega⟩
 | k+1,C,acc,ha,hC,hl,hf=>by
   have hpos:decide ((0:Int) < ((k+1:Nat):Int))=true:=by rw[decide_eq_true_eq];omega
   have e:subI .i64 ((k+1:Nat):Int) 1=(k:Int):=by rw[gaz (by omega) (by omega)];omega
   obtain⟨w,C2,m1,m2,m3,m4,m5⟩:=hE C hC hl;rw[g1u,if_pos hpos,m1];simp only[oZ4,oZ3,SValue.ge];rw[if_pos (g2h (by omega) (by simp;omega)),e]
   obtain⟨acc',C',b1,b2,b3,b4,b5⟩:=guv hc hE a0 a1 a2 a3 a4 v0 v1 v2 v3 v4 k C2 (acc++[w]) (by simp;omega) (hC.suf m4) (by have:=m4.1;omega) (fun y hy=>by
     rcases List.mem_append.1 hy with h | h
     · exact hf y h
     · have:y=w:=by simpa using h
       subst this;exact⟨m2,m3⟩)
   refine⟨acc',C',b1,by simp at b2;omega,b3,b4.trans m4,?_⟩;rw[g8i,g5k,g5m]at b5;have e:(k+1)*Aw r=k*Aw r+Aw r:=Nat.succ_mul _ _;omega
theorem gz7 {odd : Bool} {c r : Nat} (hc : c ≤ 1000) {x : SType} (hK : ∀ C, CU8 C → C.length ≤ c → Mk ts odd C r x.Key) (hE : ∀ C, CU8 C → C.length ≤ c → Mk ts odd C r x.Elem)
   (a0:Int) (a1:Bool) (a2:Int) (a3:List UInt8) (a4:Int) (v0:Int) (v1:Bool) (v2:Int) (v3:List UInt8) (v4:Int) (R:List SRaw):
   ∀(k:Nat) (C:List Int) (ks is:List SValue),ks.length+k≤100→is.length=ks.length→CU8 C→C.length≤c→(∀y,y∈ks→vfit ts (!odd) x.Key y∧OkV y)→(∀y,y∈is→vfit ts (!odd) x.Elem y∧OkV y)→g68 ks→
   ∃ks' is' C',g1v ((k:Int),ts,C,odd,a0,a1,a2,a3,a4,x.Kind,x.Name,x.Low,x.High,x.Max,x.Symbols,x.Members,x.Key,x.Elem,x.Open,v0,v1,v2,v3,v4,ks,is,R)=some (ts,C',odd,a0,a1,a2,a3,a4,v0,v1,v2,v3,v4,ks',is',R)∧
     ks'.length≤ks.length+k∧is'.length=ks'.length∧(∀y,y∈ks'→vfit ts (!odd) x.Key y∧OkV y)∧(∀y,y∈is'→vfit ts (!odd) x.Elem y∧OkV y)∧g68 ks'∧Suf C' C∧wts ks'+wts is'+32574360*C'.length≤wts ks+wts is+2*(k*Aw r)+32574360*C.length
 | 0,C,ks,is,ha,hli,hC,hl,hf,hg,hasc=>⟨ks,is,C,by rw[g1v,if_neg (by simp)],by omega,hli,hf,hg,hasc,Suf.refl _,by omega⟩
 | k+1,C,ks,is,ha,hli,hC,hl,hf,hg,hasc=>by
   have hpos:decide ((0:Int) < ((k+1:Nat):Int))=true:=by rw[decide_eq_true_eq];omega
   have e:subI .i64 ((k+1:Nat):Int) 1=(k:Int):=by rw[gaz (by omega) (by omega)];omega
   obtain⟨w,C2,m1,m2,m3,m4,m5⟩:=hK C hC hl;have hl2:=m4.1;obtain⟨z,C3,n1,n2,n3,n4,n5⟩:=hE C2 (hC.suf m4) (by omega);have hl3:=n4.1;obtain⟨ks1,is1,p1,p2,p3,p4,p5,p6,p7⟩:=g14t (v:=⟨v0,v1,v2,v3,v4,ks,is,R⟩) (key:=w) (item:=z) (by show ks.length < 1000;omega) hli (fun y hy=>gdo (hf y hy).2) (gdo m3) hasc;simp only at p1 p3 p5 p6 p7
   rw[g1v,if_pos hpos,m1];simp only[oZ4,oZ3,SValue.ge];rw[n1];simp only[oZ3,SValue.ge];rw[p1];simp only[oZ3];rw[e]
   obtain⟨ks',is',C',b1,b2,b3,b4,b5,b6,b7,b8⟩:=gz7 hc hK hE a0 a1 a2 a3 a4 v0 v1 v2 v3 v4 R k C3 ks1 is1 (by omega) p2 ((hC.suf m4).suf n4) (by omega) (fun y hy=>by
     rcases p5 y hy with h | h
     · exact hf y h
     · subst h;exact⟨m2,m3⟩) (fun y hy=>by
     rcases p6 y hy with h | h
     · exact hg y h
     · subst h;exact⟨n2,n3⟩) p4
   refine⟨ks',is',C',b1,by omega,b3,b4,b5,b6,b7.trans (n4.trans m4),?_⟩;have e:(k+1)*Aw r=k*Aw r+Aw r:=Nat.succ_mul _ _;omega
end
end
section
open Go Go.Proofs.YtijpinendaoleaaGreat.Shv Go.Sort
set_option maxRecDepth 100000
section
variable {ts:List SType}
theorem geu{v:SValue}(hs:v.Str.length≤1000)(hk:∀x,x∈v.Keys→OkV x)(hi:∀x,x∈v.Items→OkV x)(h1:v.Keys.length≤1000)(h2:v.Items.length≤1000)(h3:v.Rest.length≤1000)(hr:∀x,x∈v.Rest→x.Data.length≤1000∧I64 x.ID)(n1:I64 v.Kind)(n2:I64 v.Int_)(n3:I64 v.ID) :OkV v:=
 .mk v (by unfold reachBytes;omega) (by unfold reachBytes;omega) (by unfold reachBytes;omega) (by unfold reachBytes;omega) hk hi (fun x hx=>by have:=(hr x hx).1;unfold reachBytes;omega) n1 n2 n3 (fun x hx=>(hr x hx).2)
theorem gae{n:Int}(h:I1000 n) :I64 n:=by unfold I1000 at h;unfold I64;omega
def Gd(ts:List SType)(odd:Bool)(c r:Nat) :Prop:=∀t:Nat,t < ts.length→rk ts t≤r→∀C,CU8 C→C.length≤c→Mk ts odd C r (t:Int)
theorem gsx(H:DrOk ts){t:Nat}(ht:t < ts.length) :rk ts t≤5:=by
 unfold rk;have:=H.n5;split <;> omega
theorem g11m(H:DrOk ts){odd:Bool}{c r:Nat}(hc:c≤60)(Hc:∀c',c' < c→Gd ts odd c' 5)(Hr:∀r',r' < r→Gd ts odd c r') :Gd ts odd c r:=by
 intro t ht hrk C hC hl;have hxm:=gg ht dSType;have hF:=H.V.F _ hxm;have hT:=H.T _ hxm;have hmx:=H.M _ hxm;obtain⟨hI12,hI6,hM12⟩:=H.I _ hxm;have hR:=H.R t ht;have hL:=H.L _ hxm;have hU:=H.V.U _ hxm;have hD:=H.D _ hxm;have hW:=H.W _ hxm;have hkd:rk ts t=if 7≤(ts.getD t dSType).Kind then 0 else t+1:=rfl
 unfold Mk;rw[gx,if_pos (g6 ht)];simp only[oZ4,oZ3,g7];have fitI:=fun v=>g10 (ts:=ts) (!odd) (t:Int) v
 simp only[g7]at fitI;generalize hx:ts.getD t dSType=x at*;have hA20:=Aw_20 r;have hin:(0:Int)≤t∧(t:Int) < ts.length:=by omega
 have leaf:∀(v:SValue) (C':List Int),v.Keys=[]→v.Items=[]→v.Rest=[]→v.Str.length≤3→Suf C' C→wt v+32574360*C'.length≤Aw r+32574360*C.length:=fun v C' a b c d e=>by
   rw[gur a b c];have:=e.1;omega
 have below:∀C1:List Int,C1.length+1=C.length→∀u:Int,0≤u→u < ts.length→∀C2,CU8 C2→C2.length≤C1.length→Mk ts odd C2 5 u:=fun C1 h1 u hu0 hu1 C2 hC2 hl2=>by
   obtain⟨k,rfl⟩:∃k:Nat,u=(k:Int):=⟨u.toNat,by omega⟩
   exact Hc C1.length (by omega) k (by omega) (gsx H (by omega)) C2 hC2 hl2
 have member:x.Kind=5∨x.Kind=6→1≤r∧∀m,m∈x.Members→∀C2,CU8 C2→C2.length≤c→Mk ts odd C2 (r - 1) m.Type_:=fun hk=>by
   have hrt:rk ts t=t+1:=by rw[hkd,if_neg (by omega)]
   refine⟨by omega,fun m hm C2 hC2 hl2=>?_⟩;obtain⟨a,b,cc⟩:=hR m hm;obtain⟨k,hk'⟩:∃k:Nat,m.Type_=(k:Int):=⟨m.Type_.toNat,by omega⟩
   rw[hk']at cc ⊢;refine Hr (r - 1) (by omega) k (by omega) ?_ C2 hC2 hl2;have:rk ts k≤t:=by
     unfold rk;rw[g7]at cc;split
     · omega
     · rcases cc with h | h <;> omega
   omega
 have hs7:x.Symbols.length < 9223372036854775807:=g1e (g58 hT.syms);have hm7:x.Members.length < 9223372036854775807:=g1e (g58 hT.mems);unfold FormP at hF;rcases hF with⟨k,_⟩ | ⟨k,f1,f2,_⟩ | ⟨k,f1,f2,f3,f4,_⟩ | ⟨k,f1,f2,f3,f4,f5,_⟩ | ⟨k,f1,f2,f3,f4,f5,f6,_⟩ | ⟨k,f1,f2,f3,f4,f5,f6,_⟩ | ⟨k,f1,f2,f3,f4,_⟩ | ⟨k,f1,f2,f3,f4,_⟩ | ⟨k,_⟩
 · obtain⟨q,C1,n1,n2,n3,n4,n5⟩:=g6r (ts:=ts) (n:=2) ⟨by omega,by omega⟩ hC (by omega) odd;rw[if_pos (by simp[k]),n1];refine⟨_,C1,rfl,?_,g8h rfl rfl rfl (by simp) (by simp[I64,k]) (by simp[I64]) (by simp[I64]),n4,leaf _ _ rfl rfl rfl (by simp) n4⟩;rw[fitI];simp[k,hin]
 · obtain⟨q,C1,n1,n2,n3,n4,n5⟩:=g6r (ts:=ts) (n:=256) ⟨by omega,by omega⟩ hC (by omega) odd;have hLk:=hL k;have e1:addI .i64 (subI .i64 x.High x.Low) 1=x.High - x.Low+1:=by
     rw[gaz (by omega) (by omega),g7f (by omega) (by omega)]
   have r0:0≤q % (x.High - x.Low+1):=Int.emod_nonneg _ (by omega);have r1:q % (x.High - x.Low+1) < x.High - x.Low+1:=Int.emod_lt_of_pos _ (by omega);rw[if_neg (by simp[k]),if_pos (by simp[k]),n1];simp only[oZ3];rw[e1,if_pos (nz (by omega)),g5n n2 (by omega),g7f (by omega) (by omega)]
   refine⟨_,C1,rfl,?_,g8h rfl rfl rfl (by simp) (by simp[I64,k]) (by simp only[I64];omega) (by simp[I64]),n4,leaf _ _ rfl rfl rfl (by simp) n4⟩;rw[fitI];simp[k,hin];omega
 · obtain⟨s,C1,n1,n2,n3,n4⟩:=g11l (ts:=ts) (most:=x.Max) ⟨f4.1,by omega⟩ hC (by omega) odd;rw[if_neg (by simp[k]),if_neg (by simp[k]),if_pos (by simp[k]),n1];refine⟨_,C1,rfl,?_,g8h rfl rfl rfl (by show s.length≤1000;omega) (by simp[I64,k]) (by simp[I64]) (by simp[I64]),n4,leaf _ _ rfl rfl rfl n3 n4⟩;rw[fitI];simp[k,hin,n2]
 · have hsl:=f5.1;have hs16:=f5.2.2.2.2;have hsid:=f5.2.1.2;obtain⟨q,C1,n1,n2,n3,n4,n5⟩:=g6r (ts:=ts) (n:=(x.Symbols.length:Int)) ⟨by omega,by omega⟩ hC (by omega) odd;obtain⟨j,rfl⟩:∃j:Nat,q=(j:Int):=⟨q.toNat,by omega⟩
   have hlc:=n4.1;have hj:j < x.Symbols.length:=by omega
   have hy:=gg hj dSSymbol;rw[if_neg (by simp[k]),if_neg (by simp[k]),if_neg (by simp[k]),if_pos (by simp[k]),n1];simp only[oZ3];rw[if_pos (g6 hj)];simp only[g7];cases ho:x.Open with
   | false=>
     rw[if_neg (by simp),if_neg (by simp)];refine⟨_,C1,rfl,?_,g8h rfl rfl rfl (by simp) (by simp[I64,k]) (by simp[I64]) (gae (hsid _ hy)),n4,leaf _ _ rfl rfl rfl (by simp) n4⟩;refine(fitI _).2 ⟨⟨hin.1,hin.2,rfl,fun _=>rfl⟩,.inr (.inr (.inr (.inl ⟨k,rfl,rfl,rfl,rfl,rfl,rfl,.inl ⟨_,hy,rfl⟩⟩)))⟩
   | true=>
     obtain⟨o,C2,o1,o2,o3⟩:=gsu (ts:=ts) (hC.suf n4) (by omega) odd;have hlc2:=o3.1;rw[if_pos rfl,o1];simp only[oZ3,cond_true];cases o with
     | false=>
       rw[if_neg (by simp)];refine⟨_,C2,rfl,?_,g8h rfl rfl rfl (by simp) (by simp[I64,k]) (by simp[I64]) (gae (hsid _ hy)),(o3.trans n4),leaf _ _ rfl rfl rfl (by simp) (o3.trans n4)⟩;refine(fitI _).2 ⟨⟨hin.1,hin.2,rfl,fun _=>rfl⟩,.inr (.inr (.inr (.inl ⟨k,rfl,rfl,rfl,rfl,rfl,rfl,.inl ⟨_,hy,rfl⟩⟩)))⟩
     | true=>
       have hodd:odd=true:=by
         cases odd with
         | true=>rfl
         | false=>exact absurd (o2 rfl) (by simp)
       obtain⟨n,C3,u1,u2,u3,u4⟩:=gik (ts:=ts) hm7 hs7 hI12 hI6 ((hC.suf n4).suf o3) (by omega) odd;rw[if_pos rfl,u1];refine⟨_,C3,rfl,?_,g8h rfl rfl rfl (by simp) (by simp[I64,k]) (by simp[I64]) (gae u2),u4.trans (o3.trans n4),leaf _ _ rfl rfl rfl (by simp) (u4.trans (o3.trans n4))⟩
       refine(fitI _).2 ⟨⟨hin.1,hin.2,rfl,fun _=>rfl⟩,.inr (.inr (.inr (.inl ⟨k,rfl,rfl,rfl,rfl,rfl,rfl,.inr ⟨ho,by simp[hodd],u2⟩⟩)))⟩
 · obtain⟨hr1,hmem⟩:=member (.inl k);obtain⟨acc,C1,b1,b2,b3,b4,b5,b6⟩:=gz6 (ts:=ts) (odd:=odd) (c:=c) (r:=r - 1) (by omega) (x:=x) hM12 (fun m hm=>⟨hmem m hm,fun hd=>⟨hD m hm hd,hT.dv m hm,hW m hm hd⟩⟩) 0 false 0 [] 0 x.Kind false 0 [] 0 x.Members.length 0 C [] (by omega) hC hl rfl (fun j hj=>by omega) (fun y hy=>by cases hy)
   have b1':g14 (0,ts,C,odd,0,false,0,[],0,x.Kind,x.Name,x.Low,x.High,x.Max,x.Symbols,x.Members,x.Key,x.Elem,x.Open,x.Kind,false,0,[],0,[])=_:=b1;have hlc:=b5.1;have hAr:Aw r=12*Aw (r - 1)+20:=by
     obtain⟨r',rfl⟩:∃r',r=r'+1:=⟨r - 1,by omega⟩
     rfl
   have hmul:x.Members.length*Aw (r - 1)≤12*Aw (r - 1):=Nat.mul_le_mul_right _ hM12;rw[g5m]at b6;have hfm:vfitm ts (!odd) x.Members acc:=g4d.2 ⟨b2,b3⟩;rw[if_neg (by simp[k]),if_neg (by simp[k]),if_neg (by simp[k]),if_neg (by simp[k]),if_pos (by simp[k]),b1'];simp only[oZ3];obtain⟨o,C2,o1,o2,o3⟩:=gsu (ts:=ts) (hC.suf b5) (by omega) odd
   have hlc2:=o3.1;rw[o1];simp only[oZ3];cases o with
   | false=>
     rw[if_neg (by simp)];refine⟨_,C2,rfl,?_,geu (by simp) (fun y hy=>by cases hy) b4 (by simp) (by show acc.length≤1000;omega) (by simp) (fun y hy=>by cases hy) (by simp[I64,k]) (by simp[I64]) (by simp[I64]),o3.trans b5,?_⟩
     · exact(fitI _).2 ⟨⟨hin.1,hin.2,rfl,fun _=>rfl⟩,.inr (.inr (.inr (.inr (.inl ⟨k,rfl,rfl,rfl,rfl,rfl,⟨.nil,fun y hy=>by cases hy⟩,hfm⟩))))⟩
     · rw[wt_eq];simp only[g5m,List.length_nil,List.map_nil,List.sum_nil];omega
   | true=>
     have hodd:odd=true:=by
       cases odd with
       | true=>rfl
       | false=>exact absurd (o2 rfl) (by simp)
     obtain⟨n,C3,u1,u2,u3,u4⟩:=gik (ts:=ts) hm7 hs7 hI12 hI6 ((hC.suf b5).suf o3) (by omega) odd;have hlc3:=u4.1;obtain⟨d,C4,d1,d2,d3⟩:=gsv (ts:=ts) (n:=n) (((hC.suf b5).suf o3).suf u4) (by omega) odd;have hlc4:=d3.1;rw[if_pos rfl,gig,u1];simp only[oZ3];rw[d1];simp only[oZ3]
     refine⟨_,C4,rfl,?_,geu (by simp) (fun y hy=>by cases hy) b4 (by simp) (by show acc.length≤1000;omega) (by simp) (fun y hy=>?_) (by simp[I64,k]) (by simp[I64]) (by simp[I64]),d3.trans (u4.trans (o3.trans b5)),?_⟩
     · refine(fitI _).2 ⟨⟨hin.1,hin.2,rfl,fun h=>by simp[hodd]at h⟩,.inr (.inr (.inr (.inr (.inl ⟨k,rfl,rfl,rfl,rfl,rfl,⟨by simp,fun y hy=>?_⟩,hfm⟩))))⟩;have:y=⟨n,d⟩:=by simpa using hy
       subst this;exact⟨u2,u3⟩
     · have:y=⟨n,d⟩:=by simpa using hy
       subst this;exact⟨by show d.length≤1000;omega,gae u2⟩
     · rw[wt_eq];simp only[g5m,List.length_nil,List.map_cons,List.map_nil,List.sum_cons,List.sum_nil];omega
 · obtain⟨hr1,hmem⟩:=member (.inr k);have hMp:0 < x.Members.length:=by
     rcases f6.2.1 with h | h
     · cases h
     · exact h
   have hA1:Aw (r - 1)+20≤Aw r:=by
     obtain⟨r',rfl⟩:∃r',r=r'+1:=⟨r - 1,by omega⟩
     have:=Aw_20 r';show Aw r'+20≤12*Aw r'+20;omega
   have arm : ∀ C0, Suf C0 C → ∃ v C', (Option.bind (gr ((x.Members.length : Int), ts, C0, odd)) fun r_65 => if inR r_65.1 x.Members.length = true then
         (gx ((x.Members.getD r_65.1.toNat dSMember).Type_,r_65.2.1,r_65.2.2.1,r_65.2.2.2)).bind fun r_70=>
           some ((⟨x.Kind,false,0,[],(x.Members.getD r_65.1.toNat dSMember).ID,[],[r_70.1],[]⟩:SValue),r_70.2.1,r_70.2.2.1,r_70.2.2.2)
       else none)=some (v,ts,C',odd)∧vfit ts (!odd) (t:Int) v∧OkV v∧Suf C' C∧wt v+32574360*C'.length≤Aw r+32574360*C.length:=by
     intro C0 hs0;have hlc0:=hs0.1;obtain⟨q,C1,n1,n2,n3,n4,n5⟩:=g6r (ts:=ts) (n:=(x.Members.length:Int)) ⟨by omega,by omega⟩ (hC.suf hs0) (by omega) odd;obtain⟨j,rfl⟩:∃j:Nat,q=(j:Int):=⟨q.toNat,by omega⟩
     have hlc:=n4.1;have hj:j < x.Members.length:=by omega
     have hm:=gg hj dSMember;obtain⟨w,C2,m1,m2,m3,m4,m5⟩:=hmem _ hm C1 ((hC.suf hs0).suf n4) (by omega);have hlc2:=m4.1;rw[n1];simp only[oZ3];rw[if_pos (g6 hj)];simp only[g7];rw[m1];simp only[oZ3];have hI:=f6.2.2.1.2 _ hm
     refine⟨_,C2,rfl,?_,geu (by simp) (fun y hy=>by cases hy) (fun y hy=>?_) (by simp) (by simp) (by simp) (fun y hy=>by cases hy) (by simp[I64,k]) (by simp[I64]) (gae hI),m4.trans (n4.trans hs0),?_⟩
     · refine(fitI _).2 ⟨⟨hin.1,hin.2,rfl,fun _=>rfl⟩,.inr (.inr (.inr (.inr (.inr (.inl ⟨k,rfl,rfl,rfl,rfl,?_⟩)))))⟩;have hfind:findM x.Members (x.Members.getD j dSMember).ID=some (x.Members.getD j dSMember):=by
         unfold findM;rw[List.find?_eq_some_iff_getElem];refine⟨by simp,j,hj,(gk hj _).symm,fun i hi=>?_⟩;have hp:=List.pairwise_iff_getElem.1 f6.2.2.1.1 i j (by omega) hj hi;rw[gk hj];simp;omega
       simp only[hfind];refine⟨by first | rfl | trivial,by first | rfl | trivial,?_⟩;rw[g1q];intro y hy;have:y=w:=by simpa using hy
       subst this;exact m2
     · have:y=w:=by simpa using hy
       subst this;exact m3
     · rw[wt_eq];simp only[g5k,g5m,List.length_nil,List.map_nil,List.sum_nil];omega
   rw[if_neg (by simp[k]),if_neg (by simp[k]),if_neg (by simp[k]),if_neg (by simp[k]),if_neg (by simp[k]),if_pos (by simp[k])];simp only[SValue.ge];cases ho:x.Open with
   | false=>
     rw[if_neg (by simp),if_neg (by simp)];obtain⟨v,C',a1,a2,a3,a4,a5⟩:=arm C (Suf.refl _);rw[a1];exact⟨v,C',rfl,a2,a3,a4,a5⟩
   | true=>
     obtain⟨o,C2,o1,o2,o3⟩:=gsu (ts:=ts) hC (by omega) odd;have hlc2:=o3.1;rw[if_pos rfl,o1];simp only[oZ3,cond_true];cases o with
     | false=>
       rw[if_neg (by simp)];obtain⟨v,C',a1,a2,a3,a4,a5⟩:=arm C2 o3;rw[a1];exact⟨v,C',rfl,a2,a3,a4,a5⟩
     | true=>
       have hodd:odd=true:=by
         cases odd with
         | true=>rfl
         | false=>exact absurd (o2 rfl) (by simp)
       obtain⟨n,C3,u1,u2,u3,u4⟩:=gik (ts:=ts) hm7 hs7 hI12 hI6 (hC.suf o3) (by omega) odd;have hlc3:=u4.1;obtain⟨d,C4,d1,d2,d3⟩:=gsv (ts:=ts) (n:=n) ((hC.suf o3).suf u4) (by omega) odd;have hlc4:=d3.1;rw[if_pos rfl,u1];simp only[oZ3];rw[d1];simp only[oZ3]
       refine⟨_,C4,rfl,?_,geu (by simp) (fun y hy=>by cases hy) (fun y hy=>by cases hy) (by simp) (by simp) (by simp) (fun y hy=>?_) (by simp[I64,k]) (by simp[I64]) (gae u2),d3.trans (u4.trans o3),?_⟩
       · refine(fitI _).2 ⟨⟨hin.1,hin.2,rfl,fun h=>by simp[hodd]at h⟩,.inr (.inr (.inr (.inr (.inr (.inl ⟨k,rfl,rfl,rfl,rfl,?_⟩)))))⟩;simp only[u3];exact⟨ho,by simp[hodd],u2,by first | rfl | trivial,d,by first | rfl | trivial⟩
       · have:y=⟨n,d⟩:=by simpa using hy
         subst this;exact⟨by show d.length≤1000;omega,gae u2⟩
       · rw[wt_eq];simp only[g5m,List.length_nil,List.map_cons,List.map_nil,List.sum_cons,List.sum_nil];omega
 · have em:addI .i64 (minI x.Max 3) 1=min x.Max 3+1:=by
     have:minI x.Max 3=min x.Max 3:=rfl;rw[this,g7f (by omega) (by omega)]
   have hel:0≤x.Elem∧x.Elem < ts.length:=hU x.Elem (by unfold usesL;simp[k]);obtain⟨q,C1,n1,n2,n3,n4,n5⟩:=g6r (ts:=ts) (n:=min x.Max 3+1) ⟨by omega,by omega⟩ hC (by omega) odd;obtain⟨j,rfl⟩:∃j:Nat,q=(j:Int):=⟨q.toNat,by omega⟩
   have hlc:=n4.1
   have loop:∃acc C',g1u ((j:Int),ts,C1,odd,0,false,0,[],0,x.Kind,x.Name,x.Low,x.High,x.Max,x.Symbols,x.Members,x.Key,x.Elem,x.Open,x.Kind,false,0,[],0,[])=some (ts,C',odd,0,false,0,[],0,x.Kind,false,0,[],0,acc)∧acc.length=j∧(∀y,y∈acc→vfit ts (!odd) x.Elem y∧OkV y)∧Suf C' C∧10+wts acc+32574360*C'.length≤Aw r+32574360*C.length:=by
     rcases n5 with⟨h0,h1,h2⟩ | h1
     · have:j=0:=by omega
       subst this;refine⟨[],C1,by rw[g1u,if_neg (by simp)],rfl,fun y hy=>(by cases hy),n4,?_⟩;rw[g5m];omega
     · obtain⟨acc,C',b1,b2,b3,b4,b5⟩:=guv (ts:=ts) (odd:=odd) (c:=C1.length) (r:=5) (by omega) (x:=x) (fun C2 hC2 hl2=>below C1 h1 x.Elem hel.1 hel.2 C2 hC2 hl2) 0 false 0 [] 0 x.Kind false 0 [] 0 j C1 [] (by simp;omega) (hC.suf n4) (by omega) (fun y hy=>by cases hy);refine⟨acc,C',b1,by simpa using b2,b3,b4.trans n4,?_⟩;rw[g5m,Aw_5]at b5
       have:j*5429060≤3*5429060:=Nat.mul_le_mul_right _ (by omega);omega
   obtain⟨acc,C',b1,b2,b3,b4,b5⟩:=loop;rw[if_neg (by simp[k]),if_neg (by simp[k]),if_neg (by simp[k]),if_neg (by simp[k]),if_neg (by simp[k]),if_neg (by simp[k]),if_pos (by simp[k]),em,n1];simp only[oZ3];rw[b1];simp only[oZ3]
   refine⟨_,C',rfl,?_,geu (by simp) (fun y hy=>by cases hy) (fun y hy=>(b3 y hy).2) (by simp) (by show acc.length≤1000;omega) (by simp) (fun y hy=>by cases hy) (by simp[I64,k]) (by simp[I64]) (by simp[I64]),b4,?_⟩
   · exact(fitI _).2 ⟨⟨hin.1,hin.2,rfl,fun _=>rfl⟩,.inr (.inr (.inr (.inr (.inr (.inr (.inl ⟨k,rfl,rfl,rfl,rfl,rfl,rfl,by show(acc.length:Int)≤x.Max;omega,g1q.2 fun y hy=>(b3 y hy).1⟩))))))⟩
   · rw[wt_eq];simp only[g5m,List.length_nil,List.map_nil,List.sum_nil];omega
 · have em:addI .i64 (minI x.Max 3) 1=min x.Max 3+1:=by
     have:minI x.Max 3=min x.Max 3:=rfl;rw[this,g7f (by omega) (by omega)]
   have hel:0≤x.Elem∧x.Elem < ts.length:=hU x.Elem (by unfold usesL;simp[k]);have hkl:0≤x.Key∧x.Key < ts.length:=hU x.Key (by unfold usesL;simp[k]);obtain⟨q,C1,n1,n2,n3,n4,n5⟩:=g6r (ts:=ts) (n:=min x.Max 3+1) ⟨by omega,by omega⟩ hC (by omega) odd;obtain⟨j,rfl⟩:∃j:Nat,q=(j:Int):=⟨q.toNat,by omega⟩
   have hlc:=n4.1;have hasc0:g68 []:=fun i hi=>by simp at hi
   have loop:∃ks is C',g1v ((j:Int),ts,C1,odd,0,false,0,[],0,x.Kind,x.Name,x.Low,x.High,x.Max,x.Symbols,x.Members,x.Key,x.Elem,x.Open,x.Kind,false,0,[],0,[],[],[])=some (ts,C',odd,0,false,0,[],0,x.Kind,false,0,[],0,ks,is,[])∧ks.length≤j∧is.length=ks.length∧(∀y,y∈ks→vfit ts (!odd) x.Key y∧OkV y)∧(∀y,y∈is→vfit ts (!odd) x.Elem y∧OkV y)∧g68 ks∧Suf C' C∧10+wts ks+wts is+32574360*C'.length≤Aw r+32574360*C.length:=by
     rcases n5 with⟨h0,h1,h2⟩ | h1
     · have:j=0:=by omega
       subst this;refine⟨[],[],C1,by rw[g1v,if_neg (by simp)],by simp,rfl,fun y hy=>(by cases hy),fun y hy=>(by cases hy),hasc0,n4,?_⟩;rw[g5m];omega
     · obtain⟨ks,is,C',b1,b2,b3,b4,b5,b6,b7,b8⟩:=gz7 (ts:=ts) (odd:=odd) (c:=C1.length) (r:=5) (by omega) (x:=x) (fun C2 hC2 hl2=>below C1 h1 x.Key hkl.1 hkl.2 C2 hC2 hl2) (fun C2 hC2 hl2=>below C1 h1 x.Elem hel.1 hel.2 C2 hC2 hl2) 0 false 0 [] 0 x.Kind false 0 [] 0 [] j C1 [] [] (by simp;omega) rfl (hC.suf n4) (by omega) (fun y hy=>by cases hy) (fun y hy=>by cases hy) hasc0
       refine⟨ks,is,C',b1,by simpa using b2,b3,b4,b5,b6,b7.trans n4,?_⟩;rw[g5m,Aw_5]at b8;have:j*5429060≤3*5429060:=Nat.mul_le_mul_right _ (by omega);omega
   obtain⟨ks,is,C',b1,b2,b3,b4,b5,b6,b7,b8⟩:=loop;rw[if_neg (by simp[k]),if_neg (by simp[k]),if_neg (by simp[k]),if_neg (by simp[k]),if_neg (by simp[k]),if_neg (by simp[k]),if_neg (by simp[k]),if_pos (by simp[k]),em,n1];simp only[oZ3];rw[b1];simp only[oZ3]
   refine⟨_,C',rfl,?_,geu (by simp) (fun y hy=>(b4 y hy).2) (fun y hy=>(b5 y hy).2) (by show ks.length≤1000;omega) (by show is.length≤1000;omega) (by simp) (fun y hy=>by cases hy) (by simp[I64,k]) (by simp[I64]) (by simp[I64]),b7,?_⟩
   · exact(fitI _).2 ⟨⟨hin.1,hin.2,rfl,fun _=>rfl⟩,.inr (.inr (.inr (.inr (.inr (.inr (.inr (.inl ⟨k,rfl,rfl,rfl,rfl,rfl,by show(ks.length:Int)≤x.Max;omega,b3,g1q.2 fun y hy=>(b4 y hy).1,g1q.2 fun y hy=>(b5 y hy).1,b6⟩)))))))⟩
   · rw[wt_eq];simp only[List.length_nil,List.map_nil,List.sum_nil];omega
 · have hel:0≤x.Elem∧x.Elem < ts.length:=hU x.Elem (by unfold usesL;simp[k]);obtain⟨q,C1,n1,n2,n3,n4,n5⟩:=g6r (ts:=ts) (n:=2) ⟨by omega,by omega⟩ hC (by omega) odd;have hlc:=n4.1;rw[if_neg (by simp[k]),if_neg (by simp[k]),if_neg (by simp[k]),if_neg (by simp[k]),if_neg (by simp[k]),if_neg (by simp[k]),if_neg (by simp[k]),if_neg (by simp[k]),n1]
   simp only[oZ3,SValue.ge];by_cases h1:q=1
   · have hc1:C1.length+1=C.length:=by
       rcases n5 with⟨h0,_,_⟩ | h
       · omega
       · exact h
     obtain⟨w,C2,m1,m2,m3,m4,m5⟩:=below C1 hc1 x.Elem hel.1 hel.2 C1 (hC.suf n4) (by omega);have hlc2:=m4.1;rw[Aw_5]at m5;rw[if_pos (by simpa using h1),m1];simp only[oZ3]
     refine⟨_,C2,rfl,?_,geu (by simp) (fun y hy=>by cases hy) (fun y hy=>?_) (by simp) (by simp) (by simp) (fun y hy=>by cases hy) (by simp[I64,k]) (by simp[I64]) (by simp[I64]),m4.trans n4,?_⟩
     · refine(fitI _).2 ⟨⟨hin.1,hin.2,rfl,fun _=>rfl⟩,.inr (.inr (.inr (.inr (.inr (.inr (.inr (.inr ⟨k,rfl,rfl,rfl,rfl,rfl,rfl,by simp,g1q.2 fun y hy=>?_⟩)))))))⟩;have:y=w:=by simpa using hy
       subst this;exact m2
     · have:y=w:=by simpa using hy
       subst this;exact m3
     · rw[wt_eq];simp only[g5k,g5m,List.length_nil,List.map_nil,List.sum_nil];omega
   · rw[if_neg (by simpa using h1)];refine⟨_,C1,rfl,?_,g8h rfl rfl rfl (by simp) (by simp[I64,k]) (by simp[I64]) (by simp[I64]),n4,leaf _ _ rfl rfl rfl (by simp) n4⟩;exact(fitI _).2 ⟨⟨hin.1,hin.2,rfl,fun _=>rfl⟩,.inr (.inr (.inr (.inr (.inr (.inr (.inr (.inr ⟨k,rfl,rfl,rfl,rfl,rfl,rfl,by simp,g1q.2 fun y hy=>by cases hy⟩)))))))⟩
theorem gz8(H:DrOk ts){odd:Bool} :∀(c:Nat),c≤60→∀r,Gd ts odd c r:=by
 intro c
 induction c using Nat.strongRecOn with
 | ind c ihc=>
   intro hc r
   induction r using Nat.strongRecOn with
   | ind r ihr=>exact g11m H hc (fun c' h=>ihc c' h (by omega) 5) (fun r' h=>ihr r' h)
theorem guw(H:DrOk ts){t:Int}(ht:0≤t∧t < ts.length){C:List Int}(hC:CU8 C)(hl:C.length≤reachBytes) :∃v,g6z ((⟨ts⟩:SSchema),t,C)=some v∧vfit ts true t v∧OkV v∧wt v≤2147483648:=by
 obtain⟨j,rfl⟩:∃j:Nat,t=(j:Int):=⟨t.toNat,by omega⟩
 have hr:=g1e hl;have hm:minI 60 (C.length:Int)=((min 60 C.length:Nat):Int):=gs3 60 C.length;have hs:CU8 (C.take (min 60 C.length)):=fun c hc=>hC c (List.mem_of_mem_take hc)
 have hlen:(C.take (min 60 C.length)).length≤60:=by rw[List.length_take];omega
 have hsl:slR 0 ((min 60 C.length:Nat):Int) C.length=true:=gbs (a:=0) (by omega) (by omega);obtain⟨v,C',h1,h2,h3,h4,h5⟩:=gz8 H (odd:=false) 60 (by omega) 5 j (by omega) (gsx H (by omega)) _ hs hlen;rw[g6z];simp only[oZ4,oZ3];rw[hm,if_pos hsl,g9k,h1];refine⟨v,by simp only[oZ3,SValue.ge],h2,h3,?_⟩;rw[Aw_5]at h5;omega
theorem gwr(H:DrOk ts){t:Int}(ht:0≤t∧t < ts.length){C:List Int}(hC:CU8 C)(hl:C.length≤reachBytes) :∃v,g73 ((⟨ts⟩:SSchema),t,C)=some v∧vfit ts false t v∧OkV v∧wt v≤2147483648:=by
 obtain⟨j,rfl⟩:∃j:Nat,t=(j:Int):=⟨t.toNat,by omega⟩
 have hr:=g1e hl;have hm:minI 60 (C.length:Int)=((min 60 C.length:Nat):Int):=gs3 60 C.length;have hs:CU8 (C.take (min 60 C.length)):=fun c hc=>hC c (List.mem_of_mem_take hc)
 have hlen:(C.take (min 60 C.length)).length≤60:=by rw[List.length_take];omega
 have hsl:slR 0 ((min 60 C.length:Nat):Int) C.length=true:=gbs (a:=0) (by omega) (by omega);obtain⟨v,C',h1,h2,h3,h4,h5⟩:=gz8 H (odd:=true) 60 (by omega) 5 j (by omega) (gsx H (by omega)) _ hs hlen;rw[g73];simp only[oZ4,oZ3];rw[hm,if_pos hsl,g9k,h1];refine⟨v,by simp only[oZ3,SValue.ge],h2,h3,?_⟩;rw[Aw_5]at h5;omega
end
structure DrIn (d:Sheaveref08Draft):Prop where
 s:DOk d.S
 t:U8 d.T
 c:CU8 d.C
 l:d.C.length≤reachBytes
theorem of8 {d : Sheaveref08Draft} (hd : DrIn d) : (∃ s t v w, g85 d = some (s, t, v, w, false)) ∨
   ∃ts t v w,g85 d=some (⟨ts⟩,t,v,w,true)∧DrOk ts∧(0≤t∧t < ts.length)∧(vfit ts true t v∧OkV v∧wt v≤2147483648)∧(vfit ts false t w∧OkV w∧wt w≤2147483648):=by
 rw[g85];rcases of_ok hd.s with h | ⟨l,h,H⟩
 · rw[h];exact .inl ⟨_,_,_,_,rfl⟩
 · right;have hn1:=H.n1;have hn5:=H.n5;have ht:=hd.t;unfold U8 at ht;have r0:0≤d.T % (l.length:Int):=Int.emod_nonneg _ (by omega);have r1:d.T % (l.length:Int) < l.length:=Int.emod_lt_of_pos _ (by omega);obtain⟨v,v1,v2⟩:=guw H ⟨r0,r1⟩ hd.c hd.l;obtain⟨w,w1,w2⟩:=gwr H ⟨r0,r1⟩ hd.c hd.l;rw[h];simp only[oZ4,oZ3]
   rw[if_neg (by simp),if_pos (nz (by omega)),g9b ⟨by omega,by omega⟩,g5n ht.1 (by omega),v1];simp only[oZ3];rw[w1];exact⟨l,_,v,w,by simp only[oZ3,SValue.ge],H,⟨r0,r1⟩,v2,w2⟩
end
section
open Go Go.Proofs.YtijpinendaoleaaGreat.Shv Go.Sort
set_option maxRecDepth 100000
theorem g10k{ts:List SType}(H:SOk ts){v:SValue}(hv:OkV v)(t:Int)(pl:Bool) :SaysP (g39 ((⟨ts⟩:SSchema),t,v,pl)) (vfit ts pl t v):=by
 obtain⟨r,h1,h2⟩:=gad (by have:=H.n;omega) H.T H.K hv t pl;obtain⟨q,q1,q2⟩:=gco (by have:=H.n;omega) H.T H.K hv t pl;rw[h1]at q2;have:r=q:=Option.some.inj q2;subst this;exact⟨r,q1,h2⟩
theorem gim{ts:List SType}(hT:∀t,t∈ts→OkT t)(hV:VOk ts){v:SValue}(hv:OkV v){t:Int}(hf:vfit ts false t v) :g80 ((⟨ts⟩:SSchema),t,v)=some 0∧g4p ((⟨ts⟩:SSchema),t,v)=some 0:=by
 have H:=hV.sok hT;obtain⟨v1,v2⟩:=gkt hT hV;obtain⟨⟨g1,g2,_⟩,_⟩:=(g10 _ _ _).1 hf;obtain⟨e,e1,e2,_⟩:=gwl (s:=⟨ts⟩) (by have:=hV.n;unfold reachBytes;show ts.length≤_;omega) hT hv t;obtain⟨r,r1,r2⟩:=g10k H hv t false;have hr:=r2.2 hf;subst hr;have hout:¬((bif decide (t < 0)then true else decide (((⟨ts⟩:SSchema).Types.length:Int)≤t))=true):=by
   have a:¬t < 0:=by omega
   have b:¬((ts.length:Nat):Int)≤t:=by omega
   simp only[a,b,decide_false,cond_false,Bool.false_eq_true,not_false_eq_true]
 have key:g80 ((⟨ts⟩:SSchema),t,v)=some 0:=by
   rw[g80,gbu];simp only[g9q,SValue.ge];rw[v1];show((if(bif decide (t < 0)then true else decide (((⟨ts⟩:SSchema).Types.length:Int)≤t))=true then some (4:Int)else some 0) >>=_)=_;rw[if_neg hout];show(g5i ((⟨ts⟩:SSchema),t,v) >>=_)=_;rw[g5i];simp only[SValue.ge];rw[r1];rfl
 rw[key]at e1;have:e=0:=(Option.some.inj e1).symm;subst this;exact⟨key,e2⟩
theorem g11n{d:Sheaveref07Draft}(h:WF Un ⟨.slice (.nm ixSheaveref07Node),d.Nodes⟩) :DOk d:=by
 obtain⟨a,_,c⟩:=gii (t:= .nm ixSheaveref07Node) h;refine⟨a,fun x hx=>?_⟩;have hc:=c x hx;have u8:∀{n:Int},WF Un ⟨.int .u8,n⟩→U8 n:=fun {n} h=>by
   cases h with
   | int k n h=>
     simp[Lit.wf,IntKind.min,IntKind.max,IntKind.bits,IntKind.signed]at h;unfold U8;omega
 have c1:=hc ⟨.int .u8,x.Kind⟩ (.head _);have c2:=hc ⟨.int .u8,x.A⟩ (.tail _ (.head _));have c3:=hc ⟨.int .u8,x.B⟩ (.tail _ (.tail _ (.head _)));have c4:=hc ⟨.int .u8,x.C⟩ (.tail _ (.tail _ (.tail _ (.head _))));have c5:=hc ⟨.slice (.nm ixSheaveref07Part),x.Parts⟩ (.tail _ (.tail _ (.tail _ (.tail _ (.head _)))));obtain⟨p1,_,p3⟩:=gii (t:= .nm ixSheaveref07Part) c5
 refine⟨u8 c1,u8 c2,u8 c3,u8 c4,fun q hq=>?_,p1⟩;have hq':=p3 q hq;exact⟨u8 (hq' ⟨.int .u8,q.ID⟩ (.head _)),u8 (hq' ⟨.int .u8,q.Type_⟩ (.tail _ (.head _))),u8 (hq' ⟨.int .u8,q.Flag⟩ (.tail _ (.tail _ (.head _))))⟩
theorem g10l{d:Sheaveref08Draft}(h:∀c,c∈Un.flds ixSheaveref08Draft d→WF Un c) :DrIn d:=by
 have c1:=h ⟨.slice (.nm ixSheaveref07Node),d.S.Nodes⟩ (.head _);have c2:=h ⟨.int .u8,d.T⟩ (.tail _ (.head _));have c3:=h ⟨.slice (.int .u8),d.C⟩ (.tail _ (.tail _ (.head _)));obtain⟨a,_,c⟩:=gii (t:= .int .u8) c3;have u8:∀{n:Int},WF Un ⟨.int .u8,n⟩→U8 n:=fun {n} h=>by
   cases h with
   | int k n h=>
     simp[Lit.wf,IntKind.min,IntKind.max,IntKind.bits,IntKind.signed]at h;unfold U8;omega
 exact⟨g11n c1,u8 c2,fun n hn=>u8 (c n hn ⟨.int .u8,n⟩ (.head _)),a⟩
end
section
open Go Go.Proofs.YtijpinendaoleaaGreat.Shv Go.Sort
set_option maxRecDepth 100000
set_option linter.all false
end
section
open Go Go.Proofs.YtijpinendaoleaaGreat.Shv Go.Sort
set_option maxRecDepth 100000
set_option linter.all false
end
section
open Go Go.Proofs.YtijpinendaoleaaGreat.Shv Go.Sort
set_option maxRecDepth 100000
section
variable {ts:List SType}
end
end
section
open Go Go.Proofs.YtijpinendaoleaaGreat.Shv Go.Sort
set_option maxRecDepth 100000
section
variable {ts:List SType}
end
end
section
open Go Go.Proofs.YtijpinendaoleaaGreat.Shv Go.Sort
set_option maxRecDepth 100000
section
variable {ts:List SType}
end
end
section
open Go Go.Proofs.YtijpinendaoleaaGreat.Shv Go.Sort
set_option maxRecDepth 100000
section
variable {ts:List SType}
end
end
section
open Go Go.Proofs.YtijpinendaoleaaGreat.Shv Go.Sort
set_option maxRecDepth 100000
set_option linter.all false
end
section
open Go Go.Proofs.YtijpinendaoleaaGreat.Shv Go.Sort
set_option maxRecDepth 100000
theorem g10m{ms:List SMember}(h:MAsc ms){a b:SMember}(ha:a∈ms)(hb:b∈ms)(e:a.ID=b.ID) :a=b:=by
 obtain⟨i,hi,rfl⟩:=List.getElem_of_mem ha;obtain⟨j,hj,rfl⟩:=List.getElem_of_mem hb;have key:=List.pairwise_iff_getElem.1 h.1;by_cases hij:i < j
 · have:=key i j hi hj hij;omega
 · by_cases hji:j < i
   · have:=key j i hj hi hji;omega
   · have:i=j:=by omega
     subst this;rfl
theorem gz9{ms:List SMember}{id:Int}{m:SMember}(h:findM ms id=some m) :m∈ms∧m.ID=id:=
 ⟨List.mem_of_find?_eq_some h,by simpa using List.find?_some h⟩
end
section
open Go Go.Proofs.YtijpinendaoleaaGreat.Shv Go.Sort
set_option maxRecDepth 100000
set_option linter.all false
end
section
open Go Go.Proofs.YtijpinendaoleaaGreat.Shv Go.Sort
set_option maxRecDepth 100000
theorem gqe{a:SValue}(h:OkV a)(b:SValue) :Says (g6e (a,b)) a b:=by
 obtain⟨r,h1,h2⟩:=gpg h b;refine⟨r,?_,h2⟩;rw[g6e];simp only[SValue.ge];rw[h1];rfl
mutual
def vstrip :SValue→SValue
 | ⟨k,b,i,s,id,ks,is,r⟩=>⟨k,b,i,s,id,ks,vstrips is,if k=5 then[]else r⟩
def vstrips :List SValue→List SValue
 | []=>[]
 | v::l=>vstrip v::vstrips l
end
theorem gmb :∀l:List SValue,vstrips l=l.map vstrip
 | []=>by rw[vstrips];rfl
 | v::l=>by rw[vstrips,gmb l];rfl
theorem g6n(v:SValue) :vstrip v=⟨v.Kind,v.Bool_,v.Int_,v.Str,v.ID,v.Keys,v.Items.map vstrip,if v.Kind=5 then[]else v.Rest⟩:=by
 cases v;rw[vstrip,gmb]
theorem g11o{l:List SRaw}(h:l.Pairwise fun a b=>a.ID < b.ID)(n:Nat)(h1:∀x,x∈l→1≤x.ID∧x.ID≤n) :l.length≤n:=by
 have key:∀(l:List SRaw) (m:Int),l.Pairwise (fun a b=>a.ID < b.ID)→(∀x,x∈l→m < x.ID∧x.ID≤n)→m≤n→(l.length:Int)≤n - m:=by
   intro l
   induction l with
   | nil=>intro m _ _ h;simp;omega
   | cons x l ih=>
     intro m hp hm hn;have hx:=hm x (.head _);have:=ih x.ID (List.pairwise_cons.1 hp).2 (fun y hy=>⟨(List.pairwise_cons.1 hp).1 y hy,(hm y (.tail _ hy)).2⟩) hx.2;rw[List.length_cons];omega
 have:=key l 0 h (fun x hx=>⟨by have:=h1 x hx;omega,(h1 x hx).2⟩) (by omega);omega
section
variable {ts:List SType}
theorem g87(H:DrOk ts){pl:Bool}{t:Int}{v:SValue}(hf:vfit ts pl t v) :v.Keys.length≤20∧v.Items.length≤20∧v.Rest.length≤1000:=by
 obtain⟨⟨g1,g2,g3,g4⟩,hc⟩:=(g10 _ _ _).1 hf;have hmem:=gg (by omega:t.toNat < ts.length) dSType;generalize hx:ts.getD t.toNat dSType=x at*;have hM:=H.M x hmem;have hI:=H.I x hmem;rcases hc with h | h | h | h | h | h | h | h | h
 · obtain⟨a1,a2,a3,a4,a5,a6,a7⟩:=h;rw[a5,a6,a7];simp
 · obtain⟨a1,a2,a3,a4,a5,a6,a7,a8⟩:=h;rw[a5,a6,a7];simp
 · obtain⟨a1,a2,a3,a4,a5,a6,a7,a8⟩:=h;rw[a5,a6,a7];simp
 · obtain⟨a1,a2,a3,a4,a5,a6,a7,a8⟩:=h;rw[a5,a6,a7];simp
 · obtain⟨a1,a2,a3,a4,a5,a6,a7,a8⟩:=h;have:=(g4d.1 a8).1;refine⟨by rw[a6];simp,by have:=hI.2.2;omega,g11o a7.1 1000 fun y hy=>?_⟩;have:=(a7.2 y hy).1;unfold I1000 at this;omega
 · obtain⟨a1,a2,a3,a4,a5,a6⟩:=h;split at a6
   · obtain⟨b1,b2,b3⟩:=a6;rw[a5,b1,b2];simp
   · obtain⟨b1,b2,b3,b4,d,b5⟩:=a6;rw[a5,b4,b5];simp
 · obtain⟨a1,a2,a3,a4,a5,a6,a7,a8,a9⟩:=h;rw[a6,a7];simp;omega
 · obtain⟨a1,a2,a3,a4,a5,a6,a7,a8,a9⟩:=h;rw[a6];simp;omega
 · obtain⟨a1,a2,a3,a4,a5,a6,a7,a8,a9⟩:=h;rw[a6,a7];simp;omega
def stT(x:SType)(v:SValue)(i:Nat) :Int:=if x.Kind=5 then(x.Members.getD i dSMember).Type_ else if x.Kind=6 then((findM x.Members v.ID).getD dSMember).Type_ else x.Elem
def stN(x:SType)(v:SValue)(i:Nat) :Int:=if x.Kind=5 then(x.Members.getD i dSMember).ID else if x.Kind=6 then v.ID else i
theorem g72{pl:Bool}{t:Int}{v:SValue}(hf:vfit ts pl t v) :∀i,i < v.Items.length→vfit ts pl (stT (ts.getD t.toNat dSType) v i) (v.Items.getD i dSValue):=by
 obtain⟨⟨g1,g2,g3,g4⟩,hc⟩:=(g10 _ _ _).1 hf;generalize hx:ts.getD t.toNat dSType=x at*;intro i hi;have hmi:=gg hi dSValue;unfold stT;rcases hc with h | h | h | h | h | h | h | h | h
 · rw[h.2.2.2.2.2.1]at hi;cases hi
 · rw[h.2.2.2.2.2.1]at hi;cases hi
 · rw[h.2.2.2.2.2.1]at hi;cases hi
 · rw[h.2.2.2.2.2.1]at hi;cases hi
 · obtain⟨a1,a2,a3,a4,a5,a6,a7,a8⟩:=h;rw[if_pos (by omega)];obtain⟨b1,b2⟩:=g4d.1 a8;exact b2 i (by omega)
 · obtain⟨a1,a2,a3,a4,a5,a6⟩:=h;rw[if_neg (by omega),if_pos (by omega)];split at a6
   · rename_i m hm;rw[hm];exact g1q.1 a6.2.2 _ hmi
   · rw[a6.2.2.2.1]at hi;cases hi
 · obtain⟨a1,a2,a3,a4,a5,a6,a7,a8,a9⟩:=h;rw[if_neg (by omega),if_neg (by omega)];exact g1q.1 a9 _ hmi
 · obtain⟨a1,a2,a3,a4,a5,a6,a7,a8,a9,a10,a11⟩:=h;rw[if_neg (by omega),if_neg (by omega)];exact g1q.1 a10 _ hmi
 · obtain⟨a1,a2,a3,a4,a5,a6,a7,a8,a9⟩:=h;rw[if_neg (by omega),if_neg (by omega)];exact g1q.1 a9 _ hmi
theorem g10n{α:Type}(f:α→α)(l:List α){i:Nat}(hi:i < l.length)(d:α) :((l.take i).map f++l.drop i).set i (f (l.getD i d))=(l.take (i+1)).map f++l.drop (i+1):=by
 rw[gk hi];have h1:((l.take i).map f).length=i:=by simp;omega
 rw[List.set_append_right _ _ (by omega),h1,Nat.sub_self,List.drop_eq_getElem_cons hi,List.set_cons_zero,List.take_add_one,List.map_append,List.getElem?_eq_getElem hi,List.append_assoc];rfl
theorem g10o{α:Type}(f:α→α)(l:List α){i:Nat}(hi:i < l.length)(d:α) :((l.take i).map f++l.drop i).getD i d=l.getD i d:=by
 have h1:((l.take i).map f).length=i:=by simp;omega
 rw[List.getD_eq_getElem?_getD,List.getElem?_append_right (by omega),h1,Nat.sub_self,List.drop_eq_getElem_cons hi,gk hi];rfl
theorem gku {l : List SValue} (hl : l.length ≤ 1000) (h : ∀ y, y ∈ l → g4j y = some (vstrip y)) {a0 a2 a4 b0 b2 b4 : Int} {a1 b1 : Bool} {a3 b3 : List UInt8} {r : List SRaw} {ks : List SValue} : ∀ (k i : Nat), i + k = l.length →
   g2v ((i:Int),a0,a1,a2,a3,a4,r,b0,b1,b2,b3,b4,ks,(l.take i).map vstrip++l.drop i)=some (a0,a1,a2,a3,a4,r,b0,b1,b2,b3,b4,ks,l.map vstrip)
 | 0,i,hi=>by
   rw[g2v,if_neg (by simp;omega),List.take_of_length_le (by omega),List.drop_eq_nil_of_le (by omega),List.append_nil]
 | k+1,i,hi=>by
   have hlt:i < l.length:=by omega
   have hn:((l.take i).map vstrip++l.drop i).length=l.length:=by simp;omega
   rw[g2v,hn,if_pos (by simp;omega),if_pos (g6 hlt),g7,if_pos (by simp;omega),g10o vstrip l hlt dSValue];simp only[SValue.ge];rw[h _ (gg hlt dSValue)];simp only[oZ4,oZ3,SValue.ge];rw[if_pos (g6 hlt),if_pos (by simp;omega),g10n vstrip l hlt dSValue,gp (by omega)];exact gku hl h k (i+1) (by omega)
theorem gza(H:DrOk ts){v:SValue}(hv:OkV v) :∀t,vfit ts false t v→g4j v=some (vstrip v):=by
 induction hv with
 | mk v hs h1 h2 h3 hk hi hrd n1 n2 n3 n4 ihk ihi=>
   intro t hf;obtain⟨l1,l2,l3⟩:=g87 H hf;have kids:∀y,y∈v.Items→g4j y=some (vstrip y):=fun y hy=>by
     obtain⟨i,hi',rfl⟩:=List.getElem_of_mem hy;have:=g72 hf i hi';rw[gk hi']at this;exact ihi _ hy _ this
   have hc:g4c v=some (v.Kind,v.Bool_,v.Int_,v.Str,v.ID,v.Keys,v.Items,v.Rest):=by
     rw[g4c];simp only[List.nil_append];rw[if_pos (g2h (by omega) (by omega)),if_pos (g2h (by omega) (by omega)),if_pos (g2h (by omega) (by omega))]
   rw[g4j];simp only[SValue.ge];rw[hc,g6n];simp only[oZ4,oZ3];have L:=fun(r:List SRaw)=>gku (l:=v.Items) (by omega) kids (a0:=v.Kind) (a1:=v.Bool_) (a2:=v.Int_) (a3:=v.Str) (a4:=v.ID) (b0:=0) (b1:=false) (b2:=0) (b3:=[]) (b4:=0) (r:=r) (ks:=v.Keys) v.Items.length 0 (by omega)
   have L':∀r:List SRaw,g2v (0,v.Kind,v.Bool_,v.Int_,v.Str,v.ID,r,0,false,0,[],0,v.Keys,v.Items)=_:=L;by_cases h5:v.Kind=5
   · rw[if_pos (by simp[h5]),L',if_pos h5];rfl
   · rw[if_neg (by simp[h5]),L',if_neg h5];rfl
def Known(x:SType)(v:SValue) :Prop:=x.Kind=4→∃y,y∈x.Symbols∧y.ID=v.ID
theorem gcb{x:SType}(hx:OkT x)(v:SValue) :∃b,g3e (x,v)=some b∧(b=false↔Known x v):=by
 rw[g3e];unfold Known;by_cases h4:x.Kind=4
 · rw[if_neg (by simp[h4])];obtain⟨r,r1,_,r2⟩:=ga2 (t:=x) v.ID (by have:=hx.1;have:=g1e (Nat.le_refl reachBytes);omega);rw[r1];refine⟨!r.2,rfl,?_⟩;rcases r2 with⟨j,j1,j2,j3,rfl⟩ | ⟨q,rfl⟩
   · simp only[Bool.not_true,true_iff];exact fun _=>⟨_,gg j1 dSSymbol,j2⟩
   · simp only[Bool.not_false,Bool.true_eq_false,false_iff];intro h;obtain⟨y,y1,y2⟩:=h h4;obtain⟨i,hi,rfl⟩:=List.getElem_of_mem y1;exact absurd y2 (by have:=q i hi;rwa [gk hi]at this)
 · rw[if_pos (by simp[h4])];exact⟨false,rfl,by simp[h4]⟩
theorem gkv(hT:∀t,t∈ts→OkT t){x:SType}{v:SValue}(hl:v.Keys.length≤1000)(hk:v.Keys≠[]→0≤x.Key∧x.Key < ts.length) :∃b,g9n ((⟨ts⟩:SSchema),x,v)=some b∧(b=false↔∀k,k∈v.Keys→Known (ts.getD x.Key.toNat dSType) k):=by
 have hb:∀i,i < v.Keys.length→∃b,g3e (ts.getD x.Key.toNat dSType,v.Keys.getD i dSValue)=some b∧(b=false↔Known (ts.getD x.Key.toNat dSType) (v.Keys.getD i dSValue)):=fun i hi=>
   gcb (hT _ (gg (by have:=hk (by intro h;rw[h]at hi;cases hi);omega) dSType)) _
 have hq:∀i,i < v.Keys.length→gb9 (v.Keys.getD i dSValue,ts,x)=(g3e (ts.getD x.Key.toNat dSType,v.Keys.getD i dSValue)).map fun b=>(b,ts,x):=fun i hi=>by
   rw[gb9];have hx:=hk (by intro h;rw[h]at hi;cases hi);rw[if_pos (by simp[inR];omega)];simp only[SValue.ge];cases g3e (ts.getD x.Key.toNat dSType,v.Keys.getD i dSValue) <;> rfl
 have h:=g89 (fun i=>gv (v.Keys,(v.Keys.length:Int),(i:Int),ts,x)) v.Keys.length (fun i=>(g3e (ts.getD x.Key.toNat dSType,v.Keys.getD i dSValue))==some true) (fun i=>.inl ((i:Int),ts,x)) (.inr (ts,x))
   (fun i hi=>by
     obtain⟨b,b1,_⟩:=hb i hi;rw[gv,if_pos (by simp;omega),if_pos (g6 hi),g7];simp only[SValue.ge];rw[hq i hi,b1];simp only[Option.map_some,oZ4,oZ3];rw[gp (by omega)]
     cases b <;> simp)
   (by rw[gv,if_neg (by simp)])
 have e0:gv (v.Keys,(v.Keys.length:Int),((0:Nat):Int),ts,x)=gv (v.Keys,(v.Keys.length:Int),0,ts,x):=rfl;simp only[e0]at h;rw[g9n,g3n,g3x];rcases h with⟨j,h1,h2,h3,h4⟩ | ⟨h1,h4⟩
 · rw[h4];refine⟨true,?_,?_⟩
   · have:decide ((0:Int)≤(j:Int))=true:=by simp
     simp only[oZ4,oZ3,this]
   · obtain⟨b,b1,b2⟩:=hb j h1;have hbt:b=true:=by
       have h2':(g3e (ts.getD x.Key.toNat dSType,v.Keys.getD j dSValue)==some true)=true:=h2;rw[b1]at h2'
       simpa using h2'
     constructor
     · intro h;cases h
     · intro h;have:=b2.2 (h _ (gg h1 dSValue));rw[hbt]at this;cases this
 · rw[h4];refine⟨false,rfl,?_⟩;constructor
   · intro _ k hk;obtain⟨i,hi,rfl⟩:=List.getElem_of_mem hk;obtain⟨b,b1,b2⟩:=hb i hi;have h1':(g3e (ts.getD x.Key.toNat dSType,v.Keys.getD i dSValue)==some true)=false:=h1 i hi;rw[b1]at h1';have:b=false:=by cases b <;> simp_all
     rw[←gk hi (d:=dSValue)];exact b2.1 this
   · intro _;rfl
end
end
end Go.Proofs.YtijpinendaoleaaGreat
