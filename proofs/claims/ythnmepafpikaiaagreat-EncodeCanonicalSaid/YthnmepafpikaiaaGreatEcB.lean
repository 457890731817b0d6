/- The functions of the program as functions of Lean, that its code does what they say, and what they answer; part B. -/
import Derived.Test.YthnmepafpikaiaaGreatEcA

namespace Go.Proofs.YthnmepafpikaiaaGreat
set_option linter.all false
section
open Go Go.Proofs.YthnmepafpikaiaaGreat.Shv
set_option maxRecDepth 100000
theorem room8{k n:Nat}(hk:k≤16)(h:n*24≤reachBytes) :room k n=true:=by
 unfold room g42 g1k;unfold reachBytes at h;simp only[Bool.and_eq_true,decide_eq_true_eq];have:(2*n+192)*k≤(2*n+192)*16:=Nat.mul_le_mul_left _ hk;omega
theorem g9v{α:Type}(l:List α)(i:Nat)(d:α)(h:i < l.length) :l.take i++[l.getD i d]=l.take (i+1):=by
 rw[List.take_add_one,List.getElem?_eq_getElem h,g16 h];rfl
theorem g2c{α β:Type}(f:α→β)(l:List α)(i:Nat)(d:α)(e:β)(h:i < l.length) :(l.map f).getD i e=f (l.getD i d):=by
 rw[g16 h,g16 (by simpa using h)];simp
theorem g4s{l:List (List UInt8)}{i:Nat}{s:List UInt8}(hi:i≤l.length) :(l.take i).contains s=true↔∃k,k < i∧l.getD k []=s:=by
 rw[List.contains_iff_mem];constructor
 · intro h;obtain⟨k,hk,he⟩:=List.getElem_of_mem h;rw[List.length_take]at hk;refine⟨k,by omega,?_⟩;rw[g16 (by omega),←he,List.getElem_take]
 · rintro ⟨k,hk,he⟩
   rw[←he,g16 (by omega)];have:(l.take i)[k]'(by rw[List.length_take];omega)=l[k]:=List.getElem_take;rw[←this];exact List.getElem_mem _
def bef(l:List Int)(i:Nat) :Int:=if i=0 then 0 else l.getD (i - 1) 0
theorem gty {l : List Int} {names : List (List UInt8)} {i : Nat} (hi : i < l.length) (hn : names.length = l.length) :
   idp l names i=(decide (bef l i < l.getD i 0) && decide (1≤l.getD i 0) && decide (l.getD i 0≤1000) && nm (names.getD i []) && !((names.take i).contains (names.getD i []))):=by
 unfold idp bef;generalize l.getD i 0=x;generalize l.getD (i - 1) 0=y;generalize nm (names.getD i [])=a;generalize (names.take i).contains (names.getD i [])=b;by_cases h0:i=0
 · subst h0;by_cases h1:1≤x
   · have:decide ((0:Int) < x)=true:=by simp;omega
     simp[h1,this]
   · simp[h1]
 · simp only[h0,if_false,decide_false,Bool.false_or];by_cases h1:1≤x <;> by_cases h2:x≤1000 <;> by_cases h3:y < x <;> simp[h1,h2,h3]
theorem gn6(l:List SSymbol)(hl:l.length*24≤reachBytes) :∀(k i:Nat),i+k=l.length→g3u (l,l,(l.length:Int),(i:Int),(l.map (·.ID)).take i,(l.map (·.Name)).take i)=some (l,l.map (·.ID),l.map (·.Name))
 | 0,i,h=>by
   have:i=l.length:=by omega
   subst this;rw[g3u,if_neg (by simp)];rw[List.take_of_length_le (by simp),List.take_of_length_le (by simp)]
 | k+1,i,h=>by
   have hr:l.length < 9223372036854775807:=by unfold reachBytes at hl;omega
   have hi:i < l.length:=by omega
   rw[g3u,if_pos (by simp;omega),if_pos (g6 hi)];simp only[oZ4,oZ3,g7];rw[←g2c (·.ID) l i dSSymbol 0 hi,←g2c (·.Name) l i dSSymbol [] hi,g9v _ _ _ (by simpa using hi),g9v _ _ _ (by simpa using hi)];rw[if_pos (room8 (by omega) (by simp;omega)),if_pos (room8 (by omega) (by simp;omega)),g9 (by omega)];exact gn6 l hl k (i+1) (by omega)
theorem gtz{l:List SSymbol}(hl:l.length*24≤reachBytes) :∃r,g6l l=some r∧(r=true↔0 < l.length∧(∀i,i < l.length→idp (l.map (·.ID)) (l.map (·.Name)) i=true)∧l.length≤16):=by
 have h:=gn6 l hl l.length 0 (by omega);have h':g3u (l,l,(l.length:Int),0,[],[])=some (l,l.map (·.ID),l.map (·.Name)):=h;rw[g6l,h'];simp only[oZ4,oZ3];obtain⟨r,h1,h2⟩:=gy7 (l:=l.map (·.ID)) (names:=l.map (·.Name)) (by simp;unfold reachBytes at*;omega) (by simp);rw[List.length_map]at h2;rw[h1]
 refine⟨decide (0 < (l.length:Int)) && r,?_,?_⟩
 · cases decide (0 < (l.length:Int)) <;> rfl
 · rw[Bool.and_eq_true,h2,decide_eq_true_eq];constructor
   · rintro ⟨a,b⟩;exact⟨by omega,b⟩
   · rintro ⟨a,b⟩;exact⟨by omega,b⟩
theorem refId(a b:Int) :g7u (a,b)=some (decide (a < b) && decide (1≤b) && decide (b≤1000)):=by
 rw[g7u];cases decide (a < b) <;> cases decide (1≤b) <;> rfl
theorem gvw (l : List SSymbol) (hl : l.length ≤ reachBytes) (i : Nat) (hi : i < l.length) :
   g1p (l,(i:Int),0)=some (if((l.map (·.Name)).take i).contains ((l.map (·.Name)).getD i [])=true then .inl false else .inr (l,(i:Int))):=by
 have hr:=gz hl;have hsc:=scan (fun k=>g1p (l,(i:Int),(k:Int))) i (fun k=>!(decide ((l.getD k dSSymbol).Name=(l.getD i dSSymbol).Name))) (.inl false) (.inr (l,(i:Int)))
   (fun k hk=>by
     rw[g1p,if_pos (by simp;omega),if_pos (g6 (by omega)),if_pos (g6 hi),g9 (by omega)];simp only[g7];cases decide ((l.getD k dSSymbol).Name=(l.getD i dSSymbol).Name) <;> rfl)
   (by rw[g1p,if_neg (by simp)])
 have e0:g1p (l,(i:Int),((0:Nat):Int))=g1p (l,(i:Int),0):=rfl;simp only[e0]at hsc;rw[g2c (·.Name) l i dSSymbol [] hi];rcases hsc with⟨h1,h2⟩ | ⟨h1,j,h2,h3⟩
 · rw[h1,if_neg];rw[g4s (by simp;omega)]
   rintro ⟨k,hk,he⟩
   rw[g2c (·.Name) l k dSSymbol [] (by omega)]at he;have:=h2 k hk;rw[he]at this;simp at this
 · rw[h1,if_pos];rw[g4s (by simp;omega)];refine⟨j,h2,?_⟩;rw[g2c (·.Name) l j dSSymbol [] (by omega)]
   simpa using h3
theorem g10o{l:List SSymbol}(hl:l.length≤reachBytes) :∃r,g5i l=some r∧(r=true↔0 < l.length∧(∀i,i < l.length→idp (l.map (·.ID)) (l.map (·.Name)) i=true)∧l.length≤16):=by
 have hr:=gz hl;have hsc:=scan (fun i=>g28 (l,bef (l.map (·.ID)) i,(i:Int))) l.length (idp (l.map (·.ID)) (l.map (·.Name))) (.inl false) (.inr l)
   (fun i hi=>by
     rw[g28,if_pos (by simp;omega),if_pos (g6 hi),refId,gvw l hl i hi,gty (by simpa using hi) (by simp)];simp only[oZ4,oZ3,g7];rw[←g2c (·.ID) l i dSSymbol 0 hi,←g2c (·.Name) l i dSSymbol [] hi,refNm]
     generalize (decide (bef (l.map (·.ID)) i < (l.map (·.ID)).getD i 0) && decide (1≤(l.map (·.ID)).getD i 0) && decide ((l.map (·.ID)).getD i 0≤1000))=q;rw[if_pos (by rw[g6 hi];rfl)];cases q with
     | false=>rfl
     | true=>
       simp only[Bool.not_true,Bool.not_false,if_true,oZ3,Bool.true_and];cases nm ((l.map (·.Name)).getD i [])with
       | false=>rfl
       | true=>
         simp only[Bool.not_true,cond_false,Bool.false_eq_true,if_false,Bool.true_and];cases hc:((l.map (·.Name)).take i).contains ((l.map (·.Name)).getD i [])with
         | true=>simp
         | false=>
           simp only[Bool.false_eq_true,if_false,Bool.not_false,if_true];rw[if_pos (g6 hi),g9 (by omega)];have:bef (l.map (·.ID)) (i+1)=(l.getD i dSSymbol).ID:=by
             unfold bef;rw[if_neg (by omega)];exact g2c (·.ID) l i dSSymbol 0 hi
           rw[this];rfl)
   (by rw[g28,if_neg (by simp)])
 have e0:g28 (l,bef (l.map (·.ID)) 0,((0:Nat):Int))=g28 (l,0,0):=rfl;simp only[e0]at hsc;rw[g5i];rcases hsc with⟨h1,h2⟩ | ⟨h1,j,h2,h3⟩
 · rw[h1];refine⟨_,rfl,?_⟩;simp only[Bool.cond_eq_ite];constructor
   · intro h;split at h
     · rename_i h4;simp at h h4;exact⟨by omega,h2,by omega⟩
     · cases h
   · rintro ⟨a,_,b⟩
     rw[if_pos (by simp;omega)];simp;omega
 · rw[h1];refine⟨false,rfl,?_⟩;constructor
   · intro h;cases h
   · rintro ⟨_,h,_⟩
     have:=h j h2;rw[h3]at this;cases this
theorem gy8{l:List SSymbol}(hl:l.length*24≤reachBytes) :∃r,g6l l=some r∧g5i l=some r:=by
 obtain⟨r,h1,h2⟩:=gtz hl;obtain⟨q,h3,h4⟩:=g10o (l:=l) (by unfold reachBytes at*;omega);have:r=q:=Bool.eq_iff_iff.2 (h2.trans h4.symm);exact⟨r,h1,by rw[this];exact h3⟩
end
section
open Go Go.Proofs.YthnmepafpikaiaaGreat.Shv
set_option maxRecDepth 100000
structure OkT (t:SType):Prop where
 syms:t.Symbols.length*24≤reachBytes
 mems:t.Members.length*24≤reachBytes
 dv:∀m,m∈t.Members→OkV m.Default
theorem g3c{n:Nat}(h:n*24≤reachBytes) :n≤reachBytes:=by unfold reachBytes at*;omega
theorem gvx{a b:SMember} :a=b↔a.ID=b.ID∧a.Name=b.Name∧a.Type_=b.Type_∧a.Critical=b.Critical∧a.HasDefault=b.HasDefault∧a.Default=b.Default:=by
 cases a;cases b;simp
theorem g5r(x:SMember) :(⟨x.ID,x.Name,x.Type_,x.Critical,x.HasDefault,SValue.eta x.Default⟩:SMember)=x:=by cases x;simp[SValue.g13]
theorem fiveM{a b:SMember} :(bif bif bif bif decide (a.ID=b.ID)then decide (a.Name=b.Name)else false then decide (a.Type_=b.Type_)else false then eqB a.Critical b.Critical else false then eqB a.HasDefault b.HasDefault else false)=true↔a.ID=b.ID∧a.Name=b.Name∧a.Type_=b.Type_∧a.Critical=b.Critical∧a.HasDefault=b.HasDefault:=by
 simp only[Bool.cond_eq_ite,eqB];by_cases h1:a.ID=b.ID <;> by_cases h2:a.Name=b.Name <;> by_cases h3:a.Type_=b.Type_ <;> by_cases h4:a.Critical=b.Critical <;> simp[h1,h2,h3,h4]
theorem twoM {a b : SMember} {q : Bool} (hq : q = true ↔ a.ID = b.ID ∧ a.Name = b.Name ∧ a.Type_ = b.Type_ ∧ a.Critical = b.Critical ∧ a.HasDefault = b.HasDefault) {x : Option Bool} (hx : Says x a.Default b.Default) :
   Says (some q >>=fun t37=>(if t37=true then x else some false) >>=fun r=>some (bif t37 then r else false)) a b:=by
 obtain⟨rx,h1,h2⟩:=hx;subst h1;refine⟨q && rx,by cases q <;> cases rx <;> rfl,?_⟩;rw[gvx,Bool.and_eq_true,hq,h2];constructor
 · rintro ⟨⟨a1,a2,a3,a4,a5⟩,a6⟩;exact⟨a1,a2,a3,a4,a5,a6⟩
 · rintro ⟨a1,a2,a3,a4,a5,a6⟩;exact⟨⟨a1,a2,a3,a4,a5⟩,a6⟩
theorem gy9{a:SMember}(h:OkV a.Default)(b:SMember) :Says (g7p (a,b)) a b:=by
 rw[g7p];simp only[gem,SValue.g13];exact twoM fiveM (gcn h _)
theorem gya{a:SMember}(h:OkV a.Default)(b:SMember) :Says (g4q (a,b)) a b:=by
 rw[g4q];simp only[gem];exact twoM fiveM (go2 h _)
theorem gkr {f : SMember × SMember → Option Bool} {γ : Type} {g : γ} {a b : List SMember} (hl : a.length = b.length) (ih : ∀ x, x ∈ a → ∀ y, Says (f (x, y)) x y) (L : Nat → Option (Bool ⊕ γ))
   (hstep:∀i,i < a.length→L i=(f (a.getD i dSMember,b.getD i dSMember) >>=fun r=>if(!r)=true then some (.inl false)else L (i+1)))
   (hend:L a.length=some (.inr g)):(L 0=some (.inr g)∧a=b)∨(L 0=some (.inl false)∧a≠b):=by
 have hget:∀(i:Nat) (h1:i < a.length) (h2:i < b.length),Says (f (a.getD i dSMember,b.getD i dSMember)) a[i] b[i]:=by
   intro i h1 h2;rw[g16 h1,g16 h2];exact ih _ (List.getElem_mem h1) _
 have hp:∀(i:Nat) (h1:i < a.length) (h2:i < b.length),(f (a.getD i dSMember,b.getD i dSMember)).getD false=true↔a[i]=b[i]:=by
   intro i h1 h2;obtain⟨r,h3,h4⟩:=hget i h1 h2;rw[h3];exact h4
 have:=scan L a.length (fun i=>(f (a.getD i dSMember,b.getD i dSMember)).getD false) (.inl false) (.inr g)
   (fun i hi=>by
     obtain⟨r,h1,h2⟩:=hget i hi (by omega);rw[hstep i hi,h1];cases r <;> rfl) hend
 rcases this with⟨h1,h2⟩ | ⟨h1,j,h2,h3⟩
 · exact .inl ⟨h1,(g6j hl hp).1 h2⟩
 · refine .inr ⟨h1,fun e=>?_⟩;have:=(g6j hl hp).2 e j h2;rw[h3]at this;cases this
theorem grm{a b:List SMember}(ha:a.length≤reachBytes)(hd:∀m,m∈a→OkV m.Default) :Says (g1d (a,b)) a b:=by
 rw[g1d];by_cases hl:a.length=b.length
 · rw[if_neg (by simp;omega)];have hr:=gz ha;have hs:=gkr (g:=()) hl (f:=g7p) (fun x hx y=>gy9 (hd x hx) y) (fun i=>gi (b,a,(a.length:Int),(i:Int)))
     (fun i hi=>by
       rw[gi,if_pos (by simp;omega),if_pos (g6 hi)];simp only[oZ4,oZ3,g7,g5r];rw[if_pos (g6 (by omega)),g9 (by omega)])
     (by rw[gi,if_neg (by simp)])
   have e0:gi (b,a,(a.length:Int),((0:Nat):Int))=gi (b,a,(a.length:Int),0):=rfl;simp only[e0]at hs;rcases hs with⟨h1,h2⟩ | ⟨h1,h2⟩
   · rw[h1];exact⟨true,rfl,by simp[h2]⟩
   · rw[h1];exact⟨false,rfl,by simp[h2]⟩
 · rw[if_pos (by simp;omega)];exact gb0 hl
theorem ghg{a b:SType} :a=b↔a.Kind=b.Kind∧a.Name=b.Name∧a.Low=b.Low∧a.High=b.High∧a.Max=b.Max∧a.Key=b.Key∧a.Elem=b.Elem∧a.Open=b.Open∧a.Symbols=b.Symbols∧a.Members=b.Members:=by
 cases a;cases b;simp only[SType.mk.injEq];constructor
 · rintro ⟨h1,h2,h3,h4,h5,h6,h7,h8,h9,h10⟩;exact⟨h1,h2,h3,h4,h5,h8,h9,h10,h6,h7⟩
 · rintro ⟨h1,h2,h3,h4,h5,h6,h7,h8,h9,h10⟩;exact⟨h1,h2,h3,h4,h5,h9,h10,h6,h7,h8⟩
theorem g139 {a b : SType} : (bif bif bif bif bif bif bif decide (a.Kind = b.Kind) then decide (a.Name = b.Name) else false then decide (a.Low = b.Low) else false then decide (a.High = b.High) else false then decide (a.Max = b.Max) else false then decide (a.Key = b.Key) else false then decide (a.Elem = b.Elem) else false then eqB a.Open b.Open else false) = true ↔
   a.Kind=b.Kind∧a.Name=b.Name∧a.Low=b.Low∧a.High=b.High∧a.Max=b.Max∧a.Key=b.Key∧a.Elem=b.Elem∧a.Open=b.Open:=by
 simp only[Bool.cond_eq_ite,eqB];by_cases h1:a.Kind=b.Kind <;> by_cases h2:a.Name=b.Name <;> by_cases h3:a.Low=b.Low <;> by_cases h4:a.High=b.High <;> simp[h1,h2,h3,h4]
 by_cases h5:a.Max=b.Max <;> by_cases h6:a.Key=b.Key <;> by_cases h7:a.Elem=b.Elem <;> simp[h5,h6,h7]
theorem g4l{a:SType}(h:OkT a)(b:SType) :Says (g1o (a,b)) a b:=by
 rw[g1o];obtain⟨rs,s1,s2⟩:=g138 (a:=a.Symbols) (b:=b.Symbols) (g3c h.syms);obtain⟨rm,m1,m2⟩:=grm (a:=a.Members) (b:=b.Members) (g3c h.mems) h.dv;have e8:=g139 (a:=a) (b:=b)
 generalize (bif bif bif bif bif bif bif decide (a.Kind=b.Kind)then decide (a.Name=b.Name)else false then decide (a.Low=b.Low)else false then decide (a.High=b.High)else false then decide (a.Max=b.Max)else false then decide (a.Key=b.Key)else false then decide (a.Elem=b.Elem)else false then eqB a.Open b.Open else false)=q at e8 ⊢
 simp only[oZ4,oZ3];rw[s1,m1];refine⟨q && rs && rm,by cases q <;> cases rs <;> cases rm <;> rfl,?_⟩;rw[ghg,Bool.and_eq_true,Bool.and_eq_true,e8,s2,m2];constructor
 · rintro ⟨⟨⟨a1,a2,a3,a4,a5,a6,a7,a8⟩,a9⟩,a10⟩;exact⟨a1,a2,a3,a4,a5,a6,a7,a8,a9,a10⟩
 · rintro ⟨a1,a2,a3,a4,a5,a6,a7,a8,a9,a10⟩;exact⟨⟨⟨a1,a2,a3,a4,a5,a6,a7,a8⟩,a9⟩,a10⟩
theorem ghh(a:SType) :(⟨a.Kind,a.Name,a.Low,a.High,a.Max,a.Symbols,a.Members,a.Key,a.Elem,a.Open⟩:SType)=a:=by cases a;rfl
theorem g96{a:SType}(h:OkT a)(b:SType) :Says (g6f (a,b)) a b:=by
 rw[g6f];simp only[ghh];by_cases h5:(a.Kind=b.Kind∧a.Name=b.Name∧a.Low=b.Low∧a.High=b.High∧a.Max=b.Max∧a.Key=b.Key∧a.Elem=b.Elem∧a.Open=b.Open)∧a.Symbols.length=b.Symbols.length∧a.Members.length=b.Members.length
 · obtain⟨⟨e1,e2,e3,e4,e5,e6,e7,e8⟩,e9,e10⟩:=h5;rw[if_neg (by simp[e1,e2,e3,e4,e5,e6,e7,e8,e9,e10,eqB])];have hr:=gz (g3c h.syms);have hr2:=gz (g3c h.mems)
   have hsc:=scan (fun i=>g26 ((i:Int),a,b)) a.Symbols.length (fun i=>eqI (a.Symbols.getD i dSSymbol).ID (b.Symbols.getD i dSSymbol).ID && (eqS (a.Symbols.getD i dSSymbol).Name (b.Symbols.getD i dSSymbol).Name && true)) (.inl false) (.inr (a,b))
     (fun i hi'=>by
       rw[g26,if_pos (by simp;omega),if_pos (g6 hi')];simp only[oZ4,oZ3,g7];rw[if_pos (g6 (by omega)),g9 (by omega)];generalize (eqI (a.Symbols.getD i dSSymbol).ID (b.Symbols.getD i dSSymbol).ID && (eqS (a.Symbols.getD i dSSymbol).Name (b.Symbols.getD i dSSymbol).Name && true))=c;cases c <;> rfl)
     (by rw[g26,if_neg (by simp)])
   have h0:g26 (((0:Nat):Int),a,b)=g26 (0,a,b):=rfl;simp only[h0]at hsc;have hp:∀(i:Nat) (h1:i < a.Symbols.length) (h2:i < b.Symbols.length),(eqI (a.Symbols.getD i dSSymbol).ID (b.Symbols.getD i dSSymbol).ID && (eqS (a.Symbols.getD i dSSymbol).Name (b.Symbols.getD i dSSymbol).Name && true))=true↔a.Symbols[i]=b.Symbols[i]:=fun i h1 h2=>by
     rw[g16 h1,g16 h2];exact gy5
   rcases hsc with⟨g1,g2⟩ | ⟨g1,j,g2,g3⟩
   · have hsy:=(g6j e9 hp).1 g2;rw[g1];simp only[oZ4,oZ3];have hs:=gkr (g:=()) e10 (f:=g4q) (fun x hx y=>gya (h.dv x hx) y) (fun i=>g27 ((i:Int),a,b))
       (fun i hi=>by
         rw[g27,if_pos (by simp;omega),if_pos (g6 hi)];simp only[oZ4,oZ3,g7,g5r];rw[if_pos (g6 (by omega)),g9 (by omega)])
       (by rw[g27,if_neg (by simp)])
     have e0:g27 (((0:Nat):Int),a,b)=g27 (0,a,b):=rfl;simp only[e0]at hs;rcases hs with⟨k1,k2⟩ | ⟨k1,k2⟩
     · rw[k1];refine⟨true,rfl,?_⟩;rw[ghg];simp[e1,e2,e3,e4,e5,e6,e7,e8,hsy,k2]
     · rw[k1];refine⟨false,rfl,?_⟩;rw[ghg];simp[k2]
   · rw[g1];refine⟨false,rfl,?_⟩;constructor
     · intro h;cases h
     · intro h;have:=(g6j e9 hp).2 (ghg.1 h).2.2.2.2.2.2.2.2.1 j g2;rw[g3]at this;cases this
 · rw[if_pos]
   · refine⟨false,rfl,?_⟩;constructor
     · intro h;cases h
     · intro h
       exfalso;apply h5
       subst h;simp
   · simp only[Bool.cond_eq_ite,eqB];by_cases q1:a.Kind=b.Kind <;> by_cases q2:a.Name=b.Name <;> by_cases q3:a.Low=b.Low <;> by_cases q4:a.High=b.High <;> simp[q1,q2,q3,q4]
     by_cases q5:a.Max=b.Max <;> by_cases q6:a.Key=b.Key <;> by_cases q7:a.Elem=b.Elem <;> by_cases q8:a.Open=b.Open <;> simp[q5,q6,q7,q8]
     by_cases q9:a.Symbols.length=b.Symbols.length
     · by_cases q10:a.Members.length=b.Members.length
       · exact absurd ⟨⟨q1,q2,q3,q4,q5,q6,q7,q8⟩,q9,q10⟩ h5
       · right;omega
     · left;omega
end
section
open Go Go.Proofs.YthnmepafpikaiaaGreat.Shv
set_option maxRecDepth 100000
def g9h(v:SValue) :Bool:=(g49 (v,dSValue)).getD false
theorem g10p{v:SValue}(h:OkV v) :g49 (v,dSValue)=some (g9h v):=by
 obtain⟨r,h1,h2⟩:=gcn h dSValue;unfold g9h;rw[h1];rfl
theorem g10q{v:SValue}(h:OkV v) :g14 (v,dSValue)=some (g9h v):=by
 obtain⟨r,h1,h2⟩:=gcn h dSValue;obtain⟨q,h3,h4⟩:=go2 h dSValue;unfold g9h;rw[h1,h3];have:q=r:=Bool.eq_iff_iff.2 (h4.trans h2.symm);rw[this];rfl
theorem gzt{v:SValue}(h:OkV v) :gaa v=some (g9h v):=by
 rw[gaa,SValue.g13];have:=g10p h;unfold dSValue at this;rw[this];rfl
def badM(union:Bool)(m:SMember) :Bool:=(union && (m.Critical || m.HasDefault)) || (m.Critical && m.HasDefault) || (!m.HasDefault && !g9h m.Default)
theorem gh{α:Type}{l:List α}{i:Nat}(h:i < l.length)(d:α) :l.getD i d∈l:=by
 rw[g16 h];exact List.getElem_mem h
theorem gn7{t:SType}(h:OkT t) :∃r,g5n t=some r∧(r=true↔(∀i,i < t.Members.length→badM (decide (t.Kind=6)) (t.Members.getD i dSMember)=false)∧(t.Kind=5∨0 < t.Members.length)∧(∀i,i < t.Members.length→idp (t.Members.map (·.ID)) (t.Members.map (·.Name)) i=true)∧t.Members.length≤16):=by
 have hr:t.Members.length < 9223372036854775807:=gz (g3c h.mems);have hsc:=scan (fun i=>g3f (t.Members,(t.Members.length:Int),(i:Int),t,(t.Members.map (·.ID)).take i,(t.Members.map (·.Name)).take i)) t.Members.length (fun i=>!(badM (decide (t.Kind=6)) (t.Members.getD i dSMember))) (.inl false) (.inr (t,t.Members.map (·.ID),t.Members.map (·.Name)))
   (fun i hi=>by
     have hz:=gzt (h.dv _ (gh hi dSMember));rw[g3f,if_pos (by simp;omega),if_pos (g6 hi)];simp only[oZ4,oZ3,g7,SValue.g13];rw[←g2c (·.ID) t.Members i dSMember 0 hi,←g2c (·.Name) t.Members i dSMember [] hi,g9v _ _ _ (by simpa using hi),g9v _ _ _ (by simpa using hi)];have hb:((t.Members.map (·.ID)).take (i+1)).length*24≤reachBytes:=by
       refine Nat.le_trans (Nat.mul_le_mul_right _ ?_) h.mems;simp;omega
     have hb2:((t.Members.map (·.Name)).take (i+1)).length*24≤reachBytes:=by
       refine Nat.le_trans (Nat.mul_le_mul_right _ ?_) h.mems;simp;omega
     rw[if_pos (room8 (by omega) hb),if_pos (room8 (by omega) hb2),g9 (by omega),hz];unfold badM;cases decide (t.Kind=6) <;> cases (t.Members.getD i dSMember).Critical <;> cases (t.Members.getD i dSMember).HasDefault <;> cases g9h (t.Members.getD i dSMember).Default <;> rfl)
   (by
     rw[g3f,if_neg (by simp)];rw[List.take_of_length_le (by simp),List.take_of_length_le (by simp)])
 have e0:g3f (t.Members,(t.Members.length:Int),((0:Nat):Int),t,(t.Members.map (·.ID)).take 0,(t.Members.map (·.Name)).take 0)=g3f (t.Members,(t.Members.length:Int),0,t,[],[]):=rfl;simp only[e0]at hsc;rw[g5n];obtain⟨r,h1,h2⟩:=gy7 (l:=t.Members.map (·.ID)) (names:=t.Members.map (·.Name)) (by simpa using g3c h.mems) (by simp);rw[List.length_map]at h2
 rcases hsc with⟨g1,g2⟩ | ⟨g1,j,g2,g3⟩
 · rw[g1];simp only[oZ4,oZ3];rw[h1];refine⟨(bif decide (t.Kind=5)then true else decide (0 < ((t.Members.map (·.ID)).length:Int))) && r,?_,?_⟩
   · cases (bif decide (t.Kind=5)then true else decide (0 < ((t.Members.map (·.ID)).length:Int))) <;> rfl
   · rw[Bool.and_eq_true,h2];have e5:(bif decide (t.Kind=5)then true else decide (0 < ((t.Members.map (·.ID)).length:Int)))=true↔(t.Kind=5∨0 < t.Members.length):=by
       by_cases h5:t.Kind=5 <;> simp[h5]
     rw[e5];constructor
     · rintro ⟨a,b,c⟩
       exact⟨fun i hi=>by simpa using g2 i hi,a,b,c⟩
     · rintro ⟨_,a,b,c⟩;exact⟨a,b,c⟩
 · rw[g1];refine⟨false,rfl,?_⟩;constructor
   · intro h;cases h
   · rintro ⟨a,_⟩
     have h5:=a j g2;have g3':(!(badM (decide (t.Kind=6)) (t.Members.getD j dSMember)))=false:=g3;rw[h5]at g3';cases g3'
theorem gvy (l : List SMember) (record : Bool) (hl : l.length ≤ reachBytes) (i : Nat) (hi : i < l.length) :
   g1q (l,record,(i:Int),0,l.getD i dSMember)=some (if((l.map (·.Name)).take i).contains ((l.map (·.Name)).getD i [])=true then .inl false else .inr (l,record,(i:Int),l.getD i dSMember)):=by
 have hr:=gz hl;have hsc:=scan (fun k=>g1q (l,record,(i:Int),(k:Int),l.getD i dSMember)) i (fun k=>!(decide ((l.getD k dSMember).Name=(l.getD i dSMember).Name))) (.inl false) (.inr (l,record,(i:Int),l.getD i dSMember))
   (fun k hk=>by
     rw[g1q,if_pos (by simp;omega),if_pos (g6 (by omega)),g9 (by omega)];simp only[g7,g5r];cases decide ((l.getD k dSMember).Name=(l.getD i dSMember).Name) <;> rfl)
   (by rw[g1q,if_neg (by simp),g5r])
 have e0:g1q (l,record,(i:Int),((0:Nat):Int),l.getD i dSMember)=g1q (l,record,(i:Int),0,l.getD i dSMember):=rfl;simp only[e0]at hsc;rw[g2c (·.Name) l i dSMember [] hi];rcases hsc with⟨h1,h2⟩ | ⟨h1,j,h2,h3⟩
 · rw[h1,if_neg];rw[g4s (by simp;omega)]
   rintro ⟨k,hk,he⟩
   rw[g2c (·.Name) l k dSMember [] (by omega)]at he;have:=h2 k hk;rw[he]at this;simp at this
 · rw[h1,if_pos];rw[g4s (by simp;omega)];refine⟨j,h2,?_⟩;rw[g2c (·.Name) l j dSMember [] (by omega)]
   simpa using h3
theorem gvz{l:List SMember}{record:Bool}(hl:l.length≤reachBytes)(hd:∀m,m∈l→OkV m.Default) :∃r,g4k (l,record)=some r∧(r=true↔(∀i,i < l.length→badM (!record) (l.getD i dSMember)=false)∧(record=true∨0 < l.length)∧(∀i,i < l.length→idp (l.map (·.ID)) (l.map (·.Name)) i=true)∧l.length≤16):=by
 have hr:=gz hl;have hsc:=scan (fun i=>g29 (l,record,bef (l.map (·.ID)) i,(i:Int))) l.length (fun i=>idp (l.map (·.ID)) (l.map (·.Name)) i && !(badM (!record) (l.getD i dSMember))) (.inl false) (.inr (l,record))
   (fun i hi=>by
     have hz:=g10q (hd _ (gh hi dSMember));unfold dSValue at hz;rw[g29,if_pos (by simp;omega),if_pos (g6 hi)];simp only[oZ4,oZ3,g7,SValue.g13,g5r,gty (l:=l.map (·.ID)) (names:=l.map (·.Name)) (i:=i) (by simpa using hi) (by simp)];rw[gvy l record hl i hi,hz];have hbef:bef (l.map (·.ID)) (i+1)=(l.getD i dSMember).ID:=by
       unfold bef;rw[if_neg (by omega)];exact g2c (·.ID) l i dSMember 0 hi
     rw[←g2c (·.ID) l i dSMember 0 hi,←g2c (·.Name) l i dSMember [] hi,refId,refNm];simp only[oZ3];generalize (decide (bef (l.map (·.ID)) i < (l.map (·.ID)).getD i 0) && decide (1≤(l.map (·.ID)).getD i 0) && decide ((l.map (·.ID)).getD i 0≤1000))=q;cases q with
     | false=>simp
     | true=>
       simp only[Bool.not_true,Bool.not_false,if_true,oZ3,Bool.true_and];cases nm ((l.map (·.Name)).getD i [])with
       | false=>simp
       | true=>
         simp only[Bool.not_true,Bool.true_and,Bool.or_false,cond_false];unfold badM;cases record <;> cases (l.getD i dSMember).Critical <;> cases (l.getD i dSMember).HasDefault <;> cases g9h (l.getD i dSMember).Default <;>
           simp only[Bool.not_true,Bool.not_false,Bool.or_self,Bool.and_self,Bool.or_true,Bool.true_or,Bool.and_true,Bool.and_false,Bool.false_and,Bool.true_and,Bool.false_or,Bool.or_false,cond_true,cond_false,if_true,if_false,Bool.false_eq_true,oZ3] <;>
           first
             | rfl
             | (cases hc:((l.map (·.Name)).take i).contains ((l.map (·.Name)).getD i [])with
               | true=>simp
               | false=>
                 simp only[Bool.false_eq_true,if_false,Bool.not_false,if_true];rw[g9 (by omega),hbef]
                 try rfl))
   (by rw[g29,if_neg (by simp)])
 have e0:g29 (l,record,bef (l.map (·.ID)) 0,((0:Nat):Int))=g29 (l,record,0,0):=rfl;simp only[e0]at hsc;rw[g4k];rcases hsc with⟨h1,h2⟩ | ⟨h1,j,h2,h3⟩
 · rw[h1];refine⟨_,rfl,?_⟩;have h2':∀i,i < l.length→idp (l.map (·.ID)) (l.map (·.Name)) i=true∧badM (!record) (l.getD i dSMember)=false:=fun i hi=>by
     have:=h2 i hi
     simpa using this
   simp only[Bool.cond_eq_ite];constructor
   · intro h;split at h
     · rename_i h4;refine⟨fun i hi=>(h2' i hi).2,?_,fun i hi=>(h2' i hi).1,by simp at h4;omega⟩;cases record with
       | true=>exact .inl rfl
       | false=>right;simp at h;omega
     · cases h
   · rintro ⟨_,a,_,b⟩
     rw[if_pos (by simp;omega)];cases record with
     | true=>rfl
     | false=>simp at a ⊢;omega
 · rw[h1];refine⟨false,rfl,?_⟩;constructor
   · intro h;cases h
   · rintro ⟨a,_,b,_⟩
     have h5:=b j h2;have h6:=a j h2;rw[h5,h6]at h3;cases h3
theorem gp0{t:SType}(h:OkT t)(hk:t.Kind=5∨t.Kind=6) :∃r,g5n t=some r∧g4k (t.Members,decide (t.Kind=5))=some r:=by
 obtain⟨r,h1,h2⟩:=gn7 h;obtain⟨q,h3,h4⟩:=gvz (l:=t.Members) (record:=decide (t.Kind=5)) (g3c h.mems) h.dv;have hu:(!(decide (t.Kind=5)))=decide (t.Kind=6):=by
   rcases hk with e | e <;> rw[e] <;> rfl
 rw[hu]at h4;have e5:decide (t.Kind=5)=true↔t.Kind=5:=decide_eq_true_iff;rw[e5]at h4;have:r=q:=Bool.eq_iff_iff.2 (h2.trans h4.symm);exact⟨r,h1,by rw[this];exact h3⟩
end
section
open Go Go.Proofs.YthnmepafpikaiaaGreat.Shv
set_option maxRecDepth 100000
theorem OkT.plain{k l h m kk e:Int}{n:List UInt8}{S:List SSymbol}{Ms:List SMember}{o:Bool}(hS:S.length*24≤reachBytes)(hM:Ms.length*24≤reachBytes)(hd:∀x,x∈Ms→OkV x.Default) :OkT ⟨k,n,l,h,m,S,Ms,kk,e,o⟩:=⟨hS,hM,hd⟩
theorem form1{N:List UInt8}{L H M K E:Int}{S:List SSymbol}{Ms:List SMember}{O:Bool}(h:OkT (⟨1,N,L,H,M,S,Ms,K,E,O⟩:SType)) :∃r,g1c (⟨1,N,L,H,M,S,Ms,K,E,O⟩:SType)=some r∧g11 (⟨1,N,L,H,M,S,Ms,K,E,O⟩:SType)=some r∧(r=true→N=[]):=by
 obtain⟨a,a1,a2⟩:=g4l (a:=(⟨0,N,L,H,M,S,Ms,K,E,O⟩:SType)) ⟨h.syms,h.mems,h.dv⟩ (⟨0,[],0,0,0,[],[],0,0,false⟩:SType);obtain⟨b,b1,b2⟩:=g96 h (⟨1,[],0,0,0,[],[],0,0,false⟩:SType);have hab:a=b:=by
   refine Bool.eq_iff_iff.2 (a2.trans (Iff.trans ?_ b2.symm));simp only[SType.mk.injEq]
   try (simp)
 subst hab;refine⟨a,by simp[g1c,a1],by simp[g11,g2l,g1l,b1];try (cases a <;> rfl),fun hr=>?_⟩;have:=b2.1 hr;simp only[SType.mk.injEq]at this;exact this.2.1
theorem form2{N:List UInt8}{L H M K E:Int}{S:List SSymbol}{Ms:List SMember}{O:Bool}(h:OkT (⟨2,N,L,H,M,S,Ms,K,E,O⟩:SType)) :∃r,g1c (⟨2,N,L,H,M,S,Ms,K,E,O⟩:SType)=some r∧g11 (⟨2,N,L,H,M,S,Ms,K,E,O⟩:SType)=some r∧(r=true→N=[]):=by
 obtain⟨a,a1,a2⟩:=g4l (a:=(⟨0,N,0,0,M,S,Ms,K,E,O⟩:SType)) ⟨h.syms,h.mems,h.dv⟩ (⟨0,[],0,0,0,[],[],0,0,false⟩:SType);obtain⟨b,b1,b2⟩:=g96 h (⟨2,[],L,H,0,[],[],0,0,false⟩:SType);have hab:a=b:=by
   refine Bool.eq_iff_iff.2 (a2.trans (Iff.trans ?_ b2.symm));simp only[SType.mk.injEq]
   try (simp)
 subst hab;refine⟨decide (L≤H) && a,?_,?_,fun hr=>?_⟩
 · simp only[g1c];generalize decide (L≤H)=q;simp[a1]
   try (cases q <;> rfl)
 · simp only[g11];generalize decide (L≤H)=q;simp[g2l,g1l,b1]
   try (cases a <;> cases q <;> rfl)
 · rw[Bool.and_eq_true]at hr;have:=b2.1 hr.2;simp only[SType.mk.injEq]at this;exact this.2.1
theorem form3{N:List UInt8}{L H M K E:Int}{S:List SSymbol}{Ms:List SMember}{O:Bool}(h:OkT (⟨3,N,L,H,M,S,Ms,K,E,O⟩:SType)) :∃r,g1c (⟨3,N,L,H,M,S,Ms,K,E,O⟩:SType)=some r∧g11 (⟨3,N,L,H,M,S,Ms,K,E,O⟩:SType)=some r∧(r=true→N=[]):=by
 obtain⟨a,a1,a2⟩:=g4l (a:=(⟨0,N,L,H,0,S,Ms,K,E,O⟩:SType)) ⟨h.syms,h.mems,h.dv⟩ (⟨0,[],0,0,0,[],[],0,0,false⟩:SType);obtain⟨b,b1,b2⟩:=g96 h (⟨3,[],0,0,M,[],[],0,0,false⟩:SType);have hab:a=b:=by
   refine Bool.eq_iff_iff.2 (a2.trans (Iff.trans ?_ b2.symm));simp only[SType.mk.injEq]
   try (simp)
 subst hab;refine⟨(bif decide (0≤M)then decide (M≤200)else false) && a,?_,?_,fun hr=>?_⟩
 · simp only[g1c];generalize (bif decide (0≤M)then decide (M≤200)else false)=q;simp[a1]
   try (cases q <;> rfl)
 · simp only[g11];generalize (bif decide (0≤M)then decide (M≤200)else false)=q;simp[g2l,g1l,b1]
   try (cases a <;> cases q <;> rfl)
 · rw[Bool.and_eq_true]at hr;have:=b2.1 hr.2;simp only[SType.mk.injEq]at this;exact this.2.1
theorem form4{N:List UInt8}{L H M K E:Int}{S:List SSymbol}{Ms:List SMember}{O:Bool}(h:OkT (⟨4,N,L,H,M,S,Ms,K,E,O⟩:SType)) :∃r,g1c (⟨4,N,L,H,M,S,Ms,K,E,O⟩:SType)=some r∧g11 (⟨4,N,L,H,M,S,Ms,K,E,O⟩:SType)=some r∧(r=true→N≠[]):=by
 obtain⟨a,a1,a2⟩:=g4l (a:=(⟨0,[],L,H,M,[],Ms,K,E,false⟩:SType)) ⟨(by simp),h.mems,h.dv⟩ (⟨0,[],0,0,0,[],[],0,0,false⟩:SType);obtain⟨b,b1,b2⟩:=g96 h (⟨4,N,0,0,0,S,[],0,0,O⟩:SType);have hab:a=b:=by
   refine Bool.eq_iff_iff.2 (a2.trans (Iff.trans ?_ b2.symm));simp only[SType.mk.injEq]
   try (cases O <;> simp)
 subst hab;obtain⟨q,q1,q2⟩:=gy8 (l:=S) h.syms;refine⟨nm N && q && a,?_,?_,fun hr=>?_⟩
 · simp only[g1c];simp[a1,q1,lexNm]
   try (cases nm N <;> cases q <;> rfl)
 · simp only[g11]
   try simp at q2
   simp[g2l,g1l,b1,q2,refNm]
   try (cases a <;> cases nm N <;> cases q <;> rfl)
 · simp only[Bool.and_eq_true]at hr;exact nm_ne hr.1.1
theorem form5{N:List UInt8}{L H M K E:Int}{S:List SSymbol}{Ms:List SMember}{O:Bool}(h:OkT (⟨5,N,L,H,M,S,Ms,K,E,O⟩:SType)) :∃r,g1c (⟨5,N,L,H,M,S,Ms,K,E,O⟩:SType)=some r∧g11 (⟨5,N,L,H,M,S,Ms,K,E,O⟩:SType)=some r∧(r=true→N≠[]):=by
 obtain⟨a,a1,a2⟩:=g4l (a:=(⟨0,[],L,H,M,S,[],K,E,(bif O then decide ((5:Int)=5)else false)⟩:SType)) ⟨h.syms,(by simp),(by simp)⟩ (⟨0,[],0,0,0,[],[],0,0,false⟩:SType);obtain⟨b,b1,b2⟩:=g96 h (⟨5,N,0,0,0,[],Ms,0,0,false⟩:SType);have hab:a=b:=by
   refine Bool.eq_iff_iff.2 (a2.trans (Iff.trans ?_ b2.symm));simp only[SType.mk.injEq]
   try (cases O <;> simp)
 subst hab;obtain⟨q,q1,q2⟩:=gp0 h (by simp);refine⟨nm N && q && a,?_,?_,fun hr=>?_⟩
 · simp only[g1c]
   try simp at a1
   try simp at q1
   simp[a1,q1,lexNm]
   try (cases nm N <;> cases q <;> rfl)
 · simp only[g11]
   try simp at q2
   simp[g2l,g1l,b1,q2,refNm]
   try (cases a <;> cases nm N <;> cases q <;> rfl)
 · simp only[Bool.and_eq_true]at hr;exact nm_ne hr.1.1
theorem form6{N:List UInt8}{L H M K E:Int}{S:List SSymbol}{Ms:List SMember}{O:Bool}(h:OkT (⟨6,N,L,H,M,S,Ms,K,E,O⟩:SType)) :∃r,g1c (⟨6,N,L,H,M,S,Ms,K,E,O⟩:SType)=some r∧g11 (⟨6,N,L,H,M,S,Ms,K,E,O⟩:SType)=some r∧(r=true→N≠[]):=by
 obtain⟨a,a1,a2⟩:=g4l (a:=(⟨0,[],L,H,M,S,[],K,E,(bif O then decide ((6:Int)=5)else false)⟩:SType)) ⟨h.syms,(by simp),(by simp)⟩ (⟨0,[],0,0,0,[],[],0,0,false⟩:SType);obtain⟨b,b1,b2⟩:=g96 h (⟨6,N,0,0,0,[],Ms,0,0,O⟩:SType);have hab:a=b:=by
   refine Bool.eq_iff_iff.2 (a2.trans (Iff.trans ?_ b2.symm));simp only[SType.mk.injEq]
   try (cases O <;> simp)
 subst hab;obtain⟨q,q1,q2⟩:=gp0 h (by simp);refine⟨nm N && q && a,?_,?_,fun hr=>?_⟩
 · simp only[g1c]
   try simp at a1
   try simp at q1
   simp[a1,q1,lexNm]
   try (cases nm N <;> cases q <;> rfl)
 · simp only[g11]
   try simp at q2
   simp[g2l,g1l,b1,q2,refNm]
   try (cases a <;> cases nm N <;> cases q <;> rfl)
 · simp only[Bool.and_eq_true]at hr;exact nm_ne hr.1.1
theorem form7{N:List UInt8}{L H M K E:Int}{S:List SSymbol}{Ms:List SMember}{O:Bool}(h:OkT (⟨7,N,L,H,M,S,Ms,K,E,O⟩:SType)) :∃r,g1c (⟨7,N,L,H,M,S,Ms,K,E,O⟩:SType)=some r∧g11 (⟨7,N,L,H,M,S,Ms,K,E,O⟩:SType)=some r∧(r=true→N=[]):=by
 obtain⟨a,a1,a2⟩:=g4l (a:=(⟨0,N,L,H,0,S,Ms,K,0,O⟩:SType)) ⟨h.syms,h.mems,h.dv⟩ (⟨0,[],0,0,0,[],[],0,0,false⟩:SType);obtain⟨b,b1,b2⟩:=g96 h (⟨7,[],0,0,M,[],[],0,E,false⟩:SType);have hab:a=b:=by
   refine Bool.eq_iff_iff.2 (a2.trans (Iff.trans ?_ b2.symm));simp only[SType.mk.injEq]
   try (simp)
 subst hab;refine⟨(bif decide (0≤M)then decide (M≤50)else false) && a,?_,?_,fun hr=>?_⟩
 · simp only[g1c];generalize (bif decide (0≤M)then decide (M≤50)else false)=q;simp[a1]
   try (cases q <;> rfl)
 · simp only[g11];generalize (bif decide (0≤M)then decide (M≤50)else false)=q;simp[g2l,g1l,b1]
   try (cases a <;> cases q <;> rfl)
 · rw[Bool.and_eq_true]at hr;have:=b2.1 hr.2;simp only[SType.mk.injEq]at this;exact this.2.1
theorem form8{N:List UInt8}{L H M K E:Int}{S:List SSymbol}{Ms:List SMember}{O:Bool}(h:OkT (⟨8,N,L,H,M,S,Ms,K,E,O⟩:SType)) :∃r,g1c (⟨8,N,L,H,M,S,Ms,K,E,O⟩:SType)=some r∧g11 (⟨8,N,L,H,M,S,Ms,K,E,O⟩:SType)=some r∧(r=true→N=[]):=by
 obtain⟨a,a1,a2⟩:=g4l (a:=(⟨0,N,L,H,0,S,Ms,0,0,O⟩:SType)) ⟨h.syms,h.mems,h.dv⟩ (⟨0,[],0,0,0,[],[],0,0,false⟩:SType);obtain⟨b,b1,b2⟩:=g96 h (⟨8,[],0,0,M,[],[],K,E,false⟩:SType);have hab:a=b:=by
   refine Bool.eq_iff_iff.2 (a2.trans (Iff.trans ?_ b2.symm));simp only[SType.mk.injEq]
   try (simp)
 subst hab;refine⟨(bif decide (0≤M)then decide (M≤50)else false) && a,?_,?_,fun hr=>?_⟩
 · simp only[g1c];generalize (bif decide (0≤M)then decide (M≤50)else false)=q;simp[a1]
   try (cases q <;> rfl)
 · simp only[g11];generalize (bif decide (0≤M)then decide (M≤50)else false)=q;simp[g2l,g1l,b1]
   try (cases a <;> cases q <;> rfl)
 · rw[Bool.and_eq_true]at hr;have:=b2.1 hr.2;simp only[SType.mk.injEq]at this;exact this.2.1
theorem form9{N:List UInt8}{L H M K E:Int}{S:List SSymbol}{Ms:List SMember}{O:Bool}(h:OkT (⟨9,N,L,H,M,S,Ms,K,E,O⟩:SType)) :∃r,g1c (⟨9,N,L,H,M,S,Ms,K,E,O⟩:SType)=some r∧g11 (⟨9,N,L,H,M,S,Ms,K,E,O⟩:SType)=some r∧(r=true→N=[]):=by
 obtain⟨a,a1,a2⟩:=g4l (a:=(⟨0,N,L,H,M,S,Ms,K,0,O⟩:SType)) ⟨h.syms,h.mems,h.dv⟩ (⟨0,[],0,0,0,[],[],0,0,false⟩:SType);obtain⟨b,b1,b2⟩:=g96 h (⟨9,[],0,0,0,[],[],0,E,false⟩:SType);have hab:a=b:=by
   refine Bool.eq_iff_iff.2 (a2.trans (Iff.trans ?_ b2.symm));simp only[SType.mk.injEq]
   try (simp)
 subst hab;refine⟨a,by simp[g1c,a1],by simp[g11,g2l,g1l,b1];try (cases a <;> rfl),fun hr=>?_⟩;have:=b2.1 hr;simp only[SType.mk.injEq]at this;exact this.2.1
end
section
open Go Go.Proofs.YthnmepafpikaiaaGreat.Shv
set_option maxRecDepth 100000
def g6q(k:Int) :Bool:=bif bif decide (k=4)then true else decide (k=5)then true else decide (k=6)
theorem gp1{t:SType}(h:OkT t) :∃r,g1c t=some r∧g11 t=some r∧(r=true→1≤t.Kind∧t.Kind≤9∧g6q t.Kind=!(decide (t.Name=[]))):=by
 by_cases hk:1≤t.Kind∧t.Kind≤9
 · obtain⟨Kd,N,L,H,M,S,Ms,K,E,O⟩:=t;simp only at hk;have:Kd=1∨Kd=2∨Kd=3∨Kd=4∨Kd=5∨Kd=6∨Kd=7∨Kd=8∨Kd=9:=by omega
   rcases this with rfl | rfl | rfl | rfl | rfl | rfl | rfl | rfl | rfl
   · obtain⟨r,h1,h2,h3⟩:=form1 h;exact⟨r,h1,h2,fun hr=>⟨hk.1,hk.2,by simp[g6q,h3 hr]⟩⟩
   · obtain⟨r,h1,h2,h3⟩:=form2 h;exact⟨r,h1,h2,fun hr=>⟨hk.1,hk.2,by simp[g6q,h3 hr]⟩⟩
   · obtain⟨r,h1,h2,h3⟩:=form3 h;exact⟨r,h1,h2,fun hr=>⟨hk.1,hk.2,by simp[g6q,h3 hr]⟩⟩
   · obtain⟨r,h1,h2,h3⟩:=form4 h;exact⟨r,h1,h2,fun hr=>⟨hk.1,hk.2,by simp[g6q,h3 hr]⟩⟩
   · obtain⟨r,h1,h2,h3⟩:=form5 h;exact⟨r,h1,h2,fun hr=>⟨hk.1,hk.2,by simp[g6q,h3 hr]⟩⟩
   · obtain⟨r,h1,h2,h3⟩:=form6 h;exact⟨r,h1,h2,fun hr=>⟨hk.1,hk.2,by simp[g6q,h3 hr]⟩⟩
   · obtain⟨r,h1,h2,h3⟩:=form7 h;exact⟨r,h1,h2,fun hr=>⟨hk.1,hk.2,by simp[g6q,h3 hr]⟩⟩
   · obtain⟨r,h1,h2,h3⟩:=form8 h;exact⟨r,h1,h2,fun hr=>⟨hk.1,hk.2,by simp[g6q,h3 hr]⟩⟩
   · obtain⟨r,h1,h2,h3⟩:=form9 h;exact⟨r,h1,h2,fun hr=>⟨hk.1,hk.2,by simp[g6q,h3 hr]⟩⟩
 · refine⟨false,?_,?_,fun h=>by cases h⟩
   · have e:∀k:Int,1≤k→k≤9→¬t.Kind=k:=fun k h1 h2 e=>hk (by omega)
     simp[g1c,e 1,e 2,e 3,e 4,e 5,e 6,e 7,e 8,e 9]
   · have e:(bif decide (t.Kind < 1)then true else decide (9 < t.Kind))=true:=by
       by_cases h1:t.Kind < 1
       · simp[h1]
       · simp[h1];omega
     rw[g11,e];rfl
def usesL(t:SType) :List Int:=t.Members.map (·.Type_)++(if t.Kind=8 then[t.Key]else[])++(if 7≤t.Kind then[t.Elem]else[])
theorem gbp{k n:Nat}(hk:k≤16){m:Nat}(h:m*24≤reachBytes)(hn:n≤m+2) :room k n=true:=by
 unfold room g42 g1k;unfold reachBytes at h;simp only[Bool.and_eq_true,decide_eq_true_eq];have:(2*n+192)*k≤(2*n+192)*16:=Nat.mul_le_mul_left _ hk;omega
theorem gn8(t:SType)(h:t.Members.length*24≤reachBytes) :∀(k i:Nat),i+k=t.Members.length→g50 (t.Members,(t.Members.length:Int),(i:Int),t,(t.Members.map (·.Type_)).take i)=some (t,t.Members.map (·.Type_))
 | 0,i,hi=>by
   rw[g50,if_neg (by simp;omega),List.take_of_length_le (by simp;omega)]
 | k+1,i,hi=>by
   have hr:=gz (g3c h);have hlt:i < t.Members.length:=by omega
   rw[g50,if_pos (by simp;omega),if_pos (g6 hlt)];simp only[oZ4,oZ3,g7];rw[←g2c (·.Type_) t.Members i dSMember 0 hlt,g9v _ _ _ (by simpa using hlt),g9 (by omega),if_pos (gbp (m:=t.Members.length) (by omega) h (by simp;omega))];exact gn8 t h k (i+1) (by omega)
theorem g10r{t:SType}(h:t.Members.length*24≤reachBytes) :gb8 t=some (usesL t):=by
 have h0:=gn8 t h t.Members.length 0 (by omega);have h0':g50 (t.Members,(t.Members.length:Int),0,t,[])=some (t,t.Members.map (·.Type_)):=h0;rw[gb8,h0'];unfold usesL;simp only[oZ4,oZ3];have r1:room 8 (t.Members.map (·.Type_)++[t.Key]).length=true:=gbp (m:=t.Members.length) (by omega) h (by simp)
 have r2:room 8 (t.Members.map (·.Type_)++[t.Key]++[t.Elem]).length=true:=gbp (m:=t.Members.length) (by omega) h (by simp);have r3:room 8 (t.Members.map (·.Type_)++[t.Elem]).length=true:=gbp (m:=t.Members.length) (by omega) h (by simp);by_cases h8:t.Kind=8
 · have h7:7≤t.Kind:=by omega
   rw[if_pos (by simp[h8]),if_pos r1,if_pos (by simp[h7]),if_pos r2,if_pos h8,if_pos h7]
 · rw[if_neg (by simp[h8]),if_neg h8];by_cases h7:7≤t.Kind
   · rw[if_pos (by simp[h7]),if_pos r3,if_pos h7];simp
   · rw[if_neg (by simp[h7]),if_neg h7];simp
theorem gn9(t:SType)(h:t.Members.length*24≤reachBytes) :∀(k i:Nat),i+k=t.Members.length→g3e ((i:Int),t,(t.Members.map (·.Type_)).take i)=some (t,t.Members.map (·.Type_))
 | 0,i,hi=>by
   rw[g3e,if_neg (by simp;omega),List.take_of_length_le (by simp;omega)]
 | k+1,i,hi=>by
   have hr:=gz (g3c h);have hlt:i < t.Members.length:=by omega
   rw[g3e,if_pos (by simp;omega),if_pos (g6 hlt)];simp only[oZ4,oZ3,g7];rw[←g2c (·.Type_) t.Members i dSMember 0 hlt,g9v _ _ _ (by simpa using hlt),g9 (by omega),if_pos (gbp (m:=t.Members.length) (by omega) h (by simp;omega))];exact gn9 t h k (i+1) (by omega)
theorem g10s{t:SType}(h:t.Members.length*24≤reachBytes)(hk:t.Kind≤9) :g84 t=some (usesL t):=by
 have h0:=gn9 t h t.Members.length 0 (by omega);have h0':g3e (0,t,[])=some (t,t.Members.map (·.Type_)):=h0;rw[g84,h0'];unfold usesL;simp only[oZ4,oZ3];have r1:room 8 (t.Members.map (·.Type_)++[t.Key]).length=true:=gbp (m:=t.Members.length) (by omega) h (by simp)
 have r2:room 8 (t.Members.map (·.Type_)++[t.Key]++[t.Elem]).length=true:=gbp (m:=t.Members.length) (by omega) h (by simp);have r3:room 8 (t.Members.map (·.Type_)++[t.Elem]).length=true:=gbp (m:=t.Members.length) (by omega) h (by simp);by_cases h8:t.Kind=8
 · have h7:7≤t.Kind:=by omega
   rw[if_pos (by simp[h8]),if_pos r1,if_pos (by simp[h8]),if_pos r2,if_pos h8,if_pos h7]
 · rw[if_neg (by simp[h8]),if_neg h8];by_cases h7:7≤t.Kind
   · have:t.Kind=7∨t.Kind=9:=by omega
     rw[if_pos (by rcases this with e | e <;> simp[e]),if_pos r3,if_pos h7];simp
   · have e7:¬t.Kind=7:=by omega
     have e9:¬t.Kind=9:=by omega
     rw[if_neg (by simp[h8,e7,e9]),if_neg h7];simp
theorem g10t(k:Int) :g1l k=some (g6q k):=rfl
def keyB(k:Int) :Bool:=bif decide (1≤k)then decide (k≤4)else false
def outB(n:Nat)(u:Int) :Bool:=bif decide (u < 0)then true else decide ((n:Int)≤u)
def stepV(ts:List SType)(i:Nat) :Option Int:=
 let t:=ts.getD i dSType
 if !((g1c t).getD false)then some 1
 else if !(decide (t.Name=[])) && ((ts.map (·.Name)).take i).contains t.Name then some 1
 else if(usesL t).any (outB ts.length)then some 4
 else if decide (t.Kind=8) && !(keyB (ts.getD t.Key.toNat dSType).Kind)then some 1
 else none
theorem glj {ts : List SType} {i : Nat} {t : SType} {r : Bool} (hT : ts.getD i dSType = t) (f1 : g1c t = some r) :
   stepV ts i=if(!r)=true then some 1 else if(!(decide (t.Name=[])) && ((ts.map (·.Name)).take i).contains t.Name)=true then some 1 else if(usesL t).any (outB ts.length)=true then some 4 else if(decide (t.Kind=8) && !(keyB (ts.getD t.Key.toNat dSType).Kind))=true then some 1 else none:=by
 subst hT;unfold stepV;simp only[f1,Option.getD_some]
theorem grn {γ : Type} (L : Nat → Option γ) (l : List Int) (q : Int → Bool) (bad good : γ) (hstep : ∀ i, i < l.length → L i = if q (l.getD i 0) = true then some bad else L (i + 1)) (hend : L l.length = some good) :
   L 0=some (if l.any q=true then bad else good):=by
 have:=scan L l.length (fun i=>!(q (l.getD i 0))) bad good (fun i hi=>by
   rw[hstep i hi];cases q (l.getD i 0) <;> rfl) hend
 rcases this with⟨h1,h2⟩ | ⟨h1,j,h2,h3⟩
 · rw[h1,if_neg];intro h;rw[List.any_eq_true]at h;obtain⟨x,hx,hq⟩:=h;obtain⟨j,hj,he⟩:=List.getElem_of_mem hx;have:=h2 j hj;rw[g16 hj,he,hq]at this;cases this
 · rw[h1,if_pos];rw[List.any_eq_true];refine⟨l.getD j 0,gh h2 0,by simpa using h3⟩
theorem gp2{t:SType}(h:t.Members.length*24≤reachBytes) :(usesL t).length < 9223372036854775807:=by
 unfold usesL reachBytes at*;simp only[List.length_append,List.length_map];split <;> split <;> simp <;> omega
theorem g13a {L : Nat → Option (Int ⊕ Unit)} {L' : Nat → Option (Int ⊕ Unit)} {n : Nat} {step : Nat → Option Int}
   (h:∀i,i < n→L i=match step i with | some e=>some (.inl e) | none=>L (i+1)) (he:L n=some (.inr ()))
   (h':∀i,i < n→L' i=match step i with | some e=>some (.inl e) | none=>L' (i+1)) (he':L' n=some (.inr ())):∃o,L 0=some o∧L' 0=some o∧((o= .inr ()∧∀i,i < n→step i=none)∨∃i e,i < n∧step i=some e∧o= .inl e):=by
 have key:∀k i,i+k=n→∃o,L i=some o∧L' i=some o∧((o= .inr ()∧∀m,i≤m→m < n→step m=none)∨∃m e,m < n∧step m=some e∧o= .inl e):=by
   intro k
   induction k with
   | zero => intro i hi; have : i = n := by omega
             subst this;exact⟨_,he,he',.inl ⟨rfl,fun m h1 h2=>by omega⟩⟩
   | succ k ih=>
     intro i hi;rw[h i (by omega),h' i (by omega)];cases hst:step i with
     | some e=>exact⟨_,rfl,rfl,.inr ⟨i,e,by omega,hst,rfl⟩⟩
     | none=>
       obtain⟨o,o1,o2,o3⟩:=ih (i+1) (by omega);refine⟨o,o1,o2,?_⟩;rcases o3 with⟨a,b⟩ | h
       · refine .inl ⟨a,fun m h1 h2=>?_⟩;rcases Nat.lt_or_ge i m with h | h
         · exact b m h h2
         · have:m=i:=by omega
           subst this;exact hst
       · exact .inr h
 obtain⟨o,o1,o2,o3⟩:=key n 0 (by omega);refine⟨o,o1,o2,?_⟩;rcases o3 with⟨a,b⟩ | h
 · exact .inl ⟨a,fun i hi=>b i (Nat.zero_le _) hi⟩
 · exact .inr h
theorem gyb{ts:List SType}{t:SType}(hu:(usesL t).any (outB ts.length)=false)(h8:t.Kind=8) :inR t.Key ts.length=true:=by
 have hm:t.Key∈usesL t:=by unfold usesL;simp[h8]
 rw[List.any_eq_false]at hu;have:=hu _ hm;unfold outB at this;unfold inR;simp only[Bool.and_eq_true,decide_eq_true_eq];by_cases h1:t.Key < 0
 · simp[h1]at this
 · simp[h1]at this;omega
theorem g13b (ts : List SType) (t : SType) (i : Nat) (hi : i < ts.length) (hr : ts.length < 9223372036854775807) :
   g1x ((i:Int),0,ts,t.Kind,t.Name,t.Low,t.High,t.Max,t.Symbols,t.Members,t.Key,t.Elem,t.Open)=some (if(g6q t.Kind && ((ts.map (·.Name)).take i).contains t.Name)=true then .inl 1 else .inr ((i:Int),ts,t.Kind,t.Name,t.Low,t.High,t.Max,t.Symbols,t.Members,t.Key,t.Elem,t.Open)):=by
 have hsc:=scan (fun k=>g1x ((i:Int),(k:Int),ts,t.Kind,t.Name,t.Low,t.High,t.Max,t.Symbols,t.Members,t.Key,t.Elem,t.Open)) i (fun k=>!(bif g6q t.Kind then decide ((ts.getD k dSType).Name=t.Name)else false)) (.inl 1) (.inr ((i:Int),ts,t.Kind,t.Name,t.Low,t.High,t.Max,t.Symbols,t.Members,t.Key,t.Elem,t.Open))
   (fun k hk=>by
     rw[g1x,if_pos (by simp;omega),g10t];simp only[oZ4,oZ3];rw[if_pos (by rw[g6 (show k < ts.length by omega)];rfl),g9 (by omega),g7];cases (bif g6q t.Kind then decide ((ts.getD k dSType).Name=t.Name)else false) <;> rfl)
   (by rw[g1x,if_neg (by simp)])
 have e0:g1x ((i:Int),((0:Nat):Int),ts,t.Kind,t.Name,t.Low,t.High,t.Max,t.Symbols,t.Members,t.Key,t.Elem,t.Open)=g1x ((i:Int),0,ts,t.Kind,t.Name,t.Low,t.High,t.Max,t.Symbols,t.Members,t.Key,t.Elem,t.Open):=rfl;simp only[e0]at hsc;rcases hsc with⟨h1,h2⟩ | ⟨h1,j,h2,h3⟩
 · rw[h1,if_neg];rw[Bool.and_eq_true,g4s (by simp;omega)]
   rintro ⟨hn,k,hk,he⟩
   rw[g2c (·.Name) ts k dSType [] (by omega)]at he;have:=h2 k hk;rw[hn,he]at this;simp at this
 · rw[h1,if_pos];rw[Bool.and_eq_true,g4s (by simp;omega)];cases hn:g6q t.Kind with
   | false=>rw[hn]at h3;cases h3
   | true=>
     refine⟨rfl,j,h2,?_⟩;rw[g2c (·.Name) ts j dSType [] (by omega)];rw[hn]at h3
     simpa using h3
theorem g13c (ts : List SType) (t : SType) (i : Nat) (l : List Int) (hl : l.length < 9223372036854775807) :
   g2r ((i:Int),l,0,ts,t.Kind,t.Name,t.Low,t.High,t.Max,t.Symbols,t.Members,t.Key,t.Elem,t.Open)=some (if l.any (outB ts.length)=true then .inl 4 else .inr ((i:Int),ts,t.Kind,t.Name,t.Low,t.High,t.Max,t.Symbols,t.Members,t.Key,t.Elem,t.Open)):=
 grn (fun j=>g2r ((i:Int),l,(j:Int),ts,t.Kind,t.Name,t.Low,t.High,t.Max,t.Symbols,t.Members,t.Key,t.Elem,t.Open)) l (outB ts.length) (.inl 4) (.inr ((i:Int),ts,t.Kind,t.Name,t.Low,t.High,t.Max,t.Symbols,t.Members,t.Key,t.Elem,t.Open))
   (fun j hj=>by
     rw[g2r,if_pos (by simp;omega),if_pos (g6 hj)];simp only[oZ4,oZ3];rw[if_pos (by rw[g6 hj];rfl),g9 (by omega)];rfl)
   (by rw[g2r,if_neg (by simp)])
theorem gw0{s:SSchema}(hs:s.Types.length≤reachBytes)(ht:∀t,t∈s.Types→OkT t) :∃e,g8s s=some e∧g68 s=some e∧(e=0→s.Types.length≤32∧∀i,i < s.Types.length→stepV s.Types i=none)∧((s.Types.length≤32∧∀i,i < s.Types.length→stepV s.Types i=none)→e=0):=by
 rw[g8s,g68];by_cases h32:32 < s.Types.length
 · exact⟨3,by rw[if_pos (by simp;omega)],by rw[if_pos (by simp;omega)],fun h=>(by cases h),fun h=>absurd h.1 (by omega)⟩
 · rw[if_neg (by simp;omega),if_neg (by simp;omega)];have hr:s.Types.length < 9223372036854775807:=by omega
   have:=g13a (L:=fun i=>g4g (s.Types,(s.Types.length:Int),(i:Int),s.Types,setOf ((s.Types.map (·.Name)).take i))) (L':=fun i=>g2n ((i:Int),s.Types)) (n:=s.Types.length) (step:=stepV s.Types)
     (fun i hi=>by
       have hok:=ht _ (gh hi dSType);obtain⟨r,f1,f2,f3⟩:=gp1 hok;rw[g4g,if_pos (by simp;omega),if_pos (g6 hi)];simp only[oZ4,oZ3,g7];generalize hT:s.Types.getD i dSType=t at*;rw[glj hT f1,f1];simp only[oZ3,gn4];cases r with
       | false=>rw[if_pos (show(bif (!false)then true else bif (!(decide (t.Name=[])))then((s.Types.map (·.Name)).take i).contains t.Name else false)=true from rfl),if_pos (show(!false)=true from rfl)]
       | true=>
         rw[if_neg (show ¬((!true)=true) by simp)];by_cases hd:(!(decide (t.Name=[])) && ((s.Types.map (·.Name)).take i).contains t.Name)=true
         · have hd':(bif (!(decide (t.Name=[])))then((s.Types.map (·.Name)).take i).contains t.Name else false)=true:=by
             simp only[Bool.and_eq_true]at hd;rw[hd.1,hd.2];rfl
           rw[if_pos (show(bif (!true)then true else bif (!(decide (t.Name=[])))then((s.Types.map (·.Name)).take i).contains t.Name else false)=true from hd'),if_pos hd]
         · have hd':¬((bif (!(decide (t.Name=[])))then((s.Types.map (·.Name)).take i).contains t.Name else false)=true):=by
             intro hc;apply hd;cases h1:(!(decide (t.Name=[])))with
             | true=>rw[h1]at hc;simpa using hc
             | false=>rw[h1]at hc;cases hc
           rw[if_neg (show ¬((bif (!true)then true else bif (!(decide (t.Name=[])))then((s.Types.map (·.Name)).take i).contains t.Name else false)=true)from hd'),if_neg hd,g10r hok.mems];simp only[oZ3];have hul:=gp2 hok.mems
           have hin:=grn (fun j=>g3g (s.Types,(s.Types.length:Int),(i:Int),usesL t,((usesL t).length:Int),(j:Int),s.Types,addS (setOf ((s.Types.map (·.Name)).take i)) t.Name,t.Kind,t.Name,t.Low,t.High,t.Max,t.Symbols,t.Members,t.Key,t.Elem,t.Open)) (usesL t) (outB s.Types.length) (.inl 4)
             (.inr (s.Types,(s.Types.length:Int),(i:Int),s.Types,addS (setOf ((s.Types.map (·.Name)).take i)) t.Name,t.Kind,t.Name,t.Low,t.High,t.Max,t.Symbols,t.Members,t.Key,t.Elem,t.Open))
             (fun j hj=>by
               rw[g3g,if_pos (by simp;omega),if_pos (g6 hj),g9 (by omega)];rfl)
             (by rw[g3g,if_neg (by simp)])
           have e0:g3g (s.Types,(s.Types.length:Int),(i:Int),usesL t,((usesL t).length:Int),((0:Nat):Int),s.Types,addS (setOf ((s.Types.map (·.Name)).take i)) t.Name,t.Kind,t.Name,t.Low,t.High,t.Max,t.Symbols,t.Members,t.Key,t.Elem,t.Open)=g3g (s.Types,(s.Types.length:Int),(i:Int),usesL t,((usesL t).length:Int),0,s.Types,addS (setOf ((s.Types.map (·.Name)).take i)) t.Name,t.Kind,t.Name,t.Low,t.High,t.Max,t.Symbols,t.Members,t.Key,t.Elem,t.Open):=rfl
           rw[←e0,hin];cases hu:(usesL t).any (outB s.Types.length)with
           | true=>rfl
           | false=>
             simp only[Bool.false_eq_true,if_false,oZ3];have hsucc:addS (setOf ((s.Types.map (·.Name)).take i)) t.Name=setOf ((s.Types.map (·.Name)).take (i+1)):=by
               have h1:=gn5 (l:=s.Types.map (·.Name)) (i:=i) (by simpa using hi);rw[g2c (·.Name) s.Types i dSType [] hi,hT]at h1;exact h1
             rw[hsucc,g9 (by omega)];by_cases h8:t.Kind=8
             · have hk:=gyb hu h8;rw[if_pos (by rw[hk];rfl),if_pos (by rw[hk];rfl)];simp only[h8,decide_true,cond_true,Bool.true_and,keyB];generalize (s.Types.getD t.Key.toNat dSType).Kind=k;by_cases q1:k < 1
               · rw[if_pos (by simp[q1]),if_pos (by simp;omega)]
               · by_cases q2:4 < k
                 · rw[if_pos (by simp[q1,q2]),if_pos (by simp;omega)]
                 · rw[if_neg (by simp[q1,q2]),if_neg (by simp;omega)]
             · have e8:decide (t.Kind=8)=false:=by simp[h8]
               simp only[e8,Bool.not_false,Bool.or_true,if_true,Bool.false_and,cond_false,Bool.false_eq_true,if_false])
     (by rw[g4g,if_neg (by simp)])
     (fun i hi=>by
       have hok:=ht _ (gh hi dSType);obtain⟨r,f1,f2,f3⟩:=gp1 hok;rw[g2n,if_pos (by simp;omega),if_pos (g6 hi)];simp only[oZ4,oZ3,g7];generalize hT:s.Types.getD i dSType=t at*;rw[glj hT f1,f2,g13b s.Types t i hi hr];simp only[oZ3];cases r with
       | false=>rfl
       | true=>
         obtain⟨k1,k2,k3⟩:=f3 rfl;rw[if_neg (show ¬((!true)=true) by simp),if_neg (show ¬((!true)=true) by simp),k3];cases hd:(!(decide (t.Name=[])) && ((s.Types.map (·.Name)).take i).contains t.Name)with
         | true=>rfl
         | false=>
           simp only[Bool.false_eq_true,if_false,ghh];rw[g10s hok.mems k2];simp only[oZ3];rw[g13c s.Types t i (usesL t) (gp2 hok.mems)];cases hu:(usesL t).any (outB s.Types.length)with
           | true=>rfl
           | false=>
             simp only[Bool.false_eq_true,if_false,oZ3];rw[g9 (by omega)];by_cases h8:t.Kind=8
             · have hk:=gyb hu h8;rw[if_pos (by rw[hk];rfl)];simp only[h8,decide_true,if_true,g5g,oZ3,cond_true,Bool.true_and];show(if(!(keyB (s.Types.getD t.Key.toNat dSType).Kind))=true then some (.inl 1)else g2n (((i+1:Nat):Int),s.Types))=_;cases keyB (s.Types.getD t.Key.toNat dSType).Kind <;> rfl
             · have e8:decide (t.Kind=8)=false:=by simp[h8]
               rw[e8];simp only[Bool.not_false,Bool.or_true,if_true,Bool.false_and,cond_false,Bool.false_eq_true,if_false,oZ3])
     (by rw[g2n,if_neg (by simp)])
   obtain⟨o,h1,h2,h3⟩:=this;have h1':g4g (s.Types,(s.Types.length:Int),0,s.Types,[])=some o:=h1;have h2':g2n (0,s.Types)=some o:=h2;rw[h1',h2'];rcases h3 with⟨rfl,h4⟩ | ⟨i,e,h4,h5,rfl⟩
   · exact⟨_,rfl,rfl,fun _=>⟨by omega,h4⟩,fun _=>rfl⟩
   · refine⟨_,rfl,rfl,fun h0=>?_,fun h=>by have:=h.2 i h4;rw[h5]at this;cases this⟩
     exfalso
     subst h0;unfold stepV at h5;simp only at h5;split at h5
     · cases h5
     · split at h5
       · cases h5
       · split at h5
         · cases h5
         · split at h5 <;> cases h5
end
section
open Go Go.Proofs.YthnmepafpikaiaaGreat.Shv
set_option maxRecDepth 100000
theorem g9w {γ : Type} (L : Nat → Option γ) (n : Nat) (q : Nat → Bool) (hit : Nat → γ) (miss : γ) (hstep : ∀ i, i < n → L i = if q i = true then some (hit i) else L (i + 1)) (hend : L n = some miss) :
   (∃j,j < n∧q j=true∧(∀k,k < j→q k=false)∧L 0=some (hit j))∨((∀k,k < n→q k=false)∧L 0=some miss):=by
 have key:∀k i,i+k=n→(∀m,m < i→q m=false)→L 0=L i→(∃j,j < n∧q j=true∧(∀k,k < j→q k=false)∧L 0=some (hit j))∨((∀k,k < n→q k=false)∧L 0=some miss):=by
   intro k
   induction k with
   | zero => intro i hi hm h0; have : i = n := by omega
             subst this;exact .inr ⟨hm,by rw[h0,hend]⟩
   | succ k ih=>
     intro i hi hm h0;rw[hstep i (by omega)]at h0;cases hq:q i with
     | true=>rw[hq,if_pos rfl]at h0;exact .inl ⟨i,by omega,hq,hm,h0⟩
     | false=>
       rw[hq,if_neg (by simp)]at h0;refine ih (i+1) (by omega) (fun m hm'=>?_) h0;rcases Nat.lt_or_ge m i with h | h
       · exact hm m h
       · have:m=i:=by omega
         subst this;exact hq
 exact key n 0 (by omega) (fun m hm=>by omega) rfl
def ggf(l:List SMember)(id:Int)(r:Int × Bool) :Prop:=(∃j:Nat,j < l.length∧(l.getD j dSMember).ID=id∧(∀k,k < j→(l.getD k dSMember).ID≠id)∧r=((j:Int),true))∨((∀k,k < l.length→(l.getD k dSMember).ID≠id)∧r=(0,false))
theorem gt0{l:List SMember}{id:Int}{r q:Int × Bool}(h1:ggf l id r)(h2:ggf l id q) :r=q:=by
 rcases h1 with⟨j,a1,a2,a3,rfl⟩ | ⟨a1,rfl⟩ <;> rcases h2 with⟨k,b1,b2,b3,rfl⟩ | ⟨b1,rfl⟩
 · have:j=k:=by
     rcases Nat.lt_trichotomy j k with h | h | h
     · exact absurd a2 (b3 j h)
     · exact h
     · exact absurd b2 (a3 k h)
   rw[this]
 · exact absurd a2 (b1 j a1)
 · exact absurd b2 (a1 k b1)
 · rfl
theorem go3{t:SType}{id:Int}(hl:t.Members.length < 9223372036854775807) :∃r,g2s (t,id)=some r∧ggf t.Members id r:=by
 rw[g2s,g41];have h:=g9w (fun i=>gv (t.Members,(t.Members.length:Int),(i:Int),id)) t.Members.length (fun i=>decide ((t.Members.getD i dSMember).ID=id)) (fun i=>.inl ((i:Int),id)) (.inr id)
   (fun i hi=>by
     rw[gv,if_pos (by simp;omega),if_pos (g6 hi)];simp only[oZ4,oZ3,g7,g5r,gae];rw[g9 (by omega)])
   (by rw[gv,if_neg (by simp)])
 have e0:gv (t.Members,(t.Members.length:Int),((0:Nat):Int),id)=gv (t.Members,(t.Members.length:Int),0,id):=rfl;simp only[e0]at h;rcases h with⟨j,h1,h2,h3,h4⟩ | ⟨h1,h4⟩
 · rw[h4];refine⟨((j:Int),true),?_,.inl ⟨j,h1,by simpa using h2,fun k hk=>by simpa using h3 k hk,rfl⟩⟩;have e1:maxI (j:Int) 0=(j:Int):=by unfold maxI;omega
   have e2:decide ((0:Int)≤(j:Int))=true:=by simp
   simp only[oZ4,oZ3,e1,e2]
 · rw[h4];exact⟨(0,false),rfl,.inr ⟨fun k hk=>by simpa using h1 k hk,rfl⟩⟩
theorem go4{t:SType}{id:Int}(hl:t.Members.length < 9223372036854775807) :∃r,g17 (t,id)=some r∧ggf t.Members id r:=by
 rw[g17];have h:=g9w (fun i=>g2g (id,(i:Int),t)) t.Members.length (fun i=>decide ((t.Members.getD i dSMember).ID=id)) (fun i=>.inl ((i:Int),true)) (.inr ())
   (fun i hi=>by
     rw[g2g,if_pos (by simp;omega),if_pos (g6 hi),g9 (by omega)];simp only[g7])
   (by rw[g2g,if_neg (by simp)])
 have e0:g2g (id,((0:Nat):Int),t)=g2g (id,0,t):=rfl;simp only[e0]at h;rcases h with⟨j,h1,h2,h3,h4⟩ | ⟨h1,h4⟩
 · rw[h4];exact⟨((j:Int),true),rfl,.inl ⟨j,h1,by simpa using h2,fun k hk=>by simpa using h3 k hk,rfl⟩⟩
 · rw[h4];exact⟨(0,false),rfl,.inr ⟨fun k hk=>by simpa using h1 k hk,rfl⟩⟩
theorem g3n{t:SType}(id:Int)(hl:t.Members.length < 9223372036854775807) :∃r,g2s (t,id)=some r∧g17 (t,id)=some r∧ggf t.Members id r:=by
 obtain⟨r,h1,h2⟩:=go3 (id:=id) hl;obtain⟨q,h3,h4⟩:=go4 (id:=id) hl;have:=gt0 h2 h4;subst this;exact⟨r,h1,h3,h2⟩
def ggg(l:List SSymbol)(id:Int)(r:Int × Bool) :Prop:=(∃j:Nat,j < l.length∧(l.getD j dSSymbol).ID=id∧(∀k,k < j→(l.getD k dSSymbol).ID≠id)∧r=((j:Int),true))∨((∀k,k < l.length→(l.getD k dSSymbol).ID≠id)∧r=(0,false))
theorem gt1{l:List SSymbol}{id:Int}{r q:Int × Bool}(h1:ggg l id r)(h2:ggg l id q) :r=q:=by
 rcases h1 with⟨j,a1,a2,a3,rfl⟩ | ⟨a1,rfl⟩ <;> rcases h2 with⟨k,b1,b2,b3,rfl⟩ | ⟨b1,rfl⟩
 · have:j=k:=by
     rcases Nat.lt_trichotomy j k with h | h | h
     · exact absurd a2 (b3 j h)
     · exact h
     · exact absurd b2 (a3 k h)
   rw[this]
 · exact absurd a2 (b1 j a1)
 · exact absurd b2 (a1 k b1)
 · rfl
theorem gbd{t:SType}(id:Int)(hl:t.Symbols.length < 9223372036854775807) :∃r,g88 (t,id)=some r∧g5z (t,id)=some r∧ggg t.Symbols id r:=by
 rw[g88,g40,g5z];have h:=g9w (fun i=>gr (t.Symbols,(t.Symbols.length:Int),(i:Int),id)) t.Symbols.length (fun i=>decide ((t.Symbols.getD i dSSymbol).ID=id)) (fun i=>.inl ((i:Int),id)) (.inr id)
   (fun i hi=>by
     rw[gr,if_pos (by simp;omega),if_pos (g6 hi)];simp only[oZ4,oZ3,g7,gac];rw[g9 (by omega)])
   (by rw[gr,if_neg (by simp)])
 have e0:gr (t.Symbols,(t.Symbols.length:Int),((0:Nat):Int),id)=gr (t.Symbols,(t.Symbols.length:Int),0,id):=rfl;have g:=g9w (fun i=>g24 (id,(i:Int),t)) t.Symbols.length (fun i=>decide ((t.Symbols.getD i dSSymbol).ID=id)) (fun i=>.inl ((i:Int),true)) (.inr ())
   (fun i hi=>by
     rw[g24,if_pos (by simp;omega),if_pos (g6 hi),g9 (by omega)];simp only[g7])
   (by rw[g24,if_neg (by simp)])
 have g0:g24 (id,((0:Nat):Int),t)=g24 (id,0,t):=rfl;simp only[e0]at h;simp only[g0]at g;have hA:∃r,(gr (t.Symbols,(t.Symbols.length:Int),0,id) >>=fun o=>match o with | .inl o_1=>some (o_1.1,o_1.2) | .inr o_2=>some ((-1),o_2)) >>=(fun r=>some (maxI r.1 0,decide (0≤r.1)))=some r∧ggg t.Symbols id r:=by
   rcases h with⟨j,h1,h2,h3,h4⟩ | ⟨h1,h4⟩
   · rw[h4];refine⟨((j:Int),true),?_,.inl ⟨j,h1,by simpa using h2,fun k hk=>by simpa using h3 k hk,rfl⟩⟩;have e1:maxI (j:Int) 0=(j:Int):=by unfold maxI;omega
     have e2:decide ((0:Int)≤(j:Int))=true:=by simp
     simp only[oZ4,oZ3,e1,e2]
   · rw[h4];exact⟨(0,false),rfl,.inr ⟨fun k hk=>by simpa using h1 k hk,rfl⟩⟩
 have hB:∃r,(g24 (id,0,t) >>=fun o=>match o with | .inl o_1=>some (o_1.1,o_1.2) | .inr o_2=>some (0,false))=some r∧ggg t.Symbols id r:=by
   rcases g with⟨j,h1,h2,h3,h4⟩ | ⟨h1,h4⟩
   · rw[h4];exact⟨((j:Int),true),rfl,.inl ⟨j,h1,by simpa using h2,fun k hk=>by simpa using h3 k hk,rfl⟩⟩
   · rw[h4];exact⟨(0,false),rfl,.inr ⟨fun k hk=>by simpa using h1 k hk,rfl⟩⟩
 obtain⟨r,a1,a2⟩:=hA;obtain⟨q,b1,b2⟩:=hB;have:=gt1 a2 b2;subst this;exact⟨r,a1,b1,a2⟩
end
section
open Go Go.Proofs.YthnmepafpikaiaaGreat.Shv
set_option maxRecDepth 100000
def zig(n:Int) :Int:=if 0≤n then 2*n else -2*n - 1
theorem g10u{a b:Int}(h:zig a=zig b) :a=b:=by
 unfold zig at h;split at h <;> split at h <;> omega
def I64(n:Int) :Prop:= -9223372036854775808≤n∧n≤9223372036854775807
theorem gro{n:Int}(h:I64 n) :g51 n=some (zig n):=by
 obtain⟨h1,h2⟩:=h;rw[g51];unfold zig;by_cases h0:0≤n
 · rw[if_pos (by simp[h0]),if_pos h0];obtain⟨k,rfl⟩:∃k:Nat,n=(k:Int):=⟨n.toNat,by omega⟩
   rw[wrpn (by omega)];have:=mulIn (a:=2) (b:=k) (by omega)
   congr 1
   try omega
 · rw[if_neg (by simp[h0]),if_neg h0];rw[gbj (by omega) (by omega),g5s (by omega) (by omega)];obtain⟨k,hk⟩:∃k:Nat,0 - (n+1)=(k:Int):=⟨(0 - (n+1)).toNat,by omega⟩
   rw[hk,wrpn (by omega)];have h3:=mulIn (a:=2) (b:=k) (by omega);have h3':mulI .u64 2 (k:Int)=((2*k:Nat):Int):=h3;rw[h3'];have h4:=addIn (a:=2*k) (b:=1) (by omega);have h4':addI .u64 ((2*k:Nat):Int) 1=((2*k+1:Nat):Int):=h4;rw[h4']
   congr 1
   omega
theorem gzu(a:Nat)(h:a < 18446744073709551616) :xorI .u64 (a:Int) 0=(a:Int):=by
 have e:(BitVec.ofInt 64 (a:Int) ^^^ BitVec.ofInt 64 (0:Int)).toNat=a:=by
   have:BitVec.ofInt 64 (0:Int)=BitVec.ofNat 64 0:=by decide
   rw[this,BitVec.ofInt_natCast,BitVec.toNat_xor,BitVec.toNat_ofNat,BitVec.toNat_ofNat,two64,Nat.mod_eq_of_lt h];simp
 show IntKind.u64.wrap (((BitVec.ofInt 64 (a:Int) ^^^ BitVec.ofInt 64 (0:Int)).toNat:Nat):Int)=_;rw[e];exact wrapu (by omega) (by omega)
theorem gzv(a:Nat)(h:a < 18446744073709551616) :xorI .u64 (a:Int) 18446744073709551615=((18446744073709551615 - a:Nat):Int):=by
 have e:(BitVec.ofInt 64 (a:Int) ^^^ BitVec.ofInt 64 (18446744073709551615:Int)).toNat=18446744073709551615 - a:=by
   have h1:BitVec.ofInt 64 (18446744073709551615:Int)=BitVec.allOnes 64:=by decide
   rw[h1,BitVec.ofInt_natCast,BitVec.xor_allOnes,BitVec.toNat_not,BitVec.toNat_ofNat,two64,Nat.mod_eq_of_lt h]
 all_goals (try omega)
 show IntKind.u64.wrap (((BitVec.ofInt 64 (a:Int) ^^^ BitVec.ofInt 64 (18446744073709551615:Int)).toNat:Nat):Int)=_;rw[e];exact wrapu (by omega) (by omega)
theorem shr63{n:Int}(h:I64 n) :shrI .i64 n 63=if 0≤n then 0 else -1:=by
 obtain⟨h1,h2⟩:=h;unfold shrI;have e:((2:Int) ^ min (63:Int).toNat IntKind.i64.bits)=9223372036854775808:=by decide
 rw[e,Int.fdiv_eq_ediv_of_nonneg _ (by omega)];split <;> omega
theorem grq{n:Int}(h:I64 n) :g6v n=some (zig n):=by
 rw[g6v,shr63 h];obtain⟨h1,h2⟩:=h;unfold zig;have hs:∀m:Int,shlI .u64 m 1=IntKind.u64.wrap (m*2):=by
   intro m;unfold shlI;have e:((2:Int) ^ min (1:Int).toNat IntKind.u64.bits)=2:=by decide
   rw[e]
 rw[hs]
 congr 1
 by_cases h0:0≤n
 · rw[if_pos h0,if_pos h0];obtain⟨k,rfl⟩:∃k:Nat,n=(k:Int):=⟨n.toNat,by omega⟩
   rw[wrpn (by omega),wrapu (by omega) (by omega)];have:wrp .u64 0=0:=by decide
   rw[this];have:=gzu (2*k) (by omega);have e:((k:Int)*2)=((2*k:Nat):Int):=by omega
   rw[e,this];omega
 · rw[if_neg h0,if_neg h0];have:wrp .u64 (-1)=18446744073709551615:=by decide
   rw[this];obtain⟨k,hk⟩:∃k:Nat,n+9223372036854775808=(k:Int):=⟨(n+9223372036854775808).toNat,by omega⟩
   have e:IntKind.u64.wrap (wrp .u64 n*2)=((2*k:Nat):Int):=by
     unfold wrp;rw[IntKind.wrap_u64,IntKind.wrap_u64];omega
   rw[e,gzv _ (by omega)];omega
theorem cmp1(a b:Int) :gb9 (a,b)=some (if a < b then -1 else if b < a then 1 else 0):=by
 rw[gb9];simp only[gej,oZ4,oZ3,decide_true,Bool.not_true,Bool.false_eq_true,if_false];by_cases h1:a < b <;> by_cases h2:b < a <;> simp[h1,h2]
theorem cmp2(a b:Int) :g8a (a,b)=some (if a < b then -1 else if b < a then 1 else 0):=by
 rw[g8a];simp only[gba,oZ4,oZ3,decide_true,Bool.not_true,Bool.false_eq_true,if_false];by_cases h1:a < b <;> by_cases h2:b < a <;> simp[h1,h2]
theorem cmp3(a b:List UInt8) :g9n (a,b)=some (if Op.bytesLess a b=true then -1 else if(Op.bytesLess a b || decide (a=b))=true then 0 else 1):=by
 rw[g9n];simp only[gbb,oZ4,oZ3,decide_true,Bool.not_true,Bool.false_eq_true,if_false];cases Op.bytesLess a b with
 | true=>rfl
 | false=>cases decide (a=b) <;> rfl
theorem or2(a b:Int) :gmu [a,b]=some (if a≠0 then a else b):=by
 rw[gmu];have h0:g6h (0,[a,b],((2:Nat):Int),((0:Nat):Int))=if a≠0 then some (.inl a)else(if b≠0 then some (.inl b)else some (.inr 0)):=by
   rw[g6h,if_pos (by decide),if_pos (show inR ((0:Nat):Int) ([a,b]:List Int).length=true from g6 (k:=0) (n:=2) (by omega))];simp only[oZ4,oZ3,g7,List.getD_cons_zero];by_cases ha:a=0
   · rw[if_neg (by simp[ha]),if_neg (by simp[ha])];have e1:addI .i64 ((0:Nat):Int) 1=((1:Nat):Int):=g9 (by omega);rw[e1,g6h,if_pos (by decide),if_pos (show inR ((1:Nat):Int) ([a,b]:List Int).length=true from g6 (k:=1) (n:=2) (by omega))];simp only[oZ4,oZ3,g7,List.getD_cons_succ,List.getD_cons_zero];by_cases hb:b=0
     · rw[if_neg (by simp[hb]),if_neg (by simp[hb])];have e2:addI .i64 ((1:Nat):Int) 1=((2:Nat):Int):=g9 (by omega);rw[e2,g6h,if_neg (by decide)]
     · rw[if_pos (by simp[hb]),if_pos hb]
   · rw[if_pos (by simp[ha]),if_pos ha]
 have h1:g6h (0,[a,b],(([a,b]:List Int).length:Int),0)=g6h (0,[a,b],((2:Nat):Int),((0:Nat):Int)):=rfl;rw[h1,h0];by_cases ha:a=0
 · by_cases hb:b=0 <;> simp[ha,hb]
 · simp[ha]
theorem ghs :∀a:List UInt8,Op.bytesLess a a=false
 | []=>rfl
 | x::r=>by
   simp[Op.bytesLess,ghs r]
theorem gjh{a b:SValue}(ha:I64 a.Int_)(hb:I64 b.Int_) :∃r,g63 (a,b)=some r∧g6r (a,b)=some r:=by
 rw[g63,g6r];by_cases hk:a.Kind=b.Kind
 · rw[if_neg (show ¬((!(decide (a.Kind=b.Kind)))=true) by simp[hk]),if_neg (show ¬((!(decide (a.Kind=b.Kind)))=true) by simp[hk])];by_cases k1:a.Kind=1
   · rw[if_pos (show decide (a.Kind=1)=true by simp[k1]),if_pos (show decide (a.Kind=1)=true by simp[k1])];simp only[g3h];cases eqB a.Bool_ b.Bool_ <;> cases b.Bool_ <;> exact⟨_,rfl,rfl⟩
   · rw[if_neg (show ¬(decide (a.Kind=1)=true) by simp[k1]),if_neg (show ¬(decide (a.Kind=1)=true) by simp[k1])];by_cases k2:a.Kind=2
     · rw[if_pos (show decide (a.Kind=2)=true by simp[k2]),if_pos (show decide (a.Kind=2)=true by simp[k2]),grq ha,grq hb,gro ha,gro hb];simp only[oZ4,oZ3,cmp1,g3h];by_cases he:a.Int_=b.Int_
       · rw[he];exact⟨0,by simp,by simp⟩
       · have hne:zig a.Int_≠zig b.Int_:=fun h=>he (g10u h)
         rcases Int.lt_or_gt_of_ne hne with h | h
         · exact⟨-1,by simp[h],by simp[h,he]⟩
         · have:¬zig a.Int_ < zig b.Int_:=by omega
           exact⟨1,by simp[h,this],by simp[h,he,this]⟩
     · rw[if_neg (show ¬(decide (a.Kind=2)=true) by simp[k2]),if_neg (show ¬(decide (a.Kind=2)=true) by simp[k2])];by_cases k3:a.Kind=3
       · rw[if_pos (show decide (a.Kind=3)=true by simp[k3]),if_pos (show decide (a.Kind=3)=true by simp[k3])];simp only[oZ4,oZ3,cmp2,cmp3,or2,g3h];by_cases hl:a.Str.length=b.Str.length
         · have hq:¬((!(decide ((a.Str.length:Int)=(b.Str.length:Int))))=true):=by simp;omega
           rw[if_neg hq,hl];have e1:¬((b.Str.length:Int) < (b.Str.length:Int)):=by omega
           simp only[e1,if_false,ne_eq,not_true_eq_false];by_cases he:a.Str=b.Str
           · rw[he,ghs];exact⟨0,by simp,by simp⟩
           · cases hb:Op.bytesLess a.Str b.Str with
             | true=>exact⟨-1,by simp,by simp[he]⟩
             | false=>exact⟨1,by simp[he],by simp[he]⟩
         · have hq:(!(decide ((a.Str.length:Int)=(b.Str.length:Int))))=true:=by simp;omega
           rw[if_pos hq];by_cases h:a.Str.length < b.Str.length
           · have e1:(a.Str.length:Int) < (b.Str.length:Int):=by omega
             exact⟨-1,by simp[e1],by simp[e1]⟩
           · have e1:¬((a.Str.length:Int) < (b.Str.length:Int)):=by omega
             have e2:(b.Str.length:Int) < (a.Str.length:Int):=by omega
             exact⟨1,by simp[e1,e2],by simp[e1]⟩
       · rw[if_neg (show ¬(decide (a.Kind=3)=true) by simp[k3]),if_neg (show ¬(decide (a.Kind=3)=true) by simp[k3])];by_cases k4:a.Kind=4
         · rw[if_pos (show decide (a.Kind=4)=true by simp[k4]),if_pos (show decide (a.Kind=4)=true by simp[k4])];simp only[oZ4,oZ3,cmp2,g3h];by_cases he:a.ID=b.ID
           · rw[he];exact⟨0,by simp,by simp⟩
           · rcases Int.lt_or_gt_of_ne he with h | h
             · exact⟨-1,by simp[h],by simp[h,he]⟩
             · have:¬a.ID < b.ID:=by omega
               exact⟨1,by simp[h,this],by simp[h,he,this]⟩
         · rw[if_neg (show ¬(decide (a.Kind=4)=true) by simp[k4]),if_neg (show ¬(decide (a.Kind=4)=true) by simp[k4])];exact⟨0,rfl,rfl⟩
 · rw[if_pos (show(!(decide (a.Kind=b.Kind)))=true by simp[hk]),if_pos (show(!(decide (a.Kind=b.Kind)))=true by simp[hk])];exact⟨0,rfl,rfl⟩
end
section
open Go Go.Proofs.YthnmepafpikaiaaGreat.Shv
set_option maxRecDepth 100000
def Both(o1 o2:Option Bool) :Prop:=∃r,o1=some r∧o2=some r
theorem gji {γ δ : Type} (L : Nat → Option (Bool ⊕ γ)) (L' : Nat → Option (Bool ⊕ δ)) (n : Nat) (p : Nat → Bool) (g : γ) (g' : δ)
   (h:∀i,i < n→L i=if p i=true then L (i+1)else some (.inl false)) (he:L n=some (.inr g))
   (h':∀i,i < n→L' i=if p i=true then L' (i+1)else some (.inl false)) (he':L' n=some (.inr g')):
   (L 0=some (.inr g)∧L' 0=some (.inr g')∧∀j,j < n→p j=true)∨(L 0=some (.inl false)∧L' 0=some (.inl false)∧∃j,j < n∧p j=false):=by
 rcases scan L n p (.inl false) (.inr g) h he with⟨a1,a2⟩ | ⟨a1,j,a2,a3⟩ <;> rcases scan L' n p (.inl false) (.inr g') h' he' with⟨b1,b2⟩ | ⟨b1,k,b2,b3⟩
 · exact .inl ⟨a1,b1,a2⟩
 · have:=a2 k b2;rw[b3]at this;cases this
 · have:=b2 j a2;rw[a3]at this;cases this
 · exact .inr ⟨a1,b1,j,a2,a3⟩
def g8w(k:Int) :Prop:=1≤k∧k≤9
theorem gt2{v:SValue}(hk:g8w v.Kind) :∃p,gab v=some p∧g5p v=some p∧(p=true→v.Kind≠5→v.Kind≠6→v.Rest=[]):=by
 obtain⟨K,B,I,S,ID,Ks,Is,R⟩:=v;simp only at hk;rw[gab,SValue.g13,g5p];have:K=1∨K=2∨K=3∨K=4∨K=5∨K=6∨K=7∨K=8∨K=9:=by unfold g8w at hk;omega
 have eI:∀(x:Int),decide (x=x)=true:=fun x=>by simp
 rcases this with rfl | rfl | rfl | rfl | rfl | rfl | rfl | rfl | rfl
 all_goals
   refine⟨_,rfl,?_,?_⟩
   · simp[gcb,eqB]
     try (cases B <;> simp)
   · simp[gcb,eqB]
section
variable {ts:List SType} (hn:ts.length < 9223372036854775807) (hT:∀t,t∈ts→OkT t) (hK:∀t,t∈ts→g8w t.Kind)
def Fit(ts:List SType)(x:SValue) :Prop:=∀t plain,Both (g3w ((⟨ts⟩:SSchema),t,x,plain)) (g22 ((⟨ts⟩:SSchema),t,x,plain))
theorem gp3 {l : List SValue} (hl : l.length ≤ reachBytes) (ih : ∀ x, x ∈ l → Fit ts x) (t : Int) (plain : Bool) :
   Both (g6c ((⟨ts⟩:SSchema),t,l,plain)) (g4j ((⟨ts⟩:SSchema),t,l,plain)):=by
 have hr:=gz hl
 let p:Nat→Bool:=fun i=>(g3w ((⟨ts⟩:SSchema),t,l.getD i dSValue,plain)).getD false
 have hp:∀i,i < l.length→g3w ((⟨ts⟩:SSchema),t,l.getD i dSValue,plain)=some (p i)∧g22 ((⟨ts⟩:SSchema),t,l.getD i dSValue,plain)=some (p i):=by
   intro i hi;obtain⟨r,h1,h2⟩:=ih _ (gh hi dSValue) t plain;simp only[p,h1,h2,Option.getD_some,and_self]
 have hf:=g9w (fun i=>g12 (l,(l.length:Int),(i:Int),ts,t,plain)) l.length (fun i=>!(p i)) (fun i=>.inl ((i:Int),ts,t,plain)) (.inr (ts,t,plain))
   (fun i hi=>by
     rw[g12,if_pos (by simp;omega),if_pos (g6 hi),gdm];simp only[SValue.g13,g7];rw[(hp i hi).1,g9 (by omega)];rfl)
   (by rw[g12,if_neg (by simp)])
 have hs:=scan (fun i=>g1v (t,l,plain,(i:Int),ts)) l.length p (.inl false) (.inr ())
   (fun i hi=>by
     rw[g1v,if_pos (by simp;omega),if_pos (g6 hi)];simp only[SValue.g13,g7];rw[(hp i hi).2,g9 (by omega)];cases p i <;> rfl)
   (by rw[g1v,if_neg (by simp)])
 have e1:g12 (l,(l.length:Int),((0:Nat):Int),ts,t,plain)=g12 (l,(l.length:Int),0,ts,t,plain):=rfl;have e2:g1v (t,l,plain,((0:Nat):Int),ts)=g1v (t,l,plain,0,ts):=rfl;simp only[e1]at hf;simp only[e2]at hs;rw[g6c,g2w,g4b,g4j];rcases hf with⟨j,a1,a2,a3,a4⟩ | ⟨a1,a4⟩ <;> rcases hs with⟨b1,b2⟩ | ⟨b1,k,b2,b3⟩
 · have:=b2 j a1;simp[this]at a2
 · rw[a4,b1];refine⟨false,?_,rfl⟩;have e:decide ((0:Int)≤(j:Int))=true:=by simp
   simp only[oZ4,oZ3,e,Bool.not_true]
 · rw[a4,b1];exact⟨true,rfl,rfl⟩
 · have:=a1 k b2;simp[b3]at this
def restP(t:SType)(l:List SRaw)(i:Nat) :Bool:=
 !((g2s (t,(l.getD i dSRaw).ID)).getD (0,false)).2 && (decide (1≤(l.getD i dSRaw).ID) && decide ((l.getD i dSRaw).ID≤1000)) && (decide (i=0) || decide ((l.getD (i - 1) dSRaw).ID < (l.getD i dSRaw).ID))
theorem gzw {γ : Type} (kn f Z : Bool) (sI : Int) (I1 C : Int → Bool) (X Y : Option γ) (hI1 : Z = true → I1 sI = true) :
   ((if(!kn)=true then some f else some false) >>=fun r_17=>some (bif kn then true else(!r_17)) >>=fun t131=>some Z >>=fun t134=>some sI >>=fun t141=>
     if(I1 t141 || (!((!t131) && t134)))=true then if(bif t131 then true else bif t134 then C t141 else false)=true then X else Y else none)=if(!kn && f && (!Z || !(C sI)))=true then Y else X:=by
 simp only[oZ4,oZ3];generalize C sI=c;cases Z with
 | true=>rw[hI1 rfl];cases kn <;> cases f <;> cases c <;> rfl
 | false=>generalize I1 sI=d;cases kn <;> cases f <;> cases d <;> cases c <;> rfl
theorem gks {γ : Type} (R3 I0 Z : Bool) (sI : Int) (I1 C : Int → Bool) (X Y : Option γ) (hI0 : I0 = true) (hI1 : Z = true → I1 sI = true) :
   (some R3 >>=fun r_3=>some (!r_3) >>=fun t31=>some Z >>=fun t34=>
     if(I0 || (!((!t31) && t34)))=true then some sI >>=fun t43=>if(I1 t43 || (!((!t31) && t34)))=true then if(bif t31 then true else bif t34 then C t43 else false)=true then X else Y else none else none)=if(R3 && (!Z || !(C sI)))=true then Y else X:=by
 subst hI0;simp only[oZ4,oZ3];generalize C sI=c;cases Z with
 | true=>rw[hI1 rfl];cases R3 <;> cases c <;> rfl
 | false=>generalize I1 sI=d;cases R3 <;> cases d <;> cases c <;> rfl
theorem g7y{i:Nat}(h:0 < i)(h2:i < 9223372036854775807) :subI .i64 (i:Int) 1=((i - 1:Nat):Int):=by
 rw[g5s (by omega) (by omega)];omega
theorem rests {t : SType} (ht : t.Members.length < 9223372036854775807) (v : SValue) (hl : v.Rest.length ≤ reachBytes) (plain : Bool) (ts : List SType) :
   let inr:=(plain,ts,v.Kind,v.Bool_,v.Int_,v.Str,v.ID,v.Keys,v.Items,v.Rest,t.Kind,t.Name,t.Low,t.High,t.Max,t.Symbols,t.Members,t.Key,t.Elem,t.Open)
   ((g33 (plain,v.Rest,(v.Rest.length:Int),0,ts,v,t.Kind,t.Name,t.Low,t.High,t.Max,t.Symbols,t.Members,t.Key,t.Elem,t.Open)=some (.inr inr)∧g4v (t,v.Rest)=some true)∨
     (g33 (plain,v.Rest,(v.Rest.length:Int),0,ts,v,t.Kind,t.Name,t.Low,t.High,t.Max,t.Symbols,t.Members,t.Key,t.Elem,t.Open)=some (.inl false)∧g4v (t,v.Rest)=some false)):=by
 intro inr;have hr:=gz hl;have hpe:∀i,i < v.Rest.length→∀r,g2s (t,(v.Rest.getD i dSRaw).ID)=some r→restP t v.Rest i=(!r.2 && (bif decide (1≤(v.Rest.getD i dSRaw).ID)then decide ((v.Rest.getD i dSRaw).ID≤1000)else false) && (!(decide ((0:Int) < (i:Int))) || !(decide ((v.Rest.getD i dSRaw).ID≤(v.Rest.getD (subI .i64 (i:Int) 1).toNat dSRaw).ID)))):=by
   intro i hi r hm;unfold restP;rw[hm,Option.getD_some];generalize (v.Rest.getD i dSRaw).ID=x;by_cases h0:i=0
   · subst h0;cases r.2 <;> by_cases h1:1≤x <;> by_cases h2:x≤1000 <;> simp[h1,h2]
   · have hz:decide ((0:Int) < (i:Int))=true:=by simp;omega
     rw[hz,g7y (by omega) (by omega),g7];generalize (v.Rest.getD (i - 1) dSRaw).ID=y;cases r.2 <;> by_cases h1:1≤x <;> by_cases h2:x≤1000 <;> by_cases h3:y < x <;> simp[h0,h1,h2,h3] <;> omega
 have h:=gji (fun i=>g33 (plain,v.Rest,(v.Rest.length:Int),(i:Int),ts,v,t.Kind,t.Name,t.Low,t.High,t.Max,t.Symbols,t.Members,t.Key,t.Elem,t.Open)) (fun i=>g1n (v.Rest,(i:Int),t)) v.Rest.length (restP t v.Rest) inr ()
   (fun i hi=>by
     obtain⟨r,h1,_,_⟩:=g3n (t:=t) (v.Rest.getD i dSRaw).ID ht;rw[g33,if_pos (by simp;omega),if_pos (g6 hi),hpe i hi r h1];simp only[g7,ghh,SValue.g13,gad,oZ4,oZ3];rw[h1,g9 (by omega)]
     exact gzw r.2 (bif decide (1≤(v.Rest.getD i dSRaw).ID)then decide ((v.Rest.getD i dSRaw).ID≤1000)else false) (decide ((0:Int) < (i:Int))) (subI .i64 (i:Int) 1) (fun j=>inR j v.Rest.length) (fun j=>decide ((v.Rest.getD i dSRaw).ID≤(v.Rest.getD j.toNat dSRaw).ID)) _ _ (fun hz=>by
       have:0 < i:=by simp at hz;omega
       show inR _ _=true;rw[g7y this (by omega)];exact g6 (by omega)))
   (by rw[g33,if_neg (by simp)])
   (fun i hi=>by
     obtain⟨r,h1,h2,_⟩:=g3n (t:=t) (v.Rest.getD i dSRaw).ID ht;rw[g1n,if_pos (by simp;omega),if_pos (g6 hi),hpe i hi r h1];simp only[g7];rw[h2,g9 (by omega)];have hid:g1f ((v.Rest.getD i dSRaw).ID,r.2)=some ((!r.2) && (bif decide (1≤(v.Rest.getD i dSRaw).ID)then decide ((v.Rest.getD i dSRaw).ID≤1000)else false)):=by
       rw[g1f];cases r.2 <;> cases decide (1≤(v.Rest.getD i dSRaw).ID) <;> rfl
     show(if inR (i:Int) v.Rest.length=true then g1f ((v.Rest.getD i dSRaw).ID,r.2) >>=_ else none)=_;rw[if_pos (g6 hi),hid]
     exact gks ((!r.2) && (bif decide (1≤(v.Rest.getD i dSRaw).ID)then decide ((v.Rest.getD i dSRaw).ID≤1000)else false)) (inR (i:Int) v.Rest.length) (decide ((0:Int) < (i:Int))) (subI .i64 (i:Int) 1) (fun j=>inR j v.Rest.length) (fun j=>decide ((v.Rest.getD i dSRaw).ID≤(v.Rest.getD j.toNat dSRaw).ID)) _ _ (g6 hi) (fun hz=>by
       have:0 < i:=by simp at hz;omega
       show inR _ _=true;rw[g7y this (by omega)];exact g6 (by omega)))
   (by rw[g1n,if_neg (by simp)])
 have e1:g33 (plain,v.Rest,(v.Rest.length:Int),((0:Nat):Int),ts,v,t.Kind,t.Name,t.Low,t.High,t.Max,t.Symbols,t.Members,t.Key,t.Elem,t.Open)=g33 (plain,v.Rest,(v.Rest.length:Int),0,ts,v,t.Kind,t.Name,t.Low,t.High,t.Max,t.Symbols,t.Members,t.Key,t.Elem,t.Open):=rfl;have e2:g1n (v.Rest,((0:Nat):Int),t)=g1n (v.Rest,0,t):=rfl
 simp only[e1,e2]at h;rw[g4v];rcases h with⟨h1,h2,_⟩ | ⟨h1,h2,_⟩
 · exact .inl ⟨h1,by rw[h2];rfl⟩
 · exact .inr ⟨h1,by rw[h2];rfl⟩
end
end
section
open Go Go.Proofs.YthnmepafpikaiaaGreat.Shv
set_option maxRecDepth 100000
theorem gw1 {ts : List SType} {t : SType} {v : SValue} (hl : v.Items.length = t.Members.length) (hr : t.Members.length < 9223372036854775807) (ih : ∀ x, x ∈ v.Items → Fit ts x) (plain : Bool) :
   (g3i (plain,t.Members,(t.Members.length:Int),0,ts,v.Kind,v.Bool_,v.Int_,v.Str,v.ID,v.Keys,v.Items,v.Rest)=some (.inr ())∧g18 (plain,0,ts,v,t.Kind,t.Name,t.Low,t.High,t.Max,t.Symbols,t.Members,t.Key,t.Elem,t.Open)=some (.inr ()))∨
   (g3i (plain,t.Members,(t.Members.length:Int),0,ts,v.Kind,v.Bool_,v.Int_,v.Str,v.ID,v.Keys,v.Items,v.Rest)=some (.inl false)∧g18 (plain,0,ts,v,t.Kind,t.Name,t.Low,t.High,t.Max,t.Symbols,t.Members,t.Key,t.Elem,t.Open)=some (.inl false)):=by
 let p:Nat→Bool:=fun i=>(g3w ((⟨ts⟩:SSchema),(t.Members.getD i dSMember).Type_,v.Items.getD i dSValue,plain)).getD false
 have hp:∀i,i < t.Members.length→g3w ((⟨ts⟩:SSchema),(t.Members.getD i dSMember).Type_,v.Items.getD i dSValue,plain)=some (p i)∧g22 ((⟨ts⟩:SSchema),(t.Members.getD i dSMember).Type_,v.Items.getD i dSValue,plain)=some (p i):=by
   intro i hi;obtain⟨r,h1,h2⟩:=ih _ (gh (by omega:i < v.Items.length) dSValue) (t.Members.getD i dSMember).Type_ plain;simp only[p,h1,h2,Option.getD_some,and_self]
 have h:=gji (fun i=>g3i (plain,t.Members,(t.Members.length:Int),(i:Int),ts,v.Kind,v.Bool_,v.Int_,v.Str,v.ID,v.Keys,v.Items,v.Rest)) (fun i=>g18 (plain,(i:Int),ts,v,t.Kind,t.Name,t.Low,t.High,t.Max,t.Symbols,t.Members,t.Key,t.Elem,t.Open)) t.Members.length p () ()
   (fun i hi=>by
     rw[g3i,if_pos (by simp;omega),if_pos (g6 hi),if_pos (g6 (by omega))];simp only[g7,SValue.g13];rw[(hp i hi).1,g9 (by omega)];cases p i <;> rfl)
   (by rw[g3i,if_neg (by simp)])
   (fun i hi=>by
     rw[g18,if_pos (by simp;omega),if_pos (g6 hi),if_pos (g6 (by omega))];simp only[g7,SValue.g13];rw[(hp i hi).2,g9 (by omega)];cases p i <;> rfl)
   (by rw[g18,if_neg (by simp;omega)])
 have e1:g3i (plain,t.Members,(t.Members.length:Int),((0:Nat):Int),ts,v.Kind,v.Bool_,v.Int_,v.Str,v.ID,v.Keys,v.Items,v.Rest)=g3i (plain,t.Members,(t.Members.length:Int),0,ts,v.Kind,v.Bool_,v.Int_,v.Str,v.ID,v.Keys,v.Items,v.Rest):=rfl
 have e2:g18 (plain,((0:Nat):Int),ts,v,t.Kind,t.Name,t.Low,t.High,t.Max,t.Symbols,t.Members,t.Key,t.Elem,t.Open)=g18 (plain,0,ts,v,t.Kind,t.Name,t.Low,t.High,t.Max,t.Symbols,t.Members,t.Key,t.Elem,t.Open):=rfl;simp only[e1,e2]at h;rcases h with⟨h1,h2,_⟩ | ⟨h1,h2,_⟩
 · exact .inl ⟨h1,h2⟩
 · exact .inr ⟨h1,h2⟩
theorem gjr{v:SValue}(h:OkV v) :I64 v.Int_:=by cases h with | mk _ _ _ _ _ _ _ _ n1 n2=>exact n2
theorem gyc {ts : List SType} {t : SType} {v : SValue} (hr : v.Keys.length < 9223372036854775807) (hk : ∀ x, x ∈ v.Keys → OkV x) (plain : Bool) :
   let inr:=(plain,ts,v,t.Kind,t.Name,t.Low,t.High,t.Max,t.Symbols,t.Members,t.Key,t.Elem,t.Open)
   (g2t (plain,1,ts,v,t.Kind,t.Name,t.Low,t.High,t.Max,t.Symbols,t.Members,t.Key,t.Elem,t.Open)=some (.inr inr)∧gy (1,v)=some (.inr ()))∨
   (g2t (plain,1,ts,v,t.Kind,t.Name,t.Low,t.High,t.Max,t.Symbols,t.Members,t.Key,t.Elem,t.Open)=some (.inl false)∧gy (1,v)=some (.inl false)):=by
 intro inr;by_cases h0:v.Keys.length=0
 · left;refine⟨?_,?_⟩
   · rw[g2t,if_neg (by simp[h0]),SValue.g13]
   · rw[gy,if_neg (by simp[h0])]
 let c:Nat→Int:=fun i=>(g63 (v.Keys.getD i dSValue,v.Keys.getD (i+1) dSValue)).getD 0
 have hc:∀i,i+1 < v.Keys.length→g63 (v.Keys.getD i dSValue,v.Keys.getD (i+1) dSValue)=some (c i)∧g6r (v.Keys.getD i dSValue,v.Keys.getD (i+1) dSValue)=some (c i):=by
   intro i hi;obtain⟨r,h1,h2⟩:=gjh (gjr (hk _ (gh (by omega:i < v.Keys.length) dSValue))) (gjr (hk _ (gh hi dSValue)));simp only[c,h1,h2,Option.getD_some,and_self]
 have h:=gji (fun i=>g2t (plain,((i+1:Nat):Int),ts,v,t.Kind,t.Name,t.Low,t.High,t.Max,t.Symbols,t.Members,t.Key,t.Elem,t.Open)) (fun i=>gy (((i+1:Nat):Int),v)) (v.Keys.length - 1) (fun i=>!(decide (0≤c i))) inr ()
   (fun i hi=>by
     have hs:=g7y (i:=i+1) (by omega) (by omega);have hs':subI .i64 ((i+1:Nat):Int) 1=(i:Int):=by rw[hs];simp
     rw[g2t,if_pos (by simp;omega)];simp only[oZ4,oZ3];rw[hs',if_pos (g6 (by omega)),if_pos (g6 (by omega))];simp only[g7,SValue.g13];rw[(hc i (by omega)).1,g9 (by omega)];simp only[oZ3];cases decide (0≤c i) <;> rfl)
   (by
     have e:v.Keys.length - 1+1=v.Keys.length:=by omega
     rw[e,g2t,if_neg (by simp),SValue.g13])
   (fun i hi=>by
     have hs:=g7y (i:=i+1) (by omega) (by omega);have hs':subI .i64 ((i+1:Nat):Int) 1=(i:Int):=by rw[hs];simp
     rw[gy,if_pos (by simp;omega)];simp only[oZ4,oZ3];rw[hs',if_pos (g6 (by omega)),if_pos (g6 (by omega))];simp only[g7,SValue.g13];rw[(hc i (by omega)).2,g9 (by omega)];simp only[oZ3];cases decide (0≤c i) <;> rfl)
   (by
     have e:v.Keys.length - 1+1=v.Keys.length:=by omega
     rw[e,gy,if_neg (by simp)])
 have e1:g2t (plain,((0+1:Nat):Int),ts,v,t.Kind,t.Name,t.Low,t.High,t.Max,t.Symbols,t.Members,t.Key,t.Elem,t.Open)=g2t (plain,1,ts,v,t.Kind,t.Name,t.Low,t.High,t.Max,t.Symbols,t.Members,t.Key,t.Elem,t.Open):=rfl;have e2:gy (((0+1:Nat):Int),v)=gy (1,v):=rfl;simp only[e1,e2]at h;rcases h with⟨h1,h2,_⟩ | ⟨h1,h2,_⟩
 · exact .inl ⟨h1,h2⟩
 · exact .inr ⟨h1,h2⟩
theorem gna{α β:Type}{a:List α}{b:List β}(h:decide ((a.length:Int)=(b.length:Int))=true) :a.length=b.length:=by
 have:=of_decide_eq_true h;omega
theorem k4e {o : Option (Int × Bool)} {r : Int × Bool} (ho : o = some r) (O plain f : Bool) :
   (o >>=fun r_1=>some (bif O then(!plain)else false) >>=fun t85=>(if((!r_1.2) && t85)=true then some f else some false) >>=fun r_4=>some (bif r_1.2 then true else bif t85 then r_4 else false))=some (r.2 || (O && !plain && f)):=by
 subst ho;obtain⟨k,kn⟩:=r;cases kn <;> cases O <;> cases plain <;> cases f <;> rfl
theorem k4r {o : Option (Int × Bool)} {r : Int × Bool} (ho : o = some r) (O plain f : Bool) (F : Bool → Option Bool) (hF : F false = some f) :
   (o >>=fun r_1=>some (bif O then(!plain)else false) >>=fun t85=>(if((!r_1.2) && t85)=true then F r_1.2 else some false) >>=fun r_4=>some (bif r_1.2 then true else bif t85 then r_4 else false))=some (r.2 || (O && !plain && f)):=by
 subst ho;obtain⟨k,kn⟩:=r;cases kn <;> cases O <;> cases plain <;> simp[hF]
theorem k7{o:Option Bool}{r:Bool}(ho:o=some r)(q:Bool) :(some q >>=fun t244=>(if t244=true then o else some false) >>=fun r_10=>some (bif t244 then r_10 else false))=some (q && r):=by
 subst ho;cases q <;> cases r <;> rfl
theorem k6k(c I1 I2 f:Bool){X:Option Bool}(hX:c=true→X=some f)(h1:c=true→I1=true∧I2=true) :(some c >>=fun t188=>if(I1 || (!t188))=true then if(I2 || (!t188))=true then(if t188=true then X else some false) >>=fun r_8=>some (bif t188 then r_8 else false)else none else none)=some (c && f):=by
 cases c with
 | true=>obtain⟨a,b⟩:=h1 rfl;subst a;subst b;rw[hX rfl];rfl
 | false=>cases I1 <;> cases I2 <;> rfl
theorem k5r (A b q m : Bool) {ro : Option Bool} (hr : ro = some q) {L : Option (Bool ⊕ Unit)} (hL : A = true → L = some (if m = true then .inr () else .inl false)) :
   (if(bif (bif false then true else(!true))then true else b)=true then some false else some (!A) >>=fun t107=>(if(!t107)=true then ro else some false) >>=fun r_5=>if(bif t107 then true else(!r_5))=true then some false else L >>=fun o=>match o with | .inl x=>some x | .inr _=>some true)=some (A && !b && q && m):=by
 subst hr;cases A with
 | false=>cases b <;> rfl
 | true=>
   rw[hL rfl];cases b <;> cases q <;> cases m <;> rfl
theorem k6u(g f c1 c2 I E:Bool)(h1:c2=true→I=true) :(some g >>=fun t209=>(if t209=true then some f else some false) >>=fun r_9=>some (bif bif bif t209 then r_9 else false then c1 else false then c2 else false) >>=fun t226=>if(I || (!t226))=true then some (bif t226 then E else false)else none)=some (g && f && c1 && c2 && E):=by
 cases c2 with
 | true=>have:=h1 rfl;subst this;cases g <;> cases f <;> cases c1 <;> cases E <;> rfl
 | false=>cases g <;> cases f <;> cases c1 <;> cases I <;> rfl
theorem k8r (c : Bool) {ok oi : Option Bool} {k i : Bool} (hk : ok = some k) (hi : oi = some i) {L : Option (Bool ⊕ Unit)} {q : Bool} (hL : L = some (if q = true then .inr () else .inl false)) :
   (some c >>=fun t239=>(if(!t239)=true then ok else some false) >>=fun r_12=>some (bif t239 then true else(!r_12)) >>=fun t249=>(if(!t249)=true then oi else some false) >>=fun r_13=>if(bif t249 then true else(!r_13))=true then some false else L >>=fun o_3=>match o_3 with | .inl o_4=>some o_4 | .inr _=>some true)=some (!c && k && q && i):=by
 subst hk;subst hi;subst hL;cases c <;> cases k <;> cases q <;> cases i <;> rfl
theorem gyd{ts:List SType}(hn:ts.length < 9223372036854775807)(hT:∀t,t∈ts→OkT t)(hK:∀t,t∈ts→g8w t.Kind){v:SValue}(hv:OkV v) :Fit ts v:=by
 induction hv with
 | mk v hs h1 h2 h3 hk hi hrd n1 n2 n3 n4 ihk ihi=>
   intro t plain;rw[g3w,g22];by_cases hout:(bif decide (t < 0)then true else decide (((⟨ts⟩:SSchema).Types.length:Int)≤t))=true
   · rw[if_pos hout,if_pos hout];exact⟨false,rfl,rfl⟩
   · rw[if_neg hout,if_neg hout];have hin:0≤t∧t < ts.length:=by
       simp only[Bool.cond_eq_ite]at hout;by_cases h0:t < 0
       · simp[h0]at hout
       · simp[h0]at hout;omega
     obtain⟨j,rfl⟩:∃j:Nat,t=(j:Int):=⟨t.toNat,by omega⟩
     have hj:j < ts.length:=by omega
     rw[if_pos (g6 hj),if_pos (g6 hj)];simp only[g7,SValue.g13];have hxT:=hT _ (gh hj dSType);have hxK:=hK _ (gh hj dSType);generalize ts.getD j dSType=x at hxT hxK ⊢;have hm:=gz (g3c hxT.mems);have hsy:=gz (g3c hxT.syms);by_cases hkd:v.Kind=x.Kind
     · obtain⟨p,p1,p2,p3⟩:=gt2 (v:=v) (by rw[hkd];exact hxK);rw[p1,p2];cases p with
       | false=>exact⟨false,by simp[hkd],by simp[hkd]⟩
       | true=>
         have hitems:=gp3 (ts:=ts) h2 ihi;have hkeys:=gp3 (ts:=ts) h1 ihk;obtain⟨K,N,L,H,M,S,Ms,Ke,E,O⟩:=x;obtain⟨vK,B,I,Sx,ID,Ks,Is,R⟩:=v;simp only at hkd;subst hkd;have p3':=p3 rfl;simp only at p3' hxK hm hsy h1 h2 h3;have hc:vK=1∨vK=2∨vK=3∨vK=4∨vK=5∨vK=6∨vK=7∨vK=8∨vK=9:=by unfold g8w at hxK;omega
         rcases hc with rfl | rfl | rfl | rfl | rfl | rfl | rfl | rfl | rfl
         · obtain rfl:R=[]:=p3' (by decide) (by decide);cases plain <;> exact⟨true,rfl,rfl⟩
         · obtain rfl:R=[]:=p3' (by decide) (by decide);cases plain <;> exact⟨_,rfl,rfl⟩
         · obtain rfl:R=[]:=p3' (by decide) (by decide);cases plain <;> exact⟨_,rfl,rfl⟩
         · obtain rfl:R=[]:=p3' (by decide) (by decide);obtain⟨r,r1,r2,_⟩:=gbd (t:=⟨4,N,L,H,M,S,Ms,Ke,E,O⟩) ID hsy;have hf:g1f (ID,false)=some (bif decide (1≤ID)then decide (ID≤1000)else false):=by
             rw[g1f];cases decide (1≤ID) <;> rfl
           cases plain
           · exact⟨_,k4e r1 O false _,k4r r2 O false _ (fun b=>g1f (ID,b)) hf⟩
           · exact⟨_,k4e r1 O true _,k4r r2 O true _ (fun b=>g1f (ID,b)) hf⟩
         ·
           have hrs:=rests (t:=⟨5,N,L,H,M,S,Ms,Ke,E,O⟩) hm ⟨5,B,I,Sx,ID,Ks,Is,R⟩ h3 plain ts;have hps:decide ((Is.length:Int)=(Ms.length:Int))=true→_:=fun hA=>gw1 (ts:=ts) (t:=⟨5,N,L,H,M,S,Ms,Ke,E,O⟩) (v:=⟨5,B,I,Sx,ID,Ks,Is,R⟩) (gna hA) hm ihi plain
           have hq:∃q:Bool,g33 (plain,R,(R.length:Int),0,ts,⟨5,B,I,Sx,ID,Ks,Is,R⟩,5,N,L,H,M,S,Ms,Ke,E,O)=some (if q=true then .inr (plain,ts,5,B,I,Sx,ID,Ks,Is,R,5,N,L,H,M,S,Ms,Ke,E,O)else .inl false)∧g4v (⟨5,N,L,H,M,S,Ms,Ke,E,O⟩,R)=some q:=by
             rcases hrs with⟨a,b⟩ | ⟨a,b⟩
             · exact⟨true,a,b⟩
             · exact⟨false,a,b⟩
           obtain⟨q,q1,q2⟩:=hq;have hmm:∃m:Bool,decide ((Is.length:Int)=(Ms.length:Int))=true→(g3i (plain,Ms,(Ms.length:Int),0,ts,5,B,I,Sx,ID,Ks,Is,R)=some (if m=true then .inr ()else .inl false)∧g18 (plain,0,ts,⟨5,B,I,Sx,ID,Ks,Is,R⟩,5,N,L,H,M,S,Ms,Ke,E,O)=some (if m=true then .inr ()else .inl false)):=by
             cases hA:decide ((Is.length:Int)=(Ms.length:Int))with
             | false=>exact⟨true,fun h=>by cases h⟩
             | true=>
               rcases hps hA with⟨a,b⟩ | ⟨a,b⟩
               · exact⟨true,fun _=>⟨a,b⟩⟩
               · exact⟨false,fun _=>⟨a,b⟩⟩
           obtain⟨m,hm'⟩:=hmm;refine⟨(decide ((Is.length:Int)=(Ms.length:Int))) && !(bif plain then decide (0 < (R.length:Int))else false) && q && m,?_,?_⟩
           · show(if(bif (!(decide ((Is.length:Int)=(Ms.length:Int))))then true else bif plain then decide (0 < (R.length:Int))else false)=true then some false else g33 (plain,R,(R.length:Int),0,ts,⟨5,B,I,Sx,ID,Ks,Is,R⟩,5,N,L,H,M,S,Ms,Ke,E,O) >>=_)=_;rw[q1];cases hA:decide ((Is.length:Int)=(Ms.length:Int))with
             | false=>rfl
             | true=>
               cases (bif plain then decide (0 < (R.length:Int))else false)with
               | true=>rfl
               | false=>
                 cases q with
                 | false=>rfl
                 | true=>
                   show(g3i (plain,Ms,(Ms.length:Int),0,ts,5,B,I,Sx,ID,Ks,Is,R) >>=_)=_;rw[(hm' hA).1];cases m <;> rfl
           · exact k5r (decide ((Is.length:Int)=(Ms.length:Int))) (bif plain then decide (0 < (R.length:Int))else false) q m q2 (fun hA=>(hm' hA).2)
         ·
           obtain⟨r,r1,r2,hf⟩:=g3n (t:=⟨6,N,L,H,M,S,Ms,Ke,E,O⟩) ID hm;have hid:∀b,b=false→g1f (ID,b)=some (bif decide (1≤ID)then decide (ID≤1000)else false):=by
             intro b hb;subst hb;rw[g1f];cases decide (1≤ID) <;> rfl
           have hX:∃f:Bool,(bif decide ((Is.length:Int)=1)then decide ((R.length:Int)=0)else false)=true→(g3w ((⟨ts⟩:SSchema),(Ms.getD r.1.toNat dSMember).Type_,Is.getD (0:Int).toNat dSValue,plain)=some f∧g22 ((⟨ts⟩:SSchema),(Ms.getD r.1.toNat dSMember).Type_,Is.getD (0:Int).toNat dSValue,plain)=some f):=by
             by_cases h1':Is.length=1
             · obtain⟨f,f1,f2⟩:=ihi (Is.getD 0 dSValue) (gh (by omega:0 < Is.length) dSValue) (Ms.getD r.1.toNat dSMember).Type_ plain;exact⟨f,fun _=>⟨f1,f2⟩⟩
             · refine⟨false,fun h=>?_⟩
               exfalso
               have:decide ((Is.length:Int)=1)=false:=by simp;omega
               rw[this]at h;cases h
           obtain⟨f,hfX⟩:=hX;have hidx:r.2=true→(bif decide ((Is.length:Int)=1)then decide ((R.length:Int)=0)else false)=true→inR r.1 Ms.length=true∧inR 0 Is.length=true:=by
             intro h6 hc';constructor
             · rcases hf with⟨k,k1,_,_,rfl⟩ | ⟨_,rfl⟩
               · exact g6 k1
               · cases h6
             · by_cases h1':Is.length=1
               · exact g6 (k:=0) (by omega)
               · have:decide ((Is.length:Int)=1)=false:=by simp;omega
                 rw[this]at hc';cases hc'
           have hR0:decide ((R.length:Int)=1)=true→inR 0 R.length=true:=by
             intro h;have:=of_decide_eq_true h;exact g6 (k:=0) (by omega)
           obtain⟨ri,rk⟩:=r;refine⟨if rk=true then(bif decide ((Is.length:Int)=1)then decide ((R.length:Int)=0)else false) && f else(bif O then(!plain)else false) && (bif decide (1≤ID)then decide (ID≤1000)else false) && decide ((Is.length:Int)=0) && decide ((R.length:Int)=1) && decide ((R.getD (0:Int).toNat dSRaw).ID=ID),?_,?_⟩
           · show(g2s (⟨6,N,L,H,M,S,Ms,Ke,E,O⟩,ID) >>=_)=_;rw[r1];cases rk with
             | true=>exact k6k _ (inR ri Ms.length) (inR 0 Is.length) f (fun h=>(hfX h).1) (hidx rfl)
             | false=>exact k6u (bif O then(!plain)else false) (bif decide (1≤ID)then decide (ID≤1000)else false) (decide ((Is.length:Int)=0)) (decide ((R.length:Int)=1)) (inR 0 R.length) (decide ((R.getD (0:Int).toNat dSRaw).ID=ID)) hR0
           · show(if(bif (bif false then true else(!true))then true else(bif plain then decide (0 < (R.length:Int))else false))=true then some false else g17 (⟨6,N,L,H,M,S,Ms,Ke,E,O⟩,ID) >>=_)=_;rw[r2];cases hb0:(bif plain then decide (0 < (R.length:Int))else false)with
             | true=>
               have hpl:plain=true:=by
                 cases plain with
                 | true=>rfl
                 | false=>cases hb0
               subst hpl;have hRl:decide ((R.length:Int)=0)=false:=by
                 have:=of_decide_eq_true (show decide (0 < (R.length:Int))=true from hb0);simp;intro e;rw[e]at this;simp at this
               rw[hRl];cases rk with
               | true=>cases decide ((Is.length:Int)=1) <;> rfl
               | false=>cases O <;> rfl
             | false=>
               cases rk with
               | true=>exact k6k _ (inR ri Ms.length) (inR 0 Is.length) f (fun h=>(hfX h).2) (hidx rfl)
               | false=>exact k6u (bif O then(!plain)else false) (bif decide (1≤ID)then decide (ID≤1000)else false) (decide ((Is.length:Int)=0)) (decide ((R.length:Int)=1)) (inR 0 R.length) (decide ((R.getD (0:Int).toNat dSRaw).ID=ID)) hR0
         · obtain rfl:R=[]:=p3' (by decide) (by decide);obtain⟨r,r1,r2⟩:=hitems E plain;cases plain
           · exact⟨_,k7 r1 _,k7 r2 _⟩
           · exact⟨_,k7 r1 _,k7 r2 _⟩
         · obtain rfl:R=[]:=p3' (by decide) (by decide);obtain⟨k,k1,k2⟩:=hkeys Ke plain;obtain⟨i,i1,i2⟩:=hitems E plain;have hks:=gyc (ts:=ts) (t:=⟨8,N,L,H,M,S,Ms,Ke,E,O⟩) (v:=⟨8,B,I,Sx,ID,Ks,Is,[]⟩) (gz h1) hk plain
           obtain⟨q,qa,qb⟩:∃q:Bool,g2t (plain,1,ts,⟨8,B,I,Sx,ID,Ks,Is,[]⟩,8,N,L,H,M,S,Ms,Ke,E,O)=some (if q=true then .inr (plain,ts,⟨8,B,I,Sx,ID,Ks,Is,[]⟩,8,N,L,H,M,S,Ms,Ke,E,O)else .inl false)∧gy (1,⟨8,B,I,Sx,ID,Ks,Is,[]⟩)=some (if q=true then .inr ()else .inl false):=by
             rcases hks with⟨a,b⟩ | ⟨a,b⟩
             · exact⟨true,a,b⟩
             · exact⟨false,a,b⟩
           refine⟨!(bif decide (M < (Ks.length:Int))then true else(!(decide ((Is.length:Int)=(Ks.length:Int))))) && k && q && i,?_,?_⟩
           · show(some (bif decide (M < (Ks.length:Int))then true else(!(decide ((Is.length:Int)=(Ks.length:Int))))) >>=fun t270=>(if(!t270)=true then g6c ((⟨ts⟩:SSchema),Ke,Ks,plain)else some false) >>=fun r_11=>if(bif t270 then true else(!r_11))=true then some false else g2t (plain,1,ts,⟨8,B,I,Sx,ID,Ks,Is,[]⟩,8,N,L,H,M,S,Ms,Ke,E,O) >>=_)=_
             rw[k1,qa];cases (bif decide (M < (Ks.length:Int))then true else(!(decide ((Is.length:Int)=(Ks.length:Int)))))with
             | true=>rfl
             | false=>
               cases k with
               | false=>rfl
               | true=>
                 cases q with
                 | false=>rfl
                 | true=>
                   show(g6c ((⟨ts⟩:SSchema),E,Is,plain) >>=fun r_12=>some r_12)=_;rw[i1];cases i <;> rfl
           · cases plain
             · exact k8r (bif decide (M < (Ks.length:Int))then true else(!(decide ((Is.length:Int)=(Ks.length:Int))))) k2 i2 qb
             · exact k8r (bif decide (M < (Ks.length:Int))then true else(!(decide ((Is.length:Int)=(Ks.length:Int))))) k2 i2 qb
         · obtain rfl:R=[]:=p3' (by decide) (by decide);obtain⟨r,r1,r2⟩:=hitems E plain;cases plain
           · exact⟨_,k7 r1 _,k7 r2 _⟩
           · exact⟨_,k7 r1 _,k7 r2 _⟩
     · exact⟨false,by simp[hkd],by simp[hkd]⟩
end
section
open Go Go.Proofs.YthnmepafpikaiaaGreat.Shv
set_option maxRecDepth 100000
theorem grr{U:Uni}{t:Ty}{l:List (t.den U.D)}(h:WF U ⟨.slice t,l⟩) :l.length≤reachBytes∧l.length*t.bytes U≤reachBytes∧∀x,x∈l→∀c,c∈t.row U x→WF U c:=by
 cases h with | slice t l h1 h2 h3=>exact⟨h1,h2,h3⟩
end
section
open Go Go.Proofs.YthnmepafpikaiaaGreat.Shv
set_option maxRecDepth 100000
theorem gw2(s:SSchema) :(⟨s.Types⟩:SSchema)=s:=by cases s;rfl
end
section
open Go Go.Proofs.YthnmepafpikaiaaGreat.Shv
set_option maxRecDepth 100000
def vbig(n:Nat) :List UInt8:=if n=0 then[]else vbig (n / 256)++[UInt8.ofNat (n % 256)]
termination_by n
decreasing_by omega
theorem grs{α:Type} :∀(l:List α) (k:Nat) (x:α),k < l.length→(l.set k x).drop k=x::l.drop (k+1)
 | [],k,x,h=>by simp at h
 | a::l,0,x,h=>by simp
 | a::l,k+1,x,h=>by simp[grs l k x (by simpa using h)]
theorem shrI8(n:Nat) :shrI .u64 (n:Int) 8=((n / 256:Nat):Int):=by
 unfold shrI;have:((2:Int) ^ min (8:Int).toNat IntKind.u64.bits)=256:=by decide
 rw[this,Int.fdiv_eq_ediv_of_nonneg _ (by omega)];omega
theorem gye :∀(i n:Nat) (b:List Int),n < 256 ^ i→i≤8→b.length=8→∃(i':Nat) (b':List Int),g64 ((n:Int),(i:Int),b)=some ((i':Int),b')∧i'≤8∧b'.length=8∧strOf (b'.drop i')=vbig n++strOf (b.drop i)
 | i,n,b,hn,hi,hb=>by
   rw[g64];by_cases h0:n=0
   · subst h0;rw[if_neg (by simp)];refine⟨i,b,rfl,hi,hb,?_⟩;rw[vbig,if_pos rfl];rfl
   · rw[if_pos (by simp;omega)]
     match i,hn,hi with
     | 0,hn,hi=>simp at hn;omega
     | i+1,hn,hi=>
       have hs:subI .i64 ((i+1:Nat):Int) 1=(i:Int):=by rw[g5s (by omega) (by omega)];omega
       simp only[oZ4,oZ3];rw[hs,if_pos (g6 (by omega)),if_pos (by simp[hb];omega),shrI8,wrp8,g7];have hlt:n / 256 < 256 ^ i:=by
         rw[Nat.div_lt_iff_lt_mul (by omega)];rw[Nat.pow_succ]at hn;exact hn
       obtain⟨i',b',h1,h2,h3,h4⟩:=gye i (n / 256) (b.set i ((n % 256:Nat):Int)) hlt (by omega) (by simp[hb]);refine⟨i',b',h1,h2,h3,?_⟩;rw[h4,grs _ _ _ (by omega),gvu]
       conv=>rhs;rw[vbig,if_neg h0]
       rw[List.append_assoc];rfl
theorem gyf{n:Nat}(hn:n < 18446744073709551616) :gaf (n:Int)=some (vbig n):=by
 have e:(256:Nat) ^ 8=18446744073709551616:=by decide
 obtain⟨i',b',h1,h2,h3,h4⟩:=gye 8 n [0,0,0,0,0,0,0,0] (by rw[e];exact hn) (by omega) rfl;have h1':g64 ((n:Int),8,[0,0,0,0,0,0,0,0])=some ((i':Int),b'):=h1;rw[gaf,h1'];simp only[oZ4,oZ3,g7];have hsl:slR (i':Int) 8 8=true:=g7o (b:=8) (by omega) (by omega);have h8:(8:Int).toNat=8:=rfl
 rw[if_pos hsl,h8,if_pos (by simp[subR,h3];omega)];rw[List.take_of_length_le (by simp[h3]),h4];simp[strOf]
theorem glk :∀(f n:Nat),n < 256 ^ f→(vbig n).length≤f
 | 0,n,h=>by
   have:n=0:=by simpa using h
   subst this;rw[vbig,if_pos rfl];simp
 | f+1,n,h=>by
   rw[vbig];split
   · simp
   · have:=glk f (n / 256) (by
       rw[Nat.div_lt_iff_lt_mul (by omega)];rw[Nat.pow_succ]at h;exact h)
     simp;omega
theorem gp4 :∀(f n:Nat) (out:List UInt8),n < 256 ^ f→n < 18446744073709551616→out.length+f≤1000→g52 ((n:Int),out)=some (vbig n++out)
 | f,n,out,hn,h64,ho=>by
   rw[g52];by_cases h0:n=0
   · subst h0;rw[if_neg (by simp),vbig,if_pos rfl];rfl
   · rw[if_pos (by simp;omega)]
     match f,hn,ho with
     | 0,hn,ho=>simp at hn;omega
     | f+1,hn,ho=>
       have hrem:remI (n:Int) 256=((n % 256:Nat):Int):=remIn (b:=256);have hq:quoI .u64 (n:Int) 256=((n / 256:Nat):Int):=by
         unfold quoI;have e:(n:Int).tdiv 256=((n / 256:Nat):Int):=by rw[Int.tdiv_eq_ediv_of_nonneg (by omega)];omega
         rw[e];exact wrapu (by omega) (by omega)
       have hone:strOf [((n % 256 % 256:Nat):Int)]=[UInt8.ofNat (n % 256)]:=by
         have:n % 256 % 256=n % 256:=by omega
         rw[this];rfl
       simp only[oZ4,oZ3];rw[hrem,hq,wrp8,hone,if_pos (g30 (by simp;omega))];have hlt:n / 256 < 256 ^ f:=by
         rw[Nat.div_lt_iff_lt_mul (by omega)];rw[Nat.pow_succ]at hn;exact hn
       rw[gp4 f (n / 256) _ hlt (by omega) (by simp;omega)]
       conv=>rhs;rw[vbig,if_neg h0]
       rw[List.append_assoc]
theorem gp5{n:Nat}(hn:n < 18446744073709551616) :g78 (n:Int)=some (vbig n):=by
 have e:(256:Nat) ^ 8=18446744073709551616:=by decide
 rw[g78,gp4 8 n [] (by rw[e];exact hn) hn (by simp)];simp
end
section
open Go Go.Proofs.YthnmepafpikaiaaGreat.Shv Go.Sort
set_option maxRecDepth 100000
section
variable {α:Type}
theorem grt{β γ:Type}{f g:β→List γ} :∀{l:List β},(∀x,x∈l→f x=g x)→l.flatMap f=l.flatMap g
 | [],_=>rfl
 | x::l,h=>by
   simp only[List.flatMap_cons];rw[h x (.head _),grt fun y hy=>h y (.tail _ hy)]
theorem gnb(x:α)(n:Nat)(f:Nat→List α) :∀(ks:List Nat),ks.Nodup→n∈ks→(ks.flatMap fun i=>if n=i then x::f i else f i).Perm (x::ks.flatMap f)
 | [],_,h=>by cases h
 | k::ks,hn,h=>by
   rw[List.nodup_cons]at hn;simp only[List.flatMap_cons];by_cases e:n=k
   · rw[if_pos e];have:(ks.flatMap fun i=>if n=i then x::f i else f i)=ks.flatMap f:=grt fun y hy=>by
       rw[if_neg];rintro rfl;subst e;exact hn.1 hy
     rw[this];exact .refl _
   · rw[if_neg e];have hm:n∈ks:=(List.mem_cons.1 h).resolve_left e;refine((gnb x n f ks hn.2 hm).append_left (f k)).trans ?_;exact List.perm_middle
theorem gnc(key:α→Nat)(ks:List Nat)(hn:ks.Nodup) :∀l:List α,(∀x,x∈l→key x∈ks)→(ks.flatMap fun i=>l.filter fun x=>decide (key x=i)).Perm l
 | [],_=>by simp
 | x::l,h=>by
   have e:(fun i=>(x::l).filter fun y=>decide (key y=i))=fun i=>if key x=i then x::(l.filter fun y=>decide (key y=i))else l.filter fun y=>decide (key y=i):=by
     funext i
     by_cases e:key x=i <;> simp[e]
   rw[e];exact(gnb x (key x) _ ks hn (h x (.head _))).trans ((gnc key ks hn l fun y hy=>h y (.tail _ hy)).cons x)
theorem gru(key:α→Nat)(a n:Nat)(l:List α) :((List.range' a n).flatMap fun i=>l.filter fun x=>decide (key x=i)).Pairwise (fun x y=>decide (key y < key x)=false):=by
 rw[List.pairwise_flatMap];constructor
 · intro i hi;rw[List.pairwise_iff_forall_sublist];intro x y hs;have hx:=hs.subset (.head _);have hy:=hs.subset (.tail _ (.head _));simp at hx hy ⊢;omega
 · refine(List.pairwise_lt_range' (s:=a) (n:=n)).imp ?_;intro i j hij x hx y hy;simp at hx hy ⊢;omega
theorem grv{α β:Type}[Inhabited α][Inhabited β]{lt:α→α→Bool}{lt':β→β→Bool}(g:α→β)(h:∀a b,lt' (g a) (g b)=lt a b) :∀l,isoB lt' (l.map g)=(isoB lt l).map g
 | []=>rfl
 | x::l=>by
   have key:∀r,insB lt' (g x) (r.map g)=(insB lt x r).map g:=by
     intro r
     induction r with
     | nil=>rfl
     | cons y r ih=>
       simp only[insB,List.map];rw[h];split
       · rfl
       · simp[ih]
   simp only[isoB,List.map];rw[grv g h l,key]
theorem gp6{α:Type}[Inhabited α]{lt:α→α→Bool} :∀{l:List α},l.Pairwise (fun x y=>lt x y=true∨lt y x=true)→g86 lt l=true
 | [],_=>rfl
 | x::l,h=>by
   rw[List.pairwise_cons]at h;simp only[g86,Bool.and_eq_true,List.all_eq_true,Bool.or_eq_true];exact⟨h.1,gp6 h.2⟩
end
mutual
def wt :SValue→Nat
 | ⟨_,_,_,s,_,ks,is,r⟩=>10+s.length+(r.map fun x=>x.Data.length+1).sum+wts ks+wts is
def wts :List SValue→Nat
 | []=>0
 | v::l=>wt v+wts l
end
structure Fd where
 id:Nat
 c:Bool
 p:List UInt8
instance:Inhabited Fd:=⟨⟨0,false,[]⟩⟩
def ltF(a b:Fd) :Bool:=decide (a.id < b.id)
def Fd.text(f:Fd) :List UInt8:=gaj f.id f.c f.p
def ilv :List (List UInt8)→List (List UInt8)→List UInt8
 | k::ks,v::vs=>g5k k++(g5k v++ilv ks vs)
 | _,_=>[]
def findM(l:List SMember)(id:Int) :Option SMember:=l.find? fun m=>decide (m.ID=id)
open Classical in
noncomputable def om (m:SMember) (v:SValue):Bool:=m.HasDefault && decide (m.Default=v)
def rawF(r:SRaw) :Fd:=⟨r.ID.toNat,false,r.Data⟩
mutual
noncomputable def vpay (ts:List SType) (t:Int):SValue→List UInt8
 | ⟨_,b,i,s,id,ks,is,r⟩=>
   let x:=ts.getD t.toNat dSType
   if x.Kind=1 then(if b=true then[1]else[])
   else if x.Kind=2 then vbig (zig i).toNat
   else if x.Kind=3 then s
   else if x.Kind=4 then vbig id.toNat
   else if x.Kind=5 then(isoB ltF (vents ts x.Members is++r.map rawF)).flatMap Fd.text
   else if x.Kind=6 then vput id.toNat++(match findM x.Members id with
     | some m=>(vpays ts m.Type_ is).headD []
     | none=>(r.map SRaw.Data).headD [])
   else if x.Kind=7 then(vpays ts x.Elem is).flatMap g5k
   else if x.Kind=8 then ilv (vpays ts x.Key ks) (vpays ts x.Elem is)
   else match vpays ts x.Elem is with
     | []=>[]
     | p::_=>1::p
noncomputable def vpays (ts:List SType) (t:Int):List SValue→List (List UInt8)
 | []=>[]
 | v::l=>vpay ts t v::vpays ts t l
noncomputable def vents (ts:List SType):List SMember→List SValue→List Fd
 | m::ms,v::l=>if om m v=true then vents ts ms l else⟨m.ID.toNat,m.Critical,vpay ts m.Type_ v⟩::vents ts ms l
 | _,_=>[]
end
mutual
noncomputable def vlev (ts:List SType) (t:Int):SValue→Nat
 | ⟨_,_,_,_,id,ks,is,_⟩=>
   let x:=ts.getD t.toNat dSType
   1+max (if ks=[]then 0 else 1) (if x.Kind=5 then vlevm ts x.Members is
     else if x.Kind=6 then(match findM x.Members id with
       | some m=>vlevs ts m.Type_ is
       | none=>0)
     else vlevs ts x.Elem is)
noncomputable def vlevs (ts:List SType) (t:Int):List SValue→Nat
 | []=>0
 | v::l=>max (vlev ts t v) (vlevs ts t l)
noncomputable def vlevm (ts:List SType):List SMember→List SValue→Nat
 | m::ms,v::l=>if om m v=true then vlevm ts ms l else max (vlev ts m.Type_ v) (vlevm ts ms l)
 | _,_=>0
end
def I1000(n:Int) :Prop:=1≤n∧n≤1000
def g9i(ms:List SMember)(r:List SRaw) :Prop:=r.Pairwise (fun a b=>a.ID < b.ID)∧∀x,x∈r→I1000 x.ID∧findM ms x.ID=none
def vcmp(a b:SValue) :Int:=(g63 (a,b)).getD 0
def gb1(ks:List SValue) :Prop:=∀i,i+1 < ks.length→vcmp (ks.getD i dSValue) (ks.getD (i+1) dSValue) < 0
mutual
def vfit(ts:List SType)(pl:Bool)(t:Int) :SValue→Prop
 | ⟨k,b,i,s,id,ks,is,r⟩=>
   let x:=ts.getD t.toNat dSType
   (0≤t∧t < ts.length∧k=x.Kind∧(pl=true→r=[]))∧
   (k=1∧i=0∧s=[]∧id=0∧ks=[]∧is=[]∧r=[]∨
   k=2∧b=false∧s=[]∧id=0∧ks=[]∧is=[]∧r=[]∧x.Low≤i∧i≤x.High∨
   k=3∧b=false∧i=0∧id=0∧ks=[]∧is=[]∧r=[]∧(s.length:Int)≤x.Max∨
   k=4∧b=false∧i=0∧s=[]∧ks=[]∧is=[]∧r=[]∧((∃y,y∈x.Symbols∧y.ID=id)∨x.Open=true∧pl=false∧I1000 id)∨
   k=5∧b=false∧i=0∧s=[]∧id=0∧ks=[]∧g9i x.Members r∧vfitm ts pl x.Members is∨
   k=6∧b=false∧i=0∧s=[]∧ks=[]∧(match findM x.Members id with
     | some m=>r=[]∧is.length=1∧vfits ts pl m.Type_ is
     | none=>x.Open=true∧pl=false∧I1000 id∧is=[]∧∃d,r=[⟨id,d⟩])∨
   k=7∧b=false∧i=0∧s=[]∧id=0∧ks=[]∧r=[]∧(is.length:Int)≤x.Max∧vfits ts pl x.Elem is∨
   k=8∧b=false∧i=0∧s=[]∧id=0∧r=[]∧(ks.length:Int)≤x.Max∧is.length=ks.length∧vfits ts pl x.Key ks∧vfits ts pl x.Elem is∧gb1 ks∨
   k=9∧b=false∧i=0∧s=[]∧id=0∧ks=[]∧r=[]∧is.length≤1∧vfits ts pl x.Elem is)
def vfits(ts:List SType)(pl:Bool)(t:Int) :List SValue→Prop
 | []=>True
 | v::l=>vfit ts pl t v∧vfits ts pl t l
def vfitm(ts:List SType)(pl:Bool) :List SMember→List SValue→Prop
 | m::ms,v::l=>vfit ts pl m.Type_ v∧vfitm ts pl ms l
 | [],[]=>True
 | _,_=>False
end
theorem wt_eq(v:SValue) :wt v=10+v.Str.length+(v.Rest.map fun x=>x.Data.length+1).sum+wts v.Keys+wts v.Items:=by
 cases v;rw[wt]
theorem gll(v:SValue)(l:List SValue) :wts (v::l)=wt v+wts l:=by rw[wts]
theorem g10v :wts []=0:=by rw[wts]
theorem g4c :∀{l:List SValue} {x:SValue},x∈l→wt x≤wts l
 | y::l,x,h=>by
   rw[gll];rcases List.mem_cons.1 h with rfl | h
   · omega
   · have:=g4c h;omega
theorem gnd{p:List UInt8}(h:p.length < 1152921504606846976) :(g5k p).length≤p.length+10:=by
 have:=g3z (n:=p.length) (by omega);unfold g5k;simp;omega
theorem grw{f:Fd}(h:f.p.length < 1152921504606846976)(hi:f.id≤9223372036854775807) :f.text.length≤f.p.length+20:=by
 have:=gnd h;have:=g3z (n:=2*f.id+(if f.c then 1 else 0)) (by split <;> omega);unfold Fd.text gaj;simp only[List.length_append];omega
theorem gpt{α β:Type}{f:α→List β}{a b:List α}(h:a.Perm b) :(a.flatMap f).length=(b.flatMap f).length:=(h.flatMap_right f).length_eq
theorem grx{n:Int}(h:I64 n) :(zig n).toNat < 18446744073709551616:=by
 unfold zig I64 at*;split <;> omega
section
variable {ts:List SType}
def LenOk(ts:List SType)(v:SValue) :Prop:=∀t,(vpay ts t v).length+20≤21*wt v
theorem gjj :∀{l:List SValue} {t:Int},wts l≤1099511627776→(∀x,x∈l→LenOk ts x)→((vpays ts t l).flatMap g5k).length≤21*wts l
 | [],t,_,_=>by rw[vpays];simp
 | v::l,t,hw,h=>by
   rw[vpays,List.flatMap_cons,List.length_append];rw[gll]at hw ⊢;have h1:=h v (.head _) t;have h2:=gjj (t:=t) (by omega) fun x hx=>h x (.tail _ hx)
   have h3:=gnd (p:=vpay ts t v) (by omega);omega
theorem gp7 :∀{l:List SValue} {t:Int},vpays ts t l=l.map (vpay ts t)
 | [],t=>by rw[vpays];rfl
 | v::l,t=>by rw[vpays,List.map,gp7]
theorem gu0 :∀(a b:List (List UInt8)),(ilv a b).length≤(a.flatMap g5k).length+(b.flatMap g5k).length
 | [],b=>by simp[ilv]
 | k::ks,[]=>by simp[ilv]
 | k::ks,v::vs=>by
   have:=gu0 ks vs;simp only[ilv,List.flatMap_cons,List.length_append];omega
theorem gp8 :∀{ms:List SMember} {l:List SValue},wts l≤1099511627776→(∀m,m∈ms→m.ID≤1000)→(∀x,x∈l→LenOk ts x)→((vents ts ms l).flatMap Fd.text).length≤21*wts l
 | [],l,_,_,_=>by rw[vents] <;> simp
 | m::ms,[],_,_,_=>by rw[vents] <;> simp
 | m::ms,v::l,hw,hm,h=>by
   rw[gll]at hw ⊢;rw[vents];have h1:=h v (.head _) m.Type_;have h2:=gp8 (ms:=ms) (l:=l) (by omega) (fun x hx=>hm x (.tail _ hx)) fun x hx=>h x (.tail _ hx)
   have h4:=hm m (.head _);split
   · omega
   · rw[List.flatMap_cons,List.length_append];have h3:=grw (f:=⟨m.ID.toNat,m.Critical,vpay ts m.Type_ v⟩) (by show(vpay ts m.Type_ v).length < _;omega) (by show m.ID.toNat≤_;omega);have h3':(Fd.text ⟨m.ID.toNat,m.Critical,vpay ts m.Type_ v⟩).length≤(vpay ts m.Type_ v).length+20:=h3;omega
theorem gry :∀{l:List SRaw},(∀x,x∈l→x.Data.length≤reachBytes∧x.ID≤9223372036854775807)→True→((l.map rawF).flatMap Fd.text).length≤21*(l.map fun x=>x.Data.length+1).sum
 | [],_,_=>by simp
 | r::l,h,_=>by
   have h1:=h r (.head _);have h2:=gry (l:=l) (fun x hx=>h x (.tail _ hx)) trivial;unfold reachBytes at h1;have h3:=grw (f:=rawF r) (by show r.Data.length < _;omega) (by show r.ID.toNat≤_;omega);have h3':(rawF r).text.length≤r.Data.length+20:=h3;simp only[List.map_cons,List.flatMap_cons,List.length_append,List.sum_cons];omega
def MOk(ts:List SType) :Prop:=∀x,x∈ts→∀m,m∈x.Members→m.ID≤1000
theorem gt3{α:Type}(l:List α)(i:Nat)(d:α) :l.getD i d∈l∨l.getD i d=d:=by
 by_cases h:i < l.length
 · left;rw[List.getD_eq_getElem?_getD,List.getElem?_eq_getElem h];exact List.getElem_mem h
 · right;rw[List.getD_eq_getElem?_getD,List.getElem?_eq_none (by omega)];rfl
theorem gp9{l:List (List UInt8)}{n:Nat}(h:∀x,x∈l→x.length≤n) :(l.headD []).length≤n:=by
 cases l with
 | nil=>simp
 | cons x l=>exact h x (.head _)
theorem gu1 :∀{l:List Nat} {n:Nat},n∈l→n≤l.sum
 | a::l,n,h=>by
   rw[List.sum_cons];rcases List.mem_cons.1 h with rfl | h
   · omega
   · have:=gu1 h;omega
theorem gzx(hM:MOk ts){v:SValue}(h:OkV v) :wt v≤1099511627776→LenOk ts v:=by
 induction h with
 | mk v hs h1 h2 h3 hk hi hr n1 n2 n3 n4 ihk ihi=>
   intro hw t;have hwt:=wt_eq v;have LK:∀x,x∈v.Keys→LenOk ts x:=fun x hx=>ihk x hx (by have:=g4c hx;omega)
   have LI:∀x,x∈v.Items→LenOk ts x:=fun x hx=>ihi x hx (by have:=g4c hx;omega)
   have PK:=fun t=>gjj (t:=t) (l:=v.Keys) (by omega) LK
   have PI:=fun t=>gjj (t:=t) (l:=v.Items) (by omega) LI
   have hx:∀m,m∈(ts.getD t.toNat dSType).Members→m.ID≤1000:=by
     rcases gt3 ts t.toNat dSType with h | h
     · exact hM _ h
     · rw[h];intro m hm;cases hm
   have QI:∀t,((vpays ts t v.Items).headD []).length+20≤21*wts v.Items+20:=fun t=>by
     have:((vpays ts t v.Items).headD []).length≤21*wts v.Items:=gp9 fun p hp=>by
       rw[gp7]at hp;obtain⟨x,hx,rfl⟩:=List.mem_map.1 hp;have:=LI x hx t;have:=g4c hx;omega
     omega
   have RI:((v.Rest.map rawF).flatMap Fd.text).length≤21*(v.Rest.map fun x=>x.Data.length+1).sum:=gry (fun x hx=>⟨hr x hx,(n4 x hx).2⟩) trivial;have EI:=gp8 (ts:=ts) (ms:=(ts.getD t.toNat dSType).Members) (l:=v.Items) (by omega) hx LI;have DI:((v.Rest.map SRaw.Data).headD []).length≤(v.Rest.map fun x=>x.Data.length+1).sum:=gp9 fun p hp=>by
     obtain⟨x,hx,rfl⟩:=List.mem_map.1 hp;have:x.Data.length+1≤(v.Rest.map fun x=>x.Data.length+1).sum:=gu1 (List.mem_map.2 ⟨x,hx,rfl⟩);omega
   obtain⟨K,b,i,s,id,ks,is,r⟩:=v;simp only at*;rw[vpay];have hz:=glk 8 _ (grx n2);have hid:id.toNat < 18446744073709551616:=by omega
   have hb:=glk 8 _ hid;have hp:=g3z hid;generalize ts.getD t.toNat dSType=x at*;split
   · split
     · simp;omega
     · simp;omega
   · split
     · omega
     · split
       · omega
       · split
         · omega
         · split
           · rw[gpt (gbl _ _),List.flatMap_append,List.length_append];omega
           · split
             · rw[List.length_append];split
               · rename_i m _;have:=QI m.Type_;omega
               · omega
             · split
               · have:=PI x.Elem;omega
               · split
                 · have:=gu0 (vpays ts x.Key ks) (vpays ts x.Elem is);have:=PK x.Key;have:=PI x.Elem;omega
                 · have:=QI x.Elem;split
                   · simp;omega
                   · rename_i p l e;rw[e]at this;simp only[List.headD_cons]at this;simp only[List.length_cons];omega
end
section
variable (ts:List SType)
mutual
theorem vlev_le :∀(v:SValue) (t:Int),vlev ts t v≤wt v
 | ⟨_,_,_,_,id,ks,is,_⟩,t=>by
   rw[vlev,wt];have h1:=vlevs_le is;have h2:=vlevm_le is;have h0:(if ks=[]then 0 else 1)≤1:=by split <;> omega
   generalize (if ks=[]then 0 else 1)=q at h0 ⊢;have h3:=h2 (ts.getD t.toNat dSType).Members;have h4:=h1 (ts.getD t.toNat dSType).Elem;split
   · omega
   · split
     · split
       · rename_i m _;have:=h1 m.Type_;omega
       · omega
     · omega
theorem vlevs_le :∀(l:List SValue) (t:Int),vlevs ts t l≤wts l
 | [],t=>by rw[vlevs];omega
 | v::l,t=>by
   rw[vlevs,wts];have:=vlev_le v t;have:=vlevs_le l t;omega
theorem vlevm_le :∀(l:List SValue) (ms:List SMember),vlevm ts ms l≤wts l
 | [], ms => by rw [vlevm]; · omega
                · intros;simp_all
 | v :: l, [] => by rw [vlevm]; · omega
                    · intros;simp_all
 | v::l,m::ms=>by
   rw[vlevm,wts];have:=vlev_le v m.Type_;have:=vlevm_le l ms;split <;> omega
end
end
section
variable {ts:List SType}
theorem g9x :∀{ms:List SMember} {l:List SValue} {x:Fd},x∈vents ts ms l→∃m,m∈ms∧x.id=m.ID.toNat
 | [],l,x,h=>by
   rw[vents]at h
   · cases h
   · intros;simp_all
 | m::ms,[],x,h=>by
   rw[vents]at h
   · cases h
   · intros;simp_all
 | m::ms,v::l,x,h=>by
   rw[vents]at h;split at h
   · obtain⟨m',h1,h2⟩:=g9x h;exact⟨m',.tail _ h1,h2⟩
   · rcases List.mem_cons.1 h with rfl | h
     · exact⟨m,.head _,rfl⟩
     · obtain⟨m',h1,h2⟩:=g9x h;exact⟨m',.tail _ h1,h2⟩
theorem gne{ms:List SMember}{l:List SValue}{n:Nat}(h:∀m,m∈ms→m.ID.toNat≠n) :((vents ts ms l).filter fun x=>decide (x.id=n))=[]:=by
 rw[List.filter_eq_nil_iff];intro x hx;obtain⟨m,h1,h2⟩:=g9x hx;have:=h m h1;simp;omega
theorem gkt : ∀ {ms : List SMember} {l : List SValue} {n j : Nat}, ms.Pairwise (fun a b => a.ID.toNat ≠ b.ID.toNat) → l.length = ms.length → j < ms.length → (ms.getD j dSMember).ID.toNat = n →
   ((vents ts ms l).filter fun x=>decide (x.id=n))=if om (ms.getD j dSMember) (l.getD j dSValue)=true then[]else[⟨n,(ms.getD j dSMember).Critical,vpay ts (ms.getD j dSMember).Type_ (l.getD j dSValue)⟩]
 | [],l,n,j,_,_,hj,_=>by cases hj
 | m::ms,[],n,j,_,hl,_,_=>by cases hl
 | m::ms,v::l,n,0,hd,hl,hj,he=>by
   rw[List.pairwise_cons]at hd;simp only[List.getD_cons_zero]at he ⊢;have hn:=gne (ts:=ts) (l:=l) (ms:=ms) (n:=n) fun x hx=>by have:=hd.1 x hx;omega
   rw[vents];split
   · exact hn
   · rw[List.filter_cons,if_pos (by simp[he]),hn,he]
 | m::ms,v::l,n,j+1,hd,hl,hj,he=>by
   rw[List.pairwise_cons]at hd;simp only[List.getD_cons_succ]at he ⊢;have hj':j < ms.length:=by simpa using hj
   have hm:ms.getD j dSMember∈ms:=by
     rw[List.getD_eq_getElem?_getD,List.getElem?_eq_getElem hj'];exact List.getElem_mem hj'
   have hne:=hd.1 _ hm;have ih:=gkt (l:=l) hd.2 (by simpa using hl) hj' he;rw[vents];split
   · exact ih
   · rw[List.filter_cons,if_neg (by simp;omega)];exact ih
theorem gt4(l:List SRaw)(n:Nat)(h:∀x,x∈l→0≤x.ID) :((l.map rawF).filter fun x=>decide (x.id=n))=(l.filter fun x=>decide (x.ID=(n:Int))).map rawF:=by
 rw[List.filter_map]
 congr 1
 apply List.filter_congr;intro x hx;have:=h x hx;show decide (x.ID.toNat=n)=_;by_cases e:x.ID=n
 · simp[e]
 · have:¬x.ID.toNat=n:=by omega
   simp[e,this]
noncomputable def g5l (ts:List SType) (ms:List SMember) (l:List SValue) (r:List SRaw):List Fd:=vents ts ms l++r.map rawF
def MAsc(ms:List SMember) :Prop:=ms.Pairwise (fun a b=>a.ID < b.ID)∧∀m,m∈ms→I1000 m.ID
theorem gu2{ms:List SMember}(h:MAsc ms) :ms.Pairwise (fun a b=>a.ID.toNat≠b.ID.toNat):=by
 refine h.1.imp_of_mem fun {a b} ha hb hlt=>?_
 have:=h.2 a ha;have:=h.2 b hb;unfold I1000 at*;omega
theorem gjk :∀{ms:List SMember} {l:List SValue},ms.Pairwise (fun a b=>a.ID.toNat≠b.ID.toNat)→(vents ts ms l).Pairwise (fun a b=>a.id≠b.id)
 | [],l,_=>by
   rw[vents]
   · exact .nil
   · intros;simp_all
 | m::ms,[],_=>by
   rw[vents]
   · exact .nil
   · intros;simp_all
 | m::ms,v::l,h=>by
   rw[List.pairwise_cons]at h;rw[vents];split
   · exact gjk h.2
   · rw[List.pairwise_cons];refine⟨fun x hx=>?_,gjk h.2⟩;obtain⟨m',h1,h2⟩:=g9x hx;rw[h2];exact h.1 m' h1
theorem gnf{ms:List SMember}{id:Int}(h:findM ms id=none) :∀m,m∈ms→m.ID≠id:=by
 unfold findM at h;rw[List.find?_eq_none]at h;intro m hm;simpa using h m hm
theorem ght{ms:List SMember}{l:List SValue}{r:List SRaw}(h:MAsc ms)(hr:g9i ms r) :g86 ltF (g5l ts ms l r)=true:=by
 apply gp6;have key:(g5l ts ms l r).Pairwise (fun a b=>a.id≠b.id):=by
   unfold g5l;rw[List.pairwise_append];refine⟨gjk (gu2 h),?_,?_⟩
   · rw[List.pairwise_map];refine hr.1.imp_of_mem fun {a b} ha hb hlt=>?_
     have:=(hr.2 a ha).1;have:=(hr.2 b hb).1;show a.ID.toNat≠b.ID.toNat;unfold I1000 at*;omega
   · intro x hx y hy;obtain⟨m,h1,h2⟩:=g9x hx;obtain⟨q,h3,rfl⟩:=List.mem_map.1 hy;have h4:=gnf (hr.2 q h3).2 m h1;have:=h.2 m h1;have:=(hr.2 q h3).1;show x.id≠q.ID.toNat;unfold I1000 at*;omega
 refine key.imp fun {a b} hne=>?_
 simp only[ltF,decide_eq_true_eq];omega
theorem grz{ms:List SMember}{l:List SValue}{r:List SRaw}(h:MAsc ms)(hr:g9i ms r){x:Fd}(hx:x∈g5l ts ms l r) :1≤x.id∧x.id≤1000:=by
 rcases List.mem_append.1 hx with hx | hx
 · obtain⟨m,h1,h2⟩:=g9x hx;have:=h.2 m h1;unfold I1000 at*;omega
 · obtain⟨q,h3,rfl⟩:=List.mem_map.1 hx;have:=(hr.2 q h3).1;unfold I1000 at*;show 1≤q.ID.toNat∧q.ID.toNat≤1000;omega
theorem g10w :SWO ltF:=by
 refine⟨fun x=>?_,fun x y z h1 h2=>?_,fun x y z h1 h2=>?_⟩ <;> simp[ltF]at* <;> omega
theorem gpu {l : List Fd} (hp : g86 ltF l = true) (hr : ∀ x, x ∈ l → 1 ≤ x.id ∧ x.id ≤ 1000) :
   isoB ltF l=(List.range' 1 1000).flatMap fun n=>l.filter fun x=>decide (x.id=n):=by
 refine gkp hp (gbl _ _) (gnc Fd.id _ List.nodup_range' l fun x hx=>?_) (gf4 g10w l) (gru Fd.id 1 1000 l);have:=hr x hx;rw[List.mem_range'_1];omega
end
section
variable {ts:List SType} {pl:Bool}
theorem g3q :∀{l:List SValue} {t:Int},vfits ts pl t l↔∀x,x∈l→vfit ts pl t x
 | [],t=>by rw[vfits];simp
 | v::l,t=>by
   rw[vfits,g3q];constructor
   · rintro ⟨h1,h2⟩ x hx
     rcases List.mem_cons.1 hx with rfl | hx
     · exact h1
     · exact h2 x hx
   · intro h;exact⟨h v (.head _),fun x hx=>h x (.tail _ hx)⟩
theorem g9y :∀{ms:List SMember} {l:List SValue},vfitm ts pl ms l↔l.length=ms.length∧∀i,i < ms.length→vfit ts pl (ms.getD i dSMember).Type_ (l.getD i dSValue)
 | [],[]=>by
   have:vfitm ts pl [] []=True:=by rw[vfitm]
   rw[this];simp
 | [],v::l=>by
   have:vfitm ts pl [] (v::l)=False:=by rw[vfitm] <;> (intros;simp_all)
   rw[this];simp
 | m::ms,[]=>by
   have:vfitm ts pl (m::ms) []=False:=by rw[vfitm] <;> (intros;simp_all)
   rw[this];simp
 | m::ms,v::l=>by
   rw[vfitm,g9y];constructor
   · rintro ⟨h1,h2,h3⟩
     refine⟨by simp[h2],fun i hi=>?_⟩;cases i with
     | zero=>exact h1
     | succ i=>exact h3 i (by simpa using hi)
   · rintro ⟨h1,h2⟩
     exact⟨h2 0 (by simp),by simpa using h1,fun i hi=>h2 (i+1) (by simpa using hi)⟩
end
end
section
open Go Go.Proofs.YthnmepafpikaiaaGreat.Shv Go.Sort
set_option maxRecDepth 100000
def SaysP(o:Option Bool)(P:Prop) :Prop:=∃r,o=some r∧(r=true↔P)
theorem SaysP.imp{o:Option Bool}{P Q:Prop}(h:SaysP o P)(e:P↔Q) :SaysP o Q:=by
 obtain⟨r,h1,h2⟩:=h;exact⟨r,h1,h2.trans e⟩
theorem SaysP.of{b:Bool}{P:Prop}(e:b=true↔P) :SaysP (some b) P:=⟨b,rfl,e⟩
theorem SaysP.loop {L : Nat → Option (Bool ⊕ Unit)} {n : Nat} {p : Nat → Bool} {g : Unit} {o : Option (Bool ⊕ Unit)} (h0 : o = L 0) (hstep : ∀ i, i < n → L i = if p i = true then L (i + 1) else some (.inl false)) (hend : L n = some (.inr g)) :
   SaysP (o >>=fun o=>match o with | .inl x=>some x | .inr _=>some true) (∀i,i < n→p i=true):=by
 subst h0;rcases scan L n p (.inl false) (.inr g) hstep hend with⟨h1,h2⟩ | ⟨h1,j,h2,h3⟩
 · rw[h1];exact⟨true,rfl,by simpa using h2⟩
 · rw[h1];refine⟨false,rfl,?_⟩;constructor
   · intro h;cases h
   · intro h;have:=h j h2;rw[h3]at this;cases this
theorem gjs{α:Type}(f:α→Int)(d:α) :∀l:List α,l.Pairwise (fun a b=>f a < f b)↔∀i,i+1 < l.length→f (l.getD i d) < f (l.getD (i+1) d)
 | []=>by simp
 | [a]=>by simp
 | a::b::l=>by
   rw[List.pairwise_cons,gjs f d (b::l)];constructor
   · rintro ⟨h1,h2⟩ i hi
     cases i with
     | zero=>exact h1 b (.head _)
     | succ i=>exact h2 i (by simpa using hi)
   · intro h;have h2:∀i,i+1 < (b::l).length→f ((b::l).getD i d) < f ((b::l).getD (i+1) d):=fun i hi=>h (i+1) (by simpa using hi)
     refine⟨fun x hx=>?_,h2⟩;have h0:=h 0 (by simp);simp only[List.getD_cons_zero,List.getD_cons_succ]at h0;have h3:=(gjs f d (b::l)).2 h2;rw[List.pairwise_cons]at h3;rcases List.mem_cons.1 hx with rfl | hx
     · exact h0
     · have:=h3.1 x hx;omega
section
variable {ts:List SType}
def FitS(ts:List SType)(x:SValue) :Prop:=∀t pl,SaysP (g22 ((⟨ts⟩:SSchema),t,x,pl)) (vfit ts pl t x)
theorem gs0{l:List SValue}(hl:l.length≤reachBytes)(ih:∀x,x∈l→FitS ts x)(t:Int)(pl:Bool) :SaysP (g4j ((⟨ts⟩:SSchema),t,l,pl)) (vfits ts pl t l):=by
 have hr:=gz hl
 let p:Nat→Bool:=fun i=>(g22 ((⟨ts⟩:SSchema),t,l.getD i dSValue,pl)).getD false
 have hp:∀i,i < l.length→g22 ((⟨ts⟩:SSchema),t,l.getD i dSValue,pl)=some (p i)∧(p i=true↔vfit ts pl t (l.getD i dSValue)):=by
   intro i hi;obtain⟨r,h1,h2⟩:=ih _ (gh hi dSValue) t pl;refine⟨by simp only[p,h1,Option.getD_some],?_⟩;simp only[p,h1,Option.getD_some];exact h2
 rw[g4j];refine(SaysP.loop (L:=fun i=>g1v (t,l,pl,(i:Int),ts)) (n:=l.length) (p:=p) (g:=()) rfl (fun i hi=>?_) ?_).imp ?_
 · show g1v (t,l,pl,(i:Int),ts)=if p i=true then g1v (t,l,pl,((i+1:Nat):Int),ts)else _
   rw[g1v,if_pos (by simp;omega),if_pos (g6 hi)];simp only[SValue.g13,g7];rw[(hp i hi).1,g9 (by omega)];cases p i <;> rfl
 · show g1v (t,l,pl,(l.length:Int),ts)=_;rw[g1v,if_neg (by simp)]
 · rw[g3q];constructor
   · intro h x hx;obtain⟨i,hi,rfl⟩:=List.getElem_of_mem hx;have:=(hp i hi).2.1 (h i hi);rw[g16 hi]at this;exact this
   · intro h i hi;exact(hp i hi).2.2 (h _ (gh hi dSValue))
theorem g57{l:List SMember}{id:Int}{r:Int × Bool}(h:ggf l id r) :(r.2=true∧∃j:Nat,j < l.length∧r.1=(j:Int)∧findM l id=some (l.getD j dSMember)∧(l.getD j dSMember).ID=id)∨(r.2=false∧findM l id=none):=by
 rcases h with⟨j,h1,h2,h3,rfl⟩ | ⟨h1,rfl⟩
 · refine .inl ⟨rfl,j,h1,rfl,?_,h2⟩;unfold findM;rw[List.find?_eq_some_iff_getElem];refine⟨by rw[decide_eq_true_eq];exact h2,j,h1,(g16 h1 _).symm,fun k hk=>?_⟩;have:=h3 k hk;rw[g16 (by omega)]at this
   simpa using this
 · refine .inr ⟨rfl,?_⟩;unfold findM;rw[List.find?_eq_none];intro m hm;obtain⟨i,hi,rfl⟩:=List.getElem_of_mem hm;have:=h1 i hi;rw[g16 hi]at this
   simpa using this
theorem gyg{t:SType}(ht:t.Members.length < 9223372036854775807){l:List SRaw}(hl:l.length≤reachBytes) :SaysP (g4v (t,l)) (g9i t.Members l):=by
 have hr:=gz hl;rw[g4v]
 let p:Nat→Bool:=fun i=>!((g2s (t,(l.getD i dSRaw).ID)).getD (0,false)).2 && (bif decide (1≤(l.getD i dSRaw).ID)then decide ((l.getD i dSRaw).ID≤1000)else false) && (!(decide ((0:Int) < (i:Int))) || !(decide ((l.getD i dSRaw).ID≤(l.getD (subI .i64 (i:Int) 1).toNat dSRaw).ID)))
 refine(SaysP.loop (L:=fun i=>g1n (l,(i:Int),t)) (n:=l.length) (p:=p) (g:=()) rfl (fun i hi=>?_) ?_).imp ?_
 · show g1n (l,(i:Int),t)=if p i=true then g1n (l,((i+1:Nat):Int),t)else _
   obtain⟨r,h1,h2,_⟩:=g3n (t:=t) (l.getD i dSRaw).ID ht;have hpi:p i=(!r.2 && (bif decide (1≤(l.getD i dSRaw).ID)then decide ((l.getD i dSRaw).ID≤1000)else false) && (!(decide ((0:Int) < (i:Int))) || !(decide ((l.getD i dSRaw).ID≤(l.getD (subI .i64 (i:Int) 1).toNat dSRaw).ID)))):=by simp only[p,h1,Option.getD_some]
   rw[hpi,g1n,if_pos (by simp;omega),if_pos (g6 hi)];simp only[g7];rw[h2,g9 (by omega)];have hid:g1f ((l.getD i dSRaw).ID,r.2)=some ((!r.2) && (bif decide (1≤(l.getD i dSRaw).ID)then decide ((l.getD i dSRaw).ID≤1000)else false)):=by
     rw[g1f];cases r.2 <;> cases decide (1≤(l.getD i dSRaw).ID) <;> rfl
   show(if inR (i:Int) l.length=true then g1f ((l.getD i dSRaw).ID,r.2) >>=_ else none)=_;rw[if_pos (g6 hi),hid]
   exact gks ((!r.2) && (bif decide (1≤(l.getD i dSRaw).ID)then decide ((l.getD i dSRaw).ID≤1000)else false)) (inR (i:Int) l.length) (decide ((0:Int) < (i:Int))) (subI .i64 (i:Int) 1) (fun j=>inR j l.length) (fun j=>decide ((l.getD i dSRaw).ID≤(l.getD j.toNat dSRaw).ID)) _ _ (g6 hi) (fun hz=>by
     have:0 < i:=by simp at hz;omega
     show inR _ _=true;rw[g7y this (by omega)];exact g6 (by omega))
 · show g1n (l,(l.length:Int),t)=_;rw[g1n,if_neg (by simp)]
 · unfold g9i;rw[gjs (fun a:SRaw=>a.ID) dSRaw];have key:∀i,i < l.length→(p i=true↔(I1000 (l.getD i dSRaw).ID∧findM t.Members (l.getD i dSRaw).ID=none)∧(i=0∨(l.getD (i - 1) dSRaw).ID < (l.getD i dSRaw).ID)):=by
     intro i hi;obtain⟨r,h1,h2,hf⟩:=g3n (t:=t) (l.getD i dSRaw).ID ht;have hpi:p i=(!r.2 && (bif decide (1≤(l.getD i dSRaw).ID)then decide ((l.getD i dSRaw).ID≤1000)else false) && (!(decide ((0:Int) < (i:Int))) || !(decide ((l.getD i dSRaw).ID≤(l.getD (subI .i64 (i:Int) 1).toNat dSRaw).ID)))):=by simp only[p,h1,Option.getD_some]
     rw[hpi];have hn:r.2=false↔findM t.Members (l.getD i dSRaw).ID=none:=by
       rcases g57 hf with⟨a,j,_,_,b,_⟩ | ⟨a,b⟩
       · rw[a,b];simp
       · rw[a,b];simp
     rw[←hn];unfold I1000;by_cases h0:i=0
     · subst h0;cases r.2 <;> by_cases g1:1≤(l.getD 0 dSRaw).ID <;> by_cases g2:(l.getD 0 dSRaw).ID≤1000 <;> simp[g1,g2]
     · have hz:decide ((0:Int) < (i:Int))=true:=by simp;omega
       rw[hz,g7y (by omega) (by omega),g7];generalize (l.getD (i - 1) dSRaw).ID=y;generalize (l.getD i dSRaw).ID=x;cases r.2 <;> by_cases g1:1≤x <;> by_cases g2:x≤1000 <;> by_cases g3:y < x <;> simp[h0,g1,g2,g3] <;> omega
   constructor
   · intro h;refine⟨fun i hi=>?_,fun x hx=>?_⟩
     · have:=((key (i+1) hi).1 (h _ hi)).2;rcases this with h | h
       · omega
       · exact h
     · obtain⟨i,hi,rfl⟩:=List.getElem_of_mem hx;have:=((key i hi).1 (h _ hi)).1;rw[g16 hi]at this;exact this
   · rintro ⟨h1,h2⟩ i hi
     refine(key i hi).2 ⟨h2 _ (gh hi dSRaw),?_⟩;by_cases h0:i=0
     · exact .inl h0
     · right;have:=h1 (i - 1) (by omega);have e:i - 1+1=i:=by omega
       rw[e]at this;exact this
theorem gw3 {t : SType} {v : SValue} (hl : v.Items.length = t.Members.length) (hr : t.Members.length < 9223372036854775807) (ih : ∀ x, x ∈ v.Items → FitS ts x) (pl : Bool) :
   SaysP (g18 (pl,0,ts,v,t.Kind,t.Name,t.Low,t.High,t.Max,t.Symbols,t.Members,t.Key,t.Elem,t.Open) >>=fun o=>match o with | .inl o_1=>some o_1 | .inr _=>some true) (vfitm ts pl t.Members v.Items):=by
 let p:Nat→Bool:=fun i=>(g22 ((⟨ts⟩:SSchema),(t.Members.getD i dSMember).Type_,v.Items.getD i dSValue,pl)).getD false
 have hp:∀i,i < t.Members.length→g22 ((⟨ts⟩:SSchema),(t.Members.getD i dSMember).Type_,v.Items.getD i dSValue,pl)=some (p i)∧(p i=true↔vfit ts pl (t.Members.getD i dSMember).Type_ (v.Items.getD i dSValue)):=by
   intro i hi;obtain⟨r,h1,h2⟩:=ih _ (gh (by omega:i < v.Items.length) dSValue) (t.Members.getD i dSMember).Type_ pl;refine⟨by simp only[p,h1,Option.getD_some],?_⟩;simp only[p,h1,Option.getD_some];exact h2
 refine(SaysP.loop (L:=fun i=>g18 (pl,(i:Int),ts,v,t.Kind,t.Name,t.Low,t.High,t.Max,t.Symbols,t.Members,t.Key,t.Elem,t.Open)) (n:=t.Members.length) (p:=p) (g:=()) rfl (fun i hi=>?_) ?_).imp ?_
 · show g18 (pl,(i:Int),ts,v,t.Kind,t.Name,t.Low,t.High,t.Max,t.Symbols,t.Members,t.Key,t.Elem,t.Open)=if p i=true then g18 (pl,((i+1:Nat):Int),ts,v,t.Kind,t.Name,t.Low,t.High,t.Max,t.Symbols,t.Members,t.Key,t.Elem,t.Open)else _
   rw[g18,if_pos (by simp;omega),if_pos (g6 hi),if_pos (g6 (by omega))];simp only[g7,SValue.g13];rw[(hp i hi).1,g9 (by omega)];cases p i <;> rfl
 · show g18 (pl,(t.Members.length:Int),ts,v,t.Kind,t.Name,t.Low,t.High,t.Max,t.Symbols,t.Members,t.Key,t.Elem,t.Open)=_;rw[g18,if_neg (by simp;omega)]
 · rw[g9y];constructor
   · intro h;exact⟨hl,fun i hi=>(hp i hi).2.1 (h i hi)⟩
   · rintro ⟨_,h⟩ i hi;exact(hp i hi).2.2 (h i hi)
theorem gyh {v : SValue} (hr : v.Keys.length < 9223372036854775807) (hk : ∀ x, x ∈ v.Keys → OkV x) :
   SaysP (gy (1,v) >>=fun o_3=>match o_3 with | .inl o_4=>some o_4 | .inr _=>some true) (gb1 v.Keys):=by
 by_cases h0:v.Keys.length=0
 · rw[gy,if_neg (by simp[h0])];refine⟨true,rfl,?_⟩;unfold gb1;simp only[true_iff];intro i hi;omega
 refine(SaysP.loop (L:=fun i=>gy (((i+1:Nat):Int),v)) (n:=v.Keys.length - 1) (p:=fun i=>!(decide (0≤vcmp (v.Keys.getD i dSValue) (v.Keys.getD (i+1) dSValue)))) (g:=()) rfl (fun i hi=>?_) ?_).imp ?_
 · show gy (((i+1:Nat):Int),v)=if _ then gy (((i+1+1:Nat):Int),v)else _
   have hs':subI .i64 ((i+1:Nat):Int) 1=(i:Int):=by rw[g7y (by omega) (by omega)];simp
   obtain⟨r,c1,c2⟩:=gjh (gjr (hk _ (gh (by omega:i < v.Keys.length) dSValue))) (gjr (hk _ (gh (by omega:i+1 < v.Keys.length) dSValue)));have hv:vcmp (v.Keys.getD i dSValue) (v.Keys.getD (i+1) dSValue)=r:=by unfold vcmp;rw[c1];rfl
   rw[hv,gy,if_pos (by simp;omega)];simp only[oZ4,oZ3];rw[hs',if_pos (g6 (by omega)),if_pos (g6 (by omega))];simp only[g7,SValue.g13];rw[c2,g9 (by omega)];simp only[oZ3];cases decide (0≤r) <;> rfl
 · have e:v.Keys.length - 1+1=v.Keys.length:=by omega
   show gy (((v.Keys.length - 1+1:Nat):Int),v)=_;rw[e,gy,if_neg (by simp)]
 · unfold gb1;constructor
   · intro h i hi;have:=h i (by omega)
     simpa using this
   · intro h i hi;have:=h i (by omega)
     simpa using this
theorem gb2 (pl : Bool) (t : Int) (v : SValue) : vfit ts pl t v ↔
   (0≤t∧t < ts.length∧v.Kind=(ts.getD t.toNat dSType).Kind∧(pl=true→v.Rest=[]))∧
   (v.Kind=1∧v.Int_=0∧v.Str=[]∧v.ID=0∧v.Keys=[]∧v.Items=[]∧v.Rest=[]∨
   v.Kind=2∧v.Bool_=false∧v.Str=[]∧v.ID=0∧v.Keys=[]∧v.Items=[]∧v.Rest=[]∧(ts.getD t.toNat dSType).Low≤v.Int_∧v.Int_≤(ts.getD t.toNat dSType).High∨
   v.Kind=3∧v.Bool_=false∧v.Int_=0∧v.ID=0∧v.Keys=[]∧v.Items=[]∧v.Rest=[]∧(v.Str.length:Int)≤(ts.getD t.toNat dSType).Max∨
   v.Kind=4∧v.Bool_=false∧v.Int_=0∧v.Str=[]∧v.Keys=[]∧v.Items=[]∧v.Rest=[]∧((∃y,y∈(ts.getD t.toNat dSType).Symbols∧y.ID=v.ID)∨(ts.getD t.toNat dSType).Open=true∧pl=false∧I1000 v.ID)∨
   v.Kind=5∧v.Bool_=false∧v.Int_=0∧v.Str=[]∧v.ID=0∧v.Keys=[]∧g9i (ts.getD t.toNat dSType).Members v.Rest∧vfitm ts pl (ts.getD t.toNat dSType).Members v.Items∨
   v.Kind=6∧v.Bool_=false∧v.Int_=0∧v.Str=[]∧v.Keys=[]∧(match findM (ts.getD t.toNat dSType).Members v.ID with
     | some m=>v.Rest=[]∧v.Items.length=1∧vfits ts pl m.Type_ v.Items
     | none=>(ts.getD t.toNat dSType).Open=true∧pl=false∧I1000 v.ID∧v.Items=[]∧∃d,v.Rest=[⟨v.ID,d⟩])∨
   v.Kind=7∧v.Bool_=false∧v.Int_=0∧v.Str=[]∧v.ID=0∧v.Keys=[]∧v.Rest=[]∧(v.Items.length:Int)≤(ts.getD t.toNat dSType).Max∧vfits ts pl (ts.getD t.toNat dSType).Elem v.Items∨
   v.Kind=8∧v.Bool_=false∧v.Int_=0∧v.Str=[]∧v.ID=0∧v.Rest=[]∧(v.Keys.length:Int)≤(ts.getD t.toNat dSType).Max∧v.Items.length=v.Keys.length∧vfits ts pl (ts.getD t.toNat dSType).Key v.Keys∧vfits ts pl (ts.getD t.toNat dSType).Elem v.Items∧gb1 v.Keys∨
   v.Kind=9∧v.Bool_=false∧v.Int_=0∧v.Str=[]∧v.ID=0∧v.Keys=[]∧v.Rest=[]∧v.Items.length≤1∧vfits ts pl (ts.getD t.toNat dSType).Elem v.Items):=by
 cases v;rw[vfit];try exact Iff.rfl
end
end
section
open Go Go.Proofs.YthnmepafpikaiaaGreat.Shv Go.Sort
set_option maxRecDepth 100000
def ZeroV(v:SValue) :Prop:=(v.Kind=1∨v.Bool_=false)∧(v.Kind=2∨v.Int_=0)∧(v.Kind=3∨v.Str=[])∧((v.Kind=4∨v.Kind=6)∨v.ID=0)∧(v.Kind=8∨v.Keys=[])∧(5≤v.Kind∨v.Items=[])∧((v.Kind=5∨v.Kind=6)∨v.Rest=[])
theorem gyi(v:SValue) :SaysP (g5p v) (ZeroV v):=by
 rw[g5p];refine .of ?_;unfold ZeroV;have e:∀{α:Type} (l:List α),((l.length:Int)=0)↔l=[]:=fun l=>by
   cases l with
   | nil=>simp
   | cons a l=>simp;omega
 simp only[Bool.cond_eq_ite,Bool.ite_eq_true_distrib,e];have h1:∀{a b:Bool},(if a=true then true else b)=true↔(a=true∨b=true):=fun {a b}=>by cases a <;> simp
 have h2:∀{a b:Bool},(if a=true then b else false)=true↔(a=true∧b=true):=fun {a b}=>by cases a <;> simp
 simp[and_assoc];constructor
 · rintro h
   simp_all
   grind
 · grind
theorem cutS{z b:Bool}{o:Option Bool}{P Z Q:Prop}(hz:z=true↔Z)(hb:b=false↔Q)(ho:SaysP o P) :SaysP (if(bif (bif false then true else(!z))then true else b)=true then some false else o) (Z∧Q∧P):=by
 obtain⟨r,rfl,h⟩:=ho;cases z with
 | false=>
   refine⟨false,rfl,?_⟩;simp at hz;simp[hz]
 | true=>
   cases b with
   | true=>refine⟨false,rfl,?_⟩;simp at hb;simp[hb]
   | false=>refine⟨r,rfl,?_⟩;simp at hz hb;simp[hz,hb,h]
theorem and2S{q:Bool}{o:Option Bool}{P Q:Prop}(hq:q=true↔Q)(ho:SaysP o P) :SaysP (some q >>=fun t244=>(if t244=true then o else some false) >>=fun r_10=>some (bif t244 then r_10 else false)) (Q∧P):=by
 obtain⟨r,rfl,h⟩:=ho;refine⟨q && r,by cases q <;> cases r <;> rfl,?_⟩;rw[Bool.and_eq_true,hq,h]
theorem and5S {A : Bool} {ro L : Option Bool} {PA PR PM : Prop} (hA : A = true ↔ PA) (hr : SaysP ro PR) (hM : A = true → SaysP L PM) :
   SaysP (some (!A) >>=fun t107=>(if(!t107)=true then ro else some false) >>=fun r_5=>if(bif t107 then true else(!r_5))=true then some false else L) (PA∧PR∧PM):=by
 obtain⟨q,rfl,hq⟩:=hr;cases A with
 | false=>refine⟨false,rfl,?_⟩;simp at hA;simp[hA]
 | true=>
   obtain⟨m,rfl,hm⟩:=hM rfl;cases q with
   | false=>refine⟨false,rfl,?_⟩;simp at hq;simp[hq]
   | true=>refine⟨m,rfl,?_⟩;simp at hA hq;simp[hA,hq,hm]
theorem and8S {c : Bool} {ok oi L : Option Bool} {PC PK PI PQ : Prop} (hc : c = false ↔ PC) (hk : SaysP ok PK) (hi : SaysP oi PI) (hL : SaysP L PQ) :
   SaysP (some c >>=fun t239=>(if(!t239)=true then ok else some false) >>=fun r_12=>some (bif t239 then true else(!r_12)) >>=fun t249=>(if(!t249)=true then oi else some false) >>=fun r_13=>if(bif t249 then true else(!r_13))=true then some false else L) (PC∧PK∧PI∧PQ):=by
 obtain⟨k,rfl,hk⟩:=hk;obtain⟨i,rfl,hi⟩:=hi;obtain⟨q,rfl,hq⟩:=hL;rw[←hc,←hk,←hi,←hq];cases c <;> cases k <;> cases i <;> exact⟨_,rfl,by simp⟩
theorem ghi{l:List SSymbol}{id:Int}{r:Int × Bool}(h:ggg l id r) :r.2=true↔∃y,y∈l∧y.ID=id:=by
 rcases h with⟨j,h1,h2,h3,rfl⟩ | ⟨h1,rfl⟩
 · simp only[true_iff];exact⟨_,gh h1 dSSymbol,h2⟩
 · constructor
   · intro h;cases h
   · rintro ⟨y,hy,he⟩
     obtain⟨i,hi,rfl⟩:=List.getElem_of_mem hy;have:=h1 i hi;rw[g16 hi]at this;exact absurd he this
section
variable {ts:List SType} (hn:ts.length < 9223372036854775807) (hT:∀t,t∈ts→OkT t) (hK:∀t,t∈ts→g8w t.Kind)
include hn hT hK in
theorem gzy{v:SValue}(hv:OkV v) :FitS ts v:=by
 induction hv with
 | mk v hs h1 h2 h3 hk hi hrd n1 n2 n3 n4 ihk ihi=>
   intro t pl;rw[g22];by_cases hout:(bif decide (t < 0)then true else decide (((⟨ts⟩:SSchema).Types.length:Int)≤t))=true
   · rw[if_pos hout];refine⟨false,rfl,?_⟩;rw[gb2];have:¬(0≤t∧t < ts.length):=by
       intro hh;simp only[Bool.cond_eq_ite]at hout;by_cases h0:t < 0
       · omega
       · simp[h0]at hout;omega
     constructor
     · intro h;cases h
     · rintro ⟨⟨a,b,_⟩,_⟩;exact absurd ⟨a,b⟩ this
   · rw[if_neg hout];have hin:0≤t∧t < ts.length:=by
       simp only[Bool.cond_eq_ite]at hout;by_cases h0:t < 0
       · simp[h0]at hout
       · simp[h0]at hout;omega
     obtain⟨j,rfl⟩:∃j:Nat,t=(j:Int):=⟨t.toNat,by omega⟩
     have hj:j < ts.length:=by omega
     rw[if_pos (g6 hj)];simp only[gb2,g7,SValue.g13];have hxT:=hT _ (gh hj dSType);have hxK:=hK _ (gh hj dSType);generalize ts.getD j dSType=x at hxT hxK ⊢;have hm:=gz (g3c hxT.mems);have hsy:=gz (g3c hxT.syms);by_cases hkd:v.Kind=x.Kind
     · obtain⟨z,z1,z2⟩:=gyi v;have hitems:=gs0 (ts:=ts) h2 ihi;have hkeys:=gs0 (ts:=ts) h1 ihk;show SaysP ((if(!(!(decide (v.Kind=x.Kind))))=true then g5p v else some false) >>=_) _;rw[if_pos (by simp[hkd]),z1];obtain⟨K,N,L,H,M,S,Ms,Ke,E,O⟩:=x;obtain⟨vK,B,I,Sx,ID,Ks,Is,R⟩:=v;simp only at hkd;subst hkd;simp only at hxK hm hsy h1 h2 h3 z1
       have hb:(bif pl then decide (0 < (R.length:Int))else false)=false↔(pl=true→R=[]):=by
         cases pl
         · simp
         · cases R <;> simp
       have hc:vK=1∨vK=2∨vK=3∨vK=4∨vK=5∨vK=6∨vK=7∨vK=8∨vK=9:=by unfold g8w at hxK;omega
       have cut : ∀ {o : Option Bool} {P W : Prop}, SaysP o P → ((ZeroV ⟨vK, B, I, Sx, ID, Ks, Is, R⟩ ∧ (pl = true → R = []) ∧ P) ↔ W) →
           SaysP (some z >>=fun r=>if(bif (bif false then true else(!r))then true else bif pl then decide (0 < (R.length:Int))else false)=true then some false else o) W:=fun ho hw=>(cutS z2 hb ho).imp hw
       have hz:(0:Int)≤j∧(j:Int) < ts.length:=hin;rcases hc with rfl | rfl | rfl | rfl | rfl | rfl | rfl | rfl | rfl
       · exact cut (P:=True) (.of (b:=true) (by simp)) (by unfold ZeroV;simp[hz];grind)
       · exact cut (P:=L≤I∧I≤H) (.of (b:=bif decide (L≤I)then decide (I≤H)else false) (by by_cases g:L≤I <;> simp[g])) (by unfold ZeroV;simp[hz];grind)
       · exact cut (P:=(Sx.length:Int)≤M) (.of (b:=decide ((Sx.length:Int)≤M)) (by simp)) (by unfold ZeroV;simp[hz];grind)
       · obtain⟨r,_,r2,hf⟩:=gbd (t:=⟨4,N,L,H,M,S,Ms,Ke,E,O⟩) ID hsy;have hid:g1f (ID,false)=some (bif decide (1≤ID)then decide (ID≤1000)else false):=by
           rw[g1f];cases decide (1≤ID) <;> rfl
         have h4:=k4r r2 O pl _ (fun b=>g1f (ID,b)) hid;have hs:=ghi hf;simp only at hs;refine cut (P:=(∃y,y∈S∧y.ID=ID)∨O=true∧pl=false∧I1000 ID) ⟨_,h4,?_⟩ (by unfold ZeroV;simp[hz];grind);rw[←hs];unfold I1000;cases r.2 <;> cases O <;> cases pl <;> by_cases g1:1≤ID <;> by_cases g2:ID≤1000 <;> simp[g1,g2]
       · refine cut (P:=Is.length=Ms.length∧g9i Ms R∧vfitm ts pl Ms Is) ?_ (by
           have:vfitm ts pl Ms Is→Is.length=Ms.length:=fun h=>(g9y.1 h).1
           unfold ZeroV;simp[hz];grind)
         exact and5S (A:=decide ((Is.length:Int)=(Ms.length:Int))) (by simp;omega) (gyg (t:=⟨5,N,L,H,M,S,Ms,Ke,E,O⟩) hm h3) (fun hA=>gw3 (ts:=ts) (t:=⟨5,N,L,H,M,S,Ms,Ke,E,O⟩) (v:=⟨5,B,I,Sx,ID,Ks,Is,R⟩) (gna hA) hm ihi pl)
       · obtain⟨r,_,r2,hf⟩:=g3n (t:=⟨6,N,L,H,M,S,Ms,Ke,E,O⟩) ID hm;have hid:∀b,b=false→g1f (ID,b)=some (bif decide (1≤ID)then decide (ID≤1000)else false):=by
           intro b hb;subst hb;rw[g1f];cases decide (1≤ID) <;> rfl
         have hR0:decide ((R.length:Int)=1)=true→inR 0 R.length=true:=by
           intro h;have:=of_decide_eq_true h;exact g6 (k:=0) (by omega)
         refine cut (P:=match findM Ms ID with
           | some m=>R=[]∧Is.length=1∧vfits ts pl m.Type_ Is
           | none=>O=true∧pl=false∧I1000 ID∧Is=[]∧∃d,R=[⟨ID,d⟩]) ?_ (by
             unfold ZeroV;simp[hz];cases findM Ms ID <;> grind)
         obtain⟨ri,rk⟩:=r;show SaysP (g17 (⟨6,N,L,H,M,S,Ms,Ke,E,O⟩,ID) >>=_) _;rw[r2];rcases g57 hf with⟨e,k,k1,k2,k3,k4⟩ | ⟨e,k3⟩
         · simp only at e k1 k2 k3 k4;subst e;subst k2;rw[k3];have hX:∃f:Bool,((bif decide ((Is.length:Int)=1)then decide ((R.length:Int)=0)else false)=true→g22 ((⟨ts⟩:SSchema),(Ms.getD (k:Int).toNat dSMember).Type_,Is.getD (0:Int).toNat dSValue,pl)=some f)∧(Is.length=1→(f=true↔vfits ts pl (Ms.getD k dSMember).Type_ Is)):=by
             by_cases h1':Is.length=1
             · obtain⟨f,f1,f2⟩:=ihi (Is.getD 0 dSValue) (gh (by omega:0 < Is.length) dSValue) (Ms.getD k dSMember).Type_ pl;refine⟨f,fun _=>f1,fun _=>?_⟩;rw[f2]
               match Is,h1' with
               | [y],_=>rw[g3q];simp
             · refine⟨false,fun h=>?_,fun h=>absurd h h1'⟩
               exfalso
               have:decide ((Is.length:Int)=1)=false:=by simp;omega
               rw[this]at h;cases h
           obtain⟨f,f1,f2⟩:=hX;have hidx:(bif decide ((Is.length:Int)=1)then decide ((R.length:Int)=0)else false)=true→inR (k:Int) Ms.length=true∧inR 0 Is.length=true:=by
             intro hc';refine⟨g6 k1,?_⟩;by_cases h1':Is.length=1
             · exact g6 (k:=0) (by omega)
             · have:decide ((Is.length:Int)=1)=false:=by simp;omega
               rw[this]at hc';cases hc'
           refine⟨_,k6k _ (inR (k:Int) Ms.length) (inR 0 Is.length) f f1 hidx,?_⟩;by_cases g1:Is.length=1
           · have g2:=f2 g1;simp only[g1,Bool.and_eq_true,g2];cases R <;> simp <;> omega
           · have:decide ((Is.length:Int)=1)=false:=by simp;omega
             simp[this,g1]
         · simp only at e k3;subst e;rw[k3];refine⟨_,k6u (bif O then(!pl)else false) (bif decide (1≤ID)then decide (ID≤1000)else false) (decide ((Is.length:Int)=0)) (decide ((R.length:Int)=1)) (inR 0 R.length) (decide ((R.getD (0:Int).toNat dSRaw).ID=ID)) hR0,?_⟩;unfold I1000
           match R with
           | []=>simp
           | [⟨rid,rd⟩]=>
             cases O <;> cases pl <;> by_cases g1:1≤ID <;> by_cases g2:ID≤1000 <;> cases Is <;> by_cases g3:rid=ID <;> simp[g1,g2,g3] <;> omega
           | a::b::c=>simp;omega
       · exact cut (P:=(Is.length:Int)≤M∧vfits ts pl E Is) (and2S (by simp) (hitems E pl)) (by unfold ZeroV;simp[hz];grind)
       · refine cut (P:=((Ks.length:Int)≤M∧Is.length=Ks.length)∧vfits ts pl Ke Ks∧vfits ts pl E Is∧gb1 Ks) ?_ (by unfold ZeroV;simp[hz];grind);refine and8S (c:=bif decide (M < (Ks.length:Int))then true else(!(decide ((Is.length:Int)=(Ks.length:Int))))) ?_ (hkeys Ke pl) (hitems E pl) (gyh (v:=⟨8,B,I,Sx,ID,Ks,Is,R⟩) (gz h1) hk)
         by_cases g1:M < (Ks.length:Int)
         · simp[g1];omega
         · simp[g1];omega
       · exact cut (P:=Is.length≤1∧vfits ts pl E Is) (and2S (q:=decide ((Is.length:Int)≤1)) (by simp;omega) (hitems E pl)) (by unfold ZeroV;simp[hz];grind)
     · refine⟨false,by simp[hkd],?_⟩;constructor
       · intro h;cases h
       · rintro ⟨⟨_,_,a,_⟩,_⟩;exact absurd a hkd
end
end
section
open Go Go.Proofs.YthnmepafpikaiaaGreat.Shv Go.Sort
set_option maxRecDepth 100000
theorem room1{n:Nat}(h:n≤70368744177664) :room 1 n=true:=by
 unfold room g42 g1k;simp only[Bool.and_eq_true,decide_eq_true_eq];omega
theorem gyj{n:Nat}(h:n≤2199023255552) :room 24 n=true:=by
 unfold room g42 g1k;simp only[Bool.and_eq_true,decide_eq_true_eq];omega
theorem bws{s b:List UInt8}(h:b.length+s.length≤70368744177664) :g2b (s,b)=some ((s.length:Int),b++s):=by
 rw[g2b];simp only[oZ4,oZ3];rw[if_pos (by simp),if_pos (room1 h)];rfl
theorem bstr(b:List UInt8) :g4o b=some b:=by
 rw[g4o,if_pos (by simp[eqI])]
theorem ggh(a b:Nat) :maxI (a:Int) (b:Int)=((max a b:Nat):Int):=by unfold maxI;omega
theorem g1m{α:Type}{l:List α}{i:Nat}(h:i < l.length)(d:α) :l.drop i=l.getD i d::l.drop (i+1):=by
 rw[g16 h];exact List.drop_eq_getElem_cons h
def ent(f:Fd) :EncodeEntry:=⟨(f.id:Int),f.text⟩
theorem gw4{m:SMember}(hm:OkV m.Default)(v:SValue) :g94 (m,v)=some (om m v):=by
 rw[g94];unfold om;cases hd:m.HasDefault with
 | false=>simp
 | true=>
   obtain⟨r,h1,h2⟩:=gvv hm v;simp only[SValue.g13];rw[if_pos trivial,h1];simp only[oZ4,oZ3,cond_true,Bool.true_and]
   congr 1
   by_cases e:m.Default=v
   · simp[e,h2.2 e]
   · have:r≠true:=fun h=>e (h2.1 h)
     simp[e,this]
theorem gu3{m:SMember}{v:SValue}(hv:OkV v)(hd:m.HasDefault=true) :g14 (v,m.Default)=some (om m v):=by
 obtain⟨r,h1,h2⟩:=go2 hv m.Default;rw[h1];unfold om;rw[hd,Bool.true_and]
 congr 1
 by_cases e:m.Default=v
 · simp[e,h2.2 e.symm]
 · have:r≠true:=fun h=>e (h2.1 h).symm
   simp[e,this]
section
variable {ts:List SType}
def Wr(ts:List SType)(x:SValue)(t:Int) :Prop:=∀L D:Nat,1≤L→L+wt x≤1125899906842624→g1e (t,x,(L:Int),ts,(D:Int))=some (vpay ts t x,ts,((max D (L+vlev ts t x - 1):Nat):Int))
theorem gpa :∀{ms:List SMember} {l:List SValue},(vents ts ms l).length≤ms.length
 | [],l=>by
   rw[vents]
   · simp
   · intros;simp_all
 | m::ms,[]=>by
   rw[vents]
   · simp
   · intros;simp_all
 | m::ms,v::l=>by
   rw[vents];have:=gpa (ms:=ms) (l:=l);split <;> simp <;> omega
theorem gb3(t:Int)(v:SValue) :1≤vlev ts t v:=by
 cases v;rw[vlev];omega
theorem gyk {Ms : List SMember} {v : SValue} (hM : Ms.length ≤ 1000) (hd : ∀ m, m ∈ Ms → OkV m.Default) (hid : ∀ m, m ∈ Ms → I1000 m.ID) (hl : v.Items.length = Ms.length) (hlen : ∀ x, x ∈ v.Items → ∀ t, (vpay ts t x).length ≤ 70368744177664)
   (hw:∀i,i < Ms.length→om (Ms.getD i dSMember) (v.Items.getD i dSValue)=false→Wr ts (v.Items.getD i dSValue) (Ms.getD i dSMember).Type_) (L:Nat) (hL:1≤L) (hLw:L+wts v.Items < 1125899906842624):
   ∀(k i:Nat) (D:Nat) (acc:List EncodeEntry),i+k=Ms.length→L≤D→acc.length+k≤100000→
   g2j ((L:Int),Ms,(Ms.length:Int),(i:Int),ts,(D:Int),v,acc)=some (ts,((max D (L+vlevm ts (Ms.drop i) (v.Items.drop i)):Nat):Int),v,acc++(vents ts (Ms.drop i) (v.Items.drop i)).map ent)
 | 0,i,D,acc,hi,hD,ha=>by
   rw[g2j,if_neg (by simp;omega),SValue.g13,List.drop_eq_nil_of_le (by omega:Ms.length≤i)];rw[vlevm,vents]
   · simp;omega
   · intros;simp_all
   · intros;simp_all
 | k+1,i,D,acc,hi,hD,ha=>by
   have hlt:i < Ms.length:=by omega
   have hlt2:i < v.Items.length:=by omega
   rw[g2j,if_pos (by simp;omega),if_pos (g6 hlt)];simp only[oZ4,oZ3,g7,SValue.g13,g5r];rw[if_pos (g6 hlt2),gw4 (hd _ (gh hlt dSMember))];rw[g1m hlt dSMember,g1m hlt2 dSValue,vlevm,vents];have hrec:=gyk hM hd hid hl hlen hw L hL hLw k (i+1);cases ho:om (Ms.getD i dSMember) (v.Items.getD i dSValue)with
   | true=>
     simp only[oZ3,Bool.not_true,Bool.false_eq_true,if_false,if_true];rw[g9 (by omega)];exact hrec D acc (by omega) hD (by omega)
   | false=>
     have hmem:v.Items.getD i dSValue∈v.Items:=gh hlt2 dSValue;have hwm:=g4c hmem;have hW:=hw i hlt ho (L+1) D (by omega) (by omega);have hlv:=gb3 (ts:=ts) (Ms.getD i dSMember).Type_ (v.Items.getD i dSValue);have hI:=hid _ (gh hlt dSMember);obtain⟨n,hn⟩:∃n:Nat,(Ms.getD i dSMember).ID=(n:Int):=⟨(Ms.getD i dSMember).ID.toNat,by unfold I1000 at hI;omega⟩
     simp only[oZ3,Bool.not_false,if_true,Bool.false_eq_true,if_false];have hpl:=hlen _ hmem (Ms.getD i dSMember).Type_;have e1:addI .i64 (L:Int) 1=((L+1:Nat):Int):=g9 (by omega);rw[if_pos (g6 hlt2),e1,hW];simp only[oZ3];rw[hn,grk (by unfold I1000 at hI;omega) (by omega)];simp only[oZ3]
     rw[if_pos (gyj (by simp;omega)),g9 (by omega),hrec _ _ (by omega) (by omega) (by simp;omega)];have:(⟨(n:Int),gaj n (Ms.getD i dSMember).Critical (vpay ts (Ms.getD i dSMember).Type_ (v.Items.getD i dSValue))⟩:EncodeEntry)=ent ⟨(n:Int).toNat,(Ms.getD i dSMember).Critical,vpay ts (Ms.getD i dSMember).Type_ (v.Items.getD i dSValue)⟩:=by
       unfold ent Fd.text;simp
     rw[this];simp only[List.map_cons,List.append_assoc,List.singleton_append]
     congr 3
     have:max (max D (L+1+vlev ts (Ms.getD i dSMember).Type_ (v.Items.getD i dSValue) - 1)) (L+vlevm ts (Ms.drop (i+1)) (v.Items.drop (i+1)))=max D (L+max (vlev ts (Ms.getD i dSMember).Type_ (v.Items.getD i dSValue)) (vlevm ts (Ms.drop (i+1)) (v.Items.drop (i+1)))):=by omega
     rw[this]
theorem gyl {R : List SRaw} (hr : ∀ x, x ∈ R → I1000 x.ID ∧ x.Data.length ≤ reachBytes) (hR : R.length ≤ 2199023255552) (D : Int) : ∀ (k i : Nat) (acc : List EncodeEntry), i + k = R.length → acc.length + k ≤ 2199023255552 →
   g2h (R,(R.length:Int),(i:Int),ts,D,acc)=some (ts,D,acc++((R.drop i).map rawF).map ent)
 | 0,i,acc,hi,ha=>by
   rw[g2h,if_neg (by simp;omega),List.drop_eq_nil_of_le (by omega:R.length≤i)];simp
 | k+1,i,acc,hi,ha=>by
   have hlt:i < R.length:=by omega
   obtain⟨hI,hdl⟩:=hr _ (gh hlt dSRaw);obtain⟨n,hn⟩:∃n:Nat,(R.getD i dSRaw).ID=(n:Int):=⟨(R.getD i dSRaw).ID.toNat,by unfold I1000 at hI;omega⟩
   unfold reachBytes at hdl;rw[g2h,if_pos (by simp;omega),if_pos (g6 hlt)];simp only[oZ4,oZ3,g7];rw[hn,grk (by unfold I1000 at hI;omega) (by omega)];simp only[oZ3];rw[if_pos (gyj (by simp;omega)),g9 (by omega),gyl hr hR D k (i+1) _ (by omega) (by simp;omega),g1m hlt dSRaw]
   have:(⟨(n:Int),gaj n false (R.getD i dSRaw).Data⟩:EncodeEntry)=ent (rawF (R.getD i dSRaw)):=by
     show _=(⟨(((R.getD i dSRaw).ID.toNat:Nat):Int),gaj (R.getD i dSRaw).ID.toNat false (R.getD i dSRaw).Data⟩:EncodeEntry);rw[hn,Int.toNat_natCast]
   rw[this];simp
theorem gym {l : List Fd} (D : Int) : ∀ (k i : Nat) (b : List UInt8), i + k = l.length → l.length ≤ 2199023255552 → b.length + ((l.drop i).flatMap Fd.text).length ≤ 70368744177664 →
   g2i ((l.length:Int),(i:Int),ts,D,l.map ent,b)=some (ts,D,b++(l.drop i).flatMap Fd.text)
 | 0,i,b,hi,_,hb=>by
   rw[g2i,if_neg (by simp;omega),List.drop_eq_nil_of_le (by omega:l.length≤i)];simp
 | k+1,i,b,hi,hl,hb=>by
   have hlt:i < l.length:=by omega
   rw[g2i,if_pos (by simp;omega),if_pos (g6 (by simp;omega)),if_pos (by simp;omega)];rw[g1m hlt default]at hb ⊢;simp only[List.flatMap_cons,List.length_append]at hb ⊢;have hg:(l.map ent).getD i dEncodeEntry=ent (l.getD i default):=g2c ent l i default dEncodeEntry hlt;simp only[g7,hg];have:(ent (l.getD i default)).text=(l.getD i default).text:=rfl
   rw[this,bws (by omega)];simp only[oZ4,oZ3];rw[g9 (by omega),gym D k (i+1) _ (by omega) hl (by rw[List.length_append];omega)];simp
end
end
section
open Go Go.Proofs.YthnmepafpikaiaaGreat.Shv Go.Sort
set_option maxRecDepth 100000
structure SOk (ts:List SType):Prop where
 n:ts.length≤1000
 T:∀t,t∈ts→OkT t
 K:∀t,t∈ts→g8w t.Kind
 M:MOk ts
 A:∀x,x∈ts→(x.Kind=5∨x.Kind=6)→MAsc x.Members∧x.Members.length≤16
 S:∀x,x∈ts→x.Kind=4→∀y,y∈x.Symbols→I1000 y.ID
 Ky:∀x,x∈ts→x.Kind=8→1≤(ts.getD x.Key.toNat dSType).Kind∧(ts.getD x.Key.toNat dSType).Kind≤4
section
variable {ts:List SType}
theorem vpay1{t:Int}{v:SValue}(h:(ts.getD t.toNat dSType).Kind=1) :vpay ts t v=if v.Bool_=true then[1]else[]:=by
 cases v;rw[vpay];simp only[h];rfl
theorem vpay2{t:Int}{v:SValue}(h:(ts.getD t.toNat dSType).Kind=2) :vpay ts t v=vbig (zig v.Int_).toNat:=by
 cases v;rw[vpay];simp only[h];rfl
theorem vpay3{t:Int}{v:SValue}(h:(ts.getD t.toNat dSType).Kind=3) :vpay ts t v=v.Str:=by
 cases v;rw[vpay];simp only[h];rfl
theorem vpay4{t:Int}{v:SValue}(h:(ts.getD t.toNat dSType).Kind=4) :vpay ts t v=vbig v.ID.toNat:=by
 cases v;rw[vpay];simp only[h];rfl
theorem vpay5{t:Int}{v:SValue}(h:(ts.getD t.toNat dSType).Kind=5) :vpay ts t v=(isoB ltF (g5l ts (ts.getD t.toNat dSType).Members v.Items v.Rest)).flatMap Fd.text:=by
 cases v;rw[vpay];simp only[h];rfl
theorem vpay6 {t : Int} {v : SValue} (h : (ts.getD t.toNat dSType).Kind = 6) : vpay ts t v = vput v.ID.toNat ++ (match findM (ts.getD t.toNat dSType).Members v.ID with
     | some m=>(vpays ts m.Type_ v.Items).headD []
     | none=>(v.Rest.map SRaw.Data).headD []):=by
 cases v;rw[vpay];simp only[h];rfl
theorem vpay7{t:Int}{v:SValue}(h:(ts.getD t.toNat dSType).Kind=7) :vpay ts t v=(vpays ts (ts.getD t.toNat dSType).Elem v.Items).flatMap g5k:=by
 cases v;rw[vpay];simp only[h];rfl
theorem vpay8{t:Int}{v:SValue}(h:(ts.getD t.toNat dSType).Kind=8) :vpay ts t v=ilv (vpays ts (ts.getD t.toNat dSType).Key v.Keys) (vpays ts (ts.getD t.toNat dSType).Elem v.Items):=by
 cases v;rw[vpay];simp only[h];rfl
theorem vpay9 {t : Int} {v : SValue} (h : (ts.getD t.toNat dSType).Kind = 9) : vpay ts t v = match vpays ts (ts.getD t.toNat dSType).Elem v.Items with
     | []=>[]
     | p::_=>1::p:=by
 cases v;rw[vpay];simp only[h];rfl
theorem go5 (t : Int) (v : SValue) : vlev ts t v = 1 + max (if v.Keys = [] then 0 else 1) (if (ts.getD t.toNat dSType).Kind = 5 then vlevm ts (ts.getD t.toNat dSType).Members v.Items
     else if(ts.getD t.toNat dSType).Kind=6 then(match findM (ts.getD t.toNat dSType).Members v.ID with
       | some m=>vlevs ts m.Type_ v.Items
       | none=>0)
     else vlevs ts (ts.getD t.toNat dSType).Elem v.Items):=by
 cases v;rw[vlev];try rfl
theorem gpb{t:Int}{v:SValue}(hk:v.Keys=[])(hi:v.Items=[]) :vlev ts t v=1:=by
 rw[go5,hk,hi];have h1:vlevs ts (ts.getD t.toNat dSType).Elem []=0:=by rw[vlevs]
 have h2:vlevm ts (ts.getD t.toNat dSType).Members []=0:=by
   rw[vlevm];intros;simp_all
 rw [h1, h2];have h3 : (match findM (ts.getD t.toNat dSType).Members v.ID with
       | some m=>vlevs ts m.Type_ []
       | none=>0)=0:=by
   split
   · rw[vlevs]
   · rfl
 rw[h3];simp
theorem gpc {x : SType} {v : SValue} (h8 : ¬ x.Kind = 8) (hlen : ∀ y, y ∈ v.Items → (vpay ts x.Elem y).length ≤ 1000000000000000) (hw : ∀ y, y ∈ v.Items → Wr ts y x.Elem) (hl : v.Items.length ≤ reachBytes) (L : Nat) (hL : 1 ≤ L) (hLw : L + wts v.Items < 1125899906842624) :
   ∀(k i D:Nat) (acc:List UInt8),i+k=v.Items.length→L≤D→acc.length+((vpays ts x.Elem (v.Items.drop i)).flatMap g5k).length≤70368744177664→
   g19 ((L:Int),v.Items,(v.Items.length:Int),(i:Int),ts,(D:Int),v,x,acc)=some (ts,((max D (L+vlevs ts x.Elem (v.Items.drop i)):Nat):Int),acc++(vpays ts x.Elem (v.Items.drop i)).flatMap g5k)
 | 0,i,D,acc,hi,hD,ha=>by
   rw[g19,if_neg (by simp;omega),List.drop_eq_nil_of_le (by omega:v.Items.length≤i),vlevs,vpays];simp;omega
 | k+1,i,D,acc,hi,hD,ha=>by
   have hlt:i < v.Items.length:=by omega
   have hr:=gz hl;have hmem:v.Items.getD i dSValue∈v.Items:=gh hlt dSValue;have hwm:=g4c hmem;rw[g1m hlt dSValue,vpays,List.flatMap_cons,List.length_append]at ha;have hp:=hlen _ hmem;have hW:=hw _ hmem (L+1) D (by omega) (by omega);have hlv:=gb3 (ts:=ts) x.Elem (v.Items.getD i dSValue);have e1:addI .i64 (L:Int) 1=((L+1:Nat):Int):=g9 (by omega)
   rw[g19,if_pos (by simp;omega),if_pos (g6 hlt)];simp only[oZ4,oZ3,g7,SValue.g13];rw[if_neg (by simp[h8]),e1,hW];simp only[oZ3];rw[ghe (by omega)];simp only[oZ3];rw[bws (by omega)];simp only[oZ3]
   rw[g9 (by omega),gpc h8 hlen hw hl L hL hLw k (i+1) _ _ (by omega) (by omega) (by rw[List.length_append];omega),g1m hlt dSValue,vlevs,vpays,List.flatMap_cons,List.append_assoc]
   have:max (max D (L+1+vlev ts x.Elem (v.Items.getD i dSValue) - 1)) (L+vlevs ts x.Elem (v.Items.drop (i+1)))=max D (L+max (vlev ts x.Elem (v.Items.getD i dSValue)) (vlevs ts x.Elem (v.Items.drop (i+1)))):=by omega
   rw[this]
theorem gs1 {x : SType} {v : SValue} (h8 : x.Kind = 8) (hkl : v.Items.length = v.Keys.length) (hlen : ∀ y, y ∈ v.Items → (vpay ts x.Elem y).length ≤ 1000000000000000) (hlenk : ∀ y, y ∈ v.Keys → (vpay ts x.Key y).length ≤ 1000000000000000)
   (hw:∀y,y∈v.Items→Wr ts y x.Elem) (hwk:∀y,y∈v.Keys→Wr ts y x.Key) (h1:∀y,y∈v.Keys→vlev ts x.Key y=1) (hl:v.Items.length≤reachBytes) (L:Nat) (hL:1≤L) (hLw:L+wts v.Items+wts v.Keys < 1125899906842624):
   ∀(k i D:Nat) (acc:List UInt8),i+k=v.Items.length→L≤D→acc.length+(ilv (vpays ts x.Key (v.Keys.drop i)) (vpays ts x.Elem (v.Items.drop i))).length≤70368744177664→
   g19 ((L:Int),v.Items,(v.Items.length:Int),(i:Int),ts,(D:Int),v,x,acc)=some (ts,((max D (L+max (if v.Keys.drop i=[]then 0 else 1) (vlevs ts x.Elem (v.Items.drop i))):Nat):Int),acc++ilv (vpays ts x.Key (v.Keys.drop i)) (vpays ts x.Elem (v.Items.drop i)))
 | 0,i,D,acc,hi,hD,ha=>by
   rw[g19,if_neg (by simp;omega),List.drop_eq_nil_of_le (by omega:v.Items.length≤i),List.drop_eq_nil_of_le (by omega:v.Keys.length≤i),vlevs,vpays,vpays,ilv]
   · simp;omega
   · intros;simp_all
 | k+1,i,D,acc,hi,hD,ha=>by
   have hlt:i < v.Items.length:=by omega
   have hlt2:i < v.Keys.length:=by omega
   have hr:=gz hl;have hmem:v.Items.getD i dSValue∈v.Items:=gh hlt dSValue;have hmem2:v.Keys.getD i dSValue∈v.Keys:=gh hlt2 dSValue;have hwm:=g4c hmem;have hwm2:=g4c hmem2;rw[g1m hlt dSValue,g1m hlt2 dSValue,vpays,vpays,ilv,List.length_append,List.length_append]at ha;have hp:=hlen _ hmem;have hp2:=hlenk _ hmem2
   have hW2:=hwk _ hmem2 (L+1) D (by omega) (by omega);rw[h1 _ hmem2]at hW2;have hW:=hw _ hmem (L+1) (max D (L+1+1 - 1)) (by omega) (by omega);have hlv:=gb3 (ts:=ts) x.Elem (v.Items.getD i dSValue);have e1:addI .i64 (L:Int) 1=((L+1:Nat):Int):=g9 (by omega);rw[g19,if_pos (by simp;omega),if_pos (g6 hlt)]
   simp only[oZ4,oZ3,g7,SValue.g13];rw[if_pos (by simp[h8]),if_pos (g6 hlt2),e1,hW2];simp only[oZ3];rw[ghe (by omega)];simp only[oZ3];rw[bws (by omega)];simp only[oZ3];rw[hW];simp only[oZ3];rw[ghe (by omega)];simp only[oZ3];rw[bws (by rw[List.length_append];omega)]
   simp only[oZ3];rw[g9 (by omega),gs1 h8 hkl hlen hlenk hw hwk h1 hl L hL hLw k (i+1) _ _ (by omega) (by omega) (by rw[List.length_append,List.length_append];omega),g1m hlt dSValue,g1m hlt2 dSValue,vlevs,vpays,vpays,ilv,List.append_assoc,List.append_assoc];have hne:(if v.Keys.getD i dSValue::v.Keys.drop (i+1)=[]then 0 else 1)=1:=by simp
   have hle:(if v.Keys.drop (i+1)=[]then 0 else 1)≤1:=by split <;> omega
   rw[hne];generalize (if v.Keys.drop (i+1)=[]then 0 else 1)=q at hle ⊢;have:max (max (max D (L+1+1 - 1)) (L+1+vlev ts x.Elem (v.Items.getD i dSValue) - 1)) (L+max q (vlevs ts x.Elem (v.Items.drop (i+1))))=max D (L+max 1 (max (vlev ts x.Elem (v.Items.getD i dSValue)) (vlevs ts x.Elem (v.Items.drop (i+1))))):=by omega
   rw[this]
end
end
section
open Go Go.Proofs.YthnmepafpikaiaaGreat.Shv Go.Sort
set_option maxRecDepth 100000
section
variable {ts:List SType} (H:SOk ts)
theorem gcv(H:SOk ts){v:SValue}(hv:OkV v)(hw:wt v≤1099511627776)(t:Int) :(vpay ts t v).length≤23089744183296:=by
 have:=gzx H.M hv hw t;omega
theorem gyn{ms:List SMember}{l:List SValue}{r:List SRaw}(h:MAsc ms)(hr:g9i ms r) :gj4 ((g5l ts ms l r).map ent)=some ((isoB ltF (g5l ts ms l r)).map ent):=by
 have e:∀a b:Fd,sortLt (ent a) (ent b)=ltF a b:=fun a b=>by unfold sortLt ltF ent;simp
 have hO:SWO sortLt:=by
   refine⟨fun x=>?_,fun x y z h1 h2=>?_,fun x y z h1 h2=>?_⟩ <;> simp[sortLt]at* <;> omega
 have hp:g86 sortLt ((g5l ts ms l r).map ent)=true:=by
   have h0:=ght (ts:=ts) (l:=l) h hr;generalize g5l ts ms l r=q at h0
   induction q with
   | nil=>rfl
   | cons a q ih=>
     simp only[g86,Bool.and_eq_true,List.all_eq_true,List.map_cons]at h0 ⊢;refine⟨fun y hy=>?_,ih h0.2⟩;obtain⟨z,hz,rfl⟩:=List.mem_map.1 hy;rw[e,e];exact h0.1 z hz
 unfold gj4;rw[gtl hO hp,grv ent e]
theorem mxs{D L b w:Nat}(h:w=1+b) :max (max D L) (L+b)=max D (L+w - 1):=by omega
theorem mxq{D L b w:Nat}(h:w=1+b) :max (max D L) (L+1+b - 1)=max D (L+w - 1):=by omega
theorem mx0{b w:Nat}(h:w=1+max 0 b) :w=1+b:=by omega
theorem g10x {x : SType} {v : SValue} (hdef : ∀ m, m ∈ x.Members → OkV m.Default) (hma : MAsc x.Members) (hm16 : x.Members.length ≤ 16) (c6 : g9i x.Members v.Rest) (hil : v.Items.length = x.Members.length)
   (hrd:∀y,y∈v.Rest→y.Data.length≤reachBytes) (hlenI:∀x,x∈v.Items→∀t,(vpay ts t x).length≤23089744183296)
   (hWI:∀i,i < x.Members.length→Wr ts (v.Items.getD i dSValue) (x.Members.getD i dSMember).Type_)
   (hlenv:((isoB ltF (g5l ts x.Members v.Items v.Rest)).flatMap Fd.text).length≤23089744183296)
   (L D:Nat) (hL:1≤L) (hD:L≤D) (hLw:L+wts v.Items < 1125899906842624) (hRw:(v.Rest.map fun x=>x.Data.length+1).sum≤1099511627776):
   g6d (x,v,(L:Int),ts,(D:Int))=some ((isoB ltF (g5l ts x.Members v.Items v.Rest)).flatMap Fd.text,ts,((max D (L+vlevm ts x.Members v.Items):Nat):Int)):=by
 have hma1:=hma.2;have hRok:∀y,y∈v.Rest→I1000 y.ID∧y.Data.length≤reachBytes:=fun y hy=>⟨(c6.2 y hy).1,hrd y hy⟩
 have hRl:v.Rest.length≤(v.Rest.map fun x=>x.Data.length+1).sum:=by
   generalize v.Rest=R
   induction R with
   | nil=>simp
   | cons a R ih=>simp only[List.length_cons,List.map_cons,List.sum_cons];omega
 have hnl:=gpa (ts:=ts) (ms:=x.Members) (l:=v.Items);have r0:=gyk (ts:=ts) (Ms:=x.Members) (v:=v) (by omega) hdef hma1 hil (fun y hy t=>by have:=hlenI y hy t;omega) (fun i hi _=>hWI i hi) L hL (by omega) x.Members.length 0 D [] (by omega) (by omega) (by simp;omega);have r0':g2j ((L:Int),x.Members,(x.Members.length:Int),0,ts,(D:Int),v,[])=_:=r0;rw[g6d]
 simp only[SValue.g13];rw[r0'];simp only[oZ4,oZ3,List.drop_zero,List.nil_append];generalize ((max D (L+vlevm ts x.Members v.Items):Nat):Int)=d;have r1:=gyl (ts:=ts) (R:=v.Rest) hRok (by omega) d v.Rest.length 0 ((vents ts x.Members v.Items).map ent) (by omega) (by simp;omega)
 have r1':g2h (v.Rest,(v.Rest.length:Int),0,ts,d,(vents ts x.Members v.Items).map ent)=_:=r1;rw[r1'];simp only[oZ3,List.drop_zero];rw[←List.map_append];have hs:=gyn (ts:=ts) (l:=v.Items) hma c6;have hlen:(g5l ts x.Members v.Items v.Rest).length≤2199023255552:=by unfold g5l;simp;omega
 have e0:vents ts x.Members v.Items++v.Rest.map rawF=g5l ts x.Members v.Items v.Rest:=rfl;rw[e0];generalize g5l ts x.Members v.Items v.Rest=q at*;rw[hs];simp only[oZ3];have hperm:=gbl ltF q;rw[if_pos (by simp[hperm.length_eq])];have hll:(isoB ltF q).length≤2199023255552:=by
   rw[hperm.length_eq];exact hlen
 generalize isoB ltF q=z at*;have r2:=gym (ts:=ts) (l:=z) d z.length 0 [] (Nat.zero_add _) hll (by simp only[List.drop_zero,List.length_nil];omega);have r2':g2i (((z.map ent).length:Int),0,ts,d,z.map ent,[])=some (ts,d,[]++(z.drop 0).flatMap Fd.text):=by
   rw[List.length_map];exact r2
 rw[r2'];simp only[oZ3,bstr,List.drop_zero,List.nil_append]
theorem gyo {x : SType} {v : SValue} (hm : x.Members.length < 9223372036854775807) (hma : MAsc x.Members) (n3 : -9223372036854775808 ≤ v.ID ∧ v.ID ≤ 9223372036854775807)
   (c5:match findM x.Members v.ID with
     | some m=>v.Rest=[]∧v.Items.length=1∧vfits ts false m.Type_ v.Items
     | none=>x.Open=true∧True∧I1000 v.ID∧v.Items=[]∧∃d,v.Rest=[⟨v.ID,d⟩])
   (hrd:∀y,y∈v.Rest→y.Data.length≤reachBytes) (hlenI:∀x,x∈v.Items→∀t,(vpay ts t x).length≤23089744183296)
   (hWI:∀x,x∈v.Items→∀t,vfit ts false t x→Wr ts x t)
   (L D:Nat) (hL:1≤L) (hD:L≤D) (hLw:L+wts v.Items < 1125899906842624):
   g5f (x, v, (L : Int), ts, (D : Int)) = some (vput v.ID.toNat ++ (match findM x.Members v.ID with
         | some m=>(vpays ts m.Type_ v.Items).headD []
         | none=>(v.Rest.map SRaw.Data).headD []),ts,((max D (L+(match findM x.Members v.ID with
         | some m=>vlevs ts m.Type_ v.Items
         | none=>0)):Nat):Int)):=by
 obtain⟨r,r1,_,hf⟩:=g3n (t:=x) v.ID hm;rcases g57 hf with⟨e,q,q1,q2,q3,q4⟩ | ⟨e,q3⟩
 · rw[q3]at c5;rw[q3];simp only at c5 ⊢;obtain⟨d1,d2,d3⟩:=c5;have hI:=hma.2 _ (gh q1 dSMember);rw[q4]at hI;obtain⟨n,hn⟩:∃n:Nat,v.ID=(n:Int):=⟨v.ID.toNat,by unfold I1000 at hI;omega⟩
   rw[g5f];simp only[SValue.g13];rw[r1,hn,wrpn (by unfold I1000 at hI;omega),gjf (by unfold I1000 at hI;omega)];simp only[oZ4,oZ3];rw[if_neg (by simp[e]),q2,if_pos (g6 q1)]
   match hI:v.Items,d2 with
   | [y],_=>
     have hy:y∈v.Items:=by rw[hI];exact .head _
     have hi0:inR 0 ([y]:List SValue).length=true:=g6 (k:=0) (by simp);have hwm:=g4c hy;have hf:=g3q.1 d3 y hy;have hW:=hWI y hy _ hf (L+1) D (by omega) (by omega);have e1:addI .i64 (L:Int) 1=((L+1:Nat):Int):=g9 (by omega);rw[if_pos hi0,e1];simp only[g7,Int.toNat_zero,List.getD_cons_zero];rw[hW];have hp:=hlenI y hy (x.Members.getD q dSMember).Type_
     have hp10:=g3z (n:=n) (by rw[hn]at n3;omega);simp only[oZ3];rw[if_pos (g30 (by omega))];have hlv:=gb3 (ts:=ts) (x.Members.getD q dSMember).Type_ y;have ev:vlevs ts (x.Members.getD q dSMember).Type_ [y]=vlev ts (x.Members.getD q dSMember).Type_ y:=by
       have e0:vlevs ts (x.Members.getD q dSMember).Type_ []=0:=by rw[vlevs]
       rw[vlevs,e0];omega
     have ep:vpays ts (x.Members.getD q dSMember).Type_ [y]=[vpay ts (x.Members.getD q dSMember).Type_ y]:=by rw[vpays,vpays]
     have e:max D (L+1+vlev ts (x.Members.getD q dSMember).Type_ y - 1)=max D (L+vlev ts (x.Members.getD q dSMember).Type_ y):=by omega
     rw[ep,ev,e];rfl
 · rw[q3]at c5;rw[q3];simp only at c5 ⊢;obtain⟨d1,d2,d3,d4,d,d5⟩:=c5;obtain⟨n,hn⟩:∃n:Nat,v.ID=(n:Int):=⟨v.ID.toNat,by unfold I1000 at d3;omega⟩
   have hdl:=hrd ⟨v.ID,d⟩ (by rw[d5];exact .head _);simp only at hdl;unfold reachBytes at hdl;have hp10:=g3z (n:=n) (by rw[hn]at n3;omega);rw[g5f];simp only[SValue.g13];rw[r1,d5,hn,wrpn (by unfold I1000 at d3;omega),gjf (by unfold I1000 at d3;omega)];simp only[oZ4,oZ3]
   have hi0:inR 0 ([⟨(n:Int),d⟩]:List SRaw).length=true:=g6 (k:=0) (by simp);rw[if_pos (by simp[e]),if_pos hi0];simp only[Int.toNat_zero,List.getD_cons_zero];rw[if_pos (g30 (by omega))];have e:max D (L+0)=D:=by omega
   rw[e];rfl
set_option maxHeartbeats 400000 in
theorem g10y(H:SOk ts){v:SValue}(hv:OkV v) :wt v≤1099511627776→∀t,vfit ts false t v→Wr ts v t:=by
 induction hv with
 | mk v hs h1 h2 h3 hk hi hrd n1 n2 n3 n4 ihk ihi=>
   intro hw t hf L D hL hLw;have hOk:OkV v:= .mk v hs h1 h2 h3 hk hi hrd n1 n2 n3 n4;have hwt:=wt_eq v;have hlenI:∀x,x∈v.Items→∀t,(vpay ts t x).length≤23089744183296:=fun x hx t=>gcv H (hi x hx) (by have:=g4c hx;omega) t
   have hlenK:∀x,x∈v.Keys→∀t,(vpay ts t x).length≤23089744183296:=fun x hx t=>gcv H (hk x hx) (by have:=g4c hx;omega) t
   have hWI:∀x,x∈v.Items→∀t,vfit ts false t x→Wr ts x t:=fun x hx t=>ihi x hx (by have:=g4c hx;omega) t
   have hWK:∀x,x∈v.Keys→∀t,vfit ts false t x→Wr ts x t:=fun x hx t=>ihk x hx (by have:=g4c hx;omega) t
   have hlenv:=gcv H hOk hw t;obtain⟨⟨g1,g2,g3,_⟩,hf⟩:=(gb2 _ _ _).1 hf;obtain⟨j,rfl⟩:∃j:Nat,t=(j:Int):=⟨t.toNat,by omega⟩
   have hj:j < ts.length:=by omega
   rw[g1e];simp only[oZ4,oZ3];rw[if_pos (g6 hj),ggh];simp only[g7,SValue.g13]at hf g3 ⊢;have hxm:=gh hj dSType;have hlev:=go5 (ts:=ts) (j:Int) v;have hv1:=@vpay1 ts (j:Int) v;have hv2:=@vpay2 ts (j:Int) v;have hv3:=@vpay3 ts (j:Int) v;have hv4:=@vpay4 ts (j:Int) v;have hv5:=@vpay5 ts (j:Int) v;have hv6:=@vpay6 ts (j:Int) v
   have hv7:=@vpay7 ts (j:Int) v;have hv8:=@vpay8 ts (j:Int) v;have hv9:=@vpay9 ts (j:Int) v;simp only[g7]at hlev hv1 hv2 hv3 hv4 hv5 hv6 hv7 hv8 hv9;have hA:=H.A _ hxm;have hKy:=H.Ky _ hxm;have hS:=H.S _ hxm;generalize ts.getD j dSType=x at*;have hlE:¬x.Kind=5→¬x.Kind=6→v.Keys=[]→vlev ts (j:Int) v=1+vlevs ts x.Elem v.Items:=fun a b c=>by
     rw[hlev,if_neg a,if_neg b,if_pos c,Nat.zero_max]
   have leaf:v.Keys=[]→v.Items=[]→max D (L+vlev ts (j:Int) v - 1)=max D L:=fun a b=>by rw[gpb a b];omega
   rcases hf with⟨k,c1,c2,c3,c4,c5,c6⟩ | ⟨k,c1,c2,c3,c4,c5,c6,c7,c8⟩ | ⟨k,c1,c2,c3,c4,c5,c6,c7⟩ | ⟨k,c1,c2,c3,c4,c5,c6,c7⟩ | ⟨k,c1,c2,c3,c4,c5,c6,c7⟩ | ⟨k,c1,c2,c3,c4,c5⟩ | ⟨k,c1,c2,c3,c4,c5,c6,c7,c8⟩ | ⟨k,c1,c2,c3,c4,c5,c6,c7,c8,c9,c10⟩ | ⟨k,c1,c2,c3,c4,c5,c6,c7,c8⟩ <;> rw[k]at g3
   · have kx:=g3.symm;rw[if_pos (by simp[kx]),hv1 kx,leaf c4 c5];cases v.Bool_ <;> rfl
   · have kx:=g3.symm;rw[if_neg (by simp[kx]),if_pos (by simp[kx]),hv2 kx,leaf c4 c5,grq n2];simp only[oZ3];have hz:=grx n2;obtain⟨n,hn⟩:∃n:Nat,zig v.Int_=(n:Int):=⟨(zig v.Int_).toNat,by unfold zig;split <;> omega⟩
     rw[hn,Int.toNat_natCast]at hz;rw[hn,gyf hz];rfl
   · have kx:=g3.symm;rw[if_neg (by simp[kx]),if_neg (by simp[kx]),if_pos (by simp[kx]),hv3 kx,leaf c4 c5]
   · have kx:=g3.symm;rw[if_neg (by simp[kx]),if_neg (by simp[kx]),if_neg (by simp[kx]),if_pos (by simp[kx]),hv4 kx,leaf c4 c5];obtain⟨n,hn⟩:∃n:Nat,v.ID=(n:Int):=⟨v.ID.toNat,by
       rcases c7 with⟨y,hy,he⟩ | ⟨_,_,he⟩
       · have:=hS kx y hy;unfold I1000 at this;omega
       · unfold I1000 at he;omega⟩
     rw[hn,wrpn (by omega),gyf (by omega),Int.toNat_natCast];rfl
   · have kx:=g3.symm;rw[if_neg (by simp[kx]),if_neg (by simp[kx]),if_neg (by simp[kx]),if_neg (by simp[kx]),if_pos (by simp[kx]),hv5 kx];obtain⟨hma,hm16⟩:=hA (.inl kx);obtain⟨hil,hip⟩:=g9y.1 c7
     rw[g10x (H.T _ hxm).dv hma hm16 c6 hil (fun y hy=>hrd y hy) hlenI (fun i hi=>hWI _ (gh (by omega) dSValue) _ (hip i hi)) (by rw[←hv5 kx];exact hlenv) L (max D L) hL (by omega) (by omega) (by omega)];simp only[oZ3];rw[if_pos kx,if_pos c5]at hlev;have e:max (max D L) (L+vlevm ts x.Members v.Items)=max D (L+vlev ts (j:Int) v - 1):=mxs (mx0 hlev);rw[e]
   · have kx:=g3.symm;rw[if_neg (by simp[kx]),if_neg (by simp[kx]),if_neg (by simp[kx]),if_neg (by simp[kx]),if_neg (by simp[kx]),if_pos (by simp[kx]),hv6 kx];obtain⟨hma,hm16⟩:=hA (.inr kx);rw[if_neg (show ¬x.Kind=5 by omega),if_pos kx,if_pos c4]at hlev
     rw [gyo (gz (g3c (H.T _ hxm).mems)) hma n3 c5 (fun y hy => hrd y hy) hlenI hWI L (max D L) hL (by omega) (by omega)];simp only [oZ3];exact congrArg (fun z : Nat => (some (vput v.ID.toNat ++ (match findM x.Members v.ID with
         | some m=>(vpays ts m.Type_ v.Items).headD []
         | none=>(v.Rest.map SRaw.Data).headD []),ts,(z:Int)):Option (List UInt8 × List SType × Int))) (mxs (D:=D) (L:=L) (mx0 hlev))
   · have kx:=g3.symm;rw[if_neg (by simp[kx]),if_neg (by simp[kx]),if_neg (by simp[kx]),if_neg (by simp[kx]),if_neg (by simp[kx]),if_neg (by simp[kx]),if_neg (by simp[kx])];have hf:=g3q.1 c8;rw[hv7 kx]at hlenv
     have:=gpc (x:=x) (v:=v) (by omega) (fun y hy=>by have:=hlenI y hy x.Elem;omega) (fun y hy=>hWI y hy x.Elem (hf y hy)) h2 L hL (by omega) v.Items.length 0 (max D L) [] (by omega) (by omega) (by simp only[List.drop_zero,List.length_nil];omega);have h0:g19 ((L:Int),v.Items,(v.Items.length:Int),0,ts,((max D L:Nat):Int),v,x,[])=_:=this;rw[h0]
     simp only[oZ3,bstr];have hl:=hlE (by omega) (by omega) c5;have e:max (max D L) (L+vlevs ts x.Elem v.Items)=max D (L+vlev ts (j:Int) v - 1):=mxs hl;rw[hv7 kx,List.drop_zero,List.nil_append,e]
   · have kx:=g3.symm;rw[if_neg (by simp[kx]),if_neg (by simp[kx]),if_neg (by simp[kx]),if_neg (by simp[kx]),if_neg (by simp[kx]),if_neg (by simp[kx]),if_neg (by simp[kx])];have hf:=g3q.1 c9;have hfk:=g3q.1 c8;rw[hv8 kx]at hlenv;obtain⟨ky1,ky2⟩:=hKy kx;have hl1:∀y,y∈v.Keys→vlev ts x.Key y=1:=fun y hy=>by
       obtain⟨⟨_,_,b3,_⟩,b⟩:=(gb2 _ _ _).1 (hfk y hy);apply gpb <;> grind
     have:=gs1 (x:=x) (v:=v) kx c7 (fun y hy=>by have:=hlenI y hy x.Elem;omega) (fun y hy=>by have:=hlenK y hy x.Key;omega) (fun y hy=>hWI y hy x.Elem (hf y hy)) (fun y hy=>hWK y hy x.Key (hfk y hy)) hl1 h2 L hL (by omega) v.Items.length 0 (max D L) [] (by omega) (by omega) (by simp only[List.drop_zero,List.length_nil];omega)
     have h0:g19 ((L:Int),v.Items,(v.Items.length:Int),0,ts,((max D L:Nat):Int),v,x,[])=_:=this;rw[h0];simp only[oZ3,bstr];rw[if_neg (show ¬x.Kind=5 by omega),if_neg (show ¬x.Kind=6 by omega)]at hlev;simp only[List.drop_zero,List.nil_append]
     have e:max (max D L) (L+max (if v.Keys=[]then 0 else 1) (vlevs ts x.Elem v.Items))=max D (L+vlev ts (j:Int) v - 1):=mxs hlev;rw[hv8 kx,e]
   · have kx:=g3.symm;rw[if_neg (by simp[kx]),if_neg (by simp[kx]),if_neg (by simp[kx]),if_neg (by simp[kx]),if_neg (by simp[kx]),if_neg (by simp[kx]),if_pos (by simp[kx]),hv9 kx];have hf:=g3q.1 c8
     match hI:v.Items,c7 with
     | [],_=>
       rw[if_pos (by simp),leaf c5 hI,vpays]
     | [y],_=>
       have hy:y∈v.Items:=by rw[hI];exact .head _
       have hi0:inR 0 ([y]:List SValue).length=true:=g6 (k:=0) (by simp);rw[if_neg (by simp),if_pos hi0];have hwm:=g4c hy;have hW:=hWI y hy x.Elem (hf y hy) (L+1) (max D L) (by omega) (by omega);have e1:addI .i64 (L:Int) 1=((L+1:Nat):Int):=g9 (by omega);rw[e1];simp only[Int.toNat_zero,List.getD_cons_zero];rw[hW];have hp:=hlenI y hy x.Elem
       simp only[oZ3];rw[if_pos (g30 (by simp;omega))];have hl:=hlE (by omega) (by omega) c5;rw[hI]at hl;have hlv:=gb3 (ts:=ts) x.Elem y;have ev:vlevs ts x.Elem [y]=vlev ts x.Elem y:=by
         have e0:vlevs ts x.Elem []=0:=by rw[vlevs]
         rw[vlevs,e0];omega
       have ep:vpays ts x.Elem [y]=[vpay ts x.Elem y]:=by rw[vpays,vpays]
       rw[ev]at hl;have e:max (max D L) (L+1+vlev ts x.Elem y - 1)=max D (L+vlev ts (j:Int) v - 1):=mxq hl;rw[ep,e];rfl
     | a::b::c,h=>simp at h
end
end
section
open Go Go.Proofs.YthnmepafpikaiaaGreat.Shv Go.Sort
set_option maxRecDepth 100000
section
variable {ts:List SType}
def Rp(ts:List SType)(x:SValue)(t:Int) :Prop:=g1i ((⟨ts⟩:SSchema),t,x)=some (vpay ts t x)
def Rl(ts:List SType)(x:SValue)(t:Int) :Prop:=g48 ((⟨ts⟩:SSchema),t,x)=some ((vlev ts t x:Nat):Int)
theorem gs2 {x : SType} {v : SValue} (hlen : ∀ y, y ∈ v.Items → (vpay ts x.Elem y).length ≤ 1000000000000000) (hw : ∀ y, y ∈ v.Items → Rp ts y x.Elem) (hl : v.Items.length ≤ reachBytes) :
   ∀(k i:Nat) (acc:List UInt8),i+k=v.Items.length→acc.length+((vpays ts x.Elem (v.Items.drop i)).flatMap g5k).length≤70368744177664→
   g3a (acc,(i:Int),ts,v,x)=some (acc++(vpays ts x.Elem (v.Items.drop i)).flatMap g5k)
 | 0,i,acc,hi,ha=>by
   rw[g3a,if_neg (by simp;omega),List.drop_eq_nil_of_le (by omega:v.Items.length≤i),vpays];simp
 | k+1,i,acc,hi,ha=>by
   have hlt:i < v.Items.length:=by omega
   have hr:=gz hl;have hmem:v.Items.getD i dSValue∈v.Items:=gh hlt dSValue;rw[g1m hlt dSValue,vpays,List.flatMap_cons,List.length_append]at ha;have hp:=hlen _ hmem;have hW:=hw _ hmem;unfold Rp at hW;rw[g3a,if_pos (by simp;omega),if_pos (g6 hlt)];simp only[oZ4,oZ3,g7,SValue.g13];rw[hW];simp only[oZ3];rw[gbc (by omega)]
   simp only[oZ3];rw[if_pos (g30 (by omega)),g9 (by omega),gs2 hlen hw hl k (i+1) _ (by omega) (by rw[List.length_append];omega),g1m hlt dSValue,vpays,List.flatMap_cons,List.append_assoc]
theorem gu4 {x : SType} {v : SValue} (hkl : v.Items.length = v.Keys.length) (hlen : ∀ y, y ∈ v.Items → (vpay ts x.Elem y).length ≤ 1000000000000000) (hlenk : ∀ y, y ∈ v.Keys → (vpay ts x.Key y).length ≤ 1000000000000000)
   (hw:∀y,y∈v.Items→Rp ts y x.Elem) (hwk:∀y,y∈v.Keys→Rp ts y x.Key) (hl:v.Items.length≤reachBytes):
   ∀(k i:Nat) (acc:List UInt8),i+k=v.Items.length→acc.length+(ilv (vpays ts x.Key (v.Keys.drop i)) (vpays ts x.Elem (v.Items.drop i))).length≤70368744177664→
   g3b (acc,(i:Int),ts,v,x)=some (acc++ilv (vpays ts x.Key (v.Keys.drop i)) (vpays ts x.Elem (v.Items.drop i)))
 | 0,i,acc,hi,ha=>by
   rw[g3b,if_neg (by simp;omega),List.drop_eq_nil_of_le (by omega:v.Items.length≤i),List.drop_eq_nil_of_le (by omega:v.Keys.length≤i),vpays,vpays,ilv]
   · simp
   · intros;simp_all
 | k+1,i,acc,hi,ha=>by
   have hlt:i < v.Items.length:=by omega
   have hlt2:i < v.Keys.length:=by omega
   have hr:=gz hl;have hmem:v.Items.getD i dSValue∈v.Items:=gh hlt dSValue;have hmem2:v.Keys.getD i dSValue∈v.Keys:=gh hlt2 dSValue;rw[g1m hlt dSValue,g1m hlt2 dSValue,vpays,vpays,ilv,List.length_append,List.length_append]at ha;have hp:=hlen _ hmem;have hp2:=hlenk _ hmem2;have hW:=hw _ hmem;have hW2:=hwk _ hmem2;unfold Rp at hW hW2
   rw[g3b,if_pos (by simp;omega),if_pos (g6 hlt2)];simp only[oZ4,oZ3,g7,SValue.g13];rw[hW2];simp only[oZ3];rw[gbc (by omega)];simp only[oZ3];rw[if_pos (g30 (by omega)),if_pos (g6 hlt),hW];simp only[oZ3];rw[gbc (by omega)];simp only[oZ3]
   rw[if_pos (g30 (by rw[List.length_append];omega)),g9 (by omega),gu4 hkl hlen hlenk hw hwk hl k (i+1) _ (by omega) (by rw[List.length_append,List.length_append];omega),g1m hlt dSValue,g1m hlt2 dSValue,vpays,vpays,ilv,List.append_assoc,List.append_assoc]
def g7w(R:List SRaw)(n:Nat) :List Fd:=(R.filter fun x=>decide (x.ID=(n:Int))).map rawF
theorem gw5{a:SRaw}{l:List SRaw}{n:Nat}(h:a.ID=(n:Int)) :g7w (a::l) n=rawF a::g7w l n:=by
 unfold g7w;rw[List.filter_cons,if_pos (by rw[h];simp),List.map_cons]
theorem gyp{a:SRaw}{l:List SRaw}{n:Nat}(h:¬a.ID=(n:Int)) :g7w (a::l) n=g7w l n:=by
 unfold g7w;rw[List.filter_cons,if_neg (by simpa using h)]
theorem refOm {γ : Type} {m : SMember} {w : SValue} (hw : OkV w) (A B : Option γ) :
   ((if(!(!m.HasDefault))=true then g14 (w,m.Default)else some false).bind fun r_19=>if(bif (!m.HasDefault)then true else(!r_19))=true then A else B)=if om m w=true then B else A:=by
 cases hd:m.HasDefault with
 | false=>
   have:om m w=false:=by unfold om;rw[hd];rfl
   rw[this];rfl
 | true=>
   have:=gu3 hw hd;simp only[Bool.not_true,Bool.not_false,if_true,this];cases om m w <;> rfl
theorem ghj {x : SType} {v : SValue} (hr : ∀ y, y ∈ v.Rest → y.Data.length ≤ reachBytes) (hR : v.Rest.length ≤ reachBytes) (n : Nat) (hn : n ≤ 1000) :
   ∀(k i:Nat) (out:List UInt8),i+k=v.Rest.length→out.length+((g7w (v.Rest.drop i) n).flatMap Fd.text).length≤70368744177664→
   g1g (out,(n:Int),(i:Int),ts,v,x)=some (out++(g7w (v.Rest.drop i) n).flatMap Fd.text,(n:Int),ts,v,x)
 | 0,i,out,hi,ha=>by
   rw[g1g,if_neg (by simp;omega),List.drop_eq_nil_of_le (by omega:v.Rest.length≤i),SValue.g13];simp[g7w]
 | k+1,i,out,hi,ha=>by
   have hlt:i < v.Rest.length:=by omega
   have hrr:=gz hR;have hd:=hr _ (gh hlt dSRaw);unfold reachBytes at hd;rw[g1m hlt dSRaw]at ha;rw[g1g,if_pos (by simp;omega),if_pos (g6 hlt)];simp only[oZ4,oZ3,g7,SValue.g13];rw[g1m hlt dSRaw];by_cases e:(v.Rest.getD i dSRaw).ID=(n:Int)
   · rw[gw5 e,List.flatMap_cons]at ha ⊢;have ht:(rawF (v.Rest.getD i dSRaw)).text=gaj n false (v.Rest.getD i dSRaw).Data:=by
       unfold rawF Fd.text;rw[e];rfl
     rw[ht,List.length_append]at ha;rw[if_pos (by rw[e];simp),if_pos (g6 hlt),gkq (by omega) (by omega)];simp only[oZ3];rw[if_pos (g30 (by omega)),g9 (by omega),ghj hr hR n hn k (i+1) _ (by omega) (by rw[List.length_append];omega),ht,List.append_assoc]
   · rw[gyp e]at ha ⊢;rw[if_neg (by simpa using e),g9 (by omega),ghj hr hR n hn k (i+1) _ (by omega) ha]
noncomputable def grp (ts:List SType) (x:SType) (v:SValue) (n:Nat):List Fd:=(g5l ts x.Members v.Items v.Rest).filter fun f=>decide (f.id=n)
theorem go6 {x : SType} {v : SValue} (hm : x.Members.length < 9223372036854775807) (hma : MAsc x.Members) (hrk : g9i x.Members v.Rest) (hil : v.Items.length = x.Members.length)
   (hr:∀y,y∈v.Rest→y.Data.length≤reachBytes) (hR:v.Rest.length≤reachBytes) (hok:∀y,y∈v.Items→OkV y) (hlenI:∀x,x∈v.Items→∀t,(vpay ts t x).length≤23089744183296)
   (hw:∀i,i < x.Members.length→Rp ts (v.Items.getD i dSValue) (x.Members.getD i dSMember).Type_):
   ∀(k n:Nat) (out:List UInt8),n+k=1001→1≤n→out.length+(((List.range' n k).flatMap (grp ts x v)).flatMap Fd.text).length≤70368744177664→
   g2a (out,(n:Int),ts,v,x)=some (out++((List.range' n k).flatMap (grp ts x v)).flatMap Fd.text)
 | 0,n,out,hi,h1,ha=>by
   rw[g2a,if_neg (by simp;omega)];simp
 | k+1,n,out,hi,h1,ha=>by
   have hid0:∀y,y∈v.Rest→0≤y.ID:=fun y hy=>by have:=(hrk.2 y hy).1;unfold I1000 at this;omega
   have hg:grp ts x v n=((vents ts x.Members v.Items).filter fun f=>decide (f.id=n))++g7w v.Rest n:=by
     unfold grp g5l g7w;rw[List.filter_append,gt4 _ _ hid0]
   rw[List.range'_succ,List.flatMap_cons,List.flatMap_append,hg,List.flatMap_append]at ha ⊢;simp only[List.length_append]at ha;rw[g2a,if_pos (by simp;omega)];obtain⟨r,_,r2,hf⟩:=g3n (t:=x) (n:Int) hm;simp only[oZ4,oZ3,g7,SValue.g13];rw[r2];simp only[oZ3]
   have inner:∀out':List UInt8,out'.length+((g7w v.Rest n).flatMap Fd.text).length≤70368744177664→g1g (out',(n:Int),0,ts,v,x)=some (out'++(g7w v.Rest n).flatMap Fd.text,(n:Int),ts,v,x):=fun out' h=>by
     have:=ghj (ts:=ts) (x:=x) hr hR n (by omega) v.Rest.length 0 out' (by omega) (by simpa using h)
     simpa using this
   rcases g57 hf with⟨e,j,q1,q2,q3,q4⟩ | ⟨e,q3⟩
   · have hlt2:j < v.Items.length:=by omega
     have hmem:v.Items.getD j dSValue∈v.Items:=gh hlt2 dSValue;have hfd:=gkt (ts:=ts) (gu2 hma) hil q1 (n:=n) (by rw[q4];simp);rw[if_pos e,q2,if_pos (g6 q1)];rw[if_pos (by rw[g6 hlt2];rfl)];simp only[g7];rw[refOm (hok _ hmem)];have hrec:=go6 hm hma hrk hil hr hR hok hlenI hw k (n+1);cases ho:om (x.Members.getD j dSMember) (v.Items.getD j dSValue)with
     | true=>
       rw[ho,if_pos rfl]at hfd;rw[hfd]at ha ⊢;rw[if_pos rfl,inner out (by omega)];simp only[oZ3,SValue.g13];rw[g9 (by omega),hrec _ (by omega) (by omega) (by rw[List.length_append];omega)];simp
     | false=>
       rw[ho,if_neg (by simp)]at hfd;rw[hfd]at ha ⊢;have hp:=hlenI _ hmem (x.Members.getD j dSMember).Type_;have hW:=hw j q1;unfold Rp at hW
       have ht:([⟨n,(x.Members.getD j dSMember).Critical,vpay ts (x.Members.getD j dSMember).Type_ (v.Items.getD j dSValue)⟩]:List Fd).flatMap Fd.text=gaj n (x.Members.getD j dSMember).Critical (vpay ts (x.Members.getD j dSMember).Type_ (v.Items.getD j dSValue)):=by
         simp only[List.flatMap_cons,List.flatMap_nil,List.append_nil];rfl
       rw[ht]at ha ⊢;rw[if_neg (by simp),if_pos (g6 hlt2),hW];simp only[oZ3];rw[gkq (by omega) (by omega)];simp only[oZ3];rw[if_pos (g30 (by omega)),inner _ (by rw[List.length_append];omega)];simp only[oZ3,SValue.g13];rw[g9 (by omega),hrec _ (by omega) (by omega) (by rw[List.length_append,List.length_append];omega)]
       simp only[List.append_assoc]
   · have hnone:((vents ts x.Members v.Items).filter fun f=>decide (f.id=n))=[]:=gne fun m hm'=>by
       have:=gnf q3 m hm';have:=hma.2 m hm';unfold I1000 at this;omega
     rw[hnone]at ha ⊢;rw[if_neg (by simp[e]),inner out (by omega)];simp only[oZ3,SValue.g13];rw[g9 (by omega),go6 hm hma hrk hil hr hR hok hlenI hw k (n+1) _ (by omega) (by omega) (by rw[List.length_append];omega)];simp
end
end
section
open Go Go.Proofs.YthnmepafpikaiaaGreat.Shv Go.Sort
set_option maxRecDepth 100000
section
variable {ts:List SType}
theorem g13d {γ : Type} {m : SMember} {w : SValue} (hw : OkV w) (A B : Option γ) :
   ((if m.HasDefault=true then g14 (w,m.Default)else some false).bind fun r=>if(bif m.HasDefault then r else false)=true then A else B)=if om m w=true then A else B:=by
 cases hd:m.HasDefault with
 | false=>
   have:om m w=false:=by unfold om;rw[hd];rfl
   rw[this];rfl
 | true=>
   have:=gu3 hw hd;simp only[if_true,this];cases om m w <;> rfl
theorem gs3 {x : SType} {v : SValue} (h5 : ¬ x.Kind = 5) (h6 : ¬ x.Kind = 6) (hw : ∀ y, y ∈ v.Items → Rl ts y x.Elem) (hl : v.Items.length ≤ reachBytes) :
   ∀(k i b:Nat),i+k=v.Items.length→gq ((b:Int),(i:Int),ts,v,x)=some (((max b (vlevs ts x.Elem (v.Items.drop i)):Nat):Int),v)
 | 0,i,b,hi=>by
   rw[gq,if_neg (by simp;omega),List.drop_eq_nil_of_le (by omega:v.Items.length≤i),vlevs,SValue.g13,Nat.max_zero]
 | k+1,i,b,hi=>by
   have hlt:i < v.Items.length:=by omega
   have hr:=gz hl;have hW:=hw _ (gh hlt dSValue);unfold Rl at hW;rw[gq,if_pos (by simp;omega),if_neg (by simp[h5]),if_neg (by simp[h6]),if_pos (g6 hlt)];simp only[g7,SValue.g13];rw[hW];simp only[oZ4,oZ3];rw[ggh,g9 (by omega),gs3 h5 h6 hw hl k (i+1) _ (by omega),g1m hlt dSValue,vlevs,Nat.max_assoc]
theorem gu5 {x : SType} {v : SValue} (h5 : x.Kind = 5) (hil : v.Items.length = x.Members.length) (hok : ∀ y, y ∈ v.Items → OkV y) (hw : ∀ i, i < x.Members.length → Rl ts (v.Items.getD i dSValue) (x.Members.getD i dSMember).Type_) (hl : v.Items.length ≤ reachBytes) :
   ∀(k i b:Nat),i+k=v.Items.length→gq ((b:Int),(i:Int),ts,v,x)=some (((max b (vlevm ts (x.Members.drop i) (v.Items.drop i)):Nat):Int),v)
 | 0,i,b,hi=>by
   rw[gq,if_neg (by simp;omega),List.drop_eq_nil_of_le (by omega:v.Items.length≤i),SValue.g13,List.drop_eq_nil_of_le (by omega:x.Members.length≤i)];rw[vlevm]
   · rw[Nat.max_zero]
   · intros;simp_all
 | k+1,i,b,hi=>by
   have hlt:i < v.Items.length:=by omega
   have hlt2:i < x.Members.length:=by omega
   have hr:=gz hl;have hmem:=gh hlt dSValue;have hW:=hw i hlt2;unfold Rl at hW;rw[gq,if_pos (by simp;omega),if_pos (by simp[h5]),if_pos (g6 hlt2)];simp only[oZ4,oZ3,g7,SValue.g13];rw[if_pos (by rw[g6 hlt];rfl),g13d (hok _ hmem)];have hrec:=gu5 h5 hil hok hw hl k (i+1);rw[g1m hlt dSValue,g1m hlt2 dSMember,vlevm]
   cases ho:om (x.Members.getD i dSMember) (v.Items.getD i dSValue)with
   | true=>
     rw[if_pos rfl,g9 (by omega),hrec _ (by omega),if_pos rfl]
   | false=>
     rw[if_neg (by simp),if_neg (by simp[h5]),if_pos (g6 hlt),hW];simp only[oZ3];rw[ggh,g9 (by omega),hrec _ (by omega),if_neg (by simp),Nat.max_assoc]
theorem gu6 {x : SType} {v : SValue} (h6 : x.Kind = 6) {j : Nat} (hj : j < x.Members.length) (hM : g17 (x, v.ID) = some ((j : Int), true)) (hw : ∀ y, y ∈ v.Items → Rl ts y (x.Members.getD j dSMember).Type_) (hl : v.Items.length ≤ reachBytes) :
   ∀(k i b:Nat),i+k=v.Items.length→gq ((b:Int),(i:Int),ts,v,x)=some (((max b (vlevs ts (x.Members.getD j dSMember).Type_ (v.Items.drop i)):Nat):Int),v)
 | 0,i,b,hi=>by
   rw[gq,if_neg (by simp;omega),List.drop_eq_nil_of_le (by omega:v.Items.length≤i),vlevs,SValue.g13,Nat.max_zero]
 | k+1,i,b,hi=>by
   have hlt:i < v.Items.length:=by omega
   have hr:=gz hl;have hW:=hw _ (gh hlt dSValue);unfold Rl at hW;rw[gq,if_pos (by simp;omega),if_neg (by simp[h6]),if_pos (by simp[h6]),hM];simp only[oZ4,oZ3,g7,SValue.g13];rw[if_pos (g6 hj),if_pos (g6 hlt),hW];simp only[oZ3];rw[ggh,g9 (by omega),gu6 h6 hj hM hw hl k (i+1) _ (by omega),g1m hlt dSValue,vlevs,Nat.max_assoc]
theorem gjt {x : SType} {v : SValue} {b w : Nat} (hL : gq (0, 0, ts, v, x) = some (((max 0 b : Nat) : Int), v)) (hb : b < 1152921504606846976) (hw : w = 1 + max (if v.Keys = [] then 0 else 1) b) :
   (gq (0,0,ts,v,x) >>=fun o=>if decide (0 < (o.2.Keys.length:Int))=true then some (addI .i64 1 (maxI o.1 1))else some (addI .i64 1 o.1))=some (w:Int):=by
 rw[hL];simp only[oZ4,oZ3];by_cases hk:v.Keys=[]
 · rw[if_neg (by simp[hk])];rw[if_pos hk]at hw;have:addI .i64 1 ((max 0 b:Nat):Int)=((1+max 0 b:Nat):Int):=gfy (a:=1) (by omega);rw[this,hw]
 · rw[if_pos (by
     have:0 < v.Keys.length:=List.length_pos_iff.2 hk
     simpa using this)]
   rw[if_neg hk]at hw;have e:maxI ((max 0 b:Nat):Int) 1=((max 1 b:Nat):Int):=by
     have:=ggh (max 0 b) 1;have e2:max (max 0 b) 1=max 1 b:=by omega
     rw[e2]at this;exact this
   rw[e];have:addI .i64 1 ((max 1 b:Nat):Int)=((1+max 1 b:Nat):Int):=gfy (a:=1) (by omega);rw[this,hw]
theorem g10z(H:SOk ts){v:SValue}(hv:OkV v) :wt v≤1099511627776→∀t,vfit ts false t v→Rl ts v t:=by
 induction hv with
 | mk v hs h1 h2 h3 hk hi hrd n1 n2 n3 n4 ihk ihi=>
   intro hw t hf;have hwt:=wt_eq v;have hWI:∀x,x∈v.Items→∀t,vfit ts false t x→Rl ts x t:=fun x hx t=>ihi x hx (by have:=g4c hx;omega) t
   obtain⟨⟨g1,g2,g3,_⟩,hf⟩:=(gb2 _ _ _).1 hf;obtain⟨j,rfl⟩:∃j:Nat,t=(j:Int):=⟨t.toNat,by omega⟩
   have hj:j < ts.length:=by omega
   unfold Rl;rw[g48,if_pos (g6 hj)];simp only[g7,SValue.g13]at hf g3 ⊢;have hxm:=gh hj dSType;have hlev:=go5 (ts:=ts) (j:Int) v;simp only[g7]at hlev;have hA:=H.A _ hxm;have hm:=gz (g3c (H.T _ hxm).mems);generalize ts.getD j dSType=x at*;have b1:∀E,vlevs ts E v.Items < 1152921504606846976:=fun E=>by have:=vlevs_le ts v.Items E;omega
   have b2:∀E,vlevm ts E v.Items < 1152921504606846976:=fun E=>by have:=vlevm_le ts v.Items E;omega
   have easy:¬x.Kind=5→¬x.Kind=6→(∀y,y∈v.Items→vfit ts false x.Elem y)→(gq (0,0,ts,v,x) >>=fun o=>if decide (0 < (o.2.Keys.length:Int))=true then some (addI .i64 1 (maxI o.1 1))else some (addI .i64 1 o.1))=some ((vlev ts (j:Int) v:Nat):Int):=by
     intro a b c;have hL:=gs3 (ts:=ts) (x:=x) (v:=v) a b (fun y hy=>hWI y hy _ (c y hy)) h2 v.Items.length 0 0 (by omega);rw[if_neg a,if_neg b]at hlev;exact gjt hL (b1 _) hlev
   rcases hf with⟨k,c1,c2,c3,c4,c5,c6⟩ | ⟨k,c1,c2,c3,c4,c5,c6,c7,c8⟩ | ⟨k,c1,c2,c3,c4,c5,c6,c7⟩ | ⟨k,c1,c2,c3,c4,c5,c6,c7⟩ | ⟨k,c1,c2,c3,c4,c5,c6,c7⟩ | ⟨k,c1,c2,c3,c4,c5⟩ | ⟨k,c1,c2,c3,c4,c5,c6,c7,c8⟩ | ⟨k,c1,c2,c3,c4,c5,c6,c7,c8,c9,c10⟩ | ⟨k,c1,c2,c3,c4,c5,c6,c7,c8⟩ <;> rw[k]at g3
   · exact easy (by omega) (by omega) (by rw[c5];intro y hy;cases hy)
   · exact easy (by omega) (by omega) (by rw[c5];intro y hy;cases hy)
   · exact easy (by omega) (by omega) (by rw[c5];intro y hy;cases hy)
   · exact easy (by omega) (by omega) (by rw[c5];intro y hy;cases hy)
   · obtain⟨hil,hip⟩:=g9y.1 c7;have hL:=gu5 (ts:=ts) (x:=x) (v:=v) g3.symm hil hi (fun i hi'=>hWI _ (gh (by omega) dSValue) _ (hip i hi')) h2 v.Items.length 0 0 (by omega);rw[if_pos g3.symm]at hlev;exact gjt hL (b2 _) hlev
   · rw[if_neg (show ¬x.Kind=5 by omega),if_pos g3.symm]at hlev;obtain⟨r,_,r2,hf⟩:=g3n (t:=x) v.ID hm;rcases g57 hf with⟨e,q,q1,q2,q3,q4⟩ | ⟨e,q3⟩
     · rw[q3]at c5 hlev;simp only at c5 hlev;obtain⟨d1,d2,d3⟩:=c5;have hr:r=((q:Int),true):=by rw[←q2,←e]
       have hL:=gu6 (ts:=ts) (x:=x) (v:=v) g3.symm q1 (by rw[r2,hr]) (fun y hy=>hWI y hy _ (g3q.1 d3 y hy)) h2 v.Items.length 0 0 (by omega);exact gjt hL (b1 _) hlev
     · rw[q3]at c5 hlev;simp only at c5 hlev;have hi0:v.Items=[]:=c5.2.2.2.1;have hL:gq (0,0,ts,v,x)=some (((max 0 0:Nat):Int),v):=by
         rw[gq,if_neg (by simp[hi0]),SValue.g13];rfl
       exact gjt hL (by omega) hlev
   · exact easy (by omega) (by omega) (g3q.1 c8)
   · exact easy (by omega) (by omega) (g3q.1 c9)
   · exact easy (by omega) (by omega) (g3q.1 c8)
set_option maxHeartbeats 400000 in
theorem gu7(H:SOk ts){v:SValue}(hv:OkV v) :wt v≤1099511627776→∀t,vfit ts false t v→Rp ts v t:=by
 induction hv with
 | mk v hs h1 h2 h3 hk hi hrd n1 n2 n3 n4 ihk ihi=>
   intro hw t hf;have hOk:OkV v:= .mk v hs h1 h2 h3 hk hi hrd n1 n2 n3 n4;have hwt:=wt_eq v;have hlenI:∀x,x∈v.Items→∀t,(vpay ts t x).length≤23089744183296:=fun x hx t=>gcv H (hi x hx) (by have:=g4c hx;omega) t
   have hlenK:∀x,x∈v.Keys→∀t,(vpay ts t x).length≤23089744183296:=fun x hx t=>gcv H (hk x hx) (by have:=g4c hx;omega) t
   have hWI:∀x,x∈v.Items→∀t,vfit ts false t x→Rp ts x t:=fun x hx t=>ihi x hx (by have:=g4c hx;omega) t
   have hWK:∀x,x∈v.Keys→∀t,vfit ts false t x→Rp ts x t:=fun x hx t=>ihk x hx (by have:=g4c hx;omega) t
   have hlenv:=gcv H hOk hw t;obtain⟨⟨g1,g2,g3,_⟩,hf⟩:=(gb2 _ _ _).1 hf;obtain⟨j,rfl⟩:∃j:Nat,t=(j:Int):=⟨t.toNat,by omega⟩
   have hj:j < ts.length:=by omega
   unfold Rp;rw[g1i,if_pos (g6 hj)];simp only[oZ4,oZ3,g7,SValue.g13]at hf g3 ⊢;have hxm:=gh hj dSType;have hv1:=@vpay1 ts (j:Int) v;have hv2:=@vpay2 ts (j:Int) v;have hv3:=@vpay3 ts (j:Int) v;have hv4:=@vpay4 ts (j:Int) v;have hv5:=@vpay5 ts (j:Int) v;have hv6:=@vpay6 ts (j:Int) v;have hv7:=@vpay7 ts (j:Int) v
   have hv8:=@vpay8 ts (j:Int) v;have hv9:=@vpay9 ts (j:Int) v;simp only[g7]at hv1 hv2 hv3 hv4 hv5 hv6 hv7 hv8 hv9;have hA:=H.A _ hxm;have hS:=H.S _ hxm;have hm:=gz (g3c (H.T _ hxm).mems);generalize ts.getD j dSType=x at*
   rcases hf with⟨k,c1,c2,c3,c4,c5,c6⟩ | ⟨k,c1,c2,c3,c4,c5,c6,c7,c8⟩ | ⟨k,c1,c2,c3,c4,c5,c6,c7⟩ | ⟨k,c1,c2,c3,c4,c5,c6,c7⟩ | ⟨k,c1,c2,c3,c4,c5,c6,c7⟩ | ⟨k,c1,c2,c3,c4,c5⟩ | ⟨k,c1,c2,c3,c4,c5,c6,c7,c8⟩ | ⟨k,c1,c2,c3,c4,c5,c6,c7,c8,c9,c10⟩ | ⟨k,c1,c2,c3,c4,c5,c6,c7,c8⟩ <;> rw[k]at g3 <;> have kx:=g3.symm
   · rw[if_pos (by simp[kx]),hv1 kx];cases v.Bool_ <;> rfl
   · rw[if_neg (by simp[kx]),if_pos (by simp[kx]),hv2 kx,gro n2];simp only[oZ3];have hz:=grx n2;obtain⟨n,hn⟩:∃n:Nat,zig v.Int_=(n:Int):=⟨(zig v.Int_).toNat,by unfold zig;split <;> omega⟩
     rw[hn,Int.toNat_natCast]at hz;rw[hn,gp5 hz];rfl
   · rw[if_neg (by simp[kx]),if_neg (by simp[kx]),if_pos (by simp[kx]),hv3 kx]
   · rw[if_neg (by simp[kx]),if_neg (by simp[kx]),if_neg (by simp[kx]),if_pos (by simp[kx]),hv4 kx];obtain⟨n,hn⟩:∃n:Nat,v.ID=(n:Int):=⟨v.ID.toNat,by
       rcases c7 with⟨y,hy,he⟩ | ⟨_,_,he⟩
       · have:=hS kx y hy;unfold I1000 at this;omega
       · unfold I1000 at he;omega⟩
     rw[hn,wrpn (by omega),gp5 (by omega),Int.toNat_natCast];rfl
   · rw[if_neg (by simp[kx]),if_neg (by simp[kx]),if_neg (by simp[kx]),if_neg (by simp[kx]),if_neg (by simp[kx]),if_neg (by simp[kx]),if_neg (by simp[kx]),if_neg (by simp[kx]),hv5 kx];obtain⟨hma,hm16⟩:=hA (.inl kx);obtain⟨hil,hip⟩:=g9y.1 c7;rw[hv5 kx]at hlenv;have hsg:=gpu (ght (ts:=ts) (l:=v.Items) hma c6) (fun y hy=>grz hma c6 hy)
     have e0:(fun n=>(g5l ts x.Members v.Items v.Rest).filter fun f=>decide (f.id=n))=grp ts x v:=rfl;rw[e0]at hsg;rw[hsg]at hlenv ⊢;have:=go6 (ts:=ts) hm hma c6 hil (fun y hy=>hrd y hy) h3 hi hlenI (fun i hi'=>hWI _ (gh (by omega) dSValue) _ (hip i hi')) 1000 1 [] (by omega) (by omega) (by simp only[List.length_nil];omega);have h0:g2a ([],1,ts,v,x)=_:=this
     rw[h0];rfl
   · rw[if_neg (by simp[kx]),if_neg (by simp[kx]),if_neg (by simp[kx]),if_neg (by simp[kx]),if_neg (by simp[kx]),if_pos (by simp[kx]),hv6 kx];obtain⟨hma,hm16⟩:=hA (.inr kx);obtain⟨r,_,r2,hf⟩:=g3n (t:=x) v.ID hm;rcases g57 hf with⟨e,q,q1,q2,q3,q4⟩ | ⟨e,q3⟩
     · rw[q3]at c5;rw[q3];simp only at c5 ⊢;obtain⟨d1,d2,d3⟩:=c5;have hI:=hma.2 _ (gh q1 dSMember);rw[q4]at hI;obtain⟨n,hn⟩:∃n:Nat,v.ID=(n:Int):=⟨v.ID.toNat,by unfold I1000 at hI;omega⟩
       rw[if_neg (by simp[d1]),r2,hn,wrpn (by unfold I1000 at hI;omega),gbo (by unfold I1000 at hI;omega)];simp only[oZ3];rw[q2,if_pos (g6 q1)]
       match hI:v.Items,d2 with
       | [y],_=>
         have hy:y∈v.Items:=by rw[hI];exact .head _
         have hi0:inR 0 ([y]:List SValue).length=true:=g6 (k:=0) (by simp);have hf:=g3q.1 d3 y hy;have hW:=hWI y hy _ hf;unfold Rp at hW;rw[if_pos hi0];simp only[g7,Int.toNat_zero,List.getD_cons_zero];rw[hW];have hp:=hlenI y hy (x.Members.getD q dSMember).Type_;have hp10:=g3z (n:=n) (by rw[hn]at n3;omega);simp only[oZ3]
         rw[if_pos (g30 (by omega))];have ep:vpays ts (x.Members.getD q dSMember).Type_ [y]=[vpay ts (x.Members.getD q dSMember).Type_ y]:=by rw[vpays,vpays]
         rw[ep];rfl
     · rw[q3]at c5;rw[q3];simp only at c5 ⊢;obtain⟨d1,d2,d3,d4,d,d5⟩:=c5;obtain⟨n,hn⟩:∃n:Nat,v.ID=(n:Int):=⟨v.ID.toNat,by unfold I1000 at d3;omega⟩
       have hdl:=hrd ⟨v.ID,d⟩ (by rw[d5];exact .head _);simp only at hdl;unfold reachBytes at hdl;have hp10:=g3z (n:=n) (by rw[hn]at n3;omega);rw[d5,hn,if_pos (by simp),wrpn (by unfold I1000 at d3;omega),gbo (by unfold I1000 at d3;omega)];simp only[oZ3];have hi0:inR 0 ([⟨(n:Int),d⟩]:List SRaw).length=true:=g6 (k:=0) (by simp);rw[if_pos hi0]
       simp only[Int.toNat_zero,List.getD_cons_zero];rw[if_pos (g30 (by omega))];rfl
   · rw[if_neg (by simp[kx]),if_neg (by simp[kx]),if_neg (by simp[kx]),if_neg (by simp[kx]),if_neg (by simp[kx]),if_neg (by simp[kx]),if_pos (by simp[kx])];have hf:=g3q.1 c8;rw[hv7 kx]at hlenv ⊢
     have:=gs2 (ts:=ts) (x:=x) (v:=v) (fun y hy=>by have:=hlenI y hy x.Elem;omega) (fun y hy=>hWI y hy x.Elem (hf y hy)) h2 v.Items.length 0 [] (by omega) (by simp only[List.drop_zero,List.length_nil];omega);have h0:g3a ([],0,ts,v,x)=_:=this;rw[h0];rfl
   · rw[if_neg (by simp[kx]),if_neg (by simp[kx]),if_neg (by simp[kx]),if_neg (by simp[kx]),if_neg (by simp[kx]),if_neg (by simp[kx]),if_neg (by simp[kx]),if_pos (by simp[kx])];have hf:=g3q.1 c9;have hfk:=g3q.1 c8;rw[hv8 kx]at hlenv ⊢
     have:=gu4 (ts:=ts) (x:=x) (v:=v) c7 (fun y hy=>by have:=hlenI y hy x.Elem;omega) (fun y hy=>by have:=hlenK y hy x.Key;omega) (fun y hy=>hWI y hy x.Elem (hf y hy)) (fun y hy=>hWK y hy x.Key (hfk y hy)) h2 v.Items.length 0 [] (by omega) (by simp only[List.drop_zero,List.length_nil];omega);have h0:g3b ([],0,ts,v,x)=_:=this;rw[h0];rfl
   · rw[if_neg (by simp[kx]),if_neg (by simp[kx]),if_neg (by simp[kx]),if_neg (by simp[kx]),if_pos (by simp[kx]),hv9 kx];have hf:=g3q.1 c8
     match hI:v.Items,c7 with
     | [],_=>
       rw[if_pos (by simp),vpays]
     | [y],_=>
       have hy:y∈v.Items:=by rw[hI];exact .head _
       have hi0:inR 0 ([y]:List SValue).length=true:=g6 (k:=0) (by simp);rw[if_neg (by simp),if_pos hi0];have hW:=hWI y hy x.Elem (hf y hy);unfold Rp at hW;simp only[Int.toNat_zero,List.getD_cons_zero];rw[hW];have hp:=hlenI y hy x.Elem;simp only[oZ3];rw[if_pos (g30 (by simp;omega))];have ep:vpays ts x.Elem [y]=[vpay ts x.Elem y]:=by rw[vpays,vpays]
       rw[ep];rfl
     | a::b::c,h=>simp at h
end
end
section
open Go Go.Proofs.YthnmepafpikaiaaGreat.Shv Go.Sort
set_option maxRecDepth 100000
theorem SaysP.says{α:Type}{o:Option Bool}{a b:α}(h:Says o a b) :SaysP o (a=b):=h
theorem and3S {o1 o2 o3 : Option Bool} {P1 P2 P3 : Prop} (h1 : SaysP o1 P1) (h2 : SaysP o2 P2) (h3 : SaysP o3 P3) :
   SaysP (o1 >>=fun r_6=>(if r_6=true then o2 else some false) >>=fun r_7=>some (bif r_6 then r_7 else false) >>=fun t53=>(if t53=true then o3 else some false) >>=fun r_8=>some (bif t53 then r_8 else false)) (P1∧P2∧P3):=by
 obtain⟨a,rfl,h1⟩:=h1;obtain⟨b,rfl,h2⟩:=h2;obtain⟨c,rfl,h3⟩:=h3;rw[←h1,←h2,←h3];cases a <;> cases b <;> cases c <;> exact⟨_,rfl,by simp⟩
theorem ggi{o:Option Bool}{P:Prop}(h:SaysP o P) :SaysP (o >>=fun r=>some r) P:=by
 obtain⟨a,rfl,h⟩:=h;exact⟨a,rfl,h⟩
def gak(union:Bool)(Ms:List SMember) :Prop:=(∀m,m∈Ms→badM union m=false)∧(union=false∨0 < Ms.length)∧MAsc Ms∧(∀m,m∈Ms→nm m.Name=true)∧(Ms.map (·.Name)).Nodup∧Ms.length≤16
def gjl(S:List SSymbol) :Prop:=0 < S.length∧(S.Pairwise (fun a b=>a.ID < b.ID)∧∀y,y∈S→I1000 y.ID)∧(∀y,y∈S→nm y.Name=true)∧(S.map (·.Name)).Nodup∧S.length≤16
theorem gw6{l:List (List UInt8)} :l.Nodup↔∀i,i < l.length→(l.take i).contains (l.getD i [])=false:=by
 unfold List.Nodup;rw[List.pairwise_iff_getElem];constructor
 · intro h i hi;apply Bool.eq_false_iff.2;intro hc;obtain⟨k,hk,he⟩:=(g4s (by omega)).1 hc;rw[g16 (by omega),g16 hi]at he;exact h k i (by omega) hi hk he
 · intro h k i hk' hi hk he;have:=h i hi;rw[Bool.eq_false_iff]at this;apply this;refine(g4s (by omega)).2 ⟨k,hk,?_⟩;rw[g16 (by omega),g16 hi];exact he
theorem gu8{α:Type}(f:α→Int)(g:α→List UInt8)(d:α)(l:List α) :(∀i,i < l.length→idp (l.map f) (l.map g) i=true)↔(l.Pairwise (fun a b=>f a < f b)∧∀x,x∈l→I1000 (f x))∧(∀x,x∈l→nm (g x)=true)∧(l.map g).Nodup:=by
 rw[gjs f d,gw6];have key:∀i,i < l.length→(idp (l.map f) (l.map g) i=true↔I1000 (f (l.getD i d))∧(i=0∨f (l.getD (i - 1) d) < f (l.getD i d))∧nm (g (l.getD i d))=true∧((l.map g).take i).contains ((l.map g).getD i [])=false):=by
   intro i hi;unfold idp I1000;rw[g2c f l i d 0 hi];have e2:i=0∨(l.map f).getD (i - 1) 0=f (l.getD (i - 1) d):=by
     by_cases h0:i=0
     · exact .inl h0
     · exact .inr (g2c f l (i - 1) d 0 (by omega))
   have e3:(l.map g).getD i []=g (l.getD i d):=g2c g l i d [] hi;rw[e3];simp only[Bool.and_eq_true,Bool.or_eq_true,decide_eq_true_eq,Bool.not_eq_true'];rcases e2 with rfl | e2
   · simp[and_assoc]
   · rw[e2];simp only[and_assoc]
 constructor
 · intro h;refine⟨⟨fun i hi=>?_,fun x hx=>?_⟩,fun x hx=>?_,fun i hi=>?_⟩
   · have:=((key (i+1) hi).1 (h _ hi)).2.1;rcases this with h | h
     · omega
     · exact h
   · obtain⟨i,hi,rfl⟩:=List.getElem_of_mem hx;have:=((key i hi).1 (h _ hi)).1;rw[g16 hi]at this;exact this
   · obtain⟨i,hi,rfl⟩:=List.getElem_of_mem hx;have:=((key i hi).1 (h _ hi)).2.2.1;rw[g16 hi]at this;exact this
   · have hi':i < l.length:=by simpa using hi
     exact((key i hi').1 (h _ hi')).2.2.2
 · rintro ⟨⟨h1,h2⟩,h3,h4⟩ i hi
   refine(key i hi).2 ⟨h2 _ (gh hi d),?_,h3 _ (gh hi d),h4 i (by simpa using hi)⟩;by_cases h0:i=0
   · exact .inl h0
   · right;have:=h1 (i - 1) (by omega);have e:i - 1+1=i:=by omega
     rw[e]at this;exact this
theorem gpd{t:SType}(h:OkT t) :SaysP (g5n t) ((∀m,m∈t.Members→badM (decide (t.Kind=6)) m=false)∧(t.Kind=5∨0 < t.Members.length)∧MAsc t.Members∧(∀m,m∈t.Members→nm m.Name=true)∧(t.Members.map (·.Name)).Nodup∧t.Members.length≤16):=by
 obtain⟨r,h1,h2⟩:=gn7 h;refine⟨r,h1,h2.trans ?_⟩;rw[gu8 (fun m:SMember=>m.ID) (fun m:SMember=>m.Name) dSMember];have e:(∀i,i < t.Members.length→badM (decide (t.Kind=6)) (t.Members.getD i dSMember)=false)↔∀m,m∈t.Members→badM (decide (t.Kind=6)) m=false:=by
   constructor
   · intro h m hm;obtain⟨i,hi,rfl⟩:=List.getElem_of_mem hm;have:=h i hi;rw[g16 hi]at this;exact this
   · intro h i hi;exact h _ (gh hi dSMember)
 rw[e];unfold MAsc;simp only[and_assoc]
theorem gyq{l:List SSymbol}(hl:l.length*24≤reachBytes) :SaysP (g6l l) (gjl l):=by
 obtain⟨r,h1,h2⟩:=gtz hl;refine⟨r,h1,h2.trans ?_⟩;rw[gu8 (fun m:SSymbol=>m.ID) (fun m:SSymbol=>m.Name) dSSymbol];unfold gjl;simp only[and_assoc]
def FormP(t:SType) :Prop:=
 (t.Kind=1∧t.Name=[]∧t.Low=0∧t.High=0∧t.Max=0∧t.Symbols=[]∧t.Members=[]∧t.Key=0∧t.Elem=0∧t.Open=false)∨
 (t.Kind=2∧t.Name=[]∧t.Low≤t.High∧t.Max=0∧t.Symbols=[]∧t.Members=[]∧t.Key=0∧t.Elem=0∧t.Open=false)∨
 (t.Kind=3∧t.Name=[]∧t.Low=0∧t.High=0∧(0≤t.Max∧t.Max≤200)∧t.Symbols=[]∧t.Members=[]∧t.Key=0∧t.Elem=0∧t.Open=false)∨
 (t.Kind=4∧nm t.Name=true∧t.Low=0∧t.High=0∧t.Max=0∧gjl t.Symbols∧t.Members=[]∧t.Key=0∧t.Elem=0)∨
 (t.Kind=5∧nm t.Name=true∧t.Low=0∧t.High=0∧t.Max=0∧t.Symbols=[]∧gak false t.Members∧t.Key=0∧t.Elem=0∧t.Open=false)∨
 (t.Kind=6∧nm t.Name=true∧t.Low=0∧t.High=0∧t.Max=0∧t.Symbols=[]∧gak true t.Members∧t.Key=0∧t.Elem=0)∨
 (t.Kind=7∧t.Name=[]∧t.Low=0∧t.High=0∧(0≤t.Max∧t.Max≤50)∧t.Symbols=[]∧t.Members=[]∧t.Key=0∧t.Open=false)∨
 (t.Kind=8∧t.Name=[]∧t.Low=0∧t.High=0∧(0≤t.Max∧t.Max≤50)∧t.Symbols=[]∧t.Members=[]∧t.Open=false)∨
 (t.Kind=9∧t.Name=[]∧t.Low=0∧t.High=0∧t.Max=0∧t.Symbols=[]∧t.Members=[]∧t.Key=0∧t.Open=false)
theorem gyr{t:SType}(h:OkT t) :SaysP (g1c t) (FormP t):=by
 have hz:OkT (⟨0,[],0,0,0,[],[],0,0,false⟩:SType):=⟨by simp,by simp,by simp⟩
 obtain⟨Kd,N,L,H,M,S,Ms,K,E,O⟩:=t;have hS:=h.syms;have hMs:=h.mems;have hd:=h.dv;simp only at hS hMs hd;by_cases k1:Kd=1
 · subst k1;have a:=g4l (a:=(⟨0,N,L,H,M,S,Ms,K,E,O⟩:SType)) ⟨hS,hMs,hd⟩ (⟨0,[],0,0,0,[],[],0,0,false⟩:SType);refine(ggi (SaysP.says a)).imp ?_;unfold FormP;simp
 by_cases k2:Kd=2
 · subst k2;have a:=g4l (a:=(⟨0,N,0,0,M,S,Ms,K,E,O⟩:SType)) ⟨hS,hMs,hd⟩ (⟨0,[],0,0,0,[],[],0,0,false⟩:SType);refine(and2S (q:=decide (L≤H)) (Q:=L≤H) (by simp) (SaysP.says a)).imp (Q:=FormP ⟨2,N,L,H,M,S,Ms,K,E,O⟩) ?_;unfold FormP;simp
   try grind
 by_cases k3:Kd=3
 · subst k3;have a:=g4l (a:=(⟨0,N,L,H,0,S,Ms,K,E,O⟩:SType)) ⟨hS,hMs,hd⟩ (⟨0,[],0,0,0,[],[],0,0,false⟩:SType);refine(and2S (q:=bif decide (0≤M)then decide (M≤200)else false) (Q:=0≤M∧M≤200) (by by_cases g:0≤M <;> simp[g]) (SaysP.says a)).imp (Q:=FormP ⟨3,N,L,H,M,S,Ms,K,E,O⟩) ?_;unfold FormP;simp
   try grind
 by_cases k4:Kd=4
 · subst k4;have a:=g4l (a:=(⟨0,[],L,H,M,[],Ms,K,E,false⟩:SType)) ⟨by simp,hMs,hd⟩ (⟨0,[],0,0,0,[],[],0,0,false⟩:SType);refine(and3S (⟨nm N,lexNm N,Iff.rfl⟩:SaysP (g38 N) (nm N=true)) (gyq hS) (SaysP.says a)).imp (Q:=FormP ⟨4,N,L,H,M,S,Ms,K,E,O⟩) ?_;unfold FormP;simp
   try grind
 by_cases k5:Kd=5
 · subst k5;have a:=g4l (a:=(⟨0,[],L,H,M,S,[],K,E,bif O then decide ((5:Int)=5)else false⟩:SType)) ⟨hS,by simp,by simp⟩ (⟨0,[],0,0,0,[],[],0,0,false⟩:SType);refine(and3S (⟨nm N,lexNm N,Iff.rfl⟩:SaysP (g38 N) (nm N=true)) (gpd h) (SaysP.says a)).imp (Q:=FormP ⟨5,N,L,H,M,S,Ms,K,E,O⟩) ?_;unfold FormP gak;cases O <;> simp
   grind
 by_cases k6:Kd=6
 · subst k6;have a:=g4l (a:=(⟨0,[],L,H,M,S,[],K,E,bif O then decide ((6:Int)=5)else false⟩:SType)) ⟨hS,by simp,by simp⟩ (⟨0,[],0,0,0,[],[],0,0,false⟩:SType);refine(and3S (⟨nm N,lexNm N,Iff.rfl⟩:SaysP (g38 N) (nm N=true)) (gpd h) (SaysP.says a)).imp (Q:=FormP ⟨6,N,L,H,M,S,Ms,K,E,O⟩) ?_;unfold FormP gak;cases O <;> simp <;> grind
 by_cases k7:Kd=7
 · subst k7;have a:=g4l (a:=(⟨0,N,L,H,0,S,Ms,K,0,O⟩:SType)) ⟨hS,hMs,hd⟩ (⟨0,[],0,0,0,[],[],0,0,false⟩:SType);refine(and2S (q:=bif decide (0≤M)then decide (M≤50)else false) (Q:=0≤M∧M≤50) (by by_cases g:0≤M <;> simp[g]) (SaysP.says a)).imp (Q:=FormP ⟨7,N,L,H,M,S,Ms,K,E,O⟩) ?_;unfold FormP;simp
   try grind
 by_cases k8:Kd=8
 · subst k8;have a:=g4l (a:=(⟨0,N,L,H,0,S,Ms,0,0,O⟩:SType)) ⟨hS,hMs,hd⟩ (⟨0,[],0,0,0,[],[],0,0,false⟩:SType);refine(and2S (q:=bif decide (0≤M)then decide (M≤50)else false) (Q:=0≤M∧M≤50) (by by_cases g:0≤M <;> simp[g]) (SaysP.says a)).imp (Q:=FormP ⟨8,N,L,H,M,S,Ms,K,E,O⟩) ?_;unfold FormP;simp
   try grind
 by_cases k9:Kd=9
 · subst k9;have a:=g4l (a:=(⟨0,N,L,H,M,S,Ms,K,0,O⟩:SType)) ⟨hS,hMs,hd⟩ (⟨0,[],0,0,0,[],[],0,0,false⟩:SType);refine(ggi (SaysP.says a)).imp (Q:=FormP ⟨9,N,L,H,M,S,Ms,K,E,O⟩) ?_;unfold FormP;simp
 refine⟨false,by simp[g1c,k1,k2,k3,k4,k5,k6,k7,k8,k9],?_⟩;unfold FormP;simp[k1,k2,k3,k4,k5,k6,k7,k8,k9]
structure VOk (ts:List SType):Prop where
 n:ts.length≤32
 F:∀t,t∈ts→FormP t
 D:∀i,i < ts.length→(!(decide ((ts.getD i dSType).Name=[])) && ((ts.map (·.Name)).take i).contains (ts.getD i dSType).Name)=false
 U:∀t,t∈ts→∀u,u∈usesL t→0≤u∧u < ts.length
 Ky:∀t,t∈ts→t.Kind=8→1≤(ts.getD t.Key.toNat dSType).Kind∧(ts.getD t.Key.toNat dSType).Kind≤4
theorem gw7 {ts : List SType} (hT : ∀ t, t ∈ ts → OkT t) {i : Nat} (hi : i < ts.length) : stepV ts i = none ↔ FormP (ts.getD i dSType) ∧ (!(decide ((ts.getD i dSType).Name = [])) && ((ts.map (·.Name)).take i).contains (ts.getD i dSType).Name) = false ∧ (∀ u, u ∈ usesL (ts.getD i dSType) → 0 ≤ u ∧ u < ts.length) ∧
   ((ts.getD i dSType).Kind=8→1≤(ts.getD (ts.getD i dSType).Key.toNat dSType).Kind∧(ts.getD (ts.getD i dSType).Key.toNat dSType).Kind≤4):=by
 obtain⟨r,f1,f2⟩:=gyr (hT _ (gh hi dSType));rw[glj rfl f1,←f2];have hu:(usesL (ts.getD i dSType)).any (outB ts.length)=false↔∀u,u∈usesL (ts.getD i dSType)→0≤u∧u < ts.length:=by
   rw[List.any_eq_false];constructor
   · intro h u hu;have:=h u hu;unfold outB at this;by_cases g:u < 0
     · simp[g]at this
     · simp[g]at this;omega
   · intro h u hu;have:=h u hu;unfold outB;have g:¬u < 0:=by omega
     simp[g];omega
 rw[←hu];generalize (usesL (ts.getD i dSType)).any (outB ts.length)=b;generalize (!(decide ((ts.getD i dSType).Name=[])) && ((ts.map (·.Name)).take i).contains (ts.getD i dSType).Name)=c
 have hk:(decide ((ts.getD i dSType).Kind=8) && !(keyB (ts.getD (ts.getD i dSType).Key.toNat dSType).Kind))=false↔((ts.getD i dSType).Kind=8→1≤(ts.getD (ts.getD i dSType).Key.toNat dSType).Kind∧(ts.getD (ts.getD i dSType).Key.toNat dSType).Kind≤4):=by
   unfold keyB;generalize (ts.getD (ts.getD i dSType).Key.toNat dSType).Kind=k;by_cases g:(ts.getD i dSType).Kind=8 <;> by_cases g1:1≤k <;> by_cases g2:k≤4 <;> simp[g,g1,g2]
 rw[←hk];generalize (decide ((ts.getD i dSType).Kind=8) && !(keyB (ts.getD (ts.getD i dSType).Key.toNat dSType).Kind))=d;cases r <;> cases b <;> cases c <;> cases d <;> simp
theorem gys{ts:List SType}(hT:∀t,t∈ts→OkT t)(h:VOk ts) :g8s (⟨ts⟩:SSchema)=some 0∧g68 (⟨ts⟩:SSchema)=some 0:=by
 obtain⟨e,h1,h2,_,h4⟩:=gw0 (s:=⟨ts⟩) (by have:=h.n;unfold reachBytes;show ts.length≤_;omega) hT;have e0:e=0:=h4 ⟨h.n,fun i hi=>(gw7 hT hi).2 ⟨h.F _ (gh hi dSType),h.D i hi,h.U _ (gh hi dSType),h.Ky _ (gh hi dSType)⟩⟩;subst e0;exact⟨h1,h2⟩
theorem VOk.sok{ts:List SType}(hT:∀t,t∈ts→OkT t)(h:VOk ts) :SOk ts:=by
 refine⟨by have:=h.n;omega,hT,fun t ht=>?_,fun t ht m hm=>?_,fun t ht hk=>?_,fun t ht hk y hy=>?_,h.Ky⟩
 · have:=h.F t ht;unfold FormP at this;unfold g8w;omega
 · have:=h.F t ht;unfold FormP at this;have hne:t.Members≠[]:=by intro e;rw[e]at hm;cases hm
   have:gak false t.Members∨gak true t.Members:=by grind
   rcases this with a | a
   · exact(a.2.2.1.2 m hm).2
   · exact(a.2.2.1.2 m hm).2
 · have:=h.F t ht;unfold FormP at this;have:gak false t.Members∨gak true t.Members:=by grind
   rcases this with a | a
   · exact⟨a.2.2.1,a.2.2.2.2.2⟩
   · exact⟨a.2.2.1,a.2.2.2.2.2⟩
 · have:=h.F t ht;unfold FormP at this;have:gjl t.Symbols:=by grind
   exact this.2.1.2 y hy
end
section
open Go Go.Proofs.YthnmepafpikaiaaGreat.Shv Go.Sort
set_option maxRecDepth 100000
def g13e(ts:List SType)(ms:List SMember) :Prop:=∀m,m∈ms→m.HasDefault=true→vfit ts true m.Type_ m.Default
end
section
open Go Go.Proofs.YthnmepafpikaiaaGreat.Shv Go.Sort
set_option maxRecDepth 100000
theorem g13f{t u:Ty}{r:List Ty}{h:Hs Un.D (t::u::r)}(hk:Ok Un (t::u::r) h) :∀d,d∈t.row Un h.1→WF Un d:=fun d hd=>hk ⟨t,h.1⟩ (List.mem_cons_self ..) d hd
theorem g110 {ts : List SType} (H : SOk ts) {v : SValue} (hv : OkV v) (hw : wt v ≤ 1099511627776) {t : Int} (hf : vfit ts false t v) :
   g1e (t,v,1,ts,0)=some (vpay ts t v,ts,((vlev ts t v:Nat):Int))∧g1i ((⟨ts⟩:SSchema),t,v)=some (vpay ts t v)∧g48 ((⟨ts⟩:SSchema),t,v)=some ((vlev ts t v:Nat):Int):=by
 refine⟨?_,gu7 H hv hw t hf,g10z H hv hw t hf⟩;have h:=g10y H hv hw t hf 1 0 (by omega) (by omega);have hp:=gb3 (ts:=ts) t v;have e:max 0 (1+vlev ts t v - 1)=vlev ts t v:=by
   generalize vlev ts t v=n;omega
 rw[e]at h;exact h
end
section
open Go Go.Proofs.YthnmepafpikaiaaGreat.Shv Go.Sort
set_option maxRecDepth 100000
abbrev Nd :=Sheaveref07Node
abbrev dNd :=dSheaveref07Node
abbrev dPt :=dSheaveref07Part
theorem nz{a:Int}(h:¬a=0) :(!(decide (a=0)))=true:=by simp[h]
theorem g6m{x m:Int}(h:0≤x)(hm:0≤m) :remI x m=x % m:=by
 unfold remI;rw[Int.tmod_eq_emod_of_nonneg h]
theorem g13g{x:Int}(h:0≤x)(h2:x≤255) :quoI .u8 x 4=x / 4:=by
 unfold quoI;rw[Int.tdiv_eq_ediv_of_nonneg h,IntKind.wrap_u8];omega
theorem gal{x:Int}(h:I64 x) :wrp .i64 x=x:=by
 unfold wrp I64 at*;rw[IntKind.wrap_i64];omega
theorem gyt{k:Int}(h:0≤k∧k≤25) :g8g (wrp .i32 (addI .i64 97 k))=[UInt8.ofNat (97+k.toNat)]:=by
 have key:∀k:Nat,k < 26→g8g (wrp .i32 (addI .i64 97 (k:Int)))=[UInt8.ofNat (97+k)]:=by decide+kernel
 have:=key k.toNat (by omega);have e:((k.toNat:Nat):Int)=k:=by omega
 rw[e]at this;exact this
theorem g13h{k:Int}(h:0≤k∧k≤25) :g8g (wrp .i32 (addI .i64 65 k))=[UInt8.ofNat (65+k.toNat)]:=by
 have key:∀k:Nat,k < 26→g8g (wrp .i32 (addI .i64 65 (k:Int)))=[UInt8.ofNat (65+k)]:=by decide+kernel
 have:=key k.toNat (by omega);have e:((k.toNat:Nat):Int)=k:=by omega
 rw[e]at this;exact this
theorem gng{s:List UInt8}(h0:s≠[])(hl:s.length≤24)(h:∀i:Nat,i < s.length→g7v (g2u s i)=true) :nm s=true:=by
 have key:∀k i:Nat,i+k=s.length→g2e (s,(s.length:Int),(i:Int))=some (.inr ()):=by
   intro k
   induction k with
   | zero=>intro i hi;rw[g2e,if_neg (by simp;omega)]
   | succ k ih=>
     intro i hi;rw[g2e,if_pos (by simp;omega),if_pos (g6 (by omega)),geo,h i (by omega)];simp only[oZ4,oZ3,Bool.not_true];rw[if_pos (by rw[g6 (by omega)];rfl),g9 (by omega)];exact ih (i+1) (by omega)
 have hpos:0 < s.length:=List.length_pos_iff.2 h0;have h00:=h 0 hpos;have hin:inR 0 s.length=true:=g6 (k:=0) hpos;have ht:(bif decide (s=[])then true else decide (24 < (s.length:Int)))=false:=by
   simp[h0];omega
 have hk:g2e (s,(s.length:Int),0)=some (.inr ()):=key s.length 0 (by omega);have h00':g7v (g2u s 0)=true:=h00;unfold nm;rw[g38];simp only[oZ4,oZ3];rw[ht,hin,geo,h00'];simp only[Bool.true_or,if_true,Bool.not_false,oZ3,cond_false,Bool.not_true,Bool.false_eq_true,if_false,hk,Option.getD_some]
theorem g13i{c:Nat}(h:65≤c∧c≤90∨97≤c∧c≤122) :nm [UInt8.ofNat c]=true:=by
 refine gng (by simp) (by simp) fun i hi=>?_
 have:i=0:=by simp at hi;omega
 subst this;have e:g2u [UInt8.ofNat c] ((0:Nat):Int)=(c:Int):=by
   rw[g5q];simp only[List.getD_cons_zero];rw[g5c (by omega)]
 rw[e];unfold g7v;simp;omega
theorem gyu{b c:Nat}(hb:97≤b∧b≤122)(h:97≤c∧c≤122) :nm [UInt8.ofNat b,UInt8.ofNat c]=true:=by
 refine gng (by simp) (by simp) fun i hi=>?_
 have:i=0∨i=1:=by simp at hi;omega
 rcases this with rfl | rfl
 · rw[g5q];simp only[List.getD_cons_zero];rw[g5c (by omega)];unfold g7v;simp;omega
 · rw[g5q];simp only[List.getD_cons_succ,List.getD_cons_zero];rw[g5c (by omega)];unfold g7v;simp;omega
def U8(x:Int) :Prop:=0≤x∧x≤255
structure NOk (x:Nd):Prop where
 k:U8 x.Kind
 a:U8 x.A
 b:U8 x.B
 c:U8 x.C
 p:∀q,q∈x.Parts→U8 q.ID∧U8 q.Type_∧U8 q.Flag
 l:x.Parts.length≤reachBytes
def kd(ns:List Nd)(i:Int) :Int:=1+(ns.getD i.toNat dNd).Kind % 9
section
variable {ns:List Nd} (hN:∀x,x∈ns→NOk x) (h5:ns.length≤5)
include hN h5 in
theorem kd_eq{i:Int}(h0:0≤i)(h1:i < ns.length) :g45 ((⟨ns⟩:Sheaveref07Draft),i)=some (kd ns i)∧1≤kd ns i∧kd ns i≤9:=by
 obtain⟨j,rfl⟩:∃j:Nat,i=(j:Int):=⟨i.toNat,by omega⟩
 have hx:=(hN _ (gh (by omega:j < ns.length) dNd)).k;unfold kd;rw[g7];obtain⟨a,b⟩:=hx;refine⟨?_,by omega,by omega⟩;rw[g45,if_pos (g6 (by omega:j < ns.length)),g7,g6m a (by omega),gal ⟨by omega,by omega⟩,gbj (by omega) (by omega)]
def Tgt(ns:List Nd)(i u:Int) :Prop:=0≤u∧u < ns.length∧(7≤kd ns u∨u < i)
include hN h5 in
theorem gpe :∀(k i:Nat),i+k=ns.length→g23 ((ns.length:Int),(i:Int),ns)=some (.inr ())∨∃u:Int,g23 ((ns.length:Int),(i:Int),ns)=some (.inl u)∧0≤u∧u < ns.length∧7≤kd ns u
 | 0,i,hi=>.inl (by rw[g23,if_neg (by simp;omega)])
 | k+1,i,hi=>by
   obtain⟨e,_,_⟩:=kd_eq hN h5 (i:=(i:Int)) (by omega) (by omega);rw[g23,if_pos (by simp;omega),e];simp only[oZ4,oZ3,g5w];by_cases h7:7≤kd ns i
   · rw[if_pos (by simpa using h7)];exact .inr ⟨i,rfl,by omega,by omega,h7⟩
   · rw[if_neg (by simpa using h7),g9 (by omega)];exact gpe k (i+1) (by omega)
include hN h5 in
theorem gyv(h1:1≤ns.length){i code:Int}(hi:0≤i∧i < ns.length)(hc:U8 code) :∃u,g5x ((⟨ns⟩:Sheaveref07Draft),i,code)=some u∧(u < 0∨Tgt ns i u):=by
 have hm:wrp .i64 code=code:=gal ⟨by unfold U8 at hc;omega,by unfold U8 at hc;omega⟩;obtain⟨c1,c2⟩:=hc;have hr0:0≤code % (ns.length:Int):=Int.emod_nonneg _ (by omega);have hr1:code % (ns.length:Int) < ns.length:=Int.emod_lt_of_pos _ (by omega);rw[g5x];simp only[oZ4,oZ3];rw[if_pos (nz (by omega)),hm,g6m c1 (by omega)]
 obtain⟨e,_,_⟩:=kd_eq hN h5 hr0 hr1;rw[e];simp only[oZ3,g5w];by_cases h7:7≤kd ns (code % (ns.length:Int))
 · rw[if_pos (by simp[h7])];exact⟨_,rfl,.inr ⟨hr0,hr1,.inl h7⟩⟩
 · by_cases hlt:code % (ns.length:Int) < i
   · rw[if_pos (by simp[hlt])];exact⟨_,rfl,.inr ⟨hr0,hr1,.inr hlt⟩⟩
   · rw[if_neg (by simp[h7,hlt])];by_cases hp:0 < i
     · rw[if_pos (by simpa using hp),if_pos (by simp;omega),g6m hr0 (by omega)];have a0:0≤code % (ns.length:Int) % i:=Int.emod_nonneg _ (by omega);have a1:code % (ns.length:Int) % i < i:=Int.emod_lt_of_pos _ (by omega);exact⟨_,rfl,.inr ⟨a0,by omega,.inr a1⟩⟩
     · rw[if_neg (by simpa using hp)];have h0:=gpe hN h5 ns.length 0 (by omega);have e0:g23 ((ns.length:Int),((0:Nat):Int),ns)=g23 ((ns.length:Int),0,ns):=rfl;rw[e0]at h0;rcases h0 with h | ⟨u,h,a,b,c⟩
       · rw[h];exact⟨-1,rfl,.inl (by omega)⟩
       · rw[h];exact⟨u,rfl,.inr ⟨a,b,.inl c⟩⟩
def KeyT(ns:List Nd)(u:Int) :Prop:=0≤u∧u < ns.length∧1≤kd ns u∧kd ns u≤4
include hN h5 in
theorem gyw{code:Int}(hc:U8 code)(h1:1≤ns.length) :∀(k i:Nat),i+k=ns.length→(g2p (code,(ns.length:Int),(i:Int),ns)=some (.inr ())∧∀m:Nat,i≤m→m < ns.length→¬KeyT ns ((code+m) % (ns.length:Int)))∨∃u:Int,g2p (code,(ns.length:Int),(i:Int),ns)=some (.inl u)∧KeyT ns u
 | 0,i,hi=>.inl ⟨by rw[g2p,if_neg (by simp;omega)],fun m a b=>by omega⟩
 | k+1,i,hi=>by
   obtain⟨c1,c2⟩:=hc;have hr0:0≤(code+i) % (ns.length:Int):=Int.emod_nonneg _ (by omega);have hr1:(code+i) % (ns.length:Int) < ns.length:=Int.emod_lt_of_pos _ (by omega);obtain⟨e,e1,e9⟩:=kd_eq hN h5 hr0 hr1;rw[g2p,if_pos (by simp;omega),if_pos (nz (by omega)),gal ⟨by omega,by omega⟩,gbj (by omega) (by omega),g6m (by omega) (by omega)]
   simp only[oZ4,oZ3];rw[e];simp only[oZ3,g5g];by_cases h4:kd ns ((code+i) % (ns.length:Int))≤4
   · rw[if_pos (by simp[e1,h4])];exact .inr ⟨_,rfl,hr0,hr1,e1,h4⟩
   · rw[if_neg (by simp[h4]),g9 (by omega)];rcases gyw ⟨c1,c2⟩ h1 k (i+1) (by omega)with⟨a,b⟩ | h
     · refine .inl ⟨a,fun m hm1 hm2=>?_⟩;by_cases hm:m=i
       · subst hm;rintro ⟨_,_,_,h⟩;exact h4 h
       · exact b m (by omega) hm2
     · exact .inr h
include hN h5 in
theorem gyx{code:Int}(hc:U8 code)(h1:1≤ns.length) :∃u,g5a ((⟨ns⟩:Sheaveref07Draft),code)=some u∧((u= -1∧∀w,¬KeyT ns w)∨KeyT ns u):=by
 rw[g5a];have h0:=gyw hN h5 hc h1 ns.length 0 (by omega);have e0:g2p (code,(ns.length:Int),((0:Nat):Int),ns)=g2p (code,(ns.length:Int),0,ns):=rfl;rw[e0]at h0;rcases h0 with⟨h,a⟩ | ⟨u,h,a⟩
 · rw[h];refine⟨-1,rfl,.inl ⟨rfl,fun w hw=>?_⟩⟩;have hw':=hw;obtain⟨w0,w1,_⟩:=hw';have hr0:0≤(w - code) % (ns.length:Int):=Int.emod_nonneg _ (by omega);have hr1:(w - code) % (ns.length:Int) < ns.length:=Int.emod_lt_of_pos _ (by omega);refine a ((w - code) % (ns.length:Int)).toNat (by omega) (by omega) ?_
   have e:(code+(((w - code) % (ns.length:Int)).toNat:Int)) % (ns.length:Int)=w:=by
     rw[Int.toNat_of_nonneg hr0,Int.add_emod_emod];have:code+(w - code)=w:=by omega
     rw[this];exact Int.emod_eq_of_lt w0 w1
   rw[e];exact hw
 · rw[h];exact⟨u,rfl,.inr a⟩
theorem gs4{x:Nd}(h:NOk x) :g3y x=some (x.A % 7 - 3):=by
 have:=h.a;unfold U8 at this;rw[g3y,g6m this.1 (by omega),gal ⟨by omega,by omega⟩,g5s (by omega) (by omega)]
theorem gu9{x:Nd}(h:NOk x) :g4u x=some (x.A % 7 - 3+x.B % 6):=by
 have ha:=h.a;have hb:=h.b;unfold U8 at ha hb;rw[g4u,gs4 h];simp only[oZ4,oZ3];rw[g6m hb.1 (by omega),gal ⟨by omega,by omega⟩,gbj (by omega) (by omega)]
def IdsOk(l:List Int)(n:Int) :Prop:=l.Pairwise (· < ·)∧∀x,x∈l→1≤x∧x≤n
theorem gs5{x:Nd} :∀(k i:Nat) (acc:List Int),i+k=6→IdsOk acc i→acc.length≤i→∃l,g39 ((i:Int),x,acc)=some l∧IdsOk l 6∧l.length≤6
 | 0,i,acc,hi,ha,hl=>⟨acc,by rw[g39,if_neg (by simp;omega)],⟨ha.1,fun y hy=>by have:=ha.2 y hy;omega⟩,by omega⟩
 | k+1,i,acc,hi,ha,hl=>by
   have hacc:IdsOk acc ((i+1:Nat):Int):=⟨ha.1,fun y hy=>by have:=ha.2 y hy;omega⟩
   rw[g39,if_pos (by simp;omega),if_pos (by simp)];simp only[oZ4,oZ3];rw[g9 (by omega)];split
   · rw[if_pos (g8r (by omega) (by simp;omega))];refine gs5 k (i+1) _ (by omega) ⟨?_,fun y hy=>?_⟩ (by simp;omega)
     · rw[List.pairwise_append];refine⟨ha.1,by simp,fun a h1 b h2=>?_⟩;have:=ha.2 a h1;simp at h2;omega
     · rcases List.mem_append.1 hy with h | h
       · have:=ha.2 y h;omega
       · simp at h;omega
   · exact gs5 k (i+1) acc (by omega) hacc (by omega)
theorem g13j(x:Nd) :∃l,g3m x=some l∧IdsOk l 6∧1≤l.length∧l.length≤6:=by
 obtain⟨l,h1,h2,h3⟩:=gs5 (x:=x) 6 0 [] (by omega) ⟨.nil,fun y hy=>by cases hy⟩ (by simp);have h1':g39 (0,x,[])=some l:=h1;rw[g3m,h1'];simp only[oZ4,oZ3];cases l with
 | nil=>
   rw[if_pos (by simp),if_pos (g8r (by omega) (by simp))];exact⟨_,rfl,⟨by simp,fun y hy=>by simp at hy;omega⟩,by simp,by simp⟩
 | cons a l=>
   rw[if_neg (by simp;omega)];exact⟨_,rfl,h2,by simp,h3⟩
def idsL(x:Nd) :List Int:=(g3m x).getD []
theorem ids_eq'(x:Nd) :g3m x=some (idsL x)∧IdsOk (idsL x) 6∧1≤(idsL x).length∧(idsL x).length≤6:=by
 obtain⟨l,h1,h2⟩:=g13j x;unfold idsL;rw[h1];exact⟨rfl,h2⟩
def InitP(k:Int)(x:Nd)(key:Prop)(v:SValue) :Prop:=
 v.Keys=[]∧v.Items=[]∧v.Rest=[]∧
 (k=1∧v.Kind=1∧v.Int_=0∧v.Str=[]∧v.ID=0∨
  k=2∧v.Kind=2∧v.Bool_=false∧v.Str=[]∧v.ID=0∧x.A % 7 - 3≤v.Int_∧v.Int_≤x.A % 7 - 3+x.B % 6∨
  k=3∧v.Kind=3∧v.Bool_=false∧v.Int_=0∧v.ID=0∧(v.Str.length:Int)≤x.A % 4∨
  k=4∧v.Kind=4∧v.Bool_=false∧v.Int_=0∧v.Str=[]∧v.ID∈idsL x∨
  7≤k∧v.Bool_=false∧v.Int_=0∧v.Str=[]∧v.ID=0∧(v.Kind=k∧(k=8→key)∨k=8∧v.Kind=7∧¬key))
def Init(ns:List Nd)(t:Int)(v:SValue) :Prop:=InitP (kd ns t) (ns.getD t.toNat dNd) (∃w,KeyT ns w) v
include hN h5 in
theorem gw8(h1:1≤ns.length){t code:Int}(ht:0≤t∧t < ns.length)(hc:U8 code) :∃r,g5h ((⟨ns⟩:Sheaveref07Draft),t,code)=some r∧(r.2=false→r.1=dSValue)∧(r.2=true→Init ns t r.1):=by
 obtain⟨j,rfl⟩:∃j:Nat,t=(j:Int):=⟨t.toNat,by omega⟩
 have hj:j < ns.length:=by omega
 have hx:=hN _ (gh hj dNd);obtain⟨e,k1,k9⟩:=kd_eq hN h5 ht.1 ht.2;obtain⟨u,hu,hu2⟩:=gyx hN h5 (code:=0) ⟨by omega,by omega⟩ h1;obtain⟨c1,c2⟩:=hc;rw[g5h,if_pos (g6 hj)];simp only[oZ4,oZ3,g7];rw[e];simp only[oZ3];unfold Init;simp only[g7];have hids:=ids_eq' (ns.getD j dNd);generalize kd ns (j:Int)=k at*
 generalize ns.getD j dNd=x at*;have ha:=hx.a;have hb:=hx.b;unfold U8 at ha hb;have hc9:k=1∨k=2∨k=3∨k=4∨k=5∨k=6∨k=7∨k=8∨k=9:=by omega
 rcases hc9 with rfl | rfl | rfl | rfl | rfl | rfl | rfl | rfl | rfl
 · exact⟨_,rfl,fun h=>(by cases h),fun _=>by unfold InitP;simp⟩
 · have el:=gs4 hx;have eh:=gu9 hx;have e1:addI .i64 (subI .i64 (x.A % 7 - 3+x.B % 6) (x.A % 7 - 3)) 1=x.B % 6+1:=by
     rw[g5s (by omega) (by omega),gbj (by omega) (by omega)];omega
   have e2:remI (wrp .i64 code) (x.B % 6+1)=code % (x.B % 6+1):=by
     rw[gal ⟨by omega,by omega⟩,g6m c1 (by omega)]
   have r0:0≤code % (x.B % 6+1):=Int.emod_nonneg _ (by omega);have r1:code % (x.B % 6+1) < x.B % 6+1:=Int.emod_lt_of_pos _ (by omega);have e3:addI .i64 (x.A % 7 - 3) (code % (x.B % 6+1))=x.A % 7 - 3+code % (x.B % 6+1):=gbj (by omega) (by omega)
   simp only[Int.reduceEq,decide_false,decide_true,Bool.false_eq_true,if_false,if_true,oZ3,cond_false,cond_true];rw[el];simp only[oZ4,oZ3];rw[eh];simp only[oZ3];rw[e1,if_pos (by simp;omega),e2,e3];exact⟨_,rfl,fun h=>(by cases h),fun _=>by unfold InitP;simp;omega⟩
 · simp only[Int.reduceEq,decide_false,decide_true,Bool.false_eq_true,if_false,if_true,oZ3,cond_false,cond_true];rw[g6m ha.1 (by omega),g6m c1 (by omega)];by_cases g:0 < x.A % 4
   · by_cases g2:code % 2=1
     · rw[if_pos (by simp[g,g2])];exact⟨_,rfl,fun h=>(by cases h),fun _=>by unfold InitP;simp;omega⟩
     · rw[if_neg (by simp[g2])];exact⟨_,rfl,fun h=>(by cases h),fun _=>by unfold InitP;simp;omega⟩
   · rw[if_neg (by simp[g])];exact⟨_,rfl,fun h=>(by cases h),fun _=>by unfold InitP;simp;omega⟩
 · obtain⟨i1,i2,i3,i4⟩:=hids;simp only[Int.reduceEq,decide_false,decide_true,Bool.false_eq_true,if_false,if_true,oZ3,cond_false,cond_true];rw[i1];simp only[oZ4,oZ3];have r0:0≤code % ((idsL x).length:Int):=Int.emod_nonneg _ (by omega)
   have r1:code % ((idsL x).length:Int) < ((idsL x).length:Int):=Int.emod_lt_of_pos _ (by omega);rw[if_pos (nz (by omega)),gal ⟨by omega,by omega⟩,g6m c1 (by omega)];obtain⟨q,hq⟩:∃q:Nat,code % ((idsL x).length:Int)=(q:Int):=⟨(code % ((idsL x).length:Int)).toNat,by omega⟩
   rw[hq,if_pos (g6 (by omega)),g7];exact⟨_,rfl,fun h=>(by cases h),fun _=>by unfold InitP;simp;rw[←List.getD_eq_getElem?_getD];exact gh (by omega) 0⟩
 · exact⟨_,rfl,fun _=>rfl,fun h=>by cases h⟩
 · exact⟨_,rfl,fun _=>rfl,fun h=>by cases h⟩
 · exact⟨_,rfl,fun h=>(by cases h),fun _=>by unfold InitP;simp⟩
 · simp only[Int.reduceEq,decide_false,decide_true,Bool.false_eq_true,if_false,if_true,oZ3,cond_false,cond_true];rw[hu];rcases hu2 with⟨rfl,a⟩ | a
   · exact⟨_,rfl,fun h=>(by cases h),fun _=>by unfold InitP;simp;exact fun w hw=>a w hw⟩
   · have hge:¬u < 0:=by have:=a.1;omega
     simp only[oZ4,oZ3];rw[if_neg (by simp[hge])];exact⟨_,rfl,fun h=>(by cases h),fun _=>by unfold InitP;simp;exact⟨u,a⟩⟩
 · exact⟨_,rfl,fun h=>(by cases h),fun _=>by unfold InitP;simp⟩
end
end
section
open Go Go.Proofs.YthnmepafpikaiaaGreat.Shv Go.Sort
set_option maxRecDepth 100000
section
variable {ns:List Nd} (hN:∀x,x∈ns→NOk x) (h5:ns.length≤5)
structure MemP (ns:List Nd) (i:Int) (record:Bool) (m:SMember):Prop where
 id:1≤m.ID∧m.ID≤12
 name:m.Name=[UInt8.ofNat 109,UInt8.ofNat (97+m.ID.toNat)]
 tgt:Tgt ns i m.Type_
 crit:m.Critical=true→m.HasDefault=false
 un:record=false→m.Critical=false∧m.HasDefault=false
 nod:m.HasDefault=false→m.Default=dSValue
 dfl:m.HasDefault=true→Init ns m.Type_ m.Default
include hN h5 in
theorem gs6 (h1 : 1 ≤ ns.length) {i : Int} (hi : 0 ≤ i ∧ i < ns.length) {x : Nd} (hx : NOk x) (record : Bool) {id : Int} (hid : 1 ≤ id ∧ id ≤ 12) {acc : List SMember} (ha : acc.length ≤ 12) :
   ∀(k j:Nat),j+k=x.Parts.length→∃l,g2q (i,record,id,(j:Int),ns,x,acc)=some (i,record,id,ns,x,acc++l)∧l.length≤1∧∀m,m∈l→m.ID=id∧MemP ns i record m
 | 0,j,hj=>⟨[],by rw[g2q,if_neg (by simp;omega)];simp,by simp,fun m hm=>by cases hm⟩
 | k+1,j,hj=>by
   have hlt:j < x.Parts.length:=by omega
   have hr:=gz hx.l;obtain⟨q1,q2,q3⟩:=hx.p _ (gh hlt dPt);obtain⟨u,hu,hu2⟩:=gyv hN h5 h1 hi q2;rw[g2q,if_pos (by simp;omega),if_pos (g6 hlt)];simp only[oZ4,oZ3,g7];have hu':g5x ((⟨ns⟩:Sheaveref07Draft),i,(x.Parts.getD j dSheaveref07Part).Type_)=some u:=hu;rw[hu'];simp only[oZ3]
   generalize hp:x.Parts.getD j dSheaveref07Part=p;have q1':U8 p.ID:=by rw[←hp];exact q1
   have q3':U8 p.Flag:=by rw[←hp];exact q3
   obtain⟨f1,f2⟩:=q3';have e1:remI p.Flag 4=p.Flag % 4:=g6m f1 (by omega);have e2:quoI .u8 p.Flag 4=p.Flag / 4:=g13g f1 f2;have rec':=gs6 h1 hi hx record hid ha k (j+1) (by omega);by_cases hskip:(bif (!(decide (addI .i64 1 (wrp .i64 (remI p.ID 12))=id)))then true else decide (u < 0))=true
   · rw[if_pos hskip,g9 (by omega)];exact rec'
   · rw[if_neg hskip];have hu0:Tgt ns i u:=by
       rcases hu2 with h | h
       · exfalso;apply hskip
         cases decide (addI .i64 1 (wrp .i64 (remI p.ID 12))=id) <;> simp[h]
       · exact h
     have hrune:=gyt (k:=id) ⟨by omega,by omega⟩;rw[hrune];have hname:([109]++[UInt8.ofNat (97+id.toNat)]:List UInt8)=[UInt8.ofNat 109,UInt8.ofNat (97+id.toNat)]:=rfl;rw[if_pos (g30 (by simp)),hname,e1,e2];obtain⟨r,r1,r2,r3⟩:=gw8 hN h5 h1 ⟨hu0.1,hu0.2.1⟩ (code:=p.Flag / 4) ⟨by omega,by omega⟩
     have hroom:∀m:SMember,room 160 (acc++[m]).length=true:=fun m=>g8r (by omega) (by simp;omega)
     have done:∀m:SMember,m.ID=id→MemP ns i record m→∃l,(some (i,record,id,ns,x,acc++[m]):Option (Int × Bool × Int × List Nd × Nd × List SMember))=some (i,record,id,ns,x,acc++l)∧l.length≤1∧∀m,m∈l→m.ID=id∧MemP ns i record m:=fun m a b=>⟨[m],rfl,by simp,fun y hy=>by
       have:y=m:=by simpa using hy
       subst this;exact⟨a,b⟩⟩
     cases record with
     | false=>
       simp only[cond_false,Bool.false_eq_true,if_false];rw[if_pos (hroom _)];exact done _ rfl ⟨hid,rfl,hu0,fun h=>(by cases h),fun _=>⟨rfl,rfl⟩,fun _=>rfl,fun h=>by cases h⟩
     | true=>
       simp only[cond_true];by_cases g1:p.Flag % 4=1
       · rw[if_pos (by simpa using g1),if_neg (by simp;omega),if_pos (hroom _)];exact done _ rfl ⟨hid,rfl,hu0,fun _=>rfl,fun h=>(by cases h),fun _=>rfl,fun h=>by cases h⟩
       · rw[if_neg (by simpa using g1)];by_cases g2:2≤p.Flag % 4
         · rw[if_pos (by simpa using g2),r1];simp only[oZ3,SValue.g13];rw[if_pos (hroom _)];exact done _ rfl ⟨hid,rfl,hu0,fun h=>(by cases h),fun h=>(by cases h),r2,r3⟩
         · rw[if_neg (by simpa using g2),if_pos (hroom _)];exact done _ rfl ⟨hid,rfl,hu0,fun h=>(by cases h),fun h=>(by cases h),fun _=>rfl,fun h=>by cases h⟩
def MemsP(ns:List Nd)(i:Int)(record:Bool)(l:List SMember) :Prop:=l.Pairwise (fun a b=>a.ID < b.ID)∧(∀m,m∈l→MemP ns i record m)∧l.length≤12
include hN h5 in
theorem gs7 (h1 : 1 ≤ ns.length) {i : Int} (hi : 0 ≤ i ∧ i < ns.length) {x : Nd} (hx : NOk x) (record : Bool) : ∀ (k id : Nat) (acc : List SMember), id + k = 13 → 1 ≤ id →
   acc.Pairwise (fun a b=>a.ID < b.ID)→(∀m,m∈acc→MemP ns i record m∧m.ID < id)→acc.length < id→∃l,g2m (i,record,(id:Int),ns,x,acc)=some l∧MemsP ns i record l
 | 0,id,acc,hk,h0,ha,hb,hl=>⟨acc,by rw[g2m,if_neg (by simp;omega)],ha,fun m hm=>(hb m hm).1,by omega⟩
 | k+1,id,acc,hk,h0,ha,hb,hl=>by
   rw[g2m,if_pos (by simp;omega)];obtain⟨l,l1,l2,l3⟩:=gs6 hN h5 h1 hi hx record (id:=(id:Int)) ⟨by omega,by omega⟩ (acc:=acc) (by omega) x.Parts.length 0 (by omega);have l1':g2q (i,record,(id:Int),0,ns,x,acc)=_:=l1;rw[l1'];simp only[oZ4,oZ3];rw[g9 (by omega)]
   refine gs7 h1 hi hx record k (id+1) _ (by omega) (by omega) ?_ (fun m hm=>?_) (by simp;omega)
   · rw[List.pairwise_append];refine⟨ha,?_,fun a h2 b h3=>?_⟩
     · match l,l2 with
       | [],_=>exact .nil
       | [a],_=>simp
       | a::b::c,h=>simp at h
     · have:=(hb a h2).2;have:=(l3 b h3).1;omega
   · rcases List.mem_append.1 hm with h | h
     · have:=hb m h;exact⟨this.1,by omega⟩
     · have:=l3 m h;exact⟨this.2,by omega⟩
include hN h5 in
theorem gs8(h1:1≤ns.length){i:Int}(hi:0≤i∧i < ns.length)(record:Bool) :∃l,g4f ((⟨ns⟩:Sheaveref07Draft),i,record)=some l∧MemsP ns i record l:=by
 obtain⟨j,rfl⟩:∃j:Nat,i=(j:Int):=⟨i.toNat,by omega⟩
 have hj:j < ns.length:=by omega
 have hx:=hN _ (gh hj dNd);obtain⟨l,l1,l2⟩:=gs7 hN h5 h1 hi hx record 12 1 [] (by omega) (by omega) .nil (fun m hm=>by cases hm) (by simp);refine⟨l,?_,l2⟩;have l1':g2m ((j:Int),record,1,ns,ns.getD j dNd,[])=some l:=l1;rw[g4f,if_pos (g6 hj),g7];have l1'':g2m ((j:Int),record,1,ns,ns.getD j dSheaveref07Node,[])=some l:=l1';rw[l1''];rfl
def symsL(l:List Int) :List SSymbol:=l.map fun j=>⟨j,[UInt8.ofNat 115,UInt8.ofNat (97+j.toNat)]⟩
theorem gua {l : List Int} (hl : l.length ≤ 6) (hr : ∀ x, x ∈ l → 1 ≤ x ∧ x ≤ 6) (n i : Int) (b : List Nd) (b1 : Int) (b2 : List UInt8) (b3 b4 b5 b6 b7 : Int) (b8 : Bool) (b9 : List SType) : ∀ (k j : Nat) (acc : List SSymbol), j + k = l.length → acc.length ≤ j →
   g2x (n,i,l,(j:Int),b,b1,b2,b3,b4,b5,b6,b7,b8,b9,acc)=some (n,i,b,b1,b2,b3,b4,b5,b6,b7,b8,b9,acc++symsL (l.drop j))
 | 0,j,acc,hj,ha=>by
   rw[g2x,if_neg (by simp;omega),List.drop_eq_nil_of_le (by omega:l.length≤j)];simp[symsL]
 | k+1,j,acc,hj,ha=>by
   have hlt:j < l.length:=by omega
   have hx:=hr _ (gh hlt 0);rw[g2x,if_pos (by simp;omega),if_pos (g6 hlt),if_pos (g6 hlt)];simp only[oZ4,oZ3,g7];rw[gyt ⟨by omega,by omega⟩,if_pos (g30 (by simp)),if_pos (g8r (by omega) (by simp;omega)),g9 (by omega),gua hl hr n i b b1 b2 b3 b4 b5 b6 b7 b8 b9 k (j+1) _ (by omega) (by simp;omega),g1m hlt 0];simp[symsL]
def TyP(ns:List Nd)(i:Int)(t:SType) :Prop:=
 let x:=ns.getD i.toNat dNd
 let n:=(ns.length:Int)
 let nameL:=[UInt8.ofNat (65+i.toNat)]
 (kd ns i=1∧t=⟨1,[],0,0,0,[],[],0,0,false⟩)∨
 (kd ns i=2∧t=⟨2,[],x.A % 7 - 3,x.A % 7 - 3+x.B % 6,0,[],[],0,0,false⟩)∨
 (kd ns i=3∧t=⟨3,[],0,0,x.A % 4,[],[],0,0,false⟩)∨
 (kd ns i=4∧∃o,t=⟨4,nameL,0,0,0,symsL (idsL x),[],0,0,o⟩)∨
 (kd ns i=5∧∃l,MemsP ns i true l∧t=⟨5,nameL,0,0,0,[],l,0,0,false⟩)∨
 (kd ns i=6∧t=⟨5,nameL,0,0,0,[],[],0,0,false⟩)∨
 (kd ns i=6∧∃l o,MemsP ns i false l∧0 < l.length∧t=⟨6,nameL,0,0,0,[],l,0,0,o⟩)∨
 (kd ns i=7∧t=⟨7,[],0,0,x.A % 4,[],[],0,x.C % n,false⟩)∨
 (kd ns i=8∧(∀w,¬KeyT ns w)∧t=⟨7,[],0,0,x.A % 4,[],[],0,x.C % n,false⟩)∨
 (kd ns i=8∧∃k,KeyT ns k∧t=⟨8,[],0,0,x.A % 4,[],[],k,x.C % n,false⟩)∨
 (kd ns i=9∧t=⟨9,[],0,0,0,[],[],0,x.C % n,false⟩)
include hN h5 in
theorem of_l0 (h1 : 1 ≤ ns.length) : ∀ (k i : Nat) (acc : List SType), i + k = ns.length → acc.length = i → (∀ j, j < i → TyP ns (j : Int) (acc.getD j dSType)) →
   ∃l,gk ((ns.length:Int),(i:Int),ns,acc)=some l∧l.length=ns.length∧∀j,j < ns.length→TyP ns (j:Int) (l.getD j dSType)
 | 0,i,acc,hi,hl,ha=>⟨acc,by rw[gk,if_neg (by simp;omega)],by omega,fun j hj=>ha j (by omega)⟩
 | k+1,i,acc,hi,hl,ha=>by
   have hlt:i < ns.length:=by omega
   have hx:=hN _ (gh hlt dNd);obtain⟨e,k1,k9⟩:=kd_eq hN h5 (i:=(i:Int)) (by omega) (by omega);have next:∀t:SType,TyP ns (i:Int) t→∃l,(if room 120 (acc++[t]).length=true then gk ((ns.length:Int),addI .i64 (i:Int) 1,ns,acc++[t])else none)=some l∧l.length=ns.length∧∀j,j < ns.length→TyP ns (j:Int) (l.getD j dSType):=by
     intro t ht;rw[if_pos (g8r (by omega) (by simp;omega)),g9 (by omega)];refine of_l0 h1 k (i+1) _ (by omega) (by simp;omega) fun j hj=>?_
     by_cases hji:j < i
     · have:(acc++[t]).getD j dSType=acc.getD j dSType:=by
         rw[List.getD_eq_getElem?_getD,List.getD_eq_getElem?_getD,List.getElem?_append_left (by omega)]
       rw[this];exact ha j hji
     · have:j=i:=by omega
       subst this;have:(acc++[t]).getD j dSType=t:=by
         rw[List.getD_eq_getElem?_getD,List.getElem?_append_right (by omega),hl];simp
       rw[this];exact ht
   rw[gk,if_pos (by simp;omega),if_pos (g6 hlt)];simp only[oZ4,oZ3,g7];rw[e];simp only[oZ3,g1l];have hrune:=g13h (k:=(i:Int)) ⟨by omega,by omega⟩;have hT:∀t,TyP ns (i:Int) t→TyP ns (i:Int) t:=fun t h=>h
   have⟨ga,gb,gc⟩:U8 (ns.getD i dNd).A∧U8 (ns.getD i dNd).B∧U8 (ns.getD i dNd).C:=⟨hx.a,hx.b,hx.c⟩
   have g0:(!(decide ((ns.length:Int)=0)))=true:=nz (by omega);have gA:wrp .i64 (remI (ns.getD i dNd).A 4)=(ns.getD i dNd).A % 4:=by
     unfold U8 at ga;rw[g6m ga.1 (by omega),gal ⟨by omega,by omega⟩]
   have gC:remI (wrp .i64 (ns.getD i dNd).C) (ns.length:Int)=(ns.getD i dNd).C % (ns.length:Int):=by
     unfold U8 at gc;rw[gal ⟨by omega,by omega⟩,g6m gc.1 (by omega)]
   have hc9:kd ns (i:Int)=1∨kd ns (i:Int)=2∨kd ns (i:Int)=3∨kd ns (i:Int)=4∨kd ns (i:Int)=5∨kd ns (i:Int)=6∨kd ns (i:Int)=7∨kd ns (i:Int)=8∨kd ns (i:Int)=9:=by omega
   rcases hc9 with hk | hk | hk | hk | hk | hk | hk | hk | hk <;> rw[hk] <;>
     simp only[Int.reduceEq,decide_false,decide_true,Bool.false_eq_true,if_false,if_true,oZ3,cond_false,cond_true]
   · exact next _ (by unfold TyP;simp[hk])
   · have el:=gs4 hx;have eh:=gu9 hx;have el':g3y (ns.getD i dSheaveref07Node)=_:=el;have eh':g4u (ns.getD i dSheaveref07Node)=_:=eh;rw[el'];simp only[oZ3];rw[eh'];simp only[oZ3];exact next _ (by unfold TyP;simp only[g7];exact .inr (.inl ⟨hk,by first | trivial | rfl⟩))
   · have gA':wrp .i64 (remI (ns.getD i dSheaveref07Node).A 4)=_:=gA;rw[gA'];exact next _ (by unfold TyP;simp only[g7];exact .inr (.inr (.inl ⟨hk,by first | trivial | rfl⟩)))
   · obtain⟨i1,i2,i3,i4⟩:=ids_eq' (ns.getD i dNd);have i1':g3m (ns.getD i dSheaveref07Node)=_:=i1;rw[i1'];simp only[oZ3];have hs:=gua (l:=idsL (ns.getD i dNd)) i4 i2.2 (ns.length:Int) (i:Int) ns 4 (g8g (wrp .i32 (addI .i64 65 (i:Int)))) 0 0 0 0 0 (decide (remI (ns.getD i dNd).B 2=1)) acc (idsL (ns.getD i dNd)).length 0 [] (by omega) (by simp)
     have hs':g2x ((ns.length:Int),(i:Int),idsL (ns.getD i dNd),0,ns,4,g8g (wrp .i32 (addI .i64 65 (i:Int))),0,0,0,0,0,decide (remI (ns.getD i dSheaveref07Node).B 2=1),acc,[])=_:=hs;rw[hs'];simp only[oZ3,List.drop_zero,List.nil_append];rw[hrune];exact next _ (by unfold TyP;simp only[g7];exact .inr (.inr (.inr (.inl ⟨hk,_,rfl⟩))))
   · obtain⟨l,l1,l2⟩:=gs8 hN h5 h1 (i:=(i:Int)) ⟨by omega,by omega⟩ true;rw[l1];simp only[oZ3];rw[hrune];exact next _ (by unfold TyP;simp only[g7];exact .inr (.inr (.inr (.inr (.inl ⟨hk,l,l2,rfl⟩)))))
   · obtain⟨l,l1,l2⟩:=gs8 hN h5 h1 (i:=(i:Int)) ⟨by omega,by omega⟩ false;rw[l1];simp only[oZ3];rw[hrune];by_cases h0:l.length=0
     · rw[if_pos (by simp[h0])];exact next _ (by unfold TyP;simp only[g7];exact .inr (.inr (.inr (.inr (.inr (.inl ⟨hk,by first | trivial | rfl⟩))))))
     · rw[if_neg (by simp;intro h;rw[h]at h0;simp at h0)];exact next _ (by unfold TyP;simp only[g7];exact .inr (.inr (.inr (.inr (.inr (.inr (.inl ⟨hk,l,_,l2,by omega,rfl⟩)))))))
   · have gA':wrp .i64 (remI (ns.getD i dSheaveref07Node).A 4)=_:=gA;have gC':remI (wrp .i64 (ns.getD i dSheaveref07Node).C) (ns.length:Int)=_:=gC;rw[if_pos g0,gA',gC'];exact next _ (by unfold TyP;simp only[g7];exact .inr (.inr (.inr (.inr (.inr (.inr (.inr (.inl ⟨hk,by first | trivial | rfl⟩))))))))
   · have gA':wrp .i64 (remI (ns.getD i dSheaveref07Node).A 4)=_:=gA;have gC':remI (wrp .i64 (ns.getD i dSheaveref07Node).C) (ns.length:Int)=_:=gC;obtain⟨u,u1,u2⟩:=gyx hN h5 gb h1;have u1':g5a ((⟨ns⟩:Sheaveref07Draft),(ns.getD i dSheaveref07Node).B)=some u:=u1;rw[u1'];simp only[oZ3];rw[if_pos g0,gA',gC'];rcases u2 with⟨rfl,a⟩ | a
     · rw[if_pos (by simp)];exact next _ (by unfold TyP;simp only[g7];exact .inr (.inr (.inr (.inr (.inr (.inr (.inr (.inr (.inl ⟨hk,a,by first | trivial | rfl⟩)))))))))
     · rw[if_neg (by have:=a.1;simp;omega)];exact next _ (by unfold TyP;simp only[g7];exact .inr (.inr (.inr (.inr (.inr (.inr (.inr (.inr (.inr (.inl ⟨hk,u,a,rfl⟩))))))))))
   · have gC':remI (wrp .i64 (ns.getD i dSheaveref07Node).C) (ns.length:Int)=_:=gC;rw[if_pos g0,gC'];exact next _ (by unfold TyP;simp only[g7];exact .inr (.inr (.inr (.inr (.inr (.inr (.inr (.inr (.inr (.inr ⟨hk,by first | trivial | rfl⟩))))))))))
end
def DOk(d:Sheaveref07Draft) :Prop:=d.Nodes.length≤reachBytes∧∀x,x∈d.Nodes→NOk x
theorem of_eq{d:Sheaveref07Draft}(hd:DOk d) :g5o d=some (⟨[]⟩,false)∨∃l,g5o d=some (⟨l⟩,true)∧1≤d.Nodes.length∧d.Nodes.length≤5∧l.length=d.Nodes.length∧∀j,j < d.Nodes.length→TyP d.Nodes (j:Int) (l.getD j dSType):=by
 rw[g5o];simp only[oZ4,oZ3];by_cases h:1≤d.Nodes.length∧d.Nodes.length≤5
 · obtain⟨l,l1,l2,l3⟩:=of_l0 hd.2 h.2 h.1 d.Nodes.length 0 [] (by omega) rfl (fun j hj=>by omega);have l1':gk ((d.Nodes.length:Int),0,d.Nodes,[])=some l:=l1;right;have hc:¬((bif decide ((d.Nodes.length:Int) < 1)then true else decide (5 < (d.Nodes.length:Int)))=true):=by
     have a:¬(d.Nodes.length:Int) < 1:=by omega
     have b:¬(5:Int) < (d.Nodes.length:Int):=by omega
     simp only[a,b,decide_false,cond_false,Bool.false_eq_true,not_false_eq_true]
   rw[if_neg hc,l1'];exact⟨l,rfl,h.1,h.2,l2,l3⟩
 · left;have hc:(bif decide ((d.Nodes.length:Int) < 1)then true else decide (5 < (d.Nodes.length:Int)))=true:=by
     by_cases a:(d.Nodes.length:Int) < 1
     · simp only[a,decide_true,cond_true]
     · have b:(5:Int) < (d.Nodes.length:Int):=by omega
       simp only[a,b,decide_true,decide_false,cond_false]
   rw[if_pos hc]
end
end Go.Proofs.YthnmepafpikaiaaGreat
