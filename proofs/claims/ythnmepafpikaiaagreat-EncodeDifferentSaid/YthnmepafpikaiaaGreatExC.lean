/- The functions of the program as functions of Lean, that its code does what they say, and what they answer; part C. -/
import Derived.Test.YthnmepafpikaiaaGreatExB

namespace Go.Proofs.YthnmepafpikaiaaGreat
set_option linter.all false
section
open Go Go.Proofs.YthnmepafpikaiaaGreat.Shv Go.Sort
set_option maxRecDepth 100000
def Suf(C' C:List Int) :Prop:=C'.length≤C.length∧∀c,c∈C'→c∈C
theorem Suf.refl(C:List Int) :Suf C C:=⟨Nat.le_refl _,fun _ h=>h⟩
theorem Suf.trans{A B C:List Int}(h:Suf A B)(k:Suf B C) :Suf A C:=⟨Nat.le_trans h.1 k.1,fun c hc=>k.2 c (h.2 c hc)⟩
def CU8(C:List Int) :Prop:=∀c,c∈C→U8 c
theorem CU8.suf{A B:List Int}(h:CU8 B)(k:Suf A B) :CU8 A:=fun c hc=>h c (k.2 c hc)
section
variable {ts:List SType}
theorem g64 {n : Int} (hn : 1 ≤ n ∧ n ≤ 1000) {C : List Int} (hC : CU8 C) (hl : C.length ≤ 1000) (odd : Bool) :
   ∃r C',gv (n,ts,C,odd)=some (r,ts,C',odd)∧0≤r∧r < n∧Suf C' C∧(r=0∧C'=[]∧C=[]∨C'.length+1=C.length):=by
 rw[gv];cases C with
 | nil=>
   rw[if_pos (by simp)];exact⟨0,[],rfl,by omega,by omega,Suf.refl _,.inl ⟨rfl,rfl,rfl⟩⟩
 | cons c C=>
   have hc:=hC c (.head _);unfold U8 at hc;have h0:inR 0 (c::C).length=true:=g6 (k:=0) (by simp);have h1:slR 1 ((c::C).length:Int) (c::C).length=true:=g8t (a:=1) (by simp) (by simp);have h2:cutL (c::C) 1 ((c::C).length:Int)=C:=by
     have:=gd1 (c::C) 1
     simpa using this
   rw[if_neg (by simp;omega),if_pos h0,if_pos (nz (by omega)),if_pos h1,h2];simp only[Int.toNat_zero,List.getD_cons_zero];rw[g8l ⟨by omega,by omega⟩,g56 hc.1 (by omega)];exact⟨_,C,rfl,Int.emod_nonneg _ (by omega),Int.emod_lt_of_pos _ (by omega),⟨by simp,fun x hx=>.tail _ hx⟩,.inr (by simp)⟩
theorem gqd {C : List Int} (hC : CU8 C) (hl : C.length ≤ 1000) (odd : Bool) :
   ∃o C',g40 (ts,C,odd)=some (o,ts,C',odd)∧(odd=false→o=false)∧Suf C' C:=by
 rw[g40];cases odd with
 | false=>exact⟨false,C,rfl,fun _=>rfl,Suf.refl _⟩
 | true=>
   obtain⟨r,C',h1,_,_,h4,_⟩:=g64 (ts:=ts) (n:=4) ⟨by omega,by omega⟩ hC hl true;rw[if_pos rfl,h1];exact⟨_,C',rfl,fun h=>(by cases h),h4⟩
theorem gyq{x:SType}(hm:x.Members.length < 9223372036854775807)(hs:x.Symbols.length < 9223372036854775807)(n:Int) :SaysP (g7q (x,n)) ((∃m,m∈x.Members∧m.ID=n)∨∃y,y∈x.Symbols∧y.ID=n):=by
 obtain⟨r,_,r2,hf⟩:=g4m (t:=x) n hm;obtain⟨s,_,s2,hg⟩:=gei (t:=x) n hs;rw[g7q,r2];simp only[oZ4,oZ3];rw[s2];refine⟨_,rfl,?_⟩;have h1:=gm0 hg;have h2:r.2=true↔∃m,m∈x.Members∧m.ID=n:=by
   rcases g70 hf with⟨e,j,q1,_,_,q4⟩ | ⟨e,q⟩
   · rw[e];simp only[true_iff];exact⟨_,gg q1 dSMember,q4⟩
   · rw[e];have:=gaf q;simp;exact this
 rw[←h1,←h2];cases r.2 <;> cases s.2 <;> simp
theorem gm4 {x : SType} (hm : x.Members.length < 9223372036854775807) (hs : x.Symbols.length < 9223372036854775807) (h12 : ∀ m, m ∈ x.Members → m.ID ≤ 12) (h6 : ∀ y, y ∈ x.Symbols → y.ID ≤ 6) (C : List Int) (odd : Bool) :
   ∀(k:Nat) (n:Int),1≤n→n≤14→13≤n+k→∃n',g2l (n,ts,C,odd,x)=some (n',ts,C,odd)∧1≤n'∧n'≤14∧(∀m,m∈x.Members→m.ID≠n')∧(∀y,y∈x.Symbols→y.ID≠n')
 | k,n,h1,h14,hk=>by
   obtain⟨r,r1,r2⟩:=gyq hm hs n;rw[g2l,r1];simp only[oZ4,oZ3];cases r with
   | false=>
     rw[if_neg (by simp)];refine⟨n,rfl,h1,h14,fun m hm' e=>?_,fun y hy e=>?_⟩
     · have:=r2.2 (.inl ⟨m,hm',e⟩);cases this
     · have:=r2.2 (.inr ⟨y,hy,e⟩);cases this
   | true=>
     have hle:n≤12:=by
       rcases r2.1 rfl with⟨m,hm',e⟩ | ⟨y,hy,e⟩
       · have:=h12 m hm';omega
       · have:=h6 y hy;omega
     rw[if_pos rfl,g69 (by omega) (by omega)]
     match k,hk with
     | 0,hk=>omega
     | k+1,hk=>exact gm4 hm hs h12 h6 C odd k (n+1) (by omega) (by omega) (by omega)
theorem ggk {x : SType} (hm : x.Members.length < 9223372036854775807) (hs : x.Symbols.length < 9223372036854775807) (h12 : ∀ m, m ∈ x.Members → m.ID ≤ 12) (h6 : ∀ y, y ∈ x.Symbols → y.ID ≤ 6) {C : List Int} (hC : CU8 C) (hl : C.length ≤ 1000) (odd : Bool) :
   ∃n C',g21 (x,ts,C,odd)=some (n,ts,C',odd)∧I1000 n∧findM x.Members n=none∧Suf C' C:=by
 obtain⟨r,C',h1,h2,h3,h4,_⟩:=g64 (ts:=ts) (n:=14) ⟨by omega,by omega⟩ hC hl odd;obtain⟨n,n1,n2,n3,n4,_⟩:=gm4 (ts:=ts) hm hs h12 h6 C' odd 12 (1+r) (by omega) (by omega) (by omega);refine⟨n,C',?_,⟨by omega,by omega⟩,?_,h4⟩
 · rw[g21,h1];simp only[oZ4,oZ3];rw[g69 (by omega) (by omega),n1];rfl
 · unfold findM;rw[List.find?_eq_none];intro m hm'
   simpa using n4 m hm'
theorem gqe{n:Int}{C:List Int}(hC:CU8 C)(hl:C.length≤1000)(odd:Bool) :∃d C',g41 (n,ts,C,odd)=some (⟨n,d⟩,ts,C',odd)∧d.length≤3∧Suf C' C:=by
 obtain⟨r,C',h1,h2,h3,h4,_⟩:=g64 (ts:=ts) (n:=4) ⟨by omega,by omega⟩ hC hl odd;obtain⟨k,rfl⟩:∃k:Nat,r=(k:Int):=⟨r.toNat,by omega⟩
 rw[g41];simp only[oZ4,oZ3];rw[h1];simp only[oZ3];rw[if_pos (g6 (by simp;omega)),g7];refine⟨_,C',rfl,?_,h4⟩;have:k=0∨k=1∨k=2∨k=3:=by omega
 rcases this with rfl | rfl | rfl | rfl <;> simp
theorem gse(odd:Bool) :∀(k:Nat) (s:List UInt8) (C:List Int),k≤100→CU8 C→C.length≤1000→s.length+k≤100→∃s' C',g2e (s,(k:Int),ts,C,odd)=some (s',ts,C',odd)∧s'.length≤s.length+k∧Suf C' C
 | 0,s,C,hk,hC,hl,hs=>⟨s,C,by rw[g2e,if_neg (by simp)],by omega,Suf.refl _⟩
 | k+1,s,C,hk,hC,hl,hs=>by
   obtain⟨r,C',h1,h2,h3,h4,_⟩:=g64 (ts:=ts) (n:=3) ⟨by omega,by omega⟩ hC hl odd;have hpos:decide ((0:Int) < ((k+1:Nat):Int))=true:=by rw[decide_eq_true_eq];omega
   have e:subI .i64 ((k+1:Nat):Int) 1=(k:Int):=by rw[g99 (by omega) (by omega)];omega
   rw[g2e,if_pos hpos,h1];simp only[oZ4,oZ3];rw[gq7 ⟨h2,by omega⟩,if_pos (g2k (by simp;omega)),e];obtain⟨s',C'',a1,a2,a3⟩:=gse odd k (s++[UInt8.ofNat (97+r.toNat)]) C' (by omega) (hC.suf h4) (by have:=h4.1;omega) (by simp;omega);exact⟨s',C'',a1,by simp at a2;omega,a3.trans h4⟩
theorem gyr{most:Int}(hm:0≤most∧most≤1000){C:List Int}(hC:CU8 C)(hl:C.length≤1000)(odd:Bool) :∃s C',g5i (most,ts,C,odd)=some (s,ts,C',odd)∧(s.length:Int)≤most∧s.length≤3∧Suf C' C:=by
 have em:addI .i64 (minI most 3) 1=min most 3+1:=by
   have:minI most 3=min most 3:=rfl;rw[this,g69 (by omega) (by omega)]
 obtain⟨r,C',h1,h2,h3,h4,_⟩:=g64 (ts:=ts) (n:=min most 3+1) ⟨by omega,by omega⟩ hC hl odd;obtain⟨k,rfl⟩:∃k:Nat,r=(k:Int):=⟨r.toNat,by omega⟩
 obtain⟨s,C'',a1,a2,a3⟩:=gse (ts:=ts) odd k [] C' (by omega) (hC.suf h4) (by have:=h4.1;omega) (by simp;omega);refine⟨s,C'',?_,by simp at a2;omega,by simp at a2;omega,a3.trans h4⟩;rw[g5i,em,h1];simp only[oZ4,oZ3];rw[a1];rfl
end
theorem ge1 :∀a b:List UInt8,Op.bytesLess a b=false→a≠b→Op.bytesLess b a=true
 | [],[],_,h=>absurd rfl h
 | [],y::b,h,_=>by simp[Op.bytesLess]at h
 | x::a,[],h,_=>by simp[Op.bytesLess]
 | x::a,y::b,h,hne=>by
   simp only[Op.bytesLess]at h ⊢;by_cases h1:x < y
   · simp[h1]at h
   · by_cases h2:y < x
     · simp[h2]
     · have e:x=y:=by
         have h1':¬x.toNat < y.toNat:=h1;have h2':¬y.toNat < x.toNat:=h2;exact UInt8.toNat_inj.1 (by omega)
       subst e;have hr:Op.bytesLess a b=false:=by simpa using h
       have:=ge1 a b hr (fun e=>hne (by rw[e]));simp[this]
theorem ggl{a b:SValue}(ha:I64 a.Int_)(hb:I64 b.Int_) :g2r (a,b)=some (vcmp a b):=by
 obtain⟨r,h1,h2⟩:=gdb ha hb;unfold vcmp;rw[h1,h2];rfl
theorem gwr{a b:SValue}(ha:I64 a.Int_)(hb:I64 b.Int_)(h:0 < vcmp a b) :vcmp b a < 0:=by
 have h1:=ggl ha hb;have h2:=ggl hb ha;generalize vcmp a b=r at h h1;generalize vcmp b a=q at h2;rw[g2r]at h1 h2;by_cases hk:a.Kind=b.Kind
 · rw[if_neg (by simp[hk])]at h1 h2;by_cases k1:a.Kind=1
   · have k1':b.Kind=1:=by omega
     rw[if_pos (by simp[k1])]at h1;rw[if_pos (by simp[k1'])]at h2;simp only[g1p,eqB]at h1 h2;cases hA:a.Bool_ <;> cases hB:b.Bool_ <;> simp[hA,hB]at h1 h2 <;> omega
   · have k1':¬b.Kind=1:=by omega
     rw[if_neg (by simp[k1])]at h1;rw[if_neg (by simp[k1'])]at h2;by_cases k2:a.Kind=2
     · have k2':b.Kind=2:=by omega
       rw[if_pos (by simp[k2]),gda ha,gda hb]at h1;rw[if_pos (by simp[k2']),gda ha,gda hb]at h2;simp only[oZ4,oZ3,g1p]at h1 h2;by_cases e:a.Int_=b.Int_
       · simp[e]at h1;omega
       · have hz:zig a.Int_≠zig b.Int_:=fun h=>e (gmq h)
         have e':¬b.Int_=a.Int_:=fun h=>e h.symm
         by_cases hl:zig a.Int_ < zig b.Int_
         · simp[e,hl]at h1;omega
         · have hl':zig b.Int_ < zig a.Int_:=by omega
           simp[e',hl']at h2;omega
     · have k2':¬b.Kind=2:=by omega
       rw[if_neg (by simp[k2])]at h1;rw[if_neg (by simp[k2'])]at h2;by_cases k3:a.Kind=3
       · have k3':b.Kind=3:=by omega
         rw[if_pos (by simp[k3])]at h1;rw[if_pos (by simp[k3'])]at h2;simp only[oZ4,oZ3,g1p]at h1 h2;by_cases hl:a.Str.length=b.Str.length
         · rw[if_neg (by simp[hl])]at h1 h2;by_cases e:a.Str=b.Str
           · simp[e]at h1;omega
           · have e':¬b.Str=a.Str:=fun h=>e h.symm
             cases hb':Op.bytesLess a.Str b.Str with
             | true=>simp[e,hb']at h1;omega
             | false=>
               have:=ge1 _ _ hb' e;simp[e',this]at h2;omega
         · have hl1:¬(a.Str.length:Int)=(b.Str.length:Int):=by omega
           have hl2:¬(b.Str.length:Int)=(a.Str.length:Int):=by omega
           rw[if_pos (by simp only[hl1,decide_false,Bool.not_false])]at h1;rw[if_pos (by simp only[hl2,decide_false,Bool.not_false])]at h2;by_cases hlt:(a.Str.length:Int) < (b.Str.length:Int)
           · simp[hlt]at h1;omega
           · have hlt':(b.Str.length:Int) < (a.Str.length:Int):=by omega
             simp[hlt']at h2;omega
       · have k3':¬b.Kind=3:=by omega
         rw[if_neg (by simp[k3])]at h1;rw[if_neg (by simp[k3'])]at h2;by_cases k4:a.Kind=4
         · have k4':b.Kind=4:=by omega
           rw[if_pos (by simp[k4])]at h1;rw[if_pos (by simp[k4'])]at h2;simp only[oZ4,oZ3,g1p]at h1 h2;by_cases e:a.ID=b.ID
           · simp[e]at h1;omega
           · have e':¬b.ID=a.ID:=fun h=>e h.symm
             by_cases hlt:a.ID < b.ID
             · simp[e,hlt]at h1;omega
             · have hlt':b.ID < a.ID:=by omega
               simp[e',hlt']at h2;omega
         · rw[if_neg (by simp[k4])]at h1;cases h1;omega
 · rw[if_pos (by simp[hk])]at h1;cases h1;omega
theorem put_l0' {v key item : SValue} (hl : v.Keys.length < 1000000) (hk : ∀ x, x ∈ v.Keys → I64 x.Int_) (hkey : I64 key.Int_) (a : Int) (b : Bool) (c : Int) (d : List UInt8) (e : Int) : ∀ (k i : Nat), i + k = v.Keys.length →
   (∀j,j < i→vcmp (v.Keys.getD j dSValue) key < 0)→∃m:Nat,m≤v.Keys.length∧g3i ((i:Int),v,key,item,a,b,c,d,e)=some ((m:Int),v,key,item,a,b,c,d,e)∧(∀j,j < m→vcmp (v.Keys.getD j dSValue) key < 0)∧(m < v.Keys.length→0≤vcmp (v.Keys.getD m dSValue) key)
 | 0,i,hi,hj=>by
   have hd:decide ((i:Int) < (v.Keys.length:Int))=false:=by simp;omega
   refine⟨i,by omega,?_,hj,fun h=>by omega⟩;rw[g3i];simp only[oZ4,oZ3,hd,Bool.not_false,Bool.or_true,if_true,Bool.false_eq_true,if_false,cond_false,SValue.gq]
 | k+1,i,hi,hj=>by
   have hlt:i < v.Keys.length:=by omega
   have hd:decide ((i:Int) < (v.Keys.length:Int))=true:=by simp;omega
   have hc:=ggl (hk _ (gg hlt dSValue)) hkey;rw[g3i];simp only[oZ4,oZ3,hd,Bool.not_true,Bool.or_false,if_true,cond_true,SValue.gq,g7];rw[if_pos (g6 hlt),hc];simp only[oZ3];by_cases hneg:vcmp (v.Keys.getD i dSValue) key < 0
   · rw[if_pos (by simpa using hneg),gj (by omega)];refine put_l0' hl hk hkey a b c d e k (i+1) (by omega) fun j hj'=>?_
     by_cases g:j < i
     · exact hj j g
     · have:j=i:=by omega
       subst this;exact hneg
   · rw[if_neg (by simpa using hneg)];exact⟨i,by omega,rfl,hj,fun _=>by omega⟩
theorem g7t :∀(a b:List SValue),wts (a++b)=wts a+wts b
 | [],b=>by rw[g5g];simp
 | x::a,b=>by rw[List.cons_append,g6d,g6d,g7t a b];omega
theorem gqf{α:Type}{l:List α}{m:Nat}{x d:α}(hm:m≤l.length)(i:Nat) :(l.take m++(x::l.drop m)).getD i d=if i < m then l.getD i d else if i=m then x else l.getD (i - 1) d:=by
 by_cases h1:i < m
 · rw[if_pos h1,List.getD_eq_getElem?_getD,List.getElem?_append_left (by simp;omega),List.getElem?_take_of_lt h1,←List.getD_eq_getElem?_getD]
 · rw[if_neg h1,List.getD_eq_getElem?_getD,List.getElem?_append_right (by simp;omega)];have hl:(l.take m).length=m:=by simp;omega
   rw[hl];by_cases h2:i=m
   · subst h2;simp
   · rw[if_neg h2];have:i - m=(i - m - 1)+1:=by omega
     rw[this,List.getElem?_cons_succ,List.getElem?_drop];have:m+(i - m - 1)=i - 1:=by omega
     rw[this,←List.getD_eq_getElem?_getD]
theorem g112 {v key item : SValue} (hl : v.Keys.length < 1000) (hl2 : v.Items.length = v.Keys.length) (hk : ∀ x, x ∈ v.Keys → I64 x.Int_) (hkey : I64 key.Int_) (ha : g5o v.Keys) :
   ∃ks is,g86 (v,key,item)=some ⟨v.Kind,v.Bool_,v.Int_,v.Str,v.ID,ks,is,v.Rest⟩∧is.length=ks.length∧ks.length≤v.Keys.length+1∧g5o ks∧(∀x,x∈ks→x∈v.Keys∨x=key)∧(∀x,x∈is→x∈v.Items∨x=item)∧wts ks+wts is≤wts v.Keys+wts v.Items+wt key+wt item:=by
 obtain⟨m,m1,m2,m3,m4⟩:=put_l0' (item:=item) (by omega) hk hkey 0 false 0 [] 0 v.Keys.length 0 (by omega) (fun j hj=>by omega);have m2':g3i (0,v,key,item,0,false,0,[],0)=_:=m2;rw[g86];simp only[SValue.gq];rw[m2'];simp only[oZ4,oZ3,SValue.gq]
 have ins:∀(hne:m < v.Keys.length→0 < vcmp (v.Keys.getD m dSValue) key),∃ks is,(some (⟨v.Kind,v.Bool_,v.Int_,v.Str,v.ID,v.Keys.take m++(key::v.Keys.drop m),v.Items.take m++(item::v.Items.drop m),v.Rest⟩:SValue):Option SValue)=some ⟨v.Kind,v.Bool_,v.Int_,v.Str,v.ID,ks,is,v.Rest⟩∧is.length=ks.length∧ks.length≤v.Keys.length+1∧g5o ks∧(∀x,x∈ks→x∈v.Keys∨x=key)∧(∀x,x∈is→x∈v.Items∨x=item)∧wts ks+wts is≤wts v.Keys+wts v.Items+wt key+wt item:=by
   intro hne;refine⟨_,_,rfl,by simp;omega,by simp;omega,fun i hi=>?_,fun x hx=>?_,fun x hx=>?_,?_⟩
   · rw[gqf m1,gqf m1];have hlen:(v.Keys.take m++(key::v.Keys.drop m)).length=v.Keys.length+1:=by simp;omega
     rw[hlen]at hi;by_cases h1:i+1 < m
     · rw[if_pos (by omega),if_pos h1];exact ha i (by omega)
     · by_cases h2:i+1=m
       · rw[if_pos (by omega),if_neg h1,if_pos h2];exact m3 i (by omega)
       · by_cases h3:i=m
         · rw[if_neg (by omega),if_pos h3,if_neg h1,if_neg h2];have e:i+1 - 1=m:=by omega
           rw[e];exact gwr (hk _ (gg (by omega) dSValue)) hkey (hne (by omega))
         · rw[if_neg (by omega),if_neg h3,if_neg h1,if_neg h2];have:=ha (i - 1) (by omega);have e:i - 1+1=i+1 - 1:=by omega
           rw[e]at this;exact this
   · rcases List.mem_append.1 hx with h | h
     · exact .inl (List.mem_of_mem_take h)
     · rcases List.mem_cons.1 h with h | h
       · exact .inr h
       · exact .inl (List.mem_of_mem_drop h)
   · rcases List.mem_append.1 hx with h | h
     · exact .inl (List.mem_of_mem_take h)
     · rcases List.mem_cons.1 h with h | h
       · exact .inr h
       · exact .inl (List.mem_of_mem_drop h)
   · rw[g7t,g7t,g6d,g6d];have e1:wts v.Keys=wts (v.Keys.take m)+wts (v.Keys.drop m):=by rw[←g7t,List.take_append_drop]
     have e2:wts v.Items=wts (v.Items.take m)+wts (v.Items.drop m):=by rw[←g7t,List.take_append_drop]
     omega
 have s1:slR 0 (m:Int) v.Keys.length=true:=g8t (a:=0) (by omega) m1;have s2:slR (m:Int) (v.Keys.length:Int) v.Keys.length=true:=g8t m1 (by omega);have s3:slR 0 (m:Int) v.Items.length=true:=g8t (a:=0) (by omega) (by omega);have s4:slR (m:Int) (v.Items.length:Int) v.Items.length=true:=g8t (by omega) (by omega)
 have build:∀{o:Option SValue→Prop},o (some (⟨v.Kind,v.Bool_,v.Int_,v.Str,v.ID,v.Keys.take m++(key::v.Keys.drop m),v.Items.take m++(item::v.Items.drop m),v.Rest⟩:SValue))→o (some (⟨v.Kind,v.Bool_,v.Int_,v.Str,v.ID,v.Keys.take m++(key::v.Keys.drop m),v.Items.take m++(item::v.Items.drop m),v.Rest⟩:SValue)):=fun h=>h
 by_cases hin:m < v.Keys.length
 · have hd:decide ((m:Int) < (v.Keys.length:Int))=true:=by simp;omega
   have hc:=ggl (hk _ (gg hin dSValue)) hkey;simp only[hd,Bool.not_true,Bool.or_false,if_true,cond_true,g7];rw[if_pos (g6 hin),hc];simp only[oZ3];by_cases h0:vcmp (v.Keys.getD m dSValue) key=0
   · rw[if_pos (by simpa using h0)];refine⟨v.Keys,v.Items,by cases v;rfl,hl2,by omega,ha,fun x hx=>.inl hx,fun x hx=>.inl hx,by omega⟩
   · rw[if_neg (by simpa using h0),if_pos s1,if_pos (g4j (by omega) (by simp[cutL];omega))];rw[if_pos (g4j (by omega) (by simp[cutL];omega)),if_pos s2,if_pos (g4j (by omega) (by simp[cutL];omega)),if_pos s3,if_pos (g4j (by omega) (by simp[cutL];omega)),if_pos (g4j (by omega) (by simp[cutL];omega)),if_pos s4,if_pos (g4j (by omega) (by simp[cutL];omega))]
     rw[g8s,g8s,gd1,gd1];simp only[List.nil_append,List.append_assoc,List.singleton_append];exact ins fun _=>by have:=m4 hin;omega
 · have hd:decide ((m:Int) < (v.Keys.length:Int))=false:=by simp;omega
   simp only[hd,Bool.not_false,Bool.or_true,if_true,Bool.false_eq_true,if_false,cond_false,oZ3];rw[if_pos s1,if_pos (g4j (by omega) (by simp[cutL];omega))]
   rw[if_pos (g4j (by omega) (by simp[cutL];omega)),if_pos s2,if_pos (g4j (by omega) (by simp[cutL];omega)),if_pos s3,if_pos (g4j (by omega) (by simp[cutL];omega)),if_pos (g4j (by omega) (by simp[cutL];omega)),if_pos s4,if_pos (g4j (by omega) (by simp[cutL];omega))];rw[g8s,g8s,gd1,gd1];simp only[List.nil_append,List.append_assoc,List.singleton_append]
   exact ins fun h=>absurd h hin
end
section
open Go Go.Proofs.YthnmepafpikaiaaGreat.Shv Go.Sort
set_option maxRecDepth 100000
section
variable {ts:List SType}
mutual
theorem vfit_weak :∀(v:SValue) (t:Int),vfit ts true t v→vfit ts false t v
 | ⟨k,b,i,s,id,ks,is,r⟩,t,h=>by
   rw[vfit]at h ⊢;obtain⟨⟨h1,h2,h3,h4⟩,h5⟩:=h;have w:=vfits_weak is;have wk:=vfits_weak ks;have wm:=vfitm_weak is;refine⟨⟨h1,h2,h3,fun h=>by cases h⟩,?_⟩
   have c6:(match findM (ts.getD t.toNat dSType).Members id with
     | some m=>r=[]∧is.length=1∧vfits ts true m.Type_ is
     | none=>(ts.getD t.toNat dSType).Open=true∧true=false∧I1000 id∧is=[]∧∃d,r=[⟨id,d⟩])→(match findM (ts.getD t.toNat dSType).Members id with
     | some m=>r=[]∧is.length=1∧vfits ts false m.Type_ is
     | none=>(ts.getD t.toNat dSType).Open=true∧false=false∧I1000 id∧is=[]∧∃d,r=[⟨id,d⟩]):=by
     split
     · rintro ⟨a,b,c⟩;exact⟨a,b,w _ c⟩
     · rintro ⟨_,b,_⟩;cases b
   rcases h5 with h | h | h | ⟨a1,a2,a3,a4,a5,a6,a7,a8⟩ | ⟨a1,a2,a3,a4,a5,a6,a7,a8⟩ | ⟨a1,a2,a3,a4,a5,a6⟩ | ⟨a1,a2,a3,a4,a5,a6,a7,a8,a9⟩ | ⟨a1,a2,a3,a4,a5,a6,a7,a8,a9,a10,a11⟩ | ⟨a1,a2,a3,a4,a5,a6,a7,a8,a9⟩
   · exact .inl h
   · exact .inr (.inl h)
   · exact .inr (.inr (.inl h))
   · refine .inr (.inr (.inr (.inl ⟨a1,a2,a3,a4,a5,a6,a7,?_⟩)));rcases a8 with h | ⟨_,h,_⟩
     · exact .inl h
     · cases h
   · exact .inr (.inr (.inr (.inr (.inl ⟨a1,a2,a3,a4,a5,a6,a7,wm _ a8⟩))))
   · exact .inr (.inr (.inr (.inr (.inr (.inl ⟨a1,a2,a3,a4,a5,c6 a6⟩)))))
   · exact .inr (.inr (.inr (.inr (.inr (.inr (.inl ⟨a1,a2,a3,a4,a5,a6,a7,a8,w _ a9⟩))))))
   · exact .inr (.inr (.inr (.inr (.inr (.inr (.inr (.inl ⟨a1,a2,a3,a4,a5,a6,a7,a8,wk _ a9,w _ a10,a11⟩)))))))
   · exact .inr (.inr (.inr (.inr (.inr (.inr (.inr (.inr ⟨a1,a2,a3,a4,a5,a6,a7,a8,w _ a9⟩)))))))
theorem vfits_weak :∀(l:List SValue) (t:Int),vfits ts true t l→vfits ts false t l
 | [],t,h=>by rw[vfits];trivial
 | v::l,t,h=>by
   rw[vfits]at h ⊢;exact⟨vfit_weak v t h.1,vfits_weak l t h.2⟩
theorem vfitm_weak :∀(l:List SValue) (ms:List SMember),vfitm ts true ms l→vfitm ts false ms l
 | [],[],h=>by rw[vfitm];trivial
 | [],m::ms,h=>by
   have:vfitm ts true (m::ms) []=False:=by rw[vfitm] <;> (intros;simp_all)
   rw[this]at h;exact h.elim
 | v::l,[],h=>by
   have:vfitm ts true [] (v::l)=False:=by rw[vfitm] <;> (intros;simp_all)
   rw[this]at h;exact h.elim
 | v::l,m::ms,h=>by
   rw[vfitm]at h ⊢;exact⟨vfit_weak v m.Type_ h.1,vfitm_weak l ms h.2⟩
end
theorem gk7{v:SValue}{t:Int}(h:vfit ts true t v)(pl:Bool) :vfit ts pl t v:=by
 cases pl with
 | true=>exact h
 | false=>exact vfit_weak v t h
def rk(ts:List SType)(t:Nat) :Nat:=if 7≤(ts.getD t dSType).Kind then 0 else t+1
def Aw :Nat→Nat
 | 0=>20
 | n+1=>12*Aw n+20
theorem Aw_le{a:Nat} :∀{b:Nat},a≤b→Aw a≤Aw b
 | 0, h => by have : a = 0 := by omega
              subst this;omega
 | b+1,h=>by
   by_cases e:a=b+1
   · subst e;omega
   · have:=Aw_le (a:=a) (b:=b) (by omega);simp only[Aw];omega
theorem Aw_20(r:Nat) :20≤Aw r:=Aw_le (a:=0) (Nat.zero_le _)
theorem Aw_5 :Aw 5=5429060:=rfl
def Mk(ts:List SType)(odd:Bool)(C:List Int)(r:Nat)(t:Int) :Prop:=∃v C',gz (t,ts,C,odd)=some (v,ts,C',odd)∧vfit ts (!odd) t v∧OkV v∧Suf C' C∧wt v+32574360*C'.length≤Aw r+32574360*C.length
theorem gws {odd : Bool} {c r : Nat} (hc : c ≤ 1000) {x : SType} (h12 : x.Members.length ≤ 12) (hm : ∀ m, m ∈ x.Members → (∀ C, CU8 C → C.length ≤ c → Mk ts odd C r m.Type_) ∧ (m.HasDefault = true → vfit ts true m.Type_ m.Default ∧ OkV m.Default ∧ wt m.Default ≤ 13))
   (a0:Int) (a1:Bool) (a2:Int) (a3:List UInt8) (a4:Int) (v0:Int) (v1:Bool) (v2:Int) (v3:List UInt8) (v4:Int):
   ∀(k i:Nat) (C:List Int) (acc:List SValue),i+k=x.Members.length→CU8 C→C.length≤c→acc.length=i→(∀j,j < i→vfit ts (!odd) (x.Members.getD j dSMember).Type_ (acc.getD j dSValue))→(∀y,y∈acc→OkV y)→
   ∃acc' C',g1b ((i:Int),ts,C,odd,a0,a1,a2,a3,a4,x.Kind,x.Name,x.Low,x.High,x.Max,x.Symbols,x.Members,x.Key,x.Elem,x.Open,v0,v1,v2,v3,v4,acc)=some (ts,C',odd,a0,a1,a2,a3,a4,x.Kind,x.Name,x.Low,x.High,x.Max,x.Symbols,x.Members,x.Key,x.Elem,x.Open,v0,v1,v2,v3,v4,acc')∧
     acc'.length=x.Members.length∧(∀j,j < x.Members.length→vfit ts (!odd) (x.Members.getD j dSMember).Type_ (acc'.getD j dSValue))∧(∀y,y∈acc'→OkV y)∧Suf C' C∧wts acc'+32574360*C'.length≤wts acc+k*Aw r+32574360*C.length
 | 0,i,C,acc,hi,hC,hl,ha,hf,ho=>⟨acc,C,by rw[g1b,if_neg (by simp;omega)],by omega,fun j hj=>hf j (by omega),ho,Suf.refl _,by omega⟩
 | k+1,i,C,acc,hi,hC,hl,ha,hf,ho=>by
   have hlt:i < x.Members.length:=by omega
   obtain⟨hmk,hdf⟩:=hm _ (gg hlt dSMember)
   have next : ∀ (w : SValue) (C1 : List Int), vfit ts (!odd) (x.Members.getD i dSMember).Type_ w → OkV w → Suf C1 C → wt w + 32574360 * C1.length ≤ Aw r + 32574360 * C.length →
       ∃acc' C',(if room 120 (acc++[w]).length=true then g1b (addI .i64 (i:Int) 1,ts,C1,odd,a0,a1,a2,a3,a4,x.Kind,x.Name,x.Low,x.High,x.Max,x.Symbols,x.Members,x.Key,x.Elem,x.Open,v0,v1,v2,v3,v4,acc++[w])else none)=some (ts,C',odd,a0,a1,a2,a3,a4,x.Kind,x.Name,x.Low,x.High,x.Max,x.Symbols,x.Members,x.Key,x.Elem,x.Open,v0,v1,v2,v3,v4,acc')∧
         acc'.length=x.Members.length∧(∀j,j < x.Members.length→vfit ts (!odd) (x.Members.getD j dSMember).Type_ (acc'.getD j dSValue))∧(∀y,y∈acc'→OkV y)∧Suf C' C∧wts acc'+32574360*C'.length≤wts acc+(k+1)*Aw r+32574360*C.length:=by
     intro w C1 hw hok hs hwt;rw[if_pos (g4j (by omega) (by simp;omega)),gj (by omega)]
     obtain⟨acc',C',b1,b2,b3,b4,b5,b6⟩:=gws hc h12 hm a0 a1 a2 a3 a4 v0 v1 v2 v3 v4 k (i+1) C1 (acc++[w]) (by omega) (hC.suf hs) (by have:=hs.1;omega) (by simp;omega) (fun j hj=>by
       by_cases h:j < i
       · have e:(acc++[w]).getD j dSValue=acc.getD j dSValue:=by
           rw[List.getD_eq_getElem?_getD,List.getD_eq_getElem?_getD,List.getElem?_append_left (by omega)]
         rw[e];exact hf j h
       · have e0:j=i:=by omega
         subst e0;have e:(acc++[w]).getD j dSValue=w:=by
           rw[List.getD_eq_getElem?_getD,List.getElem?_append_right (by omega),ha];simp
         rw[e];exact hw) (fun y hy=>by
       rcases List.mem_append.1 hy with h | h
       · exact ho y h
       · have:y=w:=by simpa using h
         subst this;exact hok)
     refine⟨acc',C',b1,b2,b3,b4,b5.trans hs,?_⟩;rw[g7t,g6d,g5g]at b6;have e:(k+1)*Aw r=k*Aw r+Aw r:=Nat.succ_mul _ _;omega
   rw[g1b,if_pos (by simp;omega),if_pos (g6 hlt)];simp only[oZ4,oZ3,g7,SValue.gq];cases hd:(x.Members.getD i dSMember).HasDefault with
   | true=>
     obtain⟨f1,f2,f3⟩:=hdf hd;obtain⟨q,C1,n1,n2,n3,n4,n5⟩:=g64 (ts:=ts) (n:=3) ⟨by omega,by omega⟩ hC (by omega) odd;rw[if_pos rfl,n1];simp only[oZ3,cond_true];by_cases h0:q=0
     · rw[if_pos (by simpa using h0)];have:=n4.1;have:=Aw_20 r;rw[if_pos (g6 hlt)];exact next _ C1 (gk7 f1 _) f2 n4 (by omega)
     · rw[if_neg (by simpa using h0),if_pos (g6 hlt)];obtain⟨w,C2,m1,m2,m3,m4,m5⟩:=hmk C1 (hC.suf n4) (by have:=n4.1;omega);rw[m1];simp only[oZ3,SValue.gq];have:=n4.1;exact next w C2 m2 m3 (m4.trans n4) (by omega)
   | false=>
     rw[if_neg (by simp),if_neg (by simp),if_pos (g6 hlt)];obtain⟨w,C2,m1,m2,m3,m4,m5⟩:=hmk C hC hl;rw[m1];simp only[oZ3,SValue.gq];exact next w C2 m2 m3 m4 m5
theorem gsf {odd : Bool} {c r : Nat} (hc : c ≤ 1000) {x : SType} (hE : ∀ C, CU8 C → C.length ≤ c → Mk ts odd C r x.Elem)
   (a0:Int) (a1:Bool) (a2:Int) (a3:List UInt8) (a4:Int) (v0:Int) (v1:Bool) (v2:Int) (v3:List UInt8) (v4:Int):
   ∀(k:Nat) (C:List Int) (acc:List SValue),acc.length+k≤100→CU8 C→C.length≤c→(∀y,y∈acc→vfit ts (!odd) x.Elem y∧OkV y)→
   ∃acc' C',g1x ((k:Int),ts,C,odd,a0,a1,a2,a3,a4,x.Kind,x.Name,x.Low,x.High,x.Max,x.Symbols,x.Members,x.Key,x.Elem,x.Open,v0,v1,v2,v3,v4,acc)=some (ts,C',odd,a0,a1,a2,a3,a4,v0,v1,v2,v3,v4,acc')∧
     acc'.length=acc.length+k∧(∀y,y∈acc'→vfit ts (!odd) x.Elem y∧OkV y)∧Suf C' C∧wts acc'+32574360*C'.length≤wts acc+k*Aw r+32574360*C.length
 | 0,C,acc,ha,hC,hl,hf=>⟨acc,C,by rw[g1x,if_neg (by simp)],by omega,hf,Suf.refl _,by omega⟩
 | k+1,C,acc,ha,hC,hl,hf=>by
   have hpos:decide ((0:Int) < ((k+1:Nat):Int))=true:=by rw[decide_eq_true_eq];omega
   have e:subI .i64 ((k+1:Nat):Int) 1=(k:Int):=by rw[g99 (by omega) (by omega)];omega
   obtain⟨w,C2,m1,m2,m3,m4,m5⟩:=hE C hC hl;rw[g1x,if_pos hpos,m1];simp only[oZ4,oZ3,SValue.gq];rw[if_pos (g4j (by omega) (by simp;omega)),e]
   obtain⟨acc',C',b1,b2,b3,b4,b5⟩:=gsf hc hE a0 a1 a2 a3 a4 v0 v1 v2 v3 v4 k C2 (acc++[w]) (by simp;omega) (hC.suf m4) (by have:=m4.1;omega) (fun y hy=>by
     rcases List.mem_append.1 hy with h | h
     · exact hf y h
     · have:y=w:=by simpa using h
       subst this;exact⟨m2,m3⟩)
   refine⟨acc',C',b1,by simp at b2;omega,b3,b4.trans m4,?_⟩;rw[g7t,g6d,g5g]at b5;have e:(k+1)*Aw r=k*Aw r+Aw r:=Nat.succ_mul _ _;omega
theorem gwt {odd : Bool} {c r : Nat} (hc : c ≤ 1000) {x : SType} (hK : ∀ C, CU8 C → C.length ≤ c → Mk ts odd C r x.Key) (hE : ∀ C, CU8 C → C.length ≤ c → Mk ts odd C r x.Elem)
   (a0:Int) (a1:Bool) (a2:Int) (a3:List UInt8) (a4:Int) (v0:Int) (v1:Bool) (v2:Int) (v3:List UInt8) (v4:Int) (R:List SRaw):
   ∀(k:Nat) (C:List Int) (ks is:List SValue),ks.length+k≤100→is.length=ks.length→CU8 C→C.length≤c→(∀y,y∈ks→vfit ts (!odd) x.Key y∧OkV y)→(∀y,y∈is→vfit ts (!odd) x.Elem y∧OkV y)→g5o ks→
   ∃ks' is' C',g1y ((k:Int),ts,C,odd,a0,a1,a2,a3,a4,x.Kind,x.Name,x.Low,x.High,x.Max,x.Symbols,x.Members,x.Key,x.Elem,x.Open,v0,v1,v2,v3,v4,ks,is,R)=some (ts,C',odd,a0,a1,a2,a3,a4,v0,v1,v2,v3,v4,ks',is',R)∧
     ks'.length≤ks.length+k∧is'.length=ks'.length∧(∀y,y∈ks'→vfit ts (!odd) x.Key y∧OkV y)∧(∀y,y∈is'→vfit ts (!odd) x.Elem y∧OkV y)∧g5o ks'∧Suf C' C∧wts ks'+wts is'+32574360*C'.length≤wts ks+wts is+2*(k*Aw r)+32574360*C.length
 | 0,C,ks,is,ha,hli,hC,hl,hf,hg,hasc=>⟨ks,is,C,by rw[g1y,if_neg (by simp)],by omega,hli,hf,hg,hasc,Suf.refl _,by omega⟩
 | k+1,C,ks,is,ha,hli,hC,hl,hf,hg,hasc=>by
   have hpos:decide ((0:Int) < ((k+1:Nat):Int))=true:=by rw[decide_eq_true_eq];omega
   have e:subI .i64 ((k+1:Nat):Int) 1=(k:Int):=by rw[g99 (by omega) (by omega)];omega
   obtain⟨w,C2,m1,m2,m3,m4,m5⟩:=hK C hC hl;have hl2:=m4.1;obtain⟨z,C3,n1,n2,n3,n4,n5⟩:=hE C2 (hC.suf m4) (by omega);have hl3:=n4.1;obtain⟨ks1,is1,p1,p2,p3,p4,p5,p6,p7⟩:=g112 (v:=⟨v0,v1,v2,v3,v4,ks,is,R⟩) (key:=w) (item:=z) (by show ks.length < 1000;omega) hli (fun y hy=>gcd (hf y hy).2) (gcd m3) hasc;simp only at p1 p3 p5 p6 p7
   rw[g1y,if_pos hpos,m1];simp only[oZ4,oZ3,SValue.gq];rw[n1];simp only[oZ3,SValue.gq];rw[p1];simp only[oZ3];rw[e]
   obtain⟨ks',is',C',b1,b2,b3,b4,b5,b6,b7,b8⟩:=gwt hc hK hE a0 a1 a2 a3 a4 v0 v1 v2 v3 v4 R k C3 ks1 is1 (by omega) p2 ((hC.suf m4).suf n4) (by omega) (fun y hy=>by
     rcases p5 y hy with h | h
     · exact hf y h
     · subst h;exact⟨m2,m3⟩) (fun y hy=>by
     rcases p6 y hy with h | h
     · exact hg y h
     · subst h;exact⟨n2,n3⟩) p4
   refine⟨ks',is',C',b1,by omega,b3,b4,b5,b6,b7.trans (n4.trans m4),?_⟩;have e:(k+1)*Aw r=k*Aw r+Aw r:=Nat.succ_mul _ _;omega
end
end
section
open Go Go.Proofs.YthnmepafpikaiaaGreat.Shv Go.Sort
set_option maxRecDepth 100000
section
variable {ts:List SType}
theorem gdc{v:SValue}(hs:v.Str.length≤1000)(hk:∀x,x∈v.Keys→OkV x)(hi:∀x,x∈v.Items→OkV x)(h1:v.Keys.length≤1000)(h2:v.Items.length≤1000)(h3:v.Rest.length≤1000)(hr:∀x,x∈v.Rest→x.Data.length≤1000∧I64 x.ID)(n1:I64 v.Kind)(n2:I64 v.Int_)(n3:I64 v.ID) :OkV v:=
 .mk v (by unfold reachBytes;omega) (by unfold reachBytes;omega) (by unfold reachBytes;omega) (by unfold reachBytes;omega) hk hi (fun x hx=>by have:=(hr x hx).1;unfold reachBytes;omega) n1 n2 n3 (fun x hx=>(hr x hx).2)
theorem g9n{n:Int}(h:I1000 n) :I64 n:=by unfold I1000 at h;unfold I64;omega
def Gd(ts:List SType)(odd:Bool)(c r:Nat) :Prop:=∀t:Nat,t < ts.length→rk ts t≤r→∀C,CU8 C→C.length≤c→Mk ts odd C r (t:Int)
theorem gqg(H:DrOk ts){t:Nat}(ht:t < ts.length) :rk ts t≤5:=by
 unfold rk;have:=H.n5;split <;> omega
theorem gys(H:DrOk ts){odd:Bool}{c r:Nat}(hc:c≤60)(Hc:∀c',c' < c→Gd ts odd c' 5)(Hr:∀r',r' < r→Gd ts odd c r') :Gd ts odd c r:=by
 intro t ht hrk C hC hl;have hxm:=gg ht dSType;have hF:=H.V.F _ hxm;have hT:=H.T _ hxm;have hmx:=H.M _ hxm;obtain⟨hI12,hI6,hM12⟩:=H.I _ hxm;have hR:=H.R t ht;have hL:=H.L _ hxm;have hU:=H.V.U _ hxm;have hD:=H.D _ hxm;have hW:=H.W _ hxm;have hkd:rk ts t=if 7≤(ts.getD t dSType).Kind then 0 else t+1:=rfl
 unfold Mk;rw[gz,if_pos (g6 ht)];simp only[oZ4,oZ3,g7];have fitI:=fun v=>g7i (ts:=ts) (!odd) (t:Int) v
 simp only[g7]at fitI;generalize hx:ts.getD t dSType=x at*;have hA20:=Aw_20 r;have hin:(0:Int)≤t∧(t:Int) < ts.length:=by omega
 have leaf:∀(v:SValue) (C':List Int),v.Keys=[]→v.Items=[]→v.Rest=[]→v.Str.length≤3→Suf C' C→wt v+32574360*C'.length≤Aw r+32574360*C.length:=fun v C' a b c d e=>by
   rw[gsb a b c];have:=e.1;omega
 have below:∀C1:List Int,C1.length+1=C.length→∀u:Int,0≤u→u < ts.length→∀C2,CU8 C2→C2.length≤C1.length→Mk ts odd C2 5 u:=fun C1 h1 u hu0 hu1 C2 hC2 hl2=>by
   obtain⟨k,rfl⟩:∃k:Nat,u=(k:Int):=⟨u.toNat,by omega⟩
   exact Hc C1.length (by omega) k (by omega) (gqg H (by omega)) C2 hC2 hl2
 have member:x.Kind=5∨x.Kind=6→1≤r∧∀m,m∈x.Members→∀C2,CU8 C2→C2.length≤c→Mk ts odd C2 (r - 1) m.Type_:=fun hk=>by
   have hrt:rk ts t=t+1:=by rw[hkd,if_neg (by omega)]
   refine⟨by omega,fun m hm C2 hC2 hl2=>?_⟩;obtain⟨a,b,cc⟩:=hR m hm;obtain⟨k,hk'⟩:∃k:Nat,m.Type_=(k:Int):=⟨m.Type_.toNat,by omega⟩
   rw[hk']at cc ⊢;refine Hr (r - 1) (by omega) k (by omega) ?_ C2 hC2 hl2;have:rk ts k≤t:=by
     unfold rk;rw[g7]at cc;split
     · omega
     · rcases cc with h | h <;> omega
   omega
 have hs7:x.Symbols.length < 9223372036854775807:=g13 (g3v hT.syms);have hm7:x.Members.length < 9223372036854775807:=g13 (g3v hT.mems);unfold FormP at hF;rcases hF with⟨k,_⟩ | ⟨k,f1,f2,_⟩ | ⟨k,f1,f2,f3,f4,_⟩ | ⟨k,f1,f2,f3,f4,f5,_⟩ | ⟨k,f1,f2,f3,f4,f5,f6,_⟩ | ⟨k,f1,f2,f3,f4,f5,f6,_⟩ | ⟨k,f1,f2,f3,f4,_⟩ | ⟨k,f1,f2,f3,f4,_⟩ | ⟨k,_⟩
 · obtain⟨q,C1,n1,n2,n3,n4,n5⟩:=g64 (ts:=ts) (n:=2) ⟨by omega,by omega⟩ hC (by omega) odd;rw[if_pos (by simp[k]),n1];refine⟨_,C1,rfl,?_,g7s rfl rfl rfl (by simp) (by simp[I64,k]) (by simp[I64]) (by simp[I64]),n4,leaf _ _ rfl rfl rfl (by simp) n4⟩;rw[fitI];simp[k,hin]
 · obtain⟨q,C1,n1,n2,n3,n4,n5⟩:=g64 (ts:=ts) (n:=256) ⟨by omega,by omega⟩ hC (by omega) odd;have hLk:=hL k;have e1:addI .i64 (subI .i64 x.High x.Low) 1=x.High - x.Low+1:=by
     rw[g99 (by omega) (by omega),g69 (by omega) (by omega)]
   have r0:0≤q % (x.High - x.Low+1):=Int.emod_nonneg _ (by omega);have r1:q % (x.High - x.Low+1) < x.High - x.Low+1:=Int.emod_lt_of_pos _ (by omega);rw[if_neg (by simp[k]),if_pos (by simp[k]),n1];simp only[oZ3];rw[e1,if_pos (nz (by omega)),g56 n2 (by omega),g69 (by omega) (by omega)]
   refine⟨_,C1,rfl,?_,g7s rfl rfl rfl (by simp) (by simp[I64,k]) (by simp only[I64];omega) (by simp[I64]),n4,leaf _ _ rfl rfl rfl (by simp) n4⟩;rw[fitI];simp[k,hin];omega
 · obtain⟨s,C1,n1,n2,n3,n4⟩:=gyr (ts:=ts) (most:=x.Max) ⟨f4.1,by omega⟩ hC (by omega) odd;rw[if_neg (by simp[k]),if_neg (by simp[k]),if_pos (by simp[k]),n1];refine⟨_,C1,rfl,?_,g7s rfl rfl rfl (by show s.length≤1000;omega) (by simp[I64,k]) (by simp[I64]) (by simp[I64]),n4,leaf _ _ rfl rfl rfl n3 n4⟩;rw[fitI];simp[k,hin,n2]
 · have hsl:=f5.1;have hs16:=f5.2.2.2.2;have hsid:=f5.2.1.2;obtain⟨q,C1,n1,n2,n3,n4,n5⟩:=g64 (ts:=ts) (n:=(x.Symbols.length:Int)) ⟨by omega,by omega⟩ hC (by omega) odd;obtain⟨j,rfl⟩:∃j:Nat,q=(j:Int):=⟨q.toNat,by omega⟩
   have hlc:=n4.1;have hj:j < x.Symbols.length:=by omega
   have hy:=gg hj dSSymbol;rw[if_neg (by simp[k]),if_neg (by simp[k]),if_neg (by simp[k]),if_pos (by simp[k]),n1];simp only[oZ3];rw[if_pos (g6 hj)];simp only[g7];cases ho:x.Open with
   | false=>
     rw[if_neg (by simp),if_neg (by simp)];refine⟨_,C1,rfl,?_,g7s rfl rfl rfl (by simp) (by simp[I64,k]) (by simp[I64]) (g9n (hsid _ hy)),n4,leaf _ _ rfl rfl rfl (by simp) n4⟩;refine(fitI _).2 ⟨⟨hin.1,hin.2,rfl,fun _=>rfl⟩,.inr (.inr (.inr (.inl ⟨k,rfl,rfl,rfl,rfl,rfl,rfl,.inl ⟨_,hy,rfl⟩⟩)))⟩
   | true=>
     obtain⟨o,C2,o1,o2,o3⟩:=gqd (ts:=ts) (hC.suf n4) (by omega) odd;have hlc2:=o3.1;rw[if_pos rfl,o1];simp only[oZ3,cond_true];cases o with
     | false=>
       rw[if_neg (by simp)];refine⟨_,C2,rfl,?_,g7s rfl rfl rfl (by simp) (by simp[I64,k]) (by simp[I64]) (g9n (hsid _ hy)),(o3.trans n4),leaf _ _ rfl rfl rfl (by simp) (o3.trans n4)⟩;refine(fitI _).2 ⟨⟨hin.1,hin.2,rfl,fun _=>rfl⟩,.inr (.inr (.inr (.inl ⟨k,rfl,rfl,rfl,rfl,rfl,rfl,.inl ⟨_,hy,rfl⟩⟩)))⟩
     | true=>
       have hodd:odd=true:=by
         cases odd with
         | true=>rfl
         | false=>exact absurd (o2 rfl) (by simp)
       obtain⟨n,C3,u1,u2,u3,u4⟩:=ggk (ts:=ts) hm7 hs7 hI12 hI6 ((hC.suf n4).suf o3) (by omega) odd;rw[if_pos rfl,u1];refine⟨_,C3,rfl,?_,g7s rfl rfl rfl (by simp) (by simp[I64,k]) (by simp[I64]) (g9n u2),u4.trans (o3.trans n4),leaf _ _ rfl rfl rfl (by simp) (u4.trans (o3.trans n4))⟩
       refine(fitI _).2 ⟨⟨hin.1,hin.2,rfl,fun _=>rfl⟩,.inr (.inr (.inr (.inl ⟨k,rfl,rfl,rfl,rfl,rfl,rfl,.inr ⟨ho,by simp[hodd],u2⟩⟩)))⟩
 · obtain⟨hr1,hmem⟩:=member (.inl k);obtain⟨acc,C1,b1,b2,b3,b4,b5,b6⟩:=gws (ts:=ts) (odd:=odd) (c:=c) (r:=r - 1) (by omega) (x:=x) hM12 (fun m hm=>⟨hmem m hm,fun hd=>⟨hD m hm hd,hT.dv m hm,hW m hm hd⟩⟩) 0 false 0 [] 0 x.Kind false 0 [] 0 x.Members.length 0 C [] (by omega) hC hl rfl (fun j hj=>by omega) (fun y hy=>by cases hy)
   have b1':g1b (0,ts,C,odd,0,false,0,[],0,x.Kind,x.Name,x.Low,x.High,x.Max,x.Symbols,x.Members,x.Key,x.Elem,x.Open,x.Kind,false,0,[],0,[])=_:=b1;have hlc:=b5.1;have hAr:Aw r=12*Aw (r - 1)+20:=by
     obtain⟨r',rfl⟩:∃r',r=r'+1:=⟨r - 1,by omega⟩
     rfl
   have hmul:x.Members.length*Aw (r - 1)≤12*Aw (r - 1):=Nat.mul_le_mul_right _ hM12;rw[g5g]at b6;have hfm:vfitm ts (!odd) x.Members acc:=g6t.2 ⟨b2,b3⟩;rw[if_neg (by simp[k]),if_neg (by simp[k]),if_neg (by simp[k]),if_neg (by simp[k]),if_pos (by simp[k]),b1'];simp only[oZ3];obtain⟨o,C2,o1,o2,o3⟩:=gqd (ts:=ts) (hC.suf b5) (by omega) odd
   have hlc2:=o3.1;rw[o1];simp only[oZ3];cases o with
   | false=>
     rw[if_neg (by simp)];refine⟨_,C2,rfl,?_,gdc (by simp) (fun y hy=>by cases hy) b4 (by simp) (by show acc.length≤1000;omega) (by simp) (fun y hy=>by cases hy) (by simp[I64,k]) (by simp[I64]) (by simp[I64]),o3.trans b5,?_⟩
     · exact(fitI _).2 ⟨⟨hin.1,hin.2,rfl,fun _=>rfl⟩,.inr (.inr (.inr (.inr (.inl ⟨k,rfl,rfl,rfl,rfl,rfl,⟨.nil,fun y hy=>by cases hy⟩,hfm⟩))))⟩
     · rw[wt_eq];simp only[g5g,List.length_nil,List.map_nil,List.sum_nil];omega
   | true=>
     have hodd:odd=true:=by
       cases odd with
       | true=>rfl
       | false=>exact absurd (o2 rfl) (by simp)
     obtain⟨n,C3,u1,u2,u3,u4⟩:=ggk (ts:=ts) hm7 hs7 hI12 hI6 ((hC.suf b5).suf o3) (by omega) odd;have hlc3:=u4.1;obtain⟨d,C4,d1,d2,d3⟩:=gqe (ts:=ts) (n:=n) (((hC.suf b5).suf o3).suf u4) (by omega) odd;have hlc4:=d3.1;rw[if_pos rfl,ggf,u1];simp only[oZ3];rw[d1];simp only[oZ3]
     refine⟨_,C4,rfl,?_,gdc (by simp) (fun y hy=>by cases hy) b4 (by simp) (by show acc.length≤1000;omega) (by simp) (fun y hy=>?_) (by simp[I64,k]) (by simp[I64]) (by simp[I64]),d3.trans (u4.trans (o3.trans b5)),?_⟩
     · refine(fitI _).2 ⟨⟨hin.1,hin.2,rfl,fun h=>by simp[hodd]at h⟩,.inr (.inr (.inr (.inr (.inl ⟨k,rfl,rfl,rfl,rfl,rfl,⟨by simp,fun y hy=>?_⟩,hfm⟩))))⟩;have:y=⟨n,d⟩:=by simpa using hy
       subst this;exact⟨u2,u3⟩
     · have:y=⟨n,d⟩:=by simpa using hy
       subst this;exact⟨by show d.length≤1000;omega,g9n u2⟩
     · rw[wt_eq];simp only[g5g,List.length_nil,List.map_cons,List.map_nil,List.sum_cons,List.sum_nil];omega
 · obtain⟨hr1,hmem⟩:=member (.inr k);have hMp:0 < x.Members.length:=by
     rcases f6.2.1 with h | h
     · cases h
     · exact h
   have hA1:Aw (r - 1)+20≤Aw r:=by
     obtain⟨r',rfl⟩:∃r',r=r'+1:=⟨r - 1,by omega⟩
     have:=Aw_20 r';show Aw r'+20≤12*Aw r'+20;omega
   have arm : ∀ C0, Suf C0 C → ∃ v C', (Option.bind (gv ((x.Members.length : Int), ts, C0, odd)) fun r_65 => if inR r_65.1 x.Members.length = true then
         (gz ((x.Members.getD r_65.1.toNat dSMember).Type_,r_65.2.1,r_65.2.2.1,r_65.2.2.2)).bind fun r_70=>
           some ((⟨x.Kind,false,0,[],(x.Members.getD r_65.1.toNat dSMember).ID,[],[r_70.1],[]⟩:SValue),r_70.2.1,r_70.2.2.1,r_70.2.2.2)
       else none)=some (v,ts,C',odd)∧vfit ts (!odd) (t:Int) v∧OkV v∧Suf C' C∧wt v+32574360*C'.length≤Aw r+32574360*C.length:=by
     intro C0 hs0;have hlc0:=hs0.1;obtain⟨q,C1,n1,n2,n3,n4,n5⟩:=g64 (ts:=ts) (n:=(x.Members.length:Int)) ⟨by omega,by omega⟩ (hC.suf hs0) (by omega) odd;obtain⟨j,rfl⟩:∃j:Nat,q=(j:Int):=⟨q.toNat,by omega⟩
     have hlc:=n4.1;have hj:j < x.Members.length:=by omega
     have hm:=gg hj dSMember;obtain⟨w,C2,m1,m2,m3,m4,m5⟩:=hmem _ hm C1 ((hC.suf hs0).suf n4) (by omega);have hlc2:=m4.1;rw[n1];simp only[oZ3];rw[if_pos (g6 hj)];simp only[g7];rw[m1];simp only[oZ3];have hI:=f6.2.2.1.2 _ hm
     refine⟨_,C2,rfl,?_,gdc (by simp) (fun y hy=>by cases hy) (fun y hy=>?_) (by simp) (by simp) (by simp) (fun y hy=>by cases hy) (by simp[I64,k]) (by simp[I64]) (g9n hI),m4.trans (n4.trans hs0),?_⟩
     · refine(fitI _).2 ⟨⟨hin.1,hin.2,rfl,fun _=>rfl⟩,.inr (.inr (.inr (.inr (.inr (.inl ⟨k,rfl,rfl,rfl,rfl,?_⟩)))))⟩;have hfind:findM x.Members (x.Members.getD j dSMember).ID=some (x.Members.getD j dSMember):=by
         unfold findM;rw[List.find?_eq_some_iff_getElem];refine⟨by simp,j,hj,(g1c hj _).symm,fun i hi=>?_⟩;have hp:=List.pairwise_iff_getElem.1 f6.2.2.1.1 i j (by omega) hj hi;rw[g1c hj];simp;omega
       simp only[hfind];refine⟨by first | rfl | trivial,by first | rfl | trivial,?_⟩;rw[g1d];intro y hy;have:y=w:=by simpa using hy
       subst this;exact m2
     · have:y=w:=by simpa using hy
       subst this;exact m3
     · rw[wt_eq];simp only[g6d,g5g,List.length_nil,List.map_nil,List.sum_nil];omega
   rw[if_neg (by simp[k]),if_neg (by simp[k]),if_neg (by simp[k]),if_neg (by simp[k]),if_neg (by simp[k]),if_pos (by simp[k])];simp only[SValue.gq];cases ho:x.Open with
   | false=>
     rw[if_neg (by simp),if_neg (by simp)];obtain⟨v,C',a1,a2,a3,a4,a5⟩:=arm C (Suf.refl _);rw[a1];exact⟨v,C',rfl,a2,a3,a4,a5⟩
   | true=>
     obtain⟨o,C2,o1,o2,o3⟩:=gqd (ts:=ts) hC (by omega) odd;have hlc2:=o3.1;rw[if_pos rfl,o1];simp only[oZ3,cond_true];cases o with
     | false=>
       rw[if_neg (by simp)];obtain⟨v,C',a1,a2,a3,a4,a5⟩:=arm C2 o3;rw[a1];exact⟨v,C',rfl,a2,a3,a4,a5⟩
     | true=>
       have hodd:odd=true:=by
         cases odd with
         | true=>rfl
         | false=>exact absurd (o2 rfl) (by simp)
       obtain⟨n,C3,u1,u2,u3,u4⟩:=ggk (ts:=ts) hm7 hs7 hI12 hI6 (hC.suf o3) (by omega) odd;have hlc3:=u4.1;obtain⟨d,C4,d1,d2,d3⟩:=gqe (ts:=ts) (n:=n) ((hC.suf o3).suf u4) (by omega) odd;have hlc4:=d3.1;rw[if_pos rfl,u1];simp only[oZ3];rw[d1];simp only[oZ3]
       refine⟨_,C4,rfl,?_,gdc (by simp) (fun y hy=>by cases hy) (fun y hy=>by cases hy) (by simp) (by simp) (by simp) (fun y hy=>?_) (by simp[I64,k]) (by simp[I64]) (g9n u2),d3.trans (u4.trans o3),?_⟩
       · refine(fitI _).2 ⟨⟨hin.1,hin.2,rfl,fun h=>by simp[hodd]at h⟩,.inr (.inr (.inr (.inr (.inr (.inl ⟨k,rfl,rfl,rfl,rfl,?_⟩)))))⟩;simp only[u3];exact⟨ho,by simp[hodd],u2,by first | rfl | trivial,d,by first | rfl | trivial⟩
       · have:y=⟨n,d⟩:=by simpa using hy
         subst this;exact⟨by show d.length≤1000;omega,g9n u2⟩
       · rw[wt_eq];simp only[g5g,List.length_nil,List.map_cons,List.map_nil,List.sum_cons,List.sum_nil];omega
 · have em:addI .i64 (minI x.Max 3) 1=min x.Max 3+1:=by
     have:minI x.Max 3=min x.Max 3:=rfl;rw[this,g69 (by omega) (by omega)]
   have hel:0≤x.Elem∧x.Elem < ts.length:=hU x.Elem (by unfold usesL;simp[k]);obtain⟨q,C1,n1,n2,n3,n4,n5⟩:=g64 (ts:=ts) (n:=min x.Max 3+1) ⟨by omega,by omega⟩ hC (by omega) odd;obtain⟨j,rfl⟩:∃j:Nat,q=(j:Int):=⟨q.toNat,by omega⟩
   have hlc:=n4.1
   have loop:∃acc C',g1x ((j:Int),ts,C1,odd,0,false,0,[],0,x.Kind,x.Name,x.Low,x.High,x.Max,x.Symbols,x.Members,x.Key,x.Elem,x.Open,x.Kind,false,0,[],0,[])=some (ts,C',odd,0,false,0,[],0,x.Kind,false,0,[],0,acc)∧acc.length=j∧(∀y,y∈acc→vfit ts (!odd) x.Elem y∧OkV y)∧Suf C' C∧10+wts acc+32574360*C'.length≤Aw r+32574360*C.length:=by
     rcases n5 with⟨h0,h1,h2⟩ | h1
     · have:j=0:=by omega
       subst this;refine⟨[],C1,by rw[g1x,if_neg (by simp)],rfl,fun y hy=>(by cases hy),n4,?_⟩;rw[g5g];omega
     · obtain⟨acc,C',b1,b2,b3,b4,b5⟩:=gsf (ts:=ts) (odd:=odd) (c:=C1.length) (r:=5) (by omega) (x:=x) (fun C2 hC2 hl2=>below C1 h1 x.Elem hel.1 hel.2 C2 hC2 hl2) 0 false 0 [] 0 x.Kind false 0 [] 0 j C1 [] (by simp;omega) (hC.suf n4) (by omega) (fun y hy=>by cases hy);refine⟨acc,C',b1,by simpa using b2,b3,b4.trans n4,?_⟩;rw[g5g,Aw_5]at b5
       have:j*5429060≤3*5429060:=Nat.mul_le_mul_right _ (by omega);omega
   obtain⟨acc,C',b1,b2,b3,b4,b5⟩:=loop;rw[if_neg (by simp[k]),if_neg (by simp[k]),if_neg (by simp[k]),if_neg (by simp[k]),if_neg (by simp[k]),if_neg (by simp[k]),if_pos (by simp[k]),em,n1];simp only[oZ3];rw[b1];simp only[oZ3]
   refine⟨_,C',rfl,?_,gdc (by simp) (fun y hy=>by cases hy) (fun y hy=>(b3 y hy).2) (by simp) (by show acc.length≤1000;omega) (by simp) (fun y hy=>by cases hy) (by simp[I64,k]) (by simp[I64]) (by simp[I64]),b4,?_⟩
   · exact(fitI _).2 ⟨⟨hin.1,hin.2,rfl,fun _=>rfl⟩,.inr (.inr (.inr (.inr (.inr (.inr (.inl ⟨k,rfl,rfl,rfl,rfl,rfl,rfl,by show(acc.length:Int)≤x.Max;omega,g1d.2 fun y hy=>(b3 y hy).1⟩))))))⟩
   · rw[wt_eq];simp only[g5g,List.length_nil,List.map_nil,List.sum_nil];omega
 · have em:addI .i64 (minI x.Max 3) 1=min x.Max 3+1:=by
     have:minI x.Max 3=min x.Max 3:=rfl;rw[this,g69 (by omega) (by omega)]
   have hel:0≤x.Elem∧x.Elem < ts.length:=hU x.Elem (by unfold usesL;simp[k]);have hkl:0≤x.Key∧x.Key < ts.length:=hU x.Key (by unfold usesL;simp[k]);obtain⟨q,C1,n1,n2,n3,n4,n5⟩:=g64 (ts:=ts) (n:=min x.Max 3+1) ⟨by omega,by omega⟩ hC (by omega) odd;obtain⟨j,rfl⟩:∃j:Nat,q=(j:Int):=⟨q.toNat,by omega⟩
   have hlc:=n4.1;have hasc0:g5o []:=fun i hi=>by simp at hi
   have loop:∃ks is C',g1y ((j:Int),ts,C1,odd,0,false,0,[],0,x.Kind,x.Name,x.Low,x.High,x.Max,x.Symbols,x.Members,x.Key,x.Elem,x.Open,x.Kind,false,0,[],0,[],[],[])=some (ts,C',odd,0,false,0,[],0,x.Kind,false,0,[],0,ks,is,[])∧ks.length≤j∧is.length=ks.length∧(∀y,y∈ks→vfit ts (!odd) x.Key y∧OkV y)∧(∀y,y∈is→vfit ts (!odd) x.Elem y∧OkV y)∧g5o ks∧Suf C' C∧10+wts ks+wts is+32574360*C'.length≤Aw r+32574360*C.length:=by
     rcases n5 with⟨h0,h1,h2⟩ | h1
     · have:j=0:=by omega
       subst this;refine⟨[],[],C1,by rw[g1y,if_neg (by simp)],by simp,rfl,fun y hy=>(by cases hy),fun y hy=>(by cases hy),hasc0,n4,?_⟩;rw[g5g];omega
     · obtain⟨ks,is,C',b1,b2,b3,b4,b5,b6,b7,b8⟩:=gwt (ts:=ts) (odd:=odd) (c:=C1.length) (r:=5) (by omega) (x:=x) (fun C2 hC2 hl2=>below C1 h1 x.Key hkl.1 hkl.2 C2 hC2 hl2) (fun C2 hC2 hl2=>below C1 h1 x.Elem hel.1 hel.2 C2 hC2 hl2) 0 false 0 [] 0 x.Kind false 0 [] 0 [] j C1 [] [] (by simp;omega) rfl (hC.suf n4) (by omega) (fun y hy=>by cases hy) (fun y hy=>by cases hy) hasc0
       refine⟨ks,is,C',b1,by simpa using b2,b3,b4,b5,b6,b7.trans n4,?_⟩;rw[g5g,Aw_5]at b8;have:j*5429060≤3*5429060:=Nat.mul_le_mul_right _ (by omega);omega
   obtain⟨ks,is,C',b1,b2,b3,b4,b5,b6,b7,b8⟩:=loop;rw[if_neg (by simp[k]),if_neg (by simp[k]),if_neg (by simp[k]),if_neg (by simp[k]),if_neg (by simp[k]),if_neg (by simp[k]),if_neg (by simp[k]),if_pos (by simp[k]),em,n1];simp only[oZ3];rw[b1];simp only[oZ3]
   refine⟨_,C',rfl,?_,gdc (by simp) (fun y hy=>(b4 y hy).2) (fun y hy=>(b5 y hy).2) (by show ks.length≤1000;omega) (by show is.length≤1000;omega) (by simp) (fun y hy=>by cases hy) (by simp[I64,k]) (by simp[I64]) (by simp[I64]),b7,?_⟩
   · exact(fitI _).2 ⟨⟨hin.1,hin.2,rfl,fun _=>rfl⟩,.inr (.inr (.inr (.inr (.inr (.inr (.inr (.inl ⟨k,rfl,rfl,rfl,rfl,rfl,by show(ks.length:Int)≤x.Max;omega,b3,g1d.2 fun y hy=>(b4 y hy).1,g1d.2 fun y hy=>(b5 y hy).1,b6⟩)))))))⟩
   · rw[wt_eq];simp only[List.length_nil,List.map_nil,List.sum_nil];omega
 · have hel:0≤x.Elem∧x.Elem < ts.length:=hU x.Elem (by unfold usesL;simp[k]);obtain⟨q,C1,n1,n2,n3,n4,n5⟩:=g64 (ts:=ts) (n:=2) ⟨by omega,by omega⟩ hC (by omega) odd;have hlc:=n4.1;rw[if_neg (by simp[k]),if_neg (by simp[k]),if_neg (by simp[k]),if_neg (by simp[k]),if_neg (by simp[k]),if_neg (by simp[k]),if_neg (by simp[k]),if_neg (by simp[k]),n1]
   simp only[oZ3,SValue.gq];by_cases h1:q=1
   · have hc1:C1.length+1=C.length:=by
       rcases n5 with⟨h0,_,_⟩ | h
       · omega
       · exact h
     obtain⟨w,C2,m1,m2,m3,m4,m5⟩:=below C1 hc1 x.Elem hel.1 hel.2 C1 (hC.suf n4) (by omega);have hlc2:=m4.1;rw[Aw_5]at m5;rw[if_pos (by simpa using h1),m1];simp only[oZ3]
     refine⟨_,C2,rfl,?_,gdc (by simp) (fun y hy=>by cases hy) (fun y hy=>?_) (by simp) (by simp) (by simp) (fun y hy=>by cases hy) (by simp[I64,k]) (by simp[I64]) (by simp[I64]),m4.trans n4,?_⟩
     · refine(fitI _).2 ⟨⟨hin.1,hin.2,rfl,fun _=>rfl⟩,.inr (.inr (.inr (.inr (.inr (.inr (.inr (.inr ⟨k,rfl,rfl,rfl,rfl,rfl,rfl,by simp,g1d.2 fun y hy=>?_⟩)))))))⟩;have:y=w:=by simpa using hy
       subst this;exact m2
     · have:y=w:=by simpa using hy
       subst this;exact m3
     · rw[wt_eq];simp only[g6d,g5g,List.length_nil,List.map_nil,List.sum_nil];omega
   · rw[if_neg (by simpa using h1)];refine⟨_,C1,rfl,?_,g7s rfl rfl rfl (by simp) (by simp[I64,k]) (by simp[I64]) (by simp[I64]),n4,leaf _ _ rfl rfl rfl (by simp) n4⟩;exact(fitI _).2 ⟨⟨hin.1,hin.2,rfl,fun _=>rfl⟩,.inr (.inr (.inr (.inr (.inr (.inr (.inr (.inr ⟨k,rfl,rfl,rfl,rfl,rfl,rfl,by simp,g1d.2 fun y hy=>by cases hy⟩)))))))⟩
theorem gwu(H:DrOk ts){odd:Bool} :∀(c:Nat),c≤60→∀r,Gd ts odd c r:=by
 intro c
 induction c using Nat.strongRecOn with
 | ind c ihc=>
   intro hc r
   induction r using Nat.strongRecOn with
   | ind r ihr=>exact gys H hc (fun c' h=>ihc c' h (by omega) 5) (fun r' h=>ihr r' h)
theorem gsg(H:DrOk ts){t:Int}(ht:0≤t∧t < ts.length){C:List Int}(hC:CU8 C)(hl:C.length≤reachBytes) :∃v,g6a ((⟨ts⟩:SSchema),t,C)=some v∧vfit ts true t v∧OkV v∧wt v≤2147483648:=by
 obtain⟨j,rfl⟩:∃j:Nat,t=(j:Int):=⟨t.toNat,by omega⟩
 have hr:=g13 hl;have hm:minI 60 (C.length:Int)=((min 60 C.length:Nat):Int):=gpd 60 C.length;have hs:CU8 (C.take (min 60 C.length)):=fun c hc=>hC c (List.mem_of_mem_take hc)
 have hlen:(C.take (min 60 C.length)).length≤60:=by rw[List.length_take];omega
 have hsl:slR 0 ((min 60 C.length:Nat):Int) C.length=true:=g8t (a:=0) (by omega) (by omega);obtain⟨v,C',h1,h2,h3,h4,h5⟩:=gwu H (odd:=false) 60 (by omega) 5 j (by omega) (gqg H (by omega)) _ hs hlen;rw[g6a];simp only[oZ4,oZ3];rw[hm,if_pos hsl,g8s,h1];refine⟨v,by simp only[oZ3,SValue.gq],h2,h3,?_⟩;rw[Aw_5]at h5;omega
theorem gm5(H:DrOk ts){t:Int}(ht:0≤t∧t < ts.length){C:List Int}(hC:CU8 C)(hl:C.length≤reachBytes) :∃v,g5b ((⟨ts⟩:SSchema),t,C)=some v∧vfit ts false t v∧OkV v∧wt v≤2147483648:=by
 obtain⟨j,rfl⟩:∃j:Nat,t=(j:Int):=⟨t.toNat,by omega⟩
 have hr:=g13 hl;have hm:minI 60 (C.length:Int)=((min 60 C.length:Nat):Int):=gpd 60 C.length;have hs:CU8 (C.take (min 60 C.length)):=fun c hc=>hC c (List.mem_of_mem_take hc)
 have hlen:(C.take (min 60 C.length)).length≤60:=by rw[List.length_take];omega
 have hsl:slR 0 ((min 60 C.length:Nat):Int) C.length=true:=g8t (a:=0) (by omega) (by omega);obtain⟨v,C',h1,h2,h3,h4,h5⟩:=gwu H (odd:=true) 60 (by omega) 5 j (by omega) (gqg H (by omega)) _ hs hlen;rw[g5b];simp only[oZ4,oZ3];rw[hm,if_pos hsl,g8s,h1];refine⟨v,by simp only[oZ3,SValue.gq],h2,h3,?_⟩;rw[Aw_5]at h5;omega
end
structure DrIn (d:Sheaveref08Draft):Prop where
 s:DOk d.S
 t:U8 d.T
 c:CU8 d.C
 l:d.C.length≤reachBytes
theorem of8 {d : Sheaveref08Draft} (hd : DrIn d) : (∃ s t v w, g63 d = some (s, t, v, w, false)) ∨
   ∃ts t v w,g63 d=some (⟨ts⟩,t,v,w,true)∧DrOk ts∧(0≤t∧t < ts.length)∧(vfit ts true t v∧OkV v∧wt v≤2147483648)∧(vfit ts false t w∧OkV w∧wt w≤2147483648):=by
 rw[g63];rcases of_ok hd.s with h | ⟨l,h,H⟩
 · rw[h];exact .inl ⟨_,_,_,_,rfl⟩
 · right;have hn1:=H.n1;have hn5:=H.n5;have ht:=hd.t;unfold U8 at ht;have r0:0≤d.T % (l.length:Int):=Int.emod_nonneg _ (by omega);have r1:d.T % (l.length:Int) < l.length:=Int.emod_lt_of_pos _ (by omega);obtain⟨v,v1,v2⟩:=gsg H ⟨r0,r1⟩ hd.c hd.l;obtain⟨w,w1,w2⟩:=gm5 H ⟨r0,r1⟩ hd.c hd.l;rw[h];simp only[oZ4,oZ3]
   rw[if_neg (by simp),if_pos (nz (by omega)),g8l ⟨by omega,by omega⟩,g56 ht.1 (by omega),v1];simp only[oZ3];rw[w1];exact⟨l,_,v,w,by simp only[oZ3,SValue.gq],H,⟨r0,r1⟩,v2,w2⟩
end
section
open Go Go.Proofs.YthnmepafpikaiaaGreat.Shv Go.Sort
set_option maxRecDepth 100000
theorem gxq{ts:List SType}(H:SOk ts){v:SValue}(hv:OkV v)(t:Int)(pl:Bool) :SaysP (g3l ((⟨ts⟩:SSchema),t,v,pl)) (vfit ts pl t v):=by
 obtain⟨r,h1,h2⟩:=gxo (by have:=H.n;omega) H.T H.K hv t pl;obtain⟨q,q1,q2⟩:=gnl (by have:=H.n;omega) H.T H.K hv t pl;rw[h1]at q2;have:r=q:=Option.some.inj q2;subst this;exact⟨r,q1,h2⟩
theorem guc{ts:List SType}(hT:∀t,t∈ts→OkT t)(hV:VOk ts){v:SValue}(hv:OkV v){t:Int}(hf:vfit ts false t v) :g3q ((⟨ts⟩:SSchema),t,v)=some 0∧g55 ((⟨ts⟩:SSchema),t,v)=some 0:=by
 have H:=hV.sok hT;obtain⟨v1,v2⟩:=gwl hT hV;obtain⟨⟨g1,g2,_⟩,_⟩:=(g7i _ _ _).1 hf;obtain⟨e,e1,e2,_⟩:=gu5 (s:=⟨ts⟩) (by have:=hV.n;unfold reachBytes;show ts.length≤_;omega) hT hv t;obtain⟨r,r1,r2⟩:=gxq H hv t false;have hr:=r2.2 hf;subst hr;have hout:¬((bif decide (t < 0)then true else decide (((⟨ts⟩:SSchema).Types.length:Int)≤t))=true):=by
   have a:¬t < 0:=by omega
   have b:¬((ts.length:Nat):Int)≤t:=by omega
   simp only[a,b,decide_false,cond_false,Bool.false_eq_true,not_false_eq_true]
 have key:g3q ((⟨ts⟩:SSchema),t,v)=some 0:=by
   rw[g3q,g8v];simp only[gc4,SValue.gq];rw[v1];show((if(bif decide (t < 0)then true else decide (((⟨ts⟩:SSchema).Types.length:Int)≤t))=true then some (4:Int)else some 0) >>=_)=_;rw[if_neg hout];show(g8w ((⟨ts⟩:SSchema),t,v) >>=_)=_;rw[g8w];simp only[SValue.gq];rw[r1];rfl
 rw[key]at e1;have:e=0:=(Option.some.inj e1).symm;subst this;exact⟨key,e2⟩
theorem gc5(p:List UInt8) :1≤(g3p p).length:=by
 have:=gk5 p.length;unfold g3p;rw[List.length_append];omega
theorem gqh(f:Fd) :1≤f.text.length:=by
 have:=gk5 (2*f.id+(if f.c then 1 else 0));unfold Fd.text g8i;rw[List.length_append];omega
theorem gyt{d:Sheaveref07Draft}(h:WF Un ⟨.slice (.nm ixSheaveref07Node),d.Nodes⟩) :DOk d:=by
 obtain⟨a,_,c⟩:=ggh (t:= .nm ixSheaveref07Node) h;refine⟨a,fun x hx=>?_⟩;have hc:=c x hx;have u8:∀{n:Int},WF Un ⟨.int .u8,n⟩→U8 n:=fun {n} h=>by
   cases h with
   | int k n h=>
     simp[Lit.wf,IntKind.min,IntKind.max,IntKind.bits,IntKind.signed]at h;unfold U8;omega
 have c1:=hc ⟨.int .u8,x.Kind⟩ (.head _);have c2:=hc ⟨.int .u8,x.A⟩ (.tail _ (.head _));have c3:=hc ⟨.int .u8,x.B⟩ (.tail _ (.tail _ (.head _)));have c4:=hc ⟨.int .u8,x.C⟩ (.tail _ (.tail _ (.tail _ (.head _))));have c5:=hc ⟨.slice (.nm ixSheaveref07Part),x.Parts⟩ (.tail _ (.tail _ (.tail _ (.tail _ (.head _)))));obtain⟨p1,_,p3⟩:=ggh (t:= .nm ixSheaveref07Part) c5
 refine⟨u8 c1,u8 c2,u8 c3,u8 c4,fun q hq=>?_,p1⟩;have hq':=p3 q hq;exact⟨u8 (hq' ⟨.int .u8,q.ID⟩ (.head _)),u8 (hq' ⟨.int .u8,q.Type_⟩ (.tail _ (.head _))),u8 (hq' ⟨.int .u8,q.Flag⟩ (.tail _ (.tail _ (.head _))))⟩
end
section
open Go Go.Proofs.YthnmepafpikaiaaGreat.Shv Go.Sort
set_option maxRecDepth 100000
def fb(n:Nat) :List UInt8→Nat
 | []=>n
 | c::s=>fb (n*256+c.toNat) s
end
section
open Go Go.Proofs.YthnmepafpikaiaaGreat.Shv Go.Sort
set_option maxRecDepth 100000
set_option linter.all false
end
section
open Go Go.Proofs.YthnmepafpikaiaaGreat.Shv Go.Sort
set_option maxRecDepth 100000
section
variable {ts:List SType}
end
end
section
open Go Go.Proofs.YthnmepafpikaiaaGreat.Shv Go.Sort
set_option maxRecDepth 100000
section
variable {ts:List SType}
end
end
section
open Go Go.Proofs.YthnmepafpikaiaaGreat.Shv Go.Sort
set_option maxRecDepth 100000
section
variable {ts:List SType}
end
end
section
open Go Go.Proofs.YthnmepafpikaiaaGreat.Shv Go.Sort
set_option maxRecDepth 100000
section
variable {ts:List SType}
end
end
section
open Go Go.Proofs.YthnmepafpikaiaaGreat.Shv Go.Sort
set_option maxRecDepth 100000
theorem gk8{n m:Nat}(hn:n < 18446744073709551616)(hm:m < 18446744073709551616){r s:List UInt8}(h:vput n++r=vput m++s) :n=m∧r=s:=by
 have h1:=grv hn r;rw[h,grv hm s]at h1;have e:((m:Nat):Int)=(n:Int):=congrArg Prod.fst h1;have e:m=n:=by omega
 subst e;exact⟨rfl,List.append_cancel_left h⟩
theorem gc6{p q r s:List UInt8}(hp:p.length < 18446744073709551616)(hq:q.length < 18446744073709551616)(h:g3p p++r=g3p q++s) :p=q∧r=s:=by
 unfold g3p at h;rw[List.append_assoc,List.append_assoc]at h;obtain⟨h1,h2⟩:=gk8 hp hq h;exact List.append_inj h2 h1
theorem gqi :∀{a b:List (List UInt8)},(∀x,x∈a→x.length < 18446744073709551616)→(∀x,x∈b→x.length < 18446744073709551616)→a.flatMap g3p=b.flatMap g3p→a=b
 | [],[],_,_,_=>rfl
 | [],q::b,_,_,h=>by
   have h2:=congrArg List.length h;have:=gc5 q;rw[List.flatMap_cons,List.length_append,List.flatMap_nil,List.length_nil]at h2;omega
 | p::a,[],_,_,h=>by
   have h2:=congrArg List.length h;have:=gc5 p;rw[List.flatMap_cons,List.length_append,List.flatMap_nil,List.length_nil]at h2;omega
 | p::a,q::b,ha,hb,h=>by
   rw[List.flatMap_cons,List.flatMap_cons]at h;obtain⟨e,h2⟩:=gc6 (ha _ (.head _)) (hb _ (.head _)) h;rw[e,gqi (fun x hx=>ha x (.tail _ hx)) (fun x hx=>hb x (.tail _ hx)) h2]
def FdOk(f:Fd) :Prop:=f.id≤1000∧f.p.length < 18446744073709551616
theorem gqj :∀{a b:List Fd},(∀x,x∈a→FdOk x)→(∀x,x∈b→FdOk x)→a.flatMap Fd.text=b.flatMap Fd.text→a=b
 | [],[],_,_,_=>rfl
 | [],q::b,_,_,h=>by
   have h2:=congrArg List.length h;have:=gqh q;rw[List.flatMap_cons,List.length_append,List.flatMap_nil,List.length_nil]at h2;omega
 | p::a,[],_,_,h=>by
   have h2:=congrArg List.length h;have:=gqh p;rw[List.flatMap_cons,List.length_append,List.flatMap_nil,List.length_nil]at h2;omega
 | ⟨i,c,p⟩::a,⟨j,d,q⟩::b,ha,hb,h=>by
   have h1:=ha _ (.head _);have h2:=hb _ (.head _);unfold FdOk at h1 h2;simp only at h1 h2;rw[List.flatMap_cons,List.flatMap_cons]at h;simp only[Fd.text,g8i,List.append_assoc]at h;obtain⟨e1,h3⟩:=gk8 (by split <;> omega) (by split <;> omega) h;obtain⟨e2,h4⟩:=gc6 h1.2 h2.2 h3;have e3:=gqj (fun x hx=>ha x (.tail _ hx)) (fun x hx=>hb x (.tail _ hx)) h4;subst e2 e3
   cases c <;> cases d <;> simp at e1
   · have:i=j:=by omega
     subst this;rfl
   · omega
   · omega
   · have:i=j:=by omega
     subst this;rfl
theorem gsh :∀(s:List UInt8) (n:Nat) (b:UInt8),fb n (s++[b])=fb n s*256+b.toNat
 | [],n,b=>by simp[fb]
 | a::s,n,b=>by
   simp only[List.cons_append,fb];exact gsh s _ b
theorem gsi(n:Nat) :fb 0 (vbig n)=n:=by
 induction n using Nat.strongRecOn with
 | ind n ih=>
   rw[vbig];split
   · rename_i h;subst h;rfl
   · rw[gsh,ih (n / 256) (by omega),g3o (by omega)];omega
theorem gqk{n m:Nat}(h:vbig n=vbig m) :n=m:=by rw[←gsi n,←gsi m,h]
theorem gyu{a b:List SRaw}(ha:a.Pairwise (fun x y=>x.ID < y.ID))(hb:b.Pairwise (fun x y=>x.ID < y.ID))(h:∀x,x∈a↔x∈b) :a=b:=by
 have na:a.Nodup:=ha.imp fun {x y} h e=>by subst e;omega
 have nb:b.Nodup:=hb.imp fun {x y} h e=>by subst e;omega
 have hp:a.Perm b:=(List.perm_ext_iff_of_nodup na nb).2 h;exact List.Perm.eq_of_pairwise (le:=fun x y:SRaw=>x.ID < y.ID) (fun x y _ _ h1 h2=>by omega) ha hb hp
theorem gsj :∀{a b c d:List (List UInt8)},(∀x,x∈a→x.length < 18446744073709551616)→(∀x,x∈b→x.length < 18446744073709551616)→(∀x,x∈c→x.length < 18446744073709551616)→(∀x,x∈d→x.length < 18446744073709551616)→a.length=b.length→c.length=d.length→ilv a b=ilv c d→a=c∧b=d
 | [],[],[],[],_,_,_,_,_,_,_=>⟨rfl,rfl⟩
 | [],[],p::c,q::d,_,_,_,_,_,_,h=>by
   have h2:=congrArg List.length h;have:=gc5 p;simp only[ilv,List.length_append,List.length_nil]at h2;omega
 | p::a,q::b,[],[],_,_,_,_,_,_,h=>by
   have h2:=congrArg List.length h;have:=gc5 p;simp only[ilv,List.length_append,List.length_nil]at h2;omega
 | p::a,q::b,r::c,s::d,ha,hb,hc,hd,h1,h2,h=>by
   simp only[ilv]at h;obtain⟨e1,h3⟩:=gc6 (ha _ (.head _)) (hc _ (.head _)) h;obtain⟨e2,h4⟩:=gc6 (hb _ (.head _)) (hd _ (.head _)) h3;obtain⟨e3,e4⟩:=gsj (fun x hx=>ha x (.tail _ hx)) (fun x hx=>hb x (.tail _ hx)) (fun x hx=>hc x (.tail _ hx)) (fun x hx=>hd x (.tail _ hx)) (by simpa using h1) (by simpa using h2) h4;rw[e1,e2,e3,e4];exact⟨rfl,rfl⟩
theorem ge2{ts:List SType}{t:Int} :∀{l m:List SValue},(∀x,x∈l→∀y,y∈m→vpay ts t x=vpay ts t y→x=y)→vpays ts t l=vpays ts t m→l=m
 | [],[],_,_=>rfl
 | [],y::m,_,h=>by rw[vpays,vpays]at h;cases h
 | x::l,[],_,h=>by rw[vpays,vpays]at h;cases h
 | x::l,y::m,hi,h=>by
   rw[vpays,vpays]at h;injection h with h1 h2;rw[hi x (.head _) y (.head _) h1,ge2 (fun a ha b hb=>hi a (.tail _ ha) b (.tail _ hb)) h2]
theorem gxr{l m:List SValue}(hl:l.length=m.length)(h:∀i,i < l.length→l.getD i dSValue=m.getD i dSValue) :l=m:=by
 apply List.ext_getElem hl;intro i h1 h2;have:=h i h1;rw[List.getD_eq_getElem?_getD,List.getD_eq_getElem?_getD,List.getElem?_eq_getElem h1,List.getElem?_eq_getElem h2]at this;exact this
theorem ggm{ts:List SType}{n:Nat} :∀{ms:List SMember} {l:List SValue},(∀x,x∈l→∀t,(vpay ts t x).length < n)→∀f,f∈vents ts ms l→f.p.length < n
 | [],l,_,f,hf=>by rw[vents]at hf;cases hf;intros;simp_all
 | m::ms,[],_,f,hf=>by rw[vents]at hf;cases hf;intros;simp_all
 | m::ms,v::l,h,f,hf=>by
   rw[vents]at hf;split at hf
   · exact ggm (fun x hx=>h x (.tail _ hx)) f hf
   · rcases List.mem_cons.1 hf with rfl | hf
     · exact h v (.head _) _
     · exact ggm (fun x hx=>h x (.tail _ hx)) f hf
theorem gyv {ts : List SType} {ms : List SMember} {a b : List SValue} {ra rb : List SRaw} (hm : MAsc ms) (hra : g6c ms ra) (hrb : g6c ms rb) (hla : a.length = ms.length) (hlb : b.length = ms.length)
   (da:∀f,f∈g3d ts ms a ra→FdOk f) (db:∀f,f∈g3d ts ms b rb→FdOk f)
   (ih:∀i,i < ms.length→vpay ts (ms.getD i dSMember).Type_ (a.getD i dSValue)=vpay ts (ms.getD i dSMember).Type_ (b.getD i dSValue)→a.getD i dSValue=b.getD i dSValue)
   (h:(isoB ltF (g3d ts ms a ra)).flatMap Fd.text=(isoB ltF (g3d ts ms b rb)).flatMap Fd.text):a=b∧ra=rb:=by
 have e:=gqj (fun f hf=>da f ((g6p ltF _).mem_iff.1 hf)) (fun f hf=>db f ((g6p ltF _).mem_iff.1 hf)) h;have hp:(g3d ts ms a ra).Perm (g3d ts ms b rb):=(g6p ltF _).symm.trans (e▸g6p ltF _);have rawmem:∀{l:List SValue} {r:List SRaw},g6c ms r→∀x,I1000 x.ID→findM ms x.ID=none→rawF x∈g3d ts ms l r→x∈r:=by
   intro l r hr x hx hn hmem;rcases List.mem_append.1 hmem with h1 | h1
   · obtain⟨m,h2,h3⟩:=g8k h1;have:=gaf hn m h2;have:=hm.2 m h2;have h3:x.ID.toNat=m.ID.toNat:=h3;unfold I1000 at*;omega
   · obtain⟨q,h2,h3⟩:=List.mem_map.1 h1;have hq:=(hr.2 q h2).1;have:q=x:=by
       cases q;cases x;simp only[rawF,Fd.mk.injEq]at h3;unfold I1000 at*;simp only[SRaw.mk.injEq];simp only at hq hx;exact⟨by omega,h3.2.2⟩
     rw[←this];exact h2
 refine⟨gxr (by omega) fun i hi=>?_,gyu hra.1 hrb.1 fun x=>⟨fun hx=>?_,fun hx=>?_⟩⟩
 · have hi':i < ms.length:=by omega
   have hmi:=gg hi' dSMember;have hid:=hm.2 _ hmi;have hf:=hp.filter fun x=>decide (x.id=(ms.getD i dSMember).ID.toNat)
   have noraw:∀{r:List SRaw},g6c ms r→((r.map rawF).filter fun x=>decide (x.id=(ms.getD i dSMember).ID.toNat))=[]:=by
     intro r hr;rw[List.filter_eq_nil_iff];intro f hf;obtain⟨q,h2,rfl⟩:=List.mem_map.1 hf;have h3:=hr.2 q h2;have:=gaf h3.2 _ hmi;have:=h3.1;have:¬q.ID.toNat=(ms.getD i dSMember).ID.toNat:=by unfold I1000 at*;omega
     simpa[rawF]using this
   unfold g3d at hf;rw[List.filter_append,List.filter_append,noraw hra,noraw hrb,List.append_nil,List.append_nil,gb4 (gil hm) hla hi' rfl,gb4 (gil hm) hlb hi' rfl]at hf;by_cases oa:om (ms.getD i dSMember) (a.getD i dSValue)=true
   · by_cases ob:om (ms.getD i dSMember) (b.getD i dSValue)=true
     · unfold om at oa ob;simp only[Bool.and_eq_true,decide_eq_true_eq]at oa ob;rw[←oa.2,←ob.2]
     · rw[if_pos oa,if_neg ob]at hf;have:=hf.length_eq;simp at this
   · by_cases ob:om (ms.getD i dSMember) (b.getD i dSValue)=true
     · rw[if_neg oa,if_pos ob]at hf;have:=hf.length_eq;simp at this
     · rw[if_neg oa,if_neg ob]at hf;have:=List.perm_singleton.1 hf.symm;simp only[List.cons.injEq,Fd.mk.injEq,and_true,true_and]at this;exact ih i hi' this.symm
 · obtain⟨h1,h2⟩:=hra.2 x hx;exact rawmem hrb x h1 h2 (hp.mem_iff.1 (List.mem_append_right _ (List.mem_map_of_mem hx)))
 · obtain⟨h1,h2⟩:=hrb.2 x hx;exact rawmem hra x h1 h2 (hp.mem_iff.2 (List.mem_append_right _ (List.mem_map_of_mem hx)))
theorem gxs{ts:List SType}(H:SOk ts){a:SValue}(ha:OkV a) :∀{t:Int} {b:SValue},OkV b→wt a≤1099511627776→wt b≤1099511627776→vfit ts false t a→vfit ts false t b→vpay ts t a=vpay ts t b→a=b:=by
 induction ha with
 | mk a hs h1 h2 h3 hk hi hrd n1 n2 n3 n4 ihk ihi=>
   intro t b hb wa wb fa fb e;have hwa:=wt_eq a;have hwb:=wt_eq b;have hOb:=hb;cases hb with
   | mk _ gs g1 g2 g3 gk gi grd m1 m2 m3 m4=>
   have lI:∀x,x∈a.Items→∀t,(vpay ts t x).length < 18446744073709551616:=fun x hx t=>by have:=g83 H (hi x hx) (by have:=g2m hx;omega) t;omega
   have lK:∀x,x∈a.Keys→∀t,(vpay ts t x).length < 18446744073709551616:=fun x hx t=>by have:=g83 H (hk x hx) (by have:=g2m hx;omega) t;omega
   have kI:∀x,x∈b.Items→∀t,(vpay ts t x).length < 18446744073709551616:=fun x hx t=>by have:=g83 H (gi x hx) (by have:=g2m hx;omega) t;omega
   have kK:∀x,x∈b.Keys→∀t,(vpay ts t x).length < 18446744073709551616:=fun x hx t=>by have:=g83 H (gk x hx) (by have:=g2m hx;omega) t;omega
   have IHI:∀{t:Int} x,x∈a.Items→∀y,y∈b.Items→vfit ts false t x→vfit ts false t y→vpay ts t x=vpay ts t y→x=y:=fun x hx y hy f g=>ihi x hx (gi y hy) (by have:=g2m hx;omega) (by have:=g2m hy;omega) f g
   have IHK:∀{t:Int} x,x∈a.Keys→∀y,y∈b.Keys→vfit ts false t x→vfit ts false t y→vpay ts t x=vpay ts t y→x=y:=fun x hx y hy f g=>ihk x hx (gk y hy) (by have:=g2m hx;omega) (by have:=g2m hy;omega) f g
   obtain⟨⟨p1,p2,p3,_⟩,fa⟩:=(g7i _ _ _).1 fa;obtain⟨⟨_,_,q3,_⟩,fb⟩:=(g7i _ _ _).1 fb;have hj:t.toNat < ts.length:=by omega
   have hxm:=gg hj dSType;have hv1:=fun v=>@vpay1 ts t v
   have hv2:=fun v=>@vpay2 ts t v
   have hv3:=fun v=>@vpay3 ts t v
   have hv4:=fun v=>@vpay4 ts t v
   have hv5:=fun v=>@vpay5 ts t v
   have hv6:=fun v=>@vpay6 ts t v
   have hv7:=fun v=>@vpay7 ts t v
   have hv8:=fun v=>@vpay8 ts t v
   have hv9:=fun v=>@vpay9 ts t v
   have hA:=H.A _ hxm;have hS:=H.S _ hxm;have hT:=H.T _ hxm;generalize ts.getD t.toNat dSType=x at*;have fin:a.Kind=b.Kind→a.Bool_=b.Bool_→a.Int_=b.Int_→a.Str=b.Str→a.ID=b.ID→a.Keys=b.Keys→a.Items=b.Items→a.Rest=b.Rest→a=b:=by
     intro e1 e2 e3 e4 e5 e6 e7 e8;cases a;cases b;simp_all
   have ek:a.Kind=b.Kind:=p3.trans q3.symm;rcases fa with⟨k,c1,c2,c3,c4,c5,c6⟩ | ⟨k,c1,c2,c3,c4,c5,c6,c7,c8⟩ | ⟨k,c1,c2,c3,c4,c5,c6,c7⟩ | ⟨k,c1,c2,c3,c4,c5,c6,c7⟩ | ⟨k,c1,c2,c3,c4,c5,c6,c7⟩ | ⟨k,c1,c2,c3,c4,c5⟩ | ⟨k,c1,c2,c3,c4,c5,c6,c7,c8⟩ | ⟨k,c1,c2,c3,c4,c5,c6,c7,c8,c9,c10⟩ | ⟨k,c1,c2,c3,c4,c5,c6,c7,c8⟩ <;>
   rcases fb with⟨l,d1,d2,d3,d4,d5,d6⟩ | ⟨l,d1,d2,d3,d4,d5,d6,d7,d8⟩ | ⟨l,d1,d2,d3,d4,d5,d6,d7⟩ | ⟨l,d1,d2,d3,d4,d5,d6,d7⟩ | ⟨l,d1,d2,d3,d4,d5,d6,d7⟩ | ⟨l,d1,d2,d3,d4,d5⟩ | ⟨l,d1,d2,d3,d4,d5,d6,d7,d8⟩ | ⟨l,d1,d2,d3,d4,d5,d6,d7,d8,d9,d10⟩ | ⟨l,d1,d2,d3,d4,d5,d6,d7,d8⟩ <;>
   (first | (exfalso;omega) | skip) <;> have kx:=p3.symm.trans k
   · rw[hv1 _ kx,hv1 _ kx]at e;refine fin ek ?_ (c1.trans d1.symm) (c2.trans d2.symm) (c3.trans d3.symm) (c4.trans d4.symm) (c5.trans d5.symm) (c6.trans d6.symm);cases ha:a.Bool_ <;> cases hb:b.Bool_ <;> simp[ha,hb]at e ⊢
   · rw[hv2 _ kx,hv2 _ kx]at e;have:=gqk e;refine fin ek (c1.trans d1.symm) (gmq ?_) (c2.trans d2.symm) (c3.trans d3.symm) (c4.trans d4.symm) (c5.trans d5.symm) (c6.trans d6.symm);have z1:0≤zig a.Int_:=by unfold zig;split <;> omega
     have z2:0≤zig b.Int_:=by unfold zig;split <;> omega
     omega
   · rw[hv3 _ kx,hv3 _ kx]at e;exact fin ek (c1.trans d1.symm) (c2.trans d2.symm) e (c3.trans d3.symm) (c4.trans d4.symm) (c5.trans d5.symm) (c6.trans d6.symm)
   · rw[hv4 _ kx,hv4 _ kx]at e;have:=gqk e;refine fin ek (c1.trans d1.symm) (c2.trans d2.symm) (c3.trans d3.symm) ?_ (c4.trans d4.symm) (c5.trans d5.symm) (c6.trans d6.symm);have key:∀{v:SValue},((∃y,y∈x.Symbols∧y.ID=v.ID)∨x.Open=true∧false=false∧I1000 v.ID)→I1000 v.ID:=by
       rintro v (⟨y,hy,he⟩ | ⟨_,_,he⟩)
       · rw[←he];exact hS kx y hy
       · exact he
     have i1:=key c7;have i2:=key d7;unfold I1000 at i1 i2;omega
   · rw[hv5 _ kx,hv5 _ kx]at e;obtain⟨hma,hm16⟩:=hA (.inl kx);obtain⟨hil,hip⟩:=g6t.1 c7;obtain⟨hjl,hjp⟩:=g6t.1 d7;have ok:∀{l:List SValue} {r:List SRaw},(∀y,y∈l→∀t,(vpay ts t y).length < 18446744073709551616)→g6c x.Members r→(∀y,y∈r→y.Data.length≤reachBytes)→∀f,f∈g3d ts x.Members l r→FdOk f:=by
       intro l r hl hr hd f hf;refine⟨(gif hma hr hf).2,?_⟩;rcases List.mem_append.1 hf with h | h
       · exact ggm hl f h
       · obtain⟨q,h2,rfl⟩:=List.mem_map.1 h;have:=hd q h2;show q.Data.length < _;unfold reachBytes at this;omega
     obtain⟨e1,e2⟩:=gyv hma c6 d6 hil hjl (ok lI c6 hrd) (ok kI d6 grd) (fun i hi=>IHI _ (gg (by omega) _) _ (gg (by omega) _) (hip i hi) (hjp i hi)) e;exact fin ek (c1.trans d1.symm) (c2.trans d2.symm) (c3.trans d3.symm) (c4.trans d4.symm) (c5.trans d5.symm) e1 e2
   · rw[hv6 _ kx,hv6 _ kx]at e;obtain⟨hma,hm16⟩:=hA (.inr kx)
     have key : ∀ {v : SValue}, (match findM x.Members v.ID with
         | some m=>v.Rest=[]∧v.Items.length=1∧vfits ts false m.Type_ v.Items
         | none=>x.Open=true∧false=false∧I1000 v.ID∧v.Items=[]∧∃d,v.Rest=[⟨v.ID,d⟩])→I1000 v.ID:=by
       intro v h;split at h
       · rename_i m hf;have h1:=List.mem_of_find?_eq_some hf;have h2:=List.find?_some hf;simp only[decide_eq_true_eq]at h2;rw[←h2];exact hma.2 m h1
       · exact h.2.2.1
     have i1:=key c5;have i2:=key d5;have j1:=i1;have j2:=i2;unfold I1000 at j1 j2;obtain⟨e1,e2⟩:=gk8 (by omega) (by omega) e;have eid:a.ID=b.ID:=by omega
     rw[eid]at c5 e2;cases hf:findM x.Members b.ID with
     | some m=>
       simp only[hf]at c5 d5 e2;obtain⟨r1,r2,r3⟩:=c5;obtain⟨s1,s2,s3⟩:=d5;obtain⟨y,hy⟩:∃y,a.Items=[y]:=List.length_eq_one_iff.1 r2;obtain⟨z,hz⟩:∃y,b.Items=[y]:=List.length_eq_one_iff.1 s2;rw[hy,hz,vpays,vpays]at e2
       have:=IHI y (by rw[hy];exact .head _) z (by rw[hz];exact .head _) (g1d.1 r3 y (by rw[hy];exact .head _)) (g1d.1 s3 z (by rw[hz];exact .head _)) e2;exact fin ek (c1.trans d1.symm) (c2.trans d2.symm) (c3.trans d3.symm) eid (c4.trans d4.symm) (by rw[hy,hz,this]) (r1.trans s1.symm)
     | none=>
       simp only[hf]at c5 d5 e2;obtain⟨_,_,_,r1,d,r2⟩:=c5;obtain⟨_,_,_,s1,d',s2⟩:=d5;rw[r2,s2]at e2;have e2:d=d':=e2;exact fin ek (c1.trans d1.symm) (c2.trans d2.symm) (c3.trans d3.symm) eid (c4.trans d4.symm) (r1.trans s1.symm) (by rw[r2,s2,e2])
   · rw[hv7 _ kx,hv7 _ kx]at e;have hf:=g1d.1 c8;have hg:=g1d.1 d8;have e1:=gqi (fun y hy=>by rw[gbi]at hy;obtain⟨z,hz,rfl⟩:=List.mem_map.1 hy;exact lI z hz _) (fun y hy=>by rw[gbi]at hy;obtain⟨z,hz,rfl⟩:=List.mem_map.1 hy;exact kI z hz _) e
     exact fin ek (c1.trans d1.symm) (c2.trans d2.symm) (c3.trans d3.symm) (c4.trans d4.symm) (c5.trans d5.symm) (ge2 (fun y hy z hz=>IHI y hy z hz (hf y hy) (hg z hz)) e1) (c6.trans d6.symm)
   · rw[hv8 _ kx,hv8 _ kx]at e;have hf:=g1d.1 c9;have hg:=g1d.1 d9;have hfk:=g1d.1 c8;have hgk:=g1d.1 d8;have lp:∀{l:List SValue} {t:Int},(∀y,y∈l→∀t,(vpay ts t y).length < 18446744073709551616)→∀y,y∈vpays ts t l→y.length < 18446744073709551616:=fun hl y hy=>by rw[gbi]at hy;obtain⟨z,hz,rfl⟩:=List.mem_map.1 hy;exact hl z hz _
     obtain⟨e1,e2⟩:=gsj (lp lK) (lp lI) (lp kK) (lp kI) (by rw[g8j,g8j];omega) (by rw[g8j,g8j];omega) e;exact fin ek (c1.trans d1.symm) (c2.trans d2.symm) (c3.trans d3.symm) (c4.trans d4.symm) (ge2 (fun y hy z hz=>IHK y hy z hz (hfk y hy) (hgk z hz)) e1) (ge2 (fun y hy z hz=>IHI y hy z hz (hf y hy) (hg z hz)) e2) (c5.trans d5.symm)
   · rw[hv9 _ kx,hv9 _ kx]at e;have hf:=g1d.1 c8;have hg:=g1d.1 d8;refine fin ek (c1.trans d1.symm) (c2.trans d2.symm) (c3.trans d3.symm) (c4.trans d4.symm) (c5.trans d5.symm) ?_ (c6.trans d6.symm)
     match hI:a.Items,hJ:b.Items,c7,d7 with
     | [],[],_,_=>rfl
     | [],z::_,_,_=>rw[hI,hJ,vpays,vpays]at e;cases e
     | y::_,[],_,_=>rw[hI,hJ,vpays,vpays]at e;cases e
     | [y],[z],_,_=>
       rw[hI,hJ,vpays,vpays]at e;injection e with _ e;rw[IHI y (by rw[hI];exact .head _) z (by rw[hJ];exact .head _) (hf y (by rw[hI];exact .head _)) (hg z (by rw[hJ];exact .head _)) e]
     | _::_::_,_,h,_=>simp at h
     | [_],_::_::_,_,h=>simp at h
end
section
open Go Go.Proofs.YthnmepafpikaiaaGreat.Shv Go.Sort
set_option maxRecDepth 100000
set_option linter.all false
end
section
open Go Go.Proofs.YthnmepafpikaiaaGreat.Shv Go.Sort
set_option maxRecDepth 100000
def FitW(ts:List SType)(t:Int)(v:SValue) :Prop:=vfit ts false t v∧OkV v∧wt v≤2147483648
theorem gm6 {ts : List SType} (H : DrOk ts) {t : Int} {v : SValue} (hv : FitW ts t v) :
   g6h ((⟨ts⟩:SSchema),t,v)=some (encA ts t v)∧g8h ((⟨ts⟩:SSchema),t,v)=some (encA ts t v)∧geh ((⟨ts⟩:SSchema),t,v)=some (((vpay ts t v).length:Int),0):=by
 obtain⟨e1,e2⟩:=guc H.T H.V hv.2.1 hv.1;have hw:=hv.2.2;obtain⟨a1,a2,a3,_⟩:=gwm (s:=⟨ts⟩) (H.V.sok H.T) hv.2.1 (by omega) hv.1 e1 e2;exact⟨a1,a2,a3⟩
end
section
open Go Go.Proofs.YthnmepafpikaiaaGreat.Shv Go.Sort
set_option maxRecDepth 100000
theorem gud{a:SValue}(h:OkV a)(b:SValue) :Says (g75 (a,b)) a b:=by
 obtain⟨r,h1,h2⟩:=gik h b;refine⟨r,?_,h2⟩;rw[g75];simp only[SValue.gq];rw[h1];rfl
theorem gyw{ts:List SType}(H:DrOk ts){t:Int}{a b:SValue}(ha:FitW ts t a)(hb:FitW ts t b)(h1:(encA ts t a).2=0)(h2:(encA ts t b).2=0) :(encA ts t a).1=(encA ts t b).1↔a=b:=by
 constructor
 · unfold encA at h1 h2 ⊢;by_cases A:4096 < (vpay ts t a).length∨200 < vlev ts t a
   · rw[if_pos A]at h1;cases h1
   · by_cases B:4096 < (vpay ts t b).length∨200 < vlev ts t b
     · rw[if_pos B]at h2;cases h2
     · rw[if_neg A,if_neg B];intro e;have:=ha.2.2;have:=hb.2.2;exact gxs (H.V.sok H.T) ha.2.1 hb.2.1 (by omega) (by omega) ha.1 hb.1 e
 · intro e;rw[e]
theorem gwv{ts:List SType}(H:DrOk ts){t n4:Int}{l:List SValue}(hl:∀v,v∈l→FitW ts t v)(hn:l.length≤1000){i:Nat}(hi:i < l.length) :∀(k j:Nat),j+k=i→g18 (t,(i:Int),n4,(i:Int),(i:Int),(j:Int),ts,l)=some (.inr (t,n4,(i:Int),ts,l))
 | 0,j,hj=>by
   rw[g18,if_neg (by simp;omega)]
 | k+1,j,hj=>by
   have hjl:j < l.length:=by omega
   have ha:=hl _ (gg hi dSValue);have hb:=hl _ (gg hjl dSValue);obtain⟨a1,_,_⟩:=gm6 H ha;obtain⟨b1,_,_⟩:=gm6 H hb;obtain⟨r,r1,r2⟩:=gud ha.2.1 (l.getD j dSValue);have key:=gyw H ha hb;have next:g18 (t,(i:Int),n4,(i:Int),(i:Int),addI .i64 (j:Int) 1,ts,l)=some (.inr (t,n4,(i:Int),ts,l)):=by
     rw[gj (by omega)];exact gwv H hl hn hi k (j+1) (by omega)
   rw[g18,if_pos (by simp;omega),if_pos (g6 hi),if_pos (by simp;omega)];simp only[g7,SValue.gq];rw[a1];simp only[oZ4,oZ3];rw[if_pos (g6 hjl),if_pos (by simp;omega),b1];simp only[oZ3];rw[if_pos (by simp[g6 hi]),if_pos (by simp[hi]),if_pos (by simp[g6 hjl]),if_pos (by simp[hjl]),r1];generalize encA ts t (l.getD i dSValue)=A at*
   generalize encA ts t (l.getD j dSValue)=B at*;by_cases hA:A.2=0
   · by_cases hB:B.2=0
     · have key:=key hA hB;have he:decide (A.1=B.1)=r:=by
         rw[Bool.eq_iff_iff,decide_eq_true_eq,key,r2]
       rw[he];simp only[hA,hB,decide_true,cond_true,if_true,oZ3];rw[if_neg (by cases r <;> simp[eqB])];exact next
     · simp only[hA,hB,decide_true,decide_false,cond_true,Bool.false_eq_true,if_false,oZ3,cond_false];exact next
   · simp only[hA,decide_false,cond_false,Bool.false_eq_true,if_false,oZ3];exact next
theorem gql{ts:List SType}(H:DrOk ts){t:Int}{l:List SValue}(hl:∀v,v∈l→FitW ts t v)(hn:l.length≤1000) :∀(k i:Nat),i+k=l.length→g1m (t,(l.length:Int),(i:Int),ts,l)=some (.inr ())
 | 0,i,hi=>by
   rw[g1m,if_neg (by simp;omega)]
 | k+1,i,hi=>by
   have hlt:i < l.length:=by omega
   have h0:=gwv H (n4:=(l.length:Int)) hl hn hlt i 0 (by omega);have h0':g18 (t,(i:Int),(l.length:Int),(i:Int),(i:Int),0,ts,l)=_:=h0;rw[g1m,if_pos (by simp;omega),h0'];simp only[oZ4,oZ3];rw[gj (by omega)];exact gql H hl hn k (i+1) (by omega)
structure TwIn (x:Sheavelaw09Two):Prop where
 d:DrIn x.D
 c:CU8 x.C
 l:x.C.length≤reachBytes
theorem goa{x:Sheavelaw09Two}(hx:TwIn x) :g4d x=some true:=by
 rw[g4d];show(g63 x.D >>=_)=_;rcases of8 hx.d with⟨s,t,v,w,h⟩ | ⟨ts,t,v,w,h,H,ht,⟨hv1,hv2,hv3⟩,hw⟩
 · rw[h,g9o];rfl
 · obtain⟨v',e1,f1,f2,f3⟩:=gsg H ht hx.c hx.l;obtain⟨w',e2,hw'⟩:=gm5 H ht hx.c hx.l;rw[h,g9o];simp only[oZ4,oZ3,SValue.gq];rw[if_neg (by simp),e1];simp only[oZ3];rw[e2];simp only[oZ3]
   have hm:=gql H (l:=[v,w,v',w']) (fun x hx=>by
     rcases List.mem_cons.1 hx with rfl | hx
     · exact⟨gk7 hv1 false,hv2,hv3⟩
     · rcases List.mem_cons.1 hx with rfl | hx
       · exact hw
       · rcases List.mem_cons.1 hx with rfl | hx
         · exact⟨gk7 f1 false,f2,f3⟩
         · rcases List.mem_cons.1 hx with rfl | hx
           · exact hw'
           · cases hx) (by simp) 4 0 (by simp)
   have hm':g1m (t,4,0,ts,[v,w,v',w'])=some (.inr ()):=hm;rw[hm'];rfl
theorem okTwo{x:Sheavelaw09Two}(h:∀c,c∈Un.flds ixSheavelaw09Two x→WF Un c) :TwIn x:=by
 have c4:=h ⟨.slice (.int .u8),x.C⟩ (.tail _ (.tail _ (.tail _ (.head _))));obtain⟨a,_,c⟩:=ggh (t:= .int .u8) c4;have u8:∀{n:Int},WF Un ⟨.int .u8,n⟩→U8 n:=fun {n} h=>by
   cases h with
   | int k n h=>
     simp[Lit.wf,IntKind.min,IntKind.max,IntKind.bits,IntKind.signed]at h;unfold U8;omega
 have c1:=h ⟨.slice (.nm ixSheaveref07Node),x.D.S.Nodes⟩ (.head _);have c2:=h ⟨.int .u8,x.D.T⟩ (.tail _ (.head _));have c3:=h ⟨.slice (.int .u8),x.D.C⟩ (.tail _ (.tail _ (.head _)));obtain⟨a',_,c'⟩:=ggh (t:= .int .u8) c3;have hd:DrIn x.D:=⟨gyt c1,u8 c2,fun n hn=>u8 (c' n hn ⟨.int .u8,n⟩ (.head _)),a'⟩
 exact⟨hd,fun n hn=>u8 (c n hn ⟨.int .u8,n⟩ (.head _)),a⟩
theorem law_EncodeDifferent(h:Hs Un.D [.nm ixSheavelaw09Two])(hk:Ok Un [.nm ixSheavelaw09Two] h) :g4d h=some true:=goa (okTwo (okOne hk))
end
end Go.Proofs.YthnmepafpikaiaaGreat
