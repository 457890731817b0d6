/- The functions of the program as functions of Lean, that its code does what they say, and what they answer; part B. -/
import Derived.Test.YthnmepafpikaiaaGreatElA

namespace Go.Proofs.YthnmepafpikaiaaGreat
set_option linter.all false
section
open Go Go.Proofs.YthnmepafpikaiaaGreat.Shv
set_option maxRecDepth 100000
theorem gab {γ : Type} (L : Nat → Option γ) (n : Nat) (q : Nat → Bool) (hit : Nat → γ) (miss : γ) (hstep : ∀ i, i < n → L i = if q i = true then some (hit i) else L (i + 1)) (hend : L n = some miss) :
   (∃j,j < n∧q j=true∧(∀k,k < j→q k=false)∧L 0=some (hit j))∨((∀k,k < n→q k=false)∧L 0=some miss):=by
 have key:∀k i,i+k=n→(∀m,m < i→q m=false)→L 0=L i→(∃j,j < n∧q j=true∧(∀k,k < j→q k=false)∧L 0=some (hit j))∨((∀k,k < n→q k=false)∧L 0=some miss):=by
   intro k
   induction k with
   | zero => intro i hi hm h0; have : i = n := by omega
             subst this;exact .inr ⟨hm,by rw[h0,hend]⟩
   | succ k ih=>
     intro i hi hm h0;rw[hstep i (by omega)]at h0;cases hq:q i with
     | true=>rw[hq,if_pos rfl]at h0;exact .inl ⟨i,by omega,hq,hm,h0⟩
     | false=>
       rw[hq,if_neg (by simp)]at h0;refine ih (i+1) (by omega) (fun m hm'=>?_) h0;rcases Nat.lt_or_ge m i with h | h
       · exact hm m h
       · have:m=i:=by omega
         subst this;exact hq
 exact key n 0 (by omega) (fun m hm=>by omega) rfl
def gdz(l:List SMember)(id:Int)(r:Int × Bool) :Prop:=(∃j:Nat,j < l.length∧(l.getD j dSMember).ID=id∧(∀k,k < j→(l.getD k dSMember).ID≠id)∧r=((j:Int),true))∨((∀k,k < l.length→(l.getD k dSMember).ID≠id)∧r=(0,false))
theorem gpp{l:List SMember}{id:Int}{r q:Int × Bool}(h1:gdz l id r)(h2:gdz l id q) :r=q:=by
 rcases h1 with⟨j,a1,a2,a3,rfl⟩ | ⟨a1,rfl⟩ <;> rcases h2 with⟨k,b1,b2,b3,rfl⟩ | ⟨b1,rfl⟩
 · have:j=k:=by
     rcases Nat.lt_trichotomy j k with h | h | h
     · exact absurd a2 (b3 j h)
     · exact h
     · exact absurd b2 (a3 k h)
   rw[this]
 · exact absurd a2 (b1 j a1)
 · exact absurd b2 (a1 k b1)
 · rfl
theorem gl5{t:SType}{id:Int}(hl:t.Members.length < 9223372036854775807) :∃r,g1z (t,id)=some r∧gdz t.Members id r:=by
 rw[g1z,g37];have h:=gab (fun i=>gn (t.Members,(t.Members.length:Int),(i:Int),id)) t.Members.length (fun i=>decide ((t.Members.getD i dSMember).ID=id)) (fun i=>.inl ((i:Int),id)) (.inr id)
   (fun i hi=>by
     rw[gn,if_pos (by simp;omega),if_pos (g6 hi)];simp only[oZ4,oZ3,gb,g6l,g8z]
     rw[gg (by omega)])
   (by rw[gn,if_neg (by simp)])
 have e0:gn (t.Members,(t.Members.length:Int),((0:Nat):Int),id)=gn (t.Members,(t.Members.length:Int),0,id):=rfl;simp only[e0]at h;rcases h with⟨j,h1,h2,h3,h4⟩ | ⟨h1,h4⟩
 · rw[h4];refine⟨((j:Int),true),?_,.inl ⟨j,h1,by simpa using h2,fun k hk=>by simpa using h3 k hk,rfl⟩⟩;have e1:maxI (j:Int) 0=(j:Int):=by unfold maxI;omega
   have e2:decide ((0:Int)≤(j:Int))=true:=by simp
   simp only[oZ4,oZ3,e1,e2]
 · rw[h4];exact⟨(0,false),rfl,.inr ⟨fun k hk=>by simpa using h1 k hk,rfl⟩⟩
theorem gl6{t:SType}{id:Int}(hl:t.Members.length < 9223372036854775807) :∃r,g1j (t,id)=some r∧gdz t.Members id r:=by
 rw[g1j];have h:=gab (fun i=>g2p (id,(i:Int),t)) t.Members.length (fun i=>decide ((t.Members.getD i dSMember).ID=id)) (fun i=>.inl ((i:Int),true)) (.inr ())
   (fun i hi=>by
     rw[g2p,if_pos (by simp;omega),if_pos (g6 hi),gg (by omega)]
     simp only[gb])
   (by rw[g2p,if_neg (by simp)])
 have e0:g2p (id,((0:Nat):Int),t)=g2p (id,0,t):=rfl;simp only[e0]at h;rcases h with⟨j,h1,h2,h3,h4⟩ | ⟨h1,h4⟩
 · rw[h4];exact⟨((j:Int),true),rfl,.inl ⟨j,h1,by simpa using h2,fun k hk=>by simpa using h3 k hk,rfl⟩⟩
 · rw[h4];exact⟨(0,false),rfl,.inr ⟨fun k hk=>by simpa using h1 k hk,rfl⟩⟩
theorem g45{t:SType}(id:Int)(hl:t.Members.length < 9223372036854775807) :∃r,g1z (t,id)=some r∧g1j (t,id)=some r∧gdz t.Members id r:=by
 obtain⟨r,h1,h2⟩:=gl5 (id:=id) hl;obtain⟨q,h3,h4⟩:=gl6 (id:=id) hl;have:=gpp h2 h4;subst this;exact⟨r,h1,h3,h2⟩
def ge0(l:List SSymbol)(id:Int)(r:Int × Bool) :Prop:=(∃j:Nat,j < l.length∧(l.getD j dSSymbol).ID=id∧(∀k,k < j→(l.getD k dSSymbol).ID≠id)∧r=((j:Int),true))∨((∀k,k < l.length→(l.getD k dSSymbol).ID≠id)∧r=(0,false))
theorem gpq{l:List SSymbol}{id:Int}{r q:Int × Bool}(h1:ge0 l id r)(h2:ge0 l id q) :r=q:=by
 rcases h1 with⟨j,a1,a2,a3,rfl⟩ | ⟨a1,rfl⟩ <;> rcases h2 with⟨k,b1,b2,b3,rfl⟩ | ⟨b1,rfl⟩
 · have:j=k:=by
     rcases Nat.lt_trichotomy j k with h | h | h
     · exact absurd a2 (b3 j h)
     · exact h
     · exact absurd b2 (a3 k h)
   rw[this]
 · exact absurd a2 (b1 j a1)
 · exact absurd b2 (a1 k b1)
 · rfl
theorem ghx{t:SType}(id:Int)(hl:t.Symbols.length < 9223372036854775807) :∃r,g6p (t,id)=some r∧g7d (t,id)=some r∧ge0 t.Symbols id r:=by
 rw[g6p,g36,g7d];have h:=gab (fun i=>gi (t.Symbols,(t.Symbols.length:Int),(i:Int),id)) t.Symbols.length (fun i=>decide ((t.Symbols.getD i dSSymbol).ID=id)) (fun i=>.inl ((i:Int),id)) (.inr id)
   (fun i hi=>by
     rw[gi,if_pos (by simp;omega),if_pos (g6 hi)];simp only[oZ4,oZ3,gb,g8x]
     rw[gg (by omega)])
   (by rw[gi,if_neg (by simp)])
 have e0:gi (t.Symbols,(t.Symbols.length:Int),((0:Nat):Int),id)=gi (t.Symbols,(t.Symbols.length:Int),0,id):=rfl;have g:=gab (fun i=>g23 (id,(i:Int),t)) t.Symbols.length (fun i=>decide ((t.Symbols.getD i dSSymbol).ID=id)) (fun i=>.inl ((i:Int),true)) (.inr ())
   (fun i hi=>by
     rw[g23,if_pos (by simp;omega),if_pos (g6 hi),gg (by omega)]
     simp only[gb])
   (by rw[g23,if_neg (by simp)])
 have g0:g23 (id,((0:Nat):Int),t)=g23 (id,0,t):=rfl;simp only[e0]at h;simp only[g0]at g;have hA:∃r,(gi (t.Symbols,(t.Symbols.length:Int),0,id) >>=fun o=>match o with | .inl o_1=>some (o_1.1,o_1.2) | .inr o_2=>some ((-1),o_2)) >>=(fun r=>some (maxI r.1 0,decide (0≤r.1)))=some r∧ge0 t.Symbols id r:=by
   rcases h with⟨j,h1,h2,h3,h4⟩ | ⟨h1,h4⟩
   · rw[h4];refine⟨((j:Int),true),?_,.inl ⟨j,h1,by simpa using h2,fun k hk=>by simpa using h3 k hk,rfl⟩⟩;have e1:maxI (j:Int) 0=(j:Int):=by unfold maxI;omega
     have e2:decide ((0:Int)≤(j:Int))=true:=by simp
     simp only[oZ4,oZ3,e1,e2]
   · rw[h4];exact⟨(0,false),rfl,.inr ⟨fun k hk=>by simpa using h1 k hk,rfl⟩⟩
 have hB:∃r,(g23 (id,0,t) >>=fun o=>match o with | .inl o_1=>some (o_1.1,o_1.2) | .inr o_2=>some (0,false))=some r∧ge0 t.Symbols id r:=by
   rcases g with⟨j,h1,h2,h3,h4⟩ | ⟨h1,h4⟩
   · rw[h4];exact⟨((j:Int),true),rfl,.inl ⟨j,h1,by simpa using h2,fun k hk=>by simpa using h3 k hk,rfl⟩⟩
   · rw[h4];exact⟨(0,false),rfl,.inr ⟨fun k hk=>by simpa using h1 k hk,rfl⟩⟩
 obtain⟨r,a1,a2⟩:=hA;obtain⟨q,b1,b2⟩:=hB;have:=gpq a2 b2;subst this;exact⟨r,a1,b1,a2⟩
end
section
open Go Go.Proofs.YthnmepafpikaiaaGreat.Shv
set_option maxRecDepth 100000
def zig(n:Int) :Int:=if 0≤n then 2*n else -2*n - 1
theorem gwq{a b:Int}(h:zig a=zig b) :a=b:=by
 unfold zig at h;split at h <;> split at h <;> omega
def I64(n:Int) :Prop:= -9223372036854775808≤n∧n≤9223372036854775807
theorem gom{n:Int}(h:I64 n) :g4p n=some (zig n):=by
 obtain⟨h1,h2⟩:=h;rw[g4p];unfold zig;by_cases h0:0≤n
 · rw[if_pos (by simp[h0]),if_pos h0];obtain⟨k,rfl⟩:∃k:Nat,n=(k:Int):=⟨n.toNat,by omega⟩
   rw[wrpn (by omega)];have:=mulIn (a:=2) (b:=k) (by omega)
   congr 1
   try omega
 · rw[if_neg (by simp[h0]),if_neg h0];rw[gnz (by omega) (by omega),gji (by omega) (by omega)];obtain⟨k,hk⟩:∃k:Nat,0 - (n+1)=(k:Int):=⟨(0 - (n+1)).toNat,by omega⟩
   rw[hk,wrpn (by omega)];have h3:=mulIn (a:=2) (b:=k) (by omega);have h3':mulI .u64 2 (k:Int)=((2*k:Nat):Int):=h3;rw[h3'];have h4:=addIn (a:=2*k) (b:=1) (by omega);have h4':addI .u64 ((2*k:Nat):Int) 1=((2*k+1:Nat):Int):=h4;rw[h4']
   congr 1
   omega
theorem gvp(a:Nat)(h:a < 18446744073709551616) :xorI .u64 (a:Int) 0=(a:Int):=by
 have e:(BitVec.ofInt 64 (a:Int) ^^^ BitVec.ofInt 64 (0:Int)).toNat=a:=by
   have:BitVec.ofInt 64 (0:Int)=BitVec.ofNat 64 0:=by decide
   rw[this,BitVec.ofInt_natCast,BitVec.toNat_xor,BitVec.toNat_ofNat,BitVec.toNat_ofNat,two64,Nat.mod_eq_of_lt h];simp
 show IntKind.u64.wrap (((BitVec.ofInt 64 (a:Int) ^^^ BitVec.ofInt 64 (0:Int)).toNat:Nat):Int)=_;rw[e];exact wrapu (by omega) (by omega)
theorem gvq(a:Nat)(h:a < 18446744073709551616) :xorI .u64 (a:Int) 18446744073709551615=((18446744073709551615 - a:Nat):Int):=by
 have e:(BitVec.ofInt 64 (a:Int) ^^^ BitVec.ofInt 64 (18446744073709551615:Int)).toNat=18446744073709551615 - a:=by
   have h1:BitVec.ofInt 64 (18446744073709551615:Int)=BitVec.allOnes 64:=by decide
   rw[h1,BitVec.ofInt_natCast,BitVec.xor_allOnes,BitVec.toNat_not,BitVec.toNat_ofNat,two64,Nat.mod_eq_of_lt h]
 all_goals (try omega)
 show IntKind.u64.wrap (((BitVec.ofInt 64 (a:Int) ^^^ BitVec.ofInt 64 (18446744073709551615:Int)).toNat:Nat):Int)=_;rw[e];exact wrapu (by omega) (by omega)
theorem shr63{n:Int}(h:I64 n) :shrI .i64 n 63=if 0≤n then 0 else -1:=by
 obtain⟨h1,h2⟩:=h;unfold shrI;have e:((2:Int) ^ min (63:Int).toNat IntKind.i64.bits)=9223372036854775808:=by decide
 rw[e,Int.fdiv_eq_ediv_of_nonneg _ (by omega)];split <;> omega
theorem gon{n:Int}(h:I64 n) :g5f n=some (zig n):=by
 rw[g5f,shr63 h];obtain⟨h1,h2⟩:=h;unfold zig;have hs:∀m:Int,shlI .u64 m 1=IntKind.u64.wrap (m*2):=by
   intro m;unfold shlI;have e:((2:Int) ^ min (1:Int).toNat IntKind.u64.bits)=2:=by decide
   rw[e]
 rw[hs]
 congr 1
 by_cases h0:0≤n
 · rw[if_pos h0,if_pos h0];obtain⟨k,rfl⟩:∃k:Nat,n=(k:Int):=⟨n.toNat,by omega⟩
   rw[wrpn (by omega),wrapu (by omega) (by omega)];have:wrp .u64 0=0:=by decide
   rw[this];have:=gvp (2*k) (by omega);have e:((k:Int)*2)=((2*k:Nat):Int):=by omega
   rw[e,this];omega
 · rw[if_neg h0,if_neg h0];have:wrp .u64 (-1)=18446744073709551615:=by decide
   rw[this];obtain⟨k,hk⟩:∃k:Nat,n+9223372036854775808=(k:Int):=⟨(n+9223372036854775808).toNat,by omega⟩
   have e:IntKind.u64.wrap (wrp .u64 n*2)=((2*k:Nat):Int):=by
     unfold wrp;rw[IntKind.wrap_u64,IntKind.wrap_u64];omega
   rw[e,gvq _ (by omega)];omega
theorem cmp1(a b:Int) :g9w (a,b)=some (if a < b then -1 else if b < a then 1 else 0):=by
 rw[g9w];simp only[gch,oZ4,oZ3,decide_true,Bool.not_true,Bool.false_eq_true,if_false];by_cases h1:a < b <;> by_cases h2:b < a <;> simp[h1,h2]
theorem cmp2(a b:Int) :g6r (a,b)=some (if a < b then -1 else if b < a then 1 else 0):=by
 rw[g6r];simp only[g9x,oZ4,oZ3,decide_true,Bool.not_true,Bool.false_eq_true,if_false];by_cases h1:a < b <;> by_cases h2:b < a <;> simp[h1,h2]
theorem cmp3(a b:List UInt8) :g85 (a,b)=some (if Op.bytesLess a b=true then -1 else if(Op.bytesLess a b || decide (a=b))=true then 0 else 1):=by
 rw[g85];simp only[g9y,oZ4,oZ3,decide_true,Bool.not_true,Bool.false_eq_true,if_false];cases Op.bytesLess a b with
 | true=>rfl
 | false=>cases decide (a=b) <;> rfl
theorem or2(a b:Int) :gjs [a,b]=some (if a≠0 then a else b):=by
 rw[gjs];have h0:g50 (0,[a,b],((2:Nat):Int),((0:Nat):Int))=if a≠0 then some (.inl a)else(if b≠0 then some (.inl b)else some (.inr 0)):=by
   rw[g50,if_pos (by decide),if_pos (show inR ((0:Nat):Int) ([a,b]:List Int).length=true from g6 (k:=0) (n:=2) (by omega))];simp only[oZ4,oZ3,gb,List.getD_cons_zero];by_cases ha:a=0
   · rw[if_neg (by simp[ha]),if_neg (by simp[ha])];have e1:addI .i64 ((0:Nat):Int) 1=((1:Nat):Int):=gg (by omega);rw[e1,g50,if_pos (by decide),if_pos (show inR ((1:Nat):Int) ([a,b]:List Int).length=true from g6 (k:=1) (n:=2) (by omega))];simp only[oZ4,oZ3,gb,List.getD_cons_succ,List.getD_cons_zero];by_cases hb:b=0
     · rw[if_neg (by simp[hb]),if_neg (by simp[hb])];have e2:addI .i64 ((1:Nat):Int) 1=((2:Nat):Int):=gg (by omega);rw[e2,g50,if_neg (by decide)]
     · rw[if_pos (by simp[hb]),if_pos hb]
   · rw[if_pos (by simp[ha]),if_pos ha]
 have h1:g50 (0,[a,b],(([a,b]:List Int).length:Int),0)=g50 (0,[a,b],((2:Nat):Int),((0:Nat):Int)):=rfl;rw[h1,h0];by_cases ha:a=0
 · by_cases hb:b=0 <;> simp[ha,hb]
 · simp[ha]
theorem gf6 :∀a:List UInt8,Op.bytesLess a a=false
 | []=>rfl
 | x::r=>by
   simp[Op.bytesLess,gf6 r]
theorem ggn{a b:SValue}(ha:I64 a.Int_)(hb:I64 b.Int_) :∃r,g4q (a,b)=some r∧g5b (a,b)=some r:=by
 rw[g4q,g5b];by_cases hk:a.Kind=b.Kind
 · rw[if_neg (show ¬((!(decide (a.Kind=b.Kind)))=true) by simp[hk]),if_neg (show ¬((!(decide (a.Kind=b.Kind)))=true) by simp[hk])];by_cases k1:a.Kind=1
   · rw[if_pos (show decide (a.Kind=1)=true by simp[k1]),if_pos (show decide (a.Kind=1)=true by simp[k1])];simp only[g2k];cases eqB a.Bool_ b.Bool_ <;> cases b.Bool_ <;> exact⟨_,rfl,rfl⟩
   · rw[if_neg (show ¬(decide (a.Kind=1)=true) by simp[k1]),if_neg (show ¬(decide (a.Kind=1)=true) by simp[k1])];by_cases k2:a.Kind=2
     · rw[if_pos (show decide (a.Kind=2)=true by simp[k2]),if_pos (show decide (a.Kind=2)=true by simp[k2]),gon ha,gon hb,gom ha,gom hb];simp only[oZ4,oZ3,cmp1,g2k];by_cases he:a.Int_=b.Int_
       · rw[he];exact⟨0,by simp,by simp⟩
       · have hne:zig a.Int_≠zig b.Int_:=fun h=>he (gwq h)
         rcases Int.lt_or_gt_of_ne hne with h | h
         · exact⟨-1,by simp[h],by simp[h,he]⟩
         · have:¬zig a.Int_ < zig b.Int_:=by omega
           exact⟨1,by simp[h,this],by simp[h,he,this]⟩
     · rw[if_neg (show ¬(decide (a.Kind=2)=true) by simp[k2]),if_neg (show ¬(decide (a.Kind=2)=true) by simp[k2])];by_cases k3:a.Kind=3
       · rw[if_pos (show decide (a.Kind=3)=true by simp[k3]),if_pos (show decide (a.Kind=3)=true by simp[k3])];simp only[oZ4,oZ3,cmp2,cmp3,or2,g2k];by_cases hl:a.Str.length=b.Str.length
         · have hq:¬((!(decide ((a.Str.length:Int)=(b.Str.length:Int))))=true):=by simp;omega
           rw[if_neg hq,hl];have e1:¬((b.Str.length:Int) < (b.Str.length:Int)):=by omega
           simp only[e1,if_false,ne_eq,not_true_eq_false];by_cases he:a.Str=b.Str
           · rw[he,gf6];exact⟨0,by simp,by simp⟩
           · cases hb:Op.bytesLess a.Str b.Str with
             | true=>exact⟨-1,by simp,by simp[he]⟩
             | false=>exact⟨1,by simp[he],by simp[he]⟩
         · have hq:(!(decide ((a.Str.length:Int)=(b.Str.length:Int))))=true:=by simp;omega
           rw[if_pos hq];by_cases h:a.Str.length < b.Str.length
           · have e1:(a.Str.length:Int) < (b.Str.length:Int):=by omega
             exact⟨-1,by simp[e1],by simp[e1]⟩
           · have e1:¬((a.Str.length:Int) < (b.Str.length:Int)):=by omega
             have e2:(b.Str.length:Int) < (a.Str.length:Int):=by omega
             exact⟨1,by simp[e1,e2],by simp[e1]⟩
       · rw[if_neg (show ¬(decide (a.Kind=3)=true) by simp[k3]),if_neg (show ¬(decide (a.Kind=3)=true) by simp[k3])];by_cases k4:a.Kind=4
         · rw[if_pos (show decide (a.Kind=4)=true by simp[k4]),if_pos (show decide (a.Kind=4)=true by simp[k4])];simp only[oZ4,oZ3,cmp2,g2k];by_cases he:a.ID=b.ID
           · rw[he];exact⟨0,by simp,by simp⟩
           · rcases Int.lt_or_gt_of_ne he with h | h
             · exact⟨-1,by simp[h],by simp[h,he]⟩
             · have:¬a.ID < b.ID:=by omega
               exact⟨1,by simp[h,this],by simp[h,he,this]⟩
         · rw[if_neg (show ¬(decide (a.Kind=4)=true) by simp[k4]),if_neg (show ¬(decide (a.Kind=4)=true) by simp[k4])];exact⟨0,rfl,rfl⟩
 · rw[if_pos (show(!(decide (a.Kind=b.Kind)))=true by simp[hk]),if_pos (show(!(decide (a.Kind=b.Kind)))=true by simp[hk])];exact⟨0,rfl,rfl⟩
end
section
open Go Go.Proofs.YthnmepafpikaiaaGreat.Shv
set_option maxRecDepth 100000
def Both(o1 o2:Option Bool) :Prop:=∃r,o1=some r∧o2=some r
theorem ggo {γ δ : Type} (L : Nat → Option (Bool ⊕ γ)) (L' : Nat → Option (Bool ⊕ δ)) (n : Nat) (p : Nat → Bool) (g : γ) (g' : δ)
   (h:∀i,i < n→L i=if p i=true then L (i+1)else some (.inl false)) (he:L n=some (.inr g))
   (h':∀i,i < n→L' i=if p i=true then L' (i+1)else some (.inl false)) (he':L' n=some (.inr g')):
   (L 0=some (.inr g)∧L' 0=some (.inr g')∧∀j,j < n→p j=true)∨(L 0=some (.inl false)∧L' 0=some (.inl false)∧∃j,j < n∧p j=false):=by
 rcases scan L n p (.inl false) (.inr g) h he with⟨a1,a2⟩ | ⟨a1,j,a2,a3⟩ <;> rcases scan L' n p (.inl false) (.inr g') h' he' with⟨b1,b2⟩ | ⟨b1,k,b2,b3⟩
 · exact .inl ⟨a1,b1,a2⟩
 · have:=a2 k b2;rw[b3]at this;cases this
 · have:=b2 j a2;rw[a3]at this;cases this
 · exact .inr ⟨a1,b1,j,a2,a3⟩
def g95(k:Int) :Prop:=1≤k∧k≤9
theorem gpr{v:SValue}(hk:g95 v.Kind) :∃p,g8w v=some p∧g4j v=some p∧(p=true→v.Kind≠5→v.Kind≠6→v.Rest=[]):=by
 obtain⟨K,B,I,S,ID,Ks,Is,R⟩:=v;simp only at hk;rw[g8w,SValue.gq,g4j];have:K=1∨K=2∨K=3∨K=4∨K=5∨K=6∨K=7∨K=8∨K=9:=by unfold g95 at hk;omega
 have eI:∀(x:Int),decide (x=x)=true:=fun x=>by simp
 rcases this with rfl | rfl | rfl | rfl | rfl | rfl | rfl | rfl | rfl
 all_goals
   refine⟨_,rfl,?_,?_⟩
   · simp[gar,eqB]
     try (cases B <;> simp)
   · simp[gar,eqB]
section
variable {ts:List SType} (hn:ts.length < 9223372036854775807) (hT:∀t,t∈ts→OkT t) (hK:∀t,t∈ts→g95 t.Kind)
def Fit(ts:List SType)(x:SValue) :Prop:=∀t plain,Both (g2w ((⟨ts⟩:SSchema),t,x,plain)) (g1e ((⟨ts⟩:SSchema),t,x,plain))
theorem gm1 {l : List SValue} (hl : l.length ≤ reachBytes) (ih : ∀ x, x ∈ l → Fit ts x) (t : Int) (plain : Bool) :
   Both (g4y ((⟨ts⟩:SSchema),t,l,plain)) (g3m ((⟨ts⟩:SSchema),t,l,plain)):=by
 have hr:=g11 hl
 let p:Nat→Bool:=fun i=>(g2w ((⟨ts⟩:SSchema),t,l.getD i dSValue,plain)).getD false
 have hp:∀i,i < l.length→g2w ((⟨ts⟩:SSchema),t,l.getD i dSValue,plain)=some (p i)∧g1e ((⟨ts⟩:SSchema),t,l.getD i dSValue,plain)=some (p i):=by
   intro i hi;obtain⟨r,h1,h2⟩:=ih _ (gj hi dSValue) t plain;simp only[p,h1,h2,Option.getD_some,and_self]
 have hf:=gab (fun i=>gv (l,(l.length:Int),(i:Int),ts,t,plain)) l.length (fun i=>!(p i)) (fun i=>.inl ((i:Int),ts,t,plain)) (.inr (ts,t,plain))
   (fun i hi=>by
     rw[gv,if_pos (by simp;omega),if_pos (g6 hi),gbz];simp only[SValue.gq,gb];rw[(hp i hi).1,gg (by omega)]
     rfl)
   (by rw[gv,if_neg (by simp)])
 have hs:=scan (fun i=>g1g (t,l,plain,(i:Int),ts)) l.length p (.inl false) (.inr ())
   (fun i hi=>by
     rw[g1g,if_pos (by simp;omega),if_pos (g6 hi)];simp only[SValue.gq,gb];rw[(hp i hi).2,gg (by omega)]
     cases p i <;> rfl)
   (by rw[g1g,if_neg (by simp)])
 have e1:gv (l,(l.length:Int),((0:Nat):Int),ts,t,plain)=gv (l,(l.length:Int),0,ts,t,plain):=rfl;have e2:g1g (t,l,plain,((0:Nat):Int),ts)=g1g (t,l,plain,0,ts):=rfl;simp only[e1]at hf;simp only[e2]at hs;rw[g4y,g22,g3e,g3m];rcases hf with⟨j,a1,a2,a3,a4⟩ | ⟨a1,a4⟩ <;> rcases hs with⟨b1,b2⟩ | ⟨b1,k,b2,b3⟩
 · have:=b2 j a1;simp[this]at a2
 · rw[a4,b1];refine⟨false,?_,rfl⟩;have e:decide ((0:Int)≤(j:Int))=true:=by simp
   simp only[oZ4,oZ3,e,Bool.not_true]
 · rw[a4,b1];exact⟨true,rfl,rfl⟩
 · have:=a1 k b2;simp[b3]at this
def restP(t:SType)(l:List SRaw)(i:Nat) :Bool:=
 !((g1z (t,(l.getD i dSRaw).ID)).getD (0,false)).2 && (decide (1≤(l.getD i dSRaw).ID) && decide ((l.getD i dSRaw).ID≤1000)) && (decide (i=0) || decide ((l.getD (i - 1) dSRaw).ID < (l.getD i dSRaw).ID))
theorem gvr {γ : Type} (kn f Z : Bool) (sI : Int) (I1 C : Int → Bool) (X Y : Option γ) (hI1 : Z = true → I1 sI = true) :
   ((if(!kn)=true then some f else some false) >>=fun r_17=>some (bif kn then true else(!r_17)) >>=fun t131=>some Z >>=fun t134=>some sI >>=fun t141=>
     if(I1 t141 || (!((!t131) && t134)))=true then if(bif t131 then true else bif t134 then C t141 else false)=true then X else Y else none)=if(!kn && f && (!Z || !(C sI)))=true then Y else X:=by
 simp only[oZ4,oZ3];generalize C sI=c;cases Z with
 | true=>rw[hI1 rfl];cases kn <;> cases f <;> cases c <;> rfl
 | false=>generalize I1 sI=d;cases kn <;> cases f <;> cases d <;> cases c <;> rfl
theorem ghy {γ : Type} (R3 I0 Z : Bool) (sI : Int) (I1 C : Int → Bool) (X Y : Option γ) (hI0 : I0 = true) (hI1 : Z = true → I1 sI = true) :
   (some R3 >>=fun r_3=>some (!r_3) >>=fun t31=>some Z >>=fun t34=>
     if(I0 || (!((!t31) && t34)))=true then some sI >>=fun t43=>if(I1 t43 || (!((!t31) && t34)))=true then if(bif t31 then true else bif t34 then C t43 else false)=true then X else Y else none else none)=if(R3 && (!Z || !(C sI)))=true then Y else X:=by
 subst hI0;simp only[oZ4,oZ3];generalize C sI=c;cases Z with
 | true=>rw[hI1 rfl];cases R3 <;> cases c <;> rfl
 | false=>generalize I1 sI=d;cases R3 <;> cases d <;> cases c <;> rfl
theorem g6e{i:Nat}(h:0 < i)(h2:i < 9223372036854775807) :subI .i64 (i:Int) 1=((i - 1:Nat):Int):=by
 rw[gji (by omega) (by omega)];omega
theorem rests {t : SType} (ht : t.Members.length < 9223372036854775807) (v : SValue) (hl : v.Rest.length ≤ reachBytes) (plain : Bool) (ts : List SType) :
   let inr:=(plain,ts,v.Kind,v.Bool_,v.Int_,v.Str,v.ID,v.Keys,v.Items,v.Rest,t.Kind,t.Name,t.Low,t.High,t.Max,t.Symbols,t.Members,t.Key,t.Elem,t.Open)
   ((g29 (plain,v.Rest,(v.Rest.length:Int),0,ts,v,t.Kind,t.Name,t.Low,t.High,t.Max,t.Symbols,t.Members,t.Key,t.Elem,t.Open)=some (.inr inr)∧g3y (t,v.Rest)=some true)∨
     (g29 (plain,v.Rest,(v.Rest.length:Int),0,ts,v,t.Kind,t.Name,t.Low,t.High,t.Max,t.Symbols,t.Members,t.Key,t.Elem,t.Open)=some (.inl false)∧g3y (t,v.Rest)=some false)):=by
 intro inr;have hr:=g11 hl;have hpe:∀i,i < v.Rest.length→∀r,g1z (t,(v.Rest.getD i dSRaw).ID)=some r→restP t v.Rest i=(!r.2 && (bif decide (1≤(v.Rest.getD i dSRaw).ID)then decide ((v.Rest.getD i dSRaw).ID≤1000)else false) && (!(decide ((0:Int) < (i:Int))) || !(decide ((v.Rest.getD i dSRaw).ID≤(v.Rest.getD (subI .i64 (i:Int) 1).toNat dSRaw).ID)))):=by
   intro i hi r hm;unfold restP;rw[hm,Option.getD_some];generalize (v.Rest.getD i dSRaw).ID=x;by_cases h0:i=0
   · subst h0;cases r.2 <;> by_cases h1:1≤x <;> by_cases h2:x≤1000 <;> simp[h1,h2]
   · have hz:decide ((0:Int) < (i:Int))=true:=by simp;omega
     rw[hz,g6e (by omega) (by omega),gb];generalize (v.Rest.getD (i - 1) dSRaw).ID=y;cases r.2 <;> by_cases h1:1≤x <;> by_cases h2:x≤1000 <;> by_cases h3:y < x <;> simp[h0,h1,h2,h3] <;> omega
 have h:=ggo (fun i=>g29 (plain,v.Rest,(v.Rest.length:Int),(i:Int),ts,v,t.Kind,t.Name,t.Low,t.High,t.Max,t.Symbols,t.Members,t.Key,t.Elem,t.Open)) (fun i=>g1b (v.Rest,(i:Int),t)) v.Rest.length (restP t v.Rest) inr ()
   (fun i hi=>by
     obtain⟨r,h1,_,_⟩:=g45 (t:=t) (v.Rest.getD i dSRaw).ID ht;rw[g29,if_pos (by simp;omega),if_pos (g6 hi),hpe i hi r h1];simp only[gb,gii,SValue.gq,g8y,oZ4,oZ3];rw[h1,gg (by omega)]
     exact gvr r.2 (bif decide (1≤(v.Rest.getD i dSRaw).ID)then decide ((v.Rest.getD i dSRaw).ID≤1000)else false) (decide ((0:Int) < (i:Int))) (subI .i64 (i:Int) 1) (fun j=>inR j v.Rest.length) (fun j=>decide ((v.Rest.getD i dSRaw).ID≤(v.Rest.getD j.toNat dSRaw).ID)) _ _ (fun hz=>by
       have:0 < i:=by simp at hz;omega
       show inR _ _=true
       rw[g6e this (by omega)];exact g6 (by omega)))
   (by rw[g29,if_neg (by simp)])
   (fun i hi=>by
     obtain⟨r,h1,h2,_⟩:=g45 (t:=t) (v.Rest.getD i dSRaw).ID ht;rw[g1b,if_pos (by simp;omega),if_pos (g6 hi),hpe i hi r h1];simp only[gb];rw[h2,gg (by omega)];have hid:g15 ((v.Rest.getD i dSRaw).ID,r.2)=some ((!r.2) && (bif decide (1≤(v.Rest.getD i dSRaw).ID)then decide ((v.Rest.getD i dSRaw).ID≤1000)else false)):=by
       rw[g15];cases r.2 <;> cases decide (1≤(v.Rest.getD i dSRaw).ID) <;> rfl
     show(if inR (i:Int) v.Rest.length=true then g15 ((v.Rest.getD i dSRaw).ID,r.2) >>=_ else none)=_;rw[if_pos (g6 hi),hid]
     exact ghy ((!r.2) && (bif decide (1≤(v.Rest.getD i dSRaw).ID)then decide ((v.Rest.getD i dSRaw).ID≤1000)else false)) (inR (i:Int) v.Rest.length) (decide ((0:Int) < (i:Int))) (subI .i64 (i:Int) 1) (fun j=>inR j v.Rest.length) (fun j=>decide ((v.Rest.getD i dSRaw).ID≤(v.Rest.getD j.toNat dSRaw).ID)) _ _ (g6 hi) (fun hz=>by
       have:0 < i:=by simp at hz;omega
       show inR _ _=true
       rw[g6e this (by omega)];exact g6 (by omega)))
   (by rw[g1b,if_neg (by simp)])
 have e1:g29 (plain,v.Rest,(v.Rest.length:Int),((0:Nat):Int),ts,v,t.Kind,t.Name,t.Low,t.High,t.Max,t.Symbols,t.Members,t.Key,t.Elem,t.Open)=g29 (plain,v.Rest,(v.Rest.length:Int),0,ts,v,t.Kind,t.Name,t.Low,t.High,t.Max,t.Symbols,t.Members,t.Key,t.Elem,t.Open):=rfl;have e2:g1b (v.Rest,((0:Nat):Int),t)=g1b (v.Rest,0,t):=rfl
 simp only[e1,e2]at h;rw[g3y];rcases h with⟨h1,h2,_⟩ | ⟨h1,h2,_⟩
 · exact .inl ⟨h1,by rw[h2];rfl⟩
 · exact .inr ⟨h1,by rw[h2];rfl⟩
end
end
section
open Go Go.Proofs.YthnmepafpikaiaaGreat.Shv
set_option maxRecDepth 100000
theorem gsg {ts : List SType} {t : SType} {v : SValue} (hl : v.Items.length = t.Members.length) (hr : t.Members.length < 9223372036854775807) (ih : ∀ x, x ∈ v.Items → Fit ts x) (plain : Bool) :
   (g2l (plain,t.Members,(t.Members.length:Int),0,ts,v.Kind,v.Bool_,v.Int_,v.Str,v.ID,v.Keys,v.Items,v.Rest)=some (.inr ())∧gz (plain,0,ts,v,t.Kind,t.Name,t.Low,t.High,t.Max,t.Symbols,t.Members,t.Key,t.Elem,t.Open)=some (.inr ()))∨
   (g2l (plain,t.Members,(t.Members.length:Int),0,ts,v.Kind,v.Bool_,v.Int_,v.Str,v.ID,v.Keys,v.Items,v.Rest)=some (.inl false)∧gz (plain,0,ts,v,t.Kind,t.Name,t.Low,t.High,t.Max,t.Symbols,t.Members,t.Key,t.Elem,t.Open)=some (.inl false)):=by
 let p:Nat→Bool:=fun i=>(g2w ((⟨ts⟩:SSchema),(t.Members.getD i dSMember).Type_,v.Items.getD i dSValue,plain)).getD false
 have hp:∀i,i < t.Members.length→g2w ((⟨ts⟩:SSchema),(t.Members.getD i dSMember).Type_,v.Items.getD i dSValue,plain)=some (p i)∧g1e ((⟨ts⟩:SSchema),(t.Members.getD i dSMember).Type_,v.Items.getD i dSValue,plain)=some (p i):=by
   intro i hi;obtain⟨r,h1,h2⟩:=ih _ (gj (by omega:i < v.Items.length) dSValue) (t.Members.getD i dSMember).Type_ plain;simp only[p,h1,h2,Option.getD_some,and_self]
 have h:=ggo (fun i=>g2l (plain,t.Members,(t.Members.length:Int),(i:Int),ts,v.Kind,v.Bool_,v.Int_,v.Str,v.ID,v.Keys,v.Items,v.Rest)) (fun i=>gz (plain,(i:Int),ts,v,t.Kind,t.Name,t.Low,t.High,t.Max,t.Symbols,t.Members,t.Key,t.Elem,t.Open)) t.Members.length p () ()
   (fun i hi=>by
     rw[g2l,if_pos (by simp;omega),if_pos (g6 hi),if_pos (g6 (by omega))];simp only[gb,SValue.gq];rw[(hp i hi).1,gg (by omega)]
     cases p i <;> rfl)
   (by rw[g2l,if_neg (by simp)])
   (fun i hi=>by
     rw[gz,if_pos (by simp;omega),if_pos (g6 hi),if_pos (g6 (by omega))];simp only[gb,SValue.gq];rw[(hp i hi).2,gg (by omega)]
     cases p i <;> rfl)
   (by rw[gz,if_neg (by simp;omega)])
 have e1:g2l (plain,t.Members,(t.Members.length:Int),((0:Nat):Int),ts,v.Kind,v.Bool_,v.Int_,v.Str,v.ID,v.Keys,v.Items,v.Rest)=g2l (plain,t.Members,(t.Members.length:Int),0,ts,v.Kind,v.Bool_,v.Int_,v.Str,v.ID,v.Keys,v.Items,v.Rest):=rfl
 have e2:gz (plain,((0:Nat):Int),ts,v,t.Kind,t.Name,t.Low,t.High,t.Max,t.Symbols,t.Members,t.Key,t.Elem,t.Open)=gz (plain,0,ts,v,t.Kind,t.Name,t.Low,t.High,t.Max,t.Symbols,t.Members,t.Key,t.Elem,t.Open):=rfl;simp only[e1,e2]at h;rcases h with⟨h1,h2,_⟩ | ⟨h1,h2,_⟩
 · exact .inl ⟨h1,h2⟩
 · exact .inr ⟨h1,h2⟩
theorem ggu{v:SValue}(h:OkV v) :I64 v.Int_:=by cases h with | mk _ _ _ _ _ _ _ _ n1 n2=>exact n2
theorem gug {ts : List SType} {t : SType} {v : SValue} (hr : v.Keys.length < 9223372036854775807) (hk : ∀ x, x ∈ v.Keys → OkV x) (plain : Bool) :
   let inr:=(plain,ts,v,t.Kind,t.Name,t.Low,t.High,t.Max,t.Symbols,t.Members,t.Key,t.Elem,t.Open)
   (g20 (plain,1,ts,v,t.Kind,t.Name,t.Low,t.High,t.Max,t.Symbols,t.Members,t.Key,t.Elem,t.Open)=some (.inr inr)∧gu (1,v)=some (.inr ()))∨
   (g20 (plain,1,ts,v,t.Kind,t.Name,t.Low,t.High,t.Max,t.Symbols,t.Members,t.Key,t.Elem,t.Open)=some (.inl false)∧gu (1,v)=some (.inl false)):=by
 intro inr;by_cases h0:v.Keys.length=0
 · left;refine⟨?_,?_⟩
   · rw[g20,if_neg (by simp[h0]),SValue.gq]
   · rw[gu,if_neg (by simp[h0])]
 let c:Nat→Int:=fun i=>(g4q (v.Keys.getD i dSValue,v.Keys.getD (i+1) dSValue)).getD 0
 have hc:∀i,i+1 < v.Keys.length→g4q (v.Keys.getD i dSValue,v.Keys.getD (i+1) dSValue)=some (c i)∧g5b (v.Keys.getD i dSValue,v.Keys.getD (i+1) dSValue)=some (c i):=by
   intro i hi;obtain⟨r,h1,h2⟩:=ggn (ggu (hk _ (gj (by omega:i < v.Keys.length) dSValue))) (ggu (hk _ (gj hi dSValue)));simp only[c,h1,h2,Option.getD_some,and_self]
 have h:=ggo (fun i=>g20 (plain,((i+1:Nat):Int),ts,v,t.Kind,t.Name,t.Low,t.High,t.Max,t.Symbols,t.Members,t.Key,t.Elem,t.Open)) (fun i=>gu (((i+1:Nat):Int),v)) (v.Keys.length - 1) (fun i=>!(decide (0≤c i))) inr ()
   (fun i hi=>by
     have hs:=g6e (i:=i+1) (by omega) (by omega);have hs':subI .i64 ((i+1:Nat):Int) 1=(i:Int):=by rw[hs];simp
     rw[g20,if_pos (by simp;omega)];simp only[oZ4,oZ3];rw[hs',if_pos (g6 (by omega)),if_pos (g6 (by omega))];simp only[gb,SValue.gq];rw[(hc i (by omega)).1,gg (by omega)];simp only[oZ3]
     cases decide (0≤c i) <;> rfl)
   (by
     have e:v.Keys.length - 1+1=v.Keys.length:=by omega
     rw[e,g20,if_neg (by simp),SValue.gq])
   (fun i hi=>by
     have hs:=g6e (i:=i+1) (by omega) (by omega);have hs':subI .i64 ((i+1:Nat):Int) 1=(i:Int):=by rw[hs];simp
     rw[gu,if_pos (by simp;omega)];simp only[oZ4,oZ3];rw[hs',if_pos (g6 (by omega)),if_pos (g6 (by omega))];simp only[gb,SValue.gq];rw[(hc i (by omega)).2,gg (by omega)];simp only[oZ3]
     cases decide (0≤c i) <;> rfl)
   (by
     have e:v.Keys.length - 1+1=v.Keys.length:=by omega
     rw[e,gu,if_neg (by simp)])
 have e1:g20 (plain,((0+1:Nat):Int),ts,v,t.Kind,t.Name,t.Low,t.High,t.Max,t.Symbols,t.Members,t.Key,t.Elem,t.Open)=g20 (plain,1,ts,v,t.Kind,t.Name,t.Low,t.High,t.Max,t.Symbols,t.Members,t.Key,t.Elem,t.Open):=rfl;have e2:gu (((0+1:Nat):Int),v)=gu (1,v):=rfl;simp only[e1,e2]at h;rcases h with⟨h1,h2,_⟩ | ⟨h1,h2,_⟩
 · exact .inl ⟨h1,h2⟩
 · exact .inr ⟨h1,h2⟩
theorem gkc{α β:Type}{a:List α}{b:List β}(h:decide ((a.length:Int)=(b.length:Int))=true) :a.length=b.length:=by
 have:=of_decide_eq_true h;omega
theorem k4e {o : Option (Int × Bool)} {r : Int × Bool} (ho : o = some r) (O plain f : Bool) :
   (o >>=fun r_1=>some (bif O then(!plain)else false) >>=fun t85=>(if((!r_1.2) && t85)=true then some f else some false) >>=fun r_4=>some (bif r_1.2 then true else bif t85 then r_4 else false))=some (r.2 || (O && !plain && f)):=by
 subst ho;obtain⟨k,kn⟩:=r;cases kn <;> cases O <;> cases plain <;> cases f <;> rfl
theorem k4r {o : Option (Int × Bool)} {r : Int × Bool} (ho : o = some r) (O plain f : Bool) (F : Bool → Option Bool) (hF : F false = some f) :
   (o >>=fun r_1=>some (bif O then(!plain)else false) >>=fun t85=>(if((!r_1.2) && t85)=true then F r_1.2 else some false) >>=fun r_4=>some (bif r_1.2 then true else bif t85 then r_4 else false))=some (r.2 || (O && !plain && f)):=by
 subst ho;obtain⟨k,kn⟩:=r;cases kn <;> cases O <;> cases plain <;> simp[hF]
theorem k7{o:Option Bool}{r:Bool}(ho:o=some r)(q:Bool) :(some q >>=fun t244=>(if t244=true then o else some false) >>=fun r_10=>some (bif t244 then r_10 else false))=some (q && r):=by
 subst ho;cases q <;> cases r <;> rfl
theorem k6k(c I1 I2 f:Bool){X:Option Bool}(hX:c=true→X=some f)(h1:c=true→I1=true∧I2=true) :(some c >>=fun t188=>if(I1 || (!t188))=true then if(I2 || (!t188))=true then(if t188=true then X else some false) >>=fun r_8=>some (bif t188 then r_8 else false)else none else none)=some (c && f):=by
 cases c with
 | true=>obtain⟨a,b⟩:=h1 rfl;subst a;subst b;rw[hX rfl];rfl
 | false=>cases I1 <;> cases I2 <;> rfl
theorem k5r (A b q m : Bool) {ro : Option Bool} (hr : ro = some q) {L : Option (Bool ⊕ Unit)} (hL : A = true → L = some (if m = true then .inr () else .inl false)) :
   (if(bif (bif false then true else(!true))then true else b)=true then some false else some (!A) >>=fun t107=>(if(!t107)=true then ro else some false) >>=fun r_5=>if(bif t107 then true else(!r_5))=true then some false else L >>=fun o=>match o with | .inl x=>some x | .inr _=>some true)=some (A && !b && q && m):=by
 subst hr;cases A with
 | false=>cases b <;> rfl
 | true=>
   rw[hL rfl];cases b <;> cases q <;> cases m <;> rfl
theorem k6u(g f c1 c2 I E:Bool)(h1:c2=true→I=true) :(some g >>=fun t209=>(if t209=true then some f else some false) >>=fun r_9=>some (bif bif bif t209 then r_9 else false then c1 else false then c2 else false) >>=fun t226=>if(I || (!t226))=true then some (bif t226 then E else false)else none)=some (g && f && c1 && c2 && E):=by
 cases c2 with
 | true=>have:=h1 rfl;subst this;cases g <;> cases f <;> cases c1 <;> cases E <;> rfl
 | false=>cases g <;> cases f <;> cases c1 <;> cases I <;> rfl
theorem k8r (c : Bool) {ok oi : Option Bool} {k i : Bool} (hk : ok = some k) (hi : oi = some i) {L : Option (Bool ⊕ Unit)} {q : Bool} (hL : L = some (if q = true then .inr () else .inl false)) :
   (some c >>=fun t239=>(if(!t239)=true then ok else some false) >>=fun r_12=>some (bif t239 then true else(!r_12)) >>=fun t249=>(if(!t249)=true then oi else some false) >>=fun r_13=>if(bif t249 then true else(!r_13))=true then some false else L >>=fun o_3=>match o_3 with | .inl o_4=>some o_4 | .inr _=>some true)=some (!c && k && q && i):=by
 subst hk;subst hi;subst hL;cases c <;> cases k <;> cases q <;> cases i <;> rfl
theorem gm2{ts:List SType}(hn:ts.length < 9223372036854775807)(hT:∀t,t∈ts→OkT t)(hK:∀t,t∈ts→g95 t.Kind){v:SValue}(hv:OkV v) :Fit ts v:=by
 induction hv with
 | mk v hs h1 h2 h3 hk hi hrd n1 n2 n3 n4 ihk ihi=>
   intro t plain;rw[g2w,g1e];by_cases hout:(bif decide (t < 0)then true else decide (((⟨ts⟩:SSchema).Types.length:Int)≤t))=true
   · rw[if_pos hout,if_pos hout];exact⟨false,rfl,rfl⟩
   · rw[if_neg hout,if_neg hout];have hin:0≤t∧t < ts.length:=by
       simp only[Bool.cond_eq_ite]at hout;by_cases h0:t < 0
       · simp[h0]at hout
       · simp[h0]at hout;omega
     obtain⟨j,rfl⟩:∃j:Nat,t=(j:Int):=⟨t.toNat,by omega⟩
     have hj:j < ts.length:=by omega
     rw[if_pos (g6 hj),if_pos (g6 hj)];simp only[gb,SValue.gq];have hxT:=hT _ (gj hj dSType);have hxK:=hK _ (gj hj dSType);generalize ts.getD j dSType=x at hxT hxK ⊢;have hm:=g11 (g3j hxT.mems);have hsy:=g11 (g3j hxT.syms);by_cases hkd:v.Kind=x.Kind
     · obtain⟨p,p1,p2,p3⟩:=gpr (v:=v) (by rw[hkd];exact hxK);rw[p1,p2];cases p with
       | false=>exact⟨false,by simp[hkd],by simp[hkd]⟩
       | true=>
         have hitems:=gm1 (ts:=ts) h2 ihi;have hkeys:=gm1 (ts:=ts) h1 ihk;obtain⟨K,N,L,H,M,S,Ms,Ke,E,O⟩:=x;obtain⟨vK,B,I,Sx,ID,Ks,Is,R⟩:=v;simp only at hkd;subst hkd;have p3':=p3 rfl;simp only at p3' hxK hm hsy h1 h2 h3;have hc:vK=1∨vK=2∨vK=3∨vK=4∨vK=5∨vK=6∨vK=7∨vK=8∨vK=9:=by unfold g95 at hxK;omega
         rcases hc with rfl | rfl | rfl | rfl | rfl | rfl | rfl | rfl | rfl
         · obtain rfl:R=[]:=p3' (by decide) (by decide);cases plain <;> exact⟨true,rfl,rfl⟩
         · obtain rfl:R=[]:=p3' (by decide) (by decide);cases plain <;> exact⟨_,rfl,rfl⟩
         · obtain rfl:R=[]:=p3' (by decide) (by decide);cases plain <;> exact⟨_,rfl,rfl⟩
         · obtain rfl:R=[]:=p3' (by decide) (by decide);obtain⟨r,r1,r2,_⟩:=ghx (t:=⟨4,N,L,H,M,S,Ms,Ke,E,O⟩) ID hsy;have hf:g15 (ID,false)=some (bif decide (1≤ID)then decide (ID≤1000)else false):=by
             rw[g15];cases decide (1≤ID) <;> rfl
           cases plain
           · exact⟨_,k4e r1 O false _,k4r r2 O false _ (fun b=>g15 (ID,b)) hf⟩
           · exact⟨_,k4e r1 O true _,k4r r2 O true _ (fun b=>g15 (ID,b)) hf⟩
         ·
           have hrs:=rests (t:=⟨5,N,L,H,M,S,Ms,Ke,E,O⟩) hm ⟨5,B,I,Sx,ID,Ks,Is,R⟩ h3 plain ts;have hps:decide ((Is.length:Int)=(Ms.length:Int))=true→_:=fun hA=>gsg (ts:=ts) (t:=⟨5,N,L,H,M,S,Ms,Ke,E,O⟩) (v:=⟨5,B,I,Sx,ID,Ks,Is,R⟩) (gkc hA) hm ihi plain
           have hq:∃q:Bool,g29 (plain,R,(R.length:Int),0,ts,⟨5,B,I,Sx,ID,Ks,Is,R⟩,5,N,L,H,M,S,Ms,Ke,E,O)=some (if q=true then .inr (plain,ts,5,B,I,Sx,ID,Ks,Is,R,5,N,L,H,M,S,Ms,Ke,E,O)else .inl false)∧g3y (⟨5,N,L,H,M,S,Ms,Ke,E,O⟩,R)=some q:=by
             rcases hrs with⟨a,b⟩ | ⟨a,b⟩
             · exact⟨true,a,b⟩
             · exact⟨false,a,b⟩
           obtain⟨q,q1,q2⟩:=hq;have hmm:∃m:Bool,decide ((Is.length:Int)=(Ms.length:Int))=true→(g2l (plain,Ms,(Ms.length:Int),0,ts,5,B,I,Sx,ID,Ks,Is,R)=some (if m=true then .inr ()else .inl false)∧gz (plain,0,ts,⟨5,B,I,Sx,ID,Ks,Is,R⟩,5,N,L,H,M,S,Ms,Ke,E,O)=some (if m=true then .inr ()else .inl false)):=by
             cases hA:decide ((Is.length:Int)=(Ms.length:Int))with
             | false=>exact⟨true,fun h=>by cases h⟩
             | true=>
               rcases hps hA with⟨a,b⟩ | ⟨a,b⟩
               · exact⟨true,fun _=>⟨a,b⟩⟩
               · exact⟨false,fun _=>⟨a,b⟩⟩
           obtain⟨m,hm'⟩:=hmm;refine⟨(decide ((Is.length:Int)=(Ms.length:Int))) && !(bif plain then decide (0 < (R.length:Int))else false) && q && m,?_,?_⟩
           · show(if(bif (!(decide ((Is.length:Int)=(Ms.length:Int))))then true else bif plain then decide (0 < (R.length:Int))else false)=true then some false else g29 (plain,R,(R.length:Int),0,ts,⟨5,B,I,Sx,ID,Ks,Is,R⟩,5,N,L,H,M,S,Ms,Ke,E,O) >>=_)=_;rw[q1];cases hA:decide ((Is.length:Int)=(Ms.length:Int))with
             | false=>rfl
             | true=>
               cases (bif plain then decide (0 < (R.length:Int))else false)with
               | true=>rfl
               | false=>
                 cases q with
                 | false=>rfl
                 | true=>
                   show(g2l (plain,Ms,(Ms.length:Int),0,ts,5,B,I,Sx,ID,Ks,Is,R) >>=_)=_;rw[(hm' hA).1];cases m <;> rfl
           · exact k5r (decide ((Is.length:Int)=(Ms.length:Int))) (bif plain then decide (0 < (R.length:Int))else false) q m q2 (fun hA=>(hm' hA).2)
         ·
           obtain⟨r,r1,r2,hf⟩:=g45 (t:=⟨6,N,L,H,M,S,Ms,Ke,E,O⟩) ID hm;have hid:∀b,b=false→g15 (ID,b)=some (bif decide (1≤ID)then decide (ID≤1000)else false):=by
             intro b hb;subst hb;rw[g15];cases decide (1≤ID) <;> rfl
           have hX:∃f:Bool,(bif decide ((Is.length:Int)=1)then decide ((R.length:Int)=0)else false)=true→(g2w ((⟨ts⟩:SSchema),(Ms.getD r.1.toNat dSMember).Type_,Is.getD (0:Int).toNat dSValue,plain)=some f∧g1e ((⟨ts⟩:SSchema),(Ms.getD r.1.toNat dSMember).Type_,Is.getD (0:Int).toNat dSValue,plain)=some f):=by
             by_cases h1':Is.length=1
             · obtain⟨f,f1,f2⟩:=ihi (Is.getD 0 dSValue) (gj (by omega:0 < Is.length) dSValue) (Ms.getD r.1.toNat dSMember).Type_ plain;exact⟨f,fun _=>⟨f1,f2⟩⟩
             · refine⟨false,fun h=>?_⟩
               exfalso
               have:decide ((Is.length:Int)=1)=false:=by simp;omega
               rw[this]at h;cases h
           obtain⟨f,hfX⟩:=hX;have hidx:r.2=true→(bif decide ((Is.length:Int)=1)then decide ((R.length:Int)=0)else false)=true→inR r.1 Ms.length=true∧inR 0 Is.length=true:=by
             intro h6 hc';constructor
             · rcases hf with⟨k,k1,_,_,rfl⟩ | ⟨_,rfl⟩
               · exact g6 k1
               · cases h6
             · by_cases h1':Is.length=1
               · exact g6 (k:=0) (by omega)
               · have:decide ((Is.length:Int)=1)=false:=by simp;omega
                 rw[this]at hc';cases hc'
           have hR0:decide ((R.length:Int)=1)=true→inR 0 R.length=true:=by
             intro h;have:=of_decide_eq_true h;exact g6 (k:=0) (by omega)
           obtain⟨ri,rk⟩:=r;refine⟨if rk=true then(bif decide ((Is.length:Int)=1)then decide ((R.length:Int)=0)else false) && f else(bif O then(!plain)else false) && (bif decide (1≤ID)then decide (ID≤1000)else false) && decide ((Is.length:Int)=0) && decide ((R.length:Int)=1) && decide ((R.getD (0:Int).toNat dSRaw).ID=ID),?_,?_⟩
           · show(g1z (⟨6,N,L,H,M,S,Ms,Ke,E,O⟩,ID) >>=_)=_;rw[r1];cases rk with
             | true=>exact k6k _ (inR ri Ms.length) (inR 0 Is.length) f (fun h=>(hfX h).1) (hidx rfl)
             | false=>exact k6u (bif O then(!plain)else false) (bif decide (1≤ID)then decide (ID≤1000)else false) (decide ((Is.length:Int)=0)) (decide ((R.length:Int)=1)) (inR 0 R.length) (decide ((R.getD (0:Int).toNat dSRaw).ID=ID)) hR0
           · show(if(bif (bif false then true else(!true))then true else(bif plain then decide (0 < (R.length:Int))else false))=true then some false else g1j (⟨6,N,L,H,M,S,Ms,Ke,E,O⟩,ID) >>=_)=_;rw[r2];cases hb0:(bif plain then decide (0 < (R.length:Int))else false)with
             | true=>
               have hpl:plain=true:=by
                 cases plain with
                 | true=>rfl
                 | false=>cases hb0
               subst hpl;have hRl:decide ((R.length:Int)=0)=false:=by
                 have:=of_decide_eq_true (show decide (0 < (R.length:Int))=true from hb0);simp;intro e;rw[e]at this;simp at this
               rw[hRl];cases rk with
               | true=>cases decide ((Is.length:Int)=1) <;> rfl
               | false=>cases O <;> rfl
             | false=>
               cases rk with
               | true=>exact k6k _ (inR ri Ms.length) (inR 0 Is.length) f (fun h=>(hfX h).2) (hidx rfl)
               | false=>exact k6u (bif O then(!plain)else false) (bif decide (1≤ID)then decide (ID≤1000)else false) (decide ((Is.length:Int)=0)) (decide ((R.length:Int)=1)) (inR 0 R.length) (decide ((R.getD (0:Int).toNat dSRaw).ID=ID)) hR0
         · obtain rfl:R=[]:=p3' (by decide) (by decide);obtain⟨r,r1,r2⟩:=hitems E plain;cases plain
           · exact⟨_,k7 r1 _,k7 r2 _⟩
           · exact⟨_,k7 r1 _,k7 r2 _⟩
         · obtain rfl:R=[]:=p3' (by decide) (by decide);obtain⟨k,k1,k2⟩:=hkeys Ke plain;obtain⟨i,i1,i2⟩:=hitems E plain;have hks:=gug (ts:=ts) (t:=⟨8,N,L,H,M,S,Ms,Ke,E,O⟩) (v:=⟨8,B,I,Sx,ID,Ks,Is,[]⟩) (g11 h1) hk plain
           obtain⟨q,qa,qb⟩:∃q:Bool,g20 (plain,1,ts,⟨8,B,I,Sx,ID,Ks,Is,[]⟩,8,N,L,H,M,S,Ms,Ke,E,O)=some (if q=true then .inr (plain,ts,⟨8,B,I,Sx,ID,Ks,Is,[]⟩,8,N,L,H,M,S,Ms,Ke,E,O)else .inl false)∧gu (1,⟨8,B,I,Sx,ID,Ks,Is,[]⟩)=some (if q=true then .inr ()else .inl false):=by
             rcases hks with⟨a,b⟩ | ⟨a,b⟩
             · exact⟨true,a,b⟩
             · exact⟨false,a,b⟩
           refine⟨!(bif decide (M < (Ks.length:Int))then true else(!(decide ((Is.length:Int)=(Ks.length:Int))))) && k && q && i,?_,?_⟩
           · show(some (bif decide (M < (Ks.length:Int))then true else(!(decide ((Is.length:Int)=(Ks.length:Int))))) >>=fun t270=>(if(!t270)=true then g4y ((⟨ts⟩:SSchema),Ke,Ks,plain)else some false) >>=fun r_11=>if(bif t270 then true else(!r_11))=true then some false else g20 (plain,1,ts,⟨8,B,I,Sx,ID,Ks,Is,[]⟩,8,N,L,H,M,S,Ms,Ke,E,O) >>=_)=_
             rw[k1,qa];cases (bif decide (M < (Ks.length:Int))then true else(!(decide ((Is.length:Int)=(Ks.length:Int)))))with
             | true=>rfl
             | false=>
               cases k with
               | false=>rfl
               | true=>
                 cases q with
                 | false=>rfl
                 | true=>
                   show(g4y ((⟨ts⟩:SSchema),E,Is,plain) >>=fun r_12=>some r_12)=_;rw[i1];cases i <;> rfl
           · cases plain
             · exact k8r (bif decide (M < (Ks.length:Int))then true else(!(decide ((Is.length:Int)=(Ks.length:Int))))) k2 i2 qb
             · exact k8r (bif decide (M < (Ks.length:Int))then true else(!(decide ((Is.length:Int)=(Ks.length:Int))))) k2 i2 qb
         · obtain rfl:R=[]:=p3' (by decide) (by decide);obtain⟨r,r1,r2⟩:=hitems E plain;cases plain
           · exact⟨_,k7 r1 _,k7 r2 _⟩
           · exact⟨_,k7 r1 _,k7 r2 _⟩
     · exact⟨false,by simp[hkd],by simp[hkd]⟩
end
section
open Go Go.Proofs.YthnmepafpikaiaaGreat.Shv
set_option maxRecDepth 100000
set_option linter.all false
end
section
open Go Go.Proofs.YthnmepafpikaiaaGreat.Shv
set_option maxRecDepth 100000
theorem g7o(s:SSchema) :(⟨s.Types⟩:SSchema)=s:=by cases s;rfl
theorem gsh {s : SSchema} (hs : s.Types.length ≤ reachBytes) (hT : ∀ t, t ∈ s.Types → OkT t) {v : SValue} (hv : OkV v) (t : Int) :
   ∃e,g2y (s,t,v)=some e∧g48 (s,t,v)=some e∧
     (e=0→s.Types.length≤32∧(∀i,i < s.Types.length→stepV s.Types i=none)∧0≤t∧t < s.Types.length∧g2w (s,t,v,false)=some true):=by
 obtain⟨e,e1,e2,e3⟩:=gse hs hT;rw[g2y,g4h,g48];simp only[g7o,SValue.gq];rw[e1,e2];by_cases h0:e=0
 · subst h0;obtain⟨h32,hst⟩:=e3 rfl;by_cases hout:(bif decide (t < 0)then true else decide ((s.Types.length:Int)≤t))=true
   · refine⟨4,?_,?_,fun h=>by cases h⟩
     · show((if(bif decide (t < 0)then true else decide ((s.Types.length:Int)≤t))=true then some (4:Int)else some 0) >>=_)=_;rw[if_pos hout];rfl
     · show(if(bif decide (t < 0)then true else decide ((s.Types.length:Int)≤t))=true then some (4:Int)else _)=_;rw[if_pos hout]
   · have hk:=gsf hT hst;obtain⟨r,r1,r2⟩:=gm2 (by omega) hT hk hv t false;rw[g7o]at r1 r2;have hin:0≤t∧t < s.Types.length:=by
       simp only[Bool.cond_eq_ite]at hout;by_cases h0:t < 0
       · simp[h0]at hout
       · simp[h0]at hout;omega
     refine⟨if(!r)=true then 1 else 0,?_,?_,?_⟩
     · show((if(bif decide (t < 0)then true else decide ((s.Types.length:Int)≤t))=true then some (4:Int)else some 0) >>=_)=_;rw[if_neg hout];show(g6h (s,t,v) >>=_)=_;rw[g6h];simp only[g7o,SValue.gq];rw[r1];cases r <;> rfl
     · show(if(bif decide (t < 0)then true else decide ((s.Types.length:Int)≤t))=true then some (4:Int)else _)=_;rw[if_neg hout];show(g8b (s,t,v) >>=_)=_;rw[g8b];simp only[SValue.gq];rw[r2];cases r <;> rfl
     · intro h;cases r with
       | false=>simp at h
       | true=>exact⟨h32,hst,hin.1,hin.2,r1⟩
 · have hd:(!(decide (e=0)))=true:=by simp[h0]
   refine⟨e,?_,?_,fun h=>absurd h h0⟩
   · show((if(!(decide (e=0)))=true then some e else _) >>=fun r=>if(!(decide (r=0)))=true then some r else _)=_;rw[if_pos hd];show(if(!(decide (e=0)))=true then some e else _)=_;rw[if_pos hd]
   · show(if(!(decide (e=0)))=true then some e else _)=_;rw[if_pos hd]
end
section
open Go Go.Proofs.YthnmepafpikaiaaGreat.Shv
set_option maxRecDepth 100000
def vbig(n:Nat) :List UInt8:=if n=0 then[]else vbig (n / 256)++[UInt8.ofNat (n % 256)]
termination_by n
decreasing_by omega
theorem goo{α:Type} :∀(l:List α) (k:Nat) (x:α),k < l.length→(l.set k x).drop k=x::l.drop (k+1)
 | [],k,x,h=>by simp at h
 | a::l,0,x,h=>by simp
 | a::l,k+1,x,h=>by simp[goo l k x (by simpa using h)]
theorem shrI8(n:Nat) :shrI .u64 (n:Int) 8=((n / 256:Nat):Int):=by
 unfold shrI;have:((2:Int) ^ min (8:Int).toNat IntKind.u64.bits)=256:=by decide
 rw[this,Int.fdiv_eq_ediv_of_nonneg _ (by omega)];omega
theorem guh :∀(i n:Nat) (b:List Int),n < 256 ^ i→i≤8→b.length=8→∃(i':Nat) (b':List Int),g4r ((n:Int),(i:Int),b)=some ((i':Int),b')∧i'≤8∧b'.length=8∧strOf (b'.drop i')=vbig n++strOf (b.drop i)
 | i,n,b,hn,hi,hb=>by
   rw[g4r];by_cases h0:n=0
   · subst h0;rw[if_neg (by simp)];refine⟨i,b,rfl,hi,hb,?_⟩;rw[vbig,if_pos rfl];rfl
   · rw[if_pos (by simp;omega)]
     match i,hn,hi with
     | 0,hn,hi=>simp at hn;omega
     | i+1,hn,hi=>
       have hs:subI .i64 ((i+1:Nat):Int) 1=(i:Int):=by rw[gji (by omega) (by omega)];omega
       simp only[oZ4,oZ3];rw[hs,if_pos (g6 (by omega)),if_pos (by simp[hb];omega),shrI8,wrp8,gb];have hlt:n / 256 < 256 ^ i:=by
         rw[Nat.div_lt_iff_lt_mul (by omega)];rw[Nat.pow_succ]at hn;exact hn
       obtain⟨i',b',h1,h2,h3,h4⟩:=guh i (n / 256) (b.set i ((n % 256:Nat):Int)) hlt (by omega) (by simp[hb]);refine⟨i',b',h1,h2,h3,?_⟩;rw[h4,goo _ _ _ (by omega),gs8]
       conv=>rhs;rw[vbig,if_neg h0]
       rw[List.append_assoc];rfl
theorem gui{n:Nat}(hn:n < 18446744073709551616) :g90 (n:Int)=some (vbig n):=by
 have e:(256:Nat) ^ 8=18446744073709551616:=by decide
 obtain⟨i',b',h1,h2,h3,h4⟩:=guh 8 n [0,0,0,0,0,0,0,0] (by rw[e];exact hn) (by omega) rfl;have h1':g4r ((n:Int),8,[0,0,0,0,0,0,0,0])=some ((i':Int),b'):=h1;rw[g90,h1'];simp only[oZ4,oZ3,gb];have hsl:slR (i':Int) 8 8=true:=gq6 (b:=8) (by omega) (by omega);have h8:(8:Int).toNat=8:=rfl
 rw[if_pos hsl,h8,if_pos (by simp[subR,h3];omega)];rw[List.take_of_length_le (by simp[h3]),h4];simp[strOf]
theorem gij :∀(f n:Nat),n < 256 ^ f→(vbig n).length≤f
 | 0,n,h=>by
   have:n=0:=by simpa using h
   subst this;rw[vbig,if_pos rfl];simp
 | f+1,n,h=>by
   rw[vbig];split
   · simp
   · have:=gij f (n / 256) (by
       rw[Nat.div_lt_iff_lt_mul (by omega)]
       rw[Nat.pow_succ]at h;exact h)
     simp;omega
theorem gm3 :∀(f n:Nat) (out:List UInt8),n < 256 ^ f→n < 18446744073709551616→out.length+f≤1000→g5q ((n:Int),out)=some (vbig n++out)
 | f,n,out,hn,h64,ho=>by
   rw[g5q];by_cases h0:n=0
   · subst h0;rw[if_neg (by simp),vbig,if_pos rfl];rfl
   · rw[if_pos (by simp;omega)]
     match f,hn,ho with
     | 0,hn,ho=>simp at hn;omega
     | f+1,hn,ho=>
       have hrem:remI (n:Int) 256=((n % 256:Nat):Int):=remIn (b:=256);have hq:quoI .u64 (n:Int) 256=((n / 256:Nat):Int):=by
         unfold quoI;have e:(n:Int).tdiv 256=((n / 256:Nat):Int):=by rw[Int.tdiv_eq_ediv_of_nonneg (by omega)];omega
         rw[e];exact wrapu (by omega) (by omega)
       have hone:strOf [((n % 256 % 256:Nat):Int)]=[UInt8.ofNat (n % 256)]:=by
         have:n % 256 % 256=n % 256:=by omega
         rw[this];rfl
       simp only[oZ4,oZ3];rw[hrem,hq,wrp8,hone,if_pos (g2h (by simp;omega))];have hlt:n / 256 < 256 ^ f:=by
         rw[Nat.div_lt_iff_lt_mul (by omega)];rw[Nat.pow_succ]at hn;exact hn
       rw[gm3 f (n / 256) _ hlt (by omega) (by simp;omega)]
       conv=>rhs;rw[vbig,if_neg h0]
       rw[List.append_assoc]
theorem gm4{n:Nat}(hn:n < 18446744073709551616) :g70 (n:Int)=some (vbig n):=by
 have e:(256:Nat) ^ 8=18446744073709551616:=by decide
 rw[g70,gm3 8 n [] (by rw[e];exact hn) hn (by simp)];simp
end
section
open Go Go.Proofs.YthnmepafpikaiaaGreat.Shv Go.Sort
set_option maxRecDepth 100000
section
variable {α:Type}
theorem gop{β γ:Type}{f g:β→List γ} :∀{l:List β},(∀x,x∈l→f x=g x)→l.flatMap f=l.flatMap g
 | [],_=>rfl
 | x::l,h=>by
   simp only[List.flatMap_cons];rw[h x (.head _),gop fun y hy=>h y (.tail _ hy)]
theorem gkd(x:α)(n:Nat)(f:Nat→List α) :∀(ks:List Nat),ks.Nodup→n∈ks→(ks.flatMap fun i=>if n=i then x::f i else f i).Perm (x::ks.flatMap f)
 | [],_,h=>by cases h
 | k::ks,hn,h=>by
   rw[List.nodup_cons]at hn;simp only[List.flatMap_cons];by_cases e:n=k
   · rw[if_pos e];have:(ks.flatMap fun i=>if n=i then x::f i else f i)=ks.flatMap f:=gop fun y hy=>by
       rw[if_neg];rintro rfl;subst e;exact hn.1 hy
     rw[this];exact .refl _
   · rw[if_neg e];have hm:n∈ks:=(List.mem_cons.1 h).resolve_left e;refine((gkd x n f ks hn.2 hm).append_left (f k)).trans ?_;exact List.perm_middle
theorem gke(key:α→Nat)(ks:List Nat)(hn:ks.Nodup) :∀l:List α,(∀x,x∈l→key x∈ks)→(ks.flatMap fun i=>l.filter fun x=>decide (key x=i)).Perm l
 | [],_=>by simp
 | x::l,h=>by
   have e:(fun i=>(x::l).filter fun y=>decide (key y=i))=fun i=>if key x=i then x::(l.filter fun y=>decide (key y=i))else l.filter fun y=>decide (key y=i):=by
     funext i
     by_cases e:key x=i <;> simp[e]
   rw[e];exact(gkd x (key x) _ ks hn (h x (.head _))).trans ((gke key ks hn l fun y hy=>h y (.tail _ hy)).cons x)
theorem goq(key:α→Nat)(a n:Nat)(l:List α) :((List.range' a n).flatMap fun i=>l.filter fun x=>decide (key x=i)).Pairwise (fun x y=>decide (key y < key x)=false):=by
 rw[List.pairwise_flatMap];constructor
 · intro i hi;rw[List.pairwise_iff_forall_sublist];intro x y hs;have hx:=hs.subset (.head _);have hy:=hs.subset (.tail _ (.head _));simp at hx hy ⊢;omega
 · refine(List.pairwise_lt_range' (s:=a) (n:=n)).imp ?_;intro i j hij x hx y hy;simp at hx hy ⊢;omega
theorem gor{α β:Type}[Inhabited α][Inhabited β]{lt:α→α→Bool}{lt':β→β→Bool}(g:α→β)(h:∀a b,lt' (g a) (g b)=lt a b) :∀l,isoB lt' (l.map g)=(isoB lt l).map g
 | []=>rfl
 | x::l=>by
   have key:∀r,insB lt' (g x) (r.map g)=(insB lt x r).map g:=by
     intro r
     induction r with
     | nil=>rfl
     | cons y r ih=>
       simp only[insB,List.map];rw[h];split
       · rfl
       · simp[ih]
   simp only[isoB,List.map];rw[gor g h l,key]
theorem gm5{α:Type}[Inhabited α]{lt:α→α→Bool} :∀{l:List α},l.Pairwise (fun x y=>lt x y=true∨lt y x=true)→g6n lt l=true
 | [],_=>rfl
 | x::l,h=>by
   rw[List.pairwise_cons]at h;simp only[g6n,Bool.and_eq_true,List.all_eq_true,Bool.or_eq_true];exact⟨h.1,gm5 h.2⟩
end
mutual
def wt :SValue→Nat
 | ⟨_,_,_,s,_,ks,is,r⟩=>10+s.length+(r.map fun x=>x.Data.length+1).sum+wts ks+wts is
def wts :List SValue→Nat
 | []=>0
 | v::l=>wt v+wts l
end
structure Fd where
 id:Nat
 c:Bool
 p:List UInt8
instance:Inhabited Fd:=⟨⟨0,false,[]⟩⟩
def ltF(a b:Fd) :Bool:=decide (a.id < b.id)
def Fd.text(f:Fd) :List UInt8:=g94 f.id f.c f.p
def ilv :List (List UInt8)→List (List UInt8)→List UInt8
 | k::ks,v::vs=>g42 k++(g42 v++ilv ks vs)
 | _,_=>[]
def findM(l:List SMember)(id:Int) :Option SMember:=l.find? fun m=>decide (m.ID=id)
open Classical in
noncomputable def om (m:SMember) (v:SValue):Bool:=m.HasDefault && decide (m.Default=v)
def rawF(r:SRaw) :Fd:=⟨r.ID.toNat,false,r.Data⟩
mutual
noncomputable def vpay (ts:List SType) (t:Int):SValue→List UInt8
 | ⟨_,b,i,s,id,ks,is,r⟩=>
   let x:=ts.getD t.toNat dSType
   if x.Kind=1 then(if b=true then[1]else[])
   else if x.Kind=2 then vbig (zig i).toNat
   else if x.Kind=3 then s
   else if x.Kind=4 then vbig id.toNat
   else if x.Kind=5 then(isoB ltF (vents ts x.Members is++r.map rawF)).flatMap Fd.text
   else if x.Kind=6 then vput id.toNat++(match findM x.Members id with
     | some m=>(vpays ts m.Type_ is).headD []
     | none=>(r.map SRaw.Data).headD [])
   else if x.Kind=7 then(vpays ts x.Elem is).flatMap g42
   else if x.Kind=8 then ilv (vpays ts x.Key ks) (vpays ts x.Elem is)
   else match vpays ts x.Elem is with
     | []=>[]
     | p::_=>1::p
noncomputable def vpays (ts:List SType) (t:Int):List SValue→List (List UInt8)
 | []=>[]
 | v::l=>vpay ts t v::vpays ts t l
noncomputable def vents (ts:List SType):List SMember→List SValue→List Fd
 | m::ms,v::l=>if om m v=true then vents ts ms l else⟨m.ID.toNat,m.Critical,vpay ts m.Type_ v⟩::vents ts ms l
 | _,_=>[]
end
mutual
noncomputable def vlev (ts:List SType) (t:Int):SValue→Nat
 | ⟨_,_,_,_,id,ks,is,_⟩=>
   let x:=ts.getD t.toNat dSType
   1+max (if ks=[]then 0 else 1) (if x.Kind=5 then vlevm ts x.Members is
     else if x.Kind=6 then(match findM x.Members id with
       | some m=>vlevs ts m.Type_ is
       | none=>0)
     else vlevs ts x.Elem is)
noncomputable def vlevs (ts:List SType) (t:Int):List SValue→Nat
 | []=>0
 | v::l=>max (vlev ts t v) (vlevs ts t l)
noncomputable def vlevm (ts:List SType):List SMember→List SValue→Nat
 | m::ms,v::l=>if om m v=true then vlevm ts ms l else max (vlev ts m.Type_ v) (vlevm ts ms l)
 | _,_=>0
end
def I1000(n:Int) :Prop:=1≤n∧n≤1000
def g80(ms:List SMember)(r:List SRaw) :Prop:=r.Pairwise (fun a b=>a.ID < b.ID)∧∀x,x∈r→I1000 x.ID∧findM ms x.ID=none
def vcmp(a b:SValue) :Int:=(g4q (a,b)).getD 0
def gb6(ks:List SValue) :Prop:=∀i,i+1 < ks.length→vcmp (ks.getD i dSValue) (ks.getD (i+1) dSValue) < 0
mutual
def vfit(ts:List SType)(pl:Bool)(t:Int) :SValue→Prop
 | ⟨k,b,i,s,id,ks,is,r⟩=>
   let x:=ts.getD t.toNat dSType
   (0≤t∧t < ts.length∧k=x.Kind∧(pl=true→r=[]))∧
   (k=1∧i=0∧s=[]∧id=0∧ks=[]∧is=[]∧r=[]∨
   k=2∧b=false∧s=[]∧id=0∧ks=[]∧is=[]∧r=[]∧x.Low≤i∧i≤x.High∨
   k=3∧b=false∧i=0∧id=0∧ks=[]∧is=[]∧r=[]∧(s.length:Int)≤x.Max∨
   k=4∧b=false∧i=0∧s=[]∧ks=[]∧is=[]∧r=[]∧((∃y,y∈x.Symbols∧y.ID=id)∨x.Open=true∧pl=false∧I1000 id)∨
   k=5∧b=false∧i=0∧s=[]∧id=0∧ks=[]∧g80 x.Members r∧vfitm ts pl x.Members is∨
   k=6∧b=false∧i=0∧s=[]∧ks=[]∧(match findM x.Members id with
     | some m=>r=[]∧is.length=1∧vfits ts pl m.Type_ is
     | none=>x.Open=true∧pl=false∧I1000 id∧is=[]∧∃d,r=[⟨id,d⟩])∨
   k=7∧b=false∧i=0∧s=[]∧id=0∧ks=[]∧r=[]∧(is.length:Int)≤x.Max∧vfits ts pl x.Elem is∨
   k=8∧b=false∧i=0∧s=[]∧id=0∧r=[]∧(ks.length:Int)≤x.Max∧is.length=ks.length∧vfits ts pl x.Key ks∧vfits ts pl x.Elem is∧gb6 ks∨
   k=9∧b=false∧i=0∧s=[]∧id=0∧ks=[]∧r=[]∧is.length≤1∧vfits ts pl x.Elem is)
def vfits(ts:List SType)(pl:Bool)(t:Int) :List SValue→Prop
 | []=>True
 | v::l=>vfit ts pl t v∧vfits ts pl t l
def vfitm(ts:List SType)(pl:Bool) :List SMember→List SValue→Prop
 | m::ms,v::l=>vfit ts pl m.Type_ v∧vfitm ts pl ms l
 | [],[]=>True
 | _,_=>False
end
theorem wt_eq(v:SValue) :wt v=10+v.Str.length+(v.Rest.map fun x=>x.Data.length+1).sum+wts v.Keys+wts v.Items:=by
 cases v;rw[wt]
theorem gc3(v:SValue)(l:List SValue) :wts (v::l)=wt v+wts l:=by rw[wts]
theorem gb7 :wts []=0:=by rw[wts]
theorem g3f :∀{l:List SValue} {x:SValue},x∈l→wt x≤wts l
 | y::l,x,h=>by
   rw[gc3];rcases List.mem_cons.1 h with rfl | h
   · omega
   · have:=g3f h;omega
theorem gkf{p:List UInt8}(h:p.length < 1152921504606846976) :(g42 p).length≤p.length+10:=by
 have:=g35 (n:=p.length) (by omega);unfold g42;simp;omega
theorem gos{f:Fd}(h:f.p.length < 1152921504606846976)(hi:f.id≤9223372036854775807) :f.text.length≤f.p.length+20:=by
 have:=gkf h;have:=g35 (n:=2*f.id+(if f.c then 1 else 0)) (by split <;> omega);unfold Fd.text g94;simp only[List.length_append];omega
theorem gms{α β:Type}{f:α→List β}{a b:List α}(h:a.Perm b) :(a.flatMap f).length=(b.flatMap f).length:=(h.flatMap_right f).length_eq
theorem got{n:Int}(h:I64 n) :(zig n).toNat < 18446744073709551616:=by
 unfold zig I64 at*;split <;> omega
section
variable {ts:List SType}
def LenOk(ts:List SType)(v:SValue) :Prop:=∀t,(vpay ts t v).length+20≤21*wt v
theorem ggp :∀{l:List SValue} {t:Int},wts l≤1099511627776→(∀x,x∈l→LenOk ts x)→((vpays ts t l).flatMap g42).length≤21*wts l
 | [],t,_,_=>by rw[vpays];simp
 | v::l,t,hw,h=>by
   rw[vpays,List.flatMap_cons,List.length_append];rw[gc3]at hw ⊢;have h1:=h v (.head _) t;have h2:=ggp (t:=t) (by omega) fun x hx=>h x (.tail _ hx)
   have h3:=gkf (p:=vpay ts t v) (by omega);omega
theorem gm6 :∀{l:List SValue} {t:Int},vpays ts t l=l.map (vpay ts t)
 | [],t=>by rw[vpays];rfl
 | v::l,t=>by rw[vpays,List.map,gm6]
theorem gqg :∀(a b:List (List UInt8)),(ilv a b).length≤(a.flatMap g42).length+(b.flatMap g42).length
 | [],b=>by simp[ilv]
 | k::ks,[]=>by simp[ilv]
 | k::ks,v::vs=>by
   have:=gqg ks vs;simp only[ilv,List.flatMap_cons,List.length_append];omega
theorem gm7 :∀{ms:List SMember} {l:List SValue},wts l≤1099511627776→(∀m,m∈ms→m.ID≤1000)→(∀x,x∈l→LenOk ts x)→((vents ts ms l).flatMap Fd.text).length≤21*wts l
 | [],l,_,_,_=>by rw[vents] <;> simp
 | m::ms,[],_,_,_=>by rw[vents] <;> simp
 | m::ms,v::l,hw,hm,h=>by
   rw[gc3]at hw ⊢;rw[vents];have h1:=h v (.head _) m.Type_;have h2:=gm7 (ms:=ms) (l:=l) (by omega) (fun x hx=>hm x (.tail _ hx)) fun x hx=>h x (.tail _ hx)
   have h4:=hm m (.head _);split
   · omega
   · rw[List.flatMap_cons,List.length_append];have h3:=gos (f:=⟨m.ID.toNat,m.Critical,vpay ts m.Type_ v⟩) (by show(vpay ts m.Type_ v).length < _;omega) (by show m.ID.toNat≤_;omega);have h3':(Fd.text ⟨m.ID.toNat,m.Critical,vpay ts m.Type_ v⟩).length≤(vpay ts m.Type_ v).length+20:=h3;omega
theorem gou :∀{l:List SRaw},(∀x,x∈l→x.Data.length≤reachBytes∧x.ID≤9223372036854775807)→True→((l.map rawF).flatMap Fd.text).length≤21*(l.map fun x=>x.Data.length+1).sum
 | [],_,_=>by simp
 | r::l,h,_=>by
   have h1:=h r (.head _);have h2:=gou (l:=l) (fun x hx=>h x (.tail _ hx)) trivial;unfold reachBytes at h1;have h3:=gos (f:=rawF r) (by show r.Data.length < _;omega) (by show r.ID.toNat≤_;omega);have h3':(rawF r).text.length≤r.Data.length+20:=h3;simp only[List.map_cons,List.flatMap_cons,List.length_append,List.sum_cons];omega
def MOk(ts:List SType) :Prop:=∀x,x∈ts→∀m,m∈x.Members→m.ID≤1000
theorem gps{α:Type}(l:List α)(i:Nat)(d:α) :l.getD i d∈l∨l.getD i d=d:=by
 by_cases h:i < l.length
 · left;rw[List.getD_eq_getElem?_getD,List.getElem?_eq_getElem h];exact List.getElem_mem h
 · right;rw[List.getD_eq_getElem?_getD,List.getElem?_eq_none (by omega)];rfl
theorem gm8{l:List (List UInt8)}{n:Nat}(h:∀x,x∈l→x.length≤n) :(l.headD []).length≤n:=by
 cases l with
 | nil=>simp
 | cons x l=>exact h x (.head _)
theorem gqh :∀{l:List Nat} {n:Nat},n∈l→n≤l.sum
 | a::l,n,h=>by
   rw[List.sum_cons];rcases List.mem_cons.1 h with rfl | h
   · omega
   · have:=gqh h;omega
theorem gvs(hM:MOk ts){v:SValue}(h:OkV v) :wt v≤1099511627776→LenOk ts v:=by
 induction h with
 | mk v hs h1 h2 h3 hk hi hr n1 n2 n3 n4 ihk ihi=>
   intro hw t;have hwt:=wt_eq v;have LK:∀x,x∈v.Keys→LenOk ts x:=fun x hx=>ihk x hx (by have:=g3f hx;omega)
   have LI:∀x,x∈v.Items→LenOk ts x:=fun x hx=>ihi x hx (by have:=g3f hx;omega)
   have PK:=fun t=>ggp (t:=t) (l:=v.Keys) (by omega) LK
   have PI:=fun t=>ggp (t:=t) (l:=v.Items) (by omega) LI
   have hx:∀m,m∈(ts.getD t.toNat dSType).Members→m.ID≤1000:=by
     rcases gps ts t.toNat dSType with h | h
     · exact hM _ h
     · rw[h];intro m hm;cases hm
   have QI:∀t,((vpays ts t v.Items).headD []).length+20≤21*wts v.Items+20:=fun t=>by
     have:((vpays ts t v.Items).headD []).length≤21*wts v.Items:=gm8 fun p hp=>by
       rw[gm6]at hp;obtain⟨x,hx,rfl⟩:=List.mem_map.1 hp;have:=LI x hx t;have:=g3f hx;omega
     omega
   have RI:((v.Rest.map rawF).flatMap Fd.text).length≤21*(v.Rest.map fun x=>x.Data.length+1).sum:=gou (fun x hx=>⟨hr x hx,(n4 x hx).2⟩) trivial;have EI:=gm7 (ts:=ts) (ms:=(ts.getD t.toNat dSType).Members) (l:=v.Items) (by omega) hx LI;have DI:((v.Rest.map SRaw.Data).headD []).length≤(v.Rest.map fun x=>x.Data.length+1).sum:=gm8 fun p hp=>by
     obtain⟨x,hx,rfl⟩:=List.mem_map.1 hp;have:x.Data.length+1≤(v.Rest.map fun x=>x.Data.length+1).sum:=gqh (List.mem_map.2 ⟨x,hx,rfl⟩);omega
   obtain⟨K,b,i,s,id,ks,is,r⟩:=v;simp only at*;rw[vpay];have hz:=gij 8 _ (got n2);have hid:id.toNat < 18446744073709551616:=by omega
   have hb:=gij 8 _ hid;have hp:=g35 hid;generalize ts.getD t.toNat dSType=x at*;split
   · split
     · simp;omega
     · simp;omega
   · split
     · omega
     · split
       · omega
       · split
         · omega
         · split
           · rw[gms (ga5 _ _),List.flatMap_append,List.length_append];omega
           · split
             · rw[List.length_append];split
               · rename_i m _;have:=QI m.Type_;omega
               · omega
             · split
               · have:=PI x.Elem;omega
               · split
                 · have:=gqg (vpays ts x.Key ks) (vpays ts x.Elem is);have:=PK x.Key;have:=PI x.Elem;omega
                 · have:=QI x.Elem;split
                   · simp;omega
                   · rename_i p l e;rw[e]at this;simp only[List.headD_cons]at this;simp only[List.length_cons];omega
end
section
variable (ts:List SType)
mutual
theorem vlev_le :∀(v:SValue) (t:Int),vlev ts t v≤wt v
 | ⟨_,_,_,_,id,ks,is,_⟩,t=>by
   rw[vlev,wt];have h1:=vlevs_le is;have h2:=vlevm_le is;have h0:(if ks=[]then 0 else 1)≤1:=by split <;> omega
   generalize (if ks=[]then 0 else 1)=q at h0 ⊢;have h3:=h2 (ts.getD t.toNat dSType).Members;have h4:=h1 (ts.getD t.toNat dSType).Elem;split
   · omega
   · split
     · split
       · rename_i m _;have:=h1 m.Type_;omega
       · omega
     · omega
theorem vlevs_le :∀(l:List SValue) (t:Int),vlevs ts t l≤wts l
 | [],t=>by rw[vlevs];omega
 | v::l,t=>by
   rw[vlevs,wts];have:=vlev_le v t;have:=vlevs_le l t;omega
theorem vlevm_le :∀(l:List SValue) (ms:List SMember),vlevm ts ms l≤wts l
 | [], ms => by rw [vlevm]; · omega
                · intros;simp_all
 | v :: l, [] => by rw [vlevm]; · omega
                    · intros;simp_all
 | v::l,m::ms=>by
   rw[vlevm,wts];have:=vlev_le v m.Type_;have:=vlevm_le l ms;split <;> omega
end
end
section
variable {ts:List SType}
theorem g8e :∀{ms:List SMember} {l:List SValue} {x:Fd},x∈vents ts ms l→∃m,m∈ms∧x.id=m.ID.toNat
 | [],l,x,h=>by
   rw[vents]at h
   · cases h
   · intros;simp_all
 | m::ms,[],x,h=>by
   rw[vents]at h
   · cases h
   · intros;simp_all
 | m::ms,v::l,x,h=>by
   rw[vents]at h;split at h
   · obtain⟨m',h1,h2⟩:=g8e h;exact⟨m',.tail _ h1,h2⟩
   · rcases List.mem_cons.1 h with rfl | h
     · exact⟨m,.head _,rfl⟩
     · obtain⟨m',h1,h2⟩:=g8e h;exact⟨m',.tail _ h1,h2⟩
theorem gkg{ms:List SMember}{l:List SValue}{n:Nat}(h:∀m,m∈ms→m.ID.toNat≠n) :((vents ts ms l).filter fun x=>decide (x.id=n))=[]:=by
 rw[List.filter_eq_nil_iff];intro x hx;obtain⟨m,h1,h2⟩:=g8e hx;have:=h m h1;simp;omega
theorem ghz : ∀ {ms : List SMember} {l : List SValue} {n j : Nat}, ms.Pairwise (fun a b => a.ID.toNat ≠ b.ID.toNat) → l.length = ms.length → j < ms.length → (ms.getD j dSMember).ID.toNat = n →
   ((vents ts ms l).filter fun x=>decide (x.id=n))=if om (ms.getD j dSMember) (l.getD j dSValue)=true then[]else[⟨n,(ms.getD j dSMember).Critical,vpay ts (ms.getD j dSMember).Type_ (l.getD j dSValue)⟩]
 | [],l,n,j,_,_,hj,_=>by cases hj
 | m::ms,[],n,j,_,hl,_,_=>by cases hl
 | m::ms,v::l,n,0,hd,hl,hj,he=>by
   rw[List.pairwise_cons]at hd;simp only[List.getD_cons_zero]at he ⊢;have hn:=gkg (ts:=ts) (l:=l) (ms:=ms) (n:=n) fun x hx=>by have:=hd.1 x hx;omega
   rw[vents];split
   · exact hn
   · rw[List.filter_cons,if_pos (by simp[he]),hn,he]
 | m::ms,v::l,n,j+1,hd,hl,hj,he=>by
   rw[List.pairwise_cons]at hd;simp only[List.getD_cons_succ]at he ⊢;have hj':j < ms.length:=by simpa using hj
   have hm:ms.getD j dSMember∈ms:=by
     rw[List.getD_eq_getElem?_getD,List.getElem?_eq_getElem hj'];exact List.getElem_mem hj'
   have hne:=hd.1 _ hm;have ih:=ghz (l:=l) hd.2 (by simpa using hl) hj' he;rw[vents];split
   · exact ih
   · rw[List.filter_cons,if_neg (by simp;omega)];exact ih
theorem gpt(l:List SRaw)(n:Nat)(h:∀x,x∈l→0≤x.ID) :((l.map rawF).filter fun x=>decide (x.id=n))=(l.filter fun x=>decide (x.ID=(n:Int))).map rawF:=by
 rw[List.filter_map]
 congr 1
 apply List.filter_congr;intro x hx;have:=h x hx;show decide (x.ID.toNat=n)=_;by_cases e:x.ID=n
 · simp[e]
 · have:¬x.ID.toNat=n:=by omega
   simp[e,this]
noncomputable def g4e (ts:List SType) (ms:List SMember) (l:List SValue) (r:List SRaw):List Fd:=vents ts ms l++r.map rawF
def MAsc(ms:List SMember) :Prop:=ms.Pairwise (fun a b=>a.ID < b.ID)∧∀m,m∈ms→I1000 m.ID
theorem gqi{ms:List SMember}(h:MAsc ms) :ms.Pairwise (fun a b=>a.ID.toNat≠b.ID.toNat):=by
 refine h.1.imp_of_mem fun {a b} ha hb hlt=>?_
 have:=h.2 a ha;have:=h.2 b hb;unfold I1000 at*;omega
theorem ggq :∀{ms:List SMember} {l:List SValue},ms.Pairwise (fun a b=>a.ID.toNat≠b.ID.toNat)→(vents ts ms l).Pairwise (fun a b=>a.id≠b.id)
 | [],l,_=>by
   rw[vents]
   · exact .nil
   · intros;simp_all
 | m::ms,[],_=>by
   rw[vents]
   · exact .nil
   · intros;simp_all
 | m::ms,v::l,h=>by
   rw[List.pairwise_cons]at h;rw[vents];split
   · exact ggq h.2
   · rw[List.pairwise_cons];refine⟨fun x hx=>?_,ggq h.2⟩;obtain⟨m',h1,h2⟩:=g8e hx;rw[h2];exact h.1 m' h1
theorem gkh{ms:List SMember}{id:Int}(h:findM ms id=none) :∀m,m∈ms→m.ID≠id:=by
 unfold findM at h;rw[List.find?_eq_none]at h;intro m hm;simpa using h m hm
theorem gf7{ms:List SMember}{l:List SValue}{r:List SRaw}(h:MAsc ms)(hr:g80 ms r) :g6n ltF (g4e ts ms l r)=true:=by
 apply gm5;have key:(g4e ts ms l r).Pairwise (fun a b=>a.id≠b.id):=by
   unfold g4e;rw[List.pairwise_append];refine⟨ggq (gqi h),?_,?_⟩
   · rw[List.pairwise_map];refine hr.1.imp_of_mem fun {a b} ha hb hlt=>?_
     have:=(hr.2 a ha).1;have:=(hr.2 b hb).1;show a.ID.toNat≠b.ID.toNat;unfold I1000 at*;omega
   · intro x hx y hy;obtain⟨m,h1,h2⟩:=g8e hx;obtain⟨q,h3,rfl⟩:=List.mem_map.1 hy;have h4:=gkh (hr.2 q h3).2 m h1;have:=h.2 m h1;have:=(hr.2 q h3).1;show x.id≠q.ID.toNat;unfold I1000 at*;omega
 refine key.imp fun {a b} hne=>?_
 simp only[ltF,decide_eq_true_eq];omega
theorem gov{ms:List SMember}{l:List SValue}{r:List SRaw}(h:MAsc ms)(hr:g80 ms r){x:Fd}(hx:x∈g4e ts ms l r) :1≤x.id∧x.id≤1000:=by
 rcases List.mem_append.1 hx with hx | hx
 · obtain⟨m,h1,h2⟩:=g8e hx;have:=h.2 m h1;unfold I1000 at*;omega
 · obtain⟨q,h3,rfl⟩:=List.mem_map.1 hx;have:=(hr.2 q h3).1;unfold I1000 at*;show 1≤q.ID.toNat∧q.ID.toNat≤1000;omega
theorem gwr :SWO ltF:=by
 refine⟨fun x=>?_,fun x y z h1 h2=>?_,fun x y z h1 h2=>?_⟩ <;> simp[ltF]at* <;> omega
theorem gmt {l : List Fd} (hp : g6n ltF l = true) (hr : ∀ x, x ∈ l → 1 ≤ x.id ∧ x.id ≤ 1000) :
   isoB ltF l=(List.range' 1 1000).flatMap fun n=>l.filter fun x=>decide (x.id=n):=by
 refine ghu hp (ga5 _ _) (gke Fd.id _ List.nodup_range' l fun x hx=>?_) (gd0 gwr l) (goq Fd.id 1 1000 l);have:=hr x hx;rw[List.mem_range'_1];omega
end
section
variable {ts:List SType} {pl:Bool}
theorem g24 :∀{l:List SValue} {t:Int},vfits ts pl t l↔∀x,x∈l→vfit ts pl t x
 | [],t=>by rw[vfits];simp
 | v::l,t=>by
   rw[vfits,g24];constructor
   · rintro ⟨h1,h2⟩ x hx
     rcases List.mem_cons.1 hx with rfl | hx
     · exact h1
     · exact h2 x hx
   · intro h;exact⟨h v (.head _),fun x hx=>h x (.tail _ hx)⟩
theorem g8f :∀{ms:List SMember} {l:List SValue},vfitm ts pl ms l↔l.length=ms.length∧∀i,i < ms.length→vfit ts pl (ms.getD i dSMember).Type_ (l.getD i dSValue)
 | [],[]=>by
   have:vfitm ts pl [] []=True:=by rw[vfitm]
   rw[this];simp
 | [],v::l=>by
   have:vfitm ts pl [] (v::l)=False:=by rw[vfitm] <;> (intros;simp_all)
   rw[this];simp
 | m::ms,[]=>by
   have:vfitm ts pl (m::ms) []=False:=by rw[vfitm] <;> (intros;simp_all)
   rw[this];simp
 | m::ms,v::l=>by
   rw[vfitm,g8f];constructor
   · rintro ⟨h1,h2,h3⟩
     refine⟨by simp[h2],fun i hi=>?_⟩;cases i with
     | zero=>exact h1
     | succ i=>exact h3 i (by simpa using hi)
   · rintro ⟨h1,h2⟩
     exact⟨h2 0 (by simp),by simpa using h1,fun i hi=>h2 (i+1) (by simpa using hi)⟩
end
end
section
open Go Go.Proofs.YthnmepafpikaiaaGreat.Shv Go.Sort
set_option maxRecDepth 100000
def SaysP(o:Option Bool)(P:Prop) :Prop:=∃r,o=some r∧(r=true↔P)
theorem SaysP.imp{o:Option Bool}{P Q:Prop}(h:SaysP o P)(e:P↔Q) :SaysP o Q:=by
 obtain⟨r,h1,h2⟩:=h;exact⟨r,h1,h2.trans e⟩
theorem SaysP.of{b:Bool}{P:Prop}(e:b=true↔P) :SaysP (some b) P:=⟨b,rfl,e⟩
theorem SaysP.loop {L : Nat → Option (Bool ⊕ Unit)} {n : Nat} {p : Nat → Bool} {g : Unit} {o : Option (Bool ⊕ Unit)} (h0 : o = L 0) (hstep : ∀ i, i < n → L i = if p i = true then L (i + 1) else some (.inl false)) (hend : L n = some (.inr g)) :
   SaysP (o >>=fun o=>match o with | .inl x=>some x | .inr _=>some true) (∀i,i < n→p i=true):=by
 subst h0;rcases scan L n p (.inl false) (.inr g) hstep hend with⟨h1,h2⟩ | ⟨h1,j,h2,h3⟩
 · rw[h1];exact⟨true,rfl,by simpa using h2⟩
 · rw[h1];refine⟨false,rfl,?_⟩;constructor
   · intro h;cases h
   · intro h;have:=h j h2;rw[h3]at this;cases this
theorem ggv{α:Type}(f:α→Int)(d:α) :∀l:List α,l.Pairwise (fun a b=>f a < f b)↔∀i,i+1 < l.length→f (l.getD i d) < f (l.getD (i+1) d)
 | []=>by simp
 | [a]=>by simp
 | a::b::l=>by
   rw[List.pairwise_cons,ggv f d (b::l)];constructor
   · rintro ⟨h1,h2⟩ i hi
     cases i with
     | zero=>exact h1 b (.head _)
     | succ i=>exact h2 i (by simpa using hi)
   · intro h;have h2:∀i,i+1 < (b::l).length→f ((b::l).getD i d) < f ((b::l).getD (i+1) d):=fun i hi=>h (i+1) (by simpa using hi)
     refine⟨fun x hx=>?_,h2⟩;have h0:=h 0 (by simp);simp only[List.getD_cons_zero,List.getD_cons_succ]at h0;have h3:=(ggv f d (b::l)).2 h2;rw[List.pairwise_cons]at h3;rcases List.mem_cons.1 hx with rfl | hx
     · exact h0
     · have:=h3.1 x hx;omega
section
variable {ts:List SType}
def FitS(ts:List SType)(x:SValue) :Prop:=∀t pl,SaysP (g1e ((⟨ts⟩:SSchema),t,x,pl)) (vfit ts pl t x)
theorem gow{l:List SValue}(hl:l.length≤reachBytes)(ih:∀x,x∈l→FitS ts x)(t:Int)(pl:Bool) :SaysP (g3m ((⟨ts⟩:SSchema),t,l,pl)) (vfits ts pl t l):=by
 have hr:=g11 hl
 let p:Nat→Bool:=fun i=>(g1e ((⟨ts⟩:SSchema),t,l.getD i dSValue,pl)).getD false
 have hp:∀i,i < l.length→g1e ((⟨ts⟩:SSchema),t,l.getD i dSValue,pl)=some (p i)∧(p i=true↔vfit ts pl t (l.getD i dSValue)):=by
   intro i hi;obtain⟨r,h1,h2⟩:=ih _ (gj hi dSValue) t pl;refine⟨by simp only[p,h1,Option.getD_some],?_⟩;simp only[p,h1,Option.getD_some];exact h2
 rw[g3m];refine(SaysP.loop (L:=fun i=>g1g (t,l,pl,(i:Int),ts)) (n:=l.length) (p:=p) (g:=()) rfl (fun i hi=>?_) ?_).imp ?_
 · show g1g (t,l,pl,(i:Int),ts)=if p i=true then g1g (t,l,pl,((i+1:Nat):Int),ts)else _
   rw[g1g,if_pos (by simp;omega),if_pos (g6 hi)];simp only[SValue.gq,gb];rw[(hp i hi).1,gg (by omega)];cases p i <;> rfl
 · show g1g (t,l,pl,(l.length:Int),ts)=_;rw[g1g,if_neg (by simp)]
 · rw[g24];constructor
   · intro h x hx;obtain⟨i,hi,rfl⟩:=List.getElem_of_mem hx;have:=(hp i hi).2.1 (h i hi);rw[g16 hi]at this;exact this
   · intro h i hi;exact(hp i hi).2.2 (h _ (gj hi dSValue))
theorem g6w{l:List SMember}{id:Int}{r:Int × Bool}(h:gdz l id r) :(r.2=true∧∃j:Nat,j < l.length∧r.1=(j:Int)∧findM l id=some (l.getD j dSMember)∧(l.getD j dSMember).ID=id)∨(r.2=false∧findM l id=none):=by
 rcases h with⟨j,h1,h2,h3,rfl⟩ | ⟨h1,rfl⟩
 · refine .inl ⟨rfl,j,h1,rfl,?_,h2⟩;unfold findM;rw[List.find?_eq_some_iff_getElem];refine⟨by rw[decide_eq_true_eq];exact h2,j,h1,(g16 h1 _).symm,fun k hk=>?_⟩;have:=h3 k hk;rw[g16 (by omega)]at this
   simpa using this
 · refine .inr ⟨rfl,?_⟩;unfold findM;rw[List.find?_eq_none];intro m hm;obtain⟨i,hi,rfl⟩:=List.getElem_of_mem hm;have:=h1 i hi;rw[g16 hi]at this
   simpa using this
theorem guj{t:SType}(ht:t.Members.length < 9223372036854775807){l:List SRaw}(hl:l.length≤reachBytes) :SaysP (g3y (t,l)) (g80 t.Members l):=by
 have hr:=g11 hl;rw[g3y]
 let p:Nat→Bool:=fun i=>!((g1z (t,(l.getD i dSRaw).ID)).getD (0,false)).2 && (bif decide (1≤(l.getD i dSRaw).ID)then decide ((l.getD i dSRaw).ID≤1000)else false) && (!(decide ((0:Int) < (i:Int))) || !(decide ((l.getD i dSRaw).ID≤(l.getD (subI .i64 (i:Int) 1).toNat dSRaw).ID)))
 refine(SaysP.loop (L:=fun i=>g1b (l,(i:Int),t)) (n:=l.length) (p:=p) (g:=()) rfl (fun i hi=>?_) ?_).imp ?_
 · show g1b (l,(i:Int),t)=if p i=true then g1b (l,((i+1:Nat):Int),t)else _
   obtain⟨r,h1,h2,_⟩:=g45 (t:=t) (l.getD i dSRaw).ID ht;have hpi:p i=(!r.2 && (bif decide (1≤(l.getD i dSRaw).ID)then decide ((l.getD i dSRaw).ID≤1000)else false) && (!(decide ((0:Int) < (i:Int))) || !(decide ((l.getD i dSRaw).ID≤(l.getD (subI .i64 (i:Int) 1).toNat dSRaw).ID)))):=by simp only[p,h1,Option.getD_some]
   rw[hpi,g1b,if_pos (by simp;omega),if_pos (g6 hi)];simp only[gb];rw[h2,gg (by omega)];have hid:g15 ((l.getD i dSRaw).ID,r.2)=some ((!r.2) && (bif decide (1≤(l.getD i dSRaw).ID)then decide ((l.getD i dSRaw).ID≤1000)else false)):=by
     rw[g15];cases r.2 <;> cases decide (1≤(l.getD i dSRaw).ID) <;> rfl
   show(if inR (i:Int) l.length=true then g15 ((l.getD i dSRaw).ID,r.2) >>=_ else none)=_;rw[if_pos (g6 hi),hid]
   exact ghy ((!r.2) && (bif decide (1≤(l.getD i dSRaw).ID)then decide ((l.getD i dSRaw).ID≤1000)else false)) (inR (i:Int) l.length) (decide ((0:Int) < (i:Int))) (subI .i64 (i:Int) 1) (fun j=>inR j l.length) (fun j=>decide ((l.getD i dSRaw).ID≤(l.getD j.toNat dSRaw).ID)) _ _ (g6 hi) (fun hz=>by
     have:0 < i:=by simp at hz;omega
     show inR _ _=true
     rw[g6e this (by omega)];exact g6 (by omega))
 · show g1b (l,(l.length:Int),t)=_;rw[g1b,if_neg (by simp)]
 · unfold g80;rw[ggv (fun a:SRaw=>a.ID) dSRaw];have key:∀i,i < l.length→(p i=true↔(I1000 (l.getD i dSRaw).ID∧findM t.Members (l.getD i dSRaw).ID=none)∧(i=0∨(l.getD (i - 1) dSRaw).ID < (l.getD i dSRaw).ID)):=by
     intro i hi;obtain⟨r,h1,h2,hf⟩:=g45 (t:=t) (l.getD i dSRaw).ID ht;have hpi:p i=(!r.2 && (bif decide (1≤(l.getD i dSRaw).ID)then decide ((l.getD i dSRaw).ID≤1000)else false) && (!(decide ((0:Int) < (i:Int))) || !(decide ((l.getD i dSRaw).ID≤(l.getD (subI .i64 (i:Int) 1).toNat dSRaw).ID)))):=by simp only[p,h1,Option.getD_some]
     rw[hpi];have hn:r.2=false↔findM t.Members (l.getD i dSRaw).ID=none:=by
       rcases g6w hf with⟨a,j,_,_,b,_⟩ | ⟨a,b⟩
       · rw[a,b];simp
       · rw[a,b];simp
     rw[←hn];unfold I1000;by_cases h0:i=0
     · subst h0;cases r.2 <;> by_cases g1:1≤(l.getD 0 dSRaw).ID <;> by_cases g2:(l.getD 0 dSRaw).ID≤1000 <;> simp[g1,g2]
     · have hz:decide ((0:Int) < (i:Int))=true:=by simp;omega
       rw[hz,g6e (by omega) (by omega),gb];generalize (l.getD (i - 1) dSRaw).ID=y;generalize (l.getD i dSRaw).ID=x;cases r.2 <;> by_cases g1:1≤x <;> by_cases g2:x≤1000 <;> by_cases g3:y < x <;> simp[h0,g1,g2,g3] <;> omega
   constructor
   · intro h;refine⟨fun i hi=>?_,fun x hx=>?_⟩
     · have:=((key (i+1) hi).1 (h _ hi)).2;rcases this with h | h
       · omega
       · exact h
     · obtain⟨i,hi,rfl⟩:=List.getElem_of_mem hx;have:=((key i hi).1 (h _ hi)).1;rw[g16 hi]at this;exact this
   · rintro ⟨h1,h2⟩ i hi
     refine(key i hi).2 ⟨h2 _ (gj hi dSRaw),?_⟩;by_cases h0:i=0
     · exact .inl h0
     · right;have:=h1 (i - 1) (by omega);have e:i - 1+1=i:=by omega
       rw[e]at this;exact this
theorem gsi {t : SType} {v : SValue} (hl : v.Items.length = t.Members.length) (hr : t.Members.length < 9223372036854775807) (ih : ∀ x, x ∈ v.Items → FitS ts x) (pl : Bool) :
   SaysP (gz (pl,0,ts,v,t.Kind,t.Name,t.Low,t.High,t.Max,t.Symbols,t.Members,t.Key,t.Elem,t.Open) >>=fun o=>match o with | .inl o_1=>some o_1 | .inr _=>some true) (vfitm ts pl t.Members v.Items):=by
 let p:Nat→Bool:=fun i=>(g1e ((⟨ts⟩:SSchema),(t.Members.getD i dSMember).Type_,v.Items.getD i dSValue,pl)).getD false
 have hp:∀i,i < t.Members.length→g1e ((⟨ts⟩:SSchema),(t.Members.getD i dSMember).Type_,v.Items.getD i dSValue,pl)=some (p i)∧(p i=true↔vfit ts pl (t.Members.getD i dSMember).Type_ (v.Items.getD i dSValue)):=by
   intro i hi;obtain⟨r,h1,h2⟩:=ih _ (gj (by omega:i < v.Items.length) dSValue) (t.Members.getD i dSMember).Type_ pl;refine⟨by simp only[p,h1,Option.getD_some],?_⟩;simp only[p,h1,Option.getD_some];exact h2
 refine(SaysP.loop (L:=fun i=>gz (pl,(i:Int),ts,v,t.Kind,t.Name,t.Low,t.High,t.Max,t.Symbols,t.Members,t.Key,t.Elem,t.Open)) (n:=t.Members.length) (p:=p) (g:=()) rfl (fun i hi=>?_) ?_).imp ?_
 · show gz (pl,(i:Int),ts,v,t.Kind,t.Name,t.Low,t.High,t.Max,t.Symbols,t.Members,t.Key,t.Elem,t.Open)=if p i=true then gz (pl,((i+1:Nat):Int),ts,v,t.Kind,t.Name,t.Low,t.High,t.Max,t.Symbols,t.Members,t.Key,t.Elem,t.Open)else _
   rw[gz,if_pos (by simp;omega),if_pos (g6 hi),if_pos (g6 (by omega))];simp only[gb,SValue.gq];rw[(hp i hi).1,gg (by omega)];cases p i <;> rfl
 · show gz (pl,(t.Members.length:Int),ts,v,t.Kind,t.Name,t.Low,t.High,t.Max,t.Symbols,t.Members,t.Key,t.Elem,t.Open)=_;rw[gz,if_neg (by simp;omega)]
 · rw[g8f];constructor
   · intro h;exact⟨hl,fun i hi=>(hp i hi).2.1 (h i hi)⟩
   · rintro ⟨_,h⟩ i hi;exact(hp i hi).2.2 (h i hi)
theorem guk {v : SValue} (hr : v.Keys.length < 9223372036854775807) (hk : ∀ x, x ∈ v.Keys → OkV x) :
   SaysP (gu (1,v) >>=fun o_3=>match o_3 with | .inl o_4=>some o_4 | .inr _=>some true) (gb6 v.Keys):=by
 by_cases h0:v.Keys.length=0
 · rw[gu,if_neg (by simp[h0])];refine⟨true,rfl,?_⟩;unfold gb6;simp only[true_iff];intro i hi;omega
 refine(SaysP.loop (L:=fun i=>gu (((i+1:Nat):Int),v)) (n:=v.Keys.length - 1) (p:=fun i=>!(decide (0≤vcmp (v.Keys.getD i dSValue) (v.Keys.getD (i+1) dSValue)))) (g:=()) rfl (fun i hi=>?_) ?_).imp ?_
 · show gu (((i+1:Nat):Int),v)=if _ then gu (((i+1+1:Nat):Int),v)else _
   have hs':subI .i64 ((i+1:Nat):Int) 1=(i:Int):=by rw[g6e (by omega) (by omega)];simp
   obtain⟨r,c1,c2⟩:=ggn (ggu (hk _ (gj (by omega:i < v.Keys.length) dSValue))) (ggu (hk _ (gj (by omega:i+1 < v.Keys.length) dSValue)));have hv:vcmp (v.Keys.getD i dSValue) (v.Keys.getD (i+1) dSValue)=r:=by unfold vcmp;rw[c1];rfl
   rw[hv,gu,if_pos (by simp;omega)];simp only[oZ4,oZ3];rw[hs',if_pos (g6 (by omega)),if_pos (g6 (by omega))];simp only[gb,SValue.gq];rw[c2,gg (by omega)];simp only[oZ3];cases decide (0≤r) <;> rfl
 · have e:v.Keys.length - 1+1=v.Keys.length:=by omega
   show gu (((v.Keys.length - 1+1:Nat):Int),v)=_;rw[e,gu,if_neg (by simp)]
 · unfold gb6;constructor
   · intro h i hi;have:=h i (by omega)
     simpa using this
   · intro h i hi;have:=h i (by omega)
     simpa using this
theorem g6b (pl : Bool) (t : Int) (v : SValue) : vfit ts pl t v ↔
   (0≤t∧t < ts.length∧v.Kind=(ts.getD t.toNat dSType).Kind∧(pl=true→v.Rest=[]))∧
   (v.Kind=1∧v.Int_=0∧v.Str=[]∧v.ID=0∧v.Keys=[]∧v.Items=[]∧v.Rest=[]∨
   v.Kind=2∧v.Bool_=false∧v.Str=[]∧v.ID=0∧v.Keys=[]∧v.Items=[]∧v.Rest=[]∧(ts.getD t.toNat dSType).Low≤v.Int_∧v.Int_≤(ts.getD t.toNat dSType).High∨
   v.Kind=3∧v.Bool_=false∧v.Int_=0∧v.ID=0∧v.Keys=[]∧v.Items=[]∧v.Rest=[]∧(v.Str.length:Int)≤(ts.getD t.toNat dSType).Max∨
   v.Kind=4∧v.Bool_=false∧v.Int_=0∧v.Str=[]∧v.Keys=[]∧v.Items=[]∧v.Rest=[]∧((∃y,y∈(ts.getD t.toNat dSType).Symbols∧y.ID=v.ID)∨(ts.getD t.toNat dSType).Open=true∧pl=false∧I1000 v.ID)∨
   v.Kind=5∧v.Bool_=false∧v.Int_=0∧v.Str=[]∧v.ID=0∧v.Keys=[]∧g80 (ts.getD t.toNat dSType).Members v.Rest∧vfitm ts pl (ts.getD t.toNat dSType).Members v.Items∨
   v.Kind=6∧v.Bool_=false∧v.Int_=0∧v.Str=[]∧v.Keys=[]∧(match findM (ts.getD t.toNat dSType).Members v.ID with
     | some m=>v.Rest=[]∧v.Items.length=1∧vfits ts pl m.Type_ v.Items
     | none=>(ts.getD t.toNat dSType).Open=true∧pl=false∧I1000 v.ID∧v.Items=[]∧∃d,v.Rest=[⟨v.ID,d⟩])∨
   v.Kind=7∧v.Bool_=false∧v.Int_=0∧v.Str=[]∧v.ID=0∧v.Keys=[]∧v.Rest=[]∧(v.Items.length:Int)≤(ts.getD t.toNat dSType).Max∧vfits ts pl (ts.getD t.toNat dSType).Elem v.Items∨
   v.Kind=8∧v.Bool_=false∧v.Int_=0∧v.Str=[]∧v.ID=0∧v.Rest=[]∧(v.Keys.length:Int)≤(ts.getD t.toNat dSType).Max∧v.Items.length=v.Keys.length∧vfits ts pl (ts.getD t.toNat dSType).Key v.Keys∧vfits ts pl (ts.getD t.toNat dSType).Elem v.Items∧gb6 v.Keys∨
   v.Kind=9∧v.Bool_=false∧v.Int_=0∧v.Str=[]∧v.ID=0∧v.Keys=[]∧v.Rest=[]∧v.Items.length≤1∧vfits ts pl (ts.getD t.toNat dSType).Elem v.Items):=by
 cases v;rw[vfit];try exact Iff.rfl
end
end
section
open Go Go.Proofs.YthnmepafpikaiaaGreat.Shv Go.Sort
set_option maxRecDepth 100000
def ZeroV(v:SValue) :Prop:=(v.Kind=1∨v.Bool_=false)∧(v.Kind=2∨v.Int_=0)∧(v.Kind=3∨v.Str=[])∧((v.Kind=4∨v.Kind=6)∨v.ID=0)∧(v.Kind=8∨v.Keys=[])∧(5≤v.Kind∨v.Items=[])∧((v.Kind=5∨v.Kind=6)∨v.Rest=[])
theorem gul(v:SValue) :SaysP (g4j v) (ZeroV v):=by
 rw[g4j];refine .of ?_;unfold ZeroV;have e:∀{α:Type} (l:List α),((l.length:Int)=0)↔l=[]:=fun l=>by
   cases l with
   | nil=>simp
   | cons a l=>simp;omega
 simp only[Bool.cond_eq_ite,Bool.ite_eq_true_distrib,e];have h1:∀{a b:Bool},(if a=true then true else b)=true↔(a=true∨b=true):=fun {a b}=>by cases a <;> simp
 have h2:∀{a b:Bool},(if a=true then b else false)=true↔(a=true∧b=true):=fun {a b}=>by cases a <;> simp
 simp[and_assoc];constructor
 · rintro h
   simp_all
   grind
 · grind
theorem cutS{z b:Bool}{o:Option Bool}{P Z Q:Prop}(hz:z=true↔Z)(hb:b=false↔Q)(ho:SaysP o P) :SaysP (if(bif (bif false then true else(!z))then true else b)=true then some false else o) (Z∧Q∧P):=by
 obtain⟨r,rfl,h⟩:=ho;cases z with
 | false=>
   refine⟨false,rfl,?_⟩;simp at hz;simp[hz]
 | true=>
   cases b with
   | true=>refine⟨false,rfl,?_⟩;simp at hb;simp[hb]
   | false=>refine⟨r,rfl,?_⟩;simp at hz hb;simp[hz,hb,h]
theorem and2S{q:Bool}{o:Option Bool}{P Q:Prop}(hq:q=true↔Q)(ho:SaysP o P) :SaysP (some q >>=fun t244=>(if t244=true then o else some false) >>=fun r_10=>some (bif t244 then r_10 else false)) (Q∧P):=by
 obtain⟨r,rfl,h⟩:=ho;refine⟨q && r,by cases q <;> cases r <;> rfl,?_⟩;rw[Bool.and_eq_true,hq,h]
theorem and5S {A : Bool} {ro L : Option Bool} {PA PR PM : Prop} (hA : A = true ↔ PA) (hr : SaysP ro PR) (hM : A = true → SaysP L PM) :
   SaysP (some (!A) >>=fun t107=>(if(!t107)=true then ro else some false) >>=fun r_5=>if(bif t107 then true else(!r_5))=true then some false else L) (PA∧PR∧PM):=by
 obtain⟨q,rfl,hq⟩:=hr;cases A with
 | false=>refine⟨false,rfl,?_⟩;simp at hA;simp[hA]
 | true=>
   obtain⟨m,rfl,hm⟩:=hM rfl;cases q with
   | false=>refine⟨false,rfl,?_⟩;simp at hq;simp[hq]
   | true=>refine⟨m,rfl,?_⟩;simp at hA hq;simp[hA,hq,hm]
theorem and8S {c : Bool} {ok oi L : Option Bool} {PC PK PI PQ : Prop} (hc : c = false ↔ PC) (hk : SaysP ok PK) (hi : SaysP oi PI) (hL : SaysP L PQ) :
   SaysP (some c >>=fun t239=>(if(!t239)=true then ok else some false) >>=fun r_12=>some (bif t239 then true else(!r_12)) >>=fun t249=>(if(!t249)=true then oi else some false) >>=fun r_13=>if(bif t249 then true else(!r_13))=true then some false else L) (PC∧PK∧PI∧PQ):=by
 obtain⟨k,rfl,hk⟩:=hk;obtain⟨i,rfl,hi⟩:=hi;obtain⟨q,rfl,hq⟩:=hL;rw[←hc,←hk,←hi,←hq];cases c <;> cases k <;> cases i <;> exact⟨_,rfl,by simp⟩
theorem gsj{l:List SSymbol}{id:Int}{r:Int × Bool}(h:ge0 l id r) :r.2=true↔∃y,y∈l∧y.ID=id:=by
 rcases h with⟨j,h1,h2,h3,rfl⟩ | ⟨h1,rfl⟩
 · simp only[true_iff];exact⟨_,gj h1 dSSymbol,h2⟩
 · constructor
   · intro h;cases h
   · rintro ⟨y,hy,he⟩
     obtain⟨i,hi,rfl⟩:=List.getElem_of_mem hy;have:=h1 i hi;rw[g16 hi]at this;exact absurd he this
section
variable {ts:List SType} (hn:ts.length < 9223372036854775807) (hT:∀t,t∈ts→OkT t) (hK:∀t,t∈ts→g95 t.Kind)
include hn hT hK in
theorem gvt{v:SValue}(hv:OkV v) :FitS ts v:=by
 induction hv with
 | mk v hs h1 h2 h3 hk hi hrd n1 n2 n3 n4 ihk ihi=>
   intro t pl;rw[g1e];by_cases hout:(bif decide (t < 0)then true else decide (((⟨ts⟩:SSchema).Types.length:Int)≤t))=true
   · rw[if_pos hout];refine⟨false,rfl,?_⟩;rw[g6b];have:¬(0≤t∧t < ts.length):=by
       intro hh;simp only[Bool.cond_eq_ite]at hout;by_cases h0:t < 0
       · omega
       · simp[h0]at hout;omega
     constructor
     · intro h;cases h
     · rintro ⟨⟨a,b,_⟩,_⟩;exact absurd ⟨a,b⟩ this
   · rw[if_neg hout];have hin:0≤t∧t < ts.length:=by
       simp only[Bool.cond_eq_ite]at hout;by_cases h0:t < 0
       · simp[h0]at hout
       · simp[h0]at hout;omega
     obtain⟨j,rfl⟩:∃j:Nat,t=(j:Int):=⟨t.toNat,by omega⟩
     have hj:j < ts.length:=by omega
     rw[if_pos (g6 hj)];simp only[g6b,gb,SValue.gq];have hxT:=hT _ (gj hj dSType);have hxK:=hK _ (gj hj dSType);generalize ts.getD j dSType=x at hxT hxK ⊢;have hm:=g11 (g3j hxT.mems);have hsy:=g11 (g3j hxT.syms);by_cases hkd:v.Kind=x.Kind
     · obtain⟨z,z1,z2⟩:=gul v;have hitems:=gow (ts:=ts) h2 ihi;have hkeys:=gow (ts:=ts) h1 ihk;show SaysP ((if(!(!(decide (v.Kind=x.Kind))))=true then g4j v else some false) >>=_) _;rw[if_pos (by simp[hkd]),z1];obtain⟨K,N,L,H,M,S,Ms,Ke,E,O⟩:=x;obtain⟨vK,B,I,Sx,ID,Ks,Is,R⟩:=v;simp only at hkd;subst hkd;simp only at hxK hm hsy h1 h2 h3 z1
       have hb:(bif pl then decide (0 < (R.length:Int))else false)=false↔(pl=true→R=[]):=by
         cases pl
         · simp
         · cases R <;> simp
       have hc:vK=1∨vK=2∨vK=3∨vK=4∨vK=5∨vK=6∨vK=7∨vK=8∨vK=9:=by unfold g95 at hxK;omega
       have cut : ∀ {o : Option Bool} {P W : Prop}, SaysP o P → ((ZeroV ⟨vK, B, I, Sx, ID, Ks, Is, R⟩ ∧ (pl = true → R = []) ∧ P) ↔ W) →
           SaysP (some z >>=fun r=>if(bif (bif false then true else(!r))then true else bif pl then decide (0 < (R.length:Int))else false)=true then some false else o) W:=fun ho hw=>(cutS z2 hb ho).imp hw
       have hz:(0:Int)≤j∧(j:Int) < ts.length:=hin;rcases hc with rfl | rfl | rfl | rfl | rfl | rfl | rfl | rfl | rfl
       · exact cut (P:=True) (.of (b:=true) (by simp)) (by unfold ZeroV;simp[hz];grind)
       · exact cut (P:=L≤I∧I≤H) (.of (b:=bif decide (L≤I)then decide (I≤H)else false) (by by_cases g:L≤I <;> simp[g])) (by unfold ZeroV;simp[hz];grind)
       · exact cut (P:=(Sx.length:Int)≤M) (.of (b:=decide ((Sx.length:Int)≤M)) (by simp)) (by unfold ZeroV;simp[hz];grind)
       · obtain⟨r,_,r2,hf⟩:=ghx (t:=⟨4,N,L,H,M,S,Ms,Ke,E,O⟩) ID hsy;have hid:g15 (ID,false)=some (bif decide (1≤ID)then decide (ID≤1000)else false):=by
           rw[g15];cases decide (1≤ID) <;> rfl
         have h4:=k4r r2 O pl _ (fun b=>g15 (ID,b)) hid;have hs:=gsj hf;simp only at hs;refine cut (P:=(∃y,y∈S∧y.ID=ID)∨O=true∧pl=false∧I1000 ID) ⟨_,h4,?_⟩ (by unfold ZeroV;simp[hz];grind);rw[←hs];unfold I1000;cases r.2 <;> cases O <;> cases pl <;> by_cases g1:1≤ID <;> by_cases g2:ID≤1000 <;> simp[g1,g2]
       · refine cut (P:=Is.length=Ms.length∧g80 Ms R∧vfitm ts pl Ms Is) ?_ (by
           have:vfitm ts pl Ms Is→Is.length=Ms.length:=fun h=>(g8f.1 h).1
           unfold ZeroV;simp[hz];grind)
         exact and5S (A:=decide ((Is.length:Int)=(Ms.length:Int))) (by simp;omega) (guj (t:=⟨5,N,L,H,M,S,Ms,Ke,E,O⟩) hm h3) (fun hA=>gsi (ts:=ts) (t:=⟨5,N,L,H,M,S,Ms,Ke,E,O⟩) (v:=⟨5,B,I,Sx,ID,Ks,Is,R⟩) (gkc hA) hm ihi pl)
       · obtain⟨r,_,r2,hf⟩:=g45 (t:=⟨6,N,L,H,M,S,Ms,Ke,E,O⟩) ID hm;have hid:∀b,b=false→g15 (ID,b)=some (bif decide (1≤ID)then decide (ID≤1000)else false):=by
           intro b hb;subst hb;rw[g15];cases decide (1≤ID) <;> rfl
         have hR0:decide ((R.length:Int)=1)=true→inR 0 R.length=true:=by
           intro h;have:=of_decide_eq_true h;exact g6 (k:=0) (by omega)
         refine cut (P:=match findM Ms ID with
           | some m=>R=[]∧Is.length=1∧vfits ts pl m.Type_ Is
           | none=>O=true∧pl=false∧I1000 ID∧Is=[]∧∃d,R=[⟨ID,d⟩]) ?_ (by
             unfold ZeroV;simp[hz]
             cases findM Ms ID <;> grind)
         obtain⟨ri,rk⟩:=r;show SaysP (g1j (⟨6,N,L,H,M,S,Ms,Ke,E,O⟩,ID) >>=_) _;rw[r2];rcases g6w hf with⟨e,k,k1,k2,k3,k4⟩ | ⟨e,k3⟩
         · simp only at e k1 k2 k3 k4;subst e;subst k2;rw[k3];have hX:∃f:Bool,((bif decide ((Is.length:Int)=1)then decide ((R.length:Int)=0)else false)=true→g1e ((⟨ts⟩:SSchema),(Ms.getD (k:Int).toNat dSMember).Type_,Is.getD (0:Int).toNat dSValue,pl)=some f)∧(Is.length=1→(f=true↔vfits ts pl (Ms.getD k dSMember).Type_ Is)):=by
             by_cases h1':Is.length=1
             · obtain⟨f,f1,f2⟩:=ihi (Is.getD 0 dSValue) (gj (by omega:0 < Is.length) dSValue) (Ms.getD k dSMember).Type_ pl;refine⟨f,fun _=>f1,fun _=>?_⟩;rw[f2]
               match Is,h1' with
               | [y],_=>rw[g24];simp
             · refine⟨false,fun h=>?_,fun h=>absurd h h1'⟩
               exfalso
               have:decide ((Is.length:Int)=1)=false:=by simp;omega
               rw[this]at h;cases h
           obtain⟨f,f1,f2⟩:=hX;have hidx:(bif decide ((Is.length:Int)=1)then decide ((R.length:Int)=0)else false)=true→inR (k:Int) Ms.length=true∧inR 0 Is.length=true:=by
             intro hc';refine⟨g6 k1,?_⟩;by_cases h1':Is.length=1
             · exact g6 (k:=0) (by omega)
             · have:decide ((Is.length:Int)=1)=false:=by simp;omega
               rw[this]at hc';cases hc'
           refine⟨_,k6k _ (inR (k:Int) Ms.length) (inR 0 Is.length) f f1 hidx,?_⟩;by_cases g1:Is.length=1
           · have g2:=f2 g1;simp only[g1,Bool.and_eq_true,g2];cases R <;> simp <;> omega
           · have:decide ((Is.length:Int)=1)=false:=by simp;omega
             simp[this,g1]
         · simp only at e k3;subst e;rw[k3];refine⟨_,k6u (bif O then(!pl)else false) (bif decide (1≤ID)then decide (ID≤1000)else false) (decide ((Is.length:Int)=0)) (decide ((R.length:Int)=1)) (inR 0 R.length) (decide ((R.getD (0:Int).toNat dSRaw).ID=ID)) hR0,?_⟩;unfold I1000
           match R with
           | []=>simp
           | [⟨rid,rd⟩]=>
             cases O <;> cases pl <;> by_cases g1:1≤ID <;> by_cases g2:ID≤1000 <;> cases Is <;> by_cases g3:rid=ID <;> simp[g1,g2,g3] <;> omega
           | a::b::c=>simp;omega
       · exact cut (P:=(Is.length:Int)≤M∧vfits ts pl E Is) (and2S (by simp) (hitems E pl)) (by unfold ZeroV;simp[hz];grind)
       · refine cut (P:=((Ks.length:Int)≤M∧Is.length=Ks.length)∧vfits ts pl Ke Ks∧vfits ts pl E Is∧gb6 Ks) ?_ (by unfold ZeroV;simp[hz];grind);refine and8S (c:=bif decide (M < (Ks.length:Int))then true else(!(decide ((Is.length:Int)=(Ks.length:Int))))) ?_ (hkeys Ke pl) (hitems E pl) (guk (v:=⟨8,B,I,Sx,ID,Ks,Is,R⟩) (g11 h1) hk)
         by_cases g1:M < (Ks.length:Int)
         · simp[g1];omega
         · simp[g1];omega
       · exact cut (P:=Is.length≤1∧vfits ts pl E Is) (and2S (q:=decide ((Is.length:Int)≤1)) (by simp;omega) (hitems E pl)) (by unfold ZeroV;simp[hz];grind)
     · refine⟨false,by simp[hkd],?_⟩;constructor
       · intro h;cases h
       · rintro ⟨⟨_,_,a,_⟩,_⟩;exact absurd a hkd
end
end
section
open Go Go.Proofs.YthnmepafpikaiaaGreat.Shv Go.Sort
set_option maxRecDepth 100000
theorem room1{n:Nat}(h:n≤70368744177664) :room 1 n=true:=by
 unfold room g39 g19;simp only[Bool.and_eq_true,decide_eq_true_eq];omega
theorem gum{n:Nat}(h:n≤2199023255552) :room 24 n=true:=by
 unfold room g39 g19;simp only[Bool.and_eq_true,decide_eq_true_eq];omega
theorem bws{s b:List UInt8}(h:b.length+s.length≤70368744177664) :g1o (s,b)=some ((s.length:Int),b++s):=by
 rw[g1o];simp only[oZ4,oZ3];rw[if_pos (by simp),if_pos (room1 h)];rfl
theorem bstr(b:List UInt8) :g3t b=some b:=by
 rw[g3t,if_pos (by simp[eqI])]
theorem ge1(a b:Nat) :maxI (a:Int) (b:Int)=((max a b:Nat):Int):=by unfold maxI;omega
theorem g1w{α:Type}{l:List α}{i:Nat}(h:i < l.length)(d:α) :l.drop i=l.getD i d::l.drop (i+1):=by
 rw[g16 h];exact List.drop_eq_getElem_cons h
def ent(f:Fd) :EncodeEntry:=⟨(f.id:Int),f.text⟩
theorem gsk{m:SMember}(hm:OkV m.Default)(v:SValue) :g7l (m,v)=some (om m v):=by
 rw[g7l];unfold om;cases hd:m.HasDefault with
 | false=>simp
 | true=>
   obtain⟨r,h1,h2⟩:=gs9 hm v;simp only[SValue.gq];rw[if_pos trivial,h1];simp only[oZ4,oZ3,cond_true,Bool.true_and]
   congr 1
   by_cases e:m.Default=v
   · simp[e,h2.2 e]
   · have:r≠true:=fun h=>e (h2.1 h)
     simp[e,this]
theorem gqj{m:SMember}{v:SValue}(hv:OkV v)(hd:m.HasDefault=true) :g1a (v,m.Default)=some (om m v):=by
 obtain⟨r,h1,h2⟩:=gl4 hv m.Default;rw[h1];unfold om;rw[hd,Bool.true_and]
 congr 1
 by_cases e:m.Default=v
 · simp[e,h2.2 e.symm]
 · have:r≠true:=fun h=>e (h2.1 h).symm
   simp[e,this]
section
variable {ts:List SType}
def Wr(ts:List SType)(x:SValue)(t:Int) :Prop:=∀L D:Nat,1≤L→L+wt x≤1125899906842624→gw (t,x,(L:Int),ts,(D:Int))=some (vpay ts t x,ts,((max D (L+vlev ts t x - 1):Nat):Int))
theorem gm9 :∀{ms:List SMember} {l:List SValue},(vents ts ms l).length≤ms.length
 | [],l=>by
   rw[vents]
   · simp
   · intros;simp_all
 | m::ms,[]=>by
   rw[vents]
   · simp
   · intros;simp_all
 | m::ms,v::l=>by
   rw[vents];have:=gm9 (ms:=ms) (l:=l);split <;> simp <;> omega
theorem g9q(t:Int)(v:SValue) :1≤vlev ts t v:=by
 cases v;rw[vlev];omega
theorem gun {Ms : List SMember} {v : SValue} (hM : Ms.length ≤ 1000) (hd : ∀ m, m ∈ Ms → OkV m.Default) (hid : ∀ m, m ∈ Ms → I1000 m.ID) (hl : v.Items.length = Ms.length) (hlen : ∀ x, x ∈ v.Items → ∀ t, (vpay ts t x).length ≤ 70368744177664)
   (hw:∀i,i < Ms.length→om (Ms.getD i dSMember) (v.Items.getD i dSValue)=false→Wr ts (v.Items.getD i dSValue) (Ms.getD i dSMember).Type_) (L:Nat) (hL:1≤L) (hLw:L+wts v.Items < 1125899906842624):
   ∀(k i:Nat) (D:Nat) (acc:List EncodeEntry),i+k=Ms.length→L≤D→acc.length+k≤100000→
   g1v ((L:Int),Ms,(Ms.length:Int),(i:Int),ts,(D:Int),v,acc)=some (ts,((max D (L+vlevm ts (Ms.drop i) (v.Items.drop i)):Nat):Int),v,acc++(vents ts (Ms.drop i) (v.Items.drop i)).map ent)
 | 0,i,D,acc,hi,hD,ha=>by
   rw[g1v,if_neg (by simp;omega),SValue.gq,List.drop_eq_nil_of_le (by omega:Ms.length≤i)];rw[vlevm,vents]
   · simp;omega
   · intros;simp_all
   · intros;simp_all
 | k+1,i,D,acc,hi,hD,ha=>by
   have hlt:i < Ms.length:=by omega
   have hlt2:i < v.Items.length:=by omega
   rw[g1v,if_pos (by simp;omega),if_pos (g6 hlt)];simp only[oZ4,oZ3,gb,SValue.gq,g6l];rw[if_pos (g6 hlt2),gsk (hd _ (gj hlt dSMember))];rw[g1w hlt dSMember,g1w hlt2 dSValue,vlevm,vents];have hrec:=gun hM hd hid hl hlen hw L hL hLw k (i+1);cases ho:om (Ms.getD i dSMember) (v.Items.getD i dSValue)with
   | true=>
     simp only[oZ3,Bool.not_true,Bool.false_eq_true,if_false,if_true];rw[gg (by omega)];exact hrec D acc (by omega) hD (by omega)
   | false=>
     have hmem:v.Items.getD i dSValue∈v.Items:=gj hlt2 dSValue;have hwm:=g3f hmem;have hW:=hw i hlt ho (L+1) D (by omega) (by omega);have hlv:=g9q (ts:=ts) (Ms.getD i dSMember).Type_ (v.Items.getD i dSValue);have hI:=hid _ (gj hlt dSMember);obtain⟨n,hn⟩:∃n:Nat,(Ms.getD i dSMember).ID=(n:Int):=⟨(Ms.getD i dSMember).ID.toNat,by unfold I1000 at hI;omega⟩
     simp only[oZ3,Bool.not_false,if_true,Bool.false_eq_true,if_false];have hpl:=hlen _ hmem (Ms.getD i dSMember).Type_;have e1:addI .i64 (L:Int) 1=((L+1:Nat):Int):=gg (by omega);rw[if_pos (g6 hlt2),e1,hW];simp only[oZ3];rw[hn,goi (by unfold I1000 at hI;omega) (by omega)];simp only[oZ3]
     rw[if_pos (gum (by simp;omega)),gg (by omega),hrec _ _ (by omega) (by omega) (by simp;omega)];have:(⟨(n:Int),g94 n (Ms.getD i dSMember).Critical (vpay ts (Ms.getD i dSMember).Type_ (v.Items.getD i dSValue))⟩:EncodeEntry)=ent ⟨(n:Int).toNat,(Ms.getD i dSMember).Critical,vpay ts (Ms.getD i dSMember).Type_ (v.Items.getD i dSValue)⟩:=by
       unfold ent Fd.text;simp
     rw[this];simp only[List.map_cons,List.append_assoc,List.singleton_append]
     congr 3
     have:max (max D (L+1+vlev ts (Ms.getD i dSMember).Type_ (v.Items.getD i dSValue) - 1)) (L+vlevm ts (Ms.drop (i+1)) (v.Items.drop (i+1)))=max D (L+max (vlev ts (Ms.getD i dSMember).Type_ (v.Items.getD i dSValue)) (vlevm ts (Ms.drop (i+1)) (v.Items.drop (i+1)))):=by omega
     rw[this]
theorem guo {R : List SRaw} (hr : ∀ x, x ∈ R → I1000 x.ID ∧ x.Data.length ≤ reachBytes) (hR : R.length ≤ 2199023255552) (D : Int) : ∀ (k i : Nat) (acc : List EncodeEntry), i + k = R.length → acc.length + k ≤ 2199023255552 →
   g1t (R,(R.length:Int),(i:Int),ts,D,acc)=some (ts,D,acc++((R.drop i).map rawF).map ent)
 | 0,i,acc,hi,ha=>by
   rw[g1t,if_neg (by simp;omega),List.drop_eq_nil_of_le (by omega:R.length≤i)];simp
 | k+1,i,acc,hi,ha=>by
   have hlt:i < R.length:=by omega
   obtain⟨hI,hdl⟩:=hr _ (gj hlt dSRaw);obtain⟨n,hn⟩:∃n:Nat,(R.getD i dSRaw).ID=(n:Int):=⟨(R.getD i dSRaw).ID.toNat,by unfold I1000 at hI;omega⟩
   unfold reachBytes at hdl;rw[g1t,if_pos (by simp;omega),if_pos (g6 hlt)];simp only[oZ4,oZ3,gb];rw[hn,goi (by unfold I1000 at hI;omega) (by omega)];simp only[oZ3];rw[if_pos (gum (by simp;omega)),gg (by omega),guo hr hR D k (i+1) _ (by omega) (by simp;omega),g1w hlt dSRaw]
   have:(⟨(n:Int),g94 n false (R.getD i dSRaw).Data⟩:EncodeEntry)=ent (rawF (R.getD i dSRaw)):=by
     show _=(⟨(((R.getD i dSRaw).ID.toNat:Nat):Int),g94 (R.getD i dSRaw).ID.toNat false (R.getD i dSRaw).Data⟩:EncodeEntry);rw[hn,Int.toNat_natCast]
   rw[this];simp
theorem gup {l : List Fd} (D : Int) : ∀ (k i : Nat) (b : List UInt8), i + k = l.length → l.length ≤ 2199023255552 → b.length + ((l.drop i).flatMap Fd.text).length ≤ 70368744177664 →
   g1u ((l.length:Int),(i:Int),ts,D,l.map ent,b)=some (ts,D,b++(l.drop i).flatMap Fd.text)
 | 0,i,b,hi,_,hb=>by
   rw[g1u,if_neg (by simp;omega),List.drop_eq_nil_of_le (by omega:l.length≤i)];simp
 | k+1,i,b,hi,hl,hb=>by
   have hlt:i < l.length:=by omega
   rw[g1u,if_pos (by simp;omega),if_pos (g6 (by simp;omega)),if_pos (by simp;omega)];rw[g1w hlt default]at hb ⊢;simp only[List.flatMap_cons,List.length_append]at hb ⊢;have hg:(l.map ent).getD i dEncodeEntry=ent (l.getD i default):=g1r ent l i default dEncodeEntry hlt;simp only[gb,hg];have:(ent (l.getD i default)).text=(l.getD i default).text:=rfl
   rw[this,bws (by omega)];simp only[oZ4,oZ3];rw[gg (by omega),gup D k (i+1) _ (by omega) hl (by rw[List.length_append];omega)];simp
end
end
section
open Go Go.Proofs.YthnmepafpikaiaaGreat.Shv Go.Sort
set_option maxRecDepth 100000
structure SOk (ts:List SType):Prop where
 n:ts.length≤1000
 T:∀t,t∈ts→OkT t
 K:∀t,t∈ts→g95 t.Kind
 M:MOk ts
 A:∀x,x∈ts→(x.Kind=5∨x.Kind=6)→MAsc x.Members∧x.Members.length≤16
 S:∀x,x∈ts→x.Kind=4→∀y,y∈x.Symbols→I1000 y.ID
 Ky:∀x,x∈ts→x.Kind=8→1≤(ts.getD x.Key.toNat dSType).Kind∧(ts.getD x.Key.toNat dSType).Kind≤4
section
variable {ts:List SType}
theorem vpay1{t:Int}{v:SValue}(h:(ts.getD t.toNat dSType).Kind=1) :vpay ts t v=if v.Bool_=true then[1]else[]:=by
 cases v;rw[vpay];simp only[h];rfl
theorem vpay2{t:Int}{v:SValue}(h:(ts.getD t.toNat dSType).Kind=2) :vpay ts t v=vbig (zig v.Int_).toNat:=by
 cases v;rw[vpay];simp only[h];rfl
theorem vpay3{t:Int}{v:SValue}(h:(ts.getD t.toNat dSType).Kind=3) :vpay ts t v=v.Str:=by
 cases v;rw[vpay];simp only[h];rfl
theorem vpay4{t:Int}{v:SValue}(h:(ts.getD t.toNat dSType).Kind=4) :vpay ts t v=vbig v.ID.toNat:=by
 cases v;rw[vpay];simp only[h];rfl
theorem vpay5{t:Int}{v:SValue}(h:(ts.getD t.toNat dSType).Kind=5) :vpay ts t v=(isoB ltF (g4e ts (ts.getD t.toNat dSType).Members v.Items v.Rest)).flatMap Fd.text:=by
 cases v;rw[vpay];simp only[h];rfl
theorem vpay6 {t : Int} {v : SValue} (h : (ts.getD t.toNat dSType).Kind = 6) : vpay ts t v = vput v.ID.toNat ++ (match findM (ts.getD t.toNat dSType).Members v.ID with
     | some m=>(vpays ts m.Type_ v.Items).headD []
     | none=>(v.Rest.map SRaw.Data).headD []):=by
 cases v;rw[vpay];simp only[h];rfl
theorem vpay7{t:Int}{v:SValue}(h:(ts.getD t.toNat dSType).Kind=7) :vpay ts t v=(vpays ts (ts.getD t.toNat dSType).Elem v.Items).flatMap g42:=by
 cases v;rw[vpay];simp only[h];rfl
theorem vpay8{t:Int}{v:SValue}(h:(ts.getD t.toNat dSType).Kind=8) :vpay ts t v=ilv (vpays ts (ts.getD t.toNat dSType).Key v.Keys) (vpays ts (ts.getD t.toNat dSType).Elem v.Items):=by
 cases v;rw[vpay];simp only[h];rfl
theorem vpay9 {t : Int} {v : SValue} (h : (ts.getD t.toNat dSType).Kind = 9) : vpay ts t v = match vpays ts (ts.getD t.toNat dSType).Elem v.Items with
     | []=>[]
     | p::_=>1::p:=by
 cases v;rw[vpay];simp only[h];rfl
theorem ge2 (t : Int) (v : SValue) : vlev ts t v = 1 + max (if v.Keys = [] then 0 else 1) (if (ts.getD t.toNat dSType).Kind = 5 then vlevm ts (ts.getD t.toNat dSType).Members v.Items
     else if(ts.getD t.toNat dSType).Kind=6 then(match findM (ts.getD t.toNat dSType).Members v.ID with
       | some m=>vlevs ts m.Type_ v.Items
       | none=>0)
     else vlevs ts (ts.getD t.toNat dSType).Elem v.Items):=by
 cases v;rw[vlev];try rfl
theorem gcm{t:Int}{v:SValue}(hk:v.Keys=[])(hi:v.Items=[]) :vlev ts t v=1:=by
 rw[ge2,hk,hi];have h1:vlevs ts (ts.getD t.toNat dSType).Elem []=0:=by rw[vlevs]
 have h2:vlevm ts (ts.getD t.toNat dSType).Members []=0:=by
   rw[vlevm];intros;simp_all
 rw[h1,h2]
 have h3 : (match findM (ts.getD t.toNat dSType).Members v.ID with
       | some m=>vlevs ts m.Type_ []
       | none=>0)=0:=by
   split
   · rw[vlevs]
   · rfl
 rw[h3];simp
theorem gma {x : SType} {v : SValue} (h8 : ¬ x.Kind = 8) (hlen : ∀ y, y ∈ v.Items → (vpay ts x.Elem y).length ≤ 1000000000000000) (hw : ∀ y, y ∈ v.Items → Wr ts y x.Elem) (hl : v.Items.length ≤ reachBytes) (L : Nat) (hL : 1 ≤ L) (hLw : L + wts v.Items < 1125899906842624) :
   ∀(k i D:Nat) (acc:List UInt8),i+k=v.Items.length→L≤D→acc.length+((vpays ts x.Elem (v.Items.drop i)).flatMap g42).length≤70368744177664→
   g10 ((L:Int),v.Items,(v.Items.length:Int),(i:Int),ts,(D:Int),v,x,acc)=some (ts,((max D (L+vlevs ts x.Elem (v.Items.drop i)):Nat):Int),acc++(vpays ts x.Elem (v.Items.drop i)).flatMap g42)
 | 0,i,D,acc,hi,hD,ha=>by
   rw[g10,if_neg (by simp;omega),List.drop_eq_nil_of_le (by omega:v.Items.length≤i),vlevs,vpays];simp;omega
 | k+1,i,D,acc,hi,hD,ha=>by
   have hlt:i < v.Items.length:=by omega
   have hr:=g11 hl;have hmem:v.Items.getD i dSValue∈v.Items:=gj hlt dSValue;have hwm:=g3f hmem;rw[g1w hlt dSValue,vpays,List.flatMap_cons,List.length_append]at ha;have hp:=hlen _ hmem;have hW:=hw _ hmem (L+1) D (by omega) (by omega);have hlv:=g9q (ts:=ts) x.Elem (v.Items.getD i dSValue);have e1:addI .i64 (L:Int) 1=((L+1:Nat):Int):=gg (by omega)
   rw[g10,if_pos (by simp;omega),if_pos (g6 hlt)];simp only[oZ4,oZ3,gb,SValue.gq];rw[if_neg (by simp[h8]),e1,hW];simp only[oZ3];rw[ger (by omega)];simp only[oZ3];rw[bws (by omega)];simp only[oZ3]
   rw[gg (by omega),gma h8 hlen hw hl L hL hLw k (i+1) _ _ (by omega) (by omega) (by rw[List.length_append];omega),g1w hlt dSValue,vlevs,vpays,List.flatMap_cons,List.append_assoc]
   have:max (max D (L+1+vlev ts x.Elem (v.Items.getD i dSValue) - 1)) (L+vlevs ts x.Elem (v.Items.drop (i+1)))=max D (L+max (vlev ts x.Elem (v.Items.getD i dSValue)) (vlevs ts x.Elem (v.Items.drop (i+1)))):=by omega
   rw[this]
theorem gox {x : SType} {v : SValue} (h8 : x.Kind = 8) (hkl : v.Items.length = v.Keys.length) (hlen : ∀ y, y ∈ v.Items → (vpay ts x.Elem y).length ≤ 1000000000000000) (hlenk : ∀ y, y ∈ v.Keys → (vpay ts x.Key y).length ≤ 1000000000000000)
   (hw:∀y,y∈v.Items→Wr ts y x.Elem) (hwk:∀y,y∈v.Keys→Wr ts y x.Key) (h1:∀y,y∈v.Keys→vlev ts x.Key y=1) (hl:v.Items.length≤reachBytes) (L:Nat) (hL:1≤L) (hLw:L+wts v.Items+wts v.Keys < 1125899906842624):
   ∀(k i D:Nat) (acc:List UInt8),i+k=v.Items.length→L≤D→acc.length+(ilv (vpays ts x.Key (v.Keys.drop i)) (vpays ts x.Elem (v.Items.drop i))).length≤70368744177664→
   g10 ((L:Int),v.Items,(v.Items.length:Int),(i:Int),ts,(D:Int),v,x,acc)=some (ts,((max D (L+max (if v.Keys.drop i=[]then 0 else 1) (vlevs ts x.Elem (v.Items.drop i))):Nat):Int),acc++ilv (vpays ts x.Key (v.Keys.drop i)) (vpays ts x.Elem (v.Items.drop i)))
 | 0,i,D,acc,hi,hD,ha=>by
   rw[g10,if_neg (by simp;omega),List.drop_eq_nil_of_le (by omega:v.Items.length≤i),List.drop_eq_nil_of_le (by omega:v.Keys.length≤i),vlevs,vpays,vpays,ilv]
   · simp;omega
   · intros;simp_all
 | k+1,i,D,acc,hi,hD,ha=>by
   have hlt:i < v.Items.length:=by omega
   have hlt2:i < v.Keys.length:=by omega
   have hr:=g11 hl;have hmem:v.Items.getD i dSValue∈v.Items:=gj hlt dSValue;have hmem2:v.Keys.getD i dSValue∈v.Keys:=gj hlt2 dSValue;have hwm:=g3f hmem;have hwm2:=g3f hmem2;rw[g1w hlt dSValue,g1w hlt2 dSValue,vpays,vpays,ilv,List.length_append,List.length_append]at ha;have hp:=hlen _ hmem;have hp2:=hlenk _ hmem2
   have hW2:=hwk _ hmem2 (L+1) D (by omega) (by omega);rw[h1 _ hmem2]at hW2;have hW:=hw _ hmem (L+1) (max D (L+1+1 - 1)) (by omega) (by omega);have hlv:=g9q (ts:=ts) x.Elem (v.Items.getD i dSValue);have e1:addI .i64 (L:Int) 1=((L+1:Nat):Int):=gg (by omega);rw[g10,if_pos (by simp;omega),if_pos (g6 hlt)]
   simp only[oZ4,oZ3,gb,SValue.gq];rw[if_pos (by simp[h8]),if_pos (g6 hlt2),e1,hW2];simp only[oZ3];rw[ger (by omega)];simp only[oZ3];rw[bws (by omega)];simp only[oZ3];rw[hW];simp only[oZ3];rw[ger (by omega)];simp only[oZ3];rw[bws (by rw[List.length_append];omega)]
   simp only[oZ3];rw[gg (by omega),gox h8 hkl hlen hlenk hw hwk h1 hl L hL hLw k (i+1) _ _ (by omega) (by omega) (by rw[List.length_append,List.length_append];omega),g1w hlt dSValue,g1w hlt2 dSValue,vlevs,vpays,vpays,ilv,List.append_assoc,List.append_assoc];have hne:(if v.Keys.getD i dSValue::v.Keys.drop (i+1)=[]then 0 else 1)=1:=by simp
   have hle:(if v.Keys.drop (i+1)=[]then 0 else 1)≤1:=by split <;> omega
   rw[hne];generalize (if v.Keys.drop (i+1)=[]then 0 else 1)=q at hle ⊢;have:max (max (max D (L+1+1 - 1)) (L+1+vlev ts x.Elem (v.Items.getD i dSValue) - 1)) (L+max q (vlevs ts x.Elem (v.Items.drop (i+1))))=max D (L+max 1 (max (vlev ts x.Elem (v.Items.getD i dSValue)) (vlevs ts x.Elem (v.Items.drop (i+1))))):=by omega
   rw[this]
end
end
section
open Go Go.Proofs.YthnmepafpikaiaaGreat.Shv Go.Sort
set_option maxRecDepth 100000
section
variable {ts:List SType} (H:SOk ts)
theorem gb8(H:SOk ts){v:SValue}(hv:OkV v)(hw:wt v≤1099511627776)(t:Int) :(vpay ts t v).length≤23089744183296:=by
 have:=gvs H.M hv hw t;omega
theorem guq{ms:List SMember}{l:List SValue}{r:List SRaw}(h:MAsc ms)(hr:g80 ms r) :g7q ((g4e ts ms l r).map ent)=some ((isoB ltF (g4e ts ms l r)).map ent):=by
 have e:∀a b:Fd,sortLt (ent a) (ent b)=ltF a b:=fun a b=>by unfold sortLt ltF ent;simp
 have hO:SWO sortLt:=by
   refine⟨fun x=>?_,fun x y z h1 h2=>?_,fun x y z h1 h2=>?_⟩ <;> simp[sortLt]at* <;> omega
 have hp:g6n sortLt ((g4e ts ms l r).map ent)=true:=by
   have h0:=gf7 (ts:=ts) (l:=l) h hr;generalize g4e ts ms l r=q at h0
   induction q with
   | nil=>rfl
   | cons a q ih=>
     simp only[g6n,Bool.and_eq_true,List.all_eq_true,List.map_cons]at h0 ⊢;refine⟨fun y hy=>?_,ih h0.2⟩;obtain⟨z,hz,rfl⟩:=List.mem_map.1 hy;rw[e,e];exact h0.1 z hz
 unfold g7q;rw[gq7 hO hp,gor ent e]
theorem mxs{D L b w:Nat}(h:w=1+b) :max (max D L) (L+b)=max D (L+w - 1):=by omega
theorem mxq{D L b w:Nat}(h:w=1+b) :max (max D L) (L+1+b - 1)=max D (L+w - 1):=by omega
theorem mx0{b w:Nat}(h:w=1+max 0 b) :w=1+b:=by omega
theorem gws {x : SType} {v : SValue} (hdef : ∀ m, m ∈ x.Members → OkV m.Default) (hma : MAsc x.Members) (hm16 : x.Members.length ≤ 16) (c6 : g80 x.Members v.Rest) (hil : v.Items.length = x.Members.length)
   (hrd:∀y,y∈v.Rest→y.Data.length≤reachBytes) (hlenI:∀x,x∈v.Items→∀t,(vpay ts t x).length≤23089744183296)
   (hWI:∀i,i < x.Members.length→Wr ts (v.Items.getD i dSValue) (x.Members.getD i dSMember).Type_)
   (hlenv:((isoB ltF (g4e ts x.Members v.Items v.Rest)).flatMap Fd.text).length≤23089744183296)
   (L D:Nat) (hL:1≤L) (hD:L≤D) (hLw:L+wts v.Items < 1125899906842624) (hRw:(v.Rest.map fun x=>x.Data.length+1).sum≤1099511627776):
   g4z (x,v,(L:Int),ts,(D:Int))=some ((isoB ltF (g4e ts x.Members v.Items v.Rest)).flatMap Fd.text,ts,((max D (L+vlevm ts x.Members v.Items):Nat):Int)):=by
 have hma1:=hma.2;have hRok:∀y,y∈v.Rest→I1000 y.ID∧y.Data.length≤reachBytes:=fun y hy=>⟨(c6.2 y hy).1,hrd y hy⟩
 have hRl:v.Rest.length≤(v.Rest.map fun x=>x.Data.length+1).sum:=by
   generalize v.Rest=R
   induction R with
   | nil=>simp
   | cons a R ih=>simp only[List.length_cons,List.map_cons,List.sum_cons];omega
 have hnl:=gm9 (ts:=ts) (ms:=x.Members) (l:=v.Items);have r0:=gun (ts:=ts) (Ms:=x.Members) (v:=v) (by omega) hdef hma1 hil (fun y hy t=>by have:=hlenI y hy t;omega) (fun i hi _=>hWI i hi) L hL (by omega) x.Members.length 0 D [] (by omega) (by omega) (by simp;omega);have r0':g1v ((L:Int),x.Members,(x.Members.length:Int),0,ts,(D:Int),v,[])=_:=r0;rw[g4z]
 simp only[SValue.gq];rw[r0'];simp only[oZ4,oZ3,List.drop_zero,List.nil_append];generalize ((max D (L+vlevm ts x.Members v.Items):Nat):Int)=d;have r1:=guo (ts:=ts) (R:=v.Rest) hRok (by omega) d v.Rest.length 0 ((vents ts x.Members v.Items).map ent) (by omega) (by simp;omega)
 have r1':g1t (v.Rest,(v.Rest.length:Int),0,ts,d,(vents ts x.Members v.Items).map ent)=_:=r1;rw[r1'];simp only[oZ3,List.drop_zero];rw[←List.map_append];have hs:=guq (ts:=ts) (l:=v.Items) hma c6;have hlen:(g4e ts x.Members v.Items v.Rest).length≤2199023255552:=by unfold g4e;simp;omega
 have e0:vents ts x.Members v.Items++v.Rest.map rawF=g4e ts x.Members v.Items v.Rest:=rfl;rw[e0];generalize g4e ts x.Members v.Items v.Rest=q at*;rw[hs];simp only[oZ3];have hperm:=ga5 ltF q;rw[if_pos (by simp[hperm.length_eq])];have hll:(isoB ltF q).length≤2199023255552:=by
   rw[hperm.length_eq];exact hlen
 generalize isoB ltF q=z at*;have r2:=gup (ts:=ts) (l:=z) d z.length 0 [] (Nat.zero_add _) hll (by simp only[List.drop_zero,List.length_nil];omega);have r2':g1u (((z.map ent).length:Int),0,ts,d,z.map ent,[])=some (ts,d,[]++(z.drop 0).flatMap Fd.text):=by
   rw[List.length_map];exact r2
 rw[r2'];simp only[oZ3,bstr,List.drop_zero,List.nil_append]
theorem gur {x : SType} {v : SValue} (hm : x.Members.length < 9223372036854775807) (hma : MAsc x.Members) (n3 : -9223372036854775808 ≤ v.ID ∧ v.ID ≤ 9223372036854775807)
   (c5:match findM x.Members v.ID with
     | some m=>v.Rest=[]∧v.Items.length=1∧vfits ts false m.Type_ v.Items
     | none=>x.Open=true∧True∧I1000 v.ID∧v.Items=[]∧∃d,v.Rest=[⟨v.ID,d⟩])
   (hrd:∀y,y∈v.Rest→y.Data.length≤reachBytes) (hlenI:∀x,x∈v.Items→∀t,(vpay ts t x).length≤23089744183296)
   (hWI:∀x,x∈v.Items→∀t,vfit ts false t x→Wr ts x t)
   (L D:Nat) (hL:1≤L) (hD:L≤D) (hLw:L+wts v.Items < 1125899906842624):
   g4c (x, v, (L : Int), ts, (D : Int)) = some (vput v.ID.toNat ++ (match findM x.Members v.ID with
         | some m=>(vpays ts m.Type_ v.Items).headD []
         | none=>(v.Rest.map SRaw.Data).headD []),ts,((max D (L+(match findM x.Members v.ID with
         | some m=>vlevs ts m.Type_ v.Items
         | none=>0)):Nat):Int)):=by
 obtain⟨r,r1,_,hf⟩:=g45 (t:=x) v.ID hm;rcases g6w hf with⟨e,q,q1,q2,q3,q4⟩ | ⟨e,q3⟩
 · rw[q3]at c5;rw[q3];simp only at c5 ⊢;obtain⟨d1,d2,d3⟩:=c5;have hI:=hma.2 _ (gj q1 dSMember);rw[q4]at hI;obtain⟨n,hn⟩:∃n:Nat,v.ID=(n:Int):=⟨v.ID.toNat,by unfold I1000 at hI;omega⟩
   rw[g4c];simp only[SValue.gq];rw[r1,hn,wrpn (by unfold I1000 at hI;omega),ggk (by unfold I1000 at hI;omega)];simp only[oZ4,oZ3];rw[if_neg (by simp[e]),q2,if_pos (g6 q1)]
   match hI:v.Items,d2 with
   | [y],_=>
     have hy:y∈v.Items:=by rw[hI];exact .head _
     have hi0:inR 0 ([y]:List SValue).length=true:=g6 (k:=0) (by simp);have hwm:=g3f hy;have hf:=g24.1 d3 y hy;have hW:=hWI y hy _ hf (L+1) D (by omega) (by omega);have e1:addI .i64 (L:Int) 1=((L+1:Nat):Int):=gg (by omega);rw[if_pos hi0,e1];simp only[gb,Int.toNat_zero,List.getD_cons_zero];rw[hW];have hp:=hlenI y hy (x.Members.getD q dSMember).Type_
     have hp10:=g35 (n:=n) (by rw[hn]at n3;omega);simp only[oZ3];rw[if_pos (g2h (by omega))];have hlv:=g9q (ts:=ts) (x.Members.getD q dSMember).Type_ y;have ev:vlevs ts (x.Members.getD q dSMember).Type_ [y]=vlev ts (x.Members.getD q dSMember).Type_ y:=by
       have e0:vlevs ts (x.Members.getD q dSMember).Type_ []=0:=by rw[vlevs]
       rw[vlevs,e0];omega
     have ep:vpays ts (x.Members.getD q dSMember).Type_ [y]=[vpay ts (x.Members.getD q dSMember).Type_ y]:=by rw[vpays,vpays]
     have e:max D (L+1+vlev ts (x.Members.getD q dSMember).Type_ y - 1)=max D (L+vlev ts (x.Members.getD q dSMember).Type_ y):=by omega
     rw[ep,ev,e];rfl
 · rw[q3]at c5;rw[q3];simp only at c5 ⊢;obtain⟨d1,d2,d3,d4,d,d5⟩:=c5;obtain⟨n,hn⟩:∃n:Nat,v.ID=(n:Int):=⟨v.ID.toNat,by unfold I1000 at d3;omega⟩
   have hdl:=hrd ⟨v.ID,d⟩ (by rw[d5];exact .head _);simp only at hdl;unfold reachBytes at hdl;have hp10:=g35 (n:=n) (by rw[hn]at n3;omega);rw[g4c];simp only[SValue.gq];rw[r1,d5,hn,wrpn (by unfold I1000 at d3;omega),ggk (by unfold I1000 at d3;omega)];simp only[oZ4,oZ3]
   have hi0:inR 0 ([⟨(n:Int),d⟩]:List SRaw).length=true:=g6 (k:=0) (by simp);rw[if_pos (by simp[e]),if_pos hi0];simp only[Int.toNat_zero,List.getD_cons_zero];rw[if_pos (g2h (by omega))];have e:max D (L+0)=D:=by omega
   rw[e];rfl
set_option maxHeartbeats 400000 in
theorem gwt(H:SOk ts){v:SValue}(hv:OkV v) :wt v≤1099511627776→∀t,vfit ts false t v→Wr ts v t:=by
 induction hv with
 | mk v hs h1 h2 h3 hk hi hrd n1 n2 n3 n4 ihk ihi=>
   intro hw t hf L D hL hLw;have hOk:OkV v:= .mk v hs h1 h2 h3 hk hi hrd n1 n2 n3 n4;have hwt:=wt_eq v;have hlenI:∀x,x∈v.Items→∀t,(vpay ts t x).length≤23089744183296:=fun x hx t=>gb8 H (hi x hx) (by have:=g3f hx;omega) t
   have hlenK:∀x,x∈v.Keys→∀t,(vpay ts t x).length≤23089744183296:=fun x hx t=>gb8 H (hk x hx) (by have:=g3f hx;omega) t
   have hWI:∀x,x∈v.Items→∀t,vfit ts false t x→Wr ts x t:=fun x hx t=>ihi x hx (by have:=g3f hx;omega) t
   have hWK:∀x,x∈v.Keys→∀t,vfit ts false t x→Wr ts x t:=fun x hx t=>ihk x hx (by have:=g3f hx;omega) t
   have hlenv:=gb8 H hOk hw t;obtain⟨⟨g1,g2,g3,_⟩,hf⟩:=(g6b _ _ _).1 hf;obtain⟨j,rfl⟩:∃j:Nat,t=(j:Int):=⟨t.toNat,by omega⟩
   have hj:j < ts.length:=by omega
   rw[gw];simp only[oZ4,oZ3];rw[if_pos (g6 hj),ge1];simp only[gb,SValue.gq]at hf g3 ⊢;have hxm:=gj hj dSType;have hlev:=ge2 (ts:=ts) (j:Int) v;have hv1:=@vpay1 ts (j:Int) v;have hv2:=@vpay2 ts (j:Int) v;have hv3:=@vpay3 ts (j:Int) v;have hv4:=@vpay4 ts (j:Int) v;have hv5:=@vpay5 ts (j:Int) v;have hv6:=@vpay6 ts (j:Int) v
   have hv7:=@vpay7 ts (j:Int) v;have hv8:=@vpay8 ts (j:Int) v;have hv9:=@vpay9 ts (j:Int) v;simp only[gb]at hlev hv1 hv2 hv3 hv4 hv5 hv6 hv7 hv8 hv9;have hA:=H.A _ hxm;have hKy:=H.Ky _ hxm;have hS:=H.S _ hxm;generalize ts.getD j dSType=x at*;have hlE:¬x.Kind=5→¬x.Kind=6→v.Keys=[]→vlev ts (j:Int) v=1+vlevs ts x.Elem v.Items:=fun a b c=>by
     rw[hlev,if_neg a,if_neg b,if_pos c,Nat.zero_max]
   have leaf:v.Keys=[]→v.Items=[]→max D (L+vlev ts (j:Int) v - 1)=max D L:=fun a b=>by rw[gcm a b];omega
   rcases hf with⟨k,c1,c2,c3,c4,c5,c6⟩ | ⟨k,c1,c2,c3,c4,c5,c6,c7,c8⟩ | ⟨k,c1,c2,c3,c4,c5,c6,c7⟩ | ⟨k,c1,c2,c3,c4,c5,c6,c7⟩ | ⟨k,c1,c2,c3,c4,c5,c6,c7⟩ | ⟨k,c1,c2,c3,c4,c5⟩ | ⟨k,c1,c2,c3,c4,c5,c6,c7,c8⟩ | ⟨k,c1,c2,c3,c4,c5,c6,c7,c8,c9,c10⟩ | ⟨k,c1,c2,c3,c4,c5,c6,c7,c8⟩ <;> rw[k]at g3
   · have kx:=g3.symm;rw[if_pos (by simp[kx]),hv1 kx,leaf c4 c5];cases v.Bool_ <;> rfl
   · have kx:=g3.symm;rw[if_neg (by simp[kx]),if_pos (by simp[kx]),hv2 kx,leaf c4 c5,gon n2];simp only[oZ3];have hz:=got n2;obtain⟨n,hn⟩:∃n:Nat,zig v.Int_=(n:Int):=⟨(zig v.Int_).toNat,by unfold zig;split <;> omega⟩
     rw[hn,Int.toNat_natCast]at hz;rw[hn,gui hz];rfl
   · have kx:=g3.symm;rw[if_neg (by simp[kx]),if_neg (by simp[kx]),if_pos (by simp[kx]),hv3 kx,leaf c4 c5]
   · have kx:=g3.symm;rw[if_neg (by simp[kx]),if_neg (by simp[kx]),if_neg (by simp[kx]),if_pos (by simp[kx]),hv4 kx,leaf c4 c5]
     obtain⟨n,hn⟩:∃n:Nat,v.ID=(n:Int):=⟨v.ID.toNat,by
       rcases c7 with⟨y,hy,he⟩ | ⟨_,_,he⟩
       · have:=hS kx y hy;unfold I1000 at this;omega
       · unfold I1000 at he;omega⟩
     rw[hn,wrpn (by omega),gui (by omega),Int.toNat_natCast];rfl
   · have kx:=g3.symm;rw[if_neg (by simp[kx]),if_neg (by simp[kx]),if_neg (by simp[kx]),if_neg (by simp[kx]),if_pos (by simp[kx]),hv5 kx];obtain⟨hma,hm16⟩:=hA (.inl kx);obtain⟨hil,hip⟩:=g8f.1 c7
     rw[gws (H.T _ hxm).dv hma hm16 c6 hil (fun y hy=>hrd y hy) hlenI (fun i hi=>hWI _ (gj (by omega) dSValue) _ (hip i hi)) (by rw[←hv5 kx];exact hlenv) L (max D L) hL (by omega) (by omega) (by omega)];simp only[oZ3];rw[if_pos kx,if_pos c5]at hlev;have e:max (max D L) (L+vlevm ts x.Members v.Items)=max D (L+vlev ts (j:Int) v - 1):=mxs (mx0 hlev);rw[e]
   · have kx:=g3.symm;rw[if_neg (by simp[kx]),if_neg (by simp[kx]),if_neg (by simp[kx]),if_neg (by simp[kx]),if_neg (by simp[kx]),if_pos (by simp[kx]),hv6 kx];obtain⟨hma,hm16⟩:=hA (.inr kx);rw[if_neg (show ¬x.Kind=5 by omega),if_pos kx,if_pos c4]at hlev
     rw[gur (g11 (g3j (H.T _ hxm).mems)) hma n3 c5 (fun y hy=>hrd y hy) hlenI hWI L (max D L) hL (by omega) (by omega)];simp only[oZ3]
     exact congrArg (fun z : Nat => (some (vput v.ID.toNat ++ (match findM x.Members v.ID with
         | some m=>(vpays ts m.Type_ v.Items).headD []
         | none=>(v.Rest.map SRaw.Data).headD []),ts,(z:Int)):Option (List UInt8 × List SType × Int))) (mxs (D:=D) (L:=L) (mx0 hlev))
   · have kx:=g3.symm;rw[if_neg (by simp[kx]),if_neg (by simp[kx]),if_neg (by simp[kx]),if_neg (by simp[kx]),if_neg (by simp[kx]),if_neg (by simp[kx]),if_neg (by simp[kx])];have hf:=g24.1 c8;rw[hv7 kx]at hlenv
     have:=gma (x:=x) (v:=v) (by omega) (fun y hy=>by have:=hlenI y hy x.Elem;omega) (fun y hy=>hWI y hy x.Elem (hf y hy)) h2 L hL (by omega) v.Items.length 0 (max D L) [] (by omega) (by omega) (by simp only[List.drop_zero,List.length_nil];omega);have h0:g10 ((L:Int),v.Items,(v.Items.length:Int),0,ts,((max D L:Nat):Int),v,x,[])=_:=this;rw[h0]
     simp only[oZ3,bstr];have hl:=hlE (by omega) (by omega) c5;have e:max (max D L) (L+vlevs ts x.Elem v.Items)=max D (L+vlev ts (j:Int) v - 1):=mxs hl;rw[hv7 kx,List.drop_zero,List.nil_append,e]
   · have kx:=g3.symm;rw[if_neg (by simp[kx]),if_neg (by simp[kx]),if_neg (by simp[kx]),if_neg (by simp[kx]),if_neg (by simp[kx]),if_neg (by simp[kx]),if_neg (by simp[kx])];have hf:=g24.1 c9;have hfk:=g24.1 c8;rw[hv8 kx]at hlenv;obtain⟨ky1,ky2⟩:=hKy kx;have hl1:∀y,y∈v.Keys→vlev ts x.Key y=1:=fun y hy=>by
       obtain⟨⟨_,_,b3,_⟩,b⟩:=(g6b _ _ _).1 (hfk y hy);apply gcm <;> grind
     have:=gox (x:=x) (v:=v) kx c7 (fun y hy=>by have:=hlenI y hy x.Elem;omega) (fun y hy=>by have:=hlenK y hy x.Key;omega) (fun y hy=>hWI y hy x.Elem (hf y hy)) (fun y hy=>hWK y hy x.Key (hfk y hy)) hl1 h2 L hL (by omega) v.Items.length 0 (max D L) [] (by omega) (by omega) (by simp only[List.drop_zero,List.length_nil];omega)
     have h0:g10 ((L:Int),v.Items,(v.Items.length:Int),0,ts,((max D L:Nat):Int),v,x,[])=_:=this;rw[h0];simp only[oZ3,bstr];rw[if_neg (show ¬x.Kind=5 by omega),if_neg (show ¬x.Kind=6 by omega)]at hlev;simp only[List.drop_zero,List.nil_append]
     have e:max (max D L) (L+max (if v.Keys=[]then 0 else 1) (vlevs ts x.Elem v.Items))=max D (L+vlev ts (j:Int) v - 1):=mxs hlev;rw[hv8 kx,e]
   · have kx:=g3.symm;rw[if_neg (by simp[kx]),if_neg (by simp[kx]),if_neg (by simp[kx]),if_neg (by simp[kx]),if_neg (by simp[kx]),if_neg (by simp[kx]),if_pos (by simp[kx]),hv9 kx];have hf:=g24.1 c8
     match hI:v.Items,c7 with
     | [],_=>
       rw[if_pos (by simp),leaf c5 hI,vpays]
     | [y],_=>
       have hy:y∈v.Items:=by rw[hI];exact .head _
       have hi0:inR 0 ([y]:List SValue).length=true:=g6 (k:=0) (by simp);rw[if_neg (by simp),if_pos hi0];have hwm:=g3f hy;have hW:=hWI y hy x.Elem (hf y hy) (L+1) (max D L) (by omega) (by omega);have e1:addI .i64 (L:Int) 1=((L+1:Nat):Int):=gg (by omega);rw[e1];simp only[Int.toNat_zero,List.getD_cons_zero];rw[hW];have hp:=hlenI y hy x.Elem
       simp only[oZ3];rw[if_pos (g2h (by simp;omega))];have hl:=hlE (by omega) (by omega) c5;rw[hI]at hl;have hlv:=g9q (ts:=ts) x.Elem y;have ev:vlevs ts x.Elem [y]=vlev ts x.Elem y:=by
         have e0:vlevs ts x.Elem []=0:=by rw[vlevs]
         rw[vlevs,e0];omega
       have ep:vpays ts x.Elem [y]=[vpay ts x.Elem y]:=by rw[vpays,vpays]
       rw[ev]at hl;have e:max (max D L) (L+1+vlev ts x.Elem y - 1)=max D (L+vlev ts (j:Int) v - 1):=mxq hl;rw[ep,e];rfl
     | a::b::c,h=>simp at h
end
end
section
open Go Go.Proofs.YthnmepafpikaiaaGreat.Shv Go.Sort
set_option maxRecDepth 100000
section
variable {ts:List SType}
def Rp(ts:List SType)(x:SValue)(t:Int) :Prop:=g1h ((⟨ts⟩:SSchema),t,x)=some (vpay ts t x)
def Rl(ts:List SType)(x:SValue)(t:Int) :Prop:=g2e ((⟨ts⟩:SSchema),t,x)=some ((vlev ts t x:Nat):Int)
theorem goy {x : SType} {v : SValue} (hlen : ∀ y, y ∈ v.Items → (vpay ts x.Elem y).length ≤ 1000000000000000) (hw : ∀ y, y ∈ v.Items → Rp ts y x.Elem) (hl : v.Items.length ≤ reachBytes) :
   ∀(k i:Nat) (acc:List UInt8),i+k=v.Items.length→acc.length+((vpays ts x.Elem (v.Items.drop i)).flatMap g42).length≤70368744177664→
   g30 (acc,(i:Int),ts,v,x)=some (acc++(vpays ts x.Elem (v.Items.drop i)).flatMap g42)
 | 0,i,acc,hi,ha=>by
   rw[g30,if_neg (by simp;omega),List.drop_eq_nil_of_le (by omega:v.Items.length≤i),vpays];simp
 | k+1,i,acc,hi,ha=>by
   have hlt:i < v.Items.length:=by omega
   have hr:=g11 hl;have hmem:v.Items.getD i dSValue∈v.Items:=gj hlt dSValue;rw[g1w hlt dSValue,vpays,List.flatMap_cons,List.length_append]at ha;have hp:=hlen _ hmem;have hW:=hw _ hmem;unfold Rp at hW;rw[g30,if_pos (by simp;omega),if_pos (g6 hlt)];simp only[oZ4,oZ3,gb,SValue.gq];rw[hW];simp only[oZ3];rw[ga0 (by omega)]
   simp only[oZ3];rw[if_pos (g2h (by omega)),gg (by omega),goy hlen hw hl k (i+1) _ (by omega) (by rw[List.length_append];omega),g1w hlt dSValue,vpays,List.flatMap_cons,List.append_assoc]
theorem gqk {x : SType} {v : SValue} (hkl : v.Items.length = v.Keys.length) (hlen : ∀ y, y ∈ v.Items → (vpay ts x.Elem y).length ≤ 1000000000000000) (hlenk : ∀ y, y ∈ v.Keys → (vpay ts x.Key y).length ≤ 1000000000000000)
   (hw:∀y,y∈v.Items→Rp ts y x.Elem) (hwk:∀y,y∈v.Keys→Rp ts y x.Key) (hl:v.Items.length≤reachBytes):
   ∀(k i:Nat) (acc:List UInt8),i+k=v.Items.length→acc.length+(ilv (vpays ts x.Key (v.Keys.drop i)) (vpays ts x.Elem (v.Items.drop i))).length≤70368744177664→
   g31 (acc,(i:Int),ts,v,x)=some (acc++ilv (vpays ts x.Key (v.Keys.drop i)) (vpays ts x.Elem (v.Items.drop i)))
 | 0,i,acc,hi,ha=>by
   rw[g31,if_neg (by simp;omega),List.drop_eq_nil_of_le (by omega:v.Items.length≤i),List.drop_eq_nil_of_le (by omega:v.Keys.length≤i),vpays,vpays,ilv]
   · simp
   · intros;simp_all
 | k+1,i,acc,hi,ha=>by
   have hlt:i < v.Items.length:=by omega
   have hlt2:i < v.Keys.length:=by omega
   have hr:=g11 hl;have hmem:v.Items.getD i dSValue∈v.Items:=gj hlt dSValue;have hmem2:v.Keys.getD i dSValue∈v.Keys:=gj hlt2 dSValue;rw[g1w hlt dSValue,g1w hlt2 dSValue,vpays,vpays,ilv,List.length_append,List.length_append]at ha;have hp:=hlen _ hmem;have hp2:=hlenk _ hmem2;have hW:=hw _ hmem;have hW2:=hwk _ hmem2;unfold Rp at hW hW2
   rw[g31,if_pos (by simp;omega),if_pos (g6 hlt2)];simp only[oZ4,oZ3,gb,SValue.gq];rw[hW2];simp only[oZ3];rw[ga0 (by omega)];simp only[oZ3];rw[if_pos (g2h (by omega)),if_pos (g6 hlt),hW];simp only[oZ3];rw[ga0 (by omega)];simp only[oZ3]
   rw[if_pos (g2h (by rw[List.length_append];omega)),gg (by omega),gqk hkl hlen hlenk hw hwk hl k (i+1) _ (by omega) (by rw[List.length_append,List.length_append];omega),g1w hlt dSValue,g1w hlt2 dSValue,vpays,vpays,ilv,List.append_assoc,List.append_assoc]
def g6c(R:List SRaw)(n:Nat) :List Fd:=(R.filter fun x=>decide (x.ID=(n:Int))).map rawF
theorem gsl{a:SRaw}{l:List SRaw}{n:Nat}(h:a.ID=(n:Int)) :g6c (a::l) n=rawF a::g6c l n:=by
 unfold g6c;rw[List.filter_cons,if_pos (by rw[h];simp),List.map_cons]
theorem gus{a:SRaw}{l:List SRaw}{n:Nat}(h:¬a.ID=(n:Int)) :g6c (a::l) n=g6c l n:=by
 unfold g6c;rw[List.filter_cons,if_neg (by simpa using h)]
theorem refOm {γ : Type} {m : SMember} {w : SValue} (hw : OkV w) (A B : Option γ) :
   ((if(!(!m.HasDefault))=true then g1a (w,m.Default)else some false).bind fun r_19=>if(bif (!m.HasDefault)then true else(!r_19))=true then A else B)=if om m w=true then B else A:=by
 cases hd:m.HasDefault with
 | false=>
   have:om m w=false:=by unfold om;rw[hd];rfl
   rw[this];rfl
 | true=>
   have:=gqj hw hd;simp only[Bool.not_true,Bool.not_false,if_true,this];cases om m w <;> rfl
theorem gex {x : SType} {v : SValue} (hr : ∀ y, y ∈ v.Rest → y.Data.length ≤ reachBytes) (hR : v.Rest.length ≤ reachBytes) (n : Nat) (hn : n ≤ 1000) :
   ∀(k i:Nat) (out:List UInt8),i+k=v.Rest.length→out.length+((g6c (v.Rest.drop i) n).flatMap Fd.text).length≤70368744177664→
   g1i (out,(n:Int),(i:Int),ts,v,x)=some (out++(g6c (v.Rest.drop i) n).flatMap Fd.text,(n:Int),ts,v,x)
 | 0,i,out,hi,ha=>by
   rw[g1i,if_neg (by simp;omega),List.drop_eq_nil_of_le (by omega:v.Rest.length≤i),SValue.gq];simp[g6c]
 | k+1,i,out,hi,ha=>by
   have hlt:i < v.Rest.length:=by omega
   have hrr:=g11 hR;have hd:=hr _ (gj hlt dSRaw);unfold reachBytes at hd;rw[g1w hlt dSRaw]at ha;rw[g1i,if_pos (by simp;omega),if_pos (g6 hlt)];simp only[oZ4,oZ3,gb,SValue.gq];rw[g1w hlt dSRaw];by_cases e:(v.Rest.getD i dSRaw).ID=(n:Int)
   · rw[gsl e,List.flatMap_cons]at ha ⊢;have ht:(rawF (v.Rest.getD i dSRaw)).text=g94 n false (v.Rest.getD i dSRaw).Data:=by
       unfold rawF Fd.text;rw[e];rfl
     rw[ht,List.length_append]at ha;rw[if_pos (by rw[e];simp),if_pos (g6 hlt),ghv (by omega) (by omega)];simp only[oZ3];rw[if_pos (g2h (by omega)),gg (by omega),gex hr hR n hn k (i+1) _ (by omega) (by rw[List.length_append];omega),ht,List.append_assoc]
   · rw[gus e]at ha ⊢;rw[if_neg (by simpa using e),gg (by omega),gex hr hR n hn k (i+1) _ (by omega) ha]
noncomputable def grp (ts:List SType) (x:SType) (v:SValue) (n:Nat):List Fd:=(g4e ts x.Members v.Items v.Rest).filter fun f=>decide (f.id=n)
theorem gl7 {x : SType} {v : SValue} (hm : x.Members.length < 9223372036854775807) (hma : MAsc x.Members) (hrk : g80 x.Members v.Rest) (hil : v.Items.length = x.Members.length)
   (hr:∀y,y∈v.Rest→y.Data.length≤reachBytes) (hR:v.Rest.length≤reachBytes) (hok:∀y,y∈v.Items→OkV y) (hlenI:∀x,x∈v.Items→∀t,(vpay ts t x).length≤23089744183296)
   (hw:∀i,i < x.Members.length→Rp ts (v.Items.getD i dSValue) (x.Members.getD i dSMember).Type_):
   ∀(k n:Nat) (out:List UInt8),n+k=1001→1≤n→out.length+(((List.range' n k).flatMap (grp ts x v)).flatMap Fd.text).length≤70368744177664→
   g1y (out,(n:Int),ts,v,x)=some (out++((List.range' n k).flatMap (grp ts x v)).flatMap Fd.text)
 | 0,n,out,hi,h1,ha=>by
   rw[g1y,if_neg (by simp;omega)];simp
 | k+1,n,out,hi,h1,ha=>by
   have hid0:∀y,y∈v.Rest→0≤y.ID:=fun y hy=>by have:=(hrk.2 y hy).1;unfold I1000 at this;omega
   have hg:grp ts x v n=((vents ts x.Members v.Items).filter fun f=>decide (f.id=n))++g6c v.Rest n:=by
     unfold grp g4e g6c;rw[List.filter_append,gpt _ _ hid0]
   rw[List.range'_succ,List.flatMap_cons,List.flatMap_append,hg,List.flatMap_append]at ha ⊢;simp only[List.length_append]at ha;rw[g1y,if_pos (by simp;omega)];obtain⟨r,_,r2,hf⟩:=g45 (t:=x) (n:Int) hm;simp only[oZ4,oZ3,gb,SValue.gq];rw[r2];simp only[oZ3]
   have inner:∀out':List UInt8,out'.length+((g6c v.Rest n).flatMap Fd.text).length≤70368744177664→g1i (out',(n:Int),0,ts,v,x)=some (out'++(g6c v.Rest n).flatMap Fd.text,(n:Int),ts,v,x):=fun out' h=>by
     have:=gex (ts:=ts) (x:=x) hr hR n (by omega) v.Rest.length 0 out' (by omega) (by simpa using h)
     simpa using this
   rcases g6w hf with⟨e,j,q1,q2,q3,q4⟩ | ⟨e,q3⟩
   · have hlt2:j < v.Items.length:=by omega
     have hmem:v.Items.getD j dSValue∈v.Items:=gj hlt2 dSValue;have hfd:=ghz (ts:=ts) (gqi hma) hil q1 (n:=n) (by rw[q4];simp);rw[if_pos e,q2,if_pos (g6 q1)];rw[if_pos (by rw[g6 hlt2];rfl)];simp only[gb];rw[refOm (hok _ hmem)];have hrec:=gl7 hm hma hrk hil hr hR hok hlenI hw k (n+1);cases ho:om (x.Members.getD j dSMember) (v.Items.getD j dSValue)with
     | true=>
       rw[ho,if_pos rfl]at hfd;rw[hfd]at ha ⊢;rw[if_pos rfl,inner out (by omega)];simp only[oZ3,SValue.gq];rw[gg (by omega),hrec _ (by omega) (by omega) (by rw[List.length_append];omega)];simp
     | false=>
       rw[ho,if_neg (by simp)]at hfd;rw[hfd]at ha ⊢;have hp:=hlenI _ hmem (x.Members.getD j dSMember).Type_;have hW:=hw j q1;unfold Rp at hW
       have ht:([⟨n,(x.Members.getD j dSMember).Critical,vpay ts (x.Members.getD j dSMember).Type_ (v.Items.getD j dSValue)⟩]:List Fd).flatMap Fd.text=g94 n (x.Members.getD j dSMember).Critical (vpay ts (x.Members.getD j dSMember).Type_ (v.Items.getD j dSValue)):=by
         simp only[List.flatMap_cons,List.flatMap_nil,List.append_nil];rfl
       rw[ht]at ha ⊢;rw[if_neg (by simp),if_pos (g6 hlt2),hW];simp only[oZ3];rw[ghv (by omega) (by omega)];simp only[oZ3];rw[if_pos (g2h (by omega)),inner _ (by rw[List.length_append];omega)];simp only[oZ3,SValue.gq];rw[gg (by omega),hrec _ (by omega) (by omega) (by rw[List.length_append,List.length_append];omega)]
       simp only[List.append_assoc]
   · have hnone:((vents ts x.Members v.Items).filter fun f=>decide (f.id=n))=[]:=gkg fun m hm'=>by
       have:=gkh q3 m hm';have:=hma.2 m hm';unfold I1000 at this;omega
     rw[hnone]at ha ⊢;rw[if_neg (by simp[e]),inner out (by omega)];simp only[oZ3,SValue.gq];rw[gg (by omega),gl7 hm hma hrk hil hr hR hok hlenI hw k (n+1) _ (by omega) (by omega) (by rw[List.length_append];omega)];simp
end
end
section
open Go Go.Proofs.YthnmepafpikaiaaGreat.Shv Go.Sort
set_option maxRecDepth 100000
section
variable {ts:List SType}
theorem gyv {γ : Type} {m : SMember} {w : SValue} (hw : OkV w) (A B : Option γ) :
   ((if m.HasDefault=true then g1a (w,m.Default)else some false).bind fun r=>if(bif m.HasDefault then r else false)=true then A else B)=if om m w=true then A else B:=by
 cases hd:m.HasDefault with
 | false=>
   have:om m w=false:=by unfold om;rw[hd];rfl
   rw[this];rfl
 | true=>
   have:=gqj hw hd;simp only[if_true,this];cases om m w <;> rfl
theorem goz {x : SType} {v : SValue} (h5 : ¬ x.Kind = 5) (h6 : ¬ x.Kind = 6) (hw : ∀ y, y ∈ v.Items → Rl ts y x.Elem) (hl : v.Items.length ≤ reachBytes) :
   ∀(k i b:Nat),i+k=v.Items.length→gh ((b:Int),(i:Int),ts,v,x)=some (((max b (vlevs ts x.Elem (v.Items.drop i)):Nat):Int),v)
 | 0,i,b,hi=>by
   rw[gh,if_neg (by simp;omega),List.drop_eq_nil_of_le (by omega:v.Items.length≤i),vlevs,SValue.gq,Nat.max_zero]
 | k+1,i,b,hi=>by
   have hlt:i < v.Items.length:=by omega
   have hr:=g11 hl;have hW:=hw _ (gj hlt dSValue);unfold Rl at hW;rw[gh,if_pos (by simp;omega),if_neg (by simp[h5]),if_neg (by simp[h6]),if_pos (g6 hlt)];simp only[gb,SValue.gq];rw[hW];simp only[oZ4,oZ3];rw[ge1,gg (by omega),goz h5 h6 hw hl k (i+1) _ (by omega),g1w hlt dSValue,vlevs,Nat.max_assoc]
theorem gql {x : SType} {v : SValue} (h5 : x.Kind = 5) (hil : v.Items.length = x.Members.length) (hok : ∀ y, y ∈ v.Items → OkV y) (hw : ∀ i, i < x.Members.length → Rl ts (v.Items.getD i dSValue) (x.Members.getD i dSMember).Type_) (hl : v.Items.length ≤ reachBytes) :
   ∀(k i b:Nat),i+k=v.Items.length→gh ((b:Int),(i:Int),ts,v,x)=some (((max b (vlevm ts (x.Members.drop i) (v.Items.drop i)):Nat):Int),v)
 | 0,i,b,hi=>by
   rw[gh,if_neg (by simp;omega),List.drop_eq_nil_of_le (by omega:v.Items.length≤i),SValue.gq,List.drop_eq_nil_of_le (by omega:x.Members.length≤i)];rw[vlevm]
   · rw[Nat.max_zero]
   · intros;simp_all
 | k+1,i,b,hi=>by
   have hlt:i < v.Items.length:=by omega
   have hlt2:i < x.Members.length:=by omega
   have hr:=g11 hl;have hmem:=gj hlt dSValue;have hW:=hw i hlt2;unfold Rl at hW;rw[gh,if_pos (by simp;omega),if_pos (by simp[h5]),if_pos (g6 hlt2)];simp only[oZ4,oZ3,gb,SValue.gq];rw[if_pos (by rw[g6 hlt];rfl),gyv (hok _ hmem)];have hrec:=gql h5 hil hok hw hl k (i+1);rw[g1w hlt dSValue,g1w hlt2 dSMember,vlevm]
   cases ho:om (x.Members.getD i dSMember) (v.Items.getD i dSValue)with
   | true=>
     rw[if_pos rfl,gg (by omega),hrec _ (by omega),if_pos rfl]
   | false=>
     rw[if_neg (by simp),if_neg (by simp[h5]),if_pos (g6 hlt),hW];simp only[oZ3];rw[ge1,gg (by omega),hrec _ (by omega),if_neg (by simp),Nat.max_assoc]
theorem gqm {x : SType} {v : SValue} (h6 : x.Kind = 6) {j : Nat} (hj : j < x.Members.length) (hM : g1j (x, v.ID) = some ((j : Int), true)) (hw : ∀ y, y ∈ v.Items → Rl ts y (x.Members.getD j dSMember).Type_) (hl : v.Items.length ≤ reachBytes) :
   ∀(k i b:Nat),i+k=v.Items.length→gh ((b:Int),(i:Int),ts,v,x)=some (((max b (vlevs ts (x.Members.getD j dSMember).Type_ (v.Items.drop i)):Nat):Int),v)
 | 0,i,b,hi=>by
   rw[gh,if_neg (by simp;omega),List.drop_eq_nil_of_le (by omega:v.Items.length≤i),vlevs,SValue.gq,Nat.max_zero]
 | k+1,i,b,hi=>by
   have hlt:i < v.Items.length:=by omega
   have hr:=g11 hl;have hW:=hw _ (gj hlt dSValue);unfold Rl at hW;rw[gh,if_pos (by simp;omega),if_neg (by simp[h6]),if_pos (by simp[h6]),hM];simp only[oZ4,oZ3,gb,SValue.gq];rw[if_pos (g6 hj),if_pos (g6 hlt),hW];simp only[oZ3];rw[ge1,gg (by omega),gqm h6 hj hM hw hl k (i+1) _ (by omega),g1w hlt dSValue,vlevs,Nat.max_assoc]
theorem ggw {x : SType} {v : SValue} {b w : Nat} (hL : gh (0, 0, ts, v, x) = some (((max 0 b : Nat) : Int), v)) (hb : b < 1152921504606846976) (hw : w = 1 + max (if v.Keys = [] then 0 else 1) b) :
   (gh (0,0,ts,v,x) >>=fun o=>if decide (0 < (o.2.Keys.length:Int))=true then some (addI .i64 1 (maxI o.1 1))else some (addI .i64 1 o.1))=some (w:Int):=by
 rw[hL];simp only[oZ4,oZ3];by_cases hk:v.Keys=[]
 · rw[if_neg (by simp[hk])];rw[if_pos hk]at hw;have:addI .i64 1 ((max 0 b:Nat):Int)=((1+max 0 b:Nat):Int):=gkv (a:=1) (by omega);rw[this,hw]
 · rw[if_pos (by
     have:0 < v.Keys.length:=List.length_pos_iff.2 hk
     simpa using this)]
   rw[if_neg hk]at hw;have e:maxI ((max 0 b:Nat):Int) 1=((max 1 b:Nat):Int):=by
     have:=ge1 (max 0 b) 1;have e2:max (max 0 b) 1=max 1 b:=by omega
     rw[e2]at this;exact this
   rw[e];have:addI .i64 1 ((max 1 b:Nat):Int)=((1+max 1 b:Nat):Int):=gkv (a:=1) (by omega);rw[this,hw]
theorem gwu(H:SOk ts){v:SValue}(hv:OkV v) :wt v≤1099511627776→∀t,vfit ts false t v→Rl ts v t:=by
 induction hv with
 | mk v hs h1 h2 h3 hk hi hrd n1 n2 n3 n4 ihk ihi=>
   intro hw t hf;have hwt:=wt_eq v;have hWI:∀x,x∈v.Items→∀t,vfit ts false t x→Rl ts x t:=fun x hx t=>ihi x hx (by have:=g3f hx;omega) t
   obtain⟨⟨g1,g2,g3,_⟩,hf⟩:=(g6b _ _ _).1 hf;obtain⟨j,rfl⟩:∃j:Nat,t=(j:Int):=⟨t.toNat,by omega⟩
   have hj:j < ts.length:=by omega
   unfold Rl;rw[g2e,if_pos (g6 hj)];simp only[gb,SValue.gq]at hf g3 ⊢;have hxm:=gj hj dSType;have hlev:=ge2 (ts:=ts) (j:Int) v;simp only[gb]at hlev;have hA:=H.A _ hxm;have hm:=g11 (g3j (H.T _ hxm).mems);generalize ts.getD j dSType=x at*;have b1:∀E,vlevs ts E v.Items < 1152921504606846976:=fun E=>by have:=vlevs_le ts v.Items E;omega
   have b2:∀E,vlevm ts E v.Items < 1152921504606846976:=fun E=>by have:=vlevm_le ts v.Items E;omega
   have easy:¬x.Kind=5→¬x.Kind=6→(∀y,y∈v.Items→vfit ts false x.Elem y)→(gh (0,0,ts,v,x) >>=fun o=>if decide (0 < (o.2.Keys.length:Int))=true then some (addI .i64 1 (maxI o.1 1))else some (addI .i64 1 o.1))=some ((vlev ts (j:Int) v:Nat):Int):=by
     intro a b c;have hL:=goz (ts:=ts) (x:=x) (v:=v) a b (fun y hy=>hWI y hy _ (c y hy)) h2 v.Items.length 0 0 (by omega);rw[if_neg a,if_neg b]at hlev;exact ggw hL (b1 _) hlev
   rcases hf with⟨k,c1,c2,c3,c4,c5,c6⟩ | ⟨k,c1,c2,c3,c4,c5,c6,c7,c8⟩ | ⟨k,c1,c2,c3,c4,c5,c6,c7⟩ | ⟨k,c1,c2,c3,c4,c5,c6,c7⟩ | ⟨k,c1,c2,c3,c4,c5,c6,c7⟩ | ⟨k,c1,c2,c3,c4,c5⟩ | ⟨k,c1,c2,c3,c4,c5,c6,c7,c8⟩ | ⟨k,c1,c2,c3,c4,c5,c6,c7,c8,c9,c10⟩ | ⟨k,c1,c2,c3,c4,c5,c6,c7,c8⟩ <;> rw[k]at g3
   · exact easy (by omega) (by omega) (by rw[c5];intro y hy;cases hy)
   · exact easy (by omega) (by omega) (by rw[c5];intro y hy;cases hy)
   · exact easy (by omega) (by omega) (by rw[c5];intro y hy;cases hy)
   · exact easy (by omega) (by omega) (by rw[c5];intro y hy;cases hy)
   · obtain⟨hil,hip⟩:=g8f.1 c7;have hL:=gql (ts:=ts) (x:=x) (v:=v) g3.symm hil hi (fun i hi'=>hWI _ (gj (by omega) dSValue) _ (hip i hi')) h2 v.Items.length 0 0 (by omega);rw[if_pos g3.symm]at hlev;exact ggw hL (b2 _) hlev
   · rw[if_neg (show ¬x.Kind=5 by omega),if_pos g3.symm]at hlev;obtain⟨r,_,r2,hf⟩:=g45 (t:=x) v.ID hm;rcases g6w hf with⟨e,q,q1,q2,q3,q4⟩ | ⟨e,q3⟩
     · rw[q3]at c5 hlev;simp only at c5 hlev;obtain⟨d1,d2,d3⟩:=c5;have hr:r=((q:Int),true):=by rw[←q2,←e]
       have hL:=gqm (ts:=ts) (x:=x) (v:=v) g3.symm q1 (by rw[r2,hr]) (fun y hy=>hWI y hy _ (g24.1 d3 y hy)) h2 v.Items.length 0 0 (by omega);exact ggw hL (b1 _) hlev
     · rw[q3]at c5 hlev;simp only at c5 hlev;have hi0:v.Items=[]:=c5.2.2.2.1;have hL:gh (0,0,ts,v,x)=some (((max 0 0:Nat):Int),v):=by
         rw[gh,if_neg (by simp[hi0]),SValue.gq];rfl
       exact ggw hL (by omega) hlev
   · exact easy (by omega) (by omega) (g24.1 c8)
   · exact easy (by omega) (by omega) (g24.1 c9)
   · exact easy (by omega) (by omega) (g24.1 c8)
set_option maxHeartbeats 400000 in
theorem gwv(H:SOk ts){v:SValue}(hv:OkV v) :wt v≤1099511627776→∀t,vfit ts false t v→Rp ts v t:=by
 induction hv with
 | mk v hs h1 h2 h3 hk hi hrd n1 n2 n3 n4 ihk ihi=>
   intro hw t hf;have hOk:OkV v:= .mk v hs h1 h2 h3 hk hi hrd n1 n2 n3 n4;have hwt:=wt_eq v;have hlenI:∀x,x∈v.Items→∀t,(vpay ts t x).length≤23089744183296:=fun x hx t=>gb8 H (hi x hx) (by have:=g3f hx;omega) t
   have hlenK:∀x,x∈v.Keys→∀t,(vpay ts t x).length≤23089744183296:=fun x hx t=>gb8 H (hk x hx) (by have:=g3f hx;omega) t
   have hWI:∀x,x∈v.Items→∀t,vfit ts false t x→Rp ts x t:=fun x hx t=>ihi x hx (by have:=g3f hx;omega) t
   have hWK:∀x,x∈v.Keys→∀t,vfit ts false t x→Rp ts x t:=fun x hx t=>ihk x hx (by have:=g3f hx;omega) t
   have hlenv:=gb8 H hOk hw t;obtain⟨⟨g1,g2,g3,_⟩,hf⟩:=(g6b _ _ _).1 hf;obtain⟨j,rfl⟩:∃j:Nat,t=(j:Int):=⟨t.toNat,by omega⟩
   have hj:j < ts.length:=by omega
   unfold Rp;rw[g1h,if_pos (g6 hj)];simp only[oZ4,oZ3,gb,SValue.gq]at hf g3 ⊢;have hxm:=gj hj dSType;have hv1:=@vpay1 ts (j:Int) v;have hv2:=@vpay2 ts (j:Int) v;have hv3:=@vpay3 ts (j:Int) v;have hv4:=@vpay4 ts (j:Int) v;have hv5:=@vpay5 ts (j:Int) v;have hv6:=@vpay6 ts (j:Int) v;have hv7:=@vpay7 ts (j:Int) v
   have hv8:=@vpay8 ts (j:Int) v;have hv9:=@vpay9 ts (j:Int) v;simp only[gb]at hv1 hv2 hv3 hv4 hv5 hv6 hv7 hv8 hv9;have hA:=H.A _ hxm;have hS:=H.S _ hxm;have hm:=g11 (g3j (H.T _ hxm).mems);generalize ts.getD j dSType=x at*
   rcases hf with⟨k,c1,c2,c3,c4,c5,c6⟩ | ⟨k,c1,c2,c3,c4,c5,c6,c7,c8⟩ | ⟨k,c1,c2,c3,c4,c5,c6,c7⟩ | ⟨k,c1,c2,c3,c4,c5,c6,c7⟩ | ⟨k,c1,c2,c3,c4,c5,c6,c7⟩ | ⟨k,c1,c2,c3,c4,c5⟩ | ⟨k,c1,c2,c3,c4,c5,c6,c7,c8⟩ | ⟨k,c1,c2,c3,c4,c5,c6,c7,c8,c9,c10⟩ | ⟨k,c1,c2,c3,c4,c5,c6,c7,c8⟩ <;> rw[k]at g3 <;> have kx:=g3.symm
   · rw[if_pos (by simp[kx]),hv1 kx];cases v.Bool_ <;> rfl
   · rw[if_neg (by simp[kx]),if_pos (by simp[kx]),hv2 kx,gom n2];simp only[oZ3];have hz:=got n2;obtain⟨n,hn⟩:∃n:Nat,zig v.Int_=(n:Int):=⟨(zig v.Int_).toNat,by unfold zig;split <;> omega⟩
     rw[hn,Int.toNat_natCast]at hz;rw[hn,gm4 hz];rfl
   · rw[if_neg (by simp[kx]),if_neg (by simp[kx]),if_pos (by simp[kx]),hv3 kx]
   · rw[if_neg (by simp[kx]),if_neg (by simp[kx]),if_neg (by simp[kx]),if_pos (by simp[kx]),hv4 kx]
     obtain⟨n,hn⟩:∃n:Nat,v.ID=(n:Int):=⟨v.ID.toNat,by
       rcases c7 with⟨y,hy,he⟩ | ⟨_,_,he⟩
       · have:=hS kx y hy;unfold I1000 at this;omega
       · unfold I1000 at he;omega⟩
     rw[hn,wrpn (by omega),gm4 (by omega),Int.toNat_natCast];rfl
   · rw[if_neg (by simp[kx]),if_neg (by simp[kx]),if_neg (by simp[kx]),if_neg (by simp[kx]),if_neg (by simp[kx]),if_neg (by simp[kx]),if_neg (by simp[kx]),if_neg (by simp[kx]),hv5 kx];obtain⟨hma,hm16⟩:=hA (.inl kx);obtain⟨hil,hip⟩:=g8f.1 c7;rw[hv5 kx]at hlenv;have hsg:=gmt (gf7 (ts:=ts) (l:=v.Items) hma c6) (fun y hy=>gov hma c6 hy)
     have e0:(fun n=>(g4e ts x.Members v.Items v.Rest).filter fun f=>decide (f.id=n))=grp ts x v:=rfl;rw[e0]at hsg;rw[hsg]at hlenv ⊢;have:=gl7 (ts:=ts) hm hma c6 hil (fun y hy=>hrd y hy) h3 hi hlenI (fun i hi'=>hWI _ (gj (by omega) dSValue) _ (hip i hi')) 1000 1 [] (by omega) (by omega) (by simp only[List.length_nil];omega);have h0:g1y ([],1,ts,v,x)=_:=this
     rw[h0];rfl
   · rw[if_neg (by simp[kx]),if_neg (by simp[kx]),if_neg (by simp[kx]),if_neg (by simp[kx]),if_neg (by simp[kx]),if_pos (by simp[kx]),hv6 kx];obtain⟨hma,hm16⟩:=hA (.inr kx);obtain⟨r,_,r2,hf⟩:=g45 (t:=x) v.ID hm;rcases g6w hf with⟨e,q,q1,q2,q3,q4⟩ | ⟨e,q3⟩
     · rw[q3]at c5;rw[q3];simp only at c5 ⊢;obtain⟨d1,d2,d3⟩:=c5;have hI:=hma.2 _ (gj q1 dSMember);rw[q4]at hI;obtain⟨n,hn⟩:∃n:Nat,v.ID=(n:Int):=⟨v.ID.toNat,by unfold I1000 at hI;omega⟩
       rw[if_neg (by simp[d1]),r2,hn,wrpn (by unfold I1000 at hI;omega),ga8 (by unfold I1000 at hI;omega)];simp only[oZ3];rw[q2,if_pos (g6 q1)]
       match hI:v.Items,d2 with
       | [y],_=>
         have hy:y∈v.Items:=by rw[hI];exact .head _
         have hi0:inR 0 ([y]:List SValue).length=true:=g6 (k:=0) (by simp);have hf:=g24.1 d3 y hy;have hW:=hWI y hy _ hf;unfold Rp at hW;rw[if_pos hi0];simp only[gb,Int.toNat_zero,List.getD_cons_zero];rw[hW];have hp:=hlenI y hy (x.Members.getD q dSMember).Type_;have hp10:=g35 (n:=n) (by rw[hn]at n3;omega);simp only[oZ3]
         rw[if_pos (g2h (by omega))];have ep:vpays ts (x.Members.getD q dSMember).Type_ [y]=[vpay ts (x.Members.getD q dSMember).Type_ y]:=by rw[vpays,vpays]
         rw[ep];rfl
     · rw[q3]at c5;rw[q3];simp only at c5 ⊢;obtain⟨d1,d2,d3,d4,d,d5⟩:=c5;obtain⟨n,hn⟩:∃n:Nat,v.ID=(n:Int):=⟨v.ID.toNat,by unfold I1000 at d3;omega⟩
       have hdl:=hrd ⟨v.ID,d⟩ (by rw[d5];exact .head _);simp only at hdl;unfold reachBytes at hdl;have hp10:=g35 (n:=n) (by rw[hn]at n3;omega);rw[d5,hn,if_pos (by simp),wrpn (by unfold I1000 at d3;omega),ga8 (by unfold I1000 at d3;omega)];simp only[oZ3];have hi0:inR 0 ([⟨(n:Int),d⟩]:List SRaw).length=true:=g6 (k:=0) (by simp);rw[if_pos hi0]
       simp only[Int.toNat_zero,List.getD_cons_zero];rw[if_pos (g2h (by omega))];rfl
   · rw[if_neg (by simp[kx]),if_neg (by simp[kx]),if_neg (by simp[kx]),if_neg (by simp[kx]),if_neg (by simp[kx]),if_neg (by simp[kx]),if_pos (by simp[kx])];have hf:=g24.1 c8;rw[hv7 kx]at hlenv ⊢
     have:=goy (ts:=ts) (x:=x) (v:=v) (fun y hy=>by have:=hlenI y hy x.Elem;omega) (fun y hy=>hWI y hy x.Elem (hf y hy)) h2 v.Items.length 0 [] (by omega) (by simp only[List.drop_zero,List.length_nil];omega);have h0:g30 ([],0,ts,v,x)=_:=this;rw[h0];rfl
   · rw[if_neg (by simp[kx]),if_neg (by simp[kx]),if_neg (by simp[kx]),if_neg (by simp[kx]),if_neg (by simp[kx]),if_neg (by simp[kx]),if_neg (by simp[kx]),if_pos (by simp[kx])];have hf:=g24.1 c9;have hfk:=g24.1 c8;rw[hv8 kx]at hlenv ⊢
     have:=gqk (ts:=ts) (x:=x) (v:=v) c7 (fun y hy=>by have:=hlenI y hy x.Elem;omega) (fun y hy=>by have:=hlenK y hy x.Key;omega) (fun y hy=>hWI y hy x.Elem (hf y hy)) (fun y hy=>hWK y hy x.Key (hfk y hy)) h2 v.Items.length 0 [] (by omega) (by simp only[List.drop_zero,List.length_nil];omega);have h0:g31 ([],0,ts,v,x)=_:=this;rw[h0];rfl
   · rw[if_neg (by simp[kx]),if_neg (by simp[kx]),if_neg (by simp[kx]),if_neg (by simp[kx]),if_pos (by simp[kx]),hv9 kx];have hf:=g24.1 c8
     match hI:v.Items,c7 with
     | [],_=>
       rw[if_pos (by simp),vpays]
     | [y],_=>
       have hy:y∈v.Items:=by rw[hI];exact .head _
       have hi0:inR 0 ([y]:List SValue).length=true:=g6 (k:=0) (by simp);rw[if_neg (by simp),if_pos hi0];have hW:=hWI y hy x.Elem (hf y hy);unfold Rp at hW;simp only[Int.toNat_zero,List.getD_cons_zero];rw[hW];have hp:=hlenI y hy x.Elem;simp only[oZ3];rw[if_pos (g2h (by simp;omega))];have ep:vpays ts x.Elem [y]=[vpay ts x.Elem y]:=by rw[vpays,vpays]
       rw[ep];rfl
     | a::b::c,h=>simp at h
end
end
section
open Go Go.Proofs.YthnmepafpikaiaaGreat.Shv Go.Sort
set_option maxRecDepth 100000
theorem SaysP.says{α:Type}{o:Option Bool}{a b:α}(h:Says o a b) :SaysP o (a=b):=h
theorem and3S {o1 o2 o3 : Option Bool} {P1 P2 P3 : Prop} (h1 : SaysP o1 P1) (h2 : SaysP o2 P2) (h3 : SaysP o3 P3) :
   SaysP (o1 >>=fun r_6=>(if r_6=true then o2 else some false) >>=fun r_7=>some (bif r_6 then r_7 else false) >>=fun t53=>(if t53=true then o3 else some false) >>=fun r_8=>some (bif t53 then r_8 else false)) (P1∧P2∧P3):=by
 obtain⟨a,rfl,h1⟩:=h1;obtain⟨b,rfl,h2⟩:=h2;obtain⟨c,rfl,h3⟩:=h3;rw[←h1,←h2,←h3];cases a <;> cases b <;> cases c <;> exact⟨_,rfl,by simp⟩
theorem gut{o:Option Bool}{P:Prop}(h:SaysP o P) :SaysP (o >>=fun r=>some r) P:=by
 obtain⟨a,rfl,h⟩:=h;exact⟨a,rfl,h⟩
def gac(union:Bool)(Ms:List SMember) :Prop:=(∀m,m∈Ms→badM union m=false)∧(union=false∨0 < Ms.length)∧MAsc Ms∧(∀m,m∈Ms→nm m.Name=true)∧(Ms.map (·.Name)).Nodup∧Ms.length≤16
def gki(S:List SSymbol) :Prop:=0 < S.length∧(S.Pairwise (fun a b=>a.ID < b.ID)∧∀y,y∈S→I1000 y.ID)∧(∀y,y∈S→nm y.Name=true)∧(S.map (·.Name)).Nodup∧S.length≤16
theorem gsm{l:List (List UInt8)} :l.Nodup↔∀i,i < l.length→(l.take i).contains (l.getD i [])=false:=by
 unfold List.Nodup;rw[List.pairwise_iff_getElem];constructor
 · intro h i hi;apply Bool.eq_false_iff.2;intro hc;obtain⟨k,hk,he⟩:=(g4a (by omega)).1 hc;rw[g16 (by omega),g16 hi]at he;exact h k i (by omega) hi hk he
 · intro h k i hk' hi hk he;have:=h i hi;rw[Bool.eq_false_iff]at this;apply this;refine(g4a (by omega)).2 ⟨k,hk,?_⟩;rw[g16 (by omega),g16 hi];exact he
theorem gqn{α:Type}(f:α→Int)(g:α→List UInt8)(d:α)(l:List α) :(∀i,i < l.length→idp (l.map f) (l.map g) i=true)↔(l.Pairwise (fun a b=>f a < f b)∧∀x,x∈l→I1000 (f x))∧(∀x,x∈l→nm (g x)=true)∧(l.map g).Nodup:=by
 rw[ggv f d,gsm];have key:∀i,i < l.length→(idp (l.map f) (l.map g) i=true↔I1000 (f (l.getD i d))∧(i=0∨f (l.getD (i - 1) d) < f (l.getD i d))∧nm (g (l.getD i d))=true∧((l.map g).take i).contains ((l.map g).getD i [])=false):=by
   intro i hi;unfold idp I1000;rw[g1r f l i d 0 hi];have e2:i=0∨(l.map f).getD (i - 1) 0=f (l.getD (i - 1) d):=by
     by_cases h0:i=0
     · exact .inl h0
     · exact .inr (g1r f l (i - 1) d 0 (by omega))
   have e3:(l.map g).getD i []=g (l.getD i d):=g1r g l i d [] hi;rw[e3];simp only[Bool.and_eq_true,Bool.or_eq_true,decide_eq_true_eq,Bool.not_eq_true'];rcases e2 with rfl | e2
   · simp[and_assoc]
   · rw[e2];simp only[and_assoc]
 constructor
 · intro h;refine⟨⟨fun i hi=>?_,fun x hx=>?_⟩,fun x hx=>?_,fun i hi=>?_⟩
   · have:=((key (i+1) hi).1 (h _ hi)).2.1;rcases this with h | h
     · omega
     · exact h
   · obtain⟨i,hi,rfl⟩:=List.getElem_of_mem hx;have:=((key i hi).1 (h _ hi)).1;rw[g16 hi]at this;exact this
   · obtain⟨i,hi,rfl⟩:=List.getElem_of_mem hx;have:=((key i hi).1 (h _ hi)).2.2.1;rw[g16 hi]at this;exact this
   · have hi':i < l.length:=by simpa using hi
     exact((key i hi').1 (h _ hi')).2.2.2
 · rintro ⟨⟨h1,h2⟩,h3,h4⟩ i hi
   refine(key i hi).2 ⟨h2 _ (gj hi d),?_,h3 _ (gj hi d),h4 i (by simpa using hi)⟩;by_cases h0:i=0
   · exact .inl h0
   · right;have:=h1 (i - 1) (by omega);have e:i - 1+1=i:=by omega
     rw[e]at this;exact this
theorem gmb{t:SType}(h:OkT t) :SaysP (g4g t) ((∀m,m∈t.Members→badM (decide (t.Kind=6)) m=false)∧(t.Kind=5∨0 < t.Members.length)∧MAsc t.Members∧(∀m,m∈t.Members→nm m.Name=true)∧(t.Members.map (·.Name)).Nodup∧t.Members.length≤16):=by
 obtain⟨r,h1,h2⟩:=gk8 h;refine⟨r,h1,h2.trans ?_⟩;rw[gqn (fun m:SMember=>m.ID) (fun m:SMember=>m.Name) dSMember];have e:(∀i,i < t.Members.length→badM (decide (t.Kind=6)) (t.Members.getD i dSMember)=false)↔∀m,m∈t.Members→badM (decide (t.Kind=6)) m=false:=by
   constructor
   · intro h m hm;obtain⟨i,hi,rfl⟩:=List.getElem_of_mem hm;have:=h i hi;rw[g16 hi]at this;exact this
   · intro h i hi;exact h _ (gj hi dSMember)
 rw[e];unfold MAsc;simp only[and_assoc]
theorem guu{l:List SSymbol}(hl:l.length*24≤reachBytes) :SaysP (g53 l) (gki l):=by
 obtain⟨r,h1,h2⟩:=gqf hl;refine⟨r,h1,h2.trans ?_⟩;rw[gqn (fun m:SSymbol=>m.ID) (fun m:SSymbol=>m.Name) dSSymbol];unfold gki;simp only[and_assoc]
def FormP(t:SType) :Prop:=
 (t.Kind=1∧t.Name=[]∧t.Low=0∧t.High=0∧t.Max=0∧t.Symbols=[]∧t.Members=[]∧t.Key=0∧t.Elem=0∧t.Open=false)∨
 (t.Kind=2∧t.Name=[]∧t.Low≤t.High∧t.Max=0∧t.Symbols=[]∧t.Members=[]∧t.Key=0∧t.Elem=0∧t.Open=false)∨
 (t.Kind=3∧t.Name=[]∧t.Low=0∧t.High=0∧(0≤t.Max∧t.Max≤200)∧t.Symbols=[]∧t.Members=[]∧t.Key=0∧t.Elem=0∧t.Open=false)∨
 (t.Kind=4∧nm t.Name=true∧t.Low=0∧t.High=0∧t.Max=0∧gki t.Symbols∧t.Members=[]∧t.Key=0∧t.Elem=0)∨
 (t.Kind=5∧nm t.Name=true∧t.Low=0∧t.High=0∧t.Max=0∧t.Symbols=[]∧gac false t.Members∧t.Key=0∧t.Elem=0∧t.Open=false)∨
 (t.Kind=6∧nm t.Name=true∧t.Low=0∧t.High=0∧t.Max=0∧t.Symbols=[]∧gac true t.Members∧t.Key=0∧t.Elem=0)∨
 (t.Kind=7∧t.Name=[]∧t.Low=0∧t.High=0∧(0≤t.Max∧t.Max≤50)∧t.Symbols=[]∧t.Members=[]∧t.Key=0∧t.Open=false)∨
 (t.Kind=8∧t.Name=[]∧t.Low=0∧t.High=0∧(0≤t.Max∧t.Max≤50)∧t.Symbols=[]∧t.Members=[]∧t.Open=false)∨
 (t.Kind=9∧t.Name=[]∧t.Low=0∧t.High=0∧t.Max=0∧t.Symbols=[]∧t.Members=[]∧t.Key=0∧t.Open=false)
theorem guv{t:SType}(h:OkT t) :SaysP (g13 t) (FormP t):=by
 have hz:OkT (⟨0,[],0,0,0,[],[],0,0,false⟩:SType):=⟨by simp,by simp,by simp⟩
 obtain⟨Kd,N,L,H,M,S,Ms,K,E,O⟩:=t;have hS:=h.syms;have hMs:=h.mems;have hd:=h.dv;simp only at hS hMs hd;by_cases k1:Kd=1
 · subst k1;have a:=g3o (a:=(⟨0,N,L,H,M,S,Ms,K,E,O⟩:SType)) ⟨hS,hMs,hd⟩ (⟨0,[],0,0,0,[],[],0,0,false⟩:SType);refine(gut (SaysP.says a)).imp ?_;unfold FormP;simp
 by_cases k2:Kd=2
 · subst k2;have a:=g3o (a:=(⟨0,N,0,0,M,S,Ms,K,E,O⟩:SType)) ⟨hS,hMs,hd⟩ (⟨0,[],0,0,0,[],[],0,0,false⟩:SType);refine(and2S (q:=decide (L≤H)) (Q:=L≤H) (by simp) (SaysP.says a)).imp (Q:=FormP ⟨2,N,L,H,M,S,Ms,K,E,O⟩) ?_;unfold FormP;simp
   try grind
 by_cases k3:Kd=3
 · subst k3;have a:=g3o (a:=(⟨0,N,L,H,0,S,Ms,K,E,O⟩:SType)) ⟨hS,hMs,hd⟩ (⟨0,[],0,0,0,[],[],0,0,false⟩:SType);refine(and2S (q:=bif decide (0≤M)then decide (M≤200)else false) (Q:=0≤M∧M≤200) (by by_cases g:0≤M <;> simp[g]) (SaysP.says a)).imp (Q:=FormP ⟨3,N,L,H,M,S,Ms,K,E,O⟩) ?_;unfold FormP;simp
   try grind
 by_cases k4:Kd=4
 · subst k4;have a:=g3o (a:=(⟨0,[],L,H,M,[],Ms,K,E,false⟩:SType)) ⟨by simp,hMs,hd⟩ (⟨0,[],0,0,0,[],[],0,0,false⟩:SType);refine(and3S (⟨nm N,lexNm N,Iff.rfl⟩:SaysP (g2n N) (nm N=true)) (guu hS) (SaysP.says a)).imp (Q:=FormP ⟨4,N,L,H,M,S,Ms,K,E,O⟩) ?_;unfold FormP;simp
   try grind
 by_cases k5:Kd=5
 · subst k5;have a:=g3o (a:=(⟨0,[],L,H,M,S,[],K,E,bif O then decide ((5:Int)=5)else false⟩:SType)) ⟨hS,by simp,by simp⟩ (⟨0,[],0,0,0,[],[],0,0,false⟩:SType);refine(and3S (⟨nm N,lexNm N,Iff.rfl⟩:SaysP (g2n N) (nm N=true)) (gmb h) (SaysP.says a)).imp (Q:=FormP ⟨5,N,L,H,M,S,Ms,K,E,O⟩) ?_;unfold FormP gac;cases O <;> simp
   grind
 by_cases k6:Kd=6
 · subst k6;have a:=g3o (a:=(⟨0,[],L,H,M,S,[],K,E,bif O then decide ((6:Int)=5)else false⟩:SType)) ⟨hS,by simp,by simp⟩ (⟨0,[],0,0,0,[],[],0,0,false⟩:SType);refine(and3S (⟨nm N,lexNm N,Iff.rfl⟩:SaysP (g2n N) (nm N=true)) (gmb h) (SaysP.says a)).imp (Q:=FormP ⟨6,N,L,H,M,S,Ms,K,E,O⟩) ?_;unfold FormP gac;cases O <;> simp <;> grind
 by_cases k7:Kd=7
 · subst k7;have a:=g3o (a:=(⟨0,N,L,H,0,S,Ms,K,0,O⟩:SType)) ⟨hS,hMs,hd⟩ (⟨0,[],0,0,0,[],[],0,0,false⟩:SType);refine(and2S (q:=bif decide (0≤M)then decide (M≤50)else false) (Q:=0≤M∧M≤50) (by by_cases g:0≤M <;> simp[g]) (SaysP.says a)).imp (Q:=FormP ⟨7,N,L,H,M,S,Ms,K,E,O⟩) ?_;unfold FormP;simp
   try grind
 by_cases k8:Kd=8
 · subst k8;have a:=g3o (a:=(⟨0,N,L,H,0,S,Ms,0,0,O⟩:SType)) ⟨hS,hMs,hd⟩ (⟨0,[],0,0,0,[],[],0,0,false⟩:SType);refine(and2S (q:=bif decide (0≤M)then decide (M≤50)else false) (Q:=0≤M∧M≤50) (by by_cases g:0≤M <;> simp[g]) (SaysP.says a)).imp (Q:=FormP ⟨8,N,L,H,M,S,Ms,K,E,O⟩) ?_;unfold FormP;simp
   try grind
 by_cases k9:Kd=9
 · subst k9;have a:=g3o (a:=(⟨0,N,L,H,M,S,Ms,K,0,O⟩:SType)) ⟨hS,hMs,hd⟩ (⟨0,[],0,0,0,[],[],0,0,false⟩:SType);refine(gut (SaysP.says a)).imp (Q:=FormP ⟨9,N,L,H,M,S,Ms,K,E,O⟩) ?_;unfold FormP;simp
 refine⟨false,by simp[g13,k1,k2,k3,k4,k5,k6,k7,k8,k9],?_⟩;unfold FormP;simp[k1,k2,k3,k4,k5,k6,k7,k8,k9]
structure VOk (ts:List SType):Prop where
 n:ts.length≤32
 F:∀t,t∈ts→FormP t
 D:∀i,i < ts.length→(!(decide ((ts.getD i dSType).Name=[])) && ((ts.map (·.Name)).take i).contains (ts.getD i dSType).Name)=false
 U:∀t,t∈ts→∀u,u∈usesL t→0≤u∧u < ts.length
 Ky:∀t,t∈ts→t.Kind=8→1≤(ts.getD t.Key.toNat dSType).Kind∧(ts.getD t.Key.toNat dSType).Kind≤4
theorem gsn {ts : List SType} (hT : ∀ t, t ∈ ts → OkT t) {i : Nat} (hi : i < ts.length) : stepV ts i = none ↔ FormP (ts.getD i dSType) ∧ (!(decide ((ts.getD i dSType).Name = [])) && ((ts.map (·.Name)).take i).contains (ts.getD i dSType).Name) = false ∧ (∀ u, u ∈ usesL (ts.getD i dSType) → 0 ≤ u ∧ u < ts.length) ∧
   ((ts.getD i dSType).Kind=8→1≤(ts.getD (ts.getD i dSType).Key.toNat dSType).Kind∧(ts.getD (ts.getD i dSType).Key.toNat dSType).Kind≤4):=by
 obtain⟨r,f1,f2⟩:=guv (hT _ (gj hi dSType));rw[gew rfl f1,←f2];have hu:(usesL (ts.getD i dSType)).any (outB ts.length)=false↔∀u,u∈usesL (ts.getD i dSType)→0≤u∧u < ts.length:=by
   rw[List.any_eq_false];constructor
   · intro h u hu;have:=h u hu;unfold outB at this;by_cases g:u < 0
     · simp[g]at this
     · simp[g]at this;omega
   · intro h u hu;have:=h u hu;unfold outB;have g:¬u < 0:=by omega
     simp[g];omega
 rw[←hu];generalize (usesL (ts.getD i dSType)).any (outB ts.length)=b;generalize (!(decide ((ts.getD i dSType).Name=[])) && ((ts.map (·.Name)).take i).contains (ts.getD i dSType).Name)=c
 have hk:(decide ((ts.getD i dSType).Kind=8) && !(keyB (ts.getD (ts.getD i dSType).Key.toNat dSType).Kind))=false↔((ts.getD i dSType).Kind=8→1≤(ts.getD (ts.getD i dSType).Key.toNat dSType).Kind∧(ts.getD (ts.getD i dSType).Key.toNat dSType).Kind≤4):=by
   unfold keyB;generalize (ts.getD (ts.getD i dSType).Key.toNat dSType).Kind=k;by_cases g:(ts.getD i dSType).Kind=8 <;> by_cases g1:1≤k <;> by_cases g2:k≤4 <;> simp[g,g1,g2]
 rw[←hk];generalize (decide ((ts.getD i dSType).Kind=8) && !(keyB (ts.getD (ts.getD i dSType).Key.toNat dSType).Kind))=d;cases r <;> cases b <;> cases c <;> cases d <;> simp
theorem gmc{ts:List SType}(hT:∀t,t∈ts→OkT t)(h:VOk ts) :g67 (⟨ts⟩:SSchema)=some 0∧g4v (⟨ts⟩:SSchema)=some 0:=by
 obtain⟨e,h1,h2,_,h4⟩:=gkb (s:=⟨ts⟩) (by have:=h.n;unfold reachBytes;show ts.length≤_;omega) hT;have e0:e=0:=h4 ⟨h.n,fun i hi=>(gsn hT hi).2 ⟨h.F _ (gj hi dSType),h.D i hi,h.U _ (gj hi dSType),h.Ky _ (gj hi dSType)⟩⟩;subst e0;exact⟨h1,h2⟩
theorem VOk.sok{ts:List SType}(hT:∀t,t∈ts→OkT t)(h:VOk ts) :SOk ts:=by
 refine⟨by have:=h.n;omega,hT,fun t ht=>?_,fun t ht m hm=>?_,fun t ht hk=>?_,fun t ht hk y hy=>?_,h.Ky⟩
 · have:=h.F t ht;unfold FormP at this;unfold g95;omega
 · have:=h.F t ht;unfold FormP at this;have hne:t.Members≠[]:=by intro e;rw[e]at hm;cases hm
   have:gac false t.Members∨gac true t.Members:=by grind
   rcases this with a | a
   · exact(a.2.2.1.2 m hm).2
   · exact(a.2.2.1.2 m hm).2
 · have:=h.F t ht;unfold FormP at this;have:gac false t.Members∨gac true t.Members:=by grind
   rcases this with a | a
   · exact⟨a.2.2.1,a.2.2.2.2.2⟩
   · exact⟨a.2.2.1,a.2.2.2.2.2⟩
 · have:=h.F t ht;unfold FormP at this;have:gki t.Symbols:=by grind
   exact this.2.1.2 y hy
end
section
open Go Go.Proofs.YthnmepafpikaiaaGreat.Shv Go.Sort
set_option maxRecDepth 100000
def gyw(ts:List SType)(ms:List SMember) :Prop:=∀m,m∈ms→m.HasDefault=true→vfit ts true m.Type_ m.Default
end
section
open Go Go.Proofs.YthnmepafpikaiaaGreat.Shv Go.Sort
set_option maxRecDepth 100000
theorem okOne{t:Ty}{x:t.den Un.D}(h:Ok Un [t] x) :∀d,d∈t.row Un x→WF Un d:=fun d hd=>h ⟨t,x⟩ (List.mem_cons_self ..) d hd
theorem guw{t u:Ty}{r:List Ty}{h:Hs Un.D (t::u::r)}(hk:Ok Un (t::u::r) h) :∀d,d∈t.row Un h.1→WF Un d:=fun d hd=>hk ⟨t,h.1⟩ (List.mem_cons_self ..) d hd
theorem gp0{t u:Ty}{r:List Ty}{h:Hs Un.D (t::u::r)}(hk:Ok Un (t::u::r) h) :Ok Un (u::r) h.2:=fun c hc d hd=>hk c (List.mem_cons_of_mem _ hc) d hd
theorem gww {ts : List SType} (H : SOk ts) {v : SValue} (hv : OkV v) (hw : wt v ≤ 1099511627776) {t : Int} (hf : vfit ts false t v) :
   gw (t,v,1,ts,0)=some (vpay ts t v,ts,((vlev ts t v:Nat):Int))∧g1h ((⟨ts⟩:SSchema),t,v)=some (vpay ts t v)∧g2e ((⟨ts⟩:SSchema),t,v)=some ((vlev ts t v:Nat):Int):=by
 refine⟨?_,gwv H hv hw t hf,gwu H hv hw t hf⟩;have h:=gwt H hv hw t hf 1 0 (by omega) (by omega);have hp:=g9q (ts:=ts) t v;have e:max 0 (1+vlev ts t v - 1)=vlev ts t v:=by
   generalize vlev ts t v=n;omega
 rw[e]at h;exact h
noncomputable def encA (ts:List SType) (t:Int) (v:SValue):List UInt8 × Int:=
 if 4096 < (vpay ts t v).length∨200 < vlev ts t v then([],3)else(vpay ts t v,0)
theorem gux {s : SSchema} (H : SOk s.Types) {v : SValue} (hv : OkV v) (hw : wt v ≤ 1099511627776) {t : Int} (hf : vfit s.Types false t v) (hc : g2y (s, t, v) = some 0) (hr : g48 (s, t, v) = some 0) :
   g3v (s,t,v)=some (encA s.Types t v)∧ga7 (s,t,v)=some (encA s.Types t v)∧g4m (s,t,v)=some (((vpay s.Types t v).length:Int),0)∧gc2 (s,t,v)=some (((vpay s.Types t v).length:Int),0):=by
 obtain⟨h1,h2,h3⟩:=gww H hv hw hf;have h2':g1h (s,t,v)=some (vpay s.Types t v):=h2;have h3':g2e (s,t,v)=_:=h3;have hc':g2y ((⟨s.Types⟩:SSchema),t,v)=some 0:=hc;refine⟨?_,?_,?_,?_⟩
 · rw[g3v];simp only[SValue.gq];rw[hc',h1];simp only[oZ4,oZ3];rw[if_neg (by simp)];unfold encA;generalize vpay s.Types t v=p;generalize vlev s.Types t v=l;by_cases g:4096 < p.length
   · rw [if_pos (by have : (4096 : Int) < p.length := by omega
                    simp[this]),if_pos (.inl g)]
   · by_cases g2:200 < l
     · rw [if_pos (by have : ¬ (4096 : Int) < p.length := by omega
                      have h2:(200:Int) < l:=by omega
                      simp[this,h2]),if_pos (.inr g2)]
     · rw [if_neg (by have : ¬ (4096 : Int) < p.length := by omega
                      have h2:¬(200:Int) < l:=by omega
                      simp[this,h2]),if_neg (by omega)]
 · rw[ga7];simp only[SValue.gq];rw[hr];simp only[oZ4,oZ3];rw[if_neg (by simp),h2'];simp only[oZ3];rw[h3'];unfold encA;generalize vpay s.Types t v=p;generalize vlev s.Types t v=l;by_cases g:4096 < p.length
   · have:decide ((4096:Int) < p.length)=true:=by simp;omega
     rw[this,if_neg (by simp)];simp only[oZ3,cond_true];rw[if_pos trivial,if_pos (.inl g)]
   · have:decide ((4096:Int) < p.length)=false:=by simp;omega
     rw[this,if_pos (by simp)];simp only[oZ3,cond_false];by_cases g2:200 < l
     · rw[if_pos (by simp;omega),if_pos (.inr g2)]
     · rw[if_neg (by simp;omega),if_neg (by omega)]
 · rw[g4m];simp only[SValue.gq];rw[hc,h1];rfl
 · rw[gc2];simp only[SValue.gq];rw[hr,h2'];rfl
end
section
open Go Go.Proofs.YthnmepafpikaiaaGreat.Shv Go.Sort
set_option maxRecDepth 100000
abbrev Nd :=Sheaveref07Node
abbrev dNd :=dSheaveref07Node
theorem gqo{x m:Int}(h:0≤x)(hm:0≤m) :remI x m=x % m:=by
 unfold remI;rw[Int.tmod_eq_emod_of_nonneg h]
def U8(x:Int) :Prop:=0≤x∧x≤255
structure NOk (x:Nd):Prop where
 k:U8 x.Kind
 a:U8 x.A
 b:U8 x.B
 c:U8 x.C
 p:∀q,q∈x.Parts→U8 q.ID∧U8 q.Type_∧U8 q.Flag
 l:x.Parts.length≤reachBytes
def kd(ns:List Nd)(i:Int) :Int:=1+(ns.getD i.toNat dNd).Kind % 9
section
variable {ns:List Nd} (hN:∀x,x∈ns→NOk x) (h5:ns.length≤5)
def Tgt(ns:List Nd)(i u:Int) :Prop:=0≤u∧u < ns.length∧(7≤kd ns u∨u < i)
def KeyT(ns:List Nd)(u:Int) :Prop:=0≤u∧u < ns.length∧1≤kd ns u∧kd ns u≤4
def idsL(x:Nd) :List Int:=(gk3 x).getD []
def InitP(k:Int)(x:Nd)(key:Prop)(v:SValue) :Prop:=
 v.Keys=[]∧v.Items=[]∧v.Rest=[]∧
 (k=1∧v.Kind=1∧v.Int_=0∧v.Str=[]∧v.ID=0∨
  k=2∧v.Kind=2∧v.Bool_=false∧v.Str=[]∧v.ID=0∧x.A % 7 - 3≤v.Int_∧v.Int_≤x.A % 7 - 3+x.B % 6∨
  k=3∧v.Kind=3∧v.Bool_=false∧v.Int_=0∧v.ID=0∧(v.Str.length:Int)≤x.A % 4∨
  k=4∧v.Kind=4∧v.Bool_=false∧v.Int_=0∧v.Str=[]∧v.ID∈idsL x∨
  7≤k∧v.Bool_=false∧v.Int_=0∧v.Str=[]∧v.ID=0∧(v.Kind=k∧(k=8→key)∨k=8∧v.Kind=7∧¬key))
def Init(ns:List Nd)(t:Int)(v:SValue) :Prop:=InitP (kd ns t) (ns.getD t.toNat dNd) (∃w,KeyT ns w) v
end
end
section
open Go Go.Proofs.YthnmepafpikaiaaGreat.Shv Go.Sort
set_option maxRecDepth 100000
section
variable {ns:List Nd} (hN:∀x,x∈ns→NOk x) (h5:ns.length≤5)
structure MemP (ns:List Nd) (i:Int) (record:Bool) (m:SMember):Prop where
 id:1≤m.ID∧m.ID≤12
 name:m.Name=[UInt8.ofNat 109,UInt8.ofNat (97+m.ID.toNat)]
 tgt:Tgt ns i m.Type_
 crit:m.Critical=true→m.HasDefault=false
 un:record=false→m.Critical=false∧m.HasDefault=false
 nod:m.HasDefault=false→m.Default=dSValue
 dfl:m.HasDefault=true→Init ns m.Type_ m.Default
def MemsP(ns:List Nd)(i:Int)(record:Bool)(l:List SMember) :Prop:=l.Pairwise (fun a b=>a.ID < b.ID)∧(∀m,m∈l→MemP ns i record m)∧l.length≤12
def symsL(l:List Int) :List SSymbol:=l.map fun j=>⟨j,[UInt8.ofNat 115,UInt8.ofNat (97+j.toNat)]⟩
def TyP(ns:List Nd)(i:Int)(t:SType) :Prop:=
 let x:=ns.getD i.toNat dNd
 let n:=(ns.length:Int)
 let nameL:=[UInt8.ofNat (65+i.toNat)]
 (kd ns i=1∧t=⟨1,[],0,0,0,[],[],0,0,false⟩)∨
 (kd ns i=2∧t=⟨2,[],x.A % 7 - 3,x.A % 7 - 3+x.B % 6,0,[],[],0,0,false⟩)∨
 (kd ns i=3∧t=⟨3,[],0,0,x.A % 4,[],[],0,0,false⟩)∨
 (kd ns i=4∧∃o,t=⟨4,nameL,0,0,0,symsL (idsL x),[],0,0,o⟩)∨
 (kd ns i=5∧∃l,MemsP ns i true l∧t=⟨5,nameL,0,0,0,[],l,0,0,false⟩)∨
 (kd ns i=6∧t=⟨5,nameL,0,0,0,[],[],0,0,false⟩)∨
 (kd ns i=6∧∃l o,MemsP ns i false l∧0 < l.length∧t=⟨6,nameL,0,0,0,[],l,0,0,o⟩)∨
 (kd ns i=7∧t=⟨7,[],0,0,x.A % 4,[],[],0,x.C % n,false⟩)∨
 (kd ns i=8∧(∀w,¬KeyT ns w)∧t=⟨7,[],0,0,x.A % 4,[],[],0,x.C % n,false⟩)∨
 (kd ns i=8∧∃k,KeyT ns k∧t=⟨8,[],0,0,x.A % 4,[],[],k,x.C % n,false⟩)∨
 (kd ns i=9∧t=⟨9,[],0,0,0,[],[],0,x.C % n,false⟩)
end
def DOk(d:Sheaveref07Draft) :Prop:=d.Nodes.length≤reachBytes∧∀x,x∈d.Nodes→NOk x
end
section
open Go Go.Proofs.YthnmepafpikaiaaGreat.Shv Go.Sort
set_option maxRecDepth 100000
structure DrOk (ts:List SType):Prop where
 n1:1≤ts.length
 n5:ts.length≤5
 T:∀t,t∈ts→OkT t
 V:VOk ts
 D:∀t,t∈ts→gyw ts t.Members
 R:∀i:Nat,i < ts.length→∀m,m∈(ts.getD i dSType).Members→0≤m.Type_∧m.Type_ < ts.length∧(7≤(ts.getD m.Type_.toNat dSType).Kind∨m.Type_ < i)
 L:∀t,t∈ts→t.Kind=2→-3≤t.Low∧t.High≤8
 M:∀t,t∈ts→t.Max≤3
 I:∀t,t∈ts→(∀m,m∈t.Members→m.ID≤12)∧(∀y,y∈t.Symbols→y.ID≤6)∧t.Members.length≤12
 W:∀t,t∈ts→∀m,m∈t.Members→m.HasDefault=true→wt m.Default≤13
section
variable {ns:List Nd} (hN:∀x,x∈ns→NOk x) (h5:ns.length≤5) (h1:1≤ns.length) {l:List SType} (hl:l.length=ns.length) (hT:∀j,j < ns.length→TyP ns (j:Int) (l.getD j dSType))
end
end
section
open Go Go.Proofs.YthnmepafpikaiaaGreat.Shv Go.Sort
set_option maxRecDepth 100000
def Suf(C' C:List Int) :Prop:=C'.length≤C.length∧∀c,c∈C'→c∈C
theorem Suf.refl(C:List Int) :Suf C C:=⟨Nat.le_refl _,fun _ h=>h⟩
theorem Suf.trans{A B C:List Int}(h:Suf A B)(k:Suf B C) :Suf A C:=⟨Nat.le_trans h.1 k.1,fun c hc=>k.2 c (h.2 c hc)⟩
def CU8(C:List Int) :Prop:=∀c,c∈C→U8 c
section
variable {ts:List SType}
end
end
section
open Go Go.Proofs.YthnmepafpikaiaaGreat.Shv Go.Sort
set_option maxRecDepth 100000
section
variable {ts:List SType}
def rk(ts:List SType)(t:Nat) :Nat:=if 7≤(ts.getD t dSType).Kind then 0 else t+1
end
end
section
open Go Go.Proofs.YthnmepafpikaiaaGreat.Shv Go.Sort
set_option maxRecDepth 100000
section
variable {ts:List SType}
end
structure DrIn (d:Sheaveref08Draft):Prop where
 s:DOk d.S
 t:U8 d.T
 c:CU8 d.C
 l:d.C.length≤reachBytes
end
section
open Go Go.Proofs.YthnmepafpikaiaaGreat.Shv Go.Sort
set_option maxRecDepth 100000
theorem gvu{ts:List SType}(H:SOk ts){v:SValue}(hv:OkV v)(t:Int)(pl:Bool) :SaysP (g2w ((⟨ts⟩:SSchema),t,v,pl)) (vfit ts pl t v):=by
 obtain⟨r,h1,h2⟩:=gvt (by have:=H.n;omega) H.T H.K hv t pl;obtain⟨q,q1,q2⟩:=gm2 (by have:=H.n;omega) H.T H.K hv t pl;rw[h1]at q2;have:r=q:=Option.some.inj q2;subst this;exact⟨r,q1,h2⟩
theorem gso{ts:List SType}(hT:∀t,t∈ts→OkT t)(hV:VOk ts){v:SValue}(hv:OkV v){t:Int}(hf:vfit ts false t v) :g2y ((⟨ts⟩:SSchema),t,v)=some 0∧g48 ((⟨ts⟩:SSchema),t,v)=some 0:=by
 have H:=hV.sok hT;obtain⟨v1,v2⟩:=gmc hT hV;obtain⟨⟨g1,g2,_⟩,_⟩:=(g6b _ _ _).1 hf;obtain⟨e,e1,e2,_⟩:=gsh (s:=⟨ts⟩) (by have:=hV.n;unfold reachBytes;show ts.length≤_;omega) hT hv t;obtain⟨r,r1,r2⟩:=gvu H hv t false;have hr:=r2.2 hf;subst hr;have hout:¬((bif decide (t < 0)then true else decide (((⟨ts⟩:SSchema).Types.length:Int)≤t))=true):=by
   have a:¬t < 0:=by omega
   have b:¬((ts.length:Nat):Int)≤t:=by omega
   simp only[a,b,decide_false,cond_false,Bool.false_eq_true,not_false_eq_true]
 have key:g2y ((⟨ts⟩:SSchema),t,v)=some 0:=by
   rw[g2y,g4h];simp only[g7o,SValue.gq];rw[v1];show((if(bif decide (t < 0)then true else decide (((⟨ts⟩:SSchema).Types.length:Int)≤t))=true then some (4:Int)else some 0) >>=_)=_;rw[if_neg hout];show(g6h ((⟨ts⟩:SSchema),t,v) >>=_)=_;rw[g6h];simp only[SValue.gq];rw[r1];rfl
 rw[key]at e1;have:e=0:=(Option.some.inj e1).symm;subst this;exact⟨key,e2⟩
end
section
open Go Go.Proofs.YthnmepafpikaiaaGreat.Shv Go.Sort
set_option maxRecDepth 100000
def lgT :List SType:=[(⟨3,[],0,0,200,[],[],0,0,false⟩:SType),(⟨7,[],0,0,50,[],[],0,0,false⟩:SType),(⟨9,[],0,0,0,[],[],0,2,false⟩:SType)]
def strV(s:List UInt8) :SValue:=⟨3,false,0,s,0,[],[],[]⟩
def listV(l:List SValue) :SValue:=⟨7,false,0,[],0,[],l,[]⟩
def optI :Nat→List SValue
 | 0=>[]
 | k+1=>[⟨9,false,0,[],0,[],optI k,[]⟩]
def optV(k:Nat) :SValue:=⟨9,false,0,[],0,[],optI k,[]⟩
theorem gkj{t:SType}(h:t∈lgT) :t=⟨3,[],0,0,200,[],[],0,0,false⟩∨t=⟨7,[],0,0,50,[],[],0,0,false⟩∨t=⟨9,[],0,0,0,[],[],0,2,false⟩:=by
 unfold lgT at h
 simpa using h
theorem lg_t :∀t,t∈lgT→OkT t:=by
 intro t h;rcases gkj h with rfl | rfl | rfl <;> exact⟨by simp,by simp,fun m hm=>by cases hm⟩
theorem lg_v :VOk lgT where
 n:=by decide
 F t h:=by
   rcases gkj h with rfl | rfl | rfl
   · exact .inr (.inr (.inl ⟨rfl,rfl,rfl,rfl,by decide,rfl,rfl,rfl,rfl,rfl⟩))
   · exact .inr (.inr (.inr (.inr (.inr (.inr (.inl ⟨rfl,rfl,rfl,rfl,by decide,rfl,rfl,rfl,rfl⟩))))))
   · exact .inr (.inr (.inr (.inr (.inr (.inr (.inr (.inr ⟨rfl,rfl,rfl,rfl,rfl,rfl,rfl,rfl,rfl⟩)))))))
 D i h:=by
   have h:i < 3:=h
   match i,h with
   | 0,_=>rfl
   | 1,_=>rfl
   | 2,_=>rfl
 U t h u hu:=by
   rcases gkj h with rfl | rfl | rfl
   · simp[usesL]at hu
   · simp[usesL]at hu;subst hu;decide
   · simp[usesL]at hu;subst hu;decide
 Ky t h k:=by
   rcases gkj h with rfl | rfl | rfl <;> cases k
theorem gwx{s:List UInt8}(h:s.length≤200) :OkV (strV s):= .mk _ (by show s.length≤reachBytes;unfold reachBytes;omega) (by simp[strV]) (by simp[strV]) (by simp[strV]) (fun x h=>by cases h) (fun x h=>by cases h) (fun x h=>by cases h) (by simp[strV]) (by simp[strV]) (by simp[strV]) (fun x h=>by cases h)
theorem gvv{l:List SValue}(h:l.length≤50)(hl:∀x,x∈l→OkV x) :OkV (listV l):= .mk _ (by simp[listV]) (by simp[listV]) (by show l.length≤reachBytes;unfold reachBytes;omega) (by simp[listV]) (fun x h=>by cases h) hl (fun x h=>by cases h) (by simp[listV]) (by simp[listV]) (by simp[listV]) (fun x h=>by cases h)
theorem gqp :∀k,OkV (optV k)
 | 0=>.mk _ (by simp[optV]) (by simp[optV]) (by simp[optV,optI]) (by simp[optV]) (fun x h=>by cases h) (fun x h=>by cases h) (fun x h=>by cases h) (by simp[optV]) (by simp[optV]) (by simp[optV]) (fun x h=>by cases h)
 | k + 1 => .mk _ (by simp [optV]) (by simp [optV]) (by show 1 ≤ reachBytes; unfold reachBytes; omega) (by simp [optV]) (fun x h => by cases h) (fun x h => by
     have h:x∈[optV k]:=h
     rw[List.mem_singleton.1 h];exact gqp k) (fun x h=>by cases h) (by simp[optV]) (by simp[optV]) (by simp[optV]) (fun x h=>by cases h)
theorem gwy{s:List UInt8}(h:s.length≤200) :vfit lgT false 0 (strV s):=
 (g6b _ _ _).2 ⟨⟨by decide,by decide,rfl,fun h=>by cases h⟩,.inr (.inr (.inl ⟨rfl,rfl,rfl,rfl,rfl,rfl,rfl,by show(s.length:Int)≤200;omega⟩))⟩
theorem gvw{l:List SValue}(h:l.length≤50)(hl:∀x,x∈l→vfit lgT false 0 x) :vfit lgT false 1 (listV l):=
 (g6b _ _ _).2 ⟨⟨by decide,by decide,rfl,fun h=>by cases h⟩,.inr (.inr (.inr (.inr (.inr (.inr (.inl ⟨rfl,rfl,rfl,rfl,rfl,rfl,rfl,by show(l.length:Int)≤50;omega,g24.2 hl⟩))))))⟩
theorem gqq :∀k,vfit lgT false 2 (optV k)
 | 0=>(g6b _ _ _).2 ⟨⟨by decide,by decide,rfl,fun h=>by cases h⟩,.inr (.inr (.inr (.inr (.inr (.inr (.inr (.inr ⟨rfl,rfl,rfl,rfl,rfl,rfl,rfl,by simp[optV,optI],g24.2 fun x h=>by cases h⟩)))))))⟩
 | k + 1 => (g6b _ _ _).2 ⟨⟨by decide, by decide, rfl, fun h => by cases h⟩, .inr (.inr (.inr (.inr (.inr (.inr (.inr (.inr ⟨rfl, rfl, rfl, rfl, rfl, rfl, rfl, Nat.le_refl 1, g24.2 fun x h => by
     have h:x∈[optV k]:=h
     rw[List.mem_singleton.1 h];exact gqq k⟩)))))))⟩
theorem gqr :∀k,vpay lgT 2 (optV k)=List.replicate k 1
 | 0=>by
   rw[vpay9 rfl]
   show(match vpays lgT 2 []with
     | []=>[]
     | p::_=>1::p)=[]
   rw[vpays]
 | k+1=>by
   rw[vpay9 rfl]
   show(match vpays lgT 2 [optV k]with
     | []=>[]
     | p::_=>1::p)=_
   rw[vpays];show 1::vpay lgT 2 (optV k)=_;rw[gqr k];rfl
theorem gqs :∀k,vlev lgT 2 (optV k)=k+1
 | 0=>gcm rfl rfl
 | k+1=>by
   rw[ge2];show 1+max 0 (vlevs lgT 2 [optV k])=_;rw[vlevs,vlevs,gqs k];omega
theorem guy :∀k,wt (optV k)=10*(k+1)
 | 0=>by rw[wt_eq];simp[optV,optI,gb7]
 | k+1=>by
   rw[wt_eq];show 10+0+0+wts []+wts [optV k]=_;rw[gb7,gc3,gb7,guy k];omega
theorem gyx(s:List UInt8) :wt (strV s)=10+s.length:=by rw[wt_eq];simp[strV,gb7]
theorem gwz(s:List UInt8)(m:Nat) :wt (listV (List.replicate m (strV s)))=10+m*(10+s.length):=by
 rw[wt_eq];show 10+0+0+wts []+wts (List.replicate m (strV s))=_;rw[gb7];have:wts (List.replicate m (strV s))=m*(10+s.length):=by
   induction m with
   | zero=>rw[List.replicate_zero,gb7,Nat.zero_mul]
   | succ m ih=>rw[List.replicate_succ,gc3,ih,gyx,Nat.succ_mul];omega
 rw[this]
theorem gvx(s:List UInt8)(m:Nat) :(vpay lgT 1 (listV (List.replicate m (strV s)))).length=m*((vput s.length).length+s.length):=by
 rw[vpay7 rfl];show((vpays lgT 0 (List.replicate m (strV s))).flatMap g42).length=_;have hs:vpay lgT 0 (strV s)=s:=vpay3 rfl
 induction m with
 | zero=>rw[List.replicate_zero,vpays,Nat.zero_mul];rfl
 | succ m ih=>
   rw[List.replicate_succ,vpays,List.flatMap_cons,List.length_append,ih,hs,Nat.succ_mul];unfold g42;rw[List.length_append];omega
theorem gvy(s:List UInt8)(m:Nat) :vlev lgT 1 (listV (List.replicate m (strV s)))≤2:=by
 rw[ge2];show 1+max 0 (vlevs lgT 0 (List.replicate m (strV s)))≤2;have:vlevs lgT 0 (List.replicate m (strV s))≤1:=by
   induction m with
   | zero=>rw[List.replicate_zero,vlevs];omega
   | succ m ih=>
     have h1:vlev lgT 0 (strV s)=1:=gcm rfl rfl;rw[List.replicate_succ,vlevs,h1];omega
 omega
theorem gx0{n:Nat}(h:n≤200) :(vput n).length=if 127 < n then 2 else 1:=by
 by_cases hs:n < 128
 · rw[g92 hs,if_neg (by omega)];rfl
 · rw[gep hs,g92 (by omega),if_pos (by omega)];rfl
theorem guz{t:Int}{v:SValue}(hv:OkV v)(hf:vfit lgT false t v)(hw:wt v≤1000000) :g3v ((⟨lgT⟩:SSchema),t,v)=some (encA lgT t v)∧g4m ((⟨lgT⟩:SSchema),t,v)=some (((vpay lgT t v).length:Int),0):=by
 obtain⟨e1,e2⟩:=gso lg_t lg_v hv hf;obtain⟨a1,_,a3,_⟩:=gux (s:=⟨lgT⟩) (lg_v.sok lg_t) hv (by omega) hf e1 e2;exact⟨a1,a3⟩
theorem gmd :∀(k L:Nat),L+k≤200→gr ((⟨(⟨lgT⟩:SSchema)⟩:EncodeReader),2,List.replicate k 1,(L:Int))=some true
 | k,L,h=>by
   rw[gr,if_pos (show inR 2 lgT.length=true by decide)];simp only[oZ4,oZ3];rw[if_neg (by simp;omega)];have hx:lgT.getD (2:Int).toNat dSType=⟨9,[],0,0,0,[],[],0,2,false⟩:=rfl;rw[hx,if_neg (by decide)]
   rw[show decide ((⟨9,[],0,0,0,[],[],0,2,false⟩:SType).Kind=7)=false from rfl,if_neg (by simp),if_neg (by decide),if_pos (by decide)];cases k with
   | zero=>rfl
   | succ k=>
     have ih:=gmd k (L+1) (by omega);have e1:addI .i64 (L:Int) 1=((L+1:Nat):Int):=gg (by omega);have e2:cutL (List.replicate (k+1) (1:UInt8)) 1 ((List.replicate (k+1) (1:UInt8)).length:Int)=List.replicate k 1:=by
       unfold cutL;simp[List.replicate_succ]
     have e3:decide (List.replicate (k+1) (1:UInt8)=[])=false:=by simp[List.replicate_succ]
     have e4:g4n (List.replicate (k+1) (1:UInt8)) 0=1:=by simp[g4n,List.replicate_succ]
     have e5:inR 0 (List.replicate (k+1) (1:UInt8)).length=true:=g6 (by simp);have e6:slR 1 ((List.replicate (k+1) (1:UInt8)).length:Int) (List.replicate (k+1) (1:UInt8)).length=true:=by
       unfold slR;simp;omega
     rw[e3,e5,e4,e6,e2,e1];simp only[Bool.true_or,if_true,decide_true,Bool.not_false,Bool.true_and];rw[ih];rfl
theorem gyy{k:Nat}(h:k≤199) :g4i ((⟨lgT⟩:SSchema),2,List.replicate k 1)=some true:=by
 obtain⟨v1,_⟩:=gmc lg_t lg_v;have he:g4h ((⟨lgT⟩:SSchema),2)=some 0:=by
   rw[g4h];simp only[g7o];rw[v1];rfl
 rw[g4i];simp only[g7o];rw[he];have hl:decide (((List.replicate k (1:UInt8)).length:Int)≤4096)=true:=by rw[List.length_replicate];simp;omega
 simp only[oZ4,oZ3,decide_true,cond_true];rw[hl];have:=gmd k 1 (by omega);have hr:gr ((⟨(⟨lgT⟩:SSchema)⟩:EncodeReader),2,List.replicate k 1,1)=some true:=this;rw[if_pos rfl,hr];rfl
theorem gqt(c:UInt8) :∀n,Lib.repeatL [c] n=List.replicate n c
 | 0=>rfl
 | n+1=>by rw[Lib.repeatL,gqt c n];rfl
theorem gme{c:UInt8}{n:Nat}(h:n≤1000) :g7j ([c],(n:Int))=some (List.replicate n c):=by
 unfold g7j;rw[if_pos (by simp;omega),Int.toNat_natCast,gqt]
theorem gv0{a:Nat}(h:a < 255) :addI .u8 (a:Int) 1=((a+1:Nat):Int):=by
 unfold addI;rw[IntKind.wrap_u8];omega
theorem gp1 {items length deep : Int} {ts : List SType} {a2 a4 a6 : Int} {a3 : Bool} {a5 : List UInt8} {m n : Nat} (hm : m ≤ 50) (hn : wrp .i64 (remI length 201) = (n : Int)) (hn2 : n ≤ 200) : ∀ (k i : Nat) (acc : List SValue), i + k = m → acc.length = i →
   g17 (items,length,deep,(m:Int),(i:Int),ts,a2,a3,a4,a5,a6,acc)=some (items,length,deep,ts,a2,a3,a4,a5,a6,acc++List.replicate k (strV (List.replicate n 120)))
 | 0,i,acc,hi,ha=>by
   rw[g17,if_neg (by simp;omega)];simp
 | k+1,i,acc,hi,ha=>by
   rw[g17,if_pos (by simp;omega),hn,gme (by omega)];simp only[oZ4,oZ3];rw[if_pos (go0 (by omega) (by simp;omega)),gv0 (by omega)];have:=gp1 (items:=items) (length:=length) (deep:=deep) (ts:=ts) (a2:=a2) (a3:=a3) (a4:=a4) (a5:=a5) (a6:=a6) hm hn hn2 k (i+1) (acc++[strV (List.replicate n 120)]) (by omega) (by simp;omega)
   have h2:g17 (items,length,deep,(m:Int),((i+1:Nat):Int),ts,a2,a3,a4,a5,a6,acc++[(⟨3,false,0,List.replicate n 120,0,[],[],[]⟩:SValue)])=_:=this;rw[h2,List.append_assoc];rfl
theorem gp2 {items length deep : Int} {ts : List SType} {a2 a4 a6 : Int} {a3 : Bool} {a5 : List UInt8} {l : List SValue} {m : Nat} (hm : m ≤ 255) : ∀ (k i : Nat), i + k = m →
   g1k (items,length,deep,(m:Int),(i:Int),ts,a2,a3,a4,a5,a6,9,false,0,[],0,optI i,l)=some (items,length,deep,ts,a2,a3,a4,a5,a6,9,false,0,[],0,optI m,l)
 | 0,i,hi=>by
   rw[g1k,if_neg (by simp;omega)];have:i=m:=by omega
   rw[this]
 | k+1,i,hi=>by
   rw[g1k,if_pos (by simp;omega),gv0 (by omega)];exact gp2 hm k (i+1) (by omega)
theorem gv1 {dp : Nat} (hd : dp ≤ 255) :
   (g3v ((⟨lgT⟩:SSchema),2,optV dp) >>=fun r_7=>
    g4m ((⟨lgT⟩:SSchema),2,optV dp) >>=fun r_10=>
    if decide (200 < addI .i64 (wrp .i64 (dp:Int)) 1)=true then
      some (bif bif bif decide (r_7.2=3)then decide (r_7.1=[])else false then decide (r_10.2=0)else false then decide (r_10.1=wrp .i64 (dp:Int))else false)
    else
      some (decide (r_7.2=0)) >>=fun t131=>
      (if t131=true then g7j ([1],wrp .i64 (dp:Int))else some []) >>=fun r_13=>
      some (bif bif bif t131 then decide (r_7.1=r_13)else false then decide (r_10.2=0)else false then decide (r_10.1=wrp .i64 (dp:Int))else false) >>=fun t148=>
      (if t148=true then g4i ((⟨lgT⟩:SSchema),2,r_7.1)else some false) >>=fun r_14=>
      some (bif t148 then r_14 else false))=some true:=by
 obtain⟨b1,b2⟩:=guz (gqp dp) (gqq dp) (by rw[guy];omega);have hw:wrp .i64 (dp:Int)=(dp:Int):=wrp64 (by omega) (by omega);rw[b1,b2,hw,gg (by omega)];simp only[oZ4,oZ3];unfold encA;rw[gqr,gqs,List.length_replicate];by_cases h:200 < dp+1
 · rw[if_pos (by simp;omega),if_pos (.inr h)];simp
 · rw[if_neg (by simp;omega),if_neg (show ¬(4096 < dp∨200 < dp+1) by omega)];simp only[decide_true,if_true,oZ3];rw[gme (by omega)];simp only[oZ3,decide_true,cond_true,if_true];rw[gyy (by omega)];rfl
theorem gv2{items length deep:Int}(h1:U8 items)(h2:U8 length)(h3:U8 deep) :g4b (items,length,deep)=some true:=by
 unfold U8 at h1 h2 h3;obtain⟨a,rfl⟩:∃a:Nat,items=(a:Int):=⟨items.toNat,by omega⟩
 obtain⟨b,rfl⟩:∃a:Nat,length=(a:Int):=⟨length.toNat,by omega⟩
 obtain⟨dp,rfl⟩:∃a:Nat,deep=(a:Int):=⟨deep.toNat,by omega⟩
 have ra:remI (a:Int) 51=((a % 51:Nat):Int):=by rw[gqo (by omega) (by omega)];omega
 have rb:remI (b:Int) 201=((b % 201:Nat):Int):=by rw[gqo (by omega) (by omega)];omega
 obtain⟨m,hm⟩:∃m,a % 51=m:=⟨_,rfl⟩
 obtain⟨n,hn⟩:∃n,b % 201=n:=⟨_,rfl⟩
 have hm50:m≤50:=by omega
 have hn200:n≤200:=by omega
 rw[hm]at ra;rw[hn]at rb;have wm:wrp .i64 (m:Int)=(m:Int):=wrp64 (by omega) (by omega);have wn:wrp .i64 (n:Int)=(n:Int):=wrp64 (by omega) (by omega);have L0:=gp1 (items:=(a:Int)) (length:=(b:Int)) (deep:=(dp:Int)) (ts:=lgT) (a2:=7) (a3:=false) (a4:=0) (a5:=[]) (a6:=0) hm50 (by rw[rb,wn]) hn200 m 0 [] (by omega) rfl
 have L1:=gp2 (items:=(a:Int)) (length:=(b:Int)) (deep:=(dp:Int)) (ts:=lgT) (a2:=7) (a3:=false) (a4:=0) (a5:=[]) (a6:=0) (l:=List.replicate m (strV (List.replicate n 120))) (m:=dp) (by omega) dp 0 (by omega);rw[List.nil_append]at L0
 have hl:∀x,x∈List.replicate m (strV (List.replicate n 120))→x=strV (List.replicate n 120):=fun x h=>List.eq_of_mem_replicate h
 have hsl:(List.replicate n (120:UInt8)).length≤200:=by rw[List.length_replicate];exact hn200
 have hll:(List.replicate m (strV (List.replicate n 120))).length≤50:=by rw[List.length_replicate];exact hm50
 have hwt:=gwz (List.replicate n (120:UInt8)) m;rw[List.length_replicate]at hwt;have hmul:m*(10+n)≤50*210:=Nat.mul_le_mul hm50 (by omega);obtain⟨E1,E2⟩:=guz (gvv hll fun x h=>by rw[hl x h];exact gwx hsl) (gvw hll fun x h=>by rw[hl x h];exact gwy hsl) (by rw[hwt];omega);have hp:=gvx (List.replicate n (120:UInt8)) m;rw[List.length_replicate,gx0 hn200]at hp
 have hlv:=gvy (List.replicate n (120:UInt8)) m;have O:=gv1 (dp:=dp) (by omega);rw[g4b,gdu];simp only[oZ4,oZ3];rw[if_neg (by simp),ra];have L0':g17 ((a:Int),(b:Int),(dp:Int),(m:Int),0,lgT,7,false,0,[],0,[])=_:=L0
 have L1':g1k ((a:Int),(b:Int),(dp:Int),(dp:Int),0,lgT,7,false,0,[],0,9,false,0,[],0,[],List.replicate m (strV (List.replicate n 120)))=_:=L1;show(g17 ((a:Int),(b:Int),(dp:Int),(m:Int),0,lgT,7,false,0,[],0,[]) >>=_)=_;rw[L0'];simp only[oZ4,oZ3];rw[L1'];simp only[oZ3]
 show(g3v ((⟨lgT⟩:SSchema),1,listV (List.replicate m (strV (List.replicate n 120)))) >>=_)=_;rw[E1];simp only[oZ4,oZ3];show(g4m ((⟨lgT⟩:SSchema),1,listV (List.replicate m (strV (List.replicate n 120)))) >>=_)=_;rw[E2];simp only[oZ4,oZ3];rw[ra,rb,wm,wn,gg (by omega)]
 have hmn:m*(n+1)≤50*201:=Nat.mul_le_mul hm50 (by omega);have em:mulI .i64 (m:Int) ((n+1:Nat):Int)=((m*(n+1):Nat):Int):=by
   rw[gtm (by rw[←Int.natCast_mul];omega) (by rw[←Int.natCast_mul];omega),Int.natCast_mul]
 rw [em];generalize hA : encA lgT 1 (listV (List.replicate m (strV (List.replicate n 120)))) = A;have good : ∀ sz : Nat, (vpay lgT 1 (listV (List.replicate m (strV (List.replicate n 120))))).length = sz →
     ¬((bif bif bif (!(decide True))then true else(!(decide (((vpay lgT 1 (listV (List.replicate m (strV (List.replicate n 120))))).length:Int)=(sz:Int))))then true else(!(eqB (decide (A.2=3)) (decide (4096 < (sz:Int)))))then true else bif decide (A.2=0)then(!(decide ((A.1.length:Int)=(sz:Int))))else false)=true):=by
   intro sz hsz;rw[←hA];unfold encA;by_cases hbig:4096 < sz
   · rw[if_pos (.inl (by omega)),hsz];have:(4096:Int) < (sz:Int):=by omega
     simp[this,eqB]
   · rw[if_neg (by rw[hsz];omega),hsz];have:¬(4096:Int) < (sz:Int):=by omega
     simp[this,eqB,hsz]
 by_cases hb:127 < n
 · rw[if_pos (by simp;omega),gkv (by omega)];rw[if_neg (good _ (by rw[hp,if_pos hb,Nat.mul_add,Nat.mul_add];omega))];exact O
 · rw[if_neg (by simp;omega)];rw[if_neg (good _ (by rw[hp,if_neg hb,Nat.add_comm 1 n]))];exact O
theorem okU8{n:Int}(h:WF Un ⟨.int .u8,n⟩) :U8 n:=by
 cases h with
 | int k n h=>
   simp[Lit.wf,IntKind.min,IntKind.max,IntKind.bits,IntKind.signed]at h;unfold U8;omega
theorem law_EncodeLarge(h:Hs Un.D [.int .u8,.int .u8,.int .u8])(hk:Ok Un [.int .u8,.int .u8,.int .u8] h) :g4b h=some true:=by
 obtain⟨a,b,c⟩:=h;exact gv2 (okU8 (guw hk ⟨.int .u8,a⟩ (.head _))) (okU8 (guw (gp0 hk) ⟨.int .u8,b⟩ (.head _))) (okU8 (okOne (gp0 (gp0 hk)) ⟨.int .u8,c⟩ (.head _)))
end
end Go.Proofs.YthnmepafpikaiaaGreat
