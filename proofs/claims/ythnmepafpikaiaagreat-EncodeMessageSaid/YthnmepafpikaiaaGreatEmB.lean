/- The functions of the program as functions of Lean, that its code does what they say, and what they answer; part B. -/
import Derived.Test.YthnmepafpikaiaaGreatEmA

namespace Go.Proofs.YthnmepafpikaiaaGreat
set_option linter.all false
section
open Go Go.Proofs.YthnmepafpikaiaaGreat.Shv
set_option maxRecDepth 100000
def vput(n:Nat) :List UInt8:=if n < 128 then[UInt8.ofNat n]else UInt8.ofNat (n % 128+128)::vput (n / 128)
termination_by n
decreasing_by omega
theorem gc2{n:Nat}(h:n < 128) :vput n=[UInt8.ofNat n]:=by rw[vput,if_pos h]
theorem gcm{n:Nat}(h:¬n < 128) :vput n=UInt8.ofNat (n % 128+128)::vput (n / 128):=by rw[vput,if_neg h]
theorem g14i{a:Nat}(h:a < 256) :orI .u8 (a:Int) 128=((a % 128+128:Nat):Int):=by
 have key:∀a:Nat,a < 256→orI .u8 (a:Int) 128=((a % 128+128:Nat):Int):=by decide+kernel
 exact key a h
theorem wrp8(n:Nat) :wrp .u8 (n:Int)=((n % 256:Nat):Int):=by
 unfold wrp;rw[IntKind.wrap_u8];omega
theorem shrI7(n:Nat) :shrI .u64 (n:Int) 7=((n / 128:Nat):Int):=by
 unfold shrI;have:((2:Int) ^ min (7:Int).toNat IntKind.u64.bits)=128:=by decide
 rw[this,Int.fdiv_eq_ediv_of_nonneg _ (by omega)];omega
theorem gz2(m:Nat)(l:List Int) :strOf ((m:Int)::l)=UInt8.ofNat m::strOf l:=rfl
theorem gc3(a b:List Int) :strOf (a++b)=strOf a++strOf b:=List.map_append
theorem gdi{α:Type} :∀(l:List α) (i:Nat) (x:α),i < l.length→(l.set i x).take (i+1)=l.take i++[x]
 | [],i,x,h=>by simp at h
 | a::l,0,x,h=>by simp
 | a::l,i+1,x,h=>by simp[gdi l i x (by simpa using h)]
theorem g11k :∀(f n i:Nat) (b:List Int),i+f=9→n < 128*128 ^ f→b.length=10→∃(n' i':Nat) (b':List Int),g6y ((n:Int),(i:Int),b)=some ((n':Int),(i':Int),b')∧n' < 128∧i'≤9∧b'.length=10∧strOf (b'.take i')++[UInt8.ofNat n']=strOf (b.take i)++vput n
 | f,n,i,b,hi,hn,hb=>by
   rw[g6y];by_cases hs:n < 128
   · rw[if_neg (by simp;omega)];exact⟨n,i,b,rfl,hs,by omega,hb,by rw[gc2 hs]⟩
   · rw[if_pos (by simp;omega),if_pos (g6 (by
       cases f with
       | zero=>simp at hn;omega
       | succ f=>omega)),if_pos (by
       cases f with
       | zero=>simp at hn;omega
       | succ f=>simp[hb];omega)]
     match f,hi,hn with
     | 0,hi,hn=>simp at hn;omega
     | f+1,hi,hn=>
       rw[shrI7,ge (by omega),wrp8,g14i (Nat.mod_lt _ (by omega)),g7];have hlt:n / 128 < 128*128 ^ f:=by
         rw[Nat.div_lt_iff_lt_mul (by omega)];rw[Nat.pow_succ]at hn;rw[Nat.mul_assoc];exact hn
       obtain⟨n',i',b',h1,h2,h3,h4,h5⟩:=g11k f (n / 128) (i+1) (b.set i ((n % 256 % 128+128:Nat):Int)) (by omega) hlt (by simp[hb]);refine⟨n',i',b',h1,h2,h3,h4,?_⟩;rw[h5,gdi _ _ _ (by omega),gc3,gcm hs];have:n % 256 % 128=n % 128:=by omega
       rw[this];have hone:strOf [((n % 128+128:Nat):Int)]=[UInt8.ofNat (n % 128+128)]:=rfl;rw[hone,List.append_assoc];rfl
theorem guc :(128:Nat)*128 ^ 9=1180591620717411303424:=by decide
theorem glo{n:Nat}(hn:n < 18446744073709551616) :g95 (n:Int)=some (vput n):=by
 obtain⟨n',i',b',h1,h2,h3,h4,h5⟩:=g11k 9 n 0 [0,0,0,0,0,0,0,0,0,0] rfl (by rw[guc];omega) rfl;rw[g95];have h1':g6y ((n:Int),0,[0,0,0,0,0,0,0,0,0,0])=some ((n':Int),(i':Int),b'):=h1;rw[h1'];simp only[oZ4,oZ3];have hsl:slR 0 ((i'+1:Nat):Int) 10=true:=g57 (a:=0) (by omega) (by omega)
 rw[if_pos (g6 (by omega)),if_pos (by simp[h4];omega),ge (by omega),if_pos hsl,if_pos (by simp[subR,h4];omega),g7,g7,wrp8];have:n' % 256=n':=Nat.mod_eq_of_lt (by omega);rw[this];simp only[Int.toNat_zero,List.drop_zero];rw[gdi _ _ _ (by omega),gc3];have h6:strOf [(n':Int)]=[UInt8.ofNat n']:=rfl;rw[h6,h5];simp[strOf]
theorem grj :∀(f n:Nat) (b:List Int),n < 128 ^ f→n < 18446744073709551616→b.length+f≤1000→∃(n':Nat) (b':List Int),g5w ((n:Int),b)=some ((n':Int),b')∧n' < 128∧b'.length≤1000∧strOf b'++[UInt8.ofNat n']=strOf b++vput n
 | f,n,b,hn,h64,hb=>by
   rw[g5w];by_cases hs:n < 128
   · rw[if_neg (by simp;omega)];exact⟨n,b,rfl,hs,by omega,by rw[gc2 hs]⟩
   · rw[if_pos (by simp;omega)]
     match f,hn with
     | 0,hn=>simp at hn;omega
     | f+1,hn=>
       have hrem:remI (n:Int) 128=((n % 128:Nat):Int):=remIn (b:=128);have hadd:addI .u64 ((n % 128:Nat):Int) 128=((n % 128+128:Nat):Int):=addIn (b:=128) (by omega);have hq:quoI .u64 (n:Int) 128=((n / 128:Nat):Int):=by
         unfold quoI;have e:(n:Int).tdiv 128=((n / 128:Nat):Int):=by rw[Int.tdiv_eq_ediv_of_nonneg (by omega)];omega
         rw[e];exact wrapu (by omega) (by omega)
       simp only[oZ4,oZ3];rw[hrem,hadd,hq,wrp8,if_pos (g44 (by omega) (by simp;omega))];have hlt:n / 128 < 128 ^ f:=by
         rw[Nat.div_lt_iff_lt_mul (by omega)];rw[Nat.pow_succ]at hn;exact hn
       obtain⟨n',b',h1,h2,h3,h4⟩:=grj f (n / 128) (b++[(((n % 128+128) % 256:Nat):Int)]) hlt (by omega) (by simp;omega);refine⟨n',b',h1,h2,h3,?_⟩;rw[h4,gc3,gcm hs];have:(n % 128+128) % 256=n % 128+128:=by omega
       rw[this];have hone:strOf [((n % 128+128:Nat):Int)]=[UInt8.ofNat (n % 128+128)]:=rfl;rw[hone,List.append_assoc];rfl
theorem gd9{n:Nat}(hn:n < 18446744073709551616) :g56 (n:Int)=some (vput n):=by
 obtain⟨n',b',h1,h2,h3,h4⟩:=grj 10 n [] (by have:=guc;rw[Nat.pow_succ,Nat.mul_comm];omega) hn (by simp);rw[g56,h1];simp only[oZ4,oZ3];rw[if_pos (g44 (by omega) (by simp;omega)),wrp8,gc3];have:n' % 256=n':=Nat.mod_eq_of_lt (by omega);rw[this];have h6:strOf [(n':Int)]=[UInt8.ofNat n']:=rfl;rw[h6,h4];simp[strOf]
theorem gud :∀(f n:Nat),n < 128 ^ (f+1)→(vput n).length≤f+1
 | f,n,hn=>by
   by_cases hs:n < 128
   · rw[gc2 hs];simp
   · rw[gcm hs]
     match f,hn with
     | 0,hn=>simp at hn;omega
     | f+1,hn=>
       have:=gud f (n / 128) (by
         rw[Nat.div_lt_iff_lt_mul (by omega)]
         rw[Nat.pow_succ]at hn;exact hn)
       simp;omega
theorem g4i{n:Nat}(hn:n < 18446744073709551616) :(vput n).length≤10:=gud 9 n (by have:=guc;rw[Nat.pow_succ,Nat.mul_comm];omega)
theorem gfp(n:Nat) :0 < (vput n).length:=by
 rw[vput];split <;> simp
theorem g3g{n:Nat}(h:n < 256) :(UInt8.ofNat n).toNat=n:=by
 rw[UInt8.toNat_ofNat'];exact Nat.mod_eq_of_lt h
theorem g11l :∀(f i acc n:Nat) (pre rest:List UInt8),i+f=10→pre.length=i→n*2 ^ (7*i) < 18446744073709551616→(n=0→i=0)→vg (pre++(vput n++rest)) f i acc=(((acc+n*2 ^ (7*i):Nat):Int),((i+(vput n).length:Nat):Int),0)
 | 0,i,acc,n,pre,rest,hi,hp,hn,h0=>by
   have:i=10:=by omega
   subst this;have e:(2:Nat) ^ (7*10)=1180591620717411303424:=by decide
   rw[e]at hn;have:n=0:=by omega
   have:=h0 this;omega
 | f+1,i,acc,n,pre,rest,hi,hp,hn,h0=>by
   have hlen:i < (pre++(vput n++rest)).length:=by
     have:=gfp n;simp;omega
   have hget:∀(x:UInt8) (r:List UInt8),vput n=x::r→(pre++(vput n++rest)).getD i 0=x:=by
     intro x r hx;rw[hx,List.getD_eq_getElem?_getD,List.getElem?_append_right (by omega),hp];simp
   simp only[vg];rw[if_pos hlen];by_cases hs:n < 128
   · rw[hget _ _ (gc2 hs),g3g (by omega),if_neg (by
       rintro ⟨h1,h2⟩
       subst h1;have e:(2:Nat) ^ (7*9)=9223372036854775808:=by decide
       rw[e]at hn;omega),if_neg (by omega),if_neg (by
       rintro ⟨h1,h2⟩
       have:=h0 h1;omega),gc2 hs]
     simp
   · have hi9:i < 9:=by
       apply Classical.byContradiction;intro h9;have:i=9:=by omega
       rw[this]at hn;have e:(2:Nat) ^ (7*9)=9223372036854775808:=by decide
       rw[e]at hn;omega
     rw[hget _ _ (gcm hs),g3g (by omega),if_neg (by omega),if_pos (by omega)];have hmod:(n % 128+128) % 128=n % 128:=by omega
     have hsum:n % 128*2 ^ (7*i)+n / 128*2 ^ (7*(i+1))=n*2 ^ (7*i):=by
       rw[pow7s];have h1:n / 128*(2 ^ (7*i)*128)=(n / 128*128)*2 ^ (7*i):=by
         rw[Nat.mul_comm (2 ^ (7*i)) 128,Nat.mul_assoc]
       rw[h1,←Nat.add_mul]
       congr 1;omega
     have hbound:n / 128*2 ^ (7*(i+1)) < 18446744073709551616:=by omega
     have:=g11l f (i+1) (acc+n % 128*2 ^ (7*i)) (n / 128) (pre++[UInt8.ofNat (n % 128+128)]) rest (by omega) (by simp[hp]) hbound (by omega);rw[hmod];have es:pre++(vput n++rest)=pre++[UInt8.ofNat (n % 128+128)]++(vput (n / 128)++rest):=by
       rw[gcm hs];simp
     rw[es,this,Nat.add_assoc,hsum,gcm hs,List.length_cons];have:i+1+(vput (n / 128)).length=i+((vput (n / 128)).length+1):=by omega
     rw[this]
theorem gi8{n:Nat}(hn:n < 18446744073709551616)(rest:List UInt8) :vg (vput n++rest) 10 0 0=((n:Int),((vput n).length:Int),0):=by
 have:=g11l 10 0 0 n [] rest rfl rfl (by simpa using hn) (fun _=>rfl)
 simpa using this
def g1s(p:List UInt8) :List UInt8:=vput p.length++p
theorem g39{n:Nat}(h:n≤9223372036854775807) :decide (n≤g2p)=true:=by
 unfold g2p;simp;omega
theorem gj8{p:List UInt8}(h:p.length≤1152921504606846976) :g6n p=some (g1s p):=by
 rw[g6n,wrpn (by omega),glo (by omega)];simp only[oZ4,oZ3];have:=g4i (n:=p.length) (by omega);rw[if_pos (g39 (by omega))];rfl
theorem gcx{p:List UInt8}(h:p.length≤1152921504606846976) :g4u p=some (g1s p):=by
 rw[g4u,wrpn (by omega),gd9 (by omega)];simp only[oZ4,oZ3];have:=g4i (n:=p.length) (by omega);rw[if_pos (g39 (by omega))];rfl
def g4j(id:Nat)(c:Bool)(p:List UInt8) :List UInt8:=vput (2*id+(if c then 1 else 0))++g1s p
theorem gpk{p:List UInt8}(h:p.length≤1152921504606846976) :(g1s p).length≤p.length+10:=by
 have:=g4i (n:=p.length) (by omega);unfold g1s;simp;omega
theorem gue{id:Nat}{c:Bool}{p:List UInt8}(hid:id≤4611686018427387903)(h:p.length≤1152921504606846900) :ga2 ((id:Int),c,p)=some (g4j id c p):=by
 rw[ga2];have hm:mulI .u64 2 (wrp .u64 (id:Int))=((2*id:Nat):Int):=by
   rw[wrpn (by omega)];exact mulIn (a:=2) (by omega)
 simp only[oZ4,oZ3];rw[hm,gj8 (by omega)];have hl:=gpk (p:=p) (by omega);cases c with
 | true=>
   have ha:addI .u64 ((2*id:Nat):Int) 1=((2*id+1:Nat):Int):=addIn (b:=1) (by omega);rw[if_pos rfl,ha,glo (by omega)];have:=g4i (n:=2*id+1) (by omega);simp only[oZ3];rw[if_pos (g39 (by omega))];rfl
 | false=>
   rw[if_neg (by simp),glo (by omega)];have:=g4i (n:=2*id) (by omega);simp only[oZ3];rw[if_pos (g39 (by omega))];rfl
theorem gn3{id:Nat}{c:Bool}{p:List UInt8}(hid:id≤4611686018427387903)(h:p.length≤1152921504606846900) :g71 ((id:Int),c,p)=some (g4j id c p):=by
 rw[g71];have hm:wrp .u64 (mulI .i64 2 (id:Int))=((2*id:Nat):Int):=by
   rw[g10l (by omega) (by omega)];have:(2:Int)*(id:Int)=((2*id:Nat):Int):=by omega
   rw[this];exact wrpn (by omega)
 simp only[oZ4,oZ3];rw[hm,gcx (by omega)];have hl:=gpk (p:=p) (by omega);cases c with
 | true=>
   have ha:addI .u64 ((2*id:Nat):Int) 1=((2*id+1:Nat):Int):=addIn (b:=1) (by omega);rw[if_pos rfl,ha,gd9 (by omega)];have:=g4i (n:=2*id+1) (by omega);simp only[oZ3];rw[if_pos (g39 (by omega))];rfl
 | false=>
   rw[if_neg (by simp),gd9 (by omega)];have:=g4i (n:=2*id) (by omega);simp only[oZ3];rw[if_pos (g39 (by omega))];rfl
theorem gn4{p rest:List UInt8}(h:p.length≤100000) :vpart (g1s p++rest)=some (p,rest):=by
 unfold vpart g1s;rw[List.append_assoc,gi8 (by omega)];simp only[Int.toNat_natCast,true_and];rw[if_pos (by simp;omega)];simp
theorem gw0 {id : Nat} {c : Bool} {p rest : List UInt8} {last : Nat} {b : List SField} (h1 : last < id) (hid : id ≤ 1000) (h : (g4j id c p ++ rest).length ≤ 100000) (hb : b.length ≤ 90000) :
   g1o ((last:Int),g4j id c p++rest,b)=g1o ((id:Int),rest,b++[⟨(id:Int),c,p⟩]):=by
 have hpl:p.length≤100000:=by
   have h2:=h;simp only[g4j,g1s,List.length_append]at h2;omega
 have hne:g4j id c p++rest≠[]:=by
   intro hc;have h2:=congrArg List.length hc;have:=gfp (2*id+(if c then 1 else 0));simp only[g4j,List.length_append,List.length_nil]at h2;omega
 have hh:2*id+(if c then 1 else 0)≤2001:=by split <;> omega
 have hg:vg (g4j id c p++rest) 10 0 0=(((2*id+(if c then 1 else 0):Nat):Int),((vput (2*id+(if c then 1 else 0))).length:Int),0):=by
   unfold g4j;rw[List.append_assoc];exact gi8 (by omega) _
 have hn:=gcl hg (by unfold g4j;simp);have hd:(g4j id c p++rest).drop (vput (2*id+(if c then 1 else 0))).length=g1s p++rest:=by
   unfold g4j;rw[List.append_assoc,List.drop_left]
 rw[hd]at hn;have hdiv:(2*id+(if c then 1 else 0)) / 2=id:=by split <;> omega
 have hrem:decide (remI ((2*id+(if c then 1 else 0):Nat):Int) 2=1)=c:=by
   have:remI ((2*id+(if c then 1 else 0):Nat):Int) 2=(((2*id+(if c then 1 else 0)) % 2:Nat):Int):=remIn (b:=2);rw[this];cases c with
   | true=>simp
   | false=>simp
 rw[g1o,if_pos (by simp only[Bool.not_eq_true',decide_eq_false_iff_not];exact hne),hn];simp only[oZ4,oZ3]
 rw[quoI2 (by omega),hdiv,if_neg (by simp;omega),hrem,gef (by
   have h2:=h;simp only[g4j,List.length_append]at h2
   simp only[List.length_append];omega),gn4 hpl]
 simp only[oZ3];have hw:wrp .i64 (id:Int)=(id:Int):=wrp64 (by omega) (by omega);have hnn:¬((!(encP (some (p,rest))).2.2)=true):=by simp[encP]
 rw[if_neg hnn,hw];have hr:room 32 (b++[(⟨(id:Int),c,(encP (some (p,rest))).1⟩:SField)]).length=true:=g44 (by omega) (by simp;omega);rw[if_pos hr];rfl
end
section
open Go Go.Proofs.YthnmepafpikaiaaGreat.Shv
set_option maxRecDepth 100000
inductive OkV:SValue→Prop
 | mk (v : SValue) (hs : v.Str.length ≤ reachBytes) (h1 : v.Keys.length ≤ reachBytes) (h2 : v.Items.length ≤ reachBytes) (h3 : v.Rest.length ≤ reachBytes)
     (hk:∀x,x∈v.Keys→OkV x) (hi:∀x,x∈v.Items→OkV x) (hr:∀x,x∈v.Rest→x.Data.length≤reachBytes)
     (n1: -9223372036854775808≤v.Kind∧v.Kind≤9223372036854775807) (n2: -9223372036854775808≤v.Int_∧v.Int_≤9223372036854775807) (n3: -9223372036854775808≤v.ID∧v.ID≤9223372036854775807)
     (n4:∀x,x∈v.Rest→-9223372036854775808≤x.ID∧x.ID≤9223372036854775807):OkV v
theorem g12{n:Nat}(h:n≤reachBytes) :n < 9223372036854775807:=Nat.lt_of_le_of_lt h (by decide)
theorem scan {γ : Type} (L : Nat → Option γ) (n : Nat) (p : Nat → Bool) (bad good : γ) (hstep : ∀ i, i < n → L i = if p i = true then L (i + 1) else some bad) (hend : L n = some good) :
   (L 0=some good∧∀j,j < n→p j=true)∨(L 0=some bad∧∃j,j < n∧p j=false):=by
 have key:∀k i,i+k=n→(L i=some good∧∀j,i≤j→j < n→p j=true)∨(L i=some bad∧∃j,j < n∧p j=false):=by
   intro k
   induction k with
   | zero => intro i hi; have : i = n := by omega
             subst this;exact .inl ⟨hend,fun j h1 h2=>by omega⟩
   | succ k ih=>
     intro i hi;rw[hstep i (by omega)];cases hp:p i with
     | true=>
       rw[if_pos rfl];rcases ih (i+1) (by omega)with⟨h1,h2⟩ | h
       · refine .inl ⟨h1,fun j hj1 hj2=>?_⟩;rcases Nat.lt_or_ge i j with h | h
         · exact h2 j h hj2
         · have:j=i:=by omega
           subst this;exact hp
       · exact .inr h
     | false=>exact .inr ⟨by rw[if_neg (by simp)],i,by omega,hp⟩
 rcases key n 0 (by omega)with⟨h1,h2⟩ | h
 · exact .inl ⟨h1,fun j hj=>h2 j (Nat.zero_le _) hj⟩
 · exact .inr h
theorem g15{α:Type}{l:List α}{i:Nat}(h:i < l.length)(d:α) :l.getD i d=l[i]:=by
 rw[List.getD_eq_getElem?_getD,List.getElem?_eq_getElem h];rfl
theorem g7e {α : Type} {a b : List α} {p : Nat → Bool} (hl : a.length = b.length) (hp : ∀ (i : Nat) (h1 : i < a.length) (h2 : i < b.length), p i = true ↔ a[i] = b[i]) :
   (∀j,j < a.length→p j=true)↔a=b:=by
 constructor
 · intro h;exact List.ext_getElem hl fun i h1 h2=>(hp i h1 h2).1 (h i h1)
 · rintro rfl j hj
   exact(hp j hj hj).2 rfl
def Says{α:Type}(o:Option Bool)(a b:α) :Prop:=∃r,o=some r∧(r=true↔a=b)
theorem Says.of_scan {α : Type} {a b : List α} {p : Nat → Bool} (hl : a.length = b.length) (hp : ∀ (i : Nat) (h1 : i < a.length) (h2 : i < b.length), p i = true ↔ a[i] = b[i]) {o : Option Bool}
   (h:(o=some true∧∀j,j < a.length→p j=true)∨(o=some false∧∃j,j < a.length∧p j=false)):Says o a b:=by
 rcases h with⟨h1,h2⟩ | ⟨h1,j,h2,h3⟩
 · exact⟨true,h1,by simp[(g7e hl hp).1 h2]⟩
 · refine⟨false,h1,?_⟩;constructor
   · intro h;cases h
   · intro h;have:=(g7e hl hp).2 h j h2;rw[h3]at this;cases this
theorem g11m{a b:SRaw} :(eqI a.ID b.ID && (eqS a.Data b.Data && true))=true↔a=b:=by
 cases a;cases b;simp[eqI,eqS]
theorem g11n{a b:SSymbol} :(eqI a.ID b.ID && (eqS a.Name b.Name && true))=true↔a=b:=by
 cases a;cases b;simp[eqI,eqS]
theorem g17d{α:Type}{a b:List α}(h:¬a.length=b.length) :a≠b:=fun e=>h (congrArg List.length e)
theorem gcn{α:Type}{a b:List α}(h:¬a.length=b.length) :Says (some false) a b:=⟨false,rfl,by simp[g17d h]⟩
theorem g11o{a b:List SRaw}(ha:a.length≤reachBytes) :Says (g49 (a,b)) a b:=by
 rw[g49];by_cases hl:a.length=b.length
 · rw[if_neg (by simp;omega)];have hr:=g12 ha;have:=scan (fun i=>g1l (a,b,(a.length:Int),(i:Int))) a.length (fun i=>eqI (a.getD i dSRaw).ID (b.getD i dSRaw).ID && (eqS (a.getD i dSRaw).Data (b.getD i dSRaw).Data && true)) (.inl false) (.inr ())
     (fun i hi=>by
       rw[g1l,if_pos (by simp;omega),if_pos (g6 hi)];simp only[oZ4,oZ3,g7];rw[if_pos (g6 (by omega)),ge (by omega)];generalize (eqI (a.getD i dSRaw).ID (b.getD i dSRaw).ID && (eqS (a.getD i dSRaw).Data (b.getD i dSRaw).Data && true))=c
       cases c <;> rfl)
     (by rw[g1l,if_neg (by simp)])
   have h0:g1l (a,b,(a.length:Int),((0:Nat):Int))=g1l (a,b,(a.length:Int),0):=rfl;simp only[h0]at this;refine Says.of_scan (p:=fun i=>eqI (a.getD i dSRaw).ID (b.getD i dSRaw).ID && (eqS (a.getD i dSRaw).Data (b.getD i dSRaw).Data && true)) hl (fun i h1 h2=>by simp only[g15 h1,g15 h2];exact g11m) ?_;rcases this with⟨h1,h2⟩ | ⟨h1,h2⟩
   · exact .inl ⟨by rw[h1];rfl,h2⟩
   · exact .inr ⟨by rw[h1];rfl,h2⟩
 · rw[if_pos (by simp;omega)];exact gcn hl
theorem g17e{a b:List SSymbol}(ha:a.length≤reachBytes) :Says (g46 (a,b)) a b:=by
 rw[g46];by_cases hl:a.length=b.length
 · rw[if_neg (by simp;omega)];have hr:=g12 ha;have:=scan (fun i=>g14 (a,b,(a.length:Int),(i:Int))) a.length (fun i=>eqI (a.getD i dSSymbol).ID (b.getD i dSSymbol).ID && (eqS (a.getD i dSSymbol).Name (b.getD i dSSymbol).Name && true)) (.inl false) (.inr ())
     (fun i hi=>by
       rw[g14,if_pos (by simp;omega),if_pos (g6 hi)];simp only[oZ4,oZ3,g7];rw[if_pos (g6 (by omega)),ge (by omega)];generalize (eqI (a.getD i dSSymbol).ID (b.getD i dSSymbol).ID && (eqS (a.getD i dSSymbol).Name (b.getD i dSSymbol).Name && true))=c
       cases c <;> rfl)
     (by rw[g14,if_neg (by simp)])
   have h0:g14 (a,b,(a.length:Int),((0:Nat):Int))=g14 (a,b,(a.length:Int),0):=rfl;simp only[h0]at this;refine Says.of_scan (p:=fun i=>eqI (a.getD i dSSymbol).ID (b.getD i dSSymbol).ID && (eqS (a.getD i dSSymbol).Name (b.getD i dSSymbol).Name && true)) hl (fun i h1 h2=>by simp only[g15 h1,g15 h2];exact g11n) ?_;rcases this with⟨h1,h2⟩ | ⟨h1,h2⟩
   · exact .inl ⟨by rw[h1];rfl,h2⟩
   · exact .inr ⟨by rw[h1];rfl,h2⟩
 · rw[if_pos (by simp;omega)];exact gcn hl
theorem ggi(v:SValue) :(⟨v.Kind,v.Bool_,v.Int_,v.Str,v.ID,v.Keys,v.Items,v.Rest⟩:SValue)=v:=by cases v;rfl
theorem ggj{a b:SValue} :a=b↔a.Kind=b.Kind∧a.Bool_=b.Bool_∧a.Int_=b.Int_∧a.Str=b.Str∧a.ID=b.ID∧a.Rest=b.Rest∧a.Keys=b.Keys∧a.Items=b.Items:=by
 constructor
 · rintro rfl;exact⟨rfl,rfl,rfl,rfl,rfl,rfl,rfl,rfl⟩
 · cases a;cases b
   rintro ⟨h1,h2,h3,h4,h5,h6,h7,h8⟩
   simp only at*;subst h1;subst h2;subst h3;subst h4;subst h5;subst h6;subst h7;subst h8;rfl
section
variable {f:SValue × SValue→Option Bool}
theorem gj9 {a b : List SValue} (hl : a.length = b.length) (ih : ∀ x, x ∈ a → ∀ y, Says (f (x, y)) x y) (L : Nat → Option (Bool ⊕ Unit))
   (hstep:∀i,i < a.length→L i=(f (SValue.eta (a.getD i dSValue),SValue.eta (b.getD i dSValue)) >>=fun r=>if(!r)=true then some (.inl false)else L (i+1)))
   (hend:L a.length=some (.inr ())):Says (L 0 >>=fun o=>match o with | .inl x=>some x | .inr _=>some true) a b:=by
 have hget:∀(i:Nat) (h1:i < a.length) (h2:i < b.length),Says (f (SValue.eta (a.getD i dSValue),SValue.eta (b.getD i dSValue))) a[i] b[i]:=by
   intro i h1 h2;rw[g15 h1,g15 h2,SValue.gr,SValue.gr];exact ih _ (List.getElem_mem h1) _
 have:=scan L a.length (fun i=>(f (SValue.eta (a.getD i dSValue),SValue.eta (b.getD i dSValue))).getD false) (.inl false) (.inr ())
   (fun i hi=>by
     obtain⟨r,h1,h2⟩:=hget i hi (by omega);rw[hstep i hi,h1]
     cases r <;> rfl) hend
 refine Says.of_scan hl (fun i h1 h2=>?_) ?_ (p:=fun i=>(f (SValue.eta (a.getD i dSValue),SValue.eta (b.getD i dSValue))).getD false)
 · obtain⟨r,h3,h4⟩:=hget i h1 h2;rw[h3];exact h4
 · rcases this with⟨h1,h2⟩ | ⟨h1,h2⟩
   · exact .inl ⟨by rw[h1];rfl,h2⟩
   · exact .inr ⟨by rw[h1];rfl,h2⟩
end
theorem gwv{a b:List SValue}(ha:a.length≤reachBytes)(ih:∀x,x∈a→∀y,Says (g8f (x,y)) x y) :Says (g10 (a,b)) a b:=by
 rw[g10];by_cases hl:a.length=b.length
 · rw[if_neg (by simp;omega)];have hr:=g12 ha;exact gj9 hl ih (fun i=>gw (b,a,(a.length:Int),(i:Int)))
     (fun i hi=>by
       rw[gw,if_pos (by simp;omega),if_pos (g6 hi),if_pos (g6 (by omega)),ge (by omega)]
       rfl)
     (by rw[gw,if_neg (by simp)])
 · rw[if_pos (by simp;omega)];exact gcn hl
theorem gww{a b:List SValue}(ha:a.length≤reachBytes)(ih:∀x,x∈a→∀y,Says (g4w (x,y)) x y) :Says (g1f (a,b)) a b:=by
 rw[g1f];by_cases hl:a.length=b.length
 · rw[if_neg (by simp;omega)];have hr:=g12 ha;exact gj9 hl ih (fun i=>gy (b,a,(a.length:Int),(i:Int)))
     (fun i hi=>by
       rw[gy,if_pos (by simp;omega),if_pos (g6 hi),if_pos (g6 (by omega)),ge (by omega)]
       rfl)
     (by rw[gy,if_neg (by simp)])
 · rw[if_pos (by simp;omega)];exact gcn hl
theorem gwx{a b:List SValue}(ha:a.length≤reachBytes)(ih:∀x,x∈a→∀y,Says (g1e (x,y)) x y) :Says (g5f (a,b)) a b:=by
 rw[g5f];by_cases hl:a.length=b.length
 · rw[if_neg (by simp;omega)];have hr:=g12 ha;exact gj9 hl ih (fun i=>g3y (a,b,(i:Int)))
     (fun i hi=>by
       rw[g3y,if_pos (by simp;omega),if_pos (g6 hi),if_pos (g6 (by omega)),ge (by omega)]
       rfl)
     (by rw[g3y,if_neg (by simp)])
 · rw[if_pos (by simp;omega)];exact gcn hl
theorem three {a b : SValue} {h5 : Bool} (e5 : h5 = true ↔ a.Kind = b.Kind ∧ a.Bool_ = b.Bool_ ∧ a.Int_ = b.Int_ ∧ a.Str = b.Str ∧ a.ID = b.ID) {x y z : Option Bool} (hx : Says x a.Rest b.Rest) (hy : Says y a.Keys b.Keys) (hz : Says z a.Items b.Items) :
   Says (some h5 >>=fun t37=>(if t37=true then x else some false) >>=fun r=>some (bif t37 then r else false) >>=fun t44=>(if t44=true then y else some false) >>=fun r_1=>some (bif t44 then r_1 else false) >>=fun t51=>(if t51=true then z else some false) >>=fun r_2=>some (bif t51 then r_2 else false)) a b:=by
 obtain⟨rx,hx1,hx2⟩:=hx;obtain⟨ry,hy1,hy2⟩:=hy;obtain⟨rz,hz1,hz2⟩:=hz;subst hx1;subst hy1;subst hz1;refine⟨h5 && rx && ry && rz,?_,?_⟩
 · cases h5 <;> cases rx <;> cases ry <;> rfl
 · rw[ggj];simp only[Bool.and_eq_true];rw[e5,hx2,hy2,hz2];constructor
   · rintro ⟨⟨⟨⟨h1,h2,h3,h4,h5⟩,h6⟩,h7⟩,h8⟩;exact⟨h1,h2,h3,h4,h5,h6,h7,h8⟩
   · rintro ⟨h1,h2,h3,h4,h5,h6,h7,h8⟩;exact⟨⟨⟨⟨h1,h2,h3,h4,h5⟩,h6⟩,h7⟩,h8⟩
theorem five{a b:SValue} :(bif bif bif bif decide (a.Kind=b.Kind)then eqB a.Bool_ b.Bool_ else false then decide (a.Int_=b.Int_)else false then decide (a.Str=b.Str)else false then decide (a.ID=b.ID)else false)=true↔a.Kind=b.Kind∧a.Bool_=b.Bool_∧a.Int_=b.Int_∧a.Str=b.Str∧a.ID=b.ID:=by
 simp only[Bool.cond_eq_ite,eqB];by_cases h1:a.Kind=b.Kind <;> by_cases h2:a.Bool_=b.Bool_ <;> by_cases h3:a.Int_=b.Int_ <;> by_cases h4:a.Str=b.Str <;> simp[h1,h2,h3,h4]
theorem gz3{a:SValue}(h:OkV a) :∀b,Says (g8f (a,b)) a b:=by
 induction h with
 | mk a hs h1 h2 h3 hk hi hr n1 n2 n3 n4 ihk ihi=>
   intro b;rw[g8f];exact three five (g11o h3) (gwv h1 ihk) (gwv h2 ihi)
theorem ge4{a:SValue}(h:OkV a) :∀b,Says (g4w (a,b)) a b:=by
 induction h with
 | mk a hs h1 h2 h3 hk hi hr n1 n2 n3 n4 ihk ihi=>
   intro b;rw[g4w];exact three five (g11o h3) (gww h1 ihk) (gww h2 ihi)
theorem gqk{a:SValue}(h:OkV a) :∀b,Says (g1e (a,b)) a b:=by
 induction h with
 | mk a hs h1 h2 h3 hk hi hr n1 n2 n3 n4 ihk ihi=>
   intro b;rw[g1e];by_cases h5:a.Kind=b.Kind∧a.Bool_=b.Bool_∧a.Int_=b.Int_∧a.Str=b.Str∧a.ID=b.ID∧a.Rest.length=b.Rest.length
   · obtain⟨e1,e2,e3,e4,e5,e6⟩:=h5;rw[if_neg (by simp[e1,e2,e3,e4,e5,e6,eqB])];have hr3:=g12 h3;have hsc:=scan (fun i=>g26 ((i:Int),a,b)) a.Rest.length (fun i=>eqI (a.Rest.getD i dSRaw).ID (b.Rest.getD i dSRaw).ID && (eqS (a.Rest.getD i dSRaw).Data (b.Rest.getD i dSRaw).Data && true)) (.inl false) (.inr (a,b))
       (fun i hi'=>by
         rw[g26,if_pos (by simp;omega),if_pos (g6 hi')];simp only[oZ4,oZ3,g7,SValue.gr];rw[if_pos (g6 (by omega)),ge (by omega)];generalize (eqI (a.Rest.getD i dSRaw).ID (b.Rest.getD i dSRaw).ID && (eqS (a.Rest.getD i dSRaw).Data (b.Rest.getD i dSRaw).Data && true))=c
         cases c <;> rfl)
       (by rw[g26,if_neg (by simp),SValue.gr,SValue.gr])
     have h0:g26 (((0:Nat):Int),a,b)=g26 (0,a,b):=rfl;simp only[h0]at hsc;rw[ggi,ggi];have hp:∀(i:Nat) (h1:i < a.Rest.length) (h2:i < b.Rest.length),(eqI (a.Rest.getD i dSRaw).ID (b.Rest.getD i dSRaw).ID && (eqS (a.Rest.getD i dSRaw).Data (b.Rest.getD i dSRaw).Data && true))=true↔a.Rest[i]=b.Rest[i]:=fun i h1 h2=>by
       rw[g15 h1,g15 h2];exact g11m
     rcases hsc with⟨g1,g2⟩ | ⟨g1,j,g2,g3⟩
     · have hrest:=(g7e e6 hp).1 g2;rw[g1];obtain⟨rk,k1,k2⟩:=gwx (a:=a.Keys) (b:=b.Keys) h1 ihk;obtain⟨ri,i1,i2⟩:=gwx (a:=a.Items) (b:=b.Items) h2 ihi;simp only[oZ4,oZ3];rw[k1,i1];refine⟨rk && ri,by cases rk <;> rfl,?_⟩;rw[ggj,Bool.and_eq_true,k2,i2];constructor
       · rintro ⟨q1,q2⟩;exact⟨e1,e2,e3,e4,e5,hrest,q1,q2⟩
       · rintro ⟨_,_,_,_,_,_,q1,q2⟩;exact⟨q1,q2⟩
     · rw[g1];refine⟨false,rfl,?_⟩;constructor
       · intro h;cases h
       · intro h;have:=(g7e e6 hp).2 (ggj.1 h).2.2.2.2.2.1 j g2;rw[g3]at this;cases this
   · rw[if_pos]
     · refine⟨false,rfl,?_⟩;constructor
       · intro h;cases h
       · intro h
         exfalso;apply h5
         obtain⟨q1,q2,q3,q4,q5,q6,_⟩:=ggj.1 h;exact⟨q1,q2,q3,q4,q5,by rw[q6]⟩
     · simp only[Bool.cond_eq_ite,eqB];by_cases q1:a.Kind=b.Kind <;> by_cases q2:a.Bool_=b.Bool_ <;> by_cases q3:a.Int_=b.Int_ <;> by_cases q4:a.Str=b.Str <;> by_cases q5:a.ID=b.ID <;> simp[q1,q2,q3,q4,q5]
       intro q6;exact h5 ⟨q1,q2,q3,q4,q5,by omega⟩
end
section
open Go Go.Proofs.YthnmepafpikaiaaGreat.Shv
set_option maxRecDepth 100000
def g8y(c:Int) :Bool:=decide (c=95∨(97≤c∧c≤122)∨(65≤c∧c≤90))
def glp(c:Int) :Bool:=decide (48≤c∧c≤57)
theorem ggk(c:Int) :g8q c=some (g8y c):=by
 rw[g8q];unfold g8y
 congr 1
 by_cases h1:c=95 <;> by_cases h2:97≤c <;> by_cases h3:c≤122 <;> by_cases h4:65≤c <;> by_cases h5:c≤90 <;> simp[h1,h2,h3,h4,h5] <;> omega
theorem grk(c:Int) :g6r c=some (g8y c):=by
 rw[g6r];unfold g8y
 congr 1
 by_cases h1:c=95 <;> by_cases h2:97≤c <;> by_cases h3:c≤122 <;> by_cases h4:65≤c <;> by_cases h5:c≤90 <;> simp[h1,h2,h3,h4,h5] <;> omega
theorem g13f(c:Int) :gb1 c=some (glp c):=by
 rw[gb1];unfold glp;by_cases h2:48≤c <;> by_cases h3:c≤57 <;> simp[h2,h3]
theorem g13g(c:Int) :g8j c=some (glp c):=by
 rw[g8j];unfold glp;by_cases h2:48≤c <;> by_cases h3:c≤57 <;> simp[h2,h3]
theorem guf {γ : Type} (A B I : Bool) (X Y : Option γ) (hI : I = true) :
   (some A >>=fun r_1=>some (!r_1) >>=fun t26=>if(I || (!t26))=true then(if t26=true then some B else some false) >>=fun r_2=>if(bif t26 then(!r_2)else false)=true then X else Y else none)=if(A || B)=true then Y else X:=by
 subst hI;cases A <;> cases B <;> rfl
theorem gwy(s:List UInt8) :∃r,g3t s=some r∧g4t s=some r:=by
 rw[g3t,g4t];simp only[oZ4,oZ3];by_cases hb:s=[]∨24 < s.length
 · have ht:(bif decide (s=[])then true else decide (24 < (s.length:Int)))=true:=by
     rcases hb with h | h
     · simp[h]
     · simp;omega
   rw[ht];exact⟨false,by simp,by simp⟩
 · have hne:s≠[]:=fun h=>hb (.inl h)
   have hlen:s.length≤24:=by omega
   have ht:(bif decide (s=[])then true else decide (24 < (s.length:Int)))=false:=by
     simp[hne];omega
   have hpos:0 < s.length:=List.length_pos_iff.2 hne;have hin:inR 0 s.length=true:=g6 (k:=0) hpos;simp only[ht,hin,Bool.true_or,if_true,Bool.not_false,oZ3,ggk,grk,cond_false];cases hl:g8y (g3e s 0)with
   | false=>exact⟨false,rfl,rfl⟩
   | true=>
     rw[if_neg (by simp),if_neg (by simp)]
     let p:Nat→Bool:=fun i=>g8y (g3e s i) || glp (g3e s i)
     have s1:=scan (fun i=>g2s (s,(s.length:Int),(i:Int))) s.length p (.inl false) (.inr ())
       (fun i hi=>by
         rw[g2s,if_pos (by simp;omega),if_pos (g6 hi),ggk,g13f,ge (by omega)]
         exact guf _ _ _ _ _ (g6 hi))
       (by rw[g2s,if_neg (by simp)])
     have s2:=scan (fun i=>g2t (s,(i:Int))) s.length p (.inl false) (.inr ())
       (fun i hi=>by
         rw[g2t,if_pos (by simp;omega),if_pos (g6 hi),grk,g13g,ge (by omega)]
         exact guf _ _ _ _ _ (g6 hi))
       (by rw[g2t,if_neg (by simp)])
     have e1:g2s (s,(s.length:Int),((0:Nat):Int))=g2s (s,(s.length:Int),0):=rfl;have e2:g2t (s,((0:Nat):Int))=g2t (s,0):=rfl;simp only[e1,e2]at s1 s2;rcases s1 with⟨a1,a2⟩ | ⟨a1,j,a2,a3⟩ <;> rcases s2 with⟨b1,b2⟩ | ⟨b1,k,b2,b3⟩
     · exact⟨true,by rw[a1];rfl,by rw[b1];rfl⟩
     · have:=a2 k b2;rw[b3]at this;cases this
     · have:=b2 j a2;rw[a3]at this;cases this
     · exact⟨false,by rw[a1];rfl,by rw[b1];rfl⟩
def nm(s:List UInt8) :Bool:=(g3t s).getD false
theorem lexNm(s:List UInt8) :g3t s=some (nm s):=by
 obtain⟨r,h1,_⟩:=gwy s;unfold nm;rw[h1];rfl
theorem refNm(s:List UInt8) :g4t s=some (nm s):=by
 obtain⟨r,h1,h2⟩:=gwy s;unfold nm;rw[h1,h2];rfl
theorem nm_ne{s:List UInt8}(h:nm s=true) :s≠[]:=by
 rintro rfl
 unfold nm at h;rw[g3t]at h;simp at h
def idp(l:List Int)(names:List (List UInt8))(i:Nat) :Bool:=
 decide (1≤l.getD i 0) && decide (l.getD i 0≤1000) && (decide (i=0) || decide (l.getD (i - 1) 0 < l.getD i 0)) && nm (names.getD i []) && !((names.take i).contains (names.getD i []))
def setOf(l:List (List UInt8)) :List (List UInt8):=l.foldl addS []
theorem g13h(ks:List (List UInt8))(a s:List UInt8) :hasS (addS ks a) s=(hasS ks s || decide (a=s)):=by
 unfold addS;split
 · rename_i h;by_cases e:a=s
   · subst e;simp[h]
   · simp[e]
 · simp[hasS,List.any_append]
theorem gpl(l:List (List UInt8))(s:List UInt8) :hasS (setOf l) s=l.contains s:=by
 have key:∀(l:List (List UInt8)) (ks:List (List UInt8)),hasS (l.foldl addS ks) s=(hasS ks s || l.contains s):=by
   intro l
   induction l with
   | nil=>intro ks;simp
   | cons a r ih=>
     intro ks;rw[List.foldl_cons,ih,g13h,Bool.or_assoc]
     congr 1
     rw[List.contains_cons]
     congr 1
     by_cases e:a=s
     · subst e;simp
     · have:¬s=a:=fun h=>e h.symm
       simp[e,this]
 have:=key l []
 simpa[setOf,hasS]using this
theorem gpm{l:List (List UInt8)}{i:Nat}(h:i < l.length) :addS (setOf (l.take i)) (l.getD i [])=setOf (l.take (i+1)):=by
 unfold setOf;rw[List.take_add_one,List.foldl_append,List.getElem?_eq_getElem h,g15 h];rfl
theorem g14j {γ : Type} (A Z I1 C I H N : Bool) (X Y : Option γ) (hI : I = true) (hI1 : Z = true → I1 = true) :
   (if(I1 || (!((!A) && Z)))=true then
     some (bif A then true else bif Z then C else false) >>=fun t34=>
     if(I || (!(!t34)))=true then
       some (bif t34 then true else H) >>=fun t42=>
       if(I || (!(!t42)))=true then
         (if(!t42)=true then some N else some false) >>=fun r=>
         if(bif t42 then true else(!r))=true then X else(if I=true then Y else none)
       else none
     else none
   else none)=if(!A && (!Z || !C) && N && !H)=true then Y else X:=by
 subst hI;cases Z with
 | true=>have:=hI1 rfl;subst this;cases A <;> cases C <;> cases H <;> cases N <;> rfl
 | false=>cases A <;> cases I1 <;> cases C <;> cases H <;> cases N <;> rfl
theorem g11p{l:List Int}{names:List (List UInt8)}(hl:l.length≤reachBytes)(hn:names.length=l.length) :∃r,gbp (l,names)=some r∧(r=true↔(∀i,i < l.length→idp l names i=true)∧l.length≤16):=by
 rw[gbp];have hr:=g12 hl;have hsc:=scan (fun i=>g5i (l,names,l,(l.length:Int),(i:Int),setOf (names.take i))) l.length (idp l names) (.inl false) (.inr l)
   (fun i hi=>by
     have hin:i < names.length:=by omega
     rw[g5i,if_pos (by simp;omega),if_pos (g6 hi)];simp only[g7];rw[lexNm,ge (by omega),gpm hin,gpl];have hsub:0 < i→subI .i64 (i:Int) 1=((i - 1:Nat):Int):=by
       intro h;rw[g5c (by omega) (by omega)];omega
     refine(g14j (bif decide (l.getD i 0 < 1)then true else decide (1000 < l.getD i 0)) (decide ((0:Int) < (i:Int))) (inR (subI .i64 (i:Int) 1) l.length) (decide (l.getD i 0≤l.getD (subI .i64 (i:Int) 1).toNat 0)) (inR (i:Int) names.length) ((names.take i).contains (names.getD i [])) (nm (names.getD i [])) _ _ (g6 hin) (fun hz=>?_)).trans ?_
     · have hpos:0 < i:=by simp at hz;omega
       rw[hsub hpos];exact g6 (by omega)
     · have:(!(bif decide (l.getD i 0 < 1)then true else decide (1000 < l.getD i 0)) && (!(decide ((0:Int) < (i:Int))) || !(decide (l.getD i 0≤l.getD (subI .i64 (i:Int) 1).toNat 0))) && nm (names.getD i []) && !((names.take i).contains (names.getD i [])))=idp l names i:=by
         unfold idp;generalize nm (names.getD i [])=N;generalize (names.take i).contains (names.getD i [])=H;generalize l.getD i 0=x;by_cases h0:i=0
         · subst h0;cases N <;> cases H <;> by_cases h1:1≤x <;> by_cases h2:x≤1000 <;> simp[h1,h2] <;> omega
         · have hz:decide ((0:Int) < (i:Int))=true:=by simp;omega
           rw[hz,hsub (by omega),g7];generalize l.getD (i - 1) 0=y;cases N <;> cases H <;> by_cases h1:1≤x <;> by_cases h2:x≤1000 <;> by_cases h3:y < x <;> simp[h0,h1,h2,h3] <;> omega
       rw[this])
   (by rw[g5i,if_neg (by simp)])
 have e0:g5i (l,names,l,(l.length:Int),((0:Nat):Int),setOf (names.take 0))=g5i (l,names,l,(l.length:Int),0,[]):=rfl;simp only[e0]at hsc;rcases hsc with⟨h1,h2⟩ | ⟨h1,j,h2,h3⟩
 · rw[h1];refine⟨decide ((l.length:Int)≤16),rfl,?_⟩;simp only[decide_eq_true_eq];constructor
   · intro h;exact⟨h2,by omega⟩
   · intro h;omega
 · rw[h1];refine⟨false,rfl,?_⟩;constructor
   · intro h;cases h
   · rintro ⟨h,_⟩
     have:=h j h2;rw[h3]at this;cases this
end
section
open Go Go.Proofs.YthnmepafpikaiaaGreat.Shv
set_option maxRecDepth 100000
theorem room8{k n:Nat}(hk:k≤16)(h:n*24≤reachBytes) :room k n=true:=by
 unfold room g4p g1t;unfold reachBytes at h;simp only[Bool.and_eq_true,decide_eq_true_eq];have:(2*n+192)*k≤(2*n+192)*16:=Nat.mul_le_mul_left _ hk;omega
theorem gbd{α:Type}(l:List α)(i:Nat)(d:α)(h:i < l.length) :l.take i++[l.getD i d]=l.take (i+1):=by
 rw[List.take_add_one,List.getElem?_eq_getElem h,g15 h];rfl
theorem g2k{α β:Type}(f:α→β)(l:List α)(i:Nat)(d:α)(e:β)(h:i < l.length) :(l.map f).getD i e=f (l.getD i d):=by
 rw[g15 h,g15 (by simpa using h)];simp
theorem g5j{l:List (List UInt8)}{i:Nat}{s:List UInt8}(hi:i≤l.length) :(l.take i).contains s=true↔∃k,k < i∧l.getD k []=s:=by
 rw[List.contains_iff_mem];constructor
 · intro h;obtain⟨k,hk,he⟩:=List.getElem_of_mem h;rw[List.length_take]at hk;refine⟨k,by omega,?_⟩;rw[g15 (by omega),←he,List.getElem_take]
 · rintro ⟨k,hk,he⟩
   rw[←he,g15 (by omega)];have:(l.take i)[k]'(by rw[List.length_take];omega)=l[k]:=List.getElem_take;rw[←this];exact List.getElem_mem _
def bef(l:List Int)(i:Nat) :Int:=if i=0 then 0 else l.getD (i - 1) 0
theorem gwz {l : List Int} {names : List (List UInt8)} {i : Nat} (hi : i < l.length) (hn : names.length = l.length) :
   idp l names i=(decide (bef l i < l.getD i 0) && decide (1≤l.getD i 0) && decide (l.getD i 0≤1000) && nm (names.getD i []) && !((names.take i).contains (names.getD i []))):=by
 unfold idp bef;generalize l.getD i 0=x;generalize l.getD (i - 1) 0=y;generalize nm (names.getD i [])=a;generalize (names.take i).contains (names.getD i [])=b;by_cases h0:i=0
 · subst h0;by_cases h1:1≤x
   · have:decide ((0:Int) < x)=true:=by simp;omega
     simp[h1,this]
   · simp[h1]
 · simp only[h0,if_false,decide_false,Bool.false_or];by_cases h1:1≤x <;> by_cases h2:x≤1000 <;> by_cases h3:y < x <;> simp[h1,h2,h3]
theorem gpn(l:List SSymbol)(hl:l.length*24≤reachBytes) :∀(k i:Nat),i+k=l.length→g4f (l,l,(l.length:Int),(i:Int),(l.map (·.ID)).take i,(l.map (·.Name)).take i)=some (l,l.map (·.ID),l.map (·.Name))
 | 0,i,h=>by
   have:i=l.length:=by omega
   subst this;rw[g4f,if_neg (by simp)];rw[List.take_of_length_le (by simp),List.take_of_length_le (by simp)]
 | k+1,i,h=>by
   have hr:l.length < 9223372036854775807:=by unfold reachBytes at hl;omega
   have hi:i < l.length:=by omega
   rw[g4f,if_pos (by simp;omega),if_pos (g6 hi)];simp only[oZ4,oZ3,g7];rw[←g2k (·.ID) l i dSSymbol 0 hi,←g2k (·.Name) l i dSSymbol [] hi,gbd _ _ _ (by simpa using hi),gbd _ _ _ (by simpa using hi)];rw[if_pos (room8 (by omega) (by simp;omega)),if_pos (room8 (by omega) (by simp;omega)),ge (by omega)];exact gpn l hl k (i+1) (by omega)
theorem gx0{l:List SSymbol}(hl:l.length*24≤reachBytes) :∃r,g7h l=some r∧(r=true↔0 < l.length∧(∀i,i < l.length→idp (l.map (·.ID)) (l.map (·.Name)) i=true)∧l.length≤16):=by
 have h:=gpn l hl l.length 0 (by omega);have h':g4f (l,l,(l.length:Int),0,[],[])=some (l,l.map (·.ID),l.map (·.Name)):=h;rw[g7h,h'];simp only[oZ4,oZ3];obtain⟨r,h1,h2⟩:=g11p (l:=l.map (·.ID)) (names:=l.map (·.Name)) (by simp;unfold reachBytes at*;omega) (by simp);rw[List.length_map]at h2;rw[h1]
 refine⟨decide (0 < (l.length:Int)) && r,?_,?_⟩
 · cases decide (0 < (l.length:Int)) <;> rfl
 · rw[Bool.and_eq_true,h2,decide_eq_true_eq];constructor
   · rintro ⟨a,b⟩;exact⟨by omega,b⟩
   · rintro ⟨a,b⟩;exact⟨by omega,b⟩
theorem refId(a b:Int) :g8v (a,b)=some (decide (a < b) && decide (1≤b) && decide (b≤1000)):=by
 rw[g8v];cases decide (a < b) <;> cases decide (1≤b) <;> rfl
theorem gz4 (l : List SSymbol) (hl : l.length ≤ reachBytes) (i : Nat) (hi : i < l.length) :
   g1z (l,(i:Int),0)=some (if((l.map (·.Name)).take i).contains ((l.map (·.Name)).getD i [])=true then .inl false else .inr (l,(i:Int))):=by
 have hr:=g12 hl;have hsc:=scan (fun k=>g1z (l,(i:Int),(k:Int))) i (fun k=>!(decide ((l.getD k dSSymbol).Name=(l.getD i dSSymbol).Name))) (.inl false) (.inr (l,(i:Int)))
   (fun k hk=>by
     rw[g1z,if_pos (by simp;omega),if_pos (g6 (by omega)),if_pos (g6 hi),ge (by omega)];simp only[g7]
     cases decide ((l.getD k dSSymbol).Name=(l.getD i dSSymbol).Name) <;> rfl)
   (by rw[g1z,if_neg (by simp)])
 have e0:g1z (l,(i:Int),((0:Nat):Int))=g1z (l,(i:Int),0):=rfl;simp only[e0]at hsc;rw[g2k (·.Name) l i dSSymbol [] hi];rcases hsc with⟨h1,h2⟩ | ⟨h1,j,h2,h3⟩
 · rw[h1,if_neg];rw[g5j (by simp;omega)]
   rintro ⟨k,hk,he⟩
   rw[g2k (·.Name) l k dSSymbol [] (by omega)]at he;have:=h2 k hk;rw[he]at this;simp at this
 · rw[h1,if_pos];rw[g5j (by simp;omega)];refine⟨j,h2,?_⟩;rw[g2k (·.Name) l j dSSymbol [] (by omega)]
   simpa using h3
theorem g14k{l:List SSymbol}(hl:l.length≤reachBytes) :∃r,g6e l=some r∧(r=true↔0 < l.length∧(∀i,i < l.length→idp (l.map (·.ID)) (l.map (·.Name)) i=true)∧l.length≤16):=by
 have hr:=g12 hl;have hsc:=scan (fun i=>g2l (l,bef (l.map (·.ID)) i,(i:Int))) l.length (idp (l.map (·.ID)) (l.map (·.Name))) (.inl false) (.inr l)
   (fun i hi=>by
     rw[g2l,if_pos (by simp;omega),if_pos (g6 hi),refId,gz4 l hl i hi,gwz (by simpa using hi) (by simp)];simp only[oZ4,oZ3,g7];rw[←g2k (·.ID) l i dSSymbol 0 hi,←g2k (·.Name) l i dSSymbol [] hi,refNm]
     generalize (decide (bef (l.map (·.ID)) i < (l.map (·.ID)).getD i 0) && decide (1≤(l.map (·.ID)).getD i 0) && decide ((l.map (·.ID)).getD i 0≤1000))=q;rw[if_pos (by rw[g6 hi];rfl)];cases q with
     | false=>rfl
     | true=>
       simp only[Bool.not_true,Bool.not_false,if_true,oZ3,Bool.true_and];cases nm ((l.map (·.Name)).getD i [])with
       | false=>rfl
       | true=>
         simp only[Bool.not_true,cond_false,Bool.false_eq_true,if_false,Bool.true_and];cases hc:((l.map (·.Name)).take i).contains ((l.map (·.Name)).getD i [])with
         | true=>simp
         | false=>
           simp only[Bool.false_eq_true,if_false,Bool.not_false,if_true];rw[if_pos (g6 hi),ge (by omega)];have:bef (l.map (·.ID)) (i+1)=(l.getD i dSSymbol).ID:=by
             unfold bef;rw[if_neg (by omega)];exact g2k (·.ID) l i dSSymbol 0 hi
           rw[this]
           rfl)
   (by rw[g2l,if_neg (by simp)])
 have e0:g2l (l,bef (l.map (·.ID)) 0,((0:Nat):Int))=g2l (l,0,0):=rfl;simp only[e0]at hsc;rw[g6e];rcases hsc with⟨h1,h2⟩ | ⟨h1,j,h2,h3⟩
 · rw[h1];refine⟨_,rfl,?_⟩;simp only[Bool.cond_eq_ite];constructor
   · intro h;split at h
     · rename_i h4;simp at h h4;exact⟨by omega,h2,by omega⟩
     · cases h
   · rintro ⟨a,_,b⟩
     rw[if_pos (by simp;omega)];simp;omega
 · rw[h1];refine⟨false,rfl,?_⟩;constructor
   · intro h;cases h
   · rintro ⟨_,h,_⟩
     have:=h j h2;rw[h3]at this;cases this
theorem g11q{l:List SSymbol}(hl:l.length*24≤reachBytes) :∃r,g7h l=some r∧g6e l=some r:=by
 obtain⟨r,h1,h2⟩:=gx0 hl;obtain⟨q,h3,h4⟩:=g14k (l:=l) (by unfold reachBytes at*;omega);have:r=q:=Bool.eq_iff_iff.2 (h2.trans h4.symm);exact⟨r,h1,by rw[this];exact h3⟩
end
section
open Go Go.Proofs.YthnmepafpikaiaaGreat.Shv
set_option maxRecDepth 100000
structure OkT (t:SType):Prop where
 syms:t.Symbols.length*24≤reachBytes
 mems:t.Members.length*24≤reachBytes
 dv:∀m,m∈t.Members→OkV m.Default
theorem g3h{n:Nat}(h:n*24≤reachBytes) :n≤reachBytes:=by unfold reachBytes at*;omega
theorem gz5{a b:SMember} :a=b↔a.ID=b.ID∧a.Name=b.Name∧a.Type_=b.Type_∧a.Critical=b.Critical∧a.HasDefault=b.HasDefault∧a.Default=b.Default:=by
 cases a;cases b;simp
theorem g6m(x:SMember) :(⟨x.ID,x.Name,x.Type_,x.Critical,x.HasDefault,SValue.eta x.Default⟩:SMember)=x:=by cases x;simp[SValue.gr]
theorem fiveM{a b:SMember} :(bif bif bif bif decide (a.ID=b.ID)then decide (a.Name=b.Name)else false then decide (a.Type_=b.Type_)else false then eqB a.Critical b.Critical else false then eqB a.HasDefault b.HasDefault else false)=true↔a.ID=b.ID∧a.Name=b.Name∧a.Type_=b.Type_∧a.Critical=b.Critical∧a.HasDefault=b.HasDefault:=by
 simp only[Bool.cond_eq_ite,eqB];by_cases h1:a.ID=b.ID <;> by_cases h2:a.Name=b.Name <;> by_cases h3:a.Type_=b.Type_ <;> by_cases h4:a.Critical=b.Critical <;> simp[h1,h2,h3,h4]
theorem twoM {a b : SMember} {q : Bool} (hq : q = true ↔ a.ID = b.ID ∧ a.Name = b.Name ∧ a.Type_ = b.Type_ ∧ a.Critical = b.Critical ∧ a.HasDefault = b.HasDefault) {x : Option Bool} (hx : Says x a.Default b.Default) :
   Says (some q >>=fun t37=>(if t37=true then x else some false) >>=fun r=>some (bif t37 then r else false)) a b:=by
 obtain⟨rx,h1,h2⟩:=hx;subst h1;refine⟨q && rx,by cases q <;> cases rx <;> rfl,?_⟩;rw[gz5,Bool.and_eq_true,hq,h2];constructor
 · rintro ⟨⟨a1,a2,a3,a4,a5⟩,a6⟩;exact⟨a1,a2,a3,a4,a5,a6⟩
 · rintro ⟨a1,a2,a3,a4,a5,a6⟩;exact⟨⟨a1,a2,a3,a4,a5⟩,a6⟩
theorem g11r{a:SMember}(h:OkV a.Default)(b:SMember) :Says (g8p (a,b)) a b:=by
 rw[g8p];simp only[ggi,SValue.gr];exact twoM fiveM (ge4 h _)
theorem g11s{a:SMember}(h:OkV a.Default)(b:SMember) :Says (g5g (a,b)) a b:=by
 rw[g5g];simp only[ggi];exact twoM fiveM (gqk h _)
theorem gn5 {f : SMember × SMember → Option Bool} {γ : Type} {g : γ} {a b : List SMember} (hl : a.length = b.length) (ih : ∀ x, x ∈ a → ∀ y, Says (f (x, y)) x y) (L : Nat → Option (Bool ⊕ γ))
   (hstep:∀i,i < a.length→L i=(f (a.getD i dSMember,b.getD i dSMember) >>=fun r=>if(!r)=true then some (.inl false)else L (i+1)))
   (hend:L a.length=some (.inr g)):(L 0=some (.inr g)∧a=b)∨(L 0=some (.inl false)∧a≠b):=by
 have hget:∀(i:Nat) (h1:i < a.length) (h2:i < b.length),Says (f (a.getD i dSMember,b.getD i dSMember)) a[i] b[i]:=by
   intro i h1 h2;rw[g15 h1,g15 h2];exact ih _ (List.getElem_mem h1) _
 have hp:∀(i:Nat) (h1:i < a.length) (h2:i < b.length),(f (a.getD i dSMember,b.getD i dSMember)).getD false=true↔a[i]=b[i]:=by
   intro i h1 h2;obtain⟨r,h3,h4⟩:=hget i h1 h2;rw[h3];exact h4
 have:=scan L a.length (fun i=>(f (a.getD i dSMember,b.getD i dSMember)).getD false) (.inl false) (.inr g)
   (fun i hi=>by
     obtain⟨r,h1,h2⟩:=hget i hi (by omega);rw[hstep i hi,h1]
     cases r <;> rfl) hend
 rcases this with⟨h1,h2⟩ | ⟨h1,j,h2,h3⟩
 · exact .inl ⟨h1,(g7e hl hp).1 h2⟩
 · refine .inr ⟨h1,fun e=>?_⟩;have:=(g7e hl hp).2 e j h2;rw[h3]at this;cases this
theorem gug{a b:List SMember}(ha:a.length≤reachBytes)(hd:∀m,m∈a→OkV m.Default) :Says (g1n (a,b)) a b:=by
 rw[g1n];by_cases hl:a.length=b.length
 · rw[if_neg (by simp;omega)];have hr:=g12 ha;have hs:=gn5 (g:=()) hl (f:=g8p) (fun x hx y=>g11r (hd x hx) y) (fun i=>gj (b,a,(a.length:Int),(i:Int)))
     (fun i hi=>by
       rw[gj,if_pos (by simp;omega),if_pos (g6 hi)];simp only[oZ4,oZ3,g7,g6m]
       rw[if_pos (g6 (by omega)),ge (by omega)])
     (by rw[gj,if_neg (by simp)])
   have e0:gj (b,a,(a.length:Int),((0:Nat):Int))=gj (b,a,(a.length:Int),0):=rfl;simp only[e0]at hs;rcases hs with⟨h1,h2⟩ | ⟨h1,h2⟩
   · rw[h1];exact⟨true,rfl,by simp[h2]⟩
   · rw[h1];exact⟨false,rfl,by simp[h2]⟩
 · rw[if_pos (by simp;omega)];exact gcn hl
theorem gja{a b:SType} :a=b↔a.Kind=b.Kind∧a.Name=b.Name∧a.Low=b.Low∧a.High=b.High∧a.Max=b.Max∧a.Key=b.Key∧a.Elem=b.Elem∧a.Open=b.Open∧a.Symbols=b.Symbols∧a.Members=b.Members:=by
 cases a;cases b;simp only[SType.mk.injEq];constructor
 · rintro ⟨h1,h2,h3,h4,h5,h6,h7,h8,h9,h10⟩;exact⟨h1,h2,h3,h4,h5,h8,h9,h10,h6,h7⟩
 · rintro ⟨h1,h2,h3,h4,h5,h6,h7,h8,h9,h10⟩;exact⟨h1,h2,h3,h4,h5,h9,h10,h6,h7,h8⟩
theorem g17f {a b : SType} : (bif bif bif bif bif bif bif decide (a.Kind = b.Kind) then decide (a.Name = b.Name) else false then decide (a.Low = b.Low) else false then decide (a.High = b.High) else false then decide (a.Max = b.Max) else false then decide (a.Key = b.Key) else false then decide (a.Elem = b.Elem) else false then eqB a.Open b.Open else false) = true ↔
   a.Kind=b.Kind∧a.Name=b.Name∧a.Low=b.Low∧a.High=b.High∧a.Max=b.Max∧a.Key=b.Key∧a.Elem=b.Elem∧a.Open=b.Open:=by
 simp only[Bool.cond_eq_ite,eqB];by_cases h1:a.Kind=b.Kind <;> by_cases h2:a.Name=b.Name <;> by_cases h3:a.Low=b.Low <;> by_cases h4:a.High=b.High <;> simp[h1,h2,h3,h4]
 by_cases h5:a.Max=b.Max <;> by_cases h6:a.Key=b.Key <;> by_cases h7:a.Elem=b.Elem <;> simp[h5,h6,h7]
theorem g59{a:SType}(h:OkT a)(b:SType) :Says (g1y (a,b)) a b:=by
 rw[g1y];obtain⟨rs,s1,s2⟩:=g17e (a:=a.Symbols) (b:=b.Symbols) (g3h h.syms);obtain⟨rm,m1,m2⟩:=gug (a:=a.Members) (b:=b.Members) (g3h h.mems) h.dv;have e8:=g17f (a:=a) (b:=b)
 generalize (bif bif bif bif bif bif bif decide (a.Kind=b.Kind)then decide (a.Name=b.Name)else false then decide (a.Low=b.Low)else false then decide (a.High=b.High)else false then decide (a.Max=b.Max)else false then decide (a.Key=b.Key)else false then decide (a.Elem=b.Elem)else false then eqB a.Open b.Open else false)=q at e8 ⊢
 simp only[oZ4,oZ3];rw[s1,m1];refine⟨q && rs && rm,by cases q <;> cases rs <;> cases rm <;> rfl,?_⟩;rw[gja,Bool.and_eq_true,Bool.and_eq_true,e8,s2,m2];constructor
 · rintro ⟨⟨⟨a1,a2,a3,a4,a5,a6,a7,a8⟩,a9⟩,a10⟩;exact⟨a1,a2,a3,a4,a5,a6,a7,a8,a9,a10⟩
 · rintro ⟨a1,a2,a3,a4,a5,a6,a7,a8,a9,a10⟩;exact⟨⟨⟨a1,a2,a3,a4,a5,a6,a7,a8⟩,a9⟩,a10⟩
theorem gfq(a:SType) :(⟨a.Kind,a.Name,a.Low,a.High,a.Max,a.Symbols,a.Members,a.Key,a.Elem,a.Open⟩:SType)=a:=by cases a;rfl
theorem gai{a:SType}(h:OkT a)(b:SType) :Says (g7a (a,b)) a b:=by
 rw[g7a];simp only[gfq];by_cases h5:(a.Kind=b.Kind∧a.Name=b.Name∧a.Low=b.Low∧a.High=b.High∧a.Max=b.Max∧a.Key=b.Key∧a.Elem=b.Elem∧a.Open=b.Open)∧a.Symbols.length=b.Symbols.length∧a.Members.length=b.Members.length
 · obtain⟨⟨e1,e2,e3,e4,e5,e6,e7,e8⟩,e9,e10⟩:=h5;rw[if_neg (by simp[e1,e2,e3,e4,e5,e6,e7,e8,e9,e10,eqB])];have hr:=g12 (g3h h.syms);have hr2:=g12 (g3h h.mems)
   have hsc:=scan (fun i=>g2g ((i:Int),a,b)) a.Symbols.length (fun i=>eqI (a.Symbols.getD i dSSymbol).ID (b.Symbols.getD i dSSymbol).ID && (eqS (a.Symbols.getD i dSSymbol).Name (b.Symbols.getD i dSSymbol).Name && true)) (.inl false) (.inr (a,b))
     (fun i hi'=>by
       rw[g2g,if_pos (by simp;omega),if_pos (g6 hi')];simp only[oZ4,oZ3,g7];rw[if_pos (g6 (by omega)),ge (by omega)];generalize (eqI (a.Symbols.getD i dSSymbol).ID (b.Symbols.getD i dSSymbol).ID && (eqS (a.Symbols.getD i dSSymbol).Name (b.Symbols.getD i dSSymbol).Name && true))=c
       cases c <;> rfl)
     (by rw[g2g,if_neg (by simp)])
   have h0:g2g (((0:Nat):Int),a,b)=g2g (0,a,b):=rfl;simp only[h0]at hsc;have hp:∀(i:Nat) (h1:i < a.Symbols.length) (h2:i < b.Symbols.length),(eqI (a.Symbols.getD i dSSymbol).ID (b.Symbols.getD i dSSymbol).ID && (eqS (a.Symbols.getD i dSSymbol).Name (b.Symbols.getD i dSSymbol).Name && true))=true↔a.Symbols[i]=b.Symbols[i]:=fun i h1 h2=>by
     rw[g15 h1,g15 h2];exact g11n
   rcases hsc with⟨g1,g2⟩ | ⟨g1,j,g2,g3⟩
   · have hsy:=(g7e e9 hp).1 g2;rw[g1];simp only[oZ4,oZ3];have hs:=gn5 (g:=()) e10 (f:=g5g) (fun x hx y=>g11s (h.dv x hx) y) (fun i=>g2h ((i:Int),a,b))
       (fun i hi=>by
         rw[g2h,if_pos (by simp;omega),if_pos (g6 hi)];simp only[oZ4,oZ3,g7,g6m]
         rw[if_pos (g6 (by omega)),ge (by omega)])
       (by rw[g2h,if_neg (by simp)])
     have e0:g2h (((0:Nat):Int),a,b)=g2h (0,a,b):=rfl;simp only[e0]at hs;rcases hs with⟨k1,k2⟩ | ⟨k1,k2⟩
     · rw[k1];refine⟨true,rfl,?_⟩;rw[gja];simp[e1,e2,e3,e4,e5,e6,e7,e8,hsy,k2]
     · rw[k1];refine⟨false,rfl,?_⟩;rw[gja];simp[k2]
   · rw[g1];refine⟨false,rfl,?_⟩;constructor
     · intro h;cases h
     · intro h;have:=(g7e e9 hp).2 (gja.1 h).2.2.2.2.2.2.2.2.1 j g2;rw[g3]at this;cases this
 · rw[if_pos]
   · refine⟨false,rfl,?_⟩;constructor
     · intro h;cases h
     · intro h
       exfalso;apply h5
       subst h;simp
   · simp only[Bool.cond_eq_ite,eqB];by_cases q1:a.Kind=b.Kind <;> by_cases q2:a.Name=b.Name <;> by_cases q3:a.Low=b.Low <;> by_cases q4:a.High=b.High <;> simp[q1,q2,q3,q4]
     by_cases q5:a.Max=b.Max <;> by_cases q6:a.Key=b.Key <;> by_cases q7:a.Elem=b.Elem <;> by_cases q8:a.Open=b.Open <;> simp[q5,q6,q7,q8]
     by_cases q9:a.Symbols.length=b.Symbols.length
     · by_cases q10:a.Members.length=b.Members.length
       · exact absurd ⟨⟨q1,q2,q3,q4,q5,q6,q7,q8⟩,q9,q10⟩ h5
       · right;omega
     · left;omega
end
section
open Go Go.Proofs.YthnmepafpikaiaaGreat.Shv
set_option maxRecDepth 100000
def gav(v:SValue) :Bool:=(g4w (v,dSValue)).getD false
theorem g14l{v:SValue}(h:OkV v) :g4w (v,dSValue)=some (gav v):=by
 obtain⟨r,h1,h2⟩:=ge4 h dSValue;unfold gav;rw[h1];rfl
theorem g14m{v:SValue}(h:OkV v) :g1e (v,dSValue)=some (gav v):=by
 obtain⟨r,h1,h2⟩:=ge4 h dSValue;obtain⟨q,h3,h4⟩:=gqk h dSValue;unfold gav;rw[h1,h3];have:q=r:=Bool.eq_iff_iff.2 (h4.trans h2.symm);rw[this];rfl
theorem g13i{v:SValue}(h:OkV v) :gbq v=some (gav v):=by
 rw[gbq,SValue.gr];have:=g14l h;unfold dSValue at this;rw[this];rfl
def badM(union:Bool)(m:SMember) :Bool:=(union && (m.Critical || m.HasDefault)) || (m.Critical && m.HasDefault) || (!m.HasDefault && !gav m.Default)
theorem g8{α:Type}{l:List α}{i:Nat}(h:i < l.length)(d:α) :l.getD i d∈l:=by
 rw[g15 h];exact List.getElem_mem h
theorem gpo{t:SType}(h:OkT t) :∃r,g6h t=some r∧(r=true↔(∀i,i < t.Members.length→badM (decide (t.Kind=6)) (t.Members.getD i dSMember)=false)∧(t.Kind=5∨0 < t.Members.length)∧(∀i,i < t.Members.length→idp (t.Members.map (·.ID)) (t.Members.map (·.Name)) i=true)∧t.Members.length≤16):=by
 have hr:t.Members.length < 9223372036854775807:=g12 (g3h h.mems);have hsc:=scan (fun i=>g40 (t.Members,(t.Members.length:Int),(i:Int),t,(t.Members.map (·.ID)).take i,(t.Members.map (·.Name)).take i)) t.Members.length (fun i=>!(badM (decide (t.Kind=6)) (t.Members.getD i dSMember))) (.inl false) (.inr (t,t.Members.map (·.ID),t.Members.map (·.Name)))
   (fun i hi=>by
     have hz:=g13i (h.dv _ (g8 hi dSMember));rw[g40,if_pos (by simp;omega),if_pos (g6 hi)];simp only[oZ4,oZ3,g7,SValue.gr];rw[←g2k (·.ID) t.Members i dSMember 0 hi,←g2k (·.Name) t.Members i dSMember [] hi,gbd _ _ _ (by simpa using hi),gbd _ _ _ (by simpa using hi)];have hb:((t.Members.map (·.ID)).take (i+1)).length*24≤reachBytes:=by
       refine Nat.le_trans (Nat.mul_le_mul_right _ ?_) h.mems;simp;omega
     have hb2:((t.Members.map (·.Name)).take (i+1)).length*24≤reachBytes:=by
       refine Nat.le_trans (Nat.mul_le_mul_right _ ?_) h.mems;simp;omega
     rw[if_pos (room8 (by omega) hb),if_pos (room8 (by omega) hb2),ge (by omega),hz];unfold badM
     cases decide (t.Kind=6) <;> cases (t.Members.getD i dSMember).Critical <;> cases (t.Members.getD i dSMember).HasDefault <;> cases gav (t.Members.getD i dSMember).Default <;> rfl)
   (by
     rw[g40,if_neg (by simp)]
     rw[List.take_of_length_le (by simp),List.take_of_length_le (by simp)])
 have e0:g40 (t.Members,(t.Members.length:Int),((0:Nat):Int),t,(t.Members.map (·.ID)).take 0,(t.Members.map (·.Name)).take 0)=g40 (t.Members,(t.Members.length:Int),0,t,[],[]):=rfl;simp only[e0]at hsc;rw[g6h];obtain⟨r,h1,h2⟩:=g11p (l:=t.Members.map (·.ID)) (names:=t.Members.map (·.Name)) (by simpa using g3h h.mems) (by simp);rw[List.length_map]at h2
 rcases hsc with⟨g1,g2⟩ | ⟨g1,j,g2,g3⟩
 · rw[g1];simp only[oZ4,oZ3];rw[h1];refine⟨(bif decide (t.Kind=5)then true else decide (0 < ((t.Members.map (·.ID)).length:Int))) && r,?_,?_⟩
   · cases (bif decide (t.Kind=5)then true else decide (0 < ((t.Members.map (·.ID)).length:Int))) <;> rfl
   · rw[Bool.and_eq_true,h2];have e5:(bif decide (t.Kind=5)then true else decide (0 < ((t.Members.map (·.ID)).length:Int)))=true↔(t.Kind=5∨0 < t.Members.length):=by
       by_cases h5:t.Kind=5 <;> simp[h5]
     rw[e5];constructor
     · rintro ⟨a,b,c⟩
       exact⟨fun i hi=>by simpa using g2 i hi,a,b,c⟩
     · rintro ⟨_,a,b,c⟩;exact⟨a,b,c⟩
 · rw[g1];refine⟨false,rfl,?_⟩;constructor
   · intro h;cases h
   · rintro ⟨a,_⟩
     have h5:=a j g2;have g3':(!(badM (decide (t.Kind=6)) (t.Members.getD j dSMember)))=false:=g3;rw[h5]at g3';cases g3'
theorem gz6 (l : List SMember) (record : Bool) (hl : l.length ≤ reachBytes) (i : Nat) (hi : i < l.length) :
   g20 (l,record,(i:Int),0,l.getD i dSMember)=some (if((l.map (·.Name)).take i).contains ((l.map (·.Name)).getD i [])=true then .inl false else .inr (l,record,(i:Int),l.getD i dSMember)):=by
 have hr:=g12 hl;have hsc:=scan (fun k=>g20 (l,record,(i:Int),(k:Int),l.getD i dSMember)) i (fun k=>!(decide ((l.getD k dSMember).Name=(l.getD i dSMember).Name))) (.inl false) (.inr (l,record,(i:Int),l.getD i dSMember))
   (fun k hk=>by
     rw[g20,if_pos (by simp;omega),if_pos (g6 (by omega)),ge (by omega)];simp only[g7,g6m]
     cases decide ((l.getD k dSMember).Name=(l.getD i dSMember).Name) <;> rfl)
   (by rw[g20,if_neg (by simp),g6m])
 have e0:g20 (l,record,(i:Int),((0:Nat):Int),l.getD i dSMember)=g20 (l,record,(i:Int),0,l.getD i dSMember):=rfl;simp only[e0]at hsc;rw[g2k (·.Name) l i dSMember [] hi];rcases hsc with⟨h1,h2⟩ | ⟨h1,j,h2,h3⟩
 · rw[h1,if_neg];rw[g5j (by simp;omega)]
   rintro ⟨k,hk,he⟩
   rw[g2k (·.Name) l k dSMember [] (by omega)]at he;have:=h2 k hk;rw[he]at this;simp at this
 · rw[h1,if_pos];rw[g5j (by simp;omega)];refine⟨j,h2,?_⟩;rw[g2k (·.Name) l j dSMember [] (by omega)]
   simpa using h3
theorem gz7{l:List SMember}{record:Bool}(hl:l.length≤reachBytes)(hd:∀m,m∈l→OkV m.Default) :∃r,g58 (l,record)=some r∧(r=true↔(∀i,i < l.length→badM (!record) (l.getD i dSMember)=false)∧(record=true∨0 < l.length)∧(∀i,i < l.length→idp (l.map (·.ID)) (l.map (·.Name)) i=true)∧l.length≤16):=by
 have hr:=g12 hl;have hsc:=scan (fun i=>g2m (l,record,bef (l.map (·.ID)) i,(i:Int))) l.length (fun i=>idp (l.map (·.ID)) (l.map (·.Name)) i && !(badM (!record) (l.getD i dSMember))) (.inl false) (.inr (l,record))
   (fun i hi=>by
     have hz:=g14m (hd _ (g8 hi dSMember));unfold dSValue at hz;rw[g2m,if_pos (by simp;omega),if_pos (g6 hi)];simp only[oZ4,oZ3,g7,SValue.gr,g6m,gwz (l:=l.map (·.ID)) (names:=l.map (·.Name)) (i:=i) (by simpa using hi) (by simp)];rw[gz6 l record hl i hi,hz];have hbef:bef (l.map (·.ID)) (i+1)=(l.getD i dSMember).ID:=by
       unfold bef;rw[if_neg (by omega)];exact g2k (·.ID) l i dSMember 0 hi
     rw[←g2k (·.ID) l i dSMember 0 hi,←g2k (·.Name) l i dSMember [] hi,refId,refNm];simp only[oZ3];generalize (decide (bef (l.map (·.ID)) i < (l.map (·.ID)).getD i 0) && decide (1≤(l.map (·.ID)).getD i 0) && decide ((l.map (·.ID)).getD i 0≤1000))=q;cases q with
     | false=>simp
     | true=>
       simp only[Bool.not_true,Bool.not_false,if_true,oZ3,Bool.true_and];cases nm ((l.map (·.Name)).getD i [])with
       | false=>simp
       | true=>
         simp only[Bool.not_true,Bool.true_and,Bool.or_false,cond_false];unfold badM;cases record <;> cases (l.getD i dSMember).Critical <;> cases (l.getD i dSMember).HasDefault <;> cases gav (l.getD i dSMember).Default <;>
           simp only[Bool.not_true,Bool.not_false,Bool.or_self,Bool.and_self,Bool.or_true,Bool.true_or,Bool.and_true,Bool.and_false,Bool.false_and,Bool.true_and,Bool.false_or,Bool.or_false,cond_true,cond_false,if_true,if_false,Bool.false_eq_true,oZ3] <;>
           first
             | rfl
             | (cases hc:((l.map (·.Name)).take i).contains ((l.map (·.Name)).getD i [])with
               | true=>simp
               | false=>
                 simp only[Bool.false_eq_true,if_false,Bool.not_false,if_true];rw[ge (by omega),hbef]
                 try rfl))
   (by rw[g2m,if_neg (by simp)])
 have e0:g2m (l,record,bef (l.map (·.ID)) 0,((0:Nat):Int))=g2m (l,record,0,0):=rfl;simp only[e0]at hsc;rw[g58];rcases hsc with⟨h1,h2⟩ | ⟨h1,j,h2,h3⟩
 · rw[h1];refine⟨_,rfl,?_⟩;have h2':∀i,i < l.length→idp (l.map (·.ID)) (l.map (·.Name)) i=true∧badM (!record) (l.getD i dSMember)=false:=fun i hi=>by
     have:=h2 i hi
     simpa using this
   simp only[Bool.cond_eq_ite];constructor
   · intro h;split at h
     · rename_i h4;refine⟨fun i hi=>(h2' i hi).2,?_,fun i hi=>(h2' i hi).1,by simp at h4;omega⟩;cases record with
       | true=>exact .inl rfl
       | false=>right;simp at h;omega
     · cases h
   · rintro ⟨_,a,_,b⟩
     rw[if_pos (by simp;omega)];cases record with
     | true=>rfl
     | false=>simp at a ⊢;omega
 · rw[h1];refine⟨false,rfl,?_⟩;constructor
   · intro h;cases h
   · rintro ⟨a,_,b,_⟩
     have h5:=b j h2;have h6:=a j h2;rw[h5,h6]at h3;cases h3
theorem grl{t:SType}(h:OkT t)(hk:t.Kind=5∨t.Kind=6) :∃r,g6h t=some r∧g58 (t.Members,decide (t.Kind=5))=some r:=by
 obtain⟨r,h1,h2⟩:=gpo h;obtain⟨q,h3,h4⟩:=gz7 (l:=t.Members) (record:=decide (t.Kind=5)) (g3h h.mems) h.dv;have hu:(!(decide (t.Kind=5)))=decide (t.Kind=6):=by
   rcases hk with e | e <;> rw[e] <;> rfl
 rw[hu]at h4;have e5:decide (t.Kind=5)=true↔t.Kind=5:=decide_eq_true_iff;rw[e5]at h4;have:r=q:=Bool.eq_iff_iff.2 (h2.trans h4.symm);exact⟨r,h1,by rw[this];exact h3⟩
end
section
open Go Go.Proofs.YthnmepafpikaiaaGreat.Shv
set_option maxRecDepth 100000
theorem OkT.plain{k l h m kk e:Int}{n:List UInt8}{S:List SSymbol}{Ms:List SMember}{o:Bool}(hS:S.length*24≤reachBytes)(hM:Ms.length*24≤reachBytes)(hd:∀x,x∈Ms→OkV x.Default) :OkT ⟨k,n,l,h,m,S,Ms,kk,e,o⟩:=⟨hS,hM,hd⟩
theorem form1{N:List UInt8}{L H M K E:Int}{S:List SSymbol}{Ms:List SMember}{O:Bool}(h:OkT (⟨1,N,L,H,M,S,Ms,K,E,O⟩:SType)) :∃r,g1m (⟨1,N,L,H,M,S,Ms,K,E,O⟩:SType)=some r∧g18 (⟨1,N,L,H,M,S,Ms,K,E,O⟩:SType)=some r∧(r=true→N=[]):=by
 obtain⟨a,a1,a2⟩:=g59 (a:=(⟨0,N,L,H,M,S,Ms,K,E,O⟩:SType)) ⟨h.syms,h.mems,h.dv⟩ (⟨0,[],0,0,0,[],[],0,0,false⟩:SType);obtain⟨b,b1,b2⟩:=gai h (⟨1,[],0,0,0,[],[],0,0,false⟩:SType);have hab:a=b:=by
   refine Bool.eq_iff_iff.2 (a2.trans (Iff.trans ?_ b2.symm));simp only[SType.mk.injEq]
   try (simp)
 subst hab;refine⟨a,by simp[g1m,a1],by simp[g18,g30,g1v,b1];try (cases a <;> rfl),fun hr=>?_⟩;have:=b2.1 hr;simp only[SType.mk.injEq]at this;exact this.2.1
theorem form2{N:List UInt8}{L H M K E:Int}{S:List SSymbol}{Ms:List SMember}{O:Bool}(h:OkT (⟨2,N,L,H,M,S,Ms,K,E,O⟩:SType)) :∃r,g1m (⟨2,N,L,H,M,S,Ms,K,E,O⟩:SType)=some r∧g18 (⟨2,N,L,H,M,S,Ms,K,E,O⟩:SType)=some r∧(r=true→N=[]):=by
 obtain⟨a,a1,a2⟩:=g59 (a:=(⟨0,N,0,0,M,S,Ms,K,E,O⟩:SType)) ⟨h.syms,h.mems,h.dv⟩ (⟨0,[],0,0,0,[],[],0,0,false⟩:SType);obtain⟨b,b1,b2⟩:=gai h (⟨2,[],L,H,0,[],[],0,0,false⟩:SType);have hab:a=b:=by
   refine Bool.eq_iff_iff.2 (a2.trans (Iff.trans ?_ b2.symm));simp only[SType.mk.injEq]
   try (simp)
 subst hab;refine⟨decide (L≤H) && a,?_,?_,fun hr=>?_⟩
 · simp only[g1m];generalize decide (L≤H)=q;simp[a1]
   try (cases q <;> rfl)
 · simp only[g18];generalize decide (L≤H)=q;simp[g30,g1v,b1]
   try (cases a <;> cases q <;> rfl)
 · rw[Bool.and_eq_true]at hr;have:=b2.1 hr.2;simp only[SType.mk.injEq]at this;exact this.2.1
theorem form3{N:List UInt8}{L H M K E:Int}{S:List SSymbol}{Ms:List SMember}{O:Bool}(h:OkT (⟨3,N,L,H,M,S,Ms,K,E,O⟩:SType)) :∃r,g1m (⟨3,N,L,H,M,S,Ms,K,E,O⟩:SType)=some r∧g18 (⟨3,N,L,H,M,S,Ms,K,E,O⟩:SType)=some r∧(r=true→N=[]):=by
 obtain⟨a,a1,a2⟩:=g59 (a:=(⟨0,N,L,H,0,S,Ms,K,E,O⟩:SType)) ⟨h.syms,h.mems,h.dv⟩ (⟨0,[],0,0,0,[],[],0,0,false⟩:SType);obtain⟨b,b1,b2⟩:=gai h (⟨3,[],0,0,M,[],[],0,0,false⟩:SType);have hab:a=b:=by
   refine Bool.eq_iff_iff.2 (a2.trans (Iff.trans ?_ b2.symm));simp only[SType.mk.injEq]
   try (simp)
 subst hab;refine⟨(bif decide (0≤M)then decide (M≤200)else false) && a,?_,?_,fun hr=>?_⟩
 · simp only[g1m];generalize (bif decide (0≤M)then decide (M≤200)else false)=q;simp[a1]
   try (cases q <;> rfl)
 · simp only[g18];generalize (bif decide (0≤M)then decide (M≤200)else false)=q;simp[g30,g1v,b1]
   try (cases a <;> cases q <;> rfl)
 · rw[Bool.and_eq_true]at hr;have:=b2.1 hr.2;simp only[SType.mk.injEq]at this;exact this.2.1
theorem form4{N:List UInt8}{L H M K E:Int}{S:List SSymbol}{Ms:List SMember}{O:Bool}(h:OkT (⟨4,N,L,H,M,S,Ms,K,E,O⟩:SType)) :∃r,g1m (⟨4,N,L,H,M,S,Ms,K,E,O⟩:SType)=some r∧g18 (⟨4,N,L,H,M,S,Ms,K,E,O⟩:SType)=some r∧(r=true→N≠[]):=by
 obtain⟨a,a1,a2⟩:=g59 (a:=(⟨0,[],L,H,M,[],Ms,K,E,false⟩:SType)) ⟨(by simp),h.mems,h.dv⟩ (⟨0,[],0,0,0,[],[],0,0,false⟩:SType);obtain⟨b,b1,b2⟩:=gai h (⟨4,N,0,0,0,S,[],0,0,O⟩:SType);have hab:a=b:=by
   refine Bool.eq_iff_iff.2 (a2.trans (Iff.trans ?_ b2.symm));simp only[SType.mk.injEq]
   try (cases O <;> simp)
 subst hab;obtain⟨q,q1,q2⟩:=g11q (l:=S) h.syms;refine⟨nm N && q && a,?_,?_,fun hr=>?_⟩
 · simp only[g1m];simp[a1,q1,lexNm]
   try (cases nm N <;> cases q <;> rfl)
 · simp only[g18]
   try simp at q2
   simp[g30,g1v,b1,q2,refNm]
   try (cases a <;> cases nm N <;> cases q <;> rfl)
 · simp only[Bool.and_eq_true]at hr;exact nm_ne hr.1.1
theorem form5{N:List UInt8}{L H M K E:Int}{S:List SSymbol}{Ms:List SMember}{O:Bool}(h:OkT (⟨5,N,L,H,M,S,Ms,K,E,O⟩:SType)) :∃r,g1m (⟨5,N,L,H,M,S,Ms,K,E,O⟩:SType)=some r∧g18 (⟨5,N,L,H,M,S,Ms,K,E,O⟩:SType)=some r∧(r=true→N≠[]):=by
 obtain⟨a,a1,a2⟩:=g59 (a:=(⟨0,[],L,H,M,S,[],K,E,(bif O then decide ((5:Int)=5)else false)⟩:SType)) ⟨h.syms,(by simp),(by simp)⟩ (⟨0,[],0,0,0,[],[],0,0,false⟩:SType);obtain⟨b,b1,b2⟩:=gai h (⟨5,N,0,0,0,[],Ms,0,0,false⟩:SType);have hab:a=b:=by
   refine Bool.eq_iff_iff.2 (a2.trans (Iff.trans ?_ b2.symm));simp only[SType.mk.injEq]
   try (cases O <;> simp)
 subst hab;obtain⟨q,q1,q2⟩:=grl h (by simp);refine⟨nm N && q && a,?_,?_,fun hr=>?_⟩
 · simp only[g1m]
   try simp at a1
   try simp at q1
   simp[a1,q1,lexNm]
   try (cases nm N <;> cases q <;> rfl)
 · simp only[g18]
   try simp at q2
   simp[g30,g1v,b1,q2,refNm]
   try (cases a <;> cases nm N <;> cases q <;> rfl)
 · simp only[Bool.and_eq_true]at hr;exact nm_ne hr.1.1
theorem form6{N:List UInt8}{L H M K E:Int}{S:List SSymbol}{Ms:List SMember}{O:Bool}(h:OkT (⟨6,N,L,H,M,S,Ms,K,E,O⟩:SType)) :∃r,g1m (⟨6,N,L,H,M,S,Ms,K,E,O⟩:SType)=some r∧g18 (⟨6,N,L,H,M,S,Ms,K,E,O⟩:SType)=some r∧(r=true→N≠[]):=by
 obtain⟨a,a1,a2⟩:=g59 (a:=(⟨0,[],L,H,M,S,[],K,E,(bif O then decide ((6:Int)=5)else false)⟩:SType)) ⟨h.syms,(by simp),(by simp)⟩ (⟨0,[],0,0,0,[],[],0,0,false⟩:SType);obtain⟨b,b1,b2⟩:=gai h (⟨6,N,0,0,0,[],Ms,0,0,O⟩:SType);have hab:a=b:=by
   refine Bool.eq_iff_iff.2 (a2.trans (Iff.trans ?_ b2.symm));simp only[SType.mk.injEq]
   try (cases O <;> simp)
 subst hab;obtain⟨q,q1,q2⟩:=grl h (by simp);refine⟨nm N && q && a,?_,?_,fun hr=>?_⟩
 · simp only[g1m]
   try simp at a1
   try simp at q1
   simp[a1,q1,lexNm]
   try (cases nm N <;> cases q <;> rfl)
 · simp only[g18]
   try simp at q2
   simp[g30,g1v,b1,q2,refNm]
   try (cases a <;> cases nm N <;> cases q <;> rfl)
 · simp only[Bool.and_eq_true]at hr;exact nm_ne hr.1.1
theorem form7{N:List UInt8}{L H M K E:Int}{S:List SSymbol}{Ms:List SMember}{O:Bool}(h:OkT (⟨7,N,L,H,M,S,Ms,K,E,O⟩:SType)) :∃r,g1m (⟨7,N,L,H,M,S,Ms,K,E,O⟩:SType)=some r∧g18 (⟨7,N,L,H,M,S,Ms,K,E,O⟩:SType)=some r∧(r=true→N=[]):=by
 obtain⟨a,a1,a2⟩:=g59 (a:=(⟨0,N,L,H,0,S,Ms,K,0,O⟩:SType)) ⟨h.syms,h.mems,h.dv⟩ (⟨0,[],0,0,0,[],[],0,0,false⟩:SType);obtain⟨b,b1,b2⟩:=gai h (⟨7,[],0,0,M,[],[],0,E,false⟩:SType);have hab:a=b:=by
   refine Bool.eq_iff_iff.2 (a2.trans (Iff.trans ?_ b2.symm));simp only[SType.mk.injEq]
   try (simp)
 subst hab;refine⟨(bif decide (0≤M)then decide (M≤50)else false) && a,?_,?_,fun hr=>?_⟩
 · simp only[g1m];generalize (bif decide (0≤M)then decide (M≤50)else false)=q;simp[a1]
   try (cases q <;> rfl)
 · simp only[g18];generalize (bif decide (0≤M)then decide (M≤50)else false)=q;simp[g30,g1v,b1]
   try (cases a <;> cases q <;> rfl)
 · rw[Bool.and_eq_true]at hr;have:=b2.1 hr.2;simp only[SType.mk.injEq]at this;exact this.2.1
theorem form8{N:List UInt8}{L H M K E:Int}{S:List SSymbol}{Ms:List SMember}{O:Bool}(h:OkT (⟨8,N,L,H,M,S,Ms,K,E,O⟩:SType)) :∃r,g1m (⟨8,N,L,H,M,S,Ms,K,E,O⟩:SType)=some r∧g18 (⟨8,N,L,H,M,S,Ms,K,E,O⟩:SType)=some r∧(r=true→N=[]):=by
 obtain⟨a,a1,a2⟩:=g59 (a:=(⟨0,N,L,H,0,S,Ms,0,0,O⟩:SType)) ⟨h.syms,h.mems,h.dv⟩ (⟨0,[],0,0,0,[],[],0,0,false⟩:SType);obtain⟨b,b1,b2⟩:=gai h (⟨8,[],0,0,M,[],[],K,E,false⟩:SType);have hab:a=b:=by
   refine Bool.eq_iff_iff.2 (a2.trans (Iff.trans ?_ b2.symm));simp only[SType.mk.injEq]
   try (simp)
 subst hab;refine⟨(bif decide (0≤M)then decide (M≤50)else false) && a,?_,?_,fun hr=>?_⟩
 · simp only[g1m];generalize (bif decide (0≤M)then decide (M≤50)else false)=q;simp[a1]
   try (cases q <;> rfl)
 · simp only[g18];generalize (bif decide (0≤M)then decide (M≤50)else false)=q;simp[g30,g1v,b1]
   try (cases a <;> cases q <;> rfl)
 · rw[Bool.and_eq_true]at hr;have:=b2.1 hr.2;simp only[SType.mk.injEq]at this;exact this.2.1
theorem form9{N:List UInt8}{L H M K E:Int}{S:List SSymbol}{Ms:List SMember}{O:Bool}(h:OkT (⟨9,N,L,H,M,S,Ms,K,E,O⟩:SType)) :∃r,g1m (⟨9,N,L,H,M,S,Ms,K,E,O⟩:SType)=some r∧g18 (⟨9,N,L,H,M,S,Ms,K,E,O⟩:SType)=some r∧(r=true→N=[]):=by
 obtain⟨a,a1,a2⟩:=g59 (a:=(⟨0,N,L,H,M,S,Ms,K,0,O⟩:SType)) ⟨h.syms,h.mems,h.dv⟩ (⟨0,[],0,0,0,[],[],0,0,false⟩:SType);obtain⟨b,b1,b2⟩:=gai h (⟨9,[],0,0,0,[],[],0,E,false⟩:SType);have hab:a=b:=by
   refine Bool.eq_iff_iff.2 (a2.trans (Iff.trans ?_ b2.symm));simp only[SType.mk.injEq]
   try (simp)
 subst hab;refine⟨a,by simp[g1m,a1],by simp[g18,g30,g1v,b1];try (cases a <;> rfl),fun hr=>?_⟩;have:=b2.1 hr;simp only[SType.mk.injEq]at this;exact this.2.1
end
section
open Go Go.Proofs.YthnmepafpikaiaaGreat.Shv
set_option maxRecDepth 100000
def g7q(k:Int) :Bool:=bif bif decide (k=4)then true else decide (k=5)then true else decide (k=6)
theorem glq{t:SType}(h:OkT t) :∃r,g1m t=some r∧g18 t=some r∧(r=true→1≤t.Kind∧t.Kind≤9∧g7q t.Kind=!(decide (t.Name=[]))):=by
 by_cases hk:1≤t.Kind∧t.Kind≤9
 · obtain⟨Kd,N,L,H,M,S,Ms,K,E,O⟩:=t;simp only at hk;have:Kd=1∨Kd=2∨Kd=3∨Kd=4∨Kd=5∨Kd=6∨Kd=7∨Kd=8∨Kd=9:=by omega
   rcases this with rfl | rfl | rfl | rfl | rfl | rfl | rfl | rfl | rfl
   · obtain⟨r,h1,h2,h3⟩:=form1 h;exact⟨r,h1,h2,fun hr=>⟨hk.1,hk.2,by simp[g7q,h3 hr]⟩⟩
   · obtain⟨r,h1,h2,h3⟩:=form2 h;exact⟨r,h1,h2,fun hr=>⟨hk.1,hk.2,by simp[g7q,h3 hr]⟩⟩
   · obtain⟨r,h1,h2,h3⟩:=form3 h;exact⟨r,h1,h2,fun hr=>⟨hk.1,hk.2,by simp[g7q,h3 hr]⟩⟩
   · obtain⟨r,h1,h2,h3⟩:=form4 h;exact⟨r,h1,h2,fun hr=>⟨hk.1,hk.2,by simp[g7q,h3 hr]⟩⟩
   · obtain⟨r,h1,h2,h3⟩:=form5 h;exact⟨r,h1,h2,fun hr=>⟨hk.1,hk.2,by simp[g7q,h3 hr]⟩⟩
   · obtain⟨r,h1,h2,h3⟩:=form6 h;exact⟨r,h1,h2,fun hr=>⟨hk.1,hk.2,by simp[g7q,h3 hr]⟩⟩
   · obtain⟨r,h1,h2,h3⟩:=form7 h;exact⟨r,h1,h2,fun hr=>⟨hk.1,hk.2,by simp[g7q,h3 hr]⟩⟩
   · obtain⟨r,h1,h2,h3⟩:=form8 h;exact⟨r,h1,h2,fun hr=>⟨hk.1,hk.2,by simp[g7q,h3 hr]⟩⟩
   · obtain⟨r,h1,h2,h3⟩:=form9 h;exact⟨r,h1,h2,fun hr=>⟨hk.1,hk.2,by simp[g7q,h3 hr]⟩⟩
 · refine⟨false,?_,?_,fun h=>by cases h⟩
   · have e:∀k:Int,1≤k→k≤9→¬t.Kind=k:=fun k h1 h2 e=>hk (by omega)
     simp[g1m,e 1,e 2,e 3,e 4,e 5,e 6,e 7,e 8,e 9]
   · have e:(bif decide (t.Kind < 1)then true else decide (9 < t.Kind))=true:=by
       by_cases h1:t.Kind < 1
       · simp[h1]
       · simp[h1];omega
     rw[g18,e];rfl
def usesL(t:SType) :List Int:=t.Members.map (·.Type_)++(if t.Kind=8 then[t.Key]else[])++(if 7≤t.Kind then[t.Elem]else[])
theorem gda{k n:Nat}(hk:k≤16){m:Nat}(h:m*24≤reachBytes)(hn:n≤m+2) :room k n=true:=by
 unfold room g4p g1t;unfold reachBytes at h;simp only[Bool.and_eq_true,decide_eq_true_eq];have:(2*n+192)*k≤(2*n+192)*16:=Nat.mul_le_mul_left _ hk;omega
theorem gpp(t:SType)(h:t.Members.length*24≤reachBytes) :∀(k i:Nat),i+k=t.Members.length→g5r (t.Members,(t.Members.length:Int),(i:Int),t,(t.Members.map (·.Type_)).take i)=some (t,t.Members.map (·.Type_))
 | 0,i,hi=>by
   rw[g5r,if_neg (by simp;omega),List.take_of_length_le (by simp;omega)]
 | k+1,i,hi=>by
   have hr:=g12 (g3h h);have hlt:i < t.Members.length:=by omega
   rw[g5r,if_pos (by simp;omega),if_pos (g6 hlt)];simp only[oZ4,oZ3,g7];rw[←g2k (·.Type_) t.Members i dSMember 0 hlt,gbd _ _ _ (by simpa using hlt),ge (by omega),if_pos (gda (m:=t.Members.length) (by omega) h (by simp;omega))];exact gpp t h k (i+1) (by omega)
theorem g14n{t:SType}(h:t.Members.length*24≤reachBytes) :gct t=some (usesL t):=by
 have h0:=gpp t h t.Members.length 0 (by omega);have h0':g5r (t.Members,(t.Members.length:Int),0,t,[])=some (t,t.Members.map (·.Type_)):=h0;rw[gct,h0'];unfold usesL;simp only[oZ4,oZ3];have r1:room 8 (t.Members.map (·.Type_)++[t.Key]).length=true:=gda (m:=t.Members.length) (by omega) h (by simp)
 have r2:room 8 (t.Members.map (·.Type_)++[t.Key]++[t.Elem]).length=true:=gda (m:=t.Members.length) (by omega) h (by simp);have r3:room 8 (t.Members.map (·.Type_)++[t.Elem]).length=true:=gda (m:=t.Members.length) (by omega) h (by simp);by_cases h8:t.Kind=8
 · have h7:7≤t.Kind:=by omega
   rw[if_pos (by simp[h8]),if_pos r1,if_pos (by simp[h7]),if_pos r2,if_pos h8,if_pos h7]
 · rw[if_neg (by simp[h8]),if_neg h8];by_cases h7:7≤t.Kind
   · rw[if_pos (by simp[h7]),if_pos r3,if_pos h7];simp
   · rw[if_neg (by simp[h7]),if_neg h7];simp
theorem gpq(t:SType)(h:t.Members.length*24≤reachBytes) :∀(k i:Nat),i+k=t.Members.length→g3z ((i:Int),t,(t.Members.map (·.Type_)).take i)=some (t,t.Members.map (·.Type_))
 | 0,i,hi=>by
   rw[g3z,if_neg (by simp;omega),List.take_of_length_le (by simp;omega)]
 | k+1,i,hi=>by
   have hr:=g12 (g3h h);have hlt:i < t.Members.length:=by omega
   rw[g3z,if_pos (by simp;omega),if_pos (g6 hlt)];simp only[oZ4,oZ3,g7];rw[←g2k (·.Type_) t.Members i dSMember 0 hlt,gbd _ _ _ (by simpa using hlt),ge (by omega),if_pos (gda (m:=t.Members.length) (by omega) h (by simp;omega))];exact gpq t h k (i+1) (by omega)
theorem g14o{t:SType}(h:t.Members.length*24≤reachBytes)(hk:t.Kind≤9) :g97 t=some (usesL t):=by
 have h0:=gpq t h t.Members.length 0 (by omega);have h0':g3z (0,t,[])=some (t,t.Members.map (·.Type_)):=h0;rw[g97,h0'];unfold usesL;simp only[oZ4,oZ3];have r1:room 8 (t.Members.map (·.Type_)++[t.Key]).length=true:=gda (m:=t.Members.length) (by omega) h (by simp)
 have r2:room 8 (t.Members.map (·.Type_)++[t.Key]++[t.Elem]).length=true:=gda (m:=t.Members.length) (by omega) h (by simp);have r3:room 8 (t.Members.map (·.Type_)++[t.Elem]).length=true:=gda (m:=t.Members.length) (by omega) h (by simp);by_cases h8:t.Kind=8
 · have h7:7≤t.Kind:=by omega
   rw[if_pos (by simp[h8]),if_pos r1,if_pos (by simp[h8]),if_pos r2,if_pos h8,if_pos h7]
 · rw[if_neg (by simp[h8]),if_neg h8];by_cases h7:7≤t.Kind
   · have:t.Kind=7∨t.Kind=9:=by omega
     rw[if_pos (by rcases this with e | e <;> simp[e]),if_pos r3,if_pos h7];simp
   · have e7:¬t.Kind=7:=by omega
     have e9:¬t.Kind=9:=by omega
     rw[if_neg (by simp[h8,e7,e9]),if_neg h7];simp
theorem g14p(k:Int) :g1v k=some (g7q k):=rfl
def keyB(k:Int) :Bool:=bif decide (1≤k)then decide (k≤4)else false
def outB(n:Nat)(u:Int) :Bool:=bif decide (u < 0)then true else decide ((n:Int)≤u)
def stepV(ts:List SType)(i:Nat) :Option Int:=
 let t:=ts.getD i dSType
 if !((g1m t).getD false)then some 1
 else if !(decide (t.Name=[])) && ((ts.map (·.Name)).take i).contains t.Name then some 1
 else if(usesL t).any (outB ts.length)then some 4
 else if decide (t.Kind=8) && !(keyB (ts.getD t.Key.toNat dSType).Kind)then some 1
 else none
theorem gjb {ts : List SType} {i : Nat} {t : SType} {r : Bool} (hT : ts.getD i dSType = t) (f1 : g1m t = some r) :
   stepV ts i=if(!r)=true then some 1 else if(!(decide (t.Name=[])) && ((ts.map (·.Name)).take i).contains t.Name)=true then some 1 else if(usesL t).any (outB ts.length)=true then some 4 else if(decide (t.Kind=8) && !(keyB (ts.getD t.Key.toNat dSType).Kind))=true then some 1 else none:=by
 subst hT;unfold stepV;simp only[f1,Option.getD_some]
theorem guh {γ : Type} (L : Nat → Option γ) (l : List Int) (q : Int → Bool) (bad good : γ) (hstep : ∀ i, i < l.length → L i = if q (l.getD i 0) = true then some bad else L (i + 1)) (hend : L l.length = some good) :
   L 0=some (if l.any q=true then bad else good):=by
 have:=scan L l.length (fun i=>!(q (l.getD i 0))) bad good (fun i hi=>by
   rw[hstep i hi];cases q (l.getD i 0) <;> rfl) hend
 rcases this with⟨h1,h2⟩ | ⟨h1,j,h2,h3⟩
 · rw[h1,if_neg];intro h;rw[List.any_eq_true]at h;obtain⟨x,hx,hq⟩:=h;obtain⟨j,hj,he⟩:=List.getElem_of_mem hx;have:=h2 j hj;rw[g15 hj,he,hq]at this;cases this
 · rw[h1,if_pos];rw[List.any_eq_true];refine⟨l.getD j 0,g8 h2 0,by simpa using h3⟩
theorem grm{t:SType}(h:t.Members.length*24≤reachBytes) :(usesL t).length < 9223372036854775807:=by
 unfold usesL reachBytes at*;simp only[List.length_append,List.length_map];split <;> split <;> simp <;> omega
theorem g17g {L : Nat → Option (Int ⊕ Unit)} {L' : Nat → Option (Int ⊕ Unit)} {n : Nat} {step : Nat → Option Int}
   (h:∀i,i < n→L i=match step i with | some e=>some (.inl e) | none=>L (i+1)) (he:L n=some (.inr ()))
   (h':∀i,i < n→L' i=match step i with | some e=>some (.inl e) | none=>L' (i+1)) (he':L' n=some (.inr ())):∃o,L 0=some o∧L' 0=some o∧((o= .inr ()∧∀i,i < n→step i=none)∨∃i e,i < n∧step i=some e∧o= .inl e):=by
 have key:∀k i,i+k=n→∃o,L i=some o∧L' i=some o∧((o= .inr ()∧∀m,i≤m→m < n→step m=none)∨∃m e,m < n∧step m=some e∧o= .inl e):=by
   intro k
   induction k with
   | zero => intro i hi; have : i = n := by omega
             subst this;exact⟨_,he,he',.inl ⟨rfl,fun m h1 h2=>by omega⟩⟩
   | succ k ih=>
     intro i hi;rw[h i (by omega),h' i (by omega)];cases hst:step i with
     | some e=>exact⟨_,rfl,rfl,.inr ⟨i,e,by omega,hst,rfl⟩⟩
     | none=>
       obtain⟨o,o1,o2,o3⟩:=ih (i+1) (by omega);refine⟨o,o1,o2,?_⟩;rcases o3 with⟨a,b⟩ | h
       · refine .inl ⟨a,fun m h1 h2=>?_⟩;rcases Nat.lt_or_ge i m with h | h
         · exact b m h h2
         · have:m=i:=by omega
           subst this;exact hst
       · exact .inr h
 obtain⟨o,o1,o2,o3⟩:=key n 0 (by omega);refine⟨o,o1,o2,?_⟩;rcases o3 with⟨a,b⟩ | h
 · exact .inl ⟨a,fun i hi=>b i (Nat.zero_le _) hi⟩
 · exact .inr h
theorem g11t{ts:List SType}{t:SType}(hu:(usesL t).any (outB ts.length)=false)(h8:t.Kind=8) :inR t.Key ts.length=true:=by
 have hm:t.Key∈usesL t:=by unfold usesL;simp[h8]
 rw[List.any_eq_false]at hu;have:=hu _ hm;unfold outB at this;unfold inR;simp only[Bool.and_eq_true,decide_eq_true_eq];by_cases h1:t.Key < 0
 · simp[h1]at this
 · simp[h1]at this;omega
theorem g17h (ts : List SType) (t : SType) (i : Nat) (hi : i < ts.length) (hr : ts.length < 9223372036854775807) :
   g24 ((i:Int),0,ts,t.Kind,t.Name,t.Low,t.High,t.Max,t.Symbols,t.Members,t.Key,t.Elem,t.Open)=some (if(g7q t.Kind && ((ts.map (·.Name)).take i).contains t.Name)=true then .inl 1 else .inr ((i:Int),ts,t.Kind,t.Name,t.Low,t.High,t.Max,t.Symbols,t.Members,t.Key,t.Elem,t.Open)):=by
 have hsc:=scan (fun k=>g24 ((i:Int),(k:Int),ts,t.Kind,t.Name,t.Low,t.High,t.Max,t.Symbols,t.Members,t.Key,t.Elem,t.Open)) i (fun k=>!(bif g7q t.Kind then decide ((ts.getD k dSType).Name=t.Name)else false)) (.inl 1) (.inr ((i:Int),ts,t.Kind,t.Name,t.Low,t.High,t.Max,t.Symbols,t.Members,t.Key,t.Elem,t.Open))
   (fun k hk=>by
     rw[g24,if_pos (by simp;omega),g14p];simp only[oZ4,oZ3];rw[if_pos (by rw[g6 (show k < ts.length by omega)];rfl),ge (by omega),g7]
     cases (bif g7q t.Kind then decide ((ts.getD k dSType).Name=t.Name)else false) <;> rfl)
   (by rw[g24,if_neg (by simp)])
 have e0:g24 ((i:Int),((0:Nat):Int),ts,t.Kind,t.Name,t.Low,t.High,t.Max,t.Symbols,t.Members,t.Key,t.Elem,t.Open)=g24 ((i:Int),0,ts,t.Kind,t.Name,t.Low,t.High,t.Max,t.Symbols,t.Members,t.Key,t.Elem,t.Open):=rfl;simp only[e0]at hsc;rcases hsc with⟨h1,h2⟩ | ⟨h1,j,h2,h3⟩
 · rw[h1,if_neg];rw[Bool.and_eq_true,g5j (by simp;omega)]
   rintro ⟨hn,k,hk,he⟩
   rw[g2k (·.Name) ts k dSType [] (by omega)]at he;have:=h2 k hk;rw[hn,he]at this;simp at this
 · rw[h1,if_pos];rw[Bool.and_eq_true,g5j (by simp;omega)];cases hn:g7q t.Kind with
   | false=>rw[hn]at h3;cases h3
   | true=>
     refine⟨rfl,j,h2,?_⟩;rw[g2k (·.Name) ts j dSType [] (by omega)];rw[hn]at h3
     simpa using h3
theorem g17i (ts : List SType) (t : SType) (i : Nat) (l : List Int) (hl : l.length < 9223372036854775807) :
   g37 ((i:Int),l,0,ts,t.Kind,t.Name,t.Low,t.High,t.Max,t.Symbols,t.Members,t.Key,t.Elem,t.Open)=some (if l.any (outB ts.length)=true then .inl 4 else .inr ((i:Int),ts,t.Kind,t.Name,t.Low,t.High,t.Max,t.Symbols,t.Members,t.Key,t.Elem,t.Open)):=
 guh (fun j=>g37 ((i:Int),l,(j:Int),ts,t.Kind,t.Name,t.Low,t.High,t.Max,t.Symbols,t.Members,t.Key,t.Elem,t.Open)) l (outB ts.length) (.inl 4) (.inr ((i:Int),ts,t.Kind,t.Name,t.Low,t.High,t.Max,t.Symbols,t.Members,t.Key,t.Elem,t.Open))
   (fun j hj=>by
     rw[g37,if_pos (by simp;omega),if_pos (g6 hj)];simp only[oZ4,oZ3];rw[if_pos (by rw[g6 hj];rfl),ge (by omega)]
     rfl)
   (by rw[g37,if_neg (by simp)])
theorem gpr{s:SSchema}(hs:s.Types.length≤reachBytes)(ht:∀t,t∈s.Types→OkT t) :∃e,g8r s=some e∧g53 s=some e∧(e=0→s.Types.length≤32∧∀i,i < s.Types.length→stepV s.Types i=none)∧((s.Types.length≤32∧∀i,i < s.Types.length→stepV s.Types i=none)→e=0):=by
 rw[g8r,g53];by_cases h32:32 < s.Types.length
 · exact⟨3,by rw[if_pos (by simp;omega)],by rw[if_pos (by simp;omega)],fun h=>(by cases h),fun h=>absurd h.1 (by omega)⟩
 · rw[if_neg (by simp;omega),if_neg (by simp;omega)];have hr:s.Types.length < 9223372036854775807:=by omega
   have:=g17g (L:=fun i=>g55 (s.Types,(s.Types.length:Int),(i:Int),s.Types,setOf ((s.Types.map (·.Name)).take i))) (L':=fun i=>g32 ((i:Int),s.Types)) (n:=s.Types.length) (step:=stepV s.Types)
     (fun i hi=>by
       have hok:=ht _ (g8 hi dSType);obtain⟨r,f1,f2,f3⟩:=glq hok;rw[g55,if_pos (by simp;omega),if_pos (g6 hi)];simp only[oZ4,oZ3,g7];generalize hT:s.Types.getD i dSType=t at*;rw[gjb hT f1,f1];simp only[oZ3,gpl];cases r with
       | false=>rw[if_pos (show(bif (!false)then true else bif (!(decide (t.Name=[])))then((s.Types.map (·.Name)).take i).contains t.Name else false)=true from rfl),if_pos (show(!false)=true from rfl)]
       | true=>
         rw[if_neg (show ¬((!true)=true) by simp)];by_cases hd:(!(decide (t.Name=[])) && ((s.Types.map (·.Name)).take i).contains t.Name)=true
         · have hd':(bif (!(decide (t.Name=[])))then((s.Types.map (·.Name)).take i).contains t.Name else false)=true:=by
             simp only[Bool.and_eq_true]at hd;rw[hd.1,hd.2];rfl
           rw[if_pos (show(bif (!true)then true else bif (!(decide (t.Name=[])))then((s.Types.map (·.Name)).take i).contains t.Name else false)=true from hd'),if_pos hd]
         · have hd':¬((bif (!(decide (t.Name=[])))then((s.Types.map (·.Name)).take i).contains t.Name else false)=true):=by
             intro hc;apply hd;cases h1:(!(decide (t.Name=[])))with
             | true=>rw[h1]at hc;simpa using hc
             | false=>rw[h1]at hc;cases hc
           rw[if_neg (show ¬((bif (!true)then true else bif (!(decide (t.Name=[])))then((s.Types.map (·.Name)).take i).contains t.Name else false)=true)from hd'),if_neg hd,g14n hok.mems];simp only[oZ3];have hul:=grm hok.mems
           have hin:=guh (fun j=>g41 (s.Types,(s.Types.length:Int),(i:Int),usesL t,((usesL t).length:Int),(j:Int),s.Types,addS (setOf ((s.Types.map (·.Name)).take i)) t.Name,t.Kind,t.Name,t.Low,t.High,t.Max,t.Symbols,t.Members,t.Key,t.Elem,t.Open)) (usesL t) (outB s.Types.length) (.inl 4)
             (.inr (s.Types,(s.Types.length:Int),(i:Int),s.Types,addS (setOf ((s.Types.map (·.Name)).take i)) t.Name,t.Kind,t.Name,t.Low,t.High,t.Max,t.Symbols,t.Members,t.Key,t.Elem,t.Open))
             (fun j hj=>by
               rw[g41,if_pos (by simp;omega),if_pos (g6 hj),ge (by omega)]
               rfl)
             (by rw[g41,if_neg (by simp)])
           have e0:g41 (s.Types,(s.Types.length:Int),(i:Int),usesL t,((usesL t).length:Int),((0:Nat):Int),s.Types,addS (setOf ((s.Types.map (·.Name)).take i)) t.Name,t.Kind,t.Name,t.Low,t.High,t.Max,t.Symbols,t.Members,t.Key,t.Elem,t.Open)=g41 (s.Types,(s.Types.length:Int),(i:Int),usesL t,((usesL t).length:Int),0,s.Types,addS (setOf ((s.Types.map (·.Name)).take i)) t.Name,t.Kind,t.Name,t.Low,t.High,t.Max,t.Symbols,t.Members,t.Key,t.Elem,t.Open):=rfl
           rw[←e0,hin];cases hu:(usesL t).any (outB s.Types.length)with
           | true=>rfl
           | false=>
             simp only[Bool.false_eq_true,if_false,oZ3];have hsucc:addS (setOf ((s.Types.map (·.Name)).take i)) t.Name=setOf ((s.Types.map (·.Name)).take (i+1)):=by
               have h1:=gpm (l:=s.Types.map (·.Name)) (i:=i) (by simpa using hi);rw[g2k (·.Name) s.Types i dSType [] hi,hT]at h1;exact h1
             rw[hsucc,ge (by omega)];by_cases h8:t.Kind=8
             · have hk:=g11t hu h8;rw[if_pos (by rw[hk];rfl),if_pos (by rw[hk];rfl)];simp only[h8,decide_true,cond_true,Bool.true_and,keyB];generalize (s.Types.getD t.Key.toNat dSType).Kind=k;by_cases q1:k < 1
               · rw[if_pos (by simp[q1]),if_pos (by simp;omega)]
               · by_cases q2:4 < k
                 · rw[if_pos (by simp[q1,q2]),if_pos (by simp;omega)]
                 · rw[if_neg (by simp[q1,q2]),if_neg (by simp;omega)]
             · have e8:decide (t.Kind=8)=false:=by simp[h8]
               simp only[e8,Bool.not_false,Bool.or_true,if_true,Bool.false_and,cond_false,Bool.false_eq_true,if_false])
     (by rw[g55,if_neg (by simp)])
     (fun i hi=>by
       have hok:=ht _ (g8 hi dSType);obtain⟨r,f1,f2,f3⟩:=glq hok;rw[g32,if_pos (by simp;omega),if_pos (g6 hi)];simp only[oZ4,oZ3,g7];generalize hT:s.Types.getD i dSType=t at*;rw[gjb hT f1,f2,g17h s.Types t i hi hr];simp only[oZ3];cases r with
       | false=>rfl
       | true=>
         obtain⟨k1,k2,k3⟩:=f3 rfl;rw[if_neg (show ¬((!true)=true) by simp),if_neg (show ¬((!true)=true) by simp),k3];cases hd:(!(decide (t.Name=[])) && ((s.Types.map (·.Name)).take i).contains t.Name)with
         | true=>rfl
         | false=>
           simp only[Bool.false_eq_true,if_false,gfq];rw[g14o hok.mems k2];simp only[oZ3];rw[g17i s.Types t i (usesL t) (grm hok.mems)];cases hu:(usesL t).any (outB s.Types.length)with
           | true=>rfl
           | false=>
             simp only[Bool.false_eq_true,if_false,oZ3];rw[ge (by omega)];by_cases h8:t.Kind=8
             · have hk:=g11t hu h8;rw[if_pos (by rw[hk];rfl)];simp only[h8,decide_true,if_true,g6c,oZ3,cond_true,Bool.true_and];show(if(!(keyB (s.Types.getD t.Key.toNat dSType).Kind))=true then some (.inl 1)else g32 (((i+1:Nat):Int),s.Types))=_;cases keyB (s.Types.getD t.Key.toNat dSType).Kind <;> rfl
             · have e8:decide (t.Kind=8)=false:=by simp[h8]
               rw[e8]
               simp only[Bool.not_false,Bool.or_true,if_true,Bool.false_and,cond_false,Bool.false_eq_true,if_false,oZ3])
     (by rw[g32,if_neg (by simp)])
   obtain⟨o,h1,h2,h3⟩:=this;have h1':g55 (s.Types,(s.Types.length:Int),0,s.Types,[])=some o:=h1;have h2':g32 (0,s.Types)=some o:=h2;rw[h1',h2'];rcases h3 with⟨rfl,h4⟩ | ⟨i,e,h4,h5,rfl⟩
   · exact⟨_,rfl,rfl,fun _=>⟨by omega,h4⟩,fun _=>rfl⟩
   · refine⟨_,rfl,rfl,fun h0=>?_,fun h=>by have:=h.2 i h4;rw[h5]at this;cases this⟩
     exfalso
     subst h0;unfold stepV at h5;simp only at h5;split at h5
     · cases h5
     · split at h5
       · cases h5
       · split at h5
         · cases h5
         · split at h5 <;> cases h5
theorem gz8{s:SSchema}(hs:s.Types.length≤reachBytes)(ht:∀t,t∈s.Types→OkT t) :∃e,g8r s=some e∧g53 s=some e∧(e=0→s.Types.length≤32∧∀i,i < s.Types.length→stepV s.Types i=none):=by
 obtain⟨e,h1,h2,h3,_⟩:=gpr hs ht;exact⟨e,h1,h2,h3⟩
theorem gz9{ts:List SType}(hT:∀t,t∈ts→OkT t)(hv:∀i,i < ts.length→stepV ts i=none) :∀t,t∈ts→1≤t.Kind∧t.Kind≤9:=by
 intro t ht;obtain⟨i,hi,he⟩:=List.getElem_of_mem ht;have hg:ts.getD i dSType=t:=by rw[g15 hi];exact he
 obtain⟨r,f1,_,f3⟩:=glq (hT t ht);have h:=hv i hi;rw[gjb hg f1]at h;cases r with
 | false=>rw[if_pos (show(!false)=true from rfl)]at h;cases h
 | true=>exact⟨(f3 rfl).1,(f3 rfl).2.1⟩
end
section
open Go Go.Proofs.YthnmepafpikaiaaGreat.Shv
set_option maxRecDepth 100000
theorem gbe {γ : Type} (L : Nat → Option γ) (n : Nat) (q : Nat → Bool) (hit : Nat → γ) (miss : γ) (hstep : ∀ i, i < n → L i = if q i = true then some (hit i) else L (i + 1)) (hend : L n = some miss) :
   (∃j,j < n∧q j=true∧(∀k,k < j→q k=false)∧L 0=some (hit j))∨((∀k,k < n→q k=false)∧L 0=some miss):=by
 have key:∀k i,i+k=n→(∀m,m < i→q m=false)→L 0=L i→(∃j,j < n∧q j=true∧(∀k,k < j→q k=false)∧L 0=some (hit j))∨((∀k,k < n→q k=false)∧L 0=some miss):=by
   intro k
   induction k with
   | zero => intro i hi hm h0; have : i = n := by omega
             subst this;exact .inr ⟨hm,by rw[h0,hend]⟩
   | succ k ih=>
     intro i hi hm h0;rw[hstep i (by omega)]at h0;cases hq:q i with
     | true=>rw[hq,if_pos rfl]at h0;exact .inl ⟨i,by omega,hq,hm,h0⟩
     | false=>
       rw[hq,if_neg (by simp)]at h0;refine ih (i+1) (by omega) (fun m hm'=>?_) h0;rcases Nat.lt_or_ge m i with h | h
       · exact hm m h
       · have:m=i:=by omega
         subst this;exact hq
 exact key n 0 (by omega) (fun m hm=>by omega) rfl
def gi9(l:List SMember)(id:Int)(r:Int × Bool) :Prop:=(∃j:Nat,j < l.length∧(l.getD j dSMember).ID=id∧(∀k,k < j→(l.getD k dSMember).ID≠id)∧r=((j:Int),true))∨((∀k,k < l.length→(l.getD k dSMember).ID≠id)∧r=(0,false))
theorem gw1{l:List SMember}{id:Int}{r q:Int × Bool}(h1:gi9 l id r)(h2:gi9 l id q) :r=q:=by
 rcases h1 with⟨j,a1,a2,a3,rfl⟩ | ⟨a1,rfl⟩ <;> rcases h2 with⟨k,b1,b2,b3,rfl⟩ | ⟨b1,rfl⟩
 · have:j=k:=by
     rcases Nat.lt_trichotomy j k with h | h | h
     · exact absurd a2 (b3 j h)
     · exact h
     · exact absurd b2 (a3 k h)
   rw[this]
 · exact absurd a2 (b1 j a1)
 · exact absurd b2 (a1 k b1)
 · rfl
theorem gql{t:SType}{id:Int}(hl:t.Members.length < 9223372036854775807) :∃r,g3c (t,id)=some r∧gi9 t.Members id r:=by
 rw[g3c,g4l];have h:=gbe (fun i=>gz (t.Members,(t.Members.length:Int),(i:Int),id)) t.Members.length (fun i=>decide ((t.Members.getD i dSMember).ID=id)) (fun i=>.inl ((i:Int),id)) (.inr id)
   (fun i hi=>by
     rw[gz,if_pos (by simp;omega),if_pos (g6 hi)];simp only[oZ4,oZ3,g7,g6m,gbu]
     rw[ge (by omega)])
   (by rw[gz,if_neg (by simp)])
 have e0:gz (t.Members,(t.Members.length:Int),((0:Nat):Int),id)=gz (t.Members,(t.Members.length:Int),0,id):=rfl;simp only[e0]at h;rcases h with⟨j,h1,h2,h3,h4⟩ | ⟨h1,h4⟩
 · rw[h4];refine⟨((j:Int),true),?_,.inl ⟨j,h1,by simpa using h2,fun k hk=>by simpa using h3 k hk,rfl⟩⟩;have e1:maxI (j:Int) 0=(j:Int):=by unfold maxI;omega
   have e2:decide ((0:Int)≤(j:Int))=true:=by simp
   simp only[oZ4,oZ3,e1,e2]
 · rw[h4];exact⟨(0,false),rfl,.inr ⟨fun k hk=>by simpa using h1 k hk,rfl⟩⟩
theorem gqm{t:SType}{id:Int}(hl:t.Members.length < 9223372036854775807) :∃r,g1a (t,id)=some r∧gi9 t.Members id r:=by
 rw[g1a];have h:=gbe (fun i=>g2u (id,(i:Int),t)) t.Members.length (fun i=>decide ((t.Members.getD i dSMember).ID=id)) (fun i=>.inl ((i:Int),true)) (.inr ())
   (fun i hi=>by
     rw[g2u,if_pos (by simp;omega),if_pos (g6 hi),ge (by omega)]
     simp only[g7])
   (by rw[g2u,if_neg (by simp)])
 have e0:g2u (id,((0:Nat):Int),t)=g2u (id,0,t):=rfl;simp only[e0]at h;rcases h with⟨j,h1,h2,h3,h4⟩ | ⟨h1,h4⟩
 · rw[h4];exact⟨((j:Int),true),rfl,.inl ⟨j,h1,by simpa using h2,fun k hk=>by simpa using h3 k hk,rfl⟩⟩
 · rw[h4];exact⟨(0,false),rfl,.inr ⟨fun k hk=>by simpa using h1 k hk,rfl⟩⟩
theorem g3x{t:SType}(id:Int)(hl:t.Members.length < 9223372036854775807) :∃r,g3c (t,id)=some r∧g1a (t,id)=some r∧gi9 t.Members id r:=by
 obtain⟨r,h1,h2⟩:=gql (id:=id) hl;obtain⟨q,h3,h4⟩:=gqm (id:=id) hl;have:=gw1 h2 h4;subst this;exact⟨r,h1,h3,h2⟩
def gia(l:List SSymbol)(id:Int)(r:Int × Bool) :Prop:=(∃j:Nat,j < l.length∧(l.getD j dSSymbol).ID=id∧(∀k,k < j→(l.getD k dSSymbol).ID≠id)∧r=((j:Int),true))∨((∀k,k < l.length→(l.getD k dSSymbol).ID≠id)∧r=(0,false))
theorem gw2{l:List SSymbol}{id:Int}{r q:Int × Bool}(h1:gia l id r)(h2:gia l id q) :r=q:=by
 rcases h1 with⟨j,a1,a2,a3,rfl⟩ | ⟨a1,rfl⟩ <;> rcases h2 with⟨k,b1,b2,b3,rfl⟩ | ⟨b1,rfl⟩
 · have:j=k:=by
     rcases Nat.lt_trichotomy j k with h | h | h
     · exact absurd a2 (b3 j h)
     · exact h
     · exact absurd b2 (a3 k h)
   rw[this]
 · exact absurd a2 (b1 j a1)
 · exact absurd b2 (a1 k b1)
 · rfl
theorem gaw{t:SType}(id:Int)(hl:t.Symbols.length < 9223372036854775807) :∃r,g9f (t,id)=some r∧g5t (t,id)=some r∧gia t.Symbols id r:=by
 rw[g9f,g4k,g5t];have h:=gbe (fun i=>gv (t.Symbols,(t.Symbols.length:Int),(i:Int),id)) t.Symbols.length (fun i=>decide ((t.Symbols.getD i dSSymbol).ID=id)) (fun i=>.inl ((i:Int),id)) (.inr id)
   (fun i hi=>by
     rw[gv,if_pos (by simp;omega),if_pos (g6 hi)];simp only[oZ4,oZ3,g7,gbs]
     rw[ge (by omega)])
   (by rw[gv,if_neg (by simp)])
 have e0:gv (t.Symbols,(t.Symbols.length:Int),((0:Nat):Int),id)=gv (t.Symbols,(t.Symbols.length:Int),0,id):=rfl;have g:=gbe (fun i=>g2e (id,(i:Int),t)) t.Symbols.length (fun i=>decide ((t.Symbols.getD i dSSymbol).ID=id)) (fun i=>.inl ((i:Int),true)) (.inr ())
   (fun i hi=>by
     rw[g2e,if_pos (by simp;omega),if_pos (g6 hi),ge (by omega)]
     simp only[g7])
   (by rw[g2e,if_neg (by simp)])
 have g0:g2e (id,((0:Nat):Int),t)=g2e (id,0,t):=rfl;simp only[e0]at h;simp only[g0]at g;have hA:∃r,(gv (t.Symbols,(t.Symbols.length:Int),0,id) >>=fun o=>match o with | .inl o_1=>some (o_1.1,o_1.2) | .inr o_2=>some ((-1),o_2)) >>=(fun r=>some (maxI r.1 0,decide (0≤r.1)))=some r∧gia t.Symbols id r:=by
   rcases h with⟨j,h1,h2,h3,h4⟩ | ⟨h1,h4⟩
   · rw[h4];refine⟨((j:Int),true),?_,.inl ⟨j,h1,by simpa using h2,fun k hk=>by simpa using h3 k hk,rfl⟩⟩;have e1:maxI (j:Int) 0=(j:Int):=by unfold maxI;omega
     have e2:decide ((0:Int)≤(j:Int))=true:=by simp
     simp only[oZ4,oZ3,e1,e2]
   · rw[h4];exact⟨(0,false),rfl,.inr ⟨fun k hk=>by simpa using h1 k hk,rfl⟩⟩
 have hB:∃r,(g2e (id,0,t) >>=fun o=>match o with | .inl o_1=>some (o_1.1,o_1.2) | .inr o_2=>some (0,false))=some r∧gia t.Symbols id r:=by
   rcases g with⟨j,h1,h2,h3,h4⟩ | ⟨h1,h4⟩
   · rw[h4];exact⟨((j:Int),true),rfl,.inl ⟨j,h1,by simpa using h2,fun k hk=>by simpa using h3 k hk,rfl⟩⟩
   · rw[h4];exact⟨(0,false),rfl,.inr ⟨fun k hk=>by simpa using h1 k hk,rfl⟩⟩
 obtain⟨r,a1,a2⟩:=hA;obtain⟨q,b1,b2⟩:=hB;have:=gw2 a2 b2;subst this;exact⟨r,a1,b1,a2⟩
end
section
open Go Go.Proofs.YthnmepafpikaiaaGreat.Shv
set_option maxRecDepth 100000
def zig(n:Int) :Int:=if 0≤n then 2*n else -2*n - 1
theorem gqn{a b:Int}(h:zig a=zig b) :a=b:=by
 unfold zig at h;split at h <;> split at h <;> omega
def I64(n:Int) :Prop:= -9223372036854775808≤n∧n≤9223372036854775807
theorem gfr{n:Int}(h:I64 n) :g5u n=some (zig n):=by
 obtain⟨h1,h2⟩:=h;rw[g5u];unfold zig;by_cases h0:0≤n
 · rw[if_pos (by simp[h0]),if_pos h0];obtain⟨k,rfl⟩:∃k:Nat,n=(k:Int):=⟨n.toNat,by omega⟩
   rw[wrpn (by omega)];have:=mulIn (a:=2) (b:=k) (by omega)
   congr 1
   try omega
 · rw[if_neg (by simp[h0]),if_neg h0];rw[g7n (by omega) (by omega),g5c (by omega) (by omega)];obtain⟨k,hk⟩:∃k:Nat,0 - (n+1)=(k:Int):=⟨(0 - (n+1)).toNat,by omega⟩
   rw[hk,wrpn (by omega)];have h3:=mulIn (a:=2) (b:=k) (by omega);have h3':mulI .u64 2 (k:Int)=((2*k:Nat):Int):=h3;rw[h3'];have h4:=addIn (a:=2*k) (b:=1) (by omega);have h4':addI .u64 ((2*k:Nat):Int) 1=((2*k+1:Nat):Int):=h4;rw[h4']
   congr 1
   omega
theorem g13j(a:Nat)(h:a < 18446744073709551616) :xorI .u64 (a:Int) 0=(a:Int):=by
 have e:(BitVec.ofInt 64 (a:Int) ^^^ BitVec.ofInt 64 (0:Int)).toNat=a:=by
   have:BitVec.ofInt 64 (0:Int)=BitVec.ofNat 64 0:=by decide
   rw[this,BitVec.ofInt_natCast,BitVec.toNat_xor,BitVec.toNat_ofNat,BitVec.toNat_ofNat,two64,Nat.mod_eq_of_lt h];simp
 show IntKind.u64.wrap (((BitVec.ofInt 64 (a:Int) ^^^ BitVec.ofInt 64 (0:Int)).toNat:Nat):Int)=_;rw[e];exact wrapu (by omega) (by omega)
theorem g13k(a:Nat)(h:a < 18446744073709551616) :xorI .u64 (a:Int) 18446744073709551615=((18446744073709551615 - a:Nat):Int):=by
 have e:(BitVec.ofInt 64 (a:Int) ^^^ BitVec.ofInt 64 (18446744073709551615:Int)).toNat=18446744073709551615 - a:=by
   have h1:BitVec.ofInt 64 (18446744073709551615:Int)=BitVec.allOnes 64:=by decide
   rw[h1,BitVec.ofInt_natCast,BitVec.xor_allOnes,BitVec.toNat_not,BitVec.toNat_ofNat,two64,Nat.mod_eq_of_lt h]
 all_goals (try omega)
 show IntKind.u64.wrap (((BitVec.ofInt 64 (a:Int) ^^^ BitVec.ofInt 64 (18446744073709551615:Int)).toNat:Nat):Int)=_;rw[e];exact wrapu (by omega) (by omega)
theorem shr63{n:Int}(h:I64 n) :shrI .i64 n 63=if 0≤n then 0 else -1:=by
 obtain⟨h1,h2⟩:=h;unfold shrI;have e:((2:Int) ^ min (63:Int).toNat IntKind.i64.bits)=9223372036854775808:=by decide
 rw[e,Int.fdiv_eq_ediv_of_nonneg _ (by omega)];split <;> omega
theorem glr{n:Int}(h:I64 n) :g7x n=some (zig n):=by
 rw[g7x,shr63 h];obtain⟨h1,h2⟩:=h;unfold zig;have hs:∀m:Int,shlI .u64 m 1=IntKind.u64.wrap (m*2):=by
   intro m;unfold shlI;have e:((2:Int) ^ min (1:Int).toNat IntKind.u64.bits)=2:=by decide
   rw[e]
 rw[hs]
 congr 1
 by_cases h0:0≤n
 · rw[if_pos h0,if_pos h0];obtain⟨k,rfl⟩:∃k:Nat,n=(k:Int):=⟨n.toNat,by omega⟩
   rw[wrpn (by omega),wrapu (by omega) (by omega)];have:wrp .u64 0=0:=by decide
   rw[this];have:=g13j (2*k) (by omega);have e:((k:Int)*2)=((2*k:Nat):Int):=by omega
   rw[e,this];omega
 · rw[if_neg h0,if_neg h0];have:wrp .u64 (-1)=18446744073709551615:=by decide
   rw[this];obtain⟨k,hk⟩:∃k:Nat,n+9223372036854775808=(k:Int):=⟨(n+9223372036854775808).toNat,by omega⟩
   have e:IntKind.u64.wrap (wrp .u64 n*2)=((2*k:Nat):Int):=by
     unfold wrp;rw[IntKind.wrap_u64,IntKind.wrap_u64];omega
   rw[e,g13k _ (by omega)];omega
theorem cmp1(a b:Int) :gcu (a,b)=some (if a < b then -1 else if b < a then 1 else 0):=by
 rw[gcu];simp only[ggf,oZ4,oZ3,decide_true,Bool.not_true,Bool.false_eq_true,if_false];by_cases h1:a < b <;> by_cases h2:b < a <;> simp[h1,h2]
theorem cmp2(a b:Int) :g9h (a,b)=some (if a < b then -1 else if b < a then 1 else 0):=by
 rw[g9h];simp only[gcv,oZ4,oZ3,decide_true,Bool.not_true,Bool.false_eq_true,if_false];by_cases h1:a < b <;> by_cases h2:b < a <;> simp[h1,h2]
theorem cmp3(a b:List UInt8) :gb2 (a,b)=some (if Op.bytesLess a b=true then -1 else if(Op.bytesLess a b || decide (a=b))=true then 0 else 1):=by
 rw[gb2];simp only[gcw,oZ4,oZ3,decide_true,Bool.not_true,Bool.false_eq_true,if_false];cases Op.bytesLess a b with
 | true=>rfl
 | false=>cases decide (a=b) <;> rfl
theorem or2(a b:Int) :gpa [a,b]=some (if a≠0 then a else b):=by
 rw[gpa];have h0:g7c (0,[a,b],((2:Nat):Int),((0:Nat):Int))=if a≠0 then some (.inl a)else(if b≠0 then some (.inl b)else some (.inr 0)):=by
   rw[g7c,if_pos (by decide),if_pos (show inR ((0:Nat):Int) ([a,b]:List Int).length=true from g6 (k:=0) (n:=2) (by omega))];simp only[oZ4,oZ3,g7,List.getD_cons_zero];by_cases ha:a=0
   · rw[if_neg (by simp[ha]),if_neg (by simp[ha])];have e1:addI .i64 ((0:Nat):Int) 1=((1:Nat):Int):=ge (by omega);rw[e1,g7c,if_pos (by decide),if_pos (show inR ((1:Nat):Int) ([a,b]:List Int).length=true from g6 (k:=1) (n:=2) (by omega))];simp only[oZ4,oZ3,g7,List.getD_cons_succ,List.getD_cons_zero];by_cases hb:b=0
     · rw[if_neg (by simp[hb]),if_neg (by simp[hb])];have e2:addI .i64 ((1:Nat):Int) 1=((2:Nat):Int):=ge (by omega);rw[e2,g7c,if_neg (by decide)]
     · rw[if_pos (by simp[hb]),if_pos hb]
   · rw[if_pos (by simp[ha]),if_pos ha]
 have h1:g7c (0,[a,b],(([a,b]:List Int).length:Int),0)=g7c (0,[a,b],((2:Nat):Int),((0:Nat):Int)):=rfl;rw[h1,h0];by_cases ha:a=0
 · by_cases hb:b=0 <;> simp[ha,hb]
 · simp[ha]
theorem gjr :∀a:List UInt8,Op.bytesLess a a=false
 | []=>rfl
 | x::r=>by
   simp[Op.bytesLess,gjr r]
theorem gfs{a b:SValue}(ha:I64 a.Int_)(hb:I64 b.Int_) :∃r,g67 (a,b)=some r∧g3k (a,b)=some r:=by
 rw[g67,g3k];by_cases hk:a.Kind=b.Kind
 · rw[if_neg (show ¬((!(decide (a.Kind=b.Kind)))=true) by simp[hk]),if_neg (show ¬((!(decide (a.Kind=b.Kind)))=true) by simp[hk])];by_cases k1:a.Kind=1
   · rw[if_pos (show decide (a.Kind=1)=true by simp[k1]),if_pos (show decide (a.Kind=1)=true by simp[k1])];simp only[g21];cases eqB a.Bool_ b.Bool_ <;> cases b.Bool_ <;> exact⟨_,rfl,rfl⟩
   · rw[if_neg (show ¬(decide (a.Kind=1)=true) by simp[k1]),if_neg (show ¬(decide (a.Kind=1)=true) by simp[k1])];by_cases k2:a.Kind=2
     · rw[if_pos (show decide (a.Kind=2)=true by simp[k2]),if_pos (show decide (a.Kind=2)=true by simp[k2]),glr ha,glr hb,gfr ha,gfr hb];simp only[oZ4,oZ3,cmp1,g21];by_cases he:a.Int_=b.Int_
       · rw[he];exact⟨0,by simp,by simp⟩
       · have hne:zig a.Int_≠zig b.Int_:=fun h=>he (gqn h)
         rcases Int.lt_or_gt_of_ne hne with h | h
         · exact⟨-1,by simp[h],by simp[h,he]⟩
         · have:¬zig a.Int_ < zig b.Int_:=by omega
           exact⟨1,by simp[h,this],by simp[h,he,this]⟩
     · rw[if_neg (show ¬(decide (a.Kind=2)=true) by simp[k2]),if_neg (show ¬(decide (a.Kind=2)=true) by simp[k2])];by_cases k3:a.Kind=3
       · rw[if_pos (show decide (a.Kind=3)=true by simp[k3]),if_pos (show decide (a.Kind=3)=true by simp[k3])];simp only[oZ4,oZ3,cmp2,cmp3,or2,g21];by_cases hl:a.Str.length=b.Str.length
         · have hq:¬((!(decide ((a.Str.length:Int)=(b.Str.length:Int))))=true):=by simp;omega
           rw[if_neg hq,hl];have e1:¬((b.Str.length:Int) < (b.Str.length:Int)):=by omega
           simp only[e1,if_false,ne_eq,not_true_eq_false];by_cases he:a.Str=b.Str
           · rw[he,gjr];exact⟨0,by simp,by simp⟩
           · cases hb:Op.bytesLess a.Str b.Str with
             | true=>exact⟨-1,by simp,by simp[he]⟩
             | false=>exact⟨1,by simp[he],by simp[he]⟩
         · have hq:(!(decide ((a.Str.length:Int)=(b.Str.length:Int))))=true:=by simp;omega
           rw[if_pos hq];by_cases h:a.Str.length < b.Str.length
           · have e1:(a.Str.length:Int) < (b.Str.length:Int):=by omega
             exact⟨-1,by simp[e1],by simp[e1]⟩
           · have e1:¬((a.Str.length:Int) < (b.Str.length:Int)):=by omega
             have e2:(b.Str.length:Int) < (a.Str.length:Int):=by omega
             exact⟨1,by simp[e1,e2],by simp[e1]⟩
       · rw[if_neg (show ¬(decide (a.Kind=3)=true) by simp[k3]),if_neg (show ¬(decide (a.Kind=3)=true) by simp[k3])];by_cases k4:a.Kind=4
         · rw[if_pos (show decide (a.Kind=4)=true by simp[k4]),if_pos (show decide (a.Kind=4)=true by simp[k4])];simp only[oZ4,oZ3,cmp2,g21];by_cases he:a.ID=b.ID
           · rw[he];exact⟨0,by simp,by simp⟩
           · rcases Int.lt_or_gt_of_ne he with h | h
             · exact⟨-1,by simp[h],by simp[h,he]⟩
             · have:¬a.ID < b.ID:=by omega
               exact⟨1,by simp[h,this],by simp[h,he,this]⟩
         · rw[if_neg (show ¬(decide (a.Kind=4)=true) by simp[k4]),if_neg (show ¬(decide (a.Kind=4)=true) by simp[k4])];exact⟨0,rfl,rfl⟩
 · rw[if_pos (show(!(decide (a.Kind=b.Kind)))=true by simp[hk]),if_pos (show(!(decide (a.Kind=b.Kind)))=true by simp[hk])];exact⟨0,rfl,rfl⟩
end
section
open Go Go.Proofs.YthnmepafpikaiaaGreat.Shv
set_option maxRecDepth 100000
def Both(o1 o2:Option Bool) :Prop:=∃r,o1=some r∧o2=some r
theorem gls {γ δ : Type} (L : Nat → Option (Bool ⊕ γ)) (L' : Nat → Option (Bool ⊕ δ)) (n : Nat) (p : Nat → Bool) (g : γ) (g' : δ)
   (h:∀i,i < n→L i=if p i=true then L (i+1)else some (.inl false)) (he:L n=some (.inr g))
   (h':∀i,i < n→L' i=if p i=true then L' (i+1)else some (.inl false)) (he':L' n=some (.inr g')):
   (L 0=some (.inr g)∧L' 0=some (.inr g')∧∀j,j < n→p j=true)∨(L 0=some (.inl false)∧L' 0=some (.inl false)∧∃j,j < n∧p j=false):=by
 rcases scan L n p (.inl false) (.inr g) h he with⟨a1,a2⟩ | ⟨a1,j,a2,a3⟩ <;> rcases scan L' n p (.inl false) (.inr g') h' he' with⟨b1,b2⟩ | ⟨b1,k,b2,b3⟩
 · exact .inl ⟨a1,b1,a2⟩
 · have:=a2 k b2;rw[b3]at this;cases this
 · have:=b2 j a2;rw[a3]at this;cases this
 · exact .inr ⟨a1,b1,j,a2,a3⟩
def ga5(k:Int) :Prop:=1≤k∧k≤9
theorem gw3{v:SValue}(hk:ga5 v.Kind) :∃p,gbr v=some p∧g5m v=some p∧(p=true→v.Kind≠5→v.Kind≠6→v.Rest=[]):=by
 obtain⟨K,B,I,S,ID,Ks,Is,R⟩:=v;simp only at hk;rw[gbr,SValue.gr,g5m];have:K=1∨K=2∨K=3∨K=4∨K=5∨K=6∨K=7∨K=8∨K=9:=by unfold ga5 at hk;omega
 have eI:∀(x:Int),decide (x=x)=true:=fun x=>by simp
 rcases this with rfl | rfl | rfl | rfl | rfl | rfl | rfl | rfl | rfl
 all_goals
   refine⟨_,rfl,?_,?_⟩
   · simp[gdu,eqB]
     try (cases B <;> simp)
   · simp[gdu,eqB]
section
variable {ts:List SType} (hn:ts.length < 9223372036854775807) (hT:∀t,t∈ts→OkT t) (hK:∀t,t∈ts→ga5 t.Kind)
def Fit(ts:List SType)(x:SValue) :Prop:=∀t plain,Both (g4d ((⟨ts⟩:SSchema),t,x,plain)) (g1q ((⟨ts⟩:SSchema),t,x,plain))
theorem grn {l : List SValue} (hl : l.length ≤ reachBytes) (ih : ∀ x, x ∈ l → Fit ts x) (t : Int) (plain : Bool) :
   Both (g75 ((⟨ts⟩:SSchema),t,l,plain)) (g48 ((⟨ts⟩:SSchema),t,l,plain)):=by
 have hr:=g12 hl
 let p:Nat→Bool:=fun i=>(g4d ((⟨ts⟩:SSchema),t,l.getD i dSValue,plain)).getD false
 have hp:∀i,i < l.length→g4d ((⟨ts⟩:SSchema),t,l.getD i dSValue,plain)=some (p i)∧g1q ((⟨ts⟩:SSchema),t,l.getD i dSValue,plain)=some (p i):=by
   intro i hi;obtain⟨r,h1,h2⟩:=ih _ (g8 hi dSValue) t plain;simp only[p,h1,h2,Option.getD_some,and_self]
 have hf:=gbe (fun i=>g19 (l,(l.length:Int),(i:Int),ts,t,plain)) l.length (fun i=>!(p i)) (fun i=>.inl ((i:Int),ts,t,plain)) (.inr (ts,t,plain))
   (fun i hi=>by
     rw[g19,if_pos (by simp;omega),if_pos (g6 hi),gfb];simp only[SValue.gr,g7];rw[(hp i hi).1,ge (by omega)]
     rfl)
   (by rw[g19,if_neg (by simp)])
 have hs:=scan (fun i=>g1w (t,l,plain,(i:Int),ts)) l.length p (.inl false) (.inr ())
   (fun i hi=>by
     rw[g1w,if_pos (by simp;omega),if_pos (g6 hi)];simp only[SValue.gr,g7];rw[(hp i hi).2,ge (by omega)]
     cases p i <;> rfl)
   (by rw[g1w,if_neg (by simp)])
 have e1:g19 (l,(l.length:Int),((0:Nat):Int),ts,t,plain)=g19 (l,(l.length:Int),0,ts,t,plain):=rfl;have e2:g1w (t,l,plain,((0:Nat):Int),ts)=g1w (t,l,plain,0,ts):=rfl;simp only[e1]at hf;simp only[e2]at hs;rw[g75,g3i,g4y,g48];rcases hf with⟨j,a1,a2,a3,a4⟩ | ⟨a1,a4⟩ <;> rcases hs with⟨b1,b2⟩ | ⟨b1,k,b2,b3⟩
 · have:=b2 j a1;simp[this]at a2
 · rw[a4,b1];refine⟨false,?_,rfl⟩;have e:decide ((0:Int)≤(j:Int))=true:=by simp
   simp only[oZ4,oZ3,e,Bool.not_true]
 · rw[a4,b1];exact⟨true,rfl,rfl⟩
 · have:=a1 k b2;simp[b3]at this
def restP(t:SType)(l:List SRaw)(i:Nat) :Bool:=
 !((g3c (t,(l.getD i dSRaw).ID)).getD (0,false)).2 && (decide (1≤(l.getD i dSRaw).ID) && decide ((l.getD i dSRaw).ID≤1000)) && (decide (i=0) || decide ((l.getD (i - 1) dSRaw).ID < (l.getD i dSRaw).ID))
theorem g13l {γ : Type} (kn f Z : Bool) (sI : Int) (I1 C : Int → Bool) (X Y : Option γ) (hI1 : Z = true → I1 sI = true) :
   ((if(!kn)=true then some f else some false) >>=fun r_17=>some (bif kn then true else(!r_17)) >>=fun t131=>some Z >>=fun t134=>some sI >>=fun t141=>
     if(I1 t141 || (!((!t131) && t134)))=true then if(bif t131 then true else bif t134 then C t141 else false)=true then X else Y else none)=if(!kn && f && (!Z || !(C sI)))=true then Y else X:=by
 simp only[oZ4,oZ3];generalize C sI=c;cases Z with
 | true=>rw[hI1 rfl];cases kn <;> cases f <;> cases c <;> rfl
 | false=>generalize I1 sI=d;cases kn <;> cases f <;> cases d <;> cases c <;> rfl
theorem gn6 {γ : Type} (R3 I0 Z : Bool) (sI : Int) (I1 C : Int → Bool) (X Y : Option γ) (hI0 : I0 = true) (hI1 : Z = true → I1 sI = true) :
   (some R3 >>=fun r_3=>some (!r_3) >>=fun t31=>some Z >>=fun t34=>
     if(I0 || (!((!t31) && t34)))=true then some sI >>=fun t43=>if(I1 t43 || (!((!t31) && t34)))=true then if(bif t31 then true else bif t34 then C t43 else false)=true then X else Y else none else none)=if(R3 && (!Z || !(C sI)))=true then Y else X:=by
 subst hI0;simp only[oZ4,oZ3];generalize C sI=c;cases Z with
 | true=>rw[hI1 rfl];cases R3 <;> cases c <;> rfl
 | false=>generalize I1 sI=d;cases R3 <;> cases d <;> cases c <;> rfl
theorem g91{i:Nat}(h:0 < i)(h2:i < 9223372036854775807) :subI .i64 (i:Int) 1=((i - 1:Nat):Int):=by
 rw[g5c (by omega) (by omega)];omega
theorem rests {t : SType} (ht : t.Members.length < 9223372036854775807) (v : SValue) (hl : v.Rest.length ≤ reachBytes) (plain : Bool) (ts : List SType) :
   let inr:=(plain,ts,v.Kind,v.Bool_,v.Int_,v.Str,v.ID,v.Keys,v.Items,v.Rest,t.Kind,t.Name,t.Low,t.High,t.Max,t.Symbols,t.Members,t.Key,t.Elem,t.Open)
   ((g3o (plain,v.Rest,(v.Rest.length:Int),0,ts,v,t.Kind,t.Name,t.Low,t.High,t.Max,t.Symbols,t.Members,t.Key,t.Elem,t.Open)=some (.inr inr)∧g4v (t,v.Rest)=some true)∨
     (g3o (plain,v.Rest,(v.Rest.length:Int),0,ts,v,t.Kind,t.Name,t.Low,t.High,t.Max,t.Symbols,t.Members,t.Key,t.Elem,t.Open)=some (.inl false)∧g4v (t,v.Rest)=some false)):=by
 intro inr;have hr:=g12 hl;have hpe:∀i,i < v.Rest.length→∀r,g3c (t,(v.Rest.getD i dSRaw).ID)=some r→restP t v.Rest i=(!r.2 && (bif decide (1≤(v.Rest.getD i dSRaw).ID)then decide ((v.Rest.getD i dSRaw).ID≤1000)else false) && (!(decide ((0:Int) < (i:Int))) || !(decide ((v.Rest.getD i dSRaw).ID≤(v.Rest.getD (subI .i64 (i:Int) 1).toNat dSRaw).ID)))):=by
   intro i hi r hm;unfold restP;rw[hm,Option.getD_some];generalize (v.Rest.getD i dSRaw).ID=x;by_cases h0:i=0
   · subst h0;cases r.2 <;> by_cases h1:1≤x <;> by_cases h2:x≤1000 <;> simp[h1,h2]
   · have hz:decide ((0:Int) < (i:Int))=true:=by simp;omega
     rw[hz,g91 (by omega) (by omega),g7];generalize (v.Rest.getD (i - 1) dSRaw).ID=y;cases r.2 <;> by_cases h1:1≤x <;> by_cases h2:x≤1000 <;> by_cases h3:y < x <;> simp[h0,h1,h2,h3] <;> omega
 have h:=gls (fun i=>g3o (plain,v.Rest,(v.Rest.length:Int),(i:Int),ts,v,t.Kind,t.Name,t.Low,t.High,t.Max,t.Symbols,t.Members,t.Key,t.Elem,t.Open)) (fun i=>g1k (v.Rest,(i:Int),t)) v.Rest.length (restP t v.Rest) inr ()
   (fun i hi=>by
     obtain⟨r,h1,_,_⟩:=g3x (t:=t) (v.Rest.getD i dSRaw).ID ht;rw[g3o,if_pos (by simp;omega),if_pos (g6 hi),hpe i hi r h1];simp only[g7,gfq,SValue.gr,gbt,oZ4,oZ3];rw[h1,ge (by omega)]
     exact g13l r.2 (bif decide (1≤(v.Rest.getD i dSRaw).ID)then decide ((v.Rest.getD i dSRaw).ID≤1000)else false) (decide ((0:Int) < (i:Int))) (subI .i64 (i:Int) 1) (fun j=>inR j v.Rest.length) (fun j=>decide ((v.Rest.getD i dSRaw).ID≤(v.Rest.getD j.toNat dSRaw).ID)) _ _ (fun hz=>by
       have:0 < i:=by simp at hz;omega
       show inR _ _=true
       rw[g91 this (by omega)];exact g6 (by omega)))
   (by rw[g3o,if_neg (by simp)])
   (fun i hi=>by
     obtain⟨r,h1,h2,_⟩:=g3x (t:=t) (v.Rest.getD i dSRaw).ID ht;rw[g1k,if_pos (by simp;omega),if_pos (g6 hi),hpe i hi r h1];simp only[g7];rw[h2,ge (by omega)];have hid:g1i ((v.Rest.getD i dSRaw).ID,r.2)=some ((!r.2) && (bif decide (1≤(v.Rest.getD i dSRaw).ID)then decide ((v.Rest.getD i dSRaw).ID≤1000)else false)):=by
       rw[g1i];cases r.2 <;> cases decide (1≤(v.Rest.getD i dSRaw).ID) <;> rfl
     show(if inR (i:Int) v.Rest.length=true then g1i ((v.Rest.getD i dSRaw).ID,r.2) >>=_ else none)=_;rw[if_pos (g6 hi),hid]
     exact gn6 ((!r.2) && (bif decide (1≤(v.Rest.getD i dSRaw).ID)then decide ((v.Rest.getD i dSRaw).ID≤1000)else false)) (inR (i:Int) v.Rest.length) (decide ((0:Int) < (i:Int))) (subI .i64 (i:Int) 1) (fun j=>inR j v.Rest.length) (fun j=>decide ((v.Rest.getD i dSRaw).ID≤(v.Rest.getD j.toNat dSRaw).ID)) _ _ (g6 hi) (fun hz=>by
       have:0 < i:=by simp at hz;omega
       show inR _ _=true
       rw[g91 this (by omega)];exact g6 (by omega)))
   (by rw[g1k,if_neg (by simp)])
 have e1:g3o (plain,v.Rest,(v.Rest.length:Int),((0:Nat):Int),ts,v,t.Kind,t.Name,t.Low,t.High,t.Max,t.Symbols,t.Members,t.Key,t.Elem,t.Open)=g3o (plain,v.Rest,(v.Rest.length:Int),0,ts,v,t.Kind,t.Name,t.Low,t.High,t.Max,t.Symbols,t.Members,t.Key,t.Elem,t.Open):=rfl;have e2:g1k (v.Rest,((0:Nat):Int),t)=g1k (v.Rest,0,t):=rfl
 simp only[e1,e2]at h;rw[g4v];rcases h with⟨h1,h2,_⟩ | ⟨h1,h2,_⟩
 · exact .inl ⟨h1,by rw[h2];rfl⟩
 · exact .inr ⟨h1,by rw[h2];rfl⟩
end
end
section
open Go Go.Proofs.YthnmepafpikaiaaGreat.Shv
set_option maxRecDepth 100000
theorem gza {ts : List SType} {t : SType} {v : SValue} (hl : v.Items.length = t.Members.length) (hr : t.Members.length < 9223372036854775807) (ih : ∀ x, x ∈ v.Items → Fit ts x) (plain : Bool) :
   (g42 (plain,t.Members,(t.Members.length:Int),0,ts,v.Kind,v.Bool_,v.Int_,v.Str,v.ID,v.Keys,v.Items,v.Rest)=some (.inr ())∧g1c (plain,0,ts,v,t.Kind,t.Name,t.Low,t.High,t.Max,t.Symbols,t.Members,t.Key,t.Elem,t.Open)=some (.inr ()))∨
   (g42 (plain,t.Members,(t.Members.length:Int),0,ts,v.Kind,v.Bool_,v.Int_,v.Str,v.ID,v.Keys,v.Items,v.Rest)=some (.inl false)∧g1c (plain,0,ts,v,t.Kind,t.Name,t.Low,t.High,t.Max,t.Symbols,t.Members,t.Key,t.Elem,t.Open)=some (.inl false)):=by
 let p:Nat→Bool:=fun i=>(g4d ((⟨ts⟩:SSchema),(t.Members.getD i dSMember).Type_,v.Items.getD i dSValue,plain)).getD false
 have hp:∀i,i < t.Members.length→g4d ((⟨ts⟩:SSchema),(t.Members.getD i dSMember).Type_,v.Items.getD i dSValue,plain)=some (p i)∧g1q ((⟨ts⟩:SSchema),(t.Members.getD i dSMember).Type_,v.Items.getD i dSValue,plain)=some (p i):=by
   intro i hi;obtain⟨r,h1,h2⟩:=ih _ (g8 (by omega:i < v.Items.length) dSValue) (t.Members.getD i dSMember).Type_ plain;simp only[p,h1,h2,Option.getD_some,and_self]
 have h:=gls (fun i=>g42 (plain,t.Members,(t.Members.length:Int),(i:Int),ts,v.Kind,v.Bool_,v.Int_,v.Str,v.ID,v.Keys,v.Items,v.Rest)) (fun i=>g1c (plain,(i:Int),ts,v,t.Kind,t.Name,t.Low,t.High,t.Max,t.Symbols,t.Members,t.Key,t.Elem,t.Open)) t.Members.length p () ()
   (fun i hi=>by
     rw[g42,if_pos (by simp;omega),if_pos (g6 hi),if_pos (g6 (by omega))];simp only[g7,SValue.gr];rw[(hp i hi).1,ge (by omega)]
     cases p i <;> rfl)
   (by rw[g42,if_neg (by simp)])
   (fun i hi=>by
     rw[g1c,if_pos (by simp;omega),if_pos (g6 hi),if_pos (g6 (by omega))];simp only[g7,SValue.gr];rw[(hp i hi).2,ge (by omega)]
     cases p i <;> rfl)
   (by rw[g1c,if_neg (by simp;omega)])
 have e1:g42 (plain,t.Members,(t.Members.length:Int),((0:Nat):Int),ts,v.Kind,v.Bool_,v.Int_,v.Str,v.ID,v.Keys,v.Items,v.Rest)=g42 (plain,t.Members,(t.Members.length:Int),0,ts,v.Kind,v.Bool_,v.Int_,v.Str,v.ID,v.Keys,v.Items,v.Rest):=rfl
 have e2:g1c (plain,((0:Nat):Int),ts,v,t.Kind,t.Name,t.Low,t.High,t.Max,t.Symbols,t.Members,t.Key,t.Elem,t.Open)=g1c (plain,0,ts,v,t.Kind,t.Name,t.Low,t.High,t.Max,t.Symbols,t.Members,t.Key,t.Elem,t.Open):=rfl;simp only[e1,e2]at h;rcases h with⟨h1,h2,_⟩ | ⟨h1,h2,_⟩
 · exact .inl ⟨h1,h2⟩
 · exact .inr ⟨h1,h2⟩
theorem geg{v:SValue}(h:OkV v) :I64 v.Int_:=by cases h with | mk _ _ _ _ _ _ _ _ n1 n2=>exact n2
theorem g11u {ts : List SType} {t : SType} {v : SValue} (hr : v.Keys.length < 9223372036854775807) (hk : ∀ x, x ∈ v.Keys → OkV x) (plain : Bool) :
   let inr:=(plain,ts,v,t.Kind,t.Name,t.Low,t.High,t.Max,t.Symbols,t.Members,t.Key,t.Elem,t.Open)
   (g3d (plain,1,ts,v,t.Kind,t.Name,t.Low,t.High,t.Max,t.Symbols,t.Members,t.Key,t.Elem,t.Open)=some (.inr inr)∧g11 (1,v)=some (.inr ()))∨
   (g3d (plain,1,ts,v,t.Kind,t.Name,t.Low,t.High,t.Max,t.Symbols,t.Members,t.Key,t.Elem,t.Open)=some (.inl false)∧g11 (1,v)=some (.inl false)):=by
 intro inr;by_cases h0:v.Keys.length=0
 · left;refine⟨?_,?_⟩
   · rw[g3d,if_neg (by simp[h0]),SValue.gr]
   · rw[g11,if_neg (by simp[h0])]
 let c:Nat→Int:=fun i=>(g67 (v.Keys.getD i dSValue,v.Keys.getD (i+1) dSValue)).getD 0
 have hc:∀i,i+1 < v.Keys.length→g67 (v.Keys.getD i dSValue,v.Keys.getD (i+1) dSValue)=some (c i)∧g3k (v.Keys.getD i dSValue,v.Keys.getD (i+1) dSValue)=some (c i):=by
   intro i hi;obtain⟨r,h1,h2⟩:=gfs (geg (hk _ (g8 (by omega:i < v.Keys.length) dSValue))) (geg (hk _ (g8 hi dSValue)));simp only[c,h1,h2,Option.getD_some,and_self]
 have h:=gls (fun i=>g3d (plain,((i+1:Nat):Int),ts,v,t.Kind,t.Name,t.Low,t.High,t.Max,t.Symbols,t.Members,t.Key,t.Elem,t.Open)) (fun i=>g11 (((i+1:Nat):Int),v)) (v.Keys.length - 1) (fun i=>!(decide (0≤c i))) inr ()
   (fun i hi=>by
     have hs:=g91 (i:=i+1) (by omega) (by omega);have hs':subI .i64 ((i+1:Nat):Int) 1=(i:Int):=by rw[hs];simp
     rw[g3d,if_pos (by simp;omega)];simp only[oZ4,oZ3];rw[hs',if_pos (g6 (by omega)),if_pos (g6 (by omega))];simp only[g7,SValue.gr];rw[(hc i (by omega)).1,ge (by omega)];simp only[oZ3]
     cases decide (0≤c i) <;> rfl)
   (by
     have e:v.Keys.length - 1+1=v.Keys.length:=by omega
     rw[e,g3d,if_neg (by simp),SValue.gr])
   (fun i hi=>by
     have hs:=g91 (i:=i+1) (by omega) (by omega);have hs':subI .i64 ((i+1:Nat):Int) 1=(i:Int):=by rw[hs];simp
     rw[g11,if_pos (by simp;omega)];simp only[oZ4,oZ3];rw[hs',if_pos (g6 (by omega)),if_pos (g6 (by omega))];simp only[g7,SValue.gr];rw[(hc i (by omega)).2,ge (by omega)];simp only[oZ3]
     cases decide (0≤c i) <;> rfl)
   (by
     have e:v.Keys.length - 1+1=v.Keys.length:=by omega
     rw[e,g11,if_neg (by simp)])
 have e1:g3d (plain,((0+1:Nat):Int),ts,v,t.Kind,t.Name,t.Low,t.High,t.Max,t.Symbols,t.Members,t.Key,t.Elem,t.Open)=g3d (plain,1,ts,v,t.Kind,t.Name,t.Low,t.High,t.Max,t.Symbols,t.Members,t.Key,t.Elem,t.Open):=rfl;have e2:g11 (((0+1:Nat):Int),v)=g11 (1,v):=rfl;simp only[e1,e2]at h;rcases h with⟨h1,h2,_⟩ | ⟨h1,h2,_⟩
 · exact .inl ⟨h1,h2⟩
 · exact .inr ⟨h1,h2⟩
theorem gps{α β:Type}{a:List α}{b:List β}(h:decide ((a.length:Int)=(b.length:Int))=true) :a.length=b.length:=by
 have:=of_decide_eq_true h;omega
theorem k4e {o : Option (Int × Bool)} {r : Int × Bool} (ho : o = some r) (O plain f : Bool) :
   (o >>=fun r_1=>some (bif O then(!plain)else false) >>=fun t85=>(if((!r_1.2) && t85)=true then some f else some false) >>=fun r_4=>some (bif r_1.2 then true else bif t85 then r_4 else false))=some (r.2 || (O && !plain && f)):=by
 subst ho;obtain⟨k,kn⟩:=r;cases kn <;> cases O <;> cases plain <;> cases f <;> rfl
theorem k4r {o : Option (Int × Bool)} {r : Int × Bool} (ho : o = some r) (O plain f : Bool) (F : Bool → Option Bool) (hF : F false = some f) :
   (o >>=fun r_1=>some (bif O then(!plain)else false) >>=fun t85=>(if((!r_1.2) && t85)=true then F r_1.2 else some false) >>=fun r_4=>some (bif r_1.2 then true else bif t85 then r_4 else false))=some (r.2 || (O && !plain && f)):=by
 subst ho;obtain⟨k,kn⟩:=r;cases kn <;> cases O <;> cases plain <;> simp[hF]
theorem k7{o:Option Bool}{r:Bool}(ho:o=some r)(q:Bool) :(some q >>=fun t244=>(if t244=true then o else some false) >>=fun r_10=>some (bif t244 then r_10 else false))=some (q && r):=by
 subst ho;cases q <;> cases r <;> rfl
theorem k6k(c I1 I2 f:Bool){X:Option Bool}(hX:c=true→X=some f)(h1:c=true→I1=true∧I2=true) :(some c >>=fun t188=>if(I1 || (!t188))=true then if(I2 || (!t188))=true then(if t188=true then X else some false) >>=fun r_8=>some (bif t188 then r_8 else false)else none else none)=some (c && f):=by
 cases c with
 | true=>obtain⟨a,b⟩:=h1 rfl;subst a;subst b;rw[hX rfl];rfl
 | false=>cases I1 <;> cases I2 <;> rfl
theorem k5r (A b q m : Bool) {ro : Option Bool} (hr : ro = some q) {L : Option (Bool ⊕ Unit)} (hL : A = true → L = some (if m = true then .inr () else .inl false)) :
   (if(bif (bif false then true else(!true))then true else b)=true then some false else some (!A) >>=fun t107=>(if(!t107)=true then ro else some false) >>=fun r_5=>if(bif t107 then true else(!r_5))=true then some false else L >>=fun o=>match o with | .inl x=>some x | .inr _=>some true)=some (A && !b && q && m):=by
 subst hr;cases A with
 | false=>cases b <;> rfl
 | true=>
   rw[hL rfl];cases b <;> cases q <;> cases m <;> rfl
theorem k6u(g f c1 c2 I E:Bool)(h1:c2=true→I=true) :(some g >>=fun t209=>(if t209=true then some f else some false) >>=fun r_9=>some (bif bif bif t209 then r_9 else false then c1 else false then c2 else false) >>=fun t226=>if(I || (!t226))=true then some (bif t226 then E else false)else none)=some (g && f && c1 && c2 && E):=by
 cases c2 with
 | true=>have:=h1 rfl;subst this;cases g <;> cases f <;> cases c1 <;> cases E <;> rfl
 | false=>cases g <;> cases f <;> cases c1 <;> cases I <;> rfl
theorem k8r (c : Bool) {ok oi : Option Bool} {k i : Bool} (hk : ok = some k) (hi : oi = some i) {L : Option (Bool ⊕ Unit)} {q : Bool} (hL : L = some (if q = true then .inr () else .inl false)) :
   (some c >>=fun t239=>(if(!t239)=true then ok else some false) >>=fun r_12=>some (bif t239 then true else(!r_12)) >>=fun t249=>(if(!t249)=true then oi else some false) >>=fun r_13=>if(bif t249 then true else(!r_13))=true then some false else L >>=fun o_3=>match o_3 with | .inl o_4=>some o_4 | .inr _=>some true)=some (!c && k && q && i):=by
 subst hk;subst hi;subst hL;cases c <;> cases k <;> cases q <;> cases i <;> rfl
theorem gro{ts:List SType}(hn:ts.length < 9223372036854775807)(hT:∀t,t∈ts→OkT t)(hK:∀t,t∈ts→ga5 t.Kind){v:SValue}(hv:OkV v) :Fit ts v:=by
 induction hv with
 | mk v hs h1 h2 h3 hk hi hrd n1 n2 n3 n4 ihk ihi=>
   intro t plain;rw[g4d,g1q];by_cases hout:(bif decide (t < 0)then true else decide (((⟨ts⟩:SSchema).Types.length:Int)≤t))=true
   · rw[if_pos hout,if_pos hout];exact⟨false,rfl,rfl⟩
   · rw[if_neg hout,if_neg hout];have hin:0≤t∧t < ts.length:=by
       simp only[Bool.cond_eq_ite]at hout;by_cases h0:t < 0
       · simp[h0]at hout
       · simp[h0]at hout;omega
     obtain⟨j,rfl⟩:∃j:Nat,t=(j:Int):=⟨t.toNat,by omega⟩
     have hj:j < ts.length:=by omega
     rw[if_pos (g6 hj),if_pos (g6 hj)];simp only[g7,SValue.gr];have hxT:=hT _ (g8 hj dSType);have hxK:=hK _ (g8 hj dSType);generalize ts.getD j dSType=x at hxT hxK ⊢;have hm:=g12 (g3h hxT.mems);have hsy:=g12 (g3h hxT.syms);by_cases hkd:v.Kind=x.Kind
     · obtain⟨p,p1,p2,p3⟩:=gw3 (v:=v) (by rw[hkd];exact hxK);rw[p1,p2];cases p with
       | false=>exact⟨false,by simp[hkd],by simp[hkd]⟩
       | true=>
         have hitems:=grn (ts:=ts) h2 ihi;have hkeys:=grn (ts:=ts) h1 ihk;obtain⟨K,N,L,H,M,S,Ms,Ke,E,O⟩:=x;obtain⟨vK,B,I,Sx,ID,Ks,Is,R⟩:=v;simp only at hkd;subst hkd;have p3':=p3 rfl;simp only at p3' hxK hm hsy h1 h2 h3;have hc:vK=1∨vK=2∨vK=3∨vK=4∨vK=5∨vK=6∨vK=7∨vK=8∨vK=9:=by unfold ga5 at hxK;omega
         rcases hc with rfl | rfl | rfl | rfl | rfl | rfl | rfl | rfl | rfl
         · obtain rfl:R=[]:=p3' (by decide) (by decide);cases plain <;> exact⟨true,rfl,rfl⟩
         · obtain rfl:R=[]:=p3' (by decide) (by decide);cases plain <;> exact⟨_,rfl,rfl⟩
         · obtain rfl:R=[]:=p3' (by decide) (by decide);cases plain <;> exact⟨_,rfl,rfl⟩
         · obtain rfl:R=[]:=p3' (by decide) (by decide);obtain⟨r,r1,r2,_⟩:=gaw (t:=⟨4,N,L,H,M,S,Ms,Ke,E,O⟩) ID hsy;have hf:g1i (ID,false)=some (bif decide (1≤ID)then decide (ID≤1000)else false):=by
             rw[g1i];cases decide (1≤ID) <;> rfl
           cases plain
           · exact⟨_,k4e r1 O false _,k4r r2 O false _ (fun b=>g1i (ID,b)) hf⟩
           · exact⟨_,k4e r1 O true _,k4r r2 O true _ (fun b=>g1i (ID,b)) hf⟩
         ·
           have hrs:=rests (t:=⟨5,N,L,H,M,S,Ms,Ke,E,O⟩) hm ⟨5,B,I,Sx,ID,Ks,Is,R⟩ h3 plain ts;have hps:decide ((Is.length:Int)=(Ms.length:Int))=true→_:=fun hA=>gza (ts:=ts) (t:=⟨5,N,L,H,M,S,Ms,Ke,E,O⟩) (v:=⟨5,B,I,Sx,ID,Ks,Is,R⟩) (gps hA) hm ihi plain
           have hq:∃q:Bool,g3o (plain,R,(R.length:Int),0,ts,⟨5,B,I,Sx,ID,Ks,Is,R⟩,5,N,L,H,M,S,Ms,Ke,E,O)=some (if q=true then .inr (plain,ts,5,B,I,Sx,ID,Ks,Is,R,5,N,L,H,M,S,Ms,Ke,E,O)else .inl false)∧g4v (⟨5,N,L,H,M,S,Ms,Ke,E,O⟩,R)=some q:=by
             rcases hrs with⟨a,b⟩ | ⟨a,b⟩
             · exact⟨true,a,b⟩
             · exact⟨false,a,b⟩
           obtain⟨q,q1,q2⟩:=hq;have hmm:∃m:Bool,decide ((Is.length:Int)=(Ms.length:Int))=true→(g42 (plain,Ms,(Ms.length:Int),0,ts,5,B,I,Sx,ID,Ks,Is,R)=some (if m=true then .inr ()else .inl false)∧g1c (plain,0,ts,⟨5,B,I,Sx,ID,Ks,Is,R⟩,5,N,L,H,M,S,Ms,Ke,E,O)=some (if m=true then .inr ()else .inl false)):=by
             cases hA:decide ((Is.length:Int)=(Ms.length:Int))with
             | false=>exact⟨true,fun h=>by cases h⟩
             | true=>
               rcases hps hA with⟨a,b⟩ | ⟨a,b⟩
               · exact⟨true,fun _=>⟨a,b⟩⟩
               · exact⟨false,fun _=>⟨a,b⟩⟩
           obtain⟨m,hm'⟩:=hmm;refine⟨(decide ((Is.length:Int)=(Ms.length:Int))) && !(bif plain then decide (0 < (R.length:Int))else false) && q && m,?_,?_⟩
           · show(if(bif (!(decide ((Is.length:Int)=(Ms.length:Int))))then true else bif plain then decide (0 < (R.length:Int))else false)=true then some false else g3o (plain,R,(R.length:Int),0,ts,⟨5,B,I,Sx,ID,Ks,Is,R⟩,5,N,L,H,M,S,Ms,Ke,E,O) >>=_)=_;rw[q1];cases hA:decide ((Is.length:Int)=(Ms.length:Int))with
             | false=>rfl
             | true=>
               cases (bif plain then decide (0 < (R.length:Int))else false)with
               | true=>rfl
               | false=>
                 cases q with
                 | false=>rfl
                 | true=>
                   show(g42 (plain,Ms,(Ms.length:Int),0,ts,5,B,I,Sx,ID,Ks,Is,R) >>=_)=_;rw[(hm' hA).1];cases m <;> rfl
           · exact k5r (decide ((Is.length:Int)=(Ms.length:Int))) (bif plain then decide (0 < (R.length:Int))else false) q m q2 (fun hA=>(hm' hA).2)
         ·
           obtain⟨r,r1,r2,hf⟩:=g3x (t:=⟨6,N,L,H,M,S,Ms,Ke,E,O⟩) ID hm;have hid:∀b,b=false→g1i (ID,b)=some (bif decide (1≤ID)then decide (ID≤1000)else false):=by
             intro b hb;subst hb;rw[g1i];cases decide (1≤ID) <;> rfl
           have hX:∃f:Bool,(bif decide ((Is.length:Int)=1)then decide ((R.length:Int)=0)else false)=true→(g4d ((⟨ts⟩:SSchema),(Ms.getD r.1.toNat dSMember).Type_,Is.getD (0:Int).toNat dSValue,plain)=some f∧g1q ((⟨ts⟩:SSchema),(Ms.getD r.1.toNat dSMember).Type_,Is.getD (0:Int).toNat dSValue,plain)=some f):=by
             by_cases h1':Is.length=1
             · obtain⟨f,f1,f2⟩:=ihi (Is.getD 0 dSValue) (g8 (by omega:0 < Is.length) dSValue) (Ms.getD r.1.toNat dSMember).Type_ plain;exact⟨f,fun _=>⟨f1,f2⟩⟩
             · refine⟨false,fun h=>?_⟩
               exfalso
               have:decide ((Is.length:Int)=1)=false:=by simp;omega
               rw[this]at h;cases h
           obtain⟨f,hfX⟩:=hX;have hidx:r.2=true→(bif decide ((Is.length:Int)=1)then decide ((R.length:Int)=0)else false)=true→inR r.1 Ms.length=true∧inR 0 Is.length=true:=by
             intro h6 hc';constructor
             · rcases hf with⟨k,k1,_,_,rfl⟩ | ⟨_,rfl⟩
               · exact g6 k1
               · cases h6
             · by_cases h1':Is.length=1
               · exact g6 (k:=0) (by omega)
               · have:decide ((Is.length:Int)=1)=false:=by simp;omega
                 rw[this]at hc';cases hc'
           have hR0:decide ((R.length:Int)=1)=true→inR 0 R.length=true:=by
             intro h;have:=of_decide_eq_true h;exact g6 (k:=0) (by omega)
           obtain⟨ri,rk⟩:=r;refine⟨if rk=true then(bif decide ((Is.length:Int)=1)then decide ((R.length:Int)=0)else false) && f else(bif O then(!plain)else false) && (bif decide (1≤ID)then decide (ID≤1000)else false) && decide ((Is.length:Int)=0) && decide ((R.length:Int)=1) && decide ((R.getD (0:Int).toNat dSRaw).ID=ID),?_,?_⟩
           · show(g3c (⟨6,N,L,H,M,S,Ms,Ke,E,O⟩,ID) >>=_)=_;rw[r1];cases rk with
             | true=>exact k6k _ (inR ri Ms.length) (inR 0 Is.length) f (fun h=>(hfX h).1) (hidx rfl)
             | false=>exact k6u (bif O then(!plain)else false) (bif decide (1≤ID)then decide (ID≤1000)else false) (decide ((Is.length:Int)=0)) (decide ((R.length:Int)=1)) (inR 0 R.length) (decide ((R.getD (0:Int).toNat dSRaw).ID=ID)) hR0
           · show(if(bif (bif false then true else(!true))then true else(bif plain then decide (0 < (R.length:Int))else false))=true then some false else g1a (⟨6,N,L,H,M,S,Ms,Ke,E,O⟩,ID) >>=_)=_;rw[r2];cases hb0:(bif plain then decide (0 < (R.length:Int))else false)with
             | true=>
               have hpl:plain=true:=by
                 cases plain with
                 | true=>rfl
                 | false=>cases hb0
               subst hpl;have hRl:decide ((R.length:Int)=0)=false:=by
                 have:=of_decide_eq_true (show decide (0 < (R.length:Int))=true from hb0);simp;intro e;rw[e]at this;simp at this
               rw[hRl];cases rk with
               | true=>cases decide ((Is.length:Int)=1) <;> rfl
               | false=>cases O <;> rfl
             | false=>
               cases rk with
               | true=>exact k6k _ (inR ri Ms.length) (inR 0 Is.length) f (fun h=>(hfX h).2) (hidx rfl)
               | false=>exact k6u (bif O then(!plain)else false) (bif decide (1≤ID)then decide (ID≤1000)else false) (decide ((Is.length:Int)=0)) (decide ((R.length:Int)=1)) (inR 0 R.length) (decide ((R.getD (0:Int).toNat dSRaw).ID=ID)) hR0
         · obtain rfl:R=[]:=p3' (by decide) (by decide);obtain⟨r,r1,r2⟩:=hitems E plain;cases plain
           · exact⟨_,k7 r1 _,k7 r2 _⟩
           · exact⟨_,k7 r1 _,k7 r2 _⟩
         · obtain rfl:R=[]:=p3' (by decide) (by decide);obtain⟨k,k1,k2⟩:=hkeys Ke plain;obtain⟨i,i1,i2⟩:=hitems E plain;have hks:=g11u (ts:=ts) (t:=⟨8,N,L,H,M,S,Ms,Ke,E,O⟩) (v:=⟨8,B,I,Sx,ID,Ks,Is,[]⟩) (g12 h1) hk plain
           obtain⟨q,qa,qb⟩:∃q:Bool,g3d (plain,1,ts,⟨8,B,I,Sx,ID,Ks,Is,[]⟩,8,N,L,H,M,S,Ms,Ke,E,O)=some (if q=true then .inr (plain,ts,⟨8,B,I,Sx,ID,Ks,Is,[]⟩,8,N,L,H,M,S,Ms,Ke,E,O)else .inl false)∧g11 (1,⟨8,B,I,Sx,ID,Ks,Is,[]⟩)=some (if q=true then .inr ()else .inl false):=by
             rcases hks with⟨a,b⟩ | ⟨a,b⟩
             · exact⟨true,a,b⟩
             · exact⟨false,a,b⟩
           refine⟨!(bif decide (M < (Ks.length:Int))then true else(!(decide ((Is.length:Int)=(Ks.length:Int))))) && k && q && i,?_,?_⟩
           · show(some (bif decide (M < (Ks.length:Int))then true else(!(decide ((Is.length:Int)=(Ks.length:Int))))) >>=fun t270=>(if(!t270)=true then g75 ((⟨ts⟩:SSchema),Ke,Ks,plain)else some false) >>=fun r_11=>if(bif t270 then true else(!r_11))=true then some false else g3d (plain,1,ts,⟨8,B,I,Sx,ID,Ks,Is,[]⟩,8,N,L,H,M,S,Ms,Ke,E,O) >>=_)=_
             rw[k1,qa];cases (bif decide (M < (Ks.length:Int))then true else(!(decide ((Is.length:Int)=(Ks.length:Int)))))with
             | true=>rfl
             | false=>
               cases k with
               | false=>rfl
               | true=>
                 cases q with
                 | false=>rfl
                 | true=>
                   show(g75 ((⟨ts⟩:SSchema),E,Is,plain) >>=fun r_12=>some r_12)=_;rw[i1];cases i <;> rfl
           · cases plain
             · exact k8r (bif decide (M < (Ks.length:Int))then true else(!(decide ((Is.length:Int)=(Ks.length:Int))))) k2 i2 qb
             · exact k8r (bif decide (M < (Ks.length:Int))then true else(!(decide ((Is.length:Int)=(Ks.length:Int))))) k2 i2 qb
         · obtain rfl:R=[]:=p3' (by decide) (by decide);obtain⟨r,r1,r2⟩:=hitems E plain;cases plain
           · exact⟨_,k7 r1 _,k7 r2 _⟩
           · exact⟨_,k7 r1 _,k7 r2 _⟩
     · exact⟨false,by simp[hkd],by simp[hkd]⟩
end
section
open Go Go.Proofs.YthnmepafpikaiaaGreat.Shv
set_option maxRecDepth 100000
theorem gny{U:Uni}{t:Ty}{l:List (t.den U.D)}(h:WF U ⟨.slice t,l⟩) :l.length≤reachBytes∧l.length*t.bytes U≤reachBytes∧∀x,x∈l→∀c,c∈t.row U x→WF U c:=by
 cases h with | slice t l h1 h2 h3=>exact⟨h1,h2,h3⟩
end
section
open Go Go.Proofs.YthnmepafpikaiaaGreat.Shv
set_option maxRecDepth 100000
theorem gc4(s:SSchema) :(⟨s.Types⟩:SSchema)=s:=by cases s;rfl
theorem gzb {s : SSchema} (hs : s.Types.length ≤ reachBytes) (hT : ∀ t, t ∈ s.Types → OkT t) {v : SValue} (hv : OkV v) (t : Int) :
   ∃e,g4e (s,t,v)=some e∧g54 (s,t,v)=some e∧
     (e=0→s.Types.length≤32∧(∀i,i < s.Types.length→stepV s.Types i=none)∧0≤t∧t < s.Types.length∧g4d (s,t,v,false)=some true):=by
 obtain⟨e,e1,e2,e3⟩:=gz8 hs hT;rw[g4e,g7i,g54];simp only[gc4,SValue.gr];rw[e1,e2];by_cases h0:e=0
 · subst h0;obtain⟨h32,hst⟩:=e3 rfl;by_cases hout:(bif decide (t < 0)then true else decide ((s.Types.length:Int)≤t))=true
   · refine⟨4,?_,?_,fun h=>by cases h⟩
     · show((if(bif decide (t < 0)then true else decide ((s.Types.length:Int)≤t))=true then some (4:Int)else some 0) >>=_)=_;rw[if_pos hout];rfl
     · show(if(bif decide (t < 0)then true else decide ((s.Types.length:Int)≤t))=true then some (4:Int)else _)=_;rw[if_pos hout]
   · have hk:=gz9 hT hst;obtain⟨r,r1,r2⟩:=gro (by omega) hT hk hv t false;rw[gc4]at r1 r2;have hin:0≤t∧t < s.Types.length:=by
       simp only[Bool.cond_eq_ite]at hout;by_cases h0:t < 0
       · simp[h0]at hout
       · simp[h0]at hout;omega
     refine⟨if(!r)=true then 1 else 0,?_,?_,?_⟩
     · show((if(bif decide (t < 0)then true else decide ((s.Types.length:Int)≤t))=true then some (4:Int)else some 0) >>=_)=_;rw[if_neg hout];show(g76 (s,t,v) >>=_)=_;rw[g76];simp only[gc4,SValue.gr];rw[r1];cases r <;> rfl
     · show(if(bif decide (t < 0)then true else decide ((s.Types.length:Int)≤t))=true then some (4:Int)else _)=_;rw[if_neg hout];show(g9a (s,t,v) >>=_)=_;rw[g9a];simp only[SValue.gr];rw[r2];cases r <;> rfl
     · intro h;cases r with
       | false=>simp at h
       | true=>exact⟨h32,hst,hin.1,hin.2,r1⟩
 · have hd:(!(decide (e=0)))=true:=by simp[h0]
   refine⟨e,?_,?_,fun h=>absurd h h0⟩
   · show((if(!(decide (e=0)))=true then some e else _) >>=fun r=>if(!(decide (r=0)))=true then some r else _)=_;rw[if_pos hd];show(if(!(decide (e=0)))=true then some e else _)=_;rw[if_pos hd]
   · show(if(!(decide (e=0)))=true then some e else _)=_;rw[if_pos hd]
end
section
open Go Go.Proofs.YthnmepafpikaiaaGreat.Shv
set_option maxRecDepth 100000
def vbig(n:Nat) :List UInt8:=if n=0 then[]else vbig (n / 256)++[UInt8.ofNat (n % 256)]
termination_by n
decreasing_by omega
theorem gui{α:Type} :∀(l:List α) (k:Nat) (x:α),k < l.length→(l.set k x).drop k=x::l.drop (k+1)
 | [],k,x,h=>by simp at h
 | a::l,0,x,h=>by simp
 | a::l,k+1,x,h=>by simp[gui l k x (by simpa using h)]
theorem shrI8(n:Nat) :shrI .u64 (n:Int) 8=((n / 256:Nat):Int):=by
 unfold shrI;have:((2:Int) ^ min (8:Int).toNat IntKind.u64.bits)=256:=by decide
 rw[this,Int.fdiv_eq_ediv_of_nonneg _ (by omega)];omega
theorem g11v :∀(i n:Nat) (b:List Int),n < 256 ^ i→i≤8→b.length=8→∃(i':Nat) (b':List Int),g6x ((n:Int),(i:Int),b)=some ((i':Int),b')∧i'≤8∧b'.length=8∧strOf (b'.drop i')=vbig n++strOf (b.drop i)
 | i,n,b,hn,hi,hb=>by
   rw[g6x];by_cases h0:n=0
   · subst h0;rw[if_neg (by simp)];refine⟨i,b,rfl,hi,hb,?_⟩;rw[vbig,if_pos rfl];rfl
   · rw[if_pos (by simp;omega)]
     match i,hn,hi with
     | 0,hn,hi=>simp at hn;omega
     | i+1,hn,hi=>
       have hs:subI .i64 ((i+1:Nat):Int) 1=(i:Int):=by rw[g5c (by omega) (by omega)];omega
       simp only[oZ4,oZ3];rw[hs,if_pos (g6 (by omega)),if_pos (by simp[hb];omega),shrI8,wrp8,g7];have hlt:n / 256 < 256 ^ i:=by
         rw[Nat.div_lt_iff_lt_mul (by omega)];rw[Nat.pow_succ]at hn;exact hn
       obtain⟨i',b',h1,h2,h3,h4⟩:=g11v i (n / 256) (b.set i ((n % 256:Nat):Int)) hlt (by omega) (by simp[hb]);refine⟨i',b',h1,h2,h3,?_⟩;rw[h4,gui _ _ _ (by omega),gz2]
       conv=>rhs;rw[vbig,if_neg h0]
       rw[List.append_assoc];rfl
theorem g11w{n:Nat}(hn:n < 18446744073709551616) :gbv (n:Int)=some (vbig n):=by
 have e:(256:Nat) ^ 8=18446744073709551616:=by decide
 obtain⟨i',b',h1,h2,h3,h4⟩:=g11v 8 n [0,0,0,0,0,0,0,0] (by rw[e];exact hn) (by omega) rfl;have h1':g6x ((n:Int),8,[0,0,0,0,0,0,0,0])=some ((i':Int),b'):=h1;rw[gbv,h1'];simp only[oZ4,oZ3,g7];have hsl:slR (i':Int) 8 8=true:=g57 (b:=8) (by omega) (by omega);have h8:(8:Int).toNat=8:=rfl
 rw[if_pos hsl,h8,if_pos (by simp[subR,h3];omega)];rw[List.take_of_length_le (by simp[h3]),h4];simp[strOf]
theorem gjc :∀(f n:Nat),n < 256 ^ f→(vbig n).length≤f
 | 0,n,h=>by
   have:n=0:=by simpa using h
   subst this;rw[vbig,if_pos rfl];simp
 | f+1,n,h=>by
   rw[vbig];split
   · simp
   · have:=gjc f (n / 256) (by
       rw[Nat.div_lt_iff_lt_mul (by omega)]
       rw[Nat.pow_succ]at h;exact h)
     simp;omega
theorem grq :∀(f n:Nat) (out:List UInt8),n < 256 ^ f→n < 18446744073709551616→out.length+f≤1000→g5v ((n:Int),out)=some (vbig n++out)
 | f,n,out,hn,h64,ho=>by
   rw[g5v];by_cases h0:n=0
   · subst h0;rw[if_neg (by simp),vbig,if_pos rfl];rfl
   · rw[if_pos (by simp;omega)]
     match f,hn,ho with
     | 0,hn,ho=>simp at hn;omega
     | f+1,hn,ho=>
       have hrem:remI (n:Int) 256=((n % 256:Nat):Int):=remIn (b:=256);have hq:quoI .u64 (n:Int) 256=((n / 256:Nat):Int):=by
         unfold quoI;have e:(n:Int).tdiv 256=((n / 256:Nat):Int):=by rw[Int.tdiv_eq_ediv_of_nonneg (by omega)];omega
         rw[e];exact wrapu (by omega) (by omega)
       have hone:strOf [((n % 256 % 256:Nat):Int)]=[UInt8.ofNat (n % 256)]:=by
         have:n % 256 % 256=n % 256:=by omega
         rw[this];rfl
       simp only[oZ4,oZ3];rw[hrem,hq,wrp8,hone,if_pos (g39 (by simp;omega))];have hlt:n / 256 < 256 ^ f:=by
         rw[Nat.div_lt_iff_lt_mul (by omega)];rw[Nat.pow_succ]at hn;exact hn
       rw[grq f (n / 256) _ hlt (by omega) (by simp;omega)]
       conv=>rhs;rw[vbig,if_neg h0]
       rw[List.append_assoc]
theorem grr{n:Nat}(hn:n < 18446744073709551616) :g89 (n:Int)=some (vbig n):=by
 have e:(256:Nat) ^ 8=18446744073709551616:=by decide
 rw[g89,grq 8 n [] (by rw[e];exact hn) hn (by simp)];simp
end
section
open Go Go.Proofs.YthnmepafpikaiaaGreat.Shv Go.Sort
set_option maxRecDepth 100000
section
variable {α:Type}
theorem guj{β γ:Type}{f g:β→List γ} :∀{l:List β},(∀x,x∈l→f x=g x)→l.flatMap f=l.flatMap g
 | [],_=>rfl
 | x::l,h=>by
   simp only[List.flatMap_cons];rw[h x (.head _),guj fun y hy=>h y (.tail _ hy)]
theorem gpt(x:α)(n:Nat)(f:Nat→List α) :∀(ks:List Nat),ks.Nodup→n∈ks→(ks.flatMap fun i=>if n=i then x::f i else f i).Perm (x::ks.flatMap f)
 | [],_,h=>by cases h
 | k::ks,hn,h=>by
   rw[List.nodup_cons]at hn;simp only[List.flatMap_cons];by_cases e:n=k
   · rw[if_pos e];have:(ks.flatMap fun i=>if n=i then x::f i else f i)=ks.flatMap f:=guj fun y hy=>by
       rw[if_neg];rintro rfl;subst e;exact hn.1 hy
     rw[this];exact .refl _
   · rw[if_neg e];have hm:n∈ks:=(List.mem_cons.1 h).resolve_left e;refine((gpt x n f ks hn.2 hm).append_left (f k)).trans ?_;exact List.perm_middle
theorem gpu(key:α→Nat)(ks:List Nat)(hn:ks.Nodup) :∀l:List α,(∀x,x∈l→key x∈ks)→(ks.flatMap fun i=>l.filter fun x=>decide (key x=i)).Perm l
 | [],_=>by simp
 | x::l,h=>by
   have e:(fun i=>(x::l).filter fun y=>decide (key y=i))=fun i=>if key x=i then x::(l.filter fun y=>decide (key y=i))else l.filter fun y=>decide (key y=i):=by
     funext i
     by_cases e:key x=i <;> simp[e]
   rw[e];exact(gpt x (key x) _ ks hn (h x (.head _))).trans ((gpu key ks hn l fun y hy=>h y (.tail _ hy)).cons x)
theorem guk(key:α→Nat)(a n:Nat)(l:List α) :((List.range' a n).flatMap fun i=>l.filter fun x=>decide (key x=i)).Pairwise (fun x y=>decide (key y < key x)=false):=by
 rw[List.pairwise_flatMap];constructor
 · intro i hi;rw[List.pairwise_iff_forall_sublist];intro x y hs;have hx:=hs.subset (.head _);have hy:=hs.subset (.tail _ (.head _));simp at hx hy ⊢;omega
 · refine(List.pairwise_lt_range' (s:=a) (n:=n)).imp ?_;intro i j hij x hx y hy;simp at hx hy ⊢;omega
theorem gul{α β:Type}[Inhabited α][Inhabited β]{lt:α→α→Bool}{lt':β→β→Bool}(g:α→β)(h:∀a b,lt' (g a) (g b)=lt a b) :∀l,isoB lt' (l.map g)=(isoB lt l).map g
 | []=>rfl
 | x::l=>by
   have key:∀r,insB lt' (g x) (r.map g)=(insB lt x r).map g:=by
     intro r
     induction r with
     | nil=>rfl
     | cons y r ih=>
       simp only[insB,List.map];rw[h];split
       · rfl
       · simp[ih]
   simp only[isoB,List.map];rw[gul g h l,key]
theorem grs{α:Type}[Inhabited α]{lt:α→α→Bool} :∀{l:List α},l.Pairwise (fun x y=>lt x y=true∨lt y x=true)→g7o lt l=true
 | [],_=>rfl
 | x::l,h=>by
   rw[List.pairwise_cons]at h;simp only[g7o,Bool.and_eq_true,List.all_eq_true,Bool.or_eq_true];exact⟨h.1,grs h.2⟩
end
mutual
def wt :SValue→Nat
 | ⟨_,_,_,s,_,ks,is,r⟩=>10+s.length+(r.map fun x=>x.Data.length+1).sum+wts ks+wts is
def wts :List SValue→Nat
 | []=>0
 | v::l=>wt v+wts l
end
structure Fd where
 id:Nat
 c:Bool
 p:List UInt8
instance:Inhabited Fd:=⟨⟨0,false,[]⟩⟩
def ltF(a b:Fd) :Bool:=decide (a.id < b.id)
def Fd.text(f:Fd) :List UInt8:=g4j f.id f.c f.p
def ilv :List (List UInt8)→List (List UInt8)→List UInt8
 | k::ks,v::vs=>g1s k++(g1s v++ilv ks vs)
 | _,_=>[]
def findM(l:List SMember)(id:Int) :Option SMember:=l.find? fun m=>decide (m.ID=id)
open Classical in
noncomputable def om (m:SMember) (v:SValue):Bool:=m.HasDefault && decide (m.Default=v)
def rawF(r:SRaw) :Fd:=⟨r.ID.toNat,false,r.Data⟩
mutual
noncomputable def vpay (ts:List SType) (t:Int):SValue→List UInt8
 | ⟨_,b,i,s,id,ks,is,r⟩=>
   let x:=ts.getD t.toNat dSType
   if x.Kind=1 then(if b=true then[1]else[])
   else if x.Kind=2 then vbig (zig i).toNat
   else if x.Kind=3 then s
   else if x.Kind=4 then vbig id.toNat
   else if x.Kind=5 then(isoB ltF (vents ts x.Members is++r.map rawF)).flatMap Fd.text
   else if x.Kind=6 then vput id.toNat++(match findM x.Members id with
     | some m=>(vpays ts m.Type_ is).headD []
     | none=>(r.map SRaw.Data).headD [])
   else if x.Kind=7 then(vpays ts x.Elem is).flatMap g1s
   else if x.Kind=8 then ilv (vpays ts x.Key ks) (vpays ts x.Elem is)
   else match vpays ts x.Elem is with
     | []=>[]
     | p::_=>1::p
noncomputable def vpays (ts:List SType) (t:Int):List SValue→List (List UInt8)
 | []=>[]
 | v::l=>vpay ts t v::vpays ts t l
noncomputable def vents (ts:List SType):List SMember→List SValue→List Fd
 | m::ms,v::l=>if om m v=true then vents ts ms l else⟨m.ID.toNat,m.Critical,vpay ts m.Type_ v⟩::vents ts ms l
 | _,_=>[]
end
mutual
noncomputable def vlev (ts:List SType) (t:Int):SValue→Nat
 | ⟨_,_,_,_,id,ks,is,_⟩=>
   let x:=ts.getD t.toNat dSType
   1+max (if ks=[]then 0 else 1) (if x.Kind=5 then vlevm ts x.Members is
     else if x.Kind=6 then(match findM x.Members id with
       | some m=>vlevs ts m.Type_ is
       | none=>0)
     else vlevs ts x.Elem is)
noncomputable def vlevs (ts:List SType) (t:Int):List SValue→Nat
 | []=>0
 | v::l=>max (vlev ts t v) (vlevs ts t l)
noncomputable def vlevm (ts:List SType):List SMember→List SValue→Nat
 | m::ms,v::l=>if om m v=true then vlevm ts ms l else max (vlev ts m.Type_ v) (vlevm ts ms l)
 | _,_=>0
end
def I1000(n:Int) :Prop:=1≤n∧n≤1000
def g72(ms:List SMember)(r:List SRaw) :Prop:=r.Pairwise (fun a b=>a.ID < b.ID)∧∀x,x∈r→I1000 x.ID∧findM ms x.ID=none
def vcmp(a b:SValue) :Int:=(g67 (a,b)).getD 0
def g6t(ks:List SValue) :Prop:=∀i,i+1 < ks.length→vcmp (ks.getD i dSValue) (ks.getD (i+1) dSValue) < 0
mutual
def vfit(ts:List SType)(pl:Bool)(t:Int) :SValue→Prop
 | ⟨k,b,i,s,id,ks,is,r⟩=>
   let x:=ts.getD t.toNat dSType
   (0≤t∧t < ts.length∧k=x.Kind∧(pl=true→r=[]))∧
   (k=1∧i=0∧s=[]∧id=0∧ks=[]∧is=[]∧r=[]∨
   k=2∧b=false∧s=[]∧id=0∧ks=[]∧is=[]∧r=[]∧x.Low≤i∧i≤x.High∨
   k=3∧b=false∧i=0∧id=0∧ks=[]∧is=[]∧r=[]∧(s.length:Int)≤x.Max∨
   k=4∧b=false∧i=0∧s=[]∧ks=[]∧is=[]∧r=[]∧((∃y,y∈x.Symbols∧y.ID=id)∨x.Open=true∧pl=false∧I1000 id)∨
   k=5∧b=false∧i=0∧s=[]∧id=0∧ks=[]∧g72 x.Members r∧vfitm ts pl x.Members is∨
   k=6∧b=false∧i=0∧s=[]∧ks=[]∧(match findM x.Members id with
     | some m=>r=[]∧is.length=1∧vfits ts pl m.Type_ is
     | none=>x.Open=true∧pl=false∧I1000 id∧is=[]∧∃d,r=[⟨id,d⟩])∨
   k=7∧b=false∧i=0∧s=[]∧id=0∧ks=[]∧r=[]∧(is.length:Int)≤x.Max∧vfits ts pl x.Elem is∨
   k=8∧b=false∧i=0∧s=[]∧id=0∧r=[]∧(ks.length:Int)≤x.Max∧is.length=ks.length∧vfits ts pl x.Key ks∧vfits ts pl x.Elem is∧g6t ks∨
   k=9∧b=false∧i=0∧s=[]∧id=0∧ks=[]∧r=[]∧is.length≤1∧vfits ts pl x.Elem is)
def vfits(ts:List SType)(pl:Bool)(t:Int) :List SValue→Prop
 | []=>True
 | v::l=>vfit ts pl t v∧vfits ts pl t l
def vfitm(ts:List SType)(pl:Bool) :List SMember→List SValue→Prop
 | m::ms,v::l=>vfit ts pl m.Type_ v∧vfitm ts pl ms l
 | [],[]=>True
 | _,_=>False
end
theorem wt_eq(v:SValue) :wt v=10+v.Str.length+(v.Rest.map fun x=>x.Data.length+1).sum+wts v.Keys+wts v.Items:=by
 cases v;rw[wt]
theorem g7r(v:SValue)(l:List SValue) :wts (v::l)=wt v+wts l:=by rw[wts]
theorem g6j :wts []=0:=by rw[wts]
theorem g2o :∀{l:List SValue} {x:SValue},x∈l→wt x≤wts l
 | y::l,x,h=>by
   rw[g7r];rcases List.mem_cons.1 h with rfl | h
   · omega
   · have:=g2o h;omega
theorem gpv{p:List UInt8}(h:p.length < 1152921504606846976) :(g1s p).length≤p.length+10:=by
 have:=g4i (n:=p.length) (by omega);unfold g1s;simp;omega
theorem gum{f:Fd}(h:f.p.length < 1152921504606846976)(hi:f.id≤9223372036854775807) :f.text.length≤f.p.length+20:=by
 have:=gpv h;have:=g4i (n:=2*f.id+(if f.c then 1 else 0)) (by split <;> omega);unfold Fd.text g4j;simp only[List.length_append];omega
theorem gsn{α β:Type}{f:α→List β}{a b:List α}(h:a.Perm b) :(a.flatMap f).length=(b.flatMap f).length:=(h.flatMap_right f).length_eq
theorem gpw{n:Int}(h:I64 n) :(zig n).toNat < 18446744073709551616:=by
 unfold zig I64 at*;split <;> omega
section
variable {ts:List SType}
def LenOk(ts:List SType)(v:SValue) :Prop:=∀t,(vpay ts t v).length+20≤21*wt v
theorem glt :∀{l:List SValue} {t:Int},wts l≤1099511627776→(∀x,x∈l→LenOk ts x)→((vpays ts t l).flatMap g1s).length≤21*wts l
 | [],t,_,_=>by rw[vpays];simp
 | v::l,t,hw,h=>by
   rw[vpays,List.flatMap_cons,List.length_append];rw[g7r]at hw ⊢;have h1:=h v (.head _) t;have h2:=glt (t:=t) (by omega) fun x hx=>h x (.tail _ hx)
   have h3:=gpv (p:=vpay ts t v) (by omega);omega
theorem g64 :∀{l:List SValue} {t:Int},(vpays ts t l).length=l.length
 | [],t=>by rw[vpays];rfl
 | v::l,t=>by rw[vpays,List.length_cons,List.length_cons,g64]
theorem ga6 :∀{l:List SValue} {t:Int},vpays ts t l=l.map (vpay ts t)
 | [],t=>by rw[vpays];rfl
 | v::l,t=>by rw[vpays,List.map,ga6]
theorem gx1 :∀(a b:List (List UInt8)),(ilv a b).length≤(a.flatMap g1s).length+(b.flatMap g1s).length
 | [],b=>by simp[ilv]
 | k::ks,[]=>by simp[ilv]
 | k::ks,v::vs=>by
   have:=gx1 ks vs;simp only[ilv,List.flatMap_cons,List.length_append];omega
theorem grt :∀{ms:List SMember} {l:List SValue},wts l≤1099511627776→(∀m,m∈ms→m.ID≤1000)→(∀x,x∈l→LenOk ts x)→((vents ts ms l).flatMap Fd.text).length≤21*wts l
 | [],l,_,_,_=>by rw[vents] <;> simp
 | m::ms,[],_,_,_=>by rw[vents] <;> simp
 | m::ms,v::l,hw,hm,h=>by
   rw[g7r]at hw ⊢;rw[vents];have h1:=h v (.head _) m.Type_;have h2:=grt (ms:=ms) (l:=l) (by omega) (fun x hx=>hm x (.tail _ hx)) fun x hx=>h x (.tail _ hx)
   have h4:=hm m (.head _);split
   · omega
   · rw[List.flatMap_cons,List.length_append];have h3:=gum (f:=⟨m.ID.toNat,m.Critical,vpay ts m.Type_ v⟩) (by show(vpay ts m.Type_ v).length < _;omega) (by show m.ID.toNat≤_;omega);have h3':(Fd.text ⟨m.ID.toNat,m.Critical,vpay ts m.Type_ v⟩).length≤(vpay ts m.Type_ v).length+20:=h3;omega
theorem gun :∀{l:List SRaw},(∀x,x∈l→x.Data.length≤reachBytes∧x.ID≤9223372036854775807)→True→((l.map rawF).flatMap Fd.text).length≤21*(l.map fun x=>x.Data.length+1).sum
 | [],_,_=>by simp
 | r::l,h,_=>by
   have h1:=h r (.head _);have h2:=gun (l:=l) (fun x hx=>h x (.tail _ hx)) trivial;unfold reachBytes at h1;have h3:=gum (f:=rawF r) (by show r.Data.length < _;omega) (by show r.ID.toNat≤_;omega);have h3':(rawF r).text.length≤r.Data.length+20:=h3;simp only[List.map_cons,List.flatMap_cons,List.length_append,List.sum_cons];omega
def MOk(ts:List SType) :Prop:=∀x,x∈ts→∀m,m∈x.Members→m.ID≤1000
theorem gw4{α:Type}(l:List α)(i:Nat)(d:α) :l.getD i d∈l∨l.getD i d=d:=by
 by_cases h:i < l.length
 · left;rw[List.getD_eq_getElem?_getD,List.getElem?_eq_getElem h];exact List.getElem_mem h
 · right;rw[List.getD_eq_getElem?_getD,List.getElem?_eq_none (by omega)];rfl
theorem gru{l:List (List UInt8)}{n:Nat}(h:∀x,x∈l→x.length≤n) :(l.headD []).length≤n:=by
 cases l with
 | nil=>simp
 | cons x l=>exact h x (.head _)
theorem gx2 :∀{l:List Nat} {n:Nat},n∈l→n≤l.sum
 | a::l,n,h=>by
   rw[List.sum_cons];rcases List.mem_cons.1 h with rfl | h
   · omega
   · have:=gx2 h;omega
theorem g13m(hM:MOk ts){v:SValue}(h:OkV v) :wt v≤1099511627776→LenOk ts v:=by
 induction h with
 | mk v hs h1 h2 h3 hk hi hr n1 n2 n3 n4 ihk ihi=>
   intro hw t;have hwt:=wt_eq v;have LK:∀x,x∈v.Keys→LenOk ts x:=fun x hx=>ihk x hx (by have:=g2o hx;omega)
   have LI:∀x,x∈v.Items→LenOk ts x:=fun x hx=>ihi x hx (by have:=g2o hx;omega)
   have PK:=fun t=>glt (t:=t) (l:=v.Keys) (by omega) LK
   have PI:=fun t=>glt (t:=t) (l:=v.Items) (by omega) LI
   have hx:∀m,m∈(ts.getD t.toNat dSType).Members→m.ID≤1000:=by
     rcases gw4 ts t.toNat dSType with h | h
     · exact hM _ h
     · rw[h];intro m hm;cases hm
   have QI:∀t,((vpays ts t v.Items).headD []).length+20≤21*wts v.Items+20:=fun t=>by
     have:((vpays ts t v.Items).headD []).length≤21*wts v.Items:=gru fun p hp=>by
       rw[ga6]at hp;obtain⟨x,hx,rfl⟩:=List.mem_map.1 hp;have:=LI x hx t;have:=g2o hx;omega
     omega
   have RI:((v.Rest.map rawF).flatMap Fd.text).length≤21*(v.Rest.map fun x=>x.Data.length+1).sum:=gun (fun x hx=>⟨hr x hx,(n4 x hx).2⟩) trivial;have EI:=grt (ts:=ts) (ms:=(ts.getD t.toNat dSType).Members) (l:=v.Items) (by omega) hx LI;have DI:((v.Rest.map SRaw.Data).headD []).length≤(v.Rest.map fun x=>x.Data.length+1).sum:=gru fun p hp=>by
     obtain⟨x,hx,rfl⟩:=List.mem_map.1 hp;have:x.Data.length+1≤(v.Rest.map fun x=>x.Data.length+1).sum:=gx2 (List.mem_map.2 ⟨x,hx,rfl⟩);omega
   obtain⟨K,b,i,s,id,ks,is,r⟩:=v;simp only at*;rw[vpay];have hz:=gjc 8 _ (gpw n2);have hid:id.toNat < 18446744073709551616:=by omega
   have hb:=gjc 8 _ hid;have hp:=g4i hid;generalize ts.getD t.toNat dSType=x at*;split
   · split
     · simp;omega
     · simp;omega
   · split
     · omega
     · split
       · omega
       · split
         · omega
         · split
           · rw[gsn (g66 _ _),List.flatMap_append,List.length_append];omega
           · split
             · rw[List.length_append];split
               · rename_i m _;have:=QI m.Type_;omega
               · omega
             · split
               · have:=PI x.Elem;omega
               · split
                 · have:=gx1 (vpays ts x.Key ks) (vpays ts x.Elem is);have:=PK x.Key;have:=PI x.Elem;omega
                 · have:=QI x.Elem;split
                   · simp;omega
                   · rename_i p l e;rw[e]at this;simp only[List.headD_cons]at this;simp only[List.length_cons];omega
end
section
variable (ts:List SType)
mutual
theorem vlev_le :∀(v:SValue) (t:Int),vlev ts t v≤wt v
 | ⟨_,_,_,_,id,ks,is,_⟩,t=>by
   rw[vlev,wt];have h1:=vlevs_le is;have h2:=vlevm_le is;have h0:(if ks=[]then 0 else 1)≤1:=by split <;> omega
   generalize (if ks=[]then 0 else 1)=q at h0 ⊢;have h3:=h2 (ts.getD t.toNat dSType).Members;have h4:=h1 (ts.getD t.toNat dSType).Elem;split
   · omega
   · split
     · split
       · rename_i m _;have:=h1 m.Type_;omega
       · omega
     · omega
theorem vlevs_le :∀(l:List SValue) (t:Int),vlevs ts t l≤wts l
 | [],t=>by rw[vlevs];omega
 | v::l,t=>by
   rw[vlevs,wts];have:=vlev_le v t;have:=vlevs_le l t;omega
theorem vlevm_le :∀(l:List SValue) (ms:List SMember),vlevm ts ms l≤wts l
 | [], ms => by rw [vlevm]; · omega
                · intros;simp_all
 | v :: l, [] => by rw [vlevm]; · omega
                    · intros;simp_all
 | v::l,m::ms=>by
   rw[vlevm,wts];have:=vlev_le v m.Type_;have:=vlevm_le l ms;split <;> omega
end
end
section
variable {ts:List SType}
theorem ga7 :∀{ms:List SMember} {l:List SValue} {x:Fd},x∈vents ts ms l→∃m,m∈ms∧x.id=m.ID.toNat
 | [],l,x,h=>by
   rw[vents]at h
   · cases h
   · intros;simp_all
 | m::ms,[],x,h=>by
   rw[vents]at h
   · cases h
   · intros;simp_all
 | m::ms,v::l,x,h=>by
   rw[vents]at h;split at h
   · obtain⟨m',h1,h2⟩:=ga7 h;exact⟨m',.tail _ h1,h2⟩
   · rcases List.mem_cons.1 h with rfl | h
     · exact⟨m,.head _,rfl⟩
     · obtain⟨m',h1,h2⟩:=ga7 h;exact⟨m',.tail _ h1,h2⟩
theorem gpx{ms:List SMember}{l:List SValue}{n:Nat}(h:∀m,m∈ms→m.ID.toNat≠n) :((vents ts ms l).filter fun x=>decide (x.id=n))=[]:=by
 rw[List.filter_eq_nil_iff];intro x hx;obtain⟨m,h1,h2⟩:=ga7 hx;have:=h m h1;simp;omega
theorem gax : ∀ {ms : List SMember} {l : List SValue} {n j : Nat}, ms.Pairwise (fun a b => a.ID.toNat ≠ b.ID.toNat) → l.length = ms.length → j < ms.length → (ms.getD j dSMember).ID.toNat = n →
   ((vents ts ms l).filter fun x=>decide (x.id=n))=if om (ms.getD j dSMember) (l.getD j dSValue)=true then[]else[⟨n,(ms.getD j dSMember).Critical,vpay ts (ms.getD j dSMember).Type_ (l.getD j dSValue)⟩]
 | [],l,n,j,_,_,hj,_=>by cases hj
 | m::ms,[],n,j,_,hl,_,_=>by cases hl
 | m::ms,v::l,n,0,hd,hl,hj,he=>by
   rw[List.pairwise_cons]at hd;simp only[List.getD_cons_zero]at he ⊢;have hn:=gpx (ts:=ts) (l:=l) (ms:=ms) (n:=n) fun x hx=>by have:=hd.1 x hx;omega
   rw[vents];split
   · exact hn
   · rw[List.filter_cons,if_pos (by simp[he]),hn,he]
 | m::ms,v::l,n,j+1,hd,hl,hj,he=>by
   rw[List.pairwise_cons]at hd;simp only[List.getD_cons_succ]at he ⊢;have hj':j < ms.length:=by simpa using hj
   have hm:ms.getD j dSMember∈ms:=by
     rw[List.getD_eq_getElem?_getD,List.getElem?_eq_getElem hj'];exact List.getElem_mem hj'
   have hne:=hd.1 _ hm;have ih:=gax (l:=l) hd.2 (by simpa using hl) hj' he;rw[vents];split
   · exact ih
   · rw[List.filter_cons,if_neg (by simp;omega)];exact ih
theorem gw5(l:List SRaw)(n:Nat)(h:∀x,x∈l→0≤x.ID) :((l.map rawF).filter fun x=>decide (x.id=n))=(l.filter fun x=>decide (x.ID=(n:Int))).map rawF:=by
 rw[List.filter_map]
 congr 1
 apply List.filter_congr;intro x hx;have:=h x hx;show decide (x.ID.toNat=n)=_;by_cases e:x.ID=n
 · simp[e]
 · have:¬x.ID.toNat=n:=by omega
   simp[e,this]
noncomputable def g3a (ts:List SType) (ms:List SMember) (l:List SValue) (r:List SRaw):List Fd:=vents ts ms l++r.map rawF
def MAsc(ms:List SMember) :Prop:=ms.Pairwise (fun a b=>a.ID < b.ID)∧∀m,m∈ms→I1000 m.ID
theorem gib{ms:List SMember}(h:MAsc ms) :ms.Pairwise (fun a b=>a.ID.toNat≠b.ID.toNat):=by
 refine h.1.imp_of_mem fun {a b} ha hb hlt=>?_
 have:=h.2 a ha;have:=h.2 b hb;unfold I1000 at*;omega
theorem glu :∀{ms:List SMember} {l:List SValue},ms.Pairwise (fun a b=>a.ID.toNat≠b.ID.toNat)→(vents ts ms l).Pairwise (fun a b=>a.id≠b.id)
 | [],l,_=>by
   rw[vents]
   · exact .nil
   · intros;simp_all
 | m::ms,[],_=>by
   rw[vents]
   · exact .nil
   · intros;simp_all
 | m::ms,v::l,h=>by
   rw[List.pairwise_cons]at h;rw[vents];split
   · exact glu h.2
   · rw[List.pairwise_cons];refine⟨fun x hx=>?_,glu h.2⟩;obtain⟨m',h1,h2⟩:=ga7 hx;rw[h2];exact h.1 m' h1
theorem gaj{ms:List SMember}{id:Int}(h:findM ms id=none) :∀m,m∈ms→m.ID≠id:=by
 unfold findM at h;rw[List.find?_eq_none]at h;intro m hm;simpa using h m hm
theorem gb4{ms:List SMember}{l:List SValue}{r:List SRaw}(h:MAsc ms)(hr:g72 ms r) :g7o ltF (g3a ts ms l r)=true:=by
 apply grs;have key:(g3a ts ms l r).Pairwise (fun a b=>a.id≠b.id):=by
   unfold g3a;rw[List.pairwise_append];refine⟨glu (gib h),?_,?_⟩
   · rw[List.pairwise_map];refine hr.1.imp_of_mem fun {a b} ha hb hlt=>?_
     have:=(hr.2 a ha).1;have:=(hr.2 b hb).1;show a.ID.toNat≠b.ID.toNat;unfold I1000 at*;omega
   · intro x hx y hy;obtain⟨m,h1,h2⟩:=ga7 hx;obtain⟨q,h3,rfl⟩:=List.mem_map.1 hy;have h4:=gaj (hr.2 q h3).2 m h1;have:=h.2 m h1;have:=(hr.2 q h3).1;show x.id≠q.ID.toNat;unfold I1000 at*;omega
 refine key.imp fun {a b} hne=>?_
 simp only[ltF,decide_eq_true_eq];omega
theorem gft{ms:List SMember}{l:List SValue}{r:List SRaw}(h:MAsc ms)(hr:g72 ms r){x:Fd}(hx:x∈g3a ts ms l r) :1≤x.id∧x.id≤1000:=by
 rcases List.mem_append.1 hx with hx | hx
 · obtain⟨m,h1,h2⟩:=ga7 hx;have:=h.2 m h1;unfold I1000 at*;omega
 · obtain⟨q,h3,rfl⟩:=List.mem_map.1 hx;have:=(hr.2 q h3).1;unfold I1000 at*;show 1≤q.ID.toNat∧q.ID.toNat≤1000;omega
theorem gx3 :SWO ltF:=by
 refine⟨fun x=>?_,fun x y z h1 h2=>?_,fun x y z h1 h2=>?_⟩ <;> simp[ltF]at* <;> omega
theorem gso {l : List Fd} (hp : g7o ltF l = true) (hr : ∀ x, x ∈ l → 1 ≤ x.id ∧ x.id ≤ 1000) :
   isoB ltF l=(List.range' 1 1000).flatMap fun n=>l.filter fun x=>decide (x.id=n):=by
 refine gn2 hp (g66 _ _) (gpu Fd.id _ List.nodup_range' l fun x hx=>?_) (gcs gx3 l) (guk Fd.id 1 1000 l);have:=hr x hx;rw[List.mem_range'_1];omega
end
section
variable {ts:List SType} {pl:Bool}
theorem g16 :∀{l:List SValue} {t:Int},vfits ts pl t l↔∀x,x∈l→vfit ts pl t x
 | [],t=>by rw[vfits];simp
 | v::l,t=>by
   rw[vfits,g16];constructor
   · rintro ⟨h1,h2⟩ x hx
     rcases List.mem_cons.1 hx with rfl | hx
     · exact h1
     · exact h2 x hx
   · intro h;exact⟨h v (.head _),fun x hx=>h x (.tail _ hx)⟩
theorem g7f :∀{ms:List SMember} {l:List SValue},vfitm ts pl ms l↔l.length=ms.length∧∀i,i < ms.length→vfit ts pl (ms.getD i dSMember).Type_ (l.getD i dSValue)
 | [],[]=>by
   have:vfitm ts pl [] []=True:=by rw[vfitm]
   rw[this];simp
 | [],v::l=>by
   have:vfitm ts pl [] (v::l)=False:=by rw[vfitm] <;> (intros;simp_all)
   rw[this];simp
 | m::ms,[]=>by
   have:vfitm ts pl (m::ms) []=False:=by rw[vfitm] <;> (intros;simp_all)
   rw[this];simp
 | m::ms,v::l=>by
   rw[vfitm,g7f];constructor
   · rintro ⟨h1,h2,h3⟩
     refine⟨by simp[h2],fun i hi=>?_⟩;cases i with
     | zero=>exact h1
     | succ i=>exact h3 i (by simpa using hi)
   · rintro ⟨h1,h2⟩
     exact⟨h2 0 (by simp),by simpa using h1,fun i hi=>h2 (i+1) (by simpa using hi)⟩
end
end
section
open Go Go.Proofs.YthnmepafpikaiaaGreat.Shv Go.Sort
set_option maxRecDepth 100000
def SaysP(o:Option Bool)(P:Prop) :Prop:=∃r,o=some r∧(r=true↔P)
theorem SaysP.imp{o:Option Bool}{P Q:Prop}(h:SaysP o P)(e:P↔Q) :SaysP o Q:=by
 obtain⟨r,h1,h2⟩:=h;exact⟨r,h1,h2.trans e⟩
theorem SaysP.of{b:Bool}{P:Prop}(e:b=true↔P) :SaysP (some b) P:=⟨b,rfl,e⟩
theorem SaysP.loop {L : Nat → Option (Bool ⊕ Unit)} {n : Nat} {p : Nat → Bool} {g : Unit} {o : Option (Bool ⊕ Unit)} (h0 : o = L 0) (hstep : ∀ i, i < n → L i = if p i = true then L (i + 1) else some (.inl false)) (hend : L n = some (.inr g)) :
   SaysP (o >>=fun o=>match o with | .inl x=>some x | .inr _=>some true) (∀i,i < n→p i=true):=by
 subst h0;rcases scan L n p (.inl false) (.inr g) hstep hend with⟨h1,h2⟩ | ⟨h1,j,h2,h3⟩
 · rw[h1];exact⟨true,rfl,by simpa using h2⟩
 · rw[h1];refine⟨false,rfl,?_⟩;constructor
   · intro h;cases h
   · intro h;have:=h j h2;rw[h3]at this;cases this
theorem gm3{α:Type}(f:α→Int)(d:α) :∀l:List α,l.Pairwise (fun a b=>f a < f b)↔∀i,i+1 < l.length→f (l.getD i d) < f (l.getD (i+1) d)
 | []=>by simp
 | [a]=>by simp
 | a::b::l=>by
   rw[List.pairwise_cons,gm3 f d (b::l)];constructor
   · rintro ⟨h1,h2⟩ i hi
     cases i with
     | zero=>exact h1 b (.head _)
     | succ i=>exact h2 i (by simpa using hi)
   · intro h;have h2:∀i,i+1 < (b::l).length→f ((b::l).getD i d) < f ((b::l).getD (i+1) d):=fun i hi=>h (i+1) (by simpa using hi)
     refine⟨fun x hx=>?_,h2⟩;have h0:=h 0 (by simp);simp only[List.getD_cons_zero,List.getD_cons_succ]at h0;have h3:=(gm3 f d (b::l)).2 h2;rw[List.pairwise_cons]at h3;rcases List.mem_cons.1 hx with rfl | hx
     · exact h0
     · have:=h3.1 x hx;omega
section
variable {ts:List SType}
def FitS(ts:List SType)(x:SValue) :Prop:=∀t pl,SaysP (g1q ((⟨ts⟩:SSchema),t,x,pl)) (vfit ts pl t x)
theorem guo{l:List SValue}(hl:l.length≤reachBytes)(ih:∀x,x∈l→FitS ts x)(t:Int)(pl:Bool) :SaysP (g48 ((⟨ts⟩:SSchema),t,l,pl)) (vfits ts pl t l):=by
 have hr:=g12 hl
 let p:Nat→Bool:=fun i=>(g1q ((⟨ts⟩:SSchema),t,l.getD i dSValue,pl)).getD false
 have hp:∀i,i < l.length→g1q ((⟨ts⟩:SSchema),t,l.getD i dSValue,pl)=some (p i)∧(p i=true↔vfit ts pl t (l.getD i dSValue)):=by
   intro i hi;obtain⟨r,h1,h2⟩:=ih _ (g8 hi dSValue) t pl;refine⟨by simp only[p,h1,Option.getD_some],?_⟩;simp only[p,h1,Option.getD_some];exact h2
 rw[g48];refine(SaysP.loop (L:=fun i=>g1w (t,l,pl,(i:Int),ts)) (n:=l.length) (p:=p) (g:=()) rfl (fun i hi=>?_) ?_).imp ?_
 · show g1w (t,l,pl,(i:Int),ts)=if p i=true then g1w (t,l,pl,((i+1:Nat):Int),ts)else _
   rw[g1w,if_pos (by simp;omega),if_pos (g6 hi)];simp only[SValue.gr,g7];rw[(hp i hi).1,ge (by omega)];cases p i <;> rfl
 · show g1w (t,l,pl,(l.length:Int),ts)=_;rw[g1w,if_neg (by simp)]
 · rw[g16];constructor
   · intro h x hx;obtain⟨i,hi,rfl⟩:=List.getElem_of_mem hx;have:=(hp i hi).2.1 (h i hi);rw[g15 hi]at this;exact this
   · intro h i hi;exact(hp i hi).2.2 (h _ (g8 hi dSValue))
theorem g5h{l:List SMember}{id:Int}{r:Int × Bool}(h:gi9 l id r) :(r.2=true∧∃j:Nat,j < l.length∧r.1=(j:Int)∧findM l id=some (l.getD j dSMember)∧(l.getD j dSMember).ID=id)∨(r.2=false∧findM l id=none):=by
 rcases h with⟨j,h1,h2,h3,rfl⟩ | ⟨h1,rfl⟩
 · refine .inl ⟨rfl,j,h1,rfl,?_,h2⟩;unfold findM;rw[List.find?_eq_some_iff_getElem];refine⟨by rw[decide_eq_true_eq];exact h2,j,h1,(g15 h1 _).symm,fun k hk=>?_⟩;have:=h3 k hk;rw[g15 (by omega)]at this
   simpa using this
 · refine .inr ⟨rfl,?_⟩;unfold findM;rw[List.find?_eq_none];intro m hm;obtain⟨i,hi,rfl⟩:=List.getElem_of_mem hm;have:=h1 i hi;rw[g15 hi]at this
   simpa using this
theorem g11x{t:SType}(ht:t.Members.length < 9223372036854775807){l:List SRaw}(hl:l.length≤reachBytes) :SaysP (g4v (t,l)) (g72 t.Members l):=by
 have hr:=g12 hl;rw[g4v]
 let p:Nat→Bool:=fun i=>!((g3c (t,(l.getD i dSRaw).ID)).getD (0,false)).2 && (bif decide (1≤(l.getD i dSRaw).ID)then decide ((l.getD i dSRaw).ID≤1000)else false) && (!(decide ((0:Int) < (i:Int))) || !(decide ((l.getD i dSRaw).ID≤(l.getD (subI .i64 (i:Int) 1).toNat dSRaw).ID)))
 refine(SaysP.loop (L:=fun i=>g1k (l,(i:Int),t)) (n:=l.length) (p:=p) (g:=()) rfl (fun i hi=>?_) ?_).imp ?_
 · show g1k (l,(i:Int),t)=if p i=true then g1k (l,((i+1:Nat):Int),t)else _
   obtain⟨r,h1,h2,_⟩:=g3x (t:=t) (l.getD i dSRaw).ID ht;have hpi:p i=(!r.2 && (bif decide (1≤(l.getD i dSRaw).ID)then decide ((l.getD i dSRaw).ID≤1000)else false) && (!(decide ((0:Int) < (i:Int))) || !(decide ((l.getD i dSRaw).ID≤(l.getD (subI .i64 (i:Int) 1).toNat dSRaw).ID)))):=by simp only[p,h1,Option.getD_some]
   rw[hpi,g1k,if_pos (by simp;omega),if_pos (g6 hi)];simp only[g7];rw[h2,ge (by omega)];have hid:g1i ((l.getD i dSRaw).ID,r.2)=some ((!r.2) && (bif decide (1≤(l.getD i dSRaw).ID)then decide ((l.getD i dSRaw).ID≤1000)else false)):=by
     rw[g1i];cases r.2 <;> cases decide (1≤(l.getD i dSRaw).ID) <;> rfl
   show(if inR (i:Int) l.length=true then g1i ((l.getD i dSRaw).ID,r.2) >>=_ else none)=_;rw[if_pos (g6 hi),hid]
   exact gn6 ((!r.2) && (bif decide (1≤(l.getD i dSRaw).ID)then decide ((l.getD i dSRaw).ID≤1000)else false)) (inR (i:Int) l.length) (decide ((0:Int) < (i:Int))) (subI .i64 (i:Int) 1) (fun j=>inR j l.length) (fun j=>decide ((l.getD i dSRaw).ID≤(l.getD j.toNat dSRaw).ID)) _ _ (g6 hi) (fun hz=>by
     have:0 < i:=by simp at hz;omega
     show inR _ _=true
     rw[g91 this (by omega)];exact g6 (by omega))
 · show g1k (l,(l.length:Int),t)=_;rw[g1k,if_neg (by simp)]
 · unfold g72;rw[gm3 (fun a:SRaw=>a.ID) dSRaw];have key:∀i,i < l.length→(p i=true↔(I1000 (l.getD i dSRaw).ID∧findM t.Members (l.getD i dSRaw).ID=none)∧(i=0∨(l.getD (i - 1) dSRaw).ID < (l.getD i dSRaw).ID)):=by
     intro i hi;obtain⟨r,h1,h2,hf⟩:=g3x (t:=t) (l.getD i dSRaw).ID ht;have hpi:p i=(!r.2 && (bif decide (1≤(l.getD i dSRaw).ID)then decide ((l.getD i dSRaw).ID≤1000)else false) && (!(decide ((0:Int) < (i:Int))) || !(decide ((l.getD i dSRaw).ID≤(l.getD (subI .i64 (i:Int) 1).toNat dSRaw).ID)))):=by simp only[p,h1,Option.getD_some]
     rw[hpi];have hn:r.2=false↔findM t.Members (l.getD i dSRaw).ID=none:=by
       rcases g5h hf with⟨a,j,_,_,b,_⟩ | ⟨a,b⟩
       · rw[a,b];simp
       · rw[a,b];simp
     rw[←hn];unfold I1000;by_cases h0:i=0
     · subst h0;cases r.2 <;> by_cases g1:1≤(l.getD 0 dSRaw).ID <;> by_cases g2:(l.getD 0 dSRaw).ID≤1000 <;> simp[g1,g2]
     · have hz:decide ((0:Int) < (i:Int))=true:=by simp;omega
       rw[hz,g91 (by omega) (by omega),g7];generalize (l.getD (i - 1) dSRaw).ID=y;generalize (l.getD i dSRaw).ID=x;cases r.2 <;> by_cases g1:1≤x <;> by_cases g2:x≤1000 <;> by_cases g3:y < x <;> simp[h0,g1,g2,g3] <;> omega
   constructor
   · intro h;refine⟨fun i hi=>?_,fun x hx=>?_⟩
     · have:=((key (i+1) hi).1 (h _ hi)).2;rcases this with h | h
       · omega
       · exact h
     · obtain⟨i,hi,rfl⟩:=List.getElem_of_mem hx;have:=((key i hi).1 (h _ hi)).1;rw[g15 hi]at this;exact this
   · rintro ⟨h1,h2⟩ i hi
     refine(key i hi).2 ⟨h2 _ (g8 hi dSRaw),?_⟩;by_cases h0:i=0
     · exact .inl h0
     · right;have:=h1 (i - 1) (by omega);have e:i - 1+1=i:=by omega
       rw[e]at this;exact this
theorem gzc {t : SType} {v : SValue} (hl : v.Items.length = t.Members.length) (hr : t.Members.length < 9223372036854775807) (ih : ∀ x, x ∈ v.Items → FitS ts x) (pl : Bool) :
   SaysP (g1c (pl,0,ts,v,t.Kind,t.Name,t.Low,t.High,t.Max,t.Symbols,t.Members,t.Key,t.Elem,t.Open) >>=fun o=>match o with | .inl o_1=>some o_1 | .inr _=>some true) (vfitm ts pl t.Members v.Items):=by
 let p:Nat→Bool:=fun i=>(g1q ((⟨ts⟩:SSchema),(t.Members.getD i dSMember).Type_,v.Items.getD i dSValue,pl)).getD false
 have hp:∀i,i < t.Members.length→g1q ((⟨ts⟩:SSchema),(t.Members.getD i dSMember).Type_,v.Items.getD i dSValue,pl)=some (p i)∧(p i=true↔vfit ts pl (t.Members.getD i dSMember).Type_ (v.Items.getD i dSValue)):=by
   intro i hi;obtain⟨r,h1,h2⟩:=ih _ (g8 (by omega:i < v.Items.length) dSValue) (t.Members.getD i dSMember).Type_ pl;refine⟨by simp only[p,h1,Option.getD_some],?_⟩;simp only[p,h1,Option.getD_some];exact h2
 refine(SaysP.loop (L:=fun i=>g1c (pl,(i:Int),ts,v,t.Kind,t.Name,t.Low,t.High,t.Max,t.Symbols,t.Members,t.Key,t.Elem,t.Open)) (n:=t.Members.length) (p:=p) (g:=()) rfl (fun i hi=>?_) ?_).imp ?_
 · show g1c (pl,(i:Int),ts,v,t.Kind,t.Name,t.Low,t.High,t.Max,t.Symbols,t.Members,t.Key,t.Elem,t.Open)=if p i=true then g1c (pl,((i+1:Nat):Int),ts,v,t.Kind,t.Name,t.Low,t.High,t.Max,t.Symbols,t.Members,t.Key,t.Elem,t.Open)else _
   rw[g1c,if_pos (by simp;omega),if_pos (g6 hi),if_pos (g6 (by omega))];simp only[g7,SValue.gr];rw[(hp i hi).1,ge (by omega)];cases p i <;> rfl
 · show g1c (pl,(t.Members.length:Int),ts,v,t.Kind,t.Name,t.Low,t.High,t.Max,t.Symbols,t.Members,t.Key,t.Elem,t.Open)=_;rw[g1c,if_neg (by simp;omega)]
 · rw[g7f];constructor
   · intro h;exact⟨hl,fun i hi=>(hp i hi).2.1 (h i hi)⟩
   · rintro ⟨_,h⟩ i hi;exact(hp i hi).2.2 (h i hi)
theorem g11y {v : SValue} (hr : v.Keys.length < 9223372036854775807) (hk : ∀ x, x ∈ v.Keys → OkV x) :
   SaysP (g11 (1,v) >>=fun o_3=>match o_3 with | .inl o_4=>some o_4 | .inr _=>some true) (g6t v.Keys):=by
 by_cases h0:v.Keys.length=0
 · rw[g11,if_neg (by simp[h0])];refine⟨true,rfl,?_⟩;unfold g6t;simp only[true_iff];intro i hi;omega
 refine(SaysP.loop (L:=fun i=>g11 (((i+1:Nat):Int),v)) (n:=v.Keys.length - 1) (p:=fun i=>!(decide (0≤vcmp (v.Keys.getD i dSValue) (v.Keys.getD (i+1) dSValue)))) (g:=()) rfl (fun i hi=>?_) ?_).imp ?_
 · show g11 (((i+1:Nat):Int),v)=if _ then g11 (((i+1+1:Nat):Int),v)else _
   have hs':subI .i64 ((i+1:Nat):Int) 1=(i:Int):=by rw[g91 (by omega) (by omega)];simp
   obtain⟨r,c1,c2⟩:=gfs (geg (hk _ (g8 (by omega:i < v.Keys.length) dSValue))) (geg (hk _ (g8 (by omega:i+1 < v.Keys.length) dSValue)));have hv:vcmp (v.Keys.getD i dSValue) (v.Keys.getD (i+1) dSValue)=r:=by unfold vcmp;rw[c1];rfl
   rw[hv,g11,if_pos (by simp;omega)];simp only[oZ4,oZ3];rw[hs',if_pos (g6 (by omega)),if_pos (g6 (by omega))];simp only[g7,SValue.gr];rw[c2,ge (by omega)];simp only[oZ3];cases decide (0≤r) <;> rfl
 · have e:v.Keys.length - 1+1=v.Keys.length:=by omega
   show g11 (((v.Keys.length - 1+1:Nat):Int),v)=_;rw[e,g11,if_neg (by simp)]
 · unfold g6t;constructor
   · intro h i hi;have:=h i (by omega)
     simpa using this
   · intro h i hi;have:=h i (by omega)
     simpa using this
theorem g6u (pl : Bool) (t : Int) (v : SValue) : vfit ts pl t v ↔
   (0≤t∧t < ts.length∧v.Kind=(ts.getD t.toNat dSType).Kind∧(pl=true→v.Rest=[]))∧
   (v.Kind=1∧v.Int_=0∧v.Str=[]∧v.ID=0∧v.Keys=[]∧v.Items=[]∧v.Rest=[]∨
   v.Kind=2∧v.Bool_=false∧v.Str=[]∧v.ID=0∧v.Keys=[]∧v.Items=[]∧v.Rest=[]∧(ts.getD t.toNat dSType).Low≤v.Int_∧v.Int_≤(ts.getD t.toNat dSType).High∨
   v.Kind=3∧v.Bool_=false∧v.Int_=0∧v.ID=0∧v.Keys=[]∧v.Items=[]∧v.Rest=[]∧(v.Str.length:Int)≤(ts.getD t.toNat dSType).Max∨
   v.Kind=4∧v.Bool_=false∧v.Int_=0∧v.Str=[]∧v.Keys=[]∧v.Items=[]∧v.Rest=[]∧((∃y,y∈(ts.getD t.toNat dSType).Symbols∧y.ID=v.ID)∨(ts.getD t.toNat dSType).Open=true∧pl=false∧I1000 v.ID)∨
   v.Kind=5∧v.Bool_=false∧v.Int_=0∧v.Str=[]∧v.ID=0∧v.Keys=[]∧g72 (ts.getD t.toNat dSType).Members v.Rest∧vfitm ts pl (ts.getD t.toNat dSType).Members v.Items∨
   v.Kind=6∧v.Bool_=false∧v.Int_=0∧v.Str=[]∧v.Keys=[]∧(match findM (ts.getD t.toNat dSType).Members v.ID with
     | some m=>v.Rest=[]∧v.Items.length=1∧vfits ts pl m.Type_ v.Items
     | none=>(ts.getD t.toNat dSType).Open=true∧pl=false∧I1000 v.ID∧v.Items=[]∧∃d,v.Rest=[⟨v.ID,d⟩])∨
   v.Kind=7∧v.Bool_=false∧v.Int_=0∧v.Str=[]∧v.ID=0∧v.Keys=[]∧v.Rest=[]∧(v.Items.length:Int)≤(ts.getD t.toNat dSType).Max∧vfits ts pl (ts.getD t.toNat dSType).Elem v.Items∨
   v.Kind=8∧v.Bool_=false∧v.Int_=0∧v.Str=[]∧v.ID=0∧v.Rest=[]∧(v.Keys.length:Int)≤(ts.getD t.toNat dSType).Max∧v.Items.length=v.Keys.length∧vfits ts pl (ts.getD t.toNat dSType).Key v.Keys∧vfits ts pl (ts.getD t.toNat dSType).Elem v.Items∧g6t v.Keys∨
   v.Kind=9∧v.Bool_=false∧v.Int_=0∧v.Str=[]∧v.ID=0∧v.Keys=[]∧v.Rest=[]∧v.Items.length≤1∧vfits ts pl (ts.getD t.toNat dSType).Elem v.Items):=by
 cases v;rw[vfit];try exact Iff.rfl
end
end
section
open Go Go.Proofs.YthnmepafpikaiaaGreat.Shv Go.Sort
set_option maxRecDepth 100000
def ZeroV(v:SValue) :Prop:=(v.Kind=1∨v.Bool_=false)∧(v.Kind=2∨v.Int_=0)∧(v.Kind=3∨v.Str=[])∧((v.Kind=4∨v.Kind=6)∨v.ID=0)∧(v.Kind=8∨v.Keys=[])∧(5≤v.Kind∨v.Items=[])∧((v.Kind=5∨v.Kind=6)∨v.Rest=[])
theorem g11z(v:SValue) :SaysP (g5m v) (ZeroV v):=by
 rw[g5m];refine .of ?_;unfold ZeroV;have e:∀{α:Type} (l:List α),((l.length:Int)=0)↔l=[]:=fun l=>by
   cases l with
   | nil=>simp
   | cons a l=>simp;omega
 simp only[Bool.cond_eq_ite,Bool.ite_eq_true_distrib,e];have h1:∀{a b:Bool},(if a=true then true else b)=true↔(a=true∨b=true):=fun {a b}=>by cases a <;> simp
 have h2:∀{a b:Bool},(if a=true then b else false)=true↔(a=true∧b=true):=fun {a b}=>by cases a <;> simp
 simp[and_assoc];constructor
 · rintro h
   simp_all
   grind
 · grind
theorem cutS{z b:Bool}{o:Option Bool}{P Z Q:Prop}(hz:z=true↔Z)(hb:b=false↔Q)(ho:SaysP o P) :SaysP (if(bif (bif false then true else(!z))then true else b)=true then some false else o) (Z∧Q∧P):=by
 obtain⟨r,rfl,h⟩:=ho;cases z with
 | false=>
   refine⟨false,rfl,?_⟩;simp at hz;simp[hz]
 | true=>
   cases b with
   | true=>refine⟨false,rfl,?_⟩;simp at hb;simp[hb]
   | false=>refine⟨r,rfl,?_⟩;simp at hz hb;simp[hz,hb,h]
theorem and2S{q:Bool}{o:Option Bool}{P Q:Prop}(hq:q=true↔Q)(ho:SaysP o P) :SaysP (some q >>=fun t244=>(if t244=true then o else some false) >>=fun r_10=>some (bif t244 then r_10 else false)) (Q∧P):=by
 obtain⟨r,rfl,h⟩:=ho;refine⟨q && r,by cases q <;> cases r <;> rfl,?_⟩;rw[Bool.and_eq_true,hq,h]
theorem and5S {A : Bool} {ro L : Option Bool} {PA PR PM : Prop} (hA : A = true ↔ PA) (hr : SaysP ro PR) (hM : A = true → SaysP L PM) :
   SaysP (some (!A) >>=fun t107=>(if(!t107)=true then ro else some false) >>=fun r_5=>if(bif t107 then true else(!r_5))=true then some false else L) (PA∧PR∧PM):=by
 obtain⟨q,rfl,hq⟩:=hr;cases A with
 | false=>refine⟨false,rfl,?_⟩;simp at hA;simp[hA]
 | true=>
   obtain⟨m,rfl,hm⟩:=hM rfl;cases q with
   | false=>refine⟨false,rfl,?_⟩;simp at hq;simp[hq]
   | true=>refine⟨m,rfl,?_⟩;simp at hA hq;simp[hA,hq,hm]
theorem and8S {c : Bool} {ok oi L : Option Bool} {PC PK PI PQ : Prop} (hc : c = false ↔ PC) (hk : SaysP ok PK) (hi : SaysP oi PI) (hL : SaysP L PQ) :
   SaysP (some c >>=fun t239=>(if(!t239)=true then ok else some false) >>=fun r_12=>some (bif t239 then true else(!r_12)) >>=fun t249=>(if(!t249)=true then oi else some false) >>=fun r_13=>if(bif t249 then true else(!r_13))=true then some false else L) (PC∧PK∧PI∧PQ):=by
 obtain⟨k,rfl,hk⟩:=hk;obtain⟨i,rfl,hi⟩:=hi;obtain⟨q,rfl,hq⟩:=hL;rw[←hc,←hk,←hi,←hq];cases c <;> cases k <;> cases i <;> exact⟨_,rfl,by simp⟩
theorem ge5{l:List SSymbol}{id:Int}{r:Int × Bool}(h:gia l id r) :r.2=true↔∃y,y∈l∧y.ID=id:=by
 rcases h with⟨j,h1,h2,h3,rfl⟩ | ⟨h1,rfl⟩
 · simp only[true_iff];exact⟨_,g8 h1 dSSymbol,h2⟩
 · constructor
   · intro h;cases h
   · rintro ⟨y,hy,he⟩
     obtain⟨i,hi,rfl⟩:=List.getElem_of_mem hy;have:=h1 i hi;rw[g15 hi]at this;exact absurd he this
section
variable {ts:List SType} (hn:ts.length < 9223372036854775807) (hT:∀t,t∈ts→OkT t) (hK:∀t,t∈ts→ga5 t.Kind)
include hn hT hK in
theorem g13n{v:SValue}(hv:OkV v) :FitS ts v:=by
 induction hv with
 | mk v hs h1 h2 h3 hk hi hrd n1 n2 n3 n4 ihk ihi=>
   intro t pl;rw[g1q];by_cases hout:(bif decide (t < 0)then true else decide (((⟨ts⟩:SSchema).Types.length:Int)≤t))=true
   · rw[if_pos hout];refine⟨false,rfl,?_⟩;rw[g6u];have:¬(0≤t∧t < ts.length):=by
       intro hh;simp only[Bool.cond_eq_ite]at hout;by_cases h0:t < 0
       · omega
       · simp[h0]at hout;omega
     constructor
     · intro h;cases h
     · rintro ⟨⟨a,b,_⟩,_⟩;exact absurd ⟨a,b⟩ this
   · rw[if_neg hout];have hin:0≤t∧t < ts.length:=by
       simp only[Bool.cond_eq_ite]at hout;by_cases h0:t < 0
       · simp[h0]at hout
       · simp[h0]at hout;omega
     obtain⟨j,rfl⟩:∃j:Nat,t=(j:Int):=⟨t.toNat,by omega⟩
     have hj:j < ts.length:=by omega
     rw[if_pos (g6 hj)];simp only[g6u,g7,SValue.gr];have hxT:=hT _ (g8 hj dSType);have hxK:=hK _ (g8 hj dSType);generalize ts.getD j dSType=x at hxT hxK ⊢;have hm:=g12 (g3h hxT.mems);have hsy:=g12 (g3h hxT.syms);by_cases hkd:v.Kind=x.Kind
     · obtain⟨z,z1,z2⟩:=g11z v;have hitems:=guo (ts:=ts) h2 ihi;have hkeys:=guo (ts:=ts) h1 ihk;show SaysP ((if(!(!(decide (v.Kind=x.Kind))))=true then g5m v else some false) >>=_) _;rw[if_pos (by simp[hkd]),z1];obtain⟨K,N,L,H,M,S,Ms,Ke,E,O⟩:=x;obtain⟨vK,B,I,Sx,ID,Ks,Is,R⟩:=v;simp only at hkd;subst hkd;simp only at hxK hm hsy h1 h2 h3 z1
       have hb:(bif pl then decide (0 < (R.length:Int))else false)=false↔(pl=true→R=[]):=by
         cases pl
         · simp
         · cases R <;> simp
       have hc:vK=1∨vK=2∨vK=3∨vK=4∨vK=5∨vK=6∨vK=7∨vK=8∨vK=9:=by unfold ga5 at hxK;omega
       have cut : ∀ {o : Option Bool} {P W : Prop}, SaysP o P → ((ZeroV ⟨vK, B, I, Sx, ID, Ks, Is, R⟩ ∧ (pl = true → R = []) ∧ P) ↔ W) →
           SaysP (some z >>=fun r=>if(bif (bif false then true else(!r))then true else bif pl then decide (0 < (R.length:Int))else false)=true then some false else o) W:=fun ho hw=>(cutS z2 hb ho).imp hw
       have hz:(0:Int)≤j∧(j:Int) < ts.length:=hin;rcases hc with rfl | rfl | rfl | rfl | rfl | rfl | rfl | rfl | rfl
       · exact cut (P:=True) (.of (b:=true) (by simp)) (by unfold ZeroV;simp[hz];grind)
       · exact cut (P:=L≤I∧I≤H) (.of (b:=bif decide (L≤I)then decide (I≤H)else false) (by by_cases g:L≤I <;> simp[g])) (by unfold ZeroV;simp[hz];grind)
       · exact cut (P:=(Sx.length:Int)≤M) (.of (b:=decide ((Sx.length:Int)≤M)) (by simp)) (by unfold ZeroV;simp[hz];grind)
       · obtain⟨r,_,r2,hf⟩:=gaw (t:=⟨4,N,L,H,M,S,Ms,Ke,E,O⟩) ID hsy;have hid:g1i (ID,false)=some (bif decide (1≤ID)then decide (ID≤1000)else false):=by
           rw[g1i];cases decide (1≤ID) <;> rfl
         have h4:=k4r r2 O pl _ (fun b=>g1i (ID,b)) hid;have hs:=ge5 hf;simp only at hs;refine cut (P:=(∃y,y∈S∧y.ID=ID)∨O=true∧pl=false∧I1000 ID) ⟨_,h4,?_⟩ (by unfold ZeroV;simp[hz];grind);rw[←hs];unfold I1000;cases r.2 <;> cases O <;> cases pl <;> by_cases g1:1≤ID <;> by_cases g2:ID≤1000 <;> simp[g1,g2]
       · refine cut (P:=Is.length=Ms.length∧g72 Ms R∧vfitm ts pl Ms Is) ?_ (by
           have:vfitm ts pl Ms Is→Is.length=Ms.length:=fun h=>(g7f.1 h).1
           unfold ZeroV;simp[hz];grind)
         exact and5S (A:=decide ((Is.length:Int)=(Ms.length:Int))) (by simp;omega) (g11x (t:=⟨5,N,L,H,M,S,Ms,Ke,E,O⟩) hm h3) (fun hA=>gzc (ts:=ts) (t:=⟨5,N,L,H,M,S,Ms,Ke,E,O⟩) (v:=⟨5,B,I,Sx,ID,Ks,Is,R⟩) (gps hA) hm ihi pl)
       · obtain⟨r,_,r2,hf⟩:=g3x (t:=⟨6,N,L,H,M,S,Ms,Ke,E,O⟩) ID hm;have hid:∀b,b=false→g1i (ID,b)=some (bif decide (1≤ID)then decide (ID≤1000)else false):=by
           intro b hb;subst hb;rw[g1i];cases decide (1≤ID) <;> rfl
         have hR0:decide ((R.length:Int)=1)=true→inR 0 R.length=true:=by
           intro h;have:=of_decide_eq_true h;exact g6 (k:=0) (by omega)
         refine cut (P:=match findM Ms ID with
           | some m=>R=[]∧Is.length=1∧vfits ts pl m.Type_ Is
           | none=>O=true∧pl=false∧I1000 ID∧Is=[]∧∃d,R=[⟨ID,d⟩]) ?_ (by
             unfold ZeroV;simp[hz]
             cases findM Ms ID <;> grind)
         obtain⟨ri,rk⟩:=r;show SaysP (g1a (⟨6,N,L,H,M,S,Ms,Ke,E,O⟩,ID) >>=_) _;rw[r2];rcases g5h hf with⟨e,k,k1,k2,k3,k4⟩ | ⟨e,k3⟩
         · simp only at e k1 k2 k3 k4;subst e;subst k2;rw[k3];have hX:∃f:Bool,((bif decide ((Is.length:Int)=1)then decide ((R.length:Int)=0)else false)=true→g1q ((⟨ts⟩:SSchema),(Ms.getD (k:Int).toNat dSMember).Type_,Is.getD (0:Int).toNat dSValue,pl)=some f)∧(Is.length=1→(f=true↔vfits ts pl (Ms.getD k dSMember).Type_ Is)):=by
             by_cases h1':Is.length=1
             · obtain⟨f,f1,f2⟩:=ihi (Is.getD 0 dSValue) (g8 (by omega:0 < Is.length) dSValue) (Ms.getD k dSMember).Type_ pl;refine⟨f,fun _=>f1,fun _=>?_⟩;rw[f2]
               match Is,h1' with
               | [y],_=>rw[g16];simp
             · refine⟨false,fun h=>?_,fun h=>absurd h h1'⟩
               exfalso
               have:decide ((Is.length:Int)=1)=false:=by simp;omega
               rw[this]at h;cases h
           obtain⟨f,f1,f2⟩:=hX;have hidx:(bif decide ((Is.length:Int)=1)then decide ((R.length:Int)=0)else false)=true→inR (k:Int) Ms.length=true∧inR 0 Is.length=true:=by
             intro hc';refine⟨g6 k1,?_⟩;by_cases h1':Is.length=1
             · exact g6 (k:=0) (by omega)
             · have:decide ((Is.length:Int)=1)=false:=by simp;omega
               rw[this]at hc';cases hc'
           refine⟨_,k6k _ (inR (k:Int) Ms.length) (inR 0 Is.length) f f1 hidx,?_⟩;by_cases g1:Is.length=1
           · have g2:=f2 g1;simp only[g1,Bool.and_eq_true,g2];cases R <;> simp <;> omega
           · have:decide ((Is.length:Int)=1)=false:=by simp;omega
             simp[this,g1]
         · simp only at e k3;subst e;rw[k3];refine⟨_,k6u (bif O then(!pl)else false) (bif decide (1≤ID)then decide (ID≤1000)else false) (decide ((Is.length:Int)=0)) (decide ((R.length:Int)=1)) (inR 0 R.length) (decide ((R.getD (0:Int).toNat dSRaw).ID=ID)) hR0,?_⟩;unfold I1000
           match R with
           | []=>simp
           | [⟨rid,rd⟩]=>
             cases O <;> cases pl <;> by_cases g1:1≤ID <;> by_cases g2:ID≤1000 <;> cases Is <;> by_cases g3:rid=ID <;> simp[g1,g2,g3] <;> omega
           | a::b::c=>simp;omega
       · exact cut (P:=(Is.length:Int)≤M∧vfits ts pl E Is) (and2S (by simp) (hitems E pl)) (by unfold ZeroV;simp[hz];grind)
       · refine cut (P:=((Ks.length:Int)≤M∧Is.length=Ks.length)∧vfits ts pl Ke Ks∧vfits ts pl E Is∧g6t Ks) ?_ (by unfold ZeroV;simp[hz];grind);refine and8S (c:=bif decide (M < (Ks.length:Int))then true else(!(decide ((Is.length:Int)=(Ks.length:Int))))) ?_ (hkeys Ke pl) (hitems E pl) (g11y (v:=⟨8,B,I,Sx,ID,Ks,Is,R⟩) (g12 h1) hk)
         by_cases g1:M < (Ks.length:Int)
         · simp[g1];omega
         · simp[g1];omega
       · exact cut (P:=Is.length≤1∧vfits ts pl E Is) (and2S (q:=decide ((Is.length:Int)≤1)) (by simp;omega) (hitems E pl)) (by unfold ZeroV;simp[hz];grind)
     · refine⟨false,by simp[hkd],?_⟩;constructor
       · intro h;cases h
       · rintro ⟨⟨_,_,a,_⟩,_⟩;exact absurd a hkd
end
end
section
open Go Go.Proofs.YthnmepafpikaiaaGreat.Shv Go.Sort
set_option maxRecDepth 100000
theorem room1{n:Nat}(h:n≤70368744177664) :room 1 n=true:=by
 unfold room g4p g1t;simp only[Bool.and_eq_true,decide_eq_true_eq];omega
theorem g120{n:Nat}(h:n≤2199023255552) :room 24 n=true:=by
 unfold room g4p g1t;simp only[Bool.and_eq_true,decide_eq_true_eq];omega
theorem bws{s b:List UInt8}(h:b.length+s.length≤70368744177664) :g2q (s,b)=some ((s.length:Int),b++s):=by
 rw[g2q];simp only[oZ4,oZ3];rw[if_pos (by simp),if_pos (room1 h)];rfl
theorem bstr(b:List UInt8) :g5d b=some b:=by
 rw[g5d,if_pos (by simp[eqI])]
theorem gic(a b:Nat) :maxI (a:Int) (b:Int)=((max a b:Nat):Int):=by unfold maxI;omega
theorem g1x{α:Type}{l:List α}{i:Nat}(h:i < l.length)(d:α) :l.drop i=l.getD i d::l.drop (i+1):=by
 rw[g15 h];exact List.drop_eq_getElem_cons h
def ent(f:Fd) :EncodeEntry:=⟨(f.id:Int),f.text⟩
theorem gzd{m:SMember}(hm:OkV m.Default)(v:SValue) :gag (m,v)=some (om m v):=by
 rw[gag];unfold om;cases hd:m.HasDefault with
 | false=>simp
 | true=>
   obtain⟨r,h1,h2⟩:=gz3 hm v;simp only[SValue.gr];rw[if_pos trivial,h1];simp only[oZ4,oZ3,cond_true,Bool.true_and]
   congr 1
   by_cases e:m.Default=v
   · simp[e,h2.2 e]
   · have:r≠true:=fun h=>e (h2.1 h)
     simp[e,this]
theorem gx4{m:SMember}{v:SValue}(hv:OkV v)(hd:m.HasDefault=true) :g1e (v,m.Default)=some (om m v):=by
 obtain⟨r,h1,h2⟩:=gqk hv m.Default;rw[h1];unfold om;rw[hd,Bool.true_and]
 congr 1
 by_cases e:m.Default=v
 · simp[e,h2.2 e.symm]
 · have:r≠true:=fun h=>e (h2.1 h).symm
   simp[e,this]
section
variable {ts:List SType}
def Wr(ts:List SType)(x:SValue)(t:Int) :Prop:=∀L D:Nat,1≤L→L+wt x≤1125899906842624→g1d (t,x,(L:Int),ts,(D:Int))=some (vpay ts t x,ts,((max D (L+vlev ts t x - 1):Nat):Int))
theorem grv :∀{ms:List SMember} {l:List SValue},(vents ts ms l).length≤ms.length
 | [],l=>by
   rw[vents]
   · simp
   · intros;simp_all
 | m::ms,[]=>by
   rw[vents]
   · simp
   · intros;simp_all
 | m::ms,v::l=>by
   rw[vents];have:=grv (ms:=ms) (l:=l);split <;> simp <;> omega
theorem gb8(t:Int)(v:SValue) :1≤vlev ts t v:=by
 cases v;rw[vlev];omega
theorem g121 {Ms : List SMember} {v : SValue} (hM : Ms.length ≤ 1000) (hd : ∀ m, m ∈ Ms → OkV m.Default) (hid : ∀ m, m ∈ Ms → I1000 m.ID) (hl : v.Items.length = Ms.length) (hlen : ∀ x, x ∈ v.Items → ∀ t, (vpay ts t x).length ≤ 70368744177664)
   (hw:∀i,i < Ms.length→om (Ms.getD i dSMember) (v.Items.getD i dSValue)=false→Wr ts (v.Items.getD i dSValue) (Ms.getD i dSMember).Type_) (L:Nat) (hL:1≤L) (hLw:L+wts v.Items < 1125899906842624):
   ∀(k i:Nat) (D:Nat) (acc:List EncodeEntry),i+k=Ms.length→L≤D→acc.length+k≤100000→
   g2y ((L:Int),Ms,(Ms.length:Int),(i:Int),ts,(D:Int),v,acc)=some (ts,((max D (L+vlevm ts (Ms.drop i) (v.Items.drop i)):Nat):Int),v,acc++(vents ts (Ms.drop i) (v.Items.drop i)).map ent)
 | 0,i,D,acc,hi,hD,ha=>by
   rw[g2y,if_neg (by simp;omega),SValue.gr,List.drop_eq_nil_of_le (by omega:Ms.length≤i)];rw[vlevm,vents]
   · simp;omega
   · intros;simp_all
   · intros;simp_all
 | k+1,i,D,acc,hi,hD,ha=>by
   have hlt:i < Ms.length:=by omega
   have hlt2:i < v.Items.length:=by omega
   rw[g2y,if_pos (by simp;omega),if_pos (g6 hlt)];simp only[oZ4,oZ3,g7,SValue.gr,g6m];rw[if_pos (g6 hlt2),gzd (hd _ (g8 hlt dSMember))];rw[g1x hlt dSMember,g1x hlt2 dSValue,vlevm,vents];have hrec:=g121 hM hd hid hl hlen hw L hL hLw k (i+1);cases ho:om (Ms.getD i dSMember) (v.Items.getD i dSValue)with
   | true=>
     simp only[oZ3,Bool.not_true,Bool.false_eq_true,if_false,if_true];rw[ge (by omega)];exact hrec D acc (by omega) hD (by omega)
   | false=>
     have hmem:v.Items.getD i dSValue∈v.Items:=g8 hlt2 dSValue;have hwm:=g2o hmem;have hW:=hw i hlt ho (L+1) D (by omega) (by omega);have hlv:=gb8 (ts:=ts) (Ms.getD i dSMember).Type_ (v.Items.getD i dSValue);have hI:=hid _ (g8 hlt dSMember);obtain⟨n,hn⟩:∃n:Nat,(Ms.getD i dSMember).ID=(n:Int):=⟨(Ms.getD i dSMember).ID.toNat,by unfold I1000 at hI;omega⟩
     simp only[oZ3,Bool.not_false,if_true,Bool.false_eq_true,if_false];have hpl:=hlen _ hmem (Ms.getD i dSMember).Type_;have e1:addI .i64 (L:Int) 1=((L+1:Nat):Int):=ge (by omega);rw[if_pos (g6 hlt2),e1,hW];simp only[oZ3];rw[hn,gue (by unfold I1000 at hI;omega) (by omega)];simp only[oZ3]
     rw[if_pos (g120 (by simp;omega)),ge (by omega),hrec _ _ (by omega) (by omega) (by simp;omega)];have:(⟨(n:Int),g4j n (Ms.getD i dSMember).Critical (vpay ts (Ms.getD i dSMember).Type_ (v.Items.getD i dSValue))⟩:EncodeEntry)=ent ⟨(n:Int).toNat,(Ms.getD i dSMember).Critical,vpay ts (Ms.getD i dSMember).Type_ (v.Items.getD i dSValue)⟩:=by
       unfold ent Fd.text;simp
     rw[this];simp only[List.map_cons,List.append_assoc,List.singleton_append]
     congr 3
     have:max (max D (L+1+vlev ts (Ms.getD i dSMember).Type_ (v.Items.getD i dSValue) - 1)) (L+vlevm ts (Ms.drop (i+1)) (v.Items.drop (i+1)))=max D (L+max (vlev ts (Ms.getD i dSMember).Type_ (v.Items.getD i dSValue)) (vlevm ts (Ms.drop (i+1)) (v.Items.drop (i+1)))):=by omega
     rw[this]
theorem g122 {R : List SRaw} (hr : ∀ x, x ∈ R → I1000 x.ID ∧ x.Data.length ≤ reachBytes) (hR : R.length ≤ 2199023255552) (D : Int) : ∀ (k i : Nat) (acc : List EncodeEntry), i + k = R.length → acc.length + k ≤ 2199023255552 →
   g2w (R,(R.length:Int),(i:Int),ts,D,acc)=some (ts,D,acc++((R.drop i).map rawF).map ent)
 | 0,i,acc,hi,ha=>by
   rw[g2w,if_neg (by simp;omega),List.drop_eq_nil_of_le (by omega:R.length≤i)];simp
 | k+1,i,acc,hi,ha=>by
   have hlt:i < R.length:=by omega
   obtain⟨hI,hdl⟩:=hr _ (g8 hlt dSRaw);obtain⟨n,hn⟩:∃n:Nat,(R.getD i dSRaw).ID=(n:Int):=⟨(R.getD i dSRaw).ID.toNat,by unfold I1000 at hI;omega⟩
   unfold reachBytes at hdl;rw[g2w,if_pos (by simp;omega),if_pos (g6 hlt)];simp only[oZ4,oZ3,g7];rw[hn,gue (by unfold I1000 at hI;omega) (by omega)];simp only[oZ3];rw[if_pos (g120 (by simp;omega)),ge (by omega),g122 hr hR D k (i+1) _ (by omega) (by simp;omega),g1x hlt dSRaw]
   have:(⟨(n:Int),g4j n false (R.getD i dSRaw).Data⟩:EncodeEntry)=ent (rawF (R.getD i dSRaw)):=by
     show _=(⟨(((R.getD i dSRaw).ID.toNat:Nat):Int),g4j (R.getD i dSRaw).ID.toNat false (R.getD i dSRaw).Data⟩:EncodeEntry);rw[hn,Int.toNat_natCast]
   rw[this];simp
theorem g123 {l : List Fd} (D : Int) : ∀ (k i : Nat) (b : List UInt8), i + k = l.length → l.length ≤ 2199023255552 → b.length + ((l.drop i).flatMap Fd.text).length ≤ 70368744177664 →
   g2x ((l.length:Int),(i:Int),ts,D,l.map ent,b)=some (ts,D,b++(l.drop i).flatMap Fd.text)
 | 0,i,b,hi,_,hb=>by
   rw[g2x,if_neg (by simp;omega),List.drop_eq_nil_of_le (by omega:l.length≤i)];simp
 | k+1,i,b,hi,hl,hb=>by
   have hlt:i < l.length:=by omega
   rw[g2x,if_pos (by simp;omega),if_pos (g6 (by simp;omega)),if_pos (by simp;omega)];rw[g1x hlt default]at hb ⊢;simp only[List.flatMap_cons,List.length_append]at hb ⊢;have hg:(l.map ent).getD i dEncodeEntry=ent (l.getD i default):=g2k ent l i default dEncodeEntry hlt;simp only[g7,hg];have:(ent (l.getD i default)).text=(l.getD i default).text:=rfl
   rw[this,bws (by omega)];simp only[oZ4,oZ3];rw[ge (by omega),g123 D k (i+1) _ (by omega) hl (by rw[List.length_append];omega)];simp
end
end
section
open Go Go.Proofs.YthnmepafpikaiaaGreat.Shv Go.Sort
set_option maxRecDepth 100000
structure SOk (ts:List SType):Prop where
 n:ts.length≤1000
 T:∀t,t∈ts→OkT t
 K:∀t,t∈ts→ga5 t.Kind
 M:MOk ts
 A:∀x,x∈ts→(x.Kind=5∨x.Kind=6)→MAsc x.Members∧x.Members.length≤16
 S:∀x,x∈ts→x.Kind=4→∀y,y∈x.Symbols→I1000 y.ID
 Ky:∀x,x∈ts→x.Kind=8→1≤(ts.getD x.Key.toNat dSType).Kind∧(ts.getD x.Key.toNat dSType).Kind≤4
section
variable {ts:List SType}
theorem vpay1{t:Int}{v:SValue}(h:(ts.getD t.toNat dSType).Kind=1) :vpay ts t v=if v.Bool_=true then[1]else[]:=by
 cases v;rw[vpay];simp only[h];rfl
theorem vpay2{t:Int}{v:SValue}(h:(ts.getD t.toNat dSType).Kind=2) :vpay ts t v=vbig (zig v.Int_).toNat:=by
 cases v;rw[vpay];simp only[h];rfl
theorem vpay3{t:Int}{v:SValue}(h:(ts.getD t.toNat dSType).Kind=3) :vpay ts t v=v.Str:=by
 cases v;rw[vpay];simp only[h];rfl
theorem vpay4{t:Int}{v:SValue}(h:(ts.getD t.toNat dSType).Kind=4) :vpay ts t v=vbig v.ID.toNat:=by
 cases v;rw[vpay];simp only[h];rfl
theorem vpay5{t:Int}{v:SValue}(h:(ts.getD t.toNat dSType).Kind=5) :vpay ts t v=(isoB ltF (g3a ts (ts.getD t.toNat dSType).Members v.Items v.Rest)).flatMap Fd.text:=by
 cases v;rw[vpay];simp only[h];rfl
theorem vpay6 {t : Int} {v : SValue} (h : (ts.getD t.toNat dSType).Kind = 6) : vpay ts t v = vput v.ID.toNat ++ (match findM (ts.getD t.toNat dSType).Members v.ID with
     | some m=>(vpays ts m.Type_ v.Items).headD []
     | none=>(v.Rest.map SRaw.Data).headD []):=by
 cases v;rw[vpay];simp only[h];rfl
theorem vpay7{t:Int}{v:SValue}(h:(ts.getD t.toNat dSType).Kind=7) :vpay ts t v=(vpays ts (ts.getD t.toNat dSType).Elem v.Items).flatMap g1s:=by
 cases v;rw[vpay];simp only[h];rfl
theorem vpay8{t:Int}{v:SValue}(h:(ts.getD t.toNat dSType).Kind=8) :vpay ts t v=ilv (vpays ts (ts.getD t.toNat dSType).Key v.Keys) (vpays ts (ts.getD t.toNat dSType).Elem v.Items):=by
 cases v;rw[vpay];simp only[h];rfl
theorem vpay9 {t : Int} {v : SValue} (h : (ts.getD t.toNat dSType).Kind = 9) : vpay ts t v = match vpays ts (ts.getD t.toNat dSType).Elem v.Items with
     | []=>[]
     | p::_=>1::p:=by
 cases v;rw[vpay];simp only[h];rfl
theorem gm4 (t : Int) (v : SValue) : vlev ts t v = 1 + max (if v.Keys = [] then 0 else 1) (if (ts.getD t.toNat dSType).Kind = 5 then vlevm ts (ts.getD t.toNat dSType).Members v.Items
     else if(ts.getD t.toNat dSType).Kind=6 then(match findM (ts.getD t.toNat dSType).Members v.ID with
       | some m=>vlevs ts m.Type_ v.Items
       | none=>0)
     else vlevs ts (ts.getD t.toNat dSType).Elem v.Items):=by
 cases v;rw[vlev];try rfl
theorem glv{t:Int}{v:SValue}(hk:v.Keys=[])(hi:v.Items=[]) :vlev ts t v=1:=by
 rw[gm4,hk,hi];have h1:vlevs ts (ts.getD t.toNat dSType).Elem []=0:=by rw[vlevs]
 have h2:vlevm ts (ts.getD t.toNat dSType).Members []=0:=by
   rw[vlevm];intros;simp_all
 rw[h1,h2]
 have h3 : (match findM (ts.getD t.toNat dSType).Members v.ID with
       | some m=>vlevs ts m.Type_ []
       | none=>0)=0:=by
   split
   · rw[vlevs]
   · rfl
 rw[h3];simp
theorem grw {x : SType} {v : SValue} (h8 : ¬ x.Kind = 8) (hlen : ∀ y, y ∈ v.Items → (vpay ts x.Elem y).length ≤ 1000000000000000) (hw : ∀ y, y ∈ v.Items → Wr ts y x.Elem) (hl : v.Items.length ≤ reachBytes) (L : Nat) (hL : 1 ≤ L) (hLw : L + wts v.Items < 1125899906842624) :
   ∀(k i D:Nat) (acc:List UInt8),i+k=v.Items.length→L≤D→acc.length+((vpays ts x.Elem (v.Items.drop i)).flatMap g1s).length≤70368744177664→
   g1g ((L:Int),v.Items,(v.Items.length:Int),(i:Int),ts,(D:Int),v,x,acc)=some (ts,((max D (L+vlevs ts x.Elem (v.Items.drop i)):Nat):Int),acc++(vpays ts x.Elem (v.Items.drop i)).flatMap g1s)
 | 0,i,D,acc,hi,hD,ha=>by
   rw[g1g,if_neg (by simp;omega),List.drop_eq_nil_of_le (by omega:v.Items.length≤i),vlevs,vpays];simp;omega
 | k+1,i,D,acc,hi,hD,ha=>by
   have hlt:i < v.Items.length:=by omega
   have hr:=g12 hl;have hmem:v.Items.getD i dSValue∈v.Items:=g8 hlt dSValue;have hwm:=g2o hmem;rw[g1x hlt dSValue,vpays,List.flatMap_cons,List.length_append]at ha;have hp:=hlen _ hmem;have hW:=hw _ hmem (L+1) D (by omega) (by omega);have hlv:=gb8 (ts:=ts) x.Elem (v.Items.getD i dSValue);have e1:addI .i64 (L:Int) 1=((L+1:Nat):Int):=ge (by omega)
   rw[g1g,if_pos (by simp;omega),if_pos (g6 hlt)];simp only[oZ4,oZ3,g7,SValue.gr];rw[if_neg (by simp[h8]),e1,hW];simp only[oZ3];rw[gj8 (by omega)];simp only[oZ3];rw[bws (by omega)];simp only[oZ3]
   rw[ge (by omega),grw h8 hlen hw hl L hL hLw k (i+1) _ _ (by omega) (by omega) (by rw[List.length_append];omega),g1x hlt dSValue,vlevs,vpays,List.flatMap_cons,List.append_assoc]
   have:max (max D (L+1+vlev ts x.Elem (v.Items.getD i dSValue) - 1)) (L+vlevs ts x.Elem (v.Items.drop (i+1)))=max D (L+max (vlev ts x.Elem (v.Items.getD i dSValue)) (vlevs ts x.Elem (v.Items.drop (i+1)))):=by omega
   rw[this]
theorem gup {x : SType} {v : SValue} (h8 : x.Kind = 8) (hkl : v.Items.length = v.Keys.length) (hlen : ∀ y, y ∈ v.Items → (vpay ts x.Elem y).length ≤ 1000000000000000) (hlenk : ∀ y, y ∈ v.Keys → (vpay ts x.Key y).length ≤ 1000000000000000)
   (hw:∀y,y∈v.Items→Wr ts y x.Elem) (hwk:∀y,y∈v.Keys→Wr ts y x.Key) (h1:∀y,y∈v.Keys→vlev ts x.Key y=1) (hl:v.Items.length≤reachBytes) (L:Nat) (hL:1≤L) (hLw:L+wts v.Items+wts v.Keys < 1125899906842624):
   ∀(k i D:Nat) (acc:List UInt8),i+k=v.Items.length→L≤D→acc.length+(ilv (vpays ts x.Key (v.Keys.drop i)) (vpays ts x.Elem (v.Items.drop i))).length≤70368744177664→
   g1g ((L:Int),v.Items,(v.Items.length:Int),(i:Int),ts,(D:Int),v,x,acc)=some (ts,((max D (L+max (if v.Keys.drop i=[]then 0 else 1) (vlevs ts x.Elem (v.Items.drop i))):Nat):Int),acc++ilv (vpays ts x.Key (v.Keys.drop i)) (vpays ts x.Elem (v.Items.drop i)))
 | 0,i,D,acc,hi,hD,ha=>by
   rw[g1g,if_neg (by simp;omega),List.drop_eq_nil_of_le (by omega:v.Items.length≤i),List.drop_eq_nil_of_le (by omega:v.Keys.length≤i),vlevs,vpays,vpays,ilv]
   · simp;omega
   · intros;simp_all
 | k+1,i,D,acc,hi,hD,ha=>by
   have hlt:i < v.Items.length:=by omega
   have hlt2:i < v.Keys.length:=by omega
   have hr:=g12 hl;have hmem:v.Items.getD i dSValue∈v.Items:=g8 hlt dSValue;have hmem2:v.Keys.getD i dSValue∈v.Keys:=g8 hlt2 dSValue;have hwm:=g2o hmem;have hwm2:=g2o hmem2;rw[g1x hlt dSValue,g1x hlt2 dSValue,vpays,vpays,ilv,List.length_append,List.length_append]at ha;have hp:=hlen _ hmem;have hp2:=hlenk _ hmem2
   have hW2:=hwk _ hmem2 (L+1) D (by omega) (by omega);rw[h1 _ hmem2]at hW2;have hW:=hw _ hmem (L+1) (max D (L+1+1 - 1)) (by omega) (by omega);have hlv:=gb8 (ts:=ts) x.Elem (v.Items.getD i dSValue);have e1:addI .i64 (L:Int) 1=((L+1:Nat):Int):=ge (by omega);rw[g1g,if_pos (by simp;omega),if_pos (g6 hlt)]
   simp only[oZ4,oZ3,g7,SValue.gr];rw[if_pos (by simp[h8]),if_pos (g6 hlt2),e1,hW2];simp only[oZ3];rw[gj8 (by omega)];simp only[oZ3];rw[bws (by omega)];simp only[oZ3];rw[hW];simp only[oZ3];rw[gj8 (by omega)];simp only[oZ3];rw[bws (by rw[List.length_append];omega)]
   simp only[oZ3];rw[ge (by omega),gup h8 hkl hlen hlenk hw hwk h1 hl L hL hLw k (i+1) _ _ (by omega) (by omega) (by rw[List.length_append,List.length_append];omega),g1x hlt dSValue,g1x hlt2 dSValue,vlevs,vpays,vpays,ilv,List.append_assoc,List.append_assoc];have hne:(if v.Keys.getD i dSValue::v.Keys.drop (i+1)=[]then 0 else 1)=1:=by simp
   have hle:(if v.Keys.drop (i+1)=[]then 0 else 1)≤1:=by split <;> omega
   rw[hne];generalize (if v.Keys.drop (i+1)=[]then 0 else 1)=q at hle ⊢;have:max (max (max D (L+1+1 - 1)) (L+1+vlev ts x.Elem (v.Items.getD i dSValue) - 1)) (L+max q (vlevs ts x.Elem (v.Items.drop (i+1))))=max D (L+max 1 (max (vlev ts x.Elem (v.Items.getD i dSValue)) (vlevs ts x.Elem (v.Items.drop (i+1))))):=by omega
   rw[this]
end
end
section
open Go Go.Proofs.YthnmepafpikaiaaGreat.Shv Go.Sort
set_option maxRecDepth 100000
section
variable {ts:List SType} (H:SOk ts)
theorem g9n(H:SOk ts){v:SValue}(hv:OkV v)(hw:wt v≤1099511627776)(t:Int) :(vpay ts t v).length≤23089744183296:=by
 have:=g13m H.M hv hw t;omega
theorem g124{ms:List SMember}{l:List SValue}{r:List SRaw}(h:MAsc ms)(hr:g72 ms r) :gl4 ((g3a ts ms l r).map ent)=some ((isoB ltF (g3a ts ms l r)).map ent):=by
 have e:∀a b:Fd,sortLt (ent a) (ent b)=ltF a b:=fun a b=>by unfold sortLt ltF ent;simp
 have hO:SWO sortLt:=by
   refine⟨fun x=>?_,fun x y z h1 h2=>?_,fun x y z h1 h2=>?_⟩ <;> simp[sortLt]at* <;> omega
 have hp:g7o sortLt ((g3a ts ms l r).map ent)=true:=by
   have h0:=gb4 (ts:=ts) (l:=l) h hr;generalize g3a ts ms l r=q at h0
   induction q with
   | nil=>rfl
   | cons a q ih=>
     simp only[g7o,Bool.and_eq_true,List.all_eq_true,List.map_cons]at h0 ⊢;refine⟨fun y hy=>?_,ih h0.2⟩;obtain⟨z,hz,rfl⟩:=List.mem_map.1 hy;rw[e,e];exact h0.1 z hz
 unfold gl4;rw[gwo hO hp,gul ent e]
theorem mxs{D L b w:Nat}(h:w=1+b) :max (max D L) (L+b)=max D (L+w - 1):=by omega
theorem mxq{D L b w:Nat}(h:w=1+b) :max (max D L) (L+1+b - 1)=max D (L+w - 1):=by omega
theorem mx0{b w:Nat}(h:w=1+max 0 b) :w=1+b:=by omega
theorem g14q {x : SType} {v : SValue} (hdef : ∀ m, m ∈ x.Members → OkV m.Default) (hma : MAsc x.Members) (hm16 : x.Members.length ≤ 16) (c6 : g72 x.Members v.Rest) (hil : v.Items.length = x.Members.length)
   (hrd:∀y,y∈v.Rest→y.Data.length≤reachBytes) (hlenI:∀x,x∈v.Items→∀t,(vpay ts t x).length≤23089744183296)
   (hWI:∀i,i < x.Members.length→Wr ts (v.Items.getD i dSValue) (x.Members.getD i dSMember).Type_)
   (hlenv:((isoB ltF (g3a ts x.Members v.Items v.Rest)).flatMap Fd.text).length≤23089744183296)
   (L D:Nat) (hL:1≤L) (hD:L≤D) (hLw:L+wts v.Items < 1125899906842624) (hRw:(v.Rest.map fun x=>x.Data.length+1).sum≤1099511627776):
   g77 (x,v,(L:Int),ts,(D:Int))=some ((isoB ltF (g3a ts x.Members v.Items v.Rest)).flatMap Fd.text,ts,((max D (L+vlevm ts x.Members v.Items):Nat):Int)):=by
 have hma1:=hma.2;have hRok:∀y,y∈v.Rest→I1000 y.ID∧y.Data.length≤reachBytes:=fun y hy=>⟨(c6.2 y hy).1,hrd y hy⟩
 have hRl:v.Rest.length≤(v.Rest.map fun x=>x.Data.length+1).sum:=by
   generalize v.Rest=R
   induction R with
   | nil=>simp
   | cons a R ih=>simp only[List.length_cons,List.map_cons,List.sum_cons];omega
 have hnl:=grv (ts:=ts) (ms:=x.Members) (l:=v.Items);have r0:=g121 (ts:=ts) (Ms:=x.Members) (v:=v) (by omega) hdef hma1 hil (fun y hy t=>by have:=hlenI y hy t;omega) (fun i hi _=>hWI i hi) L hL (by omega) x.Members.length 0 D [] (by omega) (by omega) (by simp;omega);have r0':g2y ((L:Int),x.Members,(x.Members.length:Int),0,ts,(D:Int),v,[])=_:=r0;rw[g77]
 simp only[SValue.gr];rw[r0'];simp only[oZ4,oZ3,List.drop_zero,List.nil_append];generalize ((max D (L+vlevm ts x.Members v.Items):Nat):Int)=d;have r1:=g122 (ts:=ts) (R:=v.Rest) hRok (by omega) d v.Rest.length 0 ((vents ts x.Members v.Items).map ent) (by omega) (by simp;omega)
 have r1':g2w (v.Rest,(v.Rest.length:Int),0,ts,d,(vents ts x.Members v.Items).map ent)=_:=r1;rw[r1'];simp only[oZ3,List.drop_zero];rw[←List.map_append];have hs:=g124 (ts:=ts) (l:=v.Items) hma c6;have hlen:(g3a ts x.Members v.Items v.Rest).length≤2199023255552:=by unfold g3a;simp;omega
 have e0:vents ts x.Members v.Items++v.Rest.map rawF=g3a ts x.Members v.Items v.Rest:=rfl;rw[e0];generalize g3a ts x.Members v.Items v.Rest=q at*;rw[hs];simp only[oZ3];have hperm:=g66 ltF q;rw[if_pos (by simp[hperm.length_eq])];have hll:(isoB ltF q).length≤2199023255552:=by
   rw[hperm.length_eq];exact hlen
 generalize isoB ltF q=z at*;have r2:=g123 (ts:=ts) (l:=z) d z.length 0 [] (Nat.zero_add _) hll (by simp only[List.drop_zero,List.length_nil];omega);have r2':g2x (((z.map ent).length:Int),0,ts,d,z.map ent,[])=some (ts,d,[]++(z.drop 0).flatMap Fd.text):=by
   rw[List.length_map];exact r2
 rw[r2'];simp only[oZ3,bstr,List.drop_zero,List.nil_append]
theorem g125 {x : SType} {v : SValue} (hm : x.Members.length < 9223372036854775807) (hma : MAsc x.Members) (n3 : -9223372036854775808 ≤ v.ID ∧ v.ID ≤ 9223372036854775807)
   (c5:match findM x.Members v.ID with
     | some m=>v.Rest=[]∧v.Items.length=1∧vfits ts false m.Type_ v.Items
     | none=>x.Open=true∧True∧I1000 v.ID∧v.Items=[]∧∃d,v.Rest=[⟨v.ID,d⟩])
   (hrd:∀y,y∈v.Rest→y.Data.length≤reachBytes) (hlenI:∀x,x∈v.Items→∀t,(vpay ts t x).length≤23089744183296)
   (hWI:∀x,x∈v.Items→∀t,vfit ts false t x→Wr ts x t)
   (L D:Nat) (hL:1≤L) (hD:L≤D) (hLw:L+wts v.Items < 1125899906842624):
   g6b (x, v, (L : Int), ts, (D : Int)) = some (vput v.ID.toNat ++ (match findM x.Members v.ID with
         | some m=>(vpays ts m.Type_ v.Items).headD []
         | none=>(v.Rest.map SRaw.Data).headD []),ts,((max D (L+(match findM x.Members v.ID with
         | some m=>vlevs ts m.Type_ v.Items
         | none=>0)):Nat):Int)):=by
 obtain⟨r,r1,_,hf⟩:=g3x (t:=x) v.ID hm;rcases g5h hf with⟨e,q,q1,q2,q3,q4⟩ | ⟨e,q3⟩
 · rw[q3]at c5;rw[q3];simp only at c5 ⊢;obtain⟨d1,d2,d3⟩:=c5;have hI:=hma.2 _ (g8 q1 dSMember);rw[q4]at hI;obtain⟨n,hn⟩:∃n:Nat,v.ID=(n:Int):=⟨v.ID.toNat,by unfold I1000 at hI;omega⟩
   rw[g6b];simp only[SValue.gr];rw[r1,hn,wrpn (by unfold I1000 at hI;omega),glo (by unfold I1000 at hI;omega)];simp only[oZ4,oZ3];rw[if_neg (by simp[e]),q2,if_pos (g6 q1)]
   match hI:v.Items,d2 with
   | [y],_=>
     have hy:y∈v.Items:=by rw[hI];exact .head _
     have hi0:inR 0 ([y]:List SValue).length=true:=g6 (k:=0) (by simp);have hwm:=g2o hy;have hf:=g16.1 d3 y hy;have hW:=hWI y hy _ hf (L+1) D (by omega) (by omega);have e1:addI .i64 (L:Int) 1=((L+1:Nat):Int):=ge (by omega);rw[if_pos hi0,e1];simp only[g7,Int.toNat_zero,List.getD_cons_zero];rw[hW];have hp:=hlenI y hy (x.Members.getD q dSMember).Type_
     have hp10:=g4i (n:=n) (by rw[hn]at n3;omega);simp only[oZ3];rw[if_pos (g39 (by omega))];have hlv:=gb8 (ts:=ts) (x.Members.getD q dSMember).Type_ y;have ev:vlevs ts (x.Members.getD q dSMember).Type_ [y]=vlev ts (x.Members.getD q dSMember).Type_ y:=by
       have e0:vlevs ts (x.Members.getD q dSMember).Type_ []=0:=by rw[vlevs]
       rw[vlevs,e0];omega
     have ep:vpays ts (x.Members.getD q dSMember).Type_ [y]=[vpay ts (x.Members.getD q dSMember).Type_ y]:=by rw[vpays,vpays]
     have e:max D (L+1+vlev ts (x.Members.getD q dSMember).Type_ y - 1)=max D (L+vlev ts (x.Members.getD q dSMember).Type_ y):=by omega
     rw[ep,ev,e];rfl
 · rw[q3]at c5;rw[q3];simp only at c5 ⊢;obtain⟨d1,d2,d3,d4,d,d5⟩:=c5;obtain⟨n,hn⟩:∃n:Nat,v.ID=(n:Int):=⟨v.ID.toNat,by unfold I1000 at d3;omega⟩
   have hdl:=hrd ⟨v.ID,d⟩ (by rw[d5];exact .head _);simp only at hdl;unfold reachBytes at hdl;have hp10:=g4i (n:=n) (by rw[hn]at n3;omega);rw[g6b];simp only[SValue.gr];rw[r1,d5,hn,wrpn (by unfold I1000 at d3;omega),glo (by unfold I1000 at d3;omega)];simp only[oZ4,oZ3]
   have hi0:inR 0 ([⟨(n:Int),d⟩]:List SRaw).length=true:=g6 (k:=0) (by simp);rw[if_pos (by simp[e]),if_pos hi0];simp only[Int.toNat_zero,List.getD_cons_zero];rw[if_pos (g39 (by omega))];have e:max D (L+0)=D:=by omega
   rw[e];rfl
set_option maxHeartbeats 400000 in
theorem g14r(H:SOk ts){v:SValue}(hv:OkV v) :wt v≤1099511627776→∀t,vfit ts false t v→Wr ts v t:=by
 induction hv with
 | mk v hs h1 h2 h3 hk hi hrd n1 n2 n3 n4 ihk ihi=>
   intro hw t hf L D hL hLw;have hOk:OkV v:= .mk v hs h1 h2 h3 hk hi hrd n1 n2 n3 n4;have hwt:=wt_eq v;have hlenI:∀x,x∈v.Items→∀t,(vpay ts t x).length≤23089744183296:=fun x hx t=>g9n H (hi x hx) (by have:=g2o hx;omega) t
   have hlenK:∀x,x∈v.Keys→∀t,(vpay ts t x).length≤23089744183296:=fun x hx t=>g9n H (hk x hx) (by have:=g2o hx;omega) t
   have hWI:∀x,x∈v.Items→∀t,vfit ts false t x→Wr ts x t:=fun x hx t=>ihi x hx (by have:=g2o hx;omega) t
   have hWK:∀x,x∈v.Keys→∀t,vfit ts false t x→Wr ts x t:=fun x hx t=>ihk x hx (by have:=g2o hx;omega) t
   have hlenv:=g9n H hOk hw t;obtain⟨⟨g1,g2,g3,_⟩,hf⟩:=(g6u _ _ _).1 hf;obtain⟨j,rfl⟩:∃j:Nat,t=(j:Int):=⟨t.toNat,by omega⟩
   have hj:j < ts.length:=by omega
   rw[g1d];simp only[oZ4,oZ3];rw[if_pos (g6 hj),gic];simp only[g7,SValue.gr]at hf g3 ⊢;have hxm:=g8 hj dSType;have hlev:=gm4 (ts:=ts) (j:Int) v;have hv1:=@vpay1 ts (j:Int) v;have hv2:=@vpay2 ts (j:Int) v;have hv3:=@vpay3 ts (j:Int) v;have hv4:=@vpay4 ts (j:Int) v;have hv5:=@vpay5 ts (j:Int) v;have hv6:=@vpay6 ts (j:Int) v
   have hv7:=@vpay7 ts (j:Int) v;have hv8:=@vpay8 ts (j:Int) v;have hv9:=@vpay9 ts (j:Int) v;simp only[g7]at hlev hv1 hv2 hv3 hv4 hv5 hv6 hv7 hv8 hv9;have hA:=H.A _ hxm;have hKy:=H.Ky _ hxm;have hS:=H.S _ hxm;generalize ts.getD j dSType=x at*;have hlE:¬x.Kind=5→¬x.Kind=6→v.Keys=[]→vlev ts (j:Int) v=1+vlevs ts x.Elem v.Items:=fun a b c=>by
     rw[hlev,if_neg a,if_neg b,if_pos c,Nat.zero_max]
   have leaf:v.Keys=[]→v.Items=[]→max D (L+vlev ts (j:Int) v - 1)=max D L:=fun a b=>by rw[glv a b];omega
   rcases hf with⟨k,c1,c2,c3,c4,c5,c6⟩ | ⟨k,c1,c2,c3,c4,c5,c6,c7,c8⟩ | ⟨k,c1,c2,c3,c4,c5,c6,c7⟩ | ⟨k,c1,c2,c3,c4,c5,c6,c7⟩ | ⟨k,c1,c2,c3,c4,c5,c6,c7⟩ | ⟨k,c1,c2,c3,c4,c5⟩ | ⟨k,c1,c2,c3,c4,c5,c6,c7,c8⟩ | ⟨k,c1,c2,c3,c4,c5,c6,c7,c8,c9,c10⟩ | ⟨k,c1,c2,c3,c4,c5,c6,c7,c8⟩ <;> rw[k]at g3
   · have kx:=g3.symm;rw[if_pos (by simp[kx]),hv1 kx,leaf c4 c5];cases v.Bool_ <;> rfl
   · have kx:=g3.symm;rw[if_neg (by simp[kx]),if_pos (by simp[kx]),hv2 kx,leaf c4 c5,glr n2];simp only[oZ3];have hz:=gpw n2;obtain⟨n,hn⟩:∃n:Nat,zig v.Int_=(n:Int):=⟨(zig v.Int_).toNat,by unfold zig;split <;> omega⟩
     rw[hn,Int.toNat_natCast]at hz;rw[hn,g11w hz];rfl
   · have kx:=g3.symm;rw[if_neg (by simp[kx]),if_neg (by simp[kx]),if_pos (by simp[kx]),hv3 kx,leaf c4 c5]
   · have kx:=g3.symm;rw[if_neg (by simp[kx]),if_neg (by simp[kx]),if_neg (by simp[kx]),if_pos (by simp[kx]),hv4 kx,leaf c4 c5]
     obtain⟨n,hn⟩:∃n:Nat,v.ID=(n:Int):=⟨v.ID.toNat,by
       rcases c7 with⟨y,hy,he⟩ | ⟨_,_,he⟩
       · have:=hS kx y hy;unfold I1000 at this;omega
       · unfold I1000 at he;omega⟩
     rw[hn,wrpn (by omega),g11w (by omega),Int.toNat_natCast];rfl
   · have kx:=g3.symm;rw[if_neg (by simp[kx]),if_neg (by simp[kx]),if_neg (by simp[kx]),if_neg (by simp[kx]),if_pos (by simp[kx]),hv5 kx];obtain⟨hma,hm16⟩:=hA (.inl kx);obtain⟨hil,hip⟩:=g7f.1 c7
     rw[g14q (H.T _ hxm).dv hma hm16 c6 hil (fun y hy=>hrd y hy) hlenI (fun i hi=>hWI _ (g8 (by omega) dSValue) _ (hip i hi)) (by rw[←hv5 kx];exact hlenv) L (max D L) hL (by omega) (by omega) (by omega)];simp only[oZ3];rw[if_pos kx,if_pos c5]at hlev;have e:max (max D L) (L+vlevm ts x.Members v.Items)=max D (L+vlev ts (j:Int) v - 1):=mxs (mx0 hlev);rw[e]
   · have kx:=g3.symm;rw[if_neg (by simp[kx]),if_neg (by simp[kx]),if_neg (by simp[kx]),if_neg (by simp[kx]),if_neg (by simp[kx]),if_pos (by simp[kx]),hv6 kx];obtain⟨hma,hm16⟩:=hA (.inr kx);rw[if_neg (show ¬x.Kind=5 by omega),if_pos kx,if_pos c4]at hlev
     rw[g125 (g12 (g3h (H.T _ hxm).mems)) hma n3 c5 (fun y hy=>hrd y hy) hlenI hWI L (max D L) hL (by omega) (by omega)];simp only[oZ3]
     exact congrArg (fun z : Nat => (some (vput v.ID.toNat ++ (match findM x.Members v.ID with
         | some m=>(vpays ts m.Type_ v.Items).headD []
         | none=>(v.Rest.map SRaw.Data).headD []),ts,(z:Int)):Option (List UInt8 × List SType × Int))) (mxs (D:=D) (L:=L) (mx0 hlev))
   · have kx:=g3.symm;rw[if_neg (by simp[kx]),if_neg (by simp[kx]),if_neg (by simp[kx]),if_neg (by simp[kx]),if_neg (by simp[kx]),if_neg (by simp[kx]),if_neg (by simp[kx])];have hf:=g16.1 c8;rw[hv7 kx]at hlenv
     have:=grw (x:=x) (v:=v) (by omega) (fun y hy=>by have:=hlenI y hy x.Elem;omega) (fun y hy=>hWI y hy x.Elem (hf y hy)) h2 L hL (by omega) v.Items.length 0 (max D L) [] (by omega) (by omega) (by simp only[List.drop_zero,List.length_nil];omega);have h0:g1g ((L:Int),v.Items,(v.Items.length:Int),0,ts,((max D L:Nat):Int),v,x,[])=_:=this;rw[h0]
     simp only[oZ3,bstr];have hl:=hlE (by omega) (by omega) c5;have e:max (max D L) (L+vlevs ts x.Elem v.Items)=max D (L+vlev ts (j:Int) v - 1):=mxs hl;rw[hv7 kx,List.drop_zero,List.nil_append,e]
   · have kx:=g3.symm;rw[if_neg (by simp[kx]),if_neg (by simp[kx]),if_neg (by simp[kx]),if_neg (by simp[kx]),if_neg (by simp[kx]),if_neg (by simp[kx]),if_neg (by simp[kx])];have hf:=g16.1 c9;have hfk:=g16.1 c8;rw[hv8 kx]at hlenv;obtain⟨ky1,ky2⟩:=hKy kx;have hl1:∀y,y∈v.Keys→vlev ts x.Key y=1:=fun y hy=>by
       obtain⟨⟨_,_,b3,_⟩,b⟩:=(g6u _ _ _).1 (hfk y hy);apply glv <;> grind
     have:=gup (x:=x) (v:=v) kx c7 (fun y hy=>by have:=hlenI y hy x.Elem;omega) (fun y hy=>by have:=hlenK y hy x.Key;omega) (fun y hy=>hWI y hy x.Elem (hf y hy)) (fun y hy=>hWK y hy x.Key (hfk y hy)) hl1 h2 L hL (by omega) v.Items.length 0 (max D L) [] (by omega) (by omega) (by simp only[List.drop_zero,List.length_nil];omega)
     have h0:g1g ((L:Int),v.Items,(v.Items.length:Int),0,ts,((max D L:Nat):Int),v,x,[])=_:=this;rw[h0];simp only[oZ3,bstr];rw[if_neg (show ¬x.Kind=5 by omega),if_neg (show ¬x.Kind=6 by omega)]at hlev;simp only[List.drop_zero,List.nil_append]
     have e:max (max D L) (L+max (if v.Keys=[]then 0 else 1) (vlevs ts x.Elem v.Items))=max D (L+vlev ts (j:Int) v - 1):=mxs hlev;rw[hv8 kx,e]
   · have kx:=g3.symm;rw[if_neg (by simp[kx]),if_neg (by simp[kx]),if_neg (by simp[kx]),if_neg (by simp[kx]),if_neg (by simp[kx]),if_neg (by simp[kx]),if_pos (by simp[kx]),hv9 kx];have hf:=g16.1 c8
     match hI:v.Items,c7 with
     | [],_=>
       rw[if_pos (by simp),leaf c5 hI,vpays]
     | [y],_=>
       have hy:y∈v.Items:=by rw[hI];exact .head _
       have hi0:inR 0 ([y]:List SValue).length=true:=g6 (k:=0) (by simp);rw[if_neg (by simp),if_pos hi0];have hwm:=g2o hy;have hW:=hWI y hy x.Elem (hf y hy) (L+1) (max D L) (by omega) (by omega);have e1:addI .i64 (L:Int) 1=((L+1:Nat):Int):=ge (by omega);rw[e1];simp only[Int.toNat_zero,List.getD_cons_zero];rw[hW];have hp:=hlenI y hy x.Elem
       simp only[oZ3];rw[if_pos (g39 (by simp;omega))];have hl:=hlE (by omega) (by omega) c5;rw[hI]at hl;have hlv:=gb8 (ts:=ts) x.Elem y;have ev:vlevs ts x.Elem [y]=vlev ts x.Elem y:=by
         have e0:vlevs ts x.Elem []=0:=by rw[vlevs]
         rw[vlevs,e0];omega
       have ep:vpays ts x.Elem [y]=[vpay ts x.Elem y]:=by rw[vpays,vpays]
       rw[ev]at hl;have e:max (max D L) (L+1+vlev ts x.Elem y - 1)=max D (L+vlev ts (j:Int) v - 1):=mxq hl;rw[ep,e];rfl
     | a::b::c,h=>simp at h
end
end
section
open Go Go.Proofs.YthnmepafpikaiaaGreat.Shv Go.Sort
set_option maxRecDepth 100000
section
variable {ts:List SType}
def Rp(ts:List SType)(x:SValue)(t:Int) :Prop:=g1b ((⟨ts⟩:SSchema),t,x)=some (vpay ts t x)
def Rl(ts:List SType)(x:SValue)(t:Int) :Prop:=g2c ((⟨ts⟩:SSchema),t,x)=some ((vlev ts t x:Nat):Int)
theorem guq {x : SType} {v : SValue} (hlen : ∀ y, y ∈ v.Items → (vpay ts x.Elem y).length ≤ 1000000000000000) (hw : ∀ y, y ∈ v.Items → Rp ts y x.Elem) (hl : v.Items.length ≤ reachBytes) :
   ∀(k i:Nat) (acc:List UInt8),i+k=v.Items.length→acc.length+((vpays ts x.Elem (v.Items.drop i)).flatMap g1s).length≤70368744177664→
   g3v (acc,(i:Int),ts,v,x)=some (acc++(vpays ts x.Elem (v.Items.drop i)).flatMap g1s)
 | 0,i,acc,hi,ha=>by
   rw[g3v,if_neg (by simp;omega),List.drop_eq_nil_of_le (by omega:v.Items.length≤i),vpays];simp
 | k+1,i,acc,hi,ha=>by
   have hlt:i < v.Items.length:=by omega
   have hr:=g12 hl;have hmem:v.Items.getD i dSValue∈v.Items:=g8 hlt dSValue;rw[g1x hlt dSValue,vpays,List.flatMap_cons,List.length_append]at ha;have hp:=hlen _ hmem;have hW:=hw _ hmem;unfold Rp at hW;rw[g3v,if_pos (by simp;omega),if_pos (g6 hlt)];simp only[oZ4,oZ3,g7,SValue.gr];rw[hW];simp only[oZ3];rw[gcx (by omega)]
   simp only[oZ3];rw[if_pos (g39 (by omega)),ge (by omega),guq hlen hw hl k (i+1) _ (by omega) (by rw[List.length_append];omega),g1x hlt dSValue,vpays,List.flatMap_cons,List.append_assoc]
theorem gx5 {x : SType} {v : SValue} (hkl : v.Items.length = v.Keys.length) (hlen : ∀ y, y ∈ v.Items → (vpay ts x.Elem y).length ≤ 1000000000000000) (hlenk : ∀ y, y ∈ v.Keys → (vpay ts x.Key y).length ≤ 1000000000000000)
   (hw:∀y,y∈v.Items→Rp ts y x.Elem) (hwk:∀y,y∈v.Keys→Rp ts y x.Key) (hl:v.Items.length≤reachBytes):
   ∀(k i:Nat) (acc:List UInt8),i+k=v.Items.length→acc.length+(ilv (vpays ts x.Key (v.Keys.drop i)) (vpays ts x.Elem (v.Items.drop i))).length≤70368744177664→
   g3w (acc,(i:Int),ts,v,x)=some (acc++ilv (vpays ts x.Key (v.Keys.drop i)) (vpays ts x.Elem (v.Items.drop i)))
 | 0,i,acc,hi,ha=>by
   rw[g3w,if_neg (by simp;omega),List.drop_eq_nil_of_le (by omega:v.Items.length≤i),List.drop_eq_nil_of_le (by omega:v.Keys.length≤i),vpays,vpays,ilv]
   · simp
   · intros;simp_all
 | k+1,i,acc,hi,ha=>by
   have hlt:i < v.Items.length:=by omega
   have hlt2:i < v.Keys.length:=by omega
   have hr:=g12 hl;have hmem:v.Items.getD i dSValue∈v.Items:=g8 hlt dSValue;have hmem2:v.Keys.getD i dSValue∈v.Keys:=g8 hlt2 dSValue;rw[g1x hlt dSValue,g1x hlt2 dSValue,vpays,vpays,ilv,List.length_append,List.length_append]at ha;have hp:=hlen _ hmem;have hp2:=hlenk _ hmem2;have hW:=hw _ hmem;have hW2:=hwk _ hmem2;unfold Rp at hW hW2
   rw[g3w,if_pos (by simp;omega),if_pos (g6 hlt2)];simp only[oZ4,oZ3,g7,SValue.gr];rw[hW2];simp only[oZ3];rw[gcx (by omega)];simp only[oZ3];rw[if_pos (g39 (by omega)),if_pos (g6 hlt),hW];simp only[oZ3];rw[gcx (by omega)];simp only[oZ3]
   rw[if_pos (g39 (by rw[List.length_append];omega)),ge (by omega),gx5 hkl hlen hlenk hw hwk hl k (i+1) _ (by omega) (by rw[List.length_append,List.length_append];omega),g1x hlt dSValue,g1x hlt2 dSValue,vpays,vpays,ilv,List.append_assoc,List.append_assoc]
def g8z(R:List SRaw)(n:Nat) :List Fd:=(R.filter fun x=>decide (x.ID=(n:Int))).map rawF
theorem gze{a:SRaw}{l:List SRaw}{n:Nat}(h:a.ID=(n:Int)) :g8z (a::l) n=rawF a::g8z l n:=by
 unfold g8z;rw[List.filter_cons,if_pos (by rw[h];simp),List.map_cons]
theorem g126{a:SRaw}{l:List SRaw}{n:Nat}(h:¬a.ID=(n:Int)) :g8z (a::l) n=g8z l n:=by
 unfold g8z;rw[List.filter_cons,if_neg (by simpa using h)]
theorem refOm {γ : Type} {m : SMember} {w : SValue} (hw : OkV w) (A B : Option γ) :
   ((if(!(!m.HasDefault))=true then g1e (w,m.Default)else some false).bind fun r_19=>if(bif (!m.HasDefault)then true else(!r_19))=true then A else B)=if om m w=true then B else A:=by
 cases hd:m.HasDefault with
 | false=>
   have:om m w=false:=by unfold om;rw[hd];rfl
   rw[this];rfl
 | true=>
   have:=gx4 hw hd;simp only[Bool.not_true,Bool.not_false,if_true,this];cases om m w <;> rfl
theorem gjd {x : SType} {v : SValue} (hr : ∀ y, y ∈ v.Rest → y.Data.length ≤ reachBytes) (hR : v.Rest.length ≤ reachBytes) (n : Nat) (hn : n ≤ 1000) :
   ∀(k i:Nat) (out:List UInt8),i+k=v.Rest.length→out.length+((g8z (v.Rest.drop i) n).flatMap Fd.text).length≤70368744177664→
   g1p (out,(n:Int),(i:Int),ts,v,x)=some (out++(g8z (v.Rest.drop i) n).flatMap Fd.text,(n:Int),ts,v,x)
 | 0,i,out,hi,ha=>by
   rw[g1p,if_neg (by simp;omega),List.drop_eq_nil_of_le (by omega:v.Rest.length≤i),SValue.gr];simp[g8z]
 | k+1,i,out,hi,ha=>by
   have hlt:i < v.Rest.length:=by omega
   have hrr:=g12 hR;have hd:=hr _ (g8 hlt dSRaw);unfold reachBytes at hd;rw[g1x hlt dSRaw]at ha;rw[g1p,if_pos (by simp;omega),if_pos (g6 hlt)];simp only[oZ4,oZ3,g7,SValue.gr];rw[g1x hlt dSRaw];by_cases e:(v.Rest.getD i dSRaw).ID=(n:Int)
   · rw[gze e,List.flatMap_cons]at ha ⊢;have ht:(rawF (v.Rest.getD i dSRaw)).text=g4j n false (v.Rest.getD i dSRaw).Data:=by
       unfold rawF Fd.text;rw[e];rfl
     rw[ht,List.length_append]at ha;rw[if_pos (by rw[e];simp),if_pos (g6 hlt),gn3 (by omega) (by omega)];simp only[oZ3];rw[if_pos (g39 (by omega)),ge (by omega),gjd hr hR n hn k (i+1) _ (by omega) (by rw[List.length_append];omega),ht,List.append_assoc]
   · rw[g126 e]at ha ⊢;rw[if_neg (by simpa using e),ge (by omega),gjd hr hR n hn k (i+1) _ (by omega) ha]
noncomputable def grp (ts:List SType) (x:SType) (v:SValue) (n:Nat):List Fd:=(g3a ts x.Members v.Items v.Rest).filter fun f=>decide (f.id=n)
theorem gqo {x : SType} {v : SValue} (hm : x.Members.length < 9223372036854775807) (hma : MAsc x.Members) (hrk : g72 x.Members v.Rest) (hil : v.Items.length = x.Members.length)
   (hr:∀y,y∈v.Rest→y.Data.length≤reachBytes) (hR:v.Rest.length≤reachBytes) (hok:∀y,y∈v.Items→OkV y) (hlenI:∀x,x∈v.Items→∀t,(vpay ts t x).length≤23089744183296)
   (hw:∀i,i < x.Members.length→Rp ts (v.Items.getD i dSValue) (x.Members.getD i dSMember).Type_):
   ∀(k n:Nat) (out:List UInt8),n+k=1001→1≤n→out.length+(((List.range' n k).flatMap (grp ts x v)).flatMap Fd.text).length≤70368744177664→
   g2n (out,(n:Int),ts,v,x)=some (out++((List.range' n k).flatMap (grp ts x v)).flatMap Fd.text)
 | 0,n,out,hi,h1,ha=>by
   rw[g2n,if_neg (by simp;omega)];simp
 | k+1,n,out,hi,h1,ha=>by
   have hid0:∀y,y∈v.Rest→0≤y.ID:=fun y hy=>by have:=(hrk.2 y hy).1;unfold I1000 at this;omega
   have hg:grp ts x v n=((vents ts x.Members v.Items).filter fun f=>decide (f.id=n))++g8z v.Rest n:=by
     unfold grp g3a g8z;rw[List.filter_append,gw5 _ _ hid0]
   rw[List.range'_succ,List.flatMap_cons,List.flatMap_append,hg,List.flatMap_append]at ha ⊢;simp only[List.length_append]at ha;rw[g2n,if_pos (by simp;omega)];obtain⟨r,_,r2,hf⟩:=g3x (t:=x) (n:Int) hm;simp only[oZ4,oZ3,g7,SValue.gr];rw[r2];simp only[oZ3]
   have inner:∀out':List UInt8,out'.length+((g8z v.Rest n).flatMap Fd.text).length≤70368744177664→g1p (out',(n:Int),0,ts,v,x)=some (out'++(g8z v.Rest n).flatMap Fd.text,(n:Int),ts,v,x):=fun out' h=>by
     have:=gjd (ts:=ts) (x:=x) hr hR n (by omega) v.Rest.length 0 out' (by omega) (by simpa using h)
     simpa using this
   rcases g5h hf with⟨e,j,q1,q2,q3,q4⟩ | ⟨e,q3⟩
   · have hlt2:j < v.Items.length:=by omega
     have hmem:v.Items.getD j dSValue∈v.Items:=g8 hlt2 dSValue;have hfd:=gax (ts:=ts) (gib hma) hil q1 (n:=n) (by rw[q4];simp);rw[if_pos e,q2,if_pos (g6 q1)];rw[if_pos (by rw[g6 hlt2];rfl)];simp only[g7];rw[refOm (hok _ hmem)];have hrec:=gqo hm hma hrk hil hr hR hok hlenI hw k (n+1);cases ho:om (x.Members.getD j dSMember) (v.Items.getD j dSValue)with
     | true=>
       rw[ho,if_pos rfl]at hfd;rw[hfd]at ha ⊢;rw[if_pos rfl,inner out (by omega)];simp only[oZ3,SValue.gr];rw[ge (by omega),hrec _ (by omega) (by omega) (by rw[List.length_append];omega)];simp
     | false=>
       rw[ho,if_neg (by simp)]at hfd;rw[hfd]at ha ⊢;have hp:=hlenI _ hmem (x.Members.getD j dSMember).Type_;have hW:=hw j q1;unfold Rp at hW
       have ht:([⟨n,(x.Members.getD j dSMember).Critical,vpay ts (x.Members.getD j dSMember).Type_ (v.Items.getD j dSValue)⟩]:List Fd).flatMap Fd.text=g4j n (x.Members.getD j dSMember).Critical (vpay ts (x.Members.getD j dSMember).Type_ (v.Items.getD j dSValue)):=by
         simp only[List.flatMap_cons,List.flatMap_nil,List.append_nil];rfl
       rw[ht]at ha ⊢;rw[if_neg (by simp),if_pos (g6 hlt2),hW];simp only[oZ3];rw[gn3 (by omega) (by omega)];simp only[oZ3];rw[if_pos (g39 (by omega)),inner _ (by rw[List.length_append];omega)];simp only[oZ3,SValue.gr];rw[ge (by omega),hrec _ (by omega) (by omega) (by rw[List.length_append,List.length_append];omega)]
       simp only[List.append_assoc]
   · have hnone:((vents ts x.Members v.Items).filter fun f=>decide (f.id=n))=[]:=gpx fun m hm'=>by
       have:=gaj q3 m hm';have:=hma.2 m hm';unfold I1000 at this;omega
     rw[hnone]at ha ⊢;rw[if_neg (by simp[e]),inner out (by omega)];simp only[oZ3,SValue.gr];rw[ge (by omega),gqo hm hma hrk hil hr hR hok hlenI hw k (n+1) _ (by omega) (by omega) (by rw[List.length_append];omega)];simp
end
end
section
open Go Go.Proofs.YthnmepafpikaiaaGreat.Shv Go.Sort
set_option maxRecDepth 100000
section
variable {ts:List SType}
theorem g17j {γ : Type} {m : SMember} {w : SValue} (hw : OkV w) (A B : Option γ) :
   ((if m.HasDefault=true then g1e (w,m.Default)else some false).bind fun r=>if(bif m.HasDefault then r else false)=true then A else B)=if om m w=true then A else B:=by
 cases hd:m.HasDefault with
 | false=>
   have:om m w=false:=by unfold om;rw[hd];rfl
   rw[this];rfl
 | true=>
   have:=gx4 hw hd;simp only[if_true,this];cases om m w <;> rfl
theorem gur {x : SType} {v : SValue} (h5 : ¬ x.Kind = 5) (h6 : ¬ x.Kind = 6) (hw : ∀ y, y ∈ v.Items → Rl ts y x.Elem) (hl : v.Items.length ≤ reachBytes) :
   ∀(k i b:Nat),i+k=v.Items.length→gu ((b:Int),(i:Int),ts,v,x)=some (((max b (vlevs ts x.Elem (v.Items.drop i)):Nat):Int),v)
 | 0,i,b,hi=>by
   rw[gu,if_neg (by simp;omega),List.drop_eq_nil_of_le (by omega:v.Items.length≤i),vlevs,SValue.gr,Nat.max_zero]
 | k+1,i,b,hi=>by
   have hlt:i < v.Items.length:=by omega
   have hr:=g12 hl;have hW:=hw _ (g8 hlt dSValue);unfold Rl at hW;rw[gu,if_pos (by simp;omega),if_neg (by simp[h5]),if_neg (by simp[h6]),if_pos (g6 hlt)];simp only[g7,SValue.gr];rw[hW];simp only[oZ4,oZ3];rw[gic,ge (by omega),gur h5 h6 hw hl k (i+1) _ (by omega),g1x hlt dSValue,vlevs,Nat.max_assoc]
theorem gx6 {x : SType} {v : SValue} (h5 : x.Kind = 5) (hil : v.Items.length = x.Members.length) (hok : ∀ y, y ∈ v.Items → OkV y) (hw : ∀ i, i < x.Members.length → Rl ts (v.Items.getD i dSValue) (x.Members.getD i dSMember).Type_) (hl : v.Items.length ≤ reachBytes) :
   ∀(k i b:Nat),i+k=v.Items.length→gu ((b:Int),(i:Int),ts,v,x)=some (((max b (vlevm ts (x.Members.drop i) (v.Items.drop i)):Nat):Int),v)
 | 0,i,b,hi=>by
   rw[gu,if_neg (by simp;omega),List.drop_eq_nil_of_le (by omega:v.Items.length≤i),SValue.gr,List.drop_eq_nil_of_le (by omega:x.Members.length≤i)];rw[vlevm]
   · rw[Nat.max_zero]
   · intros;simp_all
 | k+1,i,b,hi=>by
   have hlt:i < v.Items.length:=by omega
   have hlt2:i < x.Members.length:=by omega
   have hr:=g12 hl;have hmem:=g8 hlt dSValue;have hW:=hw i hlt2;unfold Rl at hW;rw[gu,if_pos (by simp;omega),if_pos (by simp[h5]),if_pos (g6 hlt2)];simp only[oZ4,oZ3,g7,SValue.gr];rw[if_pos (by rw[g6 hlt];rfl),g17j (hok _ hmem)];have hrec:=gx6 h5 hil hok hw hl k (i+1);rw[g1x hlt dSValue,g1x hlt2 dSMember,vlevm]
   cases ho:om (x.Members.getD i dSMember) (v.Items.getD i dSValue)with
   | true=>
     rw[if_pos rfl,ge (by omega),hrec _ (by omega),if_pos rfl]
   | false=>
     rw[if_neg (by simp),if_neg (by simp[h5]),if_pos (g6 hlt),hW];simp only[oZ3];rw[gic,ge (by omega),hrec _ (by omega),if_neg (by simp),Nat.max_assoc]
theorem gx7 {x : SType} {v : SValue} (h6 : x.Kind = 6) {j : Nat} (hj : j < x.Members.length) (hM : g1a (x, v.ID) = some ((j : Int), true)) (hw : ∀ y, y ∈ v.Items → Rl ts y (x.Members.getD j dSMember).Type_) (hl : v.Items.length ≤ reachBytes) :
   ∀(k i b:Nat),i+k=v.Items.length→gu ((b:Int),(i:Int),ts,v,x)=some (((max b (vlevs ts (x.Members.getD j dSMember).Type_ (v.Items.drop i)):Nat):Int),v)
 | 0,i,b,hi=>by
   rw[gu,if_neg (by simp;omega),List.drop_eq_nil_of_le (by omega:v.Items.length≤i),vlevs,SValue.gr,Nat.max_zero]
 | k+1,i,b,hi=>by
   have hlt:i < v.Items.length:=by omega
   have hr:=g12 hl;have hW:=hw _ (g8 hlt dSValue);unfold Rl at hW;rw[gu,if_pos (by simp;omega),if_neg (by simp[h6]),if_pos (by simp[h6]),hM];simp only[oZ4,oZ3,g7,SValue.gr];rw[if_pos (g6 hj),if_pos (g6 hlt),hW];simp only[oZ3];rw[gic,ge (by omega),gx7 h6 hj hM hw hl k (i+1) _ (by omega),g1x hlt dSValue,vlevs,Nat.max_assoc]
theorem gm5 {x : SType} {v : SValue} {b w : Nat} (hL : gu (0, 0, ts, v, x) = some (((max 0 b : Nat) : Int), v)) (hb : b < 1152921504606846976) (hw : w = 1 + max (if v.Keys = [] then 0 else 1) b) :
   (gu (0,0,ts,v,x) >>=fun o=>if decide (0 < (o.2.Keys.length:Int))=true then some (addI .i64 1 (maxI o.1 1))else some (addI .i64 1 o.1))=some (w:Int):=by
 rw[hL];simp only[oZ4,oZ3];by_cases hk:v.Keys=[]
 · rw[if_neg (by simp[hk])];rw[if_pos hk]at hw;have:addI .i64 1 ((max 0 b:Nat):Int)=((1+max 0 b:Nat):Int):=ghr (a:=1) (by omega);rw[this,hw]
 · rw[if_pos (by
     have:0 < v.Keys.length:=List.length_pos_iff.2 hk
     simpa using this)]
   rw[if_neg hk]at hw;have e:maxI ((max 0 b:Nat):Int) 1=((max 1 b:Nat):Int):=by
     have:=gic (max 0 b) 1;have e2:max (max 0 b) 1=max 1 b:=by omega
     rw[e2]at this;exact this
   rw[e];have:addI .i64 1 ((max 1 b:Nat):Int)=((1+max 1 b:Nat):Int):=ghr (a:=1) (by omega);rw[this,hw]
theorem g14s(H:SOk ts){v:SValue}(hv:OkV v) :wt v≤1099511627776→∀t,vfit ts false t v→Rl ts v t:=by
 induction hv with
 | mk v hs h1 h2 h3 hk hi hrd n1 n2 n3 n4 ihk ihi=>
   intro hw t hf;have hwt:=wt_eq v;have hWI:∀x,x∈v.Items→∀t,vfit ts false t x→Rl ts x t:=fun x hx t=>ihi x hx (by have:=g2o hx;omega) t
   obtain⟨⟨g1,g2,g3,_⟩,hf⟩:=(g6u _ _ _).1 hf;obtain⟨j,rfl⟩:∃j:Nat,t=(j:Int):=⟨t.toNat,by omega⟩
   have hj:j < ts.length:=by omega
   unfold Rl;rw[g2c,if_pos (g6 hj)];simp only[g7,SValue.gr]at hf g3 ⊢;have hxm:=g8 hj dSType;have hlev:=gm4 (ts:=ts) (j:Int) v;simp only[g7]at hlev;have hA:=H.A _ hxm;have hm:=g12 (g3h (H.T _ hxm).mems);generalize ts.getD j dSType=x at*;have b1:∀E,vlevs ts E v.Items < 1152921504606846976:=fun E=>by have:=vlevs_le ts v.Items E;omega
   have b2:∀E,vlevm ts E v.Items < 1152921504606846976:=fun E=>by have:=vlevm_le ts v.Items E;omega
   have easy:¬x.Kind=5→¬x.Kind=6→(∀y,y∈v.Items→vfit ts false x.Elem y)→(gu (0,0,ts,v,x) >>=fun o=>if decide (0 < (o.2.Keys.length:Int))=true then some (addI .i64 1 (maxI o.1 1))else some (addI .i64 1 o.1))=some ((vlev ts (j:Int) v:Nat):Int):=by
     intro a b c;have hL:=gur (ts:=ts) (x:=x) (v:=v) a b (fun y hy=>hWI y hy _ (c y hy)) h2 v.Items.length 0 0 (by omega);rw[if_neg a,if_neg b]at hlev;exact gm5 hL (b1 _) hlev
   rcases hf with⟨k,c1,c2,c3,c4,c5,c6⟩ | ⟨k,c1,c2,c3,c4,c5,c6,c7,c8⟩ | ⟨k,c1,c2,c3,c4,c5,c6,c7⟩ | ⟨k,c1,c2,c3,c4,c5,c6,c7⟩ | ⟨k,c1,c2,c3,c4,c5,c6,c7⟩ | ⟨k,c1,c2,c3,c4,c5⟩ | ⟨k,c1,c2,c3,c4,c5,c6,c7,c8⟩ | ⟨k,c1,c2,c3,c4,c5,c6,c7,c8,c9,c10⟩ | ⟨k,c1,c2,c3,c4,c5,c6,c7,c8⟩ <;> rw[k]at g3
   · exact easy (by omega) (by omega) (by rw[c5];intro y hy;cases hy)
   · exact easy (by omega) (by omega) (by rw[c5];intro y hy;cases hy)
   · exact easy (by omega) (by omega) (by rw[c5];intro y hy;cases hy)
   · exact easy (by omega) (by omega) (by rw[c5];intro y hy;cases hy)
   · obtain⟨hil,hip⟩:=g7f.1 c7;have hL:=gx6 (ts:=ts) (x:=x) (v:=v) g3.symm hil hi (fun i hi'=>hWI _ (g8 (by omega) dSValue) _ (hip i hi')) h2 v.Items.length 0 0 (by omega);rw[if_pos g3.symm]at hlev;exact gm5 hL (b2 _) hlev
   · rw[if_neg (show ¬x.Kind=5 by omega),if_pos g3.symm]at hlev;obtain⟨r,_,r2,hf⟩:=g3x (t:=x) v.ID hm;rcases g5h hf with⟨e,q,q1,q2,q3,q4⟩ | ⟨e,q3⟩
     · rw[q3]at c5 hlev;simp only at c5 hlev;obtain⟨d1,d2,d3⟩:=c5;have hr:r=((q:Int),true):=by rw[←q2,←e]
       have hL:=gx7 (ts:=ts) (x:=x) (v:=v) g3.symm q1 (by rw[r2,hr]) (fun y hy=>hWI y hy _ (g16.1 d3 y hy)) h2 v.Items.length 0 0 (by omega);exact gm5 hL (b1 _) hlev
     · rw[q3]at c5 hlev;simp only at c5 hlev;have hi0:v.Items=[]:=c5.2.2.2.1;have hL:gu (0,0,ts,v,x)=some (((max 0 0:Nat):Int),v):=by
         rw[gu,if_neg (by simp[hi0]),SValue.gr];rfl
       exact gm5 hL (by omega) hlev
   · exact easy (by omega) (by omega) (g16.1 c8)
   · exact easy (by omega) (by omega) (g16.1 c9)
   · exact easy (by omega) (by omega) (g16.1 c8)
set_option maxHeartbeats 400000 in
theorem gx8(H:SOk ts){v:SValue}(hv:OkV v) :wt v≤1099511627776→∀t,vfit ts false t v→Rp ts v t:=by
 induction hv with
 | mk v hs h1 h2 h3 hk hi hrd n1 n2 n3 n4 ihk ihi=>
   intro hw t hf;have hOk:OkV v:= .mk v hs h1 h2 h3 hk hi hrd n1 n2 n3 n4;have hwt:=wt_eq v;have hlenI:∀x,x∈v.Items→∀t,(vpay ts t x).length≤23089744183296:=fun x hx t=>g9n H (hi x hx) (by have:=g2o hx;omega) t
   have hlenK:∀x,x∈v.Keys→∀t,(vpay ts t x).length≤23089744183296:=fun x hx t=>g9n H (hk x hx) (by have:=g2o hx;omega) t
   have hWI:∀x,x∈v.Items→∀t,vfit ts false t x→Rp ts x t:=fun x hx t=>ihi x hx (by have:=g2o hx;omega) t
   have hWK:∀x,x∈v.Keys→∀t,vfit ts false t x→Rp ts x t:=fun x hx t=>ihk x hx (by have:=g2o hx;omega) t
   have hlenv:=g9n H hOk hw t;obtain⟨⟨g1,g2,g3,_⟩,hf⟩:=(g6u _ _ _).1 hf;obtain⟨j,rfl⟩:∃j:Nat,t=(j:Int):=⟨t.toNat,by omega⟩
   have hj:j < ts.length:=by omega
   unfold Rp;rw[g1b,if_pos (g6 hj)];simp only[oZ4,oZ3,g7,SValue.gr]at hf g3 ⊢;have hxm:=g8 hj dSType;have hv1:=@vpay1 ts (j:Int) v;have hv2:=@vpay2 ts (j:Int) v;have hv3:=@vpay3 ts (j:Int) v;have hv4:=@vpay4 ts (j:Int) v;have hv5:=@vpay5 ts (j:Int) v;have hv6:=@vpay6 ts (j:Int) v;have hv7:=@vpay7 ts (j:Int) v
   have hv8:=@vpay8 ts (j:Int) v;have hv9:=@vpay9 ts (j:Int) v;simp only[g7]at hv1 hv2 hv3 hv4 hv5 hv6 hv7 hv8 hv9;have hA:=H.A _ hxm;have hS:=H.S _ hxm;have hm:=g12 (g3h (H.T _ hxm).mems);generalize ts.getD j dSType=x at*
   rcases hf with⟨k,c1,c2,c3,c4,c5,c6⟩ | ⟨k,c1,c2,c3,c4,c5,c6,c7,c8⟩ | ⟨k,c1,c2,c3,c4,c5,c6,c7⟩ | ⟨k,c1,c2,c3,c4,c5,c6,c7⟩ | ⟨k,c1,c2,c3,c4,c5,c6,c7⟩ | ⟨k,c1,c2,c3,c4,c5⟩ | ⟨k,c1,c2,c3,c4,c5,c6,c7,c8⟩ | ⟨k,c1,c2,c3,c4,c5,c6,c7,c8,c9,c10⟩ | ⟨k,c1,c2,c3,c4,c5,c6,c7,c8⟩ <;> rw[k]at g3 <;> have kx:=g3.symm
   · rw[if_pos (by simp[kx]),hv1 kx];cases v.Bool_ <;> rfl
   · rw[if_neg (by simp[kx]),if_pos (by simp[kx]),hv2 kx,gfr n2];simp only[oZ3];have hz:=gpw n2;obtain⟨n,hn⟩:∃n:Nat,zig v.Int_=(n:Int):=⟨(zig v.Int_).toNat,by unfold zig;split <;> omega⟩
     rw[hn,Int.toNat_natCast]at hz;rw[hn,grr hz];rfl
   · rw[if_neg (by simp[kx]),if_neg (by simp[kx]),if_pos (by simp[kx]),hv3 kx]
   · rw[if_neg (by simp[kx]),if_neg (by simp[kx]),if_neg (by simp[kx]),if_pos (by simp[kx]),hv4 kx]
     obtain⟨n,hn⟩:∃n:Nat,v.ID=(n:Int):=⟨v.ID.toNat,by
       rcases c7 with⟨y,hy,he⟩ | ⟨_,_,he⟩
       · have:=hS kx y hy;unfold I1000 at this;omega
       · unfold I1000 at he;omega⟩
     rw[hn,wrpn (by omega),grr (by omega),Int.toNat_natCast];rfl
   · rw[if_neg (by simp[kx]),if_neg (by simp[kx]),if_neg (by simp[kx]),if_neg (by simp[kx]),if_neg (by simp[kx]),if_neg (by simp[kx]),if_neg (by simp[kx]),if_neg (by simp[kx]),hv5 kx];obtain⟨hma,hm16⟩:=hA (.inl kx);obtain⟨hil,hip⟩:=g7f.1 c7;rw[hv5 kx]at hlenv;have hsg:=gso (gb4 (ts:=ts) (l:=v.Items) hma c6) (fun y hy=>gft hma c6 hy)
     have e0:(fun n=>(g3a ts x.Members v.Items v.Rest).filter fun f=>decide (f.id=n))=grp ts x v:=rfl;rw[e0]at hsg;rw[hsg]at hlenv ⊢;have:=gqo (ts:=ts) hm hma c6 hil (fun y hy=>hrd y hy) h3 hi hlenI (fun i hi'=>hWI _ (g8 (by omega) dSValue) _ (hip i hi')) 1000 1 [] (by omega) (by omega) (by simp only[List.length_nil];omega);have h0:g2n ([],1,ts,v,x)=_:=this
     rw[h0];rfl
   · rw[if_neg (by simp[kx]),if_neg (by simp[kx]),if_neg (by simp[kx]),if_neg (by simp[kx]),if_neg (by simp[kx]),if_pos (by simp[kx]),hv6 kx];obtain⟨hma,hm16⟩:=hA (.inr kx);obtain⟨r,_,r2,hf⟩:=g3x (t:=x) v.ID hm;rcases g5h hf with⟨e,q,q1,q2,q3,q4⟩ | ⟨e,q3⟩
     · rw[q3]at c5;rw[q3];simp only at c5 ⊢;obtain⟨d1,d2,d3⟩:=c5;have hI:=hma.2 _ (g8 q1 dSMember);rw[q4]at hI;obtain⟨n,hn⟩:∃n:Nat,v.ID=(n:Int):=⟨v.ID.toNat,by unfold I1000 at hI;omega⟩
       rw[if_neg (by simp[d1]),r2,hn,wrpn (by unfold I1000 at hI;omega),gd9 (by unfold I1000 at hI;omega)];simp only[oZ3];rw[q2,if_pos (g6 q1)]
       match hI:v.Items,d2 with
       | [y],_=>
         have hy:y∈v.Items:=by rw[hI];exact .head _
         have hi0:inR 0 ([y]:List SValue).length=true:=g6 (k:=0) (by simp);have hf:=g16.1 d3 y hy;have hW:=hWI y hy _ hf;unfold Rp at hW;rw[if_pos hi0];simp only[g7,Int.toNat_zero,List.getD_cons_zero];rw[hW];have hp:=hlenI y hy (x.Members.getD q dSMember).Type_;have hp10:=g4i (n:=n) (by rw[hn]at n3;omega);simp only[oZ3]
         rw[if_pos (g39 (by omega))];have ep:vpays ts (x.Members.getD q dSMember).Type_ [y]=[vpay ts (x.Members.getD q dSMember).Type_ y]:=by rw[vpays,vpays]
         rw[ep];rfl
     · rw[q3]at c5;rw[q3];simp only at c5 ⊢;obtain⟨d1,d2,d3,d4,d,d5⟩:=c5;obtain⟨n,hn⟩:∃n:Nat,v.ID=(n:Int):=⟨v.ID.toNat,by unfold I1000 at d3;omega⟩
       have hdl:=hrd ⟨v.ID,d⟩ (by rw[d5];exact .head _);simp only at hdl;unfold reachBytes at hdl;have hp10:=g4i (n:=n) (by rw[hn]at n3;omega);rw[d5,hn,if_pos (by simp),wrpn (by unfold I1000 at d3;omega),gd9 (by unfold I1000 at d3;omega)];simp only[oZ3];have hi0:inR 0 ([⟨(n:Int),d⟩]:List SRaw).length=true:=g6 (k:=0) (by simp);rw[if_pos hi0]
       simp only[Int.toNat_zero,List.getD_cons_zero];rw[if_pos (g39 (by omega))];rfl
   · rw[if_neg (by simp[kx]),if_neg (by simp[kx]),if_neg (by simp[kx]),if_neg (by simp[kx]),if_neg (by simp[kx]),if_neg (by simp[kx]),if_pos (by simp[kx])];have hf:=g16.1 c8;rw[hv7 kx]at hlenv ⊢
     have:=guq (ts:=ts) (x:=x) (v:=v) (fun y hy=>by have:=hlenI y hy x.Elem;omega) (fun y hy=>hWI y hy x.Elem (hf y hy)) h2 v.Items.length 0 [] (by omega) (by simp only[List.drop_zero,List.length_nil];omega);have h0:g3v ([],0,ts,v,x)=_:=this;rw[h0];rfl
   · rw[if_neg (by simp[kx]),if_neg (by simp[kx]),if_neg (by simp[kx]),if_neg (by simp[kx]),if_neg (by simp[kx]),if_neg (by simp[kx]),if_neg (by simp[kx]),if_pos (by simp[kx])];have hf:=g16.1 c9;have hfk:=g16.1 c8;rw[hv8 kx]at hlenv ⊢
     have:=gx5 (ts:=ts) (x:=x) (v:=v) c7 (fun y hy=>by have:=hlenI y hy x.Elem;omega) (fun y hy=>by have:=hlenK y hy x.Key;omega) (fun y hy=>hWI y hy x.Elem (hf y hy)) (fun y hy=>hWK y hy x.Key (hfk y hy)) h2 v.Items.length 0 [] (by omega) (by simp only[List.drop_zero,List.length_nil];omega);have h0:g3w ([],0,ts,v,x)=_:=this;rw[h0];rfl
   · rw[if_neg (by simp[kx]),if_neg (by simp[kx]),if_neg (by simp[kx]),if_neg (by simp[kx]),if_pos (by simp[kx]),hv9 kx];have hf:=g16.1 c8
     match hI:v.Items,c7 with
     | [],_=>
       rw[if_pos (by simp),vpays]
     | [y],_=>
       have hy:y∈v.Items:=by rw[hI];exact .head _
       have hi0:inR 0 ([y]:List SValue).length=true:=g6 (k:=0) (by simp);rw[if_neg (by simp),if_pos hi0];have hW:=hWI y hy x.Elem (hf y hy);unfold Rp at hW;simp only[Int.toNat_zero,List.getD_cons_zero];rw[hW];have hp:=hlenI y hy x.Elem;simp only[oZ3];rw[if_pos (g39 (by simp;omega))];have ep:vpays ts x.Elem [y]=[vpay ts x.Elem y]:=by rw[vpays,vpays]
       rw[ep];rfl
     | a::b::c,h=>simp at h
end
end
section
open Go Go.Proofs.YthnmepafpikaiaaGreat.Shv Go.Sort
set_option maxRecDepth 100000
theorem SaysP.says{α:Type}{o:Option Bool}{a b:α}(h:Says o a b) :SaysP o (a=b):=h
theorem and3S {o1 o2 o3 : Option Bool} {P1 P2 P3 : Prop} (h1 : SaysP o1 P1) (h2 : SaysP o2 P2) (h3 : SaysP o3 P3) :
   SaysP (o1 >>=fun r_6=>(if r_6=true then o2 else some false) >>=fun r_7=>some (bif r_6 then r_7 else false) >>=fun t53=>(if t53=true then o3 else some false) >>=fun r_8=>some (bif t53 then r_8 else false)) (P1∧P2∧P3):=by
 obtain⟨a,rfl,h1⟩:=h1;obtain⟨b,rfl,h2⟩:=h2;obtain⟨c,rfl,h3⟩:=h3;rw[←h1,←h2,←h3];cases a <;> cases b <;> cases c <;> exact⟨_,rfl,by simp⟩
theorem gid{o:Option Bool}{P:Prop}(h:SaysP o P) :SaysP (o >>=fun r=>some r) P:=by
 obtain⟨a,rfl,h⟩:=h;exact⟨a,rfl,h⟩
def gc5(union:Bool)(Ms:List SMember) :Prop:=(∀m,m∈Ms→badM union m=false)∧(union=false∨0 < Ms.length)∧MAsc Ms∧(∀m,m∈Ms→nm m.Name=true)∧(Ms.map (·.Name)).Nodup∧Ms.length≤16
def glw(S:List SSymbol) :Prop:=0 < S.length∧(S.Pairwise (fun a b=>a.ID < b.ID)∧∀y,y∈S→I1000 y.ID)∧(∀y,y∈S→nm y.Name=true)∧(S.map (·.Name)).Nodup∧S.length≤16
theorem gzf{l:List (List UInt8)} :l.Nodup↔∀i,i < l.length→(l.take i).contains (l.getD i [])=false:=by
 unfold List.Nodup;rw[List.pairwise_iff_getElem];constructor
 · intro h i hi;apply Bool.eq_false_iff.2;intro hc;obtain⟨k,hk,he⟩:=(g5j (by omega)).1 hc;rw[g15 (by omega),g15 hi]at he;exact h k i (by omega) hi hk he
 · intro h k i hk' hi hk he;have:=h i hi;rw[Bool.eq_false_iff]at this;apply this;refine(g5j (by omega)).2 ⟨k,hk,?_⟩;rw[g15 (by omega),g15 hi];exact he
theorem gx9{α:Type}(f:α→Int)(g:α→List UInt8)(d:α)(l:List α) :(∀i,i < l.length→idp (l.map f) (l.map g) i=true)↔(l.Pairwise (fun a b=>f a < f b)∧∀x,x∈l→I1000 (f x))∧(∀x,x∈l→nm (g x)=true)∧(l.map g).Nodup:=by
 rw[gm3 f d,gzf];have key:∀i,i < l.length→(idp (l.map f) (l.map g) i=true↔I1000 (f (l.getD i d))∧(i=0∨f (l.getD (i - 1) d) < f (l.getD i d))∧nm (g (l.getD i d))=true∧((l.map g).take i).contains ((l.map g).getD i [])=false):=by
   intro i hi;unfold idp I1000;rw[g2k f l i d 0 hi];have e2:i=0∨(l.map f).getD (i - 1) 0=f (l.getD (i - 1) d):=by
     by_cases h0:i=0
     · exact .inl h0
     · exact .inr (g2k f l (i - 1) d 0 (by omega))
   have e3:(l.map g).getD i []=g (l.getD i d):=g2k g l i d [] hi;rw[e3];simp only[Bool.and_eq_true,Bool.or_eq_true,decide_eq_true_eq,Bool.not_eq_true'];rcases e2 with rfl | e2
   · simp[and_assoc]
   · rw[e2];simp only[and_assoc]
 constructor
 · intro h;refine⟨⟨fun i hi=>?_,fun x hx=>?_⟩,fun x hx=>?_,fun i hi=>?_⟩
   · have:=((key (i+1) hi).1 (h _ hi)).2.1;rcases this with h | h
     · omega
     · exact h
   · obtain⟨i,hi,rfl⟩:=List.getElem_of_mem hx;have:=((key i hi).1 (h _ hi)).1;rw[g15 hi]at this;exact this
   · obtain⟨i,hi,rfl⟩:=List.getElem_of_mem hx;have:=((key i hi).1 (h _ hi)).2.2.1;rw[g15 hi]at this;exact this
   · have hi':i < l.length:=by simpa using hi
     exact((key i hi').1 (h _ hi')).2.2.2
 · rintro ⟨⟨h1,h2⟩,h3,h4⟩ i hi
   refine(key i hi).2 ⟨h2 _ (g8 hi d),?_,h3 _ (g8 hi d),h4 i (by simpa using hi)⟩;by_cases h0:i=0
   · exact .inl h0
   · right;have:=h1 (i - 1) (by omega);have e:i - 1+1=i:=by omega
     rw[e]at this;exact this
theorem grx{t:SType}(h:OkT t) :SaysP (g6h t) ((∀m,m∈t.Members→badM (decide (t.Kind=6)) m=false)∧(t.Kind=5∨0 < t.Members.length)∧MAsc t.Members∧(∀m,m∈t.Members→nm m.Name=true)∧(t.Members.map (·.Name)).Nodup∧t.Members.length≤16):=by
 obtain⟨r,h1,h2⟩:=gpo h;refine⟨r,h1,h2.trans ?_⟩;rw[gx9 (fun m:SMember=>m.ID) (fun m:SMember=>m.Name) dSMember];have e:(∀i,i < t.Members.length→badM (decide (t.Kind=6)) (t.Members.getD i dSMember)=false)↔∀m,m∈t.Members→badM (decide (t.Kind=6)) m=false:=by
   constructor
   · intro h m hm;obtain⟨i,hi,rfl⟩:=List.getElem_of_mem hm;have:=h i hi;rw[g15 hi]at this;exact this
   · intro h i hi;exact h _ (g8 hi dSMember)
 rw[e];unfold MAsc;simp only[and_assoc]
theorem g127{l:List SSymbol}(hl:l.length*24≤reachBytes) :SaysP (g7h l) (glw l):=by
 obtain⟨r,h1,h2⟩:=gx0 hl;refine⟨r,h1,h2.trans ?_⟩;rw[gx9 (fun m:SSymbol=>m.ID) (fun m:SSymbol=>m.Name) dSSymbol];unfold glw;simp only[and_assoc]
def FormP(t:SType) :Prop:=
 (t.Kind=1∧t.Name=[]∧t.Low=0∧t.High=0∧t.Max=0∧t.Symbols=[]∧t.Members=[]∧t.Key=0∧t.Elem=0∧t.Open=false)∨
 (t.Kind=2∧t.Name=[]∧t.Low≤t.High∧t.Max=0∧t.Symbols=[]∧t.Members=[]∧t.Key=0∧t.Elem=0∧t.Open=false)∨
 (t.Kind=3∧t.Name=[]∧t.Low=0∧t.High=0∧(0≤t.Max∧t.Max≤200)∧t.Symbols=[]∧t.Members=[]∧t.Key=0∧t.Elem=0∧t.Open=false)∨
 (t.Kind=4∧nm t.Name=true∧t.Low=0∧t.High=0∧t.Max=0∧glw t.Symbols∧t.Members=[]∧t.Key=0∧t.Elem=0)∨
 (t.Kind=5∧nm t.Name=true∧t.Low=0∧t.High=0∧t.Max=0∧t.Symbols=[]∧gc5 false t.Members∧t.Key=0∧t.Elem=0∧t.Open=false)∨
 (t.Kind=6∧nm t.Name=true∧t.Low=0∧t.High=0∧t.Max=0∧t.Symbols=[]∧gc5 true t.Members∧t.Key=0∧t.Elem=0)∨
 (t.Kind=7∧t.Name=[]∧t.Low=0∧t.High=0∧(0≤t.Max∧t.Max≤50)∧t.Symbols=[]∧t.Members=[]∧t.Key=0∧t.Open=false)∨
 (t.Kind=8∧t.Name=[]∧t.Low=0∧t.High=0∧(0≤t.Max∧t.Max≤50)∧t.Symbols=[]∧t.Members=[]∧t.Open=false)∨
 (t.Kind=9∧t.Name=[]∧t.Low=0∧t.High=0∧t.Max=0∧t.Symbols=[]∧t.Members=[]∧t.Key=0∧t.Open=false)
theorem g128{t:SType}(h:OkT t) :SaysP (g1m t) (FormP t):=by
 have hz:OkT (⟨0,[],0,0,0,[],[],0,0,false⟩:SType):=⟨by simp,by simp,by simp⟩
 obtain⟨Kd,N,L,H,M,S,Ms,K,E,O⟩:=t;have hS:=h.syms;have hMs:=h.mems;have hd:=h.dv;simp only at hS hMs hd;by_cases k1:Kd=1
 · subst k1;have a:=g59 (a:=(⟨0,N,L,H,M,S,Ms,K,E,O⟩:SType)) ⟨hS,hMs,hd⟩ (⟨0,[],0,0,0,[],[],0,0,false⟩:SType);refine(gid (SaysP.says a)).imp ?_;unfold FormP;simp
 by_cases k2:Kd=2
 · subst k2;have a:=g59 (a:=(⟨0,N,0,0,M,S,Ms,K,E,O⟩:SType)) ⟨hS,hMs,hd⟩ (⟨0,[],0,0,0,[],[],0,0,false⟩:SType);refine(and2S (q:=decide (L≤H)) (Q:=L≤H) (by simp) (SaysP.says a)).imp (Q:=FormP ⟨2,N,L,H,M,S,Ms,K,E,O⟩) ?_;unfold FormP;simp
   try grind
 by_cases k3:Kd=3
 · subst k3;have a:=g59 (a:=(⟨0,N,L,H,0,S,Ms,K,E,O⟩:SType)) ⟨hS,hMs,hd⟩ (⟨0,[],0,0,0,[],[],0,0,false⟩:SType);refine(and2S (q:=bif decide (0≤M)then decide (M≤200)else false) (Q:=0≤M∧M≤200) (by by_cases g:0≤M <;> simp[g]) (SaysP.says a)).imp (Q:=FormP ⟨3,N,L,H,M,S,Ms,K,E,O⟩) ?_;unfold FormP;simp
   try grind
 by_cases k4:Kd=4
 · subst k4;have a:=g59 (a:=(⟨0,[],L,H,M,[],Ms,K,E,false⟩:SType)) ⟨by simp,hMs,hd⟩ (⟨0,[],0,0,0,[],[],0,0,false⟩:SType);refine(and3S (⟨nm N,lexNm N,Iff.rfl⟩:SaysP (g3t N) (nm N=true)) (g127 hS) (SaysP.says a)).imp (Q:=FormP ⟨4,N,L,H,M,S,Ms,K,E,O⟩) ?_;unfold FormP;simp
   try grind
 by_cases k5:Kd=5
 · subst k5;have a:=g59 (a:=(⟨0,[],L,H,M,S,[],K,E,bif O then decide ((5:Int)=5)else false⟩:SType)) ⟨hS,by simp,by simp⟩ (⟨0,[],0,0,0,[],[],0,0,false⟩:SType);refine(and3S (⟨nm N,lexNm N,Iff.rfl⟩:SaysP (g3t N) (nm N=true)) (grx h) (SaysP.says a)).imp (Q:=FormP ⟨5,N,L,H,M,S,Ms,K,E,O⟩) ?_;unfold FormP gc5;cases O <;> simp
   grind
 by_cases k6:Kd=6
 · subst k6;have a:=g59 (a:=(⟨0,[],L,H,M,S,[],K,E,bif O then decide ((6:Int)=5)else false⟩:SType)) ⟨hS,by simp,by simp⟩ (⟨0,[],0,0,0,[],[],0,0,false⟩:SType);refine(and3S (⟨nm N,lexNm N,Iff.rfl⟩:SaysP (g3t N) (nm N=true)) (grx h) (SaysP.says a)).imp (Q:=FormP ⟨6,N,L,H,M,S,Ms,K,E,O⟩) ?_;unfold FormP gc5;cases O <;> simp <;> grind
 by_cases k7:Kd=7
 · subst k7;have a:=g59 (a:=(⟨0,N,L,H,0,S,Ms,K,0,O⟩:SType)) ⟨hS,hMs,hd⟩ (⟨0,[],0,0,0,[],[],0,0,false⟩:SType);refine(and2S (q:=bif decide (0≤M)then decide (M≤50)else false) (Q:=0≤M∧M≤50) (by by_cases g:0≤M <;> simp[g]) (SaysP.says a)).imp (Q:=FormP ⟨7,N,L,H,M,S,Ms,K,E,O⟩) ?_;unfold FormP;simp
   try grind
 by_cases k8:Kd=8
 · subst k8;have a:=g59 (a:=(⟨0,N,L,H,0,S,Ms,0,0,O⟩:SType)) ⟨hS,hMs,hd⟩ (⟨0,[],0,0,0,[],[],0,0,false⟩:SType);refine(and2S (q:=bif decide (0≤M)then decide (M≤50)else false) (Q:=0≤M∧M≤50) (by by_cases g:0≤M <;> simp[g]) (SaysP.says a)).imp (Q:=FormP ⟨8,N,L,H,M,S,Ms,K,E,O⟩) ?_;unfold FormP;simp
   try grind
 by_cases k9:Kd=9
 · subst k9;have a:=g59 (a:=(⟨0,N,L,H,M,S,Ms,K,0,O⟩:SType)) ⟨hS,hMs,hd⟩ (⟨0,[],0,0,0,[],[],0,0,false⟩:SType);refine(gid (SaysP.says a)).imp (Q:=FormP ⟨9,N,L,H,M,S,Ms,K,E,O⟩) ?_;unfold FormP;simp
 refine⟨false,by simp[g1m,k1,k2,k3,k4,k5,k6,k7,k8,k9],?_⟩;unfold FormP;simp[k1,k2,k3,k4,k5,k6,k7,k8,k9]
structure VOk (ts:List SType):Prop where
 n:ts.length≤32
 F:∀t,t∈ts→FormP t
 D:∀i,i < ts.length→(!(decide ((ts.getD i dSType).Name=[])) && ((ts.map (·.Name)).take i).contains (ts.getD i dSType).Name)=false
 U:∀t,t∈ts→∀u,u∈usesL t→0≤u∧u < ts.length
 Ky:∀t,t∈ts→t.Kind=8→1≤(ts.getD t.Key.toNat dSType).Kind∧(ts.getD t.Key.toNat dSType).Kind≤4
theorem gzg {ts : List SType} (hT : ∀ t, t ∈ ts → OkT t) {i : Nat} (hi : i < ts.length) : stepV ts i = none ↔ FormP (ts.getD i dSType) ∧ (!(decide ((ts.getD i dSType).Name = [])) && ((ts.map (·.Name)).take i).contains (ts.getD i dSType).Name) = false ∧ (∀ u, u ∈ usesL (ts.getD i dSType) → 0 ≤ u ∧ u < ts.length) ∧
   ((ts.getD i dSType).Kind=8→1≤(ts.getD (ts.getD i dSType).Key.toNat dSType).Kind∧(ts.getD (ts.getD i dSType).Key.toNat dSType).Kind≤4):=by
 obtain⟨r,f1,f2⟩:=g128 (hT _ (g8 hi dSType));rw[gjb rfl f1,←f2];have hu:(usesL (ts.getD i dSType)).any (outB ts.length)=false↔∀u,u∈usesL (ts.getD i dSType)→0≤u∧u < ts.length:=by
   rw[List.any_eq_false];constructor
   · intro h u hu;have:=h u hu;unfold outB at this;by_cases g:u < 0
     · simp[g]at this
     · simp[g]at this;omega
   · intro h u hu;have:=h u hu;unfold outB;have g:¬u < 0:=by omega
     simp[g];omega
 rw[←hu];generalize (usesL (ts.getD i dSType)).any (outB ts.length)=b;generalize (!(decide ((ts.getD i dSType).Name=[])) && ((ts.map (·.Name)).take i).contains (ts.getD i dSType).Name)=c
 have hk:(decide ((ts.getD i dSType).Kind=8) && !(keyB (ts.getD (ts.getD i dSType).Key.toNat dSType).Kind))=false↔((ts.getD i dSType).Kind=8→1≤(ts.getD (ts.getD i dSType).Key.toNat dSType).Kind∧(ts.getD (ts.getD i dSType).Key.toNat dSType).Kind≤4):=by
   unfold keyB;generalize (ts.getD (ts.getD i dSType).Key.toNat dSType).Kind=k;by_cases g:(ts.getD i dSType).Kind=8 <;> by_cases g1:1≤k <;> by_cases g2:k≤4 <;> simp[g,g1,g2]
 rw[←hk];generalize (decide ((ts.getD i dSType).Kind=8) && !(keyB (ts.getD (ts.getD i dSType).Key.toNat dSType).Kind))=d;cases r <;> cases b <;> cases c <;> cases d <;> simp
theorem gry{ts:List SType}(hT:∀t,t∈ts→OkT t)(h:VOk ts) :g8r (⟨ts⟩:SSchema)=some 0∧g53 (⟨ts⟩:SSchema)=some 0:=by
 obtain⟨e,h1,h2,_,h4⟩:=gpr (s:=⟨ts⟩) (by have:=h.n;unfold reachBytes;show ts.length≤_;omega) hT;have e0:e=0:=h4 ⟨h.n,fun i hi=>(gzg hT hi).2 ⟨h.F _ (g8 hi dSType),h.D i hi,h.U _ (g8 hi dSType),h.Ky _ (g8 hi dSType)⟩⟩;subst e0;exact⟨h1,h2⟩
theorem VOk.sok{ts:List SType}(hT:∀t,t∈ts→OkT t)(h:VOk ts) :SOk ts:=by
 refine⟨by have:=h.n;omega,hT,fun t ht=>?_,fun t ht m hm=>?_,fun t ht hk=>?_,fun t ht hk y hy=>?_,h.Ky⟩
 · have:=h.F t ht;unfold FormP at this;unfold ga5;omega
 · have:=h.F t ht;unfold FormP at this;have hne:t.Members≠[]:=by intro e;rw[e]at hm;cases hm
   have:gc5 false t.Members∨gc5 true t.Members:=by grind
   rcases this with a | a
   · exact(a.2.2.1.2 m hm).2
   · exact(a.2.2.1.2 m hm).2
 · have:=h.F t ht;unfold FormP at this;have:gc5 false t.Members∨gc5 true t.Members:=by grind
   rcases this with a | a
   · exact⟨a.2.2.1,a.2.2.2.2.2⟩
   · exact⟨a.2.2.1,a.2.2.2.2.2⟩
 · have:=h.F t ht;unfold FormP at this;have:glw t.Symbols:=by grind
   exact this.2.1.2 y hy
end
section
open Go Go.Proofs.YthnmepafpikaiaaGreat.Shv Go.Sort
set_option maxRecDepth 100000
def g17k(ts:List SType)(ms:List SMember) :Prop:=∀m,m∈ms→m.HasDefault=true→vfit ts true m.Type_ m.Default
end
section
open Go Go.Proofs.YthnmepafpikaiaaGreat.Shv Go.Sort
set_option maxRecDepth 100000
theorem okOne{t:Ty}{x:t.den Un.D}(h:Ok Un [t] x) :∀d,d∈t.row Un x→WF Un d:=fun d hd=>h ⟨t,x⟩ (List.mem_cons_self ..) d hd
theorem gxa {ts : List SType} (H : SOk ts) {v : SValue} (hv : OkV v) (hw : wt v ≤ 1099511627776) {t : Int} (hf : vfit ts false t v) :
   g1d (t,v,1,ts,0)=some (vpay ts t v,ts,((vlev ts t v:Nat):Int))∧g1b ((⟨ts⟩:SSchema),t,v)=some (vpay ts t v)∧g2c ((⟨ts⟩:SSchema),t,v)=some ((vlev ts t v:Nat):Int):=by
 refine⟨?_,gx8 H hv hw t hf,g14s H hv hw t hf⟩;have h:=g14r H hv hw t hf 1 0 (by omega) (by omega);have hp:=gb8 (ts:=ts) t v;have e:max 0 (1+vlev ts t v - 1)=vlev ts t v:=by
   generalize vlev ts t v=n;omega
 rw[e]at h;exact h
noncomputable def encA (ts:List SType) (t:Int) (v:SValue):List UInt8 × Int:=
 if 4096 < (vpay ts t v).length∨200 < vlev ts t v then([],3)else(vpay ts t v,0)
theorem g129 {s : SSchema} (H : SOk s.Types) {v : SValue} (hv : OkV v) (hw : wt v ≤ 1099511627776) {t : Int} (hf : vfit s.Types false t v) (hc : g4e (s, t, v) = some 0) (hr : g54 (s, t, v) = some 0) :
   g9i (s,t,v)=some (encA s.Types t v)∧g6s (s,t,v)=some (encA s.Types t v)∧gau (s,t,v)=some (((vpay s.Types t v).length:Int),0)∧gfn (s,t,v)=some (((vpay s.Types t v).length:Int),0):=by
 obtain⟨h1,h2,h3⟩:=gxa H hv hw hf;have h2':g1b (s,t,v)=some (vpay s.Types t v):=h2;have h3':g2c (s,t,v)=_:=h3;have hc':g4e ((⟨s.Types⟩:SSchema),t,v)=some 0:=hc;refine⟨?_,?_,?_,?_⟩
 · rw[g9i];simp only[SValue.gr];rw[hc',h1];simp only[oZ4,oZ3];rw[if_neg (by simp)];unfold encA;generalize vpay s.Types t v=p;generalize vlev s.Types t v=l;by_cases g:4096 < p.length
   · rw [if_pos (by have : (4096 : Int) < p.length := by omega
                    simp[this]),if_pos (.inl g)]
   · by_cases g2:200 < l
     · rw [if_pos (by have : ¬ (4096 : Int) < p.length := by omega
                      have h2:(200:Int) < l:=by omega
                      simp[this,h2]),if_pos (.inr g2)]
     · rw [if_neg (by have : ¬ (4096 : Int) < p.length := by omega
                      have h2:¬(200:Int) < l:=by omega
                      simp[this,h2]),if_neg (by omega)]
 · rw[g6s];simp only[SValue.gr];rw[hr];simp only[oZ4,oZ3];rw[if_neg (by simp),h2'];simp only[oZ3];rw[h3'];unfold encA;generalize vpay s.Types t v=p;generalize vlev s.Types t v=l;by_cases g:4096 < p.length
   · have:decide ((4096:Int) < p.length)=true:=by simp;omega
     rw[this,if_neg (by simp)];simp only[oZ3,cond_true];rw[if_pos trivial,if_pos (.inl g)]
   · have:decide ((4096:Int) < p.length)=false:=by simp;omega
     rw[this,if_pos (by simp)];simp only[oZ3,cond_false];by_cases g2:200 < l
     · rw[if_pos (by simp;omega),if_pos (.inr g2)]
     · rw[if_neg (by simp;omega),if_neg (by omega)]
 · rw[gau];simp only[SValue.gr];rw[hc,h1];rfl
 · rw[gfn];simp only[SValue.gr];rw[hr,h2'];rfl
end
end Go.Proofs.YthnmepafpikaiaaGreat
